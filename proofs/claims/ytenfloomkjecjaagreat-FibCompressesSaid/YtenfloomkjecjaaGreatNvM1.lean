/- The walks: each function computes its mirror. -/
import Derived.Test.YtenfloomkjecjaaGreatProg
import Derived.Test.YtenfloomkjecjaaGreatNvD1
import Derived.Test.YtenfloomkjecjaaGreatNvLibC
import Derived.KernelRfl
import Derived.Ground.SlsfProg
import Derived.Shelf.Lay
import Derived.Test.YtenfloomkjecjaaGreatNvLibB
import Derived.Test.YtenfloomkjecjaaGreatNvLibD
import Derived.Test.YtenfloomkjecjaaGreatNvM1a
set_option maxRecDepth 100000
namespace Nv
open Go Go.Proofs
theorem topo_copyRouter_ok (a0 : TRouter) (r : TRouter) (h : M.topo_copyRouter a0 = some r) : Fn Tryz.prog 104 [.agg (c_TRouter a0)] (.pure (.agg (c_TRouter r))) := by
 unfold M.topo_copyRouter at h
 refine fn_pure Tryz.func104 rfl (by kernel_rfl) ?_
 refine awp_seq (rg0 [1, 2] 2 ⟨136, [(1, .ref 0 0), (2, .ref 1 0)], [.box (c_TRouter a0), .box [.str (⟨#[]⟩ : ByteArray), .int .i64 0, .sl true 12 0 (fun _ => []), .sl true 2 0 (fun _ => []), .sl true 2 0 (fun _ => []), .sl true 2 0 (fun _ => []), .sl true 9 0 (fun _ => []), .sl true 7 0 (fun _ => []), .bool false, .int .i64 0, .sl true 3 0 (fun _ => []), .sl true 5 0 (fun _ => []), .bool false, .int .i64 0, .str (⟨#[]⟩ : ByteArray), .str (⟨#[]⟩ : ByteArray), .sl true 5 0 (fun _ => []), .bool false, .int .i64 0, .int .i64 0, .sl true 4 0 (fun _ => []), .sl true 2 0 (fun _ => []), .sl true 3 0 (fun _ => []), .sl true 5 0 (fun _ => []), .sl true 5 0 (fun _ => [])]]⟩ ?_)
 refine then_n (awp_seq ?_)
 obtain ⟨r1, q1, h2⟩ := bind_some h
 refine rg [oL 12 c_TInterface r1] [1, 2] 3 ⟨136, [(1, .ref 0 0), (2, .ref 1 0)], [.box [.str a0.fName, .int .i64 a0.fAS, .asl 2 0 r1.length, sL 2 c_TPrefixList a0.fLists, sL 2 c_TRouteMap a0.fMaps, sL 2 c_TACL a0.fACLs, sL 9 c_TTranslation a0.fNAT, sL 7 c_TStaticRoute a0.fStatics, .bool a0.fLS.fOn, .int .i64 a0.fLS.fAdmin, sL 3 c_TAreaRange a0.fLS.fRanges, sL 5 c_TRedist a0.fLS.fRedist, .bool a0.fDV.fOn, .int .i64 a0.fDV.fAdmin, .str a0.fDV.fIn, .str a0.fDV.fOut, sL 5 c_TRedist a0.fDV.fRedist, .bool a0.fPV.fOn, .int .i64 a0.fPV.fExternal, .int .i64 a0.fPV.fInternal, sL 4 c_TNeighbor a0.fPV.fNeighbors, sL 2 c_TPrefix a0.fPV.fNetworks, sL 3 c_TAggregate a0.fPV.fAggregates, sL 5 c_TCondition a0.fPV.fConditions, sL 5 c_TRedist a0.fPV.fRedist], .box [.str (⟨#[]⟩ : ByteArray), .int .i64 0, .sl true 12 0 (fun _ => []), .sl true 2 0 (fun _ => []), .sl true 2 0 (fun _ => []), .sl true 2 0 (fun _ => []), .sl true 9 0 (fun _ => []), .sl true 7 0 (fun _ => []), .bool false, .int .i64 0, .sl true 3 0 (fun _ => []), .sl true 5 0 (fun _ => []), .bool false, .int .i64 0, .str (⟨#[]⟩ : ByteArray), .str (⟨#[]⟩ : ByteArray), .sl true 5 0 (fun _ => []), .bool false, .int .i64 0, .int .i64 0, .sl true 4 0 (fun _ => []), .sl true 2 0 (fun _ => []), .sl true 3 0 (fun _ => []), .sl true 5 0 (fun _ => []), .sl true 5 0 (fun _ => [])], aL 12 c_TInterface r1]⟩ [] [⟨true, 127, [sL 12 c_TInterface a0.fInterfaces], oL 12 c_TInterface r1⟩] nil_all ⟨fun _ => slices_Clone_api_Interface_api_Interface_own a0.fInterfaces r1 q1, trivial⟩ ?_
 refine then_n (awp_seq ?_)
 obtain ⟨r2, q3, h4⟩ := bind_some h2
 refine rg [oL 2 c_TPrefixList r2] [1, 2] 4 ⟨136, [(1, .ref 0 0), (2, .ref 1 0)], [.box [.str a0.fName, .int .i64 a0.fAS, .asl 2 0 r1.length, .asl 3 0 r2.length, sL 2 c_TRouteMap a0.fMaps, sL 2 c_TACL a0.fACLs, sL 9 c_TTranslation a0.fNAT, sL 7 c_TStaticRoute a0.fStatics, .bool a0.fLS.fOn, .int .i64 a0.fLS.fAdmin, sL 3 c_TAreaRange a0.fLS.fRanges, sL 5 c_TRedist a0.fLS.fRedist, .bool a0.fDV.fOn, .int .i64 a0.fDV.fAdmin, .str a0.fDV.fIn, .str a0.fDV.fOut, sL 5 c_TRedist a0.fDV.fRedist, .bool a0.fPV.fOn, .int .i64 a0.fPV.fExternal, .int .i64 a0.fPV.fInternal, sL 4 c_TNeighbor a0.fPV.fNeighbors, sL 2 c_TPrefix a0.fPV.fNetworks, sL 3 c_TAggregate a0.fPV.fAggregates, sL 5 c_TCondition a0.fPV.fConditions, sL 5 c_TRedist a0.fPV.fRedist], .box [.str (⟨#[]⟩ : ByteArray), .int .i64 0, .sl true 12 0 (fun _ => []), .sl true 2 0 (fun _ => []), .sl true 2 0 (fun _ => []), .sl true 2 0 (fun _ => []), .sl true 9 0 (fun _ => []), .sl true 7 0 (fun _ => []), .bool false, .int .i64 0, .sl true 3 0 (fun _ => []), .sl true 5 0 (fun _ => []), .bool false, .int .i64 0, .str (⟨#[]⟩ : ByteArray), .str (⟨#[]⟩ : ByteArray), .sl true 5 0 (fun _ => []), .bool false, .int .i64 0, .int .i64 0, .sl true 4 0 (fun _ => []), .sl true 2 0 (fun _ => []), .sl true 3 0 (fun _ => []), .sl true 5 0 (fun _ => []), .sl true 5 0 (fun _ => [])], aL 12 c_TInterface r1, aL 2 c_TPrefixList r2]⟩ [] [⟨true, 128, [sL 2 c_TPrefixList a0.fLists], oL 2 c_TPrefixList r2⟩] nil_all ⟨fun _ => slices_Clone_api_PrefixList_api_PrefixList_own a0.fLists r2 q3, trivial⟩ ?_
 refine then_n (awp_seq (awp_seq (rg0 [1, 2, 16, 17] 4 ⟨136, [(1, .ref 0 0), (2, .ref 1 0), (16, .int .i64 (r2.length : Int)), (17, .int .i64 0)], [.box [.str a0.fName, .int .i64 a0.fAS, .asl 2 0 r1.length, .asl 3 0 r2.length, sL 2 c_TRouteMap a0.fMaps, sL 2 c_TACL a0.fACLs, sL 9 c_TTranslation a0.fNAT, sL 7 c_TStaticRoute a0.fStatics, .bool a0.fLS.fOn, .int .i64 a0.fLS.fAdmin, sL 3 c_TAreaRange a0.fLS.fRanges, sL 5 c_TRedist a0.fLS.fRedist, .bool a0.fDV.fOn, .int .i64 a0.fDV.fAdmin, .str a0.fDV.fIn, .str a0.fDV.fOut, sL 5 c_TRedist a0.fDV.fRedist, .bool a0.fPV.fOn, .int .i64 a0.fPV.fExternal, .int .i64 a0.fPV.fInternal, sL 4 c_TNeighbor a0.fPV.fNeighbors, sL 2 c_TPrefix a0.fPV.fNetworks, sL 3 c_TAggregate a0.fPV.fAggregates, sL 5 c_TCondition a0.fPV.fConditions, sL 5 c_TRedist a0.fPV.fRedist], .box [.str (⟨#[]⟩ : ByteArray), .int .i64 0, .sl true 12 0 (fun _ => []), .sl true 2 0 (fun _ => []), .sl true 2 0 (fun _ => []), .sl true 2 0 (fun _ => []), .sl true 9 0 (fun _ => []), .sl true 7 0 (fun _ => []), .bool false, .int .i64 0, .sl true 3 0 (fun _ => []), .sl true 5 0 (fun _ => []), .bool false, .int .i64 0, .str (⟨#[]⟩ : ByteArray), .str (⟨#[]⟩ : ByteArray), .sl true 5 0 (fun _ => []), .bool false, .int .i64 0, .int .i64 0, .sl true 4 0 (fun _ => []), .sl true 2 0 (fun _ => []), .sl true 3 0 (fun _ => []), .sl true 5 0 (fun _ => []), .sl true 5 0 (fun _ => [])], aL 12 c_TInterface r1, aL 2 c_TPrefixList r2]⟩ ?_)))
 refine then_n (awp_block ?_)
 obtain ⟨y5, q9, h10⟩ := bind_some h4
 refine awp_le (s' := ⟨136, [(1, .ref 0 0), (2, .ref 1 0), (16, .int .i64 (r2.length : Int)), (17, .int .i64 0)], [.box [.str a0.fName, .int .i64 a0.fAS, .asl 2 0 r1.length, .asl 3 0 r2.length, sL 2 c_TRouteMap a0.fMaps, sL 2 c_TACL a0.fACLs, sL 9 c_TTranslation a0.fNAT, sL 7 c_TStaticRoute a0.fStatics, .bool a0.fLS.fOn, .int .i64 a0.fLS.fAdmin, sL 3 c_TAreaRange a0.fLS.fRanges, sL 5 c_TRedist a0.fLS.fRedist, .bool a0.fDV.fOn, .int .i64 a0.fDV.fAdmin, .str a0.fDV.fIn, .str a0.fDV.fOut, sL 5 c_TRedist a0.fDV.fRedist, .bool a0.fPV.fOn, .int .i64 a0.fPV.fExternal, .int .i64 a0.fPV.fInternal, sL 4 c_TNeighbor a0.fPV.fNeighbors, sL 2 c_TPrefix a0.fPV.fNetworks, sL 3 c_TAggregate a0.fPV.fAggregates, sL 5 c_TCondition a0.fPV.fConditions, sL 5 c_TRedist a0.fPV.fRedist], .box [.str (⟨#[]⟩ : ByteArray), .int .i64 0, .sl true 12 0 (fun _ => []), .sl true 2 0 (fun _ => []), .sl true 2 0 (fun _ => []), .sl true 2 0 (fun _ => []), .sl true 9 0 (fun _ => []), .sl true 7 0 (fun _ => []), .bool false, .int .i64 0, .sl true 3 0 (fun _ => []), .sl true 5 0 (fun _ => []), .bool false, .int .i64 0, .str (⟨#[]⟩ : ByteArray), .str (⟨#[]⟩ : ByteArray), .sl true 5 0 (fun _ => []), .bool false, .int .i64 0, .int .i64 0, .sl true 4 0 (fun _ => []), .sl true 2 0 (fun _ => []), .sl true 3 0 (fun _ => []), .sl true 5 0 (fun _ => []), .sl true 5 0 (fun _ => [])], aL 12 c_TInterface r1, aL 2 c_TPrefixList r2]⟩) (le_rfl) ?_
 refine awp_mono (awp_loop (f := M.topo_copyRouter_l1 r2) (S := fun (p3 : Int) => ⟨136, [(1, .ref 0 0), (2, .ref 1 0), (16, .int .i64 (r2.length : Int)), (17, .int .i64 p3)], [.box [.str a0.fName, .int .i64 a0.fAS, .asl 2 0 r1.length, .asl 3 0 r2.length, sL 2 c_TRouteMap a0.fMaps, sL 2 c_TACL a0.fACLs, sL 9 c_TTranslation a0.fNAT, sL 7 c_TStaticRoute a0.fStatics, .bool a0.fLS.fOn, .int .i64 a0.fLS.fAdmin, sL 3 c_TAreaRange a0.fLS.fRanges, sL 5 c_TRedist a0.fLS.fRedist, .bool a0.fDV.fOn, .int .i64 a0.fDV.fAdmin, .str a0.fDV.fIn, .str a0.fDV.fOut, sL 5 c_TRedist a0.fDV.fRedist, .bool a0.fPV.fOn, .int .i64 a0.fPV.fExternal, .int .i64 a0.fPV.fInternal, sL 4 c_TNeighbor a0.fPV.fNeighbors, sL 2 c_TPrefix a0.fPV.fNetworks, sL 3 c_TAggregate a0.fPV.fAggregates, sL 5 c_TCondition a0.fPV.fConditions, sL 5 c_TRedist a0.fPV.fRedist], .box [.str (⟨#[]⟩ : ByteArray), .int .i64 0, .sl true 12 0 (fun _ => []), .sl true 2 0 (fun _ => []), .sl true 2 0 (fun _ => []), .sl true 2 0 (fun _ => []), .sl true 9 0 (fun _ => []), .sl true 7 0 (fun _ => []), .bool false, .int .i64 0, .sl true 3 0 (fun _ => []), .sl true 5 0 (fun _ => []), .bool false, .int .i64 0, .str (⟨#[]⟩ : ByteArray), .str (⟨#[]⟩ : ByteArray), .sl true 5 0 (fun _ => []), .bool false, .int .i64 0, .int .i64 0, .sl true 4 0 (fun _ => []), .sl true 2 0 (fun _ => []), .sl true 3 0 (fun _ => []), .sl true 5 0 (fun _ => []), .sl true 5 0 (fun _ => [])], aL 12 c_TInterface r1, aL 2 c_TPrefixList r2]⟩) (O := (fun z => OutE 0 (fun z => ⟨136, [(1, .ref 0 0), (2, .ref 1 0)], [.box [.str a0.fName, .int .i64 a0.fAS, .asl 2 0 r1.length, .asl 3 0 r2.length, sL 2 c_TRouteMap a0.fMaps, sL 2 c_TACL a0.fACLs, sL 9 c_TTranslation a0.fNAT, sL 7 c_TStaticRoute a0.fStatics, .bool a0.fLS.fOn, .int .i64 a0.fLS.fAdmin, sL 3 c_TAreaRange a0.fLS.fRanges, sL 5 c_TRedist a0.fLS.fRedist, .bool a0.fDV.fOn, .int .i64 a0.fDV.fAdmin, .str a0.fDV.fIn, .str a0.fDV.fOut, sL 5 c_TRedist a0.fDV.fRedist, .bool a0.fPV.fOn, .int .i64 a0.fPV.fExternal, .int .i64 a0.fPV.fInternal, sL 4 c_TNeighbor a0.fPV.fNeighbors, sL 2 c_TPrefix a0.fPV.fNetworks, sL 3 c_TAggregate a0.fPV.fAggregates, sL 5 c_TCondition a0.fPV.fConditions, sL 5 c_TRedist a0.fPV.fRedist], .box [.str (⟨#[]⟩ : ByteArray), .int .i64 0, .sl true 12 0 (fun _ => []), .sl true 2 0 (fun _ => []), .sl true 2 0 (fun _ => []), .sl true 2 0 (fun _ => []), .sl true 9 0 (fun _ => []), .sl true 7 0 (fun _ => []), .bool false, .int .i64 0, .sl true 3 0 (fun _ => []), .sl true 5 0 (fun _ => []), .bool false, .int .i64 0, .str (⟨#[]⟩ : ByteArray), .str (⟨#[]⟩ : ByteArray), .sl true 5 0 (fun _ => []), .bool false, .int .i64 0, .int .i64 0, .sl true 4 0 (fun _ => []), .sl true 2 0 (fun _ => []), .sl true 3 0 (fun _ => []), .sl true 5 0 (fun _ => []), .sl true 5 0 (fun _ => [])], aL 12 c_TInterface r1, aL 2 c_TPrefixList r2]⟩) z)) ?_ (x := 0) (y := y5) (loopM_iter q9)) ?_
 intro p3 y4 h5
 unfold M.topo_copyRouter_l1 at h5
 refine awp_seq (rg0 [1, 2, 16, 17, 18] 4 ⟨136, [(1, .ref 0 0), (2, .ref 1 0), (16, .int .i64 (r2.length : Int)), (17, .int .i64 p3), (18, .bool (decide (p3 < (r2.length : Int))))], [.box [.str a0.fName, .int .i64 a0.fAS, .asl 2 0 r1.length, .asl 3 0 r2.length, sL 2 c_TRouteMap a0.fMaps, sL 2 c_TACL a0.fACLs, sL 9 c_TTranslation a0.fNAT, sL 7 c_TStaticRoute a0.fStatics, .bool a0.fLS.fOn, .int .i64 a0.fLS.fAdmin, sL 3 c_TAreaRange a0.fLS.fRanges, sL 5 c_TRedist a0.fLS.fRedist, .bool a0.fDV.fOn, .int .i64 a0.fDV.fAdmin, .str a0.fDV.fIn, .str a0.fDV.fOut, sL 5 c_TRedist a0.fDV.fRedist, .bool a0.fPV.fOn, .int .i64 a0.fPV.fExternal, .int .i64 a0.fPV.fInternal, sL 4 c_TNeighbor a0.fPV.fNeighbors, sL 2 c_TPrefix a0.fPV.fNetworks, sL 3 c_TAggregate a0.fPV.fAggregates, sL 5 c_TCondition a0.fPV.fConditions, sL 5 c_TRedist a0.fPV.fRedist], .box [.str (⟨#[]⟩ : ByteArray), .int .i64 0, .sl true 12 0 (fun _ => []), .sl true 2 0 (fun _ => []), .sl true 2 0 (fun _ => []), .sl true 2 0 (fun _ => []), .sl true 9 0 (fun _ => []), .sl true 7 0 (fun _ => []), .bool false, .int .i64 0, .sl true 3 0 (fun _ => []), .sl true 5 0 (fun _ => []), .bool false, .int .i64 0, .str (⟨#[]⟩ : ByteArray), .str (⟨#[]⟩ : ByteArray), .sl true 5 0 (fun _ => []), .bool false, .int .i64 0, .int .i64 0, .sl true 4 0 (fun _ => []), .sl true 2 0 (fun _ => []), .sl true 3 0 (fun _ => []), .sl true 5 0 (fun _ => []), .sl true 5 0 (fun _ => [])], aL 12 c_TInterface r1, aL 2 c_TPrefixList r2]⟩ ?_)
 refine then_n (awp_seq ?_)
 refine cnd (decide (p3 < (r2.length : Int))) (fun b6 => ?_) (fun b6 => ?_)
 have h7 := cond_t b6 h5
 refine awp_skip (then_n (awp_seq (awp_block (awp_seq ?_))))
 cases h7
 have h8 := cond_f b6 h5
 refine awp_exit (then_e ?_)
 obtain rfl := Option.some.inj h8
 exact round_e ⟨rfl, kp [1, 2]⟩
 intro e11 s12 o13
 obtain ⟨rfl, l14⟩ := o13
 refine inb_here ?_
 refine then_le (s' := ⟨136, [(1, .ref 0 0), (2, .ref 1 0)], [.box [.str a0.fName, .int .i64 a0.fAS, .asl 2 0 r1.length, .asl 3 0 r2.length, sL 2 c_TRouteMap a0.fMaps, sL 2 c_TACL a0.fACLs, sL 9 c_TTranslation a0.fNAT, sL 7 c_TStaticRoute a0.fStatics, .bool a0.fLS.fOn, .int .i64 a0.fLS.fAdmin, sL 3 c_TAreaRange a0.fLS.fRanges, sL 5 c_TRedist a0.fLS.fRedist, .bool a0.fDV.fOn, .int .i64 a0.fDV.fAdmin, .str a0.fDV.fIn, .str a0.fDV.fOut, sL 5 c_TRedist a0.fDV.fRedist, .bool a0.fPV.fOn, .int .i64 a0.fPV.fExternal, .int .i64 a0.fPV.fInternal, sL 4 c_TNeighbor a0.fPV.fNeighbors, sL 2 c_TPrefix a0.fPV.fNetworks, sL 3 c_TAggregate a0.fPV.fAggregates, sL 5 c_TCondition a0.fPV.fConditions, sL 5 c_TRedist a0.fPV.fRedist], .box [.str (⟨#[]⟩ : ByteArray), .int .i64 0, .sl true 12 0 (fun _ => []), .sl true 2 0 (fun _ => []), .sl true 2 0 (fun _ => []), .sl true 2 0 (fun _ => []), .sl true 9 0 (fun _ => []), .sl true 7 0 (fun _ => []), .bool false, .int .i64 0, .sl true 3 0 (fun _ => []), .sl true 5 0 (fun _ => []), .bool false, .int .i64 0, .str (⟨#[]⟩ : ByteArray), .str (⟨#[]⟩ : ByteArray), .sl true 5 0 (fun _ => []), .bool false, .int .i64 0, .int .i64 0, .sl true 4 0 (fun _ => []), .sl true 2 0 (fun _ => []), .sl true 3 0 (fun _ => []), .sl true 5 0 (fun _ => []), .sl true 5 0 (fun _ => [])], aL 12 c_TInterface r1, aL 2 c_TPrefixList r2]⟩) (l14) ?_
 refine awp_seq ?_
 refine awp_le (s' := ⟨136, [(1, .ref 0 0), (2, .ref 1 0)], [.box [.str a0.fName, .int .i64 a0.fAS, .sl false 12 r1.length (fun k => (fun i => c_TInterface (r1.getD i default)) (0 + k)), .sl false 2 r2.length (fun k => (fun i => c_TPrefixList (r2.getD i default)) (0 + k)), sL 2 c_TRouteMap a0.fMaps, sL 2 c_TACL a0.fACLs, sL 9 c_TTranslation a0.fNAT, sL 7 c_TStaticRoute a0.fStatics, .bool a0.fLS.fOn, .int .i64 a0.fLS.fAdmin, sL 3 c_TAreaRange a0.fLS.fRanges, sL 5 c_TRedist a0.fLS.fRedist, .bool a0.fDV.fOn, .int .i64 a0.fDV.fAdmin, .str a0.fDV.fIn, .str a0.fDV.fOut, sL 5 c_TRedist a0.fDV.fRedist, .bool a0.fPV.fOn, .int .i64 a0.fPV.fExternal, .int .i64 a0.fPV.fInternal, sL 4 c_TNeighbor a0.fPV.fNeighbors, sL 2 c_TPrefix a0.fPV.fNetworks, sL 3 c_TAggregate a0.fPV.fAggregates, sL 5 c_TCondition a0.fPV.fConditions, sL 5 c_TRedist a0.fPV.fRedist], .box [.str (⟨#[]⟩ : ByteArray), .int .i64 0, .sl true 12 0 (fun _ => []), .sl true 2 0 (fun _ => []), .sl true 2 0 (fun _ => []), .sl true 2 0 (fun _ => []), .sl true 9 0 (fun _ => []), .sl true 7 0 (fun _ => []), .bool false, .int .i64 0, .sl true 3 0 (fun _ => []), .sl true 5 0 (fun _ => []), .bool false, .int .i64 0, .str (⟨#[]⟩ : ByteArray), .str (⟨#[]⟩ : ByteArray), .sl true 5 0 (fun _ => []), .bool false, .int .i64 0, .int .i64 0, .sl true 4 0 (fun _ => []), .sl true 2 0 (fun _ => []), .sl true 3 0 (fun _ => []), .sl true 5 0 (fun _ => []), .sl true 5 0 (fun _ => [])], aL 12 c_TInterface ([] : List TInterface), aL 2 c_TPrefixList ([] : List TPrefixList)]⟩) (Le.trans ((Le.trans (le_frb (s := ⟨136, [(1, .ref 0 0), (2, .ref 1 0)], [.box [.str a0.fName, .int .i64 a0.fAS, .asl 2 0 r1.length, .asl 3 0 r2.length, sL 2 c_TRouteMap a0.fMaps, sL 2 c_TACL a0.fACLs, sL 9 c_TTranslation a0.fNAT, sL 7 c_TStaticRoute a0.fStatics, .bool a0.fLS.fOn, .int .i64 a0.fLS.fAdmin, sL 3 c_TAreaRange a0.fLS.fRanges, sL 5 c_TRedist a0.fLS.fRedist, .bool a0.fDV.fOn, .int .i64 a0.fDV.fAdmin, .str a0.fDV.fIn, .str a0.fDV.fOut, sL 5 c_TRedist a0.fDV.fRedist, .bool a0.fPV.fOn, .int .i64 a0.fPV.fExternal, .int .i64 a0.fPV.fInternal, sL 4 c_TNeighbor a0.fPV.fNeighbors, sL 2 c_TPrefix a0.fPV.fNetworks, sL 3 c_TAggregate a0.fPV.fAggregates, sL 5 c_TCondition a0.fPV.fConditions, sL 5 c_TRedist a0.fPV.fRedist], .box [.str (⟨#[]⟩ : ByteArray), .int .i64 0, .sl true 12 0 (fun _ => []), .sl true 2 0 (fun _ => []), .sl true 2 0 (fun _ => []), .sl true 2 0 (fun _ => []), .sl true 9 0 (fun _ => []), .sl true 7 0 (fun _ => []), .bool false, .int .i64 0, .sl true 3 0 (fun _ => []), .sl true 5 0 (fun _ => []), .bool false, .int .i64 0, .str (⟨#[]⟩ : ByteArray), .str (⟨#[]⟩ : ByteArray), .sl true 5 0 (fun _ => []), .bool false, .int .i64 0, .int .i64 0, .sl true 4 0 (fun _ => []), .sl true 2 0 (fun _ => []), .sl true 3 0 (fun _ => []), .sl true 5 0 (fun _ => []), .sl true 5 0 (fun _ => [])], aL 12 c_TInterface r1, aL 2 c_TPrefixList r2]⟩) (s' := ⟨136, [(1, .ref 0 0), (2, .ref 1 0)], [.box [.str a0.fName, .int .i64 a0.fAS, .sl false 12 r1.length (fun k => (fun i => c_TInterface (r1.getD i default)) (0 + k)), .asl 3 0 r2.length, sL 2 c_TRouteMap a0.fMaps, sL 2 c_TACL a0.fACLs, sL 9 c_TTranslation a0.fNAT, sL 7 c_TStaticRoute a0.fStatics, .bool a0.fLS.fOn, .int .i64 a0.fLS.fAdmin, sL 3 c_TAreaRange a0.fLS.fRanges, sL 5 c_TRedist a0.fLS.fRedist, .bool a0.fDV.fOn, .int .i64 a0.fDV.fAdmin, .str a0.fDV.fIn, .str a0.fDV.fOut, sL 5 c_TRedist a0.fDV.fRedist, .bool a0.fPV.fOn, .int .i64 a0.fPV.fExternal, .int .i64 a0.fPV.fInternal, sL 4 c_TNeighbor a0.fPV.fNeighbors, sL 2 c_TPrefix a0.fPV.fNetworks, sL 3 c_TAggregate a0.fPV.fAggregates, sL 5 c_TCondition a0.fPV.fConditions, sL 5 c_TRedist a0.fPV.fRedist], .box [.str (⟨#[]⟩ : ByteArray), .int .i64 0, .sl true 12 0 (fun _ => []), .sl true 2 0 (fun _ => []), .sl true 2 0 (fun _ => []), .sl true 2 0 (fun _ => []), .sl true 9 0 (fun _ => []), .sl true 7 0 (fun _ => []), .bool false, .int .i64 0, .sl true 3 0 (fun _ => []), .sl true 5 0 (fun _ => []), .bool false, .int .i64 0, .str (⟨#[]⟩ : ByteArray), .str (⟨#[]⟩ : ByteArray), .sl true 5 0 (fun _ => []), .bool false, .int .i64 0, .int .i64 0, .sl true 4 0 (fun _ => []), .sl true 2 0 (fun _ => []), .sl true 3 0 (fun _ => []), .sl true 5 0 (fun _ => []), .sl true 5 0 (fun _ => [])], aL 12 c_TInterface ([] : List TInterface), aL 2 c_TPrefixList r2]⟩) 2 12 r1.length (fun i => c_TInterface (r1.getD i default)) (fun i => c_TInterface (([] : List TInterface).getD i default)) (by kernel_rfl) (by kernel_rfl) (by kernel_rfl)) (le_frb (s := ⟨136, [(1, .ref 0 0), (2, .ref 1 0)], [.box [.str a0.fName, .int .i64 a0.fAS, .sl false 12 r1.length (fun k => (fun i => c_TInterface (r1.getD i default)) (0 + k)), .asl 3 0 r2.length, sL 2 c_TRouteMap a0.fMaps, sL 2 c_TACL a0.fACLs, sL 9 c_TTranslation a0.fNAT, sL 7 c_TStaticRoute a0.fStatics, .bool a0.fLS.fOn, .int .i64 a0.fLS.fAdmin, sL 3 c_TAreaRange a0.fLS.fRanges, sL 5 c_TRedist a0.fLS.fRedist, .bool a0.fDV.fOn, .int .i64 a0.fDV.fAdmin, .str a0.fDV.fIn, .str a0.fDV.fOut, sL 5 c_TRedist a0.fDV.fRedist, .bool a0.fPV.fOn, .int .i64 a0.fPV.fExternal, .int .i64 a0.fPV.fInternal, sL 4 c_TNeighbor a0.fPV.fNeighbors, sL 2 c_TPrefix a0.fPV.fNetworks, sL 3 c_TAggregate a0.fPV.fAggregates, sL 5 c_TCondition a0.fPV.fConditions, sL 5 c_TRedist a0.fPV.fRedist], .box [.str (⟨#[]⟩ : ByteArray), .int .i64 0, .sl true 12 0 (fun _ => []), .sl true 2 0 (fun _ => []), .sl true 2 0 (fun _ => []), .sl true 2 0 (fun _ => []), .sl true 9 0 (fun _ => []), .sl true 7 0 (fun _ => []), .bool false, .int .i64 0, .sl true 3 0 (fun _ => []), .sl true 5 0 (fun _ => []), .bool false, .int .i64 0, .str (⟨#[]⟩ : ByteArray), .str (⟨#[]⟩ : ByteArray), .sl true 5 0 (fun _ => []), .bool false, .int .i64 0, .int .i64 0, .sl true 4 0 (fun _ => []), .sl true 2 0 (fun _ => []), .sl true 3 0 (fun _ => []), .sl true 5 0 (fun _ => []), .sl true 5 0 (fun _ => [])], aL 12 c_TInterface ([] : List TInterface), aL 2 c_TPrefixList r2]⟩) (s' := ⟨136, [(1, .ref 0 0), (2, .ref 1 0)], [.box [.str a0.fName, .int .i64 a0.fAS, .sl false 12 r1.length (fun k => (fun i => c_TInterface (r1.getD i default)) (0 + k)), .sl false 2 r2.length (fun k => (fun i => c_TPrefixList (r2.getD i default)) (0 + k)), sL 2 c_TRouteMap a0.fMaps, sL 2 c_TACL a0.fACLs, sL 9 c_TTranslation a0.fNAT, sL 7 c_TStaticRoute a0.fStatics, .bool a0.fLS.fOn, .int .i64 a0.fLS.fAdmin, sL 3 c_TAreaRange a0.fLS.fRanges, sL 5 c_TRedist a0.fLS.fRedist, .bool a0.fDV.fOn, .int .i64 a0.fDV.fAdmin, .str a0.fDV.fIn, .str a0.fDV.fOut, sL 5 c_TRedist a0.fDV.fRedist, .bool a0.fPV.fOn, .int .i64 a0.fPV.fExternal, .int .i64 a0.fPV.fInternal, sL 4 c_TNeighbor a0.fPV.fNeighbors, sL 2 c_TPrefix a0.fPV.fNetworks, sL 3 c_TAggregate a0.fPV.fAggregates, sL 5 c_TCondition a0.fPV.fConditions, sL 5 c_TRedist a0.fPV.fRedist], .box [.str (⟨#[]⟩ : ByteArray), .int .i64 0, .sl true 12 0 (fun _ => []), .sl true 2 0 (fun _ => []), .sl true 2 0 (fun _ => []), .sl true 2 0 (fun _ => []), .sl true 9 0 (fun _ => []), .sl true 7 0 (fun _ => []), .bool false, .int .i64 0, .sl true 3 0 (fun _ => []), .sl true 5 0 (fun _ => []), .bool false, .int .i64 0, .str (⟨#[]⟩ : ByteArray), .str (⟨#[]⟩ : ByteArray), .sl true 5 0 (fun _ => []), .bool false, .int .i64 0, .int .i64 0, .sl true 4 0 (fun _ => []), .sl true 2 0 (fun _ => []), .sl true 3 0 (fun _ => []), .sl true 5 0 (fun _ => []), .sl true 5 0 (fun _ => [])], aL 12 c_TInterface ([] : List TInterface), aL 2 c_TPrefixList ([] : List TPrefixList)]⟩) 3 2 r2.length (fun i => c_TPrefixList (r2.getD i default)) (fun i => c_TPrefixList (([] : List TPrefixList).getD i default)) (by kernel_rfl) (by kernel_rfl) (by kernel_rfl)))) (kp [1, 2])) ?_
 obtain ⟨r6, q15, h16⟩ := bind_some h10
 refine rg [oL 2 c_TRouteMap r6] [1, 2] 5 ⟨136, [(1, .ref 0 0), (2, .ref 1 0)], [.box [.str a0.fName, .int .i64 a0.fAS, .sl false 12 r1.length (fun k => (fun i => c_TInterface (r1.getD i default)) (0 + k)), .sl false 2 r2.length (fun k => (fun i => c_TPrefixList (r2.getD i default)) (0 + k)), .asl 4 0 r6.length, sL 2 c_TACL a0.fACLs, sL 9 c_TTranslation a0.fNAT, sL 7 c_TStaticRoute a0.fStatics, .bool a0.fLS.fOn, .int .i64 a0.fLS.fAdmin, sL 3 c_TAreaRange a0.fLS.fRanges, sL 5 c_TRedist a0.fLS.fRedist, .bool a0.fDV.fOn, .int .i64 a0.fDV.fAdmin, .str a0.fDV.fIn, .str a0.fDV.fOut, sL 5 c_TRedist a0.fDV.fRedist, .bool a0.fPV.fOn, .int .i64 a0.fPV.fExternal, .int .i64 a0.fPV.fInternal, sL 4 c_TNeighbor a0.fPV.fNeighbors, sL 2 c_TPrefix a0.fPV.fNetworks, sL 3 c_TAggregate a0.fPV.fAggregates, sL 5 c_TCondition a0.fPV.fConditions, sL 5 c_TRedist a0.fPV.fRedist], .box [.str (⟨#[]⟩ : ByteArray), .int .i64 0, .sl true 12 0 (fun _ => []), .sl true 2 0 (fun _ => []), .sl true 2 0 (fun _ => []), .sl true 2 0 (fun _ => []), .sl true 9 0 (fun _ => []), .sl true 7 0 (fun _ => []), .bool false, .int .i64 0, .sl true 3 0 (fun _ => []), .sl true 5 0 (fun _ => []), .bool false, .int .i64 0, .str (⟨#[]⟩ : ByteArray), .str (⟨#[]⟩ : ByteArray), .sl true 5 0 (fun _ => []), .bool false, .int .i64 0, .int .i64 0, .sl true 4 0 (fun _ => []), .sl true 2 0 (fun _ => []), .sl true 3 0 (fun _ => []), .sl true 5 0 (fun _ => []), .sl true 5 0 (fun _ => [])], aL 12 c_TInterface ([] : List TInterface), aL 2 c_TPrefixList ([] : List TPrefixList), aL 2 c_TRouteMap r6]⟩ [] [⟨true, 130, [sL 2 c_TRouteMap a0.fMaps], oL 2 c_TRouteMap r6⟩] nil_all ⟨fun _ => slices_Clone_api_RouteMap_api_RouteMap_own a0.fMaps r6 q15, trivial⟩ ?_
 refine then_le (s' := ⟨136, [(1, .ref 0 0), (2, .ref 1 0)], [.box [.str a0.fName, .int .i64 a0.fAS, sL 12 c_TInterface r1, sL 2 c_TPrefixList r2, .asl 4 0 r6.length, sL 2 c_TACL a0.fACLs, sL 9 c_TTranslation a0.fNAT, sL 7 c_TStaticRoute a0.fStatics, .bool a0.fLS.fOn, .int .i64 a0.fLS.fAdmin, sL 3 c_TAreaRange a0.fLS.fRanges, sL 5 c_TRedist a0.fLS.fRedist, .bool a0.fDV.fOn, .int .i64 a0.fDV.fAdmin, .str a0.fDV.fIn, .str a0.fDV.fOut, sL 5 c_TRedist a0.fDV.fRedist, .bool a0.fPV.fOn, .int .i64 a0.fPV.fExternal, .int .i64 a0.fPV.fInternal, sL 4 c_TNeighbor a0.fPV.fNeighbors, sL 2 c_TPrefix a0.fPV.fNetworks, sL 3 c_TAggregate a0.fPV.fAggregates, sL 5 c_TCondition a0.fPV.fConditions, sL 5 c_TRedist a0.fPV.fRedist], .box [.str (⟨#[]⟩ : ByteArray), .int .i64 0, .sl true 12 0 (fun _ => []), .sl true 2 0 (fun _ => []), .sl true 2 0 (fun _ => []), .sl true 2 0 (fun _ => []), .sl true 9 0 (fun _ => []), .sl true 7 0 (fun _ => []), .bool false, .int .i64 0, .sl true 3 0 (fun _ => []), .sl true 5 0 (fun _ => []), .bool false, .int .i64 0, .str (⟨#[]⟩ : ByteArray), .str (⟨#[]⟩ : ByteArray), .sl true 5 0 (fun _ => []), .bool false, .int .i64 0, .int .i64 0, .sl true 4 0 (fun _ => []), .sl true 2 0 (fun _ => []), .sl true 3 0 (fun _ => []), .sl true 5 0 (fun _ => []), .sl true 5 0 (fun _ => [])], aL 12 c_TInterface ([] : List TInterface), aL 2 c_TPrefixList ([] : List TPrefixList), aL 2 c_TRouteMap r6]⟩) (le_sub (.cons Sub.rfl (.cons Sub.rfl .nil)) (.cons (.box (.cons CSub.rfl (.cons CSub.rfl (.cons (csub_sl rfl (own_ext (f := fun i => c_TInterface (r1.getD i default)) (fun _ _ => rfl))) (.cons (csub_sl rfl (own_ext (f := fun i => c_TPrefixList (r2.getD i default)) (fun _ _ => rfl))) (.cons CSub.rfl (.cons CSub.rfl (.cons CSub.rfl (.cons CSub.rfl (.cons CSub.rfl (.cons CSub.rfl (.cons CSub.rfl (.cons CSub.rfl (.cons CSub.rfl (.cons CSub.rfl (.cons CSub.rfl (.cons CSub.rfl (.cons CSub.rfl (.cons CSub.rfl (.cons CSub.rfl (.cons CSub.rfl (.cons CSub.rfl (.cons CSub.rfl (.cons CSub.rfl (.cons CSub.rfl (.cons CSub.rfl .nil)))))))))))))))))))))))))) (.cons .rfl (.cons .rfl (.cons .rfl (.cons .rfl .nil)))))) ?_
 refine awp_seq (awp_seq (rg0 [1, 2, 39, 40] 5 ⟨136, [(1, .ref 0 0), (2, .ref 1 0), (39, .int .i64 (r6.length : Int)), (40, .int .i64 0)], [.box [.str a0.fName, .int .i64 a0.fAS, sL 12 c_TInterface r1, sL 2 c_TPrefixList r2, .asl 4 0 r6.length, sL 2 c_TACL a0.fACLs, sL 9 c_TTranslation a0.fNAT, sL 7 c_TStaticRoute a0.fStatics, .bool a0.fLS.fOn, .int .i64 a0.fLS.fAdmin, sL 3 c_TAreaRange a0.fLS.fRanges, sL 5 c_TRedist a0.fLS.fRedist, .bool a0.fDV.fOn, .int .i64 a0.fDV.fAdmin, .str a0.fDV.fIn, .str a0.fDV.fOut, sL 5 c_TRedist a0.fDV.fRedist, .bool a0.fPV.fOn, .int .i64 a0.fPV.fExternal, .int .i64 a0.fPV.fInternal, sL 4 c_TNeighbor a0.fPV.fNeighbors, sL 2 c_TPrefix a0.fPV.fNetworks, sL 3 c_TAggregate a0.fPV.fAggregates, sL 5 c_TCondition a0.fPV.fConditions, sL 5 c_TRedist a0.fPV.fRedist], .box [.str (⟨#[]⟩ : ByteArray), .int .i64 0, .sl true 12 0 (fun _ => []), .sl true 2 0 (fun _ => []), .sl true 2 0 (fun _ => []), .sl true 2 0 (fun _ => []), .sl true 9 0 (fun _ => []), .sl true 7 0 (fun _ => []), .bool false, .int .i64 0, .sl true 3 0 (fun _ => []), .sl true 5 0 (fun _ => []), .bool false, .int .i64 0, .str (⟨#[]⟩ : ByteArray), .str (⟨#[]⟩ : ByteArray), .sl true 5 0 (fun _ => []), .bool false, .int .i64 0, .int .i64 0, .sl true 4 0 (fun _ => []), .sl true 2 0 (fun _ => []), .sl true 3 0 (fun _ => []), .sl true 5 0 (fun _ => []), .sl true 5 0 (fun _ => [])], aL 12 c_TInterface ([] : List TInterface), aL 2 c_TPrefixList ([] : List TPrefixList), aL 2 c_TRouteMap r6]⟩ ?_))
 refine then_n (awp_block ?_)
 obtain ⟨y9, q21, h22⟩ := bind_some h16
 refine awp_le (s' := ⟨136, [(1, .ref 0 0), (2, .ref 1 0), (39, .int .i64 (r6.length : Int)), (40, .int .i64 0)], [.box [.str a0.fName, .int .i64 a0.fAS, sL 12 c_TInterface r1, sL 2 c_TPrefixList r2, .asl 4 0 r6.length, sL 2 c_TACL a0.fACLs, sL 9 c_TTranslation a0.fNAT, sL 7 c_TStaticRoute a0.fStatics, .bool a0.fLS.fOn, .int .i64 a0.fLS.fAdmin, sL 3 c_TAreaRange a0.fLS.fRanges, sL 5 c_TRedist a0.fLS.fRedist, .bool a0.fDV.fOn, .int .i64 a0.fDV.fAdmin, .str a0.fDV.fIn, .str a0.fDV.fOut, sL 5 c_TRedist a0.fDV.fRedist, .bool a0.fPV.fOn, .int .i64 a0.fPV.fExternal, .int .i64 a0.fPV.fInternal, sL 4 c_TNeighbor a0.fPV.fNeighbors, sL 2 c_TPrefix a0.fPV.fNetworks, sL 3 c_TAggregate a0.fPV.fAggregates, sL 5 c_TCondition a0.fPV.fConditions, sL 5 c_TRedist a0.fPV.fRedist], .box [.str (⟨#[]⟩ : ByteArray), .int .i64 0, .sl true 12 0 (fun _ => []), .sl true 2 0 (fun _ => []), .sl true 2 0 (fun _ => []), .sl true 2 0 (fun _ => []), .sl true 9 0 (fun _ => []), .sl true 7 0 (fun _ => []), .bool false, .int .i64 0, .sl true 3 0 (fun _ => []), .sl true 5 0 (fun _ => []), .bool false, .int .i64 0, .str (⟨#[]⟩ : ByteArray), .str (⟨#[]⟩ : ByteArray), .sl true 5 0 (fun _ => []), .bool false, .int .i64 0, .int .i64 0, .sl true 4 0 (fun _ => []), .sl true 2 0 (fun _ => []), .sl true 3 0 (fun _ => []), .sl true 5 0 (fun _ => []), .sl true 5 0 (fun _ => [])], aL 12 c_TInterface ([] : List TInterface), aL 2 c_TPrefixList ([] : List TPrefixList), aL 2 c_TRouteMap r6]⟩) (le_rfl) ?_
 refine awp_mono (awp_loop (f := M.topo_copyRouter_l2 r6) (S := fun (p7 : Int) => ⟨136, [(1, .ref 0 0), (2, .ref 1 0), (39, .int .i64 (r6.length : Int)), (40, .int .i64 p7)], [.box [.str a0.fName, .int .i64 a0.fAS, sL 12 c_TInterface r1, sL 2 c_TPrefixList r2, .asl 4 0 r6.length, sL 2 c_TACL a0.fACLs, sL 9 c_TTranslation a0.fNAT, sL 7 c_TStaticRoute a0.fStatics, .bool a0.fLS.fOn, .int .i64 a0.fLS.fAdmin, sL 3 c_TAreaRange a0.fLS.fRanges, sL 5 c_TRedist a0.fLS.fRedist, .bool a0.fDV.fOn, .int .i64 a0.fDV.fAdmin, .str a0.fDV.fIn, .str a0.fDV.fOut, sL 5 c_TRedist a0.fDV.fRedist, .bool a0.fPV.fOn, .int .i64 a0.fPV.fExternal, .int .i64 a0.fPV.fInternal, sL 4 c_TNeighbor a0.fPV.fNeighbors, sL 2 c_TPrefix a0.fPV.fNetworks, sL 3 c_TAggregate a0.fPV.fAggregates, sL 5 c_TCondition a0.fPV.fConditions, sL 5 c_TRedist a0.fPV.fRedist], .box [.str (⟨#[]⟩ : ByteArray), .int .i64 0, .sl true 12 0 (fun _ => []), .sl true 2 0 (fun _ => []), .sl true 2 0 (fun _ => []), .sl true 2 0 (fun _ => []), .sl true 9 0 (fun _ => []), .sl true 7 0 (fun _ => []), .bool false, .int .i64 0, .sl true 3 0 (fun _ => []), .sl true 5 0 (fun _ => []), .bool false, .int .i64 0, .str (⟨#[]⟩ : ByteArray), .str (⟨#[]⟩ : ByteArray), .sl true 5 0 (fun _ => []), .bool false, .int .i64 0, .int .i64 0, .sl true 4 0 (fun _ => []), .sl true 2 0 (fun _ => []), .sl true 3 0 (fun _ => []), .sl true 5 0 (fun _ => []), .sl true 5 0 (fun _ => [])], aL 12 c_TInterface ([] : List TInterface), aL 2 c_TPrefixList ([] : List TPrefixList), aL 2 c_TRouteMap r6]⟩) (O := (fun z => OutE 2 (fun z => ⟨136, [(1, .ref 0 0), (2, .ref 1 0)], [.box [.str a0.fName, .int .i64 a0.fAS, sL 12 c_TInterface r1, sL 2 c_TPrefixList r2, .asl 4 0 r6.length, sL 2 c_TACL a0.fACLs, sL 9 c_TTranslation a0.fNAT, sL 7 c_TStaticRoute a0.fStatics, .bool a0.fLS.fOn, .int .i64 a0.fLS.fAdmin, sL 3 c_TAreaRange a0.fLS.fRanges, sL 5 c_TRedist a0.fLS.fRedist, .bool a0.fDV.fOn, .int .i64 a0.fDV.fAdmin, .str a0.fDV.fIn, .str a0.fDV.fOut, sL 5 c_TRedist a0.fDV.fRedist, .bool a0.fPV.fOn, .int .i64 a0.fPV.fExternal, .int .i64 a0.fPV.fInternal, sL 4 c_TNeighbor a0.fPV.fNeighbors, sL 2 c_TPrefix a0.fPV.fNetworks, sL 3 c_TAggregate a0.fPV.fAggregates, sL 5 c_TCondition a0.fPV.fConditions, sL 5 c_TRedist a0.fPV.fRedist], .box [.str (⟨#[]⟩ : ByteArray), .int .i64 0, .sl true 12 0 (fun _ => []), .sl true 2 0 (fun _ => []), .sl true 2 0 (fun _ => []), .sl true 2 0 (fun _ => []), .sl true 9 0 (fun _ => []), .sl true 7 0 (fun _ => []), .bool false, .int .i64 0, .sl true 3 0 (fun _ => []), .sl true 5 0 (fun _ => []), .bool false, .int .i64 0, .str (⟨#[]⟩ : ByteArray), .str (⟨#[]⟩ : ByteArray), .sl true 5 0 (fun _ => []), .bool false, .int .i64 0, .int .i64 0, .sl true 4 0 (fun _ => []), .sl true 2 0 (fun _ => []), .sl true 3 0 (fun _ => []), .sl true 5 0 (fun _ => []), .sl true 5 0 (fun _ => [])], aL 12 c_TInterface ([] : List TInterface), aL 2 c_TPrefixList ([] : List TPrefixList), aL 2 c_TRouteMap r6]⟩) z)) ?_ (x := 0) (y := y9) (loopM_iter q21)) ?_
 intro p7 y8 h17
 unfold M.topo_copyRouter_l2 at h17
 refine awp_seq (rg0 [1, 2, 39, 40, 41] 5 ⟨136, [(1, .ref 0 0), (2, .ref 1 0), (39, .int .i64 (r6.length : Int)), (40, .int .i64 p7), (41, .bool (decide (p7 < (r6.length : Int))))], [.box [.str a0.fName, .int .i64 a0.fAS, sL 12 c_TInterface r1, sL 2 c_TPrefixList r2, .asl 4 0 r6.length, sL 2 c_TACL a0.fACLs, sL 9 c_TTranslation a0.fNAT, sL 7 c_TStaticRoute a0.fStatics, .bool a0.fLS.fOn, .int .i64 a0.fLS.fAdmin, sL 3 c_TAreaRange a0.fLS.fRanges, sL 5 c_TRedist a0.fLS.fRedist, .bool a0.fDV.fOn, .int .i64 a0.fDV.fAdmin, .str a0.fDV.fIn, .str a0.fDV.fOut, sL 5 c_TRedist a0.fDV.fRedist, .bool a0.fPV.fOn, .int .i64 a0.fPV.fExternal, .int .i64 a0.fPV.fInternal, sL 4 c_TNeighbor a0.fPV.fNeighbors, sL 2 c_TPrefix a0.fPV.fNetworks, sL 3 c_TAggregate a0.fPV.fAggregates, sL 5 c_TCondition a0.fPV.fConditions, sL 5 c_TRedist a0.fPV.fRedist], .box [.str (⟨#[]⟩ : ByteArray), .int .i64 0, .sl true 12 0 (fun _ => []), .sl true 2 0 (fun _ => []), .sl true 2 0 (fun _ => []), .sl true 2 0 (fun _ => []), .sl true 9 0 (fun _ => []), .sl true 7 0 (fun _ => []), .bool false, .int .i64 0, .sl true 3 0 (fun _ => []), .sl true 5 0 (fun _ => []), .bool false, .int .i64 0, .str (⟨#[]⟩ : ByteArray), .str (⟨#[]⟩ : ByteArray), .sl true 5 0 (fun _ => []), .bool false, .int .i64 0, .int .i64 0, .sl true 4 0 (fun _ => []), .sl true 2 0 (fun _ => []), .sl true 3 0 (fun _ => []), .sl true 5 0 (fun _ => []), .sl true 5 0 (fun _ => [])], aL 12 c_TInterface ([] : List TInterface), aL 2 c_TPrefixList ([] : List TPrefixList), aL 2 c_TRouteMap r6]⟩ ?_)
 refine then_n (awp_seq ?_)
 refine cnd (decide (p7 < (r6.length : Int))) (fun b18 => ?_) (fun b18 => ?_)
 have h19 := cond_t b18 h17
 refine awp_skip (then_n (awp_seq (awp_block (awp_seq ?_))))
 cases h19
 have h20 := cond_f b18 h17
 refine awp_exit (then_e ?_)
 obtain rfl := Option.some.inj h20
 exact round_e ⟨rfl, kp [1, 2]⟩
 intro e23 s24 o25
 obtain ⟨rfl, l26⟩ := o25
 refine inb_here ?_
 refine then_le (s' := ⟨136, [(1, .ref 0 0), (2, .ref 1 0)], [.box [.str a0.fName, .int .i64 a0.fAS, sL 12 c_TInterface r1, sL 2 c_TPrefixList r2, .asl 4 0 r6.length, sL 2 c_TACL a0.fACLs, sL 9 c_TTranslation a0.fNAT, sL 7 c_TStaticRoute a0.fStatics, .bool a0.fLS.fOn, .int .i64 a0.fLS.fAdmin, sL 3 c_TAreaRange a0.fLS.fRanges, sL 5 c_TRedist a0.fLS.fRedist, .bool a0.fDV.fOn, .int .i64 a0.fDV.fAdmin, .str a0.fDV.fIn, .str a0.fDV.fOut, sL 5 c_TRedist a0.fDV.fRedist, .bool a0.fPV.fOn, .int .i64 a0.fPV.fExternal, .int .i64 a0.fPV.fInternal, sL 4 c_TNeighbor a0.fPV.fNeighbors, sL 2 c_TPrefix a0.fPV.fNetworks, sL 3 c_TAggregate a0.fPV.fAggregates, sL 5 c_TCondition a0.fPV.fConditions, sL 5 c_TRedist a0.fPV.fRedist], .box [.str (⟨#[]⟩ : ByteArray), .int .i64 0, .sl true 12 0 (fun _ => []), .sl true 2 0 (fun _ => []), .sl true 2 0 (fun _ => []), .sl true 2 0 (fun _ => []), .sl true 9 0 (fun _ => []), .sl true 7 0 (fun _ => []), .bool false, .int .i64 0, .sl true 3 0 (fun _ => []), .sl true 5 0 (fun _ => []), .bool false, .int .i64 0, .str (⟨#[]⟩ : ByteArray), .str (⟨#[]⟩ : ByteArray), .sl true 5 0 (fun _ => []), .bool false, .int .i64 0, .int .i64 0, .sl true 4 0 (fun _ => []), .sl true 2 0 (fun _ => []), .sl true 3 0 (fun _ => []), .sl true 5 0 (fun _ => []), .sl true 5 0 (fun _ => [])], aL 12 c_TInterface ([] : List TInterface), aL 2 c_TPrefixList ([] : List TPrefixList), aL 2 c_TRouteMap r6]⟩) (l26) ?_
 refine awp_seq ?_
 refine awp_le (s' := ⟨136, [(1, .ref 0 0), (2, .ref 1 0)], [.box [.str a0.fName, .int .i64 a0.fAS, sL 12 c_TInterface r1, sL 2 c_TPrefixList r2, .sl false 2 r6.length (fun k => (fun i => c_TRouteMap (r6.getD i default)) (0 + k)), sL 2 c_TACL a0.fACLs, sL 9 c_TTranslation a0.fNAT, sL 7 c_TStaticRoute a0.fStatics, .bool a0.fLS.fOn, .int .i64 a0.fLS.fAdmin, sL 3 c_TAreaRange a0.fLS.fRanges, sL 5 c_TRedist a0.fLS.fRedist, .bool a0.fDV.fOn, .int .i64 a0.fDV.fAdmin, .str a0.fDV.fIn, .str a0.fDV.fOut, sL 5 c_TRedist a0.fDV.fRedist, .bool a0.fPV.fOn, .int .i64 a0.fPV.fExternal, .int .i64 a0.fPV.fInternal, sL 4 c_TNeighbor a0.fPV.fNeighbors, sL 2 c_TPrefix a0.fPV.fNetworks, sL 3 c_TAggregate a0.fPV.fAggregates, sL 5 c_TCondition a0.fPV.fConditions, sL 5 c_TRedist a0.fPV.fRedist], .box [.str (⟨#[]⟩ : ByteArray), .int .i64 0, .sl true 12 0 (fun _ => []), .sl true 2 0 (fun _ => []), .sl true 2 0 (fun _ => []), .sl true 2 0 (fun _ => []), .sl true 9 0 (fun _ => []), .sl true 7 0 (fun _ => []), .bool false, .int .i64 0, .sl true 3 0 (fun _ => []), .sl true 5 0 (fun _ => []), .bool false, .int .i64 0, .str (⟨#[]⟩ : ByteArray), .str (⟨#[]⟩ : ByteArray), .sl true 5 0 (fun _ => []), .bool false, .int .i64 0, .int .i64 0, .sl true 4 0 (fun _ => []), .sl true 2 0 (fun _ => []), .sl true 3 0 (fun _ => []), .sl true 5 0 (fun _ => []), .sl true 5 0 (fun _ => [])], aL 12 c_TInterface ([] : List TInterface), aL 2 c_TPrefixList ([] : List TPrefixList), aL 2 c_TRouteMap ([] : List TRouteMap)]⟩) (Le.trans ((le_frb (s := ⟨136, [(1, .ref 0 0), (2, .ref 1 0)], [.box [.str a0.fName, .int .i64 a0.fAS, sL 12 c_TInterface r1, sL 2 c_TPrefixList r2, .asl 4 0 r6.length, sL 2 c_TACL a0.fACLs, sL 9 c_TTranslation a0.fNAT, sL 7 c_TStaticRoute a0.fStatics, .bool a0.fLS.fOn, .int .i64 a0.fLS.fAdmin, sL 3 c_TAreaRange a0.fLS.fRanges, sL 5 c_TRedist a0.fLS.fRedist, .bool a0.fDV.fOn, .int .i64 a0.fDV.fAdmin, .str a0.fDV.fIn, .str a0.fDV.fOut, sL 5 c_TRedist a0.fDV.fRedist, .bool a0.fPV.fOn, .int .i64 a0.fPV.fExternal, .int .i64 a0.fPV.fInternal, sL 4 c_TNeighbor a0.fPV.fNeighbors, sL 2 c_TPrefix a0.fPV.fNetworks, sL 3 c_TAggregate a0.fPV.fAggregates, sL 5 c_TCondition a0.fPV.fConditions, sL 5 c_TRedist a0.fPV.fRedist], .box [.str (⟨#[]⟩ : ByteArray), .int .i64 0, .sl true 12 0 (fun _ => []), .sl true 2 0 (fun _ => []), .sl true 2 0 (fun _ => []), .sl true 2 0 (fun _ => []), .sl true 9 0 (fun _ => []), .sl true 7 0 (fun _ => []), .bool false, .int .i64 0, .sl true 3 0 (fun _ => []), .sl true 5 0 (fun _ => []), .bool false, .int .i64 0, .str (⟨#[]⟩ : ByteArray), .str (⟨#[]⟩ : ByteArray), .sl true 5 0 (fun _ => []), .bool false, .int .i64 0, .int .i64 0, .sl true 4 0 (fun _ => []), .sl true 2 0 (fun _ => []), .sl true 3 0 (fun _ => []), .sl true 5 0 (fun _ => []), .sl true 5 0 (fun _ => [])], aL 12 c_TInterface ([] : List TInterface), aL 2 c_TPrefixList ([] : List TPrefixList), aL 2 c_TRouteMap r6]⟩) (s' := ⟨136, [(1, .ref 0 0), (2, .ref 1 0)], [.box [.str a0.fName, .int .i64 a0.fAS, sL 12 c_TInterface r1, sL 2 c_TPrefixList r2, .sl false 2 r6.length (fun k => (fun i => c_TRouteMap (r6.getD i default)) (0 + k)), sL 2 c_TACL a0.fACLs, sL 9 c_TTranslation a0.fNAT, sL 7 c_TStaticRoute a0.fStatics, .bool a0.fLS.fOn, .int .i64 a0.fLS.fAdmin, sL 3 c_TAreaRange a0.fLS.fRanges, sL 5 c_TRedist a0.fLS.fRedist, .bool a0.fDV.fOn, .int .i64 a0.fDV.fAdmin, .str a0.fDV.fIn, .str a0.fDV.fOut, sL 5 c_TRedist a0.fDV.fRedist, .bool a0.fPV.fOn, .int .i64 a0.fPV.fExternal, .int .i64 a0.fPV.fInternal, sL 4 c_TNeighbor a0.fPV.fNeighbors, sL 2 c_TPrefix a0.fPV.fNetworks, sL 3 c_TAggregate a0.fPV.fAggregates, sL 5 c_TCondition a0.fPV.fConditions, sL 5 c_TRedist a0.fPV.fRedist], .box [.str (⟨#[]⟩ : ByteArray), .int .i64 0, .sl true 12 0 (fun _ => []), .sl true 2 0 (fun _ => []), .sl true 2 0 (fun _ => []), .sl true 2 0 (fun _ => []), .sl true 9 0 (fun _ => []), .sl true 7 0 (fun _ => []), .bool false, .int .i64 0, .sl true 3 0 (fun _ => []), .sl true 5 0 (fun _ => []), .bool false, .int .i64 0, .str (⟨#[]⟩ : ByteArray), .str (⟨#[]⟩ : ByteArray), .sl true 5 0 (fun _ => []), .bool false, .int .i64 0, .int .i64 0, .sl true 4 0 (fun _ => []), .sl true 2 0 (fun _ => []), .sl true 3 0 (fun _ => []), .sl true 5 0 (fun _ => []), .sl true 5 0 (fun _ => [])], aL 12 c_TInterface ([] : List TInterface), aL 2 c_TPrefixList ([] : List TPrefixList), aL 2 c_TRouteMap ([] : List TRouteMap)]⟩) 4 2 r6.length (fun i => c_TRouteMap (r6.getD i default)) (fun i => c_TRouteMap (([] : List TRouteMap).getD i default)) (by kernel_rfl) (by kernel_rfl) (by kernel_rfl))) (kp [1, 2])) ?_
 obtain ⟨r10, q27, h28⟩ := bind_some h22
 refine rg [oL 2 c_TACL r10] [1, 2] 6 ⟨136, [(1, .ref 0 0), (2, .ref 1 0)], [.box [.str a0.fName, .int .i64 a0.fAS, sL 12 c_TInterface r1, sL 2 c_TPrefixList r2, .sl false 2 r6.length (fun k => (fun i => c_TRouteMap (r6.getD i default)) (0 + k)), .asl 5 0 r10.length, sL 9 c_TTranslation a0.fNAT, sL 7 c_TStaticRoute a0.fStatics, .bool a0.fLS.fOn, .int .i64 a0.fLS.fAdmin, sL 3 c_TAreaRange a0.fLS.fRanges, sL 5 c_TRedist a0.fLS.fRedist, .bool a0.fDV.fOn, .int .i64 a0.fDV.fAdmin, .str a0.fDV.fIn, .str a0.fDV.fOut, sL 5 c_TRedist a0.fDV.fRedist, .bool a0.fPV.fOn, .int .i64 a0.fPV.fExternal, .int .i64 a0.fPV.fInternal, sL 4 c_TNeighbor a0.fPV.fNeighbors, sL 2 c_TPrefix a0.fPV.fNetworks, sL 3 c_TAggregate a0.fPV.fAggregates, sL 5 c_TCondition a0.fPV.fConditions, sL 5 c_TRedist a0.fPV.fRedist], .box [.str (⟨#[]⟩ : ByteArray), .int .i64 0, .sl true 12 0 (fun _ => []), .sl true 2 0 (fun _ => []), .sl true 2 0 (fun _ => []), .sl true 2 0 (fun _ => []), .sl true 9 0 (fun _ => []), .sl true 7 0 (fun _ => []), .bool false, .int .i64 0, .sl true 3 0 (fun _ => []), .sl true 5 0 (fun _ => []), .bool false, .int .i64 0, .str (⟨#[]⟩ : ByteArray), .str (⟨#[]⟩ : ByteArray), .sl true 5 0 (fun _ => []), .bool false, .int .i64 0, .int .i64 0, .sl true 4 0 (fun _ => []), .sl true 2 0 (fun _ => []), .sl true 3 0 (fun _ => []), .sl true 5 0 (fun _ => []), .sl true 5 0 (fun _ => [])], aL 12 c_TInterface ([] : List TInterface), aL 2 c_TPrefixList ([] : List TPrefixList), aL 2 c_TRouteMap ([] : List TRouteMap), aL 2 c_TACL r10]⟩ [] [⟨true, 132, [sL 2 c_TACL a0.fACLs], oL 2 c_TACL r10⟩] nil_all ⟨fun _ => slices_Clone_api_ACL_api_ACL_own a0.fACLs r10 q27, trivial⟩ ?_
 refine then_le (s' := ⟨136, [(1, .ref 0 0), (2, .ref 1 0)], [.box [.str a0.fName, .int .i64 a0.fAS, sL 12 c_TInterface r1, sL 2 c_TPrefixList r2, sL 2 c_TRouteMap r6, .asl 5 0 r10.length, sL 9 c_TTranslation a0.fNAT, sL 7 c_TStaticRoute a0.fStatics, .bool a0.fLS.fOn, .int .i64 a0.fLS.fAdmin, sL 3 c_TAreaRange a0.fLS.fRanges, sL 5 c_TRedist a0.fLS.fRedist, .bool a0.fDV.fOn, .int .i64 a0.fDV.fAdmin, .str a0.fDV.fIn, .str a0.fDV.fOut, sL 5 c_TRedist a0.fDV.fRedist, .bool a0.fPV.fOn, .int .i64 a0.fPV.fExternal, .int .i64 a0.fPV.fInternal, sL 4 c_TNeighbor a0.fPV.fNeighbors, sL 2 c_TPrefix a0.fPV.fNetworks, sL 3 c_TAggregate a0.fPV.fAggregates, sL 5 c_TCondition a0.fPV.fConditions, sL 5 c_TRedist a0.fPV.fRedist], .box [.str (⟨#[]⟩ : ByteArray), .int .i64 0, .sl true 12 0 (fun _ => []), .sl true 2 0 (fun _ => []), .sl true 2 0 (fun _ => []), .sl true 2 0 (fun _ => []), .sl true 9 0 (fun _ => []), .sl true 7 0 (fun _ => []), .bool false, .int .i64 0, .sl true 3 0 (fun _ => []), .sl true 5 0 (fun _ => []), .bool false, .int .i64 0, .str (⟨#[]⟩ : ByteArray), .str (⟨#[]⟩ : ByteArray), .sl true 5 0 (fun _ => []), .bool false, .int .i64 0, .int .i64 0, .sl true 4 0 (fun _ => []), .sl true 2 0 (fun _ => []), .sl true 3 0 (fun _ => []), .sl true 5 0 (fun _ => []), .sl true 5 0 (fun _ => [])], aL 12 c_TInterface ([] : List TInterface), aL 2 c_TPrefixList ([] : List TPrefixList), aL 2 c_TRouteMap ([] : List TRouteMap), aL 2 c_TACL r10]⟩) (le_sub (.cons Sub.rfl (.cons Sub.rfl .nil)) (.cons (.box (.cons CSub.rfl (.cons CSub.rfl (.cons CSub.rfl (.cons CSub.rfl (.cons (csub_sl rfl (own_ext (f := fun i => c_TRouteMap (r6.getD i default)) (fun _ _ => rfl))) (.cons CSub.rfl (.cons CSub.rfl (.cons CSub.rfl (.cons CSub.rfl (.cons CSub.rfl (.cons CSub.rfl (.cons CSub.rfl (.cons CSub.rfl (.cons CSub.rfl (.cons CSub.rfl (.cons CSub.rfl (.cons CSub.rfl (.cons CSub.rfl (.cons CSub.rfl (.cons CSub.rfl (.cons CSub.rfl (.cons CSub.rfl (.cons CSub.rfl (.cons CSub.rfl (.cons CSub.rfl .nil)))))))))))))))))))))))))) (.cons .rfl (.cons .rfl (.cons .rfl (.cons .rfl (.cons .rfl .nil))))))) ?_
 refine awp_seq (awp_seq (rg0 [1, 2, 62, 63] 6 ⟨136, [(1, .ref 0 0), (2, .ref 1 0), (62, .int .i64 (r10.length : Int)), (63, .int .i64 0)], [.box [.str a0.fName, .int .i64 a0.fAS, sL 12 c_TInterface r1, sL 2 c_TPrefixList r2, sL 2 c_TRouteMap r6, .asl 5 0 r10.length, sL 9 c_TTranslation a0.fNAT, sL 7 c_TStaticRoute a0.fStatics, .bool a0.fLS.fOn, .int .i64 a0.fLS.fAdmin, sL 3 c_TAreaRange a0.fLS.fRanges, sL 5 c_TRedist a0.fLS.fRedist, .bool a0.fDV.fOn, .int .i64 a0.fDV.fAdmin, .str a0.fDV.fIn, .str a0.fDV.fOut, sL 5 c_TRedist a0.fDV.fRedist, .bool a0.fPV.fOn, .int .i64 a0.fPV.fExternal, .int .i64 a0.fPV.fInternal, sL 4 c_TNeighbor a0.fPV.fNeighbors, sL 2 c_TPrefix a0.fPV.fNetworks, sL 3 c_TAggregate a0.fPV.fAggregates, sL 5 c_TCondition a0.fPV.fConditions, sL 5 c_TRedist a0.fPV.fRedist], .box [.str (⟨#[]⟩ : ByteArray), .int .i64 0, .sl true 12 0 (fun _ => []), .sl true 2 0 (fun _ => []), .sl true 2 0 (fun _ => []), .sl true 2 0 (fun _ => []), .sl true 9 0 (fun _ => []), .sl true 7 0 (fun _ => []), .bool false, .int .i64 0, .sl true 3 0 (fun _ => []), .sl true 5 0 (fun _ => []), .bool false, .int .i64 0, .str (⟨#[]⟩ : ByteArray), .str (⟨#[]⟩ : ByteArray), .sl true 5 0 (fun _ => []), .bool false, .int .i64 0, .int .i64 0, .sl true 4 0 (fun _ => []), .sl true 2 0 (fun _ => []), .sl true 3 0 (fun _ => []), .sl true 5 0 (fun _ => []), .sl true 5 0 (fun _ => [])], aL 12 c_TInterface ([] : List TInterface), aL 2 c_TPrefixList ([] : List TPrefixList), aL 2 c_TRouteMap ([] : List TRouteMap), aL 2 c_TACL r10]⟩ ?_))
 refine then_n (awp_block ?_)
 obtain ⟨y13, q33, h34⟩ := bind_some h28
 refine awp_le (s' := ⟨136, [(1, .ref 0 0), (2, .ref 1 0), (62, .int .i64 (r10.length : Int)), (63, .int .i64 0)], [.box [.str a0.fName, .int .i64 a0.fAS, sL 12 c_TInterface r1, sL 2 c_TPrefixList r2, sL 2 c_TRouteMap r6, .asl 5 0 r10.length, sL 9 c_TTranslation a0.fNAT, sL 7 c_TStaticRoute a0.fStatics, .bool a0.fLS.fOn, .int .i64 a0.fLS.fAdmin, sL 3 c_TAreaRange a0.fLS.fRanges, sL 5 c_TRedist a0.fLS.fRedist, .bool a0.fDV.fOn, .int .i64 a0.fDV.fAdmin, .str a0.fDV.fIn, .str a0.fDV.fOut, sL 5 c_TRedist a0.fDV.fRedist, .bool a0.fPV.fOn, .int .i64 a0.fPV.fExternal, .int .i64 a0.fPV.fInternal, sL 4 c_TNeighbor a0.fPV.fNeighbors, sL 2 c_TPrefix a0.fPV.fNetworks, sL 3 c_TAggregate a0.fPV.fAggregates, sL 5 c_TCondition a0.fPV.fConditions, sL 5 c_TRedist a0.fPV.fRedist], .box [.str (⟨#[]⟩ : ByteArray), .int .i64 0, .sl true 12 0 (fun _ => []), .sl true 2 0 (fun _ => []), .sl true 2 0 (fun _ => []), .sl true 2 0 (fun _ => []), .sl true 9 0 (fun _ => []), .sl true 7 0 (fun _ => []), .bool false, .int .i64 0, .sl true 3 0 (fun _ => []), .sl true 5 0 (fun _ => []), .bool false, .int .i64 0, .str (⟨#[]⟩ : ByteArray), .str (⟨#[]⟩ : ByteArray), .sl true 5 0 (fun _ => []), .bool false, .int .i64 0, .int .i64 0, .sl true 4 0 (fun _ => []), .sl true 2 0 (fun _ => []), .sl true 3 0 (fun _ => []), .sl true 5 0 (fun _ => []), .sl true 5 0 (fun _ => [])], aL 12 c_TInterface ([] : List TInterface), aL 2 c_TPrefixList ([] : List TPrefixList), aL 2 c_TRouteMap ([] : List TRouteMap), aL 2 c_TACL r10]⟩) (le_rfl) ?_
 refine awp_mono (awp_loop (f := M.topo_copyRouter_l3 r10) (S := fun (p11 : Int) => ⟨136, [(1, .ref 0 0), (2, .ref 1 0), (62, .int .i64 (r10.length : Int)), (63, .int .i64 p11)], [.box [.str a0.fName, .int .i64 a0.fAS, sL 12 c_TInterface r1, sL 2 c_TPrefixList r2, sL 2 c_TRouteMap r6, .asl 5 0 r10.length, sL 9 c_TTranslation a0.fNAT, sL 7 c_TStaticRoute a0.fStatics, .bool a0.fLS.fOn, .int .i64 a0.fLS.fAdmin, sL 3 c_TAreaRange a0.fLS.fRanges, sL 5 c_TRedist a0.fLS.fRedist, .bool a0.fDV.fOn, .int .i64 a0.fDV.fAdmin, .str a0.fDV.fIn, .str a0.fDV.fOut, sL 5 c_TRedist a0.fDV.fRedist, .bool a0.fPV.fOn, .int .i64 a0.fPV.fExternal, .int .i64 a0.fPV.fInternal, sL 4 c_TNeighbor a0.fPV.fNeighbors, sL 2 c_TPrefix a0.fPV.fNetworks, sL 3 c_TAggregate a0.fPV.fAggregates, sL 5 c_TCondition a0.fPV.fConditions, sL 5 c_TRedist a0.fPV.fRedist], .box [.str (⟨#[]⟩ : ByteArray), .int .i64 0, .sl true 12 0 (fun _ => []), .sl true 2 0 (fun _ => []), .sl true 2 0 (fun _ => []), .sl true 2 0 (fun _ => []), .sl true 9 0 (fun _ => []), .sl true 7 0 (fun _ => []), .bool false, .int .i64 0, .sl true 3 0 (fun _ => []), .sl true 5 0 (fun _ => []), .bool false, .int .i64 0, .str (⟨#[]⟩ : ByteArray), .str (⟨#[]⟩ : ByteArray), .sl true 5 0 (fun _ => []), .bool false, .int .i64 0, .int .i64 0, .sl true 4 0 (fun _ => []), .sl true 2 0 (fun _ => []), .sl true 3 0 (fun _ => []), .sl true 5 0 (fun _ => []), .sl true 5 0 (fun _ => [])], aL 12 c_TInterface ([] : List TInterface), aL 2 c_TPrefixList ([] : List TPrefixList), aL 2 c_TRouteMap ([] : List TRouteMap), aL 2 c_TACL r10]⟩) (O := (fun z => OutE 4 (fun z => ⟨136, [(1, .ref 0 0), (2, .ref 1 0)], [.box [.str a0.fName, .int .i64 a0.fAS, sL 12 c_TInterface r1, sL 2 c_TPrefixList r2, sL 2 c_TRouteMap r6, .asl 5 0 r10.length, sL 9 c_TTranslation a0.fNAT, sL 7 c_TStaticRoute a0.fStatics, .bool a0.fLS.fOn, .int .i64 a0.fLS.fAdmin, sL 3 c_TAreaRange a0.fLS.fRanges, sL 5 c_TRedist a0.fLS.fRedist, .bool a0.fDV.fOn, .int .i64 a0.fDV.fAdmin, .str a0.fDV.fIn, .str a0.fDV.fOut, sL 5 c_TRedist a0.fDV.fRedist, .bool a0.fPV.fOn, .int .i64 a0.fPV.fExternal, .int .i64 a0.fPV.fInternal, sL 4 c_TNeighbor a0.fPV.fNeighbors, sL 2 c_TPrefix a0.fPV.fNetworks, sL 3 c_TAggregate a0.fPV.fAggregates, sL 5 c_TCondition a0.fPV.fConditions, sL 5 c_TRedist a0.fPV.fRedist], .box [.str (⟨#[]⟩ : ByteArray), .int .i64 0, .sl true 12 0 (fun _ => []), .sl true 2 0 (fun _ => []), .sl true 2 0 (fun _ => []), .sl true 2 0 (fun _ => []), .sl true 9 0 (fun _ => []), .sl true 7 0 (fun _ => []), .bool false, .int .i64 0, .sl true 3 0 (fun _ => []), .sl true 5 0 (fun _ => []), .bool false, .int .i64 0, .str (⟨#[]⟩ : ByteArray), .str (⟨#[]⟩ : ByteArray), .sl true 5 0 (fun _ => []), .bool false, .int .i64 0, .int .i64 0, .sl true 4 0 (fun _ => []), .sl true 2 0 (fun _ => []), .sl true 3 0 (fun _ => []), .sl true 5 0 (fun _ => []), .sl true 5 0 (fun _ => [])], aL 12 c_TInterface ([] : List TInterface), aL 2 c_TPrefixList ([] : List TPrefixList), aL 2 c_TRouteMap ([] : List TRouteMap), aL 2 c_TACL r10]⟩) z)) ?_ (x := 0) (y := y13) (loopM_iter q33)) ?_
 intro p11 y12 h29
 unfold M.topo_copyRouter_l3 at h29
 refine awp_seq (rg0 [1, 2, 62, 63, 64] 6 ⟨136, [(1, .ref 0 0), (2, .ref 1 0), (62, .int .i64 (r10.length : Int)), (63, .int .i64 p11), (64, .bool (decide (p11 < (r10.length : Int))))], [.box [.str a0.fName, .int .i64 a0.fAS, sL 12 c_TInterface r1, sL 2 c_TPrefixList r2, sL 2 c_TRouteMap r6, .asl 5 0 r10.length, sL 9 c_TTranslation a0.fNAT, sL 7 c_TStaticRoute a0.fStatics, .bool a0.fLS.fOn, .int .i64 a0.fLS.fAdmin, sL 3 c_TAreaRange a0.fLS.fRanges, sL 5 c_TRedist a0.fLS.fRedist, .bool a0.fDV.fOn, .int .i64 a0.fDV.fAdmin, .str a0.fDV.fIn, .str a0.fDV.fOut, sL 5 c_TRedist a0.fDV.fRedist, .bool a0.fPV.fOn, .int .i64 a0.fPV.fExternal, .int .i64 a0.fPV.fInternal, sL 4 c_TNeighbor a0.fPV.fNeighbors, sL 2 c_TPrefix a0.fPV.fNetworks, sL 3 c_TAggregate a0.fPV.fAggregates, sL 5 c_TCondition a0.fPV.fConditions, sL 5 c_TRedist a0.fPV.fRedist], .box [.str (⟨#[]⟩ : ByteArray), .int .i64 0, .sl true 12 0 (fun _ => []), .sl true 2 0 (fun _ => []), .sl true 2 0 (fun _ => []), .sl true 2 0 (fun _ => []), .sl true 9 0 (fun _ => []), .sl true 7 0 (fun _ => []), .bool false, .int .i64 0, .sl true 3 0 (fun _ => []), .sl true 5 0 (fun _ => []), .bool false, .int .i64 0, .str (⟨#[]⟩ : ByteArray), .str (⟨#[]⟩ : ByteArray), .sl true 5 0 (fun _ => []), .bool false, .int .i64 0, .int .i64 0, .sl true 4 0 (fun _ => []), .sl true 2 0 (fun _ => []), .sl true 3 0 (fun _ => []), .sl true 5 0 (fun _ => []), .sl true 5 0 (fun _ => [])], aL 12 c_TInterface ([] : List TInterface), aL 2 c_TPrefixList ([] : List TPrefixList), aL 2 c_TRouteMap ([] : List TRouteMap), aL 2 c_TACL r10]⟩ ?_)
 refine then_n (awp_seq ?_)
 refine cnd (decide (p11 < (r10.length : Int))) (fun b30 => ?_) (fun b30 => ?_)
 have h31 := cond_t b30 h29
 refine awp_skip (then_n (awp_seq (awp_block (awp_seq ?_))))
 cases h31
 have h32 := cond_f b30 h29
 refine awp_exit (then_e ?_)
 obtain rfl := Option.some.inj h32
 exact round_e ⟨rfl, kp [1, 2]⟩
 intro e35 s36 o37
 obtain ⟨rfl, l38⟩ := o37
 refine inb_here ?_
 refine then_le (s' := ⟨136, [(1, .ref 0 0), (2, .ref 1 0)], [.box [.str a0.fName, .int .i64 a0.fAS, sL 12 c_TInterface r1, sL 2 c_TPrefixList r2, sL 2 c_TRouteMap r6, .asl 5 0 r10.length, sL 9 c_TTranslation a0.fNAT, sL 7 c_TStaticRoute a0.fStatics, .bool a0.fLS.fOn, .int .i64 a0.fLS.fAdmin, sL 3 c_TAreaRange a0.fLS.fRanges, sL 5 c_TRedist a0.fLS.fRedist, .bool a0.fDV.fOn, .int .i64 a0.fDV.fAdmin, .str a0.fDV.fIn, .str a0.fDV.fOut, sL 5 c_TRedist a0.fDV.fRedist, .bool a0.fPV.fOn, .int .i64 a0.fPV.fExternal, .int .i64 a0.fPV.fInternal, sL 4 c_TNeighbor a0.fPV.fNeighbors, sL 2 c_TPrefix a0.fPV.fNetworks, sL 3 c_TAggregate a0.fPV.fAggregates, sL 5 c_TCondition a0.fPV.fConditions, sL 5 c_TRedist a0.fPV.fRedist], .box [.str (⟨#[]⟩ : ByteArray), .int .i64 0, .sl true 12 0 (fun _ => []), .sl true 2 0 (fun _ => []), .sl true 2 0 (fun _ => []), .sl true 2 0 (fun _ => []), .sl true 9 0 (fun _ => []), .sl true 7 0 (fun _ => []), .bool false, .int .i64 0, .sl true 3 0 (fun _ => []), .sl true 5 0 (fun _ => []), .bool false, .int .i64 0, .str (⟨#[]⟩ : ByteArray), .str (⟨#[]⟩ : ByteArray), .sl true 5 0 (fun _ => []), .bool false, .int .i64 0, .int .i64 0, .sl true 4 0 (fun _ => []), .sl true 2 0 (fun _ => []), .sl true 3 0 (fun _ => []), .sl true 5 0 (fun _ => []), .sl true 5 0 (fun _ => [])], aL 12 c_TInterface ([] : List TInterface), aL 2 c_TPrefixList ([] : List TPrefixList), aL 2 c_TRouteMap ([] : List TRouteMap), aL 2 c_TACL r10]⟩) (l38) ?_
 refine awp_seq ?_
 refine awp_le (s' := ⟨136, [(1, .ref 0 0), (2, .ref 1 0)], [.box [.str a0.fName, .int .i64 a0.fAS, sL 12 c_TInterface r1, sL 2 c_TPrefixList r2, sL 2 c_TRouteMap r6, .sl false 2 r10.length (fun k => (fun i => c_TACL (r10.getD i default)) (0 + k)), sL 9 c_TTranslation a0.fNAT, sL 7 c_TStaticRoute a0.fStatics, .bool a0.fLS.fOn, .int .i64 a0.fLS.fAdmin, sL 3 c_TAreaRange a0.fLS.fRanges, sL 5 c_TRedist a0.fLS.fRedist, .bool a0.fDV.fOn, .int .i64 a0.fDV.fAdmin, .str a0.fDV.fIn, .str a0.fDV.fOut, sL 5 c_TRedist a0.fDV.fRedist, .bool a0.fPV.fOn, .int .i64 a0.fPV.fExternal, .int .i64 a0.fPV.fInternal, sL 4 c_TNeighbor a0.fPV.fNeighbors, sL 2 c_TPrefix a0.fPV.fNetworks, sL 3 c_TAggregate a0.fPV.fAggregates, sL 5 c_TCondition a0.fPV.fConditions, sL 5 c_TRedist a0.fPV.fRedist], .box [.str (⟨#[]⟩ : ByteArray), .int .i64 0, .sl true 12 0 (fun _ => []), .sl true 2 0 (fun _ => []), .sl true 2 0 (fun _ => []), .sl true 2 0 (fun _ => []), .sl true 9 0 (fun _ => []), .sl true 7 0 (fun _ => []), .bool false, .int .i64 0, .sl true 3 0 (fun _ => []), .sl true 5 0 (fun _ => []), .bool false, .int .i64 0, .str (⟨#[]⟩ : ByteArray), .str (⟨#[]⟩ : ByteArray), .sl true 5 0 (fun _ => []), .bool false, .int .i64 0, .int .i64 0, .sl true 4 0 (fun _ => []), .sl true 2 0 (fun _ => []), .sl true 3 0 (fun _ => []), .sl true 5 0 (fun _ => []), .sl true 5 0 (fun _ => [])], aL 12 c_TInterface ([] : List TInterface), aL 2 c_TPrefixList ([] : List TPrefixList), aL 2 c_TRouteMap ([] : List TRouteMap), aL 2 c_TACL ([] : List TACL)]⟩) (Le.trans ((le_frb (s := ⟨136, [(1, .ref 0 0), (2, .ref 1 0)], [.box [.str a0.fName, .int .i64 a0.fAS, sL 12 c_TInterface r1, sL 2 c_TPrefixList r2, sL 2 c_TRouteMap r6, .asl 5 0 r10.length, sL 9 c_TTranslation a0.fNAT, sL 7 c_TStaticRoute a0.fStatics, .bool a0.fLS.fOn, .int .i64 a0.fLS.fAdmin, sL 3 c_TAreaRange a0.fLS.fRanges, sL 5 c_TRedist a0.fLS.fRedist, .bool a0.fDV.fOn, .int .i64 a0.fDV.fAdmin, .str a0.fDV.fIn, .str a0.fDV.fOut, sL 5 c_TRedist a0.fDV.fRedist, .bool a0.fPV.fOn, .int .i64 a0.fPV.fExternal, .int .i64 a0.fPV.fInternal, sL 4 c_TNeighbor a0.fPV.fNeighbors, sL 2 c_TPrefix a0.fPV.fNetworks, sL 3 c_TAggregate a0.fPV.fAggregates, sL 5 c_TCondition a0.fPV.fConditions, sL 5 c_TRedist a0.fPV.fRedist], .box [.str (⟨#[]⟩ : ByteArray), .int .i64 0, .sl true 12 0 (fun _ => []), .sl true 2 0 (fun _ => []), .sl true 2 0 (fun _ => []), .sl true 2 0 (fun _ => []), .sl true 9 0 (fun _ => []), .sl true 7 0 (fun _ => []), .bool false, .int .i64 0, .sl true 3 0 (fun _ => []), .sl true 5 0 (fun _ => []), .bool false, .int .i64 0, .str (⟨#[]⟩ : ByteArray), .str (⟨#[]⟩ : ByteArray), .sl true 5 0 (fun _ => []), .bool false, .int .i64 0, .int .i64 0, .sl true 4 0 (fun _ => []), .sl true 2 0 (fun _ => []), .sl true 3 0 (fun _ => []), .sl true 5 0 (fun _ => []), .sl true 5 0 (fun _ => [])], aL 12 c_TInterface ([] : List TInterface), aL 2 c_TPrefixList ([] : List TPrefixList), aL 2 c_TRouteMap ([] : List TRouteMap), aL 2 c_TACL r10]⟩) (s' := ⟨136, [(1, .ref 0 0), (2, .ref 1 0)], [.box [.str a0.fName, .int .i64 a0.fAS, sL 12 c_TInterface r1, sL 2 c_TPrefixList r2, sL 2 c_TRouteMap r6, .sl false 2 r10.length (fun k => (fun i => c_TACL (r10.getD i default)) (0 + k)), sL 9 c_TTranslation a0.fNAT, sL 7 c_TStaticRoute a0.fStatics, .bool a0.fLS.fOn, .int .i64 a0.fLS.fAdmin, sL 3 c_TAreaRange a0.fLS.fRanges, sL 5 c_TRedist a0.fLS.fRedist, .bool a0.fDV.fOn, .int .i64 a0.fDV.fAdmin, .str a0.fDV.fIn, .str a0.fDV.fOut, sL 5 c_TRedist a0.fDV.fRedist, .bool a0.fPV.fOn, .int .i64 a0.fPV.fExternal, .int .i64 a0.fPV.fInternal, sL 4 c_TNeighbor a0.fPV.fNeighbors, sL 2 c_TPrefix a0.fPV.fNetworks, sL 3 c_TAggregate a0.fPV.fAggregates, sL 5 c_TCondition a0.fPV.fConditions, sL 5 c_TRedist a0.fPV.fRedist], .box [.str (⟨#[]⟩ : ByteArray), .int .i64 0, .sl true 12 0 (fun _ => []), .sl true 2 0 (fun _ => []), .sl true 2 0 (fun _ => []), .sl true 2 0 (fun _ => []), .sl true 9 0 (fun _ => []), .sl true 7 0 (fun _ => []), .bool false, .int .i64 0, .sl true 3 0 (fun _ => []), .sl true 5 0 (fun _ => []), .bool false, .int .i64 0, .str (⟨#[]⟩ : ByteArray), .str (⟨#[]⟩ : ByteArray), .sl true 5 0 (fun _ => []), .bool false, .int .i64 0, .int .i64 0, .sl true 4 0 (fun _ => []), .sl true 2 0 (fun _ => []), .sl true 3 0 (fun _ => []), .sl true 5 0 (fun _ => []), .sl true 5 0 (fun _ => [])], aL 12 c_TInterface ([] : List TInterface), aL 2 c_TPrefixList ([] : List TPrefixList), aL 2 c_TRouteMap ([] : List TRouteMap), aL 2 c_TACL ([] : List TACL)]⟩) 5 2 r10.length (fun i => c_TACL (r10.getD i default)) (fun i => c_TACL (([] : List TACL).getD i default)) (by kernel_rfl) (by kernel_rfl) (by kernel_rfl))) (kp [1, 2])) ?_
 obtain ⟨r14, q39, h40⟩ := bind_some h34
 refine rg [.pure (sL 9 c_TTranslation r14)] [1, 2] 2 ⟨136, [(1, .ref 0 0), (2, .ref 1 0)], [.box [.str a0.fName, .int .i64 a0.fAS, sL 12 c_TInterface r1, sL 2 c_TPrefixList r2, sL 2 c_TRouteMap r6, .sl false 2 r10.length (fun k => (fun i => c_TACL (r10.getD i default)) (0 + k)), sL 9 c_TTranslation r14, sL 7 c_TStaticRoute a0.fStatics, .bool a0.fLS.fOn, .int .i64 a0.fLS.fAdmin, sL 3 c_TAreaRange a0.fLS.fRanges, sL 5 c_TRedist a0.fLS.fRedist, .bool a0.fDV.fOn, .int .i64 a0.fDV.fAdmin, .str a0.fDV.fIn, .str a0.fDV.fOut, sL 5 c_TRedist a0.fDV.fRedist, .bool a0.fPV.fOn, .int .i64 a0.fPV.fExternal, .int .i64 a0.fPV.fInternal, sL 4 c_TNeighbor a0.fPV.fNeighbors, sL 2 c_TPrefix a0.fPV.fNetworks, sL 3 c_TAggregate a0.fPV.fAggregates, sL 5 c_TCondition a0.fPV.fConditions, sL 5 c_TRedist a0.fPV.fRedist], .box [.str (⟨#[]⟩ : ByteArray), .int .i64 0, .sl true 12 0 (fun _ => []), .sl true 2 0 (fun _ => []), .sl true 2 0 (fun _ => []), .sl true 2 0 (fun _ => []), .sl true 9 0 (fun _ => []), .sl true 7 0 (fun _ => []), .bool false, .int .i64 0, .sl true 3 0 (fun _ => []), .sl true 5 0 (fun _ => []), .bool false, .int .i64 0, .str (⟨#[]⟩ : ByteArray), .str (⟨#[]⟩ : ByteArray), .sl true 5 0 (fun _ => []), .bool false, .int .i64 0, .int .i64 0, .sl true 4 0 (fun _ => []), .sl true 2 0 (fun _ => []), .sl true 3 0 (fun _ => []), .sl true 5 0 (fun _ => []), .sl true 5 0 (fun _ => [])]]⟩ [] [⟨true, 134, [sL 9 c_TTranslation a0.fNAT], .pure (sL 9 c_TTranslation r14)⟩] nil_all ⟨fun _ => slices_Clone_api_Translation_api_Translation_ok a0.fNAT r14 q39, trivial⟩ ?_
 refine then_le (s' := ⟨136, [(1, .ref 0 0), (2, .ref 1 0)], [.box [.str a0.fName, .int .i64 a0.fAS, sL 12 c_TInterface r1, sL 2 c_TPrefixList r2, sL 2 c_TRouteMap r6, sL 2 c_TACL r10, sL 9 c_TTranslation r14, sL 7 c_TStaticRoute a0.fStatics, .bool a0.fLS.fOn, .int .i64 a0.fLS.fAdmin, sL 3 c_TAreaRange a0.fLS.fRanges, sL 5 c_TRedist a0.fLS.fRedist, .bool a0.fDV.fOn, .int .i64 a0.fDV.fAdmin, .str a0.fDV.fIn, .str a0.fDV.fOut, sL 5 c_TRedist a0.fDV.fRedist, .bool a0.fPV.fOn, .int .i64 a0.fPV.fExternal, .int .i64 a0.fPV.fInternal, sL 4 c_TNeighbor a0.fPV.fNeighbors, sL 2 c_TPrefix a0.fPV.fNetworks, sL 3 c_TAggregate a0.fPV.fAggregates, sL 5 c_TCondition a0.fPV.fConditions, sL 5 c_TRedist a0.fPV.fRedist], .box [.str (⟨#[]⟩ : ByteArray), .int .i64 0, .sl true 12 0 (fun _ => []), .sl true 2 0 (fun _ => []), .sl true 2 0 (fun _ => []), .sl true 2 0 (fun _ => []), .sl true 9 0 (fun _ => []), .sl true 7 0 (fun _ => []), .bool false, .int .i64 0, .sl true 3 0 (fun _ => []), .sl true 5 0 (fun _ => []), .bool false, .int .i64 0, .str (⟨#[]⟩ : ByteArray), .str (⟨#[]⟩ : ByteArray), .sl true 5 0 (fun _ => []), .bool false, .int .i64 0, .int .i64 0, .sl true 4 0 (fun _ => []), .sl true 2 0 (fun _ => []), .sl true 3 0 (fun _ => []), .sl true 5 0 (fun _ => []), .sl true 5 0 (fun _ => [])]]⟩) (le_sub (.cons Sub.rfl (.cons Sub.rfl .nil)) (.cons (.box (.cons CSub.rfl (.cons CSub.rfl (.cons CSub.rfl (.cons CSub.rfl (.cons CSub.rfl (.cons (csub_sl rfl (own_ext (f := fun i => c_TACL (r10.getD i default)) (fun _ _ => rfl))) (.cons CSub.rfl (.cons CSub.rfl (.cons CSub.rfl (.cons CSub.rfl (.cons CSub.rfl (.cons CSub.rfl (.cons CSub.rfl (.cons CSub.rfl (.cons CSub.rfl (.cons CSub.rfl (.cons CSub.rfl (.cons CSub.rfl (.cons CSub.rfl (.cons CSub.rfl (.cons CSub.rfl (.cons CSub.rfl (.cons CSub.rfl (.cons CSub.rfl (.cons CSub.rfl .nil)))))))))))))))))))))))))) (.cons .rfl .nil))) ?_
 refine awp_seq ?_
 obtain ⟨r15, q41, h42⟩ := bind_some h40
 refine rg [.pure (sL 7 c_TStaticRoute r15)] [1, 2] 2 ⟨136, [(1, .ref 0 0), (2, .ref 1 0)], [.box [.str a0.fName, .int .i64 a0.fAS, sL 12 c_TInterface r1, sL 2 c_TPrefixList r2, sL 2 c_TRouteMap r6, sL 2 c_TACL r10, sL 9 c_TTranslation r14, sL 7 c_TStaticRoute r15, .bool a0.fLS.fOn, .int .i64 a0.fLS.fAdmin, sL 3 c_TAreaRange a0.fLS.fRanges, sL 5 c_TRedist a0.fLS.fRedist, .bool a0.fDV.fOn, .int .i64 a0.fDV.fAdmin, .str a0.fDV.fIn, .str a0.fDV.fOut, sL 5 c_TRedist a0.fDV.fRedist, .bool a0.fPV.fOn, .int .i64 a0.fPV.fExternal, .int .i64 a0.fPV.fInternal, sL 4 c_TNeighbor a0.fPV.fNeighbors, sL 2 c_TPrefix a0.fPV.fNetworks, sL 3 c_TAggregate a0.fPV.fAggregates, sL 5 c_TCondition a0.fPV.fConditions, sL 5 c_TRedist a0.fPV.fRedist], .box [.str (⟨#[]⟩ : ByteArray), .int .i64 0, .sl true 12 0 (fun _ => []), .sl true 2 0 (fun _ => []), .sl true 2 0 (fun _ => []), .sl true 2 0 (fun _ => []), .sl true 9 0 (fun _ => []), .sl true 7 0 (fun _ => []), .bool false, .int .i64 0, .sl true 3 0 (fun _ => []), .sl true 5 0 (fun _ => []), .bool false, .int .i64 0, .str (⟨#[]⟩ : ByteArray), .str (⟨#[]⟩ : ByteArray), .sl true 5 0 (fun _ => []), .bool false, .int .i64 0, .int .i64 0, .sl true 4 0 (fun _ => []), .sl true 2 0 (fun _ => []), .sl true 3 0 (fun _ => []), .sl true 5 0 (fun _ => []), .sl true 5 0 (fun _ => [])]]⟩ [] [⟨true, 135, [sL 7 c_TStaticRoute a0.fStatics], .pure (sL 7 c_TStaticRoute r15)⟩] nil_all ⟨fun _ => slices_Clone_api_StaticRoute_api_StaticRoute_ok a0.fStatics r15 q41, trivial⟩ ?_
 refine then_n (awp_seq ?_)
 obtain ⟨r16, q43, h44⟩ := bind_some h42
 refine rg [.pure (sL 3 c_TAreaRange r16)] [1, 2] 2 ⟨136, [(1, .ref 0 0), (2, .ref 1 0)], [.box [.str a0.fName, .int .i64 a0.fAS, sL 12 c_TInterface r1, sL 2 c_TPrefixList r2, sL 2 c_TRouteMap r6, sL 2 c_TACL r10, sL 9 c_TTranslation r14, sL 7 c_TStaticRoute r15, .bool a0.fLS.fOn, .int .i64 a0.fLS.fAdmin, sL 3 c_TAreaRange r16, sL 5 c_TRedist a0.fLS.fRedist, .bool a0.fDV.fOn, .int .i64 a0.fDV.fAdmin, .str a0.fDV.fIn, .str a0.fDV.fOut, sL 5 c_TRedist a0.fDV.fRedist, .bool a0.fPV.fOn, .int .i64 a0.fPV.fExternal, .int .i64 a0.fPV.fInternal, sL 4 c_TNeighbor a0.fPV.fNeighbors, sL 2 c_TPrefix a0.fPV.fNetworks, sL 3 c_TAggregate a0.fPV.fAggregates, sL 5 c_TCondition a0.fPV.fConditions, sL 5 c_TRedist a0.fPV.fRedist], .box [.str (⟨#[]⟩ : ByteArray), .int .i64 0, .sl true 12 0 (fun _ => []), .sl true 2 0 (fun _ => []), .sl true 2 0 (fun _ => []), .sl true 2 0 (fun _ => []), .sl true 9 0 (fun _ => []), .sl true 7 0 (fun _ => []), .bool false, .int .i64 0, .sl true 3 0 (fun _ => []), .sl true 5 0 (fun _ => []), .bool false, .int .i64 0, .str (⟨#[]⟩ : ByteArray), .str (⟨#[]⟩ : ByteArray), .sl true 5 0 (fun _ => []), .bool false, .int .i64 0, .int .i64 0, .sl true 4 0 (fun _ => []), .sl true 2 0 (fun _ => []), .sl true 3 0 (fun _ => []), .sl true 5 0 (fun _ => []), .sl true 5 0 (fun _ => [])]]⟩ [] [⟨true, 136, [sL 3 c_TAreaRange a0.fLS.fRanges], .pure (sL 3 c_TAreaRange r16)⟩] nil_all ⟨fun _ => slices_Clone_api_AreaRange_api_AreaRange_ok a0.fLS.fRanges r16 q43, trivial⟩ ?_
 refine then_n (awp_seq ?_)
 obtain ⟨r17, q45, h46⟩ := bind_some h44
 refine rg [.pure (sL 5 c_TRedist r17)] [1, 2] 2 ⟨136, [(1, .ref 0 0), (2, .ref 1 0)], [.box [.str a0.fName, .int .i64 a0.fAS, sL 12 c_TInterface r1, sL 2 c_TPrefixList r2, sL 2 c_TRouteMap r6, sL 2 c_TACL r10, sL 9 c_TTranslation r14, sL 7 c_TStaticRoute r15, .bool a0.fLS.fOn, .int .i64 a0.fLS.fAdmin, sL 3 c_TAreaRange r16, sL 5 c_TRedist r17, .bool a0.fDV.fOn, .int .i64 a0.fDV.fAdmin, .str a0.fDV.fIn, .str a0.fDV.fOut, sL 5 c_TRedist a0.fDV.fRedist, .bool a0.fPV.fOn, .int .i64 a0.fPV.fExternal, .int .i64 a0.fPV.fInternal, sL 4 c_TNeighbor a0.fPV.fNeighbors, sL 2 c_TPrefix a0.fPV.fNetworks, sL 3 c_TAggregate a0.fPV.fAggregates, sL 5 c_TCondition a0.fPV.fConditions, sL 5 c_TRedist a0.fPV.fRedist], .box [.str (⟨#[]⟩ : ByteArray), .int .i64 0, .sl true 12 0 (fun _ => []), .sl true 2 0 (fun _ => []), .sl true 2 0 (fun _ => []), .sl true 2 0 (fun _ => []), .sl true 9 0 (fun _ => []), .sl true 7 0 (fun _ => []), .bool false, .int .i64 0, .sl true 3 0 (fun _ => []), .sl true 5 0 (fun _ => []), .bool false, .int .i64 0, .str (⟨#[]⟩ : ByteArray), .str (⟨#[]⟩ : ByteArray), .sl true 5 0 (fun _ => []), .bool false, .int .i64 0, .int .i64 0, .sl true 4 0 (fun _ => []), .sl true 2 0 (fun _ => []), .sl true 3 0 (fun _ => []), .sl true 5 0 (fun _ => []), .sl true 5 0 (fun _ => [])]]⟩ [] [⟨true, 137, [sL 5 c_TRedist a0.fLS.fRedist], .pure (sL 5 c_TRedist r17)⟩] nil_all ⟨fun _ => slices_Clone_api_Redist_api_Redist_ok a0.fLS.fRedist r17 q45, trivial⟩ ?_
 refine then_n (awp_seq ?_)
 obtain ⟨r18, q47, h48⟩ := bind_some h46
 refine rg [.pure (sL 5 c_TRedist r18)] [1, 2] 2 ⟨136, [(1, .ref 0 0), (2, .ref 1 0)], [.box [.str a0.fName, .int .i64 a0.fAS, sL 12 c_TInterface r1, sL 2 c_TPrefixList r2, sL 2 c_TRouteMap r6, sL 2 c_TACL r10, sL 9 c_TTranslation r14, sL 7 c_TStaticRoute r15, .bool a0.fLS.fOn, .int .i64 a0.fLS.fAdmin, sL 3 c_TAreaRange r16, sL 5 c_TRedist r17, .bool a0.fDV.fOn, .int .i64 a0.fDV.fAdmin, .str a0.fDV.fIn, .str a0.fDV.fOut, sL 5 c_TRedist r18, .bool a0.fPV.fOn, .int .i64 a0.fPV.fExternal, .int .i64 a0.fPV.fInternal, sL 4 c_TNeighbor a0.fPV.fNeighbors, sL 2 c_TPrefix a0.fPV.fNetworks, sL 3 c_TAggregate a0.fPV.fAggregates, sL 5 c_TCondition a0.fPV.fConditions, sL 5 c_TRedist a0.fPV.fRedist], .box [.str (⟨#[]⟩ : ByteArray), .int .i64 0, .sl true 12 0 (fun _ => []), .sl true 2 0 (fun _ => []), .sl true 2 0 (fun _ => []), .sl true 2 0 (fun _ => []), .sl true 9 0 (fun _ => []), .sl true 7 0 (fun _ => []), .bool false, .int .i64 0, .sl true 3 0 (fun _ => []), .sl true 5 0 (fun _ => []), .bool false, .int .i64 0, .str (⟨#[]⟩ : ByteArray), .str (⟨#[]⟩ : ByteArray), .sl true 5 0 (fun _ => []), .bool false, .int .i64 0, .int .i64 0, .sl true 4 0 (fun _ => []), .sl true 2 0 (fun _ => []), .sl true 3 0 (fun _ => []), .sl true 5 0 (fun _ => []), .sl true 5 0 (fun _ => [])]]⟩ [] [⟨true, 137, [sL 5 c_TRedist a0.fDV.fRedist], .pure (sL 5 c_TRedist r18)⟩] nil_all ⟨fun _ => slices_Clone_api_Redist_api_Redist_ok a0.fDV.fRedist r18 q47, trivial⟩ ?_
 refine then_n (awp_seq ?_)
 obtain ⟨r19, q49, h50⟩ := bind_some h48
 refine rg [.pure (sL 4 c_TNeighbor r19)] [1, 2] 2 ⟨136, [(1, .ref 0 0), (2, .ref 1 0)], [.box [.str a0.fName, .int .i64 a0.fAS, sL 12 c_TInterface r1, sL 2 c_TPrefixList r2, sL 2 c_TRouteMap r6, sL 2 c_TACL r10, sL 9 c_TTranslation r14, sL 7 c_TStaticRoute r15, .bool a0.fLS.fOn, .int .i64 a0.fLS.fAdmin, sL 3 c_TAreaRange r16, sL 5 c_TRedist r17, .bool a0.fDV.fOn, .int .i64 a0.fDV.fAdmin, .str a0.fDV.fIn, .str a0.fDV.fOut, sL 5 c_TRedist r18, .bool a0.fPV.fOn, .int .i64 a0.fPV.fExternal, .int .i64 a0.fPV.fInternal, sL 4 c_TNeighbor r19, sL 2 c_TPrefix a0.fPV.fNetworks, sL 3 c_TAggregate a0.fPV.fAggregates, sL 5 c_TCondition a0.fPV.fConditions, sL 5 c_TRedist a0.fPV.fRedist], .box [.str (⟨#[]⟩ : ByteArray), .int .i64 0, .sl true 12 0 (fun _ => []), .sl true 2 0 (fun _ => []), .sl true 2 0 (fun _ => []), .sl true 2 0 (fun _ => []), .sl true 9 0 (fun _ => []), .sl true 7 0 (fun _ => []), .bool false, .int .i64 0, .sl true 3 0 (fun _ => []), .sl true 5 0 (fun _ => []), .bool false, .int .i64 0, .str (⟨#[]⟩ : ByteArray), .str (⟨#[]⟩ : ByteArray), .sl true 5 0 (fun _ => []), .bool false, .int .i64 0, .int .i64 0, .sl true 4 0 (fun _ => []), .sl true 2 0 (fun _ => []), .sl true 3 0 (fun _ => []), .sl true 5 0 (fun _ => []), .sl true 5 0 (fun _ => [])]]⟩ [] [⟨true, 138, [sL 4 c_TNeighbor a0.fPV.fNeighbors], .pure (sL 4 c_TNeighbor r19)⟩] nil_all ⟨fun _ => slices_Clone_api_Neighbor_api_Neighbor_ok a0.fPV.fNeighbors r19 q49, trivial⟩ ?_
 refine then_n (awp_seq ?_)
 obtain ⟨r20, q51, h52⟩ := bind_some h50
 refine rg [.pure (sL 2 c_TPrefix r20)] [1, 2] 2 ⟨136, [(1, .ref 0 0), (2, .ref 1 0)], [.box [.str a0.fName, .int .i64 a0.fAS, sL 12 c_TInterface r1, sL 2 c_TPrefixList r2, sL 2 c_TRouteMap r6, sL 2 c_TACL r10, sL 9 c_TTranslation r14, sL 7 c_TStaticRoute r15, .bool a0.fLS.fOn, .int .i64 a0.fLS.fAdmin, sL 3 c_TAreaRange r16, sL 5 c_TRedist r17, .bool a0.fDV.fOn, .int .i64 a0.fDV.fAdmin, .str a0.fDV.fIn, .str a0.fDV.fOut, sL 5 c_TRedist r18, .bool a0.fPV.fOn, .int .i64 a0.fPV.fExternal, .int .i64 a0.fPV.fInternal, sL 4 c_TNeighbor r19, sL 2 c_TPrefix r20, sL 3 c_TAggregate a0.fPV.fAggregates, sL 5 c_TCondition a0.fPV.fConditions, sL 5 c_TRedist a0.fPV.fRedist], .box [.str (⟨#[]⟩ : ByteArray), .int .i64 0, .sl true 12 0 (fun _ => []), .sl true 2 0 (fun _ => []), .sl true 2 0 (fun _ => []), .sl true 2 0 (fun _ => []), .sl true 9 0 (fun _ => []), .sl true 7 0 (fun _ => []), .bool false, .int .i64 0, .sl true 3 0 (fun _ => []), .sl true 5 0 (fun _ => []), .bool false, .int .i64 0, .str (⟨#[]⟩ : ByteArray), .str (⟨#[]⟩ : ByteArray), .sl true 5 0 (fun _ => []), .bool false, .int .i64 0, .int .i64 0, .sl true 4 0 (fun _ => []), .sl true 2 0 (fun _ => []), .sl true 3 0 (fun _ => []), .sl true 5 0 (fun _ => []), .sl true 5 0 (fun _ => [])]]⟩ [] [⟨true, 139, [sL 2 c_TPrefix a0.fPV.fNetworks], .pure (sL 2 c_TPrefix r20)⟩] nil_all ⟨fun _ => slices_Clone_api_Prefix_api_Prefix_ok a0.fPV.fNetworks r20 q51, trivial⟩ ?_
 refine then_n (awp_seq ?_)
 obtain ⟨r21, q53, h54⟩ := bind_some h52
 refine rg [.pure (sL 3 c_TAggregate r21)] [1, 2] 2 ⟨136, [(1, .ref 0 0), (2, .ref 1 0)], [.box [.str a0.fName, .int .i64 a0.fAS, sL 12 c_TInterface r1, sL 2 c_TPrefixList r2, sL 2 c_TRouteMap r6, sL 2 c_TACL r10, sL 9 c_TTranslation r14, sL 7 c_TStaticRoute r15, .bool a0.fLS.fOn, .int .i64 a0.fLS.fAdmin, sL 3 c_TAreaRange r16, sL 5 c_TRedist r17, .bool a0.fDV.fOn, .int .i64 a0.fDV.fAdmin, .str a0.fDV.fIn, .str a0.fDV.fOut, sL 5 c_TRedist r18, .bool a0.fPV.fOn, .int .i64 a0.fPV.fExternal, .int .i64 a0.fPV.fInternal, sL 4 c_TNeighbor r19, sL 2 c_TPrefix r20, sL 3 c_TAggregate r21, sL 5 c_TCondition a0.fPV.fConditions, sL 5 c_TRedist a0.fPV.fRedist], .box [.str (⟨#[]⟩ : ByteArray), .int .i64 0, .sl true 12 0 (fun _ => []), .sl true 2 0 (fun _ => []), .sl true 2 0 (fun _ => []), .sl true 2 0 (fun _ => []), .sl true 9 0 (fun _ => []), .sl true 7 0 (fun _ => []), .bool false, .int .i64 0, .sl true 3 0 (fun _ => []), .sl true 5 0 (fun _ => []), .bool false, .int .i64 0, .str (⟨#[]⟩ : ByteArray), .str (⟨#[]⟩ : ByteArray), .sl true 5 0 (fun _ => []), .bool false, .int .i64 0, .int .i64 0, .sl true 4 0 (fun _ => []), .sl true 2 0 (fun _ => []), .sl true 3 0 (fun _ => []), .sl true 5 0 (fun _ => []), .sl true 5 0 (fun _ => [])]]⟩ [] [⟨true, 140, [sL 3 c_TAggregate a0.fPV.fAggregates], .pure (sL 3 c_TAggregate r21)⟩] nil_all ⟨fun _ => slices_Clone_api_Aggregate_api_Aggregate_ok a0.fPV.fAggregates r21 q53, trivial⟩ ?_
 refine then_n (awp_seq ?_)
 obtain ⟨r22, q55, h56⟩ := bind_some h54
 refine rg [.pure (sL 5 c_TCondition r22)] [1, 2] 2 ⟨136, [(1, .ref 0 0), (2, .ref 1 0)], [.box [.str a0.fName, .int .i64 a0.fAS, sL 12 c_TInterface r1, sL 2 c_TPrefixList r2, sL 2 c_TRouteMap r6, sL 2 c_TACL r10, sL 9 c_TTranslation r14, sL 7 c_TStaticRoute r15, .bool a0.fLS.fOn, .int .i64 a0.fLS.fAdmin, sL 3 c_TAreaRange r16, sL 5 c_TRedist r17, .bool a0.fDV.fOn, .int .i64 a0.fDV.fAdmin, .str a0.fDV.fIn, .str a0.fDV.fOut, sL 5 c_TRedist r18, .bool a0.fPV.fOn, .int .i64 a0.fPV.fExternal, .int .i64 a0.fPV.fInternal, sL 4 c_TNeighbor r19, sL 2 c_TPrefix r20, sL 3 c_TAggregate r21, sL 5 c_TCondition r22, sL 5 c_TRedist a0.fPV.fRedist], .box [.str (⟨#[]⟩ : ByteArray), .int .i64 0, .sl true 12 0 (fun _ => []), .sl true 2 0 (fun _ => []), .sl true 2 0 (fun _ => []), .sl true 2 0 (fun _ => []), .sl true 9 0 (fun _ => []), .sl true 7 0 (fun _ => []), .bool false, .int .i64 0, .sl true 3 0 (fun _ => []), .sl true 5 0 (fun _ => []), .bool false, .int .i64 0, .str (⟨#[]⟩ : ByteArray), .str (⟨#[]⟩ : ByteArray), .sl true 5 0 (fun _ => []), .bool false, .int .i64 0, .int .i64 0, .sl true 4 0 (fun _ => []), .sl true 2 0 (fun _ => []), .sl true 3 0 (fun _ => []), .sl true 5 0 (fun _ => []), .sl true 5 0 (fun _ => [])]]⟩ [] [⟨true, 141, [sL 5 c_TCondition a0.fPV.fConditions], .pure (sL 5 c_TCondition r22)⟩] nil_all ⟨fun _ => slices_Clone_api_Condition_api_Condition_ok a0.fPV.fConditions r22 q55, trivial⟩ ?_
 refine then_n (awp_seq ?_)
 obtain ⟨r23, q57, h58⟩ := bind_some h56
 refine rg [.pure (sL 5 c_TRedist r23)] [1, 2] 2 ⟨136, [(1, .ref 0 0), (2, .ref 1 0)], [.box [.str a0.fName, .int .i64 a0.fAS, sL 12 c_TInterface r1, sL 2 c_TPrefixList r2, sL 2 c_TRouteMap r6, sL 2 c_TACL r10, sL 9 c_TTranslation r14, sL 7 c_TStaticRoute r15, .bool a0.fLS.fOn, .int .i64 a0.fLS.fAdmin, sL 3 c_TAreaRange r16, sL 5 c_TRedist r17, .bool a0.fDV.fOn, .int .i64 a0.fDV.fAdmin, .str a0.fDV.fIn, .str a0.fDV.fOut, sL 5 c_TRedist r18, .bool a0.fPV.fOn, .int .i64 a0.fPV.fExternal, .int .i64 a0.fPV.fInternal, sL 4 c_TNeighbor r19, sL 2 c_TPrefix r20, sL 3 c_TAggregate r21, sL 5 c_TCondition r22, sL 5 c_TRedist r23], .box [.str (⟨#[]⟩ : ByteArray), .int .i64 0, .sl true 12 0 (fun _ => []), .sl true 2 0 (fun _ => []), .sl true 2 0 (fun _ => []), .sl true 2 0 (fun _ => []), .sl true 9 0 (fun _ => []), .sl true 7 0 (fun _ => []), .bool false, .int .i64 0, .sl true 3 0 (fun _ => []), .sl true 5 0 (fun _ => []), .bool false, .int .i64 0, .str (⟨#[]⟩ : ByteArray), .str (⟨#[]⟩ : ByteArray), .sl true 5 0 (fun _ => []), .bool false, .int .i64 0, .int .i64 0, .sl true 4 0 (fun _ => []), .sl true 2 0 (fun _ => []), .sl true 3 0 (fun _ => []), .sl true 5 0 (fun _ => []), .sl true 5 0 (fun _ => [])]]⟩ [] [⟨true, 137, [sL 5 c_TRedist a0.fPV.fRedist], .pure (sL 5 c_TRedist r23)⟩] nil_all ⟨fun _ => slices_Clone_api_Redist_api_Redist_ok a0.fPV.fRedist r23 q57, trivial⟩ ?_
 refine then_n (awp_seq (rg0 [2] 2 ⟨136, [(2, .ref 1 0)], [.box [.str a0.fName, .int .i64 a0.fAS, sL 12 c_TInterface r1, sL 2 c_TPrefixList r2, sL 2 c_TRouteMap r6, sL 2 c_TACL r10, sL 9 c_TTranslation r14, sL 7 c_TStaticRoute r15, .bool a0.fLS.fOn, .int .i64 a0.fLS.fAdmin, sL 3 c_TAreaRange r16, sL 5 c_TRedist r17, .bool a0.fDV.fOn, .int .i64 a0.fDV.fAdmin, .str a0.fDV.fIn, .str a0.fDV.fOut, sL 5 c_TRedist r18, .bool a0.fPV.fOn, .int .i64 a0.fPV.fExternal, .int .i64 a0.fPV.fInternal, sL 4 c_TNeighbor r19, sL 2 c_TPrefix r20, sL 3 c_TAggregate r21, sL 5 c_TCondition r22, sL 5 c_TRedist r23], .box [.str a0.fName, .int .i64 a0.fAS, sL 12 c_TInterface r1, sL 2 c_TPrefixList r2, sL 2 c_TRouteMap r6, sL 2 c_TACL r10, sL 9 c_TTranslation r14, sL 7 c_TStaticRoute r15, .bool a0.fLS.fOn, .int .i64 a0.fLS.fAdmin, sL 3 c_TAreaRange r16, sL 5 c_TRedist r17, .bool a0.fDV.fOn, .int .i64 a0.fDV.fAdmin, .str a0.fDV.fIn, .str a0.fDV.fOut, sL 5 c_TRedist r18, .bool a0.fPV.fOn, .int .i64 a0.fPV.fExternal, .int .i64 a0.fPV.fInternal, sL 4 c_TNeighbor r19, sL 2 c_TPrefix r20, sL 3 c_TAggregate r21, sL 5 c_TCondition r22, sL 5 c_TRedist r23]]⟩ ?_))
 refine then_n (awp_ret ?_)
 obtain rfl := Option.some.inj h58
 exact er0 (.agg [.str a0.fName, .int .i64 a0.fAS, sL 12 c_TInterface r1, sL 2 c_TPrefixList r2, sL 2 c_TRouteMap r6, sL 2 c_TACL r10, sL 9 c_TTranslation r14, sL 7 c_TStaticRoute r15, .bool a0.fLS.fOn, .int .i64 a0.fLS.fAdmin, sL 3 c_TAreaRange r16, sL 5 c_TRedist r17, .bool a0.fDV.fOn, .int .i64 a0.fDV.fAdmin, .str a0.fDV.fIn, .str a0.fDV.fOut, sL 5 c_TRedist r18, .bool a0.fPV.fOn, .int .i64 a0.fPV.fExternal, .int .i64 a0.fPV.fInternal, sL 4 c_TNeighbor r19, sL 2 c_TPrefix r20, sL 3 c_TAggregate r21, sL 5 c_TCondition r22, sL 5 c_TRedist r23])
theorem topo_copyNetwork_ok (a0 : TNetwork) (r : TNetwork) (h : M.topo_copyNetwork a0 = some r) : Fn Tryz.prog 76 [.agg (c_TNetwork a0)] (.pure (.agg (c_TNetwork r))) := by
 unfold M.topo_copyNetwork at h
 refine fn_pure Tryz.func76 rfl (by kernel_rfl) ?_
 refine awp_seq (rg0 [1, 2] 2 ⟨24, [(1, .ref 0 0), (2, .ref 1 0)], [.box (c_TNetwork a0), .box [.sl true 25 0 (fun _ => [])]]⟩ ?_)
 refine then_n (awp_seq ?_)
 obtain ⟨r1, q1, h2⟩ := bind_some h
 refine rg [oL 25 c_TRouter r1] [2, 3] 3 ⟨24, [(2, .ref 1 0), (3, .asl 2 0 r1.length)], [.box (c_TNetwork a0), .box [.sl true 25 0 (fun _ => [])], aL 25 c_TRouter r1]⟩ [] [⟨true, 103, [sL 25 c_TRouter a0.fRouters], oL 25 c_TRouter r1⟩] nil_all ⟨fun _ => slices_Clone_api_Router_api_Router_own a0.fRouters r1 q1, trivial⟩ ?_
 refine then_n (awp_seq (awp_seq (rg0 [2, 3, 9, 10] 3 ⟨24, [(2, .ref 1 0), (3, .asl 2 0 r1.length), (9, .int .i64 (r1.length : Int)), (10, .int .i64 0)], [.box (c_TNetwork a0), .box [.sl true 25 0 (fun _ => [])], aL 25 c_TRouter r1]⟩ ?_)))
 refine then_n (awp_block ?_)
 obtain ⟨y5, q11, h12⟩ := bind_some h2
 refine awp_le (s' := ⟨24, [(2, .ref 1 0), (3, .asl 2 0 r1.length), (9, .int .i64 (r1.length : Int)), (10, .int .i64 0)], [.box (c_TNetwork a0), .box [.sl true 25 0 (fun _ => [])], aL 25 c_TRouter r1]⟩) (le_rfl) ?_
 refine awp_mono (awp_loop (f := M.topo_copyNetwork_l1 r1) (S := fun (p2 : (List TRouter) × Int) => ⟨24, [(2, .ref 1 0), (3, .asl 2 0 p2.1.length), (9, .int .i64 (r1.length : Int)), (10, .int .i64 p2.2)], [.box (c_TNetwork a0), .box [.sl true 25 0 (fun _ => [])], aL 25 c_TRouter p2.1]⟩) (O := (fun z => OutE 0 (fun z => ⟨24, [(2, .ref 1 0), (3, .asl 2 0 z.length)], [.box (c_TNetwork a0), .box [.sl true 25 0 (fun _ => [])], aL 25 c_TRouter z]⟩) z)) ?_ (x := (r1, 0)) (y := y5) (loopM_iter q11)) ?_
 intro p2 y3 h3
 unfold M.topo_copyNetwork_l1 at h3
 refine awp_seq (rg0 [2, 3, 9, 10, 11] 3 ⟨24, [(2, .ref 1 0), (3, .asl 2 0 p2.1.length), (9, .int .i64 (r1.length : Int)), (10, .int .i64 p2.2), (11, .bool (decide (p2.2 < (r1.length : Int))))], [.box (c_TNetwork a0), .box [.sl true 25 0 (fun _ => [])], aL 25 c_TRouter p2.1]⟩ ?_)
 refine then_n (awp_seq ?_)
 refine cnd (decide (p2.2 < (r1.length : Int))) (fun b4 => ?_) (fun b4 => ?_)
 have h5 := cond_t b4 h3
 refine awp_skip (then_n (awp_seq (awp_block (awp_seq (rg0 [2, 3, 4, 9, 10] 3 ⟨24, [(2, .ref 1 0), (3, .asl 2 0 p2.1.length), (4, .int .i64 p2.2), (9, .int .i64 (r1.length : Int)), (10, .int .i64 p2.2)], [.box (c_TNetwork a0), .box [.sl true 25 0 (fun _ => [])], aL 25 c_TRouter p2.1]⟩ ?_)))))
 refine then_n ?_
 obtain ⟨r4, q7, h8⟩ := bind_some h5
 obtain ⟨c9, h10⟩ := gd_some h8
 refine rg [.pure (.agg (c_TRouter r4))] [2, 3, 9, 10] 3 ⟨24, [(2, .ref 1 0), (3, .asl 2 0 p2.1.length), (9, .int .i64 (r1.length : Int)), (10, .int .i64 p2.2)], [.box (c_TNetwork a0), .box [.sl true 25 0 (fun _ => [])], .arr 25 p2.1.length (fun j => bif Nat.beq j (0 + p2.2.toNat) then splice (c_TRouter (p2.1.getD (0 + p2.2.toNat) default)) [.str r4.fName, .int .i64 r4.fAS, sL 12 c_TInterface r4.fInterfaces, sL 2 c_TPrefixList r4.fLists, sL 2 c_TRouteMap r4.fMaps, sL 2 c_TACL r4.fACLs, sL 9 c_TTranslation r4.fNAT, sL 7 c_TStaticRoute r4.fStatics, .bool r4.fLS.fOn, .int .i64 r4.fLS.fAdmin, sL 3 c_TAreaRange r4.fLS.fRanges, sL 5 c_TRedist r4.fLS.fRedist, .bool r4.fDV.fOn, .int .i64 r4.fDV.fAdmin, .str r4.fDV.fIn, .str r4.fDV.fOut, sL 5 c_TRedist r4.fDV.fRedist, .bool r4.fPV.fOn, .int .i64 r4.fPV.fExternal, .int .i64 r4.fPV.fInternal, sL 4 c_TNeighbor r4.fPV.fNeighbors, sL 2 c_TPrefix r4.fPV.fNetworks, sL 3 c_TAggregate r4.fPV.fAggregates, sL 5 c_TCondition r4.fPV.fConditions, sL 5 c_TRedist r4.fPV.fRedist] 0 else c_TRouter (p2.1.getD j default))]⟩ [decide (0 ≤ p2.2), decide (p2.2 < (p2.1.length : Int)), decide (0 ≤ p2.2), decide (p2.2 < (p2.1.length : Int))] [⟨true, 104, [.agg (c_TRouter (p2.1.getD (0 + p2.2.toNat) default))], .pure (.agg (c_TRouter r4))⟩] c9 ⟨fun _ => topo_copyRouter_ok (p2.1.getD (0 + p2.2.toNat) default) r4 q7, trivial⟩ ?_
 refine inb_n ?_
 refine then_le (s' := ⟨24, [(2, .ref 1 0), (3, .asl 2 0 ((p2.1.set (0 + p2.2.toNat) r4).length)), (9, .int .i64 (r1.length : Int)), (10, .int .i64 p2.2)], [.box (c_TNetwork a0), .box [.sl true 25 0 (fun _ => [])], aL 25 c_TRouter (p2.1.set (0 + p2.2.toNat) r4)]⟩) (le_sub (.cons Sub.rfl (.cons (asl_len (by simp)) (.cons Sub.rfl (.cons Sub.rfl .nil)))) (.cons .rfl (.cons .rfl (.cons (.arr (by simp) (set_ext c_TRouter p2.1 (0 + p2.2.toNat) r4 _ rfl)) .nil)))) ?_
 refine rg0 [2, 3, 9, 10] 3 ⟨24, [(2, .ref 1 0), (3, .asl 2 0 ((p2.1.set (0 + p2.2.toNat) r4).length)), (9, .int .i64 (r1.length : Int)), (10, .int .i64 (wr .i64 (p2.2 + 1)))], [.box (c_TNetwork a0), .box [.sl true 25 0 (fun _ => [])], aL 25 c_TRouter (p2.1.set (0 + p2.2.toNat) r4)]⟩ ?_
 obtain rfl := Option.some.inj h10
 exact round_n (le_rfl)
 have h6 := cond_f b4 h3
 refine awp_exit (then_e ?_)
 obtain rfl := Option.some.inj h6
 exact round_e ⟨rfl, kp [2, 3]⟩
 intro e13 s14 o15
 obtain ⟨rfl, l16⟩ := o15
 refine inb_here ?_
 refine then_le (s' := ⟨24, [(2, .ref 1 0), (3, .asl 2 0 y5.length)], [.box (c_TNetwork a0), .box [.sl true 25 0 (fun _ => [])], aL 25 c_TRouter y5]⟩) (l16) ?_
 refine awp_seq ?_
 refine awp_le (s' := ⟨24, [(2, .ref 1 0), (3, sL 25 c_TRouter y5)], [.box (c_TNetwork a0), .box [.sl true 25 0 (fun _ => [])], aL 25 c_TRouter ([] : List TRouter)]⟩) (Le.trans (le_frz 3 2 25 c_TRouter y5 (fun i => c_TRouter (([] : List TRouter).getD i default)) (by kernel_rfl) (by kernel_rfl) (by kernel_rfl)) (kp [2, 3])) ?_
 refine rg0 [2] 2 ⟨24, [(2, .ref 1 0)], [.box (c_TNetwork a0), .box [sL 25 c_TRouter y5]]⟩ ?_
 refine then_n (awp_ret ?_)
 obtain rfl := Option.some.inj h12
 exact er0 (.agg [sL 25 c_TRouter y5])
theorem slices_Clone_int_int_ok (a0 : List Int) (r : List Int) (h : M.slices_Clone_int_int a0 = some r) : Fn Tryz.prog 77 [sL 1 (ci .i64) a0] (.pure (sL 1 (ci .i64) r)) := by
 unfold M.slices_Clone_int_int at h
 obtain ⟨hc, h1⟩ := gd_some h
 obtain rfl := Option.some.inj h1
 refine fn_pure Tryz.func77 rfl (by kernel_rfl) ?_
 refine awp_seq (rg0 [0] 0 ⟨8, [(0, sL 1 (ci .i64) a0)], []⟩ ?_)
 refine then_n (awp_seq (awp_seq (rg0 [0, 4] 0 ⟨8, [(0, sL 1 (ci .i64) a0), (4, .nilq a0.length)], []⟩ ?_)))
 refine then_n (nq a0.length (fun hz => ?_) ?_)
 refine awp_seq (rg0 [2] 0 ⟨8, [(2, .sl true 1 0 (fun _ => []))], []⟩ ?_)
 refine then_n (awp_ret (then_r ?_))
 exact er (.sl false 1 0 (fun _ => [])) (sub_nil0 hz)
 refine awp_skip (then_n (awp_seq (rgc [2] 1 ⟨8, [(2, .asl 0 0 (0 + a0.length))], [.arr 1 (0 + a0.length) (app (fun i => List.take 1 (List.drop (i * 1) [])) 0 (fun i => (ci .i64) (a0.getD i default)))]⟩ [decide (0 = 0) || decide (0 < a0.length), decide ((0 + a0.length) * 8 ≤ 140737488355328)] hc ?_)))
 refine then_n (awp_ret ?_)
 exact er (.sl false 1 (0 + a0.length) (fun i => (app (fun i => List.take 1 (List.drop (i * 1) [])) 0 (fun i => (ci .i64) (a0.getD i default))) (0 + i))) (sub_sl (Nat.zero_add _) (fun i hi => by rw [Nat.zero_add]; exact app_nil (ci .i64) _ a0 _ (fun _ _ => rfl) i hi))
theorem topo_Make_ok (a0 : TNetwork) (a1 : List Int) (r : TView × Int) (h : M.topo_Make a0 a1 = some r) : Fn Tryz.prog 41 [.agg (c_TNetwork a0), sL 1 (ci .i64) a1] (.pure (.tup [.agg (c_TView r.1), .int .i64 r.2])) := by
 unfold M.topo_Make at h
 refine fn_pure Tryz.func41 rfl (by kernel_rfl) ?_
 refine awp_seq (rg0 [1, 2, 4] 2 ⟨60, [(1, sL 1 (ci .i64) a1), (2, .ref 0 0), (4, .ref 1 0)], [.box (c_TNetwork a0), .box [.sl true 25 0 (fun _ => []), .sl true 4 0 (fun _ => []), .sl true 1 0 (fun _ => []), .sl true 1 0 (fun _ => [])]]⟩ ?_)
 refine then_n (awp_seq ?_)
 obtain ⟨r1, q1, h2⟩ := bind_some h
 refine rg [.pure (.tup [.agg (c_TTopology r1.1), .int .i64 r1.2])] [1, 2, 4, 6, 7] 3 ⟨60, [(1, sL 1 (ci .i64) a1), (2, .ref 0 0), (4, .ref 1 0), (6, .ref 2 0), (7, .int .i64 r1.2)], [.box (c_TNetwork a0), .box [.sl true 25 0 (fun _ => []), .sl true 4 0 (fun _ => []), .sl true 1 0 (fun _ => []), .sl true 1 0 (fun _ => [])], .box (c_TTopology r1.1)]⟩ [] [⟨true, 75, [.agg (c_TNetwork a0)], .pure (.tup [.agg (c_TTopology r1.1), .int .i64 r1.2])⟩] nil_all ⟨fun _ => topo_Build_ok a0 r1 q1, trivial⟩ ?_
 refine then_n (awp_seq (awp_seq (rg0 [1, 2, 4, 6, 7, 16] 3 ⟨60, [(1, sL 1 (ci .i64) a1), (2, .ref 0 0), (4, .ref 1 0), (6, .ref 2 0), (7, .int .i64 r1.2), (16, .bool (r1.2 != 0))], [.box (c_TNetwork a0), .box [.sl true 25 0 (fun _ => []), .sl true 4 0 (fun _ => []), .sl true 1 0 (fun _ => []), .sl true 1 0 (fun _ => [])], .box (c_TTopology r1.1)]⟩ ?_)))
 refine then_n ?_
 refine cnd (r1.2 != 0) (fun b3 => ?_) (fun b3 => ?_)
 have h4 := cond_t b3 h2
 refine awp_seq ?_
 cases h4
 have h5 := cond_f b3 h2
 refine awp_skip (then_n (awp_seq (awp_seq (rg0 [1, 2, 4, 6, 21] 3 ⟨60, [(1, sL 1 (ci .i64) a1), (2, .ref 0 0), (4, .ref 1 0), (6, .ref 2 0), (21, .bool (decide ((a1.length : Int) > 2)))], [.box (c_TNetwork a0), .box [.sl true 25 0 (fun _ => []), .sl true 4 0 (fun _ => []), .sl true 1 0 (fun _ => []), .sl true 1 0 (fun _ => [])], .box (c_TTopology r1.1)]⟩ ?_))))
 refine then_n ?_
 refine cnd (decide ((a1.length : Int) > 2)) (fun b6 => ?_) (fun b6 => ?_)
 have h7 := cond_t b6 h5
 refine awp_seq ?_
 cases h7
 have h8 := cond_f b6 h5
 refine awp_skip (then_n (awp_seq (awp_seq (rg0 [1, 2, 4, 6, 23, 24, 25] 3 ⟨60, [(1, sL 1 (ci .i64) a1), (2, .ref 0 0), (4, .ref 1 0), (6, .ref 2 0), (23, sL 1 (ci .i64) a1), (24, .int .i64 (a1.length : Int)), (25, .int .i64 0)], [.box (c_TNetwork a0), .box [.sl true 25 0 (fun _ => []), .sl true 4 0 (fun _ => []), .sl true 1 0 (fun _ => []), .sl true 1 0 (fun _ => [])], .box (c_TTopology r1.1)]⟩ ?_))))
 refine then_n (awp_block ?_)
 obtain ⟨y4, q13, h14⟩ := bind_some h8
 refine awp_le (s' := ⟨60, [(1, sL 1 (ci .i64) a1), (2, .ref 0 0), (4, .ref 1 0), (6, .ref 2 0), (23, sL 1 (ci .i64) a1), (24, .int .i64 (a1.length : Int)), (25, .int .i64 0)], [.box (c_TNetwork a0), .box [.sl true 25 0 (fun _ => []), .sl true 4 0 (fun _ => []), .sl true 1 0 (fun _ => []), .sl true 1 0 (fun _ => [])], .box (c_TTopology r1.1)]⟩) (le_rfl) ?_
 refine awp_mono (awp_loop (f := M.topo_Make_l1 a1) (S := fun (p2 : Int) => ⟨60, [(1, sL 1 (ci .i64) a1), (2, .ref 0 0), (4, .ref 1 0), (6, .ref 2 0), (23, sL 1 (ci .i64) a1), (24, .int .i64 (a1.length : Int)), (25, .int .i64 p2)], [.box (c_TNetwork a0), .box [.sl true 25 0 (fun _ => []), .sl true 4 0 (fun _ => []), .sl true 1 0 (fun _ => []), .sl true 1 0 (fun _ => [])], .box (c_TTopology r1.1)]⟩) (O := (fun z => OutE 0 (fun z => ⟨60, [(1, sL 1 (ci .i64) a1), (2, .ref 0 0), (4, .ref 1 0), (6, .ref 2 0)], [.box (c_TNetwork a0), .box [.sl true 25 0 (fun _ => []), .sl true 4 0 (fun _ => []), .sl true 1 0 (fun _ => []), .sl true 1 0 (fun _ => [])], .box (c_TTopology r1.1)]⟩) z)) ?_ (x := 0) (y := y4) (loopM_iter q13)) ?_
 intro p2 y3 h9
 unfold M.topo_Make_l1 at h9
 refine awp_seq (rg0 [1, 2, 4, 6, 23, 24, 25, 26] 3 ⟨60, [(1, sL 1 (ci .i64) a1), (2, .ref 0 0), (4, .ref 1 0), (6, .ref 2 0), (23, sL 1 (ci .i64) a1), (24, .int .i64 (a1.length : Int)), (25, .int .i64 p2), (26, .bool (decide (p2 < (a1.length : Int))))], [.box (c_TNetwork a0), .box [.sl true 25 0 (fun _ => []), .sl true 4 0 (fun _ => []), .sl true 1 0 (fun _ => []), .sl true 1 0 (fun _ => [])], .box (c_TTopology r1.1)]⟩ ?_)
 refine then_n (awp_seq ?_)
 refine cnd (decide (p2 < (a1.length : Int))) (fun b10 => ?_) (fun b10 => ?_)
 have h11 := cond_t b10 h9
 refine awp_skip (then_n (awp_seq (awp_block (awp_seq ?_))))
 cases h11
 have h12 := cond_f b10 h9
 refine awp_exit (then_e ?_)
 obtain rfl := Option.some.inj h12
 exact round_e ⟨rfl, kp [1, 2, 4, 6]⟩
 intro e15 s16 o17
 obtain ⟨rfl, l18⟩ := o17
 refine inb_here ?_
 refine then_le (s' := ⟨60, [(1, sL 1 (ci .i64) a1), (2, .ref 0 0), (4, .ref 1 0), (6, .ref 2 0)], [.box (c_TNetwork a0), .box [.sl true 25 0 (fun _ => []), .sl true 4 0 (fun _ => []), .sl true 1 0 (fun _ => []), .sl true 1 0 (fun _ => [])], .box (c_TTopology r1.1)]⟩) (l18) ?_
 refine awp_seq ?_
 obtain ⟨r5, q19, h20⟩ := bind_some h14
 obtain ⟨r6, q21, h22⟩ := bind_some h20
 refine rgw [.pure (.agg (c_TNetwork r5)), .pure (sL 1 (ci .i64) r6)] [4, 5] 2 ⟨60, [(4, .ref 1 0), (5, .int .i64 0)], [.box (c_TNetwork a0), .box [sL 25 c_TRouter r5.fRouters, sL 4 c_TDomain r1.1.fDomains, sL 1 (ci .i64) r1.1.fLinks, sL 1 (ci .i64) r6]]⟩ [] [⟨true, 76, [.agg (c_TNetwork a0)], .pure (.agg (c_TNetwork r5))⟩, ⟨true, 77, [sL 1 (ci .i64) a1], .pure (sL 1 (ci .i64) r6)⟩] nil_all ⟨fun _ => topo_copyNetwork_ok a0 r5 q19, fun _ => slices_Clone_int_int_ok a1 r6 q21, trivial⟩ ?_
 refine then_n (awp_ret ?_)
 obtain rfl := Option.some.inj h22
 exact er0 (.tup [.agg [sL 25 c_TRouter r5.fRouters, sL 4 c_TDomain r1.1.fDomains, sL 1 (ci .i64) r1.1.fLinks, sL 1 (ci .i64) r6], .int .i64 0])
theorem fib_recursive_ok (a0 : TRoute) (r : Bool) (h : M.fib_recursive a0 = some r) : Fn Tryz.prog 64 [.agg (c_TRoute a0)] (.pure (.bool r)) := by
 unfold M.fib_recursive at h
 refine fn_pure Tryz.func64 rfl (by kernel_rfl) ?_
 refine awp_seq (rg0 [1] 1 ⟨11, [(1, .ref 0 0)], [.box (c_TRoute a0)]⟩ ?_)
 refine then_n (awp_seq (rg0 [2] 0 ⟨11, [(2, .bool ((a0.fProto == 2) && (a0.fNext != 0)))], []⟩ ?_))
 refine then_n (awp_ret ?_)
 obtain rfl := Option.some.inj h
 exact er0 (.bool ((a0.fProto == 2) && (a0.fNext != 0)))
theorem static_Resolves_ok (a0 : List TRoute) (a1 : TPrefix) (a2 : Int) (r : Int) (h : M.static_Resolves a0 a1 a2 = some r) : Fn Tryz.prog 65 [sL 14 c_TRoute a0, .agg (c_TPrefix a1), .int .u32 a2] (.pure (.int .i64 r)) := by
 unfold M.static_Resolves at h
 refine fn_pure Tryz.func65 rfl (by kernel_rfl) ?_
 refine awp_seq (rg0 [0, 2, 4] 1 ⟨45, [(0, sL 14 c_TRoute a0), (2, .int .u32 a2), (4, .ref 0 0)], [.box (c_TPrefix a1)]⟩ ?_)
 refine then_n (awp_seq (rg0 [0, 2, 4, 7] 1 ⟨45, [(0, sL 14 c_TRoute a0), (2, .int .u32 a2), (4, .ref 0 0), (7, .int .i64 (-1))], [.box (c_TPrefix a1)]⟩ ?_))
 refine then_n (awp_seq (awp_seq (rg0 [0, 2, 4, 7, 10, 11, 12] 1 ⟨45, [(0, sL 14 c_TRoute a0), (2, .int .u32 a2), (4, .ref 0 0), (7, .int .i64 (-1)), (10, sL 14 c_TRoute a0), (11, .int .i64 (a0.length : Int)), (12, .int .i64 0)], [.box (c_TPrefix a1)]⟩ ?_)))
 refine then_n (awp_block ?_)
 obtain ⟨y5, q19, h20⟩ := bind_some h
 refine awp_le (s' := ⟨45, [(0, sL 14 c_TRoute a0), (2, .int .u32 a2), (4, .ref 0 0), (7, .int .i64 (-1)), (10, sL 14 c_TRoute a0), (11, .int .i64 (a0.length : Int)), (12, .int .i64 0)], [.box (c_TPrefix a1)]⟩) (le_rfl) ?_
 refine awp_mono (awp_loop (f := M.static_Resolves_l1 a0 a1 a2) (S := fun (p1 : Int × Int) => ⟨45, [(0, sL 14 c_TRoute a0), (2, .int .u32 a2), (4, .ref 0 0), (7, .int .i64 p1.1), (10, sL 14 c_TRoute a0), (11, .int .i64 (a0.length : Int)), (12, .int .i64 p1.2)], [.box (c_TPrefix a1)]⟩) (O := (fun z => OutE 0 (fun z => ⟨45, [(7, .int .i64 z)], []⟩) z)) ?_ (x := ((-1), 0)) (y := y5) (loopM_iter q19)) ?_
 intro p1 y2 h1
 unfold M.static_Resolves_l1 at h1
 refine awp_seq (rg0 [0, 2, 4, 7, 10, 11, 12, 13] 1 ⟨45, [(0, sL 14 c_TRoute a0), (2, .int .u32 a2), (4, .ref 0 0), (7, .int .i64 p1.1), (10, sL 14 c_TRoute a0), (11, .int .i64 (a0.length : Int)), (12, .int .i64 p1.2), (13, .bool (decide (p1.2 < (a0.length : Int))))], [.box (c_TPrefix a1)]⟩ ?_)
 refine then_n (awp_seq ?_)
 refine cnd (decide (p1.2 < (a0.length : Int))) (fun b2 => ?_) (fun b2 => ?_)
 have h3 := cond_t b2 h1
 refine awp_skip (then_n ?_)
 refine awp_join (fun (p3 : Int) => ⟨45, [(0, sL 14 c_TRoute a0), (2, .int .u32 a2), (4, .ref 0 0), (7, .int .i64 p3), (10, sL 14 c_TRoute a0), (11, .int .i64 (a0.length : Int)), (12, .int .i64 p1.2)], [.box (c_TPrefix a1)]⟩) (fun p3 => M.static_Resolves_k1 p1 p3 = some y2) ?_ ?_
 intro p3 h6
 unfold M.static_Resolves_k1 at h6
 refine rg0 [0, 2, 4, 7, 10, 11, 12] 1 ⟨45, [(0, sL 14 c_TRoute a0), (2, .int .u32 a2), (4, .ref 0 0), (7, .int .i64 p3), (10, sL 14 c_TRoute a0), (11, .int .i64 (a0.length : Int)), (12, .int .i64 (wr .i64 (p1.2 + 1)))], [.box (c_TPrefix a1)]⟩ ?_
 obtain rfl := Option.some.inj h6
 exact round_n (le_rfl)
 intro k5
 refine awp_block (awp_seq ?_)
 obtain ⟨c7, h8⟩ := gd_some h3
 refine rgc [0, 2, 4, 7, 8, 9, 10, 11, 12] 2 ⟨45, [(0, sL 14 c_TRoute a0), (2, .int .u32 a2), (4, .ref 0 0), (7, .int .i64 p1.1), (8, .int .i64 p1.2), (9, .ref 1 0), (10, sL 14 c_TRoute a0), (11, .int .i64 (a0.length : Int)), (12, .int .i64 p1.2)], [.box (c_TPrefix a1), .box (c_TRoute (a0.getD p1.2.toNat default))]⟩ [decide (0 ≤ p1.2), decide (p1.2 < (a0.length : Int))] c7 ?_
 refine then_n (awp_seq (awp_seq ?_))
 obtain ⟨r4, q9, h10⟩ := bind_some h8
 refine rg [.pure (.bool r4)] [0, 2, 4, 7, 8, 9, 10, 11, 12, 27] 2 ⟨45, [(0, sL 14 c_TRoute a0), (2, .int .u32 a2), (4, .ref 0 0), (7, .int .i64 p1.1), (8, .int .i64 p1.2), (9, .ref 1 0), (10, sL 14 c_TRoute a0), (11, .int .i64 (a0.length : Int)), (12, .int .i64 p1.2), (27, .bool ((((((a0.getD p1.2.toNat default).fPrefix).fAddr) == a1.fAddr) && (((((a0.getD p1.2.toNat default).fPrefix).fLen) == a1.fLen) && true)) || (!r4)))], [.box (c_TPrefix a1), .box (c_TRoute (a0.getD p1.2.toNat default))]⟩ [] [⟨(!(((((a0.getD p1.2.toNat default).fPrefix).fAddr) == a1.fAddr) && (((((a0.getD p1.2.toNat default).fPrefix).fLen) == a1.fLen) && true))), 45, [.agg (c_TPrefix ((a0.getD p1.2.toNat default).fPrefix)), .int .u32 a2], .pure (.bool r4)⟩] nil_all ⟨fun hg => addr_Contains_ok ((a0.getD p1.2.toNat default).fPrefix) a2 r4 (gc_some q9 hg), trivial⟩ ?_
 refine then_n ?_
 refine cnd ((((((a0.getD p1.2.toNat default).fPrefix).fAddr) == a1.fAddr) && (((((a0.getD p1.2.toNat default).fPrefix).fLen) == a1.fLen) && true)) || (!r4)) (fun b11 => ?_) (fun b11 => ?_)
 have h12 := cond_t b11 h10
 refine awp_exit (then_e (inb_here ?_))
 exact then_le (Le.trans (s' := ⟨45, [(0, sL 14 c_TRoute a0), (2, .int .u32 a2), (4, .ref 0 0), (7, .int .i64 p1.1), (10, sL 14 c_TRoute a0), (11, .int .i64 (a0.length : Int)), (12, .int .i64 p1.2)], [.box (c_TPrefix a1), .box (c_TRoute (a0.getD p1.2.toNat default))]⟩) (kp [0, 2, 4, 7, 10, 11, 12]) (le_cut (n := 1) (by kernel_rfl))) (k5 p1.1 h12)
 have h13 := cond_f b11 h10
 refine awp_skip (then_n (awp_seq ?_))
 obtain ⟨c14, h15⟩ := gd_some h13
 refine rgc [0, 2, 4, 7, 8, 10, 11, 12, 41] 1 ⟨45, [(0, sL 14 c_TRoute a0), (2, .int .u32 a2), (4, .ref 0 0), (7, .int .i64 p1.1), (8, .int .i64 p1.2), (10, sL 14 c_TRoute a0), (11, .int .i64 (a0.length : Int)), (12, .int .i64 p1.2), (41, .bool ((decide (p1.1 < 0)) || (decide ((((a0.getD p1.2.toNat default).fPrefix).fLen) > (((a0.getD p1.1.toNat default).fPrefix).fLen)))))], [.box (c_TPrefix a1)]⟩ [guardB (!(decide (p1.1 < 0))) (decide (0 ≤ p1.1)), guardB (!(decide (p1.1 < 0))) (decide (p1.1 < (a0.length : Int)))] c14 ?_
 refine then_n ?_
 refine cnd ((decide (p1.1 < 0)) || (decide ((((a0.getD p1.2.toNat default).fPrefix).fLen) > (((a0.getD p1.1.toNat default).fPrefix).fLen)))) (fun b16 => ?_) (fun b16 => ?_)
 have h17 := cond_t b16 h15
 refine rg0 [0, 2, 4, 7, 10, 11, 12] 1 ⟨45, [(0, sL 14 c_TRoute a0), (2, .int .u32 a2), (4, .ref 0 0), (7, .int .i64 p1.2), (10, sL 14 c_TRoute a0), (11, .int .i64 (a0.length : Int)), (12, .int .i64 p1.2)], [.box (c_TPrefix a1)]⟩ ?_
 refine inb_n ?_
 exact then_le (le_rfl) (k5 p1.2 h17)
 have h18 := cond_f b16 h15
 refine awp_skip (inb_n ?_)
 exact then_le (kp [0, 2, 4, 7, 10, 11, 12]) (k5 p1.1 h18)
 have h4 := cond_f b2 h1
 refine awp_exit (then_e ?_)
 obtain rfl := Option.some.inj h4
 exact round_e ⟨rfl, Le.trans (s' := ⟨45, [(7, .int .i64 p1.1)], [.box (c_TPrefix a1)]⟩) (kp [7]) (le_cut (n := 0) (by kernel_rfl))⟩
 intro e21 s22 o23
 obtain ⟨rfl, l24⟩ := o23
 refine inb_here ?_
 refine then_le (s' := ⟨45, [(7, .int .i64 y5)], []⟩) (l24) ?_
 refine awp_seq (rg0 [6] 0 ⟨45, [(6, .int .i64 y5)], []⟩ ?_)
 refine then_n (awp_ret ?_)
 obtain rfl := Option.some.inj h20
 exact er0 (.int .i64 y5)
theorem fib_through_ok (a0 : List THop) (a1 : Int) (r : (List THop)) (h : M.fib_through a0 a1 = some r) : Fn Tryz.prog 66 [sL 2 c_THop a0, .int .u32 a1] (.pure (sL 2 c_THop r)) := by
 unfold M.fib_through at h
 refine fn_pure Tryz.func66 rfl (by kernel_rfl) ?_
 refine awp_seq (rg0 [0, 1] 0 ⟨27, [(0, sL 2 c_THop a0), (1, .int .u32 a1)], []⟩ ?_)
 refine then_n (awp_seq ?_)
 obtain ⟨r1, q1, h2⟩ := bind_some h
 refine rg [oL 2 c_THop r1] [1, 5] 1 ⟨27, [(1, .int .u32 a1), (5, .asl 0 0 r1.length)], [aL 2 c_THop r1]⟩ [] [⟨true, 52, [sL 2 c_THop a0], oL 2 c_THop r1⟩] nil_all ⟨fun _ => slices_Clone_api_Hop_api_Hop_own a0 r1 q1, trivial⟩ ?_
 refine then_n (awp_seq (awp_seq (rg0 [1, 5, 10, 11, 12] 1 ⟨27, [(1, .int .u32 a1), (5, .asl 0 0 r1.length), (10, .asl 0 0 r1.length), (11, .int .i64 (r1.length : Int)), (12, .int .i64 0)], [aL 2 c_THop r1]⟩ ?_)))
 refine then_n (awp_block ?_)
 obtain ⟨y5, q16, h17⟩ := bind_some h2
 refine awp_le (s' := ⟨27, [(1, .int .u32 a1), (5, .asl 0 0 r1.length), (10, .asl 0 0 r1.length), (11, .int .i64 (r1.length : Int)), (12, .int .i64 0)], [aL 2 c_THop r1]⟩) (le_rfl) ?_
 refine awp_mono (awp_loop (f := M.fib_through_l1 a1 r1) (S := fun (p2 : (List THop) × Int) => ⟨27, [(1, .int .u32 a1), (5, .asl 0 0 p2.1.length), (10, .asl 0 0 p2.1.length), (11, .int .i64 (r1.length : Int)), (12, .int .i64 p2.2)], [aL 2 c_THop p2.1]⟩) (O := (fun z => OutE 0 (fun z => ⟨27, [(5, .asl 0 0 z.length)], [aL 2 c_THop z]⟩) z)) ?_ (x := (r1, 0)) (y := y5) (loopM_iter q16)) ?_
 intro p2 y3 h3
 unfold M.fib_through_l1 at h3
 refine awp_seq (rg0 [1, 5, 10, 11, 12, 13] 1 ⟨27, [(1, .int .u32 a1), (5, .asl 0 0 p2.1.length), (10, .asl 0 0 p2.1.length), (11, .int .i64 (r1.length : Int)), (12, .int .i64 p2.2), (13, .bool (decide (p2.2 < (r1.length : Int))))], [aL 2 c_THop p2.1]⟩ ?_)
 refine then_n (awp_seq ?_)
 refine cnd (decide (p2.2 < (r1.length : Int))) (fun b4 => ?_) (fun b4 => ?_)
 have h5 := cond_t b4 h3
 refine awp_skip (then_n ?_)
 refine awp_join (fun (p4 : (List THop)) => ⟨27, [(1, .int .u32 a1), (5, .asl 0 0 p4.length), (10, .asl 0 0 p4.length), (11, .int .i64 (r1.length : Int)), (12, .int .i64 p2.2)], [aL 2 c_THop p4]⟩) (fun p4 => M.fib_through_k1 p2 p4 = some y3) ?_ ?_
 intro p4 h8
 unfold M.fib_through_k1 at h8
 refine rg0 [1, 5, 10, 11, 12] 1 ⟨27, [(1, .int .u32 a1), (5, .asl 0 0 p4.length), (10, .asl 0 0 p4.length), (11, .int .i64 (r1.length : Int)), (12, .int .i64 (wr .i64 (p2.2 + 1)))], [aL 2 c_THop p4]⟩ ?_
 obtain rfl := Option.some.inj h8
 exact round_n (le_rfl)
 intro k7
 refine awp_block (awp_seq ?_)
 obtain ⟨c9, h10⟩ := gd_some h5
 refine rgc [1, 5, 6, 7, 10, 11, 12] 2 ⟨27, [(1, .int .u32 a1), (5, .asl 0 0 p2.1.length), (6, .int .i64 p2.2), (7, .ref 1 0), (10, .asl 0 0 p2.1.length), (11, .int .i64 (r1.length : Int)), (12, .int .i64 p2.2)], [aL 2 c_THop p2.1, .box (c_THop (p2.1.getD (0 + p2.2.toNat) default))]⟩ [decide (0 ≤ p2.2), decide (p2.2 < (p2.1.length : Int))] c9 ?_
 refine then_n (awp_seq (rg0 [1, 5, 6, 10, 11, 12, 19] 1 ⟨27, [(1, .int .u32 a1), (5, .asl 0 0 p2.1.length), (6, .int .i64 p2.2), (10, .asl 0 0 p2.1.length), (11, .int .i64 (r1.length : Int)), (12, .int .i64 p2.2), (19, .bool (((p2.1.getD (0 + p2.2.toNat) default).fAddr) == 0))], [aL 2 c_THop p2.1]⟩ ?_))
 refine then_n ?_
 refine cnd (((p2.1.getD (0 + p2.2.toNat) default).fAddr) == 0) (fun b11 => ?_) (fun b11 => ?_)
 have h12 := cond_t b11 h10
 obtain ⟨c14, h15⟩ := gd_some h12
 refine rgc [1, 5, 10, 11, 12] 1 ⟨27, [(1, .int .u32 a1), (5, .asl 0 0 p2.1.length), (10, .asl 0 0 p2.1.length), (11, .int .i64 (r1.length : Int)), (12, .int .i64 p2.2)], [.arr 2 p2.1.length (fun j => bif Nat.beq j (0 + p2.2.toNat) then splice (c_THop (p2.1.getD (0 + p2.2.toNat) default)) [.int .u32 a1] 1 else c_THop (p2.1.getD j default))]⟩ [decide (0 ≤ p2.2), decide (p2.2 < (p2.1.length : Int))] c14 ?_
 refine inb_n ?_
 exact then_le (le_sub (.cons Sub.rfl (.cons (asl_len (by simp)) (.cons (asl_len (by simp)) (.cons Sub.rfl (.cons Sub.rfl .nil))))) (.cons (.arr (by simp) (set_ext c_THop p2.1 (0 + p2.2.toNat) (⟨(p2.1.getD (0 + p2.2.toNat) default).fIface, a1⟩ : THop) _ rfl)) .nil)) (k7 (p2.1.set (0 + p2.2.toNat) (⟨(p2.1.getD (0 + p2.2.toNat) default).fIface, a1⟩ : THop)) h15)
 have h13 := cond_f b11 h10
 refine awp_skip (inb_n ?_)
 exact then_le (kp [1, 5, 10, 11, 12]) (k7 p2.1 h13)
 have h6 := cond_f b4 h3
 refine awp_exit (then_e ?_)
 obtain rfl := Option.some.inj h6
 exact round_e ⟨rfl, kp [5]⟩
 intro e18 s19 o20
 obtain ⟨rfl, l21⟩ := o20
 refine inb_here ?_
 refine then_le (s' := ⟨27, [(5, .asl 0 0 y5.length)], [aL 2 c_THop y5]⟩) (l21) ?_
 refine awp_seq (rg0 [4] 1 ⟨27, [(4, .asl 0 0 y5.length)], [aL 2 c_THop y5]⟩ ?_)
 refine then_n (awp_ret ?_)
 obtain rfl := Option.some.inj h17
 exact er (.sl false 2 y5.length (fun i => c_THop (y5.getD (0 + i) default))) sub_asl
theorem fib_resolve_ok (a0 : List TRoute) (a1 : Int) (r : (List THop)) (h : M.fib_resolve a0 a1 = some r) : Fn Tryz.prog 30 [sL 14 c_TRoute a0, .int .i64 a1] (.pure (sL 2 c_THop r)) := by
 unfold M.fib_resolve at h
 refine fn_pure Tryz.func30 rfl (by kernel_rfl) ?_
 refine awp_seq (rg0 [0, 1] 0 ⟨86, [(0, sL 14 c_TRoute a0), (1, .int .i64 a1)], []⟩ ?_)
 refine then_n (awp_seq ?_)
 obtain ⟨c1, h2⟩ := gd_some h
 refine rgc [0, 1, 5] 1 ⟨86, [(0, sL 14 c_TRoute a0), (1, .int .i64 a1), (5, .asl 0 0 ((a0.length : Int).toNat))], [.arr 1 ((a0.length : Int).toNat) (fun _ => [.bool false])]⟩ [decide (0 ≤ (a0.length : Int)), decide ((a0.length : Int) ≤ (a0.length : Int)), decide ((a0.length : Int).toNat * 1 ≤ 140737488355328), decide ((a0.length : Int).toNat ≤ 140737488355328)] c1 ?_
 refine then_le (s' := ⟨86, [(0, sL 14 c_TRoute a0), (1, .int .i64 a1), (5, .asl 0 0 ((List.replicate ((a0.length : Int).toNat) false).length))], [aL 1 cb (List.replicate ((a0.length : Int).toNat) false)]⟩) (le_sub (.cons Sub.rfl (.cons Sub.rfl (.cons (asl_len (by simp)) .nil))) (.cons (.arr (by simp) (rep_ext cb _ false _ rfl)) .nil)) ?_
 refine awp_seq (awp_block ?_)
 obtain ⟨y7, q35, h36⟩ := bind_some h2
 refine awp_le (s' := ⟨86, [(0, sL 14 c_TRoute a0), (1, .int .i64 a1), (5, .asl 0 0 ((List.replicate ((a0.length : Int).toNat) false).length))], [aL 1 cb (List.replicate ((a0.length : Int).toNat) false)]⟩) (le_rfl) ?_
 refine awp_mono (awp_loop (f := M.fib_resolve_l1 a0) (S := fun (p1 : Int) => ⟨86, [(0, sL 14 c_TRoute a0), (1, .int .i64 p1), (5, .asl 0 0 ((List.replicate ((a0.length : Int).toNat) false).length))], [aL 1 cb (List.replicate ((a0.length : Int).toNat) false)]⟩) (O := (Sum.elim (fun z => OutE 0 (fun z => ⟨86, [(0, sL 14 c_TRoute a0), (1, .int .i64 z)], []⟩) z) (fun z => OutR Tryz.prog Tryz.f30 (sL 2 c_THop z)))) ?_ (x := a1) (y := y7) (loopM_iter q35)) ?_
 intro p1 y2 h3
 unfold M.fib_resolve_l1 at h3
 refine awp_seq (awp_seq ?_)
 obtain ⟨r3, q4, h5⟩ := bind_some h3
 obtain ⟨c6, h7⟩ := gd_some h5
 refine rg [.pure (.bool r3)] [0, 1, 5, 23] 1 ⟨86, [(0, sL 14 c_TRoute a0), (1, .int .i64 p1), (5, .asl 0 0 ((List.replicate ((a0.length : Int).toNat) false).length)), (23, .bool ((!((a0.getD p1.toNat default).fDiscard)) && r3))], [aL 1 cb (List.replicate ((a0.length : Int).toNat) false)]⟩ [decide (0 ≤ p1), decide (p1 < (a0.length : Int)), guardB (!((a0.getD p1.toNat default).fDiscard)) (decide (0 ≤ p1)), guardB (!((a0.getD p1.toNat default).fDiscard)) (decide (p1 < (a0.length : Int)))] [⟨!((a0.getD p1.toNat default).fDiscard), 64, [.agg (c_TRoute (a0.getD p1.toNat default))], .pure (.bool r3)⟩] c6 ⟨fun hg => fib_recursive_ok (a0.getD p1.toNat default) r3 (gc_some q4 hg), trivial⟩ ?_
 refine then_n ?_
 refine cnd ((!((a0.getD p1.toNat default).fDiscard)) && r3) (fun b8 => ?_) (fun b8 => ?_)
 have h9 := cond_t b8 h7
 refine awp_skip (then_n (awp_block (awp_seq ?_)))
 obtain ⟨c11, h12⟩ := gd_some h9
 refine rgc [0, 1, 5] 1 ⟨86, [(0, sL 14 c_TRoute a0), (1, .int .i64 p1), (5, .asl 0 0 ((List.replicate ((a0.length : Int).toNat) false).length))], [.arr 1 ((List.replicate ((a0.length : Int).toNat) false).length) (fun j => bif Nat.beq j (0 + p1.toNat) then splice (cb ((List.replicate ((a0.length : Int).toNat) false).getD (0 + p1.toNat) default)) [.bool true] 0 else cb ((List.replicate ((a0.length : Int).toNat) false).getD j default))]⟩ [decide (0 ≤ p1), decide (p1 < ((List.replicate ((a0.length : Int).toNat) false).length : Int))] c11 ?_
 refine then_le (s' := ⟨86, [(0, sL 14 c_TRoute a0), (1, .int .i64 p1), (5, .asl 0 0 (((List.replicate ((a0.length : Int).toNat) false).set (0 + p1.toNat) true).length))], [aL 1 cb ((List.replicate ((a0.length : Int).toNat) false).set (0 + p1.toNat) true)]⟩) (le_sub (.cons Sub.rfl (.cons Sub.rfl (.cons (asl_len (by simp)) .nil))) (.cons (.arr (by simp) (set_ext cb (List.replicate ((a0.length : Int).toNat) false) (0 + p1.toNat) true _ rfl)) .nil)) ?_
 refine awp_seq ?_
 obtain ⟨c13, h14⟩ := gd_some h12
 refine rgc [0, 1, 5, 6] 1 ⟨86, [(0, sL 14 c_TRoute a0), (1, .int .i64 p1), (5, .asl 0 0 (((List.replicate ((a0.length : Int).toNat) false).set (0 + p1.toNat) true).length)), (6, .int .u32 ((a0.getD p1.toNat default).fNext))], [aL 1 cb ((List.replicate ((a0.length : Int).toNat) false).set (0 + p1.toNat) true)]⟩ [decide (0 ≤ p1), decide (p1 < (a0.length : Int))] c13 ?_
 refine then_n (awp_seq ?_)
 obtain ⟨r4, q15, h16⟩ := bind_some h14
 obtain ⟨c17, h18⟩ := gd_some h16
 refine rg [.pure (.int .i64 r4)] [0, 5, 6, 7] 1 ⟨86, [(0, sL 14 c_TRoute a0), (5, .asl 0 0 (((List.replicate ((a0.length : Int).toNat) false).set (0 + p1.toNat) true).length)), (6, .int .u32 ((a0.getD p1.toNat default).fNext)), (7, .int .i64 r4)], [aL 1 cb ((List.replicate ((a0.length : Int).toNat) false).set (0 + p1.toNat) true)]⟩ [decide (0 ≤ p1), decide (p1 < (a0.length : Int))] [⟨true, 65, [sL 14 c_TRoute a0, .agg (c_TPrefix ((a0.getD p1.toNat default).fPrefix)), .int .u32 ((a0.getD p1.toNat default).fNext)], .pure (.int .i64 r4)⟩] c17 ⟨fun _ => static_Resolves_ok a0 ((a0.getD p1.toNat default).fPrefix) ((a0.getD p1.toNat default).fNext) r4 q15, trivial⟩ ?_
 refine then_n (awp_seq (awp_seq ?_))
 obtain ⟨c19, h20⟩ := gd_some h18
 refine rgc [0, 5, 6, 7, 53] 1 ⟨86, [(0, sL 14 c_TRoute a0), (5, .asl 0 0 (((List.replicate ((a0.length : Int).toNat) false).set (0 + p1.toNat) true).length)), (6, .int .u32 ((a0.getD p1.toNat default).fNext)), (7, .int .i64 r4), (53, .bool (((decide (r4 < 0)) || (decide (r4 ≥ (a0.length : Int)))) || (((List.replicate ((a0.length : Int).toNat) false).set (0 + p1.toNat) true).getD (0 + r4.toNat) default)))], [aL 1 cb ((List.replicate ((a0.length : Int).toNat) false).set (0 + p1.toNat) true)]⟩ [guardB (!((decide (r4 < 0)) || (decide (r4 ≥ (a0.length : Int))))) (decide (0 ≤ r4)), guardB (!((decide (r4 < 0)) || (decide (r4 ≥ (a0.length : Int))))) (decide (r4 < ((((List.replicate ((a0.length : Int).toNat) false).set (0 + p1.toNat) true).length : Nat) : Int)))] c19 ?_
 refine then_n ?_
 refine cnd (((decide (r4 < 0)) || (decide (r4 ≥ (a0.length : Int)))) || (((List.replicate ((a0.length : Int).toNat) false).set (0 + p1.toNat) true).getD (0 + r4.toNat) default)) (fun b21 => ?_) (fun b21 => ?_)
 have h22 := cond_t b21 h20
 refine awp_seq ?_
 cases h22
 have h23 := cond_f b21 h20
 refine awp_skip (then_n (awp_seq (awp_seq ?_)))
 obtain ⟨r5, q24, h25⟩ := bind_some h23
 obtain ⟨c26, h27⟩ := gd_some h25
 refine rg [.pure (.bool r5)] [0, 5, 6, 7, 67] 1 ⟨86, [(0, sL 14 c_TRoute a0), (5, .asl 0 0 (((List.replicate ((a0.length : Int).toNat) false).set (0 + p1.toNat) true).length)), (6, .int .u32 ((a0.getD p1.toNat default).fNext)), (7, .int .i64 r4), (67, .bool ((!((a0.getD r4.toNat default).fDiscard)) && (!r5)))], [aL 1 cb ((List.replicate ((a0.length : Int).toNat) false).set (0 + p1.toNat) true)]⟩ [decide (0 ≤ r4), decide (r4 < (a0.length : Int)), guardB (!((a0.getD r4.toNat default).fDiscard)) (decide (0 ≤ r4)), guardB (!((a0.getD r4.toNat default).fDiscard)) (decide (r4 < (a0.length : Int)))] [⟨!((a0.getD r4.toNat default).fDiscard), 64, [.agg (c_TRoute (a0.getD r4.toNat default))], .pure (.bool r5)⟩] c26 ⟨fun hg => fib_recursive_ok (a0.getD r4.toNat default) r5 (gc_some q24 hg), trivial⟩ ?_
 refine then_n ?_
 refine cnd ((!((a0.getD r4.toNat default).fDiscard)) && (!r5)) (fun b28 => ?_) (fun b28 => ?_)
 have h29 := cond_t b28 h27
 refine awp_seq ?_
 obtain ⟨r6, q31, h32⟩ := bind_some h29
 obtain ⟨c33, h34⟩ := gd_some h32
 refine rg [.pure (sL 2 c_THop r6)] [4] 0 ⟨86, [(4, sL 2 c_THop r6)], []⟩ [decide (0 ≤ r4), decide (r4 < (a0.length : Int))] [⟨true, 66, [sL 2 c_THop ((a0.getD r4.toNat default).fHops), .int .u32 ((a0.getD p1.toNat default).fNext)], .pure (sL 2 c_THop r6)⟩] c33 ⟨fun _ => fib_through_ok ((a0.getD r4.toNat default).fHops) ((a0.getD p1.toNat default).fNext) r6 q31, trivial⟩ ?_
 refine then_n (awp_ret (then_r (inb_r ?_)))
 obtain rfl := Option.some.inj h34
 exact round_r ⟨rfl, er0 (sL 2 c_THop r6)⟩
 have h30 := cond_f b28 h27
 refine awp_skip (then_n ?_)
 cases h30
 have h10 := cond_f b8 h7
 refine awp_exit (then_e ?_)
 obtain rfl := Option.some.inj h10
 exact round_e ⟨rfl, Le.trans (s' := ⟨86, [(0, sL 14 c_TRoute a0), (1, .int .i64 p1)], [aL 1 cb (List.replicate ((a0.length : Int).toNat) false)]⟩) (kp [0, 1]) (le_cut (n := 0) (by kernel_rfl))⟩
 intro e37 s38 o39
 rcases y7 with g8 | y9
 have h40 := elim_l h36
 obtain ⟨rfl, l42⟩ := o39
 refine inb_here ?_
 refine then_le (s' := ⟨86, [(0, sL 14 c_TRoute a0), (1, .int .i64 g8)], []⟩) (l42) ?_
 refine awp_seq (awp_seq ?_)
 obtain ⟨c43, h44⟩ := gd_some h40
 refine rgc [0, 1, 80] 0 ⟨86, [(0, sL 14 c_TRoute a0), (1, .int .i64 g8), (80, .bool ((a0.getD g8.toNat default).fDiscard))], []⟩ [decide (0 ≤ g8), decide (g8 < (a0.length : Int))] c43 ?_
 refine then_n ?_
 refine cnd ((a0.getD g8.toNat default).fDiscard) (fun b45 => ?_) (fun b45 => ?_)
 have h46 := cond_t b45 h44
 refine awp_seq ?_
 cases h46
 have h47 := cond_f b45 h44
 refine awp_skip (then_n (awp_seq ?_))
 obtain ⟨c48, h49⟩ := gd_some h47
 refine rgc [4] 0 ⟨86, [(4, sL 2 c_THop ((a0.getD g8.toNat default).fHops))], []⟩ [decide (0 ≤ g8), decide (g8 < (a0.length : Int))] c48 ?_
 refine then_n (awp_ret ?_)
 obtain rfl := Option.some.inj h49
 exact er0 (sL 2 c_THop ((a0.getD g8.toNat default).fHops))
 have h41 := elim_r h36
 obtain ⟨rfl, n50⟩ := o39
 refine inb_r (then_r ?_)
 obtain rfl := Option.some.inj h41
 exact n50
theorem slices_Index_api_End_api_End_ok (a0 : List TEnd) (a1 : TEnd) (r : Int) (h : M.slices_Index_api_End_api_End a0 a1 = some r) : Fn Tryz.prog 117 [sL 2 c_TEnd a0, .agg (c_TEnd a1)] (.pure (.int .i64 r)) := by
 unfold M.slices_Index_api_End_api_End at h
 refine fn_pure Tryz.func117 rfl (by kernel_rfl) ?_
 refine awp_seq (rg0 [0, 3] 1 ⟨19, [(0, sL 2 c_TEnd a0), (3, .ref 0 0)], [.box (c_TEnd a1)]⟩ ?_)
 refine then_n (awp_seq (awp_seq (rg0 [0, 3, 7, 8] 1 ⟨19, [(0, sL 2 c_TEnd a0), (3, .ref 0 0), (7, .int .i64 (a0.length : Int)), (8, .int .i64 0)], [.box (c_TEnd a1)]⟩ ?_)))
 refine then_n (awp_block ?_)
 obtain ⟨y3, q10, h11⟩ := bind_some h
 refine awp_le (s' := ⟨19, [(0, sL 2 c_TEnd a0), (3, .ref 0 0), (7, .int .i64 (a0.length : Int)), (8, .int .i64 0)], [.box (c_TEnd a1)]⟩) (le_rfl) ?_
 refine awp_mono (awp_loop (f := M.slices_Index_api_End_api_End_l1 a0 a1) (S := fun (p1 : Int) => ⟨19, [(0, sL 2 c_TEnd a0), (3, .ref 0 0), (7, .int .i64 (a0.length : Int)), (8, .int .i64 p1)], [.box (c_TEnd a1)]⟩) (O := (Sum.elim (fun z => OutE 0 (fun z => ⟨19, [], []⟩) z) (fun z => OutR Tryz.prog Tryz.f117 (.int .i64 z)))) ?_ (x := 0) (y := y3) (loopM_iter q10)) ?_
 intro p1 y2 h1
 unfold M.slices_Index_api_End_api_End_l1 at h1
 refine awp_seq (rg0 [0, 3, 7, 8, 9] 1 ⟨19, [(0, sL 2 c_TEnd a0), (3, .ref 0 0), (7, .int .i64 (a0.length : Int)), (8, .int .i64 p1), (9, .bool (decide (p1 < (a0.length : Int))))], [.box (c_TEnd a1)]⟩ ?_)
 refine then_n (awp_seq ?_)
 refine cnd (decide (p1 < (a0.length : Int))) (fun b2 => ?_) (fun b2 => ?_)
 have h3 := cond_t b2 h1
 refine awp_skip (then_n (awp_seq (awp_block (awp_seq (rg0 [0, 3, 5, 7, 8] 1 ⟨19, [(0, sL 2 c_TEnd a0), (3, .ref 0 0), (5, .int .i64 p1), (7, .int .i64 (a0.length : Int)), (8, .int .i64 p1)], [.box (c_TEnd a1)]⟩ ?_)))))
 refine then_n (awp_seq ?_)
 obtain ⟨c5, h6⟩ := gd_some h3
 refine rgc [0, 3, 5, 7, 8, 16] 1 ⟨19, [(0, sL 2 c_TEnd a0), (3, .ref 0 0), (5, .int .i64 p1), (7, .int .i64 (a0.length : Int)), (8, .int .i64 p1), (16, .bool ((a1.fRouter == ((a0.getD p1.toNat default).fRouter)) && ((a1.fIface == ((a0.getD p1.toNat default).fIface)) && true)))], [.box (c_TEnd a1)]⟩ [decide (0 ≤ p1), decide (p1 < (a0.length : Int))] c5 ?_
 refine then_n ?_
 refine cnd ((a1.fRouter == ((a0.getD p1.toNat default).fRouter)) && ((a1.fIface == ((a0.getD p1.toNat default).fIface)) && true)) (fun b7 => ?_) (fun b7 => ?_)
 have h8 := cond_t b7 h6
 refine awp_seq (rg0 [4] 0 ⟨19, [(4, .int .i64 p1)], []⟩ ?_)
 refine then_n (awp_ret (inb_r (then_r ?_)))
 obtain rfl := Option.some.inj h8
 exact round_r ⟨rfl, er0 (.int .i64 p1)⟩
 have h9 := cond_f b7 h6
 refine awp_skip (inb_n (then_n ?_))
 cases h9
 have h4 := cond_f b2 h1
 refine awp_exit (then_e ?_)
 obtain rfl := Option.some.inj h4
 exact round_e ⟨rfl, Le.trans (s' := ⟨19, [], [.box (c_TEnd a1)]⟩) (kp []) (le_cut (n := 0) (by kernel_rfl))⟩
 intro e12 s13 o14
 rcases y3 with g4 | y5
 have h15 := elim_l h11
 obtain ⟨rfl, l17⟩ := o14
 refine inb_here ?_
 refine then_le (s' := ⟨19, [], []⟩) (l17) ?_
 refine awp_seq ?_
 cases h15
 have h16 := elim_r h11
 obtain ⟨rfl, n18⟩ := o14
 refine inb_r (then_r ?_)
 obtain rfl := Option.some.inj h16
 exact n18
theorem slices_Contains_api_End_api_End_ok (a0 : List TEnd) (a1 : TEnd) (r : Bool) (h : M.slices_Contains_api_End_api_End a0 a1 = some r) : Fn Tryz.prog 86 [sL 2 c_TEnd a0, .agg (c_TEnd a1)] (.pure (.bool r)) := by
 unfold M.slices_Contains_api_End_api_End at h
 refine fn_pure Tryz.func86 rfl (by kernel_rfl) ?_
 refine awp_seq (rg0 [0, 3] 1 ⟨9, [(0, sL 2 c_TEnd a0), (3, .ref 0 0)], [.box (c_TEnd a1)]⟩ ?_)
 refine then_n (awp_seq ?_)
 obtain ⟨r1, q1, h2⟩ := bind_some h
 refine rg [.pure (.int .i64 r1)] [4] 0 ⟨9, [(4, .bool (decide (r1 ≥ 0)))], []⟩ [] [⟨true, 117, [sL 2 c_TEnd a0, .agg (c_TEnd a1)], .pure (.int .i64 r1)⟩] nil_all ⟨fun _ => slices_Index_api_End_api_End_ok a0 a1 r1 q1, trivial⟩ ?_
 refine then_n (awp_ret ?_)
 obtain rfl := Option.some.inj h2
 exact er0 (.bool (decide (r1 ≥ 0)))
theorem topo_Domain_ok (a0 : TView) (a1 : Int) (a2 : Int) (r : Int) (h : M.topo_Domain a0 a1 a2 = some r) : Fn Tryz.prog 67 [.agg (c_TView a0), .int .i64 a1, .int .i64 a2] (.pure (.int .i64 r)) := by
 unfold M.topo_Domain at h
 refine fn_pure Tryz.func67 rfl (by kernel_rfl) ?_
 refine awp_seq (rg0 [1, 2, 3] 1 ⟨28, [(1, .int .i64 a1), (2, .int .i64 a2), (3, .ref 0 0)], [.box (c_TView a0)]⟩ ?_)
 refine then_n (awp_seq (rg0 [3, 7] 2 ⟨28, [(3, .ref 0 0), (7, .ref 1 0)], [.box (c_TView a0), .box [.int .i64 a1, .int .i64 a2]]⟩ ?_))
 refine then_n (awp_seq (awp_seq (rg0 [7, 15, 16, 17] 2 ⟨28, [(7, .ref 1 0), (15, sL 4 c_TDomain a0.fTopo.fDomains), (16, .int .i64 (a0.fTopo.fDomains.length : Int)), (17, .int .i64 0)], [.box (c_TView a0), .box [.int .i64 a1, .int .i64 a2]]⟩ ?_)))
 refine then_n (awp_block ?_)
 obtain ⟨y4, q12, h13⟩ := bind_some h
 refine awp_le (s' := ⟨28, [(7, .ref 1 0), (15, sL 4 c_TDomain a0.fTopo.fDomains), (16, .int .i64 (a0.fTopo.fDomains.length : Int)), (17, .int .i64 0)], [.box (c_TView a0), .box [.int .i64 a1, .int .i64 a2]]⟩) (le_rfl) ?_
 refine awp_mono (awp_loop (f := M.topo_Domain_l1 a0 a1 a2) (S := fun (p1 : Int) => ⟨28, [(7, .ref 1 0), (15, sL 4 c_TDomain a0.fTopo.fDomains), (16, .int .i64 (a0.fTopo.fDomains.length : Int)), (17, .int .i64 p1)], [.box (c_TView a0), .box [.int .i64 a1, .int .i64 a2]]⟩) (O := (Sum.elim (fun z => OutE 0 (fun z => ⟨28, [], []⟩) z) (fun z => OutR Tryz.prog Tryz.f67 (.int .i64 z)))) ?_ (x := 0) (y := y4) (loopM_iter q12)) ?_
 intro p1 y2 h1
 unfold M.topo_Domain_l1 at h1
 refine awp_seq (rg0 [7, 15, 16, 17, 18] 2 ⟨28, [(7, .ref 1 0), (15, sL 4 c_TDomain a0.fTopo.fDomains), (16, .int .i64 (a0.fTopo.fDomains.length : Int)), (17, .int .i64 p1), (18, .bool (decide (p1 < (a0.fTopo.fDomains.length : Int))))], [.box (c_TView a0), .box [.int .i64 a1, .int .i64 a2]]⟩ ?_)
 refine then_n (awp_seq ?_)
 refine cnd (decide (p1 < (a0.fTopo.fDomains.length : Int))) (fun b2 => ?_) (fun b2 => ?_)
 have h3 := cond_t b2 h1
 refine awp_skip (then_n (awp_seq (awp_block (awp_seq ?_))))
 obtain ⟨c5, h6⟩ := gd_some h3
 refine rgc [7, 8, 9, 15, 16, 17] 3 ⟨28, [(7, .ref 1 0), (8, .int .i64 p1), (9, .ref 2 0), (15, sL 4 c_TDomain a0.fTopo.fDomains), (16, .int .i64 (a0.fTopo.fDomains.length : Int)), (17, .int .i64 p1)], [.box (c_TView a0), .box [.int .i64 a1, .int .i64 a2], .box (c_TDomain (a0.fTopo.fDomains.getD p1.toNat default))]⟩ [decide (0 ≤ p1), decide (p1 < (a0.fTopo.fDomains.length : Int))] c5 ?_
 refine then_n (awp_seq ?_)
 obtain ⟨r3, q7, h8⟩ := bind_some h6
 refine rg [.pure (.bool r3)] [7, 8, 15, 16, 17, 25] 2 ⟨28, [(7, .ref 1 0), (8, .int .i64 p1), (15, sL 4 c_TDomain a0.fTopo.fDomains), (16, .int .i64 (a0.fTopo.fDomains.length : Int)), (17, .int .i64 p1), (25, .bool r3)], [.box (c_TView a0), .box [.int .i64 a1, .int .i64 a2]]⟩ [] [⟨true, 86, [sL 2 c_TEnd ((a0.fTopo.fDomains.getD p1.toNat default).fEnds), .agg [.int .i64 a1, .int .i64 a2]], .pure (.bool r3)⟩] nil_all ⟨fun _ => slices_Contains_api_End_api_End_ok ((a0.fTopo.fDomains.getD p1.toNat default).fEnds) (⟨a1, a2⟩ : TEnd) r3 q7, trivial⟩ ?_
 refine then_n ?_
 refine cnd r3 (fun b9 => ?_) (fun b9 => ?_)
 have h10 := cond_t b9 h8
 refine awp_seq (rg0 [6] 0 ⟨28, [(6, .int .i64 p1)], []⟩ ?_)
 refine then_n (awp_ret (inb_r (then_r ?_)))
 obtain rfl := Option.some.inj h10
 exact round_r ⟨rfl, er0 (.int .i64 p1)⟩
 have h11 := cond_f b9 h8
 refine awp_skip (inb_n (then_n ?_))
 cases h11
 have h4 := cond_f b2 h1
 refine awp_exit (then_e ?_)
 obtain rfl := Option.some.inj h4
 exact round_e ⟨rfl, Le.trans (s' := ⟨28, [], [.box (c_TView a0), .box [.int .i64 a1, .int .i64 a2]]⟩) (kp []) (le_cut (n := 0) (by kernel_rfl))⟩
 intro e14 s15 o16
 rcases y4 with g5 | y6
 have h17 := elim_l h13
 obtain ⟨rfl, l19⟩ := o16
 refine inb_here ?_
 refine then_le (s' := ⟨28, [], []⟩) (l19) ?_
 refine awp_seq ?_
 cases h17
 have h18 := elim_r h13
 obtain ⟨rfl, n20⟩ := o16
 refine inb_r (then_r ?_)
 obtain rfl := Option.some.inj h18
 exact n20
theorem slices_Index_int_int_ok (a0 : List Int) (a1 : Int) (r : Int) (h : M.slices_Index_int_int a0 a1 = some r) : Fn Tryz.prog 87 [sL 1 (ci .i64) a0, .int .i64 a1] (.pure (.int .i64 r)) := by
 unfold M.slices_Index_int_int at h
 refine fn_pure Tryz.func87 rfl (by kernel_rfl) ?_
 refine awp_seq (rg0 [0, 1] 0 ⟨19, [(0, sL 1 (ci .i64) a0), (1, .int .i64 a1)], []⟩ ?_)
 refine then_n (awp_seq (awp_seq (rg0 [0, 1, 7, 8] 0 ⟨19, [(0, sL 1 (ci .i64) a0), (1, .int .i64 a1), (7, .int .i64 (a0.length : Int)), (8, .int .i64 0)], []⟩ ?_)))
 refine then_n (awp_block ?_)
 obtain ⟨y3, q5, h6⟩ := bind_some h
 refine awp_le (s' := ⟨19, [(0, sL 1 (ci .i64) a0), (1, .int .i64 a1), (7, .int .i64 (a0.length : Int)), (8, .int .i64 0)], []⟩) (le_rfl) ?_
 refine awp_mono (awp_loop (f := M.slices_Index_int_int_l1 a0) (S := fun (p1 : Int) => ⟨19, [(0, sL 1 (ci .i64) a0), (1, .int .i64 a1), (7, .int .i64 (a0.length : Int)), (8, .int .i64 p1)], []⟩) (O := (fun z => OutE 0 (fun z => ⟨19, [], []⟩) z)) ?_ (x := 0) (y := y3) (loopM_iter q5)) ?_
 intro p1 y2 h1
 unfold M.slices_Index_int_int_l1 at h1
 refine awp_seq (rg0 [0, 1, 7, 8, 9] 0 ⟨19, [(0, sL 1 (ci .i64) a0), (1, .int .i64 a1), (7, .int .i64 (a0.length : Int)), (8, .int .i64 p1), (9, .bool (decide (p1 < (a0.length : Int))))], []⟩ ?_)
 refine then_n (awp_seq ?_)
 refine cnd (decide (p1 < (a0.length : Int))) (fun b2 => ?_) (fun b2 => ?_)
 have h3 := cond_t b2 h1
 refine awp_skip (then_n (awp_seq (awp_block (awp_seq ?_))))
 cases h3
 have h4 := cond_f b2 h1
 refine awp_exit (then_e ?_)
 obtain rfl := Option.some.inj h4
 exact round_e ⟨rfl, kp []⟩
 intro e7 s8 o9
 obtain ⟨rfl, l10⟩ := o9
 refine inb_here ?_
 refine then_le (s' := ⟨19, [], []⟩) (l10) ?_
 refine awp_seq (rg0 [4] 0 ⟨19, [(4, .int .i64 (-1))], []⟩ ?_)
 refine then_n (awp_ret ?_)
 obtain rfl := Option.some.inj h6
 exact er0 (.int .i64 (-1))
theorem topo_Link_ok (a0 : TView) (a1 : Int) (a2 : Int) (r : Int) (h : M.topo_Link a0 a1 a2 = some r) : Fn Tryz.prog 68 [.agg (c_TView a0), .int .i64 a1, .int .i64 a2] (.pure (.int .i64 r)) := by
 unfold M.topo_Link at h
 refine fn_pure Tryz.func68 rfl (by kernel_rfl) ?_
 refine awp_seq (rg0 [1, 2, 3] 1 ⟨19, [(1, .int .i64 a1), (2, .int .i64 a2), (3, .ref 0 0)], [.box (c_TView a0)]⟩ ?_)
 refine then_n (awp_seq ?_)
 obtain ⟨r1, q1, h2⟩ := bind_some h
 refine rg [.pure (.int .i64 r1)] [3, 7] 1 ⟨19, [(3, .ref 0 0), (7, .int .i64 r1)], [.box (c_TView a0)]⟩ [] [⟨true, 67, [.agg (c_TView a0), .int .i64 a1, .int .i64 a2], .pure (.int .i64 r1)⟩] nil_all ⟨fun _ => topo_Domain_ok a0 a1 a2 r1 q1, trivial⟩ ?_
 refine then_n (awp_seq (awp_seq (rg0 [3, 7, 13] 1 ⟨19, [(3, .ref 0 0), (7, .int .i64 r1), (13, .bool (decide (r1 < 0)))], [.box (c_TView a0)]⟩ ?_)))
 refine then_n ?_
 refine cnd (decide (r1 < 0)) (fun b3 => ?_) (fun b3 => ?_)
 have h4 := cond_t b3 h2
 refine awp_seq ?_
 cases h4
 have h5 := cond_f b3 h2
 refine awp_skip (then_n (awp_seq ?_))
 obtain ⟨r2, q6, h7⟩ := bind_some h5
 refine rg [.pure (.int .i64 r2)] [6] 0 ⟨19, [(6, .int .i64 r2)], []⟩ [] [⟨true, 87, [sL 1 (ci .i64) a0.fTopo.fLinks, .int .i64 r1], .pure (.int .i64 r2)⟩] nil_all ⟨fun _ => slices_Index_int_int_ok a0.fTopo.fLinks r1 r2 q6, trivial⟩ ?_
 refine then_n (awp_ret ?_)
 obtain rfl := Option.some.inj h7
 exact er0 (.int .i64 r2)
theorem slices_Contains_int_int_ok (a0 : List Int) (a1 : Int) (r : Bool) (h : M.slices_Contains_int_int a0 a1 = some r) : Fn Tryz.prog 69 [sL 1 (ci .i64) a0, .int .i64 a1] (.pure (.bool r)) := by
 unfold M.slices_Contains_int_int at h
 refine fn_pure Tryz.func69 rfl (by kernel_rfl) ?_
 refine awp_seq ?_
 cases h
theorem topo_Up_ok (a0 : TView) (a1 : Int) (a2 : Int) (r : Bool) (h : M.topo_Up a0 a1 a2 = some r) : Fn Tryz.prog 31 [.agg (c_TView a0), .int .i64 a1, .int .i64 a2] (.pure (.bool r)) := by
 unfold M.topo_Up at h
 refine fn_pure Tryz.func31 rfl (by kernel_rfl) ?_
 refine awp_seq (rg0 [1, 2, 3] 1 ⟨26, [(1, .int .i64 a1), (2, .int .i64 a2), (3, .ref 0 0)], [.box (c_TView a0)]⟩ ?_)
 refine then_n (awp_seq (awp_seq ?_))
 obtain ⟨r1, q1, h2⟩ := bind_some h
 refine rg [.pure (.int .i64 r1)] [1, 2, 3, 12] 1 ⟨26, [(1, .int .i64 a1), (2, .int .i64 a2), (3, .ref 0 0), (12, .bool (decide (r1 < 0)))], [.box (c_TView a0)]⟩ [] [⟨true, 67, [.agg (c_TView a0), .int .i64 a1, .int .i64 a2], .pure (.int .i64 r1)⟩] nil_all ⟨fun _ => topo_Domain_ok a0 a1 a2 r1 q1, trivial⟩ ?_
 refine then_n ?_
 refine cnd (decide (r1 < 0)) (fun b3 => ?_) (fun b3 => ?_)
 have h4 := cond_t b3 h2
 refine awp_seq ?_
 cases h4
 have h5 := cond_f b3 h2
 refine awp_skip (then_n (awp_seq ?_))
 obtain ⟨r2, q6, h7⟩ := bind_some h5
 refine rg [.pure (.int .i64 r2)] [3, 7] 1 ⟨26, [(3, .ref 0 0), (7, .int .i64 r2)], [.box (c_TView a0)]⟩ [] [⟨true, 68, [.agg (c_TView a0), .int .i64 a1, .int .i64 a2], .pure (.int .i64 r2)⟩] nil_all ⟨fun _ => topo_Link_ok a0 a1 a2 r2 q6, trivial⟩ ?_
 refine then_n (awp_seq ?_)
 obtain ⟨r3, q8, h9⟩ := bind_some h7
 refine rg [.pure (.bool r3)] [6] 0 ⟨26, [(6, .bool ((decide (r2 < 0)) || (!r3)))], []⟩ [] [⟨(!(decide (r2 < 0))), 69, [sL 1 (ci .i64) a0.fDown, .int .i64 r2], .pure (.bool r3)⟩] nil_all ⟨fun hg => slices_Contains_int_int_ok a0.fDown r2 r3 (gc_some q8 hg), trivial⟩ ?_
 refine then_n (awp_ret ?_)
 obtain rfl := Option.some.inj h9
 exact er0 (.bool ((decide (r2 < 0)) || (!r3)))
theorem fib_Resolve_1_ok (a0 : THop) (a1 : THop) (r : Int) (h : M.fib_Resolve_1 a0 a1 = some r) : Fn Tryz.prog 33 [.agg (c_THop a0), .agg (c_THop a1)] (.pure (.int .i64 r)) := by
 unfold M.fib_Resolve_1 at h
 refine fn_pure Tryz.func33 rfl (by kernel_rfl) ?_
 refine awp_seq (rg0 [2, 3] 2 ⟨17, [(2, .ref 0 0), (3, .ref 1 0)], [.box (c_THop a0), .box (c_THop a1)]⟩ ?_)
 refine then_n (awp_seq ?_)
 obtain ⟨r1, q1, h2⟩ := bind_some h
 obtain ⟨r2, q3, h4⟩ := bind_some h2
 obtain ⟨r3, q5, h6⟩ := bind_some h4
 refine rg [.pure (.int .i64 r1), .pure (.int .i64 r2), .pure (.int .i64 r3)] [4] 0 ⟨17, [(4, .int .i64 r3)], []⟩ [] [⟨true, 35, [.int .i64 a0.fIface, .int .i64 a1.fIface], .pure (.int .i64 r1)⟩, ⟨true, 36, [.int .u32 a0.fAddr, .int .u32 a1.fAddr], .pure (.int .i64 r2)⟩, ⟨true, 34, [.sl false 1 2 (fun i => List.take 1 (List.drop (i * 1) [.int .i64 r1, .int .i64 r2]))], .pure (.int .i64 r3)⟩] nil_all ⟨fun _ => cmp_Compare_int_ok a0.fIface a1.fIface r1 q1, fun _ => cmp_Compare_uint32_ok a0.fAddr a1.fAddr r2 q3, fun _ => (cmp_Or_int_ok ([r1, r2] : List Int) r3 q5).args (.cons (asub_sl rfl (fun i hi => match i, hi with | 0, _ => rfl | 1, _ => rfl | n + 2, h => absurd h (by omega))) .nil), trivial⟩ ?_
 refine then_n (awp_ret ?_)
 obtain rfl := Option.some.inj h6
 exact er0 (.int .i64 r3)
end Nv
namespace Go.Proofs
open Go.Shelf
shelf_lay_g SlLaysF0.n6 Slsf 6 at Tryz 32 as Tryz.sortL32
end Go.Proofs
namespace Nv
open Go Go.Proofs
theorem slices_SortFunc_api_Hop_api_Hop__fib_Resolve_1_ok (a0 : List THop) (r : List THop) (h : M.slices_SortFunc_api_Hop_api_Hop__fib_Resolve_1 a0 = some r) : FnM Tryz.prog 32 [.asl 0 0 a0.length, .fn 33 []] 2 a0.length (fun i => c_THop (a0.getD i default)) (fun i => c_THop (r.getD i default)) (.tup []) := by
 obtain ⟨cf, h1, h2, h3, rfl⟩ := sortM_some h
 exact sortF0 Tryz.sortL32 2 (fun w => by kernel_rfl) (fun w => by kernel_rfl) c_THop (fun _ => rfl) (fun _ => rfl) h2 33 (enters_of Tryz.func33 (by kernel_rfl) rfl) (fun x y => fib_Resolve_1_ok x y _ (h1 x y)) a0 h3
theorem slices_Compact_api_Hop_api_Hop_ok (a0 : List THop) (r : (List THop) × Nat) (h : M.slices_Compact_api_Hop_api_Hop a0 = some r) : FnM Tryz.prog 37 [.asl 0 0 a0.length] 2 a0.length (fun i => c_THop (a0.getD i default)) (fun i => c_THop (r.1.getD i default)) (.asl 0 0 r.2) := by
 unfold M.slices_Compact_api_Hop_api_Hop at h
 refine fn_mut Tryz.func37 rfl (by kernel_rfl) ?_
 refine awp_seq (rg0 [0] 2 ⟨61, [(0, .asl 0 0 a0.length)], [aL 2 c_THop a0, .gone]⟩ ?_)
 refine then_n (awp_seq (awp_seq (rg0 [0, 8] 2 ⟨61, [(0, .asl 0 0 a0.length), (8, .bool (decide ((a0.length : Int) < 2)))], [aL 2 c_THop a0, .gone]⟩ ?_)))
 refine then_n ?_
 refine cnd (decide ((a0.length : Int) < 2)) (fun b1 => ?_) (fun b1 => ?_)
 have h2 := cond_t b1 h
 refine awp_seq (rg0 [2] 2 ⟨61, [(2, .asl 0 0 a0.length)], [aL 2 c_THop a0, .gone]⟩ ?_)
 refine then_n (awp_ret (then_r ?_))
 obtain rfl := Option.some.inj h2
 exact emr (s' := ⟨61, [(2, .asl 0 0 a0.length)], [aL 2 c_THop a0, .gone]⟩) (le_rfl) rfl
 have h3 := cond_f b1 h
 refine awp_skip (then_n (awp_seq (awp_seq ?_)))
 cases h3
theorem fib_Resolve_ok (a0 : TView) (a1 : List TRoute) (a2 : Int) (a3 : Int) (r : (List THop)) (h : M.fib_Resolve a0 a1 a2 a3 = some r) : Fn Tryz.prog 15 [.agg (c_TView a0), sL 14 c_TRoute a1, .int .i64 a2, .int .i64 a3] (.pure (sL 2 c_THop r)) := by
 unfold M.fib_Resolve at h
 refine fn_pure Tryz.func15 rfl (by kernel_rfl) ?_
 refine awp_seq (rg0 [1, 2, 3, 4] 1 ⟨42, [(1, sL 14 c_TRoute a1), (2, .int .i64 a2), (3, .int .i64 a3), (4, .ref 0 0)], [.box (c_TView a0)]⟩ ?_)
 refine then_n (awp_seq (awp_seq (rg0 [1, 2, 3, 4, 19] 1 ⟨42, [(1, sL 14 c_TRoute a1), (2, .int .i64 a2), (3, .int .i64 a3), (4, .ref 0 0), (19, .bool ((decide (a3 < 0)) || (decide (a3 ≥ (a1.length : Int)))))], [.box (c_TView a0)]⟩ ?_)))
 refine then_n ?_
 refine cnd ((decide (a3 < 0)) || (decide (a3 ≥ (a1.length : Int)))) (fun b1 => ?_) (fun b1 => ?_)
 have h2 := cond_t b1 h
 refine awp_seq ?_
 cases h2
 have h3 := cond_f b1 h
 refine awp_skip (then_n (awp_seq (rg0 [1, 2, 3, 4, 9] 1 ⟨42, [(1, sL 14 c_TRoute a1), (2, .int .i64 a2), (3, .int .i64 a3), (4, .ref 0 0), (9, .sl true 2 0 (fun _ => []))], [.box (c_TView a0)]⟩ ?_)))
 refine then_n (awp_seq (awp_seq ?_))
 obtain ⟨r1, q4, h5⟩ := bind_some h3
 refine rg [.pure (sL 2 c_THop r1)] [2, 4, 9, 22, 23, 24] 1 ⟨42, [(2, .int .i64 a2), (4, .ref 0 0), (9, .sl true 2 0 (fun _ => [])), (22, sL 2 c_THop r1), (23, .int .i64 (r1.length : Int)), (24, .int .i64 0)], [.box (c_TView a0)]⟩ [] [⟨true, 30, [sL 14 c_TRoute a1, .int .i64 a3], .pure (sL 2 c_THop r1)⟩] nil_all ⟨fun _ => fib_resolve_ok a1 a3 r1 q4, trivial⟩ ?_
 refine then_n (awp_block ?_)
 refine awp_le (s' := ⟨42, [(2, .int .i64 a2), (4, .ref 0 0), (9, .sl true 2 0 (fun _ => [])), (22, sL 2 c_THop r1), (23, .int .i64 (r1.length : Int)), (24, .int .i64 0)], [.box (c_TView a0)]⟩) (le_rfl) ?_
 refine awp_le (s' := ⟨42, [(2, .int .i64 a2), (4, .ref 0 0), (9, .asl 1 0 (([] : List THop).length)), (22, sL 2 c_THop r1), (23, .int .i64 (r1.length : Int)), (24, .int .i64 0)], [.box (c_TView a0), aL 2 c_THop ([] : List THop)]⟩) (Le.trans (s' := ⟨42, (9, .asl 1 0 0) :: [(2, .int .i64 a2), (4, .ref 0 0), (9, .sl true 2 0 (fun _ => [])), (22, sL 2 c_THop r1), (23, .int .i64 (r1.length : Int)), (24, .int .i64 0)], [.box (c_TView a0)] ++ [.arr 2 0 (fun i => c_THop (([] : List THop).getD i default))]⟩) (le_thaw (wd := 2) (f := fun _ => []) 9 (by kernel_rfl) _ _) (kp [2, 4, 9, 22, 23, 24])) ?_
 obtain ⟨y6, q21, h22⟩ := bind_some h5
 refine awp_le (s' := ⟨42, [(2, .int .i64 a2), (4, .ref 0 0), (9, .asl 1 0 (([] : List THop).length)), (22, sL 2 c_THop r1), (23, .int .i64 (r1.length : Int)), (24, .int .i64 0)], [.box (c_TView a0), aL 2 c_THop ([] : List THop)]⟩) (le_rfl) ?_
 refine awp_mono (awp_loop (f := M.fib_Resolve_l1 a0 a2 r1) (S := fun (p2 : (List THop) × Int) => ⟨42, [(2, .int .i64 a2), (4, .ref 0 0), (9, .asl 1 0 p2.1.length), (22, sL 2 c_THop r1), (23, .int .i64 (r1.length : Int)), (24, .int .i64 p2.2)], [.box (c_TView a0), aL 2 c_THop p2.1]⟩) (O := (fun z => OutE 0 (fun z => ⟨42, [(9, .asl 1 0 z.length)], [.box (c_TView a0), aL 2 c_THop z]⟩) z)) ?_ (x := (([] : List THop), 0)) (y := y6) (loopM_iter q21)) ?_
 intro p2 y3 h6
 unfold M.fib_Resolve_l1 at h6
 refine awp_seq (rg0 [2, 4, 9, 22, 23, 24, 25] 2 ⟨42, [(2, .int .i64 a2), (4, .ref 0 0), (9, .asl 1 0 p2.1.length), (22, sL 2 c_THop r1), (23, .int .i64 (r1.length : Int)), (24, .int .i64 p2.2), (25, .bool (decide (p2.2 < (r1.length : Int))))], [.box (c_TView a0), aL 2 c_THop p2.1]⟩ ?_)
 refine then_n (awp_seq ?_)
 refine cnd (decide (p2.2 < (r1.length : Int))) (fun b7 => ?_) (fun b7 => ?_)
 have h8 := cond_t b7 h6
 refine awp_skip (then_n ?_)
 refine awp_join (fun (p4 : (List THop)) => ⟨42, [(2, .int .i64 a2), (4, .ref 0 0), (9, .asl 1 0 p4.length), (22, sL 2 c_THop r1), (23, .int .i64 (r1.length : Int)), (24, .int .i64 p2.2)], [.box (c_TView a0), aL 2 c_THop p4]⟩) (fun p4 => M.fib_Resolve_k1 p2 p4 = some y3) ?_ ?_
 intro p4 h11
 unfold M.fib_Resolve_k1 at h11
 refine rg0 [2, 4, 9, 22, 23, 24] 2 ⟨42, [(2, .int .i64 a2), (4, .ref 0 0), (9, .asl 1 0 p4.length), (22, sL 2 c_THop r1), (23, .int .i64 (r1.length : Int)), (24, .int .i64 (wr .i64 (p2.2 + 1)))], [.box (c_TView a0), aL 2 c_THop p4]⟩ ?_
 obtain rfl := Option.some.inj h11
 exact round_n (le_rfl)
 intro k10
 refine awp_block (awp_seq ?_)
 obtain ⟨c12, h13⟩ := gd_some h8
 refine rgc [2, 4, 9, 11, 22, 23, 24] 3 ⟨42, [(2, .int .i64 a2), (4, .ref 0 0), (9, .asl 1 0 p2.1.length), (11, .ref 2 0), (22, sL 2 c_THop r1), (23, .int .i64 (r1.length : Int)), (24, .int .i64 p2.2)], [.box (c_TView a0), aL 2 c_THop p2.1, .box (c_THop (r1.getD p2.2.toNat default))]⟩ [decide (0 ≤ p2.2), decide (p2.2 < (r1.length : Int))] c12 ?_
 refine then_n (awp_seq ?_)
 obtain ⟨r5, q14, h15⟩ := bind_some h13
 refine rg [.pure (.bool r5)] [2, 4, 9, 11, 22, 23, 24, 32] 3 ⟨42, [(2, .int .i64 a2), (4, .ref 0 0), (9, .asl 1 0 p2.1.length), (11, .ref 2 0), (22, sL 2 c_THop r1), (23, .int .i64 (r1.length : Int)), (24, .int .i64 p2.2), (32, .bool r5)], [.box (c_TView a0), aL 2 c_THop p2.1, .box (c_THop (r1.getD p2.2.toNat default))]⟩ [] [⟨true, 31, [.agg (c_TView a0), .int .i64 a2, .int .i64 ((r1.getD p2.2.toNat default).fIface)], .pure (.bool r5)⟩] nil_all ⟨fun _ => topo_Up_ok a0 a2 ((r1.getD p2.2.toNat default).fIface) r5 q14, trivial⟩ ?_
 refine then_n ?_
 refine cnd r5 (fun b16 => ?_) (fun b16 => ?_)
 have h17 := cond_t b16 h15
 obtain ⟨c19, h20⟩ := gd_some h17
 refine rgc [2, 4, 9, 22, 23, 24] 2 ⟨42, [(2, .int .i64 a2), (4, .ref 0 0), (9, .asl 1 0 (p2.1.length + 1)), (22, sL 2 c_THop r1), (23, .int .i64 (r1.length : Int)), (24, .int .i64 p2.2)], [.box (c_TView a0), .arr 2 (p2.1.length + 1) (app (fun i => c_THop (p2.1.getD i default)) p2.1.length (fun i => List.take 2 (List.drop (i * 2) [.int .i64 ((r1.getD p2.2.toNat default).fIface), .int .u32 ((r1.getD p2.2.toNat default).fAddr)])))]⟩ [decide ((p2.1.length + 1) * 16 ≤ 140737488355328)] c19 ?_
 refine inb_n ?_
 exact then_le (le_sub (.cons Sub.rfl (.cons Sub.rfl (.cons (asl_len (len_snoc _ _)) (.cons Sub.rfl (.cons Sub.rfl (.cons Sub.rfl .nil)))))) (.cons .rfl (.cons (.arr (len_snoc _ _) (app_snoc c_THop p2.1 (r1.getD p2.2.toNat default) _ rfl)) .nil))) (k10 (p2.1 ++ [r1.getD p2.2.toNat default]) h20)
 have h18 := cond_f b16 h15
 refine awp_skip (inb_n ?_)
 exact then_le (Le.trans (s' := ⟨42, [(2, .int .i64 a2), (4, .ref 0 0), (9, .asl 1 0 p2.1.length), (22, sL 2 c_THop r1), (23, .int .i64 (r1.length : Int)), (24, .int .i64 p2.2)], [.box (c_TView a0), aL 2 c_THop p2.1, .box (c_THop (r1.getD p2.2.toNat default))]⟩) (kp [2, 4, 9, 22, 23, 24]) (le_cut (n := 2) (by kernel_rfl))) (k10 p2.1 h18)
 have h9 := cond_f b7 h6
 refine awp_exit (then_e ?_)
 obtain rfl := Option.some.inj h9
 exact round_e ⟨rfl, kp [9]⟩
 intro e23 s24 o25
 obtain ⟨rfl, l26⟩ := o25
 refine inb_here ?_
 refine then_le (s' := ⟨42, [(9, .asl 1 0 y6.length)], [.box (c_TView a0), aL 2 c_THop y6]⟩) (l26) ?_
 refine awp_seq ?_
 obtain ⟨r7, q27, h28⟩ := bind_some h22
 obtain ⟨c29, h30⟩ := gd_some h28
 refine rg [.lnd 0 0 (fun _ => []) (fun i => c_THop (r7.getD i default)) (.tup [])] [9] 2 ⟨42, [(9, .asl 1 0 y6.length)], [.box (c_TView a0), .arr 2 y6.length (fun i => c_THop (r7.getD i default))]⟩ [] [⟨true, 32, [.asl 0 0 y6.length, .fn 33 []], .lnd 2 y6.length (fun i => c_THop (y6.getD i default)) (fun i => c_THop (r7.getD i default)) (.tup [])⟩] nil_all ⟨fun _ => slices_SortFunc_api_Hop_api_Hop__fib_Resolve_1_ok y6 r7 q27, trivial⟩ ?_
 refine then_le (s' := ⟨42, [(9, .asl 1 0 r7.length)], [.box (c_TView a0), aL 2 c_THop r7]⟩) (le_sub (.cons (asl_len (len_eq (c29 _ List.mem_cons_self))) .nil) (.cons .rfl (.cons (.arr (len_eq (c29 _ List.mem_cons_self)) (fun _ _ => rfl)) .nil))) ?_
 refine awp_seq ?_
 obtain ⟨r8, q31, h32⟩ := bind_some h30
 obtain ⟨c33, h34⟩ := gd_some h32
 refine rg [.lnd 0 0 (fun _ => []) (fun i => c_THop (r8.1.getD i default)) (.asl 0 0 r8.2)] [8] 2 ⟨42, [(8, .asl 1 0 r8.2)], [.box (c_TView a0), .arr 2 r7.length (fun i => c_THop (r8.1.getD i default))]⟩ [] [⟨true, 37, [.asl 0 0 r7.length], .lnd 2 r7.length (fun i => c_THop (r7.getD i default)) (fun i => c_THop (r8.1.getD i default)) (.asl 0 0 r8.2)⟩] nil_all ⟨fun _ => slices_Compact_api_Hop_api_Hop_ok r7 r8 q31, trivial⟩ ?_
 refine then_le (s' := ⟨42, [(8, .asl 1 0 r8.2)], [.box (c_TView a0), aL 2 c_THop r8.1]⟩) (le_sub (.cons Sub.rfl .nil) (.cons .rfl (.cons (.arr (len_eq (c33 _ List.mem_cons_self)) (fun _ _ => rfl)) .nil))) ?_
 refine awp_ret ?_
 obtain ⟨c35, h36⟩ := gd_some h34
 obtain rfl := Option.some.inj h36
 exact er (.sl false 2 r8.2 (fun i => c_THop (r8.1.getD (0 + i) default))) (sub_cut c35)
theorem fib_Table_ok (a0 : TView) (a1 : List TRoute) (a2 : Int) (r : (List TForward)) (h : M.fib_Table a0 a1 a2 = some r) : Fn Tryz.prog 12 [.agg (c_TView a0), sL 14 c_TRoute a1, .int .i64 a2] (.pure (sL 4 c_TForward r)) := by
 unfold M.fib_Table at h
 refine fn_pure Tryz.func12 rfl (by kernel_rfl) ?_
 refine awp_seq (rg0 [1, 2, 3] 1 ⟨32, [(1, sL 14 c_TRoute a1), (2, .int .i64 a2), (3, .ref 0 0)], [.box (c_TView a0)]⟩ ?_)
 refine then_n (awp_seq (rg0 [1, 2, 3, 7] 1 ⟨32, [(1, sL 14 c_TRoute a1), (2, .int .i64 a2), (3, .ref 0 0), (7, .sl true 4 0 (fun _ => []))], [.box (c_TView a0)]⟩ ?_))
 refine then_n (awp_seq (awp_seq (rg0 [1, 2, 3, 7, 10, 11, 12] 1 ⟨32, [(1, sL 14 c_TRoute a1), (2, .int .i64 a2), (3, .ref 0 0), (7, .sl true 4 0 (fun _ => [])), (10, sL 14 c_TRoute a1), (11, .int .i64 (a1.length : Int)), (12, .int .i64 0)], [.box (c_TView a0)]⟩ ?_)))
 refine then_n (awp_block ?_)
 refine awp_le (s' := ⟨32, [(1, sL 14 c_TRoute a1), (2, .int .i64 a2), (3, .ref 0 0), (7, .sl true 4 0 (fun _ => [])), (10, sL 14 c_TRoute a1), (11, .int .i64 (a1.length : Int)), (12, .int .i64 0)], [.box (c_TView a0)]⟩) (le_rfl) ?_
 refine awp_le (s' := ⟨32, [(1, sL 14 c_TRoute a1), (2, .int .i64 a2), (3, .ref 0 0), (7, .asl 1 0 (([] : List TForward).length)), (10, sL 14 c_TRoute a1), (11, .int .i64 (a1.length : Int)), (12, .int .i64 0)], [.box (c_TView a0), aL 4 c_TForward ([] : List TForward)]⟩) (Le.trans (s' := ⟨32, (7, .asl 1 0 0) :: [(1, sL 14 c_TRoute a1), (2, .int .i64 a2), (3, .ref 0 0), (7, .sl true 4 0 (fun _ => [])), (10, sL 14 c_TRoute a1), (11, .int .i64 (a1.length : Int)), (12, .int .i64 0)], [.box (c_TView a0)] ++ [.arr 4 0 (fun i => c_TForward (([] : List TForward).getD i default))]⟩) (le_thaw (wd := 4) (f := fun _ => []) 7 (by kernel_rfl) _ _) (kp [1, 2, 3, 7, 10, 11, 12])) ?_
 obtain ⟨y4, q11, h12⟩ := bind_some h
 refine awp_le (s' := ⟨32, [(1, sL 14 c_TRoute a1), (2, .int .i64 a2), (3, .ref 0 0), (7, .asl 1 0 (([] : List TForward).length)), (10, sL 14 c_TRoute a1), (11, .int .i64 (a1.length : Int)), (12, .int .i64 0)], [.box (c_TView a0), aL 4 c_TForward ([] : List TForward)]⟩) (le_rfl) ?_
 refine awp_mono (awp_loop (f := M.fib_Table_l1 a0 a1 a2) (S := fun (p1 : (List TForward) × Int) => ⟨32, [(1, sL 14 c_TRoute a1), (2, .int .i64 a2), (3, .ref 0 0), (7, .asl 1 0 p1.1.length), (10, sL 14 c_TRoute a1), (11, .int .i64 (a1.length : Int)), (12, .int .i64 p1.2)], [.box (c_TView a0), aL 4 c_TForward p1.1]⟩) (O := (fun z => OutE 0 (fun z => ⟨32, [(7, .asl 1 0 z.length)], [.box (c_TView a0), aL 4 c_TForward z]⟩) z)) ?_ (x := (([] : List TForward), 0)) (y := y4) (loopM_iter q11)) ?_
 intro p1 y2 h1
 unfold M.fib_Table_l1 at h1
 refine awp_seq (rg0 [1, 2, 3, 7, 10, 11, 12, 13] 2 ⟨32, [(1, sL 14 c_TRoute a1), (2, .int .i64 a2), (3, .ref 0 0), (7, .asl 1 0 p1.1.length), (10, sL 14 c_TRoute a1), (11, .int .i64 (a1.length : Int)), (12, .int .i64 p1.2), (13, .bool (decide (p1.2 < (a1.length : Int))))], [.box (c_TView a0), aL 4 c_TForward p1.1]⟩ ?_)
 refine then_n (awp_seq ?_)
 refine cnd (decide (p1.2 < (a1.length : Int))) (fun b2 => ?_) (fun b2 => ?_)
 have h3 := cond_t b2 h1
 refine awp_skip (then_n (awp_seq (awp_block (awp_seq ?_))))
 obtain ⟨c5, h6⟩ := gd_some h3
 refine rgc [1, 2, 3, 7, 8, 9, 10, 11, 12] 3 ⟨32, [(1, sL 14 c_TRoute a1), (2, .int .i64 a2), (3, .ref 0 0), (7, .asl 1 0 p1.1.length), (8, .int .i64 p1.2), (9, .ref 2 0), (10, sL 14 c_TRoute a1), (11, .int .i64 (a1.length : Int)), (12, .int .i64 p1.2)], [.box (c_TView a0), aL 4 c_TForward p1.1, .box (c_TRoute (a1.getD p1.2.toNat default))]⟩ [decide (0 ≤ p1.2), decide (p1.2 < (a1.length : Int))] c5 ?_
 refine then_n ?_
 obtain ⟨r3, q7, h8⟩ := bind_some h6
 obtain ⟨c9, h10⟩ := gd_some h8
 refine rgb 12 [.pure (sL 2 c_THop r3)] [1, 2, 3, 7, 10, 11, 12] 2 ⟨32, [(1, sL 14 c_TRoute a1), (2, .int .i64 a2), (3, .ref 0 0), (7, .asl 1 0 (p1.1.length + 1)), (10, sL 14 c_TRoute a1), (11, .int .i64 (a1.length : Int)), (12, .int .i64 p1.2)], [.box (c_TView a0), .arr 4 (p1.1.length + 1) (app (fun i => c_TForward (p1.1.getD i default)) p1.1.length (fun i => List.take 4 (List.drop (i * 4) [.int .u32 (((a1.getD p1.2.toNat default).fPrefix).fAddr), .int .i64 (((a1.getD p1.2.toNat default).fPrefix).fLen), sL 2 c_THop r3, .bool ((a1.getD p1.2.toNat default).fDiscard)])))]⟩ [decide ((p1.1.length + 1) * 48 ≤ 140737488355328)] [⟨true, 15, [.agg (c_TView a0), sL 14 c_TRoute a1, .int .i64 a2, .int .i64 p1.2], .pure (sL 2 c_THop r3)⟩] c9 ⟨fun _ => fib_Resolve_ok a0 a1 a2 p1.2 r3 q7, trivial⟩ ?_
 refine inb_n ?_
 refine then_le (s' := ⟨32, [(1, sL 14 c_TRoute a1), (2, .int .i64 a2), (3, .ref 0 0), (7, .asl 1 0 ((p1.1 ++ [(⟨(a1.getD p1.2.toNat default).fPrefix, r3, (a1.getD p1.2.toNat default).fDiscard⟩ : TForward)]).length)), (10, sL 14 c_TRoute a1), (11, .int .i64 (a1.length : Int)), (12, .int .i64 p1.2)], [.box (c_TView a0), aL 4 c_TForward (p1.1 ++ [(⟨(a1.getD p1.2.toNat default).fPrefix, r3, (a1.getD p1.2.toNat default).fDiscard⟩ : TForward)])]⟩) (le_sub (.cons Sub.rfl (.cons Sub.rfl (.cons Sub.rfl (.cons (asl_len (len_snoc _ _)) (.cons Sub.rfl (.cons Sub.rfl (.cons Sub.rfl .nil))))))) (.cons .rfl (.cons (.arr (len_snoc _ _) (app_snoc c_TForward p1.1 (⟨(a1.getD p1.2.toNat default).fPrefix, r3, (a1.getD p1.2.toNat default).fDiscard⟩ : TForward) _ rfl)) .nil))) ?_
 refine rg0 [1, 2, 3, 7, 10, 11, 12] 2 ⟨32, [(1, sL 14 c_TRoute a1), (2, .int .i64 a2), (3, .ref 0 0), (7, .asl 1 0 ((p1.1 ++ [(⟨(a1.getD p1.2.toNat default).fPrefix, r3, (a1.getD p1.2.toNat default).fDiscard⟩ : TForward)]).length)), (10, sL 14 c_TRoute a1), (11, .int .i64 (a1.length : Int)), (12, .int .i64 (wr .i64 (p1.2 + 1)))], [.box (c_TView a0), aL 4 c_TForward (p1.1 ++ [(⟨(a1.getD p1.2.toNat default).fPrefix, r3, (a1.getD p1.2.toNat default).fDiscard⟩ : TForward)])]⟩ ?_
 obtain rfl := Option.some.inj h10
 exact round_n (le_rfl)
 have h4 := cond_f b2 h1
 refine awp_exit (then_e ?_)
 obtain rfl := Option.some.inj h4
 exact round_e ⟨rfl, kp [7]⟩
 intro e13 s14 o15
 obtain ⟨rfl, l16⟩ := o15
 refine inb_here ?_
 refine then_le (s' := ⟨32, [(7, .asl 1 0 y4.length)], [.box (c_TView a0), aL 4 c_TForward y4]⟩) (l16) ?_
 refine awp_seq (rg0 [6] 2 ⟨32, [(6, .asl 1 0 y4.length)], [.box (c_TView a0), aL 4 c_TForward y4]⟩ ?_)
 refine then_n (awp_ret ?_)
 obtain rfl := Option.some.inj h12
 exact er (.sl false 4 y4.length (fun i => c_TForward (y4.getD (0 + i) default))) sub_asl
theorem fib_Lookup_ok (a0 : List TForward) (a1 : Int) (r : Int) (h : M.fib_Lookup a0 a1 = some r) : Fn Tryz.prog 20 [sL 4 c_TForward a0, .int .u32 a1] (.pure (.int .i64 r)) := by
 unfold M.fib_Lookup at h
 refine fn_pure Tryz.func20 rfl (by kernel_rfl) ?_
 refine awp_seq (rg0 [0, 1] 0 ⟨38, [(0, sL 4 c_TForward a0), (1, .int .u32 a1)], []⟩ ?_)
 refine then_n (awp_seq (rg0 [0, 1, 5] 0 ⟨38, [(0, sL 4 c_TForward a0), (1, .int .u32 a1), (5, .int .i64 (-1))], []⟩ ?_))
 refine then_n (awp_seq (awp_seq (rg0 [0, 1, 5, 8, 9, 10] 0 ⟨38, [(0, sL 4 c_TForward a0), (1, .int .u32 a1), (5, .int .i64 (-1)), (8, sL 4 c_TForward a0), (9, .int .i64 (a0.length : Int)), (10, .int .i64 0)], []⟩ ?_)))
 refine then_n (awp_block ?_)
 obtain ⟨y5, q16, h17⟩ := bind_some h
 refine awp_le (s' := ⟨38, [(0, sL 4 c_TForward a0), (1, .int .u32 a1), (5, .int .i64 (-1)), (8, sL 4 c_TForward a0), (9, .int .i64 (a0.length : Int)), (10, .int .i64 0)], []⟩) (le_rfl) ?_
 refine awp_mono (awp_loop (f := M.fib_Lookup_l1 a0 a1) (S := fun (p1 : Int × Int) => ⟨38, [(0, sL 4 c_TForward a0), (1, .int .u32 a1), (5, .int .i64 p1.1), (8, sL 4 c_TForward a0), (9, .int .i64 (a0.length : Int)), (10, .int .i64 p1.2)], []⟩) (O := (fun z => OutE 0 (fun z => ⟨38, [(5, .int .i64 z)], []⟩) z)) ?_ (x := ((-1), 0)) (y := y5) (loopM_iter q16)) ?_
 intro p1 y2 h1
 unfold M.fib_Lookup_l1 at h1
 refine awp_seq (rg0 [0, 1, 5, 8, 9, 10, 11] 0 ⟨38, [(0, sL 4 c_TForward a0), (1, .int .u32 a1), (5, .int .i64 p1.1), (8, sL 4 c_TForward a0), (9, .int .i64 (a0.length : Int)), (10, .int .i64 p1.2), (11, .bool (decide (p1.2 < (a0.length : Int))))], []⟩ ?_)
 refine then_n (awp_seq ?_)
 refine cnd (decide (p1.2 < (a0.length : Int))) (fun b2 => ?_) (fun b2 => ?_)
 have h3 := cond_t b2 h1
 refine awp_skip (then_n ?_)
 refine awp_join (fun (p3 : Int) => ⟨38, [(0, sL 4 c_TForward a0), (1, .int .u32 a1), (5, .int .i64 p3), (8, sL 4 c_TForward a0), (9, .int .i64 (a0.length : Int)), (10, .int .i64 p1.2)], []⟩) (fun p3 => M.fib_Lookup_k1 p1 p3 = some y2) ?_ ?_
 intro p3 h6
 unfold M.fib_Lookup_k1 at h6
 refine rg0 [0, 1, 5, 8, 9, 10] 0 ⟨38, [(0, sL 4 c_TForward a0), (1, .int .u32 a1), (5, .int .i64 p3), (8, sL 4 c_TForward a0), (9, .int .i64 (a0.length : Int)), (10, .int .i64 (wr .i64 (p1.2 + 1)))], []⟩ ?_
 obtain rfl := Option.some.inj h6
 exact round_n (le_rfl)
 intro k5
 refine awp_block (awp_seq ?_)
 obtain ⟨c7, h8⟩ := gd_some h3
 refine rgc [0, 1, 5, 6, 7, 8, 9, 10] 1 ⟨38, [(0, sL 4 c_TForward a0), (1, .int .u32 a1), (5, .int .i64 p1.1), (6, .int .i64 p1.2), (7, .ref 0 0), (8, sL 4 c_TForward a0), (9, .int .i64 (a0.length : Int)), (10, .int .i64 p1.2)], [.box (c_TForward (a0.getD p1.2.toNat default))]⟩ [decide (0 ≤ p1.2), decide (p1.2 < (a0.length : Int))] c7 ?_
 refine then_n (awp_seq ?_)
 obtain ⟨r4, q9, h10⟩ := bind_some h8
 obtain ⟨c11, h12⟩ := gd_some h10
 refine rg [.pure (.bool r4)] [0, 1, 5, 6, 8, 9, 10, 34] 0 ⟨38, [(0, sL 4 c_TForward a0), (1, .int .u32 a1), (5, .int .i64 p1.1), (6, .int .i64 p1.2), (8, sL 4 c_TForward a0), (9, .int .i64 (a0.length : Int)), (10, .int .i64 p1.2), (34, .bool (r4 && ((decide (p1.1 < 0)) || (decide ((((a0.getD p1.2.toNat default).fPrefix).fLen) > (((a0.getD p1.1.toNat default).fPrefix).fLen))))))], []⟩ [guardB (r4 && !(decide (p1.1 < 0))) (decide (0 ≤ p1.1)), guardB (r4 && !(decide (p1.1 < 0))) (decide (p1.1 < (a0.length : Int)))] [⟨true, 45, [.agg (c_TPrefix ((a0.getD p1.2.toNat default).fPrefix)), .int .u32 a1], .pure (.bool r4)⟩] c11 ⟨fun _ => addr_Contains_ok ((a0.getD p1.2.toNat default).fPrefix) a1 r4 q9, trivial⟩ ?_
 refine then_n ?_
 refine cnd (r4 && ((decide (p1.1 < 0)) || (decide ((((a0.getD p1.2.toNat default).fPrefix).fLen) > (((a0.getD p1.1.toNat default).fPrefix).fLen))))) (fun b13 => ?_) (fun b13 => ?_)
 have h14 := cond_t b13 h12
 refine rg0 [0, 1, 5, 8, 9, 10] 0 ⟨38, [(0, sL 4 c_TForward a0), (1, .int .u32 a1), (5, .int .i64 p1.2), (8, sL 4 c_TForward a0), (9, .int .i64 (a0.length : Int)), (10, .int .i64 p1.2)], []⟩ ?_
 refine inb_n ?_
 exact then_le (le_rfl) (k5 p1.2 h14)
 have h15 := cond_f b13 h12
 refine awp_skip (inb_n ?_)
 exact then_le (kp [0, 1, 5, 8, 9, 10]) (k5 p1.1 h15)
 have h4 := cond_f b2 h1
 refine awp_exit (then_e ?_)
 obtain rfl := Option.some.inj h4
 exact round_e ⟨rfl, kp [5]⟩
 intro e18 s19 o20
 obtain ⟨rfl, l21⟩ := o20
 refine inb_here ?_
 refine then_le (s' := ⟨38, [(5, .int .i64 y5)], []⟩) (l21) ?_
 refine awp_seq (rg0 [4] 0 ⟨38, [(4, .int .i64 y5)], []⟩ ?_)
 refine then_n (awp_ret ?_)
 obtain rfl := Option.some.inj h17
 exact er0 (.int .i64 y5)
theorem law24_sane_ok  (r : Bool) (h : M.law24_sane  = some r) : Fn Tryz.prog 17 [] (.pure (.bool r)) := by
 unfold M.law24_sane at h
 refine fn_pure Tryz.func17 rfl (by kernel_rfl) ?_
 refine awp_seq (rg0 [] 0 ⟨60, [], []⟩ ?_)
 refine then_n (awp_seq (rg0 [1] 1 ⟨60, [(1, .ref 0 0)], [.box [.sl true 25 1 (fun i => List.take 25 (List.drop (i * 25) [.str (⟨#[97]⟩ : ByteArray), .int .i64 0, .sl true 12 1 (fun i => List.take 12 (List.drop (i * 12) [.str (⟨#[101, 48]⟩ : ByteArray), .int .u32 167772161, .int .i64 24, .int .i64 0, .bool false, .bool false, .int .i64 0, .int .i64 0, .bool false, .str (⟨#[]⟩ : ByteArray), .str (⟨#[]⟩ : ByteArray), .int .i64 0])), .sl true 2 0 (fun _ => []), .sl true 2 0 (fun _ => []), .sl true 2 0 (fun _ => []), .sl true 9 0 (fun _ => []), .sl true 7 1 (fun i => List.take 7 (List.drop (i * 7) [.int .u32 0, .int .i64 0, .int .u32 167772169, .str (⟨#[]⟩ : ByteArray), .bool false, .int .i64 1, .int .i64 0])), .bool false, .int .i64 0, .sl true 3 0 (fun _ => []), .sl true 5 0 (fun _ => []), .bool false, .int .i64 0, .str (⟨#[]⟩ : ByteArray), .str (⟨#[]⟩ : ByteArray), .sl true 5 0 (fun _ => []), .bool false, .int .i64 0, .int .i64 0, .sl true 4 0 (fun _ => []), .sl true 2 0 (fun _ => []), .sl true 3 0 (fun _ => []), .sl true 5 0 (fun _ => []), .sl true 5 0 (fun _ => [])]))]]⟩ ?_))
 refine then_n (awp_seq ?_)
 obtain ⟨r1, q1, h2⟩ := bind_some h
 refine rg [.pure (.tup [.agg (c_TView r1.1), .int .i64 r1.2])] [2, 3] 2 ⟨60, [(2, .ref 1 0), (3, .int .i64 r1.2)], [.box [.sl true 25 1 (fun i => List.take 25 (List.drop (i * 25) [.str (⟨#[97]⟩ : ByteArray), .int .i64 0, .sl true 12 1 (fun i => List.take 12 (List.drop (i * 12) [.str (⟨#[101, 48]⟩ : ByteArray), .int .u32 167772161, .int .i64 24, .int .i64 0, .bool false, .bool false, .int .i64 0, .int .i64 0, .bool false, .str (⟨#[]⟩ : ByteArray), .str (⟨#[]⟩ : ByteArray), .int .i64 0])), .sl true 2 0 (fun _ => []), .sl true 2 0 (fun _ => []), .sl true 2 0 (fun _ => []), .sl true 9 0 (fun _ => []), .sl true 7 1 (fun i => List.take 7 (List.drop (i * 7) [.int .u32 0, .int .i64 0, .int .u32 167772169, .str (⟨#[]⟩ : ByteArray), .bool false, .int .i64 1, .int .i64 0])), .bool false, .int .i64 0, .sl true 3 0 (fun _ => []), .sl true 5 0 (fun _ => []), .bool false, .int .i64 0, .str (⟨#[]⟩ : ByteArray), .str (⟨#[]⟩ : ByteArray), .sl true 5 0 (fun _ => []), .bool false, .int .i64 0, .int .i64 0, .sl true 4 0 (fun _ => []), .sl true 2 0 (fun _ => []), .sl true 3 0 (fun _ => []), .sl true 5 0 (fun _ => []), .sl true 5 0 (fun _ => [])]))], .box (c_TView r1.1)]⟩ [] [⟨true, 41, [.agg [.sl false 25 1 (fun i => List.take 25 (List.drop (i * 25) [.str (⟨#[97]⟩ : ByteArray), .int .i64 0, .sl true 12 1 (fun i => List.take 12 (List.drop (i * 12) [.str (⟨#[101, 48]⟩ : ByteArray), .int .u32 167772161, .int .i64 24, .int .i64 0, .bool false, .bool false, .int .i64 0, .int .i64 0, .bool false, .str (⟨#[]⟩ : ByteArray), .str (⟨#[]⟩ : ByteArray), .int .i64 0])), .sl true 2 0 (fun _ => []), .sl true 2 0 (fun _ => []), .sl true 2 0 (fun _ => []), .sl true 9 0 (fun _ => []), .sl true 7 1 (fun i => List.take 7 (List.drop (i * 7) [.int .u32 0, .int .i64 0, .int .u32 167772169, .str (⟨#[]⟩ : ByteArray), .bool false, .int .i64 1, .int .i64 0])), .bool false, .int .i64 0, .sl true 3 0 (fun _ => []), .sl true 5 0 (fun _ => []), .bool false, .int .i64 0, .str (⟨#[]⟩ : ByteArray), .str (⟨#[]⟩ : ByteArray), .sl true 5 0 (fun _ => []), .bool false, .int .i64 0, .int .i64 0, .sl true 4 0 (fun _ => []), .sl true 2 0 (fun _ => []), .sl true 3 0 (fun _ => []), .sl true 5 0 (fun _ => []), .sl true 5 0 (fun _ => [])]))], .nils], .pure (.tup [.agg (c_TView r1.1), .int .i64 r1.2])⟩] nil_all ⟨fun _ => (topo_Make_ok (⟨([(⟨(⟨#[97]⟩ : ByteArray), 0, ([(⟨(⟨#[101, 48]⟩ : ByteArray), 167772161, 24, 0, false, false, 0, 0, false, (⟨#[]⟩ : ByteArray), (⟨#[]⟩ : ByteArray), 0⟩ : TInterface)] : List TInterface), ([] : List TPrefixList), ([] : List TRouteMap), ([] : List TACL), ([] : List TTranslation), ([(⟨(⟨0, 0⟩ : TPrefix), 167772169, (⟨#[]⟩ : ByteArray), false, 1, 0⟩ : TStaticRoute)] : List TStaticRoute), (⟨false, 0, ([] : List TAreaRange), ([] : List TRedist)⟩ : TLinkState), (⟨false, 0, (⟨#[]⟩ : ByteArray), (⟨#[]⟩ : ByteArray), ([] : List TRedist)⟩ : TDistanceVector), (⟨false, 0, 0, ([] : List TNeighbor), ([] : List TPrefix), ([] : List TAggregate), ([] : List TCondition), ([] : List TRedist)⟩ : TPathVector)⟩ : TRouter)] : List TRouter)⟩ : TNetwork) ([] : List Int) r1 q1).args (.cons (asub_agg (.cons (csub_psl rfl (fun i hi => match i, hi with | 0, _ => (.cons PSub.rfl (.cons PSub.rfl (.cons (psub_sl rfl (fun i hi => match i, hi with | 0, _ => (.cons PSub.rfl (.cons PSub.rfl (.cons PSub.rfl (.cons PSub.rfl (.cons PSub.rfl (.cons PSub.rfl (.cons PSub.rfl (.cons PSub.rfl (.cons PSub.rfl (.cons PSub.rfl (.cons PSub.rfl (.cons PSub.rfl .nil)))))))))))) | n + 1, h => absurd h (by omega))) (.cons psub_nil (.cons psub_nil (.cons psub_nil (.cons psub_nil (.cons (psub_sl rfl (fun i hi => match i, hi with | 0, _ => (.cons PSub.rfl (.cons PSub.rfl (.cons PSub.rfl (.cons PSub.rfl (.cons PSub.rfl (.cons PSub.rfl (.cons PSub.rfl .nil))))))) | n + 1, h => absurd h (by omega))) (.cons PSub.rfl (.cons PSub.rfl (.cons psub_nil (.cons psub_nil (.cons PSub.rfl (.cons PSub.rfl (.cons PSub.rfl (.cons PSub.rfl (.cons psub_nil (.cons PSub.rfl (.cons PSub.rfl (.cons PSub.rfl (.cons psub_nil (.cons psub_nil (.cons psub_nil (.cons psub_nil (.cons psub_nil .nil))))))))))))))))))))))))) | n + 1, h => absurd h (by omega))) .nil)) (.cons asub_nils .nil)), trivial⟩ ?_
 refine then_n (awp_seq (awp_seq (rg0 [2, 19] 2 ⟨60, [(2, .ref 1 0), (19, .bool (r1.2 != 0))], [.box [.sl true 25 1 (fun i => List.take 25 (List.drop (i * 25) [.str (⟨#[97]⟩ : ByteArray), .int .i64 0, .sl true 12 1 (fun i => List.take 12 (List.drop (i * 12) [.str (⟨#[101, 48]⟩ : ByteArray), .int .u32 167772161, .int .i64 24, .int .i64 0, .bool false, .bool false, .int .i64 0, .int .i64 0, .bool false, .str (⟨#[]⟩ : ByteArray), .str (⟨#[]⟩ : ByteArray), .int .i64 0])), .sl true 2 0 (fun _ => []), .sl true 2 0 (fun _ => []), .sl true 2 0 (fun _ => []), .sl true 9 0 (fun _ => []), .sl true 7 1 (fun i => List.take 7 (List.drop (i * 7) [.int .u32 0, .int .i64 0, .int .u32 167772169, .str (⟨#[]⟩ : ByteArray), .bool false, .int .i64 1, .int .i64 0])), .bool false, .int .i64 0, .sl true 3 0 (fun _ => []), .sl true 5 0 (fun _ => []), .bool false, .int .i64 0, .str (⟨#[]⟩ : ByteArray), .str (⟨#[]⟩ : ByteArray), .sl true 5 0 (fun _ => []), .bool false, .int .i64 0, .int .i64 0, .sl true 4 0 (fun _ => []), .sl true 2 0 (fun _ => []), .sl true 3 0 (fun _ => []), .sl true 5 0 (fun _ => []), .sl true 5 0 (fun _ => [])]))], .box (c_TView r1.1)]⟩ ?_)))
 refine then_n ?_
 refine cnd (r1.2 != 0) (fun b3 => ?_) (fun b3 => ?_)
 have h4 := cond_t b3 h2
 refine awp_seq (rg0 [0] 0 ⟨60, [(0, .bool false)], []⟩ ?_)
 refine then_n (awp_ret (then_r ?_))
 obtain rfl := Option.some.inj h4
 exact er0 (.bool false)
 have h5 := cond_f b3 h2
 refine awp_skip (then_n (awp_seq (rg0 [2, 4] 2 ⟨60, [(2, .ref 1 0), (4, .sl true 14 2 (fun i => List.take 14 (List.drop (i * 14) [.int .u32 0, .int .i64 0, .int .i64 2, .int .i64 0, .int .i64 1, .int .i64 0, .int .i64 0, .int .i64 0, .int .i64 0, .sl true 1 0 (fun _ => []), .int .u32 0, .int .u32 167772169, .sl true 2 0 (fun _ => []), .bool false, .int .u32 167772160, .int .i64 24, .int .i64 1, .int .i64 0, .int .i64 0, .int .i64 0, .int .i64 0, .int .i64 0, .int .i64 0, .sl true 1 0 (fun _ => []), .int .u32 0, .int .u32 0, .sl true 2 1 (fun i => List.take 2 (List.drop (i * 2) [.int .i64 0, .int .u32 0])), .bool false])))], [.box [.sl true 25 1 (fun i => List.take 25 (List.drop (i * 25) [.str (⟨#[97]⟩ : ByteArray), .int .i64 0, .sl true 12 1 (fun i => List.take 12 (List.drop (i * 12) [.str (⟨#[101, 48]⟩ : ByteArray), .int .u32 167772161, .int .i64 24, .int .i64 0, .bool false, .bool false, .int .i64 0, .int .i64 0, .bool false, .str (⟨#[]⟩ : ByteArray), .str (⟨#[]⟩ : ByteArray), .int .i64 0])), .sl true 2 0 (fun _ => []), .sl true 2 0 (fun _ => []), .sl true 2 0 (fun _ => []), .sl true 9 0 (fun _ => []), .sl true 7 1 (fun i => List.take 7 (List.drop (i * 7) [.int .u32 0, .int .i64 0, .int .u32 167772169, .str (⟨#[]⟩ : ByteArray), .bool false, .int .i64 1, .int .i64 0])), .bool false, .int .i64 0, .sl true 3 0 (fun _ => []), .sl true 5 0 (fun _ => []), .bool false, .int .i64 0, .str (⟨#[]⟩ : ByteArray), .str (⟨#[]⟩ : ByteArray), .sl true 5 0 (fun _ => []), .bool false, .int .i64 0, .int .i64 0, .sl true 4 0 (fun _ => []), .sl true 2 0 (fun _ => []), .sl true 3 0 (fun _ => []), .sl true 5 0 (fun _ => []), .sl true 5 0 (fun _ => [])]))], .box (c_TView r1.1)]⟩ ?_)))
 refine then_le (s' := ⟨60, [(2, .ref 1 0), (4, sL 14 c_TRoute ([(⟨(⟨0, 0⟩ : TPrefix), 2, 0, 1, 0, 0, 0, 0, ([] : List Int), 0, 167772169, ([] : List THop), false⟩ : TRoute), (⟨(⟨167772160, 24⟩ : TPrefix), 1, 0, 0, 0, 0, 0, 0, ([] : List Int), 0, 0, ([(⟨0, 0⟩ : THop)] : List THop), false⟩ : TRoute)] : List TRoute))], [.box [.sl true 25 1 (fun i => List.take 25 (List.drop (i * 25) [.str (⟨#[97]⟩ : ByteArray), .int .i64 0, .sl true 12 1 (fun i => List.take 12 (List.drop (i * 12) [.str (⟨#[101, 48]⟩ : ByteArray), .int .u32 167772161, .int .i64 24, .int .i64 0, .bool false, .bool false, .int .i64 0, .int .i64 0, .bool false, .str (⟨#[]⟩ : ByteArray), .str (⟨#[]⟩ : ByteArray), .int .i64 0])), .sl true 2 0 (fun _ => []), .sl true 2 0 (fun _ => []), .sl true 2 0 (fun _ => []), .sl true 9 0 (fun _ => []), .sl true 7 1 (fun i => List.take 7 (List.drop (i * 7) [.int .u32 0, .int .i64 0, .int .u32 167772169, .str (⟨#[]⟩ : ByteArray), .bool false, .int .i64 1, .int .i64 0])), .bool false, .int .i64 0, .sl true 3 0 (fun _ => []), .sl true 5 0 (fun _ => []), .bool false, .int .i64 0, .str (⟨#[]⟩ : ByteArray), .str (⟨#[]⟩ : ByteArray), .sl true 5 0 (fun _ => []), .bool false, .int .i64 0, .int .i64 0, .sl true 4 0 (fun _ => []), .sl true 2 0 (fun _ => []), .sl true 3 0 (fun _ => []), .sl true 5 0 (fun _ => []), .sl true 5 0 (fun _ => [])]))], .box (c_TView r1.1)]⟩) (le_sub (.cons Sub.rfl (.cons (sub_psl rfl (fun i hi => match i, hi with | 0, _ => (.cons PSub.rfl (.cons PSub.rfl (.cons PSub.rfl (.cons PSub.rfl (.cons PSub.rfl (.cons PSub.rfl (.cons PSub.rfl (.cons PSub.rfl (.cons PSub.rfl (.cons psub_nil (.cons PSub.rfl (.cons PSub.rfl (.cons psub_nil (.cons PSub.rfl .nil)))))))))))))) | 1, _ => (.cons PSub.rfl (.cons PSub.rfl (.cons PSub.rfl (.cons PSub.rfl (.cons PSub.rfl (.cons PSub.rfl (.cons PSub.rfl (.cons PSub.rfl (.cons PSub.rfl (.cons psub_nil (.cons PSub.rfl (.cons PSub.rfl (.cons (psub_sl rfl (fun i hi => match i, hi with | 0, _ => (.cons PSub.rfl (.cons PSub.rfl .nil)) | n + 1, h => absurd h (by omega))) (.cons PSub.rfl .nil)))))))))))))) | n + 2, h => absurd h (by omega))) .nil)) (.cons .rfl (.cons .rfl .nil))) ?_
 refine awp_seq ?_
 obtain ⟨r2, q6, h7⟩ := bind_some h5
 refine rg [.pure (sL 4 c_TForward r2)] [5] 0 ⟨60, [(5, sL 4 c_TForward r2)], []⟩ [] [⟨true, 12, [.agg (c_TView r1.1), sL 14 c_TRoute ([(⟨(⟨0, 0⟩ : TPrefix), 2, 0, 1, 0, 0, 0, 0, ([] : List Int), 0, 167772169, ([] : List THop), false⟩ : TRoute), (⟨(⟨167772160, 24⟩ : TPrefix), 1, 0, 0, 0, 0, 0, 0, ([] : List Int), 0, 0, ([(⟨0, 0⟩ : THop)] : List THop), false⟩ : TRoute)] : List TRoute), .int .i64 0], .pure (sL 4 c_TForward r2)⟩] nil_all ⟨fun _ => fib_Table_ok r1.1 ([(⟨(⟨0, 0⟩ : TPrefix), 2, 0, 1, 0, 0, 0, 0, ([] : List Int), 0, 167772169, ([] : List THop), false⟩ : TRoute), (⟨(⟨167772160, 24⟩ : TPrefix), 1, 0, 0, 0, 0, 0, 0, ([] : List Int), 0, 0, ([(⟨0, 0⟩ : THop)] : List THop), false⟩ : TRoute)] : List TRoute) 0 r2 q6, trivial⟩ ?_
 refine then_n (awp_seq ?_)
 obtain ⟨r3, q8, h9⟩ := bind_some h7
 obtain ⟨r4, q10, h11⟩ := bind_some h9
 obtain ⟨c12, h13⟩ := gd_some h11
 refine rg [.pure (.int .i64 r3), .pure (.int .i64 r4)] [0] 0 ⟨60, [(0, .bool ((((((r2.length : Int) == 2) && ((((r2.getD (0 : Int).toNat default).fHops).length : Int) == 1)) && ((((((r2.getD (0 : Int).toNat default).fHops).getD (0 : Int).toNat default).fIface) == 0) && ((((((r2.getD (0 : Int).toNat default).fHops).getD (0 : Int).toNat default).fAddr) == 167772169) && true))) && (r3 == 0)) && (r4 == 1)))], []⟩ [guardB ((r2.length : Int) == 2) (decide (0 ≤ 0)), guardB ((r2.length : Int) == 2) (decide (0 < (r2.length : Int))), guardB (((r2.length : Int) == 2) && ((((r2.getD (0 : Int).toNat default).fHops).length : Int) == 1)) (decide (0 ≤ 0)), guardB (((r2.length : Int) == 2) && ((((r2.getD (0 : Int).toNat default).fHops).length : Int) == 1)) (decide (0 < (r2.length : Int))), guardB (((r2.length : Int) == 2) && ((((r2.getD (0 : Int).toNat default).fHops).length : Int) == 1)) (decide (0 ≤ 0)), guardB (((r2.length : Int) == 2) && ((((r2.getD (0 : Int).toNat default).fHops).length : Int) == 1)) (decide (0 < (((r2.getD (0 : Int).toNat default).fHops).length : Int)))] [⟨(((r2.length : Int) == 2) && ((((r2.getD (0 : Int).toNat default).fHops).length : Int) == 1)) && ((((((r2.getD (0 : Int).toNat default).fHops).getD (0 : Int).toNat default).fIface) == 0) && ((((((r2.getD (0 : Int).toNat default).fHops).getD (0 : Int).toNat default).fAddr) == 167772169) && true)), 20, [sL 4 c_TForward r2, .int .u32 5], .pure (.int .i64 r3)⟩, ⟨((((r2.length : Int) == 2) && ((((r2.getD (0 : Int).toNat default).fHops).length : Int) == 1)) && ((((((r2.getD (0 : Int).toNat default).fHops).getD (0 : Int).toNat default).fIface) == 0) && ((((((r2.getD (0 : Int).toNat default).fHops).getD (0 : Int).toNat default).fAddr) == 167772169) && true))) && (r3 == 0), 20, [sL 4 c_TForward r2, .int .u32 167772165], .pure (.int .i64 r4)⟩] c12 ⟨fun hg => fib_Lookup_ok r2 5 r3 (gc_some q8 hg), fun hg => fib_Lookup_ok r2 167772165 r4 (gc_some q10 hg), trivial⟩ ?_
 refine then_n (awp_ret ?_)
 obtain rfl := Option.some.inj h13
 exact er0 (.bool ((((((r2.length : Int) == 2) && ((((r2.getD (0 : Int).toNat default).fHops).length : Int) == 1)) && ((((((r2.getD (0 : Int).toNat default).fHops).getD (0 : Int).toNat default).fIface) == 0) && ((((((r2.getD (0 : Int).toNat default).fHops).getD (0 : Int).toNat default).fAddr) == 167772169) && true))) && (r3 == 0)) && (r4 == 1)))
theorem law24_FibCompresses_ok (a0 : List TForward) (r : Bool) (h : M.law24_FibCompresses a0 = some r) : Fn Tryz.prog 7 [sL 4 c_TForward a0] (.pure (.bool r)) := by
 unfold M.law24_FibCompresses at h
 refine fn_pure Tryz.func7 rfl (by kernel_rfl) ?_
 refine awp_seq (rg0 [0] 0 ⟨16, [(0, sL 4 c_TForward a0)], []⟩ ?_)
 refine then_n (awp_seq ?_)
 obtain ⟨r1, q1, h2⟩ := bind_some h
 obtain ⟨r2, q3, h4⟩ := bind_some h2
 obtain ⟨r3, q5, h6⟩ := bind_some h4
 obtain ⟨r4, q7, h8⟩ := bind_some h6
 obtain ⟨r5, q9, h10⟩ := bind_some h8
 refine rg [.pure (.bool r1), .pure (sL 4 c_TForward r2), .pure (sL 4 c_TForward r3), .pure (.bool r4), .pure (.bool r5)] [2] 0 ⟨16, [(2, .bool ((!r1) || (r4 && r5)))], []⟩ [] [⟨true, 19, [sL 4 c_TForward a0], .pure (.bool r1)⟩, ⟨(!(!r1)), 23, [sL 4 c_TForward a0], .pure (sL 4 c_TForward r2)⟩, ⟨(!(!r1)), 24, [sL 4 c_TForward a0], .pure (sL 4 c_TForward r3)⟩, ⟨(!(!r1)), 11, [sL 4 c_TForward r2, sL 4 c_TForward r3], .pure (.bool r4)⟩, ⟨((!(!r1)) && r4), 17, [], .pure (.bool r5)⟩] nil_all ⟨fun _ => law24_right_ok a0 r1 q1, fun hg => fib_Compress_ok a0 r2 (gc_some q3 hg), fun hg => ref24_Compress_ok a0 r3 (gc_some q5 hg), fun hg => ref24_SameForwards_ok r2 r3 r4 (gc_some q7 hg), fun hg => law24_sane_ok  r5 (gc_some q9 hg), trivial⟩ ?_
 refine then_n (awp_ret ?_)
 obtain rfl := Option.some.inj h10
 exact er0 (.bool ((!r1) || (r4 && r5)))
end Nv
