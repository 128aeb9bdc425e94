/- The walks: each function computes its mirror. -/
import Derived.Test.YtmangnohekiphaaProg
import Derived.Test.YtmangnohekiphaaNvD1
import Derived.Test.YtmangnohekiphaaNvLibC
import Derived.KernelRfl
import Derived.Test.YtmangnohekiphaaNvM1a
set_option maxRecDepth 100000
namespace Nv
open Go Go.Proofs
/- netverify/model.checkDistanceVector -/
theorem model_checkDistanceVector_ok (a0 : TRouter) (r : Int) (h : M.model_checkDistanceVector a0 = some r) : Fn Try.prog 70 [.agg (c_TRouter a0)] (.pure (.int .i64 r)) := by
 unfold M.model_checkDistanceVector at h
 refine fn_pure Try.func70 rfl (by kernel_rfl) ?_
 refine awp_seq (rg0 [1] 1 ⟨58, [(1, .ref 0 0)], [.box (c_TRouter a0)]⟩ ?_)
 refine then_n (awp_seq (rg0 [1, 3] 2 ⟨58, [(1, .ref 0 0), (3, .ref 1 0)], [.box (c_TRouter a0), .box (c_TDistanceVector a0.fDV)]⟩ ?_))
 refine then_n (awp_seq (awp_seq (rg0 [1, 3, 8] 2 ⟨58, [(1, .ref 0 0), (3, .ref 1 0), (8, .bool (!a0.fDV.fOn))], [.box (c_TRouter a0), .box (c_TDistanceVector a0.fDV)]⟩ ?_)))
 refine then_n ?_
 refine cnd (!a0.fDV.fOn) (fun b1 => ?_) (fun b1 => ?_)
 have h2 := cond_t b1 h
 refine awp_seq (awp_seq (rg0 [27] 0 ⟨58, [(27, .bool ((((a0.fDV.fAdmin != 0) || (!strEq a0.fDV.fIn (⟨#[]⟩ : ByteArray))) || (!strEq a0.fDV.fOut (⟨#[]⟩ : ByteArray))) || (decide ((a0.fDV.fRedist.length : Int) > 0))))], []⟩ ?_))
 refine then_n ?_
 refine cnd ((((a0.fDV.fAdmin != 0) || (!strEq a0.fDV.fIn (⟨#[]⟩ : ByteArray))) || (!strEq a0.fDV.fOut (⟨#[]⟩ : ByteArray))) || (decide ((a0.fDV.fRedist.length : Int) > 0))) (fun b4 => ?_) (fun b4 => ?_)
 have h5 := cond_t b4 h2
 refine awp_seq (rg0 [2] 0 ⟨58, [(2, .int .i64 1)], []⟩ ?_)
 refine then_n (awp_ret (then_r (then_r ?_)))
 obtain rfl := Option.some.inj h5
 exact er0 (.int .i64 1)
 have h6 := cond_f b4 h2
 refine awp_skip (then_n (awp_seq (rg0 [2] 0 ⟨58, [(2, .int .i64 0)], []⟩ ?_)))
 refine then_n (awp_ret (then_r ?_))
 obtain rfl := Option.some.inj h6
 exact er0 (.int .i64 0)
 have h3 := cond_f b1 h
 refine awp_skip (then_n (awp_seq (awp_seq ?_)))
 obtain ⟨r1, q7, h8⟩ := bind_some h3
 refine rg [.pure (.bool r1)] [1, 3, 31] 2 ⟨58, [(1, .ref 0 0), (3, .ref 1 0), (31, .bool (!r1))], [.box (c_TRouter a0), .box (c_TDistanceVector a0.fDV)]⟩ [] [⟨true, 61, [.int .i64 a0.fDV.fAdmin, .int .i64 1, .int .i64 255], .pure (.bool r1)⟩] nil_all ⟨fun _ => model_within_ok a0.fDV.fAdmin 1 255 r1 q7, trivial⟩ ?_
 refine then_n ?_
 refine cnd (!r1) (fun b9 => ?_) (fun b9 => ?_)
 have h10 := cond_t b9 h8
 refine awp_seq (rg0 [2] 0 ⟨58, [(2, .int .i64 1)], []⟩ ?_)
 refine then_n (awp_ret (then_r ?_))
 obtain rfl := Option.some.inj h10
 exact er0 (.int .i64 1)
 have h11 := cond_f b9 h8
 refine awp_skip (then_n (awp_seq (awp_seq ?_)))
 obtain ⟨r2, q12, h13⟩ := bind_some h11
 obtain ⟨r3, q14, h15⟩ := bind_some h13
 refine rg [.pure (.int .i64 r2), .pure (.int .i64 r3)] [1, 3, 53] 2 ⟨58, [(1, .ref 0 0), (3, .ref 1 0), (53, .bool (((!strEq a0.fDV.fIn (⟨#[]⟩ : ByteArray)) && (decide (r2 < 0))) || ((!strEq a0.fDV.fOut (⟨#[]⟩ : ByteArray)) && (decide (r3 < 0)))))], [.box (c_TRouter a0), .box (c_TDistanceVector a0.fDV)]⟩ [] [⟨!strEq a0.fDV.fIn (⟨#[]⟩ : ByteArray), 17, [.agg (c_TRouter a0), .str a0.fDV.fIn], .pure (.int .i64 r2)⟩, ⟨((!((!strEq a0.fDV.fIn (⟨#[]⟩ : ByteArray)) && (decide (r2 < 0)))) && (!strEq a0.fDV.fOut (⟨#[]⟩ : ByteArray))), 17, [.agg (c_TRouter a0), .str a0.fDV.fOut], .pure (.int .i64 r3)⟩] nil_all ⟨fun hg => model_PrefixList_ok a0 a0.fDV.fIn r2 (gc_some q12 hg), fun hg => model_PrefixList_ok a0 a0.fDV.fOut r3 (gc_some q14 hg), trivial⟩ ?_
 refine then_n ?_
 refine cnd (((!strEq a0.fDV.fIn (⟨#[]⟩ : ByteArray)) && (decide (r2 < 0))) || ((!strEq a0.fDV.fOut (⟨#[]⟩ : ByteArray)) && (decide (r3 < 0)))) (fun b16 => ?_) (fun b16 => ?_)
 have h17 := cond_t b16 h15
 refine awp_seq (rg0 [2] 0 ⟨58, [(2, .int .i64 5)], []⟩ ?_)
 refine then_n (awp_ret (then_r ?_))
 obtain rfl := Option.some.inj h17
 exact er0 (.int .i64 5)
 have h18 := cond_f b16 h15
 refine awp_skip (then_n (awp_seq ?_))
 obtain ⟨r4, q19, h20⟩ := bind_some h18
 refine rg [.pure (.int .i64 r4)] [2] 0 ⟨58, [(2, .int .i64 r4)], []⟩ [] [⟨true, 93, [.agg (c_TRouter a0), sL 5 c_TRedist a0.fDV.fRedist, .int .i64 4, .int .i64 1, .int .i64 15, .int .i64 0], .pure (.int .i64 r4)⟩] nil_all ⟨fun _ => model_checkRedist_ok a0 a0.fDV.fRedist 4 1 15 0 r4 q19, trivial⟩ ?_
 refine then_n (awp_ret ?_)
 obtain rfl := Option.some.inj h20
 exact er0 (.int .i64 r4)

/- netverify/model.checkNeighbors -/
theorem model_checkNeighbors_ok (a0 : TRouter) (r : Int) (h : M.model_checkNeighbors a0 = some r) : Fn Try.prog 94 [.agg (c_TRouter a0)] (.pure (.int .i64 r)) := by
 unfold M.model_checkNeighbors at h
 refine fn_pure Try.func94 rfl (by kernel_rfl) ?_
 refine awp_seq (rg0 [1] 1 ⟨69, [(1, .ref 0 0)], [.box (c_TRouter a0)]⟩ ?_)
 refine then_n (awp_seq (awp_seq (rg0 [1, 11] 1 ⟨69, [(1, .ref 0 0), (11, .bool (decide ((a0.fPV.fNeighbors.length : Int) > 8)))], [.box (c_TRouter a0)]⟩ ?_)))
 refine then_n ?_
 refine cnd (decide ((a0.fPV.fNeighbors.length : Int) > 8)) (fun b1 => ?_) (fun b1 => ?_)
 have h2 := cond_t b1 h
 refine awp_seq (rg0 [2] 0 ⟨69, [(2, .int .i64 7)], []⟩ ?_)
 refine then_n (awp_ret (then_r ?_))
 obtain rfl := Option.some.inj h2
 exact er0 (.int .i64 7)
 have h3 := cond_f b1 h
 refine awp_skip (then_n (awp_seq (awp_seq (rg0 [1, 14, 15, 16] 1 ⟨69, [(1, .ref 0 0), (14, sL 4 c_TNeighbor a0.fPV.fNeighbors), (15, .int .i64 (a0.fPV.fNeighbors.length : Int)), (16, .int .i64 0)], [.box (c_TRouter a0)]⟩ ?_))))
 refine then_n (awp_block ?_)
 obtain ⟨y11, q42, h43⟩ := bind_some h3
 refine awp_le (s' := ⟨69, [(1, .ref 0 0), (14, sL 4 c_TNeighbor a0.fPV.fNeighbors), (15, .int .i64 (a0.fPV.fNeighbors.length : Int)), (16, .int .i64 0)], [.box (c_TRouter a0)]⟩) (le_rfl) ?_
 refine awp_mono (awp_loop (f := M.model_checkNeighbors_l1 a0) (S := fun (p1 : Int) => ⟨69, [(1, .ref 0 0), (14, sL 4 c_TNeighbor a0.fPV.fNeighbors), (15, .int .i64 (a0.fPV.fNeighbors.length : Int)), (16, .int .i64 p1)], [.box (c_TRouter a0)]⟩) (O := (Sum.elim (fun z => OutE 0 (fun z => ⟨69, [], []⟩) z) (fun z => OutR Try.prog Try.f94 (.int .i64 z)))) ?_ (x := 0) (y := y11) (loopM_iter q42)) ?_
 intro p1 y2 h4
 unfold M.model_checkNeighbors_l1 at h4
 refine awp_seq (rg0 [1, 14, 15, 16, 17] 1 ⟨69, [(1, .ref 0 0), (14, sL 4 c_TNeighbor a0.fPV.fNeighbors), (15, .int .i64 (a0.fPV.fNeighbors.length : Int)), (16, .int .i64 p1), (17, .bool (decide (p1 < (a0.fPV.fNeighbors.length : Int))))], [.box (c_TRouter a0)]⟩ ?_)
 refine then_n (awp_seq ?_)
 refine cnd (decide (p1 < (a0.fPV.fNeighbors.length : Int))) (fun b5 => ?_) (fun b5 => ?_)
 have h6 := cond_t b5 h4
 refine awp_skip (then_n (awp_seq (awp_block (awp_seq ?_))))
 obtain ⟨c8, h9⟩ := gd_some h6
 refine rgc [1, 3, 4, 14, 15, 16] 2 ⟨69, [(1, .ref 0 0), (3, .int .i64 p1), (4, .ref 1 0), (14, sL 4 c_TNeighbor a0.fPV.fNeighbors), (15, .int .i64 (a0.fPV.fNeighbors.length : Int)), (16, .int .i64 p1)], [.box (c_TRouter a0), .box (c_TNeighbor (a0.fPV.fNeighbors.getD p1.toNat default))]⟩ [decide (0 ≤ p1), decide (p1 < (a0.fPV.fNeighbors.length : Int))] c8 ?_
 refine then_n (awp_seq (awp_seq ?_))
 obtain ⟨r3, q10, h11⟩ := bind_some h9
 refine rg [.pure (.bool r3)] [1, 3, 4, 14, 15, 16, 29] 2 ⟨69, [(1, .ref 0 0), (3, .int .i64 p1), (4, .ref 1 0), (14, sL 4 c_TNeighbor a0.fPV.fNeighbors), (15, .int .i64 (a0.fPV.fNeighbors.length : Int)), (16, .int .i64 p1), (29, .bool ((((a0.fPV.fNeighbors.getD p1.toNat default).fAddr) == 0) || (!r3)))], [.box (c_TRouter a0), .box (c_TNeighbor (a0.fPV.fNeighbors.getD p1.toNat default))]⟩ [] [⟨(!(((a0.fPV.fNeighbors.getD p1.toNat default).fAddr) == 0)), 61, [.int .i64 ((a0.fPV.fNeighbors.getD p1.toNat default).fAS), .int .i64 1, .int .i64 65535], .pure (.bool r3)⟩] nil_all ⟨fun hg => model_within_ok ((a0.fPV.fNeighbors.getD p1.toNat default).fAS) 1 65535 r3 (gc_some q10 hg), trivial⟩ ?_
 refine then_n ?_
 refine cnd ((((a0.fPV.fNeighbors.getD p1.toNat default).fAddr) == 0) || (!r3)) (fun b12 => ?_) (fun b12 => ?_)
 have h13 := cond_t b12 h11
 refine awp_seq (rg0 [2] 0 ⟨69, [(2, .int .i64 1)], []⟩ ?_)
 refine then_n (awp_ret (then_r (inb_r (then_r ?_))))
 obtain rfl := Option.some.inj h13
 exact round_r ⟨rfl, er0 (.int .i64 1)⟩
 have h14 := cond_f b12 h11
 refine awp_skip (then_n (awp_seq (awp_seq ?_)))
 obtain ⟨r4, q15, h16⟩ := bind_some h14
 obtain ⟨r5, q17, h18⟩ := bind_some h16
 refine rg [.pure (.int .i64 r4), .pure (.int .i64 r5)] [1, 3, 4, 14, 15, 16, 51] 2 ⟨69, [(1, .ref 0 0), (3, .int .i64 p1), (4, .ref 1 0), (14, sL 4 c_TNeighbor a0.fPV.fNeighbors), (15, .int .i64 (a0.fPV.fNeighbors.length : Int)), (16, .int .i64 p1), (51, .bool (((!strEq ((a0.fPV.fNeighbors.getD p1.toNat default).fIn) (⟨#[]⟩ : ByteArray)) && (decide (r4 < 0))) || ((!strEq ((a0.fPV.fNeighbors.getD p1.toNat default).fOut) (⟨#[]⟩ : ByteArray)) && (decide (r5 < 0)))))], [.box (c_TRouter a0), .box (c_TNeighbor (a0.fPV.fNeighbors.getD p1.toNat default))]⟩ [] [⟨!strEq ((a0.fPV.fNeighbors.getD p1.toNat default).fIn) (⟨#[]⟩ : ByteArray), 19, [.agg (c_TRouter a0), .str ((a0.fPV.fNeighbors.getD p1.toNat default).fIn)], .pure (.int .i64 r4)⟩, ⟨((!((!strEq ((a0.fPV.fNeighbors.getD p1.toNat default).fIn) (⟨#[]⟩ : ByteArray)) && (decide (r4 < 0)))) && (!strEq ((a0.fPV.fNeighbors.getD p1.toNat default).fOut) (⟨#[]⟩ : ByteArray))), 19, [.agg (c_TRouter a0), .str ((a0.fPV.fNeighbors.getD p1.toNat default).fOut)], .pure (.int .i64 r5)⟩] nil_all ⟨fun hg => model_RouteMap_ok a0 ((a0.fPV.fNeighbors.getD p1.toNat default).fIn) r4 (gc_some q15 hg), fun hg => model_RouteMap_ok a0 ((a0.fPV.fNeighbors.getD p1.toNat default).fOut) r5 (gc_some q17 hg), trivial⟩ ?_
 refine then_n ?_
 refine cnd (((!strEq ((a0.fPV.fNeighbors.getD p1.toNat default).fIn) (⟨#[]⟩ : ByteArray)) && (decide (r4 < 0))) || ((!strEq ((a0.fPV.fNeighbors.getD p1.toNat default).fOut) (⟨#[]⟩ : ByteArray)) && (decide (r5 < 0)))) (fun b19 => ?_) (fun b19 => ?_)
 have h20 := cond_t b19 h18
 refine awp_seq (rg0 [2] 0 ⟨69, [(2, .int .i64 5)], []⟩ ?_)
 refine then_n (awp_ret (then_r (inb_r (then_r ?_))))
 obtain rfl := Option.some.inj h20
 exact round_r ⟨rfl, er0 (.int .i64 5)⟩
 have h21 := cond_f b19 h18
 refine awp_skip (then_n (awp_seq ?_))
 obtain ⟨c22, h23⟩ := gd_some h21
 refine rgc [1, 4, 14, 15, 16, 56, 57, 58] 2 ⟨69, [(1, .ref 0 0), (4, .ref 1 0), (14, sL 4 c_TNeighbor a0.fPV.fNeighbors), (15, .int .i64 (a0.fPV.fNeighbors.length : Int)), (16, .int .i64 p1), (56, .sl false 4 (p1.toNat - 0) (fun i => c_TNeighbor (a0.fPV.fNeighbors.getD (0 + i) default))), (57, .int .i64 ((p1.toNat - 0 : Nat) : Int)), (58, .int .i64 0)], [.box (c_TRouter a0), .box (c_TNeighbor (a0.fPV.fNeighbors.getD p1.toNat default))]⟩ [decide (0 ≤ p1), decide (p1 ≤ (a0.fPV.fNeighbors.length : Int))] c22 ?_
 refine then_le (s' := ⟨69, [(1, .ref 0 0), (4, .ref 1 0), (14, sL 4 c_TNeighbor a0.fPV.fNeighbors), (15, .int .i64 (a0.fPV.fNeighbors.length : Int)), (16, .int .i64 p1), (56, sL 4 c_TNeighbor ((a0.fPV.fNeighbors.drop 0).take (p1.toNat - 0))), (57, .int .i64 ((p1.toNat - 0 : Nat) : Int)), (58, .int .i64 0)], [.box (c_TRouter a0), .box (c_TNeighbor (a0.fPV.fNeighbors.getD p1.toNat default))]⟩) (le_sub (.cons Sub.rfl (.cons Sub.rfl (.cons Sub.rfl (.cons Sub.rfl (.cons Sub.rfl (.cons (sub_sl (len_cut _ _ _ (cut_hi (c22 _ (List.mem_cons_of_mem _ List.mem_cons_self)))) (cut_ext _ _ _ _)) (.cons Sub.rfl (.cons Sub.rfl .nil)))))))) (.cons .rfl (.cons .rfl .nil))) ?_
 refine awp_block ?_
 obtain ⟨y8, q33, h34⟩ := bind_some h23
 refine awp_le (s' := ⟨69, [(1, .ref 0 0), (4, .ref 1 0), (14, sL 4 c_TNeighbor a0.fPV.fNeighbors), (15, .int .i64 (a0.fPV.fNeighbors.length : Int)), (16, .int .i64 p1), (56, sL 4 c_TNeighbor ((a0.fPV.fNeighbors.drop 0).take (p1.toNat - 0))), (57, .int .i64 ((p1.toNat - 0 : Nat) : Int)), (58, .int .i64 0)], [.box (c_TRouter a0), .box (c_TNeighbor (a0.fPV.fNeighbors.getD p1.toNat default))]⟩) (le_rfl) ?_
 refine awp_mono (awp_loop (f := M.model_checkNeighbors_l2 a0 p1) (S := fun (p6 : Int) => ⟨69, [(1, .ref 0 0), (4, .ref 1 0), (14, sL 4 c_TNeighbor a0.fPV.fNeighbors), (15, .int .i64 (a0.fPV.fNeighbors.length : Int)), (16, .int .i64 p1), (56, sL 4 c_TNeighbor ((a0.fPV.fNeighbors.drop 0).take (p1.toNat - 0))), (57, .int .i64 ((p1.toNat - 0 : Nat) : Int)), (58, .int .i64 p6)], [.box (c_TRouter a0), .box (c_TNeighbor (a0.fPV.fNeighbors.getD p1.toNat default))]⟩) (O := (Sum.elim (fun z => OutE 2 (fun z => ⟨69, [(1, .ref 0 0), (14, sL 4 c_TNeighbor a0.fPV.fNeighbors), (15, .int .i64 (a0.fPV.fNeighbors.length : Int)), (16, .int .i64 p1)], [.box (c_TRouter a0)]⟩) z) (fun z => OutR Try.prog Try.f94 (.int .i64 z)))) ?_ (x := 0) (y := y8) (loopM_iter q33)) ?_
 intro p6 y7 h24
 unfold M.model_checkNeighbors_l2 at h24
 refine awp_seq (rg0 [1, 4, 14, 15, 16, 56, 57, 58, 59] 2 ⟨69, [(1, .ref 0 0), (4, .ref 1 0), (14, sL 4 c_TNeighbor a0.fPV.fNeighbors), (15, .int .i64 (a0.fPV.fNeighbors.length : Int)), (16, .int .i64 p1), (56, sL 4 c_TNeighbor ((a0.fPV.fNeighbors.drop 0).take (p1.toNat - 0))), (57, .int .i64 ((p1.toNat - 0 : Nat) : Int)), (58, .int .i64 p6), (59, .bool (decide (p6 < ((p1.toNat - 0 : Nat) : Int))))], [.box (c_TRouter a0), .box (c_TNeighbor (a0.fPV.fNeighbors.getD p1.toNat default))]⟩ ?_)
 refine then_n (awp_seq ?_)
 refine cnd (decide (p6 < ((p1.toNat - 0 : Nat) : Int))) (fun b25 => ?_) (fun b25 => ?_)
 have h26 := cond_t b25 h24
 refine awp_skip (then_n (awp_seq (awp_block (awp_seq ?_))))
 obtain ⟨c28, h29⟩ := gd_some h26
 refine rgc [1, 4, 6, 14, 15, 16, 56, 57, 58] 3 ⟨69, [(1, .ref 0 0), (4, .ref 1 0), (6, .ref 2 0), (14, sL 4 c_TNeighbor a0.fPV.fNeighbors), (15, .int .i64 (a0.fPV.fNeighbors.length : Int)), (16, .int .i64 p1), (56, sL 4 c_TNeighbor ((a0.fPV.fNeighbors.drop 0).take (p1.toNat - 0))), (57, .int .i64 ((p1.toNat - 0 : Nat) : Int)), (58, .int .i64 p6)], [.box (c_TRouter a0), .box (c_TNeighbor (a0.fPV.fNeighbors.getD p1.toNat default)), .box (c_TNeighbor (((a0.fPV.fNeighbors.drop 0).take (p1.toNat - 0)).getD p6.toNat default))]⟩ [decide (0 ≤ p6), decide (p6 < (((a0.fPV.fNeighbors.drop 0).take (p1.toNat - 0)).length : Int))] c28 ?_
 refine then_n (awp_seq (rg0 [1, 4, 14, 15, 16, 56, 57, 58, 66] 2 ⟨69, [(1, .ref 0 0), (4, .ref 1 0), (14, sL 4 c_TNeighbor a0.fPV.fNeighbors), (15, .int .i64 (a0.fPV.fNeighbors.length : Int)), (16, .int .i64 p1), (56, sL 4 c_TNeighbor ((a0.fPV.fNeighbors.drop 0).take (p1.toNat - 0))), (57, .int .i64 ((p1.toNat - 0 : Nat) : Int)), (58, .int .i64 p6), (66, .bool (((((a0.fPV.fNeighbors.drop 0).take (p1.toNat - 0)).getD p6.toNat default).fAddr) == ((a0.fPV.fNeighbors.getD p1.toNat default).fAddr)))], [.box (c_TRouter a0), .box (c_TNeighbor (a0.fPV.fNeighbors.getD p1.toNat default))]⟩ ?_))
 refine then_n ?_
 refine cnd (((((a0.fPV.fNeighbors.drop 0).take (p1.toNat - 0)).getD p6.toNat default).fAddr) == ((a0.fPV.fNeighbors.getD p1.toNat default).fAddr)) (fun b30 => ?_) (fun b30 => ?_)
 have h31 := cond_t b30 h29
 refine awp_seq (rg0 [2] 0 ⟨69, [(2, .int .i64 4)], []⟩ ?_)
 refine then_n (awp_ret (inb_r (then_r ?_)))
 obtain rfl := Option.some.inj h31
 exact round_r ⟨rfl, er0 (.int .i64 4)⟩
 have h32 := cond_f b30 h29
 refine awp_skip (inb_n (then_n (rg0 [1, 4, 14, 15, 16, 56, 57, 58] 2 ⟨69, [(1, .ref 0 0), (4, .ref 1 0), (14, sL 4 c_TNeighbor a0.fPV.fNeighbors), (15, .int .i64 (a0.fPV.fNeighbors.length : Int)), (16, .int .i64 p1), (56, sL 4 c_TNeighbor ((a0.fPV.fNeighbors.drop 0).take (p1.toNat - 0))), (57, .int .i64 ((p1.toNat - 0 : Nat) : Int)), (58, .int .i64 (wr .i64 (p6 + 1)))], [.box (c_TRouter a0), .box (c_TNeighbor (a0.fPV.fNeighbors.getD p1.toNat default))]⟩ ?_)))
 obtain rfl := Option.some.inj h32
 exact round_n (le_rfl)
 have h27 := cond_f b25 h24
 refine awp_exit (then_e ?_)
 obtain rfl := Option.some.inj h27
 exact round_e ⟨rfl, Le.trans (s' := ⟨69, [(1, .ref 0 0), (14, sL 4 c_TNeighbor a0.fPV.fNeighbors), (15, .int .i64 (a0.fPV.fNeighbors.length : Int)), (16, .int .i64 p1)], [.box (c_TRouter a0), .box (c_TNeighbor (a0.fPV.fNeighbors.getD p1.toNat default))]⟩) (kp [1, 14, 15, 16]) (le_cut (n := 1) (by kernel_rfl))⟩
 intro e35 s36 o37
 rcases y8 with g9 | y10
 have h38 := elim_l h34
 obtain ⟨rfl, l40⟩ := o37
 refine inb_here (inb_n ?_)
 refine then_le (s' := ⟨69, [(1, .ref 0 0), (14, sL 4 c_TNeighbor a0.fPV.fNeighbors), (15, .int .i64 (a0.fPV.fNeighbors.length : Int)), (16, .int .i64 p1)], [.box (c_TRouter a0)]⟩) (l40) ?_
 refine rg0 [1, 14, 15, 16] 1 ⟨69, [(1, .ref 0 0), (14, sL 4 c_TNeighbor a0.fPV.fNeighbors), (15, .int .i64 (a0.fPV.fNeighbors.length : Int)), (16, .int .i64 (wr .i64 (p1 + 1)))], [.box (c_TRouter a0)]⟩ ?_
 obtain rfl := Option.some.inj h38
 exact round_n (le_rfl)
 have h39 := elim_r h34
 obtain ⟨rfl, n41⟩ := o37
 refine inb_r (inb_r (then_r ?_))
 obtain rfl := Option.some.inj h39
 exact round_r ⟨rfl, n41⟩
 have h7 := cond_f b5 h4
 refine awp_exit (then_e ?_)
 obtain rfl := Option.some.inj h7
 exact round_e ⟨rfl, Le.trans (s' := ⟨69, [], [.box (c_TRouter a0)]⟩) (kp []) (le_cut (n := 0) (by kernel_rfl))⟩
 intro e44 s45 o46
 rcases y11 with g12 | y13
 have h47 := elim_l h43
 obtain ⟨rfl, l49⟩ := o46
 refine inb_here ?_
 refine then_le (s' := ⟨69, [], []⟩) (l49) ?_
 refine awp_seq (rg0 [2] 0 ⟨69, [(2, .int .i64 0)], []⟩ ?_)
 refine then_n (awp_ret ?_)
 obtain rfl := Option.some.inj h47
 exact er0 (.int .i64 0)
 have h48 := elim_r h43
 obtain ⟨rfl, n50⟩ := o46
 refine inb_r (then_r ?_)
 obtain rfl := Option.some.inj h48
 exact n50

/- slices.Index[[]netverify/api.Prefix,netverify/api.Prefix] -/
theorem slices_Index_api_Prefix_api_Prefix_ok (a0 : List TPrefix) (a1 : TPrefix) (r : Int) (h : M.slices_Index_api_Prefix_api_Prefix a0 a1 = some r) : Fn Try.prog 102 [sL 2 c_TPrefix a0, .agg (c_TPrefix a1)] (.pure (.int .i64 r)) := by
 unfold M.slices_Index_api_Prefix_api_Prefix at h
 refine fn_pure Try.func102 rfl (by kernel_rfl) ?_
 refine awp_seq (rg0 [0, 3] 1 ⟨19, [(0, sL 2 c_TPrefix a0), (3, .ref 0 0)], [.box (c_TPrefix a1)]⟩ ?_)
 refine then_n (awp_seq (awp_seq (rg0 [0, 3, 7, 8] 1 ⟨19, [(0, sL 2 c_TPrefix a0), (3, .ref 0 0), (7, .int .i64 (a0.length : Int)), (8, .int .i64 0)], [.box (c_TPrefix a1)]⟩ ?_)))
 refine then_n (awp_block ?_)
 obtain ⟨y3, q10, h11⟩ := bind_some h
 refine awp_le (s' := ⟨19, [(0, sL 2 c_TPrefix a0), (3, .ref 0 0), (7, .int .i64 (a0.length : Int)), (8, .int .i64 0)], [.box (c_TPrefix a1)]⟩) (le_rfl) ?_
 refine awp_mono (awp_loop (f := M.slices_Index_api_Prefix_api_Prefix_l1 a0 a1) (S := fun (p1 : Int) => ⟨19, [(0, sL 2 c_TPrefix a0), (3, .ref 0 0), (7, .int .i64 (a0.length : Int)), (8, .int .i64 p1)], [.box (c_TPrefix a1)]⟩) (O := (Sum.elim (fun z => OutE 0 (fun z => ⟨19, [], []⟩) z) (fun z => OutR Try.prog Try.f102 (.int .i64 z)))) ?_ (x := 0) (y := y3) (loopM_iter q10)) ?_
 intro p1 y2 h1
 unfold M.slices_Index_api_Prefix_api_Prefix_l1 at h1
 refine awp_seq (rg0 [0, 3, 7, 8, 9] 1 ⟨19, [(0, sL 2 c_TPrefix a0), (3, .ref 0 0), (7, .int .i64 (a0.length : Int)), (8, .int .i64 p1), (9, .bool (decide (p1 < (a0.length : Int))))], [.box (c_TPrefix a1)]⟩ ?_)
 refine then_n (awp_seq ?_)
 refine cnd (decide (p1 < (a0.length : Int))) (fun b2 => ?_) (fun b2 => ?_)
 have h3 := cond_t b2 h1
 refine awp_skip (then_n (awp_seq (awp_block (awp_seq (rg0 [0, 3, 5, 7, 8] 1 ⟨19, [(0, sL 2 c_TPrefix a0), (3, .ref 0 0), (5, .int .i64 p1), (7, .int .i64 (a0.length : Int)), (8, .int .i64 p1)], [.box (c_TPrefix a1)]⟩ ?_)))))
 refine then_n (awp_seq ?_)
 obtain ⟨c5, h6⟩ := gd_some h3
 refine rgc [0, 3, 5, 7, 8, 16] 1 ⟨19, [(0, sL 2 c_TPrefix a0), (3, .ref 0 0), (5, .int .i64 p1), (7, .int .i64 (a0.length : Int)), (8, .int .i64 p1), (16, .bool ((a1.fAddr == ((a0.getD p1.toNat default).fAddr)) && ((a1.fLen == ((a0.getD p1.toNat default).fLen)) && true)))], [.box (c_TPrefix a1)]⟩ [decide (0 ≤ p1), decide (p1 < (a0.length : Int))] c5 ?_
 refine then_n ?_
 refine cnd ((a1.fAddr == ((a0.getD p1.toNat default).fAddr)) && ((a1.fLen == ((a0.getD p1.toNat default).fLen)) && true)) (fun b7 => ?_) (fun b7 => ?_)
 have h8 := cond_t b7 h6
 refine awp_seq (rg0 [4] 0 ⟨19, [(4, .int .i64 p1)], []⟩ ?_)
 refine then_n (awp_ret (inb_r (then_r ?_)))
 obtain rfl := Option.some.inj h8
 exact round_r ⟨rfl, er0 (.int .i64 p1)⟩
 have h9 := cond_f b7 h6
 refine awp_skip (inb_n (then_n (rg0 [0, 3, 7, 8] 1 ⟨19, [(0, sL 2 c_TPrefix a0), (3, .ref 0 0), (7, .int .i64 (a0.length : Int)), (8, .int .i64 (wr .i64 (p1 + 1)))], [.box (c_TPrefix a1)]⟩ ?_)))
 obtain rfl := Option.some.inj h9
 exact round_n (le_rfl)
 have h4 := cond_f b2 h1
 refine awp_exit (then_e ?_)
 obtain rfl := Option.some.inj h4
 exact round_e ⟨rfl, Le.trans (s' := ⟨19, [], [.box (c_TPrefix a1)]⟩) (kp []) (le_cut (n := 0) (by kernel_rfl))⟩
 intro e12 s13 o14
 rcases y3 with g4 | y5
 have h15 := elim_l h11
 obtain ⟨rfl, l17⟩ := o14
 refine inb_here ?_
 refine then_le (s' := ⟨19, [], []⟩) (l17) ?_
 refine awp_seq (rg0 [4] 0 ⟨19, [(4, .int .i64 (-1))], []⟩ ?_)
 refine then_n (awp_ret ?_)
 obtain rfl := Option.some.inj h15
 exact er0 (.int .i64 (-1))
 have h16 := elim_r h11
 obtain ⟨rfl, n18⟩ := o14
 refine inb_r (then_r ?_)
 obtain rfl := Option.some.inj h16
 exact n18

/- slices.Contains[[]netverify/api.Prefix,netverify/api.Prefix] -/
theorem slices_Contains_api_Prefix_api_Prefix_ok (a0 : List TPrefix) (a1 : TPrefix) (r : Bool) (h : M.slices_Contains_api_Prefix_api_Prefix a0 a1 = some r) : Fn Try.prog 100 [sL 2 c_TPrefix a0, .agg (c_TPrefix a1)] (.pure (.bool r)) := by
 unfold M.slices_Contains_api_Prefix_api_Prefix at h
 refine fn_pure Try.func100 rfl (by kernel_rfl) ?_
 refine awp_seq (rg0 [0, 3] 1 ⟨9, [(0, sL 2 c_TPrefix a0), (3, .ref 0 0)], [.box (c_TPrefix a1)]⟩ ?_)
 refine then_n (awp_seq ?_)
 obtain ⟨r1, q1, h2⟩ := bind_some h
 refine rg [.pure (.int .i64 r1)] [4] 0 ⟨9, [(4, .bool (decide (r1 ≥ 0)))], []⟩ [] [⟨true, 102, [sL 2 c_TPrefix a0, .agg (c_TPrefix a1)], .pure (.int .i64 r1)⟩] nil_all ⟨fun _ => slices_Index_api_Prefix_api_Prefix_ok a0 a1 r1 q1, trivial⟩ ?_
 refine then_n (awp_ret ?_)
 obtain rfl := Option.some.inj h2
 exact er0 (.bool (decide (r1 ≥ 0)))

/- netverify/model.checkOrigins -/
theorem model_checkOrigins_ok (a0 : TPathVector) (r : Int) (h : M.model_checkOrigins a0 = some r) : Fn Try.prog 95 [.agg (c_TPathVector a0)] (.pure (.int .i64 r)) := by
 unfold M.model_checkOrigins at h
 refine fn_pure Try.func95 rfl (by kernel_rfl) ?_
 refine awp_seq (rg0 [1] 1 ⟨110, [(1, .ref 0 0)], [.box (c_TPathVector a0)]⟩ ?_)
 refine then_n (awp_seq (awp_seq (rg0 [1, 16] 1 ⟨110, [(1, .ref 0 0), (16, .bool (decide ((a0.fNetworks.length : Int) > 8)))], [.box (c_TPathVector a0)]⟩ ?_)))
 refine then_n ?_
 refine cnd (decide ((a0.fNetworks.length : Int) > 8)) (fun b1 => ?_) (fun b1 => ?_)
 have h2 := cond_t b1 h
 refine awp_seq (rg0 [2] 0 ⟨110, [(2, .int .i64 7)], []⟩ ?_)
 refine then_n (awp_ret (then_r ?_))
 obtain rfl := Option.some.inj h2
 exact er0 (.int .i64 7)
 have h3 := cond_f b1 h
 refine awp_skip (then_n (awp_seq (awp_seq (rg0 [1, 18, 19, 20] 1 ⟨110, [(1, .ref 0 0), (18, sL 2 c_TPrefix a0.fNetworks), (19, .int .i64 (a0.fNetworks.length : Int)), (20, .int .i64 0)], [.box (c_TPathVector a0)]⟩ ?_))))
 refine then_n (awp_block ?_)
 obtain ⟨y5, q22, h23⟩ := bind_some h3
 refine awp_le (s' := ⟨110, [(1, .ref 0 0), (18, sL 2 c_TPrefix a0.fNetworks), (19, .int .i64 (a0.fNetworks.length : Int)), (20, .int .i64 0)], [.box (c_TPathVector a0)]⟩) (le_rfl) ?_
 refine awp_mono (awp_loop (f := M.model_checkOrigins_l1 a0) (S := fun (p1 : Int) => ⟨110, [(1, .ref 0 0), (18, sL 2 c_TPrefix a0.fNetworks), (19, .int .i64 (a0.fNetworks.length : Int)), (20, .int .i64 p1)], [.box (c_TPathVector a0)]⟩) (O := (Sum.elim (fun z => OutE 0 (fun z => ⟨110, [(1, .ref 0 0)], [.box (c_TPathVector a0)]⟩) z) (fun z => OutR Try.prog Try.f95 (.int .i64 z)))) ?_ (x := 0) (y := y5) (loopM_iter q22)) ?_
 intro p1 y2 h4
 unfold M.model_checkOrigins_l1 at h4
 refine awp_seq (rg0 [1, 18, 19, 20, 21] 1 ⟨110, [(1, .ref 0 0), (18, sL 2 c_TPrefix a0.fNetworks), (19, .int .i64 (a0.fNetworks.length : Int)), (20, .int .i64 p1), (21, .bool (decide (p1 < (a0.fNetworks.length : Int))))], [.box (c_TPathVector a0)]⟩ ?_)
 refine then_n (awp_seq ?_)
 refine cnd (decide (p1 < (a0.fNetworks.length : Int))) (fun b5 => ?_) (fun b5 => ?_)
 have h6 := cond_t b5 h4
 refine awp_skip (then_n (awp_seq (awp_block (awp_seq ?_))))
 obtain ⟨c8, h9⟩ := gd_some h6
 refine rgc [1, 3, 4, 18, 19, 20] 2 ⟨110, [(1, .ref 0 0), (3, .int .i64 p1), (4, .ref 1 0), (18, sL 2 c_TPrefix a0.fNetworks), (19, .int .i64 (a0.fNetworks.length : Int)), (20, .int .i64 p1)], [.box (c_TPathVector a0), .box (c_TPrefix (a0.fNetworks.getD p1.toNat default))]⟩ [decide (0 ≤ p1), decide (p1 < (a0.fNetworks.length : Int))] c8 ?_
 refine then_n (awp_seq (awp_seq ?_))
 obtain ⟨r3, q10, h11⟩ := bind_some h9
 refine rg [.pure (.bool r3)] [1, 3, 4, 18, 19, 20, 27] 2 ⟨110, [(1, .ref 0 0), (3, .int .i64 p1), (4, .ref 1 0), (18, sL 2 c_TPrefix a0.fNetworks), (19, .int .i64 (a0.fNetworks.length : Int)), (20, .int .i64 p1), (27, .bool (!r3))], [.box (c_TPathVector a0), .box (c_TPrefix (a0.fNetworks.getD p1.toNat default))]⟩ [] [⟨true, 88, [.agg (c_TPrefix (a0.fNetworks.getD p1.toNat default))], .pure (.bool r3)⟩] nil_all ⟨fun _ => addr_Valid_ok (a0.fNetworks.getD p1.toNat default) r3 q10, trivial⟩ ?_
 refine then_n ?_
 refine cnd (!r3) (fun b12 => ?_) (fun b12 => ?_)
 have h13 := cond_t b12 h11
 refine awp_seq (rg0 [2] 0 ⟨110, [(2, .int .i64 1)], []⟩ ?_)
 refine then_n (awp_ret (then_r (inb_r (then_r ?_))))
 obtain rfl := Option.some.inj h13
 exact round_r ⟨rfl, er0 (.int .i64 1)⟩
 have h14 := cond_f b12 h11
 refine awp_skip (then_n (awp_seq ?_))
 obtain ⟨r4, q15, h16⟩ := bind_some h14
 obtain ⟨c17, h18⟩ := gd_some h16
 refine rg [.pure (.bool r4)] [1, 18, 19, 20, 33] 1 ⟨110, [(1, .ref 0 0), (18, sL 2 c_TPrefix a0.fNetworks), (19, .int .i64 (a0.fNetworks.length : Int)), (20, .int .i64 p1), (33, .bool r4)], [.box (c_TPathVector a0)]⟩ [decide (0 ≤ p1), decide (p1 ≤ (a0.fNetworks.length : Int))] [⟨true, 100, [.sl false 2 (p1.toNat - 0) (fun i => c_TPrefix (a0.fNetworks.getD (0 + i) default)), .agg (c_TPrefix (a0.fNetworks.getD p1.toNat default))], .pure (.bool r4)⟩] c17 ⟨fun _ => (slices_Contains_api_Prefix_api_Prefix_ok ((a0.fNetworks.drop 0).take (p1.toNat - 0)) (a0.fNetworks.getD p1.toNat default) r4 q15).args (.cons (asub_sl (len_cut _ _ _ (cut_hi (c17 _ (List.mem_cons_of_mem _ List.mem_cons_self)))) (cut_ext _ _ _ _)) (.cons ASub.rfl .nil)), trivial⟩ ?_
 refine then_n ?_
 refine cnd r4 (fun b19 => ?_) (fun b19 => ?_)
 have h20 := cond_t b19 h18
 refine awp_seq (rg0 [2] 0 ⟨110, [(2, .int .i64 4)], []⟩ ?_)
 refine then_n (awp_ret (inb_r (then_r ?_)))
 obtain rfl := Option.some.inj h20
 exact round_r ⟨rfl, er0 (.int .i64 4)⟩
 have h21 := cond_f b19 h18
 refine awp_skip (inb_n (then_n (rg0 [1, 18, 19, 20] 1 ⟨110, [(1, .ref 0 0), (18, sL 2 c_TPrefix a0.fNetworks), (19, .int .i64 (a0.fNetworks.length : Int)), (20, .int .i64 (wr .i64 (p1 + 1)))], [.box (c_TPathVector a0)]⟩ ?_)))
 obtain rfl := Option.some.inj h21
 exact round_n (le_rfl)
 have h7 := cond_f b5 h4
 refine awp_exit (then_e ?_)
 obtain rfl := Option.some.inj h7
 exact round_e ⟨rfl, kp [1]⟩
 intro e24 s25 o26
 rcases y5 with g6 | y7
 have h27 := elim_l h23
 obtain ⟨rfl, l29⟩ := o26
 refine inb_here ?_
 refine then_le (s' := ⟨110, [(1, .ref 0 0)], [.box (c_TPathVector a0)]⟩) (l29) ?_
 refine awp_seq (awp_seq (rg0 [1, 38] 1 ⟨110, [(1, .ref 0 0), (38, .bool (decide ((a0.fAggregates.length : Int) > 8)))], [.box (c_TPathVector a0)]⟩ ?_))
 refine then_n ?_
 refine cnd (decide ((a0.fAggregates.length : Int) > 8)) (fun b30 => ?_) (fun b30 => ?_)
 have h31 := cond_t b30 h27
 refine awp_seq (rg0 [2] 0 ⟨110, [(2, .int .i64 7)], []⟩ ?_)
 refine then_n (awp_ret (then_r ?_))
 obtain rfl := Option.some.inj h31
 exact er0 (.int .i64 7)
 have h32 := cond_f b30 h27
 refine awp_skip (then_n (awp_seq (awp_seq (rg0 [1, 40, 41, 42] 1 ⟨110, [(1, .ref 0 0), (40, sL 3 c_TAggregate a0.fAggregates), (41, .int .i64 (a0.fAggregates.length : Int)), (42, .int .i64 0)], [.box (c_TPathVector a0)]⟩ ?_))))
 refine then_n (awp_block ?_)
 obtain ⟨y16, q64, h65⟩ := bind_some h32
 refine awp_le (s' := ⟨110, [(1, .ref 0 0), (40, sL 3 c_TAggregate a0.fAggregates), (41, .int .i64 (a0.fAggregates.length : Int)), (42, .int .i64 0)], [.box (c_TPathVector a0)]⟩) (le_rfl) ?_
 refine awp_mono (awp_loop (f := M.model_checkOrigins_l2 a0) (S := fun (p8 : Int) => ⟨110, [(1, .ref 0 0), (40, sL 3 c_TAggregate a0.fAggregates), (41, .int .i64 (a0.fAggregates.length : Int)), (42, .int .i64 p8)], [.box (c_TPathVector a0)]⟩) (O := (Sum.elim (fun z => OutE 2 (fun z => ⟨110, [(1, .ref 0 0)], [.box (c_TPathVector a0)]⟩) z) (fun z => OutR Try.prog Try.f95 (.int .i64 z)))) ?_ (x := 0) (y := y16) (loopM_iter q64)) ?_
 intro p8 y9 h33
 unfold M.model_checkOrigins_l2 at h33
 refine awp_seq (rg0 [1, 40, 41, 42, 43] 1 ⟨110, [(1, .ref 0 0), (40, sL 3 c_TAggregate a0.fAggregates), (41, .int .i64 (a0.fAggregates.length : Int)), (42, .int .i64 p8), (43, .bool (decide (p8 < (a0.fAggregates.length : Int))))], [.box (c_TPathVector a0)]⟩ ?_)
 refine then_n (awp_seq ?_)
 refine cnd (decide (p8 < (a0.fAggregates.length : Int))) (fun b34 => ?_) (fun b34 => ?_)
 have h35 := cond_t b34 h33
 refine awp_skip (then_n (awp_seq (awp_block (awp_seq ?_))))
 obtain ⟨c37, h38⟩ := gd_some h35
 refine rgc [1, 5, 6, 40, 41, 42] 2 ⟨110, [(1, .ref 0 0), (5, .int .i64 p8), (6, .ref 1 0), (40, sL 3 c_TAggregate a0.fAggregates), (41, .int .i64 (a0.fAggregates.length : Int)), (42, .int .i64 p8)], [.box (c_TPathVector a0), .box (c_TAggregate (a0.fAggregates.getD p8.toNat default))]⟩ [decide (0 ≤ p8), decide (p8 < (a0.fAggregates.length : Int))] c37 ?_
 refine then_n (awp_seq (awp_seq ?_))
 obtain ⟨r10, q39, h40⟩ := bind_some h38
 refine rg [.pure (.bool r10)] [1, 5, 6, 40, 41, 42, 50] 2 ⟨110, [(1, .ref 0 0), (5, .int .i64 p8), (6, .ref 1 0), (40, sL 3 c_TAggregate a0.fAggregates), (41, .int .i64 (a0.fAggregates.length : Int)), (42, .int .i64 p8), (50, .bool (!r10))], [.box (c_TPathVector a0), .box (c_TAggregate (a0.fAggregates.getD p8.toNat default))]⟩ [] [⟨true, 88, [.agg (c_TPrefix ((a0.fAggregates.getD p8.toNat default).fPrefix))], .pure (.bool r10)⟩] nil_all ⟨fun _ => addr_Valid_ok ((a0.fAggregates.getD p8.toNat default).fPrefix) r10 q39, trivial⟩ ?_
 refine then_n ?_
 refine cnd (!r10) (fun b41 => ?_) (fun b41 => ?_)
 have h42 := cond_t b41 h40
 refine awp_seq (rg0 [2] 0 ⟨110, [(2, .int .i64 1)], []⟩ ?_)
 refine then_n (awp_ret (then_r (inb_r (then_r ?_))))
 obtain rfl := Option.some.inj h42
 exact round_r ⟨rfl, er0 (.int .i64 1)⟩
 have h43 := cond_f b41 h40
 refine awp_skip (then_n (awp_seq ?_))
 obtain ⟨c44, h45⟩ := gd_some h43
 refine rgc [1, 6, 40, 41, 42, 54, 55, 56] 2 ⟨110, [(1, .ref 0 0), (6, .ref 1 0), (40, sL 3 c_TAggregate a0.fAggregates), (41, .int .i64 (a0.fAggregates.length : Int)), (42, .int .i64 p8), (54, .sl false 3 (p8.toNat - 0) (fun i => c_TAggregate (a0.fAggregates.getD (0 + i) default))), (55, .int .i64 ((p8.toNat - 0 : Nat) : Int)), (56, .int .i64 0)], [.box (c_TPathVector a0), .box (c_TAggregate (a0.fAggregates.getD p8.toNat default))]⟩ [decide (0 ≤ p8), decide (p8 ≤ (a0.fAggregates.length : Int))] c44 ?_
 refine then_le (s' := ⟨110, [(1, .ref 0 0), (6, .ref 1 0), (40, sL 3 c_TAggregate a0.fAggregates), (41, .int .i64 (a0.fAggregates.length : Int)), (42, .int .i64 p8), (54, sL 3 c_TAggregate ((a0.fAggregates.drop 0).take (p8.toNat - 0))), (55, .int .i64 ((p8.toNat - 0 : Nat) : Int)), (56, .int .i64 0)], [.box (c_TPathVector a0), .box (c_TAggregate (a0.fAggregates.getD p8.toNat default))]⟩) (le_sub (.cons Sub.rfl (.cons Sub.rfl (.cons Sub.rfl (.cons Sub.rfl (.cons Sub.rfl (.cons (sub_sl (len_cut _ _ _ (cut_hi (c44 _ (List.mem_cons_of_mem _ List.mem_cons_self)))) (cut_ext _ _ _ _)) (.cons Sub.rfl (.cons Sub.rfl .nil)))))))) (.cons .rfl (.cons .rfl .nil))) ?_
 refine awp_block ?_
 obtain ⟨y13, q55, h56⟩ := bind_some h45
 refine awp_le (s' := ⟨110, [(1, .ref 0 0), (6, .ref 1 0), (40, sL 3 c_TAggregate a0.fAggregates), (41, .int .i64 (a0.fAggregates.length : Int)), (42, .int .i64 p8), (54, sL 3 c_TAggregate ((a0.fAggregates.drop 0).take (p8.toNat - 0))), (55, .int .i64 ((p8.toNat - 0 : Nat) : Int)), (56, .int .i64 0)], [.box (c_TPathVector a0), .box (c_TAggregate (a0.fAggregates.getD p8.toNat default))]⟩) (le_rfl) ?_
 refine awp_mono (awp_loop (f := M.model_checkOrigins_l3 a0 p8) (S := fun (p11 : Int) => ⟨110, [(1, .ref 0 0), (6, .ref 1 0), (40, sL 3 c_TAggregate a0.fAggregates), (41, .int .i64 (a0.fAggregates.length : Int)), (42, .int .i64 p8), (54, sL 3 c_TAggregate ((a0.fAggregates.drop 0).take (p8.toNat - 0))), (55, .int .i64 ((p8.toNat - 0 : Nat) : Int)), (56, .int .i64 p11)], [.box (c_TPathVector a0), .box (c_TAggregate (a0.fAggregates.getD p8.toNat default))]⟩) (O := (Sum.elim (fun z => OutE 4 (fun z => ⟨110, [(1, .ref 0 0), (40, sL 3 c_TAggregate a0.fAggregates), (41, .int .i64 (a0.fAggregates.length : Int)), (42, .int .i64 p8)], [.box (c_TPathVector a0)]⟩) z) (fun z => OutR Try.prog Try.f95 (.int .i64 z)))) ?_ (x := 0) (y := y13) (loopM_iter q55)) ?_
 intro p11 y12 h46
 unfold M.model_checkOrigins_l3 at h46
 refine awp_seq (rg0 [1, 6, 40, 41, 42, 54, 55, 56, 57] 2 ⟨110, [(1, .ref 0 0), (6, .ref 1 0), (40, sL 3 c_TAggregate a0.fAggregates), (41, .int .i64 (a0.fAggregates.length : Int)), (42, .int .i64 p8), (54, sL 3 c_TAggregate ((a0.fAggregates.drop 0).take (p8.toNat - 0))), (55, .int .i64 ((p8.toNat - 0 : Nat) : Int)), (56, .int .i64 p11), (57, .bool (decide (p11 < ((p8.toNat - 0 : Nat) : Int))))], [.box (c_TPathVector a0), .box (c_TAggregate (a0.fAggregates.getD p8.toNat default))]⟩ ?_)
 refine then_n (awp_seq ?_)
 refine cnd (decide (p11 < ((p8.toNat - 0 : Nat) : Int))) (fun b47 => ?_) (fun b47 => ?_)
 have h48 := cond_t b47 h46
 refine awp_skip (then_n (awp_seq (awp_block (awp_seq ?_))))
 obtain ⟨c50, h51⟩ := gd_some h48
 refine rgc [1, 6, 8, 40, 41, 42, 54, 55, 56] 3 ⟨110, [(1, .ref 0 0), (6, .ref 1 0), (8, .ref 2 0), (40, sL 3 c_TAggregate a0.fAggregates), (41, .int .i64 (a0.fAggregates.length : Int)), (42, .int .i64 p8), (54, sL 3 c_TAggregate ((a0.fAggregates.drop 0).take (p8.toNat - 0))), (55, .int .i64 ((p8.toNat - 0 : Nat) : Int)), (56, .int .i64 p11)], [.box (c_TPathVector a0), .box (c_TAggregate (a0.fAggregates.getD p8.toNat default)), .box (c_TAggregate (((a0.fAggregates.drop 0).take (p8.toNat - 0)).getD p11.toNat default))]⟩ [decide (0 ≤ p11), decide (p11 < (((a0.fAggregates.drop 0).take (p8.toNat - 0)).length : Int))] c50 ?_
 refine then_n (awp_seq (rg0 [1, 6, 40, 41, 42, 54, 55, 56, 64] 2 ⟨110, [(1, .ref 0 0), (6, .ref 1 0), (40, sL 3 c_TAggregate a0.fAggregates), (41, .int .i64 (a0.fAggregates.length : Int)), (42, .int .i64 p8), (54, sL 3 c_TAggregate ((a0.fAggregates.drop 0).take (p8.toNat - 0))), (55, .int .i64 ((p8.toNat - 0 : Nat) : Int)), (56, .int .i64 p11), (64, .bool (((((((a0.fAggregates.drop 0).take (p8.toNat - 0)).getD p11.toNat default).fPrefix).fAddr) == (((a0.fAggregates.getD p8.toNat default).fPrefix).fAddr)) && (((((((a0.fAggregates.drop 0).take (p8.toNat - 0)).getD p11.toNat default).fPrefix).fLen) == (((a0.fAggregates.getD p8.toNat default).fPrefix).fLen)) && true)))], [.box (c_TPathVector a0), .box (c_TAggregate (a0.fAggregates.getD p8.toNat default))]⟩ ?_))
 refine then_n ?_
 refine cnd (((((((a0.fAggregates.drop 0).take (p8.toNat - 0)).getD p11.toNat default).fPrefix).fAddr) == (((a0.fAggregates.getD p8.toNat default).fPrefix).fAddr)) && (((((((a0.fAggregates.drop 0).take (p8.toNat - 0)).getD p11.toNat default).fPrefix).fLen) == (((a0.fAggregates.getD p8.toNat default).fPrefix).fLen)) && true)) (fun b52 => ?_) (fun b52 => ?_)
 have h53 := cond_t b52 h51
 refine awp_seq (rg0 [2] 0 ⟨110, [(2, .int .i64 4)], []⟩ ?_)
 refine then_n (awp_ret (inb_r (then_r ?_)))
 obtain rfl := Option.some.inj h53
 exact round_r ⟨rfl, er0 (.int .i64 4)⟩
 have h54 := cond_f b52 h51
 refine awp_skip (inb_n (then_n (rg0 [1, 6, 40, 41, 42, 54, 55, 56] 2 ⟨110, [(1, .ref 0 0), (6, .ref 1 0), (40, sL 3 c_TAggregate a0.fAggregates), (41, .int .i64 (a0.fAggregates.length : Int)), (42, .int .i64 p8), (54, sL 3 c_TAggregate ((a0.fAggregates.drop 0).take (p8.toNat - 0))), (55, .int .i64 ((p8.toNat - 0 : Nat) : Int)), (56, .int .i64 (wr .i64 (p11 + 1)))], [.box (c_TPathVector a0), .box (c_TAggregate (a0.fAggregates.getD p8.toNat default))]⟩ ?_)))
 obtain rfl := Option.some.inj h54
 exact round_n (le_rfl)
 have h49 := cond_f b47 h46
 refine awp_exit (then_e ?_)
 obtain rfl := Option.some.inj h49
 exact round_e ⟨rfl, Le.trans (s' := ⟨110, [(1, .ref 0 0), (40, sL 3 c_TAggregate a0.fAggregates), (41, .int .i64 (a0.fAggregates.length : Int)), (42, .int .i64 p8)], [.box (c_TPathVector a0), .box (c_TAggregate (a0.fAggregates.getD p8.toNat default))]⟩) (kp [1, 40, 41, 42]) (le_cut (n := 1) (by kernel_rfl))⟩
 intro e57 s58 o59
 rcases y13 with g14 | y15
 have h60 := elim_l h56
 obtain ⟨rfl, l62⟩ := o59
 refine inb_here (inb_n ?_)
 refine then_le (s' := ⟨110, [(1, .ref 0 0), (40, sL 3 c_TAggregate a0.fAggregates), (41, .int .i64 (a0.fAggregates.length : Int)), (42, .int .i64 p8)], [.box (c_TPathVector a0)]⟩) (l62) ?_
 refine rg0 [1, 40, 41, 42] 1 ⟨110, [(1, .ref 0 0), (40, sL 3 c_TAggregate a0.fAggregates), (41, .int .i64 (a0.fAggregates.length : Int)), (42, .int .i64 (wr .i64 (p8 + 1)))], [.box (c_TPathVector a0)]⟩ ?_
 obtain rfl := Option.some.inj h60
 exact round_n (le_rfl)
 have h61 := elim_r h56
 obtain ⟨rfl, n63⟩ := o59
 refine inb_r (inb_r (then_r ?_))
 obtain rfl := Option.some.inj h61
 exact round_r ⟨rfl, n63⟩
 have h36 := cond_f b34 h33
 refine awp_exit (then_e ?_)
 obtain rfl := Option.some.inj h36
 exact round_e ⟨rfl, kp [1]⟩
 intro e66 s67 o68
 rcases y16 with g17 | y18
 have h69 := elim_l h65
 obtain ⟨rfl, l71⟩ := o68
 refine inb_here ?_
 refine then_le (s' := ⟨110, [(1, .ref 0 0)], [.box (c_TPathVector a0)]⟩) (l71) ?_
 refine awp_seq (awp_seq (rg0 [1, 70] 1 ⟨110, [(1, .ref 0 0), (70, .bool (decide ((a0.fConditions.length : Int) > 8)))], [.box (c_TPathVector a0)]⟩ ?_))
 refine then_n ?_
 refine cnd (decide ((a0.fConditions.length : Int) > 8)) (fun b72 => ?_) (fun b72 => ?_)
 have h73 := cond_t b72 h69
 refine awp_seq (rg0 [2] 0 ⟨110, [(2, .int .i64 7)], []⟩ ?_)
 refine then_n (awp_ret (then_r ?_))
 obtain rfl := Option.some.inj h73
 exact er0 (.int .i64 7)
 have h74 := cond_f b72 h69
 refine awp_skip (then_n (awp_seq (awp_seq (rg0 [1, 72, 73, 74] 1 ⟨110, [(1, .ref 0 0), (72, sL 5 c_TCondition a0.fConditions), (73, .int .i64 (a0.fConditions.length : Int)), (74, .int .i64 0)], [.box (c_TPathVector a0)]⟩ ?_))))
 refine then_n (awp_block ?_)
 obtain ⟨y28, q111, h112⟩ := bind_some h74
 refine awp_le (s' := ⟨110, [(1, .ref 0 0), (72, sL 5 c_TCondition a0.fConditions), (73, .int .i64 (a0.fConditions.length : Int)), (74, .int .i64 0)], [.box (c_TPathVector a0)]⟩) (le_rfl) ?_
 refine awp_mono (awp_loop (f := M.model_checkOrigins_l4 a0) (S := fun (p19 : Int) => ⟨110, [(1, .ref 0 0), (72, sL 5 c_TCondition a0.fConditions), (73, .int .i64 (a0.fConditions.length : Int)), (74, .int .i64 p19)], [.box (c_TPathVector a0)]⟩) (O := (Sum.elim (fun z => OutE 6 (fun z => ⟨110, [], []⟩) z) (fun z => OutR Try.prog Try.f95 (.int .i64 z)))) ?_ (x := 0) (y := y28) (loopM_iter q111)) ?_
 intro p19 y20 h75
 unfold M.model_checkOrigins_l4 at h75
 refine awp_seq (rg0 [1, 72, 73, 74, 75] 1 ⟨110, [(1, .ref 0 0), (72, sL 5 c_TCondition a0.fConditions), (73, .int .i64 (a0.fConditions.length : Int)), (74, .int .i64 p19), (75, .bool (decide (p19 < (a0.fConditions.length : Int))))], [.box (c_TPathVector a0)]⟩ ?_)
 refine then_n (awp_seq ?_)
 refine cnd (decide (p19 < (a0.fConditions.length : Int))) (fun b76 => ?_) (fun b76 => ?_)
 have h77 := cond_t b76 h75
 refine awp_skip (then_n (awp_seq (awp_block (awp_seq ?_))))
 obtain ⟨c79, h80⟩ := gd_some h77
 refine rgc [1, 9, 10, 72, 73, 74] 2 ⟨110, [(1, .ref 0 0), (9, .int .i64 p19), (10, .ref 1 0), (72, sL 5 c_TCondition a0.fConditions), (73, .int .i64 (a0.fConditions.length : Int)), (74, .int .i64 p19)], [.box (c_TPathVector a0), .box (c_TCondition (a0.fConditions.getD p19.toNat default))]⟩ [decide (0 ≤ p19), decide (p19 < (a0.fConditions.length : Int))] c79 ?_
 refine then_n (awp_seq (awp_seq ?_))
 obtain ⟨r21, q81, h82⟩ := bind_some h80
 obtain ⟨r22, q83, h84⟩ := bind_some h82
 refine rg [.pure (.bool r21), .pure (.bool r22)] [1, 9, 10, 72, 73, 74, 88] 2 ⟨110, [(1, .ref 0 0), (9, .int .i64 p19), (10, .ref 1 0), (72, sL 5 c_TCondition a0.fConditions), (73, .int .i64 (a0.fConditions.length : Int)), (74, .int .i64 p19), (88, .bool ((!r21) || (!r22)))], [.box (c_TPathVector a0), .box (c_TCondition (a0.fConditions.getD p19.toNat default))]⟩ [] [⟨true, 88, [.agg (c_TPrefix ((a0.fConditions.getD p19.toNat default).fPrefix))], .pure (.bool r21)⟩, ⟨(!(!r21)), 88, [.agg (c_TPrefix ((a0.fConditions.getD p19.toNat default).fIf))], .pure (.bool r22)⟩] nil_all ⟨fun _ => addr_Valid_ok ((a0.fConditions.getD p19.toNat default).fPrefix) r21 q81, fun hg => addr_Valid_ok ((a0.fConditions.getD p19.toNat default).fIf) r22 (gc_some q83 hg), trivial⟩ ?_
 refine then_n ?_
 refine cnd ((!r21) || (!r22)) (fun b85 => ?_) (fun b85 => ?_)
 have h86 := cond_t b85 h84
 refine awp_seq (rg0 [2] 0 ⟨110, [(2, .int .i64 1)], []⟩ ?_)
 refine then_n (awp_ret (then_r (inb_r (then_r ?_))))
 obtain rfl := Option.some.inj h86
 exact round_r ⟨rfl, er0 (.int .i64 1)⟩
 have h87 := cond_f b85 h84
 refine awp_skip (then_n (awp_seq (awp_seq (rg0 [1, 9, 10, 72, 73, 74, 93] 2 ⟨110, [(1, .ref 0 0), (9, .int .i64 p19), (10, .ref 1 0), (72, sL 5 c_TCondition a0.fConditions), (73, .int .i64 (a0.fConditions.length : Int)), (74, .int .i64 p19), (93, .bool (((((a0.fConditions.getD p19.toNat default).fPrefix).fAddr) == (((a0.fConditions.getD p19.toNat default).fIf).fAddr)) && (((((a0.fConditions.getD p19.toNat default).fPrefix).fLen) == (((a0.fConditions.getD p19.toNat default).fIf).fLen)) && true)))], [.box (c_TPathVector a0), .box (c_TCondition (a0.fConditions.getD p19.toNat default))]⟩ ?_))))
 refine then_n ?_
 refine cnd (((((a0.fConditions.getD p19.toNat default).fPrefix).fAddr) == (((a0.fConditions.getD p19.toNat default).fIf).fAddr)) && (((((a0.fConditions.getD p19.toNat default).fPrefix).fLen) == (((a0.fConditions.getD p19.toNat default).fIf).fLen)) && true)) (fun b88 => ?_) (fun b88 => ?_)
 have h89 := cond_t b88 h87
 refine awp_seq (rg0 [2] 0 ⟨110, [(2, .int .i64 6)], []⟩ ?_)
 refine then_n (awp_ret (then_r (inb_r (then_r ?_))))
 obtain rfl := Option.some.inj h89
 exact round_r ⟨rfl, er0 (.int .i64 6)⟩
 have h90 := cond_f b88 h87
 refine awp_skip (then_n (awp_seq ?_))
 obtain ⟨c91, h92⟩ := gd_some h90
 refine rgc [1, 10, 72, 73, 74, 97, 98, 99] 2 ⟨110, [(1, .ref 0 0), (10, .ref 1 0), (72, sL 5 c_TCondition a0.fConditions), (73, .int .i64 (a0.fConditions.length : Int)), (74, .int .i64 p19), (97, .sl false 5 (p19.toNat - 0) (fun i => c_TCondition (a0.fConditions.getD (0 + i) default))), (98, .int .i64 ((p19.toNat - 0 : Nat) : Int)), (99, .int .i64 0)], [.box (c_TPathVector a0), .box (c_TCondition (a0.fConditions.getD p19.toNat default))]⟩ [decide (0 ≤ p19), decide (p19 ≤ (a0.fConditions.length : Int))] c91 ?_
 refine then_le (s' := ⟨110, [(1, .ref 0 0), (10, .ref 1 0), (72, sL 5 c_TCondition a0.fConditions), (73, .int .i64 (a0.fConditions.length : Int)), (74, .int .i64 p19), (97, sL 5 c_TCondition ((a0.fConditions.drop 0).take (p19.toNat - 0))), (98, .int .i64 ((p19.toNat - 0 : Nat) : Int)), (99, .int .i64 0)], [.box (c_TPathVector a0), .box (c_TCondition (a0.fConditions.getD p19.toNat default))]⟩) (le_sub (.cons Sub.rfl (.cons Sub.rfl (.cons Sub.rfl (.cons Sub.rfl (.cons Sub.rfl (.cons (sub_sl (len_cut _ _ _ (cut_hi (c91 _ (List.mem_cons_of_mem _ List.mem_cons_self)))) (cut_ext _ _ _ _)) (.cons Sub.rfl (.cons Sub.rfl .nil)))))))) (.cons .rfl (.cons .rfl .nil))) ?_
 refine awp_block ?_
 obtain ⟨y25, q102, h103⟩ := bind_some h92
 refine awp_le (s' := ⟨110, [(1, .ref 0 0), (10, .ref 1 0), (72, sL 5 c_TCondition a0.fConditions), (73, .int .i64 (a0.fConditions.length : Int)), (74, .int .i64 p19), (97, sL 5 c_TCondition ((a0.fConditions.drop 0).take (p19.toNat - 0))), (98, .int .i64 ((p19.toNat - 0 : Nat) : Int)), (99, .int .i64 0)], [.box (c_TPathVector a0), .box (c_TCondition (a0.fConditions.getD p19.toNat default))]⟩) (le_rfl) ?_
 refine awp_mono (awp_loop (f := M.model_checkOrigins_l5 a0 p19) (S := fun (p23 : Int) => ⟨110, [(1, .ref 0 0), (10, .ref 1 0), (72, sL 5 c_TCondition a0.fConditions), (73, .int .i64 (a0.fConditions.length : Int)), (74, .int .i64 p19), (97, sL 5 c_TCondition ((a0.fConditions.drop 0).take (p19.toNat - 0))), (98, .int .i64 ((p19.toNat - 0 : Nat) : Int)), (99, .int .i64 p23)], [.box (c_TPathVector a0), .box (c_TCondition (a0.fConditions.getD p19.toNat default))]⟩) (O := (Sum.elim (fun z => OutE 8 (fun z => ⟨110, [(1, .ref 0 0), (72, sL 5 c_TCondition a0.fConditions), (73, .int .i64 (a0.fConditions.length : Int)), (74, .int .i64 p19)], [.box (c_TPathVector a0)]⟩) z) (fun z => OutR Try.prog Try.f95 (.int .i64 z)))) ?_ (x := 0) (y := y25) (loopM_iter q102)) ?_
 intro p23 y24 h93
 unfold M.model_checkOrigins_l5 at h93
 refine awp_seq (rg0 [1, 10, 72, 73, 74, 97, 98, 99, 100] 2 ⟨110, [(1, .ref 0 0), (10, .ref 1 0), (72, sL 5 c_TCondition a0.fConditions), (73, .int .i64 (a0.fConditions.length : Int)), (74, .int .i64 p19), (97, sL 5 c_TCondition ((a0.fConditions.drop 0).take (p19.toNat - 0))), (98, .int .i64 ((p19.toNat - 0 : Nat) : Int)), (99, .int .i64 p23), (100, .bool (decide (p23 < ((p19.toNat - 0 : Nat) : Int))))], [.box (c_TPathVector a0), .box (c_TCondition (a0.fConditions.getD p19.toNat default))]⟩ ?_)
 refine then_n (awp_seq ?_)
 refine cnd (decide (p23 < ((p19.toNat - 0 : Nat) : Int))) (fun b94 => ?_) (fun b94 => ?_)
 have h95 := cond_t b94 h93
 refine awp_skip (then_n (awp_seq (awp_block (awp_seq ?_))))
 obtain ⟨c97, h98⟩ := gd_some h95
 refine rgc [1, 10, 12, 72, 73, 74, 97, 98, 99] 3 ⟨110, [(1, .ref 0 0), (10, .ref 1 0), (12, .ref 2 0), (72, sL 5 c_TCondition a0.fConditions), (73, .int .i64 (a0.fConditions.length : Int)), (74, .int .i64 p19), (97, sL 5 c_TCondition ((a0.fConditions.drop 0).take (p19.toNat - 0))), (98, .int .i64 ((p19.toNat - 0 : Nat) : Int)), (99, .int .i64 p23)], [.box (c_TPathVector a0), .box (c_TCondition (a0.fConditions.getD p19.toNat default)), .box (c_TCondition (((a0.fConditions.drop 0).take (p19.toNat - 0)).getD p23.toNat default))]⟩ [decide (0 ≤ p23), decide (p23 < (((a0.fConditions.drop 0).take (p19.toNat - 0)).length : Int))] c97 ?_
 refine then_n (awp_seq (rg0 [1, 10, 72, 73, 74, 97, 98, 99, 107] 2 ⟨110, [(1, .ref 0 0), (10, .ref 1 0), (72, sL 5 c_TCondition a0.fConditions), (73, .int .i64 (a0.fConditions.length : Int)), (74, .int .i64 p19), (97, sL 5 c_TCondition ((a0.fConditions.drop 0).take (p19.toNat - 0))), (98, .int .i64 ((p19.toNat - 0 : Nat) : Int)), (99, .int .i64 p23), (107, .bool (((((((a0.fConditions.drop 0).take (p19.toNat - 0)).getD p23.toNat default).fPrefix).fAddr) == (((a0.fConditions.getD p19.toNat default).fPrefix).fAddr)) && (((((((a0.fConditions.drop 0).take (p19.toNat - 0)).getD p23.toNat default).fPrefix).fLen) == (((a0.fConditions.getD p19.toNat default).fPrefix).fLen)) && true)))], [.box (c_TPathVector a0), .box (c_TCondition (a0.fConditions.getD p19.toNat default))]⟩ ?_))
 refine then_n ?_
 refine cnd (((((((a0.fConditions.drop 0).take (p19.toNat - 0)).getD p23.toNat default).fPrefix).fAddr) == (((a0.fConditions.getD p19.toNat default).fPrefix).fAddr)) && (((((((a0.fConditions.drop 0).take (p19.toNat - 0)).getD p23.toNat default).fPrefix).fLen) == (((a0.fConditions.getD p19.toNat default).fPrefix).fLen)) && true)) (fun b99 => ?_) (fun b99 => ?_)
 have h100 := cond_t b99 h98
 refine awp_seq (rg0 [2] 0 ⟨110, [(2, .int .i64 4)], []⟩ ?_)
 refine then_n (awp_ret (inb_r (then_r ?_)))
 obtain rfl := Option.some.inj h100
 exact round_r ⟨rfl, er0 (.int .i64 4)⟩
 have h101 := cond_f b99 h98
 refine awp_skip (inb_n (then_n (rg0 [1, 10, 72, 73, 74, 97, 98, 99] 2 ⟨110, [(1, .ref 0 0), (10, .ref 1 0), (72, sL 5 c_TCondition a0.fConditions), (73, .int .i64 (a0.fConditions.length : Int)), (74, .int .i64 p19), (97, sL 5 c_TCondition ((a0.fConditions.drop 0).take (p19.toNat - 0))), (98, .int .i64 ((p19.toNat - 0 : Nat) : Int)), (99, .int .i64 (wr .i64 (p23 + 1)))], [.box (c_TPathVector a0), .box (c_TCondition (a0.fConditions.getD p19.toNat default))]⟩ ?_)))
 obtain rfl := Option.some.inj h101
 exact round_n (le_rfl)
 have h96 := cond_f b94 h93
 refine awp_exit (then_e ?_)
 obtain rfl := Option.some.inj h96
 exact round_e ⟨rfl, Le.trans (s' := ⟨110, [(1, .ref 0 0), (72, sL 5 c_TCondition a0.fConditions), (73, .int .i64 (a0.fConditions.length : Int)), (74, .int .i64 p19)], [.box (c_TPathVector a0), .box (c_TCondition (a0.fConditions.getD p19.toNat default))]⟩) (kp [1, 72, 73, 74]) (le_cut (n := 1) (by kernel_rfl))⟩
 intro e104 s105 o106
 rcases y25 with g26 | y27
 have h107 := elim_l h103
 obtain ⟨rfl, l109⟩ := o106
 refine inb_here (inb_n ?_)
 refine then_le (s' := ⟨110, [(1, .ref 0 0), (72, sL 5 c_TCondition a0.fConditions), (73, .int .i64 (a0.fConditions.length : Int)), (74, .int .i64 p19)], [.box (c_TPathVector a0)]⟩) (l109) ?_
 refine rg0 [1, 72, 73, 74] 1 ⟨110, [(1, .ref 0 0), (72, sL 5 c_TCondition a0.fConditions), (73, .int .i64 (a0.fConditions.length : Int)), (74, .int .i64 (wr .i64 (p19 + 1)))], [.box (c_TPathVector a0)]⟩ ?_
 obtain rfl := Option.some.inj h107
 exact round_n (le_rfl)
 have h108 := elim_r h103
 obtain ⟨rfl, n110⟩ := o106
 refine inb_r (inb_r (then_r ?_))
 obtain rfl := Option.some.inj h108
 exact round_r ⟨rfl, n110⟩
 have h78 := cond_f b76 h75
 refine awp_exit (then_e ?_)
 obtain rfl := Option.some.inj h78
 exact round_e ⟨rfl, Le.trans (s' := ⟨110, [], [.box (c_TPathVector a0)]⟩) (kp []) (le_cut (n := 0) (by kernel_rfl))⟩
 intro e113 s114 o115
 rcases y28 with g29 | y30
 have h116 := elim_l h112
 obtain ⟨rfl, l118⟩ := o115
 refine inb_here ?_
 refine then_le (s' := ⟨110, [], []⟩) (l118) ?_
 refine awp_seq (rg0 [2] 0 ⟨110, [(2, .int .i64 0)], []⟩ ?_)
 refine then_n (awp_ret ?_)
 obtain rfl := Option.some.inj h116
 exact er0 (.int .i64 0)
 have h117 := elim_r h112
 obtain ⟨rfl, n119⟩ := o115
 refine inb_r (then_r ?_)
 obtain rfl := Option.some.inj h117
 exact n119
 have h70 := elim_r h65
 obtain ⟨rfl, n120⟩ := o68
 refine inb_r (then_r ?_)
 obtain rfl := Option.some.inj h70
 exact n120
 have h28 := elim_r h23
 obtain ⟨rfl, n121⟩ := o26
 refine inb_r (then_r ?_)
 obtain rfl := Option.some.inj h28
 exact n121

/- netverify/model.checkPathVector -/
theorem model_checkPathVector_ok (a0 : TRouter) (r : Int) (h : M.model_checkPathVector a0 = some r) : Fn Try.prog 71 [.agg (c_TRouter a0)] (.pure (.int .i64 r)) := by
 unfold M.model_checkPathVector at h
 refine fn_pure Try.func71 rfl (by kernel_rfl) ?_
 refine awp_seq (rg0 [1] 1 ⟨78, [(1, .ref 0 0)], [.box (c_TRouter a0)]⟩ ?_)
 refine then_n (awp_seq (rg0 [1, 3] 2 ⟨78, [(1, .ref 0 0), (3, .ref 1 0)], [.box (c_TRouter a0), .box (c_TPathVector a0.fPV)]⟩ ?_))
 refine then_n (awp_seq (awp_seq (rg0 [1, 3, 10] 2 ⟨78, [(1, .ref 0 0), (3, .ref 1 0), (10, .bool (!a0.fPV.fOn))], [.box (c_TRouter a0), .box (c_TPathVector a0.fPV)]⟩ ?_)))
 refine then_n ?_
 refine cnd (!a0.fPV.fOn) (fun b1 => ?_) (fun b1 => ?_)
 have h2 := cond_t b1 h
 refine awp_seq (awp_seq (rg0 [48] 0 ⟨78, [(48, .bool (((((((a0.fPV.fExternal != 0) || (a0.fPV.fInternal != 0)) || (decide ((a0.fPV.fNeighbors.length : Int) > 0))) || (decide ((a0.fPV.fNetworks.length : Int) > 0))) || (decide ((a0.fPV.fAggregates.length : Int) > 0))) || (decide ((a0.fPV.fConditions.length : Int) > 0))) || (decide ((a0.fPV.fRedist.length : Int) > 0))))], []⟩ ?_))
 refine then_n ?_
 refine cnd (((((((a0.fPV.fExternal != 0) || (a0.fPV.fInternal != 0)) || (decide ((a0.fPV.fNeighbors.length : Int) > 0))) || (decide ((a0.fPV.fNetworks.length : Int) > 0))) || (decide ((a0.fPV.fAggregates.length : Int) > 0))) || (decide ((a0.fPV.fConditions.length : Int) > 0))) || (decide ((a0.fPV.fRedist.length : Int) > 0))) (fun b4 => ?_) (fun b4 => ?_)
 have h5 := cond_t b4 h2
 refine awp_seq (rg0 [2] 0 ⟨78, [(2, .int .i64 1)], []⟩ ?_)
 refine then_n (awp_ret (then_r (then_r ?_)))
 obtain rfl := Option.some.inj h5
 exact er0 (.int .i64 1)
 have h6 := cond_f b4 h2
 refine awp_skip (then_n (awp_seq (rg0 [2] 0 ⟨78, [(2, .int .i64 0)], []⟩ ?_)))
 refine then_n (awp_ret (then_r ?_))
 obtain rfl := Option.some.inj h6
 exact er0 (.int .i64 0)
 have h3 := cond_f b1 h
 refine awp_skip (then_n (awp_seq (awp_seq ?_)))
 obtain ⟨r1, q7, h8⟩ := bind_some h3
 obtain ⟨r2, q9, h10⟩ := bind_some h8
 refine rg [.pure (.bool r1), .pure (.bool r2)] [1, 3, 63] 2 ⟨78, [(1, .ref 0 0), (3, .ref 1 0), (63, .bool (((a0.fAS == 0) || (!r1)) || (!r2)))], [.box (c_TRouter a0), .box (c_TPathVector a0.fPV)]⟩ [] [⟨(!(a0.fAS == 0)), 61, [.int .i64 a0.fPV.fExternal, .int .i64 1, .int .i64 255], .pure (.bool r1)⟩, ⟨(!((a0.fAS == 0) || (!r1))), 61, [.int .i64 a0.fPV.fInternal, .int .i64 1, .int .i64 255], .pure (.bool r2)⟩] nil_all ⟨fun hg => model_within_ok a0.fPV.fExternal 1 255 r1 (gc_some q7 hg), fun hg => model_within_ok a0.fPV.fInternal 1 255 r2 (gc_some q9 hg), trivial⟩ ?_
 refine then_n ?_
 refine cnd (((a0.fAS == 0) || (!r1)) || (!r2)) (fun b11 => ?_) (fun b11 => ?_)
 have h12 := cond_t b11 h10
 refine awp_seq (rg0 [2] 0 ⟨78, [(2, .int .i64 1)], []⟩ ?_)
 refine then_n (awp_ret (then_r ?_))
 obtain rfl := Option.some.inj h12
 exact er0 (.int .i64 1)
 have h13 := cond_f b11 h10
 refine awp_skip (then_n (awp_seq (awp_seq ?_)))
 obtain ⟨r3, q14, h15⟩ := bind_some h13
 refine rg [.pure (.int .i64 r3)] [1, 3, 4] 2 ⟨78, [(1, .ref 0 0), (3, .ref 1 0), (4, .int .i64 r3)], [.box (c_TRouter a0), .box (c_TPathVector a0.fPV)]⟩ [] [⟨true, 94, [.agg (c_TRouter a0)], .pure (.int .i64 r3)⟩] nil_all ⟨fun _ => model_checkNeighbors_ok a0 r3 q14, trivial⟩ ?_
 refine then_n (awp_seq (rg0 [1, 3, 4, 67] 2 ⟨78, [(1, .ref 0 0), (3, .ref 1 0), (4, .int .i64 r3), (67, .bool (r3 != 0))], [.box (c_TRouter a0), .box (c_TPathVector a0.fPV)]⟩ ?_))
 refine then_n ?_
 refine cnd (r3 != 0) (fun b16 => ?_) (fun b16 => ?_)
 have h17 := cond_t b16 h15
 refine awp_seq (rg0 [2] 0 ⟨78, [(2, .int .i64 r3)], []⟩ ?_)
 refine then_n (awp_ret (then_r ?_))
 obtain rfl := Option.some.inj h17
 exact er0 (.int .i64 r3)
 have h18 := cond_f b16 h15
 refine awp_skip (then_n (awp_seq (awp_seq ?_)))
 obtain ⟨r4, q19, h20⟩ := bind_some h18
 refine rg [.pure (.int .i64 r4)] [1, 3, 5] 2 ⟨78, [(1, .ref 0 0), (3, .ref 1 0), (5, .int .i64 r4)], [.box (c_TRouter a0), .box (c_TPathVector a0.fPV)]⟩ [] [⟨true, 95, [.agg (c_TPathVector a0.fPV)], .pure (.int .i64 r4)⟩] nil_all ⟨fun _ => model_checkOrigins_ok a0.fPV r4 q19, trivial⟩ ?_
 refine then_n (awp_seq (rg0 [1, 3, 5, 72] 2 ⟨78, [(1, .ref 0 0), (3, .ref 1 0), (5, .int .i64 r4), (72, .bool (r4 != 0))], [.box (c_TRouter a0), .box (c_TPathVector a0.fPV)]⟩ ?_))
 refine then_n ?_
 refine cnd (r4 != 0) (fun b21 => ?_) (fun b21 => ?_)
 have h22 := cond_t b21 h20
 refine awp_seq (rg0 [2] 0 ⟨78, [(2, .int .i64 r4)], []⟩ ?_)
 refine then_n (awp_ret (then_r ?_))
 obtain rfl := Option.some.inj h22
 exact er0 (.int .i64 r4)
 have h23 := cond_f b21 h20
 refine awp_skip (then_n (awp_seq ?_))
 obtain ⟨r5, q24, h25⟩ := bind_some h23
 refine rg [.pure (.int .i64 r5)] [2] 0 ⟨78, [(2, .int .i64 r5)], []⟩ [] [⟨true, 93, [.agg (c_TRouter a0), sL 5 c_TRedist a0.fPV.fRedist, .int .i64 5, .int .i64 0, .int .i64 16777215, .int .i64 0], .pure (.int .i64 r5)⟩] nil_all ⟨fun _ => model_checkRedist_ok a0 a0.fPV.fRedist 5 0 16777215 0 r5 q24, trivial⟩ ?_
 refine then_n (awp_ret ?_)
 obtain rfl := Option.some.inj h25
 exact er0 (.int .i64 r5)

/- netverify/model.CheckRouter -/
theorem model_CheckRouter_ok (a0 : TRouter) (r : Int) (h : M.model_CheckRouter a0 = some r) : Fn Try.prog 26 [.agg (c_TRouter a0)] (.pure (.int .i64 r)) := by
 unfold M.model_CheckRouter at h
 refine fn_pure Try.func26 rfl (by kernel_rfl) ?_
 refine awp_seq (rg0 [1] 1 ⟨29, [(1, .ref 0 0)], [.box (c_TRouter a0)]⟩ ?_)
 refine then_n (awp_seq (awp_seq ?_))
 obtain ⟨r1, q1, h2⟩ := bind_some h
 refine rg [.pure (.bool r1)] [1, 10] 1 ⟨29, [(1, .ref 0 0), (10, .bool (!r1))], [.box (c_TRouter a0)]⟩ [] [⟨true, 60, [.str a0.fName], .pure (.bool r1)⟩] nil_all ⟨fun _ => scan_Name_ok a0.fName r1 q1, trivial⟩ ?_
 refine then_n ?_
 refine cnd (!r1) (fun b3 => ?_) (fun b3 => ?_)
 have h4 := cond_t b3 h2
 refine awp_seq (rg0 [2] 0 ⟨29, [(2, .int .i64 3)], []⟩ ?_)
 refine then_n (awp_ret (then_r ?_))
 obtain rfl := Option.some.inj h4
 exact er0 (.int .i64 3)
 have h5 := cond_f b3 h2
 refine awp_skip (then_n (awp_seq (awp_seq ?_)))
 obtain ⟨r2, q6, h7⟩ := bind_some h5
 refine rg [.pure (.bool r2)] [1, 14] 1 ⟨29, [(1, .ref 0 0), (14, .bool (!r2))], [.box (c_TRouter a0)]⟩ [] [⟨true, 61, [.int .i64 a0.fAS, .int .i64 0, .int .i64 65535], .pure (.bool r2)⟩] nil_all ⟨fun _ => model_within_ok a0.fAS 0 65535 r2 q6, trivial⟩ ?_
 refine then_n ?_
 refine cnd (!r2) (fun b8 => ?_) (fun b8 => ?_)
 have h9 := cond_t b8 h7
 refine awp_seq (rg0 [2] 0 ⟨29, [(2, .int .i64 1)], []⟩ ?_)
 refine then_n (awp_ret (then_r ?_))
 obtain rfl := Option.some.inj h9
 exact er0 (.int .i64 1)
 have h10 := cond_f b8 h7
 refine awp_skip (then_n (awp_seq (rg0 [1, 3] 1 ⟨29, [(1, .ref 0 0), (3, .sl true 1 10 (fun i => List.take 1 (List.drop (i * 1) [.fn 62 [], .fn 63 [], .fn 64 [], .fn 65 [], .fn 66 [], .fn 67 [], .fn 68 [], .fn 69 [], .fn 70 [], .fn 71 []])))], [.box (c_TRouter a0)]⟩ ?_)))
 refine then_n (awp_seq (awp_seq (rg0 [1, 16, 17, 18] 1 ⟨29, [(1, .ref 0 0), (16, .sl true 1 10 (fun i => List.take 1 (List.drop (i * 1) [.fn 62 [], .fn 63 [], .fn 64 [], .fn 65 [], .fn 66 [], .fn 67 [], .fn 68 [], .fn 69 [], .fn 70 [], .fn 71 []]))), (17, .int .i64 10), (18, .int .i64 0)], [.box (c_TRouter a0)]⟩ ?_)))
 refine then_n (awp_block (awp_unroll (lwp_round (awp_seq (rg0 [1, 16, 17, 18, 19] 1 ⟨29, [(1, .ref 0 0), (16, .sl true 1 10 (fun i => List.take 1 (List.drop (i * 1) [.fn 62 [], .fn 63 [], .fn 64 [], .fn 65 [], .fn 66 [], .fn 67 [], .fn 68 [], .fn 69 [], .fn 70 [], .fn 71 []]))), (17, .int .i64 10), (18, .int .i64 0), (19, .bool true)], [.box (c_TRouter a0)]⟩ ?_)))))
 refine then_n (awp_seq ?_)
 refine cnd true (fun _ => ?_) (fun b11 => Bool.noConfusion b11)
 refine awp_skip (then_n (awp_seq (awp_block (awp_seq ?_))))
 obtain ⟨c12, h13⟩ := gd_some h10
 refine rgc [1, 5, 16, 17, 18] 1 ⟨29, [(1, .ref 0 0), (5, .fn 62 []), (16, .sl true 1 10 (fun i => List.take 1 (List.drop (i * 1) [.fn 62 [], .fn 63 [], .fn 64 [], .fn 65 [], .fn 66 [], .fn 67 [], .fn 68 [], .fn 69 [], .fn 70 [], .fn 71 []]))), (17, .int .i64 10), (18, .int .i64 0)], [.box (c_TRouter a0)]⟩ [decide (0 ≤ 0), decide (0 < (10 : Int))] c12 ?_
 refine then_n (awp_seq ?_)
 obtain ⟨r3, q14, h15⟩ := bind_some h13
 refine rg [.pure (.int .i64 r3)] [1, 6, 16, 17, 18] 1 ⟨29, [(1, .ref 0 0), (6, .int .i64 r3), (16, .sl true 1 10 (fun i => List.take 1 (List.drop (i * 1) [.fn 62 [], .fn 63 [], .fn 64 [], .fn 65 [], .fn 66 [], .fn 67 [], .fn 68 [], .fn 69 [], .fn 70 [], .fn 71 []]))), (17, .int .i64 10), (18, .int .i64 0)], [.box (c_TRouter a0)]⟩ [] [⟨true, 62, [.agg (c_TRouter a0)], .pure (.int .i64 r3)⟩] nil_all ⟨fun _ => model_checkInterfaces_ok a0 r3 q14, trivial⟩ ?_
 refine then_n (awp_seq (rg0 [1, 6, 16, 17, 18, 26] 1 ⟨29, [(1, .ref 0 0), (6, .int .i64 r3), (16, .sl true 1 10 (fun i => List.take 1 (List.drop (i * 1) [.fn 62 [], .fn 63 [], .fn 64 [], .fn 65 [], .fn 66 [], .fn 67 [], .fn 68 [], .fn 69 [], .fn 70 [], .fn 71 []]))), (17, .int .i64 10), (18, .int .i64 0), (26, .bool (r3 != 0))], [.box (c_TRouter a0)]⟩ ?_))
 refine then_n ?_
 refine cnd (r3 != 0) (fun b16 => ?_) (fun b16 => ?_)
 have h17 := cond_t b16 h15
 refine awp_seq (rg0 [2] 0 ⟨29, [(2, .int .i64 r3)], []⟩ ?_)
 refine then_n (awp_ret (inb_r (then_r (thenl_r (inb_r (then_r ?_))))))
 obtain rfl := Option.some.inj h17
 exact er0 (.int .i64 r3)
 have h18 := cond_f b16 h15
 refine awp_skip (inb_n (then_n (rg0 [1, 16, 17, 18] 1 ⟨29, [(1, .ref 0 0), (16, .sl true 1 10 (fun i => List.take 1 (List.drop (i * 1) [.fn 62 [], .fn 63 [], .fn 64 [], .fn 65 [], .fn 66 [], .fn 67 [], .fn 68 [], .fn 69 [], .fn 70 [], .fn 71 []]))), (17, .int .i64 10), (18, .int .i64 1)], [.box (c_TRouter a0)]⟩ ?_)))
 refine thenl_n (lwp_round (awp_seq (rg0 [1, 16, 17, 18, 19] 1 ⟨29, [(1, .ref 0 0), (16, .sl true 1 10 (fun i => List.take 1 (List.drop (i * 1) [.fn 62 [], .fn 63 [], .fn 64 [], .fn 65 [], .fn 66 [], .fn 67 [], .fn 68 [], .fn 69 [], .fn 70 [], .fn 71 []]))), (17, .int .i64 10), (18, .int .i64 1), (19, .bool true)], [.box (c_TRouter a0)]⟩ ?_)))
 refine then_n (awp_seq ?_)
 refine cnd true (fun _ => ?_) (fun b19 => Bool.noConfusion b19)
 refine awp_skip (then_n (awp_seq (awp_block (awp_seq ?_))))
 obtain ⟨c20, h21⟩ := gd_some h18
 refine rgc [1, 5, 16, 17, 18] 1 ⟨29, [(1, .ref 0 0), (5, .fn 63 []), (16, .sl true 1 10 (fun i => List.take 1 (List.drop (i * 1) [.fn 62 [], .fn 63 [], .fn 64 [], .fn 65 [], .fn 66 [], .fn 67 [], .fn 68 [], .fn 69 [], .fn 70 [], .fn 71 []]))), (17, .int .i64 10), (18, .int .i64 1)], [.box (c_TRouter a0)]⟩ [decide (0 ≤ 1), decide (1 < (10 : Int))] c20 ?_
 refine then_n (awp_seq ?_)
 obtain ⟨r4, q22, h23⟩ := bind_some h21
 refine rg [.pure (.int .i64 r4)] [1, 6, 16, 17, 18] 1 ⟨29, [(1, .ref 0 0), (6, .int .i64 r4), (16, .sl true 1 10 (fun i => List.take 1 (List.drop (i * 1) [.fn 62 [], .fn 63 [], .fn 64 [], .fn 65 [], .fn 66 [], .fn 67 [], .fn 68 [], .fn 69 [], .fn 70 [], .fn 71 []]))), (17, .int .i64 10), (18, .int .i64 1)], [.box (c_TRouter a0)]⟩ [] [⟨true, 63, [.agg (c_TRouter a0)], .pure (.int .i64 r4)⟩] nil_all ⟨fun _ => model_checkPrefixLists_ok a0 r4 q22, trivial⟩ ?_
 refine then_n (awp_seq (rg0 [1, 6, 16, 17, 18, 26] 1 ⟨29, [(1, .ref 0 0), (6, .int .i64 r4), (16, .sl true 1 10 (fun i => List.take 1 (List.drop (i * 1) [.fn 62 [], .fn 63 [], .fn 64 [], .fn 65 [], .fn 66 [], .fn 67 [], .fn 68 [], .fn 69 [], .fn 70 [], .fn 71 []]))), (17, .int .i64 10), (18, .int .i64 1), (26, .bool (r4 != 0))], [.box (c_TRouter a0)]⟩ ?_))
 refine then_n ?_
 refine cnd (r4 != 0) (fun b24 => ?_) (fun b24 => ?_)
 have h25 := cond_t b24 h23
 refine awp_seq (rg0 [2] 0 ⟨29, [(2, .int .i64 r4)], []⟩ ?_)
 refine then_n (awp_ret (inb_r (then_r (thenl_r (inb_r (then_r ?_))))))
 obtain rfl := Option.some.inj h25
 exact er0 (.int .i64 r4)
 have h26 := cond_f b24 h23
 refine awp_skip (inb_n (then_n (rg0 [1, 16, 17, 18] 1 ⟨29, [(1, .ref 0 0), (16, .sl true 1 10 (fun i => List.take 1 (List.drop (i * 1) [.fn 62 [], .fn 63 [], .fn 64 [], .fn 65 [], .fn 66 [], .fn 67 [], .fn 68 [], .fn 69 [], .fn 70 [], .fn 71 []]))), (17, .int .i64 10), (18, .int .i64 2)], [.box (c_TRouter a0)]⟩ ?_)))
 refine thenl_n (lwp_round (awp_seq (rg0 [1, 16, 17, 18, 19] 1 ⟨29, [(1, .ref 0 0), (16, .sl true 1 10 (fun i => List.take 1 (List.drop (i * 1) [.fn 62 [], .fn 63 [], .fn 64 [], .fn 65 [], .fn 66 [], .fn 67 [], .fn 68 [], .fn 69 [], .fn 70 [], .fn 71 []]))), (17, .int .i64 10), (18, .int .i64 2), (19, .bool true)], [.box (c_TRouter a0)]⟩ ?_)))
 refine then_n (awp_seq ?_)
 refine cnd true (fun _ => ?_) (fun b27 => Bool.noConfusion b27)
 refine awp_skip (then_n (awp_seq (awp_block (awp_seq ?_))))
 obtain ⟨c28, h29⟩ := gd_some h26
 refine rgc [1, 5, 16, 17, 18] 1 ⟨29, [(1, .ref 0 0), (5, .fn 64 []), (16, .sl true 1 10 (fun i => List.take 1 (List.drop (i * 1) [.fn 62 [], .fn 63 [], .fn 64 [], .fn 65 [], .fn 66 [], .fn 67 [], .fn 68 [], .fn 69 [], .fn 70 [], .fn 71 []]))), (17, .int .i64 10), (18, .int .i64 2)], [.box (c_TRouter a0)]⟩ [decide (0 ≤ 2), decide (2 < (10 : Int))] c28 ?_
 refine then_n (awp_seq ?_)
 obtain ⟨r5, q30, h31⟩ := bind_some h29
 refine rg [.pure (.int .i64 r5)] [1, 6, 16, 17, 18] 1 ⟨29, [(1, .ref 0 0), (6, .int .i64 r5), (16, .sl true 1 10 (fun i => List.take 1 (List.drop (i * 1) [.fn 62 [], .fn 63 [], .fn 64 [], .fn 65 [], .fn 66 [], .fn 67 [], .fn 68 [], .fn 69 [], .fn 70 [], .fn 71 []]))), (17, .int .i64 10), (18, .int .i64 2)], [.box (c_TRouter a0)]⟩ [] [⟨true, 64, [.agg (c_TRouter a0)], .pure (.int .i64 r5)⟩] nil_all ⟨fun _ => model_checkRouteMaps_ok a0 r5 q30, trivial⟩ ?_
 refine then_n (awp_seq (rg0 [1, 6, 16, 17, 18, 26] 1 ⟨29, [(1, .ref 0 0), (6, .int .i64 r5), (16, .sl true 1 10 (fun i => List.take 1 (List.drop (i * 1) [.fn 62 [], .fn 63 [], .fn 64 [], .fn 65 [], .fn 66 [], .fn 67 [], .fn 68 [], .fn 69 [], .fn 70 [], .fn 71 []]))), (17, .int .i64 10), (18, .int .i64 2), (26, .bool (r5 != 0))], [.box (c_TRouter a0)]⟩ ?_))
 refine then_n ?_
 refine cnd (r5 != 0) (fun b32 => ?_) (fun b32 => ?_)
 have h33 := cond_t b32 h31
 refine awp_seq (rg0 [2] 0 ⟨29, [(2, .int .i64 r5)], []⟩ ?_)
 refine then_n (awp_ret (inb_r (then_r (thenl_r (inb_r (then_r ?_))))))
 obtain rfl := Option.some.inj h33
 exact er0 (.int .i64 r5)
 have h34 := cond_f b32 h31
 refine awp_skip (inb_n (then_n (rg0 [1, 16, 17, 18] 1 ⟨29, [(1, .ref 0 0), (16, .sl true 1 10 (fun i => List.take 1 (List.drop (i * 1) [.fn 62 [], .fn 63 [], .fn 64 [], .fn 65 [], .fn 66 [], .fn 67 [], .fn 68 [], .fn 69 [], .fn 70 [], .fn 71 []]))), (17, .int .i64 10), (18, .int .i64 3)], [.box (c_TRouter a0)]⟩ ?_)))
 refine thenl_n (lwp_round (awp_seq (rg0 [1, 16, 17, 18, 19] 1 ⟨29, [(1, .ref 0 0), (16, .sl true 1 10 (fun i => List.take 1 (List.drop (i * 1) [.fn 62 [], .fn 63 [], .fn 64 [], .fn 65 [], .fn 66 [], .fn 67 [], .fn 68 [], .fn 69 [], .fn 70 [], .fn 71 []]))), (17, .int .i64 10), (18, .int .i64 3), (19, .bool true)], [.box (c_TRouter a0)]⟩ ?_)))
 refine then_n (awp_seq ?_)
 refine cnd true (fun _ => ?_) (fun b35 => Bool.noConfusion b35)
 refine awp_skip (then_n (awp_seq (awp_block (awp_seq ?_))))
 obtain ⟨c36, h37⟩ := gd_some h34
 refine rgc [1, 5, 16, 17, 18] 1 ⟨29, [(1, .ref 0 0), (5, .fn 65 []), (16, .sl true 1 10 (fun i => List.take 1 (List.drop (i * 1) [.fn 62 [], .fn 63 [], .fn 64 [], .fn 65 [], .fn 66 [], .fn 67 [], .fn 68 [], .fn 69 [], .fn 70 [], .fn 71 []]))), (17, .int .i64 10), (18, .int .i64 3)], [.box (c_TRouter a0)]⟩ [decide (0 ≤ 3), decide (3 < (10 : Int))] c36 ?_
 refine then_n (awp_seq ?_)
 obtain ⟨r6, q38, h39⟩ := bind_some h37
 refine rg [.pure (.int .i64 r6)] [1, 6, 16, 17, 18] 1 ⟨29, [(1, .ref 0 0), (6, .int .i64 r6), (16, .sl true 1 10 (fun i => List.take 1 (List.drop (i * 1) [.fn 62 [], .fn 63 [], .fn 64 [], .fn 65 [], .fn 66 [], .fn 67 [], .fn 68 [], .fn 69 [], .fn 70 [], .fn 71 []]))), (17, .int .i64 10), (18, .int .i64 3)], [.box (c_TRouter a0)]⟩ [] [⟨true, 65, [.agg (c_TRouter a0)], .pure (.int .i64 r6)⟩] nil_all ⟨fun _ => model_checkACLs_ok a0 r6 q38, trivial⟩ ?_
 refine then_n (awp_seq (rg0 [1, 6, 16, 17, 18, 26] 1 ⟨29, [(1, .ref 0 0), (6, .int .i64 r6), (16, .sl true 1 10 (fun i => List.take 1 (List.drop (i * 1) [.fn 62 [], .fn 63 [], .fn 64 [], .fn 65 [], .fn 66 [], .fn 67 [], .fn 68 [], .fn 69 [], .fn 70 [], .fn 71 []]))), (17, .int .i64 10), (18, .int .i64 3), (26, .bool (r6 != 0))], [.box (c_TRouter a0)]⟩ ?_))
 refine then_n ?_
 refine cnd (r6 != 0) (fun b40 => ?_) (fun b40 => ?_)
 have h41 := cond_t b40 h39
 refine awp_seq (rg0 [2] 0 ⟨29, [(2, .int .i64 r6)], []⟩ ?_)
 refine then_n (awp_ret (inb_r (then_r (thenl_r (inb_r (then_r ?_))))))
 obtain rfl := Option.some.inj h41
 exact er0 (.int .i64 r6)
 have h42 := cond_f b40 h39
 refine awp_skip (inb_n (then_n (rg0 [1, 16, 17, 18] 1 ⟨29, [(1, .ref 0 0), (16, .sl true 1 10 (fun i => List.take 1 (List.drop (i * 1) [.fn 62 [], .fn 63 [], .fn 64 [], .fn 65 [], .fn 66 [], .fn 67 [], .fn 68 [], .fn 69 [], .fn 70 [], .fn 71 []]))), (17, .int .i64 10), (18, .int .i64 4)], [.box (c_TRouter a0)]⟩ ?_)))
 refine thenl_n (lwp_round (awp_seq (rg0 [1, 16, 17, 18, 19] 1 ⟨29, [(1, .ref 0 0), (16, .sl true 1 10 (fun i => List.take 1 (List.drop (i * 1) [.fn 62 [], .fn 63 [], .fn 64 [], .fn 65 [], .fn 66 [], .fn 67 [], .fn 68 [], .fn 69 [], .fn 70 [], .fn 71 []]))), (17, .int .i64 10), (18, .int .i64 4), (19, .bool true)], [.box (c_TRouter a0)]⟩ ?_)))
 refine then_n (awp_seq ?_)
 refine cnd true (fun _ => ?_) (fun b43 => Bool.noConfusion b43)
 refine awp_skip (then_n (awp_seq (awp_block (awp_seq ?_))))
 obtain ⟨c44, h45⟩ := gd_some h42
 refine rgc [1, 5, 16, 17, 18] 1 ⟨29, [(1, .ref 0 0), (5, .fn 66 []), (16, .sl true 1 10 (fun i => List.take 1 (List.drop (i * 1) [.fn 62 [], .fn 63 [], .fn 64 [], .fn 65 [], .fn 66 [], .fn 67 [], .fn 68 [], .fn 69 [], .fn 70 [], .fn 71 []]))), (17, .int .i64 10), (18, .int .i64 4)], [.box (c_TRouter a0)]⟩ [decide (0 ≤ 4), decide (4 < (10 : Int))] c44 ?_
 refine then_n (awp_seq ?_)
 obtain ⟨r7, q46, h47⟩ := bind_some h45
 refine rg [.pure (.int .i64 r7)] [1, 6, 16, 17, 18] 1 ⟨29, [(1, .ref 0 0), (6, .int .i64 r7), (16, .sl true 1 10 (fun i => List.take 1 (List.drop (i * 1) [.fn 62 [], .fn 63 [], .fn 64 [], .fn 65 [], .fn 66 [], .fn 67 [], .fn 68 [], .fn 69 [], .fn 70 [], .fn 71 []]))), (17, .int .i64 10), (18, .int .i64 4)], [.box (c_TRouter a0)]⟩ [] [⟨true, 66, [.agg (c_TRouter a0)], .pure (.int .i64 r7)⟩] nil_all ⟨fun _ => model_checkNAT_ok a0 r7 q46, trivial⟩ ?_
 refine then_n (awp_seq (rg0 [1, 6, 16, 17, 18, 26] 1 ⟨29, [(1, .ref 0 0), (6, .int .i64 r7), (16, .sl true 1 10 (fun i => List.take 1 (List.drop (i * 1) [.fn 62 [], .fn 63 [], .fn 64 [], .fn 65 [], .fn 66 [], .fn 67 [], .fn 68 [], .fn 69 [], .fn 70 [], .fn 71 []]))), (17, .int .i64 10), (18, .int .i64 4), (26, .bool (r7 != 0))], [.box (c_TRouter a0)]⟩ ?_))
 refine then_n ?_
 refine cnd (r7 != 0) (fun b48 => ?_) (fun b48 => ?_)
 have h49 := cond_t b48 h47
 refine awp_seq (rg0 [2] 0 ⟨29, [(2, .int .i64 r7)], []⟩ ?_)
 refine then_n (awp_ret (inb_r (then_r (thenl_r (inb_r (then_r ?_))))))
 obtain rfl := Option.some.inj h49
 exact er0 (.int .i64 r7)
 have h50 := cond_f b48 h47
 refine awp_skip (inb_n (then_n (rg0 [1, 16, 17, 18] 1 ⟨29, [(1, .ref 0 0), (16, .sl true 1 10 (fun i => List.take 1 (List.drop (i * 1) [.fn 62 [], .fn 63 [], .fn 64 [], .fn 65 [], .fn 66 [], .fn 67 [], .fn 68 [], .fn 69 [], .fn 70 [], .fn 71 []]))), (17, .int .i64 10), (18, .int .i64 5)], [.box (c_TRouter a0)]⟩ ?_)))
 refine thenl_n (lwp_round (awp_seq (rg0 [1, 16, 17, 18, 19] 1 ⟨29, [(1, .ref 0 0), (16, .sl true 1 10 (fun i => List.take 1 (List.drop (i * 1) [.fn 62 [], .fn 63 [], .fn 64 [], .fn 65 [], .fn 66 [], .fn 67 [], .fn 68 [], .fn 69 [], .fn 70 [], .fn 71 []]))), (17, .int .i64 10), (18, .int .i64 5), (19, .bool true)], [.box (c_TRouter a0)]⟩ ?_)))
 refine then_n (awp_seq ?_)
 refine cnd true (fun _ => ?_) (fun b51 => Bool.noConfusion b51)
 refine awp_skip (then_n (awp_seq (awp_block (awp_seq ?_))))
 obtain ⟨c52, h53⟩ := gd_some h50
 refine rgc [1, 5, 16, 17, 18] 1 ⟨29, [(1, .ref 0 0), (5, .fn 67 []), (16, .sl true 1 10 (fun i => List.take 1 (List.drop (i * 1) [.fn 62 [], .fn 63 [], .fn 64 [], .fn 65 [], .fn 66 [], .fn 67 [], .fn 68 [], .fn 69 [], .fn 70 [], .fn 71 []]))), (17, .int .i64 10), (18, .int .i64 5)], [.box (c_TRouter a0)]⟩ [decide (0 ≤ 5), decide (5 < (10 : Int))] c52 ?_
 refine then_n (awp_seq ?_)
 obtain ⟨r8, q54, h55⟩ := bind_some h53
 refine rg [.pure (.int .i64 r8)] [1, 6, 16, 17, 18] 1 ⟨29, [(1, .ref 0 0), (6, .int .i64 r8), (16, .sl true 1 10 (fun i => List.take 1 (List.drop (i * 1) [.fn 62 [], .fn 63 [], .fn 64 [], .fn 65 [], .fn 66 [], .fn 67 [], .fn 68 [], .fn 69 [], .fn 70 [], .fn 71 []]))), (17, .int .i64 10), (18, .int .i64 5)], [.box (c_TRouter a0)]⟩ [] [⟨true, 67, [.agg (c_TRouter a0)], .pure (.int .i64 r8)⟩] nil_all ⟨fun _ => model_checkFilters_ok a0 r8 q54, trivial⟩ ?_
 refine then_n (awp_seq (rg0 [1, 6, 16, 17, 18, 26] 1 ⟨29, [(1, .ref 0 0), (6, .int .i64 r8), (16, .sl true 1 10 (fun i => List.take 1 (List.drop (i * 1) [.fn 62 [], .fn 63 [], .fn 64 [], .fn 65 [], .fn 66 [], .fn 67 [], .fn 68 [], .fn 69 [], .fn 70 [], .fn 71 []]))), (17, .int .i64 10), (18, .int .i64 5), (26, .bool (r8 != 0))], [.box (c_TRouter a0)]⟩ ?_))
 refine then_n ?_
 refine cnd (r8 != 0) (fun b56 => ?_) (fun b56 => ?_)
 have h57 := cond_t b56 h55
 refine awp_seq (rg0 [2] 0 ⟨29, [(2, .int .i64 r8)], []⟩ ?_)
 refine then_n (awp_ret (inb_r (then_r (thenl_r (inb_r (then_r ?_))))))
 obtain rfl := Option.some.inj h57
 exact er0 (.int .i64 r8)
 have h58 := cond_f b56 h55
 refine awp_skip (inb_n (then_n (rg0 [1, 16, 17, 18] 1 ⟨29, [(1, .ref 0 0), (16, .sl true 1 10 (fun i => List.take 1 (List.drop (i * 1) [.fn 62 [], .fn 63 [], .fn 64 [], .fn 65 [], .fn 66 [], .fn 67 [], .fn 68 [], .fn 69 [], .fn 70 [], .fn 71 []]))), (17, .int .i64 10), (18, .int .i64 6)], [.box (c_TRouter a0)]⟩ ?_)))
 refine thenl_n (lwp_round (awp_seq (rg0 [1, 16, 17, 18, 19] 1 ⟨29, [(1, .ref 0 0), (16, .sl true 1 10 (fun i => List.take 1 (List.drop (i * 1) [.fn 62 [], .fn 63 [], .fn 64 [], .fn 65 [], .fn 66 [], .fn 67 [], .fn 68 [], .fn 69 [], .fn 70 [], .fn 71 []]))), (17, .int .i64 10), (18, .int .i64 6), (19, .bool true)], [.box (c_TRouter a0)]⟩ ?_)))
 refine then_n (awp_seq ?_)
 refine cnd true (fun _ => ?_) (fun b59 => Bool.noConfusion b59)
 refine awp_skip (then_n (awp_seq (awp_block (awp_seq ?_))))
 obtain ⟨c60, h61⟩ := gd_some h58
 refine rgc [1, 5, 16, 17, 18] 1 ⟨29, [(1, .ref 0 0), (5, .fn 68 []), (16, .sl true 1 10 (fun i => List.take 1 (List.drop (i * 1) [.fn 62 [], .fn 63 [], .fn 64 [], .fn 65 [], .fn 66 [], .fn 67 [], .fn 68 [], .fn 69 [], .fn 70 [], .fn 71 []]))), (17, .int .i64 10), (18, .int .i64 6)], [.box (c_TRouter a0)]⟩ [decide (0 ≤ 6), decide (6 < (10 : Int))] c60 ?_
 refine then_n (awp_seq ?_)
 obtain ⟨r9, q62, h63⟩ := bind_some h61
 refine rg [.pure (.int .i64 r9)] [1, 6, 16, 17, 18] 1 ⟨29, [(1, .ref 0 0), (6, .int .i64 r9), (16, .sl true 1 10 (fun i => List.take 1 (List.drop (i * 1) [.fn 62 [], .fn 63 [], .fn 64 [], .fn 65 [], .fn 66 [], .fn 67 [], .fn 68 [], .fn 69 [], .fn 70 [], .fn 71 []]))), (17, .int .i64 10), (18, .int .i64 6)], [.box (c_TRouter a0)]⟩ [] [⟨true, 68, [.agg (c_TRouter a0)], .pure (.int .i64 r9)⟩] nil_all ⟨fun _ => model_checkStatics_ok a0 r9 q62, trivial⟩ ?_
 refine then_n (awp_seq (rg0 [1, 6, 16, 17, 18, 26] 1 ⟨29, [(1, .ref 0 0), (6, .int .i64 r9), (16, .sl true 1 10 (fun i => List.take 1 (List.drop (i * 1) [.fn 62 [], .fn 63 [], .fn 64 [], .fn 65 [], .fn 66 [], .fn 67 [], .fn 68 [], .fn 69 [], .fn 70 [], .fn 71 []]))), (17, .int .i64 10), (18, .int .i64 6), (26, .bool (r9 != 0))], [.box (c_TRouter a0)]⟩ ?_))
 refine then_n ?_
 refine cnd (r9 != 0) (fun b64 => ?_) (fun b64 => ?_)
 have h65 := cond_t b64 h63
 refine awp_seq (rg0 [2] 0 ⟨29, [(2, .int .i64 r9)], []⟩ ?_)
 refine then_n (awp_ret (inb_r (then_r (thenl_r (inb_r (then_r ?_))))))
 obtain rfl := Option.some.inj h65
 exact er0 (.int .i64 r9)
 have h66 := cond_f b64 h63
 refine awp_skip (inb_n (then_n (rg0 [1, 16, 17, 18] 1 ⟨29, [(1, .ref 0 0), (16, .sl true 1 10 (fun i => List.take 1 (List.drop (i * 1) [.fn 62 [], .fn 63 [], .fn 64 [], .fn 65 [], .fn 66 [], .fn 67 [], .fn 68 [], .fn 69 [], .fn 70 [], .fn 71 []]))), (17, .int .i64 10), (18, .int .i64 7)], [.box (c_TRouter a0)]⟩ ?_)))
 refine thenl_n (lwp_round (awp_seq (rg0 [1, 16, 17, 18, 19] 1 ⟨29, [(1, .ref 0 0), (16, .sl true 1 10 (fun i => List.take 1 (List.drop (i * 1) [.fn 62 [], .fn 63 [], .fn 64 [], .fn 65 [], .fn 66 [], .fn 67 [], .fn 68 [], .fn 69 [], .fn 70 [], .fn 71 []]))), (17, .int .i64 10), (18, .int .i64 7), (19, .bool true)], [.box (c_TRouter a0)]⟩ ?_)))
 refine then_n (awp_seq ?_)
 refine cnd true (fun _ => ?_) (fun b67 => Bool.noConfusion b67)
 refine awp_skip (then_n (awp_seq (awp_block (awp_seq ?_))))
 obtain ⟨c68, h69⟩ := gd_some h66
 refine rgc [1, 5, 16, 17, 18] 1 ⟨29, [(1, .ref 0 0), (5, .fn 69 []), (16, .sl true 1 10 (fun i => List.take 1 (List.drop (i * 1) [.fn 62 [], .fn 63 [], .fn 64 [], .fn 65 [], .fn 66 [], .fn 67 [], .fn 68 [], .fn 69 [], .fn 70 [], .fn 71 []]))), (17, .int .i64 10), (18, .int .i64 7)], [.box (c_TRouter a0)]⟩ [decide (0 ≤ 7), decide (7 < (10 : Int))] c68 ?_
 refine then_n (awp_seq ?_)
 obtain ⟨r10, q70, h71⟩ := bind_some h69
 refine rg [.pure (.int .i64 r10)] [1, 6, 16, 17, 18] 1 ⟨29, [(1, .ref 0 0), (6, .int .i64 r10), (16, .sl true 1 10 (fun i => List.take 1 (List.drop (i * 1) [.fn 62 [], .fn 63 [], .fn 64 [], .fn 65 [], .fn 66 [], .fn 67 [], .fn 68 [], .fn 69 [], .fn 70 [], .fn 71 []]))), (17, .int .i64 10), (18, .int .i64 7)], [.box (c_TRouter a0)]⟩ [] [⟨true, 69, [.agg (c_TRouter a0)], .pure (.int .i64 r10)⟩] nil_all ⟨fun _ => model_checkLinkState_ok a0 r10 q70, trivial⟩ ?_
 refine then_n (awp_seq (rg0 [1, 6, 16, 17, 18, 26] 1 ⟨29, [(1, .ref 0 0), (6, .int .i64 r10), (16, .sl true 1 10 (fun i => List.take 1 (List.drop (i * 1) [.fn 62 [], .fn 63 [], .fn 64 [], .fn 65 [], .fn 66 [], .fn 67 [], .fn 68 [], .fn 69 [], .fn 70 [], .fn 71 []]))), (17, .int .i64 10), (18, .int .i64 7), (26, .bool (r10 != 0))], [.box (c_TRouter a0)]⟩ ?_))
 refine then_n ?_
 refine cnd (r10 != 0) (fun b72 => ?_) (fun b72 => ?_)
 have h73 := cond_t b72 h71
 refine awp_seq (rg0 [2] 0 ⟨29, [(2, .int .i64 r10)], []⟩ ?_)
 refine then_n (awp_ret (inb_r (then_r (thenl_r (inb_r (then_r ?_))))))
 obtain rfl := Option.some.inj h73
 exact er0 (.int .i64 r10)
 have h74 := cond_f b72 h71
 refine awp_skip (inb_n (then_n (rg0 [1, 16, 17, 18] 1 ⟨29, [(1, .ref 0 0), (16, .sl true 1 10 (fun i => List.take 1 (List.drop (i * 1) [.fn 62 [], .fn 63 [], .fn 64 [], .fn 65 [], .fn 66 [], .fn 67 [], .fn 68 [], .fn 69 [], .fn 70 [], .fn 71 []]))), (17, .int .i64 10), (18, .int .i64 8)], [.box (c_TRouter a0)]⟩ ?_)))
 refine thenl_n (lwp_round (awp_seq (rg0 [1, 16, 17, 18, 19] 1 ⟨29, [(1, .ref 0 0), (16, .sl true 1 10 (fun i => List.take 1 (List.drop (i * 1) [.fn 62 [], .fn 63 [], .fn 64 [], .fn 65 [], .fn 66 [], .fn 67 [], .fn 68 [], .fn 69 [], .fn 70 [], .fn 71 []]))), (17, .int .i64 10), (18, .int .i64 8), (19, .bool true)], [.box (c_TRouter a0)]⟩ ?_)))
 refine then_n (awp_seq ?_)
 refine cnd true (fun _ => ?_) (fun b75 => Bool.noConfusion b75)
 refine awp_skip (then_n (awp_seq (awp_block (awp_seq ?_))))
 obtain ⟨c76, h77⟩ := gd_some h74
 refine rgc [1, 5, 16, 17, 18] 1 ⟨29, [(1, .ref 0 0), (5, .fn 70 []), (16, .sl true 1 10 (fun i => List.take 1 (List.drop (i * 1) [.fn 62 [], .fn 63 [], .fn 64 [], .fn 65 [], .fn 66 [], .fn 67 [], .fn 68 [], .fn 69 [], .fn 70 [], .fn 71 []]))), (17, .int .i64 10), (18, .int .i64 8)], [.box (c_TRouter a0)]⟩ [decide (0 ≤ 8), decide (8 < (10 : Int))] c76 ?_
 refine then_n (awp_seq ?_)
 obtain ⟨r11, q78, h79⟩ := bind_some h77
 refine rg [.pure (.int .i64 r11)] [1, 6, 16, 17, 18] 1 ⟨29, [(1, .ref 0 0), (6, .int .i64 r11), (16, .sl true 1 10 (fun i => List.take 1 (List.drop (i * 1) [.fn 62 [], .fn 63 [], .fn 64 [], .fn 65 [], .fn 66 [], .fn 67 [], .fn 68 [], .fn 69 [], .fn 70 [], .fn 71 []]))), (17, .int .i64 10), (18, .int .i64 8)], [.box (c_TRouter a0)]⟩ [] [⟨true, 70, [.agg (c_TRouter a0)], .pure (.int .i64 r11)⟩] nil_all ⟨fun _ => model_checkDistanceVector_ok a0 r11 q78, trivial⟩ ?_
 refine then_n (awp_seq (rg0 [1, 6, 16, 17, 18, 26] 1 ⟨29, [(1, .ref 0 0), (6, .int .i64 r11), (16, .sl true 1 10 (fun i => List.take 1 (List.drop (i * 1) [.fn 62 [], .fn 63 [], .fn 64 [], .fn 65 [], .fn 66 [], .fn 67 [], .fn 68 [], .fn 69 [], .fn 70 [], .fn 71 []]))), (17, .int .i64 10), (18, .int .i64 8), (26, .bool (r11 != 0))], [.box (c_TRouter a0)]⟩ ?_))
 refine then_n ?_
 refine cnd (r11 != 0) (fun b80 => ?_) (fun b80 => ?_)
 have h81 := cond_t b80 h79
 refine awp_seq (rg0 [2] 0 ⟨29, [(2, .int .i64 r11)], []⟩ ?_)
 refine then_n (awp_ret (inb_r (then_r (thenl_r (inb_r (then_r ?_))))))
 obtain rfl := Option.some.inj h81
 exact er0 (.int .i64 r11)
 have h82 := cond_f b80 h79
 refine awp_skip (inb_n (then_n (rg0 [1, 16, 17, 18] 1 ⟨29, [(1, .ref 0 0), (16, .sl true 1 10 (fun i => List.take 1 (List.drop (i * 1) [.fn 62 [], .fn 63 [], .fn 64 [], .fn 65 [], .fn 66 [], .fn 67 [], .fn 68 [], .fn 69 [], .fn 70 [], .fn 71 []]))), (17, .int .i64 10), (18, .int .i64 9)], [.box (c_TRouter a0)]⟩ ?_)))
 refine thenl_n (lwp_round (awp_seq (rg0 [1, 16, 17, 18, 19] 1 ⟨29, [(1, .ref 0 0), (16, .sl true 1 10 (fun i => List.take 1 (List.drop (i * 1) [.fn 62 [], .fn 63 [], .fn 64 [], .fn 65 [], .fn 66 [], .fn 67 [], .fn 68 [], .fn 69 [], .fn 70 [], .fn 71 []]))), (17, .int .i64 10), (18, .int .i64 9), (19, .bool true)], [.box (c_TRouter a0)]⟩ ?_)))
 refine then_n (awp_seq ?_)
 refine cnd true (fun _ => ?_) (fun b83 => Bool.noConfusion b83)
 refine awp_skip (then_n (awp_seq (awp_block (awp_seq ?_))))
 obtain ⟨c84, h85⟩ := gd_some h82
 refine rgc [1, 5, 16, 17, 18] 1 ⟨29, [(1, .ref 0 0), (5, .fn 71 []), (16, .sl true 1 10 (fun i => List.take 1 (List.drop (i * 1) [.fn 62 [], .fn 63 [], .fn 64 [], .fn 65 [], .fn 66 [], .fn 67 [], .fn 68 [], .fn 69 [], .fn 70 [], .fn 71 []]))), (17, .int .i64 10), (18, .int .i64 9)], [.box (c_TRouter a0)]⟩ [decide (0 ≤ 9), decide (9 < (10 : Int))] c84 ?_
 refine then_n (awp_seq ?_)
 obtain ⟨r12, q86, h87⟩ := bind_some h85
 refine rg [.pure (.int .i64 r12)] [1, 6, 16, 17, 18] 1 ⟨29, [(1, .ref 0 0), (6, .int .i64 r12), (16, .sl true 1 10 (fun i => List.take 1 (List.drop (i * 1) [.fn 62 [], .fn 63 [], .fn 64 [], .fn 65 [], .fn 66 [], .fn 67 [], .fn 68 [], .fn 69 [], .fn 70 [], .fn 71 []]))), (17, .int .i64 10), (18, .int .i64 9)], [.box (c_TRouter a0)]⟩ [] [⟨true, 71, [.agg (c_TRouter a0)], .pure (.int .i64 r12)⟩] nil_all ⟨fun _ => model_checkPathVector_ok a0 r12 q86, trivial⟩ ?_
 refine then_n (awp_seq (rg0 [1, 6, 16, 17, 18, 26] 1 ⟨29, [(1, .ref 0 0), (6, .int .i64 r12), (16, .sl true 1 10 (fun i => List.take 1 (List.drop (i * 1) [.fn 62 [], .fn 63 [], .fn 64 [], .fn 65 [], .fn 66 [], .fn 67 [], .fn 68 [], .fn 69 [], .fn 70 [], .fn 71 []]))), (17, .int .i64 10), (18, .int .i64 9), (26, .bool (r12 != 0))], [.box (c_TRouter a0)]⟩ ?_))
 refine then_n ?_
 refine cnd (r12 != 0) (fun b88 => ?_) (fun b88 => ?_)
 have h89 := cond_t b88 h87
 refine awp_seq (rg0 [2] 0 ⟨29, [(2, .int .i64 r12)], []⟩ ?_)
 refine then_n (awp_ret (inb_r (then_r (thenl_r (inb_r (then_r ?_))))))
 obtain rfl := Option.some.inj h89
 exact er0 (.int .i64 r12)
 have h90 := cond_f b88 h87
 refine awp_skip (inb_n (then_n (rg0 [1, 16, 17, 18] 1 ⟨29, [(1, .ref 0 0), (16, .sl true 1 10 (fun i => List.take 1 (List.drop (i * 1) [.fn 62 [], .fn 63 [], .fn 64 [], .fn 65 [], .fn 66 [], .fn 67 [], .fn 68 [], .fn 69 [], .fn 70 [], .fn 71 []]))), (17, .int .i64 10), (18, .int .i64 10)], [.box (c_TRouter a0)]⟩ ?_)))
 refine thenl_n (lwp_round (awp_seq (rg0 [1, 16, 17, 18, 19] 1 ⟨29, [(1, .ref 0 0), (16, .sl true 1 10 (fun i => List.take 1 (List.drop (i * 1) [.fn 62 [], .fn 63 [], .fn 64 [], .fn 65 [], .fn 66 [], .fn 67 [], .fn 68 [], .fn 69 [], .fn 70 [], .fn 71 []]))), (17, .int .i64 10), (18, .int .i64 10), (19, .bool false)], [.box (c_TRouter a0)]⟩ ?_)))
 refine then_n (awp_seq ?_)
 refine cnd false (fun b91 => Bool.noConfusion b91) (fun _ => ?_)
 refine awp_exit (then_e (thenl_e (inb_here (then_n (awp_seq (rg0 [2] 0 ⟨29, [(2, .int .i64 0)], []⟩ ?_))))))
 refine then_n (awp_ret ?_)
 obtain rfl := Option.some.inj h90
 exact er0 (.int .i64 0)

/- netverify/netverifylaw5.sane -/
theorem law5_sane_ok  (r : Bool) (h : M.law5_sane  = some r) : Fn Try.prog 10 [] (.pure (.bool r)) := by
 unfold M.law5_sane at h
 refine fn_pure Try.func10 rfl (by kernel_rfl) ?_
 refine awp_seq (rg0 [] 0 ⟨35, [], []⟩ ?_)
 refine then_n (awp_seq ?_)
 obtain ⟨r1, q1, h2⟩ := bind_some h
 refine rg [.pure (.agg (c_TRouter r1))] [1] 1 ⟨35, [(1, .ref 0 0)], [.box (c_TRouter r1)]⟩ [] [⟨true, 44, [], .pure (.agg (c_TRouter r1))⟩] nil_all ⟨fun _ => law5_sample_ok  r1 q1, trivial⟩ ?_
 refine then_n (awp_seq (rg0 [1, 2] 2 ⟨35, [(1, .ref 0 0), (2, .ref 1 0)], [.box (c_TRouter r1), .box (c_TRouter r1)]⟩ ?_))
 refine then_n (awp_seq (rg0 [1, 2] 2 ⟨35, [(1, .ref 0 0), (2, .ref 1 0)], [.box (c_TRouter r1), .box [.str (⟨#[49, 114]⟩ : ByteArray), .int .i64 r1.fAS, sL 12 c_TInterface r1.fInterfaces, sL 2 c_TPrefixList r1.fLists, sL 2 c_TRouteMap r1.fMaps, sL 2 c_TACL r1.fACLs, sL 9 c_TTranslation r1.fNAT, sL 7 c_TStaticRoute r1.fStatics, .bool r1.fLS.fOn, .int .i64 r1.fLS.fAdmin, sL 3 c_TAreaRange r1.fLS.fRanges, sL 5 c_TRedist r1.fLS.fRedist, .bool r1.fDV.fOn, .int .i64 r1.fDV.fAdmin, .str r1.fDV.fIn, .str r1.fDV.fOut, sL 5 c_TRedist r1.fDV.fRedist, .bool r1.fPV.fOn, .int .i64 r1.fPV.fExternal, .int .i64 r1.fPV.fInternal, sL 4 c_TNeighbor r1.fPV.fNeighbors, sL 2 c_TPrefix r1.fPV.fNetworks, sL 3 c_TAggregate r1.fPV.fAggregates, sL 5 c_TCondition r1.fPV.fConditions, sL 5 c_TRedist r1.fPV.fRedist]]⟩ ?_))
 refine then_n (awp_seq ?_)
 obtain ⟨r2, q3, h4⟩ := bind_some h2
 obtain ⟨r3, q5, h6⟩ := bind_some h4
 obtain ⟨r4, q7, h8⟩ := bind_some h6
 obtain ⟨r5, q9, h10⟩ := bind_some h8
 obtain ⟨r6, q11, h12⟩ := bind_some h10
 obtain ⟨r7, q13, h14⟩ := bind_some h12
 obtain ⟨r8, q15, h16⟩ := bind_some h14
 refine rg [.pure (.int .i64 r2), .pure (.int .i64 r3), .pure (.agg (c_TRouter r4)), .pure (.bool r5), .pure (.bool r6), .pure (.int .i64 r7), .pure (.int .i64 r8)] [0] 0 ⟨35, [(0, .bool ((((((r2 == 0) && (r3 == 3)) && r5) && (!r6)) && (r7 == 1)) && (r8 == 1)))], []⟩ [] [⟨true, 26, [.agg (c_TRouter r1)], .pure (.int .i64 r2)⟩, ⟨r2 == 0, 26, [.agg [.str (⟨#[49, 114]⟩ : ByteArray), .int .i64 r1.fAS, sL 12 c_TInterface r1.fInterfaces, sL 2 c_TPrefixList r1.fLists, sL 2 c_TRouteMap r1.fMaps, sL 2 c_TACL r1.fACLs, sL 9 c_TTranslation r1.fNAT, sL 7 c_TStaticRoute r1.fStatics, .bool r1.fLS.fOn, .int .i64 r1.fLS.fAdmin, sL 3 c_TAreaRange r1.fLS.fRanges, sL 5 c_TRedist r1.fLS.fRedist, .bool r1.fDV.fOn, .int .i64 r1.fDV.fAdmin, .str r1.fDV.fIn, .str r1.fDV.fOut, sL 5 c_TRedist r1.fDV.fRedist, .bool r1.fPV.fOn, .int .i64 r1.fPV.fExternal, .int .i64 r1.fPV.fInternal, sL 4 c_TNeighbor r1.fPV.fNeighbors, sL 2 c_TPrefix r1.fPV.fNetworks, sL 3 c_TAggregate r1.fPV.fAggregates, sL 5 c_TCondition r1.fPV.fConditions, sL 5 c_TRedist r1.fPV.fRedist]], .pure (.int .i64 r3)⟩, ⟨(r2 == 0) && (r3 == 3), 44, [], .pure (.agg (c_TRouter r4))⟩, ⟨(r2 == 0) && (r3 == 3), 9, [.agg (c_TRouter r1), .agg (c_TRouter r4)], .pure (.bool r5)⟩, ⟨((r2 == 0) && (r3 == 3)) && r5, 9, [.agg (c_TRouter r1), .agg [.str (⟨#[49, 114]⟩ : ByteArray), .int .i64 r1.fAS, sL 12 c_TInterface r1.fInterfaces, sL 2 c_TPrefixList r1.fLists, sL 2 c_TRouteMap r1.fMaps, sL 2 c_TACL r1.fACLs, sL 9 c_TTranslation r1.fNAT, sL 7 c_TStaticRoute r1.fStatics, .bool r1.fLS.fOn, .int .i64 r1.fLS.fAdmin, sL 3 c_TAreaRange r1.fLS.fRanges, sL 5 c_TRedist r1.fLS.fRedist, .bool r1.fDV.fOn, .int .i64 r1.fDV.fAdmin, .str r1.fDV.fIn, .str r1.fDV.fOut, sL 5 c_TRedist r1.fDV.fRedist, .bool r1.fPV.fOn, .int .i64 r1.fPV.fExternal, .int .i64 r1.fPV.fInternal, sL 4 c_TNeighbor r1.fPV.fNeighbors, sL 2 c_TPrefix r1.fPV.fNetworks, sL 3 c_TAggregate r1.fPV.fAggregates, sL 5 c_TCondition r1.fPV.fConditions, sL 5 c_TRedist r1.fPV.fRedist]], .pure (.bool r6)⟩, ⟨(((r2 == 0) && (r3 == 3)) && r5) && (!r6), 15, [.agg (c_TRouter r1), .str (⟨#[101, 49]⟩ : ByteArray)], .pure (.int .i64 r7)⟩, ⟨((((r2 == 0) && (r3 == 3)) && r5) && (!r6)) && (r7 == 1), 23, [.agg (c_TRouter r1), .int .u32 167772417], .pure (.int .i64 r8)⟩] nil_all ⟨fun _ => model_CheckRouter_ok r1 r2 q3, fun hg => model_CheckRouter_ok (⟨(⟨#[49, 114]⟩ : ByteArray), r1.fAS, r1.fInterfaces, r1.fLists, r1.fMaps, r1.fACLs, r1.fNAT, r1.fStatics, r1.fLS, r1.fDV, r1.fPV⟩ : TRouter) r3 (gc_some q5 hg), fun hg => law5_sample_ok  r4 (gc_some q7 hg), fun hg => model_Same_ok r1 r4 r5 (gc_some q9 hg), fun hg => model_Same_ok r1 (⟨(⟨#[49, 114]⟩ : ByteArray), r1.fAS, r1.fInterfaces, r1.fLists, r1.fMaps, r1.fACLs, r1.fNAT, r1.fStatics, r1.fLS, r1.fDV, r1.fPV⟩ : TRouter) r6 (gc_some q11 hg), fun hg => model_Interface_ok r1 (⟨#[101, 49]⟩ : ByteArray) r7 (gc_some q13 hg), fun hg => model_Address_ok r1 167772417 r8 (gc_some q15 hg), trivial⟩ ?_
 refine then_n (awp_ret ?_)
 obtain rfl := Option.some.inj h16
 exact er0 (.bool ((((((r2 == 0) && (r3 == 3)) && r5) && (!r6)) && (r7 == 1)) && (r8 == 1)))

/- netverify/netverifylaw5.ModelDiffers -/
theorem law5_ModelDiffers_ok (a0 : TRouter) (a1 : Int) (r : Bool) (h : M.law5_ModelDiffers a0 a1 = some r) : Fn Try.prog 3 [.agg (c_TRouter a0), .int .i64 a1] (.pure (.bool r)) := by
 unfold M.law5_ModelDiffers at h
 refine fn_pure Try.func3 rfl (by kernel_rfl) ?_
 refine awp_seq (rg0 [1, 2] 1 ⟨96, [(1, .int .i64 a1), (2, .ref 0 0)], [.box (c_TRouter a0)]⟩ ?_)
 refine then_n (awp_seq (awp_seq ?_))
 obtain ⟨r1, q1, h2⟩ := bind_some h
 refine rg [.pure (.bool r1)] [1, 2, 8] 1 ⟨96, [(1, .int .i64 a1), (2, .ref 0 0), (8, .bool (!r1))], [.box (c_TRouter a0)]⟩ [] [⟨true, 8, [.agg (c_TRouter a0)], .pure (.bool r1)⟩] nil_all ⟨fun _ => law5_Small_ok a0 r1 q1, trivial⟩ ?_
 refine then_n ?_
 refine cnd (!r1) (fun b3 => ?_) (fun b3 => ?_)
 have h4 := cond_t b3 h2
 refine awp_seq (rg0 [4] 0 ⟨96, [(4, .bool true)], []⟩ ?_)
 refine then_n (awp_ret (then_r ?_))
 obtain rfl := Option.some.inj h4
 exact er0 (.bool true)
 have h5 := cond_f b3 h2
 refine awp_skip (then_n (awp_seq (rg0 [1, 2, 5] 2 ⟨96, [(1, .int .i64 a1), (2, .ref 0 0), (5, .ref 1 0)], [.box (c_TRouter a0), .box (c_TRouter a0)]⟩ ?_)))
 refine then_n ?_
 refine awp_join (fun (p2 : Int × (List TInterface) × (List TRouteMap) × (List TACL) × Bool × (List TRedist) × ByteArray × (List TAggregate)) => ⟨96, [(2, .ref 0 0), (5, .ref 1 0)], [.box (c_TRouter a0), .box [.str a0.fName, .int .i64 p2.1, sL 12 c_TInterface p2.2.1, sL 2 c_TPrefixList a0.fLists, sL 2 c_TRouteMap p2.2.2.1, sL 2 c_TACL p2.2.2.2.1, sL 9 c_TTranslation a0.fNAT, sL 7 c_TStaticRoute a0.fStatics, .bool p2.2.2.2.2.1, .int .i64 a0.fLS.fAdmin, sL 3 c_TAreaRange a0.fLS.fRanges, sL 5 c_TRedist p2.2.2.2.2.2.1, .bool a0.fDV.fOn, .int .i64 a0.fDV.fAdmin, .str a0.fDV.fIn, .str p2.2.2.2.2.2.2.1, sL 5 c_TRedist a0.fDV.fRedist, .bool a0.fPV.fOn, .int .i64 a0.fPV.fExternal, .int .i64 a0.fPV.fInternal, sL 4 c_TNeighbor a0.fPV.fNeighbors, sL 2 c_TPrefix a0.fPV.fNetworks, sL 3 c_TAggregate p2.2.2.2.2.2.2.2, sL 5 c_TCondition a0.fPV.fConditions, sL 5 c_TRedist a0.fPV.fRedist]]⟩) (fun p2 => M.law5_ModelDiffers_k1 a0 p2 = some r) ?_ ?_
 intro p2 h7
 unfold M.law5_ModelDiffers_k1 at h7
 refine awp_seq ?_
 obtain ⟨r3, q8, h9⟩ := bind_some h7
 obtain ⟨r4, q10, h11⟩ := bind_some h9
 obtain ⟨r5, q12, h13⟩ := bind_some h11
 refine rg [.pure (.bool r3), .pure (.bool r4), .pure (.bool r5)] [4] 0 ⟨96, [(4, .bool (((!r3) && (!r4)) && r5))], []⟩ [] [⟨true, 9, [.agg (c_TRouter a0), .agg [.str a0.fName, .int .i64 p2.1, sL 12 c_TInterface p2.2.1, sL 2 c_TPrefixList a0.fLists, sL 2 c_TRouteMap p2.2.2.1, sL 2 c_TACL p2.2.2.2.1, sL 9 c_TTranslation a0.fNAT, sL 7 c_TStaticRoute a0.fStatics, .bool p2.2.2.2.2.1, .int .i64 a0.fLS.fAdmin, sL 3 c_TAreaRange a0.fLS.fRanges, sL 5 c_TRedist p2.2.2.2.2.2.1, .bool a0.fDV.fOn, .int .i64 a0.fDV.fAdmin, .str a0.fDV.fIn, .str p2.2.2.2.2.2.2.1, sL 5 c_TRedist a0.fDV.fRedist, .bool a0.fPV.fOn, .int .i64 a0.fPV.fExternal, .int .i64 a0.fPV.fInternal, sL 4 c_TNeighbor a0.fPV.fNeighbors, sL 2 c_TPrefix a0.fPV.fNetworks, sL 3 c_TAggregate p2.2.2.2.2.2.2.2, sL 5 c_TCondition a0.fPV.fConditions, sL 5 c_TRedist a0.fPV.fRedist]], .pure (.bool r3)⟩, ⟨!r3, 9, [.agg [.str a0.fName, .int .i64 p2.1, sL 12 c_TInterface p2.2.1, sL 2 c_TPrefixList a0.fLists, sL 2 c_TRouteMap p2.2.2.1, sL 2 c_TACL p2.2.2.2.1, sL 9 c_TTranslation a0.fNAT, sL 7 c_TStaticRoute a0.fStatics, .bool p2.2.2.2.2.1, .int .i64 a0.fLS.fAdmin, sL 3 c_TAreaRange a0.fLS.fRanges, sL 5 c_TRedist p2.2.2.2.2.2.1, .bool a0.fDV.fOn, .int .i64 a0.fDV.fAdmin, .str a0.fDV.fIn, .str p2.2.2.2.2.2.2.1, sL 5 c_TRedist a0.fDV.fRedist, .bool a0.fPV.fOn, .int .i64 a0.fPV.fExternal, .int .i64 a0.fPV.fInternal, sL 4 c_TNeighbor a0.fPV.fNeighbors, sL 2 c_TPrefix a0.fPV.fNetworks, sL 3 c_TAggregate p2.2.2.2.2.2.2.2, sL 5 c_TCondition a0.fPV.fConditions, sL 5 c_TRedist a0.fPV.fRedist], .agg (c_TRouter a0)], .pure (.bool r4)⟩, ⟨(!r3) && (!r4), 10, [], .pure (.bool r5)⟩] nil_all ⟨fun _ => model_Same_ok a0 (⟨a0.fName, p2.1, p2.2.1, a0.fLists, p2.2.2.1, p2.2.2.2.1, a0.fNAT, a0.fStatics, (⟨p2.2.2.2.2.1, a0.fLS.fAdmin, a0.fLS.fRanges, p2.2.2.2.2.2.1⟩ : TLinkState), (⟨a0.fDV.fOn, a0.fDV.fAdmin, a0.fDV.fIn, p2.2.2.2.2.2.2.1, a0.fDV.fRedist⟩ : TDistanceVector), (⟨a0.fPV.fOn, a0.fPV.fExternal, a0.fPV.fInternal, a0.fPV.fNeighbors, a0.fPV.fNetworks, p2.2.2.2.2.2.2.2, a0.fPV.fConditions, a0.fPV.fRedist⟩ : TPathVector)⟩ : TRouter) r3 q8, fun hg => model_Same_ok (⟨a0.fName, p2.1, p2.2.1, a0.fLists, p2.2.2.1, p2.2.2.2.1, a0.fNAT, a0.fStatics, (⟨p2.2.2.2.2.1, a0.fLS.fAdmin, a0.fLS.fRanges, p2.2.2.2.2.2.1⟩ : TLinkState), (⟨a0.fDV.fOn, a0.fDV.fAdmin, a0.fDV.fIn, p2.2.2.2.2.2.2.1, a0.fDV.fRedist⟩ : TDistanceVector), (⟨a0.fPV.fOn, a0.fPV.fExternal, a0.fPV.fInternal, a0.fPV.fNeighbors, a0.fPV.fNetworks, p2.2.2.2.2.2.2.2, a0.fPV.fConditions, a0.fPV.fRedist⟩ : TPathVector)⟩ : TRouter) a0 r4 (gc_some q10 hg), fun hg => law5_sane_ok  r5 (gc_some q12 hg), trivial⟩ ?_
 refine then_n (awp_ret ?_)
 obtain rfl := Option.some.inj h13
 exact er0 (.bool (((!r3) && (!r4)) && r5))
 intro k6
 refine awp_seq (rg0 [2, 5, 10] 2 ⟨96, [(2, .ref 0 0), (5, .ref 1 0), (10, .int .i64 a1)], [.box (c_TRouter a0), .box (c_TRouter a0)]⟩ ?_)
 refine then_n (awp_block (awp_seq (rg0 [2, 5, 10, 11] 2 ⟨96, [(2, .ref 0 0), (5, .ref 1 0), (10, .int .i64 a1), (11, .bool (a1 == 0))], [.box (c_TRouter a0), .box (c_TRouter a0)]⟩ ?_)))
 refine then_n ?_
 refine cnd (a1 == 0) (fun b14 => ?_) (fun b14 => ?_)
 have h15 := cond_t b14 h5
 refine rg0 [2, 5] 2 ⟨96, [(2, .ref 0 0), (5, .ref 1 0)], [.box (c_TRouter a0), .box [.str a0.fName, .int .i64 (bitD .xor .i64 a0.fAS 1), sL 12 c_TInterface a0.fInterfaces, sL 2 c_TPrefixList a0.fLists, sL 2 c_TRouteMap a0.fMaps, sL 2 c_TACL a0.fACLs, sL 9 c_TTranslation a0.fNAT, sL 7 c_TStaticRoute a0.fStatics, .bool a0.fLS.fOn, .int .i64 a0.fLS.fAdmin, sL 3 c_TAreaRange a0.fLS.fRanges, sL 5 c_TRedist a0.fLS.fRedist, .bool a0.fDV.fOn, .int .i64 a0.fDV.fAdmin, .str a0.fDV.fIn, .str a0.fDV.fOut, sL 5 c_TRedist a0.fDV.fRedist, .bool a0.fPV.fOn, .int .i64 a0.fPV.fExternal, .int .i64 a0.fPV.fInternal, sL 4 c_TNeighbor a0.fPV.fNeighbors, sL 2 c_TPrefix a0.fPV.fNetworks, sL 3 c_TAggregate a0.fPV.fAggregates, sL 5 c_TCondition a0.fPV.fConditions, sL 5 c_TRedist a0.fPV.fRedist]]⟩ ?_
 refine inb_n ?_
 exact then_le (le_rfl) (k6 (bitD .xor .i64 a0.fAS 1, a0.fInterfaces, a0.fMaps, a0.fACLs, a0.fLS.fOn, a0.fLS.fRedist, a0.fDV.fOut, a0.fPV.fAggregates) h15)
 have h16 := cond_f b14 h5
 refine awp_seq (rg0 [2, 5, 10, 17] 2 ⟨96, [(2, .ref 0 0), (5, .ref 1 0), (10, .int .i64 a1), (17, .bool (a1 == 1))], [.box (c_TRouter a0), .box (c_TRouter a0)]⟩ ?_)
 refine then_n ?_
 refine cnd (a1 == 1) (fun b17 => ?_) (fun b17 => ?_)
 have h18 := cond_t b17 h16
 obtain ⟨c20, h21⟩ := gd_some h18
 refine rgc [2, 5] 3 ⟨96, [(2, .ref 0 0), (5, .ref 1 0)], [.box (c_TRouter a0), .box [.str a0.fName, .int .i64 a0.fAS, .asl 2 0 ((0 + a0.fInterfaces.length) + 1), sL 2 c_TPrefixList a0.fLists, sL 2 c_TRouteMap a0.fMaps, sL 2 c_TACL a0.fACLs, sL 9 c_TTranslation a0.fNAT, sL 7 c_TStaticRoute a0.fStatics, .bool a0.fLS.fOn, .int .i64 a0.fLS.fAdmin, sL 3 c_TAreaRange a0.fLS.fRanges, sL 5 c_TRedist a0.fLS.fRedist, .bool a0.fDV.fOn, .int .i64 a0.fDV.fAdmin, .str a0.fDV.fIn, .str a0.fDV.fOut, sL 5 c_TRedist a0.fDV.fRedist, .bool a0.fPV.fOn, .int .i64 a0.fPV.fExternal, .int .i64 a0.fPV.fInternal, sL 4 c_TNeighbor a0.fPV.fNeighbors, sL 2 c_TPrefix a0.fPV.fNetworks, sL 3 c_TAggregate a0.fPV.fAggregates, sL 5 c_TCondition a0.fPV.fConditions, sL 5 c_TRedist a0.fPV.fRedist], .arr 12 ((0 + a0.fInterfaces.length) + 1) (app (app (fun i => List.take 12 (List.drop (i * 12) [])) 0 (fun i => c_TInterface (a0.fInterfaces.getD i default))) (0 + a0.fInterfaces.length) (fun i => List.take 12 (List.drop (i * 12) [.str (⟨#[]⟩ : ByteArray), .int .u32 0, .int .i64 0, .int .i64 0, .bool false, .bool false, .int .i64 0, .int .i64 0, .bool false, .str (⟨#[]⟩ : ByteArray), .str (⟨#[]⟩ : ByteArray), .int .i64 0])))]⟩ [decide (0 = 0) || decide (0 < a0.fInterfaces.length), decide ((0 + a0.fInterfaces.length) * 112 ≤ 140737488355328), decide (((0 + a0.fInterfaces.length) + 1) * 112 ≤ 140737488355328)] c20 ?_
 refine inb_n ?_
 exact then_le (Le.trans (le_frb (s := ⟨96, [(2, .ref 0 0), (5, .ref 1 0)], [.box (c_TRouter a0), .box [.str a0.fName, .int .i64 a0.fAS, .asl 2 0 ((0 + a0.fInterfaces.length) + 1), sL 2 c_TPrefixList a0.fLists, sL 2 c_TRouteMap a0.fMaps, sL 2 c_TACL a0.fACLs, sL 9 c_TTranslation a0.fNAT, sL 7 c_TStaticRoute a0.fStatics, .bool a0.fLS.fOn, .int .i64 a0.fLS.fAdmin, sL 3 c_TAreaRange a0.fLS.fRanges, sL 5 c_TRedist a0.fLS.fRedist, .bool a0.fDV.fOn, .int .i64 a0.fDV.fAdmin, .str a0.fDV.fIn, .str a0.fDV.fOut, sL 5 c_TRedist a0.fDV.fRedist, .bool a0.fPV.fOn, .int .i64 a0.fPV.fExternal, .int .i64 a0.fPV.fInternal, sL 4 c_TNeighbor a0.fPV.fNeighbors, sL 2 c_TPrefix a0.fPV.fNetworks, sL 3 c_TAggregate a0.fPV.fAggregates, sL 5 c_TCondition a0.fPV.fConditions, sL 5 c_TRedist a0.fPV.fRedist], .arr 12 ((0 + a0.fInterfaces.length) + 1) (app (app (fun i => List.take 12 (List.drop (i * 12) [])) 0 (fun i => c_TInterface (a0.fInterfaces.getD i default))) (0 + a0.fInterfaces.length) (fun i => List.take 12 (List.drop (i * 12) [.str (⟨#[]⟩ : ByteArray), .int .u32 0, .int .i64 0, .int .i64 0, .bool false, .bool false, .int .i64 0, .int .i64 0, .bool false, .str (⟨#[]⟩ : ByteArray), .str (⟨#[]⟩ : ByteArray), .int .i64 0])))]⟩) (s' := ⟨96, [(2, .ref 0 0), (5, .ref 1 0)], [.box (c_TRouter a0), .box [.str a0.fName, .int .i64 a0.fAS, .sl false 12 ((0 + a0.fInterfaces.length) + 1) (fun k => (app (app (fun i => List.take 12 (List.drop (i * 12) [])) 0 (fun i => c_TInterface (a0.fInterfaces.getD i default))) (0 + a0.fInterfaces.length) (fun i => List.take 12 (List.drop (i * 12) [.str (⟨#[]⟩ : ByteArray), .int .u32 0, .int .i64 0, .int .i64 0, .bool false, .bool false, .int .i64 0, .int .i64 0, .bool false, .str (⟨#[]⟩ : ByteArray), .str (⟨#[]⟩ : ByteArray), .int .i64 0]))) (0 + k)), sL 2 c_TPrefixList a0.fLists, sL 2 c_TRouteMap a0.fMaps, sL 2 c_TACL a0.fACLs, sL 9 c_TTranslation a0.fNAT, sL 7 c_TStaticRoute a0.fStatics, .bool a0.fLS.fOn, .int .i64 a0.fLS.fAdmin, sL 3 c_TAreaRange a0.fLS.fRanges, sL 5 c_TRedist a0.fLS.fRedist, .bool a0.fDV.fOn, .int .i64 a0.fDV.fAdmin, .str a0.fDV.fIn, .str a0.fDV.fOut, sL 5 c_TRedist a0.fDV.fRedist, .bool a0.fPV.fOn, .int .i64 a0.fPV.fExternal, .int .i64 a0.fPV.fInternal, sL 4 c_TNeighbor a0.fPV.fNeighbors, sL 2 c_TPrefix a0.fPV.fNetworks, sL 3 c_TAggregate a0.fPV.fAggregates, sL 5 c_TCondition a0.fPV.fConditions, sL 5 c_TRedist a0.fPV.fRedist], aL 12 c_TInterface ([] : List TInterface)]⟩) 2 12 ((0 + a0.fInterfaces.length) + 1) (app (app (fun i => List.take 12 (List.drop (i * 12) [])) 0 (fun i => c_TInterface (a0.fInterfaces.getD i default))) (0 + a0.fInterfaces.length) (fun i => List.take 12 (List.drop (i * 12) [.str (⟨#[]⟩ : ByteArray), .int .u32 0, .int .i64 0, .int .i64 0, .bool false, .bool false, .int .i64 0, .int .i64 0, .bool false, .str (⟨#[]⟩ : ByteArray), .str (⟨#[]⟩ : ByteArray), .int .i64 0]))) (fun i => c_TInterface (([] : List TInterface).getD i default)) (by kernel_rfl) (by kernel_rfl) (by kernel_rfl)) (Le.trans (s' := ⟨96, [(2, .ref 0 0), (5, .ref 1 0)], [.box (c_TRouter a0), .box [.str a0.fName, .int .i64 a0.fAS, .sl false 12 ((0 + a0.fInterfaces.length) + 1) (fun k => (app (app (fun i => List.take 12 (List.drop (i * 12) [])) 0 (fun i => c_TInterface (a0.fInterfaces.getD i default))) (0 + a0.fInterfaces.length) (fun i => List.take 12 (List.drop (i * 12) [.str (⟨#[]⟩ : ByteArray), .int .u32 0, .int .i64 0, .int .i64 0, .bool false, .bool false, .int .i64 0, .int .i64 0, .bool false, .str (⟨#[]⟩ : ByteArray), .str (⟨#[]⟩ : ByteArray), .int .i64 0]))) (0 + k)), sL 2 c_TPrefixList a0.fLists, sL 2 c_TRouteMap a0.fMaps, sL 2 c_TACL a0.fACLs, sL 9 c_TTranslation a0.fNAT, sL 7 c_TStaticRoute a0.fStatics, .bool a0.fLS.fOn, .int .i64 a0.fLS.fAdmin, sL 3 c_TAreaRange a0.fLS.fRanges, sL 5 c_TRedist a0.fLS.fRedist, .bool a0.fDV.fOn, .int .i64 a0.fDV.fAdmin, .str a0.fDV.fIn, .str a0.fDV.fOut, sL 5 c_TRedist a0.fDV.fRedist, .bool a0.fPV.fOn, .int .i64 a0.fPV.fExternal, .int .i64 a0.fPV.fInternal, sL 4 c_TNeighbor a0.fPV.fNeighbors, sL 2 c_TPrefix a0.fPV.fNetworks, sL 3 c_TAggregate a0.fPV.fAggregates, sL 5 c_TCondition a0.fPV.fConditions, sL 5 c_TRedist a0.fPV.fRedist]]⟩) (le_cut (n := 2) (by kernel_rfl)) (le_sub (.cons Sub.rfl (.cons Sub.rfl .nil)) (.cons .rfl (.cons (.box (.cons CSub.rfl (.cons CSub.rfl (.cons (csub_sl (len_snoc2 (Nat.zero_add _)) (own_ext (f := app (app (fun i => List.take 12 (List.drop (i * 12) [])) 0 (fun i => c_TInterface (a0.fInterfaces.getD i default))) (0 + a0.fInterfaces.length) (fun i => List.take 12 (List.drop (i * 12) [.str (⟨#[]⟩ : ByteArray), .int .u32 0, .int .i64 0, .int .i64 0, .bool false, .bool false, .int .i64 0, .int .i64 0, .bool false, .str (⟨#[]⟩ : ByteArray), .str (⟨#[]⟩ : ByteArray), .int .i64 0]))) (app_snoc2 c_TInterface (x := (⟨(⟨#[]⟩ : ByteArray), 0, 0, 0, false, false, 0, 0, false, (⟨#[]⟩ : ByteArray), (⟨#[]⟩ : ByteArray), 0⟩ : TInterface)) (g := fun i => List.take 12 (List.drop (i * 12) [.str (⟨#[]⟩ : ByteArray), .int .u32 0, .int .i64 0, .int .i64 0, .bool false, .bool false, .int .i64 0, .int .i64 0, .bool false, .str (⟨#[]⟩ : ByteArray), .str (⟨#[]⟩ : ByteArray), .int .i64 0])) (Nat.zero_add _) (app_nil c_TInterface _ a0.fInterfaces _ (fun _ _ => rfl)) rfl))) (.cons CSub.rfl (.cons CSub.rfl (.cons CSub.rfl (.cons CSub.rfl (.cons CSub.rfl (.cons CSub.rfl (.cons CSub.rfl (.cons CSub.rfl (.cons CSub.rfl (.cons CSub.rfl (.cons CSub.rfl (.cons CSub.rfl (.cons CSub.rfl (.cons CSub.rfl (.cons CSub.rfl (.cons CSub.rfl (.cons CSub.rfl (.cons CSub.rfl (.cons CSub.rfl (.cons CSub.rfl (.cons CSub.rfl (.cons CSub.rfl .nil)))))))))))))))))))))))))) .nil))))) (k6 (a0.fAS, (a0.fInterfaces : List TInterface) ++ [(⟨(⟨#[]⟩ : ByteArray), 0, 0, 0, false, false, 0, 0, false, (⟨#[]⟩ : ByteArray), (⟨#[]⟩ : ByteArray), 0⟩ : TInterface)], a0.fMaps, a0.fACLs, a0.fLS.fOn, a0.fLS.fRedist, a0.fDV.fOut, a0.fPV.fAggregates) h21)
 have h19 := cond_f b17 h16
 refine awp_seq (rg0 [2, 5, 10, 27] 2 ⟨96, [(2, .ref 0 0), (5, .ref 1 0), (10, .int .i64 a1), (27, .bool (a1 == 2))], [.box (c_TRouter a0), .box (c_TRouter a0)]⟩ ?_)
 refine then_n ?_
 refine cnd (a1 == 2) (fun b22 => ?_) (fun b22 => ?_)
 have h23 := cond_t b22 h19
 refine rg0 [2, 5] 2 ⟨96, [(2, .ref 0 0), (5, .ref 1 0)], [.box (c_TRouter a0), .box [.str a0.fName, .int .i64 a0.fAS, sL 12 c_TInterface a0.fInterfaces, sL 2 c_TPrefixList a0.fLists, sL 2 c_TRouteMap a0.fMaps, sL 2 c_TACL a0.fACLs, sL 9 c_TTranslation a0.fNAT, sL 7 c_TStaticRoute a0.fStatics, .bool (!a0.fLS.fOn), .int .i64 a0.fLS.fAdmin, sL 3 c_TAreaRange a0.fLS.fRanges, sL 5 c_TRedist a0.fLS.fRedist, .bool a0.fDV.fOn, .int .i64 a0.fDV.fAdmin, .str a0.fDV.fIn, .str a0.fDV.fOut, sL 5 c_TRedist a0.fDV.fRedist, .bool a0.fPV.fOn, .int .i64 a0.fPV.fExternal, .int .i64 a0.fPV.fInternal, sL 4 c_TNeighbor a0.fPV.fNeighbors, sL 2 c_TPrefix a0.fPV.fNetworks, sL 3 c_TAggregate a0.fPV.fAggregates, sL 5 c_TCondition a0.fPV.fConditions, sL 5 c_TRedist a0.fPV.fRedist]]⟩ ?_
 refine inb_n ?_
 exact then_le (le_rfl) (k6 (a0.fAS, a0.fInterfaces, a0.fMaps, a0.fACLs, !a0.fLS.fOn, a0.fLS.fRedist, a0.fDV.fOut, a0.fPV.fAggregates) h23)
 have h24 := cond_f b22 h19
 refine awp_seq (rg0 [2, 5, 10, 35] 2 ⟨96, [(2, .ref 0 0), (5, .ref 1 0), (10, .int .i64 a1), (35, .bool (a1 == 3))], [.box (c_TRouter a0), .box (c_TRouter a0)]⟩ ?_)
 refine then_n ?_
 refine cnd (a1 == 3) (fun b25 => ?_) (fun b25 => ?_)
 have h26 := cond_t b25 h24
 obtain ⟨c28, h29⟩ := gd_some h26
 refine rgc [2, 5] 2 ⟨96, [(2, .ref 0 0), (5, .ref 1 0)], [.box (c_TRouter a0), .box [.str a0.fName, .int .i64 a0.fAS, sL 12 c_TInterface a0.fInterfaces, sL 2 c_TPrefixList a0.fLists, sL 2 c_TRouteMap a0.fMaps, sL 2 c_TACL a0.fACLs, sL 9 c_TTranslation a0.fNAT, sL 7 c_TStaticRoute a0.fStatics, .bool a0.fLS.fOn, .int .i64 a0.fLS.fAdmin, sL 3 c_TAreaRange a0.fLS.fRanges, sL 5 c_TRedist a0.fLS.fRedist, .bool a0.fDV.fOn, .int .i64 a0.fDV.fAdmin, .str a0.fDV.fIn, .str (a0.fDV.fOut ++ (⟨#[120]⟩ : ByteArray)), sL 5 c_TRedist a0.fDV.fRedist, .bool a0.fPV.fOn, .int .i64 a0.fPV.fExternal, .int .i64 a0.fPV.fInternal, sL 4 c_TNeighbor a0.fPV.fNeighbors, sL 2 c_TPrefix a0.fPV.fNetworks, sL 3 c_TAggregate a0.fPV.fAggregates, sL 5 c_TCondition a0.fPV.fConditions, sL 5 c_TRedist a0.fPV.fRedist]]⟩ [decide (a0.fDV.fOut.size + (⟨#[120]⟩ : ByteArray).size ≤ 9223372036854775807)] c28 ?_
 refine inb_n ?_
 exact then_le (le_rfl) (k6 (a0.fAS, a0.fInterfaces, a0.fMaps, a0.fACLs, a0.fLS.fOn, a0.fLS.fRedist, a0.fDV.fOut ++ (⟨#[120]⟩ : ByteArray), a0.fPV.fAggregates) h29)
 have h27 := cond_f b25 h24
 refine awp_seq (rg0 [2, 5, 10, 43] 2 ⟨96, [(2, .ref 0 0), (5, .ref 1 0), (10, .int .i64 a1), (43, .bool (a1 == 4))], [.box (c_TRouter a0), .box (c_TRouter a0)]⟩ ?_)
 refine then_n ?_
 refine cnd (a1 == 4) (fun b30 => ?_) (fun b30 => ?_)
 have h31 := cond_t b30 h27
 obtain ⟨c33, h34⟩ := gd_some h31
 refine rgc [2, 5] 3 ⟨96, [(2, .ref 0 0), (5, .ref 1 0)], [.box (c_TRouter a0), .box [.str a0.fName, .int .i64 a0.fAS, sL 12 c_TInterface a0.fInterfaces, sL 2 c_TPrefixList a0.fLists, sL 2 c_TRouteMap a0.fMaps, sL 2 c_TACL a0.fACLs, sL 9 c_TTranslation a0.fNAT, sL 7 c_TStaticRoute a0.fStatics, .bool a0.fLS.fOn, .int .i64 a0.fLS.fAdmin, sL 3 c_TAreaRange a0.fLS.fRanges, sL 5 c_TRedist a0.fLS.fRedist, .bool a0.fDV.fOn, .int .i64 a0.fDV.fAdmin, .str a0.fDV.fIn, .str a0.fDV.fOut, sL 5 c_TRedist a0.fDV.fRedist, .bool a0.fPV.fOn, .int .i64 a0.fPV.fExternal, .int .i64 a0.fPV.fInternal, sL 4 c_TNeighbor a0.fPV.fNeighbors, sL 2 c_TPrefix a0.fPV.fNetworks, .asl 2 0 ((0 + a0.fPV.fAggregates.length) + 1), sL 5 c_TCondition a0.fPV.fConditions, sL 5 c_TRedist a0.fPV.fRedist], .arr 3 ((0 + a0.fPV.fAggregates.length) + 1) (app (app (fun i => List.take 3 (List.drop (i * 3) [])) 0 (fun i => c_TAggregate (a0.fPV.fAggregates.getD i default))) (0 + a0.fPV.fAggregates.length) (fun i => List.take 3 (List.drop (i * 3) [.int .u32 0, .int .i64 0, .bool false])))]⟩ [decide (0 = 0) || decide (0 < a0.fPV.fAggregates.length), decide ((0 + a0.fPV.fAggregates.length) * 24 ≤ 140737488355328), decide (((0 + a0.fPV.fAggregates.length) + 1) * 24 ≤ 140737488355328)] c33 ?_
 refine inb_n ?_
 exact then_le (Le.trans (le_frb (s := ⟨96, [(2, .ref 0 0), (5, .ref 1 0)], [.box (c_TRouter a0), .box [.str a0.fName, .int .i64 a0.fAS, sL 12 c_TInterface a0.fInterfaces, sL 2 c_TPrefixList a0.fLists, sL 2 c_TRouteMap a0.fMaps, sL 2 c_TACL a0.fACLs, sL 9 c_TTranslation a0.fNAT, sL 7 c_TStaticRoute a0.fStatics, .bool a0.fLS.fOn, .int .i64 a0.fLS.fAdmin, sL 3 c_TAreaRange a0.fLS.fRanges, sL 5 c_TRedist a0.fLS.fRedist, .bool a0.fDV.fOn, .int .i64 a0.fDV.fAdmin, .str a0.fDV.fIn, .str a0.fDV.fOut, sL 5 c_TRedist a0.fDV.fRedist, .bool a0.fPV.fOn, .int .i64 a0.fPV.fExternal, .int .i64 a0.fPV.fInternal, sL 4 c_TNeighbor a0.fPV.fNeighbors, sL 2 c_TPrefix a0.fPV.fNetworks, .asl 2 0 ((0 + a0.fPV.fAggregates.length) + 1), sL 5 c_TCondition a0.fPV.fConditions, sL 5 c_TRedist a0.fPV.fRedist], .arr 3 ((0 + a0.fPV.fAggregates.length) + 1) (app (app (fun i => List.take 3 (List.drop (i * 3) [])) 0 (fun i => c_TAggregate (a0.fPV.fAggregates.getD i default))) (0 + a0.fPV.fAggregates.length) (fun i => List.take 3 (List.drop (i * 3) [.int .u32 0, .int .i64 0, .bool false])))]⟩) (s' := ⟨96, [(2, .ref 0 0), (5, .ref 1 0)], [.box (c_TRouter a0), .box [.str a0.fName, .int .i64 a0.fAS, sL 12 c_TInterface a0.fInterfaces, sL 2 c_TPrefixList a0.fLists, sL 2 c_TRouteMap a0.fMaps, sL 2 c_TACL a0.fACLs, sL 9 c_TTranslation a0.fNAT, sL 7 c_TStaticRoute a0.fStatics, .bool a0.fLS.fOn, .int .i64 a0.fLS.fAdmin, sL 3 c_TAreaRange a0.fLS.fRanges, sL 5 c_TRedist a0.fLS.fRedist, .bool a0.fDV.fOn, .int .i64 a0.fDV.fAdmin, .str a0.fDV.fIn, .str a0.fDV.fOut, sL 5 c_TRedist a0.fDV.fRedist, .bool a0.fPV.fOn, .int .i64 a0.fPV.fExternal, .int .i64 a0.fPV.fInternal, sL 4 c_TNeighbor a0.fPV.fNeighbors, sL 2 c_TPrefix a0.fPV.fNetworks, .sl false 3 ((0 + a0.fPV.fAggregates.length) + 1) (fun k => (app (app (fun i => List.take 3 (List.drop (i * 3) [])) 0 (fun i => c_TAggregate (a0.fPV.fAggregates.getD i default))) (0 + a0.fPV.fAggregates.length) (fun i => List.take 3 (List.drop (i * 3) [.int .u32 0, .int .i64 0, .bool false]))) (0 + k)), sL 5 c_TCondition a0.fPV.fConditions, sL 5 c_TRedist a0.fPV.fRedist], aL 3 c_TAggregate ([] : List TAggregate)]⟩) 2 3 ((0 + a0.fPV.fAggregates.length) + 1) (app (app (fun i => List.take 3 (List.drop (i * 3) [])) 0 (fun i => c_TAggregate (a0.fPV.fAggregates.getD i default))) (0 + a0.fPV.fAggregates.length) (fun i => List.take 3 (List.drop (i * 3) [.int .u32 0, .int .i64 0, .bool false]))) (fun i => c_TAggregate (([] : List TAggregate).getD i default)) (by kernel_rfl) (by kernel_rfl) (by kernel_rfl)) (Le.trans (s' := ⟨96, [(2, .ref 0 0), (5, .ref 1 0)], [.box (c_TRouter a0), .box [.str a0.fName, .int .i64 a0.fAS, sL 12 c_TInterface a0.fInterfaces, sL 2 c_TPrefixList a0.fLists, sL 2 c_TRouteMap a0.fMaps, sL 2 c_TACL a0.fACLs, sL 9 c_TTranslation a0.fNAT, sL 7 c_TStaticRoute a0.fStatics, .bool a0.fLS.fOn, .int .i64 a0.fLS.fAdmin, sL 3 c_TAreaRange a0.fLS.fRanges, sL 5 c_TRedist a0.fLS.fRedist, .bool a0.fDV.fOn, .int .i64 a0.fDV.fAdmin, .str a0.fDV.fIn, .str a0.fDV.fOut, sL 5 c_TRedist a0.fDV.fRedist, .bool a0.fPV.fOn, .int .i64 a0.fPV.fExternal, .int .i64 a0.fPV.fInternal, sL 4 c_TNeighbor a0.fPV.fNeighbors, sL 2 c_TPrefix a0.fPV.fNetworks, .sl false 3 ((0 + a0.fPV.fAggregates.length) + 1) (fun k => (app (app (fun i => List.take 3 (List.drop (i * 3) [])) 0 (fun i => c_TAggregate (a0.fPV.fAggregates.getD i default))) (0 + a0.fPV.fAggregates.length) (fun i => List.take 3 (List.drop (i * 3) [.int .u32 0, .int .i64 0, .bool false]))) (0 + k)), sL 5 c_TCondition a0.fPV.fConditions, sL 5 c_TRedist a0.fPV.fRedist]]⟩) (le_cut (n := 2) (by kernel_rfl)) (le_sub (.cons Sub.rfl (.cons Sub.rfl .nil)) (.cons .rfl (.cons (.box (.cons CSub.rfl (.cons CSub.rfl (.cons CSub.rfl (.cons CSub.rfl (.cons CSub.rfl (.cons CSub.rfl (.cons CSub.rfl (.cons CSub.rfl (.cons CSub.rfl (.cons CSub.rfl (.cons CSub.rfl (.cons CSub.rfl (.cons CSub.rfl (.cons CSub.rfl (.cons CSub.rfl (.cons CSub.rfl (.cons CSub.rfl (.cons CSub.rfl (.cons CSub.rfl (.cons CSub.rfl (.cons CSub.rfl (.cons CSub.rfl (.cons (csub_sl (len_snoc2 (Nat.zero_add _)) (own_ext (f := app (app (fun i => List.take 3 (List.drop (i * 3) [])) 0 (fun i => c_TAggregate (a0.fPV.fAggregates.getD i default))) (0 + a0.fPV.fAggregates.length) (fun i => List.take 3 (List.drop (i * 3) [.int .u32 0, .int .i64 0, .bool false]))) (app_snoc2 c_TAggregate (x := (⟨(⟨0, 0⟩ : TPrefix), false⟩ : TAggregate)) (g := fun i => List.take 3 (List.drop (i * 3) [.int .u32 0, .int .i64 0, .bool false])) (Nat.zero_add _) (app_nil c_TAggregate _ a0.fPV.fAggregates _ (fun _ _ => rfl)) rfl))) (.cons CSub.rfl (.cons CSub.rfl .nil)))))))))))))))))))))))))) .nil))))) (k6 (a0.fAS, a0.fInterfaces, a0.fMaps, a0.fACLs, a0.fLS.fOn, a0.fLS.fRedist, a0.fDV.fOut, (a0.fPV.fAggregates : List TAggregate) ++ [(⟨(⟨0, 0⟩ : TPrefix), false⟩ : TAggregate)]) h34)
 have h32 := cond_f b30 h27
 refine awp_seq (rg0 [2, 5, 10, 55] 2 ⟨96, [(2, .ref 0 0), (5, .ref 1 0), (10, .int .i64 a1), (55, .bool (a1 == 5))], [.box (c_TRouter a0), .box (c_TRouter a0)]⟩ ?_)
 refine then_n ?_
 refine cnd (a1 == 5) (fun b35 => ?_) (fun b35 => ?_)
 have h36 := cond_t b35 h32
 obtain ⟨c38, h39⟩ := gd_some h36
 refine rgc [2, 5] 3 ⟨96, [(2, .ref 0 0), (5, .ref 1 0)], [.box (c_TRouter a0), .box [.str a0.fName, .int .i64 a0.fAS, sL 12 c_TInterface a0.fInterfaces, sL 2 c_TPrefixList a0.fLists, sL 2 c_TRouteMap a0.fMaps, .asl 2 0 ((0 + a0.fACLs.length) + 1), sL 9 c_TTranslation a0.fNAT, sL 7 c_TStaticRoute a0.fStatics, .bool a0.fLS.fOn, .int .i64 a0.fLS.fAdmin, sL 3 c_TAreaRange a0.fLS.fRanges, sL 5 c_TRedist a0.fLS.fRedist, .bool a0.fDV.fOn, .int .i64 a0.fDV.fAdmin, .str a0.fDV.fIn, .str a0.fDV.fOut, sL 5 c_TRedist a0.fDV.fRedist, .bool a0.fPV.fOn, .int .i64 a0.fPV.fExternal, .int .i64 a0.fPV.fInternal, sL 4 c_TNeighbor a0.fPV.fNeighbors, sL 2 c_TPrefix a0.fPV.fNetworks, sL 3 c_TAggregate a0.fPV.fAggregates, sL 5 c_TCondition a0.fPV.fConditions, sL 5 c_TRedist a0.fPV.fRedist], .arr 2 ((0 + a0.fACLs.length) + 1) (app (app (fun i => List.take 2 (List.drop (i * 2) [])) 0 (fun i => c_TACL (a0.fACLs.getD i default))) (0 + a0.fACLs.length) (fun i => List.take 2 (List.drop (i * 2) [.str (⟨#[]⟩ : ByteArray), .sl true 10 0 (fun _ => [])])))]⟩ [decide (0 = 0) || decide (0 < a0.fACLs.length), decide ((0 + a0.fACLs.length) * 40 ≤ 140737488355328), decide (((0 + a0.fACLs.length) + 1) * 40 ≤ 140737488355328)] c38 ?_
 refine inb_n ?_
 exact then_le (Le.trans (le_frb (s := ⟨96, [(2, .ref 0 0), (5, .ref 1 0)], [.box (c_TRouter a0), .box [.str a0.fName, .int .i64 a0.fAS, sL 12 c_TInterface a0.fInterfaces, sL 2 c_TPrefixList a0.fLists, sL 2 c_TRouteMap a0.fMaps, .asl 2 0 ((0 + a0.fACLs.length) + 1), sL 9 c_TTranslation a0.fNAT, sL 7 c_TStaticRoute a0.fStatics, .bool a0.fLS.fOn, .int .i64 a0.fLS.fAdmin, sL 3 c_TAreaRange a0.fLS.fRanges, sL 5 c_TRedist a0.fLS.fRedist, .bool a0.fDV.fOn, .int .i64 a0.fDV.fAdmin, .str a0.fDV.fIn, .str a0.fDV.fOut, sL 5 c_TRedist a0.fDV.fRedist, .bool a0.fPV.fOn, .int .i64 a0.fPV.fExternal, .int .i64 a0.fPV.fInternal, sL 4 c_TNeighbor a0.fPV.fNeighbors, sL 2 c_TPrefix a0.fPV.fNetworks, sL 3 c_TAggregate a0.fPV.fAggregates, sL 5 c_TCondition a0.fPV.fConditions, sL 5 c_TRedist a0.fPV.fRedist], .arr 2 ((0 + a0.fACLs.length) + 1) (app (app (fun i => List.take 2 (List.drop (i * 2) [])) 0 (fun i => c_TACL (a0.fACLs.getD i default))) (0 + a0.fACLs.length) (fun i => List.take 2 (List.drop (i * 2) [.str (⟨#[]⟩ : ByteArray), .sl true 10 0 (fun _ => [])])))]⟩) (s' := ⟨96, [(2, .ref 0 0), (5, .ref 1 0)], [.box (c_TRouter a0), .box [.str a0.fName, .int .i64 a0.fAS, sL 12 c_TInterface a0.fInterfaces, sL 2 c_TPrefixList a0.fLists, sL 2 c_TRouteMap a0.fMaps, .sl false 2 ((0 + a0.fACLs.length) + 1) (fun k => (app (app (fun i => List.take 2 (List.drop (i * 2) [])) 0 (fun i => c_TACL (a0.fACLs.getD i default))) (0 + a0.fACLs.length) (fun i => List.take 2 (List.drop (i * 2) [.str (⟨#[]⟩ : ByteArray), .sl true 10 0 (fun _ => [])]))) (0 + k)), sL 9 c_TTranslation a0.fNAT, sL 7 c_TStaticRoute a0.fStatics, .bool a0.fLS.fOn, .int .i64 a0.fLS.fAdmin, sL 3 c_TAreaRange a0.fLS.fRanges, sL 5 c_TRedist a0.fLS.fRedist, .bool a0.fDV.fOn, .int .i64 a0.fDV.fAdmin, .str a0.fDV.fIn, .str a0.fDV.fOut, sL 5 c_TRedist a0.fDV.fRedist, .bool a0.fPV.fOn, .int .i64 a0.fPV.fExternal, .int .i64 a0.fPV.fInternal, sL 4 c_TNeighbor a0.fPV.fNeighbors, sL 2 c_TPrefix a0.fPV.fNetworks, sL 3 c_TAggregate a0.fPV.fAggregates, sL 5 c_TCondition a0.fPV.fConditions, sL 5 c_TRedist a0.fPV.fRedist], aL 2 c_TACL ([] : List TACL)]⟩) 2 2 ((0 + a0.fACLs.length) + 1) (app (app (fun i => List.take 2 (List.drop (i * 2) [])) 0 (fun i => c_TACL (a0.fACLs.getD i default))) (0 + a0.fACLs.length) (fun i => List.take 2 (List.drop (i * 2) [.str (⟨#[]⟩ : ByteArray), .sl true 10 0 (fun _ => [])]))) (fun i => c_TACL (([] : List TACL).getD i default)) (by kernel_rfl) (by kernel_rfl) (by kernel_rfl)) (Le.trans (s' := ⟨96, [(2, .ref 0 0), (5, .ref 1 0)], [.box (c_TRouter a0), .box [.str a0.fName, .int .i64 a0.fAS, sL 12 c_TInterface a0.fInterfaces, sL 2 c_TPrefixList a0.fLists, sL 2 c_TRouteMap a0.fMaps, .sl false 2 ((0 + a0.fACLs.length) + 1) (fun k => (app (app (fun i => List.take 2 (List.drop (i * 2) [])) 0 (fun i => c_TACL (a0.fACLs.getD i default))) (0 + a0.fACLs.length) (fun i => List.take 2 (List.drop (i * 2) [.str (⟨#[]⟩ : ByteArray), .sl true 10 0 (fun _ => [])]))) (0 + k)), sL 9 c_TTranslation a0.fNAT, sL 7 c_TStaticRoute a0.fStatics, .bool a0.fLS.fOn, .int .i64 a0.fLS.fAdmin, sL 3 c_TAreaRange a0.fLS.fRanges, sL 5 c_TRedist a0.fLS.fRedist, .bool a0.fDV.fOn, .int .i64 a0.fDV.fAdmin, .str a0.fDV.fIn, .str a0.fDV.fOut, sL 5 c_TRedist a0.fDV.fRedist, .bool a0.fPV.fOn, .int .i64 a0.fPV.fExternal, .int .i64 a0.fPV.fInternal, sL 4 c_TNeighbor a0.fPV.fNeighbors, sL 2 c_TPrefix a0.fPV.fNetworks, sL 3 c_TAggregate a0.fPV.fAggregates, sL 5 c_TCondition a0.fPV.fConditions, sL 5 c_TRedist a0.fPV.fRedist]]⟩) (le_cut (n := 2) (by kernel_rfl)) (le_sub (.cons Sub.rfl (.cons Sub.rfl .nil)) (.cons .rfl (.cons (.box (.cons CSub.rfl (.cons CSub.rfl (.cons CSub.rfl (.cons CSub.rfl (.cons CSub.rfl (.cons (csub_psl (len_snoc2 (Nat.zero_add _)) (own_pext (f := app (app (fun i => List.take 2 (List.drop (i * 2) [])) 0 (fun i => c_TACL (a0.fACLs.getD i default))) (0 + a0.fACLs.length) (fun i => List.take 2 (List.drop (i * 2) [.str (⟨#[]⟩ : ByteArray), .sl true 10 0 (fun _ => [])]))) (psext_app c_TACL (x := (⟨(⟨#[]⟩ : ByteArray), ([] : List TRule)⟩ : TACL)) (g := fun i => List.take 2 (List.drop (i * 2) [.str (⟨#[]⟩ : ByteArray), .sl true 10 0 (fun _ => [])])) (Nat.zero_add _) (app_nil c_TACL _ a0.fACLs _ (fun _ _ => rfl)) (.cons PSub.rfl (.cons psub_nil .nil))))) (.cons CSub.rfl (.cons CSub.rfl (.cons CSub.rfl (.cons CSub.rfl (.cons CSub.rfl (.cons CSub.rfl (.cons CSub.rfl (.cons CSub.rfl (.cons CSub.rfl (.cons CSub.rfl (.cons CSub.rfl (.cons CSub.rfl (.cons CSub.rfl (.cons CSub.rfl (.cons CSub.rfl (.cons CSub.rfl (.cons CSub.rfl (.cons CSub.rfl (.cons CSub.rfl .nil)))))))))))))))))))))))))) .nil))))) (k6 (a0.fAS, a0.fInterfaces, a0.fMaps, (a0.fACLs : List TACL) ++ [(⟨(⟨#[]⟩ : ByteArray), ([] : List TRule)⟩ : TACL)], a0.fLS.fOn, a0.fLS.fRedist, a0.fDV.fOut, a0.fPV.fAggregates) h39)
 have h37 := cond_f b35 h32
 refine awp_seq (rg0 [2, 5, 10, 65] 2 ⟨96, [(2, .ref 0 0), (5, .ref 1 0), (10, .int .i64 a1), (65, .bool (a1 == 6))], [.box (c_TRouter a0), .box (c_TRouter a0)]⟩ ?_)
 refine then_n ?_
 refine cnd (a1 == 6) (fun b40 => ?_) (fun b40 => ?_)
 have h41 := cond_t b40 h37
 obtain ⟨c43, h44⟩ := gd_some h41
 refine rgc [2, 5] 2 ⟨96, [(2, .ref 0 0), (5, .ref 1 0)], [.box (c_TRouter a0), .box [.str a0.fName, .int .i64 a0.fAS, sL 12 c_TInterface a0.fInterfaces, sL 2 c_TPrefixList a0.fLists, .sl false 2 (1 + a0.fMaps.length) (app (fun i => List.take 2 (List.drop (i * 2) [.str (⟨#[]⟩ : ByteArray), .sl true 7 0 (fun _ => [])])) 1 (fun i => c_TRouteMap (a0.fMaps.getD i default))), sL 2 c_TACL a0.fACLs, sL 9 c_TTranslation a0.fNAT, sL 7 c_TStaticRoute a0.fStatics, .bool a0.fLS.fOn, .int .i64 a0.fLS.fAdmin, sL 3 c_TAreaRange a0.fLS.fRanges, sL 5 c_TRedist a0.fLS.fRedist, .bool a0.fDV.fOn, .int .i64 a0.fDV.fAdmin, .str a0.fDV.fIn, .str a0.fDV.fOut, sL 5 c_TRedist a0.fDV.fRedist, .bool a0.fPV.fOn, .int .i64 a0.fPV.fExternal, .int .i64 a0.fPV.fInternal, sL 4 c_TNeighbor a0.fPV.fNeighbors, sL 2 c_TPrefix a0.fPV.fNetworks, sL 3 c_TAggregate a0.fPV.fAggregates, sL 5 c_TCondition a0.fPV.fConditions, sL 5 c_TRedist a0.fPV.fRedist]]⟩ [decide ((1 + a0.fMaps.length) * 40 ≤ 140737488355328)] c43 ?_
 refine inb_n ?_
 exact then_le (le_sub (.cons Sub.rfl (.cons Sub.rfl .nil)) (.cons .rfl (.cons (.box (.cons CSub.rfl (.cons CSub.rfl (.cons CSub.rfl (.cons CSub.rfl (.cons (csub_psl (len_lit (⟨(⟨#[]⟩ : ByteArray), ([] : List TClause)⟩ : TRouteMap) a0.fMaps) (psext_lit c_TRouteMap (x := (⟨(⟨#[]⟩ : ByteArray), ([] : List TClause)⟩ : TRouteMap)) rfl (.cons PSub.rfl (.cons psub_nil .nil)) (fun _ _ => rfl))) (.cons CSub.rfl (.cons CSub.rfl (.cons CSub.rfl (.cons CSub.rfl (.cons CSub.rfl (.cons CSub.rfl (.cons CSub.rfl (.cons CSub.rfl (.cons CSub.rfl (.cons CSub.rfl (.cons CSub.rfl (.cons CSub.rfl (.cons CSub.rfl (.cons CSub.rfl (.cons CSub.rfl (.cons CSub.rfl (.cons CSub.rfl (.cons CSub.rfl (.cons CSub.rfl (.cons CSub.rfl .nil)))))))))))))))))))))))))) .nil))) (k6 (a0.fAS, a0.fInterfaces, ((⟨(⟨#[]⟩ : ByteArray), ([] : List TClause)⟩ : TRouteMap) :: a0.fMaps), a0.fACLs, a0.fLS.fOn, a0.fLS.fRedist, a0.fDV.fOut, a0.fPV.fAggregates) h44)
 have h42 := cond_f b40 h37
 refine awp_seq (rg0 [2, 5, 73] 2 ⟨96, [(2, .ref 0 0), (5, .ref 1 0), (73, .bool (a1 == 7))], [.box (c_TRouter a0), .box (c_TRouter a0)]⟩ ?_)
 refine then_n ?_
 refine cnd (a1 == 7) (fun b45 => ?_) (fun b45 => ?_)
 have h46 := cond_t b45 h42
 obtain ⟨c48, h49⟩ := gd_some h46
 refine rgc [2, 5] 2 ⟨96, [(2, .ref 0 0), (5, .ref 1 0)], [.box (c_TRouter a0), .box [.str a0.fName, .int .i64 a0.fAS, sL 12 c_TInterface a0.fInterfaces, sL 2 c_TPrefixList a0.fLists, sL 2 c_TRouteMap a0.fMaps, sL 2 c_TACL a0.fACLs, sL 9 c_TTranslation a0.fNAT, sL 7 c_TStaticRoute a0.fStatics, .bool a0.fLS.fOn, .int .i64 a0.fLS.fAdmin, sL 3 c_TAreaRange a0.fLS.fRanges, .sl false 5 (1 + a0.fLS.fRedist.length) (app (fun i => List.take 5 (List.drop (i * 5) [.int .i64 0, .int .i64 0, .int .i64 0, .str (⟨#[]⟩ : ByteArray), .int .i64 0])) 1 (fun i => c_TRedist (a0.fLS.fRedist.getD i default))), .bool a0.fDV.fOn, .int .i64 a0.fDV.fAdmin, .str a0.fDV.fIn, .str a0.fDV.fOut, sL 5 c_TRedist a0.fDV.fRedist, .bool a0.fPV.fOn, .int .i64 a0.fPV.fExternal, .int .i64 a0.fPV.fInternal, sL 4 c_TNeighbor a0.fPV.fNeighbors, sL 2 c_TPrefix a0.fPV.fNetworks, sL 3 c_TAggregate a0.fPV.fAggregates, sL 5 c_TCondition a0.fPV.fConditions, sL 5 c_TRedist a0.fPV.fRedist]]⟩ [decide ((1 + a0.fLS.fRedist.length) * 48 ≤ 140737488355328)] c48 ?_
 refine inb_n ?_
 exact then_le (le_sub (.cons Sub.rfl (.cons Sub.rfl .nil)) (.cons .rfl (.cons (.box (.cons CSub.rfl (.cons CSub.rfl (.cons CSub.rfl (.cons CSub.rfl (.cons CSub.rfl (.cons CSub.rfl (.cons CSub.rfl (.cons CSub.rfl (.cons CSub.rfl (.cons CSub.rfl (.cons CSub.rfl (.cons (csub_psl (len_lit (⟨0, 0, 0, (⟨#[]⟩ : ByteArray), 0⟩ : TRedist) a0.fLS.fRedist) (psext_lit c_TRedist (x := (⟨0, 0, 0, (⟨#[]⟩ : ByteArray), 0⟩ : TRedist)) rfl (.cons PSub.rfl (.cons PSub.rfl (.cons PSub.rfl (.cons PSub.rfl (.cons PSub.rfl .nil))))) (fun _ _ => rfl))) (.cons CSub.rfl (.cons CSub.rfl (.cons CSub.rfl (.cons CSub.rfl (.cons CSub.rfl (.cons CSub.rfl (.cons CSub.rfl (.cons CSub.rfl (.cons CSub.rfl (.cons CSub.rfl (.cons CSub.rfl (.cons CSub.rfl (.cons CSub.rfl .nil)))))))))))))))))))))))))) .nil))) (k6 (a0.fAS, a0.fInterfaces, a0.fMaps, a0.fACLs, a0.fLS.fOn, ((⟨0, 0, 0, (⟨#[]⟩ : ByteArray), 0⟩ : TRedist) :: a0.fLS.fRedist), a0.fDV.fOut, a0.fPV.fAggregates) h49)
 have h47 := cond_f b45 h42
 refine awp_seq (rg0 [4] 0 ⟨96, [(4, .bool true)], []⟩ ?_)
 refine then_n (awp_ret (inb_r (then_r ?_)))
 obtain rfl := Option.some.inj h47
 exact er0 (.bool true)
end Nv
