/- The walks: each function computes its mirror. -/
import Derived.Test.YtmangnohekiphaaProg
import Derived.Test.YtmangnohekiphaaNvD1
import Derived.Test.YtmangnohekiphaaNvM1a
import Derived.KernelRfl
set_option maxRecDepth 100000
namespace Nv
open Go Go.Proofs
/- slices.IndexFunc[[]netverify/api.Interface,netverify/api.Interface] -/
theorem slices_IndexFunc_api_Interface_api_Interface__model_shareAddress_1_ok (a0 : List TInterface) (a1c0 : TRouter) (r : Int) (h : M.slices_IndexFunc_api_Interface_api_Interface__model_shareAddress_1 a0 a1c0 = some r) : Fn Try.prog 50 [sL 12 c_TInterface a0, .fn 81 [.pp (c_TRouter a1c0)]] (.pure (.int .i64 r)) := by
 unfold M.slices_IndexFunc_api_Interface_api_Interface__model_shareAddress_1 at h
 refine fn_pure Try.func50 rfl (by kernel_rfl) ?_
 refine awp_seq (rg0 [0, 1] 0 ⟨19, [(0, sL 12 c_TInterface a0), (1, .fn 81 [.pp (c_TRouter a1c0)])], []⟩ ?_)
 refine then_n (awp_seq (awp_seq (rg0 [0, 1, 7, 8] 0 ⟨19, [(0, sL 12 c_TInterface a0), (1, .fn 81 [.pp (c_TRouter a1c0)]), (7, .int .i64 (a0.length : Int)), (8, .int .i64 0)], []⟩ ?_)))
 refine then_n (awp_block ?_)
 obtain ⟨y4, q12, h13⟩ := bind_some h
 refine awp_le (s' := ⟨19, [(0, sL 12 c_TInterface a0), (1, .fn 81 [.pp (c_TRouter a1c0)]), (7, .int .i64 (a0.length : Int)), (8, .int .i64 0)], []⟩) (le_rfl) ?_
 refine awp_mono (awp_loop (f := M.slices_IndexFunc_api_Interface_api_Interface__model_shareAddress_1_l1 a0 a1c0) (S := fun (p1 : Int) => ⟨19, [(0, sL 12 c_TInterface a0), (1, .fn 81 [.pp (c_TRouter a1c0)]), (7, .int .i64 (a0.length : Int)), (8, .int .i64 p1)], []⟩) (O := (Sum.elim (fun z => OutE 0 (fun z => ⟨19, [], []⟩) z) (fun z => OutR Try.prog Try.f50 (.int .i64 z)))) ?_ (x := 0) (y := y4) (loopM_iter q12)) ?_
 intro p1 y2 h1
 unfold M.slices_IndexFunc_api_Interface_api_Interface__model_shareAddress_1_l1 at h1
 refine awp_seq (rg0 [0, 1, 7, 8, 9] 0 ⟨19, [(0, sL 12 c_TInterface a0), (1, .fn 81 [.pp (c_TRouter a1c0)]), (7, .int .i64 (a0.length : Int)), (8, .int .i64 p1), (9, .bool (decide (p1 < (a0.length : Int))))], []⟩ ?_)
 refine then_n (awp_seq ?_)
 refine cnd (decide (p1 < (a0.length : Int))) (fun b2 => ?_) (fun b2 => ?_)
 have h3 := cond_t b2 h1
 refine awp_skip (then_n (awp_seq (awp_block (awp_seq (rg0 [0, 1, 5, 7, 8] 0 ⟨19, [(0, sL 12 c_TInterface a0), (1, .fn 81 [.pp (c_TRouter a1c0)]), (5, .int .i64 p1), (7, .int .i64 (a0.length : Int)), (8, .int .i64 p1)], []⟩ ?_)))))
 refine then_n (awp_seq ?_)
 obtain ⟨r3, q5, h6⟩ := bind_some h3
 obtain ⟨c7, h8⟩ := gd_some h6
 refine rg [.pure (.bool r3)] [0, 1, 5, 7, 8, 16] 0 ⟨19, [(0, sL 12 c_TInterface a0), (1, .fn 81 [.pp (c_TRouter a1c0)]), (5, .int .i64 p1), (7, .int .i64 (a0.length : Int)), (8, .int .i64 p1), (16, .bool r3)], []⟩ [decide (0 ≤ p1), decide (p1 < (a0.length : Int))] [⟨true, 81, [.agg (c_TInterface (a0.getD p1.toNat default)), .pp (c_TRouter a1c0)], .pure (.bool r3)⟩] c7 ⟨fun _ => model_shareAddress_1_ok (a0.getD p1.toNat default) a1c0 r3 q5, trivial⟩ ?_
 refine then_n ?_
 refine cnd r3 (fun b9 => ?_) (fun b9 => ?_)
 have h10 := cond_t b9 h8
 refine awp_seq (rg0 [4] 0 ⟨19, [(4, .int .i64 p1)], []⟩ ?_)
 refine then_n (awp_ret (inb_r (then_r ?_)))
 obtain rfl := Option.some.inj h10
 exact round_r ⟨rfl, er0 (.int .i64 p1)⟩
 have h11 := cond_f b9 h8
 refine awp_skip (inb_n (then_n (rg0 [0, 1, 7, 8] 0 ⟨19, [(0, sL 12 c_TInterface a0), (1, .fn 81 [.pp (c_TRouter a1c0)]), (7, .int .i64 (a0.length : Int)), (8, .int .i64 (wr .i64 (p1 + 1)))], []⟩ ?_)))
 obtain rfl := Option.some.inj h11
 exact round_n (le_rfl)
 have h4 := cond_f b2 h1
 refine awp_exit (then_e ?_)
 obtain rfl := Option.some.inj h4
 exact round_e ⟨rfl, kp []⟩
 intro e14 s15 o16
 rcases y4 with g5 | y6
 have h17 := elim_l h13
 obtain ⟨rfl, l19⟩ := o16
 refine inb_here ?_
 refine then_le (s' := ⟨19, [], []⟩) (l19) ?_
 refine awp_seq (rg0 [4] 0 ⟨19, [(4, .int .i64 (-1))], []⟩ ?_)
 refine then_n (awp_ret ?_)
 obtain rfl := Option.some.inj h17
 exact er0 (.int .i64 (-1))
 have h18 := elim_r h13
 obtain ⟨rfl, n20⟩ := o16
 refine inb_r (then_r ?_)
 obtain rfl := Option.some.inj h18
 exact n20

/- slices.ContainsFunc[[]netverify/api.Interface,netverify/api.Interface] -/
theorem slices_ContainsFunc_api_Interface_api_Interface__model_shareAddress_1_ok (a0 : List TInterface) (a1c0 : TRouter) (r : Bool) (h : M.slices_ContainsFunc_api_Interface_api_Interface__model_shareAddress_1 a0 a1c0 = some r) : Fn Try.prog 80 [sL 12 c_TInterface a0, .fn 81 [.pp (c_TRouter a1c0)]] (.pure (.bool r)) := by
 unfold M.slices_ContainsFunc_api_Interface_api_Interface__model_shareAddress_1 at h
 refine fn_pure Try.func80 rfl (by kernel_rfl) ?_
 refine awp_seq (rg0 [0, 1] 0 ⟨9, [(0, sL 12 c_TInterface a0), (1, .fn 81 [.pp (c_TRouter a1c0)])], []⟩ ?_)
 refine then_n (awp_seq ?_)
 obtain ⟨r1, q1, h2⟩ := bind_some h
 refine rg [.pure (.int .i64 r1)] [4] 0 ⟨9, [(4, .bool (decide (r1 ≥ 0)))], []⟩ [] [⟨true, 50, [sL 12 c_TInterface a0, .fn 81 [.pp (c_TRouter a1c0)]], .pure (.int .i64 r1)⟩] nil_all ⟨fun _ => slices_IndexFunc_api_Interface_api_Interface__model_shareAddress_1_ok a0 a1c0 r1 q1, trivial⟩ ?_
 refine then_n (awp_ret ?_)
 obtain rfl := Option.some.inj h2
 exact er0 (.bool (decide (r1 ≥ 0)))

/- netverify/model.shareAddress -/
theorem model_shareAddress_ok (a0 : TRouter) (a1 : TRouter) (r : Bool) (h : M.model_shareAddress a0 a1 = some r) : Fn Try.prog 59 [.agg (c_TRouter a0), .agg (c_TRouter a1)] (.pure (.bool r)) := by
 unfold M.model_shareAddress at h
 refine fn_pure Try.func59 rfl (by kernel_rfl) ?_
 refine awp_seq (rg0 [2, 3] 2 ⟨9, [(2, .ref 0 0), (3, .ref 1 0)], [.box (c_TRouter a0), .box (c_TRouter a1)]⟩ ?_)
 refine then_n (awp_seq ?_)
 obtain ⟨r1, q1, h2⟩ := bind_some h
 refine rg [.pure (.bool r1)] [4] 0 ⟨9, [(4, .bool r1)], []⟩ [] [⟨true, 80, [sL 12 c_TInterface a1.fInterfaces, .fn 81 [.pp (c_TRouter a0)]], .pure (.bool r1)⟩] nil_all ⟨fun _ => slices_ContainsFunc_api_Interface_api_Interface__model_shareAddress_1_ok a1.fInterfaces a0 r1 q1, trivial⟩ ?_
 refine then_n (awp_ret ?_)
 obtain rfl := Option.some.inj h2
 exact er0 (.bool r1)

/- netverify/model.Check -/
theorem model_Check_ok (a0 : TNetwork) (r : Int) (h : M.model_Check a0 = some r) : Fn Try.prog 25 [.agg (c_TNetwork a0)] (.pure (.int .i64 r)) := by
 unfold M.model_Check at h
 refine fn_pure Try.func25 rfl (by kernel_rfl) ?_
 refine awp_seq (rg0 [1] 1 ⟨46, [(1, .ref 0 0)], [.box (c_TNetwork a0)]⟩ ?_)
 refine then_n (awp_seq (awp_seq (rg0 [1, 11] 1 ⟨46, [(1, .ref 0 0), (11, .bool (decide ((a0.fRouters.length : Int) > 8)))], [.box (c_TNetwork a0)]⟩ ?_)))
 refine then_n ?_
 refine cnd (decide ((a0.fRouters.length : Int) > 8)) (fun b1 => ?_) (fun b1 => ?_)
 have h2 := cond_t b1 h
 refine awp_seq (rg0 [2] 0 ⟨46, [(2, .int .i64 7)], []⟩ ?_)
 refine then_n (awp_ret (then_r ?_))
 obtain rfl := Option.some.inj h2
 exact er0 (.int .i64 7)
 have h3 := cond_f b1 h
 refine awp_skip (then_n (awp_seq (awp_seq (rg0 [1, 13, 14, 15] 1 ⟨46, [(1, .ref 0 0), (13, sL 25 c_TRouter a0.fRouters), (14, .int .i64 (a0.fRouters.length : Int)), (15, .int .i64 0)], [.box (c_TNetwork a0)]⟩ ?_))))
 refine then_n (awp_block ?_)
 obtain ⟨y10, q37, h38⟩ := bind_some h3
 refine awp_le (s' := ⟨46, [(1, .ref 0 0), (13, sL 25 c_TRouter a0.fRouters), (14, .int .i64 (a0.fRouters.length : Int)), (15, .int .i64 0)], [.box (c_TNetwork a0)]⟩) (le_rfl) ?_
 refine awp_mono (awp_loop (f := M.model_Check_l1 a0) (S := fun (p1 : Int) => ⟨46, [(1, .ref 0 0), (13, sL 25 c_TRouter a0.fRouters), (14, .int .i64 (a0.fRouters.length : Int)), (15, .int .i64 p1)], [.box (c_TNetwork a0)]⟩) (O := (Sum.elim (fun z => OutE 0 (fun z => ⟨46, [], []⟩) z) (fun z => OutR Try.prog Try.f25 (.int .i64 z)))) ?_ (x := 0) (y := y10) (loopM_iter q37)) ?_
 intro p1 y2 h4
 unfold M.model_Check_l1 at h4
 refine awp_seq (rg0 [1, 13, 14, 15, 16] 1 ⟨46, [(1, .ref 0 0), (13, sL 25 c_TRouter a0.fRouters), (14, .int .i64 (a0.fRouters.length : Int)), (15, .int .i64 p1), (16, .bool (decide (p1 < (a0.fRouters.length : Int))))], [.box (c_TNetwork a0)]⟩ ?_)
 refine then_n (awp_seq ?_)
 refine cnd (decide (p1 < (a0.fRouters.length : Int))) (fun b5 => ?_) (fun b5 => ?_)
 have h6 := cond_t b5 h4
 refine awp_skip (then_n (awp_seq (awp_block (awp_seq ?_))))
 obtain ⟨c8, h9⟩ := gd_some h6
 refine rgc [1, 3, 4, 13, 14, 15] 2 ⟨46, [(1, .ref 0 0), (3, .int .i64 p1), (4, .ref 1 0), (13, sL 25 c_TRouter a0.fRouters), (14, .int .i64 (a0.fRouters.length : Int)), (15, .int .i64 p1)], [.box (c_TNetwork a0), .box (c_TRouter (a0.fRouters.getD p1.toNat default))]⟩ [decide (0 ≤ p1), decide (p1 < (a0.fRouters.length : Int))] c8 ?_
 refine then_n (awp_seq (awp_seq ?_))
 obtain ⟨r3, q10, h11⟩ := bind_some h9
 refine rg [.pure (.int .i64 r3)] [1, 3, 4, 5, 13, 14, 15] 2 ⟨46, [(1, .ref 0 0), (3, .int .i64 p1), (4, .ref 1 0), (5, .int .i64 r3), (13, sL 25 c_TRouter a0.fRouters), (14, .int .i64 (a0.fRouters.length : Int)), (15, .int .i64 p1)], [.box (c_TNetwork a0), .box (c_TRouter (a0.fRouters.getD p1.toNat default))]⟩ [] [⟨true, 26, [.agg (c_TRouter (a0.fRouters.getD p1.toNat default))], .pure (.int .i64 r3)⟩] nil_all ⟨fun _ => model_CheckRouter_ok (a0.fRouters.getD p1.toNat default) r3 q10, trivial⟩ ?_
 refine then_n (awp_seq (rg0 [1, 3, 4, 5, 13, 14, 15, 23] 2 ⟨46, [(1, .ref 0 0), (3, .int .i64 p1), (4, .ref 1 0), (5, .int .i64 r3), (13, sL 25 c_TRouter a0.fRouters), (14, .int .i64 (a0.fRouters.length : Int)), (15, .int .i64 p1), (23, .bool (r3 != 0))], [.box (c_TNetwork a0), .box (c_TRouter (a0.fRouters.getD p1.toNat default))]⟩ ?_))
 refine then_n ?_
 refine cnd (r3 != 0) (fun b12 => ?_) (fun b12 => ?_)
 have h13 := cond_t b12 h11
 refine awp_seq (rg0 [2] 0 ⟨46, [(2, .int .i64 r3)], []⟩ ?_)
 refine then_n (awp_ret (then_r (inb_r (then_r ?_))))
 obtain rfl := Option.some.inj h13
 exact round_r ⟨rfl, er0 (.int .i64 r3)⟩
 have h14 := cond_f b12 h11
 refine awp_skip (then_n (awp_seq ?_))
 obtain ⟨c15, h16⟩ := gd_some h14
 refine rgc [1, 4, 13, 14, 15, 28, 29, 30] 2 ⟨46, [(1, .ref 0 0), (4, .ref 1 0), (13, sL 25 c_TRouter a0.fRouters), (14, .int .i64 (a0.fRouters.length : Int)), (15, .int .i64 p1), (28, .sl false 25 (p1.toNat - 0) (fun i => c_TRouter (a0.fRouters.getD (0 + i) default))), (29, .int .i64 (p1.toNat - 0 : Int)), (30, .int .i64 0)], [.box (c_TNetwork a0), .box (c_TRouter (a0.fRouters.getD p1.toNat default))]⟩ [decide (0 ≤ p1), decide (p1 ≤ (a0.fRouters.length : Int))] c15 ?_
 refine then_le (s' := ⟨46, [(1, .ref 0 0), (4, .ref 1 0), (13, sL 25 c_TRouter a0.fRouters), (14, .int .i64 (a0.fRouters.length : Int)), (15, .int .i64 p1), (28, sL 25 c_TRouter ((a0.fRouters.drop 0).take (p1.toNat - 0))), (29, .int .i64 (p1.toNat - 0 : Int)), (30, .int .i64 0)], [.box (c_TNetwork a0), .box (c_TRouter (a0.fRouters.getD p1.toNat default))]⟩) (le_sub (.cons Sub.rfl (.cons Sub.rfl (.cons Sub.rfl (.cons Sub.rfl (.cons Sub.rfl (.cons (sub_sl (len_cut _ _ _ (cut_hi (c15 _ (List.mem_cons_of_mem _ List.mem_cons_self)))) (cut_ext _ _ _ _)) (.cons Sub.rfl (.cons Sub.rfl .nil)))))))) (.cons .rfl (.cons .rfl .nil))) ?_
 refine awp_block ?_
 obtain ⟨y7, q28, h29⟩ := bind_some h16
 refine awp_le (s' := ⟨46, [(1, .ref 0 0), (4, .ref 1 0), (13, sL 25 c_TRouter a0.fRouters), (14, .int .i64 (a0.fRouters.length : Int)), (15, .int .i64 p1), (28, sL 25 c_TRouter ((a0.fRouters.drop 0).take (p1.toNat - 0))), (29, .int .i64 (p1.toNat - 0 : Int)), (30, .int .i64 0)], [.box (c_TNetwork a0), .box (c_TRouter (a0.fRouters.getD p1.toNat default))]⟩) (le_rfl) ?_
 refine awp_mono (awp_loop (f := M.model_Check_l2 a0 p1) (S := fun (p4 : Int) => ⟨46, [(1, .ref 0 0), (4, .ref 1 0), (13, sL 25 c_TRouter a0.fRouters), (14, .int .i64 (a0.fRouters.length : Int)), (15, .int .i64 p1), (28, sL 25 c_TRouter ((a0.fRouters.drop 0).take (p1.toNat - 0))), (29, .int .i64 (p1.toNat - 0 : Int)), (30, .int .i64 p4)], [.box (c_TNetwork a0), .box (c_TRouter (a0.fRouters.getD p1.toNat default))]⟩) (O := (Sum.elim (fun z => OutE 2 (fun z => ⟨46, [(1, .ref 0 0), (13, sL 25 c_TRouter a0.fRouters), (14, .int .i64 (a0.fRouters.length : Int)), (15, .int .i64 p1)], [.box (c_TNetwork a0)]⟩) z) (fun z => OutR Try.prog Try.f25 (.int .i64 z)))) ?_ (x := 0) (y := y7) (loopM_iter q28)) ?_
 intro p4 y5 h17
 unfold M.model_Check_l2 at h17
 refine awp_seq (rg0 [1, 4, 13, 14, 15, 28, 29, 30, 31] 2 ⟨46, [(1, .ref 0 0), (4, .ref 1 0), (13, sL 25 c_TRouter a0.fRouters), (14, .int .i64 (a0.fRouters.length : Int)), (15, .int .i64 p1), (28, sL 25 c_TRouter ((a0.fRouters.drop 0).take (p1.toNat - 0))), (29, .int .i64 (p1.toNat - 0 : Int)), (30, .int .i64 p4), (31, .bool (decide (p4 < (p1.toNat - 0 : Int))))], [.box (c_TNetwork a0), .box (c_TRouter (a0.fRouters.getD p1.toNat default))]⟩ ?_)
 refine then_n (awp_seq ?_)
 refine cnd (decide (p4 < (p1.toNat - 0 : Int))) (fun b18 => ?_) (fun b18 => ?_)
 have h19 := cond_t b18 h17
 refine awp_skip (then_n (awp_seq (awp_block (awp_seq ?_))))
 obtain ⟨c21, h22⟩ := gd_some h19
 refine rgc [1, 4, 7, 13, 14, 15, 28, 29, 30] 3 ⟨46, [(1, .ref 0 0), (4, .ref 1 0), (7, .ref 2 0), (13, sL 25 c_TRouter a0.fRouters), (14, .int .i64 (a0.fRouters.length : Int)), (15, .int .i64 p1), (28, sL 25 c_TRouter ((a0.fRouters.drop 0).take (p1.toNat - 0))), (29, .int .i64 (p1.toNat - 0 : Int)), (30, .int .i64 p4)], [.box (c_TNetwork a0), .box (c_TRouter (a0.fRouters.getD p1.toNat default)), .box (c_TRouter (((a0.fRouters.drop 0).take (p1.toNat - 0)).getD p4.toNat default))]⟩ [decide (0 ≤ p4), decide (p4 < (((a0.fRouters.drop 0).take (p1.toNat - 0)).length : Int))] c21 ?_
 refine then_n (awp_seq ?_)
 obtain ⟨r6, q23, h24⟩ := bind_some h22
 refine rg [.pure (.bool r6)] [1, 4, 13, 14, 15, 28, 29, 30, 43] 2 ⟨46, [(1, .ref 0 0), (4, .ref 1 0), (13, sL 25 c_TRouter a0.fRouters), (14, .int .i64 (a0.fRouters.length : Int)), (15, .int .i64 p1), (28, sL 25 c_TRouter ((a0.fRouters.drop 0).take (p1.toNat - 0))), (29, .int .i64 (p1.toNat - 0 : Int)), (30, .int .i64 p4), (43, .bool ((strEq ((((a0.fRouters.drop 0).take (p1.toNat - 0)).getD p4.toNat default).fName) ((a0.fRouters.getD p1.toNat default).fName)) || r6))], [.box (c_TNetwork a0), .box (c_TRouter (a0.fRouters.getD p1.toNat default))]⟩ [] [⟨(!(strEq ((((a0.fRouters.drop 0).take (p1.toNat - 0)).getD p4.toNat default).fName) ((a0.fRouters.getD p1.toNat default).fName))), 59, [.agg (c_TRouter (((a0.fRouters.drop 0).take (p1.toNat - 0)).getD p4.toNat default)), .agg (c_TRouter (a0.fRouters.getD p1.toNat default))], .pure (.bool r6)⟩] nil_all ⟨fun hg => model_shareAddress_ok (((a0.fRouters.drop 0).take (p1.toNat - 0)).getD p4.toNat default) (a0.fRouters.getD p1.toNat default) r6 (gc_some q23 hg), trivial⟩ ?_
 refine then_n ?_
 refine cnd ((strEq ((((a0.fRouters.drop 0).take (p1.toNat - 0)).getD p4.toNat default).fName) ((a0.fRouters.getD p1.toNat default).fName)) || r6) (fun b25 => ?_) (fun b25 => ?_)
 have h26 := cond_t b25 h24
 refine awp_seq (rg0 [2] 0 ⟨46, [(2, .int .i64 4)], []⟩ ?_)
 refine then_n (awp_ret (inb_r (then_r ?_)))
 obtain rfl := Option.some.inj h26
 exact round_r ⟨rfl, er0 (.int .i64 4)⟩
 have h27 := cond_f b25 h24
 refine awp_skip (inb_n (then_n (rg0 [1, 4, 13, 14, 15, 28, 29, 30] 2 ⟨46, [(1, .ref 0 0), (4, .ref 1 0), (13, sL 25 c_TRouter a0.fRouters), (14, .int .i64 (a0.fRouters.length : Int)), (15, .int .i64 p1), (28, sL 25 c_TRouter ((a0.fRouters.drop 0).take (p1.toNat - 0))), (29, .int .i64 (p1.toNat - 0 : Int)), (30, .int .i64 (wr .i64 (p4 + 1)))], [.box (c_TNetwork a0), .box (c_TRouter (a0.fRouters.getD p1.toNat default))]⟩ ?_)))
 obtain rfl := Option.some.inj h27
 exact round_n (le_rfl)
 have h20 := cond_f b18 h17
 refine awp_exit (then_e ?_)
 obtain rfl := Option.some.inj h20
 exact round_e ⟨rfl, Le.trans (s' := ⟨46, [(1, .ref 0 0), (13, sL 25 c_TRouter a0.fRouters), (14, .int .i64 (a0.fRouters.length : Int)), (15, .int .i64 p1)], [.box (c_TNetwork a0), .box (c_TRouter (a0.fRouters.getD p1.toNat default))]⟩) (kp [1, 13, 14, 15]) (le_cut (n := 1) (by kernel_rfl))⟩
 intro e30 s31 o32
 rcases y7 with g8 | y9
 have h33 := elim_l h29
 obtain ⟨rfl, l35⟩ := o32
 refine inb_here (inb_n ?_)
 refine then_le (s' := ⟨46, [(1, .ref 0 0), (13, sL 25 c_TRouter a0.fRouters), (14, .int .i64 (a0.fRouters.length : Int)), (15, .int .i64 p1)], [.box (c_TNetwork a0)]⟩) (l35) ?_
 refine rg0 [1, 13, 14, 15] 1 ⟨46, [(1, .ref 0 0), (13, sL 25 c_TRouter a0.fRouters), (14, .int .i64 (a0.fRouters.length : Int)), (15, .int .i64 (wr .i64 (p1 + 1)))], [.box (c_TNetwork a0)]⟩ ?_
 obtain rfl := Option.some.inj h33
 exact round_n (le_rfl)
 have h34 := elim_r h29
 obtain ⟨rfl, n36⟩ := o32
 refine inb_r (inb_r (then_r ?_))
 obtain rfl := Option.some.inj h34
 exact round_r ⟨rfl, n36⟩
 have h7 := cond_f b5 h4
 refine awp_exit (then_e ?_)
 obtain rfl := Option.some.inj h7
 exact round_e ⟨rfl, Le.trans (s' := ⟨46, [], [.box (c_TNetwork a0)]⟩) (kp []) (le_cut (n := 0) (by kernel_rfl))⟩
 intro e39 s40 o41
 rcases y10 with g11 | y12
 have h42 := elim_l h38
 obtain ⟨rfl, l44⟩ := o41
 refine inb_here ?_
 refine then_le (s' := ⟨46, [], []⟩) (l44) ?_
 refine awp_seq (rg0 [2] 0 ⟨46, [(2, .int .i64 0)], []⟩ ?_)
 refine then_n (awp_ret ?_)
 obtain rfl := Option.some.inj h42
 exact er0 (.int .i64 0)
 have h43 := elim_r h38
 obtain ⟨rfl, n45⟩ := o41
 refine inb_r (then_r ?_)
 obtain rfl := Option.some.inj h43
 exact n45

/- netverify/netverifylaw5.sample -/
theorem law5_sample_ok  (r : TRouter) (h : M.law5_sample = some r) : Fn Try.prog 44 [] (.pure (.agg (c_TRouter r))) := by
 unfold M.law5_sample at h
 refine fn_pure Try.func44 rfl (by kernel_rfl) ?_
 refine awp_seq (rg0 [0] 1 ⟨36, [(0, .ref 0 0)], [.box [.str (⟨#[]⟩ : ByteArray), .int .i64 0, .sl true 12 0 (fun _ => []), .sl true 2 0 (fun _ => []), .sl true 2 0 (fun _ => []), .sl true 2 0 (fun _ => []), .sl true 9 0 (fun _ => []), .sl true 7 0 (fun _ => []), .bool false, .int .i64 0, .sl true 3 0 (fun _ => []), .sl true 5 0 (fun _ => []), .bool false, .int .i64 0, .str (⟨#[]⟩ : ByteArray), .str (⟨#[]⟩ : ByteArray), .sl true 5 0 (fun _ => []), .bool false, .int .i64 0, .int .i64 0, .sl true 4 0 (fun _ => []), .sl true 2 0 (fun _ => []), .sl true 3 0 (fun _ => []), .sl true 5 0 (fun _ => []), .sl true 5 0 (fun _ => [])]]⟩ ?_)
 refine then_n (awp_seq (rg0 [0] 1 ⟨36, [(0, .ref 0 0)], [.box [.str (⟨#[114, 49]⟩ : ByteArray), .int .i64 65001, .sl true 12 2 (fun i => List.take 12 (List.drop (i * 12) [.str (⟨#[101, 48]⟩ : ByteArray), .int .u32 167772161, .int .i64 24, .int .i64 0, .bool false, .bool true, .int .i64 0, .int .i64 10, .bool false, .str (⟨#[97]⟩ : ByteArray), .str (⟨#[]⟩ : ByteArray), .int .i64 0, .str (⟨#[101, 49]⟩ : ByteArray), .int .u32 167772417, .int .i64 24, .int .i64 0, .bool false, .bool false, .int .i64 0, .int .i64 0, .bool true, .str (⟨#[]⟩ : ByteArray), .str (⟨#[]⟩ : ByteArray), .int .i64 0])), .sl true 2 1 (fun i => List.take 2 (List.drop (i * 2) [.str (⟨#[112]⟩ : ByteArray), .sl true 5 1 (fun i => List.take 5 (List.drop (i * 5) [.bool true, .int .u32 167772160, .int .i64 8, .int .i64 8, .int .i64 32]))])), .sl true 2 1 (fun i => List.take 2 (List.drop (i * 2) [.str (⟨#[109]⟩ : ByteArray), .sl true 7 1 (fun i => List.take 7 (List.drop (i * 7) [.bool true, .str (⟨#[112]⟩ : ByteArray), .int .i64 (-1), .int .i64 5, .int .i64 (-1), .int .i64 (-1), .int .i64 0]))])), .sl true 2 1 (fun i => List.take 2 (List.drop (i * 2) [.str (⟨#[97]⟩ : ByteArray), .sl true 10 1 (fun i => List.take 10 (List.drop (i * 10) [.bool true, .int .i64 6, .int .u32 0, .int .u32 4294967295, .int .u32 0, .int .u32 4294967295, .int .i64 0, .int .i64 65535, .int .i64 80, .int .i64 80]))])), .sl true 9 1 (fun i => List.take 9 (List.drop (i * 9) [.int .i64 1, .int .u32 167772165, .int .u32 3221225989, .int .i64 0, .int .i64 0, .int .i64 0, .str (⟨#[]⟩ : ByteArray), .int .u32 0, .int .u32 0])), .sl true 7 1 (fun i => List.take 7 (List.drop (i * 7) [.int .u32 3232235520, .int .i64 16, .int .u32 167772418, .str (⟨#[]⟩ : ByteArray), .bool false, .int .i64 1, .int .i64 0])), .bool true, .int .i64 110, .sl true 3 0 (fun _ => []), .sl true 5 1 (fun i => List.take 5 (List.drop (i * 5) [.int .i64 2, .int .i64 20, .int .i64 0, .str (⟨#[109]⟩ : ByteArray), .int .i64 2])), .bool true, .int .i64 120, .str (⟨#[]⟩ : ByteArray), .str (⟨#[112]⟩ : ByteArray), .sl true 5 0 (fun _ => []), .bool true, .int .i64 20, .int .i64 200, .sl true 4 1 (fun i => List.take 4 (List.drop (i * 4) [.int .u32 167772418, .int .i64 65002, .str (⟨#[109]⟩ : ByteArray), .str (⟨#[]⟩ : ByteArray)])), .sl true 2 1 (fun i => List.take 2 (List.drop (i * 2) [.int .u32 167772160, .int .i64 24])), .sl true 3 0 (fun _ => []), .sl true 5 0 (fun _ => []), .sl true 5 0 (fun _ => [])]]⟩ ?_))
 refine then_n (awp_ret ?_)
 obtain rfl := Option.some.inj h
 exact er (.agg [.str (⟨#[114, 49]⟩ : ByteArray), .int .i64 65001, .sl false 12 2 (fun i => List.take 12 (List.drop (i * 12) [.str (⟨#[101, 48]⟩ : ByteArray), .int .u32 167772161, .int .i64 24, .int .i64 0, .bool false, .bool true, .int .i64 0, .int .i64 10, .bool false, .str (⟨#[97]⟩ : ByteArray), .str (⟨#[]⟩ : ByteArray), .int .i64 0, .str (⟨#[101, 49]⟩ : ByteArray), .int .u32 167772417, .int .i64 24, .int .i64 0, .bool false, .bool false, .int .i64 0, .int .i64 0, .bool true, .str (⟨#[]⟩ : ByteArray), .str (⟨#[]⟩ : ByteArray), .int .i64 0])), .sl false 2 1 (fun i => List.take 2 (List.drop (i * 2) [.str (⟨#[112]⟩ : ByteArray), .sl true 5 1 (fun i => List.take 5 (List.drop (i * 5) [.bool true, .int .u32 167772160, .int .i64 8, .int .i64 8, .int .i64 32]))])), .sl false 2 1 (fun i => List.take 2 (List.drop (i * 2) [.str (⟨#[109]⟩ : ByteArray), .sl true 7 1 (fun i => List.take 7 (List.drop (i * 7) [.bool true, .str (⟨#[112]⟩ : ByteArray), .int .i64 (-1), .int .i64 5, .int .i64 (-1), .int .i64 (-1), .int .i64 0]))])), .sl false 2 1 (fun i => List.take 2 (List.drop (i * 2) [.str (⟨#[97]⟩ : ByteArray), .sl true 10 1 (fun i => List.take 10 (List.drop (i * 10) [.bool true, .int .i64 6, .int .u32 0, .int .u32 4294967295, .int .u32 0, .int .u32 4294967295, .int .i64 0, .int .i64 65535, .int .i64 80, .int .i64 80]))])), .sl false 9 1 (fun i => List.take 9 (List.drop (i * 9) [.int .i64 1, .int .u32 167772165, .int .u32 3221225989, .int .i64 0, .int .i64 0, .int .i64 0, .str (⟨#[]⟩ : ByteArray), .int .u32 0, .int .u32 0])), .sl false 7 1 (fun i => List.take 7 (List.drop (i * 7) [.int .u32 3232235520, .int .i64 16, .int .u32 167772418, .str (⟨#[]⟩ : ByteArray), .bool false, .int .i64 1, .int .i64 0])), .bool true, .int .i64 110, .sl false 3 0 (fun _ => []), .sl false 5 1 (fun i => List.take 5 (List.drop (i * 5) [.int .i64 2, .int .i64 20, .int .i64 0, .str (⟨#[109]⟩ : ByteArray), .int .i64 2])), .bool true, .int .i64 120, .str (⟨#[]⟩ : ByteArray), .str (⟨#[112]⟩ : ByteArray), .sl false 5 0 (fun _ => []), .bool true, .int .i64 20, .int .i64 200, .sl false 4 1 (fun i => List.take 4 (List.drop (i * 4) [.int .u32 167772418, .int .i64 65002, .str (⟨#[109]⟩ : ByteArray), .str (⟨#[]⟩ : ByteArray)])), .sl false 2 1 (fun i => List.take 2 (List.drop (i * 2) [.int .u32 167772160, .int .i64 24])), .sl false 3 0 (fun _ => []), .sl false 5 0 (fun _ => []), .sl false 5 0 (fun _ => [])]) (sub_agg (.cons CSub.rfl (.cons CSub.rfl (.cons (csub_sl rfl (fun i hi => match i, hi with | 0, _ => rfl | 1, _ => rfl | n + 2, h => absurd h (by omega))) (.cons (csub_psl rfl (fun i hi => match i, hi with | 0, _ => (.cons PSub.rfl (.cons (psub_sl rfl (fun i hi => match i, hi with | 0, _ => (.cons PSub.rfl (.cons PSub.rfl (.cons PSub.rfl (.cons PSub.rfl (.cons PSub.rfl .nil))))) | n + 1, h => absurd h (by omega))) .nil)) | n + 1, h => absurd h (by omega))) (.cons (csub_psl rfl (fun i hi => match i, hi with | 0, _ => (.cons PSub.rfl (.cons (psub_sl rfl (fun i hi => match i, hi with | 0, _ => (.cons PSub.rfl (.cons PSub.rfl (.cons PSub.rfl (.cons PSub.rfl (.cons PSub.rfl (.cons PSub.rfl (.cons PSub.rfl .nil))))))) | n + 1, h => absurd h (by omega))) .nil)) | n + 1, h => absurd h (by omega))) (.cons (csub_psl rfl (fun i hi => match i, hi with | 0, _ => (.cons PSub.rfl (.cons (psub_sl rfl (fun i hi => match i, hi with | 0, _ => (.cons PSub.rfl (.cons PSub.rfl (.cons PSub.rfl (.cons PSub.rfl (.cons PSub.rfl (.cons PSub.rfl (.cons PSub.rfl (.cons PSub.rfl (.cons PSub.rfl (.cons PSub.rfl .nil)))))))))) | n + 1, h => absurd h (by omega))) .nil)) | n + 1, h => absurd h (by omega))) (.cons (csub_sl rfl (fun i hi => match i, hi with | 0, _ => rfl | n + 1, h => absurd h (by omega))) (.cons (csub_sl rfl (fun i hi => match i, hi with | 0, _ => rfl | n + 1, h => absurd h (by omega))) (.cons CSub.rfl (.cons CSub.rfl (.cons csub_nil (.cons (csub_sl rfl (fun i hi => match i, hi with | 0, _ => rfl | n + 1, h => absurd h (by omega))) (.cons CSub.rfl (.cons CSub.rfl (.cons CSub.rfl (.cons CSub.rfl (.cons csub_nil (.cons CSub.rfl (.cons CSub.rfl (.cons CSub.rfl (.cons (csub_sl rfl (fun i hi => match i, hi with | 0, _ => rfl | n + 1, h => absurd h (by omega))) (.cons (csub_sl rfl (fun i hi => match i, hi with | 0, _ => rfl | n + 1, h => absurd h (by omega))) (.cons csub_nil (.cons csub_nil (.cons csub_nil .nil))))))))))))))))))))))))))

/- slices.Equal[[]netverify/api.Interface,netverify/api.Interface] -/
theorem slices_Equal_api_Interface_api_Interface_ok (a0 : List TInterface) (a1 : List TInterface) (r : Bool) (h : M.slices_Equal_api_Interface_api_Interface a0 a1 = some r) : Fn Try.prog 29 [sL 12 c_TInterface a0, sL 12 c_TInterface a1] (.pure (.bool r)) := by
 unfold M.slices_Equal_api_Interface_api_Interface at h
 refine fn_pure Try.func29 rfl (by kernel_rfl) ?_
 refine awp_seq (rg0 [0, 1] 0 ⟨26, [(0, sL 12 c_TInterface a0), (1, sL 12 c_TInterface a1)], []⟩ ?_)
 refine then_n (awp_seq (awp_seq (rg0 [0, 1, 10] 0 ⟨26, [(0, sL 12 c_TInterface a0), (1, sL 12 c_TInterface a1), (10, .bool ((a0.length : Int) != (a1.length : Int)))], []⟩ ?_)))
 refine then_n ?_
 refine cnd ((a0.length : Int) != (a1.length : Int)) (fun b1 => ?_) (fun b1 => ?_)
 have h2 := cond_t b1 h
 refine awp_seq (rg0 [4] 0 ⟨26, [(4, .bool false)], []⟩ ?_)
 refine then_n (awp_ret (then_r ?_))
 obtain rfl := Option.some.inj h2
 exact er0 (.bool false)
 have h3 := cond_f b1 h
 refine awp_skip (then_n (awp_seq (awp_seq (rg0 [0, 1, 12, 13] 0 ⟨26, [(0, sL 12 c_TInterface a0), (1, sL 12 c_TInterface a1), (12, .int .i64 (a0.length : Int)), (13, .int .i64 0)], []⟩ ?_))))
 refine then_n (awp_block ?_)
 obtain ⟨y3, q13, h14⟩ := bind_some h3
 refine awp_le (s' := ⟨26, [(0, sL 12 c_TInterface a0), (1, sL 12 c_TInterface a1), (12, .int .i64 (a0.length : Int)), (13, .int .i64 0)], []⟩) (le_rfl) ?_
 refine awp_mono (awp_loop (f := M.slices_Equal_api_Interface_api_Interface_l1 a0 a1) (S := fun (p1 : Int) => ⟨26, [(0, sL 12 c_TInterface a0), (1, sL 12 c_TInterface a1), (12, .int .i64 (a0.length : Int)), (13, .int .i64 p1)], []⟩) (O := (Sum.elim (fun z => OutE 0 (fun z => ⟨26, [], []⟩) z) (fun z => OutR Try.prog Try.f29 (.bool z)))) ?_ (x := 0) (y := y3) (loopM_iter q13)) ?_
 intro p1 y2 h4
 unfold M.slices_Equal_api_Interface_api_Interface_l1 at h4
 refine awp_seq (rg0 [0, 1, 12, 13, 14] 0 ⟨26, [(0, sL 12 c_TInterface a0), (1, sL 12 c_TInterface a1), (12, .int .i64 (a0.length : Int)), (13, .int .i64 p1), (14, .bool (decide (p1 < (a0.length : Int))))], []⟩ ?_)
 refine then_n (awp_seq ?_)
 refine cnd (decide (p1 < (a0.length : Int))) (fun b5 => ?_) (fun b5 => ?_)
 have h6 := cond_t b5 h4
 refine awp_skip (then_n (awp_seq (awp_block (awp_seq (rg0 [0, 1, 5, 12, 13] 0 ⟨26, [(0, sL 12 c_TInterface a0), (1, sL 12 c_TInterface a1), (5, .int .i64 p1), (12, .int .i64 (a0.length : Int)), (13, .int .i64 p1)], []⟩ ?_)))))
 refine then_n (awp_seq ?_)
 obtain ⟨c8, h9⟩ := gd_some h6
 refine rgc [0, 1, 12, 13, 24] 0 ⟨26, [(0, sL 12 c_TInterface a0), (1, sL 12 c_TInterface a1), (12, .int .i64 (a0.length : Int)), (13, .int .i64 p1), (24, .bool (!(strEq ((a0.getD p1.toNat default).fName) ((a1.getD p1.toNat default).fName) && ((((a0.getD p1.toNat default).fAddr) == ((a1.getD p1.toNat default).fAddr)) && ((((a0.getD p1.toNat default).fLen) == ((a1.getD p1.toNat default).fLen)) && ((((a0.getD p1.toNat default).fVLAN) == ((a1.getD p1.toNat default).fVLAN)) && ((((a0.getD p1.toNat default).fDown) == ((a1.getD p1.toNat default).fDown)) && ((((a0.getD p1.toNat default).fLS) == ((a1.getD p1.toNat default).fLS)) && ((((a0.getD p1.toNat default).fArea) == ((a1.getD p1.toNat default).fArea)) && ((((a0.getD p1.toNat default).fCost) == ((a1.getD p1.toNat default).fCost)) && ((((a0.getD p1.toNat default).fDV) == ((a1.getD p1.toNat default).fDV)) && (strEq ((a0.getD p1.toNat default).fIn) ((a1.getD p1.toNat default).fIn) && (strEq ((a0.getD p1.toNat default).fOut) ((a1.getD p1.toNat default).fOut) && ((((a0.getD p1.toNat default).fSide) == ((a1.getD p1.toNat default).fSide)) && true))))))))))))))], []⟩ [decide (0 ≤ p1), decide (p1 < (a0.length : Int)), decide (0 ≤ p1), decide (p1 < (a1.length : Int))] c8 ?_
 refine then_n ?_
 refine cnd (!(strEq ((a0.getD p1.toNat default).fName) ((a1.getD p1.toNat default).fName) && ((((a0.getD p1.toNat default).fAddr) == ((a1.getD p1.toNat default).fAddr)) && ((((a0.getD p1.toNat default).fLen) == ((a1.getD p1.toNat default).fLen)) && ((((a0.getD p1.toNat default).fVLAN) == ((a1.getD p1.toNat default).fVLAN)) && ((((a0.getD p1.toNat default).fDown) == ((a1.getD p1.toNat default).fDown)) && ((((a0.getD p1.toNat default).fLS) == ((a1.getD p1.toNat default).fLS)) && ((((a0.getD p1.toNat default).fArea) == ((a1.getD p1.toNat default).fArea)) && ((((a0.getD p1.toNat default).fCost) == ((a1.getD p1.toNat default).fCost)) && ((((a0.getD p1.toNat default).fDV) == ((a1.getD p1.toNat default).fDV)) && (strEq ((a0.getD p1.toNat default).fIn) ((a1.getD p1.toNat default).fIn) && (strEq ((a0.getD p1.toNat default).fOut) ((a1.getD p1.toNat default).fOut) && ((((a0.getD p1.toNat default).fSide) == ((a1.getD p1.toNat default).fSide)) && true))))))))))))) (fun b10 => ?_) (fun b10 => ?_)
 have h11 := cond_t b10 h9
 refine awp_seq (rg0 [4] 0 ⟨26, [(4, .bool false)], []⟩ ?_)
 refine then_n (awp_ret (inb_r (then_r ?_)))
 obtain rfl := Option.some.inj h11
 exact round_r ⟨rfl, er0 (.bool false)⟩
 have h12 := cond_f b10 h9
 refine awp_skip (inb_n (then_n (rg0 [0, 1, 12, 13] 0 ⟨26, [(0, sL 12 c_TInterface a0), (1, sL 12 c_TInterface a1), (12, .int .i64 (a0.length : Int)), (13, .int .i64 (wr .i64 (p1 + 1)))], []⟩ ?_)))
 obtain rfl := Option.some.inj h12
 exact round_n (le_rfl)
 have h7 := cond_f b5 h4
 refine awp_exit (then_e ?_)
 obtain rfl := Option.some.inj h7
 exact round_e ⟨rfl, kp []⟩
 intro e15 s16 o17
 rcases y3 with g4 | y5
 have h18 := elim_l h14
 obtain ⟨rfl, l20⟩ := o17
 refine inb_here ?_
 refine then_le (s' := ⟨26, [], []⟩) (l20) ?_
 refine awp_seq (rg0 [4] 0 ⟨26, [(4, .bool true)], []⟩ ?_)
 refine then_n (awp_ret ?_)
 obtain rfl := Option.some.inj h18
 exact er0 (.bool true)
 have h19 := elim_r h14
 obtain ⟨rfl, n21⟩ := o17
 refine inb_r (then_r ?_)
 obtain rfl := Option.some.inj h19
 exact n21

/- slices.Equal[[]netverify/api.PrefixRule,netverify/api.PrefixRule] -/
theorem slices_Equal_api_PrefixRule_api_PrefixRule_ok (a0 : List TPrefixRule) (a1 : List TPrefixRule) (r : Bool) (h : M.slices_Equal_api_PrefixRule_api_PrefixRule a0 a1 = some r) : Fn Try.prog 32 [sL 5 c_TPrefixRule a0, sL 5 c_TPrefixRule a1] (.pure (.bool r)) := by
 unfold M.slices_Equal_api_PrefixRule_api_PrefixRule at h
 refine fn_pure Try.func32 rfl (by kernel_rfl) ?_
 refine awp_seq (rg0 [0, 1] 0 ⟨26, [(0, sL 5 c_TPrefixRule a0), (1, sL 5 c_TPrefixRule a1)], []⟩ ?_)
 refine then_n (awp_seq (awp_seq (rg0 [0, 1, 10] 0 ⟨26, [(0, sL 5 c_TPrefixRule a0), (1, sL 5 c_TPrefixRule a1), (10, .bool ((a0.length : Int) != (a1.length : Int)))], []⟩ ?_)))
 refine then_n ?_
 refine cnd ((a0.length : Int) != (a1.length : Int)) (fun b1 => ?_) (fun b1 => ?_)
 have h2 := cond_t b1 h
 refine awp_seq (rg0 [4] 0 ⟨26, [(4, .bool false)], []⟩ ?_)
 refine then_n (awp_ret (then_r ?_))
 obtain rfl := Option.some.inj h2
 exact er0 (.bool false)
 have h3 := cond_f b1 h
 refine awp_skip (then_n (awp_seq (awp_seq (rg0 [0, 1, 12, 13] 0 ⟨26, [(0, sL 5 c_TPrefixRule a0), (1, sL 5 c_TPrefixRule a1), (12, .int .i64 (a0.length : Int)), (13, .int .i64 0)], []⟩ ?_))))
 refine then_n (awp_block ?_)
 obtain ⟨y3, q13, h14⟩ := bind_some h3
 refine awp_le (s' := ⟨26, [(0, sL 5 c_TPrefixRule a0), (1, sL 5 c_TPrefixRule a1), (12, .int .i64 (a0.length : Int)), (13, .int .i64 0)], []⟩) (le_rfl) ?_
 refine awp_mono (awp_loop (f := M.slices_Equal_api_PrefixRule_api_PrefixRule_l1 a0 a1) (S := fun (p1 : Int) => ⟨26, [(0, sL 5 c_TPrefixRule a0), (1, sL 5 c_TPrefixRule a1), (12, .int .i64 (a0.length : Int)), (13, .int .i64 p1)], []⟩) (O := (Sum.elim (fun z => OutE 0 (fun z => ⟨26, [], []⟩) z) (fun z => OutR Try.prog Try.f32 (.bool z)))) ?_ (x := 0) (y := y3) (loopM_iter q13)) ?_
 intro p1 y2 h4
 unfold M.slices_Equal_api_PrefixRule_api_PrefixRule_l1 at h4
 refine awp_seq (rg0 [0, 1, 12, 13, 14] 0 ⟨26, [(0, sL 5 c_TPrefixRule a0), (1, sL 5 c_TPrefixRule a1), (12, .int .i64 (a0.length : Int)), (13, .int .i64 p1), (14, .bool (decide (p1 < (a0.length : Int))))], []⟩ ?_)
 refine then_n (awp_seq ?_)
 refine cnd (decide (p1 < (a0.length : Int))) (fun b5 => ?_) (fun b5 => ?_)
 have h6 := cond_t b5 h4
 refine awp_skip (then_n (awp_seq (awp_block (awp_seq (rg0 [0, 1, 5, 12, 13] 0 ⟨26, [(0, sL 5 c_TPrefixRule a0), (1, sL 5 c_TPrefixRule a1), (5, .int .i64 p1), (12, .int .i64 (a0.length : Int)), (13, .int .i64 p1)], []⟩ ?_)))))
 refine then_n (awp_seq ?_)
 obtain ⟨c8, h9⟩ := gd_some h6
 refine rgc [0, 1, 12, 13, 24] 0 ⟨26, [(0, sL 5 c_TPrefixRule a0), (1, sL 5 c_TPrefixRule a1), (12, .int .i64 (a0.length : Int)), (13, .int .i64 p1), (24, .bool (!((((a0.getD p1.toNat default).fPermit) == ((a1.getD p1.toNat default).fPermit)) && ((((((a0.getD p1.toNat default).fPrefix).fAddr) == (((a1.getD p1.toNat default).fPrefix).fAddr)) && (((((a0.getD p1.toNat default).fPrefix).fLen) == (((a1.getD p1.toNat default).fPrefix).fLen)) && true)) && ((((a0.getD p1.toNat default).fMin) == ((a1.getD p1.toNat default).fMin)) && ((((a0.getD p1.toNat default).fMax) == ((a1.getD p1.toNat default).fMax)) && true))))))], []⟩ [decide (0 ≤ p1), decide (p1 < (a0.length : Int)), decide (0 ≤ p1), decide (p1 < (a1.length : Int))] c8 ?_
 refine then_n ?_
 refine cnd (!((((a0.getD p1.toNat default).fPermit) == ((a1.getD p1.toNat default).fPermit)) && ((((((a0.getD p1.toNat default).fPrefix).fAddr) == (((a1.getD p1.toNat default).fPrefix).fAddr)) && (((((a0.getD p1.toNat default).fPrefix).fLen) == (((a1.getD p1.toNat default).fPrefix).fLen)) && true)) && ((((a0.getD p1.toNat default).fMin) == ((a1.getD p1.toNat default).fMin)) && ((((a0.getD p1.toNat default).fMax) == ((a1.getD p1.toNat default).fMax)) && true))))) (fun b10 => ?_) (fun b10 => ?_)
 have h11 := cond_t b10 h9
 refine awp_seq (rg0 [4] 0 ⟨26, [(4, .bool false)], []⟩ ?_)
 refine then_n (awp_ret (inb_r (then_r ?_)))
 obtain rfl := Option.some.inj h11
 exact round_r ⟨rfl, er0 (.bool false)⟩
 have h12 := cond_f b10 h9
 refine awp_skip (inb_n (then_n (rg0 [0, 1, 12, 13] 0 ⟨26, [(0, sL 5 c_TPrefixRule a0), (1, sL 5 c_TPrefixRule a1), (12, .int .i64 (a0.length : Int)), (13, .int .i64 (wr .i64 (p1 + 1)))], []⟩ ?_)))
 obtain rfl := Option.some.inj h12
 exact round_n (le_rfl)
 have h7 := cond_f b5 h4
 refine awp_exit (then_e ?_)
 obtain rfl := Option.some.inj h7
 exact round_e ⟨rfl, kp []⟩
 intro e15 s16 o17
 rcases y3 with g4 | y5
 have h18 := elim_l h14
 obtain ⟨rfl, l20⟩ := o17
 refine inb_here ?_
 refine then_le (s' := ⟨26, [], []⟩) (l20) ?_
 refine awp_seq (rg0 [4] 0 ⟨26, [(4, .bool true)], []⟩ ?_)
 refine then_n (awp_ret ?_)
 obtain rfl := Option.some.inj h18
 exact er0 (.bool true)
 have h19 := elim_r h14
 obtain ⟨rfl, n21⟩ := o17
 refine inb_r (then_r ?_)
 obtain rfl := Option.some.inj h19
 exact n21

/- netverify/model.Same$1 -/
theorem model_Same_1_ok (a0 : TPrefixList) (a1 : TPrefixList) (r : Bool) (h : M.model_Same_1 a0 a1 = some r) : Fn Try.prog 31 [.agg (c_TPrefixList a0), .agg (c_TPrefixList a1)] (.pure (.bool r)) := by
 unfold M.model_Same_1 at h
 refine fn_pure Try.func31 rfl (by kernel_rfl) ?_
 refine awp_seq (rg0 [2, 3] 2 ⟨17, [(2, .ref 0 0), (3, .ref 1 0)], [.box (c_TPrefixList a0), .box (c_TPrefixList a1)]⟩ ?_)
 refine then_n (awp_seq ?_)
 obtain ⟨r1, q1, h2⟩ := bind_some h
 refine rg [.pure (.bool r1)] [4] 0 ⟨17, [(4, .bool ((strEq a0.fName a1.fName) && r1))], []⟩ [] [⟨strEq a0.fName a1.fName, 32, [sL 5 c_TPrefixRule a0.fRules, sL 5 c_TPrefixRule a1.fRules], .pure (.bool r1)⟩] nil_all ⟨fun hg => slices_Equal_api_PrefixRule_api_PrefixRule_ok a0.fRules a1.fRules r1 (gc_some q1 hg), trivial⟩ ?_
 refine then_n (awp_ret ?_)
 obtain rfl := Option.some.inj h2
 exact er0 (.bool ((strEq a0.fName a1.fName) && r1))

/- slices.EqualFunc[[]netverify/api.PrefixList,[]netverify/api.PrefixList,netverify/api.PrefixList,netverify/api.PrefixList] -/
theorem slices_EqualFunc_api_PrefixList_api_PrefixList_api_PrefixList_api_PrefixList__model_Same_1_ok (a0 : List TPrefixList) (a1 : List TPrefixList) (r : Bool) (h : M.slices_EqualFunc_api_PrefixList_api_PrefixList_api_PrefixList_api_PrefixList__model_Same_1 a0 a1 = some r) : Fn Try.prog 30 [sL 2 c_TPrefixList a0, sL 2 c_TPrefixList a1, .fn 31 []] (.pure (.bool r)) := by
 unfold M.slices_EqualFunc_api_PrefixList_api_PrefixList_api_PrefixList_api_PrefixList__model_Same_1 at h
 refine fn_pure Try.func30 rfl (by kernel_rfl) ?_
 refine awp_seq (rg0 [0, 1, 2] 0 ⟨32, [(0, sL 2 c_TPrefixList a0), (1, sL 2 c_TPrefixList a1), (2, .fn 31 [])], []⟩ ?_)
 refine then_n (awp_seq (awp_seq (rg0 [0, 1, 2, 14] 0 ⟨32, [(0, sL 2 c_TPrefixList a0), (1, sL 2 c_TPrefixList a1), (2, .fn 31 []), (14, .bool ((a0.length : Int) != (a1.length : Int)))], []⟩ ?_)))
 refine then_n ?_
 refine cnd ((a0.length : Int) != (a1.length : Int)) (fun b1 => ?_) (fun b1 => ?_)
 have h2 := cond_t b1 h
 refine awp_seq (rg0 [6] 0 ⟨32, [(6, .bool false)], []⟩ ?_)
 refine then_n (awp_ret (then_r ?_))
 obtain rfl := Option.some.inj h2
 exact er0 (.bool false)
 have h3 := cond_f b1 h
 refine awp_skip (then_n (awp_seq (awp_seq (rg0 [1, 2, 15, 16, 17] 0 ⟨32, [(1, sL 2 c_TPrefixList a1), (2, .fn 31 []), (15, sL 2 c_TPrefixList a0), (16, .int .i64 (a0.length : Int)), (17, .int .i64 0)], []⟩ ?_))))
 refine then_n (awp_block ?_)
 obtain ⟨y4, q17, h18⟩ := bind_some h3
 refine awp_le (s' := ⟨32, [(1, sL 2 c_TPrefixList a1), (2, .fn 31 []), (15, sL 2 c_TPrefixList a0), (16, .int .i64 (a0.length : Int)), (17, .int .i64 0)], []⟩) (le_rfl) ?_
 refine awp_mono (awp_loop (f := M.slices_EqualFunc_api_PrefixList_api_PrefixList_api_PrefixList_api_PrefixList__model_Same_1_l1 a0 a1) (S := fun (p1 : Int) => ⟨32, [(1, sL 2 c_TPrefixList a1), (2, .fn 31 []), (15, sL 2 c_TPrefixList a0), (16, .int .i64 (a0.length : Int)), (17, .int .i64 p1)], []⟩) (O := (Sum.elim (fun z => OutE 0 (fun z => ⟨32, [], []⟩) z) (fun z => OutR Try.prog Try.f30 (.bool z)))) ?_ (x := 0) (y := y4) (loopM_iter q17)) ?_
 intro p1 y2 h4
 unfold M.slices_EqualFunc_api_PrefixList_api_PrefixList_api_PrefixList_api_PrefixList__model_Same_1_l1 at h4
 refine awp_seq (rg0 [1, 2, 15, 16, 17, 18] 0 ⟨32, [(1, sL 2 c_TPrefixList a1), (2, .fn 31 []), (15, sL 2 c_TPrefixList a0), (16, .int .i64 (a0.length : Int)), (17, .int .i64 p1), (18, .bool (decide (p1 < (a0.length : Int))))], []⟩ ?_)
 refine then_n (awp_seq ?_)
 refine cnd (decide (p1 < (a0.length : Int))) (fun b5 => ?_) (fun b5 => ?_)
 have h6 := cond_t b5 h4
 refine awp_skip (then_n (awp_seq (awp_block (awp_seq ?_))))
 obtain ⟨c8, h9⟩ := gd_some h6
 refine rgc [1, 2, 7, 8, 15, 16, 17] 1 ⟨32, [(1, sL 2 c_TPrefixList a1), (2, .fn 31 []), (7, .int .i64 p1), (8, .ref 0 0), (15, sL 2 c_TPrefixList a0), (16, .int .i64 (a0.length : Int)), (17, .int .i64 p1)], [.box (c_TPrefixList (a0.getD p1.toNat default))]⟩ [decide (0 ≤ p1), decide (p1 < (a0.length : Int))] c8 ?_
 refine then_n (awp_seq ?_)
 obtain ⟨c10, h11⟩ := gd_some h9
 refine rgc [1, 2, 8, 9, 15, 16, 17] 2 ⟨32, [(1, sL 2 c_TPrefixList a1), (2, .fn 31 []), (8, .ref 0 0), (9, .ref 1 0), (15, sL 2 c_TPrefixList a0), (16, .int .i64 (a0.length : Int)), (17, .int .i64 p1)], [.box (c_TPrefixList (a0.getD p1.toNat default)), .box (c_TPrefixList (a1.getD p1.toNat default))]⟩ [decide (0 ≤ p1), decide (p1 < (a1.length : Int))] c10 ?_
 refine then_n (awp_seq ?_)
 obtain ⟨r3, q12, h13⟩ := bind_some h11
 refine rg [.pure (.bool r3)] [1, 2, 15, 16, 17, 30] 0 ⟨32, [(1, sL 2 c_TPrefixList a1), (2, .fn 31 []), (15, sL 2 c_TPrefixList a0), (16, .int .i64 (a0.length : Int)), (17, .int .i64 p1), (30, .bool (!r3))], []⟩ [] [⟨true, 31, [.agg (c_TPrefixList (a0.getD p1.toNat default)), .agg (c_TPrefixList (a1.getD p1.toNat default))], .pure (.bool r3)⟩] nil_all ⟨fun _ => model_Same_1_ok (a0.getD p1.toNat default) (a1.getD p1.toNat default) r3 q12, trivial⟩ ?_
 refine then_n ?_
 refine cnd (!r3) (fun b14 => ?_) (fun b14 => ?_)
 have h15 := cond_t b14 h13
 refine awp_seq (rg0 [6] 0 ⟨32, [(6, .bool false)], []⟩ ?_)
 refine then_n (awp_ret (inb_r (then_r ?_)))
 obtain rfl := Option.some.inj h15
 exact round_r ⟨rfl, er0 (.bool false)⟩
 have h16 := cond_f b14 h13
 refine awp_skip (inb_n (then_n (rg0 [1, 2, 15, 16, 17] 0 ⟨32, [(1, sL 2 c_TPrefixList a1), (2, .fn 31 []), (15, sL 2 c_TPrefixList a0), (16, .int .i64 (a0.length : Int)), (17, .int .i64 (wr .i64 (p1 + 1)))], []⟩ ?_)))
 obtain rfl := Option.some.inj h16
 exact round_n (le_rfl)
 have h7 := cond_f b5 h4
 refine awp_exit (then_e ?_)
 obtain rfl := Option.some.inj h7
 exact round_e ⟨rfl, kp []⟩
 intro e19 s20 o21
 rcases y4 with g5 | y6
 have h22 := elim_l h18
 obtain ⟨rfl, l24⟩ := o21
 refine inb_here ?_
 refine then_le (s' := ⟨32, [], []⟩) (l24) ?_
 refine awp_seq (rg0 [6] 0 ⟨32, [(6, .bool true)], []⟩ ?_)
 refine then_n (awp_ret ?_)
 obtain rfl := Option.some.inj h22
 exact er0 (.bool true)
 have h23 := elim_r h18
 obtain ⟨rfl, n25⟩ := o21
 refine inb_r (then_r ?_)
 obtain rfl := Option.some.inj h23
 exact n25

/- slices.Equal[[]netverify/api.Clause,netverify/api.Clause] -/
theorem slices_Equal_api_Clause_api_Clause_ok (a0 : List TClause) (a1 : List TClause) (r : Bool) (h : M.slices_Equal_api_Clause_api_Clause a0 a1 = some r) : Fn Try.prog 35 [sL 7 c_TClause a0, sL 7 c_TClause a1] (.pure (.bool r)) := by
 unfold M.slices_Equal_api_Clause_api_Clause at h
 refine fn_pure Try.func35 rfl (by kernel_rfl) ?_
 refine awp_seq (rg0 [0, 1] 0 ⟨26, [(0, sL 7 c_TClause a0), (1, sL 7 c_TClause a1)], []⟩ ?_)
 refine then_n (awp_seq (awp_seq (rg0 [0, 1, 10] 0 ⟨26, [(0, sL 7 c_TClause a0), (1, sL 7 c_TClause a1), (10, .bool ((a0.length : Int) != (a1.length : Int)))], []⟩ ?_)))
 refine then_n ?_
 refine cnd ((a0.length : Int) != (a1.length : Int)) (fun b1 => ?_) (fun b1 => ?_)
 have h2 := cond_t b1 h
 refine awp_seq (rg0 [4] 0 ⟨26, [(4, .bool false)], []⟩ ?_)
 refine then_n (awp_ret (then_r ?_))
 obtain rfl := Option.some.inj h2
 exact er0 (.bool false)
 have h3 := cond_f b1 h
 refine awp_skip (then_n (awp_seq (awp_seq (rg0 [0, 1, 12, 13] 0 ⟨26, [(0, sL 7 c_TClause a0), (1, sL 7 c_TClause a1), (12, .int .i64 (a0.length : Int)), (13, .int .i64 0)], []⟩ ?_))))
 refine then_n (awp_block ?_)
 obtain ⟨y3, q13, h14⟩ := bind_some h3
 refine awp_le (s' := ⟨26, [(0, sL 7 c_TClause a0), (1, sL 7 c_TClause a1), (12, .int .i64 (a0.length : Int)), (13, .int .i64 0)], []⟩) (le_rfl) ?_
 refine awp_mono (awp_loop (f := M.slices_Equal_api_Clause_api_Clause_l1 a0 a1) (S := fun (p1 : Int) => ⟨26, [(0, sL 7 c_TClause a0), (1, sL 7 c_TClause a1), (12, .int .i64 (a0.length : Int)), (13, .int .i64 p1)], []⟩) (O := (Sum.elim (fun z => OutE 0 (fun z => ⟨26, [], []⟩) z) (fun z => OutR Try.prog Try.f35 (.bool z)))) ?_ (x := 0) (y := y3) (loopM_iter q13)) ?_
 intro p1 y2 h4
 unfold M.slices_Equal_api_Clause_api_Clause_l1 at h4
 refine awp_seq (rg0 [0, 1, 12, 13, 14] 0 ⟨26, [(0, sL 7 c_TClause a0), (1, sL 7 c_TClause a1), (12, .int .i64 (a0.length : Int)), (13, .int .i64 p1), (14, .bool (decide (p1 < (a0.length : Int))))], []⟩ ?_)
 refine then_n (awp_seq ?_)
 refine cnd (decide (p1 < (a0.length : Int))) (fun b5 => ?_) (fun b5 => ?_)
 have h6 := cond_t b5 h4
 refine awp_skip (then_n (awp_seq (awp_block (awp_seq (rg0 [0, 1, 5, 12, 13] 0 ⟨26, [(0, sL 7 c_TClause a0), (1, sL 7 c_TClause a1), (5, .int .i64 p1), (12, .int .i64 (a0.length : Int)), (13, .int .i64 p1)], []⟩ ?_)))))
 refine then_n (awp_seq ?_)
 obtain ⟨c8, h9⟩ := gd_some h6
 refine rgc [0, 1, 12, 13, 24] 0 ⟨26, [(0, sL 7 c_TClause a0), (1, sL 7 c_TClause a1), (12, .int .i64 (a0.length : Int)), (13, .int .i64 p1), (24, .bool (!((((a0.getD p1.toNat default).fPermit) == ((a1.getD p1.toNat default).fPermit)) && (strEq ((a0.getD p1.toNat default).fList) ((a1.getD p1.toNat default).fList) && ((((a0.getD p1.toNat default).fTag) == ((a1.getD p1.toNat default).fTag)) && ((((a0.getD p1.toNat default).fSetMetric) == ((a1.getD p1.toNat default).fSetMetric)) && ((((a0.getD p1.toNat default).fSetTag) == ((a1.getD p1.toNat default).fSetTag)) && ((((a0.getD p1.toNat default).fSetPref) == ((a1.getD p1.toNat default).fSetPref)) && ((((a0.getD p1.toNat default).fPrepend) == ((a1.getD p1.toNat default).fPrepend)) && true)))))))))], []⟩ [decide (0 ≤ p1), decide (p1 < (a0.length : Int)), decide (0 ≤ p1), decide (p1 < (a1.length : Int))] c8 ?_
 refine then_n ?_
 refine cnd (!((((a0.getD p1.toNat default).fPermit) == ((a1.getD p1.toNat default).fPermit)) && (strEq ((a0.getD p1.toNat default).fList) ((a1.getD p1.toNat default).fList) && ((((a0.getD p1.toNat default).fTag) == ((a1.getD p1.toNat default).fTag)) && ((((a0.getD p1.toNat default).fSetMetric) == ((a1.getD p1.toNat default).fSetMetric)) && ((((a0.getD p1.toNat default).fSetTag) == ((a1.getD p1.toNat default).fSetTag)) && ((((a0.getD p1.toNat default).fSetPref) == ((a1.getD p1.toNat default).fSetPref)) && ((((a0.getD p1.toNat default).fPrepend) == ((a1.getD p1.toNat default).fPrepend)) && true)))))))) (fun b10 => ?_) (fun b10 => ?_)
 have h11 := cond_t b10 h9
 refine awp_seq (rg0 [4] 0 ⟨26, [(4, .bool false)], []⟩ ?_)
 refine then_n (awp_ret (inb_r (then_r ?_)))
 obtain rfl := Option.some.inj h11
 exact round_r ⟨rfl, er0 (.bool false)⟩
 have h12 := cond_f b10 h9
 refine awp_skip (inb_n (then_n (rg0 [0, 1, 12, 13] 0 ⟨26, [(0, sL 7 c_TClause a0), (1, sL 7 c_TClause a1), (12, .int .i64 (a0.length : Int)), (13, .int .i64 (wr .i64 (p1 + 1)))], []⟩ ?_)))
 obtain rfl := Option.some.inj h12
 exact round_n (le_rfl)
 have h7 := cond_f b5 h4
 refine awp_exit (then_e ?_)
 obtain rfl := Option.some.inj h7
 exact round_e ⟨rfl, kp []⟩
 intro e15 s16 o17
 rcases y3 with g4 | y5
 have h18 := elim_l h14
 obtain ⟨rfl, l20⟩ := o17
 refine inb_here ?_
 refine then_le (s' := ⟨26, [], []⟩) (l20) ?_
 refine awp_seq (rg0 [4] 0 ⟨26, [(4, .bool true)], []⟩ ?_)
 refine then_n (awp_ret ?_)
 obtain rfl := Option.some.inj h18
 exact er0 (.bool true)
 have h19 := elim_r h14
 obtain ⟨rfl, n21⟩ := o17
 refine inb_r (then_r ?_)
 obtain rfl := Option.some.inj h19
 exact n21

/- netverify/model.Same$2 -/
theorem model_Same_2_ok (a0 : TRouteMap) (a1 : TRouteMap) (r : Bool) (h : M.model_Same_2 a0 a1 = some r) : Fn Try.prog 34 [.agg (c_TRouteMap a0), .agg (c_TRouteMap a1)] (.pure (.bool r)) := by
 unfold M.model_Same_2 at h
 refine fn_pure Try.func34 rfl (by kernel_rfl) ?_
 refine awp_seq (rg0 [2, 3] 2 ⟨17, [(2, .ref 0 0), (3, .ref 1 0)], [.box (c_TRouteMap a0), .box (c_TRouteMap a1)]⟩ ?_)
 refine then_n (awp_seq ?_)
 obtain ⟨r1, q1, h2⟩ := bind_some h
 refine rg [.pure (.bool r1)] [4] 0 ⟨17, [(4, .bool ((strEq a0.fName a1.fName) && r1))], []⟩ [] [⟨strEq a0.fName a1.fName, 35, [sL 7 c_TClause a0.fClauses, sL 7 c_TClause a1.fClauses], .pure (.bool r1)⟩] nil_all ⟨fun hg => slices_Equal_api_Clause_api_Clause_ok a0.fClauses a1.fClauses r1 (gc_some q1 hg), trivial⟩ ?_
 refine then_n (awp_ret ?_)
 obtain rfl := Option.some.inj h2
 exact er0 (.bool ((strEq a0.fName a1.fName) && r1))

/- slices.EqualFunc[[]netverify/api.RouteMap,[]netverify/api.RouteMap,netverify/api.RouteMap,netverify/api.RouteMap] -/
theorem slices_EqualFunc_api_RouteMap_api_RouteMap_api_RouteMap_api_RouteMap__model_Same_2_ok (a0 : List TRouteMap) (a1 : List TRouteMap) (r : Bool) (h : M.slices_EqualFunc_api_RouteMap_api_RouteMap_api_RouteMap_api_RouteMap__model_Same_2 a0 a1 = some r) : Fn Try.prog 33 [sL 2 c_TRouteMap a0, sL 2 c_TRouteMap a1, .fn 34 []] (.pure (.bool r)) := by
 unfold M.slices_EqualFunc_api_RouteMap_api_RouteMap_api_RouteMap_api_RouteMap__model_Same_2 at h
 refine fn_pure Try.func33 rfl (by kernel_rfl) ?_
 refine awp_seq (rg0 [0, 1, 2] 0 ⟨32, [(0, sL 2 c_TRouteMap a0), (1, sL 2 c_TRouteMap a1), (2, .fn 34 [])], []⟩ ?_)
 refine then_n (awp_seq (awp_seq (rg0 [0, 1, 2, 14] 0 ⟨32, [(0, sL 2 c_TRouteMap a0), (1, sL 2 c_TRouteMap a1), (2, .fn 34 []), (14, .bool ((a0.length : Int) != (a1.length : Int)))], []⟩ ?_)))
 refine then_n ?_
 refine cnd ((a0.length : Int) != (a1.length : Int)) (fun b1 => ?_) (fun b1 => ?_)
 have h2 := cond_t b1 h
 refine awp_seq (rg0 [6] 0 ⟨32, [(6, .bool false)], []⟩ ?_)
 refine then_n (awp_ret (then_r ?_))
 obtain rfl := Option.some.inj h2
 exact er0 (.bool false)
 have h3 := cond_f b1 h
 refine awp_skip (then_n (awp_seq (awp_seq (rg0 [1, 2, 15, 16, 17] 0 ⟨32, [(1, sL 2 c_TRouteMap a1), (2, .fn 34 []), (15, sL 2 c_TRouteMap a0), (16, .int .i64 (a0.length : Int)), (17, .int .i64 0)], []⟩ ?_))))
 refine then_n (awp_block ?_)
 obtain ⟨y4, q17, h18⟩ := bind_some h3
 refine awp_le (s' := ⟨32, [(1, sL 2 c_TRouteMap a1), (2, .fn 34 []), (15, sL 2 c_TRouteMap a0), (16, .int .i64 (a0.length : Int)), (17, .int .i64 0)], []⟩) (le_rfl) ?_
 refine awp_mono (awp_loop (f := M.slices_EqualFunc_api_RouteMap_api_RouteMap_api_RouteMap_api_RouteMap__model_Same_2_l1 a0 a1) (S := fun (p1 : Int) => ⟨32, [(1, sL 2 c_TRouteMap a1), (2, .fn 34 []), (15, sL 2 c_TRouteMap a0), (16, .int .i64 (a0.length : Int)), (17, .int .i64 p1)], []⟩) (O := (Sum.elim (fun z => OutE 0 (fun z => ⟨32, [], []⟩) z) (fun z => OutR Try.prog Try.f33 (.bool z)))) ?_ (x := 0) (y := y4) (loopM_iter q17)) ?_
 intro p1 y2 h4
 unfold M.slices_EqualFunc_api_RouteMap_api_RouteMap_api_RouteMap_api_RouteMap__model_Same_2_l1 at h4
 refine awp_seq (rg0 [1, 2, 15, 16, 17, 18] 0 ⟨32, [(1, sL 2 c_TRouteMap a1), (2, .fn 34 []), (15, sL 2 c_TRouteMap a0), (16, .int .i64 (a0.length : Int)), (17, .int .i64 p1), (18, .bool (decide (p1 < (a0.length : Int))))], []⟩ ?_)
 refine then_n (awp_seq ?_)
 refine cnd (decide (p1 < (a0.length : Int))) (fun b5 => ?_) (fun b5 => ?_)
 have h6 := cond_t b5 h4
 refine awp_skip (then_n (awp_seq (awp_block (awp_seq ?_))))
 obtain ⟨c8, h9⟩ := gd_some h6
 refine rgc [1, 2, 7, 8, 15, 16, 17] 1 ⟨32, [(1, sL 2 c_TRouteMap a1), (2, .fn 34 []), (7, .int .i64 p1), (8, .ref 0 0), (15, sL 2 c_TRouteMap a0), (16, .int .i64 (a0.length : Int)), (17, .int .i64 p1)], [.box (c_TRouteMap (a0.getD p1.toNat default))]⟩ [decide (0 ≤ p1), decide (p1 < (a0.length : Int))] c8 ?_
 refine then_n (awp_seq ?_)
 obtain ⟨c10, h11⟩ := gd_some h9
 refine rgc [1, 2, 8, 9, 15, 16, 17] 2 ⟨32, [(1, sL 2 c_TRouteMap a1), (2, .fn 34 []), (8, .ref 0 0), (9, .ref 1 0), (15, sL 2 c_TRouteMap a0), (16, .int .i64 (a0.length : Int)), (17, .int .i64 p1)], [.box (c_TRouteMap (a0.getD p1.toNat default)), .box (c_TRouteMap (a1.getD p1.toNat default))]⟩ [decide (0 ≤ p1), decide (p1 < (a1.length : Int))] c10 ?_
 refine then_n (awp_seq ?_)
 obtain ⟨r3, q12, h13⟩ := bind_some h11
 refine rg [.pure (.bool r3)] [1, 2, 15, 16, 17, 30] 0 ⟨32, [(1, sL 2 c_TRouteMap a1), (2, .fn 34 []), (15, sL 2 c_TRouteMap a0), (16, .int .i64 (a0.length : Int)), (17, .int .i64 p1), (30, .bool (!r3))], []⟩ [] [⟨true, 34, [.agg (c_TRouteMap (a0.getD p1.toNat default)), .agg (c_TRouteMap (a1.getD p1.toNat default))], .pure (.bool r3)⟩] nil_all ⟨fun _ => model_Same_2_ok (a0.getD p1.toNat default) (a1.getD p1.toNat default) r3 q12, trivial⟩ ?_
 refine then_n ?_
 refine cnd (!r3) (fun b14 => ?_) (fun b14 => ?_)
 have h15 := cond_t b14 h13
 refine awp_seq (rg0 [6] 0 ⟨32, [(6, .bool false)], []⟩ ?_)
 refine then_n (awp_ret (inb_r (then_r ?_)))
 obtain rfl := Option.some.inj h15
 exact round_r ⟨rfl, er0 (.bool false)⟩
 have h16 := cond_f b14 h13
 refine awp_skip (inb_n (then_n (rg0 [1, 2, 15, 16, 17] 0 ⟨32, [(1, sL 2 c_TRouteMap a1), (2, .fn 34 []), (15, sL 2 c_TRouteMap a0), (16, .int .i64 (a0.length : Int)), (17, .int .i64 (wr .i64 (p1 + 1)))], []⟩ ?_)))
 obtain rfl := Option.some.inj h16
 exact round_n (le_rfl)
 have h7 := cond_f b5 h4
 refine awp_exit (then_e ?_)
 obtain rfl := Option.some.inj h7
 exact round_e ⟨rfl, kp []⟩
 intro e19 s20 o21
 rcases y4 with g5 | y6
 have h22 := elim_l h18
 obtain ⟨rfl, l24⟩ := o21
 refine inb_here ?_
 refine then_le (s' := ⟨32, [], []⟩) (l24) ?_
 refine awp_seq (rg0 [6] 0 ⟨32, [(6, .bool true)], []⟩ ?_)
 refine then_n (awp_ret ?_)
 obtain rfl := Option.some.inj h22
 exact er0 (.bool true)
 have h23 := elim_r h18
 obtain ⟨rfl, n25⟩ := o21
 refine inb_r (then_r ?_)
 obtain rfl := Option.some.inj h23
 exact n25

/- slices.Equal[[]netverify/api.Rule,netverify/api.Rule] -/
theorem slices_Equal_api_Rule_api_Rule_ok (a0 : List TRule) (a1 : List TRule) (r : Bool) (h : M.slices_Equal_api_Rule_api_Rule a0 a1 = some r) : Fn Try.prog 38 [sL 10 c_TRule a0, sL 10 c_TRule a1] (.pure (.bool r)) := by
 unfold M.slices_Equal_api_Rule_api_Rule at h
 refine fn_pure Try.func38 rfl (by kernel_rfl) ?_
 refine awp_seq (rg0 [0, 1] 0 ⟨26, [(0, sL 10 c_TRule a0), (1, sL 10 c_TRule a1)], []⟩ ?_)
 refine then_n (awp_seq (awp_seq (rg0 [0, 1, 10] 0 ⟨26, [(0, sL 10 c_TRule a0), (1, sL 10 c_TRule a1), (10, .bool ((a0.length : Int) != (a1.length : Int)))], []⟩ ?_)))
 refine then_n ?_
 refine cnd ((a0.length : Int) != (a1.length : Int)) (fun b1 => ?_) (fun b1 => ?_)
 have h2 := cond_t b1 h
 refine awp_seq (rg0 [4] 0 ⟨26, [(4, .bool false)], []⟩ ?_)
 refine then_n (awp_ret (then_r ?_))
 obtain rfl := Option.some.inj h2
 exact er0 (.bool false)
 have h3 := cond_f b1 h
 refine awp_skip (then_n (awp_seq (awp_seq (rg0 [0, 1, 12, 13] 0 ⟨26, [(0, sL 10 c_TRule a0), (1, sL 10 c_TRule a1), (12, .int .i64 (a0.length : Int)), (13, .int .i64 0)], []⟩ ?_))))
 refine then_n (awp_block ?_)
 obtain ⟨y3, q13, h14⟩ := bind_some h3
 refine awp_le (s' := ⟨26, [(0, sL 10 c_TRule a0), (1, sL 10 c_TRule a1), (12, .int .i64 (a0.length : Int)), (13, .int .i64 0)], []⟩) (le_rfl) ?_
 refine awp_mono (awp_loop (f := M.slices_Equal_api_Rule_api_Rule_l1 a0 a1) (S := fun (p1 : Int) => ⟨26, [(0, sL 10 c_TRule a0), (1, sL 10 c_TRule a1), (12, .int .i64 (a0.length : Int)), (13, .int .i64 p1)], []⟩) (O := (Sum.elim (fun z => OutE 0 (fun z => ⟨26, [], []⟩) z) (fun z => OutR Try.prog Try.f38 (.bool z)))) ?_ (x := 0) (y := y3) (loopM_iter q13)) ?_
 intro p1 y2 h4
 unfold M.slices_Equal_api_Rule_api_Rule_l1 at h4
 refine awp_seq (rg0 [0, 1, 12, 13, 14] 0 ⟨26, [(0, sL 10 c_TRule a0), (1, sL 10 c_TRule a1), (12, .int .i64 (a0.length : Int)), (13, .int .i64 p1), (14, .bool (decide (p1 < (a0.length : Int))))], []⟩ ?_)
 refine then_n (awp_seq ?_)
 refine cnd (decide (p1 < (a0.length : Int))) (fun b5 => ?_) (fun b5 => ?_)
 have h6 := cond_t b5 h4
 refine awp_skip (then_n (awp_seq (awp_block (awp_seq (rg0 [0, 1, 5, 12, 13] 0 ⟨26, [(0, sL 10 c_TRule a0), (1, sL 10 c_TRule a1), (5, .int .i64 p1), (12, .int .i64 (a0.length : Int)), (13, .int .i64 p1)], []⟩ ?_)))))
 refine then_n (awp_seq ?_)
 obtain ⟨c8, h9⟩ := gd_some h6
 refine rgc [0, 1, 12, 13, 24] 0 ⟨26, [(0, sL 10 c_TRule a0), (1, sL 10 c_TRule a1), (12, .int .i64 (a0.length : Int)), (13, .int .i64 p1), (24, .bool (!((((a0.getD p1.toNat default).fPermit) == ((a1.getD p1.toNat default).fPermit)) && ((((a0.getD p1.toNat default).fProto) == ((a1.getD p1.toNat default).fProto)) && ((((((a0.getD p1.toNat default).fSrc).fAddr) == (((a1.getD p1.toNat default).fSrc).fAddr)) && (((((a0.getD p1.toNat default).fSrc).fMask) == (((a1.getD p1.toNat default).fSrc).fMask)) && true)) && ((((((a0.getD p1.toNat default).fDst).fAddr) == (((a1.getD p1.toNat default).fDst).fAddr)) && (((((a0.getD p1.toNat default).fDst).fMask) == (((a1.getD p1.toNat default).fDst).fMask)) && true)) && ((((((a0.getD p1.toNat default).fSrcPorts).fLo) == (((a1.getD p1.toNat default).fSrcPorts).fLo)) && (((((a0.getD p1.toNat default).fSrcPorts).fHi) == (((a1.getD p1.toNat default).fSrcPorts).fHi)) && true)) && ((((((a0.getD p1.toNat default).fDstPorts).fLo) == (((a1.getD p1.toNat default).fDstPorts).fLo)) && (((((a0.getD p1.toNat default).fDstPorts).fHi) == (((a1.getD p1.toNat default).fDstPorts).fHi)) && true)) && true))))))))], []⟩ [decide (0 ≤ p1), decide (p1 < (a0.length : Int)), decide (0 ≤ p1), decide (p1 < (a1.length : Int))] c8 ?_
 refine then_n ?_
 refine cnd (!((((a0.getD p1.toNat default).fPermit) == ((a1.getD p1.toNat default).fPermit)) && ((((a0.getD p1.toNat default).fProto) == ((a1.getD p1.toNat default).fProto)) && ((((((a0.getD p1.toNat default).fSrc).fAddr) == (((a1.getD p1.toNat default).fSrc).fAddr)) && (((((a0.getD p1.toNat default).fSrc).fMask) == (((a1.getD p1.toNat default).fSrc).fMask)) && true)) && ((((((a0.getD p1.toNat default).fDst).fAddr) == (((a1.getD p1.toNat default).fDst).fAddr)) && (((((a0.getD p1.toNat default).fDst).fMask) == (((a1.getD p1.toNat default).fDst).fMask)) && true)) && ((((((a0.getD p1.toNat default).fSrcPorts).fLo) == (((a1.getD p1.toNat default).fSrcPorts).fLo)) && (((((a0.getD p1.toNat default).fSrcPorts).fHi) == (((a1.getD p1.toNat default).fSrcPorts).fHi)) && true)) && ((((((a0.getD p1.toNat default).fDstPorts).fLo) == (((a1.getD p1.toNat default).fDstPorts).fLo)) && (((((a0.getD p1.toNat default).fDstPorts).fHi) == (((a1.getD p1.toNat default).fDstPorts).fHi)) && true)) && true))))))) (fun b10 => ?_) (fun b10 => ?_)
 have h11 := cond_t b10 h9
 refine awp_seq (rg0 [4] 0 ⟨26, [(4, .bool false)], []⟩ ?_)
 refine then_n (awp_ret (inb_r (then_r ?_)))
 obtain rfl := Option.some.inj h11
 exact round_r ⟨rfl, er0 (.bool false)⟩
 have h12 := cond_f b10 h9
 refine awp_skip (inb_n (then_n (rg0 [0, 1, 12, 13] 0 ⟨26, [(0, sL 10 c_TRule a0), (1, sL 10 c_TRule a1), (12, .int .i64 (a0.length : Int)), (13, .int .i64 (wr .i64 (p1 + 1)))], []⟩ ?_)))
 obtain rfl := Option.some.inj h12
 exact round_n (le_rfl)
 have h7 := cond_f b5 h4
 refine awp_exit (then_e ?_)
 obtain rfl := Option.some.inj h7
 exact round_e ⟨rfl, kp []⟩
 intro e15 s16 o17
 rcases y3 with g4 | y5
 have h18 := elim_l h14
 obtain ⟨rfl, l20⟩ := o17
 refine inb_here ?_
 refine then_le (s' := ⟨26, [], []⟩) (l20) ?_
 refine awp_seq (rg0 [4] 0 ⟨26, [(4, .bool true)], []⟩ ?_)
 refine then_n (awp_ret ?_)
 obtain rfl := Option.some.inj h18
 exact er0 (.bool true)
 have h19 := elim_r h14
 obtain ⟨rfl, n21⟩ := o17
 refine inb_r (then_r ?_)
 obtain rfl := Option.some.inj h19
 exact n21

/- netverify/model.Same$3 -/
theorem model_Same_3_ok (a0 : TACL) (a1 : TACL) (r : Bool) (h : M.model_Same_3 a0 a1 = some r) : Fn Try.prog 37 [.agg (c_TACL a0), .agg (c_TACL a1)] (.pure (.bool r)) := by
 unfold M.model_Same_3 at h
 refine fn_pure Try.func37 rfl (by kernel_rfl) ?_
 refine awp_seq (rg0 [2, 3] 2 ⟨17, [(2, .ref 0 0), (3, .ref 1 0)], [.box (c_TACL a0), .box (c_TACL a1)]⟩ ?_)
 refine then_n (awp_seq ?_)
 obtain ⟨r1, q1, h2⟩ := bind_some h
 refine rg [.pure (.bool r1)] [4] 0 ⟨17, [(4, .bool ((strEq a0.fName a1.fName) && r1))], []⟩ [] [⟨strEq a0.fName a1.fName, 38, [sL 10 c_TRule a0.fRules, sL 10 c_TRule a1.fRules], .pure (.bool r1)⟩] nil_all ⟨fun hg => slices_Equal_api_Rule_api_Rule_ok a0.fRules a1.fRules r1 (gc_some q1 hg), trivial⟩ ?_
 refine then_n (awp_ret ?_)
 obtain rfl := Option.some.inj h2
 exact er0 (.bool ((strEq a0.fName a1.fName) && r1))

/- slices.EqualFunc[[]netverify/api.ACL,[]netverify/api.ACL,netverify/api.ACL,netverify/api.ACL] -/
theorem slices_EqualFunc_api_ACL_api_ACL_api_ACL_api_ACL__model_Same_3_ok (a0 : List TACL) (a1 : List TACL) (r : Bool) (h : M.slices_EqualFunc_api_ACL_api_ACL_api_ACL_api_ACL__model_Same_3 a0 a1 = some r) : Fn Try.prog 36 [sL 2 c_TACL a0, sL 2 c_TACL a1, .fn 37 []] (.pure (.bool r)) := by
 unfold M.slices_EqualFunc_api_ACL_api_ACL_api_ACL_api_ACL__model_Same_3 at h
 refine fn_pure Try.func36 rfl (by kernel_rfl) ?_
 refine awp_seq (rg0 [0, 1, 2] 0 ⟨32, [(0, sL 2 c_TACL a0), (1, sL 2 c_TACL a1), (2, .fn 37 [])], []⟩ ?_)
 refine then_n (awp_seq (awp_seq (rg0 [0, 1, 2, 14] 0 ⟨32, [(0, sL 2 c_TACL a0), (1, sL 2 c_TACL a1), (2, .fn 37 []), (14, .bool ((a0.length : Int) != (a1.length : Int)))], []⟩ ?_)))
 refine then_n ?_
 refine cnd ((a0.length : Int) != (a1.length : Int)) (fun b1 => ?_) (fun b1 => ?_)
 have h2 := cond_t b1 h
 refine awp_seq (rg0 [6] 0 ⟨32, [(6, .bool false)], []⟩ ?_)
 refine then_n (awp_ret (then_r ?_))
 obtain rfl := Option.some.inj h2
 exact er0 (.bool false)
 have h3 := cond_f b1 h
 refine awp_skip (then_n (awp_seq (awp_seq (rg0 [1, 2, 15, 16, 17] 0 ⟨32, [(1, sL 2 c_TACL a1), (2, .fn 37 []), (15, sL 2 c_TACL a0), (16, .int .i64 (a0.length : Int)), (17, .int .i64 0)], []⟩ ?_))))
 refine then_n (awp_block ?_)
 obtain ⟨y4, q17, h18⟩ := bind_some h3
 refine awp_le (s' := ⟨32, [(1, sL 2 c_TACL a1), (2, .fn 37 []), (15, sL 2 c_TACL a0), (16, .int .i64 (a0.length : Int)), (17, .int .i64 0)], []⟩) (le_rfl) ?_
 refine awp_mono (awp_loop (f := M.slices_EqualFunc_api_ACL_api_ACL_api_ACL_api_ACL__model_Same_3_l1 a0 a1) (S := fun (p1 : Int) => ⟨32, [(1, sL 2 c_TACL a1), (2, .fn 37 []), (15, sL 2 c_TACL a0), (16, .int .i64 (a0.length : Int)), (17, .int .i64 p1)], []⟩) (O := (Sum.elim (fun z => OutE 0 (fun z => ⟨32, [], []⟩) z) (fun z => OutR Try.prog Try.f36 (.bool z)))) ?_ (x := 0) (y := y4) (loopM_iter q17)) ?_
 intro p1 y2 h4
 unfold M.slices_EqualFunc_api_ACL_api_ACL_api_ACL_api_ACL__model_Same_3_l1 at h4
 refine awp_seq (rg0 [1, 2, 15, 16, 17, 18] 0 ⟨32, [(1, sL 2 c_TACL a1), (2, .fn 37 []), (15, sL 2 c_TACL a0), (16, .int .i64 (a0.length : Int)), (17, .int .i64 p1), (18, .bool (decide (p1 < (a0.length : Int))))], []⟩ ?_)
 refine then_n (awp_seq ?_)
 refine cnd (decide (p1 < (a0.length : Int))) (fun b5 => ?_) (fun b5 => ?_)
 have h6 := cond_t b5 h4
 refine awp_skip (then_n (awp_seq (awp_block (awp_seq ?_))))
 obtain ⟨c8, h9⟩ := gd_some h6
 refine rgc [1, 2, 7, 8, 15, 16, 17] 1 ⟨32, [(1, sL 2 c_TACL a1), (2, .fn 37 []), (7, .int .i64 p1), (8, .ref 0 0), (15, sL 2 c_TACL a0), (16, .int .i64 (a0.length : Int)), (17, .int .i64 p1)], [.box (c_TACL (a0.getD p1.toNat default))]⟩ [decide (0 ≤ p1), decide (p1 < (a0.length : Int))] c8 ?_
 refine then_n (awp_seq ?_)
 obtain ⟨c10, h11⟩ := gd_some h9
 refine rgc [1, 2, 8, 9, 15, 16, 17] 2 ⟨32, [(1, sL 2 c_TACL a1), (2, .fn 37 []), (8, .ref 0 0), (9, .ref 1 0), (15, sL 2 c_TACL a0), (16, .int .i64 (a0.length : Int)), (17, .int .i64 p1)], [.box (c_TACL (a0.getD p1.toNat default)), .box (c_TACL (a1.getD p1.toNat default))]⟩ [decide (0 ≤ p1), decide (p1 < (a1.length : Int))] c10 ?_
 refine then_n (awp_seq ?_)
 obtain ⟨r3, q12, h13⟩ := bind_some h11
 refine rg [.pure (.bool r3)] [1, 2, 15, 16, 17, 30] 0 ⟨32, [(1, sL 2 c_TACL a1), (2, .fn 37 []), (15, sL 2 c_TACL a0), (16, .int .i64 (a0.length : Int)), (17, .int .i64 p1), (30, .bool (!r3))], []⟩ [] [⟨true, 37, [.agg (c_TACL (a0.getD p1.toNat default)), .agg (c_TACL (a1.getD p1.toNat default))], .pure (.bool r3)⟩] nil_all ⟨fun _ => model_Same_3_ok (a0.getD p1.toNat default) (a1.getD p1.toNat default) r3 q12, trivial⟩ ?_
 refine then_n ?_
 refine cnd (!r3) (fun b14 => ?_) (fun b14 => ?_)
 have h15 := cond_t b14 h13
 refine awp_seq (rg0 [6] 0 ⟨32, [(6, .bool false)], []⟩ ?_)
 refine then_n (awp_ret (inb_r (then_r ?_)))
 obtain rfl := Option.some.inj h15
 exact round_r ⟨rfl, er0 (.bool false)⟩
 have h16 := cond_f b14 h13
 refine awp_skip (inb_n (then_n (rg0 [1, 2, 15, 16, 17] 0 ⟨32, [(1, sL 2 c_TACL a1), (2, .fn 37 []), (15, sL 2 c_TACL a0), (16, .int .i64 (a0.length : Int)), (17, .int .i64 (wr .i64 (p1 + 1)))], []⟩ ?_)))
 obtain rfl := Option.some.inj h16
 exact round_n (le_rfl)
 have h7 := cond_f b5 h4
 refine awp_exit (then_e ?_)
 obtain rfl := Option.some.inj h7
 exact round_e ⟨rfl, kp []⟩
 intro e19 s20 o21
 rcases y4 with g5 | y6
 have h22 := elim_l h18
 obtain ⟨rfl, l24⟩ := o21
 refine inb_here ?_
 refine then_le (s' := ⟨32, [], []⟩) (l24) ?_
 refine awp_seq (rg0 [6] 0 ⟨32, [(6, .bool true)], []⟩ ?_)
 refine then_n (awp_ret ?_)
 obtain rfl := Option.some.inj h22
 exact er0 (.bool true)
 have h23 := elim_r h18
 obtain ⟨rfl, n25⟩ := o21
 refine inb_r (then_r ?_)
 obtain rfl := Option.some.inj h23
 exact n25

/- slices.Equal[[]netverify/api.Translation,netverify/api.Translation] -/
theorem slices_Equal_api_Translation_api_Translation_ok (a0 : List TTranslation) (a1 : List TTranslation) (r : Bool) (h : M.slices_Equal_api_Translation_api_Translation a0 a1 = some r) : Fn Try.prog 39 [sL 9 c_TTranslation a0, sL 9 c_TTranslation a1] (.pure (.bool r)) := by
 unfold M.slices_Equal_api_Translation_api_Translation at h
 refine fn_pure Try.func39 rfl (by kernel_rfl) ?_
 refine awp_seq (rg0 [0, 1] 0 ⟨26, [(0, sL 9 c_TTranslation a0), (1, sL 9 c_TTranslation a1)], []⟩ ?_)
 refine then_n (awp_seq (awp_seq (rg0 [0, 1, 10] 0 ⟨26, [(0, sL 9 c_TTranslation a0), (1, sL 9 c_TTranslation a1), (10, .bool ((a0.length : Int) != (a1.length : Int)))], []⟩ ?_)))
 refine then_n ?_
 refine cnd ((a0.length : Int) != (a1.length : Int)) (fun b1 => ?_) (fun b1 => ?_)
 have h2 := cond_t b1 h
 refine awp_seq (rg0 [4] 0 ⟨26, [(4, .bool false)], []⟩ ?_)
 refine then_n (awp_ret (then_r ?_))
 obtain rfl := Option.some.inj h2
 exact er0 (.bool false)
 have h3 := cond_f b1 h
 refine awp_skip (then_n (awp_seq (awp_seq (rg0 [0, 1, 12, 13] 0 ⟨26, [(0, sL 9 c_TTranslation a0), (1, sL 9 c_TTranslation a1), (12, .int .i64 (a0.length : Int)), (13, .int .i64 0)], []⟩ ?_))))
 refine then_n (awp_block ?_)
 obtain ⟨y3, q13, h14⟩ := bind_some h3
 refine awp_le (s' := ⟨26, [(0, sL 9 c_TTranslation a0), (1, sL 9 c_TTranslation a1), (12, .int .i64 (a0.length : Int)), (13, .int .i64 0)], []⟩) (le_rfl) ?_
 refine awp_mono (awp_loop (f := M.slices_Equal_api_Translation_api_Translation_l1 a0 a1) (S := fun (p1 : Int) => ⟨26, [(0, sL 9 c_TTranslation a0), (1, sL 9 c_TTranslation a1), (12, .int .i64 (a0.length : Int)), (13, .int .i64 p1)], []⟩) (O := (Sum.elim (fun z => OutE 0 (fun z => ⟨26, [], []⟩) z) (fun z => OutR Try.prog Try.f39 (.bool z)))) ?_ (x := 0) (y := y3) (loopM_iter q13)) ?_
 intro p1 y2 h4
 unfold M.slices_Equal_api_Translation_api_Translation_l1 at h4
 refine awp_seq (rg0 [0, 1, 12, 13, 14] 0 ⟨26, [(0, sL 9 c_TTranslation a0), (1, sL 9 c_TTranslation a1), (12, .int .i64 (a0.length : Int)), (13, .int .i64 p1), (14, .bool (decide (p1 < (a0.length : Int))))], []⟩ ?_)
 refine then_n (awp_seq ?_)
 refine cnd (decide (p1 < (a0.length : Int))) (fun b5 => ?_) (fun b5 => ?_)
 have h6 := cond_t b5 h4
 refine awp_skip (then_n (awp_seq (awp_block (awp_seq (rg0 [0, 1, 5, 12, 13] 0 ⟨26, [(0, sL 9 c_TTranslation a0), (1, sL 9 c_TTranslation a1), (5, .int .i64 p1), (12, .int .i64 (a0.length : Int)), (13, .int .i64 p1)], []⟩ ?_)))))
 refine then_n (awp_seq ?_)
 obtain ⟨c8, h9⟩ := gd_some h6
 refine rgc [0, 1, 12, 13, 24] 0 ⟨26, [(0, sL 9 c_TTranslation a0), (1, sL 9 c_TTranslation a1), (12, .int .i64 (a0.length : Int)), (13, .int .i64 p1), (24, .bool (!((((a0.getD p1.toNat default).fKind) == ((a1.getD p1.toNat default).fKind)) && ((((a0.getD p1.toNat default).fInside) == ((a1.getD p1.toNat default).fInside)) && ((((a0.getD p1.toNat default).fOutside) == ((a1.getD p1.toNat default).fOutside)) && ((((a0.getD p1.toNat default).fProto) == ((a1.getD p1.toNat default).fProto)) && ((((a0.getD p1.toNat default).fInsidePort) == ((a1.getD p1.toNat default).fInsidePort)) && ((((a0.getD p1.toNat default).fOutsidePort) == ((a1.getD p1.toNat default).fOutsidePort)) && (strEq ((a0.getD p1.toNat default).fList) ((a1.getD p1.toNat default).fList) && ((((a0.getD p1.toNat default).fLo) == ((a1.getD p1.toNat default).fLo)) && ((((a0.getD p1.toNat default).fHi) == ((a1.getD p1.toNat default).fHi)) && true)))))))))))], []⟩ [decide (0 ≤ p1), decide (p1 < (a0.length : Int)), decide (0 ≤ p1), decide (p1 < (a1.length : Int))] c8 ?_
 refine then_n ?_
 refine cnd (!((((a0.getD p1.toNat default).fKind) == ((a1.getD p1.toNat default).fKind)) && ((((a0.getD p1.toNat default).fInside) == ((a1.getD p1.toNat default).fInside)) && ((((a0.getD p1.toNat default).fOutside) == ((a1.getD p1.toNat default).fOutside)) && ((((a0.getD p1.toNat default).fProto) == ((a1.getD p1.toNat default).fProto)) && ((((a0.getD p1.toNat default).fInsidePort) == ((a1.getD p1.toNat default).fInsidePort)) && ((((a0.getD p1.toNat default).fOutsidePort) == ((a1.getD p1.toNat default).fOutsidePort)) && (strEq ((a0.getD p1.toNat default).fList) ((a1.getD p1.toNat default).fList) && ((((a0.getD p1.toNat default).fLo) == ((a1.getD p1.toNat default).fLo)) && ((((a0.getD p1.toNat default).fHi) == ((a1.getD p1.toNat default).fHi)) && true)))))))))) (fun b10 => ?_) (fun b10 => ?_)
 have h11 := cond_t b10 h9
 refine awp_seq (rg0 [4] 0 ⟨26, [(4, .bool false)], []⟩ ?_)
 refine then_n (awp_ret (inb_r (then_r ?_)))
 obtain rfl := Option.some.inj h11
 exact round_r ⟨rfl, er0 (.bool false)⟩
 have h12 := cond_f b10 h9
 refine awp_skip (inb_n (then_n (rg0 [0, 1, 12, 13] 0 ⟨26, [(0, sL 9 c_TTranslation a0), (1, sL 9 c_TTranslation a1), (12, .int .i64 (a0.length : Int)), (13, .int .i64 (wr .i64 (p1 + 1)))], []⟩ ?_)))
 obtain rfl := Option.some.inj h12
 exact round_n (le_rfl)
 have h7 := cond_f b5 h4
 refine awp_exit (then_e ?_)
 obtain rfl := Option.some.inj h7
 exact round_e ⟨rfl, kp []⟩
 intro e15 s16 o17
 rcases y3 with g4 | y5
 have h18 := elim_l h14
 obtain ⟨rfl, l20⟩ := o17
 refine inb_here ?_
 refine then_le (s' := ⟨26, [], []⟩) (l20) ?_
 refine awp_seq (rg0 [4] 0 ⟨26, [(4, .bool true)], []⟩ ?_)
 refine then_n (awp_ret ?_)
 obtain rfl := Option.some.inj h18
 exact er0 (.bool true)
 have h19 := elim_r h14
 obtain ⟨rfl, n21⟩ := o17
 refine inb_r (then_r ?_)
 obtain rfl := Option.some.inj h19
 exact n21

/- slices.Equal[[]netverify/api.StaticRoute,netverify/api.StaticRoute] -/
theorem slices_Equal_api_StaticRoute_api_StaticRoute_ok (a0 : List TStaticRoute) (a1 : List TStaticRoute) (r : Bool) (h : M.slices_Equal_api_StaticRoute_api_StaticRoute a0 a1 = some r) : Fn Try.prog 40 [sL 7 c_TStaticRoute a0, sL 7 c_TStaticRoute a1] (.pure (.bool r)) := by
 unfold M.slices_Equal_api_StaticRoute_api_StaticRoute at h
 refine fn_pure Try.func40 rfl (by kernel_rfl) ?_
 refine awp_seq (rg0 [0, 1] 0 ⟨26, [(0, sL 7 c_TStaticRoute a0), (1, sL 7 c_TStaticRoute a1)], []⟩ ?_)
 refine then_n (awp_seq (awp_seq (rg0 [0, 1, 10] 0 ⟨26, [(0, sL 7 c_TStaticRoute a0), (1, sL 7 c_TStaticRoute a1), (10, .bool ((a0.length : Int) != (a1.length : Int)))], []⟩ ?_)))
 refine then_n ?_
 refine cnd ((a0.length : Int) != (a1.length : Int)) (fun b1 => ?_) (fun b1 => ?_)
 have h2 := cond_t b1 h
 refine awp_seq (rg0 [4] 0 ⟨26, [(4, .bool false)], []⟩ ?_)
 refine then_n (awp_ret (then_r ?_))
 obtain rfl := Option.some.inj h2
 exact er0 (.bool false)
 have h3 := cond_f b1 h
 refine awp_skip (then_n (awp_seq (awp_seq (rg0 [0, 1, 12, 13] 0 ⟨26, [(0, sL 7 c_TStaticRoute a0), (1, sL 7 c_TStaticRoute a1), (12, .int .i64 (a0.length : Int)), (13, .int .i64 0)], []⟩ ?_))))
 refine then_n (awp_block ?_)
 obtain ⟨y3, q13, h14⟩ := bind_some h3
 refine awp_le (s' := ⟨26, [(0, sL 7 c_TStaticRoute a0), (1, sL 7 c_TStaticRoute a1), (12, .int .i64 (a0.length : Int)), (13, .int .i64 0)], []⟩) (le_rfl) ?_
 refine awp_mono (awp_loop (f := M.slices_Equal_api_StaticRoute_api_StaticRoute_l1 a0 a1) (S := fun (p1 : Int) => ⟨26, [(0, sL 7 c_TStaticRoute a0), (1, sL 7 c_TStaticRoute a1), (12, .int .i64 (a0.length : Int)), (13, .int .i64 p1)], []⟩) (O := (Sum.elim (fun z => OutE 0 (fun z => ⟨26, [], []⟩) z) (fun z => OutR Try.prog Try.f40 (.bool z)))) ?_ (x := 0) (y := y3) (loopM_iter q13)) ?_
 intro p1 y2 h4
 unfold M.slices_Equal_api_StaticRoute_api_StaticRoute_l1 at h4
 refine awp_seq (rg0 [0, 1, 12, 13, 14] 0 ⟨26, [(0, sL 7 c_TStaticRoute a0), (1, sL 7 c_TStaticRoute a1), (12, .int .i64 (a0.length : Int)), (13, .int .i64 p1), (14, .bool (decide (p1 < (a0.length : Int))))], []⟩ ?_)
 refine then_n (awp_seq ?_)
 refine cnd (decide (p1 < (a0.length : Int))) (fun b5 => ?_) (fun b5 => ?_)
 have h6 := cond_t b5 h4
 refine awp_skip (then_n (awp_seq (awp_block (awp_seq (rg0 [0, 1, 5, 12, 13] 0 ⟨26, [(0, sL 7 c_TStaticRoute a0), (1, sL 7 c_TStaticRoute a1), (5, .int .i64 p1), (12, .int .i64 (a0.length : Int)), (13, .int .i64 p1)], []⟩ ?_)))))
 refine then_n (awp_seq ?_)
 obtain ⟨c8, h9⟩ := gd_some h6
 refine rgc [0, 1, 12, 13, 24] 0 ⟨26, [(0, sL 7 c_TStaticRoute a0), (1, sL 7 c_TStaticRoute a1), (12, .int .i64 (a0.length : Int)), (13, .int .i64 p1), (24, .bool (!((((((a0.getD p1.toNat default).fPrefix).fAddr) == (((a1.getD p1.toNat default).fPrefix).fAddr)) && (((((a0.getD p1.toNat default).fPrefix).fLen) == (((a1.getD p1.toNat default).fPrefix).fLen)) && true)) && ((((a0.getD p1.toNat default).fNext) == ((a1.getD p1.toNat default).fNext)) && (strEq ((a0.getD p1.toNat default).fIface) ((a1.getD p1.toNat default).fIface) && ((((a0.getD p1.toNat default).fDiscard) == ((a1.getD p1.toNat default).fDiscard)) && ((((a0.getD p1.toNat default).fAdmin) == ((a1.getD p1.toNat default).fAdmin)) && ((((a0.getD p1.toNat default).fTag) == ((a1.getD p1.toNat default).fTag)) && true))))))))], []⟩ [decide (0 ≤ p1), decide (p1 < (a0.length : Int)), decide (0 ≤ p1), decide (p1 < (a1.length : Int))] c8 ?_
 refine then_n ?_
 refine cnd (!((((((a0.getD p1.toNat default).fPrefix).fAddr) == (((a1.getD p1.toNat default).fPrefix).fAddr)) && (((((a0.getD p1.toNat default).fPrefix).fLen) == (((a1.getD p1.toNat default).fPrefix).fLen)) && true)) && ((((a0.getD p1.toNat default).fNext) == ((a1.getD p1.toNat default).fNext)) && (strEq ((a0.getD p1.toNat default).fIface) ((a1.getD p1.toNat default).fIface) && ((((a0.getD p1.toNat default).fDiscard) == ((a1.getD p1.toNat default).fDiscard)) && ((((a0.getD p1.toNat default).fAdmin) == ((a1.getD p1.toNat default).fAdmin)) && ((((a0.getD p1.toNat default).fTag) == ((a1.getD p1.toNat default).fTag)) && true))))))) (fun b10 => ?_) (fun b10 => ?_)
 have h11 := cond_t b10 h9
 refine awp_seq (rg0 [4] 0 ⟨26, [(4, .bool false)], []⟩ ?_)
 refine then_n (awp_ret (inb_r (then_r ?_)))
 obtain rfl := Option.some.inj h11
 exact round_r ⟨rfl, er0 (.bool false)⟩
 have h12 := cond_f b10 h9
 refine awp_skip (inb_n (then_n (rg0 [0, 1, 12, 13] 0 ⟨26, [(0, sL 7 c_TStaticRoute a0), (1, sL 7 c_TStaticRoute a1), (12, .int .i64 (a0.length : Int)), (13, .int .i64 (wr .i64 (p1 + 1)))], []⟩ ?_)))
 obtain rfl := Option.some.inj h12
 exact round_n (le_rfl)
 have h7 := cond_f b5 h4
 refine awp_exit (then_e ?_)
 obtain rfl := Option.some.inj h7
 exact round_e ⟨rfl, kp []⟩
 intro e15 s16 o17
 rcases y3 with g4 | y5
 have h18 := elim_l h14
 obtain ⟨rfl, l20⟩ := o17
 refine inb_here ?_
 refine then_le (s' := ⟨26, [], []⟩) (l20) ?_
 refine awp_seq (rg0 [4] 0 ⟨26, [(4, .bool true)], []⟩ ?_)
 refine then_n (awp_ret ?_)
 obtain rfl := Option.some.inj h18
 exact er0 (.bool true)
 have h19 := elim_r h14
 obtain ⟨rfl, n21⟩ := o17
 refine inb_r (then_r ?_)
 obtain rfl := Option.some.inj h19
 exact n21

/- slices.Equal[[]netverify/api.AreaRange,netverify/api.AreaRange] -/
theorem slices_Equal_api_AreaRange_api_AreaRange_ok (a0 : List TAreaRange) (a1 : List TAreaRange) (r : Bool) (h : M.slices_Equal_api_AreaRange_api_AreaRange a0 a1 = some r) : Fn Try.prog 73 [sL 3 c_TAreaRange a0, sL 3 c_TAreaRange a1] (.pure (.bool r)) := by
 unfold M.slices_Equal_api_AreaRange_api_AreaRange at h
 refine fn_pure Try.func73 rfl (by kernel_rfl) ?_
 refine awp_seq (rg0 [0, 1] 0 ⟨26, [(0, sL 3 c_TAreaRange a0), (1, sL 3 c_TAreaRange a1)], []⟩ ?_)
 refine then_n (awp_seq (awp_seq (rg0 [0, 1, 10] 0 ⟨26, [(0, sL 3 c_TAreaRange a0), (1, sL 3 c_TAreaRange a1), (10, .bool ((a0.length : Int) != (a1.length : Int)))], []⟩ ?_)))
 refine then_n ?_
 refine cnd ((a0.length : Int) != (a1.length : Int)) (fun b1 => ?_) (fun b1 => ?_)
 have h2 := cond_t b1 h
 refine awp_seq (rg0 [4] 0 ⟨26, [(4, .bool false)], []⟩ ?_)
 refine then_n (awp_ret (then_r ?_))
 obtain rfl := Option.some.inj h2
 exact er0 (.bool false)
 have h3 := cond_f b1 h
 refine awp_skip (then_n (awp_seq (awp_seq (rg0 [0, 1, 12, 13] 0 ⟨26, [(0, sL 3 c_TAreaRange a0), (1, sL 3 c_TAreaRange a1), (12, .int .i64 (a0.length : Int)), (13, .int .i64 0)], []⟩ ?_))))
 refine then_n (awp_block ?_)
 obtain ⟨y3, q13, h14⟩ := bind_some h3
 refine awp_le (s' := ⟨26, [(0, sL 3 c_TAreaRange a0), (1, sL 3 c_TAreaRange a1), (12, .int .i64 (a0.length : Int)), (13, .int .i64 0)], []⟩) (le_rfl) ?_
 refine awp_mono (awp_loop (f := M.slices_Equal_api_AreaRange_api_AreaRange_l1 a0 a1) (S := fun (p1 : Int) => ⟨26, [(0, sL 3 c_TAreaRange a0), (1, sL 3 c_TAreaRange a1), (12, .int .i64 (a0.length : Int)), (13, .int .i64 p1)], []⟩) (O := (Sum.elim (fun z => OutE 0 (fun z => ⟨26, [], []⟩) z) (fun z => OutR Try.prog Try.f73 (.bool z)))) ?_ (x := 0) (y := y3) (loopM_iter q13)) ?_
 intro p1 y2 h4
 unfold M.slices_Equal_api_AreaRange_api_AreaRange_l1 at h4
 refine awp_seq (rg0 [0, 1, 12, 13, 14] 0 ⟨26, [(0, sL 3 c_TAreaRange a0), (1, sL 3 c_TAreaRange a1), (12, .int .i64 (a0.length : Int)), (13, .int .i64 p1), (14, .bool (decide (p1 < (a0.length : Int))))], []⟩ ?_)
 refine then_n (awp_seq ?_)
 refine cnd (decide (p1 < (a0.length : Int))) (fun b5 => ?_) (fun b5 => ?_)
 have h6 := cond_t b5 h4
 refine awp_skip (then_n (awp_seq (awp_block (awp_seq (rg0 [0, 1, 5, 12, 13] 0 ⟨26, [(0, sL 3 c_TAreaRange a0), (1, sL 3 c_TAreaRange a1), (5, .int .i64 p1), (12, .int .i64 (a0.length : Int)), (13, .int .i64 p1)], []⟩ ?_)))))
 refine then_n (awp_seq ?_)
 obtain ⟨c8, h9⟩ := gd_some h6
 refine rgc [0, 1, 12, 13, 24] 0 ⟨26, [(0, sL 3 c_TAreaRange a0), (1, sL 3 c_TAreaRange a1), (12, .int .i64 (a0.length : Int)), (13, .int .i64 p1), (24, .bool (!((((a0.getD p1.toNat default).fArea) == ((a1.getD p1.toNat default).fArea)) && ((((((a0.getD p1.toNat default).fPrefix).fAddr) == (((a1.getD p1.toNat default).fPrefix).fAddr)) && (((((a0.getD p1.toNat default).fPrefix).fLen) == (((a1.getD p1.toNat default).fPrefix).fLen)) && true)) && true))))], []⟩ [decide (0 ≤ p1), decide (p1 < (a0.length : Int)), decide (0 ≤ p1), decide (p1 < (a1.length : Int))] c8 ?_
 refine then_n ?_
 refine cnd (!((((a0.getD p1.toNat default).fArea) == ((a1.getD p1.toNat default).fArea)) && ((((((a0.getD p1.toNat default).fPrefix).fAddr) == (((a1.getD p1.toNat default).fPrefix).fAddr)) && (((((a0.getD p1.toNat default).fPrefix).fLen) == (((a1.getD p1.toNat default).fPrefix).fLen)) && true)) && true))) (fun b10 => ?_) (fun b10 => ?_)
 have h11 := cond_t b10 h9
 refine awp_seq (rg0 [4] 0 ⟨26, [(4, .bool false)], []⟩ ?_)
 refine then_n (awp_ret (inb_r (then_r ?_)))
 obtain rfl := Option.some.inj h11
 exact round_r ⟨rfl, er0 (.bool false)⟩
 have h12 := cond_f b10 h9
 refine awp_skip (inb_n (then_n (rg0 [0, 1, 12, 13] 0 ⟨26, [(0, sL 3 c_TAreaRange a0), (1, sL 3 c_TAreaRange a1), (12, .int .i64 (a0.length : Int)), (13, .int .i64 (wr .i64 (p1 + 1)))], []⟩ ?_)))
 obtain rfl := Option.some.inj h12
 exact round_n (le_rfl)
 have h7 := cond_f b5 h4
 refine awp_exit (then_e ?_)
 obtain rfl := Option.some.inj h7
 exact round_e ⟨rfl, kp []⟩
 intro e15 s16 o17
 rcases y3 with g4 | y5
 have h18 := elim_l h14
 obtain ⟨rfl, l20⟩ := o17
 refine inb_here ?_
 refine then_le (s' := ⟨26, [], []⟩) (l20) ?_
 refine awp_seq (rg0 [4] 0 ⟨26, [(4, .bool true)], []⟩ ?_)
 refine then_n (awp_ret ?_)
 obtain rfl := Option.some.inj h18
 exact er0 (.bool true)
 have h19 := elim_r h14
 obtain ⟨rfl, n21⟩ := o17
 refine inb_r (then_r ?_)
 obtain rfl := Option.some.inj h19
 exact n21

/- slices.Equal[[]netverify/api.Redist,netverify/api.Redist] -/
theorem slices_Equal_api_Redist_api_Redist_ok (a0 : List TRedist) (a1 : List TRedist) (r : Bool) (h : M.slices_Equal_api_Redist_api_Redist a0 a1 = some r) : Fn Try.prog 74 [sL 5 c_TRedist a0, sL 5 c_TRedist a1] (.pure (.bool r)) := by
 unfold M.slices_Equal_api_Redist_api_Redist at h
 refine fn_pure Try.func74 rfl (by kernel_rfl) ?_
 refine awp_seq (rg0 [0, 1] 0 ⟨26, [(0, sL 5 c_TRedist a0), (1, sL 5 c_TRedist a1)], []⟩ ?_)
 refine then_n (awp_seq (awp_seq (rg0 [0, 1, 10] 0 ⟨26, [(0, sL 5 c_TRedist a0), (1, sL 5 c_TRedist a1), (10, .bool ((a0.length : Int) != (a1.length : Int)))], []⟩ ?_)))
 refine then_n ?_
 refine cnd ((a0.length : Int) != (a1.length : Int)) (fun b1 => ?_) (fun b1 => ?_)
 have h2 := cond_t b1 h
 refine awp_seq (rg0 [4] 0 ⟨26, [(4, .bool false)], []⟩ ?_)
 refine then_n (awp_ret (then_r ?_))
 obtain rfl := Option.some.inj h2
 exact er0 (.bool false)
 have h3 := cond_f b1 h
 refine awp_skip (then_n (awp_seq (awp_seq (rg0 [0, 1, 12, 13] 0 ⟨26, [(0, sL 5 c_TRedist a0), (1, sL 5 c_TRedist a1), (12, .int .i64 (a0.length : Int)), (13, .int .i64 0)], []⟩ ?_))))
 refine then_n (awp_block ?_)
 obtain ⟨y3, q13, h14⟩ := bind_some h3
 refine awp_le (s' := ⟨26, [(0, sL 5 c_TRedist a0), (1, sL 5 c_TRedist a1), (12, .int .i64 (a0.length : Int)), (13, .int .i64 0)], []⟩) (le_rfl) ?_
 refine awp_mono (awp_loop (f := M.slices_Equal_api_Redist_api_Redist_l1 a0 a1) (S := fun (p1 : Int) => ⟨26, [(0, sL 5 c_TRedist a0), (1, sL 5 c_TRedist a1), (12, .int .i64 (a0.length : Int)), (13, .int .i64 p1)], []⟩) (O := (Sum.elim (fun z => OutE 0 (fun z => ⟨26, [], []⟩) z) (fun z => OutR Try.prog Try.f74 (.bool z)))) ?_ (x := 0) (y := y3) (loopM_iter q13)) ?_
 intro p1 y2 h4
 unfold M.slices_Equal_api_Redist_api_Redist_l1 at h4
 refine awp_seq (rg0 [0, 1, 12, 13, 14] 0 ⟨26, [(0, sL 5 c_TRedist a0), (1, sL 5 c_TRedist a1), (12, .int .i64 (a0.length : Int)), (13, .int .i64 p1), (14, .bool (decide (p1 < (a0.length : Int))))], []⟩ ?_)
 refine then_n (awp_seq ?_)
 refine cnd (decide (p1 < (a0.length : Int))) (fun b5 => ?_) (fun b5 => ?_)
 have h6 := cond_t b5 h4
 refine awp_skip (then_n (awp_seq (awp_block (awp_seq (rg0 [0, 1, 5, 12, 13] 0 ⟨26, [(0, sL 5 c_TRedist a0), (1, sL 5 c_TRedist a1), (5, .int .i64 p1), (12, .int .i64 (a0.length : Int)), (13, .int .i64 p1)], []⟩ ?_)))))
 refine then_n (awp_seq ?_)
 obtain ⟨c8, h9⟩ := gd_some h6
 refine rgc [0, 1, 12, 13, 24] 0 ⟨26, [(0, sL 5 c_TRedist a0), (1, sL 5 c_TRedist a1), (12, .int .i64 (a0.length : Int)), (13, .int .i64 p1), (24, .bool (!((((a0.getD p1.toNat default).fFrom) == ((a1.getD p1.toNat default).fFrom)) && ((((a0.getD p1.toNat default).fMetric) == ((a1.getD p1.toNat default).fMetric)) && ((((a0.getD p1.toNat default).fTag) == ((a1.getD p1.toNat default).fTag)) && (strEq ((a0.getD p1.toNat default).fMap) ((a1.getD p1.toNat default).fMap) && ((((a0.getD p1.toNat default).fType) == ((a1.getD p1.toNat default).fType)) && true)))))))], []⟩ [decide (0 ≤ p1), decide (p1 < (a0.length : Int)), decide (0 ≤ p1), decide (p1 < (a1.length : Int))] c8 ?_
 refine then_n ?_
 refine cnd (!((((a0.getD p1.toNat default).fFrom) == ((a1.getD p1.toNat default).fFrom)) && ((((a0.getD p1.toNat default).fMetric) == ((a1.getD p1.toNat default).fMetric)) && ((((a0.getD p1.toNat default).fTag) == ((a1.getD p1.toNat default).fTag)) && (strEq ((a0.getD p1.toNat default).fMap) ((a1.getD p1.toNat default).fMap) && ((((a0.getD p1.toNat default).fType) == ((a1.getD p1.toNat default).fType)) && true)))))) (fun b10 => ?_) (fun b10 => ?_)
 have h11 := cond_t b10 h9
 refine awp_seq (rg0 [4] 0 ⟨26, [(4, .bool false)], []⟩ ?_)
 refine then_n (awp_ret (inb_r (then_r ?_)))
 obtain rfl := Option.some.inj h11
 exact round_r ⟨rfl, er0 (.bool false)⟩
 have h12 := cond_f b10 h9
 refine awp_skip (inb_n (then_n (rg0 [0, 1, 12, 13] 0 ⟨26, [(0, sL 5 c_TRedist a0), (1, sL 5 c_TRedist a1), (12, .int .i64 (a0.length : Int)), (13, .int .i64 (wr .i64 (p1 + 1)))], []⟩ ?_)))
 obtain rfl := Option.some.inj h12
 exact round_n (le_rfl)
 have h7 := cond_f b5 h4
 refine awp_exit (then_e ?_)
 obtain rfl := Option.some.inj h7
 exact round_e ⟨rfl, kp []⟩
 intro e15 s16 o17
 rcases y3 with g4 | y5
 have h18 := elim_l h14
 obtain ⟨rfl, l20⟩ := o17
 refine inb_here ?_
 refine then_le (s' := ⟨26, [], []⟩) (l20) ?_
 refine awp_seq (rg0 [4] 0 ⟨26, [(4, .bool true)], []⟩ ?_)
 refine then_n (awp_ret ?_)
 obtain rfl := Option.some.inj h18
 exact er0 (.bool true)
 have h19 := elim_r h14
 obtain ⟨rfl, n21⟩ := o17
 refine inb_r (then_r ?_)
 obtain rfl := Option.some.inj h19
 exact n21

/- netverify/model.sameLinkState -/
theorem model_sameLinkState_ok (a0 : TLinkState) (a1 : TLinkState) (r : Bool) (h : M.model_sameLinkState a0 a1 = some r) : Fn Try.prog 41 [.agg (c_TLinkState a0), .agg (c_TLinkState a1)] (.pure (.bool r)) := by
 unfold M.model_sameLinkState at h
 refine fn_pure Try.func41 rfl (by kernel_rfl) ?_
 refine awp_seq (rg0 [2, 3] 2 ⟨31, [(2, .ref 0 0), (3, .ref 1 0)], [.box (c_TLinkState a0), .box (c_TLinkState a1)]⟩ ?_)
 refine then_n (awp_seq ?_)
 obtain ⟨r1, q1, h2⟩ := bind_some h
 obtain ⟨r2, q3, h4⟩ := bind_some h2
 refine rg [.pure (.bool r1), .pure (.bool r2)] [4] 0 ⟨31, [(4, .bool ((((a0.fOn == a1.fOn) && (a0.fAdmin == a1.fAdmin)) && r1) && r2))], []⟩ [] [⟨(a0.fOn == a1.fOn) && (a0.fAdmin == a1.fAdmin), 73, [sL 3 c_TAreaRange a0.fRanges, sL 3 c_TAreaRange a1.fRanges], .pure (.bool r1)⟩, ⟨((a0.fOn == a1.fOn) && (a0.fAdmin == a1.fAdmin)) && r1, 74, [sL 5 c_TRedist a0.fRedist, sL 5 c_TRedist a1.fRedist], .pure (.bool r2)⟩] nil_all ⟨fun hg => slices_Equal_api_AreaRange_api_AreaRange_ok a0.fRanges a1.fRanges r1 (gc_some q1 hg), fun hg => slices_Equal_api_Redist_api_Redist_ok a0.fRedist a1.fRedist r2 (gc_some q3 hg), trivial⟩ ?_
 refine then_n (awp_ret ?_)
 obtain rfl := Option.some.inj h4
 exact er0 (.bool ((((a0.fOn == a1.fOn) && (a0.fAdmin == a1.fAdmin)) && r1) && r2))

/- netverify/model.sameDistanceVector -/
theorem model_sameDistanceVector_ok (a0 : TDistanceVector) (a1 : TDistanceVector) (r : Bool) (h : M.model_sameDistanceVector a0 a1 = some r) : Fn Try.prog 42 [.agg (c_TDistanceVector a0), .agg (c_TDistanceVector a1)] (.pure (.bool r)) := by
 unfold M.model_sameDistanceVector at h
 refine fn_pure Try.func42 rfl (by kernel_rfl) ?_
 refine awp_seq (rg0 [2, 3] 2 ⟨38, [(2, .ref 0 0), (3, .ref 1 0)], [.box (c_TDistanceVector a0), .box (c_TDistanceVector a1)]⟩ ?_)
 refine then_n (awp_seq ?_)
 obtain ⟨r1, q1, h2⟩ := bind_some h
 refine rg [.pure (.bool r1)] [4] 0 ⟨38, [(4, .bool (((((a0.fOn == a1.fOn) && (a0.fAdmin == a1.fAdmin)) && (strEq a0.fIn a1.fIn)) && (strEq a0.fOut a1.fOut)) && r1))], []⟩ [] [⟨(((a0.fOn == a1.fOn) && (a0.fAdmin == a1.fAdmin)) && (strEq a0.fIn a1.fIn)) && (strEq a0.fOut a1.fOut), 74, [sL 5 c_TRedist a0.fRedist, sL 5 c_TRedist a1.fRedist], .pure (.bool r1)⟩] nil_all ⟨fun hg => slices_Equal_api_Redist_api_Redist_ok a0.fRedist a1.fRedist r1 (gc_some q1 hg), trivial⟩ ?_
 refine then_n (awp_ret ?_)
 obtain rfl := Option.some.inj h2
 exact er0 (.bool (((((a0.fOn == a1.fOn) && (a0.fAdmin == a1.fAdmin)) && (strEq a0.fIn a1.fIn)) && (strEq a0.fOut a1.fOut)) && r1))

/- slices.Equal[[]netverify/api.Neighbor,netverify/api.Neighbor] -/
theorem slices_Equal_api_Neighbor_api_Neighbor_ok (a0 : List TNeighbor) (a1 : List TNeighbor) (r : Bool) (h : M.slices_Equal_api_Neighbor_api_Neighbor a0 a1 = some r) : Fn Try.prog 75 [sL 4 c_TNeighbor a0, sL 4 c_TNeighbor a1] (.pure (.bool r)) := by
 unfold M.slices_Equal_api_Neighbor_api_Neighbor at h
 refine fn_pure Try.func75 rfl (by kernel_rfl) ?_
 refine awp_seq (rg0 [0, 1] 0 ⟨26, [(0, sL 4 c_TNeighbor a0), (1, sL 4 c_TNeighbor a1)], []⟩ ?_)
 refine then_n (awp_seq (awp_seq (rg0 [0, 1, 10] 0 ⟨26, [(0, sL 4 c_TNeighbor a0), (1, sL 4 c_TNeighbor a1), (10, .bool ((a0.length : Int) != (a1.length : Int)))], []⟩ ?_)))
 refine then_n ?_
 refine cnd ((a0.length : Int) != (a1.length : Int)) (fun b1 => ?_) (fun b1 => ?_)
 have h2 := cond_t b1 h
 refine awp_seq (rg0 [4] 0 ⟨26, [(4, .bool false)], []⟩ ?_)
 refine then_n (awp_ret (then_r ?_))
 obtain rfl := Option.some.inj h2
 exact er0 (.bool false)
 have h3 := cond_f b1 h
 refine awp_skip (then_n (awp_seq (awp_seq (rg0 [0, 1, 12, 13] 0 ⟨26, [(0, sL 4 c_TNeighbor a0), (1, sL 4 c_TNeighbor a1), (12, .int .i64 (a0.length : Int)), (13, .int .i64 0)], []⟩ ?_))))
 refine then_n (awp_block ?_)
 obtain ⟨y3, q13, h14⟩ := bind_some h3
 refine awp_le (s' := ⟨26, [(0, sL 4 c_TNeighbor a0), (1, sL 4 c_TNeighbor a1), (12, .int .i64 (a0.length : Int)), (13, .int .i64 0)], []⟩) (le_rfl) ?_
 refine awp_mono (awp_loop (f := M.slices_Equal_api_Neighbor_api_Neighbor_l1 a0 a1) (S := fun (p1 : Int) => ⟨26, [(0, sL 4 c_TNeighbor a0), (1, sL 4 c_TNeighbor a1), (12, .int .i64 (a0.length : Int)), (13, .int .i64 p1)], []⟩) (O := (Sum.elim (fun z => OutE 0 (fun z => ⟨26, [], []⟩) z) (fun z => OutR Try.prog Try.f75 (.bool z)))) ?_ (x := 0) (y := y3) (loopM_iter q13)) ?_
 intro p1 y2 h4
 unfold M.slices_Equal_api_Neighbor_api_Neighbor_l1 at h4
 refine awp_seq (rg0 [0, 1, 12, 13, 14] 0 ⟨26, [(0, sL 4 c_TNeighbor a0), (1, sL 4 c_TNeighbor a1), (12, .int .i64 (a0.length : Int)), (13, .int .i64 p1), (14, .bool (decide (p1 < (a0.length : Int))))], []⟩ ?_)
 refine then_n (awp_seq ?_)
 refine cnd (decide (p1 < (a0.length : Int))) (fun b5 => ?_) (fun b5 => ?_)
 have h6 := cond_t b5 h4
 refine awp_skip (then_n (awp_seq (awp_block (awp_seq (rg0 [0, 1, 5, 12, 13] 0 ⟨26, [(0, sL 4 c_TNeighbor a0), (1, sL 4 c_TNeighbor a1), (5, .int .i64 p1), (12, .int .i64 (a0.length : Int)), (13, .int .i64 p1)], []⟩ ?_)))))
 refine then_n (awp_seq ?_)
 obtain ⟨c8, h9⟩ := gd_some h6
 refine rgc [0, 1, 12, 13, 24] 0 ⟨26, [(0, sL 4 c_TNeighbor a0), (1, sL 4 c_TNeighbor a1), (12, .int .i64 (a0.length : Int)), (13, .int .i64 p1), (24, .bool (!((((a0.getD p1.toNat default).fAddr) == ((a1.getD p1.toNat default).fAddr)) && ((((a0.getD p1.toNat default).fAS) == ((a1.getD p1.toNat default).fAS)) && (strEq ((a0.getD p1.toNat default).fIn) ((a1.getD p1.toNat default).fIn) && (strEq ((a0.getD p1.toNat default).fOut) ((a1.getD p1.toNat default).fOut) && true))))))], []⟩ [decide (0 ≤ p1), decide (p1 < (a0.length : Int)), decide (0 ≤ p1), decide (p1 < (a1.length : Int))] c8 ?_
 refine then_n ?_
 refine cnd (!((((a0.getD p1.toNat default).fAddr) == ((a1.getD p1.toNat default).fAddr)) && ((((a0.getD p1.toNat default).fAS) == ((a1.getD p1.toNat default).fAS)) && (strEq ((a0.getD p1.toNat default).fIn) ((a1.getD p1.toNat default).fIn) && (strEq ((a0.getD p1.toNat default).fOut) ((a1.getD p1.toNat default).fOut) && true))))) (fun b10 => ?_) (fun b10 => ?_)
 have h11 := cond_t b10 h9
 refine awp_seq (rg0 [4] 0 ⟨26, [(4, .bool false)], []⟩ ?_)
 refine then_n (awp_ret (inb_r (then_r ?_)))
 obtain rfl := Option.some.inj h11
 exact round_r ⟨rfl, er0 (.bool false)⟩
 have h12 := cond_f b10 h9
 refine awp_skip (inb_n (then_n (rg0 [0, 1, 12, 13] 0 ⟨26, [(0, sL 4 c_TNeighbor a0), (1, sL 4 c_TNeighbor a1), (12, .int .i64 (a0.length : Int)), (13, .int .i64 (wr .i64 (p1 + 1)))], []⟩ ?_)))
 obtain rfl := Option.some.inj h12
 exact round_n (le_rfl)
 have h7 := cond_f b5 h4
 refine awp_exit (then_e ?_)
 obtain rfl := Option.some.inj h7
 exact round_e ⟨rfl, kp []⟩
 intro e15 s16 o17
 rcases y3 with g4 | y5
 have h18 := elim_l h14
 obtain ⟨rfl, l20⟩ := o17
 refine inb_here ?_
 refine then_le (s' := ⟨26, [], []⟩) (l20) ?_
 refine awp_seq (rg0 [4] 0 ⟨26, [(4, .bool true)], []⟩ ?_)
 refine then_n (awp_ret ?_)
 obtain rfl := Option.some.inj h18
 exact er0 (.bool true)
 have h19 := elim_r h14
 obtain ⟨rfl, n21⟩ := o17
 refine inb_r (then_r ?_)
 obtain rfl := Option.some.inj h19
 exact n21

/- slices.Equal[[]netverify/api.Prefix,netverify/api.Prefix] -/
theorem slices_Equal_api_Prefix_api_Prefix_ok (a0 : List TPrefix) (a1 : List TPrefix) (r : Bool) (h : M.slices_Equal_api_Prefix_api_Prefix a0 a1 = some r) : Fn Try.prog 76 [sL 2 c_TPrefix a0, sL 2 c_TPrefix a1] (.pure (.bool r)) := by
 unfold M.slices_Equal_api_Prefix_api_Prefix at h
 refine fn_pure Try.func76 rfl (by kernel_rfl) ?_
 refine awp_seq (rg0 [0, 1] 0 ⟨26, [(0, sL 2 c_TPrefix a0), (1, sL 2 c_TPrefix a1)], []⟩ ?_)
 refine then_n (awp_seq (awp_seq (rg0 [0, 1, 10] 0 ⟨26, [(0, sL 2 c_TPrefix a0), (1, sL 2 c_TPrefix a1), (10, .bool ((a0.length : Int) != (a1.length : Int)))], []⟩ ?_)))
 refine then_n ?_
 refine cnd ((a0.length : Int) != (a1.length : Int)) (fun b1 => ?_) (fun b1 => ?_)
 have h2 := cond_t b1 h
 refine awp_seq (rg0 [4] 0 ⟨26, [(4, .bool false)], []⟩ ?_)
 refine then_n (awp_ret (then_r ?_))
 obtain rfl := Option.some.inj h2
 exact er0 (.bool false)
 have h3 := cond_f b1 h
 refine awp_skip (then_n (awp_seq (awp_seq (rg0 [0, 1, 12, 13] 0 ⟨26, [(0, sL 2 c_TPrefix a0), (1, sL 2 c_TPrefix a1), (12, .int .i64 (a0.length : Int)), (13, .int .i64 0)], []⟩ ?_))))
 refine then_n (awp_block ?_)
 obtain ⟨y3, q13, h14⟩ := bind_some h3
 refine awp_le (s' := ⟨26, [(0, sL 2 c_TPrefix a0), (1, sL 2 c_TPrefix a1), (12, .int .i64 (a0.length : Int)), (13, .int .i64 0)], []⟩) (le_rfl) ?_
 refine awp_mono (awp_loop (f := M.slices_Equal_api_Prefix_api_Prefix_l1 a0 a1) (S := fun (p1 : Int) => ⟨26, [(0, sL 2 c_TPrefix a0), (1, sL 2 c_TPrefix a1), (12, .int .i64 (a0.length : Int)), (13, .int .i64 p1)], []⟩) (O := (Sum.elim (fun z => OutE 0 (fun z => ⟨26, [], []⟩) z) (fun z => OutR Try.prog Try.f76 (.bool z)))) ?_ (x := 0) (y := y3) (loopM_iter q13)) ?_
 intro p1 y2 h4
 unfold M.slices_Equal_api_Prefix_api_Prefix_l1 at h4
 refine awp_seq (rg0 [0, 1, 12, 13, 14] 0 ⟨26, [(0, sL 2 c_TPrefix a0), (1, sL 2 c_TPrefix a1), (12, .int .i64 (a0.length : Int)), (13, .int .i64 p1), (14, .bool (decide (p1 < (a0.length : Int))))], []⟩ ?_)
 refine then_n (awp_seq ?_)
 refine cnd (decide (p1 < (a0.length : Int))) (fun b5 => ?_) (fun b5 => ?_)
 have h6 := cond_t b5 h4
 refine awp_skip (then_n (awp_seq (awp_block (awp_seq (rg0 [0, 1, 5, 12, 13] 0 ⟨26, [(0, sL 2 c_TPrefix a0), (1, sL 2 c_TPrefix a1), (5, .int .i64 p1), (12, .int .i64 (a0.length : Int)), (13, .int .i64 p1)], []⟩ ?_)))))
 refine then_n (awp_seq ?_)
 obtain ⟨c8, h9⟩ := gd_some h6
 refine rgc [0, 1, 12, 13, 24] 0 ⟨26, [(0, sL 2 c_TPrefix a0), (1, sL 2 c_TPrefix a1), (12, .int .i64 (a0.length : Int)), (13, .int .i64 p1), (24, .bool (!((((a0.getD p1.toNat default).fAddr) == ((a1.getD p1.toNat default).fAddr)) && ((((a0.getD p1.toNat default).fLen) == ((a1.getD p1.toNat default).fLen)) && true))))], []⟩ [decide (0 ≤ p1), decide (p1 < (a0.length : Int)), decide (0 ≤ p1), decide (p1 < (a1.length : Int))] c8 ?_
 refine then_n ?_
 refine cnd (!((((a0.getD p1.toNat default).fAddr) == ((a1.getD p1.toNat default).fAddr)) && ((((a0.getD p1.toNat default).fLen) == ((a1.getD p1.toNat default).fLen)) && true))) (fun b10 => ?_) (fun b10 => ?_)
 have h11 := cond_t b10 h9
 refine awp_seq (rg0 [4] 0 ⟨26, [(4, .bool false)], []⟩ ?_)
 refine then_n (awp_ret (inb_r (then_r ?_)))
 obtain rfl := Option.some.inj h11
 exact round_r ⟨rfl, er0 (.bool false)⟩
 have h12 := cond_f b10 h9
 refine awp_skip (inb_n (then_n (rg0 [0, 1, 12, 13] 0 ⟨26, [(0, sL 2 c_TPrefix a0), (1, sL 2 c_TPrefix a1), (12, .int .i64 (a0.length : Int)), (13, .int .i64 (wr .i64 (p1 + 1)))], []⟩ ?_)))
 obtain rfl := Option.some.inj h12
 exact round_n (le_rfl)
 have h7 := cond_f b5 h4
 refine awp_exit (then_e ?_)
 obtain rfl := Option.some.inj h7
 exact round_e ⟨rfl, kp []⟩
 intro e15 s16 o17
 rcases y3 with g4 | y5
 have h18 := elim_l h14
 obtain ⟨rfl, l20⟩ := o17
 refine inb_here ?_
 refine then_le (s' := ⟨26, [], []⟩) (l20) ?_
 refine awp_seq (rg0 [4] 0 ⟨26, [(4, .bool true)], []⟩ ?_)
 refine then_n (awp_ret ?_)
 obtain rfl := Option.some.inj h18
 exact er0 (.bool true)
 have h19 := elim_r h14
 obtain ⟨rfl, n21⟩ := o17
 refine inb_r (then_r ?_)
 obtain rfl := Option.some.inj h19
 exact n21

/- slices.Equal[[]netverify/api.Aggregate,netverify/api.Aggregate] -/
theorem slices_Equal_api_Aggregate_api_Aggregate_ok (a0 : List TAggregate) (a1 : List TAggregate) (r : Bool) (h : M.slices_Equal_api_Aggregate_api_Aggregate a0 a1 = some r) : Fn Try.prog 77 [sL 3 c_TAggregate a0, sL 3 c_TAggregate a1] (.pure (.bool r)) := by
 unfold M.slices_Equal_api_Aggregate_api_Aggregate at h
 refine fn_pure Try.func77 rfl (by kernel_rfl) ?_
 refine awp_seq (rg0 [0, 1] 0 ⟨26, [(0, sL 3 c_TAggregate a0), (1, sL 3 c_TAggregate a1)], []⟩ ?_)
 refine then_n (awp_seq (awp_seq (rg0 [0, 1, 10] 0 ⟨26, [(0, sL 3 c_TAggregate a0), (1, sL 3 c_TAggregate a1), (10, .bool ((a0.length : Int) != (a1.length : Int)))], []⟩ ?_)))
 refine then_n ?_
 refine cnd ((a0.length : Int) != (a1.length : Int)) (fun b1 => ?_) (fun b1 => ?_)
 have h2 := cond_t b1 h
 refine awp_seq (rg0 [4] 0 ⟨26, [(4, .bool false)], []⟩ ?_)
 refine then_n (awp_ret (then_r ?_))
 obtain rfl := Option.some.inj h2
 exact er0 (.bool false)
 have h3 := cond_f b1 h
 refine awp_skip (then_n (awp_seq (awp_seq (rg0 [0, 1, 12, 13] 0 ⟨26, [(0, sL 3 c_TAggregate a0), (1, sL 3 c_TAggregate a1), (12, .int .i64 (a0.length : Int)), (13, .int .i64 0)], []⟩ ?_))))
 refine then_n (awp_block ?_)
 obtain ⟨y3, q13, h14⟩ := bind_some h3
 refine awp_le (s' := ⟨26, [(0, sL 3 c_TAggregate a0), (1, sL 3 c_TAggregate a1), (12, .int .i64 (a0.length : Int)), (13, .int .i64 0)], []⟩) (le_rfl) ?_
 refine awp_mono (awp_loop (f := M.slices_Equal_api_Aggregate_api_Aggregate_l1 a0 a1) (S := fun (p1 : Int) => ⟨26, [(0, sL 3 c_TAggregate a0), (1, sL 3 c_TAggregate a1), (12, .int .i64 (a0.length : Int)), (13, .int .i64 p1)], []⟩) (O := (Sum.elim (fun z => OutE 0 (fun z => ⟨26, [], []⟩) z) (fun z => OutR Try.prog Try.f77 (.bool z)))) ?_ (x := 0) (y := y3) (loopM_iter q13)) ?_
 intro p1 y2 h4
 unfold M.slices_Equal_api_Aggregate_api_Aggregate_l1 at h4
 refine awp_seq (rg0 [0, 1, 12, 13, 14] 0 ⟨26, [(0, sL 3 c_TAggregate a0), (1, sL 3 c_TAggregate a1), (12, .int .i64 (a0.length : Int)), (13, .int .i64 p1), (14, .bool (decide (p1 < (a0.length : Int))))], []⟩ ?_)
 refine then_n (awp_seq ?_)
 refine cnd (decide (p1 < (a0.length : Int))) (fun b5 => ?_) (fun b5 => ?_)
 have h6 := cond_t b5 h4
 refine awp_skip (then_n (awp_seq (awp_block (awp_seq (rg0 [0, 1, 5, 12, 13] 0 ⟨26, [(0, sL 3 c_TAggregate a0), (1, sL 3 c_TAggregate a1), (5, .int .i64 p1), (12, .int .i64 (a0.length : Int)), (13, .int .i64 p1)], []⟩ ?_)))))
 refine then_n (awp_seq ?_)
 obtain ⟨c8, h9⟩ := gd_some h6
 refine rgc [0, 1, 12, 13, 24] 0 ⟨26, [(0, sL 3 c_TAggregate a0), (1, sL 3 c_TAggregate a1), (12, .int .i64 (a0.length : Int)), (13, .int .i64 p1), (24, .bool (!((((((a0.getD p1.toNat default).fPrefix).fAddr) == (((a1.getD p1.toNat default).fPrefix).fAddr)) && (((((a0.getD p1.toNat default).fPrefix).fLen) == (((a1.getD p1.toNat default).fPrefix).fLen)) && true)) && ((((a0.getD p1.toNat default).fOnly) == ((a1.getD p1.toNat default).fOnly)) && true))))], []⟩ [decide (0 ≤ p1), decide (p1 < (a0.length : Int)), decide (0 ≤ p1), decide (p1 < (a1.length : Int))] c8 ?_
 refine then_n ?_
 refine cnd (!((((((a0.getD p1.toNat default).fPrefix).fAddr) == (((a1.getD p1.toNat default).fPrefix).fAddr)) && (((((a0.getD p1.toNat default).fPrefix).fLen) == (((a1.getD p1.toNat default).fPrefix).fLen)) && true)) && ((((a0.getD p1.toNat default).fOnly) == ((a1.getD p1.toNat default).fOnly)) && true))) (fun b10 => ?_) (fun b10 => ?_)
 have h11 := cond_t b10 h9
 refine awp_seq (rg0 [4] 0 ⟨26, [(4, .bool false)], []⟩ ?_)
 refine then_n (awp_ret (inb_r (then_r ?_)))
 obtain rfl := Option.some.inj h11
 exact round_r ⟨rfl, er0 (.bool false)⟩
 have h12 := cond_f b10 h9
 refine awp_skip (inb_n (then_n (rg0 [0, 1, 12, 13] 0 ⟨26, [(0, sL 3 c_TAggregate a0), (1, sL 3 c_TAggregate a1), (12, .int .i64 (a0.length : Int)), (13, .int .i64 (wr .i64 (p1 + 1)))], []⟩ ?_)))
 obtain rfl := Option.some.inj h12
 exact round_n (le_rfl)
 have h7 := cond_f b5 h4
 refine awp_exit (then_e ?_)
 obtain rfl := Option.some.inj h7
 exact round_e ⟨rfl, kp []⟩
 intro e15 s16 o17
 rcases y3 with g4 | y5
 have h18 := elim_l h14
 obtain ⟨rfl, l20⟩ := o17
 refine inb_here ?_
 refine then_le (s' := ⟨26, [], []⟩) (l20) ?_
 refine awp_seq (rg0 [4] 0 ⟨26, [(4, .bool true)], []⟩ ?_)
 refine then_n (awp_ret ?_)
 obtain rfl := Option.some.inj h18
 exact er0 (.bool true)
 have h19 := elim_r h14
 obtain ⟨rfl, n21⟩ := o17
 refine inb_r (then_r ?_)
 obtain rfl := Option.some.inj h19
 exact n21

/- slices.Equal[[]netverify/api.Condition,netverify/api.Condition] -/
theorem slices_Equal_api_Condition_api_Condition_ok (a0 : List TCondition) (a1 : List TCondition) (r : Bool) (h : M.slices_Equal_api_Condition_api_Condition a0 a1 = some r) : Fn Try.prog 78 [sL 5 c_TCondition a0, sL 5 c_TCondition a1] (.pure (.bool r)) := by
 unfold M.slices_Equal_api_Condition_api_Condition at h
 refine fn_pure Try.func78 rfl (by kernel_rfl) ?_
 refine awp_seq (rg0 [0, 1] 0 ⟨26, [(0, sL 5 c_TCondition a0), (1, sL 5 c_TCondition a1)], []⟩ ?_)
 refine then_n (awp_seq (awp_seq (rg0 [0, 1, 10] 0 ⟨26, [(0, sL 5 c_TCondition a0), (1, sL 5 c_TCondition a1), (10, .bool ((a0.length : Int) != (a1.length : Int)))], []⟩ ?_)))
 refine then_n ?_
 refine cnd ((a0.length : Int) != (a1.length : Int)) (fun b1 => ?_) (fun b1 => ?_)
 have h2 := cond_t b1 h
 refine awp_seq (rg0 [4] 0 ⟨26, [(4, .bool false)], []⟩ ?_)
 refine then_n (awp_ret (then_r ?_))
 obtain rfl := Option.some.inj h2
 exact er0 (.bool false)
 have h3 := cond_f b1 h
 refine awp_skip (then_n (awp_seq (awp_seq (rg0 [0, 1, 12, 13] 0 ⟨26, [(0, sL 5 c_TCondition a0), (1, sL 5 c_TCondition a1), (12, .int .i64 (a0.length : Int)), (13, .int .i64 0)], []⟩ ?_))))
 refine then_n (awp_block ?_)
 obtain ⟨y3, q13, h14⟩ := bind_some h3
 refine awp_le (s' := ⟨26, [(0, sL 5 c_TCondition a0), (1, sL 5 c_TCondition a1), (12, .int .i64 (a0.length : Int)), (13, .int .i64 0)], []⟩) (le_rfl) ?_
 refine awp_mono (awp_loop (f := M.slices_Equal_api_Condition_api_Condition_l1 a0 a1) (S := fun (p1 : Int) => ⟨26, [(0, sL 5 c_TCondition a0), (1, sL 5 c_TCondition a1), (12, .int .i64 (a0.length : Int)), (13, .int .i64 p1)], []⟩) (O := (Sum.elim (fun z => OutE 0 (fun z => ⟨26, [], []⟩) z) (fun z => OutR Try.prog Try.f78 (.bool z)))) ?_ (x := 0) (y := y3) (loopM_iter q13)) ?_
 intro p1 y2 h4
 unfold M.slices_Equal_api_Condition_api_Condition_l1 at h4
 refine awp_seq (rg0 [0, 1, 12, 13, 14] 0 ⟨26, [(0, sL 5 c_TCondition a0), (1, sL 5 c_TCondition a1), (12, .int .i64 (a0.length : Int)), (13, .int .i64 p1), (14, .bool (decide (p1 < (a0.length : Int))))], []⟩ ?_)
 refine then_n (awp_seq ?_)
 refine cnd (decide (p1 < (a0.length : Int))) (fun b5 => ?_) (fun b5 => ?_)
 have h6 := cond_t b5 h4
 refine awp_skip (then_n (awp_seq (awp_block (awp_seq (rg0 [0, 1, 5, 12, 13] 0 ⟨26, [(0, sL 5 c_TCondition a0), (1, sL 5 c_TCondition a1), (5, .int .i64 p1), (12, .int .i64 (a0.length : Int)), (13, .int .i64 p1)], []⟩ ?_)))))
 refine then_n (awp_seq ?_)
 obtain ⟨c8, h9⟩ := gd_some h6
 refine rgc [0, 1, 12, 13, 24] 0 ⟨26, [(0, sL 5 c_TCondition a0), (1, sL 5 c_TCondition a1), (12, .int .i64 (a0.length : Int)), (13, .int .i64 p1), (24, .bool (!((((((a0.getD p1.toNat default).fPrefix).fAddr) == (((a1.getD p1.toNat default).fPrefix).fAddr)) && (((((a0.getD p1.toNat default).fPrefix).fLen) == (((a1.getD p1.toNat default).fPrefix).fLen)) && true)) && ((((((a0.getD p1.toNat default).fIf).fAddr) == (((a1.getD p1.toNat default).fIf).fAddr)) && (((((a0.getD p1.toNat default).fIf).fLen) == (((a1.getD p1.toNat default).fIf).fLen)) && true)) && ((((a0.getD p1.toNat default).fAbsent) == ((a1.getD p1.toNat default).fAbsent)) && true)))))], []⟩ [decide (0 ≤ p1), decide (p1 < (a0.length : Int)), decide (0 ≤ p1), decide (p1 < (a1.length : Int))] c8 ?_
 refine then_n ?_
 refine cnd (!((((((a0.getD p1.toNat default).fPrefix).fAddr) == (((a1.getD p1.toNat default).fPrefix).fAddr)) && (((((a0.getD p1.toNat default).fPrefix).fLen) == (((a1.getD p1.toNat default).fPrefix).fLen)) && true)) && ((((((a0.getD p1.toNat default).fIf).fAddr) == (((a1.getD p1.toNat default).fIf).fAddr)) && (((((a0.getD p1.toNat default).fIf).fLen) == (((a1.getD p1.toNat default).fIf).fLen)) && true)) && ((((a0.getD p1.toNat default).fAbsent) == ((a1.getD p1.toNat default).fAbsent)) && true)))) (fun b10 => ?_) (fun b10 => ?_)
 have h11 := cond_t b10 h9
 refine awp_seq (rg0 [4] 0 ⟨26, [(4, .bool false)], []⟩ ?_)
 refine then_n (awp_ret (inb_r (then_r ?_)))
 obtain rfl := Option.some.inj h11
 exact round_r ⟨rfl, er0 (.bool false)⟩
 have h12 := cond_f b10 h9
 refine awp_skip (inb_n (then_n (rg0 [0, 1, 12, 13] 0 ⟨26, [(0, sL 5 c_TCondition a0), (1, sL 5 c_TCondition a1), (12, .int .i64 (a0.length : Int)), (13, .int .i64 (wr .i64 (p1 + 1)))], []⟩ ?_)))
 obtain rfl := Option.some.inj h12
 exact round_n (le_rfl)
 have h7 := cond_f b5 h4
 refine awp_exit (then_e ?_)
 obtain rfl := Option.some.inj h7
 exact round_e ⟨rfl, kp []⟩
 intro e15 s16 o17
 rcases y3 with g4 | y5
 have h18 := elim_l h14
 obtain ⟨rfl, l20⟩ := o17
 refine inb_here ?_
 refine then_le (s' := ⟨26, [], []⟩) (l20) ?_
 refine awp_seq (rg0 [4] 0 ⟨26, [(4, .bool true)], []⟩ ?_)
 refine then_n (awp_ret ?_)
 obtain rfl := Option.some.inj h18
 exact er0 (.bool true)
 have h19 := elim_r h14
 obtain ⟨rfl, n21⟩ := o17
 refine inb_r (then_r ?_)
 obtain rfl := Option.some.inj h19
 exact n21

/- netverify/model.samePathVector -/
theorem model_samePathVector_ok (a0 : TPathVector) (a1 : TPathVector) (r : Bool) (h : M.model_samePathVector a0 a1 = some r) : Fn Try.prog 43 [.agg (c_TPathVector a0), .agg (c_TPathVector a1)] (.pure (.bool r)) := by
 unfold M.model_samePathVector at h
 refine fn_pure Try.func43 rfl (by kernel_rfl) ?_
 refine awp_seq (rg0 [2, 3] 2 ⟨59, [(2, .ref 0 0), (3, .ref 1 0)], [.box (c_TPathVector a0), .box (c_TPathVector a1)]⟩ ?_)
 refine then_n (awp_seq ?_)
 obtain ⟨r1, q1, h2⟩ := bind_some h
 obtain ⟨r2, q3, h4⟩ := bind_some h2
 obtain ⟨r3, q5, h6⟩ := bind_some h4
 obtain ⟨r4, q7, h8⟩ := bind_some h6
 obtain ⟨r5, q9, h10⟩ := bind_some h8
 refine rg [.pure (.bool r1), .pure (.bool r2), .pure (.bool r3), .pure (.bool r4), .pure (.bool r5)] [4] 0 ⟨59, [(4, .bool ((((((((a0.fOn == a1.fOn) && (a0.fExternal == a1.fExternal)) && (a0.fInternal == a1.fInternal)) && r1) && r2) && r3) && r4) && r5))], []⟩ [] [⟨((a0.fOn == a1.fOn) && (a0.fExternal == a1.fExternal)) && (a0.fInternal == a1.fInternal), 75, [sL 4 c_TNeighbor a0.fNeighbors, sL 4 c_TNeighbor a1.fNeighbors], .pure (.bool r1)⟩, ⟨(((a0.fOn == a1.fOn) && (a0.fExternal == a1.fExternal)) && (a0.fInternal == a1.fInternal)) && r1, 76, [sL 2 c_TPrefix a0.fNetworks, sL 2 c_TPrefix a1.fNetworks], .pure (.bool r2)⟩, ⟨((((a0.fOn == a1.fOn) && (a0.fExternal == a1.fExternal)) && (a0.fInternal == a1.fInternal)) && r1) && r2, 77, [sL 3 c_TAggregate a0.fAggregates, sL 3 c_TAggregate a1.fAggregates], .pure (.bool r3)⟩, ⟨(((((a0.fOn == a1.fOn) && (a0.fExternal == a1.fExternal)) && (a0.fInternal == a1.fInternal)) && r1) && r2) && r3, 78, [sL 5 c_TCondition a0.fConditions, sL 5 c_TCondition a1.fConditions], .pure (.bool r4)⟩, ⟨((((((a0.fOn == a1.fOn) && (a0.fExternal == a1.fExternal)) && (a0.fInternal == a1.fInternal)) && r1) && r2) && r3) && r4, 74, [sL 5 c_TRedist a0.fRedist, sL 5 c_TRedist a1.fRedist], .pure (.bool r5)⟩] nil_all ⟨fun hg => slices_Equal_api_Neighbor_api_Neighbor_ok a0.fNeighbors a1.fNeighbors r1 (gc_some q1 hg), fun hg => slices_Equal_api_Prefix_api_Prefix_ok a0.fNetworks a1.fNetworks r2 (gc_some q3 hg), fun hg => slices_Equal_api_Aggregate_api_Aggregate_ok a0.fAggregates a1.fAggregates r3 (gc_some q5 hg), fun hg => slices_Equal_api_Condition_api_Condition_ok a0.fConditions a1.fConditions r4 (gc_some q7 hg), fun hg => slices_Equal_api_Redist_api_Redist_ok a0.fRedist a1.fRedist r5 (gc_some q9 hg), trivial⟩ ?_
 refine then_n (awp_ret ?_)
 obtain rfl := Option.some.inj h10
 exact er0 (.bool ((((((((a0.fOn == a1.fOn) && (a0.fExternal == a1.fExternal)) && (a0.fInternal == a1.fInternal)) && r1) && r2) && r3) && r4) && r5))

/- netverify/model.Same -/
theorem model_Same_ok (a0 : TRouter) (a1 : TRouter) (r : Bool) (h : M.model_Same a0 a1 = some r) : Fn Try.prog 9 [.agg (c_TRouter a0), .agg (c_TRouter a1)] (.pure (.bool r)) := by
 unfold M.model_Same at h
 refine fn_pure Try.func9 rfl (by kernel_rfl) ?_
 refine awp_seq (rg0 [2, 3] 2 ⟨80, [(2, .ref 0 0), (3, .ref 1 0)], [.box (c_TRouter a0), .box (c_TRouter a1)]⟩ ?_)
 refine then_n (awp_seq ?_)
 obtain ⟨r1, q1, h2⟩ := bind_some h
 obtain ⟨r2, q3, h4⟩ := bind_some h2
 obtain ⟨r3, q5, h6⟩ := bind_some h4
 obtain ⟨r4, q7, h8⟩ := bind_some h6
 obtain ⟨r5, q9, h10⟩ := bind_some h8
 obtain ⟨r6, q11, h12⟩ := bind_some h10
 obtain ⟨r7, q13, h14⟩ := bind_some h12
 obtain ⟨r8, q15, h16⟩ := bind_some h14
 obtain ⟨r9, q17, h18⟩ := bind_some h16
 refine rg [.pure (.bool r1), .pure (.bool r2), .pure (.bool r3), .pure (.bool r4), .pure (.bool r5), .pure (.bool r6), .pure (.bool r7), .pure (.bool r8), .pure (.bool r9)] [4] 0 ⟨80, [(4, .bool (((((((((((strEq a0.fName a1.fName) && (a0.fAS == a1.fAS)) && r1) && r2) && r3) && r4) && r5) && r6) && r7) && r8) && r9))], []⟩ [] [⟨(strEq a0.fName a1.fName) && (a0.fAS == a1.fAS), 29, [sL 12 c_TInterface a0.fInterfaces, sL 12 c_TInterface a1.fInterfaces], .pure (.bool r1)⟩, ⟨((strEq a0.fName a1.fName) && (a0.fAS == a1.fAS)) && r1, 30, [sL 2 c_TPrefixList a0.fLists, sL 2 c_TPrefixList a1.fLists, .fn 31 []], .pure (.bool r2)⟩, ⟨(((strEq a0.fName a1.fName) && (a0.fAS == a1.fAS)) && r1) && r2, 33, [sL 2 c_TRouteMap a0.fMaps, sL 2 c_TRouteMap a1.fMaps, .fn 34 []], .pure (.bool r3)⟩, ⟨((((strEq a0.fName a1.fName) && (a0.fAS == a1.fAS)) && r1) && r2) && r3, 36, [sL 2 c_TACL a0.fACLs, sL 2 c_TACL a1.fACLs, .fn 37 []], .pure (.bool r4)⟩, ⟨(((((strEq a0.fName a1.fName) && (a0.fAS == a1.fAS)) && r1) && r2) && r3) && r4, 39, [sL 9 c_TTranslation a0.fNAT, sL 9 c_TTranslation a1.fNAT], .pure (.bool r5)⟩, ⟨((((((strEq a0.fName a1.fName) && (a0.fAS == a1.fAS)) && r1) && r2) && r3) && r4) && r5, 40, [sL 7 c_TStaticRoute a0.fStatics, sL 7 c_TStaticRoute a1.fStatics], .pure (.bool r6)⟩, ⟨(((((((strEq a0.fName a1.fName) && (a0.fAS == a1.fAS)) && r1) && r2) && r3) && r4) && r5) && r6, 41, [.agg (c_TLinkState a0.fLS), .agg (c_TLinkState a1.fLS)], .pure (.bool r7)⟩, ⟨((((((((strEq a0.fName a1.fName) && (a0.fAS == a1.fAS)) && r1) && r2) && r3) && r4) && r5) && r6) && r7, 42, [.agg (c_TDistanceVector a0.fDV), .agg (c_TDistanceVector a1.fDV)], .pure (.bool r8)⟩, ⟨(((((((((strEq a0.fName a1.fName) && (a0.fAS == a1.fAS)) && r1) && r2) && r3) && r4) && r5) && r6) && r7) && r8, 43, [.agg (c_TPathVector a0.fPV), .agg (c_TPathVector a1.fPV)], .pure (.bool r9)⟩] nil_all ⟨fun hg => slices_Equal_api_Interface_api_Interface_ok a0.fInterfaces a1.fInterfaces r1 (gc_some q1 hg), fun hg => slices_EqualFunc_api_PrefixList_api_PrefixList_api_PrefixList_api_PrefixList__model_Same_1_ok a0.fLists a1.fLists r2 (gc_some q3 hg), fun hg => slices_EqualFunc_api_RouteMap_api_RouteMap_api_RouteMap_api_RouteMap__model_Same_2_ok a0.fMaps a1.fMaps r3 (gc_some q5 hg), fun hg => slices_EqualFunc_api_ACL_api_ACL_api_ACL_api_ACL__model_Same_3_ok a0.fACLs a1.fACLs r4 (gc_some q7 hg), fun hg => slices_Equal_api_Translation_api_Translation_ok a0.fNAT a1.fNAT r5 (gc_some q9 hg), fun hg => slices_Equal_api_StaticRoute_api_StaticRoute_ok a0.fStatics a1.fStatics r6 (gc_some q11 hg), fun hg => model_sameLinkState_ok a0.fLS a1.fLS r7 (gc_some q13 hg), fun hg => model_sameDistanceVector_ok a0.fDV a1.fDV r8 (gc_some q15 hg), fun hg => model_samePathVector_ok a0.fPV a1.fPV r9 (gc_some q17 hg), trivial⟩ ?_
 refine then_n (awp_ret ?_)
 obtain rfl := Option.some.inj h18
 exact er0 (.bool (((((((((((strEq a0.fName a1.fName) && (a0.fAS == a1.fAS)) && r1) && r2) && r3) && r4) && r5) && r6) && r7) && r8) && r9))

/- netverify/netverifylaw5.sane -/
theorem law5_sane_ok  (r : Bool) (h : M.law5_sane = some r) : Fn Try.prog 10 [] (.pure (.bool r)) := by
 unfold M.law5_sane at h
 refine fn_pure Try.func10 rfl (by kernel_rfl) ?_
 refine awp_seq (rg0 [] 0 ⟨35, [], []⟩ ?_)
 refine then_n (awp_seq ?_)
 obtain ⟨r1, q1, h2⟩ := bind_some h
 refine rg [.pure (.agg (c_TRouter r1))] [1] 1 ⟨35, [(1, .ref 0 0)], [.box (c_TRouter r1)]⟩ [] [⟨true, 44, [], .pure (.agg (c_TRouter r1))⟩] nil_all ⟨fun _ => law5_sample_ok  r1 q1, trivial⟩ ?_
 refine then_n (awp_seq (rg0 [1, 2] 2 ⟨35, [(1, .ref 0 0), (2, .ref 1 0)], [.box (c_TRouter r1), .box (c_TRouter r1)]⟩ ?_))
 refine then_n (awp_seq (rg0 [1, 2] 2 ⟨35, [(1, .ref 0 0), (2, .ref 1 0)], [.box (c_TRouter r1), .box [.str (⟨#[49, 114]⟩ : ByteArray), .int .i64 r1.fAS, sL 12 c_TInterface r1.fInterfaces, sL 2 c_TPrefixList r1.fLists, sL 2 c_TRouteMap r1.fMaps, sL 2 c_TACL r1.fACLs, sL 9 c_TTranslation r1.fNAT, sL 7 c_TStaticRoute r1.fStatics, .bool r1.fLS.fOn, .int .i64 r1.fLS.fAdmin, sL 3 c_TAreaRange r1.fLS.fRanges, sL 5 c_TRedist r1.fLS.fRedist, .bool r1.fDV.fOn, .int .i64 r1.fDV.fAdmin, .str r1.fDV.fIn, .str r1.fDV.fOut, sL 5 c_TRedist r1.fDV.fRedist, .bool r1.fPV.fOn, .int .i64 r1.fPV.fExternal, .int .i64 r1.fPV.fInternal, sL 4 c_TNeighbor r1.fPV.fNeighbors, sL 2 c_TPrefix r1.fPV.fNetworks, sL 3 c_TAggregate r1.fPV.fAggregates, sL 5 c_TCondition r1.fPV.fConditions, sL 5 c_TRedist r1.fPV.fRedist]]⟩ ?_))
 refine then_n (awp_seq ?_)
 obtain ⟨r2, q3, h4⟩ := bind_some h2
 obtain ⟨r3, q5, h6⟩ := bind_some h4
 obtain ⟨r4, q7, h8⟩ := bind_some h6
 obtain ⟨r5, q9, h10⟩ := bind_some h8
 obtain ⟨r6, q11, h12⟩ := bind_some h10
 obtain ⟨r7, q13, h14⟩ := bind_some h12
 obtain ⟨r8, q15, h16⟩ := bind_some h14
 refine rg [.pure (.int .i64 r2), .pure (.int .i64 r3), .pure (.agg (c_TRouter r4)), .pure (.bool r5), .pure (.bool r6), .pure (.int .i64 r7), .pure (.int .i64 r8)] [0] 0 ⟨35, [(0, .bool ((((((r2 == 0) && (r3 == 3)) && r5) && (!r6)) && (r7 == 1)) && (r8 == 1)))], []⟩ [] [⟨true, 26, [.agg (c_TRouter r1)], .pure (.int .i64 r2)⟩, ⟨r2 == 0, 26, [.agg [.str (⟨#[49, 114]⟩ : ByteArray), .int .i64 r1.fAS, sL 12 c_TInterface r1.fInterfaces, sL 2 c_TPrefixList r1.fLists, sL 2 c_TRouteMap r1.fMaps, sL 2 c_TACL r1.fACLs, sL 9 c_TTranslation r1.fNAT, sL 7 c_TStaticRoute r1.fStatics, .bool r1.fLS.fOn, .int .i64 r1.fLS.fAdmin, sL 3 c_TAreaRange r1.fLS.fRanges, sL 5 c_TRedist r1.fLS.fRedist, .bool r1.fDV.fOn, .int .i64 r1.fDV.fAdmin, .str r1.fDV.fIn, .str r1.fDV.fOut, sL 5 c_TRedist r1.fDV.fRedist, .bool r1.fPV.fOn, .int .i64 r1.fPV.fExternal, .int .i64 r1.fPV.fInternal, sL 4 c_TNeighbor r1.fPV.fNeighbors, sL 2 c_TPrefix r1.fPV.fNetworks, sL 3 c_TAggregate r1.fPV.fAggregates, sL 5 c_TCondition r1.fPV.fConditions, sL 5 c_TRedist r1.fPV.fRedist]], .pure (.int .i64 r3)⟩, ⟨(r2 == 0) && (r3 == 3), 44, [], .pure (.agg (c_TRouter r4))⟩, ⟨(r2 == 0) && (r3 == 3), 9, [.agg (c_TRouter r1), .agg (c_TRouter r4)], .pure (.bool r5)⟩, ⟨((r2 == 0) && (r3 == 3)) && r5, 9, [.agg (c_TRouter r1), .agg [.str (⟨#[49, 114]⟩ : ByteArray), .int .i64 r1.fAS, sL 12 c_TInterface r1.fInterfaces, sL 2 c_TPrefixList r1.fLists, sL 2 c_TRouteMap r1.fMaps, sL 2 c_TACL r1.fACLs, sL 9 c_TTranslation r1.fNAT, sL 7 c_TStaticRoute r1.fStatics, .bool r1.fLS.fOn, .int .i64 r1.fLS.fAdmin, sL 3 c_TAreaRange r1.fLS.fRanges, sL 5 c_TRedist r1.fLS.fRedist, .bool r1.fDV.fOn, .int .i64 r1.fDV.fAdmin, .str r1.fDV.fIn, .str r1.fDV.fOut, sL 5 c_TRedist r1.fDV.fRedist, .bool r1.fPV.fOn, .int .i64 r1.fPV.fExternal, .int .i64 r1.fPV.fInternal, sL 4 c_TNeighbor r1.fPV.fNeighbors, sL 2 c_TPrefix r1.fPV.fNetworks, sL 3 c_TAggregate r1.fPV.fAggregates, sL 5 c_TCondition r1.fPV.fConditions, sL 5 c_TRedist r1.fPV.fRedist]], .pure (.bool r6)⟩, ⟨(((r2 == 0) && (r3 == 3)) && r5) && (!r6), 15, [.agg (c_TRouter r1), .str (⟨#[101, 49]⟩ : ByteArray)], .pure (.int .i64 r7)⟩, ⟨((((r2 == 0) && (r3 == 3)) && r5) && (!r6)) && (r7 == 1), 23, [.agg (c_TRouter r1), .int .u32 167772417], .pure (.int .i64 r8)⟩] nil_all ⟨fun _ => model_CheckRouter_ok r1 r2 q3, fun hg => model_CheckRouter_ok (⟨(⟨#[49, 114]⟩ : ByteArray), r1.fAS, r1.fInterfaces, r1.fLists, r1.fMaps, r1.fACLs, r1.fNAT, r1.fStatics, r1.fLS, r1.fDV, r1.fPV⟩ : TRouter) r3 (gc_some q5 hg), fun hg => law5_sample_ok  r4 (gc_some q7 hg), fun hg => model_Same_ok r1 r4 r5 (gc_some q9 hg), fun hg => model_Same_ok r1 (⟨(⟨#[49, 114]⟩ : ByteArray), r1.fAS, r1.fInterfaces, r1.fLists, r1.fMaps, r1.fACLs, r1.fNAT, r1.fStatics, r1.fLS, r1.fDV, r1.fPV⟩ : TRouter) r6 (gc_some q11 hg), fun hg => model_Interface_ok r1 (⟨#[101, 49]⟩ : ByteArray) r7 (gc_some q13 hg), fun hg => model_Address_ok r1 167772417 r8 (gc_some q15 hg), trivial⟩ ?_
 refine then_n (awp_ret ?_)
 obtain rfl := Option.some.inj h16
 exact er0 (.bool ((((((r2 == 0) && (r3 == 3)) && r5) && (!r6)) && (r7 == 1)) && (r8 == 1)))

/- netverify/netverifyref4.Mask -/
theorem ref4_Mask_ok (a0 : Int) (r : Int) (h : M.ref4_Mask a0 = some r) : Fn Try.prog 72 [.int .i64 a0] (.pure (.int .u32 r)) := by
 unfold M.ref4_Mask at h
 refine fn_pure Try.func72 rfl (by kernel_rfl) ?_
 refine awp_seq (rg0 [0] 0 ⟨19, [(0, .int .i64 a0)], []⟩ ?_)
 refine then_n (awp_seq (rg0 [0, 3] 0 ⟨19, [(0, .int .i64 a0), (3, .int .u32 0)], []⟩ ?_))
 refine then_n (awp_seq (awp_seq (rg0 [0, 3, 4] 0 ⟨19, [(0, .int .i64 a0), (3, .int .u32 0), (4, .int .i64 0)], []⟩ ?_)))
 refine then_n (awp_block ?_)
 obtain ⟨y4, q12, h13⟩ := bind_some h
 refine awp_le (s' := ⟨19, [(0, .int .i64 a0), (3, .int .u32 0), (4, .int .i64 0)], []⟩) (le_rfl) ?_
 refine awp_mono (awp_loop (f := M.ref4_Mask_l1 a0) (S := fun (p1 : Int × Int) => ⟨19, [(0, .int .i64 a0), (3, .int .u32 p1.1), (4, .int .i64 p1.2)], []⟩) (O := (fun z => OutE 0 (fun z => ⟨19, [(3, .int .u32 z)], []⟩) z)) ?_ (x := (0, 0)) (y := y4) (loopM_iter q12)) ?_
 intro p1 y2 h1
 unfold M.ref4_Mask_l1 at h1
 refine awp_seq (awp_seq (rg0 [0, 3, 4, 6] 0 ⟨19, [(0, .int .i64 a0), (3, .int .u32 p1.1), (4, .int .i64 p1.2), (6, .bool (decide (p1.2 < 32)))], []⟩ ?_))
 refine then_n ?_
 refine cnd (decide (p1.2 < 32)) (fun b2 => ?_) (fun b2 => ?_)
 have h3 := cond_t b2 h1
 refine awp_skip (then_n ?_)
 refine awp_join (fun (p3 : Int) => ⟨19, [(0, .int .i64 a0), (3, .int .u32 p3), (4, .int .i64 p1.2)], []⟩) (fun p3 => M.ref4_Mask_k1 p1 p3 = some y2) ?_ ?_
 intro p3 h6
 unfold M.ref4_Mask_k1 at h6
 refine rg0 [0, 3, 4] 0 ⟨19, [(0, .int .i64 a0), (3, .int .u32 p3), (4, .int .i64 (wr .i64 (p1.2 + 1)))], []⟩ ?_
 obtain rfl := Option.some.inj h6
 exact round_n (le_rfl)
 intro k5
 refine awp_block (awp_seq (rg0 [0, 3, 4, 11] 0 ⟨19, [(0, .int .i64 a0), (3, .int .u32 p1.1), (4, .int .i64 p1.2), (11, .bool (decide (p1.2 < a0)))], []⟩ ?_))
 refine then_n ?_
 refine cnd (decide (p1.2 < a0)) (fun b7 => ?_) (fun b7 => ?_)
 have h8 := cond_t b7 h3
 obtain ⟨c10, h11⟩ := gd_some h8
 refine rgc [0, 3, 4] 0 ⟨19, [(0, .int .i64 a0), (3, .int .u32 (bitD .or .u32 p1.1 (wr .u32 (1 * 2 ^ min (wr .u64 (wr .i64 (31 - p1.2))).toNat 32)))), (4, .int .i64 p1.2)], []⟩ [decide (0 ≤ (wr .u64 (wr .i64 (31 - p1.2))))] c10 ?_
 refine inb_n ?_
 exact then_le (le_rfl) (k5 (bitD .or .u32 p1.1 (wr .u32 (1 * 2 ^ min (wr .u64 (wr .i64 (31 - p1.2))).toNat 32))) h11)
 have h9 := cond_f b7 h3
 refine awp_skip (inb_n ?_)
 exact then_le (kp [0, 3, 4]) (k5 p1.1 h9)
 have h4 := cond_f b2 h1
 refine awp_exit (then_e ?_)
 obtain rfl := Option.some.inj h4
 exact round_e ⟨rfl, kp [3]⟩
 intro e14 s15 o16
 obtain ⟨rfl, l17⟩ := o16
 refine inb_here ?_
 refine then_le (s' := ⟨19, [(3, .int .u32 y4)], []⟩) (l17) ?_
 refine awp_seq (rg0 [2] 0 ⟨19, [(2, .int .u32 y4)], []⟩ ?_)
 refine then_n (awp_ret ?_)
 obtain rfl := Option.some.inj h13
 exact er0 (.int .u32 y4)

/- netverify/netverifyref4.Network -/
theorem ref4_Network_ok (a0 : Int) (a1 : Int) (r : TPrefix) (h : M.ref4_Network a0 a1 = some r) : Fn Try.prog 28 [.int .u32 a0, .int .i64 a1] (.pure (.agg (c_TPrefix r))) := by
 unfold M.ref4_Network at h
 refine fn_pure Try.func28 rfl (by kernel_rfl) ?_
 refine awp_seq (rg0 [0, 1, 4] 1 ⟨14, [(0, .int .u32 a0), (1, .int .i64 a1), (4, .ref 0 0)], [.box [.int .u32 0, .int .i64 0]]⟩ ?_)
 refine then_n (awp_seq (rg0 [0, 1, 4] 1 ⟨14, [(0, .int .u32 a0), (1, .int .i64 (if 0 > (if 32 < a1 then 32 else a1) then 0 else (if 32 < a1 then 32 else a1))), (4, .ref 0 0)], [.box [.int .u32 0, .int .i64 0]]⟩ ?_))
 refine then_n (awp_seq ?_)
 obtain ⟨r1, q1, h2⟩ := bind_some h
 refine rg [.pure (.int .u32 r1)] [4] 1 ⟨14, [(4, .ref 0 0)], [.box [.int .u32 (bitD .and .u32 a0 r1), .int .i64 (if 0 > (if 32 < a1 then 32 else a1) then 0 else (if 32 < a1 then 32 else a1))]]⟩ [] [⟨true, 72, [.int .i64 (if 0 > (if 32 < a1 then 32 else a1) then 0 else (if 32 < a1 then 32 else a1))], .pure (.int .u32 r1)⟩] nil_all ⟨fun _ => ref4_Mask_ok (if 0 > (if 32 < a1 then 32 else a1) then 0 else (if 32 < a1 then 32 else a1)) r1 q1, trivial⟩ ?_
 refine then_n (awp_ret ?_)
 obtain rfl := Option.some.inj h2
 exact er0 (.agg [.int .u32 (bitD .and .u32 a0 r1), .int .i64 (if 0 > (if 32 < a1 then 32 else a1) then 0 else (if 32 < a1 then 32 else a1))])

/- netverify/netverifyref4.Contains -/
theorem ref4_Contains_ok (a0 : TPrefix) (a1 : Int) (r : Bool) (h : M.ref4_Contains a0 a1 = some r) : Fn Try.prog 27 [.agg (c_TPrefix a0), .int .u32 a1] (.pure (.bool r)) := by
 unfold M.ref4_Contains at h
 refine fn_pure Try.func27 rfl (by kernel_rfl) ?_
 refine awp_seq (rg0 [1, 2] 1 ⟨13, [(1, .int .u32 a1), (2, .ref 0 0)], [.box (c_TPrefix a0)]⟩ ?_)
 refine then_n (awp_seq ?_)
 obtain ⟨r1, q1, h2⟩ := bind_some h
 refine rg [.pure (.int .u32 r1)] [4] 0 ⟨13, [(4, .bool ((bitD .and .u32 a1 r1) == a0.fAddr))], []⟩ [] [⟨true, 72, [.int .i64 a0.fLen], .pure (.int .u32 r1)⟩] nil_all ⟨fun _ => ref4_Mask_ok a0.fLen r1 q1, trivial⟩ ?_
 refine then_n (awp_ret ?_)
 obtain rfl := Option.some.inj h2
 exact er0 (.bool ((bitD .and .u32 a1 r1) == a0.fAddr))

/- netverify/netverifylaw5.ModelAddresses -/
theorem law5_ModelAddresses_ok (a0 : TNetwork) (a1 : Int) (r : Bool) (h : M.law5_ModelAddresses a0 a1 = some r) : Fn Try.prog 7 [.agg (c_TNetwork a0), .int .u32 a1] (.pure (.bool r)) := by
 unfold M.law5_ModelAddresses at h
 refine fn_pure Try.func7 rfl (by kernel_rfl) ?_
 refine awp_seq (rg0 [1, 2] 1 ⟨107, [(1, .int .u32 a1), (2, .ref 0 0)], [.box (c_TNetwork a0)]⟩ ?_)
 refine then_n (awp_seq (awp_seq (rg0 [1, 2, 15] 1 ⟨107, [(1, .int .u32 a1), (2, .ref 0 0), (15, .bool (decide ((a0.fRouters.length : Int) > 8)))], [.box (c_TNetwork a0)]⟩ ?_)))
 refine then_n ?_
 refine cnd (decide ((a0.fRouters.length : Int) > 8)) (fun b1 => ?_) (fun b1 => ?_)
 have h2 := cond_t b1 h
 refine awp_seq (rg0 [4] 0 ⟨107, [(4, .bool true)], []⟩ ?_)
 refine then_n (awp_ret (then_r ?_))
 obtain rfl := Option.some.inj h2
 exact er0 (.bool true)
 have h3 := cond_f b1 h
 refine awp_skip (then_n (awp_seq (awp_seq (rg0 [1, 2, 5] 1 ⟨107, [(1, .int .u32 a1), (2, .ref 0 0), (5, .int .i64 0)], [.box (c_TNetwork a0)]⟩ ?_))))
 refine then_n (awp_block ?_)
 obtain ⟨y4, q15, h16⟩ := bind_some h3
 refine awp_le (s' := ⟨107, [(1, .int .u32 a1), (2, .ref 0 0), (5, .int .i64 0)], [.box (c_TNetwork a0)]⟩) (le_rfl) ?_
 refine awp_mono (awp_loop (f := M.law5_ModelAddresses_l1 a0) (S := fun (p1 : Int) => ⟨107, [(1, .int .u32 a1), (2, .ref 0 0), (5, .int .i64 p1)], [.box (c_TNetwork a0)]⟩) (O := (Sum.elim (fun z => OutE 0 (fun z => ⟨107, [(1, .int .u32 a1), (2, .ref 0 0)], [.box (c_TNetwork a0)]⟩) z) (fun z => OutR Try.prog Try.f7 (.bool z)))) ?_ (x := 0) (y := y4) (loopM_iter q15)) ?_
 intro p1 y2 h4
 unfold M.law5_ModelAddresses_l1 at h4
 refine awp_seq (awp_seq (rg0 [1, 2, 5, 20] 1 ⟨107, [(1, .int .u32 a1), (2, .ref 0 0), (5, .int .i64 p1), (20, .bool (decide (p1 < (a0.fRouters.length : Int))))], [.box (c_TNetwork a0)]⟩ ?_))
 refine then_n ?_
 refine cnd (decide (p1 < (a0.fRouters.length : Int))) (fun b5 => ?_) (fun b5 => ?_)
 have h6 := cond_t b5 h4
 refine awp_skip (then_n (awp_seq (awp_block (awp_seq ?_))))
 obtain ⟨r3, q8, h9⟩ := bind_some h6
 obtain ⟨c10, h11⟩ := gd_some h9
 refine rg [.pure (.bool r3)] [1, 2, 5, 29] 1 ⟨107, [(1, .int .u32 a1), (2, .ref 0 0), (5, .int .i64 p1), (29, .bool (!r3))], [.box (c_TNetwork a0)]⟩ [decide (0 ≤ p1), decide (p1 < (a0.fRouters.length : Int))] [⟨true, 8, [.agg (c_TRouter (a0.fRouters.getD p1.toNat default))], .pure (.bool r3)⟩] c10 ⟨fun _ => law5_Small_ok (a0.fRouters.getD p1.toNat default) r3 q8, trivial⟩ ?_
 refine then_n ?_
 refine cnd (!r3) (fun b12 => ?_) (fun b12 => ?_)
 have h13 := cond_t b12 h11
 refine awp_seq (rg0 [4] 0 ⟨107, [(4, .bool true)], []⟩ ?_)
 refine then_n (awp_ret (inb_r (then_r ?_)))
 obtain rfl := Option.some.inj h13
 exact round_r ⟨rfl, er0 (.bool true)⟩
 have h14 := cond_f b12 h11
 refine awp_skip (inb_n (then_n (rg0 [1, 2, 5] 1 ⟨107, [(1, .int .u32 a1), (2, .ref 0 0), (5, .int .i64 (wr .i64 (p1 + 1)))], [.box (c_TNetwork a0)]⟩ ?_)))
 obtain rfl := Option.some.inj h14
 exact round_n (le_rfl)
 have h7 := cond_f b5 h4
 refine awp_exit (then_e ?_)
 obtain rfl := Option.some.inj h7
 exact round_e ⟨rfl, kp [1, 2]⟩
 intro e17 s18 o19
 rcases y4 with g5 | y6
 have h20 := elim_l h16
 obtain ⟨rfl, l22⟩ := o19
 refine inb_here ?_
 refine then_le (s' := ⟨107, [(1, .int .u32 a1), (2, .ref 0 0)], [.box (c_TNetwork a0)]⟩) (l22) ?_
 refine awp_seq (awp_seq ?_)
 obtain ⟨r7, q23, h24⟩ := bind_some h20
 refine rg [.pure (.int .i64 r7)] [1, 2, 32] 1 ⟨107, [(1, .int .u32 a1), (2, .ref 0 0), (32, .bool (r7 != 0))], [.box (c_TNetwork a0)]⟩ [] [⟨true, 25, [.agg (c_TNetwork a0)], .pure (.int .i64 r7)⟩] nil_all ⟨fun _ => model_Check_ok a0 r7 q23, trivial⟩ ?_
 refine then_n ?_
 refine cnd (r7 != 0) (fun b25 => ?_) (fun b25 => ?_)
 have h26 := cond_t b25 h24
 refine awp_seq ?_
 obtain ⟨r8, q28, h29⟩ := bind_some h26
 refine rg [.pure (.bool r8)] [4] 0 ⟨107, [(4, .bool r8)], []⟩ [] [⟨true, 10, [], .pure (.bool r8)⟩] nil_all ⟨fun _ => law5_sane_ok  r8 q28, trivial⟩ ?_
 refine then_n (awp_ret (then_r ?_))
 obtain rfl := Option.some.inj h29
 exact er0 (.bool r8)
 have h27 := cond_f b25 h24
 refine awp_skip (then_n (awp_seq (awp_seq (rg0 [1, 2, 6] 1 ⟨107, [(1, .int .u32 a1), (2, .ref 0 0), (6, .int .i64 0)], [.box (c_TNetwork a0)]⟩ ?_))))
 refine then_n (awp_block ?_)
 obtain ⟨y26, q88, h89⟩ := bind_some h27
 refine awp_le (s' := ⟨107, [(1, .int .u32 a1), (2, .ref 0 0), (6, .int .i64 0)], [.box (c_TNetwork a0)]⟩) (le_rfl) ?_
 refine awp_mono (awp_loop (f := M.law5_ModelAddresses_l2 a0 a1) (S := fun (p9 : Int) => ⟨107, [(1, .int .u32 a1), (2, .ref 0 0), (6, .int .i64 p9)], [.box (c_TNetwork a0)]⟩) (O := (Sum.elim (fun z => OutE 2 (fun z => ⟨107, [], []⟩) z) (fun z => OutR Try.prog Try.f7 (.bool z)))) ?_ (x := 0) (y := y26) (loopM_iter q88)) ?_
 intro p9 y10 h30
 unfold M.law5_ModelAddresses_l2 at h30
 refine awp_seq (awp_seq (rg0 [1, 2, 6, 38] 1 ⟨107, [(1, .int .u32 a1), (2, .ref 0 0), (6, .int .i64 p9), (38, .bool (decide (p9 < (a0.fRouters.length : Int))))], [.box (c_TNetwork a0)]⟩ ?_))
 refine then_n ?_
 refine cnd (decide (p9 < (a0.fRouters.length : Int))) (fun b31 => ?_) (fun b31 => ?_)
 have h32 := cond_t b31 h30
 refine awp_skip (then_n (awp_seq (awp_block (awp_seq (rg0 [1, 2, 6, 7] 1 ⟨107, [(1, .int .u32 a1), (2, .ref 0 0), (6, .int .i64 p9), (7, .int .i64 0)], [.box (c_TNetwork a0)]⟩ ?_)))))
 refine then_n (awp_seq (awp_seq (rg0 [1, 2, 6, 7, 8] 1 ⟨107, [(1, .int .u32 a1), (2, .ref 0 0), (6, .int .i64 p9), (7, .int .i64 0), (8, .int .i64 0)], [.box (c_TNetwork a0)]⟩ ?_)))
 refine then_n (awp_block ?_)
 obtain ⟨y23, q76, h77⟩ := bind_some h32
 refine awp_le (s' := ⟨107, [(1, .int .u32 a1), (2, .ref 0 0), (6, .int .i64 p9), (7, .int .i64 0), (8, .int .i64 0)], [.box (c_TNetwork a0)]⟩) (le_rfl) ?_
 refine awp_mono (awp_loop (f := M.law5_ModelAddresses_l3 a0 a1 p9) (S := fun (p11 : Int × Int) => ⟨107, [(1, .int .u32 a1), (2, .ref 0 0), (6, .int .i64 p9), (7, .int .i64 p11.1), (8, .int .i64 p11.2)], [.box (c_TNetwork a0)]⟩) (O := (Sum.elim (fun z => OutE 4 (fun z => ⟨107, [(1, .int .u32 a1), (2, .ref 0 0), (6, .int .i64 p9), (7, .int .i64 z)], [.box (c_TNetwork a0)]⟩) z) (fun z => OutR Try.prog Try.f7 (.bool z)))) ?_ (x := (0, 0)) (y := y23) (loopM_iter q76)) ?_
 intro p11 y12 h34
 unfold M.law5_ModelAddresses_l3 at h34
 refine awp_seq (awp_seq ?_)
 obtain ⟨c35, h36⟩ := gd_some h34
 refine rgc [1, 2, 6, 7, 8, 49] 1 ⟨107, [(1, .int .u32 a1), (2, .ref 0 0), (6, .int .i64 p9), (7, .int .i64 p11.1), (8, .int .i64 p11.2), (49, .bool (decide (p11.2 < (((a0.fRouters.getD p9.toNat default).fInterfaces).length : Int))))], [.box (c_TNetwork a0)]⟩ [decide (0 ≤ p9), decide (p9 < (a0.fRouters.length : Int))] c35 ?_
 refine then_n ?_
 refine cnd (decide (p11.2 < (((a0.fRouters.getD p9.toNat default).fInterfaces).length : Int))) (fun b37 => ?_) (fun b37 => ?_)
 have h38 := cond_t b37 h36
 refine awp_skip (then_n ?_)
 refine awp_join (fun (p13 : Int) => ⟨107, [(1, .int .u32 a1), (2, .ref 0 0), (6, .int .i64 p9), (7, .int .i64 p13), (8, .int .i64 p11.2)], [.box (c_TNetwork a0)]⟩) (fun p13 => M.law5_ModelAddresses_k1 p11 p13 = some y12) ?_ ?_
 intro p13 h41
 unfold M.law5_ModelAddresses_k1 at h41
 refine rg0 [1, 2, 6, 7, 8] 1 ⟨107, [(1, .int .u32 a1), (2, .ref 0 0), (6, .int .i64 p9), (7, .int .i64 p13), (8, .int .i64 (wr .i64 (p11.2 + 1)))], [.box (c_TNetwork a0)]⟩ ?_
 obtain rfl := Option.some.inj h41
 exact round_n (le_rfl)
 intro k40
 refine awp_block (awp_seq ?_)
 obtain ⟨c42, h43⟩ := gd_some h38
 refine rgc [1, 2, 6, 7, 8, 9] 2 ⟨107, [(1, .int .u32 a1), (2, .ref 0 0), (6, .int .i64 p9), (7, .int .i64 p11.1), (8, .int .i64 p11.2), (9, .ref 1 0)], [.box (c_TNetwork a0), .box (c_TInterface (((a0.fRouters.getD p9.toNat default).fInterfaces).getD p11.2.toNat default))]⟩ [decide (0 ≤ p9), decide (p9 < (a0.fRouters.length : Int)), decide (0 ≤ p11.2), decide (p11.2 < (((a0.fRouters.getD p9.toNat default).fInterfaces).length : Int))] c42 ?_
 refine then_n (awp_seq (awp_seq (rg0 [1, 2, 6, 7, 8, 9, 63] 2 ⟨107, [(1, .int .u32 a1), (2, .ref 0 0), (6, .int .i64 p9), (7, .int .i64 p11.1), (8, .int .i64 p11.2), (9, .ref 1 0), (63, .bool (((((a0.fRouters.getD p9.toNat default).fInterfaces).getD p11.2.toNat default).fLen) == 0))], [.box (c_TNetwork a0), .box (c_TInterface (((a0.fRouters.getD p9.toNat default).fInterfaces).getD p11.2.toNat default))]⟩ ?_)))
 refine then_n ?_
 refine cnd (((((a0.fRouters.getD p9.toNat default).fInterfaces).getD p11.2.toNat default).fLen) == 0) (fun b44 => ?_) (fun b44 => ?_)
 have h45 := cond_t b44 h43
 refine awp_exit (then_e (inb_here ?_))
 exact then_le (Le.trans (s' := ⟨107, [(1, .int .u32 a1), (2, .ref 0 0), (6, .int .i64 p9), (7, .int .i64 p11.1), (8, .int .i64 p11.2)], [.box (c_TNetwork a0), .box (c_TInterface (((a0.fRouters.getD p9.toNat default).fInterfaces).getD p11.2.toNat default))]⟩) (kp [1, 2, 6, 7, 8]) (le_cut (n := 1) (by kernel_rfl))) (k40 p11.1 h45)
 have h46 := cond_f b44 h43
 refine awp_skip (then_n ?_)
 refine awp_join (fun (p14 : Int) => ⟨107, [(1, .int .u32 a1), (2, .ref 0 0), (6, .int .i64 p9), (7, .int .i64 p14), (8, .int .i64 p11.2), (9, .ref 1 0)], [.box (c_TNetwork a0), .box (c_TInterface (((a0.fRouters.getD p9.toNat default).fInterfaces).getD p11.2.toNat default))]⟩) (fun p14 => M.law5_ModelAddresses_k2 a0 p9 p11 p14 = some y12) ?_ ?_
 intro p14 h48
 unfold M.law5_ModelAddresses_k2 at h48
 refine awp_seq (rg0 [1, 2, 6, 7, 8, 9, 10] 2 ⟨107, [(1, .int .u32 a1), (2, .ref 0 0), (6, .int .i64 p9), (7, .int .i64 p14), (8, .int .i64 p11.2), (9, .ref 1 0), (10, .int .i64 0)], [.box (c_TNetwork a0), .box (c_TInterface (((a0.fRouters.getD p9.toNat default).fInterfaces).getD p11.2.toNat default))]⟩ ?_)
 refine then_n (awp_block ?_)
 obtain ⟨y18, q60, h61⟩ := bind_some h48
 refine awp_le (s' := ⟨107, [(1, .int .u32 a1), (2, .ref 0 0), (6, .int .i64 p9), (7, .int .i64 p14), (8, .int .i64 p11.2), (9, .ref 1 0), (10, .int .i64 0)], [.box (c_TNetwork a0), .box (c_TInterface (((a0.fRouters.getD p9.toNat default).fInterfaces).getD p11.2.toNat default))]⟩) (le_rfl) ?_
 refine awp_mono (awp_loop (f := M.law5_ModelAddresses_l4 a0 p9 p11) (S := fun (p15 : Int) => ⟨107, [(1, .int .u32 a1), (2, .ref 0 0), (6, .int .i64 p9), (7, .int .i64 p14), (8, .int .i64 p11.2), (9, .ref 1 0), (10, .int .i64 p15)], [.box (c_TNetwork a0), .box (c_TInterface (((a0.fRouters.getD p9.toNat default).fInterfaces).getD p11.2.toNat default))]⟩) (O := (Sum.elim (fun z => OutE 6 (fun z => ⟨107, [(1, .int .u32 a1), (2, .ref 0 0), (6, .int .i64 p9), (7, .int .i64 p14), (8, .int .i64 p11.2)], [.box (c_TNetwork a0)]⟩) z) (fun z => OutR Try.prog Try.f7 (.bool z)))) ?_ (x := 0) (y := y18) (loopM_iter q60)) ?_
 intro p15 y16 h49
 unfold M.law5_ModelAddresses_l4 at h49
 refine awp_seq (awp_seq (rg0 [1, 2, 6, 7, 8, 9, 10, 77] 2 ⟨107, [(1, .int .u32 a1), (2, .ref 0 0), (6, .int .i64 p9), (7, .int .i64 p14), (8, .int .i64 p11.2), (9, .ref 1 0), (10, .int .i64 p15), (77, .bool (decide (p15 < (a0.fRouters.length : Int))))], [.box (c_TNetwork a0), .box (c_TInterface (((a0.fRouters.getD p9.toNat default).fInterfaces).getD p11.2.toNat default))]⟩ ?_))
 refine then_n ?_
 refine cnd (decide (p15 < (a0.fRouters.length : Int))) (fun b50 => ?_) (fun b50 => ?_)
 have h51 := cond_t b50 h49
 refine awp_skip (then_n (awp_seq (awp_block (awp_seq ?_))))
 obtain ⟨r17, q53, h54⟩ := bind_some h51
 obtain ⟨c55, h56⟩ := gd_some h54
 refine rg [.pure (.int .i64 r17)] [1, 2, 6, 7, 8, 9, 10, 11] 2 ⟨107, [(1, .int .u32 a1), (2, .ref 0 0), (6, .int .i64 p9), (7, .int .i64 p14), (8, .int .i64 p11.2), (9, .ref 1 0), (10, .int .i64 p15), (11, .int .i64 r17)], [.box (c_TNetwork a0), .box (c_TInterface (((a0.fRouters.getD p9.toNat default).fInterfaces).getD p11.2.toNat default))]⟩ [decide (0 ≤ p15), decide (p15 < (a0.fRouters.length : Int))] [⟨true, 23, [.agg (c_TRouter (a0.fRouters.getD p15.toNat default)), .int .u32 ((((a0.fRouters.getD p9.toNat default).fInterfaces).getD p11.2.toNat default).fAddr)], .pure (.int .i64 r17)⟩] c55 ⟨fun _ => model_Address_ok (a0.fRouters.getD p15.toNat default) ((((a0.fRouters.getD p9.toNat default).fInterfaces).getD p11.2.toNat default).fAddr) r17 q53, trivial⟩ ?_
 refine then_n (awp_seq (rg0 [1, 2, 6, 7, 8, 9, 10, 103] 2 ⟨107, [(1, .int .u32 a1), (2, .ref 0 0), (6, .int .i64 p9), (7, .int .i64 p14), (8, .int .i64 p11.2), (9, .ref 1 0), (10, .int .i64 p15), (103, .bool ((!((p15 == p9) == (decide (r17 ≥ 0)))) || ((p15 == p9) && (r17 != p11.2))))], [.box (c_TNetwork a0), .box (c_TInterface (((a0.fRouters.getD p9.toNat default).fInterfaces).getD p11.2.toNat default))]⟩ ?_))
 refine then_n ?_
 refine cnd ((!((p15 == p9) == (decide (r17 ≥ 0)))) || ((p15 == p9) && (r17 != p11.2))) (fun b57 => ?_) (fun b57 => ?_)
 have h58 := cond_t b57 h56
 refine awp_seq (rg0 [4] 0 ⟨107, [(4, .bool false)], []⟩ ?_)
 refine then_n (awp_ret (inb_r (then_r ?_)))
 obtain rfl := Option.some.inj h58
 exact round_r ⟨rfl, er0 (.bool false)⟩
 have h59 := cond_f b57 h56
 refine awp_skip (inb_n (then_n (rg0 [1, 2, 6, 7, 8, 9, 10] 2 ⟨107, [(1, .int .u32 a1), (2, .ref 0 0), (6, .int .i64 p9), (7, .int .i64 p14), (8, .int .i64 p11.2), (9, .ref 1 0), (10, .int .i64 (wr .i64 (p15 + 1)))], [.box (c_TNetwork a0), .box (c_TInterface (((a0.fRouters.getD p9.toNat default).fInterfaces).getD p11.2.toNat default))]⟩ ?_)))
 obtain rfl := Option.some.inj h59
 exact round_n (le_rfl)
 have h52 := cond_f b50 h49
 refine awp_exit (then_e ?_)
 obtain rfl := Option.some.inj h52
 exact round_e ⟨rfl, Le.trans (s' := ⟨107, [(1, .int .u32 a1), (2, .ref 0 0), (6, .int .i64 p9), (7, .int .i64 p14), (8, .int .i64 p11.2)], [.box (c_TNetwork a0), .box (c_TInterface (((a0.fRouters.getD p9.toNat default).fInterfaces).getD p11.2.toNat default))]⟩) (kp [1, 2, 6, 7, 8]) (le_cut (n := 1) (by kernel_rfl))⟩
 intro e62 s63 o64
 rcases y18 with g19 | y20
 have h65 := elim_l h61
 obtain ⟨rfl, l67⟩ := o64
 refine inb_here (inb_n ?_)
 exact then_le (l67) (k40 p14 h65)
 have h66 := elim_r h61
 obtain ⟨rfl, n68⟩ := o64
 refine inb_r (inb_r (then_r ?_))
 obtain rfl := Option.some.inj h66
 exact round_r ⟨rfl, n68⟩
 intro k47
 refine awp_seq ?_
 obtain ⟨r21, q69, h70⟩ := bind_some h46
 obtain ⟨r22, q71, h72⟩ := bind_some h70
 refine rg [.pure (.agg (c_TPrefix r21)), .pure (.bool r22)] [1, 2, 6, 7, 8, 9, 70] 2 ⟨107, [(1, .int .u32 a1), (2, .ref 0 0), (6, .int .i64 p9), (7, .int .i64 p11.1), (8, .int .i64 p11.2), (9, .ref 1 0), (70, .bool r22)], [.box (c_TNetwork a0), .box (c_TInterface (((a0.fRouters.getD p9.toNat default).fInterfaces).getD p11.2.toNat default))]⟩ [] [⟨true, 28, [.int .u32 ((((a0.fRouters.getD p9.toNat default).fInterfaces).getD p11.2.toNat default).fAddr), .int .i64 ((((a0.fRouters.getD p9.toNat default).fInterfaces).getD p11.2.toNat default).fLen)], .pure (.agg (c_TPrefix r21))⟩, ⟨true, 27, [.agg (c_TPrefix r21), .int .u32 a1], .pure (.bool r22)⟩] nil_all ⟨fun _ => ref4_Network_ok ((((a0.fRouters.getD p9.toNat default).fInterfaces).getD p11.2.toNat default).fAddr) ((((a0.fRouters.getD p9.toNat default).fInterfaces).getD p11.2.toNat default).fLen) r21 q69, fun _ => ref4_Contains_ok r21 a1 r22 q71, trivial⟩ ?_
 refine then_n ?_
 refine cnd r22 (fun b73 => ?_) (fun b73 => ?_)
 have h74 := cond_t b73 h72
 refine rg0 [1, 2, 6, 7, 8, 9] 2 ⟨107, [(1, .int .u32 a1), (2, .ref 0 0), (6, .int .i64 p9), (7, .int .i64 (wr .i64 (p11.1 + 1))), (8, .int .i64 p11.2), (9, .ref 1 0)], [.box (c_TNetwork a0), .box (c_TInterface (((a0.fRouters.getD p9.toNat default).fInterfaces).getD p11.2.toNat default))]⟩ ?_
 exact then_le (le_rfl) (k47 (wr .i64 (p11.1 + 1)) h74)
 have h75 := cond_f b73 h72
 refine awp_skip ?_
 exact then_le (kp [1, 2, 6, 7, 8, 9]) (k47 p11.1 h75)
 have h39 := cond_f b37 h36
 refine awp_exit (then_e ?_)
 obtain rfl := Option.some.inj h39
 exact round_e ⟨rfl, kp [1, 2, 6, 7]⟩
 intro e78 s79 o80
 rcases y23 with g24 | y25
 have h81 := elim_l h77
 obtain ⟨rfl, l83⟩ := o80
 refine inb_here ?_
 refine then_le (s' := ⟨107, [(1, .int .u32 a1), (2, .ref 0 0), (6, .int .i64 p9), (7, .int .i64 g24)], [.box (c_TNetwork a0)]⟩) (l83) ?_
 refine awp_seq (rg0 [1, 2, 6, 105] 1 ⟨107, [(1, .int .u32 a1), (2, .ref 0 0), (6, .int .i64 p9), (105, .bool (decide (g24 > 1)))], [.box (c_TNetwork a0)]⟩ ?_)
 refine then_n ?_
 refine cnd (decide (g24 > 1)) (fun b84 => ?_) (fun b84 => ?_)
 have h85 := cond_t b84 h81
 refine awp_seq (rg0 [4] 0 ⟨107, [(4, .bool false)], []⟩ ?_)
 refine then_n (awp_ret (inb_r (then_r ?_)))
 obtain rfl := Option.some.inj h85
 exact round_r ⟨rfl, er0 (.bool false)⟩
 have h86 := cond_f b84 h81
 refine awp_skip (inb_n (then_n (rg0 [1, 2, 6] 1 ⟨107, [(1, .int .u32 a1), (2, .ref 0 0), (6, .int .i64 (wr .i64 (p9 + 1)))], [.box (c_TNetwork a0)]⟩ ?_)))
 obtain rfl := Option.some.inj h86
 exact round_n (le_rfl)
 have h82 := elim_r h77
 obtain ⟨rfl, n87⟩ := o80
 refine inb_r (then_r (inb_r (then_r ?_)))
 obtain rfl := Option.some.inj h82
 exact round_r ⟨rfl, n87⟩
 have h33 := cond_f b31 h30
 refine awp_exit (then_e ?_)
 obtain rfl := Option.some.inj h33
 exact round_e ⟨rfl, Le.trans (s' := ⟨107, [], [.box (c_TNetwork a0)]⟩) (kp []) (le_cut (n := 0) (by kernel_rfl))⟩
 intro e90 s91 o92
 rcases y26 with g27 | y28
 have h93 := elim_l h89
 obtain ⟨rfl, l95⟩ := o92
 refine inb_here ?_
 refine then_le (s' := ⟨107, [], []⟩) (l95) ?_
 refine awp_seq ?_
 obtain ⟨r29, q96, h97⟩ := bind_some h93
 refine rg [.pure (.bool r29)] [4] 0 ⟨107, [(4, .bool r29)], []⟩ [] [⟨true, 10, [], .pure (.bool r29)⟩] nil_all ⟨fun _ => law5_sane_ok  r29 q96, trivial⟩ ?_
 refine then_n (awp_ret ?_)
 obtain rfl := Option.some.inj h97
 exact er0 (.bool r29)
 have h94 := elim_r h89
 obtain ⟨rfl, n98⟩ := o92
 refine inb_r (then_r ?_)
 obtain rfl := Option.some.inj h94
 exact n98
 have h21 := elim_r h16
 obtain ⟨rfl, n99⟩ := o19
 refine inb_r (then_r ?_)
 obtain rfl := Option.some.inj h21
 exact n99
end Nv
