/- The walks: each function computes its mirror. -/
import Derived.Test.YtkonldpliejgpaaProg
import Derived.Test.YtkonldpliejgpaaNvD1
import Derived.Test.YtkonldpliejgpaaNvM1a
import Derived.Test.YtkonldpliejgpaaNvFrz
import Derived.KernelRfl
set_option maxRecDepth 100000
namespace Nv
open Go Go.Proofs
/- netverify/route.Merge -/
theorem route_Merge_ok (a0 : List TRoute) (r : (List TRoute)) (h : M.route_Merge a0 = some r) : Fn Try.prog 19 [sL 14 c_TRoute a0] (.pure (sL 14 c_TRoute r)) := by
 unfold M.route_Merge at h
 refine fn_pure Try.func19 rfl (by kernel_rfl) ?_
 refine awp_seq (rg0 [0] 0 ⟨46, [(0, sL 14 c_TRoute a0)], []⟩ ?_)
 refine then_n (awp_seq ?_)
 obtain ⟨r1, q1, h2⟩ := bind_some h
 refine rg [oL 14 c_TRoute r1] [3] 1 ⟨46, [(3, .asl 0 0 r1.length)], [aL 14 c_TRoute r1]⟩ [] [⟨true, 52, [sL 14 c_TRoute a0], oL 14 c_TRoute r1⟩] nil_all ⟨fun _ => slices_Clone_api_Route_api_Route_own a0 r1 q1, trivial⟩ ?_
 refine then_n (awp_seq ?_)
 obtain ⟨r2, q3, h4⟩ := bind_some h2
 obtain ⟨c5, h6⟩ := gd_some h4
 refine rg [.lnd 0 0 (fun _ => []) (fun i => c_TRoute (r2.getD i default)) (.tup [])] [3] 1 ⟨46, [(3, .asl 0 0 r1.length)], [.arr 14 r1.length (fun i => c_TRoute (r2.getD i default))]⟩ [] [⟨true, 53, [.asl 0 0 r1.length, .fn 54 []], .lnd 14 r1.length (fun i => c_TRoute (r1.getD i default)) (fun i => c_TRoute (r2.getD i default)) (.tup [])⟩] nil_all ⟨fun _ => slices_SortStableFunc_api_Route_api_Route__route_Merge_1_ok r1 r2 q3, trivial⟩ ?_
 refine then_le (s' := ⟨46, [(3, .asl 0 0 r2.length)], [aL 14 c_TRoute r2]⟩) (le_sub (.cons (asl_len (len_eq (c5 _ List.mem_cons_self))) .nil) (.cons (.arr (len_eq (c5 _ List.mem_cons_self)) (fun _ _ => rfl)) .nil)) ?_
 refine awp_seq ?_
 refine awp_le (s' := ⟨46, [(3, sL 14 c_TRoute r2)], [aL 14 c_TRoute ([] : List TRoute)]⟩) (Le.trans (le_frz 3 0 14 c_TRoute r2 (fun i => c_TRoute (([] : List TRoute).getD i default)) (by kernel_rfl) (by kernel_rfl) (by kernel_rfl)) (kp [3])) ?_
 refine rg0 [3, 4] 0 ⟨46, [(3, sL 14 c_TRoute r2), (4, .sl true 14 0 (fun _ => []))], []⟩ ?_
 refine then_n (awp_seq (awp_seq (rg0 [3, 4, 5] 0 ⟨46, [(3, sL 14 c_TRoute r2), (4, .sl true 14 0 (fun _ => [])), (5, .int .i64 0)], []⟩ ?_)))
 refine then_n (awp_block ?_)
 refine awp_le (s' := ⟨46, [(3, sL 14 c_TRoute r2), (4, .sl true 14 0 (fun _ => [])), (5, .int .i64 0)], []⟩) (le_rfl) ?_
 refine awp_le (s' := ⟨46, [(3, sL 14 c_TRoute r2), (4, .asl 0 0 (([] : List TRoute).length)), (5, .int .i64 0)], [aL 14 c_TRoute ([] : List TRoute)]⟩) (Le.trans (s' := ⟨46, (4, .asl 0 0 0) :: [(3, sL 14 c_TRoute r2), (4, .sl true 14 0 (fun _ => [])), (5, .int .i64 0)], [] ++ [.arr 14 0 (fun i => c_TRoute (([] : List TRoute).getD i default))]⟩) (le_thaw (wd := 14) (f := fun _ => []) 4 (by kernel_rfl) _ _) (kp [3, 4, 5])) ?_
 obtain ⟨y9, q27, h28⟩ := bind_some h6
 refine awp_le (s' := ⟨46, [(3, sL 14 c_TRoute r2), (4, .asl 0 0 (([] : List TRoute).length)), (5, .int .i64 0)], [aL 14 c_TRoute ([] : List TRoute)]⟩) (le_rfl) ?_
 refine awp_mono (awp_loop (f := M.route_Merge_l1 r2) (S := fun (p3 : (List TRoute) × Int) => ⟨46, [(3, sL 14 c_TRoute r2), (4, .asl 0 0 p3.1.length), (5, .int .i64 p3.2)], [aL 14 c_TRoute p3.1]⟩) (O := (fun z => OutE 0 (fun z => ⟨46, [(4, .asl 0 0 z.length)], [aL 14 c_TRoute z]⟩) z)) ?_ (x := (([] : List TRoute), 0)) (y := y9) (loopM_iter q27)) ?_
 intro p3 y4 h7
 unfold M.route_Merge_l1 at h7
 refine awp_seq (awp_seq (rg0 [3, 4, 5, 14] 1 ⟨46, [(3, sL 14 c_TRoute r2), (4, .asl 0 0 p3.1.length), (5, .int .i64 p3.2), (14, .bool (decide (p3.2 < (r2.length : Int))))], [aL 14 c_TRoute p3.1]⟩ ?_))
 refine then_n ?_
 refine cnd (decide (p3.2 < (r2.length : Int))) (fun b8 => ?_) (fun b8 => ?_)
 have h9 := cond_t b8 h7
 refine awp_skip (then_n (awp_block (awp_seq (rg0 [3, 4, 5, 6] 1 ⟨46, [(3, sL 14 c_TRoute r2), (4, .asl 0 0 p3.1.length), (5, .int .i64 p3.2), (6, .int .i64 (wr .i64 (p3.2 + 1)))], [aL 14 c_TRoute p3.1]⟩ ?_))))
 refine then_n (awp_seq (awp_block ?_))
 obtain ⟨y7, q17, h18⟩ := bind_some h9
 refine awp_le (s' := ⟨46, [(3, sL 14 c_TRoute r2), (4, .asl 0 0 p3.1.length), (5, .int .i64 p3.2), (6, .int .i64 (wr .i64 (p3.2 + 1)))], [aL 14 c_TRoute p3.1]⟩) (le_rfl) ?_
 refine awp_mono (awp_loop (f := M.route_Merge_l2 r2 p3) (S := fun (p5 : Int) => ⟨46, [(3, sL 14 c_TRoute r2), (4, .asl 0 0 p3.1.length), (5, .int .i64 p3.2), (6, .int .i64 p5)], [aL 14 c_TRoute p3.1]⟩) (O := (fun z => OutE 2 (fun z => ⟨46, [(3, sL 14 c_TRoute r2), (4, .asl 0 0 p3.1.length), (5, .int .i64 p3.2), (6, .int .i64 z)], [aL 14 c_TRoute p3.1]⟩) z)) ?_ (x := (wr .i64 (p3.2 + 1))) (y := y7) (loopM_iter q17)) ?_
 intro p5 y6 h11
 unfold M.route_Merge_l2 at h11
 refine awp_seq (awp_seq ?_)
 obtain ⟨c12, h13⟩ := gd_some h11
 refine rgc [3, 4, 5, 6, 33] 1 ⟨46, [(3, sL 14 c_TRoute r2), (4, .asl 0 0 p3.1.length), (5, .int .i64 p3.2), (6, .int .i64 p5), (33, .bool ((decide (p5 < (r2.length : Int))) && (((((r2.getD p5.toNat default).fPrefix).fAddr) == (((r2.getD p3.2.toNat default).fPrefix).fAddr)) && (((((r2.getD p5.toNat default).fPrefix).fLen) == (((r2.getD p3.2.toNat default).fPrefix).fLen)) && true))))], [aL 14 c_TRoute p3.1]⟩ [guardB (decide (p5 < (r2.length : Int))) (decide (0 ≤ p5)), guardB (decide (p5 < (r2.length : Int))) (decide (p5 < (r2.length : Int))), guardB (decide (p5 < (r2.length : Int))) (decide (0 ≤ p3.2)), guardB (decide (p5 < (r2.length : Int))) (decide (p3.2 < (r2.length : Int)))] c12 ?_
 refine then_n ?_
 refine cnd ((decide (p5 < (r2.length : Int))) && (((((r2.getD p5.toNat default).fPrefix).fAddr) == (((r2.getD p3.2.toNat default).fPrefix).fAddr)) && (((((r2.getD p5.toNat default).fPrefix).fLen) == (((r2.getD p3.2.toNat default).fPrefix).fLen)) && true))) (fun b14 => ?_) (fun b14 => ?_)
 have h15 := cond_t b14 h13
 refine awp_skip (then_n (awp_block (rg0 [3, 4, 5, 6] 1 ⟨46, [(3, sL 14 c_TRoute r2), (4, .asl 0 0 p3.1.length), (5, .int .i64 p3.2), (6, .int .i64 (wr .i64 (p5 + 1)))], [aL 14 c_TRoute p3.1]⟩ ?_)))
 refine inb_n ?_
 obtain rfl := Option.some.inj h15
 exact round_n (le_rfl)
 have h16 := cond_f b14 h13
 refine awp_exit (then_e ?_)
 obtain rfl := Option.some.inj h16
 exact round_e ⟨rfl, kp [3, 4, 5, 6]⟩
 intro e19 s20 o21
 obtain ⟨rfl, l22⟩ := o21
 refine inb_here ?_
 refine then_le (s' := ⟨46, [(3, sL 14 c_TRoute r2), (4, .asl 0 0 p3.1.length), (5, .int .i64 p3.2), (6, .int .i64 y7)], [aL 14 c_TRoute p3.1]⟩) (l22) ?_
 refine awp_seq ?_
 obtain ⟨r8, q23, h24⟩ := bind_some h18
 obtain ⟨c25, h26⟩ := gd_some h24
 refine rg [.pure (.agg (c_TRoute r8))] [3, 4, 6] 1 ⟨46, [(3, sL 14 c_TRoute r2), (4, .asl 0 0 (p3.1.length + 1)), (6, .int .i64 y7)], [.arr 14 (p3.1.length + 1) (app (fun i => c_TRoute (p3.1.getD i default)) p3.1.length (fun i => List.take 14 (List.drop (i * 14) [.int .u32 r8.fPrefix.fAddr, .int .i64 r8.fPrefix.fLen, .int .i64 r8.fProto, .int .i64 r8.fClass, .int .i64 r8.fAdmin, .int .i64 r8.fMetric, .int .i64 r8.fInner, .int .i64 r8.fTag, .int .i64 r8.fPref, sL 1 (ci .i64) r8.fPath, .int .u32 r8.fFrom, .int .u32 r8.fNext, sL 2 c_THop r8.fHops, .bool r8.fDiscard])))]⟩ [decide (0 ≤ y7), decide (y7 ≤ (r2.length : Int)), decide (0 ≤ p3.2), decide (p3.2 ≤ (y7.toNat : Int)), decide ((p3.1.length + 1) * 136 ≤ 140737488355328)] [⟨true, 56, [.sl false 14 (y7.toNat - p3.2.toNat) (fun i => c_TRoute (r2.getD (p3.2.toNat + i) default))], .pure (.agg (c_TRoute r8))⟩] c25 ⟨fun _ => (route_mergeOne_ok ((r2.drop p3.2.toNat).take (y7.toNat - p3.2.toNat)) r8 q23).args (.cons (asub_sl (len_cut _ _ _ (cut_hi (c25 _ (List.mem_cons_of_mem _ List.mem_cons_self)))) (cut_ext _ _ _ _)) .nil), trivial⟩ ?_
 refine then_le (s' := ⟨46, [(3, sL 14 c_TRoute r2), (4, .asl 0 0 ((p3.1 ++ [r8]).length)), (6, .int .i64 y7)], [aL 14 c_TRoute (p3.1 ++ [r8])]⟩) (le_sub (.cons Sub.rfl (.cons (asl_len (len_snoc _ _)) (.cons Sub.rfl .nil))) (.cons (.arr (len_snoc _ _) (app_snoc c_TRoute p3.1 r8 _ rfl)) .nil)) ?_
 refine rg0 [3, 4, 5] 1 ⟨46, [(3, sL 14 c_TRoute r2), (4, .asl 0 0 ((p3.1 ++ [r8]).length)), (5, .int .i64 y7)], [aL 14 c_TRoute (p3.1 ++ [r8])]⟩ ?_
 refine inb_n ?_
 obtain rfl := Option.some.inj h26
 exact round_n (le_rfl)
 have h10 := cond_f b8 h7
 refine awp_exit (then_e ?_)
 obtain rfl := Option.some.inj h10
 exact round_e ⟨rfl, kp [4]⟩
 intro e29 s30 o31
 obtain ⟨rfl, l32⟩ := o31
 refine inb_here ?_
 refine then_le (s' := ⟨46, [(4, .asl 0 0 y9.length)], [aL 14 c_TRoute y9]⟩) (l32) ?_
 refine awp_seq (rg0 [2] 1 ⟨46, [(2, .asl 0 0 y9.length)], [aL 14 c_TRoute y9]⟩ ?_)
 refine then_n (awp_ret ?_)
 obtain rfl := Option.some.inj h28
 exact er (.sl false 14 y9.length (fun i => c_TRoute (y9.getD (0 + i) default))) sub_asl

/- netverify/addr.Contains -/
theorem addr_Contains_ok (a0 : TPrefix) (a1 : Int) (r : Bool) (h : M.addr_Contains a0 a1 = some r) : Fn Try.prog 58 [.agg (c_TPrefix a0), .int .u32 a1] (.pure (.bool r)) := by
 unfold M.addr_Contains at h
 refine fn_pure Try.func58 rfl (by kernel_rfl) ?_
 refine awp_seq (rg0 [1, 2] 1 ⟨13, [(1, .int .u32 a1), (2, .ref 0 0)], [.box (c_TPrefix a0)]⟩ ?_)
 refine then_n (awp_seq ?_)
 obtain ⟨r1, q1, h2⟩ := bind_some h
 refine rg [.pure (.int .u32 r1)] [4] 0 ⟨13, [(4, .bool ((bitD .and .u32 a1 r1) == a0.fAddr))], []⟩ [] [⟨true, 76, [.int .i64 a0.fLen], .pure (.int .u32 r1)⟩] nil_all ⟨fun _ => addr_Mask_ok a0.fLen r1 q1, trivial⟩ ?_
 refine then_n (awp_ret ?_)
 obtain rfl := Option.some.inj h2
 exact er0 (.bool ((bitD .and .u32 a1 r1) == a0.fAddr))

/- netverify/route.Longest -/
theorem route_Longest_ok (a0 : List TRoute) (a1 : Int) (r : Int) (h : M.route_Longest a0 a1 = some r) : Fn Try.prog 22 [sL 14 c_TRoute a0, .int .u32 a1] (.pure (.int .i64 r)) := by
 unfold M.route_Longest at h
 refine fn_pure Try.func22 rfl (by kernel_rfl) ?_
 refine awp_seq (rg0 [0, 1] 0 ⟨38, [(0, sL 14 c_TRoute a0), (1, .int .u32 a1)], []⟩ ?_)
 refine then_n (awp_seq (rg0 [0, 1, 5] 0 ⟨38, [(0, sL 14 c_TRoute a0), (1, .int .u32 a1), (5, .int .i64 (-1))], []⟩ ?_))
 refine then_n (awp_seq (awp_seq (rg0 [0, 1, 5, 8, 9, 10] 0 ⟨38, [(0, sL 14 c_TRoute a0), (1, .int .u32 a1), (5, .int .i64 (-1)), (8, sL 14 c_TRoute a0), (9, .int .i64 (a0.length : Int)), (10, .int .i64 0)], []⟩ ?_)))
 refine then_n (awp_block ?_)
 obtain ⟨y5, q16, h17⟩ := bind_some h
 refine awp_le (s' := ⟨38, [(0, sL 14 c_TRoute a0), (1, .int .u32 a1), (5, .int .i64 (-1)), (8, sL 14 c_TRoute a0), (9, .int .i64 (a0.length : Int)), (10, .int .i64 0)], []⟩) (le_rfl) ?_
 refine awp_mono (awp_loop (f := M.route_Longest_l1 a0 a1) (S := fun (p1 : Int × Int) => ⟨38, [(0, sL 14 c_TRoute a0), (1, .int .u32 a1), (5, .int .i64 p1.1), (8, sL 14 c_TRoute a0), (9, .int .i64 (a0.length : Int)), (10, .int .i64 p1.2)], []⟩) (O := (fun z => OutE 0 (fun z => ⟨38, [(5, .int .i64 z)], []⟩) z)) ?_ (x := ((-1), 0)) (y := y5) (loopM_iter q16)) ?_
 intro p1 y2 h1
 unfold M.route_Longest_l1 at h1
 refine awp_seq (rg0 [0, 1, 5, 8, 9, 10, 11] 0 ⟨38, [(0, sL 14 c_TRoute a0), (1, .int .u32 a1), (5, .int .i64 p1.1), (8, sL 14 c_TRoute a0), (9, .int .i64 (a0.length : Int)), (10, .int .i64 p1.2), (11, .bool (decide (p1.2 < (a0.length : Int))))], []⟩ ?_)
 refine then_n (awp_seq ?_)
 refine cnd (decide (p1.2 < (a0.length : Int))) (fun b2 => ?_) (fun b2 => ?_)
 have h3 := cond_t b2 h1
 refine awp_skip (then_n ?_)
 refine awp_join (fun (p3 : Int) => ⟨38, [(0, sL 14 c_TRoute a0), (1, .int .u32 a1), (5, .int .i64 p3), (8, sL 14 c_TRoute a0), (9, .int .i64 (a0.length : Int)), (10, .int .i64 p1.2)], []⟩) (fun p3 => M.route_Longest_k1 p1 p3 = some y2) ?_ ?_
 intro p3 h6
 unfold M.route_Longest_k1 at h6
 refine rg0 [0, 1, 5, 8, 9, 10] 0 ⟨38, [(0, sL 14 c_TRoute a0), (1, .int .u32 a1), (5, .int .i64 p3), (8, sL 14 c_TRoute a0), (9, .int .i64 (a0.length : Int)), (10, .int .i64 (wr .i64 (p1.2 + 1)))], []⟩ ?_
 obtain rfl := Option.some.inj h6
 exact round_n (le_rfl)
 intro k5
 refine awp_block (awp_seq ?_)
 obtain ⟨c7, h8⟩ := gd_some h3
 refine rgc [0, 1, 5, 6, 7, 8, 9, 10] 1 ⟨38, [(0, sL 14 c_TRoute a0), (1, .int .u32 a1), (5, .int .i64 p1.1), (6, .int .i64 p1.2), (7, .ref 0 0), (8, sL 14 c_TRoute a0), (9, .int .i64 (a0.length : Int)), (10, .int .i64 p1.2)], [.box (c_TRoute (a0.getD p1.2.toNat default))]⟩ [decide (0 ≤ p1.2), decide (p1.2 < (a0.length : Int))] c7 ?_
 refine then_n (awp_seq ?_)
 obtain ⟨r4, q9, h10⟩ := bind_some h8
 obtain ⟨c11, h12⟩ := gd_some h10
 refine rg [.pure (.bool r4)] [0, 1, 5, 6, 8, 9, 10, 34] 0 ⟨38, [(0, sL 14 c_TRoute a0), (1, .int .u32 a1), (5, .int .i64 p1.1), (6, .int .i64 p1.2), (8, sL 14 c_TRoute a0), (9, .int .i64 (a0.length : Int)), (10, .int .i64 p1.2), (34, .bool (r4 && ((decide (p1.1 < 0)) || (decide ((((a0.getD p1.2.toNat default).fPrefix).fLen) > (((a0.getD p1.1.toNat default).fPrefix).fLen))))))], []⟩ [guardB (r4 && !(decide (p1.1 < 0))) (decide (0 ≤ p1.1)), guardB (r4 && !(decide (p1.1 < 0))) (decide (p1.1 < (a0.length : Int)))] [⟨true, 58, [.agg (c_TPrefix ((a0.getD p1.2.toNat default).fPrefix)), .int .u32 a1], .pure (.bool r4)⟩] c11 ⟨fun _ => addr_Contains_ok ((a0.getD p1.2.toNat default).fPrefix) a1 r4 q9, trivial⟩ ?_
 refine then_n ?_
 refine cnd (r4 && ((decide (p1.1 < 0)) || (decide ((((a0.getD p1.2.toNat default).fPrefix).fLen) > (((a0.getD p1.1.toNat default).fPrefix).fLen))))) (fun b13 => ?_) (fun b13 => ?_)
 have h14 := cond_t b13 h12
 refine rg0 [0, 1, 5, 8, 9, 10] 0 ⟨38, [(0, sL 14 c_TRoute a0), (1, .int .u32 a1), (5, .int .i64 p1.2), (8, sL 14 c_TRoute a0), (9, .int .i64 (a0.length : Int)), (10, .int .i64 p1.2)], []⟩ ?_
 refine inb_n ?_
 exact then_le (le_rfl) (k5 p1.2 h14)
 have h15 := cond_f b13 h12
 refine awp_skip (inb_n ?_)
 exact then_le (kp [0, 1, 5, 8, 9, 10]) (k5 p1.1 h15)
 have h4 := cond_f b2 h1
 refine awp_exit (then_e ?_)
 obtain rfl := Option.some.inj h4
 exact round_e ⟨rfl, kp [5]⟩
 intro e18 s19 o20
 obtain ⟨rfl, l21⟩ := o20
 refine inb_here ?_
 refine then_le (s' := ⟨38, [(5, .int .i64 y5)], []⟩) (l21) ?_
 refine awp_seq (rg0 [4] 0 ⟨38, [(4, .int .i64 y5)], []⟩ ?_)
 refine then_n (awp_ret ?_)
 obtain rfl := Option.some.inj h17
 exact er0 (.int .i64 y5)

/- netverify/netverifylaw14.sane -/
theorem law14_sane_ok  (r : Bool) (h : M.law14_sane  = some r) : Fn Try.prog 15 [] (.pure (.bool r)) := by
 unfold M.law14_sane at h
 refine fn_pure Try.func15 rfl (by kernel_rfl) ?_
 refine awp_seq (rg0 [] 0 ⟨50, [], []⟩ ?_)
 refine then_n (awp_seq (rg0 [1] 1 ⟨50, [(1, .ref 0 0)], [.box [.int .u32 0, .int .i64 0, .int .i64 4, .int .i64 3, .int .i64 120, .int .i64 3, .int .i64 0, .int .i64 0, .int .i64 0, .sl true 1 0 (fun _ => []), .int .u32 0, .int .u32 0, .sl true 2 1 (fun i => List.take 2 (List.drop (i * 2) [.int .i64 0, .int .u32 7])), .bool false]]⟩ ?_))
 refine then_n (awp_seq (rg0 [1, 2] 2 ⟨50, [(1, .ref 0 0), (2, .ref 1 0)], [.box [.int .u32 0, .int .i64 0, .int .i64 4, .int .i64 3, .int .i64 120, .int .i64 3, .int .i64 0, .int .i64 0, .int .i64 0, .sl true 1 0 (fun _ => []), .int .u32 0, .int .u32 0, .sl true 2 1 (fun i => List.take 2 (List.drop (i * 2) [.int .i64 0, .int .u32 7])), .bool false], .box [.int .u32 0, .int .i64 0, .int .i64 4, .int .i64 3, .int .i64 120, .int .i64 3, .int .i64 0, .int .i64 0, .int .i64 0, .sl true 1 0 (fun _ => []), .int .u32 0, .int .u32 0, .sl true 2 1 (fun i => List.take 2 (List.drop (i * 2) [.int .i64 0, .int .u32 7])), .bool false]]⟩ ?_))
 refine then_n (awp_seq (rg0 [1, 2] 2 ⟨50, [(1, .ref 0 0), (2, .ref 1 0)], [.box [.int .u32 0, .int .i64 0, .int .i64 4, .int .i64 3, .int .i64 120, .int .i64 3, .int .i64 0, .int .i64 0, .int .i64 0, .sl true 1 0 (fun _ => []), .int .u32 0, .int .u32 0, .sl true 2 1 (fun i => List.take 2 (List.drop (i * 2) [.int .i64 0, .int .u32 7])), .bool false], .box [.int .u32 0, .int .i64 0, .int .i64 4, .int .i64 3, .int .i64 120, .int .i64 2, .int .i64 0, .int .i64 0, .int .i64 0, .sl true 1 0 (fun _ => []), .int .u32 0, .int .u32 0, .sl true 2 1 (fun i => List.take 2 (List.drop (i * 2) [.int .i64 1, .int .u32 9])), .bool false]]⟩ ?_))
 refine then_n (awp_seq ?_)
 obtain ⟨r1, q1, h2⟩ := bind_some h
 refine rg [.pure (sL 14 c_TRoute r1)] [1, 2, 3] 2 ⟨50, [(1, .ref 0 0), (2, .ref 1 0), (3, sL 14 c_TRoute r1)], [.box [.int .u32 0, .int .i64 0, .int .i64 4, .int .i64 3, .int .i64 120, .int .i64 3, .int .i64 0, .int .i64 0, .int .i64 0, .sl true 1 0 (fun _ => []), .int .u32 0, .int .u32 0, .sl true 2 1 (fun i => List.take 2 (List.drop (i * 2) [.int .i64 0, .int .u32 7])), .bool false], .box [.int .u32 0, .int .i64 0, .int .i64 4, .int .i64 3, .int .i64 120, .int .i64 2, .int .i64 0, .int .i64 0, .int .i64 0, .sl true 1 0 (fun _ => []), .int .u32 0, .int .u32 0, .sl true 2 1 (fun i => List.take 2 (List.drop (i * 2) [.int .i64 1, .int .u32 9])), .bool false]]⟩ [] [⟨true, 19, [.sl false 14 2 (fun i => List.take 14 (List.drop (i * 14) [.int .u32 0, .int .i64 0, .int .i64 4, .int .i64 3, .int .i64 120, .int .i64 3, .int .i64 0, .int .i64 0, .int .i64 0, .sl true 1 0 (fun _ => []), .int .u32 0, .int .u32 0, .sl true 2 1 (fun i => List.take 2 (List.drop (i * 2) [.int .i64 0, .int .u32 7])), .bool false, .int .u32 0, .int .i64 0, .int .i64 4, .int .i64 3, .int .i64 120, .int .i64 2, .int .i64 0, .int .i64 0, .int .i64 0, .sl true 1 0 (fun _ => []), .int .u32 0, .int .u32 0, .sl true 2 1 (fun i => List.take 2 (List.drop (i * 2) [.int .i64 1, .int .u32 9])), .bool false]))], .pure (sL 14 c_TRoute r1)⟩] nil_all ⟨fun _ => (route_Merge_ok ([(⟨(⟨0, 0⟩ : TPrefix), 4, 3, 120, 3, 0, 0, 0, ([] : List Int), 0, 0, ([(⟨0, 7⟩ : THop)] : List THop), false⟩ : TRoute), (⟨(⟨0, 0⟩ : TPrefix), 4, 3, 120, 2, 0, 0, 0, ([] : List Int), 0, 0, ([(⟨1, 9⟩ : THop)] : List THop), false⟩ : TRoute)] : List TRoute) r1 q1).args (.cons (asub_psl rfl (fun i hi => match i, hi with | 0, _ => (.cons PSub.rfl (.cons PSub.rfl (.cons PSub.rfl (.cons PSub.rfl (.cons PSub.rfl (.cons PSub.rfl (.cons PSub.rfl (.cons PSub.rfl (.cons PSub.rfl (.cons psub_nil (.cons PSub.rfl (.cons PSub.rfl (.cons (psub_sl rfl (fun i hi => match i, hi with | 0, _ => (.cons PSub.rfl (.cons PSub.rfl .nil)) | n + 1, h => absurd h (by omega))) (.cons PSub.rfl .nil)))))))))))))) | 1, _ => (.cons PSub.rfl (.cons PSub.rfl (.cons PSub.rfl (.cons PSub.rfl (.cons PSub.rfl (.cons PSub.rfl (.cons PSub.rfl (.cons PSub.rfl (.cons PSub.rfl (.cons psub_nil (.cons PSub.rfl (.cons PSub.rfl (.cons (psub_sl rfl (fun i hi => match i, hi with | 0, _ => (.cons PSub.rfl (.cons PSub.rfl .nil)) | n + 1, h => absurd h (by omega))) (.cons PSub.rfl .nil)))))))))))))) | n + 2, h => absurd h (by omega))) .nil), trivial⟩ ?_
 refine then_n (awp_seq ?_)
 obtain ⟨r2, q3, h4⟩ := bind_some h2
 obtain ⟨r3, q5, h6⟩ := bind_some h4
 obtain ⟨r4, q7, h8⟩ := bind_some h6
 obtain ⟨r5, q9, h10⟩ := bind_some h8
 obtain ⟨r6, q11, h12⟩ := bind_some h10
 obtain ⟨c13, h14⟩ := gd_some h12
 refine rg [.pure (.bool r2), .pure (.bool r3), .pure (.int .i64 r4), .pure (.int .i64 r5), .pure (.bool r6)] [0] 0 ⟨50, [(0, .bool ((((((r2 && r3) && (r4 == (-1))) && ((r1.length : Int) == 1)) && (((r1.getD (0 : Int).toNat default).fMetric) == 2)) && (r5 == 0)) && (!r6)))], []⟩ [guardB (((r2 && r3) && (r4 == (-1))) && ((r1.length : Int) == 1)) (decide (0 ≤ 0)), guardB (((r2 && r3) && (r4 == (-1))) && ((r1.length : Int) == 1)) (decide (0 < (r1.length : Int)))] [⟨true, 13, [.agg [.int .u32 0, .int .i64 0, .int .i64 4, .int .i64 3, .int .i64 120, .int .i64 3, .int .i64 0, .int .i64 0, .int .i64 0, .sl false 1 0 (fun _ => []), .int .u32 0, .int .u32 0, .sl false 2 1 (fun i => List.take 2 (List.drop (i * 2) [.int .i64 0, .int .u32 7])), .bool false]], .pure (.bool r2)⟩, ⟨r2, 13, [.agg [.int .u32 0, .int .i64 0, .int .i64 4, .int .i64 3, .int .i64 120, .int .i64 2, .int .i64 0, .int .i64 0, .int .i64 0, .sl false 1 0 (fun _ => []), .int .u32 0, .int .u32 0, .sl false 2 1 (fun i => List.take 2 (List.drop (i * 2) [.int .i64 1, .int .u32 9])), .bool false]], .pure (.bool r3)⟩, ⟨r2 && r3, 17, [.agg [.int .u32 0, .int .i64 0, .int .i64 4, .int .i64 3, .int .i64 120, .int .i64 2, .int .i64 0, .int .i64 0, .int .i64 0, .sl false 1 0 (fun _ => []), .int .u32 0, .int .u32 0, .sl false 2 1 (fun i => List.take 2 (List.drop (i * 2) [.int .i64 1, .int .u32 9])), .bool false], .agg [.int .u32 0, .int .i64 0, .int .i64 4, .int .i64 3, .int .i64 120, .int .i64 3, .int .i64 0, .int .i64 0, .int .i64 0, .sl false 1 0 (fun _ => []), .int .u32 0, .int .u32 0, .sl false 2 1 (fun i => List.take 2 (List.drop (i * 2) [.int .i64 0, .int .u32 7])), .bool false]], .pure (.int .i64 r4)⟩, ⟨(((r2 && r3) && (r4 == (-1))) && ((r1.length : Int) == 1)) && (((r1.getD (0 : Int).toNat default).fMetric) == 2), 22, [sL 14 c_TRoute r1, .int .u32 5], .pure (.int .i64 r5)⟩, ⟨((((r2 && r3) && (r4 == (-1))) && ((r1.length : Int) == 1)) && (((r1.getD (0 : Int).toNat default).fMetric) == 2)) && (r5 == 0), 13, [.agg [.int .u32 0, .int .i64 0, .int .i64 0, .int .i64 0, .int .i64 0, .int .i64 0, .int .i64 0, .int .i64 0, .int .i64 0, .sl false 1 0 (fun _ => []), .int .u32 0, .int .u32 0, .sl false 2 0 (fun _ => []), .bool false]], .pure (.bool r6)⟩] c13 ⟨fun _ => (route_Valid_ok (⟨(⟨0, 0⟩ : TPrefix), 4, 3, 120, 3, 0, 0, 0, ([] : List Int), 0, 0, ([(⟨0, 7⟩ : THop)] : List THop), false⟩ : TRoute) r2 q3).args (.cons (asub_agg (.cons CSub.rfl (.cons CSub.rfl (.cons CSub.rfl (.cons CSub.rfl (.cons CSub.rfl (.cons CSub.rfl (.cons CSub.rfl (.cons CSub.rfl (.cons CSub.rfl (.cons csub_nil (.cons CSub.rfl (.cons CSub.rfl (.cons (csub_sl rfl (fun i hi => match i, hi with | 0, _ => rfl | n + 1, h => absurd h (by omega))) (.cons CSub.rfl .nil))))))))))))))) .nil), fun hg => (route_Valid_ok (⟨(⟨0, 0⟩ : TPrefix), 4, 3, 120, 2, 0, 0, 0, ([] : List Int), 0, 0, ([(⟨1, 9⟩ : THop)] : List THop), false⟩ : TRoute) r3 (gc_some q5 hg)).args (.cons (asub_agg (.cons CSub.rfl (.cons CSub.rfl (.cons CSub.rfl (.cons CSub.rfl (.cons CSub.rfl (.cons CSub.rfl (.cons CSub.rfl (.cons CSub.rfl (.cons CSub.rfl (.cons csub_nil (.cons CSub.rfl (.cons CSub.rfl (.cons (csub_sl rfl (fun i hi => match i, hi with | 0, _ => rfl | n + 1, h => absurd h (by omega))) (.cons CSub.rfl .nil))))))))))))))) .nil), fun hg => (route_Prefer_ok (⟨(⟨0, 0⟩ : TPrefix), 4, 3, 120, 2, 0, 0, 0, ([] : List Int), 0, 0, ([(⟨1, 9⟩ : THop)] : List THop), false⟩ : TRoute) (⟨(⟨0, 0⟩ : TPrefix), 4, 3, 120, 3, 0, 0, 0, ([] : List Int), 0, 0, ([(⟨0, 7⟩ : THop)] : List THop), false⟩ : TRoute) r4 (gc_some q7 hg)).args (.cons (asub_agg (.cons CSub.rfl (.cons CSub.rfl (.cons CSub.rfl (.cons CSub.rfl (.cons CSub.rfl (.cons CSub.rfl (.cons CSub.rfl (.cons CSub.rfl (.cons CSub.rfl (.cons csub_nil (.cons CSub.rfl (.cons CSub.rfl (.cons (csub_sl rfl (fun i hi => match i, hi with | 0, _ => rfl | n + 1, h => absurd h (by omega))) (.cons CSub.rfl .nil))))))))))))))) (.cons (asub_agg (.cons CSub.rfl (.cons CSub.rfl (.cons CSub.rfl (.cons CSub.rfl (.cons CSub.rfl (.cons CSub.rfl (.cons CSub.rfl (.cons CSub.rfl (.cons CSub.rfl (.cons csub_nil (.cons CSub.rfl (.cons CSub.rfl (.cons (csub_sl rfl (fun i hi => match i, hi with | 0, _ => rfl | n + 1, h => absurd h (by omega))) (.cons CSub.rfl .nil))))))))))))))) .nil)), fun hg => route_Longest_ok r1 5 r5 (gc_some q9 hg), fun hg => (route_Valid_ok (⟨(⟨0, 0⟩ : TPrefix), 0, 0, 0, 0, 0, 0, 0, ([] : List Int), 0, 0, ([] : List THop), false⟩ : TRoute) r6 (gc_some q11 hg)).args (.cons (asub_agg (.cons CSub.rfl (.cons CSub.rfl (.cons CSub.rfl (.cons CSub.rfl (.cons CSub.rfl (.cons CSub.rfl (.cons CSub.rfl (.cons CSub.rfl (.cons CSub.rfl (.cons csub_nil (.cons CSub.rfl (.cons CSub.rfl (.cons csub_nil (.cons CSub.rfl .nil))))))))))))))) .nil), trivial⟩ ?_
 refine then_n (awp_ret ?_)
 obtain rfl := Option.some.inj h14
 exact er0 (.bool ((((((r2 && r3) && (r4 == (-1))) && ((r1.length : Int) == 1)) && (((r1.getD (0 : Int).toNat default).fMetric) == 2)) && (r5 == 0)) && (!r6)))

/- netverify/netverifylaw14.RouteValid -/
theorem law14_RouteValid_ok (a0 : TRoute) (r : Bool) (h : M.law14_RouteValid a0 = some r) : Fn Try.prog 3 [.agg (c_TRoute a0)] (.pure (.bool r)) := by
 unfold M.law14_RouteValid at h
 refine fn_pure Try.func3 rfl (by kernel_rfl) ?_
 refine awp_seq (rg0 [1] 1 ⟨17, [(1, .ref 0 0)], [.box (c_TRoute a0)]⟩ ?_)
 refine then_n (awp_seq ?_)
 obtain ⟨r1, q1, h2⟩ := bind_some h
 obtain ⟨r2, q3, h4⟩ := bind_some h2
 obtain ⟨r3, q5, h6⟩ := bind_some h4
 obtain ⟨r4, q7, h8⟩ := bind_some h6
 refine rg [.pure (.bool r1), .pure (.bool r2), .pure (.bool r3), .pure (.bool r4)] [2] 0 ⟨17, [(2, .bool ((!r1) || ((r2 == r3) && r4)))], []⟩ [] [⟨true, 12, [.sl false 14 1 (fun i => List.take 14 (List.drop (i * 14) [.int .u32 a0.fPrefix.fAddr, .int .i64 a0.fPrefix.fLen, .int .i64 a0.fProto, .int .i64 a0.fClass, .int .i64 a0.fAdmin, .int .i64 a0.fMetric, .int .i64 a0.fInner, .int .i64 a0.fTag, .int .i64 a0.fPref, sL 1 (ci .i64) a0.fPath, .int .u32 a0.fFrom, .int .u32 a0.fNext, sL 2 c_THop a0.fHops, .bool a0.fDiscard]))], .pure (.bool r1)⟩, ⟨(!(!r1)), 13, [.agg (c_TRoute a0)], .pure (.bool r2)⟩, ⟨(!(!r1)), 14, [.agg (c_TRoute a0)], .pure (.bool r3)⟩, ⟨((!(!r1)) && (r2 == r3)), 15, [], .pure (.bool r4)⟩] nil_all ⟨fun _ => (law14_few_ok ([a0] : List TRoute) r1 q1).args (.cons (asub_sl rfl (fun i hi => match i, hi with | 0, _ => rfl | n + 1, h => absurd h (by omega))) .nil), fun hg => route_Valid_ok a0 r2 (gc_some q3 hg), fun hg => ref15_Valid_ok a0 r3 (gc_some q5 hg), fun hg => law14_sane_ok  r4 (gc_some q7 hg), trivial⟩ ?_
 refine then_n (awp_ret ?_)
 obtain rfl := Option.some.inj h8
 exact er0 (.bool ((!r1) || ((r2 == r3) && r4)))
end Nv
