/- The walks: each function computes its mirror. -/
import Derived.Test.YtmangnohekiphaaGreatProg
import Derived.Test.YtmangnohekiphaaGreatNvD1
import Derived.Test.YtmangnohekiphaaGreatNvM1b
import Derived.KernelRfl
set_option maxRecDepth 100000
namespace Nv
open Go Go.Proofs
/- netverify/model.Same$3 -/
theorem model_Same_3_ok (a0 : TACL) (a1 : TACL) (r : Bool) (h : M.model_Same_3 a0 a1 = some r) : Fn Tryz.prog 79 [.agg (c_TACL a0), .agg (c_TACL a1)] (.pure (.bool r)) := by
 unfold M.model_Same_3 at h
 refine fn_pure Tryz.func79 rfl (by kernel_rfl) ?_
 refine awp_seq (rg0 [2, 3] 2 ⟨17, [(2, .ref 0 0), (3, .ref 1 0)], [.box (c_TACL a0), .box (c_TACL a1)]⟩ ?_)
 refine then_n (awp_seq ?_)
 obtain ⟨r1, q1, h2⟩ := bind_some h
 refine rg [.pure (.bool r1)] [4] 0 ⟨17, [(4, .bool ((strEq a0.fName a1.fName) && r1))], []⟩ [] [⟨strEq a0.fName a1.fName, 80, [sL 10 c_TRule a0.fRules, sL 10 c_TRule a1.fRules], .pure (.bool r1)⟩] nil_all ⟨fun hg => slices_Equal_api_Rule_api_Rule_ok a0.fRules a1.fRules r1 (gc_some q1 hg), trivial⟩ ?_
 refine then_n (awp_ret ?_)
 obtain rfl := Option.some.inj h2
 exact er0 (.bool ((strEq a0.fName a1.fName) && r1))

/- slices.EqualFunc[[]netverify/api.ACL,[]netverify/api.ACL,netverify/api.ACL,netverify/api.ACL] -/
theorem slices_EqualFunc_api_ACL_api_ACL_api_ACL_api_ACL__model_Same_3_ok (a0 : List TACL) (a1 : List TACL) (r : Bool) (h : M.slices_EqualFunc_api_ACL_api_ACL_api_ACL_api_ACL__model_Same_3 a0 a1 = some r) : Fn Tryz.prog 78 [sL 2 c_TACL a0, sL 2 c_TACL a1, .fn 79 []] (.pure (.bool r)) := by
 unfold M.slices_EqualFunc_api_ACL_api_ACL_api_ACL_api_ACL__model_Same_3 at h
 refine fn_pure Tryz.func78 rfl (by kernel_rfl) ?_
 refine awp_seq (rg0 [0, 1, 2] 0 ⟨32, [(0, sL 2 c_TACL a0), (1, sL 2 c_TACL a1), (2, .fn 79 [])], []⟩ ?_)
 refine then_n (awp_seq (awp_seq (rg0 [0, 1, 2, 14] 0 ⟨32, [(0, sL 2 c_TACL a0), (1, sL 2 c_TACL a1), (2, .fn 79 []), (14, .bool ((a0.length : Int) != (a1.length : Int)))], []⟩ ?_)))
 refine then_n ?_
 refine cnd ((a0.length : Int) != (a1.length : Int)) (fun b1 => ?_) (fun b1 => ?_)
 have h2 := cond_t b1 h
 refine awp_seq (rg0 [6] 0 ⟨32, [(6, .bool false)], []⟩ ?_)
 refine then_n (awp_ret (then_r ?_))
 obtain rfl := Option.some.inj h2
 exact er0 (.bool false)
 have h3 := cond_f b1 h
 refine awp_skip (then_n (awp_seq (awp_seq (rg0 [1, 2, 15, 16, 17] 0 ⟨32, [(1, sL 2 c_TACL a1), (2, .fn 79 []), (15, sL 2 c_TACL a0), (16, .int .i64 (a0.length : Int)), (17, .int .i64 0)], []⟩ ?_))))
 refine then_n (awp_block ?_)
 obtain ⟨y4, q17, h18⟩ := bind_some h3
 refine awp_le (s' := ⟨32, [(1, sL 2 c_TACL a1), (2, .fn 79 []), (15, sL 2 c_TACL a0), (16, .int .i64 (a0.length : Int)), (17, .int .i64 0)], []⟩) (le_rfl) ?_
 refine awp_mono (awp_loop (f := M.slices_EqualFunc_api_ACL_api_ACL_api_ACL_api_ACL__model_Same_3_l1 a0 a1) (S := fun (p1 : Int) => ⟨32, [(1, sL 2 c_TACL a1), (2, .fn 79 []), (15, sL 2 c_TACL a0), (16, .int .i64 (a0.length : Int)), (17, .int .i64 p1)], []⟩) (O := (Sum.elim (fun z => OutE 0 (fun z => ⟨32, [], []⟩) z) (fun z => OutR Tryz.prog Tryz.f78 (.bool z)))) ?_ (x := 0) (y := y4) (loopM_iter q17)) ?_
 intro p1 y2 h4
 unfold M.slices_EqualFunc_api_ACL_api_ACL_api_ACL_api_ACL__model_Same_3_l1 at h4
 refine awp_seq (rg0 [1, 2, 15, 16, 17, 18] 0 ⟨32, [(1, sL 2 c_TACL a1), (2, .fn 79 []), (15, sL 2 c_TACL a0), (16, .int .i64 (a0.length : Int)), (17, .int .i64 p1), (18, .bool (decide (p1 < (a0.length : Int))))], []⟩ ?_)
 refine then_n (awp_seq ?_)
 refine cnd (decide (p1 < (a0.length : Int))) (fun b5 => ?_) (fun b5 => ?_)
 have h6 := cond_t b5 h4
 refine awp_skip (then_n (awp_seq (awp_block (awp_seq ?_))))
 obtain ⟨c8, h9⟩ := gd_some h6
 refine rgc [1, 2, 7, 8, 15, 16, 17] 1 ⟨32, [(1, sL 2 c_TACL a1), (2, .fn 79 []), (7, .int .i64 p1), (8, .ref 0 0), (15, sL 2 c_TACL a0), (16, .int .i64 (a0.length : Int)), (17, .int .i64 p1)], [.box (c_TACL (a0.getD p1.toNat default))]⟩ [decide (0 ≤ p1), decide (p1 < (a0.length : Int))] c8 ?_
 refine then_n (awp_seq ?_)
 obtain ⟨c10, h11⟩ := gd_some h9
 refine rgc [1, 2, 8, 9, 15, 16, 17] 2 ⟨32, [(1, sL 2 c_TACL a1), (2, .fn 79 []), (8, .ref 0 0), (9, .ref 1 0), (15, sL 2 c_TACL a0), (16, .int .i64 (a0.length : Int)), (17, .int .i64 p1)], [.box (c_TACL (a0.getD p1.toNat default)), .box (c_TACL (a1.getD p1.toNat default))]⟩ [decide (0 ≤ p1), decide (p1 < (a1.length : Int))] c10 ?_
 refine then_n (awp_seq ?_)
 obtain ⟨r3, q12, h13⟩ := bind_some h11
 refine rg [.pure (.bool r3)] [1, 2, 15, 16, 17, 30] 0 ⟨32, [(1, sL 2 c_TACL a1), (2, .fn 79 []), (15, sL 2 c_TACL a0), (16, .int .i64 (a0.length : Int)), (17, .int .i64 p1), (30, .bool (!r3))], []⟩ [] [⟨true, 79, [.agg (c_TACL (a0.getD p1.toNat default)), .agg (c_TACL (a1.getD p1.toNat default))], .pure (.bool r3)⟩] nil_all ⟨fun _ => model_Same_3_ok (a0.getD p1.toNat default) (a1.getD p1.toNat default) r3 q12, trivial⟩ ?_
 refine then_n ?_
 refine cnd (!r3) (fun b14 => ?_) (fun b14 => ?_)
 have h15 := cond_t b14 h13
 refine awp_seq (rg0 [6] 0 ⟨32, [(6, .bool false)], []⟩ ?_)
 refine then_n (awp_ret (inb_r (then_r ?_)))
 obtain rfl := Option.some.inj h15
 exact round_r ⟨rfl, er0 (.bool false)⟩
 have h16 := cond_f b14 h13
 refine awp_skip (inb_n (then_n (rg0 [1, 2, 15, 16, 17] 0 ⟨32, [(1, sL 2 c_TACL a1), (2, .fn 79 []), (15, sL 2 c_TACL a0), (16, .int .i64 (a0.length : Int)), (17, .int .i64 (wr .i64 (p1 + 1)))], []⟩ ?_)))
 obtain rfl := Option.some.inj h16
 exact round_n (le_rfl)
 have h7 := cond_f b5 h4
 refine awp_exit (then_e ?_)
 obtain rfl := Option.some.inj h7
 exact round_e ⟨rfl, kp []⟩
 intro e19 s20 o21
 rcases y4 with g5 | y6
 have h22 := elim_l h18
 obtain ⟨rfl, l24⟩ := o21
 refine inb_here ?_
 refine then_le (s' := ⟨32, [], []⟩) (l24) ?_
 refine awp_seq (rg0 [6] 0 ⟨32, [(6, .bool true)], []⟩ ?_)
 refine then_n (awp_ret ?_)
 obtain rfl := Option.some.inj h22
 exact er0 (.bool true)
 have h23 := elim_r h18
 obtain ⟨rfl, n25⟩ := o21
 refine inb_r (then_r ?_)
 obtain rfl := Option.some.inj h23
 exact n25

/- slices.Equal[[]netverify/api.Translation,netverify/api.Translation] -/
theorem slices_Equal_api_Translation_api_Translation_ok (a0 : List TTranslation) (a1 : List TTranslation) (r : Bool) (h : M.slices_Equal_api_Translation_api_Translation a0 a1 = some r) : Fn Tryz.prog 81 [sL 9 c_TTranslation a0, sL 9 c_TTranslation a1] (.pure (.bool r)) := by
 unfold M.slices_Equal_api_Translation_api_Translation at h
 refine fn_pure Tryz.func81 rfl (by kernel_rfl) ?_
 refine awp_seq (rg0 [0, 1] 0 ⟨26, [(0, sL 9 c_TTranslation a0), (1, sL 9 c_TTranslation a1)], []⟩ ?_)
 refine then_n (awp_seq (awp_seq (rg0 [0, 1, 10] 0 ⟨26, [(0, sL 9 c_TTranslation a0), (1, sL 9 c_TTranslation a1), (10, .bool ((a0.length : Int) != (a1.length : Int)))], []⟩ ?_)))
 refine then_n ?_
 refine cnd ((a0.length : Int) != (a1.length : Int)) (fun b1 => ?_) (fun b1 => ?_)
 have h2 := cond_t b1 h
 refine awp_seq (rg0 [4] 0 ⟨26, [(4, .bool false)], []⟩ ?_)
 refine then_n (awp_ret (then_r ?_))
 obtain rfl := Option.some.inj h2
 exact er0 (.bool false)
 have h3 := cond_f b1 h
 refine awp_skip (then_n (awp_seq (awp_seq (rg0 [0, 1, 12, 13] 0 ⟨26, [(0, sL 9 c_TTranslation a0), (1, sL 9 c_TTranslation a1), (12, .int .i64 (a0.length : Int)), (13, .int .i64 0)], []⟩ ?_))))
 refine then_n (awp_block ?_)
 obtain ⟨y3, q13, h14⟩ := bind_some h3
 refine awp_le (s' := ⟨26, [(0, sL 9 c_TTranslation a0), (1, sL 9 c_TTranslation a1), (12, .int .i64 (a0.length : Int)), (13, .int .i64 0)], []⟩) (le_rfl) ?_
 refine awp_mono (awp_loop (f := M.slices_Equal_api_Translation_api_Translation_l1 a0 a1) (S := fun (p1 : Int) => ⟨26, [(0, sL 9 c_TTranslation a0), (1, sL 9 c_TTranslation a1), (12, .int .i64 (a0.length : Int)), (13, .int .i64 p1)], []⟩) (O := (Sum.elim (fun z => OutE 0 (fun z => ⟨26, [], []⟩) z) (fun z => OutR Tryz.prog Tryz.f81 (.bool z)))) ?_ (x := 0) (y := y3) (loopM_iter q13)) ?_
 intro p1 y2 h4
 unfold M.slices_Equal_api_Translation_api_Translation_l1 at h4
 refine awp_seq (rg0 [0, 1, 12, 13, 14] 0 ⟨26, [(0, sL 9 c_TTranslation a0), (1, sL 9 c_TTranslation a1), (12, .int .i64 (a0.length : Int)), (13, .int .i64 p1), (14, .bool (decide (p1 < (a0.length : Int))))], []⟩ ?_)
 refine then_n (awp_seq ?_)
 refine cnd (decide (p1 < (a0.length : Int))) (fun b5 => ?_) (fun b5 => ?_)
 have h6 := cond_t b5 h4
 refine awp_skip (then_n (awp_seq (awp_block (awp_seq (rg0 [0, 1, 5, 12, 13] 0 ⟨26, [(0, sL 9 c_TTranslation a0), (1, sL 9 c_TTranslation a1), (5, .int .i64 p1), (12, .int .i64 (a0.length : Int)), (13, .int .i64 p1)], []⟩ ?_)))))
 refine then_n (awp_seq ?_)
 obtain ⟨c8, h9⟩ := gd_some h6
 refine rgc [0, 1, 12, 13, 24] 0 ⟨26, [(0, sL 9 c_TTranslation a0), (1, sL 9 c_TTranslation a1), (12, .int .i64 (a0.length : Int)), (13, .int .i64 p1), (24, .bool (!((((a0.getD p1.toNat default).fKind) == ((a1.getD p1.toNat default).fKind)) && ((((a0.getD p1.toNat default).fInside) == ((a1.getD p1.toNat default).fInside)) && ((((a0.getD p1.toNat default).fOutside) == ((a1.getD p1.toNat default).fOutside)) && ((((a0.getD p1.toNat default).fProto) == ((a1.getD p1.toNat default).fProto)) && ((((a0.getD p1.toNat default).fInsidePort) == ((a1.getD p1.toNat default).fInsidePort)) && ((((a0.getD p1.toNat default).fOutsidePort) == ((a1.getD p1.toNat default).fOutsidePort)) && (strEq ((a0.getD p1.toNat default).fList) ((a1.getD p1.toNat default).fList) && ((((a0.getD p1.toNat default).fLo) == ((a1.getD p1.toNat default).fLo)) && ((((a0.getD p1.toNat default).fHi) == ((a1.getD p1.toNat default).fHi)) && true)))))))))))], []⟩ [decide (0 ≤ p1), decide (p1 < (a0.length : Int)), decide (0 ≤ p1), decide (p1 < (a1.length : Int))] c8 ?_
 refine then_n ?_
 refine cnd (!((((a0.getD p1.toNat default).fKind) == ((a1.getD p1.toNat default).fKind)) && ((((a0.getD p1.toNat default).fInside) == ((a1.getD p1.toNat default).fInside)) && ((((a0.getD p1.toNat default).fOutside) == ((a1.getD p1.toNat default).fOutside)) && ((((a0.getD p1.toNat default).fProto) == ((a1.getD p1.toNat default).fProto)) && ((((a0.getD p1.toNat default).fInsidePort) == ((a1.getD p1.toNat default).fInsidePort)) && ((((a0.getD p1.toNat default).fOutsidePort) == ((a1.getD p1.toNat default).fOutsidePort)) && (strEq ((a0.getD p1.toNat default).fList) ((a1.getD p1.toNat default).fList) && ((((a0.getD p1.toNat default).fLo) == ((a1.getD p1.toNat default).fLo)) && ((((a0.getD p1.toNat default).fHi) == ((a1.getD p1.toNat default).fHi)) && true)))))))))) (fun b10 => ?_) (fun b10 => ?_)
 have h11 := cond_t b10 h9
 refine awp_seq (rg0 [4] 0 ⟨26, [(4, .bool false)], []⟩ ?_)
 refine then_n (awp_ret (inb_r (then_r ?_)))
 obtain rfl := Option.some.inj h11
 exact round_r ⟨rfl, er0 (.bool false)⟩
 have h12 := cond_f b10 h9
 refine awp_skip (inb_n (then_n (rg0 [0, 1, 12, 13] 0 ⟨26, [(0, sL 9 c_TTranslation a0), (1, sL 9 c_TTranslation a1), (12, .int .i64 (a0.length : Int)), (13, .int .i64 (wr .i64 (p1 + 1)))], []⟩ ?_)))
 obtain rfl := Option.some.inj h12
 exact round_n (le_rfl)
 have h7 := cond_f b5 h4
 refine awp_exit (then_e ?_)
 obtain rfl := Option.some.inj h7
 exact round_e ⟨rfl, kp []⟩
 intro e15 s16 o17
 rcases y3 with g4 | y5
 have h18 := elim_l h14
 obtain ⟨rfl, l20⟩ := o17
 refine inb_here ?_
 refine then_le (s' := ⟨26, [], []⟩) (l20) ?_
 refine awp_seq (rg0 [4] 0 ⟨26, [(4, .bool true)], []⟩ ?_)
 refine then_n (awp_ret ?_)
 obtain rfl := Option.some.inj h18
 exact er0 (.bool true)
 have h19 := elim_r h14
 obtain ⟨rfl, n21⟩ := o17
 refine inb_r (then_r ?_)
 obtain rfl := Option.some.inj h19
 exact n21

/- slices.Equal[[]netverify/api.StaticRoute,netverify/api.StaticRoute] -/
theorem slices_Equal_api_StaticRoute_api_StaticRoute_ok (a0 : List TStaticRoute) (a1 : List TStaticRoute) (r : Bool) (h : M.slices_Equal_api_StaticRoute_api_StaticRoute a0 a1 = some r) : Fn Tryz.prog 82 [sL 7 c_TStaticRoute a0, sL 7 c_TStaticRoute a1] (.pure (.bool r)) := by
 unfold M.slices_Equal_api_StaticRoute_api_StaticRoute at h
 refine fn_pure Tryz.func82 rfl (by kernel_rfl) ?_
 refine awp_seq (rg0 [0, 1] 0 ⟨26, [(0, sL 7 c_TStaticRoute a0), (1, sL 7 c_TStaticRoute a1)], []⟩ ?_)
 refine then_n (awp_seq (awp_seq (rg0 [0, 1, 10] 0 ⟨26, [(0, sL 7 c_TStaticRoute a0), (1, sL 7 c_TStaticRoute a1), (10, .bool ((a0.length : Int) != (a1.length : Int)))], []⟩ ?_)))
 refine then_n ?_
 refine cnd ((a0.length : Int) != (a1.length : Int)) (fun b1 => ?_) (fun b1 => ?_)
 have h2 := cond_t b1 h
 refine awp_seq (rg0 [4] 0 ⟨26, [(4, .bool false)], []⟩ ?_)
 refine then_n (awp_ret (then_r ?_))
 obtain rfl := Option.some.inj h2
 exact er0 (.bool false)
 have h3 := cond_f b1 h
 refine awp_skip (then_n (awp_seq (awp_seq (rg0 [0, 1, 12, 13] 0 ⟨26, [(0, sL 7 c_TStaticRoute a0), (1, sL 7 c_TStaticRoute a1), (12, .int .i64 (a0.length : Int)), (13, .int .i64 0)], []⟩ ?_))))
 refine then_n (awp_block ?_)
 obtain ⟨y3, q13, h14⟩ := bind_some h3
 refine awp_le (s' := ⟨26, [(0, sL 7 c_TStaticRoute a0), (1, sL 7 c_TStaticRoute a1), (12, .int .i64 (a0.length : Int)), (13, .int .i64 0)], []⟩) (le_rfl) ?_
 refine awp_mono (awp_loop (f := M.slices_Equal_api_StaticRoute_api_StaticRoute_l1 a0 a1) (S := fun (p1 : Int) => ⟨26, [(0, sL 7 c_TStaticRoute a0), (1, sL 7 c_TStaticRoute a1), (12, .int .i64 (a0.length : Int)), (13, .int .i64 p1)], []⟩) (O := (Sum.elim (fun z => OutE 0 (fun z => ⟨26, [], []⟩) z) (fun z => OutR Tryz.prog Tryz.f82 (.bool z)))) ?_ (x := 0) (y := y3) (loopM_iter q13)) ?_
 intro p1 y2 h4
 unfold M.slices_Equal_api_StaticRoute_api_StaticRoute_l1 at h4
 refine awp_seq (rg0 [0, 1, 12, 13, 14] 0 ⟨26, [(0, sL 7 c_TStaticRoute a0), (1, sL 7 c_TStaticRoute a1), (12, .int .i64 (a0.length : Int)), (13, .int .i64 p1), (14, .bool (decide (p1 < (a0.length : Int))))], []⟩ ?_)
 refine then_n (awp_seq ?_)
 refine cnd (decide (p1 < (a0.length : Int))) (fun b5 => ?_) (fun b5 => ?_)
 have h6 := cond_t b5 h4
 refine awp_skip (then_n (awp_seq (awp_block (awp_seq (rg0 [0, 1, 5, 12, 13] 0 ⟨26, [(0, sL 7 c_TStaticRoute a0), (1, sL 7 c_TStaticRoute a1), (5, .int .i64 p1), (12, .int .i64 (a0.length : Int)), (13, .int .i64 p1)], []⟩ ?_)))))
 refine then_n (awp_seq ?_)
 obtain ⟨c8, h9⟩ := gd_some h6
 refine rgc [0, 1, 12, 13, 24] 0 ⟨26, [(0, sL 7 c_TStaticRoute a0), (1, sL 7 c_TStaticRoute a1), (12, .int .i64 (a0.length : Int)), (13, .int .i64 p1), (24, .bool (!((((((a0.getD p1.toNat default).fPrefix).fAddr) == (((a1.getD p1.toNat default).fPrefix).fAddr)) && (((((a0.getD p1.toNat default).fPrefix).fLen) == (((a1.getD p1.toNat default).fPrefix).fLen)) && true)) && ((((a0.getD p1.toNat default).fNext) == ((a1.getD p1.toNat default).fNext)) && (strEq ((a0.getD p1.toNat default).fIface) ((a1.getD p1.toNat default).fIface) && ((((a0.getD p1.toNat default).fDiscard) == ((a1.getD p1.toNat default).fDiscard)) && ((((a0.getD p1.toNat default).fAdmin) == ((a1.getD p1.toNat default).fAdmin)) && ((((a0.getD p1.toNat default).fTag) == ((a1.getD p1.toNat default).fTag)) && true))))))))], []⟩ [decide (0 ≤ p1), decide (p1 < (a0.length : Int)), decide (0 ≤ p1), decide (p1 < (a1.length : Int))] c8 ?_
 refine then_n ?_
 refine cnd (!((((((a0.getD p1.toNat default).fPrefix).fAddr) == (((a1.getD p1.toNat default).fPrefix).fAddr)) && (((((a0.getD p1.toNat default).fPrefix).fLen) == (((a1.getD p1.toNat default).fPrefix).fLen)) && true)) && ((((a0.getD p1.toNat default).fNext) == ((a1.getD p1.toNat default).fNext)) && (strEq ((a0.getD p1.toNat default).fIface) ((a1.getD p1.toNat default).fIface) && ((((a0.getD p1.toNat default).fDiscard) == ((a1.getD p1.toNat default).fDiscard)) && ((((a0.getD p1.toNat default).fAdmin) == ((a1.getD p1.toNat default).fAdmin)) && ((((a0.getD p1.toNat default).fTag) == ((a1.getD p1.toNat default).fTag)) && true))))))) (fun b10 => ?_) (fun b10 => ?_)
 have h11 := cond_t b10 h9
 refine awp_seq (rg0 [4] 0 ⟨26, [(4, .bool false)], []⟩ ?_)
 refine then_n (awp_ret (inb_r (then_r ?_)))
 obtain rfl := Option.some.inj h11
 exact round_r ⟨rfl, er0 (.bool false)⟩
 have h12 := cond_f b10 h9
 refine awp_skip (inb_n (then_n (rg0 [0, 1, 12, 13] 0 ⟨26, [(0, sL 7 c_TStaticRoute a0), (1, sL 7 c_TStaticRoute a1), (12, .int .i64 (a0.length : Int)), (13, .int .i64 (wr .i64 (p1 + 1)))], []⟩ ?_)))
 obtain rfl := Option.some.inj h12
 exact round_n (le_rfl)
 have h7 := cond_f b5 h4
 refine awp_exit (then_e ?_)
 obtain rfl := Option.some.inj h7
 exact round_e ⟨rfl, kp []⟩
 intro e15 s16 o17
 rcases y3 with g4 | y5
 have h18 := elim_l h14
 obtain ⟨rfl, l20⟩ := o17
 refine inb_here ?_
 refine then_le (s' := ⟨26, [], []⟩) (l20) ?_
 refine awp_seq (rg0 [4] 0 ⟨26, [(4, .bool true)], []⟩ ?_)
 refine then_n (awp_ret ?_)
 obtain rfl := Option.some.inj h18
 exact er0 (.bool true)
 have h19 := elim_r h14
 obtain ⟨rfl, n21⟩ := o17
 refine inb_r (then_r ?_)
 obtain rfl := Option.some.inj h19
 exact n21

/- slices.Equal[[]netverify/api.AreaRange,netverify/api.AreaRange] -/
theorem slices_Equal_api_AreaRange_api_AreaRange_ok (a0 : List TAreaRange) (a1 : List TAreaRange) (r : Bool) (h : M.slices_Equal_api_AreaRange_api_AreaRange a0 a1 = some r) : Fn Tryz.prog 107 [sL 3 c_TAreaRange a0, sL 3 c_TAreaRange a1] (.pure (.bool r)) := by
 unfold M.slices_Equal_api_AreaRange_api_AreaRange at h
 refine fn_pure Tryz.func107 rfl (by kernel_rfl) ?_
 refine awp_seq (rg0 [0, 1] 0 ⟨26, [(0, sL 3 c_TAreaRange a0), (1, sL 3 c_TAreaRange a1)], []⟩ ?_)
 refine then_n (awp_seq (awp_seq (rg0 [0, 1, 10] 0 ⟨26, [(0, sL 3 c_TAreaRange a0), (1, sL 3 c_TAreaRange a1), (10, .bool ((a0.length : Int) != (a1.length : Int)))], []⟩ ?_)))
 refine then_n ?_
 refine cnd ((a0.length : Int) != (a1.length : Int)) (fun b1 => ?_) (fun b1 => ?_)
 have h2 := cond_t b1 h
 refine awp_seq (rg0 [4] 0 ⟨26, [(4, .bool false)], []⟩ ?_)
 refine then_n (awp_ret (then_r ?_))
 obtain rfl := Option.some.inj h2
 exact er0 (.bool false)
 have h3 := cond_f b1 h
 refine awp_skip (then_n (awp_seq (awp_seq (rg0 [0, 1, 12, 13] 0 ⟨26, [(0, sL 3 c_TAreaRange a0), (1, sL 3 c_TAreaRange a1), (12, .int .i64 (a0.length : Int)), (13, .int .i64 0)], []⟩ ?_))))
 refine then_n (awp_block ?_)
 obtain ⟨y3, q13, h14⟩ := bind_some h3
 refine awp_le (s' := ⟨26, [(0, sL 3 c_TAreaRange a0), (1, sL 3 c_TAreaRange a1), (12, .int .i64 (a0.length : Int)), (13, .int .i64 0)], []⟩) (le_rfl) ?_
 refine awp_mono (awp_loop (f := M.slices_Equal_api_AreaRange_api_AreaRange_l1 a0 a1) (S := fun (p1 : Int) => ⟨26, [(0, sL 3 c_TAreaRange a0), (1, sL 3 c_TAreaRange a1), (12, .int .i64 (a0.length : Int)), (13, .int .i64 p1)], []⟩) (O := (Sum.elim (fun z => OutE 0 (fun z => ⟨26, [], []⟩) z) (fun z => OutR Tryz.prog Tryz.f107 (.bool z)))) ?_ (x := 0) (y := y3) (loopM_iter q13)) ?_
 intro p1 y2 h4
 unfold M.slices_Equal_api_AreaRange_api_AreaRange_l1 at h4
 refine awp_seq (rg0 [0, 1, 12, 13, 14] 0 ⟨26, [(0, sL 3 c_TAreaRange a0), (1, sL 3 c_TAreaRange a1), (12, .int .i64 (a0.length : Int)), (13, .int .i64 p1), (14, .bool (decide (p1 < (a0.length : Int))))], []⟩ ?_)
 refine then_n (awp_seq ?_)
 refine cnd (decide (p1 < (a0.length : Int))) (fun b5 => ?_) (fun b5 => ?_)
 have h6 := cond_t b5 h4
 refine awp_skip (then_n (awp_seq (awp_block (awp_seq (rg0 [0, 1, 5, 12, 13] 0 ⟨26, [(0, sL 3 c_TAreaRange a0), (1, sL 3 c_TAreaRange a1), (5, .int .i64 p1), (12, .int .i64 (a0.length : Int)), (13, .int .i64 p1)], []⟩ ?_)))))
 refine then_n (awp_seq ?_)
 obtain ⟨c8, h9⟩ := gd_some h6
 refine rgc [0, 1, 12, 13, 24] 0 ⟨26, [(0, sL 3 c_TAreaRange a0), (1, sL 3 c_TAreaRange a1), (12, .int .i64 (a0.length : Int)), (13, .int .i64 p1), (24, .bool (!((((a0.getD p1.toNat default).fArea) == ((a1.getD p1.toNat default).fArea)) && ((((((a0.getD p1.toNat default).fPrefix).fAddr) == (((a1.getD p1.toNat default).fPrefix).fAddr)) && (((((a0.getD p1.toNat default).fPrefix).fLen) == (((a1.getD p1.toNat default).fPrefix).fLen)) && true)) && true))))], []⟩ [decide (0 ≤ p1), decide (p1 < (a0.length : Int)), decide (0 ≤ p1), decide (p1 < (a1.length : Int))] c8 ?_
 refine then_n ?_
 refine cnd (!((((a0.getD p1.toNat default).fArea) == ((a1.getD p1.toNat default).fArea)) && ((((((a0.getD p1.toNat default).fPrefix).fAddr) == (((a1.getD p1.toNat default).fPrefix).fAddr)) && (((((a0.getD p1.toNat default).fPrefix).fLen) == (((a1.getD p1.toNat default).fPrefix).fLen)) && true)) && true))) (fun b10 => ?_) (fun b10 => ?_)
 have h11 := cond_t b10 h9
 refine awp_seq (rg0 [4] 0 ⟨26, [(4, .bool false)], []⟩ ?_)
 refine then_n (awp_ret (inb_r (then_r ?_)))
 obtain rfl := Option.some.inj h11
 exact round_r ⟨rfl, er0 (.bool false)⟩
 have h12 := cond_f b10 h9
 refine awp_skip (inb_n (then_n (rg0 [0, 1, 12, 13] 0 ⟨26, [(0, sL 3 c_TAreaRange a0), (1, sL 3 c_TAreaRange a1), (12, .int .i64 (a0.length : Int)), (13, .int .i64 (wr .i64 (p1 + 1)))], []⟩ ?_)))
 obtain rfl := Option.some.inj h12
 exact round_n (le_rfl)
 have h7 := cond_f b5 h4
 refine awp_exit (then_e ?_)
 obtain rfl := Option.some.inj h7
 exact round_e ⟨rfl, kp []⟩
 intro e15 s16 o17
 rcases y3 with g4 | y5
 have h18 := elim_l h14
 obtain ⟨rfl, l20⟩ := o17
 refine inb_here ?_
 refine then_le (s' := ⟨26, [], []⟩) (l20) ?_
 refine awp_seq (rg0 [4] 0 ⟨26, [(4, .bool true)], []⟩ ?_)
 refine then_n (awp_ret ?_)
 obtain rfl := Option.some.inj h18
 exact er0 (.bool true)
 have h19 := elim_r h14
 obtain ⟨rfl, n21⟩ := o17
 refine inb_r (then_r ?_)
 obtain rfl := Option.some.inj h19
 exact n21

/- slices.Equal[[]netverify/api.Redist,netverify/api.Redist] -/
theorem slices_Equal_api_Redist_api_Redist_ok (a0 : List TRedist) (a1 : List TRedist) (r : Bool) (h : M.slices_Equal_api_Redist_api_Redist a0 a1 = some r) : Fn Tryz.prog 108 [sL 5 c_TRedist a0, sL 5 c_TRedist a1] (.pure (.bool r)) := by
 unfold M.slices_Equal_api_Redist_api_Redist at h
 refine fn_pure Tryz.func108 rfl (by kernel_rfl) ?_
 refine awp_seq (rg0 [0, 1] 0 ⟨26, [(0, sL 5 c_TRedist a0), (1, sL 5 c_TRedist a1)], []⟩ ?_)
 refine then_n (awp_seq (awp_seq (rg0 [0, 1, 10] 0 ⟨26, [(0, sL 5 c_TRedist a0), (1, sL 5 c_TRedist a1), (10, .bool ((a0.length : Int) != (a1.length : Int)))], []⟩ ?_)))
 refine then_n ?_
 refine cnd ((a0.length : Int) != (a1.length : Int)) (fun b1 => ?_) (fun b1 => ?_)
 have h2 := cond_t b1 h
 refine awp_seq (rg0 [4] 0 ⟨26, [(4, .bool false)], []⟩ ?_)
 refine then_n (awp_ret (then_r ?_))
 obtain rfl := Option.some.inj h2
 exact er0 (.bool false)
 have h3 := cond_f b1 h
 refine awp_skip (then_n (awp_seq (awp_seq (rg0 [0, 1, 12, 13] 0 ⟨26, [(0, sL 5 c_TRedist a0), (1, sL 5 c_TRedist a1), (12, .int .i64 (a0.length : Int)), (13, .int .i64 0)], []⟩ ?_))))
 refine then_n (awp_block ?_)
 obtain ⟨y3, q13, h14⟩ := bind_some h3
 refine awp_le (s' := ⟨26, [(0, sL 5 c_TRedist a0), (1, sL 5 c_TRedist a1), (12, .int .i64 (a0.length : Int)), (13, .int .i64 0)], []⟩) (le_rfl) ?_
 refine awp_mono (awp_loop (f := M.slices_Equal_api_Redist_api_Redist_l1 a0 a1) (S := fun (p1 : Int) => ⟨26, [(0, sL 5 c_TRedist a0), (1, sL 5 c_TRedist a1), (12, .int .i64 (a0.length : Int)), (13, .int .i64 p1)], []⟩) (O := (Sum.elim (fun z => OutE 0 (fun z => ⟨26, [], []⟩) z) (fun z => OutR Tryz.prog Tryz.f108 (.bool z)))) ?_ (x := 0) (y := y3) (loopM_iter q13)) ?_
 intro p1 y2 h4
 unfold M.slices_Equal_api_Redist_api_Redist_l1 at h4
 refine awp_seq (rg0 [0, 1, 12, 13, 14] 0 ⟨26, [(0, sL 5 c_TRedist a0), (1, sL 5 c_TRedist a1), (12, .int .i64 (a0.length : Int)), (13, .int .i64 p1), (14, .bool (decide (p1 < (a0.length : Int))))], []⟩ ?_)
 refine then_n (awp_seq ?_)
 refine cnd (decide (p1 < (a0.length : Int))) (fun b5 => ?_) (fun b5 => ?_)
 have h6 := cond_t b5 h4
 refine awp_skip (then_n (awp_seq (awp_block (awp_seq (rg0 [0, 1, 5, 12, 13] 0 ⟨26, [(0, sL 5 c_TRedist a0), (1, sL 5 c_TRedist a1), (5, .int .i64 p1), (12, .int .i64 (a0.length : Int)), (13, .int .i64 p1)], []⟩ ?_)))))
 refine then_n (awp_seq ?_)
 obtain ⟨c8, h9⟩ := gd_some h6
 refine rgc [0, 1, 12, 13, 24] 0 ⟨26, [(0, sL 5 c_TRedist a0), (1, sL 5 c_TRedist a1), (12, .int .i64 (a0.length : Int)), (13, .int .i64 p1), (24, .bool (!((((a0.getD p1.toNat default).fFrom) == ((a1.getD p1.toNat default).fFrom)) && ((((a0.getD p1.toNat default).fMetric) == ((a1.getD p1.toNat default).fMetric)) && ((((a0.getD p1.toNat default).fTag) == ((a1.getD p1.toNat default).fTag)) && (strEq ((a0.getD p1.toNat default).fMap) ((a1.getD p1.toNat default).fMap) && ((((a0.getD p1.toNat default).fType) == ((a1.getD p1.toNat default).fType)) && true)))))))], []⟩ [decide (0 ≤ p1), decide (p1 < (a0.length : Int)), decide (0 ≤ p1), decide (p1 < (a1.length : Int))] c8 ?_
 refine then_n ?_
 refine cnd (!((((a0.getD p1.toNat default).fFrom) == ((a1.getD p1.toNat default).fFrom)) && ((((a0.getD p1.toNat default).fMetric) == ((a1.getD p1.toNat default).fMetric)) && ((((a0.getD p1.toNat default).fTag) == ((a1.getD p1.toNat default).fTag)) && (strEq ((a0.getD p1.toNat default).fMap) ((a1.getD p1.toNat default).fMap) && ((((a0.getD p1.toNat default).fType) == ((a1.getD p1.toNat default).fType)) && true)))))) (fun b10 => ?_) (fun b10 => ?_)
 have h11 := cond_t b10 h9
 refine awp_seq (rg0 [4] 0 ⟨26, [(4, .bool false)], []⟩ ?_)
 refine then_n (awp_ret (inb_r (then_r ?_)))
 obtain rfl := Option.some.inj h11
 exact round_r ⟨rfl, er0 (.bool false)⟩
 have h12 := cond_f b10 h9
 refine awp_skip (inb_n (then_n (rg0 [0, 1, 12, 13] 0 ⟨26, [(0, sL 5 c_TRedist a0), (1, sL 5 c_TRedist a1), (12, .int .i64 (a0.length : Int)), (13, .int .i64 (wr .i64 (p1 + 1)))], []⟩ ?_)))
 obtain rfl := Option.some.inj h12
 exact round_n (le_rfl)
 have h7 := cond_f b5 h4
 refine awp_exit (then_e ?_)
 obtain rfl := Option.some.inj h7
 exact round_e ⟨rfl, kp []⟩
 intro e15 s16 o17
 rcases y3 with g4 | y5
 have h18 := elim_l h14
 obtain ⟨rfl, l20⟩ := o17
 refine inb_here ?_
 refine then_le (s' := ⟨26, [], []⟩) (l20) ?_
 refine awp_seq (rg0 [4] 0 ⟨26, [(4, .bool true)], []⟩ ?_)
 refine then_n (awp_ret ?_)
 obtain rfl := Option.some.inj h18
 exact er0 (.bool true)
 have h19 := elim_r h14
 obtain ⟨rfl, n21⟩ := o17
 refine inb_r (then_r ?_)
 obtain rfl := Option.some.inj h19
 exact n21

/- netverify/model.sameLinkState -/
theorem model_sameLinkState_ok (a0 : TLinkState) (a1 : TLinkState) (r : Bool) (h : M.model_sameLinkState a0 a1 = some r) : Fn Tryz.prog 83 [.agg (c_TLinkState a0), .agg (c_TLinkState a1)] (.pure (.bool r)) := by
 unfold M.model_sameLinkState at h
 refine fn_pure Tryz.func83 rfl (by kernel_rfl) ?_
 refine awp_seq (rg0 [2, 3] 2 ⟨31, [(2, .ref 0 0), (3, .ref 1 0)], [.box (c_TLinkState a0), .box (c_TLinkState a1)]⟩ ?_)
 refine then_n (awp_seq ?_)
 obtain ⟨r1, q1, h2⟩ := bind_some h
 obtain ⟨r2, q3, h4⟩ := bind_some h2
 refine rg [.pure (.bool r1), .pure (.bool r2)] [4] 0 ⟨31, [(4, .bool ((((a0.fOn == a1.fOn) && (a0.fAdmin == a1.fAdmin)) && r1) && r2))], []⟩ [] [⟨(a0.fOn == a1.fOn) && (a0.fAdmin == a1.fAdmin), 107, [sL 3 c_TAreaRange a0.fRanges, sL 3 c_TAreaRange a1.fRanges], .pure (.bool r1)⟩, ⟨((a0.fOn == a1.fOn) && (a0.fAdmin == a1.fAdmin)) && r1, 108, [sL 5 c_TRedist a0.fRedist, sL 5 c_TRedist a1.fRedist], .pure (.bool r2)⟩] nil_all ⟨fun hg => slices_Equal_api_AreaRange_api_AreaRange_ok a0.fRanges a1.fRanges r1 (gc_some q1 hg), fun hg => slices_Equal_api_Redist_api_Redist_ok a0.fRedist a1.fRedist r2 (gc_some q3 hg), trivial⟩ ?_
 refine then_n (awp_ret ?_)
 obtain rfl := Option.some.inj h4
 exact er0 (.bool ((((a0.fOn == a1.fOn) && (a0.fAdmin == a1.fAdmin)) && r1) && r2))

/- netverify/model.sameDistanceVector -/
theorem model_sameDistanceVector_ok (a0 : TDistanceVector) (a1 : TDistanceVector) (r : Bool) (h : M.model_sameDistanceVector a0 a1 = some r) : Fn Tryz.prog 84 [.agg (c_TDistanceVector a0), .agg (c_TDistanceVector a1)] (.pure (.bool r)) := by
 unfold M.model_sameDistanceVector at h
 refine fn_pure Tryz.func84 rfl (by kernel_rfl) ?_
 refine awp_seq (rg0 [2, 3] 2 ⟨38, [(2, .ref 0 0), (3, .ref 1 0)], [.box (c_TDistanceVector a0), .box (c_TDistanceVector a1)]⟩ ?_)
 refine then_n (awp_seq ?_)
 obtain ⟨r1, q1, h2⟩ := bind_some h
 refine rg [.pure (.bool r1)] [4] 0 ⟨38, [(4, .bool (((((a0.fOn == a1.fOn) && (a0.fAdmin == a1.fAdmin)) && (strEq a0.fIn a1.fIn)) && (strEq a0.fOut a1.fOut)) && r1))], []⟩ [] [⟨(((a0.fOn == a1.fOn) && (a0.fAdmin == a1.fAdmin)) && (strEq a0.fIn a1.fIn)) && (strEq a0.fOut a1.fOut), 108, [sL 5 c_TRedist a0.fRedist, sL 5 c_TRedist a1.fRedist], .pure (.bool r1)⟩] nil_all ⟨fun hg => slices_Equal_api_Redist_api_Redist_ok a0.fRedist a1.fRedist r1 (gc_some q1 hg), trivial⟩ ?_
 refine then_n (awp_ret ?_)
 obtain rfl := Option.some.inj h2
 exact er0 (.bool (((((a0.fOn == a1.fOn) && (a0.fAdmin == a1.fAdmin)) && (strEq a0.fIn a1.fIn)) && (strEq a0.fOut a1.fOut)) && r1))

/- slices.Equal[[]netverify/api.Neighbor,netverify/api.Neighbor] -/
theorem slices_Equal_api_Neighbor_api_Neighbor_ok (a0 : List TNeighbor) (a1 : List TNeighbor) (r : Bool) (h : M.slices_Equal_api_Neighbor_api_Neighbor a0 a1 = some r) : Fn Tryz.prog 109 [sL 4 c_TNeighbor a0, sL 4 c_TNeighbor a1] (.pure (.bool r)) := by
 unfold M.slices_Equal_api_Neighbor_api_Neighbor at h
 refine fn_pure Tryz.func109 rfl (by kernel_rfl) ?_
 refine awp_seq (rg0 [0, 1] 0 ⟨26, [(0, sL 4 c_TNeighbor a0), (1, sL 4 c_TNeighbor a1)], []⟩ ?_)
 refine then_n (awp_seq (awp_seq (rg0 [0, 1, 10] 0 ⟨26, [(0, sL 4 c_TNeighbor a0), (1, sL 4 c_TNeighbor a1), (10, .bool ((a0.length : Int) != (a1.length : Int)))], []⟩ ?_)))
 refine then_n ?_
 refine cnd ((a0.length : Int) != (a1.length : Int)) (fun b1 => ?_) (fun b1 => ?_)
 have h2 := cond_t b1 h
 refine awp_seq (rg0 [4] 0 ⟨26, [(4, .bool false)], []⟩ ?_)
 refine then_n (awp_ret (then_r ?_))
 obtain rfl := Option.some.inj h2
 exact er0 (.bool false)
 have h3 := cond_f b1 h
 refine awp_skip (then_n (awp_seq (awp_seq (rg0 [0, 1, 12, 13] 0 ⟨26, [(0, sL 4 c_TNeighbor a0), (1, sL 4 c_TNeighbor a1), (12, .int .i64 (a0.length : Int)), (13, .int .i64 0)], []⟩ ?_))))
 refine then_n (awp_block ?_)
 obtain ⟨y3, q13, h14⟩ := bind_some h3
 refine awp_le (s' := ⟨26, [(0, sL 4 c_TNeighbor a0), (1, sL 4 c_TNeighbor a1), (12, .int .i64 (a0.length : Int)), (13, .int .i64 0)], []⟩) (le_rfl) ?_
 refine awp_mono (awp_loop (f := M.slices_Equal_api_Neighbor_api_Neighbor_l1 a0 a1) (S := fun (p1 : Int) => ⟨26, [(0, sL 4 c_TNeighbor a0), (1, sL 4 c_TNeighbor a1), (12, .int .i64 (a0.length : Int)), (13, .int .i64 p1)], []⟩) (O := (Sum.elim (fun z => OutE 0 (fun z => ⟨26, [], []⟩) z) (fun z => OutR Tryz.prog Tryz.f109 (.bool z)))) ?_ (x := 0) (y := y3) (loopM_iter q13)) ?_
 intro p1 y2 h4
 unfold M.slices_Equal_api_Neighbor_api_Neighbor_l1 at h4
 refine awp_seq (rg0 [0, 1, 12, 13, 14] 0 ⟨26, [(0, sL 4 c_TNeighbor a0), (1, sL 4 c_TNeighbor a1), (12, .int .i64 (a0.length : Int)), (13, .int .i64 p1), (14, .bool (decide (p1 < (a0.length : Int))))], []⟩ ?_)
 refine then_n (awp_seq ?_)
 refine cnd (decide (p1 < (a0.length : Int))) (fun b5 => ?_) (fun b5 => ?_)
 have h6 := cond_t b5 h4
 refine awp_skip (then_n (awp_seq (awp_block (awp_seq (rg0 [0, 1, 5, 12, 13] 0 ⟨26, [(0, sL 4 c_TNeighbor a0), (1, sL 4 c_TNeighbor a1), (5, .int .i64 p1), (12, .int .i64 (a0.length : Int)), (13, .int .i64 p1)], []⟩ ?_)))))
 refine then_n (awp_seq ?_)
 obtain ⟨c8, h9⟩ := gd_some h6
 refine rgc [0, 1, 12, 13, 24] 0 ⟨26, [(0, sL 4 c_TNeighbor a0), (1, sL 4 c_TNeighbor a1), (12, .int .i64 (a0.length : Int)), (13, .int .i64 p1), (24, .bool (!((((a0.getD p1.toNat default).fAddr) == ((a1.getD p1.toNat default).fAddr)) && ((((a0.getD p1.toNat default).fAS) == ((a1.getD p1.toNat default).fAS)) && (strEq ((a0.getD p1.toNat default).fIn) ((a1.getD p1.toNat default).fIn) && (strEq ((a0.getD p1.toNat default).fOut) ((a1.getD p1.toNat default).fOut) && true))))))], []⟩ [decide (0 ≤ p1), decide (p1 < (a0.length : Int)), decide (0 ≤ p1), decide (p1 < (a1.length : Int))] c8 ?_
 refine then_n ?_
 refine cnd (!((((a0.getD p1.toNat default).fAddr) == ((a1.getD p1.toNat default).fAddr)) && ((((a0.getD p1.toNat default).fAS) == ((a1.getD p1.toNat default).fAS)) && (strEq ((a0.getD p1.toNat default).fIn) ((a1.getD p1.toNat default).fIn) && (strEq ((a0.getD p1.toNat default).fOut) ((a1.getD p1.toNat default).fOut) && true))))) (fun b10 => ?_) (fun b10 => ?_)
 have h11 := cond_t b10 h9
 refine awp_seq (rg0 [4] 0 ⟨26, [(4, .bool false)], []⟩ ?_)
 refine then_n (awp_ret (inb_r (then_r ?_)))
 obtain rfl := Option.some.inj h11
 exact round_r ⟨rfl, er0 (.bool false)⟩
 have h12 := cond_f b10 h9
 refine awp_skip (inb_n (then_n (rg0 [0, 1, 12, 13] 0 ⟨26, [(0, sL 4 c_TNeighbor a0), (1, sL 4 c_TNeighbor a1), (12, .int .i64 (a0.length : Int)), (13, .int .i64 (wr .i64 (p1 + 1)))], []⟩ ?_)))
 obtain rfl := Option.some.inj h12
 exact round_n (le_rfl)
 have h7 := cond_f b5 h4
 refine awp_exit (then_e ?_)
 obtain rfl := Option.some.inj h7
 exact round_e ⟨rfl, kp []⟩
 intro e15 s16 o17
 rcases y3 with g4 | y5
 have h18 := elim_l h14
 obtain ⟨rfl, l20⟩ := o17
 refine inb_here ?_
 refine then_le (s' := ⟨26, [], []⟩) (l20) ?_
 refine awp_seq (rg0 [4] 0 ⟨26, [(4, .bool true)], []⟩ ?_)
 refine then_n (awp_ret ?_)
 obtain rfl := Option.some.inj h18
 exact er0 (.bool true)
 have h19 := elim_r h14
 obtain ⟨rfl, n21⟩ := o17
 refine inb_r (then_r ?_)
 obtain rfl := Option.some.inj h19
 exact n21

/- slices.Equal[[]netverify/api.Prefix,netverify/api.Prefix] -/
theorem slices_Equal_api_Prefix_api_Prefix_ok (a0 : List TPrefix) (a1 : List TPrefix) (r : Bool) (h : M.slices_Equal_api_Prefix_api_Prefix a0 a1 = some r) : Fn Tryz.prog 110 [sL 2 c_TPrefix a0, sL 2 c_TPrefix a1] (.pure (.bool r)) := by
 unfold M.slices_Equal_api_Prefix_api_Prefix at h
 refine fn_pure Tryz.func110 rfl (by kernel_rfl) ?_
 refine awp_seq (rg0 [0, 1] 0 ⟨26, [(0, sL 2 c_TPrefix a0), (1, sL 2 c_TPrefix a1)], []⟩ ?_)
 refine then_n (awp_seq (awp_seq (rg0 [0, 1, 10] 0 ⟨26, [(0, sL 2 c_TPrefix a0), (1, sL 2 c_TPrefix a1), (10, .bool ((a0.length : Int) != (a1.length : Int)))], []⟩ ?_)))
 refine then_n ?_
 refine cnd ((a0.length : Int) != (a1.length : Int)) (fun b1 => ?_) (fun b1 => ?_)
 have h2 := cond_t b1 h
 refine awp_seq (rg0 [4] 0 ⟨26, [(4, .bool false)], []⟩ ?_)
 refine then_n (awp_ret (then_r ?_))
 obtain rfl := Option.some.inj h2
 exact er0 (.bool false)
 have h3 := cond_f b1 h
 refine awp_skip (then_n (awp_seq (awp_seq (rg0 [0, 1, 12, 13] 0 ⟨26, [(0, sL 2 c_TPrefix a0), (1, sL 2 c_TPrefix a1), (12, .int .i64 (a0.length : Int)), (13, .int .i64 0)], []⟩ ?_))))
 refine then_n (awp_block ?_)
 obtain ⟨y3, q13, h14⟩ := bind_some h3
 refine awp_le (s' := ⟨26, [(0, sL 2 c_TPrefix a0), (1, sL 2 c_TPrefix a1), (12, .int .i64 (a0.length : Int)), (13, .int .i64 0)], []⟩) (le_rfl) ?_
 refine awp_mono (awp_loop (f := M.slices_Equal_api_Prefix_api_Prefix_l1 a0 a1) (S := fun (p1 : Int) => ⟨26, [(0, sL 2 c_TPrefix a0), (1, sL 2 c_TPrefix a1), (12, .int .i64 (a0.length : Int)), (13, .int .i64 p1)], []⟩) (O := (Sum.elim (fun z => OutE 0 (fun z => ⟨26, [], []⟩) z) (fun z => OutR Tryz.prog Tryz.f110 (.bool z)))) ?_ (x := 0) (y := y3) (loopM_iter q13)) ?_
 intro p1 y2 h4
 unfold M.slices_Equal_api_Prefix_api_Prefix_l1 at h4
 refine awp_seq (rg0 [0, 1, 12, 13, 14] 0 ⟨26, [(0, sL 2 c_TPrefix a0), (1, sL 2 c_TPrefix a1), (12, .int .i64 (a0.length : Int)), (13, .int .i64 p1), (14, .bool (decide (p1 < (a0.length : Int))))], []⟩ ?_)
 refine then_n (awp_seq ?_)
 refine cnd (decide (p1 < (a0.length : Int))) (fun b5 => ?_) (fun b5 => ?_)
 have h6 := cond_t b5 h4
 refine awp_skip (then_n (awp_seq (awp_block (awp_seq (rg0 [0, 1, 5, 12, 13] 0 ⟨26, [(0, sL 2 c_TPrefix a0), (1, sL 2 c_TPrefix a1), (5, .int .i64 p1), (12, .int .i64 (a0.length : Int)), (13, .int .i64 p1)], []⟩ ?_)))))
 refine then_n (awp_seq ?_)
 obtain ⟨c8, h9⟩ := gd_some h6
 refine rgc [0, 1, 12, 13, 24] 0 ⟨26, [(0, sL 2 c_TPrefix a0), (1, sL 2 c_TPrefix a1), (12, .int .i64 (a0.length : Int)), (13, .int .i64 p1), (24, .bool (!((((a0.getD p1.toNat default).fAddr) == ((a1.getD p1.toNat default).fAddr)) && ((((a0.getD p1.toNat default).fLen) == ((a1.getD p1.toNat default).fLen)) && true))))], []⟩ [decide (0 ≤ p1), decide (p1 < (a0.length : Int)), decide (0 ≤ p1), decide (p1 < (a1.length : Int))] c8 ?_
 refine then_n ?_
 refine cnd (!((((a0.getD p1.toNat default).fAddr) == ((a1.getD p1.toNat default).fAddr)) && ((((a0.getD p1.toNat default).fLen) == ((a1.getD p1.toNat default).fLen)) && true))) (fun b10 => ?_) (fun b10 => ?_)
 have h11 := cond_t b10 h9
 refine awp_seq (rg0 [4] 0 ⟨26, [(4, .bool false)], []⟩ ?_)
 refine then_n (awp_ret (inb_r (then_r ?_)))
 obtain rfl := Option.some.inj h11
 exact round_r ⟨rfl, er0 (.bool false)⟩
 have h12 := cond_f b10 h9
 refine awp_skip (inb_n (then_n (rg0 [0, 1, 12, 13] 0 ⟨26, [(0, sL 2 c_TPrefix a0), (1, sL 2 c_TPrefix a1), (12, .int .i64 (a0.length : Int)), (13, .int .i64 (wr .i64 (p1 + 1)))], []⟩ ?_)))
 obtain rfl := Option.some.inj h12
 exact round_n (le_rfl)
 have h7 := cond_f b5 h4
 refine awp_exit (then_e ?_)
 obtain rfl := Option.some.inj h7
 exact round_e ⟨rfl, kp []⟩
 intro e15 s16 o17
 rcases y3 with g4 | y5
 have h18 := elim_l h14
 obtain ⟨rfl, l20⟩ := o17
 refine inb_here ?_
 refine then_le (s' := ⟨26, [], []⟩) (l20) ?_
 refine awp_seq (rg0 [4] 0 ⟨26, [(4, .bool true)], []⟩ ?_)
 refine then_n (awp_ret ?_)
 obtain rfl := Option.some.inj h18
 exact er0 (.bool true)
 have h19 := elim_r h14
 obtain ⟨rfl, n21⟩ := o17
 refine inb_r (then_r ?_)
 obtain rfl := Option.some.inj h19
 exact n21

/- slices.Equal[[]netverify/api.Aggregate,netverify/api.Aggregate] -/
theorem slices_Equal_api_Aggregate_api_Aggregate_ok (a0 : List TAggregate) (a1 : List TAggregate) (r : Bool) (h : M.slices_Equal_api_Aggregate_api_Aggregate a0 a1 = some r) : Fn Tryz.prog 111 [sL 3 c_TAggregate a0, sL 3 c_TAggregate a1] (.pure (.bool r)) := by
 unfold M.slices_Equal_api_Aggregate_api_Aggregate at h
 refine fn_pure Tryz.func111 rfl (by kernel_rfl) ?_
 refine awp_seq (rg0 [0, 1] 0 ⟨26, [(0, sL 3 c_TAggregate a0), (1, sL 3 c_TAggregate a1)], []⟩ ?_)
 refine then_n (awp_seq (awp_seq (rg0 [0, 1, 10] 0 ⟨26, [(0, sL 3 c_TAggregate a0), (1, sL 3 c_TAggregate a1), (10, .bool ((a0.length : Int) != (a1.length : Int)))], []⟩ ?_)))
 refine then_n ?_
 refine cnd ((a0.length : Int) != (a1.length : Int)) (fun b1 => ?_) (fun b1 => ?_)
 have h2 := cond_t b1 h
 refine awp_seq (rg0 [4] 0 ⟨26, [(4, .bool false)], []⟩ ?_)
 refine then_n (awp_ret (then_r ?_))
 obtain rfl := Option.some.inj h2
 exact er0 (.bool false)
 have h3 := cond_f b1 h
 refine awp_skip (then_n (awp_seq (awp_seq (rg0 [0, 1, 12, 13] 0 ⟨26, [(0, sL 3 c_TAggregate a0), (1, sL 3 c_TAggregate a1), (12, .int .i64 (a0.length : Int)), (13, .int .i64 0)], []⟩ ?_))))
 refine then_n (awp_block ?_)
 obtain ⟨y3, q13, h14⟩ := bind_some h3
 refine awp_le (s' := ⟨26, [(0, sL 3 c_TAggregate a0), (1, sL 3 c_TAggregate a1), (12, .int .i64 (a0.length : Int)), (13, .int .i64 0)], []⟩) (le_rfl) ?_
 refine awp_mono (awp_loop (f := M.slices_Equal_api_Aggregate_api_Aggregate_l1 a0 a1) (S := fun (p1 : Int) => ⟨26, [(0, sL 3 c_TAggregate a0), (1, sL 3 c_TAggregate a1), (12, .int .i64 (a0.length : Int)), (13, .int .i64 p1)], []⟩) (O := (Sum.elim (fun z => OutE 0 (fun z => ⟨26, [], []⟩) z) (fun z => OutR Tryz.prog Tryz.f111 (.bool z)))) ?_ (x := 0) (y := y3) (loopM_iter q13)) ?_
 intro p1 y2 h4
 unfold M.slices_Equal_api_Aggregate_api_Aggregate_l1 at h4
 refine awp_seq (rg0 [0, 1, 12, 13, 14] 0 ⟨26, [(0, sL 3 c_TAggregate a0), (1, sL 3 c_TAggregate a1), (12, .int .i64 (a0.length : Int)), (13, .int .i64 p1), (14, .bool (decide (p1 < (a0.length : Int))))], []⟩ ?_)
 refine then_n (awp_seq ?_)
 refine cnd (decide (p1 < (a0.length : Int))) (fun b5 => ?_) (fun b5 => ?_)
 have h6 := cond_t b5 h4
 refine awp_skip (then_n (awp_seq (awp_block (awp_seq (rg0 [0, 1, 5, 12, 13] 0 ⟨26, [(0, sL 3 c_TAggregate a0), (1, sL 3 c_TAggregate a1), (5, .int .i64 p1), (12, .int .i64 (a0.length : Int)), (13, .int .i64 p1)], []⟩ ?_)))))
 refine then_n (awp_seq ?_)
 obtain ⟨c8, h9⟩ := gd_some h6
 refine rgc [0, 1, 12, 13, 24] 0 ⟨26, [(0, sL 3 c_TAggregate a0), (1, sL 3 c_TAggregate a1), (12, .int .i64 (a0.length : Int)), (13, .int .i64 p1), (24, .bool (!((((((a0.getD p1.toNat default).fPrefix).fAddr) == (((a1.getD p1.toNat default).fPrefix).fAddr)) && (((((a0.getD p1.toNat default).fPrefix).fLen) == (((a1.getD p1.toNat default).fPrefix).fLen)) && true)) && ((((a0.getD p1.toNat default).fOnly) == ((a1.getD p1.toNat default).fOnly)) && true))))], []⟩ [decide (0 ≤ p1), decide (p1 < (a0.length : Int)), decide (0 ≤ p1), decide (p1 < (a1.length : Int))] c8 ?_
 refine then_n ?_
 refine cnd (!((((((a0.getD p1.toNat default).fPrefix).fAddr) == (((a1.getD p1.toNat default).fPrefix).fAddr)) && (((((a0.getD p1.toNat default).fPrefix).fLen) == (((a1.getD p1.toNat default).fPrefix).fLen)) && true)) && ((((a0.getD p1.toNat default).fOnly) == ((a1.getD p1.toNat default).fOnly)) && true))) (fun b10 => ?_) (fun b10 => ?_)
 have h11 := cond_t b10 h9
 refine awp_seq (rg0 [4] 0 ⟨26, [(4, .bool false)], []⟩ ?_)
 refine then_n (awp_ret (inb_r (then_r ?_)))
 obtain rfl := Option.some.inj h11
 exact round_r ⟨rfl, er0 (.bool false)⟩
 have h12 := cond_f b10 h9
 refine awp_skip (inb_n (then_n (rg0 [0, 1, 12, 13] 0 ⟨26, [(0, sL 3 c_TAggregate a0), (1, sL 3 c_TAggregate a1), (12, .int .i64 (a0.length : Int)), (13, .int .i64 (wr .i64 (p1 + 1)))], []⟩ ?_)))
 obtain rfl := Option.some.inj h12
 exact round_n (le_rfl)
 have h7 := cond_f b5 h4
 refine awp_exit (then_e ?_)
 obtain rfl := Option.some.inj h7
 exact round_e ⟨rfl, kp []⟩
 intro e15 s16 o17
 rcases y3 with g4 | y5
 have h18 := elim_l h14
 obtain ⟨rfl, l20⟩ := o17
 refine inb_here ?_
 refine then_le (s' := ⟨26, [], []⟩) (l20) ?_
 refine awp_seq (rg0 [4] 0 ⟨26, [(4, .bool true)], []⟩ ?_)
 refine then_n (awp_ret ?_)
 obtain rfl := Option.some.inj h18
 exact er0 (.bool true)
 have h19 := elim_r h14
 obtain ⟨rfl, n21⟩ := o17
 refine inb_r (then_r ?_)
 obtain rfl := Option.some.inj h19
 exact n21

/- slices.Equal[[]netverify/api.Condition,netverify/api.Condition] -/
theorem slices_Equal_api_Condition_api_Condition_ok (a0 : List TCondition) (a1 : List TCondition) (r : Bool) (h : M.slices_Equal_api_Condition_api_Condition a0 a1 = some r) : Fn Tryz.prog 112 [sL 5 c_TCondition a0, sL 5 c_TCondition a1] (.pure (.bool r)) := by
 unfold M.slices_Equal_api_Condition_api_Condition at h
 refine fn_pure Tryz.func112 rfl (by kernel_rfl) ?_
 refine awp_seq (rg0 [0, 1] 0 ⟨26, [(0, sL 5 c_TCondition a0), (1, sL 5 c_TCondition a1)], []⟩ ?_)
 refine then_n (awp_seq (awp_seq (rg0 [0, 1, 10] 0 ⟨26, [(0, sL 5 c_TCondition a0), (1, sL 5 c_TCondition a1), (10, .bool ((a0.length : Int) != (a1.length : Int)))], []⟩ ?_)))
 refine then_n ?_
 refine cnd ((a0.length : Int) != (a1.length : Int)) (fun b1 => ?_) (fun b1 => ?_)
 have h2 := cond_t b1 h
 refine awp_seq (rg0 [4] 0 ⟨26, [(4, .bool false)], []⟩ ?_)
 refine then_n (awp_ret (then_r ?_))
 obtain rfl := Option.some.inj h2
 exact er0 (.bool false)
 have h3 := cond_f b1 h
 refine awp_skip (then_n (awp_seq (awp_seq (rg0 [0, 1, 12, 13] 0 ⟨26, [(0, sL 5 c_TCondition a0), (1, sL 5 c_TCondition a1), (12, .int .i64 (a0.length : Int)), (13, .int .i64 0)], []⟩ ?_))))
 refine then_n (awp_block ?_)
 obtain ⟨y3, q13, h14⟩ := bind_some h3
 refine awp_le (s' := ⟨26, [(0, sL 5 c_TCondition a0), (1, sL 5 c_TCondition a1), (12, .int .i64 (a0.length : Int)), (13, .int .i64 0)], []⟩) (le_rfl) ?_
 refine awp_mono (awp_loop (f := M.slices_Equal_api_Condition_api_Condition_l1 a0 a1) (S := fun (p1 : Int) => ⟨26, [(0, sL 5 c_TCondition a0), (1, sL 5 c_TCondition a1), (12, .int .i64 (a0.length : Int)), (13, .int .i64 p1)], []⟩) (O := (Sum.elim (fun z => OutE 0 (fun z => ⟨26, [], []⟩) z) (fun z => OutR Tryz.prog Tryz.f112 (.bool z)))) ?_ (x := 0) (y := y3) (loopM_iter q13)) ?_
 intro p1 y2 h4
 unfold M.slices_Equal_api_Condition_api_Condition_l1 at h4
 refine awp_seq (rg0 [0, 1, 12, 13, 14] 0 ⟨26, [(0, sL 5 c_TCondition a0), (1, sL 5 c_TCondition a1), (12, .int .i64 (a0.length : Int)), (13, .int .i64 p1), (14, .bool (decide (p1 < (a0.length : Int))))], []⟩ ?_)
 refine then_n (awp_seq ?_)
 refine cnd (decide (p1 < (a0.length : Int))) (fun b5 => ?_) (fun b5 => ?_)
 have h6 := cond_t b5 h4
 refine awp_skip (then_n (awp_seq (awp_block (awp_seq (rg0 [0, 1, 5, 12, 13] 0 ⟨26, [(0, sL 5 c_TCondition a0), (1, sL 5 c_TCondition a1), (5, .int .i64 p1), (12, .int .i64 (a0.length : Int)), (13, .int .i64 p1)], []⟩ ?_)))))
 refine then_n (awp_seq ?_)
 obtain ⟨c8, h9⟩ := gd_some h6
 refine rgc [0, 1, 12, 13, 24] 0 ⟨26, [(0, sL 5 c_TCondition a0), (1, sL 5 c_TCondition a1), (12, .int .i64 (a0.length : Int)), (13, .int .i64 p1), (24, .bool (!((((((a0.getD p1.toNat default).fPrefix).fAddr) == (((a1.getD p1.toNat default).fPrefix).fAddr)) && (((((a0.getD p1.toNat default).fPrefix).fLen) == (((a1.getD p1.toNat default).fPrefix).fLen)) && true)) && ((((((a0.getD p1.toNat default).fIf).fAddr) == (((a1.getD p1.toNat default).fIf).fAddr)) && (((((a0.getD p1.toNat default).fIf).fLen) == (((a1.getD p1.toNat default).fIf).fLen)) && true)) && ((((a0.getD p1.toNat default).fAbsent) == ((a1.getD p1.toNat default).fAbsent)) && true)))))], []⟩ [decide (0 ≤ p1), decide (p1 < (a0.length : Int)), decide (0 ≤ p1), decide (p1 < (a1.length : Int))] c8 ?_
 refine then_n ?_
 refine cnd (!((((((a0.getD p1.toNat default).fPrefix).fAddr) == (((a1.getD p1.toNat default).fPrefix).fAddr)) && (((((a0.getD p1.toNat default).fPrefix).fLen) == (((a1.getD p1.toNat default).fPrefix).fLen)) && true)) && ((((((a0.getD p1.toNat default).fIf).fAddr) == (((a1.getD p1.toNat default).fIf).fAddr)) && (((((a0.getD p1.toNat default).fIf).fLen) == (((a1.getD p1.toNat default).fIf).fLen)) && true)) && ((((a0.getD p1.toNat default).fAbsent) == ((a1.getD p1.toNat default).fAbsent)) && true)))) (fun b10 => ?_) (fun b10 => ?_)
 have h11 := cond_t b10 h9
 refine awp_seq (rg0 [4] 0 ⟨26, [(4, .bool false)], []⟩ ?_)
 refine then_n (awp_ret (inb_r (then_r ?_)))
 obtain rfl := Option.some.inj h11
 exact round_r ⟨rfl, er0 (.bool false)⟩
 have h12 := cond_f b10 h9
 refine awp_skip (inb_n (then_n (rg0 [0, 1, 12, 13] 0 ⟨26, [(0, sL 5 c_TCondition a0), (1, sL 5 c_TCondition a1), (12, .int .i64 (a0.length : Int)), (13, .int .i64 (wr .i64 (p1 + 1)))], []⟩ ?_)))
 obtain rfl := Option.some.inj h12
 exact round_n (le_rfl)
 have h7 := cond_f b5 h4
 refine awp_exit (then_e ?_)
 obtain rfl := Option.some.inj h7
 exact round_e ⟨rfl, kp []⟩
 intro e15 s16 o17
 rcases y3 with g4 | y5
 have h18 := elim_l h14
 obtain ⟨rfl, l20⟩ := o17
 refine inb_here ?_
 refine then_le (s' := ⟨26, [], []⟩) (l20) ?_
 refine awp_seq (rg0 [4] 0 ⟨26, [(4, .bool true)], []⟩ ?_)
 refine then_n (awp_ret ?_)
 obtain rfl := Option.some.inj h18
 exact er0 (.bool true)
 have h19 := elim_r h14
 obtain ⟨rfl, n21⟩ := o17
 refine inb_r (then_r ?_)
 obtain rfl := Option.some.inj h19
 exact n21

/- netverify/model.samePathVector -/
theorem model_samePathVector_ok (a0 : TPathVector) (a1 : TPathVector) (r : Bool) (h : M.model_samePathVector a0 a1 = some r) : Fn Tryz.prog 85 [.agg (c_TPathVector a0), .agg (c_TPathVector a1)] (.pure (.bool r)) := by
 unfold M.model_samePathVector at h
 refine fn_pure Tryz.func85 rfl (by kernel_rfl) ?_
 refine awp_seq (rg0 [2, 3] 2 ⟨59, [(2, .ref 0 0), (3, .ref 1 0)], [.box (c_TPathVector a0), .box (c_TPathVector a1)]⟩ ?_)
 refine then_n (awp_seq ?_)
 obtain ⟨r1, q1, h2⟩ := bind_some h
 obtain ⟨r2, q3, h4⟩ := bind_some h2
 obtain ⟨r3, q5, h6⟩ := bind_some h4
 obtain ⟨r4, q7, h8⟩ := bind_some h6
 obtain ⟨r5, q9, h10⟩ := bind_some h8
 refine rg [.pure (.bool r1), .pure (.bool r2), .pure (.bool r3), .pure (.bool r4), .pure (.bool r5)] [4] 0 ⟨59, [(4, .bool ((((((((a0.fOn == a1.fOn) && (a0.fExternal == a1.fExternal)) && (a0.fInternal == a1.fInternal)) && r1) && r2) && r3) && r4) && r5))], []⟩ [] [⟨((a0.fOn == a1.fOn) && (a0.fExternal == a1.fExternal)) && (a0.fInternal == a1.fInternal), 109, [sL 4 c_TNeighbor a0.fNeighbors, sL 4 c_TNeighbor a1.fNeighbors], .pure (.bool r1)⟩, ⟨(((a0.fOn == a1.fOn) && (a0.fExternal == a1.fExternal)) && (a0.fInternal == a1.fInternal)) && r1, 110, [sL 2 c_TPrefix a0.fNetworks, sL 2 c_TPrefix a1.fNetworks], .pure (.bool r2)⟩, ⟨((((a0.fOn == a1.fOn) && (a0.fExternal == a1.fExternal)) && (a0.fInternal == a1.fInternal)) && r1) && r2, 111, [sL 3 c_TAggregate a0.fAggregates, sL 3 c_TAggregate a1.fAggregates], .pure (.bool r3)⟩, ⟨(((((a0.fOn == a1.fOn) && (a0.fExternal == a1.fExternal)) && (a0.fInternal == a1.fInternal)) && r1) && r2) && r3, 112, [sL 5 c_TCondition a0.fConditions, sL 5 c_TCondition a1.fConditions], .pure (.bool r4)⟩, ⟨((((((a0.fOn == a1.fOn) && (a0.fExternal == a1.fExternal)) && (a0.fInternal == a1.fInternal)) && r1) && r2) && r3) && r4, 108, [sL 5 c_TRedist a0.fRedist, sL 5 c_TRedist a1.fRedist], .pure (.bool r5)⟩] nil_all ⟨fun hg => slices_Equal_api_Neighbor_api_Neighbor_ok a0.fNeighbors a1.fNeighbors r1 (gc_some q1 hg), fun hg => slices_Equal_api_Prefix_api_Prefix_ok a0.fNetworks a1.fNetworks r2 (gc_some q3 hg), fun hg => slices_Equal_api_Aggregate_api_Aggregate_ok a0.fAggregates a1.fAggregates r3 (gc_some q5 hg), fun hg => slices_Equal_api_Condition_api_Condition_ok a0.fConditions a1.fConditions r4 (gc_some q7 hg), fun hg => slices_Equal_api_Redist_api_Redist_ok a0.fRedist a1.fRedist r5 (gc_some q9 hg), trivial⟩ ?_
 refine then_n (awp_ret ?_)
 obtain rfl := Option.some.inj h10
 exact er0 (.bool ((((((((a0.fOn == a1.fOn) && (a0.fExternal == a1.fExternal)) && (a0.fInternal == a1.fInternal)) && r1) && r2) && r3) && r4) && r5))

/- netverify/model.Same -/
theorem model_Same_ok (a0 : TRouter) (a1 : TRouter) (r : Bool) (h : M.model_Same a0 a1 = some r) : Fn Tryz.prog 38 [.agg (c_TRouter a0), .agg (c_TRouter a1)] (.pure (.bool r)) := by
 unfold M.model_Same at h
 refine fn_pure Tryz.func38 rfl (by kernel_rfl) ?_
 refine awp_seq (rg0 [2, 3] 2 ⟨80, [(2, .ref 0 0), (3, .ref 1 0)], [.box (c_TRouter a0), .box (c_TRouter a1)]⟩ ?_)
 refine then_n (awp_seq ?_)
 obtain ⟨r1, q1, h2⟩ := bind_some h
 obtain ⟨r2, q3, h4⟩ := bind_some h2
 obtain ⟨r3, q5, h6⟩ := bind_some h4
 obtain ⟨r4, q7, h8⟩ := bind_some h6
 obtain ⟨r5, q9, h10⟩ := bind_some h8
 obtain ⟨r6, q11, h12⟩ := bind_some h10
 obtain ⟨r7, q13, h14⟩ := bind_some h12
 obtain ⟨r8, q15, h16⟩ := bind_some h14
 obtain ⟨r9, q17, h18⟩ := bind_some h16
 refine rg [.pure (.bool r1), .pure (.bool r2), .pure (.bool r3), .pure (.bool r4), .pure (.bool r5), .pure (.bool r6), .pure (.bool r7), .pure (.bool r8), .pure (.bool r9)] [4] 0 ⟨80, [(4, .bool (((((((((((strEq a0.fName a1.fName) && (a0.fAS == a1.fAS)) && r1) && r2) && r3) && r4) && r5) && r6) && r7) && r8) && r9))], []⟩ [] [⟨(strEq a0.fName a1.fName) && (a0.fAS == a1.fAS), 71, [sL 12 c_TInterface a0.fInterfaces, sL 12 c_TInterface a1.fInterfaces], .pure (.bool r1)⟩, ⟨((strEq a0.fName a1.fName) && (a0.fAS == a1.fAS)) && r1, 72, [sL 2 c_TPrefixList a0.fLists, sL 2 c_TPrefixList a1.fLists, .fn 73 []], .pure (.bool r2)⟩, ⟨(((strEq a0.fName a1.fName) && (a0.fAS == a1.fAS)) && r1) && r2, 75, [sL 2 c_TRouteMap a0.fMaps, sL 2 c_TRouteMap a1.fMaps, .fn 76 []], .pure (.bool r3)⟩, ⟨((((strEq a0.fName a1.fName) && (a0.fAS == a1.fAS)) && r1) && r2) && r3, 78, [sL 2 c_TACL a0.fACLs, sL 2 c_TACL a1.fACLs, .fn 79 []], .pure (.bool r4)⟩, ⟨(((((strEq a0.fName a1.fName) && (a0.fAS == a1.fAS)) && r1) && r2) && r3) && r4, 81, [sL 9 c_TTranslation a0.fNAT, sL 9 c_TTranslation a1.fNAT], .pure (.bool r5)⟩, ⟨((((((strEq a0.fName a1.fName) && (a0.fAS == a1.fAS)) && r1) && r2) && r3) && r4) && r5, 82, [sL 7 c_TStaticRoute a0.fStatics, sL 7 c_TStaticRoute a1.fStatics], .pure (.bool r6)⟩, ⟨(((((((strEq a0.fName a1.fName) && (a0.fAS == a1.fAS)) && r1) && r2) && r3) && r4) && r5) && r6, 83, [.agg (c_TLinkState a0.fLS), .agg (c_TLinkState a1.fLS)], .pure (.bool r7)⟩, ⟨((((((((strEq a0.fName a1.fName) && (a0.fAS == a1.fAS)) && r1) && r2) && r3) && r4) && r5) && r6) && r7, 84, [.agg (c_TDistanceVector a0.fDV), .agg (c_TDistanceVector a1.fDV)], .pure (.bool r8)⟩, ⟨(((((((((strEq a0.fName a1.fName) && (a0.fAS == a1.fAS)) && r1) && r2) && r3) && r4) && r5) && r6) && r7) && r8, 85, [.agg (c_TPathVector a0.fPV), .agg (c_TPathVector a1.fPV)], .pure (.bool r9)⟩] nil_all ⟨fun hg => slices_Equal_api_Interface_api_Interface_ok a0.fInterfaces a1.fInterfaces r1 (gc_some q1 hg), fun hg => slices_EqualFunc_api_PrefixList_api_PrefixList_api_PrefixList_api_PrefixList__model_Same_1_ok a0.fLists a1.fLists r2 (gc_some q3 hg), fun hg => slices_EqualFunc_api_RouteMap_api_RouteMap_api_RouteMap_api_RouteMap__model_Same_2_ok a0.fMaps a1.fMaps r3 (gc_some q5 hg), fun hg => slices_EqualFunc_api_ACL_api_ACL_api_ACL_api_ACL__model_Same_3_ok a0.fACLs a1.fACLs r4 (gc_some q7 hg), fun hg => slices_Equal_api_Translation_api_Translation_ok a0.fNAT a1.fNAT r5 (gc_some q9 hg), fun hg => slices_Equal_api_StaticRoute_api_StaticRoute_ok a0.fStatics a1.fStatics r6 (gc_some q11 hg), fun hg => model_sameLinkState_ok a0.fLS a1.fLS r7 (gc_some q13 hg), fun hg => model_sameDistanceVector_ok a0.fDV a1.fDV r8 (gc_some q15 hg), fun hg => model_samePathVector_ok a0.fPV a1.fPV r9 (gc_some q17 hg), trivial⟩ ?_
 refine then_n (awp_ret ?_)
 obtain rfl := Option.some.inj h18
 exact er0 (.bool (((((((((((strEq a0.fName a1.fName) && (a0.fAS == a1.fAS)) && r1) && r2) && r3) && r4) && r5) && r6) && r7) && r8) && r9))

/- netverify/netverifylaw5.sane -/
theorem law5_sane_ok  (r : Bool) (h : M.law5_sane = some r) : Fn Tryz.prog 9 [] (.pure (.bool r)) := by
 unfold M.law5_sane at h
 refine fn_pure Tryz.func9 rfl (by kernel_rfl) ?_
 refine awp_seq (rg0 [] 0 ⟨35, [], []⟩ ?_)
 refine then_n (awp_seq ?_)
 obtain ⟨r1, q1, h2⟩ := bind_some h
 refine rg [.pure (.agg (c_TRouter r1))] [1] 1 ⟨35, [(1, .ref 0 0)], [.box (c_TRouter r1)]⟩ [] [⟨true, 37, [], .pure (.agg (c_TRouter r1))⟩] nil_all ⟨fun _ => law5_sample_ok  r1 q1, trivial⟩ ?_
 refine then_n (awp_seq (rg0 [1, 2] 2 ⟨35, [(1, .ref 0 0), (2, .ref 1 0)], [.box (c_TRouter r1), .box (c_TRouter r1)]⟩ ?_))
 refine then_n (awp_seq (rg0 [1, 2] 2 ⟨35, [(1, .ref 0 0), (2, .ref 1 0)], [.box (c_TRouter r1), .box [.str (⟨#[49, 114]⟩ : ByteArray), .int .i64 r1.fAS, sL 12 c_TInterface r1.fInterfaces, sL 2 c_TPrefixList r1.fLists, sL 2 c_TRouteMap r1.fMaps, sL 2 c_TACL r1.fACLs, sL 9 c_TTranslation r1.fNAT, sL 7 c_TStaticRoute r1.fStatics, .bool r1.fLS.fOn, .int .i64 r1.fLS.fAdmin, sL 3 c_TAreaRange r1.fLS.fRanges, sL 5 c_TRedist r1.fLS.fRedist, .bool r1.fDV.fOn, .int .i64 r1.fDV.fAdmin, .str r1.fDV.fIn, .str r1.fDV.fOut, sL 5 c_TRedist r1.fDV.fRedist, .bool r1.fPV.fOn, .int .i64 r1.fPV.fExternal, .int .i64 r1.fPV.fInternal, sL 4 c_TNeighbor r1.fPV.fNeighbors, sL 2 c_TPrefix r1.fPV.fNetworks, sL 3 c_TAggregate r1.fPV.fAggregates, sL 5 c_TCondition r1.fPV.fConditions, sL 5 c_TRedist r1.fPV.fRedist]]⟩ ?_))
 refine then_n (awp_seq ?_)
 obtain ⟨r2, q3, h4⟩ := bind_some h2
 obtain ⟨r3, q5, h6⟩ := bind_some h4
 obtain ⟨r4, q7, h8⟩ := bind_some h6
 obtain ⟨r5, q9, h10⟩ := bind_some h8
 obtain ⟨r6, q11, h12⟩ := bind_some h10
 obtain ⟨r7, q13, h14⟩ := bind_some h12
 obtain ⟨r8, q15, h16⟩ := bind_some h14
 refine rg [.pure (.int .i64 r2), .pure (.int .i64 r3), .pure (.agg (c_TRouter r4)), .pure (.bool r5), .pure (.bool r6), .pure (.int .i64 r7), .pure (.int .i64 r8)] [0] 0 ⟨35, [(0, .bool ((((((r2 == 0) && (r3 == 3)) && r5) && (!r6)) && (r7 == 1)) && (r8 == 1)))], []⟩ [] [⟨true, 7, [.agg (c_TRouter r1)], .pure (.int .i64 r2)⟩, ⟨r2 == 0, 7, [.agg [.str (⟨#[49, 114]⟩ : ByteArray), .int .i64 r1.fAS, sL 12 c_TInterface r1.fInterfaces, sL 2 c_TPrefixList r1.fLists, sL 2 c_TRouteMap r1.fMaps, sL 2 c_TACL r1.fACLs, sL 9 c_TTranslation r1.fNAT, sL 7 c_TStaticRoute r1.fStatics, .bool r1.fLS.fOn, .int .i64 r1.fLS.fAdmin, sL 3 c_TAreaRange r1.fLS.fRanges, sL 5 c_TRedist r1.fLS.fRedist, .bool r1.fDV.fOn, .int .i64 r1.fDV.fAdmin, .str r1.fDV.fIn, .str r1.fDV.fOut, sL 5 c_TRedist r1.fDV.fRedist, .bool r1.fPV.fOn, .int .i64 r1.fPV.fExternal, .int .i64 r1.fPV.fInternal, sL 4 c_TNeighbor r1.fPV.fNeighbors, sL 2 c_TPrefix r1.fPV.fNetworks, sL 3 c_TAggregate r1.fPV.fAggregates, sL 5 c_TCondition r1.fPV.fConditions, sL 5 c_TRedist r1.fPV.fRedist]], .pure (.int .i64 r3)⟩, ⟨(r2 == 0) && (r3 == 3), 37, [], .pure (.agg (c_TRouter r4))⟩, ⟨(r2 == 0) && (r3 == 3), 38, [.agg (c_TRouter r1), .agg (c_TRouter r4)], .pure (.bool r5)⟩, ⟨((r2 == 0) && (r3 == 3)) && r5, 38, [.agg (c_TRouter r1), .agg [.str (⟨#[49, 114]⟩ : ByteArray), .int .i64 r1.fAS, sL 12 c_TInterface r1.fInterfaces, sL 2 c_TPrefixList r1.fLists, sL 2 c_TRouteMap r1.fMaps, sL 2 c_TACL r1.fACLs, sL 9 c_TTranslation r1.fNAT, sL 7 c_TStaticRoute r1.fStatics, .bool r1.fLS.fOn, .int .i64 r1.fLS.fAdmin, sL 3 c_TAreaRange r1.fLS.fRanges, sL 5 c_TRedist r1.fLS.fRedist, .bool r1.fDV.fOn, .int .i64 r1.fDV.fAdmin, .str r1.fDV.fIn, .str r1.fDV.fOut, sL 5 c_TRedist r1.fDV.fRedist, .bool r1.fPV.fOn, .int .i64 r1.fPV.fExternal, .int .i64 r1.fPV.fInternal, sL 4 c_TNeighbor r1.fPV.fNeighbors, sL 2 c_TPrefix r1.fPV.fNetworks, sL 3 c_TAggregate r1.fPV.fAggregates, sL 5 c_TCondition r1.fPV.fConditions, sL 5 c_TRedist r1.fPV.fRedist]], .pure (.bool r6)⟩, ⟨(((r2 == 0) && (r3 == 3)) && r5) && (!r6), 39, [.agg (c_TRouter r1), .str (⟨#[101, 49]⟩ : ByteArray)], .pure (.int .i64 r7)⟩, ⟨((((r2 == 0) && (r3 == 3)) && r5) && (!r6)) && (r7 == 1), 40, [.agg (c_TRouter r1), .int .u32 167772417], .pure (.int .i64 r8)⟩] nil_all ⟨fun _ => model_CheckRouter_ok r1 r2 q3, fun hg => model_CheckRouter_ok (⟨(⟨#[49, 114]⟩ : ByteArray), r1.fAS, r1.fInterfaces, r1.fLists, r1.fMaps, r1.fACLs, r1.fNAT, r1.fStatics, r1.fLS, r1.fDV, r1.fPV⟩ : TRouter) r3 (gc_some q5 hg), fun hg => law5_sample_ok  r4 (gc_some q7 hg), fun hg => model_Same_ok r1 r4 r5 (gc_some q9 hg), fun hg => model_Same_ok r1 (⟨(⟨#[49, 114]⟩ : ByteArray), r1.fAS, r1.fInterfaces, r1.fLists, r1.fMaps, r1.fACLs, r1.fNAT, r1.fStatics, r1.fLS, r1.fDV, r1.fPV⟩ : TRouter) r6 (gc_some q11 hg), fun hg => model_Interface_ok r1 (⟨#[101, 49]⟩ : ByteArray) r7 (gc_some q13 hg), fun hg => model_Address_ok r1 167772417 r8 (gc_some q15 hg), trivial⟩ ?_
 refine then_n (awp_ret ?_)
 obtain rfl := Option.some.inj h16
 exact er0 (.bool ((((((r2 == 0) && (r3 == 3)) && r5) && (!r6)) && (r7 == 1)) && (r8 == 1)))

/- netverify/netverifylaw5.ModelNetworks -/
theorem law5_ModelNetworks_ok (a0 : TNetwork) (r : Bool) (h : M.law5_ModelNetworks a0 = some r) : Fn Tryz.prog 5 [.agg (c_TNetwork a0)] (.pure (.bool r)) := by
 unfold M.law5_ModelNetworks at h
 refine fn_pure Tryz.func5 rfl (by kernel_rfl) ?_
 refine awp_seq (rg0 [1] 1 ⟨30, [(1, .ref 0 0)], [.box (c_TNetwork a0)]⟩ ?_)
 refine then_n (awp_seq (awp_seq (rg0 [1, 7] 1 ⟨30, [(1, .ref 0 0), (7, .bool (decide ((a0.fRouters.length : Int) > 10)))], [.box (c_TNetwork a0)]⟩ ?_)))
 refine then_n ?_
 refine cnd (decide ((a0.fRouters.length : Int) > 10)) (fun b1 => ?_) (fun b1 => ?_)
 have h2 := cond_t b1 h
 refine awp_seq (rg0 [2] 0 ⟨30, [(2, .bool true)], []⟩ ?_)
 refine then_n (awp_ret (then_r ?_))
 obtain rfl := Option.some.inj h2
 exact er0 (.bool true)
 have h3 := cond_f b1 h
 refine awp_skip (then_n (awp_seq (awp_seq (rg0 [1, 3] 1 ⟨30, [(1, .ref 0 0), (3, .int .i64 0)], [.box (c_TNetwork a0)]⟩ ?_))))
 refine then_n (awp_block ?_)
 obtain ⟨y4, q15, h16⟩ := bind_some h3
 refine awp_le (s' := ⟨30, [(1, .ref 0 0), (3, .int .i64 0)], [.box (c_TNetwork a0)]⟩) (le_rfl) ?_
 refine awp_mono (awp_loop (f := M.law5_ModelNetworks_l1 a0) (S := fun (p1 : Int) => ⟨30, [(1, .ref 0 0), (3, .int .i64 p1)], [.box (c_TNetwork a0)]⟩) (O := (Sum.elim (fun z => OutE 0 (fun z => ⟨30, [(1, .ref 0 0)], [.box (c_TNetwork a0)]⟩) z) (fun z => OutR Tryz.prog Tryz.f5 (.bool z)))) ?_ (x := 0) (y := y4) (loopM_iter q15)) ?_
 intro p1 y2 h4
 unfold M.law5_ModelNetworks_l1 at h4
 refine awp_seq (awp_seq (rg0 [1, 3, 12] 1 ⟨30, [(1, .ref 0 0), (3, .int .i64 p1), (12, .bool (decide (p1 < (a0.fRouters.length : Int))))], [.box (c_TNetwork a0)]⟩ ?_))
 refine then_n ?_
 refine cnd (decide (p1 < (a0.fRouters.length : Int))) (fun b5 => ?_) (fun b5 => ?_)
 have h6 := cond_t b5 h4
 refine awp_skip (then_n (awp_seq (awp_block (awp_seq ?_))))
 obtain ⟨r3, q8, h9⟩ := bind_some h6
 obtain ⟨c10, h11⟩ := gd_some h9
 refine rg [.pure (.bool r3)] [1, 3, 21] 1 ⟨30, [(1, .ref 0 0), (3, .int .i64 p1), (21, .bool (!r3))], [.box (c_TNetwork a0)]⟩ [decide (0 ≤ p1), decide (p1 < (a0.fRouters.length : Int))] [⟨true, 6, [.agg (c_TRouter (a0.fRouters.getD p1.toNat default))], .pure (.bool r3)⟩] c10 ⟨fun _ => law5_Small_ok (a0.fRouters.getD p1.toNat default) r3 q8, trivial⟩ ?_
 refine then_n ?_
 refine cnd (!r3) (fun b12 => ?_) (fun b12 => ?_)
 have h13 := cond_t b12 h11
 refine awp_seq (rg0 [2] 0 ⟨30, [(2, .bool true)], []⟩ ?_)
 refine then_n (awp_ret (inb_r (then_r ?_)))
 obtain rfl := Option.some.inj h13
 exact round_r ⟨rfl, er0 (.bool true)⟩
 have h14 := cond_f b12 h11
 refine awp_skip (inb_n (then_n (rg0 [1, 3] 1 ⟨30, [(1, .ref 0 0), (3, .int .i64 (wr .i64 (p1 + 1)))], [.box (c_TNetwork a0)]⟩ ?_)))
 obtain rfl := Option.some.inj h14
 exact round_n (le_rfl)
 have h7 := cond_f b5 h4
 refine awp_exit (then_e ?_)
 obtain rfl := Option.some.inj h7
 exact round_e ⟨rfl, kp [1]⟩
 intro e17 s18 o19
 rcases y4 with g5 | y6
 have h20 := elim_l h16
 obtain ⟨rfl, l22⟩ := o19
 refine inb_here ?_
 refine then_le (s' := ⟨30, [(1, .ref 0 0)], [.box (c_TNetwork a0)]⟩) (l22) ?_
 refine awp_seq ?_
 obtain ⟨r7, q23, h24⟩ := bind_some h20
 obtain ⟨r8, q25, h26⟩ := bind_some h24
 obtain ⟨r9, q27, h28⟩ := bind_some h26
 refine rg [.pure (.int .i64 r7), .pure (.int .i64 r8), .pure (.bool r9)] [2] 0 ⟨30, [(2, .bool ((r7 == r8) && r9))], []⟩ [] [⟨true, 11, [.agg (c_TNetwork a0)], .pure (.int .i64 r7)⟩, ⟨true, 12, [.agg (c_TNetwork a0)], .pure (.int .i64 r8)⟩, ⟨r7 == r8, 9, [], .pure (.bool r9)⟩] nil_all ⟨fun _ => model_Check_ok a0 r7 q23, fun _ => ref8_Check_ok a0 r8 q25, fun hg => law5_sane_ok  r9 (gc_some q27 hg), trivial⟩ ?_
 refine then_n (awp_ret ?_)
 obtain rfl := Option.some.inj h28
 exact er0 (.bool ((r7 == r8) && r9))
 have h21 := elim_r h16
 obtain ⟨rfl, n29⟩ := o19
 refine inb_r (then_r ?_)
 obtain rfl := Option.some.inj h21
 exact n29
end Nv
