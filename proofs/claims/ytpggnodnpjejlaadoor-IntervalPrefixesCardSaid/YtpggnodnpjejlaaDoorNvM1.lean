/- The walks: each function computes its mirror. -/
import Derived.Test.YtpggnodnpjejlaaDoorProg
import Derived.Test.YtpggnodnpjejlaaDoorNvD1
import Derived.Test.YtpggnodnpjejlaaDoorNvLibC
import Derived.KernelRfl
import Derived.Ground.Names7Prog
import Derived.Ground.SlsfProg
import Derived.Shelf.Lay
import Derived.Test.YtpggnodnpjejlaaDoorNvLibD
set_option maxRecDepth 100000
namespace Nv
open Go Go.Proofs
theorem law3_few_ok (a0 : List TInterval) (a1 : List TInterval) (r : Bool) (h : M.law3_few a0 a1 = some r) : Fn Tryd.prog 11 [sL 2 c_TInterval a0, sL 2 c_TInterval a1] (.pure (.bool r)) := by
 unfold M.law3_few at h
 refine fn_pure Tryd.func11 rfl (by kernel_rfl) ?_
 refine awp_seq (rg0 [0, 1] 0 ⟨13, [(0, sL 2 c_TInterval a0), (1, sL 2 c_TInterval a1)], []⟩ ?_)
 refine then_n (awp_seq (rg0 [4] 0 ⟨13, [(4, .bool ((decide ((a0.length : Int) ≤ 30)) && (decide ((a1.length : Int) ≤ 30))))], []⟩ ?_))
 refine then_n (awp_ret ?_)
 obtain rfl := Option.some.inj h
 exact er0 (.bool ((decide ((a0.length : Int) ≤ 30)) && (decide ((a1.length : Int) ≤ 30))))
theorem cmp_isNaN_uint32_ok (a0 : Int) (r : Bool) (h : M.cmp_isNaN_uint32 a0 = some r) : Fn Tryd.prog 51 [.int .u32 a0] (.pure (.bool r)) := by
 unfold M.cmp_isNaN_uint32 at h
 refine fn_pure Tryd.func51 rfl (by kernel_rfl) ?_
 refine awp_seq (rg0 [0] 0 ⟨6, [(0, .int .u32 a0)], []⟩ ?_)
 refine then_n (awp_seq (rg0 [2] 0 ⟨6, [(2, .bool (a0 != a0))], []⟩ ?_))
 refine then_n (awp_ret ?_)
 obtain rfl := Option.some.inj h
 exact er0 (.bool (a0 != a0))
theorem cmp_Compare_uint32_ok (a0 : Int) (a1 : Int) (r : Int) (h : M.cmp_Compare_uint32 a0 a1 = some r) : Fn Tryd.prog 43 [.int .u32 a0, .int .u32 a1] (.pure (.int .i64 r)) := by
 unfold M.cmp_Compare_uint32 at h
 refine fn_pure Tryd.func43 rfl (by kernel_rfl) ?_
 refine awp_seq (rg0 [0, 1] 0 ⟨20, [(0, .int .u32 a0), (1, .int .u32 a1)], []⟩ ?_)
 refine then_n (awp_seq ?_)
 obtain ⟨r1, q1, h2⟩ := bind_some h
 refine rg [.pure (.bool r1)] [0, 1, 5] 0 ⟨20, [(0, .int .u32 a0), (1, .int .u32 a1), (5, .bool r1)], []⟩ [] [⟨true, 51, [.int .u32 a0], .pure (.bool r1)⟩] nil_all ⟨fun _ => cmp_isNaN_uint32_ok a0 r1 q1, trivial⟩ ?_
 refine then_n (awp_seq ?_)
 obtain ⟨r2, q3, h4⟩ := bind_some h2
 refine rg [.pure (.bool r2)] [0, 1, 5, 6] 0 ⟨20, [(0, .int .u32 a0), (1, .int .u32 a1), (5, .bool r1), (6, .bool r2)], []⟩ [] [⟨true, 51, [.int .u32 a1], .pure (.bool r2)⟩] nil_all ⟨fun _ => cmp_isNaN_uint32_ok a1 r2 q3, trivial⟩ ?_
 refine then_n (awp_seq (awp_seq (rg0 [0, 1, 6, 11] 0 ⟨20, [(0, .int .u32 a0), (1, .int .u32 a1), (6, .bool r2), (11, .bool r1)], []⟩ ?_)))
 refine then_n ?_
 refine cnd r1 (fun b5 => ?_) (fun b5 => ?_)
 have h6 := cond_t b5 h4
 refine awp_seq (awp_seq (rg0 [12] 0 ⟨20, [(12, .bool r2)], []⟩ ?_))
 refine then_n ?_
 refine cnd r2 (fun b8 => ?_) (fun b8 => ?_)
 have h9 := cond_t b8 h6
 refine awp_seq (rg0 [4] 0 ⟨20, [(4, .int .i64 0)], []⟩ ?_)
 refine then_n (awp_ret (then_r (then_r ?_)))
 obtain rfl := Option.some.inj h9
 exact er0 (.int .i64 0)
 have h10 := cond_f b8 h6
 refine awp_skip (then_n (awp_seq (rg0 [4] 0 ⟨20, [(4, .int .i64 (-1))], []⟩ ?_)))
 refine then_n (awp_ret (then_r ?_))
 obtain rfl := Option.some.inj h10
 exact er0 (.int .i64 (-1))
 have h7 := cond_f b5 h4
 refine awp_skip (then_n (awp_seq (awp_seq (rg0 [0, 1, 13] 0 ⟨20, [(0, .int .u32 a0), (1, .int .u32 a1), (13, .bool r2)], []⟩ ?_))))
 refine then_n ?_
 refine cnd r2 (fun b11 => ?_) (fun b11 => ?_)
 have h12 := cond_t b11 h7
 refine awp_seq (rg0 [4] 0 ⟨20, [(4, .int .i64 1)], []⟩ ?_)
 refine then_n (awp_ret (then_r ?_))
 obtain rfl := Option.some.inj h12
 exact er0 (.int .i64 1)
 have h13 := cond_f b11 h7
 refine awp_skip (then_n (awp_seq (awp_seq (rg0 [0, 1, 16] 0 ⟨20, [(0, .int .u32 a0), (1, .int .u32 a1), (16, .bool (decide (a0 < a1)))], []⟩ ?_))))
 refine then_n ?_
 refine cnd (decide (a0 < a1)) (fun b14 => ?_) (fun b14 => ?_)
 have h15 := cond_t b14 h13
 refine awp_seq (rg0 [4] 0 ⟨20, [(4, .int .i64 (-1))], []⟩ ?_)
 refine then_n (awp_ret (then_r ?_))
 obtain rfl := Option.some.inj h15
 exact er0 (.int .i64 (-1))
 have h16 := cond_f b14 h13
 refine awp_skip (then_n (awp_seq (awp_seq (rg0 [19] 0 ⟨20, [(19, .bool (decide (a0 > a1)))], []⟩ ?_))))
 refine then_n ?_
 refine cnd (decide (a0 > a1)) (fun b17 => ?_) (fun b17 => ?_)
 have h18 := cond_t b17 h16
 refine awp_seq (rg0 [4] 0 ⟨20, [(4, .int .i64 1)], []⟩ ?_)
 refine then_n (awp_ret (then_r ?_))
 obtain rfl := Option.some.inj h18
 exact er0 (.int .i64 1)
 have h19 := cond_f b17 h16
 refine awp_skip (then_n (awp_seq (rg0 [4] 0 ⟨20, [(4, .int .i64 0)], []⟩ ?_)))
 refine then_n (awp_ret ?_)
 obtain rfl := Option.some.inj h19
 exact er0 (.int .i64 0)
theorem interval_Normalize_1_ok (a0 : TInterval) (a1 : TInterval) (r : Int) (h : M.interval_Normalize_1 a0 a1 = some r) : Fn Tryd.prog 42 [.agg (c_TInterval a0), .agg (c_TInterval a1)] (.pure (.int .i64 r)) := by
 unfold M.interval_Normalize_1 at h
 refine fn_pure Tryd.func42 rfl (by kernel_rfl) ?_
 refine awp_seq (rg0 [2, 3] 2 ⟨10, [(2, .ref 0 0), (3, .ref 1 0)], [.box (c_TInterval a0), .box (c_TInterval a1)]⟩ ?_)
 refine then_n (awp_seq ?_)
 obtain ⟨r1, q1, h2⟩ := bind_some h
 refine rg [.pure (.int .i64 r1)] [4] 0 ⟨10, [(4, .int .i64 r1)], []⟩ [] [⟨true, 43, [.int .u32 a0.fLo, .int .u32 a1.fLo], .pure (.int .i64 r1)⟩] nil_all ⟨fun _ => cmp_Compare_uint32_ok a0.fLo a1.fLo r1 q1, trivial⟩ ?_
 refine then_n (awp_ret ?_)
 obtain rfl := Option.some.inj h2
 exact er0 (.int .i64 r1)
end Nv
namespace Go.Proofs
open Go.Shelf
shelf_lay_g SlLaysF0.n6 Slsf 6 at Tryd 41 as Tryd.sortL41
end Go.Proofs
namespace Nv
open Go Go.Proofs
theorem slices_SortFunc_api_Interval_api_Interval__interval_Normalize_1_ok (a0 : List TInterval) (r : List TInterval) (h : M.slices_SortFunc_api_Interval_api_Interval__interval_Normalize_1 a0 = some r) : FnM Tryd.prog 41 [.asl 0 0 a0.length, .fn 42 []] 2 a0.length (fun i => c_TInterval (a0.getD i default)) (fun i => c_TInterval (r.getD i default)) (.tup []) := by
 obtain ⟨cf, h1, h2, h3, rfl⟩ := sortM_some h
 exact sortF0 Tryd.sortL41 2 (fun w => by kernel_rfl) (fun w => by kernel_rfl) c_TInterval (fun _ => rfl) (fun _ => rfl) h2 42 (enters_of Tryd.func42 (by kernel_rfl) rfl) (fun x y => interval_Normalize_1_ok x y _ (h1 x y)) a0 h3
theorem interval_Normalize_ok (a0 : List TInterval) (r : (List TInterval)) (h : M.interval_Normalize a0 = some r) : Fn Tryd.prog 18 [sL 2 c_TInterval a0] (.pure (sL 2 c_TInterval r)) := by
 unfold M.interval_Normalize at h
 refine fn_pure Tryd.func18 rfl (by kernel_rfl) ?_
 refine awp_seq (rg0 [0] 0 ⟨73, [(0, sL 2 c_TInterval a0)], []⟩ ?_)
 refine then_n (awp_seq ?_)
 obtain ⟨c1, h2⟩ := gd_some h
 refine rgc [0, 3] 1 ⟨73, [(0, sL 2 c_TInterval a0), (3, .asl 0 0 ((0 : Int).toNat))], [.arr 2 ((0 : Int).toNat) (fun _ => [.int .u32 0, .int .u32 0])]⟩ [decide (0 ≤ 0), decide (0 ≤ (a0.length : Int)), decide ((a0.length : Int).toNat * 8 ≤ 140737488355328), decide ((a0.length : Int).toNat ≤ 140737488355328)] c1 ?_
 refine then_le (s' := ⟨73, [(0, sL 2 c_TInterval a0), (3, .asl 0 0 ((List.replicate ((0 : Int).toNat) (⟨0, 0⟩ : TInterval)).length))], [aL 2 c_TInterval (List.replicate ((0 : Int).toNat) (⟨0, 0⟩ : TInterval))]⟩) (le_sub (.cons Sub.rfl (.cons (asl_len (by simp)) .nil)) (.cons (.arr (by simp) (rep_ext c_TInterval _ (⟨0, 0⟩ : TInterval) _ rfl)) .nil)) ?_
 refine awp_seq (awp_seq (rg0 [3, 13, 14, 15] 1 ⟨73, [(3, .asl 0 0 ((List.replicate ((0 : Int).toNat) (⟨0, 0⟩ : TInterval)).length)), (13, sL 2 c_TInterval a0), (14, .int .i64 (a0.length : Int)), (15, .int .i64 0)], [aL 2 c_TInterval (List.replicate ((0 : Int).toNat) (⟨0, 0⟩ : TInterval))]⟩ ?_))
 refine then_n (awp_block ?_)
 obtain ⟨y4, q16, h17⟩ := bind_some h2
 refine awp_le (s' := ⟨73, [(3, .asl 0 0 ((List.replicate ((0 : Int).toNat) (⟨0, 0⟩ : TInterval)).length)), (13, sL 2 c_TInterval a0), (14, .int .i64 (a0.length : Int)), (15, .int .i64 0)], [aL 2 c_TInterval (List.replicate ((0 : Int).toNat) (⟨0, 0⟩ : TInterval))]⟩) (le_rfl) ?_
 refine awp_mono (awp_loop (f := M.interval_Normalize_l1 a0) (S := fun (p1 : (List TInterval) × Int) => ⟨73, [(3, .asl 0 0 p1.1.length), (13, sL 2 c_TInterval a0), (14, .int .i64 (a0.length : Int)), (15, .int .i64 p1.2)], [aL 2 c_TInterval p1.1]⟩) (O := (fun z => OutE 0 (fun z => ⟨73, [(3, .asl 0 0 z.length)], [aL 2 c_TInterval z]⟩) z)) ?_ (x := (List.replicate ((0 : Int).toNat) (⟨0, 0⟩ : TInterval), 0)) (y := y4) (loopM_iter q16)) ?_
 intro p1 y2 h3
 unfold M.interval_Normalize_l1 at h3
 refine awp_seq (rg0 [3, 13, 14, 15, 16] 1 ⟨73, [(3, .asl 0 0 p1.1.length), (13, sL 2 c_TInterval a0), (14, .int .i64 (a0.length : Int)), (15, .int .i64 p1.2), (16, .bool (decide (p1.2 < (a0.length : Int))))], [aL 2 c_TInterval p1.1]⟩ ?_)
 refine then_n (awp_seq ?_)
 refine cnd (decide (p1.2 < (a0.length : Int))) (fun b4 => ?_) (fun b4 => ?_)
 have h5 := cond_t b4 h3
 refine awp_skip (then_n ?_)
 refine awp_join (fun (p3 : (List TInterval)) => ⟨73, [(3, .asl 0 0 p3.length), (13, sL 2 c_TInterval a0), (14, .int .i64 (a0.length : Int)), (15, .int .i64 p1.2)], [aL 2 c_TInterval p3]⟩) (fun p3 => M.interval_Normalize_k1 p1 p3 = some y2) ?_ ?_
 intro p3 h8
 unfold M.interval_Normalize_k1 at h8
 refine rg0 [3, 13, 14, 15] 1 ⟨73, [(3, .asl 0 0 p3.length), (13, sL 2 c_TInterval a0), (14, .int .i64 (a0.length : Int)), (15, .int .i64 (wr .i64 (p1.2 + 1)))], [aL 2 c_TInterval p3]⟩ ?_
 obtain rfl := Option.some.inj h8
 exact round_n (le_rfl)
 intro k7
 refine awp_block (awp_seq ?_)
 obtain ⟨c9, h10⟩ := gd_some h5
 refine rgc [3, 5, 13, 14, 15] 2 ⟨73, [(3, .asl 0 0 p1.1.length), (5, .ref 1 0), (13, sL 2 c_TInterval a0), (14, .int .i64 (a0.length : Int)), (15, .int .i64 p1.2)], [aL 2 c_TInterval p1.1, .box (c_TInterval (a0.getD p1.2.toNat default))]⟩ [decide (0 ≤ p1.2), decide (p1.2 < (a0.length : Int))] c9 ?_
 refine then_n (awp_seq (rg0 [3, 5, 13, 14, 15, 23] 2 ⟨73, [(3, .asl 0 0 p1.1.length), (5, .ref 1 0), (13, sL 2 c_TInterval a0), (14, .int .i64 (a0.length : Int)), (15, .int .i64 p1.2), (23, .bool (decide (((a0.getD p1.2.toNat default).fLo) ≤ ((a0.getD p1.2.toNat default).fHi))))], [aL 2 c_TInterval p1.1, .box (c_TInterval (a0.getD p1.2.toNat default))]⟩ ?_))
 refine then_n ?_
 refine cnd (decide (((a0.getD p1.2.toNat default).fLo) ≤ ((a0.getD p1.2.toNat default).fHi))) (fun b11 => ?_) (fun b11 => ?_)
 have h12 := cond_t b11 h10
 obtain ⟨c14, h15⟩ := gd_some h12
 refine rgc [3, 13, 14, 15] 1 ⟨73, [(3, .asl 0 0 (p1.1.length + 1)), (13, sL 2 c_TInterval a0), (14, .int .i64 (a0.length : Int)), (15, .int .i64 p1.2)], [.arr 2 (p1.1.length + 1) (app (fun i => c_TInterval (p1.1.getD i default)) p1.1.length (fun i => List.take 2 (List.drop (i * 2) [.int .u32 ((a0.getD p1.2.toNat default).fLo), .int .u32 ((a0.getD p1.2.toNat default).fHi)])))]⟩ [decide ((p1.1.length + 1) * 8 ≤ 140737488355328)] c14 ?_
 refine inb_n ?_
 exact then_le (le_sub (.cons (asl_len (len_snoc _ _)) (.cons Sub.rfl (.cons Sub.rfl (.cons Sub.rfl .nil)))) (.cons (.arr (len_snoc _ _) (app_snoc c_TInterval p1.1 (a0.getD p1.2.toNat default) _ rfl)) .nil)) (k7 (p1.1 ++ [a0.getD p1.2.toNat default]) h15)
 have h13 := cond_f b11 h10
 refine awp_skip (inb_n ?_)
 exact then_le (Le.trans (s' := ⟨73, [(3, .asl 0 0 p1.1.length), (13, sL 2 c_TInterval a0), (14, .int .i64 (a0.length : Int)), (15, .int .i64 p1.2)], [aL 2 c_TInterval p1.1, .box (c_TInterval (a0.getD p1.2.toNat default))]⟩) (kp [3, 13, 14, 15]) (le_cut (n := 1) (by kernel_rfl))) (k7 p1.1 h13)
 have h6 := cond_f b4 h3
 refine awp_exit (then_e ?_)
 obtain rfl := Option.some.inj h6
 exact round_e ⟨rfl, kp [3]⟩
 intro e18 s19 o20
 obtain ⟨rfl, l21⟩ := o20
 refine inb_here ?_
 refine then_le (s' := ⟨73, [(3, .asl 0 0 y4.length)], [aL 2 c_TInterval y4]⟩) (l21) ?_
 refine awp_seq ?_
 obtain ⟨r5, q22, h23⟩ := bind_some h17
 obtain ⟨c24, h25⟩ := gd_some h23
 refine rg [.lnd 0 0 (fun _ => []) (fun i => c_TInterval (r5.getD i default)) (.tup [])] [3] 1 ⟨73, [(3, .asl 0 0 y4.length)], [.arr 2 y4.length (fun i => c_TInterval (r5.getD i default))]⟩ [] [⟨true, 41, [.asl 0 0 y4.length, .fn 42 []], .lnd 2 y4.length (fun i => c_TInterval (y4.getD i default)) (fun i => c_TInterval (r5.getD i default)) (.tup [])⟩] nil_all ⟨fun _ => slices_SortFunc_api_Interval_api_Interval__interval_Normalize_1_ok y4 r5 q22, trivial⟩ ?_
 refine then_le (s' := ⟨73, [(3, .asl 0 0 r5.length)], [aL 2 c_TInterval r5]⟩) (le_sub (.cons (asl_len (len_eq (c24 _ List.mem_cons_self))) .nil) (.cons (.arr (len_eq (c24 _ List.mem_cons_self)) (fun _ _ => rfl)) .nil)) ?_
 refine awp_seq (rg0 [3, 6] 1 ⟨73, [(3, .asl 0 0 r5.length), (6, .sl true 2 0 (fun _ => []))], [aL 2 c_TInterval r5]⟩ ?_)
 refine then_n (awp_seq (awp_seq (rg0 [6, 31, 32, 33] 1 ⟨73, [(6, .sl true 2 0 (fun _ => [])), (31, .asl 0 0 r5.length), (32, .int .i64 (r5.length : Int)), (33, .int .i64 0)], [aL 2 c_TInterval r5]⟩ ?_)))
 refine then_n (awp_block ?_)
 refine awp_le (s' := ⟨73, [(6, .sl true 2 0 (fun _ => [])), (31, .asl 0 0 r5.length), (32, .int .i64 (r5.length : Int)), (33, .int .i64 0)], [aL 2 c_TInterval r5]⟩) (le_rfl) ?_
 refine awp_le (s' := ⟨73, [(6, .asl 1 0 (([] : List TInterval).length)), (31, .asl 0 0 r5.length), (32, .int .i64 (r5.length : Int)), (33, .int .i64 0)], [aL 2 c_TInterval r5, aL 2 c_TInterval ([] : List TInterval)]⟩) (Le.trans (s' := ⟨73, (6, .asl 1 0 0) :: [(6, .sl true 2 0 (fun _ => [])), (31, .asl 0 0 r5.length), (32, .int .i64 (r5.length : Int)), (33, .int .i64 0)], [aL 2 c_TInterval r5] ++ [.arr 2 0 (fun i => c_TInterval (([] : List TInterval).getD i default))]⟩) (le_thaw (wd := 2) (f := fun _ => []) 6 (by kernel_rfl) _ _) (kp [6, 31, 32, 33])) ?_
 obtain ⟨y9, q43, h44⟩ := bind_some h25
 refine awp_le (s' := ⟨73, [(6, .asl 1 0 (([] : List TInterval).length)), (31, .asl 0 0 r5.length), (32, .int .i64 (r5.length : Int)), (33, .int .i64 0)], [aL 2 c_TInterval r5, aL 2 c_TInterval ([] : List TInterval)]⟩) (le_rfl) ?_
 refine awp_mono (awp_loop (f := M.interval_Normalize_l2 r5) (S := fun (p6 : (List TInterval) × Int) => ⟨73, [(6, .asl 1 0 p6.1.length), (31, .asl 0 0 r5.length), (32, .int .i64 (r5.length : Int)), (33, .int .i64 p6.2)], [aL 2 c_TInterval r5, aL 2 c_TInterval p6.1]⟩) (O := (fun z => OutE 2 (fun z => ⟨73, [(6, .asl 1 0 z.length)], [aL 2 c_TInterval r5, aL 2 c_TInterval z]⟩) z)) ?_ (x := (([] : List TInterval), 0)) (y := y9) (loopM_iter q43)) ?_
 intro p6 y7 h26
 unfold M.interval_Normalize_l2 at h26
 refine awp_seq (rg0 [6, 31, 32, 33, 34] 2 ⟨73, [(6, .asl 1 0 p6.1.length), (31, .asl 0 0 r5.length), (32, .int .i64 (r5.length : Int)), (33, .int .i64 p6.2), (34, .bool (decide (p6.2 < (r5.length : Int))))], [aL 2 c_TInterval r5, aL 2 c_TInterval p6.1]⟩ ?_)
 refine then_n (awp_seq ?_)
 refine cnd (decide (p6.2 < (r5.length : Int))) (fun b27 => ?_) (fun b27 => ?_)
 have h28 := cond_t b27 h26
 refine awp_skip (then_n ?_)
 refine awp_join (fun (p8 : (List TInterval)) => ⟨73, [(6, .asl 1 0 p8.length), (31, .asl 0 0 r5.length), (32, .int .i64 (r5.length : Int)), (33, .int .i64 p6.2)], [aL 2 c_TInterval r5, aL 2 c_TInterval p8]⟩) (fun p8 => M.interval_Normalize_k2 p6 p8 = some y7) ?_ ?_
 intro p8 h31
 unfold M.interval_Normalize_k2 at h31
 refine rg0 [6, 31, 32, 33] 2 ⟨73, [(6, .asl 1 0 p8.length), (31, .asl 0 0 r5.length), (32, .int .i64 (r5.length : Int)), (33, .int .i64 (wr .i64 (p6.2 + 1)))], [aL 2 c_TInterval r5, aL 2 c_TInterval p8]⟩ ?_
 obtain rfl := Option.some.inj h31
 exact round_n (le_rfl)
 intro k30
 refine awp_block (awp_seq ?_)
 obtain ⟨c32, h33⟩ := gd_some h28
 refine rgc [6, 8, 31, 32, 33] 3 ⟨73, [(6, .asl 1 0 p6.1.length), (8, .ref 2 0), (31, .asl 0 0 r5.length), (32, .int .i64 (r5.length : Int)), (33, .int .i64 p6.2)], [aL 2 c_TInterval r5, aL 2 c_TInterval p6.1, .box (c_TInterval (r5.getD (0 + p6.2.toNat) default))]⟩ [decide (0 ≤ p6.2), decide (p6.2 < (r5.length : Int))] c32 ?_
 refine then_n (awp_seq (rg0 [6, 8, 9, 31, 32, 33] 3 ⟨73, [(6, .asl 1 0 p6.1.length), (8, .ref 2 0), (9, .int .i64 (wr .i64 ((p6.1.length : Int) - 1))), (31, .asl 0 0 r5.length), (32, .int .i64 (r5.length : Int)), (33, .int .i64 p6.2)], [aL 2 c_TInterval r5, aL 2 c_TInterval p6.1, .box (c_TInterval (r5.getD (0 + p6.2.toNat) default))]⟩ ?_))
 refine then_n (awp_seq ?_)
 obtain ⟨c34, h35⟩ := gd_some h33
 refine rgc [6, 8, 9, 31, 32, 33, 54] 3 ⟨73, [(6, .asl 1 0 p6.1.length), (8, .ref 2 0), (9, .int .i64 (wr .i64 ((p6.1.length : Int) - 1))), (31, .asl 0 0 r5.length), (32, .int .i64 (r5.length : Int)), (33, .int .i64 p6.2), (54, .bool ((decide ((wr .i64 ((p6.1.length : Int) - 1)) ≥ 0)) && (decide ((wr .u64 ((r5.getD (0 + p6.2.toNat) default).fLo)) ≤ (wr .u64 ((wr .u64 ((p6.1.getD (0 + (wr .i64 ((p6.1.length : Int) - 1)).toNat) default).fHi)) + 1))))))], [aL 2 c_TInterval r5, aL 2 c_TInterval p6.1, .box (c_TInterval (r5.getD (0 + p6.2.toNat) default))]⟩ [guardB (decide ((wr .i64 ((p6.1.length : Int) - 1)) ≥ 0)) (decide (0 ≤ (wr .i64 ((p6.1.length : Int) - 1)))), guardB (decide ((wr .i64 ((p6.1.length : Int) - 1)) ≥ 0)) (decide ((wr .i64 ((p6.1.length : Int) - 1)) < (p6.1.length : Int)))] c34 ?_
 refine then_n ?_
 refine cnd ((decide ((wr .i64 ((p6.1.length : Int) - 1)) ≥ 0)) && (decide ((wr .u64 ((r5.getD (0 + p6.2.toNat) default).fLo)) ≤ (wr .u64 ((wr .u64 ((p6.1.getD (0 + (wr .i64 ((p6.1.length : Int) - 1)).toNat) default).fHi)) + 1))))) (fun b36 => ?_) (fun b36 => ?_)
 have h37 := cond_t b36 h35
 obtain ⟨c39, h40⟩ := gd_some h37
 refine rgw [] [6, 31, 32, 33] 2 ⟨73, [(6, .asl 1 0 p6.1.length), (31, .asl 0 0 r5.length), (32, .int .i64 (r5.length : Int)), (33, .int .i64 p6.2)], [aL 2 c_TInterval r5, .arr 2 p6.1.length (fun j => bif Nat.beq j (0 + (wr .i64 ((p6.1.length : Int) - 1)).toNat) then splice (c_TInterval (p6.1.getD (0 + (wr .i64 ((p6.1.length : Int) - 1)).toNat) default)) [.int .u32 (if ((r5.getD (0 + p6.2.toNat) default).fHi) > ((p6.1.getD (0 + (wr .i64 ((p6.1.length : Int) - 1)).toNat) default).fHi) then ((r5.getD (0 + p6.2.toNat) default).fHi) else ((p6.1.getD (0 + (wr .i64 ((p6.1.length : Int) - 1)).toNat) default).fHi))] 1 else c_TInterval (p6.1.getD j default))]⟩ [decide (0 ≤ (wr .i64 ((p6.1.length : Int) - 1))), decide ((wr .i64 ((p6.1.length : Int) - 1)) < (p6.1.length : Int)), decide (0 ≤ (wr .i64 ((p6.1.length : Int) - 1))), decide ((wr .i64 ((p6.1.length : Int) - 1)) < (p6.1.length : Int))] [] c39 trivial ?_
 refine inb_n ?_
 exact then_le (le_sub (.cons (asl_len (by simp)) (.cons Sub.rfl (.cons Sub.rfl (.cons Sub.rfl .nil)))) (.cons .rfl (.cons (.arr (by simp) (set_ext c_TInterval p6.1 (0 + (wr .i64 ((p6.1.length : Int) - 1)).toNat) (⟨(p6.1.getD (0 + (wr .i64 ((p6.1.length : Int) - 1)).toNat) default).fLo, if ((r5.getD (0 + p6.2.toNat) default).fHi) > ((p6.1.getD (0 + (wr .i64 ((p6.1.length : Int) - 1)).toNat) default).fHi) then ((r5.getD (0 + p6.2.toNat) default).fHi) else ((p6.1.getD (0 + (wr .i64 ((p6.1.length : Int) - 1)).toNat) default).fHi)⟩ : TInterval) _ rfl)) .nil))) (k30 (p6.1.set (0 + (wr .i64 ((p6.1.length : Int) - 1)).toNat) (⟨(p6.1.getD (0 + (wr .i64 ((p6.1.length : Int) - 1)).toNat) default).fLo, if ((r5.getD (0 + p6.2.toNat) default).fHi) > ((p6.1.getD (0 + (wr .i64 ((p6.1.length : Int) - 1)).toNat) default).fHi) then ((r5.getD (0 + p6.2.toNat) default).fHi) else ((p6.1.getD (0 + (wr .i64 ((p6.1.length : Int) - 1)).toNat) default).fHi)⟩ : TInterval)) h40)
 have h38 := cond_f b36 h35
 obtain ⟨c41, h42⟩ := gd_some h38
 refine rgc [6, 31, 32, 33] 2 ⟨73, [(6, .asl 1 0 (p6.1.length + 1)), (31, .asl 0 0 r5.length), (32, .int .i64 (r5.length : Int)), (33, .int .i64 p6.2)], [aL 2 c_TInterval r5, .arr 2 (p6.1.length + 1) (app (fun i => c_TInterval (p6.1.getD i default)) p6.1.length (fun i => List.take 2 (List.drop (i * 2) [.int .u32 ((r5.getD (0 + p6.2.toNat) default).fLo), .int .u32 ((r5.getD (0 + p6.2.toNat) default).fHi)])))]⟩ [decide ((p6.1.length + 1) * 8 ≤ 140737488355328)] c41 ?_
 refine inb_n ?_
 exact then_le (le_sub (.cons (asl_len (len_snoc _ _)) (.cons Sub.rfl (.cons Sub.rfl (.cons Sub.rfl .nil)))) (.cons .rfl (.cons (.arr (len_snoc _ _) (app_snoc c_TInterval p6.1 (r5.getD (0 + p6.2.toNat) default) _ rfl)) .nil))) (k30 (p6.1 ++ [r5.getD (0 + p6.2.toNat) default]) h42)
 have h29 := cond_f b27 h26
 refine awp_exit (then_e ?_)
 obtain rfl := Option.some.inj h29
 exact round_e ⟨rfl, kp [6]⟩
 intro e45 s46 o47
 obtain ⟨rfl, l48⟩ := o47
 refine inb_here ?_
 refine then_le (s' := ⟨73, [(6, .asl 1 0 y9.length)], [aL 2 c_TInterval r5, aL 2 c_TInterval y9]⟩) (l48) ?_
 refine awp_seq (rg0 [2] 2 ⟨73, [(2, .asl 1 0 y9.length)], [aL 2 c_TInterval r5, aL 2 c_TInterval y9]⟩ ?_)
 refine then_n (awp_ret ?_)
 obtain rfl := Option.some.inj h44
 exact er (.sl false 2 y9.length (fun i => c_TInterval (y9.getD (0 + i) default))) sub_asl
end Nv
namespace Go.Proofs
open Go.Shelf
shelf_lay Lays7.n29 Nm7 29 at Tryd as Tryd.tzL
end Go.Proofs
namespace Nv
open Go Go.Proofs
theorem math_bits_TrailingZeros64_ok (a0 : Int) (r : Int) (h : M.math_bits_TrailingZeros64 a0 = some r) : Fn Tryd.prog 38 [.int .u64 a0] (.pure (.int .i64 r)) := by
 unfold M.math_bits_TrailingZeros64 at h
 obtain ⟨hc, h1⟩ := gd_some h
 obtain rfl := Option.some.inj h1
 exact tz_fn Tryd.tzL (by kernel_rfl) (of_decide_eq_true (hc _ List.mem_cons_self)) (of_decide_eq_true (hc _ (List.mem_cons_of_mem _ List.mem_cons_self)))
theorem interval_Prefixes_ok (a0 : List TInterval) (r : (List TPrefix)) (h : M.interval_Prefixes a0 = some r) : Fn Tryd.prog 12 [sL 2 c_TInterval a0] (.pure (sL 2 c_TPrefix r)) := by
 unfold M.interval_Prefixes at h
 refine fn_pure Tryd.func12 rfl (by kernel_rfl) ?_
 refine awp_seq (rg0 [0] 0 ⟨52, [(0, sL 2 c_TInterval a0)], []⟩ ?_)
 refine then_n (awp_seq (rg0 [0, 3] 0 ⟨52, [(0, sL 2 c_TInterval a0), (3, .sl true 2 0 (fun _ => []))], []⟩ ?_))
 refine then_n (awp_seq (awp_seq ?_))
 obtain ⟨r1, q1, h2⟩ := bind_some h
 refine rg [.pure (sL 2 c_TInterval r1)] [3, 10, 11, 12] 0 ⟨52, [(3, .sl true 2 0 (fun _ => [])), (10, sL 2 c_TInterval r1), (11, .int .i64 (r1.length : Int)), (12, .int .i64 0)], []⟩ [] [⟨true, 18, [sL 2 c_TInterval a0], .pure (sL 2 c_TInterval r1)⟩] nil_all ⟨fun _ => interval_Normalize_ok a0 r1 q1, trivial⟩ ?_
 refine then_n (awp_block ?_)
 refine awp_le (s' := ⟨52, [(3, .sl true 2 0 (fun _ => [])), (10, sL 2 c_TInterval r1), (11, .int .i64 (r1.length : Int)), (12, .int .i64 0)], []⟩) (le_rfl) ?_
 refine awp_le (s' := ⟨52, [(3, .asl 0 0 (([] : List TPrefix).length)), (10, sL 2 c_TInterval r1), (11, .int .i64 (r1.length : Int)), (12, .int .i64 0)], [aL 2 c_TPrefix ([] : List TPrefix)]⟩) (Le.trans (s' := ⟨52, (3, .asl 0 0 0) :: [(3, .sl true 2 0 (fun _ => [])), (10, sL 2 c_TInterval r1), (11, .int .i64 (r1.length : Int)), (12, .int .i64 0)], [] ++ [.arr 2 0 (fun i => c_TPrefix (([] : List TPrefix).getD i default))]⟩) (le_thaw (wd := 2) (f := fun _ => []) 3 (by kernel_rfl) _ _) (kp [3, 10, 11, 12])) ?_
 obtain ⟨y12, q42, h43⟩ := bind_some h2
 refine awp_le (s' := ⟨52, [(3, .asl 0 0 (([] : List TPrefix).length)), (10, sL 2 c_TInterval r1), (11, .int .i64 (r1.length : Int)), (12, .int .i64 0)], [aL 2 c_TPrefix ([] : List TPrefix)]⟩) (le_rfl) ?_
 refine awp_mono (awp_loop (f := M.interval_Prefixes_l1 r1) (S := fun (p2 : (List TPrefix) × Int) => ⟨52, [(3, .asl 0 0 p2.1.length), (10, sL 2 c_TInterval r1), (11, .int .i64 (r1.length : Int)), (12, .int .i64 p2.2)], [aL 2 c_TPrefix p2.1]⟩) (O := (fun z => OutE 0 (fun z => ⟨52, [(3, .asl 0 0 z.length)], [aL 2 c_TPrefix z]⟩) z)) ?_ (x := (([] : List TPrefix), 0)) (y := y12) (loopM_iter q42)) ?_
 intro p2 y3 h3
 unfold M.interval_Prefixes_l1 at h3
 refine awp_seq (rg0 [3, 10, 11, 12, 13] 1 ⟨52, [(3, .asl 0 0 p2.1.length), (10, sL 2 c_TInterval r1), (11, .int .i64 (r1.length : Int)), (12, .int .i64 p2.2), (13, .bool (decide (p2.2 < (r1.length : Int))))], [aL 2 c_TPrefix p2.1]⟩ ?_)
 refine then_n (awp_seq ?_)
 refine cnd (decide (p2.2 < (r1.length : Int))) (fun b4 => ?_) (fun b4 => ?_)
 have h5 := cond_t b4 h3
 refine awp_skip (then_n (awp_seq (awp_block (awp_seq ?_))))
 obtain ⟨c7, h8⟩ := gd_some h5
 refine rgc [3, 5, 10, 11, 12] 2 ⟨52, [(3, .asl 0 0 p2.1.length), (5, .ref 1 0), (10, sL 2 c_TInterval r1), (11, .int .i64 (r1.length : Int)), (12, .int .i64 p2.2)], [aL 2 c_TPrefix p2.1, .box (c_TInterval (r1.getD p2.2.toNat default))]⟩ [decide (0 ≤ p2.2), decide (p2.2 < (r1.length : Int))] c7 ?_
 refine then_n (awp_seq (rg0 [3, 5, 6, 10, 11, 12] 2 ⟨52, [(3, .asl 0 0 p2.1.length), (5, .ref 1 0), (6, .int .u64 (wr .u64 ((wr .u64 ((r1.getD p2.2.toNat default).fHi)) + 1))), (10, sL 2 c_TInterval r1), (11, .int .i64 (r1.length : Int)), (12, .int .i64 p2.2)], [aL 2 c_TPrefix p2.1, .box (c_TInterval (r1.getD p2.2.toNat default))]⟩ ?_))
 refine then_n (awp_seq (rg0 [3, 6, 7, 10, 11, 12] 1 ⟨52, [(3, .asl 0 0 p2.1.length), (6, .int .u64 (wr .u64 ((wr .u64 ((r1.getD p2.2.toNat default).fHi)) + 1))), (7, .int .u64 (wr .u64 ((r1.getD p2.2.toNat default).fLo))), (10, sL 2 c_TInterval r1), (11, .int .i64 (r1.length : Int)), (12, .int .i64 p2.2)], [aL 2 c_TPrefix p2.1]⟩ ?_))
 refine then_n (awp_block ?_)
 obtain ⟨y11, q36, h37⟩ := bind_some h8
 refine awp_le (s' := ⟨52, [(3, .asl 0 0 p2.1.length), (6, .int .u64 (wr .u64 ((wr .u64 ((r1.getD p2.2.toNat default).fHi)) + 1))), (7, .int .u64 (wr .u64 ((r1.getD p2.2.toNat default).fLo))), (10, sL 2 c_TInterval r1), (11, .int .i64 (r1.length : Int)), (12, .int .i64 p2.2)], [aL 2 c_TPrefix p2.1]⟩) (le_rfl) ?_
 refine awp_mono (awp_loop (f := M.interval_Prefixes_l2 r1 p2) (S := fun (p4 : (List TPrefix) × Int) => ⟨52, [(3, .asl 0 0 p4.1.length), (6, .int .u64 (wr .u64 ((wr .u64 ((r1.getD p2.2.toNat default).fHi)) + 1))), (7, .int .u64 p4.2), (10, sL 2 c_TInterval r1), (11, .int .i64 (r1.length : Int)), (12, .int .i64 p2.2)], [aL 2 c_TPrefix p4.1]⟩) (O := (fun z => OutE 2 (fun z => ⟨52, [(3, .asl 0 0 z.length), (10, sL 2 c_TInterval r1), (11, .int .i64 (r1.length : Int)), (12, .int .i64 p2.2)], [aL 2 c_TPrefix z]⟩) z)) ?_ (x := (p2.1, wr .u64 ((r1.getD p2.2.toNat default).fLo))) (y := y11) (loopM_iter q36)) ?_
 intro p4 y5 h9
 unfold M.interval_Prefixes_l2 at h9
 refine awp_seq (awp_seq (rg0 [3, 6, 7, 10, 11, 12, 25] 1 ⟨52, [(3, .asl 0 0 p4.1.length), (6, .int .u64 (wr .u64 ((wr .u64 ((r1.getD p2.2.toNat default).fHi)) + 1))), (7, .int .u64 p4.2), (10, sL 2 c_TInterval r1), (11, .int .i64 (r1.length : Int)), (12, .int .i64 p2.2), (25, .bool (decide (p4.2 < (wr .u64 ((wr .u64 ((r1.getD p2.2.toNat default).fHi)) + 1)))))], [aL 2 c_TPrefix p4.1]⟩ ?_))
 refine then_n ?_
 refine cnd (decide (p4.2 < (wr .u64 ((wr .u64 ((r1.getD p2.2.toNat default).fHi)) + 1)))) (fun b10 => ?_) (fun b10 => ?_)
 have h11 := cond_t b10 h9
 refine awp_skip (then_n (awp_block (awp_seq (rg0 [3, 6, 7, 8, 10, 11, 12] 1 ⟨52, [(3, .asl 0 0 p4.1.length), (6, .int .u64 (wr .u64 ((wr .u64 ((r1.getD p2.2.toNat default).fHi)) + 1))), (7, .int .u64 p4.2), (8, .int .i64 32), (10, sL 2 c_TInterval r1), (11, .int .i64 (r1.length : Int)), (12, .int .i64 p2.2)], [aL 2 c_TPrefix p4.1]⟩ ?_))))
 refine then_n ?_
 refine awp_join (fun (p6 : Int) => ⟨52, [(3, .asl 0 0 p4.1.length), (6, .int .u64 (wr .u64 ((wr .u64 ((r1.getD p2.2.toNat default).fHi)) + 1))), (7, .int .u64 p4.2), (8, .int .i64 p6), (10, sL 2 c_TInterval r1), (11, .int .i64 (r1.length : Int)), (12, .int .i64 p2.2)], [aL 2 c_TPrefix p4.1]⟩) (fun p6 => M.interval_Prefixes_k1 r1 p2 p4 p6 = some y5) ?_ ?_
 intro p6 h14
 unfold M.interval_Prefixes_k1 at h14
 refine awp_seq (awp_block ?_)
 obtain ⟨y9, q21, h22⟩ := bind_some h14
 refine awp_le (s' := ⟨52, [(3, .asl 0 0 p4.1.length), (6, .int .u64 (wr .u64 ((wr .u64 ((r1.getD p2.2.toNat default).fHi)) + 1))), (7, .int .u64 p4.2), (8, .int .i64 p6), (10, sL 2 c_TInterval r1), (11, .int .i64 (r1.length : Int)), (12, .int .i64 p2.2)], [aL 2 c_TPrefix p4.1]⟩) (le_rfl) ?_
 refine awp_mono (awp_loop (f := M.interval_Prefixes_l3 r1 p2 p4) (S := fun (p7 : Int) => ⟨52, [(3, .asl 0 0 p4.1.length), (6, .int .u64 (wr .u64 ((wr .u64 ((r1.getD p2.2.toNat default).fHi)) + 1))), (7, .int .u64 p4.2), (8, .int .i64 p7), (10, sL 2 c_TInterval r1), (11, .int .i64 (r1.length : Int)), (12, .int .i64 p2.2)], [aL 2 c_TPrefix p4.1]⟩) (O := (fun z => OutE 4 (fun z => ⟨52, [(3, .asl 0 0 p4.1.length), (6, .int .u64 (wr .u64 ((wr .u64 ((r1.getD p2.2.toNat default).fHi)) + 1))), (7, .int .u64 p4.2), (8, .int .i64 z), (10, sL 2 c_TInterval r1), (11, .int .i64 (r1.length : Int)), (12, .int .i64 p2.2)], [aL 2 c_TPrefix p4.1]⟩) z)) ?_ (x := p6) (y := y9) (loopM_iter q21)) ?_
 intro p7 y8 h15
 unfold M.interval_Prefixes_l3 at h15
 refine awp_seq (awp_seq ?_)
 obtain ⟨c16, h17⟩ := gd_some h15
 refine rgc [3, 6, 7, 8, 10, 11, 12, 35] 1 ⟨52, [(3, .asl 0 0 p4.1.length), (6, .int .u64 (wr .u64 ((wr .u64 ((r1.getD p2.2.toNat default).fHi)) + 1))), (7, .int .u64 p4.2), (8, .int .i64 p7), (10, sL 2 c_TInterval r1), (11, .int .i64 (r1.length : Int)), (12, .int .i64 p2.2), (35, .bool (decide ((wr .u64 (p4.2 + (wr .u64 (1 * 2 ^ min p7.toNat 64)))) > (wr .u64 ((wr .u64 ((r1.getD p2.2.toNat default).fHi)) + 1)))))], [aL 2 c_TPrefix p4.1]⟩ [decide (0 ≤ p7)] c16 ?_
 refine then_n ?_
 refine cnd (decide ((wr .u64 (p4.2 + (wr .u64 (1 * 2 ^ min p7.toNat 64)))) > (wr .u64 ((wr .u64 ((r1.getD p2.2.toNat default).fHi)) + 1)))) (fun b18 => ?_) (fun b18 => ?_)
 have h19 := cond_t b18 h17
 refine awp_skip (then_n (awp_block (rg0 [3, 6, 7, 8, 10, 11, 12] 1 ⟨52, [(3, .asl 0 0 p4.1.length), (6, .int .u64 (wr .u64 ((wr .u64 ((r1.getD p2.2.toNat default).fHi)) + 1))), (7, .int .u64 p4.2), (8, .int .i64 (wr .i64 (p7 - 1))), (10, sL 2 c_TInterval r1), (11, .int .i64 (r1.length : Int)), (12, .int .i64 p2.2)], [aL 2 c_TPrefix p4.1]⟩ ?_)))
 refine inb_n ?_
 obtain rfl := Option.some.inj h19
 exact round_n (le_rfl)
 have h20 := cond_f b18 h17
 refine awp_exit (then_e ?_)
 obtain rfl := Option.some.inj h20
 exact round_e ⟨rfl, kp [3, 6, 7, 8, 10, 11, 12]⟩
 intro e23 s24 o25
 obtain ⟨rfl, l26⟩ := o25
 refine inb_here ?_
 refine then_le (s' := ⟨52, [(3, .asl 0 0 p4.1.length), (6, .int .u64 (wr .u64 ((wr .u64 ((r1.getD p2.2.toNat default).fHi)) + 1))), (7, .int .u64 p4.2), (8, .int .i64 y9), (10, sL 2 c_TInterval r1), (11, .int .i64 (r1.length : Int)), (12, .int .i64 p2.2)], [aL 2 c_TPrefix p4.1]⟩) (l26) ?_
 refine awp_seq ?_
 obtain ⟨c27, h28⟩ := gd_some h22
 refine rgc [3, 6, 7, 8, 10, 11, 12] 1 ⟨52, [(3, .asl 0 0 (p4.1.length + 1)), (6, .int .u64 (wr .u64 ((wr .u64 ((r1.getD p2.2.toNat default).fHi)) + 1))), (7, .int .u64 p4.2), (8, .int .i64 y9), (10, sL 2 c_TInterval r1), (11, .int .i64 (r1.length : Int)), (12, .int .i64 p2.2)], [.arr 2 (p4.1.length + 1) (app (fun i => c_TPrefix (p4.1.getD i default)) p4.1.length (fun i => List.take 2 (List.drop (i * 2) [.int .u32 (wr .u32 p4.2), .int .i64 (wr .i64 (32 - y9))])))]⟩ [decide ((p4.1.length + 1) * 16 ≤ 140737488355328)] c27 ?_
 refine then_le (s' := ⟨52, [(3, .asl 0 0 ((p4.1 ++ [(⟨wr .u32 p4.2, wr .i64 (32 - y9)⟩ : TPrefix)]).length)), (6, .int .u64 (wr .u64 ((wr .u64 ((r1.getD p2.2.toNat default).fHi)) + 1))), (7, .int .u64 p4.2), (8, .int .i64 y9), (10, sL 2 c_TInterval r1), (11, .int .i64 (r1.length : Int)), (12, .int .i64 p2.2)], [aL 2 c_TPrefix (p4.1 ++ [(⟨wr .u32 p4.2, wr .i64 (32 - y9)⟩ : TPrefix)])]⟩) (le_sub (.cons (asl_len (len_snoc _ _)) (.cons Sub.rfl (.cons Sub.rfl (.cons Sub.rfl (.cons Sub.rfl (.cons Sub.rfl (.cons Sub.rfl .nil))))))) (.cons (.arr (len_snoc _ _) (app_snoc c_TPrefix p4.1 (⟨wr .u32 p4.2, wr .i64 (32 - y9)⟩ : TPrefix) _ rfl)) .nil)) ?_
 obtain ⟨c29, h30⟩ := gd_some h28
 refine rgc [3, 6, 7, 10, 11, 12] 1 ⟨52, [(3, .asl 0 0 ((p4.1 ++ [(⟨wr .u32 p4.2, wr .i64 (32 - y9)⟩ : TPrefix)]).length)), (6, .int .u64 (wr .u64 ((wr .u64 ((r1.getD p2.2.toNat default).fHi)) + 1))), (7, .int .u64 (wr .u64 (p4.2 + (wr .u64 (1 * 2 ^ min y9.toNat 64))))), (10, sL 2 c_TInterval r1), (11, .int .i64 (r1.length : Int)), (12, .int .i64 p2.2)], [aL 2 c_TPrefix (p4.1 ++ [(⟨wr .u32 p4.2, wr .i64 (32 - y9)⟩ : TPrefix)])]⟩ [decide (0 ≤ y9)] c29 ?_
 refine inb_n ?_
 obtain rfl := Option.some.inj h30
 exact round_n (le_rfl)
 intro k13
 refine awp_seq (rg0 [3, 6, 7, 8, 10, 11, 12, 27] 1 ⟨52, [(3, .asl 0 0 p4.1.length), (6, .int .u64 (wr .u64 ((wr .u64 ((r1.getD p2.2.toNat default).fHi)) + 1))), (7, .int .u64 p4.2), (8, .int .i64 32), (10, sL 2 c_TInterval r1), (11, .int .i64 (r1.length : Int)), (12, .int .i64 p2.2), (27, .bool (decide (p4.2 > 0)))], [aL 2 c_TPrefix p4.1]⟩ ?_)
 refine then_n ?_
 refine cnd (decide (p4.2 > 0)) (fun b31 => ?_) (fun b31 => ?_)
 have h32 := cond_t b31 h11
 obtain ⟨r10, q34, h35⟩ := bind_some h32
 refine rg [.pure (.int .i64 r10)] [3, 6, 7, 8, 10, 11, 12] 1 ⟨52, [(3, .asl 0 0 p4.1.length), (6, .int .u64 (wr .u64 ((wr .u64 ((r1.getD p2.2.toNat default).fHi)) + 1))), (7, .int .u64 p4.2), (8, .int .i64 r10), (10, sL 2 c_TInterval r1), (11, .int .i64 (r1.length : Int)), (12, .int .i64 p2.2)], [aL 2 c_TPrefix p4.1]⟩ [] [⟨true, 38, [.int .u64 p4.2], .pure (.int .i64 r10)⟩] nil_all ⟨fun _ => math_bits_TrailingZeros64_ok p4.2 r10 q34, trivial⟩ ?_
 exact then_le (le_rfl) (k13 r10 h35)
 have h33 := cond_f b31 h11
 refine awp_skip ?_
 exact then_le (kp [3, 6, 7, 8, 10, 11, 12]) (k13 32 h33)
 have h12 := cond_f b10 h9
 refine awp_exit (then_e ?_)
 obtain rfl := Option.some.inj h12
 exact round_e ⟨rfl, kp [3, 10, 11, 12]⟩
 intro e38 s39 o40
 obtain ⟨rfl, l41⟩ := o40
 refine inb_here (inb_n ?_)
 refine then_le (s' := ⟨52, [(3, .asl 0 0 y11.length), (10, sL 2 c_TInterval r1), (11, .int .i64 (r1.length : Int)), (12, .int .i64 p2.2)], [aL 2 c_TPrefix y11]⟩) (l41) ?_
 refine rg0 [3, 10, 11, 12] 1 ⟨52, [(3, .asl 0 0 y11.length), (10, sL 2 c_TInterval r1), (11, .int .i64 (r1.length : Int)), (12, .int .i64 (wr .i64 (p2.2 + 1)))], [aL 2 c_TPrefix y11]⟩ ?_
 obtain rfl := Option.some.inj h37
 exact round_n (le_rfl)
 have h6 := cond_f b4 h3
 refine awp_exit (then_e ?_)
 obtain rfl := Option.some.inj h6
 exact round_e ⟨rfl, kp [3]⟩
 intro e44 s45 o46
 obtain ⟨rfl, l47⟩ := o46
 refine inb_here ?_
 refine then_le (s' := ⟨52, [(3, .asl 0 0 y12.length)], [aL 2 c_TPrefix y12]⟩) (l47) ?_
 refine awp_seq (rg0 [2] 1 ⟨52, [(2, .asl 0 0 y12.length)], [aL 2 c_TPrefix y12]⟩ ?_)
 refine then_n (awp_ret ?_)
 obtain rfl := Option.some.inj h43
 exact er (.sl false 2 y12.length (fun i => c_TPrefix (y12.getD (0 + i) default))) sub_asl
theorem ref4_Mask_ok (a0 : Int) (r : Int) (h : M.ref4_Mask a0 = some r) : Fn Tryd.prog 39 [.int .i64 a0] (.pure (.int .u32 r)) := by
 unfold M.ref4_Mask at h
 refine fn_pure Tryd.func39 rfl (by kernel_rfl) ?_
 refine awp_seq (rg0 [0] 0 ⟨19, [(0, .int .i64 a0)], []⟩ ?_)
 refine then_n (awp_seq (rg0 [0, 3] 0 ⟨19, [(0, .int .i64 a0), (3, .int .u32 0)], []⟩ ?_))
 refine then_n (awp_seq (awp_seq (rg0 [0, 3, 4] 0 ⟨19, [(0, .int .i64 a0), (3, .int .u32 0), (4, .int .i64 0)], []⟩ ?_)))
 refine then_n (awp_block ?_)
 obtain ⟨y4, q12, h13⟩ := bind_some h
 refine awp_le (s' := ⟨19, [(0, .int .i64 a0), (3, .int .u32 0), (4, .int .i64 0)], []⟩) (le_rfl) ?_
 refine awp_mono (awp_loop (f := M.ref4_Mask_l1 a0) (S := fun (p1 : Int × Int) => ⟨19, [(0, .int .i64 a0), (3, .int .u32 p1.1), (4, .int .i64 p1.2)], []⟩) (O := (fun z => OutE 0 (fun z => ⟨19, [(3, .int .u32 z)], []⟩) z)) ?_ (x := (0, 0)) (y := y4) (loopM_iter q12)) ?_
 intro p1 y2 h1
 unfold M.ref4_Mask_l1 at h1
 refine awp_seq (awp_seq (rg0 [0, 3, 4, 6] 0 ⟨19, [(0, .int .i64 a0), (3, .int .u32 p1.1), (4, .int .i64 p1.2), (6, .bool (decide (p1.2 < 32)))], []⟩ ?_))
 refine then_n ?_
 refine cnd (decide (p1.2 < 32)) (fun b2 => ?_) (fun b2 => ?_)
 have h3 := cond_t b2 h1
 refine awp_skip (then_n ?_)
 refine awp_join (fun (p3 : Int) => ⟨19, [(0, .int .i64 a0), (3, .int .u32 p3), (4, .int .i64 p1.2)], []⟩) (fun p3 => M.ref4_Mask_k1 p1 p3 = some y2) ?_ ?_
 intro p3 h6
 unfold M.ref4_Mask_k1 at h6
 refine rg0 [0, 3, 4] 0 ⟨19, [(0, .int .i64 a0), (3, .int .u32 p3), (4, .int .i64 (wr .i64 (p1.2 + 1)))], []⟩ ?_
 obtain rfl := Option.some.inj h6
 exact round_n (le_rfl)
 intro k5
 refine awp_block (awp_seq (rg0 [0, 3, 4, 11] 0 ⟨19, [(0, .int .i64 a0), (3, .int .u32 p1.1), (4, .int .i64 p1.2), (11, .bool (decide (p1.2 < a0)))], []⟩ ?_))
 refine then_n ?_
 refine cnd (decide (p1.2 < a0)) (fun b7 => ?_) (fun b7 => ?_)
 have h8 := cond_t b7 h3
 obtain ⟨c10, h11⟩ := gd_some h8
 refine rgc [0, 3, 4] 0 ⟨19, [(0, .int .i64 a0), (3, .int .u32 (bitD .or .u32 p1.1 (wr .u32 (1 * 2 ^ min (wr .u64 (wr .i64 (31 - p1.2))).toNat 32)))), (4, .int .i64 p1.2)], []⟩ [decide (0 ≤ (wr .u64 (wr .i64 (31 - p1.2))))] c10 ?_
 refine inb_n ?_
 exact then_le (le_rfl) (k5 (bitD .or .u32 p1.1 (wr .u32 (1 * 2 ^ min (wr .u64 (wr .i64 (31 - p1.2))).toNat 32))) h11)
 have h9 := cond_f b7 h3
 refine awp_skip (inb_n ?_)
 exact then_le (kp [0, 3, 4]) (k5 p1.1 h9)
 have h4 := cond_f b2 h1
 refine awp_exit (then_e ?_)
 obtain rfl := Option.some.inj h4
 exact round_e ⟨rfl, kp [3]⟩
 intro e14 s15 o16
 obtain ⟨rfl, l17⟩ := o16
 refine inb_here ?_
 refine then_le (s' := ⟨19, [(3, .int .u32 y4)], []⟩) (l17) ?_
 refine awp_seq (rg0 [2] 0 ⟨19, [(2, .int .u32 y4)], []⟩ ?_)
 refine then_n (awp_ret ?_)
 obtain rfl := Option.some.inj h13
 exact er0 (.int .u32 y4)
theorem ref4_Contains_ok (a0 : TPrefix) (a1 : Int) (r : Bool) (h : M.ref4_Contains a0 a1 = some r) : Fn Tryd.prog 13 [.agg (c_TPrefix a0), .int .u32 a1] (.pure (.bool r)) := by
 unfold M.ref4_Contains at h
 refine fn_pure Tryd.func13 rfl (by kernel_rfl) ?_
 refine awp_seq (rg0 [1, 2] 1 ⟨13, [(1, .int .u32 a1), (2, .ref 0 0)], [.box (c_TPrefix a0)]⟩ ?_)
 refine then_n (awp_seq ?_)
 obtain ⟨r1, q1, h2⟩ := bind_some h
 refine rg [.pure (.int .u32 r1)] [4] 0 ⟨13, [(4, .bool ((bitD .and .u32 a1 r1) == a0.fAddr))], []⟩ [] [⟨true, 39, [.int .i64 a0.fLen], .pure (.int .u32 r1)⟩] nil_all ⟨fun _ => ref4_Mask_ok a0.fLen r1 q1, trivial⟩ ?_
 refine then_n (awp_ret ?_)
 obtain rfl := Option.some.inj h2
 exact er0 (.bool ((bitD .and .u32 a1 r1) == a0.fAddr))
theorem ref4_Normalize_ok (a0 : List TInterval) (r : (List TInterval)) (h : M.ref4_Normalize a0 = some r) : Fn Tryd.prog 20 [sL 2 c_TInterval a0] (.pure (sL 2 c_TInterval r)) := by
 unfold M.ref4_Normalize at h
 refine fn_pure Tryd.func20 rfl (by kernel_rfl) ?_
 refine awp_seq (rg0 [0] 0 ⟨106, [(0, sL 2 c_TInterval a0)], []⟩ ?_)
 refine then_n (awp_seq (rg0 [0, 3] 0 ⟨106, [(0, sL 2 c_TInterval a0), (3, .sl true 2 0 (fun _ => []))], []⟩ ?_))
 refine then_n (awp_seq (rg0 [0, 3, 4] 0 ⟨106, [(0, sL 2 c_TInterval a0), (3, .sl true 2 0 (fun _ => [])), (4, .int .u64 0)], []⟩ ?_))
 refine then_n (awp_block ?_)
 refine awp_le (s' := ⟨106, [(0, sL 2 c_TInterval a0), (3, .sl true 2 0 (fun _ => [])), (4, .int .u64 0)], []⟩) (le_rfl) ?_
 refine awp_le (s' := ⟨106, [(0, sL 2 c_TInterval a0), (3, .asl 0 0 (([] : List TInterval).length)), (4, .int .u64 0)], [aL 2 c_TInterval ([] : List TInterval)]⟩) (Le.trans (s' := ⟨106, (3, .asl 0 0 0) :: [(0, sL 2 c_TInterval a0), (3, .sl true 2 0 (fun _ => [])), (4, .int .u64 0)], [] ++ [.arr 2 0 (fun i => c_TInterval (([] : List TInterval).getD i default))]⟩) (le_thaw (wd := 2) (f := fun _ => []) 3 (by kernel_rfl) _ _) (kp [0, 3, 4])) ?_
 obtain ⟨y14, q55, h56⟩ := bind_some h
 refine awp_le (s' := ⟨106, [(0, sL 2 c_TInterval a0), (3, .asl 0 0 (([] : List TInterval).length)), (4, .int .u64 0)], [aL 2 c_TInterval ([] : List TInterval)]⟩) (le_rfl) ?_
 refine awp_mono (awp_loop (f := M.ref4_Normalize_l1 a0) (S := fun (p1 : (List TInterval) × Int) => ⟨106, [(0, sL 2 c_TInterval a0), (3, .asl 0 0 p1.1.length), (4, .int .u64 p1.2)], [aL 2 c_TInterval p1.1]⟩) (O := (fun z => OutR Tryd.prog Tryd.f20 (sL 2 c_TInterval z))) ?_ (x := (([] : List TInterval), 0)) (y := y14) (loopM_iter q55)) ?_
 intro p1 y2 h1
 unfold M.ref4_Normalize_l1 at h1
 refine awp_block (awp_seq (rg0 [0, 3, 4, 5] 1 ⟨106, [(0, sL 2 c_TInterval a0), (3, .asl 0 0 p1.1.length), (4, .int .u64 p1.2), (5, .int .u64 4294967296)], [aL 2 c_TInterval p1.1]⟩ ?_))
 refine then_n (awp_seq (awp_seq (rg0 [0, 3, 4, 5, 6] 1 ⟨106, [(0, sL 2 c_TInterval a0), (3, .asl 0 0 p1.1.length), (4, .int .u64 p1.2), (5, .int .u64 4294967296), (6, .int .i64 0)], [aL 2 c_TInterval p1.1]⟩ ?_)))
 refine then_n (awp_block ?_)
 obtain ⟨y6, q15, h16⟩ := bind_some h1
 refine awp_le (s' := ⟨106, [(0, sL 2 c_TInterval a0), (3, .asl 0 0 p1.1.length), (4, .int .u64 p1.2), (5, .int .u64 4294967296), (6, .int .i64 0)], [aL 2 c_TInterval p1.1]⟩) (le_rfl) ?_
 refine awp_mono (awp_loop (f := M.ref4_Normalize_l2 a0 p1) (S := fun (p3 : Int × Int) => ⟨106, [(0, sL 2 c_TInterval a0), (3, .asl 0 0 p1.1.length), (4, .int .u64 p1.2), (5, .int .u64 p3.1), (6, .int .i64 p3.2)], [aL 2 c_TInterval p1.1]⟩) (O := (fun z => OutE 2 (fun z => ⟨106, [(0, sL 2 c_TInterval a0), (3, .asl 0 0 p1.1.length), (5, .int .u64 z)], [aL 2 c_TInterval p1.1]⟩) z)) ?_ (x := (4294967296, 0)) (y := y6) (loopM_iter q15)) ?_
 intro p3 y4 h2
 unfold M.ref4_Normalize_l2 at h2
 refine awp_seq (awp_seq (rg0 [0, 3, 4, 5, 6, 13] 1 ⟨106, [(0, sL 2 c_TInterval a0), (3, .asl 0 0 p1.1.length), (4, .int .u64 p1.2), (5, .int .u64 p3.1), (6, .int .i64 p3.2), (13, .bool (decide (p3.2 < (a0.length : Int))))], [aL 2 c_TInterval p1.1]⟩ ?_))
 refine then_n ?_
 refine cnd (decide (p3.2 < (a0.length : Int))) (fun b3 => ?_) (fun b3 => ?_)
 have h4 := cond_t b3 h2
 refine awp_skip (then_n ?_)
 refine awp_join (fun (p5 : Int) => ⟨106, [(0, sL 2 c_TInterval a0), (3, .asl 0 0 p1.1.length), (4, .int .u64 p1.2), (5, .int .u64 p5), (6, .int .i64 p3.2)], [aL 2 c_TInterval p1.1]⟩) (fun p5 => M.ref4_Normalize_k1 p3 p5 = some y4) ?_ ?_
 intro p5 h7
 unfold M.ref4_Normalize_k1 at h7
 refine rg0 [0, 3, 4, 5, 6] 1 ⟨106, [(0, sL 2 c_TInterval a0), (3, .asl 0 0 p1.1.length), (4, .int .u64 p1.2), (5, .int .u64 p5), (6, .int .i64 (wr .i64 (p3.2 + 1)))], [aL 2 c_TInterval p1.1]⟩ ?_
 obtain rfl := Option.some.inj h7
 exact round_n (le_rfl)
 intro k6
 refine awp_block (awp_seq ?_)
 obtain ⟨c8, h9⟩ := gd_some h4
 refine rgc [0, 3, 4, 5, 6, 36] 1 ⟨106, [(0, sL 2 c_TInterval a0), (3, .asl 0 0 p1.1.length), (4, .int .u64 p1.2), (5, .int .u64 p3.1), (6, .int .i64 p3.2), (36, .bool ((decide (((a0.getD p3.2.toNat default).fLo) ≤ ((a0.getD p3.2.toNat default).fHi))) && (decide ((wr .u64 ((a0.getD p3.2.toNat default).fHi)) ≥ p1.2))))], [aL 2 c_TInterval p1.1]⟩ [decide (0 ≤ p3.2), decide (p3.2 < (a0.length : Int)), decide (0 ≤ p3.2), decide (p3.2 < (a0.length : Int)), guardB (decide (((a0.getD p3.2.toNat default).fLo) ≤ ((a0.getD p3.2.toNat default).fHi))) (decide (0 ≤ p3.2)), guardB (decide (((a0.getD p3.2.toNat default).fLo) ≤ ((a0.getD p3.2.toNat default).fHi))) (decide (p3.2 < (a0.length : Int)))] c8 ?_
 refine then_n ?_
 refine cnd ((decide (((a0.getD p3.2.toNat default).fLo) ≤ ((a0.getD p3.2.toNat default).fHi))) && (decide ((wr .u64 ((a0.getD p3.2.toNat default).fHi)) ≥ p1.2))) (fun b10 => ?_) (fun b10 => ?_)
 have h11 := cond_t b10 h9
 obtain ⟨c13, h14⟩ := gd_some h11
 refine rgc [0, 3, 4, 5, 6] 1 ⟨106, [(0, sL 2 c_TInterval a0), (3, .asl 0 0 p1.1.length), (4, .int .u64 p1.2), (5, .int .u64 (if (if p1.2 > (wr .u64 ((a0.getD p3.2.toNat default).fLo)) then p1.2 else (wr .u64 ((a0.getD p3.2.toNat default).fLo))) < p3.1 then (if p1.2 > (wr .u64 ((a0.getD p3.2.toNat default).fLo)) then p1.2 else (wr .u64 ((a0.getD p3.2.toNat default).fLo))) else p3.1)), (6, .int .i64 p3.2)], [aL 2 c_TInterval p1.1]⟩ [decide (0 ≤ p3.2), decide (p3.2 < (a0.length : Int))] c13 ?_
 refine inb_n ?_
 exact then_le (le_rfl) (k6 (if (if p1.2 > (wr .u64 ((a0.getD p3.2.toNat default).fLo)) then p1.2 else (wr .u64 ((a0.getD p3.2.toNat default).fLo))) < p3.1 then (if p1.2 > (wr .u64 ((a0.getD p3.2.toNat default).fLo)) then p1.2 else (wr .u64 ((a0.getD p3.2.toNat default).fLo))) else p3.1) h14)
 have h12 := cond_f b10 h9
 refine awp_skip (inb_n ?_)
 exact then_le (kp [0, 3, 4, 5, 6]) (k6 p3.1 h12)
 have h5 := cond_f b3 h2
 refine awp_exit (then_e ?_)
 obtain rfl := Option.some.inj h5
 exact round_e ⟨rfl, kp [0, 3, 5]⟩
 intro e17 s18 o19
 obtain ⟨rfl, l20⟩ := o19
 refine inb_here ?_
 refine then_le (s' := ⟨106, [(0, sL 2 c_TInterval a0), (3, .asl 0 0 p1.1.length), (5, .int .u64 y6)], [aL 2 c_TInterval p1.1]⟩) (l20) ?_
 refine awp_seq (awp_seq (rg0 [0, 3, 5, 48] 1 ⟨106, [(0, sL 2 c_TInterval a0), (3, .asl 0 0 p1.1.length), (5, .int .u64 y6), (48, .bool (y6 == 4294967296))], [aL 2 c_TInterval p1.1]⟩ ?_))
 refine then_n ?_
 refine cnd (y6 == 4294967296) (fun b21 => ?_) (fun b21 => ?_)
 have h22 := cond_t b21 h16
 refine awp_seq (rg0 [2] 1 ⟨106, [(2, .asl 0 0 p1.1.length)], [aL 2 c_TInterval p1.1]⟩ ?_)
 refine then_n (awp_ret (then_r (inb_r ?_)))
 obtain rfl := Option.some.inj h22
 exact round_r ⟨rfl, er (.sl false 2 p1.1.length (fun i => c_TInterval (p1.1.getD (0 + i) default))) sub_asl⟩
 have h23 := cond_f b21 h16
 refine awp_skip (then_n (awp_seq (rg0 [0, 3, 5, 7] 1 ⟨106, [(0, sL 2 c_TInterval a0), (3, .asl 0 0 p1.1.length), (5, .int .u64 y6), (7, .int .u64 y6)], [aL 2 c_TInterval p1.1]⟩ ?_)))
 refine then_n (awp_seq (rg0 [0, 3, 5, 7, 8] 1 ⟨106, [(0, sL 2 c_TInterval a0), (3, .asl 0 0 p1.1.length), (5, .int .u64 y6), (7, .int .u64 y6), (8, .bool true)], [aL 2 c_TInterval p1.1]⟩ ?_))
 refine then_n (awp_seq (awp_block ?_))
 obtain ⟨y13, q47, h48⟩ := bind_some h23
 refine awp_le (s' := ⟨106, [(0, sL 2 c_TInterval a0), (3, .asl 0 0 p1.1.length), (5, .int .u64 y6), (7, .int .u64 y6), (8, .bool true)], [aL 2 c_TInterval p1.1]⟩) (le_rfl) ?_
 refine awp_mono (awp_loop (f := M.ref4_Normalize_l3 a0) (S := fun (p7 : Int × Bool) => ⟨106, [(0, sL 2 c_TInterval a0), (3, .asl 0 0 p1.1.length), (5, .int .u64 y6), (7, .int .u64 p7.1), (8, .bool p7.2)], [aL 2 c_TInterval p1.1]⟩) (O := (fun z => OutE 4 (fun z => ⟨106, [(0, sL 2 c_TInterval a0), (3, .asl 0 0 p1.1.length), (5, .int .u64 y6), (7, .int .u64 z)], [aL 2 c_TInterval p1.1]⟩) z)) ?_ (x := (y6, true)) (y := y13) (loopM_iter q47)) ?_
 intro p7 y8 h24
 unfold M.ref4_Normalize_l3 at h24
 refine awp_seq (awp_seq (rg0 [0, 3, 5, 7, 51] 1 ⟨106, [(0, sL 2 c_TInterval a0), (3, .asl 0 0 p1.1.length), (5, .int .u64 y6), (7, .int .u64 p7.1), (51, .bool p7.2)], [aL 2 c_TInterval p1.1]⟩ ?_))
 refine then_n ?_
 refine cnd p7.2 (fun b25 => ?_) (fun b25 => ?_)
 have h26 := cond_t b25 h24
 refine awp_skip (then_n (awp_block (awp_seq (rg0 [0, 3, 5, 7, 8] 1 ⟨106, [(0, sL 2 c_TInterval a0), (3, .asl 0 0 p1.1.length), (5, .int .u64 y6), (7, .int .u64 p7.1), (8, .bool false)], [aL 2 c_TInterval p1.1]⟩ ?_))))
 refine then_n (awp_seq (rg0 [0, 3, 5, 7, 8, 9] 1 ⟨106, [(0, sL 2 c_TInterval a0), (3, .asl 0 0 p1.1.length), (5, .int .u64 y6), (7, .int .u64 p7.1), (8, .bool false), (9, .int .i64 0)], [aL 2 c_TInterval p1.1]⟩ ?_))
 refine then_n (awp_block ?_)
 obtain ⟨y12, q41, h42⟩ := bind_some h26
 refine awp_le (s' := ⟨106, [(0, sL 2 c_TInterval a0), (3, .asl 0 0 p1.1.length), (5, .int .u64 y6), (7, .int .u64 p7.1), (8, .bool false), (9, .int .i64 0)], [aL 2 c_TInterval p1.1]⟩) (le_rfl) ?_
 refine awp_mono (awp_loop (f := M.ref4_Normalize_l4 a0) (S := fun (p9 : Int × Bool × Int) => ⟨106, [(0, sL 2 c_TInterval a0), (3, .asl 0 0 p1.1.length), (5, .int .u64 y6), (7, .int .u64 p9.1), (8, .bool p9.2.1), (9, .int .i64 p9.2.2)], [aL 2 c_TInterval p1.1]⟩) (O := (fun z => OutE 6 (fun z => ⟨106, [(0, sL 2 c_TInterval a0), (3, .asl 0 0 p1.1.length), (5, .int .u64 y6), (7, .int .u64 z.1), (8, .bool z.2)], [aL 2 c_TInterval p1.1]⟩) z)) ?_ (x := (p7.1, false, 0)) (y := y12) (loopM_iter q41)) ?_
 intro p9 y10 h28
 unfold M.ref4_Normalize_l4 at h28
 refine awp_seq (awp_seq (rg0 [0, 3, 5, 7, 8, 9, 55] 1 ⟨106, [(0, sL 2 c_TInterval a0), (3, .asl 0 0 p1.1.length), (5, .int .u64 y6), (7, .int .u64 p9.1), (8, .bool p9.2.1), (9, .int .i64 p9.2.2), (55, .bool (decide (p9.2.2 < (a0.length : Int))))], [aL 2 c_TInterval p1.1]⟩ ?_))
 refine then_n ?_
 refine cnd (decide (p9.2.2 < (a0.length : Int))) (fun b29 => ?_) (fun b29 => ?_)
 have h30 := cond_t b29 h28
 refine awp_skip (then_n ?_)
 refine awp_join (fun (p11 : Int × Bool) => ⟨106, [(0, sL 2 c_TInterval a0), (3, .asl 0 0 p1.1.length), (5, .int .u64 y6), (7, .int .u64 p11.1), (8, .bool p11.2), (9, .int .i64 p9.2.2)], [aL 2 c_TInterval p1.1]⟩) (fun p11 => M.ref4_Normalize_k2 p9 p11 = some y10) ?_ ?_
 intro p11 h33
 unfold M.ref4_Normalize_k2 at h33
 refine rg0 [0, 3, 5, 7, 8, 9] 1 ⟨106, [(0, sL 2 c_TInterval a0), (3, .asl 0 0 p1.1.length), (5, .int .u64 y6), (7, .int .u64 p11.1), (8, .bool p11.2), (9, .int .i64 (wr .i64 (p9.2.2 + 1)))], [aL 2 c_TInterval p1.1]⟩ ?_
 obtain rfl := Option.some.inj h33
 exact round_n (le_rfl)
 intro k32
 refine awp_block (awp_seq ?_)
 obtain ⟨c34, h35⟩ := gd_some h30
 refine rgc [0, 3, 5, 7, 8, 9, 89] 1 ⟨106, [(0, sL 2 c_TInterval a0), (3, .asl 0 0 p1.1.length), (5, .int .u64 y6), (7, .int .u64 p9.1), (8, .bool p9.2.1), (9, .int .i64 p9.2.2), (89, .bool (((decide (((a0.getD p9.2.2.toNat default).fLo) ≤ ((a0.getD p9.2.2.toNat default).fHi))) && (decide ((wr .u64 ((a0.getD p9.2.2.toNat default).fLo)) ≤ (wr .u64 (p9.1 + 1))))) && (decide ((wr .u64 ((a0.getD p9.2.2.toNat default).fHi)) > p9.1))))], [aL 2 c_TInterval p1.1]⟩ [decide (0 ≤ p9.2.2), decide (p9.2.2 < (a0.length : Int)), decide (0 ≤ p9.2.2), decide (p9.2.2 < (a0.length : Int)), guardB (decide (((a0.getD p9.2.2.toNat default).fLo) ≤ ((a0.getD p9.2.2.toNat default).fHi))) (decide (0 ≤ p9.2.2)), guardB (decide (((a0.getD p9.2.2.toNat default).fLo) ≤ ((a0.getD p9.2.2.toNat default).fHi))) (decide (p9.2.2 < (a0.length : Int))), guardB ((decide (((a0.getD p9.2.2.toNat default).fLo) ≤ ((a0.getD p9.2.2.toNat default).fHi))) && (decide ((wr .u64 ((a0.getD p9.2.2.toNat default).fLo)) ≤ (wr .u64 (p9.1 + 1))))) (decide (0 ≤ p9.2.2)), guardB ((decide (((a0.getD p9.2.2.toNat default).fLo) ≤ ((a0.getD p9.2.2.toNat default).fHi))) && (decide ((wr .u64 ((a0.getD p9.2.2.toNat default).fLo)) ≤ (wr .u64 (p9.1 + 1))))) (decide (p9.2.2 < (a0.length : Int)))] c34 ?_
 refine then_n ?_
 refine cnd (((decide (((a0.getD p9.2.2.toNat default).fLo) ≤ ((a0.getD p9.2.2.toNat default).fHi))) && (decide ((wr .u64 ((a0.getD p9.2.2.toNat default).fLo)) ≤ (wr .u64 (p9.1 + 1))))) && (decide ((wr .u64 ((a0.getD p9.2.2.toNat default).fHi)) > p9.1))) (fun b36 => ?_) (fun b36 => ?_)
 have h37 := cond_t b36 h35
 refine awp_seq ?_
 obtain ⟨c39, h40⟩ := gd_some h37
 refine rgc [0, 3, 5, 7, 9] 1 ⟨106, [(0, sL 2 c_TInterval a0), (3, .asl 0 0 p1.1.length), (5, .int .u64 y6), (7, .int .u64 (wr .u64 ((a0.getD p9.2.2.toNat default).fHi))), (9, .int .i64 p9.2.2)], [aL 2 c_TInterval p1.1]⟩ [decide (0 ≤ p9.2.2), decide (p9.2.2 < (a0.length : Int))] c39 ?_
 refine then_n (rg0 [0, 3, 5, 7, 8, 9] 1 ⟨106, [(0, sL 2 c_TInterval a0), (3, .asl 0 0 p1.1.length), (5, .int .u64 y6), (7, .int .u64 (wr .u64 ((a0.getD p9.2.2.toNat default).fHi))), (8, .bool true), (9, .int .i64 p9.2.2)], [aL 2 c_TInterval p1.1]⟩ ?_)
 refine inb_n ?_
 exact then_le (le_rfl) (k32 (wr .u64 ((a0.getD p9.2.2.toNat default).fHi), true) h40)
 have h38 := cond_f b36 h35
 refine awp_skip (inb_n ?_)
 exact then_le (kp [0, 3, 5, 7, 8, 9]) (k32 (p9.1, p9.2.1) h38)
 have h31 := cond_f b29 h28
 refine awp_exit (then_e ?_)
 obtain rfl := Option.some.inj h31
 exact round_e ⟨rfl, kp [0, 3, 5, 7, 8]⟩
 intro e43 s44 o45
 obtain ⟨rfl, l46⟩ := o45
 refine inb_here (inb_n ?_)
 obtain rfl := Option.some.inj h42
 exact round_n (l46)
 have h27 := cond_f b25 h24
 refine awp_exit (then_e ?_)
 obtain rfl := Option.some.inj h27
 exact round_e ⟨rfl, kp [0, 3, 5, 7]⟩
 intro e49 s50 o51
 obtain ⟨rfl, l52⟩ := o51
 refine inb_here ?_
 refine then_le (s' := ⟨106, [(0, sL 2 c_TInterval a0), (3, .asl 0 0 p1.1.length), (5, .int .u64 y6), (7, .int .u64 y13)], [aL 2 c_TInterval p1.1]⟩) (l52) ?_
 refine awp_seq ?_
 obtain ⟨c53, h54⟩ := gd_some h48
 refine rgc [0, 3, 7] 1 ⟨106, [(0, sL 2 c_TInterval a0), (3, .asl 0 0 (p1.1.length + 1)), (7, .int .u64 y13)], [.arr 2 (p1.1.length + 1) (app (fun i => c_TInterval (p1.1.getD i default)) p1.1.length (fun i => List.take 2 (List.drop (i * 2) [.int .u32 (wr .u32 y6), .int .u32 (wr .u32 y13)])))]⟩ [decide ((p1.1.length + 1) * 8 ≤ 140737488355328)] c53 ?_
 refine then_le (s' := ⟨106, [(0, sL 2 c_TInterval a0), (3, .asl 0 0 ((p1.1 ++ [(⟨wr .u32 y6, wr .u32 y13⟩ : TInterval)]).length)), (7, .int .u64 y13)], [aL 2 c_TInterval (p1.1 ++ [(⟨wr .u32 y6, wr .u32 y13⟩ : TInterval)])]⟩) (le_sub (.cons Sub.rfl (.cons (asl_len (len_snoc _ _)) (.cons Sub.rfl .nil))) (.cons (.arr (len_snoc _ _) (app_snoc c_TInterval p1.1 (⟨wr .u32 y6, wr .u32 y13⟩ : TInterval) _ rfl)) .nil)) ?_
 refine rg0 [0, 3, 4] 1 ⟨106, [(0, sL 2 c_TInterval a0), (3, .asl 0 0 ((p1.1 ++ [(⟨wr .u32 y6, wr .u32 y13⟩ : TInterval)]).length)), (4, .int .u64 (wr .u64 (y13 + 1)))], [aL 2 c_TInterval (p1.1 ++ [(⟨wr .u32 y6, wr .u32 y13⟩ : TInterval)])]⟩ ?_
 refine inb_n ?_
 obtain rfl := Option.some.inj h54
 exact round_n (le_rfl)
 intro e57 s58 o59
 obtain ⟨rfl, n60⟩ := o59
 refine inb_r ?_
 obtain rfl := Option.some.inj h56
 exact n60
theorem ref4_Last_ok (a0 : TPrefix) (r : Int) (h : M.ref4_Last a0 = some r) : Fn Tryd.prog 25 [.agg (c_TPrefix a0)] (.pure (.int .u32 r)) := by
 unfold M.ref4_Last at h
 refine fn_pure Tryd.func25 rfl (by kernel_rfl) ?_
 refine awp_seq (rg0 [1] 1 ⟨10, [(1, .ref 0 0)], [.box (c_TPrefix a0)]⟩ ?_)
 refine then_n (awp_seq ?_)
 obtain ⟨r1, q1, h2⟩ := bind_some h
 refine rg [.pure (.int .u32 r1)] [2] 0 ⟨10, [(2, .int .u32 (bitD .or .u32 a0.fAddr (bitD .xor .u32 (IntKind.max .u32) r1)))], []⟩ [] [⟨true, 39, [.int .i64 a0.fLen], .pure (.int .u32 r1)⟩] nil_all ⟨fun _ => ref4_Mask_ok a0.fLen r1 q1, trivial⟩ ?_
 refine then_n (awp_ret ?_)
 obtain rfl := Option.some.inj h2
 exact er0 (.int .u32 (bitD .or .u32 a0.fAddr (bitD .xor .u32 (IntKind.max .u32) r1)))
theorem ref4_Halves_ok (a0 : TPrefix) (r : TPrefix × TPrefix × Bool) (h : M.ref4_Halves a0 = some r) : Fn Tryd.prog 48 [.agg (c_TPrefix a0)] (.pure (.tup [.agg (c_TPrefix r.1), .agg (c_TPrefix r.2.1), .bool r.2.2])) := by
 unfold M.ref4_Halves at h
 refine fn_pure Tryd.func48 rfl (by kernel_rfl) ?_
 refine awp_seq (rg0 [1, 2, 3] 3 ⟨33, [(1, .ref 0 0), (2, .ref 1 0), (3, .ref 2 0)], [.box (c_TPrefix a0), .box [.int .u32 0, .int .i64 0], .box [.int .u32 0, .int .i64 0]]⟩ ?_)
 refine then_n (awp_seq (awp_seq (rg0 [1, 2, 3, 12] 3 ⟨33, [(1, .ref 0 0), (2, .ref 1 0), (3, .ref 2 0), (12, .bool ((decide (a0.fLen < 0)) || (decide (a0.fLen > 31))))], [.box (c_TPrefix a0), .box [.int .u32 0, .int .i64 0], .box [.int .u32 0, .int .i64 0]]⟩ ?_)))
 refine then_n ?_
 refine cnd ((decide (a0.fLen < 0)) || (decide (a0.fLen > 31))) (fun b1 => ?_) (fun b1 => ?_)
 have h2 := cond_t b1 h
 refine awp_seq (rg0 [2, 3, 4] 3 ⟨33, [(2, .ref 1 0), (3, .ref 2 0), (4, .bool false)], [.box (c_TPrefix a0), .box [.int .u32 0, .int .i64 0], .box [.int .u32 0, .int .i64 0]]⟩ ?_)
 refine then_n (awp_ret (then_r ?_))
 obtain rfl := Option.some.inj h2
 exact er0 (.tup [.agg [.int .u32 0, .int .i64 0], .agg [.int .u32 0, .int .i64 0], .bool false])
 have h3 := cond_f b1 h
 refine awp_skip (then_n (awp_seq ?_))
 obtain ⟨c4, h5⟩ := gd_some h3
 refine rgvB [1, 3, 7, 9, 15] [.box (c_TPrefix a0), .gone, .gone] [[.box (c_TPrefix a0), .box [.int .u32 0, .int .i64 0], .box [.int .u32 0, .int .i64 0]], [.box (c_TPrefix a0), .box [.int .u32 a0.fAddr, .int .i64 (wr .i64 (a0.fLen + 1))], .box [.int .u32 0, .int .i64 0]], [.box (c_TPrefix a0), .box [.int .u32 a0.fAddr, .int .i64 (wr .i64 (a0.fLen + 1))], .box [.int .u32 (bitD .or .u32 a0.fAddr (wr .u32 (1 * 2 ^ min (wr .u64 (wr .i64 (31 - a0.fLen))).toNat 32))), .int .i64 (wr .i64 (a0.fLen + 1))]]] 21 [] [2, 3, 4] 3 ⟨33, [(2, .ref 1 0), (3, .ref 2 0), (4, .bool true)], [.box (c_TPrefix a0), .box [.int .u32 a0.fAddr, .int .i64 (wr .i64 (a0.fLen + 1))], .box [.int .u32 (bitD .or .u32 a0.fAddr (wr .u32 (1 * 2 ^ min (wr .u64 (wr .i64 (31 - a0.fLen))).toNat 32))), .int .i64 (wr .i64 (a0.fLen + 1))]]⟩ [decide (0 ≤ (wr .u64 (wr .i64 (31 - a0.fLen))))] [] c4 trivial (by intro x hx; simp only [List.mem_cons, List.not_mem_nil, or_false] at hx; rcases hx with rfl | rfl | rfl <;> exact ⟨rfl, trivial⟩) _ (LeE.of (S := fun _ : Unit => ⟨33, [(2, .ref 1 0), (3, .ref 2 0), (4, .bool true)], [.box (c_TPrefix a0), .box [.int .u32 a0.fAddr, .int .i64 (wr .i64 (a0.fLen + 1))], .box [.int .u32 (bitD .or .u32 a0.fAddr (wr .u32 (1 * 2 ^ min (wr .u64 (wr .i64 (31 - a0.fLen))).toNat 32))), .int .i64 (wr .i64 (a0.fLen + 1))]]⟩) () le_rfl) [] [2, 3, 4] 3 (fun _ => ⟨33, [(2, .ref 1 0), (3, .ref 2 0), (4, .bool true)], [.box (c_TPrefix a0), .box [.int .u32 a0.fAddr, .int .i64 (wr .i64 (a0.fLen + 1))], .box [.int .u32 (bitD .or .u32 a0.fAddr (wr .u32 (1 * 2 ^ min (wr .u64 (wr .i64 (31 - a0.fLen))).toNat 32))), .int .i64 (wr .i64 (a0.fLen + 1))]]⟩) (fun _ => []) (fun _ => []) (fun _ => nil_all) (fun _ => trivial) (fun _ => ?_)
 refine then_n (awp_ret ?_)
 obtain rfl := Option.some.inj h5
 exact er0 (.tup [.agg [.int .u32 a0.fAddr, .int .i64 (wr .i64 (a0.fLen + 1))], .agg [.int .u32 (bitD .or .u32 a0.fAddr (wr .u32 (1 * 2 ^ min (wr .u64 (wr .i64 (31 - a0.fLen))).toNat 32))), .int .i64 (wr .i64 (a0.fLen + 1))], .bool true])
theorem ref4_within_bok (self : (List TInterval) → TPrefix → Option (List TPrefix)) (ih : ∀ (a0 : List TInterval) (a1 : TPrefix) (r : (List TPrefix)) (_ : self a0 a1 = some r), Fn Tryd.prog 40 [sL 2 c_TInterval a0, .agg (c_TPrefix a1)] (oL 2 c_TPrefix r)) (a0 : List TInterval) (a1 : TPrefix) (r : (List TPrefix)) (h : M.ref4_within_b self a0 a1 = some r) : Fn Tryd.prog 40 [sL 2 c_TInterval a0, .agg (c_TPrefix a1)] (oL 2 c_TPrefix r) := by
 unfold M.ref4_within_b at h
 refine fn_own Tryd.func40 rfl (by kernel_rfl) (awp_ends_le ?_)
 refine awp_seq (rg0 [0, 3] 1 ⟨73, [(0, sL 2 c_TInterval a0), (3, .ref 0 0)], [.box (c_TPrefix a1)]⟩ ?_)
 refine then_n (awp_seq ?_)
 obtain ⟨r1, q1, h2⟩ := bind_some h
 refine rg [.pure (.int .u32 r1)] [0, 3, 5] 1 ⟨73, [(0, sL 2 c_TInterval a0), (3, .ref 0 0), (5, .int .u32 r1)], [.box (c_TPrefix a1)]⟩ [] [⟨true, 25, [.agg (c_TPrefix a1)], .pure (.int .u32 r1)⟩] nil_all ⟨fun _ => ref4_Last_ok a1 r1 q1, trivial⟩ ?_
 refine then_n (awp_seq (rg0 [0, 3, 5, 6] 1 ⟨73, [(0, sL 2 c_TInterval a0), (3, .ref 0 0), (5, .int .u32 r1), (6, .bool false)], [.box (c_TPrefix a1)]⟩ ?_))
 refine then_n (awp_seq (awp_seq (rg0 [0, 3, 5, 6, 7] 1 ⟨73, [(0, sL 2 c_TInterval a0), (3, .ref 0 0), (5, .int .u32 r1), (6, .bool false), (7, .int .i64 0)], [.box (c_TPrefix a1)]⟩ ?_)))
 refine then_n (awp_block ?_)
 obtain ⟨y4, q14, h15⟩ := bind_some h2
 refine awp_le (s' := ⟨73, [(0, sL 2 c_TInterval a0), (3, .ref 0 0), (5, .int .u32 r1), (6, .bool false), (7, .int .i64 0)], [.box (c_TPrefix a1)]⟩) (le_rfl) ?_
 refine awp_mono (awp_loop (f := M.ref4_within_l1 a0 a1 r1) (S := fun (p2 : Bool × Int) => ⟨73, [(0, sL 2 c_TInterval a0), (3, .ref 0 0), (5, .int .u32 r1), (6, .bool p2.1), (7, .int .i64 p2.2)], [.box (c_TPrefix a1)]⟩) (O := (Sum.elim (fun z => OutE 0 (fun z => ⟨73, [(0, sL 2 c_TInterval a0), (3, .ref 0 0), (6, .bool z)], [.box (c_TPrefix a1)]⟩) z) (fun z => OutO Tryd.f40 2 z.length (fun i => c_TPrefix (z.getD i default))))) ?_ (x := (false, 0)) (y := y4) (loopM_iter q14)) ?_
 intro p2 y3 h3
 unfold M.ref4_within_l1 at h3
 refine awp_seq (awp_seq (rg0 [0, 3, 5, 6, 7, 16] 1 ⟨73, [(0, sL 2 c_TInterval a0), (3, .ref 0 0), (5, .int .u32 r1), (6, .bool p2.1), (7, .int .i64 p2.2), (16, .bool (decide (p2.2 < (a0.length : Int))))], [.box (c_TPrefix a1)]⟩ ?_))
 refine then_n ?_
 refine cnd (decide (p2.2 < (a0.length : Int))) (fun b4 => ?_) (fun b4 => ?_)
 have h5 := cond_t b4 h3
 refine awp_skip (then_n (awp_seq (awp_block (awp_seq (awp_seq ?_)))))
 obtain ⟨c7, h8⟩ := gd_some h5
 refine rgc [0, 3, 5, 6, 7, 35] 1 ⟨73, [(0, sL 2 c_TInterval a0), (3, .ref 0 0), (5, .int .u32 r1), (6, .bool p2.1), (7, .int .i64 p2.2), (35, .bool ((decide (((a0.getD p2.2.toNat default).fLo) ≤ a1.fAddr)) && (decide (r1 ≤ ((a0.getD p2.2.toNat default).fHi)))))], [.box (c_TPrefix a1)]⟩ [decide (0 ≤ p2.2), decide (p2.2 < (a0.length : Int)), guardB (decide (((a0.getD p2.2.toNat default).fLo) ≤ a1.fAddr)) (decide (0 ≤ p2.2)), guardB (decide (((a0.getD p2.2.toNat default).fLo) ≤ a1.fAddr)) (decide (p2.2 < (a0.length : Int)))] c7 ?_
 refine then_n ?_
 refine cnd ((decide (((a0.getD p2.2.toNat default).fLo) ≤ a1.fAddr)) && (decide (r1 ≤ ((a0.getD p2.2.toNat default).fHi)))) (fun b9 => ?_) (fun b9 => ?_)
 have h10 := cond_t b9 h8
 refine awp_seq ?_
 refine rgo 1 [] [36] 0 ⟨73, [(36, .agg (c_TPrefix a1))], []⟩ [] [] nil_all trivial _ (opS_lit (sz := 2) (len := 1) (f := fun i => List.take 2 (List.drop (i * 2) [.int .u32 a1.fAddr, .int .i64 a1.fLen])) rfl rfl rfl rfl rfl (by kernel_rfl)) [] [4] 1 (fun _ => ⟨73, [(4, .asl 0 0 1)], [.arr 2 1 (fun i => List.take 2 (List.drop (i * 2) [.int .u32 a1.fAddr, .int .i64 a1.fLen]))]⟩) (fun _ => []) (fun _ => []) (fun _ => nil_all) (fun _ => trivial) (fun _ => ?_)
 refine then_le (s' := ⟨73, [(4, .asl 0 0 (([a1] : List TPrefix).length))], [aL 2 c_TPrefix ([a1] : List TPrefix)]⟩) (le_sub (.cons (asl_len rfl) .nil) (.cons (.arr rfl (lit1_ext rfl)) .nil)) ?_
 refine awp_ret (then_r (inb_r (then_r ?_)))
 obtain rfl := Option.some.inj h10
 exact round_r ⟨rfl, ⟨_, le_rfl, .inr rfl, 4, 0, _, rfl, rfl, rfl, fun _ _ => rfl⟩⟩
 have h11 := cond_f b9 h8
 refine awp_skip (then_n ?_)
 obtain ⟨c12, h13⟩ := gd_some h11
 refine rgc [0, 3, 5, 6, 7] 1 ⟨73, [(0, sL 2 c_TInterval a0), (3, .ref 0 0), (5, .int .u32 r1), (6, .bool (p2.1 || ((decide (((a0.getD p2.2.toNat default).fLo) ≤ r1)) && (decide (a1.fAddr ≤ ((a0.getD p2.2.toNat default).fHi)))))), (7, .int .i64 p2.2)], [.box (c_TPrefix a1)]⟩ [guardB (!p2.1) (decide (0 ≤ p2.2)), guardB (!p2.1) (decide (p2.2 < (a0.length : Int))), guardB ((!p2.1) && (decide (((a0.getD p2.2.toNat default).fLo) ≤ r1))) (decide (0 ≤ p2.2)), guardB ((!p2.1) && (decide (((a0.getD p2.2.toNat default).fLo) ≤ r1))) (decide (p2.2 < (a0.length : Int)))] c12 ?_
 refine inb_n (then_n (rg0 [0, 3, 5, 6, 7] 1 ⟨73, [(0, sL 2 c_TInterval a0), (3, .ref 0 0), (5, .int .u32 r1), (6, .bool (p2.1 || ((decide (((a0.getD p2.2.toNat default).fLo) ≤ r1)) && (decide (a1.fAddr ≤ ((a0.getD p2.2.toNat default).fHi)))))), (7, .int .i64 (wr .i64 (p2.2 + 1)))], [.box (c_TPrefix a1)]⟩ ?_))
 obtain rfl := Option.some.inj h13
 exact round_n (le_rfl)
 have h6 := cond_f b4 h3
 refine awp_exit (then_e ?_)
 obtain rfl := Option.some.inj h6
 exact round_e ⟨rfl, kp [0, 3, 6]⟩
 intro e16 s17 o18
 rcases y4 with g5 | y6
 have h19 := elim_l h15
 obtain ⟨rfl, l21⟩ := o18
 refine inb_here ?_
 refine then_le (s' := ⟨73, [(0, sL 2 c_TInterval a0), (3, .ref 0 0), (6, .bool g5)], [.box (c_TPrefix a1)]⟩) (l21) ?_
 refine awp_seq (awp_seq (rg0 [0, 3, 59] 1 ⟨73, [(0, sL 2 c_TInterval a0), (3, .ref 0 0), (59, .bool (!g5))], [.box (c_TPrefix a1)]⟩ ?_))
 refine then_n ?_
 refine cnd (!g5) (fun b22 => ?_) (fun b22 => ?_)
 have h23 := cond_t b22 h19
 refine awp_seq (rg0 [4] 0 ⟨73, [(4, .sl true 2 0 (fun _ => []))], []⟩ ?_)
 refine then_n (awp_ret (then_r ?_))
 obtain rfl := Option.some.inj h23
 exact ⟨_, le_thaw 4 rfl 2 (fun _ => []), .inr rfl, 4, 0, _, rfl, rfl, rfl, fun _ h => absurd h (Nat.not_lt_zero _)⟩
 have h24 := cond_f b22 h19
 refine awp_skip (then_n (awp_seq ?_))
 obtain ⟨r7, q25, h26⟩ := bind_some h24
 refine rg [.pure (.tup [.agg (c_TPrefix r7.1), .agg (c_TPrefix r7.2.1), .bool r7.2.2])] [0, 8, 9] 3 ⟨73, [(0, sL 2 c_TInterval a0), (8, .ref 1 0), (9, .ref 2 0)], [.box (c_TPrefix a1), .box (c_TPrefix r7.1), .box (c_TPrefix r7.2.1)]⟩ [] [⟨true, 48, [.agg (c_TPrefix a1)], .pure (.tup [.agg (c_TPrefix r7.1), .agg (c_TPrefix r7.2.1), .bool r7.2.2])⟩] nil_all ⟨fun _ => ref4_Halves_ok a1 r7 q25, trivial⟩ ?_
 refine then_n (awp_seq ?_)
 obtain ⟨r8, q27, h28⟩ := bind_some h26
 obtain ⟨r9, q29, h30⟩ := bind_some h28
 obtain ⟨c31, h32⟩ := gd_some h30
 refine rgu [0, 4, 8, 9, 66, 67, 68, 69, 70, 71, 72] [([], [], []), ([], [], []), ([oL 2 c_TPrefix r8], [], [⟨true, 40, [sL 2 c_TInterval a0, .agg (c_TPrefix r7.1)], oL 2 c_TPrefix r8⟩]), ([], [], []), ([], [], []), ([.pure (sL 2 c_TPrefix r9)], [], [⟨true, 40, [sL 2 c_TInterval a0, .agg (c_TPrefix r7.2.1)], .pure (sL 2 c_TPrefix r9)⟩]), ([], [decide ((r8.length + r9.length) * 16 ≤ 140737488355328)], []), ([], [], [])] [4] 4 ⟨73, [(4, .asl 3 0 (r8.length + r9.length))], [.box (c_TPrefix a1), .box (c_TPrefix r7.1), .box (c_TPrefix r7.2.1), .arr 2 (r8.length + r9.length) (app (fun i => c_TPrefix (r8.getD i default)) r8.length (fun i => c_TPrefix (r9.getD i default)))]⟩ [decide ((r8.length + r9.length) * 16 ≤ 140737488355328)] [⟨true, 40, [sL 2 c_TInterval a0, .agg (c_TPrefix r7.1)], oL 2 c_TPrefix r8⟩, ⟨true, 40, [sL 2 c_TInterval a0, .agg (c_TPrefix r7.2.1)], .pure (sL 2 c_TPrefix r9)⟩] c31 ⟨fun _ => ih a0 r7.1 r8 q27, fun _ => (ih a0 r7.2.1 r9 q29).pure_of_own, trivial⟩ ?_
 refine then_le (s' := ⟨73, [(4, .asl 3 0 ((r8 ++ r9).length))], [.box (c_TPrefix a1), .box (c_TPrefix r7.1), .box (c_TPrefix r7.2.1), aL 2 c_TPrefix (r8 ++ r9)]⟩) (le_sub (.cons (asl_len (len_app _ _)) .nil) (.cons .rfl (.cons .rfl (.cons .rfl (.cons (.arr (len_app _ _) (app_list c_TPrefix r8 r9 _ (fun _ _ => rfl))) .nil))))) ?_
 refine awp_ret ?_
 obtain rfl := Option.some.inj h32
 exact ⟨_, le_rfl, .inr rfl, 4, 3, _, rfl, rfl, rfl, fun _ _ => rfl⟩
 have h20 := elim_r h15
 obtain ⟨rfl, n33⟩ := o18
 refine inb_r (then_r ?_)
 obtain rfl := Option.some.inj h20
 exact n33
theorem ref4_within_nok : ∀ (n : Nat) (a0 : List TInterval) (a1 : TPrefix) (r : (List TPrefix)) (_ : M.ref4_within_n n a0 a1 = some r), Fn Tryd.prog 40 [sL 2 c_TInterval a0, .agg (c_TPrefix a1)] (oL 2 c_TPrefix r)
  | 0, a0, a1, r, h => by cases h
  | n + 1, a0, a1, r, h => ref4_within_bok (M.ref4_within_n n) (ref4_within_nok n) a0 a1 r h
theorem ref4_within_own (a0 : List TInterval) (a1 : TPrefix) (r : (List TPrefix)) (h : M.ref4_within a0 a1 = some r) : Fn Tryd.prog 40 [sL 2 c_TInterval a0, .agg (c_TPrefix a1)] (oL 2 c_TPrefix r) := by
 obtain ⟨n, hn⟩ := recM_some h
 exact ref4_within_nok n a0 a1 r hn
theorem ref4_within_ok (a0 : List TInterval) (a1 : TPrefix) (r : (List TPrefix)) (h : M.ref4_within a0 a1 = some r) : Fn Tryd.prog 40 [sL 2 c_TInterval a0, .agg (c_TPrefix a1)] (.pure (sL 2 c_TPrefix r)) := (ref4_within_own a0 a1 r h).pure_of_own
theorem ref4_Prefixes_ok (a0 : List TInterval) (r : (List TPrefix)) (h : M.ref4_Prefixes a0 = some r) : Fn Tryd.prog 15 [sL 2 c_TInterval a0] (.pure (sL 2 c_TPrefix r)) := by
 unfold M.ref4_Prefixes at h
 refine fn_pure Tryd.func15 rfl (by kernel_rfl) ?_
 refine awp_seq (rg0 [0] 0 ⟨7, [(0, sL 2 c_TInterval a0)], []⟩ ?_)
 refine then_n (awp_seq ?_)
 obtain ⟨r1, q1, h2⟩ := bind_some h
 obtain ⟨r2, q3, h4⟩ := bind_some h2
 refine rg [.pure (sL 2 c_TInterval r1), .pure (sL 2 c_TPrefix r2)] [2] 0 ⟨7, [(2, sL 2 c_TPrefix r2)], []⟩ [] [⟨true, 20, [sL 2 c_TInterval a0], .pure (sL 2 c_TInterval r1)⟩, ⟨true, 40, [sL 2 c_TInterval r1, .agg [.int .u32 0, .int .i64 0]], .pure (sL 2 c_TPrefix r2)⟩] nil_all ⟨fun _ => ref4_Normalize_ok a0 r1 q1, fun _ => ref4_within_ok r1 (⟨0, 0⟩ : TPrefix) r2 q3, trivial⟩ ?_
 refine then_n (awp_ret ?_)
 obtain rfl := Option.some.inj h4
 exact er0 (sL 2 c_TPrefix r2)
theorem keep_Prefixes_ok (a0 : List TPrefix) (a1 : List TPrefix) (r : Bool) (h : M.keep_Prefixes a0 a1 = some r) : Fn Tryd.prog 14 [sL 2 c_TPrefix a0, sL 2 c_TPrefix a1] (.pure (.bool r)) := by
 unfold M.keep_Prefixes at h
 refine fn_pure Tryd.func14 rfl (by kernel_rfl) ?_
 refine awp_seq (rg0 [0, 1] 0 ⟨26, [(0, sL 2 c_TPrefix a0), (1, sL 2 c_TPrefix a1)], []⟩ ?_)
 refine then_n (awp_seq (awp_seq (rg0 [0, 1, 10] 0 ⟨26, [(0, sL 2 c_TPrefix a0), (1, sL 2 c_TPrefix a1), (10, .bool ((a0.length : Int) != (a1.length : Int)))], []⟩ ?_)))
 refine then_n ?_
 refine cnd ((a0.length : Int) != (a1.length : Int)) (fun b1 => ?_) (fun b1 => ?_)
 have h2 := cond_t b1 h
 refine awp_seq (rg0 [4] 0 ⟨26, [(4, .bool false)], []⟩ ?_)
 refine then_n (awp_ret (then_r ?_))
 obtain rfl := Option.some.inj h2
 exact er0 (.bool false)
 have h3 := cond_f b1 h
 refine awp_skip (then_n (awp_seq (awp_seq (rg0 [0, 1, 5] 0 ⟨26, [(0, sL 2 c_TPrefix a0), (1, sL 2 c_TPrefix a1), (5, .int .i64 0)], []⟩ ?_))))
 refine then_n (awp_block ?_)
 obtain ⟨y3, q13, h14⟩ := bind_some h3
 refine awp_le (s' := ⟨26, [(0, sL 2 c_TPrefix a0), (1, sL 2 c_TPrefix a1), (5, .int .i64 0)], []⟩) (le_rfl) ?_
 refine awp_mono (awp_loop (f := M.keep_Prefixes_l1 a0 a1) (S := fun (p1 : Int) => ⟨26, [(0, sL 2 c_TPrefix a0), (1, sL 2 c_TPrefix a1), (5, .int .i64 p1)], []⟩) (O := (Sum.elim (fun z => OutE 0 (fun z => ⟨26, [], []⟩) z) (fun z => OutR Tryd.prog Tryd.f14 (.bool z)))) ?_ (x := 0) (y := y3) (loopM_iter q13)) ?_
 intro p1 y2 h4
 unfold M.keep_Prefixes_l1 at h4
 refine awp_seq (awp_seq (rg0 [0, 1, 5, 14] 0 ⟨26, [(0, sL 2 c_TPrefix a0), (1, sL 2 c_TPrefix a1), (5, .int .i64 p1), (14, .bool (decide (p1 < (a0.length : Int))))], []⟩ ?_))
 refine then_n ?_
 refine cnd (decide (p1 < (a0.length : Int))) (fun b5 => ?_) (fun b5 => ?_)
 have h6 := cond_t b5 h4
 refine awp_skip (then_n (awp_seq (awp_block (awp_seq ?_))))
 obtain ⟨c8, h9⟩ := gd_some h6
 refine rgc [0, 1, 5, 25] 0 ⟨26, [(0, sL 2 c_TPrefix a0), (1, sL 2 c_TPrefix a1), (5, .int .i64 p1), (25, .bool (!((((a0.getD p1.toNat default).fAddr) == ((a1.getD p1.toNat default).fAddr)) && ((((a0.getD p1.toNat default).fLen) == ((a1.getD p1.toNat default).fLen)) && true))))], []⟩ [decide (0 ≤ p1), decide (p1 < (a0.length : Int)), decide (0 ≤ p1), decide (p1 < (a1.length : Int))] c8 ?_
 refine then_n ?_
 refine cnd (!((((a0.getD p1.toNat default).fAddr) == ((a1.getD p1.toNat default).fAddr)) && ((((a0.getD p1.toNat default).fLen) == ((a1.getD p1.toNat default).fLen)) && true))) (fun b10 => ?_) (fun b10 => ?_)
 have h11 := cond_t b10 h9
 refine awp_seq (rg0 [4] 0 ⟨26, [(4, .bool false)], []⟩ ?_)
 refine then_n (awp_ret (inb_r (then_r ?_)))
 obtain rfl := Option.some.inj h11
 exact round_r ⟨rfl, er0 (.bool false)⟩
 have h12 := cond_f b10 h9
 refine awp_skip (inb_n (then_n (rg0 [0, 1, 5] 0 ⟨26, [(0, sL 2 c_TPrefix a0), (1, sL 2 c_TPrefix a1), (5, .int .i64 (wr .i64 (p1 + 1)))], []⟩ ?_)))
 obtain rfl := Option.some.inj h12
 exact round_n (le_rfl)
 have h7 := cond_f b5 h4
 refine awp_exit (then_e ?_)
 obtain rfl := Option.some.inj h7
 exact round_e ⟨rfl, kp []⟩
 intro e15 s16 o17
 rcases y3 with g4 | y5
 have h18 := elim_l h14
 obtain ⟨rfl, l20⟩ := o17
 refine inb_here ?_
 refine then_le (s' := ⟨26, [], []⟩) (l20) ?_
 refine awp_seq (rg0 [4] 0 ⟨26, [(4, .bool true)], []⟩ ?_)
 refine then_n (awp_ret ?_)
 obtain rfl := Option.some.inj h18
 exact er0 (.bool true)
 have h19 := elim_r h14
 obtain ⟨rfl, n21⟩ := o17
 refine inb_r (then_r ?_)
 obtain rfl := Option.some.inj h19
 exact n21
theorem ref4_Has_ok (a0 : List TInterval) (a1 : Int) (r : Bool) (h : M.ref4_Has a0 a1 = some r) : Fn Tryd.prog 16 [sL 2 c_TInterval a0, .int .u32 a1] (.pure (.bool r)) := by
 unfold M.ref4_Has at h
 refine fn_pure Tryd.func16 rfl (by kernel_rfl) ?_
 refine awp_seq (rg0 [0, 1] 0 ⟨28, [(0, sL 2 c_TInterval a0), (1, .int .u32 a1)], []⟩ ?_)
 refine then_n (awp_seq (awp_seq (rg0 [0, 1, 5] 0 ⟨28, [(0, sL 2 c_TInterval a0), (1, .int .u32 a1), (5, .int .i64 0)], []⟩ ?_)))
 refine then_n (awp_block ?_)
 obtain ⟨y3, q10, h11⟩ := bind_some h
 refine awp_le (s' := ⟨28, [(0, sL 2 c_TInterval a0), (1, .int .u32 a1), (5, .int .i64 0)], []⟩) (le_rfl) ?_
 refine awp_mono (awp_loop (f := M.ref4_Has_l1 a0 a1) (S := fun (p1 : Int) => ⟨28, [(0, sL 2 c_TInterval a0), (1, .int .u32 a1), (5, .int .i64 p1)], []⟩) (O := (Sum.elim (fun z => OutE 0 (fun z => ⟨28, [], []⟩) z) (fun z => OutR Tryd.prog Tryd.f16 (.bool z)))) ?_ (x := 0) (y := y3) (loopM_iter q10)) ?_
 intro p1 y2 h1
 unfold M.ref4_Has_l1 at h1
 refine awp_seq (awp_seq (rg0 [0, 1, 5, 9] 0 ⟨28, [(0, sL 2 c_TInterval a0), (1, .int .u32 a1), (5, .int .i64 p1), (9, .bool (decide (p1 < (a0.length : Int))))], []⟩ ?_))
 refine then_n ?_
 refine cnd (decide (p1 < (a0.length : Int))) (fun b2 => ?_) (fun b2 => ?_)
 have h3 := cond_t b2 h1
 refine awp_skip (then_n (awp_seq (awp_block (awp_seq ?_))))
 obtain ⟨c5, h6⟩ := gd_some h3
 refine rgc [0, 1, 5, 27] 0 ⟨28, [(0, sL 2 c_TInterval a0), (1, .int .u32 a1), (5, .int .i64 p1), (27, .bool ((decide (((a0.getD p1.toNat default).fLo) ≤ a1)) && (decide (a1 ≤ ((a0.getD p1.toNat default).fHi)))))], []⟩ [decide (0 ≤ p1), decide (p1 < (a0.length : Int)), guardB (decide (((a0.getD p1.toNat default).fLo) ≤ a1)) (decide (0 ≤ p1)), guardB (decide (((a0.getD p1.toNat default).fLo) ≤ a1)) (decide (p1 < (a0.length : Int)))] c5 ?_
 refine then_n ?_
 refine cnd ((decide (((a0.getD p1.toNat default).fLo) ≤ a1)) && (decide (a1 ≤ ((a0.getD p1.toNat default).fHi)))) (fun b7 => ?_) (fun b7 => ?_)
 have h8 := cond_t b7 h6
 refine awp_seq (rg0 [4] 0 ⟨28, [(4, .bool true)], []⟩ ?_)
 refine then_n (awp_ret (inb_r (then_r ?_)))
 obtain rfl := Option.some.inj h8
 exact round_r ⟨rfl, er0 (.bool true)⟩
 have h9 := cond_f b7 h6
 refine awp_skip (inb_n (then_n (rg0 [0, 1, 5] 0 ⟨28, [(0, sL 2 c_TInterval a0), (1, .int .u32 a1), (5, .int .i64 (wr .i64 (p1 + 1)))], []⟩ ?_)))
 obtain rfl := Option.some.inj h9
 exact round_n (le_rfl)
 have h4 := cond_f b2 h1
 refine awp_exit (then_e ?_)
 obtain rfl := Option.some.inj h4
 exact round_e ⟨rfl, kp []⟩
 intro e12 s13 o14
 rcases y3 with g4 | y5
 have h15 := elim_l h11
 obtain ⟨rfl, l17⟩ := o14
 refine inb_here ?_
 refine then_le (s' := ⟨28, [], []⟩) (l17) ?_
 refine awp_seq (rg0 [4] 0 ⟨28, [(4, .bool false)], []⟩ ?_)
 refine then_n (awp_ret ?_)
 obtain rfl := Option.some.inj h15
 exact er0 (.bool false)
 have h16 := elim_r h11
 obtain ⟨rfl, n18⟩ := o14
 refine inb_r (then_r ?_)
 obtain rfl := Option.some.inj h16
 exact n18
theorem interval_Has_1_ok (a0 : TInterval) (b0 : Int) (r : Bool) (h : M.interval_Has_1 a0 b0 = some r) : Fn Tryd.prog 45 [.agg (c_TInterval a0), .pp ((ci .u32) b0)] (.pure (.bool r)) := by
 unfold M.interval_Has_1 at h
 refine fn_pure Tryd.func45 rfl (by kernel_rfl) ?_
 refine awp_seq (rg0 [1, 2] 1 ⟨14, [(1, .pp ((ci .u32) b0)), (2, .ref 0 0)], [.box (c_TInterval a0)]⟩ ?_)
 refine then_n (awp_seq (rg0 [3] 0 ⟨14, [(3, .bool ((decide (a0.fLo ≤ b0)) && (decide (b0 ≤ a0.fHi))))], []⟩ ?_))
 refine then_n (awp_ret ?_)
 obtain rfl := Option.some.inj h
 exact er0 (.bool ((decide (a0.fLo ≤ b0)) && (decide (b0 ≤ a0.fHi))))
theorem slices_IndexFunc_api_Interval_api_Interval__interval_Has_1_ok (a0 : List TInterval) (a1c0 : Int) (r : Int) (h : M.slices_IndexFunc_api_Interval_api_Interval__interval_Has_1 a0 a1c0 = some r) : Fn Tryd.prog 52 [sL 2 c_TInterval a0, .fn 45 [.pp ((ci .u32) a1c0)]] (.pure (.int .i64 r)) := by
 unfold M.slices_IndexFunc_api_Interval_api_Interval__interval_Has_1 at h
 refine fn_pure Tryd.func52 rfl (by kernel_rfl) ?_
 refine awp_seq (rg0 [0, 1] 0 ⟨19, [(0, sL 2 c_TInterval a0), (1, .fn 45 [.pp ((ci .u32) a1c0)])], []⟩ ?_)
 refine then_n (awp_seq (awp_seq (rg0 [0, 1, 7, 8] 0 ⟨19, [(0, sL 2 c_TInterval a0), (1, .fn 45 [.pp ((ci .u32) a1c0)]), (7, .int .i64 (a0.length : Int)), (8, .int .i64 0)], []⟩ ?_)))
 refine then_n (awp_block ?_)
 obtain ⟨y4, q12, h13⟩ := bind_some h
 refine awp_le (s' := ⟨19, [(0, sL 2 c_TInterval a0), (1, .fn 45 [.pp ((ci .u32) a1c0)]), (7, .int .i64 (a0.length : Int)), (8, .int .i64 0)], []⟩) (le_rfl) ?_
 refine awp_mono (awp_loop (f := M.slices_IndexFunc_api_Interval_api_Interval__interval_Has_1_l1 a0 a1c0) (S := fun (p1 : Int) => ⟨19, [(0, sL 2 c_TInterval a0), (1, .fn 45 [.pp ((ci .u32) a1c0)]), (7, .int .i64 (a0.length : Int)), (8, .int .i64 p1)], []⟩) (O := (Sum.elim (fun z => OutE 0 (fun z => ⟨19, [], []⟩) z) (fun z => OutR Tryd.prog Tryd.f52 (.int .i64 z)))) ?_ (x := 0) (y := y4) (loopM_iter q12)) ?_
 intro p1 y2 h1
 unfold M.slices_IndexFunc_api_Interval_api_Interval__interval_Has_1_l1 at h1
 refine awp_seq (rg0 [0, 1, 7, 8, 9] 0 ⟨19, [(0, sL 2 c_TInterval a0), (1, .fn 45 [.pp ((ci .u32) a1c0)]), (7, .int .i64 (a0.length : Int)), (8, .int .i64 p1), (9, .bool (decide (p1 < (a0.length : Int))))], []⟩ ?_)
 refine then_n (awp_seq ?_)
 refine cnd (decide (p1 < (a0.length : Int))) (fun b2 => ?_) (fun b2 => ?_)
 have h3 := cond_t b2 h1
 refine awp_skip (then_n (awp_seq (awp_block (awp_seq (rg0 [0, 1, 5, 7, 8] 0 ⟨19, [(0, sL 2 c_TInterval a0), (1, .fn 45 [.pp ((ci .u32) a1c0)]), (5, .int .i64 p1), (7, .int .i64 (a0.length : Int)), (8, .int .i64 p1)], []⟩ ?_)))))
 refine then_n (awp_seq ?_)
 obtain ⟨r3, q5, h6⟩ := bind_some h3
 obtain ⟨c7, h8⟩ := gd_some h6
 refine rg [.pure (.bool r3)] [0, 1, 5, 7, 8, 16] 0 ⟨19, [(0, sL 2 c_TInterval a0), (1, .fn 45 [.pp ((ci .u32) a1c0)]), (5, .int .i64 p1), (7, .int .i64 (a0.length : Int)), (8, .int .i64 p1), (16, .bool r3)], []⟩ [decide (0 ≤ p1), decide (p1 < (a0.length : Int))] [⟨true, 45, [.agg (c_TInterval (a0.getD p1.toNat default)), .pp ((ci .u32) a1c0)], .pure (.bool r3)⟩] c7 ⟨fun _ => interval_Has_1_ok (a0.getD p1.toNat default) a1c0 r3 q5, trivial⟩ ?_
 refine then_n ?_
 refine cnd r3 (fun b9 => ?_) (fun b9 => ?_)
 have h10 := cond_t b9 h8
 refine awp_seq (rg0 [4] 0 ⟨19, [(4, .int .i64 p1)], []⟩ ?_)
 refine then_n (awp_ret (inb_r (then_r ?_)))
 obtain rfl := Option.some.inj h10
 exact round_r ⟨rfl, er0 (.int .i64 p1)⟩
 have h11 := cond_f b9 h8
 refine awp_skip (inb_n (then_n (rg0 [0, 1, 7, 8] 0 ⟨19, [(0, sL 2 c_TInterval a0), (1, .fn 45 [.pp ((ci .u32) a1c0)]), (7, .int .i64 (a0.length : Int)), (8, .int .i64 (wr .i64 (p1 + 1)))], []⟩ ?_)))
 obtain rfl := Option.some.inj h11
 exact round_n (le_rfl)
 have h4 := cond_f b2 h1
 refine awp_exit (then_e ?_)
 obtain rfl := Option.some.inj h4
 exact round_e ⟨rfl, kp []⟩
 intro e14 s15 o16
 rcases y4 with g5 | y6
 have h17 := elim_l h13
 obtain ⟨rfl, l19⟩ := o16
 refine inb_here ?_
 refine then_le (s' := ⟨19, [], []⟩) (l19) ?_
 refine awp_seq (rg0 [4] 0 ⟨19, [(4, .int .i64 (-1))], []⟩ ?_)
 refine then_n (awp_ret ?_)
 obtain rfl := Option.some.inj h17
 exact er0 (.int .i64 (-1))
 have h18 := elim_r h13
 obtain ⟨rfl, n20⟩ := o16
 refine inb_r (then_r ?_)
 obtain rfl := Option.some.inj h18
 exact n20
theorem slices_ContainsFunc_api_Interval_api_Interval__interval_Has_1_ok (a0 : List TInterval) (a1c0 : Int) (r : Bool) (h : M.slices_ContainsFunc_api_Interval_api_Interval__interval_Has_1 a0 a1c0 = some r) : Fn Tryd.prog 44 [sL 2 c_TInterval a0, .fn 45 [.pp ((ci .u32) a1c0)]] (.pure (.bool r)) := by
 unfold M.slices_ContainsFunc_api_Interval_api_Interval__interval_Has_1 at h
 refine fn_pure Tryd.func44 rfl (by kernel_rfl) ?_
 refine awp_seq (rg0 [0, 1] 0 ⟨9, [(0, sL 2 c_TInterval a0), (1, .fn 45 [.pp ((ci .u32) a1c0)])], []⟩ ?_)
 refine then_n (awp_seq ?_)
 obtain ⟨r1, q1, h2⟩ := bind_some h
 refine rg [.pure (.int .i64 r1)] [4] 0 ⟨9, [(4, .bool (decide (r1 ≥ 0)))], []⟩ [] [⟨true, 52, [sL 2 c_TInterval a0, .fn 45 [.pp ((ci .u32) a1c0)]], .pure (.int .i64 r1)⟩] nil_all ⟨fun _ => slices_IndexFunc_api_Interval_api_Interval__interval_Has_1_ok a0 a1c0 r1 q1, trivial⟩ ?_
 refine then_n (awp_ret ?_)
 obtain rfl := Option.some.inj h2
 exact er0 (.bool (decide (r1 ≥ 0)))
theorem interval_Has_ok (a0 : List TInterval) (a1 : Int) (r : Bool) (h : M.interval_Has a0 a1 = some r) : Fn Tryd.prog 23 [sL 2 c_TInterval a0, .int .u32 a1] (.pure (.bool r)) := by
 unfold M.interval_Has at h
 refine fn_pure Tryd.func23 rfl (by kernel_rfl) ?_
 refine awp_seq (rg0 [0, 3] 1 ⟨8, [(0, sL 2 c_TInterval a0), (3, .ref 0 0)], [.box [.int .u32 a1]]⟩ ?_)
 refine then_n (awp_seq ?_)
 obtain ⟨r1, q1, h2⟩ := bind_some h
 refine rg [.pure (.bool r1)] [4] 0 ⟨8, [(4, .bool r1)], []⟩ [] [⟨true, 44, [sL 2 c_TInterval a0, .fn 45 [.pp ((ci .u32) a1)]], .pure (.bool r1)⟩] nil_all ⟨fun _ => slices_ContainsFunc_api_Interval_api_Interval__interval_Has_1_ok a0 a1 r1 q1, trivial⟩ ?_
 refine then_n (awp_ret ?_)
 obtain rfl := Option.some.inj h2
 exact er0 (.bool r1)
theorem interval_Size_ok (a0 : List TInterval) (r : Int) (h : M.interval_Size a0 = some r) : Fn Tryd.prog 28 [sL 2 c_TInterval a0] (.pure (.int .u64 r)) := by
 unfold M.interval_Size at h
 refine fn_pure Tryd.func28 rfl (by kernel_rfl) ?_
 refine awp_seq (rg0 [0] 0 ⟨25, [(0, sL 2 c_TInterval a0)], []⟩ ?_)
 refine then_n (awp_seq (rg0 [0, 3] 0 ⟨25, [(0, sL 2 c_TInterval a0), (3, .int .u64 0)], []⟩ ?_))
 refine then_n (awp_seq (awp_seq ?_))
 obtain ⟨r1, q1, h2⟩ := bind_some h
 refine rg [.pure (sL 2 c_TInterval r1)] [3, 7, 8, 9] 0 ⟨25, [(3, .int .u64 0), (7, sL 2 c_TInterval r1), (8, .int .i64 (r1.length : Int)), (9, .int .i64 0)], []⟩ [] [⟨true, 18, [sL 2 c_TInterval a0], .pure (sL 2 c_TInterval r1)⟩] nil_all ⟨fun _ => interval_Normalize_ok a0 r1 q1, trivial⟩ ?_
 refine then_n (awp_block ?_)
 obtain ⟨y4, q9, h10⟩ := bind_some h2
 refine awp_le (s' := ⟨25, [(3, .int .u64 0), (7, sL 2 c_TInterval r1), (8, .int .i64 (r1.length : Int)), (9, .int .i64 0)], []⟩) (le_rfl) ?_
 refine awp_mono (awp_loop (f := M.interval_Size_l1 r1) (S := fun (p2 : Int × Int) => ⟨25, [(3, .int .u64 p2.1), (7, sL 2 c_TInterval r1), (8, .int .i64 (r1.length : Int)), (9, .int .i64 p2.2)], []⟩) (O := (fun z => OutE 0 (fun z => ⟨25, [(3, .int .u64 z)], []⟩) z)) ?_ (x := (0, 0)) (y := y4) (loopM_iter q9)) ?_
 intro p2 y3 h3
 unfold M.interval_Size_l1 at h3
 refine awp_seq (rg0 [3, 7, 8, 9, 10] 0 ⟨25, [(3, .int .u64 p2.1), (7, sL 2 c_TInterval r1), (8, .int .i64 (r1.length : Int)), (9, .int .i64 p2.2), (10, .bool (decide (p2.2 < (r1.length : Int))))], []⟩ ?_)
 refine then_n (awp_seq ?_)
 refine cnd (decide (p2.2 < (r1.length : Int))) (fun b4 => ?_) (fun b4 => ?_)
 have h5 := cond_t b4 h3
 refine awp_skip (then_n (awp_seq (awp_block (awp_seq ?_))))
 obtain ⟨c7, h8⟩ := gd_some h5
 refine rgc [3, 5, 7, 8, 9] 1 ⟨25, [(3, .int .u64 p2.1), (5, .ref 0 0), (7, sL 2 c_TInterval r1), (8, .int .i64 (r1.length : Int)), (9, .int .i64 p2.2)], [.box (c_TInterval (r1.getD p2.2.toNat default))]⟩ [decide (0 ≤ p2.2), decide (p2.2 < (r1.length : Int))] c7 ?_
 refine then_n (rg0 [3, 7, 8, 9] 0 ⟨25, [(3, .int .u64 (wr .u64 (p2.1 + (wr .u64 ((wr .u64 ((wr .u64 ((r1.getD p2.2.toNat default).fHi)) - (wr .u64 ((r1.getD p2.2.toNat default).fLo)))) + 1))))), (7, sL 2 c_TInterval r1), (8, .int .i64 (r1.length : Int)), (9, .int .i64 p2.2)], []⟩ ?_)
 refine inb_n (then_n (rg0 [3, 7, 8, 9] 0 ⟨25, [(3, .int .u64 (wr .u64 (p2.1 + (wr .u64 ((wr .u64 ((wr .u64 ((r1.getD p2.2.toNat default).fHi)) - (wr .u64 ((r1.getD p2.2.toNat default).fLo)))) + 1))))), (7, sL 2 c_TInterval r1), (8, .int .i64 (r1.length : Int)), (9, .int .i64 (wr .i64 (p2.2 + 1)))], []⟩ ?_))
 obtain rfl := Option.some.inj h8
 exact round_n (le_rfl)
 have h6 := cond_f b4 h3
 refine awp_exit (then_e ?_)
 obtain rfl := Option.some.inj h6
 exact round_e ⟨rfl, kp [3]⟩
 intro e11 s12 o13
 obtain ⟨rfl, l14⟩ := o13
 refine inb_here ?_
 refine then_le (s' := ⟨25, [(3, .int .u64 y4)], []⟩) (l14) ?_
 refine awp_seq (rg0 [2] 0 ⟨25, [(2, .int .u64 y4)], []⟩ ?_)
 refine then_n (awp_ret ?_)
 obtain rfl := Option.some.inj h10
 exact er0 (.int .u64 y4)
theorem law3_sane_ok  (r : Bool) (h : M.law3_sane  = some r) : Fn Tryd.prog 17 [] (.pure (.bool r)) := by
 unfold M.law3_sane at h
 refine fn_pure Tryd.func17 rfl (by kernel_rfl) ?_
 refine awp_seq (rg0 [] 0 ⟨37, [], []⟩ ?_)
 refine then_n (awp_seq ?_)
 obtain ⟨r1, q1, h2⟩ := bind_some h
 refine rg [.pure (sL 2 c_TInterval r1)] [1] 0 ⟨37, [(1, sL 2 c_TInterval r1)], []⟩ [] [⟨true, 18, [.sl false 2 3 (fun i => List.take 2 (List.drop (i * 2) [.int .u32 5, .int .u32 9, .int .u32 1, .int .u32 4, .int .u32 20, .int .u32 11]))], .pure (sL 2 c_TInterval r1)⟩] nil_all ⟨fun _ => (interval_Normalize_ok ([(⟨5, 9⟩ : TInterval), (⟨1, 4⟩ : TInterval), (⟨20, 11⟩ : TInterval)] : List TInterval) r1 q1).args (.cons (asub_sl rfl (fun i hi => match i, hi with | 0, _ => rfl | 1, _ => rfl | 2, _ => rfl | n + 3, h => absurd h (by omega))) .nil), trivial⟩ ?_
 refine then_n (awp_seq ?_)
 obtain ⟨r2, q3, h4⟩ := bind_some h2
 obtain ⟨r3, q5, h6⟩ := bind_some h4
 obtain ⟨r4, q7, h8⟩ := bind_some h6
 obtain ⟨r5, q9, h10⟩ := bind_some h8
 obtain ⟨c11, h12⟩ := gd_some h10
 refine rg [.pure (.bool r2), .pure (.bool r3), .pure (.int .u64 r4), .pure (sL 2 c_TPrefix r5)] [0] 0 ⟨37, [(0, .bool (((((((r1.length : Int) == 1) && ((((r1.getD (0 : Int).toNat default).fLo) == 1) && ((((r1.getD (0 : Int).toNat default).fHi) == 9) && true))) && r2) && (!r3)) && (r4 == 9)) && ((r5.length : Int) == 4)))], []⟩ [guardB ((r1.length : Int) == 1) (decide (0 ≤ 0)), guardB ((r1.length : Int) == 1) (decide (0 < (r1.length : Int)))] [⟨((r1.length : Int) == 1) && ((((r1.getD (0 : Int).toNat default).fLo) == 1) && ((((r1.getD (0 : Int).toNat default).fHi) == 9) && true)), 23, [sL 2 c_TInterval r1, .int .u32 5], .pure (.bool r2)⟩, ⟨(((r1.length : Int) == 1) && ((((r1.getD (0 : Int).toNat default).fLo) == 1) && ((((r1.getD (0 : Int).toNat default).fHi) == 9) && true))) && r2, 23, [sL 2 c_TInterval r1, .int .u32 10], .pure (.bool r3)⟩, ⟨((((r1.length : Int) == 1) && ((((r1.getD (0 : Int).toNat default).fLo) == 1) && ((((r1.getD (0 : Int).toNat default).fHi) == 9) && true))) && r2) && (!r3), 28, [sL 2 c_TInterval r1], .pure (.int .u64 r4)⟩, ⟨(((((r1.length : Int) == 1) && ((((r1.getD (0 : Int).toNat default).fLo) == 1) && ((((r1.getD (0 : Int).toNat default).fHi) == 9) && true))) && r2) && (!r3)) && (r4 == 9), 12, [sL 2 c_TInterval r1], .pure (sL 2 c_TPrefix r5)⟩] c11 ⟨fun hg => interval_Has_ok r1 5 r2 (gc_some q3 hg), fun hg => interval_Has_ok r1 10 r3 (gc_some q5 hg), fun hg => interval_Size_ok r1 r4 (gc_some q7 hg), fun hg => interval_Prefixes_ok r1 r5 (gc_some q9 hg), trivial⟩ ?_
 refine then_n (awp_ret ?_)
 obtain rfl := Option.some.inj h12
 exact er0 (.bool (((((((r1.length : Int) == 1) && ((((r1.getD (0 : Int).toNat default).fLo) == 1) && ((((r1.getD (0 : Int).toNat default).fHi) == 9) && true))) && r2) && (!r3)) && (r4 == 9)) && ((r5.length : Int) == 4)))
theorem law3_IntervalPrefixes_ok (a0 : List TInterval) (a1 : Int) (r : Bool) (h : M.law3_IntervalPrefixes a0 a1 = some r) : Fn Tryd.prog 3 [sL 2 c_TInterval a0, .int .u32 a1] (.pure (.bool r)) := by
 unfold M.law3_IntervalPrefixes at h
 refine fn_pure Tryd.func3 rfl (by kernel_rfl) ?_
 refine awp_seq (rg0 [0, 1] 0 ⟨42, [(0, sL 2 c_TInterval a0), (1, .int .u32 a1)], []⟩ ?_)
 refine then_n (awp_seq (awp_seq ?_))
 obtain ⟨r1, q1, h2⟩ := bind_some h
 refine rg [.pure (.bool r1)] [0, 1, 10] 0 ⟨42, [(0, sL 2 c_TInterval a0), (1, .int .u32 a1), (10, .bool (!r1))], []⟩ [] [⟨true, 11, [sL 2 c_TInterval a0, .nils], .pure (.bool r1)⟩] nil_all ⟨fun _ => (law3_few_ok a0 ([] : List TInterval) r1 q1).args (.cons ASub.rfl (.cons asub_nils .nil)), trivial⟩ ?_
 refine then_n ?_
 refine cnd (!r1) (fun b3 => ?_) (fun b3 => ?_)
 have h4 := cond_t b3 h2
 refine awp_seq (rg0 [4] 0 ⟨42, [(4, .bool true)], []⟩ ?_)
 refine then_n (awp_ret (then_r ?_))
 obtain rfl := Option.some.inj h4
 exact er0 (.bool true)
 have h5 := cond_f b3 h2
 refine awp_skip (then_n (awp_seq ?_))
 obtain ⟨r2, q6, h7⟩ := bind_some h5
 refine rg [.pure (sL 2 c_TPrefix r2)] [0, 1, 5] 0 ⟨42, [(0, sL 2 c_TInterval a0), (1, .int .u32 a1), (5, sL 2 c_TPrefix r2)], []⟩ [] [⟨true, 12, [sL 2 c_TInterval a0], .pure (sL 2 c_TPrefix r2)⟩] nil_all ⟨fun _ => interval_Prefixes_ok a0 r2 q6, trivial⟩ ?_
 refine then_n (awp_seq (rg0 [0, 1, 5, 6] 0 ⟨42, [(0, sL 2 c_TInterval a0), (1, .int .u32 a1), (5, sL 2 c_TPrefix r2), (6, .bool false)], []⟩ ?_))
 refine then_n (awp_seq (awp_seq (rg0 [0, 1, 5, 6, 7] 0 ⟨42, [(0, sL 2 c_TInterval a0), (1, .int .u32 a1), (5, sL 2 c_TPrefix r2), (6, .bool false), (7, .int .i64 0)], []⟩ ?_)))
 refine then_n (awp_block ?_)
 obtain ⟨y6, q16, h17⟩ := bind_some h7
 refine awp_le (s' := ⟨42, [(0, sL 2 c_TInterval a0), (1, .int .u32 a1), (5, sL 2 c_TPrefix r2), (6, .bool false), (7, .int .i64 0)], []⟩) (le_rfl) ?_
 refine awp_mono (awp_loop (f := M.law3_IntervalPrefixes_l1 a1 r2) (S := fun (p3 : Bool × Int) => ⟨42, [(0, sL 2 c_TInterval a0), (1, .int .u32 a1), (5, sL 2 c_TPrefix r2), (6, .bool p3.1), (7, .int .i64 p3.2)], []⟩) (O := (fun z => OutE 0 (fun z => ⟨42, [(0, sL 2 c_TInterval a0), (1, .int .u32 a1), (5, sL 2 c_TPrefix r2), (6, .bool z)], []⟩) z)) ?_ (x := (false, 0)) (y := y6) (loopM_iter q16)) ?_
 intro p3 y4 h8
 unfold M.law3_IntervalPrefixes_l1 at h8
 refine awp_seq (awp_seq (rg0 [0, 1, 5, 6, 7, 16] 0 ⟨42, [(0, sL 2 c_TInterval a0), (1, .int .u32 a1), (5, sL 2 c_TPrefix r2), (6, .bool p3.1), (7, .int .i64 p3.2), (16, .bool (decide (p3.2 < (r2.length : Int))))], []⟩ ?_))
 refine then_n ?_
 refine cnd (decide (p3.2 < (r2.length : Int))) (fun b9 => ?_) (fun b9 => ?_)
 have h10 := cond_t b9 h8
 refine awp_skip (then_n (awp_seq (awp_block ?_)))
 obtain ⟨r5, q12, h13⟩ := bind_some h10
 obtain ⟨c14, h15⟩ := gd_some h13
 refine rg [.pure (.bool r5)] [0, 1, 5, 6, 7] 0 ⟨42, [(0, sL 2 c_TInterval a0), (1, .int .u32 a1), (5, sL 2 c_TPrefix r2), (6, .bool (p3.1 || r5)), (7, .int .i64 p3.2)], []⟩ [guardB (!p3.1) (decide (0 ≤ p3.2)), guardB (!p3.1) (decide (p3.2 < (r2.length : Int)))] [⟨(!p3.1), 13, [.agg (c_TPrefix (r2.getD p3.2.toNat default)), .int .u32 a1], .pure (.bool r5)⟩] c14 ⟨fun hg => ref4_Contains_ok (r2.getD p3.2.toNat default) a1 r5 (gc_some q12 hg), trivial⟩ ?_
 refine inb_n (then_n (rg0 [0, 1, 5, 6, 7] 0 ⟨42, [(0, sL 2 c_TInterval a0), (1, .int .u32 a1), (5, sL 2 c_TPrefix r2), (6, .bool (p3.1 || r5)), (7, .int .i64 (wr .i64 (p3.2 + 1)))], []⟩ ?_))
 obtain rfl := Option.some.inj h15
 exact round_n (le_rfl)
 have h11 := cond_f b9 h8
 refine awp_exit (then_e ?_)
 obtain rfl := Option.some.inj h11
 exact round_e ⟨rfl, kp [0, 1, 5, 6]⟩
 intro e18 s19 o20
 obtain ⟨rfl, l21⟩ := o20
 refine inb_here ?_
 refine then_le (s' := ⟨42, [(0, sL 2 c_TInterval a0), (1, .int .u32 a1), (5, sL 2 c_TPrefix r2), (6, .bool y6)], []⟩) (l21) ?_
 refine awp_seq ?_
 obtain ⟨r7, q22, h23⟩ := bind_some h17
 obtain ⟨r8, q24, h25⟩ := bind_some h23
 obtain ⟨r9, q26, h27⟩ := bind_some h25
 obtain ⟨r10, q28, h29⟩ := bind_some h27
 refine rg [.pure (sL 2 c_TPrefix r7), .pure (.bool r8), .pure (.bool r9), .pure (.bool r10)] [4] 0 ⟨42, [(4, .bool ((r8 && (y6 == r9)) && r10))], []⟩ [] [⟨true, 15, [sL 2 c_TInterval a0], .pure (sL 2 c_TPrefix r7)⟩, ⟨true, 14, [sL 2 c_TPrefix r2, sL 2 c_TPrefix r7], .pure (.bool r8)⟩, ⟨r8, 16, [sL 2 c_TInterval a0, .int .u32 a1], .pure (.bool r9)⟩, ⟨r8 && (y6 == r9), 17, [], .pure (.bool r10)⟩] nil_all ⟨fun _ => ref4_Prefixes_ok a0 r7 q22, fun _ => keep_Prefixes_ok r2 r7 r8 q24, fun hg => ref4_Has_ok a0 a1 r9 (gc_some q26 hg), fun hg => law3_sane_ok  r10 (gc_some q28 hg), trivial⟩ ?_
 refine then_n (awp_ret ?_)
 obtain rfl := Option.some.inj h29
 exact er0 (.bool ((r8 && (y6 == r9)) && r10))
end Nv
