/- The walks: each function computes its mirror. -/
import Derived.Test.YtenfloomkjecjaaGreatProg
import Derived.Test.YtenfloomkjecjaaGreatNvD1
import Derived.Test.YtenfloomkjecjaaGreatNvLibC
import Derived.KernelRfl
import Derived.Ground.SlsfProg
import Derived.Shelf.Lay
import Derived.Test.YtenfloomkjecjaaGreatNvLibB
import Derived.Test.YtenfloomkjecjaaGreatNvLibD
set_option maxRecDepth 100000
namespace Nv
open Go Go.Proofs
theorem ref4_Mask_ok (a0 : Int) (r : Int) (h : M.ref4_Mask a0 = some r) : Fn Tryz.prog 78 [.int .i64 a0] (.pure (.int .u32 r)) := by
 unfold M.ref4_Mask at h
 refine fn_pure Tryz.func78 rfl (by kernel_rfl) ?_
 refine awp_seq (rg0 [0] 0 ⟨19, [(0, .int .i64 a0)], []⟩ ?_)
 refine then_n (awp_seq (rg0 [0, 3] 0 ⟨19, [(0, .int .i64 a0), (3, .int .u32 0)], []⟩ ?_))
 refine then_n (awp_seq (awp_seq (rg0 [0, 3, 4] 0 ⟨19, [(0, .int .i64 a0), (3, .int .u32 0), (4, .int .i64 0)], []⟩ ?_)))
 refine then_n (awp_block ?_)
 obtain ⟨y4, q12, h13⟩ := bind_some h
 refine awp_le (s' := ⟨19, [(0, .int .i64 a0), (3, .int .u32 0), (4, .int .i64 0)], []⟩) (le_rfl) ?_
 refine awp_mono (awp_loop (f := M.ref4_Mask_l1 a0) (S := fun (p1 : Int × Int) => ⟨19, [(0, .int .i64 a0), (3, .int .u32 p1.1), (4, .int .i64 p1.2)], []⟩) (O := (fun z => OutE 0 (fun z => ⟨19, [(3, .int .u32 z)], []⟩) z)) ?_ (x := (0, 0)) (y := y4) (loopM_iter q12)) ?_
 intro p1 y2 h1
 unfold M.ref4_Mask_l1 at h1
 refine awp_seq (awp_seq (rg0 [0, 3, 4, 6] 0 ⟨19, [(0, .int .i64 a0), (3, .int .u32 p1.1), (4, .int .i64 p1.2), (6, .bool (decide (p1.2 < 32)))], []⟩ ?_))
 refine then_n ?_
 refine cnd (decide (p1.2 < 32)) (fun b2 => ?_) (fun b2 => ?_)
 have h3 := cond_t b2 h1
 refine awp_skip (then_n ?_)
 refine awp_join (fun (p3 : Int) => ⟨19, [(0, .int .i64 a0), (3, .int .u32 p3), (4, .int .i64 p1.2)], []⟩) (fun p3 => M.ref4_Mask_k1 p1 p3 = some y2) ?_ ?_
 intro p3 h6
 unfold M.ref4_Mask_k1 at h6
 refine rg0 [0, 3, 4] 0 ⟨19, [(0, .int .i64 a0), (3, .int .u32 p3), (4, .int .i64 (wr .i64 (p1.2 + 1)))], []⟩ ?_
 obtain rfl := Option.some.inj h6
 exact round_n (le_rfl)
 intro k5
 refine awp_block (awp_seq (rg0 [0, 3, 4, 11] 0 ⟨19, [(0, .int .i64 a0), (3, .int .u32 p1.1), (4, .int .i64 p1.2), (11, .bool (decide (p1.2 < a0)))], []⟩ ?_))
 refine then_n ?_
 refine cnd (decide (p1.2 < a0)) (fun b7 => ?_) (fun b7 => ?_)
 have h8 := cond_t b7 h3
 obtain ⟨c10, h11⟩ := gd_some h8
 refine rgc [0, 3, 4] 0 ⟨19, [(0, .int .i64 a0), (3, .int .u32 (bitD .or .u32 p1.1 (wr .u32 (1 * 2 ^ min (wr .u64 (wr .i64 (31 - p1.2))).toNat 32)))), (4, .int .i64 p1.2)], []⟩ [decide (0 ≤ (wr .u64 (wr .i64 (31 - p1.2))))] c10 ?_
 refine inb_n ?_
 exact then_le (le_rfl) (k5 (bitD .or .u32 p1.1 (wr .u32 (1 * 2 ^ min (wr .u64 (wr .i64 (31 - p1.2))).toNat 32))) h11)
 have h9 := cond_f b7 h3
 refine awp_skip (inb_n ?_)
 exact then_le (kp [0, 3, 4]) (k5 p1.1 h9)
 have h4 := cond_f b2 h1
 refine awp_exit (then_e ?_)
 obtain rfl := Option.some.inj h4
 exact round_e ⟨rfl, kp [3]⟩
 intro e14 s15 o16
 obtain ⟨rfl, l17⟩ := o16
 refine inb_here ?_
 refine then_le (s' := ⟨19, [(3, .int .u32 y4)], []⟩) (l17) ?_
 refine awp_seq (rg0 [2] 0 ⟨19, [(2, .int .u32 y4)], []⟩ ?_)
 refine then_n (awp_ret ?_)
 obtain rfl := Option.some.inj h13
 exact er0 (.int .u32 y4)
theorem ref4_Valid_ok (a0 : TPrefix) (r : Bool) (h : M.ref4_Valid a0 = some r) : Fn Tryz.prog 44 [.agg (c_TPrefix a0)] (.pure (.bool r)) := by
 unfold M.ref4_Valid at h
 refine fn_pure Tryz.func44 rfl (by kernel_rfl) ?_
 refine awp_seq (rg0 [1] 1 ⟨20, [(1, .ref 0 0)], [.box (c_TPrefix a0)]⟩ ?_)
 refine then_n (awp_seq ?_)
 obtain ⟨r1, q1, h2⟩ := bind_some h
 refine rg [.pure (.int .u32 r1)] [2] 0 ⟨20, [(2, .bool (((decide (a0.fLen ≥ 0)) && (decide (a0.fLen ≤ 32))) && ((bitD .andNot .u32 a0.fAddr r1) == 0)))], []⟩ [] [⟨(decide (a0.fLen ≥ 0)) && (decide (a0.fLen ≤ 32)), 78, [.int .i64 a0.fLen], .pure (.int .u32 r1)⟩] nil_all ⟨fun hg => ref4_Mask_ok a0.fLen r1 (gc_some q1 hg), trivial⟩ ?_
 refine then_n (awp_ret ?_)
 obtain rfl := Option.some.inj h2
 exact er0 (.bool (((decide (a0.fLen ≥ 0)) && (decide (a0.fLen ≤ 32))) && ((bitD .andNot .u32 a0.fAddr r1) == 0)))
theorem ref4_Compare_ok (a0 : TPrefix) (a1 : TPrefix) (r : Int) (h : M.ref4_Compare a0 a1 = some r) : Fn Tryz.prog 29 [.agg (c_TPrefix a0), .agg (c_TPrefix a1)] (.pure (.int .i64 r)) := by
 unfold M.ref4_Compare at h
 refine fn_pure Tryz.func29 rfl (by kernel_rfl) ?_
 refine awp_seq (rg0 [2, 3] 2 ⟨27, [(2, .ref 0 0), (3, .ref 1 0)], [.box (c_TPrefix a0), .box (c_TPrefix a1)]⟩ ?_)
 refine then_n (awp_seq (awp_seq (rg0 [2, 3, 23] 2 ⟨27, [(2, .ref 0 0), (3, .ref 1 0), (23, .bool ((decide (a0.fAddr < a1.fAddr)) || ((a0.fAddr == a1.fAddr) && (decide (a0.fLen < a1.fLen)))))], [.box (c_TPrefix a0), .box (c_TPrefix a1)]⟩ ?_)))
 refine then_n ?_
 refine cnd ((decide (a0.fAddr < a1.fAddr)) || ((a0.fAddr == a1.fAddr) && (decide (a0.fLen < a1.fLen)))) (fun b1 => ?_) (fun b1 => ?_)
 have h2 := cond_t b1 h
 refine awp_seq (rg0 [4] 0 ⟨27, [(4, .int .i64 (-1))], []⟩ ?_)
 refine then_n (awp_ret (then_r ?_))
 obtain rfl := Option.some.inj h2
 exact er0 (.int .i64 (-1))
 have h3 := cond_f b1 h
 refine awp_skip (then_n (awp_seq (awp_seq (rg0 [26] 0 ⟨27, [(26, .bool ((a0.fAddr == a1.fAddr) && ((a0.fLen == a1.fLen) && true)))], []⟩ ?_))))
 refine then_n ?_
 refine cnd ((a0.fAddr == a1.fAddr) && ((a0.fLen == a1.fLen) && true)) (fun b4 => ?_) (fun b4 => ?_)
 have h5 := cond_t b4 h3
 refine awp_seq (rg0 [4] 0 ⟨27, [(4, .int .i64 0)], []⟩ ?_)
 refine then_n (awp_ret (then_r ?_))
 obtain rfl := Option.some.inj h5
 exact er0 (.int .i64 0)
 have h6 := cond_f b4 h3
 refine awp_skip (then_n (awp_seq (rg0 [4] 0 ⟨27, [(4, .int .i64 1)], []⟩ ?_)))
 refine then_n (awp_ret ?_)
 obtain rfl := Option.some.inj h6
 exact er0 (.int .i64 1)
theorem law24_right_ok (a0 : List TForward) (r : Bool) (h : M.law24_right a0 = some r) : Fn Tryz.prog 19 [sL 4 c_TForward a0] (.pure (.bool r)) := by
 unfold M.law24_right at h
 refine fn_pure Tryz.func19 rfl (by kernel_rfl) ?_
 refine awp_seq (rg0 [0] 0 ⟨48, [(0, sL 4 c_TForward a0)], []⟩ ?_)
 refine then_n (awp_seq (awp_seq (rg0 [0, 6] 0 ⟨48, [(0, sL 4 c_TForward a0), (6, .bool (decide ((a0.length : Int) > 40)))], []⟩ ?_)))
 refine then_n ?_
 refine cnd (decide ((a0.length : Int) > 40)) (fun b1 => ?_) (fun b1 => ?_)
 have h2 := cond_t b1 h
 refine awp_seq (rg0 [2] 0 ⟨48, [(2, .bool false)], []⟩ ?_)
 refine then_n (awp_ret (then_r ?_))
 obtain rfl := Option.some.inj h2
 exact er0 (.bool false)
 have h3 := cond_f b1 h
 refine awp_skip (then_n (awp_seq (awp_seq (rg0 [0, 3] 0 ⟨48, [(0, sL 4 c_TForward a0), (3, .int .i64 0)], []⟩ ?_))))
 refine then_n (awp_block ?_)
 obtain ⟨y5, q17, h18⟩ := bind_some h3
 refine awp_le (s' := ⟨48, [(0, sL 4 c_TForward a0), (3, .int .i64 0)], []⟩) (le_rfl) ?_
 refine awp_mono (awp_loop (f := M.law24_right_l1 a0) (S := fun (p1 : Int) => ⟨48, [(0, sL 4 c_TForward a0), (3, .int .i64 p1)], []⟩) (O := (Sum.elim (fun z => OutE 0 (fun z => ⟨48, [], []⟩) z) (fun z => OutR Tryz.prog Tryz.f19 (.bool z)))) ?_ (x := 0) (y := y5) (loopM_iter q17)) ?_
 intro p1 y2 h4
 unfold M.law24_right_l1 at h4
 refine awp_seq (awp_seq (rg0 [0, 3, 10] 0 ⟨48, [(0, sL 4 c_TForward a0), (3, .int .i64 p1), (10, .bool (decide (p1 < (a0.length : Int))))], []⟩ ?_))
 refine then_n ?_
 refine cnd (decide (p1 < (a0.length : Int))) (fun b5 => ?_) (fun b5 => ?_)
 have h6 := cond_t b5 h4
 refine awp_skip (then_n (awp_seq (awp_block (awp_seq ?_))))
 obtain ⟨r3, q8, h9⟩ := bind_some h6
 obtain ⟨r4, q10, h11⟩ := bind_some h9
 obtain ⟨c12, h13⟩ := gd_some h11
 refine rg [.pure (.bool r3), .pure (.int .i64 r4)] [0, 3, 47] 0 ⟨48, [(0, sL 4 c_TForward a0), (3, .int .i64 p1), (47, .bool (((!r3) || (decide ((((a0.getD p1.toNat default).fHops).length : Int) > 10))) || ((decide (p1 > 0)) && (decide (r4 ≥ 0)))))], []⟩ [decide (0 ≤ p1), decide (p1 < (a0.length : Int)), guardB (!(!r3)) (decide (0 ≤ p1)), guardB (!(!r3)) (decide (p1 < (a0.length : Int))), guardB ((!((!r3) || (decide ((((a0.getD p1.toNat default).fHops).length : Int) > 10)))) && (decide (p1 > 0))) (decide (0 ≤ (wr .i64 (p1 - 1)))), guardB ((!((!r3) || (decide ((((a0.getD p1.toNat default).fHops).length : Int) > 10)))) && (decide (p1 > 0))) (decide ((wr .i64 (p1 - 1)) < (a0.length : Int))), guardB ((!((!r3) || (decide ((((a0.getD p1.toNat default).fHops).length : Int) > 10)))) && (decide (p1 > 0))) (decide (0 ≤ p1)), guardB ((!((!r3) || (decide ((((a0.getD p1.toNat default).fHops).length : Int) > 10)))) && (decide (p1 > 0))) (decide (p1 < (a0.length : Int)))] [⟨true, 44, [.agg (c_TPrefix ((a0.getD p1.toNat default).fPrefix))], .pure (.bool r3)⟩, ⟨((!((!r3) || (decide ((((a0.getD p1.toNat default).fHops).length : Int) > 10)))) && (decide (p1 > 0))), 29, [.agg (c_TPrefix ((a0.getD (wr .i64 (p1 - 1)).toNat default).fPrefix)), .agg (c_TPrefix ((a0.getD p1.toNat default).fPrefix))], .pure (.int .i64 r4)⟩] c12 ⟨fun _ => ref4_Valid_ok ((a0.getD p1.toNat default).fPrefix) r3 q8, fun hg => ref4_Compare_ok ((a0.getD (wr .i64 (p1 - 1)).toNat default).fPrefix) ((a0.getD p1.toNat default).fPrefix) r4 (gc_some q10 hg), trivial⟩ ?_
 refine then_n ?_
 refine cnd (((!r3) || (decide ((((a0.getD p1.toNat default).fHops).length : Int) > 10))) || ((decide (p1 > 0)) && (decide (r4 ≥ 0)))) (fun b14 => ?_) (fun b14 => ?_)
 have h15 := cond_t b14 h13
 refine awp_seq (rg0 [2] 0 ⟨48, [(2, .bool false)], []⟩ ?_)
 refine then_n (awp_ret (inb_r (then_r ?_)))
 obtain rfl := Option.some.inj h15
 exact round_r ⟨rfl, er0 (.bool false)⟩
 have h16 := cond_f b14 h13
 refine awp_skip (inb_n (then_n (rg0 [0, 3] 0 ⟨48, [(0, sL 4 c_TForward a0), (3, .int .i64 (wr .i64 (p1 + 1)))], []⟩ ?_)))
 obtain rfl := Option.some.inj h16
 exact round_n (le_rfl)
 have h7 := cond_f b5 h4
 refine awp_exit (then_e ?_)
 obtain rfl := Option.some.inj h7
 exact round_e ⟨rfl, kp []⟩
 intro e19 s20 o21
 rcases y5 with g6 | y7
 have h22 := elim_l h18
 obtain ⟨rfl, l24⟩ := o21
 refine inb_here ?_
 refine then_le (s' := ⟨48, [], []⟩) (l24) ?_
 refine awp_seq (rg0 [2] 0 ⟨48, [(2, .bool true)], []⟩ ?_)
 refine then_n (awp_ret ?_)
 obtain rfl := Option.some.inj h22
 exact er0 (.bool true)
 have h23 := elim_r h18
 obtain ⟨rfl, n25⟩ := o21
 refine inb_r (then_r ?_)
 obtain rfl := Option.some.inj h23
 exact n25
theorem addr_clamp_ok (a0 : Int) (r : Int) (h : M.addr_clamp a0 = some r) : Fn Tryz.prog 105 [.int .i64 a0] (.pure (.int .i64 r)) := by
 unfold M.addr_clamp at h
 refine fn_pure Tryz.func105 rfl (by kernel_rfl) ?_
 refine awp_seq (rg0 [0] 0 ⟨6, [(0, .int .i64 a0)], []⟩ ?_)
 refine then_n (awp_seq (rg0 [2] 0 ⟨6, [(2, .int .i64 (if (if 32 < a0 then 32 else a0) > 0 then (if 32 < a0 then 32 else a0) else 0))], []⟩ ?_))
 refine then_n (awp_ret ?_)
 obtain rfl := Option.some.inj h
 exact er0 (.int .i64 (if (if 32 < a0 then 32 else a0) > 0 then (if 32 < a0 then 32 else a0) else 0))
theorem addr_Mask_ok (a0 : Int) (r : Int) (h : M.addr_Mask a0 = some r) : Fn Tryz.prog 79 [.int .i64 a0] (.pure (.int .u32 r)) := by
 unfold M.addr_Mask at h
 refine fn_pure Tryz.func79 rfl (by kernel_rfl) ?_
 refine awp_seq (rg0 [0] 0 ⟨7, [(0, .int .i64 a0)], []⟩ ?_)
 refine then_n (awp_seq ?_)
 obtain ⟨r1, q1, h2⟩ := bind_some h
 obtain ⟨c3, h4⟩ := gd_some h2
 refine rg [.pure (.int .i64 r1)] [2] 0 ⟨7, [(2, .int .u32 (wr .u32 (4294967295 * 2 ^ min (wr .i64 (32 - r1)).toNat 32)))], []⟩ [decide (0 ≤ (wr .i64 (32 - r1)))] [⟨true, 105, [.int .i64 a0], .pure (.int .i64 r1)⟩] c3 ⟨fun _ => addr_clamp_ok a0 r1 q1, trivial⟩ ?_
 refine then_n (awp_ret ?_)
 obtain rfl := Option.some.inj h4
 exact er0 (.int .u32 (wr .u32 (4294967295 * 2 ^ min (wr .i64 (32 - r1)).toNat 32)))
theorem addr_Contains_ok (a0 : TPrefix) (a1 : Int) (r : Bool) (h : M.addr_Contains a0 a1 = some r) : Fn Tryz.prog 45 [.agg (c_TPrefix a0), .int .u32 a1] (.pure (.bool r)) := by
 unfold M.addr_Contains at h
 refine fn_pure Tryz.func45 rfl (by kernel_rfl) ?_
 refine awp_seq (rg0 [1, 2] 1 ⟨13, [(1, .int .u32 a1), (2, .ref 0 0)], [.box (c_TPrefix a0)]⟩ ?_)
 refine then_n (awp_seq ?_)
 obtain ⟨r1, q1, h2⟩ := bind_some h
 refine rg [.pure (.int .u32 r1)] [4] 0 ⟨13, [(4, .bool ((bitD .and .u32 a1 r1) == a0.fAddr))], []⟩ [] [⟨true, 79, [.int .i64 a0.fLen], .pure (.int .u32 r1)⟩] nil_all ⟨fun _ => addr_Mask_ok a0.fLen r1 q1, trivial⟩ ?_
 refine then_n (awp_ret ?_)
 obtain rfl := Option.some.inj h2
 exact er0 (.bool ((bitD .and .u32 a1 r1) == a0.fAddr))
theorem addr_Covers_ok (a0 : TPrefix) (a1 : TPrefix) (r : Bool) (h : M.addr_Covers a0 a1 = some r) : Fn Tryz.prog 82 [.agg (c_TPrefix a0), .agg (c_TPrefix a1)] (.pure (.bool r)) := by
 unfold M.addr_Covers at h
 refine fn_pure Tryz.func82 rfl (by kernel_rfl) ?_
 refine awp_seq (rg0 [2, 3] 2 ⟨16, [(2, .ref 0 0), (3, .ref 1 0)], [.box (c_TPrefix a0), .box (c_TPrefix a1)]⟩ ?_)
 refine then_n (awp_seq ?_)
 obtain ⟨r1, q1, h2⟩ := bind_some h
 refine rg [.pure (.bool r1)] [4] 0 ⟨16, [(4, .bool ((decide (a0.fLen ≤ a1.fLen)) && r1))], []⟩ [] [⟨decide (a0.fLen ≤ a1.fLen), 45, [.agg (c_TPrefix a0), .int .u32 a1.fAddr], .pure (.bool r1)⟩] nil_all ⟨fun hg => addr_Contains_ok a0 a1.fAddr r1 (gc_some q1 hg), trivial⟩ ?_
 refine then_n (awp_ret ?_)
 obtain rfl := Option.some.inj h2
 exact er0 (.bool ((decide (a0.fLen ≤ a1.fLen)) && r1))
theorem fib_parent_ok (a0 : List TForward) (a1 : Int) (r : Int) (h : M.fib_parent a0 a1 = some r) : Fn Tryz.prog 50 [sL 4 c_TForward a0, .int .i64 a1] (.pure (.int .i64 r)) := by
 unfold M.fib_parent at h
 refine fn_pure Tryz.func50 rfl (by kernel_rfl) ?_
 refine awp_seq (rg0 [0, 1] 0 ⟨53, [(0, sL 4 c_TForward a0), (1, .int .i64 a1)], []⟩ ?_)
 refine then_n (awp_seq (rg0 [0, 1, 5] 0 ⟨53, [(0, sL 4 c_TForward a0), (1, .int .i64 a1), (5, .int .i64 (-1))], []⟩ ?_))
 refine then_n (awp_seq (awp_seq (rg0 [0, 1, 5, 8, 9, 10] 0 ⟨53, [(0, sL 4 c_TForward a0), (1, .int .i64 a1), (5, .int .i64 (-1)), (8, sL 4 c_TForward a0), (9, .int .i64 (a0.length : Int)), (10, .int .i64 0)], []⟩ ?_)))
 refine then_n (awp_block ?_)
 obtain ⟨y5, q21, h22⟩ := bind_some h
 refine awp_le (s' := ⟨53, [(0, sL 4 c_TForward a0), (1, .int .i64 a1), (5, .int .i64 (-1)), (8, sL 4 c_TForward a0), (9, .int .i64 (a0.length : Int)), (10, .int .i64 0)], []⟩) (le_rfl) ?_
 refine awp_mono (awp_loop (f := M.fib_parent_l1 a0 a1) (S := fun (p1 : Int × Int) => ⟨53, [(0, sL 4 c_TForward a0), (1, .int .i64 a1), (5, .int .i64 p1.1), (8, sL 4 c_TForward a0), (9, .int .i64 (a0.length : Int)), (10, .int .i64 p1.2)], []⟩) (O := (fun z => OutE 0 (fun z => ⟨53, [(5, .int .i64 z)], []⟩) z)) ?_ (x := ((-1), 0)) (y := y5) (loopM_iter q21)) ?_
 intro p1 y2 h1
 unfold M.fib_parent_l1 at h1
 refine awp_seq (rg0 [0, 1, 5, 8, 9, 10, 11] 0 ⟨53, [(0, sL 4 c_TForward a0), (1, .int .i64 a1), (5, .int .i64 p1.1), (8, sL 4 c_TForward a0), (9, .int .i64 (a0.length : Int)), (10, .int .i64 p1.2), (11, .bool (decide (p1.2 < (a0.length : Int))))], []⟩ ?_)
 refine then_n (awp_seq ?_)
 refine cnd (decide (p1.2 < (a0.length : Int))) (fun b2 => ?_) (fun b2 => ?_)
 have h3 := cond_t b2 h1
 refine awp_skip (then_n ?_)
 refine awp_join (fun (p3 : Int) => ⟨53, [(0, sL 4 c_TForward a0), (1, .int .i64 a1), (5, .int .i64 p3), (8, sL 4 c_TForward a0), (9, .int .i64 (a0.length : Int)), (10, .int .i64 p1.2)], []⟩) (fun p3 => M.fib_parent_k1 p1 p3 = some y2) ?_ ?_
 intro p3 h6
 unfold M.fib_parent_k1 at h6
 refine rg0 [0, 1, 5, 8, 9, 10] 0 ⟨53, [(0, sL 4 c_TForward a0), (1, .int .i64 a1), (5, .int .i64 p3), (8, sL 4 c_TForward a0), (9, .int .i64 (a0.length : Int)), (10, .int .i64 (wr .i64 (p1.2 + 1)))], []⟩ ?_
 obtain rfl := Option.some.inj h6
 exact round_n (le_rfl)
 intro k5
 refine awp_block (awp_seq ?_)
 obtain ⟨c7, h8⟩ := gd_some h3
 refine rgc [0, 1, 5, 6, 7, 8, 9, 10] 1 ⟨53, [(0, sL 4 c_TForward a0), (1, .int .i64 a1), (5, .int .i64 p1.1), (6, .int .i64 p1.2), (7, .ref 0 0), (8, sL 4 c_TForward a0), (9, .int .i64 (a0.length : Int)), (10, .int .i64 p1.2)], [.box (c_TForward (a0.getD p1.2.toNat default))]⟩ [decide (0 ≤ p1.2), decide (p1.2 < (a0.length : Int))] c7 ?_
 refine then_n (awp_seq (awp_seq ?_))
 obtain ⟨r4, q9, h10⟩ := bind_some h8
 obtain ⟨c11, h12⟩ := gd_some h10
 refine rg [.pure (.bool r4)] [0, 1, 5, 6, 7, 8, 9, 10, 35] 1 ⟨53, [(0, sL 4 c_TForward a0), (1, .int .i64 a1), (5, .int .i64 p1.1), (6, .int .i64 p1.2), (7, .ref 0 0), (8, sL 4 c_TForward a0), (9, .int .i64 (a0.length : Int)), (10, .int .i64 p1.2), (35, .bool ((decide ((((a0.getD p1.2.toNat default).fPrefix).fLen) ≥ (((a0.getD a1.toNat default).fPrefix).fLen))) || (!r4)))], [.box (c_TForward (a0.getD p1.2.toNat default))]⟩ [decide (0 ≤ a1), decide (a1 < (a0.length : Int)), guardB (!(decide ((((a0.getD p1.2.toNat default).fPrefix).fLen) ≥ (((a0.getD a1.toNat default).fPrefix).fLen)))) (decide (0 ≤ a1)), guardB (!(decide ((((a0.getD p1.2.toNat default).fPrefix).fLen) ≥ (((a0.getD a1.toNat default).fPrefix).fLen)))) (decide (a1 < (a0.length : Int)))] [⟨(!(decide ((((a0.getD p1.2.toNat default).fPrefix).fLen) ≥ (((a0.getD a1.toNat default).fPrefix).fLen)))), 82, [.agg (c_TPrefix ((a0.getD p1.2.toNat default).fPrefix)), .agg (c_TPrefix ((a0.getD a1.toNat default).fPrefix))], .pure (.bool r4)⟩] c11 ⟨fun hg => addr_Covers_ok ((a0.getD p1.2.toNat default).fPrefix) ((a0.getD a1.toNat default).fPrefix) r4 (gc_some q9 hg), trivial⟩ ?_
 refine then_n ?_
 refine cnd ((decide ((((a0.getD p1.2.toNat default).fPrefix).fLen) ≥ (((a0.getD a1.toNat default).fPrefix).fLen))) || (!r4)) (fun b13 => ?_) (fun b13 => ?_)
 have h14 := cond_t b13 h12
 refine awp_exit (then_e (inb_here ?_))
 exact then_le (Le.trans (s' := ⟨53, [(0, sL 4 c_TForward a0), (1, .int .i64 a1), (5, .int .i64 p1.1), (8, sL 4 c_TForward a0), (9, .int .i64 (a0.length : Int)), (10, .int .i64 p1.2)], [.box (c_TForward (a0.getD p1.2.toNat default))]⟩) (kp [0, 1, 5, 8, 9, 10]) (le_cut (n := 0) (by kernel_rfl))) (k5 p1.1 h14)
 have h15 := cond_f b13 h12
 refine awp_skip (then_n (awp_seq ?_))
 obtain ⟨c16, h17⟩ := gd_some h15
 refine rgc [0, 1, 5, 6, 8, 9, 10, 49] 0 ⟨53, [(0, sL 4 c_TForward a0), (1, .int .i64 a1), (5, .int .i64 p1.1), (6, .int .i64 p1.2), (8, sL 4 c_TForward a0), (9, .int .i64 (a0.length : Int)), (10, .int .i64 p1.2), (49, .bool ((decide (p1.1 < 0)) || (decide ((((a0.getD p1.2.toNat default).fPrefix).fLen) > (((a0.getD p1.1.toNat default).fPrefix).fLen)))))], []⟩ [guardB (!(decide (p1.1 < 0))) (decide (0 ≤ p1.1)), guardB (!(decide (p1.1 < 0))) (decide (p1.1 < (a0.length : Int)))] c16 ?_
 refine then_n ?_
 refine cnd ((decide (p1.1 < 0)) || (decide ((((a0.getD p1.2.toNat default).fPrefix).fLen) > (((a0.getD p1.1.toNat default).fPrefix).fLen)))) (fun b18 => ?_) (fun b18 => ?_)
 have h19 := cond_t b18 h17
 refine rg0 [0, 1, 5, 8, 9, 10] 0 ⟨53, [(0, sL 4 c_TForward a0), (1, .int .i64 a1), (5, .int .i64 p1.2), (8, sL 4 c_TForward a0), (9, .int .i64 (a0.length : Int)), (10, .int .i64 p1.2)], []⟩ ?_
 refine inb_n ?_
 exact then_le (le_rfl) (k5 p1.2 h19)
 have h20 := cond_f b18 h17
 refine awp_skip (inb_n ?_)
 exact then_le (kp [0, 1, 5, 8, 9, 10]) (k5 p1.1 h20)
 have h4 := cond_f b2 h1
 refine awp_exit (then_e ?_)
 obtain rfl := Option.some.inj h4
 exact round_e ⟨rfl, kp [5]⟩
 intro e23 s24 o25
 obtain ⟨rfl, l26⟩ := o25
 refine inb_here ?_
 refine then_le (s' := ⟨53, [(5, .int .i64 y5)], []⟩) (l26) ?_
 refine awp_seq (rg0 [4] 0 ⟨53, [(4, .int .i64 y5)], []⟩ ?_)
 refine then_n (awp_ret ?_)
 obtain rfl := Option.some.inj h22
 exact er0 (.int .i64 y5)
theorem slices_Equal_api_Hop_api_Hop_ok (a0 : List THop) (a1 : List THop) (r : Bool) (h : M.slices_Equal_api_Hop_api_Hop a0 a1 = some r) : Fn Tryz.prog 51 [sL 2 c_THop a0, sL 2 c_THop a1] (.pure (.bool r)) := by
 unfold M.slices_Equal_api_Hop_api_Hop at h
 refine fn_pure Tryz.func51 rfl (by kernel_rfl) ?_
 refine awp_seq (rg0 [0, 1] 0 ⟨26, [(0, sL 2 c_THop a0), (1, sL 2 c_THop a1)], []⟩ ?_)
 refine then_n (awp_seq (awp_seq (rg0 [0, 1, 10] 0 ⟨26, [(0, sL 2 c_THop a0), (1, sL 2 c_THop a1), (10, .bool ((a0.length : Int) != (a1.length : Int)))], []⟩ ?_)))
 refine then_n ?_
 refine cnd ((a0.length : Int) != (a1.length : Int)) (fun b1 => ?_) (fun b1 => ?_)
 have h2 := cond_t b1 h
 refine awp_seq (rg0 [4] 0 ⟨26, [(4, .bool false)], []⟩ ?_)
 refine then_n (awp_ret (then_r ?_))
 obtain rfl := Option.some.inj h2
 exact er0 (.bool false)
 have h3 := cond_f b1 h
 refine awp_skip (then_n (awp_seq (awp_seq (rg0 [0, 1, 12, 13] 0 ⟨26, [(0, sL 2 c_THop a0), (1, sL 2 c_THop a1), (12, .int .i64 (a0.length : Int)), (13, .int .i64 0)], []⟩ ?_))))
 refine then_n (awp_block ?_)
 obtain ⟨y3, q13, h14⟩ := bind_some h3
 refine awp_le (s' := ⟨26, [(0, sL 2 c_THop a0), (1, sL 2 c_THop a1), (12, .int .i64 (a0.length : Int)), (13, .int .i64 0)], []⟩) (le_rfl) ?_
 refine awp_mono (awp_loop (f := M.slices_Equal_api_Hop_api_Hop_l1 a0 a1) (S := fun (p1 : Int) => ⟨26, [(0, sL 2 c_THop a0), (1, sL 2 c_THop a1), (12, .int .i64 (a0.length : Int)), (13, .int .i64 p1)], []⟩) (O := (Sum.elim (fun z => OutE 0 (fun z => ⟨26, [], []⟩) z) (fun z => OutR Tryz.prog Tryz.f51 (.bool z)))) ?_ (x := 0) (y := y3) (loopM_iter q13)) ?_
 intro p1 y2 h4
 unfold M.slices_Equal_api_Hop_api_Hop_l1 at h4
 refine awp_seq (rg0 [0, 1, 12, 13, 14] 0 ⟨26, [(0, sL 2 c_THop a0), (1, sL 2 c_THop a1), (12, .int .i64 (a0.length : Int)), (13, .int .i64 p1), (14, .bool (decide (p1 < (a0.length : Int))))], []⟩ ?_)
 refine then_n (awp_seq ?_)
 refine cnd (decide (p1 < (a0.length : Int))) (fun b5 => ?_) (fun b5 => ?_)
 have h6 := cond_t b5 h4
 refine awp_skip (then_n (awp_seq (awp_block (awp_seq (rg0 [0, 1, 5, 12, 13] 0 ⟨26, [(0, sL 2 c_THop a0), (1, sL 2 c_THop a1), (5, .int .i64 p1), (12, .int .i64 (a0.length : Int)), (13, .int .i64 p1)], []⟩ ?_)))))
 refine then_n (awp_seq ?_)
 obtain ⟨c8, h9⟩ := gd_some h6
 refine rgc [0, 1, 12, 13, 24] 0 ⟨26, [(0, sL 2 c_THop a0), (1, sL 2 c_THop a1), (12, .int .i64 (a0.length : Int)), (13, .int .i64 p1), (24, .bool (!((((a0.getD p1.toNat default).fIface) == ((a1.getD p1.toNat default).fIface)) && ((((a0.getD p1.toNat default).fAddr) == ((a1.getD p1.toNat default).fAddr)) && true))))], []⟩ [decide (0 ≤ p1), decide (p1 < (a0.length : Int)), decide (0 ≤ p1), decide (p1 < (a1.length : Int))] c8 ?_
 refine then_n ?_
 refine cnd (!((((a0.getD p1.toNat default).fIface) == ((a1.getD p1.toNat default).fIface)) && ((((a0.getD p1.toNat default).fAddr) == ((a1.getD p1.toNat default).fAddr)) && true))) (fun b10 => ?_) (fun b10 => ?_)
 have h11 := cond_t b10 h9
 refine awp_seq (rg0 [4] 0 ⟨26, [(4, .bool false)], []⟩ ?_)
 refine then_n (awp_ret (inb_r (then_r ?_)))
 obtain rfl := Option.some.inj h11
 exact round_r ⟨rfl, er0 (.bool false)⟩
 have h12 := cond_f b10 h9
 refine awp_skip (inb_n (then_n (rg0 [0, 1, 12, 13] 0 ⟨26, [(0, sL 2 c_THop a0), (1, sL 2 c_THop a1), (12, .int .i64 (a0.length : Int)), (13, .int .i64 (wr .i64 (p1 + 1)))], []⟩ ?_)))
 obtain rfl := Option.some.inj h12
 exact round_n (le_rfl)
 have h7 := cond_f b5 h4
 refine awp_exit (then_e ?_)
 obtain rfl := Option.some.inj h7
 exact round_e ⟨rfl, kp []⟩
 intro e15 s16 o17
 rcases y3 with g4 | y5
 have h18 := elim_l h14
 obtain ⟨rfl, l20⟩ := o17
 refine inb_here ?_
 refine then_le (s' := ⟨26, [], []⟩) (l20) ?_
 refine awp_seq (rg0 [4] 0 ⟨26, [(4, .bool true)], []⟩ ?_)
 refine then_n (awp_ret ?_)
 obtain rfl := Option.some.inj h18
 exact er0 (.bool true)
 have h19 := elim_r h14
 obtain ⟨rfl, n21⟩ := o17
 refine inb_r (then_r ?_)
 obtain rfl := Option.some.inj h19
 exact n21
theorem slices_Clone_api_Hop_api_Hop_ok (a0 : List THop) (r : List THop) (h : M.slices_Clone_api_Hop_api_Hop a0 = some r) : Fn Tryz.prog 52 [sL 2 c_THop a0] (.pure (sL 2 c_THop r)) := by
 unfold M.slices_Clone_api_Hop_api_Hop at h
 obtain ⟨hc, h1⟩ := gd_some h
 obtain rfl := Option.some.inj h1
 refine fn_pure Tryz.func52 rfl (by kernel_rfl) ?_
 refine awp_seq (rg0 [0] 0 ⟨8, [(0, sL 2 c_THop a0)], []⟩ ?_)
 refine then_n (awp_seq (awp_seq (rg0 [0, 4] 0 ⟨8, [(0, sL 2 c_THop a0), (4, .nilq a0.length)], []⟩ ?_)))
 refine then_n (nq a0.length (fun hz => ?_) ?_)
 refine awp_seq (rg0 [2] 0 ⟨8, [(2, .sl true 2 0 (fun _ => []))], []⟩ ?_)
 refine then_n (awp_ret (then_r ?_))
 exact er (.sl false 2 0 (fun _ => [])) (sub_nil0 hz)
 refine awp_skip (then_n (awp_seq (rgc [2] 1 ⟨8, [(2, .asl 0 0 (0 + a0.length))], [.arr 2 (0 + a0.length) (app (fun i => List.take 2 (List.drop (i * 2) [])) 0 (fun i => c_THop (a0.getD i default)))]⟩ [decide (0 = 0) || decide (0 < a0.length), decide ((0 + a0.length) * 16 ≤ 140737488355328)] hc ?_)))
 refine then_n (awp_ret ?_)
 exact er (.sl false 2 (0 + a0.length) (fun i => (app (fun i => List.take 2 (List.drop (i * 2) [])) 0 (fun i => c_THop (a0.getD i default))) (0 + i))) (sub_sl (Nat.zero_add _) (fun i hi => by rw [Nat.zero_add]; exact app_nil c_THop _ a0 _ (fun _ _ => rfl) i hi))
theorem slices_Clone_api_Hop_api_Hop_own (a0 : List THop) (r : List THop) (h : M.slices_Clone_api_Hop_api_Hop a0 = some r) : Fn Tryz.prog 52 [sL 2 c_THop a0] (oL 2 c_THop r) := by
 unfold M.slices_Clone_api_Hop_api_Hop at h
 obtain ⟨hc, h1⟩ := gd_some h
 obtain rfl := Option.some.inj h1
 refine fn_own Tryz.func52 rfl (by kernel_rfl) (awp_ends_le ?_)
 refine awp_seq (rg0 [0] 0 ⟨8, [(0, sL 2 c_THop a0)], []⟩ ?_)
 refine then_n (awp_seq (awp_seq (rg0 [0, 4] 0 ⟨8, [(0, sL 2 c_THop a0), (4, .nilq a0.length)], []⟩ ?_)))
 refine then_n (nq a0.length (fun hz => ?_) ?_)
 refine awp_seq (rg0 [2] 0 ⟨8, [(2, .sl true 2 0 (fun _ => []))], []⟩ ?_)
 refine then_n (awp_ret (then_r ?_))
 obtain rfl := List.eq_nil_of_length_eq_zero hz
 exact ⟨_, le_thaw (wd := 2) (f := fun _ => []) 2 (by kernel_rfl) 2 (fun i => c_THop (([] : List THop).getD i default)), .inr rfl, 2, 0, _, rfl, rfl, rfl, fun _ _ => rfl⟩
 refine awp_skip (then_n (awp_seq (rgc [2] 1 ⟨8, [(2, .asl 0 0 (0 + a0.length))], [.arr 2 (0 + a0.length) (app (fun i => List.take 2 (List.drop (i * 2) [])) 0 (fun i => c_THop (a0.getD i default)))]⟩ [decide (0 = 0) || decide (0 < a0.length), decide ((0 + a0.length) * 16 ≤ 140737488355328)] hc ?_)))
 refine then_n (awp_ret ?_)
 exact ⟨⟨8, [(2, .asl 0 0 a0.length)], [aL 2 c_THop a0]⟩, le_sub (.cons (asl_len (Nat.zero_add _)) .nil) (.cons (.arr (Nat.zero_add _) (app_nil c_THop _ a0 _ (fun _ _ => rfl))) .nil), .inr rfl, 2, 0, _, rfl, rfl, rfl, fun _ _ => rfl⟩
theorem fib_Compress_ok (a0 : List TForward) (r : (List TForward)) (h : M.fib_Compress a0 = some r) : Fn Tryz.prog 23 [sL 4 c_TForward a0] (.pure (sL 4 c_TForward r)) := by
 unfold M.fib_Compress at h
 refine fn_pure Tryz.func23 rfl (by kernel_rfl) ?_
 refine awp_seq (rg0 [0] 0 ⟨50, [(0, sL 4 c_TForward a0)], []⟩ ?_)
 refine then_n (awp_seq (rg0 [0, 3] 0 ⟨50, [(0, sL 4 c_TForward a0), (3, .sl true 4 0 (fun _ => []))], []⟩ ?_))
 refine then_n (awp_seq (awp_seq (rg0 [0, 3, 7, 8, 9] 0 ⟨50, [(0, sL 4 c_TForward a0), (3, .sl true 4 0 (fun _ => [])), (7, sL 4 c_TForward a0), (8, .int .i64 (a0.length : Int)), (9, .int .i64 0)], []⟩ ?_)))
 refine then_n (awp_block ?_)
 refine awp_le (s' := ⟨50, [(0, sL 4 c_TForward a0), (3, .sl true 4 0 (fun _ => [])), (7, sL 4 c_TForward a0), (8, .int .i64 (a0.length : Int)), (9, .int .i64 0)], []⟩) (le_rfl) ?_
 refine awp_le (s' := ⟨50, [(0, sL 4 c_TForward a0), (3, .asl 0 0 (([] : List TForward).length)), (7, sL 4 c_TForward a0), (8, .int .i64 (a0.length : Int)), (9, .int .i64 0)], [aL 4 c_TForward ([] : List TForward)]⟩) (Le.trans (s' := ⟨50, (3, .asl 0 0 0) :: [(0, sL 4 c_TForward a0), (3, .sl true 4 0 (fun _ => [])), (7, sL 4 c_TForward a0), (8, .int .i64 (a0.length : Int)), (9, .int .i64 0)], [] ++ [.arr 4 0 (fun i => c_TForward (([] : List TForward).getD i default))]⟩) (le_thaw (wd := 4) (f := fun _ => []) 3 (by kernel_rfl) _ _) (kp [0, 3, 7, 8, 9])) ?_
 obtain ⟨y7, q22, h23⟩ := bind_some h
 refine awp_le (s' := ⟨50, [(0, sL 4 c_TForward a0), (3, .asl 0 0 (([] : List TForward).length)), (7, sL 4 c_TForward a0), (8, .int .i64 (a0.length : Int)), (9, .int .i64 0)], [aL 4 c_TForward ([] : List TForward)]⟩) (le_rfl) ?_
 refine awp_mono (awp_loop (f := M.fib_Compress_l1 a0) (S := fun (p1 : (List TForward) × Int) => ⟨50, [(0, sL 4 c_TForward a0), (3, .asl 0 0 p1.1.length), (7, sL 4 c_TForward a0), (8, .int .i64 (a0.length : Int)), (9, .int .i64 p1.2)], [aL 4 c_TForward p1.1]⟩) (O := (fun z => OutE 0 (fun z => ⟨50, [(3, .asl 0 0 z.length)], [aL 4 c_TForward z]⟩) z)) ?_ (x := (([] : List TForward), 0)) (y := y7) (loopM_iter q22)) ?_
 intro p1 y2 h1
 unfold M.fib_Compress_l1 at h1
 refine awp_seq (rg0 [0, 3, 7, 8, 9, 10] 1 ⟨50, [(0, sL 4 c_TForward a0), (3, .asl 0 0 p1.1.length), (7, sL 4 c_TForward a0), (8, .int .i64 (a0.length : Int)), (9, .int .i64 p1.2), (10, .bool (decide (p1.2 < (a0.length : Int))))], [aL 4 c_TForward p1.1]⟩ ?_)
 refine then_n (awp_seq ?_)
 refine cnd (decide (p1.2 < (a0.length : Int))) (fun b2 => ?_) (fun b2 => ?_)
 have h3 := cond_t b2 h1
 refine awp_skip (then_n ?_)
 refine awp_join (fun (p3 : (List TForward)) => ⟨50, [(0, sL 4 c_TForward a0), (3, .asl 0 0 p3.length), (7, sL 4 c_TForward a0), (8, .int .i64 (a0.length : Int)), (9, .int .i64 p1.2)], [aL 4 c_TForward p3]⟩) (fun p3 => M.fib_Compress_k1 p1 p3 = some y2) ?_ ?_
 intro p3 h6
 unfold M.fib_Compress_k1 at h6
 refine rg0 [0, 3, 7, 8, 9] 1 ⟨50, [(0, sL 4 c_TForward a0), (3, .asl 0 0 p3.length), (7, sL 4 c_TForward a0), (8, .int .i64 (a0.length : Int)), (9, .int .i64 (wr .i64 (p1.2 + 1)))], [aL 4 c_TForward p3]⟩ ?_
 obtain rfl := Option.some.inj h6
 exact round_n (le_rfl)
 intro k5
 refine awp_block (awp_seq ?_)
 obtain ⟨c7, h8⟩ := gd_some h3
 refine rgc [0, 3, 4, 5, 7, 8, 9] 2 ⟨50, [(0, sL 4 c_TForward a0), (3, .asl 0 0 p1.1.length), (4, .int .i64 p1.2), (5, .ref 1 0), (7, sL 4 c_TForward a0), (8, .int .i64 (a0.length : Int)), (9, .int .i64 p1.2)], [aL 4 c_TForward p1.1, .box (c_TForward (a0.getD p1.2.toNat default))]⟩ [decide (0 ≤ p1.2), decide (p1.2 < (a0.length : Int))] c7 ?_
 refine then_n (awp_seq ?_)
 obtain ⟨r4, q9, h10⟩ := bind_some h8
 refine rg [.pure (.int .i64 r4)] [0, 3, 5, 6, 7, 8, 9] 2 ⟨50, [(0, sL 4 c_TForward a0), (3, .asl 0 0 p1.1.length), (5, .ref 1 0), (6, .int .i64 r4), (7, sL 4 c_TForward a0), (8, .int .i64 (a0.length : Int)), (9, .int .i64 p1.2)], [aL 4 c_TForward p1.1, .box (c_TForward (a0.getD p1.2.toNat default))]⟩ [] [⟨true, 50, [sL 4 c_TForward a0, .int .i64 p1.2], .pure (.int .i64 r4)⟩] nil_all ⟨fun _ => fib_parent_ok a0 p1.2 r4 q9, trivial⟩ ?_
 refine then_n (awp_seq ?_)
 obtain ⟨r5, q11, h12⟩ := bind_some h10
 obtain ⟨c13, h14⟩ := gd_some h12
 refine rg [.pure (.bool r5)] [0, 3, 5, 7, 8, 9, 39] 2 ⟨50, [(0, sL 4 c_TForward a0), (3, .asl 0 0 p1.1.length), (5, .ref 1 0), (7, sL 4 c_TForward a0), (8, .int .i64 (a0.length : Int)), (9, .int .i64 p1.2), (39, .bool (((decide (r4 < 0)) || (!(((a0.getD p1.2.toNat default).fDiscard) == ((a0.getD r4.toNat default).fDiscard)))) || (!r5)))], [aL 4 c_TForward p1.1, .box (c_TForward (a0.getD p1.2.toNat default))]⟩ [guardB (!(decide (r4 < 0))) (decide (0 ≤ r4)), guardB (!(decide (r4 < 0))) (decide (r4 < (a0.length : Int))), guardB (!((decide (r4 < 0)) || (!(((a0.getD p1.2.toNat default).fDiscard) == ((a0.getD r4.toNat default).fDiscard))))) (decide (0 ≤ r4)), guardB (!((decide (r4 < 0)) || (!(((a0.getD p1.2.toNat default).fDiscard) == ((a0.getD r4.toNat default).fDiscard))))) (decide (r4 < (a0.length : Int)))] [⟨(!((decide (r4 < 0)) || (!(((a0.getD p1.2.toNat default).fDiscard) == ((a0.getD r4.toNat default).fDiscard))))), 51, [sL 2 c_THop ((a0.getD p1.2.toNat default).fHops), sL 2 c_THop ((a0.getD r4.toNat default).fHops)], .pure (.bool r5)⟩] c13 ⟨fun hg => slices_Equal_api_Hop_api_Hop_ok ((a0.getD p1.2.toNat default).fHops) ((a0.getD r4.toNat default).fHops) r5 (gc_some q11 hg), trivial⟩ ?_
 refine then_n ?_
 refine cnd (((decide (r4 < 0)) || (!(((a0.getD p1.2.toNat default).fDiscard) == ((a0.getD r4.toNat default).fDiscard)))) || (!r5)) (fun b15 => ?_) (fun b15 => ?_)
 have h16 := cond_t b15 h14
 refine awp_seq ?_
 obtain ⟨r6, q18, h19⟩ := bind_some h16
 refine rg [.pure (sL 2 c_THop r6)] [0, 3, 5, 7, 8, 9] 2 ⟨50, [(0, sL 4 c_TForward a0), (3, .asl 0 0 p1.1.length), (5, .ref 1 0), (7, sL 4 c_TForward a0), (8, .int .i64 (a0.length : Int)), (9, .int .i64 p1.2)], [aL 4 c_TForward p1.1, .box [.int .u32 (((a0.getD p1.2.toNat default).fPrefix).fAddr), .int .i64 (((a0.getD p1.2.toNat default).fPrefix).fLen), sL 2 c_THop r6, .bool ((a0.getD p1.2.toNat default).fDiscard)]]⟩ [] [⟨true, 52, [sL 2 c_THop ((a0.getD p1.2.toNat default).fHops)], .pure (sL 2 c_THop r6)⟩] nil_all ⟨fun _ => slices_Clone_api_Hop_api_Hop_ok ((a0.getD p1.2.toNat default).fHops) r6 q18, trivial⟩ ?_
 refine then_n ?_
 obtain ⟨c20, h21⟩ := gd_some h19
 refine rgc [0, 3, 7, 8, 9] 1 ⟨50, [(0, sL 4 c_TForward a0), (3, .asl 0 0 (p1.1.length + 1)), (7, sL 4 c_TForward a0), (8, .int .i64 (a0.length : Int)), (9, .int .i64 p1.2)], [.arr 4 (p1.1.length + 1) (app (fun i => c_TForward (p1.1.getD i default)) p1.1.length (fun i => List.take 4 (List.drop (i * 4) [.int .u32 (((a0.getD p1.2.toNat default).fPrefix).fAddr), .int .i64 (((a0.getD p1.2.toNat default).fPrefix).fLen), sL 2 c_THop r6, .bool ((a0.getD p1.2.toNat default).fDiscard)])))]⟩ [decide ((p1.1.length + 1) * 48 ≤ 140737488355328)] c20 ?_
 refine inb_n ?_
 exact then_le (le_sub (.cons Sub.rfl (.cons (asl_len (len_snoc _ _)) (.cons Sub.rfl (.cons Sub.rfl (.cons Sub.rfl .nil))))) (.cons (.arr (len_snoc _ _) (app_snoc c_TForward p1.1 (⟨(a0.getD p1.2.toNat default).fPrefix, r6, (a0.getD p1.2.toNat default).fDiscard⟩ : TForward) _ rfl)) .nil)) (k5 (p1.1 ++ [(⟨(a0.getD p1.2.toNat default).fPrefix, r6, (a0.getD p1.2.toNat default).fDiscard⟩ : TForward)]) h21)
 have h17 := cond_f b15 h14
 refine awp_skip (inb_n ?_)
 exact then_le (Le.trans (s' := ⟨50, [(0, sL 4 c_TForward a0), (3, .asl 0 0 p1.1.length), (7, sL 4 c_TForward a0), (8, .int .i64 (a0.length : Int)), (9, .int .i64 p1.2)], [aL 4 c_TForward p1.1, .box (c_TForward (a0.getD p1.2.toNat default))]⟩) (kp [0, 3, 7, 8, 9]) (le_cut (n := 1) (by kernel_rfl))) (k5 p1.1 h17)
 have h4 := cond_f b2 h1
 refine awp_exit (then_e ?_)
 obtain rfl := Option.some.inj h4
 exact round_e ⟨rfl, kp [3]⟩
 intro e24 s25 o26
 obtain ⟨rfl, l27⟩ := o26
 refine inb_here ?_
 refine then_le (s' := ⟨50, [(3, .asl 0 0 y7.length)], [aL 4 c_TForward y7]⟩) (l27) ?_
 refine awp_seq (rg0 [2] 1 ⟨50, [(2, .asl 0 0 y7.length)], [aL 4 c_TForward y7]⟩ ?_)
 refine then_n (awp_ret ?_)
 obtain rfl := Option.some.inj h23
 exact er (.sl false 4 y7.length (fun i => c_TForward (y7.getD (0 + i) default))) sub_asl
theorem ref4_Contains_ok (a0 : TPrefix) (a1 : Int) (r : Bool) (h : M.ref4_Contains a0 a1 = some r) : Fn Tryz.prog 46 [.agg (c_TPrefix a0), .int .u32 a1] (.pure (.bool r)) := by
 unfold M.ref4_Contains at h
 refine fn_pure Tryz.func46 rfl (by kernel_rfl) ?_
 refine awp_seq (rg0 [1, 2] 1 ⟨13, [(1, .int .u32 a1), (2, .ref 0 0)], [.box (c_TPrefix a0)]⟩ ?_)
 refine then_n (awp_seq ?_)
 obtain ⟨r1, q1, h2⟩ := bind_some h
 refine rg [.pure (.int .u32 r1)] [4] 0 ⟨13, [(4, .bool ((bitD .and .u32 a1 r1) == a0.fAddr))], []⟩ [] [⟨true, 78, [.int .i64 a0.fLen], .pure (.int .u32 r1)⟩] nil_all ⟨fun _ => ref4_Mask_ok a0.fLen r1 q1, trivial⟩ ?_
 refine then_n (awp_ret ?_)
 obtain rfl := Option.some.inj h2
 exact er0 (.bool ((bitD .and .u32 a1 r1) == a0.fAddr))
theorem ref4_Covers_ok (a0 : TPrefix) (a1 : TPrefix) (r : Bool) (h : M.ref4_Covers a0 a1 = some r) : Fn Tryz.prog 53 [.agg (c_TPrefix a0), .agg (c_TPrefix a1)] (.pure (.bool r)) := by
 unfold M.ref4_Covers at h
 refine fn_pure Tryz.func53 rfl (by kernel_rfl) ?_
 refine awp_seq (rg0 [2, 3] 2 ⟨16, [(2, .ref 0 0), (3, .ref 1 0)], [.box (c_TPrefix a0), .box (c_TPrefix a1)]⟩ ?_)
 refine then_n (awp_seq ?_)
 obtain ⟨r1, q1, h2⟩ := bind_some h
 refine rg [.pure (.bool r1)] [4] 0 ⟨16, [(4, .bool ((decide (a0.fLen ≤ a1.fLen)) && r1))], []⟩ [] [⟨decide (a0.fLen ≤ a1.fLen), 46, [.agg (c_TPrefix a0), .int .u32 a1.fAddr], .pure (.bool r1)⟩] nil_all ⟨fun hg => ref4_Contains_ok a0 a1.fAddr r1 (gc_some q1 hg), trivial⟩ ?_
 refine then_n (awp_ret ?_)
 obtain rfl := Option.some.inj h2
 exact er0 (.bool ((decide (a0.fLen ≤ a1.fLen)) && r1))
theorem ref24_SameAction_ok (a0 : TForward) (a1 : TForward) (r : Bool) (h : M.ref24_SameAction a0 a1 = some r) : Fn Tryz.prog 25 [.agg (c_TForward a0), .agg (c_TForward a1)] (.pure (.bool r)) := by
 unfold M.ref24_SameAction at h
 refine fn_pure Tryz.func25 rfl (by kernel_rfl) ?_
 refine awp_seq (rg0 [2, 3] 2 ⟨38, [(2, .ref 0 0), (3, .ref 1 0)], [.box (c_TForward a0), .box (c_TForward a1)]⟩ ?_)
 refine then_n (awp_seq (awp_seq (rg0 [2, 3, 19] 2 ⟨38, [(2, .ref 0 0), (3, .ref 1 0), (19, .bool ((!(a0.fDiscard == a1.fDiscard)) || ((a0.fHops.length : Int) != (a1.fHops.length : Int))))], [.box (c_TForward a0), .box (c_TForward a1)]⟩ ?_)))
 refine then_n ?_
 refine cnd ((!(a0.fDiscard == a1.fDiscard)) || ((a0.fHops.length : Int) != (a1.fHops.length : Int))) (fun b1 => ?_) (fun b1 => ?_)
 have h2 := cond_t b1 h
 refine awp_seq (rg0 [4] 0 ⟨38, [(4, .bool false)], []⟩ ?_)
 refine then_n (awp_ret (then_r ?_))
 obtain rfl := Option.some.inj h2
 exact er0 (.bool false)
 have h3 := cond_f b1 h
 refine awp_skip (then_n (awp_seq (awp_seq (rg0 [2, 3, 5] 2 ⟨38, [(2, .ref 0 0), (3, .ref 1 0), (5, .int .i64 0)], [.box (c_TForward a0), .box (c_TForward a1)]⟩ ?_))))
 refine then_n (awp_block ?_)
 obtain ⟨y3, q13, h14⟩ := bind_some h3
 refine awp_le (s' := ⟨38, [(2, .ref 0 0), (3, .ref 1 0), (5, .int .i64 0)], [.box (c_TForward a0), .box (c_TForward a1)]⟩) (le_rfl) ?_
 refine awp_mono (awp_loop (f := M.ref24_SameAction_l1 a0 a1) (S := fun (p1 : Int) => ⟨38, [(2, .ref 0 0), (3, .ref 1 0), (5, .int .i64 p1)], [.box (c_TForward a0), .box (c_TForward a1)]⟩) (O := (Sum.elim (fun z => OutE 0 (fun z => ⟨38, [], []⟩) z) (fun z => OutR Tryz.prog Tryz.f25 (.bool z)))) ?_ (x := 0) (y := y3) (loopM_iter q13)) ?_
 intro p1 y2 h4
 unfold M.ref24_SameAction_l1 at h4
 refine awp_seq (awp_seq (rg0 [2, 3, 5, 24] 2 ⟨38, [(2, .ref 0 0), (3, .ref 1 0), (5, .int .i64 p1), (24, .bool (decide (p1 < (a0.fHops.length : Int))))], [.box (c_TForward a0), .box (c_TForward a1)]⟩ ?_))
 refine then_n ?_
 refine cnd (decide (p1 < (a0.fHops.length : Int))) (fun b5 => ?_) (fun b5 => ?_)
 have h6 := cond_t b5 h4
 refine awp_skip (then_n (awp_seq (awp_block (awp_seq ?_))))
 obtain ⟨c8, h9⟩ := gd_some h6
 refine rgc [2, 3, 5, 37] 2 ⟨38, [(2, .ref 0 0), (3, .ref 1 0), (5, .int .i64 p1), (37, .bool (!((((a0.fHops.getD p1.toNat default).fIface) == ((a1.fHops.getD p1.toNat default).fIface)) && ((((a0.fHops.getD p1.toNat default).fAddr) == ((a1.fHops.getD p1.toNat default).fAddr)) && true))))], [.box (c_TForward a0), .box (c_TForward a1)]⟩ [decide (0 ≤ p1), decide (p1 < (a0.fHops.length : Int)), decide (0 ≤ p1), decide (p1 < (a1.fHops.length : Int))] c8 ?_
 refine then_n ?_
 refine cnd (!((((a0.fHops.getD p1.toNat default).fIface) == ((a1.fHops.getD p1.toNat default).fIface)) && ((((a0.fHops.getD p1.toNat default).fAddr) == ((a1.fHops.getD p1.toNat default).fAddr)) && true))) (fun b10 => ?_) (fun b10 => ?_)
 have h11 := cond_t b10 h9
 refine awp_seq (rg0 [4] 0 ⟨38, [(4, .bool false)], []⟩ ?_)
 refine then_n (awp_ret (inb_r (then_r ?_)))
 obtain rfl := Option.some.inj h11
 exact round_r ⟨rfl, er0 (.bool false)⟩
 have h12 := cond_f b10 h9
 refine awp_skip (inb_n (then_n (rg0 [2, 3, 5] 2 ⟨38, [(2, .ref 0 0), (3, .ref 1 0), (5, .int .i64 (wr .i64 (p1 + 1)))], [.box (c_TForward a0), .box (c_TForward a1)]⟩ ?_)))
 obtain rfl := Option.some.inj h12
 exact round_n (le_rfl)
 have h7 := cond_f b5 h4
 refine awp_exit (then_e ?_)
 obtain rfl := Option.some.inj h7
 exact round_e ⟨rfl, Le.trans (s' := ⟨38, [], [.box (c_TForward a0), .box (c_TForward a1)]⟩) (kp []) (le_cut (n := 0) (by kernel_rfl))⟩
 intro e15 s16 o17
 rcases y3 with g4 | y5
 have h18 := elim_l h14
 obtain ⟨rfl, l20⟩ := o17
 refine inb_here ?_
 refine then_le (s' := ⟨38, [], []⟩) (l20) ?_
 refine awp_seq (rg0 [4] 0 ⟨38, [(4, .bool true)], []⟩ ?_)
 refine then_n (awp_ret ?_)
 obtain rfl := Option.some.inj h18
 exact er0 (.bool true)
 have h19 := elim_r h14
 obtain ⟨rfl, n21⟩ := o17
 refine inb_r (then_r ?_)
 obtain rfl := Option.some.inj h19
 exact n21
theorem ref24_Compress_ok (a0 : List TForward) (r : (List TForward)) (h : M.ref24_Compress a0 = some r) : Fn Tryz.prog 24 [sL 4 c_TForward a0] (.pure (sL 4 c_TForward r)) := by
 unfold M.ref24_Compress at h
 refine fn_pure Tryz.func24 rfl (by kernel_rfl) ?_
 refine awp_seq (rg0 [0] 0 ⟨87, [(0, sL 4 c_TForward a0)], []⟩ ?_)
 refine then_n (awp_seq (rg0 [0, 3] 0 ⟨87, [(0, sL 4 c_TForward a0), (3, .sl true 4 0 (fun _ => []))], []⟩ ?_))
 refine then_n (awp_seq (awp_seq (rg0 [0, 3, 4] 0 ⟨87, [(0, sL 4 c_TForward a0), (3, .sl true 4 0 (fun _ => [])), (4, .int .i64 0)], []⟩ ?_)))
 refine then_n (awp_block ?_)
 refine awp_le (s' := ⟨87, [(0, sL 4 c_TForward a0), (3, .sl true 4 0 (fun _ => [])), (4, .int .i64 0)], []⟩) (le_rfl) ?_
 refine awp_le (s' := ⟨87, [(0, sL 4 c_TForward a0), (3, .asl 0 0 (([] : List TForward).length)), (4, .int .i64 0)], [aL 4 c_TForward ([] : List TForward)]⟩) (Le.trans (s' := ⟨87, (3, .asl 0 0 0) :: [(0, sL 4 c_TForward a0), (3, .sl true 4 0 (fun _ => [])), (4, .int .i64 0)], [] ++ [.arr 4 0 (fun i => c_TForward (([] : List TForward).getD i default))]⟩) (le_thaw (wd := 4) (f := fun _ => []) 3 (by kernel_rfl) _ _) (kp [0, 3, 4])) ?_
 obtain ⟨y10, q35, h36⟩ := bind_some h
 refine awp_le (s' := ⟨87, [(0, sL 4 c_TForward a0), (3, .asl 0 0 (([] : List TForward).length)), (4, .int .i64 0)], [aL 4 c_TForward ([] : List TForward)]⟩) (le_rfl) ?_
 refine awp_mono (awp_loop (f := M.ref24_Compress_l1 a0) (S := fun (p1 : (List TForward) × Int) => ⟨87, [(0, sL 4 c_TForward a0), (3, .asl 0 0 p1.1.length), (4, .int .i64 p1.2)], [aL 4 c_TForward p1.1]⟩) (O := (fun z => OutE 0 (fun z => ⟨87, [(3, .asl 0 0 z.length)], [aL 4 c_TForward z]⟩) z)) ?_ (x := (([] : List TForward), 0)) (y := y10) (loopM_iter q35)) ?_
 intro p1 y2 h1
 unfold M.ref24_Compress_l1 at h1
 refine awp_seq (awp_seq (rg0 [0, 3, 4, 10] 1 ⟨87, [(0, sL 4 c_TForward a0), (3, .asl 0 0 p1.1.length), (4, .int .i64 p1.2), (10, .bool (decide (p1.2 < (a0.length : Int))))], [aL 4 c_TForward p1.1]⟩ ?_))
 refine then_n ?_
 refine cnd (decide (p1.2 < (a0.length : Int))) (fun b2 => ?_) (fun b2 => ?_)
 have h3 := cond_t b2 h1
 refine awp_skip (then_n ?_)
 refine awp_join (fun (p3 : (List TForward)) => ⟨87, [(0, sL 4 c_TForward a0), (3, .asl 0 0 p3.length), (4, .int .i64 p1.2)], [aL 4 c_TForward p3]⟩) (fun p3 => M.ref24_Compress_k1 p1 p3 = some y2) ?_ ?_
 intro p3 h6
 unfold M.ref24_Compress_k1 at h6
 refine rg0 [0, 3, 4] 1 ⟨87, [(0, sL 4 c_TForward a0), (3, .asl 0 0 p3.length), (4, .int .i64 (wr .i64 (p1.2 + 1)))], [aL 4 c_TForward p3]⟩ ?_
 obtain rfl := Option.some.inj h6
 exact round_n (le_rfl)
 intro k5
 refine awp_block (awp_seq (rg0 [0, 3, 4, 5] 1 ⟨87, [(0, sL 4 c_TForward a0), (3, .asl 0 0 p1.1.length), (4, .int .i64 p1.2), (5, .int .i64 (-1))], [aL 4 c_TForward p1.1]⟩ ?_))
 refine then_n (awp_seq (awp_seq (rg0 [0, 3, 4, 5, 6] 1 ⟨87, [(0, sL 4 c_TForward a0), (3, .asl 0 0 p1.1.length), (4, .int .i64 p1.2), (5, .int .i64 (-1)), (6, .int .i64 0)], [aL 4 c_TForward p1.1]⟩ ?_)))
 refine then_n (awp_block ?_)
 obtain ⟨y8, q20, h21⟩ := bind_some h3
 refine awp_le (s' := ⟨87, [(0, sL 4 c_TForward a0), (3, .asl 0 0 p1.1.length), (4, .int .i64 p1.2), (5, .int .i64 (-1)), (6, .int .i64 0)], [aL 4 c_TForward p1.1]⟩) (le_rfl) ?_
 refine awp_mono (awp_loop (f := M.ref24_Compress_l2 a0 p1) (S := fun (p4 : Int × Int) => ⟨87, [(0, sL 4 c_TForward a0), (3, .asl 0 0 p1.1.length), (4, .int .i64 p1.2), (5, .int .i64 p4.1), (6, .int .i64 p4.2)], [aL 4 c_TForward p1.1]⟩) (O := (fun z => OutE 2 (fun z => ⟨87, [(0, sL 4 c_TForward a0), (3, .asl 0 0 p1.1.length), (4, .int .i64 p1.2), (5, .int .i64 z)], [aL 4 c_TForward p1.1]⟩) z)) ?_ (x := ((-1), 0)) (y := y8) (loopM_iter q20)) ?_
 intro p4 y5 h7
 unfold M.ref24_Compress_l2 at h7
 refine awp_seq (awp_seq (rg0 [0, 3, 4, 5, 6, 16] 1 ⟨87, [(0, sL 4 c_TForward a0), (3, .asl 0 0 p1.1.length), (4, .int .i64 p1.2), (5, .int .i64 p4.1), (6, .int .i64 p4.2), (16, .bool (decide (p4.2 < (a0.length : Int))))], [aL 4 c_TForward p1.1]⟩ ?_))
 refine then_n ?_
 refine cnd (decide (p4.2 < (a0.length : Int))) (fun b8 => ?_) (fun b8 => ?_)
 have h9 := cond_t b8 h7
 refine awp_skip (then_n ?_)
 refine awp_join (fun (p6 : Int) => ⟨87, [(0, sL 4 c_TForward a0), (3, .asl 0 0 p1.1.length), (4, .int .i64 p1.2), (5, .int .i64 p6), (6, .int .i64 p4.2)], [aL 4 c_TForward p1.1]⟩) (fun p6 => M.ref24_Compress_k2 p4 p6 = some y5) ?_ ?_
 intro p6 h12
 unfold M.ref24_Compress_k2 at h12
 refine rg0 [0, 3, 4, 5, 6] 1 ⟨87, [(0, sL 4 c_TForward a0), (3, .asl 0 0 p1.1.length), (4, .int .i64 p1.2), (5, .int .i64 p6), (6, .int .i64 (wr .i64 (p4.2 + 1)))], [aL 4 c_TForward p1.1]⟩ ?_
 obtain rfl := Option.some.inj h12
 exact round_n (le_rfl)
 intro k11
 refine awp_block (awp_seq ?_)
 obtain ⟨r7, q13, h14⟩ := bind_some h9
 obtain ⟨c15, h16⟩ := gd_some h14
 refine rg [.pure (.bool r7)] [0, 3, 4, 5, 6, 63] 1 ⟨87, [(0, sL 4 c_TForward a0), (3, .asl 0 0 p1.1.length), (4, .int .i64 p1.2), (5, .int .i64 p4.1), (6, .int .i64 p4.2), (63, .bool (((decide ((((a0.getD p4.2.toNat default).fPrefix).fLen) < (((a0.getD p1.2.toNat default).fPrefix).fLen))) && r7) && ((decide (p4.1 < 0)) || (decide ((((a0.getD p4.2.toNat default).fPrefix).fLen) > (((a0.getD p4.1.toNat default).fPrefix).fLen))))))], [aL 4 c_TForward p1.1]⟩ [decide (0 ≤ p4.2), decide (p4.2 < (a0.length : Int)), decide (0 ≤ p1.2), decide (p1.2 < (a0.length : Int)), guardB (decide ((((a0.getD p4.2.toNat default).fPrefix).fLen) < (((a0.getD p1.2.toNat default).fPrefix).fLen))) (decide (0 ≤ p4.2)), guardB (decide ((((a0.getD p4.2.toNat default).fPrefix).fLen) < (((a0.getD p1.2.toNat default).fPrefix).fLen))) (decide (p4.2 < (a0.length : Int))), guardB (decide ((((a0.getD p4.2.toNat default).fPrefix).fLen) < (((a0.getD p1.2.toNat default).fPrefix).fLen))) (decide (0 ≤ p1.2)), guardB (decide ((((a0.getD p4.2.toNat default).fPrefix).fLen) < (((a0.getD p1.2.toNat default).fPrefix).fLen))) (decide (p1.2 < (a0.length : Int))), guardB (((decide ((((a0.getD p4.2.toNat default).fPrefix).fLen) < (((a0.getD p1.2.toNat default).fPrefix).fLen))) && r7) && !(decide (p4.1 < 0))) (decide (0 ≤ p4.2)), guardB (((decide ((((a0.getD p4.2.toNat default).fPrefix).fLen) < (((a0.getD p1.2.toNat default).fPrefix).fLen))) && r7) && !(decide (p4.1 < 0))) (decide (p4.2 < (a0.length : Int))), guardB (((decide ((((a0.getD p4.2.toNat default).fPrefix).fLen) < (((a0.getD p1.2.toNat default).fPrefix).fLen))) && r7) && !(decide (p4.1 < 0))) (decide (0 ≤ p4.1)), guardB (((decide ((((a0.getD p4.2.toNat default).fPrefix).fLen) < (((a0.getD p1.2.toNat default).fPrefix).fLen))) && r7) && !(decide (p4.1 < 0))) (decide (p4.1 < (a0.length : Int)))] [⟨decide ((((a0.getD p4.2.toNat default).fPrefix).fLen) < (((a0.getD p1.2.toNat default).fPrefix).fLen)), 53, [.agg (c_TPrefix ((a0.getD p4.2.toNat default).fPrefix)), .agg (c_TPrefix ((a0.getD p1.2.toNat default).fPrefix))], .pure (.bool r7)⟩] c15 ⟨fun hg => ref4_Covers_ok ((a0.getD p4.2.toNat default).fPrefix) ((a0.getD p1.2.toNat default).fPrefix) r7 (gc_some q13 hg), trivial⟩ ?_
 refine then_n ?_
 refine cnd (((decide ((((a0.getD p4.2.toNat default).fPrefix).fLen) < (((a0.getD p1.2.toNat default).fPrefix).fLen))) && r7) && ((decide (p4.1 < 0)) || (decide ((((a0.getD p4.2.toNat default).fPrefix).fLen) > (((a0.getD p4.1.toNat default).fPrefix).fLen))))) (fun b17 => ?_) (fun b17 => ?_)
 have h18 := cond_t b17 h16
 refine rg0 [0, 3, 4, 5, 6] 1 ⟨87, [(0, sL 4 c_TForward a0), (3, .asl 0 0 p1.1.length), (4, .int .i64 p1.2), (5, .int .i64 p4.2), (6, .int .i64 p4.2)], [aL 4 c_TForward p1.1]⟩ ?_
 refine inb_n ?_
 exact then_le (le_rfl) (k11 p4.2 h18)
 have h19 := cond_f b17 h16
 refine awp_skip (inb_n ?_)
 exact then_le (kp [0, 3, 4, 5, 6]) (k11 p4.1 h19)
 have h10 := cond_f b8 h7
 refine awp_exit (then_e ?_)
 obtain rfl := Option.some.inj h10
 exact round_e ⟨rfl, kp [0, 3, 4, 5]⟩
 intro e22 s23 o24
 obtain ⟨rfl, l25⟩ := o24
 refine inb_here ?_
 refine then_le (s' := ⟨87, [(0, sL 4 c_TForward a0), (3, .asl 0 0 p1.1.length), (4, .int .i64 p1.2), (5, .int .i64 y8)], [aL 4 c_TForward p1.1]⟩) (l25) ?_
 refine awp_seq ?_
 obtain ⟨r9, q26, h27⟩ := bind_some h21
 obtain ⟨c28, h29⟩ := gd_some h27
 refine rg [.pure (.bool r9)] [0, 3, 4, 78] 1 ⟨87, [(0, sL 4 c_TForward a0), (3, .asl 0 0 p1.1.length), (4, .int .i64 p1.2), (78, .bool ((decide (y8 < 0)) || (!r9)))], [aL 4 c_TForward p1.1]⟩ [guardB (!(decide (y8 < 0))) (decide (0 ≤ y8)), guardB (!(decide (y8 < 0))) (decide (y8 < (a0.length : Int))), guardB (!(decide (y8 < 0))) (decide (0 ≤ p1.2)), guardB (!(decide (y8 < 0))) (decide (p1.2 < (a0.length : Int)))] [⟨(!(decide (y8 < 0))), 25, [.agg (c_TForward (a0.getD y8.toNat default)), .agg (c_TForward (a0.getD p1.2.toNat default))], .pure (.bool r9)⟩] c28 ⟨fun hg => ref24_SameAction_ok (a0.getD y8.toNat default) (a0.getD p1.2.toNat default) r9 (gc_some q26 hg), trivial⟩ ?_
 refine then_n ?_
 refine cnd ((decide (y8 < 0)) || (!r9)) (fun b30 => ?_) (fun b30 => ?_)
 have h31 := cond_t b30 h29
 obtain ⟨c33, h34⟩ := gd_some h31
 refine rgc [0, 3, 4] 1 ⟨87, [(0, sL 4 c_TForward a0), (3, .asl 0 0 (p1.1.length + 1)), (4, .int .i64 p1.2)], [.arr 4 (p1.1.length + 1) (app (fun i => c_TForward (p1.1.getD i default)) p1.1.length (fun i => List.take 4 (List.drop (i * 4) [.int .u32 (((a0.getD p1.2.toNat default).fPrefix).fAddr), .int .i64 (((a0.getD p1.2.toNat default).fPrefix).fLen), sL 2 c_THop ((a0.getD p1.2.toNat default).fHops), .bool ((a0.getD p1.2.toNat default).fDiscard)])))]⟩ [decide (0 ≤ p1.2), decide (p1.2 < (a0.length : Int)), decide ((p1.1.length + 1) * 48 ≤ 140737488355328)] c33 ?_
 refine inb_n ?_
 exact then_le (le_sub (.cons Sub.rfl (.cons (asl_len (len_snoc _ _)) (.cons Sub.rfl .nil))) (.cons (.arr (len_snoc _ _) (app_snoc c_TForward p1.1 (a0.getD p1.2.toNat default) _ rfl)) .nil)) (k5 (p1.1 ++ [a0.getD p1.2.toNat default]) h34)
 have h32 := cond_f b30 h29
 refine awp_skip (inb_n ?_)
 exact then_le (kp [0, 3, 4]) (k5 p1.1 h32)
 have h4 := cond_f b2 h1
 refine awp_exit (then_e ?_)
 obtain rfl := Option.some.inj h4
 exact round_e ⟨rfl, kp [3]⟩
 intro e37 s38 o39
 obtain ⟨rfl, l40⟩ := o39
 refine inb_here ?_
 refine then_le (s' := ⟨87, [(3, .asl 0 0 y10.length)], [aL 4 c_TForward y10]⟩) (l40) ?_
 refine awp_seq (rg0 [2] 1 ⟨87, [(2, .asl 0 0 y10.length)], [aL 4 c_TForward y10]⟩ ?_)
 refine then_n (awp_ret ?_)
 obtain rfl := Option.some.inj h36
 exact er (.sl false 4 y10.length (fun i => c_TForward (y10.getD (0 + i) default))) sub_asl
theorem ref24_SameForwards_ok (a0 : List TForward) (a1 : List TForward) (r : Bool) (h : M.ref24_SameForwards a0 a1 = some r) : Fn Tryz.prog 11 [sL 4 c_TForward a0, sL 4 c_TForward a1] (.pure (.bool r)) := by
 unfold M.ref24_SameForwards at h
 refine fn_pure Tryz.func11 rfl (by kernel_rfl) ?_
 refine awp_seq (rg0 [0, 1] 0 ⟨40, [(0, sL 4 c_TForward a0), (1, sL 4 c_TForward a1)], []⟩ ?_)
 refine then_n (awp_seq (awp_seq (rg0 [0, 1, 10] 0 ⟨40, [(0, sL 4 c_TForward a0), (1, sL 4 c_TForward a1), (10, .bool ((a0.length : Int) != (a1.length : Int)))], []⟩ ?_)))
 refine then_n ?_
 refine cnd ((a0.length : Int) != (a1.length : Int)) (fun b1 => ?_) (fun b1 => ?_)
 have h2 := cond_t b1 h
 refine awp_seq (rg0 [4] 0 ⟨40, [(4, .bool false)], []⟩ ?_)
 refine then_n (awp_ret (then_r ?_))
 obtain rfl := Option.some.inj h2
 exact er0 (.bool false)
 have h3 := cond_f b1 h
 refine awp_skip (then_n (awp_seq (awp_seq (rg0 [0, 1, 5] 0 ⟨40, [(0, sL 4 c_TForward a0), (1, sL 4 c_TForward a1), (5, .int .i64 0)], []⟩ ?_))))
 refine then_n (awp_block ?_)
 obtain ⟨y4, q15, h16⟩ := bind_some h3
 refine awp_le (s' := ⟨40, [(0, sL 4 c_TForward a0), (1, sL 4 c_TForward a1), (5, .int .i64 0)], []⟩) (le_rfl) ?_
 refine awp_mono (awp_loop (f := M.ref24_SameForwards_l1 a0 a1) (S := fun (p1 : Int) => ⟨40, [(0, sL 4 c_TForward a0), (1, sL 4 c_TForward a1), (5, .int .i64 p1)], []⟩) (O := (Sum.elim (fun z => OutE 0 (fun z => ⟨40, [], []⟩) z) (fun z => OutR Tryz.prog Tryz.f11 (.bool z)))) ?_ (x := 0) (y := y4) (loopM_iter q15)) ?_
 intro p1 y2 h4
 unfold M.ref24_SameForwards_l1 at h4
 refine awp_seq (awp_seq (rg0 [0, 1, 5, 14] 0 ⟨40, [(0, sL 4 c_TForward a0), (1, sL 4 c_TForward a1), (5, .int .i64 p1), (14, .bool (decide (p1 < (a0.length : Int))))], []⟩ ?_))
 refine then_n ?_
 refine cnd (decide (p1 < (a0.length : Int))) (fun b5 => ?_) (fun b5 => ?_)
 have h6 := cond_t b5 h4
 refine awp_skip (then_n (awp_seq (awp_block (awp_seq ?_))))
 obtain ⟨r3, q8, h9⟩ := bind_some h6
 obtain ⟨c10, h11⟩ := gd_some h9
 refine rg [.pure (.bool r3)] [0, 1, 5, 39] 0 ⟨40, [(0, sL 4 c_TForward a0), (1, sL 4 c_TForward a1), (5, .int .i64 p1), (39, .bool ((!(((((a0.getD p1.toNat default).fPrefix).fAddr) == (((a1.getD p1.toNat default).fPrefix).fAddr)) && (((((a0.getD p1.toNat default).fPrefix).fLen) == (((a1.getD p1.toNat default).fPrefix).fLen)) && true))) || (!r3)))], []⟩ [decide (0 ≤ p1), decide (p1 < (a0.length : Int)), decide (0 ≤ p1), decide (p1 < (a1.length : Int)), guardB (!(!(((((a0.getD p1.toNat default).fPrefix).fAddr) == (((a1.getD p1.toNat default).fPrefix).fAddr)) && (((((a0.getD p1.toNat default).fPrefix).fLen) == (((a1.getD p1.toNat default).fPrefix).fLen)) && true)))) (decide (0 ≤ p1)), guardB (!(!(((((a0.getD p1.toNat default).fPrefix).fAddr) == (((a1.getD p1.toNat default).fPrefix).fAddr)) && (((((a0.getD p1.toNat default).fPrefix).fLen) == (((a1.getD p1.toNat default).fPrefix).fLen)) && true)))) (decide (p1 < (a0.length : Int))), guardB (!(!(((((a0.getD p1.toNat default).fPrefix).fAddr) == (((a1.getD p1.toNat default).fPrefix).fAddr)) && (((((a0.getD p1.toNat default).fPrefix).fLen) == (((a1.getD p1.toNat default).fPrefix).fLen)) && true)))) (decide (0 ≤ p1)), guardB (!(!(((((a0.getD p1.toNat default).fPrefix).fAddr) == (((a1.getD p1.toNat default).fPrefix).fAddr)) && (((((a0.getD p1.toNat default).fPrefix).fLen) == (((a1.getD p1.toNat default).fPrefix).fLen)) && true)))) (decide (p1 < (a1.length : Int)))] [⟨(!(!(((((a0.getD p1.toNat default).fPrefix).fAddr) == (((a1.getD p1.toNat default).fPrefix).fAddr)) && (((((a0.getD p1.toNat default).fPrefix).fLen) == (((a1.getD p1.toNat default).fPrefix).fLen)) && true)))), 25, [.agg (c_TForward (a0.getD p1.toNat default)), .agg (c_TForward (a1.getD p1.toNat default))], .pure (.bool r3)⟩] c10 ⟨fun hg => ref24_SameAction_ok (a0.getD p1.toNat default) (a1.getD p1.toNat default) r3 (gc_some q8 hg), trivial⟩ ?_
 refine then_n ?_
 refine cnd ((!(((((a0.getD p1.toNat default).fPrefix).fAddr) == (((a1.getD p1.toNat default).fPrefix).fAddr)) && (((((a0.getD p1.toNat default).fPrefix).fLen) == (((a1.getD p1.toNat default).fPrefix).fLen)) && true))) || (!r3)) (fun b12 => ?_) (fun b12 => ?_)
 have h13 := cond_t b12 h11
 refine awp_seq (rg0 [4] 0 ⟨40, [(4, .bool false)], []⟩ ?_)
 refine then_n (awp_ret (inb_r (then_r ?_)))
 obtain rfl := Option.some.inj h13
 exact round_r ⟨rfl, er0 (.bool false)⟩
 have h14 := cond_f b12 h11
 refine awp_skip (inb_n (then_n (rg0 [0, 1, 5] 0 ⟨40, [(0, sL 4 c_TForward a0), (1, sL 4 c_TForward a1), (5, .int .i64 (wr .i64 (p1 + 1)))], []⟩ ?_)))
 obtain rfl := Option.some.inj h14
 exact round_n (le_rfl)
 have h7 := cond_f b5 h4
 refine awp_exit (then_e ?_)
 obtain rfl := Option.some.inj h7
 exact round_e ⟨rfl, kp []⟩
 intro e17 s18 o19
 rcases y4 with g5 | y6
 have h20 := elim_l h16
 obtain ⟨rfl, l22⟩ := o19
 refine inb_here ?_
 refine then_le (s' := ⟨40, [], []⟩) (l22) ?_
 refine awp_seq (rg0 [4] 0 ⟨40, [(4, .bool true)], []⟩ ?_)
 refine then_n (awp_ret ?_)
 obtain rfl := Option.some.inj h20
 exact er0 (.bool true)
 have h21 := elim_r h16
 obtain ⟨rfl, n23⟩ := o19
 refine inb_r (then_r ?_)
 obtain rfl := Option.some.inj h21
 exact n23
theorem scan_letter_ok (a0 : Int) (r : Bool) (h : M.scan_letter a0 = some r) : Fn Tryz.prog 230 [.int .u8 a0] (.pure (.bool r)) := by
 unfold M.scan_letter at h
 refine fn_pure Tryz.func230 rfl (by kernel_rfl) ?_
 refine awp_seq (rg0 [0] 0 ⟨17, [(0, .int .u8 a0)], []⟩ ?_)
 refine then_n (awp_seq (rg0 [2] 0 ⟨17, [(2, .bool (((decide (65 ≤ a0)) && (decide (a0 ≤ 90))) || ((decide (97 ≤ a0)) && (decide (a0 ≤ 122)))))], []⟩ ?_))
 refine then_n (awp_ret ?_)
 obtain rfl := Option.some.inj h
 exact er0 (.bool (((decide (65 ≤ a0)) && (decide (a0 ≤ 90))) || ((decide (97 ≤ a0)) && (decide (a0 ≤ 122)))))
theorem scan_digit_ok (a0 : Int) (r : Bool) (h : M.scan_digit a0 = some r) : Fn Tryz.prog 231 [.int .u8 a0] (.pure (.bool r)) := by
 unfold M.scan_digit at h
 refine fn_pure Tryz.func231 rfl (by kernel_rfl) ?_
 refine awp_seq (rg0 [0] 0 ⟨9, [(0, .int .u8 a0)], []⟩ ?_)
 refine then_n (awp_seq (rg0 [2] 0 ⟨9, [(2, .bool ((decide (48 ≤ a0)) && (decide (a0 ≤ 57))))], []⟩ ?_))
 refine then_n (awp_ret ?_)
 obtain rfl := Option.some.inj h
 exact er0 (.bool ((decide (48 ≤ a0)) && (decide (a0 ≤ 57))))
theorem scan_Name_ok (a0 : ByteArray) (r : Bool) (h : M.scan_Name a0 = some r) : Fn Tryz.prog 173 [.str a0] (.pure (.bool r)) := by
 unfold M.scan_Name at h
 refine fn_pure Tryz.func173 rfl (by kernel_rfl) ?_
 refine awp_seq (rg0 [0] 0 ⟨52, [(0, .str a0)], []⟩ ?_)
 refine then_n (awp_seq (awp_seq ?_))
 obtain ⟨r1, q1, h2⟩ := bind_some h
 obtain ⟨c3, h4⟩ := gd_some h2
 refine rg [.pure (.bool r1)] [0, 18] 0 ⟨52, [(0, .str a0), (18, .bool (((decide ((a0.size : Int) < 1)) || (decide ((a0.size : Int) > 15))) || (!r1)))], []⟩ [guardB (!((decide ((a0.size : Int) < 1)) || (decide ((a0.size : Int) > 15)))) (decide (0 ≤ 0)), guardB (!((decide ((a0.size : Int) < 1)) || (decide ((a0.size : Int) > 15)))) (decide (0 < (a0.size : Int)))] [⟨(!((decide ((a0.size : Int) < 1)) || (decide ((a0.size : Int) > 15)))), 230, [.int .u8 (byteAt a0 0)], .pure (.bool r1)⟩] c3 ⟨fun hg => scan_letter_ok (byteAt a0 0) r1 (gc_some q1 hg), trivial⟩ ?_
 refine then_n ?_
 refine cnd (((decide ((a0.size : Int) < 1)) || (decide ((a0.size : Int) > 15))) || (!r1)) (fun b5 => ?_) (fun b5 => ?_)
 have h6 := cond_t b5 h4
 refine awp_seq ?_
 cases h6
 have h7 := cond_f b5 h4
 refine awp_skip (then_n (awp_seq (awp_seq (rg0 [0, 3] 0 ⟨52, [(0, .str a0), (3, .int .i64 1)], []⟩ ?_))))
 refine then_n (awp_block ?_)
 obtain ⟨y6, q21, h22⟩ := bind_some h7
 refine awp_le (s' := ⟨52, [(0, .str a0), (3, .int .i64 1)], []⟩) (le_rfl) ?_
 refine awp_mono (awp_loop (f := M.scan_Name_l1 a0) (S := fun (p2 : Int) => ⟨52, [(0, .str a0), (3, .int .i64 p2)], []⟩) (O := (fun z => OutE 0 (fun z => ⟨52, [], []⟩) z)) ?_ (x := 1) (y := y6) (loopM_iter q21)) ?_
 intro p2 y3 h8
 unfold M.scan_Name_l1 at h8
 refine awp_seq (awp_seq (rg0 [0, 3, 22] 0 ⟨52, [(0, .str a0), (3, .int .i64 p2), (22, .bool (decide (p2 < (a0.size : Int))))], []⟩ ?_))
 refine then_n ?_
 refine cnd (decide (p2 < (a0.size : Int))) (fun b9 => ?_) (fun b9 => ?_)
 have h10 := cond_t b9 h8
 refine awp_skip (then_n (awp_seq (awp_block (awp_seq ?_))))
 obtain ⟨c12, h13⟩ := gd_some h10
 refine rgc [0, 3, 4] 0 ⟨52, [(0, .str a0), (3, .int .i64 p2), (4, .int .u8 (byteAt a0 p2))], []⟩ [decide (0 ≤ p2), decide (p2 < (a0.size : Int))] c12 ?_
 refine then_n (awp_seq ?_)
 obtain ⟨r4, q14, h15⟩ := bind_some h13
 obtain ⟨r5, q16, h17⟩ := bind_some h15
 refine rg [.pure (.bool r4), .pure (.bool r5)] [0, 3, 51] 0 ⟨52, [(0, .str a0), (3, .int .i64 p2), (51, .bool ((((((!r4) && (!r5)) && ((byteAt a0 p2) != 45)) && ((byteAt a0 p2) != 95)) && ((byteAt a0 p2) != 47)) && ((byteAt a0 p2) != 46)))], []⟩ [] [⟨true, 230, [.int .u8 (byteAt a0 p2)], .pure (.bool r4)⟩, ⟨!r4, 231, [.int .u8 (byteAt a0 p2)], .pure (.bool r5)⟩] nil_all ⟨fun _ => scan_letter_ok (byteAt a0 p2) r4 q14, fun hg => scan_digit_ok (byteAt a0 p2) r5 (gc_some q16 hg), trivial⟩ ?_
 refine then_n ?_
 refine cnd ((((((!r4) && (!r5)) && ((byteAt a0 p2) != 45)) && ((byteAt a0 p2) != 95)) && ((byteAt a0 p2) != 47)) && ((byteAt a0 p2) != 46)) (fun b18 => ?_) (fun b18 => ?_)
 have h19 := cond_t b18 h17
 refine awp_seq ?_
 cases h19
 have h20 := cond_f b18 h17
 refine awp_skip (inb_n (then_n (rg0 [0, 3] 0 ⟨52, [(0, .str a0), (3, .int .i64 (wr .i64 (p2 + 1)))], []⟩ ?_)))
 obtain rfl := Option.some.inj h20
 exact round_n (le_rfl)
 have h11 := cond_f b9 h8
 refine awp_exit (then_e ?_)
 obtain rfl := Option.some.inj h11
 exact round_e ⟨rfl, kp []⟩
 intro e23 s24 o25
 obtain ⟨rfl, l26⟩ := o25
 refine inb_here ?_
 refine then_le (s' := ⟨52, [], []⟩) (l26) ?_
 refine awp_seq (rg0 [2] 0 ⟨52, [(2, .bool true)], []⟩ ?_)
 refine then_n (awp_ret ?_)
 obtain rfl := Option.some.inj h22
 exact er0 (.bool true)
theorem model_within_ok (a0 : Int) (a1 : Int) (a2 : Int) (r : Bool) (h : M.model_within a0 a1 a2 = some r) : Fn Tryz.prog 174 [.int .i64 a0, .int .i64 a1, .int .i64 a2] (.pure (.bool r)) := by
 unfold M.model_within at h
 refine fn_pure Tryz.func174 rfl (by kernel_rfl) ?_
 refine awp_seq (rg0 [0, 1, 2] 0 ⟨15, [(0, .int .i64 a0), (1, .int .i64 a1), (2, .int .i64 a2)], []⟩ ?_)
 refine then_n (awp_seq (rg0 [6] 0 ⟨15, [(6, .bool ((decide (a1 ≤ a0)) && (decide (a0 ≤ a2))))], []⟩ ?_))
 refine then_n (awp_ret ?_)
 obtain rfl := Option.some.inj h
 exact er0 (.bool ((decide (a1 ≤ a0)) && (decide (a0 ≤ a2))))
theorem model_Interface_1_ok (a0 : TInterface) (b0 : ByteArray) (r : Bool) (h : M.model_Interface_1 a0 b0 = some r) : Fn Tryz.prog 261 [.agg (c_TInterface a0), .pp (cs b0)] (.pure (.bool r)) := by
 unfold M.model_Interface_1 at h
 refine fn_pure Tryz.func261 rfl (by kernel_rfl) ?_
 refine awp_seq (rg0 [1, 2] 1 ⟨8, [(1, .pp (cs b0)), (2, .ref 0 0)], [.box (c_TInterface a0)]⟩ ?_)
 refine then_n (awp_seq (rg0 [3] 0 ⟨8, [(3, .bool (strEq a0.fName b0))], []⟩ ?_))
 refine then_n (awp_ret ?_)
 obtain rfl := Option.some.inj h
 exact er0 (.bool (strEq a0.fName b0))
theorem slices_IndexFunc_api_Interface_api_Interface__model_Interface_1_ok (a0 : List TInterface) (a1c0 : ByteArray) (r : Int) (h : M.slices_IndexFunc_api_Interface_api_Interface__model_Interface_1 a0 a1c0 = some r) : Fn Tryz.prog 247 [sL 12 c_TInterface a0, .fn 261 [.pp (cs a1c0)]] (.pure (.int .i64 r)) := by
 unfold M.slices_IndexFunc_api_Interface_api_Interface__model_Interface_1 at h
 refine fn_pure Tryz.func247 rfl (by kernel_rfl) ?_
 refine awp_seq (rg0 [0, 1] 0 ⟨19, [(0, sL 12 c_TInterface a0), (1, .fn 261 [.pp (cs a1c0)])], []⟩ ?_)
 refine then_n (awp_seq (awp_seq (rg0 [0, 1, 7, 8] 0 ⟨19, [(0, sL 12 c_TInterface a0), (1, .fn 261 [.pp (cs a1c0)]), (7, .int .i64 (a0.length : Int)), (8, .int .i64 0)], []⟩ ?_)))
 refine then_n (awp_block ?_)
 obtain ⟨y4, q12, h13⟩ := bind_some h
 refine awp_le (s' := ⟨19, [(0, sL 12 c_TInterface a0), (1, .fn 261 [.pp (cs a1c0)]), (7, .int .i64 (a0.length : Int)), (8, .int .i64 0)], []⟩) (le_rfl) ?_
 refine awp_mono (awp_loop (f := M.slices_IndexFunc_api_Interface_api_Interface__model_Interface_1_l1 a0 a1c0) (S := fun (p1 : Int) => ⟨19, [(0, sL 12 c_TInterface a0), (1, .fn 261 [.pp (cs a1c0)]), (7, .int .i64 (a0.length : Int)), (8, .int .i64 p1)], []⟩) (O := (Sum.elim (fun z => OutE 0 (fun z => ⟨19, [], []⟩) z) (fun z => OutR Tryz.prog Tryz.f247 (.int .i64 z)))) ?_ (x := 0) (y := y4) (loopM_iter q12)) ?_
 intro p1 y2 h1
 unfold M.slices_IndexFunc_api_Interface_api_Interface__model_Interface_1_l1 at h1
 refine awp_seq (rg0 [0, 1, 7, 8, 9] 0 ⟨19, [(0, sL 12 c_TInterface a0), (1, .fn 261 [.pp (cs a1c0)]), (7, .int .i64 (a0.length : Int)), (8, .int .i64 p1), (9, .bool (decide (p1 < (a0.length : Int))))], []⟩ ?_)
 refine then_n (awp_seq ?_)
 refine cnd (decide (p1 < (a0.length : Int))) (fun b2 => ?_) (fun b2 => ?_)
 have h3 := cond_t b2 h1
 refine awp_skip (then_n (awp_seq (awp_block (awp_seq (rg0 [0, 1, 5, 7, 8] 0 ⟨19, [(0, sL 12 c_TInterface a0), (1, .fn 261 [.pp (cs a1c0)]), (5, .int .i64 p1), (7, .int .i64 (a0.length : Int)), (8, .int .i64 p1)], []⟩ ?_)))))
 refine then_n (awp_seq ?_)
 obtain ⟨r3, q5, h6⟩ := bind_some h3
 obtain ⟨c7, h8⟩ := gd_some h6
 refine rg [.pure (.bool r3)] [0, 1, 5, 7, 8, 16] 0 ⟨19, [(0, sL 12 c_TInterface a0), (1, .fn 261 [.pp (cs a1c0)]), (5, .int .i64 p1), (7, .int .i64 (a0.length : Int)), (8, .int .i64 p1), (16, .bool r3)], []⟩ [decide (0 ≤ p1), decide (p1 < (a0.length : Int))] [⟨true, 261, [.agg (c_TInterface (a0.getD p1.toNat default)), .pp (cs a1c0)], .pure (.bool r3)⟩] c7 ⟨fun _ => model_Interface_1_ok (a0.getD p1.toNat default) a1c0 r3 q5, trivial⟩ ?_
 refine then_n ?_
 refine cnd r3 (fun b9 => ?_) (fun b9 => ?_)
 have h10 := cond_t b9 h8
 refine awp_seq (rg0 [4] 0 ⟨19, [(4, .int .i64 p1)], []⟩ ?_)
 refine then_n (awp_ret (inb_r (then_r ?_)))
 obtain rfl := Option.some.inj h10
 exact round_r ⟨rfl, er0 (.int .i64 p1)⟩
 have h11 := cond_f b9 h8
 refine awp_skip (inb_n (then_n (rg0 [0, 1, 7, 8] 0 ⟨19, [(0, sL 12 c_TInterface a0), (1, .fn 261 [.pp (cs a1c0)]), (7, .int .i64 (a0.length : Int)), (8, .int .i64 (wr .i64 (p1 + 1)))], []⟩ ?_)))
 obtain rfl := Option.some.inj h11
 exact round_n (le_rfl)
 have h4 := cond_f b2 h1
 refine awp_exit (then_e ?_)
 obtain rfl := Option.some.inj h4
 exact round_e ⟨rfl, kp []⟩
 intro e14 s15 o16
 rcases y4 with g5 | y6
 have h17 := elim_l h13
 obtain ⟨rfl, l19⟩ := o16
 refine inb_here ?_
 refine then_le (s' := ⟨19, [], []⟩) (l19) ?_
 refine awp_seq (rg0 [4] 0 ⟨19, [(4, .int .i64 (-1))], []⟩ ?_)
 refine then_n (awp_ret ?_)
 obtain rfl := Option.some.inj h17
 exact er0 (.int .i64 (-1))
 have h18 := elim_r h13
 obtain ⟨rfl, n20⟩ := o16
 refine inb_r (then_r ?_)
 obtain rfl := Option.some.inj h18
 exact n20
theorem model_Interface_ok (a0 : TRouter) (a1 : ByteArray) (r : Int) (h : M.model_Interface a0 a1 = some r) : Fn Tryz.prog 232 [.agg (c_TRouter a0), .str a1] (.pure (.int .i64 r)) := by
 unfold M.model_Interface at h
 refine fn_pure Tryz.func232 rfl (by kernel_rfl) ?_
 refine awp_seq (rg0 [2, 3] 2 ⟨9, [(2, .ref 0 0), (3, .ref 1 0)], [.box (c_TRouter a0), .box [.str a1]]⟩ ?_)
 refine then_n (awp_seq ?_)
 obtain ⟨r1, q1, h2⟩ := bind_some h
 refine rg [.pure (.int .i64 r1)] [4] 0 ⟨9, [(4, .int .i64 r1)], []⟩ [] [⟨true, 247, [sL 12 c_TInterface a0.fInterfaces, .fn 261 [.pp (cs a1)]], .pure (.int .i64 r1)⟩] nil_all ⟨fun _ => slices_IndexFunc_api_Interface_api_Interface__model_Interface_1_ok a0.fInterfaces a1 r1 q1, trivial⟩ ?_
 refine then_n (awp_ret ?_)
 obtain rfl := Option.some.inj h2
 exact er0 (.int .i64 r1)
theorem model_rightInterface_ok (a0 : TInterface) (r : Bool) (h : M.model_rightInterface a0 = some r) : Fn Tryz.prog 233 [.agg (c_TInterface a0)] (.pure (.bool r)) := by
 unfold M.model_rightInterface at h
 refine fn_pure Tryz.func233 rfl (by kernel_rfl) ?_
 refine awp_seq (rg0 [1] 1 ⟨81, [(1, .ref 0 0)], [.box (c_TInterface a0)]⟩ ?_)
 refine then_n (awp_seq (awp_seq ?_))
 obtain ⟨r1, q1, h2⟩ := bind_some h
 obtain ⟨r2, q3, h4⟩ := bind_some h2
 obtain ⟨r3, q5, h6⟩ := bind_some h4
 refine rg [.pure (.bool r1), .pure (.bool r2), .pure (.bool r3)] [1, 18] 1 ⟨81, [(1, .ref 0 0), (18, .bool (((!r1) || (!r2)) || (!r3)))], [.box (c_TInterface a0)]⟩ [] [⟨true, 174, [.int .i64 a0.fLen, .int .i64 0, .int .i64 32], .pure (.bool r1)⟩, ⟨(!(!r1)), 174, [.int .i64 a0.fVLAN, .int .i64 0, .int .i64 4094], .pure (.bool r2)⟩, ⟨(!((!r1) || (!r2))), 174, [.int .i64 a0.fSide, .int .i64 0, .int .i64 2], .pure (.bool r3)⟩] nil_all ⟨fun _ => model_within_ok a0.fLen 0 32 r1 q1, fun hg => model_within_ok a0.fVLAN 0 4094 r2 (gc_some q3 hg), fun hg => model_within_ok a0.fSide 0 2 r3 (gc_some q5 hg), trivial⟩ ?_
 refine then_n ?_
 refine cnd (((!r1) || (!r2)) || (!r3)) (fun b7 => ?_) (fun b7 => ?_)
 have h8 := cond_t b7 h6
 refine awp_seq ?_
 cases h8
 have h9 := cond_f b7 h6
 refine awp_skip (then_n (awp_seq (awp_seq (rg0 [1, 54] 1 ⟨81, [(1, .ref 0 0), (54, .bool ((a0.fLen == 0) && (((((((a0.fAddr != 0) || (a0.fVLAN != 0)) || (a0.fSide != 0)) || a0.fLS) || a0.fDV) || (!strEq a0.fIn (⟨#[]⟩ : ByteArray))) || (!strEq a0.fOut (⟨#[]⟩ : ByteArray)))))], [.box (c_TInterface a0)]⟩ ?_))))
 refine then_n ?_
 refine cnd ((a0.fLen == 0) && (((((((a0.fAddr != 0) || (a0.fVLAN != 0)) || (a0.fSide != 0)) || a0.fLS) || a0.fDV) || (!strEq a0.fIn (⟨#[]⟩ : ByteArray))) || (!strEq a0.fOut (⟨#[]⟩ : ByteArray)))) (fun b10 => ?_) (fun b10 => ?_)
 have h11 := cond_t b10 h9
 refine awp_seq ?_
 cases h11
 have h12 := cond_f b10 h9
 refine awp_skip (then_n (awp_seq (awp_seq (rg0 [1, 62] 1 ⟨81, [(1, .ref 0 0), (62, .bool ((a0.fLen != 0) && (a0.fAddr == 0)))], [.box (c_TInterface a0)]⟩ ?_))))
 refine then_n ?_
 refine cnd ((a0.fLen != 0) && (a0.fAddr == 0)) (fun b13 => ?_) (fun b13 => ?_)
 have h14 := cond_t b13 h12
 refine awp_seq ?_
 cases h14
 have h15 := cond_f b13 h12
 refine awp_skip (then_n (awp_seq (awp_seq (rg0 [1, 64] 1 ⟨81, [(1, .ref 0 0), (64, .bool a0.fLS)], [.box (c_TInterface a0)]⟩ ?_))))
 refine then_n ?_
 refine cnd a0.fLS (fun b16 => ?_) (fun b16 => ?_)
 have h17 := cond_t b16 h15
 refine awp_seq ?_
 cases h17
 have h18 := cond_f b16 h15
 refine awp_skip (then_n (awp_seq (rg0 [2] 0 ⟨81, [(2, .bool ((a0.fArea == 0) && (a0.fCost == 0)))], []⟩ ?_)))
 refine then_n (awp_ret ?_)
 obtain rfl := Option.some.inj h18
 exact er0 (.bool ((a0.fArea == 0) && (a0.fCost == 0)))
theorem model_checkInterfaces_ok (a0 : TRouter) (r : Int) (h : M.model_checkInterfaces a0 = some r) : Fn Tryz.prog 175 [.agg (c_TRouter a0)] (.pure (.int .i64 r)) := by
 unfold M.model_checkInterfaces at h
 refine fn_pure Tryz.func175 rfl (by kernel_rfl) ?_
 refine awp_seq (rg0 [1] 1 ⟨64, [(1, .ref 0 0)], [.box (c_TRouter a0)]⟩ ?_)
 refine then_n (awp_seq (awp_seq (rg0 [1, 10] 1 ⟨64, [(1, .ref 0 0), (10, .bool (decide ((a0.fInterfaces.length : Int) > 8)))], [.box (c_TRouter a0)]⟩ ?_)))
 refine then_n ?_
 refine cnd (decide ((a0.fInterfaces.length : Int) > 8)) (fun b1 => ?_) (fun b1 => ?_)
 have h2 := cond_t b1 h
 refine awp_seq ?_
 cases h2
 have h3 := cond_f b1 h
 refine awp_skip (then_n (awp_seq (awp_seq (rg0 [1, 12, 13, 14] 1 ⟨64, [(1, .ref 0 0), (12, sL 12 c_TInterface a0.fInterfaces), (13, .int .i64 (a0.fInterfaces.length : Int)), (14, .int .i64 0)], [.box (c_TRouter a0)]⟩ ?_))))
 refine then_n (awp_block ?_)
 obtain ⟨y9, q37, h38⟩ := bind_some h3
 refine awp_le (s' := ⟨64, [(1, .ref 0 0), (12, sL 12 c_TInterface a0.fInterfaces), (13, .int .i64 (a0.fInterfaces.length : Int)), (14, .int .i64 0)], [.box (c_TRouter a0)]⟩) (le_rfl) ?_
 refine awp_mono (awp_loop (f := M.model_checkInterfaces_l1 a0) (S := fun (p1 : Int) => ⟨64, [(1, .ref 0 0), (12, sL 12 c_TInterface a0.fInterfaces), (13, .int .i64 (a0.fInterfaces.length : Int)), (14, .int .i64 p1)], [.box (c_TRouter a0)]⟩) (O := (fun z => OutE 0 (fun z => ⟨64, [], []⟩) z)) ?_ (x := 0) (y := y9) (loopM_iter q37)) ?_
 intro p1 y2 h4
 unfold M.model_checkInterfaces_l1 at h4
 refine awp_seq (rg0 [1, 12, 13, 14, 15] 1 ⟨64, [(1, .ref 0 0), (12, sL 12 c_TInterface a0.fInterfaces), (13, .int .i64 (a0.fInterfaces.length : Int)), (14, .int .i64 p1), (15, .bool (decide (p1 < (a0.fInterfaces.length : Int))))], [.box (c_TRouter a0)]⟩ ?_)
 refine then_n (awp_seq ?_)
 refine cnd (decide (p1 < (a0.fInterfaces.length : Int))) (fun b5 => ?_) (fun b5 => ?_)
 have h6 := cond_t b5 h4
 refine awp_skip (then_n (awp_seq (awp_block (awp_seq ?_))))
 obtain ⟨c8, h9⟩ := gd_some h6
 refine rgc [1, 3, 4, 12, 13, 14] 2 ⟨64, [(1, .ref 0 0), (3, .int .i64 p1), (4, .ref 1 0), (12, sL 12 c_TInterface a0.fInterfaces), (13, .int .i64 (a0.fInterfaces.length : Int)), (14, .int .i64 p1)], [.box (c_TRouter a0), .box (c_TInterface (a0.fInterfaces.getD p1.toNat default))]⟩ [decide (0 ≤ p1), decide (p1 < (a0.fInterfaces.length : Int))] c8 ?_
 refine then_n (awp_seq (awp_seq ?_))
 obtain ⟨r3, q10, h11⟩ := bind_some h9
 refine rg [.pure (.bool r3)] [1, 3, 4, 12, 13, 14, 22] 2 ⟨64, [(1, .ref 0 0), (3, .int .i64 p1), (4, .ref 1 0), (12, sL 12 c_TInterface a0.fInterfaces), (13, .int .i64 (a0.fInterfaces.length : Int)), (14, .int .i64 p1), (22, .bool (!r3))], [.box (c_TRouter a0), .box (c_TInterface (a0.fInterfaces.getD p1.toNat default))]⟩ [] [⟨true, 173, [.str ((a0.fInterfaces.getD p1.toNat default).fName)], .pure (.bool r3)⟩] nil_all ⟨fun _ => scan_Name_ok ((a0.fInterfaces.getD p1.toNat default).fName) r3 q10, trivial⟩ ?_
 refine then_n ?_
 refine cnd (!r3) (fun b12 => ?_) (fun b12 => ?_)
 have h13 := cond_t b12 h11
 refine awp_seq ?_
 cases h13
 have h14 := cond_f b12 h11
 refine awp_skip (then_n (awp_seq (awp_seq ?_)))
 obtain ⟨r4, q15, h16⟩ := bind_some h14
 refine rg [.pure (.int .i64 r4)] [1, 3, 4, 12, 13, 14, 28] 2 ⟨64, [(1, .ref 0 0), (3, .int .i64 p1), (4, .ref 1 0), (12, sL 12 c_TInterface a0.fInterfaces), (13, .int .i64 (a0.fInterfaces.length : Int)), (14, .int .i64 p1), (28, .bool (decide (r4 < p1)))], [.box (c_TRouter a0), .box (c_TInterface (a0.fInterfaces.getD p1.toNat default))]⟩ [] [⟨true, 232, [.agg (c_TRouter a0), .str ((a0.fInterfaces.getD p1.toNat default).fName)], .pure (.int .i64 r4)⟩] nil_all ⟨fun _ => model_Interface_ok a0 ((a0.fInterfaces.getD p1.toNat default).fName) r4 q15, trivial⟩ ?_
 refine then_n ?_
 refine cnd (decide (r4 < p1)) (fun b17 => ?_) (fun b17 => ?_)
 have h18 := cond_t b17 h16
 refine awp_seq ?_
 cases h18
 have h19 := cond_f b17 h16
 refine awp_skip (then_n (awp_seq (awp_seq ?_)))
 obtain ⟨r5, q20, h21⟩ := bind_some h19
 refine rg [.pure (.bool r5)] [1, 3, 4, 12, 13, 14, 31] 2 ⟨64, [(1, .ref 0 0), (3, .int .i64 p1), (4, .ref 1 0), (12, sL 12 c_TInterface a0.fInterfaces), (13, .int .i64 (a0.fInterfaces.length : Int)), (14, .int .i64 p1), (31, .bool (!r5))], [.box (c_TRouter a0), .box (c_TInterface (a0.fInterfaces.getD p1.toNat default))]⟩ [] [⟨true, 233, [.agg (c_TInterface (a0.fInterfaces.getD p1.toNat default))], .pure (.bool r5)⟩] nil_all ⟨fun _ => model_rightInterface_ok (a0.fInterfaces.getD p1.toNat default) r5 q20, trivial⟩ ?_
 refine then_n ?_
 refine cnd (!r5) (fun b22 => ?_) (fun b22 => ?_)
 have h23 := cond_t b22 h21
 refine awp_seq ?_
 cases h23
 have h24 := cond_f b22 h21
 refine awp_skip (then_n (awp_seq ?_))
 obtain ⟨c25, h26⟩ := gd_some h24
 refine rgc [1, 4, 12, 13, 14, 35, 36, 37] 2 ⟨64, [(1, .ref 0 0), (4, .ref 1 0), (12, sL 12 c_TInterface a0.fInterfaces), (13, .int .i64 (a0.fInterfaces.length : Int)), (14, .int .i64 p1), (35, .sl false 12 (p1.toNat - 0) (fun i => c_TInterface (a0.fInterfaces.getD (0 + i) default))), (36, .int .i64 ((p1.toNat - 0 : Nat) : Int)), (37, .int .i64 0)], [.box (c_TRouter a0), .box (c_TInterface (a0.fInterfaces.getD p1.toNat default))]⟩ [decide (0 ≤ p1), decide (p1 ≤ (a0.fInterfaces.length : Int))] c25 ?_
 refine then_le (s' := ⟨64, [(1, .ref 0 0), (4, .ref 1 0), (12, sL 12 c_TInterface a0.fInterfaces), (13, .int .i64 (a0.fInterfaces.length : Int)), (14, .int .i64 p1), (35, sL 12 c_TInterface ((a0.fInterfaces.drop 0).take (p1.toNat - 0))), (36, .int .i64 ((p1.toNat - 0 : Nat) : Int)), (37, .int .i64 0)], [.box (c_TRouter a0), .box (c_TInterface (a0.fInterfaces.getD p1.toNat default))]⟩) (le_sub (.cons Sub.rfl (.cons Sub.rfl (.cons Sub.rfl (.cons Sub.rfl (.cons Sub.rfl (.cons (sub_sl (len_cut _ _ _ (cut_hi (c25 _ (List.mem_cons_of_mem _ List.mem_cons_self)))) (cut_ext _ _ _ _)) (.cons Sub.rfl (.cons Sub.rfl .nil)))))))) (.cons .rfl (.cons .rfl .nil))) ?_
 refine awp_block ?_
 obtain ⟨y8, q31, h32⟩ := bind_some h26
 refine awp_le (s' := ⟨64, [(1, .ref 0 0), (4, .ref 1 0), (12, sL 12 c_TInterface a0.fInterfaces), (13, .int .i64 (a0.fInterfaces.length : Int)), (14, .int .i64 p1), (35, sL 12 c_TInterface ((a0.fInterfaces.drop 0).take (p1.toNat - 0))), (36, .int .i64 ((p1.toNat - 0 : Nat) : Int)), (37, .int .i64 0)], [.box (c_TRouter a0), .box (c_TInterface (a0.fInterfaces.getD p1.toNat default))]⟩) (le_rfl) ?_
 refine awp_mono (awp_loop (f := M.model_checkInterfaces_l2 p1) (S := fun (p6 : Int) => ⟨64, [(1, .ref 0 0), (4, .ref 1 0), (12, sL 12 c_TInterface a0.fInterfaces), (13, .int .i64 (a0.fInterfaces.length : Int)), (14, .int .i64 p1), (35, sL 12 c_TInterface ((a0.fInterfaces.drop 0).take (p1.toNat - 0))), (36, .int .i64 ((p1.toNat - 0 : Nat) : Int)), (37, .int .i64 p6)], [.box (c_TRouter a0), .box (c_TInterface (a0.fInterfaces.getD p1.toNat default))]⟩) (O := (fun z => OutE 2 (fun z => ⟨64, [(1, .ref 0 0), (12, sL 12 c_TInterface a0.fInterfaces), (13, .int .i64 (a0.fInterfaces.length : Int)), (14, .int .i64 p1)], [.box (c_TRouter a0)]⟩) z)) ?_ (x := 0) (y := y8) (loopM_iter q31)) ?_
 intro p6 y7 h27
 unfold M.model_checkInterfaces_l2 at h27
 refine awp_seq (rg0 [1, 4, 12, 13, 14, 35, 36, 37, 38] 2 ⟨64, [(1, .ref 0 0), (4, .ref 1 0), (12, sL 12 c_TInterface a0.fInterfaces), (13, .int .i64 (a0.fInterfaces.length : Int)), (14, .int .i64 p1), (35, sL 12 c_TInterface ((a0.fInterfaces.drop 0).take (p1.toNat - 0))), (36, .int .i64 ((p1.toNat - 0 : Nat) : Int)), (37, .int .i64 p6), (38, .bool (decide (p6 < ((p1.toNat - 0 : Nat) : Int))))], [.box (c_TRouter a0), .box (c_TInterface (a0.fInterfaces.getD p1.toNat default))]⟩ ?_)
 refine then_n (awp_seq ?_)
 refine cnd (decide (p6 < ((p1.toNat - 0 : Nat) : Int))) (fun b28 => ?_) (fun b28 => ?_)
 have h29 := cond_t b28 h27
 refine awp_skip (then_n (awp_seq (awp_block (awp_seq ?_))))
 cases h29
 have h30 := cond_f b28 h27
 refine awp_exit (then_e ?_)
 obtain rfl := Option.some.inj h30
 exact round_e ⟨rfl, Le.trans (s' := ⟨64, [(1, .ref 0 0), (12, sL 12 c_TInterface a0.fInterfaces), (13, .int .i64 (a0.fInterfaces.length : Int)), (14, .int .i64 p1)], [.box (c_TRouter a0), .box (c_TInterface (a0.fInterfaces.getD p1.toNat default))]⟩) (kp [1, 12, 13, 14]) (le_cut (n := 1) (by kernel_rfl))⟩
 intro e33 s34 o35
 obtain ⟨rfl, l36⟩ := o35
 refine inb_here (inb_n ?_)
 refine then_le (s' := ⟨64, [(1, .ref 0 0), (12, sL 12 c_TInterface a0.fInterfaces), (13, .int .i64 (a0.fInterfaces.length : Int)), (14, .int .i64 p1)], [.box (c_TRouter a0)]⟩) (l36) ?_
 refine rg0 [1, 12, 13, 14] 1 ⟨64, [(1, .ref 0 0), (12, sL 12 c_TInterface a0.fInterfaces), (13, .int .i64 (a0.fInterfaces.length : Int)), (14, .int .i64 (wr .i64 (p1 + 1)))], [.box (c_TRouter a0)]⟩ ?_
 obtain rfl := Option.some.inj h32
 exact round_n (le_rfl)
 have h7 := cond_f b5 h4
 refine awp_exit (then_e ?_)
 obtain rfl := Option.some.inj h7
 exact round_e ⟨rfl, Le.trans (s' := ⟨64, [], [.box (c_TRouter a0)]⟩) (kp []) (le_cut (n := 0) (by kernel_rfl))⟩
 intro e39 s40 o41
 obtain ⟨rfl, l42⟩ := o41
 refine inb_here ?_
 refine then_le (s' := ⟨64, [], []⟩) (l42) ?_
 refine awp_seq (rg0 [2] 0 ⟨64, [(2, .int .i64 0)], []⟩ ?_)
 refine then_n (awp_ret ?_)
 obtain rfl := Option.some.inj h38
 exact er0 (.int .i64 0)
theorem model_checkPrefixLists_ok (a0 : TRouter) (r : Int) (h : M.model_checkPrefixLists a0 = some r) : Fn Tryz.prog 176 [.agg (c_TRouter a0)] (.pure (.int .i64 r)) := by
 unfold M.model_checkPrefixLists at h
 refine fn_pure Tryz.func176 rfl (by kernel_rfl) ?_
 refine awp_seq (rg0 [1] 1 ⟨67, [(1, .ref 0 0)], [.box (c_TRouter a0)]⟩ ?_)
 refine then_n (awp_seq (awp_seq (rg0 [1, 11] 1 ⟨67, [(1, .ref 0 0), (11, .bool (decide ((a0.fLists.length : Int) > 8)))], [.box (c_TRouter a0)]⟩ ?_)))
 refine then_n ?_
 refine cnd (decide ((a0.fLists.length : Int) > 8)) (fun b1 => ?_) (fun b1 => ?_)
 have h2 := cond_t b1 h
 refine awp_seq ?_
 cases h2
 have h3 := cond_f b1 h
 refine awp_skip (then_n (awp_seq (awp_seq (rg0 [1, 13, 14, 15] 1 ⟨67, [(1, .ref 0 0), (13, sL 2 c_TPrefixList a0.fLists), (14, .int .i64 (a0.fLists.length : Int)), (15, .int .i64 0)], [.box (c_TRouter a0)]⟩ ?_))))
 refine then_n (awp_block ?_)
 obtain ⟨y3, q8, h9⟩ := bind_some h3
 refine awp_le (s' := ⟨67, [(1, .ref 0 0), (13, sL 2 c_TPrefixList a0.fLists), (14, .int .i64 (a0.fLists.length : Int)), (15, .int .i64 0)], [.box (c_TRouter a0)]⟩) (le_rfl) ?_
 refine awp_mono (awp_loop (f := M.model_checkPrefixLists_l1 a0) (S := fun (p1 : Int) => ⟨67, [(1, .ref 0 0), (13, sL 2 c_TPrefixList a0.fLists), (14, .int .i64 (a0.fLists.length : Int)), (15, .int .i64 p1)], [.box (c_TRouter a0)]⟩) (O := (fun z => OutE 0 (fun z => ⟨67, [], []⟩) z)) ?_ (x := 0) (y := y3) (loopM_iter q8)) ?_
 intro p1 y2 h4
 unfold M.model_checkPrefixLists_l1 at h4
 refine awp_seq (rg0 [1, 13, 14, 15, 16] 1 ⟨67, [(1, .ref 0 0), (13, sL 2 c_TPrefixList a0.fLists), (14, .int .i64 (a0.fLists.length : Int)), (15, .int .i64 p1), (16, .bool (decide (p1 < (a0.fLists.length : Int))))], [.box (c_TRouter a0)]⟩ ?_)
 refine then_n (awp_seq ?_)
 refine cnd (decide (p1 < (a0.fLists.length : Int))) (fun b5 => ?_) (fun b5 => ?_)
 have h6 := cond_t b5 h4
 refine awp_skip (then_n (awp_seq (awp_block (awp_seq ?_))))
 cases h6
 have h7 := cond_f b5 h4
 refine awp_exit (then_e ?_)
 obtain rfl := Option.some.inj h7
 exact round_e ⟨rfl, Le.trans (s' := ⟨67, [], [.box (c_TRouter a0)]⟩) (kp []) (le_cut (n := 0) (by kernel_rfl))⟩
 intro e10 s11 o12
 obtain ⟨rfl, l13⟩ := o12
 refine inb_here ?_
 refine then_le (s' := ⟨67, [], []⟩) (l13) ?_
 refine awp_seq (rg0 [2] 0 ⟨67, [(2, .int .i64 0)], []⟩ ?_)
 refine then_n (awp_ret ?_)
 obtain rfl := Option.some.inj h9
 exact er0 (.int .i64 0)
theorem model_checkRouteMaps_ok (a0 : TRouter) (r : Int) (h : M.model_checkRouteMaps a0 = some r) : Fn Tryz.prog 177 [.agg (c_TRouter a0)] (.pure (.int .i64 r)) := by
 unfold M.model_checkRouteMaps at h
 refine fn_pure Tryz.func177 rfl (by kernel_rfl) ?_
 refine awp_seq (rg0 [1] 1 ⟨56, [(1, .ref 0 0)], [.box (c_TRouter a0)]⟩ ?_)
 refine then_n (awp_seq (awp_seq (rg0 [1, 11] 1 ⟨56, [(1, .ref 0 0), (11, .bool (decide ((a0.fMaps.length : Int) > 8)))], [.box (c_TRouter a0)]⟩ ?_)))
 refine then_n ?_
 refine cnd (decide ((a0.fMaps.length : Int) > 8)) (fun b1 => ?_) (fun b1 => ?_)
 have h2 := cond_t b1 h
 refine awp_seq ?_
 cases h2
 have h3 := cond_f b1 h
 refine awp_skip (then_n (awp_seq (awp_seq (rg0 [1, 13, 14, 15] 1 ⟨56, [(1, .ref 0 0), (13, sL 2 c_TRouteMap a0.fMaps), (14, .int .i64 (a0.fMaps.length : Int)), (15, .int .i64 0)], [.box (c_TRouter a0)]⟩ ?_))))
 refine then_n (awp_block ?_)
 obtain ⟨y3, q8, h9⟩ := bind_some h3
 refine awp_le (s' := ⟨56, [(1, .ref 0 0), (13, sL 2 c_TRouteMap a0.fMaps), (14, .int .i64 (a0.fMaps.length : Int)), (15, .int .i64 0)], [.box (c_TRouter a0)]⟩) (le_rfl) ?_
 refine awp_mono (awp_loop (f := M.model_checkRouteMaps_l1 a0) (S := fun (p1 : Int) => ⟨56, [(1, .ref 0 0), (13, sL 2 c_TRouteMap a0.fMaps), (14, .int .i64 (a0.fMaps.length : Int)), (15, .int .i64 p1)], [.box (c_TRouter a0)]⟩) (O := (fun z => OutE 0 (fun z => ⟨56, [], []⟩) z)) ?_ (x := 0) (y := y3) (loopM_iter q8)) ?_
 intro p1 y2 h4
 unfold M.model_checkRouteMaps_l1 at h4
 refine awp_seq (rg0 [1, 13, 14, 15, 16] 1 ⟨56, [(1, .ref 0 0), (13, sL 2 c_TRouteMap a0.fMaps), (14, .int .i64 (a0.fMaps.length : Int)), (15, .int .i64 p1), (16, .bool (decide (p1 < (a0.fMaps.length : Int))))], [.box (c_TRouter a0)]⟩ ?_)
 refine then_n (awp_seq ?_)
 refine cnd (decide (p1 < (a0.fMaps.length : Int))) (fun b5 => ?_) (fun b5 => ?_)
 have h6 := cond_t b5 h4
 refine awp_skip (then_n (awp_seq (awp_block (awp_seq ?_))))
 cases h6
 have h7 := cond_f b5 h4
 refine awp_exit (then_e ?_)
 obtain rfl := Option.some.inj h7
 exact round_e ⟨rfl, Le.trans (s' := ⟨56, [], [.box (c_TRouter a0)]⟩) (kp []) (le_cut (n := 0) (by kernel_rfl))⟩
 intro e10 s11 o12
 obtain ⟨rfl, l13⟩ := o12
 refine inb_here ?_
 refine then_le (s' := ⟨56, [], []⟩) (l13) ?_
 refine awp_seq (rg0 [2] 0 ⟨56, [(2, .int .i64 0)], []⟩ ?_)
 refine then_n (awp_ret ?_)
 obtain rfl := Option.some.inj h9
 exact er0 (.int .i64 0)
theorem model_checkACLs_ok (a0 : TRouter) (r : Int) (h : M.model_checkACLs a0 = some r) : Fn Tryz.prog 178 [.agg (c_TRouter a0)] (.pure (.int .i64 r)) := by
 unfold M.model_checkACLs at h
 refine fn_pure Tryz.func178 rfl (by kernel_rfl) ?_
 refine awp_seq (rg0 [1] 1 ⟨46, [(1, .ref 0 0)], [.box (c_TRouter a0)]⟩ ?_)
 refine then_n (awp_seq (awp_seq (rg0 [1, 11] 1 ⟨46, [(1, .ref 0 0), (11, .bool (decide ((a0.fACLs.length : Int) > 8)))], [.box (c_TRouter a0)]⟩ ?_)))
 refine then_n ?_
 refine cnd (decide ((a0.fACLs.length : Int) > 8)) (fun b1 => ?_) (fun b1 => ?_)
 have h2 := cond_t b1 h
 refine awp_seq ?_
 cases h2
 have h3 := cond_f b1 h
 refine awp_skip (then_n (awp_seq (awp_seq (rg0 [1, 13, 14, 15] 1 ⟨46, [(1, .ref 0 0), (13, sL 2 c_TACL a0.fACLs), (14, .int .i64 (a0.fACLs.length : Int)), (15, .int .i64 0)], [.box (c_TRouter a0)]⟩ ?_))))
 refine then_n (awp_block ?_)
 obtain ⟨y3, q8, h9⟩ := bind_some h3
 refine awp_le (s' := ⟨46, [(1, .ref 0 0), (13, sL 2 c_TACL a0.fACLs), (14, .int .i64 (a0.fACLs.length : Int)), (15, .int .i64 0)], [.box (c_TRouter a0)]⟩) (le_rfl) ?_
 refine awp_mono (awp_loop (f := M.model_checkACLs_l1 a0) (S := fun (p1 : Int) => ⟨46, [(1, .ref 0 0), (13, sL 2 c_TACL a0.fACLs), (14, .int .i64 (a0.fACLs.length : Int)), (15, .int .i64 p1)], [.box (c_TRouter a0)]⟩) (O := (fun z => OutE 0 (fun z => ⟨46, [], []⟩) z)) ?_ (x := 0) (y := y3) (loopM_iter q8)) ?_
 intro p1 y2 h4
 unfold M.model_checkACLs_l1 at h4
 refine awp_seq (rg0 [1, 13, 14, 15, 16] 1 ⟨46, [(1, .ref 0 0), (13, sL 2 c_TACL a0.fACLs), (14, .int .i64 (a0.fACLs.length : Int)), (15, .int .i64 p1), (16, .bool (decide (p1 < (a0.fACLs.length : Int))))], [.box (c_TRouter a0)]⟩ ?_)
 refine then_n (awp_seq ?_)
 refine cnd (decide (p1 < (a0.fACLs.length : Int))) (fun b5 => ?_) (fun b5 => ?_)
 have h6 := cond_t b5 h4
 refine awp_skip (then_n (awp_seq (awp_block (awp_seq ?_))))
 cases h6
 have h7 := cond_f b5 h4
 refine awp_exit (then_e ?_)
 obtain rfl := Option.some.inj h7
 exact round_e ⟨rfl, Le.trans (s' := ⟨46, [], [.box (c_TRouter a0)]⟩) (kp []) (le_cut (n := 0) (by kernel_rfl))⟩
 intro e10 s11 o12
 obtain ⟨rfl, l13⟩ := o12
 refine inb_here ?_
 refine then_le (s' := ⟨46, [], []⟩) (l13) ?_
 refine awp_seq (rg0 [2] 0 ⟨46, [(2, .int .i64 0)], []⟩ ?_)
 refine then_n (awp_ret ?_)
 obtain rfl := Option.some.inj h9
 exact er0 (.int .i64 0)
theorem model_checkNAT_ok (a0 : TRouter) (r : Int) (h : M.model_checkNAT a0 = some r) : Fn Tryz.prog 179 [.agg (c_TRouter a0)] (.pure (.int .i64 r)) := by
 unfold M.model_checkNAT at h
 refine fn_pure Tryz.func179 rfl (by kernel_rfl) ?_
 refine awp_seq (rg0 [1] 1 ⟨30, [(1, .ref 0 0)], [.box (c_TRouter a0)]⟩ ?_)
 refine then_n (awp_seq (awp_seq (rg0 [1, 8] 1 ⟨30, [(1, .ref 0 0), (8, .bool (decide ((a0.fNAT.length : Int) > 8)))], [.box (c_TRouter a0)]⟩ ?_)))
 refine then_n ?_
 refine cnd (decide ((a0.fNAT.length : Int) > 8)) (fun b1 => ?_) (fun b1 => ?_)
 have h2 := cond_t b1 h
 refine awp_seq ?_
 cases h2
 have h3 := cond_f b1 h
 refine awp_skip (then_n (awp_seq (awp_seq (rg0 [1, 10, 11, 12] 1 ⟨30, [(1, .ref 0 0), (10, sL 9 c_TTranslation a0.fNAT), (11, .int .i64 (a0.fNAT.length : Int)), (12, .int .i64 0)], [.box (c_TRouter a0)]⟩ ?_))))
 refine then_n (awp_block ?_)
 obtain ⟨y3, q8, h9⟩ := bind_some h3
 refine awp_le (s' := ⟨30, [(1, .ref 0 0), (10, sL 9 c_TTranslation a0.fNAT), (11, .int .i64 (a0.fNAT.length : Int)), (12, .int .i64 0)], [.box (c_TRouter a0)]⟩) (le_rfl) ?_
 refine awp_mono (awp_loop (f := M.model_checkNAT_l1 a0) (S := fun (p1 : Int) => ⟨30, [(1, .ref 0 0), (10, sL 9 c_TTranslation a0.fNAT), (11, .int .i64 (a0.fNAT.length : Int)), (12, .int .i64 p1)], [.box (c_TRouter a0)]⟩) (O := (fun z => OutE 0 (fun z => ⟨30, [], []⟩) z)) ?_ (x := 0) (y := y3) (loopM_iter q8)) ?_
 intro p1 y2 h4
 unfold M.model_checkNAT_l1 at h4
 refine awp_seq (rg0 [1, 10, 11, 12, 13] 1 ⟨30, [(1, .ref 0 0), (10, sL 9 c_TTranslation a0.fNAT), (11, .int .i64 (a0.fNAT.length : Int)), (12, .int .i64 p1), (13, .bool (decide (p1 < (a0.fNAT.length : Int))))], [.box (c_TRouter a0)]⟩ ?_)
 refine then_n (awp_seq ?_)
 refine cnd (decide (p1 < (a0.fNAT.length : Int))) (fun b5 => ?_) (fun b5 => ?_)
 have h6 := cond_t b5 h4
 refine awp_skip (then_n (awp_seq (awp_block (awp_seq ?_))))
 cases h6
 have h7 := cond_f b5 h4
 refine awp_exit (then_e ?_)
 obtain rfl := Option.some.inj h7
 exact round_e ⟨rfl, Le.trans (s' := ⟨30, [], [.box (c_TRouter a0)]⟩) (kp []) (le_cut (n := 0) (by kernel_rfl))⟩
 intro e10 s11 o12
 obtain ⟨rfl, l13⟩ := o12
 refine inb_here ?_
 refine then_le (s' := ⟨30, [], []⟩) (l13) ?_
 refine awp_seq (rg0 [2] 0 ⟨30, [(2, .int .i64 0)], []⟩ ?_)
 refine then_n (awp_ret ?_)
 obtain rfl := Option.some.inj h9
 exact er0 (.int .i64 0)
theorem model_ACL_ok (a0 : TRouter) (a1 : ByteArray) (r : Int) (h : M.model_ACL a0 a1 = some r) : Fn Tryz.prog 240 [.agg (c_TRouter a0), .str a1] (.pure (.int .i64 r)) := by
 unfold M.model_ACL at h
 refine fn_pure Tryz.func240 rfl (by kernel_rfl) ?_
 refine awp_seq ?_
 cases h
theorem model_checkFilters_ok (a0 : TRouter) (r : Int) (h : M.model_checkFilters a0 = some r) : Fn Tryz.prog 180 [.agg (c_TRouter a0)] (.pure (.int .i64 r)) := by
 unfold M.model_checkFilters at h
 refine fn_pure Tryz.func180 rfl (by kernel_rfl) ?_
 refine awp_seq (rg0 [1] 1 ⟨35, [(1, .ref 0 0)], [.box (c_TRouter a0)]⟩ ?_)
 refine then_n (awp_seq (awp_seq (rg0 [1, 6, 7, 8] 1 ⟨35, [(1, .ref 0 0), (6, sL 12 c_TInterface a0.fInterfaces), (7, .int .i64 (a0.fInterfaces.length : Int)), (8, .int .i64 0)], [.box (c_TRouter a0)]⟩ ?_)))
 refine then_n (awp_block ?_)
 obtain ⟨y5, q14, h15⟩ := bind_some h
 refine awp_le (s' := ⟨35, [(1, .ref 0 0), (6, sL 12 c_TInterface a0.fInterfaces), (7, .int .i64 (a0.fInterfaces.length : Int)), (8, .int .i64 0)], [.box (c_TRouter a0)]⟩) (le_rfl) ?_
 refine awp_mono (awp_loop (f := M.model_checkFilters_l1 a0) (S := fun (p1 : Int) => ⟨35, [(1, .ref 0 0), (6, sL 12 c_TInterface a0.fInterfaces), (7, .int .i64 (a0.fInterfaces.length : Int)), (8, .int .i64 p1)], [.box (c_TRouter a0)]⟩) (O := (fun z => OutE 0 (fun z => ⟨35, [], []⟩) z)) ?_ (x := 0) (y := y5) (loopM_iter q14)) ?_
 intro p1 y2 h1
 unfold M.model_checkFilters_l1 at h1
 refine awp_seq (rg0 [1, 6, 7, 8, 9] 1 ⟨35, [(1, .ref 0 0), (6, sL 12 c_TInterface a0.fInterfaces), (7, .int .i64 (a0.fInterfaces.length : Int)), (8, .int .i64 p1), (9, .bool (decide (p1 < (a0.fInterfaces.length : Int))))], [.box (c_TRouter a0)]⟩ ?_)
 refine then_n (awp_seq ?_)
 refine cnd (decide (p1 < (a0.fInterfaces.length : Int))) (fun b2 => ?_) (fun b2 => ?_)
 have h3 := cond_t b2 h1
 refine awp_skip (then_n (awp_seq (awp_block (awp_seq ?_))))
 obtain ⟨c5, h6⟩ := gd_some h3
 refine rgc [1, 4, 6, 7, 8] 2 ⟨35, [(1, .ref 0 0), (4, .ref 1 0), (6, sL 12 c_TInterface a0.fInterfaces), (7, .int .i64 (a0.fInterfaces.length : Int)), (8, .int .i64 p1)], [.box (c_TRouter a0), .box (c_TInterface (a0.fInterfaces.getD p1.toNat default))]⟩ [decide (0 ≤ p1), decide (p1 < (a0.fInterfaces.length : Int))] c5 ?_
 refine then_n (awp_seq ?_)
 obtain ⟨r3, q7, h8⟩ := bind_some h6
 obtain ⟨r4, q9, h10⟩ := bind_some h8
 refine rg [.pure (.int .i64 r3), .pure (.int .i64 r4)] [1, 6, 7, 8, 33] 1 ⟨35, [(1, .ref 0 0), (6, sL 12 c_TInterface a0.fInterfaces), (7, .int .i64 (a0.fInterfaces.length : Int)), (8, .int .i64 p1), (33, .bool (((!strEq ((a0.fInterfaces.getD p1.toNat default).fIn) (⟨#[]⟩ : ByteArray)) && (decide (r3 < 0))) || ((!strEq ((a0.fInterfaces.getD p1.toNat default).fOut) (⟨#[]⟩ : ByteArray)) && (decide (r4 < 0)))))], [.box (c_TRouter a0)]⟩ [] [⟨!strEq ((a0.fInterfaces.getD p1.toNat default).fIn) (⟨#[]⟩ : ByteArray), 240, [.agg (c_TRouter a0), .str ((a0.fInterfaces.getD p1.toNat default).fIn)], .pure (.int .i64 r3)⟩, ⟨((!((!strEq ((a0.fInterfaces.getD p1.toNat default).fIn) (⟨#[]⟩ : ByteArray)) && (decide (r3 < 0)))) && (!strEq ((a0.fInterfaces.getD p1.toNat default).fOut) (⟨#[]⟩ : ByteArray))), 240, [.agg (c_TRouter a0), .str ((a0.fInterfaces.getD p1.toNat default).fOut)], .pure (.int .i64 r4)⟩] nil_all ⟨fun hg => model_ACL_ok a0 ((a0.fInterfaces.getD p1.toNat default).fIn) r3 (gc_some q7 hg), fun hg => model_ACL_ok a0 ((a0.fInterfaces.getD p1.toNat default).fOut) r4 (gc_some q9 hg), trivial⟩ ?_
 refine then_n ?_
 refine cnd (((!strEq ((a0.fInterfaces.getD p1.toNat default).fIn) (⟨#[]⟩ : ByteArray)) && (decide (r3 < 0))) || ((!strEq ((a0.fInterfaces.getD p1.toNat default).fOut) (⟨#[]⟩ : ByteArray)) && (decide (r4 < 0)))) (fun b11 => ?_) (fun b11 => ?_)
 have h12 := cond_t b11 h10
 refine awp_seq ?_
 cases h12
 have h13 := cond_f b11 h10
 refine awp_skip (inb_n (then_n (rg0 [1, 6, 7, 8] 1 ⟨35, [(1, .ref 0 0), (6, sL 12 c_TInterface a0.fInterfaces), (7, .int .i64 (a0.fInterfaces.length : Int)), (8, .int .i64 (wr .i64 (p1 + 1)))], [.box (c_TRouter a0)]⟩ ?_)))
 obtain rfl := Option.some.inj h13
 exact round_n (le_rfl)
 have h4 := cond_f b2 h1
 refine awp_exit (then_e ?_)
 obtain rfl := Option.some.inj h4
 exact round_e ⟨rfl, Le.trans (s' := ⟨35, [], [.box (c_TRouter a0)]⟩) (kp []) (le_cut (n := 0) (by kernel_rfl))⟩
 intro e16 s17 o18
 obtain ⟨rfl, l19⟩ := o18
 refine inb_here ?_
 refine then_le (s' := ⟨35, [], []⟩) (l19) ?_
 refine awp_seq (rg0 [2] 0 ⟨35, [(2, .int .i64 0)], []⟩ ?_)
 refine then_n (awp_ret ?_)
 obtain rfl := Option.some.inj h15
 exact er0 (.int .i64 0)
theorem addr_Valid_ok (a0 : TPrefix) (r : Bool) (h : M.addr_Valid a0 = some r) : Fn Tryz.prog 237 [.agg (c_TPrefix a0)] (.pure (.bool r)) := by
 unfold M.addr_Valid at h
 refine fn_pure Tryz.func237 rfl (by kernel_rfl) ?_
 refine awp_seq (rg0 [1] 1 ⟨20, [(1, .ref 0 0)], [.box (c_TPrefix a0)]⟩ ?_)
 refine then_n (awp_seq ?_)
 obtain ⟨r1, q1, h2⟩ := bind_some h
 refine rg [.pure (.int .u32 r1)] [2] 0 ⟨20, [(2, .bool (((decide (a0.fLen ≥ 0)) && (decide (a0.fLen ≤ 32))) && ((bitD .andNot .u32 a0.fAddr r1) == 0)))], []⟩ [] [⟨(decide (a0.fLen ≥ 0)) && (decide (a0.fLen ≤ 32)), 79, [.int .i64 a0.fLen], .pure (.int .u32 r1)⟩] nil_all ⟨fun hg => addr_Mask_ok a0.fLen r1 (gc_some q1 hg), trivial⟩ ?_
 refine then_n (awp_ret ?_)
 obtain rfl := Option.some.inj h2
 exact er0 (.bool (((decide (a0.fLen ≥ 0)) && (decide (a0.fLen ≤ 32))) && ((bitD .andNot .u32 a0.fAddr r1) == 0)))
theorem model_Address_1_ok (a0 : TInterface) (b0 : Int) (r : Bool) (h : M.model_Address_1 a0 b0 = some r) : Fn Tryz.prog 248 [.agg (c_TInterface a0), .pp ((ci .u32) b0)] (.pure (.bool r)) := by
 unfold M.model_Address_1 at h
 refine fn_pure Tryz.func248 rfl (by kernel_rfl) ?_
 refine awp_seq (rg0 [1, 2] 1 ⟨13, [(1, .pp ((ci .u32) b0)), (2, .ref 0 0)], [.box (c_TInterface a0)]⟩ ?_)
 refine then_n (awp_seq (rg0 [3] 0 ⟨13, [(3, .bool ((a0.fLen != 0) && (a0.fAddr == b0)))], []⟩ ?_))
 refine then_n (awp_ret ?_)
 obtain rfl := Option.some.inj h
 exact er0 (.bool ((a0.fLen != 0) && (a0.fAddr == b0)))
theorem slices_IndexFunc_api_Interface_api_Interface__model_Address_1_ok (a0 : List TInterface) (a1c0 : Int) (r : Int) (h : M.slices_IndexFunc_api_Interface_api_Interface__model_Address_1 a0 a1c0 = some r) : Fn Tryz.prog 247 [sL 12 c_TInterface a0, .fn 248 [.pp ((ci .u32) a1c0)]] (.pure (.int .i64 r)) := by
 unfold M.slices_IndexFunc_api_Interface_api_Interface__model_Address_1 at h
 refine fn_pure Tryz.func247 rfl (by kernel_rfl) ?_
 refine awp_seq (rg0 [0, 1] 0 ⟨19, [(0, sL 12 c_TInterface a0), (1, .fn 248 [.pp ((ci .u32) a1c0)])], []⟩ ?_)
 refine then_n (awp_seq (awp_seq (rg0 [0, 1, 7, 8] 0 ⟨19, [(0, sL 12 c_TInterface a0), (1, .fn 248 [.pp ((ci .u32) a1c0)]), (7, .int .i64 (a0.length : Int)), (8, .int .i64 0)], []⟩ ?_)))
 refine then_n (awp_block ?_)
 obtain ⟨y4, q12, h13⟩ := bind_some h
 refine awp_le (s' := ⟨19, [(0, sL 12 c_TInterface a0), (1, .fn 248 [.pp ((ci .u32) a1c0)]), (7, .int .i64 (a0.length : Int)), (8, .int .i64 0)], []⟩) (le_rfl) ?_
 refine awp_mono (awp_loop (f := M.slices_IndexFunc_api_Interface_api_Interface__model_Address_1_l1 a0 a1c0) (S := fun (p1 : Int) => ⟨19, [(0, sL 12 c_TInterface a0), (1, .fn 248 [.pp ((ci .u32) a1c0)]), (7, .int .i64 (a0.length : Int)), (8, .int .i64 p1)], []⟩) (O := (Sum.elim (fun z => OutE 0 (fun z => ⟨19, [], []⟩) z) (fun z => OutR Tryz.prog Tryz.f247 (.int .i64 z)))) ?_ (x := 0) (y := y4) (loopM_iter q12)) ?_
 intro p1 y2 h1
 unfold M.slices_IndexFunc_api_Interface_api_Interface__model_Address_1_l1 at h1
 refine awp_seq (rg0 [0, 1, 7, 8, 9] 0 ⟨19, [(0, sL 12 c_TInterface a0), (1, .fn 248 [.pp ((ci .u32) a1c0)]), (7, .int .i64 (a0.length : Int)), (8, .int .i64 p1), (9, .bool (decide (p1 < (a0.length : Int))))], []⟩ ?_)
 refine then_n (awp_seq ?_)
 refine cnd (decide (p1 < (a0.length : Int))) (fun b2 => ?_) (fun b2 => ?_)
 have h3 := cond_t b2 h1
 refine awp_skip (then_n (awp_seq (awp_block (awp_seq (rg0 [0, 1, 5, 7, 8] 0 ⟨19, [(0, sL 12 c_TInterface a0), (1, .fn 248 [.pp ((ci .u32) a1c0)]), (5, .int .i64 p1), (7, .int .i64 (a0.length : Int)), (8, .int .i64 p1)], []⟩ ?_)))))
 refine then_n (awp_seq ?_)
 obtain ⟨r3, q5, h6⟩ := bind_some h3
 obtain ⟨c7, h8⟩ := gd_some h6
 refine rg [.pure (.bool r3)] [0, 1, 5, 7, 8, 16] 0 ⟨19, [(0, sL 12 c_TInterface a0), (1, .fn 248 [.pp ((ci .u32) a1c0)]), (5, .int .i64 p1), (7, .int .i64 (a0.length : Int)), (8, .int .i64 p1), (16, .bool r3)], []⟩ [decide (0 ≤ p1), decide (p1 < (a0.length : Int))] [⟨true, 248, [.agg (c_TInterface (a0.getD p1.toNat default)), .pp ((ci .u32) a1c0)], .pure (.bool r3)⟩] c7 ⟨fun _ => model_Address_1_ok (a0.getD p1.toNat default) a1c0 r3 q5, trivial⟩ ?_
 refine then_n ?_
 refine cnd r3 (fun b9 => ?_) (fun b9 => ?_)
 have h10 := cond_t b9 h8
 refine awp_seq (rg0 [4] 0 ⟨19, [(4, .int .i64 p1)], []⟩ ?_)
 refine then_n (awp_ret (inb_r (then_r ?_)))
 obtain rfl := Option.some.inj h10
 exact round_r ⟨rfl, er0 (.int .i64 p1)⟩
 have h11 := cond_f b9 h8
 refine awp_skip (inb_n (then_n (rg0 [0, 1, 7, 8] 0 ⟨19, [(0, sL 12 c_TInterface a0), (1, .fn 248 [.pp ((ci .u32) a1c0)]), (7, .int .i64 (a0.length : Int)), (8, .int .i64 (wr .i64 (p1 + 1)))], []⟩ ?_)))
 obtain rfl := Option.some.inj h11
 exact round_n (le_rfl)
 have h4 := cond_f b2 h1
 refine awp_exit (then_e ?_)
 obtain rfl := Option.some.inj h4
 exact round_e ⟨rfl, kp []⟩
 intro e14 s15 o16
 rcases y4 with g5 | y6
 have h17 := elim_l h13
 obtain ⟨rfl, l19⟩ := o16
 refine inb_here ?_
 refine then_le (s' := ⟨19, [], []⟩) (l19) ?_
 refine awp_seq (rg0 [4] 0 ⟨19, [(4, .int .i64 (-1))], []⟩ ?_)
 refine then_n (awp_ret ?_)
 obtain rfl := Option.some.inj h17
 exact er0 (.int .i64 (-1))
 have h18 := elim_r h13
 obtain ⟨rfl, n20⟩ := o16
 refine inb_r (then_r ?_)
 obtain rfl := Option.some.inj h18
 exact n20
theorem model_Address_ok (a0 : TRouter) (a1 : Int) (r : Int) (h : M.model_Address a0 a1 = some r) : Fn Tryz.prog 187 [.agg (c_TRouter a0), .int .u32 a1] (.pure (.int .i64 r)) := by
 unfold M.model_Address at h
 refine fn_pure Tryz.func187 rfl (by kernel_rfl) ?_
 refine awp_seq (rg0 [2, 3] 2 ⟨9, [(2, .ref 0 0), (3, .ref 1 0)], [.box (c_TRouter a0), .box [.int .u32 a1]]⟩ ?_)
 refine then_n (awp_seq ?_)
 obtain ⟨r1, q1, h2⟩ := bind_some h
 refine rg [.pure (.int .i64 r1)] [4] 0 ⟨9, [(4, .int .i64 r1)], []⟩ [] [⟨true, 247, [sL 12 c_TInterface a0.fInterfaces, .fn 248 [.pp ((ci .u32) a1)]], .pure (.int .i64 r1)⟩] nil_all ⟨fun _ => slices_IndexFunc_api_Interface_api_Interface__model_Address_1_ok a0.fInterfaces a1 r1 q1, trivial⟩ ?_
 refine then_n (awp_ret ?_)
 obtain rfl := Option.some.inj h2
 exact er0 (.int .i64 r1)
theorem model_rightStatic_ok (a0 : TRouter) (a1 : TStaticRoute) (r : Bool) (h : M.model_rightStatic a0 a1 = some r) : Fn Tryz.prog 243 [.agg (c_TRouter a0), .agg (c_TStaticRoute a1)] (.pure (.bool r)) := by
 unfold M.model_rightStatic at h
 refine fn_pure Tryz.func243 rfl (by kernel_rfl) ?_
 refine awp_seq (rg0 [2, 3] 2 ⟨55, [(2, .ref 0 0), (3, .ref 1 0)], [.box (c_TRouter a0), .box (c_TStaticRoute a1)]⟩ ?_)
 refine then_n (awp_seq (rg0 [2, 3, 5] 2 ⟨55, [(2, .ref 0 0), (3, .ref 1 0), (5, .int .i64 0)], [.box (c_TRouter a0), .box (c_TStaticRoute a1)]⟩ ?_))
 refine then_n (awp_seq (awp_seq (rg0 [2, 3, 5, 16, 17, 18] 2 ⟨55, [(2, .ref 0 0), (3, .ref 1 0), (5, .int .i64 0), (16, .sl true 1 3 (fun i => List.take 1 (List.drop (i * 1) [.bool (a1.fNext != 0), .bool (!strEq a1.fIface (⟨#[]⟩ : ByteArray)), .bool a1.fDiscard]))), (17, .int .i64 3), (18, .int .i64 0)], [.box (c_TRouter a0), .box (c_TStaticRoute a1)]⟩ ?_)))
 refine then_le (s' := ⟨55, [(2, .ref 0 0), (3, .ref 1 0), (5, .int .i64 0), (16, sL 1 cb ([a1.fNext != 0, !strEq a1.fIface (⟨#[]⟩ : ByteArray), a1.fDiscard] : List Bool)), (17, .int .i64 3), (18, .int .i64 0)], [.box (c_TRouter a0), .box (c_TStaticRoute a1)]⟩) (le_sub (.cons Sub.rfl (.cons Sub.rfl (.cons Sub.rfl (.cons (sub_sl rfl (fun i hi => match i, hi with | 0, _ => rfl | 1, _ => rfl | 2, _ => rfl | n + 3, h => absurd h (by omega))) (.cons Sub.rfl (.cons Sub.rfl .nil)))))) (.cons .rfl (.cons .rfl .nil))) ?_
 refine awp_block ?_
 obtain ⟨y4, q12, h13⟩ := bind_some h
 refine awp_le (s' := ⟨55, [(2, .ref 0 0), (3, .ref 1 0), (5, .int .i64 0), (16, sL 1 cb ([a1.fNext != 0, !strEq a1.fIface (⟨#[]⟩ : ByteArray), a1.fDiscard] : List Bool)), (17, .int .i64 3), (18, .int .i64 0)], [.box (c_TRouter a0), .box (c_TStaticRoute a1)]⟩) (le_rfl) ?_
 refine awp_mono (awp_loop (f := M.model_rightStatic_l1 a1) (S := fun (p1 : Int × Int) => ⟨55, [(2, .ref 0 0), (3, .ref 1 0), (5, .int .i64 p1.1), (16, sL 1 cb ([a1.fNext != 0, !strEq a1.fIface (⟨#[]⟩ : ByteArray), a1.fDiscard] : List Bool)), (17, .int .i64 3), (18, .int .i64 p1.2)], [.box (c_TRouter a0), .box (c_TStaticRoute a1)]⟩) (O := (fun z => OutE 0 (fun z => ⟨55, [(2, .ref 0 0), (3, .ref 1 0), (5, .int .i64 z)], [.box (c_TRouter a0), .box (c_TStaticRoute a1)]⟩) z)) ?_ (x := (0, 0)) (y := y4) (loopM_iter q12)) ?_
 intro p1 y2 h1
 unfold M.model_rightStatic_l1 at h1
 refine awp_seq (rg0 [2, 3, 5, 16, 17, 18, 19] 2 ⟨55, [(2, .ref 0 0), (3, .ref 1 0), (5, .int .i64 p1.1), (16, sL 1 cb ([a1.fNext != 0, !strEq a1.fIface (⟨#[]⟩ : ByteArray), a1.fDiscard] : List Bool)), (17, .int .i64 3), (18, .int .i64 p1.2), (19, .bool (decide (p1.2 < 3)))], [.box (c_TRouter a0), .box (c_TStaticRoute a1)]⟩ ?_)
 refine then_n (awp_seq ?_)
 refine cnd (decide (p1.2 < 3)) (fun b2 => ?_) (fun b2 => ?_)
 have h3 := cond_t b2 h1
 refine awp_skip (then_n ?_)
 refine awp_join (fun (p3 : Int) => ⟨55, [(2, .ref 0 0), (3, .ref 1 0), (5, .int .i64 p3), (16, sL 1 cb ([a1.fNext != 0, !strEq a1.fIface (⟨#[]⟩ : ByteArray), a1.fDiscard] : List Bool)), (17, .int .i64 3), (18, .int .i64 p1.2)], [.box (c_TRouter a0), .box (c_TStaticRoute a1)]⟩) (fun p3 => M.model_rightStatic_k1 p1 p3 = some y2) ?_ ?_
 intro p3 h6
 unfold M.model_rightStatic_k1 at h6
 refine rg0 [2, 3, 5, 16, 17, 18] 2 ⟨55, [(2, .ref 0 0), (3, .ref 1 0), (5, .int .i64 p3), (16, sL 1 cb ([a1.fNext != 0, !strEq a1.fIface (⟨#[]⟩ : ByteArray), a1.fDiscard] : List Bool)), (17, .int .i64 3), (18, .int .i64 (wr .i64 (p1.2 + 1)))], [.box (c_TRouter a0), .box (c_TStaticRoute a1)]⟩ ?_
 obtain rfl := Option.some.inj h6
 exact round_n (le_rfl)
 intro k5
 refine awp_block (awp_seq ?_)
 obtain ⟨c7, h8⟩ := gd_some h3
 refine rgc [2, 3, 5, 7, 16, 17, 18] 2 ⟨55, [(2, .ref 0 0), (3, .ref 1 0), (5, .int .i64 p1.1), (7, .bool (([a1.fNext != 0, !strEq a1.fIface (⟨#[]⟩ : ByteArray), a1.fDiscard] : List Bool).getD p1.2.toNat default)), (16, sL 1 cb ([a1.fNext != 0, !strEq a1.fIface (⟨#[]⟩ : ByteArray), a1.fDiscard] : List Bool)), (17, .int .i64 3), (18, .int .i64 p1.2)], [.box (c_TRouter a0), .box (c_TStaticRoute a1)]⟩ [decide (0 ≤ p1.2), decide (p1.2 < (([a1.fNext != 0, !strEq a1.fIface (⟨#[]⟩ : ByteArray), a1.fDiscard] : List Bool).length : Int))] c7 ?_
 refine then_n (awp_seq (rg0 [2, 3, 5, 16, 17, 18, 22] 2 ⟨55, [(2, .ref 0 0), (3, .ref 1 0), (5, .int .i64 p1.1), (16, sL 1 cb ([a1.fNext != 0, !strEq a1.fIface (⟨#[]⟩ : ByteArray), a1.fDiscard] : List Bool)), (17, .int .i64 3), (18, .int .i64 p1.2), (22, .bool (([a1.fNext != 0, !strEq a1.fIface (⟨#[]⟩ : ByteArray), a1.fDiscard] : List Bool).getD p1.2.toNat default))], [.box (c_TRouter a0), .box (c_TStaticRoute a1)]⟩ ?_))
 refine then_n ?_
 refine cnd (([a1.fNext != 0, !strEq a1.fIface (⟨#[]⟩ : ByteArray), a1.fDiscard] : List Bool).getD p1.2.toNat default) (fun b9 => ?_) (fun b9 => ?_)
 have h10 := cond_t b9 h8
 refine rg0 [2, 3, 5, 16, 17, 18] 2 ⟨55, [(2, .ref 0 0), (3, .ref 1 0), (5, .int .i64 (wr .i64 (p1.1 + 1))), (16, sL 1 cb ([a1.fNext != 0, !strEq a1.fIface (⟨#[]⟩ : ByteArray), a1.fDiscard] : List Bool)), (17, .int .i64 3), (18, .int .i64 p1.2)], [.box (c_TRouter a0), .box (c_TStaticRoute a1)]⟩ ?_
 refine inb_n ?_
 exact then_le (le_rfl) (k5 (wr .i64 (p1.1 + 1)) h10)
 have h11 := cond_f b9 h8
 refine awp_skip (inb_n ?_)
 exact then_le (kp [2, 3, 5, 16, 17, 18]) (k5 p1.1 h11)
 have h4 := cond_f b2 h1
 refine awp_exit (then_e ?_)
 obtain rfl := Option.some.inj h4
 exact round_e ⟨rfl, kp [2, 3, 5]⟩
 intro e14 s15 o16
 obtain ⟨rfl, l17⟩ := o16
 refine inb_here ?_
 refine then_le (s' := ⟨55, [(2, .ref 0 0), (3, .ref 1 0), (5, .int .i64 y4)], [.box (c_TRouter a0), .box (c_TStaticRoute a1)]⟩) (l17) ?_
 refine awp_seq ?_
 obtain ⟨r5, q18, h19⟩ := bind_some h13
 obtain ⟨r6, q20, h21⟩ := bind_some h19
 obtain ⟨r7, q22, h23⟩ := bind_some h21
 obtain ⟨r8, q24, h25⟩ := bind_some h23
 refine rg [.pure (.bool r5), .pure (.int .i64 r6), .pure (.bool r7), .pure (.bool r8)] [4] 0 ⟨55, [(4, .bool ((((r5 && (y4 == 1)) && ((a1.fNext == 0) || (decide (r6 < 0)))) && r7) && r8))], []⟩ [] [⟨true, 237, [.agg (c_TPrefix a1.fPrefix)], .pure (.bool r5)⟩, ⟨((r5 && (y4 == 1)) && !(a1.fNext == 0)), 187, [.agg (c_TRouter a0), .int .u32 a1.fNext], .pure (.int .i64 r6)⟩, ⟨(r5 && (y4 == 1)) && ((a1.fNext == 0) || (decide (r6 < 0))), 174, [.int .i64 a1.fAdmin, .int .i64 1, .int .i64 255], .pure (.bool r7)⟩, ⟨((r5 && (y4 == 1)) && ((a1.fNext == 0) || (decide (r6 < 0)))) && r7, 174, [.int .i64 a1.fTag, .int .i64 0, .int .i64 65535], .pure (.bool r8)⟩] nil_all ⟨fun _ => addr_Valid_ok a1.fPrefix r5 q18, fun hg => model_Address_ok a0 a1.fNext r6 (gc_some q20 hg), fun hg => model_within_ok a1.fAdmin 1 255 r7 (gc_some q22 hg), fun hg => model_within_ok a1.fTag 0 65535 r8 (gc_some q24 hg), trivial⟩ ?_
 refine then_n (awp_ret ?_)
 obtain rfl := Option.some.inj h25
 exact er0 (.bool ((((r5 && (y4 == 1)) && ((a1.fNext == 0) || (decide (r6 < 0)))) && r7) && r8))
theorem model_checkStatics_ok (a0 : TRouter) (r : Int) (h : M.model_checkStatics a0 = some r) : Fn Tryz.prog 181 [.agg (c_TRouter a0)] (.pure (.int .i64 r)) := by
 unfold M.model_checkStatics at h
 refine fn_pure Tryz.func181 rfl (by kernel_rfl) ?_
 refine awp_seq (rg0 [1] 1 ⟨63, [(1, .ref 0 0)], [.box (c_TRouter a0)]⟩ ?_)
 refine then_n (awp_seq (awp_seq (rg0 [1, 11] 1 ⟨63, [(1, .ref 0 0), (11, .bool (decide ((a0.fStatics.length : Int) > 16)))], [.box (c_TRouter a0)]⟩ ?_)))
 refine then_n ?_
 refine cnd (decide ((a0.fStatics.length : Int) > 16)) (fun b1 => ?_) (fun b1 => ?_)
 have h2 := cond_t b1 h
 refine awp_seq ?_
 cases h2
 have h3 := cond_f b1 h
 refine awp_skip (then_n (awp_seq (awp_seq (rg0 [1, 13, 14, 15] 1 ⟨63, [(1, .ref 0 0), (13, sL 7 c_TStaticRoute a0.fStatics), (14, .int .i64 (a0.fStatics.length : Int)), (15, .int .i64 0)], [.box (c_TRouter a0)]⟩ ?_))))
 refine then_n (awp_block ?_)
 obtain ⟨y8, q32, h33⟩ := bind_some h3
 refine awp_le (s' := ⟨63, [(1, .ref 0 0), (13, sL 7 c_TStaticRoute a0.fStatics), (14, .int .i64 (a0.fStatics.length : Int)), (15, .int .i64 0)], [.box (c_TRouter a0)]⟩) (le_rfl) ?_
 refine awp_mono (awp_loop (f := M.model_checkStatics_l1 a0) (S := fun (p1 : Int) => ⟨63, [(1, .ref 0 0), (13, sL 7 c_TStaticRoute a0.fStatics), (14, .int .i64 (a0.fStatics.length : Int)), (15, .int .i64 p1)], [.box (c_TRouter a0)]⟩) (O := (fun z => OutE 0 (fun z => ⟨63, [], []⟩) z)) ?_ (x := 0) (y := y8) (loopM_iter q32)) ?_
 intro p1 y2 h4
 unfold M.model_checkStatics_l1 at h4
 refine awp_seq (rg0 [1, 13, 14, 15, 16] 1 ⟨63, [(1, .ref 0 0), (13, sL 7 c_TStaticRoute a0.fStatics), (14, .int .i64 (a0.fStatics.length : Int)), (15, .int .i64 p1), (16, .bool (decide (p1 < (a0.fStatics.length : Int))))], [.box (c_TRouter a0)]⟩ ?_)
 refine then_n (awp_seq ?_)
 refine cnd (decide (p1 < (a0.fStatics.length : Int))) (fun b5 => ?_) (fun b5 => ?_)
 have h6 := cond_t b5 h4
 refine awp_skip (then_n (awp_seq (awp_block (awp_seq ?_))))
 obtain ⟨c8, h9⟩ := gd_some h6
 refine rgc [1, 3, 4, 13, 14, 15] 2 ⟨63, [(1, .ref 0 0), (3, .int .i64 p1), (4, .ref 1 0), (13, sL 7 c_TStaticRoute a0.fStatics), (14, .int .i64 (a0.fStatics.length : Int)), (15, .int .i64 p1)], [.box (c_TRouter a0), .box (c_TStaticRoute (a0.fStatics.getD p1.toNat default))]⟩ [decide (0 ≤ p1), decide (p1 < (a0.fStatics.length : Int))] c8 ?_
 refine then_n (awp_seq (awp_seq ?_))
 obtain ⟨r3, q10, h11⟩ := bind_some h9
 refine rg [.pure (.bool r3)] [1, 3, 4, 13, 14, 15, 23] 2 ⟨63, [(1, .ref 0 0), (3, .int .i64 p1), (4, .ref 1 0), (13, sL 7 c_TStaticRoute a0.fStatics), (14, .int .i64 (a0.fStatics.length : Int)), (15, .int .i64 p1), (23, .bool (!r3))], [.box (c_TRouter a0), .box (c_TStaticRoute (a0.fStatics.getD p1.toNat default))]⟩ [] [⟨true, 243, [.agg (c_TRouter a0), .agg (c_TStaticRoute (a0.fStatics.getD p1.toNat default))], .pure (.bool r3)⟩] nil_all ⟨fun _ => model_rightStatic_ok a0 (a0.fStatics.getD p1.toNat default) r3 q10, trivial⟩ ?_
 refine then_n ?_
 refine cnd (!r3) (fun b12 => ?_) (fun b12 => ?_)
 have h13 := cond_t b12 h11
 refine awp_seq ?_
 cases h13
 have h14 := cond_f b12 h11
 refine awp_skip (then_n ?_)
 refine awp_join (fun (p4 : Unit) => ⟨63, [(1, .ref 0 0), (3, .int .i64 p1), (4, .ref 1 0), (13, sL 7 c_TStaticRoute a0.fStatics), (14, .int .i64 (a0.fStatics.length : Int)), (15, .int .i64 p1)], [.box (c_TRouter a0), .box (c_TStaticRoute (a0.fStatics.getD p1.toNat default))]⟩) (fun p4 => M.model_checkStatics_k1 a0 p1 p4 = some y2) ?_ ?_
 intro p4 h16
 unfold M.model_checkStatics_k1 at h16
 refine awp_seq ?_
 obtain ⟨c17, h18⟩ := gd_some h16
 refine rgc [1, 4, 13, 14, 15, 43, 44, 45] 2 ⟨63, [(1, .ref 0 0), (4, .ref 1 0), (13, sL 7 c_TStaticRoute a0.fStatics), (14, .int .i64 (a0.fStatics.length : Int)), (15, .int .i64 p1), (43, .sl false 7 (p1.toNat - 0) (fun i => c_TStaticRoute (a0.fStatics.getD (0 + i) default))), (44, .int .i64 ((p1.toNat - 0 : Nat) : Int)), (45, .int .i64 0)], [.box (c_TRouter a0), .box (c_TStaticRoute (a0.fStatics.getD p1.toNat default))]⟩ [decide (0 ≤ p1), decide (p1 ≤ (a0.fStatics.length : Int))] c17 ?_
 refine then_le (s' := ⟨63, [(1, .ref 0 0), (4, .ref 1 0), (13, sL 7 c_TStaticRoute a0.fStatics), (14, .int .i64 (a0.fStatics.length : Int)), (15, .int .i64 p1), (43, sL 7 c_TStaticRoute ((a0.fStatics.drop 0).take (p1.toNat - 0))), (44, .int .i64 ((p1.toNat - 0 : Nat) : Int)), (45, .int .i64 0)], [.box (c_TRouter a0), .box (c_TStaticRoute (a0.fStatics.getD p1.toNat default))]⟩) (le_sub (.cons Sub.rfl (.cons Sub.rfl (.cons Sub.rfl (.cons Sub.rfl (.cons Sub.rfl (.cons (sub_sl (len_cut _ _ _ (cut_hi (c17 _ (List.mem_cons_of_mem _ List.mem_cons_self)))) (cut_ext _ _ _ _)) (.cons Sub.rfl (.cons Sub.rfl .nil)))))))) (.cons .rfl (.cons .rfl .nil))) ?_
 refine awp_block ?_
 obtain ⟨y7, q23, h24⟩ := bind_some h18
 refine awp_le (s' := ⟨63, [(1, .ref 0 0), (4, .ref 1 0), (13, sL 7 c_TStaticRoute a0.fStatics), (14, .int .i64 (a0.fStatics.length : Int)), (15, .int .i64 p1), (43, sL 7 c_TStaticRoute ((a0.fStatics.drop 0).take (p1.toNat - 0))), (44, .int .i64 ((p1.toNat - 0 : Nat) : Int)), (45, .int .i64 0)], [.box (c_TRouter a0), .box (c_TStaticRoute (a0.fStatics.getD p1.toNat default))]⟩) (le_rfl) ?_
 refine awp_mono (awp_loop (f := M.model_checkStatics_l2 p1) (S := fun (p5 : Int) => ⟨63, [(1, .ref 0 0), (4, .ref 1 0), (13, sL 7 c_TStaticRoute a0.fStatics), (14, .int .i64 (a0.fStatics.length : Int)), (15, .int .i64 p1), (43, sL 7 c_TStaticRoute ((a0.fStatics.drop 0).take (p1.toNat - 0))), (44, .int .i64 ((p1.toNat - 0 : Nat) : Int)), (45, .int .i64 p5)], [.box (c_TRouter a0), .box (c_TStaticRoute (a0.fStatics.getD p1.toNat default))]⟩) (O := (fun z => OutE 2 (fun z => ⟨63, [(1, .ref 0 0), (13, sL 7 c_TStaticRoute a0.fStatics), (14, .int .i64 (a0.fStatics.length : Int)), (15, .int .i64 p1)], [.box (c_TRouter a0)]⟩) z)) ?_ (x := 0) (y := y7) (loopM_iter q23)) ?_
 intro p5 y6 h19
 unfold M.model_checkStatics_l2 at h19
 refine awp_seq (rg0 [1, 4, 13, 14, 15, 43, 44, 45, 46] 2 ⟨63, [(1, .ref 0 0), (4, .ref 1 0), (13, sL 7 c_TStaticRoute a0.fStatics), (14, .int .i64 (a0.fStatics.length : Int)), (15, .int .i64 p1), (43, sL 7 c_TStaticRoute ((a0.fStatics.drop 0).take (p1.toNat - 0))), (44, .int .i64 ((p1.toNat - 0 : Nat) : Int)), (45, .int .i64 p5), (46, .bool (decide (p5 < ((p1.toNat - 0 : Nat) : Int))))], [.box (c_TRouter a0), .box (c_TStaticRoute (a0.fStatics.getD p1.toNat default))]⟩ ?_)
 refine then_n (awp_seq ?_)
 refine cnd (decide (p5 < ((p1.toNat - 0 : Nat) : Int))) (fun b20 => ?_) (fun b20 => ?_)
 have h21 := cond_t b20 h19
 refine awp_skip (then_n (awp_seq (awp_block (awp_seq ?_))))
 cases h21
 have h22 := cond_f b20 h19
 refine awp_exit (then_e ?_)
 obtain rfl := Option.some.inj h22
 exact round_e ⟨rfl, Le.trans (s' := ⟨63, [(1, .ref 0 0), (13, sL 7 c_TStaticRoute a0.fStatics), (14, .int .i64 (a0.fStatics.length : Int)), (15, .int .i64 p1)], [.box (c_TRouter a0), .box (c_TStaticRoute (a0.fStatics.getD p1.toNat default))]⟩) (kp [1, 13, 14, 15]) (le_cut (n := 1) (by kernel_rfl))⟩
 intro e25 s26 o27
 obtain ⟨rfl, l28⟩ := o27
 refine inb_here (inb_n ?_)
 refine then_le (s' := ⟨63, [(1, .ref 0 0), (13, sL 7 c_TStaticRoute a0.fStatics), (14, .int .i64 (a0.fStatics.length : Int)), (15, .int .i64 p1)], [.box (c_TRouter a0)]⟩) (l28) ?_
 refine rg0 [1, 13, 14, 15] 1 ⟨63, [(1, .ref 0 0), (13, sL 7 c_TStaticRoute a0.fStatics), (14, .int .i64 (a0.fStatics.length : Int)), (15, .int .i64 (wr .i64 (p1 + 1)))], [.box (c_TRouter a0)]⟩ ?_
 obtain rfl := Option.some.inj h24
 exact round_n (le_rfl)
 intro k15
 refine awp_seq (rg0 [1, 3, 4, 13, 14, 15, 26] 2 ⟨63, [(1, .ref 0 0), (3, .int .i64 p1), (4, .ref 1 0), (13, sL 7 c_TStaticRoute a0.fStatics), (14, .int .i64 (a0.fStatics.length : Int)), (15, .int .i64 p1), (26, .bool (!strEq ((a0.fStatics.getD p1.toNat default).fIface) (⟨#[]⟩ : ByteArray)))], [.box (c_TRouter a0), .box (c_TStaticRoute (a0.fStatics.getD p1.toNat default))]⟩ ?_)
 refine then_n ?_
 refine cnd (!strEq ((a0.fStatics.getD p1.toNat default).fIface) (⟨#[]⟩ : ByteArray)) (fun b29 => ?_) (fun b29 => ?_)
 have h30 := cond_t b29 h14
 refine awp_seq ?_
 cases h30
 have h31 := cond_f b29 h14
 refine awp_skip ?_
 exact then_le (kp [1, 3, 4, 13, 14, 15]) (k15 () h31)
 have h7 := cond_f b5 h4
 refine awp_exit (then_e ?_)
 obtain rfl := Option.some.inj h7
 exact round_e ⟨rfl, Le.trans (s' := ⟨63, [], [.box (c_TRouter a0)]⟩) (kp []) (le_cut (n := 0) (by kernel_rfl))⟩
 intro e34 s35 o36
 obtain ⟨rfl, l37⟩ := o36
 refine inb_here ?_
 refine then_le (s' := ⟨63, [], []⟩) (l37) ?_
 refine awp_seq (rg0 [2] 0 ⟨63, [(2, .int .i64 0)], []⟩ ?_)
 refine then_n (awp_ret ?_)
 obtain rfl := Option.some.inj h33
 exact er0 (.int .i64 0)
theorem model_checkLinkState_ok (a0 : TRouter) (r : Int) (h : M.model_checkLinkState a0 = some r) : Fn Tryz.prog 182 [.agg (c_TRouter a0)] (.pure (.int .i64 r)) := by
 unfold M.model_checkLinkState at h
 refine fn_pure Tryz.func182 rfl (by kernel_rfl) ?_
 refine awp_seq (rg0 [1] 1 ⟨81, [(1, .ref 0 0)], [.box (c_TRouter a0)]⟩ ?_)
 refine then_n (awp_seq (rg0 [1, 3] 2 ⟨81, [(1, .ref 0 0), (3, .ref 1 0)], [.box (c_TRouter a0), .box (c_TLinkState a0.fLS)]⟩ ?_))
 refine then_n (awp_seq (awp_seq (rg0 [1, 3, 12] 2 ⟨81, [(1, .ref 0 0), (3, .ref 1 0), (12, .bool (!a0.fLS.fOn))], [.box (c_TRouter a0), .box (c_TLinkState a0.fLS)]⟩ ?_)))
 refine then_n ?_
 refine cnd (!a0.fLS.fOn) (fun b1 => ?_) (fun b1 => ?_)
 have h2 := cond_t b1 h
 refine awp_seq (awp_seq (rg0 [27] 0 ⟨81, [(27, .bool (((a0.fLS.fAdmin != 0) || (decide ((a0.fLS.fRanges.length : Int) > 0))) || (decide ((a0.fLS.fRedist.length : Int) > 0))))], []⟩ ?_))
 refine then_n ?_
 refine cnd (((a0.fLS.fAdmin != 0) || (decide ((a0.fLS.fRanges.length : Int) > 0))) || (decide ((a0.fLS.fRedist.length : Int) > 0))) (fun b4 => ?_) (fun b4 => ?_)
 have h5 := cond_t b4 h2
 refine awp_seq ?_
 cases h5
 have h6 := cond_f b4 h2
 refine awp_skip (then_n (awp_seq (rg0 [2] 0 ⟨81, [(2, .int .i64 0)], []⟩ ?_)))
 refine then_n (awp_ret (then_r ?_))
 obtain rfl := Option.some.inj h6
 exact er0 (.int .i64 0)
 have h3 := cond_f b1 h
 refine awp_skip (then_n (awp_seq (awp_seq ?_)))
 cases h3
theorem model_checkDistanceVector_ok (a0 : TRouter) (r : Int) (h : M.model_checkDistanceVector a0 = some r) : Fn Tryz.prog 183 [.agg (c_TRouter a0)] (.pure (.int .i64 r)) := by
 unfold M.model_checkDistanceVector at h
 refine fn_pure Tryz.func183 rfl (by kernel_rfl) ?_
 refine awp_seq (rg0 [1] 1 ⟨58, [(1, .ref 0 0)], [.box (c_TRouter a0)]⟩ ?_)
 refine then_n (awp_seq (rg0 [1, 3] 2 ⟨58, [(1, .ref 0 0), (3, .ref 1 0)], [.box (c_TRouter a0), .box (c_TDistanceVector a0.fDV)]⟩ ?_))
 refine then_n (awp_seq (awp_seq (rg0 [1, 3, 8] 2 ⟨58, [(1, .ref 0 0), (3, .ref 1 0), (8, .bool (!a0.fDV.fOn))], [.box (c_TRouter a0), .box (c_TDistanceVector a0.fDV)]⟩ ?_)))
 refine then_n ?_
 refine cnd (!a0.fDV.fOn) (fun b1 => ?_) (fun b1 => ?_)
 have h2 := cond_t b1 h
 refine awp_seq (awp_seq (rg0 [27] 0 ⟨58, [(27, .bool ((((a0.fDV.fAdmin != 0) || (!strEq a0.fDV.fIn (⟨#[]⟩ : ByteArray))) || (!strEq a0.fDV.fOut (⟨#[]⟩ : ByteArray))) || (decide ((a0.fDV.fRedist.length : Int) > 0))))], []⟩ ?_))
 refine then_n ?_
 refine cnd ((((a0.fDV.fAdmin != 0) || (!strEq a0.fDV.fIn (⟨#[]⟩ : ByteArray))) || (!strEq a0.fDV.fOut (⟨#[]⟩ : ByteArray))) || (decide ((a0.fDV.fRedist.length : Int) > 0))) (fun b4 => ?_) (fun b4 => ?_)
 have h5 := cond_t b4 h2
 refine awp_seq ?_
 cases h5
 have h6 := cond_f b4 h2
 refine awp_skip (then_n (awp_seq (rg0 [2] 0 ⟨58, [(2, .int .i64 0)], []⟩ ?_)))
 refine then_n (awp_ret (then_r ?_))
 obtain rfl := Option.some.inj h6
 exact er0 (.int .i64 0)
 have h3 := cond_f b1 h
 refine awp_skip (then_n (awp_seq (awp_seq ?_)))
 cases h3
theorem model_checkPathVector_ok (a0 : TRouter) (r : Int) (h : M.model_checkPathVector a0 = some r) : Fn Tryz.prog 184 [.agg (c_TRouter a0)] (.pure (.int .i64 r)) := by
 unfold M.model_checkPathVector at h
 refine fn_pure Tryz.func184 rfl (by kernel_rfl) ?_
 refine awp_seq (rg0 [1] 1 ⟨78, [(1, .ref 0 0)], [.box (c_TRouter a0)]⟩ ?_)
 refine then_n (awp_seq (rg0 [1, 3] 2 ⟨78, [(1, .ref 0 0), (3, .ref 1 0)], [.box (c_TRouter a0), .box (c_TPathVector a0.fPV)]⟩ ?_))
 refine then_n (awp_seq (awp_seq (rg0 [1, 3, 10] 2 ⟨78, [(1, .ref 0 0), (3, .ref 1 0), (10, .bool (!a0.fPV.fOn))], [.box (c_TRouter a0), .box (c_TPathVector a0.fPV)]⟩ ?_)))
 refine then_n ?_
 refine cnd (!a0.fPV.fOn) (fun b1 => ?_) (fun b1 => ?_)
 have h2 := cond_t b1 h
 refine awp_seq (awp_seq (rg0 [48] 0 ⟨78, [(48, .bool (((((((a0.fPV.fExternal != 0) || (a0.fPV.fInternal != 0)) || (decide ((a0.fPV.fNeighbors.length : Int) > 0))) || (decide ((a0.fPV.fNetworks.length : Int) > 0))) || (decide ((a0.fPV.fAggregates.length : Int) > 0))) || (decide ((a0.fPV.fConditions.length : Int) > 0))) || (decide ((a0.fPV.fRedist.length : Int) > 0))))], []⟩ ?_))
 refine then_n ?_
 refine cnd (((((((a0.fPV.fExternal != 0) || (a0.fPV.fInternal != 0)) || (decide ((a0.fPV.fNeighbors.length : Int) > 0))) || (decide ((a0.fPV.fNetworks.length : Int) > 0))) || (decide ((a0.fPV.fAggregates.length : Int) > 0))) || (decide ((a0.fPV.fConditions.length : Int) > 0))) || (decide ((a0.fPV.fRedist.length : Int) > 0))) (fun b4 => ?_) (fun b4 => ?_)
 have h5 := cond_t b4 h2
 refine awp_seq ?_
 cases h5
 have h6 := cond_f b4 h2
 refine awp_skip (then_n (awp_seq (rg0 [2] 0 ⟨78, [(2, .int .i64 0)], []⟩ ?_)))
 refine then_n (awp_ret (then_r ?_))
 obtain rfl := Option.some.inj h6
 exact er0 (.int .i64 0)
 have h3 := cond_f b1 h
 refine awp_skip (then_n (awp_seq (awp_seq ?_)))
 cases h3
theorem model_CheckRouter_ok (a0 : TRouter) (r : Int) (h : M.model_CheckRouter a0 = some r) : Fn Tryz.prog 123 [.agg (c_TRouter a0)] (.pure (.int .i64 r)) := by
 unfold M.model_CheckRouter at h
 refine fn_pure Tryz.func123 rfl (by kernel_rfl) ?_
 refine awp_seq (rg0 [1] 1 ⟨29, [(1, .ref 0 0)], [.box (c_TRouter a0)]⟩ ?_)
 refine then_n (awp_seq (awp_seq ?_))
 obtain ⟨r1, q1, h2⟩ := bind_some h
 refine rg [.pure (.bool r1)] [1, 10] 1 ⟨29, [(1, .ref 0 0), (10, .bool (!r1))], [.box (c_TRouter a0)]⟩ [] [⟨true, 173, [.str a0.fName], .pure (.bool r1)⟩] nil_all ⟨fun _ => scan_Name_ok a0.fName r1 q1, trivial⟩ ?_
 refine then_n ?_
 refine cnd (!r1) (fun b3 => ?_) (fun b3 => ?_)
 have h4 := cond_t b3 h2
 refine awp_seq ?_
 cases h4
 have h5 := cond_f b3 h2
 refine awp_skip (then_n (awp_seq (awp_seq ?_)))
 obtain ⟨r2, q6, h7⟩ := bind_some h5
 refine rg [.pure (.bool r2)] [1, 14] 1 ⟨29, [(1, .ref 0 0), (14, .bool (!r2))], [.box (c_TRouter a0)]⟩ [] [⟨true, 174, [.int .i64 a0.fAS, .int .i64 0, .int .i64 65535], .pure (.bool r2)⟩] nil_all ⟨fun _ => model_within_ok a0.fAS 0 65535 r2 q6, trivial⟩ ?_
 refine then_n ?_
 refine cnd (!r2) (fun b8 => ?_) (fun b8 => ?_)
 have h9 := cond_t b8 h7
 refine awp_seq ?_
 cases h9
 have h10 := cond_f b8 h7
 refine awp_skip (then_n (awp_seq (rg0 [1, 3] 1 ⟨29, [(1, .ref 0 0), (3, .sl true 1 10 (fun i => List.take 1 (List.drop (i * 1) [.fn 175 [], .fn 176 [], .fn 177 [], .fn 178 [], .fn 179 [], .fn 180 [], .fn 181 [], .fn 182 [], .fn 183 [], .fn 184 []])))], [.box (c_TRouter a0)]⟩ ?_)))
 refine then_n (awp_seq (awp_seq (rg0 [1, 16, 17, 18] 1 ⟨29, [(1, .ref 0 0), (16, .sl true 1 10 (fun i => List.take 1 (List.drop (i * 1) [.fn 175 [], .fn 176 [], .fn 177 [], .fn 178 [], .fn 179 [], .fn 180 [], .fn 181 [], .fn 182 [], .fn 183 [], .fn 184 []]))), (17, .int .i64 10), (18, .int .i64 0)], [.box (c_TRouter a0)]⟩ ?_)))
 refine then_n (awp_block (awp_unroll (lwp_round (awp_seq (rg0 [1, 16, 17, 18, 19] 1 ⟨29, [(1, .ref 0 0), (16, .sl true 1 10 (fun i => List.take 1 (List.drop (i * 1) [.fn 175 [], .fn 176 [], .fn 177 [], .fn 178 [], .fn 179 [], .fn 180 [], .fn 181 [], .fn 182 [], .fn 183 [], .fn 184 []]))), (17, .int .i64 10), (18, .int .i64 0), (19, .bool true)], [.box (c_TRouter a0)]⟩ ?_)))))
 refine then_n (awp_seq ?_)
 refine cnd true (fun _ => ?_) (fun b11 => Bool.noConfusion b11)
 refine awp_skip (then_n (awp_seq (awp_block (awp_seq ?_))))
 obtain ⟨c12, h13⟩ := gd_some h10
 refine rgc [1, 5, 16, 17, 18] 1 ⟨29, [(1, .ref 0 0), (5, .fn 175 []), (16, .sl true 1 10 (fun i => List.take 1 (List.drop (i * 1) [.fn 175 [], .fn 176 [], .fn 177 [], .fn 178 [], .fn 179 [], .fn 180 [], .fn 181 [], .fn 182 [], .fn 183 [], .fn 184 []]))), (17, .int .i64 10), (18, .int .i64 0)], [.box (c_TRouter a0)]⟩ [decide (0 ≤ 0), decide (0 < (10 : Int))] c12 ?_
 refine then_n (awp_seq ?_)
 obtain ⟨r3, q14, h15⟩ := bind_some h13
 refine rg [.pure (.int .i64 r3)] [1, 6, 16, 17, 18] 1 ⟨29, [(1, .ref 0 0), (6, .int .i64 r3), (16, .sl true 1 10 (fun i => List.take 1 (List.drop (i * 1) [.fn 175 [], .fn 176 [], .fn 177 [], .fn 178 [], .fn 179 [], .fn 180 [], .fn 181 [], .fn 182 [], .fn 183 [], .fn 184 []]))), (17, .int .i64 10), (18, .int .i64 0)], [.box (c_TRouter a0)]⟩ [] [⟨true, 175, [.agg (c_TRouter a0)], .pure (.int .i64 r3)⟩] nil_all ⟨fun _ => model_checkInterfaces_ok a0 r3 q14, trivial⟩ ?_
 refine then_n (awp_seq (rg0 [1, 6, 16, 17, 18, 26] 1 ⟨29, [(1, .ref 0 0), (6, .int .i64 r3), (16, .sl true 1 10 (fun i => List.take 1 (List.drop (i * 1) [.fn 175 [], .fn 176 [], .fn 177 [], .fn 178 [], .fn 179 [], .fn 180 [], .fn 181 [], .fn 182 [], .fn 183 [], .fn 184 []]))), (17, .int .i64 10), (18, .int .i64 0), (26, .bool (r3 != 0))], [.box (c_TRouter a0)]⟩ ?_))
 refine then_n ?_
 refine cnd (r3 != 0) (fun b16 => ?_) (fun b16 => ?_)
 have h17 := cond_t b16 h15
 refine awp_seq ?_
 cases h17
 have h18 := cond_f b16 h15
 refine awp_skip (inb_n (then_n (rg0 [1, 16, 17, 18] 1 ⟨29, [(1, .ref 0 0), (16, .sl true 1 10 (fun i => List.take 1 (List.drop (i * 1) [.fn 175 [], .fn 176 [], .fn 177 [], .fn 178 [], .fn 179 [], .fn 180 [], .fn 181 [], .fn 182 [], .fn 183 [], .fn 184 []]))), (17, .int .i64 10), (18, .int .i64 1)], [.box (c_TRouter a0)]⟩ ?_)))
 refine thenl_n (lwp_round (awp_seq (rg0 [1, 16, 17, 18, 19] 1 ⟨29, [(1, .ref 0 0), (16, .sl true 1 10 (fun i => List.take 1 (List.drop (i * 1) [.fn 175 [], .fn 176 [], .fn 177 [], .fn 178 [], .fn 179 [], .fn 180 [], .fn 181 [], .fn 182 [], .fn 183 [], .fn 184 []]))), (17, .int .i64 10), (18, .int .i64 1), (19, .bool true)], [.box (c_TRouter a0)]⟩ ?_)))
 refine then_n (awp_seq ?_)
 refine cnd true (fun _ => ?_) (fun b19 => Bool.noConfusion b19)
 refine awp_skip (then_n (awp_seq (awp_block (awp_seq ?_))))
 obtain ⟨c20, h21⟩ := gd_some h18
 refine rgc [1, 5, 16, 17, 18] 1 ⟨29, [(1, .ref 0 0), (5, .fn 176 []), (16, .sl true 1 10 (fun i => List.take 1 (List.drop (i * 1) [.fn 175 [], .fn 176 [], .fn 177 [], .fn 178 [], .fn 179 [], .fn 180 [], .fn 181 [], .fn 182 [], .fn 183 [], .fn 184 []]))), (17, .int .i64 10), (18, .int .i64 1)], [.box (c_TRouter a0)]⟩ [decide (0 ≤ 1), decide (1 < (10 : Int))] c20 ?_
 refine then_n (awp_seq ?_)
 obtain ⟨r4, q22, h23⟩ := bind_some h21
 refine rg [.pure (.int .i64 r4)] [1, 6, 16, 17, 18] 1 ⟨29, [(1, .ref 0 0), (6, .int .i64 r4), (16, .sl true 1 10 (fun i => List.take 1 (List.drop (i * 1) [.fn 175 [], .fn 176 [], .fn 177 [], .fn 178 [], .fn 179 [], .fn 180 [], .fn 181 [], .fn 182 [], .fn 183 [], .fn 184 []]))), (17, .int .i64 10), (18, .int .i64 1)], [.box (c_TRouter a0)]⟩ [] [⟨true, 176, [.agg (c_TRouter a0)], .pure (.int .i64 r4)⟩] nil_all ⟨fun _ => model_checkPrefixLists_ok a0 r4 q22, trivial⟩ ?_
 refine then_n (awp_seq (rg0 [1, 6, 16, 17, 18, 26] 1 ⟨29, [(1, .ref 0 0), (6, .int .i64 r4), (16, .sl true 1 10 (fun i => List.take 1 (List.drop (i * 1) [.fn 175 [], .fn 176 [], .fn 177 [], .fn 178 [], .fn 179 [], .fn 180 [], .fn 181 [], .fn 182 [], .fn 183 [], .fn 184 []]))), (17, .int .i64 10), (18, .int .i64 1), (26, .bool (r4 != 0))], [.box (c_TRouter a0)]⟩ ?_))
 refine then_n ?_
 refine cnd (r4 != 0) (fun b24 => ?_) (fun b24 => ?_)
 have h25 := cond_t b24 h23
 refine awp_seq ?_
 cases h25
 have h26 := cond_f b24 h23
 refine awp_skip (inb_n (then_n (rg0 [1, 16, 17, 18] 1 ⟨29, [(1, .ref 0 0), (16, .sl true 1 10 (fun i => List.take 1 (List.drop (i * 1) [.fn 175 [], .fn 176 [], .fn 177 [], .fn 178 [], .fn 179 [], .fn 180 [], .fn 181 [], .fn 182 [], .fn 183 [], .fn 184 []]))), (17, .int .i64 10), (18, .int .i64 2)], [.box (c_TRouter a0)]⟩ ?_)))
 refine thenl_n (lwp_round (awp_seq (rg0 [1, 16, 17, 18, 19] 1 ⟨29, [(1, .ref 0 0), (16, .sl true 1 10 (fun i => List.take 1 (List.drop (i * 1) [.fn 175 [], .fn 176 [], .fn 177 [], .fn 178 [], .fn 179 [], .fn 180 [], .fn 181 [], .fn 182 [], .fn 183 [], .fn 184 []]))), (17, .int .i64 10), (18, .int .i64 2), (19, .bool true)], [.box (c_TRouter a0)]⟩ ?_)))
 refine then_n (awp_seq ?_)
 refine cnd true (fun _ => ?_) (fun b27 => Bool.noConfusion b27)
 refine awp_skip (then_n (awp_seq (awp_block (awp_seq ?_))))
 obtain ⟨c28, h29⟩ := gd_some h26
 refine rgc [1, 5, 16, 17, 18] 1 ⟨29, [(1, .ref 0 0), (5, .fn 177 []), (16, .sl true 1 10 (fun i => List.take 1 (List.drop (i * 1) [.fn 175 [], .fn 176 [], .fn 177 [], .fn 178 [], .fn 179 [], .fn 180 [], .fn 181 [], .fn 182 [], .fn 183 [], .fn 184 []]))), (17, .int .i64 10), (18, .int .i64 2)], [.box (c_TRouter a0)]⟩ [decide (0 ≤ 2), decide (2 < (10 : Int))] c28 ?_
 refine then_n (awp_seq ?_)
 obtain ⟨r5, q30, h31⟩ := bind_some h29
 refine rg [.pure (.int .i64 r5)] [1, 6, 16, 17, 18] 1 ⟨29, [(1, .ref 0 0), (6, .int .i64 r5), (16, .sl true 1 10 (fun i => List.take 1 (List.drop (i * 1) [.fn 175 [], .fn 176 [], .fn 177 [], .fn 178 [], .fn 179 [], .fn 180 [], .fn 181 [], .fn 182 [], .fn 183 [], .fn 184 []]))), (17, .int .i64 10), (18, .int .i64 2)], [.box (c_TRouter a0)]⟩ [] [⟨true, 177, [.agg (c_TRouter a0)], .pure (.int .i64 r5)⟩] nil_all ⟨fun _ => model_checkRouteMaps_ok a0 r5 q30, trivial⟩ ?_
 refine then_n (awp_seq (rg0 [1, 6, 16, 17, 18, 26] 1 ⟨29, [(1, .ref 0 0), (6, .int .i64 r5), (16, .sl true 1 10 (fun i => List.take 1 (List.drop (i * 1) [.fn 175 [], .fn 176 [], .fn 177 [], .fn 178 [], .fn 179 [], .fn 180 [], .fn 181 [], .fn 182 [], .fn 183 [], .fn 184 []]))), (17, .int .i64 10), (18, .int .i64 2), (26, .bool (r5 != 0))], [.box (c_TRouter a0)]⟩ ?_))
 refine then_n ?_
 refine cnd (r5 != 0) (fun b32 => ?_) (fun b32 => ?_)
 have h33 := cond_t b32 h31
 refine awp_seq ?_
 cases h33
 have h34 := cond_f b32 h31
 refine awp_skip (inb_n (then_n (rg0 [1, 16, 17, 18] 1 ⟨29, [(1, .ref 0 0), (16, .sl true 1 10 (fun i => List.take 1 (List.drop (i * 1) [.fn 175 [], .fn 176 [], .fn 177 [], .fn 178 [], .fn 179 [], .fn 180 [], .fn 181 [], .fn 182 [], .fn 183 [], .fn 184 []]))), (17, .int .i64 10), (18, .int .i64 3)], [.box (c_TRouter a0)]⟩ ?_)))
 refine thenl_n (lwp_round (awp_seq (rg0 [1, 16, 17, 18, 19] 1 ⟨29, [(1, .ref 0 0), (16, .sl true 1 10 (fun i => List.take 1 (List.drop (i * 1) [.fn 175 [], .fn 176 [], .fn 177 [], .fn 178 [], .fn 179 [], .fn 180 [], .fn 181 [], .fn 182 [], .fn 183 [], .fn 184 []]))), (17, .int .i64 10), (18, .int .i64 3), (19, .bool true)], [.box (c_TRouter a0)]⟩ ?_)))
 refine then_n (awp_seq ?_)
 refine cnd true (fun _ => ?_) (fun b35 => Bool.noConfusion b35)
 refine awp_skip (then_n (awp_seq (awp_block (awp_seq ?_))))
 obtain ⟨c36, h37⟩ := gd_some h34
 refine rgc [1, 5, 16, 17, 18] 1 ⟨29, [(1, .ref 0 0), (5, .fn 178 []), (16, .sl true 1 10 (fun i => List.take 1 (List.drop (i * 1) [.fn 175 [], .fn 176 [], .fn 177 [], .fn 178 [], .fn 179 [], .fn 180 [], .fn 181 [], .fn 182 [], .fn 183 [], .fn 184 []]))), (17, .int .i64 10), (18, .int .i64 3)], [.box (c_TRouter a0)]⟩ [decide (0 ≤ 3), decide (3 < (10 : Int))] c36 ?_
 refine then_n (awp_seq ?_)
 obtain ⟨r6, q38, h39⟩ := bind_some h37
 refine rg [.pure (.int .i64 r6)] [1, 6, 16, 17, 18] 1 ⟨29, [(1, .ref 0 0), (6, .int .i64 r6), (16, .sl true 1 10 (fun i => List.take 1 (List.drop (i * 1) [.fn 175 [], .fn 176 [], .fn 177 [], .fn 178 [], .fn 179 [], .fn 180 [], .fn 181 [], .fn 182 [], .fn 183 [], .fn 184 []]))), (17, .int .i64 10), (18, .int .i64 3)], [.box (c_TRouter a0)]⟩ [] [⟨true, 178, [.agg (c_TRouter a0)], .pure (.int .i64 r6)⟩] nil_all ⟨fun _ => model_checkACLs_ok a0 r6 q38, trivial⟩ ?_
 refine then_n (awp_seq (rg0 [1, 6, 16, 17, 18, 26] 1 ⟨29, [(1, .ref 0 0), (6, .int .i64 r6), (16, .sl true 1 10 (fun i => List.take 1 (List.drop (i * 1) [.fn 175 [], .fn 176 [], .fn 177 [], .fn 178 [], .fn 179 [], .fn 180 [], .fn 181 [], .fn 182 [], .fn 183 [], .fn 184 []]))), (17, .int .i64 10), (18, .int .i64 3), (26, .bool (r6 != 0))], [.box (c_TRouter a0)]⟩ ?_))
 refine then_n ?_
 refine cnd (r6 != 0) (fun b40 => ?_) (fun b40 => ?_)
 have h41 := cond_t b40 h39
 refine awp_seq ?_
 cases h41
 have h42 := cond_f b40 h39
 refine awp_skip (inb_n (then_n (rg0 [1, 16, 17, 18] 1 ⟨29, [(1, .ref 0 0), (16, .sl true 1 10 (fun i => List.take 1 (List.drop (i * 1) [.fn 175 [], .fn 176 [], .fn 177 [], .fn 178 [], .fn 179 [], .fn 180 [], .fn 181 [], .fn 182 [], .fn 183 [], .fn 184 []]))), (17, .int .i64 10), (18, .int .i64 4)], [.box (c_TRouter a0)]⟩ ?_)))
 refine thenl_n (lwp_round (awp_seq (rg0 [1, 16, 17, 18, 19] 1 ⟨29, [(1, .ref 0 0), (16, .sl true 1 10 (fun i => List.take 1 (List.drop (i * 1) [.fn 175 [], .fn 176 [], .fn 177 [], .fn 178 [], .fn 179 [], .fn 180 [], .fn 181 [], .fn 182 [], .fn 183 [], .fn 184 []]))), (17, .int .i64 10), (18, .int .i64 4), (19, .bool true)], [.box (c_TRouter a0)]⟩ ?_)))
 refine then_n (awp_seq ?_)
 refine cnd true (fun _ => ?_) (fun b43 => Bool.noConfusion b43)
 refine awp_skip (then_n (awp_seq (awp_block (awp_seq ?_))))
 obtain ⟨c44, h45⟩ := gd_some h42
 refine rgc [1, 5, 16, 17, 18] 1 ⟨29, [(1, .ref 0 0), (5, .fn 179 []), (16, .sl true 1 10 (fun i => List.take 1 (List.drop (i * 1) [.fn 175 [], .fn 176 [], .fn 177 [], .fn 178 [], .fn 179 [], .fn 180 [], .fn 181 [], .fn 182 [], .fn 183 [], .fn 184 []]))), (17, .int .i64 10), (18, .int .i64 4)], [.box (c_TRouter a0)]⟩ [decide (0 ≤ 4), decide (4 < (10 : Int))] c44 ?_
 refine then_n (awp_seq ?_)
 obtain ⟨r7, q46, h47⟩ := bind_some h45
 refine rg [.pure (.int .i64 r7)] [1, 6, 16, 17, 18] 1 ⟨29, [(1, .ref 0 0), (6, .int .i64 r7), (16, .sl true 1 10 (fun i => List.take 1 (List.drop (i * 1) [.fn 175 [], .fn 176 [], .fn 177 [], .fn 178 [], .fn 179 [], .fn 180 [], .fn 181 [], .fn 182 [], .fn 183 [], .fn 184 []]))), (17, .int .i64 10), (18, .int .i64 4)], [.box (c_TRouter a0)]⟩ [] [⟨true, 179, [.agg (c_TRouter a0)], .pure (.int .i64 r7)⟩] nil_all ⟨fun _ => model_checkNAT_ok a0 r7 q46, trivial⟩ ?_
 refine then_n (awp_seq (rg0 [1, 6, 16, 17, 18, 26] 1 ⟨29, [(1, .ref 0 0), (6, .int .i64 r7), (16, .sl true 1 10 (fun i => List.take 1 (List.drop (i * 1) [.fn 175 [], .fn 176 [], .fn 177 [], .fn 178 [], .fn 179 [], .fn 180 [], .fn 181 [], .fn 182 [], .fn 183 [], .fn 184 []]))), (17, .int .i64 10), (18, .int .i64 4), (26, .bool (r7 != 0))], [.box (c_TRouter a0)]⟩ ?_))
 refine then_n ?_
 refine cnd (r7 != 0) (fun b48 => ?_) (fun b48 => ?_)
 have h49 := cond_t b48 h47
 refine awp_seq ?_
 cases h49
 have h50 := cond_f b48 h47
 refine awp_skip (inb_n (then_n (rg0 [1, 16, 17, 18] 1 ⟨29, [(1, .ref 0 0), (16, .sl true 1 10 (fun i => List.take 1 (List.drop (i * 1) [.fn 175 [], .fn 176 [], .fn 177 [], .fn 178 [], .fn 179 [], .fn 180 [], .fn 181 [], .fn 182 [], .fn 183 [], .fn 184 []]))), (17, .int .i64 10), (18, .int .i64 5)], [.box (c_TRouter a0)]⟩ ?_)))
 refine thenl_n (lwp_round (awp_seq (rg0 [1, 16, 17, 18, 19] 1 ⟨29, [(1, .ref 0 0), (16, .sl true 1 10 (fun i => List.take 1 (List.drop (i * 1) [.fn 175 [], .fn 176 [], .fn 177 [], .fn 178 [], .fn 179 [], .fn 180 [], .fn 181 [], .fn 182 [], .fn 183 [], .fn 184 []]))), (17, .int .i64 10), (18, .int .i64 5), (19, .bool true)], [.box (c_TRouter a0)]⟩ ?_)))
 refine then_n (awp_seq ?_)
 refine cnd true (fun _ => ?_) (fun b51 => Bool.noConfusion b51)
 refine awp_skip (then_n (awp_seq (awp_block (awp_seq ?_))))
 obtain ⟨c52, h53⟩ := gd_some h50
 refine rgc [1, 5, 16, 17, 18] 1 ⟨29, [(1, .ref 0 0), (5, .fn 180 []), (16, .sl true 1 10 (fun i => List.take 1 (List.drop (i * 1) [.fn 175 [], .fn 176 [], .fn 177 [], .fn 178 [], .fn 179 [], .fn 180 [], .fn 181 [], .fn 182 [], .fn 183 [], .fn 184 []]))), (17, .int .i64 10), (18, .int .i64 5)], [.box (c_TRouter a0)]⟩ [decide (0 ≤ 5), decide (5 < (10 : Int))] c52 ?_
 refine then_n (awp_seq ?_)
 obtain ⟨r8, q54, h55⟩ := bind_some h53
 refine rg [.pure (.int .i64 r8)] [1, 6, 16, 17, 18] 1 ⟨29, [(1, .ref 0 0), (6, .int .i64 r8), (16, .sl true 1 10 (fun i => List.take 1 (List.drop (i * 1) [.fn 175 [], .fn 176 [], .fn 177 [], .fn 178 [], .fn 179 [], .fn 180 [], .fn 181 [], .fn 182 [], .fn 183 [], .fn 184 []]))), (17, .int .i64 10), (18, .int .i64 5)], [.box (c_TRouter a0)]⟩ [] [⟨true, 180, [.agg (c_TRouter a0)], .pure (.int .i64 r8)⟩] nil_all ⟨fun _ => model_checkFilters_ok a0 r8 q54, trivial⟩ ?_
 refine then_n (awp_seq (rg0 [1, 6, 16, 17, 18, 26] 1 ⟨29, [(1, .ref 0 0), (6, .int .i64 r8), (16, .sl true 1 10 (fun i => List.take 1 (List.drop (i * 1) [.fn 175 [], .fn 176 [], .fn 177 [], .fn 178 [], .fn 179 [], .fn 180 [], .fn 181 [], .fn 182 [], .fn 183 [], .fn 184 []]))), (17, .int .i64 10), (18, .int .i64 5), (26, .bool (r8 != 0))], [.box (c_TRouter a0)]⟩ ?_))
 refine then_n ?_
 refine cnd (r8 != 0) (fun b56 => ?_) (fun b56 => ?_)
 have h57 := cond_t b56 h55
 refine awp_seq ?_
 cases h57
 have h58 := cond_f b56 h55
 refine awp_skip (inb_n (then_n (rg0 [1, 16, 17, 18] 1 ⟨29, [(1, .ref 0 0), (16, .sl true 1 10 (fun i => List.take 1 (List.drop (i * 1) [.fn 175 [], .fn 176 [], .fn 177 [], .fn 178 [], .fn 179 [], .fn 180 [], .fn 181 [], .fn 182 [], .fn 183 [], .fn 184 []]))), (17, .int .i64 10), (18, .int .i64 6)], [.box (c_TRouter a0)]⟩ ?_)))
 refine thenl_n (lwp_round (awp_seq (rg0 [1, 16, 17, 18, 19] 1 ⟨29, [(1, .ref 0 0), (16, .sl true 1 10 (fun i => List.take 1 (List.drop (i * 1) [.fn 175 [], .fn 176 [], .fn 177 [], .fn 178 [], .fn 179 [], .fn 180 [], .fn 181 [], .fn 182 [], .fn 183 [], .fn 184 []]))), (17, .int .i64 10), (18, .int .i64 6), (19, .bool true)], [.box (c_TRouter a0)]⟩ ?_)))
 refine then_n (awp_seq ?_)
 refine cnd true (fun _ => ?_) (fun b59 => Bool.noConfusion b59)
 refine awp_skip (then_n (awp_seq (awp_block (awp_seq ?_))))
 obtain ⟨c60, h61⟩ := gd_some h58
 refine rgc [1, 5, 16, 17, 18] 1 ⟨29, [(1, .ref 0 0), (5, .fn 181 []), (16, .sl true 1 10 (fun i => List.take 1 (List.drop (i * 1) [.fn 175 [], .fn 176 [], .fn 177 [], .fn 178 [], .fn 179 [], .fn 180 [], .fn 181 [], .fn 182 [], .fn 183 [], .fn 184 []]))), (17, .int .i64 10), (18, .int .i64 6)], [.box (c_TRouter a0)]⟩ [decide (0 ≤ 6), decide (6 < (10 : Int))] c60 ?_
 refine then_n (awp_seq ?_)
 obtain ⟨r9, q62, h63⟩ := bind_some h61
 refine rg [.pure (.int .i64 r9)] [1, 6, 16, 17, 18] 1 ⟨29, [(1, .ref 0 0), (6, .int .i64 r9), (16, .sl true 1 10 (fun i => List.take 1 (List.drop (i * 1) [.fn 175 [], .fn 176 [], .fn 177 [], .fn 178 [], .fn 179 [], .fn 180 [], .fn 181 [], .fn 182 [], .fn 183 [], .fn 184 []]))), (17, .int .i64 10), (18, .int .i64 6)], [.box (c_TRouter a0)]⟩ [] [⟨true, 181, [.agg (c_TRouter a0)], .pure (.int .i64 r9)⟩] nil_all ⟨fun _ => model_checkStatics_ok a0 r9 q62, trivial⟩ ?_
 refine then_n (awp_seq (rg0 [1, 6, 16, 17, 18, 26] 1 ⟨29, [(1, .ref 0 0), (6, .int .i64 r9), (16, .sl true 1 10 (fun i => List.take 1 (List.drop (i * 1) [.fn 175 [], .fn 176 [], .fn 177 [], .fn 178 [], .fn 179 [], .fn 180 [], .fn 181 [], .fn 182 [], .fn 183 [], .fn 184 []]))), (17, .int .i64 10), (18, .int .i64 6), (26, .bool (r9 != 0))], [.box (c_TRouter a0)]⟩ ?_))
 refine then_n ?_
 refine cnd (r9 != 0) (fun b64 => ?_) (fun b64 => ?_)
 have h65 := cond_t b64 h63
 refine awp_seq ?_
 cases h65
 have h66 := cond_f b64 h63
 refine awp_skip (inb_n (then_n (rg0 [1, 16, 17, 18] 1 ⟨29, [(1, .ref 0 0), (16, .sl true 1 10 (fun i => List.take 1 (List.drop (i * 1) [.fn 175 [], .fn 176 [], .fn 177 [], .fn 178 [], .fn 179 [], .fn 180 [], .fn 181 [], .fn 182 [], .fn 183 [], .fn 184 []]))), (17, .int .i64 10), (18, .int .i64 7)], [.box (c_TRouter a0)]⟩ ?_)))
 refine thenl_n (lwp_round (awp_seq (rg0 [1, 16, 17, 18, 19] 1 ⟨29, [(1, .ref 0 0), (16, .sl true 1 10 (fun i => List.take 1 (List.drop (i * 1) [.fn 175 [], .fn 176 [], .fn 177 [], .fn 178 [], .fn 179 [], .fn 180 [], .fn 181 [], .fn 182 [], .fn 183 [], .fn 184 []]))), (17, .int .i64 10), (18, .int .i64 7), (19, .bool true)], [.box (c_TRouter a0)]⟩ ?_)))
 refine then_n (awp_seq ?_)
 refine cnd true (fun _ => ?_) (fun b67 => Bool.noConfusion b67)
 refine awp_skip (then_n (awp_seq (awp_block (awp_seq ?_))))
 obtain ⟨c68, h69⟩ := gd_some h66
 refine rgc [1, 5, 16, 17, 18] 1 ⟨29, [(1, .ref 0 0), (5, .fn 182 []), (16, .sl true 1 10 (fun i => List.take 1 (List.drop (i * 1) [.fn 175 [], .fn 176 [], .fn 177 [], .fn 178 [], .fn 179 [], .fn 180 [], .fn 181 [], .fn 182 [], .fn 183 [], .fn 184 []]))), (17, .int .i64 10), (18, .int .i64 7)], [.box (c_TRouter a0)]⟩ [decide (0 ≤ 7), decide (7 < (10 : Int))] c68 ?_
 refine then_n (awp_seq ?_)
 obtain ⟨r10, q70, h71⟩ := bind_some h69
 refine rg [.pure (.int .i64 r10)] [1, 6, 16, 17, 18] 1 ⟨29, [(1, .ref 0 0), (6, .int .i64 r10), (16, .sl true 1 10 (fun i => List.take 1 (List.drop (i * 1) [.fn 175 [], .fn 176 [], .fn 177 [], .fn 178 [], .fn 179 [], .fn 180 [], .fn 181 [], .fn 182 [], .fn 183 [], .fn 184 []]))), (17, .int .i64 10), (18, .int .i64 7)], [.box (c_TRouter a0)]⟩ [] [⟨true, 182, [.agg (c_TRouter a0)], .pure (.int .i64 r10)⟩] nil_all ⟨fun _ => model_checkLinkState_ok a0 r10 q70, trivial⟩ ?_
 refine then_n (awp_seq (rg0 [1, 6, 16, 17, 18, 26] 1 ⟨29, [(1, .ref 0 0), (6, .int .i64 r10), (16, .sl true 1 10 (fun i => List.take 1 (List.drop (i * 1) [.fn 175 [], .fn 176 [], .fn 177 [], .fn 178 [], .fn 179 [], .fn 180 [], .fn 181 [], .fn 182 [], .fn 183 [], .fn 184 []]))), (17, .int .i64 10), (18, .int .i64 7), (26, .bool (r10 != 0))], [.box (c_TRouter a0)]⟩ ?_))
 refine then_n ?_
 refine cnd (r10 != 0) (fun b72 => ?_) (fun b72 => ?_)
 have h73 := cond_t b72 h71
 refine awp_seq ?_
 cases h73
 have h74 := cond_f b72 h71
 refine awp_skip (inb_n (then_n (rg0 [1, 16, 17, 18] 1 ⟨29, [(1, .ref 0 0), (16, .sl true 1 10 (fun i => List.take 1 (List.drop (i * 1) [.fn 175 [], .fn 176 [], .fn 177 [], .fn 178 [], .fn 179 [], .fn 180 [], .fn 181 [], .fn 182 [], .fn 183 [], .fn 184 []]))), (17, .int .i64 10), (18, .int .i64 8)], [.box (c_TRouter a0)]⟩ ?_)))
 refine thenl_n (lwp_round (awp_seq (rg0 [1, 16, 17, 18, 19] 1 ⟨29, [(1, .ref 0 0), (16, .sl true 1 10 (fun i => List.take 1 (List.drop (i * 1) [.fn 175 [], .fn 176 [], .fn 177 [], .fn 178 [], .fn 179 [], .fn 180 [], .fn 181 [], .fn 182 [], .fn 183 [], .fn 184 []]))), (17, .int .i64 10), (18, .int .i64 8), (19, .bool true)], [.box (c_TRouter a0)]⟩ ?_)))
 refine then_n (awp_seq ?_)
 refine cnd true (fun _ => ?_) (fun b75 => Bool.noConfusion b75)
 refine awp_skip (then_n (awp_seq (awp_block (awp_seq ?_))))
 obtain ⟨c76, h77⟩ := gd_some h74
 refine rgc [1, 5, 16, 17, 18] 1 ⟨29, [(1, .ref 0 0), (5, .fn 183 []), (16, .sl true 1 10 (fun i => List.take 1 (List.drop (i * 1) [.fn 175 [], .fn 176 [], .fn 177 [], .fn 178 [], .fn 179 [], .fn 180 [], .fn 181 [], .fn 182 [], .fn 183 [], .fn 184 []]))), (17, .int .i64 10), (18, .int .i64 8)], [.box (c_TRouter a0)]⟩ [decide (0 ≤ 8), decide (8 < (10 : Int))] c76 ?_
 refine then_n (awp_seq ?_)
 obtain ⟨r11, q78, h79⟩ := bind_some h77
 refine rg [.pure (.int .i64 r11)] [1, 6, 16, 17, 18] 1 ⟨29, [(1, .ref 0 0), (6, .int .i64 r11), (16, .sl true 1 10 (fun i => List.take 1 (List.drop (i * 1) [.fn 175 [], .fn 176 [], .fn 177 [], .fn 178 [], .fn 179 [], .fn 180 [], .fn 181 [], .fn 182 [], .fn 183 [], .fn 184 []]))), (17, .int .i64 10), (18, .int .i64 8)], [.box (c_TRouter a0)]⟩ [] [⟨true, 183, [.agg (c_TRouter a0)], .pure (.int .i64 r11)⟩] nil_all ⟨fun _ => model_checkDistanceVector_ok a0 r11 q78, trivial⟩ ?_
 refine then_n (awp_seq (rg0 [1, 6, 16, 17, 18, 26] 1 ⟨29, [(1, .ref 0 0), (6, .int .i64 r11), (16, .sl true 1 10 (fun i => List.take 1 (List.drop (i * 1) [.fn 175 [], .fn 176 [], .fn 177 [], .fn 178 [], .fn 179 [], .fn 180 [], .fn 181 [], .fn 182 [], .fn 183 [], .fn 184 []]))), (17, .int .i64 10), (18, .int .i64 8), (26, .bool (r11 != 0))], [.box (c_TRouter a0)]⟩ ?_))
 refine then_n ?_
 refine cnd (r11 != 0) (fun b80 => ?_) (fun b80 => ?_)
 have h81 := cond_t b80 h79
 refine awp_seq ?_
 cases h81
 have h82 := cond_f b80 h79
 refine awp_skip (inb_n (then_n (rg0 [1, 16, 17, 18] 1 ⟨29, [(1, .ref 0 0), (16, .sl true 1 10 (fun i => List.take 1 (List.drop (i * 1) [.fn 175 [], .fn 176 [], .fn 177 [], .fn 178 [], .fn 179 [], .fn 180 [], .fn 181 [], .fn 182 [], .fn 183 [], .fn 184 []]))), (17, .int .i64 10), (18, .int .i64 9)], [.box (c_TRouter a0)]⟩ ?_)))
 refine thenl_n (lwp_round (awp_seq (rg0 [1, 16, 17, 18, 19] 1 ⟨29, [(1, .ref 0 0), (16, .sl true 1 10 (fun i => List.take 1 (List.drop (i * 1) [.fn 175 [], .fn 176 [], .fn 177 [], .fn 178 [], .fn 179 [], .fn 180 [], .fn 181 [], .fn 182 [], .fn 183 [], .fn 184 []]))), (17, .int .i64 10), (18, .int .i64 9), (19, .bool true)], [.box (c_TRouter a0)]⟩ ?_)))
 refine then_n (awp_seq ?_)
 refine cnd true (fun _ => ?_) (fun b83 => Bool.noConfusion b83)
 refine awp_skip (then_n (awp_seq (awp_block (awp_seq ?_))))
 obtain ⟨c84, h85⟩ := gd_some h82
 refine rgc [1, 5, 16, 17, 18] 1 ⟨29, [(1, .ref 0 0), (5, .fn 184 []), (16, .sl true 1 10 (fun i => List.take 1 (List.drop (i * 1) [.fn 175 [], .fn 176 [], .fn 177 [], .fn 178 [], .fn 179 [], .fn 180 [], .fn 181 [], .fn 182 [], .fn 183 [], .fn 184 []]))), (17, .int .i64 10), (18, .int .i64 9)], [.box (c_TRouter a0)]⟩ [decide (0 ≤ 9), decide (9 < (10 : Int))] c84 ?_
 refine then_n (awp_seq ?_)
 obtain ⟨r12, q86, h87⟩ := bind_some h85
 refine rg [.pure (.int .i64 r12)] [1, 6, 16, 17, 18] 1 ⟨29, [(1, .ref 0 0), (6, .int .i64 r12), (16, .sl true 1 10 (fun i => List.take 1 (List.drop (i * 1) [.fn 175 [], .fn 176 [], .fn 177 [], .fn 178 [], .fn 179 [], .fn 180 [], .fn 181 [], .fn 182 [], .fn 183 [], .fn 184 []]))), (17, .int .i64 10), (18, .int .i64 9)], [.box (c_TRouter a0)]⟩ [] [⟨true, 184, [.agg (c_TRouter a0)], .pure (.int .i64 r12)⟩] nil_all ⟨fun _ => model_checkPathVector_ok a0 r12 q86, trivial⟩ ?_
 refine then_n (awp_seq (rg0 [1, 6, 16, 17, 18, 26] 1 ⟨29, [(1, .ref 0 0), (6, .int .i64 r12), (16, .sl true 1 10 (fun i => List.take 1 (List.drop (i * 1) [.fn 175 [], .fn 176 [], .fn 177 [], .fn 178 [], .fn 179 [], .fn 180 [], .fn 181 [], .fn 182 [], .fn 183 [], .fn 184 []]))), (17, .int .i64 10), (18, .int .i64 9), (26, .bool (r12 != 0))], [.box (c_TRouter a0)]⟩ ?_))
 refine then_n ?_
 refine cnd (r12 != 0) (fun b88 => ?_) (fun b88 => ?_)
 have h89 := cond_t b88 h87
 refine awp_seq ?_
 cases h89
 have h90 := cond_f b88 h87
 refine awp_skip (inb_n (then_n (rg0 [1, 16, 17, 18] 1 ⟨29, [(1, .ref 0 0), (16, .sl true 1 10 (fun i => List.take 1 (List.drop (i * 1) [.fn 175 [], .fn 176 [], .fn 177 [], .fn 178 [], .fn 179 [], .fn 180 [], .fn 181 [], .fn 182 [], .fn 183 [], .fn 184 []]))), (17, .int .i64 10), (18, .int .i64 10)], [.box (c_TRouter a0)]⟩ ?_)))
 refine thenl_n (lwp_round (awp_seq (rg0 [1, 16, 17, 18, 19] 1 ⟨29, [(1, .ref 0 0), (16, .sl true 1 10 (fun i => List.take 1 (List.drop (i * 1) [.fn 175 [], .fn 176 [], .fn 177 [], .fn 178 [], .fn 179 [], .fn 180 [], .fn 181 [], .fn 182 [], .fn 183 [], .fn 184 []]))), (17, .int .i64 10), (18, .int .i64 10), (19, .bool false)], [.box (c_TRouter a0)]⟩ ?_)))
 refine then_n (awp_seq ?_)
 refine cnd false (fun b91 => Bool.noConfusion b91) (fun _ => ?_)
 refine awp_exit (then_e (thenl_e (inb_here (then_n (awp_seq (rg0 [2] 0 ⟨29, [(2, .int .i64 0)], []⟩ ?_))))))
 refine then_n (awp_ret ?_)
 obtain rfl := Option.some.inj h90
 exact er0 (.int .i64 0)
theorem model_Check_ok (a0 : TNetwork) (r : Int) (h : M.model_Check a0 = some r) : Fn Tryz.prog 98 [.agg (c_TNetwork a0)] (.pure (.int .i64 r)) := by
 unfold M.model_Check at h
 refine fn_pure Tryz.func98 rfl (by kernel_rfl) ?_
 refine awp_seq (rg0 [1] 1 ⟨46, [(1, .ref 0 0)], [.box (c_TNetwork a0)]⟩ ?_)
 refine then_n (awp_seq (awp_seq (rg0 [1, 11] 1 ⟨46, [(1, .ref 0 0), (11, .bool (decide ((a0.fRouters.length : Int) > 8)))], [.box (c_TNetwork a0)]⟩ ?_)))
 refine then_n ?_
 refine cnd (decide ((a0.fRouters.length : Int) > 8)) (fun b1 => ?_) (fun b1 => ?_)
 have h2 := cond_t b1 h
 refine awp_seq ?_
 cases h2
 have h3 := cond_f b1 h
 refine awp_skip (then_n (awp_seq (awp_seq (rg0 [1, 13, 14, 15] 1 ⟨46, [(1, .ref 0 0), (13, sL 25 c_TRouter a0.fRouters), (14, .int .i64 (a0.fRouters.length : Int)), (15, .int .i64 0)], [.box (c_TNetwork a0)]⟩ ?_))))
 refine then_n (awp_block ?_)
 obtain ⟨y7, q27, h28⟩ := bind_some h3
 refine awp_le (s' := ⟨46, [(1, .ref 0 0), (13, sL 25 c_TRouter a0.fRouters), (14, .int .i64 (a0.fRouters.length : Int)), (15, .int .i64 0)], [.box (c_TNetwork a0)]⟩) (le_rfl) ?_
 refine awp_mono (awp_loop (f := M.model_Check_l1 a0) (S := fun (p1 : Int) => ⟨46, [(1, .ref 0 0), (13, sL 25 c_TRouter a0.fRouters), (14, .int .i64 (a0.fRouters.length : Int)), (15, .int .i64 p1)], [.box (c_TNetwork a0)]⟩) (O := (fun z => OutE 0 (fun z => ⟨46, [], []⟩) z)) ?_ (x := 0) (y := y7) (loopM_iter q27)) ?_
 intro p1 y2 h4
 unfold M.model_Check_l1 at h4
 refine awp_seq (rg0 [1, 13, 14, 15, 16] 1 ⟨46, [(1, .ref 0 0), (13, sL 25 c_TRouter a0.fRouters), (14, .int .i64 (a0.fRouters.length : Int)), (15, .int .i64 p1), (16, .bool (decide (p1 < (a0.fRouters.length : Int))))], [.box (c_TNetwork a0)]⟩ ?_)
 refine then_n (awp_seq ?_)
 refine cnd (decide (p1 < (a0.fRouters.length : Int))) (fun b5 => ?_) (fun b5 => ?_)
 have h6 := cond_t b5 h4
 refine awp_skip (then_n (awp_seq (awp_block (awp_seq ?_))))
 obtain ⟨c8, h9⟩ := gd_some h6
 refine rgc [1, 3, 4, 13, 14, 15] 2 ⟨46, [(1, .ref 0 0), (3, .int .i64 p1), (4, .ref 1 0), (13, sL 25 c_TRouter a0.fRouters), (14, .int .i64 (a0.fRouters.length : Int)), (15, .int .i64 p1)], [.box (c_TNetwork a0), .box (c_TRouter (a0.fRouters.getD p1.toNat default))]⟩ [decide (0 ≤ p1), decide (p1 < (a0.fRouters.length : Int))] c8 ?_
 refine then_n (awp_seq (awp_seq ?_))
 obtain ⟨r3, q10, h11⟩ := bind_some h9
 refine rg [.pure (.int .i64 r3)] [1, 3, 4, 5, 13, 14, 15] 2 ⟨46, [(1, .ref 0 0), (3, .int .i64 p1), (4, .ref 1 0), (5, .int .i64 r3), (13, sL 25 c_TRouter a0.fRouters), (14, .int .i64 (a0.fRouters.length : Int)), (15, .int .i64 p1)], [.box (c_TNetwork a0), .box (c_TRouter (a0.fRouters.getD p1.toNat default))]⟩ [] [⟨true, 123, [.agg (c_TRouter (a0.fRouters.getD p1.toNat default))], .pure (.int .i64 r3)⟩] nil_all ⟨fun _ => model_CheckRouter_ok (a0.fRouters.getD p1.toNat default) r3 q10, trivial⟩ ?_
 refine then_n (awp_seq (rg0 [1, 3, 4, 5, 13, 14, 15, 23] 2 ⟨46, [(1, .ref 0 0), (3, .int .i64 p1), (4, .ref 1 0), (5, .int .i64 r3), (13, sL 25 c_TRouter a0.fRouters), (14, .int .i64 (a0.fRouters.length : Int)), (15, .int .i64 p1), (23, .bool (r3 != 0))], [.box (c_TNetwork a0), .box (c_TRouter (a0.fRouters.getD p1.toNat default))]⟩ ?_))
 refine then_n ?_
 refine cnd (r3 != 0) (fun b12 => ?_) (fun b12 => ?_)
 have h13 := cond_t b12 h11
 refine awp_seq ?_
 cases h13
 have h14 := cond_f b12 h11
 refine awp_skip (then_n (awp_seq ?_))
 obtain ⟨c15, h16⟩ := gd_some h14
 refine rgc [1, 4, 13, 14, 15, 28, 29, 30] 2 ⟨46, [(1, .ref 0 0), (4, .ref 1 0), (13, sL 25 c_TRouter a0.fRouters), (14, .int .i64 (a0.fRouters.length : Int)), (15, .int .i64 p1), (28, .sl false 25 (p1.toNat - 0) (fun i => c_TRouter (a0.fRouters.getD (0 + i) default))), (29, .int .i64 ((p1.toNat - 0 : Nat) : Int)), (30, .int .i64 0)], [.box (c_TNetwork a0), .box (c_TRouter (a0.fRouters.getD p1.toNat default))]⟩ [decide (0 ≤ p1), decide (p1 ≤ (a0.fRouters.length : Int))] c15 ?_
 refine then_le (s' := ⟨46, [(1, .ref 0 0), (4, .ref 1 0), (13, sL 25 c_TRouter a0.fRouters), (14, .int .i64 (a0.fRouters.length : Int)), (15, .int .i64 p1), (28, sL 25 c_TRouter ((a0.fRouters.drop 0).take (p1.toNat - 0))), (29, .int .i64 ((p1.toNat - 0 : Nat) : Int)), (30, .int .i64 0)], [.box (c_TNetwork a0), .box (c_TRouter (a0.fRouters.getD p1.toNat default))]⟩) (le_sub (.cons Sub.rfl (.cons Sub.rfl (.cons Sub.rfl (.cons Sub.rfl (.cons Sub.rfl (.cons (sub_sl (len_cut _ _ _ (cut_hi (c15 _ (List.mem_cons_of_mem _ List.mem_cons_self)))) (cut_ext _ _ _ _)) (.cons Sub.rfl (.cons Sub.rfl .nil)))))))) (.cons .rfl (.cons .rfl .nil))) ?_
 refine awp_block ?_
 obtain ⟨y6, q21, h22⟩ := bind_some h16
 refine awp_le (s' := ⟨46, [(1, .ref 0 0), (4, .ref 1 0), (13, sL 25 c_TRouter a0.fRouters), (14, .int .i64 (a0.fRouters.length : Int)), (15, .int .i64 p1), (28, sL 25 c_TRouter ((a0.fRouters.drop 0).take (p1.toNat - 0))), (29, .int .i64 ((p1.toNat - 0 : Nat) : Int)), (30, .int .i64 0)], [.box (c_TNetwork a0), .box (c_TRouter (a0.fRouters.getD p1.toNat default))]⟩) (le_rfl) ?_
 refine awp_mono (awp_loop (f := M.model_Check_l2 p1) (S := fun (p4 : Int) => ⟨46, [(1, .ref 0 0), (4, .ref 1 0), (13, sL 25 c_TRouter a0.fRouters), (14, .int .i64 (a0.fRouters.length : Int)), (15, .int .i64 p1), (28, sL 25 c_TRouter ((a0.fRouters.drop 0).take (p1.toNat - 0))), (29, .int .i64 ((p1.toNat - 0 : Nat) : Int)), (30, .int .i64 p4)], [.box (c_TNetwork a0), .box (c_TRouter (a0.fRouters.getD p1.toNat default))]⟩) (O := (fun z => OutE 2 (fun z => ⟨46, [(1, .ref 0 0), (13, sL 25 c_TRouter a0.fRouters), (14, .int .i64 (a0.fRouters.length : Int)), (15, .int .i64 p1)], [.box (c_TNetwork a0)]⟩) z)) ?_ (x := 0) (y := y6) (loopM_iter q21)) ?_
 intro p4 y5 h17
 unfold M.model_Check_l2 at h17
 refine awp_seq (rg0 [1, 4, 13, 14, 15, 28, 29, 30, 31] 2 ⟨46, [(1, .ref 0 0), (4, .ref 1 0), (13, sL 25 c_TRouter a0.fRouters), (14, .int .i64 (a0.fRouters.length : Int)), (15, .int .i64 p1), (28, sL 25 c_TRouter ((a0.fRouters.drop 0).take (p1.toNat - 0))), (29, .int .i64 ((p1.toNat - 0 : Nat) : Int)), (30, .int .i64 p4), (31, .bool (decide (p4 < ((p1.toNat - 0 : Nat) : Int))))], [.box (c_TNetwork a0), .box (c_TRouter (a0.fRouters.getD p1.toNat default))]⟩ ?_)
 refine then_n (awp_seq ?_)
 refine cnd (decide (p4 < ((p1.toNat - 0 : Nat) : Int))) (fun b18 => ?_) (fun b18 => ?_)
 have h19 := cond_t b18 h17
 refine awp_skip (then_n (awp_seq (awp_block (awp_seq ?_))))
 cases h19
 have h20 := cond_f b18 h17
 refine awp_exit (then_e ?_)
 obtain rfl := Option.some.inj h20
 exact round_e ⟨rfl, Le.trans (s' := ⟨46, [(1, .ref 0 0), (13, sL 25 c_TRouter a0.fRouters), (14, .int .i64 (a0.fRouters.length : Int)), (15, .int .i64 p1)], [.box (c_TNetwork a0), .box (c_TRouter (a0.fRouters.getD p1.toNat default))]⟩) (kp [1, 13, 14, 15]) (le_cut (n := 1) (by kernel_rfl))⟩
 intro e23 s24 o25
 obtain ⟨rfl, l26⟩ := o25
 refine inb_here (inb_n ?_)
 refine then_le (s' := ⟨46, [(1, .ref 0 0), (13, sL 25 c_TRouter a0.fRouters), (14, .int .i64 (a0.fRouters.length : Int)), (15, .int .i64 p1)], [.box (c_TNetwork a0)]⟩) (l26) ?_
 refine rg0 [1, 13, 14, 15] 1 ⟨46, [(1, .ref 0 0), (13, sL 25 c_TRouter a0.fRouters), (14, .int .i64 (a0.fRouters.length : Int)), (15, .int .i64 (wr .i64 (p1 + 1)))], [.box (c_TNetwork a0)]⟩ ?_
 obtain rfl := Option.some.inj h22
 exact round_n (le_rfl)
 have h7 := cond_f b5 h4
 refine awp_exit (then_e ?_)
 obtain rfl := Option.some.inj h7
 exact round_e ⟨rfl, Le.trans (s' := ⟨46, [], [.box (c_TNetwork a0)]⟩) (kp []) (le_cut (n := 0) (by kernel_rfl))⟩
 intro e29 s30 o31
 obtain ⟨rfl, l32⟩ := o31
 refine inb_here ?_
 refine then_le (s' := ⟨46, [], []⟩) (l32) ?_
 refine awp_seq (rg0 [2] 0 ⟨46, [(2, .int .i64 0)], []⟩ ?_)
 refine then_n (awp_ret ?_)
 obtain rfl := Option.some.inj h28
 exact er0 (.int .i64 0)
theorem addr_Network_ok (a0 : Int) (a1 : Int) (r : TPrefix) (h : M.addr_Network a0 a1 = some r) : Fn Tryz.prog 125 [.int .u32 a0, .int .i64 a1] (.pure (.agg (c_TPrefix r))) := by
 unfold M.addr_Network at h
 refine fn_pure Tryz.func125 rfl (by kernel_rfl) ?_
 refine awp_seq (rg0 [0, 1, 4] 1 ⟨12, [(0, .int .u32 a0), (1, .int .i64 a1), (4, .ref 0 0)], [.box [.int .u32 0, .int .i64 0]]⟩ ?_)
 refine then_n (awp_seq ?_)
 obtain ⟨r1, q1, h2⟩ := bind_some h
 obtain ⟨r2, q3, h4⟩ := bind_some h2
 refine rg [.pure (.int .u32 r1), .pure (.int .i64 r2)] [4] 1 ⟨12, [(4, .ref 0 0)], [.box [.int .u32 (bitD .and .u32 a0 r1), .int .i64 r2]]⟩ [] [⟨true, 79, [.int .i64 a1], .pure (.int .u32 r1)⟩, ⟨true, 105, [.int .i64 a1], .pure (.int .i64 r2)⟩] nil_all ⟨fun _ => addr_Mask_ok a1 r1 q1, fun _ => addr_clamp_ok a1 r2 q3, trivial⟩ ?_
 refine then_n (awp_ret ?_)
 obtain rfl := Option.some.inj h4
 exact er0 (.agg [.int .u32 (bitD .and .u32 a0 r1), .int .i64 r2])
theorem topo_key : KeyT Tryz.prog 190 192 3 c_TdomainKey topoKeyEq := ⟨by kernel_rfl, ⟨_, Tryz.underlying192⟩, ⟨3, by kernel_rfl, fun _ => rfl⟩, fun _ => rfl, fun em y w => by cases em <;> kernel_rfl, fun w => by kernel_rfl, fun x y => by kernel_rfl⟩
theorem topo_collect_own (a0 : TNetwork) (r : List TDomain) (h : M.topo_collect a0 = some r) : Fn Tryz.prog 99 [.agg (c_TNetwork a0)] (oL 4 c_TDomain r) := by
 unfold M.topo_collect at h
 obtain ⟨y, hy, h1⟩ := bind_some h
 obtain rfl := Option.some.inj h1
 refine fn_own Tryz.func99 rfl (by kernel_rfl) (awp_ends_le ?_)
 refine awp_seq (rg0 [1] 1 ⟨82, [(1, .ref 0 0)], [.box (c_TNetwork a0)]⟩ ?_)
 refine then_n (awp_seq (rg0 [1, 3] 1 ⟨82, [(1, .ref 0 0), (3, .sl true 4 0 (fun _ => []))], [.box (c_TNetwork a0)]⟩ ?_))
 refine then_n (awp_seq ?_)
 refine rgo 0 [] [1, 3] 1 ⟨82, [(1, .ref 0 0), (3, .sl true 4 0 (fun _ => []))], [.box (c_TNetwork a0)]⟩ [] [] nil_all trivial (fun u : Value => ⟨82, (12, .val u) :: [(1, .ref 0 0), (3, .sl true 4 0 (fun _ => []))], [.box (c_TNetwork a0)] ++ [.mp u []]⟩) (opS_make rfl rfl rfl rfl rfl) [] [1, 3, 4] 2 (fun u => ⟨82, [(1, .ref 0 0), (3, .sl true 4 0 (fun _ => [])), (4, .val u)], [.box (c_TNetwork a0), .mp u []]⟩) (fun _ => []) (fun _ => []) (fun _ => nil_all) (fun _ => trivial) (fun u => ?_)
 refine then_n (awp_seq (awp_seq (rg0 [3, 4, 14, 15, 16] 2 ⟨82, [(3, .sl true 4 0 (fun _ => [])), (4, .val u), (14, sL 25 c_TRouter a0.fRouters), (15, .int .i64 (a0.fRouters.length : Int)), (16, .int .i64 0)], [.box (c_TNetwork a0), .mp u []]⟩ ?_)))
 refine then_le (Le.trans (s' := ⟨82, (3, .asl 2 0 0) :: [(3, .sl true 4 0 (fun _ => [])), (4, .val u), (14, sL 25 c_TRouter a0.fRouters), (15, .int .i64 (a0.fRouters.length : Int)), (16, .int .i64 0)], [.box (c_TNetwork a0), .mp u []] ++ [.arr 4 0 (fun _ => [])]⟩) (le_thaw (wd := 4) (f := fun _ => []) 3 (by kernel_rfl) _ _) (Le.trans (s' := ⟨82, [(3, .asl 2 0 0), (4, .val u), (14, sL 25 c_TRouter a0.fRouters), (15, .int .i64 (a0.fRouters.length : Int)), (16, .int .i64 0)], [.box (c_TNetwork a0), .mp u [], .arr 4 0 (fun _ => [])]⟩) (kp [3, 4, 14, 15, 16]) (le_rows0 (H := [.box (c_TNetwork a0), .mp u []]) (wi := 2) (wd := 4) hdDom c_TEnd TDomain.fEnds _))) ?_
 refine awp_block ?_
 refine awp_mono (awp_loopE (f := M.topo_collect_l1 a0) (S := fun (p : (List TDomain) × (List (TdomainKey × Int)) × Int) (vs : Nat → Value) => ⟨82, [(3, .asl 2 0 p.1.length), (4, .val u), (14, sL 25 c_TRouter a0.fRouters), (15, .int .i64 (a0.fRouters.length : Int)), (16, .int .i64 p.2.2)], [.box (c_TNetwork a0), mpO u c_TdomainKey p.2.1, rA 4 hdDom p.1 vs, rF 2 c_TEnd TDomain.fEnds p.1 vs]⟩) (O := (fun z => OutL 0 (fun (z : List TDomain) (g : (Nat → Value) × (List (TdomainKey × Int))) => ⟨82, [(3, .asl 2 0 z.length)], [.box (c_TNetwork a0), mpO u c_TdomainKey g.2, rA 4 hdDom z g.1, rF 2 c_TEnd TDomain.fEnds z g.1]⟩) z)) ?_ (g := fun _ => nilV) (x := ([], [], 0)) (y := y) (loopM_iter hy)) ?_
 · intro p1 y1 v1 h2
   unfold M.topo_collect_l1 at h2
   refine awp_seq (rg0 [3, 4, 14, 15, 16, 17] 4 ⟨82, [(3, .asl 2 0 p1.1.length), (4, .val u), (14, sL 25 c_TRouter a0.fRouters), (15, .int .i64 (a0.fRouters.length : Int)), (16, .int .i64 p1.2.2), (17, .bool (decide (p1.2.2 < (a0.fRouters.length : Int))))], [.box (c_TNetwork a0), mpO u c_TdomainKey p1.2.1, rA 4 hdDom p1.1 v1, rF 2 c_TEnd TDomain.fEnds p1.1 v1]⟩ ?_)
   refine then_n (awp_seq ?_)
   refine cnd (decide (p1.2.2 < (a0.fRouters.length : Int))) (fun b1 => ?_) (fun b1 => ?_)
   · have h3 := cond_t b1 h2
     refine awp_skip (then_n ?_)
     refine awp_seq (awp_block (awp_seq ?_))
     obtain ⟨c1, h4⟩ := gd_some h3
     refine rgc [3, 4, 5, 6, 14, 15, 16] 5 ⟨82, [(3, .asl 2 0 p1.1.length), (4, .val u), (5, .int .i64 p1.2.2), (6, .ref 4 0), (14, sL 25 c_TRouter a0.fRouters), (15, .int .i64 (a0.fRouters.length : Int)), (16, .int .i64 p1.2.2)], [.box (c_TNetwork a0), mpO u c_TdomainKey p1.2.1, rA 4 hdDom p1.1 v1, rF 2 c_TEnd TDomain.fEnds p1.1 v1, .box (c_TRouter (a0.fRouters.getD p1.2.2.toNat default))]⟩ [decide (0 ≤ p1.2.2), decide (p1.2.2 < (a0.fRouters.length : Int))] c1 ?_
     refine then_n (awp_seq (rg0 [3, 4, 5, 14, 15, 16, 22, 23, 24] 4 ⟨82, [(3, .asl 2 0 p1.1.length), (4, .val u), (5, .int .i64 p1.2.2), (14, sL 25 c_TRouter a0.fRouters), (15, .int .i64 (a0.fRouters.length : Int)), (16, .int .i64 p1.2.2), (22, sL 12 c_TInterface (a0.fRouters.getD p1.2.2.toNat default).fInterfaces), (23, .int .i64 ((a0.fRouters.getD p1.2.2.toNat default).fInterfaces.length : Int)), (24, .int .i64 0)], [.box (c_TNetwork a0), mpO u c_TdomainKey p1.2.1, rA 4 hdDom p1.1 v1, rF 2 c_TEnd TDomain.fEnds p1.1 v1]⟩ ?_))
     refine then_n (awp_block ?_)
     obtain ⟨y2, hy2, h5⟩ := bind_some h4
     refine awp_mono (awp_loopE (f := M.topo_collect_l2 a0 p1.2.2) (S := fun (p : (List TDomain) × (List (TdomainKey × Int)) × Int) (vs : Nat → Value) => ⟨82, [(3, .asl 2 0 p.1.length), (4, .val u), (5, .int .i64 p1.2.2), (14, sL 25 c_TRouter a0.fRouters), (15, .int .i64 (a0.fRouters.length : Int)), (16, .int .i64 p1.2.2), (22, sL 12 c_TInterface (a0.fRouters.getD p1.2.2.toNat default).fInterfaces), (23, .int .i64 ((a0.fRouters.getD p1.2.2.toNat default).fInterfaces.length : Int)), (24, .int .i64 p.2.2)], [.box (c_TNetwork a0), mpO u c_TdomainKey p.2.1, rA 4 hdDom p.1 vs, rF 2 c_TEnd TDomain.fEnds p.1 vs]⟩) (O := (fun z => OutL 2 (fun (z : (List TDomain) × (List (TdomainKey × Int))) (vs : Nat → Value) => ⟨82, [(3, .asl 2 0 z.1.length), (4, .val u), (14, sL 25 c_TRouter a0.fRouters), (15, .int .i64 (a0.fRouters.length : Int)), (16, .int .i64 p1.2.2)], [.box (c_TNetwork a0), mpO u c_TdomainKey z.2, rA 4 hdDom z.1 vs, rF 2 c_TEnd TDomain.fEnds z.1 vs]⟩) z)) ?_ (g := v1) (x := (p1.1, p1.2.1, 0)) (y := y2) (loopM_iter hy2)) ?_
     · intro p2 y3 v2 h6
       unfold M.topo_collect_l2 at h6
       refine awp_seq (rg0 [3, 4, 5, 14, 15, 16, 22, 23, 24, 25] 4 ⟨82, [(3, .asl 2 0 p2.1.length), (4, .val u), (5, .int .i64 p1.2.2), (14, sL 25 c_TRouter a0.fRouters), (15, .int .i64 (a0.fRouters.length : Int)), (16, .int .i64 p1.2.2), (22, sL 12 c_TInterface (a0.fRouters.getD p1.2.2.toNat default).fInterfaces), (23, .int .i64 ((a0.fRouters.getD p1.2.2.toNat default).fInterfaces.length : Int)), (24, .int .i64 p2.2.2), (25, .bool (decide (p2.2.2 < ((a0.fRouters.getD p1.2.2.toNat default).fInterfaces.length : Int))))], [.box (c_TNetwork a0), mpO u c_TdomainKey p2.2.1, rA 4 hdDom p2.1 v2, rF 2 c_TEnd TDomain.fEnds p2.1 v2]⟩ ?_)
       refine then_n (awp_seq ?_)
       refine cnd (decide (p2.2.2 < ((a0.fRouters.getD p1.2.2.toNat default).fInterfaces.length : Int))) (fun b2 => ?_) (fun b2 => ?_)
       · have h7 := cond_t b2 h6
         refine awp_skip (then_n ?_)
         refine awp_seq (awp_block (awp_seq ?_))
         obtain ⟨c2, h8⟩ := gd_some h7
         refine rgc [3, 4, 5, 7, 8, 14, 15, 16, 22, 23, 24] 5 ⟨82, [(3, .asl 2 0 p2.1.length), (4, .val u), (5, .int .i64 p1.2.2), (7, .int .i64 p2.2.2), (8, .ref 4 0), (14, sL 25 c_TRouter a0.fRouters), (15, .int .i64 (a0.fRouters.length : Int)), (16, .int .i64 p1.2.2), (22, sL 12 c_TInterface (a0.fRouters.getD p1.2.2.toNat default).fInterfaces), (23, .int .i64 ((a0.fRouters.getD p1.2.2.toNat default).fInterfaces.length : Int)), (24, .int .i64 p2.2.2)], [.box (c_TNetwork a0), mpO u c_TdomainKey p2.2.1, rA 4 hdDom p2.1 v2, rF 2 c_TEnd TDomain.fEnds p2.1 v2, .box (c_TInterface ((a0.fRouters.getD p1.2.2.toNat default).fInterfaces.getD p2.2.2.toNat default))]⟩ [decide (0 ≤ p2.2.2), decide (p2.2.2 < ((a0.fRouters.getD p1.2.2.toNat default).fInterfaces.length : Int))] c2 ?_
         refine then_n (awp_seq (awp_seq ?_))
         refine rg0 [3, 4, 5, 7, 8, 14, 15, 16, 22, 23, 24, 35] 5 ⟨82, [(3, .asl 2 0 p2.1.length), (4, .val u), (5, .int .i64 p1.2.2), (7, .int .i64 p2.2.2), (8, .ref 4 0), (14, sL 25 c_TRouter a0.fRouters), (15, .int .i64 (a0.fRouters.length : Int)), (16, .int .i64 p1.2.2), (22, sL 12 c_TInterface (a0.fRouters.getD p1.2.2.toNat default).fInterfaces), (23, .int .i64 ((a0.fRouters.getD p1.2.2.toNat default).fInterfaces.length : Int)), (24, .int .i64 p2.2.2), (35, .bool ((((a0.fRouters.getD p1.2.2.toNat default).fInterfaces.getD p2.2.2.toNat default).fLen == 0) || ((a0.fRouters.getD p1.2.2.toNat default).fInterfaces.getD p2.2.2.toNat default).fDown))], [.box (c_TNetwork a0), mpO u c_TdomainKey p2.2.1, rA 4 hdDom p2.1 v2, rF 2 c_TEnd TDomain.fEnds p2.1 v2, .box (c_TInterface ((a0.fRouters.getD p1.2.2.toNat default).fInterfaces.getD p2.2.2.toNat default))]⟩ ?_
         refine then_n ?_
         refine cnd ((((a0.fRouters.getD p1.2.2.toNat default).fInterfaces.getD p2.2.2.toNat default).fLen == 0) || ((a0.fRouters.getD p1.2.2.toNat default).fInterfaces.getD p2.2.2.toNat default).fDown) (fun b3 => ?_) (fun b3 => ?_)
         · have h9 := cond_t b3 h8
           refine awp_exit (then_e (inb_here ?_))
           refine then_n (rg0 [3, 4, 5, 14, 15, 16, 22, 23, 24] 4 ⟨82, [(3, .asl 2 0 p2.1.length), (4, .val u), (5, .int .i64 p1.2.2), (14, sL 25 c_TRouter a0.fRouters), (15, .int .i64 (a0.fRouters.length : Int)), (16, .int .i64 p1.2.2), (22, sL 12 c_TInterface (a0.fRouters.getD p1.2.2.toNat default).fInterfaces), (23, .int .i64 ((a0.fRouters.getD p1.2.2.toNat default).fInterfaces.length : Int)), (24, .int .i64 (wr .i64 (p2.2.2 + 1)))], [.box (c_TNetwork a0), mpO u c_TdomainKey p2.2.1, rA 4 hdDom p2.1 v2, rF 2 c_TEnd TDomain.fEnds p2.1 v2]⟩ ?_)
           obtain rfl := Option.some.inj h9
           exact roundE_n v2 le_rfl
         · have h9 := cond_f b3 h8
           refine awp_skip (then_n (awp_seq ?_))
           obtain ⟨r, hr, h10⟩ := bind_some h9
           refine rgs 8 9 [.pure (.agg (c_TPrefix r))] [3, 4, 5, 7, 9, 14, 15, 16, 22, 23, 24] 6 ⟨82, [(3, .asl 2 0 p2.1.length), (4, .val u), (5, .int .i64 p1.2.2), (7, .int .i64 p2.2.2), (9, .ref 5 0), (14, sL 25 c_TRouter a0.fRouters), (15, .int .i64 (a0.fRouters.length : Int)), (16, .int .i64 p1.2.2), (22, sL 12 c_TInterface (a0.fRouters.getD p1.2.2.toNat default).fInterfaces), (23, .int .i64 ((a0.fRouters.getD p1.2.2.toNat default).fInterfaces.length : Int)), (24, .int .i64 p2.2.2)], [.box (c_TNetwork a0), mpO u c_TdomainKey p2.2.1, rA 4 hdDom p2.1 v2, rF 2 c_TEnd TDomain.fEnds p2.1 v2, .box (c_TInterface ((a0.fRouters.getD p1.2.2.toNat default).fInterfaces.getD p2.2.2.toNat default)), .box (c_TdomainKey (⟨r, ((a0.fRouters.getD p1.2.2.toNat default).fInterfaces.getD p2.2.2.toNat default).fVLAN⟩ : TdomainKey))]⟩ [] [⟨true, 125, [.int .u32 ((a0.fRouters.getD p1.2.2.toNat default).fInterfaces.getD p2.2.2.toNat default).fAddr, .int .i64 ((a0.fRouters.getD p1.2.2.toNat default).fInterfaces.getD p2.2.2.toNat default).fLen], .pure (.agg (c_TPrefix r))⟩] nil_all ⟨fun _ => addr_Network_ok ((a0.fRouters.getD p1.2.2.toNat default).fInterfaces.getD p2.2.2.toNat default).fAddr ((a0.fRouters.getD p1.2.2.toNat default).fInterfaces.getD p2.2.2.toNat default).fLen r hr, trivial⟩ ?_
           refine then_n (awp_seq ?_)
           refine rgo 2 [] [3, 4, 5, 7, 9, 14, 15, 16, 22, 23, 24, 45, 46] 6 ⟨82, [(3, .asl 2 0 p2.1.length), (4, .val u), (5, .int .i64 p1.2.2), (7, .int .i64 p2.2.2), (9, .ref 5 0), (14, sL 25 c_TRouter a0.fRouters), (15, .int .i64 (a0.fRouters.length : Int)), (16, .int .i64 p1.2.2), (22, sL 12 c_TInterface (a0.fRouters.getD p1.2.2.toNat default).fInterfaces), (23, .int .i64 ((a0.fRouters.getD p1.2.2.toNat default).fInterfaces.length : Int)), (24, .int .i64 p2.2.2), (45, .val u), (46, .agg (c_TdomainKey (⟨r, ((a0.fRouters.getD p1.2.2.toNat default).fInterfaces.getD p2.2.2.toNat default).fVLAN⟩ : TdomainKey)))], [.box (c_TNetwork a0), mpO u c_TdomainKey p2.2.1, rA 4 hdDom p2.1 v2, rF 2 c_TEnd TDomain.fEnds p2.1 v2, .box (c_TInterface ((a0.fRouters.getD p1.2.2.toNat default).fInterfaces.getD p2.2.2.toNat default)), .box (c_TdomainKey (⟨r, ((a0.fRouters.getD p1.2.2.toNat default).fInterfaces.getD p2.2.2.toNat default).fVLAN⟩ : TdomainKey))]⟩ [] [] nil_all trivial (fun _ : Unit => ⟨82, (47, .tup [.int .i64 (lkM (topoKeyEq (⟨r, ((a0.fRouters.getD p1.2.2.toNat default).fInterfaces.getD p2.2.2.toNat default).fVLAN⟩ : TdomainKey)) p2.2.1).1, .bool (lkM (topoKeyEq (⟨r, ((a0.fRouters.getD p1.2.2.toNat default).fInterfaces.getD p2.2.2.toNat default).fVLAN⟩ : TdomainKey)) p2.2.1).2]) :: [(3, .asl 2 0 p2.1.length), (4, .val u), (5, .int .i64 p1.2.2), (7, .int .i64 p2.2.2), (9, .ref 5 0), (14, sL 25 c_TRouter a0.fRouters), (15, .int .i64 (a0.fRouters.length : Int)), (16, .int .i64 p1.2.2), (22, sL 12 c_TInterface (a0.fRouters.getD p1.2.2.toNat default).fInterfaces), (23, .int .i64 ((a0.fRouters.getD p1.2.2.toNat default).fInterfaces.length : Int)), (24, .int .i64 p2.2.2), (45, .val u), (46, .agg (c_TdomainKey (⟨r, ((a0.fRouters.getD p1.2.2.toNat default).fInterfaces.getD p2.2.2.toNat default).fVLAN⟩ : TdomainKey)))], [.box (c_TNetwork a0), mpO u c_TdomainKey p2.2.1, rA 4 hdDom p2.1 v2, rF 2 c_TEnd TDomain.fEnds p2.1 v2, .box (c_TInterface ((a0.fRouters.getD p1.2.2.toNat default).fInterfaces.getD p2.2.2.toNat default)), .box (c_TdomainKey (⟨r, ((a0.fRouters.getD p1.2.2.toNat default).fInterfaces.getD p2.2.2.toNat default).fVLAN⟩ : TdomainKey))]⟩) (opS_look (id := 1) topo_key (⟨r, ((a0.fRouters.getD p1.2.2.toNat default).fInterfaces.getD p2.2.2.toNat default).fVLAN⟩ : TdomainKey) rfl rfl rfl rfl rfl rfl rfl rfl) [] [3, 4, 5, 7, 9, 10, 11, 14, 15, 16, 22, 23, 24] 6 (fun _ => ⟨82, [(3, .asl 2 0 p2.1.length), (4, .val u), (5, .int .i64 p1.2.2), (7, .int .i64 p2.2.2), (9, .ref 5 0), (10, .int .i64 (lkM (topoKeyEq (⟨r, ((a0.fRouters.getD p1.2.2.toNat default).fInterfaces.getD p2.2.2.toNat default).fVLAN⟩ : TdomainKey)) p2.2.1).1), (11, .bool (lkM (topoKeyEq (⟨r, ((a0.fRouters.getD p1.2.2.toNat default).fInterfaces.getD p2.2.2.toNat default).fVLAN⟩ : TdomainKey)) p2.2.1).2), (14, sL 25 c_TRouter a0.fRouters), (15, .int .i64 (a0.fRouters.length : Int)), (16, .int .i64 p1.2.2), (22, sL 12 c_TInterface (a0.fRouters.getD p1.2.2.toNat default).fInterfaces), (23, .int .i64 ((a0.fRouters.getD p1.2.2.toNat default).fInterfaces.length : Int)), (24, .int .i64 p2.2.2)], [.box (c_TNetwork a0), mpO u c_TdomainKey p2.2.1, rA 4 hdDom p2.1 v2, rF 2 c_TEnd TDomain.fEnds p2.1 v2, .box (c_TInterface ((a0.fRouters.getD p1.2.2.toNat default).fInterfaces.getD p2.2.2.toNat default)), .box (c_TdomainKey (⟨r, ((a0.fRouters.getD p1.2.2.toNat default).fInterfaces.getD p2.2.2.toNat default).fVLAN⟩ : TdomainKey))]⟩) (fun _ => []) (fun _ => []) (fun _ => nil_all) (fun _ => trivial) (fun _ => ?_)
           refine then_n ?_
           refine awp_join (fun (q : (List TDomain) × (List (TdomainKey × Int)) × Int × (Nat → Value)) => ⟨82, [(3, .asl 2 0 q.1.length), (4, .val u), (5, .int .i64 p1.2.2), (7, .int .i64 p2.2.2), (10, .int .i64 q.2.2.1), (14, sL 25 c_TRouter a0.fRouters), (15, .int .i64 (a0.fRouters.length : Int)), (16, .int .i64 p1.2.2), (22, sL 12 c_TInterface (a0.fRouters.getD p1.2.2.toNat default).fInterfaces), (23, .int .i64 ((a0.fRouters.getD p1.2.2.toNat default).fInterfaces.length : Int)), (24, .int .i64 p2.2.2)], [.box (c_TNetwork a0), mpO u c_TdomainKey q.2.1, rA 4 hdDom q.1 q.2.2.2, rF 2 c_TEnd TDomain.fEnds q.1 q.2.2.2]⟩) (fun q => M.topo_collect_k p1.2.2 p2 (q.1, q.2.1, q.2.2.1) = some y3) ?_ ?_
           · intro q h11
             unfold M.topo_collect_k at h11
             obtain ⟨c4, h12⟩ := gd_some h11
             have g1 : 0 ≤ q.2.2.1 := of_decide_eq_true (c4 _ (by simp only [List.mem_cons, true_or]))
             have g2 : q.2.2.1 < (q.1.length : Int) := of_decide_eq_true (c4 _ (by simp only [List.mem_cons, true_or, or_true]))
             have g3 : ((q.1.getD (0 + q.2.2.1.toNat) default).fEnds.length + 1) * 16 ≤ 140737488355328 := of_decide_eq_true (c4 _ (by simp only [List.mem_cons, true_or, or_true]))
             refine awp_le (le_foc (idf := 3) (0 + q.2.2.1.toNat) rfl) ?_
             refine rgxe 12 [] [3, 4, 5, 14, 15, 16, 22, 23, 24, 65, 66, 76] 5 ⟨82, [(3, .asl 2 0 q.1.length), (4, .val u), (5, .int .i64 p1.2.2), (14, sL 25 c_TRouter a0.fRouters), (15, .int .i64 (a0.fRouters.length : Int)), (16, .int .i64 p1.2.2), (22, sL 12 c_TInterface (a0.fRouters.getD p1.2.2.toNat default).fInterfaces), (23, .int .i64 ((a0.fRouters.getD p1.2.2.toNat default).fInterfaces.length : Int)), (24, .int .i64 p2.2.2), (65, .asl 2 0 q.1.length), (66, .int .i64 q.2.2.1), (76, .asl 4 0 ((q.1.getD (0 + q.2.2.1.toNat) default).fEnds.length + 1))], [.box (c_TNetwork a0), mpO u c_TdomainKey q.2.1, rA 4 hdDom q.1 q.2.2.2, .fam (0 + q.2.2.1.toNat) (fun _ => false) q.1.length 2 (updV q.2.2.2 (0 + q.2.2.1.toNat) nilV) (updL (rls c_TEnd TDomain.fEnds q.1) (0 + q.2.2.1.toNat) (0, fun _ => [])), .arr 2 ((q.1.getD (0 + q.2.2.1.toNat) default).fEnds.length + 1) (app (rls c_TEnd TDomain.fEnds q.1 (0 + q.2.2.1.toNat)).2 (rls c_TEnd TDomain.fEnds q.1 (0 + q.2.2.1.toNat)).1 (fun i => List.take 2 (List.drop (i * 2) [.int .i64 p1.2.2, .int .i64 p2.2.2])))]⟩ [decide (0 ≤ q.2.2.1), decide (q.2.2.1 < (q.1.length : Int)), pB (q.2.2.2 (0 + q.2.2.1.toNat) = q.2.2.2 (0 + q.2.2.1.toNat)), decide ((0 + q.2.2.1.toNat) < q.1.length), decide (((q.1.getD (0 + q.2.2.1.toNat) default).fEnds.length + 1) * 16 ≤ 140737488355328)] [] ?_ trivial _ (leE_ref (idf := 3) 76 (0 + q.2.2.1.toNat) rfl rfl rfl ?_ rfl) [] [3, 4, 5, 14, 15, 16, 22, 23, 24] 4 (fun w => ⟨82, [(3, .asl 2 0 q.1.length), (4, .val u), (5, .int .i64 p1.2.2), (14, sL 25 c_TRouter a0.fRouters), (15, .int .i64 (a0.fRouters.length : Int)), (16, .int .i64 p1.2.2), (22, sL 12 c_TInterface (a0.fRouters.getD p1.2.2.toNat default).fInterfaces), (23, .int .i64 ((a0.fRouters.getD p1.2.2.toNat default).fInterfaces.length : Int)), (24, .int .i64 p2.2.2)], [.box (c_TNetwork a0), mpO u c_TdomainKey q.2.1, .arr 4 q.1.length (fun j => bif Nat.beq j (0 + q.2.2.1.toNat) then splice (hdDom (q.1.getD (0 + q.2.2.1.toNat) default) ++ [.val (q.2.2.2 (0 + q.2.2.1.toNat))]) [.val w] 3 else hdDom (q.1.getD j default) ++ [.val (q.2.2.2 j)]), .fam 0 (fun _ => false) q.1.length 2 (updV (updV q.2.2.2 (0 + q.2.2.1.toNat) nilV) (0 + q.2.2.1.toNat) w) (updL (updL (rls c_TEnd TDomain.fEnds q.1) (0 + q.2.2.1.toNat) (0, fun _ => [])) (0 + q.2.2.1.toNat) ((q.1.getD (0 + q.2.2.1.toNat) default).fEnds.length + 1, (app (rls c_TEnd TDomain.fEnds q.1 (0 + q.2.2.1.toNat)).2 (rls c_TEnd TDomain.fEnds q.1 (0 + q.2.2.1.toNat)).1 (fun i => List.take 2 (List.drop (i * 2) [.int .i64 p1.2.2, .int .i64 p2.2.2])))))]⟩) (fun _ => [decide (0 ≤ q.2.2.1), decide (q.2.2.1 < (q.1.length : Int))]) (fun _ => []) ?_ (fun _ => trivial) (fun w => ?_)
             · exact am (decide_eq_true g1) (am (decide_eq_true g2) (am (pB_of rfl) (am (decide_eq_true (by omega)) (am (decide_eq_true g3) nil_all))))
             · rw [updV_self]; rfl
             · exact fun _ => am (decide_eq_true g1) (am (decide_eq_true g2) nil_all)
             refine inb_n ?_
             refine then_le (s' := ⟨82, [(3, .asl 2 0 (q.1.set (0 + q.2.2.1.toNat) (⟨(q.1.getD (0 + q.2.2.1.toNat) default).fPrefix, (q.1.getD (0 + q.2.2.1.toNat) default).fVLAN, (q.1.getD (0 + q.2.2.1.toNat) default).fEnds ++ [(⟨p1.2.2, p2.2.2⟩ : TEnd)]⟩ : TDomain)).length), (4, .val u), (5, .int .i64 p1.2.2), (14, sL 25 c_TRouter a0.fRouters), (15, .int .i64 (a0.fRouters.length : Int)), (16, .int .i64 p1.2.2), (22, sL 12 c_TInterface (a0.fRouters.getD p1.2.2.toNat default).fInterfaces), (23, .int .i64 ((a0.fRouters.getD p1.2.2.toNat default).fInterfaces.length : Int)), (24, .int .i64 p2.2.2)], [.box (c_TNetwork a0), mpO u c_TdomainKey q.2.1, rA 4 hdDom (q.1.set (0 + q.2.2.1.toNat) (⟨(q.1.getD (0 + q.2.2.1.toNat) default).fPrefix, (q.1.getD (0 + q.2.2.1.toNat) default).fVLAN, (q.1.getD (0 + q.2.2.1.toNat) default).fEnds ++ [(⟨p1.2.2, p2.2.2⟩ : TEnd)]⟩ : TDomain)) (updV q.2.2.2 (0 + q.2.2.1.toNat) w), rF 2 c_TEnd TDomain.fEnds (q.1.set (0 + q.2.2.1.toNat) (⟨(q.1.getD (0 + q.2.2.1.toNat) default).fPrefix, (q.1.getD (0 + q.2.2.1.toNat) default).fVLAN, (q.1.getD (0 + q.2.2.1.toNat) default).fEnds ++ [(⟨p1.2.2, p2.2.2⟩ : TEnd)]⟩ : TDomain)) (updV q.2.2.2 (0 + q.2.2.1.toNat) w)]⟩) (Le.trans (le_rset 2 3 hdDom c_TEnd TDomain.fEnds q.1 (⟨(q.1.getD (0 + q.2.2.1.toNat) default).fPrefix, (q.1.getD (0 + q.2.2.1.toNat) default).fVLAN, (q.1.getD (0 + q.2.2.1.toNat) default).fEnds ++ [(⟨p1.2.2, p2.2.2⟩ : TEnd)]⟩ : TDomain) q.2.2.2 (0 + q.2.2.1.toNat) w ((q.1.getD (0 + q.2.2.1.toNat) default).fEnds.length + 1) (app (rls c_TEnd TDomain.fEnds q.1 (0 + q.2.2.1.toNat)).2 (rls c_TEnd TDomain.fEnds q.1 (0 + q.2.2.1.toNat)).1 (fun i => List.take 2 (List.drop (i * 2) [.int .i64 p1.2.2, .int .i64 p2.2.2]))) _ _ _ (by decide) rfl rfl (fun j _ hj => by rw [beq_no hj]; rfl) (fun _ => by rw [Nat.beq_refl]; rfl) (fun j hj => updV_ne hj) (fun j hj => updL_ne hj) (by simp) (fun i hi => app_snoc c_TEnd (q.1.getD (0 + q.2.2.1.toNat) default).fEnds (⟨p1.2.2, p2.2.2⟩ : TEnd) (fun i => List.take 2 (List.drop (i * 2) [.int .i64 p1.2.2, .int .i64 p2.2.2])) rfl i hi)) (le_sub (.cons (asl_len (by simp)) (.cons Sub.rfl (.cons Sub.rfl (.cons Sub.rfl (.cons Sub.rfl (.cons Sub.rfl (.cons Sub.rfl (.cons Sub.rfl (.cons Sub.rfl .nil))))))))) HSub.rfl)) ?_
             refine rg0 [3, 4, 5, 14, 15, 16, 22, 23, 24] 4 ⟨82, [(3, .asl 2 0 (q.1.set (0 + q.2.2.1.toNat) (⟨(q.1.getD (0 + q.2.2.1.toNat) default).fPrefix, (q.1.getD (0 + q.2.2.1.toNat) default).fVLAN, (q.1.getD (0 + q.2.2.1.toNat) default).fEnds ++ [(⟨p1.2.2, p2.2.2⟩ : TEnd)]⟩ : TDomain)).length), (4, .val u), (5, .int .i64 p1.2.2), (14, sL 25 c_TRouter a0.fRouters), (15, .int .i64 (a0.fRouters.length : Int)), (16, .int .i64 p1.2.2), (22, sL 12 c_TInterface (a0.fRouters.getD p1.2.2.toNat default).fInterfaces), (23, .int .i64 ((a0.fRouters.getD p1.2.2.toNat default).fInterfaces.length : Int)), (24, .int .i64 (wr .i64 (p2.2.2 + 1)))], [.box (c_TNetwork a0), mpO u c_TdomainKey q.2.1, rA 4 hdDom (q.1.set (0 + q.2.2.1.toNat) (⟨(q.1.getD (0 + q.2.2.1.toNat) default).fPrefix, (q.1.getD (0 + q.2.2.1.toNat) default).fVLAN, (q.1.getD (0 + q.2.2.1.toNat) default).fEnds ++ [(⟨p1.2.2, p2.2.2⟩ : TEnd)]⟩ : TDomain)) (updV q.2.2.2 (0 + q.2.2.1.toNat) w), rF 2 c_TEnd TDomain.fEnds (q.1.set (0 + q.2.2.1.toNat) (⟨(q.1.getD (0 + q.2.2.1.toNat) default).fPrefix, (q.1.getD (0 + q.2.2.1.toNat) default).fVLAN, (q.1.getD (0 + q.2.2.1.toNat) default).fEnds ++ [(⟨p1.2.2, p2.2.2⟩ : TEnd)]⟩ : TDomain)) (updV q.2.2.2 (0 + q.2.2.1.toNat) w)]⟩ ?_
             obtain rfl := Option.some.inj h12
             exact roundE_n (updV q.2.2.2 (0 + q.2.2.1.toNat) w) le_rfl
           · intro hk
             refine awp_seq (rg0 [3, 4, 5, 7, 9, 10, 14, 15, 16, 22, 23, 24, 51] 6 ⟨82, [(3, .asl 2 0 p2.1.length), (4, .val u), (5, .int .i64 p1.2.2), (7, .int .i64 p2.2.2), (9, .ref 5 0), (10, .int .i64 (lkM (topoKeyEq (⟨r, ((a0.fRouters.getD p1.2.2.toNat default).fInterfaces.getD p2.2.2.toNat default).fVLAN⟩ : TdomainKey)) p2.2.1).1), (14, sL 25 c_TRouter a0.fRouters), (15, .int .i64 (a0.fRouters.length : Int)), (16, .int .i64 p1.2.2), (22, sL 12 c_TInterface (a0.fRouters.getD p1.2.2.toNat default).fInterfaces), (23, .int .i64 ((a0.fRouters.getD p1.2.2.toNat default).fInterfaces.length : Int)), (24, .int .i64 p2.2.2), (51, .bool (!(lkM (topoKeyEq (⟨r, ((a0.fRouters.getD p1.2.2.toNat default).fInterfaces.getD p2.2.2.toNat default).fVLAN⟩ : TdomainKey)) p2.2.1).2))], [.box (c_TNetwork a0), mpO u c_TdomainKey p2.2.1, rA 4 hdDom p2.1 v2, rF 2 c_TEnd TDomain.fEnds p2.1 v2, .box (c_TInterface ((a0.fRouters.getD p1.2.2.toNat default).fInterfaces.getD p2.2.2.toNat default)), .box (c_TdomainKey (⟨r, ((a0.fRouters.getD p1.2.2.toNat default).fInterfaces.getD p2.2.2.toNat default).fVLAN⟩ : TdomainKey))]⟩ ?_)
             refine then_n ?_
             refine cnd (!(lkM (topoKeyEq (⟨r, ((a0.fRouters.getD p1.2.2.toNat default).fInterfaces.getD p2.2.2.toNat default).fVLAN⟩ : TdomainKey)) p2.2.1).2) (fun b4 => ?_) (fun b4 => ?_)
             · have h11 := cond_t b4 h10
               obtain ⟨c4, h12⟩ := gd_some h11
               refine awp_seq (rg0 [3, 4, 5, 7, 9, 10, 14, 15, 16, 22, 23, 24] 6 ⟨82, [(3, .asl 2 0 p2.1.length), (4, .val u), (5, .int .i64 p1.2.2), (7, .int .i64 p2.2.2), (9, .ref 5 0), (10, .int .i64 (p2.1.length : Int)), (14, sL 25 c_TRouter a0.fRouters), (15, .int .i64 (a0.fRouters.length : Int)), (16, .int .i64 p1.2.2), (22, sL 12 c_TInterface (a0.fRouters.getD p1.2.2.toNat default).fInterfaces), (23, .int .i64 ((a0.fRouters.getD p1.2.2.toNat default).fInterfaces.length : Int)), (24, .int .i64 p2.2.2)], [.box (c_TNetwork a0), mpO u c_TdomainKey p2.2.1, rA 4 hdDom p2.1 v2, rF 2 c_TEnd TDomain.fEnds p2.1 v2, .box (c_TInterface ((a0.fRouters.getD p1.2.2.toNat default).fInterfaces.getD p2.2.2.toNat default)), .box (c_TdomainKey (⟨r, ((a0.fRouters.getD p1.2.2.toNat default).fInterfaces.getD p2.2.2.toNat default).fVLAN⟩ : TdomainKey))]⟩ ?_)
               refine then_n (awp_seq ?_)
               refine rgo 3 [] [3, 4, 5, 7, 9, 10, 14, 15, 16, 22, 23, 24, 54, 55, 56] 6 ⟨82, [(3, .asl 2 0 p2.1.length), (4, .val u), (5, .int .i64 p1.2.2), (7, .int .i64 p2.2.2), (9, .ref 5 0), (10, .int .i64 (p2.1.length : Int)), (14, sL 25 c_TRouter a0.fRouters), (15, .int .i64 (a0.fRouters.length : Int)), (16, .int .i64 p1.2.2), (22, sL 12 c_TInterface (a0.fRouters.getD p1.2.2.toNat default).fInterfaces), (23, .int .i64 ((a0.fRouters.getD p1.2.2.toNat default).fInterfaces.length : Int)), (24, .int .i64 p2.2.2), (54, .val u), (55, .agg (c_TdomainKey (⟨r, ((a0.fRouters.getD p1.2.2.toNat default).fInterfaces.getD p2.2.2.toNat default).fVLAN⟩ : TdomainKey))), (56, .int .i64 (p2.1.length : Int))], [.box (c_TNetwork a0), mpO u c_TdomainKey p2.2.1, rA 4 hdDom p2.1 v2, rF 2 c_TEnd TDomain.fEnds p2.1 v2, .box (c_TInterface ((a0.fRouters.getD p1.2.2.toNat default).fInterfaces.getD p2.2.2.toNat default)), .box (c_TdomainKey (⟨r, ((a0.fRouters.getD p1.2.2.toNat default).fInterfaces.getD p2.2.2.toNat default).fVLAN⟩ : TdomainKey))]⟩ [] [] nil_all trivial (fun _ : Unit => ⟨82, [(3, .asl 2 0 p2.1.length), (4, .val u), (5, .int .i64 p1.2.2), (7, .int .i64 p2.2.2), (9, .ref 5 0), (10, .int .i64 (p2.1.length : Int)), (14, sL 25 c_TRouter a0.fRouters), (15, .int .i64 (a0.fRouters.length : Int)), (16, .int .i64 p1.2.2), (22, sL 12 c_TInterface (a0.fRouters.getD p1.2.2.toNat default).fInterfaces), (23, .int .i64 ((a0.fRouters.getD p1.2.2.toNat default).fInterfaces.length : Int)), (24, .int .i64 p2.2.2), (54, .val u), (55, .agg (c_TdomainKey (⟨r, ((a0.fRouters.getD p1.2.2.toNat default).fInterfaces.getD p2.2.2.toNat default).fVLAN⟩ : TdomainKey))), (56, .int .i64 (p2.1.length : Int))], [.box (c_TNetwork a0), mpO u c_TdomainKey (p2.2.1 ++ [((⟨r, ((a0.fRouters.getD p1.2.2.toNat default).fInterfaces.getD p2.2.2.toNat default).fVLAN⟩ : TdomainKey), (p2.1.length : Int))]), rA 4 hdDom p2.1 v2, rF 2 c_TEnd TDomain.fEnds p2.1 v2, .box (c_TInterface ((a0.fRouters.getD p1.2.2.toNat default).fInterfaces.getD p2.2.2.toNat default)), .box (c_TdomainKey (⟨r, ((a0.fRouters.getD p1.2.2.toNat default).fInterfaces.getD p2.2.2.toNat default).fVLAN⟩ : TdomainKey))]⟩) (opS_upd (id := 1) topo_key (⟨r, ((a0.fRouters.getD p1.2.2.toNat default).fInterfaces.getD p2.2.2.toNat default).fVLAN⟩ : TdomainKey) (p2.1.length : Int) rfl rfl rfl rfl rfl rfl rfl rfl (by simpa using b4)) [] [3, 4, 5, 7, 9, 10, 14, 15, 16, 22, 23, 24] 6 (fun _ => ⟨82, [(3, .asl 2 0 p2.1.length), (4, .val u), (5, .int .i64 p1.2.2), (7, .int .i64 p2.2.2), (9, .ref 5 0), (10, .int .i64 (p2.1.length : Int)), (14, sL 25 c_TRouter a0.fRouters), (15, .int .i64 (a0.fRouters.length : Int)), (16, .int .i64 p1.2.2), (22, sL 12 c_TInterface (a0.fRouters.getD p1.2.2.toNat default).fInterfaces), (23, .int .i64 ((a0.fRouters.getD p1.2.2.toNat default).fInterfaces.length : Int)), (24, .int .i64 p2.2.2)], [.box (c_TNetwork a0), mpO u c_TdomainKey (p2.2.1 ++ [((⟨r, ((a0.fRouters.getD p1.2.2.toNat default).fInterfaces.getD p2.2.2.toNat default).fVLAN⟩ : TdomainKey), (p2.1.length : Int))]), rA 4 hdDom p2.1 v2, rF 2 c_TEnd TDomain.fEnds p2.1 v2, .box (c_TInterface ((a0.fRouters.getD p1.2.2.toNat default).fInterfaces.getD p2.2.2.toNat default)), .box (c_TdomainKey (⟨r, ((a0.fRouters.getD p1.2.2.toNat default).fInterfaces.getD p2.2.2.toNat default).fVLAN⟩ : TdomainKey))]⟩) (fun _ => []) (fun _ => []) (fun _ => nil_all) (fun _ => trivial) (fun _ => ?_)
               refine then_n ?_
               refine rgc [3, 4, 5, 7, 10, 14, 15, 16, 22, 23, 24] 4 ⟨82, [(3, .asl 2 0 (p2.1.length + 1)), (4, .val u), (5, .int .i64 p1.2.2), (7, .int .i64 p2.2.2), (10, .int .i64 (p2.1.length : Int)), (14, sL 25 c_TRouter a0.fRouters), (15, .int .i64 (a0.fRouters.length : Int)), (16, .int .i64 p1.2.2), (22, sL 12 c_TInterface (a0.fRouters.getD p1.2.2.toNat default).fInterfaces), (23, .int .i64 ((a0.fRouters.getD p1.2.2.toNat default).fInterfaces.length : Int)), (24, .int .i64 p2.2.2)], [.box (c_TNetwork a0), mpO u c_TdomainKey (p2.2.1 ++ [((⟨r, ((a0.fRouters.getD p1.2.2.toNat default).fInterfaces.getD p2.2.2.toNat default).fVLAN⟩ : TdomainKey), (p2.1.length : Int))]), .arr 4 (p2.1.length + 1) (app (fun j => hdDom (p2.1.getD j default) ++ [.val (v2 j)]) p2.1.length (fun i => List.take 4 (List.drop (i * 4) [.int .u32 r.fAddr, .int .i64 r.fLen, .int .i64 ((a0.fRouters.getD p1.2.2.toNat default).fInterfaces.getD p2.2.2.toNat default).fVLAN, .sl true 2 0 (fun _ => [])]))), rF 2 c_TEnd TDomain.fEnds p2.1 v2]⟩ [decide ((p2.1.length + 1) * 48 ≤ 140737488355328)] c4 ?_
               refine then_leE (leE_rgrow 2 3 hdDom c_TEnd TDomain.fEnds p2.1 (⟨r, ((a0.fRouters.getD p1.2.2.toNat default).fInterfaces.getD p2.2.2.toNat default).fVLAN, []⟩ : TDomain) v2 (by decide) rfl rfl rfl (fun j hj => app_old hj) (app_at.trans rfl)) fun w => ?_
               exact awp_le (le_sub (.cons (asl_len (by simp)) (.cons Sub.rfl (.cons Sub.rfl (.cons Sub.rfl (.cons Sub.rfl (.cons Sub.rfl (.cons Sub.rfl (.cons Sub.rfl (.cons Sub.rfl (.cons Sub.rfl (.cons Sub.rfl .nil))))))))))) HSub.rfl) (hk (p2.1 ++ [(⟨r, ((a0.fRouters.getD p1.2.2.toNat default).fInterfaces.getD p2.2.2.toNat default).fVLAN, []⟩ : TDomain)], (p2.2.1 ++ [((⟨r, ((a0.fRouters.getD p1.2.2.toNat default).fInterfaces.getD p2.2.2.toNat default).fVLAN⟩ : TdomainKey), (p2.1.length : Int))]), (p2.1.length : Int), updV v2 p2.1.length w.1) h12)
             · have h11 := cond_f b4 h10
               refine awp_skip ?_
               exact then_le (Le.trans (s' := ⟨82, [(3, .asl 2 0 p2.1.length), (4, .val u), (5, .int .i64 p1.2.2), (7, .int .i64 p2.2.2), (10, .int .i64 (lkM (topoKeyEq (⟨r, ((a0.fRouters.getD p1.2.2.toNat default).fInterfaces.getD p2.2.2.toNat default).fVLAN⟩ : TdomainKey)) p2.2.1).1), (14, sL 25 c_TRouter a0.fRouters), (15, .int .i64 (a0.fRouters.length : Int)), (16, .int .i64 p1.2.2), (22, sL 12 c_TInterface (a0.fRouters.getD p1.2.2.toNat default).fInterfaces), (23, .int .i64 ((a0.fRouters.getD p1.2.2.toNat default).fInterfaces.length : Int)), (24, .int .i64 p2.2.2)], [.box (c_TNetwork a0), mpO u c_TdomainKey p2.2.1, rA 4 hdDom p2.1 v2, rF 2 c_TEnd TDomain.fEnds p2.1 v2, .box (c_TInterface ((a0.fRouters.getD p1.2.2.toNat default).fInterfaces.getD p2.2.2.toNat default)), .box (c_TdomainKey (⟨r, ((a0.fRouters.getD p1.2.2.toNat default).fInterfaces.getD p2.2.2.toNat default).fVLAN⟩ : TdomainKey))]⟩) (kp [3, 4, 5, 7, 10, 14, 15, 16, 22, 23, 24]) (le_cut (n := 4) (by kernel_rfl))) (hk (p2.1, p2.2.1, (lkM (topoKeyEq (⟨r, ((a0.fRouters.getD p1.2.2.toNat default).fInterfaces.getD p2.2.2.toNat default).fVLAN⟩ : TdomainKey)) p2.2.1).1, v2) h11)
       · have h7 := cond_f b2 h6
         refine awp_exit (then_e ?_)
         obtain rfl := Option.some.inj h7
         exact roundE_e ⟨rfl, LeE.of v2 (kp [3, 4, 14, 15, 16])⟩
     · intro e s o
       obtain ⟨rfl, l⟩ := o
       refine inb_here (inb_n ?_)
       refine then_leE l fun v2 => ?_
       refine rg0 [3, 4, 14, 15, 16] 4 ⟨82, [(3, .asl 2 0 y2.1.length), (4, .val u), (14, sL 25 c_TRouter a0.fRouters), (15, .int .i64 (a0.fRouters.length : Int)), (16, .int .i64 (wr .i64 (p1.2.2 + 1)))], [.box (c_TNetwork a0), mpO u c_TdomainKey y2.2, rA 4 hdDom y2.1 v2, rF 2 c_TEnd TDomain.fEnds y2.1 v2]⟩ ?_
       obtain rfl := Option.some.inj h5
       exact roundE_n v2 le_rfl
   · have h3 := cond_f b1 h2
     refine awp_exit (then_e ?_)
     obtain rfl := Option.some.inj h3
     exact roundE_e ⟨rfl, LeE.of (v1, p1.2.1) (kp [3])⟩
 · intro e s o
   obtain ⟨rfl, l⟩ := o
   refine inb_here ?_
   refine then_leE l fun g => ?_
   refine awp_seq (rg0 [2] 4 ⟨82, [(2, .asl 2 0 y.length)], [.box (c_TNetwork a0), mpO u c_TdomainKey g.2, rA 4 hdDom y g.1, rF 2 c_TEnd TDomain.fEnds y g.1]⟩ ?_)
   refine then_n (awp_ret ?_)
   exact ⟨_, le_rfrz 2 3 hdDom c_TEnd TDomain.fEnds c_TDomain y g.1 rfl rfl (fun _ => rfl), .inr rfl, 2, 2, _, rfl, rfl, rfl, fun _ _ => rfl⟩
theorem cmp_isNaN_uint32_ok (a0 : Int) (r : Bool) (h : M.cmp_isNaN_uint32 a0 = some r) : Fn Tryz.prog 73 [.int .u32 a0] (.pure (.bool r)) := by
 unfold M.cmp_isNaN_uint32 at h
 refine fn_pure Tryz.func73 rfl (by kernel_rfl) ?_
 refine awp_seq (rg0 [0] 0 ⟨6, [(0, .int .u32 a0)], []⟩ ?_)
 refine then_n (awp_seq (rg0 [2] 0 ⟨6, [(2, .bool (a0 != a0))], []⟩ ?_))
 refine then_n (awp_ret ?_)
 obtain rfl := Option.some.inj h
 exact er0 (.bool (a0 != a0))
theorem cmp_Compare_uint32_ok (a0 : Int) (a1 : Int) (r : Int) (h : M.cmp_Compare_uint32 a0 a1 = some r) : Fn Tryz.prog 36 [.int .u32 a0, .int .u32 a1] (.pure (.int .i64 r)) := by
 unfold M.cmp_Compare_uint32 at h
 refine fn_pure Tryz.func36 rfl (by kernel_rfl) ?_
 refine awp_seq (rg0 [0, 1] 0 ⟨20, [(0, .int .u32 a0), (1, .int .u32 a1)], []⟩ ?_)
 refine then_n (awp_seq ?_)
 obtain ⟨r1, q1, h2⟩ := bind_some h
 refine rg [.pure (.bool r1)] [0, 1, 5] 0 ⟨20, [(0, .int .u32 a0), (1, .int .u32 a1), (5, .bool r1)], []⟩ [] [⟨true, 73, [.int .u32 a0], .pure (.bool r1)⟩] nil_all ⟨fun _ => cmp_isNaN_uint32_ok a0 r1 q1, trivial⟩ ?_
 refine then_n (awp_seq ?_)
 obtain ⟨r2, q3, h4⟩ := bind_some h2
 refine rg [.pure (.bool r2)] [0, 1, 5, 6] 0 ⟨20, [(0, .int .u32 a0), (1, .int .u32 a1), (5, .bool r1), (6, .bool r2)], []⟩ [] [⟨true, 73, [.int .u32 a1], .pure (.bool r2)⟩] nil_all ⟨fun _ => cmp_isNaN_uint32_ok a1 r2 q3, trivial⟩ ?_
 refine then_n (awp_seq (awp_seq (rg0 [0, 1, 6, 11] 0 ⟨20, [(0, .int .u32 a0), (1, .int .u32 a1), (6, .bool r2), (11, .bool r1)], []⟩ ?_)))
 refine then_n ?_
 refine cnd r1 (fun b5 => ?_) (fun b5 => ?_)
 have h6 := cond_t b5 h4
 refine awp_seq (awp_seq (rg0 [12] 0 ⟨20, [(12, .bool r2)], []⟩ ?_))
 refine then_n ?_
 refine cnd r2 (fun b8 => ?_) (fun b8 => ?_)
 have h9 := cond_t b8 h6
 refine awp_seq (rg0 [4] 0 ⟨20, [(4, .int .i64 0)], []⟩ ?_)
 refine then_n (awp_ret (then_r (then_r ?_)))
 obtain rfl := Option.some.inj h9
 exact er0 (.int .i64 0)
 have h10 := cond_f b8 h6
 refine awp_skip (then_n (awp_seq (rg0 [4] 0 ⟨20, [(4, .int .i64 (-1))], []⟩ ?_)))
 refine then_n (awp_ret (then_r ?_))
 obtain rfl := Option.some.inj h10
 exact er0 (.int .i64 (-1))
 have h7 := cond_f b5 h4
 refine awp_skip (then_n (awp_seq (awp_seq (rg0 [0, 1, 13] 0 ⟨20, [(0, .int .u32 a0), (1, .int .u32 a1), (13, .bool r2)], []⟩ ?_))))
 refine then_n ?_
 refine cnd r2 (fun b11 => ?_) (fun b11 => ?_)
 have h12 := cond_t b11 h7
 refine awp_seq (rg0 [4] 0 ⟨20, [(4, .int .i64 1)], []⟩ ?_)
 refine then_n (awp_ret (then_r ?_))
 obtain rfl := Option.some.inj h12
 exact er0 (.int .i64 1)
 have h13 := cond_f b11 h7
 refine awp_skip (then_n (awp_seq (awp_seq (rg0 [0, 1, 16] 0 ⟨20, [(0, .int .u32 a0), (1, .int .u32 a1), (16, .bool (decide (a0 < a1)))], []⟩ ?_))))
 refine then_n ?_
 refine cnd (decide (a0 < a1)) (fun b14 => ?_) (fun b14 => ?_)
 have h15 := cond_t b14 h13
 refine awp_seq (rg0 [4] 0 ⟨20, [(4, .int .i64 (-1))], []⟩ ?_)
 refine then_n (awp_ret (then_r ?_))
 obtain rfl := Option.some.inj h15
 exact er0 (.int .i64 (-1))
 have h16 := cond_f b14 h13
 refine awp_skip (then_n (awp_seq (awp_seq (rg0 [19] 0 ⟨20, [(19, .bool (decide (a0 > a1)))], []⟩ ?_))))
 refine then_n ?_
 refine cnd (decide (a0 > a1)) (fun b17 => ?_) (fun b17 => ?_)
 have h18 := cond_t b17 h16
 refine awp_seq (rg0 [4] 0 ⟨20, [(4, .int .i64 1)], []⟩ ?_)
 refine then_n (awp_ret (then_r ?_))
 obtain rfl := Option.some.inj h18
 exact er0 (.int .i64 1)
 have h19 := cond_f b17 h16
 refine awp_skip (then_n (awp_seq (rg0 [4] 0 ⟨20, [(4, .int .i64 0)], []⟩ ?_)))
 refine then_n (awp_ret ?_)
 obtain rfl := Option.some.inj h19
 exact er0 (.int .i64 0)
theorem cmp_isNaN_int_ok (a0 : Int) (r : Bool) (h : M.cmp_isNaN_int a0 = some r) : Fn Tryz.prog 72 [.int .i64 a0] (.pure (.bool r)) := by
 unfold M.cmp_isNaN_int at h
 refine fn_pure Tryz.func72 rfl (by kernel_rfl) ?_
 refine awp_seq (rg0 [0] 0 ⟨6, [(0, .int .i64 a0)], []⟩ ?_)
 refine then_n (awp_seq (rg0 [2] 0 ⟨6, [(2, .bool (a0 != a0))], []⟩ ?_))
 refine then_n (awp_ret ?_)
 obtain rfl := Option.some.inj h
 exact er0 (.bool (a0 != a0))
theorem cmp_Compare_int_ok (a0 : Int) (a1 : Int) (r : Int) (h : M.cmp_Compare_int a0 a1 = some r) : Fn Tryz.prog 35 [.int .i64 a0, .int .i64 a1] (.pure (.int .i64 r)) := by
 unfold M.cmp_Compare_int at h
 refine fn_pure Tryz.func35 rfl (by kernel_rfl) ?_
 refine awp_seq (rg0 [0, 1] 0 ⟨20, [(0, .int .i64 a0), (1, .int .i64 a1)], []⟩ ?_)
 refine then_n (awp_seq ?_)
 obtain ⟨r1, q1, h2⟩ := bind_some h
 refine rg [.pure (.bool r1)] [0, 1, 5] 0 ⟨20, [(0, .int .i64 a0), (1, .int .i64 a1), (5, .bool r1)], []⟩ [] [⟨true, 72, [.int .i64 a0], .pure (.bool r1)⟩] nil_all ⟨fun _ => cmp_isNaN_int_ok a0 r1 q1, trivial⟩ ?_
 refine then_n (awp_seq ?_)
 obtain ⟨r2, q3, h4⟩ := bind_some h2
 refine rg [.pure (.bool r2)] [0, 1, 5, 6] 0 ⟨20, [(0, .int .i64 a0), (1, .int .i64 a1), (5, .bool r1), (6, .bool r2)], []⟩ [] [⟨true, 72, [.int .i64 a1], .pure (.bool r2)⟩] nil_all ⟨fun _ => cmp_isNaN_int_ok a1 r2 q3, trivial⟩ ?_
 refine then_n (awp_seq (awp_seq (rg0 [0, 1, 6, 11] 0 ⟨20, [(0, .int .i64 a0), (1, .int .i64 a1), (6, .bool r2), (11, .bool r1)], []⟩ ?_)))
 refine then_n ?_
 refine cnd r1 (fun b5 => ?_) (fun b5 => ?_)
 have h6 := cond_t b5 h4
 refine awp_seq (awp_seq (rg0 [12] 0 ⟨20, [(12, .bool r2)], []⟩ ?_))
 refine then_n ?_
 refine cnd r2 (fun b8 => ?_) (fun b8 => ?_)
 have h9 := cond_t b8 h6
 refine awp_seq (rg0 [4] 0 ⟨20, [(4, .int .i64 0)], []⟩ ?_)
 refine then_n (awp_ret (then_r (then_r ?_)))
 obtain rfl := Option.some.inj h9
 exact er0 (.int .i64 0)
 have h10 := cond_f b8 h6
 refine awp_skip (then_n (awp_seq (rg0 [4] 0 ⟨20, [(4, .int .i64 (-1))], []⟩ ?_)))
 refine then_n (awp_ret (then_r ?_))
 obtain rfl := Option.some.inj h10
 exact er0 (.int .i64 (-1))
 have h7 := cond_f b5 h4
 refine awp_skip (then_n (awp_seq (awp_seq (rg0 [0, 1, 13] 0 ⟨20, [(0, .int .i64 a0), (1, .int .i64 a1), (13, .bool r2)], []⟩ ?_))))
 refine then_n ?_
 refine cnd r2 (fun b11 => ?_) (fun b11 => ?_)
 have h12 := cond_t b11 h7
 refine awp_seq (rg0 [4] 0 ⟨20, [(4, .int .i64 1)], []⟩ ?_)
 refine then_n (awp_ret (then_r ?_))
 obtain rfl := Option.some.inj h12
 exact er0 (.int .i64 1)
 have h13 := cond_f b11 h7
 refine awp_skip (then_n (awp_seq (awp_seq (rg0 [0, 1, 16] 0 ⟨20, [(0, .int .i64 a0), (1, .int .i64 a1), (16, .bool (decide (a0 < a1)))], []⟩ ?_))))
 refine then_n ?_
 refine cnd (decide (a0 < a1)) (fun b14 => ?_) (fun b14 => ?_)
 have h15 := cond_t b14 h13
 refine awp_seq (rg0 [4] 0 ⟨20, [(4, .int .i64 (-1))], []⟩ ?_)
 refine then_n (awp_ret (then_r ?_))
 obtain rfl := Option.some.inj h15
 exact er0 (.int .i64 (-1))
 have h16 := cond_f b14 h13
 refine awp_skip (then_n (awp_seq (awp_seq (rg0 [19] 0 ⟨20, [(19, .bool (decide (a0 > a1)))], []⟩ ?_))))
 refine then_n ?_
 refine cnd (decide (a0 > a1)) (fun b17 => ?_) (fun b17 => ?_)
 have h18 := cond_t b17 h16
 refine awp_seq (rg0 [4] 0 ⟨20, [(4, .int .i64 1)], []⟩ ?_)
 refine then_n (awp_ret (then_r ?_))
 obtain rfl := Option.some.inj h18
 exact er0 (.int .i64 1)
 have h19 := cond_f b17 h16
 refine awp_skip (then_n (awp_seq (rg0 [4] 0 ⟨20, [(4, .int .i64 0)], []⟩ ?_)))
 refine then_n (awp_ret ?_)
 obtain rfl := Option.some.inj h19
 exact er0 (.int .i64 0)
theorem addr_Compare_ok (a0 : TPrefix) (a1 : TPrefix) (r : Int) (h : M.addr_Compare a0 a1 = some r) : Fn Tryz.prog 102 [.agg (c_TPrefix a0), .agg (c_TPrefix a1)] (.pure (.int .i64 r)) := by
 unfold M.addr_Compare at h
 refine fn_pure Tryz.func102 rfl (by kernel_rfl) ?_
 refine awp_seq (rg0 [2, 3] 2 ⟨19, [(2, .ref 0 0), (3, .ref 1 0)], [.box (c_TPrefix a0), .box (c_TPrefix a1)]⟩ ?_)
 refine then_n (awp_seq (awp_seq ?_))
 obtain ⟨r1, q1, h2⟩ := bind_some h
 refine rg [.pure (.int .i64 r1)] [2, 3, 5] 2 ⟨19, [(2, .ref 0 0), (3, .ref 1 0), (5, .int .i64 r1)], [.box (c_TPrefix a0), .box (c_TPrefix a1)]⟩ [] [⟨true, 36, [.int .u32 a0.fAddr, .int .u32 a1.fAddr], .pure (.int .i64 r1)⟩] nil_all ⟨fun _ => cmp_Compare_uint32_ok a0.fAddr a1.fAddr r1 q1, trivial⟩ ?_
 refine then_n (awp_seq (rg0 [2, 3, 5, 12] 2 ⟨19, [(2, .ref 0 0), (3, .ref 1 0), (5, .int .i64 r1), (12, .bool (r1 != 0))], [.box (c_TPrefix a0), .box (c_TPrefix a1)]⟩ ?_))
 refine then_n ?_
 refine cnd (r1 != 0) (fun b3 => ?_) (fun b3 => ?_)
 have h4 := cond_t b3 h2
 refine awp_seq (rg0 [4] 0 ⟨19, [(4, .int .i64 r1)], []⟩ ?_)
 refine then_n (awp_ret (then_r ?_))
 obtain rfl := Option.some.inj h4
 exact er0 (.int .i64 r1)
 have h5 := cond_f b3 h2
 refine awp_skip (then_n (awp_seq ?_))
 obtain ⟨r2, q6, h7⟩ := bind_some h5
 refine rg [.pure (.int .i64 r2)] [4] 0 ⟨19, [(4, .int .i64 r2)], []⟩ [] [⟨true, 35, [.int .i64 a0.fLen, .int .i64 a1.fLen], .pure (.int .i64 r2)⟩] nil_all ⟨fun _ => cmp_Compare_int_ok a0.fLen a1.fLen r2 q6, trivial⟩ ?_
 refine then_n (awp_ret ?_)
 obtain rfl := Option.some.inj h7
 exact er0 (.int .i64 r2)
theorem cmp_Or_int_ok (a0 : List Int) (r : Int) (h : M.cmp_Or_int a0 = some r) : Fn Tryz.prog 34 [sL 1 (ci .i64) a0] (.pure (.int .i64 r)) := by
 unfold M.cmp_Or_int at h
 refine fn_pure Tryz.func34 rfl (by kernel_rfl) ?_
 refine awp_seq (rg0 [0] 0 ⟨18, [(0, sL 1 (ci .i64) a0)], []⟩ ?_)
 refine then_n (awp_seq (rg0 [0, 3] 0 ⟨18, [(0, sL 1 (ci .i64) a0), (3, .int .i64 0)], []⟩ ?_))
 refine then_n (awp_seq (awp_seq (rg0 [3, 6, 7, 8] 0 ⟨18, [(3, .int .i64 0), (6, sL 1 (ci .i64) a0), (7, .int .i64 (a0.length : Int)), (8, .int .i64 0)], []⟩ ?_)))
 refine then_n (awp_block ?_)
 obtain ⟨y3, q10, h11⟩ := bind_some h
 refine awp_le (s' := ⟨18, [(3, .int .i64 0), (6, sL 1 (ci .i64) a0), (7, .int .i64 (a0.length : Int)), (8, .int .i64 0)], []⟩) (le_rfl) ?_
 refine awp_mono (awp_loop (f := M.cmp_Or_int_l1 a0) (S := fun (p1 : Int) => ⟨18, [(3, .int .i64 0), (6, sL 1 (ci .i64) a0), (7, .int .i64 (a0.length : Int)), (8, .int .i64 p1)], []⟩) (O := (Sum.elim (fun z => OutE 0 (fun z => ⟨18, [(3, .int .i64 0)], []⟩) z) (fun z => OutR Tryz.prog Tryz.f34 (.int .i64 z)))) ?_ (x := 0) (y := y3) (loopM_iter q10)) ?_
 intro p1 y2 h1
 unfold M.cmp_Or_int_l1 at h1
 refine awp_seq (rg0 [3, 6, 7, 8, 9] 0 ⟨18, [(3, .int .i64 0), (6, sL 1 (ci .i64) a0), (7, .int .i64 (a0.length : Int)), (8, .int .i64 p1), (9, .bool (decide (p1 < (a0.length : Int))))], []⟩ ?_)
 refine then_n (awp_seq ?_)
 refine cnd (decide (p1 < (a0.length : Int))) (fun b2 => ?_) (fun b2 => ?_)
 have h3 := cond_t b2 h1
 refine awp_skip (then_n (awp_seq (awp_block (awp_seq ?_))))
 obtain ⟨c5, h6⟩ := gd_some h3
 refine rgc [3, 5, 6, 7, 8] 0 ⟨18, [(3, .int .i64 0), (5, .int .i64 (a0.getD p1.toNat default)), (6, sL 1 (ci .i64) a0), (7, .int .i64 (a0.length : Int)), (8, .int .i64 p1)], []⟩ [decide (0 ≤ p1), decide (p1 < (a0.length : Int))] c5 ?_
 refine then_n (awp_seq (rg0 [3, 5, 6, 7, 8, 14] 0 ⟨18, [(3, .int .i64 0), (5, .int .i64 (a0.getD p1.toNat default)), (6, sL 1 (ci .i64) a0), (7, .int .i64 (a0.length : Int)), (8, .int .i64 p1), (14, .bool ((a0.getD p1.toNat default) != 0))], []⟩ ?_))
 refine then_n ?_
 refine cnd ((a0.getD p1.toNat default) != 0) (fun b7 => ?_) (fun b7 => ?_)
 have h8 := cond_t b7 h6
 refine awp_seq (rg0 [2] 0 ⟨18, [(2, .int .i64 (a0.getD p1.toNat default))], []⟩ ?_)
 refine then_n (awp_ret (inb_r (then_r ?_)))
 obtain rfl := Option.some.inj h8
 exact round_r ⟨rfl, er0 (.int .i64 (a0.getD p1.toNat default))⟩
 have h9 := cond_f b7 h6
 refine awp_skip (inb_n (then_n (rg0 [3, 6, 7, 8] 0 ⟨18, [(3, .int .i64 0), (6, sL 1 (ci .i64) a0), (7, .int .i64 (a0.length : Int)), (8, .int .i64 (wr .i64 (p1 + 1)))], []⟩ ?_)))
 obtain rfl := Option.some.inj h9
 exact round_n (le_rfl)
 have h4 := cond_f b2 h1
 refine awp_exit (then_e ?_)
 obtain rfl := Option.some.inj h4
 exact round_e ⟨rfl, kp [3]⟩
 intro e12 s13 o14
 rcases y3 with g4 | y5
 have h15 := elim_l h11
 obtain ⟨rfl, l17⟩ := o14
 refine inb_here ?_
 refine then_le (s' := ⟨18, [(3, .int .i64 0)], []⟩) (l17) ?_
 refine awp_seq (rg0 [2] 0 ⟨18, [(2, .int .i64 0)], []⟩ ?_)
 refine then_n (awp_ret ?_)
 obtain rfl := Option.some.inj h15
 exact er0 (.int .i64 0)
 have h16 := elim_r h11
 obtain ⟨rfl, n18⟩ := o14
 refine inb_r (then_r ?_)
 obtain rfl := Option.some.inj h16
 exact n18
theorem topo_Build_1_ok (a0 : TDomain) (a1 : TDomain) (r : Int) (h : M.topo_Build_1 a0 a1 = some r) : Fn Tryz.prog 101 [.agg (c_TDomain a0), .agg (c_TDomain a1)] (.pure (.int .i64 r)) := by
 unfold M.topo_Build_1 at h
 refine fn_pure Tryz.func101 rfl (by kernel_rfl) ?_
 refine awp_seq (rg0 [2, 3] 2 ⟨17, [(2, .ref 0 0), (3, .ref 1 0)], [.box (c_TDomain a0), .box (c_TDomain a1)]⟩ ?_)
 refine then_n (awp_seq ?_)
 obtain ⟨r1, q1, h2⟩ := bind_some h
 obtain ⟨r2, q3, h4⟩ := bind_some h2
 obtain ⟨r3, q5, h6⟩ := bind_some h4
 refine rg [.pure (.int .i64 r1), .pure (.int .i64 r2), .pure (.int .i64 r3)] [4] 0 ⟨17, [(4, .int .i64 r3)], []⟩ [] [⟨true, 102, [.agg (c_TPrefix a0.fPrefix), .agg (c_TPrefix a1.fPrefix)], .pure (.int .i64 r1)⟩, ⟨true, 35, [.int .i64 a0.fVLAN, .int .i64 a1.fVLAN], .pure (.int .i64 r2)⟩, ⟨true, 34, [.sl false 1 2 (fun i => List.take 1 (List.drop (i * 1) [.int .i64 r1, .int .i64 r2]))], .pure (.int .i64 r3)⟩] nil_all ⟨fun _ => addr_Compare_ok a0.fPrefix a1.fPrefix r1 q1, fun _ => cmp_Compare_int_ok a0.fVLAN a1.fVLAN r2 q3, fun _ => (cmp_Or_int_ok ([r1, r2] : List Int) r3 q5).args (.cons (asub_sl rfl (fun i hi => match i, hi with | 0, _ => rfl | 1, _ => rfl | n + 2, h => absurd h (by omega))) .nil), trivial⟩ ?_
 refine then_n (awp_ret ?_)
 obtain rfl := Option.some.inj h6
 exact er0 (.int .i64 r3)
end Nv
namespace Go.Proofs
open Go.Shelf
shelf_lay_g SlLaysF0.n6 Slsf 6 at Tryz 100 as Tryz.sortL100
end Go.Proofs
namespace Nv
open Go Go.Proofs
theorem slices_SortFunc_api_Domain_api_Domain__topo_Build_1_ok (a0 : List TDomain) (r : List TDomain) (h : M.slices_SortFunc_api_Domain_api_Domain__topo_Build_1 a0 = some r) : FnM Tryz.prog 100 [.asl 0 0 a0.length, .fn 101 []] 4 a0.length (fun i => c_TDomain (a0.getD i default)) (fun i => c_TDomain (r.getD i default)) (.tup []) := by
 obtain ⟨cf, h1, h2, h3, h4, rfl⟩ := sortU_some h
 exact sortFR0 Tryz.sortL100 4 (fun w => by kernel_rfl) (fun w => by kernel_rfl) c_TDomain (fun _ => rfl) (fun _ => rfl) h2 101 (enters_of Tryz.func101 (by kernel_rfl) rfl) (fun x y => topo_Build_1_ok x y _ (h1 x y)) a0 h3 h4
theorem topo_Build_ok (a0 : TNetwork) (r : TTopology × Int) (h : M.topo_Build a0 = some r) : Fn Tryz.prog 75 [.agg (c_TNetwork a0)] (.pure (.tup [.agg (c_TTopology r.1), .int .i64 r.2])) := by
 unfold M.topo_Build at h
 refine fn_pure Tryz.func75 rfl (by kernel_rfl) ?_
 refine awp_seq (rg0 [1, 2] 2 ⟨45, [(1, .ref 0 0), (2, .ref 1 0)], [.box (c_TNetwork a0), .box [.sl true 4 0 (fun _ => []), .sl true 1 0 (fun _ => [])]]⟩ ?_)
 refine then_n (awp_seq (awp_seq ?_))
 obtain ⟨r1, q1, h2⟩ := bind_some h
 refine rg [.pure (.int .i64 r1)] [1, 2, 4] 2 ⟨45, [(1, .ref 0 0), (2, .ref 1 0), (4, .int .i64 r1)], [.box (c_TNetwork a0), .box [.sl true 4 0 (fun _ => []), .sl true 1 0 (fun _ => [])]]⟩ [] [⟨true, 98, [.agg (c_TNetwork a0)], .pure (.int .i64 r1)⟩] nil_all ⟨fun _ => model_Check_ok a0 r1 q1, trivial⟩ ?_
 refine then_n (awp_seq (rg0 [1, 2, 4, 12] 2 ⟨45, [(1, .ref 0 0), (2, .ref 1 0), (4, .int .i64 r1), (12, .bool (r1 != 0))], [.box (c_TNetwork a0), .box [.sl true 4 0 (fun _ => []), .sl true 1 0 (fun _ => [])]]⟩ ?_))
 refine then_n ?_
 refine cnd (r1 != 0) (fun b3 => ?_) (fun b3 => ?_)
 have h4 := cond_t b3 h2
 refine awp_seq ?_
 cases h4
 have h5 := cond_f b3 h2
 refine awp_skip (then_n (awp_seq ?_))
 obtain ⟨r2, q6, h7⟩ := bind_some h5
 refine rg [oL 4 c_TDomain r2] [2, 5] 3 ⟨45, [(2, .ref 1 0), (5, .asl 2 0 r2.length)], [.box (c_TNetwork a0), .box [.sl true 4 0 (fun _ => []), .sl true 1 0 (fun _ => [])], aL 4 c_TDomain r2]⟩ [] [⟨true, 99, [.agg (c_TNetwork a0)], oL 4 c_TDomain r2⟩] nil_all ⟨fun _ => topo_collect_own a0 r2 q6, trivial⟩ ?_
 refine then_n (awp_seq ?_)
 obtain ⟨r3, q8, h9⟩ := bind_some h7
 obtain ⟨c10, h11⟩ := gd_some h9
 refine rg [.lnd 0 0 (fun _ => []) (fun i => c_TDomain (r3.getD i default)) (.tup [])] [2, 5] 3 ⟨45, [(2, .ref 1 0), (5, .asl 2 0 r2.length)], [.box (c_TNetwork a0), .box [.sl true 4 0 (fun _ => []), .sl true 1 0 (fun _ => [])], .arr 4 r2.length (fun i => c_TDomain (r3.getD i default))]⟩ [] [⟨true, 100, [.asl 0 0 r2.length, .fn 101 []], .lnd 4 r2.length (fun i => c_TDomain (r2.getD i default)) (fun i => c_TDomain (r3.getD i default)) (.tup [])⟩] nil_all ⟨fun _ => slices_SortFunc_api_Domain_api_Domain__topo_Build_1_ok r2 r3 q8, trivial⟩ ?_
 refine then_le (s' := ⟨45, [(2, .ref 1 0), (5, .asl 2 0 r3.length)], [.box (c_TNetwork a0), .box [.sl true 4 0 (fun _ => []), .sl true 1 0 (fun _ => [])], aL 4 c_TDomain r3]⟩) (le_sub (.cons Sub.rfl (.cons (asl_len (len_eq (c10 _ List.mem_cons_self))) .nil)) (.cons .rfl (.cons .rfl (.cons (.arr (len_eq (c10 _ List.mem_cons_self)) (fun _ _ => rfl)) .nil)))) ?_
 refine awp_seq ?_
 refine awp_le (s' := ⟨45, [(2, .ref 1 0), (5, sL 4 c_TDomain r3)], [.box (c_TNetwork a0), .box [.sl true 4 0 (fun _ => []), .sl true 1 0 (fun _ => [])], aL 4 c_TDomain ([] : List TDomain)]⟩) (Le.trans (le_frz 5 2 4 c_TDomain r3 (fun i => c_TDomain (([] : List TDomain).getD i default)) (by kernel_rfl) (by kernel_rfl) (by kernel_rfl)) (kp [2, 5])) ?_
 refine rg0 [2, 5, 6] 4 ⟨45, [(2, .ref 1 0), (5, sL 4 c_TDomain r3), (6, .ref 3 0)], [.box (c_TNetwork a0), .box [.sl true 4 0 (fun _ => []), .sl true 1 0 (fun _ => [])], aL 4 c_TDomain ([] : List TDomain), .box [sL 4 c_TDomain r3, .sl true 1 0 (fun _ => [])]]⟩ ?_
 refine then_n (awp_seq (awp_seq (rg0 [2, 6, 21, 22, 23] 4 ⟨45, [(2, .ref 1 0), (6, .ref 3 0), (21, sL 4 c_TDomain r3), (22, .int .i64 (r3.length : Int)), (23, .int .i64 0)], [.box (c_TNetwork a0), .box [.sl true 4 0 (fun _ => []), .sl true 1 0 (fun _ => [])], aL 4 c_TDomain ([] : List TDomain), .box [sL 4 c_TDomain r3, .sl true 1 0 (fun _ => [])]]⟩ ?_)))
 refine then_n (awp_block ?_)
 obtain ⟨y7, q23, h24⟩ := bind_some h11
 refine awp_le (s' := ⟨45, [(2, .ref 1 0), (6, .ref 3 0), (21, sL 4 c_TDomain r3), (22, .int .i64 (r3.length : Int)), (23, .int .i64 0)], [.box (c_TNetwork a0), .box [.sl true 4 0 (fun _ => []), .sl true 1 0 (fun _ => [])], aL 4 c_TDomain ([] : List TDomain), .box [sL 4 c_TDomain r3, .sl true 1 0 (fun _ => [])]]⟩) (le_rfl) ?_
 refine awp_mono (awp_loop (f := M.topo_Build_l1 r3) (S := fun (p4 : Int) => ⟨45, [(2, .ref 1 0), (6, .ref 3 0), (21, sL 4 c_TDomain r3), (22, .int .i64 (r3.length : Int)), (23, .int .i64 p4)], [.box (c_TNetwork a0), .box [.sl true 4 0 (fun _ => []), .sl true 1 0 (fun _ => [])], aL 4 c_TDomain ([] : List TDomain), .box [sL 4 c_TDomain r3, .sl true 1 0 (fun _ => [])]]⟩) (O := (fun z => OutE 0 (fun z => ⟨45, [(2, .ref 1 0), (6, .ref 3 0)], [.box (c_TNetwork a0), .box [.sl true 4 0 (fun _ => []), .sl true 1 0 (fun _ => [])], aL 4 c_TDomain ([] : List TDomain), .box [sL 4 c_TDomain r3, .sl true 1 0 (fun _ => [])]]⟩) z)) ?_ (x := 0) (y := y7) (loopM_iter q23)) ?_
 intro p4 y5 h12
 unfold M.topo_Build_l1 at h12
 refine awp_seq (rg0 [2, 6, 21, 22, 23, 24] 4 ⟨45, [(2, .ref 1 0), (6, .ref 3 0), (21, sL 4 c_TDomain r3), (22, .int .i64 (r3.length : Int)), (23, .int .i64 p4), (24, .bool (decide (p4 < (r3.length : Int))))], [.box (c_TNetwork a0), .box [.sl true 4 0 (fun _ => []), .sl true 1 0 (fun _ => [])], aL 4 c_TDomain ([] : List TDomain), .box [sL 4 c_TDomain r3, .sl true 1 0 (fun _ => [])]]⟩ ?_)
 refine then_n (awp_seq ?_)
 refine cnd (decide (p4 < (r3.length : Int))) (fun b13 => ?_) (fun b13 => ?_)
 have h14 := cond_t b13 h12
 refine awp_skip (then_n ?_)
 refine awp_join (fun (p6 : Unit) => ⟨45, [(2, .ref 1 0), (6, .ref 3 0), (21, sL 4 c_TDomain r3), (22, .int .i64 (r3.length : Int)), (23, .int .i64 p4)], [.box (c_TNetwork a0), .box [.sl true 4 0 (fun _ => []), .sl true 1 0 (fun _ => [])], aL 4 c_TDomain ([] : List TDomain), .box [sL 4 c_TDomain r3, .sl true 1 0 (fun _ => [])]]⟩) (fun p6 => M.topo_Build_k1 p4 p6 = some y5) ?_ ?_
 intro p6 h17
 unfold M.topo_Build_k1 at h17
 refine rg0 [2, 6, 21, 22, 23] 4 ⟨45, [(2, .ref 1 0), (6, .ref 3 0), (21, sL 4 c_TDomain r3), (22, .int .i64 (r3.length : Int)), (23, .int .i64 (wr .i64 (p4 + 1)))], [.box (c_TNetwork a0), .box [.sl true 4 0 (fun _ => []), .sl true 1 0 (fun _ => [])], aL 4 c_TDomain ([] : List TDomain), .box [sL 4 c_TDomain r3, .sl true 1 0 (fun _ => [])]]⟩ ?_
 obtain rfl := Option.some.inj h17
 exact round_n (le_rfl)
 intro k16
 refine awp_block (awp_seq ?_)
 obtain ⟨c18, h19⟩ := gd_some h14
 refine rgc [2, 6, 7, 8, 21, 22, 23] 5 ⟨45, [(2, .ref 1 0), (6, .ref 3 0), (7, .int .i64 p4), (8, .ref 4 0), (21, sL 4 c_TDomain r3), (22, .int .i64 (r3.length : Int)), (23, .int .i64 p4)], [.box (c_TNetwork a0), .box [.sl true 4 0 (fun _ => []), .sl true 1 0 (fun _ => [])], aL 4 c_TDomain ([] : List TDomain), .box [sL 4 c_TDomain r3, .sl true 1 0 (fun _ => [])], .box (c_TDomain (r3.getD p4.toNat default))]⟩ [decide (0 ≤ p4), decide (p4 < (r3.length : Int))] c18 ?_
 refine then_n (awp_seq (rg0 [2, 6, 7, 21, 22, 23, 31] 4 ⟨45, [(2, .ref 1 0), (6, .ref 3 0), (7, .int .i64 p4), (21, sL 4 c_TDomain r3), (22, .int .i64 (r3.length : Int)), (23, .int .i64 p4), (31, .bool (decide ((((r3.getD p4.toNat default).fEnds).length : Int) ≥ 2)))], [.box (c_TNetwork a0), .box [.sl true 4 0 (fun _ => []), .sl true 1 0 (fun _ => [])], aL 4 c_TDomain ([] : List TDomain), .box [sL 4 c_TDomain r3, .sl true 1 0 (fun _ => [])]]⟩ ?_))
 refine then_n ?_
 refine cnd (decide ((((r3.getD p4.toNat default).fEnds).length : Int) ≥ 2)) (fun b20 => ?_) (fun b20 => ?_)
 have h21 := cond_t b20 h19
 cases h21
 have h22 := cond_f b20 h19
 refine awp_skip (inb_n ?_)
 exact then_le (kp [2, 6, 21, 22, 23]) (k16 () h22)
 have h15 := cond_f b13 h12
 refine awp_exit (then_e ?_)
 obtain rfl := Option.some.inj h15
 exact round_e ⟨rfl, kp [2, 6]⟩
 intro e25 s26 o27
 obtain ⟨rfl, l28⟩ := o27
 refine inb_here ?_
 refine then_le (s' := ⟨45, [(2, .ref 1 0), (6, .ref 3 0)], [.box (c_TNetwork a0), .box [.sl true 4 0 (fun _ => []), .sl true 1 0 (fun _ => [])], aL 4 c_TDomain ([] : List TDomain), .box [sL 4 c_TDomain r3, .sl true 1 0 (fun _ => [])]]⟩) (l28) ?_
 refine awp_seq (awp_seq (rg0 [2, 6, 42] 4 ⟨45, [(2, .ref 1 0), (6, .ref 3 0), (42, .bool false)], [.box (c_TNetwork a0), .box [.sl true 4 0 (fun _ => []), .sl true 1 0 (fun _ => [])], aL 4 c_TDomain ([] : List TDomain), .box [sL 4 c_TDomain r3, .sl true 1 0 (fun _ => [])]]⟩ ?_))
 refine then_n ?_
 refine cnd false (fun b29 => Bool.noConfusion b29) (fun _ => ?_)
 refine awp_skip (then_n (awp_seq (rg0 [2, 3] 2 ⟨45, [(2, .ref 1 0), (3, .int .i64 0)], [.box (c_TNetwork a0), .box [sL 4 c_TDomain r3, .sl true 1 0 (fun _ => [])]]⟩ ?_)))
 refine then_n (awp_ret ?_)
 obtain rfl := Option.some.inj h24
 exact er (.tup [.agg [sL 4 c_TDomain r3, .sl false 1 0 (fun _ => [])], .int .i64 0]) (tup_sub (.cons (asub_agg (.cons CSub.rfl (.cons csub_nil .nil))) (.cons ASub.rfl .nil)))
theorem slices_Clone_api_Router_api_Router_own (a0 : List TRouter) (r : List TRouter) (h : M.slices_Clone_api_Router_api_Router a0 = some r) : Fn Tryz.prog 103 [sL 25 c_TRouter a0] (oL 25 c_TRouter r) := by
 unfold M.slices_Clone_api_Router_api_Router at h
 obtain ⟨hc, h1⟩ := gd_some h
 obtain rfl := Option.some.inj h1
 refine fn_own Tryz.func103 rfl (by kernel_rfl) (awp_ends_le ?_)
 refine awp_seq (rg0 [0] 0 ⟨8, [(0, sL 25 c_TRouter a0)], []⟩ ?_)
 refine then_n (awp_seq (awp_seq (rg0 [0, 4] 0 ⟨8, [(0, sL 25 c_TRouter a0), (4, .nilq a0.length)], []⟩ ?_)))
 refine then_n (nq a0.length (fun hz => ?_) ?_)
 refine awp_seq (rg0 [2] 0 ⟨8, [(2, .sl true 25 0 (fun _ => []))], []⟩ ?_)
 refine then_n (awp_ret (then_r ?_))
 obtain rfl := List.eq_nil_of_length_eq_zero hz
 exact ⟨_, le_thaw (wd := 25) (f := fun _ => []) 2 (by kernel_rfl) 25 (fun i => c_TRouter (([] : List TRouter).getD i default)), .inr rfl, 2, 0, _, rfl, rfl, rfl, fun _ _ => rfl⟩
 refine awp_skip (then_n (awp_seq (rgc [2] 1 ⟨8, [(2, .asl 0 0 (0 + a0.length))], [.arr 25 (0 + a0.length) (app (fun i => List.take 25 (List.drop (i * 25) [])) 0 (fun i => c_TRouter (a0.getD i default)))]⟩ [decide (0 = 0) || decide (0 < a0.length), decide ((0 + a0.length) * 448 ≤ 140737488355328)] hc ?_)))
 refine then_n (awp_ret ?_)
 exact ⟨⟨8, [(2, .asl 0 0 a0.length)], [aL 25 c_TRouter a0]⟩, le_sub (.cons (asl_len (Nat.zero_add _)) .nil) (.cons (.arr (Nat.zero_add _) (app_nil c_TRouter _ a0 _ (fun _ _ => rfl))) .nil), .inr rfl, 2, 0, _, rfl, rfl, rfl, fun _ _ => rfl⟩
theorem slices_Clone_api_Interface_api_Interface_own (a0 : List TInterface) (r : List TInterface) (h : M.slices_Clone_api_Interface_api_Interface a0 = some r) : Fn Tryz.prog 127 [sL 12 c_TInterface a0] (oL 12 c_TInterface r) := by
 unfold M.slices_Clone_api_Interface_api_Interface at h
 obtain ⟨hc, h1⟩ := gd_some h
 obtain rfl := Option.some.inj h1
 refine fn_own Tryz.func127 rfl (by kernel_rfl) (awp_ends_le ?_)
 refine awp_seq (rg0 [0] 0 ⟨8, [(0, sL 12 c_TInterface a0)], []⟩ ?_)
 refine then_n (awp_seq (awp_seq (rg0 [0, 4] 0 ⟨8, [(0, sL 12 c_TInterface a0), (4, .nilq a0.length)], []⟩ ?_)))
 refine then_n (nq a0.length (fun hz => ?_) ?_)
 refine awp_seq (rg0 [2] 0 ⟨8, [(2, .sl true 12 0 (fun _ => []))], []⟩ ?_)
 refine then_n (awp_ret (then_r ?_))
 obtain rfl := List.eq_nil_of_length_eq_zero hz
 exact ⟨_, le_thaw (wd := 12) (f := fun _ => []) 2 (by kernel_rfl) 12 (fun i => c_TInterface (([] : List TInterface).getD i default)), .inr rfl, 2, 0, _, rfl, rfl, rfl, fun _ _ => rfl⟩
 refine awp_skip (then_n (awp_seq (rgc [2] 1 ⟨8, [(2, .asl 0 0 (0 + a0.length))], [.arr 12 (0 + a0.length) (app (fun i => List.take 12 (List.drop (i * 12) [])) 0 (fun i => c_TInterface (a0.getD i default)))]⟩ [decide (0 = 0) || decide (0 < a0.length), decide ((0 + a0.length) * 112 ≤ 140737488355328)] hc ?_)))
 refine then_n (awp_ret ?_)
 exact ⟨⟨8, [(2, .asl 0 0 a0.length)], [aL 12 c_TInterface a0]⟩, le_sub (.cons (asl_len (Nat.zero_add _)) .nil) (.cons (.arr (Nat.zero_add _) (app_nil c_TInterface _ a0 _ (fun _ _ => rfl))) .nil), .inr rfl, 2, 0, _, rfl, rfl, rfl, fun _ _ => rfl⟩
theorem slices_Clone_api_PrefixList_api_PrefixList_own (a0 : List TPrefixList) (r : List TPrefixList) (h : M.slices_Clone_api_PrefixList_api_PrefixList a0 = some r) : Fn Tryz.prog 128 [sL 2 c_TPrefixList a0] (oL 2 c_TPrefixList r) := by
 unfold M.slices_Clone_api_PrefixList_api_PrefixList at h
 obtain ⟨hc, h1⟩ := gd_some h
 obtain rfl := Option.some.inj h1
 refine fn_own Tryz.func128 rfl (by kernel_rfl) (awp_ends_le ?_)
 refine awp_seq (rg0 [0] 0 ⟨8, [(0, sL 2 c_TPrefixList a0)], []⟩ ?_)
 refine then_n (awp_seq (awp_seq (rg0 [0, 4] 0 ⟨8, [(0, sL 2 c_TPrefixList a0), (4, .nilq a0.length)], []⟩ ?_)))
 refine then_n (nq a0.length (fun hz => ?_) ?_)
 refine awp_seq (rg0 [2] 0 ⟨8, [(2, .sl true 2 0 (fun _ => []))], []⟩ ?_)
 refine then_n (awp_ret (then_r ?_))
 obtain rfl := List.eq_nil_of_length_eq_zero hz
 exact ⟨_, le_thaw (wd := 2) (f := fun _ => []) 2 (by kernel_rfl) 2 (fun i => c_TPrefixList (([] : List TPrefixList).getD i default)), .inr rfl, 2, 0, _, rfl, rfl, rfl, fun _ _ => rfl⟩
 refine awp_skip (then_n (awp_seq (rgc [2] 1 ⟨8, [(2, .asl 0 0 (0 + a0.length))], [.arr 2 (0 + a0.length) (app (fun i => List.take 2 (List.drop (i * 2) [])) 0 (fun i => c_TPrefixList (a0.getD i default)))]⟩ [decide (0 = 0) || decide (0 < a0.length), decide ((0 + a0.length) * 40 ≤ 140737488355328)] hc ?_)))
 refine then_n (awp_ret ?_)
 exact ⟨⟨8, [(2, .asl 0 0 a0.length)], [aL 2 c_TPrefixList a0]⟩, le_sub (.cons (asl_len (Nat.zero_add _)) .nil) (.cons (.arr (Nat.zero_add _) (app_nil c_TPrefixList _ a0 _ (fun _ _ => rfl))) .nil), .inr rfl, 2, 0, _, rfl, rfl, rfl, fun _ _ => rfl⟩
theorem slices_Clone_api_RouteMap_api_RouteMap_own (a0 : List TRouteMap) (r : List TRouteMap) (h : M.slices_Clone_api_RouteMap_api_RouteMap a0 = some r) : Fn Tryz.prog 130 [sL 2 c_TRouteMap a0] (oL 2 c_TRouteMap r) := by
 unfold M.slices_Clone_api_RouteMap_api_RouteMap at h
 obtain ⟨hc, h1⟩ := gd_some h
 obtain rfl := Option.some.inj h1
 refine fn_own Tryz.func130 rfl (by kernel_rfl) (awp_ends_le ?_)
 refine awp_seq (rg0 [0] 0 ⟨8, [(0, sL 2 c_TRouteMap a0)], []⟩ ?_)
 refine then_n (awp_seq (awp_seq (rg0 [0, 4] 0 ⟨8, [(0, sL 2 c_TRouteMap a0), (4, .nilq a0.length)], []⟩ ?_)))
 refine then_n (nq a0.length (fun hz => ?_) ?_)
 refine awp_seq (rg0 [2] 0 ⟨8, [(2, .sl true 2 0 (fun _ => []))], []⟩ ?_)
 refine then_n (awp_ret (then_r ?_))
 obtain rfl := List.eq_nil_of_length_eq_zero hz
 exact ⟨_, le_thaw (wd := 2) (f := fun _ => []) 2 (by kernel_rfl) 2 (fun i => c_TRouteMap (([] : List TRouteMap).getD i default)), .inr rfl, 2, 0, _, rfl, rfl, rfl, fun _ _ => rfl⟩
 refine awp_skip (then_n (awp_seq (rgc [2] 1 ⟨8, [(2, .asl 0 0 (0 + a0.length))], [.arr 2 (0 + a0.length) (app (fun i => List.take 2 (List.drop (i * 2) [])) 0 (fun i => c_TRouteMap (a0.getD i default)))]⟩ [decide (0 = 0) || decide (0 < a0.length), decide ((0 + a0.length) * 40 ≤ 140737488355328)] hc ?_)))
 refine then_n (awp_ret ?_)
 exact ⟨⟨8, [(2, .asl 0 0 a0.length)], [aL 2 c_TRouteMap a0]⟩, le_sub (.cons (asl_len (Nat.zero_add _)) .nil) (.cons (.arr (Nat.zero_add _) (app_nil c_TRouteMap _ a0 _ (fun _ _ => rfl))) .nil), .inr rfl, 2, 0, _, rfl, rfl, rfl, fun _ _ => rfl⟩
theorem slices_Clone_api_ACL_api_ACL_own (a0 : List TACL) (r : List TACL) (h : M.slices_Clone_api_ACL_api_ACL a0 = some r) : Fn Tryz.prog 132 [sL 2 c_TACL a0] (oL 2 c_TACL r) := by
 unfold M.slices_Clone_api_ACL_api_ACL at h
 obtain ⟨hc, h1⟩ := gd_some h
 obtain rfl := Option.some.inj h1
 refine fn_own Tryz.func132 rfl (by kernel_rfl) (awp_ends_le ?_)
 refine awp_seq (rg0 [0] 0 ⟨8, [(0, sL 2 c_TACL a0)], []⟩ ?_)
 refine then_n (awp_seq (awp_seq (rg0 [0, 4] 0 ⟨8, [(0, sL 2 c_TACL a0), (4, .nilq a0.length)], []⟩ ?_)))
 refine then_n (nq a0.length (fun hz => ?_) ?_)
 refine awp_seq (rg0 [2] 0 ⟨8, [(2, .sl true 2 0 (fun _ => []))], []⟩ ?_)
 refine then_n (awp_ret (then_r ?_))
 obtain rfl := List.eq_nil_of_length_eq_zero hz
 exact ⟨_, le_thaw (wd := 2) (f := fun _ => []) 2 (by kernel_rfl) 2 (fun i => c_TACL (([] : List TACL).getD i default)), .inr rfl, 2, 0, _, rfl, rfl, rfl, fun _ _ => rfl⟩
 refine awp_skip (then_n (awp_seq (rgc [2] 1 ⟨8, [(2, .asl 0 0 (0 + a0.length))], [.arr 2 (0 + a0.length) (app (fun i => List.take 2 (List.drop (i * 2) [])) 0 (fun i => c_TACL (a0.getD i default)))]⟩ [decide (0 = 0) || decide (0 < a0.length), decide ((0 + a0.length) * 40 ≤ 140737488355328)] hc ?_)))
 refine then_n (awp_ret ?_)
 exact ⟨⟨8, [(2, .asl 0 0 a0.length)], [aL 2 c_TACL a0]⟩, le_sub (.cons (asl_len (Nat.zero_add _)) .nil) (.cons (.arr (Nat.zero_add _) (app_nil c_TACL _ a0 _ (fun _ _ => rfl))) .nil), .inr rfl, 2, 0, _, rfl, rfl, rfl, fun _ _ => rfl⟩
theorem slices_Clone_api_Translation_api_Translation_ok (a0 : List TTranslation) (r : List TTranslation) (h : M.slices_Clone_api_Translation_api_Translation a0 = some r) : Fn Tryz.prog 134 [sL 9 c_TTranslation a0] (.pure (sL 9 c_TTranslation r)) := by
 unfold M.slices_Clone_api_Translation_api_Translation at h
 obtain ⟨hc, h1⟩ := gd_some h
 obtain rfl := Option.some.inj h1
 refine fn_pure Tryz.func134 rfl (by kernel_rfl) ?_
 refine awp_seq (rg0 [0] 0 ⟨8, [(0, sL 9 c_TTranslation a0)], []⟩ ?_)
 refine then_n (awp_seq (awp_seq (rg0 [0, 4] 0 ⟨8, [(0, sL 9 c_TTranslation a0), (4, .nilq a0.length)], []⟩ ?_)))
 refine then_n (nq a0.length (fun hz => ?_) ?_)
 refine awp_seq (rg0 [2] 0 ⟨8, [(2, .sl true 9 0 (fun _ => []))], []⟩ ?_)
 refine then_n (awp_ret (then_r ?_))
 exact er (.sl false 9 0 (fun _ => [])) (sub_nil0 hz)
 refine awp_skip (then_n (awp_seq (rgc [2] 1 ⟨8, [(2, .asl 0 0 (0 + a0.length))], [.arr 9 (0 + a0.length) (app (fun i => List.take 9 (List.drop (i * 9) [])) 0 (fun i => c_TTranslation (a0.getD i default)))]⟩ [decide (0 = 0) || decide (0 < a0.length), decide ((0 + a0.length) * 64 ≤ 140737488355328)] hc ?_)))
 refine then_n (awp_ret ?_)
 exact er (.sl false 9 (0 + a0.length) (fun i => (app (fun i => List.take 9 (List.drop (i * 9) [])) 0 (fun i => c_TTranslation (a0.getD i default))) (0 + i))) (sub_sl (Nat.zero_add _) (fun i hi => by rw [Nat.zero_add]; exact app_nil c_TTranslation _ a0 _ (fun _ _ => rfl) i hi))
theorem slices_Clone_api_StaticRoute_api_StaticRoute_ok (a0 : List TStaticRoute) (r : List TStaticRoute) (h : M.slices_Clone_api_StaticRoute_api_StaticRoute a0 = some r) : Fn Tryz.prog 135 [sL 7 c_TStaticRoute a0] (.pure (sL 7 c_TStaticRoute r)) := by
 unfold M.slices_Clone_api_StaticRoute_api_StaticRoute at h
 obtain ⟨hc, h1⟩ := gd_some h
 obtain rfl := Option.some.inj h1
 refine fn_pure Tryz.func135 rfl (by kernel_rfl) ?_
 refine awp_seq (rg0 [0] 0 ⟨8, [(0, sL 7 c_TStaticRoute a0)], []⟩ ?_)
 refine then_n (awp_seq (awp_seq (rg0 [0, 4] 0 ⟨8, [(0, sL 7 c_TStaticRoute a0), (4, .nilq a0.length)], []⟩ ?_)))
 refine then_n (nq a0.length (fun hz => ?_) ?_)
 refine awp_seq (rg0 [2] 0 ⟨8, [(2, .sl true 7 0 (fun _ => []))], []⟩ ?_)
 refine then_n (awp_ret (then_r ?_))
 exact er (.sl false 7 0 (fun _ => [])) (sub_nil0 hz)
 refine awp_skip (then_n (awp_seq (rgc [2] 1 ⟨8, [(2, .asl 0 0 (0 + a0.length))], [.arr 7 (0 + a0.length) (app (fun i => List.take 7 (List.drop (i * 7) [])) 0 (fun i => c_TStaticRoute (a0.getD i default)))]⟩ [decide (0 = 0) || decide (0 < a0.length), decide ((0 + a0.length) * 64 ≤ 140737488355328)] hc ?_)))
 refine then_n (awp_ret ?_)
 exact er (.sl false 7 (0 + a0.length) (fun i => (app (fun i => List.take 7 (List.drop (i * 7) [])) 0 (fun i => c_TStaticRoute (a0.getD i default))) (0 + i))) (sub_sl (Nat.zero_add _) (fun i hi => by rw [Nat.zero_add]; exact app_nil c_TStaticRoute _ a0 _ (fun _ _ => rfl) i hi))
theorem slices_Clone_api_AreaRange_api_AreaRange_ok (a0 : List TAreaRange) (r : List TAreaRange) (h : M.slices_Clone_api_AreaRange_api_AreaRange a0 = some r) : Fn Tryz.prog 136 [sL 3 c_TAreaRange a0] (.pure (sL 3 c_TAreaRange r)) := by
 unfold M.slices_Clone_api_AreaRange_api_AreaRange at h
 obtain ⟨hc, h1⟩ := gd_some h
 obtain rfl := Option.some.inj h1
 refine fn_pure Tryz.func136 rfl (by kernel_rfl) ?_
 refine awp_seq (rg0 [0] 0 ⟨8, [(0, sL 3 c_TAreaRange a0)], []⟩ ?_)
 refine then_n (awp_seq (awp_seq (rg0 [0, 4] 0 ⟨8, [(0, sL 3 c_TAreaRange a0), (4, .nilq a0.length)], []⟩ ?_)))
 refine then_n (nq a0.length (fun hz => ?_) ?_)
 refine awp_seq (rg0 [2] 0 ⟨8, [(2, .sl true 3 0 (fun _ => []))], []⟩ ?_)
 refine then_n (awp_ret (then_r ?_))
 exact er (.sl false 3 0 (fun _ => [])) (sub_nil0 hz)
 refine awp_skip (then_n (awp_seq (rgc [2] 1 ⟨8, [(2, .asl 0 0 (0 + a0.length))], [.arr 3 (0 + a0.length) (app (fun i => List.take 3 (List.drop (i * 3) [])) 0 (fun i => c_TAreaRange (a0.getD i default)))]⟩ [decide (0 = 0) || decide (0 < a0.length), decide ((0 + a0.length) * 24 ≤ 140737488355328)] hc ?_)))
 refine then_n (awp_ret ?_)
 exact er (.sl false 3 (0 + a0.length) (fun i => (app (fun i => List.take 3 (List.drop (i * 3) [])) 0 (fun i => c_TAreaRange (a0.getD i default))) (0 + i))) (sub_sl (Nat.zero_add _) (fun i hi => by rw [Nat.zero_add]; exact app_nil c_TAreaRange _ a0 _ (fun _ _ => rfl) i hi))
theorem slices_Clone_api_Redist_api_Redist_ok (a0 : List TRedist) (r : List TRedist) (h : M.slices_Clone_api_Redist_api_Redist a0 = some r) : Fn Tryz.prog 137 [sL 5 c_TRedist a0] (.pure (sL 5 c_TRedist r)) := by
 unfold M.slices_Clone_api_Redist_api_Redist at h
 obtain ⟨hc, h1⟩ := gd_some h
 obtain rfl := Option.some.inj h1
 refine fn_pure Tryz.func137 rfl (by kernel_rfl) ?_
 refine awp_seq (rg0 [0] 0 ⟨8, [(0, sL 5 c_TRedist a0)], []⟩ ?_)
 refine then_n (awp_seq (awp_seq (rg0 [0, 4] 0 ⟨8, [(0, sL 5 c_TRedist a0), (4, .nilq a0.length)], []⟩ ?_)))
 refine then_n (nq a0.length (fun hz => ?_) ?_)
 refine awp_seq (rg0 [2] 0 ⟨8, [(2, .sl true 5 0 (fun _ => []))], []⟩ ?_)
 refine then_n (awp_ret (then_r ?_))
 exact er (.sl false 5 0 (fun _ => [])) (sub_nil0 hz)
 refine awp_skip (then_n (awp_seq (rgc [2] 1 ⟨8, [(2, .asl 0 0 (0 + a0.length))], [.arr 5 (0 + a0.length) (app (fun i => List.take 5 (List.drop (i * 5) [])) 0 (fun i => c_TRedist (a0.getD i default)))]⟩ [decide (0 = 0) || decide (0 < a0.length), decide ((0 + a0.length) * 48 ≤ 140737488355328)] hc ?_)))
 refine then_n (awp_ret ?_)
 exact er (.sl false 5 (0 + a0.length) (fun i => (app (fun i => List.take 5 (List.drop (i * 5) [])) 0 (fun i => c_TRedist (a0.getD i default))) (0 + i))) (sub_sl (Nat.zero_add _) (fun i hi => by rw [Nat.zero_add]; exact app_nil c_TRedist _ a0 _ (fun _ _ => rfl) i hi))
theorem slices_Clone_api_Neighbor_api_Neighbor_ok (a0 : List TNeighbor) (r : List TNeighbor) (h : M.slices_Clone_api_Neighbor_api_Neighbor a0 = some r) : Fn Tryz.prog 138 [sL 4 c_TNeighbor a0] (.pure (sL 4 c_TNeighbor r)) := by
 unfold M.slices_Clone_api_Neighbor_api_Neighbor at h
 obtain ⟨hc, h1⟩ := gd_some h
 obtain rfl := Option.some.inj h1
 refine fn_pure Tryz.func138 rfl (by kernel_rfl) ?_
 refine awp_seq (rg0 [0] 0 ⟨8, [(0, sL 4 c_TNeighbor a0)], []⟩ ?_)
 refine then_n (awp_seq (awp_seq (rg0 [0, 4] 0 ⟨8, [(0, sL 4 c_TNeighbor a0), (4, .nilq a0.length)], []⟩ ?_)))
 refine then_n (nq a0.length (fun hz => ?_) ?_)
 refine awp_seq (rg0 [2] 0 ⟨8, [(2, .sl true 4 0 (fun _ => []))], []⟩ ?_)
 refine then_n (awp_ret (then_r ?_))
 exact er (.sl false 4 0 (fun _ => [])) (sub_nil0 hz)
 refine awp_skip (then_n (awp_seq (rgc [2] 1 ⟨8, [(2, .asl 0 0 (0 + a0.length))], [.arr 4 (0 + a0.length) (app (fun i => List.take 4 (List.drop (i * 4) [])) 0 (fun i => c_TNeighbor (a0.getD i default)))]⟩ [decide (0 = 0) || decide (0 < a0.length), decide ((0 + a0.length) * 48 ≤ 140737488355328)] hc ?_)))
 refine then_n (awp_ret ?_)
 exact er (.sl false 4 (0 + a0.length) (fun i => (app (fun i => List.take 4 (List.drop (i * 4) [])) 0 (fun i => c_TNeighbor (a0.getD i default))) (0 + i))) (sub_sl (Nat.zero_add _) (fun i hi => by rw [Nat.zero_add]; exact app_nil c_TNeighbor _ a0 _ (fun _ _ => rfl) i hi))
theorem slices_Clone_api_Prefix_api_Prefix_ok (a0 : List TPrefix) (r : List TPrefix) (h : M.slices_Clone_api_Prefix_api_Prefix a0 = some r) : Fn Tryz.prog 139 [sL 2 c_TPrefix a0] (.pure (sL 2 c_TPrefix r)) := by
 unfold M.slices_Clone_api_Prefix_api_Prefix at h
 obtain ⟨hc, h1⟩ := gd_some h
 obtain rfl := Option.some.inj h1
 refine fn_pure Tryz.func139 rfl (by kernel_rfl) ?_
 refine awp_seq (rg0 [0] 0 ⟨8, [(0, sL 2 c_TPrefix a0)], []⟩ ?_)
 refine then_n (awp_seq (awp_seq (rg0 [0, 4] 0 ⟨8, [(0, sL 2 c_TPrefix a0), (4, .nilq a0.length)], []⟩ ?_)))
 refine then_n (nq a0.length (fun hz => ?_) ?_)
 refine awp_seq (rg0 [2] 0 ⟨8, [(2, .sl true 2 0 (fun _ => []))], []⟩ ?_)
 refine then_n (awp_ret (then_r ?_))
 exact er (.sl false 2 0 (fun _ => [])) (sub_nil0 hz)
 refine awp_skip (then_n (awp_seq (rgc [2] 1 ⟨8, [(2, .asl 0 0 (0 + a0.length))], [.arr 2 (0 + a0.length) (app (fun i => List.take 2 (List.drop (i * 2) [])) 0 (fun i => c_TPrefix (a0.getD i default)))]⟩ [decide (0 = 0) || decide (0 < a0.length), decide ((0 + a0.length) * 16 ≤ 140737488355328)] hc ?_)))
 refine then_n (awp_ret ?_)
 exact er (.sl false 2 (0 + a0.length) (fun i => (app (fun i => List.take 2 (List.drop (i * 2) [])) 0 (fun i => c_TPrefix (a0.getD i default))) (0 + i))) (sub_sl (Nat.zero_add _) (fun i hi => by rw [Nat.zero_add]; exact app_nil c_TPrefix _ a0 _ (fun _ _ => rfl) i hi))
theorem slices_Clone_api_Aggregate_api_Aggregate_ok (a0 : List TAggregate) (r : List TAggregate) (h : M.slices_Clone_api_Aggregate_api_Aggregate a0 = some r) : Fn Tryz.prog 140 [sL 3 c_TAggregate a0] (.pure (sL 3 c_TAggregate r)) := by
 unfold M.slices_Clone_api_Aggregate_api_Aggregate at h
 obtain ⟨hc, h1⟩ := gd_some h
 obtain rfl := Option.some.inj h1
 refine fn_pure Tryz.func140 rfl (by kernel_rfl) ?_
 refine awp_seq (rg0 [0] 0 ⟨8, [(0, sL 3 c_TAggregate a0)], []⟩ ?_)
 refine then_n (awp_seq (awp_seq (rg0 [0, 4] 0 ⟨8, [(0, sL 3 c_TAggregate a0), (4, .nilq a0.length)], []⟩ ?_)))
 refine then_n (nq a0.length (fun hz => ?_) ?_)
 refine awp_seq (rg0 [2] 0 ⟨8, [(2, .sl true 3 0 (fun _ => []))], []⟩ ?_)
 refine then_n (awp_ret (then_r ?_))
 exact er (.sl false 3 0 (fun _ => [])) (sub_nil0 hz)
 refine awp_skip (then_n (awp_seq (rgc [2] 1 ⟨8, [(2, .asl 0 0 (0 + a0.length))], [.arr 3 (0 + a0.length) (app (fun i => List.take 3 (List.drop (i * 3) [])) 0 (fun i => c_TAggregate (a0.getD i default)))]⟩ [decide (0 = 0) || decide (0 < a0.length), decide ((0 + a0.length) * 24 ≤ 140737488355328)] hc ?_)))
 refine then_n (awp_ret ?_)
 exact er (.sl false 3 (0 + a0.length) (fun i => (app (fun i => List.take 3 (List.drop (i * 3) [])) 0 (fun i => c_TAggregate (a0.getD i default))) (0 + i))) (sub_sl (Nat.zero_add _) (fun i hi => by rw [Nat.zero_add]; exact app_nil c_TAggregate _ a0 _ (fun _ _ => rfl) i hi))
theorem slices_Clone_api_Condition_api_Condition_ok (a0 : List TCondition) (r : List TCondition) (h : M.slices_Clone_api_Condition_api_Condition a0 = some r) : Fn Tryz.prog 141 [sL 5 c_TCondition a0] (.pure (sL 5 c_TCondition r)) := by
 unfold M.slices_Clone_api_Condition_api_Condition at h
 obtain ⟨hc, h1⟩ := gd_some h
 obtain rfl := Option.some.inj h1
 refine fn_pure Tryz.func141 rfl (by kernel_rfl) ?_
 refine awp_seq (rg0 [0] 0 ⟨8, [(0, sL 5 c_TCondition a0)], []⟩ ?_)
 refine then_n (awp_seq (awp_seq (rg0 [0, 4] 0 ⟨8, [(0, sL 5 c_TCondition a0), (4, .nilq a0.length)], []⟩ ?_)))
 refine then_n (nq a0.length (fun hz => ?_) ?_)
 refine awp_seq (rg0 [2] 0 ⟨8, [(2, .sl true 5 0 (fun _ => []))], []⟩ ?_)
 refine then_n (awp_ret (then_r ?_))
 exact er (.sl false 5 0 (fun _ => [])) (sub_nil0 hz)
 refine awp_skip (then_n (awp_seq (rgc [2] 1 ⟨8, [(2, .asl 0 0 (0 + a0.length))], [.arr 5 (0 + a0.length) (app (fun i => List.take 5 (List.drop (i * 5) [])) 0 (fun i => c_TCondition (a0.getD i default)))]⟩ [decide (0 = 0) || decide (0 < a0.length), decide ((0 + a0.length) * 40 ≤ 140737488355328)] hc ?_)))
 refine then_n (awp_ret ?_)
 exact er (.sl false 5 (0 + a0.length) (fun i => (app (fun i => List.take 5 (List.drop (i * 5) [])) 0 (fun i => c_TCondition (a0.getD i default))) (0 + i))) (sub_sl (Nat.zero_add _) (fun i hi => by rw [Nat.zero_add]; exact app_nil c_TCondition _ a0 _ (fun _ _ => rfl) i hi))
end Nv
