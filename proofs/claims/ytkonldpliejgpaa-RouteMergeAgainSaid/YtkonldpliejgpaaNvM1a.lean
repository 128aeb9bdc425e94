/- The walks: each function computes its mirror. -/
import Derived.Test.YtkonldpliejgpaaProg
import Derived.Test.YtkonldpliejgpaaNvD1
import Derived.Test.YtkonldpliejgpaaNvLibC
import Derived.KernelRfl
import Derived.Ground.SlsfProg
import Derived.Shelf.Lay
set_option maxRecDepth 100000
namespace Nv
open Go Go.Proofs
theorem law14_few_ok (a0 : List TRoute) (r : Bool) (h : M.law14_few a0 = some r) : Fn Try.prog 12 [sL 14 c_TRoute a0] (.pure (.bool r)) := by
 unfold M.law14_few at h
 refine fn_pure Try.func12 rfl (by kernel_rfl) ?_
 refine awp_seq (rg0 [0] 0 ⟨29, [(0, sL 14 c_TRoute a0)], []⟩ ?_)
 refine then_n (awp_seq (awp_seq (rg0 [0, 6] 0 ⟨29, [(0, sL 14 c_TRoute a0), (6, .bool (decide ((a0.length : Int) > 40)))], []⟩ ?_)))
 refine then_n ?_
 refine cnd (decide ((a0.length : Int) > 40)) (fun b1 => ?_) (fun b1 => ?_)
 have h2 := cond_t b1 h
 refine awp_seq (rg0 [2] 0 ⟨29, [(2, .bool false)], []⟩ ?_)
 refine then_n (awp_ret (then_r ?_))
 obtain rfl := Option.some.inj h2
 exact er0 (.bool false)
 have h3 := cond_f b1 h
 refine awp_skip (then_n (awp_seq (awp_seq (rg0 [0, 3] 0 ⟨29, [(0, sL 14 c_TRoute a0), (3, .int .i64 0)], []⟩ ?_))))
 refine then_n (awp_block ?_)
 obtain ⟨y3, q13, h14⟩ := bind_some h3
 refine awp_le (s' := ⟨29, [(0, sL 14 c_TRoute a0), (3, .int .i64 0)], []⟩) (le_rfl) ?_
 refine awp_mono (awp_loop (f := M.law14_few_l1 a0) (S := fun (p1 : Int) => ⟨29, [(0, sL 14 c_TRoute a0), (3, .int .i64 p1)], []⟩) (O := (Sum.elim (fun z => OutE 0 (fun z => ⟨29, [], []⟩) z) (fun z => OutR Try.prog Try.f12 (.bool z)))) ?_ (x := 0) (y := y3) (loopM_iter q13)) ?_
 intro p1 y2 h4
 unfold M.law14_few_l1 at h4
 refine awp_seq (awp_seq (rg0 [0, 3, 10] 0 ⟨29, [(0, sL 14 c_TRoute a0), (3, .int .i64 p1), (10, .bool (decide (p1 < (a0.length : Int))))], []⟩ ?_))
 refine then_n ?_
 refine cnd (decide (p1 < (a0.length : Int))) (fun b5 => ?_) (fun b5 => ?_)
 have h6 := cond_t b5 h4
 refine awp_skip (then_n (awp_seq (awp_block (awp_seq ?_))))
 obtain ⟨c8, h9⟩ := gd_some h6
 refine rgc [0, 3, 28] 0 ⟨29, [(0, sL 14 c_TRoute a0), (3, .int .i64 p1), (28, .bool ((decide ((((a0.getD p1.toNat default).fPath).length : Int) > 68)) || (decide ((((a0.getD p1.toNat default).fHops).length : Int) > 20))))], []⟩ [decide (0 ≤ p1), decide (p1 < (a0.length : Int)), guardB (!(decide ((((a0.getD p1.toNat default).fPath).length : Int) > 68))) (decide (0 ≤ p1)), guardB (!(decide ((((a0.getD p1.toNat default).fPath).length : Int) > 68))) (decide (p1 < (a0.length : Int)))] c8 ?_
 refine then_n ?_
 refine cnd ((decide ((((a0.getD p1.toNat default).fPath).length : Int) > 68)) || (decide ((((a0.getD p1.toNat default).fHops).length : Int) > 20))) (fun b10 => ?_) (fun b10 => ?_)
 have h11 := cond_t b10 h9
 refine awp_seq (rg0 [2] 0 ⟨29, [(2, .bool false)], []⟩ ?_)
 refine then_n (awp_ret (inb_r (then_r ?_)))
 obtain rfl := Option.some.inj h11
 exact round_r ⟨rfl, er0 (.bool false)⟩
 have h12 := cond_f b10 h9
 refine awp_skip (inb_n (then_n (rg0 [0, 3] 0 ⟨29, [(0, sL 14 c_TRoute a0), (3, .int .i64 (wr .i64 (p1 + 1)))], []⟩ ?_)))
 obtain rfl := Option.some.inj h12
 exact round_n (le_rfl)
 have h7 := cond_f b5 h4
 refine awp_exit (then_e ?_)
 obtain rfl := Option.some.inj h7
 exact round_e ⟨rfl, kp []⟩
 intro e15 s16 o17
 rcases y3 with g4 | y5
 have h18 := elim_l h14
 obtain ⟨rfl, l20⟩ := o17
 refine inb_here ?_
 refine then_le (s' := ⟨29, [], []⟩) (l20) ?_
 refine awp_seq (rg0 [2] 0 ⟨29, [(2, .bool true)], []⟩ ?_)
 refine then_n (awp_ret ?_)
 obtain rfl := Option.some.inj h18
 exact er0 (.bool true)
 have h19 := elim_r h14
 obtain ⟨rfl, n21⟩ := o17
 refine inb_r (then_r ?_)
 obtain rfl := Option.some.inj h19
 exact n21
theorem ref4_Mask_ok (a0 : Int) (r : Int) (h : M.ref4_Mask a0 = some r) : Fn Try.prog 59 [.int .i64 a0] (.pure (.int .u32 r)) := by
 unfold M.ref4_Mask at h
 refine fn_pure Try.func59 rfl (by kernel_rfl) ?_
 refine awp_seq (rg0 [0] 0 ⟨19, [(0, .int .i64 a0)], []⟩ ?_)
 refine then_n (awp_seq (rg0 [0, 3] 0 ⟨19, [(0, .int .i64 a0), (3, .int .u32 0)], []⟩ ?_))
 refine then_n (awp_seq (awp_seq (rg0 [0, 3, 4] 0 ⟨19, [(0, .int .i64 a0), (3, .int .u32 0), (4, .int .i64 0)], []⟩ ?_)))
 refine then_n (awp_block ?_)
 obtain ⟨y4, q12, h13⟩ := bind_some h
 refine awp_le (s' := ⟨19, [(0, .int .i64 a0), (3, .int .u32 0), (4, .int .i64 0)], []⟩) (le_rfl) ?_
 refine awp_mono (awp_loop (f := M.ref4_Mask_l1 a0) (S := fun (p1 : Int × Int) => ⟨19, [(0, .int .i64 a0), (3, .int .u32 p1.1), (4, .int .i64 p1.2)], []⟩) (O := (fun z => OutE 0 (fun z => ⟨19, [(3, .int .u32 z)], []⟩) z)) ?_ (x := (0, 0)) (y := y4) (loopM_iter q12)) ?_
 intro p1 y2 h1
 unfold M.ref4_Mask_l1 at h1
 refine awp_seq (awp_seq (rg0 [0, 3, 4, 6] 0 ⟨19, [(0, .int .i64 a0), (3, .int .u32 p1.1), (4, .int .i64 p1.2), (6, .bool (decide (p1.2 < 32)))], []⟩ ?_))
 refine then_n ?_
 refine cnd (decide (p1.2 < 32)) (fun b2 => ?_) (fun b2 => ?_)
 have h3 := cond_t b2 h1
 refine awp_skip (then_n ?_)
 refine awp_join (fun (p3 : Int) => ⟨19, [(0, .int .i64 a0), (3, .int .u32 p3), (4, .int .i64 p1.2)], []⟩) (fun p3 => M.ref4_Mask_k1 p1 p3 = some y2) ?_ ?_
 intro p3 h6
 unfold M.ref4_Mask_k1 at h6
 refine rg0 [0, 3, 4] 0 ⟨19, [(0, .int .i64 a0), (3, .int .u32 p3), (4, .int .i64 (wr .i64 (p1.2 + 1)))], []⟩ ?_
 obtain rfl := Option.some.inj h6
 exact round_n (le_rfl)
 intro k5
 refine awp_block (awp_seq (rg0 [0, 3, 4, 11] 0 ⟨19, [(0, .int .i64 a0), (3, .int .u32 p1.1), (4, .int .i64 p1.2), (11, .bool (decide (p1.2 < a0)))], []⟩ ?_))
 refine then_n ?_
 refine cnd (decide (p1.2 < a0)) (fun b7 => ?_) (fun b7 => ?_)
 have h8 := cond_t b7 h3
 obtain ⟨c10, h11⟩ := gd_some h8
 refine rgc [0, 3, 4] 0 ⟨19, [(0, .int .i64 a0), (3, .int .u32 (bitD .or .u32 p1.1 (wr .u32 (1 * 2 ^ min (wr .u64 (wr .i64 (31 - p1.2))).toNat 32)))), (4, .int .i64 p1.2)], []⟩ [decide (0 ≤ (wr .u64 (wr .i64 (31 - p1.2))))] c10 ?_
 refine inb_n ?_
 exact then_le (le_rfl) (k5 (bitD .or .u32 p1.1 (wr .u32 (1 * 2 ^ min (wr .u64 (wr .i64 (31 - p1.2))).toNat 32))) h11)
 have h9 := cond_f b7 h3
 refine awp_skip (inb_n ?_)
 exact then_le (kp [0, 3, 4]) (k5 p1.1 h9)
 have h4 := cond_f b2 h1
 refine awp_exit (then_e ?_)
 obtain rfl := Option.some.inj h4
 exact round_e ⟨rfl, kp [3]⟩
 intro e14 s15 o16
 obtain ⟨rfl, l17⟩ := o16
 refine inb_here ?_
 refine then_le (s' := ⟨19, [(3, .int .u32 y4)], []⟩) (l17) ?_
 refine awp_seq (rg0 [2] 0 ⟨19, [(2, .int .u32 y4)], []⟩ ?_)
 refine then_n (awp_ret ?_)
 obtain rfl := Option.some.inj h13
 exact er0 (.int .u32 y4)
theorem ref4_Valid_ok (a0 : TPrefix) (r : Bool) (h : M.ref4_Valid a0 = some r) : Fn Try.prog 39 [.agg (c_TPrefix a0)] (.pure (.bool r)) := by
 unfold M.ref4_Valid at h
 refine fn_pure Try.func39 rfl (by kernel_rfl) ?_
 refine awp_seq (rg0 [1] 1 ⟨20, [(1, .ref 0 0)], [.box (c_TPrefix a0)]⟩ ?_)
 refine then_n (awp_seq ?_)
 obtain ⟨r1, q1, h2⟩ := bind_some h
 refine rg [.pure (.int .u32 r1)] [2] 0 ⟨20, [(2, .bool (((decide (a0.fLen ≥ 0)) && (decide (a0.fLen ≤ 32))) && ((bitD .andNot .u32 a0.fAddr r1) == 0)))], []⟩ [] [⟨(decide (a0.fLen ≥ 0)) && (decide (a0.fLen ≤ 32)), 59, [.int .i64 a0.fLen], .pure (.int .u32 r1)⟩] nil_all ⟨fun hg => ref4_Mask_ok a0.fLen r1 (gc_some q1 hg), trivial⟩ ?_
 refine then_n (awp_ret ?_)
 obtain rfl := Option.some.inj h2
 exact er0 (.bool (((decide (a0.fLen ≥ 0)) && (decide (a0.fLen ≤ 32))) && ((bitD .andNot .u32 a0.fAddr r1) == 0)))
theorem ref15_within_ok (a0 : Int) (a1 : Int) (a2 : Int) (r : Bool) (h : M.ref15_within a0 a1 a2 = some r) : Fn Try.prog 40 [.int .i64 a0, .int .i64 a1, .int .i64 a2] (.pure (.bool r)) := by
 unfold M.ref15_within at h
 refine fn_pure Try.func40 rfl (by kernel_rfl) ?_
 refine awp_seq (rg0 [0, 1, 2] 0 ⟨15, [(0, .int .i64 a0), (1, .int .i64 a1), (2, .int .i64 a2)], []⟩ ?_)
 refine then_n (awp_seq (rg0 [6] 0 ⟨15, [(6, .bool ((decide (a1 ≤ a0)) && (decide (a0 ≤ a2))))], []⟩ ?_))
 refine then_n (awp_ret ?_)
 obtain rfl := Option.some.inj h
 exact er0 (.bool ((decide (a1 ≤ a0)) && (decide (a0 ≤ a2))))
theorem ref15_plain_ok (a0 : TRoute) (a1 : Bool) (a2 : Bool) (a3 : Bool) (r : Bool) (h : M.ref15_plain a0 a1 a2 a3 = some r) : Fn Try.prog 41 [.agg (c_TRoute a0), .bool a1, .bool a2, .bool a3] (.pure (.bool r)) := by
 unfold M.ref15_plain at h
 refine fn_pure Try.func41 rfl (by kernel_rfl) ?_
 refine awp_seq (rg0 [1, 2, 3, 4] 1 ⟨42, [(1, .bool a1), (2, .bool a2), (3, .bool a3), (4, .ref 0 0)], [.box (c_TRoute a0)]⟩ ?_)
 refine then_n (awp_seq (rg0 [8] 0 ⟨42, [(8, .bool (((a1 || (a0.fInner == 0)) && (a2 || (((a0.fPref == 0) && ((a0.fPath.length : Int) == 0)) && (a0.fFrom == 0)))) && (a3 || (a0.fNext == 0))))], []⟩ ?_))
 refine then_n (awp_ret ?_)
 obtain rfl := Option.some.inj h
 exact er0 (.bool (((a1 || (a0.fInner == 0)) && (a2 || (((a0.fPref == 0) && ((a0.fPath.length : Int) == 0)) && (a0.fFrom == 0)))) && (a3 || (a0.fNext == 0))))
theorem ref15_lessHop_ok (a0 : THop) (a1 : THop) (r : Bool) (h : M.ref15_lessHop a0 a1 = some r) : Fn Try.prog 69 [.agg (c_THop a0), .agg (c_THop a1)] (.pure (.bool r)) := by
 unfold M.ref15_lessHop at h
 refine fn_pure Try.func69 rfl (by kernel_rfl) ?_
 refine awp_seq (rg0 [2, 3] 2 ⟨24, [(2, .ref 0 0), (3, .ref 1 0)], [.box (c_THop a0), .box (c_THop a1)]⟩ ?_)
 refine then_n (awp_seq (rg0 [4] 0 ⟨24, [(4, .bool ((decide (a0.fIface < a1.fIface)) || ((a0.fIface == a1.fIface) && (decide (a0.fAddr < a1.fAddr)))))], []⟩ ?_))
 refine then_n (awp_ret ?_)
 obtain rfl := Option.some.inj h
 exact er0 (.bool ((decide (a0.fIface < a1.fIface)) || ((a0.fIface == a1.fIface) && (decide (a0.fAddr < a1.fAddr)))))
theorem ref15_hops_ok (a0 : List THop) (a1 : Bool) (r : Bool) (h : M.ref15_hops a0 a1 = some r) : Fn Try.prog 42 [sL 2 c_THop a0, .bool a1] (.pure (.bool r)) := by
 unfold M.ref15_hops at h
 refine fn_pure Try.func42 rfl (by kernel_rfl) ?_
 refine awp_seq (rg0 [0, 1] 0 ⟨45, [(0, sL 2 c_THop a0), (1, .bool a1)], []⟩ ?_)
 refine then_n (awp_seq (awp_seq (rg0 [0, 1, 5] 0 ⟨45, [(0, sL 2 c_THop a0), (1, .bool a1), (5, .int .i64 0)], []⟩ ?_)))
 refine then_n (awp_block ?_)
 obtain ⟨y4, q12, h13⟩ := bind_some h
 refine awp_le (s' := ⟨45, [(0, sL 2 c_THop a0), (1, .bool a1), (5, .int .i64 0)], []⟩) (le_rfl) ?_
 refine awp_mono (awp_loop (f := M.ref15_hops_l1 a0 a1) (S := fun (p1 : Int) => ⟨45, [(0, sL 2 c_THop a0), (1, .bool a1), (5, .int .i64 p1)], []⟩) (O := (Sum.elim (fun z => OutE 0 (fun z => ⟨45, [], []⟩) z) (fun z => OutR Try.prog Try.f42 (.bool z)))) ?_ (x := 0) (y := y4) (loopM_iter q12)) ?_
 intro p1 y2 h1
 unfold M.ref15_hops_l1 at h1
 refine awp_seq (awp_seq (rg0 [0, 1, 5, 9] 0 ⟨45, [(0, sL 2 c_THop a0), (1, .bool a1), (5, .int .i64 p1), (9, .bool (decide (p1 < (a0.length : Int))))], []⟩ ?_))
 refine then_n ?_
 refine cnd (decide (p1 < (a0.length : Int))) (fun b2 => ?_) (fun b2 => ?_)
 have h3 := cond_t b2 h1
 refine awp_skip (then_n (awp_seq (awp_block (awp_seq ?_))))
 obtain ⟨r3, q5, h6⟩ := bind_some h3
 obtain ⟨c7, h8⟩ := gd_some h6
 refine rg [.pure (.bool r3)] [0, 1, 5, 44] 0 ⟨45, [(0, sL 2 c_THop a0), (1, .bool a1), (5, .int .i64 p1), (44, .bool (((decide (((a0.getD p1.toNat default).fIface) < 0)) || ((decide (p1 > 0)) && (!r3))) || (!((((a0.getD p1.toNat default).fAddr) == 0) == a1))))], []⟩ [decide (0 ≤ p1), decide (p1 < (a0.length : Int)), guardB ((!(decide (((a0.getD p1.toNat default).fIface) < 0))) && (decide (p1 > 0))) (decide (0 ≤ (wr .i64 (p1 - 1)))), guardB ((!(decide (((a0.getD p1.toNat default).fIface) < 0))) && (decide (p1 > 0))) (decide ((wr .i64 (p1 - 1)) < (a0.length : Int))), guardB ((!(decide (((a0.getD p1.toNat default).fIface) < 0))) && (decide (p1 > 0))) (decide (0 ≤ p1)), guardB ((!(decide (((a0.getD p1.toNat default).fIface) < 0))) && (decide (p1 > 0))) (decide (p1 < (a0.length : Int))), guardB (!((decide (((a0.getD p1.toNat default).fIface) < 0)) || ((decide (p1 > 0)) && (!r3)))) (decide (0 ≤ p1)), guardB (!((decide (((a0.getD p1.toNat default).fIface) < 0)) || ((decide (p1 > 0)) && (!r3)))) (decide (p1 < (a0.length : Int)))] [⟨((!(decide (((a0.getD p1.toNat default).fIface) < 0))) && (decide (p1 > 0))), 69, [.agg (c_THop (a0.getD (wr .i64 (p1 - 1)).toNat default)), .agg (c_THop (a0.getD p1.toNat default))], .pure (.bool r3)⟩] c7 ⟨fun hg => ref15_lessHop_ok (a0.getD (wr .i64 (p1 - 1)).toNat default) (a0.getD p1.toNat default) r3 (gc_some q5 hg), trivial⟩ ?_
 refine then_n ?_
 refine cnd (((decide (((a0.getD p1.toNat default).fIface) < 0)) || ((decide (p1 > 0)) && (!r3))) || (!((((a0.getD p1.toNat default).fAddr) == 0) == a1))) (fun b9 => ?_) (fun b9 => ?_)
 have h10 := cond_t b9 h8
 refine awp_seq (rg0 [4] 0 ⟨45, [(4, .bool false)], []⟩ ?_)
 refine then_n (awp_ret (inb_r (then_r ?_)))
 obtain rfl := Option.some.inj h10
 exact round_r ⟨rfl, er0 (.bool false)⟩
 have h11 := cond_f b9 h8
 refine awp_skip (inb_n (then_n (rg0 [0, 1, 5] 0 ⟨45, [(0, sL 2 c_THop a0), (1, .bool a1), (5, .int .i64 (wr .i64 (p1 + 1)))], []⟩ ?_)))
 obtain rfl := Option.some.inj h11
 exact round_n (le_rfl)
 have h4 := cond_f b2 h1
 refine awp_exit (then_e ?_)
 obtain rfl := Option.some.inj h4
 exact round_e ⟨rfl, kp []⟩
 intro e14 s15 o16
 rcases y4 with g5 | y6
 have h17 := elim_l h13
 obtain ⟨rfl, l19⟩ := o16
 refine inb_here ?_
 refine then_le (s' := ⟨45, [], []⟩) (l19) ?_
 refine awp_seq (rg0 [4] 0 ⟨45, [(4, .bool true)], []⟩ ?_)
 refine then_n (awp_ret ?_)
 obtain rfl := Option.some.inj h17
 exact er0 (.bool true)
 have h18 := elim_r h13
 obtain ⟨rfl, n20⟩ := o16
 refine inb_r (then_r ?_)
 obtain rfl := Option.some.inj h18
 exact n20
theorem ref15_validStatic_ok (a0 : TRoute) (r : Bool) (h : M.ref15_validStatic a0 = some r) : Fn Try.prog 43 [.agg (c_TRoute a0)] (.pure (.bool r)) := by
 unfold M.ref15_validStatic at h
 refine fn_pure Try.func43 rfl (by kernel_rfl) ?_
 refine awp_seq (rg0 [1] 1 ⟨51, [(1, .ref 0 0)], [.box (c_TRoute a0)]⟩ ?_)
 refine then_n (awp_seq (awp_seq ?_))
 obtain ⟨r1, q1, h2⟩ := bind_some h
 obtain ⟨r2, q3, h4⟩ := bind_some h2
 refine rg [.pure (.bool r1), .pure (.bool r2)] [1, 21] 1 ⟨51, [(1, .ref 0 0), (21, .bool ((((a0.fClass != 0) || (a0.fMetric != 0)) || (!r1)) || (!r2)))], [.box (c_TRoute a0)]⟩ [] [⟨(!((a0.fClass != 0) || (a0.fMetric != 0))), 40, [.int .i64 a0.fAdmin, .int .i64 1, .int .i64 255], .pure (.bool r1)⟩, ⟨(!(((a0.fClass != 0) || (a0.fMetric != 0)) || (!r1))), 41, [.agg (c_TRoute a0), .bool false, .bool false, .bool true], .pure (.bool r2)⟩] nil_all ⟨fun hg => ref15_within_ok a0.fAdmin 1 255 r1 (gc_some q1 hg), fun hg => ref15_plain_ok a0 false false true r2 (gc_some q3 hg), trivial⟩ ?_
 refine then_n ?_
 refine cnd ((((a0.fClass != 0) || (a0.fMetric != 0)) || (!r1)) || (!r2)) (fun b5 => ?_) (fun b5 => ?_)
 have h6 := cond_t b5 h4
 refine awp_seq (rg0 [2] 0 ⟨51, [(2, .bool false)], []⟩ ?_)
 refine then_n (awp_ret (then_r ?_))
 obtain rfl := Option.some.inj h6
 exact er0 (.bool false)
 have h7 := cond_f b5 h4
 refine awp_skip (then_n (awp_seq (awp_block (awp_seq (rg0 [1, 22] 1 ⟨51, [(1, .ref 0 0), (22, .bool (a0.fNext != 0))], [.box (c_TRoute a0)]⟩ ?_)))))
 refine then_n ?_
 refine cnd (a0.fNext != 0) (fun b8 => ?_) (fun b8 => ?_)
 have h9 := cond_t b8 h7
 refine awp_seq (rg0 [2] 0 ⟨51, [(2, .bool (((a0.fHops.length : Int) == 0) && (!a0.fDiscard)))], []⟩ ?_)
 refine then_n (awp_ret (inb_r (then_r ?_)))
 obtain rfl := Option.some.inj h9
 exact er0 (.bool (((a0.fHops.length : Int) == 0) && (!a0.fDiscard)))
 have h10 := cond_f b8 h7
 refine awp_seq (rg0 [1, 35] 1 ⟨51, [(1, .ref 0 0), (35, .bool a0.fDiscard)], [.box (c_TRoute a0)]⟩ ?_)
 refine then_n ?_
 refine cnd a0.fDiscard (fun b11 => ?_) (fun b11 => ?_)
 have h12 := cond_t b11 h10
 refine awp_seq (rg0 [2] 0 ⟨51, [(2, .bool ((a0.fHops.length : Int) == 0))], []⟩ ?_)
 refine then_n (awp_ret (inb_r (then_r ?_)))
 obtain rfl := Option.some.inj h12
 exact er0 (.bool ((a0.fHops.length : Int) == 0))
 have h13 := cond_f b11 h10
 refine awp_skip (inb_n (then_n (awp_seq ?_)))
 obtain ⟨r3, q14, h15⟩ := bind_some h13
 refine rg [.pure (.bool r3)] [2] 0 ⟨51, [(2, .bool (((a0.fHops.length : Int) == 1) && r3))], []⟩ [] [⟨(a0.fHops.length : Int) == 1, 42, [sL 2 c_THop a0.fHops, .bool true], .pure (.bool r3)⟩] nil_all ⟨fun hg => ref15_hops_ok a0.fHops true r3 (gc_some q14 hg), trivial⟩ ?_
 refine then_n (awp_ret ?_)
 obtain rfl := Option.some.inj h15
 exact er0 (.bool (((a0.fHops.length : Int) == 1) && r3))
theorem ref15_validLinkState_ok (a0 : TRoute) (r : Bool) (h : M.ref15_validLinkState a0 = some r) : Fn Try.prog 44 [.agg (c_TRoute a0)] (.pure (.bool r)) := by
 unfold M.ref15_validLinkState at h
 refine fn_pure Try.func44 rfl (by kernel_rfl) ?_
 refine awp_seq (rg0 [1] 1 ⟨68, [(1, .ref 0 0)], [.box (c_TRoute a0)]⟩ ?_)
 refine then_n (awp_seq (awp_seq ?_))
 obtain ⟨r1, q1, h2⟩ := bind_some h
 obtain ⟨r2, q3, h4⟩ := bind_some h2
 obtain ⟨r3, q5, h6⟩ := bind_some h4
 obtain ⟨r4, q7, h8⟩ := bind_some h6
 refine rg [.pure (.bool r1), .pure (.bool r2), .pure (.bool r3), .pure (.bool r4)] [1, 23] 1 ⟨68, [(1, .ref 0 0), (23, .bool ((((!r1) || (!r2)) || (!r3)) || (!r4)))], [.box (c_TRoute a0)]⟩ [] [⟨true, 40, [.int .i64 a0.fClass, .int .i64 1, .int .i64 4], .pure (.bool r1)⟩, ⟨(!(!r1)), 40, [.int .i64 a0.fAdmin, .int .i64 1, .int .i64 255], .pure (.bool r2)⟩, ⟨(!((!r1) || (!r2))), 40, [.int .i64 a0.fMetric, .int .i64 0, .int .i64 1073741824], .pure (.bool r3)⟩, ⟨(!(((!r1) || (!r2)) || (!r3))), 41, [.agg (c_TRoute a0), .bool true, .bool false, .bool false], .pure (.bool r4)⟩] nil_all ⟨fun _ => ref15_within_ok a0.fClass 1 4 r1 q1, fun hg => ref15_within_ok a0.fAdmin 1 255 r2 (gc_some q3 hg), fun hg => ref15_within_ok a0.fMetric 0 1073741824 r3 (gc_some q5 hg), fun hg => ref15_plain_ok a0 true false false r4 (gc_some q7 hg), trivial⟩ ?_
 refine then_n ?_
 refine cnd ((((!r1) || (!r2)) || (!r3)) || (!r4)) (fun b9 => ?_) (fun b9 => ?_)
 have h10 := cond_t b9 h8
 refine awp_seq (rg0 [2] 0 ⟨68, [(2, .bool false)], []⟩ ?_)
 refine then_n (awp_ret (then_r ?_))
 obtain rfl := Option.some.inj h10
 exact er0 (.bool false)
 have h11 := cond_f b9 h8
 refine awp_skip (then_n (awp_seq (awp_seq ?_)))
 obtain ⟨r5, q12, h13⟩ := bind_some h11
 refine rg [.pure (.bool r5)] [1, 37] 1 ⟨68, [(1, .ref 0 0), (37, .bool ((!r5) || ((a0.fClass != 4) && (a0.fInner != 0))))], [.box (c_TRoute a0)]⟩ [] [⟨true, 40, [.int .i64 a0.fInner, .int .i64 0, .int .i64 1073741824], .pure (.bool r5)⟩] nil_all ⟨fun _ => ref15_within_ok a0.fInner 0 1073741824 r5 q12, trivial⟩ ?_
 refine then_n ?_
 refine cnd ((!r5) || ((a0.fClass != 4) && (a0.fInner != 0))) (fun b14 => ?_) (fun b14 => ?_)
 have h15 := cond_t b14 h13
 refine awp_seq (rg0 [2] 0 ⟨68, [(2, .bool false)], []⟩ ?_)
 refine then_n (awp_ret (then_r ?_))
 obtain rfl := Option.some.inj h15
 exact er0 (.bool false)
 have h16 := cond_f b14 h13
 refine awp_skip (then_n (awp_seq (awp_seq (rg0 [1, 39] 1 ⟨68, [(1, .ref 0 0), (39, .bool a0.fDiscard)], [.box (c_TRoute a0)]⟩ ?_))))
 refine then_n ?_
 refine cnd a0.fDiscard (fun b17 => ?_) (fun b17 => ?_)
 have h18 := cond_t b17 h16
 refine awp_seq (rg0 [2] 0 ⟨68, [(2, .bool ((((a0.fClass == 1) && (a0.fMetric == 0)) && (a0.fTag == 0)) && ((a0.fHops.length : Int) == 0)))], []⟩ ?_)
 refine then_n (awp_ret (then_r ?_))
 obtain rfl := Option.some.inj h18
 exact er0 (.bool ((((a0.fClass == 1) && (a0.fMetric == 0)) && (a0.fTag == 0)) && ((a0.fHops.length : Int) == 0)))
 have h19 := cond_f b17 h16
 refine awp_skip (then_n (awp_seq ?_))
 obtain ⟨r6, q20, h21⟩ := bind_some h19
 refine rg [.pure (.bool r6)] [2] 0 ⟨68, [(2, .bool ((decide ((a0.fHops.length : Int) > 0)) && r6))], []⟩ [] [⟨decide ((a0.fHops.length : Int) > 0), 42, [sL 2 c_THop a0.fHops, .bool false], .pure (.bool r6)⟩] nil_all ⟨fun hg => ref15_hops_ok a0.fHops false r6 (gc_some q20 hg), trivial⟩ ?_
 refine then_n (awp_ret ?_)
 obtain rfl := Option.some.inj h21
 exact er0 (.bool ((decide ((a0.fHops.length : Int) > 0)) && r6))
theorem ref15_validDistance_ok (a0 : TRoute) (r : Bool) (h : M.ref15_validDistance a0 = some r) : Fn Try.prog 45 [.agg (c_TRoute a0)] (.pure (.bool r)) := by
 unfold M.ref15_validDistance at h
 refine fn_pure Try.func45 rfl (by kernel_rfl) ?_
 refine awp_seq (rg0 [1] 1 ⟨62, [(1, .ref 0 0)], [.box (c_TRoute a0)]⟩ ?_)
 refine then_n (awp_seq (awp_seq ?_))
 obtain ⟨r1, q1, h2⟩ := bind_some h
 obtain ⟨r2, q3, h4⟩ := bind_some h2
 obtain ⟨r3, q5, h6⟩ := bind_some h4
 refine rg [.pure (.bool r1), .pure (.bool r2), .pure (.bool r3)] [1, 21] 1 ⟨62, [(1, .ref 0 0), (21, .bool ((((!r1) || (!r2)) || (!r3)) || a0.fDiscard))], [.box (c_TRoute a0)]⟩ [] [⟨true, 40, [.int .i64 a0.fAdmin, .int .i64 1, .int .i64 255], .pure (.bool r1)⟩, ⟨(!(!r1)), 40, [.int .i64 a0.fMetric, .int .i64 1, .int .i64 15], .pure (.bool r2)⟩, ⟨(!((!r1) || (!r2))), 41, [.agg (c_TRoute a0), .bool false, .bool false, .bool false], .pure (.bool r3)⟩] nil_all ⟨fun _ => ref15_within_ok a0.fAdmin 1 255 r1 q1, fun hg => ref15_within_ok a0.fMetric 1 15 r2 (gc_some q3 hg), fun hg => ref15_plain_ok a0 false false false r3 (gc_some q5 hg), trivial⟩ ?_
 refine then_n ?_
 refine cnd ((((!r1) || (!r2)) || (!r3)) || a0.fDiscard) (fun b7 => ?_) (fun b7 => ?_)
 have h8 := cond_t b7 h6
 refine awp_seq (rg0 [2] 0 ⟨62, [(2, .bool false)], []⟩ ?_)
 refine then_n (awp_ret (then_r ?_))
 obtain rfl := Option.some.inj h8
 exact er0 (.bool false)
 have h9 := cond_f b7 h6
 refine awp_skip (then_n (awp_seq (awp_seq (rg0 [1, 23] 1 ⟨62, [(1, .ref 0 0), (23, .int .i64 a0.fClass)], [.box (c_TRoute a0)]⟩ ?_))))
 refine then_n (awp_block (awp_seq (rg0 [1, 23, 24] 1 ⟨62, [(1, .ref 0 0), (23, .int .i64 a0.fClass), (24, .bool (a0.fClass == 1))], [.box (c_TRoute a0)]⟩ ?_)))
 refine then_n ?_
 refine cnd (a0.fClass == 1) (fun b10 => ?_) (fun b10 => ?_)
 have h11 := cond_t b10 h9
 refine awp_seq ?_
 obtain ⟨r4, q13, h14⟩ := bind_some h11
 refine rg [.pure (.bool r4)] [2] 0 ⟨62, [(2, .bool ((((a0.fMetric == 1) && (a0.fTag == 0)) && ((a0.fHops.length : Int) == 1)) && r4))], []⟩ [] [⟨((a0.fMetric == 1) && (a0.fTag == 0)) && ((a0.fHops.length : Int) == 1), 42, [sL 2 c_THop a0.fHops, .bool true], .pure (.bool r4)⟩] nil_all ⟨fun hg => ref15_hops_ok a0.fHops true r4 (gc_some q13 hg), trivial⟩ ?_
 refine then_n (awp_ret (inb_r (then_r ?_)))
 obtain rfl := Option.some.inj h14
 exact er0 (.bool ((((a0.fMetric == 1) && (a0.fTag == 0)) && ((a0.fHops.length : Int) == 1)) && r4))
 have h12 := cond_f b10 h9
 refine awp_seq (rg0 [1, 23, 45] 1 ⟨62, [(1, .ref 0 0), (23, .int .i64 a0.fClass), (45, .bool (a0.fClass == 2))], [.box (c_TRoute a0)]⟩ ?_)
 refine then_n ?_
 refine cnd (a0.fClass == 2) (fun b15 => ?_) (fun b15 => ?_)
 have h16 := cond_t b15 h12
 refine awp_seq (rg0 [2] 0 ⟨62, [(2, .bool ((a0.fHops.length : Int) == 0))], []⟩ ?_)
 refine then_n (awp_ret (inb_r (then_r ?_)))
 obtain rfl := Option.some.inj h16
 exact er0 (.bool ((a0.fHops.length : Int) == 0))
 have h17 := cond_f b15 h12
 refine awp_seq (rg0 [1, 51] 1 ⟨62, [(1, .ref 0 0), (51, .bool (a0.fClass == 3))], [.box (c_TRoute a0)]⟩ ?_)
 refine then_n ?_
 refine cnd (a0.fClass == 3) (fun b18 => ?_) (fun b18 => ?_)
 have h19 := cond_t b18 h17
 refine awp_seq ?_
 obtain ⟨r5, q21, h22⟩ := bind_some h19
 refine rg [.pure (.bool r5)] [2] 0 ⟨62, [(2, .bool ((decide ((a0.fHops.length : Int) > 0)) && r5))], []⟩ [] [⟨decide ((a0.fHops.length : Int) > 0), 42, [sL 2 c_THop a0.fHops, .bool false], .pure (.bool r5)⟩] nil_all ⟨fun hg => ref15_hops_ok a0.fHops false r5 (gc_some q21 hg), trivial⟩ ?_
 refine then_n (awp_ret (inb_r (then_r ?_)))
 obtain rfl := Option.some.inj h22
 exact er0 (.bool ((decide ((a0.fHops.length : Int) > 0)) && r5))
 have h20 := cond_f b18 h17
 refine awp_skip (inb_n (then_n (awp_seq (rg0 [2] 0 ⟨62, [(2, .bool false)], []⟩ ?_))))
 refine then_n (awp_ret ?_)
 obtain rfl := Option.some.inj h20
 exact er0 (.bool false)
theorem ref15_validPath_ok (a0 : TRoute) (r : Bool) (h : M.ref15_validPath a0 = some r) : Fn Try.prog 46 [.agg (c_TRoute a0)] (.pure (.bool r)) := by
 unfold M.ref15_validPath at h
 refine fn_pure Try.func46 rfl (by kernel_rfl) ?_
 refine awp_seq (rg0 [1] 1 ⟨95, [(1, .ref 0 0)], [.box (c_TRoute a0)]⟩ ?_)
 refine then_n (awp_seq (awp_seq ?_))
 obtain ⟨r1, q1, h2⟩ := bind_some h
 obtain ⟨r2, q3, h4⟩ := bind_some h2
 obtain ⟨r3, q5, h6⟩ := bind_some h4
 obtain ⟨r4, q7, h8⟩ := bind_some h6
 refine rg [.pure (.bool r1), .pure (.bool r2), .pure (.bool r3), .pure (.bool r4)] [1, 23] 1 ⟨95, [(1, .ref 0 0), (23, .bool ((((!r1) || (!r2)) || (!r3)) || (!r4)))], [.box (c_TRoute a0)]⟩ [] [⟨true, 40, [.int .i64 a0.fAdmin, .int .i64 1, .int .i64 255], .pure (.bool r1)⟩, ⟨(!(!r1)), 40, [.int .i64 a0.fMetric, .int .i64 0, .int .i64 16777215], .pure (.bool r2)⟩, ⟨(!((!r1) || (!r2))), 40, [.int .i64 a0.fPref, .int .i64 0, .int .i64 1000000], .pure (.bool r3)⟩, ⟨(!(((!r1) || (!r2)) || (!r3))), 41, [.agg (c_TRoute a0), .bool false, .bool true, .bool false], .pure (.bool r4)⟩] nil_all ⟨fun _ => ref15_within_ok a0.fAdmin 1 255 r1 q1, fun hg => ref15_within_ok a0.fMetric 0 16777215 r2 (gc_some q3 hg), fun hg => ref15_within_ok a0.fPref 0 1000000 r3 (gc_some q5 hg), fun hg => ref15_plain_ok a0 false true false r4 (gc_some q7 hg), trivial⟩ ?_
 refine then_n ?_
 refine cnd ((((!r1) || (!r2)) || (!r3)) || (!r4)) (fun b9 => ?_) (fun b9 => ?_)
 have h10 := cond_t b9 h8
 refine awp_seq (rg0 [2] 0 ⟨95, [(2, .bool false)], []⟩ ?_)
 refine then_n (awp_ret (then_r ?_))
 obtain rfl := Option.some.inj h10
 exact er0 (.bool false)
 have h11 := cond_f b9 h8
 refine awp_skip (then_n (awp_seq (awp_seq (rg0 [1, 25] 1 ⟨95, [(1, .ref 0 0), (25, .int .i64 a0.fClass)], [.box (c_TRoute a0)]⟩ ?_))))
 refine then_n (awp_block ?_)
 refine awp_join (fun (p5 : Bool) => ⟨95, [(1, .ref 0 0), (25, .int .i64 a0.fClass), (26, .bool p5)], [.box (c_TRoute a0)]⟩) (fun p5 => M.ref15_validPath_k1 a0 p5 = some r) ?_ ?_
 intro p5 h13
 unfold M.ref15_validPath_k1 at h13
 refine cnd p5 (fun b14 => ?_) (fun b14 => ?_)
 have h15 := cond_t b14 h13
 refine awp_seq (rg0 [2] 0 ⟨95, [(2, .bool (((((a0.fPath.length : Int) == 0) && (a0.fFrom == 0)) && ((a0.fHops.length : Int) == 0)) && (a0.fDiscard == (a0.fClass == 2))))], []⟩ ?_)
 refine then_n (awp_ret (inb_r (then_r ?_)))
 obtain rfl := Option.some.inj h15
 exact er0 (.bool (((((a0.fPath.length : Int) == 0) && (a0.fFrom == 0)) && ((a0.fHops.length : Int) == 0)) && (a0.fDiscard == (a0.fClass == 2))))
 have h16 := cond_f b14 h13
 refine awp_join (fun (p6 : Bool) => ⟨95, [(1, .ref 0 0), (52, .bool p6)], [.box (c_TRoute a0)]⟩) (fun p6 => M.ref15_validPath_k2 a0 p6 = some r) ?_ ?_
 intro p6 h18
 unfold M.ref15_validPath_k2 at h18
 refine cnd p6 (fun b19 => ?_) (fun b19 => ?_)
 have h20 := cond_t b19 h18
 refine awp_seq ?_
 obtain ⟨r7, q22, h23⟩ := bind_some h20
 obtain ⟨c24, h25⟩ := gd_some h23
 refine rg [.pure (.bool r7)] [2] 0 ⟨95, [(2, .bool (((((((a0.fClass == 4) || (decide ((a0.fPath.length : Int) > 0))) && (a0.fFrom != 0)) && ((a0.fHops.length : Int) == 1)) && r7) && (((a0.fHops.getD (0 : Int).toNat default).fAddr) == a0.fFrom)) && (!a0.fDiscard)))], []⟩ [guardB (((((a0.fClass == 4) || (decide ((a0.fPath.length : Int) > 0))) && (a0.fFrom != 0)) && ((a0.fHops.length : Int) == 1)) && r7) (decide (0 ≤ 0)), guardB (((((a0.fClass == 4) || (decide ((a0.fPath.length : Int) > 0))) && (a0.fFrom != 0)) && ((a0.fHops.length : Int) == 1)) && r7) (decide (0 < (a0.fHops.length : Int)))] [⟨(((a0.fClass == 4) || (decide ((a0.fPath.length : Int) > 0))) && (a0.fFrom != 0)) && ((a0.fHops.length : Int) == 1), 42, [sL 2 c_THop a0.fHops, .bool false], .pure (.bool r7)⟩] c24 ⟨fun hg => ref15_hops_ok a0.fHops false r7 (gc_some q22 hg), trivial⟩ ?_
 refine then_n (awp_ret (inb_r (then_r ?_)))
 obtain rfl := Option.some.inj h25
 exact er0 (.bool (((((((a0.fClass == 4) || (decide ((a0.fPath.length : Int) > 0))) && (a0.fFrom != 0)) && ((a0.fHops.length : Int) == 1)) && r7) && (((a0.fHops.getD (0 : Int).toNat default).fAddr) == a0.fFrom)) && (!a0.fDiscard)))
 have h21 := cond_f b19 h18
 refine awp_skip (inb_n (then_n (awp_seq (rg0 [2] 0 ⟨95, [(2, .bool false)], []⟩ ?_))))
 refine then_n (awp_ret ?_)
 obtain rfl := Option.some.inj h21
 exact er0 (.bool false)
 intro k17
 refine awp_seq (rg0 [1, 25, 52] 1 ⟨95, [(1, .ref 0 0), (25, .int .i64 a0.fClass), (52, .bool (a0.fClass == 3))], [.box (c_TRoute a0)]⟩ ?_)
 refine then_n ?_
 refine cnd (a0.fClass == 3) (fun b26 => ?_) (fun b26 => ?_)
 have h27 := cond_t b26 h16
 refine awp_skip ?_
 exact then_le (kp [1, 52]) (k17 (a0.fClass == 3) h27)
 have h28 := cond_f b26 h16
 refine rg0 [1, 52] 1 ⟨95, [(1, .ref 0 0), (52, .bool (a0.fClass == 4))], [.box (c_TRoute a0)]⟩ ?_
 exact then_le (le_rfl) (k17 (a0.fClass == 4) h28)
 intro k12
 refine awp_seq (rg0 [1, 25, 26] 1 ⟨95, [(1, .ref 0 0), (25, .int .i64 a0.fClass), (26, .bool (a0.fClass == 1))], [.box (c_TRoute a0)]⟩ ?_)
 refine then_n ?_
 refine cnd (a0.fClass == 1) (fun b29 => ?_) (fun b29 => ?_)
 have h30 := cond_t b29 h11
 refine awp_skip ?_
 exact then_le (le_rfl) (k12 (a0.fClass == 1) h30)
 have h31 := cond_f b29 h11
 refine rg0 [1, 25, 26] 1 ⟨95, [(1, .ref 0 0), (25, .int .i64 a0.fClass), (26, .bool (a0.fClass == 2))], [.box (c_TRoute a0)]⟩ ?_
 exact then_le (le_rfl) (k12 (a0.fClass == 2) h31)
theorem ref15_Valid_ok (a0 : TRoute) (r : Bool) (h : M.ref15_Valid a0 = some r) : Fn Try.prog 14 [.agg (c_TRoute a0)] (.pure (.bool r)) := by
 unfold M.ref15_Valid at h
 refine fn_pure Try.func14 rfl (by kernel_rfl) ?_
 refine awp_seq (rg0 [1] 1 ⟨92, [(1, .ref 0 0)], [.box (c_TRoute a0)]⟩ ?_)
 refine then_n (awp_seq (awp_seq ?_))
 obtain ⟨r1, q1, h2⟩ := bind_some h
 obtain ⟨r2, q3, h4⟩ := bind_some h2
 refine rg [.pure (.bool r1), .pure (.bool r2)] [1, 19] 1 ⟨92, [(1, .ref 0 0), (19, .bool (((!r1) || (!r2)) || (decide ((a0.fPath.length : Int) > 64))))], [.box (c_TRoute a0)]⟩ [] [⟨true, 39, [.agg (c_TPrefix a0.fPrefix)], .pure (.bool r1)⟩, ⟨(!(!r1)), 40, [.int .i64 a0.fTag, .int .i64 0, .int .i64 65535], .pure (.bool r2)⟩] nil_all ⟨fun _ => ref4_Valid_ok a0.fPrefix r1 q1, fun hg => ref15_within_ok a0.fTag 0 65535 r2 (gc_some q3 hg), trivial⟩ ?_
 refine then_n ?_
 refine cnd (((!r1) || (!r2)) || (decide ((a0.fPath.length : Int) > 64))) (fun b5 => ?_) (fun b5 => ?_)
 have h6 := cond_t b5 h4
 refine awp_seq (rg0 [2] 0 ⟨92, [(2, .bool false)], []⟩ ?_)
 refine then_n (awp_ret (then_r ?_))
 obtain rfl := Option.some.inj h6
 exact er0 (.bool false)
 have h7 := cond_f b5 h4
 refine awp_skip (then_n (awp_seq (awp_seq (rg0 [1, 3] 1 ⟨92, [(1, .ref 0 0), (3, .int .i64 0)], [.box (c_TRoute a0)]⟩ ?_))))
 refine then_n (awp_block ?_)
 obtain ⟨y6, q19, h20⟩ := bind_some h7
 refine awp_le (s' := ⟨92, [(1, .ref 0 0), (3, .int .i64 0)], [.box (c_TRoute a0)]⟩) (le_rfl) ?_
 refine awp_mono (awp_loop (f := M.ref15_Valid_l1 a0) (S := fun (p3 : Int) => ⟨92, [(1, .ref 0 0), (3, .int .i64 p3)], [.box (c_TRoute a0)]⟩) (O := (Sum.elim (fun z => OutE 0 (fun z => ⟨92, [(1, .ref 0 0)], [.box (c_TRoute a0)]⟩) z) (fun z => OutR Try.prog Try.f14 (.bool z)))) ?_ (x := 0) (y := y6) (loopM_iter q19)) ?_
 intro p3 y4 h8
 unfold M.ref15_Valid_l1 at h8
 refine awp_seq (awp_seq (rg0 [1, 3, 24] 1 ⟨92, [(1, .ref 0 0), (3, .int .i64 p3), (24, .bool (decide (p3 < (a0.fPath.length : Int))))], [.box (c_TRoute a0)]⟩ ?_))
 refine then_n ?_
 refine cnd (decide (p3 < (a0.fPath.length : Int))) (fun b9 => ?_) (fun b9 => ?_)
 have h10 := cond_t b9 h8
 refine awp_skip (then_n (awp_seq (awp_block (awp_seq ?_))))
 obtain ⟨r5, q12, h13⟩ := bind_some h10
 obtain ⟨c14, h15⟩ := gd_some h13
 refine rg [.pure (.bool r5)] [1, 3, 33] 1 ⟨92, [(1, .ref 0 0), (3, .int .i64 p3), (33, .bool (!r5))], [.box (c_TRoute a0)]⟩ [decide (0 ≤ p3), decide (p3 < (a0.fPath.length : Int))] [⟨true, 40, [.int .i64 (a0.fPath.getD p3.toNat default), .int .i64 1, .int .i64 65535], .pure (.bool r5)⟩] c14 ⟨fun _ => ref15_within_ok (a0.fPath.getD p3.toNat default) 1 65535 r5 q12, trivial⟩ ?_
 refine then_n ?_
 refine cnd (!r5) (fun b16 => ?_) (fun b16 => ?_)
 have h17 := cond_t b16 h15
 refine awp_seq (rg0 [2] 0 ⟨92, [(2, .bool false)], []⟩ ?_)
 refine then_n (awp_ret (inb_r (then_r ?_)))
 obtain rfl := Option.some.inj h17
 exact round_r ⟨rfl, er0 (.bool false)⟩
 have h18 := cond_f b16 h15
 refine awp_skip (inb_n (then_n (rg0 [1, 3] 1 ⟨92, [(1, .ref 0 0), (3, .int .i64 (wr .i64 (p3 + 1)))], [.box (c_TRoute a0)]⟩ ?_)))
 obtain rfl := Option.some.inj h18
 exact round_n (le_rfl)
 have h11 := cond_f b9 h8
 refine awp_exit (then_e ?_)
 obtain rfl := Option.some.inj h11
 exact round_e ⟨rfl, kp [1]⟩
 intro e21 s22 o23
 rcases y6 with g7 | y8
 have h24 := elim_l h20
 obtain ⟨rfl, l26⟩ := o23
 refine inb_here ?_
 refine then_le (s' := ⟨92, [(1, .ref 0 0)], [.box (c_TRoute a0)]⟩) (l26) ?_
 refine awp_seq (awp_seq (rg0 [1, 35] 1 ⟨92, [(1, .ref 0 0), (35, .int .i64 a0.fProto)], [.box (c_TRoute a0)]⟩ ?_))
 refine then_n (awp_block (awp_seq (rg0 [1, 35, 36] 1 ⟨92, [(1, .ref 0 0), (35, .int .i64 a0.fProto), (36, .bool (a0.fProto == 1))], [.box (c_TRoute a0)]⟩ ?_)))
 refine then_n ?_
 refine cnd (a0.fProto == 1) (fun b27 => ?_) (fun b27 => ?_)
 have h28 := cond_t b27 h24
 refine awp_seq ?_
 obtain ⟨r9, q30, h31⟩ := bind_some h28
 obtain ⟨r10, q32, h33⟩ := bind_some h31
 refine rg [.pure (.bool r9), .pure (.bool r10)] [2] 0 ⟨92, [(2, .bool ((((((((a0.fClass == 0) && (a0.fAdmin == 0)) && (a0.fMetric == 0)) && (a0.fTag == 0)) && r9) && (!a0.fDiscard)) && ((a0.fHops.length : Int) == 1)) && r10))], []⟩ [] [⟨(((a0.fClass == 0) && (a0.fAdmin == 0)) && (a0.fMetric == 0)) && (a0.fTag == 0), 41, [.agg (c_TRoute a0), .bool false, .bool false, .bool false], .pure (.bool r9)⟩, ⟨((((((a0.fClass == 0) && (a0.fAdmin == 0)) && (a0.fMetric == 0)) && (a0.fTag == 0)) && r9) && (!a0.fDiscard)) && ((a0.fHops.length : Int) == 1), 42, [sL 2 c_THop a0.fHops, .bool true], .pure (.bool r10)⟩] nil_all ⟨fun hg => ref15_plain_ok a0 false false false r9 (gc_some q30 hg), fun hg => ref15_hops_ok a0.fHops true r10 (gc_some q32 hg), trivial⟩ ?_
 refine then_n (awp_ret (inb_r (then_r ?_)))
 obtain rfl := Option.some.inj h33
 exact er0 (.bool ((((((((a0.fClass == 0) && (a0.fAdmin == 0)) && (a0.fMetric == 0)) && (a0.fTag == 0)) && r9) && (!a0.fDiscard)) && ((a0.fHops.length : Int) == 1)) && r10))
 have h29 := cond_f b27 h24
 refine awp_seq (rg0 [1, 35, 76] 1 ⟨92, [(1, .ref 0 0), (35, .int .i64 a0.fProto), (76, .bool (a0.fProto == 2))], [.box (c_TRoute a0)]⟩ ?_)
 refine then_n ?_
 refine cnd (a0.fProto == 2) (fun b34 => ?_) (fun b34 => ?_)
 have h35 := cond_t b34 h29
 refine awp_seq ?_
 obtain ⟨r11, q37, h38⟩ := bind_some h35
 refine rg [.pure (.bool r11)] [2] 0 ⟨92, [(2, .bool r11)], []⟩ [] [⟨true, 43, [.agg (c_TRoute a0)], .pure (.bool r11)⟩] nil_all ⟨fun _ => ref15_validStatic_ok a0 r11 q37, trivial⟩ ?_
 refine then_n (awp_ret (inb_r (then_r ?_)))
 obtain rfl := Option.some.inj h38
 exact er0 (.bool r11)
 have h36 := cond_f b34 h29
 refine awp_seq (rg0 [1, 35, 80] 1 ⟨92, [(1, .ref 0 0), (35, .int .i64 a0.fProto), (80, .bool (a0.fProto == 3))], [.box (c_TRoute a0)]⟩ ?_)
 refine then_n ?_
 refine cnd (a0.fProto == 3) (fun b39 => ?_) (fun b39 => ?_)
 have h40 := cond_t b39 h36
 refine awp_seq ?_
 obtain ⟨r12, q42, h43⟩ := bind_some h40
 refine rg [.pure (.bool r12)] [2] 0 ⟨92, [(2, .bool r12)], []⟩ [] [⟨true, 44, [.agg (c_TRoute a0)], .pure (.bool r12)⟩] nil_all ⟨fun _ => ref15_validLinkState_ok a0 r12 q42, trivial⟩ ?_
 refine then_n (awp_ret (inb_r (then_r ?_)))
 obtain rfl := Option.some.inj h43
 exact er0 (.bool r12)
 have h41 := cond_f b39 h36
 refine awp_seq (rg0 [1, 35, 84] 1 ⟨92, [(1, .ref 0 0), (35, .int .i64 a0.fProto), (84, .bool (a0.fProto == 4))], [.box (c_TRoute a0)]⟩ ?_)
 refine then_n ?_
 refine cnd (a0.fProto == 4) (fun b44 => ?_) (fun b44 => ?_)
 have h45 := cond_t b44 h41
 refine awp_seq ?_
 obtain ⟨r13, q47, h48⟩ := bind_some h45
 refine rg [.pure (.bool r13)] [2] 0 ⟨92, [(2, .bool r13)], []⟩ [] [⟨true, 45, [.agg (c_TRoute a0)], .pure (.bool r13)⟩] nil_all ⟨fun _ => ref15_validDistance_ok a0 r13 q47, trivial⟩ ?_
 refine then_n (awp_ret (inb_r (then_r ?_)))
 obtain rfl := Option.some.inj h48
 exact er0 (.bool r13)
 have h46 := cond_f b44 h41
 refine awp_seq (rg0 [1, 88] 1 ⟨92, [(1, .ref 0 0), (88, .bool (a0.fProto == 5))], [.box (c_TRoute a0)]⟩ ?_)
 refine then_n ?_
 refine cnd (a0.fProto == 5) (fun b49 => ?_) (fun b49 => ?_)
 have h50 := cond_t b49 h46
 refine awp_seq ?_
 obtain ⟨r14, q52, h53⟩ := bind_some h50
 refine rg [.pure (.bool r14)] [2] 0 ⟨92, [(2, .bool r14)], []⟩ [] [⟨true, 46, [.agg (c_TRoute a0)], .pure (.bool r14)⟩] nil_all ⟨fun _ => ref15_validPath_ok a0 r14 q52, trivial⟩ ?_
 refine then_n (awp_ret (inb_r (then_r ?_)))
 obtain rfl := Option.some.inj h53
 exact er0 (.bool r14)
 have h51 := cond_f b49 h46
 refine awp_skip (inb_n (then_n (awp_seq (rg0 [2] 0 ⟨92, [(2, .bool false)], []⟩ ?_))))
 refine then_n (awp_ret ?_)
 obtain rfl := Option.some.inj h51
 exact er0 (.bool false)
 have h25 := elim_r h20
 obtain ⟨rfl, n54⟩ := o23
 refine inb_r (then_r ?_)
 obtain rfl := Option.some.inj h25
 exact n54
theorem law14_One_ok (a0 : List TRoute) (r : Bool) (h : M.law14_One a0 = some r) : Fn Try.prog 16 [sL 14 c_TRoute a0] (.pure (.bool r)) := by
 unfold M.law14_One at h
 refine fn_pure Try.func16 rfl (by kernel_rfl) ?_
 refine awp_seq (rg0 [0] 0 ⟨31, [(0, sL 14 c_TRoute a0)], []⟩ ?_)
 refine then_n (awp_seq (awp_seq ?_))
 obtain ⟨r1, q1, h2⟩ := bind_some h
 refine rg [.pure (.bool r1)] [0, 6] 0 ⟨31, [(0, sL 14 c_TRoute a0), (6, .bool (!r1))], []⟩ [] [⟨true, 12, [sL 14 c_TRoute a0], .pure (.bool r1)⟩] nil_all ⟨fun _ => law14_few_ok a0 r1 q1, trivial⟩ ?_
 refine then_n ?_
 refine cnd (!r1) (fun b3 => ?_) (fun b3 => ?_)
 have h4 := cond_t b3 h2
 refine awp_seq (rg0 [2] 0 ⟨31, [(2, .bool false)], []⟩ ?_)
 refine then_n (awp_ret (then_r ?_))
 obtain rfl := Option.some.inj h4
 exact er0 (.bool false)
 have h5 := cond_f b3 h2
 refine awp_skip (then_n (awp_seq (awp_seq (rg0 [0, 3] 0 ⟨31, [(0, sL 14 c_TRoute a0), (3, .int .i64 0)], []⟩ ?_))))
 refine then_n (awp_block ?_)
 obtain ⟨y5, q17, h18⟩ := bind_some h5
 refine awp_le (s' := ⟨31, [(0, sL 14 c_TRoute a0), (3, .int .i64 0)], []⟩) (le_rfl) ?_
 refine awp_mono (awp_loop (f := M.law14_One_l1 a0) (S := fun (p2 : Int) => ⟨31, [(0, sL 14 c_TRoute a0), (3, .int .i64 p2)], []⟩) (O := (Sum.elim (fun z => OutE 0 (fun z => ⟨31, [], []⟩) z) (fun z => OutR Try.prog Try.f16 (.bool z)))) ?_ (x := 0) (y := y5) (loopM_iter q17)) ?_
 intro p2 y3 h6
 unfold M.law14_One_l1 at h6
 refine awp_seq (awp_seq (rg0 [0, 3, 10] 0 ⟨31, [(0, sL 14 c_TRoute a0), (3, .int .i64 p2), (10, .bool (decide (p2 < (a0.length : Int))))], []⟩ ?_))
 refine then_n ?_
 refine cnd (decide (p2 < (a0.length : Int))) (fun b7 => ?_) (fun b7 => ?_)
 have h8 := cond_t b7 h6
 refine awp_skip (then_n (awp_seq (awp_block (awp_seq ?_))))
 obtain ⟨r4, q10, h11⟩ := bind_some h8
 obtain ⟨c12, h13⟩ := gd_some h11
 refine rg [.pure (.bool r4)] [0, 3, 30] 0 ⟨31, [(0, sL 14 c_TRoute a0), (3, .int .i64 p2), (30, .bool ((!r4) || (((a0.getD p2.toNat default).fProto) != ((a0.getD (0 : Int).toNat default).fProto))))], []⟩ [decide (0 ≤ p2), decide (p2 < (a0.length : Int)), guardB (!(!r4)) (decide (0 ≤ p2)), guardB (!(!r4)) (decide (p2 < (a0.length : Int))), guardB (!(!r4)) (decide (0 ≤ 0)), guardB (!(!r4)) (decide (0 < (a0.length : Int)))] [⟨true, 14, [.agg (c_TRoute (a0.getD p2.toNat default))], .pure (.bool r4)⟩] c12 ⟨fun _ => ref15_Valid_ok (a0.getD p2.toNat default) r4 q10, trivial⟩ ?_
 refine then_n ?_
 refine cnd ((!r4) || (((a0.getD p2.toNat default).fProto) != ((a0.getD (0 : Int).toNat default).fProto))) (fun b14 => ?_) (fun b14 => ?_)
 have h15 := cond_t b14 h13
 refine awp_seq (rg0 [2] 0 ⟨31, [(2, .bool false)], []⟩ ?_)
 refine then_n (awp_ret (inb_r (then_r ?_)))
 obtain rfl := Option.some.inj h15
 exact round_r ⟨rfl, er0 (.bool false)⟩
 have h16 := cond_f b14 h13
 refine awp_skip (inb_n (then_n (rg0 [0, 3] 0 ⟨31, [(0, sL 14 c_TRoute a0), (3, .int .i64 (wr .i64 (p2 + 1)))], []⟩ ?_)))
 obtain rfl := Option.some.inj h16
 exact round_n (le_rfl)
 have h9 := cond_f b7 h6
 refine awp_exit (then_e ?_)
 obtain rfl := Option.some.inj h9
 exact round_e ⟨rfl, kp []⟩
 intro e19 s20 o21
 rcases y5 with g6 | y7
 have h22 := elim_l h18
 obtain ⟨rfl, l24⟩ := o21
 refine inb_here ?_
 refine then_le (s' := ⟨31, [], []⟩) (l24) ?_
 refine awp_seq (rg0 [2] 0 ⟨31, [(2, .bool true)], []⟩ ?_)
 refine then_n (awp_ret ?_)
 obtain rfl := Option.some.inj h22
 exact er0 (.bool true)
 have h23 := elim_r h18
 obtain ⟨rfl, n25⟩ := o21
 refine inb_r (then_r ?_)
 obtain rfl := Option.some.inj h23
 exact n25
theorem ref4_Compare_ok (a0 : TPrefix) (a1 : TPrefix) (r : Int) (h : M.ref4_Compare a0 a1 = some r) : Fn Try.prog 57 [.agg (c_TPrefix a0), .agg (c_TPrefix a1)] (.pure (.int .i64 r)) := by
 unfold M.ref4_Compare at h
 refine fn_pure Try.func57 rfl (by kernel_rfl) ?_
 refine awp_seq (rg0 [2, 3] 2 ⟨27, [(2, .ref 0 0), (3, .ref 1 0)], [.box (c_TPrefix a0), .box (c_TPrefix a1)]⟩ ?_)
 refine then_n (awp_seq (awp_seq (rg0 [2, 3, 23] 2 ⟨27, [(2, .ref 0 0), (3, .ref 1 0), (23, .bool ((decide (a0.fAddr < a1.fAddr)) || ((a0.fAddr == a1.fAddr) && (decide (a0.fLen < a1.fLen)))))], [.box (c_TPrefix a0), .box (c_TPrefix a1)]⟩ ?_)))
 refine then_n ?_
 refine cnd ((decide (a0.fAddr < a1.fAddr)) || ((a0.fAddr == a1.fAddr) && (decide (a0.fLen < a1.fLen)))) (fun b1 => ?_) (fun b1 => ?_)
 have h2 := cond_t b1 h
 refine awp_seq (rg0 [4] 0 ⟨27, [(4, .int .i64 (-1))], []⟩ ?_)
 refine then_n (awp_ret (then_r ?_))
 obtain rfl := Option.some.inj h2
 exact er0 (.int .i64 (-1))
 have h3 := cond_f b1 h
 refine awp_skip (then_n (awp_seq (awp_seq (rg0 [26] 0 ⟨27, [(26, .bool ((a0.fAddr == a1.fAddr) && ((a0.fLen == a1.fLen) && true)))], []⟩ ?_))))
 refine then_n ?_
 refine cnd ((a0.fAddr == a1.fAddr) && ((a0.fLen == a1.fLen) && true)) (fun b4 => ?_) (fun b4 => ?_)
 have h5 := cond_t b4 h3
 refine awp_seq (rg0 [4] 0 ⟨27, [(4, .int .i64 0)], []⟩ ?_)
 refine then_n (awp_ret (then_r ?_))
 obtain rfl := Option.some.inj h5
 exact er0 (.int .i64 0)
 have h6 := cond_f b4 h3
 refine awp_skip (then_n (awp_seq (rg0 [4] 0 ⟨27, [(4, .int .i64 1)], []⟩ ?_)))
 refine then_n (awp_ret ?_)
 obtain rfl := Option.some.inj h6
 exact er0 (.int .i64 1)
theorem ref15_prefixes_ok (a0 : List TRoute) (r : (List TPrefix)) (h : M.ref15_prefixes a0 = some r) : Fn Try.prog 63 [sL 14 c_TRoute a0] (.pure (sL 2 c_TPrefix r)) := by
 unfold M.ref15_prefixes at h
 refine fn_pure Try.func63 rfl (by kernel_rfl) ?_
 refine awp_seq (rg0 [0] 0 ⟨64, [(0, sL 14 c_TRoute a0)], []⟩ ?_)
 refine then_n (awp_seq (rg0 [0, 3] 0 ⟨64, [(0, sL 14 c_TRoute a0), (3, .sl true 2 0 (fun _ => []))], []⟩ ?_))
 refine then_n (awp_seq (awp_seq (rg0 [0, 3, 4] 0 ⟨64, [(0, sL 14 c_TRoute a0), (3, .sl true 2 0 (fun _ => [])), (4, .int .i64 0)], []⟩ ?_)))
 refine then_n (awp_block ?_)
 refine awp_le (s' := ⟨64, [(0, sL 14 c_TRoute a0), (3, .sl true 2 0 (fun _ => [])), (4, .int .i64 0)], []⟩) (le_rfl) ?_
 refine awp_le (s' := ⟨64, [(0, sL 14 c_TRoute a0), (3, .asl 0 0 (([] : List TPrefix).length)), (4, .int .i64 0)], [aL 2 c_TPrefix ([] : List TPrefix)]⟩) (Le.trans (s' := ⟨64, (3, .asl 0 0 0) :: [(0, sL 14 c_TRoute a0), (3, .sl true 2 0 (fun _ => [])), (4, .int .i64 0)], [] ++ [.arr 2 0 (fun i => c_TPrefix (([] : List TPrefix).getD i default))]⟩) (le_thaw (wd := 2) (f := fun _ => []) 3 (by kernel_rfl) _ _) (kp [0, 3, 4])) ?_
 obtain ⟨y9, q31, h32⟩ := bind_some h
 refine awp_le (s' := ⟨64, [(0, sL 14 c_TRoute a0), (3, .asl 0 0 (([] : List TPrefix).length)), (4, .int .i64 0)], [aL 2 c_TPrefix ([] : List TPrefix)]⟩) (le_rfl) ?_
 refine awp_mono (awp_loop (f := M.ref15_prefixes_l1 a0) (S := fun (p2 : (List TPrefix) × Int) => ⟨64, [(0, sL 14 c_TRoute a0), (3, .asl 0 0 p2.1.length), (4, .int .i64 p2.2)], [aL 2 c_TPrefix p2.1]⟩) (O := (fun z => OutE 0 (fun z => ⟨64, [(3, .asl 0 0 z.length)], [aL 2 c_TPrefix z]⟩) z)) ?_ (x := (([] : List TPrefix), 0)) (y := y9) (loopM_iter q31)) ?_
 intro p2 y3 h4
 unfold M.ref15_prefixes_l1 at h4
 refine awp_seq (awp_seq (rg0 [0, 3, 4, 9] 1 ⟨64, [(0, sL 14 c_TRoute a0), (3, .asl 0 0 p2.1.length), (4, .int .i64 p2.2), (9, .bool (decide (p2.2 < (a0.length : Int))))], [aL 2 c_TPrefix p2.1]⟩ ?_))
 refine then_n ?_
 refine cnd (decide (p2.2 < (a0.length : Int))) (fun b5 => ?_) (fun b5 => ?_)
 have h6 := cond_t b5 h4
 refine awp_skip (then_n ?_)
 refine awp_join (fun (p4 : (List TPrefix)) => ⟨64, [(0, sL 14 c_TRoute a0), (3, .asl 0 0 p4.length), (4, .int .i64 p2.2)], [aL 2 c_TPrefix p4]⟩) (fun p4 => M.ref15_prefixes_k1 p2 p4 = some y3) ?_ ?_
 intro p4 h9
 unfold M.ref15_prefixes_k1 at h9
 refine rg0 [0, 3, 4] 1 ⟨64, [(0, sL 14 c_TRoute a0), (3, .asl 0 0 p4.length), (4, .int .i64 (wr .i64 (p2.2 + 1)))], [aL 2 c_TPrefix p4]⟩ ?_
 obtain rfl := Option.some.inj h9
 exact round_n (le_rfl)
 intro k8
 refine awp_block (awp_seq (rg0 [0, 3, 4, 5] 1 ⟨64, [(0, sL 14 c_TRoute a0), (3, .asl 0 0 p2.1.length), (4, .int .i64 p2.2), (5, .int .i64 0)], [aL 2 c_TPrefix p2.1]⟩ ?_))
 refine then_n (awp_seq (awp_block ?_))
 obtain ⟨y8, q18, h19⟩ := bind_some h6
 refine awp_le (s' := ⟨64, [(0, sL 14 c_TRoute a0), (3, .asl 0 0 p2.1.length), (4, .int .i64 p2.2), (5, .int .i64 0)], [aL 2 c_TPrefix p2.1]⟩) (le_rfl) ?_
 refine awp_mono (awp_loop (f := M.ref15_prefixes_l2 a0 p2) (S := fun (p5 : Int) => ⟨64, [(0, sL 14 c_TRoute a0), (3, .asl 0 0 p2.1.length), (4, .int .i64 p2.2), (5, .int .i64 p5)], [aL 2 c_TPrefix p2.1]⟩) (O := (fun z => OutE 2 (fun z => ⟨64, [(0, sL 14 c_TRoute a0), (3, .asl 0 0 p2.1.length), (4, .int .i64 p2.2), (5, .int .i64 z)], [aL 2 c_TPrefix p2.1]⟩) z)) ?_ (x := 0) (y := y8) (loopM_iter q18)) ?_
 intro p5 y6 h10
 unfold M.ref15_prefixes_l2 at h10
 refine awp_seq (awp_seq ?_)
 obtain ⟨r7, q11, h12⟩ := bind_some h10
 obtain ⟨c13, h14⟩ := gd_some h12
 refine rg [.pure (.int .i64 r7)] [0, 3, 4, 5, 28] 1 ⟨64, [(0, sL 14 c_TRoute a0), (3, .asl 0 0 p2.1.length), (4, .int .i64 p2.2), (5, .int .i64 p5), (28, .bool ((decide (p5 < (p2.1.length : Int))) && (decide (r7 < 0))))], [aL 2 c_TPrefix p2.1]⟩ [guardB (decide (p5 < (p2.1.length : Int))) (decide (0 ≤ p5)), guardB (decide (p5 < (p2.1.length : Int))) (decide (p5 < (p2.1.length : Int))), guardB (decide (p5 < (p2.1.length : Int))) (decide (0 ≤ p2.2)), guardB (decide (p5 < (p2.1.length : Int))) (decide (p2.2 < (a0.length : Int)))] [⟨decide (p5 < (p2.1.length : Int)), 57, [.agg (c_TPrefix (p2.1.getD (0 + p5.toNat) default)), .agg (c_TPrefix ((a0.getD p2.2.toNat default).fPrefix))], .pure (.int .i64 r7)⟩] c13 ⟨fun hg => ref4_Compare_ok (p2.1.getD (0 + p5.toNat) default) ((a0.getD p2.2.toNat default).fPrefix) r7 (gc_some q11 hg), trivial⟩ ?_
 refine then_n ?_
 refine cnd ((decide (p5 < (p2.1.length : Int))) && (decide (r7 < 0))) (fun b15 => ?_) (fun b15 => ?_)
 have h16 := cond_t b15 h14
 refine awp_skip (then_n (awp_block (rg0 [0, 3, 4, 5] 1 ⟨64, [(0, sL 14 c_TRoute a0), (3, .asl 0 0 p2.1.length), (4, .int .i64 p2.2), (5, .int .i64 (wr .i64 (p5 + 1)))], [aL 2 c_TPrefix p2.1]⟩ ?_)))
 refine inb_n ?_
 obtain rfl := Option.some.inj h16
 exact round_n (le_rfl)
 have h17 := cond_f b15 h14
 refine awp_exit (then_e ?_)
 obtain rfl := Option.some.inj h17
 exact round_e ⟨rfl, kp [0, 3, 4, 5]⟩
 intro e20 s21 o22
 obtain ⟨rfl, l23⟩ := o22
 refine inb_here ?_
 refine then_le (s' := ⟨64, [(0, sL 14 c_TRoute a0), (3, .asl 0 0 p2.1.length), (4, .int .i64 p2.2), (5, .int .i64 y8)], [aL 2 c_TPrefix p2.1]⟩) (l23) ?_
 refine awp_seq ?_
 obtain ⟨c24, h25⟩ := gd_some h19
 refine rgc [0, 3, 4, 5, 46] 1 ⟨64, [(0, sL 14 c_TRoute a0), (3, .asl 0 0 p2.1.length), (4, .int .i64 p2.2), (5, .int .i64 y8), (46, .bool ((y8 == (p2.1.length : Int)) || (!((((p2.1.getD (0 + y8.toNat) default).fAddr) == (((a0.getD p2.2.toNat default).fPrefix).fAddr)) && ((((p2.1.getD (0 + y8.toNat) default).fLen) == (((a0.getD p2.2.toNat default).fPrefix).fLen)) && true)))))], [aL 2 c_TPrefix p2.1]⟩ [guardB (!(y8 == (p2.1.length : Int))) (decide (0 ≤ y8)), guardB (!(y8 == (p2.1.length : Int))) (decide (y8 < (p2.1.length : Int))), guardB (!(y8 == (p2.1.length : Int))) (decide (0 ≤ p2.2)), guardB (!(y8 == (p2.1.length : Int))) (decide (p2.2 < (a0.length : Int)))] c24 ?_
 refine then_n ?_
 refine cnd ((y8 == (p2.1.length : Int)) || (!((((p2.1.getD (0 + y8.toNat) default).fAddr) == (((a0.getD p2.2.toNat default).fPrefix).fAddr)) && ((((p2.1.getD (0 + y8.toNat) default).fLen) == (((a0.getD p2.2.toNat default).fPrefix).fLen)) && true)))) (fun b26 => ?_) (fun b26 => ?_)
 have h27 := cond_t b26 h25
 obtain ⟨c29, h30⟩ := gd_some h27
 refine rga [4, 11, 15] [] [0, 3, 4] 2 ⟨64, [(0, sL 14 c_TRoute a0), (3, .asl 1 0 (((0 + (y8.toNat - 0)) + 1) + (p2.1.length - y8.toNat))), (4, .int .i64 p2.2)], [aL 2 c_TPrefix p2.1, .arr 2 (((0 + (y8.toNat - 0)) + 1) + (p2.1.length - y8.toNat)) (app (app (app (fun i => List.take 2 (List.drop (i * 2) [])) 0 (fun i => c_TPrefix (p2.1.getD ((0 + 0) + i) default))) (0 + (y8.toNat - 0)) (fun i => List.take 2 (List.drop (i * 2) [.int .u32 (((a0.getD p2.2.toNat default).fPrefix).fAddr), .int .i64 (((a0.getD p2.2.toNat default).fPrefix).fLen)]))) ((0 + (y8.toNat - 0)) + 1) (fun i => c_TPrefix (p2.1.getD ((0 + y8.toNat) + i) default)))]⟩ [decide (0 ≤ y8), decide (y8 ≤ (p2.1.length : Int)), decide (0 = 0) || decide (0 < (y8.toNat - 0)), decide ((0 + (y8.toNat - 0)) * 16 ≤ 140737488355328), decide (0 ≤ p2.2), decide (p2.2 < (a0.length : Int)), decide (((0 + (y8.toNat - 0)) + 1) * 16 ≤ 140737488355328), decide (0 ≤ y8), decide (y8 ≤ (p2.1.length : Int)), decide ((((0 + (y8.toNat - 0)) + 1) + (p2.1.length - y8.toNat)) * 16 ≤ 140737488355328)] [] c29 trivial ?_
 refine inb_n ?_
 exact then_le (Le.trans (le_mv (s := ⟨64, [(0, sL 14 c_TRoute a0), (3, .asl 1 0 (((0 + (y8.toNat - 0)) + 1) + (p2.1.length - y8.toNat))), (4, .int .i64 p2.2)], [aL 2 c_TPrefix p2.1, .arr 2 (((0 + (y8.toNat - 0)) + 1) + (p2.1.length - y8.toNat)) (app (app (app (fun i => List.take 2 (List.drop (i * 2) [])) 0 (fun i => c_TPrefix (p2.1.getD ((0 + 0) + i) default))) (0 + (y8.toNat - 0)) (fun i => List.take 2 (List.drop (i * 2) [.int .u32 (((a0.getD p2.2.toNat default).fPrefix).fAddr), .int .i64 (((a0.getD p2.2.toNat default).fPrefix).fLen)]))) ((0 + (y8.toNat - 0)) + 1) (fun i => c_TPrefix (p2.1.getD ((0 + y8.toNat) + i) default)))]⟩) (s' := ⟨64, [(0, sL 14 c_TRoute a0), (3, .asl 0 0 (((0 + (y8.toNat - 0)) + 1) + (p2.1.length - y8.toNat))), (4, .int .i64 p2.2)], [.arr 2 (((0 + (y8.toNat - 0)) + 1) + (p2.1.length - y8.toNat)) (app (app (app (fun i => List.take 2 (List.drop (i * 2) [])) 0 (fun i => c_TPrefix (p2.1.getD ((0 + 0) + i) default))) (0 + (y8.toNat - 0)) (fun i => List.take 2 (List.drop (i * 2) [.int .u32 (((a0.getD p2.2.toNat default).fPrefix).fAddr), .int .i64 (((a0.getD p2.2.toNat default).fPrefix).fLen)]))) ((0 + (y8.toNat - 0)) + 1) (fun i => c_TPrefix (p2.1.getD ((0 + y8.toNat) + i) default)))]⟩) 0 1 (by kernel_rfl)) (le_sub (.cons Sub.rfl (.cons (asl_len (len_any (len_any ((Nat.zero_add _).trans (len_cut _ _ _ (cut_hi (c29 _ (List.mem_cons_of_mem _ (List.mem_cons_of_mem _ (List.mem_cons_of_mem _ (List.mem_cons_of_mem _ (List.mem_cons_of_mem _ (List.mem_cons_of_mem _ (List.mem_cons_of_mem _ (List.mem_cons_of_mem _ List.mem_cons_self)))))))))))) rfl) (len_cut _ _ _ (Nat.le_refl _)))) (.cons Sub.rfl .nil))) (.cons (.arr (len_any (len_any ((Nat.zero_add _).trans (len_cut _ _ _ (cut_hi (c29 _ (List.mem_cons_of_mem _ (List.mem_cons_of_mem _ (List.mem_cons_of_mem _ (List.mem_cons_of_mem _ (List.mem_cons_of_mem _ (List.mem_cons_of_mem _ (List.mem_cons_of_mem _ (List.mem_cons_of_mem _ List.mem_cons_self)))))))))))) rfl) (len_cut _ _ _ (Nat.le_refl _))) (app_any c_TPrefix (f := app (app (fun i => List.take 2 (List.drop (i * 2) [])) 0 (fun i => c_TPrefix (p2.1.getD ((0 + 0) + i) default))) (0 + (y8.toNat - 0)) (fun i => List.take 2 (List.drop (i * 2) [.int .u32 (((a0.getD p2.2.toNat default).fPrefix).fAddr), .int .i64 (((a0.getD p2.2.toNat default).fPrefix).fLen)]))) (g := fun i => c_TPrefix (p2.1.getD ((0 + y8.toNat) + i) default)) (len_any ((Nat.zero_add _).trans (len_cut _ _ _ (cut_hi (c29 _ (List.mem_cons_of_mem _ (List.mem_cons_of_mem _ (List.mem_cons_of_mem _ (List.mem_cons_of_mem _ (List.mem_cons_of_mem _ (List.mem_cons_of_mem _ (List.mem_cons_of_mem _ (List.mem_cons_of_mem _ List.mem_cons_self)))))))))))) rfl) (app_any c_TPrefix (f := app (fun i => List.take 2 (List.drop (i * 2) [])) 0 (fun i => c_TPrefix (p2.1.getD ((0 + 0) + i) default))) (g := fun i => List.take 2 (List.drop (i * 2) [.int .u32 (((a0.getD p2.2.toNat default).fPrefix).fAddr), .int .i64 (((a0.getD p2.2.toNat default).fPrefix).fLen)])) ((Nat.zero_add _).trans (len_cut _ _ _ (cut_hi (c29 _ (List.mem_cons_of_mem _ (List.mem_cons_of_mem _ (List.mem_cons_of_mem _ (List.mem_cons_of_mem _ (List.mem_cons_of_mem _ (List.mem_cons_of_mem _ (List.mem_cons_of_mem _ (List.mem_cons_of_mem _ List.mem_cons_self)))))))))))) (app_nilc c_TPrefix (acut_ext _ _ _ _)) rfl (one_ext c_TPrefix (x := (a0.getD p2.2.toNat default).fPrefix) rfl)) (len_cut _ _ _ (Nat.le_refl _)) (acut_ext _ _ _ _))) .nil))) (k8 (((((p2.1.drop 0).take (y8.toNat - 0)) : List TPrefix) ++ ([(a0.getD p2.2.toNat default).fPrefix])) ++ ((p2.1.drop y8.toNat).take (p2.1.length - y8.toNat))) h30)
 have h28 := cond_f b26 h25
 refine awp_skip (inb_n ?_)
 exact then_le (kp [0, 3, 4]) (k8 p2.1 h28)
 have h7 := cond_f b5 h4
 refine awp_exit (then_e ?_)
 obtain rfl := Option.some.inj h7
 exact round_e ⟨rfl, kp [3]⟩
 intro e33 s34 o35
 obtain ⟨rfl, l36⟩ := o35
 refine inb_here ?_
 refine then_le (s' := ⟨64, [(3, .asl 0 0 y9.length)], [aL 2 c_TPrefix y9]⟩) (l36) ?_
 refine awp_seq (rg0 [2] 1 ⟨64, [(2, .asl 0 0 y9.length)], [aL 2 c_TPrefix y9]⟩ ?_)
 refine then_n (awp_ret ?_)
 obtain rfl := Option.some.inj h32
 exact er (.sl false 2 y9.length (fun i => c_TPrefix (y9.getD (0 + i) default))) sub_asl
theorem ref15_rank_ok (a0 : TRoute) (r : Arr7Int) (h : M.ref15_rank a0 = some r) : Fn Try.prog 51 [.agg (c_TRoute a0)] (.pure (.agg (c_Arr7Int r))) := by
 unfold M.ref15_rank at h
 refine fn_pure Try.func51 rfl (by kernel_rfl) ?_
 refine awp_seq (rg0 [1, 2] 2 ⟨47, [(1, .ref 0 0), (2, .ref 1 0)], [.box (c_TRoute a0), .box [.int .i64 0, .int .i64 0, .int .i64 0, .int .i64 0, .int .i64 0, .int .i64 0, .int .i64 0]]⟩ ?_)
 refine then_n (awp_seq (awp_seq (rg0 [1, 2, 4] 2 ⟨47, [(1, .ref 0 0), (2, .ref 1 0), (4, .int .i64 a0.fProto)], [.box (c_TRoute a0), .box [.int .i64 0, .int .i64 0, .int .i64 0, .int .i64 0, .int .i64 0, .int .i64 0, .int .i64 0]]⟩ ?_)))
 refine then_n (awp_block (awp_seq (rg0 [1, 2, 4, 5] 2 ⟨47, [(1, .ref 0 0), (2, .ref 1 0), (4, .int .i64 a0.fProto), (5, .bool (a0.fProto == 3))], [.box (c_TRoute a0), .box [.int .i64 0, .int .i64 0, .int .i64 0, .int .i64 0, .int .i64 0, .int .i64 0, .int .i64 0]]⟩ ?_)))
 refine then_n ?_
 refine cnd (a0.fProto == 3) (fun b1 => ?_) (fun b1 => ?_)
 have h2 := cond_t b1 h
 refine awp_seq (rg0 [2] 2 ⟨47, [(2, .ref 1 0)], [.box (c_TRoute a0), .box [.int .i64 a0.fClass, .int .i64 a0.fMetric, .int .i64 a0.fInner, .int .i64 a0.fTag, .int .i64 0, .int .i64 0, .int .i64 0]]⟩ ?_)
 refine then_n (awp_ret (inb_r (then_r ?_)))
 obtain rfl := Option.some.inj h2
 exact er0 (.agg [.int .i64 a0.fClass, .int .i64 a0.fMetric, .int .i64 a0.fInner, .int .i64 a0.fTag, .int .i64 0, .int .i64 0, .int .i64 0])
 have h3 := cond_f b1 h
 refine awp_seq (rg0 [1, 2, 4, 16] 2 ⟨47, [(1, .ref 0 0), (2, .ref 1 0), (4, .int .i64 a0.fProto), (16, .bool (a0.fProto == 4))], [.box (c_TRoute a0), .box [.int .i64 0, .int .i64 0, .int .i64 0, .int .i64 0, .int .i64 0, .int .i64 0, .int .i64 0]]⟩ ?_)
 refine then_n ?_
 refine cnd (a0.fProto == 4) (fun b4 => ?_) (fun b4 => ?_)
 have h5 := cond_t b4 h3
 refine awp_seq (rg0 [2] 2 ⟨47, [(2, .ref 1 0)], [.box (c_TRoute a0), .box [.int .i64 a0.fMetric, .int .i64 a0.fClass, .int .i64 a0.fTag, .int .i64 0, .int .i64 0, .int .i64 0, .int .i64 0]]⟩ ?_)
 refine then_n (awp_ret (inb_r (then_r ?_)))
 obtain rfl := Option.some.inj h5
 exact er0 (.agg [.int .i64 a0.fMetric, .int .i64 a0.fClass, .int .i64 a0.fTag, .int .i64 0, .int .i64 0, .int .i64 0, .int .i64 0])
 have h6 := cond_f b4 h3
 refine awp_seq (rg0 [1, 2, 25] 2 ⟨47, [(1, .ref 0 0), (2, .ref 1 0), (25, .bool (a0.fProto == 5))], [.box (c_TRoute a0), .box [.int .i64 0, .int .i64 0, .int .i64 0, .int .i64 0, .int .i64 0, .int .i64 0, .int .i64 0]]⟩ ?_)
 refine then_n ?_
 refine cnd (a0.fProto == 5) (fun b7 => ?_) (fun b7 => ?_)
 have h8 := cond_t b7 h6
 refine awp_seq (rg0 [2] 2 ⟨47, [(2, .ref 1 0)], [.box (c_TRoute a0), .box [.int .i64 (if 3 < a0.fClass then 3 else a0.fClass), .int .i64 (wr .i64 (1000000 - a0.fPref)), .int .i64 (a0.fPath.length : Int), .int .i64 a0.fMetric, .int .i64 a0.fClass, .int .i64 (wr .i64 a0.fFrom), .int .i64 0]]⟩ ?_)
 refine then_n (awp_ret (inb_r (then_r ?_)))
 obtain rfl := Option.some.inj h8
 exact er0 (.agg [.int .i64 (if 3 < a0.fClass then 3 else a0.fClass), .int .i64 (wr .i64 (1000000 - a0.fPref)), .int .i64 (a0.fPath.length : Int), .int .i64 a0.fMetric, .int .i64 a0.fClass, .int .i64 (wr .i64 a0.fFrom), .int .i64 0])
 have h9 := cond_f b7 h6
 refine awp_skip (inb_n (then_n (awp_seq (rg0 [2] 2 ⟨47, [(2, .ref 1 0)], [.box (c_TRoute a0), .box [.int .i64 a0.fAdmin, .int .i64 0, .int .i64 0, .int .i64 0, .int .i64 0, .int .i64 0, .int .i64 0]]⟩ ?_))))
 refine then_n (awp_ret ?_)
 obtain rfl := Option.some.inj h9
 exact er0 (.agg [.int .i64 a0.fAdmin, .int .i64 0, .int .i64 0, .int .i64 0, .int .i64 0, .int .i64 0, .int .i64 0])
theorem ref15_Prefer_ok (a0 : TRoute) (a1 : TRoute) (r : Int) (h : M.ref15_Prefer a0 a1 = some r) : Fn Try.prog 18 [.agg (c_TRoute a0), .agg (c_TRoute a1)] (.pure (.int .i64 r)) := by
 unfold M.ref15_Prefer at h
 refine fn_pure Try.func18 rfl (by kernel_rfl) ?_
 refine awp_seq (rg0 [2, 3] 2 ⟨30, [(2, .ref 0 0), (3, .ref 1 0)], [.box (c_TRoute a0), .box (c_TRoute a1)]⟩ ?_)
 refine then_n (awp_seq ?_)
 obtain ⟨r1, q1, h2⟩ := bind_some h
 obtain ⟨r2, q3, h4⟩ := bind_some h2
 refine rgs 4 6 [.pure (.agg (c_Arr7Int r1)), .pure (.agg (c_Arr7Int r2))] [5, 6] 4 ⟨30, [(5, .ref 2 0), (6, .ref 3 0)], [.box (c_TRoute a0), .box (c_TRoute a1), .box (c_Arr7Int r1), .box (c_Arr7Int r2)]⟩ [] [⟨true, 51, [.agg (c_TRoute a0)], .pure (.agg (c_Arr7Int r1))⟩, ⟨true, 51, [.agg (c_TRoute a1)], .pure (.agg (c_Arr7Int r2))⟩] nil_all ⟨fun _ => ref15_rank_ok a0 r1 q1, fun _ => ref15_rank_ok a1 r2 q3, trivial⟩ ?_
 refine then_n (awp_seq (awp_seq (rg0 [5, 6, 7] 4 ⟨30, [(5, .ref 2 0), (6, .ref 3 0), (7, .int .i64 0)], [.box (c_TRoute a0), .box (c_TRoute a1), .box (c_Arr7Int r1), .box (c_Arr7Int r2)]⟩ ?_)))
 refine then_n (awp_block (awp_unroll (lwp_round (awp_seq (awp_seq (rg0 [5, 6, 7, 13] 4 ⟨30, [(5, .ref 2 0), (6, .ref 3 0), (7, .int .i64 0), (13, .bool true)], [.box (c_TRoute a0), .box (c_TRoute a1), .box (c_Arr7Int r1), .box (c_Arr7Int r2)]⟩ ?_))))))
 refine then_n ?_
 refine cnd true (fun _ => ?_) (fun b5 => Bool.noConfusion b5)
 refine awp_skip (then_n (awp_seq (awp_block (awp_seq (awp_seq ?_)))))
 obtain ⟨c6, h7⟩ := gd_some h4
 refine rgc [5, 6, 7, 22] 4 ⟨30, [(5, .ref 2 0), (6, .ref 3 0), (7, .int .i64 0), (22, .bool (decide (r1.a0 < r2.a0)))], [.box (c_TRoute a0), .box (c_TRoute a1), .box (c_Arr7Int r1), .box (c_Arr7Int r2)]⟩ [true, true, true, true] c6 ?_
 refine then_n ?_
 refine cnd (decide (r1.a0 < r2.a0)) (fun b8 => ?_) (fun b8 => ?_)
 have h9 := cond_t b8 h7
 refine awp_seq (rg0 [4] 0 ⟨30, [(4, .int .i64 (-1))], []⟩ ?_)
 refine then_n (awp_ret (then_r (inb_r (then_r (thenl_r (inb_r (then_r ?_)))))))
 obtain rfl := Option.some.inj h9
 exact er0 (.int .i64 (-1))
 have h10 := cond_f b8 h7
 refine awp_skip (then_n (awp_seq ?_))
 obtain ⟨c11, h12⟩ := gd_some h10
 refine rgc [5, 6, 7, 29] 4 ⟨30, [(5, .ref 2 0), (6, .ref 3 0), (7, .int .i64 0), (29, .bool (decide (r1.a0 > r2.a0)))], [.box (c_TRoute a0), .box (c_TRoute a1), .box (c_Arr7Int r1), .box (c_Arr7Int r2)]⟩ [true, true, true, true] c11 ?_
 refine then_n ?_
 refine cnd (decide (r1.a0 > r2.a0)) (fun b13 => ?_) (fun b13 => ?_)
 have h14 := cond_t b13 h12
 refine awp_seq (rg0 [4] 0 ⟨30, [(4, .int .i64 1)], []⟩ ?_)
 refine then_n (awp_ret (inb_r (then_r (thenl_r (inb_r (then_r ?_))))))
 obtain rfl := Option.some.inj h14
 exact er0 (.int .i64 1)
 have h15 := cond_f b13 h12
 refine awp_skip (inb_n (then_n (rg0 [5, 6, 7] 4 ⟨30, [(5, .ref 2 0), (6, .ref 3 0), (7, .int .i64 1)], [.box (c_TRoute a0), .box (c_TRoute a1), .box (c_Arr7Int r1), .box (c_Arr7Int r2)]⟩ ?_)))
 refine thenl_n (lwp_round (awp_seq (awp_seq (rg0 [5, 6, 7, 13] 4 ⟨30, [(5, .ref 2 0), (6, .ref 3 0), (7, .int .i64 1), (13, .bool true)], [.box (c_TRoute a0), .box (c_TRoute a1), .box (c_Arr7Int r1), .box (c_Arr7Int r2)]⟩ ?_))))
 refine then_n ?_
 refine cnd true (fun _ => ?_) (fun b16 => Bool.noConfusion b16)
 refine awp_skip (then_n (awp_seq (awp_block (awp_seq (awp_seq ?_)))))
 obtain ⟨c17, h18⟩ := gd_some h15
 refine rgc [5, 6, 7, 22] 4 ⟨30, [(5, .ref 2 0), (6, .ref 3 0), (7, .int .i64 1), (22, .bool (decide (r1.a1 < r2.a1)))], [.box (c_TRoute a0), .box (c_TRoute a1), .box (c_Arr7Int r1), .box (c_Arr7Int r2)]⟩ [true, true, true, true] c17 ?_
 refine then_n ?_
 refine cnd (decide (r1.a1 < r2.a1)) (fun b19 => ?_) (fun b19 => ?_)
 have h20 := cond_t b19 h18
 refine awp_seq (rg0 [4] 0 ⟨30, [(4, .int .i64 (-1))], []⟩ ?_)
 refine then_n (awp_ret (then_r (inb_r (then_r (thenl_r (inb_r (then_r ?_)))))))
 obtain rfl := Option.some.inj h20
 exact er0 (.int .i64 (-1))
 have h21 := cond_f b19 h18
 refine awp_skip (then_n (awp_seq ?_))
 obtain ⟨c22, h23⟩ := gd_some h21
 refine rgc [5, 6, 7, 29] 4 ⟨30, [(5, .ref 2 0), (6, .ref 3 0), (7, .int .i64 1), (29, .bool (decide (r1.a1 > r2.a1)))], [.box (c_TRoute a0), .box (c_TRoute a1), .box (c_Arr7Int r1), .box (c_Arr7Int r2)]⟩ [true, true, true, true] c22 ?_
 refine then_n ?_
 refine cnd (decide (r1.a1 > r2.a1)) (fun b24 => ?_) (fun b24 => ?_)
 have h25 := cond_t b24 h23
 refine awp_seq (rg0 [4] 0 ⟨30, [(4, .int .i64 1)], []⟩ ?_)
 refine then_n (awp_ret (inb_r (then_r (thenl_r (inb_r (then_r ?_))))))
 obtain rfl := Option.some.inj h25
 exact er0 (.int .i64 1)
 have h26 := cond_f b24 h23
 refine awp_skip (inb_n (then_n (rg0 [5, 6, 7] 4 ⟨30, [(5, .ref 2 0), (6, .ref 3 0), (7, .int .i64 2)], [.box (c_TRoute a0), .box (c_TRoute a1), .box (c_Arr7Int r1), .box (c_Arr7Int r2)]⟩ ?_)))
 refine thenl_n (lwp_round (awp_seq (awp_seq (rg0 [5, 6, 7, 13] 4 ⟨30, [(5, .ref 2 0), (6, .ref 3 0), (7, .int .i64 2), (13, .bool true)], [.box (c_TRoute a0), .box (c_TRoute a1), .box (c_Arr7Int r1), .box (c_Arr7Int r2)]⟩ ?_))))
 refine then_n ?_
 refine cnd true (fun _ => ?_) (fun b27 => Bool.noConfusion b27)
 refine awp_skip (then_n (awp_seq (awp_block (awp_seq (awp_seq ?_)))))
 obtain ⟨c28, h29⟩ := gd_some h26
 refine rgc [5, 6, 7, 22] 4 ⟨30, [(5, .ref 2 0), (6, .ref 3 0), (7, .int .i64 2), (22, .bool (decide (r1.a2 < r2.a2)))], [.box (c_TRoute a0), .box (c_TRoute a1), .box (c_Arr7Int r1), .box (c_Arr7Int r2)]⟩ [true, true, true, true] c28 ?_
 refine then_n ?_
 refine cnd (decide (r1.a2 < r2.a2)) (fun b30 => ?_) (fun b30 => ?_)
 have h31 := cond_t b30 h29
 refine awp_seq (rg0 [4] 0 ⟨30, [(4, .int .i64 (-1))], []⟩ ?_)
 refine then_n (awp_ret (then_r (inb_r (then_r (thenl_r (inb_r (then_r ?_)))))))
 obtain rfl := Option.some.inj h31
 exact er0 (.int .i64 (-1))
 have h32 := cond_f b30 h29
 refine awp_skip (then_n (awp_seq ?_))
 obtain ⟨c33, h34⟩ := gd_some h32
 refine rgc [5, 6, 7, 29] 4 ⟨30, [(5, .ref 2 0), (6, .ref 3 0), (7, .int .i64 2), (29, .bool (decide (r1.a2 > r2.a2)))], [.box (c_TRoute a0), .box (c_TRoute a1), .box (c_Arr7Int r1), .box (c_Arr7Int r2)]⟩ [true, true, true, true] c33 ?_
 refine then_n ?_
 refine cnd (decide (r1.a2 > r2.a2)) (fun b35 => ?_) (fun b35 => ?_)
 have h36 := cond_t b35 h34
 refine awp_seq (rg0 [4] 0 ⟨30, [(4, .int .i64 1)], []⟩ ?_)
 refine then_n (awp_ret (inb_r (then_r (thenl_r (inb_r (then_r ?_))))))
 obtain rfl := Option.some.inj h36
 exact er0 (.int .i64 1)
 have h37 := cond_f b35 h34
 refine awp_skip (inb_n (then_n (rg0 [5, 6, 7] 4 ⟨30, [(5, .ref 2 0), (6, .ref 3 0), (7, .int .i64 3)], [.box (c_TRoute a0), .box (c_TRoute a1), .box (c_Arr7Int r1), .box (c_Arr7Int r2)]⟩ ?_)))
 refine thenl_n (lwp_round (awp_seq (awp_seq (rg0 [5, 6, 7, 13] 4 ⟨30, [(5, .ref 2 0), (6, .ref 3 0), (7, .int .i64 3), (13, .bool true)], [.box (c_TRoute a0), .box (c_TRoute a1), .box (c_Arr7Int r1), .box (c_Arr7Int r2)]⟩ ?_))))
 refine then_n ?_
 refine cnd true (fun _ => ?_) (fun b38 => Bool.noConfusion b38)
 refine awp_skip (then_n (awp_seq (awp_block (awp_seq (awp_seq ?_)))))
 obtain ⟨c39, h40⟩ := gd_some h37
 refine rgc [5, 6, 7, 22] 4 ⟨30, [(5, .ref 2 0), (6, .ref 3 0), (7, .int .i64 3), (22, .bool (decide (r1.a3 < r2.a3)))], [.box (c_TRoute a0), .box (c_TRoute a1), .box (c_Arr7Int r1), .box (c_Arr7Int r2)]⟩ [true, true, true, true] c39 ?_
 refine then_n ?_
 refine cnd (decide (r1.a3 < r2.a3)) (fun b41 => ?_) (fun b41 => ?_)
 have h42 := cond_t b41 h40
 refine awp_seq (rg0 [4] 0 ⟨30, [(4, .int .i64 (-1))], []⟩ ?_)
 refine then_n (awp_ret (then_r (inb_r (then_r (thenl_r (inb_r (then_r ?_)))))))
 obtain rfl := Option.some.inj h42
 exact er0 (.int .i64 (-1))
 have h43 := cond_f b41 h40
 refine awp_skip (then_n (awp_seq ?_))
 obtain ⟨c44, h45⟩ := gd_some h43
 refine rgc [5, 6, 7, 29] 4 ⟨30, [(5, .ref 2 0), (6, .ref 3 0), (7, .int .i64 3), (29, .bool (decide (r1.a3 > r2.a3)))], [.box (c_TRoute a0), .box (c_TRoute a1), .box (c_Arr7Int r1), .box (c_Arr7Int r2)]⟩ [true, true, true, true] c44 ?_
 refine then_n ?_
 refine cnd (decide (r1.a3 > r2.a3)) (fun b46 => ?_) (fun b46 => ?_)
 have h47 := cond_t b46 h45
 refine awp_seq (rg0 [4] 0 ⟨30, [(4, .int .i64 1)], []⟩ ?_)
 refine then_n (awp_ret (inb_r (then_r (thenl_r (inb_r (then_r ?_))))))
 obtain rfl := Option.some.inj h47
 exact er0 (.int .i64 1)
 have h48 := cond_f b46 h45
 refine awp_skip (inb_n (then_n (rg0 [5, 6, 7] 4 ⟨30, [(5, .ref 2 0), (6, .ref 3 0), (7, .int .i64 4)], [.box (c_TRoute a0), .box (c_TRoute a1), .box (c_Arr7Int r1), .box (c_Arr7Int r2)]⟩ ?_)))
 refine thenl_n (lwp_round (awp_seq (awp_seq (rg0 [5, 6, 7, 13] 4 ⟨30, [(5, .ref 2 0), (6, .ref 3 0), (7, .int .i64 4), (13, .bool true)], [.box (c_TRoute a0), .box (c_TRoute a1), .box (c_Arr7Int r1), .box (c_Arr7Int r2)]⟩ ?_))))
 refine then_n ?_
 refine cnd true (fun _ => ?_) (fun b49 => Bool.noConfusion b49)
 refine awp_skip (then_n (awp_seq (awp_block (awp_seq (awp_seq ?_)))))
 obtain ⟨c50, h51⟩ := gd_some h48
 refine rgc [5, 6, 7, 22] 4 ⟨30, [(5, .ref 2 0), (6, .ref 3 0), (7, .int .i64 4), (22, .bool (decide (r1.a4 < r2.a4)))], [.box (c_TRoute a0), .box (c_TRoute a1), .box (c_Arr7Int r1), .box (c_Arr7Int r2)]⟩ [true, true, true, true] c50 ?_
 refine then_n ?_
 refine cnd (decide (r1.a4 < r2.a4)) (fun b52 => ?_) (fun b52 => ?_)
 have h53 := cond_t b52 h51
 refine awp_seq (rg0 [4] 0 ⟨30, [(4, .int .i64 (-1))], []⟩ ?_)
 refine then_n (awp_ret (then_r (inb_r (then_r (thenl_r (inb_r (then_r ?_)))))))
 obtain rfl := Option.some.inj h53
 exact er0 (.int .i64 (-1))
 have h54 := cond_f b52 h51
 refine awp_skip (then_n (awp_seq ?_))
 obtain ⟨c55, h56⟩ := gd_some h54
 refine rgc [5, 6, 7, 29] 4 ⟨30, [(5, .ref 2 0), (6, .ref 3 0), (7, .int .i64 4), (29, .bool (decide (r1.a4 > r2.a4)))], [.box (c_TRoute a0), .box (c_TRoute a1), .box (c_Arr7Int r1), .box (c_Arr7Int r2)]⟩ [true, true, true, true] c55 ?_
 refine then_n ?_
 refine cnd (decide (r1.a4 > r2.a4)) (fun b57 => ?_) (fun b57 => ?_)
 have h58 := cond_t b57 h56
 refine awp_seq (rg0 [4] 0 ⟨30, [(4, .int .i64 1)], []⟩ ?_)
 refine then_n (awp_ret (inb_r (then_r (thenl_r (inb_r (then_r ?_))))))
 obtain rfl := Option.some.inj h58
 exact er0 (.int .i64 1)
 have h59 := cond_f b57 h56
 refine awp_skip (inb_n (then_n (rg0 [5, 6, 7] 4 ⟨30, [(5, .ref 2 0), (6, .ref 3 0), (7, .int .i64 5)], [.box (c_TRoute a0), .box (c_TRoute a1), .box (c_Arr7Int r1), .box (c_Arr7Int r2)]⟩ ?_)))
 refine thenl_n (lwp_round (awp_seq (awp_seq (rg0 [5, 6, 7, 13] 4 ⟨30, [(5, .ref 2 0), (6, .ref 3 0), (7, .int .i64 5), (13, .bool true)], [.box (c_TRoute a0), .box (c_TRoute a1), .box (c_Arr7Int r1), .box (c_Arr7Int r2)]⟩ ?_))))
 refine then_n ?_
 refine cnd true (fun _ => ?_) (fun b60 => Bool.noConfusion b60)
 refine awp_skip (then_n (awp_seq (awp_block (awp_seq (awp_seq ?_)))))
 obtain ⟨c61, h62⟩ := gd_some h59
 refine rgc [5, 6, 7, 22] 4 ⟨30, [(5, .ref 2 0), (6, .ref 3 0), (7, .int .i64 5), (22, .bool (decide (r1.a5 < r2.a5)))], [.box (c_TRoute a0), .box (c_TRoute a1), .box (c_Arr7Int r1), .box (c_Arr7Int r2)]⟩ [true, true, true, true] c61 ?_
 refine then_n ?_
 refine cnd (decide (r1.a5 < r2.a5)) (fun b63 => ?_) (fun b63 => ?_)
 have h64 := cond_t b63 h62
 refine awp_seq (rg0 [4] 0 ⟨30, [(4, .int .i64 (-1))], []⟩ ?_)
 refine then_n (awp_ret (then_r (inb_r (then_r (thenl_r (inb_r (then_r ?_)))))))
 obtain rfl := Option.some.inj h64
 exact er0 (.int .i64 (-1))
 have h65 := cond_f b63 h62
 refine awp_skip (then_n (awp_seq ?_))
 obtain ⟨c66, h67⟩ := gd_some h65
 refine rgc [5, 6, 7, 29] 4 ⟨30, [(5, .ref 2 0), (6, .ref 3 0), (7, .int .i64 5), (29, .bool (decide (r1.a5 > r2.a5)))], [.box (c_TRoute a0), .box (c_TRoute a1), .box (c_Arr7Int r1), .box (c_Arr7Int r2)]⟩ [true, true, true, true] c66 ?_
 refine then_n ?_
 refine cnd (decide (r1.a5 > r2.a5)) (fun b68 => ?_) (fun b68 => ?_)
 have h69 := cond_t b68 h67
 refine awp_seq (rg0 [4] 0 ⟨30, [(4, .int .i64 1)], []⟩ ?_)
 refine then_n (awp_ret (inb_r (then_r (thenl_r (inb_r (then_r ?_))))))
 obtain rfl := Option.some.inj h69
 exact er0 (.int .i64 1)
 have h70 := cond_f b68 h67
 refine awp_skip (inb_n (then_n (rg0 [5, 6, 7] 4 ⟨30, [(5, .ref 2 0), (6, .ref 3 0), (7, .int .i64 6)], [.box (c_TRoute a0), .box (c_TRoute a1), .box (c_Arr7Int r1), .box (c_Arr7Int r2)]⟩ ?_)))
 refine thenl_n (lwp_round (awp_seq (awp_seq (rg0 [5, 6, 7, 13] 4 ⟨30, [(5, .ref 2 0), (6, .ref 3 0), (7, .int .i64 6), (13, .bool true)], [.box (c_TRoute a0), .box (c_TRoute a1), .box (c_Arr7Int r1), .box (c_Arr7Int r2)]⟩ ?_))))
 refine then_n ?_
 refine cnd true (fun _ => ?_) (fun b71 => Bool.noConfusion b71)
 refine awp_skip (then_n (awp_seq (awp_block (awp_seq (awp_seq ?_)))))
 obtain ⟨c72, h73⟩ := gd_some h70
 refine rgc [5, 6, 7, 22] 4 ⟨30, [(5, .ref 2 0), (6, .ref 3 0), (7, .int .i64 6), (22, .bool (decide (r1.a6 < r2.a6)))], [.box (c_TRoute a0), .box (c_TRoute a1), .box (c_Arr7Int r1), .box (c_Arr7Int r2)]⟩ [true, true, true, true] c72 ?_
 refine then_n ?_
 refine cnd (decide (r1.a6 < r2.a6)) (fun b74 => ?_) (fun b74 => ?_)
 have h75 := cond_t b74 h73
 refine awp_seq (rg0 [4] 0 ⟨30, [(4, .int .i64 (-1))], []⟩ ?_)
 refine then_n (awp_ret (then_r (inb_r (then_r (thenl_r (inb_r (then_r ?_)))))))
 obtain rfl := Option.some.inj h75
 exact er0 (.int .i64 (-1))
 have h76 := cond_f b74 h73
 refine awp_skip (then_n (awp_seq ?_))
 obtain ⟨c77, h78⟩ := gd_some h76
 refine rgc [5, 6, 7, 29] 4 ⟨30, [(5, .ref 2 0), (6, .ref 3 0), (7, .int .i64 6), (29, .bool (decide (r1.a6 > r2.a6)))], [.box (c_TRoute a0), .box (c_TRoute a1), .box (c_Arr7Int r1), .box (c_Arr7Int r2)]⟩ [true, true, true, true] c77 ?_
 refine then_n ?_
 refine cnd (decide (r1.a6 > r2.a6)) (fun b79 => ?_) (fun b79 => ?_)
 have h80 := cond_t b79 h78
 refine awp_seq (rg0 [4] 0 ⟨30, [(4, .int .i64 1)], []⟩ ?_)
 refine then_n (awp_ret (inb_r (then_r (thenl_r (inb_r (then_r ?_))))))
 obtain rfl := Option.some.inj h80
 exact er0 (.int .i64 1)
 have h81 := cond_f b79 h78
 refine awp_skip (inb_n (then_n (rg0 [5, 6, 7] 4 ⟨30, [(5, .ref 2 0), (6, .ref 3 0), (7, .int .i64 7)], [.box (c_TRoute a0), .box (c_TRoute a1), .box (c_Arr7Int r1), .box (c_Arr7Int r2)]⟩ ?_)))
 refine thenl_n (lwp_round (awp_seq (awp_seq (rg0 [5, 6, 7, 13] 4 ⟨30, [(5, .ref 2 0), (6, .ref 3 0), (7, .int .i64 7), (13, .bool false)], [.box (c_TRoute a0), .box (c_TRoute a1), .box (c_Arr7Int r1), .box (c_Arr7Int r2)]⟩ ?_))))
 refine then_n ?_
 refine cnd false (fun b82 => Bool.noConfusion b82) (fun _ => ?_)
 refine awp_exit (then_e (thenl_e (inb_here (then_n (awp_seq (rg0 [4] 0 ⟨30, [(4, .int .i64 0)], []⟩ ?_))))))
 refine then_n (awp_ret ?_)
 obtain rfl := Option.some.inj h81
 exact er0 (.int .i64 0)
theorem ref15_addHop_ok (a0 : List THop) (a1 : THop) (r : (List THop)) (h : M.ref15_addHop a0 a1 = some r) : Fn Try.prog 77 [sL 2 c_THop a0, .agg (c_THop a1)] (.pure (sL 2 c_THop r)) := by
 unfold M.ref15_addHop at h
 refine fn_pure Try.func77 rfl (by kernel_rfl) ?_
 refine awp_seq (rg0 [0, 3] 1 ⟨45, [(0, sL 2 c_THop a0), (3, .ref 0 0)], [.box (c_THop a1)]⟩ ?_)
 refine then_n (awp_seq (rg0 [0, 3, 5] 1 ⟨45, [(0, sL 2 c_THop a0), (3, .ref 0 0), (5, .int .i64 0)], [.box (c_THop a1)]⟩ ?_))
 refine then_n (awp_seq (awp_block ?_))
 obtain ⟨y4, q9, h10⟩ := bind_some h
 refine awp_le (s' := ⟨45, [(0, sL 2 c_THop a0), (3, .ref 0 0), (5, .int .i64 0)], [.box (c_THop a1)]⟩) (le_rfl) ?_
 refine awp_mono (awp_loop (f := M.ref15_addHop_l1 a0 a1) (S := fun (p1 : Int) => ⟨45, [(0, sL 2 c_THop a0), (3, .ref 0 0), (5, .int .i64 p1)], [.box (c_THop a1)]⟩) (O := (fun z => OutE 0 (fun z => ⟨45, [(0, sL 2 c_THop a0), (3, .ref 0 0), (5, .int .i64 z)], [.box (c_THop a1)]⟩) z)) ?_ (x := 0) (y := y4) (loopM_iter q9)) ?_
 intro p1 y2 h1
 unfold M.ref15_addHop_l1 at h1
 refine awp_seq (awp_seq ?_)
 obtain ⟨r3, q2, h3⟩ := bind_some h1
 obtain ⟨c4, h5⟩ := gd_some h3
 refine rg [.pure (.bool r3)] [0, 3, 5, 17] 1 ⟨45, [(0, sL 2 c_THop a0), (3, .ref 0 0), (5, .int .i64 p1), (17, .bool ((decide (p1 < (a0.length : Int))) && r3))], [.box (c_THop a1)]⟩ [guardB (decide (p1 < (a0.length : Int))) (decide (0 ≤ p1)), guardB (decide (p1 < (a0.length : Int))) (decide (p1 < (a0.length : Int)))] [⟨decide (p1 < (a0.length : Int)), 69, [.agg (c_THop (a0.getD p1.toNat default)), .agg (c_THop a1)], .pure (.bool r3)⟩] c4 ⟨fun hg => ref15_lessHop_ok (a0.getD p1.toNat default) a1 r3 (gc_some q2 hg), trivial⟩ ?_
 refine then_n ?_
 refine cnd ((decide (p1 < (a0.length : Int))) && r3) (fun b6 => ?_) (fun b6 => ?_)
 have h7 := cond_t b6 h5
 refine awp_skip (then_n (awp_block (rg0 [0, 3, 5] 1 ⟨45, [(0, sL 2 c_THop a0), (3, .ref 0 0), (5, .int .i64 (wr .i64 (p1 + 1)))], [.box (c_THop a1)]⟩ ?_)))
 refine inb_n ?_
 obtain rfl := Option.some.inj h7
 exact round_n (le_rfl)
 have h8 := cond_f b6 h5
 refine awp_exit (then_e ?_)
 obtain rfl := Option.some.inj h8
 exact round_e ⟨rfl, kp [0, 3, 5]⟩
 intro e11 s12 o13
 obtain ⟨rfl, l14⟩ := o13
 refine inb_here ?_
 refine then_le (s' := ⟨45, [(0, sL 2 c_THop a0), (3, .ref 0 0), (5, .int .i64 y4)], [.box (c_THop a1)]⟩) (l14) ?_
 refine awp_seq (awp_seq ?_)
 obtain ⟨c15, h16⟩ := gd_some h10
 refine rgc [0, 3, 5, 31] 1 ⟨45, [(0, sL 2 c_THop a0), (3, .ref 0 0), (5, .int .i64 y4), (31, .bool ((decide (y4 < (a0.length : Int))) && ((((a0.getD y4.toNat default).fIface) == a1.fIface) && ((((a0.getD y4.toNat default).fAddr) == a1.fAddr) && true))))], [.box (c_THop a1)]⟩ [guardB (decide (y4 < (a0.length : Int))) (decide (0 ≤ y4)), guardB (decide (y4 < (a0.length : Int))) (decide (y4 < (a0.length : Int)))] c15 ?_
 refine then_n ?_
 refine cnd ((decide (y4 < (a0.length : Int))) && ((((a0.getD y4.toNat default).fIface) == a1.fIface) && ((((a0.getD y4.toNat default).fAddr) == a1.fAddr) && true))) (fun b17 => ?_) (fun b17 => ?_)
 have h18 := cond_t b17 h16
 refine awp_seq (rg0 [4] 0 ⟨45, [(4, sL 2 c_THop a0)], []⟩ ?_)
 refine then_n (awp_ret (then_r ?_))
 obtain rfl := Option.some.inj h18
 exact er0 (sL 2 c_THop a0)
 have h19 := cond_f b17 h16
 refine awp_skip (then_n (awp_seq ?_))
 obtain ⟨c20, h21⟩ := gd_some h19
 refine rga [4, 7, 11] [] [4] 2 ⟨45, [(4, .asl 1 0 (((0 + (y4.toNat - 0)) + 1) + (a0.length - y4.toNat)))], [.box (c_THop a1), .arr 2 (((0 + (y4.toNat - 0)) + 1) + (a0.length - y4.toNat)) (app (app (app (fun i => List.take 2 (List.drop (i * 2) [])) 0 (fun i => c_THop (a0.getD (0 + i) default))) (0 + (y4.toNat - 0)) (fun i => List.take 2 (List.drop (i * 2) [.int .i64 a1.fIface, .int .u32 a1.fAddr]))) ((0 + (y4.toNat - 0)) + 1) (fun i => c_THop (a0.getD (y4.toNat + i) default)))]⟩ [decide (0 ≤ y4), decide (y4 ≤ (a0.length : Int)), decide (0 = 0) || decide (0 < (y4.toNat - 0)), decide ((0 + (y4.toNat - 0)) * 16 ≤ 140737488355328), decide (((0 + (y4.toNat - 0)) + 1) * 16 ≤ 140737488355328), decide (0 ≤ y4), decide (y4 ≤ (a0.length : Int)), decide ((((0 + (y4.toNat - 0)) + 1) + (a0.length - y4.toNat)) * 16 ≤ 140737488355328)] [] c20 trivial ?_
 refine then_le (s' := ⟨45, [(4, .asl 1 0 ((((((a0.drop 0).take (y4.toNat - 0)) : List THop) ++ ([a1])) ++ ((a0.drop y4.toNat).take (a0.length - y4.toNat))).length))], [.box (c_THop a1), aL 2 c_THop (((((a0.drop 0).take (y4.toNat - 0)) : List THop) ++ ([a1])) ++ ((a0.drop y4.toNat).take (a0.length - y4.toNat)))]⟩) (le_sub (.cons (asl_len (len_any (len_any ((Nat.zero_add _).trans (len_cut _ _ _ (cut_hi (c20 _ (List.mem_cons_of_mem _ (List.mem_cons_of_mem _ (List.mem_cons_of_mem _ (List.mem_cons_of_mem _ (List.mem_cons_of_mem _ (List.mem_cons_of_mem _ List.mem_cons_self)))))))))) rfl) (len_cut _ _ _ (Nat.le_refl _)))) .nil) (.cons .rfl (.cons (.arr (len_any (len_any ((Nat.zero_add _).trans (len_cut _ _ _ (cut_hi (c20 _ (List.mem_cons_of_mem _ (List.mem_cons_of_mem _ (List.mem_cons_of_mem _ (List.mem_cons_of_mem _ (List.mem_cons_of_mem _ (List.mem_cons_of_mem _ List.mem_cons_self)))))))))) rfl) (len_cut _ _ _ (Nat.le_refl _))) (app_any c_THop (f := app (app (fun i => List.take 2 (List.drop (i * 2) [])) 0 (fun i => c_THop (a0.getD (0 + i) default))) (0 + (y4.toNat - 0)) (fun i => List.take 2 (List.drop (i * 2) [.int .i64 a1.fIface, .int .u32 a1.fAddr]))) (g := fun i => c_THop (a0.getD (y4.toNat + i) default)) (len_any ((Nat.zero_add _).trans (len_cut _ _ _ (cut_hi (c20 _ (List.mem_cons_of_mem _ (List.mem_cons_of_mem _ (List.mem_cons_of_mem _ (List.mem_cons_of_mem _ (List.mem_cons_of_mem _ (List.mem_cons_of_mem _ List.mem_cons_self)))))))))) rfl) (app_any c_THop (f := app (fun i => List.take 2 (List.drop (i * 2) [])) 0 (fun i => c_THop (a0.getD (0 + i) default))) (g := fun i => List.take 2 (List.drop (i * 2) [.int .i64 a1.fIface, .int .u32 a1.fAddr])) ((Nat.zero_add _).trans (len_cut _ _ _ (cut_hi (c20 _ (List.mem_cons_of_mem _ (List.mem_cons_of_mem _ (List.mem_cons_of_mem _ (List.mem_cons_of_mem _ (List.mem_cons_of_mem _ (List.mem_cons_of_mem _ List.mem_cons_self)))))))))) (app_nilc c_THop (cut_ext _ _ _ _)) rfl (one_ext c_THop (x := a1) rfl)) (len_cut _ _ _ (Nat.le_refl _)) (cut_ext _ _ _ _))) .nil))) ?_
 refine awp_ret ?_
 obtain rfl := Option.some.inj h21
 exact er (.sl false 2 (((((a0.drop 0).take (y4.toNat - 0)) : List THop) ++ ([a1])) ++ ((a0.drop y4.toNat).take (a0.length - y4.toNat))).length (fun i => c_THop ((((((a0.drop 0).take (y4.toNat - 0)) : List THop) ++ ([a1])) ++ ((a0.drop y4.toNat).take (a0.length - y4.toNat))).getD (0 + i) default))) sub_asl
theorem ref15_AddHops_ok (a0 : List THop) (a1 : List THop) (r : (List THop)) (h : M.ref15_AddHops a0 a1 = some r) : Fn Try.prog 64 [sL 2 c_THop a0, sL 2 c_THop a1] (.pure (sL 2 c_THop r)) := by
 unfold M.ref15_AddHops at h
 refine fn_pure Try.func64 rfl (by kernel_rfl) ?_
 refine awp_seq (rg0 [0, 1] 0 ⟨19, [(0, sL 2 c_THop a0), (1, sL 2 c_THop a1)], []⟩ ?_)
 refine then_n (awp_seq (awp_seq (rg0 [0, 1, 5] 0 ⟨19, [(0, sL 2 c_THop a0), (1, sL 2 c_THop a1), (5, .int .i64 0)], []⟩ ?_)))
 refine then_n (awp_block ?_)
 obtain ⟨y4, q9, h10⟩ := bind_some h
 refine awp_le (s' := ⟨19, [(0, sL 2 c_THop a0), (1, sL 2 c_THop a1), (5, .int .i64 0)], []⟩) (le_rfl) ?_
 refine awp_mono (awp_loop (f := M.ref15_AddHops_l1 a1) (S := fun (p1 : (List THop) × Int) => ⟨19, [(0, sL 2 c_THop p1.1), (1, sL 2 c_THop a1), (5, .int .i64 p1.2)], []⟩) (O := (fun z => OutE 0 (fun z => ⟨19, [(0, sL 2 c_THop z)], []⟩) z)) ?_ (x := (a0, 0)) (y := y4) (loopM_iter q9)) ?_
 intro p1 y2 h1
 unfold M.ref15_AddHops_l1 at h1
 refine awp_seq (awp_seq (rg0 [0, 1, 5, 9] 0 ⟨19, [(0, sL 2 c_THop p1.1), (1, sL 2 c_THop a1), (5, .int .i64 p1.2), (9, .bool (decide (p1.2 < (a1.length : Int))))], []⟩ ?_))
 refine then_n ?_
 refine cnd (decide (p1.2 < (a1.length : Int))) (fun b2 => ?_) (fun b2 => ?_)
 have h3 := cond_t b2 h1
 refine awp_skip (then_n (awp_seq (awp_block ?_)))
 obtain ⟨r3, q5, h6⟩ := bind_some h3
 obtain ⟨c7, h8⟩ := gd_some h6
 refine rg [.pure (sL 2 c_THop r3)] [0, 1, 5] 0 ⟨19, [(0, sL 2 c_THop r3), (1, sL 2 c_THop a1), (5, .int .i64 p1.2)], []⟩ [decide (0 ≤ p1.2), decide (p1.2 < (a1.length : Int))] [⟨true, 77, [sL 2 c_THop p1.1, .agg (c_THop (a1.getD p1.2.toNat default))], .pure (sL 2 c_THop r3)⟩] c7 ⟨fun _ => ref15_addHop_ok p1.1 (a1.getD p1.2.toNat default) r3 q5, trivial⟩ ?_
 refine inb_n (then_n (rg0 [0, 1, 5] 0 ⟨19, [(0, sL 2 c_THop r3), (1, sL 2 c_THop a1), (5, .int .i64 (wr .i64 (p1.2 + 1)))], []⟩ ?_))
 obtain rfl := Option.some.inj h8
 exact round_n (le_rfl)
 have h4 := cond_f b2 h1
 refine awp_exit (then_e ?_)
 obtain rfl := Option.some.inj h4
 exact round_e ⟨rfl, kp [0]⟩
 intro e11 s12 o13
 obtain ⟨rfl, l14⟩ := o13
 refine inb_here ?_
 refine then_le (s' := ⟨19, [(0, sL 2 c_THop y4)], []⟩) (l14) ?_
 refine awp_seq (rg0 [4] 0 ⟨19, [(4, sL 2 c_THop y4)], []⟩ ?_)
 refine then_n (awp_ret ?_)
 obtain rfl := Option.some.inj h10
 exact er0 (sL 2 c_THop y4)
theorem ref15_Merge_ok (a0 : List TRoute) (r : (List TRoute)) (h : M.ref15_Merge a0 = some r) : Fn Try.prog 30 [sL 14 c_TRoute a0] (.pure (sL 14 c_TRoute r)) := by
 unfold M.ref15_Merge at h
 refine fn_pure Try.func30 rfl (by kernel_rfl) ?_
 refine awp_seq (rg0 [0] 0 ⟨103, [(0, sL 14 c_TRoute a0)], []⟩ ?_)
 refine then_n (awp_seq ?_)
 obtain ⟨r1, q1, h2⟩ := bind_some h
 refine rg [.pure (sL 2 c_TPrefix r1)] [0, 3] 0 ⟨103, [(0, sL 14 c_TRoute a0), (3, sL 2 c_TPrefix r1)], []⟩ [] [⟨true, 63, [sL 14 c_TRoute a0], .pure (sL 2 c_TPrefix r1)⟩] nil_all ⟨fun _ => ref15_prefixes_ok a0 r1 q1, trivial⟩ ?_
 refine then_n (awp_seq (rg0 [0, 3, 4] 0 ⟨103, [(0, sL 14 c_TRoute a0), (3, sL 2 c_TPrefix r1), (4, .sl true 14 0 (fun _ => []))], []⟩ ?_))
 refine then_n (awp_seq (awp_seq (rg0 [0, 3, 4, 5] 0 ⟨103, [(0, sL 14 c_TRoute a0), (3, sL 2 c_TPrefix r1), (4, .sl true 14 0 (fun _ => [])), (5, .int .i64 0)], []⟩ ?_)))
 refine then_n (awp_block ?_)
 refine awp_le (s' := ⟨103, [(0, sL 14 c_TRoute a0), (3, sL 2 c_TPrefix r1), (4, .sl true 14 0 (fun _ => [])), (5, .int .i64 0)], []⟩) (le_rfl) ?_
 refine awp_le (s' := ⟨103, [(0, sL 14 c_TRoute a0), (3, sL 2 c_TPrefix r1), (4, .asl 0 0 (([] : List TRoute).length)), (5, .int .i64 0)], [aL 14 c_TRoute ([] : List TRoute)]⟩) (Le.trans (s' := ⟨103, (4, .asl 0 0 0) :: [(0, sL 14 c_TRoute a0), (3, sL 2 c_TPrefix r1), (4, .sl true 14 0 (fun _ => [])), (5, .int .i64 0)], [] ++ [.arr 14 0 (fun i => c_TRoute (([] : List TRoute).getD i default))]⟩) (le_thaw (wd := 14) (f := fun _ => []) 4 (by kernel_rfl) _ _) (kp [0, 3, 4, 5])) ?_
 obtain ⟨y15, q55, h56⟩ := bind_some h2
 refine awp_le (s' := ⟨103, [(0, sL 14 c_TRoute a0), (3, sL 2 c_TPrefix r1), (4, .asl 0 0 (([] : List TRoute).length)), (5, .int .i64 0)], [aL 14 c_TRoute ([] : List TRoute)]⟩) (le_rfl) ?_
 refine awp_mono (awp_loop (f := M.ref15_Merge_l1 a0 r1) (S := fun (p2 : (List TRoute) × Int) => ⟨103, [(0, sL 14 c_TRoute a0), (3, sL 2 c_TPrefix r1), (4, .asl 0 0 p2.1.length), (5, .int .i64 p2.2)], [aL 14 c_TRoute p2.1]⟩) (O := (fun z => OutE 0 (fun z => ⟨103, [(4, .asl 0 0 z.length)], [aL 14 c_TRoute z]⟩) z)) ?_ (x := (([] : List TRoute), 0)) (y := y15) (loopM_iter q55)) ?_
 intro p2 y3 h3
 unfold M.ref15_Merge_l1 at h3
 refine awp_seq (awp_seq (rg0 [0, 3, 4, 5, 15] 1 ⟨103, [(0, sL 14 c_TRoute a0), (3, sL 2 c_TPrefix r1), (4, .asl 0 0 p2.1.length), (5, .int .i64 p2.2), (15, .bool (decide (p2.2 < (r1.length : Int))))], [aL 14 c_TRoute p2.1]⟩ ?_))
 refine then_n ?_
 refine cnd (decide (p2.2 < (r1.length : Int))) (fun b4 => ?_) (fun b4 => ?_)
 have h5 := cond_t b4 h3
 refine awp_skip (then_n (awp_seq (awp_block (awp_seq (rg0 [0, 3, 4, 5, 6] 1 ⟨103, [(0, sL 14 c_TRoute a0), (3, sL 2 c_TPrefix r1), (4, .asl 0 0 p2.1.length), (5, .int .i64 p2.2), (6, .int .i64 (-1))], [aL 14 c_TRoute p2.1]⟩ ?_)))))
 refine then_n (awp_seq (awp_seq (rg0 [0, 3, 4, 5, 6, 7] 1 ⟨103, [(0, sL 14 c_TRoute a0), (3, sL 2 c_TPrefix r1), (4, .asl 0 0 p2.1.length), (5, .int .i64 p2.2), (6, .int .i64 (-1)), (7, .int .i64 0)], [aL 14 c_TRoute p2.1]⟩ ?_)))
 refine then_n (awp_block ?_)
 obtain ⟨y8, q20, h21⟩ := bind_some h5
 refine awp_le (s' := ⟨103, [(0, sL 14 c_TRoute a0), (3, sL 2 c_TPrefix r1), (4, .asl 0 0 p2.1.length), (5, .int .i64 p2.2), (6, .int .i64 (-1)), (7, .int .i64 0)], [aL 14 c_TRoute p2.1]⟩) (le_rfl) ?_
 refine awp_mono (awp_loop (f := M.ref15_Merge_l2 a0 r1 p2) (S := fun (p4 : Int × Int) => ⟨103, [(0, sL 14 c_TRoute a0), (3, sL 2 c_TPrefix r1), (4, .asl 0 0 p2.1.length), (5, .int .i64 p2.2), (6, .int .i64 p4.1), (7, .int .i64 p4.2)], [aL 14 c_TRoute p2.1]⟩) (O := (fun z => OutE 2 (fun z => ⟨103, [(0, sL 14 c_TRoute a0), (3, sL 2 c_TPrefix r1), (4, .asl 0 0 p2.1.length), (5, .int .i64 p2.2), (6, .int .i64 z)], [aL 14 c_TRoute p2.1]⟩) z)) ?_ (x := ((-1), 0)) (y := y8) (loopM_iter q20)) ?_
 intro p4 y5 h7
 unfold M.ref15_Merge_l2 at h7
 refine awp_seq (awp_seq (rg0 [0, 3, 4, 5, 6, 7, 21] 1 ⟨103, [(0, sL 14 c_TRoute a0), (3, sL 2 c_TPrefix r1), (4, .asl 0 0 p2.1.length), (5, .int .i64 p2.2), (6, .int .i64 p4.1), (7, .int .i64 p4.2), (21, .bool (decide (p4.2 < (a0.length : Int))))], [aL 14 c_TRoute p2.1]⟩ ?_))
 refine then_n ?_
 refine cnd (decide (p4.2 < (a0.length : Int))) (fun b8 => ?_) (fun b8 => ?_)
 have h9 := cond_t b8 h7
 refine awp_skip (then_n ?_)
 refine awp_join (fun (p6 : Int) => ⟨103, [(0, sL 14 c_TRoute a0), (3, sL 2 c_TPrefix r1), (4, .asl 0 0 p2.1.length), (5, .int .i64 p2.2), (6, .int .i64 p6), (7, .int .i64 p4.2)], [aL 14 c_TRoute p2.1]⟩) (fun p6 => M.ref15_Merge_k1 p4 p6 = some y5) ?_ ?_
 intro p6 h12
 unfold M.ref15_Merge_k1 at h12
 refine rg0 [0, 3, 4, 5, 6, 7] 1 ⟨103, [(0, sL 14 c_TRoute a0), (3, sL 2 c_TPrefix r1), (4, .asl 0 0 p2.1.length), (5, .int .i64 p2.2), (6, .int .i64 p6), (7, .int .i64 (wr .i64 (p4.2 + 1)))], [aL 14 c_TRoute p2.1]⟩ ?_
 obtain rfl := Option.some.inj h12
 exact round_n (le_rfl)
 intro k11
 refine awp_block (awp_seq ?_)
 obtain ⟨r7, q13, h14⟩ := bind_some h9
 obtain ⟨c15, h16⟩ := gd_some h14
 refine rg [.pure (.int .i64 r7)] [0, 3, 4, 5, 6, 7, 49] 1 ⟨103, [(0, sL 14 c_TRoute a0), (3, sL 2 c_TPrefix r1), (4, .asl 0 0 p2.1.length), (5, .int .i64 p2.2), (6, .int .i64 p4.1), (7, .int .i64 p4.2), (49, .bool ((((((a0.getD p4.2.toNat default).fPrefix).fAddr) == ((r1.getD p2.2.toNat default).fAddr)) && (((((a0.getD p4.2.toNat default).fPrefix).fLen) == ((r1.getD p2.2.toNat default).fLen)) && true)) && ((decide (p4.1 < 0)) || (decide (r7 < 0)))))], [aL 14 c_TRoute p2.1]⟩ [decide (0 ≤ p4.2), decide (p4.2 < (a0.length : Int)), decide (0 ≤ p2.2), decide (p2.2 < (r1.length : Int)), guardB ((((((a0.getD p4.2.toNat default).fPrefix).fAddr) == ((r1.getD p2.2.toNat default).fAddr)) && (((((a0.getD p4.2.toNat default).fPrefix).fLen) == ((r1.getD p2.2.toNat default).fLen)) && true)) && !(decide (p4.1 < 0))) (decide (0 ≤ p4.2)), guardB ((((((a0.getD p4.2.toNat default).fPrefix).fAddr) == ((r1.getD p2.2.toNat default).fAddr)) && (((((a0.getD p4.2.toNat default).fPrefix).fLen) == ((r1.getD p2.2.toNat default).fLen)) && true)) && !(decide (p4.1 < 0))) (decide (p4.2 < (a0.length : Int))), guardB ((((((a0.getD p4.2.toNat default).fPrefix).fAddr) == ((r1.getD p2.2.toNat default).fAddr)) && (((((a0.getD p4.2.toNat default).fPrefix).fLen) == ((r1.getD p2.2.toNat default).fLen)) && true)) && !(decide (p4.1 < 0))) (decide (0 ≤ p4.1)), guardB ((((((a0.getD p4.2.toNat default).fPrefix).fAddr) == ((r1.getD p2.2.toNat default).fAddr)) && (((((a0.getD p4.2.toNat default).fPrefix).fLen) == ((r1.getD p2.2.toNat default).fLen)) && true)) && !(decide (p4.1 < 0))) (decide (p4.1 < (a0.length : Int)))] [⟨((((((a0.getD p4.2.toNat default).fPrefix).fAddr) == ((r1.getD p2.2.toNat default).fAddr)) && (((((a0.getD p4.2.toNat default).fPrefix).fLen) == ((r1.getD p2.2.toNat default).fLen)) && true)) && !(decide (p4.1 < 0))), 18, [.agg (c_TRoute (a0.getD p4.2.toNat default)), .agg (c_TRoute (a0.getD p4.1.toNat default))], .pure (.int .i64 r7)⟩] c15 ⟨fun hg => ref15_Prefer_ok (a0.getD p4.2.toNat default) (a0.getD p4.1.toNat default) r7 (gc_some q13 hg), trivial⟩ ?_
 refine then_n ?_
 refine cnd ((((((a0.getD p4.2.toNat default).fPrefix).fAddr) == ((r1.getD p2.2.toNat default).fAddr)) && (((((a0.getD p4.2.toNat default).fPrefix).fLen) == ((r1.getD p2.2.toNat default).fLen)) && true)) && ((decide (p4.1 < 0)) || (decide (r7 < 0)))) (fun b17 => ?_) (fun b17 => ?_)
 have h18 := cond_t b17 h16
 refine rg0 [0, 3, 4, 5, 6, 7] 1 ⟨103, [(0, sL 14 c_TRoute a0), (3, sL 2 c_TPrefix r1), (4, .asl 0 0 p2.1.length), (5, .int .i64 p2.2), (6, .int .i64 p4.2), (7, .int .i64 p4.2)], [aL 14 c_TRoute p2.1]⟩ ?_
 refine inb_n ?_
 exact then_le (le_rfl) (k11 p4.2 h18)
 have h19 := cond_f b17 h16
 refine awp_skip (inb_n ?_)
 exact then_le (kp [0, 3, 4, 5, 6, 7]) (k11 p4.1 h19)
 have h10 := cond_f b8 h7
 refine awp_exit (then_e ?_)
 obtain rfl := Option.some.inj h10
 exact round_e ⟨rfl, kp [0, 3, 4, 5, 6]⟩
 intro e22 s23 o24
 obtain ⟨rfl, l25⟩ := o24
 refine inb_here ?_
 refine then_le (s' := ⟨103, [(0, sL 14 c_TRoute a0), (3, sL 2 c_TPrefix r1), (4, .asl 0 0 p2.1.length), (5, .int .i64 p2.2), (6, .int .i64 y8)], [aL 14 c_TRoute p2.1]⟩) (l25) ?_
 refine awp_seq ?_
 obtain ⟨c26, h27⟩ := gd_some h21
 refine rgc [0, 3, 4, 5, 6, 8] 2 ⟨103, [(0, sL 14 c_TRoute a0), (3, sL 2 c_TPrefix r1), (4, .asl 0 0 p2.1.length), (5, .int .i64 p2.2), (6, .int .i64 y8), (8, .ref 1 0)], [aL 14 c_TRoute p2.1, .box (c_TRoute (a0.getD y8.toNat default))]⟩ [decide (0 ≤ y8), decide (y8 < (a0.length : Int))] c26 ?_
 refine then_n (awp_seq ?_)
 obtain ⟨c28, h29⟩ := gd_some h27
 refine rgc [0, 3, 4, 5, 6, 8] 3 ⟨103, [(0, sL 14 c_TRoute a0), (3, sL 2 c_TPrefix r1), (4, .asl 0 0 p2.1.length), (5, .int .i64 p2.2), (6, .int .i64 y8), (8, .ref 1 0)], [aL 14 c_TRoute p2.1, .box [.int .u32 (((a0.getD y8.toNat default).fPrefix).fAddr), .int .i64 (((a0.getD y8.toNat default).fPrefix).fLen), .int .i64 ((a0.getD y8.toNat default).fProto), .int .i64 ((a0.getD y8.toNat default).fClass), .int .i64 ((a0.getD y8.toNat default).fAdmin), .int .i64 ((a0.getD y8.toNat default).fMetric), .int .i64 ((a0.getD y8.toNat default).fInner), .int .i64 ((a0.getD y8.toNat default).fTag), .int .i64 ((a0.getD y8.toNat default).fPref), .asl 2 0 (0 + (((a0.getD y8.toNat default).fPath).length)), .int .u32 ((a0.getD y8.toNat default).fFrom), .int .u32 ((a0.getD y8.toNat default).fNext), sL 2 c_THop ((a0.getD y8.toNat default).fHops), .bool ((a0.getD y8.toNat default).fDiscard)], .arr 1 (0 + (((a0.getD y8.toNat default).fPath).length)) (app (fun i => List.take 1 (List.drop (i * 1) [])) 0 (fun i => (ci .i64) (((a0.getD y8.toNat default).fPath).getD i default)))]⟩ [decide (0 = 0) || decide (0 < (((a0.getD y8.toNat default).fPath).length)), decide ((0 + (((a0.getD y8.toNat default).fPath).length)) * 8 ≤ 140737488355328)] c28 ?_
 refine then_le (s' := ⟨103, [(0, sL 14 c_TRoute a0), (3, sL 2 c_TPrefix r1), (4, .asl 0 0 p2.1.length), (5, .int .i64 p2.2), (6, .int .i64 y8), (8, .ref 1 0)], [aL 14 c_TRoute p2.1, .box [.int .u32 (((a0.getD y8.toNat default).fPrefix).fAddr), .int .i64 (((a0.getD y8.toNat default).fPrefix).fLen), .int .i64 ((a0.getD y8.toNat default).fProto), .int .i64 ((a0.getD y8.toNat default).fClass), .int .i64 ((a0.getD y8.toNat default).fAdmin), .int .i64 ((a0.getD y8.toNat default).fMetric), .int .i64 ((a0.getD y8.toNat default).fInner), .int .i64 ((a0.getD y8.toNat default).fTag), .int .i64 ((a0.getD y8.toNat default).fPref), sL 1 (ci .i64) ((a0.getD y8.toNat default).fPath : List Int), .int .u32 ((a0.getD y8.toNat default).fFrom), .int .u32 ((a0.getD y8.toNat default).fNext), sL 2 c_THop ((a0.getD y8.toNat default).fHops), .bool ((a0.getD y8.toNat default).fDiscard)], aL 1 (ci .i64) ([] : List Int)]⟩) (Le.trans (le_frb (s := ⟨103, [(0, sL 14 c_TRoute a0), (3, sL 2 c_TPrefix r1), (4, .asl 0 0 p2.1.length), (5, .int .i64 p2.2), (6, .int .i64 y8), (8, .ref 1 0)], [aL 14 c_TRoute p2.1, .box [.int .u32 (((a0.getD y8.toNat default).fPrefix).fAddr), .int .i64 (((a0.getD y8.toNat default).fPrefix).fLen), .int .i64 ((a0.getD y8.toNat default).fProto), .int .i64 ((a0.getD y8.toNat default).fClass), .int .i64 ((a0.getD y8.toNat default).fAdmin), .int .i64 ((a0.getD y8.toNat default).fMetric), .int .i64 ((a0.getD y8.toNat default).fInner), .int .i64 ((a0.getD y8.toNat default).fTag), .int .i64 ((a0.getD y8.toNat default).fPref), .asl 2 0 (0 + (((a0.getD y8.toNat default).fPath).length)), .int .u32 ((a0.getD y8.toNat default).fFrom), .int .u32 ((a0.getD y8.toNat default).fNext), sL 2 c_THop ((a0.getD y8.toNat default).fHops), .bool ((a0.getD y8.toNat default).fDiscard)], .arr 1 (0 + (((a0.getD y8.toNat default).fPath).length)) (app (fun i => List.take 1 (List.drop (i * 1) [])) 0 (fun i => (ci .i64) (((a0.getD y8.toNat default).fPath).getD i default)))]⟩) (s' := ⟨103, [(0, sL 14 c_TRoute a0), (3, sL 2 c_TPrefix r1), (4, .asl 0 0 p2.1.length), (5, .int .i64 p2.2), (6, .int .i64 y8), (8, .ref 1 0)], [aL 14 c_TRoute p2.1, .box [.int .u32 (((a0.getD y8.toNat default).fPrefix).fAddr), .int .i64 (((a0.getD y8.toNat default).fPrefix).fLen), .int .i64 ((a0.getD y8.toNat default).fProto), .int .i64 ((a0.getD y8.toNat default).fClass), .int .i64 ((a0.getD y8.toNat default).fAdmin), .int .i64 ((a0.getD y8.toNat default).fMetric), .int .i64 ((a0.getD y8.toNat default).fInner), .int .i64 ((a0.getD y8.toNat default).fTag), .int .i64 ((a0.getD y8.toNat default).fPref), .sl false 1 (0 + (((a0.getD y8.toNat default).fPath).length)) (fun k => (app (fun i => List.take 1 (List.drop (i * 1) [])) 0 (fun i => (ci .i64) (((a0.getD y8.toNat default).fPath).getD i default))) (0 + k)), .int .u32 ((a0.getD y8.toNat default).fFrom), .int .u32 ((a0.getD y8.toNat default).fNext), sL 2 c_THop ((a0.getD y8.toNat default).fHops), .bool ((a0.getD y8.toNat default).fDiscard)], aL 1 (ci .i64) ([] : List Int)]⟩) 2 1 (0 + (((a0.getD y8.toNat default).fPath).length)) (app (fun i => List.take 1 (List.drop (i * 1) [])) 0 (fun i => (ci .i64) (((a0.getD y8.toNat default).fPath).getD i default))) (fun i => (ci .i64) (([] : List Int).getD i default)) (by kernel_rfl) (by kernel_rfl) (by kernel_rfl)) (le_sub (.cons Sub.rfl (.cons Sub.rfl (.cons Sub.rfl (.cons Sub.rfl (.cons Sub.rfl (.cons Sub.rfl .nil)))))) (.cons .rfl (.cons (.box (.cons CSub.rfl (.cons CSub.rfl (.cons CSub.rfl (.cons CSub.rfl (.cons CSub.rfl (.cons CSub.rfl (.cons CSub.rfl (.cons CSub.rfl (.cons CSub.rfl (.cons (csub_sl (Nat.zero_add _) (own_ext (f := app (fun i => List.take 1 (List.drop (i * 1) [])) 0 (fun i => (ci .i64) (((a0.getD y8.toNat default).fPath).getD i default))) (app_nil (ci .i64) _ ((a0.getD y8.toNat default).fPath) _ (fun _ _ => rfl)))) (.cons CSub.rfl (.cons CSub.rfl (.cons CSub.rfl (.cons CSub.rfl .nil))))))))))))))) (.cons .rfl .nil))))) ?_
 refine awp_seq (rg0 [0, 3, 4, 5, 6, 8] 2 ⟨103, [(0, sL 14 c_TRoute a0), (3, sL 2 c_TPrefix r1), (4, .asl 0 0 p2.1.length), (5, .int .i64 p2.2), (6, .int .i64 y8), (8, .ref 1 0)], [aL 14 c_TRoute p2.1, .box [.int .u32 (((a0.getD y8.toNat default).fPrefix).fAddr), .int .i64 (((a0.getD y8.toNat default).fPrefix).fLen), .int .i64 ((a0.getD y8.toNat default).fProto), .int .i64 ((a0.getD y8.toNat default).fClass), .int .i64 ((a0.getD y8.toNat default).fAdmin), .int .i64 ((a0.getD y8.toNat default).fMetric), .int .i64 ((a0.getD y8.toNat default).fInner), .int .i64 ((a0.getD y8.toNat default).fTag), .int .i64 ((a0.getD y8.toNat default).fPref), sL 1 (ci .i64) ((a0.getD y8.toNat default).fPath : List Int), .int .u32 ((a0.getD y8.toNat default).fFrom), .int .u32 ((a0.getD y8.toNat default).fNext), .sl true 2 0 (fun _ => []), .bool ((a0.getD y8.toNat default).fDiscard)]]⟩ ?_)
 refine then_n (awp_seq (awp_seq (rg0 [0, 3, 4, 5, 6, 8, 9] 2 ⟨103, [(0, sL 14 c_TRoute a0), (3, sL 2 c_TPrefix r1), (4, .asl 0 0 p2.1.length), (5, .int .i64 p2.2), (6, .int .i64 y8), (8, .ref 1 0), (9, .int .i64 0)], [aL 14 c_TRoute p2.1, .box [.int .u32 (((a0.getD y8.toNat default).fPrefix).fAddr), .int .i64 (((a0.getD y8.toNat default).fPrefix).fLen), .int .i64 ((a0.getD y8.toNat default).fProto), .int .i64 ((a0.getD y8.toNat default).fClass), .int .i64 ((a0.getD y8.toNat default).fAdmin), .int .i64 ((a0.getD y8.toNat default).fMetric), .int .i64 ((a0.getD y8.toNat default).fInner), .int .i64 ((a0.getD y8.toNat default).fTag), .int .i64 ((a0.getD y8.toNat default).fPref), sL 1 (ci .i64) ((a0.getD y8.toNat default).fPath : List Int), .int .u32 ((a0.getD y8.toNat default).fFrom), .int .u32 ((a0.getD y8.toNat default).fNext), .sl true 2 0 (fun _ => []), .bool ((a0.getD y8.toNat default).fDiscard)]]⟩ ?_)))
 refine then_n (awp_block ?_)
 obtain ⟨y14, q47, h48⟩ := bind_some h29
 refine awp_le (s' := ⟨103, [(0, sL 14 c_TRoute a0), (3, sL 2 c_TPrefix r1), (4, .asl 0 0 p2.1.length), (5, .int .i64 p2.2), (6, .int .i64 y8), (8, .ref 1 0), (9, .int .i64 0)], [aL 14 c_TRoute p2.1, .box [.int .u32 (((a0.getD y8.toNat default).fPrefix).fAddr), .int .i64 (((a0.getD y8.toNat default).fPrefix).fLen), .int .i64 ((a0.getD y8.toNat default).fProto), .int .i64 ((a0.getD y8.toNat default).fClass), .int .i64 ((a0.getD y8.toNat default).fAdmin), .int .i64 ((a0.getD y8.toNat default).fMetric), .int .i64 ((a0.getD y8.toNat default).fInner), .int .i64 ((a0.getD y8.toNat default).fTag), .int .i64 ((a0.getD y8.toNat default).fPref), sL 1 (ci .i64) ((a0.getD y8.toNat default).fPath : List Int), .int .u32 ((a0.getD y8.toNat default).fFrom), .int .u32 ((a0.getD y8.toNat default).fNext), sL 2 c_THop ([] : List THop), .bool ((a0.getD y8.toNat default).fDiscard)]]⟩) (le_sub (.cons Sub.rfl (.cons Sub.rfl (.cons Sub.rfl (.cons Sub.rfl (.cons Sub.rfl (.cons Sub.rfl (.cons Sub.rfl .nil))))))) (.cons .rfl (.cons (.box (.cons CSub.rfl (.cons CSub.rfl (.cons CSub.rfl (.cons CSub.rfl (.cons CSub.rfl (.cons CSub.rfl (.cons CSub.rfl (.cons CSub.rfl (.cons CSub.rfl (.cons CSub.rfl (.cons CSub.rfl (.cons CSub.rfl (.cons csub_nil (.cons CSub.rfl .nil))))))))))))))) .nil))) ?_
 refine awp_mono (awp_loop (f := M.ref15_Merge_l3 a0 r1 p2 y8) (S := fun (p9 : (List THop) × Int) => ⟨103, [(0, sL 14 c_TRoute a0), (3, sL 2 c_TPrefix r1), (4, .asl 0 0 p2.1.length), (5, .int .i64 p2.2), (6, .int .i64 y8), (8, .ref 1 0), (9, .int .i64 p9.2)], [aL 14 c_TRoute p2.1, .box [.int .u32 (((a0.getD y8.toNat default).fPrefix).fAddr), .int .i64 (((a0.getD y8.toNat default).fPrefix).fLen), .int .i64 ((a0.getD y8.toNat default).fProto), .int .i64 ((a0.getD y8.toNat default).fClass), .int .i64 ((a0.getD y8.toNat default).fAdmin), .int .i64 ((a0.getD y8.toNat default).fMetric), .int .i64 ((a0.getD y8.toNat default).fInner), .int .i64 ((a0.getD y8.toNat default).fTag), .int .i64 ((a0.getD y8.toNat default).fPref), sL 1 (ci .i64) ((a0.getD y8.toNat default).fPath : List Int), .int .u32 ((a0.getD y8.toNat default).fFrom), .int .u32 ((a0.getD y8.toNat default).fNext), sL 2 c_THop p9.1, .bool ((a0.getD y8.toNat default).fDiscard)]]⟩) (O := (fun z => OutE 4 (fun z => ⟨103, [(0, sL 14 c_TRoute a0), (3, sL 2 c_TPrefix r1), (4, .asl 0 0 p2.1.length), (5, .int .i64 p2.2), (8, .ref 1 0)], [aL 14 c_TRoute p2.1, .box [.int .u32 (((a0.getD y8.toNat default).fPrefix).fAddr), .int .i64 (((a0.getD y8.toNat default).fPrefix).fLen), .int .i64 ((a0.getD y8.toNat default).fProto), .int .i64 ((a0.getD y8.toNat default).fClass), .int .i64 ((a0.getD y8.toNat default).fAdmin), .int .i64 ((a0.getD y8.toNat default).fMetric), .int .i64 ((a0.getD y8.toNat default).fInner), .int .i64 ((a0.getD y8.toNat default).fTag), .int .i64 ((a0.getD y8.toNat default).fPref), sL 1 (ci .i64) ((a0.getD y8.toNat default).fPath : List Int), .int .u32 ((a0.getD y8.toNat default).fFrom), .int .u32 ((a0.getD y8.toNat default).fNext), sL 2 c_THop z, .bool ((a0.getD y8.toNat default).fDiscard)]]⟩) z)) ?_ (x := (([] : List THop), 0)) (y := y14) (loopM_iter q47)) ?_
 intro p9 y10 h30
 unfold M.ref15_Merge_l3 at h30
 refine awp_seq (awp_seq (rg0 [0, 3, 4, 5, 6, 8, 9, 64] 2 ⟨103, [(0, sL 14 c_TRoute a0), (3, sL 2 c_TPrefix r1), (4, .asl 0 0 p2.1.length), (5, .int .i64 p2.2), (6, .int .i64 y8), (8, .ref 1 0), (9, .int .i64 p9.2), (64, .bool (decide (p9.2 < (a0.length : Int))))], [aL 14 c_TRoute p2.1, .box [.int .u32 (((a0.getD y8.toNat default).fPrefix).fAddr), .int .i64 (((a0.getD y8.toNat default).fPrefix).fLen), .int .i64 ((a0.getD y8.toNat default).fProto), .int .i64 ((a0.getD y8.toNat default).fClass), .int .i64 ((a0.getD y8.toNat default).fAdmin), .int .i64 ((a0.getD y8.toNat default).fMetric), .int .i64 ((a0.getD y8.toNat default).fInner), .int .i64 ((a0.getD y8.toNat default).fTag), .int .i64 ((a0.getD y8.toNat default).fPref), sL 1 (ci .i64) ((a0.getD y8.toNat default).fPath : List Int), .int .u32 ((a0.getD y8.toNat default).fFrom), .int .u32 ((a0.getD y8.toNat default).fNext), sL 2 c_THop p9.1, .bool ((a0.getD y8.toNat default).fDiscard)]]⟩ ?_))
 refine then_n ?_
 refine cnd (decide (p9.2 < (a0.length : Int))) (fun b31 => ?_) (fun b31 => ?_)
 have h32 := cond_t b31 h30
 refine awp_skip (then_n ?_)
 refine awp_join (fun (p11 : (List THop)) => ⟨103, [(0, sL 14 c_TRoute a0), (3, sL 2 c_TPrefix r1), (4, .asl 0 0 p2.1.length), (5, .int .i64 p2.2), (6, .int .i64 y8), (8, .ref 1 0), (9, .int .i64 p9.2)], [aL 14 c_TRoute p2.1, .box [.int .u32 (((a0.getD y8.toNat default).fPrefix).fAddr), .int .i64 (((a0.getD y8.toNat default).fPrefix).fLen), .int .i64 ((a0.getD y8.toNat default).fProto), .int .i64 ((a0.getD y8.toNat default).fClass), .int .i64 ((a0.getD y8.toNat default).fAdmin), .int .i64 ((a0.getD y8.toNat default).fMetric), .int .i64 ((a0.getD y8.toNat default).fInner), .int .i64 ((a0.getD y8.toNat default).fTag), .int .i64 ((a0.getD y8.toNat default).fPref), sL 1 (ci .i64) ((a0.getD y8.toNat default).fPath : List Int), .int .u32 ((a0.getD y8.toNat default).fFrom), .int .u32 ((a0.getD y8.toNat default).fNext), sL 2 c_THop p11, .bool ((a0.getD y8.toNat default).fDiscard)]]⟩) (fun p11 => M.ref15_Merge_k2 p9 p11 = some y10) ?_ ?_
 intro p11 h35
 unfold M.ref15_Merge_k2 at h35
 refine rg0 [0, 3, 4, 5, 6, 8, 9] 2 ⟨103, [(0, sL 14 c_TRoute a0), (3, sL 2 c_TPrefix r1), (4, .asl 0 0 p2.1.length), (5, .int .i64 p2.2), (6, .int .i64 y8), (8, .ref 1 0), (9, .int .i64 (wr .i64 (p9.2 + 1)))], [aL 14 c_TRoute p2.1, .box [.int .u32 (((a0.getD y8.toNat default).fPrefix).fAddr), .int .i64 (((a0.getD y8.toNat default).fPrefix).fLen), .int .i64 ((a0.getD y8.toNat default).fProto), .int .i64 ((a0.getD y8.toNat default).fClass), .int .i64 ((a0.getD y8.toNat default).fAdmin), .int .i64 ((a0.getD y8.toNat default).fMetric), .int .i64 ((a0.getD y8.toNat default).fInner), .int .i64 ((a0.getD y8.toNat default).fTag), .int .i64 ((a0.getD y8.toNat default).fPref), sL 1 (ci .i64) ((a0.getD y8.toNat default).fPath : List Int), .int .u32 ((a0.getD y8.toNat default).fFrom), .int .u32 ((a0.getD y8.toNat default).fNext), sL 2 c_THop p11, .bool ((a0.getD y8.toNat default).fDiscard)]]⟩ ?_
 obtain rfl := Option.some.inj h35
 exact round_n (le_rfl)
 intro k34
 refine awp_block (awp_seq ?_)
 obtain ⟨r12, q36, h37⟩ := bind_some h32
 obtain ⟨c38, h39⟩ := gd_some h37
 refine rg [.pure (.int .i64 r12)] [0, 3, 4, 5, 6, 8, 9, 88] 2 ⟨103, [(0, sL 14 c_TRoute a0), (3, sL 2 c_TPrefix r1), (4, .asl 0 0 p2.1.length), (5, .int .i64 p2.2), (6, .int .i64 y8), (8, .ref 1 0), (9, .int .i64 p9.2), (88, .bool ((((((a0.getD p9.2.toNat default).fPrefix).fAddr) == ((r1.getD p2.2.toNat default).fAddr)) && (((((a0.getD p9.2.toNat default).fPrefix).fLen) == ((r1.getD p2.2.toNat default).fLen)) && true)) && (r12 == 0)))], [aL 14 c_TRoute p2.1, .box [.int .u32 (((a0.getD y8.toNat default).fPrefix).fAddr), .int .i64 (((a0.getD y8.toNat default).fPrefix).fLen), .int .i64 ((a0.getD y8.toNat default).fProto), .int .i64 ((a0.getD y8.toNat default).fClass), .int .i64 ((a0.getD y8.toNat default).fAdmin), .int .i64 ((a0.getD y8.toNat default).fMetric), .int .i64 ((a0.getD y8.toNat default).fInner), .int .i64 ((a0.getD y8.toNat default).fTag), .int .i64 ((a0.getD y8.toNat default).fPref), sL 1 (ci .i64) ((a0.getD y8.toNat default).fPath : List Int), .int .u32 ((a0.getD y8.toNat default).fFrom), .int .u32 ((a0.getD y8.toNat default).fNext), sL 2 c_THop p9.1, .bool ((a0.getD y8.toNat default).fDiscard)]]⟩ [decide (0 ≤ p9.2), decide (p9.2 < (a0.length : Int)), decide (0 ≤ p2.2), decide (p2.2 < (r1.length : Int)), guardB (((((a0.getD p9.2.toNat default).fPrefix).fAddr) == ((r1.getD p2.2.toNat default).fAddr)) && (((((a0.getD p9.2.toNat default).fPrefix).fLen) == ((r1.getD p2.2.toNat default).fLen)) && true)) (decide (0 ≤ p9.2)), guardB (((((a0.getD p9.2.toNat default).fPrefix).fAddr) == ((r1.getD p2.2.toNat default).fAddr)) && (((((a0.getD p9.2.toNat default).fPrefix).fLen) == ((r1.getD p2.2.toNat default).fLen)) && true)) (decide (p9.2 < (a0.length : Int))), guardB (((((a0.getD p9.2.toNat default).fPrefix).fAddr) == ((r1.getD p2.2.toNat default).fAddr)) && (((((a0.getD p9.2.toNat default).fPrefix).fLen) == ((r1.getD p2.2.toNat default).fLen)) && true)) (decide (0 ≤ y8)), guardB (((((a0.getD p9.2.toNat default).fPrefix).fAddr) == ((r1.getD p2.2.toNat default).fAddr)) && (((((a0.getD p9.2.toNat default).fPrefix).fLen) == ((r1.getD p2.2.toNat default).fLen)) && true)) (decide (y8 < (a0.length : Int)))] [⟨(((((a0.getD p9.2.toNat default).fPrefix).fAddr) == ((r1.getD p2.2.toNat default).fAddr)) && (((((a0.getD p9.2.toNat default).fPrefix).fLen) == ((r1.getD p2.2.toNat default).fLen)) && true)), 18, [.agg (c_TRoute (a0.getD p9.2.toNat default)), .agg (c_TRoute (a0.getD y8.toNat default))], .pure (.int .i64 r12)⟩] c38 ⟨fun hg => ref15_Prefer_ok (a0.getD p9.2.toNat default) (a0.getD y8.toNat default) r12 (gc_some q36 hg), trivial⟩ ?_
 refine then_n ?_
 refine cnd ((((((a0.getD p9.2.toNat default).fPrefix).fAddr) == ((r1.getD p2.2.toNat default).fAddr)) && (((((a0.getD p9.2.toNat default).fPrefix).fLen) == ((r1.getD p2.2.toNat default).fLen)) && true)) && (r12 == 0)) (fun b40 => ?_) (fun b40 => ?_)
 have h41 := cond_t b40 h39
 obtain ⟨r13, q43, h44⟩ := bind_some h41
 obtain ⟨c45, h46⟩ := gd_some h44
 refine rgw [.pure (sL 2 c_THop r13)] [0, 3, 4, 5, 6, 8, 9] 2 ⟨103, [(0, sL 14 c_TRoute a0), (3, sL 2 c_TPrefix r1), (4, .asl 0 0 p2.1.length), (5, .int .i64 p2.2), (6, .int .i64 y8), (8, .ref 1 0), (9, .int .i64 p9.2)], [aL 14 c_TRoute p2.1, .box [.int .u32 (((a0.getD y8.toNat default).fPrefix).fAddr), .int .i64 (((a0.getD y8.toNat default).fPrefix).fLen), .int .i64 ((a0.getD y8.toNat default).fProto), .int .i64 ((a0.getD y8.toNat default).fClass), .int .i64 ((a0.getD y8.toNat default).fAdmin), .int .i64 ((a0.getD y8.toNat default).fMetric), .int .i64 ((a0.getD y8.toNat default).fInner), .int .i64 ((a0.getD y8.toNat default).fTag), .int .i64 ((a0.getD y8.toNat default).fPref), sL 1 (ci .i64) ((a0.getD y8.toNat default).fPath : List Int), .int .u32 ((a0.getD y8.toNat default).fFrom), .int .u32 ((a0.getD y8.toNat default).fNext), sL 2 c_THop r13, .bool ((a0.getD y8.toNat default).fDiscard)]]⟩ [decide (0 ≤ p9.2), decide (p9.2 < (a0.length : Int))] [⟨true, 64, [sL 2 c_THop p9.1, sL 2 c_THop ((a0.getD p9.2.toNat default).fHops)], .pure (sL 2 c_THop r13)⟩] c45 ⟨fun _ => ref15_AddHops_ok p9.1 ((a0.getD p9.2.toNat default).fHops) r13 q43, trivial⟩ ?_
 refine inb_n ?_
 exact then_le (le_rfl) (k34 r13 h46)
 have h42 := cond_f b40 h39
 refine awp_skip (inb_n ?_)
 exact then_le (kp [0, 3, 4, 5, 6, 8, 9]) (k34 p9.1 h42)
 have h33 := cond_f b31 h30
 refine awp_exit (then_e ?_)
 obtain rfl := Option.some.inj h33
 exact round_e ⟨rfl, kp [0, 3, 4, 5, 8]⟩
 intro e49 s50 o51
 obtain ⟨rfl, l52⟩ := o51
 refine inb_here ?_
 refine then_le (s' := ⟨103, [(0, sL 14 c_TRoute a0), (3, sL 2 c_TPrefix r1), (4, .asl 0 0 p2.1.length), (5, .int .i64 p2.2), (8, .ref 1 0)], [aL 14 c_TRoute p2.1, .box [.int .u32 (((a0.getD y8.toNat default).fPrefix).fAddr), .int .i64 (((a0.getD y8.toNat default).fPrefix).fLen), .int .i64 ((a0.getD y8.toNat default).fProto), .int .i64 ((a0.getD y8.toNat default).fClass), .int .i64 ((a0.getD y8.toNat default).fAdmin), .int .i64 ((a0.getD y8.toNat default).fMetric), .int .i64 ((a0.getD y8.toNat default).fInner), .int .i64 ((a0.getD y8.toNat default).fTag), .int .i64 ((a0.getD y8.toNat default).fPref), sL 1 (ci .i64) ((a0.getD y8.toNat default).fPath : List Int), .int .u32 ((a0.getD y8.toNat default).fFrom), .int .u32 ((a0.getD y8.toNat default).fNext), sL 2 c_THop y14, .bool ((a0.getD y8.toNat default).fDiscard)]]⟩) (l52) ?_
 obtain ⟨c53, h54⟩ := gd_some h48
 refine rgc [0, 3, 4, 5] 1 ⟨103, [(0, sL 14 c_TRoute a0), (3, sL 2 c_TPrefix r1), (4, .asl 0 0 (p2.1.length + 1)), (5, .int .i64 p2.2)], [.arr 14 (p2.1.length + 1) (app (fun i => c_TRoute (p2.1.getD i default)) p2.1.length (fun i => List.take 14 (List.drop (i * 14) [.int .u32 (((a0.getD y8.toNat default).fPrefix).fAddr), .int .i64 (((a0.getD y8.toNat default).fPrefix).fLen), .int .i64 ((a0.getD y8.toNat default).fProto), .int .i64 ((a0.getD y8.toNat default).fClass), .int .i64 ((a0.getD y8.toNat default).fAdmin), .int .i64 ((a0.getD y8.toNat default).fMetric), .int .i64 ((a0.getD y8.toNat default).fInner), .int .i64 ((a0.getD y8.toNat default).fTag), .int .i64 ((a0.getD y8.toNat default).fPref), sL 1 (ci .i64) ((a0.getD y8.toNat default).fPath : List Int), .int .u32 ((a0.getD y8.toNat default).fFrom), .int .u32 ((a0.getD y8.toNat default).fNext), sL 2 c_THop y14, .bool ((a0.getD y8.toNat default).fDiscard)])))]⟩ [decide ((p2.1.length + 1) * 136 ≤ 140737488355328)] c53 ?_
 refine inb_n ?_
 refine then_le (s' := ⟨103, [(0, sL 14 c_TRoute a0), (3, sL 2 c_TPrefix r1), (4, .asl 0 0 ((p2.1 ++ [(⟨(a0.getD y8.toNat default).fPrefix, (a0.getD y8.toNat default).fProto, (a0.getD y8.toNat default).fClass, (a0.getD y8.toNat default).fAdmin, (a0.getD y8.toNat default).fMetric, (a0.getD y8.toNat default).fInner, (a0.getD y8.toNat default).fTag, (a0.getD y8.toNat default).fPref, ((a0.getD y8.toNat default).fPath : List Int), (a0.getD y8.toNat default).fFrom, (a0.getD y8.toNat default).fNext, y14, (a0.getD y8.toNat default).fDiscard⟩ : TRoute)]).length)), (5, .int .i64 p2.2)], [aL 14 c_TRoute (p2.1 ++ [(⟨(a0.getD y8.toNat default).fPrefix, (a0.getD y8.toNat default).fProto, (a0.getD y8.toNat default).fClass, (a0.getD y8.toNat default).fAdmin, (a0.getD y8.toNat default).fMetric, (a0.getD y8.toNat default).fInner, (a0.getD y8.toNat default).fTag, (a0.getD y8.toNat default).fPref, ((a0.getD y8.toNat default).fPath : List Int), (a0.getD y8.toNat default).fFrom, (a0.getD y8.toNat default).fNext, y14, (a0.getD y8.toNat default).fDiscard⟩ : TRoute)])]⟩) (le_sub (.cons Sub.rfl (.cons Sub.rfl (.cons (asl_len (len_snoc _ _)) (.cons Sub.rfl .nil)))) (.cons (.arr (len_snoc _ _) (app_snoc c_TRoute p2.1 (⟨(a0.getD y8.toNat default).fPrefix, (a0.getD y8.toNat default).fProto, (a0.getD y8.toNat default).fClass, (a0.getD y8.toNat default).fAdmin, (a0.getD y8.toNat default).fMetric, (a0.getD y8.toNat default).fInner, (a0.getD y8.toNat default).fTag, (a0.getD y8.toNat default).fPref, ((a0.getD y8.toNat default).fPath : List Int), (a0.getD y8.toNat default).fFrom, (a0.getD y8.toNat default).fNext, y14, (a0.getD y8.toNat default).fDiscard⟩ : TRoute) _ rfl)) .nil)) ?_
 refine rg0 [0, 3, 4, 5] 1 ⟨103, [(0, sL 14 c_TRoute a0), (3, sL 2 c_TPrefix r1), (4, .asl 0 0 ((p2.1 ++ [(⟨(a0.getD y8.toNat default).fPrefix, (a0.getD y8.toNat default).fProto, (a0.getD y8.toNat default).fClass, (a0.getD y8.toNat default).fAdmin, (a0.getD y8.toNat default).fMetric, (a0.getD y8.toNat default).fInner, (a0.getD y8.toNat default).fTag, (a0.getD y8.toNat default).fPref, ((a0.getD y8.toNat default).fPath : List Int), (a0.getD y8.toNat default).fFrom, (a0.getD y8.toNat default).fNext, y14, (a0.getD y8.toNat default).fDiscard⟩ : TRoute)]).length)), (5, .int .i64 (wr .i64 (p2.2 + 1)))], [aL 14 c_TRoute (p2.1 ++ [(⟨(a0.getD y8.toNat default).fPrefix, (a0.getD y8.toNat default).fProto, (a0.getD y8.toNat default).fClass, (a0.getD y8.toNat default).fAdmin, (a0.getD y8.toNat default).fMetric, (a0.getD y8.toNat default).fInner, (a0.getD y8.toNat default).fTag, (a0.getD y8.toNat default).fPref, ((a0.getD y8.toNat default).fPath : List Int), (a0.getD y8.toNat default).fFrom, (a0.getD y8.toNat default).fNext, y14, (a0.getD y8.toNat default).fDiscard⟩ : TRoute)])]⟩ ?_
 obtain rfl := Option.some.inj h54
 exact round_n (le_rfl)
 have h6 := cond_f b4 h3
 refine awp_exit (then_e ?_)
 obtain rfl := Option.some.inj h6
 exact round_e ⟨rfl, kp [4]⟩
 intro e57 s58 o59
 obtain ⟨rfl, l60⟩ := o59
 refine inb_here ?_
 refine then_le (s' := ⟨103, [(4, .asl 0 0 y15.length)], [aL 14 c_TRoute y15]⟩) (l60) ?_
 refine awp_seq (rg0 [2] 1 ⟨103, [(2, .asl 0 0 y15.length)], [aL 14 c_TRoute y15]⟩ ?_)
 refine then_n (awp_ret ?_)
 obtain rfl := Option.some.inj h56
 exact er (.sl false 14 y15.length (fun i => c_TRoute (y15.getD (0 + i) default))) sub_asl
theorem ref15_Table_ok (a0 : List TRoute) (a1 : Int) (r : Bool) (h : M.ref15_Table a0 a1 = some r) : Fn Try.prog 21 [sL 14 c_TRoute a0, .int .i64 a1] (.pure (.bool r)) := by
 unfold M.ref15_Table at h
 refine fn_pure Try.func21 rfl (by kernel_rfl) ?_
 refine awp_seq (rg0 [0, 1] 0 ⟨50, [(0, sL 14 c_TRoute a0), (1, .int .i64 a1)], []⟩ ?_)
 refine then_n (awp_seq (awp_seq (rg0 [0, 1, 5] 0 ⟨50, [(0, sL 14 c_TRoute a0), (1, .int .i64 a1), (5, .int .i64 0)], []⟩ ?_)))
 refine then_n (awp_block ?_)
 obtain ⟨y5, q14, h15⟩ := bind_some h
 refine awp_le (s' := ⟨50, [(0, sL 14 c_TRoute a0), (1, .int .i64 a1), (5, .int .i64 0)], []⟩) (le_rfl) ?_
 refine awp_mono (awp_loop (f := M.ref15_Table_l1 a0 a1) (S := fun (p1 : Int) => ⟨50, [(0, sL 14 c_TRoute a0), (1, .int .i64 a1), (5, .int .i64 p1)], []⟩) (O := (Sum.elim (fun z => OutE 0 (fun z => ⟨50, [], []⟩) z) (fun z => OutR Try.prog Try.f21 (.bool z)))) ?_ (x := 0) (y := y5) (loopM_iter q14)) ?_
 intro p1 y2 h1
 unfold M.ref15_Table_l1 at h1
 refine awp_seq (awp_seq (rg0 [0, 1, 5, 9] 0 ⟨50, [(0, sL 14 c_TRoute a0), (1, .int .i64 a1), (5, .int .i64 p1), (9, .bool (decide (p1 < (a0.length : Int))))], []⟩ ?_))
 refine then_n ?_
 refine cnd (decide (p1 < (a0.length : Int))) (fun b2 => ?_) (fun b2 => ?_)
 have h3 := cond_t b2 h1
 refine awp_skip (then_n (awp_seq (awp_block (awp_seq ?_))))
 obtain ⟨r3, q5, h6⟩ := bind_some h3
 obtain ⟨r4, q7, h8⟩ := bind_some h6
 obtain ⟨c9, h10⟩ := gd_some h8
 refine rg [.pure (.bool r3), .pure (.int .i64 r4)] [0, 1, 5, 49] 0 ⟨50, [(0, sL 14 c_TRoute a0), (1, .int .i64 a1), (5, .int .i64 p1), (49, .bool (((!r3) || ((a1 != 0) && (((a0.getD p1.toNat default).fProto) != a1))) || ((decide (p1 > 0)) && (decide (r4 ≥ 0)))))], []⟩ [decide (0 ≤ p1), decide (p1 < (a0.length : Int)), guardB ((!(!r3)) && (a1 != 0)) (decide (0 ≤ p1)), guardB ((!(!r3)) && (a1 != 0)) (decide (p1 < (a0.length : Int))), guardB ((!((!r3) || ((a1 != 0) && (((a0.getD p1.toNat default).fProto) != a1)))) && (decide (p1 > 0))) (decide (0 ≤ (wr .i64 (p1 - 1)))), guardB ((!((!r3) || ((a1 != 0) && (((a0.getD p1.toNat default).fProto) != a1)))) && (decide (p1 > 0))) (decide ((wr .i64 (p1 - 1)) < (a0.length : Int))), guardB ((!((!r3) || ((a1 != 0) && (((a0.getD p1.toNat default).fProto) != a1)))) && (decide (p1 > 0))) (decide (0 ≤ p1)), guardB ((!((!r3) || ((a1 != 0) && (((a0.getD p1.toNat default).fProto) != a1)))) && (decide (p1 > 0))) (decide (p1 < (a0.length : Int)))] [⟨true, 14, [.agg (c_TRoute (a0.getD p1.toNat default))], .pure (.bool r3)⟩, ⟨((!((!r3) || ((a1 != 0) && (((a0.getD p1.toNat default).fProto) != a1)))) && (decide (p1 > 0))), 57, [.agg (c_TPrefix ((a0.getD (wr .i64 (p1 - 1)).toNat default).fPrefix)), .agg (c_TPrefix ((a0.getD p1.toNat default).fPrefix))], .pure (.int .i64 r4)⟩] c9 ⟨fun _ => ref15_Valid_ok (a0.getD p1.toNat default) r3 q5, fun hg => ref4_Compare_ok ((a0.getD (wr .i64 (p1 - 1)).toNat default).fPrefix) ((a0.getD p1.toNat default).fPrefix) r4 (gc_some q7 hg), trivial⟩ ?_
 refine then_n ?_
 refine cnd (((!r3) || ((a1 != 0) && (((a0.getD p1.toNat default).fProto) != a1))) || ((decide (p1 > 0)) && (decide (r4 ≥ 0)))) (fun b11 => ?_) (fun b11 => ?_)
 have h12 := cond_t b11 h10
 refine awp_seq (rg0 [4] 0 ⟨50, [(4, .bool false)], []⟩ ?_)
 refine then_n (awp_ret (inb_r (then_r ?_)))
 obtain rfl := Option.some.inj h12
 exact round_r ⟨rfl, er0 (.bool false)⟩
 have h13 := cond_f b11 h10
 refine awp_skip (inb_n (then_n (rg0 [0, 1, 5] 0 ⟨50, [(0, sL 14 c_TRoute a0), (1, .int .i64 a1), (5, .int .i64 (wr .i64 (p1 + 1)))], []⟩ ?_)))
 obtain rfl := Option.some.inj h13
 exact round_n (le_rfl)
 have h4 := cond_f b2 h1
 refine awp_exit (then_e ?_)
 obtain rfl := Option.some.inj h4
 exact round_e ⟨rfl, kp []⟩
 intro e16 s17 o18
 rcases y5 with g6 | y7
 have h19 := elim_l h15
 obtain ⟨rfl, l21⟩ := o18
 refine inb_here ?_
 refine then_le (s' := ⟨50, [], []⟩) (l21) ?_
 refine awp_seq (rg0 [4] 0 ⟨50, [(4, .bool true)], []⟩ ?_)
 refine then_n (awp_ret ?_)
 obtain rfl := Option.some.inj h19
 exact er0 (.bool true)
 have h20 := elim_r h15
 obtain ⟨rfl, n22⟩ := o18
 refine inb_r (then_r ?_)
 obtain rfl := Option.some.inj h20
 exact n22
theorem slices_Clone_api_Route_api_Route_own (a0 : List TRoute) (r : List TRoute) (h : M.slices_Clone_api_Route_api_Route a0 = some r) : Fn Try.prog 52 [sL 14 c_TRoute a0] (oL 14 c_TRoute r) := by
 unfold M.slices_Clone_api_Route_api_Route at h
 obtain ⟨hc, h1⟩ := gd_some h
 obtain rfl := Option.some.inj h1
 refine fn_own Try.func52 rfl (by kernel_rfl) (awp_ends_le ?_)
 refine awp_seq (rg0 [0] 0 ⟨8, [(0, sL 14 c_TRoute a0)], []⟩ ?_)
 refine then_n (awp_seq (awp_seq (rg0 [0, 4] 0 ⟨8, [(0, sL 14 c_TRoute a0), (4, .nilq a0.length)], []⟩ ?_)))
 refine then_n (nq a0.length (fun hz => ?_) ?_)
 refine awp_seq (rg0 [2] 0 ⟨8, [(2, .sl true 14 0 (fun _ => []))], []⟩ ?_)
 refine then_n (awp_ret (then_r ?_))
 obtain rfl := List.eq_nil_of_length_eq_zero hz
 exact ⟨_, le_thaw (wd := 14) (f := fun _ => []) 2 (by kernel_rfl) 14 (fun i => c_TRoute (([] : List TRoute).getD i default)), .inr rfl, 2, 0, _, rfl, rfl, rfl, fun _ _ => rfl⟩
 refine awp_skip (then_n (awp_seq (rgc [2] 1 ⟨8, [(2, .asl 0 0 (0 + a0.length))], [.arr 14 (0 + a0.length) (app (fun i => List.take 14 (List.drop (i * 14) [])) 0 (fun i => c_TRoute (a0.getD i default)))]⟩ [decide (0 = 0) || decide (0 < a0.length), decide ((0 + a0.length) * 136 ≤ 140737488355328)] hc ?_)))
 refine then_n (awp_ret ?_)
 exact ⟨⟨8, [(2, .asl 0 0 a0.length)], [aL 14 c_TRoute a0]⟩, le_sub (.cons (asl_len (Nat.zero_add _)) .nil) (.cons (.arr (Nat.zero_add _) (app_nil c_TRoute _ a0 _ (fun _ _ => rfl))) .nil), .inr rfl, 2, 0, _, rfl, rfl, rfl, fun _ _ => rfl⟩
theorem cmp_isNaN_uint32_ok (a0 : Int) (r : Bool) (h : M.cmp_isNaN_uint32 a0 = some r) : Fn Try.prog 71 [.int .u32 a0] (.pure (.bool r)) := by
 unfold M.cmp_isNaN_uint32 at h
 refine fn_pure Try.func71 rfl (by kernel_rfl) ?_
 refine awp_seq (rg0 [0] 0 ⟨6, [(0, .int .u32 a0)], []⟩ ?_)
 refine then_n (awp_seq (rg0 [2] 0 ⟨6, [(2, .bool (a0 != a0))], []⟩ ?_))
 refine then_n (awp_ret ?_)
 obtain rfl := Option.some.inj h
 exact er0 (.bool (a0 != a0))
theorem cmp_Compare_uint32_ok (a0 : Int) (a1 : Int) (r : Int) (h : M.cmp_Compare_uint32 a0 a1 = some r) : Fn Try.prog 50 [.int .u32 a0, .int .u32 a1] (.pure (.int .i64 r)) := by
 unfold M.cmp_Compare_uint32 at h
 refine fn_pure Try.func50 rfl (by kernel_rfl) ?_
 refine awp_seq (rg0 [0, 1] 0 ⟨20, [(0, .int .u32 a0), (1, .int .u32 a1)], []⟩ ?_)
 refine then_n (awp_seq ?_)
 obtain ⟨r1, q1, h2⟩ := bind_some h
 refine rg [.pure (.bool r1)] [0, 1, 5] 0 ⟨20, [(0, .int .u32 a0), (1, .int .u32 a1), (5, .bool r1)], []⟩ [] [⟨true, 71, [.int .u32 a0], .pure (.bool r1)⟩] nil_all ⟨fun _ => cmp_isNaN_uint32_ok a0 r1 q1, trivial⟩ ?_
 refine then_n (awp_seq ?_)
 obtain ⟨r2, q3, h4⟩ := bind_some h2
 refine rg [.pure (.bool r2)] [0, 1, 5, 6] 0 ⟨20, [(0, .int .u32 a0), (1, .int .u32 a1), (5, .bool r1), (6, .bool r2)], []⟩ [] [⟨true, 71, [.int .u32 a1], .pure (.bool r2)⟩] nil_all ⟨fun _ => cmp_isNaN_uint32_ok a1 r2 q3, trivial⟩ ?_
 refine then_n (awp_seq (awp_seq (rg0 [0, 1, 6, 11] 0 ⟨20, [(0, .int .u32 a0), (1, .int .u32 a1), (6, .bool r2), (11, .bool r1)], []⟩ ?_)))
 refine then_n ?_
 refine cnd r1 (fun b5 => ?_) (fun b5 => ?_)
 have h6 := cond_t b5 h4
 refine awp_seq (awp_seq (rg0 [12] 0 ⟨20, [(12, .bool r2)], []⟩ ?_))
 refine then_n ?_
 refine cnd r2 (fun b8 => ?_) (fun b8 => ?_)
 have h9 := cond_t b8 h6
 refine awp_seq (rg0 [4] 0 ⟨20, [(4, .int .i64 0)], []⟩ ?_)
 refine then_n (awp_ret (then_r (then_r ?_)))
 obtain rfl := Option.some.inj h9
 exact er0 (.int .i64 0)
 have h10 := cond_f b8 h6
 refine awp_skip (then_n (awp_seq (rg0 [4] 0 ⟨20, [(4, .int .i64 (-1))], []⟩ ?_)))
 refine then_n (awp_ret (then_r ?_))
 obtain rfl := Option.some.inj h10
 exact er0 (.int .i64 (-1))
 have h7 := cond_f b5 h4
 refine awp_skip (then_n (awp_seq (awp_seq (rg0 [0, 1, 13] 0 ⟨20, [(0, .int .u32 a0), (1, .int .u32 a1), (13, .bool r2)], []⟩ ?_))))
 refine then_n ?_
 refine cnd r2 (fun b11 => ?_) (fun b11 => ?_)
 have h12 := cond_t b11 h7
 refine awp_seq (rg0 [4] 0 ⟨20, [(4, .int .i64 1)], []⟩ ?_)
 refine then_n (awp_ret (then_r ?_))
 obtain rfl := Option.some.inj h12
 exact er0 (.int .i64 1)
 have h13 := cond_f b11 h7
 refine awp_skip (then_n (awp_seq (awp_seq (rg0 [0, 1, 16] 0 ⟨20, [(0, .int .u32 a0), (1, .int .u32 a1), (16, .bool (decide (a0 < a1)))], []⟩ ?_))))
 refine then_n ?_
 refine cnd (decide (a0 < a1)) (fun b14 => ?_) (fun b14 => ?_)
 have h15 := cond_t b14 h13
 refine awp_seq (rg0 [4] 0 ⟨20, [(4, .int .i64 (-1))], []⟩ ?_)
 refine then_n (awp_ret (then_r ?_))
 obtain rfl := Option.some.inj h15
 exact er0 (.int .i64 (-1))
 have h16 := cond_f b14 h13
 refine awp_skip (then_n (awp_seq (awp_seq (rg0 [19] 0 ⟨20, [(19, .bool (decide (a0 > a1)))], []⟩ ?_))))
 refine then_n ?_
 refine cnd (decide (a0 > a1)) (fun b17 => ?_) (fun b17 => ?_)
 have h18 := cond_t b17 h16
 refine awp_seq (rg0 [4] 0 ⟨20, [(4, .int .i64 1)], []⟩ ?_)
 refine then_n (awp_ret (then_r ?_))
 obtain rfl := Option.some.inj h18
 exact er0 (.int .i64 1)
 have h19 := cond_f b17 h16
 refine awp_skip (then_n (awp_seq (rg0 [4] 0 ⟨20, [(4, .int .i64 0)], []⟩ ?_)))
 refine then_n (awp_ret ?_)
 obtain rfl := Option.some.inj h19
 exact er0 (.int .i64 0)
theorem cmp_isNaN_int_ok (a0 : Int) (r : Bool) (h : M.cmp_isNaN_int a0 = some r) : Fn Try.prog 70 [.int .i64 a0] (.pure (.bool r)) := by
 unfold M.cmp_isNaN_int at h
 refine fn_pure Try.func70 rfl (by kernel_rfl) ?_
 refine awp_seq (rg0 [0] 0 ⟨6, [(0, .int .i64 a0)], []⟩ ?_)
 refine then_n (awp_seq (rg0 [2] 0 ⟨6, [(2, .bool (a0 != a0))], []⟩ ?_))
 refine then_n (awp_ret ?_)
 obtain rfl := Option.some.inj h
 exact er0 (.bool (a0 != a0))
theorem cmp_Compare_int_ok (a0 : Int) (a1 : Int) (r : Int) (h : M.cmp_Compare_int a0 a1 = some r) : Fn Try.prog 47 [.int .i64 a0, .int .i64 a1] (.pure (.int .i64 r)) := by
 unfold M.cmp_Compare_int at h
 refine fn_pure Try.func47 rfl (by kernel_rfl) ?_
 refine awp_seq (rg0 [0, 1] 0 ⟨20, [(0, .int .i64 a0), (1, .int .i64 a1)], []⟩ ?_)
 refine then_n (awp_seq ?_)
 obtain ⟨r1, q1, h2⟩ := bind_some h
 refine rg [.pure (.bool r1)] [0, 1, 5] 0 ⟨20, [(0, .int .i64 a0), (1, .int .i64 a1), (5, .bool r1)], []⟩ [] [⟨true, 70, [.int .i64 a0], .pure (.bool r1)⟩] nil_all ⟨fun _ => cmp_isNaN_int_ok a0 r1 q1, trivial⟩ ?_
 refine then_n (awp_seq ?_)
 obtain ⟨r2, q3, h4⟩ := bind_some h2
 refine rg [.pure (.bool r2)] [0, 1, 5, 6] 0 ⟨20, [(0, .int .i64 a0), (1, .int .i64 a1), (5, .bool r1), (6, .bool r2)], []⟩ [] [⟨true, 70, [.int .i64 a1], .pure (.bool r2)⟩] nil_all ⟨fun _ => cmp_isNaN_int_ok a1 r2 q3, trivial⟩ ?_
 refine then_n (awp_seq (awp_seq (rg0 [0, 1, 6, 11] 0 ⟨20, [(0, .int .i64 a0), (1, .int .i64 a1), (6, .bool r2), (11, .bool r1)], []⟩ ?_)))
 refine then_n ?_
 refine cnd r1 (fun b5 => ?_) (fun b5 => ?_)
 have h6 := cond_t b5 h4
 refine awp_seq (awp_seq (rg0 [12] 0 ⟨20, [(12, .bool r2)], []⟩ ?_))
 refine then_n ?_
 refine cnd r2 (fun b8 => ?_) (fun b8 => ?_)
 have h9 := cond_t b8 h6
 refine awp_seq (rg0 [4] 0 ⟨20, [(4, .int .i64 0)], []⟩ ?_)
 refine then_n (awp_ret (then_r (then_r ?_)))
 obtain rfl := Option.some.inj h9
 exact er0 (.int .i64 0)
 have h10 := cond_f b8 h6
 refine awp_skip (then_n (awp_seq (rg0 [4] 0 ⟨20, [(4, .int .i64 (-1))], []⟩ ?_)))
 refine then_n (awp_ret (then_r ?_))
 obtain rfl := Option.some.inj h10
 exact er0 (.int .i64 (-1))
 have h7 := cond_f b5 h4
 refine awp_skip (then_n (awp_seq (awp_seq (rg0 [0, 1, 13] 0 ⟨20, [(0, .int .i64 a0), (1, .int .i64 a1), (13, .bool r2)], []⟩ ?_))))
 refine then_n ?_
 refine cnd r2 (fun b11 => ?_) (fun b11 => ?_)
 have h12 := cond_t b11 h7
 refine awp_seq (rg0 [4] 0 ⟨20, [(4, .int .i64 1)], []⟩ ?_)
 refine then_n (awp_ret (then_r ?_))
 obtain rfl := Option.some.inj h12
 exact er0 (.int .i64 1)
 have h13 := cond_f b11 h7
 refine awp_skip (then_n (awp_seq (awp_seq (rg0 [0, 1, 16] 0 ⟨20, [(0, .int .i64 a0), (1, .int .i64 a1), (16, .bool (decide (a0 < a1)))], []⟩ ?_))))
 refine then_n ?_
 refine cnd (decide (a0 < a1)) (fun b14 => ?_) (fun b14 => ?_)
 have h15 := cond_t b14 h13
 refine awp_seq (rg0 [4] 0 ⟨20, [(4, .int .i64 (-1))], []⟩ ?_)
 refine then_n (awp_ret (then_r ?_))
 obtain rfl := Option.some.inj h15
 exact er0 (.int .i64 (-1))
 have h16 := cond_f b14 h13
 refine awp_skip (then_n (awp_seq (awp_seq (rg0 [19] 0 ⟨20, [(19, .bool (decide (a0 > a1)))], []⟩ ?_))))
 refine then_n ?_
 refine cnd (decide (a0 > a1)) (fun b17 => ?_) (fun b17 => ?_)
 have h18 := cond_t b17 h16
 refine awp_seq (rg0 [4] 0 ⟨20, [(4, .int .i64 1)], []⟩ ?_)
 refine then_n (awp_ret (then_r ?_))
 obtain rfl := Option.some.inj h18
 exact er0 (.int .i64 1)
 have h19 := cond_f b17 h16
 refine awp_skip (then_n (awp_seq (rg0 [4] 0 ⟨20, [(4, .int .i64 0)], []⟩ ?_)))
 refine then_n (awp_ret ?_)
 obtain rfl := Option.some.inj h19
 exact er0 (.int .i64 0)
theorem addr_Compare_ok (a0 : TPrefix) (a1 : TPrefix) (r : Int) (h : M.addr_Compare a0 a1 = some r) : Fn Try.prog 55 [.agg (c_TPrefix a0), .agg (c_TPrefix a1)] (.pure (.int .i64 r)) := by
 unfold M.addr_Compare at h
 refine fn_pure Try.func55 rfl (by kernel_rfl) ?_
 refine awp_seq (rg0 [2, 3] 2 ⟨19, [(2, .ref 0 0), (3, .ref 1 0)], [.box (c_TPrefix a0), .box (c_TPrefix a1)]⟩ ?_)
 refine then_n (awp_seq (awp_seq ?_))
 obtain ⟨r1, q1, h2⟩ := bind_some h
 refine rg [.pure (.int .i64 r1)] [2, 3, 5] 2 ⟨19, [(2, .ref 0 0), (3, .ref 1 0), (5, .int .i64 r1)], [.box (c_TPrefix a0), .box (c_TPrefix a1)]⟩ [] [⟨true, 50, [.int .u32 a0.fAddr, .int .u32 a1.fAddr], .pure (.int .i64 r1)⟩] nil_all ⟨fun _ => cmp_Compare_uint32_ok a0.fAddr a1.fAddr r1 q1, trivial⟩ ?_
 refine then_n (awp_seq (rg0 [2, 3, 5, 12] 2 ⟨19, [(2, .ref 0 0), (3, .ref 1 0), (5, .int .i64 r1), (12, .bool (r1 != 0))], [.box (c_TPrefix a0), .box (c_TPrefix a1)]⟩ ?_))
 refine then_n ?_
 refine cnd (r1 != 0) (fun b3 => ?_) (fun b3 => ?_)
 have h4 := cond_t b3 h2
 refine awp_seq (rg0 [4] 0 ⟨19, [(4, .int .i64 r1)], []⟩ ?_)
 refine then_n (awp_ret (then_r ?_))
 obtain rfl := Option.some.inj h4
 exact er0 (.int .i64 r1)
 have h5 := cond_f b3 h2
 refine awp_skip (then_n (awp_seq ?_))
 obtain ⟨r2, q6, h7⟩ := bind_some h5
 refine rg [.pure (.int .i64 r2)] [4] 0 ⟨19, [(4, .int .i64 r2)], []⟩ [] [⟨true, 47, [.int .i64 a0.fLen, .int .i64 a1.fLen], .pure (.int .i64 r2)⟩] nil_all ⟨fun _ => cmp_Compare_int_ok a0.fLen a1.fLen r2 q6, trivial⟩ ?_
 refine then_n (awp_ret ?_)
 obtain rfl := Option.some.inj h7
 exact er0 (.int .i64 r2)
theorem route_Merge_1_ok (a0 : TRoute) (a1 : TRoute) (r : Int) (h : M.route_Merge_1 a0 a1 = some r) : Fn Try.prog 54 [.agg (c_TRoute a0), .agg (c_TRoute a1)] (.pure (.int .i64 r)) := by
 unfold M.route_Merge_1 at h
 refine fn_pure Try.func54 rfl (by kernel_rfl) ?_
 refine awp_seq (rg0 [2, 3] 2 ⟨10, [(2, .ref 0 0), (3, .ref 1 0)], [.box (c_TRoute a0), .box (c_TRoute a1)]⟩ ?_)
 refine then_n (awp_seq ?_)
 obtain ⟨r1, q1, h2⟩ := bind_some h
 refine rg [.pure (.int .i64 r1)] [4] 0 ⟨10, [(4, .int .i64 r1)], []⟩ [] [⟨true, 55, [.agg (c_TPrefix a0.fPrefix), .agg (c_TPrefix a1.fPrefix)], .pure (.int .i64 r1)⟩] nil_all ⟨fun _ => addr_Compare_ok a0.fPrefix a1.fPrefix r1 q1, trivial⟩ ?_
 refine then_n (awp_ret ?_)
 obtain rfl := Option.some.inj h2
 exact er0 (.int .i64 r1)
theorem slices_insertionSortCmpFunc_api_Route__route_Merge_1_ok (a0 : List TRoute) (a1 : Int) (a2 : Int) (r : (List TRoute)) (h : M.slices_insertionSortCmpFunc_api_Route__route_Merge_1 a0 a1 a2 = some r) : FnM Try.prog 78 [.asl 0 0 a0.length, .int .i64 a1, .int .i64 a2, .fn 54 []] 14 a0.length (fun i => c_TRoute (a0.getD i default)) (fun i => c_TRoute (r.getD i default)) (.tup []) := by
 unfold M.slices_insertionSortCmpFunc_api_Route__route_Merge_1 at h
 refine fn_mut Try.func78 rfl (by kernel_rfl) ?_
 refine awp_seq (rg0 [0, 1, 2, 3, 8] 2 ⟨53, [(0, .asl 0 0 a0.length), (1, .int .i64 a1), (2, .int .i64 a2), (3, .fn 54 []), (8, .int .i64 (wr .i64 (a1 + 1)))], [aL 14 c_TRoute a0, .gone]⟩ ?_)
 refine then_n (awp_block ?_)
 obtain ⟨y7, q21, h22⟩ := bind_some h
 refine awp_le (s' := ⟨53, [(0, .asl 0 0 a0.length), (1, .int .i64 a1), (2, .int .i64 a2), (3, .fn 54 []), (8, .int .i64 (wr .i64 (a1 + 1)))], [aL 14 c_TRoute a0, .gone]⟩) (le_rfl) ?_
 refine awp_mono (awp_loop (f := M.slices_insertionSortCmpFunc_api_Route__route_Merge_1_l1 a1 a2) (S := fun (p1 : (List TRoute) × Int) => ⟨53, [(0, .asl 0 0 p1.1.length), (1, .int .i64 a1), (2, .int .i64 a2), (3, .fn 54 []), (8, .int .i64 p1.2)], [aL 14 c_TRoute p1.1, .gone]⟩) (O := (fun z => OutE 0 (fun z => ⟨53, [], [aL 14 c_TRoute z, .gone]⟩) z)) ?_ (x := (a0, wr .i64 (a1 + 1))) (y := y7) (loopM_iter q21)) ?_
 intro p1 y2 h1
 unfold M.slices_insertionSortCmpFunc_api_Route__route_Merge_1_l1 at h1
 refine awp_seq (awp_seq (rg0 [0, 1, 2, 3, 8, 14] 2 ⟨53, [(0, .asl 0 0 p1.1.length), (1, .int .i64 a1), (2, .int .i64 a2), (3, .fn 54 []), (8, .int .i64 p1.2), (14, .bool (decide (p1.2 < a2)))], [aL 14 c_TRoute p1.1, .gone]⟩ ?_))
 refine then_n ?_
 refine cnd (decide (p1.2 < a2)) (fun b2 => ?_) (fun b2 => ?_)
 have h3 := cond_t b2 h1
 refine awp_skip (then_n (awp_seq (awp_block (awp_seq (rg0 [0, 1, 2, 3, 8, 9] 2 ⟨53, [(0, .asl 0 0 p1.1.length), (1, .int .i64 a1), (2, .int .i64 a2), (3, .fn 54 []), (8, .int .i64 p1.2), (9, .int .i64 p1.2)], [aL 14 c_TRoute p1.1, .gone]⟩ ?_)))))
 refine then_n (awp_block ?_)
 obtain ⟨y6, q15, h16⟩ := bind_some h3
 refine awp_le (s' := ⟨53, [(0, .asl 0 0 p1.1.length), (1, .int .i64 a1), (2, .int .i64 a2), (3, .fn 54 []), (8, .int .i64 p1.2), (9, .int .i64 p1.2)], [aL 14 c_TRoute p1.1, .gone]⟩) (le_rfl) ?_
 refine awp_mono (awp_loop (f := M.slices_insertionSortCmpFunc_api_Route__route_Merge_1_l2 a1) (S := fun (p3 : (List TRoute) × Int) => ⟨53, [(0, .asl 0 0 p3.1.length), (1, .int .i64 a1), (2, .int .i64 a2), (3, .fn 54 []), (8, .int .i64 p1.2), (9, .int .i64 p3.2)], [aL 14 c_TRoute p3.1, .gone]⟩) (O := (fun z => OutE 2 (fun z => ⟨53, [(0, .asl 0 0 z.length), (1, .int .i64 a1), (2, .int .i64 a2), (3, .fn 54 []), (8, .int .i64 p1.2)], [aL 14 c_TRoute z, .gone]⟩) z)) ?_ (x := (p1.1, p1.2)) (y := y6) (loopM_iter q15)) ?_
 intro p3 y4 h5
 unfold M.slices_insertionSortCmpFunc_api_Route__route_Merge_1_l2 at h5
 refine awp_seq (awp_seq ?_)
 obtain ⟨r5, q6, h7⟩ := bind_some h5
 obtain ⟨c8, h9⟩ := gd_some h7
 refine rg [.pure (.int .i64 r5)] [0, 1, 2, 3, 8, 9, 34] 2 ⟨53, [(0, .asl 0 0 p3.1.length), (1, .int .i64 a1), (2, .int .i64 a2), (3, .fn 54 []), (8, .int .i64 p1.2), (9, .int .i64 p3.2), (34, .bool ((decide (p3.2 > a1)) && (decide (r5 < 0))))], [aL 14 c_TRoute p3.1, .gone]⟩ [guardB (decide (p3.2 > a1)) (decide (0 ≤ p3.2)), guardB (decide (p3.2 > a1)) (decide (p3.2 < (p3.1.length : Int))), guardB (decide (p3.2 > a1)) (decide (0 ≤ (wr .i64 (p3.2 - 1)))), guardB (decide (p3.2 > a1)) (decide ((wr .i64 (p3.2 - 1)) < (p3.1.length : Int)))] [⟨decide (p3.2 > a1), 54, [.agg (c_TRoute (p3.1.getD (0 + p3.2.toNat) default)), .agg (c_TRoute (p3.1.getD (0 + (wr .i64 (p3.2 - 1)).toNat) default))], .pure (.int .i64 r5)⟩] c8 ⟨fun hg => route_Merge_1_ok (p3.1.getD (0 + p3.2.toNat) default) (p3.1.getD (0 + (wr .i64 (p3.2 - 1)).toNat) default) r5 (gc_some q6 hg), trivial⟩ ?_
 refine then_n ?_
 refine cnd ((decide (p3.2 > a1)) && (decide (r5 < 0))) (fun b10 => ?_) (fun b10 => ?_)
 have h11 := cond_t b10 h9
 refine awp_skip (then_n (awp_seq (awp_block ?_)))
 obtain ⟨c13, h14⟩ := gd_some h11
 refine rgw [] [0, 1, 2, 3, 8, 9] 2 ⟨53, [(0, .asl 0 0 p3.1.length), (1, .int .i64 a1), (2, .int .i64 a2), (3, .fn 54 []), (8, .int .i64 p1.2), (9, .int .i64 p3.2)], [.arr 14 p3.1.length (fun j => bif Nat.beq j (0 + (wr .i64 (p3.2 - 1)).toNat) then splice ((fun j => bif Nat.beq j (0 + p3.2.toNat) then splice (c_TRoute (p3.1.getD (0 + p3.2.toNat) default)) [.int .u32 (((p3.1.getD (0 + (wr .i64 (p3.2 - 1)).toNat) default).fPrefix).fAddr), .int .i64 (((p3.1.getD (0 + (wr .i64 (p3.2 - 1)).toNat) default).fPrefix).fLen), .int .i64 ((p3.1.getD (0 + (wr .i64 (p3.2 - 1)).toNat) default).fProto), .int .i64 ((p3.1.getD (0 + (wr .i64 (p3.2 - 1)).toNat) default).fClass), .int .i64 ((p3.1.getD (0 + (wr .i64 (p3.2 - 1)).toNat) default).fAdmin), .int .i64 ((p3.1.getD (0 + (wr .i64 (p3.2 - 1)).toNat) default).fMetric), .int .i64 ((p3.1.getD (0 + (wr .i64 (p3.2 - 1)).toNat) default).fInner), .int .i64 ((p3.1.getD (0 + (wr .i64 (p3.2 - 1)).toNat) default).fTag), .int .i64 ((p3.1.getD (0 + (wr .i64 (p3.2 - 1)).toNat) default).fPref), sL 1 (ci .i64) ((p3.1.getD (0 + (wr .i64 (p3.2 - 1)).toNat) default).fPath), .int .u32 ((p3.1.getD (0 + (wr .i64 (p3.2 - 1)).toNat) default).fFrom), .int .u32 ((p3.1.getD (0 + (wr .i64 (p3.2 - 1)).toNat) default).fNext), sL 2 c_THop ((p3.1.getD (0 + (wr .i64 (p3.2 - 1)).toNat) default).fHops), .bool ((p3.1.getD (0 + (wr .i64 (p3.2 - 1)).toNat) default).fDiscard)] 0 else c_TRoute (p3.1.getD j default)) (0 + (wr .i64 (p3.2 - 1)).toNat)) [.int .u32 (((p3.1.getD (0 + p3.2.toNat) default).fPrefix).fAddr), .int .i64 (((p3.1.getD (0 + p3.2.toNat) default).fPrefix).fLen), .int .i64 ((p3.1.getD (0 + p3.2.toNat) default).fProto), .int .i64 ((p3.1.getD (0 + p3.2.toNat) default).fClass), .int .i64 ((p3.1.getD (0 + p3.2.toNat) default).fAdmin), .int .i64 ((p3.1.getD (0 + p3.2.toNat) default).fMetric), .int .i64 ((p3.1.getD (0 + p3.2.toNat) default).fInner), .int .i64 ((p3.1.getD (0 + p3.2.toNat) default).fTag), .int .i64 ((p3.1.getD (0 + p3.2.toNat) default).fPref), sL 1 (ci .i64) ((p3.1.getD (0 + p3.2.toNat) default).fPath), .int .u32 ((p3.1.getD (0 + p3.2.toNat) default).fFrom), .int .u32 ((p3.1.getD (0 + p3.2.toNat) default).fNext), sL 2 c_THop ((p3.1.getD (0 + p3.2.toNat) default).fHops), .bool ((p3.1.getD (0 + p3.2.toNat) default).fDiscard)] 0 else (fun j => bif Nat.beq j (0 + p3.2.toNat) then splice (c_TRoute (p3.1.getD (0 + p3.2.toNat) default)) [.int .u32 (((p3.1.getD (0 + (wr .i64 (p3.2 - 1)).toNat) default).fPrefix).fAddr), .int .i64 (((p3.1.getD (0 + (wr .i64 (p3.2 - 1)).toNat) default).fPrefix).fLen), .int .i64 ((p3.1.getD (0 + (wr .i64 (p3.2 - 1)).toNat) default).fProto), .int .i64 ((p3.1.getD (0 + (wr .i64 (p3.2 - 1)).toNat) default).fClass), .int .i64 ((p3.1.getD (0 + (wr .i64 (p3.2 - 1)).toNat) default).fAdmin), .int .i64 ((p3.1.getD (0 + (wr .i64 (p3.2 - 1)).toNat) default).fMetric), .int .i64 ((p3.1.getD (0 + (wr .i64 (p3.2 - 1)).toNat) default).fInner), .int .i64 ((p3.1.getD (0 + (wr .i64 (p3.2 - 1)).toNat) default).fTag), .int .i64 ((p3.1.getD (0 + (wr .i64 (p3.2 - 1)).toNat) default).fPref), sL 1 (ci .i64) ((p3.1.getD (0 + (wr .i64 (p3.2 - 1)).toNat) default).fPath), .int .u32 ((p3.1.getD (0 + (wr .i64 (p3.2 - 1)).toNat) default).fFrom), .int .u32 ((p3.1.getD (0 + (wr .i64 (p3.2 - 1)).toNat) default).fNext), sL 2 c_THop ((p3.1.getD (0 + (wr .i64 (p3.2 - 1)).toNat) default).fHops), .bool ((p3.1.getD (0 + (wr .i64 (p3.2 - 1)).toNat) default).fDiscard)] 0 else c_TRoute (p3.1.getD j default)) j), .gone]⟩ [decide (0 ≤ (wr .i64 (p3.2 - 1))), decide ((wr .i64 (p3.2 - 1)) < (p3.1.length : Int)), decide (0 ≤ p3.2), decide (p3.2 < (p3.1.length : Int)), decide (0 ≤ p3.2), decide (p3.2 < (p3.1.length : Int)), decide (0 ≤ (wr .i64 (p3.2 - 1))), decide ((wr .i64 (p3.2 - 1)) < (p3.1.length : Int))] [] c13 trivial ?_
 refine inb_n ?_
 refine then_le (s' := ⟨53, [(0, .asl 0 0 (((p3.1.set (0 + p3.2.toNat) (p3.1.getD (0 + (wr .i64 (p3.2 - 1)).toNat) default)).set (0 + (wr .i64 (p3.2 - 1)).toNat) (p3.1.getD (0 + p3.2.toNat) default)).length)), (1, .int .i64 a1), (2, .int .i64 a2), (3, .fn 54 []), (8, .int .i64 p1.2), (9, .int .i64 p3.2)], [aL 14 c_TRoute ((p3.1.set (0 + p3.2.toNat) (p3.1.getD (0 + (wr .i64 (p3.2 - 1)).toNat) default)).set (0 + (wr .i64 (p3.2 - 1)).toNat) (p3.1.getD (0 + p3.2.toNat) default)), .gone]⟩) (le_sub (.cons (asl_len (by simp)) (.cons Sub.rfl (.cons Sub.rfl (.cons Sub.rfl (.cons Sub.rfl (.cons Sub.rfl .nil)))))) (.cons (.arr (by simp) (set2_ext c_TRoute p3.1 (0 + p3.2.toNat) (p3.1.getD (0 + (wr .i64 (p3.2 - 1)).toNat) default) _ rfl (0 + (wr .i64 (p3.2 - 1)).toNat) (p3.1.getD (0 + p3.2.toNat) default) _ (sp2 rfl rfl))) (.cons .rfl .nil))) ?_
 refine rg0 [0, 1, 2, 3, 8, 9] 2 ⟨53, [(0, .asl 0 0 (((p3.1.set (0 + p3.2.toNat) (p3.1.getD (0 + (wr .i64 (p3.2 - 1)).toNat) default)).set (0 + (wr .i64 (p3.2 - 1)).toNat) (p3.1.getD (0 + p3.2.toNat) default)).length)), (1, .int .i64 a1), (2, .int .i64 a2), (3, .fn 54 []), (8, .int .i64 p1.2), (9, .int .i64 (wr .i64 (p3.2 - 1)))], [aL 14 c_TRoute ((p3.1.set (0 + p3.2.toNat) (p3.1.getD (0 + (wr .i64 (p3.2 - 1)).toNat) default)).set (0 + (wr .i64 (p3.2 - 1)).toNat) (p3.1.getD (0 + p3.2.toNat) default)), .gone]⟩ ?_
 obtain rfl := Option.some.inj h14
 exact round_n (le_rfl)
 have h12 := cond_f b10 h9
 refine awp_exit (then_e ?_)
 obtain rfl := Option.some.inj h12
 exact round_e ⟨rfl, kp [0, 1, 2, 3, 8]⟩
 intro e17 s18 o19
 obtain ⟨rfl, l20⟩ := o19
 refine inb_here (inb_n ?_)
 refine then_le (s' := ⟨53, [(0, .asl 0 0 y6.length), (1, .int .i64 a1), (2, .int .i64 a2), (3, .fn 54 []), (8, .int .i64 p1.2)], [aL 14 c_TRoute y6, .gone]⟩) (l20) ?_
 refine rg0 [0, 1, 2, 3, 8] 2 ⟨53, [(0, .asl 0 0 y6.length), (1, .int .i64 a1), (2, .int .i64 a2), (3, .fn 54 []), (8, .int .i64 (wr .i64 (p1.2 + 1)))], [aL 14 c_TRoute y6, .gone]⟩ ?_
 obtain rfl := Option.some.inj h16
 exact round_n (le_rfl)
 have h4 := cond_f b2 h1
 refine awp_exit (then_e ?_)
 obtain rfl := Option.some.inj h4
 exact round_e ⟨rfl, kp []⟩
 intro e23 s24 o25
 obtain ⟨rfl, l26⟩ := o25
 refine inb_here ?_
 obtain ⟨c27, h28⟩ := gd_some h22
 obtain rfl := Option.some.inj h28
 exact emn (s' := ⟨53, [], [aL 14 c_TRoute y7, .gone]⟩) (l26) (len_ok c27)
theorem slices_swapRangeCmpFunc_api_Route__route_Merge_1_ok (a0 : List TRoute) (a1 : Int) (a2 : Int) (a3 : Int) (r : (List TRoute)) (h : M.slices_swapRangeCmpFunc_api_Route__route_Merge_1 a0 a1 a2 a3 = some r) : FnM Try.prog 94 [.asl 0 0 a0.length, .int .i64 a1, .int .i64 a2, .int .i64 a3, .fn 54 []] 14 a0.length (fun i => c_TRoute (a0.getD i default)) (fun i => c_TRoute (r.getD i default)) (.tup []) := by
 unfold M.slices_swapRangeCmpFunc_api_Route__route_Merge_1 at h
 refine fn_mut Try.func94 rfl (by kernel_rfl) ?_
 refine awp_seq (rg0 [0, 1, 2, 3, 10] 2 ⟨38, [(0, .asl 0 0 a0.length), (1, .int .i64 a1), (2, .int .i64 a2), (3, .int .i64 a3), (10, .int .i64 0)], [aL 14 c_TRoute a0, .gone]⟩ ?_)
 refine then_n (awp_block ?_)
 obtain ⟨y3, q7, h8⟩ := bind_some h
 refine awp_le (s' := ⟨38, [(0, .asl 0 0 a0.length), (1, .int .i64 a1), (2, .int .i64 a2), (3, .int .i64 a3), (10, .int .i64 0)], [aL 14 c_TRoute a0, .gone]⟩) (le_rfl) ?_
 refine awp_mono (awp_loop (f := M.slices_swapRangeCmpFunc_api_Route__route_Merge_1_l1 a1 a2 a3) (S := fun (p1 : (List TRoute) × Int) => ⟨38, [(0, .asl 0 0 p1.1.length), (1, .int .i64 a1), (2, .int .i64 a2), (3, .int .i64 a3), (10, .int .i64 p1.2)], [aL 14 c_TRoute p1.1, .gone]⟩) (O := (fun z => OutE 0 (fun z => ⟨38, [], [aL 14 c_TRoute z, .gone]⟩) z)) ?_ (x := (a0, 0)) (y := y3) (loopM_iter q7)) ?_
 intro p1 y2 h1
 unfold M.slices_swapRangeCmpFunc_api_Route__route_Merge_1_l1 at h1
 refine awp_seq (awp_seq (rg0 [0, 1, 2, 3, 10, 13] 2 ⟨38, [(0, .asl 0 0 p1.1.length), (1, .int .i64 a1), (2, .int .i64 a2), (3, .int .i64 a3), (10, .int .i64 p1.2), (13, .bool (decide (p1.2 < a3)))], [aL 14 c_TRoute p1.1, .gone]⟩ ?_))
 refine then_n ?_
 refine cnd (decide (p1.2 < a3)) (fun b2 => ?_) (fun b2 => ?_)
 have h3 := cond_t b2 h1
 refine awp_skip (then_n (awp_seq (awp_block ?_)))
 obtain ⟨c5, h6⟩ := gd_some h3
 refine rgw [] [0, 1, 2, 3, 10] 2 ⟨38, [(0, .asl 0 0 p1.1.length), (1, .int .i64 a1), (2, .int .i64 a2), (3, .int .i64 a3), (10, .int .i64 p1.2)], [.arr 14 p1.1.length (fun j => bif Nat.beq j (0 + (wr .i64 (a2 + p1.2)).toNat) then splice ((fun j => bif Nat.beq j (0 + (wr .i64 (a1 + p1.2)).toNat) then splice (c_TRoute (p1.1.getD (0 + (wr .i64 (a1 + p1.2)).toNat) default)) [.int .u32 (((p1.1.getD (0 + (wr .i64 (a2 + p1.2)).toNat) default).fPrefix).fAddr), .int .i64 (((p1.1.getD (0 + (wr .i64 (a2 + p1.2)).toNat) default).fPrefix).fLen), .int .i64 ((p1.1.getD (0 + (wr .i64 (a2 + p1.2)).toNat) default).fProto), .int .i64 ((p1.1.getD (0 + (wr .i64 (a2 + p1.2)).toNat) default).fClass), .int .i64 ((p1.1.getD (0 + (wr .i64 (a2 + p1.2)).toNat) default).fAdmin), .int .i64 ((p1.1.getD (0 + (wr .i64 (a2 + p1.2)).toNat) default).fMetric), .int .i64 ((p1.1.getD (0 + (wr .i64 (a2 + p1.2)).toNat) default).fInner), .int .i64 ((p1.1.getD (0 + (wr .i64 (a2 + p1.2)).toNat) default).fTag), .int .i64 ((p1.1.getD (0 + (wr .i64 (a2 + p1.2)).toNat) default).fPref), sL 1 (ci .i64) ((p1.1.getD (0 + (wr .i64 (a2 + p1.2)).toNat) default).fPath), .int .u32 ((p1.1.getD (0 + (wr .i64 (a2 + p1.2)).toNat) default).fFrom), .int .u32 ((p1.1.getD (0 + (wr .i64 (a2 + p1.2)).toNat) default).fNext), sL 2 c_THop ((p1.1.getD (0 + (wr .i64 (a2 + p1.2)).toNat) default).fHops), .bool ((p1.1.getD (0 + (wr .i64 (a2 + p1.2)).toNat) default).fDiscard)] 0 else c_TRoute (p1.1.getD j default)) (0 + (wr .i64 (a2 + p1.2)).toNat)) [.int .u32 (((p1.1.getD (0 + (wr .i64 (a1 + p1.2)).toNat) default).fPrefix).fAddr), .int .i64 (((p1.1.getD (0 + (wr .i64 (a1 + p1.2)).toNat) default).fPrefix).fLen), .int .i64 ((p1.1.getD (0 + (wr .i64 (a1 + p1.2)).toNat) default).fProto), .int .i64 ((p1.1.getD (0 + (wr .i64 (a1 + p1.2)).toNat) default).fClass), .int .i64 ((p1.1.getD (0 + (wr .i64 (a1 + p1.2)).toNat) default).fAdmin), .int .i64 ((p1.1.getD (0 + (wr .i64 (a1 + p1.2)).toNat) default).fMetric), .int .i64 ((p1.1.getD (0 + (wr .i64 (a1 + p1.2)).toNat) default).fInner), .int .i64 ((p1.1.getD (0 + (wr .i64 (a1 + p1.2)).toNat) default).fTag), .int .i64 ((p1.1.getD (0 + (wr .i64 (a1 + p1.2)).toNat) default).fPref), sL 1 (ci .i64) ((p1.1.getD (0 + (wr .i64 (a1 + p1.2)).toNat) default).fPath), .int .u32 ((p1.1.getD (0 + (wr .i64 (a1 + p1.2)).toNat) default).fFrom), .int .u32 ((p1.1.getD (0 + (wr .i64 (a1 + p1.2)).toNat) default).fNext), sL 2 c_THop ((p1.1.getD (0 + (wr .i64 (a1 + p1.2)).toNat) default).fHops), .bool ((p1.1.getD (0 + (wr .i64 (a1 + p1.2)).toNat) default).fDiscard)] 0 else (fun j => bif Nat.beq j (0 + (wr .i64 (a1 + p1.2)).toNat) then splice (c_TRoute (p1.1.getD (0 + (wr .i64 (a1 + p1.2)).toNat) default)) [.int .u32 (((p1.1.getD (0 + (wr .i64 (a2 + p1.2)).toNat) default).fPrefix).fAddr), .int .i64 (((p1.1.getD (0 + (wr .i64 (a2 + p1.2)).toNat) default).fPrefix).fLen), .int .i64 ((p1.1.getD (0 + (wr .i64 (a2 + p1.2)).toNat) default).fProto), .int .i64 ((p1.1.getD (0 + (wr .i64 (a2 + p1.2)).toNat) default).fClass), .int .i64 ((p1.1.getD (0 + (wr .i64 (a2 + p1.2)).toNat) default).fAdmin), .int .i64 ((p1.1.getD (0 + (wr .i64 (a2 + p1.2)).toNat) default).fMetric), .int .i64 ((p1.1.getD (0 + (wr .i64 (a2 + p1.2)).toNat) default).fInner), .int .i64 ((p1.1.getD (0 + (wr .i64 (a2 + p1.2)).toNat) default).fTag), .int .i64 ((p1.1.getD (0 + (wr .i64 (a2 + p1.2)).toNat) default).fPref), sL 1 (ci .i64) ((p1.1.getD (0 + (wr .i64 (a2 + p1.2)).toNat) default).fPath), .int .u32 ((p1.1.getD (0 + (wr .i64 (a2 + p1.2)).toNat) default).fFrom), .int .u32 ((p1.1.getD (0 + (wr .i64 (a2 + p1.2)).toNat) default).fNext), sL 2 c_THop ((p1.1.getD (0 + (wr .i64 (a2 + p1.2)).toNat) default).fHops), .bool ((p1.1.getD (0 + (wr .i64 (a2 + p1.2)).toNat) default).fDiscard)] 0 else c_TRoute (p1.1.getD j default)) j), .gone]⟩ [decide (0 ≤ (wr .i64 (a2 + p1.2))), decide ((wr .i64 (a2 + p1.2)) < (p1.1.length : Int)), decide (0 ≤ (wr .i64 (a1 + p1.2))), decide ((wr .i64 (a1 + p1.2)) < (p1.1.length : Int)), decide (0 ≤ (wr .i64 (a1 + p1.2))), decide ((wr .i64 (a1 + p1.2)) < (p1.1.length : Int)), decide (0 ≤ (wr .i64 (a2 + p1.2))), decide ((wr .i64 (a2 + p1.2)) < (p1.1.length : Int))] [] c5 trivial ?_
 refine inb_n ?_
 refine then_le (s' := ⟨38, [(0, .asl 0 0 (((p1.1.set (0 + (wr .i64 (a1 + p1.2)).toNat) (p1.1.getD (0 + (wr .i64 (a2 + p1.2)).toNat) default)).set (0 + (wr .i64 (a2 + p1.2)).toNat) (p1.1.getD (0 + (wr .i64 (a1 + p1.2)).toNat) default)).length)), (1, .int .i64 a1), (2, .int .i64 a2), (3, .int .i64 a3), (10, .int .i64 p1.2)], [aL 14 c_TRoute ((p1.1.set (0 + (wr .i64 (a1 + p1.2)).toNat) (p1.1.getD (0 + (wr .i64 (a2 + p1.2)).toNat) default)).set (0 + (wr .i64 (a2 + p1.2)).toNat) (p1.1.getD (0 + (wr .i64 (a1 + p1.2)).toNat) default)), .gone]⟩) (le_sub (.cons (asl_len (by simp)) (.cons Sub.rfl (.cons Sub.rfl (.cons Sub.rfl (.cons Sub.rfl .nil))))) (.cons (.arr (by simp) (set2_ext c_TRoute p1.1 (0 + (wr .i64 (a1 + p1.2)).toNat) (p1.1.getD (0 + (wr .i64 (a2 + p1.2)).toNat) default) _ rfl (0 + (wr .i64 (a2 + p1.2)).toNat) (p1.1.getD (0 + (wr .i64 (a1 + p1.2)).toNat) default) _ (sp2 rfl rfl))) (.cons .rfl .nil))) ?_
 refine rg0 [0, 1, 2, 3, 10] 2 ⟨38, [(0, .asl 0 0 (((p1.1.set (0 + (wr .i64 (a1 + p1.2)).toNat) (p1.1.getD (0 + (wr .i64 (a2 + p1.2)).toNat) default)).set (0 + (wr .i64 (a2 + p1.2)).toNat) (p1.1.getD (0 + (wr .i64 (a1 + p1.2)).toNat) default)).length)), (1, .int .i64 a1), (2, .int .i64 a2), (3, .int .i64 a3), (10, .int .i64 (wr .i64 (p1.2 + 1)))], [aL 14 c_TRoute ((p1.1.set (0 + (wr .i64 (a1 + p1.2)).toNat) (p1.1.getD (0 + (wr .i64 (a2 + p1.2)).toNat) default)).set (0 + (wr .i64 (a2 + p1.2)).toNat) (p1.1.getD (0 + (wr .i64 (a1 + p1.2)).toNat) default)), .gone]⟩ ?_
 obtain rfl := Option.some.inj h6
 exact round_n (le_rfl)
 have h4 := cond_f b2 h1
 refine awp_exit (then_e ?_)
 obtain rfl := Option.some.inj h4
 exact round_e ⟨rfl, kp []⟩
 intro e9 s10 o11
 obtain ⟨rfl, l12⟩ := o11
 refine inb_here ?_
 obtain ⟨c13, h14⟩ := gd_some h8
 obtain rfl := Option.some.inj h14
 exact emn (s' := ⟨38, [], [aL 14 c_TRoute y3, .gone]⟩) (l12) (len_ok c13)
theorem slices_rotateCmpFunc_api_Route__route_Merge_1_ok (a0 : List TRoute) (a1 : Int) (a2 : Int) (a3 : Int) (r : (List TRoute)) (h : M.slices_rotateCmpFunc_api_Route__route_Merge_1 a0 a1 a2 a3 = some r) : FnM Try.prog 83 [.asl 0 0 a0.length, .int .i64 a1, .int .i64 a2, .int .i64 a3, .fn 54 []] 14 a0.length (fun i => c_TRoute (a0.getD i default)) (fun i => c_TRoute (r.getD i default)) (.tup []) := by
 unfold M.slices_rotateCmpFunc_api_Route__route_Merge_1 at h
 refine fn_mut Try.func83 rfl (by kernel_rfl) ?_
 refine awp_seq (rg0 [0, 2, 3, 4, 10] 2 ⟨58, [(0, .asl 0 0 a0.length), (2, .int .i64 a2), (3, .int .i64 a3), (4, .fn 54 []), (10, .int .i64 (wr .i64 (a2 - a1)))], [aL 14 c_TRoute a0, .gone]⟩ ?_)
 refine then_n (awp_seq (rg0 [0, 2, 4, 10, 11] 2 ⟨58, [(0, .asl 0 0 a0.length), (2, .int .i64 a2), (4, .fn 54 []), (10, .int .i64 (wr .i64 (a2 - a1))), (11, .int .i64 (wr .i64 (a3 - a2)))], [aL 14 c_TRoute a0, .gone]⟩ ?_))
 refine then_n (awp_seq (awp_block ?_))
 obtain ⟨y5, q16, h17⟩ := bind_some h
 refine awp_le (s' := ⟨58, [(0, .asl 0 0 a0.length), (2, .int .i64 a2), (4, .fn 54 []), (10, .int .i64 (wr .i64 (a2 - a1))), (11, .int .i64 (wr .i64 (a3 - a2)))], [aL 14 c_TRoute a0, .gone]⟩) (le_rfl) ?_
 refine awp_mono (awp_loop (f := M.slices_rotateCmpFunc_api_Route__route_Merge_1_l1 a2) (S := fun (p1 : (List TRoute) × Int × Int) => ⟨58, [(0, .asl 0 0 p1.1.length), (2, .int .i64 a2), (4, .fn 54 []), (10, .int .i64 p1.2.1), (11, .int .i64 p1.2.2)], [aL 14 c_TRoute p1.1, .gone]⟩) (O := (fun z => OutE 0 (fun z => ⟨58, [(0, .asl 0 0 z.2.length), (2, .int .i64 a2), (4, .fn 54 []), (10, .int .i64 z.1)], [aL 14 c_TRoute z.2, .gone]⟩) z)) ?_ (x := (a0, wr .i64 (a2 - a1), wr .i64 (a3 - a2))) (y := y5) (loopM_iter q16)) ?_
 intro p1 y2 h1
 unfold M.slices_rotateCmpFunc_api_Route__route_Merge_1_l1 at h1
 refine awp_seq (awp_seq (rg0 [0, 2, 4, 10, 11, 20] 2 ⟨58, [(0, .asl 0 0 p1.1.length), (2, .int .i64 a2), (4, .fn 54 []), (10, .int .i64 p1.2.1), (11, .int .i64 p1.2.2), (20, .bool (p1.2.1 != p1.2.2))], [aL 14 c_TRoute p1.1, .gone]⟩ ?_))
 refine then_n ?_
 refine cnd (p1.2.1 != p1.2.2) (fun b2 => ?_) (fun b2 => ?_)
 have h3 := cond_t b2 h1
 refine awp_skip (then_n (awp_block (awp_seq (rg0 [0, 2, 4, 10, 11, 23] 2 ⟨58, [(0, .asl 0 0 p1.1.length), (2, .int .i64 a2), (4, .fn 54 []), (10, .int .i64 p1.2.1), (11, .int .i64 p1.2.2), (23, .bool (decide (p1.2.1 > p1.2.2)))], [aL 14 c_TRoute p1.1, .gone]⟩ ?_))))
 refine then_n ?_
 refine cnd (decide (p1.2.1 > p1.2.2)) (fun b5 => ?_) (fun b5 => ?_)
 have h6 := cond_t b5 h3
 refine awp_seq ?_
 obtain ⟨r3, q8, h9⟩ := bind_some h6
 obtain ⟨c10, h11⟩ := gd_some h9
 refine rg [.lnd 0 0 (fun _ => []) (fun i => c_TRoute (r3.getD i default)) (.tup [])] [0, 2, 4, 10, 11] 2 ⟨58, [(0, .asl 0 0 p1.1.length), (2, .int .i64 a2), (4, .fn 54 []), (10, .int .i64 p1.2.1), (11, .int .i64 p1.2.2)], [.arr 14 p1.1.length (fun i => c_TRoute (r3.getD i default)), .gone]⟩ [] [⟨true, 94, [.asl 0 0 p1.1.length, .int .i64 (wr .i64 (a2 - p1.2.1)), .int .i64 a2, .int .i64 p1.2.2, .fn 54 []], .lnd 14 p1.1.length (fun i => c_TRoute (p1.1.getD i default)) (fun i => c_TRoute (r3.getD i default)) (.tup [])⟩] nil_all ⟨fun _ => slices_swapRangeCmpFunc_api_Route__route_Merge_1_ok p1.1 (wr .i64 (a2 - p1.2.1)) a2 p1.2.2 r3 q8, trivial⟩ ?_
 refine then_le (s' := ⟨58, [(0, .asl 0 0 r3.length), (2, .int .i64 a2), (4, .fn 54 []), (10, .int .i64 p1.2.1), (11, .int .i64 p1.2.2)], [aL 14 c_TRoute r3, .gone]⟩) (le_sub (.cons (asl_len (len_eq (c10 _ List.mem_cons_self))) (.cons Sub.rfl (.cons Sub.rfl (.cons Sub.rfl (.cons Sub.rfl .nil))))) (.cons (.arr (len_eq (c10 _ List.mem_cons_self)) (fun _ _ => rfl)) (.cons .rfl .nil))) ?_
 refine rg0 [0, 2, 4, 10, 11] 2 ⟨58, [(0, .asl 0 0 r3.length), (2, .int .i64 a2), (4, .fn 54 []), (10, .int .i64 (wr .i64 (p1.2.1 - p1.2.2))), (11, .int .i64 p1.2.2)], [aL 14 c_TRoute r3, .gone]⟩ ?_
 refine inb_n ?_
 obtain rfl := Option.some.inj h11
 exact round_n (le_rfl)
 have h7 := cond_f b5 h3
 refine awp_seq ?_
 obtain ⟨r4, q12, h13⟩ := bind_some h7
 obtain ⟨c14, h15⟩ := gd_some h13
 refine rg [.lnd 0 0 (fun _ => []) (fun i => c_TRoute (r4.getD i default)) (.tup [])] [0, 2, 4, 10, 11] 2 ⟨58, [(0, .asl 0 0 p1.1.length), (2, .int .i64 a2), (4, .fn 54 []), (10, .int .i64 p1.2.1), (11, .int .i64 p1.2.2)], [.arr 14 p1.1.length (fun i => c_TRoute (r4.getD i default)), .gone]⟩ [] [⟨true, 94, [.asl 0 0 p1.1.length, .int .i64 (wr .i64 (a2 - p1.2.1)), .int .i64 (wr .i64 ((wr .i64 (a2 + p1.2.2)) - p1.2.1)), .int .i64 p1.2.1, .fn 54 []], .lnd 14 p1.1.length (fun i => c_TRoute (p1.1.getD i default)) (fun i => c_TRoute (r4.getD i default)) (.tup [])⟩] nil_all ⟨fun _ => slices_swapRangeCmpFunc_api_Route__route_Merge_1_ok p1.1 (wr .i64 (a2 - p1.2.1)) (wr .i64 ((wr .i64 (a2 + p1.2.2)) - p1.2.1)) p1.2.1 r4 q12, trivial⟩ ?_
 refine then_le (s' := ⟨58, [(0, .asl 0 0 r4.length), (2, .int .i64 a2), (4, .fn 54 []), (10, .int .i64 p1.2.1), (11, .int .i64 p1.2.2)], [aL 14 c_TRoute r4, .gone]⟩) (le_sub (.cons (asl_len (len_eq (c14 _ List.mem_cons_self))) (.cons Sub.rfl (.cons Sub.rfl (.cons Sub.rfl (.cons Sub.rfl .nil))))) (.cons (.arr (len_eq (c14 _ List.mem_cons_self)) (fun _ _ => rfl)) (.cons .rfl .nil))) ?_
 refine rg0 [0, 2, 4, 10, 11] 2 ⟨58, [(0, .asl 0 0 r4.length), (2, .int .i64 a2), (4, .fn 54 []), (10, .int .i64 p1.2.1), (11, .int .i64 (wr .i64 (p1.2.2 - p1.2.1)))], [aL 14 c_TRoute r4, .gone]⟩ ?_
 refine inb_n ?_
 obtain rfl := Option.some.inj h15
 exact round_n (le_rfl)
 have h4 := cond_f b2 h1
 refine awp_exit (then_e ?_)
 obtain rfl := Option.some.inj h4
 exact round_e ⟨rfl, kp [0, 2, 4, 10]⟩
 intro e18 s19 o20
 obtain ⟨rfl, l21⟩ := o20
 refine inb_here ?_
 refine then_le (s' := ⟨58, [(0, .asl 0 0 y5.2.length), (2, .int .i64 a2), (4, .fn 54 []), (10, .int .i64 y5.1)], [aL 14 c_TRoute y5.2, .gone]⟩) (l21) ?_
 obtain ⟨r6, q22, h23⟩ := bind_some h17
 obtain ⟨c24, h25⟩ := gd_some h23
 refine rg [.lnd 0 0 (fun _ => []) (fun i => c_TRoute (r6.getD i default)) (.tup [])] [] 2 ⟨58, [], [.arr 14 y5.2.length (fun i => c_TRoute (r6.getD i default)), .gone]⟩ [] [⟨true, 94, [.asl 0 0 y5.2.length, .int .i64 (wr .i64 (a2 - y5.1)), .int .i64 a2, .int .i64 y5.1, .fn 54 []], .lnd 14 y5.2.length (fun i => c_TRoute (y5.2.getD i default)) (fun i => c_TRoute (r6.getD i default)) (.tup [])⟩] nil_all ⟨fun _ => slices_swapRangeCmpFunc_api_Route__route_Merge_1_ok y5.2 (wr .i64 (a2 - y5.1)) a2 y5.1 r6 q22, trivial⟩ ?_
 obtain ⟨c26, h27⟩ := gd_some h25
 obtain rfl := Option.some.inj h27
 exact emn (s' := ⟨58, [], [aL 14 c_TRoute r6, .gone]⟩) (le_sub .nil (.cons (.arr (len_eq (c24 _ List.mem_cons_self)) (fun _ _ => rfl)) (.cons .rfl .nil))) (len_ok c26)
theorem slices_symMergeCmpFunc_api_Route__route_Merge_1_bok (self : (List TRoute) → Int → Int → Int → Option (List TRoute)) (ih : ∀ (a0 : List TRoute) (a1 : Int) (a2 : Int) (a3 : Int) (r : (List TRoute)) (_ : self a0 a1 a2 a3 = some r), FnM Try.prog 79 [.asl 0 0 a0.length, .int .i64 a1, .int .i64 a2, .int .i64 a3, .fn 54 []] 14 a0.length (fun i => c_TRoute (a0.getD i default)) (fun i => c_TRoute (r.getD i default)) (.tup [])) (a0 : List TRoute) (a1 : Int) (a2 : Int) (a3 : Int) (r : (List TRoute)) (h : M.slices_symMergeCmpFunc_api_Route__route_Merge_1_b self a0 a1 a2 a3 = some r) : FnM Try.prog 79 [.asl 0 0 a0.length, .int .i64 a1, .int .i64 a2, .int .i64 a3, .fn 54 []] 14 a0.length (fun i => c_TRoute (a0.getD i default)) (fun i => c_TRoute (r.getD i default)) (.tup []) := by
 unfold M.slices_symMergeCmpFunc_api_Route__route_Merge_1_b at h
 refine fn_mut Try.func79 rfl (by kernel_rfl) ?_
 refine awp_seq (awp_seq (rg0 [0, 1, 2, 3, 4, 28] 2 ⟨220, [(0, .asl 0 0 a0.length), (1, .int .i64 a1), (2, .int .i64 a2), (3, .int .i64 a3), (4, .fn 54 []), (28, .bool ((wr .i64 (a2 - a1)) == 1))], [aL 14 c_TRoute a0, .gone]⟩ ?_))
 refine then_n ?_
 refine cnd ((wr .i64 (a2 - a1)) == 1) (fun b1 => ?_) (fun b1 => ?_)
 have h2 := cond_t b1 h
 refine awp_seq (rg0 [0, 1, 3, 4, 10] 2 ⟨220, [(0, .asl 0 0 a0.length), (1, .int .i64 a1), (3, .int .i64 a3), (4, .fn 54 []), (10, .int .i64 a2)], [aL 14 c_TRoute a0, .gone]⟩ ?_)
 refine then_n (awp_seq (rg0 [0, 1, 4, 10, 11] 2 ⟨220, [(0, .asl 0 0 a0.length), (1, .int .i64 a1), (4, .fn 54 []), (10, .int .i64 a2), (11, .int .i64 a3)], [aL 14 c_TRoute a0, .gone]⟩ ?_))
 refine then_n (awp_seq (awp_block ?_))
 obtain ⟨y4, q17, h18⟩ := bind_some h2
 refine awp_le (s' := ⟨220, [(0, .asl 0 0 a0.length), (1, .int .i64 a1), (4, .fn 54 []), (10, .int .i64 a2), (11, .int .i64 a3)], [aL 14 c_TRoute a0, .gone]⟩) (le_rfl) ?_
 refine awp_mono (awp_loop (f := M.slices_symMergeCmpFunc_api_Route__route_Merge_1_l1 a0 a1) (S := fun (p1 : Int × Int) => ⟨220, [(0, .asl 0 0 a0.length), (1, .int .i64 a1), (4, .fn 54 []), (10, .int .i64 p1.1), (11, .int .i64 p1.2)], [aL 14 c_TRoute a0, .gone]⟩) (O := (fun z => OutE 0 (fun z => ⟨220, [(0, .asl 0 0 a0.length), (1, .int .i64 a1), (10, .int .i64 z)], [aL 14 c_TRoute a0, .gone]⟩) z)) ?_ (x := (a2, a3)) (y := y4) (loopM_iter q17)) ?_
 intro p1 y2 h4
 unfold M.slices_symMergeCmpFunc_api_Route__route_Merge_1_l1 at h4
 refine awp_seq (awp_seq (rg0 [0, 1, 4, 10, 11, 33] 2 ⟨220, [(0, .asl 0 0 a0.length), (1, .int .i64 a1), (4, .fn 54 []), (10, .int .i64 p1.1), (11, .int .i64 p1.2), (33, .bool (decide (p1.1 < p1.2)))], [aL 14 c_TRoute a0, .gone]⟩ ?_))
 refine then_n ?_
 refine cnd (decide (p1.1 < p1.2)) (fun b5 => ?_) (fun b5 => ?_)
 have h6 := cond_t b5 h4
 refine awp_skip (then_n (awp_block (awp_seq ?_)))
 obtain ⟨c8, h9⟩ := gd_some h6
 refine rgc [0, 1, 4, 10, 11, 12] 2 ⟨220, [(0, .asl 0 0 a0.length), (1, .int .i64 a1), (4, .fn 54 []), (10, .int .i64 p1.1), (11, .int .i64 p1.2), (12, .int .i64 (wr .i64 ((wr .u64 (wr .i64 (p1.1 + p1.2))).fdiv (2 ^ min (1 : Int).toNat 64))))], [aL 14 c_TRoute a0, .gone]⟩ [decide (0 ≤ 1)] c8 ?_
 refine then_n (awp_seq ?_)
 obtain ⟨r3, q10, h11⟩ := bind_some h9
 obtain ⟨c12, h13⟩ := gd_some h11
 refine rg [.pure (.int .i64 r3)] [0, 1, 4, 10, 11, 12, 50] 2 ⟨220, [(0, .asl 0 0 a0.length), (1, .int .i64 a1), (4, .fn 54 []), (10, .int .i64 p1.1), (11, .int .i64 p1.2), (12, .int .i64 (wr .i64 ((wr .u64 (wr .i64 (p1.1 + p1.2))).fdiv (2 ^ min (1 : Int).toNat 64)))), (50, .bool (decide (r3 < 0)))], [aL 14 c_TRoute a0, .gone]⟩ [decide (0 ≤ (wr .i64 ((wr .u64 (wr .i64 (p1.1 + p1.2))).fdiv (2 ^ min (1 : Int).toNat 64)))), decide ((wr .i64 ((wr .u64 (wr .i64 (p1.1 + p1.2))).fdiv (2 ^ min (1 : Int).toNat 64))) < (a0.length : Int)), decide (0 ≤ a1), decide (a1 < (a0.length : Int))] [⟨true, 54, [.agg (c_TRoute (a0.getD (0 + (wr .i64 ((wr .u64 (wr .i64 (p1.1 + p1.2))).fdiv (2 ^ min (1 : Int).toNat 64))).toNat) default)), .agg (c_TRoute (a0.getD (0 + a1.toNat) default))], .pure (.int .i64 r3)⟩] c12 ⟨fun _ => route_Merge_1_ok (a0.getD (0 + (wr .i64 ((wr .u64 (wr .i64 (p1.1 + p1.2))).fdiv (2 ^ min (1 : Int).toNat 64))).toNat) default) (a0.getD (0 + a1.toNat) default) r3 q10, trivial⟩ ?_
 refine then_n ?_
 refine cnd (decide (r3 < 0)) (fun b14 => ?_) (fun b14 => ?_)
 have h15 := cond_t b14 h13
 refine rg0 [0, 1, 4, 10, 11] 2 ⟨220, [(0, .asl 0 0 a0.length), (1, .int .i64 a1), (4, .fn 54 []), (10, .int .i64 (wr .i64 ((wr .i64 ((wr .u64 (wr .i64 (p1.1 + p1.2))).fdiv (2 ^ min (1 : Int).toNat 64))) + 1))), (11, .int .i64 p1.2)], [aL 14 c_TRoute a0, .gone]⟩ ?_
 refine inb_n ?_
 obtain rfl := Option.some.inj h15
 exact round_n (le_rfl)
 have h16 := cond_f b14 h13
 refine rg0 [0, 1, 4, 10, 11] 2 ⟨220, [(0, .asl 0 0 a0.length), (1, .int .i64 a1), (4, .fn 54 []), (10, .int .i64 p1.1), (11, .int .i64 (wr .i64 ((wr .u64 (wr .i64 (p1.1 + p1.2))).fdiv (2 ^ min (1 : Int).toNat 64))))], [aL 14 c_TRoute a0, .gone]⟩ ?_
 refine inb_n ?_
 obtain rfl := Option.some.inj h16
 exact round_n (le_rfl)
 have h7 := cond_f b5 h4
 refine awp_exit (then_e ?_)
 obtain rfl := Option.some.inj h7
 exact round_e ⟨rfl, kp [0, 1, 10]⟩
 intro e19 s20 o21
 obtain ⟨rfl, l22⟩ := o21
 refine inb_here ?_
 refine then_le (s' := ⟨220, [(0, .asl 0 0 a0.length), (1, .int .i64 a1), (10, .int .i64 y4)], [aL 14 c_TRoute a0, .gone]⟩) (l22) ?_
 refine awp_seq (awp_seq (rg0 [0, 10, 13] 2 ⟨220, [(0, .asl 0 0 a0.length), (10, .int .i64 y4), (13, .int .i64 a1)], [aL 14 c_TRoute a0, .gone]⟩ ?_))
 refine then_n (awp_block ?_)
 obtain ⟨y7, q29, h30⟩ := bind_some h18
 refine awp_le (s' := ⟨220, [(0, .asl 0 0 a0.length), (10, .int .i64 y4), (13, .int .i64 a1)], [aL 14 c_TRoute a0, .gone]⟩) (le_rfl) ?_
 refine awp_mono (awp_loop (f := M.slices_symMergeCmpFunc_api_Route__route_Merge_1_l2 y4) (S := fun (p5 : (List TRoute) × Int) => ⟨220, [(0, .asl 0 0 p5.1.length), (10, .int .i64 y4), (13, .int .i64 p5.2)], [aL 14 c_TRoute p5.1, .gone]⟩) (O := (fun z => OutE 2 (fun z => ⟨220, [], [aL 14 c_TRoute z, .gone]⟩) z)) ?_ (x := (a0, a1)) (y := y7) (loopM_iter q29)) ?_
 intro p5 y6 h23
 unfold M.slices_symMergeCmpFunc_api_Route__route_Merge_1_l2 at h23
 refine awp_seq (awp_seq (rg0 [0, 10, 13, 58] 2 ⟨220, [(0, .asl 0 0 p5.1.length), (10, .int .i64 y4), (13, .int .i64 p5.2), (58, .bool (decide (p5.2 < (wr .i64 (y4 - 1)))))], [aL 14 c_TRoute p5.1, .gone]⟩ ?_))
 refine then_n ?_
 refine cnd (decide (p5.2 < (wr .i64 (y4 - 1)))) (fun b24 => ?_) (fun b24 => ?_)
 have h25 := cond_t b24 h23
 refine awp_skip (then_n (awp_seq (awp_block ?_)))
 obtain ⟨c27, h28⟩ := gd_some h25
 refine rgw [] [0, 10, 13] 2 ⟨220, [(0, .asl 0 0 p5.1.length), (10, .int .i64 y4), (13, .int .i64 p5.2)], [.arr 14 p5.1.length (fun j => bif Nat.beq j (0 + (wr .i64 (p5.2 + 1)).toNat) then splice ((fun j => bif Nat.beq j (0 + p5.2.toNat) then splice (c_TRoute (p5.1.getD (0 + p5.2.toNat) default)) [.int .u32 (((p5.1.getD (0 + (wr .i64 (p5.2 + 1)).toNat) default).fPrefix).fAddr), .int .i64 (((p5.1.getD (0 + (wr .i64 (p5.2 + 1)).toNat) default).fPrefix).fLen), .int .i64 ((p5.1.getD (0 + (wr .i64 (p5.2 + 1)).toNat) default).fProto), .int .i64 ((p5.1.getD (0 + (wr .i64 (p5.2 + 1)).toNat) default).fClass), .int .i64 ((p5.1.getD (0 + (wr .i64 (p5.2 + 1)).toNat) default).fAdmin), .int .i64 ((p5.1.getD (0 + (wr .i64 (p5.2 + 1)).toNat) default).fMetric), .int .i64 ((p5.1.getD (0 + (wr .i64 (p5.2 + 1)).toNat) default).fInner), .int .i64 ((p5.1.getD (0 + (wr .i64 (p5.2 + 1)).toNat) default).fTag), .int .i64 ((p5.1.getD (0 + (wr .i64 (p5.2 + 1)).toNat) default).fPref), sL 1 (ci .i64) ((p5.1.getD (0 + (wr .i64 (p5.2 + 1)).toNat) default).fPath), .int .u32 ((p5.1.getD (0 + (wr .i64 (p5.2 + 1)).toNat) default).fFrom), .int .u32 ((p5.1.getD (0 + (wr .i64 (p5.2 + 1)).toNat) default).fNext), sL 2 c_THop ((p5.1.getD (0 + (wr .i64 (p5.2 + 1)).toNat) default).fHops), .bool ((p5.1.getD (0 + (wr .i64 (p5.2 + 1)).toNat) default).fDiscard)] 0 else c_TRoute (p5.1.getD j default)) (0 + (wr .i64 (p5.2 + 1)).toNat)) [.int .u32 (((p5.1.getD (0 + p5.2.toNat) default).fPrefix).fAddr), .int .i64 (((p5.1.getD (0 + p5.2.toNat) default).fPrefix).fLen), .int .i64 ((p5.1.getD (0 + p5.2.toNat) default).fProto), .int .i64 ((p5.1.getD (0 + p5.2.toNat) default).fClass), .int .i64 ((p5.1.getD (0 + p5.2.toNat) default).fAdmin), .int .i64 ((p5.1.getD (0 + p5.2.toNat) default).fMetric), .int .i64 ((p5.1.getD (0 + p5.2.toNat) default).fInner), .int .i64 ((p5.1.getD (0 + p5.2.toNat) default).fTag), .int .i64 ((p5.1.getD (0 + p5.2.toNat) default).fPref), sL 1 (ci .i64) ((p5.1.getD (0 + p5.2.toNat) default).fPath), .int .u32 ((p5.1.getD (0 + p5.2.toNat) default).fFrom), .int .u32 ((p5.1.getD (0 + p5.2.toNat) default).fNext), sL 2 c_THop ((p5.1.getD (0 + p5.2.toNat) default).fHops), .bool ((p5.1.getD (0 + p5.2.toNat) default).fDiscard)] 0 else (fun j => bif Nat.beq j (0 + p5.2.toNat) then splice (c_TRoute (p5.1.getD (0 + p5.2.toNat) default)) [.int .u32 (((p5.1.getD (0 + (wr .i64 (p5.2 + 1)).toNat) default).fPrefix).fAddr), .int .i64 (((p5.1.getD (0 + (wr .i64 (p5.2 + 1)).toNat) default).fPrefix).fLen), .int .i64 ((p5.1.getD (0 + (wr .i64 (p5.2 + 1)).toNat) default).fProto), .int .i64 ((p5.1.getD (0 + (wr .i64 (p5.2 + 1)).toNat) default).fClass), .int .i64 ((p5.1.getD (0 + (wr .i64 (p5.2 + 1)).toNat) default).fAdmin), .int .i64 ((p5.1.getD (0 + (wr .i64 (p5.2 + 1)).toNat) default).fMetric), .int .i64 ((p5.1.getD (0 + (wr .i64 (p5.2 + 1)).toNat) default).fInner), .int .i64 ((p5.1.getD (0 + (wr .i64 (p5.2 + 1)).toNat) default).fTag), .int .i64 ((p5.1.getD (0 + (wr .i64 (p5.2 + 1)).toNat) default).fPref), sL 1 (ci .i64) ((p5.1.getD (0 + (wr .i64 (p5.2 + 1)).toNat) default).fPath), .int .u32 ((p5.1.getD (0 + (wr .i64 (p5.2 + 1)).toNat) default).fFrom), .int .u32 ((p5.1.getD (0 + (wr .i64 (p5.2 + 1)).toNat) default).fNext), sL 2 c_THop ((p5.1.getD (0 + (wr .i64 (p5.2 + 1)).toNat) default).fHops), .bool ((p5.1.getD (0 + (wr .i64 (p5.2 + 1)).toNat) default).fDiscard)] 0 else c_TRoute (p5.1.getD j default)) j), .gone]⟩ [decide (0 ≤ (wr .i64 (p5.2 + 1))), decide ((wr .i64 (p5.2 + 1)) < (p5.1.length : Int)), decide (0 ≤ p5.2), decide (p5.2 < (p5.1.length : Int)), decide (0 ≤ p5.2), decide (p5.2 < (p5.1.length : Int)), decide (0 ≤ (wr .i64 (p5.2 + 1))), decide ((wr .i64 (p5.2 + 1)) < (p5.1.length : Int))] [] c27 trivial ?_
 refine inb_n ?_
 refine then_le (s' := ⟨220, [(0, .asl 0 0 (((p5.1.set (0 + p5.2.toNat) (p5.1.getD (0 + (wr .i64 (p5.2 + 1)).toNat) default)).set (0 + (wr .i64 (p5.2 + 1)).toNat) (p5.1.getD (0 + p5.2.toNat) default)).length)), (10, .int .i64 y4), (13, .int .i64 p5.2)], [aL 14 c_TRoute ((p5.1.set (0 + p5.2.toNat) (p5.1.getD (0 + (wr .i64 (p5.2 + 1)).toNat) default)).set (0 + (wr .i64 (p5.2 + 1)).toNat) (p5.1.getD (0 + p5.2.toNat) default)), .gone]⟩) (le_sub (.cons (asl_len (by simp)) (.cons Sub.rfl (.cons Sub.rfl .nil))) (.cons (.arr (by simp) (set2_ext c_TRoute p5.1 (0 + p5.2.toNat) (p5.1.getD (0 + (wr .i64 (p5.2 + 1)).toNat) default) _ rfl (0 + (wr .i64 (p5.2 + 1)).toNat) (p5.1.getD (0 + p5.2.toNat) default) _ (sp2 rfl rfl))) (.cons .rfl .nil))) ?_
 refine rg0 [0, 10, 13] 2 ⟨220, [(0, .asl 0 0 (((p5.1.set (0 + p5.2.toNat) (p5.1.getD (0 + (wr .i64 (p5.2 + 1)).toNat) default)).set (0 + (wr .i64 (p5.2 + 1)).toNat) (p5.1.getD (0 + p5.2.toNat) default)).length)), (10, .int .i64 y4), (13, .int .i64 (wr .i64 (p5.2 + 1)))], [aL 14 c_TRoute ((p5.1.set (0 + p5.2.toNat) (p5.1.getD (0 + (wr .i64 (p5.2 + 1)).toNat) default)).set (0 + (wr .i64 (p5.2 + 1)).toNat) (p5.1.getD (0 + p5.2.toNat) default)), .gone]⟩ ?_
 obtain rfl := Option.some.inj h28
 exact round_n (le_rfl)
 have h26 := cond_f b24 h23
 refine awp_exit (then_e ?_)
 obtain rfl := Option.some.inj h26
 exact round_e ⟨rfl, kp []⟩
 intro e31 s32 o33
 obtain ⟨rfl, l34⟩ := o33
 refine inb_here ?_
 refine then_le (s' := ⟨220, [], [aL 14 c_TRoute y7, .gone]⟩) (l34) ?_
 refine awp_ret (then_r ?_)
 obtain ⟨c35, h36⟩ := gd_some h30
 obtain rfl := Option.some.inj h36
 exact emr (s' := ⟨220, [], [aL 14 c_TRoute y7, .gone]⟩) (le_rfl) (len_ok c35)
 have h3 := cond_f b1 h
 refine awp_skip (then_n (awp_seq (awp_seq (rg0 [0, 1, 2, 3, 4, 80] 2 ⟨220, [(0, .asl 0 0 a0.length), (1, .int .i64 a1), (2, .int .i64 a2), (3, .int .i64 a3), (4, .fn 54 []), (80, .bool ((wr .i64 (a3 - a2)) == 1))], [aL 14 c_TRoute a0, .gone]⟩ ?_))))
 refine then_n ?_
 refine cnd ((wr .i64 (a3 - a2)) == 1) (fun b37 => ?_) (fun b37 => ?_)
 have h38 := cond_t b37 h3
 refine awp_seq (rg0 [0, 2, 4, 14] 2 ⟨220, [(0, .asl 0 0 a0.length), (2, .int .i64 a2), (4, .fn 54 []), (14, .int .i64 a1)], [aL 14 c_TRoute a0, .gone]⟩ ?_)
 refine then_n (awp_seq (rg0 [0, 2, 4, 14, 15] 2 ⟨220, [(0, .asl 0 0 a0.length), (2, .int .i64 a2), (4, .fn 54 []), (14, .int .i64 a1), (15, .int .i64 a2)], [aL 14 c_TRoute a0, .gone]⟩ ?_))
 refine then_n (awp_seq (awp_block ?_))
 obtain ⟨y11, q53, h54⟩ := bind_some h38
 refine awp_le (s' := ⟨220, [(0, .asl 0 0 a0.length), (2, .int .i64 a2), (4, .fn 54 []), (14, .int .i64 a1), (15, .int .i64 a2)], [aL 14 c_TRoute a0, .gone]⟩) (le_rfl) ?_
 refine awp_mono (awp_loop (f := M.slices_symMergeCmpFunc_api_Route__route_Merge_1_l3 a0 a2) (S := fun (p8 : Int × Int) => ⟨220, [(0, .asl 0 0 a0.length), (2, .int .i64 a2), (4, .fn 54 []), (14, .int .i64 p8.1), (15, .int .i64 p8.2)], [aL 14 c_TRoute a0, .gone]⟩) (O := (fun z => OutE 4 (fun z => ⟨220, [(0, .asl 0 0 a0.length), (2, .int .i64 a2), (14, .int .i64 z)], [aL 14 c_TRoute a0, .gone]⟩) z)) ?_ (x := (a1, a2)) (y := y11) (loopM_iter q53)) ?_
 intro p8 y9 h40
 unfold M.slices_symMergeCmpFunc_api_Route__route_Merge_1_l3 at h40
 refine awp_seq (awp_seq (rg0 [0, 2, 4, 14, 15, 85] 2 ⟨220, [(0, .asl 0 0 a0.length), (2, .int .i64 a2), (4, .fn 54 []), (14, .int .i64 p8.1), (15, .int .i64 p8.2), (85, .bool (decide (p8.1 < p8.2)))], [aL 14 c_TRoute a0, .gone]⟩ ?_))
 refine then_n ?_
 refine cnd (decide (p8.1 < p8.2)) (fun b41 => ?_) (fun b41 => ?_)
 have h42 := cond_t b41 h40
 refine awp_skip (then_n (awp_block (awp_seq ?_)))
 obtain ⟨c44, h45⟩ := gd_some h42
 refine rgc [0, 2, 4, 14, 15, 16] 2 ⟨220, [(0, .asl 0 0 a0.length), (2, .int .i64 a2), (4, .fn 54 []), (14, .int .i64 p8.1), (15, .int .i64 p8.2), (16, .int .i64 (wr .i64 ((wr .u64 (wr .i64 (p8.1 + p8.2))).fdiv (2 ^ min (1 : Int).toNat 64))))], [aL 14 c_TRoute a0, .gone]⟩ [decide (0 ≤ 1)] c44 ?_
 refine then_n (awp_seq ?_)
 obtain ⟨r10, q46, h47⟩ := bind_some h45
 obtain ⟨c48, h49⟩ := gd_some h47
 refine rg [.pure (.int .i64 r10)] [0, 2, 4, 14, 15, 16, 103] 2 ⟨220, [(0, .asl 0 0 a0.length), (2, .int .i64 a2), (4, .fn 54 []), (14, .int .i64 p8.1), (15, .int .i64 p8.2), (16, .int .i64 (wr .i64 ((wr .u64 (wr .i64 (p8.1 + p8.2))).fdiv (2 ^ min (1 : Int).toNat 64)))), (103, .bool (!(decide (r10 < 0))))], [aL 14 c_TRoute a0, .gone]⟩ [decide (0 ≤ a2), decide (a2 < (a0.length : Int)), decide (0 ≤ (wr .i64 ((wr .u64 (wr .i64 (p8.1 + p8.2))).fdiv (2 ^ min (1 : Int).toNat 64)))), decide ((wr .i64 ((wr .u64 (wr .i64 (p8.1 + p8.2))).fdiv (2 ^ min (1 : Int).toNat 64))) < (a0.length : Int))] [⟨true, 54, [.agg (c_TRoute (a0.getD (0 + a2.toNat) default)), .agg (c_TRoute (a0.getD (0 + (wr .i64 ((wr .u64 (wr .i64 (p8.1 + p8.2))).fdiv (2 ^ min (1 : Int).toNat 64))).toNat) default))], .pure (.int .i64 r10)⟩] c48 ⟨fun _ => route_Merge_1_ok (a0.getD (0 + a2.toNat) default) (a0.getD (0 + (wr .i64 ((wr .u64 (wr .i64 (p8.1 + p8.2))).fdiv (2 ^ min (1 : Int).toNat 64))).toNat) default) r10 q46, trivial⟩ ?_
 refine then_n ?_
 refine cnd (!(decide (r10 < 0))) (fun b50 => ?_) (fun b50 => ?_)
 have h51 := cond_t b50 h49
 refine rg0 [0, 2, 4, 14, 15] 2 ⟨220, [(0, .asl 0 0 a0.length), (2, .int .i64 a2), (4, .fn 54 []), (14, .int .i64 (wr .i64 ((wr .i64 ((wr .u64 (wr .i64 (p8.1 + p8.2))).fdiv (2 ^ min (1 : Int).toNat 64))) + 1))), (15, .int .i64 p8.2)], [aL 14 c_TRoute a0, .gone]⟩ ?_
 refine inb_n ?_
 obtain rfl := Option.some.inj h51
 exact round_n (le_rfl)
 have h52 := cond_f b50 h49
 refine rg0 [0, 2, 4, 14, 15] 2 ⟨220, [(0, .asl 0 0 a0.length), (2, .int .i64 a2), (4, .fn 54 []), (14, .int .i64 p8.1), (15, .int .i64 (wr .i64 ((wr .u64 (wr .i64 (p8.1 + p8.2))).fdiv (2 ^ min (1 : Int).toNat 64))))], [aL 14 c_TRoute a0, .gone]⟩ ?_
 refine inb_n ?_
 obtain rfl := Option.some.inj h52
 exact round_n (le_rfl)
 have h43 := cond_f b41 h40
 refine awp_exit (then_e ?_)
 obtain rfl := Option.some.inj h43
 exact round_e ⟨rfl, kp [0, 2, 14]⟩
 intro e55 s56 o57
 obtain ⟨rfl, l58⟩ := o57
 refine inb_here ?_
 refine then_le (s' := ⟨220, [(0, .asl 0 0 a0.length), (2, .int .i64 a2), (14, .int .i64 y11)], [aL 14 c_TRoute a0, .gone]⟩) (l58) ?_
 refine awp_seq (awp_seq (rg0 [0, 14, 17] 2 ⟨220, [(0, .asl 0 0 a0.length), (14, .int .i64 y11), (17, .int .i64 a2)], [aL 14 c_TRoute a0, .gone]⟩ ?_))
 refine then_n (awp_block ?_)
 obtain ⟨y14, q65, h66⟩ := bind_some h54
 refine awp_le (s' := ⟨220, [(0, .asl 0 0 a0.length), (14, .int .i64 y11), (17, .int .i64 a2)], [aL 14 c_TRoute a0, .gone]⟩) (le_rfl) ?_
 refine awp_mono (awp_loop (f := M.slices_symMergeCmpFunc_api_Route__route_Merge_1_l4 y11) (S := fun (p12 : (List TRoute) × Int) => ⟨220, [(0, .asl 0 0 p12.1.length), (14, .int .i64 y11), (17, .int .i64 p12.2)], [aL 14 c_TRoute p12.1, .gone]⟩) (O := (fun z => OutE 6 (fun z => ⟨220, [], [aL 14 c_TRoute z, .gone]⟩) z)) ?_ (x := (a0, a2)) (y := y14) (loopM_iter q65)) ?_
 intro p12 y13 h59
 unfold M.slices_symMergeCmpFunc_api_Route__route_Merge_1_l4 at h59
 refine awp_seq (awp_seq (rg0 [0, 14, 17, 110] 2 ⟨220, [(0, .asl 0 0 p12.1.length), (14, .int .i64 y11), (17, .int .i64 p12.2), (110, .bool (decide (p12.2 > y11)))], [aL 14 c_TRoute p12.1, .gone]⟩ ?_))
 refine then_n ?_
 refine cnd (decide (p12.2 > y11)) (fun b60 => ?_) (fun b60 => ?_)
 have h61 := cond_t b60 h59
 refine awp_skip (then_n (awp_seq (awp_block ?_)))
 obtain ⟨c63, h64⟩ := gd_some h61
 refine rgw [] [0, 14, 17] 2 ⟨220, [(0, .asl 0 0 p12.1.length), (14, .int .i64 y11), (17, .int .i64 p12.2)], [.arr 14 p12.1.length (fun j => bif Nat.beq j (0 + (wr .i64 (p12.2 - 1)).toNat) then splice ((fun j => bif Nat.beq j (0 + p12.2.toNat) then splice (c_TRoute (p12.1.getD (0 + p12.2.toNat) default)) [.int .u32 (((p12.1.getD (0 + (wr .i64 (p12.2 - 1)).toNat) default).fPrefix).fAddr), .int .i64 (((p12.1.getD (0 + (wr .i64 (p12.2 - 1)).toNat) default).fPrefix).fLen), .int .i64 ((p12.1.getD (0 + (wr .i64 (p12.2 - 1)).toNat) default).fProto), .int .i64 ((p12.1.getD (0 + (wr .i64 (p12.2 - 1)).toNat) default).fClass), .int .i64 ((p12.1.getD (0 + (wr .i64 (p12.2 - 1)).toNat) default).fAdmin), .int .i64 ((p12.1.getD (0 + (wr .i64 (p12.2 - 1)).toNat) default).fMetric), .int .i64 ((p12.1.getD (0 + (wr .i64 (p12.2 - 1)).toNat) default).fInner), .int .i64 ((p12.1.getD (0 + (wr .i64 (p12.2 - 1)).toNat) default).fTag), .int .i64 ((p12.1.getD (0 + (wr .i64 (p12.2 - 1)).toNat) default).fPref), sL 1 (ci .i64) ((p12.1.getD (0 + (wr .i64 (p12.2 - 1)).toNat) default).fPath), .int .u32 ((p12.1.getD (0 + (wr .i64 (p12.2 - 1)).toNat) default).fFrom), .int .u32 ((p12.1.getD (0 + (wr .i64 (p12.2 - 1)).toNat) default).fNext), sL 2 c_THop ((p12.1.getD (0 + (wr .i64 (p12.2 - 1)).toNat) default).fHops), .bool ((p12.1.getD (0 + (wr .i64 (p12.2 - 1)).toNat) default).fDiscard)] 0 else c_TRoute (p12.1.getD j default)) (0 + (wr .i64 (p12.2 - 1)).toNat)) [.int .u32 (((p12.1.getD (0 + p12.2.toNat) default).fPrefix).fAddr), .int .i64 (((p12.1.getD (0 + p12.2.toNat) default).fPrefix).fLen), .int .i64 ((p12.1.getD (0 + p12.2.toNat) default).fProto), .int .i64 ((p12.1.getD (0 + p12.2.toNat) default).fClass), .int .i64 ((p12.1.getD (0 + p12.2.toNat) default).fAdmin), .int .i64 ((p12.1.getD (0 + p12.2.toNat) default).fMetric), .int .i64 ((p12.1.getD (0 + p12.2.toNat) default).fInner), .int .i64 ((p12.1.getD (0 + p12.2.toNat) default).fTag), .int .i64 ((p12.1.getD (0 + p12.2.toNat) default).fPref), sL 1 (ci .i64) ((p12.1.getD (0 + p12.2.toNat) default).fPath), .int .u32 ((p12.1.getD (0 + p12.2.toNat) default).fFrom), .int .u32 ((p12.1.getD (0 + p12.2.toNat) default).fNext), sL 2 c_THop ((p12.1.getD (0 + p12.2.toNat) default).fHops), .bool ((p12.1.getD (0 + p12.2.toNat) default).fDiscard)] 0 else (fun j => bif Nat.beq j (0 + p12.2.toNat) then splice (c_TRoute (p12.1.getD (0 + p12.2.toNat) default)) [.int .u32 (((p12.1.getD (0 + (wr .i64 (p12.2 - 1)).toNat) default).fPrefix).fAddr), .int .i64 (((p12.1.getD (0 + (wr .i64 (p12.2 - 1)).toNat) default).fPrefix).fLen), .int .i64 ((p12.1.getD (0 + (wr .i64 (p12.2 - 1)).toNat) default).fProto), .int .i64 ((p12.1.getD (0 + (wr .i64 (p12.2 - 1)).toNat) default).fClass), .int .i64 ((p12.1.getD (0 + (wr .i64 (p12.2 - 1)).toNat) default).fAdmin), .int .i64 ((p12.1.getD (0 + (wr .i64 (p12.2 - 1)).toNat) default).fMetric), .int .i64 ((p12.1.getD (0 + (wr .i64 (p12.2 - 1)).toNat) default).fInner), .int .i64 ((p12.1.getD (0 + (wr .i64 (p12.2 - 1)).toNat) default).fTag), .int .i64 ((p12.1.getD (0 + (wr .i64 (p12.2 - 1)).toNat) default).fPref), sL 1 (ci .i64) ((p12.1.getD (0 + (wr .i64 (p12.2 - 1)).toNat) default).fPath), .int .u32 ((p12.1.getD (0 + (wr .i64 (p12.2 - 1)).toNat) default).fFrom), .int .u32 ((p12.1.getD (0 + (wr .i64 (p12.2 - 1)).toNat) default).fNext), sL 2 c_THop ((p12.1.getD (0 + (wr .i64 (p12.2 - 1)).toNat) default).fHops), .bool ((p12.1.getD (0 + (wr .i64 (p12.2 - 1)).toNat) default).fDiscard)] 0 else c_TRoute (p12.1.getD j default)) j), .gone]⟩ [decide (0 ≤ (wr .i64 (p12.2 - 1))), decide ((wr .i64 (p12.2 - 1)) < (p12.1.length : Int)), decide (0 ≤ p12.2), decide (p12.2 < (p12.1.length : Int)), decide (0 ≤ p12.2), decide (p12.2 < (p12.1.length : Int)), decide (0 ≤ (wr .i64 (p12.2 - 1))), decide ((wr .i64 (p12.2 - 1)) < (p12.1.length : Int))] [] c63 trivial ?_
 refine inb_n ?_
 refine then_le (s' := ⟨220, [(0, .asl 0 0 (((p12.1.set (0 + p12.2.toNat) (p12.1.getD (0 + (wr .i64 (p12.2 - 1)).toNat) default)).set (0 + (wr .i64 (p12.2 - 1)).toNat) (p12.1.getD (0 + p12.2.toNat) default)).length)), (14, .int .i64 y11), (17, .int .i64 p12.2)], [aL 14 c_TRoute ((p12.1.set (0 + p12.2.toNat) (p12.1.getD (0 + (wr .i64 (p12.2 - 1)).toNat) default)).set (0 + (wr .i64 (p12.2 - 1)).toNat) (p12.1.getD (0 + p12.2.toNat) default)), .gone]⟩) (le_sub (.cons (asl_len (by simp)) (.cons Sub.rfl (.cons Sub.rfl .nil))) (.cons (.arr (by simp) (set2_ext c_TRoute p12.1 (0 + p12.2.toNat) (p12.1.getD (0 + (wr .i64 (p12.2 - 1)).toNat) default) _ rfl (0 + (wr .i64 (p12.2 - 1)).toNat) (p12.1.getD (0 + p12.2.toNat) default) _ (sp2 rfl rfl))) (.cons .rfl .nil))) ?_
 refine rg0 [0, 14, 17] 2 ⟨220, [(0, .asl 0 0 (((p12.1.set (0 + p12.2.toNat) (p12.1.getD (0 + (wr .i64 (p12.2 - 1)).toNat) default)).set (0 + (wr .i64 (p12.2 - 1)).toNat) (p12.1.getD (0 + p12.2.toNat) default)).length)), (14, .int .i64 y11), (17, .int .i64 (wr .i64 (p12.2 - 1)))], [aL 14 c_TRoute ((p12.1.set (0 + p12.2.toNat) (p12.1.getD (0 + (wr .i64 (p12.2 - 1)).toNat) default)).set (0 + (wr .i64 (p12.2 - 1)).toNat) (p12.1.getD (0 + p12.2.toNat) default)), .gone]⟩ ?_
 obtain rfl := Option.some.inj h64
 exact round_n (le_rfl)
 have h62 := cond_f b60 h59
 refine awp_exit (then_e ?_)
 obtain rfl := Option.some.inj h62
 exact round_e ⟨rfl, kp []⟩
 intro e67 s68 o69
 obtain ⟨rfl, l70⟩ := o69
 refine inb_here ?_
 refine then_le (s' := ⟨220, [], [aL 14 c_TRoute y14, .gone]⟩) (l70) ?_
 refine awp_ret (then_r ?_)
 obtain ⟨c71, h72⟩ := gd_some h66
 obtain rfl := Option.some.inj h72
 exact emr (s' := ⟨220, [], [aL 14 c_TRoute y14, .gone]⟩) (le_rfl) (len_ok c71)
 have h39 := cond_f b37 h3
 refine awp_skip (then_n (awp_seq ?_))
 obtain ⟨c73, h74⟩ := gd_some h39
 refine rgc [0, 1, 2, 3, 4, 18] 2 ⟨220, [(0, .asl 0 0 a0.length), (1, .int .i64 a1), (2, .int .i64 a2), (3, .int .i64 a3), (4, .fn 54 []), (18, .int .i64 (wr .i64 ((wr .u64 (wr .i64 (a1 + a3))).fdiv (2 ^ min (1 : Int).toNat 64))))], [aL 14 c_TRoute a0, .gone]⟩ [decide (0 ≤ 1)] c73 ?_
 refine then_n (awp_seq (rg0 [0, 1, 2, 3, 4, 18, 19] 2 ⟨220, [(0, .asl 0 0 a0.length), (1, .int .i64 a1), (2, .int .i64 a2), (3, .int .i64 a3), (4, .fn 54 []), (18, .int .i64 (wr .i64 ((wr .u64 (wr .i64 (a1 + a3))).fdiv (2 ^ min (1 : Int).toNat 64)))), (19, .int .i64 (wr .i64 ((wr .i64 ((wr .u64 (wr .i64 (a1 + a3))).fdiv (2 ^ min (1 : Int).toNat 64))) + a2)))], [aL 14 c_TRoute a0, .gone]⟩ ?_))
 refine then_n (awp_seq (rg0 [0, 1, 2, 3, 4, 18, 19] 2 ⟨220, [(0, .asl 0 0 a0.length), (1, .int .i64 a1), (2, .int .i64 a2), (3, .int .i64 a3), (4, .fn 54 []), (18, .int .i64 (wr .i64 ((wr .u64 (wr .i64 (a1 + a3))).fdiv (2 ^ min (1 : Int).toNat 64)))), (19, .int .i64 (wr .i64 ((wr .i64 ((wr .u64 (wr .i64 (a1 + a3))).fdiv (2 ^ min (1 : Int).toNat 64))) + a2)))], [aL 14 c_TRoute a0, .gone]⟩ ?_))
 refine then_n ?_
 refine awp_join (fun (p15 : Int × Int) => ⟨220, [(0, .asl 0 0 a0.length), (1, .int .i64 a1), (2, .int .i64 a2), (3, .int .i64 a3), (4, .fn 54 []), (18, .int .i64 (wr .i64 ((wr .u64 (wr .i64 (a1 + a3))).fdiv (2 ^ min (1 : Int).toNat 64)))), (19, .int .i64 (wr .i64 ((wr .i64 ((wr .u64 (wr .i64 (a1 + a3))).fdiv (2 ^ min (1 : Int).toNat 64))) + a2))), (20, .int .i64 p15.1), (21, .int .i64 p15.2)], [aL 14 c_TRoute a0, .gone]⟩) (fun p15 => M.slices_symMergeCmpFunc_api_Route__route_Merge_1_k1 self a0 a1 a2 a3 p15 = some r) ?_ ?_
 intro p15 h76
 unfold M.slices_symMergeCmpFunc_api_Route__route_Merge_1_k1 at h76
 refine awp_seq (rg0 [0, 1, 2, 3, 4, 18, 19, 20, 21, 22] 2 ⟨220, [(0, .asl 0 0 a0.length), (1, .int .i64 a1), (2, .int .i64 a2), (3, .int .i64 a3), (4, .fn 54 []), (18, .int .i64 (wr .i64 ((wr .u64 (wr .i64 (a1 + a3))).fdiv (2 ^ min (1 : Int).toNat 64)))), (19, .int .i64 (wr .i64 ((wr .i64 ((wr .u64 (wr .i64 (a1 + a3))).fdiv (2 ^ min (1 : Int).toNat 64))) + a2))), (20, .int .i64 p15.1), (21, .int .i64 p15.2), (22, .int .i64 (wr .i64 ((wr .i64 ((wr .i64 ((wr .u64 (wr .i64 (a1 + a3))).fdiv (2 ^ min (1 : Int).toNat 64))) + a2)) - 1)))], [aL 14 c_TRoute a0, .gone]⟩ ?_)
 refine then_n (awp_seq (awp_block ?_))
 obtain ⟨y19, q90, h91⟩ := bind_some h76
 refine awp_le (s' := ⟨220, [(0, .asl 0 0 a0.length), (1, .int .i64 a1), (2, .int .i64 a2), (3, .int .i64 a3), (4, .fn 54 []), (18, .int .i64 (wr .i64 ((wr .u64 (wr .i64 (a1 + a3))).fdiv (2 ^ min (1 : Int).toNat 64)))), (19, .int .i64 (wr .i64 ((wr .i64 ((wr .u64 (wr .i64 (a1 + a3))).fdiv (2 ^ min (1 : Int).toNat 64))) + a2))), (20, .int .i64 p15.1), (21, .int .i64 p15.2), (22, .int .i64 (wr .i64 ((wr .i64 ((wr .i64 ((wr .u64 (wr .i64 (a1 + a3))).fdiv (2 ^ min (1 : Int).toNat 64))) + a2)) - 1)))], [aL 14 c_TRoute a0, .gone]⟩) (le_rfl) ?_
 refine awp_mono (awp_loop (f := M.slices_symMergeCmpFunc_api_Route__route_Merge_1_l5 a0 a1 a2 a3) (S := fun (p16 : Int × Int) => ⟨220, [(0, .asl 0 0 a0.length), (1, .int .i64 a1), (2, .int .i64 a2), (3, .int .i64 a3), (4, .fn 54 []), (18, .int .i64 (wr .i64 ((wr .u64 (wr .i64 (a1 + a3))).fdiv (2 ^ min (1 : Int).toNat 64)))), (19, .int .i64 (wr .i64 ((wr .i64 ((wr .u64 (wr .i64 (a1 + a3))).fdiv (2 ^ min (1 : Int).toNat 64))) + a2))), (20, .int .i64 p16.1), (21, .int .i64 p16.2), (22, .int .i64 (wr .i64 ((wr .i64 ((wr .i64 ((wr .u64 (wr .i64 (a1 + a3))).fdiv (2 ^ min (1 : Int).toNat 64))) + a2)) - 1)))], [aL 14 c_TRoute a0, .gone]⟩) (O := (fun z => OutE 8 (fun z => ⟨220, [(0, .asl 0 0 a0.length), (1, .int .i64 a1), (2, .int .i64 a2), (3, .int .i64 a3), (4, .fn 54 []), (18, .int .i64 (wr .i64 ((wr .u64 (wr .i64 (a1 + a3))).fdiv (2 ^ min (1 : Int).toNat 64)))), (19, .int .i64 (wr .i64 ((wr .i64 ((wr .u64 (wr .i64 (a1 + a3))).fdiv (2 ^ min (1 : Int).toNat 64))) + a2))), (20, .int .i64 z)], [aL 14 c_TRoute a0, .gone]⟩) z)) ?_ (x := (p15.1, p15.2)) (y := y19) (loopM_iter q90)) ?_
 intro p16 y17 h77
 unfold M.slices_symMergeCmpFunc_api_Route__route_Merge_1_l5 at h77
 refine awp_seq (awp_seq (rg0 [0, 1, 2, 3, 4, 18, 19, 20, 21, 22, 151] 2 ⟨220, [(0, .asl 0 0 a0.length), (1, .int .i64 a1), (2, .int .i64 a2), (3, .int .i64 a3), (4, .fn 54 []), (18, .int .i64 (wr .i64 ((wr .u64 (wr .i64 (a1 + a3))).fdiv (2 ^ min (1 : Int).toNat 64)))), (19, .int .i64 (wr .i64 ((wr .i64 ((wr .u64 (wr .i64 (a1 + a3))).fdiv (2 ^ min (1 : Int).toNat 64))) + a2))), (20, .int .i64 p16.1), (21, .int .i64 p16.2), (22, .int .i64 (wr .i64 ((wr .i64 ((wr .i64 ((wr .u64 (wr .i64 (a1 + a3))).fdiv (2 ^ min (1 : Int).toNat 64))) + a2)) - 1))), (151, .bool (decide (p16.1 < p16.2)))], [aL 14 c_TRoute a0, .gone]⟩ ?_))
 refine then_n ?_
 refine cnd (decide (p16.1 < p16.2)) (fun b78 => ?_) (fun b78 => ?_)
 have h79 := cond_t b78 h77
 refine awp_skip (then_n (awp_block (awp_seq ?_)))
 obtain ⟨c81, h82⟩ := gd_some h79
 refine rgc [0, 1, 2, 3, 4, 18, 19, 20, 21, 22, 23] 2 ⟨220, [(0, .asl 0 0 a0.length), (1, .int .i64 a1), (2, .int .i64 a2), (3, .int .i64 a3), (4, .fn 54 []), (18, .int .i64 (wr .i64 ((wr .u64 (wr .i64 (a1 + a3))).fdiv (2 ^ min (1 : Int).toNat 64)))), (19, .int .i64 (wr .i64 ((wr .i64 ((wr .u64 (wr .i64 (a1 + a3))).fdiv (2 ^ min (1 : Int).toNat 64))) + a2))), (20, .int .i64 p16.1), (21, .int .i64 p16.2), (22, .int .i64 (wr .i64 ((wr .i64 ((wr .i64 ((wr .u64 (wr .i64 (a1 + a3))).fdiv (2 ^ min (1 : Int).toNat 64))) + a2)) - 1))), (23, .int .i64 (wr .i64 ((wr .u64 (wr .i64 (p16.1 + p16.2))).fdiv (2 ^ min (1 : Int).toNat 64))))], [aL 14 c_TRoute a0, .gone]⟩ [decide (0 ≤ 1)] c81 ?_
 refine then_n (awp_seq ?_)
 obtain ⟨r18, q83, h84⟩ := bind_some h82
 obtain ⟨c85, h86⟩ := gd_some h84
 refine rg [.pure (.int .i64 r18)] [0, 1, 2, 3, 4, 18, 19, 20, 21, 22, 23, 171] 2 ⟨220, [(0, .asl 0 0 a0.length), (1, .int .i64 a1), (2, .int .i64 a2), (3, .int .i64 a3), (4, .fn 54 []), (18, .int .i64 (wr .i64 ((wr .u64 (wr .i64 (a1 + a3))).fdiv (2 ^ min (1 : Int).toNat 64)))), (19, .int .i64 (wr .i64 ((wr .i64 ((wr .u64 (wr .i64 (a1 + a3))).fdiv (2 ^ min (1 : Int).toNat 64))) + a2))), (20, .int .i64 p16.1), (21, .int .i64 p16.2), (22, .int .i64 (wr .i64 ((wr .i64 ((wr .i64 ((wr .u64 (wr .i64 (a1 + a3))).fdiv (2 ^ min (1 : Int).toNat 64))) + a2)) - 1))), (23, .int .i64 (wr .i64 ((wr .u64 (wr .i64 (p16.1 + p16.2))).fdiv (2 ^ min (1 : Int).toNat 64)))), (171, .bool (!(decide (r18 < 0))))], [aL 14 c_TRoute a0, .gone]⟩ [decide (0 ≤ (wr .i64 ((wr .i64 ((wr .i64 ((wr .i64 ((wr .u64 (wr .i64 (a1 + a3))).fdiv (2 ^ min (1 : Int).toNat 64))) + a2)) - 1)) - (wr .i64 ((wr .u64 (wr .i64 (p16.1 + p16.2))).fdiv (2 ^ min (1 : Int).toNat 64)))))), decide ((wr .i64 ((wr .i64 ((wr .i64 ((wr .i64 ((wr .u64 (wr .i64 (a1 + a3))).fdiv (2 ^ min (1 : Int).toNat 64))) + a2)) - 1)) - (wr .i64 ((wr .u64 (wr .i64 (p16.1 + p16.2))).fdiv (2 ^ min (1 : Int).toNat 64))))) < (a0.length : Int)), decide (0 ≤ (wr .i64 ((wr .u64 (wr .i64 (p16.1 + p16.2))).fdiv (2 ^ min (1 : Int).toNat 64)))), decide ((wr .i64 ((wr .u64 (wr .i64 (p16.1 + p16.2))).fdiv (2 ^ min (1 : Int).toNat 64))) < (a0.length : Int))] [⟨true, 54, [.agg (c_TRoute (a0.getD (0 + (wr .i64 ((wr .i64 ((wr .i64 ((wr .i64 ((wr .u64 (wr .i64 (a1 + a3))).fdiv (2 ^ min (1 : Int).toNat 64))) + a2)) - 1)) - (wr .i64 ((wr .u64 (wr .i64 (p16.1 + p16.2))).fdiv (2 ^ min (1 : Int).toNat 64))))).toNat) default)), .agg (c_TRoute (a0.getD (0 + (wr .i64 ((wr .u64 (wr .i64 (p16.1 + p16.2))).fdiv (2 ^ min (1 : Int).toNat 64))).toNat) default))], .pure (.int .i64 r18)⟩] c85 ⟨fun _ => route_Merge_1_ok (a0.getD (0 + (wr .i64 ((wr .i64 ((wr .i64 ((wr .i64 ((wr .u64 (wr .i64 (a1 + a3))).fdiv (2 ^ min (1 : Int).toNat 64))) + a2)) - 1)) - (wr .i64 ((wr .u64 (wr .i64 (p16.1 + p16.2))).fdiv (2 ^ min (1 : Int).toNat 64))))).toNat) default) (a0.getD (0 + (wr .i64 ((wr .u64 (wr .i64 (p16.1 + p16.2))).fdiv (2 ^ min (1 : Int).toNat 64))).toNat) default) r18 q83, trivial⟩ ?_
 refine then_n ?_
 refine cnd (!(decide (r18 < 0))) (fun b87 => ?_) (fun b87 => ?_)
 have h88 := cond_t b87 h86
 refine rg0 [0, 1, 2, 3, 4, 18, 19, 20, 21, 22] 2 ⟨220, [(0, .asl 0 0 a0.length), (1, .int .i64 a1), (2, .int .i64 a2), (3, .int .i64 a3), (4, .fn 54 []), (18, .int .i64 (wr .i64 ((wr .u64 (wr .i64 (a1 + a3))).fdiv (2 ^ min (1 : Int).toNat 64)))), (19, .int .i64 (wr .i64 ((wr .i64 ((wr .u64 (wr .i64 (a1 + a3))).fdiv (2 ^ min (1 : Int).toNat 64))) + a2))), (20, .int .i64 (wr .i64 ((wr .i64 ((wr .u64 (wr .i64 (p16.1 + p16.2))).fdiv (2 ^ min (1 : Int).toNat 64))) + 1))), (21, .int .i64 p16.2), (22, .int .i64 (wr .i64 ((wr .i64 ((wr .i64 ((wr .u64 (wr .i64 (a1 + a3))).fdiv (2 ^ min (1 : Int).toNat 64))) + a2)) - 1)))], [aL 14 c_TRoute a0, .gone]⟩ ?_
 refine inb_n ?_
 obtain rfl := Option.some.inj h88
 exact round_n (le_rfl)
 have h89 := cond_f b87 h86
 refine rg0 [0, 1, 2, 3, 4, 18, 19, 20, 21, 22] 2 ⟨220, [(0, .asl 0 0 a0.length), (1, .int .i64 a1), (2, .int .i64 a2), (3, .int .i64 a3), (4, .fn 54 []), (18, .int .i64 (wr .i64 ((wr .u64 (wr .i64 (a1 + a3))).fdiv (2 ^ min (1 : Int).toNat 64)))), (19, .int .i64 (wr .i64 ((wr .i64 ((wr .u64 (wr .i64 (a1 + a3))).fdiv (2 ^ min (1 : Int).toNat 64))) + a2))), (20, .int .i64 p16.1), (21, .int .i64 (wr .i64 ((wr .u64 (wr .i64 (p16.1 + p16.2))).fdiv (2 ^ min (1 : Int).toNat 64)))), (22, .int .i64 (wr .i64 ((wr .i64 ((wr .i64 ((wr .u64 (wr .i64 (a1 + a3))).fdiv (2 ^ min (1 : Int).toNat 64))) + a2)) - 1)))], [aL 14 c_TRoute a0, .gone]⟩ ?_
 refine inb_n ?_
 obtain rfl := Option.some.inj h89
 exact round_n (le_rfl)
 have h80 := cond_f b78 h77
 refine awp_exit (then_e ?_)
 obtain rfl := Option.some.inj h80
 exact round_e ⟨rfl, kp [0, 1, 2, 3, 4, 18, 19, 20]⟩
 intro e92 s93 o94
 obtain ⟨rfl, l95⟩ := o94
 refine inb_here ?_
 refine then_le (s' := ⟨220, [(0, .asl 0 0 a0.length), (1, .int .i64 a1), (2, .int .i64 a2), (3, .int .i64 a3), (4, .fn 54 []), (18, .int .i64 (wr .i64 ((wr .u64 (wr .i64 (a1 + a3))).fdiv (2 ^ min (1 : Int).toNat 64)))), (19, .int .i64 (wr .i64 ((wr .i64 ((wr .u64 (wr .i64 (a1 + a3))).fdiv (2 ^ min (1 : Int).toNat 64))) + a2))), (20, .int .i64 y19)], [aL 14 c_TRoute a0, .gone]⟩) (l95) ?_
 refine awp_seq (rg0 [0, 1, 2, 3, 4, 18, 20, 24] 2 ⟨220, [(0, .asl 0 0 a0.length), (1, .int .i64 a1), (2, .int .i64 a2), (3, .int .i64 a3), (4, .fn 54 []), (18, .int .i64 (wr .i64 ((wr .u64 (wr .i64 (a1 + a3))).fdiv (2 ^ min (1 : Int).toNat 64)))), (20, .int .i64 y19), (24, .int .i64 (wr .i64 ((wr .i64 ((wr .i64 ((wr .u64 (wr .i64 (a1 + a3))).fdiv (2 ^ min (1 : Int).toNat 64))) + a2)) - y19)))], [aL 14 c_TRoute a0, .gone]⟩ ?_)
 refine then_n ?_
 refine awp_join (fun (p20 : (List TRoute)) => ⟨220, [(0, .asl 0 0 p20.length), (1, .int .i64 a1), (3, .int .i64 a3), (4, .fn 54 []), (18, .int .i64 (wr .i64 ((wr .u64 (wr .i64 (a1 + a3))).fdiv (2 ^ min (1 : Int).toNat 64)))), (20, .int .i64 y19), (24, .int .i64 (wr .i64 ((wr .i64 ((wr .i64 ((wr .u64 (wr .i64 (a1 + a3))).fdiv (2 ^ min (1 : Int).toNat 64))) + a2)) - y19)))], [aL 14 c_TRoute p20, .gone]⟩) (fun p20 => M.slices_symMergeCmpFunc_api_Route__route_Merge_1_k2 self a0 a1 a2 a3 y19 p20 = some r) ?_ ?_
 intro p20 h97
 unfold M.slices_symMergeCmpFunc_api_Route__route_Merge_1_k2 at h97
 refine awp_join (fun (p21 : (List TRoute)) => ⟨220, [(0, .asl 0 0 p21.length), (3, .int .i64 a3), (4, .fn 54 []), (18, .int .i64 (wr .i64 ((wr .u64 (wr .i64 (a1 + a3))).fdiv (2 ^ min (1 : Int).toNat 64)))), (24, .int .i64 (wr .i64 ((wr .i64 ((wr .i64 ((wr .u64 (wr .i64 (a1 + a3))).fdiv (2 ^ min (1 : Int).toNat 64))) + a2)) - y19)))], [aL 14 c_TRoute p21, .gone]⟩) (fun p21 => M.slices_symMergeCmpFunc_api_Route__route_Merge_1_k3 self a0 a1 a2 a3 y19 p21 = some r) ?_ ?_
 intro p21 h99
 unfold M.slices_symMergeCmpFunc_api_Route__route_Merge_1_k3 at h99
 refine awp_seq (rg0 [0, 3, 4, 18, 24, 213] 2 ⟨220, [(0, .asl 0 0 p21.length), (3, .int .i64 a3), (4, .fn 54 []), (18, .int .i64 (wr .i64 ((wr .u64 (wr .i64 (a1 + a3))).fdiv (2 ^ min (1 : Int).toNat 64)))), (24, .int .i64 (wr .i64 ((wr .i64 ((wr .i64 ((wr .u64 (wr .i64 (a1 + a3))).fdiv (2 ^ min (1 : Int).toNat 64))) + a2)) - y19))), (213, .bool ((decide ((wr .i64 ((wr .u64 (wr .i64 (a1 + a3))).fdiv (2 ^ min (1 : Int).toNat 64))) < (wr .i64 ((wr .i64 ((wr .i64 ((wr .u64 (wr .i64 (a1 + a3))).fdiv (2 ^ min (1 : Int).toNat 64))) + a2)) - y19)))) && (decide ((wr .i64 ((wr .i64 ((wr .i64 ((wr .u64 (wr .i64 (a1 + a3))).fdiv (2 ^ min (1 : Int).toNat 64))) + a2)) - y19)) < a3))))], [aL 14 c_TRoute p21, .gone]⟩ ?_)
 refine then_n ?_
 refine cnd ((decide ((wr .i64 ((wr .u64 (wr .i64 (a1 + a3))).fdiv (2 ^ min (1 : Int).toNat 64))) < (wr .i64 ((wr .i64 ((wr .i64 ((wr .u64 (wr .i64 (a1 + a3))).fdiv (2 ^ min (1 : Int).toNat 64))) + a2)) - y19)))) && (decide ((wr .i64 ((wr .i64 ((wr .i64 ((wr .u64 (wr .i64 (a1 + a3))).fdiv (2 ^ min (1 : Int).toNat 64))) + a2)) - y19)) < a3))) (fun b100 => ?_) (fun b100 => ?_)
 have h101 := cond_t b100 h99
 obtain ⟨r22, q103, h104⟩ := bind_some h101
 obtain ⟨c105, h106⟩ := gd_some h104
 refine rg [.lnd 0 0 (fun _ => []) (fun i => c_TRoute (r22.getD i default)) (.tup [])] [] 2 ⟨220, [], [.arr 14 p21.length (fun i => c_TRoute (r22.getD i default)), .gone]⟩ [] [⟨true, 79, [.asl 0 0 p21.length, .int .i64 (wr .i64 ((wr .u64 (wr .i64 (a1 + a3))).fdiv (2 ^ min (1 : Int).toNat 64))), .int .i64 (wr .i64 ((wr .i64 ((wr .i64 ((wr .u64 (wr .i64 (a1 + a3))).fdiv (2 ^ min (1 : Int).toNat 64))) + a2)) - y19)), .int .i64 a3, .fn 54 []], .lnd 14 p21.length (fun i => c_TRoute (p21.getD i default)) (fun i => c_TRoute (r22.getD i default)) (.tup [])⟩] nil_all ⟨fun _ => ih p21 (wr .i64 ((wr .u64 (wr .i64 (a1 + a3))).fdiv (2 ^ min (1 : Int).toNat 64))) (wr .i64 ((wr .i64 ((wr .i64 ((wr .u64 (wr .i64 (a1 + a3))).fdiv (2 ^ min (1 : Int).toNat 64))) + a2)) - y19)) a3 r22 q103, trivial⟩ ?_
 obtain ⟨c107, h108⟩ := gd_some h106
 obtain rfl := Option.some.inj h108
 exact emn (s' := ⟨220, [], [aL 14 c_TRoute r22, .gone]⟩) (le_sub .nil (.cons (.arr (len_eq (c105 _ List.mem_cons_self)) (fun _ _ => rfl)) (.cons .rfl .nil))) (len_ok c107)
 have h102 := cond_f b100 h99
 refine awp_skip ?_
 obtain ⟨c109, h110⟩ := gd_some h102
 obtain rfl := Option.some.inj h110
 exact emn (s' := ⟨220, [(0, .asl 0 0 p21.length), (3, .int .i64 a3), (4, .fn 54 []), (18, .int .i64 (wr .i64 ((wr .u64 (wr .i64 (a1 + a3))).fdiv (2 ^ min (1 : Int).toNat 64)))), (24, .int .i64 (wr .i64 ((wr .i64 ((wr .i64 ((wr .u64 (wr .i64 (a1 + a3))).fdiv (2 ^ min (1 : Int).toNat 64))) + a2)) - y19))), (213, .bool ((decide ((wr .i64 ((wr .u64 (wr .i64 (a1 + a3))).fdiv (2 ^ min (1 : Int).toNat 64))) < (wr .i64 ((wr .i64 ((wr .i64 ((wr .u64 (wr .i64 (a1 + a3))).fdiv (2 ^ min (1 : Int).toNat 64))) + a2)) - y19)))) && (decide ((wr .i64 ((wr .i64 ((wr .i64 ((wr .u64 (wr .i64 (a1 + a3))).fdiv (2 ^ min (1 : Int).toNat 64))) + a2)) - y19)) < a3))))], [aL 14 c_TRoute p21, .gone]⟩) (le_rfl) (len_ok c109)
 intro k98
 refine awp_seq (rg0 [0, 1, 3, 4, 18, 20, 24, 199] 2 ⟨220, [(0, .asl 0 0 p20.length), (1, .int .i64 a1), (3, .int .i64 a3), (4, .fn 54 []), (18, .int .i64 (wr .i64 ((wr .u64 (wr .i64 (a1 + a3))).fdiv (2 ^ min (1 : Int).toNat 64)))), (20, .int .i64 y19), (24, .int .i64 (wr .i64 ((wr .i64 ((wr .i64 ((wr .u64 (wr .i64 (a1 + a3))).fdiv (2 ^ min (1 : Int).toNat 64))) + a2)) - y19))), (199, .bool ((decide (a1 < y19)) && (decide (y19 < (wr .i64 ((wr .u64 (wr .i64 (a1 + a3))).fdiv (2 ^ min (1 : Int).toNat 64)))))))], [aL 14 c_TRoute p20, .gone]⟩ ?_)
 refine then_n ?_
 refine cnd ((decide (a1 < y19)) && (decide (y19 < (wr .i64 ((wr .u64 (wr .i64 (a1 + a3))).fdiv (2 ^ min (1 : Int).toNat 64)))))) (fun b111 => ?_) (fun b111 => ?_)
 have h112 := cond_t b111 h97
 obtain ⟨r23, q114, h115⟩ := bind_some h112
 obtain ⟨c116, h117⟩ := gd_some h115
 refine rg [.lnd 0 0 (fun _ => []) (fun i => c_TRoute (r23.getD i default)) (.tup [])] [0, 3, 4, 18, 24] 2 ⟨220, [(0, .asl 0 0 p20.length), (3, .int .i64 a3), (4, .fn 54 []), (18, .int .i64 (wr .i64 ((wr .u64 (wr .i64 (a1 + a3))).fdiv (2 ^ min (1 : Int).toNat 64)))), (24, .int .i64 (wr .i64 ((wr .i64 ((wr .i64 ((wr .u64 (wr .i64 (a1 + a3))).fdiv (2 ^ min (1 : Int).toNat 64))) + a2)) - y19)))], [.arr 14 p20.length (fun i => c_TRoute (r23.getD i default)), .gone]⟩ [] [⟨true, 79, [.asl 0 0 p20.length, .int .i64 a1, .int .i64 y19, .int .i64 (wr .i64 ((wr .u64 (wr .i64 (a1 + a3))).fdiv (2 ^ min (1 : Int).toNat 64))), .fn 54 []], .lnd 14 p20.length (fun i => c_TRoute (p20.getD i default)) (fun i => c_TRoute (r23.getD i default)) (.tup [])⟩] nil_all ⟨fun _ => ih p20 a1 y19 (wr .i64 ((wr .u64 (wr .i64 (a1 + a3))).fdiv (2 ^ min (1 : Int).toNat 64))) r23 q114, trivial⟩ ?_
 exact then_le (le_sub (.cons (asl_len (len_eq (c116 _ List.mem_cons_self))) (.cons Sub.rfl (.cons Sub.rfl (.cons Sub.rfl (.cons Sub.rfl .nil))))) (.cons (.arr (len_eq (c116 _ List.mem_cons_self)) (fun _ _ => rfl)) (.cons .rfl .nil))) (k98 r23 h117)
 have h113 := cond_f b111 h97
 refine awp_skip ?_
 exact then_le (kp [0, 3, 4, 18, 24]) (k98 p20 h113)
 intro k96
 refine awp_seq (rg0 [0, 1, 2, 3, 4, 18, 20, 24, 185] 2 ⟨220, [(0, .asl 0 0 a0.length), (1, .int .i64 a1), (2, .int .i64 a2), (3, .int .i64 a3), (4, .fn 54 []), (18, .int .i64 (wr .i64 ((wr .u64 (wr .i64 (a1 + a3))).fdiv (2 ^ min (1 : Int).toNat 64)))), (20, .int .i64 y19), (24, .int .i64 (wr .i64 ((wr .i64 ((wr .i64 ((wr .u64 (wr .i64 (a1 + a3))).fdiv (2 ^ min (1 : Int).toNat 64))) + a2)) - y19))), (185, .bool ((decide (y19 < a2)) && (decide (a2 < (wr .i64 ((wr .i64 ((wr .i64 ((wr .u64 (wr .i64 (a1 + a3))).fdiv (2 ^ min (1 : Int).toNat 64))) + a2)) - y19))))))], [aL 14 c_TRoute a0, .gone]⟩ ?_)
 refine then_n ?_
 refine cnd ((decide (y19 < a2)) && (decide (a2 < (wr .i64 ((wr .i64 ((wr .i64 ((wr .u64 (wr .i64 (a1 + a3))).fdiv (2 ^ min (1 : Int).toNat 64))) + a2)) - y19))))) (fun b118 => ?_) (fun b118 => ?_)
 have h119 := cond_t b118 h91
 obtain ⟨r24, q121, h122⟩ := bind_some h119
 obtain ⟨c123, h124⟩ := gd_some h122
 refine rg [.lnd 0 0 (fun _ => []) (fun i => c_TRoute (r24.getD i default)) (.tup [])] [0, 1, 3, 4, 18, 20, 24] 2 ⟨220, [(0, .asl 0 0 a0.length), (1, .int .i64 a1), (3, .int .i64 a3), (4, .fn 54 []), (18, .int .i64 (wr .i64 ((wr .u64 (wr .i64 (a1 + a3))).fdiv (2 ^ min (1 : Int).toNat 64)))), (20, .int .i64 y19), (24, .int .i64 (wr .i64 ((wr .i64 ((wr .i64 ((wr .u64 (wr .i64 (a1 + a3))).fdiv (2 ^ min (1 : Int).toNat 64))) + a2)) - y19)))], [.arr 14 a0.length (fun i => c_TRoute (r24.getD i default)), .gone]⟩ [] [⟨true, 83, [.asl 0 0 a0.length, .int .i64 y19, .int .i64 a2, .int .i64 (wr .i64 ((wr .i64 ((wr .i64 ((wr .u64 (wr .i64 (a1 + a3))).fdiv (2 ^ min (1 : Int).toNat 64))) + a2)) - y19)), .fn 54 []], .lnd 14 a0.length (fun i => c_TRoute (a0.getD i default)) (fun i => c_TRoute (r24.getD i default)) (.tup [])⟩] nil_all ⟨fun _ => slices_rotateCmpFunc_api_Route__route_Merge_1_ok a0 y19 a2 (wr .i64 ((wr .i64 ((wr .i64 ((wr .u64 (wr .i64 (a1 + a3))).fdiv (2 ^ min (1 : Int).toNat 64))) + a2)) - y19)) r24 q121, trivial⟩ ?_
 exact then_le (le_sub (.cons (asl_len (len_eq (c123 _ List.mem_cons_self))) (.cons Sub.rfl (.cons Sub.rfl (.cons Sub.rfl (.cons Sub.rfl (.cons Sub.rfl (.cons Sub.rfl .nil))))))) (.cons (.arr (len_eq (c123 _ List.mem_cons_self)) (fun _ _ => rfl)) (.cons .rfl .nil))) (k96 r24 h124)
 have h120 := cond_f b118 h91
 refine awp_skip ?_
 exact then_le (kp [0, 1, 3, 4, 18, 20, 24]) (k96 a0 h120)
 intro k75
 refine awp_seq (rg0 [0, 1, 2, 3, 4, 18, 19, 140] 2 ⟨220, [(0, .asl 0 0 a0.length), (1, .int .i64 a1), (2, .int .i64 a2), (3, .int .i64 a3), (4, .fn 54 []), (18, .int .i64 (wr .i64 ((wr .u64 (wr .i64 (a1 + a3))).fdiv (2 ^ min (1 : Int).toNat 64)))), (19, .int .i64 (wr .i64 ((wr .i64 ((wr .u64 (wr .i64 (a1 + a3))).fdiv (2 ^ min (1 : Int).toNat 64))) + a2))), (140, .bool (decide (a2 > (wr .i64 ((wr .u64 (wr .i64 (a1 + a3))).fdiv (2 ^ min (1 : Int).toNat 64))))))], [aL 14 c_TRoute a0, .gone]⟩ ?_)
 refine then_n ?_
 refine cnd (decide (a2 > (wr .i64 ((wr .u64 (wr .i64 (a1 + a3))).fdiv (2 ^ min (1 : Int).toNat 64))))) (fun b125 => ?_) (fun b125 => ?_)
 have h126 := cond_t b125 h74
 refine awp_seq (rg0 [0, 1, 2, 3, 4, 18, 19, 20] 2 ⟨220, [(0, .asl 0 0 a0.length), (1, .int .i64 a1), (2, .int .i64 a2), (3, .int .i64 a3), (4, .fn 54 []), (18, .int .i64 (wr .i64 ((wr .u64 (wr .i64 (a1 + a3))).fdiv (2 ^ min (1 : Int).toNat 64)))), (19, .int .i64 (wr .i64 ((wr .i64 ((wr .u64 (wr .i64 (a1 + a3))).fdiv (2 ^ min (1 : Int).toNat 64))) + a2))), (20, .int .i64 (wr .i64 ((wr .i64 ((wr .i64 ((wr .u64 (wr .i64 (a1 + a3))).fdiv (2 ^ min (1 : Int).toNat 64))) + a2)) - a3)))], [aL 14 c_TRoute a0, .gone]⟩ ?_)
 refine then_n (rg0 [0, 1, 2, 3, 4, 18, 19, 20, 21] 2 ⟨220, [(0, .asl 0 0 a0.length), (1, .int .i64 a1), (2, .int .i64 a2), (3, .int .i64 a3), (4, .fn 54 []), (18, .int .i64 (wr .i64 ((wr .u64 (wr .i64 (a1 + a3))).fdiv (2 ^ min (1 : Int).toNat 64)))), (19, .int .i64 (wr .i64 ((wr .i64 ((wr .u64 (wr .i64 (a1 + a3))).fdiv (2 ^ min (1 : Int).toNat 64))) + a2))), (20, .int .i64 (wr .i64 ((wr .i64 ((wr .i64 ((wr .u64 (wr .i64 (a1 + a3))).fdiv (2 ^ min (1 : Int).toNat 64))) + a2)) - a3))), (21, .int .i64 (wr .i64 ((wr .u64 (wr .i64 (a1 + a3))).fdiv (2 ^ min (1 : Int).toNat 64))))], [aL 14 c_TRoute a0, .gone]⟩ ?_)
 exact then_le (le_rfl) (k75 (wr .i64 ((wr .i64 ((wr .i64 ((wr .u64 (wr .i64 (a1 + a3))).fdiv (2 ^ min (1 : Int).toNat 64))) + a2)) - a3), wr .i64 ((wr .u64 (wr .i64 (a1 + a3))).fdiv (2 ^ min (1 : Int).toNat 64))) h126)
 have h127 := cond_f b125 h74
 refine awp_seq (rg0 [0, 1, 2, 3, 4, 18, 19, 20] 2 ⟨220, [(0, .asl 0 0 a0.length), (1, .int .i64 a1), (2, .int .i64 a2), (3, .int .i64 a3), (4, .fn 54 []), (18, .int .i64 (wr .i64 ((wr .u64 (wr .i64 (a1 + a3))).fdiv (2 ^ min (1 : Int).toNat 64)))), (19, .int .i64 (wr .i64 ((wr .i64 ((wr .u64 (wr .i64 (a1 + a3))).fdiv (2 ^ min (1 : Int).toNat 64))) + a2))), (20, .int .i64 a1)], [aL 14 c_TRoute a0, .gone]⟩ ?_)
 refine then_n (rg0 [0, 1, 2, 3, 4, 18, 19, 20, 21] 2 ⟨220, [(0, .asl 0 0 a0.length), (1, .int .i64 a1), (2, .int .i64 a2), (3, .int .i64 a3), (4, .fn 54 []), (18, .int .i64 (wr .i64 ((wr .u64 (wr .i64 (a1 + a3))).fdiv (2 ^ min (1 : Int).toNat 64)))), (19, .int .i64 (wr .i64 ((wr .i64 ((wr .u64 (wr .i64 (a1 + a3))).fdiv (2 ^ min (1 : Int).toNat 64))) + a2))), (20, .int .i64 a1), (21, .int .i64 a2)], [aL 14 c_TRoute a0, .gone]⟩ ?_)
 exact then_le (le_rfl) (k75 (a1, a2) h127)
theorem slices_symMergeCmpFunc_api_Route__route_Merge_1_nok : ∀ (n : Nat) (a0 : List TRoute) (a1 : Int) (a2 : Int) (a3 : Int) (r : (List TRoute)) (_ : M.slices_symMergeCmpFunc_api_Route__route_Merge_1_n n a0 a1 a2 a3 = some r), FnM Try.prog 79 [.asl 0 0 a0.length, .int .i64 a1, .int .i64 a2, .int .i64 a3, .fn 54 []] 14 a0.length (fun i => c_TRoute (a0.getD i default)) (fun i => c_TRoute (r.getD i default)) (.tup [])
  | 0, a0, a1, a2, a3, r, h => by cases h
  | n + 1, a0, a1, a2, a3, r, h => slices_symMergeCmpFunc_api_Route__route_Merge_1_bok (M.slices_symMergeCmpFunc_api_Route__route_Merge_1_n n) (slices_symMergeCmpFunc_api_Route__route_Merge_1_nok n) a0 a1 a2 a3 r h
theorem slices_symMergeCmpFunc_api_Route__route_Merge_1_ok (a0 : List TRoute) (a1 : Int) (a2 : Int) (a3 : Int) (r : (List TRoute)) (h : M.slices_symMergeCmpFunc_api_Route__route_Merge_1 a0 a1 a2 a3 = some r) : FnM Try.prog 79 [.asl 0 0 a0.length, .int .i64 a1, .int .i64 a2, .int .i64 a3, .fn 54 []] 14 a0.length (fun i => c_TRoute (a0.getD i default)) (fun i => c_TRoute (r.getD i default)) (.tup []) := by
 obtain ⟨n, hn⟩ := recM_some h
 exact slices_symMergeCmpFunc_api_Route__route_Merge_1_nok n a0 a1 a2 a3 r hn
theorem slices_stableCmpFunc_api_Route__route_Merge_1_ok (a0 : List TRoute) (a1 : Int) (r : (List TRoute)) (h : M.slices_stableCmpFunc_api_Route__route_Merge_1 a0 a1 = some r) : FnM Try.prog 72 [.asl 0 0 a0.length, .int .i64 a1, .fn 54 []] 14 a0.length (fun i => c_TRoute (a0.getD i default)) (fun i => c_TRoute (r.getD i default)) (.tup []) := by
 unfold M.slices_stableCmpFunc_api_Route__route_Merge_1 at h
 refine fn_mut Try.func72 rfl (by kernel_rfl) ?_
 refine awp_seq (rg0 [0, 1, 2, 6] 2 ⟨63, [(0, .asl 0 0 a0.length), (1, .int .i64 a1), (2, .fn 54 []), (6, .int .i64 20)], [aL 14 c_TRoute a0, .gone]⟩ ?_)
 refine then_n (awp_seq (rg0 [0, 1, 2, 6, 7, 8] 2 ⟨63, [(0, .asl 0 0 a0.length), (1, .int .i64 a1), (2, .fn 54 []), (6, .int .i64 20), (7, .int .i64 0), (8, .int .i64 20)], [aL 14 c_TRoute a0, .gone]⟩ ?_))
 refine then_n (awp_seq (awp_block ?_))
 obtain ⟨y4, q9, h10⟩ := bind_some h
 refine awp_le (s' := ⟨63, [(0, .asl 0 0 a0.length), (1, .int .i64 a1), (2, .fn 54 []), (6, .int .i64 20), (7, .int .i64 0), (8, .int .i64 20)], [aL 14 c_TRoute a0, .gone]⟩) (le_rfl) ?_
 refine awp_mono (awp_loop (f := M.slices_stableCmpFunc_api_Route__route_Merge_1_l1 a1) (S := fun (p1 : (List TRoute) × Int × Int) => ⟨63, [(0, .asl 0 0 p1.1.length), (1, .int .i64 a1), (2, .fn 54 []), (6, .int .i64 20), (7, .int .i64 p1.2.1), (8, .int .i64 p1.2.2)], [aL 14 c_TRoute p1.1, .gone]⟩) (O := (fun z => OutE 0 (fun z => ⟨63, [(0, .asl 0 0 z.2.length), (1, .int .i64 a1), (2, .fn 54 []), (6, .int .i64 20), (7, .int .i64 z.1)], [aL 14 c_TRoute z.2, .gone]⟩) z)) ?_ (x := (a0, 0, 20)) (y := y4) (loopM_iter q9)) ?_
 intro p1 y2 h1
 unfold M.slices_stableCmpFunc_api_Route__route_Merge_1_l1 at h1
 refine awp_seq (awp_seq (rg0 [0, 1, 2, 6, 7, 8, 13] 2 ⟨63, [(0, .asl 0 0 p1.1.length), (1, .int .i64 a1), (2, .fn 54 []), (6, .int .i64 20), (7, .int .i64 p1.2.1), (8, .int .i64 p1.2.2), (13, .bool (decide (p1.2.2 ≤ a1)))], [aL 14 c_TRoute p1.1, .gone]⟩ ?_))
 refine then_n ?_
 refine cnd (decide (p1.2.2 ≤ a1)) (fun b2 => ?_) (fun b2 => ?_)
 have h3 := cond_t b2 h1
 refine awp_skip (then_n (awp_block (awp_seq ?_)))
 obtain ⟨r3, q5, h6⟩ := bind_some h3
 obtain ⟨c7, h8⟩ := gd_some h6
 refine rg [.lnd 0 0 (fun _ => []) (fun i => c_TRoute (r3.getD i default)) (.tup [])] [0, 1, 2, 6, 8] 2 ⟨63, [(0, .asl 0 0 p1.1.length), (1, .int .i64 a1), (2, .fn 54 []), (6, .int .i64 20), (8, .int .i64 p1.2.2)], [.arr 14 p1.1.length (fun i => c_TRoute (r3.getD i default)), .gone]⟩ [] [⟨true, 78, [.asl 0 0 p1.1.length, .int .i64 p1.2.1, .int .i64 p1.2.2, .fn 54 []], .lnd 14 p1.1.length (fun i => c_TRoute (p1.1.getD i default)) (fun i => c_TRoute (r3.getD i default)) (.tup [])⟩] nil_all ⟨fun _ => slices_insertionSortCmpFunc_api_Route__route_Merge_1_ok p1.1 p1.2.1 p1.2.2 r3 q5, trivial⟩ ?_
 refine then_le (s' := ⟨63, [(0, .asl 0 0 r3.length), (1, .int .i64 a1), (2, .fn 54 []), (6, .int .i64 20), (8, .int .i64 p1.2.2)], [aL 14 c_TRoute r3, .gone]⟩) (le_sub (.cons (asl_len (len_eq (c7 _ List.mem_cons_self))) (.cons Sub.rfl (.cons Sub.rfl (.cons Sub.rfl (.cons Sub.rfl .nil))))) (.cons (.arr (len_eq (c7 _ List.mem_cons_self)) (fun _ _ => rfl)) (.cons .rfl .nil))) ?_
 refine awp_seq (rg0 [0, 1, 2, 6, 7, 8] 2 ⟨63, [(0, .asl 0 0 r3.length), (1, .int .i64 a1), (2, .fn 54 []), (6, .int .i64 20), (7, .int .i64 p1.2.2), (8, .int .i64 p1.2.2)], [aL 14 c_TRoute r3, .gone]⟩ ?_)
 refine then_n (rg0 [0, 1, 2, 6, 7, 8] 2 ⟨63, [(0, .asl 0 0 r3.length), (1, .int .i64 a1), (2, .fn 54 []), (6, .int .i64 20), (7, .int .i64 p1.2.2), (8, .int .i64 (wr .i64 (p1.2.2 + 20)))], [aL 14 c_TRoute r3, .gone]⟩ ?_)
 refine inb_n ?_
 obtain rfl := Option.some.inj h8
 exact round_n (le_rfl)
 have h4 := cond_f b2 h1
 refine awp_exit (then_e ?_)
 obtain rfl := Option.some.inj h4
 exact round_e ⟨rfl, kp [0, 1, 2, 6, 7]⟩
 intro e11 s12 o13
 obtain ⟨rfl, l14⟩ := o13
 refine inb_here ?_
 refine then_le (s' := ⟨63, [(0, .asl 0 0 y4.2.length), (1, .int .i64 a1), (2, .fn 54 []), (6, .int .i64 20), (7, .int .i64 y4.1)], [aL 14 c_TRoute y4.2, .gone]⟩) (l14) ?_
 refine awp_seq ?_
 obtain ⟨r5, q15, h16⟩ := bind_some h10
 obtain ⟨c17, h18⟩ := gd_some h16
 refine rg [.lnd 0 0 (fun _ => []) (fun i => c_TRoute (r5.getD i default)) (.tup [])] [0, 1, 2, 6] 2 ⟨63, [(0, .asl 0 0 y4.2.length), (1, .int .i64 a1), (2, .fn 54 []), (6, .int .i64 20)], [.arr 14 y4.2.length (fun i => c_TRoute (r5.getD i default)), .gone]⟩ [] [⟨true, 78, [.asl 0 0 y4.2.length, .int .i64 y4.1, .int .i64 a1, .fn 54 []], .lnd 14 y4.2.length (fun i => c_TRoute (y4.2.getD i default)) (fun i => c_TRoute (r5.getD i default)) (.tup [])⟩] nil_all ⟨fun _ => slices_insertionSortCmpFunc_api_Route__route_Merge_1_ok y4.2 y4.1 a1 r5 q15, trivial⟩ ?_
 refine then_le (s' := ⟨63, [(0, .asl 0 0 r5.length), (1, .int .i64 a1), (2, .fn 54 []), (6, .int .i64 20)], [aL 14 c_TRoute r5, .gone]⟩) (le_sub (.cons (asl_len (len_eq (c17 _ List.mem_cons_self))) (.cons Sub.rfl (.cons Sub.rfl (.cons Sub.rfl .nil)))) (.cons (.arr (len_eq (c17 _ List.mem_cons_self)) (fun _ _ => rfl)) (.cons .rfl .nil))) ?_
 refine awp_block ?_
 obtain ⟨y14, q46, h47⟩ := bind_some h18
 refine awp_le (s' := ⟨63, [(0, .asl 0 0 r5.length), (1, .int .i64 a1), (2, .fn 54 []), (6, .int .i64 20)], [aL 14 c_TRoute r5, .gone]⟩) (le_rfl) ?_
 refine awp_mono (awp_loop (f := M.slices_stableCmpFunc_api_Route__route_Merge_1_l2 a1) (S := fun (p6 : (List TRoute) × Int) => ⟨63, [(0, .asl 0 0 p6.1.length), (1, .int .i64 a1), (2, .fn 54 []), (6, .int .i64 p6.2)], [aL 14 c_TRoute p6.1, .gone]⟩) (O := (fun z => OutE 2 (fun z => ⟨63, [], [aL 14 c_TRoute z, .gone]⟩) z)) ?_ (x := (r5, 20)) (y := y14) (loopM_iter q46)) ?_
 intro p6 y7 h19
 unfold M.slices_stableCmpFunc_api_Route__route_Merge_1_l2 at h19
 refine awp_seq (awp_seq (rg0 [0, 1, 2, 6, 30] 2 ⟨63, [(0, .asl 0 0 p6.1.length), (1, .int .i64 a1), (2, .fn 54 []), (6, .int .i64 p6.2), (30, .bool (decide (p6.2 < a1)))], [aL 14 c_TRoute p6.1, .gone]⟩ ?_))
 refine then_n ?_
 refine cnd (decide (p6.2 < a1)) (fun b20 => ?_) (fun b20 => ?_)
 have h21 := cond_t b20 h19
 refine awp_skip (then_n (awp_block (awp_seq (rg0 [0, 1, 2, 6, 7, 8] 2 ⟨63, [(0, .asl 0 0 p6.1.length), (1, .int .i64 a1), (2, .fn 54 []), (6, .int .i64 p6.2), (7, .int .i64 0), (8, .int .i64 (wr .i64 (2 * p6.2)))], [aL 14 c_TRoute p6.1, .gone]⟩ ?_))))
 refine then_n (awp_seq (awp_block ?_))
 obtain ⟨y11, q31, h32⟩ := bind_some h21
 refine awp_le (s' := ⟨63, [(0, .asl 0 0 p6.1.length), (1, .int .i64 a1), (2, .fn 54 []), (6, .int .i64 p6.2), (7, .int .i64 0), (8, .int .i64 (wr .i64 (2 * p6.2)))], [aL 14 c_TRoute p6.1, .gone]⟩) (le_rfl) ?_
 refine awp_mono (awp_loop (f := M.slices_stableCmpFunc_api_Route__route_Merge_1_l3 a1 p6) (S := fun (p8 : (List TRoute) × Int × Int) => ⟨63, [(0, .asl 0 0 p8.1.length), (1, .int .i64 a1), (2, .fn 54 []), (6, .int .i64 p6.2), (7, .int .i64 p8.2.1), (8, .int .i64 p8.2.2)], [aL 14 c_TRoute p8.1, .gone]⟩) (O := (fun z => OutE 4 (fun z => ⟨63, [(0, .asl 0 0 z.2.length), (1, .int .i64 a1), (2, .fn 54 []), (6, .int .i64 p6.2), (7, .int .i64 z.1)], [aL 14 c_TRoute z.2, .gone]⟩) z)) ?_ (x := (p6.1, 0, wr .i64 (2 * p6.2))) (y := y11) (loopM_iter q31)) ?_
 intro p8 y9 h23
 unfold M.slices_stableCmpFunc_api_Route__route_Merge_1_l3 at h23
 refine awp_seq (awp_seq (rg0 [0, 1, 2, 6, 7, 8, 35] 2 ⟨63, [(0, .asl 0 0 p8.1.length), (1, .int .i64 a1), (2, .fn 54 []), (6, .int .i64 p6.2), (7, .int .i64 p8.2.1), (8, .int .i64 p8.2.2), (35, .bool (decide (p8.2.2 ≤ a1)))], [aL 14 c_TRoute p8.1, .gone]⟩ ?_))
 refine then_n ?_
 refine cnd (decide (p8.2.2 ≤ a1)) (fun b24 => ?_) (fun b24 => ?_)
 have h25 := cond_t b24 h23
 refine awp_skip (then_n (awp_block (awp_seq ?_)))
 obtain ⟨r10, q27, h28⟩ := bind_some h25
 obtain ⟨c29, h30⟩ := gd_some h28
 refine rg [.lnd 0 0 (fun _ => []) (fun i => c_TRoute (r10.getD i default)) (.tup [])] [0, 1, 2, 6, 8] 2 ⟨63, [(0, .asl 0 0 p8.1.length), (1, .int .i64 a1), (2, .fn 54 []), (6, .int .i64 p6.2), (8, .int .i64 p8.2.2)], [.arr 14 p8.1.length (fun i => c_TRoute (r10.getD i default)), .gone]⟩ [] [⟨true, 79, [.asl 0 0 p8.1.length, .int .i64 p8.2.1, .int .i64 (wr .i64 (p8.2.1 + p6.2)), .int .i64 p8.2.2, .fn 54 []], .lnd 14 p8.1.length (fun i => c_TRoute (p8.1.getD i default)) (fun i => c_TRoute (r10.getD i default)) (.tup [])⟩] nil_all ⟨fun _ => slices_symMergeCmpFunc_api_Route__route_Merge_1_ok p8.1 p8.2.1 (wr .i64 (p8.2.1 + p6.2)) p8.2.2 r10 q27, trivial⟩ ?_
 refine then_le (s' := ⟨63, [(0, .asl 0 0 r10.length), (1, .int .i64 a1), (2, .fn 54 []), (6, .int .i64 p6.2), (8, .int .i64 p8.2.2)], [aL 14 c_TRoute r10, .gone]⟩) (le_sub (.cons (asl_len (len_eq (c29 _ List.mem_cons_self))) (.cons Sub.rfl (.cons Sub.rfl (.cons Sub.rfl (.cons Sub.rfl .nil))))) (.cons (.arr (len_eq (c29 _ List.mem_cons_self)) (fun _ _ => rfl)) (.cons .rfl .nil))) ?_
 refine awp_seq (rg0 [0, 1, 2, 6, 7, 8] 2 ⟨63, [(0, .asl 0 0 r10.length), (1, .int .i64 a1), (2, .fn 54 []), (6, .int .i64 p6.2), (7, .int .i64 p8.2.2), (8, .int .i64 p8.2.2)], [aL 14 c_TRoute r10, .gone]⟩ ?_)
 refine then_n (rg0 [0, 1, 2, 6, 7, 8] 2 ⟨63, [(0, .asl 0 0 r10.length), (1, .int .i64 a1), (2, .fn 54 []), (6, .int .i64 p6.2), (7, .int .i64 p8.2.2), (8, .int .i64 (wr .i64 (p8.2.2 + (wr .i64 (2 * p6.2)))))], [aL 14 c_TRoute r10, .gone]⟩ ?_)
 refine inb_n ?_
 obtain rfl := Option.some.inj h30
 exact round_n (le_rfl)
 have h26 := cond_f b24 h23
 refine awp_exit (then_e ?_)
 obtain rfl := Option.some.inj h26
 exact round_e ⟨rfl, kp [0, 1, 2, 6, 7]⟩
 intro e33 s34 o35
 obtain ⟨rfl, l36⟩ := o35
 refine inb_here ?_
 refine then_le (s' := ⟨63, [(0, .asl 0 0 y11.2.length), (1, .int .i64 a1), (2, .fn 54 []), (6, .int .i64 p6.2), (7, .int .i64 y11.1)], [aL 14 c_TRoute y11.2, .gone]⟩) (l36) ?_
 refine awp_join (fun (p12 : (List TRoute)) => ⟨63, [(0, .asl 0 0 p12.length), (1, .int .i64 a1), (2, .fn 54 []), (6, .int .i64 p6.2)], [aL 14 c_TRoute p12, .gone]⟩) (fun p12 => M.slices_stableCmpFunc_api_Route__route_Merge_1_k1 p6 p12 = some y7) ?_ ?_
 intro p12 h38
 unfold M.slices_stableCmpFunc_api_Route__route_Merge_1_k1 at h38
 refine rg0 [0, 1, 2, 6] 2 ⟨63, [(0, .asl 0 0 p12.length), (1, .int .i64 a1), (2, .fn 54 []), (6, .int .i64 (wr .i64 (p6.2 * 2)))], [aL 14 c_TRoute p12, .gone]⟩ ?_
 refine inb_n ?_
 obtain rfl := Option.some.inj h38
 exact round_n (le_rfl)
 intro k37
 refine awp_seq (rg0 [0, 1, 2, 6, 7, 9] 2 ⟨63, [(0, .asl 0 0 y11.2.length), (1, .int .i64 a1), (2, .fn 54 []), (6, .int .i64 p6.2), (7, .int .i64 y11.1), (9, .int .i64 (wr .i64 (y11.1 + p6.2)))], [aL 14 c_TRoute y11.2, .gone]⟩ ?_)
 refine then_n (awp_seq (rg0 [0, 1, 2, 6, 7, 9, 54] 2 ⟨63, [(0, .asl 0 0 y11.2.length), (1, .int .i64 a1), (2, .fn 54 []), (6, .int .i64 p6.2), (7, .int .i64 y11.1), (9, .int .i64 (wr .i64 (y11.1 + p6.2))), (54, .bool (decide ((wr .i64 (y11.1 + p6.2)) < a1)))], [aL 14 c_TRoute y11.2, .gone]⟩ ?_))
 refine then_n ?_
 refine cnd (decide ((wr .i64 (y11.1 + p6.2)) < a1)) (fun b39 => ?_) (fun b39 => ?_)
 have h40 := cond_t b39 h32
 obtain ⟨r13, q42, h43⟩ := bind_some h40
 obtain ⟨c44, h45⟩ := gd_some h43
 refine rg [.lnd 0 0 (fun _ => []) (fun i => c_TRoute (r13.getD i default)) (.tup [])] [0, 1, 2, 6] 2 ⟨63, [(0, .asl 0 0 y11.2.length), (1, .int .i64 a1), (2, .fn 54 []), (6, .int .i64 p6.2)], [.arr 14 y11.2.length (fun i => c_TRoute (r13.getD i default)), .gone]⟩ [] [⟨true, 79, [.asl 0 0 y11.2.length, .int .i64 y11.1, .int .i64 (wr .i64 (y11.1 + p6.2)), .int .i64 a1, .fn 54 []], .lnd 14 y11.2.length (fun i => c_TRoute (y11.2.getD i default)) (fun i => c_TRoute (r13.getD i default)) (.tup [])⟩] nil_all ⟨fun _ => slices_symMergeCmpFunc_api_Route__route_Merge_1_ok y11.2 y11.1 (wr .i64 (y11.1 + p6.2)) a1 r13 q42, trivial⟩ ?_
 exact then_le (le_sub (.cons (asl_len (len_eq (c44 _ List.mem_cons_self))) (.cons Sub.rfl (.cons Sub.rfl (.cons Sub.rfl .nil)))) (.cons (.arr (len_eq (c44 _ List.mem_cons_self)) (fun _ _ => rfl)) (.cons .rfl .nil))) (k37 r13 h45)
 have h41 := cond_f b39 h32
 refine awp_skip ?_
 exact then_le (kp [0, 1, 2, 6]) (k37 y11.2 h41)
 have h22 := cond_f b20 h19
 refine awp_exit (then_e ?_)
 obtain rfl := Option.some.inj h22
 exact round_e ⟨rfl, kp []⟩
 intro e48 s49 o50
 obtain ⟨rfl, l51⟩ := o50
 refine inb_here ?_
 obtain ⟨c52, h53⟩ := gd_some h47
 obtain rfl := Option.some.inj h53
 exact emn (s' := ⟨63, [], [aL 14 c_TRoute y14, .gone]⟩) (l51) (len_ok c52)
theorem slices_SortStableFunc_api_Route_api_Route__route_Merge_1_ok (a0 : List TRoute) (r : (List TRoute)) (h : M.slices_SortStableFunc_api_Route_api_Route__route_Merge_1 a0 = some r) : FnM Try.prog 53 [.asl 0 0 a0.length, .fn 54 []] 14 a0.length (fun i => c_TRoute (a0.getD i default)) (fun i => c_TRoute (r.getD i default)) (.tup []) := by
 unfold M.slices_SortStableFunc_api_Route_api_Route__route_Merge_1 at h
 refine fn_mut Try.func53 rfl (by kernel_rfl) ?_
 obtain ⟨r1, q1, h2⟩ := bind_some h
 obtain ⟨c3, h4⟩ := gd_some h2
 refine rg [.lnd 0 0 (fun _ => []) (fun i => c_TRoute (r1.getD i default)) (.tup [])] [] 2 ⟨9, [], [.arr 14 a0.length (fun i => c_TRoute (r1.getD i default)), .gone]⟩ [] [⟨true, 72, [.asl 0 0 a0.length, .int .i64 (a0.length : Int), .fn 54 []], .lnd 14 a0.length (fun i => c_TRoute (a0.getD i default)) (fun i => c_TRoute (r1.getD i default)) (.tup [])⟩] nil_all ⟨fun _ => slices_stableCmpFunc_api_Route__route_Merge_1_ok a0 (a0.length : Int) r1 q1, trivial⟩ ?_
 obtain ⟨c5, h6⟩ := gd_some h4
 obtain rfl := Option.some.inj h6
 exact emn (s' := ⟨9, [], [aL 14 c_TRoute r1, .gone]⟩) (le_sub .nil (.cons (.arr (len_eq (c3 _ List.mem_cons_self)) (fun _ _ => rfl)) (.cons .rfl .nil))) (len_ok c5)
theorem cmp_Or_int_ok (a0 : List Int) (r : Int) (h : M.cmp_Or_int a0 = some r) : Fn Try.prog 48 [sL 1 (ci .i64) a0] (.pure (.int .i64 r)) := by
 unfold M.cmp_Or_int at h
 refine fn_pure Try.func48 rfl (by kernel_rfl) ?_
 refine awp_seq (rg0 [0] 0 ⟨18, [(0, sL 1 (ci .i64) a0)], []⟩ ?_)
 refine then_n (awp_seq (rg0 [0, 3] 0 ⟨18, [(0, sL 1 (ci .i64) a0), (3, .int .i64 0)], []⟩ ?_))
 refine then_n (awp_seq (awp_seq (rg0 [3, 6, 7, 8] 0 ⟨18, [(3, .int .i64 0), (6, sL 1 (ci .i64) a0), (7, .int .i64 (a0.length : Int)), (8, .int .i64 0)], []⟩ ?_)))
 refine then_n (awp_block ?_)
 obtain ⟨y3, q10, h11⟩ := bind_some h
 refine awp_le (s' := ⟨18, [(3, .int .i64 0), (6, sL 1 (ci .i64) a0), (7, .int .i64 (a0.length : Int)), (8, .int .i64 0)], []⟩) (le_rfl) ?_
 refine awp_mono (awp_loop (f := M.cmp_Or_int_l1 a0) (S := fun (p1 : Int) => ⟨18, [(3, .int .i64 0), (6, sL 1 (ci .i64) a0), (7, .int .i64 (a0.length : Int)), (8, .int .i64 p1)], []⟩) (O := (Sum.elim (fun z => OutE 0 (fun z => ⟨18, [(3, .int .i64 0)], []⟩) z) (fun z => OutR Try.prog Try.f48 (.int .i64 z)))) ?_ (x := 0) (y := y3) (loopM_iter q10)) ?_
 intro p1 y2 h1
 unfold M.cmp_Or_int_l1 at h1
 refine awp_seq (rg0 [3, 6, 7, 8, 9] 0 ⟨18, [(3, .int .i64 0), (6, sL 1 (ci .i64) a0), (7, .int .i64 (a0.length : Int)), (8, .int .i64 p1), (9, .bool (decide (p1 < (a0.length : Int))))], []⟩ ?_)
 refine then_n (awp_seq ?_)
 refine cnd (decide (p1 < (a0.length : Int))) (fun b2 => ?_) (fun b2 => ?_)
 have h3 := cond_t b2 h1
 refine awp_skip (then_n (awp_seq (awp_block (awp_seq ?_))))
 obtain ⟨c5, h6⟩ := gd_some h3
 refine rgc [3, 5, 6, 7, 8] 0 ⟨18, [(3, .int .i64 0), (5, .int .i64 (a0.getD p1.toNat default)), (6, sL 1 (ci .i64) a0), (7, .int .i64 (a0.length : Int)), (8, .int .i64 p1)], []⟩ [decide (0 ≤ p1), decide (p1 < (a0.length : Int))] c5 ?_
 refine then_n (awp_seq (rg0 [3, 5, 6, 7, 8, 14] 0 ⟨18, [(3, .int .i64 0), (5, .int .i64 (a0.getD p1.toNat default)), (6, sL 1 (ci .i64) a0), (7, .int .i64 (a0.length : Int)), (8, .int .i64 p1), (14, .bool ((a0.getD p1.toNat default) != 0))], []⟩ ?_))
 refine then_n ?_
 refine cnd ((a0.getD p1.toNat default) != 0) (fun b7 => ?_) (fun b7 => ?_)
 have h8 := cond_t b7 h6
 refine awp_seq (rg0 [2] 0 ⟨18, [(2, .int .i64 (a0.getD p1.toNat default))], []⟩ ?_)
 refine then_n (awp_ret (inb_r (then_r ?_)))
 obtain rfl := Option.some.inj h8
 exact round_r ⟨rfl, er0 (.int .i64 (a0.getD p1.toNat default))⟩
 have h9 := cond_f b7 h6
 refine awp_skip (inb_n (then_n (rg0 [3, 6, 7, 8] 0 ⟨18, [(3, .int .i64 0), (6, sL 1 (ci .i64) a0), (7, .int .i64 (a0.length : Int)), (8, .int .i64 (wr .i64 (p1 + 1)))], []⟩ ?_)))
 obtain rfl := Option.some.inj h9
 exact round_n (le_rfl)
 have h4 := cond_f b2 h1
 refine awp_exit (then_e ?_)
 obtain rfl := Option.some.inj h4
 exact round_e ⟨rfl, kp [3]⟩
 intro e12 s13 o14
 rcases y3 with g4 | y5
 have h15 := elim_l h11
 obtain ⟨rfl, l17⟩ := o14
 refine inb_here ?_
 refine then_le (s' := ⟨18, [(3, .int .i64 0)], []⟩) (l17) ?_
 refine awp_seq (rg0 [2] 0 ⟨18, [(2, .int .i64 0)], []⟩ ?_)
 refine then_n (awp_ret ?_)
 obtain rfl := Option.some.inj h15
 exact er0 (.int .i64 0)
 have h16 := elim_r h11
 obtain ⟨rfl, n18⟩ := o14
 refine inb_r (then_r ?_)
 obtain rfl := Option.some.inj h16
 exact n18
theorem route_origin_ok (a0 : TRoute) (r : Int) (h : M.route_origin a0 = some r) : Fn Try.prog 49 [.agg (c_TRoute a0)] (.pure (.int .i64 r)) := by
 unfold M.route_origin at h
 refine fn_pure Try.func49 rfl (by kernel_rfl) ?_
 refine awp_seq (rg0 [1] 1 ⟨6, [(1, .ref 0 0)], [.box (c_TRoute a0)]⟩ ?_)
 refine then_n (awp_seq (rg0 [2] 0 ⟨6, [(2, .int .i64 (if 3 < a0.fClass then 3 else a0.fClass))], []⟩ ?_))
 refine then_n (awp_ret ?_)
 obtain rfl := Option.some.inj h
 exact er0 (.int .i64 (if 3 < a0.fClass then 3 else a0.fClass))
theorem route_Prefer_ok (a0 : TRoute) (a1 : TRoute) (r : Int) (h : M.route_Prefer a0 a1 = some r) : Fn Try.prog 17 [.agg (c_TRoute a0), .agg (c_TRoute a1)] (.pure (.int .i64 r)) := by
 unfold M.route_Prefer at h
 refine fn_pure Try.func17 rfl (by kernel_rfl) ?_
 refine awp_seq (rg0 [2, 3] 2 ⟨94, [(2, .ref 0 0), (3, .ref 1 0)], [.box (c_TRoute a0), .box (c_TRoute a1)]⟩ ?_)
 refine then_n (awp_seq (awp_seq (rg0 [2, 3, 6] 2 ⟨94, [(2, .ref 0 0), (3, .ref 1 0), (6, .int .i64 a0.fProto)], [.box (c_TRoute a0), .box (c_TRoute a1)]⟩ ?_)))
 refine then_n (awp_block ?_)
 refine awp_join (fun (p1 : Bool) => ⟨94, [(2, .ref 0 0), (3, .ref 1 0), (6, .int .i64 a0.fProto), (7, .bool p1)], [.box (c_TRoute a0), .box (c_TRoute a1)]⟩) (fun p1 => M.route_Prefer_k1 a0 a1 p1 = some r) ?_ ?_
 intro p1 h2
 unfold M.route_Prefer_k1 at h2
 refine cnd p1 (fun b3 => ?_) (fun b3 => ?_)
 have h4 := cond_t b3 h2
 refine awp_seq ?_
 obtain ⟨r2, q6, h7⟩ := bind_some h4
 refine rg [.pure (.int .i64 r2)] [4] 0 ⟨94, [(4, .int .i64 r2)], []⟩ [] [⟨true, 47, [.int .i64 a0.fAdmin, .int .i64 a1.fAdmin], .pure (.int .i64 r2)⟩] nil_all ⟨fun _ => cmp_Compare_int_ok a0.fAdmin a1.fAdmin r2 q6, trivial⟩ ?_
 refine then_n (awp_ret (inb_r (then_r ?_)))
 obtain rfl := Option.some.inj h7
 exact er0 (.int .i64 r2)
 have h5 := cond_f b3 h2
 refine awp_seq (rg0 [2, 3, 6, 15] 2 ⟨94, [(2, .ref 0 0), (3, .ref 1 0), (6, .int .i64 a0.fProto), (15, .bool (a0.fProto == 3))], [.box (c_TRoute a0), .box (c_TRoute a1)]⟩ ?_)
 refine then_n ?_
 refine cnd (a0.fProto == 3) (fun b8 => ?_) (fun b8 => ?_)
 have h9 := cond_t b8 h5
 refine awp_seq ?_
 obtain ⟨r3, q11, h12⟩ := bind_some h9
 obtain ⟨r4, q13, h14⟩ := bind_some h12
 obtain ⟨r5, q15, h16⟩ := bind_some h14
 obtain ⟨r6, q17, h18⟩ := bind_some h16
 obtain ⟨r7, q19, h20⟩ := bind_some h18
 refine rg [.pure (.int .i64 r3), .pure (.int .i64 r4), .pure (.int .i64 r5), .pure (.int .i64 r6), .pure (.int .i64 r7)] [4] 0 ⟨94, [(4, .int .i64 r7)], []⟩ [] [⟨true, 47, [.int .i64 a0.fClass, .int .i64 a1.fClass], .pure (.int .i64 r3)⟩, ⟨true, 47, [.int .i64 a0.fMetric, .int .i64 a1.fMetric], .pure (.int .i64 r4)⟩, ⟨true, 47, [.int .i64 a0.fInner, .int .i64 a1.fInner], .pure (.int .i64 r5)⟩, ⟨true, 47, [.int .i64 a0.fTag, .int .i64 a1.fTag], .pure (.int .i64 r6)⟩, ⟨true, 48, [.sl false 1 4 (fun i => List.take 1 (List.drop (i * 1) [.int .i64 r3, .int .i64 r4, .int .i64 r5, .int .i64 r6]))], .pure (.int .i64 r7)⟩] nil_all ⟨fun _ => cmp_Compare_int_ok a0.fClass a1.fClass r3 q11, fun _ => cmp_Compare_int_ok a0.fMetric a1.fMetric r4 q13, fun _ => cmp_Compare_int_ok a0.fInner a1.fInner r5 q15, fun _ => cmp_Compare_int_ok a0.fTag a1.fTag r6 q17, fun _ => (cmp_Or_int_ok ([r3, r4, r5, r6] : List Int) r7 q19).args (.cons (asub_sl rfl (fun i hi => match i, hi with | 0, _ => rfl | 1, _ => rfl | 2, _ => rfl | 3, _ => rfl | n + 4, h => absurd h (by omega))) .nil), trivial⟩ ?_
 refine then_n (awp_ret (inb_r (then_r ?_)))
 obtain rfl := Option.some.inj h20
 exact er0 (.int .i64 r7)
 have h10 := cond_f b8 h5
 refine awp_seq (rg0 [2, 3, 6, 39] 2 ⟨94, [(2, .ref 0 0), (3, .ref 1 0), (6, .int .i64 a0.fProto), (39, .bool (a0.fProto == 4))], [.box (c_TRoute a0), .box (c_TRoute a1)]⟩ ?_)
 refine then_n ?_
 refine cnd (a0.fProto == 4) (fun b21 => ?_) (fun b21 => ?_)
 have h22 := cond_t b21 h10
 refine awp_seq ?_
 obtain ⟨r8, q24, h25⟩ := bind_some h22
 obtain ⟨r9, q26, h27⟩ := bind_some h25
 obtain ⟨r10, q28, h29⟩ := bind_some h27
 obtain ⟨r11, q30, h31⟩ := bind_some h29
 refine rg [.pure (.int .i64 r8), .pure (.int .i64 r9), .pure (.int .i64 r10), .pure (.int .i64 r11)] [4] 0 ⟨94, [(4, .int .i64 r11)], []⟩ [] [⟨true, 47, [.int .i64 a0.fMetric, .int .i64 a1.fMetric], .pure (.int .i64 r8)⟩, ⟨true, 47, [.int .i64 a0.fClass, .int .i64 a1.fClass], .pure (.int .i64 r9)⟩, ⟨true, 47, [.int .i64 a0.fTag, .int .i64 a1.fTag], .pure (.int .i64 r10)⟩, ⟨true, 48, [.sl false 1 3 (fun i => List.take 1 (List.drop (i * 1) [.int .i64 r8, .int .i64 r9, .int .i64 r10]))], .pure (.int .i64 r11)⟩] nil_all ⟨fun _ => cmp_Compare_int_ok a0.fMetric a1.fMetric r8 q24, fun _ => cmp_Compare_int_ok a0.fClass a1.fClass r9 q26, fun _ => cmp_Compare_int_ok a0.fTag a1.fTag r10 q28, fun _ => (cmp_Or_int_ok ([r8, r9, r10] : List Int) r11 q30).args (.cons (asub_sl rfl (fun i hi => match i, hi with | 0, _ => rfl | 1, _ => rfl | 2, _ => rfl | n + 3, h => absurd h (by omega))) .nil), trivial⟩ ?_
 refine then_n (awp_ret (inb_r (then_r ?_)))
 obtain rfl := Option.some.inj h31
 exact er0 (.int .i64 r11)
 have h23 := cond_f b21 h10
 refine awp_seq (rg0 [2, 3, 58] 2 ⟨94, [(2, .ref 0 0), (3, .ref 1 0), (58, .bool (a0.fProto == 5))], [.box (c_TRoute a0), .box (c_TRoute a1)]⟩ ?_)
 refine then_n ?_
 refine cnd (a0.fProto == 5) (fun b32 => ?_) (fun b32 => ?_)
 have h33 := cond_t b32 h23
 refine awp_seq ?_
 obtain ⟨r12, q35, h36⟩ := bind_some h33
 obtain ⟨r13, q37, h38⟩ := bind_some h36
 obtain ⟨r14, q39, h40⟩ := bind_some h38
 obtain ⟨r15, q41, h42⟩ := bind_some h40
 obtain ⟨r16, q43, h44⟩ := bind_some h42
 obtain ⟨r17, q45, h46⟩ := bind_some h44
 obtain ⟨r18, q47, h48⟩ := bind_some h46
 obtain ⟨r19, q49, h50⟩ := bind_some h48
 obtain ⟨r20, q51, h52⟩ := bind_some h50
 refine rg [.pure (.int .i64 r12), .pure (.int .i64 r13), .pure (.int .i64 r14), .pure (.int .i64 r15), .pure (.int .i64 r16), .pure (.int .i64 r17), .pure (.int .i64 r18), .pure (.int .i64 r19), .pure (.int .i64 r20)] [4] 0 ⟨94, [(4, .int .i64 r20)], []⟩ [] [⟨true, 49, [.agg (c_TRoute a0)], .pure (.int .i64 r12)⟩, ⟨true, 49, [.agg (c_TRoute a1)], .pure (.int .i64 r13)⟩, ⟨true, 47, [.int .i64 r12, .int .i64 r13], .pure (.int .i64 r14)⟩, ⟨true, 47, [.int .i64 a1.fPref, .int .i64 a0.fPref], .pure (.int .i64 r15)⟩, ⟨true, 47, [.int .i64 (a0.fPath.length : Int), .int .i64 (a1.fPath.length : Int)], .pure (.int .i64 r16)⟩, ⟨true, 47, [.int .i64 a0.fMetric, .int .i64 a1.fMetric], .pure (.int .i64 r17)⟩, ⟨true, 47, [.int .i64 a0.fClass, .int .i64 a1.fClass], .pure (.int .i64 r18)⟩, ⟨true, 50, [.int .u32 a0.fFrom, .int .u32 a1.fFrom], .pure (.int .i64 r19)⟩, ⟨true, 48, [.sl false 1 6 (fun i => List.take 1 (List.drop (i * 1) [.int .i64 r14, .int .i64 r15, .int .i64 r16, .int .i64 r17, .int .i64 r18, .int .i64 r19]))], .pure (.int .i64 r20)⟩] nil_all ⟨fun _ => route_origin_ok a0 r12 q35, fun _ => route_origin_ok a1 r13 q37, fun _ => cmp_Compare_int_ok r12 r13 r14 q39, fun _ => cmp_Compare_int_ok a1.fPref a0.fPref r15 q41, fun _ => cmp_Compare_int_ok (a0.fPath.length : Int) (a1.fPath.length : Int) r16 q43, fun _ => cmp_Compare_int_ok a0.fMetric a1.fMetric r17 q45, fun _ => cmp_Compare_int_ok a0.fClass a1.fClass r18 q47, fun _ => cmp_Compare_uint32_ok a0.fFrom a1.fFrom r19 q49, fun _ => (cmp_Or_int_ok ([r14, r15, r16, r17, r18, r19] : List Int) r20 q51).args (.cons (asub_sl rfl (fun i hi => match i, hi with | 0, _ => rfl | 1, _ => rfl | 2, _ => rfl | 3, _ => rfl | 4, _ => rfl | 5, _ => rfl | n + 6, h => absurd h (by omega))) .nil), trivial⟩ ?_
 refine then_n (awp_ret (inb_r (then_r ?_)))
 obtain rfl := Option.some.inj h52
 exact er0 (.int .i64 r20)
 have h34 := cond_f b32 h23
 refine awp_skip (inb_n (then_n (awp_seq (rg0 [4] 0 ⟨94, [(4, .int .i64 0)], []⟩ ?_))))
 refine then_n (awp_ret ?_)
 obtain rfl := Option.some.inj h34
 exact er0 (.int .i64 0)
 intro k1
 refine awp_seq (rg0 [2, 3, 6, 7] 2 ⟨94, [(2, .ref 0 0), (3, .ref 1 0), (6, .int .i64 a0.fProto), (7, .bool (a0.fProto == 1))], [.box (c_TRoute a0), .box (c_TRoute a1)]⟩ ?_)
 refine then_n ?_
 refine cnd (a0.fProto == 1) (fun b53 => ?_) (fun b53 => ?_)
 have h54 := cond_t b53 h
 refine awp_skip ?_
 exact then_le (le_rfl) (k1 (a0.fProto == 1) h54)
 have h55 := cond_f b53 h
 refine rg0 [2, 3, 6, 7] 2 ⟨94, [(2, .ref 0 0), (3, .ref 1 0), (6, .int .i64 a0.fProto), (7, .bool (a0.fProto == 2))], [.box (c_TRoute a0), .box (c_TRoute a1)]⟩ ?_
 exact then_le (le_rfl) (k1 (a0.fProto == 2) h55)
theorem route_compareHops_ok (a0 : THop) (a1 : THop) (r : Int) (h : M.route_compareHops a0 a1 = some r) : Fn Try.prog 66 [.agg (c_THop a0), .agg (c_THop a1)] (.pure (.int .i64 r)) := by
 unfold M.route_compareHops at h
 refine fn_pure Try.func66 rfl (by kernel_rfl) ?_
 refine awp_seq (rg0 [2, 3] 2 ⟨17, [(2, .ref 0 0), (3, .ref 1 0)], [.box (c_THop a0), .box (c_THop a1)]⟩ ?_)
 refine then_n (awp_seq ?_)
 obtain ⟨r1, q1, h2⟩ := bind_some h
 obtain ⟨r2, q3, h4⟩ := bind_some h2
 obtain ⟨r3, q5, h6⟩ := bind_some h4
 refine rg [.pure (.int .i64 r1), .pure (.int .i64 r2), .pure (.int .i64 r3)] [4] 0 ⟨17, [(4, .int .i64 r3)], []⟩ [] [⟨true, 47, [.int .i64 a0.fIface, .int .i64 a1.fIface], .pure (.int .i64 r1)⟩, ⟨true, 50, [.int .u32 a0.fAddr, .int .u32 a1.fAddr], .pure (.int .i64 r2)⟩, ⟨true, 48, [.sl false 1 2 (fun i => List.take 1 (List.drop (i * 1) [.int .i64 r1, .int .i64 r2]))], .pure (.int .i64 r3)⟩] nil_all ⟨fun _ => cmp_Compare_int_ok a0.fIface a1.fIface r1 q1, fun _ => cmp_Compare_uint32_ok a0.fAddr a1.fAddr r2 q3, fun _ => (cmp_Or_int_ok ([r1, r2] : List Int) r3 q5).args (.cons (asub_sl rfl (fun i hi => match i, hi with | 0, _ => rfl | 1, _ => rfl | n + 2, h => absurd h (by omega))) .nil), trivial⟩ ?_
 refine then_n (awp_ret ?_)
 obtain rfl := Option.some.inj h6
 exact er0 (.int .i64 r3)
end Nv
namespace Go.Proofs
open Go.Shelf
shelf_lay_g SlLaysF0.n6 Slsf 6 at Try 73 as Try.sortL73
end Go.Proofs
namespace Nv
open Go Go.Proofs
theorem slices_SortFunc_api_Hop_api_Hop__route_compareHops_ok (a0 : List THop) (r : List THop) (h : M.slices_SortFunc_api_Hop_api_Hop__route_compareHops a0 = some r) : FnM Try.prog 73 [.asl 0 0 a0.length, .fn 66 []] 2 a0.length (fun i => c_THop (a0.getD i default)) (fun i => c_THop (r.getD i default)) (.tup []) := by
 obtain ⟨cf, h1, h2, h3, rfl⟩ := sortM_some h
 exact sortF0 Try.sortL73 2 (fun w => by kernel_rfl) (fun w => by kernel_rfl) c_THop (fun _ => rfl) (fun _ => rfl) h2 66 (enters_of Try.func66 (by kernel_rfl) rfl) (fun x y => route_compareHops_ok x y _ (h1 x y)) a0 h3
theorem slices_Compact_api_Hop_api_Hop_ok (a0 : List THop) (r : (List THop) × Nat) (h : M.slices_Compact_api_Hop_api_Hop a0 = some r) : FnM Try.prog 74 [.asl 0 0 a0.length] 2 a0.length (fun i => c_THop (a0.getD i default)) (fun i => c_THop (r.1.getD i default)) (.asl 0 0 r.2) := by
 unfold M.slices_Compact_api_Hop_api_Hop at h
 refine fn_mut Try.func74 rfl (by kernel_rfl) ?_
 refine awp_seq (rg0 [0] 2 ⟨61, [(0, .asl 0 0 a0.length)], [aL 2 c_THop a0, .gone]⟩ ?_)
 refine then_n (awp_seq (awp_seq (rg0 [0, 8] 2 ⟨61, [(0, .asl 0 0 a0.length), (8, .bool (decide ((a0.length : Int) < 2)))], [aL 2 c_THop a0, .gone]⟩ ?_)))
 refine then_n ?_
 refine cnd (decide ((a0.length : Int) < 2)) (fun b1 => ?_) (fun b1 => ?_)
 have h2 := cond_t b1 h
 refine awp_seq (rg0 [2] 2 ⟨61, [(2, .asl 0 0 a0.length)], [aL 2 c_THop a0, .gone]⟩ ?_)
 refine then_n (awp_ret (then_r ?_))
 obtain rfl := Option.some.inj h2
 exact emr (s' := ⟨61, [(2, .asl 0 0 a0.length)], [aL 2 c_THop a0, .gone]⟩) (le_rfl) rfl
 have h3 := cond_f b1 h
 refine awp_skip (then_n (awp_seq (awp_seq (rg0 [0, 3] 2 ⟨61, [(0, .asl 0 0 a0.length), (3, .int .i64 1)], [aL 2 c_THop a0, .gone]⟩ ?_))))
 refine then_n (awp_block ?_)
 obtain ⟨y7, q40, h41⟩ := bind_some h3
 refine awp_le (s' := ⟨61, [(0, .asl 0 0 a0.length), (3, .int .i64 1)], [aL 2 c_THop a0, .gone]⟩) (le_rfl) ?_
 refine awp_mono (awp_loop (f := M.slices_Compact_api_Hop_api_Hop_l1 a0) (S := fun (p1 : Int) => ⟨61, [(0, .asl 0 0 a0.length), (3, .int .i64 p1)], [aL 2 c_THop a0, .gone]⟩) (O := (Sum.elim (fun z => OutE 0 (fun z => ⟨61, [(0, .asl 0 0 a0.length)], [aL 2 c_THop a0, .gone]⟩) z) (fun z => OutM Try.prog Try.f74 2 a0.length (fun i => c_THop (z.1.getD i default)) (.asl 0 0 z.2)))) ?_ (x := 1) (y := y7) (loopM_iter q40)) ?_
 intro p1 y2 h4
 unfold M.slices_Compact_api_Hop_api_Hop_l1 at h4
 refine awp_seq (awp_seq (rg0 [0, 3, 13] 2 ⟨61, [(0, .asl 0 0 a0.length), (3, .int .i64 p1), (13, .bool (decide (p1 < (a0.length : Int))))], [aL 2 c_THop a0, .gone]⟩ ?_))
 refine then_n ?_
 refine cnd (decide (p1 < (a0.length : Int))) (fun b5 => ?_) (fun b5 => ?_)
 have h6 := cond_t b5 h4
 refine awp_skip (then_n (awp_seq (awp_block (awp_seq ?_))))
 obtain ⟨c8, h9⟩ := gd_some h6
 refine rgc [0, 3, 25] 2 ⟨61, [(0, .asl 0 0 a0.length), (3, .int .i64 p1), (25, .bool ((((a0.getD (0 + p1.toNat) default).fIface) == ((a0.getD (0 + (wr .i64 (p1 - 1)).toNat) default).fIface)) && ((((a0.getD (0 + p1.toNat) default).fAddr) == ((a0.getD (0 + (wr .i64 (p1 - 1)).toNat) default).fAddr)) && true)))], [aL 2 c_THop a0, .gone]⟩ [decide (0 ≤ p1), decide (p1 < (a0.length : Int)), decide (0 ≤ (wr .i64 (p1 - 1))), decide ((wr .i64 (p1 - 1)) < (a0.length : Int))] c8 ?_
 refine then_n ?_
 refine cnd ((((a0.getD (0 + p1.toNat) default).fIface) == ((a0.getD (0 + (wr .i64 (p1 - 1)).toNat) default).fIface)) && ((((a0.getD (0 + p1.toNat) default).fAddr) == ((a0.getD (0 + (wr .i64 (p1 - 1)).toNat) default).fAddr)) && true)) (fun b10 => ?_) (fun b10 => ?_)
 have h11 := cond_t b10 h9
 refine awp_seq ?_
 obtain ⟨c13, h14⟩ := gd_some h11
 refine rgc [0, 3, 4] 2 ⟨61, [(0, .asl 0 0 a0.length), (3, .int .i64 p1), (4, .asl 0 (0 + p1.toNat) (a0.length - p1.toNat))], [aL 2 c_THop a0, .gone]⟩ [decide (0 ≤ p1), decide (p1 ≤ (a0.length : Int))] c13 ?_
 refine then_n (awp_seq (awp_seq (rg0 [0, 3, 4, 5] 2 ⟨61, [(0, .asl 0 0 a0.length), (3, .int .i64 p1), (4, .asl 0 (0 + p1.toNat) (a0.length - p1.toNat)), (5, .int .i64 1)], [aL 2 c_THop a0, .gone]⟩ ?_)))
 refine then_n (awp_block ?_)
 obtain ⟨y6, q28, h29⟩ := bind_some h14
 refine awp_le (s' := ⟨61, [(0, .asl 0 0 a0.length), (3, .int .i64 p1), (4, .asl 0 (0 + p1.toNat) (a0.length - p1.toNat)), (5, .int .i64 1)], [aL 2 c_THop a0, .gone]⟩) (le_rfl) ?_
 refine awp_mono (awp_loop (f := M.slices_Compact_api_Hop_api_Hop_l2 a0 p1) (S := fun (p3 : (List THop) × Int × Int) => ⟨61, [(0, .asl 0 0 p3.1.length), (3, .int .i64 p3.2.1), (4, .asl 0 (0 + p1.toNat) (a0.length - p1.toNat)), (5, .int .i64 p3.2.2)], [aL 2 c_THop p3.1, .gone]⟩) (O := (fun z => OutE 2 (fun z => ⟨61, [(0, .asl 0 0 z.2.length), (3, .int .i64 z.1)], [aL 2 c_THop z.2, .gone]⟩) z)) ?_ (x := (a0, p1, 1)) (y := y6) (loopM_iter q28)) ?_
 intro p3 y4 h15
 unfold M.slices_Compact_api_Hop_api_Hop_l2 at h15
 refine awp_seq (awp_seq (rg0 [0, 3, 4, 5, 32] 2 ⟨61, [(0, .asl 0 0 p3.1.length), (3, .int .i64 p3.2.1), (4, .asl 0 (0 + p1.toNat) (a0.length - p1.toNat)), (5, .int .i64 p3.2.2), (32, .bool (decide (p3.2.2 < ((a0.length - p1.toNat : Nat) : Int))))], [aL 2 c_THop p3.1, .gone]⟩ ?_))
 refine then_n ?_
 refine cnd (decide (p3.2.2 < ((a0.length - p1.toNat : Nat) : Int))) (fun b16 => ?_) (fun b16 => ?_)
 have h17 := cond_t b16 h15
 refine awp_skip (then_n ?_)
 refine awp_join (fun (p5 : Int × (List THop)) => ⟨61, [(0, .asl 0 0 p5.2.length), (3, .int .i64 p5.1), (4, .asl 0 (0 + p1.toNat) (a0.length - p1.toNat)), (5, .int .i64 p3.2.2)], [aL 2 c_THop p5.2, .gone]⟩) (fun p5 => M.slices_Compact_api_Hop_api_Hop_k1 p3 p5 = some y4) ?_ ?_
 intro p5 h20
 unfold M.slices_Compact_api_Hop_api_Hop_k1 at h20
 refine rg0 [0, 3, 4, 5] 2 ⟨61, [(0, .asl 0 0 p5.2.length), (3, .int .i64 p5.1), (4, .asl 0 (0 + p1.toNat) (a0.length - p1.toNat)), (5, .int .i64 (wr .i64 (p3.2.2 + 1)))], [aL 2 c_THop p5.2, .gone]⟩ ?_
 obtain rfl := Option.some.inj h20
 exact round_n (le_rfl)
 intro k19
 refine awp_block (awp_seq ?_)
 obtain ⟨c21, h22⟩ := gd_some h17
 refine rgc [0, 3, 4, 5, 44] 2 ⟨61, [(0, .asl 0 0 p3.1.length), (3, .int .i64 p3.2.1), (4, .asl 0 (0 + p1.toNat) (a0.length - p1.toNat)), (5, .int .i64 p3.2.2), (44, .bool (!((((p3.1.getD ((0 + p1.toNat) + p3.2.2.toNat) default).fIface) == ((p3.1.getD ((0 + p1.toNat) + (wr .i64 (p3.2.2 - 1)).toNat) default).fIface)) && ((((p3.1.getD ((0 + p1.toNat) + p3.2.2.toNat) default).fAddr) == ((p3.1.getD ((0 + p1.toNat) + (wr .i64 (p3.2.2 - 1)).toNat) default).fAddr)) && true))))], [aL 2 c_THop p3.1, .gone]⟩ [decide (0 ≤ p3.2.2), decide (p3.2.2 < ((a0.length - p1.toNat : Nat) : Int)), decide (0 ≤ (wr .i64 (p3.2.2 - 1))), decide ((wr .i64 (p3.2.2 - 1)) < ((a0.length - p1.toNat : Nat) : Int))] c21 ?_
 refine then_n ?_
 refine cnd (!((((p3.1.getD ((0 + p1.toNat) + p3.2.2.toNat) default).fIface) == ((p3.1.getD ((0 + p1.toNat) + (wr .i64 (p3.2.2 - 1)).toNat) default).fIface)) && ((((p3.1.getD ((0 + p1.toNat) + p3.2.2.toNat) default).fAddr) == ((p3.1.getD ((0 + p1.toNat) + (wr .i64 (p3.2.2 - 1)).toNat) default).fAddr)) && true))) (fun b23 => ?_) (fun b23 => ?_)
 have h24 := cond_t b23 h22
 refine awp_seq ?_
 obtain ⟨c26, h27⟩ := gd_some h24
 refine rgc [0, 3, 4, 5] 2 ⟨61, [(0, .asl 0 0 p3.1.length), (3, .int .i64 p3.2.1), (4, .asl 0 (0 + p1.toNat) (a0.length - p1.toNat)), (5, .int .i64 p3.2.2)], [.arr 2 p3.1.length (fun j => bif Nat.beq j (0 + p3.2.1.toNat) then splice (c_THop (p3.1.getD (0 + p3.2.1.toNat) default)) [.int .i64 ((p3.1.getD ((0 + p1.toNat) + p3.2.2.toNat) default).fIface), .int .u32 ((p3.1.getD ((0 + p1.toNat) + p3.2.2.toNat) default).fAddr)] 0 else c_THop (p3.1.getD j default)), .gone]⟩ [decide (0 ≤ p3.2.2), decide (p3.2.2 < ((a0.length - p1.toNat : Nat) : Int)), decide (0 ≤ p3.2.1), decide (p3.2.1 < (p3.1.length : Int))] c26 ?_
 refine then_le (s' := ⟨61, [(0, .asl 0 0 ((p3.1.set (0 + p3.2.1.toNat) (p3.1.getD ((0 + p1.toNat) + p3.2.2.toNat) default)).length)), (3, .int .i64 p3.2.1), (4, .asl 0 (0 + p1.toNat) (a0.length - p1.toNat)), (5, .int .i64 p3.2.2)], [aL 2 c_THop (p3.1.set (0 + p3.2.1.toNat) (p3.1.getD ((0 + p1.toNat) + p3.2.2.toNat) default)), .gone]⟩) (le_sub (.cons (asl_len (by simp)) (.cons Sub.rfl (.cons Sub.rfl (.cons Sub.rfl .nil)))) (.cons (.arr (by simp) (set_ext c_THop p3.1 (0 + p3.2.1.toNat) (p3.1.getD ((0 + p1.toNat) + p3.2.2.toNat) default) _ rfl)) (.cons .rfl .nil))) ?_
 refine rg0 [0, 3, 4, 5] 2 ⟨61, [(0, .asl 0 0 ((p3.1.set (0 + p3.2.1.toNat) (p3.1.getD ((0 + p1.toNat) + p3.2.2.toNat) default)).length)), (3, .int .i64 (wr .i64 (p3.2.1 + 1))), (4, .asl 0 (0 + p1.toNat) (a0.length - p1.toNat)), (5, .int .i64 p3.2.2)], [aL 2 c_THop (p3.1.set (0 + p3.2.1.toNat) (p3.1.getD ((0 + p1.toNat) + p3.2.2.toNat) default)), .gone]⟩ ?_
 refine inb_n ?_
 exact then_le (le_rfl) (k19 (wr .i64 (p3.2.1 + 1), p3.1.set (0 + p3.2.1.toNat) (p3.1.getD ((0 + p1.toNat) + p3.2.2.toNat) default)) h27)
 have h25 := cond_f b23 h22
 refine awp_skip (inb_n ?_)
 exact then_le (kp [0, 3, 4, 5]) (k19 (p3.2.1, p3.1) h25)
 have h18 := cond_f b16 h15
 refine awp_exit (then_e ?_)
 obtain rfl := Option.some.inj h18
 exact round_e ⟨rfl, kp [0, 3]⟩
 intro e30 s31 o32
 obtain ⟨rfl, l33⟩ := o32
 refine inb_here ?_
 refine then_le (s' := ⟨61, [(0, .asl 0 0 y6.2.length), (3, .int .i64 y6.1)], [aL 2 c_THop y6.2, .gone]⟩) (l33) ?_
 refine awp_seq ?_
 obtain ⟨c34, h35⟩ := gd_some h29
 refine rgc [0, 3] 2 ⟨61, [(0, .asl 0 0 y6.2.length), (3, .int .i64 y6.1)], [.arr 2 y6.2.length (clrR ([.int .i64 0, .int .u32 0]) (0 + y6.1.toNat) (y6.2.length - y6.1.toNat) (fun i => c_THop (y6.2.getD i default))), .gone]⟩ [decide (0 ≤ y6.1), decide (y6.1 ≤ (y6.2.length : Int))] c34 ?_
 refine then_le (s' := ⟨61, [(0, .asl 0 0 ((clrL y6.2 (0 + y6.1.toNat) (y6.2.length - y6.1.toNat) (⟨0, 0⟩ : THop)).length)), (3, .int .i64 y6.1)], [aL 2 c_THop (clrL y6.2 (0 + y6.1.toNat) (y6.2.length - y6.1.toNat) (⟨0, 0⟩ : THop)), .gone]⟩) (le_sub (.cons (asl_len (clrL_len _ _ _ _)) (.cons Sub.rfl .nil)) (.cons (.arr (clrL_len _ _ _ _) (clrL_ext c_THop y6.2 (0 + y6.1.toNat) (y6.2.length - y6.1.toNat) (⟨0, 0⟩ : THop) _ rfl)) (.cons .rfl .nil))) ?_
 refine awp_seq ?_
 obtain ⟨c36, h37⟩ := gd_some h35
 refine rgc [2] 2 ⟨61, [(2, .asl 0 (0 + 0) (y6.1.toNat - 0))], [aL 2 c_THop (clrL y6.2 (0 + y6.1.toNat) (y6.2.length - y6.1.toNat) (⟨0, 0⟩ : THop)), .gone]⟩ [decide (0 ≤ y6.1), decide (y6.1 ≤ (((clrL y6.2 (0 + y6.1.toNat) (y6.2.length - y6.1.toNat) (⟨0, 0⟩ : THop)).length : Nat) : Int))] c36 ?_
 refine then_n (awp_ret (inb_r (then_r ?_)))
 obtain ⟨c38, h39⟩ := gd_some h37
 obtain rfl := Option.some.inj h39
 exact round_r ⟨rfl, emr (s' := ⟨61, [(2, .asl 0 (0 + 0) (y6.1.toNat - 0))], [aL 2 c_THop (clrL y6.2 (0 + y6.1.toNat) (y6.2.length - y6.1.toNat) (⟨0, 0⟩ : THop)), .gone]⟩) (le_rfl) (len_ok c38)⟩
 have h12 := cond_f b10 h9
 refine awp_skip (inb_n (then_n (rg0 [0, 3] 2 ⟨61, [(0, .asl 0 0 a0.length), (3, .int .i64 (wr .i64 (p1 + 1)))], [aL 2 c_THop a0, .gone]⟩ ?_)))
 obtain rfl := Option.some.inj h12
 exact round_n (le_rfl)
 have h7 := cond_f b5 h4
 refine awp_exit (then_e ?_)
 obtain rfl := Option.some.inj h7
 exact round_e ⟨rfl, kp [0]⟩
 intro e42 s43 o44
 rcases y7 with g8 | y9
 have h45 := elim_l h41
 obtain ⟨rfl, l47⟩ := o44
 refine inb_here ?_
 refine then_le (s' := ⟨61, [(0, .asl 0 0 a0.length)], [aL 2 c_THop a0, .gone]⟩) (l47) ?_
 refine awp_seq (rg0 [2] 2 ⟨61, [(2, .asl 0 0 a0.length)], [aL 2 c_THop a0, .gone]⟩ ?_)
 refine then_n (awp_ret ?_)
 obtain rfl := Option.some.inj h45
 exact emr (s' := ⟨61, [(2, .asl 0 0 a0.length)], [aL 2 c_THop a0, .gone]⟩) (le_rfl) rfl
 have h46 := elim_r h41
 obtain ⟨rfl, n48⟩ := o44
 refine inb_r (then_r ?_)
 obtain rfl := Option.some.inj h46
 exact n48
theorem slices_Clone_int_int_ok (a0 : List Int) (r : List Int) (h : M.slices_Clone_int_int a0 = some r) : Fn Try.prog 75 [sL 1 (ci .i64) a0] (.pure (sL 1 (ci .i64) r)) := by
 unfold M.slices_Clone_int_int at h
 obtain ⟨hc, h1⟩ := gd_some h
 obtain rfl := Option.some.inj h1
 refine fn_pure Try.func75 rfl (by kernel_rfl) ?_
 refine awp_seq (rg0 [0] 0 ⟨8, [(0, sL 1 (ci .i64) a0)], []⟩ ?_)
 refine then_n (awp_seq (awp_seq (rg0 [0, 4] 0 ⟨8, [(0, sL 1 (ci .i64) a0), (4, .nilq a0.length)], []⟩ ?_)))
 refine then_n (nq a0.length (fun hz => ?_) ?_)
 refine awp_seq (rg0 [2] 0 ⟨8, [(2, .sl true 1 0 (fun _ => []))], []⟩ ?_)
 refine then_n (awp_ret (then_r ?_))
 exact er (.sl false 1 0 (fun _ => [])) (sub_nil0 hz)
 refine awp_skip (then_n (awp_seq (rgc [2] 1 ⟨8, [(2, .asl 0 0 (0 + a0.length))], [.arr 1 (0 + a0.length) (app (fun i => List.take 1 (List.drop (i * 1) [])) 0 (fun i => (ci .i64) (a0.getD i default)))]⟩ [decide (0 = 0) || decide (0 < a0.length), decide ((0 + a0.length) * 8 ≤ 140737488355328)] hc ?_)))
 refine then_n (awp_ret ?_)
 exact er (.sl false 1 (0 + a0.length) (fun i => (app (fun i => List.take 1 (List.drop (i * 1) [])) 0 (fun i => (ci .i64) (a0.getD i default))) (0 + i))) (sub_sl (Nat.zero_add _) (fun i hi => by rw [Nat.zero_add]; exact app_nil (ci .i64) _ a0 _ (fun _ _ => rfl) i hi))
end Nv
