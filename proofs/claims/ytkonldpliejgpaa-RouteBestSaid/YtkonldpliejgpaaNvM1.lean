/- The walks: each function computes its mirror. -/
import Derived.Test.YtkonldpliejgpaaProg
import Derived.Test.YtkonldpliejgpaaNvD1
import Derived.Test.YtkonldpliejgpaaNvLibC
import Derived.KernelRfl
import Derived.Ground.SlsfProg
import Derived.Shelf.Lay
import Derived.Test.YtkonldpliejgpaaNvM1a
set_option maxRecDepth 100000
namespace Nv
open Go Go.Proofs
/- netverify/route.validDistance -/
theorem route_validDistance_ok (a0 : TRoute) (r : Bool) (h : M.route_validDistance a0 = some r) : Fn Try.prog 37 [.agg (c_TRoute a0)] (.pure (.bool r)) := by
 unfold M.route_validDistance at h
 refine fn_pure Try.func37 rfl (by kernel_rfl) ?_
 refine awp_seq (rg0 [1] 1 ⟨42, [(1, .ref 0 0)], [.box (c_TRoute a0)]⟩ ?_)
 refine then_n (awp_seq ?_)
 obtain ⟨r1, q1, h2⟩ := bind_some h
 refine rg [.pure (.bool r1)] [1, 3] 1 ⟨42, [(1, .ref 0 0), (3, .bool r1)], [.box (c_TRoute a0)]⟩ [] [⟨true, 67, [.int .i64 a0.fMetric, .int .i64 1, .int .i64 15], .pure (.bool r1)⟩] nil_all ⟨fun _ => route_within_ok a0.fMetric 1 15 r1 q1, trivial⟩ ?_
 refine then_n ?_
 refine awp_join (fun (p2 : Bool × (List THop)) => ⟨42, [(1, .ref 0 0), (3, .bool p2.1)], [.box [.int .u32 a0.fPrefix.fAddr, .int .i64 a0.fPrefix.fLen, .int .i64 a0.fProto, .int .i64 a0.fClass, .int .i64 a0.fAdmin, .int .i64 a0.fMetric, .int .i64 a0.fInner, .int .i64 a0.fTag, .int .i64 a0.fPref, sL 1 (ci .i64) a0.fPath, .int .u32 a0.fFrom, .int .u32 a0.fNext, sL 2 c_THop p2.2, .bool a0.fDiscard]]⟩) (fun p2 => M.route_validDistance_k1 a0 p2 = some r) ?_ ?_
 intro p2 h4
 unfold M.route_validDistance_k1 at h4
 refine awp_seq (rg0 [1, 3] 1 ⟨42, [(1, .ref 0 0), (3, .bool p2.1)], [.box [.int .u32 a0.fPrefix.fAddr, .int .i64 a0.fPrefix.fLen, .int .i64 a0.fProto, .int .i64 a0.fClass, .int .i64 a0.fAdmin, .int .i64 0, .int .i64 a0.fInner, .int .i64 a0.fTag, .int .i64 a0.fPref, sL 1 (ci .i64) a0.fPath, .int .u32 a0.fFrom, .int .u32 a0.fNext, sL 2 c_THop p2.2, .bool a0.fDiscard]]⟩ ?_)
 refine then_n (awp_seq ?_)
 obtain ⟨r3, q5, h6⟩ := bind_some h4
 refine rg [.pure (.bool r3)] [2] 0 ⟨42, [(2, .bool (p2.1 && r3))], []⟩ [] [⟨p2.1, 34, [.agg [.int .u32 a0.fPrefix.fAddr, .int .i64 a0.fPrefix.fLen, .int .i64 a0.fProto, .int .i64 a0.fClass, .int .i64 a0.fAdmin, .int .i64 0, .int .i64 a0.fInner, .int .i64 a0.fTag, .int .i64 a0.fPref, sL 1 (ci .i64) a0.fPath, .int .u32 a0.fFrom, .int .u32 a0.fNext, sL 2 c_THop p2.2, .bool a0.fDiscard]], .pure (.bool r3)⟩] nil_all ⟨fun hg => route_bare_ok (⟨a0.fPrefix, a0.fProto, a0.fClass, a0.fAdmin, 0, a0.fInner, a0.fTag, a0.fPref, a0.fPath, a0.fFrom, a0.fNext, p2.2, a0.fDiscard⟩ : TRoute) r3 (gc_some q5 hg), trivial⟩ ?_
 refine then_n (awp_ret ?_)
 obtain rfl := Option.some.inj h6
 exact er0 (.bool (p2.1 && r3))
 intro k3
 refine awp_seq (rg0 [1, 3, 8] 1 ⟨42, [(1, .ref 0 0), (3, .bool r1), (8, .int .i64 a0.fClass)], [.box (c_TRoute a0)]⟩ ?_)
 refine then_n (awp_block (awp_seq (rg0 [1, 3, 8, 9] 1 ⟨42, [(1, .ref 0 0), (3, .bool r1), (8, .int .i64 a0.fClass), (9, .bool (a0.fClass == 1))], [.box (c_TRoute a0)]⟩ ?_)))
 refine then_n ?_
 refine cnd (a0.fClass == 1) (fun b7 => ?_) (fun b7 => ?_)
 have h8 := cond_t b7 h2
 refine awp_seq ?_
 obtain ⟨r4, q10, h11⟩ := bind_some h8
 refine rg [.pure (.bool r4)] [1, 3] 1 ⟨42, [(1, .ref 0 0), (3, .bool (((a0.fMetric == 1) && (a0.fTag == 0)) && r4))], [.box (c_TRoute a0)]⟩ [] [⟨(a0.fMetric == 1) && (a0.fTag == 0), 33, [sL 2 c_THop a0.fHops], .pure (.bool r4)⟩] nil_all ⟨fun hg => route_direct_ok a0.fHops r4 (gc_some q10 hg), trivial⟩ ?_
 refine then_n (rg0 [1, 3] 1 ⟨42, [(1, .ref 0 0), (3, .bool (((a0.fMetric == 1) && (a0.fTag == 0)) && r4))], [.box [.int .u32 a0.fPrefix.fAddr, .int .i64 a0.fPrefix.fLen, .int .i64 a0.fProto, .int .i64 a0.fClass, .int .i64 a0.fAdmin, .int .i64 a0.fMetric, .int .i64 a0.fInner, .int .i64 a0.fTag, .int .i64 a0.fPref, sL 1 (ci .i64) a0.fPath, .int .u32 a0.fFrom, .int .u32 a0.fNext, .sl true 2 0 (fun _ => []), .bool a0.fDiscard]]⟩ ?_)
 refine inb_n ?_
 exact then_le (le_sub (.cons Sub.rfl (.cons Sub.rfl .nil)) (.cons (.box (.cons CSub.rfl (.cons CSub.rfl (.cons CSub.rfl (.cons CSub.rfl (.cons CSub.rfl (.cons CSub.rfl (.cons CSub.rfl (.cons CSub.rfl (.cons CSub.rfl (.cons CSub.rfl (.cons CSub.rfl (.cons CSub.rfl (.cons csub_nil (.cons CSub.rfl .nil))))))))))))))) .nil)) (k3 (((a0.fMetric == 1) && (a0.fTag == 0)) && r4, ([] : List THop)) h11)
 have h9 := cond_f b7 h2
 refine awp_seq (rg0 [1, 3, 8, 25] 1 ⟨42, [(1, .ref 0 0), (3, .bool r1), (8, .int .i64 a0.fClass), (25, .bool (a0.fClass == 2))], [.box (c_TRoute a0)]⟩ ?_)
 refine then_n ?_
 refine cnd (a0.fClass == 2) (fun b12 => ?_) (fun b12 => ?_)
 have h13 := cond_t b12 h9
 refine awp_skip (inb_n ?_)
 exact then_le (kp [1, 3]) (k3 (r1, a0.fHops) h13)
 have h14 := cond_f b12 h9
 refine awp_seq (rg0 [1, 3, 27] 1 ⟨42, [(1, .ref 0 0), (3, .bool r1), (27, .bool (a0.fClass == 3))], [.box (c_TRoute a0)]⟩ ?_)
 refine then_n ?_
 refine cnd (a0.fClass == 3) (fun b15 => ?_) (fun b15 => ?_)
 have h16 := cond_t b15 h14
 refine awp_seq ?_
 obtain ⟨r5, q18, h19⟩ := bind_some h16
 refine rg [.pure (.bool r5)] [1, 3] 1 ⟨42, [(1, .ref 0 0), (3, .bool (r1 && r5))], [.box (c_TRoute a0)]⟩ [] [⟨r1, 68, [sL 2 c_THop a0.fHops], .pure (.bool r5)⟩] nil_all ⟨fun hg => route_indirect_ok a0.fHops r5 (gc_some q18 hg), trivial⟩ ?_
 refine then_n (rg0 [1, 3] 1 ⟨42, [(1, .ref 0 0), (3, .bool (r1 && r5))], [.box [.int .u32 a0.fPrefix.fAddr, .int .i64 a0.fPrefix.fLen, .int .i64 a0.fProto, .int .i64 a0.fClass, .int .i64 a0.fAdmin, .int .i64 a0.fMetric, .int .i64 a0.fInner, .int .i64 a0.fTag, .int .i64 a0.fPref, sL 1 (ci .i64) a0.fPath, .int .u32 a0.fFrom, .int .u32 a0.fNext, .sl true 2 0 (fun _ => []), .bool a0.fDiscard]]⟩ ?_)
 refine inb_n ?_
 exact then_le (le_sub (.cons Sub.rfl (.cons Sub.rfl .nil)) (.cons (.box (.cons CSub.rfl (.cons CSub.rfl (.cons CSub.rfl (.cons CSub.rfl (.cons CSub.rfl (.cons CSub.rfl (.cons CSub.rfl (.cons CSub.rfl (.cons CSub.rfl (.cons CSub.rfl (.cons CSub.rfl (.cons CSub.rfl (.cons csub_nil (.cons CSub.rfl .nil))))))))))))))) .nil)) (k3 (r1 && r5, ([] : List THop)) h19)
 have h17 := cond_f b15 h14
 refine rg0 [1, 3] 1 ⟨42, [(1, .ref 0 0), (3, .bool false)], [.box (c_TRoute a0)]⟩ ?_
 refine inb_n ?_
 exact then_le (le_rfl) (k3 (false, a0.fHops) h17)

/- netverify/route.validPathVector -/
theorem route_validPathVector_ok (a0 : TRoute) (r : Bool) (h : M.route_validPathVector a0 = some r) : Fn Try.prog 38 [.agg (c_TRoute a0)] (.pure (.bool r)) := by
 unfold M.route_validPathVector at h
 refine fn_pure Try.func38 rfl (by kernel_rfl) ?_
 refine awp_seq (rg0 [1] 1 ⟨71, [(1, .ref 0 0)], [.box (c_TRoute a0)]⟩ ?_)
 refine then_n (awp_seq ?_)
 obtain ⟨r1, q1, h2⟩ := bind_some h
 obtain ⟨r2, q3, h4⟩ := bind_some h2
 refine rg [.pure (.bool r1), .pure (.bool r2)] [1, 3] 1 ⟨71, [(1, .ref 0 0), (3, .bool (r1 && r2))], [.box (c_TRoute a0)]⟩ [] [⟨true, 67, [.int .i64 a0.fMetric, .int .i64 0, .int .i64 16777215], .pure (.bool r1)⟩, ⟨r1, 67, [.int .i64 a0.fPref, .int .i64 0, .int .i64 1000000], .pure (.bool r2)⟩] nil_all ⟨fun _ => route_within_ok a0.fMetric 0 16777215 r1 q1, fun hg => route_within_ok a0.fPref 0 1000000 r2 (gc_some q3 hg), trivial⟩ ?_
 refine then_n (awp_seq (rg0 [1, 3] 1 ⟨71, [(1, .ref 0 0), (3, .bool (r1 && r2))], [.box [.int .u32 a0.fPrefix.fAddr, .int .i64 a0.fPrefix.fLen, .int .i64 a0.fProto, .int .i64 a0.fClass, .int .i64 a0.fAdmin, .int .i64 0, .int .i64 a0.fInner, .int .i64 a0.fTag, .int .i64 0, sL 1 (ci .i64) a0.fPath, .int .u32 a0.fFrom, .int .u32 a0.fNext, sL 2 c_THop a0.fHops, .bool a0.fDiscard]]⟩ ?_))
 refine then_n ?_
 refine awp_join (fun (p3 : Bool × (List Int) × Int × (List THop) × Bool) => ⟨71, [(1, .ref 0 0), (3, .bool p3.1)], [.box [.int .u32 a0.fPrefix.fAddr, .int .i64 a0.fPrefix.fLen, .int .i64 a0.fProto, .int .i64 a0.fClass, .int .i64 a0.fAdmin, .int .i64 0, .int .i64 a0.fInner, .int .i64 a0.fTag, .int .i64 0, sL 1 (ci .i64) p3.2.1, .int .u32 p3.2.2.1, .int .u32 a0.fNext, sL 2 c_THop p3.2.2.2.1, .bool p3.2.2.2.2]]⟩) (fun p3 => M.route_validPathVector_k1 a0 p3 = some r) ?_ ?_
 intro p3 h6
 unfold M.route_validPathVector_k1 at h6
 refine awp_seq ?_
 obtain ⟨r4, q7, h8⟩ := bind_some h6
 refine rg [.pure (.bool r4)] [2] 0 ⟨71, [(2, .bool (p3.1 && r4))], []⟩ [] [⟨p3.1, 34, [.agg [.int .u32 a0.fPrefix.fAddr, .int .i64 a0.fPrefix.fLen, .int .i64 a0.fProto, .int .i64 a0.fClass, .int .i64 a0.fAdmin, .int .i64 0, .int .i64 a0.fInner, .int .i64 a0.fTag, .int .i64 0, sL 1 (ci .i64) p3.2.1, .int .u32 p3.2.2.1, .int .u32 a0.fNext, sL 2 c_THop p3.2.2.2.1, .bool p3.2.2.2.2]], .pure (.bool r4)⟩] nil_all ⟨fun hg => route_bare_ok (⟨a0.fPrefix, a0.fProto, a0.fClass, a0.fAdmin, 0, a0.fInner, a0.fTag, 0, p3.2.1, p3.2.2.1, a0.fNext, p3.2.2.2.1, p3.2.2.2.2⟩ : TRoute) r4 (gc_some q7 hg), trivial⟩ ?_
 refine then_n (awp_ret ?_)
 obtain rfl := Option.some.inj h8
 exact er0 (.bool (p3.1 && r4))
 intro k5
 refine awp_seq (rg0 [1, 3, 15] 1 ⟨71, [(1, .ref 0 0), (3, .bool (r1 && r2)), (15, .int .i64 a0.fClass)], [.box [.int .u32 a0.fPrefix.fAddr, .int .i64 a0.fPrefix.fLen, .int .i64 a0.fProto, .int .i64 a0.fClass, .int .i64 a0.fAdmin, .int .i64 0, .int .i64 a0.fInner, .int .i64 a0.fTag, .int .i64 0, sL 1 (ci .i64) a0.fPath, .int .u32 a0.fFrom, .int .u32 a0.fNext, sL 2 c_THop a0.fHops, .bool a0.fDiscard]]⟩ ?_)
 refine then_n (awp_block (awp_seq (rg0 [1, 3, 15, 16] 1 ⟨71, [(1, .ref 0 0), (3, .bool (r1 && r2)), (15, .int .i64 a0.fClass), (16, .bool (a0.fClass == 1))], [.box [.int .u32 a0.fPrefix.fAddr, .int .i64 a0.fPrefix.fLen, .int .i64 a0.fProto, .int .i64 a0.fClass, .int .i64 a0.fAdmin, .int .i64 0, .int .i64 a0.fInner, .int .i64 a0.fTag, .int .i64 0, sL 1 (ci .i64) a0.fPath, .int .u32 a0.fFrom, .int .u32 a0.fNext, sL 2 c_THop a0.fHops, .bool a0.fDiscard]]⟩ ?_)))
 refine then_n ?_
 refine cnd (a0.fClass == 1) (fun b9 => ?_) (fun b9 => ?_)
 have h10 := cond_t b9 h4
 refine awp_skip (inb_n ?_)
 exact then_le (kp [1, 3]) (k5 (r1 && r2, a0.fPath, a0.fFrom, a0.fHops, a0.fDiscard) h10)
 have h11 := cond_f b9 h4
 refine awp_seq (rg0 [1, 3, 15, 18] 1 ⟨71, [(1, .ref 0 0), (3, .bool (r1 && r2)), (15, .int .i64 a0.fClass), (18, .bool (a0.fClass == 2))], [.box [.int .u32 a0.fPrefix.fAddr, .int .i64 a0.fPrefix.fLen, .int .i64 a0.fProto, .int .i64 a0.fClass, .int .i64 a0.fAdmin, .int .i64 0, .int .i64 a0.fInner, .int .i64 a0.fTag, .int .i64 0, sL 1 (ci .i64) a0.fPath, .int .u32 a0.fFrom, .int .u32 a0.fNext, sL 2 c_THop a0.fHops, .bool a0.fDiscard]]⟩ ?_)
 refine then_n ?_
 refine cnd (a0.fClass == 2) (fun b12 => ?_) (fun b12 => ?_)
 have h13 := cond_t b12 h11
 refine awp_seq (rg0 [1, 3] 1 ⟨71, [(1, .ref 0 0), (3, .bool ((r1 && r2) && a0.fDiscard))], [.box [.int .u32 a0.fPrefix.fAddr, .int .i64 a0.fPrefix.fLen, .int .i64 a0.fProto, .int .i64 a0.fClass, .int .i64 a0.fAdmin, .int .i64 0, .int .i64 a0.fInner, .int .i64 a0.fTag, .int .i64 0, sL 1 (ci .i64) a0.fPath, .int .u32 a0.fFrom, .int .u32 a0.fNext, sL 2 c_THop a0.fHops, .bool a0.fDiscard]]⟩ ?_)
 refine then_n (rg0 [1, 3] 1 ⟨71, [(1, .ref 0 0), (3, .bool ((r1 && r2) && a0.fDiscard))], [.box [.int .u32 a0.fPrefix.fAddr, .int .i64 a0.fPrefix.fLen, .int .i64 a0.fProto, .int .i64 a0.fClass, .int .i64 a0.fAdmin, .int .i64 0, .int .i64 a0.fInner, .int .i64 a0.fTag, .int .i64 0, sL 1 (ci .i64) a0.fPath, .int .u32 a0.fFrom, .int .u32 a0.fNext, sL 2 c_THop a0.fHops, .bool false]]⟩ ?_)
 refine inb_n ?_
 exact then_le (le_rfl) (k5 ((r1 && r2) && a0.fDiscard, a0.fPath, a0.fFrom, a0.fHops, false) h13)
 have h14 := cond_f b12 h11
 refine awp_join (fun (p5 : Bool) => ⟨71, [(1, .ref 0 0), (3, .bool (r1 && r2)), (26, .bool p5)], [.box [.int .u32 a0.fPrefix.fAddr, .int .i64 a0.fPrefix.fLen, .int .i64 a0.fProto, .int .i64 a0.fClass, .int .i64 a0.fAdmin, .int .i64 0, .int .i64 a0.fInner, .int .i64 a0.fTag, .int .i64 0, sL 1 (ci .i64) a0.fPath, .int .u32 a0.fFrom, .int .u32 a0.fNext, sL 2 c_THop a0.fHops, .bool a0.fDiscard]]⟩) (fun p5 => M.route_validPathVector_k2 a0 r1 r2 p5 = some r) ?_ ?_
 intro p5 h16
 unfold M.route_validPathVector_k2 at h16
 refine cnd p5 (fun b17 => ?_) (fun b17 => ?_)
 have h18 := cond_t b17 h16
 refine awp_seq ?_
 obtain ⟨c20, h21⟩ := gd_some h18
 refine rgc [1, 3] 1 ⟨71, [(1, .ref 0 0), (3, .bool ((((r1 && r2) && (a0.fFrom != 0)) && ((a0.fHops.length : Int) == 1)) && (((a0.fHops.getD (0 : Int).toNat default).fAddr) == a0.fFrom)))], [.box [.int .u32 a0.fPrefix.fAddr, .int .i64 a0.fPrefix.fLen, .int .i64 a0.fProto, .int .i64 a0.fClass, .int .i64 a0.fAdmin, .int .i64 0, .int .i64 a0.fInner, .int .i64 a0.fTag, .int .i64 0, sL 1 (ci .i64) a0.fPath, .int .u32 a0.fFrom, .int .u32 a0.fNext, sL 2 c_THop a0.fHops, .bool a0.fDiscard]]⟩ [guardB (((r1 && r2) && (a0.fFrom != 0)) && ((a0.fHops.length : Int) == 1)) (decide (0 ≤ 0)), guardB (((r1 && r2) && (a0.fFrom != 0)) && ((a0.fHops.length : Int) == 1)) (decide (0 < (a0.fHops.length : Int)))] c20 ?_
 refine then_n (awp_seq (rg0 [1, 3] 1 ⟨71, [(1, .ref 0 0), (3, .bool (((((r1 && r2) && (a0.fFrom != 0)) && ((a0.fHops.length : Int) == 1)) && (((a0.fHops.getD (0 : Int).toNat default).fAddr) == a0.fFrom)) && ((a0.fClass == 4) || (decide ((a0.fPath.length : Int) > 0)))))], [.box [.int .u32 a0.fPrefix.fAddr, .int .i64 a0.fPrefix.fLen, .int .i64 a0.fProto, .int .i64 a0.fClass, .int .i64 a0.fAdmin, .int .i64 0, .int .i64 a0.fInner, .int .i64 a0.fTag, .int .i64 0, sL 1 (ci .i64) a0.fPath, .int .u32 a0.fFrom, .int .u32 a0.fNext, sL 2 c_THop a0.fHops, .bool a0.fDiscard]]⟩ ?_))
 refine then_n (rg0 [1, 3] 1 ⟨71, [(1, .ref 0 0), (3, .bool (((((r1 && r2) && (a0.fFrom != 0)) && ((a0.fHops.length : Int) == 1)) && (((a0.fHops.getD (0 : Int).toNat default).fAddr) == a0.fFrom)) && ((a0.fClass == 4) || (decide ((a0.fPath.length : Int) > 0)))))], [.box [.int .u32 a0.fPrefix.fAddr, .int .i64 a0.fPrefix.fLen, .int .i64 a0.fProto, .int .i64 a0.fClass, .int .i64 a0.fAdmin, .int .i64 0, .int .i64 a0.fInner, .int .i64 a0.fTag, .int .i64 0, .sl true 1 0 (fun _ => []), .int .u32 0, .int .u32 a0.fNext, .sl true 2 0 (fun _ => []), .bool a0.fDiscard]]⟩ ?_)
 refine inb_n ?_
 exact then_le (le_sub (.cons Sub.rfl (.cons Sub.rfl .nil)) (.cons (.box (.cons CSub.rfl (.cons CSub.rfl (.cons CSub.rfl (.cons CSub.rfl (.cons CSub.rfl (.cons CSub.rfl (.cons CSub.rfl (.cons CSub.rfl (.cons CSub.rfl (.cons csub_nil (.cons CSub.rfl (.cons CSub.rfl (.cons csub_nil (.cons CSub.rfl .nil))))))))))))))) .nil)) (k5 (((((r1 && r2) && (a0.fFrom != 0)) && ((a0.fHops.length : Int) == 1)) && (((a0.fHops.getD (0 : Int).toNat default).fAddr) == a0.fFrom)) && ((a0.fClass == 4) || (decide ((a0.fPath.length : Int) > 0))), ([] : List Int), 0, ([] : List THop), a0.fDiscard) h21)
 have h19 := cond_f b17 h16
 refine rg0 [1, 3] 1 ⟨71, [(1, .ref 0 0), (3, .bool false)], [.box [.int .u32 a0.fPrefix.fAddr, .int .i64 a0.fPrefix.fLen, .int .i64 a0.fProto, .int .i64 a0.fClass, .int .i64 a0.fAdmin, .int .i64 0, .int .i64 a0.fInner, .int .i64 a0.fTag, .int .i64 0, sL 1 (ci .i64) a0.fPath, .int .u32 a0.fFrom, .int .u32 a0.fNext, sL 2 c_THop a0.fHops, .bool a0.fDiscard]]⟩ ?_
 refine inb_n ?_
 exact then_le (le_rfl) (k5 (false, a0.fPath, a0.fFrom, a0.fHops, a0.fDiscard) h19)
 intro k15
 refine awp_seq (rg0 [1, 3, 15, 26] 1 ⟨71, [(1, .ref 0 0), (3, .bool (r1 && r2)), (15, .int .i64 a0.fClass), (26, .bool (a0.fClass == 3))], [.box [.int .u32 a0.fPrefix.fAddr, .int .i64 a0.fPrefix.fLen, .int .i64 a0.fProto, .int .i64 a0.fClass, .int .i64 a0.fAdmin, .int .i64 0, .int .i64 a0.fInner, .int .i64 a0.fTag, .int .i64 0, sL 1 (ci .i64) a0.fPath, .int .u32 a0.fFrom, .int .u32 a0.fNext, sL 2 c_THop a0.fHops, .bool a0.fDiscard]]⟩ ?_)
 refine then_n ?_
 refine cnd (a0.fClass == 3) (fun b22 => ?_) (fun b22 => ?_)
 have h23 := cond_t b22 h14
 refine awp_skip ?_
 exact then_le (kp [1, 3, 26]) (k15 (a0.fClass == 3) h23)
 have h24 := cond_f b22 h14
 refine rg0 [1, 3, 26] 1 ⟨71, [(1, .ref 0 0), (3, .bool (r1 && r2)), (26, .bool (a0.fClass == 4))], [.box [.int .u32 a0.fPrefix.fAddr, .int .i64 a0.fPrefix.fLen, .int .i64 a0.fProto, .int .i64 a0.fClass, .int .i64 a0.fAdmin, .int .i64 0, .int .i64 a0.fInner, .int .i64 a0.fTag, .int .i64 0, sL 1 (ci .i64) a0.fPath, .int .u32 a0.fFrom, .int .u32 a0.fNext, sL 2 c_THop a0.fHops, .bool a0.fDiscard]]⟩ ?_
 exact then_le (le_rfl) (k15 (a0.fClass == 4) h24)

/- netverify/route.Valid -/
theorem route_Valid_ok (a0 : TRoute) (r : Bool) (h : M.route_Valid a0 = some r) : Fn Try.prog 13 [.agg (c_TRoute a0)] (.pure (.bool r)) := by
 unfold M.route_Valid at h
 refine fn_pure Try.func13 rfl (by kernel_rfl) ?_
 refine awp_seq (rg0 [1] 1 ⟨60, [(1, .ref 0 0)], [.box (c_TRoute a0)]⟩ ?_)
 refine then_n (awp_seq (awp_seq ?_))
 obtain ⟨r1, q1, h2⟩ := bind_some h
 refine rg [.pure (.bool r1)] [1, 6] 1 ⟨60, [(1, .ref 0 0), (6, .bool (!r1))], [.box (c_TRoute a0)]⟩ [] [⟨true, 32, [.agg (c_TRoute a0)], .pure (.bool r1)⟩] nil_all ⟨fun _ => route_common_ok a0 r1 q1, trivial⟩ ?_
 refine then_n ?_
 refine cnd (!r1) (fun b3 => ?_) (fun b3 => ?_)
 have h4 := cond_t b3 h2
 refine awp_seq (rg0 [2] 0 ⟨60, [(2, .bool false)], []⟩ ?_)
 refine then_n (awp_ret (then_r ?_))
 obtain rfl := Option.some.inj h4
 exact er0 (.bool false)
 have h5 := cond_f b3 h2
 refine awp_skip (then_n (awp_seq (awp_seq (rg0 [1, 9] 1 ⟨60, [(1, .ref 0 0), (9, .bool (a0.fProto == 1))], [.box (c_TRoute a0)]⟩ ?_))))
 refine then_n ?_
 refine cnd (a0.fProto == 1) (fun b6 => ?_) (fun b6 => ?_)
 have h7 := cond_t b6 h5
 refine awp_seq ?_
 obtain ⟨r2, q9, h10⟩ := bind_some h7
 refine rg [.pure (.bool r2)] [1, 3] 1 ⟨60, [(1, .ref 0 0), (3, .bool ((((a0.fClass == 0) && (a0.fAdmin == 0)) && (a0.fTag == 0)) && r2))], [.box (c_TRoute a0)]⟩ [] [⟨((a0.fClass == 0) && (a0.fAdmin == 0)) && (a0.fTag == 0), 33, [sL 2 c_THop a0.fHops], .pure (.bool r2)⟩] nil_all ⟨fun hg => route_direct_ok a0.fHops r2 (gc_some q9 hg), trivial⟩ ?_
 refine then_n (awp_seq (rg0 [1, 3] 1 ⟨60, [(1, .ref 0 0), (3, .bool ((((a0.fClass == 0) && (a0.fAdmin == 0)) && (a0.fTag == 0)) && r2))], [.box [.int .u32 a0.fPrefix.fAddr, .int .i64 a0.fPrefix.fLen, .int .i64 a0.fProto, .int .i64 a0.fClass, .int .i64 a0.fAdmin, .int .i64 a0.fMetric, .int .i64 a0.fInner, .int .i64 a0.fTag, .int .i64 a0.fPref, sL 1 (ci .i64) a0.fPath, .int .u32 a0.fFrom, .int .u32 a0.fNext, .sl true 2 0 (fun _ => []), .bool a0.fDiscard]]⟩ ?_))
 refine then_n (awp_seq ?_)
 obtain ⟨r3, q11, h12⟩ := bind_some h10
 refine rg [.pure (.bool r3)] [2] 0 ⟨60, [(2, .bool (((((a0.fClass == 0) && (a0.fAdmin == 0)) && (a0.fTag == 0)) && r2) && r3))], []⟩ [] [⟨(((a0.fClass == 0) && (a0.fAdmin == 0)) && (a0.fTag == 0)) && r2, 34, [.agg [.int .u32 a0.fPrefix.fAddr, .int .i64 a0.fPrefix.fLen, .int .i64 a0.fProto, .int .i64 a0.fClass, .int .i64 a0.fAdmin, .int .i64 a0.fMetric, .int .i64 a0.fInner, .int .i64 a0.fTag, .int .i64 a0.fPref, sL 1 (ci .i64) a0.fPath, .int .u32 a0.fFrom, .int .u32 a0.fNext, .sl false 2 0 (fun _ => []), .bool a0.fDiscard]], .pure (.bool r3)⟩] nil_all ⟨fun hg => (route_bare_ok (⟨a0.fPrefix, a0.fProto, a0.fClass, a0.fAdmin, a0.fMetric, a0.fInner, a0.fTag, a0.fPref, a0.fPath, a0.fFrom, a0.fNext, ([] : List THop), a0.fDiscard⟩ : TRoute) r3 (gc_some q11 hg)).args (.cons (asub_agg (.cons CSub.rfl (.cons CSub.rfl (.cons CSub.rfl (.cons CSub.rfl (.cons CSub.rfl (.cons CSub.rfl (.cons CSub.rfl (.cons CSub.rfl (.cons CSub.rfl (.cons CSub.rfl (.cons CSub.rfl (.cons CSub.rfl (.cons csub_nil (.cons CSub.rfl .nil))))))))))))))) .nil), trivial⟩ ?_
 refine then_n (awp_ret (then_r ?_))
 obtain rfl := Option.some.inj h12
 exact er0 (.bool (((((a0.fClass == 0) && (a0.fAdmin == 0)) && (a0.fTag == 0)) && r2) && r3))
 have h8 := cond_f b6 h5
 refine awp_skip (then_n (awp_seq (awp_seq (rg0 [1, 41] 1 ⟨60, [(1, .ref 0 0), (41, .bool ((decide (a0.fAdmin < 1)) || (decide (a0.fAdmin > 255))))], [.box (c_TRoute a0)]⟩ ?_))))
 refine then_n ?_
 refine cnd ((decide (a0.fAdmin < 1)) || (decide (a0.fAdmin > 255))) (fun b13 => ?_) (fun b13 => ?_)
 have h14 := cond_t b13 h8
 refine awp_seq (rg0 [2] 0 ⟨60, [(2, .bool false)], []⟩ ?_)
 refine then_n (awp_ret (then_r ?_))
 obtain rfl := Option.some.inj h14
 exact er0 (.bool false)
 have h15 := cond_f b13 h8
 refine awp_skip (then_n (awp_seq (awp_seq (rg0 [1, 43] 1 ⟨60, [(1, .ref 0 0), (43, .int .i64 a0.fProto)], [.box (c_TRoute a0)]⟩ ?_))))
 refine then_n (awp_block (awp_seq (rg0 [1, 43, 44] 1 ⟨60, [(1, .ref 0 0), (43, .int .i64 a0.fProto), (44, .bool (a0.fProto == 2))], [.box (c_TRoute a0)]⟩ ?_)))
 refine then_n ?_
 refine cnd (a0.fProto == 2) (fun b16 => ?_) (fun b16 => ?_)
 have h17 := cond_t b16 h15
 refine awp_seq ?_
 obtain ⟨r4, q19, h20⟩ := bind_some h17
 refine rg [.pure (.bool r4)] [2] 0 ⟨60, [(2, .bool r4)], []⟩ [] [⟨true, 35, [.agg (c_TRoute a0)], .pure (.bool r4)⟩] nil_all ⟨fun _ => route_validStatic_ok a0 r4 q19, trivial⟩ ?_
 refine then_n (awp_ret (inb_r (then_r ?_)))
 obtain rfl := Option.some.inj h20
 exact er0 (.bool r4)
 have h18 := cond_f b16 h15
 refine awp_seq (rg0 [1, 43, 48] 1 ⟨60, [(1, .ref 0 0), (43, .int .i64 a0.fProto), (48, .bool (a0.fProto == 3))], [.box (c_TRoute a0)]⟩ ?_)
 refine then_n ?_
 refine cnd (a0.fProto == 3) (fun b21 => ?_) (fun b21 => ?_)
 have h22 := cond_t b21 h18
 refine awp_seq ?_
 obtain ⟨r5, q24, h25⟩ := bind_some h22
 refine rg [.pure (.bool r5)] [2] 0 ⟨60, [(2, .bool r5)], []⟩ [] [⟨true, 36, [.agg (c_TRoute a0)], .pure (.bool r5)⟩] nil_all ⟨fun _ => route_validLinkState_ok a0 r5 q24, trivial⟩ ?_
 refine then_n (awp_ret (inb_r (then_r ?_)))
 obtain rfl := Option.some.inj h25
 exact er0 (.bool r5)
 have h23 := cond_f b21 h18
 refine awp_seq (rg0 [1, 43, 52] 1 ⟨60, [(1, .ref 0 0), (43, .int .i64 a0.fProto), (52, .bool (a0.fProto == 4))], [.box (c_TRoute a0)]⟩ ?_)
 refine then_n ?_
 refine cnd (a0.fProto == 4) (fun b26 => ?_) (fun b26 => ?_)
 have h27 := cond_t b26 h23
 refine awp_seq ?_
 obtain ⟨r6, q29, h30⟩ := bind_some h27
 refine rg [.pure (.bool r6)] [2] 0 ⟨60, [(2, .bool r6)], []⟩ [] [⟨true, 37, [.agg (c_TRoute a0)], .pure (.bool r6)⟩] nil_all ⟨fun _ => route_validDistance_ok a0 r6 q29, trivial⟩ ?_
 refine then_n (awp_ret (inb_r (then_r ?_)))
 obtain rfl := Option.some.inj h30
 exact er0 (.bool r6)
 have h28 := cond_f b26 h23
 refine awp_seq (rg0 [1, 56] 1 ⟨60, [(1, .ref 0 0), (56, .bool (a0.fProto == 5))], [.box (c_TRoute a0)]⟩ ?_)
 refine then_n ?_
 refine cnd (a0.fProto == 5) (fun b31 => ?_) (fun b31 => ?_)
 have h32 := cond_t b31 h28
 refine awp_seq ?_
 obtain ⟨r7, q34, h35⟩ := bind_some h32
 refine rg [.pure (.bool r7)] [2] 0 ⟨60, [(2, .bool r7)], []⟩ [] [⟨true, 38, [.agg (c_TRoute a0)], .pure (.bool r7)⟩] nil_all ⟨fun _ => route_validPathVector_ok a0 r7 q34, trivial⟩ ?_
 refine then_n (awp_ret (inb_r (then_r ?_)))
 obtain rfl := Option.some.inj h35
 exact er0 (.bool r7)
 have h33 := cond_f b31 h28
 refine awp_skip (inb_n (then_n (awp_seq (rg0 [2] 0 ⟨60, [(2, .bool false)], []⟩ ?_))))
 refine then_n (awp_ret ?_)
 obtain rfl := Option.some.inj h33
 exact er0 (.bool false)

/- netverify/addr.Contains -/
theorem addr_Contains_ok (a0 : TPrefix) (a1 : Int) (r : Bool) (h : M.addr_Contains a0 a1 = some r) : Fn Try.prog 58 [.agg (c_TPrefix a0), .int .u32 a1] (.pure (.bool r)) := by
 unfold M.addr_Contains at h
 refine fn_pure Try.func58 rfl (by kernel_rfl) ?_
 refine awp_seq (rg0 [1, 2] 1 ⟨13, [(1, .int .u32 a1), (2, .ref 0 0)], [.box (c_TPrefix a0)]⟩ ?_)
 refine then_n (awp_seq ?_)
 obtain ⟨r1, q1, h2⟩ := bind_some h
 refine rg [.pure (.int .u32 r1)] [4] 0 ⟨13, [(4, .bool ((bitD .and .u32 a1 r1) == a0.fAddr))], []⟩ [] [⟨true, 76, [.int .i64 a0.fLen], .pure (.int .u32 r1)⟩] nil_all ⟨fun _ => addr_Mask_ok a0.fLen r1 q1, trivial⟩ ?_
 refine then_n (awp_ret ?_)
 obtain rfl := Option.some.inj h2
 exact er0 (.bool ((bitD .and .u32 a1 r1) == a0.fAddr))

/- netverify/route.Longest -/
theorem route_Longest_ok (a0 : List TRoute) (a1 : Int) (r : Int) (h : M.route_Longest a0 a1 = some r) : Fn Try.prog 22 [sL 14 c_TRoute a0, .int .u32 a1] (.pure (.int .i64 r)) := by
 unfold M.route_Longest at h
 refine fn_pure Try.func22 rfl (by kernel_rfl) ?_
 refine awp_seq (rg0 [0, 1] 0 ⟨38, [(0, sL 14 c_TRoute a0), (1, .int .u32 a1)], []⟩ ?_)
 refine then_n (awp_seq (rg0 [0, 1, 5] 0 ⟨38, [(0, sL 14 c_TRoute a0), (1, .int .u32 a1), (5, .int .i64 (-1))], []⟩ ?_))
 refine then_n (awp_seq (awp_seq (rg0 [0, 1, 5, 8, 9, 10] 0 ⟨38, [(0, sL 14 c_TRoute a0), (1, .int .u32 a1), (5, .int .i64 (-1)), (8, sL 14 c_TRoute a0), (9, .int .i64 (a0.length : Int)), (10, .int .i64 0)], []⟩ ?_)))
 refine then_n (awp_block ?_)
 obtain ⟨y5, q16, h17⟩ := bind_some h
 refine awp_le (s' := ⟨38, [(0, sL 14 c_TRoute a0), (1, .int .u32 a1), (5, .int .i64 (-1)), (8, sL 14 c_TRoute a0), (9, .int .i64 (a0.length : Int)), (10, .int .i64 0)], []⟩) (le_rfl) ?_
 refine awp_mono (awp_loop (f := M.route_Longest_l1 a0 a1) (S := fun (p1 : Int × Int) => ⟨38, [(0, sL 14 c_TRoute a0), (1, .int .u32 a1), (5, .int .i64 p1.1), (8, sL 14 c_TRoute a0), (9, .int .i64 (a0.length : Int)), (10, .int .i64 p1.2)], []⟩) (O := (fun z => OutE 0 (fun z => ⟨38, [(5, .int .i64 z)], []⟩) z)) ?_ (x := ((-1), 0)) (y := y5) (loopM_iter q16)) ?_
 intro p1 y2 h1
 unfold M.route_Longest_l1 at h1
 refine awp_seq (rg0 [0, 1, 5, 8, 9, 10, 11] 0 ⟨38, [(0, sL 14 c_TRoute a0), (1, .int .u32 a1), (5, .int .i64 p1.1), (8, sL 14 c_TRoute a0), (9, .int .i64 (a0.length : Int)), (10, .int .i64 p1.2), (11, .bool (decide (p1.2 < (a0.length : Int))))], []⟩ ?_)
 refine then_n (awp_seq ?_)
 refine cnd (decide (p1.2 < (a0.length : Int))) (fun b2 => ?_) (fun b2 => ?_)
 have h3 := cond_t b2 h1
 refine awp_skip (then_n ?_)
 refine awp_join (fun (p3 : Int) => ⟨38, [(0, sL 14 c_TRoute a0), (1, .int .u32 a1), (5, .int .i64 p3), (8, sL 14 c_TRoute a0), (9, .int .i64 (a0.length : Int)), (10, .int .i64 p1.2)], []⟩) (fun p3 => M.route_Longest_k1 p1 p3 = some y2) ?_ ?_
 intro p3 h6
 unfold M.route_Longest_k1 at h6
 refine rg0 [0, 1, 5, 8, 9, 10] 0 ⟨38, [(0, sL 14 c_TRoute a0), (1, .int .u32 a1), (5, .int .i64 p3), (8, sL 14 c_TRoute a0), (9, .int .i64 (a0.length : Int)), (10, .int .i64 (wr .i64 (p1.2 + 1)))], []⟩ ?_
 obtain rfl := Option.some.inj h6
 exact round_n (le_rfl)
 intro k5
 refine awp_block (awp_seq ?_)
 obtain ⟨c7, h8⟩ := gd_some h3
 refine rgc [0, 1, 5, 6, 7, 8, 9, 10] 1 ⟨38, [(0, sL 14 c_TRoute a0), (1, .int .u32 a1), (5, .int .i64 p1.1), (6, .int .i64 p1.2), (7, .ref 0 0), (8, sL 14 c_TRoute a0), (9, .int .i64 (a0.length : Int)), (10, .int .i64 p1.2)], [.box (c_TRoute (a0.getD p1.2.toNat default))]⟩ [decide (0 ≤ p1.2), decide (p1.2 < (a0.length : Int))] c7 ?_
 refine then_n (awp_seq ?_)
 obtain ⟨r4, q9, h10⟩ := bind_some h8
 obtain ⟨c11, h12⟩ := gd_some h10
 refine rg [.pure (.bool r4)] [0, 1, 5, 6, 8, 9, 10, 34] 0 ⟨38, [(0, sL 14 c_TRoute a0), (1, .int .u32 a1), (5, .int .i64 p1.1), (6, .int .i64 p1.2), (8, sL 14 c_TRoute a0), (9, .int .i64 (a0.length : Int)), (10, .int .i64 p1.2), (34, .bool (r4 && ((decide (p1.1 < 0)) || (decide ((((a0.getD p1.2.toNat default).fPrefix).fLen) > (((a0.getD p1.1.toNat default).fPrefix).fLen))))))], []⟩ [guardB (r4 && !(decide (p1.1 < 0))) (decide (0 ≤ p1.1)), guardB (r4 && !(decide (p1.1 < 0))) (decide (p1.1 < (a0.length : Int)))] [⟨true, 58, [.agg (c_TPrefix ((a0.getD p1.2.toNat default).fPrefix)), .int .u32 a1], .pure (.bool r4)⟩] c11 ⟨fun _ => addr_Contains_ok ((a0.getD p1.2.toNat default).fPrefix) a1 r4 q9, trivial⟩ ?_
 refine then_n ?_
 refine cnd (r4 && ((decide (p1.1 < 0)) || (decide ((((a0.getD p1.2.toNat default).fPrefix).fLen) > (((a0.getD p1.1.toNat default).fPrefix).fLen))))) (fun b13 => ?_) (fun b13 => ?_)
 have h14 := cond_t b13 h12
 refine rg0 [0, 1, 5, 8, 9, 10] 0 ⟨38, [(0, sL 14 c_TRoute a0), (1, .int .u32 a1), (5, .int .i64 p1.2), (8, sL 14 c_TRoute a0), (9, .int .i64 (a0.length : Int)), (10, .int .i64 p1.2)], []⟩ ?_
 refine inb_n ?_
 exact then_le (le_rfl) (k5 p1.2 h14)
 have h15 := cond_f b13 h12
 refine awp_skip (inb_n ?_)
 exact then_le (kp [0, 1, 5, 8, 9, 10]) (k5 p1.1 h15)
 have h4 := cond_f b2 h1
 refine awp_exit (then_e ?_)
 obtain rfl := Option.some.inj h4
 exact round_e ⟨rfl, kp [5]⟩
 intro e18 s19 o20
 obtain ⟨rfl, l21⟩ := o20
 refine inb_here ?_
 refine then_le (s' := ⟨38, [(5, .int .i64 y5)], []⟩) (l21) ?_
 refine awp_seq (rg0 [4] 0 ⟨38, [(4, .int .i64 y5)], []⟩ ?_)
 refine then_n (awp_ret ?_)
 obtain rfl := Option.some.inj h17
 exact er0 (.int .i64 y5)

/- netverify/netverifylaw14.sane -/
theorem law14_sane_ok  (r : Bool) (h : M.law14_sane  = some r) : Fn Try.prog 15 [] (.pure (.bool r)) := by
 unfold M.law14_sane at h
 refine fn_pure Try.func15 rfl (by kernel_rfl) ?_
 refine awp_seq (rg0 [] 0 ⟨50, [], []⟩ ?_)
 refine then_n (awp_seq (rg0 [1] 1 ⟨50, [(1, .ref 0 0)], [.box [.int .u32 0, .int .i64 0, .int .i64 4, .int .i64 3, .int .i64 120, .int .i64 3, .int .i64 0, .int .i64 0, .int .i64 0, .sl true 1 0 (fun _ => []), .int .u32 0, .int .u32 0, .sl true 2 1 (fun i => List.take 2 (List.drop (i * 2) [.int .i64 0, .int .u32 7])), .bool false]]⟩ ?_))
 refine then_n (awp_seq (rg0 [1, 2] 2 ⟨50, [(1, .ref 0 0), (2, .ref 1 0)], [.box [.int .u32 0, .int .i64 0, .int .i64 4, .int .i64 3, .int .i64 120, .int .i64 3, .int .i64 0, .int .i64 0, .int .i64 0, .sl true 1 0 (fun _ => []), .int .u32 0, .int .u32 0, .sl true 2 1 (fun i => List.take 2 (List.drop (i * 2) [.int .i64 0, .int .u32 7])), .bool false], .box [.int .u32 0, .int .i64 0, .int .i64 4, .int .i64 3, .int .i64 120, .int .i64 3, .int .i64 0, .int .i64 0, .int .i64 0, .sl true 1 0 (fun _ => []), .int .u32 0, .int .u32 0, .sl true 2 1 (fun i => List.take 2 (List.drop (i * 2) [.int .i64 0, .int .u32 7])), .bool false]]⟩ ?_))
 refine then_n (awp_seq (rg0 [1, 2] 2 ⟨50, [(1, .ref 0 0), (2, .ref 1 0)], [.box [.int .u32 0, .int .i64 0, .int .i64 4, .int .i64 3, .int .i64 120, .int .i64 3, .int .i64 0, .int .i64 0, .int .i64 0, .sl true 1 0 (fun _ => []), .int .u32 0, .int .u32 0, .sl true 2 1 (fun i => List.take 2 (List.drop (i * 2) [.int .i64 0, .int .u32 7])), .bool false], .box [.int .u32 0, .int .i64 0, .int .i64 4, .int .i64 3, .int .i64 120, .int .i64 2, .int .i64 0, .int .i64 0, .int .i64 0, .sl true 1 0 (fun _ => []), .int .u32 0, .int .u32 0, .sl true 2 1 (fun i => List.take 2 (List.drop (i * 2) [.int .i64 1, .int .u32 9])), .bool false]]⟩ ?_))
 refine then_n (awp_seq ?_)
 obtain ⟨r1, q1, h2⟩ := bind_some h
 refine rg [.pure (sL 14 c_TRoute r1)] [1, 2, 3] 2 ⟨50, [(1, .ref 0 0), (2, .ref 1 0), (3, sL 14 c_TRoute r1)], [.box [.int .u32 0, .int .i64 0, .int .i64 4, .int .i64 3, .int .i64 120, .int .i64 3, .int .i64 0, .int .i64 0, .int .i64 0, .sl true 1 0 (fun _ => []), .int .u32 0, .int .u32 0, .sl true 2 1 (fun i => List.take 2 (List.drop (i * 2) [.int .i64 0, .int .u32 7])), .bool false], .box [.int .u32 0, .int .i64 0, .int .i64 4, .int .i64 3, .int .i64 120, .int .i64 2, .int .i64 0, .int .i64 0, .int .i64 0, .sl true 1 0 (fun _ => []), .int .u32 0, .int .u32 0, .sl true 2 1 (fun i => List.take 2 (List.drop (i * 2) [.int .i64 1, .int .u32 9])), .bool false]]⟩ [] [⟨true, 19, [.sl false 14 2 (fun i => List.take 14 (List.drop (i * 14) [.int .u32 0, .int .i64 0, .int .i64 4, .int .i64 3, .int .i64 120, .int .i64 3, .int .i64 0, .int .i64 0, .int .i64 0, .sl true 1 0 (fun _ => []), .int .u32 0, .int .u32 0, .sl true 2 1 (fun i => List.take 2 (List.drop (i * 2) [.int .i64 0, .int .u32 7])), .bool false, .int .u32 0, .int .i64 0, .int .i64 4, .int .i64 3, .int .i64 120, .int .i64 2, .int .i64 0, .int .i64 0, .int .i64 0, .sl true 1 0 (fun _ => []), .int .u32 0, .int .u32 0, .sl true 2 1 (fun i => List.take 2 (List.drop (i * 2) [.int .i64 1, .int .u32 9])), .bool false]))], .pure (sL 14 c_TRoute r1)⟩] nil_all ⟨fun _ => (route_Merge_ok ([(⟨(⟨0, 0⟩ : TPrefix), 4, 3, 120, 3, 0, 0, 0, ([] : List Int), 0, 0, ([(⟨0, 7⟩ : THop)] : List THop), false⟩ : TRoute), (⟨(⟨0, 0⟩ : TPrefix), 4, 3, 120, 2, 0, 0, 0, ([] : List Int), 0, 0, ([(⟨1, 9⟩ : THop)] : List THop), false⟩ : TRoute)] : List TRoute) r1 q1).args (.cons (asub_psl rfl (fun i hi => match i, hi with | 0, _ => (.cons PSub.rfl (.cons PSub.rfl (.cons PSub.rfl (.cons PSub.rfl (.cons PSub.rfl (.cons PSub.rfl (.cons PSub.rfl (.cons PSub.rfl (.cons PSub.rfl (.cons psub_nil (.cons PSub.rfl (.cons PSub.rfl (.cons (psub_sl rfl (fun i hi => match i, hi with | 0, _ => (.cons PSub.rfl (.cons PSub.rfl .nil)) | n + 1, h => absurd h (by omega))) (.cons PSub.rfl .nil)))))))))))))) | 1, _ => (.cons PSub.rfl (.cons PSub.rfl (.cons PSub.rfl (.cons PSub.rfl (.cons PSub.rfl (.cons PSub.rfl (.cons PSub.rfl (.cons PSub.rfl (.cons PSub.rfl (.cons psub_nil (.cons PSub.rfl (.cons PSub.rfl (.cons (psub_sl rfl (fun i hi => match i, hi with | 0, _ => (.cons PSub.rfl (.cons PSub.rfl .nil)) | n + 1, h => absurd h (by omega))) (.cons PSub.rfl .nil)))))))))))))) | n + 2, h => absurd h (by omega))) .nil), trivial⟩ ?_
 refine then_n (awp_seq ?_)
 obtain ⟨r2, q3, h4⟩ := bind_some h2
 obtain ⟨r3, q5, h6⟩ := bind_some h4
 obtain ⟨r4, q7, h8⟩ := bind_some h6
 obtain ⟨r5, q9, h10⟩ := bind_some h8
 obtain ⟨r6, q11, h12⟩ := bind_some h10
 obtain ⟨c13, h14⟩ := gd_some h12
 refine rg [.pure (.bool r2), .pure (.bool r3), .pure (.int .i64 r4), .pure (.int .i64 r5), .pure (.bool r6)] [0] 0 ⟨50, [(0, .bool ((((((r2 && r3) && (r4 == (-1))) && ((r1.length : Int) == 1)) && (((r1.getD (0 : Int).toNat default).fMetric) == 2)) && (r5 == 0)) && (!r6)))], []⟩ [guardB (((r2 && r3) && (r4 == (-1))) && ((r1.length : Int) == 1)) (decide (0 ≤ 0)), guardB (((r2 && r3) && (r4 == (-1))) && ((r1.length : Int) == 1)) (decide (0 < (r1.length : Int)))] [⟨true, 13, [.agg [.int .u32 0, .int .i64 0, .int .i64 4, .int .i64 3, .int .i64 120, .int .i64 3, .int .i64 0, .int .i64 0, .int .i64 0, .sl false 1 0 (fun _ => []), .int .u32 0, .int .u32 0, .sl false 2 1 (fun i => List.take 2 (List.drop (i * 2) [.int .i64 0, .int .u32 7])), .bool false]], .pure (.bool r2)⟩, ⟨r2, 13, [.agg [.int .u32 0, .int .i64 0, .int .i64 4, .int .i64 3, .int .i64 120, .int .i64 2, .int .i64 0, .int .i64 0, .int .i64 0, .sl false 1 0 (fun _ => []), .int .u32 0, .int .u32 0, .sl false 2 1 (fun i => List.take 2 (List.drop (i * 2) [.int .i64 1, .int .u32 9])), .bool false]], .pure (.bool r3)⟩, ⟨r2 && r3, 17, [.agg [.int .u32 0, .int .i64 0, .int .i64 4, .int .i64 3, .int .i64 120, .int .i64 2, .int .i64 0, .int .i64 0, .int .i64 0, .sl false 1 0 (fun _ => []), .int .u32 0, .int .u32 0, .sl false 2 1 (fun i => List.take 2 (List.drop (i * 2) [.int .i64 1, .int .u32 9])), .bool false], .agg [.int .u32 0, .int .i64 0, .int .i64 4, .int .i64 3, .int .i64 120, .int .i64 3, .int .i64 0, .int .i64 0, .int .i64 0, .sl false 1 0 (fun _ => []), .int .u32 0, .int .u32 0, .sl false 2 1 (fun i => List.take 2 (List.drop (i * 2) [.int .i64 0, .int .u32 7])), .bool false]], .pure (.int .i64 r4)⟩, ⟨(((r2 && r3) && (r4 == (-1))) && ((r1.length : Int) == 1)) && (((r1.getD (0 : Int).toNat default).fMetric) == 2), 22, [sL 14 c_TRoute r1, .int .u32 5], .pure (.int .i64 r5)⟩, ⟨((((r2 && r3) && (r4 == (-1))) && ((r1.length : Int) == 1)) && (((r1.getD (0 : Int).toNat default).fMetric) == 2)) && (r5 == 0), 13, [.agg [.int .u32 0, .int .i64 0, .int .i64 0, .int .i64 0, .int .i64 0, .int .i64 0, .int .i64 0, .int .i64 0, .int .i64 0, .sl false 1 0 (fun _ => []), .int .u32 0, .int .u32 0, .sl false 2 0 (fun _ => []), .bool false]], .pure (.bool r6)⟩] c13 ⟨fun _ => (route_Valid_ok (⟨(⟨0, 0⟩ : TPrefix), 4, 3, 120, 3, 0, 0, 0, ([] : List Int), 0, 0, ([(⟨0, 7⟩ : THop)] : List THop), false⟩ : TRoute) r2 q3).args (.cons (asub_agg (.cons CSub.rfl (.cons CSub.rfl (.cons CSub.rfl (.cons CSub.rfl (.cons CSub.rfl (.cons CSub.rfl (.cons CSub.rfl (.cons CSub.rfl (.cons CSub.rfl (.cons csub_nil (.cons CSub.rfl (.cons CSub.rfl (.cons (csub_sl rfl (fun i hi => match i, hi with | 0, _ => rfl | n + 1, h => absurd h (by omega))) (.cons CSub.rfl .nil))))))))))))))) .nil), fun hg => (route_Valid_ok (⟨(⟨0, 0⟩ : TPrefix), 4, 3, 120, 2, 0, 0, 0, ([] : List Int), 0, 0, ([(⟨1, 9⟩ : THop)] : List THop), false⟩ : TRoute) r3 (gc_some q5 hg)).args (.cons (asub_agg (.cons CSub.rfl (.cons CSub.rfl (.cons CSub.rfl (.cons CSub.rfl (.cons CSub.rfl (.cons CSub.rfl (.cons CSub.rfl (.cons CSub.rfl (.cons CSub.rfl (.cons csub_nil (.cons CSub.rfl (.cons CSub.rfl (.cons (csub_sl rfl (fun i hi => match i, hi with | 0, _ => rfl | n + 1, h => absurd h (by omega))) (.cons CSub.rfl .nil))))))))))))))) .nil), fun hg => (route_Prefer_ok (⟨(⟨0, 0⟩ : TPrefix), 4, 3, 120, 2, 0, 0, 0, ([] : List Int), 0, 0, ([(⟨1, 9⟩ : THop)] : List THop), false⟩ : TRoute) (⟨(⟨0, 0⟩ : TPrefix), 4, 3, 120, 3, 0, 0, 0, ([] : List Int), 0, 0, ([(⟨0, 7⟩ : THop)] : List THop), false⟩ : TRoute) r4 (gc_some q7 hg)).args (.cons (asub_agg (.cons CSub.rfl (.cons CSub.rfl (.cons CSub.rfl (.cons CSub.rfl (.cons CSub.rfl (.cons CSub.rfl (.cons CSub.rfl (.cons CSub.rfl (.cons CSub.rfl (.cons csub_nil (.cons CSub.rfl (.cons CSub.rfl (.cons (csub_sl rfl (fun i hi => match i, hi with | 0, _ => rfl | n + 1, h => absurd h (by omega))) (.cons CSub.rfl .nil))))))))))))))) (.cons (asub_agg (.cons CSub.rfl (.cons CSub.rfl (.cons CSub.rfl (.cons CSub.rfl (.cons CSub.rfl (.cons CSub.rfl (.cons CSub.rfl (.cons CSub.rfl (.cons CSub.rfl (.cons csub_nil (.cons CSub.rfl (.cons CSub.rfl (.cons (csub_sl rfl (fun i hi => match i, hi with | 0, _ => rfl | n + 1, h => absurd h (by omega))) (.cons CSub.rfl .nil))))))))))))))) .nil)), fun hg => route_Longest_ok r1 5 r5 (gc_some q9 hg), fun hg => (route_Valid_ok (⟨(⟨0, 0⟩ : TPrefix), 0, 0, 0, 0, 0, 0, 0, ([] : List Int), 0, 0, ([] : List THop), false⟩ : TRoute) r6 (gc_some q11 hg)).args (.cons (asub_agg (.cons CSub.rfl (.cons CSub.rfl (.cons CSub.rfl (.cons CSub.rfl (.cons CSub.rfl (.cons CSub.rfl (.cons CSub.rfl (.cons CSub.rfl (.cons CSub.rfl (.cons csub_nil (.cons CSub.rfl (.cons CSub.rfl (.cons csub_nil (.cons CSub.rfl .nil))))))))))))))) .nil), trivial⟩ ?_
 refine then_n (awp_ret ?_)
 obtain rfl := Option.some.inj h14
 exact er0 (.bool ((((((r2 && r3) && (r4 == (-1))) && ((r1.length : Int) == 1)) && (((r1.getD (0 : Int).toNat default).fMetric) == 2)) && (r5 == 0)) && (!r6)))

/- netverify/netverifylaw14.RouteBest -/
theorem law14_RouteBest_ok (a0 : List TRoute) (r : Bool) (h : M.law14_RouteBest a0 = some r) : Fn Try.prog 6 [sL 14 c_TRoute a0] (.pure (.bool r)) := by
 unfold M.law14_RouteBest at h
 refine fn_pure Try.func6 rfl (by kernel_rfl) ?_
 refine awp_seq (rg0 [0] 0 ⟨102, [(0, sL 14 c_TRoute a0)], []⟩ ?_)
 refine then_n (awp_seq (awp_seq ?_))
 obtain ⟨r1, q1, h2⟩ := bind_some h
 refine rg [.pure (.bool r1)] [0, 11] 0 ⟨102, [(0, sL 14 c_TRoute a0), (11, .bool (!r1))], []⟩ [] [⟨true, 16, [sL 14 c_TRoute a0], .pure (.bool r1)⟩] nil_all ⟨fun _ => law14_One_ok a0 r1 q1, trivial⟩ ?_
 refine then_n ?_
 refine cnd (!r1) (fun b3 => ?_) (fun b3 => ?_)
 have h4 := cond_t b3 h2
 refine awp_seq (rg0 [2] 0 ⟨102, [(2, .bool true)], []⟩ ?_)
 refine then_n (awp_ret (then_r ?_))
 obtain rfl := Option.some.inj h4
 exact er0 (.bool true)
 have h5 := cond_f b3 h2
 refine awp_skip (then_n (awp_seq ?_))
 obtain ⟨r2, q6, h7⟩ := bind_some h5
 refine rg [.pure (sL 14 c_TRoute r2)] [0, 3] 0 ⟨102, [(0, sL 14 c_TRoute a0), (3, sL 14 c_TRoute r2)], []⟩ [] [⟨true, 19, [sL 14 c_TRoute a0], .pure (sL 14 c_TRoute r2)⟩] nil_all ⟨fun _ => route_Merge_ok a0 r2 q6, trivial⟩ ?_
 refine then_n (awp_seq (awp_seq (rg0 [0, 3, 4] 0 ⟨102, [(0, sL 14 c_TRoute a0), (3, sL 14 c_TRoute r2), (4, .int .i64 0)], []⟩ ?_)))
 refine then_n (awp_block ?_)
 obtain ⟨y16, q57, h58⟩ := bind_some h7
 refine awp_le (s' := ⟨102, [(0, sL 14 c_TRoute a0), (3, sL 14 c_TRoute r2), (4, .int .i64 0)], []⟩) (le_rfl) ?_
 refine awp_mono (awp_loop (f := M.law14_RouteBest_l1 a0 r2) (S := fun (p3 : Int) => ⟨102, [(0, sL 14 c_TRoute a0), (3, sL 14 c_TRoute r2), (4, .int .i64 p3)], []⟩) (O := (Sum.elim (fun z => OutE 0 (fun z => ⟨102, [], []⟩) z) (fun z => OutR Try.prog Try.f6 (.bool z)))) ?_ (x := 0) (y := y16) (loopM_iter q57)) ?_
 intro p3 y4 h8
 unfold M.law14_RouteBest_l1 at h8
 refine awp_seq (awp_seq (rg0 [0, 3, 4, 17] 0 ⟨102, [(0, sL 14 c_TRoute a0), (3, sL 14 c_TRoute r2), (4, .int .i64 p3), (17, .bool (decide (p3 < (a0.length : Int))))], []⟩ ?_))
 refine then_n ?_
 refine cnd (decide (p3 < (a0.length : Int))) (fun b9 => ?_) (fun b9 => ?_)
 have h10 := cond_t b9 h8
 refine awp_skip (then_n (awp_seq (awp_block (awp_seq ?_))))
 obtain ⟨r5, q12, h13⟩ := bind_some h10
 obtain ⟨c14, h15⟩ := gd_some h13
 refine rg [.pure (.int .i64 r5)] [0, 3, 4, 5] 0 ⟨102, [(0, sL 14 c_TRoute a0), (3, sL 14 c_TRoute r2), (4, .int .i64 p3), (5, .int .i64 r5)], []⟩ [decide (0 ≤ p3), decide (p3 < (a0.length : Int))] [⟨true, 20, [sL 14 c_TRoute r2, .agg (c_TPrefix ((a0.getD p3.toNat default).fPrefix))], .pure (.int .i64 r5)⟩] c14 ⟨fun _ => ref15_Find_ok r2 ((a0.getD p3.toNat default).fPrefix) r5 q12, trivial⟩ ?_
 refine then_n (awp_seq (awp_seq ?_))
 obtain ⟨r6, q16, h17⟩ := bind_some h15
 obtain ⟨c18, h19⟩ := gd_some h17
 refine rg [.pure (.int .i64 r6)] [0, 3, 4, 5, 46] 0 ⟨102, [(0, sL 14 c_TRoute a0), (3, sL 14 c_TRoute r2), (4, .int .i64 p3), (5, .int .i64 r5), (46, .bool (((decide (r5 < 0)) || (decide (r5 ≥ (r2.length : Int)))) || (decide (r6 < 0))))], []⟩ [guardB (!((decide (r5 < 0)) || (decide (r5 ≥ (r2.length : Int))))) (decide (0 ≤ p3)), guardB (!((decide (r5 < 0)) || (decide (r5 ≥ (r2.length : Int))))) (decide (p3 < (a0.length : Int))), guardB (!((decide (r5 < 0)) || (decide (r5 ≥ (r2.length : Int))))) (decide (0 ≤ r5)), guardB (!((decide (r5 < 0)) || (decide (r5 ≥ (r2.length : Int))))) (decide (r5 < (r2.length : Int)))] [⟨(!((decide (r5 < 0)) || (decide (r5 ≥ (r2.length : Int))))), 18, [.agg (c_TRoute (a0.getD p3.toNat default)), .agg (c_TRoute (r2.getD r5.toNat default))], .pure (.int .i64 r6)⟩] c18 ⟨fun hg => ref15_Prefer_ok (a0.getD p3.toNat default) (r2.getD r5.toNat default) r6 (gc_some q16 hg), trivial⟩ ?_
 refine then_n ?_
 refine cnd (((decide (r5 < 0)) || (decide (r5 ≥ (r2.length : Int)))) || (decide (r6 < 0))) (fun b20 => ?_) (fun b20 => ?_)
 have h21 := cond_t b20 h19
 refine awp_seq (rg0 [2] 0 ⟨102, [(2, .bool false)], []⟩ ?_)
 refine then_n (awp_ret (then_r (inb_r (then_r ?_))))
 obtain rfl := Option.some.inj h21
 exact round_r ⟨rfl, er0 (.bool false)⟩
 have h22 := cond_f b20 h19
 refine awp_skip (then_n (awp_seq (rg0 [0, 3, 4, 5, 6] 0 ⟨102, [(0, sL 14 c_TRoute a0), (3, sL 14 c_TRoute r2), (4, .int .i64 p3), (5, .int .i64 r5), (6, .int .i64 0)], []⟩ ?_)))
 refine then_n (awp_block ?_)
 obtain ⟨y13, q48, h49⟩ := bind_some h22
 refine awp_le (s' := ⟨102, [(0, sL 14 c_TRoute a0), (3, sL 14 c_TRoute r2), (4, .int .i64 p3), (5, .int .i64 r5), (6, .int .i64 0)], []⟩) (le_rfl) ?_
 refine awp_mono (awp_loop (f := M.law14_RouteBest_l2 a0 r2 p3 r5) (S := fun (p7 : Int) => ⟨102, [(0, sL 14 c_TRoute a0), (3, sL 14 c_TRoute r2), (4, .int .i64 p3), (5, .int .i64 r5), (6, .int .i64 p7)], []⟩) (O := (Sum.elim (fun z => OutE 2 (fun z => ⟨102, [(0, sL 14 c_TRoute a0), (3, sL 14 c_TRoute r2), (4, .int .i64 p3)], []⟩) z) (fun z => OutR Try.prog Try.f6 (.bool z)))) ?_ (x := 0) (y := y13) (loopM_iter q48)) ?_
 intro p7 y8 h23
 unfold M.law14_RouteBest_l2 at h23
 refine awp_seq (awp_seq ?_)
 obtain ⟨r9, q24, h25⟩ := bind_some h23
 obtain ⟨c26, h27⟩ := gd_some h25
 refine rg [.pure (.int .i64 r9)] [0, 3, 4, 5, 6, 66] 0 ⟨102, [(0, sL 14 c_TRoute a0), (3, sL 14 c_TRoute r2), (4, .int .i64 p3), (5, .int .i64 r5), (6, .int .i64 p7), (66, .bool ((r9 == 0) && (decide (p7 < (((a0.getD p3.toNat default).fHops).length : Int)))))], []⟩ [decide (0 ≤ p3), decide (p3 < (a0.length : Int)), decide (0 ≤ r5), decide (r5 < (r2.length : Int)), guardB (r9 == 0) (decide (0 ≤ p3)), guardB (r9 == 0) (decide (p3 < (a0.length : Int)))] [⟨true, 18, [.agg (c_TRoute (a0.getD p3.toNat default)), .agg (c_TRoute (r2.getD r5.toNat default))], .pure (.int .i64 r9)⟩] c26 ⟨fun _ => ref15_Prefer_ok (a0.getD p3.toNat default) (r2.getD r5.toNat default) r9 q24, trivial⟩ ?_
 refine then_n ?_
 refine cnd ((r9 == 0) && (decide (p7 < (((a0.getD p3.toNat default).fHops).length : Int)))) (fun b28 => ?_) (fun b28 => ?_)
 have h29 := cond_t b28 h27
 refine awp_skip (then_n (awp_seq (awp_block (awp_seq (rg0 [0, 3, 4, 5, 6, 7] 0 ⟨102, [(0, sL 14 c_TRoute a0), (3, sL 14 c_TRoute r2), (4, .int .i64 p3), (5, .int .i64 r5), (6, .int .i64 p7), (7, .bool false)], []⟩ ?_)))))
 refine then_n (awp_seq (awp_seq (rg0 [0, 3, 4, 5, 6, 7, 8] 0 ⟨102, [(0, sL 14 c_TRoute a0), (3, sL 14 c_TRoute r2), (4, .int .i64 p3), (5, .int .i64 r5), (6, .int .i64 p7), (7, .bool false), (8, .int .i64 0)], []⟩ ?_)))
 refine then_n (awp_block ?_)
 obtain ⟨y12, q39, h40⟩ := bind_some h29
 refine awp_le (s' := ⟨102, [(0, sL 14 c_TRoute a0), (3, sL 14 c_TRoute r2), (4, .int .i64 p3), (5, .int .i64 r5), (6, .int .i64 p7), (7, .bool false), (8, .int .i64 0)], []⟩) (le_rfl) ?_
 refine awp_mono (awp_loop (f := M.law14_RouteBest_l3 a0 r2 p3 r5 p7) (S := fun (p10 : Bool × Int) => ⟨102, [(0, sL 14 c_TRoute a0), (3, sL 14 c_TRoute r2), (4, .int .i64 p3), (5, .int .i64 r5), (6, .int .i64 p7), (7, .bool p10.1), (8, .int .i64 p10.2)], []⟩) (O := (fun z => OutE 4 (fun z => ⟨102, [(0, sL 14 c_TRoute a0), (3, sL 14 c_TRoute r2), (4, .int .i64 p3), (5, .int .i64 r5), (6, .int .i64 p7), (7, .bool z)], []⟩) z)) ?_ (x := (false, 0)) (y := y12) (loopM_iter q39)) ?_
 intro p10 y11 h31
 unfold M.law14_RouteBest_l3 at h31
 refine awp_seq (awp_seq ?_)
 obtain ⟨c32, h33⟩ := gd_some h31
 refine rgc [0, 3, 4, 5, 6, 7, 8, 76] 0 ⟨102, [(0, sL 14 c_TRoute a0), (3, sL 14 c_TRoute r2), (4, .int .i64 p3), (5, .int .i64 r5), (6, .int .i64 p7), (7, .bool p10.1), (8, .int .i64 p10.2), (76, .bool (decide (p10.2 < (((r2.getD r5.toNat default).fHops).length : Int))))], []⟩ [decide (0 ≤ r5), decide (r5 < (r2.length : Int))] c32 ?_
 refine then_n ?_
 refine cnd (decide (p10.2 < (((r2.getD r5.toNat default).fHops).length : Int))) (fun b34 => ?_) (fun b34 => ?_)
 have h35 := cond_t b34 h33
 refine awp_skip (then_n (awp_seq (awp_block ?_)))
 obtain ⟨c37, h38⟩ := gd_some h35
 refine rgc [0, 3, 4, 5, 6, 7, 8] 0 ⟨102, [(0, sL 14 c_TRoute a0), (3, sL 14 c_TRoute r2), (4, .int .i64 p3), (5, .int .i64 r5), (6, .int .i64 p7), (7, .bool (p10.1 || ((((((r2.getD r5.toNat default).fHops).getD p10.2.toNat default).fIface) == ((((a0.getD p3.toNat default).fHops).getD p7.toNat default).fIface)) && ((((((r2.getD r5.toNat default).fHops).getD p10.2.toNat default).fAddr) == ((((a0.getD p3.toNat default).fHops).getD p7.toNat default).fAddr)) && true)))), (8, .int .i64 p10.2)], []⟩ [guardB (!p10.1) (decide (0 ≤ r5)), guardB (!p10.1) (decide (r5 < (r2.length : Int))), guardB (!p10.1) (decide (0 ≤ p10.2)), guardB (!p10.1) (decide (p10.2 < (((r2.getD r5.toNat default).fHops).length : Int))), guardB (!p10.1) (decide (0 ≤ p3)), guardB (!p10.1) (decide (p3 < (a0.length : Int))), guardB (!p10.1) (decide (0 ≤ p7)), guardB (!p10.1) (decide (p7 < (((a0.getD p3.toNat default).fHops).length : Int)))] c37 ?_
 refine inb_n (then_n (rg0 [0, 3, 4, 5, 6, 7, 8] 0 ⟨102, [(0, sL 14 c_TRoute a0), (3, sL 14 c_TRoute r2), (4, .int .i64 p3), (5, .int .i64 r5), (6, .int .i64 p7), (7, .bool (p10.1 || ((((((r2.getD r5.toNat default).fHops).getD p10.2.toNat default).fIface) == ((((a0.getD p3.toNat default).fHops).getD p7.toNat default).fIface)) && ((((((r2.getD r5.toNat default).fHops).getD p10.2.toNat default).fAddr) == ((((a0.getD p3.toNat default).fHops).getD p7.toNat default).fAddr)) && true)))), (8, .int .i64 (wr .i64 (p10.2 + 1)))], []⟩ ?_))
 obtain rfl := Option.some.inj h38
 exact round_n (le_rfl)
 have h36 := cond_f b34 h33
 refine awp_exit (then_e ?_)
 obtain rfl := Option.some.inj h36
 exact round_e ⟨rfl, kp [0, 3, 4, 5, 6, 7]⟩
 intro e41 s42 o43
 obtain ⟨rfl, l44⟩ := o43
 refine inb_here ?_
 refine then_le (s' := ⟨102, [(0, sL 14 c_TRoute a0), (3, sL 14 c_TRoute r2), (4, .int .i64 p3), (5, .int .i64 r5), (6, .int .i64 p7), (7, .bool y12)], []⟩) (l44) ?_
 refine awp_seq (rg0 [0, 3, 4, 5, 6, 100] 0 ⟨102, [(0, sL 14 c_TRoute a0), (3, sL 14 c_TRoute r2), (4, .int .i64 p3), (5, .int .i64 r5), (6, .int .i64 p7), (100, .bool (!y12))], []⟩ ?_)
 refine then_n ?_
 refine cnd (!y12) (fun b45 => ?_) (fun b45 => ?_)
 have h46 := cond_t b45 h40
 refine awp_seq (rg0 [2] 0 ⟨102, [(2, .bool false)], []⟩ ?_)
 refine then_n (awp_ret (inb_r (then_r ?_)))
 obtain rfl := Option.some.inj h46
 exact round_r ⟨rfl, er0 (.bool false)⟩
 have h47 := cond_f b45 h40
 refine awp_skip (inb_n (then_n (rg0 [0, 3, 4, 5, 6] 0 ⟨102, [(0, sL 14 c_TRoute a0), (3, sL 14 c_TRoute r2), (4, .int .i64 p3), (5, .int .i64 r5), (6, .int .i64 (wr .i64 (p7 + 1)))], []⟩ ?_)))
 obtain rfl := Option.some.inj h47
 exact round_n (le_rfl)
 have h30 := cond_f b28 h27
 refine awp_exit (then_e ?_)
 obtain rfl := Option.some.inj h30
 exact round_e ⟨rfl, kp [0, 3, 4]⟩
 intro e50 s51 o52
 rcases y13 with g14 | y15
 have h53 := elim_l h49
 obtain ⟨rfl, l55⟩ := o52
 refine inb_here (inb_n ?_)
 refine then_le (s' := ⟨102, [(0, sL 14 c_TRoute a0), (3, sL 14 c_TRoute r2), (4, .int .i64 p3)], []⟩) (l55) ?_
 refine rg0 [0, 3, 4] 0 ⟨102, [(0, sL 14 c_TRoute a0), (3, sL 14 c_TRoute r2), (4, .int .i64 (wr .i64 (p3 + 1)))], []⟩ ?_
 obtain rfl := Option.some.inj h53
 exact round_n (le_rfl)
 have h54 := elim_r h49
 obtain ⟨rfl, n56⟩ := o52
 refine inb_r (inb_r (then_r ?_))
 obtain rfl := Option.some.inj h54
 exact round_r ⟨rfl, n56⟩
 have h11 := cond_f b9 h8
 refine awp_exit (then_e ?_)
 obtain rfl := Option.some.inj h11
 exact round_e ⟨rfl, kp []⟩
 intro e59 s60 o61
 rcases y16 with g17 | y18
 have h62 := elim_l h58
 obtain ⟨rfl, l64⟩ := o61
 refine inb_here ?_
 refine then_le (s' := ⟨102, [], []⟩) (l64) ?_
 refine awp_seq ?_
 obtain ⟨r19, q65, h66⟩ := bind_some h62
 refine rg [.pure (.bool r19)] [2] 0 ⟨102, [(2, .bool r19)], []⟩ [] [⟨true, 15, [], .pure (.bool r19)⟩] nil_all ⟨fun _ => law14_sane_ok  r19 q65, trivial⟩ ?_
 refine then_n (awp_ret ?_)
 obtain rfl := Option.some.inj h66
 exact er0 (.bool r19)
 have h63 := elim_r h58
 obtain ⟨rfl, n67⟩ := o61
 refine inb_r (then_r ?_)
 obtain rfl := Option.some.inj h63
 exact n67
end Nv
