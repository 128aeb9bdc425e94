/- The walks: each function computes its mirror. -/
import Derived.Test.YtkonldpliejgpaaProg
import Derived.Test.YtkonldpliejgpaaNvD1
import Derived.Test.YtkonldpliejgpaaNvM1a
import Derived.Test.YtkonldpliejgpaaNvFrz
import Derived.KernelRfl
set_option maxRecDepth 100000
namespace Nv
open Go Go.Proofs
/- netverify/route.validPathVector -/
theorem route_validPathVector_ok (a0 : TRoute) (r : Bool) (h : M.route_validPathVector a0 = some r) : Fn Try.prog 38 [.agg (c_TRoute a0)] (.pure (.bool r)) := by
 unfold M.route_validPathVector at h
 refine fn_pure Try.func38 rfl (by kernel_rfl) ?_
 refine awp_seq (rg0 [1] 1 ⟨71, [(1, .ref 0 0)], [.box (c_TRoute a0)]⟩ ?_)
 refine then_n (awp_seq ?_)
 obtain ⟨r1, q1, h2⟩ := bind_some h
 obtain ⟨r2, q3, h4⟩ := bind_some h2
 refine rg [.pure (.bool r1), .pure (.bool r2)] [1, 3] 1 ⟨71, [(1, .ref 0 0), (3, .bool (r1 && r2))], [.box (c_TRoute a0)]⟩ [] [⟨true, 67, [.int .i64 a0.fMetric, .int .i64 0, .int .i64 16777215], .pure (.bool r1)⟩, ⟨r1, 67, [.int .i64 a0.fPref, .int .i64 0, .int .i64 1000000], .pure (.bool r2)⟩] nil_all ⟨fun _ => route_within_ok a0.fMetric 0 16777215 r1 q1, fun hg => route_within_ok a0.fPref 0 1000000 r2 (gc_some q3 hg), trivial⟩ ?_
 refine then_n (awp_seq (rg0 [1, 3] 1 ⟨71, [(1, .ref 0 0), (3, .bool (r1 && r2))], [.box [.int .u32 a0.fPrefix.fAddr, .int .i64 a0.fPrefix.fLen, .int .i64 a0.fProto, .int .i64 a0.fClass, .int .i64 a0.fAdmin, .int .i64 0, .int .i64 a0.fInner, .int .i64 a0.fTag, .int .i64 0, sL 1 (ci .i64) a0.fPath, .int .u32 a0.fFrom, .int .u32 a0.fNext, sL 2 c_THop a0.fHops, .bool a0.fDiscard]]⟩ ?_))
 refine then_n ?_
 refine awp_join (fun (p3 : Bool × (List Int) × Int × (List THop) × Bool) => ⟨71, [(1, .ref 0 0), (3, .bool p3.1)], [.box [.int .u32 a0.fPrefix.fAddr, .int .i64 a0.fPrefix.fLen, .int .i64 a0.fProto, .int .i64 a0.fClass, .int .i64 a0.fAdmin, .int .i64 0, .int .i64 a0.fInner, .int .i64 a0.fTag, .int .i64 0, sL 1 (ci .i64) p3.2.1, .int .u32 p3.2.2.1, .int .u32 a0.fNext, sL 2 c_THop p3.2.2.2.1, .bool p3.2.2.2.2]]⟩) (fun p3 => M.route_validPathVector_k1 a0 p3 = some r) ?_ ?_
 intro p3 h6
 unfold M.route_validPathVector_k1 at h6
 refine awp_seq ?_
 obtain ⟨r4, q7, h8⟩ := bind_some h6
 refine rg [.pure (.bool r4)] [2] 0 ⟨71, [(2, .bool (p3.1 && r4))], []⟩ [] [⟨p3.1, 34, [.agg [.int .u32 a0.fPrefix.fAddr, .int .i64 a0.fPrefix.fLen, .int .i64 a0.fProto, .int .i64 a0.fClass, .int .i64 a0.fAdmin, .int .i64 0, .int .i64 a0.fInner, .int .i64 a0.fTag, .int .i64 0, sL 1 (ci .i64) p3.2.1, .int .u32 p3.2.2.1, .int .u32 a0.fNext, sL 2 c_THop p3.2.2.2.1, .bool p3.2.2.2.2]], .pure (.bool r4)⟩] nil_all ⟨fun hg => route_bare_ok (⟨a0.fPrefix, a0.fProto, a0.fClass, a0.fAdmin, 0, a0.fInner, a0.fTag, 0, p3.2.1, p3.2.2.1, a0.fNext, p3.2.2.2.1, p3.2.2.2.2⟩ : TRoute) r4 (gc_some q7 hg), trivial⟩ ?_
 refine then_n (awp_ret ?_)
 obtain rfl := Option.some.inj h8
 exact er0 (.bool (p3.1 && r4))
 intro k5
 refine awp_seq (rg0 [1, 3, 15] 1 ⟨71, [(1, .ref 0 0), (3, .bool (r1 && r2)), (15, .int .i64 a0.fClass)], [.box [.int .u32 a0.fPrefix.fAddr, .int .i64 a0.fPrefix.fLen, .int .i64 a0.fProto, .int .i64 a0.fClass, .int .i64 a0.fAdmin, .int .i64 0, .int .i64 a0.fInner, .int .i64 a0.fTag, .int .i64 0, sL 1 (ci .i64) a0.fPath, .int .u32 a0.fFrom, .int .u32 a0.fNext, sL 2 c_THop a0.fHops, .bool a0.fDiscard]]⟩ ?_)
 refine then_n (awp_block (awp_seq (rg0 [1, 3, 15, 16] 1 ⟨71, [(1, .ref 0 0), (3, .bool (r1 && r2)), (15, .int .i64 a0.fClass), (16, .bool (a0.fClass == 1))], [.box [.int .u32 a0.fPrefix.fAddr, .int .i64 a0.fPrefix.fLen, .int .i64 a0.fProto, .int .i64 a0.fClass, .int .i64 a0.fAdmin, .int .i64 0, .int .i64 a0.fInner, .int .i64 a0.fTag, .int .i64 0, sL 1 (ci .i64) a0.fPath, .int .u32 a0.fFrom, .int .u32 a0.fNext, sL 2 c_THop a0.fHops, .bool a0.fDiscard]]⟩ ?_)))
 refine then_n ?_
 refine cnd (a0.fClass == 1) (fun b9 => ?_) (fun b9 => ?_)
 have h10 := cond_t b9 h4
 refine awp_skip (inb_n ?_)
 exact then_le (kp [1, 3]) (k5 (r1 && r2, a0.fPath, a0.fFrom, a0.fHops, a0.fDiscard) h10)
 have h11 := cond_f b9 h4
 refine awp_seq (rg0 [1, 3, 15, 18] 1 ⟨71, [(1, .ref 0 0), (3, .bool (r1 && r2)), (15, .int .i64 a0.fClass), (18, .bool (a0.fClass == 2))], [.box [.int .u32 a0.fPrefix.fAddr, .int .i64 a0.fPrefix.fLen, .int .i64 a0.fProto, .int .i64 a0.fClass, .int .i64 a0.fAdmin, .int .i64 0, .int .i64 a0.fInner, .int .i64 a0.fTag, .int .i64 0, sL 1 (ci .i64) a0.fPath, .int .u32 a0.fFrom, .int .u32 a0.fNext, sL 2 c_THop a0.fHops, .bool a0.fDiscard]]⟩ ?_)
 refine then_n ?_
 refine cnd (a0.fClass == 2) (fun b12 => ?_) (fun b12 => ?_)
 have h13 := cond_t b12 h11
 refine awp_seq (rg0 [1, 3] 1 ⟨71, [(1, .ref 0 0), (3, .bool ((r1 && r2) && a0.fDiscard))], [.box [.int .u32 a0.fPrefix.fAddr, .int .i64 a0.fPrefix.fLen, .int .i64 a0.fProto, .int .i64 a0.fClass, .int .i64 a0.fAdmin, .int .i64 0, .int .i64 a0.fInner, .int .i64 a0.fTag, .int .i64 0, sL 1 (ci .i64) a0.fPath, .int .u32 a0.fFrom, .int .u32 a0.fNext, sL 2 c_THop a0.fHops, .bool a0.fDiscard]]⟩ ?_)
 refine then_n (rg0 [1, 3] 1 ⟨71, [(1, .ref 0 0), (3, .bool ((r1 && r2) && a0.fDiscard))], [.box [.int .u32 a0.fPrefix.fAddr, .int .i64 a0.fPrefix.fLen, .int .i64 a0.fProto, .int .i64 a0.fClass, .int .i64 a0.fAdmin, .int .i64 0, .int .i64 a0.fInner, .int .i64 a0.fTag, .int .i64 0, sL 1 (ci .i64) a0.fPath, .int .u32 a0.fFrom, .int .u32 a0.fNext, sL 2 c_THop a0.fHops, .bool false]]⟩ ?_)
 refine inb_n ?_
 exact then_le (le_rfl) (k5 ((r1 && r2) && a0.fDiscard, a0.fPath, a0.fFrom, a0.fHops, false) h13)
 have h14 := cond_f b12 h11
 refine awp_join (fun (p5 : Bool) => ⟨71, [(1, .ref 0 0), (3, .bool (r1 && r2)), (26, .bool p5)], [.box [.int .u32 a0.fPrefix.fAddr, .int .i64 a0.fPrefix.fLen, .int .i64 a0.fProto, .int .i64 a0.fClass, .int .i64 a0.fAdmin, .int .i64 0, .int .i64 a0.fInner, .int .i64 a0.fTag, .int .i64 0, sL 1 (ci .i64) a0.fPath, .int .u32 a0.fFrom, .int .u32 a0.fNext, sL 2 c_THop a0.fHops, .bool a0.fDiscard]]⟩) (fun p5 => M.route_validPathVector_k2 a0 r1 r2 p5 = some r) ?_ ?_
 intro p5 h16
 unfold M.route_validPathVector_k2 at h16
 refine cnd p5 (fun b17 => ?_) (fun b17 => ?_)
 have h18 := cond_t b17 h16
 refine awp_seq ?_
 obtain ⟨c20, h21⟩ := gd_some h18
 refine rgc [1, 3] 1 ⟨71, [(1, .ref 0 0), (3, .bool ((((r1 && r2) && (a0.fFrom != 0)) && ((a0.fHops.length : Int) == 1)) && (((a0.fHops.getD (0 : Int).toNat default).fAddr) == a0.fFrom)))], [.box [.int .u32 a0.fPrefix.fAddr, .int .i64 a0.fPrefix.fLen, .int .i64 a0.fProto, .int .i64 a0.fClass, .int .i64 a0.fAdmin, .int .i64 0, .int .i64 a0.fInner, .int .i64 a0.fTag, .int .i64 0, sL 1 (ci .i64) a0.fPath, .int .u32 a0.fFrom, .int .u32 a0.fNext, sL 2 c_THop a0.fHops, .bool a0.fDiscard]]⟩ [guardB (((r1 && r2) && (a0.fFrom != 0)) && ((a0.fHops.length : Int) == 1)) (decide (0 ≤ 0)), guardB (((r1 && r2) && (a0.fFrom != 0)) && ((a0.fHops.length : Int) == 1)) (decide (0 < (a0.fHops.length : Int)))] c20 ?_
 refine then_n (awp_seq (rg0 [1, 3] 1 ⟨71, [(1, .ref 0 0), (3, .bool (((((r1 && r2) && (a0.fFrom != 0)) && ((a0.fHops.length : Int) == 1)) && (((a0.fHops.getD (0 : Int).toNat default).fAddr) == a0.fFrom)) && ((a0.fClass == 4) || (decide ((a0.fPath.length : Int) > 0)))))], [.box [.int .u32 a0.fPrefix.fAddr, .int .i64 a0.fPrefix.fLen, .int .i64 a0.fProto, .int .i64 a0.fClass, .int .i64 a0.fAdmin, .int .i64 0, .int .i64 a0.fInner, .int .i64 a0.fTag, .int .i64 0, sL 1 (ci .i64) a0.fPath, .int .u32 a0.fFrom, .int .u32 a0.fNext, sL 2 c_THop a0.fHops, .bool a0.fDiscard]]⟩ ?_))
 refine then_n (rg0 [1, 3] 1 ⟨71, [(1, .ref 0 0), (3, .bool (((((r1 && r2) && (a0.fFrom != 0)) && ((a0.fHops.length : Int) == 1)) && (((a0.fHops.getD (0 : Int).toNat default).fAddr) == a0.fFrom)) && ((a0.fClass == 4) || (decide ((a0.fPath.length : Int) > 0)))))], [.box [.int .u32 a0.fPrefix.fAddr, .int .i64 a0.fPrefix.fLen, .int .i64 a0.fProto, .int .i64 a0.fClass, .int .i64 a0.fAdmin, .int .i64 0, .int .i64 a0.fInner, .int .i64 a0.fTag, .int .i64 0, .sl true 1 0 (fun _ => []), .int .u32 0, .int .u32 a0.fNext, .sl true 2 0 (fun _ => []), .bool a0.fDiscard]]⟩ ?_)
 refine inb_n ?_
 exact then_le (le_sub (.cons Sub.rfl (.cons Sub.rfl .nil)) (.cons (.box (.cons CSub.rfl (.cons CSub.rfl (.cons CSub.rfl (.cons CSub.rfl (.cons CSub.rfl (.cons CSub.rfl (.cons CSub.rfl (.cons CSub.rfl (.cons CSub.rfl (.cons csub_nil (.cons CSub.rfl (.cons CSub.rfl (.cons csub_nil (.cons CSub.rfl .nil))))))))))))))) .nil)) (k5 (((((r1 && r2) && (a0.fFrom != 0)) && ((a0.fHops.length : Int) == 1)) && (((a0.fHops.getD (0 : Int).toNat default).fAddr) == a0.fFrom)) && ((a0.fClass == 4) || (decide ((a0.fPath.length : Int) > 0))), ([] : List Int), 0, ([] : List THop), a0.fDiscard) h21)
 have h19 := cond_f b17 h16
 refine rg0 [1, 3] 1 ⟨71, [(1, .ref 0 0), (3, .bool false)], [.box [.int .u32 a0.fPrefix.fAddr, .int .i64 a0.fPrefix.fLen, .int .i64 a0.fProto, .int .i64 a0.fClass, .int .i64 a0.fAdmin, .int .i64 0, .int .i64 a0.fInner, .int .i64 a0.fTag, .int .i64 0, sL 1 (ci .i64) a0.fPath, .int .u32 a0.fFrom, .int .u32 a0.fNext, sL 2 c_THop a0.fHops, .bool a0.fDiscard]]⟩ ?_
 refine inb_n ?_
 exact then_le (le_rfl) (k5 (false, a0.fPath, a0.fFrom, a0.fHops, a0.fDiscard) h19)
 intro k15
 refine awp_seq (rg0 [1, 3, 15, 26] 1 ⟨71, [(1, .ref 0 0), (3, .bool (r1 && r2)), (15, .int .i64 a0.fClass), (26, .bool (a0.fClass == 3))], [.box [.int .u32 a0.fPrefix.fAddr, .int .i64 a0.fPrefix.fLen, .int .i64 a0.fProto, .int .i64 a0.fClass, .int .i64 a0.fAdmin, .int .i64 0, .int .i64 a0.fInner, .int .i64 a0.fTag, .int .i64 0, sL 1 (ci .i64) a0.fPath, .int .u32 a0.fFrom, .int .u32 a0.fNext, sL 2 c_THop a0.fHops, .bool a0.fDiscard]]⟩ ?_)
 refine then_n ?_
 refine cnd (a0.fClass == 3) (fun b22 => ?_) (fun b22 => ?_)
 have h23 := cond_t b22 h14
 refine awp_skip ?_
 exact then_le (kp [1, 3, 26]) (k15 (a0.fClass == 3) h23)
 have h24 := cond_f b22 h14
 refine rg0 [1, 3, 26] 1 ⟨71, [(1, .ref 0 0), (3, .bool (r1 && r2)), (26, .bool (a0.fClass == 4))], [.box [.int .u32 a0.fPrefix.fAddr, .int .i64 a0.fPrefix.fLen, .int .i64 a0.fProto, .int .i64 a0.fClass, .int .i64 a0.fAdmin, .int .i64 0, .int .i64 a0.fInner, .int .i64 a0.fTag, .int .i64 0, sL 1 (ci .i64) a0.fPath, .int .u32 a0.fFrom, .int .u32 a0.fNext, sL 2 c_THop a0.fHops, .bool a0.fDiscard]]⟩ ?_
 exact then_le (le_rfl) (k15 (a0.fClass == 4) h24)

/- netverify/route.Valid -/
theorem route_Valid_ok (a0 : TRoute) (r : Bool) (h : M.route_Valid a0 = some r) : Fn Try.prog 13 [.agg (c_TRoute a0)] (.pure (.bool r)) := by
 unfold M.route_Valid at h
 refine fn_pure Try.func13 rfl (by kernel_rfl) ?_
 refine awp_seq (rg0 [1] 1 ⟨60, [(1, .ref 0 0)], [.box (c_TRoute a0)]⟩ ?_)
 refine then_n (awp_seq (awp_seq ?_))
 obtain ⟨r1, q1, h2⟩ := bind_some h
 refine rg [.pure (.bool r1)] [1, 6] 1 ⟨60, [(1, .ref 0 0), (6, .bool (!r1))], [.box (c_TRoute a0)]⟩ [] [⟨true, 32, [.agg (c_TRoute a0)], .pure (.bool r1)⟩] nil_all ⟨fun _ => route_common_ok a0 r1 q1, trivial⟩ ?_
 refine then_n ?_
 refine cnd (!r1) (fun b3 => ?_) (fun b3 => ?_)
 have h4 := cond_t b3 h2
 refine awp_seq (rg0 [2] 0 ⟨60, [(2, .bool false)], []⟩ ?_)
 refine then_n (awp_ret (then_r ?_))
 obtain rfl := Option.some.inj h4
 exact er0 (.bool false)
 have h5 := cond_f b3 h2
 refine awp_skip (then_n (awp_seq (awp_seq (rg0 [1, 9] 1 ⟨60, [(1, .ref 0 0), (9, .bool (a0.fProto == 1))], [.box (c_TRoute a0)]⟩ ?_))))
 refine then_n ?_
 refine cnd (a0.fProto == 1) (fun b6 => ?_) (fun b6 => ?_)
 have h7 := cond_t b6 h5
 refine awp_seq ?_
 obtain ⟨r2, q9, h10⟩ := bind_some h7
 refine rg [.pure (.bool r2)] [1, 3] 1 ⟨60, [(1, .ref 0 0), (3, .bool ((((a0.fClass == 0) && (a0.fAdmin == 0)) && (a0.fTag == 0)) && r2))], [.box (c_TRoute a0)]⟩ [] [⟨((a0.fClass == 0) && (a0.fAdmin == 0)) && (a0.fTag == 0), 33, [sL 2 c_THop a0.fHops], .pure (.bool r2)⟩] nil_all ⟨fun hg => route_direct_ok a0.fHops r2 (gc_some q9 hg), trivial⟩ ?_
 refine then_n (awp_seq (rg0 [1, 3] 1 ⟨60, [(1, .ref 0 0), (3, .bool ((((a0.fClass == 0) && (a0.fAdmin == 0)) && (a0.fTag == 0)) && r2))], [.box [.int .u32 a0.fPrefix.fAddr, .int .i64 a0.fPrefix.fLen, .int .i64 a0.fProto, .int .i64 a0.fClass, .int .i64 a0.fAdmin, .int .i64 a0.fMetric, .int .i64 a0.fInner, .int .i64 a0.fTag, .int .i64 a0.fPref, sL 1 (ci .i64) a0.fPath, .int .u32 a0.fFrom, .int .u32 a0.fNext, .sl true 2 0 (fun _ => []), .bool a0.fDiscard]]⟩ ?_))
 refine then_n (awp_seq ?_)
 obtain ⟨r3, q11, h12⟩ := bind_some h10
 refine rg [.pure (.bool r3)] [2] 0 ⟨60, [(2, .bool (((((a0.fClass == 0) && (a0.fAdmin == 0)) && (a0.fTag == 0)) && r2) && r3))], []⟩ [] [⟨(((a0.fClass == 0) && (a0.fAdmin == 0)) && (a0.fTag == 0)) && r2, 34, [.agg [.int .u32 a0.fPrefix.fAddr, .int .i64 a0.fPrefix.fLen, .int .i64 a0.fProto, .int .i64 a0.fClass, .int .i64 a0.fAdmin, .int .i64 a0.fMetric, .int .i64 a0.fInner, .int .i64 a0.fTag, .int .i64 a0.fPref, sL 1 (ci .i64) a0.fPath, .int .u32 a0.fFrom, .int .u32 a0.fNext, .sl false 2 0 (fun _ => []), .bool a0.fDiscard]], .pure (.bool r3)⟩] nil_all ⟨fun hg => (route_bare_ok (⟨a0.fPrefix, a0.fProto, a0.fClass, a0.fAdmin, a0.fMetric, a0.fInner, a0.fTag, a0.fPref, a0.fPath, a0.fFrom, a0.fNext, ([] : List THop), a0.fDiscard⟩ : TRoute) r3 (gc_some q11 hg)).args (.cons (asub_agg (.cons CSub.rfl (.cons CSub.rfl (.cons CSub.rfl (.cons CSub.rfl (.cons CSub.rfl (.cons CSub.rfl (.cons CSub.rfl (.cons CSub.rfl (.cons CSub.rfl (.cons CSub.rfl (.cons CSub.rfl (.cons CSub.rfl (.cons csub_nil (.cons CSub.rfl .nil))))))))))))))) .nil), trivial⟩ ?_
 refine then_n (awp_ret (then_r ?_))
 obtain rfl := Option.some.inj h12
 exact er0 (.bool (((((a0.fClass == 0) && (a0.fAdmin == 0)) && (a0.fTag == 0)) && r2) && r3))
 have h8 := cond_f b6 h5
 refine awp_skip (then_n (awp_seq (awp_seq (rg0 [1, 41] 1 ⟨60, [(1, .ref 0 0), (41, .bool ((decide (a0.fAdmin < 1)) || (decide (a0.fAdmin > 255))))], [.box (c_TRoute a0)]⟩ ?_))))
 refine then_n ?_
 refine cnd ((decide (a0.fAdmin < 1)) || (decide (a0.fAdmin > 255))) (fun b13 => ?_) (fun b13 => ?_)
 have h14 := cond_t b13 h8
 refine awp_seq (rg0 [2] 0 ⟨60, [(2, .bool false)], []⟩ ?_)
 refine then_n (awp_ret (then_r ?_))
 obtain rfl := Option.some.inj h14
 exact er0 (.bool false)
 have h15 := cond_f b13 h8
 refine awp_skip (then_n (awp_seq (awp_seq (rg0 [1, 43] 1 ⟨60, [(1, .ref 0 0), (43, .int .i64 a0.fProto)], [.box (c_TRoute a0)]⟩ ?_))))
 refine then_n (awp_block (awp_seq (rg0 [1, 43, 44] 1 ⟨60, [(1, .ref 0 0), (43, .int .i64 a0.fProto), (44, .bool (a0.fProto == 2))], [.box (c_TRoute a0)]⟩ ?_)))
 refine then_n ?_
 refine cnd (a0.fProto == 2) (fun b16 => ?_) (fun b16 => ?_)
 have h17 := cond_t b16 h15
 refine awp_seq ?_
 obtain ⟨r4, q19, h20⟩ := bind_some h17
 refine rg [.pure (.bool r4)] [2] 0 ⟨60, [(2, .bool r4)], []⟩ [] [⟨true, 35, [.agg (c_TRoute a0)], .pure (.bool r4)⟩] nil_all ⟨fun _ => route_validStatic_ok a0 r4 q19, trivial⟩ ?_
 refine then_n (awp_ret (inb_r (then_r ?_)))
 obtain rfl := Option.some.inj h20
 exact er0 (.bool r4)
 have h18 := cond_f b16 h15
 refine awp_seq (rg0 [1, 43, 48] 1 ⟨60, [(1, .ref 0 0), (43, .int .i64 a0.fProto), (48, .bool (a0.fProto == 3))], [.box (c_TRoute a0)]⟩ ?_)
 refine then_n ?_
 refine cnd (a0.fProto == 3) (fun b21 => ?_) (fun b21 => ?_)
 have h22 := cond_t b21 h18
 refine awp_seq ?_
 obtain ⟨r5, q24, h25⟩ := bind_some h22
 refine rg [.pure (.bool r5)] [2] 0 ⟨60, [(2, .bool r5)], []⟩ [] [⟨true, 36, [.agg (c_TRoute a0)], .pure (.bool r5)⟩] nil_all ⟨fun _ => route_validLinkState_ok a0 r5 q24, trivial⟩ ?_
 refine then_n (awp_ret (inb_r (then_r ?_)))
 obtain rfl := Option.some.inj h25
 exact er0 (.bool r5)
 have h23 := cond_f b21 h18
 refine awp_seq (rg0 [1, 43, 52] 1 ⟨60, [(1, .ref 0 0), (43, .int .i64 a0.fProto), (52, .bool (a0.fProto == 4))], [.box (c_TRoute a0)]⟩ ?_)
 refine then_n ?_
 refine cnd (a0.fProto == 4) (fun b26 => ?_) (fun b26 => ?_)
 have h27 := cond_t b26 h23
 refine awp_seq ?_
 obtain ⟨r6, q29, h30⟩ := bind_some h27
 refine rg [.pure (.bool r6)] [2] 0 ⟨60, [(2, .bool r6)], []⟩ [] [⟨true, 37, [.agg (c_TRoute a0)], .pure (.bool r6)⟩] nil_all ⟨fun _ => route_validDistance_ok a0 r6 q29, trivial⟩ ?_
 refine then_n (awp_ret (inb_r (then_r ?_)))
 obtain rfl := Option.some.inj h30
 exact er0 (.bool r6)
 have h28 := cond_f b26 h23
 refine awp_seq (rg0 [1, 56] 1 ⟨60, [(1, .ref 0 0), (56, .bool (a0.fProto == 5))], [.box (c_TRoute a0)]⟩ ?_)
 refine then_n ?_
 refine cnd (a0.fProto == 5) (fun b31 => ?_) (fun b31 => ?_)
 have h32 := cond_t b31 h28
 refine awp_seq ?_
 obtain ⟨r7, q34, h35⟩ := bind_some h32
 refine rg [.pure (.bool r7)] [2] 0 ⟨60, [(2, .bool r7)], []⟩ [] [⟨true, 38, [.agg (c_TRoute a0)], .pure (.bool r7)⟩] nil_all ⟨fun _ => route_validPathVector_ok a0 r7 q34, trivial⟩ ?_
 refine then_n (awp_ret (inb_r (then_r ?_)))
 obtain rfl := Option.some.inj h35
 exact er0 (.bool r7)
 have h33 := cond_f b31 h28
 refine awp_skip (inb_n (then_n (awp_seq (rg0 [2] 0 ⟨60, [(2, .bool false)], []⟩ ?_))))
 refine then_n (awp_ret ?_)
 obtain rfl := Option.some.inj h33
 exact er0 (.bool false)

/- netverify/netverifylaw14.sane -/
theorem law14_sane_ok  (r : Bool) (h : M.law14_sane  = some r) : Fn Try.prog 15 [] (.pure (.bool r)) := by
 unfold M.law14_sane at h
 refine fn_pure Try.func15 rfl (by kernel_rfl) ?_
 refine awp_seq (rg0 [] 0 ⟨50, [], []⟩ ?_)
 refine then_n (awp_seq (rg0 [1] 1 ⟨50, [(1, .ref 0 0)], [.box [.int .u32 0, .int .i64 0, .int .i64 4, .int .i64 3, .int .i64 120, .int .i64 3, .int .i64 0, .int .i64 0, .int .i64 0, .sl true 1 0 (fun _ => []), .int .u32 0, .int .u32 0, .sl true 2 1 (fun i => List.take 2 (List.drop (i * 2) [.int .i64 0, .int .u32 7])), .bool false]]⟩ ?_))
 refine then_n (awp_seq (rg0 [1, 2] 2 ⟨50, [(1, .ref 0 0), (2, .ref 1 0)], [.box [.int .u32 0, .int .i64 0, .int .i64 4, .int .i64 3, .int .i64 120, .int .i64 3, .int .i64 0, .int .i64 0, .int .i64 0, .sl true 1 0 (fun _ => []), .int .u32 0, .int .u32 0, .sl true 2 1 (fun i => List.take 2 (List.drop (i * 2) [.int .i64 0, .int .u32 7])), .bool false], .box [.int .u32 0, .int .i64 0, .int .i64 4, .int .i64 3, .int .i64 120, .int .i64 3, .int .i64 0, .int .i64 0, .int .i64 0, .sl true 1 0 (fun _ => []), .int .u32 0, .int .u32 0, .sl true 2 1 (fun i => List.take 2 (List.drop (i * 2) [.int .i64 0, .int .u32 7])), .bool false]]⟩ ?_))
 refine then_n (awp_seq (rg0 [1, 2] 2 ⟨50, [(1, .ref 0 0), (2, .ref 1 0)], [.box [.int .u32 0, .int .i64 0, .int .i64 4, .int .i64 3, .int .i64 120, .int .i64 3, .int .i64 0, .int .i64 0, .int .i64 0, .sl true 1 0 (fun _ => []), .int .u32 0, .int .u32 0, .sl true 2 1 (fun i => List.take 2 (List.drop (i * 2) [.int .i64 0, .int .u32 7])), .bool false], .box [.int .u32 0, .int .i64 0, .int .i64 4, .int .i64 3, .int .i64 120, .int .i64 2, .int .i64 0, .int .i64 0, .int .i64 0, .sl true 1 0 (fun _ => []), .int .u32 0, .int .u32 0, .sl true 2 1 (fun i => List.take 2 (List.drop (i * 2) [.int .i64 1, .int .u32 9])), .bool false]]⟩ ?_))
 refine then_n (awp_seq ?_)
 obtain ⟨r1, q1, h2⟩ := bind_some h
 refine rg [.pure (sL 14 c_TRoute r1)] [1, 2, 3] 2 ⟨50, [(1, .ref 0 0), (2, .ref 1 0), (3, sL 14 c_TRoute r1)], [.box [.int .u32 0, .int .i64 0, .int .i64 4, .int .i64 3, .int .i64 120, .int .i64 3, .int .i64 0, .int .i64 0, .int .i64 0, .sl true 1 0 (fun _ => []), .int .u32 0, .int .u32 0, .sl true 2 1 (fun i => List.take 2 (List.drop (i * 2) [.int .i64 0, .int .u32 7])), .bool false], .box [.int .u32 0, .int .i64 0, .int .i64 4, .int .i64 3, .int .i64 120, .int .i64 2, .int .i64 0, .int .i64 0, .int .i64 0, .sl true 1 0 (fun _ => []), .int .u32 0, .int .u32 0, .sl true 2 1 (fun i => List.take 2 (List.drop (i * 2) [.int .i64 1, .int .u32 9])), .bool false]]⟩ [] [⟨true, 19, [.sl false 14 2 (fun i => List.take 14 (List.drop (i * 14) [.int .u32 0, .int .i64 0, .int .i64 4, .int .i64 3, .int .i64 120, .int .i64 3, .int .i64 0, .int .i64 0, .int .i64 0, .sl true 1 0 (fun _ => []), .int .u32 0, .int .u32 0, .sl true 2 1 (fun i => List.take 2 (List.drop (i * 2) [.int .i64 0, .int .u32 7])), .bool false, .int .u32 0, .int .i64 0, .int .i64 4, .int .i64 3, .int .i64 120, .int .i64 2, .int .i64 0, .int .i64 0, .int .i64 0, .sl true 1 0 (fun _ => []), .int .u32 0, .int .u32 0, .sl true 2 1 (fun i => List.take 2 (List.drop (i * 2) [.int .i64 1, .int .u32 9])), .bool false]))], .pure (sL 14 c_TRoute r1)⟩] nil_all ⟨fun _ => (route_Merge_ok ([(⟨(⟨0, 0⟩ : TPrefix), 4, 3, 120, 3, 0, 0, 0, ([] : List Int), 0, 0, ([(⟨0, 7⟩ : THop)] : List THop), false⟩ : TRoute), (⟨(⟨0, 0⟩ : TPrefix), 4, 3, 120, 2, 0, 0, 0, ([] : List Int), 0, 0, ([(⟨1, 9⟩ : THop)] : List THop), false⟩ : TRoute)] : List TRoute) r1 q1).args (.cons (asub_psl rfl (fun i hi => match i, hi with | 0, _ => (.cons PSub.rfl (.cons PSub.rfl (.cons PSub.rfl (.cons PSub.rfl (.cons PSub.rfl (.cons PSub.rfl (.cons PSub.rfl (.cons PSub.rfl (.cons PSub.rfl (.cons psub_nil (.cons PSub.rfl (.cons PSub.rfl (.cons (psub_sl rfl (fun i hi => match i, hi with | 0, _ => (.cons PSub.rfl (.cons PSub.rfl .nil)) | n + 1, h => absurd h (by omega))) (.cons PSub.rfl .nil)))))))))))))) | 1, _ => (.cons PSub.rfl (.cons PSub.rfl (.cons PSub.rfl (.cons PSub.rfl (.cons PSub.rfl (.cons PSub.rfl (.cons PSub.rfl (.cons PSub.rfl (.cons PSub.rfl (.cons psub_nil (.cons PSub.rfl (.cons PSub.rfl (.cons (psub_sl rfl (fun i hi => match i, hi with | 0, _ => (.cons PSub.rfl (.cons PSub.rfl .nil)) | n + 1, h => absurd h (by omega))) (.cons PSub.rfl .nil)))))))))))))) | n + 2, h => absurd h (by omega))) .nil), trivial⟩ ?_
 refine then_n (awp_seq ?_)
 obtain ⟨r2, q3, h4⟩ := bind_some h2
 obtain ⟨r3, q5, h6⟩ := bind_some h4
 obtain ⟨r4, q7, h8⟩ := bind_some h6
 obtain ⟨r5, q9, h10⟩ := bind_some h8
 obtain ⟨r6, q11, h12⟩ := bind_some h10
 obtain ⟨c13, h14⟩ := gd_some h12
 refine rg [.pure (.bool r2), .pure (.bool r3), .pure (.int .i64 r4), .pure (.int .i64 r5), .pure (.bool r6)] [0] 0 ⟨50, [(0, .bool ((((((r2 && r3) && (r4 == (-1))) && ((r1.length : Int) == 1)) && (((r1.getD (0 : Int).toNat default).fMetric) == 2)) && (r5 == 0)) && (!r6)))], []⟩ [guardB (((r2 && r3) && (r4 == (-1))) && ((r1.length : Int) == 1)) (decide (0 ≤ 0)), guardB (((r2 && r3) && (r4 == (-1))) && ((r1.length : Int) == 1)) (decide (0 < (r1.length : Int)))] [⟨true, 13, [.agg [.int .u32 0, .int .i64 0, .int .i64 4, .int .i64 3, .int .i64 120, .int .i64 3, .int .i64 0, .int .i64 0, .int .i64 0, .sl false 1 0 (fun _ => []), .int .u32 0, .int .u32 0, .sl false 2 1 (fun i => List.take 2 (List.drop (i * 2) [.int .i64 0, .int .u32 7])), .bool false]], .pure (.bool r2)⟩, ⟨r2, 13, [.agg [.int .u32 0, .int .i64 0, .int .i64 4, .int .i64 3, .int .i64 120, .int .i64 2, .int .i64 0, .int .i64 0, .int .i64 0, .sl false 1 0 (fun _ => []), .int .u32 0, .int .u32 0, .sl false 2 1 (fun i => List.take 2 (List.drop (i * 2) [.int .i64 1, .int .u32 9])), .bool false]], .pure (.bool r3)⟩, ⟨r2 && r3, 17, [.agg [.int .u32 0, .int .i64 0, .int .i64 4, .int .i64 3, .int .i64 120, .int .i64 2, .int .i64 0, .int .i64 0, .int .i64 0, .sl false 1 0 (fun _ => []), .int .u32 0, .int .u32 0, .sl false 2 1 (fun i => List.take 2 (List.drop (i * 2) [.int .i64 1, .int .u32 9])), .bool false], .agg [.int .u32 0, .int .i64 0, .int .i64 4, .int .i64 3, .int .i64 120, .int .i64 3, .int .i64 0, .int .i64 0, .int .i64 0, .sl false 1 0 (fun _ => []), .int .u32 0, .int .u32 0, .sl false 2 1 (fun i => List.take 2 (List.drop (i * 2) [.int .i64 0, .int .u32 7])), .bool false]], .pure (.int .i64 r4)⟩, ⟨(((r2 && r3) && (r4 == (-1))) && ((r1.length : Int) == 1)) && (((r1.getD (0 : Int).toNat default).fMetric) == 2), 22, [sL 14 c_TRoute r1, .int .u32 5], .pure (.int .i64 r5)⟩, ⟨((((r2 && r3) && (r4 == (-1))) && ((r1.length : Int) == 1)) && (((r1.getD (0 : Int).toNat default).fMetric) == 2)) && (r5 == 0), 13, [.agg [.int .u32 0, .int .i64 0, .int .i64 0, .int .i64 0, .int .i64 0, .int .i64 0, .int .i64 0, .int .i64 0, .int .i64 0, .sl false 1 0 (fun _ => []), .int .u32 0, .int .u32 0, .sl false 2 0 (fun _ => []), .bool false]], .pure (.bool r6)⟩] c13 ⟨fun _ => (route_Valid_ok (⟨(⟨0, 0⟩ : TPrefix), 4, 3, 120, 3, 0, 0, 0, ([] : List Int), 0, 0, ([(⟨0, 7⟩ : THop)] : List THop), false⟩ : TRoute) r2 q3).args (.cons (asub_agg (.cons CSub.rfl (.cons CSub.rfl (.cons CSub.rfl (.cons CSub.rfl (.cons CSub.rfl (.cons CSub.rfl (.cons CSub.rfl (.cons CSub.rfl (.cons CSub.rfl (.cons csub_nil (.cons CSub.rfl (.cons CSub.rfl (.cons (csub_sl rfl (fun i hi => match i, hi with | 0, _ => rfl | n + 1, h => absurd h (by omega))) (.cons CSub.rfl .nil))))))))))))))) .nil), fun hg => (route_Valid_ok (⟨(⟨0, 0⟩ : TPrefix), 4, 3, 120, 2, 0, 0, 0, ([] : List Int), 0, 0, ([(⟨1, 9⟩ : THop)] : List THop), false⟩ : TRoute) r3 (gc_some q5 hg)).args (.cons (asub_agg (.cons CSub.rfl (.cons CSub.rfl (.cons CSub.rfl (.cons CSub.rfl (.cons CSub.rfl (.cons CSub.rfl (.cons CSub.rfl (.cons CSub.rfl (.cons CSub.rfl (.cons csub_nil (.cons CSub.rfl (.cons CSub.rfl (.cons (csub_sl rfl (fun i hi => match i, hi with | 0, _ => rfl | n + 1, h => absurd h (by omega))) (.cons CSub.rfl .nil))))))))))))))) .nil), fun hg => (route_Prefer_ok (⟨(⟨0, 0⟩ : TPrefix), 4, 3, 120, 2, 0, 0, 0, ([] : List Int), 0, 0, ([(⟨1, 9⟩ : THop)] : List THop), false⟩ : TRoute) (⟨(⟨0, 0⟩ : TPrefix), 4, 3, 120, 3, 0, 0, 0, ([] : List Int), 0, 0, ([(⟨0, 7⟩ : THop)] : List THop), false⟩ : TRoute) r4 (gc_some q7 hg)).args (.cons (asub_agg (.cons CSub.rfl (.cons CSub.rfl (.cons CSub.rfl (.cons CSub.rfl (.cons CSub.rfl (.cons CSub.rfl (.cons CSub.rfl (.cons CSub.rfl (.cons CSub.rfl (.cons csub_nil (.cons CSub.rfl (.cons CSub.rfl (.cons (csub_sl rfl (fun i hi => match i, hi with | 0, _ => rfl | n + 1, h => absurd h (by omega))) (.cons CSub.rfl .nil))))))))))))))) (.cons (asub_agg (.cons CSub.rfl (.cons CSub.rfl (.cons CSub.rfl (.cons CSub.rfl (.cons CSub.rfl (.cons CSub.rfl (.cons CSub.rfl (.cons CSub.rfl (.cons CSub.rfl (.cons csub_nil (.cons CSub.rfl (.cons CSub.rfl (.cons (csub_sl rfl (fun i hi => match i, hi with | 0, _ => rfl | n + 1, h => absurd h (by omega))) (.cons CSub.rfl .nil))))))))))))))) .nil)), fun hg => route_Longest_ok r1 5 r5 (gc_some q9 hg), fun hg => (route_Valid_ok (⟨(⟨0, 0⟩ : TPrefix), 0, 0, 0, 0, 0, 0, 0, ([] : List Int), 0, 0, ([] : List THop), false⟩ : TRoute) r6 (gc_some q11 hg)).args (.cons (asub_agg (.cons CSub.rfl (.cons CSub.rfl (.cons CSub.rfl (.cons CSub.rfl (.cons CSub.rfl (.cons CSub.rfl (.cons CSub.rfl (.cons CSub.rfl (.cons CSub.rfl (.cons csub_nil (.cons CSub.rfl (.cons CSub.rfl (.cons csub_nil (.cons CSub.rfl .nil))))))))))))))) .nil), trivial⟩ ?_
 refine then_n (awp_ret ?_)
 obtain rfl := Option.some.inj h14
 exact er0 (.bool ((((((r2 && r3) && (r4 == (-1))) && ((r1.length : Int) == 1)) && (((r1.getD (0 : Int).toNat default).fMetric) == 2)) && (r5 == 0)) && (!r6)))

/- netverify/netverifylaw14.RouteLongest -/
theorem law14_RouteLongest_ok (a0 : List TRoute) (a1 : Int) (r : Bool) (h : M.law14_RouteLongest a0 a1 = some r) : Fn Try.prog 7 [sL 14 c_TRoute a0, .int .u32 a1] (.pure (.bool r)) := by
 unfold M.law14_RouteLongest at h
 refine fn_pure Try.func7 rfl (by kernel_rfl) ?_
 refine awp_seq (rg0 [0, 1] 0 ⟨73, [(0, sL 14 c_TRoute a0), (1, .int .u32 a1)], []⟩ ?_)
 refine then_n (awp_seq (awp_seq ?_))
 obtain ⟨r1, q1, h2⟩ := bind_some h
 obtain ⟨r2, q3, h4⟩ := bind_some h2
 refine rg [.pure (.bool r1), .pure (.bool r2)] [0, 1, 14] 0 ⟨73, [(0, sL 14 c_TRoute a0), (1, .int .u32 a1), (14, .bool ((!r1) || (!r2)))], []⟩ [] [⟨true, 12, [sL 14 c_TRoute a0], .pure (.bool r1)⟩, ⟨(!(!r1)), 21, [sL 14 c_TRoute a0, .int .i64 0], .pure (.bool r2)⟩] nil_all ⟨fun _ => law14_few_ok a0 r1 q1, fun hg => ref15_Table_ok a0 0 r2 (gc_some q3 hg), trivial⟩ ?_
 refine then_n ?_
 refine cnd ((!r1) || (!r2)) (fun b5 => ?_) (fun b5 => ?_)
 have h6 := cond_t b5 h4
 refine awp_seq (rg0 [4] 0 ⟨73, [(4, .bool true)], []⟩ ?_)
 refine then_n (awp_ret (then_r ?_))
 obtain rfl := Option.some.inj h6
 exact er0 (.bool true)
 have h7 := cond_f b5 h4
 refine awp_skip (then_n (awp_seq ?_))
 obtain ⟨r3, q8, h9⟩ := bind_some h7
 refine rg [.pure (.int .i64 r3)] [0, 1, 5] 0 ⟨73, [(0, sL 14 c_TRoute a0), (1, .int .u32 a1), (5, .int .i64 r3)], []⟩ [] [⟨true, 22, [sL 14 c_TRoute a0, .int .u32 a1], .pure (.int .i64 r3)⟩] nil_all ⟨fun _ => route_Longest_ok a0 a1 r3 q8, trivial⟩ ?_
 refine then_n (awp_seq (awp_seq ?_))
 obtain ⟨r4, q10, h11⟩ := bind_some h9
 obtain ⟨c12, h13⟩ := gd_some h11
 refine rg [.pure (.bool r4)] [0, 1, 5, 39] 0 ⟨73, [(0, sL 14 c_TRoute a0), (1, .int .u32 a1), (5, .int .i64 r3), (39, .bool (((decide (r3 < (-1))) || (decide (r3 ≥ (a0.length : Int)))) || ((decide (r3 ≥ 0)) && (!r4))))], []⟩ [guardB ((!((decide (r3 < (-1))) || (decide (r3 ≥ (a0.length : Int))))) && (decide (r3 ≥ 0))) (decide (0 ≤ r3)), guardB ((!((decide (r3 < (-1))) || (decide (r3 ≥ (a0.length : Int))))) && (decide (r3 ≥ 0))) (decide (r3 < (a0.length : Int)))] [⟨((!((decide (r3 < (-1))) || (decide (r3 ≥ (a0.length : Int))))) && (decide (r3 ≥ 0))), 23, [.agg (c_TPrefix ((a0.getD r3.toNat default).fPrefix)), .int .u32 a1], .pure (.bool r4)⟩] c12 ⟨fun hg => ref4_Contains_ok ((a0.getD r3.toNat default).fPrefix) a1 r4 (gc_some q10 hg), trivial⟩ ?_
 refine then_n ?_
 refine cnd (((decide (r3 < (-1))) || (decide (r3 ≥ (a0.length : Int)))) || ((decide (r3 ≥ 0)) && (!r4))) (fun b14 => ?_) (fun b14 => ?_)
 have h15 := cond_t b14 h13
 refine awp_seq (rg0 [4] 0 ⟨73, [(4, .bool false)], []⟩ ?_)
 refine then_n (awp_ret (then_r ?_))
 obtain rfl := Option.some.inj h15
 exact er0 (.bool false)
 have h16 := cond_f b14 h13
 refine awp_skip (then_n (awp_seq (awp_seq (rg0 [0, 1, 5, 6] 0 ⟨73, [(0, sL 14 c_TRoute a0), (1, .int .u32 a1), (5, .int .i64 r3), (6, .int .i64 0)], []⟩ ?_))))
 refine then_n (awp_block ?_)
 obtain ⟨y8, q28, h29⟩ := bind_some h16
 refine awp_le (s' := ⟨73, [(0, sL 14 c_TRoute a0), (1, .int .u32 a1), (5, .int .i64 r3), (6, .int .i64 0)], []⟩) (le_rfl) ?_
 refine awp_mono (awp_loop (f := M.law14_RouteLongest_l1 a0 a1 r3) (S := fun (p5 : Int) => ⟨73, [(0, sL 14 c_TRoute a0), (1, .int .u32 a1), (5, .int .i64 r3), (6, .int .i64 p5)], []⟩) (O := (Sum.elim (fun z => OutE 0 (fun z => ⟨73, [], []⟩) z) (fun z => OutR Try.prog Try.f7 (.bool z)))) ?_ (x := 0) (y := y8) (loopM_iter q28)) ?_
 intro p5 y6 h17
 unfold M.law14_RouteLongest_l1 at h17
 refine awp_seq (awp_seq (rg0 [0, 1, 5, 6, 43] 0 ⟨73, [(0, sL 14 c_TRoute a0), (1, .int .u32 a1), (5, .int .i64 r3), (6, .int .i64 p5), (43, .bool (decide (p5 < (a0.length : Int))))], []⟩ ?_))
 refine then_n ?_
 refine cnd (decide (p5 < (a0.length : Int))) (fun b18 => ?_) (fun b18 => ?_)
 have h19 := cond_t b18 h17
 refine awp_skip (then_n (awp_seq (awp_block (awp_seq ?_))))
 obtain ⟨r7, q21, h22⟩ := bind_some h19
 obtain ⟨c23, h24⟩ := gd_some h22
 refine rg [.pure (.bool r7)] [0, 1, 5, 6, 71] 0 ⟨73, [(0, sL 14 c_TRoute a0), (1, .int .u32 a1), (5, .int .i64 r3), (6, .int .i64 p5), (71, .bool (r7 && ((decide (r3 < 0)) || (decide ((((a0.getD p5.toNat default).fPrefix).fLen) > (((a0.getD r3.toNat default).fPrefix).fLen))))))], []⟩ [decide (0 ≤ p5), decide (p5 < (a0.length : Int)), guardB (r7 && !(decide (r3 < 0))) (decide (0 ≤ p5)), guardB (r7 && !(decide (r3 < 0))) (decide (p5 < (a0.length : Int))), guardB (r7 && !(decide (r3 < 0))) (decide (0 ≤ r3)), guardB (r7 && !(decide (r3 < 0))) (decide (r3 < (a0.length : Int)))] [⟨true, 23, [.agg (c_TPrefix ((a0.getD p5.toNat default).fPrefix)), .int .u32 a1], .pure (.bool r7)⟩] c23 ⟨fun _ => ref4_Contains_ok ((a0.getD p5.toNat default).fPrefix) a1 r7 q21, trivial⟩ ?_
 refine then_n ?_
 refine cnd (r7 && ((decide (r3 < 0)) || (decide ((((a0.getD p5.toNat default).fPrefix).fLen) > (((a0.getD r3.toNat default).fPrefix).fLen))))) (fun b25 => ?_) (fun b25 => ?_)
 have h26 := cond_t b25 h24
 refine awp_seq (rg0 [4] 0 ⟨73, [(4, .bool false)], []⟩ ?_)
 refine then_n (awp_ret (inb_r (then_r ?_)))
 obtain rfl := Option.some.inj h26
 exact round_r ⟨rfl, er0 (.bool false)⟩
 have h27 := cond_f b25 h24
 refine awp_skip (inb_n (then_n (rg0 [0, 1, 5, 6] 0 ⟨73, [(0, sL 14 c_TRoute a0), (1, .int .u32 a1), (5, .int .i64 r3), (6, .int .i64 (wr .i64 (p5 + 1)))], []⟩ ?_)))
 obtain rfl := Option.some.inj h27
 exact round_n (le_rfl)
 have h20 := cond_f b18 h17
 refine awp_exit (then_e ?_)
 obtain rfl := Option.some.inj h20
 exact round_e ⟨rfl, kp []⟩
 intro e30 s31 o32
 rcases y8 with g9 | y10
 have h33 := elim_l h29
 obtain ⟨rfl, l35⟩ := o32
 refine inb_here ?_
 refine then_le (s' := ⟨73, [], []⟩) (l35) ?_
 refine awp_seq ?_
 obtain ⟨r11, q36, h37⟩ := bind_some h33
 refine rg [.pure (.bool r11)] [4] 0 ⟨73, [(4, .bool r11)], []⟩ [] [⟨true, 15, [], .pure (.bool r11)⟩] nil_all ⟨fun _ => law14_sane_ok  r11 q36, trivial⟩ ?_
 refine then_n (awp_ret ?_)
 obtain rfl := Option.some.inj h37
 exact er0 (.bool r11)
 have h34 := elim_r h29
 obtain ⟨rfl, n38⟩ := o32
 refine inb_r (then_r ?_)
 obtain rfl := Option.some.inj h34
 exact n38
end Nv
