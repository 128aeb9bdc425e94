/- The walks: each function computes its mirror. -/
import Derived.Test.YtkonldpliejgpaaProg
import Derived.Test.YtkonldpliejgpaaNvD1
import Derived.Test.YtkonldpliejgpaaNvM1a
import Derived.Test.YtkonldpliejgpaaNvFrz
import Derived.KernelRfl
set_option maxRecDepth 100000
namespace Nv
open Go Go.Proofs
/- netverify/route.mergeOne -/
theorem route_mergeOne_ok (a0 : List TRoute) (r : TRoute) (h : M.route_mergeOne a0 = some r) : Fn Try.prog 56 [sL 14 c_TRoute a0] (.pure (.agg (c_TRoute r))) := by
 unfold M.route_mergeOne at h
 refine fn_pure Try.func56 rfl (by kernel_rfl) ?_
 refine awp_seq (rg0 [0, 2] 1 ⟨50, [(0, sL 14 c_TRoute a0), (2, .ref 0 0)], [.box [.int .u32 0, .int .i64 0, .int .i64 0, .int .i64 0, .int .i64 0, .int .i64 0, .int .i64 0, .int .i64 0, .int .i64 0, .sl true 1 0 (fun _ => []), .int .u32 0, .int .u32 0, .sl true 2 0 (fun _ => []), .bool false]]⟩ ?_)
 refine then_n (awp_seq ?_)
 obtain ⟨c1, h2⟩ := gd_some h
 refine rgc [0, 2, 3] 2 ⟨50, [(0, sL 14 c_TRoute a0), (2, .ref 0 0), (3, .ref 1 0)], [.box [.int .u32 0, .int .i64 0, .int .i64 0, .int .i64 0, .int .i64 0, .int .i64 0, .int .i64 0, .int .i64 0, .int .i64 0, .sl true 1 0 (fun _ => []), .int .u32 0, .int .u32 0, .sl true 2 0 (fun _ => []), .bool false], .box (c_TRoute (a0.getD (0 : Int).toNat default))]⟩ [decide (0 ≤ 0), decide (0 < (a0.length : Int))] c1 ?_
 refine then_n (awp_seq (awp_seq ?_))
 obtain ⟨c3, h4⟩ := gd_some h2
 refine rgc [0, 2, 3, 13, 14, 15] 2 ⟨50, [(0, sL 14 c_TRoute a0), (2, .ref 0 0), (3, .ref 1 0), (13, .sl false 14 (a0.length - 1) (fun i => c_TRoute (a0.getD (1 + i) default))), (14, .int .i64 ((a0.length - 1 : Nat) : Int)), (15, .int .i64 0)], [.box [.int .u32 0, .int .i64 0, .int .i64 0, .int .i64 0, .int .i64 0, .int .i64 0, .int .i64 0, .int .i64 0, .int .i64 0, .sl true 1 0 (fun _ => []), .int .u32 0, .int .u32 0, .sl true 2 0 (fun _ => []), .bool false], .box (c_TRoute (a0.getD (0 : Int).toNat default))]⟩ [decide (0 ≤ 1), decide (1 ≤ (a0.length : Int))] c3 ?_
 refine then_le (s' := ⟨50, [(0, sL 14 c_TRoute a0), (2, .ref 0 0), (3, .ref 1 0), (13, sL 14 c_TRoute ((a0.drop 1).take (a0.length - 1))), (14, .int .i64 ((a0.length - 1 : Nat) : Int)), (15, .int .i64 0)], [.box [.int .u32 0, .int .i64 0, .int .i64 0, .int .i64 0, .int .i64 0, .int .i64 0, .int .i64 0, .int .i64 0, .int .i64 0, .sl true 1 0 (fun _ => []), .int .u32 0, .int .u32 0, .sl true 2 0 (fun _ => []), .bool false], .box (c_TRoute (a0.getD (0 : Int).toNat default))]⟩) (le_sub (.cons Sub.rfl (.cons Sub.rfl (.cons Sub.rfl (.cons (sub_sl (len_cut _ _ _ (Nat.le_refl _)) (cut_ext _ _ _ _)) (.cons Sub.rfl (.cons Sub.rfl .nil)))))) (.cons .rfl (.cons .rfl .nil))) ?_
 refine awp_block ?_
 obtain ⟨y5, q18, h19⟩ := bind_some h4
 refine awp_le (s' := ⟨50, [(0, sL 14 c_TRoute a0), (2, .ref 0 0), (3, .ref 1 0), (13, sL 14 c_TRoute ((a0.drop 1).take (a0.length - 1))), (14, .int .i64 ((a0.length - 1 : Nat) : Int)), (15, .int .i64 0)], [.box [.int .u32 0, .int .i64 0, .int .i64 0, .int .i64 0, .int .i64 0, .int .i64 0, .int .i64 0, .int .i64 0, .int .i64 0, .sl true 1 0 (fun _ => []), .int .u32 0, .int .u32 0, .sl true 2 0 (fun _ => []), .bool false], .box (c_TRoute (a0.getD (0 : Int).toNat default))]⟩) (le_rfl) ?_
 refine awp_mono (awp_loop (f := M.route_mergeOne_l1 a0) (S := fun (p1 : Int × Int × Int × Int × Int × Int × Int × Int × Int × (List Int) × Int × Int × (List THop) × Bool × Int) => ⟨50, [(0, sL 14 c_TRoute a0), (2, .ref 0 0), (3, .ref 1 0), (13, sL 14 c_TRoute ((a0.drop 1).take (a0.length - 1))), (14, .int .i64 ((a0.length - 1 : Nat) : Int)), (15, .int .i64 p1.2.2.2.2.2.2.2.2.2.2.2.2.2.2)], [.box [.int .u32 0, .int .i64 0, .int .i64 0, .int .i64 0, .int .i64 0, .int .i64 0, .int .i64 0, .int .i64 0, .int .i64 0, .sl true 1 0 (fun _ => []), .int .u32 0, .int .u32 0, .sl true 2 0 (fun _ => []), .bool false], .box [.int .u32 p1.1, .int .i64 p1.2.1, .int .i64 p1.2.2.1, .int .i64 p1.2.2.2.1, .int .i64 p1.2.2.2.2.1, .int .i64 p1.2.2.2.2.2.1, .int .i64 p1.2.2.2.2.2.2.1, .int .i64 p1.2.2.2.2.2.2.2.1, .int .i64 p1.2.2.2.2.2.2.2.2.1, sL 1 (ci .i64) p1.2.2.2.2.2.2.2.2.2.1, .int .u32 p1.2.2.2.2.2.2.2.2.2.2.1, .int .u32 p1.2.2.2.2.2.2.2.2.2.2.2.1, sL 2 c_THop p1.2.2.2.2.2.2.2.2.2.2.2.2.1, .bool p1.2.2.2.2.2.2.2.2.2.2.2.2.2.1]]⟩) (O := (fun z => OutE 0 (fun z => ⟨50, [(0, sL 14 c_TRoute a0), (2, .ref 0 0), (3, .ref 1 0)], [.box [.int .u32 0, .int .i64 0, .int .i64 0, .int .i64 0, .int .i64 0, .int .i64 0, .int .i64 0, .int .i64 0, .int .i64 0, .sl true 1 0 (fun _ => []), .int .u32 0, .int .u32 0, .sl true 2 0 (fun _ => []), .bool false], .box [.int .u32 z.1, .int .i64 z.2.1, .int .i64 z.2.2.1, .int .i64 z.2.2.2.1, .int .i64 z.2.2.2.2.1, .int .i64 z.2.2.2.2.2.1, .int .i64 z.2.2.2.2.2.2.1, .int .i64 z.2.2.2.2.2.2.2.1, .int .i64 z.2.2.2.2.2.2.2.2.1, sL 1 (ci .i64) z.2.2.2.2.2.2.2.2.2.1, .int .u32 z.2.2.2.2.2.2.2.2.2.2.1, .int .u32 z.2.2.2.2.2.2.2.2.2.2.2.1, sL 2 c_THop z.2.2.2.2.2.2.2.2.2.2.2.2.1, .bool z.2.2.2.2.2.2.2.2.2.2.2.2.2]]⟩) z)) ?_ (x := (((a0.getD (0 : Int).toNat default).fPrefix).fAddr, ((a0.getD (0 : Int).toNat default).fPrefix).fLen, (a0.getD (0 : Int).toNat default).fProto, (a0.getD (0 : Int).toNat default).fClass, (a0.getD (0 : Int).toNat default).fAdmin, (a0.getD (0 : Int).toNat default).fMetric, (a0.getD (0 : Int).toNat default).fInner, (a0.getD (0 : Int).toNat default).fTag, (a0.getD (0 : Int).toNat default).fPref, (a0.getD (0 : Int).toNat default).fPath, (a0.getD (0 : Int).toNat default).fFrom, (a0.getD (0 : Int).toNat default).fNext, (a0.getD (0 : Int).toNat default).fHops, (a0.getD (0 : Int).toNat default).fDiscard, 0)) (y := y5) (loopM_iter q18)) ?_
 intro p1 y2 h5
 unfold M.route_mergeOne_l1 at h5
 refine awp_seq (rg0 [0, 2, 3, 13, 14, 15, 16] 2 ⟨50, [(0, sL 14 c_TRoute a0), (2, .ref 0 0), (3, .ref 1 0), (13, sL 14 c_TRoute ((a0.drop 1).take (a0.length - 1))), (14, .int .i64 ((a0.length - 1 : Nat) : Int)), (15, .int .i64 p1.2.2.2.2.2.2.2.2.2.2.2.2.2.2), (16, .bool (decide (p1.2.2.2.2.2.2.2.2.2.2.2.2.2.2 < ((a0.length - 1 : Nat) : Int))))], [.box [.int .u32 0, .int .i64 0, .int .i64 0, .int .i64 0, .int .i64 0, .int .i64 0, .int .i64 0, .int .i64 0, .int .i64 0, .sl true 1 0 (fun _ => []), .int .u32 0, .int .u32 0, .sl true 2 0 (fun _ => []), .bool false], .box [.int .u32 p1.1, .int .i64 p1.2.1, .int .i64 p1.2.2.1, .int .i64 p1.2.2.2.1, .int .i64 p1.2.2.2.2.1, .int .i64 p1.2.2.2.2.2.1, .int .i64 p1.2.2.2.2.2.2.1, .int .i64 p1.2.2.2.2.2.2.2.1, .int .i64 p1.2.2.2.2.2.2.2.2.1, sL 1 (ci .i64) p1.2.2.2.2.2.2.2.2.2.1, .int .u32 p1.2.2.2.2.2.2.2.2.2.2.1, .int .u32 p1.2.2.2.2.2.2.2.2.2.2.2.1, sL 2 c_THop p1.2.2.2.2.2.2.2.2.2.2.2.2.1, .bool p1.2.2.2.2.2.2.2.2.2.2.2.2.2.1]]⟩ ?_)
 refine then_n (awp_seq ?_)
 refine cnd (decide (p1.2.2.2.2.2.2.2.2.2.2.2.2.2.2 < ((a0.length - 1 : Nat) : Int))) (fun b6 => ?_) (fun b6 => ?_)
 have h7 := cond_t b6 h5
 refine awp_skip (then_n ?_)
 refine awp_join (fun (p3 : Int × Int × Int × Int × Int × Int × Int × Int × Int × (List Int) × Int × Int × (List THop) × Bool) => ⟨50, [(0, sL 14 c_TRoute a0), (2, .ref 0 0), (3, .ref 1 0), (13, sL 14 c_TRoute ((a0.drop 1).take (a0.length - 1))), (14, .int .i64 ((a0.length - 1 : Nat) : Int)), (15, .int .i64 p1.2.2.2.2.2.2.2.2.2.2.2.2.2.2)], [.box [.int .u32 0, .int .i64 0, .int .i64 0, .int .i64 0, .int .i64 0, .int .i64 0, .int .i64 0, .int .i64 0, .int .i64 0, .sl true 1 0 (fun _ => []), .int .u32 0, .int .u32 0, .sl true 2 0 (fun _ => []), .bool false], .box [.int .u32 p3.1, .int .i64 p3.2.1, .int .i64 p3.2.2.1, .int .i64 p3.2.2.2.1, .int .i64 p3.2.2.2.2.1, .int .i64 p3.2.2.2.2.2.1, .int .i64 p3.2.2.2.2.2.2.1, .int .i64 p3.2.2.2.2.2.2.2.1, .int .i64 p3.2.2.2.2.2.2.2.2.1, sL 1 (ci .i64) p3.2.2.2.2.2.2.2.2.2.1, .int .u32 p3.2.2.2.2.2.2.2.2.2.2.1, .int .u32 p3.2.2.2.2.2.2.2.2.2.2.2.1, sL 2 c_THop p3.2.2.2.2.2.2.2.2.2.2.2.2.1, .bool p3.2.2.2.2.2.2.2.2.2.2.2.2.2]]⟩) (fun p3 => M.route_mergeOne_k1 p1 p3 = some y2) ?_ ?_
 intro p3 h10
 unfold M.route_mergeOne_k1 at h10
 refine rg0 [0, 2, 3, 13, 14, 15] 2 ⟨50, [(0, sL 14 c_TRoute a0), (2, .ref 0 0), (3, .ref 1 0), (13, sL 14 c_TRoute ((a0.drop 1).take (a0.length - 1))), (14, .int .i64 ((a0.length - 1 : Nat) : Int)), (15, .int .i64 (wr .i64 (p1.2.2.2.2.2.2.2.2.2.2.2.2.2.2 + 1)))], [.box [.int .u32 0, .int .i64 0, .int .i64 0, .int .i64 0, .int .i64 0, .int .i64 0, .int .i64 0, .int .i64 0, .int .i64 0, .sl true 1 0 (fun _ => []), .int .u32 0, .int .u32 0, .sl true 2 0 (fun _ => []), .bool false], .box [.int .u32 p3.1, .int .i64 p3.2.1, .int .i64 p3.2.2.1, .int .i64 p3.2.2.2.1, .int .i64 p3.2.2.2.2.1, .int .i64 p3.2.2.2.2.2.1, .int .i64 p3.2.2.2.2.2.2.1, .int .i64 p3.2.2.2.2.2.2.2.1, .int .i64 p3.2.2.2.2.2.2.2.2.1, sL 1 (ci .i64) p3.2.2.2.2.2.2.2.2.2.1, .int .u32 p3.2.2.2.2.2.2.2.2.2.2.1, .int .u32 p3.2.2.2.2.2.2.2.2.2.2.2.1, sL 2 c_THop p3.2.2.2.2.2.2.2.2.2.2.2.2.1, .bool p3.2.2.2.2.2.2.2.2.2.2.2.2.2]]⟩ ?_
 obtain rfl := Option.some.inj h10
 exact round_n (le_rfl)
 intro k9
 refine awp_block (awp_seq ?_)
 obtain ⟨c11, h12⟩ := gd_some h7
 refine rgc [0, 2, 3, 5, 13, 14, 15] 3 ⟨50, [(0, sL 14 c_TRoute a0), (2, .ref 0 0), (3, .ref 1 0), (5, .ref 2 0), (13, sL 14 c_TRoute ((a0.drop 1).take (a0.length - 1))), (14, .int .i64 ((a0.length - 1 : Nat) : Int)), (15, .int .i64 p1.2.2.2.2.2.2.2.2.2.2.2.2.2.2)], [.box [.int .u32 0, .int .i64 0, .int .i64 0, .int .i64 0, .int .i64 0, .int .i64 0, .int .i64 0, .int .i64 0, .int .i64 0, .sl true 1 0 (fun _ => []), .int .u32 0, .int .u32 0, .sl true 2 0 (fun _ => []), .bool false], .box [.int .u32 p1.1, .int .i64 p1.2.1, .int .i64 p1.2.2.1, .int .i64 p1.2.2.2.1, .int .i64 p1.2.2.2.2.1, .int .i64 p1.2.2.2.2.2.1, .int .i64 p1.2.2.2.2.2.2.1, .int .i64 p1.2.2.2.2.2.2.2.1, .int .i64 p1.2.2.2.2.2.2.2.2.1, sL 1 (ci .i64) p1.2.2.2.2.2.2.2.2.2.1, .int .u32 p1.2.2.2.2.2.2.2.2.2.2.1, .int .u32 p1.2.2.2.2.2.2.2.2.2.2.2.1, sL 2 c_THop p1.2.2.2.2.2.2.2.2.2.2.2.2.1, .bool p1.2.2.2.2.2.2.2.2.2.2.2.2.2.1], .box (c_TRoute (((a0.drop 1).take (a0.length - 1)).getD p1.2.2.2.2.2.2.2.2.2.2.2.2.2.2.toNat default))]⟩ [decide (0 ≤ p1.2.2.2.2.2.2.2.2.2.2.2.2.2.2), decide (p1.2.2.2.2.2.2.2.2.2.2.2.2.2.2 < (((a0.drop 1).take (a0.length - 1)).length : Int))] c11 ?_
 refine then_n (awp_seq ?_)
 obtain ⟨r4, q13, h14⟩ := bind_some h12
 refine rg [.pure (.int .i64 r4)] [0, 2, 3, 5, 13, 14, 15, 22] 3 ⟨50, [(0, sL 14 c_TRoute a0), (2, .ref 0 0), (3, .ref 1 0), (5, .ref 2 0), (13, sL 14 c_TRoute ((a0.drop 1).take (a0.length - 1))), (14, .int .i64 ((a0.length - 1 : Nat) : Int)), (15, .int .i64 p1.2.2.2.2.2.2.2.2.2.2.2.2.2.2), (22, .bool (decide (r4 < 0)))], [.box [.int .u32 0, .int .i64 0, .int .i64 0, .int .i64 0, .int .i64 0, .int .i64 0, .int .i64 0, .int .i64 0, .int .i64 0, .sl true 1 0 (fun _ => []), .int .u32 0, .int .u32 0, .sl true 2 0 (fun _ => []), .bool false], .box [.int .u32 p1.1, .int .i64 p1.2.1, .int .i64 p1.2.2.1, .int .i64 p1.2.2.2.1, .int .i64 p1.2.2.2.2.1, .int .i64 p1.2.2.2.2.2.1, .int .i64 p1.2.2.2.2.2.2.1, .int .i64 p1.2.2.2.2.2.2.2.1, .int .i64 p1.2.2.2.2.2.2.2.2.1, sL 1 (ci .i64) p1.2.2.2.2.2.2.2.2.2.1, .int .u32 p1.2.2.2.2.2.2.2.2.2.2.1, .int .u32 p1.2.2.2.2.2.2.2.2.2.2.2.1, sL 2 c_THop p1.2.2.2.2.2.2.2.2.2.2.2.2.1, .bool p1.2.2.2.2.2.2.2.2.2.2.2.2.2.1], .box (c_TRoute (((a0.drop 1).take (a0.length - 1)).getD p1.2.2.2.2.2.2.2.2.2.2.2.2.2.2.toNat default))]⟩ [] [⟨true, 17, [.agg (c_TRoute (((a0.drop 1).take (a0.length - 1)).getD p1.2.2.2.2.2.2.2.2.2.2.2.2.2.2.toNat default)), .agg [.int .u32 p1.1, .int .i64 p1.2.1, .int .i64 p1.2.2.1, .int .i64 p1.2.2.2.1, .int .i64 p1.2.2.2.2.1, .int .i64 p1.2.2.2.2.2.1, .int .i64 p1.2.2.2.2.2.2.1, .int .i64 p1.2.2.2.2.2.2.2.1, .int .i64 p1.2.2.2.2.2.2.2.2.1, sL 1 (ci .i64) p1.2.2.2.2.2.2.2.2.2.1, .int .u32 p1.2.2.2.2.2.2.2.2.2.2.1, .int .u32 p1.2.2.2.2.2.2.2.2.2.2.2.1, sL 2 c_THop p1.2.2.2.2.2.2.2.2.2.2.2.2.1, .bool p1.2.2.2.2.2.2.2.2.2.2.2.2.2.1]], .pure (.int .i64 r4)⟩] nil_all ⟨fun _ => route_Prefer_ok (((a0.drop 1).take (a0.length - 1)).getD p1.2.2.2.2.2.2.2.2.2.2.2.2.2.2.toNat default) (⟨(⟨p1.1, p1.2.1⟩ : TPrefix), p1.2.2.1, p1.2.2.2.1, p1.2.2.2.2.1, p1.2.2.2.2.2.1, p1.2.2.2.2.2.2.1, p1.2.2.2.2.2.2.2.1, p1.2.2.2.2.2.2.2.2.1, p1.2.2.2.2.2.2.2.2.2.1, p1.2.2.2.2.2.2.2.2.2.2.1, p1.2.2.2.2.2.2.2.2.2.2.2.1, p1.2.2.2.2.2.2.2.2.2.2.2.2.1, p1.2.2.2.2.2.2.2.2.2.2.2.2.2.1⟩ : TRoute) r4 q13, trivial⟩ ?_
 refine then_n ?_
 refine cnd (decide (r4 < 0)) (fun b15 => ?_) (fun b15 => ?_)
 have h16 := cond_t b15 h14
 refine rg0 [0, 2, 3, 13, 14, 15] 2 ⟨50, [(0, sL 14 c_TRoute a0), (2, .ref 0 0), (3, .ref 1 0), (13, sL 14 c_TRoute ((a0.drop 1).take (a0.length - 1))), (14, .int .i64 ((a0.length - 1 : Nat) : Int)), (15, .int .i64 p1.2.2.2.2.2.2.2.2.2.2.2.2.2.2)], [.box [.int .u32 0, .int .i64 0, .int .i64 0, .int .i64 0, .int .i64 0, .int .i64 0, .int .i64 0, .int .i64 0, .int .i64 0, .sl true 1 0 (fun _ => []), .int .u32 0, .int .u32 0, .sl true 2 0 (fun _ => []), .bool false], .box (c_TRoute (((a0.drop 1).take (a0.length - 1)).getD p1.2.2.2.2.2.2.2.2.2.2.2.2.2.2.toNat default))]⟩ ?_
 refine inb_n ?_
 exact then_le (le_rfl) (k9 (((((a0.drop 1).take (a0.length - 1)).getD p1.2.2.2.2.2.2.2.2.2.2.2.2.2.2.toNat default).fPrefix).fAddr, ((((a0.drop 1).take (a0.length - 1)).getD p1.2.2.2.2.2.2.2.2.2.2.2.2.2.2.toNat default).fPrefix).fLen, (((a0.drop 1).take (a0.length - 1)).getD p1.2.2.2.2.2.2.2.2.2.2.2.2.2.2.toNat default).fProto, (((a0.drop 1).take (a0.length - 1)).getD p1.2.2.2.2.2.2.2.2.2.2.2.2.2.2.toNat default).fClass, (((a0.drop 1).take (a0.length - 1)).getD p1.2.2.2.2.2.2.2.2.2.2.2.2.2.2.toNat default).fAdmin, (((a0.drop 1).take (a0.length - 1)).getD p1.2.2.2.2.2.2.2.2.2.2.2.2.2.2.toNat default).fMetric, (((a0.drop 1).take (a0.length - 1)).getD p1.2.2.2.2.2.2.2.2.2.2.2.2.2.2.toNat default).fInner, (((a0.drop 1).take (a0.length - 1)).getD p1.2.2.2.2.2.2.2.2.2.2.2.2.2.2.toNat default).fTag, (((a0.drop 1).take (a0.length - 1)).getD p1.2.2.2.2.2.2.2.2.2.2.2.2.2.2.toNat default).fPref, (((a0.drop 1).take (a0.length - 1)).getD p1.2.2.2.2.2.2.2.2.2.2.2.2.2.2.toNat default).fPath, (((a0.drop 1).take (a0.length - 1)).getD p1.2.2.2.2.2.2.2.2.2.2.2.2.2.2.toNat default).fFrom, (((a0.drop 1).take (a0.length - 1)).getD p1.2.2.2.2.2.2.2.2.2.2.2.2.2.2.toNat default).fNext, (((a0.drop 1).take (a0.length - 1)).getD p1.2.2.2.2.2.2.2.2.2.2.2.2.2.2.toNat default).fHops, (((a0.drop 1).take (a0.length - 1)).getD p1.2.2.2.2.2.2.2.2.2.2.2.2.2.2.toNat default).fDiscard) h16)
 have h17 := cond_f b15 h14
 refine awp_skip (inb_n ?_)
 exact then_le (Le.trans (s' := ⟨50, [(0, sL 14 c_TRoute a0), (2, .ref 0 0), (3, .ref 1 0), (13, sL 14 c_TRoute ((a0.drop 1).take (a0.length - 1))), (14, .int .i64 ((a0.length - 1 : Nat) : Int)), (15, .int .i64 p1.2.2.2.2.2.2.2.2.2.2.2.2.2.2)], [.box [.int .u32 0, .int .i64 0, .int .i64 0, .int .i64 0, .int .i64 0, .int .i64 0, .int .i64 0, .int .i64 0, .int .i64 0, .sl true 1 0 (fun _ => []), .int .u32 0, .int .u32 0, .sl true 2 0 (fun _ => []), .bool false], .box [.int .u32 p1.1, .int .i64 p1.2.1, .int .i64 p1.2.2.1, .int .i64 p1.2.2.2.1, .int .i64 p1.2.2.2.2.1, .int .i64 p1.2.2.2.2.2.1, .int .i64 p1.2.2.2.2.2.2.1, .int .i64 p1.2.2.2.2.2.2.2.1, .int .i64 p1.2.2.2.2.2.2.2.2.1, sL 1 (ci .i64) p1.2.2.2.2.2.2.2.2.2.1, .int .u32 p1.2.2.2.2.2.2.2.2.2.2.1, .int .u32 p1.2.2.2.2.2.2.2.2.2.2.2.1, sL 2 c_THop p1.2.2.2.2.2.2.2.2.2.2.2.2.1, .bool p1.2.2.2.2.2.2.2.2.2.2.2.2.2.1], .box (c_TRoute (((a0.drop 1).take (a0.length - 1)).getD p1.2.2.2.2.2.2.2.2.2.2.2.2.2.2.toNat default))]⟩) (kp [0, 2, 3, 13, 14, 15]) (le_cut (n := 2) (by kernel_rfl))) (k9 (p1.1, p1.2.1, p1.2.2.1, p1.2.2.2.1, p1.2.2.2.2.1, p1.2.2.2.2.2.1, p1.2.2.2.2.2.2.1, p1.2.2.2.2.2.2.2.1, p1.2.2.2.2.2.2.2.2.1, p1.2.2.2.2.2.2.2.2.2.1, p1.2.2.2.2.2.2.2.2.2.2.1, p1.2.2.2.2.2.2.2.2.2.2.2.1, p1.2.2.2.2.2.2.2.2.2.2.2.2.1, p1.2.2.2.2.2.2.2.2.2.2.2.2.2.1) h17)
 have h8 := cond_f b6 h5
 refine awp_exit (then_e ?_)
 obtain rfl := Option.some.inj h8
 exact round_e ⟨rfl, kp [0, 2, 3]⟩
 intro e20 s21 o22
 obtain ⟨rfl, l23⟩ := o22
 refine inb_here ?_
 refine then_le (s' := ⟨50, [(0, sL 14 c_TRoute a0), (2, .ref 0 0), (3, .ref 1 0)], [.box [.int .u32 0, .int .i64 0, .int .i64 0, .int .i64 0, .int .i64 0, .int .i64 0, .int .i64 0, .int .i64 0, .int .i64 0, .sl true 1 0 (fun _ => []), .int .u32 0, .int .u32 0, .sl true 2 0 (fun _ => []), .bool false], .box [.int .u32 y5.1, .int .i64 y5.2.1, .int .i64 y5.2.2.1, .int .i64 y5.2.2.2.1, .int .i64 y5.2.2.2.2.1, .int .i64 y5.2.2.2.2.2.1, .int .i64 y5.2.2.2.2.2.2.1, .int .i64 y5.2.2.2.2.2.2.2.1, .int .i64 y5.2.2.2.2.2.2.2.2.1, sL 1 (ci .i64) y5.2.2.2.2.2.2.2.2.2.1, .int .u32 y5.2.2.2.2.2.2.2.2.2.2.1, .int .u32 y5.2.2.2.2.2.2.2.2.2.2.2.1, sL 2 c_THop y5.2.2.2.2.2.2.2.2.2.2.2.2.1, .bool y5.2.2.2.2.2.2.2.2.2.2.2.2.2]]⟩) (l23) ?_
 refine awp_seq (rg0 [0, 2, 3, 6] 2 ⟨50, [(0, sL 14 c_TRoute a0), (2, .ref 0 0), (3, .ref 1 0), (6, .sl true 2 0 (fun _ => []))], [.box [.int .u32 0, .int .i64 0, .int .i64 0, .int .i64 0, .int .i64 0, .int .i64 0, .int .i64 0, .int .i64 0, .int .i64 0, .sl true 1 0 (fun _ => []), .int .u32 0, .int .u32 0, .sl true 2 0 (fun _ => []), .bool false], .box [.int .u32 y5.1, .int .i64 y5.2.1, .int .i64 y5.2.2.1, .int .i64 y5.2.2.2.1, .int .i64 y5.2.2.2.2.1, .int .i64 y5.2.2.2.2.2.1, .int .i64 y5.2.2.2.2.2.2.1, .int .i64 y5.2.2.2.2.2.2.2.1, .int .i64 y5.2.2.2.2.2.2.2.2.1, sL 1 (ci .i64) y5.2.2.2.2.2.2.2.2.2.1, .int .u32 y5.2.2.2.2.2.2.2.2.2.2.1, .int .u32 y5.2.2.2.2.2.2.2.2.2.2.2.1, sL 2 c_THop y5.2.2.2.2.2.2.2.2.2.2.2.2.1, .bool y5.2.2.2.2.2.2.2.2.2.2.2.2.2]]⟩ ?_)
 refine then_n (awp_seq (awp_seq (rg0 [2, 3, 6, 25, 26, 27] 2 ⟨50, [(2, .ref 0 0), (3, .ref 1 0), (6, .sl true 2 0 (fun _ => [])), (25, sL 14 c_TRoute a0), (26, .int .i64 (a0.length : Int)), (27, .int .i64 0)], [.box [.int .u32 0, .int .i64 0, .int .i64 0, .int .i64 0, .int .i64 0, .int .i64 0, .int .i64 0, .int .i64 0, .int .i64 0, .sl true 1 0 (fun _ => []), .int .u32 0, .int .u32 0, .sl true 2 0 (fun _ => []), .bool false], .box [.int .u32 y5.1, .int .i64 y5.2.1, .int .i64 y5.2.2.1, .int .i64 y5.2.2.2.1, .int .i64 y5.2.2.2.2.1, .int .i64 y5.2.2.2.2.2.1, .int .i64 y5.2.2.2.2.2.2.1, .int .i64 y5.2.2.2.2.2.2.2.1, .int .i64 y5.2.2.2.2.2.2.2.2.1, sL 1 (ci .i64) y5.2.2.2.2.2.2.2.2.2.1, .int .u32 y5.2.2.2.2.2.2.2.2.2.2.1, .int .u32 y5.2.2.2.2.2.2.2.2.2.2.2.1, sL 2 c_THop y5.2.2.2.2.2.2.2.2.2.2.2.2.1, .bool y5.2.2.2.2.2.2.2.2.2.2.2.2.2]]⟩ ?_)))
 refine then_n (awp_block ?_)
 refine awp_le (s' := ⟨50, [(2, .ref 0 0), (3, .ref 1 0), (6, .sl true 2 0 (fun _ => [])), (25, sL 14 c_TRoute a0), (26, .int .i64 (a0.length : Int)), (27, .int .i64 0)], [.box [.int .u32 0, .int .i64 0, .int .i64 0, .int .i64 0, .int .i64 0, .int .i64 0, .int .i64 0, .int .i64 0, .int .i64 0, .sl true 1 0 (fun _ => []), .int .u32 0, .int .u32 0, .sl true 2 0 (fun _ => []), .bool false], .box [.int .u32 y5.1, .int .i64 y5.2.1, .int .i64 y5.2.2.1, .int .i64 y5.2.2.2.1, .int .i64 y5.2.2.2.2.1, .int .i64 y5.2.2.2.2.2.1, .int .i64 y5.2.2.2.2.2.2.1, .int .i64 y5.2.2.2.2.2.2.2.1, .int .i64 y5.2.2.2.2.2.2.2.2.1, sL 1 (ci .i64) y5.2.2.2.2.2.2.2.2.2.1, .int .u32 y5.2.2.2.2.2.2.2.2.2.2.1, .int .u32 y5.2.2.2.2.2.2.2.2.2.2.2.1, sL 2 c_THop y5.2.2.2.2.2.2.2.2.2.2.2.2.1, .bool y5.2.2.2.2.2.2.2.2.2.2.2.2.2]]⟩) (le_rfl) ?_
 refine awp_le (s' := ⟨50, [(2, .ref 0 0), (3, .ref 1 0), (6, .asl 2 0 (([] : List THop).length)), (25, sL 14 c_TRoute a0), (26, .int .i64 (a0.length : Int)), (27, .int .i64 0)], [.box [.int .u32 0, .int .i64 0, .int .i64 0, .int .i64 0, .int .i64 0, .int .i64 0, .int .i64 0, .int .i64 0, .int .i64 0, .sl true 1 0 (fun _ => []), .int .u32 0, .int .u32 0, .sl true 2 0 (fun _ => []), .bool false], .box [.int .u32 y5.1, .int .i64 y5.2.1, .int .i64 y5.2.2.1, .int .i64 y5.2.2.2.1, .int .i64 y5.2.2.2.2.1, .int .i64 y5.2.2.2.2.2.1, .int .i64 y5.2.2.2.2.2.2.1, .int .i64 y5.2.2.2.2.2.2.2.1, .int .i64 y5.2.2.2.2.2.2.2.2.1, sL 1 (ci .i64) y5.2.2.2.2.2.2.2.2.2.1, .int .u32 y5.2.2.2.2.2.2.2.2.2.2.1, .int .u32 y5.2.2.2.2.2.2.2.2.2.2.2.1, sL 2 c_THop y5.2.2.2.2.2.2.2.2.2.2.2.2.1, .bool y5.2.2.2.2.2.2.2.2.2.2.2.2.2], aL 2 c_THop ([] : List THop)]⟩) (Le.trans (s' := ⟨50, (6, .asl 2 0 0) :: [(2, .ref 0 0), (3, .ref 1 0), (6, .sl true 2 0 (fun _ => [])), (25, sL 14 c_TRoute a0), (26, .int .i64 (a0.length : Int)), (27, .int .i64 0)], [.box [.int .u32 0, .int .i64 0, .int .i64 0, .int .i64 0, .int .i64 0, .int .i64 0, .int .i64 0, .int .i64 0, .int .i64 0, .sl true 1 0 (fun _ => []), .int .u32 0, .int .u32 0, .sl true 2 0 (fun _ => []), .bool false], .box [.int .u32 y5.1, .int .i64 y5.2.1, .int .i64 y5.2.2.1, .int .i64 y5.2.2.2.1, .int .i64 y5.2.2.2.2.1, .int .i64 y5.2.2.2.2.2.1, .int .i64 y5.2.2.2.2.2.2.1, .int .i64 y5.2.2.2.2.2.2.2.1, .int .i64 y5.2.2.2.2.2.2.2.2.1, sL 1 (ci .i64) y5.2.2.2.2.2.2.2.2.2.1, .int .u32 y5.2.2.2.2.2.2.2.2.2.2.1, .int .u32 y5.2.2.2.2.2.2.2.2.2.2.2.1, sL 2 c_THop y5.2.2.2.2.2.2.2.2.2.2.2.2.1, .bool y5.2.2.2.2.2.2.2.2.2.2.2.2.2]] ++ [.arr 2 0 (fun i => c_THop (([] : List THop).getD i default))]⟩) (le_thaw (wd := 2) (f := fun _ => []) 6 (by kernel_rfl) _ _) (kp [2, 3, 6, 25, 26, 27])) ?_
 obtain ⟨y10, q39, h40⟩ := bind_some h19
 refine awp_le (s' := ⟨50, [(2, .ref 0 0), (3, .ref 1 0), (6, .asl 2 0 (([] : List THop).length)), (25, sL 14 c_TRoute a0), (26, .int .i64 (a0.length : Int)), (27, .int .i64 0)], [.box [.int .u32 0, .int .i64 0, .int .i64 0, .int .i64 0, .int .i64 0, .int .i64 0, .int .i64 0, .int .i64 0, .int .i64 0, .sl true 1 0 (fun _ => []), .int .u32 0, .int .u32 0, .sl true 2 0 (fun _ => []), .bool false], .box [.int .u32 y5.1, .int .i64 y5.2.1, .int .i64 y5.2.2.1, .int .i64 y5.2.2.2.1, .int .i64 y5.2.2.2.2.1, .int .i64 y5.2.2.2.2.2.1, .int .i64 y5.2.2.2.2.2.2.1, .int .i64 y5.2.2.2.2.2.2.2.1, .int .i64 y5.2.2.2.2.2.2.2.2.1, sL 1 (ci .i64) y5.2.2.2.2.2.2.2.2.2.1, .int .u32 y5.2.2.2.2.2.2.2.2.2.2.1, .int .u32 y5.2.2.2.2.2.2.2.2.2.2.2.1, sL 2 c_THop y5.2.2.2.2.2.2.2.2.2.2.2.2.1, .bool y5.2.2.2.2.2.2.2.2.2.2.2.2.2], aL 2 c_THop ([] : List THop)]⟩) (le_rfl) ?_
 refine awp_mono (awp_loop (f := M.route_mergeOne_l2 a0 y5) (S := fun (p6 : (List THop) × Int) => ⟨50, [(2, .ref 0 0), (3, .ref 1 0), (6, .asl 2 0 p6.1.length), (25, sL 14 c_TRoute a0), (26, .int .i64 (a0.length : Int)), (27, .int .i64 p6.2)], [.box [.int .u32 0, .int .i64 0, .int .i64 0, .int .i64 0, .int .i64 0, .int .i64 0, .int .i64 0, .int .i64 0, .int .i64 0, .sl true 1 0 (fun _ => []), .int .u32 0, .int .u32 0, .sl true 2 0 (fun _ => []), .bool false], .box [.int .u32 y5.1, .int .i64 y5.2.1, .int .i64 y5.2.2.1, .int .i64 y5.2.2.2.1, .int .i64 y5.2.2.2.2.1, .int .i64 y5.2.2.2.2.2.1, .int .i64 y5.2.2.2.2.2.2.1, .int .i64 y5.2.2.2.2.2.2.2.1, .int .i64 y5.2.2.2.2.2.2.2.2.1, sL 1 (ci .i64) y5.2.2.2.2.2.2.2.2.2.1, .int .u32 y5.2.2.2.2.2.2.2.2.2.2.1, .int .u32 y5.2.2.2.2.2.2.2.2.2.2.2.1, sL 2 c_THop y5.2.2.2.2.2.2.2.2.2.2.2.2.1, .bool y5.2.2.2.2.2.2.2.2.2.2.2.2.2], aL 2 c_THop p6.1]⟩) (O := (fun z => OutE 2 (fun z => ⟨50, [(2, .ref 0 0), (3, .ref 1 0), (6, .asl 2 0 z.length)], [.box [.int .u32 0, .int .i64 0, .int .i64 0, .int .i64 0, .int .i64 0, .int .i64 0, .int .i64 0, .int .i64 0, .int .i64 0, .sl true 1 0 (fun _ => []), .int .u32 0, .int .u32 0, .sl true 2 0 (fun _ => []), .bool false], .box [.int .u32 y5.1, .int .i64 y5.2.1, .int .i64 y5.2.2.1, .int .i64 y5.2.2.2.1, .int .i64 y5.2.2.2.2.1, .int .i64 y5.2.2.2.2.2.1, .int .i64 y5.2.2.2.2.2.2.1, .int .i64 y5.2.2.2.2.2.2.2.1, .int .i64 y5.2.2.2.2.2.2.2.2.1, sL 1 (ci .i64) y5.2.2.2.2.2.2.2.2.2.1, .int .u32 y5.2.2.2.2.2.2.2.2.2.2.1, .int .u32 y5.2.2.2.2.2.2.2.2.2.2.2.1, sL 2 c_THop y5.2.2.2.2.2.2.2.2.2.2.2.2.1, .bool y5.2.2.2.2.2.2.2.2.2.2.2.2.2], aL 2 c_THop z]⟩) z)) ?_ (x := (([] : List THop), 0)) (y := y10) (loopM_iter q39)) ?_
 intro p6 y7 h24
 unfold M.route_mergeOne_l2 at h24
 refine awp_seq (rg0 [2, 3, 6, 25, 26, 27, 28] 3 ⟨50, [(2, .ref 0 0), (3, .ref 1 0), (6, .asl 2 0 p6.1.length), (25, sL 14 c_TRoute a0), (26, .int .i64 (a0.length : Int)), (27, .int .i64 p6.2), (28, .bool (decide (p6.2 < (a0.length : Int))))], [.box [.int .u32 0, .int .i64 0, .int .i64 0, .int .i64 0, .int .i64 0, .int .i64 0, .int .i64 0, .int .i64 0, .int .i64 0, .sl true 1 0 (fun _ => []), .int .u32 0, .int .u32 0, .sl true 2 0 (fun _ => []), .bool false], .box [.int .u32 y5.1, .int .i64 y5.2.1, .int .i64 y5.2.2.1, .int .i64 y5.2.2.2.1, .int .i64 y5.2.2.2.2.1, .int .i64 y5.2.2.2.2.2.1, .int .i64 y5.2.2.2.2.2.2.1, .int .i64 y5.2.2.2.2.2.2.2.1, .int .i64 y5.2.2.2.2.2.2.2.2.1, sL 1 (ci .i64) y5.2.2.2.2.2.2.2.2.2.1, .int .u32 y5.2.2.2.2.2.2.2.2.2.2.1, .int .u32 y5.2.2.2.2.2.2.2.2.2.2.2.1, sL 2 c_THop y5.2.2.2.2.2.2.2.2.2.2.2.2.1, .bool y5.2.2.2.2.2.2.2.2.2.2.2.2.2], aL 2 c_THop p6.1]⟩ ?_)
 refine then_n (awp_seq ?_)
 refine cnd (decide (p6.2 < (a0.length : Int))) (fun b25 => ?_) (fun b25 => ?_)
 have h26 := cond_t b25 h24
 refine awp_skip (then_n ?_)
 refine awp_join (fun (p8 : (List THop)) => ⟨50, [(2, .ref 0 0), (3, .ref 1 0), (6, .asl 2 0 p8.length), (25, sL 14 c_TRoute a0), (26, .int .i64 (a0.length : Int)), (27, .int .i64 p6.2)], [.box [.int .u32 0, .int .i64 0, .int .i64 0, .int .i64 0, .int .i64 0, .int .i64 0, .int .i64 0, .int .i64 0, .int .i64 0, .sl true 1 0 (fun _ => []), .int .u32 0, .int .u32 0, .sl true 2 0 (fun _ => []), .bool false], .box [.int .u32 y5.1, .int .i64 y5.2.1, .int .i64 y5.2.2.1, .int .i64 y5.2.2.2.1, .int .i64 y5.2.2.2.2.1, .int .i64 y5.2.2.2.2.2.1, .int .i64 y5.2.2.2.2.2.2.1, .int .i64 y5.2.2.2.2.2.2.2.1, .int .i64 y5.2.2.2.2.2.2.2.2.1, sL 1 (ci .i64) y5.2.2.2.2.2.2.2.2.2.1, .int .u32 y5.2.2.2.2.2.2.2.2.2.2.1, .int .u32 y5.2.2.2.2.2.2.2.2.2.2.2.1, sL 2 c_THop y5.2.2.2.2.2.2.2.2.2.2.2.2.1, .bool y5.2.2.2.2.2.2.2.2.2.2.2.2.2], aL 2 c_THop p8]⟩) (fun p8 => M.route_mergeOne_k2 p6 p8 = some y7) ?_ ?_
 intro p8 h29
 unfold M.route_mergeOne_k2 at h29
 refine rg0 [2, 3, 6, 25, 26, 27] 3 ⟨50, [(2, .ref 0 0), (3, .ref 1 0), (6, .asl 2 0 p8.length), (25, sL 14 c_TRoute a0), (26, .int .i64 (a0.length : Int)), (27, .int .i64 (wr .i64 (p6.2 + 1)))], [.box [.int .u32 0, .int .i64 0, .int .i64 0, .int .i64 0, .int .i64 0, .int .i64 0, .int .i64 0, .int .i64 0, .int .i64 0, .sl true 1 0 (fun _ => []), .int .u32 0, .int .u32 0, .sl true 2 0 (fun _ => []), .bool false], .box [.int .u32 y5.1, .int .i64 y5.2.1, .int .i64 y5.2.2.1, .int .i64 y5.2.2.2.1, .int .i64 y5.2.2.2.2.1, .int .i64 y5.2.2.2.2.2.1, .int .i64 y5.2.2.2.2.2.2.1, .int .i64 y5.2.2.2.2.2.2.2.1, .int .i64 y5.2.2.2.2.2.2.2.2.1, sL 1 (ci .i64) y5.2.2.2.2.2.2.2.2.2.1, .int .u32 y5.2.2.2.2.2.2.2.2.2.2.1, .int .u32 y5.2.2.2.2.2.2.2.2.2.2.2.1, sL 2 c_THop y5.2.2.2.2.2.2.2.2.2.2.2.2.1, .bool y5.2.2.2.2.2.2.2.2.2.2.2.2.2], aL 2 c_THop p8]⟩ ?_
 obtain rfl := Option.some.inj h29
 exact round_n (le_rfl)
 intro k28
 refine awp_block (awp_seq ?_)
 obtain ⟨c30, h31⟩ := gd_some h26
 refine rgc [2, 3, 6, 8, 25, 26, 27] 4 ⟨50, [(2, .ref 0 0), (3, .ref 1 0), (6, .asl 2 0 p6.1.length), (8, .ref 3 0), (25, sL 14 c_TRoute a0), (26, .int .i64 (a0.length : Int)), (27, .int .i64 p6.2)], [.box [.int .u32 0, .int .i64 0, .int .i64 0, .int .i64 0, .int .i64 0, .int .i64 0, .int .i64 0, .int .i64 0, .int .i64 0, .sl true 1 0 (fun _ => []), .int .u32 0, .int .u32 0, .sl true 2 0 (fun _ => []), .bool false], .box [.int .u32 y5.1, .int .i64 y5.2.1, .int .i64 y5.2.2.1, .int .i64 y5.2.2.2.1, .int .i64 y5.2.2.2.2.1, .int .i64 y5.2.2.2.2.2.1, .int .i64 y5.2.2.2.2.2.2.1, .int .i64 y5.2.2.2.2.2.2.2.1, .int .i64 y5.2.2.2.2.2.2.2.2.1, sL 1 (ci .i64) y5.2.2.2.2.2.2.2.2.2.1, .int .u32 y5.2.2.2.2.2.2.2.2.2.2.1, .int .u32 y5.2.2.2.2.2.2.2.2.2.2.2.1, sL 2 c_THop y5.2.2.2.2.2.2.2.2.2.2.2.2.1, .bool y5.2.2.2.2.2.2.2.2.2.2.2.2.2], aL 2 c_THop p6.1, .box (c_TRoute (a0.getD p6.2.toNat default))]⟩ [decide (0 ≤ p6.2), decide (p6.2 < (a0.length : Int))] c30 ?_
 refine then_n (awp_seq ?_)
 obtain ⟨r9, q32, h33⟩ := bind_some h31
 refine rg [.pure (.int .i64 r9)] [2, 3, 6, 8, 25, 26, 27, 34] 4 ⟨50, [(2, .ref 0 0), (3, .ref 1 0), (6, .asl 2 0 p6.1.length), (8, .ref 3 0), (25, sL 14 c_TRoute a0), (26, .int .i64 (a0.length : Int)), (27, .int .i64 p6.2), (34, .bool (r9 == 0))], [.box [.int .u32 0, .int .i64 0, .int .i64 0, .int .i64 0, .int .i64 0, .int .i64 0, .int .i64 0, .int .i64 0, .int .i64 0, .sl true 1 0 (fun _ => []), .int .u32 0, .int .u32 0, .sl true 2 0 (fun _ => []), .bool false], .box [.int .u32 y5.1, .int .i64 y5.2.1, .int .i64 y5.2.2.1, .int .i64 y5.2.2.2.1, .int .i64 y5.2.2.2.2.1, .int .i64 y5.2.2.2.2.2.1, .int .i64 y5.2.2.2.2.2.2.1, .int .i64 y5.2.2.2.2.2.2.2.1, .int .i64 y5.2.2.2.2.2.2.2.2.1, sL 1 (ci .i64) y5.2.2.2.2.2.2.2.2.2.1, .int .u32 y5.2.2.2.2.2.2.2.2.2.2.1, .int .u32 y5.2.2.2.2.2.2.2.2.2.2.2.1, sL 2 c_THop y5.2.2.2.2.2.2.2.2.2.2.2.2.1, .bool y5.2.2.2.2.2.2.2.2.2.2.2.2.2], aL 2 c_THop p6.1, .box (c_TRoute (a0.getD p6.2.toNat default))]⟩ [] [⟨true, 17, [.agg (c_TRoute (a0.getD p6.2.toNat default)), .agg [.int .u32 y5.1, .int .i64 y5.2.1, .int .i64 y5.2.2.1, .int .i64 y5.2.2.2.1, .int .i64 y5.2.2.2.2.1, .int .i64 y5.2.2.2.2.2.1, .int .i64 y5.2.2.2.2.2.2.1, .int .i64 y5.2.2.2.2.2.2.2.1, .int .i64 y5.2.2.2.2.2.2.2.2.1, sL 1 (ci .i64) y5.2.2.2.2.2.2.2.2.2.1, .int .u32 y5.2.2.2.2.2.2.2.2.2.2.1, .int .u32 y5.2.2.2.2.2.2.2.2.2.2.2.1, sL 2 c_THop y5.2.2.2.2.2.2.2.2.2.2.2.2.1, .bool y5.2.2.2.2.2.2.2.2.2.2.2.2.2]], .pure (.int .i64 r9)⟩] nil_all ⟨fun _ => route_Prefer_ok (a0.getD p6.2.toNat default) (⟨(⟨y5.1, y5.2.1⟩ : TPrefix), y5.2.2.1, y5.2.2.2.1, y5.2.2.2.2.1, y5.2.2.2.2.2.1, y5.2.2.2.2.2.2.1, y5.2.2.2.2.2.2.2.1, y5.2.2.2.2.2.2.2.2.1, y5.2.2.2.2.2.2.2.2.2.1, y5.2.2.2.2.2.2.2.2.2.2.1, y5.2.2.2.2.2.2.2.2.2.2.2.1, y5.2.2.2.2.2.2.2.2.2.2.2.2.1, y5.2.2.2.2.2.2.2.2.2.2.2.2.2⟩ : TRoute) r9 q32, trivial⟩ ?_
 refine then_n ?_
 refine cnd (r9 == 0) (fun b34 => ?_) (fun b34 => ?_)
 have h35 := cond_t b34 h33
 obtain ⟨c37, h38⟩ := gd_some h35
 refine rgc [2, 3, 6, 25, 26, 27] 3 ⟨50, [(2, .ref 0 0), (3, .ref 1 0), (6, .asl 2 0 (p6.1.length + (((a0.getD p6.2.toNat default).fHops).length))), (25, sL 14 c_TRoute a0), (26, .int .i64 (a0.length : Int)), (27, .int .i64 p6.2)], [.box [.int .u32 0, .int .i64 0, .int .i64 0, .int .i64 0, .int .i64 0, .int .i64 0, .int .i64 0, .int .i64 0, .int .i64 0, .sl true 1 0 (fun _ => []), .int .u32 0, .int .u32 0, .sl true 2 0 (fun _ => []), .bool false], .box [.int .u32 y5.1, .int .i64 y5.2.1, .int .i64 y5.2.2.1, .int .i64 y5.2.2.2.1, .int .i64 y5.2.2.2.2.1, .int .i64 y5.2.2.2.2.2.1, .int .i64 y5.2.2.2.2.2.2.1, .int .i64 y5.2.2.2.2.2.2.2.1, .int .i64 y5.2.2.2.2.2.2.2.2.1, sL 1 (ci .i64) y5.2.2.2.2.2.2.2.2.2.1, .int .u32 y5.2.2.2.2.2.2.2.2.2.2.1, .int .u32 y5.2.2.2.2.2.2.2.2.2.2.2.1, sL 2 c_THop y5.2.2.2.2.2.2.2.2.2.2.2.2.1, .bool y5.2.2.2.2.2.2.2.2.2.2.2.2.2], .arr 2 (p6.1.length + (((a0.getD p6.2.toNat default).fHops).length)) (app (fun i => c_THop (p6.1.getD i default)) p6.1.length (fun i => c_THop (((a0.getD p6.2.toNat default).fHops).getD i default)))]⟩ [decide ((p6.1.length + (((a0.getD p6.2.toNat default).fHops).length)) * 16 ≤ 140737488355328)] c37 ?_
 refine inb_n ?_
 exact then_le (le_sub (.cons Sub.rfl (.cons Sub.rfl (.cons (asl_len (len_app _ _)) (.cons Sub.rfl (.cons Sub.rfl (.cons Sub.rfl .nil)))))) (.cons .rfl (.cons .rfl (.cons (.arr (len_app _ _) (app_list c_THop p6.1 ((a0.getD p6.2.toNat default).fHops) _ (fun _ _ => rfl))) .nil)))) (k28 (p6.1 ++ ((a0.getD p6.2.toNat default).fHops)) h38)
 have h36 := cond_f b34 h33
 refine awp_skip (inb_n ?_)
 exact then_le (Le.trans (s' := ⟨50, [(2, .ref 0 0), (3, .ref 1 0), (6, .asl 2 0 p6.1.length), (25, sL 14 c_TRoute a0), (26, .int .i64 (a0.length : Int)), (27, .int .i64 p6.2)], [.box [.int .u32 0, .int .i64 0, .int .i64 0, .int .i64 0, .int .i64 0, .int .i64 0, .int .i64 0, .int .i64 0, .int .i64 0, .sl true 1 0 (fun _ => []), .int .u32 0, .int .u32 0, .sl true 2 0 (fun _ => []), .bool false], .box [.int .u32 y5.1, .int .i64 y5.2.1, .int .i64 y5.2.2.1, .int .i64 y5.2.2.2.1, .int .i64 y5.2.2.2.2.1, .int .i64 y5.2.2.2.2.2.1, .int .i64 y5.2.2.2.2.2.2.1, .int .i64 y5.2.2.2.2.2.2.2.1, .int .i64 y5.2.2.2.2.2.2.2.2.1, sL 1 (ci .i64) y5.2.2.2.2.2.2.2.2.2.1, .int .u32 y5.2.2.2.2.2.2.2.2.2.2.1, .int .u32 y5.2.2.2.2.2.2.2.2.2.2.2.1, sL 2 c_THop y5.2.2.2.2.2.2.2.2.2.2.2.2.1, .bool y5.2.2.2.2.2.2.2.2.2.2.2.2.2], aL 2 c_THop p6.1, .box (c_TRoute (a0.getD p6.2.toNat default))]⟩) (kp [2, 3, 6, 25, 26, 27]) (le_cut (n := 3) (by kernel_rfl))) (k28 p6.1 h36)
 have h27 := cond_f b25 h24
 refine awp_exit (then_e ?_)
 obtain rfl := Option.some.inj h27
 exact round_e ⟨rfl, kp [2, 3, 6]⟩
 intro e41 s42 o43
 obtain ⟨rfl, l44⟩ := o43
 refine inb_here ?_
 refine then_le (s' := ⟨50, [(2, .ref 0 0), (3, .ref 1 0), (6, .asl 2 0 y10.length)], [.box [.int .u32 0, .int .i64 0, .int .i64 0, .int .i64 0, .int .i64 0, .int .i64 0, .int .i64 0, .int .i64 0, .int .i64 0, .sl true 1 0 (fun _ => []), .int .u32 0, .int .u32 0, .sl true 2 0 (fun _ => []), .bool false], .box [.int .u32 y5.1, .int .i64 y5.2.1, .int .i64 y5.2.2.1, .int .i64 y5.2.2.2.1, .int .i64 y5.2.2.2.2.1, .int .i64 y5.2.2.2.2.2.1, .int .i64 y5.2.2.2.2.2.2.1, .int .i64 y5.2.2.2.2.2.2.2.1, .int .i64 y5.2.2.2.2.2.2.2.2.1, sL 1 (ci .i64) y5.2.2.2.2.2.2.2.2.2.1, .int .u32 y5.2.2.2.2.2.2.2.2.2.2.1, .int .u32 y5.2.2.2.2.2.2.2.2.2.2.2.1, sL 2 c_THop y5.2.2.2.2.2.2.2.2.2.2.2.2.1, .bool y5.2.2.2.2.2.2.2.2.2.2.2.2.2], aL 2 c_THop y10]⟩) (l44) ?_
 refine awp_seq ?_
 obtain ⟨r11, q45, h46⟩ := bind_some h40
 obtain ⟨c47, h48⟩ := gd_some h46
 refine rg [.lnd 0 0 (fun _ => []) (fun i => c_THop (r11.getD i default)) (.tup [])] [2, 3, 6] 3 ⟨50, [(2, .ref 0 0), (3, .ref 1 0), (6, .asl 2 0 y10.length)], [.box [.int .u32 0, .int .i64 0, .int .i64 0, .int .i64 0, .int .i64 0, .int .i64 0, .int .i64 0, .int .i64 0, .int .i64 0, .sl true 1 0 (fun _ => []), .int .u32 0, .int .u32 0, .sl true 2 0 (fun _ => []), .bool false], .box [.int .u32 y5.1, .int .i64 y5.2.1, .int .i64 y5.2.2.1, .int .i64 y5.2.2.2.1, .int .i64 y5.2.2.2.2.1, .int .i64 y5.2.2.2.2.2.1, .int .i64 y5.2.2.2.2.2.2.1, .int .i64 y5.2.2.2.2.2.2.2.1, .int .i64 y5.2.2.2.2.2.2.2.2.1, sL 1 (ci .i64) y5.2.2.2.2.2.2.2.2.2.1, .int .u32 y5.2.2.2.2.2.2.2.2.2.2.1, .int .u32 y5.2.2.2.2.2.2.2.2.2.2.2.1, sL 2 c_THop y5.2.2.2.2.2.2.2.2.2.2.2.2.1, .bool y5.2.2.2.2.2.2.2.2.2.2.2.2.2], .arr 2 y10.length (fun i => c_THop (r11.getD i default))]⟩ [] [⟨true, 73, [.asl 0 0 y10.length, .fn 66 []], .lnd 2 y10.length (fun i => c_THop (y10.getD i default)) (fun i => c_THop (r11.getD i default)) (.tup [])⟩] nil_all ⟨fun _ => slices_SortFunc_api_Hop_api_Hop__route_compareHops_ok y10 r11 q45, trivial⟩ ?_
 refine then_le (s' := ⟨50, [(2, .ref 0 0), (3, .ref 1 0), (6, .asl 2 0 r11.length)], [.box [.int .u32 0, .int .i64 0, .int .i64 0, .int .i64 0, .int .i64 0, .int .i64 0, .int .i64 0, .int .i64 0, .int .i64 0, .sl true 1 0 (fun _ => []), .int .u32 0, .int .u32 0, .sl true 2 0 (fun _ => []), .bool false], .box [.int .u32 y5.1, .int .i64 y5.2.1, .int .i64 y5.2.2.1, .int .i64 y5.2.2.2.1, .int .i64 y5.2.2.2.2.1, .int .i64 y5.2.2.2.2.2.1, .int .i64 y5.2.2.2.2.2.2.1, .int .i64 y5.2.2.2.2.2.2.2.1, .int .i64 y5.2.2.2.2.2.2.2.2.1, sL 1 (ci .i64) y5.2.2.2.2.2.2.2.2.2.1, .int .u32 y5.2.2.2.2.2.2.2.2.2.2.1, .int .u32 y5.2.2.2.2.2.2.2.2.2.2.2.1, sL 2 c_THop y5.2.2.2.2.2.2.2.2.2.2.2.2.1, .bool y5.2.2.2.2.2.2.2.2.2.2.2.2.2], aL 2 c_THop r11]⟩) (le_sub (.cons Sub.rfl (.cons Sub.rfl (.cons (asl_len (len_eq (c47 _ List.mem_cons_self))) .nil))) (.cons .rfl (.cons .rfl (.cons (.arr (len_eq (c47 _ List.mem_cons_self)) (fun _ _ => rfl)) .nil)))) ?_
 refine awp_seq ?_
 refine awp_le (s' := ⟨50, [(2, .ref 0 0), (3, .ref 1 0), (6, sL 2 c_THop r11)], [.box [.int .u32 0, .int .i64 0, .int .i64 0, .int .i64 0, .int .i64 0, .int .i64 0, .int .i64 0, .int .i64 0, .int .i64 0, .sl true 1 0 (fun _ => []), .int .u32 0, .int .u32 0, .sl true 2 0 (fun _ => []), .bool false], .box [.int .u32 y5.1, .int .i64 y5.2.1, .int .i64 y5.2.2.1, .int .i64 y5.2.2.2.1, .int .i64 y5.2.2.2.2.1, .int .i64 y5.2.2.2.2.2.1, .int .i64 y5.2.2.2.2.2.2.1, .int .i64 y5.2.2.2.2.2.2.2.1, .int .i64 y5.2.2.2.2.2.2.2.2.1, sL 1 (ci .i64) y5.2.2.2.2.2.2.2.2.2.1, .int .u32 y5.2.2.2.2.2.2.2.2.2.2.1, .int .u32 y5.2.2.2.2.2.2.2.2.2.2.2.1, sL 2 c_THop y5.2.2.2.2.2.2.2.2.2.2.2.2.1, .bool y5.2.2.2.2.2.2.2.2.2.2.2.2.2], aL 2 c_THop ([] : List THop)]⟩) (Le.trans (le_frz 6 2 2 c_THop r11 (fun i => c_THop (([] : List THop).getD i default)) (by kernel_rfl) (by kernel_rfl) (by kernel_rfl)) (kp [2, 3, 6])) ?_
 obtain ⟨r12, q49, h50⟩ := bind_some h48
 refine rg [.pure (sL 2 c_THop r12)] [2, 3] 2 ⟨50, [(2, .ref 0 0), (3, .ref 1 0)], [.box [.int .u32 0, .int .i64 0, .int .i64 0, .int .i64 0, .int .i64 0, .int .i64 0, .int .i64 0, .int .i64 0, .int .i64 0, .sl true 1 0 (fun _ => []), .int .u32 0, .int .u32 0, .sl true 2 0 (fun _ => []), .bool false], .box [.int .u32 y5.1, .int .i64 y5.2.1, .int .i64 y5.2.2.1, .int .i64 y5.2.2.2.1, .int .i64 y5.2.2.2.2.1, .int .i64 y5.2.2.2.2.2.1, .int .i64 y5.2.2.2.2.2.2.1, .int .i64 y5.2.2.2.2.2.2.2.1, .int .i64 y5.2.2.2.2.2.2.2.2.1, sL 1 (ci .i64) y5.2.2.2.2.2.2.2.2.2.1, .int .u32 y5.2.2.2.2.2.2.2.2.2.2.1, .int .u32 y5.2.2.2.2.2.2.2.2.2.2.2.1, sL 2 c_THop r12, .bool y5.2.2.2.2.2.2.2.2.2.2.2.2.2]]⟩ [] [⟨true, 74, [sL 2 c_THop r11], .pure (sL 2 c_THop r12)⟩] nil_all ⟨fun _ => slices_Compact_api_Hop_api_Hop_ok r11 r12 q49, trivial⟩ ?_
 refine then_n (awp_seq ?_)
 obtain ⟨r13, q51, h52⟩ := bind_some h50
 refine rg [.pure (sL 1 (ci .i64) r13)] [2, 3] 2 ⟨50, [(2, .ref 0 0), (3, .ref 1 0)], [.box [.int .u32 0, .int .i64 0, .int .i64 0, .int .i64 0, .int .i64 0, .int .i64 0, .int .i64 0, .int .i64 0, .int .i64 0, .sl true 1 0 (fun _ => []), .int .u32 0, .int .u32 0, .sl true 2 0 (fun _ => []), .bool false], .box [.int .u32 y5.1, .int .i64 y5.2.1, .int .i64 y5.2.2.1, .int .i64 y5.2.2.2.1, .int .i64 y5.2.2.2.2.1, .int .i64 y5.2.2.2.2.2.1, .int .i64 y5.2.2.2.2.2.2.1, .int .i64 y5.2.2.2.2.2.2.2.1, .int .i64 y5.2.2.2.2.2.2.2.2.1, sL 1 (ci .i64) r13, .int .u32 y5.2.2.2.2.2.2.2.2.2.2.1, .int .u32 y5.2.2.2.2.2.2.2.2.2.2.2.1, sL 2 c_THop r12, .bool y5.2.2.2.2.2.2.2.2.2.2.2.2.2]]⟩ [] [⟨true, 75, [sL 1 (ci .i64) y5.2.2.2.2.2.2.2.2.2.1], .pure (sL 1 (ci .i64) r13)⟩] nil_all ⟨fun _ => slices_Clone_int_int_ok y5.2.2.2.2.2.2.2.2.2.1 r13 q51, trivial⟩ ?_
 refine then_n (awp_seq (rg0 [2] 1 ⟨50, [(2, .ref 0 0)], [.box [.int .u32 y5.1, .int .i64 y5.2.1, .int .i64 y5.2.2.1, .int .i64 y5.2.2.2.1, .int .i64 y5.2.2.2.2.1, .int .i64 y5.2.2.2.2.2.1, .int .i64 y5.2.2.2.2.2.2.1, .int .i64 y5.2.2.2.2.2.2.2.1, .int .i64 y5.2.2.2.2.2.2.2.2.1, sL 1 (ci .i64) r13, .int .u32 y5.2.2.2.2.2.2.2.2.2.2.1, .int .u32 y5.2.2.2.2.2.2.2.2.2.2.2.1, sL 2 c_THop r12, .bool y5.2.2.2.2.2.2.2.2.2.2.2.2.2]]⟩ ?_))
 refine then_n (awp_ret ?_)
 obtain rfl := Option.some.inj h52
 exact er0 (.agg [.int .u32 y5.1, .int .i64 y5.2.1, .int .i64 y5.2.2.1, .int .i64 y5.2.2.2.1, .int .i64 y5.2.2.2.2.1, .int .i64 y5.2.2.2.2.2.1, .int .i64 y5.2.2.2.2.2.2.1, .int .i64 y5.2.2.2.2.2.2.2.1, .int .i64 y5.2.2.2.2.2.2.2.2.1, sL 1 (ci .i64) r13, .int .u32 y5.2.2.2.2.2.2.2.2.2.2.1, .int .u32 y5.2.2.2.2.2.2.2.2.2.2.2.1, sL 2 c_THop r12, .bool y5.2.2.2.2.2.2.2.2.2.2.2.2.2])

/- netverify/route.Merge -/
theorem route_Merge_ok (a0 : List TRoute) (r : (List TRoute)) (h : M.route_Merge a0 = some r) : Fn Try.prog 19 [sL 14 c_TRoute a0] (.pure (sL 14 c_TRoute r)) := by
 unfold M.route_Merge at h
 refine fn_pure Try.func19 rfl (by kernel_rfl) ?_
 refine awp_seq (rg0 [0] 0 ⟨46, [(0, sL 14 c_TRoute a0)], []⟩ ?_)
 refine then_n (awp_seq ?_)
 obtain ⟨r1, q1, h2⟩ := bind_some h
 refine rg [oL 14 c_TRoute r1] [3] 1 ⟨46, [(3, .asl 0 0 r1.length)], [aL 14 c_TRoute r1]⟩ [] [⟨true, 52, [sL 14 c_TRoute a0], oL 14 c_TRoute r1⟩] nil_all ⟨fun _ => slices_Clone_api_Route_api_Route_own a0 r1 q1, trivial⟩ ?_
 refine then_n (awp_seq ?_)
 obtain ⟨r2, q3, h4⟩ := bind_some h2
 obtain ⟨c5, h6⟩ := gd_some h4
 refine rg [.lnd 0 0 (fun _ => []) (fun i => c_TRoute (r2.getD i default)) (.tup [])] [3] 1 ⟨46, [(3, .asl 0 0 r1.length)], [.arr 14 r1.length (fun i => c_TRoute (r2.getD i default))]⟩ [] [⟨true, 53, [.asl 0 0 r1.length, .fn 54 []], .lnd 14 r1.length (fun i => c_TRoute (r1.getD i default)) (fun i => c_TRoute (r2.getD i default)) (.tup [])⟩] nil_all ⟨fun _ => slices_SortStableFunc_api_Route_api_Route__route_Merge_1_ok r1 r2 q3, trivial⟩ ?_
 refine then_le (s' := ⟨46, [(3, .asl 0 0 r2.length)], [aL 14 c_TRoute r2]⟩) (le_sub (.cons (asl_len (len_eq (c5 _ List.mem_cons_self))) .nil) (.cons (.arr (len_eq (c5 _ List.mem_cons_self)) (fun _ _ => rfl)) .nil)) ?_
 refine awp_seq ?_
 refine awp_le (s' := ⟨46, [(3, sL 14 c_TRoute r2)], [aL 14 c_TRoute ([] : List TRoute)]⟩) (Le.trans (le_frz 3 0 14 c_TRoute r2 (fun i => c_TRoute (([] : List TRoute).getD i default)) (by kernel_rfl) (by kernel_rfl) (by kernel_rfl)) (kp [3])) ?_
 refine rg0 [3, 4] 0 ⟨46, [(3, sL 14 c_TRoute r2), (4, .sl true 14 0 (fun _ => []))], []⟩ ?_
 refine then_n (awp_seq (awp_seq (rg0 [3, 4, 5] 0 ⟨46, [(3, sL 14 c_TRoute r2), (4, .sl true 14 0 (fun _ => [])), (5, .int .i64 0)], []⟩ ?_)))
 refine then_n (awp_block ?_)
 refine awp_le (s' := ⟨46, [(3, sL 14 c_TRoute r2), (4, .sl true 14 0 (fun _ => [])), (5, .int .i64 0)], []⟩) (le_rfl) ?_
 refine awp_le (s' := ⟨46, [(3, sL 14 c_TRoute r2), (4, .asl 0 0 (([] : List TRoute).length)), (5, .int .i64 0)], [aL 14 c_TRoute ([] : List TRoute)]⟩) (Le.trans (s' := ⟨46, (4, .asl 0 0 0) :: [(3, sL 14 c_TRoute r2), (4, .sl true 14 0 (fun _ => [])), (5, .int .i64 0)], [] ++ [.arr 14 0 (fun i => c_TRoute (([] : List TRoute).getD i default))]⟩) (le_thaw (wd := 14) (f := fun _ => []) 4 (by kernel_rfl) _ _) (kp [3, 4, 5])) ?_
 obtain ⟨y9, q27, h28⟩ := bind_some h6
 refine awp_le (s' := ⟨46, [(3, sL 14 c_TRoute r2), (4, .asl 0 0 (([] : List TRoute).length)), (5, .int .i64 0)], [aL 14 c_TRoute ([] : List TRoute)]⟩) (le_rfl) ?_
 refine awp_mono (awp_loop (f := M.route_Merge_l1 r2) (S := fun (p3 : (List TRoute) × Int) => ⟨46, [(3, sL 14 c_TRoute r2), (4, .asl 0 0 p3.1.length), (5, .int .i64 p3.2)], [aL 14 c_TRoute p3.1]⟩) (O := (fun z => OutE 0 (fun z => ⟨46, [(4, .asl 0 0 z.length)], [aL 14 c_TRoute z]⟩) z)) ?_ (x := (([] : List TRoute), 0)) (y := y9) (loopM_iter q27)) ?_
 intro p3 y4 h7
 unfold M.route_Merge_l1 at h7
 refine awp_seq (awp_seq (rg0 [3, 4, 5, 14] 1 ⟨46, [(3, sL 14 c_TRoute r2), (4, .asl 0 0 p3.1.length), (5, .int .i64 p3.2), (14, .bool (decide (p3.2 < (r2.length : Int))))], [aL 14 c_TRoute p3.1]⟩ ?_))
 refine then_n ?_
 refine cnd (decide (p3.2 < (r2.length : Int))) (fun b8 => ?_) (fun b8 => ?_)
 have h9 := cond_t b8 h7
 refine awp_skip (then_n (awp_block (awp_seq (rg0 [3, 4, 5, 6] 1 ⟨46, [(3, sL 14 c_TRoute r2), (4, .asl 0 0 p3.1.length), (5, .int .i64 p3.2), (6, .int .i64 (wr .i64 (p3.2 + 1)))], [aL 14 c_TRoute p3.1]⟩ ?_))))
 refine then_n (awp_seq (awp_block ?_))
 obtain ⟨y7, q17, h18⟩ := bind_some h9
 refine awp_le (s' := ⟨46, [(3, sL 14 c_TRoute r2), (4, .asl 0 0 p3.1.length), (5, .int .i64 p3.2), (6, .int .i64 (wr .i64 (p3.2 + 1)))], [aL 14 c_TRoute p3.1]⟩) (le_rfl) ?_
 refine awp_mono (awp_loop (f := M.route_Merge_l2 r2 p3) (S := fun (p5 : Int) => ⟨46, [(3, sL 14 c_TRoute r2), (4, .asl 0 0 p3.1.length), (5, .int .i64 p3.2), (6, .int .i64 p5)], [aL 14 c_TRoute p3.1]⟩) (O := (fun z => OutE 2 (fun z => ⟨46, [(3, sL 14 c_TRoute r2), (4, .asl 0 0 p3.1.length), (5, .int .i64 p3.2), (6, .int .i64 z)], [aL 14 c_TRoute p3.1]⟩) z)) ?_ (x := (wr .i64 (p3.2 + 1))) (y := y7) (loopM_iter q17)) ?_
 intro p5 y6 h11
 unfold M.route_Merge_l2 at h11
 refine awp_seq (awp_seq ?_)
 obtain ⟨c12, h13⟩ := gd_some h11
 refine rgc [3, 4, 5, 6, 33] 1 ⟨46, [(3, sL 14 c_TRoute r2), (4, .asl 0 0 p3.1.length), (5, .int .i64 p3.2), (6, .int .i64 p5), (33, .bool ((decide (p5 < (r2.length : Int))) && (((((r2.getD p5.toNat default).fPrefix).fAddr) == (((r2.getD p3.2.toNat default).fPrefix).fAddr)) && (((((r2.getD p5.toNat default).fPrefix).fLen) == (((r2.getD p3.2.toNat default).fPrefix).fLen)) && true))))], [aL 14 c_TRoute p3.1]⟩ [guardB (decide (p5 < (r2.length : Int))) (decide (0 ≤ p5)), guardB (decide (p5 < (r2.length : Int))) (decide (p5 < (r2.length : Int))), guardB (decide (p5 < (r2.length : Int))) (decide (0 ≤ p3.2)), guardB (decide (p5 < (r2.length : Int))) (decide (p3.2 < (r2.length : Int)))] c12 ?_
 refine then_n ?_
 refine cnd ((decide (p5 < (r2.length : Int))) && (((((r2.getD p5.toNat default).fPrefix).fAddr) == (((r2.getD p3.2.toNat default).fPrefix).fAddr)) && (((((r2.getD p5.toNat default).fPrefix).fLen) == (((r2.getD p3.2.toNat default).fPrefix).fLen)) && true))) (fun b14 => ?_) (fun b14 => ?_)
 have h15 := cond_t b14 h13
 refine awp_skip (then_n (awp_block (rg0 [3, 4, 5, 6] 1 ⟨46, [(3, sL 14 c_TRoute r2), (4, .asl 0 0 p3.1.length), (5, .int .i64 p3.2), (6, .int .i64 (wr .i64 (p5 + 1)))], [aL 14 c_TRoute p3.1]⟩ ?_)))
 refine inb_n ?_
 obtain rfl := Option.some.inj h15
 exact round_n (le_rfl)
 have h16 := cond_f b14 h13
 refine awp_exit (then_e ?_)
 obtain rfl := Option.some.inj h16
 exact round_e ⟨rfl, kp [3, 4, 5, 6]⟩
 intro e19 s20 o21
 obtain ⟨rfl, l22⟩ := o21
 refine inb_here ?_
 refine then_le (s' := ⟨46, [(3, sL 14 c_TRoute r2), (4, .asl 0 0 p3.1.length), (5, .int .i64 p3.2), (6, .int .i64 y7)], [aL 14 c_TRoute p3.1]⟩) (l22) ?_
 refine awp_seq ?_
 obtain ⟨r8, q23, h24⟩ := bind_some h18
 obtain ⟨c25, h26⟩ := gd_some h24
 refine rg [.pure (.agg (c_TRoute r8))] [3, 4, 6] 1 ⟨46, [(3, sL 14 c_TRoute r2), (4, .asl 0 0 (p3.1.length + 1)), (6, .int .i64 y7)], [.arr 14 (p3.1.length + 1) (app (fun i => c_TRoute (p3.1.getD i default)) p3.1.length (fun i => List.take 14 (List.drop (i * 14) [.int .u32 r8.fPrefix.fAddr, .int .i64 r8.fPrefix.fLen, .int .i64 r8.fProto, .int .i64 r8.fClass, .int .i64 r8.fAdmin, .int .i64 r8.fMetric, .int .i64 r8.fInner, .int .i64 r8.fTag, .int .i64 r8.fPref, sL 1 (ci .i64) r8.fPath, .int .u32 r8.fFrom, .int .u32 r8.fNext, sL 2 c_THop r8.fHops, .bool r8.fDiscard])))]⟩ [decide (0 ≤ y7), decide (y7 ≤ (r2.length : Int)), decide (0 ≤ p3.2), decide (p3.2 ≤ (y7.toNat : Int)), decide ((p3.1.length + 1) * 136 ≤ 140737488355328)] [⟨true, 56, [.sl false 14 (y7.toNat - p3.2.toNat) (fun i => c_TRoute (r2.getD (p3.2.toNat + i) default))], .pure (.agg (c_TRoute r8))⟩] c25 ⟨fun _ => (route_mergeOne_ok ((r2.drop p3.2.toNat).take (y7.toNat - p3.2.toNat)) r8 q23).args (.cons (asub_sl (len_cut _ _ _ (cut_hi (c25 _ (List.mem_cons_of_mem _ List.mem_cons_self)))) (cut_ext _ _ _ _)) .nil), trivial⟩ ?_
 refine then_le (s' := ⟨46, [(3, sL 14 c_TRoute r2), (4, .asl 0 0 ((p3.1 ++ [r8]).length)), (6, .int .i64 y7)], [aL 14 c_TRoute (p3.1 ++ [r8])]⟩) (le_sub (.cons Sub.rfl (.cons (asl_len (len_snoc _ _)) (.cons Sub.rfl .nil))) (.cons (.arr (len_snoc _ _) (app_snoc c_TRoute p3.1 r8 _ rfl)) .nil)) ?_
 refine rg0 [3, 4, 5] 1 ⟨46, [(3, sL 14 c_TRoute r2), (4, .asl 0 0 ((p3.1 ++ [r8]).length)), (5, .int .i64 y7)], [aL 14 c_TRoute (p3.1 ++ [r8])]⟩ ?_
 refine inb_n ?_
 obtain rfl := Option.some.inj h26
 exact round_n (le_rfl)
 have h10 := cond_f b8 h7
 refine awp_exit (then_e ?_)
 obtain rfl := Option.some.inj h10
 exact round_e ⟨rfl, kp [4]⟩
 intro e29 s30 o31
 obtain ⟨rfl, l32⟩ := o31
 refine inb_here ?_
 refine then_le (s' := ⟨46, [(4, .asl 0 0 y9.length)], [aL 14 c_TRoute y9]⟩) (l32) ?_
 refine awp_seq (rg0 [2] 1 ⟨46, [(2, .asl 0 0 y9.length)], [aL 14 c_TRoute y9]⟩ ?_)
 refine then_n (awp_ret ?_)
 obtain rfl := Option.some.inj h28
 exact er (.sl false 14 y9.length (fun i => c_TRoute (y9.getD (0 + i) default))) sub_asl

/- netverify/addr.Contains -/
theorem addr_Contains_ok (a0 : TPrefix) (a1 : Int) (r : Bool) (h : M.addr_Contains a0 a1 = some r) : Fn Try.prog 58 [.agg (c_TPrefix a0), .int .u32 a1] (.pure (.bool r)) := by
 unfold M.addr_Contains at h
 refine fn_pure Try.func58 rfl (by kernel_rfl) ?_
 refine awp_seq (rg0 [1, 2] 1 ⟨13, [(1, .int .u32 a1), (2, .ref 0 0)], [.box (c_TPrefix a0)]⟩ ?_)
 refine then_n (awp_seq ?_)
 obtain ⟨r1, q1, h2⟩ := bind_some h
 refine rg [.pure (.int .u32 r1)] [4] 0 ⟨13, [(4, .bool ((bitD .and .u32 a1 r1) == a0.fAddr))], []⟩ [] [⟨true, 76, [.int .i64 a0.fLen], .pure (.int .u32 r1)⟩] nil_all ⟨fun _ => addr_Mask_ok a0.fLen r1 q1, trivial⟩ ?_
 refine then_n (awp_ret ?_)
 obtain rfl := Option.some.inj h2
 exact er0 (.bool ((bitD .and .u32 a1 r1) == a0.fAddr))

/- netverify/route.Longest -/
theorem route_Longest_ok (a0 : List TRoute) (a1 : Int) (r : Int) (h : M.route_Longest a0 a1 = some r) : Fn Try.prog 22 [sL 14 c_TRoute a0, .int .u32 a1] (.pure (.int .i64 r)) := by
 unfold M.route_Longest at h
 refine fn_pure Try.func22 rfl (by kernel_rfl) ?_
 refine awp_seq (rg0 [0, 1] 0 ⟨38, [(0, sL 14 c_TRoute a0), (1, .int .u32 a1)], []⟩ ?_)
 refine then_n (awp_seq (rg0 [0, 1, 5] 0 ⟨38, [(0, sL 14 c_TRoute a0), (1, .int .u32 a1), (5, .int .i64 (-1))], []⟩ ?_))
 refine then_n (awp_seq (awp_seq (rg0 [0, 1, 5, 8, 9, 10] 0 ⟨38, [(0, sL 14 c_TRoute a0), (1, .int .u32 a1), (5, .int .i64 (-1)), (8, sL 14 c_TRoute a0), (9, .int .i64 (a0.length : Int)), (10, .int .i64 0)], []⟩ ?_)))
 refine then_n (awp_block ?_)
 obtain ⟨y5, q16, h17⟩ := bind_some h
 refine awp_le (s' := ⟨38, [(0, sL 14 c_TRoute a0), (1, .int .u32 a1), (5, .int .i64 (-1)), (8, sL 14 c_TRoute a0), (9, .int .i64 (a0.length : Int)), (10, .int .i64 0)], []⟩) (le_rfl) ?_
 refine awp_mono (awp_loop (f := M.route_Longest_l1 a0 a1) (S := fun (p1 : Int × Int) => ⟨38, [(0, sL 14 c_TRoute a0), (1, .int .u32 a1), (5, .int .i64 p1.1), (8, sL 14 c_TRoute a0), (9, .int .i64 (a0.length : Int)), (10, .int .i64 p1.2)], []⟩) (O := (fun z => OutE 0 (fun z => ⟨38, [(5, .int .i64 z)], []⟩) z)) ?_ (x := ((-1), 0)) (y := y5) (loopM_iter q16)) ?_
 intro p1 y2 h1
 unfold M.route_Longest_l1 at h1
 refine awp_seq (rg0 [0, 1, 5, 8, 9, 10, 11] 0 ⟨38, [(0, sL 14 c_TRoute a0), (1, .int .u32 a1), (5, .int .i64 p1.1), (8, sL 14 c_TRoute a0), (9, .int .i64 (a0.length : Int)), (10, .int .i64 p1.2), (11, .bool (decide (p1.2 < (a0.length : Int))))], []⟩ ?_)
 refine then_n (awp_seq ?_)
 refine cnd (decide (p1.2 < (a0.length : Int))) (fun b2 => ?_) (fun b2 => ?_)
 have h3 := cond_t b2 h1
 refine awp_skip (then_n ?_)
 refine awp_join (fun (p3 : Int) => ⟨38, [(0, sL 14 c_TRoute a0), (1, .int .u32 a1), (5, .int .i64 p3), (8, sL 14 c_TRoute a0), (9, .int .i64 (a0.length : Int)), (10, .int .i64 p1.2)], []⟩) (fun p3 => M.route_Longest_k1 p1 p3 = some y2) ?_ ?_
 intro p3 h6
 unfold M.route_Longest_k1 at h6
 refine rg0 [0, 1, 5, 8, 9, 10] 0 ⟨38, [(0, sL 14 c_TRoute a0), (1, .int .u32 a1), (5, .int .i64 p3), (8, sL 14 c_TRoute a0), (9, .int .i64 (a0.length : Int)), (10, .int .i64 (wr .i64 (p1.2 + 1)))], []⟩ ?_
 obtain rfl := Option.some.inj h6
 exact round_n (le_rfl)
 intro k5
 refine awp_block (awp_seq ?_)
 obtain ⟨c7, h8⟩ := gd_some h3
 refine rgc [0, 1, 5, 6, 7, 8, 9, 10] 1 ⟨38, [(0, sL 14 c_TRoute a0), (1, .int .u32 a1), (5, .int .i64 p1.1), (6, .int .i64 p1.2), (7, .ref 0 0), (8, sL 14 c_TRoute a0), (9, .int .i64 (a0.length : Int)), (10, .int .i64 p1.2)], [.box (c_TRoute (a0.getD p1.2.toNat default))]⟩ [decide (0 ≤ p1.2), decide (p1.2 < (a0.length : Int))] c7 ?_
 refine then_n (awp_seq ?_)
 obtain ⟨r4, q9, h10⟩ := bind_some h8
 obtain ⟨c11, h12⟩ := gd_some h10
 refine rg [.pure (.bool r4)] [0, 1, 5, 6, 8, 9, 10, 34] 0 ⟨38, [(0, sL 14 c_TRoute a0), (1, .int .u32 a1), (5, .int .i64 p1.1), (6, .int .i64 p1.2), (8, sL 14 c_TRoute a0), (9, .int .i64 (a0.length : Int)), (10, .int .i64 p1.2), (34, .bool (r4 && ((decide (p1.1 < 0)) || (decide ((((a0.getD p1.2.toNat default).fPrefix).fLen) > (((a0.getD p1.1.toNat default).fPrefix).fLen))))))], []⟩ [guardB (r4 && !(decide (p1.1 < 0))) (decide (0 ≤ p1.1)), guardB (r4 && !(decide (p1.1 < 0))) (decide (p1.1 < (a0.length : Int)))] [⟨true, 58, [.agg (c_TPrefix ((a0.getD p1.2.toNat default).fPrefix)), .int .u32 a1], .pure (.bool r4)⟩] c11 ⟨fun _ => addr_Contains_ok ((a0.getD p1.2.toNat default).fPrefix) a1 r4 q9, trivial⟩ ?_
 refine then_n ?_
 refine cnd (r4 && ((decide (p1.1 < 0)) || (decide ((((a0.getD p1.2.toNat default).fPrefix).fLen) > (((a0.getD p1.1.toNat default).fPrefix).fLen))))) (fun b13 => ?_) (fun b13 => ?_)
 have h14 := cond_t b13 h12
 refine rg0 [0, 1, 5, 8, 9, 10] 0 ⟨38, [(0, sL 14 c_TRoute a0), (1, .int .u32 a1), (5, .int .i64 p1.2), (8, sL 14 c_TRoute a0), (9, .int .i64 (a0.length : Int)), (10, .int .i64 p1.2)], []⟩ ?_
 refine inb_n ?_
 exact then_le (le_rfl) (k5 p1.2 h14)
 have h15 := cond_f b13 h12
 refine awp_skip (inb_n ?_)
 exact then_le (kp [0, 1, 5, 8, 9, 10]) (k5 p1.1 h15)
 have h4 := cond_f b2 h1
 refine awp_exit (then_e ?_)
 obtain rfl := Option.some.inj h4
 exact round_e ⟨rfl, kp [5]⟩
 intro e18 s19 o20
 obtain ⟨rfl, l21⟩ := o20
 refine inb_here ?_
 refine then_le (s' := ⟨38, [(5, .int .i64 y5)], []⟩) (l21) ?_
 refine awp_seq (rg0 [4] 0 ⟨38, [(4, .int .i64 y5)], []⟩ ?_)
 refine then_n (awp_ret ?_)
 obtain rfl := Option.some.inj h17
 exact er0 (.int .i64 y5)

/- netverify/netverifylaw14.sane -/
theorem law14_sane_ok  (r : Bool) (h : M.law14_sane  = some r) : Fn Try.prog 15 [] (.pure (.bool r)) := by
 unfold M.law14_sane at h
 refine fn_pure Try.func15 rfl (by kernel_rfl) ?_
 refine awp_seq (rg0 [] 0 ⟨50, [], []⟩ ?_)
 refine then_n (awp_seq (rg0 [1] 1 ⟨50, [(1, .ref 0 0)], [.box [.int .u32 0, .int .i64 0, .int .i64 4, .int .i64 3, .int .i64 120, .int .i64 3, .int .i64 0, .int .i64 0, .int .i64 0, .sl true 1 0 (fun _ => []), .int .u32 0, .int .u32 0, .sl true 2 1 (fun i => List.take 2 (List.drop (i * 2) [.int .i64 0, .int .u32 7])), .bool false]]⟩ ?_))
 refine then_n (awp_seq (rg0 [1, 2] 2 ⟨50, [(1, .ref 0 0), (2, .ref 1 0)], [.box [.int .u32 0, .int .i64 0, .int .i64 4, .int .i64 3, .int .i64 120, .int .i64 3, .int .i64 0, .int .i64 0, .int .i64 0, .sl true 1 0 (fun _ => []), .int .u32 0, .int .u32 0, .sl true 2 1 (fun i => List.take 2 (List.drop (i * 2) [.int .i64 0, .int .u32 7])), .bool false], .box [.int .u32 0, .int .i64 0, .int .i64 4, .int .i64 3, .int .i64 120, .int .i64 3, .int .i64 0, .int .i64 0, .int .i64 0, .sl true 1 0 (fun _ => []), .int .u32 0, .int .u32 0, .sl true 2 1 (fun i => List.take 2 (List.drop (i * 2) [.int .i64 0, .int .u32 7])), .bool false]]⟩ ?_))
 refine then_n (awp_seq (rg0 [1, 2] 2 ⟨50, [(1, .ref 0 0), (2, .ref 1 0)], [.box [.int .u32 0, .int .i64 0, .int .i64 4, .int .i64 3, .int .i64 120, .int .i64 3, .int .i64 0, .int .i64 0, .int .i64 0, .sl true 1 0 (fun _ => []), .int .u32 0, .int .u32 0, .sl true 2 1 (fun i => List.take 2 (List.drop (i * 2) [.int .i64 0, .int .u32 7])), .bool false], .box [.int .u32 0, .int .i64 0, .int .i64 4, .int .i64 3, .int .i64 120, .int .i64 2, .int .i64 0, .int .i64 0, .int .i64 0, .sl true 1 0 (fun _ => []), .int .u32 0, .int .u32 0, .sl true 2 1 (fun i => List.take 2 (List.drop (i * 2) [.int .i64 1, .int .u32 9])), .bool false]]⟩ ?_))
 refine then_n (awp_seq ?_)
 obtain ⟨r1, q1, h2⟩ := bind_some h
 refine rg [.pure (sL 14 c_TRoute r1)] [1, 2, 3] 2 ⟨50, [(1, .ref 0 0), (2, .ref 1 0), (3, sL 14 c_TRoute r1)], [.box [.int .u32 0, .int .i64 0, .int .i64 4, .int .i64 3, .int .i64 120, .int .i64 3, .int .i64 0, .int .i64 0, .int .i64 0, .sl true 1 0 (fun _ => []), .int .u32 0, .int .u32 0, .sl true 2 1 (fun i => List.take 2 (List.drop (i * 2) [.int .i64 0, .int .u32 7])), .bool false], .box [.int .u32 0, .int .i64 0, .int .i64 4, .int .i64 3, .int .i64 120, .int .i64 2, .int .i64 0, .int .i64 0, .int .i64 0, .sl true 1 0 (fun _ => []), .int .u32 0, .int .u32 0, .sl true 2 1 (fun i => List.take 2 (List.drop (i * 2) [.int .i64 1, .int .u32 9])), .bool false]]⟩ [] [⟨true, 19, [.sl false 14 2 (fun i => List.take 14 (List.drop (i * 14) [.int .u32 0, .int .i64 0, .int .i64 4, .int .i64 3, .int .i64 120, .int .i64 3, .int .i64 0, .int .i64 0, .int .i64 0, .sl true 1 0 (fun _ => []), .int .u32 0, .int .u32 0, .sl true 2 1 (fun i => List.take 2 (List.drop (i * 2) [.int .i64 0, .int .u32 7])), .bool false, .int .u32 0, .int .i64 0, .int .i64 4, .int .i64 3, .int .i64 120, .int .i64 2, .int .i64 0, .int .i64 0, .int .i64 0, .sl true 1 0 (fun _ => []), .int .u32 0, .int .u32 0, .sl true 2 1 (fun i => List.take 2 (List.drop (i * 2) [.int .i64 1, .int .u32 9])), .bool false]))], .pure (sL 14 c_TRoute r1)⟩] nil_all ⟨fun _ => (route_Merge_ok ([(⟨(⟨0, 0⟩ : TPrefix), 4, 3, 120, 3, 0, 0, 0, ([] : List Int), 0, 0, ([(⟨0, 7⟩ : THop)] : List THop), false⟩ : TRoute), (⟨(⟨0, 0⟩ : TPrefix), 4, 3, 120, 2, 0, 0, 0, ([] : List Int), 0, 0, ([(⟨1, 9⟩ : THop)] : List THop), false⟩ : TRoute)] : List TRoute) r1 q1).args (.cons (asub_psl rfl (fun i hi => match i, hi with | 0, _ => (.cons PSub.rfl (.cons PSub.rfl (.cons PSub.rfl (.cons PSub.rfl (.cons PSub.rfl (.cons PSub.rfl (.cons PSub.rfl (.cons PSub.rfl (.cons PSub.rfl (.cons psub_nil (.cons PSub.rfl (.cons PSub.rfl (.cons (psub_sl rfl (fun i hi => match i, hi with | 0, _ => (.cons PSub.rfl (.cons PSub.rfl .nil)) | n + 1, h => absurd h (by omega))) (.cons PSub.rfl .nil)))))))))))))) | 1, _ => (.cons PSub.rfl (.cons PSub.rfl (.cons PSub.rfl (.cons PSub.rfl (.cons PSub.rfl (.cons PSub.rfl (.cons PSub.rfl (.cons PSub.rfl (.cons PSub.rfl (.cons psub_nil (.cons PSub.rfl (.cons PSub.rfl (.cons (psub_sl rfl (fun i hi => match i, hi with | 0, _ => (.cons PSub.rfl (.cons PSub.rfl .nil)) | n + 1, h => absurd h (by omega))) (.cons PSub.rfl .nil)))))))))))))) | n + 2, h => absurd h (by omega))) .nil), trivial⟩ ?_
 refine then_n (awp_seq ?_)
 obtain ⟨r2, q3, h4⟩ := bind_some h2
 obtain ⟨r3, q5, h6⟩ := bind_some h4
 obtain ⟨r4, q7, h8⟩ := bind_some h6
 obtain ⟨r5, q9, h10⟩ := bind_some h8
 obtain ⟨r6, q11, h12⟩ := bind_some h10
 obtain ⟨c13, h14⟩ := gd_some h12
 refine rg [.pure (.bool r2), .pure (.bool r3), .pure (.int .i64 r4), .pure (.int .i64 r5), .pure (.bool r6)] [0] 0 ⟨50, [(0, .bool ((((((r2 && r3) && (r4 == (-1))) && ((r1.length : Int) == 1)) && (((r1.getD (0 : Int).toNat default).fMetric) == 2)) && (r5 == 0)) && (!r6)))], []⟩ [guardB (((r2 && r3) && (r4 == (-1))) && ((r1.length : Int) == 1)) (decide (0 ≤ 0)), guardB (((r2 && r3) && (r4 == (-1))) && ((r1.length : Int) == 1)) (decide (0 < (r1.length : Int)))] [⟨true, 13, [.agg [.int .u32 0, .int .i64 0, .int .i64 4, .int .i64 3, .int .i64 120, .int .i64 3, .int .i64 0, .int .i64 0, .int .i64 0, .sl false 1 0 (fun _ => []), .int .u32 0, .int .u32 0, .sl false 2 1 (fun i => List.take 2 (List.drop (i * 2) [.int .i64 0, .int .u32 7])), .bool false]], .pure (.bool r2)⟩, ⟨r2, 13, [.agg [.int .u32 0, .int .i64 0, .int .i64 4, .int .i64 3, .int .i64 120, .int .i64 2, .int .i64 0, .int .i64 0, .int .i64 0, .sl false 1 0 (fun _ => []), .int .u32 0, .int .u32 0, .sl false 2 1 (fun i => List.take 2 (List.drop (i * 2) [.int .i64 1, .int .u32 9])), .bool false]], .pure (.bool r3)⟩, ⟨r2 && r3, 17, [.agg [.int .u32 0, .int .i64 0, .int .i64 4, .int .i64 3, .int .i64 120, .int .i64 2, .int .i64 0, .int .i64 0, .int .i64 0, .sl false 1 0 (fun _ => []), .int .u32 0, .int .u32 0, .sl false 2 1 (fun i => List.take 2 (List.drop (i * 2) [.int .i64 1, .int .u32 9])), .bool false], .agg [.int .u32 0, .int .i64 0, .int .i64 4, .int .i64 3, .int .i64 120, .int .i64 3, .int .i64 0, .int .i64 0, .int .i64 0, .sl false 1 0 (fun _ => []), .int .u32 0, .int .u32 0, .sl false 2 1 (fun i => List.take 2 (List.drop (i * 2) [.int .i64 0, .int .u32 7])), .bool false]], .pure (.int .i64 r4)⟩, ⟨(((r2 && r3) && (r4 == (-1))) && ((r1.length : Int) == 1)) && (((r1.getD (0 : Int).toNat default).fMetric) == 2), 22, [sL 14 c_TRoute r1, .int .u32 5], .pure (.int .i64 r5)⟩, ⟨((((r2 && r3) && (r4 == (-1))) && ((r1.length : Int) == 1)) && (((r1.getD (0 : Int).toNat default).fMetric) == 2)) && (r5 == 0), 13, [.agg [.int .u32 0, .int .i64 0, .int .i64 0, .int .i64 0, .int .i64 0, .int .i64 0, .int .i64 0, .int .i64 0, .int .i64 0, .sl false 1 0 (fun _ => []), .int .u32 0, .int .u32 0, .sl false 2 0 (fun _ => []), .bool false]], .pure (.bool r6)⟩] c13 ⟨fun _ => (route_Valid_ok (⟨(⟨0, 0⟩ : TPrefix), 4, 3, 120, 3, 0, 0, 0, ([] : List Int), 0, 0, ([(⟨0, 7⟩ : THop)] : List THop), false⟩ : TRoute) r2 q3).args (.cons (asub_agg (.cons CSub.rfl (.cons CSub.rfl (.cons CSub.rfl (.cons CSub.rfl (.cons CSub.rfl (.cons CSub.rfl (.cons CSub.rfl (.cons CSub.rfl (.cons CSub.rfl (.cons csub_nil (.cons CSub.rfl (.cons CSub.rfl (.cons (csub_sl rfl (fun i hi => match i, hi with | 0, _ => rfl | n + 1, h => absurd h (by omega))) (.cons CSub.rfl .nil))))))))))))))) .nil), fun hg => (route_Valid_ok (⟨(⟨0, 0⟩ : TPrefix), 4, 3, 120, 2, 0, 0, 0, ([] : List Int), 0, 0, ([(⟨1, 9⟩ : THop)] : List THop), false⟩ : TRoute) r3 (gc_some q5 hg)).args (.cons (asub_agg (.cons CSub.rfl (.cons CSub.rfl (.cons CSub.rfl (.cons CSub.rfl (.cons CSub.rfl (.cons CSub.rfl (.cons CSub.rfl (.cons CSub.rfl (.cons CSub.rfl (.cons csub_nil (.cons CSub.rfl (.cons CSub.rfl (.cons (csub_sl rfl (fun i hi => match i, hi with | 0, _ => rfl | n + 1, h => absurd h (by omega))) (.cons CSub.rfl .nil))))))))))))))) .nil), fun hg => (route_Prefer_ok (⟨(⟨0, 0⟩ : TPrefix), 4, 3, 120, 2, 0, 0, 0, ([] : List Int), 0, 0, ([(⟨1, 9⟩ : THop)] : List THop), false⟩ : TRoute) (⟨(⟨0, 0⟩ : TPrefix), 4, 3, 120, 3, 0, 0, 0, ([] : List Int), 0, 0, ([(⟨0, 7⟩ : THop)] : List THop), false⟩ : TRoute) r4 (gc_some q7 hg)).args (.cons (asub_agg (.cons CSub.rfl (.cons CSub.rfl (.cons CSub.rfl (.cons CSub.rfl (.cons CSub.rfl (.cons CSub.rfl (.cons CSub.rfl (.cons CSub.rfl (.cons CSub.rfl (.cons csub_nil (.cons CSub.rfl (.cons CSub.rfl (.cons (csub_sl rfl (fun i hi => match i, hi with | 0, _ => rfl | n + 1, h => absurd h (by omega))) (.cons CSub.rfl .nil))))))))))))))) (.cons (asub_agg (.cons CSub.rfl (.cons CSub.rfl (.cons CSub.rfl (.cons CSub.rfl (.cons CSub.rfl (.cons CSub.rfl (.cons CSub.rfl (.cons CSub.rfl (.cons CSub.rfl (.cons csub_nil (.cons CSub.rfl (.cons CSub.rfl (.cons (csub_sl rfl (fun i hi => match i, hi with | 0, _ => rfl | n + 1, h => absurd h (by omega))) (.cons CSub.rfl .nil))))))))))))))) .nil)), fun hg => route_Longest_ok r1 5 r5 (gc_some q9 hg), fun hg => (route_Valid_ok (⟨(⟨0, 0⟩ : TPrefix), 0, 0, 0, 0, 0, 0, 0, ([] : List Int), 0, 0, ([] : List THop), false⟩ : TRoute) r6 (gc_some q11 hg)).args (.cons (asub_agg (.cons CSub.rfl (.cons CSub.rfl (.cons CSub.rfl (.cons CSub.rfl (.cons CSub.rfl (.cons CSub.rfl (.cons CSub.rfl (.cons CSub.rfl (.cons CSub.rfl (.cons csub_nil (.cons CSub.rfl (.cons CSub.rfl (.cons csub_nil (.cons CSub.rfl .nil))))))))))))))) .nil), trivial⟩ ?_
 refine then_n (awp_ret ?_)
 obtain rfl := Option.some.inj h14
 exact er0 (.bool ((((((r2 && r3) && (r4 == (-1))) && ((r1.length : Int) == 1)) && (((r1.getD (0 : Int).toNat default).fMetric) == 2)) && (r5 == 0)) && (!r6)))

/- netverify/route.Find -/
theorem route_Find_ok (a0 : List TRoute) (a1 : TPrefix) (r : Int) (h : M.route_Find a0 a1 = some r) : Fn Try.prog 25 [sL 14 c_TRoute a0, .agg (c_TPrefix a1)] (.pure (.int .i64 r)) := by
 unfold M.route_Find at h
 refine fn_pure Try.func25 rfl (by kernel_rfl) ?_
 refine awp_seq (rg0 [0, 3] 1 ⟨20, [(0, sL 14 c_TRoute a0), (3, .ref 0 0)], [.box (c_TPrefix a1)]⟩ ?_)
 refine then_n (awp_seq (awp_seq (rg0 [3, 7, 8, 9] 1 ⟨20, [(3, .ref 0 0), (7, sL 14 c_TRoute a0), (8, .int .i64 (a0.length : Int)), (9, .int .i64 0)], [.box (c_TPrefix a1)]⟩ ?_)))
 refine then_n (awp_block ?_)
 obtain ⟨y3, q10, h11⟩ := bind_some h
 refine awp_le (s' := ⟨20, [(3, .ref 0 0), (7, sL 14 c_TRoute a0), (8, .int .i64 (a0.length : Int)), (9, .int .i64 0)], [.box (c_TPrefix a1)]⟩) (le_rfl) ?_
 refine awp_mono (awp_loop (f := M.route_Find_l1 a0 a1) (S := fun (p1 : Int) => ⟨20, [(3, .ref 0 0), (7, sL 14 c_TRoute a0), (8, .int .i64 (a0.length : Int)), (9, .int .i64 p1)], [.box (c_TPrefix a1)]⟩) (O := (Sum.elim (fun z => OutE 0 (fun z => ⟨20, [], []⟩) z) (fun z => OutR Try.prog Try.f25 (.int .i64 z)))) ?_ (x := 0) (y := y3) (loopM_iter q10)) ?_
 intro p1 y2 h1
 unfold M.route_Find_l1 at h1
 refine awp_seq (rg0 [3, 7, 8, 9, 10] 1 ⟨20, [(3, .ref 0 0), (7, sL 14 c_TRoute a0), (8, .int .i64 (a0.length : Int)), (9, .int .i64 p1), (10, .bool (decide (p1 < (a0.length : Int))))], [.box (c_TPrefix a1)]⟩ ?_)
 refine then_n (awp_seq ?_)
 refine cnd (decide (p1 < (a0.length : Int))) (fun b2 => ?_) (fun b2 => ?_)
 have h3 := cond_t b2 h1
 refine awp_skip (then_n (awp_seq (awp_block (awp_seq ?_))))
 obtain ⟨c5, h6⟩ := gd_some h3
 refine rgc [3, 5, 6, 7, 8, 9] 2 ⟨20, [(3, .ref 0 0), (5, .int .i64 p1), (6, .ref 1 0), (7, sL 14 c_TRoute a0), (8, .int .i64 (a0.length : Int)), (9, .int .i64 p1)], [.box (c_TPrefix a1), .box (c_TRoute (a0.getD p1.toNat default))]⟩ [decide (0 ≤ p1), decide (p1 < (a0.length : Int))] c5 ?_
 refine then_n (awp_seq (rg0 [3, 5, 7, 8, 9, 17] 1 ⟨20, [(3, .ref 0 0), (5, .int .i64 p1), (7, sL 14 c_TRoute a0), (8, .int .i64 (a0.length : Int)), (9, .int .i64 p1), (17, .bool (((((a0.getD p1.toNat default).fPrefix).fAddr) == a1.fAddr) && (((((a0.getD p1.toNat default).fPrefix).fLen) == a1.fLen) && true)))], [.box (c_TPrefix a1)]⟩ ?_))
 refine then_n ?_
 refine cnd (((((a0.getD p1.toNat default).fPrefix).fAddr) == a1.fAddr) && (((((a0.getD p1.toNat default).fPrefix).fLen) == a1.fLen) && true)) (fun b7 => ?_) (fun b7 => ?_)
 have h8 := cond_t b7 h6
 refine awp_seq (rg0 [4] 0 ⟨20, [(4, .int .i64 p1)], []⟩ ?_)
 refine then_n (awp_ret (inb_r (then_r ?_)))
 obtain rfl := Option.some.inj h8
 exact round_r ⟨rfl, er0 (.int .i64 p1)⟩
 have h9 := cond_f b7 h6
 refine awp_skip (inb_n (then_n (rg0 [3, 7, 8, 9] 1 ⟨20, [(3, .ref 0 0), (7, sL 14 c_TRoute a0), (8, .int .i64 (a0.length : Int)), (9, .int .i64 (wr .i64 (p1 + 1)))], [.box (c_TPrefix a1)]⟩ ?_)))
 obtain rfl := Option.some.inj h9
 exact round_n (le_rfl)
 have h4 := cond_f b2 h1
 refine awp_exit (then_e ?_)
 obtain rfl := Option.some.inj h4
 exact round_e ⟨rfl, Le.trans (s' := ⟨20, [], [.box (c_TPrefix a1)]⟩) (kp []) (le_cut (n := 0) (by kernel_rfl))⟩
 intro e12 s13 o14
 rcases y3 with g4 | y5
 have h15 := elim_l h11
 obtain ⟨rfl, l17⟩ := o14
 refine inb_here ?_
 refine then_le (s' := ⟨20, [], []⟩) (l17) ?_
 refine awp_seq (rg0 [4] 0 ⟨20, [(4, .int .i64 (-1))], []⟩ ?_)
 refine then_n (awp_ret ?_)
 obtain rfl := Option.some.inj h15
 exact er0 (.int .i64 (-1))
 have h16 := elim_r h11
 obtain ⟨rfl, n18⟩ := o14
 refine inb_r (then_r ?_)
 obtain rfl := Option.some.inj h16
 exact n18

/- netverify/netverifyref15.Find -/
theorem ref15_Find_ok (a0 : List TRoute) (a1 : TPrefix) (r : Int) (h : M.ref15_Find a0 a1 = some r) : Fn Try.prog 20 [sL 14 c_TRoute a0, .agg (c_TPrefix a1)] (.pure (.int .i64 r)) := by
 unfold M.ref15_Find at h
 refine fn_pure Try.func20 rfl (by kernel_rfl) ?_
 refine awp_seq (rg0 [0, 3] 1 ⟨20, [(0, sL 14 c_TRoute a0), (3, .ref 0 0)], [.box (c_TPrefix a1)]⟩ ?_)
 refine then_n (awp_seq (awp_seq (rg0 [0, 3, 5] 1 ⟨20, [(0, sL 14 c_TRoute a0), (3, .ref 0 0), (5, .int .i64 0)], [.box (c_TPrefix a1)]⟩ ?_)))
 refine then_n (awp_block ?_)
 obtain ⟨y3, q10, h11⟩ := bind_some h
 refine awp_le (s' := ⟨20, [(0, sL 14 c_TRoute a0), (3, .ref 0 0), (5, .int .i64 0)], [.box (c_TPrefix a1)]⟩) (le_rfl) ?_
 refine awp_mono (awp_loop (f := M.ref15_Find_l1 a0 a1) (S := fun (p1 : Int) => ⟨20, [(0, sL 14 c_TRoute a0), (3, .ref 0 0), (5, .int .i64 p1)], [.box (c_TPrefix a1)]⟩) (O := (Sum.elim (fun z => OutE 0 (fun z => ⟨20, [], []⟩) z) (fun z => OutR Try.prog Try.f20 (.int .i64 z)))) ?_ (x := 0) (y := y3) (loopM_iter q10)) ?_
 intro p1 y2 h1
 unfold M.ref15_Find_l1 at h1
 refine awp_seq (awp_seq (rg0 [0, 3, 5, 9] 1 ⟨20, [(0, sL 14 c_TRoute a0), (3, .ref 0 0), (5, .int .i64 p1), (9, .bool (decide (p1 < (a0.length : Int))))], [.box (c_TPrefix a1)]⟩ ?_))
 refine then_n ?_
 refine cnd (decide (p1 < (a0.length : Int))) (fun b2 => ?_) (fun b2 => ?_)
 have h3 := cond_t b2 h1
 refine awp_skip (then_n (awp_seq (awp_block (awp_seq ?_))))
 obtain ⟨c5, h6⟩ := gd_some h3
 refine rgc [0, 3, 5, 18] 1 ⟨20, [(0, sL 14 c_TRoute a0), (3, .ref 0 0), (5, .int .i64 p1), (18, .bool (((((a0.getD p1.toNat default).fPrefix).fAddr) == a1.fAddr) && (((((a0.getD p1.toNat default).fPrefix).fLen) == a1.fLen) && true)))], [.box (c_TPrefix a1)]⟩ [decide (0 ≤ p1), decide (p1 < (a0.length : Int))] c5 ?_
 refine then_n ?_
 refine cnd (((((a0.getD p1.toNat default).fPrefix).fAddr) == a1.fAddr) && (((((a0.getD p1.toNat default).fPrefix).fLen) == a1.fLen) && true)) (fun b7 => ?_) (fun b7 => ?_)
 have h8 := cond_t b7 h6
 refine awp_seq (rg0 [4] 0 ⟨20, [(4, .int .i64 p1)], []⟩ ?_)
 refine then_n (awp_ret (inb_r (then_r ?_)))
 obtain rfl := Option.some.inj h8
 exact round_r ⟨rfl, er0 (.int .i64 p1)⟩
 have h9 := cond_f b7 h6
 refine awp_skip (inb_n (then_n (rg0 [0, 3, 5] 1 ⟨20, [(0, sL 14 c_TRoute a0), (3, .ref 0 0), (5, .int .i64 (wr .i64 (p1 + 1)))], [.box (c_TPrefix a1)]⟩ ?_)))
 obtain rfl := Option.some.inj h9
 exact round_n (le_rfl)
 have h4 := cond_f b2 h1
 refine awp_exit (then_e ?_)
 obtain rfl := Option.some.inj h4
 exact round_e ⟨rfl, Le.trans (s' := ⟨20, [], [.box (c_TPrefix a1)]⟩) (kp []) (le_cut (n := 0) (by kernel_rfl))⟩
 intro e12 s13 o14
 rcases y3 with g4 | y5
 have h15 := elim_l h11
 obtain ⟨rfl, l17⟩ := o14
 refine inb_here ?_
 refine then_le (s' := ⟨20, [], []⟩) (l17) ?_
 refine awp_seq (rg0 [4] 0 ⟨20, [(4, .int .i64 (-1))], []⟩ ?_)
 refine then_n (awp_ret ?_)
 obtain rfl := Option.some.inj h15
 exact er0 (.int .i64 (-1))
 have h16 := elim_r h11
 obtain ⟨rfl, n18⟩ := o14
 refine inb_r (then_r ?_)
 obtain rfl := Option.some.inj h16
 exact n18

/- netverify/netverifyref4.Contains -/
theorem ref4_Contains_ok (a0 : TPrefix) (a1 : Int) (r : Bool) (h : M.ref4_Contains a0 a1 = some r) : Fn Try.prog 23 [.agg (c_TPrefix a0), .int .u32 a1] (.pure (.bool r)) := by
 unfold M.ref4_Contains at h
 refine fn_pure Try.func23 rfl (by kernel_rfl) ?_
 refine awp_seq (rg0 [1, 2] 1 ⟨13, [(1, .int .u32 a1), (2, .ref 0 0)], [.box (c_TPrefix a0)]⟩ ?_)
 refine then_n (awp_seq ?_)
 obtain ⟨r1, q1, h2⟩ := bind_some h
 refine rg [.pure (.int .u32 r1)] [4] 0 ⟨13, [(4, .bool ((bitD .and .u32 a1 r1) == a0.fAddr))], []⟩ [] [⟨true, 59, [.int .i64 a0.fLen], .pure (.int .u32 r1)⟩] nil_all ⟨fun _ => ref4_Mask_ok a0.fLen r1 q1, trivial⟩ ?_
 refine then_n (awp_ret ?_)
 obtain rfl := Option.some.inj h2
 exact er0 (.bool ((bitD .and .u32 a1 r1) == a0.fAddr))

/- netverify/netverifyref15.Longest -/
theorem ref15_Longest_ok (a0 : List TRoute) (a1 : Int) (r : Int) (h : M.ref15_Longest a0 a1 = some r) : Fn Try.prog 26 [sL 14 c_TRoute a0, .int .u32 a1] (.pure (.int .i64 r)) := by
 unfold M.ref15_Longest at h
 refine fn_pure Try.func26 rfl (by kernel_rfl) ?_
 refine awp_seq (rg0 [0, 1] 0 ⟨41, [(0, sL 14 c_TRoute a0), (1, .int .u32 a1)], []⟩ ?_)
 refine then_n (awp_seq (rg0 [0, 1, 5] 0 ⟨41, [(0, sL 14 c_TRoute a0), (1, .int .u32 a1), (5, .int .i64 (-1))], []⟩ ?_))
 refine then_n (awp_seq (awp_seq (rg0 [0, 1, 5, 6] 0 ⟨41, [(0, sL 14 c_TRoute a0), (1, .int .u32 a1), (5, .int .i64 (-1)), (6, .int .i64 0)], []⟩ ?_)))
 refine then_n (awp_block ?_)
 obtain ⟨y5, q14, h15⟩ := bind_some h
 refine awp_le (s' := ⟨41, [(0, sL 14 c_TRoute a0), (1, .int .u32 a1), (5, .int .i64 (-1)), (6, .int .i64 0)], []⟩) (le_rfl) ?_
 refine awp_mono (awp_loop (f := M.ref15_Longest_l1 a0 a1) (S := fun (p1 : Int × Int) => ⟨41, [(0, sL 14 c_TRoute a0), (1, .int .u32 a1), (5, .int .i64 p1.1), (6, .int .i64 p1.2)], []⟩) (O := (fun z => OutE 0 (fun z => ⟨41, [(5, .int .i64 z)], []⟩) z)) ?_ (x := ((-1), 0)) (y := y5) (loopM_iter q14)) ?_
 intro p1 y2 h1
 unfold M.ref15_Longest_l1 at h1
 refine awp_seq (awp_seq (rg0 [0, 1, 5, 6, 10] 0 ⟨41, [(0, sL 14 c_TRoute a0), (1, .int .u32 a1), (5, .int .i64 p1.1), (6, .int .i64 p1.2), (10, .bool (decide (p1.2 < (a0.length : Int))))], []⟩ ?_))
 refine then_n ?_
 refine cnd (decide (p1.2 < (a0.length : Int))) (fun b2 => ?_) (fun b2 => ?_)
 have h3 := cond_t b2 h1
 refine awp_skip (then_n ?_)
 refine awp_join (fun (p3 : Int) => ⟨41, [(0, sL 14 c_TRoute a0), (1, .int .u32 a1), (5, .int .i64 p3), (6, .int .i64 p1.2)], []⟩) (fun p3 => M.ref15_Longest_k1 p1 p3 = some y2) ?_ ?_
 intro p3 h6
 unfold M.ref15_Longest_k1 at h6
 refine rg0 [0, 1, 5, 6] 0 ⟨41, [(0, sL 14 c_TRoute a0), (1, .int .u32 a1), (5, .int .i64 p3), (6, .int .i64 (wr .i64 (p1.2 + 1)))], []⟩ ?_
 obtain rfl := Option.some.inj h6
 exact round_n (le_rfl)
 intro k5
 refine awp_block (awp_seq ?_)
 obtain ⟨r4, q7, h8⟩ := bind_some h3
 obtain ⟨c9, h10⟩ := gd_some h8
 refine rg [.pure (.bool r4)] [0, 1, 5, 6, 38] 0 ⟨41, [(0, sL 14 c_TRoute a0), (1, .int .u32 a1), (5, .int .i64 p1.1), (6, .int .i64 p1.2), (38, .bool (r4 && ((decide (p1.1 < 0)) || (decide ((((a0.getD p1.2.toNat default).fPrefix).fLen) > (((a0.getD p1.1.toNat default).fPrefix).fLen))))))], []⟩ [decide (0 ≤ p1.2), decide (p1.2 < (a0.length : Int)), guardB (r4 && !(decide (p1.1 < 0))) (decide (0 ≤ p1.2)), guardB (r4 && !(decide (p1.1 < 0))) (decide (p1.2 < (a0.length : Int))), guardB (r4 && !(decide (p1.1 < 0))) (decide (0 ≤ p1.1)), guardB (r4 && !(decide (p1.1 < 0))) (decide (p1.1 < (a0.length : Int)))] [⟨true, 23, [.agg (c_TPrefix ((a0.getD p1.2.toNat default).fPrefix)), .int .u32 a1], .pure (.bool r4)⟩] c9 ⟨fun _ => ref4_Contains_ok ((a0.getD p1.2.toNat default).fPrefix) a1 r4 q7, trivial⟩ ?_
 refine then_n ?_
 refine cnd (r4 && ((decide (p1.1 < 0)) || (decide ((((a0.getD p1.2.toNat default).fPrefix).fLen) > (((a0.getD p1.1.toNat default).fPrefix).fLen))))) (fun b11 => ?_) (fun b11 => ?_)
 have h12 := cond_t b11 h10
 refine rg0 [0, 1, 5, 6] 0 ⟨41, [(0, sL 14 c_TRoute a0), (1, .int .u32 a1), (5, .int .i64 p1.2), (6, .int .i64 p1.2)], []⟩ ?_
 refine inb_n ?_
 exact then_le (le_rfl) (k5 p1.2 h12)
 have h13 := cond_f b11 h10
 refine awp_skip (inb_n ?_)
 exact then_le (kp [0, 1, 5, 6]) (k5 p1.1 h13)
 have h4 := cond_f b2 h1
 refine awp_exit (then_e ?_)
 obtain rfl := Option.some.inj h4
 exact round_e ⟨rfl, kp [5]⟩
 intro e16 s17 o18
 obtain ⟨rfl, l19⟩ := o18
 refine inb_here ?_
 refine then_le (s' := ⟨41, [(5, .int .i64 y5)], []⟩) (l19) ?_
 refine awp_seq (rg0 [4] 0 ⟨41, [(4, .int .i64 y5)], []⟩ ?_)
 refine then_n (awp_ret ?_)
 obtain rfl := Option.some.inj h15
 exact er0 (.int .i64 y5)

/- netverify/netverifylaw14.RouteTables -/
theorem law14_RouteTables_ok (a0 : List TRoute) (a1 : Int) (a2 : TPrefix) (a3 : Int) (r : Bool) (h : M.law14_RouteTables a0 a1 a2 a3 = some r) : Fn Try.prog 8 [sL 14 c_TRoute a0, .int .i64 a1, .agg (c_TPrefix a2), .int .u32 a3] (.pure (.bool r)) := by
 unfold M.law14_RouteTables at h
 refine fn_pure Try.func8 rfl (by kernel_rfl) ?_
 refine awp_seq (rg0 [0, 1, 3, 6] 1 ⟨42, [(0, sL 14 c_TRoute a0), (1, .int .i64 a1), (3, .int .u32 a3), (6, .ref 0 0)], [.box (c_TPrefix a2)]⟩ ?_)
 refine then_n (awp_seq (awp_seq ?_))
 obtain ⟨r1, q1, h2⟩ := bind_some h
 refine rg [.pure (.bool r1)] [0, 1, 3, 6, 11] 1 ⟨42, [(0, sL 14 c_TRoute a0), (1, .int .i64 a1), (3, .int .u32 a3), (6, .ref 0 0), (11, .bool (!r1))], [.box (c_TPrefix a2)]⟩ [] [⟨true, 12, [sL 14 c_TRoute a0], .pure (.bool r1)⟩] nil_all ⟨fun _ => law14_few_ok a0 r1 q1, trivial⟩ ?_
 refine then_n ?_
 refine cnd (!r1) (fun b3 => ?_) (fun b3 => ?_)
 have h4 := cond_t b3 h2
 refine awp_seq (rg0 [8] 0 ⟨42, [(8, .bool true)], []⟩ ?_)
 refine then_n (awp_ret (then_r ?_))
 obtain rfl := Option.some.inj h4
 exact er0 (.bool true)
 have h5 := cond_f b3 h2
 refine awp_skip (then_n (awp_seq (awp_seq ?_)))
 obtain ⟨r2, q6, h7⟩ := bind_some h5
 obtain ⟨r3, q8, h9⟩ := bind_some h7
 refine rg [.pure (.bool r2), .pure (.bool r3)] [0, 3, 6, 18] 1 ⟨42, [(0, sL 14 c_TRoute a0), (3, .int .u32 a3), (6, .ref 0 0), (18, .bool (!(r2 == r3)))], [.box (c_TPrefix a2)]⟩ [] [⟨true, 24, [sL 14 c_TRoute a0, .int .i64 a1], .pure (.bool r2)⟩, ⟨true, 21, [sL 14 c_TRoute a0, .int .i64 a1], .pure (.bool r3)⟩] nil_all ⟨fun _ => route_Table_ok a0 a1 r2 q6, fun _ => ref15_Table_ok a0 a1 r3 q8, trivial⟩ ?_
 refine then_n ?_
 refine cnd (!(r2 == r3)) (fun b10 => ?_) (fun b10 => ?_)
 have h11 := cond_t b10 h9
 refine awp_seq (rg0 [8] 0 ⟨42, [(8, .bool false)], []⟩ ?_)
 refine then_n (awp_ret (then_r ?_))
 obtain rfl := Option.some.inj h11
 exact er0 (.bool false)
 have h12 := cond_f b10 h9
 refine awp_skip (then_n (awp_seq (awp_seq ?_)))
 obtain ⟨r4, q13, h14⟩ := bind_some h12
 refine rg [.pure (.bool r4)] [0, 3, 6, 21] 1 ⟨42, [(0, sL 14 c_TRoute a0), (3, .int .u32 a3), (6, .ref 0 0), (21, .bool (!r4))], [.box (c_TPrefix a2)]⟩ [] [⟨true, 21, [sL 14 c_TRoute a0, .int .i64 0], .pure (.bool r4)⟩] nil_all ⟨fun _ => ref15_Table_ok a0 0 r4 q13, trivial⟩ ?_
 refine then_n ?_
 refine cnd (!r4) (fun b15 => ?_) (fun b15 => ?_)
 have h16 := cond_t b15 h14
 refine awp_seq ?_
 obtain ⟨r5, q18, h19⟩ := bind_some h16
 refine rg [.pure (.bool r5)] [8] 0 ⟨42, [(8, .bool r5)], []⟩ [] [⟨true, 15, [], .pure (.bool r5)⟩] nil_all ⟨fun _ => law14_sane_ok  r5 q18, trivial⟩ ?_
 refine then_n (awp_ret (then_r ?_))
 obtain rfl := Option.some.inj h19
 exact er0 (.bool r5)
 have h17 := cond_f b15 h14
 refine awp_skip (then_n (awp_seq ?_))
 obtain ⟨r6, q20, h21⟩ := bind_some h17
 obtain ⟨r7, q22, h23⟩ := bind_some h21
 obtain ⟨r8, q24, h25⟩ := bind_some h23
 obtain ⟨r9, q26, h27⟩ := bind_some h25
 obtain ⟨r10, q28, h29⟩ := bind_some h27
 refine rg [.pure (.int .i64 r6), .pure (.int .i64 r7), .pure (.int .i64 r8), .pure (.int .i64 r9), .pure (.bool r10)] [8] 0 ⟨42, [(8, .bool (((r6 == r7) && (r8 == r9)) && r10))], []⟩ [] [⟨true, 25, [sL 14 c_TRoute a0, .agg (c_TPrefix a2)], .pure (.int .i64 r6)⟩, ⟨true, 20, [sL 14 c_TRoute a0, .agg (c_TPrefix a2)], .pure (.int .i64 r7)⟩, ⟨r6 == r7, 22, [sL 14 c_TRoute a0, .int .u32 a3], .pure (.int .i64 r8)⟩, ⟨r6 == r7, 26, [sL 14 c_TRoute a0, .int .u32 a3], .pure (.int .i64 r9)⟩, ⟨(r6 == r7) && (r8 == r9), 15, [], .pure (.bool r10)⟩] nil_all ⟨fun _ => route_Find_ok a0 a2 r6 q20, fun _ => ref15_Find_ok a0 a2 r7 q22, fun hg => route_Longest_ok a0 a3 r8 (gc_some q24 hg), fun hg => ref15_Longest_ok a0 a3 r9 (gc_some q26 hg), fun hg => law14_sane_ok  r10 (gc_some q28 hg), trivial⟩ ?_
 refine then_n (awp_ret ?_)
 obtain rfl := Option.some.inj h29
 exact er0 (.bool (((r6 == r7) && (r8 == r9)) && r10))
end Nv
