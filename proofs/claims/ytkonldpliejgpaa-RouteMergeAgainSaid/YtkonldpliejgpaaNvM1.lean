/- The walks: each function computes its mirror. -/
import Derived.Test.YtkonldpliejgpaaProg
import Derived.Test.YtkonldpliejgpaaNvD1
import Derived.Test.YtkonldpliejgpaaNvLibC
import Derived.KernelRfl
import Derived.Ground.SlsfProg
import Derived.Shelf.Lay
import Derived.Test.YtkonldpliejgpaaNvM1a
set_option maxRecDepth 100000
namespace Nv
open Go Go.Proofs
theorem route_mergeOne_ok (a0 : List TRoute) (r : TRoute) (h : M.route_mergeOne a0 = some r) : Fn Try.prog 56 [sL 14 c_TRoute a0] (.pure (.agg (c_TRoute r))) := by
 unfold M.route_mergeOne at h
 refine fn_pure Try.func56 rfl (by kernel_rfl) ?_
 refine awp_seq (rg0 [0, 2] 1 ⟨50, [(0, sL 14 c_TRoute a0), (2, .ref 0 0)], [.box [.int .u32 0, .int .i64 0, .int .i64 0, .int .i64 0, .int .i64 0, .int .i64 0, .int .i64 0, .int .i64 0, .int .i64 0, .sl true 1 0 (fun _ => []), .int .u32 0, .int .u32 0, .sl true 2 0 (fun _ => []), .bool false]]⟩ ?_)
 refine then_n (awp_seq ?_)
 obtain ⟨c1, h2⟩ := gd_some h
 refine rgc [0, 2, 3] 2 ⟨50, [(0, sL 14 c_TRoute a0), (2, .ref 0 0), (3, .ref 1 0)], [.box [.int .u32 0, .int .i64 0, .int .i64 0, .int .i64 0, .int .i64 0, .int .i64 0, .int .i64 0, .int .i64 0, .int .i64 0, .sl true 1 0 (fun _ => []), .int .u32 0, .int .u32 0, .sl true 2 0 (fun _ => []), .bool false], .box (c_TRoute (a0.getD (0 : Int).toNat default))]⟩ [decide (0 ≤ 0), decide (0 < (a0.length : Int))] c1 ?_
 refine then_n (awp_seq (awp_seq ?_))
 obtain ⟨c3, h4⟩ := gd_some h2
 refine rgc [0, 2, 3, 13, 14, 15] 2 ⟨50, [(0, sL 14 c_TRoute a0), (2, .ref 0 0), (3, .ref 1 0), (13, .sl false 14 (a0.length - 1) (fun i => c_TRoute (a0.getD (1 + i) default))), (14, .int .i64 ((a0.length - 1 : Nat) : Int)), (15, .int .i64 0)], [.box [.int .u32 0, .int .i64 0, .int .i64 0, .int .i64 0, .int .i64 0, .int .i64 0, .int .i64 0, .int .i64 0, .int .i64 0, .sl true 1 0 (fun _ => []), .int .u32 0, .int .u32 0, .sl true 2 0 (fun _ => []), .bool false], .box (c_TRoute (a0.getD (0 : Int).toNat default))]⟩ [decide (0 ≤ 1), decide (1 ≤ (a0.length : Int))] c3 ?_
 refine then_le (s' := ⟨50, [(0, sL 14 c_TRoute a0), (2, .ref 0 0), (3, .ref 1 0), (13, sL 14 c_TRoute ((a0.drop 1).take (a0.length - 1))), (14, .int .i64 ((a0.length - 1 : Nat) : Int)), (15, .int .i64 0)], [.box [.int .u32 0, .int .i64 0, .int .i64 0, .int .i64 0, .int .i64 0, .int .i64 0, .int .i64 0, .int .i64 0, .int .i64 0, .sl true 1 0 (fun _ => []), .int .u32 0, .int .u32 0, .sl true 2 0 (fun _ => []), .bool false], .box (c_TRoute (a0.getD (0 : Int).toNat default))]⟩) (le_sub (.cons Sub.rfl (.cons Sub.rfl (.cons Sub.rfl (.cons (sub_sl (len_cut _ _ _ (Nat.le_refl _)) (cut_ext _ _ _ _)) (.cons Sub.rfl (.cons Sub.rfl .nil)))))) (.cons .rfl (.cons .rfl .nil))) ?_
 refine awp_block ?_
 obtain ⟨y5, q18, h19⟩ := bind_some h4
 refine awp_le (s' := ⟨50, [(0, sL 14 c_TRoute a0), (2, .ref 0 0), (3, .ref 1 0), (13, sL 14 c_TRoute ((a0.drop 1).take (a0.length - 1))), (14, .int .i64 ((a0.length - 1 : Nat) : Int)), (15, .int .i64 0)], [.box [.int .u32 0, .int .i64 0, .int .i64 0, .int .i64 0, .int .i64 0, .int .i64 0, .int .i64 0, .int .i64 0, .int .i64 0, .sl true 1 0 (fun _ => []), .int .u32 0, .int .u32 0, .sl true 2 0 (fun _ => []), .bool false], .box (c_TRoute (a0.getD (0 : Int).toNat default))]⟩) (le_rfl) ?_
 refine awp_mono (awp_loop (f := M.route_mergeOne_l1 a0) (S := fun (p1 : Int × Int × Int × Int × Int × Int × Int × Int × Int × (List Int) × Int × Int × (List THop) × Bool × Int) => ⟨50, [(0, sL 14 c_TRoute a0), (2, .ref 0 0), (3, .ref 1 0), (13, sL 14 c_TRoute ((a0.drop 1).take (a0.length - 1))), (14, .int .i64 ((a0.length - 1 : Nat) : Int)), (15, .int .i64 p1.2.2.2.2.2.2.2.2.2.2.2.2.2.2)], [.box [.int .u32 0, .int .i64 0, .int .i64 0, .int .i64 0, .int .i64 0, .int .i64 0, .int .i64 0, .int .i64 0, .int .i64 0, .sl true 1 0 (fun _ => []), .int .u32 0, .int .u32 0, .sl true 2 0 (fun _ => []), .bool false], .box [.int .u32 p1.1, .int .i64 p1.2.1, .int .i64 p1.2.2.1, .int .i64 p1.2.2.2.1, .int .i64 p1.2.2.2.2.1, .int .i64 p1.2.2.2.2.2.1, .int .i64 p1.2.2.2.2.2.2.1, .int .i64 p1.2.2.2.2.2.2.2.1, .int .i64 p1.2.2.2.2.2.2.2.2.1, sL 1 (ci .i64) p1.2.2.2.2.2.2.2.2.2.1, .int .u32 p1.2.2.2.2.2.2.2.2.2.2.1, .int .u32 p1.2.2.2.2.2.2.2.2.2.2.2.1, sL 2 c_THop p1.2.2.2.2.2.2.2.2.2.2.2.2.1, .bool p1.2.2.2.2.2.2.2.2.2.2.2.2.2.1]]⟩) (O := (fun z => OutE 0 (fun z => ⟨50, [(0, sL 14 c_TRoute a0), (2, .ref 0 0), (3, .ref 1 0)], [.box [.int .u32 0, .int .i64 0, .int .i64 0, .int .i64 0, .int .i64 0, .int .i64 0, .int .i64 0, .int .i64 0, .int .i64 0, .sl true 1 0 (fun _ => []), .int .u32 0, .int .u32 0, .sl true 2 0 (fun _ => []), .bool false], .box [.int .u32 z.1, .int .i64 z.2.1, .int .i64 z.2.2.1, .int .i64 z.2.2.2.1, .int .i64 z.2.2.2.2.1, .int .i64 z.2.2.2.2.2.1, .int .i64 z.2.2.2.2.2.2.1, .int .i64 z.2.2.2.2.2.2.2.1, .int .i64 z.2.2.2.2.2.2.2.2.1, sL 1 (ci .i64) z.2.2.2.2.2.2.2.2.2.1, .int .u32 z.2.2.2.2.2.2.2.2.2.2.1, .int .u32 z.2.2.2.2.2.2.2.2.2.2.2.1, sL 2 c_THop z.2.2.2.2.2.2.2.2.2.2.2.2.1, .bool z.2.2.2.2.2.2.2.2.2.2.2.2.2]]⟩) z)) ?_ (x := (((a0.getD (0 : Int).toNat default).fPrefix).fAddr, ((a0.getD (0 : Int).toNat default).fPrefix).fLen, (a0.getD (0 : Int).toNat default).fProto, (a0.getD (0 : Int).toNat default).fClass, (a0.getD (0 : Int).toNat default).fAdmin, (a0.getD (0 : Int).toNat default).fMetric, (a0.getD (0 : Int).toNat default).fInner, (a0.getD (0 : Int).toNat default).fTag, (a0.getD (0 : Int).toNat default).fPref, (a0.getD (0 : Int).toNat default).fPath, (a0.getD (0 : Int).toNat default).fFrom, (a0.getD (0 : Int).toNat default).fNext, (a0.getD (0 : Int).toNat default).fHops, (a0.getD (0 : Int).toNat default).fDiscard, 0)) (y := y5) (loopM_iter q18)) ?_
 intro p1 y2 h5
 unfold M.route_mergeOne_l1 at h5
 refine awp_seq (rg0 [0, 2, 3, 13, 14, 15, 16] 2 ⟨50, [(0, sL 14 c_TRoute a0), (2, .ref 0 0), (3, .ref 1 0), (13, sL 14 c_TRoute ((a0.drop 1).take (a0.length - 1))), (14, .int .i64 ((a0.length - 1 : Nat) : Int)), (15, .int .i64 p1.2.2.2.2.2.2.2.2.2.2.2.2.2.2), (16, .bool (decide (p1.2.2.2.2.2.2.2.2.2.2.2.2.2.2 < ((a0.length - 1 : Nat) : Int))))], [.box [.int .u32 0, .int .i64 0, .int .i64 0, .int .i64 0, .int .i64 0, .int .i64 0, .int .i64 0, .int .i64 0, .int .i64 0, .sl true 1 0 (fun _ => []), .int .u32 0, .int .u32 0, .sl true 2 0 (fun _ => []), .bool false], .box [.int .u32 p1.1, .int .i64 p1.2.1, .int .i64 p1.2.2.1, .int .i64 p1.2.2.2.1, .int .i64 p1.2.2.2.2.1, .int .i64 p1.2.2.2.2.2.1, .int .i64 p1.2.2.2.2.2.2.1, .int .i64 p1.2.2.2.2.2.2.2.1, .int .i64 p1.2.2.2.2.2.2.2.2.1, sL 1 (ci .i64) p1.2.2.2.2.2.2.2.2.2.1, .int .u32 p1.2.2.2.2.2.2.2.2.2.2.1, .int .u32 p1.2.2.2.2.2.2.2.2.2.2.2.1, sL 2 c_THop p1.2.2.2.2.2.2.2.2.2.2.2.2.1, .bool p1.2.2.2.2.2.2.2.2.2.2.2.2.2.1]]⟩ ?_)
 refine then_n (awp_seq ?_)
 refine cnd (decide (p1.2.2.2.2.2.2.2.2.2.2.2.2.2.2 < ((a0.length - 1 : Nat) : Int))) (fun b6 => ?_) (fun b6 => ?_)
 have h7 := cond_t b6 h5
 refine awp_skip (then_n ?_)
 refine awp_join (fun (p3 : Int × Int × Int × Int × Int × Int × Int × Int × Int × (List Int) × Int × Int × (List THop) × Bool) => ⟨50, [(0, sL 14 c_TRoute a0), (2, .ref 0 0), (3, .ref 1 0), (13, sL 14 c_TRoute ((a0.drop 1).take (a0.length - 1))), (14, .int .i64 ((a0.length - 1 : Nat) : Int)), (15, .int .i64 p1.2.2.2.2.2.2.2.2.2.2.2.2.2.2)], [.box [.int .u32 0, .int .i64 0, .int .i64 0, .int .i64 0, .int .i64 0, .int .i64 0, .int .i64 0, .int .i64 0, .int .i64 0, .sl true 1 0 (fun _ => []), .int .u32 0, .int .u32 0, .sl true 2 0 (fun _ => []), .bool false], .box [.int .u32 p3.1, .int .i64 p3.2.1, .int .i64 p3.2.2.1, .int .i64 p3.2.2.2.1, .int .i64 p3.2.2.2.2.1, .int .i64 p3.2.2.2.2.2.1, .int .i64 p3.2.2.2.2.2.2.1, .int .i64 p3.2.2.2.2.2.2.2.1, .int .i64 p3.2.2.2.2.2.2.2.2.1, sL 1 (ci .i64) p3.2.2.2.2.2.2.2.2.2.1, .int .u32 p3.2.2.2.2.2.2.2.2.2.2.1, .int .u32 p3.2.2.2.2.2.2.2.2.2.2.2.1, sL 2 c_THop p3.2.2.2.2.2.2.2.2.2.2.2.2.1, .bool p3.2.2.2.2.2.2.2.2.2.2.2.2.2]]⟩) (fun p3 => M.route_mergeOne_k1 p1 p3 = some y2) ?_ ?_
 intro p3 h10
 unfold M.route_mergeOne_k1 at h10
 refine rg0 [0, 2, 3, 13, 14, 15] 2 ⟨50, [(0, sL 14 c_TRoute a0), (2, .ref 0 0), (3, .ref 1 0), (13, sL 14 c_TRoute ((a0.drop 1).take (a0.length - 1))), (14, .int .i64 ((a0.length - 1 : Nat) : Int)), (15, .int .i64 (wr .i64 (p1.2.2.2.2.2.2.2.2.2.2.2.2.2.2 + 1)))], [.box [.int .u32 0, .int .i64 0, .int .i64 0, .int .i64 0, .int .i64 0, .int .i64 0, .int .i64 0, .int .i64 0, .int .i64 0, .sl true 1 0 (fun _ => []), .int .u32 0, .int .u32 0, .sl true 2 0 (fun _ => []), .bool false], .box [.int .u32 p3.1, .int .i64 p3.2.1, .int .i64 p3.2.2.1, .int .i64 p3.2.2.2.1, .int .i64 p3.2.2.2.2.1, .int .i64 p3.2.2.2.2.2.1, .int .i64 p3.2.2.2.2.2.2.1, .int .i64 p3.2.2.2.2.2.2.2.1, .int .i64 p3.2.2.2.2.2.2.2.2.1, sL 1 (ci .i64) p3.2.2.2.2.2.2.2.2.2.1, .int .u32 p3.2.2.2.2.2.2.2.2.2.2.1, .int .u32 p3.2.2.2.2.2.2.2.2.2.2.2.1, sL 2 c_THop p3.2.2.2.2.2.2.2.2.2.2.2.2.1, .bool p3.2.2.2.2.2.2.2.2.2.2.2.2.2]]⟩ ?_
 obtain rfl := Option.some.inj h10
 exact round_n (le_rfl)
 intro k9
 refine awp_block (awp_seq ?_)
 obtain ⟨c11, h12⟩ := gd_some h7
 refine rgc [0, 2, 3, 5, 13, 14, 15] 3 ⟨50, [(0, sL 14 c_TRoute a0), (2, .ref 0 0), (3, .ref 1 0), (5, .ref 2 0), (13, sL 14 c_TRoute ((a0.drop 1).take (a0.length - 1))), (14, .int .i64 ((a0.length - 1 : Nat) : Int)), (15, .int .i64 p1.2.2.2.2.2.2.2.2.2.2.2.2.2.2)], [.box [.int .u32 0, .int .i64 0, .int .i64 0, .int .i64 0, .int .i64 0, .int .i64 0, .int .i64 0, .int .i64 0, .int .i64 0, .sl true 1 0 (fun _ => []), .int .u32 0, .int .u32 0, .sl true 2 0 (fun _ => []), .bool false], .box [.int .u32 p1.1, .int .i64 p1.2.1, .int .i64 p1.2.2.1, .int .i64 p1.2.2.2.1, .int .i64 p1.2.2.2.2.1, .int .i64 p1.2.2.2.2.2.1, .int .i64 p1.2.2.2.2.2.2.1, .int .i64 p1.2.2.2.2.2.2.2.1, .int .i64 p1.2.2.2.2.2.2.2.2.1, sL 1 (ci .i64) p1.2.2.2.2.2.2.2.2.2.1, .int .u32 p1.2.2.2.2.2.2.2.2.2.2.1, .int .u32 p1.2.2.2.2.2.2.2.2.2.2.2.1, sL 2 c_THop p1.2.2.2.2.2.2.2.2.2.2.2.2.1, .bool p1.2.2.2.2.2.2.2.2.2.2.2.2.2.1], .box (c_TRoute (((a0.drop 1).take (a0.length - 1)).getD p1.2.2.2.2.2.2.2.2.2.2.2.2.2.2.toNat default))]⟩ [decide (0 ≤ p1.2.2.2.2.2.2.2.2.2.2.2.2.2.2), decide (p1.2.2.2.2.2.2.2.2.2.2.2.2.2.2 < (((a0.drop 1).take (a0.length - 1)).length : Int))] c11 ?_
 refine then_n (awp_seq ?_)
 obtain ⟨r4, q13, h14⟩ := bind_some h12
 refine rg [.pure (.int .i64 r4)] [0, 2, 3, 5, 13, 14, 15, 22] 3 ⟨50, [(0, sL 14 c_TRoute a0), (2, .ref 0 0), (3, .ref 1 0), (5, .ref 2 0), (13, sL 14 c_TRoute ((a0.drop 1).take (a0.length - 1))), (14, .int .i64 ((a0.length - 1 : Nat) : Int)), (15, .int .i64 p1.2.2.2.2.2.2.2.2.2.2.2.2.2.2), (22, .bool (decide (r4 < 0)))], [.box [.int .u32 0, .int .i64 0, .int .i64 0, .int .i64 0, .int .i64 0, .int .i64 0, .int .i64 0, .int .i64 0, .int .i64 0, .sl true 1 0 (fun _ => []), .int .u32 0, .int .u32 0, .sl true 2 0 (fun _ => []), .bool false], .box [.int .u32 p1.1, .int .i64 p1.2.1, .int .i64 p1.2.2.1, .int .i64 p1.2.2.2.1, .int .i64 p1.2.2.2.2.1, .int .i64 p1.2.2.2.2.2.1, .int .i64 p1.2.2.2.2.2.2.1, .int .i64 p1.2.2.2.2.2.2.2.1, .int .i64 p1.2.2.2.2.2.2.2.2.1, sL 1 (ci .i64) p1.2.2.2.2.2.2.2.2.2.1, .int .u32 p1.2.2.2.2.2.2.2.2.2.2.1, .int .u32 p1.2.2.2.2.2.2.2.2.2.2.2.1, sL 2 c_THop p1.2.2.2.2.2.2.2.2.2.2.2.2.1, .bool p1.2.2.2.2.2.2.2.2.2.2.2.2.2.1], .box (c_TRoute (((a0.drop 1).take (a0.length - 1)).getD p1.2.2.2.2.2.2.2.2.2.2.2.2.2.2.toNat default))]⟩ [] [⟨true, 17, [.agg (c_TRoute (((a0.drop 1).take (a0.length - 1)).getD p1.2.2.2.2.2.2.2.2.2.2.2.2.2.2.toNat default)), .agg [.int .u32 p1.1, .int .i64 p1.2.1, .int .i64 p1.2.2.1, .int .i64 p1.2.2.2.1, .int .i64 p1.2.2.2.2.1, .int .i64 p1.2.2.2.2.2.1, .int .i64 p1.2.2.2.2.2.2.1, .int .i64 p1.2.2.2.2.2.2.2.1, .int .i64 p1.2.2.2.2.2.2.2.2.1, sL 1 (ci .i64) p1.2.2.2.2.2.2.2.2.2.1, .int .u32 p1.2.2.2.2.2.2.2.2.2.2.1, .int .u32 p1.2.2.2.2.2.2.2.2.2.2.2.1, sL 2 c_THop p1.2.2.2.2.2.2.2.2.2.2.2.2.1, .bool p1.2.2.2.2.2.2.2.2.2.2.2.2.2.1]], .pure (.int .i64 r4)⟩] nil_all ⟨fun _ => route_Prefer_ok (((a0.drop 1).take (a0.length - 1)).getD p1.2.2.2.2.2.2.2.2.2.2.2.2.2.2.toNat default) (⟨(⟨p1.1, p1.2.1⟩ : TPrefix), p1.2.2.1, p1.2.2.2.1, p1.2.2.2.2.1, p1.2.2.2.2.2.1, p1.2.2.2.2.2.2.1, p1.2.2.2.2.2.2.2.1, p1.2.2.2.2.2.2.2.2.1, p1.2.2.2.2.2.2.2.2.2.1, p1.2.2.2.2.2.2.2.2.2.2.1, p1.2.2.2.2.2.2.2.2.2.2.2.1, p1.2.2.2.2.2.2.2.2.2.2.2.2.1, p1.2.2.2.2.2.2.2.2.2.2.2.2.2.1⟩ : TRoute) r4 q13, trivial⟩ ?_
 refine then_n ?_
 refine cnd (decide (r4 < 0)) (fun b15 => ?_) (fun b15 => ?_)
 have h16 := cond_t b15 h14
 refine rg0 [0, 2, 3, 13, 14, 15] 2 ⟨50, [(0, sL 14 c_TRoute a0), (2, .ref 0 0), (3, .ref 1 0), (13, sL 14 c_TRoute ((a0.drop 1).take (a0.length - 1))), (14, .int .i64 ((a0.length - 1 : Nat) : Int)), (15, .int .i64 p1.2.2.2.2.2.2.2.2.2.2.2.2.2.2)], [.box [.int .u32 0, .int .i64 0, .int .i64 0, .int .i64 0, .int .i64 0, .int .i64 0, .int .i64 0, .int .i64 0, .int .i64 0, .sl true 1 0 (fun _ => []), .int .u32 0, .int .u32 0, .sl true 2 0 (fun _ => []), .bool false], .box (c_TRoute (((a0.drop 1).take (a0.length - 1)).getD p1.2.2.2.2.2.2.2.2.2.2.2.2.2.2.toNat default))]⟩ ?_
 refine inb_n ?_
 exact then_le (le_rfl) (k9 (((((a0.drop 1).take (a0.length - 1)).getD p1.2.2.2.2.2.2.2.2.2.2.2.2.2.2.toNat default).fPrefix).fAddr, ((((a0.drop 1).take (a0.length - 1)).getD p1.2.2.2.2.2.2.2.2.2.2.2.2.2.2.toNat default).fPrefix).fLen, (((a0.drop 1).take (a0.length - 1)).getD p1.2.2.2.2.2.2.2.2.2.2.2.2.2.2.toNat default).fProto, (((a0.drop 1).take (a0.length - 1)).getD p1.2.2.2.2.2.2.2.2.2.2.2.2.2.2.toNat default).fClass, (((a0.drop 1).take (a0.length - 1)).getD p1.2.2.2.2.2.2.2.2.2.2.2.2.2.2.toNat default).fAdmin, (((a0.drop 1).take (a0.length - 1)).getD p1.2.2.2.2.2.2.2.2.2.2.2.2.2.2.toNat default).fMetric, (((a0.drop 1).take (a0.length - 1)).getD p1.2.2.2.2.2.2.2.2.2.2.2.2.2.2.toNat default).fInner, (((a0.drop 1).take (a0.length - 1)).getD p1.2.2.2.2.2.2.2.2.2.2.2.2.2.2.toNat default).fTag, (((a0.drop 1).take (a0.length - 1)).getD p1.2.2.2.2.2.2.2.2.2.2.2.2.2.2.toNat default).fPref, (((a0.drop 1).take (a0.length - 1)).getD p1.2.2.2.2.2.2.2.2.2.2.2.2.2.2.toNat default).fPath, (((a0.drop 1).take (a0.length - 1)).getD p1.2.2.2.2.2.2.2.2.2.2.2.2.2.2.toNat default).fFrom, (((a0.drop 1).take (a0.length - 1)).getD p1.2.2.2.2.2.2.2.2.2.2.2.2.2.2.toNat default).fNext, (((a0.drop 1).take (a0.length - 1)).getD p1.2.2.2.2.2.2.2.2.2.2.2.2.2.2.toNat default).fHops, (((a0.drop 1).take (a0.length - 1)).getD p1.2.2.2.2.2.2.2.2.2.2.2.2.2.2.toNat default).fDiscard) h16)
 have h17 := cond_f b15 h14
 refine awp_skip (inb_n ?_)
 exact then_le (Le.trans (s' := ⟨50, [(0, sL 14 c_TRoute a0), (2, .ref 0 0), (3, .ref 1 0), (13, sL 14 c_TRoute ((a0.drop 1).take (a0.length - 1))), (14, .int .i64 ((a0.length - 1 : Nat) : Int)), (15, .int .i64 p1.2.2.2.2.2.2.2.2.2.2.2.2.2.2)], [.box [.int .u32 0, .int .i64 0, .int .i64 0, .int .i64 0, .int .i64 0, .int .i64 0, .int .i64 0, .int .i64 0, .int .i64 0, .sl true 1 0 (fun _ => []), .int .u32 0, .int .u32 0, .sl true 2 0 (fun _ => []), .bool false], .box [.int .u32 p1.1, .int .i64 p1.2.1, .int .i64 p1.2.2.1, .int .i64 p1.2.2.2.1, .int .i64 p1.2.2.2.2.1, .int .i64 p1.2.2.2.2.2.1, .int .i64 p1.2.2.2.2.2.2.1, .int .i64 p1.2.2.2.2.2.2.2.1, .int .i64 p1.2.2.2.2.2.2.2.2.1, sL 1 (ci .i64) p1.2.2.2.2.2.2.2.2.2.1, .int .u32 p1.2.2.2.2.2.2.2.2.2.2.1, .int .u32 p1.2.2.2.2.2.2.2.2.2.2.2.1, sL 2 c_THop p1.2.2.2.2.2.2.2.2.2.2.2.2.1, .bool p1.2.2.2.2.2.2.2.2.2.2.2.2.2.1], .box (c_TRoute (((a0.drop 1).take (a0.length - 1)).getD p1.2.2.2.2.2.2.2.2.2.2.2.2.2.2.toNat default))]⟩) (kp [0, 2, 3, 13, 14, 15]) (le_cut (n := 2) (by kernel_rfl))) (k9 (p1.1, p1.2.1, p1.2.2.1, p1.2.2.2.1, p1.2.2.2.2.1, p1.2.2.2.2.2.1, p1.2.2.2.2.2.2.1, p1.2.2.2.2.2.2.2.1, p1.2.2.2.2.2.2.2.2.1, p1.2.2.2.2.2.2.2.2.2.1, p1.2.2.2.2.2.2.2.2.2.2.1, p1.2.2.2.2.2.2.2.2.2.2.2.1, p1.2.2.2.2.2.2.2.2.2.2.2.2.1, p1.2.2.2.2.2.2.2.2.2.2.2.2.2.1) h17)
 have h8 := cond_f b6 h5
 refine awp_exit (then_e ?_)
 obtain rfl := Option.some.inj h8
 exact round_e ⟨rfl, kp [0, 2, 3]⟩
 intro e20 s21 o22
 obtain ⟨rfl, l23⟩ := o22
 refine inb_here ?_
 refine then_le (s' := ⟨50, [(0, sL 14 c_TRoute a0), (2, .ref 0 0), (3, .ref 1 0)], [.box [.int .u32 0, .int .i64 0, .int .i64 0, .int .i64 0, .int .i64 0, .int .i64 0, .int .i64 0, .int .i64 0, .int .i64 0, .sl true 1 0 (fun _ => []), .int .u32 0, .int .u32 0, .sl true 2 0 (fun _ => []), .bool false], .box [.int .u32 y5.1, .int .i64 y5.2.1, .int .i64 y5.2.2.1, .int .i64 y5.2.2.2.1, .int .i64 y5.2.2.2.2.1, .int .i64 y5.2.2.2.2.2.1, .int .i64 y5.2.2.2.2.2.2.1, .int .i64 y5.2.2.2.2.2.2.2.1, .int .i64 y5.2.2.2.2.2.2.2.2.1, sL 1 (ci .i64) y5.2.2.2.2.2.2.2.2.2.1, .int .u32 y5.2.2.2.2.2.2.2.2.2.2.1, .int .u32 y5.2.2.2.2.2.2.2.2.2.2.2.1, sL 2 c_THop y5.2.2.2.2.2.2.2.2.2.2.2.2.1, .bool y5.2.2.2.2.2.2.2.2.2.2.2.2.2]]⟩) (l23) ?_
 refine awp_seq (rg0 [0, 2, 3, 6] 2 ⟨50, [(0, sL 14 c_TRoute a0), (2, .ref 0 0), (3, .ref 1 0), (6, .sl true 2 0 (fun _ => []))], [.box [.int .u32 0, .int .i64 0, .int .i64 0, .int .i64 0, .int .i64 0, .int .i64 0, .int .i64 0, .int .i64 0, .int .i64 0, .sl true 1 0 (fun _ => []), .int .u32 0, .int .u32 0, .sl true 2 0 (fun _ => []), .bool false], .box [.int .u32 y5.1, .int .i64 y5.2.1, .int .i64 y5.2.2.1, .int .i64 y5.2.2.2.1, .int .i64 y5.2.2.2.2.1, .int .i64 y5.2.2.2.2.2.1, .int .i64 y5.2.2.2.2.2.2.1, .int .i64 y5.2.2.2.2.2.2.2.1, .int .i64 y5.2.2.2.2.2.2.2.2.1, sL 1 (ci .i64) y5.2.2.2.2.2.2.2.2.2.1, .int .u32 y5.2.2.2.2.2.2.2.2.2.2.1, .int .u32 y5.2.2.2.2.2.2.2.2.2.2.2.1, sL 2 c_THop y5.2.2.2.2.2.2.2.2.2.2.2.2.1, .bool y5.2.2.2.2.2.2.2.2.2.2.2.2.2]]⟩ ?_)
 refine then_n (awp_seq (awp_seq (rg0 [2, 3, 6, 25, 26, 27] 2 ⟨50, [(2, .ref 0 0), (3, .ref 1 0), (6, .sl true 2 0 (fun _ => [])), (25, sL 14 c_TRoute a0), (26, .int .i64 (a0.length : Int)), (27, .int .i64 0)], [.box [.int .u32 0, .int .i64 0, .int .i64 0, .int .i64 0, .int .i64 0, .int .i64 0, .int .i64 0, .int .i64 0, .int .i64 0, .sl true 1 0 (fun _ => []), .int .u32 0, .int .u32 0, .sl true 2 0 (fun _ => []), .bool false], .box [.int .u32 y5.1, .int .i64 y5.2.1, .int .i64 y5.2.2.1, .int .i64 y5.2.2.2.1, .int .i64 y5.2.2.2.2.1, .int .i64 y5.2.2.2.2.2.1, .int .i64 y5.2.2.2.2.2.2.1, .int .i64 y5.2.2.2.2.2.2.2.1, .int .i64 y5.2.2.2.2.2.2.2.2.1, sL 1 (ci .i64) y5.2.2.2.2.2.2.2.2.2.1, .int .u32 y5.2.2.2.2.2.2.2.2.2.2.1, .int .u32 y5.2.2.2.2.2.2.2.2.2.2.2.1, sL 2 c_THop y5.2.2.2.2.2.2.2.2.2.2.2.2.1, .bool y5.2.2.2.2.2.2.2.2.2.2.2.2.2]]⟩ ?_)))
 refine then_n (awp_block ?_)
 refine awp_le (s' := ⟨50, [(2, .ref 0 0), (3, .ref 1 0), (6, .sl true 2 0 (fun _ => [])), (25, sL 14 c_TRoute a0), (26, .int .i64 (a0.length : Int)), (27, .int .i64 0)], [.box [.int .u32 0, .int .i64 0, .int .i64 0, .int .i64 0, .int .i64 0, .int .i64 0, .int .i64 0, .int .i64 0, .int .i64 0, .sl true 1 0 (fun _ => []), .int .u32 0, .int .u32 0, .sl true 2 0 (fun _ => []), .bool false], .box [.int .u32 y5.1, .int .i64 y5.2.1, .int .i64 y5.2.2.1, .int .i64 y5.2.2.2.1, .int .i64 y5.2.2.2.2.1, .int .i64 y5.2.2.2.2.2.1, .int .i64 y5.2.2.2.2.2.2.1, .int .i64 y5.2.2.2.2.2.2.2.1, .int .i64 y5.2.2.2.2.2.2.2.2.1, sL 1 (ci .i64) y5.2.2.2.2.2.2.2.2.2.1, .int .u32 y5.2.2.2.2.2.2.2.2.2.2.1, .int .u32 y5.2.2.2.2.2.2.2.2.2.2.2.1, sL 2 c_THop y5.2.2.2.2.2.2.2.2.2.2.2.2.1, .bool y5.2.2.2.2.2.2.2.2.2.2.2.2.2]]⟩) (le_rfl) ?_
 refine awp_le (s' := ⟨50, [(2, .ref 0 0), (3, .ref 1 0), (6, .asl 2 0 (([] : List THop).length)), (25, sL 14 c_TRoute a0), (26, .int .i64 (a0.length : Int)), (27, .int .i64 0)], [.box [.int .u32 0, .int .i64 0, .int .i64 0, .int .i64 0, .int .i64 0, .int .i64 0, .int .i64 0, .int .i64 0, .int .i64 0, .sl true 1 0 (fun _ => []), .int .u32 0, .int .u32 0, .sl true 2 0 (fun _ => []), .bool false], .box [.int .u32 y5.1, .int .i64 y5.2.1, .int .i64 y5.2.2.1, .int .i64 y5.2.2.2.1, .int .i64 y5.2.2.2.2.1, .int .i64 y5.2.2.2.2.2.1, .int .i64 y5.2.2.2.2.2.2.1, .int .i64 y5.2.2.2.2.2.2.2.1, .int .i64 y5.2.2.2.2.2.2.2.2.1, sL 1 (ci .i64) y5.2.2.2.2.2.2.2.2.2.1, .int .u32 y5.2.2.2.2.2.2.2.2.2.2.1, .int .u32 y5.2.2.2.2.2.2.2.2.2.2.2.1, sL 2 c_THop y5.2.2.2.2.2.2.2.2.2.2.2.2.1, .bool y5.2.2.2.2.2.2.2.2.2.2.2.2.2], aL 2 c_THop ([] : List THop)]⟩) (Le.trans (s' := ⟨50, (6, .asl 2 0 0) :: [(2, .ref 0 0), (3, .ref 1 0), (6, .sl true 2 0 (fun _ => [])), (25, sL 14 c_TRoute a0), (26, .int .i64 (a0.length : Int)), (27, .int .i64 0)], [.box [.int .u32 0, .int .i64 0, .int .i64 0, .int .i64 0, .int .i64 0, .int .i64 0, .int .i64 0, .int .i64 0, .int .i64 0, .sl true 1 0 (fun _ => []), .int .u32 0, .int .u32 0, .sl true 2 0 (fun _ => []), .bool false], .box [.int .u32 y5.1, .int .i64 y5.2.1, .int .i64 y5.2.2.1, .int .i64 y5.2.2.2.1, .int .i64 y5.2.2.2.2.1, .int .i64 y5.2.2.2.2.2.1, .int .i64 y5.2.2.2.2.2.2.1, .int .i64 y5.2.2.2.2.2.2.2.1, .int .i64 y5.2.2.2.2.2.2.2.2.1, sL 1 (ci .i64) y5.2.2.2.2.2.2.2.2.2.1, .int .u32 y5.2.2.2.2.2.2.2.2.2.2.1, .int .u32 y5.2.2.2.2.2.2.2.2.2.2.2.1, sL 2 c_THop y5.2.2.2.2.2.2.2.2.2.2.2.2.1, .bool y5.2.2.2.2.2.2.2.2.2.2.2.2.2]] ++ [.arr 2 0 (fun i => c_THop (([] : List THop).getD i default))]⟩) (le_thaw (wd := 2) (f := fun _ => []) 6 (by kernel_rfl) _ _) (kp [2, 3, 6, 25, 26, 27])) ?_
 obtain ⟨y10, q39, h40⟩ := bind_some h19
 refine awp_le (s' := ⟨50, [(2, .ref 0 0), (3, .ref 1 0), (6, .asl 2 0 (([] : List THop).length)), (25, sL 14 c_TRoute a0), (26, .int .i64 (a0.length : Int)), (27, .int .i64 0)], [.box [.int .u32 0, .int .i64 0, .int .i64 0, .int .i64 0, .int .i64 0, .int .i64 0, .int .i64 0, .int .i64 0, .int .i64 0, .sl true 1 0 (fun _ => []), .int .u32 0, .int .u32 0, .sl true 2 0 (fun _ => []), .bool false], .box [.int .u32 y5.1, .int .i64 y5.2.1, .int .i64 y5.2.2.1, .int .i64 y5.2.2.2.1, .int .i64 y5.2.2.2.2.1, .int .i64 y5.2.2.2.2.2.1, .int .i64 y5.2.2.2.2.2.2.1, .int .i64 y5.2.2.2.2.2.2.2.1, .int .i64 y5.2.2.2.2.2.2.2.2.1, sL 1 (ci .i64) y5.2.2.2.2.2.2.2.2.2.1, .int .u32 y5.2.2.2.2.2.2.2.2.2.2.1, .int .u32 y5.2.2.2.2.2.2.2.2.2.2.2.1, sL 2 c_THop y5.2.2.2.2.2.2.2.2.2.2.2.2.1, .bool y5.2.2.2.2.2.2.2.2.2.2.2.2.2], aL 2 c_THop ([] : List THop)]⟩) (le_rfl) ?_
 refine awp_mono (awp_loop (f := M.route_mergeOne_l2 a0 y5) (S := fun (p6 : (List THop) × Int) => ⟨50, [(2, .ref 0 0), (3, .ref 1 0), (6, .asl 2 0 p6.1.length), (25, sL 14 c_TRoute a0), (26, .int .i64 (a0.length : Int)), (27, .int .i64 p6.2)], [.box [.int .u32 0, .int .i64 0, .int .i64 0, .int .i64 0, .int .i64 0, .int .i64 0, .int .i64 0, .int .i64 0, .int .i64 0, .sl true 1 0 (fun _ => []), .int .u32 0, .int .u32 0, .sl true 2 0 (fun _ => []), .bool false], .box [.int .u32 y5.1, .int .i64 y5.2.1, .int .i64 y5.2.2.1, .int .i64 y5.2.2.2.1, .int .i64 y5.2.2.2.2.1, .int .i64 y5.2.2.2.2.2.1, .int .i64 y5.2.2.2.2.2.2.1, .int .i64 y5.2.2.2.2.2.2.2.1, .int .i64 y5.2.2.2.2.2.2.2.2.1, sL 1 (ci .i64) y5.2.2.2.2.2.2.2.2.2.1, .int .u32 y5.2.2.2.2.2.2.2.2.2.2.1, .int .u32 y5.2.2.2.2.2.2.2.2.2.2.2.1, sL 2 c_THop y5.2.2.2.2.2.2.2.2.2.2.2.2.1, .bool y5.2.2.2.2.2.2.2.2.2.2.2.2.2], aL 2 c_THop p6.1]⟩) (O := (fun z => OutE 2 (fun z => ⟨50, [(2, .ref 0 0), (3, .ref 1 0), (6, .asl 2 0 z.length)], [.box [.int .u32 0, .int .i64 0, .int .i64 0, .int .i64 0, .int .i64 0, .int .i64 0, .int .i64 0, .int .i64 0, .int .i64 0, .sl true 1 0 (fun _ => []), .int .u32 0, .int .u32 0, .sl true 2 0 (fun _ => []), .bool false], .box [.int .u32 y5.1, .int .i64 y5.2.1, .int .i64 y5.2.2.1, .int .i64 y5.2.2.2.1, .int .i64 y5.2.2.2.2.1, .int .i64 y5.2.2.2.2.2.1, .int .i64 y5.2.2.2.2.2.2.1, .int .i64 y5.2.2.2.2.2.2.2.1, .int .i64 y5.2.2.2.2.2.2.2.2.1, sL 1 (ci .i64) y5.2.2.2.2.2.2.2.2.2.1, .int .u32 y5.2.2.2.2.2.2.2.2.2.2.1, .int .u32 y5.2.2.2.2.2.2.2.2.2.2.2.1, sL 2 c_THop y5.2.2.2.2.2.2.2.2.2.2.2.2.1, .bool y5.2.2.2.2.2.2.2.2.2.2.2.2.2], aL 2 c_THop z]⟩) z)) ?_ (x := (([] : List THop), 0)) (y := y10) (loopM_iter q39)) ?_
 intro p6 y7 h24
 unfold M.route_mergeOne_l2 at h24
 refine awp_seq (rg0 [2, 3, 6, 25, 26, 27, 28] 3 ⟨50, [(2, .ref 0 0), (3, .ref 1 0), (6, .asl 2 0 p6.1.length), (25, sL 14 c_TRoute a0), (26, .int .i64 (a0.length : Int)), (27, .int .i64 p6.2), (28, .bool (decide (p6.2 < (a0.length : Int))))], [.box [.int .u32 0, .int .i64 0, .int .i64 0, .int .i64 0, .int .i64 0, .int .i64 0, .int .i64 0, .int .i64 0, .int .i64 0, .sl true 1 0 (fun _ => []), .int .u32 0, .int .u32 0, .sl true 2 0 (fun _ => []), .bool false], .box [.int .u32 y5.1, .int .i64 y5.2.1, .int .i64 y5.2.2.1, .int .i64 y5.2.2.2.1, .int .i64 y5.2.2.2.2.1, .int .i64 y5.2.2.2.2.2.1, .int .i64 y5.2.2.2.2.2.2.1, .int .i64 y5.2.2.2.2.2.2.2.1, .int .i64 y5.2.2.2.2.2.2.2.2.1, sL 1 (ci .i64) y5.2.2.2.2.2.2.2.2.2.1, .int .u32 y5.2.2.2.2.2.2.2.2.2.2.1, .int .u32 y5.2.2.2.2.2.2.2.2.2.2.2.1, sL 2 c_THop y5.2.2.2.2.2.2.2.2.2.2.2.2.1, .bool y5.2.2.2.2.2.2.2.2.2.2.2.2.2], aL 2 c_THop p6.1]⟩ ?_)
 refine then_n (awp_seq ?_)
 refine cnd (decide (p6.2 < (a0.length : Int))) (fun b25 => ?_) (fun b25 => ?_)
 have h26 := cond_t b25 h24
 refine awp_skip (then_n ?_)
 refine awp_join (fun (p8 : (List THop)) => ⟨50, [(2, .ref 0 0), (3, .ref 1 0), (6, .asl 2 0 p8.length), (25, sL 14 c_TRoute a0), (26, .int .i64 (a0.length : Int)), (27, .int .i64 p6.2)], [.box [.int .u32 0, .int .i64 0, .int .i64 0, .int .i64 0, .int .i64 0, .int .i64 0, .int .i64 0, .int .i64 0, .int .i64 0, .sl true 1 0 (fun _ => []), .int .u32 0, .int .u32 0, .sl true 2 0 (fun _ => []), .bool false], .box [.int .u32 y5.1, .int .i64 y5.2.1, .int .i64 y5.2.2.1, .int .i64 y5.2.2.2.1, .int .i64 y5.2.2.2.2.1, .int .i64 y5.2.2.2.2.2.1, .int .i64 y5.2.2.2.2.2.2.1, .int .i64 y5.2.2.2.2.2.2.2.1, .int .i64 y5.2.2.2.2.2.2.2.2.1, sL 1 (ci .i64) y5.2.2.2.2.2.2.2.2.2.1, .int .u32 y5.2.2.2.2.2.2.2.2.2.2.1, .int .u32 y5.2.2.2.2.2.2.2.2.2.2.2.1, sL 2 c_THop y5.2.2.2.2.2.2.2.2.2.2.2.2.1, .bool y5.2.2.2.2.2.2.2.2.2.2.2.2.2], aL 2 c_THop p8]⟩) (fun p8 => M.route_mergeOne_k2 p6 p8 = some y7) ?_ ?_
 intro p8 h29
 unfold M.route_mergeOne_k2 at h29
 refine rg0 [2, 3, 6, 25, 26, 27] 3 ⟨50, [(2, .ref 0 0), (3, .ref 1 0), (6, .asl 2 0 p8.length), (25, sL 14 c_TRoute a0), (26, .int .i64 (a0.length : Int)), (27, .int .i64 (wr .i64 (p6.2 + 1)))], [.box [.int .u32 0, .int .i64 0, .int .i64 0, .int .i64 0, .int .i64 0, .int .i64 0, .int .i64 0, .int .i64 0, .int .i64 0, .sl true 1 0 (fun _ => []), .int .u32 0, .int .u32 0, .sl true 2 0 (fun _ => []), .bool false], .box [.int .u32 y5.1, .int .i64 y5.2.1, .int .i64 y5.2.2.1, .int .i64 y5.2.2.2.1, .int .i64 y5.2.2.2.2.1, .int .i64 y5.2.2.2.2.2.1, .int .i64 y5.2.2.2.2.2.2.1, .int .i64 y5.2.2.2.2.2.2.2.1, .int .i64 y5.2.2.2.2.2.2.2.2.1, sL 1 (ci .i64) y5.2.2.2.2.2.2.2.2.2.1, .int .u32 y5.2.2.2.2.2.2.2.2.2.2.1, .int .u32 y5.2.2.2.2.2.2.2.2.2.2.2.1, sL 2 c_THop y5.2.2.2.2.2.2.2.2.2.2.2.2.1, .bool y5.2.2.2.2.2.2.2.2.2.2.2.2.2], aL 2 c_THop p8]⟩ ?_
 obtain rfl := Option.some.inj h29
 exact round_n (le_rfl)
 intro k28
 refine awp_block (awp_seq ?_)
 obtain ⟨c30, h31⟩ := gd_some h26
 refine rgc [2, 3, 6, 8, 25, 26, 27] 4 ⟨50, [(2, .ref 0 0), (3, .ref 1 0), (6, .asl 2 0 p6.1.length), (8, .ref 3 0), (25, sL 14 c_TRoute a0), (26, .int .i64 (a0.length : Int)), (27, .int .i64 p6.2)], [.box [.int .u32 0, .int .i64 0, .int .i64 0, .int .i64 0, .int .i64 0, .int .i64 0, .int .i64 0, .int .i64 0, .int .i64 0, .sl true 1 0 (fun _ => []), .int .u32 0, .int .u32 0, .sl true 2 0 (fun _ => []), .bool false], .box [.int .u32 y5.1, .int .i64 y5.2.1, .int .i64 y5.2.2.1, .int .i64 y5.2.2.2.1, .int .i64 y5.2.2.2.2.1, .int .i64 y5.2.2.2.2.2.1, .int .i64 y5.2.2.2.2.2.2.1, .int .i64 y5.2.2.2.2.2.2.2.1, .int .i64 y5.2.2.2.2.2.2.2.2.1, sL 1 (ci .i64) y5.2.2.2.2.2.2.2.2.2.1, .int .u32 y5.2.2.2.2.2.2.2.2.2.2.1, .int .u32 y5.2.2.2.2.2.2.2.2.2.2.2.1, sL 2 c_THop y5.2.2.2.2.2.2.2.2.2.2.2.2.1, .bool y5.2.2.2.2.2.2.2.2.2.2.2.2.2], aL 2 c_THop p6.1, .box (c_TRoute (a0.getD p6.2.toNat default))]⟩ [decide (0 ≤ p6.2), decide (p6.2 < (a0.length : Int))] c30 ?_
 refine then_n (awp_seq ?_)
 obtain ⟨r9, q32, h33⟩ := bind_some h31
 refine rg [.pure (.int .i64 r9)] [2, 3, 6, 8, 25, 26, 27, 34] 4 ⟨50, [(2, .ref 0 0), (3, .ref 1 0), (6, .asl 2 0 p6.1.length), (8, .ref 3 0), (25, sL 14 c_TRoute a0), (26, .int .i64 (a0.length : Int)), (27, .int .i64 p6.2), (34, .bool (r9 == 0))], [.box [.int .u32 0, .int .i64 0, .int .i64 0, .int .i64 0, .int .i64 0, .int .i64 0, .int .i64 0, .int .i64 0, .int .i64 0, .sl true 1 0 (fun _ => []), .int .u32 0, .int .u32 0, .sl true 2 0 (fun _ => []), .bool false], .box [.int .u32 y5.1, .int .i64 y5.2.1, .int .i64 y5.2.2.1, .int .i64 y5.2.2.2.1, .int .i64 y5.2.2.2.2.1, .int .i64 y5.2.2.2.2.2.1, .int .i64 y5.2.2.2.2.2.2.1, .int .i64 y5.2.2.2.2.2.2.2.1, .int .i64 y5.2.2.2.2.2.2.2.2.1, sL 1 (ci .i64) y5.2.2.2.2.2.2.2.2.2.1, .int .u32 y5.2.2.2.2.2.2.2.2.2.2.1, .int .u32 y5.2.2.2.2.2.2.2.2.2.2.2.1, sL 2 c_THop y5.2.2.2.2.2.2.2.2.2.2.2.2.1, .bool y5.2.2.2.2.2.2.2.2.2.2.2.2.2], aL 2 c_THop p6.1, .box (c_TRoute (a0.getD p6.2.toNat default))]⟩ [] [⟨true, 17, [.agg (c_TRoute (a0.getD p6.2.toNat default)), .agg [.int .u32 y5.1, .int .i64 y5.2.1, .int .i64 y5.2.2.1, .int .i64 y5.2.2.2.1, .int .i64 y5.2.2.2.2.1, .int .i64 y5.2.2.2.2.2.1, .int .i64 y5.2.2.2.2.2.2.1, .int .i64 y5.2.2.2.2.2.2.2.1, .int .i64 y5.2.2.2.2.2.2.2.2.1, sL 1 (ci .i64) y5.2.2.2.2.2.2.2.2.2.1, .int .u32 y5.2.2.2.2.2.2.2.2.2.2.1, .int .u32 y5.2.2.2.2.2.2.2.2.2.2.2.1, sL 2 c_THop y5.2.2.2.2.2.2.2.2.2.2.2.2.1, .bool y5.2.2.2.2.2.2.2.2.2.2.2.2.2]], .pure (.int .i64 r9)⟩] nil_all ⟨fun _ => route_Prefer_ok (a0.getD p6.2.toNat default) (⟨(⟨y5.1, y5.2.1⟩ : TPrefix), y5.2.2.1, y5.2.2.2.1, y5.2.2.2.2.1, y5.2.2.2.2.2.1, y5.2.2.2.2.2.2.1, y5.2.2.2.2.2.2.2.1, y5.2.2.2.2.2.2.2.2.1, y5.2.2.2.2.2.2.2.2.2.1, y5.2.2.2.2.2.2.2.2.2.2.1, y5.2.2.2.2.2.2.2.2.2.2.2.1, y5.2.2.2.2.2.2.2.2.2.2.2.2.1, y5.2.2.2.2.2.2.2.2.2.2.2.2.2⟩ : TRoute) r9 q32, trivial⟩ ?_
 refine then_n ?_
 refine cnd (r9 == 0) (fun b34 => ?_) (fun b34 => ?_)
 have h35 := cond_t b34 h33
 obtain ⟨c37, h38⟩ := gd_some h35
 refine rgc [2, 3, 6, 25, 26, 27] 3 ⟨50, [(2, .ref 0 0), (3, .ref 1 0), (6, .asl 2 0 (p6.1.length + (((a0.getD p6.2.toNat default).fHops).length))), (25, sL 14 c_TRoute a0), (26, .int .i64 (a0.length : Int)), (27, .int .i64 p6.2)], [.box [.int .u32 0, .int .i64 0, .int .i64 0, .int .i64 0, .int .i64 0, .int .i64 0, .int .i64 0, .int .i64 0, .int .i64 0, .sl true 1 0 (fun _ => []), .int .u32 0, .int .u32 0, .sl true 2 0 (fun _ => []), .bool false], .box [.int .u32 y5.1, .int .i64 y5.2.1, .int .i64 y5.2.2.1, .int .i64 y5.2.2.2.1, .int .i64 y5.2.2.2.2.1, .int .i64 y5.2.2.2.2.2.1, .int .i64 y5.2.2.2.2.2.2.1, .int .i64 y5.2.2.2.2.2.2.2.1, .int .i64 y5.2.2.2.2.2.2.2.2.1, sL 1 (ci .i64) y5.2.2.2.2.2.2.2.2.2.1, .int .u32 y5.2.2.2.2.2.2.2.2.2.2.1, .int .u32 y5.2.2.2.2.2.2.2.2.2.2.2.1, sL 2 c_THop y5.2.2.2.2.2.2.2.2.2.2.2.2.1, .bool y5.2.2.2.2.2.2.2.2.2.2.2.2.2], .arr 2 (p6.1.length + (((a0.getD p6.2.toNat default).fHops).length)) (app (fun i => c_THop (p6.1.getD i default)) p6.1.length (fun i => c_THop (((a0.getD p6.2.toNat default).fHops).getD i default)))]⟩ [decide ((p6.1.length + (((a0.getD p6.2.toNat default).fHops).length)) * 16 ≤ 140737488355328)] c37 ?_
 refine inb_n ?_
 exact then_le (le_sub (.cons Sub.rfl (.cons Sub.rfl (.cons (asl_len (len_app _ _)) (.cons Sub.rfl (.cons Sub.rfl (.cons Sub.rfl .nil)))))) (.cons .rfl (.cons .rfl (.cons (.arr (len_app _ _) (app_list c_THop p6.1 ((a0.getD p6.2.toNat default).fHops) _ (fun _ _ => rfl))) .nil)))) (k28 (p6.1 ++ ((a0.getD p6.2.toNat default).fHops)) h38)
 have h36 := cond_f b34 h33
 refine awp_skip (inb_n ?_)
 exact then_le (Le.trans (s' := ⟨50, [(2, .ref 0 0), (3, .ref 1 0), (6, .asl 2 0 p6.1.length), (25, sL 14 c_TRoute a0), (26, .int .i64 (a0.length : Int)), (27, .int .i64 p6.2)], [.box [.int .u32 0, .int .i64 0, .int .i64 0, .int .i64 0, .int .i64 0, .int .i64 0, .int .i64 0, .int .i64 0, .int .i64 0, .sl true 1 0 (fun _ => []), .int .u32 0, .int .u32 0, .sl true 2 0 (fun _ => []), .bool false], .box [.int .u32 y5.1, .int .i64 y5.2.1, .int .i64 y5.2.2.1, .int .i64 y5.2.2.2.1, .int .i64 y5.2.2.2.2.1, .int .i64 y5.2.2.2.2.2.1, .int .i64 y5.2.2.2.2.2.2.1, .int .i64 y5.2.2.2.2.2.2.2.1, .int .i64 y5.2.2.2.2.2.2.2.2.1, sL 1 (ci .i64) y5.2.2.2.2.2.2.2.2.2.1, .int .u32 y5.2.2.2.2.2.2.2.2.2.2.1, .int .u32 y5.2.2.2.2.2.2.2.2.2.2.2.1, sL 2 c_THop y5.2.2.2.2.2.2.2.2.2.2.2.2.1, .bool y5.2.2.2.2.2.2.2.2.2.2.2.2.2], aL 2 c_THop p6.1, .box (c_TRoute (a0.getD p6.2.toNat default))]⟩) (kp [2, 3, 6, 25, 26, 27]) (le_cut (n := 3) (by kernel_rfl))) (k28 p6.1 h36)
 have h27 := cond_f b25 h24
 refine awp_exit (then_e ?_)
 obtain rfl := Option.some.inj h27
 exact round_e ⟨rfl, kp [2, 3, 6]⟩
 intro e41 s42 o43
 obtain ⟨rfl, l44⟩ := o43
 refine inb_here ?_
 refine then_le (s' := ⟨50, [(2, .ref 0 0), (3, .ref 1 0), (6, .asl 2 0 y10.length)], [.box [.int .u32 0, .int .i64 0, .int .i64 0, .int .i64 0, .int .i64 0, .int .i64 0, .int .i64 0, .int .i64 0, .int .i64 0, .sl true 1 0 (fun _ => []), .int .u32 0, .int .u32 0, .sl true 2 0 (fun _ => []), .bool false], .box [.int .u32 y5.1, .int .i64 y5.2.1, .int .i64 y5.2.2.1, .int .i64 y5.2.2.2.1, .int .i64 y5.2.2.2.2.1, .int .i64 y5.2.2.2.2.2.1, .int .i64 y5.2.2.2.2.2.2.1, .int .i64 y5.2.2.2.2.2.2.2.1, .int .i64 y5.2.2.2.2.2.2.2.2.1, sL 1 (ci .i64) y5.2.2.2.2.2.2.2.2.2.1, .int .u32 y5.2.2.2.2.2.2.2.2.2.2.1, .int .u32 y5.2.2.2.2.2.2.2.2.2.2.2.1, sL 2 c_THop y5.2.2.2.2.2.2.2.2.2.2.2.2.1, .bool y5.2.2.2.2.2.2.2.2.2.2.2.2.2], aL 2 c_THop y10]⟩) (l44) ?_
 refine awp_seq ?_
 obtain ⟨r11, q45, h46⟩ := bind_some h40
 obtain ⟨c47, h48⟩ := gd_some h46
 refine rg [.lnd 0 0 (fun _ => []) (fun i => c_THop (r11.getD i default)) (.tup [])] [2, 3, 6] 3 ⟨50, [(2, .ref 0 0), (3, .ref 1 0), (6, .asl 2 0 y10.length)], [.box [.int .u32 0, .int .i64 0, .int .i64 0, .int .i64 0, .int .i64 0, .int .i64 0, .int .i64 0, .int .i64 0, .int .i64 0, .sl true 1 0 (fun _ => []), .int .u32 0, .int .u32 0, .sl true 2 0 (fun _ => []), .bool false], .box [.int .u32 y5.1, .int .i64 y5.2.1, .int .i64 y5.2.2.1, .int .i64 y5.2.2.2.1, .int .i64 y5.2.2.2.2.1, .int .i64 y5.2.2.2.2.2.1, .int .i64 y5.2.2.2.2.2.2.1, .int .i64 y5.2.2.2.2.2.2.2.1, .int .i64 y5.2.2.2.2.2.2.2.2.1, sL 1 (ci .i64) y5.2.2.2.2.2.2.2.2.2.1, .int .u32 y5.2.2.2.2.2.2.2.2.2.2.1, .int .u32 y5.2.2.2.2.2.2.2.2.2.2.2.1, sL 2 c_THop y5.2.2.2.2.2.2.2.2.2.2.2.2.1, .bool y5.2.2.2.2.2.2.2.2.2.2.2.2.2], .arr 2 y10.length (fun i => c_THop (r11.getD i default))]⟩ [] [⟨true, 73, [.asl 0 0 y10.length, .fn 66 []], .lnd 2 y10.length (fun i => c_THop (y10.getD i default)) (fun i => c_THop (r11.getD i default)) (.tup [])⟩] nil_all ⟨fun _ => slices_SortFunc_api_Hop_api_Hop__route_compareHops_ok y10 r11 q45, trivial⟩ ?_
 refine then_le (s' := ⟨50, [(2, .ref 0 0), (3, .ref 1 0), (6, .asl 2 0 r11.length)], [.box [.int .u32 0, .int .i64 0, .int .i64 0, .int .i64 0, .int .i64 0, .int .i64 0, .int .i64 0, .int .i64 0, .int .i64 0, .sl true 1 0 (fun _ => []), .int .u32 0, .int .u32 0, .sl true 2 0 (fun _ => []), .bool false], .box [.int .u32 y5.1, .int .i64 y5.2.1, .int .i64 y5.2.2.1, .int .i64 y5.2.2.2.1, .int .i64 y5.2.2.2.2.1, .int .i64 y5.2.2.2.2.2.1, .int .i64 y5.2.2.2.2.2.2.1, .int .i64 y5.2.2.2.2.2.2.2.1, .int .i64 y5.2.2.2.2.2.2.2.2.1, sL 1 (ci .i64) y5.2.2.2.2.2.2.2.2.2.1, .int .u32 y5.2.2.2.2.2.2.2.2.2.2.1, .int .u32 y5.2.2.2.2.2.2.2.2.2.2.2.1, sL 2 c_THop y5.2.2.2.2.2.2.2.2.2.2.2.2.1, .bool y5.2.2.2.2.2.2.2.2.2.2.2.2.2], aL 2 c_THop r11]⟩) (le_sub (.cons Sub.rfl (.cons Sub.rfl (.cons (asl_len (len_eq (c47 _ List.mem_cons_self))) .nil))) (.cons .rfl (.cons .rfl (.cons (.arr (len_eq (c47 _ List.mem_cons_self)) (fun _ _ => rfl)) .nil)))) ?_
 refine awp_seq ?_
 obtain ⟨r12, q49, h50⟩ := bind_some h48
 obtain ⟨c51, h52⟩ := gd_some h50
 refine rg [.lnd 0 0 (fun _ => []) (fun i => c_THop (r12.1.getD i default)) (.asl 0 0 r12.2)] [2, 3] 3 ⟨50, [(2, .ref 0 0), (3, .ref 1 0)], [.box [.int .u32 0, .int .i64 0, .int .i64 0, .int .i64 0, .int .i64 0, .int .i64 0, .int .i64 0, .int .i64 0, .int .i64 0, .sl true 1 0 (fun _ => []), .int .u32 0, .int .u32 0, .sl true 2 0 (fun _ => []), .bool false], .box [.int .u32 y5.1, .int .i64 y5.2.1, .int .i64 y5.2.2.1, .int .i64 y5.2.2.2.1, .int .i64 y5.2.2.2.2.1, .int .i64 y5.2.2.2.2.2.1, .int .i64 y5.2.2.2.2.2.2.1, .int .i64 y5.2.2.2.2.2.2.2.1, .int .i64 y5.2.2.2.2.2.2.2.2.1, sL 1 (ci .i64) y5.2.2.2.2.2.2.2.2.2.1, .int .u32 y5.2.2.2.2.2.2.2.2.2.2.1, .int .u32 y5.2.2.2.2.2.2.2.2.2.2.2.1, .asl 2 0 r12.2, .bool y5.2.2.2.2.2.2.2.2.2.2.2.2.2], .arr 2 r11.length (fun i => c_THop (r12.1.getD i default))]⟩ [] [⟨true, 74, [.asl 0 0 r11.length], .lnd 2 r11.length (fun i => c_THop (r11.getD i default)) (fun i => c_THop (r12.1.getD i default)) (.asl 0 0 r12.2)⟩] nil_all ⟨fun _ => slices_Compact_api_Hop_api_Hop_ok r11 r12 q49, trivial⟩ ?_
 refine then_le (s' := ⟨50, [(2, .ref 0 0), (3, .ref 1 0)], [.box [.int .u32 0, .int .i64 0, .int .i64 0, .int .i64 0, .int .i64 0, .int .i64 0, .int .i64 0, .int .i64 0, .int .i64 0, .sl true 1 0 (fun _ => []), .int .u32 0, .int .u32 0, .sl true 2 0 (fun _ => []), .bool false], .box [.int .u32 y5.1, .int .i64 y5.2.1, .int .i64 y5.2.2.1, .int .i64 y5.2.2.2.1, .int .i64 y5.2.2.2.2.1, .int .i64 y5.2.2.2.2.2.1, .int .i64 y5.2.2.2.2.2.2.1, .int .i64 y5.2.2.2.2.2.2.2.1, .int .i64 y5.2.2.2.2.2.2.2.2.1, sL 1 (ci .i64) y5.2.2.2.2.2.2.2.2.2.1, .int .u32 y5.2.2.2.2.2.2.2.2.2.2.1, .int .u32 y5.2.2.2.2.2.2.2.2.2.2.2.1, .sl false 2 r12.2 (fun k => (fun i => c_THop (r12.1.getD i default)) (0 + k)), .bool y5.2.2.2.2.2.2.2.2.2.2.2.2.2], aL 2 c_THop ([] : List THop)]⟩) ((le_frb (s := ⟨50, [(2, .ref 0 0), (3, .ref 1 0)], [.box [.int .u32 0, .int .i64 0, .int .i64 0, .int .i64 0, .int .i64 0, .int .i64 0, .int .i64 0, .int .i64 0, .int .i64 0, .sl true 1 0 (fun _ => []), .int .u32 0, .int .u32 0, .sl true 2 0 (fun _ => []), .bool false], .box [.int .u32 y5.1, .int .i64 y5.2.1, .int .i64 y5.2.2.1, .int .i64 y5.2.2.2.1, .int .i64 y5.2.2.2.2.1, .int .i64 y5.2.2.2.2.2.1, .int .i64 y5.2.2.2.2.2.2.1, .int .i64 y5.2.2.2.2.2.2.2.1, .int .i64 y5.2.2.2.2.2.2.2.2.1, sL 1 (ci .i64) y5.2.2.2.2.2.2.2.2.2.1, .int .u32 y5.2.2.2.2.2.2.2.2.2.2.1, .int .u32 y5.2.2.2.2.2.2.2.2.2.2.2.1, .asl 2 0 r12.2, .bool y5.2.2.2.2.2.2.2.2.2.2.2.2.2], .arr 2 r11.length (fun i => c_THop (r12.1.getD i default))]⟩) (s' := ⟨50, [(2, .ref 0 0), (3, .ref 1 0)], [.box [.int .u32 0, .int .i64 0, .int .i64 0, .int .i64 0, .int .i64 0, .int .i64 0, .int .i64 0, .int .i64 0, .int .i64 0, .sl true 1 0 (fun _ => []), .int .u32 0, .int .u32 0, .sl true 2 0 (fun _ => []), .bool false], .box [.int .u32 y5.1, .int .i64 y5.2.1, .int .i64 y5.2.2.1, .int .i64 y5.2.2.2.1, .int .i64 y5.2.2.2.2.1, .int .i64 y5.2.2.2.2.2.1, .int .i64 y5.2.2.2.2.2.2.1, .int .i64 y5.2.2.2.2.2.2.2.1, .int .i64 y5.2.2.2.2.2.2.2.2.1, sL 1 (ci .i64) y5.2.2.2.2.2.2.2.2.2.1, .int .u32 y5.2.2.2.2.2.2.2.2.2.2.1, .int .u32 y5.2.2.2.2.2.2.2.2.2.2.2.1, .sl false 2 r12.2 (fun k => (fun i => c_THop (r12.1.getD i default)) (0 + k)), .bool y5.2.2.2.2.2.2.2.2.2.2.2.2.2], aL 2 c_THop ([] : List THop)]⟩) 2 2 r11.length (fun i => c_THop (r12.1.getD i default)) (fun i => c_THop (([] : List THop).getD i default)) (by kernel_rfl) (by kernel_rfl) (by kernel_rfl))) ?_
 refine awp_seq ?_
 obtain ⟨r13, q53, h54⟩ := bind_some h52
 refine rg [.pure (sL 1 (ci .i64) r13)] [2, 3] 2 ⟨50, [(2, .ref 0 0), (3, .ref 1 0)], [.box [.int .u32 0, .int .i64 0, .int .i64 0, .int .i64 0, .int .i64 0, .int .i64 0, .int .i64 0, .int .i64 0, .int .i64 0, .sl true 1 0 (fun _ => []), .int .u32 0, .int .u32 0, .sl true 2 0 (fun _ => []), .bool false], .box [.int .u32 y5.1, .int .i64 y5.2.1, .int .i64 y5.2.2.1, .int .i64 y5.2.2.2.1, .int .i64 y5.2.2.2.2.1, .int .i64 y5.2.2.2.2.2.1, .int .i64 y5.2.2.2.2.2.2.1, .int .i64 y5.2.2.2.2.2.2.2.1, .int .i64 y5.2.2.2.2.2.2.2.2.1, sL 1 (ci .i64) r13, .int .u32 y5.2.2.2.2.2.2.2.2.2.2.1, .int .u32 y5.2.2.2.2.2.2.2.2.2.2.2.1, .sl false 2 r12.2 (fun k => (fun i => c_THop (r12.1.getD i default)) (0 + k)), .bool y5.2.2.2.2.2.2.2.2.2.2.2.2.2]]⟩ [] [⟨true, 75, [sL 1 (ci .i64) y5.2.2.2.2.2.2.2.2.2.1], .pure (sL 1 (ci .i64) r13)⟩] nil_all ⟨fun _ => slices_Clone_int_int_ok y5.2.2.2.2.2.2.2.2.2.1 r13 q53, trivial⟩ ?_
 refine then_n (awp_seq (rg0 [2] 1 ⟨50, [(2, .ref 0 0)], [.box [.int .u32 y5.1, .int .i64 y5.2.1, .int .i64 y5.2.2.1, .int .i64 y5.2.2.2.1, .int .i64 y5.2.2.2.2.1, .int .i64 y5.2.2.2.2.2.1, .int .i64 y5.2.2.2.2.2.2.1, .int .i64 y5.2.2.2.2.2.2.2.1, .int .i64 y5.2.2.2.2.2.2.2.2.1, sL 1 (ci .i64) r13, .int .u32 y5.2.2.2.2.2.2.2.2.2.2.1, .int .u32 y5.2.2.2.2.2.2.2.2.2.2.2.1, .sl false 2 r12.2 (fun k => (fun i => c_THop (r12.1.getD i default)) (0 + k)), .bool y5.2.2.2.2.2.2.2.2.2.2.2.2.2]]⟩ ?_))
 refine then_n (awp_ret ?_)
 obtain rfl := Option.some.inj h54
 exact er (.agg [.int .u32 y5.1, .int .i64 y5.2.1, .int .i64 y5.2.2.1, .int .i64 y5.2.2.2.1, .int .i64 y5.2.2.2.2.1, .int .i64 y5.2.2.2.2.2.1, .int .i64 y5.2.2.2.2.2.2.1, .int .i64 y5.2.2.2.2.2.2.2.1, .int .i64 y5.2.2.2.2.2.2.2.2.1, sL 1 (ci .i64) r13, .int .u32 y5.2.2.2.2.2.2.2.2.2.2.1, .int .u32 y5.2.2.2.2.2.2.2.2.2.2.2.1, .sl false 2 r12.2 (fun k => (fun i => c_THop (r12.1.getD i default)) (0 + k)), .bool y5.2.2.2.2.2.2.2.2.2.2.2.2.2]) (sub_agg (.cons CSub.rfl (.cons CSub.rfl (.cons CSub.rfl (.cons CSub.rfl (.cons CSub.rfl (.cons CSub.rfl (.cons CSub.rfl (.cons CSub.rfl (.cons CSub.rfl (.cons CSub.rfl (.cons CSub.rfl (.cons CSub.rfl (.cons (csub_sl (len_pre (c51 _ (List.mem_cons_of_mem _ List.mem_cons_self))) (pre_ext c_THop (f := fun i => c_THop (r12.1.getD i default)) (len_eq (c51 _ List.mem_cons_self)) (fun _ _ => rfl) (c51 _ (List.mem_cons_of_mem _ List.mem_cons_self)))) (.cons CSub.rfl .nil)))))))))))))))
theorem route_Merge_ok (a0 : List TRoute) (r : (List TRoute)) (h : M.route_Merge a0 = some r) : Fn Try.prog 19 [sL 14 c_TRoute a0] (.pure (sL 14 c_TRoute r)) := by
 unfold M.route_Merge at h
 refine fn_pure Try.func19 rfl (by kernel_rfl) ?_
 refine awp_seq (rg0 [0] 0 ⟨46, [(0, sL 14 c_TRoute a0)], []⟩ ?_)
 refine then_n (awp_seq ?_)
 obtain ⟨r1, q1, h2⟩ := bind_some h
 refine rg [oL 14 c_TRoute r1] [3] 1 ⟨46, [(3, .asl 0 0 r1.length)], [aL 14 c_TRoute r1]⟩ [] [⟨true, 52, [sL 14 c_TRoute a0], oL 14 c_TRoute r1⟩] nil_all ⟨fun _ => slices_Clone_api_Route_api_Route_own a0 r1 q1, trivial⟩ ?_
 refine then_n (awp_seq ?_)
 obtain ⟨r2, q3, h4⟩ := bind_some h2
 obtain ⟨c5, h6⟩ := gd_some h4
 refine rg [.lnd 0 0 (fun _ => []) (fun i => c_TRoute (r2.getD i default)) (.tup [])] [3] 1 ⟨46, [(3, .asl 0 0 r1.length)], [.arr 14 r1.length (fun i => c_TRoute (r2.getD i default))]⟩ [] [⟨true, 53, [.asl 0 0 r1.length, .fn 54 []], .lnd 14 r1.length (fun i => c_TRoute (r1.getD i default)) (fun i => c_TRoute (r2.getD i default)) (.tup [])⟩] nil_all ⟨fun _ => slices_SortStableFunc_api_Route_api_Route__route_Merge_1_ok r1 r2 q3, trivial⟩ ?_
 refine then_le (s' := ⟨46, [(3, .asl 0 0 r2.length)], [aL 14 c_TRoute r2]⟩) (le_sub (.cons (asl_len (len_eq (c5 _ List.mem_cons_self))) .nil) (.cons (.arr (len_eq (c5 _ List.mem_cons_self)) (fun _ _ => rfl)) .nil)) ?_
 refine awp_seq ?_
 refine awp_le (s' := ⟨46, [(3, sL 14 c_TRoute r2)], [aL 14 c_TRoute ([] : List TRoute)]⟩) (Le.trans (le_frz 3 0 14 c_TRoute r2 (fun i => c_TRoute (([] : List TRoute).getD i default)) (by kernel_rfl) (by kernel_rfl) (by kernel_rfl)) (kp [3])) ?_
 refine rg0 [3, 4] 0 ⟨46, [(3, sL 14 c_TRoute r2), (4, .sl true 14 0 (fun _ => []))], []⟩ ?_
 refine then_n (awp_seq (awp_seq (rg0 [3, 4, 5] 0 ⟨46, [(3, sL 14 c_TRoute r2), (4, .sl true 14 0 (fun _ => [])), (5, .int .i64 0)], []⟩ ?_)))
 refine then_n (awp_block ?_)
 refine awp_le (s' := ⟨46, [(3, sL 14 c_TRoute r2), (4, .sl true 14 0 (fun _ => [])), (5, .int .i64 0)], []⟩) (le_rfl) ?_
 refine awp_le (s' := ⟨46, [(3, sL 14 c_TRoute r2), (4, .asl 0 0 (([] : List TRoute).length)), (5, .int .i64 0)], [aL 14 c_TRoute ([] : List TRoute)]⟩) (Le.trans (s' := ⟨46, (4, .asl 0 0 0) :: [(3, sL 14 c_TRoute r2), (4, .sl true 14 0 (fun _ => [])), (5, .int .i64 0)], [] ++ [.arr 14 0 (fun i => c_TRoute (([] : List TRoute).getD i default))]⟩) (le_thaw (wd := 14) (f := fun _ => []) 4 (by kernel_rfl) _ _) (kp [3, 4, 5])) ?_
 obtain ⟨y9, q27, h28⟩ := bind_some h6
 refine awp_le (s' := ⟨46, [(3, sL 14 c_TRoute r2), (4, .asl 0 0 (([] : List TRoute).length)), (5, .int .i64 0)], [aL 14 c_TRoute ([] : List TRoute)]⟩) (le_rfl) ?_
 refine awp_mono (awp_loop (f := M.route_Merge_l1 r2) (S := fun (p3 : (List TRoute) × Int) => ⟨46, [(3, sL 14 c_TRoute r2), (4, .asl 0 0 p3.1.length), (5, .int .i64 p3.2)], [aL 14 c_TRoute p3.1]⟩) (O := (fun z => OutE 0 (fun z => ⟨46, [(4, .asl 0 0 z.length)], [aL 14 c_TRoute z]⟩) z)) ?_ (x := (([] : List TRoute), 0)) (y := y9) (loopM_iter q27)) ?_
 intro p3 y4 h7
 unfold M.route_Merge_l1 at h7
 refine awp_seq (awp_seq (rg0 [3, 4, 5, 14] 1 ⟨46, [(3, sL 14 c_TRoute r2), (4, .asl 0 0 p3.1.length), (5, .int .i64 p3.2), (14, .bool (decide (p3.2 < (r2.length : Int))))], [aL 14 c_TRoute p3.1]⟩ ?_))
 refine then_n ?_
 refine cnd (decide (p3.2 < (r2.length : Int))) (fun b8 => ?_) (fun b8 => ?_)
 have h9 := cond_t b8 h7
 refine awp_skip (then_n (awp_block (awp_seq (rg0 [3, 4, 5, 6] 1 ⟨46, [(3, sL 14 c_TRoute r2), (4, .asl 0 0 p3.1.length), (5, .int .i64 p3.2), (6, .int .i64 (wr .i64 (p3.2 + 1)))], [aL 14 c_TRoute p3.1]⟩ ?_))))
 refine then_n (awp_seq (awp_block ?_))
 obtain ⟨y7, q17, h18⟩ := bind_some h9
 refine awp_le (s' := ⟨46, [(3, sL 14 c_TRoute r2), (4, .asl 0 0 p3.1.length), (5, .int .i64 p3.2), (6, .int .i64 (wr .i64 (p3.2 + 1)))], [aL 14 c_TRoute p3.1]⟩) (le_rfl) ?_
 refine awp_mono (awp_loop (f := M.route_Merge_l2 r2 p3) (S := fun (p5 : Int) => ⟨46, [(3, sL 14 c_TRoute r2), (4, .asl 0 0 p3.1.length), (5, .int .i64 p3.2), (6, .int .i64 p5)], [aL 14 c_TRoute p3.1]⟩) (O := (fun z => OutE 2 (fun z => ⟨46, [(3, sL 14 c_TRoute r2), (4, .asl 0 0 p3.1.length), (5, .int .i64 p3.2), (6, .int .i64 z)], [aL 14 c_TRoute p3.1]⟩) z)) ?_ (x := (wr .i64 (p3.2 + 1))) (y := y7) (loopM_iter q17)) ?_
 intro p5 y6 h11
 unfold M.route_Merge_l2 at h11
 refine awp_seq (awp_seq ?_)
 obtain ⟨c12, h13⟩ := gd_some h11
 refine rgc [3, 4, 5, 6, 33] 1 ⟨46, [(3, sL 14 c_TRoute r2), (4, .asl 0 0 p3.1.length), (5, .int .i64 p3.2), (6, .int .i64 p5), (33, .bool ((decide (p5 < (r2.length : Int))) && (((((r2.getD p5.toNat default).fPrefix).fAddr) == (((r2.getD p3.2.toNat default).fPrefix).fAddr)) && (((((r2.getD p5.toNat default).fPrefix).fLen) == (((r2.getD p3.2.toNat default).fPrefix).fLen)) && true))))], [aL 14 c_TRoute p3.1]⟩ [guardB (decide (p5 < (r2.length : Int))) (decide (0 ≤ p5)), guardB (decide (p5 < (r2.length : Int))) (decide (p5 < (r2.length : Int))), guardB (decide (p5 < (r2.length : Int))) (decide (0 ≤ p3.2)), guardB (decide (p5 < (r2.length : Int))) (decide (p3.2 < (r2.length : Int)))] c12 ?_
 refine then_n ?_
 refine cnd ((decide (p5 < (r2.length : Int))) && (((((r2.getD p5.toNat default).fPrefix).fAddr) == (((r2.getD p3.2.toNat default).fPrefix).fAddr)) && (((((r2.getD p5.toNat default).fPrefix).fLen) == (((r2.getD p3.2.toNat default).fPrefix).fLen)) && true))) (fun b14 => ?_) (fun b14 => ?_)
 have h15 := cond_t b14 h13
 refine awp_skip (then_n (awp_block (rg0 [3, 4, 5, 6] 1 ⟨46, [(3, sL 14 c_TRoute r2), (4, .asl 0 0 p3.1.length), (5, .int .i64 p3.2), (6, .int .i64 (wr .i64 (p5 + 1)))], [aL 14 c_TRoute p3.1]⟩ ?_)))
 refine inb_n ?_
 obtain rfl := Option.some.inj h15
 exact round_n (le_rfl)
 have h16 := cond_f b14 h13
 refine awp_exit (then_e ?_)
 obtain rfl := Option.some.inj h16
 exact round_e ⟨rfl, kp [3, 4, 5, 6]⟩
 intro e19 s20 o21
 obtain ⟨rfl, l22⟩ := o21
 refine inb_here ?_
 refine then_le (s' := ⟨46, [(3, sL 14 c_TRoute r2), (4, .asl 0 0 p3.1.length), (5, .int .i64 p3.2), (6, .int .i64 y7)], [aL 14 c_TRoute p3.1]⟩) (l22) ?_
 refine awp_seq ?_
 obtain ⟨r8, q23, h24⟩ := bind_some h18
 obtain ⟨c25, h26⟩ := gd_some h24
 refine rg [.pure (.agg (c_TRoute r8))] [3, 4, 6] 1 ⟨46, [(3, sL 14 c_TRoute r2), (4, .asl 0 0 (p3.1.length + 1)), (6, .int .i64 y7)], [.arr 14 (p3.1.length + 1) (app (fun i => c_TRoute (p3.1.getD i default)) p3.1.length (fun i => List.take 14 (List.drop (i * 14) [.int .u32 r8.fPrefix.fAddr, .int .i64 r8.fPrefix.fLen, .int .i64 r8.fProto, .int .i64 r8.fClass, .int .i64 r8.fAdmin, .int .i64 r8.fMetric, .int .i64 r8.fInner, .int .i64 r8.fTag, .int .i64 r8.fPref, sL 1 (ci .i64) r8.fPath, .int .u32 r8.fFrom, .int .u32 r8.fNext, sL 2 c_THop r8.fHops, .bool r8.fDiscard])))]⟩ [decide (0 ≤ y7), decide (y7 ≤ (r2.length : Int)), decide (0 ≤ p3.2), decide (p3.2 ≤ (y7.toNat : Int)), decide ((p3.1.length + 1) * 136 ≤ 140737488355328)] [⟨true, 56, [.sl false 14 (y7.toNat - p3.2.toNat) (fun i => c_TRoute (r2.getD (p3.2.toNat + i) default))], .pure (.agg (c_TRoute r8))⟩] c25 ⟨fun _ => (route_mergeOne_ok ((r2.drop p3.2.toNat).take (y7.toNat - p3.2.toNat)) r8 q23).args (.cons (asub_sl (len_cut _ _ _ (cut_hi (c25 _ (List.mem_cons_of_mem _ List.mem_cons_self)))) (cut_ext _ _ _ _)) .nil), trivial⟩ ?_
 refine then_le (s' := ⟨46, [(3, sL 14 c_TRoute r2), (4, .asl 0 0 ((p3.1 ++ [r8]).length)), (6, .int .i64 y7)], [aL 14 c_TRoute (p3.1 ++ [r8])]⟩) (le_sub (.cons Sub.rfl (.cons (asl_len (len_snoc _ _)) (.cons Sub.rfl .nil))) (.cons (.arr (len_snoc _ _) (app_snoc c_TRoute p3.1 r8 _ rfl)) .nil)) ?_
 refine rg0 [3, 4, 5] 1 ⟨46, [(3, sL 14 c_TRoute r2), (4, .asl 0 0 ((p3.1 ++ [r8]).length)), (5, .int .i64 y7)], [aL 14 c_TRoute (p3.1 ++ [r8])]⟩ ?_
 refine inb_n ?_
 obtain rfl := Option.some.inj h26
 exact round_n (le_rfl)
 have h10 := cond_f b8 h7
 refine awp_exit (then_e ?_)
 obtain rfl := Option.some.inj h10
 exact round_e ⟨rfl, kp [4]⟩
 intro e29 s30 o31
 obtain ⟨rfl, l32⟩ := o31
 refine inb_here ?_
 refine then_le (s' := ⟨46, [(4, .asl 0 0 y9.length)], [aL 14 c_TRoute y9]⟩) (l32) ?_
 refine awp_seq (rg0 [2] 1 ⟨46, [(2, .asl 0 0 y9.length)], [aL 14 c_TRoute y9]⟩ ?_)
 refine then_n (awp_ret ?_)
 obtain rfl := Option.some.inj h28
 exact er (.sl false 14 y9.length (fun i => c_TRoute (y9.getD (0 + i) default))) sub_asl
theorem addr_clamp_ok (a0 : Int) (r : Int) (h : M.addr_clamp a0 = some r) : Fn Try.prog 82 [.int .i64 a0] (.pure (.int .i64 r)) := by
 unfold M.addr_clamp at h
 refine fn_pure Try.func82 rfl (by kernel_rfl) ?_
 refine awp_seq (rg0 [0] 0 ⟨6, [(0, .int .i64 a0)], []⟩ ?_)
 refine then_n (awp_seq (rg0 [2] 0 ⟨6, [(2, .int .i64 (if (if 32 < a0 then 32 else a0) > 0 then (if 32 < a0 then 32 else a0) else 0))], []⟩ ?_))
 refine then_n (awp_ret ?_)
 obtain rfl := Option.some.inj h
 exact er0 (.int .i64 (if (if 32 < a0 then 32 else a0) > 0 then (if 32 < a0 then 32 else a0) else 0))
theorem addr_Mask_ok (a0 : Int) (r : Int) (h : M.addr_Mask a0 = some r) : Fn Try.prog 76 [.int .i64 a0] (.pure (.int .u32 r)) := by
 unfold M.addr_Mask at h
 refine fn_pure Try.func76 rfl (by kernel_rfl) ?_
 refine awp_seq (rg0 [0] 0 ⟨7, [(0, .int .i64 a0)], []⟩ ?_)
 refine then_n (awp_seq ?_)
 obtain ⟨r1, q1, h2⟩ := bind_some h
 obtain ⟨c3, h4⟩ := gd_some h2
 refine rg [.pure (.int .i64 r1)] [2] 0 ⟨7, [(2, .int .u32 (wr .u32 (4294967295 * 2 ^ min (wr .i64 (32 - r1)).toNat 32)))], []⟩ [decide (0 ≤ (wr .i64 (32 - r1)))] [⟨true, 82, [.int .i64 a0], .pure (.int .i64 r1)⟩] c3 ⟨fun _ => addr_clamp_ok a0 r1 q1, trivial⟩ ?_
 refine then_n (awp_ret ?_)
 obtain rfl := Option.some.inj h4
 exact er0 (.int .u32 (wr .u32 (4294967295 * 2 ^ min (wr .i64 (32 - r1)).toNat 32)))
theorem addr_Valid_ok (a0 : TPrefix) (r : Bool) (h : M.addr_Valid a0 = some r) : Fn Try.prog 65 [.agg (c_TPrefix a0)] (.pure (.bool r)) := by
 unfold M.addr_Valid at h
 refine fn_pure Try.func65 rfl (by kernel_rfl) ?_
 refine awp_seq (rg0 [1] 1 ⟨20, [(1, .ref 0 0)], [.box (c_TPrefix a0)]⟩ ?_)
 refine then_n (awp_seq ?_)
 obtain ⟨r1, q1, h2⟩ := bind_some h
 refine rg [.pure (.int .u32 r1)] [2] 0 ⟨20, [(2, .bool (((decide (a0.fLen ≥ 0)) && (decide (a0.fLen ≤ 32))) && ((bitD .andNot .u32 a0.fAddr r1) == 0)))], []⟩ [] [⟨(decide (a0.fLen ≥ 0)) && (decide (a0.fLen ≤ 32)), 76, [.int .i64 a0.fLen], .pure (.int .u32 r1)⟩] nil_all ⟨fun hg => addr_Mask_ok a0.fLen r1 (gc_some q1 hg), trivial⟩ ?_
 refine then_n (awp_ret ?_)
 obtain rfl := Option.some.inj h2
 exact er0 (.bool (((decide (a0.fLen ≥ 0)) && (decide (a0.fLen ≤ 32))) && ((bitD .andNot .u32 a0.fAddr r1) == 0)))
theorem route_common_ok (a0 : TRoute) (r : Bool) (h : M.route_common a0 = some r) : Fn Try.prog 32 [.agg (c_TRoute a0)] (.pure (.bool r)) := by
 unfold M.route_common at h
 refine fn_pure Try.func32 rfl (by kernel_rfl) ?_
 refine awp_seq (rg0 [1] 1 ⟨68, [(1, .ref 0 0)], [.box (c_TRoute a0)]⟩ ?_)
 refine then_n (awp_seq (awp_seq ?_))
 obtain ⟨r1, q1, h2⟩ := bind_some h
 refine rg [.pure (.bool r1)] [1, 26] 1 ⟨68, [(1, .ref 0 0), (26, .bool ((((!r1) || (decide (a0.fTag < 0))) || (decide (a0.fTag > 65535))) || (decide ((a0.fPath.length : Int) > 64))))], [.box (c_TRoute a0)]⟩ [] [⟨true, 65, [.agg (c_TPrefix a0.fPrefix)], .pure (.bool r1)⟩] nil_all ⟨fun _ => addr_Valid_ok a0.fPrefix r1 q1, trivial⟩ ?_
 refine then_n ?_
 refine cnd ((((!r1) || (decide (a0.fTag < 0))) || (decide (a0.fTag > 65535))) || (decide ((a0.fPath.length : Int) > 64))) (fun b3 => ?_) (fun b3 => ?_)
 have h4 := cond_t b3 h2
 refine awp_seq (rg0 [2] 0 ⟨68, [(2, .bool false)], []⟩ ?_)
 refine then_n (awp_ret (then_r ?_))
 obtain rfl := Option.some.inj h4
 exact er0 (.bool false)
 have h5 := cond_f b3 h2
 refine awp_skip (then_n (awp_seq (awp_seq (rg0 [1, 28, 29, 30] 1 ⟨68, [(1, .ref 0 0), (28, sL 2 c_THop a0.fHops), (29, .int .i64 (a0.fHops.length : Int)), (30, .int .i64 0)], [.box (c_TRoute a0)]⟩ ?_))))
 refine then_n (awp_block ?_)
 obtain ⟨y5, q19, h20⟩ := bind_some h5
 refine awp_le (s' := ⟨68, [(1, .ref 0 0), (28, sL 2 c_THop a0.fHops), (29, .int .i64 (a0.fHops.length : Int)), (30, .int .i64 0)], [.box (c_TRoute a0)]⟩) (le_rfl) ?_
 refine awp_mono (awp_loop (f := M.route_common_l1 a0) (S := fun (p2 : Int) => ⟨68, [(1, .ref 0 0), (28, sL 2 c_THop a0.fHops), (29, .int .i64 (a0.fHops.length : Int)), (30, .int .i64 p2)], [.box (c_TRoute a0)]⟩) (O := (Sum.elim (fun z => OutE 0 (fun z => ⟨68, [(1, .ref 0 0)], [.box (c_TRoute a0)]⟩) z) (fun z => OutR Try.prog Try.f32 (.bool z)))) ?_ (x := 0) (y := y5) (loopM_iter q19)) ?_
 intro p2 y3 h6
 unfold M.route_common_l1 at h6
 refine awp_seq (rg0 [1, 28, 29, 30, 31] 1 ⟨68, [(1, .ref 0 0), (28, sL 2 c_THop a0.fHops), (29, .int .i64 (a0.fHops.length : Int)), (30, .int .i64 p2), (31, .bool (decide (p2 < (a0.fHops.length : Int))))], [.box (c_TRoute a0)]⟩ ?_)
 refine then_n (awp_seq ?_)
 refine cnd (decide (p2 < (a0.fHops.length : Int))) (fun b7 => ?_) (fun b7 => ?_)
 have h8 := cond_t b7 h6
 refine awp_skip (then_n (awp_seq (awp_block (awp_seq ?_))))
 obtain ⟨c10, h11⟩ := gd_some h8
 refine rgc [1, 3, 4, 28, 29, 30] 2 ⟨68, [(1, .ref 0 0), (3, .int .i64 p2), (4, .ref 1 0), (28, sL 2 c_THop a0.fHops), (29, .int .i64 (a0.fHops.length : Int)), (30, .int .i64 p2)], [.box (c_TRoute a0), .box (c_THop (a0.fHops.getD p2.toNat default))]⟩ [decide (0 ≤ p2), decide (p2 < (a0.fHops.length : Int))] c10 ?_
 refine then_n (awp_seq ?_)
 obtain ⟨r4, q12, h13⟩ := bind_some h11
 obtain ⟨c14, h15⟩ := gd_some h13
 refine rg [.pure (.int .i64 r4)] [1, 28, 29, 30, 52] 1 ⟨68, [(1, .ref 0 0), (28, sL 2 c_THop a0.fHops), (29, .int .i64 (a0.fHops.length : Int)), (30, .int .i64 p2), (52, .bool ((decide (((a0.fHops.getD p2.toNat default).fIface) < 0)) || ((decide (p2 > 0)) && (decide (r4 ≥ 0)))))], [.box (c_TRoute a0)]⟩ [guardB ((!(decide (((a0.fHops.getD p2.toNat default).fIface) < 0))) && (decide (p2 > 0))) (decide (0 ≤ (wr .i64 (p2 - 1)))), guardB ((!(decide (((a0.fHops.getD p2.toNat default).fIface) < 0))) && (decide (p2 > 0))) (decide ((wr .i64 (p2 - 1)) < (a0.fHops.length : Int)))] [⟨((!(decide (((a0.fHops.getD p2.toNat default).fIface) < 0))) && (decide (p2 > 0))), 66, [.agg (c_THop (a0.fHops.getD (wr .i64 (p2 - 1)).toNat default)), .agg (c_THop (a0.fHops.getD p2.toNat default))], .pure (.int .i64 r4)⟩] c14 ⟨fun hg => route_compareHops_ok (a0.fHops.getD (wr .i64 (p2 - 1)).toNat default) (a0.fHops.getD p2.toNat default) r4 (gc_some q12 hg), trivial⟩ ?_
 refine then_n ?_
 refine cnd ((decide (((a0.fHops.getD p2.toNat default).fIface) < 0)) || ((decide (p2 > 0)) && (decide (r4 ≥ 0)))) (fun b16 => ?_) (fun b16 => ?_)
 have h17 := cond_t b16 h15
 refine awp_seq (rg0 [2] 0 ⟨68, [(2, .bool false)], []⟩ ?_)
 refine then_n (awp_ret (inb_r (then_r ?_)))
 obtain rfl := Option.some.inj h17
 exact round_r ⟨rfl, er0 (.bool false)⟩
 have h18 := cond_f b16 h15
 refine awp_skip (inb_n (then_n (rg0 [1, 28, 29, 30] 1 ⟨68, [(1, .ref 0 0), (28, sL 2 c_THop a0.fHops), (29, .int .i64 (a0.fHops.length : Int)), (30, .int .i64 (wr .i64 (p2 + 1)))], [.box (c_TRoute a0)]⟩ ?_)))
 obtain rfl := Option.some.inj h18
 exact round_n (le_rfl)
 have h9 := cond_f b7 h6
 refine awp_exit (then_e ?_)
 obtain rfl := Option.some.inj h9
 exact round_e ⟨rfl, kp [1]⟩
 intro e21 s22 o23
 rcases y5 with g6 | y7
 have h24 := elim_l h20
 obtain ⟨rfl, l26⟩ := o23
 refine inb_here ?_
 refine then_le (s' := ⟨68, [(1, .ref 0 0)], [.box (c_TRoute a0)]⟩) (l26) ?_
 refine awp_seq (awp_seq (rg0 [55, 56, 57] 0 ⟨68, [(55, sL 1 (ci .i64) a0.fPath), (56, .int .i64 (a0.fPath.length : Int)), (57, .int .i64 0)], []⟩ ?_))
 refine then_n (awp_block ?_)
 obtain ⟨y10, q36, h37⟩ := bind_some h24
 refine awp_le (s' := ⟨68, [(55, sL 1 (ci .i64) a0.fPath), (56, .int .i64 (a0.fPath.length : Int)), (57, .int .i64 0)], []⟩) (le_rfl) ?_
 refine awp_mono (awp_loop (f := M.route_common_l2 a0) (S := fun (p8 : Int) => ⟨68, [(55, sL 1 (ci .i64) a0.fPath), (56, .int .i64 (a0.fPath.length : Int)), (57, .int .i64 p8)], []⟩) (O := (Sum.elim (fun z => OutE 2 (fun z => ⟨68, [], []⟩) z) (fun z => OutR Try.prog Try.f32 (.bool z)))) ?_ (x := 0) (y := y10) (loopM_iter q36)) ?_
 intro p8 y9 h27
 unfold M.route_common_l2 at h27
 refine awp_seq (rg0 [55, 56, 57, 58] 0 ⟨68, [(55, sL 1 (ci .i64) a0.fPath), (56, .int .i64 (a0.fPath.length : Int)), (57, .int .i64 p8), (58, .bool (decide (p8 < (a0.fPath.length : Int))))], []⟩ ?_)
 refine then_n (awp_seq ?_)
 refine cnd (decide (p8 < (a0.fPath.length : Int))) (fun b28 => ?_) (fun b28 => ?_)
 have h29 := cond_t b28 h27
 refine awp_skip (then_n (awp_seq (awp_block (awp_seq ?_))))
 obtain ⟨c31, h32⟩ := gd_some h29
 refine rgc [6, 55, 56, 57] 0 ⟨68, [(6, .int .i64 (a0.fPath.getD p8.toNat default)), (55, sL 1 (ci .i64) a0.fPath), (56, .int .i64 (a0.fPath.length : Int)), (57, .int .i64 p8)], []⟩ [decide (0 ≤ p8), decide (p8 < (a0.fPath.length : Int))] c31 ?_
 refine then_n (awp_seq (rg0 [55, 56, 57, 66] 0 ⟨68, [(55, sL 1 (ci .i64) a0.fPath), (56, .int .i64 (a0.fPath.length : Int)), (57, .int .i64 p8), (66, .bool ((decide ((a0.fPath.getD p8.toNat default) < 1)) || (decide ((a0.fPath.getD p8.toNat default) > 65535))))], []⟩ ?_))
 refine then_n ?_
 refine cnd ((decide ((a0.fPath.getD p8.toNat default) < 1)) || (decide ((a0.fPath.getD p8.toNat default) > 65535))) (fun b33 => ?_) (fun b33 => ?_)
 have h34 := cond_t b33 h32
 refine awp_seq (rg0 [2] 0 ⟨68, [(2, .bool false)], []⟩ ?_)
 refine then_n (awp_ret (inb_r (then_r ?_)))
 obtain rfl := Option.some.inj h34
 exact round_r ⟨rfl, er0 (.bool false)⟩
 have h35 := cond_f b33 h32
 refine awp_skip (inb_n (then_n (rg0 [55, 56, 57] 0 ⟨68, [(55, sL 1 (ci .i64) a0.fPath), (56, .int .i64 (a0.fPath.length : Int)), (57, .int .i64 (wr .i64 (p8 + 1)))], []⟩ ?_)))
 obtain rfl := Option.some.inj h35
 exact round_n (le_rfl)
 have h30 := cond_f b28 h27
 refine awp_exit (then_e ?_)
 obtain rfl := Option.some.inj h30
 exact round_e ⟨rfl, kp []⟩
 intro e38 s39 o40
 rcases y10 with g11 | y12
 have h41 := elim_l h37
 obtain ⟨rfl, l43⟩ := o40
 refine inb_here ?_
 refine then_le (s' := ⟨68, [], []⟩) (l43) ?_
 refine awp_seq (rg0 [2] 0 ⟨68, [(2, .bool true)], []⟩ ?_)
 refine then_n (awp_ret ?_)
 obtain rfl := Option.some.inj h41
 exact er0 (.bool true)
 have h42 := elim_r h37
 obtain ⟨rfl, n44⟩ := o40
 refine inb_r (then_r ?_)
 obtain rfl := Option.some.inj h42
 exact n44
 have h25 := elim_r h20
 obtain ⟨rfl, n45⟩ := o23
 refine inb_r (then_r ?_)
 obtain rfl := Option.some.inj h25
 exact n45
theorem route_direct_ok (a0 : List THop) (r : Bool) (h : M.route_direct a0 = some r) : Fn Try.prog 33 [sL 2 c_THop a0] (.pure (.bool r)) := by
 unfold M.route_direct at h
 refine fn_pure Try.func33 rfl (by kernel_rfl) ?_
 refine awp_seq (rg0 [0] 0 ⟨13, [(0, sL 2 c_THop a0)], []⟩ ?_)
 refine then_n (awp_seq ?_)
 obtain ⟨c1, h2⟩ := gd_some h
 refine rgc [2] 0 ⟨13, [(2, .bool (((a0.length : Int) == 1) && (((a0.getD (0 : Int).toNat default).fAddr) == 0)))], []⟩ [guardB ((a0.length : Int) == 1) (decide (0 ≤ 0)), guardB ((a0.length : Int) == 1) (decide (0 < (a0.length : Int)))] c1 ?_
 refine then_n (awp_ret ?_)
 obtain rfl := Option.some.inj h2
 exact er0 (.bool (((a0.length : Int) == 1) && (((a0.getD (0 : Int).toNat default).fAddr) == 0)))
theorem route_bare_ok (a0 : TRoute) (r : Bool) (h : M.route_bare a0 = some r) : Fn Try.prog 34 [.agg (c_TRoute a0)] (.pure (.bool r)) := by
 unfold M.route_bare at h
 refine fn_pure Try.func34 rfl (by kernel_rfl) ?_
 refine awp_seq (rg0 [1] 1 ⟨43, [(1, .ref 0 0)], [.box (c_TRoute a0)]⟩ ?_)
 refine then_n (awp_seq (rg0 [2] 0 ⟨43, [(2, .bool ((((((((a0.fMetric == 0) && (a0.fInner == 0)) && (a0.fPref == 0)) && (a0.fFrom == 0)) && (a0.fNext == 0)) && ((a0.fPath.length : Int) == 0)) && ((a0.fHops.length : Int) == 0)) && (!a0.fDiscard)))], []⟩ ?_))
 refine then_n (awp_ret ?_)
 obtain rfl := Option.some.inj h
 exact er0 (.bool ((((((((a0.fMetric == 0) && (a0.fInner == 0)) && (a0.fPref == 0)) && (a0.fFrom == 0)) && (a0.fNext == 0)) && ((a0.fPath.length : Int) == 0)) && ((a0.fHops.length : Int) == 0)) && (!a0.fDiscard)))
theorem route_validStatic_ok (a0 : TRoute) (r : Bool) (h : M.route_validStatic a0 = some r) : Fn Try.prog 35 [.agg (c_TRoute a0)] (.pure (.bool r)) := by
 unfold M.route_validStatic at h
 refine fn_pure Try.func35 rfl (by kernel_rfl) ?_
 refine awp_seq (rg0 [1] 1 ⟨32, [(1, .ref 0 0)], [.box (c_TRoute a0)]⟩ ?_)
 refine then_n (awp_seq (rg0 [1, 3] 1 ⟨32, [(1, .ref 0 0), (3, .int .i64 0)], [.box (c_TRoute a0)]⟩ ?_))
 refine then_n ?_
 refine awp_join (fun (p1 : Int) => ⟨32, [(1, .ref 0 0), (3, .int .i64 p1)], [.box (c_TRoute a0)]⟩) (fun p1 => M.route_validStatic_k1 a0 p1 = some r) ?_ ?_
 intro p1 h2
 unfold M.route_validStatic_k1 at h2
 refine awp_join (fun (p2 : Int × (List THop)) => ⟨32, [(1, .ref 0 0), (3, .int .i64 p2.1)], [.box [.int .u32 a0.fPrefix.fAddr, .int .i64 a0.fPrefix.fLen, .int .i64 a0.fProto, .int .i64 a0.fClass, .int .i64 a0.fAdmin, .int .i64 a0.fMetric, .int .i64 a0.fInner, .int .i64 a0.fTag, .int .i64 a0.fPref, sL 1 (ci .i64) a0.fPath, .int .u32 a0.fFrom, .int .u32 a0.fNext, sL 2 c_THop p2.2, .bool a0.fDiscard]]⟩) (fun p2 => M.route_validStatic_k2 a0 p2 = some r) ?_ ?_
 intro p2 h4
 unfold M.route_validStatic_k2 at h4
 refine awp_join (fun (p3 : Int) => ⟨32, [(1, .ref 0 0), (3, .int .i64 p3)], [.box [.int .u32 a0.fPrefix.fAddr, .int .i64 a0.fPrefix.fLen, .int .i64 a0.fProto, .int .i64 a0.fClass, .int .i64 a0.fAdmin, .int .i64 a0.fMetric, .int .i64 a0.fInner, .int .i64 a0.fTag, .int .i64 a0.fPref, sL 1 (ci .i64) a0.fPath, .int .u32 a0.fFrom, .int .u32 a0.fNext, sL 2 c_THop p2.2, .bool a0.fDiscard]]⟩) (fun p3 => M.route_validStatic_k3 a0 p2 p3 = some r) ?_ ?_
 intro p3 h6
 unfold M.route_validStatic_k3 at h6
 refine awp_seq (rg0 [1, 3] 1 ⟨32, [(1, .ref 0 0), (3, .int .i64 p3)], [.box [.int .u32 a0.fPrefix.fAddr, .int .i64 a0.fPrefix.fLen, .int .i64 a0.fProto, .int .i64 a0.fClass, .int .i64 a0.fAdmin, .int .i64 a0.fMetric, .int .i64 a0.fInner, .int .i64 a0.fTag, .int .i64 a0.fPref, sL 1 (ci .i64) a0.fPath, .int .u32 a0.fFrom, .int .u32 0, sL 2 c_THop p2.2, .bool false]]⟩ ?_)
 refine then_n (awp_seq ?_)
 obtain ⟨r4, q7, h8⟩ := bind_some h6
 refine rg [.pure (.bool r4)] [2] 0 ⟨32, [(2, .bool (((a0.fClass == 0) && (p3 == 1)) && r4))], []⟩ [] [⟨(a0.fClass == 0) && (p3 == 1), 34, [.agg [.int .u32 a0.fPrefix.fAddr, .int .i64 a0.fPrefix.fLen, .int .i64 a0.fProto, .int .i64 a0.fClass, .int .i64 a0.fAdmin, .int .i64 a0.fMetric, .int .i64 a0.fInner, .int .i64 a0.fTag, .int .i64 a0.fPref, sL 1 (ci .i64) a0.fPath, .int .u32 a0.fFrom, .int .u32 0, sL 2 c_THop p2.2, .bool false]], .pure (.bool r4)⟩] nil_all ⟨fun hg => route_bare_ok (⟨a0.fPrefix, a0.fProto, a0.fClass, a0.fAdmin, a0.fMetric, a0.fInner, a0.fTag, a0.fPref, a0.fPath, a0.fFrom, 0, p2.2, false⟩ : TRoute) r4 (gc_some q7 hg), trivial⟩ ?_
 refine then_n (awp_ret ?_)
 obtain rfl := Option.some.inj h8
 exact er0 (.bool (((a0.fClass == 0) && (p3 == 1)) && r4))
 intro k5
 refine awp_seq (rg0 [1, 3, 16] 1 ⟨32, [(1, .ref 0 0), (3, .int .i64 p2.1), (16, .bool a0.fDiscard)], [.box [.int .u32 a0.fPrefix.fAddr, .int .i64 a0.fPrefix.fLen, .int .i64 a0.fProto, .int .i64 a0.fClass, .int .i64 a0.fAdmin, .int .i64 a0.fMetric, .int .i64 a0.fInner, .int .i64 a0.fTag, .int .i64 a0.fPref, sL 1 (ci .i64) a0.fPath, .int .u32 a0.fFrom, .int .u32 a0.fNext, sL 2 c_THop p2.2, .bool a0.fDiscard]]⟩ ?_)
 refine then_n ?_
 refine cnd a0.fDiscard (fun b9 => ?_) (fun b9 => ?_)
 have h10 := cond_t b9 h4
 refine rg0 [1, 3] 1 ⟨32, [(1, .ref 0 0), (3, .int .i64 (wr .i64 (p2.1 + 1)))], [.box [.int .u32 a0.fPrefix.fAddr, .int .i64 a0.fPrefix.fLen, .int .i64 a0.fProto, .int .i64 a0.fClass, .int .i64 a0.fAdmin, .int .i64 a0.fMetric, .int .i64 a0.fInner, .int .i64 a0.fTag, .int .i64 a0.fPref, sL 1 (ci .i64) a0.fPath, .int .u32 a0.fFrom, .int .u32 a0.fNext, sL 2 c_THop p2.2, .bool a0.fDiscard]]⟩ ?_
 exact then_le (le_rfl) (k5 (wr .i64 (p2.1 + 1)) h10)
 have h11 := cond_f b9 h4
 refine awp_skip ?_
 exact then_le (kp [1, 3]) (k5 p2.1 h11)
 intro k3
 refine awp_seq ?_
 obtain ⟨r5, q12, h13⟩ := bind_some h2
 refine rg [.pure (.bool r5)] [1, 3, 11] 1 ⟨32, [(1, .ref 0 0), (3, .int .i64 p1), (11, .bool r5)], [.box (c_TRoute a0)]⟩ [] [⟨true, 33, [sL 2 c_THop a0.fHops], .pure (.bool r5)⟩] nil_all ⟨fun _ => route_direct_ok a0.fHops r5 q12, trivial⟩ ?_
 refine then_n ?_
 refine cnd r5 (fun b14 => ?_) (fun b14 => ?_)
 have h15 := cond_t b14 h13
 refine awp_seq (rg0 [1, 3] 1 ⟨32, [(1, .ref 0 0), (3, .int .i64 (wr .i64 (p1 + 1)))], [.box (c_TRoute a0)]⟩ ?_)
 refine then_n (rg0 [1, 3] 1 ⟨32, [(1, .ref 0 0), (3, .int .i64 (wr .i64 (p1 + 1)))], [.box [.int .u32 a0.fPrefix.fAddr, .int .i64 a0.fPrefix.fLen, .int .i64 a0.fProto, .int .i64 a0.fClass, .int .i64 a0.fAdmin, .int .i64 a0.fMetric, .int .i64 a0.fInner, .int .i64 a0.fTag, .int .i64 a0.fPref, sL 1 (ci .i64) a0.fPath, .int .u32 a0.fFrom, .int .u32 a0.fNext, .sl true 2 0 (fun _ => []), .bool a0.fDiscard]]⟩ ?_)
 exact then_le (le_sub (.cons Sub.rfl (.cons Sub.rfl .nil)) (.cons (.box (.cons CSub.rfl (.cons CSub.rfl (.cons CSub.rfl (.cons CSub.rfl (.cons CSub.rfl (.cons CSub.rfl (.cons CSub.rfl (.cons CSub.rfl (.cons CSub.rfl (.cons CSub.rfl (.cons CSub.rfl (.cons CSub.rfl (.cons csub_nil (.cons CSub.rfl .nil))))))))))))))) .nil)) (k3 (wr .i64 (p1 + 1), ([] : List THop)) h15)
 have h16 := cond_f b14 h13
 refine awp_skip ?_
 exact then_le (kp [1, 3]) (k3 (p1, a0.fHops) h16)
 intro k1
 refine awp_seq (rg0 [1, 3, 6] 1 ⟨32, [(1, .ref 0 0), (3, .int .i64 0), (6, .bool (a0.fNext != 0))], [.box (c_TRoute a0)]⟩ ?_)
 refine then_n ?_
 refine cnd (a0.fNext != 0) (fun b17 => ?_) (fun b17 => ?_)
 have h18 := cond_t b17 h
 refine rg0 [1, 3] 1 ⟨32, [(1, .ref 0 0), (3, .int .i64 1)], [.box (c_TRoute a0)]⟩ ?_
 exact then_le (le_rfl) (k1 1 h18)
 have h19 := cond_f b17 h
 refine awp_skip ?_
 exact then_le (kp [1, 3]) (k1 0 h19)
theorem route_within_ok (a0 : Int) (a1 : Int) (a2 : Int) (r : Bool) (h : M.route_within a0 a1 a2 = some r) : Fn Try.prog 67 [.int .i64 a0, .int .i64 a1, .int .i64 a2] (.pure (.bool r)) := by
 unfold M.route_within at h
 refine fn_pure Try.func67 rfl (by kernel_rfl) ?_
 refine awp_seq (rg0 [0, 1, 2] 0 ⟨15, [(0, .int .i64 a0), (1, .int .i64 a1), (2, .int .i64 a2)], []⟩ ?_)
 refine then_n (awp_seq (rg0 [6] 0 ⟨15, [(6, .bool ((decide (a1 ≤ a0)) && (decide (a0 ≤ a2))))], []⟩ ?_))
 refine then_n (awp_ret ?_)
 obtain rfl := Option.some.inj h
 exact er0 (.bool ((decide (a1 ≤ a0)) && (decide (a0 ≤ a2))))
theorem route_indirect_ok (a0 : List THop) (r : Bool) (h : M.route_indirect a0 = some r) : Fn Try.prog 68 [sL 2 c_THop a0] (.pure (.bool r)) := by
 unfold M.route_indirect at h
 refine fn_pure Try.func68 rfl (by kernel_rfl) ?_
 refine awp_seq (rg0 [0] 0 ⟨18, [(0, sL 2 c_THop a0)], []⟩ ?_)
 refine then_n (awp_seq (awp_seq (rg0 [0, 5, 6, 7] 0 ⟨18, [(0, sL 2 c_THop a0), (5, sL 2 c_THop a0), (6, .int .i64 (a0.length : Int)), (7, .int .i64 0)], []⟩ ?_)))
 refine then_n (awp_block ?_)
 obtain ⟨y3, q10, h11⟩ := bind_some h
 refine awp_le (s' := ⟨18, [(0, sL 2 c_THop a0), (5, sL 2 c_THop a0), (6, .int .i64 (a0.length : Int)), (7, .int .i64 0)], []⟩) (le_rfl) ?_
 refine awp_mono (awp_loop (f := M.route_indirect_l1 a0) (S := fun (p1 : Int) => ⟨18, [(0, sL 2 c_THop a0), (5, sL 2 c_THop a0), (6, .int .i64 (a0.length : Int)), (7, .int .i64 p1)], []⟩) (O := (Sum.elim (fun z => OutE 0 (fun z => ⟨18, [(0, sL 2 c_THop a0)], []⟩) z) (fun z => OutR Try.prog Try.f68 (.bool z)))) ?_ (x := 0) (y := y3) (loopM_iter q10)) ?_
 intro p1 y2 h1
 unfold M.route_indirect_l1 at h1
 refine awp_seq (rg0 [0, 5, 6, 7, 8] 0 ⟨18, [(0, sL 2 c_THop a0), (5, sL 2 c_THop a0), (6, .int .i64 (a0.length : Int)), (7, .int .i64 p1), (8, .bool (decide (p1 < (a0.length : Int))))], []⟩ ?_)
 refine then_n (awp_seq ?_)
 refine cnd (decide (p1 < (a0.length : Int))) (fun b2 => ?_) (fun b2 => ?_)
 have h3 := cond_t b2 h1
 refine awp_skip (then_n (awp_seq (awp_block (awp_seq ?_))))
 obtain ⟨c5, h6⟩ := gd_some h3
 refine rgc [0, 4, 5, 6, 7] 1 ⟨18, [(0, sL 2 c_THop a0), (4, .ref 0 0), (5, sL 2 c_THop a0), (6, .int .i64 (a0.length : Int)), (7, .int .i64 p1)], [.box (c_THop (a0.getD p1.toNat default))]⟩ [decide (0 ≤ p1), decide (p1 < (a0.length : Int))] c5 ?_
 refine then_n (awp_seq (rg0 [0, 5, 6, 7, 13] 0 ⟨18, [(0, sL 2 c_THop a0), (5, sL 2 c_THop a0), (6, .int .i64 (a0.length : Int)), (7, .int .i64 p1), (13, .bool (((a0.getD p1.toNat default).fAddr) == 0))], []⟩ ?_))
 refine then_n ?_
 refine cnd (((a0.getD p1.toNat default).fAddr) == 0) (fun b7 => ?_) (fun b7 => ?_)
 have h8 := cond_t b7 h6
 refine awp_seq (rg0 [2] 0 ⟨18, [(2, .bool false)], []⟩ ?_)
 refine then_n (awp_ret (inb_r (then_r ?_)))
 obtain rfl := Option.some.inj h8
 exact round_r ⟨rfl, er0 (.bool false)⟩
 have h9 := cond_f b7 h6
 refine awp_skip (inb_n (then_n (rg0 [0, 5, 6, 7] 0 ⟨18, [(0, sL 2 c_THop a0), (5, sL 2 c_THop a0), (6, .int .i64 (a0.length : Int)), (7, .int .i64 (wr .i64 (p1 + 1)))], []⟩ ?_)))
 obtain rfl := Option.some.inj h9
 exact round_n (le_rfl)
 have h4 := cond_f b2 h1
 refine awp_exit (then_e ?_)
 obtain rfl := Option.some.inj h4
 exact round_e ⟨rfl, kp [0]⟩
 intro e12 s13 o14
 rcases y3 with g4 | y5
 have h15 := elim_l h11
 obtain ⟨rfl, l17⟩ := o14
 refine inb_here ?_
 refine then_le (s' := ⟨18, [(0, sL 2 c_THop a0)], []⟩) (l17) ?_
 refine awp_seq (rg0 [2] 0 ⟨18, [(2, .bool (decide ((a0.length : Int) > 0)))], []⟩ ?_)
 refine then_n (awp_ret ?_)
 obtain rfl := Option.some.inj h15
 exact er0 (.bool (decide ((a0.length : Int) > 0)))
 have h16 := elim_r h11
 obtain ⟨rfl, n18⟩ := o14
 refine inb_r (then_r ?_)
 obtain rfl := Option.some.inj h16
 exact n18
theorem route_validLinkState_ok (a0 : TRoute) (r : Bool) (h : M.route_validLinkState a0 = some r) : Fn Try.prog 36 [.agg (c_TRoute a0)] (.pure (.bool r)) := by
 unfold M.route_validLinkState at h
 refine fn_pure Try.func36 rfl (by kernel_rfl) ?_
 refine awp_seq (rg0 [1] 1 ⟨47, [(1, .ref 0 0)], [.box (c_TRoute a0)]⟩ ?_)
 refine then_n (awp_seq (awp_seq (rg0 [1, 4] 1 ⟨47, [(1, .ref 0 0), (4, .bool a0.fDiscard)], [.box (c_TRoute a0)]⟩ ?_)))
 refine then_n ?_
 refine cnd a0.fDiscard (fun b1 => ?_) (fun b1 => ?_)
 have h2 := cond_t b1 h
 refine awp_seq (rg0 [1] 1 ⟨47, [(1, .ref 0 0)], [.box [.int .u32 a0.fPrefix.fAddr, .int .i64 a0.fPrefix.fLen, .int .i64 a0.fProto, .int .i64 a0.fClass, .int .i64 a0.fAdmin, .int .i64 a0.fMetric, .int .i64 a0.fInner, .int .i64 a0.fTag, .int .i64 a0.fPref, sL 1 (ci .i64) a0.fPath, .int .u32 a0.fFrom, .int .u32 a0.fNext, sL 2 c_THop a0.fHops, .bool false]]⟩ ?_)
 refine then_n (awp_seq ?_)
 obtain ⟨r1, q4, h5⟩ := bind_some h2
 refine rg [.pure (.bool r1)] [2] 0 ⟨47, [(2, .bool (((a0.fClass == 1) && (a0.fTag == 0)) && r1))], []⟩ [] [⟨(a0.fClass == 1) && (a0.fTag == 0), 34, [.agg [.int .u32 a0.fPrefix.fAddr, .int .i64 a0.fPrefix.fLen, .int .i64 a0.fProto, .int .i64 a0.fClass, .int .i64 a0.fAdmin, .int .i64 a0.fMetric, .int .i64 a0.fInner, .int .i64 a0.fTag, .int .i64 a0.fPref, sL 1 (ci .i64) a0.fPath, .int .u32 a0.fFrom, .int .u32 a0.fNext, sL 2 c_THop a0.fHops, .bool false]], .pure (.bool r1)⟩] nil_all ⟨fun hg => route_bare_ok (⟨a0.fPrefix, a0.fProto, a0.fClass, a0.fAdmin, a0.fMetric, a0.fInner, a0.fTag, a0.fPref, a0.fPath, a0.fFrom, a0.fNext, a0.fHops, false⟩ : TRoute) r1 (gc_some q4 hg), trivial⟩ ?_
 refine then_n (awp_ret (then_r ?_))
 obtain rfl := Option.some.inj h5
 exact er0 (.bool (((a0.fClass == 1) && (a0.fTag == 0)) && r1))
 have h3 := cond_f b1 h
 refine awp_skip (then_n (awp_seq (awp_seq ?_)))
 obtain ⟨r2, q6, h7⟩ := bind_some h3
 obtain ⟨r3, q8, h9⟩ := bind_some h7
 obtain ⟨r4, q10, h11⟩ := bind_some h9
 refine rg [.pure (.bool r2), .pure (.bool r3), .pure (.bool r4)] [1, 33] 1 ⟨47, [(1, .ref 0 0), (33, .bool (((!r2) || (!r3)) || (!r4)))], [.box (c_TRoute a0)]⟩ [] [⟨true, 67, [.int .i64 a0.fClass, .int .i64 1, .int .i64 4], .pure (.bool r2)⟩, ⟨(!(!r2)), 67, [.int .i64 a0.fMetric, .int .i64 0, .int .i64 1073741824], .pure (.bool r3)⟩, ⟨(!((!r2) || (!r3))), 68, [sL 2 c_THop a0.fHops], .pure (.bool r4)⟩] nil_all ⟨fun _ => route_within_ok a0.fClass 1 4 r2 q6, fun hg => route_within_ok a0.fMetric 0 1073741824 r3 (gc_some q8 hg), fun hg => route_indirect_ok a0.fHops r4 (gc_some q10 hg), trivial⟩ ?_
 refine then_n ?_
 refine cnd (((!r2) || (!r3)) || (!r4)) (fun b12 => ?_) (fun b12 => ?_)
 have h13 := cond_t b12 h11
 refine awp_seq (rg0 [2] 0 ⟨47, [(2, .bool false)], []⟩ ?_)
 refine then_n (awp_ret (then_r ?_))
 obtain rfl := Option.some.inj h13
 exact er0 (.bool false)
 have h14 := cond_f b12 h11
 refine awp_skip (then_n (awp_seq (rg0 [1] 1 ⟨47, [(1, .ref 0 0)], [.box [.int .u32 a0.fPrefix.fAddr, .int .i64 a0.fPrefix.fLen, .int .i64 a0.fProto, .int .i64 a0.fClass, .int .i64 a0.fAdmin, .int .i64 0, .int .i64 a0.fInner, .int .i64 a0.fTag, .int .i64 a0.fPref, sL 1 (ci .i64) a0.fPath, .int .u32 a0.fFrom, .int .u32 a0.fNext, .sl true 2 0 (fun _ => []), .bool a0.fDiscard]]⟩ ?_)))
 refine then_n ?_
 refine awp_join (fun (p5 : Int) => ⟨47, [(1, .ref 0 0)], [.box [.int .u32 a0.fPrefix.fAddr, .int .i64 a0.fPrefix.fLen, .int .i64 a0.fProto, .int .i64 a0.fClass, .int .i64 a0.fAdmin, .int .i64 0, .int .i64 p5, .int .i64 a0.fTag, .int .i64 a0.fPref, sL 1 (ci .i64) a0.fPath, .int .u32 a0.fFrom, .int .u32 a0.fNext, .sl true 2 0 (fun _ => []), .bool a0.fDiscard]]⟩) (fun p5 => M.route_validLinkState_k1 a0 p5 = some r) ?_ ?_
 intro p5 h16
 unfold M.route_validLinkState_k1 at h16
 refine awp_seq ?_
 obtain ⟨r6, q17, h18⟩ := bind_some h16
 refine rg [.pure (.bool r6)] [2] 0 ⟨47, [(2, .bool r6)], []⟩ [] [⟨true, 34, [.agg [.int .u32 a0.fPrefix.fAddr, .int .i64 a0.fPrefix.fLen, .int .i64 a0.fProto, .int .i64 a0.fClass, .int .i64 a0.fAdmin, .int .i64 0, .int .i64 p5, .int .i64 a0.fTag, .int .i64 a0.fPref, sL 1 (ci .i64) a0.fPath, .int .u32 a0.fFrom, .int .u32 a0.fNext, .sl false 2 0 (fun _ => []), .bool a0.fDiscard]], .pure (.bool r6)⟩] nil_all ⟨fun _ => (route_bare_ok (⟨a0.fPrefix, a0.fProto, a0.fClass, a0.fAdmin, 0, p5, a0.fTag, a0.fPref, a0.fPath, a0.fFrom, a0.fNext, ([] : List THop), a0.fDiscard⟩ : TRoute) r6 q17).args (.cons (asub_agg (.cons CSub.rfl (.cons CSub.rfl (.cons CSub.rfl (.cons CSub.rfl (.cons CSub.rfl (.cons CSub.rfl (.cons CSub.rfl (.cons CSub.rfl (.cons CSub.rfl (.cons CSub.rfl (.cons CSub.rfl (.cons CSub.rfl (.cons csub_nil (.cons CSub.rfl .nil))))))))))))))) .nil), trivial⟩ ?_
 refine then_n (awp_ret ?_)
 obtain rfl := Option.some.inj h18
 exact er0 (.bool r6)
 intro k15
 refine awp_seq ?_
 obtain ⟨r7, q19, h20⟩ := bind_some h14
 refine rg [.pure (.bool r7)] [1, 43] 1 ⟨47, [(1, .ref 0 0), (43, .bool ((a0.fClass == 4) && r7))], [.box [.int .u32 a0.fPrefix.fAddr, .int .i64 a0.fPrefix.fLen, .int .i64 a0.fProto, .int .i64 a0.fClass, .int .i64 a0.fAdmin, .int .i64 0, .int .i64 a0.fInner, .int .i64 a0.fTag, .int .i64 a0.fPref, sL 1 (ci .i64) a0.fPath, .int .u32 a0.fFrom, .int .u32 a0.fNext, .sl true 2 0 (fun _ => []), .bool a0.fDiscard]]⟩ [] [⟨a0.fClass == 4, 67, [.int .i64 a0.fInner, .int .i64 0, .int .i64 1073741824], .pure (.bool r7)⟩] nil_all ⟨fun hg => route_within_ok a0.fInner 0 1073741824 r7 (gc_some q19 hg), trivial⟩ ?_
 refine then_n ?_
 refine cnd ((a0.fClass == 4) && r7) (fun b21 => ?_) (fun b21 => ?_)
 have h22 := cond_t b21 h20
 refine rg0 [1] 1 ⟨47, [(1, .ref 0 0)], [.box [.int .u32 a0.fPrefix.fAddr, .int .i64 a0.fPrefix.fLen, .int .i64 a0.fProto, .int .i64 a0.fClass, .int .i64 a0.fAdmin, .int .i64 0, .int .i64 0, .int .i64 a0.fTag, .int .i64 a0.fPref, sL 1 (ci .i64) a0.fPath, .int .u32 a0.fFrom, .int .u32 a0.fNext, .sl true 2 0 (fun _ => []), .bool a0.fDiscard]]⟩ ?_
 exact then_le (le_rfl) (k15 0 h22)
 have h23 := cond_f b21 h20
 refine awp_skip ?_
 exact then_le (kp [1]) (k15 a0.fInner h23)
theorem route_validDistance_ok (a0 : TRoute) (r : Bool) (h : M.route_validDistance a0 = some r) : Fn Try.prog 37 [.agg (c_TRoute a0)] (.pure (.bool r)) := by
 unfold M.route_validDistance at h
 refine fn_pure Try.func37 rfl (by kernel_rfl) ?_
 refine awp_seq (rg0 [1] 1 ⟨42, [(1, .ref 0 0)], [.box (c_TRoute a0)]⟩ ?_)
 refine then_n (awp_seq ?_)
 obtain ⟨r1, q1, h2⟩ := bind_some h
 refine rg [.pure (.bool r1)] [1, 3] 1 ⟨42, [(1, .ref 0 0), (3, .bool r1)], [.box (c_TRoute a0)]⟩ [] [⟨true, 67, [.int .i64 a0.fMetric, .int .i64 1, .int .i64 15], .pure (.bool r1)⟩] nil_all ⟨fun _ => route_within_ok a0.fMetric 1 15 r1 q1, trivial⟩ ?_
 refine then_n ?_
 refine awp_join (fun (p2 : Bool × (List THop)) => ⟨42, [(1, .ref 0 0), (3, .bool p2.1)], [.box [.int .u32 a0.fPrefix.fAddr, .int .i64 a0.fPrefix.fLen, .int .i64 a0.fProto, .int .i64 a0.fClass, .int .i64 a0.fAdmin, .int .i64 a0.fMetric, .int .i64 a0.fInner, .int .i64 a0.fTag, .int .i64 a0.fPref, sL 1 (ci .i64) a0.fPath, .int .u32 a0.fFrom, .int .u32 a0.fNext, sL 2 c_THop p2.2, .bool a0.fDiscard]]⟩) (fun p2 => M.route_validDistance_k1 a0 p2 = some r) ?_ ?_
 intro p2 h4
 unfold M.route_validDistance_k1 at h4
 refine awp_seq (rg0 [1, 3] 1 ⟨42, [(1, .ref 0 0), (3, .bool p2.1)], [.box [.int .u32 a0.fPrefix.fAddr, .int .i64 a0.fPrefix.fLen, .int .i64 a0.fProto, .int .i64 a0.fClass, .int .i64 a0.fAdmin, .int .i64 0, .int .i64 a0.fInner, .int .i64 a0.fTag, .int .i64 a0.fPref, sL 1 (ci .i64) a0.fPath, .int .u32 a0.fFrom, .int .u32 a0.fNext, sL 2 c_THop p2.2, .bool a0.fDiscard]]⟩ ?_)
 refine then_n (awp_seq ?_)
 obtain ⟨r3, q5, h6⟩ := bind_some h4
 refine rg [.pure (.bool r3)] [2] 0 ⟨42, [(2, .bool (p2.1 && r3))], []⟩ [] [⟨p2.1, 34, [.agg [.int .u32 a0.fPrefix.fAddr, .int .i64 a0.fPrefix.fLen, .int .i64 a0.fProto, .int .i64 a0.fClass, .int .i64 a0.fAdmin, .int .i64 0, .int .i64 a0.fInner, .int .i64 a0.fTag, .int .i64 a0.fPref, sL 1 (ci .i64) a0.fPath, .int .u32 a0.fFrom, .int .u32 a0.fNext, sL 2 c_THop p2.2, .bool a0.fDiscard]], .pure (.bool r3)⟩] nil_all ⟨fun hg => route_bare_ok (⟨a0.fPrefix, a0.fProto, a0.fClass, a0.fAdmin, 0, a0.fInner, a0.fTag, a0.fPref, a0.fPath, a0.fFrom, a0.fNext, p2.2, a0.fDiscard⟩ : TRoute) r3 (gc_some q5 hg), trivial⟩ ?_
 refine then_n (awp_ret ?_)
 obtain rfl := Option.some.inj h6
 exact er0 (.bool (p2.1 && r3))
 intro k3
 refine awp_seq (rg0 [1, 3, 8] 1 ⟨42, [(1, .ref 0 0), (3, .bool r1), (8, .int .i64 a0.fClass)], [.box (c_TRoute a0)]⟩ ?_)
 refine then_n (awp_block (awp_seq (rg0 [1, 3, 8, 9] 1 ⟨42, [(1, .ref 0 0), (3, .bool r1), (8, .int .i64 a0.fClass), (9, .bool (a0.fClass == 1))], [.box (c_TRoute a0)]⟩ ?_)))
 refine then_n ?_
 refine cnd (a0.fClass == 1) (fun b7 => ?_) (fun b7 => ?_)
 have h8 := cond_t b7 h2
 refine awp_seq ?_
 obtain ⟨r4, q10, h11⟩ := bind_some h8
 refine rg [.pure (.bool r4)] [1, 3] 1 ⟨42, [(1, .ref 0 0), (3, .bool (((a0.fMetric == 1) && (a0.fTag == 0)) && r4))], [.box (c_TRoute a0)]⟩ [] [⟨(a0.fMetric == 1) && (a0.fTag == 0), 33, [sL 2 c_THop a0.fHops], .pure (.bool r4)⟩] nil_all ⟨fun hg => route_direct_ok a0.fHops r4 (gc_some q10 hg), trivial⟩ ?_
 refine then_n (rg0 [1, 3] 1 ⟨42, [(1, .ref 0 0), (3, .bool (((a0.fMetric == 1) && (a0.fTag == 0)) && r4))], [.box [.int .u32 a0.fPrefix.fAddr, .int .i64 a0.fPrefix.fLen, .int .i64 a0.fProto, .int .i64 a0.fClass, .int .i64 a0.fAdmin, .int .i64 a0.fMetric, .int .i64 a0.fInner, .int .i64 a0.fTag, .int .i64 a0.fPref, sL 1 (ci .i64) a0.fPath, .int .u32 a0.fFrom, .int .u32 a0.fNext, .sl true 2 0 (fun _ => []), .bool a0.fDiscard]]⟩ ?_)
 refine inb_n ?_
 exact then_le (le_sub (.cons Sub.rfl (.cons Sub.rfl .nil)) (.cons (.box (.cons CSub.rfl (.cons CSub.rfl (.cons CSub.rfl (.cons CSub.rfl (.cons CSub.rfl (.cons CSub.rfl (.cons CSub.rfl (.cons CSub.rfl (.cons CSub.rfl (.cons CSub.rfl (.cons CSub.rfl (.cons CSub.rfl (.cons csub_nil (.cons CSub.rfl .nil))))))))))))))) .nil)) (k3 (((a0.fMetric == 1) && (a0.fTag == 0)) && r4, ([] : List THop)) h11)
 have h9 := cond_f b7 h2
 refine awp_seq (rg0 [1, 3, 8, 25] 1 ⟨42, [(1, .ref 0 0), (3, .bool r1), (8, .int .i64 a0.fClass), (25, .bool (a0.fClass == 2))], [.box (c_TRoute a0)]⟩ ?_)
 refine then_n ?_
 refine cnd (a0.fClass == 2) (fun b12 => ?_) (fun b12 => ?_)
 have h13 := cond_t b12 h9
 refine awp_skip (inb_n ?_)
 exact then_le (kp [1, 3]) (k3 (r1, a0.fHops) h13)
 have h14 := cond_f b12 h9
 refine awp_seq (rg0 [1, 3, 27] 1 ⟨42, [(1, .ref 0 0), (3, .bool r1), (27, .bool (a0.fClass == 3))], [.box (c_TRoute a0)]⟩ ?_)
 refine then_n ?_
 refine cnd (a0.fClass == 3) (fun b15 => ?_) (fun b15 => ?_)
 have h16 := cond_t b15 h14
 refine awp_seq ?_
 obtain ⟨r5, q18, h19⟩ := bind_some h16
 refine rg [.pure (.bool r5)] [1, 3] 1 ⟨42, [(1, .ref 0 0), (3, .bool (r1 && r5))], [.box (c_TRoute a0)]⟩ [] [⟨r1, 68, [sL 2 c_THop a0.fHops], .pure (.bool r5)⟩] nil_all ⟨fun hg => route_indirect_ok a0.fHops r5 (gc_some q18 hg), trivial⟩ ?_
 refine then_n (rg0 [1, 3] 1 ⟨42, [(1, .ref 0 0), (3, .bool (r1 && r5))], [.box [.int .u32 a0.fPrefix.fAddr, .int .i64 a0.fPrefix.fLen, .int .i64 a0.fProto, .int .i64 a0.fClass, .int .i64 a0.fAdmin, .int .i64 a0.fMetric, .int .i64 a0.fInner, .int .i64 a0.fTag, .int .i64 a0.fPref, sL 1 (ci .i64) a0.fPath, .int .u32 a0.fFrom, .int .u32 a0.fNext, .sl true 2 0 (fun _ => []), .bool a0.fDiscard]]⟩ ?_)
 refine inb_n ?_
 exact then_le (le_sub (.cons Sub.rfl (.cons Sub.rfl .nil)) (.cons (.box (.cons CSub.rfl (.cons CSub.rfl (.cons CSub.rfl (.cons CSub.rfl (.cons CSub.rfl (.cons CSub.rfl (.cons CSub.rfl (.cons CSub.rfl (.cons CSub.rfl (.cons CSub.rfl (.cons CSub.rfl (.cons CSub.rfl (.cons csub_nil (.cons CSub.rfl .nil))))))))))))))) .nil)) (k3 (r1 && r5, ([] : List THop)) h19)
 have h17 := cond_f b15 h14
 refine rg0 [1, 3] 1 ⟨42, [(1, .ref 0 0), (3, .bool false)], [.box (c_TRoute a0)]⟩ ?_
 refine inb_n ?_
 exact then_le (le_rfl) (k3 (false, a0.fHops) h17)
theorem route_validPathVector_ok (a0 : TRoute) (r : Bool) (h : M.route_validPathVector a0 = some r) : Fn Try.prog 38 [.agg (c_TRoute a0)] (.pure (.bool r)) := by
 unfold M.route_validPathVector at h
 refine fn_pure Try.func38 rfl (by kernel_rfl) ?_
 refine awp_seq (rg0 [1] 1 ⟨71, [(1, .ref 0 0)], [.box (c_TRoute a0)]⟩ ?_)
 refine then_n (awp_seq ?_)
 obtain ⟨r1, q1, h2⟩ := bind_some h
 obtain ⟨r2, q3, h4⟩ := bind_some h2
 refine rg [.pure (.bool r1), .pure (.bool r2)] [1, 3] 1 ⟨71, [(1, .ref 0 0), (3, .bool (r1 && r2))], [.box (c_TRoute a0)]⟩ [] [⟨true, 67, [.int .i64 a0.fMetric, .int .i64 0, .int .i64 16777215], .pure (.bool r1)⟩, ⟨r1, 67, [.int .i64 a0.fPref, .int .i64 0, .int .i64 1000000], .pure (.bool r2)⟩] nil_all ⟨fun _ => route_within_ok a0.fMetric 0 16777215 r1 q1, fun hg => route_within_ok a0.fPref 0 1000000 r2 (gc_some q3 hg), trivial⟩ ?_
 refine then_n (awp_seq (rg0 [1, 3] 1 ⟨71, [(1, .ref 0 0), (3, .bool (r1 && r2))], [.box [.int .u32 a0.fPrefix.fAddr, .int .i64 a0.fPrefix.fLen, .int .i64 a0.fProto, .int .i64 a0.fClass, .int .i64 a0.fAdmin, .int .i64 0, .int .i64 a0.fInner, .int .i64 a0.fTag, .int .i64 0, sL 1 (ci .i64) a0.fPath, .int .u32 a0.fFrom, .int .u32 a0.fNext, sL 2 c_THop a0.fHops, .bool a0.fDiscard]]⟩ ?_))
 refine then_n ?_
 refine awp_join (fun (p3 : Bool × (List Int) × Int × (List THop) × Bool) => ⟨71, [(1, .ref 0 0), (3, .bool p3.1)], [.box [.int .u32 a0.fPrefix.fAddr, .int .i64 a0.fPrefix.fLen, .int .i64 a0.fProto, .int .i64 a0.fClass, .int .i64 a0.fAdmin, .int .i64 0, .int .i64 a0.fInner, .int .i64 a0.fTag, .int .i64 0, sL 1 (ci .i64) p3.2.1, .int .u32 p3.2.2.1, .int .u32 a0.fNext, sL 2 c_THop p3.2.2.2.1, .bool p3.2.2.2.2]]⟩) (fun p3 => M.route_validPathVector_k1 a0 p3 = some r) ?_ ?_
 intro p3 h6
 unfold M.route_validPathVector_k1 at h6
 refine awp_seq ?_
 obtain ⟨r4, q7, h8⟩ := bind_some h6
 refine rg [.pure (.bool r4)] [2] 0 ⟨71, [(2, .bool (p3.1 && r4))], []⟩ [] [⟨p3.1, 34, [.agg [.int .u32 a0.fPrefix.fAddr, .int .i64 a0.fPrefix.fLen, .int .i64 a0.fProto, .int .i64 a0.fClass, .int .i64 a0.fAdmin, .int .i64 0, .int .i64 a0.fInner, .int .i64 a0.fTag, .int .i64 0, sL 1 (ci .i64) p3.2.1, .int .u32 p3.2.2.1, .int .u32 a0.fNext, sL 2 c_THop p3.2.2.2.1, .bool p3.2.2.2.2]], .pure (.bool r4)⟩] nil_all ⟨fun hg => route_bare_ok (⟨a0.fPrefix, a0.fProto, a0.fClass, a0.fAdmin, 0, a0.fInner, a0.fTag, 0, p3.2.1, p3.2.2.1, a0.fNext, p3.2.2.2.1, p3.2.2.2.2⟩ : TRoute) r4 (gc_some q7 hg), trivial⟩ ?_
 refine then_n (awp_ret ?_)
 obtain rfl := Option.some.inj h8
 exact er0 (.bool (p3.1 && r4))
 intro k5
 refine awp_seq (rg0 [1, 3, 15] 1 ⟨71, [(1, .ref 0 0), (3, .bool (r1 && r2)), (15, .int .i64 a0.fClass)], [.box [.int .u32 a0.fPrefix.fAddr, .int .i64 a0.fPrefix.fLen, .int .i64 a0.fProto, .int .i64 a0.fClass, .int .i64 a0.fAdmin, .int .i64 0, .int .i64 a0.fInner, .int .i64 a0.fTag, .int .i64 0, sL 1 (ci .i64) a0.fPath, .int .u32 a0.fFrom, .int .u32 a0.fNext, sL 2 c_THop a0.fHops, .bool a0.fDiscard]]⟩ ?_)
 refine then_n (awp_block (awp_seq (rg0 [1, 3, 15, 16] 1 ⟨71, [(1, .ref 0 0), (3, .bool (r1 && r2)), (15, .int .i64 a0.fClass), (16, .bool (a0.fClass == 1))], [.box [.int .u32 a0.fPrefix.fAddr, .int .i64 a0.fPrefix.fLen, .int .i64 a0.fProto, .int .i64 a0.fClass, .int .i64 a0.fAdmin, .int .i64 0, .int .i64 a0.fInner, .int .i64 a0.fTag, .int .i64 0, sL 1 (ci .i64) a0.fPath, .int .u32 a0.fFrom, .int .u32 a0.fNext, sL 2 c_THop a0.fHops, .bool a0.fDiscard]]⟩ ?_)))
 refine then_n ?_
 refine cnd (a0.fClass == 1) (fun b9 => ?_) (fun b9 => ?_)
 have h10 := cond_t b9 h4
 refine awp_skip (inb_n ?_)
 exact then_le (kp [1, 3]) (k5 (r1 && r2, a0.fPath, a0.fFrom, a0.fHops, a0.fDiscard) h10)
 have h11 := cond_f b9 h4
 refine awp_seq (rg0 [1, 3, 15, 18] 1 ⟨71, [(1, .ref 0 0), (3, .bool (r1 && r2)), (15, .int .i64 a0.fClass), (18, .bool (a0.fClass == 2))], [.box [.int .u32 a0.fPrefix.fAddr, .int .i64 a0.fPrefix.fLen, .int .i64 a0.fProto, .int .i64 a0.fClass, .int .i64 a0.fAdmin, .int .i64 0, .int .i64 a0.fInner, .int .i64 a0.fTag, .int .i64 0, sL 1 (ci .i64) a0.fPath, .int .u32 a0.fFrom, .int .u32 a0.fNext, sL 2 c_THop a0.fHops, .bool a0.fDiscard]]⟩ ?_)
 refine then_n ?_
 refine cnd (a0.fClass == 2) (fun b12 => ?_) (fun b12 => ?_)
 have h13 := cond_t b12 h11
 refine awp_seq (rg0 [1, 3] 1 ⟨71, [(1, .ref 0 0), (3, .bool ((r1 && r2) && a0.fDiscard))], [.box [.int .u32 a0.fPrefix.fAddr, .int .i64 a0.fPrefix.fLen, .int .i64 a0.fProto, .int .i64 a0.fClass, .int .i64 a0.fAdmin, .int .i64 0, .int .i64 a0.fInner, .int .i64 a0.fTag, .int .i64 0, sL 1 (ci .i64) a0.fPath, .int .u32 a0.fFrom, .int .u32 a0.fNext, sL 2 c_THop a0.fHops, .bool a0.fDiscard]]⟩ ?_)
 refine then_n (rg0 [1, 3] 1 ⟨71, [(1, .ref 0 0), (3, .bool ((r1 && r2) && a0.fDiscard))], [.box [.int .u32 a0.fPrefix.fAddr, .int .i64 a0.fPrefix.fLen, .int .i64 a0.fProto, .int .i64 a0.fClass, .int .i64 a0.fAdmin, .int .i64 0, .int .i64 a0.fInner, .int .i64 a0.fTag, .int .i64 0, sL 1 (ci .i64) a0.fPath, .int .u32 a0.fFrom, .int .u32 a0.fNext, sL 2 c_THop a0.fHops, .bool false]]⟩ ?_)
 refine inb_n ?_
 exact then_le (le_rfl) (k5 ((r1 && r2) && a0.fDiscard, a0.fPath, a0.fFrom, a0.fHops, false) h13)
 have h14 := cond_f b12 h11
 refine awp_join (fun (p5 : Bool) => ⟨71, [(1, .ref 0 0), (3, .bool (r1 && r2)), (26, .bool p5)], [.box [.int .u32 a0.fPrefix.fAddr, .int .i64 a0.fPrefix.fLen, .int .i64 a0.fProto, .int .i64 a0.fClass, .int .i64 a0.fAdmin, .int .i64 0, .int .i64 a0.fInner, .int .i64 a0.fTag, .int .i64 0, sL 1 (ci .i64) a0.fPath, .int .u32 a0.fFrom, .int .u32 a0.fNext, sL 2 c_THop a0.fHops, .bool a0.fDiscard]]⟩) (fun p5 => M.route_validPathVector_k2 a0 r1 r2 p5 = some r) ?_ ?_
 intro p5 h16
 unfold M.route_validPathVector_k2 at h16
 refine cnd p5 (fun b17 => ?_) (fun b17 => ?_)
 have h18 := cond_t b17 h16
 refine awp_seq ?_
 obtain ⟨c20, h21⟩ := gd_some h18
 refine rgc [1, 3] 1 ⟨71, [(1, .ref 0 0), (3, .bool ((((r1 && r2) && (a0.fFrom != 0)) && ((a0.fHops.length : Int) == 1)) && (((a0.fHops.getD (0 : Int).toNat default).fAddr) == a0.fFrom)))], [.box [.int .u32 a0.fPrefix.fAddr, .int .i64 a0.fPrefix.fLen, .int .i64 a0.fProto, .int .i64 a0.fClass, .int .i64 a0.fAdmin, .int .i64 0, .int .i64 a0.fInner, .int .i64 a0.fTag, .int .i64 0, sL 1 (ci .i64) a0.fPath, .int .u32 a0.fFrom, .int .u32 a0.fNext, sL 2 c_THop a0.fHops, .bool a0.fDiscard]]⟩ [guardB (((r1 && r2) && (a0.fFrom != 0)) && ((a0.fHops.length : Int) == 1)) (decide (0 ≤ 0)), guardB (((r1 && r2) && (a0.fFrom != 0)) && ((a0.fHops.length : Int) == 1)) (decide (0 < (a0.fHops.length : Int)))] c20 ?_
 refine then_n (awp_seq (rg0 [1, 3] 1 ⟨71, [(1, .ref 0 0), (3, .bool (((((r1 && r2) && (a0.fFrom != 0)) && ((a0.fHops.length : Int) == 1)) && (((a0.fHops.getD (0 : Int).toNat default).fAddr) == a0.fFrom)) && ((a0.fClass == 4) || (decide ((a0.fPath.length : Int) > 0)))))], [.box [.int .u32 a0.fPrefix.fAddr, .int .i64 a0.fPrefix.fLen, .int .i64 a0.fProto, .int .i64 a0.fClass, .int .i64 a0.fAdmin, .int .i64 0, .int .i64 a0.fInner, .int .i64 a0.fTag, .int .i64 0, sL 1 (ci .i64) a0.fPath, .int .u32 a0.fFrom, .int .u32 a0.fNext, sL 2 c_THop a0.fHops, .bool a0.fDiscard]]⟩ ?_))
 refine then_n (rg0 [1, 3] 1 ⟨71, [(1, .ref 0 0), (3, .bool (((((r1 && r2) && (a0.fFrom != 0)) && ((a0.fHops.length : Int) == 1)) && (((a0.fHops.getD (0 : Int).toNat default).fAddr) == a0.fFrom)) && ((a0.fClass == 4) || (decide ((a0.fPath.length : Int) > 0)))))], [.box [.int .u32 a0.fPrefix.fAddr, .int .i64 a0.fPrefix.fLen, .int .i64 a0.fProto, .int .i64 a0.fClass, .int .i64 a0.fAdmin, .int .i64 0, .int .i64 a0.fInner, .int .i64 a0.fTag, .int .i64 0, .sl true 1 0 (fun _ => []), .int .u32 0, .int .u32 a0.fNext, .sl true 2 0 (fun _ => []), .bool a0.fDiscard]]⟩ ?_)
 refine inb_n ?_
 exact then_le (le_sub (.cons Sub.rfl (.cons Sub.rfl .nil)) (.cons (.box (.cons CSub.rfl (.cons CSub.rfl (.cons CSub.rfl (.cons CSub.rfl (.cons CSub.rfl (.cons CSub.rfl (.cons CSub.rfl (.cons CSub.rfl (.cons CSub.rfl (.cons csub_nil (.cons CSub.rfl (.cons CSub.rfl (.cons csub_nil (.cons CSub.rfl .nil))))))))))))))) .nil)) (k5 (((((r1 && r2) && (a0.fFrom != 0)) && ((a0.fHops.length : Int) == 1)) && (((a0.fHops.getD (0 : Int).toNat default).fAddr) == a0.fFrom)) && ((a0.fClass == 4) || (decide ((a0.fPath.length : Int) > 0))), ([] : List Int), 0, ([] : List THop), a0.fDiscard) h21)
 have h19 := cond_f b17 h16
 refine rg0 [1, 3] 1 ⟨71, [(1, .ref 0 0), (3, .bool false)], [.box [.int .u32 a0.fPrefix.fAddr, .int .i64 a0.fPrefix.fLen, .int .i64 a0.fProto, .int .i64 a0.fClass, .int .i64 a0.fAdmin, .int .i64 0, .int .i64 a0.fInner, .int .i64 a0.fTag, .int .i64 0, sL 1 (ci .i64) a0.fPath, .int .u32 a0.fFrom, .int .u32 a0.fNext, sL 2 c_THop a0.fHops, .bool a0.fDiscard]]⟩ ?_
 refine inb_n ?_
 exact then_le (le_rfl) (k5 (false, a0.fPath, a0.fFrom, a0.fHops, a0.fDiscard) h19)
 intro k15
 refine awp_seq (rg0 [1, 3, 15, 26] 1 ⟨71, [(1, .ref 0 0), (3, .bool (r1 && r2)), (15, .int .i64 a0.fClass), (26, .bool (a0.fClass == 3))], [.box [.int .u32 a0.fPrefix.fAddr, .int .i64 a0.fPrefix.fLen, .int .i64 a0.fProto, .int .i64 a0.fClass, .int .i64 a0.fAdmin, .int .i64 0, .int .i64 a0.fInner, .int .i64 a0.fTag, .int .i64 0, sL 1 (ci .i64) a0.fPath, .int .u32 a0.fFrom, .int .u32 a0.fNext, sL 2 c_THop a0.fHops, .bool a0.fDiscard]]⟩ ?_)
 refine then_n ?_
 refine cnd (a0.fClass == 3) (fun b22 => ?_) (fun b22 => ?_)
 have h23 := cond_t b22 h14
 refine awp_skip ?_
 exact then_le (kp [1, 3, 26]) (k15 (a0.fClass == 3) h23)
 have h24 := cond_f b22 h14
 refine rg0 [1, 3, 26] 1 ⟨71, [(1, .ref 0 0), (3, .bool (r1 && r2)), (26, .bool (a0.fClass == 4))], [.box [.int .u32 a0.fPrefix.fAddr, .int .i64 a0.fPrefix.fLen, .int .i64 a0.fProto, .int .i64 a0.fClass, .int .i64 a0.fAdmin, .int .i64 0, .int .i64 a0.fInner, .int .i64 a0.fTag, .int .i64 0, sL 1 (ci .i64) a0.fPath, .int .u32 a0.fFrom, .int .u32 a0.fNext, sL 2 c_THop a0.fHops, .bool a0.fDiscard]]⟩ ?_
 exact then_le (le_rfl) (k15 (a0.fClass == 4) h24)
theorem route_Valid_ok (a0 : TRoute) (r : Bool) (h : M.route_Valid a0 = some r) : Fn Try.prog 13 [.agg (c_TRoute a0)] (.pure (.bool r)) := by
 unfold M.route_Valid at h
 refine fn_pure Try.func13 rfl (by kernel_rfl) ?_
 refine awp_seq (rg0 [1] 1 ⟨60, [(1, .ref 0 0)], [.box (c_TRoute a0)]⟩ ?_)
 refine then_n (awp_seq (awp_seq ?_))
 obtain ⟨r1, q1, h2⟩ := bind_some h
 refine rg [.pure (.bool r1)] [1, 6] 1 ⟨60, [(1, .ref 0 0), (6, .bool (!r1))], [.box (c_TRoute a0)]⟩ [] [⟨true, 32, [.agg (c_TRoute a0)], .pure (.bool r1)⟩] nil_all ⟨fun _ => route_common_ok a0 r1 q1, trivial⟩ ?_
 refine then_n ?_
 refine cnd (!r1) (fun b3 => ?_) (fun b3 => ?_)
 have h4 := cond_t b3 h2
 refine awp_seq (rg0 [2] 0 ⟨60, [(2, .bool false)], []⟩ ?_)
 refine then_n (awp_ret (then_r ?_))
 obtain rfl := Option.some.inj h4
 exact er0 (.bool false)
 have h5 := cond_f b3 h2
 refine awp_skip (then_n (awp_seq (awp_seq (rg0 [1, 9] 1 ⟨60, [(1, .ref 0 0), (9, .bool (a0.fProto == 1))], [.box (c_TRoute a0)]⟩ ?_))))
 refine then_n ?_
 refine cnd (a0.fProto == 1) (fun b6 => ?_) (fun b6 => ?_)
 have h7 := cond_t b6 h5
 refine awp_seq ?_
 obtain ⟨r2, q9, h10⟩ := bind_some h7
 refine rg [.pure (.bool r2)] [1, 3] 1 ⟨60, [(1, .ref 0 0), (3, .bool ((((a0.fClass == 0) && (a0.fAdmin == 0)) && (a0.fTag == 0)) && r2))], [.box (c_TRoute a0)]⟩ [] [⟨((a0.fClass == 0) && (a0.fAdmin == 0)) && (a0.fTag == 0), 33, [sL 2 c_THop a0.fHops], .pure (.bool r2)⟩] nil_all ⟨fun hg => route_direct_ok a0.fHops r2 (gc_some q9 hg), trivial⟩ ?_
 refine then_n (awp_seq (rg0 [1, 3] 1 ⟨60, [(1, .ref 0 0), (3, .bool ((((a0.fClass == 0) && (a0.fAdmin == 0)) && (a0.fTag == 0)) && r2))], [.box [.int .u32 a0.fPrefix.fAddr, .int .i64 a0.fPrefix.fLen, .int .i64 a0.fProto, .int .i64 a0.fClass, .int .i64 a0.fAdmin, .int .i64 a0.fMetric, .int .i64 a0.fInner, .int .i64 a0.fTag, .int .i64 a0.fPref, sL 1 (ci .i64) a0.fPath, .int .u32 a0.fFrom, .int .u32 a0.fNext, .sl true 2 0 (fun _ => []), .bool a0.fDiscard]]⟩ ?_))
 refine then_n (awp_seq ?_)
 obtain ⟨r3, q11, h12⟩ := bind_some h10
 refine rg [.pure (.bool r3)] [2] 0 ⟨60, [(2, .bool (((((a0.fClass == 0) && (a0.fAdmin == 0)) && (a0.fTag == 0)) && r2) && r3))], []⟩ [] [⟨(((a0.fClass == 0) && (a0.fAdmin == 0)) && (a0.fTag == 0)) && r2, 34, [.agg [.int .u32 a0.fPrefix.fAddr, .int .i64 a0.fPrefix.fLen, .int .i64 a0.fProto, .int .i64 a0.fClass, .int .i64 a0.fAdmin, .int .i64 a0.fMetric, .int .i64 a0.fInner, .int .i64 a0.fTag, .int .i64 a0.fPref, sL 1 (ci .i64) a0.fPath, .int .u32 a0.fFrom, .int .u32 a0.fNext, .sl false 2 0 (fun _ => []), .bool a0.fDiscard]], .pure (.bool r3)⟩] nil_all ⟨fun hg => (route_bare_ok (⟨a0.fPrefix, a0.fProto, a0.fClass, a0.fAdmin, a0.fMetric, a0.fInner, a0.fTag, a0.fPref, a0.fPath, a0.fFrom, a0.fNext, ([] : List THop), a0.fDiscard⟩ : TRoute) r3 (gc_some q11 hg)).args (.cons (asub_agg (.cons CSub.rfl (.cons CSub.rfl (.cons CSub.rfl (.cons CSub.rfl (.cons CSub.rfl (.cons CSub.rfl (.cons CSub.rfl (.cons CSub.rfl (.cons CSub.rfl (.cons CSub.rfl (.cons CSub.rfl (.cons CSub.rfl (.cons csub_nil (.cons CSub.rfl .nil))))))))))))))) .nil), trivial⟩ ?_
 refine then_n (awp_ret (then_r ?_))
 obtain rfl := Option.some.inj h12
 exact er0 (.bool (((((a0.fClass == 0) && (a0.fAdmin == 0)) && (a0.fTag == 0)) && r2) && r3))
 have h8 := cond_f b6 h5
 refine awp_skip (then_n (awp_seq (awp_seq (rg0 [1, 41] 1 ⟨60, [(1, .ref 0 0), (41, .bool ((decide (a0.fAdmin < 1)) || (decide (a0.fAdmin > 255))))], [.box (c_TRoute a0)]⟩ ?_))))
 refine then_n ?_
 refine cnd ((decide (a0.fAdmin < 1)) || (decide (a0.fAdmin > 255))) (fun b13 => ?_) (fun b13 => ?_)
 have h14 := cond_t b13 h8
 refine awp_seq (rg0 [2] 0 ⟨60, [(2, .bool false)], []⟩ ?_)
 refine then_n (awp_ret (then_r ?_))
 obtain rfl := Option.some.inj h14
 exact er0 (.bool false)
 have h15 := cond_f b13 h8
 refine awp_skip (then_n (awp_seq (awp_seq (rg0 [1, 43] 1 ⟨60, [(1, .ref 0 0), (43, .int .i64 a0.fProto)], [.box (c_TRoute a0)]⟩ ?_))))
 refine then_n (awp_block (awp_seq (rg0 [1, 43, 44] 1 ⟨60, [(1, .ref 0 0), (43, .int .i64 a0.fProto), (44, .bool (a0.fProto == 2))], [.box (c_TRoute a0)]⟩ ?_)))
 refine then_n ?_
 refine cnd (a0.fProto == 2) (fun b16 => ?_) (fun b16 => ?_)
 have h17 := cond_t b16 h15
 refine awp_seq ?_
 obtain ⟨r4, q19, h20⟩ := bind_some h17
 refine rg [.pure (.bool r4)] [2] 0 ⟨60, [(2, .bool r4)], []⟩ [] [⟨true, 35, [.agg (c_TRoute a0)], .pure (.bool r4)⟩] nil_all ⟨fun _ => route_validStatic_ok a0 r4 q19, trivial⟩ ?_
 refine then_n (awp_ret (inb_r (then_r ?_)))
 obtain rfl := Option.some.inj h20
 exact er0 (.bool r4)
 have h18 := cond_f b16 h15
 refine awp_seq (rg0 [1, 43, 48] 1 ⟨60, [(1, .ref 0 0), (43, .int .i64 a0.fProto), (48, .bool (a0.fProto == 3))], [.box (c_TRoute a0)]⟩ ?_)
 refine then_n ?_
 refine cnd (a0.fProto == 3) (fun b21 => ?_) (fun b21 => ?_)
 have h22 := cond_t b21 h18
 refine awp_seq ?_
 obtain ⟨r5, q24, h25⟩ := bind_some h22
 refine rg [.pure (.bool r5)] [2] 0 ⟨60, [(2, .bool r5)], []⟩ [] [⟨true, 36, [.agg (c_TRoute a0)], .pure (.bool r5)⟩] nil_all ⟨fun _ => route_validLinkState_ok a0 r5 q24, trivial⟩ ?_
 refine then_n (awp_ret (inb_r (then_r ?_)))
 obtain rfl := Option.some.inj h25
 exact er0 (.bool r5)
 have h23 := cond_f b21 h18
 refine awp_seq (rg0 [1, 43, 52] 1 ⟨60, [(1, .ref 0 0), (43, .int .i64 a0.fProto), (52, .bool (a0.fProto == 4))], [.box (c_TRoute a0)]⟩ ?_)
 refine then_n ?_
 refine cnd (a0.fProto == 4) (fun b26 => ?_) (fun b26 => ?_)
 have h27 := cond_t b26 h23
 refine awp_seq ?_
 obtain ⟨r6, q29, h30⟩ := bind_some h27
 refine rg [.pure (.bool r6)] [2] 0 ⟨60, [(2, .bool r6)], []⟩ [] [⟨true, 37, [.agg (c_TRoute a0)], .pure (.bool r6)⟩] nil_all ⟨fun _ => route_validDistance_ok a0 r6 q29, trivial⟩ ?_
 refine then_n (awp_ret (inb_r (then_r ?_)))
 obtain rfl := Option.some.inj h30
 exact er0 (.bool r6)
 have h28 := cond_f b26 h23
 refine awp_seq (rg0 [1, 56] 1 ⟨60, [(1, .ref 0 0), (56, .bool (a0.fProto == 5))], [.box (c_TRoute a0)]⟩ ?_)
 refine then_n ?_
 refine cnd (a0.fProto == 5) (fun b31 => ?_) (fun b31 => ?_)
 have h32 := cond_t b31 h28
 refine awp_seq ?_
 obtain ⟨r7, q34, h35⟩ := bind_some h32
 refine rg [.pure (.bool r7)] [2] 0 ⟨60, [(2, .bool r7)], []⟩ [] [⟨true, 38, [.agg (c_TRoute a0)], .pure (.bool r7)⟩] nil_all ⟨fun _ => route_validPathVector_ok a0 r7 q34, trivial⟩ ?_
 refine then_n (awp_ret (inb_r (then_r ?_)))
 obtain rfl := Option.some.inj h35
 exact er0 (.bool r7)
 have h33 := cond_f b31 h28
 refine awp_skip (inb_n (then_n (awp_seq (rg0 [2] 0 ⟨60, [(2, .bool false)], []⟩ ?_))))
 refine then_n (awp_ret ?_)
 obtain rfl := Option.some.inj h33
 exact er0 (.bool false)
theorem route_Table_ok (a0 : List TRoute) (a1 : Int) (r : Bool) (h : M.route_Table a0 a1 = some r) : Fn Try.prog 24 [sL 14 c_TRoute a0, .int .i64 a1] (.pure (.bool r)) := by
 unfold M.route_Table at h
 refine fn_pure Try.func24 rfl (by kernel_rfl) ?_
 refine awp_seq (rg0 [0, 1] 0 ⟨42, [(0, sL 14 c_TRoute a0), (1, .int .i64 a1)], []⟩ ?_)
 refine then_n (awp_seq (awp_seq (rg0 [0, 1, 7, 8, 9] 0 ⟨42, [(0, sL 14 c_TRoute a0), (1, .int .i64 a1), (7, sL 14 c_TRoute a0), (8, .int .i64 (a0.length : Int)), (9, .int .i64 0)], []⟩ ?_)))
 refine then_n (awp_block ?_)
 obtain ⟨y5, q19, h20⟩ := bind_some h
 refine awp_le (s' := ⟨42, [(0, sL 14 c_TRoute a0), (1, .int .i64 a1), (7, sL 14 c_TRoute a0), (8, .int .i64 (a0.length : Int)), (9, .int .i64 0)], []⟩) (le_rfl) ?_
 refine awp_mono (awp_loop (f := M.route_Table_l1 a0 a1) (S := fun (p1 : Int) => ⟨42, [(0, sL 14 c_TRoute a0), (1, .int .i64 a1), (7, sL 14 c_TRoute a0), (8, .int .i64 (a0.length : Int)), (9, .int .i64 p1)], []⟩) (O := (Sum.elim (fun z => OutE 0 (fun z => ⟨42, [], []⟩) z) (fun z => OutR Try.prog Try.f24 (.bool z)))) ?_ (x := 0) (y := y5) (loopM_iter q19)) ?_
 intro p1 y2 h1
 unfold M.route_Table_l1 at h1
 refine awp_seq (rg0 [0, 1, 7, 8, 9, 10] 0 ⟨42, [(0, sL 14 c_TRoute a0), (1, .int .i64 a1), (7, sL 14 c_TRoute a0), (8, .int .i64 (a0.length : Int)), (9, .int .i64 p1), (10, .bool (decide (p1 < (a0.length : Int))))], []⟩ ?_)
 refine then_n (awp_seq ?_)
 refine cnd (decide (p1 < (a0.length : Int))) (fun b2 => ?_) (fun b2 => ?_)
 have h3 := cond_t b2 h1
 refine awp_skip (then_n (awp_seq (awp_block (awp_seq ?_))))
 obtain ⟨c5, h6⟩ := gd_some h3
 refine rgc [0, 1, 5, 6, 7, 8, 9] 1 ⟨42, [(0, sL 14 c_TRoute a0), (1, .int .i64 a1), (5, .int .i64 p1), (6, .ref 0 0), (7, sL 14 c_TRoute a0), (8, .int .i64 (a0.length : Int)), (9, .int .i64 p1)], [.box (c_TRoute (a0.getD p1.toNat default))]⟩ [decide (0 ≤ p1), decide (p1 < (a0.length : Int))] c5 ?_
 refine then_n (awp_seq (awp_seq ?_))
 obtain ⟨r3, q7, h8⟩ := bind_some h6
 refine rg [.pure (.bool r3)] [0, 1, 5, 6, 7, 8, 9, 26] 1 ⟨42, [(0, sL 14 c_TRoute a0), (1, .int .i64 a1), (5, .int .i64 p1), (6, .ref 0 0), (7, sL 14 c_TRoute a0), (8, .int .i64 (a0.length : Int)), (9, .int .i64 p1), (26, .bool ((!r3) || ((a1 != 0) && (((a0.getD p1.toNat default).fProto) != a1))))], [.box (c_TRoute (a0.getD p1.toNat default))]⟩ [] [⟨true, 13, [.agg (c_TRoute (a0.getD p1.toNat default))], .pure (.bool r3)⟩] nil_all ⟨fun _ => route_Valid_ok (a0.getD p1.toNat default) r3 q7, trivial⟩ ?_
 refine then_n ?_
 refine cnd ((!r3) || ((a1 != 0) && (((a0.getD p1.toNat default).fProto) != a1))) (fun b9 => ?_) (fun b9 => ?_)
 have h10 := cond_t b9 h8
 refine awp_seq (rg0 [4] 0 ⟨42, [(4, .bool false)], []⟩ ?_)
 refine then_n (awp_ret (then_r (inb_r (then_r ?_))))
 obtain rfl := Option.some.inj h10
 exact round_r ⟨rfl, er0 (.bool false)⟩
 have h11 := cond_f b9 h8
 refine awp_skip (then_n (awp_seq ?_))
 obtain ⟨r4, q12, h13⟩ := bind_some h11
 obtain ⟨c14, h15⟩ := gd_some h13
 refine rg [.pure (.int .i64 r4)] [0, 1, 7, 8, 9, 40] 0 ⟨42, [(0, sL 14 c_TRoute a0), (1, .int .i64 a1), (7, sL 14 c_TRoute a0), (8, .int .i64 (a0.length : Int)), (9, .int .i64 p1), (40, .bool ((decide (p1 > 0)) && (decide (r4 ≥ 0))))], []⟩ [guardB (decide (p1 > 0)) (decide (0 ≤ (wr .i64 (p1 - 1)))), guardB (decide (p1 > 0)) (decide ((wr .i64 (p1 - 1)) < (a0.length : Int)))] [⟨decide (p1 > 0), 55, [.agg (c_TPrefix ((a0.getD (wr .i64 (p1 - 1)).toNat default).fPrefix)), .agg (c_TPrefix ((a0.getD p1.toNat default).fPrefix))], .pure (.int .i64 r4)⟩] c14 ⟨fun hg => addr_Compare_ok ((a0.getD (wr .i64 (p1 - 1)).toNat default).fPrefix) ((a0.getD p1.toNat default).fPrefix) r4 (gc_some q12 hg), trivial⟩ ?_
 refine then_n ?_
 refine cnd ((decide (p1 > 0)) && (decide (r4 ≥ 0))) (fun b16 => ?_) (fun b16 => ?_)
 have h17 := cond_t b16 h15
 refine awp_seq (rg0 [4] 0 ⟨42, [(4, .bool false)], []⟩ ?_)
 refine then_n (awp_ret (inb_r (then_r ?_)))
 obtain rfl := Option.some.inj h17
 exact round_r ⟨rfl, er0 (.bool false)⟩
 have h18 := cond_f b16 h15
 refine awp_skip (inb_n (then_n (rg0 [0, 1, 7, 8, 9] 0 ⟨42, [(0, sL 14 c_TRoute a0), (1, .int .i64 a1), (7, sL 14 c_TRoute a0), (8, .int .i64 (a0.length : Int)), (9, .int .i64 (wr .i64 (p1 + 1)))], []⟩ ?_)))
 obtain rfl := Option.some.inj h18
 exact round_n (le_rfl)
 have h4 := cond_f b2 h1
 refine awp_exit (then_e ?_)
 obtain rfl := Option.some.inj h4
 exact round_e ⟨rfl, kp []⟩
 intro e21 s22 o23
 rcases y5 with g6 | y7
 have h24 := elim_l h20
 obtain ⟨rfl, l26⟩ := o23
 refine inb_here ?_
 refine then_le (s' := ⟨42, [], []⟩) (l26) ?_
 refine awp_seq (rg0 [4] 0 ⟨42, [(4, .bool true)], []⟩ ?_)
 refine then_n (awp_ret ?_)
 obtain rfl := Option.some.inj h24
 exact er0 (.bool true)
 have h25 := elim_r h20
 obtain ⟨rfl, n27⟩ := o23
 refine inb_r (then_r ?_)
 obtain rfl := Option.some.inj h25
 exact n27
theorem slices_Equal_int_int_ok (a0 : List Int) (a1 : List Int) (r : Bool) (h : M.slices_Equal_int_int a0 a1 = some r) : Fn Try.prog 60 [sL 1 (ci .i64) a0, sL 1 (ci .i64) a1] (.pure (.bool r)) := by
 unfold M.slices_Equal_int_int at h
 refine fn_pure Try.func60 rfl (by kernel_rfl) ?_
 refine awp_seq (rg0 [0, 1] 0 ⟨26, [(0, sL 1 (ci .i64) a0), (1, sL 1 (ci .i64) a1)], []⟩ ?_)
 refine then_n (awp_seq (awp_seq (rg0 [0, 1, 10] 0 ⟨26, [(0, sL 1 (ci .i64) a0), (1, sL 1 (ci .i64) a1), (10, .bool ((a0.length : Int) != (a1.length : Int)))], []⟩ ?_)))
 refine then_n ?_
 refine cnd ((a0.length : Int) != (a1.length : Int)) (fun b1 => ?_) (fun b1 => ?_)
 have h2 := cond_t b1 h
 refine awp_seq (rg0 [4] 0 ⟨26, [(4, .bool false)], []⟩ ?_)
 refine then_n (awp_ret (then_r ?_))
 obtain rfl := Option.some.inj h2
 exact er0 (.bool false)
 have h3 := cond_f b1 h
 refine awp_skip (then_n (awp_seq (awp_seq (rg0 [0, 1, 12, 13] 0 ⟨26, [(0, sL 1 (ci .i64) a0), (1, sL 1 (ci .i64) a1), (12, .int .i64 (a0.length : Int)), (13, .int .i64 0)], []⟩ ?_))))
 refine then_n (awp_block ?_)
 obtain ⟨y3, q13, h14⟩ := bind_some h3
 refine awp_le (s' := ⟨26, [(0, sL 1 (ci .i64) a0), (1, sL 1 (ci .i64) a1), (12, .int .i64 (a0.length : Int)), (13, .int .i64 0)], []⟩) (le_rfl) ?_
 refine awp_mono (awp_loop (f := M.slices_Equal_int_int_l1 a0 a1) (S := fun (p1 : Int) => ⟨26, [(0, sL 1 (ci .i64) a0), (1, sL 1 (ci .i64) a1), (12, .int .i64 (a0.length : Int)), (13, .int .i64 p1)], []⟩) (O := (Sum.elim (fun z => OutE 0 (fun z => ⟨26, [], []⟩) z) (fun z => OutR Try.prog Try.f60 (.bool z)))) ?_ (x := 0) (y := y3) (loopM_iter q13)) ?_
 intro p1 y2 h4
 unfold M.slices_Equal_int_int_l1 at h4
 refine awp_seq (rg0 [0, 1, 12, 13, 14] 0 ⟨26, [(0, sL 1 (ci .i64) a0), (1, sL 1 (ci .i64) a1), (12, .int .i64 (a0.length : Int)), (13, .int .i64 p1), (14, .bool (decide (p1 < (a0.length : Int))))], []⟩ ?_)
 refine then_n (awp_seq ?_)
 refine cnd (decide (p1 < (a0.length : Int))) (fun b5 => ?_) (fun b5 => ?_)
 have h6 := cond_t b5 h4
 refine awp_skip (then_n (awp_seq (awp_block (awp_seq (rg0 [0, 1, 5, 12, 13] 0 ⟨26, [(0, sL 1 (ci .i64) a0), (1, sL 1 (ci .i64) a1), (5, .int .i64 p1), (12, .int .i64 (a0.length : Int)), (13, .int .i64 p1)], []⟩ ?_)))))
 refine then_n (awp_seq ?_)
 obtain ⟨c8, h9⟩ := gd_some h6
 refine rgc [0, 1, 12, 13, 24] 0 ⟨26, [(0, sL 1 (ci .i64) a0), (1, sL 1 (ci .i64) a1), (12, .int .i64 (a0.length : Int)), (13, .int .i64 p1), (24, .bool ((a0.getD p1.toNat default) != (a1.getD p1.toNat default)))], []⟩ [decide (0 ≤ p1), decide (p1 < (a0.length : Int)), decide (0 ≤ p1), decide (p1 < (a1.length : Int))] c8 ?_
 refine then_n ?_
 refine cnd ((a0.getD p1.toNat default) != (a1.getD p1.toNat default)) (fun b10 => ?_) (fun b10 => ?_)
 have h11 := cond_t b10 h9
 refine awp_seq (rg0 [4] 0 ⟨26, [(4, .bool false)], []⟩ ?_)
 refine then_n (awp_ret (inb_r (then_r ?_)))
 obtain rfl := Option.some.inj h11
 exact round_r ⟨rfl, er0 (.bool false)⟩
 have h12 := cond_f b10 h9
 refine awp_skip (inb_n (then_n (rg0 [0, 1, 12, 13] 0 ⟨26, [(0, sL 1 (ci .i64) a0), (1, sL 1 (ci .i64) a1), (12, .int .i64 (a0.length : Int)), (13, .int .i64 (wr .i64 (p1 + 1)))], []⟩ ?_)))
 obtain rfl := Option.some.inj h12
 exact round_n (le_rfl)
 have h7 := cond_f b5 h4
 refine awp_exit (then_e ?_)
 obtain rfl := Option.some.inj h7
 exact round_e ⟨rfl, kp []⟩
 intro e15 s16 o17
 rcases y3 with g4 | y5
 have h18 := elim_l h14
 obtain ⟨rfl, l20⟩ := o17
 refine inb_here ?_
 refine then_le (s' := ⟨26, [], []⟩) (l20) ?_
 refine awp_seq (rg0 [4] 0 ⟨26, [(4, .bool true)], []⟩ ?_)
 refine then_n (awp_ret ?_)
 obtain rfl := Option.some.inj h18
 exact er0 (.bool true)
 have h19 := elim_r h14
 obtain ⟨rfl, n21⟩ := o17
 refine inb_r (then_r ?_)
 obtain rfl := Option.some.inj h19
 exact n21
theorem slices_Equal_api_Hop_api_Hop_ok (a0 : List THop) (a1 : List THop) (r : Bool) (h : M.slices_Equal_api_Hop_api_Hop a0 a1 = some r) : Fn Try.prog 61 [sL 2 c_THop a0, sL 2 c_THop a1] (.pure (.bool r)) := by
 unfold M.slices_Equal_api_Hop_api_Hop at h
 refine fn_pure Try.func61 rfl (by kernel_rfl) ?_
 refine awp_seq (rg0 [0, 1] 0 ⟨26, [(0, sL 2 c_THop a0), (1, sL 2 c_THop a1)], []⟩ ?_)
 refine then_n (awp_seq (awp_seq (rg0 [0, 1, 10] 0 ⟨26, [(0, sL 2 c_THop a0), (1, sL 2 c_THop a1), (10, .bool ((a0.length : Int) != (a1.length : Int)))], []⟩ ?_)))
 refine then_n ?_
 refine cnd ((a0.length : Int) != (a1.length : Int)) (fun b1 => ?_) (fun b1 => ?_)
 have h2 := cond_t b1 h
 refine awp_seq (rg0 [4] 0 ⟨26, [(4, .bool false)], []⟩ ?_)
 refine then_n (awp_ret (then_r ?_))
 obtain rfl := Option.some.inj h2
 exact er0 (.bool false)
 have h3 := cond_f b1 h
 refine awp_skip (then_n (awp_seq (awp_seq (rg0 [0, 1, 12, 13] 0 ⟨26, [(0, sL 2 c_THop a0), (1, sL 2 c_THop a1), (12, .int .i64 (a0.length : Int)), (13, .int .i64 0)], []⟩ ?_))))
 refine then_n (awp_block ?_)
 obtain ⟨y3, q13, h14⟩ := bind_some h3
 refine awp_le (s' := ⟨26, [(0, sL 2 c_THop a0), (1, sL 2 c_THop a1), (12, .int .i64 (a0.length : Int)), (13, .int .i64 0)], []⟩) (le_rfl) ?_
 refine awp_mono (awp_loop (f := M.slices_Equal_api_Hop_api_Hop_l1 a0 a1) (S := fun (p1 : Int) => ⟨26, [(0, sL 2 c_THop a0), (1, sL 2 c_THop a1), (12, .int .i64 (a0.length : Int)), (13, .int .i64 p1)], []⟩) (O := (Sum.elim (fun z => OutE 0 (fun z => ⟨26, [], []⟩) z) (fun z => OutR Try.prog Try.f61 (.bool z)))) ?_ (x := 0) (y := y3) (loopM_iter q13)) ?_
 intro p1 y2 h4
 unfold M.slices_Equal_api_Hop_api_Hop_l1 at h4
 refine awp_seq (rg0 [0, 1, 12, 13, 14] 0 ⟨26, [(0, sL 2 c_THop a0), (1, sL 2 c_THop a1), (12, .int .i64 (a0.length : Int)), (13, .int .i64 p1), (14, .bool (decide (p1 < (a0.length : Int))))], []⟩ ?_)
 refine then_n (awp_seq ?_)
 refine cnd (decide (p1 < (a0.length : Int))) (fun b5 => ?_) (fun b5 => ?_)
 have h6 := cond_t b5 h4
 refine awp_skip (then_n (awp_seq (awp_block (awp_seq (rg0 [0, 1, 5, 12, 13] 0 ⟨26, [(0, sL 2 c_THop a0), (1, sL 2 c_THop a1), (5, .int .i64 p1), (12, .int .i64 (a0.length : Int)), (13, .int .i64 p1)], []⟩ ?_)))))
 refine then_n (awp_seq ?_)
 obtain ⟨c8, h9⟩ := gd_some h6
 refine rgc [0, 1, 12, 13, 24] 0 ⟨26, [(0, sL 2 c_THop a0), (1, sL 2 c_THop a1), (12, .int .i64 (a0.length : Int)), (13, .int .i64 p1), (24, .bool (!((((a0.getD p1.toNat default).fIface) == ((a1.getD p1.toNat default).fIface)) && ((((a0.getD p1.toNat default).fAddr) == ((a1.getD p1.toNat default).fAddr)) && true))))], []⟩ [decide (0 ≤ p1), decide (p1 < (a0.length : Int)), decide (0 ≤ p1), decide (p1 < (a1.length : Int))] c8 ?_
 refine then_n ?_
 refine cnd (!((((a0.getD p1.toNat default).fIface) == ((a1.getD p1.toNat default).fIface)) && ((((a0.getD p1.toNat default).fAddr) == ((a1.getD p1.toNat default).fAddr)) && true))) (fun b10 => ?_) (fun b10 => ?_)
 have h11 := cond_t b10 h9
 refine awp_seq (rg0 [4] 0 ⟨26, [(4, .bool false)], []⟩ ?_)
 refine then_n (awp_ret (inb_r (then_r ?_)))
 obtain rfl := Option.some.inj h11
 exact round_r ⟨rfl, er0 (.bool false)⟩
 have h12 := cond_f b10 h9
 refine awp_skip (inb_n (then_n (rg0 [0, 1, 12, 13] 0 ⟨26, [(0, sL 2 c_THop a0), (1, sL 2 c_THop a1), (12, .int .i64 (a0.length : Int)), (13, .int .i64 (wr .i64 (p1 + 1)))], []⟩ ?_)))
 obtain rfl := Option.some.inj h12
 exact round_n (le_rfl)
 have h7 := cond_f b5 h4
 refine awp_exit (then_e ?_)
 obtain rfl := Option.some.inj h7
 exact round_e ⟨rfl, kp []⟩
 intro e15 s16 o17
 rcases y3 with g4 | y5
 have h18 := elim_l h14
 obtain ⟨rfl, l20⟩ := o17
 refine inb_here ?_
 refine then_le (s' := ⟨26, [], []⟩) (l20) ?_
 refine awp_seq (rg0 [4] 0 ⟨26, [(4, .bool true)], []⟩ ?_)
 refine then_n (awp_ret ?_)
 obtain rfl := Option.some.inj h18
 exact er0 (.bool true)
 have h19 := elim_r h14
 obtain ⟨rfl, n21⟩ := o17
 refine inb_r (then_r ?_)
 obtain rfl := Option.some.inj h19
 exact n21
theorem route_Same_ok (a0 : TRoute) (a1 : TRoute) (r : Bool) (h : M.route_Same a0 a1 = some r) : Fn Try.prog 28 [.agg (c_TRoute a0), .agg (c_TRoute a1)] (.pure (.bool r)) := by
 unfold M.route_Same at h
 refine fn_pure Try.func28 rfl (by kernel_rfl) ?_
 refine awp_seq (rg0 [2, 3] 2 ⟨94, [(2, .ref 0 0), (3, .ref 1 0)], [.box (c_TRoute a0), .box (c_TRoute a1)]⟩ ?_)
 refine then_n (awp_seq ?_)
 obtain ⟨r1, q1, h2⟩ := bind_some h
 obtain ⟨r2, q3, h4⟩ := bind_some h2
 refine rg [.pure (.bool r1), .pure (.bool r2)] [4] 0 ⟨94, [(4, .bool ((((((((((((((a0.fPrefix.fAddr == a1.fPrefix.fAddr) && ((a0.fPrefix.fLen == a1.fPrefix.fLen) && true)) && (a0.fProto == a1.fProto)) && (a0.fClass == a1.fClass)) && (a0.fAdmin == a1.fAdmin)) && (a0.fMetric == a1.fMetric)) && (a0.fInner == a1.fInner)) && (a0.fTag == a1.fTag)) && (a0.fPref == a1.fPref)) && r1) && (a0.fFrom == a1.fFrom)) && (a0.fNext == a1.fNext)) && r2) && (a0.fDiscard == a1.fDiscard)))], []⟩ [] [⟨((((((((a0.fPrefix.fAddr == a1.fPrefix.fAddr) && ((a0.fPrefix.fLen == a1.fPrefix.fLen) && true)) && (a0.fProto == a1.fProto)) && (a0.fClass == a1.fClass)) && (a0.fAdmin == a1.fAdmin)) && (a0.fMetric == a1.fMetric)) && (a0.fInner == a1.fInner)) && (a0.fTag == a1.fTag)) && (a0.fPref == a1.fPref), 60, [sL 1 (ci .i64) a0.fPath, sL 1 (ci .i64) a1.fPath], .pure (.bool r1)⟩, ⟨(((((((((((a0.fPrefix.fAddr == a1.fPrefix.fAddr) && ((a0.fPrefix.fLen == a1.fPrefix.fLen) && true)) && (a0.fProto == a1.fProto)) && (a0.fClass == a1.fClass)) && (a0.fAdmin == a1.fAdmin)) && (a0.fMetric == a1.fMetric)) && (a0.fInner == a1.fInner)) && (a0.fTag == a1.fTag)) && (a0.fPref == a1.fPref)) && r1) && (a0.fFrom == a1.fFrom)) && (a0.fNext == a1.fNext), 61, [sL 2 c_THop a0.fHops, sL 2 c_THop a1.fHops], .pure (.bool r2)⟩] nil_all ⟨fun hg => slices_Equal_int_int_ok a0.fPath a1.fPath r1 (gc_some q1 hg), fun hg => slices_Equal_api_Hop_api_Hop_ok a0.fHops a1.fHops r2 (gc_some q3 hg), trivial⟩ ?_
 refine then_n (awp_ret ?_)
 obtain rfl := Option.some.inj h4
 exact er0 (.bool ((((((((((((((a0.fPrefix.fAddr == a1.fPrefix.fAddr) && ((a0.fPrefix.fLen == a1.fPrefix.fLen) && true)) && (a0.fProto == a1.fProto)) && (a0.fClass == a1.fClass)) && (a0.fAdmin == a1.fAdmin)) && (a0.fMetric == a1.fMetric)) && (a0.fInner == a1.fInner)) && (a0.fTag == a1.fTag)) && (a0.fPref == a1.fPref)) && r1) && (a0.fFrom == a1.fFrom)) && (a0.fNext == a1.fNext)) && r2) && (a0.fDiscard == a1.fDiscard)))
theorem slices_EqualFunc_api_Route_api_Route_api_Route_api_Route__route_Same_ok (a0 : List TRoute) (a1 : List TRoute) (r : Bool) (h : M.slices_EqualFunc_api_Route_api_Route_api_Route_api_Route__route_Same a0 a1 = some r) : Fn Try.prog 62 [sL 14 c_TRoute a0, sL 14 c_TRoute a1, .fn 28 []] (.pure (.bool r)) := by
 unfold M.slices_EqualFunc_api_Route_api_Route_api_Route_api_Route__route_Same at h
 refine fn_pure Try.func62 rfl (by kernel_rfl) ?_
 refine awp_seq (rg0 [0, 1, 2] 0 ⟨32, [(0, sL 14 c_TRoute a0), (1, sL 14 c_TRoute a1), (2, .fn 28 [])], []⟩ ?_)
 refine then_n (awp_seq (awp_seq (rg0 [0, 1, 2, 14] 0 ⟨32, [(0, sL 14 c_TRoute a0), (1, sL 14 c_TRoute a1), (2, .fn 28 []), (14, .bool ((a0.length : Int) != (a1.length : Int)))], []⟩ ?_)))
 refine then_n ?_
 refine cnd ((a0.length : Int) != (a1.length : Int)) (fun b1 => ?_) (fun b1 => ?_)
 have h2 := cond_t b1 h
 refine awp_seq (rg0 [6] 0 ⟨32, [(6, .bool false)], []⟩ ?_)
 refine then_n (awp_ret (then_r ?_))
 obtain rfl := Option.some.inj h2
 exact er0 (.bool false)
 have h3 := cond_f b1 h
 refine awp_skip (then_n (awp_seq (awp_seq (rg0 [1, 2, 15, 16, 17] 0 ⟨32, [(1, sL 14 c_TRoute a1), (2, .fn 28 []), (15, sL 14 c_TRoute a0), (16, .int .i64 (a0.length : Int)), (17, .int .i64 0)], []⟩ ?_))))
 refine then_n (awp_block ?_)
 obtain ⟨y4, q17, h18⟩ := bind_some h3
 refine awp_le (s' := ⟨32, [(1, sL 14 c_TRoute a1), (2, .fn 28 []), (15, sL 14 c_TRoute a0), (16, .int .i64 (a0.length : Int)), (17, .int .i64 0)], []⟩) (le_rfl) ?_
 refine awp_mono (awp_loop (f := M.slices_EqualFunc_api_Route_api_Route_api_Route_api_Route__route_Same_l1 a0 a1) (S := fun (p1 : Int) => ⟨32, [(1, sL 14 c_TRoute a1), (2, .fn 28 []), (15, sL 14 c_TRoute a0), (16, .int .i64 (a0.length : Int)), (17, .int .i64 p1)], []⟩) (O := (Sum.elim (fun z => OutE 0 (fun z => ⟨32, [], []⟩) z) (fun z => OutR Try.prog Try.f62 (.bool z)))) ?_ (x := 0) (y := y4) (loopM_iter q17)) ?_
 intro p1 y2 h4
 unfold M.slices_EqualFunc_api_Route_api_Route_api_Route_api_Route__route_Same_l1 at h4
 refine awp_seq (rg0 [1, 2, 15, 16, 17, 18] 0 ⟨32, [(1, sL 14 c_TRoute a1), (2, .fn 28 []), (15, sL 14 c_TRoute a0), (16, .int .i64 (a0.length : Int)), (17, .int .i64 p1), (18, .bool (decide (p1 < (a0.length : Int))))], []⟩ ?_)
 refine then_n (awp_seq ?_)
 refine cnd (decide (p1 < (a0.length : Int))) (fun b5 => ?_) (fun b5 => ?_)
 have h6 := cond_t b5 h4
 refine awp_skip (then_n (awp_seq (awp_block (awp_seq ?_))))
 obtain ⟨c8, h9⟩ := gd_some h6
 refine rgc [1, 2, 7, 8, 15, 16, 17] 1 ⟨32, [(1, sL 14 c_TRoute a1), (2, .fn 28 []), (7, .int .i64 p1), (8, .ref 0 0), (15, sL 14 c_TRoute a0), (16, .int .i64 (a0.length : Int)), (17, .int .i64 p1)], [.box (c_TRoute (a0.getD p1.toNat default))]⟩ [decide (0 ≤ p1), decide (p1 < (a0.length : Int))] c8 ?_
 refine then_n (awp_seq ?_)
 obtain ⟨c10, h11⟩ := gd_some h9
 refine rgc [1, 2, 8, 9, 15, 16, 17] 2 ⟨32, [(1, sL 14 c_TRoute a1), (2, .fn 28 []), (8, .ref 0 0), (9, .ref 1 0), (15, sL 14 c_TRoute a0), (16, .int .i64 (a0.length : Int)), (17, .int .i64 p1)], [.box (c_TRoute (a0.getD p1.toNat default)), .box (c_TRoute (a1.getD p1.toNat default))]⟩ [decide (0 ≤ p1), decide (p1 < (a1.length : Int))] c10 ?_
 refine then_n (awp_seq ?_)
 obtain ⟨r3, q12, h13⟩ := bind_some h11
 refine rg [.pure (.bool r3)] [1, 2, 15, 16, 17, 30] 0 ⟨32, [(1, sL 14 c_TRoute a1), (2, .fn 28 []), (15, sL 14 c_TRoute a0), (16, .int .i64 (a0.length : Int)), (17, .int .i64 p1), (30, .bool (!r3))], []⟩ [] [⟨true, 28, [.agg (c_TRoute (a0.getD p1.toNat default)), .agg (c_TRoute (a1.getD p1.toNat default))], .pure (.bool r3)⟩] nil_all ⟨fun _ => route_Same_ok (a0.getD p1.toNat default) (a1.getD p1.toNat default) r3 q12, trivial⟩ ?_
 refine then_n ?_
 refine cnd (!r3) (fun b14 => ?_) (fun b14 => ?_)
 have h15 := cond_t b14 h13
 refine awp_seq (rg0 [6] 0 ⟨32, [(6, .bool false)], []⟩ ?_)
 refine then_n (awp_ret (inb_r (then_r ?_)))
 obtain rfl := Option.some.inj h15
 exact round_r ⟨rfl, er0 (.bool false)⟩
 have h16 := cond_f b14 h13
 refine awp_skip (inb_n (then_n (rg0 [1, 2, 15, 16, 17] 0 ⟨32, [(1, sL 14 c_TRoute a1), (2, .fn 28 []), (15, sL 14 c_TRoute a0), (16, .int .i64 (a0.length : Int)), (17, .int .i64 (wr .i64 (p1 + 1)))], []⟩ ?_)))
 obtain rfl := Option.some.inj h16
 exact round_n (le_rfl)
 have h7 := cond_f b5 h4
 refine awp_exit (then_e ?_)
 obtain rfl := Option.some.inj h7
 exact round_e ⟨rfl, kp []⟩
 intro e19 s20 o21
 rcases y4 with g5 | y6
 have h22 := elim_l h18
 obtain ⟨rfl, l24⟩ := o21
 refine inb_here ?_
 refine then_le (s' := ⟨32, [], []⟩) (l24) ?_
 refine awp_seq (rg0 [6] 0 ⟨32, [(6, .bool true)], []⟩ ?_)
 refine then_n (awp_ret ?_)
 obtain rfl := Option.some.inj h22
 exact er0 (.bool true)
 have h23 := elim_r h18
 obtain ⟨rfl, n25⟩ := o21
 refine inb_r (then_r ?_)
 obtain rfl := Option.some.inj h23
 exact n25
theorem route_SameAll_ok (a0 : List TRoute) (a1 : List TRoute) (r : Bool) (h : M.route_SameAll a0 a1 = some r) : Fn Try.prog 29 [sL 14 c_TRoute a0, sL 14 c_TRoute a1] (.pure (.bool r)) := by
 unfold M.route_SameAll at h
 refine fn_pure Try.func29 rfl (by kernel_rfl) ?_
 refine awp_seq (rg0 [0, 1] 0 ⟨8, [(0, sL 14 c_TRoute a0), (1, sL 14 c_TRoute a1)], []⟩ ?_)
 refine then_n (awp_seq ?_)
 obtain ⟨r1, q1, h2⟩ := bind_some h
 refine rg [.pure (.bool r1)] [4] 0 ⟨8, [(4, .bool r1)], []⟩ [] [⟨true, 62, [sL 14 c_TRoute a0, sL 14 c_TRoute a1, .fn 28 []], .pure (.bool r1)⟩] nil_all ⟨fun _ => slices_EqualFunc_api_Route_api_Route_api_Route_api_Route__route_Same_ok a0 a1 r1 q1, trivial⟩ ?_
 refine then_n (awp_ret ?_)
 obtain rfl := Option.some.inj h2
 exact er0 (.bool r1)
theorem ref15_Same_ok (a0 : TRoute) (a1 : TRoute) (r : Bool) (h : M.ref15_Same a0 a1 = some r) : Fn Try.prog 27 [.agg (c_TRoute a0), .agg (c_TRoute a1)] (.pure (.bool r)) := by
 unfold M.ref15_Same at h
 refine fn_pure Try.func27 rfl (by kernel_rfl) ?_
 refine awp_seq (rg0 [2, 3] 2 ⟨136, [(2, .ref 0 0), (3, .ref 1 0)], [.box (c_TRoute a0), .box (c_TRoute a1)]⟩ ?_)
 refine then_n (awp_seq (awp_seq (rg0 [2, 3, 99] 2 ⟨136, [(2, .ref 0 0), (3, .ref 1 0), (99, .bool (((((((((((((!((a0.fPrefix.fAddr == a1.fPrefix.fAddr) && ((a0.fPrefix.fLen == a1.fPrefix.fLen) && true))) || (a0.fProto != a1.fProto)) || (a0.fClass != a1.fClass)) || (a0.fAdmin != a1.fAdmin)) || (a0.fMetric != a1.fMetric)) || (a0.fInner != a1.fInner)) || (a0.fTag != a1.fTag)) || (a0.fPref != a1.fPref)) || (a0.fFrom != a1.fFrom)) || (a0.fNext != a1.fNext)) || (!(a0.fDiscard == a1.fDiscard))) || ((a0.fPath.length : Int) != (a1.fPath.length : Int))) || ((a0.fHops.length : Int) != (a1.fHops.length : Int))))], [.box (c_TRoute a0), .box (c_TRoute a1)]⟩ ?_)))
 refine then_n ?_
 refine cnd (((((((((((((!((a0.fPrefix.fAddr == a1.fPrefix.fAddr) && ((a0.fPrefix.fLen == a1.fPrefix.fLen) && true))) || (a0.fProto != a1.fProto)) || (a0.fClass != a1.fClass)) || (a0.fAdmin != a1.fAdmin)) || (a0.fMetric != a1.fMetric)) || (a0.fInner != a1.fInner)) || (a0.fTag != a1.fTag)) || (a0.fPref != a1.fPref)) || (a0.fFrom != a1.fFrom)) || (a0.fNext != a1.fNext)) || (!(a0.fDiscard == a1.fDiscard))) || ((a0.fPath.length : Int) != (a1.fPath.length : Int))) || ((a0.fHops.length : Int) != (a1.fHops.length : Int))) (fun b1 => ?_) (fun b1 => ?_)
 have h2 := cond_t b1 h
 refine awp_seq (rg0 [4] 0 ⟨136, [(4, .bool false)], []⟩ ?_)
 refine then_n (awp_ret (then_r ?_))
 obtain rfl := Option.some.inj h2
 exact er0 (.bool false)
 have h3 := cond_f b1 h
 refine awp_skip (then_n (awp_seq (awp_seq (rg0 [2, 3, 5] 2 ⟨136, [(2, .ref 0 0), (3, .ref 1 0), (5, .int .i64 0)], [.box (c_TRoute a0), .box (c_TRoute a1)]⟩ ?_))))
 refine then_n (awp_block ?_)
 obtain ⟨y3, q13, h14⟩ := bind_some h3
 refine awp_le (s' := ⟨136, [(2, .ref 0 0), (3, .ref 1 0), (5, .int .i64 0)], [.box (c_TRoute a0), .box (c_TRoute a1)]⟩) (le_rfl) ?_
 refine awp_mono (awp_loop (f := M.ref15_Same_l1 a0 a1) (S := fun (p1 : Int) => ⟨136, [(2, .ref 0 0), (3, .ref 1 0), (5, .int .i64 p1)], [.box (c_TRoute a0), .box (c_TRoute a1)]⟩) (O := (Sum.elim (fun z => OutE 0 (fun z => ⟨136, [(2, .ref 0 0), (3, .ref 1 0)], [.box (c_TRoute a0), .box (c_TRoute a1)]⟩) z) (fun z => OutR Try.prog Try.f27 (.bool z)))) ?_ (x := 0) (y := y3) (loopM_iter q13)) ?_
 intro p1 y2 h4
 unfold M.ref15_Same_l1 at h4
 refine awp_seq (awp_seq (rg0 [2, 3, 5, 104] 2 ⟨136, [(2, .ref 0 0), (3, .ref 1 0), (5, .int .i64 p1), (104, .bool (decide (p1 < (a0.fPath.length : Int))))], [.box (c_TRoute a0), .box (c_TRoute a1)]⟩ ?_))
 refine then_n ?_
 refine cnd (decide (p1 < (a0.fPath.length : Int))) (fun b5 => ?_) (fun b5 => ?_)
 have h6 := cond_t b5 h4
 refine awp_skip (then_n (awp_seq (awp_block (awp_seq ?_))))
 obtain ⟨c8, h9⟩ := gd_some h6
 refine rgc [2, 3, 5, 117] 2 ⟨136, [(2, .ref 0 0), (3, .ref 1 0), (5, .int .i64 p1), (117, .bool ((a0.fPath.getD p1.toNat default) != (a1.fPath.getD p1.toNat default)))], [.box (c_TRoute a0), .box (c_TRoute a1)]⟩ [decide (0 ≤ p1), decide (p1 < (a0.fPath.length : Int)), decide (0 ≤ p1), decide (p1 < (a1.fPath.length : Int))] c8 ?_
 refine then_n ?_
 refine cnd ((a0.fPath.getD p1.toNat default) != (a1.fPath.getD p1.toNat default)) (fun b10 => ?_) (fun b10 => ?_)
 have h11 := cond_t b10 h9
 refine awp_seq (rg0 [4] 0 ⟨136, [(4, .bool false)], []⟩ ?_)
 refine then_n (awp_ret (inb_r (then_r ?_)))
 obtain rfl := Option.some.inj h11
 exact round_r ⟨rfl, er0 (.bool false)⟩
 have h12 := cond_f b10 h9
 refine awp_skip (inb_n (then_n (rg0 [2, 3, 5] 2 ⟨136, [(2, .ref 0 0), (3, .ref 1 0), (5, .int .i64 (wr .i64 (p1 + 1)))], [.box (c_TRoute a0), .box (c_TRoute a1)]⟩ ?_)))
 obtain rfl := Option.some.inj h12
 exact round_n (le_rfl)
 have h7 := cond_f b5 h4
 refine awp_exit (then_e ?_)
 obtain rfl := Option.some.inj h7
 exact round_e ⟨rfl, kp [2, 3]⟩
 intro e15 s16 o17
 rcases y3 with g4 | y5
 have h18 := elim_l h14
 obtain ⟨rfl, l20⟩ := o17
 refine inb_here ?_
 refine then_le (s' := ⟨136, [(2, .ref 0 0), (3, .ref 1 0)], [.box (c_TRoute a0), .box (c_TRoute a1)]⟩) (l20) ?_
 refine awp_seq (awp_seq (rg0 [2, 3, 6] 2 ⟨136, [(2, .ref 0 0), (3, .ref 1 0), (6, .int .i64 0)], [.box (c_TRoute a0), .box (c_TRoute a1)]⟩ ?_))
 refine then_n (awp_block ?_)
 obtain ⟨y8, q30, h31⟩ := bind_some h18
 refine awp_le (s' := ⟨136, [(2, .ref 0 0), (3, .ref 1 0), (6, .int .i64 0)], [.box (c_TRoute a0), .box (c_TRoute a1)]⟩) (le_rfl) ?_
 refine awp_mono (awp_loop (f := M.ref15_Same_l2 a0 a1) (S := fun (p6 : Int) => ⟨136, [(2, .ref 0 0), (3, .ref 1 0), (6, .int .i64 p6)], [.box (c_TRoute a0), .box (c_TRoute a1)]⟩) (O := (Sum.elim (fun z => OutE 2 (fun z => ⟨136, [], []⟩) z) (fun z => OutR Try.prog Try.f27 (.bool z)))) ?_ (x := 0) (y := y8) (loopM_iter q30)) ?_
 intro p6 y7 h21
 unfold M.ref15_Same_l2 at h21
 refine awp_seq (awp_seq (rg0 [2, 3, 6, 122] 2 ⟨136, [(2, .ref 0 0), (3, .ref 1 0), (6, .int .i64 p6), (122, .bool (decide (p6 < (a0.fHops.length : Int))))], [.box (c_TRoute a0), .box (c_TRoute a1)]⟩ ?_))
 refine then_n ?_
 refine cnd (decide (p6 < (a0.fHops.length : Int))) (fun b22 => ?_) (fun b22 => ?_)
 have h23 := cond_t b22 h21
 refine awp_skip (then_n (awp_seq (awp_block (awp_seq ?_))))
 obtain ⟨c25, h26⟩ := gd_some h23
 refine rgc [2, 3, 6, 135] 2 ⟨136, [(2, .ref 0 0), (3, .ref 1 0), (6, .int .i64 p6), (135, .bool (!((((a0.fHops.getD p6.toNat default).fIface) == ((a1.fHops.getD p6.toNat default).fIface)) && ((((a0.fHops.getD p6.toNat default).fAddr) == ((a1.fHops.getD p6.toNat default).fAddr)) && true))))], [.box (c_TRoute a0), .box (c_TRoute a1)]⟩ [decide (0 ≤ p6), decide (p6 < (a0.fHops.length : Int)), decide (0 ≤ p6), decide (p6 < (a1.fHops.length : Int))] c25 ?_
 refine then_n ?_
 refine cnd (!((((a0.fHops.getD p6.toNat default).fIface) == ((a1.fHops.getD p6.toNat default).fIface)) && ((((a0.fHops.getD p6.toNat default).fAddr) == ((a1.fHops.getD p6.toNat default).fAddr)) && true))) (fun b27 => ?_) (fun b27 => ?_)
 have h28 := cond_t b27 h26
 refine awp_seq (rg0 [4] 0 ⟨136, [(4, .bool false)], []⟩ ?_)
 refine then_n (awp_ret (inb_r (then_r ?_)))
 obtain rfl := Option.some.inj h28
 exact round_r ⟨rfl, er0 (.bool false)⟩
 have h29 := cond_f b27 h26
 refine awp_skip (inb_n (then_n (rg0 [2, 3, 6] 2 ⟨136, [(2, .ref 0 0), (3, .ref 1 0), (6, .int .i64 (wr .i64 (p6 + 1)))], [.box (c_TRoute a0), .box (c_TRoute a1)]⟩ ?_)))
 obtain rfl := Option.some.inj h29
 exact round_n (le_rfl)
 have h24 := cond_f b22 h21
 refine awp_exit (then_e ?_)
 obtain rfl := Option.some.inj h24
 exact round_e ⟨rfl, Le.trans (s' := ⟨136, [], [.box (c_TRoute a0), .box (c_TRoute a1)]⟩) (kp []) (le_cut (n := 0) (by kernel_rfl))⟩
 intro e32 s33 o34
 rcases y8 with g9 | y10
 have h35 := elim_l h31
 obtain ⟨rfl, l37⟩ := o34
 refine inb_here ?_
 refine then_le (s' := ⟨136, [], []⟩) (l37) ?_
 refine awp_seq (rg0 [4] 0 ⟨136, [(4, .bool true)], []⟩ ?_)
 refine then_n (awp_ret ?_)
 obtain rfl := Option.some.inj h35
 exact er0 (.bool true)
 have h36 := elim_r h31
 obtain ⟨rfl, n38⟩ := o34
 refine inb_r (then_r ?_)
 obtain rfl := Option.some.inj h36
 exact n38
 have h19 := elim_r h14
 obtain ⟨rfl, n39⟩ := o17
 refine inb_r (then_r ?_)
 obtain rfl := Option.some.inj h19
 exact n39
theorem ref15_SameAll_ok (a0 : List TRoute) (a1 : List TRoute) (r : Bool) (h : M.ref15_SameAll a0 a1 = some r) : Fn Try.prog 31 [sL 14 c_TRoute a0, sL 14 c_TRoute a1] (.pure (.bool r)) := by
 unfold M.ref15_SameAll at h
 refine fn_pure Try.func31 rfl (by kernel_rfl) ?_
 refine awp_seq (rg0 [0, 1] 0 ⟨27, [(0, sL 14 c_TRoute a0), (1, sL 14 c_TRoute a1)], []⟩ ?_)
 refine then_n (awp_seq (awp_seq (rg0 [0, 1, 10] 0 ⟨27, [(0, sL 14 c_TRoute a0), (1, sL 14 c_TRoute a1), (10, .bool ((a0.length : Int) != (a1.length : Int)))], []⟩ ?_)))
 refine then_n ?_
 refine cnd ((a0.length : Int) != (a1.length : Int)) (fun b1 => ?_) (fun b1 => ?_)
 have h2 := cond_t b1 h
 refine awp_seq (rg0 [4] 0 ⟨27, [(4, .bool false)], []⟩ ?_)
 refine then_n (awp_ret (then_r ?_))
 obtain rfl := Option.some.inj h2
 exact er0 (.bool false)
 have h3 := cond_f b1 h
 refine awp_skip (then_n (awp_seq (awp_seq (rg0 [0, 1, 5] 0 ⟨27, [(0, sL 14 c_TRoute a0), (1, sL 14 c_TRoute a1), (5, .int .i64 0)], []⟩ ?_))))
 refine then_n (awp_block ?_)
 obtain ⟨y4, q15, h16⟩ := bind_some h3
 refine awp_le (s' := ⟨27, [(0, sL 14 c_TRoute a0), (1, sL 14 c_TRoute a1), (5, .int .i64 0)], []⟩) (le_rfl) ?_
 refine awp_mono (awp_loop (f := M.ref15_SameAll_l1 a0 a1) (S := fun (p1 : Int) => ⟨27, [(0, sL 14 c_TRoute a0), (1, sL 14 c_TRoute a1), (5, .int .i64 p1)], []⟩) (O := (Sum.elim (fun z => OutE 0 (fun z => ⟨27, [], []⟩) z) (fun z => OutR Try.prog Try.f31 (.bool z)))) ?_ (x := 0) (y := y4) (loopM_iter q15)) ?_
 intro p1 y2 h4
 unfold M.ref15_SameAll_l1 at h4
 refine awp_seq (awp_seq (rg0 [0, 1, 5, 14] 0 ⟨27, [(0, sL 14 c_TRoute a0), (1, sL 14 c_TRoute a1), (5, .int .i64 p1), (14, .bool (decide (p1 < (a0.length : Int))))], []⟩ ?_))
 refine then_n ?_
 refine cnd (decide (p1 < (a0.length : Int))) (fun b5 => ?_) (fun b5 => ?_)
 have h6 := cond_t b5 h4
 refine awp_skip (then_n (awp_seq (awp_block (awp_seq ?_))))
 obtain ⟨r3, q8, h9⟩ := bind_some h6
 obtain ⟨c10, h11⟩ := gd_some h9
 refine rg [.pure (.bool r3)] [0, 1, 5, 26] 0 ⟨27, [(0, sL 14 c_TRoute a0), (1, sL 14 c_TRoute a1), (5, .int .i64 p1), (26, .bool (!r3))], []⟩ [decide (0 ≤ p1), decide (p1 < (a0.length : Int)), decide (0 ≤ p1), decide (p1 < (a1.length : Int))] [⟨true, 27, [.agg (c_TRoute (a0.getD p1.toNat default)), .agg (c_TRoute (a1.getD p1.toNat default))], .pure (.bool r3)⟩] c10 ⟨fun _ => ref15_Same_ok (a0.getD p1.toNat default) (a1.getD p1.toNat default) r3 q8, trivial⟩ ?_
 refine then_n ?_
 refine cnd (!r3) (fun b12 => ?_) (fun b12 => ?_)
 have h13 := cond_t b12 h11
 refine awp_seq (rg0 [4] 0 ⟨27, [(4, .bool false)], []⟩ ?_)
 refine then_n (awp_ret (inb_r (then_r ?_)))
 obtain rfl := Option.some.inj h13
 exact round_r ⟨rfl, er0 (.bool false)⟩
 have h14 := cond_f b12 h11
 refine awp_skip (inb_n (then_n (rg0 [0, 1, 5] 0 ⟨27, [(0, sL 14 c_TRoute a0), (1, sL 14 c_TRoute a1), (5, .int .i64 (wr .i64 (p1 + 1)))], []⟩ ?_)))
 obtain rfl := Option.some.inj h14
 exact round_n (le_rfl)
 have h7 := cond_f b5 h4
 refine awp_exit (then_e ?_)
 obtain rfl := Option.some.inj h7
 exact round_e ⟨rfl, kp []⟩
 intro e17 s18 o19
 rcases y4 with g5 | y6
 have h20 := elim_l h16
 obtain ⟨rfl, l22⟩ := o19
 refine inb_here ?_
 refine then_le (s' := ⟨27, [], []⟩) (l22) ?_
 refine awp_seq (rg0 [4] 0 ⟨27, [(4, .bool true)], []⟩ ?_)
 refine then_n (awp_ret ?_)
 obtain rfl := Option.some.inj h20
 exact er0 (.bool true)
 have h21 := elim_r h16
 obtain ⟨rfl, n23⟩ := o19
 refine inb_r (then_r ?_)
 obtain rfl := Option.some.inj h21
 exact n23
theorem addr_Contains_ok (a0 : TPrefix) (a1 : Int) (r : Bool) (h : M.addr_Contains a0 a1 = some r) : Fn Try.prog 58 [.agg (c_TPrefix a0), .int .u32 a1] (.pure (.bool r)) := by
 unfold M.addr_Contains at h
 refine fn_pure Try.func58 rfl (by kernel_rfl) ?_
 refine awp_seq (rg0 [1, 2] 1 ⟨13, [(1, .int .u32 a1), (2, .ref 0 0)], [.box (c_TPrefix a0)]⟩ ?_)
 refine then_n (awp_seq ?_)
 obtain ⟨r1, q1, h2⟩ := bind_some h
 refine rg [.pure (.int .u32 r1)] [4] 0 ⟨13, [(4, .bool ((bitD .and .u32 a1 r1) == a0.fAddr))], []⟩ [] [⟨true, 76, [.int .i64 a0.fLen], .pure (.int .u32 r1)⟩] nil_all ⟨fun _ => addr_Mask_ok a0.fLen r1 q1, trivial⟩ ?_
 refine then_n (awp_ret ?_)
 obtain rfl := Option.some.inj h2
 exact er0 (.bool ((bitD .and .u32 a1 r1) == a0.fAddr))
theorem route_Longest_ok (a0 : List TRoute) (a1 : Int) (r : Int) (h : M.route_Longest a0 a1 = some r) : Fn Try.prog 22 [sL 14 c_TRoute a0, .int .u32 a1] (.pure (.int .i64 r)) := by
 unfold M.route_Longest at h
 refine fn_pure Try.func22 rfl (by kernel_rfl) ?_
 refine awp_seq (rg0 [0, 1] 0 ⟨38, [(0, sL 14 c_TRoute a0), (1, .int .u32 a1)], []⟩ ?_)
 refine then_n (awp_seq (rg0 [0, 1, 5] 0 ⟨38, [(0, sL 14 c_TRoute a0), (1, .int .u32 a1), (5, .int .i64 (-1))], []⟩ ?_))
 refine then_n (awp_seq (awp_seq (rg0 [0, 1, 5, 8, 9, 10] 0 ⟨38, [(0, sL 14 c_TRoute a0), (1, .int .u32 a1), (5, .int .i64 (-1)), (8, sL 14 c_TRoute a0), (9, .int .i64 (a0.length : Int)), (10, .int .i64 0)], []⟩ ?_)))
 refine then_n (awp_block ?_)
 obtain ⟨y5, q16, h17⟩ := bind_some h
 refine awp_le (s' := ⟨38, [(0, sL 14 c_TRoute a0), (1, .int .u32 a1), (5, .int .i64 (-1)), (8, sL 14 c_TRoute a0), (9, .int .i64 (a0.length : Int)), (10, .int .i64 0)], []⟩) (le_rfl) ?_
 refine awp_mono (awp_loop (f := M.route_Longest_l1 a0 a1) (S := fun (p1 : Int × Int) => ⟨38, [(0, sL 14 c_TRoute a0), (1, .int .u32 a1), (5, .int .i64 p1.1), (8, sL 14 c_TRoute a0), (9, .int .i64 (a0.length : Int)), (10, .int .i64 p1.2)], []⟩) (O := (fun z => OutE 0 (fun z => ⟨38, [(5, .int .i64 z)], []⟩) z)) ?_ (x := ((-1), 0)) (y := y5) (loopM_iter q16)) ?_
 intro p1 y2 h1
 unfold M.route_Longest_l1 at h1
 refine awp_seq (rg0 [0, 1, 5, 8, 9, 10, 11] 0 ⟨38, [(0, sL 14 c_TRoute a0), (1, .int .u32 a1), (5, .int .i64 p1.1), (8, sL 14 c_TRoute a0), (9, .int .i64 (a0.length : Int)), (10, .int .i64 p1.2), (11, .bool (decide (p1.2 < (a0.length : Int))))], []⟩ ?_)
 refine then_n (awp_seq ?_)
 refine cnd (decide (p1.2 < (a0.length : Int))) (fun b2 => ?_) (fun b2 => ?_)
 have h3 := cond_t b2 h1
 refine awp_skip (then_n ?_)
 refine awp_join (fun (p3 : Int) => ⟨38, [(0, sL 14 c_TRoute a0), (1, .int .u32 a1), (5, .int .i64 p3), (8, sL 14 c_TRoute a0), (9, .int .i64 (a0.length : Int)), (10, .int .i64 p1.2)], []⟩) (fun p3 => M.route_Longest_k1 p1 p3 = some y2) ?_ ?_
 intro p3 h6
 unfold M.route_Longest_k1 at h6
 refine rg0 [0, 1, 5, 8, 9, 10] 0 ⟨38, [(0, sL 14 c_TRoute a0), (1, .int .u32 a1), (5, .int .i64 p3), (8, sL 14 c_TRoute a0), (9, .int .i64 (a0.length : Int)), (10, .int .i64 (wr .i64 (p1.2 + 1)))], []⟩ ?_
 obtain rfl := Option.some.inj h6
 exact round_n (le_rfl)
 intro k5
 refine awp_block (awp_seq ?_)
 obtain ⟨c7, h8⟩ := gd_some h3
 refine rgc [0, 1, 5, 6, 7, 8, 9, 10] 1 ⟨38, [(0, sL 14 c_TRoute a0), (1, .int .u32 a1), (5, .int .i64 p1.1), (6, .int .i64 p1.2), (7, .ref 0 0), (8, sL 14 c_TRoute a0), (9, .int .i64 (a0.length : Int)), (10, .int .i64 p1.2)], [.box (c_TRoute (a0.getD p1.2.toNat default))]⟩ [decide (0 ≤ p1.2), decide (p1.2 < (a0.length : Int))] c7 ?_
 refine then_n (awp_seq ?_)
 obtain ⟨r4, q9, h10⟩ := bind_some h8
 obtain ⟨c11, h12⟩ := gd_some h10
 refine rg [.pure (.bool r4)] [0, 1, 5, 6, 8, 9, 10, 34] 0 ⟨38, [(0, sL 14 c_TRoute a0), (1, .int .u32 a1), (5, .int .i64 p1.1), (6, .int .i64 p1.2), (8, sL 14 c_TRoute a0), (9, .int .i64 (a0.length : Int)), (10, .int .i64 p1.2), (34, .bool (r4 && ((decide (p1.1 < 0)) || (decide ((((a0.getD p1.2.toNat default).fPrefix).fLen) > (((a0.getD p1.1.toNat default).fPrefix).fLen))))))], []⟩ [guardB (r4 && !(decide (p1.1 < 0))) (decide (0 ≤ p1.1)), guardB (r4 && !(decide (p1.1 < 0))) (decide (p1.1 < (a0.length : Int)))] [⟨true, 58, [.agg (c_TPrefix ((a0.getD p1.2.toNat default).fPrefix)), .int .u32 a1], .pure (.bool r4)⟩] c11 ⟨fun _ => addr_Contains_ok ((a0.getD p1.2.toNat default).fPrefix) a1 r4 q9, trivial⟩ ?_
 refine then_n ?_
 refine cnd (r4 && ((decide (p1.1 < 0)) || (decide ((((a0.getD p1.2.toNat default).fPrefix).fLen) > (((a0.getD p1.1.toNat default).fPrefix).fLen))))) (fun b13 => ?_) (fun b13 => ?_)
 have h14 := cond_t b13 h12
 refine rg0 [0, 1, 5, 8, 9, 10] 0 ⟨38, [(0, sL 14 c_TRoute a0), (1, .int .u32 a1), (5, .int .i64 p1.2), (8, sL 14 c_TRoute a0), (9, .int .i64 (a0.length : Int)), (10, .int .i64 p1.2)], []⟩ ?_
 refine inb_n ?_
 exact then_le (le_rfl) (k5 p1.2 h14)
 have h15 := cond_f b13 h12
 refine awp_skip (inb_n ?_)
 exact then_le (kp [0, 1, 5, 8, 9, 10]) (k5 p1.1 h15)
 have h4 := cond_f b2 h1
 refine awp_exit (then_e ?_)
 obtain rfl := Option.some.inj h4
 exact round_e ⟨rfl, kp [5]⟩
 intro e18 s19 o20
 obtain ⟨rfl, l21⟩ := o20
 refine inb_here ?_
 refine then_le (s' := ⟨38, [(5, .int .i64 y5)], []⟩) (l21) ?_
 refine awp_seq (rg0 [4] 0 ⟨38, [(4, .int .i64 y5)], []⟩ ?_)
 refine then_n (awp_ret ?_)
 obtain rfl := Option.some.inj h17
 exact er0 (.int .i64 y5)
theorem law14_sane_ok  (r : Bool) (h : M.law14_sane  = some r) : Fn Try.prog 15 [] (.pure (.bool r)) := by
 unfold M.law14_sane at h
 refine fn_pure Try.func15 rfl (by kernel_rfl) ?_
 refine awp_seq (rg0 [] 0 ⟨50, [], []⟩ ?_)
 refine then_n (awp_seq (rg0 [1] 1 ⟨50, [(1, .ref 0 0)], [.box [.int .u32 0, .int .i64 0, .int .i64 4, .int .i64 3, .int .i64 120, .int .i64 3, .int .i64 0, .int .i64 0, .int .i64 0, .sl true 1 0 (fun _ => []), .int .u32 0, .int .u32 0, .sl true 2 1 (fun i => List.take 2 (List.drop (i * 2) [.int .i64 0, .int .u32 7])), .bool false]]⟩ ?_))
 refine then_n (awp_seq (rg0 [1, 2] 2 ⟨50, [(1, .ref 0 0), (2, .ref 1 0)], [.box [.int .u32 0, .int .i64 0, .int .i64 4, .int .i64 3, .int .i64 120, .int .i64 3, .int .i64 0, .int .i64 0, .int .i64 0, .sl true 1 0 (fun _ => []), .int .u32 0, .int .u32 0, .sl true 2 1 (fun i => List.take 2 (List.drop (i * 2) [.int .i64 0, .int .u32 7])), .bool false], .box [.int .u32 0, .int .i64 0, .int .i64 4, .int .i64 3, .int .i64 120, .int .i64 3, .int .i64 0, .int .i64 0, .int .i64 0, .sl true 1 0 (fun _ => []), .int .u32 0, .int .u32 0, .sl true 2 1 (fun i => List.take 2 (List.drop (i * 2) [.int .i64 0, .int .u32 7])), .bool false]]⟩ ?_))
 refine then_n (awp_seq (rg0 [1, 2] 2 ⟨50, [(1, .ref 0 0), (2, .ref 1 0)], [.box [.int .u32 0, .int .i64 0, .int .i64 4, .int .i64 3, .int .i64 120, .int .i64 3, .int .i64 0, .int .i64 0, .int .i64 0, .sl true 1 0 (fun _ => []), .int .u32 0, .int .u32 0, .sl true 2 1 (fun i => List.take 2 (List.drop (i * 2) [.int .i64 0, .int .u32 7])), .bool false], .box [.int .u32 0, .int .i64 0, .int .i64 4, .int .i64 3, .int .i64 120, .int .i64 2, .int .i64 0, .int .i64 0, .int .i64 0, .sl true 1 0 (fun _ => []), .int .u32 0, .int .u32 0, .sl true 2 1 (fun i => List.take 2 (List.drop (i * 2) [.int .i64 1, .int .u32 9])), .bool false]]⟩ ?_))
 refine then_n (awp_seq ?_)
 obtain ⟨r1, q1, h2⟩ := bind_some h
 refine rg [.pure (sL 14 c_TRoute r1)] [1, 2, 3] 2 ⟨50, [(1, .ref 0 0), (2, .ref 1 0), (3, sL 14 c_TRoute r1)], [.box [.int .u32 0, .int .i64 0, .int .i64 4, .int .i64 3, .int .i64 120, .int .i64 3, .int .i64 0, .int .i64 0, .int .i64 0, .sl true 1 0 (fun _ => []), .int .u32 0, .int .u32 0, .sl true 2 1 (fun i => List.take 2 (List.drop (i * 2) [.int .i64 0, .int .u32 7])), .bool false], .box [.int .u32 0, .int .i64 0, .int .i64 4, .int .i64 3, .int .i64 120, .int .i64 2, .int .i64 0, .int .i64 0, .int .i64 0, .sl true 1 0 (fun _ => []), .int .u32 0, .int .u32 0, .sl true 2 1 (fun i => List.take 2 (List.drop (i * 2) [.int .i64 1, .int .u32 9])), .bool false]]⟩ [] [⟨true, 19, [.sl false 14 2 (fun i => List.take 14 (List.drop (i * 14) [.int .u32 0, .int .i64 0, .int .i64 4, .int .i64 3, .int .i64 120, .int .i64 3, .int .i64 0, .int .i64 0, .int .i64 0, .sl true 1 0 (fun _ => []), .int .u32 0, .int .u32 0, .sl true 2 1 (fun i => List.take 2 (List.drop (i * 2) [.int .i64 0, .int .u32 7])), .bool false, .int .u32 0, .int .i64 0, .int .i64 4, .int .i64 3, .int .i64 120, .int .i64 2, .int .i64 0, .int .i64 0, .int .i64 0, .sl true 1 0 (fun _ => []), .int .u32 0, .int .u32 0, .sl true 2 1 (fun i => List.take 2 (List.drop (i * 2) [.int .i64 1, .int .u32 9])), .bool false]))], .pure (sL 14 c_TRoute r1)⟩] nil_all ⟨fun _ => (route_Merge_ok ([(⟨(⟨0, 0⟩ : TPrefix), 4, 3, 120, 3, 0, 0, 0, ([] : List Int), 0, 0, ([(⟨0, 7⟩ : THop)] : List THop), false⟩ : TRoute), (⟨(⟨0, 0⟩ : TPrefix), 4, 3, 120, 2, 0, 0, 0, ([] : List Int), 0, 0, ([(⟨1, 9⟩ : THop)] : List THop), false⟩ : TRoute)] : List TRoute) r1 q1).args (.cons (asub_psl rfl (fun i hi => match i, hi with | 0, _ => (.cons PSub.rfl (.cons PSub.rfl (.cons PSub.rfl (.cons PSub.rfl (.cons PSub.rfl (.cons PSub.rfl (.cons PSub.rfl (.cons PSub.rfl (.cons PSub.rfl (.cons psub_nil (.cons PSub.rfl (.cons PSub.rfl (.cons (psub_sl rfl (fun i hi => match i, hi with | 0, _ => (.cons PSub.rfl (.cons PSub.rfl .nil)) | n + 1, h => absurd h (by omega))) (.cons PSub.rfl .nil)))))))))))))) | 1, _ => (.cons PSub.rfl (.cons PSub.rfl (.cons PSub.rfl (.cons PSub.rfl (.cons PSub.rfl (.cons PSub.rfl (.cons PSub.rfl (.cons PSub.rfl (.cons PSub.rfl (.cons psub_nil (.cons PSub.rfl (.cons PSub.rfl (.cons (psub_sl rfl (fun i hi => match i, hi with | 0, _ => (.cons PSub.rfl (.cons PSub.rfl .nil)) | n + 1, h => absurd h (by omega))) (.cons PSub.rfl .nil)))))))))))))) | n + 2, h => absurd h (by omega))) .nil), trivial⟩ ?_
 refine then_n (awp_seq ?_)
 obtain ⟨r2, q3, h4⟩ := bind_some h2
 obtain ⟨r3, q5, h6⟩ := bind_some h4
 obtain ⟨r4, q7, h8⟩ := bind_some h6
 obtain ⟨r5, q9, h10⟩ := bind_some h8
 obtain ⟨r6, q11, h12⟩ := bind_some h10
 obtain ⟨c13, h14⟩ := gd_some h12
 refine rg [.pure (.bool r2), .pure (.bool r3), .pure (.int .i64 r4), .pure (.int .i64 r5), .pure (.bool r6)] [0] 0 ⟨50, [(0, .bool ((((((r2 && r3) && (r4 == (-1))) && ((r1.length : Int) == 1)) && (((r1.getD (0 : Int).toNat default).fMetric) == 2)) && (r5 == 0)) && (!r6)))], []⟩ [guardB (((r2 && r3) && (r4 == (-1))) && ((r1.length : Int) == 1)) (decide (0 ≤ 0)), guardB (((r2 && r3) && (r4 == (-1))) && ((r1.length : Int) == 1)) (decide (0 < (r1.length : Int)))] [⟨true, 13, [.agg [.int .u32 0, .int .i64 0, .int .i64 4, .int .i64 3, .int .i64 120, .int .i64 3, .int .i64 0, .int .i64 0, .int .i64 0, .sl false 1 0 (fun _ => []), .int .u32 0, .int .u32 0, .sl false 2 1 (fun i => List.take 2 (List.drop (i * 2) [.int .i64 0, .int .u32 7])), .bool false]], .pure (.bool r2)⟩, ⟨r2, 13, [.agg [.int .u32 0, .int .i64 0, .int .i64 4, .int .i64 3, .int .i64 120, .int .i64 2, .int .i64 0, .int .i64 0, .int .i64 0, .sl false 1 0 (fun _ => []), .int .u32 0, .int .u32 0, .sl false 2 1 (fun i => List.take 2 (List.drop (i * 2) [.int .i64 1, .int .u32 9])), .bool false]], .pure (.bool r3)⟩, ⟨r2 && r3, 17, [.agg [.int .u32 0, .int .i64 0, .int .i64 4, .int .i64 3, .int .i64 120, .int .i64 2, .int .i64 0, .int .i64 0, .int .i64 0, .sl false 1 0 (fun _ => []), .int .u32 0, .int .u32 0, .sl false 2 1 (fun i => List.take 2 (List.drop (i * 2) [.int .i64 1, .int .u32 9])), .bool false], .agg [.int .u32 0, .int .i64 0, .int .i64 4, .int .i64 3, .int .i64 120, .int .i64 3, .int .i64 0, .int .i64 0, .int .i64 0, .sl false 1 0 (fun _ => []), .int .u32 0, .int .u32 0, .sl false 2 1 (fun i => List.take 2 (List.drop (i * 2) [.int .i64 0, .int .u32 7])), .bool false]], .pure (.int .i64 r4)⟩, ⟨(((r2 && r3) && (r4 == (-1))) && ((r1.length : Int) == 1)) && (((r1.getD (0 : Int).toNat default).fMetric) == 2), 22, [sL 14 c_TRoute r1, .int .u32 5], .pure (.int .i64 r5)⟩, ⟨((((r2 && r3) && (r4 == (-1))) && ((r1.length : Int) == 1)) && (((r1.getD (0 : Int).toNat default).fMetric) == 2)) && (r5 == 0), 13, [.agg [.int .u32 0, .int .i64 0, .int .i64 0, .int .i64 0, .int .i64 0, .int .i64 0, .int .i64 0, .int .i64 0, .int .i64 0, .sl false 1 0 (fun _ => []), .int .u32 0, .int .u32 0, .sl false 2 0 (fun _ => []), .bool false]], .pure (.bool r6)⟩] c13 ⟨fun _ => (route_Valid_ok (⟨(⟨0, 0⟩ : TPrefix), 4, 3, 120, 3, 0, 0, 0, ([] : List Int), 0, 0, ([(⟨0, 7⟩ : THop)] : List THop), false⟩ : TRoute) r2 q3).args (.cons (asub_agg (.cons CSub.rfl (.cons CSub.rfl (.cons CSub.rfl (.cons CSub.rfl (.cons CSub.rfl (.cons CSub.rfl (.cons CSub.rfl (.cons CSub.rfl (.cons CSub.rfl (.cons csub_nil (.cons CSub.rfl (.cons CSub.rfl (.cons (csub_sl rfl (fun i hi => match i, hi with | 0, _ => rfl | n + 1, h => absurd h (by omega))) (.cons CSub.rfl .nil))))))))))))))) .nil), fun hg => (route_Valid_ok (⟨(⟨0, 0⟩ : TPrefix), 4, 3, 120, 2, 0, 0, 0, ([] : List Int), 0, 0, ([(⟨1, 9⟩ : THop)] : List THop), false⟩ : TRoute) r3 (gc_some q5 hg)).args (.cons (asub_agg (.cons CSub.rfl (.cons CSub.rfl (.cons CSub.rfl (.cons CSub.rfl (.cons CSub.rfl (.cons CSub.rfl (.cons CSub.rfl (.cons CSub.rfl (.cons CSub.rfl (.cons csub_nil (.cons CSub.rfl (.cons CSub.rfl (.cons (csub_sl rfl (fun i hi => match i, hi with | 0, _ => rfl | n + 1, h => absurd h (by omega))) (.cons CSub.rfl .nil))))))))))))))) .nil), fun hg => (route_Prefer_ok (⟨(⟨0, 0⟩ : TPrefix), 4, 3, 120, 2, 0, 0, 0, ([] : List Int), 0, 0, ([(⟨1, 9⟩ : THop)] : List THop), false⟩ : TRoute) (⟨(⟨0, 0⟩ : TPrefix), 4, 3, 120, 3, 0, 0, 0, ([] : List Int), 0, 0, ([(⟨0, 7⟩ : THop)] : List THop), false⟩ : TRoute) r4 (gc_some q7 hg)).args (.cons (asub_agg (.cons CSub.rfl (.cons CSub.rfl (.cons CSub.rfl (.cons CSub.rfl (.cons CSub.rfl (.cons CSub.rfl (.cons CSub.rfl (.cons CSub.rfl (.cons CSub.rfl (.cons csub_nil (.cons CSub.rfl (.cons CSub.rfl (.cons (csub_sl rfl (fun i hi => match i, hi with | 0, _ => rfl | n + 1, h => absurd h (by omega))) (.cons CSub.rfl .nil))))))))))))))) (.cons (asub_agg (.cons CSub.rfl (.cons CSub.rfl (.cons CSub.rfl (.cons CSub.rfl (.cons CSub.rfl (.cons CSub.rfl (.cons CSub.rfl (.cons CSub.rfl (.cons CSub.rfl (.cons csub_nil (.cons CSub.rfl (.cons CSub.rfl (.cons (csub_sl rfl (fun i hi => match i, hi with | 0, _ => rfl | n + 1, h => absurd h (by omega))) (.cons CSub.rfl .nil))))))))))))))) .nil)), fun hg => route_Longest_ok r1 5 r5 (gc_some q9 hg), fun hg => (route_Valid_ok (⟨(⟨0, 0⟩ : TPrefix), 0, 0, 0, 0, 0, 0, 0, ([] : List Int), 0, 0, ([] : List THop), false⟩ : TRoute) r6 (gc_some q11 hg)).args (.cons (asub_agg (.cons CSub.rfl (.cons CSub.rfl (.cons CSub.rfl (.cons CSub.rfl (.cons CSub.rfl (.cons CSub.rfl (.cons CSub.rfl (.cons CSub.rfl (.cons CSub.rfl (.cons csub_nil (.cons CSub.rfl (.cons CSub.rfl (.cons csub_nil (.cons CSub.rfl .nil))))))))))))))) .nil), trivial⟩ ?_
 refine then_n (awp_ret ?_)
 obtain rfl := Option.some.inj h14
 exact er0 (.bool ((((((r2 && r3) && (r4 == (-1))) && ((r1.length : Int) == 1)) && (((r1.getD (0 : Int).toNat default).fMetric) == 2)) && (r5 == 0)) && (!r6)))
theorem law14_RouteMergeAgain_ok (a0 : List TRoute) (a1 : Int) (r : Bool) (h : M.law14_RouteMergeAgain a0 a1 = some r) : Fn Try.prog 11 [sL 14 c_TRoute a0, .int .i64 a1] (.pure (.bool r)) := by
 unfold M.law14_RouteMergeAgain at h
 refine fn_pure Try.func11 rfl (by kernel_rfl) ?_
 refine awp_seq (rg0 [0, 1] 0 ⟨79, [(0, sL 14 c_TRoute a0), (1, .int .i64 a1)], []⟩ ?_)
 refine then_n (awp_seq (awp_seq ?_))
 obtain ⟨r1, q1, h2⟩ := bind_some h
 refine rg [.pure (.bool r1)] [0, 1, 24] 0 ⟨79, [(0, sL 14 c_TRoute a0), (1, .int .i64 a1), (24, .bool ((((!r1) || ((a0.length : Int) == 0)) || (decide (a1 < 0))) || (decide (a1 > (a0.length : Int)))))], []⟩ [] [⟨true, 16, [sL 14 c_TRoute a0], .pure (.bool r1)⟩] nil_all ⟨fun _ => law14_One_ok a0 r1 q1, trivial⟩ ?_
 refine then_n ?_
 refine cnd ((((!r1) || ((a0.length : Int) == 0)) || (decide (a1 < 0))) || (decide (a1 > (a0.length : Int)))) (fun b3 => ?_) (fun b3 => ?_)
 have h4 := cond_t b3 h2
 refine awp_seq (rg0 [4] 0 ⟨79, [(4, .bool true)], []⟩ ?_)
 refine then_n (awp_ret (then_r ?_))
 obtain rfl := Option.some.inj h4
 exact er0 (.bool true)
 have h5 := cond_f b3 h2
 refine awp_skip (then_n (awp_seq (awp_seq ?_)))
 obtain ⟨r2, q6, h7⟩ := bind_some h5
 obtain ⟨r3, q8, h9⟩ := bind_some h7
 obtain ⟨r4, q10, h11⟩ := bind_some h9
 obtain ⟨r5, q12, h13⟩ := bind_some h11
 obtain ⟨r6, q14, h15⟩ := bind_some h13
 obtain ⟨r7, q16, h17⟩ := bind_some h15
 obtain ⟨c18, h19⟩ := gd_some h17
 refine rg [.pure (sL 14 c_TRoute r2), .pure (.bool r3), .pure (sL 14 c_TRoute r4), .pure (.bool r5), .pure (sL 14 c_TRoute r6), .pure (.bool r7)] [0, 1, 44] 0 ⟨79, [(0, sL 14 c_TRoute a0), (1, .int .i64 a1), (44, .bool (((!r3) || (!r5)) || (!r7)))], []⟩ [guardB (!(!r3)) (decide (0 ≤ a1)), guardB (!(!r3)) (decide (a1 ≤ (a0.length : Int))), guardB (!((!r3) || (!r5))) (decide (0 ≤ a1)), guardB (!((!r3) || (!r5))) (decide (a1 ≤ (a0.length : Int)))] [⟨true, 30, [sL 14 c_TRoute a0], .pure (sL 14 c_TRoute r2)⟩, ⟨true, 21, [sL 14 c_TRoute r2, .int .i64 0], .pure (.bool r3)⟩, ⟨(!(!r3)), 30, [.sl false 14 (a1.toNat - 0) (fun i => c_TRoute (a0.getD (0 + i) default))], .pure (sL 14 c_TRoute r4)⟩, ⟨(!(!r3)), 21, [sL 14 c_TRoute r4, .int .i64 0], .pure (.bool r5)⟩, ⟨(!((!r3) || (!r5))), 30, [.sl false 14 (a0.length - a1.toNat) (fun i => c_TRoute (a0.getD (a1.toNat + i) default))], .pure (sL 14 c_TRoute r6)⟩, ⟨(!((!r3) || (!r5))), 21, [sL 14 c_TRoute r6, .int .i64 0], .pure (.bool r7)⟩] c18 ⟨fun _ => ref15_Merge_ok a0 r2 q6, fun _ => ref15_Table_ok r2 0 r3 q8, fun hg => (ref15_Merge_ok ((a0.drop 0).take (a1.toNat - 0)) r4 (gc_some q10 hg)).args (.cons (asub_sl (len_cut _ _ _ (cut_hi (guardB_some (c18 _ (List.mem_cons_of_mem _ List.mem_cons_self)) hg))) (cut_ext _ _ _ _)) .nil), fun hg => ref15_Table_ok r4 0 r5 (gc_some q12 hg), fun hg => (ref15_Merge_ok ((a0.drop a1.toNat).take (a0.length - a1.toNat)) r6 (gc_some q14 hg)).args (.cons (asub_sl (len_cut _ _ _ (Nat.le_refl _)) (cut_ext _ _ _ _)) .nil), fun hg => ref15_Table_ok r6 0 r7 (gc_some q16 hg), trivial⟩ ?_
 refine then_n ?_
 refine cnd (((!r3) || (!r5)) || (!r7)) (fun b20 => ?_) (fun b20 => ?_)
 have h21 := cond_t b20 h19
 refine awp_seq (rg0 [4] 0 ⟨79, [(4, .bool true)], []⟩ ?_)
 refine then_n (awp_ret (then_r ?_))
 obtain rfl := Option.some.inj h21
 exact er0 (.bool true)
 have h22 := cond_f b20 h19
 refine awp_skip (then_n (awp_seq ?_))
 obtain ⟨r8, q23, h24⟩ := bind_some h22
 refine rg [.pure (sL 14 c_TRoute r8)] [0, 1, 5] 0 ⟨79, [(0, sL 14 c_TRoute a0), (1, .int .i64 a1), (5, sL 14 c_TRoute r8)], []⟩ [] [⟨true, 19, [sL 14 c_TRoute a0], .pure (sL 14 c_TRoute r8)⟩] nil_all ⟨fun _ => route_Merge_ok a0 r8 q23, trivial⟩ ?_
 refine then_n (awp_seq (awp_seq ?_))
 obtain ⟨r9, q25, h26⟩ := bind_some h24
 obtain ⟨r10, q27, h28⟩ := bind_some h26
 obtain ⟨r11, q29, h30⟩ := bind_some h28
 obtain ⟨c31, h32⟩ := gd_some h30
 refine rg [.pure (.bool r9), .pure (sL 14 c_TRoute r10), .pure (.bool r11)] [0, 1, 5, 60] 0 ⟨79, [(0, sL 14 c_TRoute a0), (1, .int .i64 a1), (5, sL 14 c_TRoute r8), (60, .bool ((!r9) || (!r11)))], []⟩ [decide (0 ≤ 0), decide (0 < (a0.length : Int))] [⟨true, 24, [sL 14 c_TRoute r8, .int .i64 ((a0.getD (0 : Int).toNat default).fProto)], .pure (.bool r9)⟩, ⟨(!(!r9)), 19, [sL 14 c_TRoute r8], .pure (sL 14 c_TRoute r10)⟩, ⟨(!(!r9)), 29, [sL 14 c_TRoute r10, sL 14 c_TRoute r8], .pure (.bool r11)⟩] c31 ⟨fun _ => route_Table_ok r8 ((a0.getD (0 : Int).toNat default).fProto) r9 q25, fun hg => route_Merge_ok r8 r10 (gc_some q27 hg), fun hg => route_SameAll_ok r10 r8 r11 (gc_some q29 hg), trivial⟩ ?_
 refine then_n ?_
 refine cnd ((!r9) || (!r11)) (fun b33 => ?_) (fun b33 => ?_)
 have h34 := cond_t b33 h32
 refine awp_seq (rg0 [4] 0 ⟨79, [(4, .bool false)], []⟩ ?_)
 refine then_n (awp_ret (then_r ?_))
 obtain rfl := Option.some.inj h34
 exact er0 (.bool false)
 have h35 := cond_f b33 h32
 refine awp_skip (then_n (awp_seq ?_))
 obtain ⟨r12, q36, h37⟩ := bind_some h35
 obtain ⟨r13, q38, h39⟩ := bind_some h37
 obtain ⟨c40, h41⟩ := gd_some h39
 obtain ⟨r14, q42, h43⟩ := bind_some h41
 refine rgy 11 [5, 10] [.pure (sL 14 c_TRoute r12), .pure (sL 14 c_TRoute r13)] [5, 71] 1 ⟨79, [(5, sL 14 c_TRoute r8), (71, .asl 0 0 ((0 + r12.length) + r13.length))], [.arr 14 ((0 + r12.length) + r13.length) (app (app (fun i => List.take 14 (List.drop (i * 14) [])) 0 (fun i => c_TRoute (r12.getD i default))) (0 + r12.length) (fun i => c_TRoute (r13.getD i default)))]⟩ [decide (0 ≤ a1), decide (a1 ≤ (a0.length : Int)), decide (0 = 0) || decide (0 < r12.length), decide ((0 + r12.length) * 136 ≤ 140737488355328), decide (0 ≤ a1), decide (a1 ≤ (a0.length : Int)), decide (((0 + r12.length) + r13.length) * 136 ≤ 140737488355328)] [⟨true, 19, [.sl false 14 (a1.toNat - 0) (fun i => c_TRoute (a0.getD (0 + i) default))], .pure (sL 14 c_TRoute r12)⟩, ⟨true, 19, [.sl false 14 (a0.length - a1.toNat) (fun i => c_TRoute (a0.getD (a1.toNat + i) default))], .pure (sL 14 c_TRoute r13)⟩] c40 ⟨fun _ => (route_Merge_ok ((a0.drop 0).take (a1.toNat - 0)) r12 q36).args (.cons (asub_sl (len_cut _ _ _ (cut_hi (c40 _ (List.mem_cons_of_mem _ (List.mem_cons_of_mem _ (List.mem_cons_of_mem _ (List.mem_cons_of_mem _ (List.mem_cons_of_mem _ List.mem_cons_self)))))))) (cut_ext _ _ _ _)) .nil), fun _ => (route_Merge_ok ((a0.drop a1.toNat).take (a0.length - a1.toNat)) r13 q38).args (.cons (asub_sl (len_cut _ _ _ (Nat.le_refl _)) (cut_ext _ _ _ _)) .nil), trivial⟩ ⟨79, [(5, sL 14 c_TRoute r8), (71, sL 14 c_TRoute ((r12 : List TRoute) ++ r13))], [aL 14 c_TRoute ([] : List TRoute)]⟩ (Le.trans (s' := ⟨79, [(5, sL 14 c_TRoute r8), (71, .asl 0 0 (((r12 : List TRoute) ++ r13).length))], [aL 14 c_TRoute ((r12 : List TRoute) ++ r13)]⟩) (le_sub (.cons Sub.rfl (.cons (asl_len (len_any (Nat.zero_add _) rfl)) .nil)) (.cons (.arr (len_any (Nat.zero_add _) rfl) (app_any c_TRoute (f := app (fun i => List.take 14 (List.drop (i * 14) [])) 0 (fun i => c_TRoute (r12.getD i default))) (g := fun i => c_TRoute (r13.getD i default)) (Nat.zero_add _) (app_nil c_TRoute _ r12 _ (fun _ _ => rfl)) rfl (fun _ _ => rfl))) .nil)) (Le.trans (le_frz 71 0 14 c_TRoute ((r12 : List TRoute) ++ r13) (fun i => c_TRoute (([] : List TRoute).getD i default)) (by kernel_rfl) (by kernel_rfl) (by kernel_rfl)) (kp [5, 71]))) [.pure (sL 14 c_TRoute r14)] [5, 6] 0 ⟨79, [(5, sL 14 c_TRoute r8), (6, sL 14 c_TRoute r14)], []⟩ [] [⟨true, 19, [sL 14 c_TRoute ((r12 : List TRoute) ++ r13)], .pure (sL 14 c_TRoute r14)⟩] nil_all ⟨fun _ => route_Merge_ok ((r12 : List TRoute) ++ r13) r14 q42, trivial⟩ ?_
 refine then_n (awp_seq ?_)
 obtain ⟨r15, q44, h45⟩ := bind_some h43
 obtain ⟨r16, q46, h47⟩ := bind_some h45
 refine rg [.pure (.bool r15), .pure (.bool r16)] [4] 0 ⟨79, [(4, .bool (r15 && r16))], []⟩ [] [⟨true, 31, [sL 14 c_TRoute r14, sL 14 c_TRoute r8], .pure (.bool r15)⟩, ⟨r15, 15, [], .pure (.bool r16)⟩] nil_all ⟨fun _ => ref15_SameAll_ok r14 r8 r15 q44, fun hg => law14_sane_ok  r16 (gc_some q46 hg), trivial⟩ ?_
 refine then_n (awp_ret ?_)
 obtain rfl := Option.some.inj h47
 exact er0 (.bool (r15 && r16))
end Nv
