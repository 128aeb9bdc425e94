/- The walks: each function computes its mirror. -/
import Derived.Test.YtghjgndlgliieaaProg
import Derived.Test.YtghjgndlgliieaaNvD1
import Derived.Test.YtghjgndlgliieaaNvLibC
import Derived.KernelRfl
import Derived.Test.YtghjgndlgliieaaNvM1a
set_option maxRecDepth 100000
namespace Nv
open Go Go.Proofs
theorem rib_finish_ok (a0 : TRouter) (a1 : TRedist) (a2 : TRoute) (r : (List TRoute) × Bool) (h : M.rib_finish a0 a1 a2 = some r) : FnM Try.prog 50 [.agg (c_TRouter a0), .agg (c_TRedist a1), .eref 0 0 0] 14 ([a2] : List TRoute).length (fun i => c_TRoute (([a2] : List TRoute).getD i default)) (fun i => c_TRoute (r.1.getD i default)) (.bool r.2) := by
 unfold M.rib_finish at h
 refine fn_mut Try.func50 rfl (by kernel_rfl) ?_
 refine awp_seq (rg0 [2, 3, 4] 4 ⟨59, [(2, .eref 0 0 0), (3, .ref 2 0), (4, .ref 3 0)], [aL 14 c_TRoute ([a2] : List TRoute), .gone, .box (c_TRouter a0), .box (c_TRedist a1)]⟩ ?_)
 refine then_n (awp_seq (awp_seq (rg0 [2, 3, 4, 10] 4 ⟨59, [(2, .eref 0 0 0), (3, .ref 2 0), (4, .ref 3 0), (10, .int .i64 a2.fProto)], [aL 14 c_TRoute ([a2] : List TRoute), .gone, .box (c_TRouter a0), .box (c_TRedist a1)]⟩ ?_)))
 refine then_n (awp_block (awp_seq (rg0 [2, 3, 4, 10, 11] 4 ⟨59, [(2, .eref 0 0 0), (3, .ref 2 0), (4, .ref 3 0), (10, .int .i64 a2.fProto), (11, .bool (a2.fProto == 3))], [aL 14 c_TRoute ([a2] : List TRoute), .gone, .box (c_TRouter a0), .box (c_TRedist a1)]⟩ ?_)))
 refine then_n ?_
 refine cnd (a2.fProto == 3) (fun b1 => ?_) (fun b1 => ?_)
 have h2 := cond_t b1 h
 refine awp_seq (rg0 [2, 4] 4 ⟨59, [(2, .eref 0 0 0), (4, .ref 3 0)], [.arr 14 (([a2] : List TRoute).length) (fun j => bif Nat.beq j 0 then splice (c_TRoute (([a2] : List TRoute).getD 0 default)) [.int .i64 4] 3 else c_TRoute (([a2] : List TRoute).getD j default)), .gone, .box (c_TRouter a0), .box (c_TRedist a1)]⟩ ?_)
 refine then_le (s' := ⟨59, [(2, .eref 0 0 0), (4, .ref 3 0)], [aL 14 c_TRoute ([(⟨a2.fPrefix, a2.fProto, 4, a2.fAdmin, a2.fMetric, a2.fInner, a2.fTag, a2.fPref, a2.fPath, a2.fFrom, a2.fNext, a2.fHops, a2.fDiscard⟩ : TRoute)] : List TRoute), .gone, .box (c_TRouter a0), .box (c_TRedist a1)]⟩) (le_sub (.cons Sub.rfl (.cons Sub.rfl .nil)) (.cons (.arr rfl (set_ext c_TRoute ([a2] : List TRoute) 0 (⟨a2.fPrefix, a2.fProto, 4, a2.fAdmin, a2.fMetric, a2.fInner, a2.fTag, a2.fPref, a2.fPath, a2.fFrom, a2.fNext, a2.fHops, a2.fDiscard⟩ : TRoute) _ rfl)) (.cons .rfl (.cons .rfl (.cons .rfl .nil))))) ?_
 refine awp_join (fun (p1 : (List TRoute)) => ⟨59, [], [aL 14 c_TRoute p1, .gone]⟩) (fun p1 => M.rib_finish_k1 a2 p1 = some r) ?_ ?_
 intro p1 h5
 unfold M.rib_finish_k1 at h5
 refine awp_seq (rg0 [6] 2 ⟨59, [(6, .bool true)], [aL 14 c_TRoute p1, .gone]⟩ ?_)
 refine then_n (awp_ret (inb_r (then_r ?_)))
 obtain ⟨c6, h7⟩ := gd_some h5
 obtain rfl := Option.some.inj h7
 exact emr (s' := ⟨59, [(6, .bool true)], [aL 14 c_TRoute p1, .gone]⟩) (le_rfl) (len_ok c6)
 intro k4
 refine awp_seq (rg0 [2, 18] 2 ⟨59, [(2, .eref 0 0 0), (18, .bool (a1.fType == 1))], [aL 14 c_TRoute ([(⟨a2.fPrefix, a2.fProto, 4, a2.fAdmin, a2.fMetric, a2.fInner, a2.fTag, a2.fPref, a2.fPath, a2.fFrom, a2.fNext, a2.fHops, a2.fDiscard⟩ : TRoute)] : List TRoute), .gone]⟩ ?_)
 refine then_n ?_
 refine cnd (a1.fType == 1) (fun b8 => ?_) (fun b8 => ?_)
 have h9 := cond_t b8 h2
 refine rg0 [] 2 ⟨59, [], [.arr 14 (([(⟨a2.fPrefix, a2.fProto, 4, a2.fAdmin, a2.fMetric, a2.fInner, a2.fTag, a2.fPref, a2.fPath, a2.fFrom, a2.fNext, a2.fHops, a2.fDiscard⟩ : TRoute)] : List TRoute).length) (fun j => bif Nat.beq j 0 then splice (c_TRoute (([(⟨a2.fPrefix, a2.fProto, 4, a2.fAdmin, a2.fMetric, a2.fInner, a2.fTag, a2.fPref, a2.fPath, a2.fFrom, a2.fNext, a2.fHops, a2.fDiscard⟩ : TRoute)] : List TRoute).getD 0 default)) [.int .i64 3] 3 else c_TRoute (([(⟨a2.fPrefix, a2.fProto, 4, a2.fAdmin, a2.fMetric, a2.fInner, a2.fTag, a2.fPref, a2.fPath, a2.fFrom, a2.fNext, a2.fHops, a2.fDiscard⟩ : TRoute)] : List TRoute).getD j default)), .gone]⟩ ?_
 exact then_le (le_sub .nil (.cons (.arr rfl (set_ext c_TRoute ([(⟨a2.fPrefix, a2.fProto, 4, a2.fAdmin, a2.fMetric, a2.fInner, a2.fTag, a2.fPref, a2.fPath, a2.fFrom, a2.fNext, a2.fHops, a2.fDiscard⟩ : TRoute)] : List TRoute) 0 (⟨a2.fPrefix, a2.fProto, 3, a2.fAdmin, a2.fMetric, a2.fInner, a2.fTag, a2.fPref, a2.fPath, a2.fFrom, a2.fNext, a2.fHops, a2.fDiscard⟩ : TRoute) _ rfl)) (.cons .rfl .nil))) (k4 ([(⟨a2.fPrefix, a2.fProto, 3, a2.fAdmin, a2.fMetric, a2.fInner, a2.fTag, a2.fPref, a2.fPath, a2.fFrom, a2.fNext, a2.fHops, a2.fDiscard⟩ : TRoute)] : List TRoute) h9)
 have h10 := cond_f b8 h2
 refine awp_skip ?_
 exact then_le (kp []) (k4 ([(⟨a2.fPrefix, a2.fProto, 4, a2.fAdmin, a2.fMetric, a2.fInner, a2.fTag, a2.fPref, a2.fPath, a2.fFrom, a2.fNext, a2.fHops, a2.fDiscard⟩ : TRoute)] : List TRoute) h10)
 have h3 := cond_f b1 h
 refine awp_seq (rg0 [2, 3, 10, 22] 3 ⟨59, [(2, .eref 0 0 0), (3, .ref 2 0), (10, .int .i64 a2.fProto), (22, .bool (a2.fProto == 4))], [aL 14 c_TRoute ([a2] : List TRoute), .gone, .box (c_TRouter a0)]⟩ ?_)
 refine then_n ?_
 refine cnd (a2.fProto == 4) (fun b11 => ?_) (fun b11 => ?_)
 have h12 := cond_t b11 h3
 refine awp_seq (rg0 [2, 3] 3 ⟨59, [(2, .eref 0 0 0), (3, .ref 2 0)], [.arr 14 (([a2] : List TRoute).length) (fun j => bif Nat.beq j 0 then splice (c_TRoute (([a2] : List TRoute).getD 0 default)) [.int .i64 2] 3 else c_TRoute (([a2] : List TRoute).getD j default)), .gone, .box (c_TRouter a0)]⟩ ?_)
 refine then_le (s' := ⟨59, [(2, .eref 0 0 0), (3, .ref 2 0)], [aL 14 c_TRoute ([(⟨a2.fPrefix, a2.fProto, 2, a2.fAdmin, a2.fMetric, a2.fInner, a2.fTag, a2.fPref, a2.fPath, a2.fFrom, a2.fNext, a2.fHops, a2.fDiscard⟩ : TRoute)] : List TRoute), .gone, .box (c_TRouter a0)]⟩) (le_sub (.cons Sub.rfl (.cons Sub.rfl .nil)) (.cons (.arr rfl (set_ext c_TRoute ([a2] : List TRoute) 0 (⟨a2.fPrefix, a2.fProto, 2, a2.fAdmin, a2.fMetric, a2.fInner, a2.fTag, a2.fPref, a2.fPath, a2.fFrom, a2.fNext, a2.fHops, a2.fDiscard⟩ : TRoute) _ rfl)) (.cons .rfl (.cons .rfl .nil)))) ?_
 refine awp_seq (rg0 [2] 2 ⟨59, [(2, .eref 0 0 0)], [.arr 14 (([(⟨a2.fPrefix, a2.fProto, 2, a2.fAdmin, a2.fMetric, a2.fInner, a2.fTag, a2.fPref, a2.fPath, a2.fFrom, a2.fNext, a2.fHops, a2.fDiscard⟩ : TRoute)] : List TRoute).length) (fun j => bif Nat.beq j 0 then splice (c_TRoute (([(⟨a2.fPrefix, a2.fProto, 2, a2.fAdmin, a2.fMetric, a2.fInner, a2.fTag, a2.fPref, a2.fPath, a2.fFrom, a2.fNext, a2.fHops, a2.fDiscard⟩ : TRoute)] : List TRoute).getD 0 default)) [.int .i64 a0.fDV.fAdmin] 4 else c_TRoute (([(⟨a2.fPrefix, a2.fProto, 2, a2.fAdmin, a2.fMetric, a2.fInner, a2.fTag, a2.fPref, a2.fPath, a2.fFrom, a2.fNext, a2.fHops, a2.fDiscard⟩ : TRoute)] : List TRoute).getD j default)), .gone]⟩ ?_)
 refine then_le (s' := ⟨59, [(2, .eref 0 0 0)], [aL 14 c_TRoute ([(⟨a2.fPrefix, a2.fProto, 2, a0.fDV.fAdmin, a2.fMetric, a2.fInner, a2.fTag, a2.fPref, a2.fPath, a2.fFrom, a2.fNext, a2.fHops, a2.fDiscard⟩ : TRoute)] : List TRoute), .gone]⟩) (le_sub (.cons Sub.rfl .nil) (.cons (.arr rfl (set_ext c_TRoute ([(⟨a2.fPrefix, a2.fProto, 2, a2.fAdmin, a2.fMetric, a2.fInner, a2.fTag, a2.fPref, a2.fPath, a2.fFrom, a2.fNext, a2.fHops, a2.fDiscard⟩ : TRoute)] : List TRoute) 0 (⟨a2.fPrefix, a2.fProto, 2, a0.fDV.fAdmin, a2.fMetric, a2.fInner, a2.fTag, a2.fPref, a2.fPath, a2.fFrom, a2.fNext, a2.fHops, a2.fDiscard⟩ : TRoute) _ rfl)) (.cons .rfl .nil))) ?_
 refine awp_seq (rg0 [6] 2 ⟨59, [(6, .bool ((decide (a2.fMetric ≥ 1)) && (decide (a2.fMetric ≤ 15))))], [aL 14 c_TRoute ([(⟨a2.fPrefix, a2.fProto, 2, a0.fDV.fAdmin, a2.fMetric, a2.fInner, a2.fTag, a2.fPref, a2.fPath, a2.fFrom, a2.fNext, a2.fHops, a2.fDiscard⟩ : TRoute)] : List TRoute), .gone]⟩ ?_)
 refine then_n (awp_ret (inb_r (then_r ?_)))
 obtain rfl := Option.some.inj h12
 exact emr (s' := ⟨59, [(6, .bool ((decide (a2.fMetric ≥ 1)) && (decide (a2.fMetric ≤ 15))))], [aL 14 c_TRoute ([(⟨a2.fPrefix, a2.fProto, 2, a0.fDV.fAdmin, a2.fMetric, a2.fInner, a2.fTag, a2.fPref, a2.fPath, a2.fFrom, a2.fNext, a2.fHops, a2.fDiscard⟩ : TRoute)] : List TRoute), .gone]⟩) (le_rfl) rfl
 have h13 := cond_f b11 h3
 refine awp_seq (rg0 [2, 3, 45] 3 ⟨59, [(2, .eref 0 0 0), (3, .ref 2 0), (45, .bool (a2.fProto == 5))], [aL 14 c_TRoute ([a2] : List TRoute), .gone, .box (c_TRouter a0)]⟩ ?_)
 refine then_n ?_
 refine cnd (a2.fProto == 5) (fun b14 => ?_) (fun b14 => ?_)
 have h15 := cond_t b14 h13
 refine awp_seq (rg0 [2, 3] 3 ⟨59, [(2, .eref 0 0 0), (3, .ref 2 0)], [.arr 14 (([a2] : List TRoute).length) (fun j => bif Nat.beq j 0 then splice (c_TRoute (([a2] : List TRoute).getD 0 default)) [.int .i64 1] 3 else c_TRoute (([a2] : List TRoute).getD j default)), .gone, .box (c_TRouter a0)]⟩ ?_)
 refine then_le (s' := ⟨59, [(2, .eref 0 0 0), (3, .ref 2 0)], [aL 14 c_TRoute ([(⟨a2.fPrefix, a2.fProto, 1, a2.fAdmin, a2.fMetric, a2.fInner, a2.fTag, a2.fPref, a2.fPath, a2.fFrom, a2.fNext, a2.fHops, a2.fDiscard⟩ : TRoute)] : List TRoute), .gone, .box (c_TRouter a0)]⟩) (le_sub (.cons Sub.rfl (.cons Sub.rfl .nil)) (.cons (.arr rfl (set_ext c_TRoute ([a2] : List TRoute) 0 (⟨a2.fPrefix, a2.fProto, 1, a2.fAdmin, a2.fMetric, a2.fInner, a2.fTag, a2.fPref, a2.fPath, a2.fFrom, a2.fNext, a2.fHops, a2.fDiscard⟩ : TRoute) _ rfl)) (.cons .rfl (.cons .rfl .nil)))) ?_
 refine awp_seq (rg0 [2] 2 ⟨59, [(2, .eref 0 0 0)], [.arr 14 (([(⟨a2.fPrefix, a2.fProto, 1, a2.fAdmin, a2.fMetric, a2.fInner, a2.fTag, a2.fPref, a2.fPath, a2.fFrom, a2.fNext, a2.fHops, a2.fDiscard⟩ : TRoute)] : List TRoute).length) (fun j => bif Nat.beq j 0 then splice (c_TRoute (([(⟨a2.fPrefix, a2.fProto, 1, a2.fAdmin, a2.fMetric, a2.fInner, a2.fTag, a2.fPref, a2.fPath, a2.fFrom, a2.fNext, a2.fHops, a2.fDiscard⟩ : TRoute)] : List TRoute).getD 0 default)) [.int .i64 a0.fPV.fInternal] 4 else c_TRoute (([(⟨a2.fPrefix, a2.fProto, 1, a2.fAdmin, a2.fMetric, a2.fInner, a2.fTag, a2.fPref, a2.fPath, a2.fFrom, a2.fNext, a2.fHops, a2.fDiscard⟩ : TRoute)] : List TRoute).getD j default)), .gone]⟩ ?_)
 refine then_le (s' := ⟨59, [(2, .eref 0 0 0)], [aL 14 c_TRoute ([(⟨a2.fPrefix, a2.fProto, 1, a0.fPV.fInternal, a2.fMetric, a2.fInner, a2.fTag, a2.fPref, a2.fPath, a2.fFrom, a2.fNext, a2.fHops, a2.fDiscard⟩ : TRoute)] : List TRoute), .gone]⟩) (le_sub (.cons Sub.rfl .nil) (.cons (.arr rfl (set_ext c_TRoute ([(⟨a2.fPrefix, a2.fProto, 1, a2.fAdmin, a2.fMetric, a2.fInner, a2.fTag, a2.fPref, a2.fPath, a2.fFrom, a2.fNext, a2.fHops, a2.fDiscard⟩ : TRoute)] : List TRoute) 0 (⟨a2.fPrefix, a2.fProto, 1, a0.fPV.fInternal, a2.fMetric, a2.fInner, a2.fTag, a2.fPref, a2.fPath, a2.fFrom, a2.fNext, a2.fHops, a2.fDiscard⟩ : TRoute) _ rfl)) (.cons .rfl .nil))) ?_
 refine awp_seq (rg0 [] 2 ⟨59, [], [.arr 14 (([(⟨a2.fPrefix, a2.fProto, 1, a0.fPV.fInternal, a2.fMetric, a2.fInner, a2.fTag, a2.fPref, a2.fPath, a2.fFrom, a2.fNext, a2.fHops, a2.fDiscard⟩ : TRoute)] : List TRoute).length) (fun j => bif Nat.beq j 0 then splice (c_TRoute (([(⟨a2.fPrefix, a2.fProto, 1, a0.fPV.fInternal, a2.fMetric, a2.fInner, a2.fTag, a2.fPref, a2.fPath, a2.fFrom, a2.fNext, a2.fHops, a2.fDiscard⟩ : TRoute)] : List TRoute).getD 0 default)) [.int .i64 100] 8 else c_TRoute (([(⟨a2.fPrefix, a2.fProto, 1, a0.fPV.fInternal, a2.fMetric, a2.fInner, a2.fTag, a2.fPref, a2.fPath, a2.fFrom, a2.fNext, a2.fHops, a2.fDiscard⟩ : TRoute)] : List TRoute).getD j default)), .gone]⟩ ?_)
 refine then_le (s' := ⟨59, [], [aL 14 c_TRoute ([(⟨a2.fPrefix, a2.fProto, 1, a0.fPV.fInternal, a2.fMetric, a2.fInner, a2.fTag, 100, a2.fPath, a2.fFrom, a2.fNext, a2.fHops, a2.fDiscard⟩ : TRoute)] : List TRoute), .gone]⟩) (le_sub .nil (.cons (.arr rfl (set_ext c_TRoute ([(⟨a2.fPrefix, a2.fProto, 1, a0.fPV.fInternal, a2.fMetric, a2.fInner, a2.fTag, a2.fPref, a2.fPath, a2.fFrom, a2.fNext, a2.fHops, a2.fDiscard⟩ : TRoute)] : List TRoute) 0 (⟨a2.fPrefix, a2.fProto, 1, a0.fPV.fInternal, a2.fMetric, a2.fInner, a2.fTag, 100, a2.fPath, a2.fFrom, a2.fNext, a2.fHops, a2.fDiscard⟩ : TRoute) _ rfl)) (.cons .rfl .nil))) ?_
 refine awp_seq (rg0 [6] 2 ⟨59, [(6, .bool true)], [aL 14 c_TRoute ([(⟨a2.fPrefix, a2.fProto, 1, a0.fPV.fInternal, a2.fMetric, a2.fInner, a2.fTag, 100, a2.fPath, a2.fFrom, a2.fNext, a2.fHops, a2.fDiscard⟩ : TRoute)] : List TRoute), .gone]⟩ ?_)
 refine then_n (awp_ret (inb_r (then_r ?_)))
 obtain rfl := Option.some.inj h15
 exact emr (s' := ⟨59, [(6, .bool true)], [aL 14 c_TRoute ([(⟨a2.fPrefix, a2.fProto, 1, a0.fPV.fInternal, a2.fMetric, a2.fInner, a2.fTag, 100, a2.fPath, a2.fFrom, a2.fNext, a2.fHops, a2.fDiscard⟩ : TRoute)] : List TRoute), .gone]⟩) (le_rfl) rfl
 have h16 := cond_f b14 h13
 refine awp_skip (inb_n (then_n (awp_seq (rg0 [6] 2 ⟨59, [(6, .bool false)], [aL 14 c_TRoute ([a2] : List TRoute), .gone]⟩ ?_))))
 refine then_n (awp_ret ?_)
 obtain rfl := Option.some.inj h16
 exact emr (s' := ⟨59, [(6, .bool false)], [aL 14 c_TRoute ([a2] : List TRoute), .gone]⟩) (le_rfl) rfl
theorem rib_Redistribute_ok (a0 : TRouter) (a1 : List TRedist) (a2 : List TRoute) (a3 : Int) (r : (List TRoute)) (h : M.rib_Redistribute a0 a1 a2 a3 = some r) : Fn Try.prog 23 [.agg (c_TRouter a0), sL 5 c_TRedist a1, sL 14 c_TRoute a2, .int .i64 a3] (.pure (sL 14 c_TRoute r)) := by
 unfold M.rib_Redistribute at h
 refine fn_pure Try.func23 rfl (by kernel_rfl) ?_
 refine awp_seq (rg0 [1, 2, 3, 4] 1 ⟨81, [(1, sL 5 c_TRedist a1), (2, sL 14 c_TRoute a2), (3, .int .i64 a3), (4, .ref 0 0)], [.box (c_TRouter a0)]⟩ ?_)
 refine then_n (awp_seq (rg0 [1, 2, 3, 4, 9] 1 ⟨81, [(1, sL 5 c_TRedist a1), (2, sL 14 c_TRoute a2), (3, .int .i64 a3), (4, .ref 0 0), (9, .sl true 14 0 (fun _ => []))], [.box (c_TRouter a0)]⟩ ?_))
 refine then_n (awp_seq (awp_seq (rg0 [1, 3, 4, 9, 19, 20, 21] 1 ⟨81, [(1, sL 5 c_TRedist a1), (3, .int .i64 a3), (4, .ref 0 0), (9, .sl true 14 0 (fun _ => [])), (19, sL 14 c_TRoute a2), (20, .int .i64 (a2.length : Int)), (21, .int .i64 0)], [.box (c_TRouter a0)]⟩ ?_)))
 refine then_n (awp_block ?_)
 refine awp_le (s' := ⟨81, [(1, sL 5 c_TRedist a1), (3, .int .i64 a3), (4, .ref 0 0), (9, .sl true 14 0 (fun _ => [])), (19, sL 14 c_TRoute a2), (20, .int .i64 (a2.length : Int)), (21, .int .i64 0)], [.box (c_TRouter a0)]⟩) (le_rfl) ?_
 refine awp_le (s' := ⟨81, [(1, sL 5 c_TRedist a1), (3, .int .i64 a3), (4, .ref 0 0), (9, .asl 1 0 (([] : List TRoute).length)), (19, sL 14 c_TRoute a2), (20, .int .i64 (a2.length : Int)), (21, .int .i64 0)], [.box (c_TRouter a0), aL 14 c_TRoute ([] : List TRoute)]⟩) (Le.trans (s' := ⟨81, (9, .asl 1 0 0) :: [(1, sL 5 c_TRedist a1), (3, .int .i64 a3), (4, .ref 0 0), (9, .sl true 14 0 (fun _ => [])), (19, sL 14 c_TRoute a2), (20, .int .i64 (a2.length : Int)), (21, .int .i64 0)], [.box (c_TRouter a0)] ++ [.arr 14 0 (fun i => c_TRoute (([] : List TRoute).getD i default))]⟩) (le_thaw (wd := 14) (f := fun _ => []) 9 (by kernel_rfl) _ _) (kp [1, 3, 4, 9, 19, 20, 21])) ?_
 obtain ⟨y9, q45, h46⟩ := bind_some h
 refine awp_le (s' := ⟨81, [(1, sL 5 c_TRedist a1), (3, .int .i64 a3), (4, .ref 0 0), (9, .asl 1 0 (([] : List TRoute).length)), (19, sL 14 c_TRoute a2), (20, .int .i64 (a2.length : Int)), (21, .int .i64 0)], [.box (c_TRouter a0), aL 14 c_TRoute ([] : List TRoute)]⟩) (le_rfl) ?_
 refine awp_mono (awp_loop (f := M.rib_Redistribute_l1 a0 a1 a2 a3) (S := fun (p1 : (List TRoute) × Int) => ⟨81, [(1, sL 5 c_TRedist a1), (3, .int .i64 a3), (4, .ref 0 0), (9, .asl 1 0 p1.1.length), (19, sL 14 c_TRoute a2), (20, .int .i64 (a2.length : Int)), (21, .int .i64 p1.2)], [.box (c_TRouter a0), aL 14 c_TRoute p1.1]⟩) (O := (fun z => OutE 0 (fun z => ⟨81, [(9, .asl 1 0 z.length)], [.box (c_TRouter a0), aL 14 c_TRoute z]⟩) z)) ?_ (x := (([] : List TRoute), 0)) (y := y9) (loopM_iter q45)) ?_
 intro p1 y2 h1
 unfold M.rib_Redistribute_l1 at h1
 refine awp_seq (rg0 [1, 3, 4, 9, 19, 20, 21, 22] 2 ⟨81, [(1, sL 5 c_TRedist a1), (3, .int .i64 a3), (4, .ref 0 0), (9, .asl 1 0 p1.1.length), (19, sL 14 c_TRoute a2), (20, .int .i64 (a2.length : Int)), (21, .int .i64 p1.2), (22, .bool (decide (p1.2 < (a2.length : Int))))], [.box (c_TRouter a0), aL 14 c_TRoute p1.1]⟩ ?_)
 refine then_n (awp_seq ?_)
 refine cnd (decide (p1.2 < (a2.length : Int))) (fun b2 => ?_) (fun b2 => ?_)
 have h3 := cond_t b2 h1
 refine awp_skip (then_n ?_)
 refine awp_join (fun (p3 : (List TRoute)) => ⟨81, [(1, sL 5 c_TRedist a1), (3, .int .i64 a3), (4, .ref 0 0), (9, .asl 1 0 p3.length), (19, sL 14 c_TRoute a2), (20, .int .i64 (a2.length : Int)), (21, .int .i64 p1.2)], [.box (c_TRouter a0), aL 14 c_TRoute p3]⟩) (fun p3 => M.rib_Redistribute_k1 p1 p3 = some y2) ?_ ?_
 intro p3 h6
 unfold M.rib_Redistribute_k1 at h6
 refine rg0 [1, 3, 4, 9, 19, 20, 21] 2 ⟨81, [(1, sL 5 c_TRedist a1), (3, .int .i64 a3), (4, .ref 0 0), (9, .asl 1 0 p3.length), (19, sL 14 c_TRoute a2), (20, .int .i64 (a2.length : Int)), (21, .int .i64 (wr .i64 (p1.2 + 1)))], [.box (c_TRouter a0), aL 14 c_TRoute p3]⟩ ?_
 obtain rfl := Option.some.inj h6
 exact round_n (le_rfl)
 intro k5
 refine awp_block (awp_seq ?_)
 obtain ⟨c7, h8⟩ := gd_some h3
 refine rgc [1, 3, 4, 9, 11, 19, 20, 21] 3 ⟨81, [(1, sL 5 c_TRedist a1), (3, .int .i64 a3), (4, .ref 0 0), (9, .asl 1 0 p1.1.length), (11, .ref 2 0), (19, sL 14 c_TRoute a2), (20, .int .i64 (a2.length : Int)), (21, .int .i64 p1.2)], [.box (c_TRouter a0), aL 14 c_TRoute p1.1, .box (c_TRoute (a2.getD p1.2.toNat default))]⟩ [decide (0 ≤ p1.2), decide (p1.2 < (a2.length : Int))] c7 ?_
 refine then_n (awp_seq (rg0 [1, 3, 4, 9, 11, 12, 19, 20, 21] 3 ⟨81, [(1, sL 5 c_TRedist a1), (3, .int .i64 a3), (4, .ref 0 0), (9, .asl 1 0 p1.1.length), (11, .ref 2 0), (12, .int .i64 (-1)), (19, sL 14 c_TRoute a2), (20, .int .i64 (a2.length : Int)), (21, .int .i64 p1.2)], [.box (c_TRouter a0), aL 14 c_TRoute p1.1, .box (c_TRoute (a2.getD p1.2.toNat default))]⟩ ?_))
 refine then_n (awp_seq (awp_seq (rg0 [1, 3, 4, 9, 11, 12, 19, 20, 21, 25, 26, 27] 3 ⟨81, [(1, sL 5 c_TRedist a1), (3, .int .i64 a3), (4, .ref 0 0), (9, .asl 1 0 p1.1.length), (11, .ref 2 0), (12, .int .i64 (-1)), (19, sL 14 c_TRoute a2), (20, .int .i64 (a2.length : Int)), (21, .int .i64 p1.2), (25, sL 5 c_TRedist a1), (26, .int .i64 (a1.length : Int)), (27, .int .i64 0)], [.box (c_TRouter a0), aL 14 c_TRoute p1.1, .box (c_TRoute (a2.getD p1.2.toNat default))]⟩ ?_)))
 refine then_n (awp_block ?_)
 obtain ⟨y6, q18, h19⟩ := bind_some h8
 refine awp_le (s' := ⟨81, [(1, sL 5 c_TRedist a1), (3, .int .i64 a3), (4, .ref 0 0), (9, .asl 1 0 p1.1.length), (11, .ref 2 0), (12, .int .i64 (-1)), (19, sL 14 c_TRoute a2), (20, .int .i64 (a2.length : Int)), (21, .int .i64 p1.2), (25, sL 5 c_TRedist a1), (26, .int .i64 (a1.length : Int)), (27, .int .i64 0)], [.box (c_TRouter a0), aL 14 c_TRoute p1.1, .box (c_TRoute (a2.getD p1.2.toNat default))]⟩) (le_rfl) ?_
 refine awp_mono (awp_loop (f := M.rib_Redistribute_l2 a1 a2 p1) (S := fun (p4 : Int × Int) => ⟨81, [(1, sL 5 c_TRedist a1), (3, .int .i64 a3), (4, .ref 0 0), (9, .asl 1 0 p1.1.length), (11, .ref 2 0), (12, .int .i64 p4.1), (19, sL 14 c_TRoute a2), (20, .int .i64 (a2.length : Int)), (21, .int .i64 p1.2), (25, sL 5 c_TRedist a1), (26, .int .i64 (a1.length : Int)), (27, .int .i64 p4.2)], [.box (c_TRouter a0), aL 14 c_TRoute p1.1, .box (c_TRoute (a2.getD p1.2.toNat default))]⟩) (O := (fun z => OutE 2 (fun z => ⟨81, [(1, sL 5 c_TRedist a1), (3, .int .i64 a3), (4, .ref 0 0), (9, .asl 1 0 p1.1.length), (11, .ref 2 0), (12, .int .i64 z), (19, sL 14 c_TRoute a2), (20, .int .i64 (a2.length : Int)), (21, .int .i64 p1.2)], [.box (c_TRouter a0), aL 14 c_TRoute p1.1, .box (c_TRoute (a2.getD p1.2.toNat default))]⟩) z)) ?_ (x := ((-1), 0)) (y := y6) (loopM_iter q18)) ?_
 intro p4 y5 h9
 unfold M.rib_Redistribute_l2 at h9
 refine awp_seq (rg0 [1, 3, 4, 9, 11, 12, 19, 20, 21, 25, 26, 27, 28] 3 ⟨81, [(1, sL 5 c_TRedist a1), (3, .int .i64 a3), (4, .ref 0 0), (9, .asl 1 0 p1.1.length), (11, .ref 2 0), (12, .int .i64 p4.1), (19, sL 14 c_TRoute a2), (20, .int .i64 (a2.length : Int)), (21, .int .i64 p1.2), (25, sL 5 c_TRedist a1), (26, .int .i64 (a1.length : Int)), (27, .int .i64 p4.2), (28, .bool (decide (p4.2 < (a1.length : Int))))], [.box (c_TRouter a0), aL 14 c_TRoute p1.1, .box (c_TRoute (a2.getD p1.2.toNat default))]⟩ ?_)
 refine then_n (awp_seq ?_)
 refine cnd (decide (p4.2 < (a1.length : Int))) (fun b10 => ?_) (fun b10 => ?_)
 have h11 := cond_t b10 h9
 refine awp_skip (then_n (awp_seq (awp_block (awp_seq ?_))))
 obtain ⟨c13, h14⟩ := gd_some h11
 refine rgc [1, 3, 4, 9, 11, 12, 13, 14, 19, 20, 21, 25, 26, 27] 4 ⟨81, [(1, sL 5 c_TRedist a1), (3, .int .i64 a3), (4, .ref 0 0), (9, .asl 1 0 p1.1.length), (11, .ref 2 0), (12, .int .i64 p4.1), (13, .int .i64 p4.2), (14, .ref 3 0), (19, sL 14 c_TRoute a2), (20, .int .i64 (a2.length : Int)), (21, .int .i64 p1.2), (25, sL 5 c_TRedist a1), (26, .int .i64 (a1.length : Int)), (27, .int .i64 p4.2)], [.box (c_TRouter a0), aL 14 c_TRoute p1.1, .box (c_TRoute (a2.getD p1.2.toNat default)), .box (c_TRedist (a1.getD p4.2.toNat default))]⟩ [decide (0 ≤ p4.2), decide (p4.2 < (a1.length : Int))] c13 ?_
 refine then_n (awp_seq (rg0 [1, 3, 4, 9, 11, 12, 13, 19, 20, 21, 25, 26, 27, 36] 3 ⟨81, [(1, sL 5 c_TRedist a1), (3, .int .i64 a3), (4, .ref 0 0), (9, .asl 1 0 p1.1.length), (11, .ref 2 0), (12, .int .i64 p4.1), (13, .int .i64 p4.2), (19, sL 14 c_TRoute a2), (20, .int .i64 (a2.length : Int)), (21, .int .i64 p1.2), (25, sL 5 c_TRedist a1), (26, .int .i64 (a1.length : Int)), (27, .int .i64 p4.2), (36, .bool (((a1.getD p4.2.toNat default).fFrom) == ((a2.getD p1.2.toNat default).fProto)))], [.box (c_TRouter a0), aL 14 c_TRoute p1.1, .box (c_TRoute (a2.getD p1.2.toNat default))]⟩ ?_))
 refine then_n ?_
 refine cnd (((a1.getD p4.2.toNat default).fFrom) == ((a2.getD p1.2.toNat default).fProto)) (fun b15 => ?_) (fun b15 => ?_)
 have h16 := cond_t b15 h14
 refine awp_seq (rg0 [1, 3, 4, 9, 11, 12, 19, 20, 21] 3 ⟨81, [(1, sL 5 c_TRedist a1), (3, .int .i64 a3), (4, .ref 0 0), (9, .asl 1 0 p1.1.length), (11, .ref 2 0), (12, .int .i64 p4.2), (19, sL 14 c_TRoute a2), (20, .int .i64 (a2.length : Int)), (21, .int .i64 p1.2)], [.box (c_TRouter a0), aL 14 c_TRoute p1.1, .box (c_TRoute (a2.getD p1.2.toNat default))]⟩ ?_)
 refine then_n (awp_exit ?_)
 refine inb_other (by kernel_rfl) ?_
 refine then_e ?_
 obtain rfl := Option.some.inj h16
 exact round_e ⟨rfl, le_rfl⟩
 have h17 := cond_f b15 h14
 refine awp_skip (inb_n (then_n (rg0 [1, 3, 4, 9, 11, 12, 19, 20, 21, 25, 26, 27] 3 ⟨81, [(1, sL 5 c_TRedist a1), (3, .int .i64 a3), (4, .ref 0 0), (9, .asl 1 0 p1.1.length), (11, .ref 2 0), (12, .int .i64 p4.1), (19, sL 14 c_TRoute a2), (20, .int .i64 (a2.length : Int)), (21, .int .i64 p1.2), (25, sL 5 c_TRedist a1), (26, .int .i64 (a1.length : Int)), (27, .int .i64 (wr .i64 (p4.2 + 1)))], [.box (c_TRouter a0), aL 14 c_TRoute p1.1, .box (c_TRoute (a2.getD p1.2.toNat default))]⟩ ?_)))
 obtain rfl := Option.some.inj h17
 exact round_n (le_rfl)
 have h12 := cond_f b10 h9
 refine awp_exit (then_e ?_)
 obtain rfl := Option.some.inj h12
 exact round_e ⟨rfl, kp [1, 3, 4, 9, 11, 12, 19, 20, 21]⟩
 intro e20 s21 o22
 obtain ⟨rfl, l23⟩ := o22
 refine inb_here ?_
 refine then_le (s' := ⟨81, [(1, sL 5 c_TRedist a1), (3, .int .i64 a3), (4, .ref 0 0), (9, .asl 1 0 p1.1.length), (11, .ref 2 0), (12, .int .i64 y6), (19, sL 14 c_TRoute a2), (20, .int .i64 (a2.length : Int)), (21, .int .i64 p1.2)], [.box (c_TRouter a0), aL 14 c_TRoute p1.1, .box (c_TRoute (a2.getD p1.2.toNat default))]⟩) (l23) ?_
 refine awp_seq (awp_seq (rg0 [1, 3, 4, 9, 11, 12, 19, 20, 21, 49] 3 ⟨81, [(1, sL 5 c_TRedist a1), (3, .int .i64 a3), (4, .ref 0 0), (9, .asl 1 0 p1.1.length), (11, .ref 2 0), (12, .int .i64 y6), (19, sL 14 c_TRoute a2), (20, .int .i64 (a2.length : Int)), (21, .int .i64 p1.2), (49, .bool ((decide (y6 < 0)) || (((a2.getD p1.2.toNat default).fDiscard) && (((a2.getD p1.2.toNat default).fProto) != 2))))], [.box (c_TRouter a0), aL 14 c_TRoute p1.1, .box (c_TRoute (a2.getD p1.2.toNat default))]⟩ ?_))
 refine then_n ?_
 refine cnd ((decide (y6 < 0)) || (((a2.getD p1.2.toNat default).fDiscard) && (((a2.getD p1.2.toNat default).fProto) != 2))) (fun b24 => ?_) (fun b24 => ?_)
 have h25 := cond_t b24 h19
 refine awp_exit (then_e (inb_here ?_))
 exact then_le (Le.trans (s' := ⟨81, [(1, sL 5 c_TRedist a1), (3, .int .i64 a3), (4, .ref 0 0), (9, .asl 1 0 p1.1.length), (19, sL 14 c_TRoute a2), (20, .int .i64 (a2.length : Int)), (21, .int .i64 p1.2)], [.box (c_TRouter a0), aL 14 c_TRoute p1.1, .box (c_TRoute (a2.getD p1.2.toNat default))]⟩) (kp [1, 3, 4, 9, 19, 20, 21]) (le_cut (n := 2) (by kernel_rfl))) (k5 p1.1 h25)
 have h26 := cond_f b24 h19
 refine awp_skip (then_n (awp_seq ?_))
 obtain ⟨r7, q27, h28⟩ := bind_some h26
 obtain ⟨c29, h30⟩ := gd_some h28
 refine rg [.pure (.tup [.int .i64 r7.1, .int .i64 r7.2.1, .bool r7.2.2])] [1, 3, 4, 9, 11, 12, 15, 16, 17, 19, 20, 21] 3 ⟨81, [(1, sL 5 c_TRedist a1), (3, .int .i64 a3), (4, .ref 0 0), (9, .asl 1 0 p1.1.length), (11, .ref 2 0), (12, .int .i64 y6), (15, .int .i64 r7.1), (16, .int .i64 r7.2.1), (17, .bool r7.2.2), (19, sL 14 c_TRoute a2), (20, .int .i64 (a2.length : Int)), (21, .int .i64 p1.2)], [.box (c_TRouter a0), aL 14 c_TRoute p1.1, .box (c_TRoute (a2.getD p1.2.toNat default))]⟩ [decide (0 ≤ y6), decide (y6 < (a1.length : Int))] [⟨true, 49, [.agg (c_TRouter a0), .agg (c_TRedist (a1.getD y6.toNat default)), .agg (c_TRoute (a2.getD p1.2.toNat default))], .pure (.tup [.int .i64 r7.1, .int .i64 r7.2.1, .bool r7.2.2])⟩] c29 ⟨fun _ => rib_values_ok a0 (a1.getD y6.toNat default) (a2.getD p1.2.toNat default) r7 q27, trivial⟩ ?_
 refine then_n (awp_seq (awp_seq (rg0 [1, 3, 4, 9, 11, 12, 15, 16, 19, 20, 21, 62] 3 ⟨81, [(1, sL 5 c_TRedist a1), (3, .int .i64 a3), (4, .ref 0 0), (9, .asl 1 0 p1.1.length), (11, .ref 2 0), (12, .int .i64 y6), (15, .int .i64 r7.1), (16, .int .i64 r7.2.1), (19, sL 14 c_TRoute a2), (20, .int .i64 (a2.length : Int)), (21, .int .i64 p1.2), (62, .bool (!r7.2.2))], [.box (c_TRouter a0), aL 14 c_TRoute p1.1, .box (c_TRoute (a2.getD p1.2.toNat default))]⟩ ?_)))
 refine then_n ?_
 refine cnd (!r7.2.2) (fun b31 => ?_) (fun b31 => ?_)
 have h32 := cond_t b31 h30
 refine awp_exit (then_e (inb_here ?_))
 exact then_le (Le.trans (s' := ⟨81, [(1, sL 5 c_TRedist a1), (3, .int .i64 a3), (4, .ref 0 0), (9, .asl 1 0 p1.1.length), (19, sL 14 c_TRoute a2), (20, .int .i64 (a2.length : Int)), (21, .int .i64 p1.2)], [.box (c_TRouter a0), aL 14 c_TRoute p1.1, .box (c_TRoute (a2.getD p1.2.toNat default))]⟩) (kp [1, 3, 4, 9, 19, 20, 21]) (le_cut (n := 2) (by kernel_rfl))) (k5 p1.1 h32)
 have h33 := cond_f b31 h30
 refine awp_skip (then_n (awp_seq (rg0 [1, 3, 4, 9, 12, 18, 19, 20, 21] 4 ⟨81, [(1, sL 5 c_TRedist a1), (3, .int .i64 a3), (4, .ref 0 0), (9, .asl 1 0 p1.1.length), (12, .int .i64 y6), (18, .ref 3 0), (19, sL 14 c_TRoute a2), (20, .int .i64 (a2.length : Int)), (21, .int .i64 p1.2)], [.box (c_TRouter a0), aL 14 c_TRoute p1.1, .box (c_TRoute (a2.getD p1.2.toNat default)), .box [.int .u32 (((a2.getD p1.2.toNat default).fPrefix).fAddr), .int .i64 (((a2.getD p1.2.toNat default).fPrefix).fLen), .int .i64 a3, .int .i64 0, .int .i64 0, .int .i64 r7.1, .int .i64 0, .int .i64 r7.2.1, .int .i64 0, .sl true 1 0 (fun _ => []), .int .u32 0, .int .u32 0, .sl true 2 0 (fun _ => []), .bool false]]⟩ ?_)))
 refine then_n (awp_seq ?_)
 refine awp_le (s' := ⟨81, [(1, sL 5 c_TRedist a1), (3, .int .i64 a3), (4, .ref 0 0), (9, .asl 1 0 p1.1.length), (12, .int .i64 y6), (18, .eref 3 0 0), (19, sL 14 c_TRoute a2), (20, .int .i64 (a2.length : Int)), (21, .int .i64 p1.2)], [.box (c_TRouter a0), aL 14 c_TRoute p1.1, .box (c_TRoute (a2.getD p1.2.toNat default)), aL 14 c_TRoute ([(⟨(a2.getD p1.2.toNat default).fPrefix, a3, 0, 0, r7.1, 0, r7.2.1, 0, ([] : List Int), 0, 0, ([] : List THop), false⟩ : TRoute)] : List TRoute)]⟩) (Le.trans (s' := ⟨81, [(1, sL 5 c_TRedist a1), (3, .int .i64 a3), (4, .ref 0 0), (9, .asl 1 0 p1.1.length), (12, .int .i64 y6), (18, .ref 3 0), (19, sL 14 c_TRoute a2), (20, .int .i64 (a2.length : Int)), (21, .int .i64 p1.2)], [.box (c_TRouter a0), aL 14 c_TRoute p1.1, .box (c_TRoute (a2.getD p1.2.toNat default)), .box [.int .u32 (((a2.getD p1.2.toNat default).fPrefix).fAddr), .int .i64 (((a2.getD p1.2.toNat default).fPrefix).fLen), .int .i64 a3, .int .i64 0, .int .i64 0, .int .i64 r7.1, .int .i64 0, .int .i64 r7.2.1, .int .i64 0, sL 1 (ci .i64) ([] : List Int), .int .u32 0, .int .u32 0, sL 2 c_THop ([] : List THop), .bool false]]⟩) (le_sub (.cons Sub.rfl (.cons Sub.rfl (.cons Sub.rfl (.cons Sub.rfl (.cons Sub.rfl (.cons Sub.rfl (.cons Sub.rfl (.cons Sub.rfl (.cons Sub.rfl .nil))))))))) (.cons .rfl (.cons .rfl (.cons .rfl (.cons (.box (.cons CSub.rfl (.cons CSub.rfl (.cons CSub.rfl (.cons CSub.rfl (.cons CSub.rfl (.cons CSub.rfl (.cons CSub.rfl (.cons CSub.rfl (.cons CSub.rfl (.cons csub_nil (.cons CSub.rfl (.cons CSub.rfl (.cons csub_nil (.cons CSub.rfl .nil))))))))))))))) .nil))))) (Le.trans (s' := ⟨81, [(1, sL 5 c_TRedist a1), (3, .int .i64 a3), (4, .ref 0 0), (9, .asl 1 0 p1.1.length), (12, .int .i64 y6), (18, .eref 3 0 0), (19, sL 14 c_TRoute a2), (20, .int .i64 (a2.length : Int)), (21, .int .i64 p1.2)], [.box (c_TRouter a0), aL 14 c_TRoute p1.1, .box (c_TRoute (a2.getD p1.2.toNat default)), .arr 14 1 (fun _ => [.int .u32 (((a2.getD p1.2.toNat default).fPrefix).fAddr), .int .i64 (((a2.getD p1.2.toNat default).fPrefix).fLen), .int .i64 a3, .int .i64 0, .int .i64 0, .int .i64 r7.1, .int .i64 0, .int .i64 r7.2.1, .int .i64 0, sL 1 (ci .i64) ([] : List Int), .int .u32 0, .int .u32 0, sL 2 c_THop ([] : List THop), .bool false])]⟩) (Le.trans (le_ptr 18 3 [.int .u32 (((a2.getD p1.2.toNat default).fPrefix).fAddr), .int .i64 (((a2.getD p1.2.toNat default).fPrefix).fLen), .int .i64 a3, .int .i64 0, .int .i64 0, .int .i64 r7.1, .int .i64 0, .int .i64 r7.2.1, .int .i64 0, sL 1 (ci .i64) ([] : List Int), .int .u32 0, .int .u32 0, sL 2 c_THop ([] : List THop), .bool false] (by kernel_rfl) (by kernel_rfl) (by kernel_rfl) (by kernel_rfl)) (kp [1, 3, 4, 9, 12, 18, 19, 20, 21])) (le_sub (.cons Sub.rfl (.cons Sub.rfl (.cons Sub.rfl (.cons Sub.rfl (.cons Sub.rfl (.cons Sub.rfl (.cons Sub.rfl (.cons Sub.rfl (.cons Sub.rfl .nil))))))))) (.cons .rfl (.cons .rfl (.cons .rfl (.cons (.arr rfl (one_ext c_TRoute (x := (⟨(a2.getD p1.2.toNat default).fPrefix, a3, 0, 0, r7.1, 0, r7.2.1, 0, ([] : List Int), 0, 0, ([] : List THop), false⟩ : TRoute)) rfl)) .nil))))))) ?_
 obtain ⟨c34, h35⟩ := gd_some h33
 obtain ⟨r8, q36, h37⟩ := bind_some h35
 obtain ⟨c38, h39⟩ := gd_some h37
 refine rgl 5 [] [1, 3, 4, 9, 18, 19, 20, 21, 69, 73] 4 ⟨81, [(1, sL 5 c_TRedist a1), (3, .int .i64 a3), (4, .ref 0 0), (9, .asl 1 0 p1.1.length), (18, .eref 3 0 0), (19, sL 14 c_TRoute a2), (20, .int .i64 (a2.length : Int)), (21, .int .i64 p1.2), (69, .agg (c_TRouter a0)), (73, .agg (c_TRedist (a1.getD y6.toNat default)))], [.box (c_TRouter a0), aL 14 c_TRoute p1.1, .box (c_TRoute (a2.getD p1.2.toNat default)), aL 14 c_TRoute ([(⟨(a2.getD p1.2.toNat default).fPrefix, a3, 0, 0, r7.1, 0, r7.2.1, 0, ([] : List Int), 0, 0, ([] : List THop), false⟩ : TRoute)] : List TRoute)]⟩ [decide (0 ≤ y6), decide (y6 < (a1.length : Int))] [] c34 trivial [.tmp 69, .tmp 73] (.tmp 18) [.lnd 0 0 (fun _ => []) (fun i => c_TRoute (r8.1.getD i default)) (.bool r8.2)] [1, 3, 4, 9, 18, 19, 20, 21, 74] 4 ⟨81, [(1, sL 5 c_TRedist a1), (3, .int .i64 a3), (4, .ref 0 0), (9, .asl 1 0 p1.1.length), (18, .eref 3 0 0), (19, sL 14 c_TRoute a2), (20, .int .i64 (a2.length : Int)), (21, .int .i64 p1.2), (74, .bool r8.2)], [.box (c_TRouter a0), aL 14 c_TRoute p1.1, .box (c_TRoute (a2.getD p1.2.toNat default)), .arr 14 (([(⟨(a2.getD p1.2.toNat default).fPrefix, a3, 0, 0, r7.1, 0, r7.2.1, 0, ([] : List Int), 0, 0, ([] : List THop), false⟩ : TRoute)] : List TRoute).length) (fun i => c_TRoute (r8.1.getD i default))]⟩ [⟨true, 50, [.agg (c_TRouter a0), .agg (c_TRedist (a1.getD y6.toNat default)), .eref 0 0 0], .lnd 14 (([(⟨(a2.getD p1.2.toNat default).fPrefix, a3, 0, 0, r7.1, 0, r7.2.1, 0, ([] : List Int), 0, 0, ([] : List THop), false⟩ : TRoute)] : List TRoute).length) (fun i => c_TRoute (([(⟨(a2.getD p1.2.toNat default).fPrefix, a3, 0, 0, r7.1, 0, r7.2.1, 0, ([] : List Int), 0, 0, ([] : List THop), false⟩ : TRoute)] : List TRoute).getD i default)) (fun i => c_TRoute (r8.1.getD i default)) (.bool r8.2)⟩] ⟨fun _ => rib_finish_ok a0 (a1.getD y6.toNat default) (⟨(a2.getD p1.2.toNat default).fPrefix, a3, 0, 0, r7.1, 0, r7.2.1, 0, ([] : List Int), 0, 0, ([] : List THop), false⟩ : TRoute) r8 q36, trivial⟩ ?_
 refine then_le (s' := ⟨81, [(1, sL 5 c_TRedist a1), (3, .int .i64 a3), (4, .ref 0 0), (9, .asl 1 0 p1.1.length), (18, .eref 3 0 0), (19, sL 14 c_TRoute a2), (20, .int .i64 (a2.length : Int)), (21, .int .i64 p1.2), (74, .bool r8.2)], [.box (c_TRouter a0), aL 14 c_TRoute p1.1, .box (c_TRoute (a2.getD p1.2.toNat default)), aL 14 c_TRoute r8.1]⟩) (le_sub (.cons Sub.rfl (.cons Sub.rfl (.cons Sub.rfl (.cons Sub.rfl (.cons Sub.rfl (.cons Sub.rfl (.cons Sub.rfl (.cons Sub.rfl (.cons Sub.rfl .nil))))))))) (.cons .rfl (.cons .rfl (.cons .rfl (.cons (.arr (len_eq (c38 _ List.mem_cons_self)) (fun _ _ => rfl)) .nil))))) ?_
 refine cnd r8.2 (fun b40 => ?_) (fun b40 => ?_)
 have h41 := cond_t b40 h39
 obtain ⟨c43, h44⟩ := gd_some h41
 refine rgc [1, 3, 4, 9, 19, 20, 21] 2 ⟨81, [(1, sL 5 c_TRedist a1), (3, .int .i64 a3), (4, .ref 0 0), (9, .asl 1 0 (p1.1.length + 1)), (19, sL 14 c_TRoute a2), (20, .int .i64 (a2.length : Int)), (21, .int .i64 p1.2)], [.box (c_TRouter a0), .arr 14 (p1.1.length + 1) (app (fun i => c_TRoute (p1.1.getD i default)) p1.1.length (fun i => List.take 14 (List.drop (i * 14) [.int .u32 (((r8.1.getD 0 default).fPrefix).fAddr), .int .i64 (((r8.1.getD 0 default).fPrefix).fLen), .int .i64 ((r8.1.getD 0 default).fProto), .int .i64 ((r8.1.getD 0 default).fClass), .int .i64 ((r8.1.getD 0 default).fAdmin), .int .i64 ((r8.1.getD 0 default).fMetric), .int .i64 ((r8.1.getD 0 default).fInner), .int .i64 ((r8.1.getD 0 default).fTag), .int .i64 ((r8.1.getD 0 default).fPref), sL 1 (ci .i64) ((r8.1.getD 0 default).fPath), .int .u32 ((r8.1.getD 0 default).fFrom), .int .u32 ((r8.1.getD 0 default).fNext), sL 2 c_THop ((r8.1.getD 0 default).fHops), .bool ((r8.1.getD 0 default).fDiscard)])))]⟩ [decide ((p1.1.length + 1) * 136 ≤ 140737488355328)] c43 ?_
 refine inb_n ?_
 exact then_le (le_sub (.cons Sub.rfl (.cons Sub.rfl (.cons Sub.rfl (.cons (asl_len (len_snoc _ _)) (.cons Sub.rfl (.cons Sub.rfl (.cons Sub.rfl .nil))))))) (.cons .rfl (.cons (.arr (len_snoc _ _) (app_snoc c_TRoute p1.1 (r8.1.getD 0 default) _ rfl)) .nil))) (k5 (p1.1 ++ [r8.1.getD 0 default]) h44)
 have h42 := cond_f b40 h39
 refine awp_skip (inb_n ?_)
 exact then_le (Le.trans (s' := ⟨81, [(1, sL 5 c_TRedist a1), (3, .int .i64 a3), (4, .ref 0 0), (9, .asl 1 0 p1.1.length), (19, sL 14 c_TRoute a2), (20, .int .i64 (a2.length : Int)), (21, .int .i64 p1.2)], [.box (c_TRouter a0), aL 14 c_TRoute p1.1, .box (c_TRoute (a2.getD p1.2.toNat default)), aL 14 c_TRoute r8.1]⟩) (kp [1, 3, 4, 9, 19, 20, 21]) (le_cut (n := 2) (by kernel_rfl))) (k5 p1.1 h42)
 have h4 := cond_f b2 h1
 refine awp_exit (then_e ?_)
 obtain rfl := Option.some.inj h4
 exact round_e ⟨rfl, kp [9]⟩
 intro e47 s48 o49
 obtain ⟨rfl, l50⟩ := o49
 refine inb_here ?_
 refine then_le (s' := ⟨81, [(9, .asl 1 0 y9.length)], [.box (c_TRouter a0), aL 14 c_TRoute y9]⟩) (l50) ?_
 refine awp_seq (rg0 [8] 2 ⟨81, [(8, .asl 1 0 y9.length)], [.box (c_TRouter a0), aL 14 c_TRoute y9]⟩ ?_)
 refine then_n (awp_ret ?_)
 obtain rfl := Option.some.inj h46
 exact er (.sl false 14 y9.length (fun i => c_TRoute (y9.getD (0 + i) default))) sub_asl
theorem slices_Clone_api_Route_api_Route_own (a0 : List TRoute) (r : List TRoute) (h : M.slices_Clone_api_Route_api_Route a0 = some r) : Fn Try.prog 31 [sL 14 c_TRoute a0] (oL 14 c_TRoute r) := by
 unfold M.slices_Clone_api_Route_api_Route at h
 obtain ⟨hc, h1⟩ := gd_some h
 obtain rfl := Option.some.inj h1
 refine fn_own Try.func31 rfl (by kernel_rfl) (awp_ends_le ?_)
 refine awp_seq (rg0 [0] 0 ⟨8, [(0, sL 14 c_TRoute a0)], []⟩ ?_)
 refine then_n (awp_seq (awp_seq (rg0 [0, 4] 0 ⟨8, [(0, sL 14 c_TRoute a0), (4, .nilq a0.length)], []⟩ ?_)))
 refine then_n (nq a0.length (fun hz => ?_) ?_)
 refine awp_seq (rg0 [2] 0 ⟨8, [(2, .sl true 14 0 (fun _ => []))], []⟩ ?_)
 refine then_n (awp_ret (then_r ?_))
 obtain rfl := List.eq_nil_of_length_eq_zero hz
 exact ⟨_, le_thaw (wd := 14) (f := fun _ => []) 2 (by kernel_rfl) 14 (fun i => c_TRoute (([] : List TRoute).getD i default)), .inr rfl, 2, 0, _, rfl, rfl, rfl, fun _ _ => rfl⟩
 refine awp_skip (then_n (awp_seq (rgc [2] 1 ⟨8, [(2, .asl 0 0 (0 + a0.length))], [.arr 14 (0 + a0.length) (app (fun i => List.take 14 (List.drop (i * 14) [])) 0 (fun i => c_TRoute (a0.getD i default)))]⟩ [decide (0 = 0) || decide (0 < a0.length), decide ((0 + a0.length) * 136 ≤ 140737488355328)] hc ?_)))
 refine then_n (awp_ret ?_)
 exact ⟨⟨8, [(2, .asl 0 0 a0.length)], [aL 14 c_TRoute a0]⟩, le_sub (.cons (asl_len (Nat.zero_add _)) .nil) (.cons (.arr (Nat.zero_add _) (app_nil c_TRoute _ a0 _ (fun _ _ => rfl))) .nil), .inr rfl, 2, 0, _, rfl, rfl, rfl, fun _ _ => rfl⟩
theorem cmp_isNaN_uint32_ok (a0 : Int) (r : Bool) (h : M.cmp_isNaN_uint32 a0 = some r) : Fn Try.prog 85 [.int .u32 a0] (.pure (.bool r)) := by
 unfold M.cmp_isNaN_uint32 at h
 refine fn_pure Try.func85 rfl (by kernel_rfl) ?_
 refine awp_seq (rg0 [0] 0 ⟨6, [(0, .int .u32 a0)], []⟩ ?_)
 refine then_n (awp_seq (rg0 [2] 0 ⟨6, [(2, .bool (a0 != a0))], []⟩ ?_))
 refine then_n (awp_ret ?_)
 obtain rfl := Option.some.inj h
 exact er0 (.bool (a0 != a0))
theorem cmp_Compare_uint32_ok (a0 : Int) (a1 : Int) (r : Int) (h : M.cmp_Compare_uint32 a0 a1 = some r) : Fn Try.prog 63 [.int .u32 a0, .int .u32 a1] (.pure (.int .i64 r)) := by
 unfold M.cmp_Compare_uint32 at h
 refine fn_pure Try.func63 rfl (by kernel_rfl) ?_
 refine awp_seq (rg0 [0, 1] 0 ⟨20, [(0, .int .u32 a0), (1, .int .u32 a1)], []⟩ ?_)
 refine then_n (awp_seq ?_)
 obtain ⟨r1, q1, h2⟩ := bind_some h
 refine rg [.pure (.bool r1)] [0, 1, 5] 0 ⟨20, [(0, .int .u32 a0), (1, .int .u32 a1), (5, .bool r1)], []⟩ [] [⟨true, 85, [.int .u32 a0], .pure (.bool r1)⟩] nil_all ⟨fun _ => cmp_isNaN_uint32_ok a0 r1 q1, trivial⟩ ?_
 refine then_n (awp_seq ?_)
 obtain ⟨r2, q3, h4⟩ := bind_some h2
 refine rg [.pure (.bool r2)] [0, 1, 5, 6] 0 ⟨20, [(0, .int .u32 a0), (1, .int .u32 a1), (5, .bool r1), (6, .bool r2)], []⟩ [] [⟨true, 85, [.int .u32 a1], .pure (.bool r2)⟩] nil_all ⟨fun _ => cmp_isNaN_uint32_ok a1 r2 q3, trivial⟩ ?_
 refine then_n (awp_seq (awp_seq (rg0 [0, 1, 6, 11] 0 ⟨20, [(0, .int .u32 a0), (1, .int .u32 a1), (6, .bool r2), (11, .bool r1)], []⟩ ?_)))
 refine then_n ?_
 refine cnd r1 (fun b5 => ?_) (fun b5 => ?_)
 have h6 := cond_t b5 h4
 refine awp_seq (awp_seq (rg0 [12] 0 ⟨20, [(12, .bool r2)], []⟩ ?_))
 refine then_n ?_
 refine cnd r2 (fun b8 => ?_) (fun b8 => ?_)
 have h9 := cond_t b8 h6
 refine awp_seq (rg0 [4] 0 ⟨20, [(4, .int .i64 0)], []⟩ ?_)
 refine then_n (awp_ret (then_r (then_r ?_)))
 obtain rfl := Option.some.inj h9
 exact er0 (.int .i64 0)
 have h10 := cond_f b8 h6
 refine awp_skip (then_n (awp_seq (rg0 [4] 0 ⟨20, [(4, .int .i64 (-1))], []⟩ ?_)))
 refine then_n (awp_ret (then_r ?_))
 obtain rfl := Option.some.inj h10
 exact er0 (.int .i64 (-1))
 have h7 := cond_f b5 h4
 refine awp_skip (then_n (awp_seq (awp_seq (rg0 [0, 1, 13] 0 ⟨20, [(0, .int .u32 a0), (1, .int .u32 a1), (13, .bool r2)], []⟩ ?_))))
 refine then_n ?_
 refine cnd r2 (fun b11 => ?_) (fun b11 => ?_)
 have h12 := cond_t b11 h7
 refine awp_seq (rg0 [4] 0 ⟨20, [(4, .int .i64 1)], []⟩ ?_)
 refine then_n (awp_ret (then_r ?_))
 obtain rfl := Option.some.inj h12
 exact er0 (.int .i64 1)
 have h13 := cond_f b11 h7
 refine awp_skip (then_n (awp_seq (awp_seq (rg0 [0, 1, 16] 0 ⟨20, [(0, .int .u32 a0), (1, .int .u32 a1), (16, .bool (decide (a0 < a1)))], []⟩ ?_))))
 refine then_n ?_
 refine cnd (decide (a0 < a1)) (fun b14 => ?_) (fun b14 => ?_)
 have h15 := cond_t b14 h13
 refine awp_seq (rg0 [4] 0 ⟨20, [(4, .int .i64 (-1))], []⟩ ?_)
 refine then_n (awp_ret (then_r ?_))
 obtain rfl := Option.some.inj h15
 exact er0 (.int .i64 (-1))
 have h16 := cond_f b14 h13
 refine awp_skip (then_n (awp_seq (awp_seq (rg0 [19] 0 ⟨20, [(19, .bool (decide (a0 > a1)))], []⟩ ?_))))
 refine then_n ?_
 refine cnd (decide (a0 > a1)) (fun b17 => ?_) (fun b17 => ?_)
 have h18 := cond_t b17 h16
 refine awp_seq (rg0 [4] 0 ⟨20, [(4, .int .i64 1)], []⟩ ?_)
 refine then_n (awp_ret (then_r ?_))
 obtain rfl := Option.some.inj h18
 exact er0 (.int .i64 1)
 have h19 := cond_f b17 h16
 refine awp_skip (then_n (awp_seq (rg0 [4] 0 ⟨20, [(4, .int .i64 0)], []⟩ ?_)))
 refine then_n (awp_ret ?_)
 obtain rfl := Option.some.inj h19
 exact er0 (.int .i64 0)
theorem cmp_isNaN_int_ok (a0 : Int) (r : Bool) (h : M.cmp_isNaN_int a0 = some r) : Fn Try.prog 61 [.int .i64 a0] (.pure (.bool r)) := by
 unfold M.cmp_isNaN_int at h
 refine fn_pure Try.func61 rfl (by kernel_rfl) ?_
 refine awp_seq (rg0 [0] 0 ⟨6, [(0, .int .i64 a0)], []⟩ ?_)
 refine then_n (awp_seq (rg0 [2] 0 ⟨6, [(2, .bool (a0 != a0))], []⟩ ?_))
 refine then_n (awp_ret ?_)
 obtain rfl := Option.some.inj h
 exact er0 (.bool (a0 != a0))
theorem cmp_Compare_int_ok (a0 : Int) (a1 : Int) (r : Int) (h : M.cmp_Compare_int a0 a1 = some r) : Fn Try.prog 28 [.int .i64 a0, .int .i64 a1] (.pure (.int .i64 r)) := by
 unfold M.cmp_Compare_int at h
 refine fn_pure Try.func28 rfl (by kernel_rfl) ?_
 refine awp_seq (rg0 [0, 1] 0 ⟨20, [(0, .int .i64 a0), (1, .int .i64 a1)], []⟩ ?_)
 refine then_n (awp_seq ?_)
 obtain ⟨r1, q1, h2⟩ := bind_some h
 refine rg [.pure (.bool r1)] [0, 1, 5] 0 ⟨20, [(0, .int .i64 a0), (1, .int .i64 a1), (5, .bool r1)], []⟩ [] [⟨true, 61, [.int .i64 a0], .pure (.bool r1)⟩] nil_all ⟨fun _ => cmp_isNaN_int_ok a0 r1 q1, trivial⟩ ?_
 refine then_n (awp_seq ?_)
 obtain ⟨r2, q3, h4⟩ := bind_some h2
 refine rg [.pure (.bool r2)] [0, 1, 5, 6] 0 ⟨20, [(0, .int .i64 a0), (1, .int .i64 a1), (5, .bool r1), (6, .bool r2)], []⟩ [] [⟨true, 61, [.int .i64 a1], .pure (.bool r2)⟩] nil_all ⟨fun _ => cmp_isNaN_int_ok a1 r2 q3, trivial⟩ ?_
 refine then_n (awp_seq (awp_seq (rg0 [0, 1, 6, 11] 0 ⟨20, [(0, .int .i64 a0), (1, .int .i64 a1), (6, .bool r2), (11, .bool r1)], []⟩ ?_)))
 refine then_n ?_
 refine cnd r1 (fun b5 => ?_) (fun b5 => ?_)
 have h6 := cond_t b5 h4
 refine awp_seq (awp_seq (rg0 [12] 0 ⟨20, [(12, .bool r2)], []⟩ ?_))
 refine then_n ?_
 refine cnd r2 (fun b8 => ?_) (fun b8 => ?_)
 have h9 := cond_t b8 h6
 refine awp_seq (rg0 [4] 0 ⟨20, [(4, .int .i64 0)], []⟩ ?_)
 refine then_n (awp_ret (then_r (then_r ?_)))
 obtain rfl := Option.some.inj h9
 exact er0 (.int .i64 0)
 have h10 := cond_f b8 h6
 refine awp_skip (then_n (awp_seq (rg0 [4] 0 ⟨20, [(4, .int .i64 (-1))], []⟩ ?_)))
 refine then_n (awp_ret (then_r ?_))
 obtain rfl := Option.some.inj h10
 exact er0 (.int .i64 (-1))
 have h7 := cond_f b5 h4
 refine awp_skip (then_n (awp_seq (awp_seq (rg0 [0, 1, 13] 0 ⟨20, [(0, .int .i64 a0), (1, .int .i64 a1), (13, .bool r2)], []⟩ ?_))))
 refine then_n ?_
 refine cnd r2 (fun b11 => ?_) (fun b11 => ?_)
 have h12 := cond_t b11 h7
 refine awp_seq (rg0 [4] 0 ⟨20, [(4, .int .i64 1)], []⟩ ?_)
 refine then_n (awp_ret (then_r ?_))
 obtain rfl := Option.some.inj h12
 exact er0 (.int .i64 1)
 have h13 := cond_f b11 h7
 refine awp_skip (then_n (awp_seq (awp_seq (rg0 [0, 1, 16] 0 ⟨20, [(0, .int .i64 a0), (1, .int .i64 a1), (16, .bool (decide (a0 < a1)))], []⟩ ?_))))
 refine then_n ?_
 refine cnd (decide (a0 < a1)) (fun b14 => ?_) (fun b14 => ?_)
 have h15 := cond_t b14 h13
 refine awp_seq (rg0 [4] 0 ⟨20, [(4, .int .i64 (-1))], []⟩ ?_)
 refine then_n (awp_ret (then_r ?_))
 obtain rfl := Option.some.inj h15
 exact er0 (.int .i64 (-1))
 have h16 := cond_f b14 h13
 refine awp_skip (then_n (awp_seq (awp_seq (rg0 [19] 0 ⟨20, [(19, .bool (decide (a0 > a1)))], []⟩ ?_))))
 refine then_n ?_
 refine cnd (decide (a0 > a1)) (fun b17 => ?_) (fun b17 => ?_)
 have h18 := cond_t b17 h16
 refine awp_seq (rg0 [4] 0 ⟨20, [(4, .int .i64 1)], []⟩ ?_)
 refine then_n (awp_ret (then_r ?_))
 obtain rfl := Option.some.inj h18
 exact er0 (.int .i64 1)
 have h19 := cond_f b17 h16
 refine awp_skip (then_n (awp_seq (rg0 [4] 0 ⟨20, [(4, .int .i64 0)], []⟩ ?_)))
 refine then_n (awp_ret ?_)
 obtain rfl := Option.some.inj h19
 exact er0 (.int .i64 0)
theorem addr_Compare_ok (a0 : TPrefix) (a1 : TPrefix) (r : Int) (h : M.addr_Compare a0 a1 = some r) : Fn Try.prog 34 [.agg (c_TPrefix a0), .agg (c_TPrefix a1)] (.pure (.int .i64 r)) := by
 unfold M.addr_Compare at h
 refine fn_pure Try.func34 rfl (by kernel_rfl) ?_
 refine awp_seq (rg0 [2, 3] 2 ⟨19, [(2, .ref 0 0), (3, .ref 1 0)], [.box (c_TPrefix a0), .box (c_TPrefix a1)]⟩ ?_)
 refine then_n (awp_seq (awp_seq ?_))
 obtain ⟨r1, q1, h2⟩ := bind_some h
 refine rg [.pure (.int .i64 r1)] [2, 3, 5] 2 ⟨19, [(2, .ref 0 0), (3, .ref 1 0), (5, .int .i64 r1)], [.box (c_TPrefix a0), .box (c_TPrefix a1)]⟩ [] [⟨true, 63, [.int .u32 a0.fAddr, .int .u32 a1.fAddr], .pure (.int .i64 r1)⟩] nil_all ⟨fun _ => cmp_Compare_uint32_ok a0.fAddr a1.fAddr r1 q1, trivial⟩ ?_
 refine then_n (awp_seq (rg0 [2, 3, 5, 12] 2 ⟨19, [(2, .ref 0 0), (3, .ref 1 0), (5, .int .i64 r1), (12, .bool (r1 != 0))], [.box (c_TPrefix a0), .box (c_TPrefix a1)]⟩ ?_))
 refine then_n ?_
 refine cnd (r1 != 0) (fun b3 => ?_) (fun b3 => ?_)
 have h4 := cond_t b3 h2
 refine awp_seq (rg0 [4] 0 ⟨19, [(4, .int .i64 r1)], []⟩ ?_)
 refine then_n (awp_ret (then_r ?_))
 obtain rfl := Option.some.inj h4
 exact er0 (.int .i64 r1)
 have h5 := cond_f b3 h2
 refine awp_skip (then_n (awp_seq ?_))
 obtain ⟨r2, q6, h7⟩ := bind_some h5
 refine rg [.pure (.int .i64 r2)] [4] 0 ⟨19, [(4, .int .i64 r2)], []⟩ [] [⟨true, 28, [.int .i64 a0.fLen, .int .i64 a1.fLen], .pure (.int .i64 r2)⟩] nil_all ⟨fun _ => cmp_Compare_int_ok a0.fLen a1.fLen r2 q6, trivial⟩ ?_
 refine then_n (awp_ret ?_)
 obtain rfl := Option.some.inj h7
 exact er0 (.int .i64 r2)
theorem rib_Select_1_ok (a0 : TRoute) (a1 : TRoute) (r : Int) (h : M.rib_Select_1 a0 a1 = some r) : Fn Try.prog 33 [.agg (c_TRoute a0), .agg (c_TRoute a1)] (.pure (.int .i64 r)) := by
 unfold M.rib_Select_1 at h
 refine fn_pure Try.func33 rfl (by kernel_rfl) ?_
 refine awp_seq (rg0 [2, 3] 2 ⟨10, [(2, .ref 0 0), (3, .ref 1 0)], [.box (c_TRoute a0), .box (c_TRoute a1)]⟩ ?_)
 refine then_n (awp_seq ?_)
 obtain ⟨r1, q1, h2⟩ := bind_some h
 refine rg [.pure (.int .i64 r1)] [4] 0 ⟨10, [(4, .int .i64 r1)], []⟩ [] [⟨true, 34, [.agg (c_TPrefix a0.fPrefix), .agg (c_TPrefix a1.fPrefix)], .pure (.int .i64 r1)⟩] nil_all ⟨fun _ => addr_Compare_ok a0.fPrefix a1.fPrefix r1 q1, trivial⟩ ?_
 refine then_n (awp_ret ?_)
 obtain rfl := Option.some.inj h2
 exact er0 (.int .i64 r1)
theorem slices_insertionSortCmpFunc_api_Route__rib_Select_1_ok (a0 : List TRoute) (a1 : Int) (a2 : Int) (r : (List TRoute)) (h : M.slices_insertionSortCmpFunc_api_Route__rib_Select_1 a0 a1 a2 = some r) : FnM Try.prog 86 [.asl 0 0 a0.length, .int .i64 a1, .int .i64 a2, .fn 33 []] 14 a0.length (fun i => c_TRoute (a0.getD i default)) (fun i => c_TRoute (r.getD i default)) (.tup []) := by
 unfold M.slices_insertionSortCmpFunc_api_Route__rib_Select_1 at h
 refine fn_mut Try.func86 rfl (by kernel_rfl) ?_
 refine awp_seq (rg0 [0, 1, 2, 3, 8] 2 ⟨53, [(0, .asl 0 0 a0.length), (1, .int .i64 a1), (2, .int .i64 a2), (3, .fn 33 []), (8, .int .i64 (wr .i64 (a1 + 1)))], [aL 14 c_TRoute a0, .gone]⟩ ?_)
 refine then_n (awp_block ?_)
 obtain ⟨y7, q21, h22⟩ := bind_some h
 refine awp_le (s' := ⟨53, [(0, .asl 0 0 a0.length), (1, .int .i64 a1), (2, .int .i64 a2), (3, .fn 33 []), (8, .int .i64 (wr .i64 (a1 + 1)))], [aL 14 c_TRoute a0, .gone]⟩) (le_rfl) ?_
 refine awp_mono (awp_loop (f := M.slices_insertionSortCmpFunc_api_Route__rib_Select_1_l1 a1 a2) (S := fun (p1 : (List TRoute) × Int) => ⟨53, [(0, .asl 0 0 p1.1.length), (1, .int .i64 a1), (2, .int .i64 a2), (3, .fn 33 []), (8, .int .i64 p1.2)], [aL 14 c_TRoute p1.1, .gone]⟩) (O := (fun z => OutE 0 (fun z => ⟨53, [], [aL 14 c_TRoute z, .gone]⟩) z)) ?_ (x := (a0, wr .i64 (a1 + 1))) (y := y7) (loopM_iter q21)) ?_
 intro p1 y2 h1
 unfold M.slices_insertionSortCmpFunc_api_Route__rib_Select_1_l1 at h1
 refine awp_seq (awp_seq (rg0 [0, 1, 2, 3, 8, 14] 2 ⟨53, [(0, .asl 0 0 p1.1.length), (1, .int .i64 a1), (2, .int .i64 a2), (3, .fn 33 []), (8, .int .i64 p1.2), (14, .bool (decide (p1.2 < a2)))], [aL 14 c_TRoute p1.1, .gone]⟩ ?_))
 refine then_n ?_
 refine cnd (decide (p1.2 < a2)) (fun b2 => ?_) (fun b2 => ?_)
 have h3 := cond_t b2 h1
 refine awp_skip (then_n (awp_seq (awp_block (awp_seq (rg0 [0, 1, 2, 3, 8, 9] 2 ⟨53, [(0, .asl 0 0 p1.1.length), (1, .int .i64 a1), (2, .int .i64 a2), (3, .fn 33 []), (8, .int .i64 p1.2), (9, .int .i64 p1.2)], [aL 14 c_TRoute p1.1, .gone]⟩ ?_)))))
 refine then_n (awp_block ?_)
 obtain ⟨y6, q15, h16⟩ := bind_some h3
 refine awp_le (s' := ⟨53, [(0, .asl 0 0 p1.1.length), (1, .int .i64 a1), (2, .int .i64 a2), (3, .fn 33 []), (8, .int .i64 p1.2), (9, .int .i64 p1.2)], [aL 14 c_TRoute p1.1, .gone]⟩) (le_rfl) ?_
 refine awp_mono (awp_loop (f := M.slices_insertionSortCmpFunc_api_Route__rib_Select_1_l2 a1) (S := fun (p3 : (List TRoute) × Int) => ⟨53, [(0, .asl 0 0 p3.1.length), (1, .int .i64 a1), (2, .int .i64 a2), (3, .fn 33 []), (8, .int .i64 p1.2), (9, .int .i64 p3.2)], [aL 14 c_TRoute p3.1, .gone]⟩) (O := (fun z => OutE 2 (fun z => ⟨53, [(0, .asl 0 0 z.length), (1, .int .i64 a1), (2, .int .i64 a2), (3, .fn 33 []), (8, .int .i64 p1.2)], [aL 14 c_TRoute z, .gone]⟩) z)) ?_ (x := (p1.1, p1.2)) (y := y6) (loopM_iter q15)) ?_
 intro p3 y4 h5
 unfold M.slices_insertionSortCmpFunc_api_Route__rib_Select_1_l2 at h5
 refine awp_seq (awp_seq ?_)
 obtain ⟨r5, q6, h7⟩ := bind_some h5
 obtain ⟨c8, h9⟩ := gd_some h7
 refine rg [.pure (.int .i64 r5)] [0, 1, 2, 3, 8, 9, 34] 2 ⟨53, [(0, .asl 0 0 p3.1.length), (1, .int .i64 a1), (2, .int .i64 a2), (3, .fn 33 []), (8, .int .i64 p1.2), (9, .int .i64 p3.2), (34, .bool ((decide (p3.2 > a1)) && (decide (r5 < 0))))], [aL 14 c_TRoute p3.1, .gone]⟩ [guardB (decide (p3.2 > a1)) (decide (0 ≤ p3.2)), guardB (decide (p3.2 > a1)) (decide (p3.2 < (p3.1.length : Int))), guardB (decide (p3.2 > a1)) (decide (0 ≤ (wr .i64 (p3.2 - 1)))), guardB (decide (p3.2 > a1)) (decide ((wr .i64 (p3.2 - 1)) < (p3.1.length : Int)))] [⟨decide (p3.2 > a1), 33, [.agg (c_TRoute (p3.1.getD (0 + p3.2.toNat) default)), .agg (c_TRoute (p3.1.getD (0 + (wr .i64 (p3.2 - 1)).toNat) default))], .pure (.int .i64 r5)⟩] c8 ⟨fun hg => rib_Select_1_ok (p3.1.getD (0 + p3.2.toNat) default) (p3.1.getD (0 + (wr .i64 (p3.2 - 1)).toNat) default) r5 (gc_some q6 hg), trivial⟩ ?_
 refine then_n ?_
 refine cnd ((decide (p3.2 > a1)) && (decide (r5 < 0))) (fun b10 => ?_) (fun b10 => ?_)
 have h11 := cond_t b10 h9
 refine awp_skip (then_n (awp_seq (awp_block ?_)))
 obtain ⟨c13, h14⟩ := gd_some h11
 refine rgw [] [0, 1, 2, 3, 8, 9] 2 ⟨53, [(0, .asl 0 0 p3.1.length), (1, .int .i64 a1), (2, .int .i64 a2), (3, .fn 33 []), (8, .int .i64 p1.2), (9, .int .i64 p3.2)], [.arr 14 p3.1.length (fun j => bif Nat.beq j (0 + (wr .i64 (p3.2 - 1)).toNat) then splice ((fun j => bif Nat.beq j (0 + p3.2.toNat) then splice (c_TRoute (p3.1.getD (0 + p3.2.toNat) default)) [.int .u32 (((p3.1.getD (0 + (wr .i64 (p3.2 - 1)).toNat) default).fPrefix).fAddr), .int .i64 (((p3.1.getD (0 + (wr .i64 (p3.2 - 1)).toNat) default).fPrefix).fLen), .int .i64 ((p3.1.getD (0 + (wr .i64 (p3.2 - 1)).toNat) default).fProto), .int .i64 ((p3.1.getD (0 + (wr .i64 (p3.2 - 1)).toNat) default).fClass), .int .i64 ((p3.1.getD (0 + (wr .i64 (p3.2 - 1)).toNat) default).fAdmin), .int .i64 ((p3.1.getD (0 + (wr .i64 (p3.2 - 1)).toNat) default).fMetric), .int .i64 ((p3.1.getD (0 + (wr .i64 (p3.2 - 1)).toNat) default).fInner), .int .i64 ((p3.1.getD (0 + (wr .i64 (p3.2 - 1)).toNat) default).fTag), .int .i64 ((p3.1.getD (0 + (wr .i64 (p3.2 - 1)).toNat) default).fPref), sL 1 (ci .i64) ((p3.1.getD (0 + (wr .i64 (p3.2 - 1)).toNat) default).fPath), .int .u32 ((p3.1.getD (0 + (wr .i64 (p3.2 - 1)).toNat) default).fFrom), .int .u32 ((p3.1.getD (0 + (wr .i64 (p3.2 - 1)).toNat) default).fNext), sL 2 c_THop ((p3.1.getD (0 + (wr .i64 (p3.2 - 1)).toNat) default).fHops), .bool ((p3.1.getD (0 + (wr .i64 (p3.2 - 1)).toNat) default).fDiscard)] 0 else c_TRoute (p3.1.getD j default)) (0 + (wr .i64 (p3.2 - 1)).toNat)) [.int .u32 (((p3.1.getD (0 + p3.2.toNat) default).fPrefix).fAddr), .int .i64 (((p3.1.getD (0 + p3.2.toNat) default).fPrefix).fLen), .int .i64 ((p3.1.getD (0 + p3.2.toNat) default).fProto), .int .i64 ((p3.1.getD (0 + p3.2.toNat) default).fClass), .int .i64 ((p3.1.getD (0 + p3.2.toNat) default).fAdmin), .int .i64 ((p3.1.getD (0 + p3.2.toNat) default).fMetric), .int .i64 ((p3.1.getD (0 + p3.2.toNat) default).fInner), .int .i64 ((p3.1.getD (0 + p3.2.toNat) default).fTag), .int .i64 ((p3.1.getD (0 + p3.2.toNat) default).fPref), sL 1 (ci .i64) ((p3.1.getD (0 + p3.2.toNat) default).fPath), .int .u32 ((p3.1.getD (0 + p3.2.toNat) default).fFrom), .int .u32 ((p3.1.getD (0 + p3.2.toNat) default).fNext), sL 2 c_THop ((p3.1.getD (0 + p3.2.toNat) default).fHops), .bool ((p3.1.getD (0 + p3.2.toNat) default).fDiscard)] 0 else (fun j => bif Nat.beq j (0 + p3.2.toNat) then splice (c_TRoute (p3.1.getD (0 + p3.2.toNat) default)) [.int .u32 (((p3.1.getD (0 + (wr .i64 (p3.2 - 1)).toNat) default).fPrefix).fAddr), .int .i64 (((p3.1.getD (0 + (wr .i64 (p3.2 - 1)).toNat) default).fPrefix).fLen), .int .i64 ((p3.1.getD (0 + (wr .i64 (p3.2 - 1)).toNat) default).fProto), .int .i64 ((p3.1.getD (0 + (wr .i64 (p3.2 - 1)).toNat) default).fClass), .int .i64 ((p3.1.getD (0 + (wr .i64 (p3.2 - 1)).toNat) default).fAdmin), .int .i64 ((p3.1.getD (0 + (wr .i64 (p3.2 - 1)).toNat) default).fMetric), .int .i64 ((p3.1.getD (0 + (wr .i64 (p3.2 - 1)).toNat) default).fInner), .int .i64 ((p3.1.getD (0 + (wr .i64 (p3.2 - 1)).toNat) default).fTag), .int .i64 ((p3.1.getD (0 + (wr .i64 (p3.2 - 1)).toNat) default).fPref), sL 1 (ci .i64) ((p3.1.getD (0 + (wr .i64 (p3.2 - 1)).toNat) default).fPath), .int .u32 ((p3.1.getD (0 + (wr .i64 (p3.2 - 1)).toNat) default).fFrom), .int .u32 ((p3.1.getD (0 + (wr .i64 (p3.2 - 1)).toNat) default).fNext), sL 2 c_THop ((p3.1.getD (0 + (wr .i64 (p3.2 - 1)).toNat) default).fHops), .bool ((p3.1.getD (0 + (wr .i64 (p3.2 - 1)).toNat) default).fDiscard)] 0 else c_TRoute (p3.1.getD j default)) j), .gone]⟩ [decide (0 ≤ (wr .i64 (p3.2 - 1))), decide ((wr .i64 (p3.2 - 1)) < (p3.1.length : Int)), decide (0 ≤ p3.2), decide (p3.2 < (p3.1.length : Int)), decide (0 ≤ p3.2), decide (p3.2 < (p3.1.length : Int)), decide (0 ≤ (wr .i64 (p3.2 - 1))), decide ((wr .i64 (p3.2 - 1)) < (p3.1.length : Int))] [] c13 trivial ?_
 refine inb_n ?_
 refine then_le (s' := ⟨53, [(0, .asl 0 0 (((p3.1.set (0 + p3.2.toNat) (p3.1.getD (0 + (wr .i64 (p3.2 - 1)).toNat) default)).set (0 + (wr .i64 (p3.2 - 1)).toNat) (p3.1.getD (0 + p3.2.toNat) default)).length)), (1, .int .i64 a1), (2, .int .i64 a2), (3, .fn 33 []), (8, .int .i64 p1.2), (9, .int .i64 p3.2)], [aL 14 c_TRoute ((p3.1.set (0 + p3.2.toNat) (p3.1.getD (0 + (wr .i64 (p3.2 - 1)).toNat) default)).set (0 + (wr .i64 (p3.2 - 1)).toNat) (p3.1.getD (0 + p3.2.toNat) default)), .gone]⟩) (le_sub (.cons (asl_len (by simp)) (.cons Sub.rfl (.cons Sub.rfl (.cons Sub.rfl (.cons Sub.rfl (.cons Sub.rfl .nil)))))) (.cons (.arr (by simp) (set2_ext c_TRoute p3.1 (0 + p3.2.toNat) (p3.1.getD (0 + (wr .i64 (p3.2 - 1)).toNat) default) _ rfl (0 + (wr .i64 (p3.2 - 1)).toNat) (p3.1.getD (0 + p3.2.toNat) default) _ (sp2 rfl rfl))) (.cons .rfl .nil))) ?_
 refine rg0 [0, 1, 2, 3, 8, 9] 2 ⟨53, [(0, .asl 0 0 (((p3.1.set (0 + p3.2.toNat) (p3.1.getD (0 + (wr .i64 (p3.2 - 1)).toNat) default)).set (0 + (wr .i64 (p3.2 - 1)).toNat) (p3.1.getD (0 + p3.2.toNat) default)).length)), (1, .int .i64 a1), (2, .int .i64 a2), (3, .fn 33 []), (8, .int .i64 p1.2), (9, .int .i64 (wr .i64 (p3.2 - 1)))], [aL 14 c_TRoute ((p3.1.set (0 + p3.2.toNat) (p3.1.getD (0 + (wr .i64 (p3.2 - 1)).toNat) default)).set (0 + (wr .i64 (p3.2 - 1)).toNat) (p3.1.getD (0 + p3.2.toNat) default)), .gone]⟩ ?_
 obtain rfl := Option.some.inj h14
 exact round_n (le_rfl)
 have h12 := cond_f b10 h9
 refine awp_exit (then_e ?_)
 obtain rfl := Option.some.inj h12
 exact round_e ⟨rfl, kp [0, 1, 2, 3, 8]⟩
 intro e17 s18 o19
 obtain ⟨rfl, l20⟩ := o19
 refine inb_here (inb_n ?_)
 refine then_le (s' := ⟨53, [(0, .asl 0 0 y6.length), (1, .int .i64 a1), (2, .int .i64 a2), (3, .fn 33 []), (8, .int .i64 p1.2)], [aL 14 c_TRoute y6, .gone]⟩) (l20) ?_
 refine rg0 [0, 1, 2, 3, 8] 2 ⟨53, [(0, .asl 0 0 y6.length), (1, .int .i64 a1), (2, .int .i64 a2), (3, .fn 33 []), (8, .int .i64 (wr .i64 (p1.2 + 1)))], [aL 14 c_TRoute y6, .gone]⟩ ?_
 obtain rfl := Option.some.inj h16
 exact round_n (le_rfl)
 have h4 := cond_f b2 h1
 refine awp_exit (then_e ?_)
 obtain rfl := Option.some.inj h4
 exact round_e ⟨rfl, kp []⟩
 intro e23 s24 o25
 obtain ⟨rfl, l26⟩ := o25
 refine inb_here ?_
 obtain ⟨c27, h28⟩ := gd_some h22
 obtain rfl := Option.some.inj h28
 exact emn (s' := ⟨53, [], [aL 14 c_TRoute y7, .gone]⟩) (l26) (len_ok c27)
theorem slices_swapRangeCmpFunc_api_Route__rib_Select_1_ok (a0 : List TRoute) (a1 : Int) (a2 : Int) (a3 : Int) (r : (List TRoute)) (h : M.slices_swapRangeCmpFunc_api_Route__rib_Select_1 a0 a1 a2 a3 = some r) : FnM Try.prog 100 [.asl 0 0 a0.length, .int .i64 a1, .int .i64 a2, .int .i64 a3, .fn 33 []] 14 a0.length (fun i => c_TRoute (a0.getD i default)) (fun i => c_TRoute (r.getD i default)) (.tup []) := by
 unfold M.slices_swapRangeCmpFunc_api_Route__rib_Select_1 at h
 refine fn_mut Try.func100 rfl (by kernel_rfl) ?_
 refine awp_seq (rg0 [0, 1, 2, 3, 10] 2 ⟨38, [(0, .asl 0 0 a0.length), (1, .int .i64 a1), (2, .int .i64 a2), (3, .int .i64 a3), (10, .int .i64 0)], [aL 14 c_TRoute a0, .gone]⟩ ?_)
 refine then_n (awp_block ?_)
 obtain ⟨y3, q7, h8⟩ := bind_some h
 refine awp_le (s' := ⟨38, [(0, .asl 0 0 a0.length), (1, .int .i64 a1), (2, .int .i64 a2), (3, .int .i64 a3), (10, .int .i64 0)], [aL 14 c_TRoute a0, .gone]⟩) (le_rfl) ?_
 refine awp_mono (awp_loop (f := M.slices_swapRangeCmpFunc_api_Route__rib_Select_1_l1 a1 a2 a3) (S := fun (p1 : (List TRoute) × Int) => ⟨38, [(0, .asl 0 0 p1.1.length), (1, .int .i64 a1), (2, .int .i64 a2), (3, .int .i64 a3), (10, .int .i64 p1.2)], [aL 14 c_TRoute p1.1, .gone]⟩) (O := (fun z => OutE 0 (fun z => ⟨38, [], [aL 14 c_TRoute z, .gone]⟩) z)) ?_ (x := (a0, 0)) (y := y3) (loopM_iter q7)) ?_
 intro p1 y2 h1
 unfold M.slices_swapRangeCmpFunc_api_Route__rib_Select_1_l1 at h1
 refine awp_seq (awp_seq (rg0 [0, 1, 2, 3, 10, 13] 2 ⟨38, [(0, .asl 0 0 p1.1.length), (1, .int .i64 a1), (2, .int .i64 a2), (3, .int .i64 a3), (10, .int .i64 p1.2), (13, .bool (decide (p1.2 < a3)))], [aL 14 c_TRoute p1.1, .gone]⟩ ?_))
 refine then_n ?_
 refine cnd (decide (p1.2 < a3)) (fun b2 => ?_) (fun b2 => ?_)
 have h3 := cond_t b2 h1
 refine awp_skip (then_n (awp_seq (awp_block ?_)))
 obtain ⟨c5, h6⟩ := gd_some h3
 refine rgw [] [0, 1, 2, 3, 10] 2 ⟨38, [(0, .asl 0 0 p1.1.length), (1, .int .i64 a1), (2, .int .i64 a2), (3, .int .i64 a3), (10, .int .i64 p1.2)], [.arr 14 p1.1.length (fun j => bif Nat.beq j (0 + (wr .i64 (a2 + p1.2)).toNat) then splice ((fun j => bif Nat.beq j (0 + (wr .i64 (a1 + p1.2)).toNat) then splice (c_TRoute (p1.1.getD (0 + (wr .i64 (a1 + p1.2)).toNat) default)) [.int .u32 (((p1.1.getD (0 + (wr .i64 (a2 + p1.2)).toNat) default).fPrefix).fAddr), .int .i64 (((p1.1.getD (0 + (wr .i64 (a2 + p1.2)).toNat) default).fPrefix).fLen), .int .i64 ((p1.1.getD (0 + (wr .i64 (a2 + p1.2)).toNat) default).fProto), .int .i64 ((p1.1.getD (0 + (wr .i64 (a2 + p1.2)).toNat) default).fClass), .int .i64 ((p1.1.getD (0 + (wr .i64 (a2 + p1.2)).toNat) default).fAdmin), .int .i64 ((p1.1.getD (0 + (wr .i64 (a2 + p1.2)).toNat) default).fMetric), .int .i64 ((p1.1.getD (0 + (wr .i64 (a2 + p1.2)).toNat) default).fInner), .int .i64 ((p1.1.getD (0 + (wr .i64 (a2 + p1.2)).toNat) default).fTag), .int .i64 ((p1.1.getD (0 + (wr .i64 (a2 + p1.2)).toNat) default).fPref), sL 1 (ci .i64) ((p1.1.getD (0 + (wr .i64 (a2 + p1.2)).toNat) default).fPath), .int .u32 ((p1.1.getD (0 + (wr .i64 (a2 + p1.2)).toNat) default).fFrom), .int .u32 ((p1.1.getD (0 + (wr .i64 (a2 + p1.2)).toNat) default).fNext), sL 2 c_THop ((p1.1.getD (0 + (wr .i64 (a2 + p1.2)).toNat) default).fHops), .bool ((p1.1.getD (0 + (wr .i64 (a2 + p1.2)).toNat) default).fDiscard)] 0 else c_TRoute (p1.1.getD j default)) (0 + (wr .i64 (a2 + p1.2)).toNat)) [.int .u32 (((p1.1.getD (0 + (wr .i64 (a1 + p1.2)).toNat) default).fPrefix).fAddr), .int .i64 (((p1.1.getD (0 + (wr .i64 (a1 + p1.2)).toNat) default).fPrefix).fLen), .int .i64 ((p1.1.getD (0 + (wr .i64 (a1 + p1.2)).toNat) default).fProto), .int .i64 ((p1.1.getD (0 + (wr .i64 (a1 + p1.2)).toNat) default).fClass), .int .i64 ((p1.1.getD (0 + (wr .i64 (a1 + p1.2)).toNat) default).fAdmin), .int .i64 ((p1.1.getD (0 + (wr .i64 (a1 + p1.2)).toNat) default).fMetric), .int .i64 ((p1.1.getD (0 + (wr .i64 (a1 + p1.2)).toNat) default).fInner), .int .i64 ((p1.1.getD (0 + (wr .i64 (a1 + p1.2)).toNat) default).fTag), .int .i64 ((p1.1.getD (0 + (wr .i64 (a1 + p1.2)).toNat) default).fPref), sL 1 (ci .i64) ((p1.1.getD (0 + (wr .i64 (a1 + p1.2)).toNat) default).fPath), .int .u32 ((p1.1.getD (0 + (wr .i64 (a1 + p1.2)).toNat) default).fFrom), .int .u32 ((p1.1.getD (0 + (wr .i64 (a1 + p1.2)).toNat) default).fNext), sL 2 c_THop ((p1.1.getD (0 + (wr .i64 (a1 + p1.2)).toNat) default).fHops), .bool ((p1.1.getD (0 + (wr .i64 (a1 + p1.2)).toNat) default).fDiscard)] 0 else (fun j => bif Nat.beq j (0 + (wr .i64 (a1 + p1.2)).toNat) then splice (c_TRoute (p1.1.getD (0 + (wr .i64 (a1 + p1.2)).toNat) default)) [.int .u32 (((p1.1.getD (0 + (wr .i64 (a2 + p1.2)).toNat) default).fPrefix).fAddr), .int .i64 (((p1.1.getD (0 + (wr .i64 (a2 + p1.2)).toNat) default).fPrefix).fLen), .int .i64 ((p1.1.getD (0 + (wr .i64 (a2 + p1.2)).toNat) default).fProto), .int .i64 ((p1.1.getD (0 + (wr .i64 (a2 + p1.2)).toNat) default).fClass), .int .i64 ((p1.1.getD (0 + (wr .i64 (a2 + p1.2)).toNat) default).fAdmin), .int .i64 ((p1.1.getD (0 + (wr .i64 (a2 + p1.2)).toNat) default).fMetric), .int .i64 ((p1.1.getD (0 + (wr .i64 (a2 + p1.2)).toNat) default).fInner), .int .i64 ((p1.1.getD (0 + (wr .i64 (a2 + p1.2)).toNat) default).fTag), .int .i64 ((p1.1.getD (0 + (wr .i64 (a2 + p1.2)).toNat) default).fPref), sL 1 (ci .i64) ((p1.1.getD (0 + (wr .i64 (a2 + p1.2)).toNat) default).fPath), .int .u32 ((p1.1.getD (0 + (wr .i64 (a2 + p1.2)).toNat) default).fFrom), .int .u32 ((p1.1.getD (0 + (wr .i64 (a2 + p1.2)).toNat) default).fNext), sL 2 c_THop ((p1.1.getD (0 + (wr .i64 (a2 + p1.2)).toNat) default).fHops), .bool ((p1.1.getD (0 + (wr .i64 (a2 + p1.2)).toNat) default).fDiscard)] 0 else c_TRoute (p1.1.getD j default)) j), .gone]⟩ [decide (0 ≤ (wr .i64 (a2 + p1.2))), decide ((wr .i64 (a2 + p1.2)) < (p1.1.length : Int)), decide (0 ≤ (wr .i64 (a1 + p1.2))), decide ((wr .i64 (a1 + p1.2)) < (p1.1.length : Int)), decide (0 ≤ (wr .i64 (a1 + p1.2))), decide ((wr .i64 (a1 + p1.2)) < (p1.1.length : Int)), decide (0 ≤ (wr .i64 (a2 + p1.2))), decide ((wr .i64 (a2 + p1.2)) < (p1.1.length : Int))] [] c5 trivial ?_
 refine inb_n ?_
 refine then_le (s' := ⟨38, [(0, .asl 0 0 (((p1.1.set (0 + (wr .i64 (a1 + p1.2)).toNat) (p1.1.getD (0 + (wr .i64 (a2 + p1.2)).toNat) default)).set (0 + (wr .i64 (a2 + p1.2)).toNat) (p1.1.getD (0 + (wr .i64 (a1 + p1.2)).toNat) default)).length)), (1, .int .i64 a1), (2, .int .i64 a2), (3, .int .i64 a3), (10, .int .i64 p1.2)], [aL 14 c_TRoute ((p1.1.set (0 + (wr .i64 (a1 + p1.2)).toNat) (p1.1.getD (0 + (wr .i64 (a2 + p1.2)).toNat) default)).set (0 + (wr .i64 (a2 + p1.2)).toNat) (p1.1.getD (0 + (wr .i64 (a1 + p1.2)).toNat) default)), .gone]⟩) (le_sub (.cons (asl_len (by simp)) (.cons Sub.rfl (.cons Sub.rfl (.cons Sub.rfl (.cons Sub.rfl .nil))))) (.cons (.arr (by simp) (set2_ext c_TRoute p1.1 (0 + (wr .i64 (a1 + p1.2)).toNat) (p1.1.getD (0 + (wr .i64 (a2 + p1.2)).toNat) default) _ rfl (0 + (wr .i64 (a2 + p1.2)).toNat) (p1.1.getD (0 + (wr .i64 (a1 + p1.2)).toNat) default) _ (sp2 rfl rfl))) (.cons .rfl .nil))) ?_
 refine rg0 [0, 1, 2, 3, 10] 2 ⟨38, [(0, .asl 0 0 (((p1.1.set (0 + (wr .i64 (a1 + p1.2)).toNat) (p1.1.getD (0 + (wr .i64 (a2 + p1.2)).toNat) default)).set (0 + (wr .i64 (a2 + p1.2)).toNat) (p1.1.getD (0 + (wr .i64 (a1 + p1.2)).toNat) default)).length)), (1, .int .i64 a1), (2, .int .i64 a2), (3, .int .i64 a3), (10, .int .i64 (wr .i64 (p1.2 + 1)))], [aL 14 c_TRoute ((p1.1.set (0 + (wr .i64 (a1 + p1.2)).toNat) (p1.1.getD (0 + (wr .i64 (a2 + p1.2)).toNat) default)).set (0 + (wr .i64 (a2 + p1.2)).toNat) (p1.1.getD (0 + (wr .i64 (a1 + p1.2)).toNat) default)), .gone]⟩ ?_
 obtain rfl := Option.some.inj h6
 exact round_n (le_rfl)
 have h4 := cond_f b2 h1
 refine awp_exit (then_e ?_)
 obtain rfl := Option.some.inj h4
 exact round_e ⟨rfl, kp []⟩
 intro e9 s10 o11
 obtain ⟨rfl, l12⟩ := o11
 refine inb_here ?_
 obtain ⟨c13, h14⟩ := gd_some h8
 obtain rfl := Option.some.inj h14
 exact emn (s' := ⟨38, [], [aL 14 c_TRoute y3, .gone]⟩) (l12) (len_ok c13)
theorem slices_rotateCmpFunc_api_Route__rib_Select_1_ok (a0 : List TRoute) (a1 : Int) (a2 : Int) (a3 : Int) (r : (List TRoute)) (h : M.slices_rotateCmpFunc_api_Route__rib_Select_1 a0 a1 a2 a3 = some r) : FnM Try.prog 95 [.asl 0 0 a0.length, .int .i64 a1, .int .i64 a2, .int .i64 a3, .fn 33 []] 14 a0.length (fun i => c_TRoute (a0.getD i default)) (fun i => c_TRoute (r.getD i default)) (.tup []) := by
 unfold M.slices_rotateCmpFunc_api_Route__rib_Select_1 at h
 refine fn_mut Try.func95 rfl (by kernel_rfl) ?_
 refine awp_seq (rg0 [0, 2, 3, 4, 10] 2 ⟨58, [(0, .asl 0 0 a0.length), (2, .int .i64 a2), (3, .int .i64 a3), (4, .fn 33 []), (10, .int .i64 (wr .i64 (a2 - a1)))], [aL 14 c_TRoute a0, .gone]⟩ ?_)
 refine then_n (awp_seq (rg0 [0, 2, 4, 10, 11] 2 ⟨58, [(0, .asl 0 0 a0.length), (2, .int .i64 a2), (4, .fn 33 []), (10, .int .i64 (wr .i64 (a2 - a1))), (11, .int .i64 (wr .i64 (a3 - a2)))], [aL 14 c_TRoute a0, .gone]⟩ ?_))
 refine then_n (awp_seq (awp_block ?_))
 obtain ⟨y5, q16, h17⟩ := bind_some h
 refine awp_le (s' := ⟨58, [(0, .asl 0 0 a0.length), (2, .int .i64 a2), (4, .fn 33 []), (10, .int .i64 (wr .i64 (a2 - a1))), (11, .int .i64 (wr .i64 (a3 - a2)))], [aL 14 c_TRoute a0, .gone]⟩) (le_rfl) ?_
 refine awp_mono (awp_loop (f := M.slices_rotateCmpFunc_api_Route__rib_Select_1_l1 a2) (S := fun (p1 : (List TRoute) × Int × Int) => ⟨58, [(0, .asl 0 0 p1.1.length), (2, .int .i64 a2), (4, .fn 33 []), (10, .int .i64 p1.2.1), (11, .int .i64 p1.2.2)], [aL 14 c_TRoute p1.1, .gone]⟩) (O := (fun z => OutE 0 (fun z => ⟨58, [(0, .asl 0 0 z.2.length), (2, .int .i64 a2), (4, .fn 33 []), (10, .int .i64 z.1)], [aL 14 c_TRoute z.2, .gone]⟩) z)) ?_ (x := (a0, wr .i64 (a2 - a1), wr .i64 (a3 - a2))) (y := y5) (loopM_iter q16)) ?_
 intro p1 y2 h1
 unfold M.slices_rotateCmpFunc_api_Route__rib_Select_1_l1 at h1
 refine awp_seq (awp_seq (rg0 [0, 2, 4, 10, 11, 20] 2 ⟨58, [(0, .asl 0 0 p1.1.length), (2, .int .i64 a2), (4, .fn 33 []), (10, .int .i64 p1.2.1), (11, .int .i64 p1.2.2), (20, .bool (p1.2.1 != p1.2.2))], [aL 14 c_TRoute p1.1, .gone]⟩ ?_))
 refine then_n ?_
 refine cnd (p1.2.1 != p1.2.2) (fun b2 => ?_) (fun b2 => ?_)
 have h3 := cond_t b2 h1
 refine awp_skip (then_n (awp_block (awp_seq (rg0 [0, 2, 4, 10, 11, 23] 2 ⟨58, [(0, .asl 0 0 p1.1.length), (2, .int .i64 a2), (4, .fn 33 []), (10, .int .i64 p1.2.1), (11, .int .i64 p1.2.2), (23, .bool (decide (p1.2.1 > p1.2.2)))], [aL 14 c_TRoute p1.1, .gone]⟩ ?_))))
 refine then_n ?_
 refine cnd (decide (p1.2.1 > p1.2.2)) (fun b5 => ?_) (fun b5 => ?_)
 have h6 := cond_t b5 h3
 refine awp_seq ?_
 obtain ⟨r3, q8, h9⟩ := bind_some h6
 obtain ⟨c10, h11⟩ := gd_some h9
 refine rg [.lnd 0 0 (fun _ => []) (fun i => c_TRoute (r3.getD i default)) (.tup [])] [0, 2, 4, 10, 11] 2 ⟨58, [(0, .asl 0 0 p1.1.length), (2, .int .i64 a2), (4, .fn 33 []), (10, .int .i64 p1.2.1), (11, .int .i64 p1.2.2)], [.arr 14 p1.1.length (fun i => c_TRoute (r3.getD i default)), .gone]⟩ [] [⟨true, 100, [.asl 0 0 p1.1.length, .int .i64 (wr .i64 (a2 - p1.2.1)), .int .i64 a2, .int .i64 p1.2.2, .fn 33 []], .lnd 14 p1.1.length (fun i => c_TRoute (p1.1.getD i default)) (fun i => c_TRoute (r3.getD i default)) (.tup [])⟩] nil_all ⟨fun _ => slices_swapRangeCmpFunc_api_Route__rib_Select_1_ok p1.1 (wr .i64 (a2 - p1.2.1)) a2 p1.2.2 r3 q8, trivial⟩ ?_
 refine then_le (s' := ⟨58, [(0, .asl 0 0 r3.length), (2, .int .i64 a2), (4, .fn 33 []), (10, .int .i64 p1.2.1), (11, .int .i64 p1.2.2)], [aL 14 c_TRoute r3, .gone]⟩) (le_sub (.cons (asl_len (len_eq (c10 _ List.mem_cons_self))) (.cons Sub.rfl (.cons Sub.rfl (.cons Sub.rfl (.cons Sub.rfl .nil))))) (.cons (.arr (len_eq (c10 _ List.mem_cons_self)) (fun _ _ => rfl)) (.cons .rfl .nil))) ?_
 refine rg0 [0, 2, 4, 10, 11] 2 ⟨58, [(0, .asl 0 0 r3.length), (2, .int .i64 a2), (4, .fn 33 []), (10, .int .i64 (wr .i64 (p1.2.1 - p1.2.2))), (11, .int .i64 p1.2.2)], [aL 14 c_TRoute r3, .gone]⟩ ?_
 refine inb_n ?_
 obtain rfl := Option.some.inj h11
 exact round_n (le_rfl)
 have h7 := cond_f b5 h3
 refine awp_seq ?_
 obtain ⟨r4, q12, h13⟩ := bind_some h7
 obtain ⟨c14, h15⟩ := gd_some h13
 refine rg [.lnd 0 0 (fun _ => []) (fun i => c_TRoute (r4.getD i default)) (.tup [])] [0, 2, 4, 10, 11] 2 ⟨58, [(0, .asl 0 0 p1.1.length), (2, .int .i64 a2), (4, .fn 33 []), (10, .int .i64 p1.2.1), (11, .int .i64 p1.2.2)], [.arr 14 p1.1.length (fun i => c_TRoute (r4.getD i default)), .gone]⟩ [] [⟨true, 100, [.asl 0 0 p1.1.length, .int .i64 (wr .i64 (a2 - p1.2.1)), .int .i64 (wr .i64 ((wr .i64 (a2 + p1.2.2)) - p1.2.1)), .int .i64 p1.2.1, .fn 33 []], .lnd 14 p1.1.length (fun i => c_TRoute (p1.1.getD i default)) (fun i => c_TRoute (r4.getD i default)) (.tup [])⟩] nil_all ⟨fun _ => slices_swapRangeCmpFunc_api_Route__rib_Select_1_ok p1.1 (wr .i64 (a2 - p1.2.1)) (wr .i64 ((wr .i64 (a2 + p1.2.2)) - p1.2.1)) p1.2.1 r4 q12, trivial⟩ ?_
 refine then_le (s' := ⟨58, [(0, .asl 0 0 r4.length), (2, .int .i64 a2), (4, .fn 33 []), (10, .int .i64 p1.2.1), (11, .int .i64 p1.2.2)], [aL 14 c_TRoute r4, .gone]⟩) (le_sub (.cons (asl_len (len_eq (c14 _ List.mem_cons_self))) (.cons Sub.rfl (.cons Sub.rfl (.cons Sub.rfl (.cons Sub.rfl .nil))))) (.cons (.arr (len_eq (c14 _ List.mem_cons_self)) (fun _ _ => rfl)) (.cons .rfl .nil))) ?_
 refine rg0 [0, 2, 4, 10, 11] 2 ⟨58, [(0, .asl 0 0 r4.length), (2, .int .i64 a2), (4, .fn 33 []), (10, .int .i64 p1.2.1), (11, .int .i64 (wr .i64 (p1.2.2 - p1.2.1)))], [aL 14 c_TRoute r4, .gone]⟩ ?_
 refine inb_n ?_
 obtain rfl := Option.some.inj h15
 exact round_n (le_rfl)
 have h4 := cond_f b2 h1
 refine awp_exit (then_e ?_)
 obtain rfl := Option.some.inj h4
 exact round_e ⟨rfl, kp [0, 2, 4, 10]⟩
 intro e18 s19 o20
 obtain ⟨rfl, l21⟩ := o20
 refine inb_here ?_
 refine then_le (s' := ⟨58, [(0, .asl 0 0 y5.2.length), (2, .int .i64 a2), (4, .fn 33 []), (10, .int .i64 y5.1)], [aL 14 c_TRoute y5.2, .gone]⟩) (l21) ?_
 obtain ⟨r6, q22, h23⟩ := bind_some h17
 obtain ⟨c24, h25⟩ := gd_some h23
 refine rg [.lnd 0 0 (fun _ => []) (fun i => c_TRoute (r6.getD i default)) (.tup [])] [] 2 ⟨58, [], [.arr 14 y5.2.length (fun i => c_TRoute (r6.getD i default)), .gone]⟩ [] [⟨true, 100, [.asl 0 0 y5.2.length, .int .i64 (wr .i64 (a2 - y5.1)), .int .i64 a2, .int .i64 y5.1, .fn 33 []], .lnd 14 y5.2.length (fun i => c_TRoute (y5.2.getD i default)) (fun i => c_TRoute (r6.getD i default)) (.tup [])⟩] nil_all ⟨fun _ => slices_swapRangeCmpFunc_api_Route__rib_Select_1_ok y5.2 (wr .i64 (a2 - y5.1)) a2 y5.1 r6 q22, trivial⟩ ?_
 obtain ⟨c26, h27⟩ := gd_some h25
 obtain rfl := Option.some.inj h27
 exact emn (s' := ⟨58, [], [aL 14 c_TRoute r6, .gone]⟩) (le_sub .nil (.cons (.arr (len_eq (c24 _ List.mem_cons_self)) (fun _ _ => rfl)) (.cons .rfl .nil))) (len_ok c26)
theorem slices_symMergeCmpFunc_api_Route__rib_Select_1_bok (self : (List TRoute) → Int → Int → Int → Option (List TRoute)) (ih : ∀ (a0 : List TRoute) (a1 : Int) (a2 : Int) (a3 : Int) (r : (List TRoute)) (_ : self a0 a1 a2 a3 = some r), FnM Try.prog 87 [.asl 0 0 a0.length, .int .i64 a1, .int .i64 a2, .int .i64 a3, .fn 33 []] 14 a0.length (fun i => c_TRoute (a0.getD i default)) (fun i => c_TRoute (r.getD i default)) (.tup [])) (a0 : List TRoute) (a1 : Int) (a2 : Int) (a3 : Int) (r : (List TRoute)) (h : M.slices_symMergeCmpFunc_api_Route__rib_Select_1_b self a0 a1 a2 a3 = some r) : FnM Try.prog 87 [.asl 0 0 a0.length, .int .i64 a1, .int .i64 a2, .int .i64 a3, .fn 33 []] 14 a0.length (fun i => c_TRoute (a0.getD i default)) (fun i => c_TRoute (r.getD i default)) (.tup []) := by
 unfold M.slices_symMergeCmpFunc_api_Route__rib_Select_1_b at h
 refine fn_mut Try.func87 rfl (by kernel_rfl) ?_
 refine awp_seq (awp_seq (rg0 [0, 1, 2, 3, 4, 28] 2 ⟨220, [(0, .asl 0 0 a0.length), (1, .int .i64 a1), (2, .int .i64 a2), (3, .int .i64 a3), (4, .fn 33 []), (28, .bool ((wr .i64 (a2 - a1)) == 1))], [aL 14 c_TRoute a0, .gone]⟩ ?_))
 refine then_n ?_
 refine cnd ((wr .i64 (a2 - a1)) == 1) (fun b1 => ?_) (fun b1 => ?_)
 have h2 := cond_t b1 h
 refine awp_seq (rg0 [0, 1, 3, 4, 10] 2 ⟨220, [(0, .asl 0 0 a0.length), (1, .int .i64 a1), (3, .int .i64 a3), (4, .fn 33 []), (10, .int .i64 a2)], [aL 14 c_TRoute a0, .gone]⟩ ?_)
 refine then_n (awp_seq (rg0 [0, 1, 4, 10, 11] 2 ⟨220, [(0, .asl 0 0 a0.length), (1, .int .i64 a1), (4, .fn 33 []), (10, .int .i64 a2), (11, .int .i64 a3)], [aL 14 c_TRoute a0, .gone]⟩ ?_))
 refine then_n (awp_seq (awp_block ?_))
 obtain ⟨y4, q17, h18⟩ := bind_some h2
 refine awp_le (s' := ⟨220, [(0, .asl 0 0 a0.length), (1, .int .i64 a1), (4, .fn 33 []), (10, .int .i64 a2), (11, .int .i64 a3)], [aL 14 c_TRoute a0, .gone]⟩) (le_rfl) ?_
 refine awp_mono (awp_loop (f := M.slices_symMergeCmpFunc_api_Route__rib_Select_1_l1 a0 a1) (S := fun (p1 : Int × Int) => ⟨220, [(0, .asl 0 0 a0.length), (1, .int .i64 a1), (4, .fn 33 []), (10, .int .i64 p1.1), (11, .int .i64 p1.2)], [aL 14 c_TRoute a0, .gone]⟩) (O := (fun z => OutE 0 (fun z => ⟨220, [(0, .asl 0 0 a0.length), (1, .int .i64 a1), (10, .int .i64 z)], [aL 14 c_TRoute a0, .gone]⟩) z)) ?_ (x := (a2, a3)) (y := y4) (loopM_iter q17)) ?_
 intro p1 y2 h4
 unfold M.slices_symMergeCmpFunc_api_Route__rib_Select_1_l1 at h4
 refine awp_seq (awp_seq (rg0 [0, 1, 4, 10, 11, 33] 2 ⟨220, [(0, .asl 0 0 a0.length), (1, .int .i64 a1), (4, .fn 33 []), (10, .int .i64 p1.1), (11, .int .i64 p1.2), (33, .bool (decide (p1.1 < p1.2)))], [aL 14 c_TRoute a0, .gone]⟩ ?_))
 refine then_n ?_
 refine cnd (decide (p1.1 < p1.2)) (fun b5 => ?_) (fun b5 => ?_)
 have h6 := cond_t b5 h4
 refine awp_skip (then_n (awp_block (awp_seq ?_)))
 obtain ⟨c8, h9⟩ := gd_some h6
 refine rgc [0, 1, 4, 10, 11, 12] 2 ⟨220, [(0, .asl 0 0 a0.length), (1, .int .i64 a1), (4, .fn 33 []), (10, .int .i64 p1.1), (11, .int .i64 p1.2), (12, .int .i64 (wr .i64 ((wr .u64 (wr .i64 (p1.1 + p1.2))).fdiv (2 ^ min (1 : Int).toNat 64))))], [aL 14 c_TRoute a0, .gone]⟩ [decide (0 ≤ 1)] c8 ?_
 refine then_n (awp_seq ?_)
 obtain ⟨r3, q10, h11⟩ := bind_some h9
 obtain ⟨c12, h13⟩ := gd_some h11
 refine rg [.pure (.int .i64 r3)] [0, 1, 4, 10, 11, 12, 50] 2 ⟨220, [(0, .asl 0 0 a0.length), (1, .int .i64 a1), (4, .fn 33 []), (10, .int .i64 p1.1), (11, .int .i64 p1.2), (12, .int .i64 (wr .i64 ((wr .u64 (wr .i64 (p1.1 + p1.2))).fdiv (2 ^ min (1 : Int).toNat 64)))), (50, .bool (decide (r3 < 0)))], [aL 14 c_TRoute a0, .gone]⟩ [decide (0 ≤ (wr .i64 ((wr .u64 (wr .i64 (p1.1 + p1.2))).fdiv (2 ^ min (1 : Int).toNat 64)))), decide ((wr .i64 ((wr .u64 (wr .i64 (p1.1 + p1.2))).fdiv (2 ^ min (1 : Int).toNat 64))) < (a0.length : Int)), decide (0 ≤ a1), decide (a1 < (a0.length : Int))] [⟨true, 33, [.agg (c_TRoute (a0.getD (0 + (wr .i64 ((wr .u64 (wr .i64 (p1.1 + p1.2))).fdiv (2 ^ min (1 : Int).toNat 64))).toNat) default)), .agg (c_TRoute (a0.getD (0 + a1.toNat) default))], .pure (.int .i64 r3)⟩] c12 ⟨fun _ => rib_Select_1_ok (a0.getD (0 + (wr .i64 ((wr .u64 (wr .i64 (p1.1 + p1.2))).fdiv (2 ^ min (1 : Int).toNat 64))).toNat) default) (a0.getD (0 + a1.toNat) default) r3 q10, trivial⟩ ?_
 refine then_n ?_
 refine cnd (decide (r3 < 0)) (fun b14 => ?_) (fun b14 => ?_)
 have h15 := cond_t b14 h13
 refine rg0 [0, 1, 4, 10, 11] 2 ⟨220, [(0, .asl 0 0 a0.length), (1, .int .i64 a1), (4, .fn 33 []), (10, .int .i64 (wr .i64 ((wr .i64 ((wr .u64 (wr .i64 (p1.1 + p1.2))).fdiv (2 ^ min (1 : Int).toNat 64))) + 1))), (11, .int .i64 p1.2)], [aL 14 c_TRoute a0, .gone]⟩ ?_
 refine inb_n ?_
 obtain rfl := Option.some.inj h15
 exact round_n (le_rfl)
 have h16 := cond_f b14 h13
 refine rg0 [0, 1, 4, 10, 11] 2 ⟨220, [(0, .asl 0 0 a0.length), (1, .int .i64 a1), (4, .fn 33 []), (10, .int .i64 p1.1), (11, .int .i64 (wr .i64 ((wr .u64 (wr .i64 (p1.1 + p1.2))).fdiv (2 ^ min (1 : Int).toNat 64))))], [aL 14 c_TRoute a0, .gone]⟩ ?_
 refine inb_n ?_
 obtain rfl := Option.some.inj h16
 exact round_n (le_rfl)
 have h7 := cond_f b5 h4
 refine awp_exit (then_e ?_)
 obtain rfl := Option.some.inj h7
 exact round_e ⟨rfl, kp [0, 1, 10]⟩
 intro e19 s20 o21
 obtain ⟨rfl, l22⟩ := o21
 refine inb_here ?_
 refine then_le (s' := ⟨220, [(0, .asl 0 0 a0.length), (1, .int .i64 a1), (10, .int .i64 y4)], [aL 14 c_TRoute a0, .gone]⟩) (l22) ?_
 refine awp_seq (awp_seq (rg0 [0, 10, 13] 2 ⟨220, [(0, .asl 0 0 a0.length), (10, .int .i64 y4), (13, .int .i64 a1)], [aL 14 c_TRoute a0, .gone]⟩ ?_))
 refine then_n (awp_block ?_)
 obtain ⟨y7, q29, h30⟩ := bind_some h18
 refine awp_le (s' := ⟨220, [(0, .asl 0 0 a0.length), (10, .int .i64 y4), (13, .int .i64 a1)], [aL 14 c_TRoute a0, .gone]⟩) (le_rfl) ?_
 refine awp_mono (awp_loop (f := M.slices_symMergeCmpFunc_api_Route__rib_Select_1_l2 y4) (S := fun (p5 : (List TRoute) × Int) => ⟨220, [(0, .asl 0 0 p5.1.length), (10, .int .i64 y4), (13, .int .i64 p5.2)], [aL 14 c_TRoute p5.1, .gone]⟩) (O := (fun z => OutE 2 (fun z => ⟨220, [], [aL 14 c_TRoute z, .gone]⟩) z)) ?_ (x := (a0, a1)) (y := y7) (loopM_iter q29)) ?_
 intro p5 y6 h23
 unfold M.slices_symMergeCmpFunc_api_Route__rib_Select_1_l2 at h23
 refine awp_seq (awp_seq (rg0 [0, 10, 13, 58] 2 ⟨220, [(0, .asl 0 0 p5.1.length), (10, .int .i64 y4), (13, .int .i64 p5.2), (58, .bool (decide (p5.2 < (wr .i64 (y4 - 1)))))], [aL 14 c_TRoute p5.1, .gone]⟩ ?_))
 refine then_n ?_
 refine cnd (decide (p5.2 < (wr .i64 (y4 - 1)))) (fun b24 => ?_) (fun b24 => ?_)
 have h25 := cond_t b24 h23
 refine awp_skip (then_n (awp_seq (awp_block ?_)))
 obtain ⟨c27, h28⟩ := gd_some h25
 refine rgw [] [0, 10, 13] 2 ⟨220, [(0, .asl 0 0 p5.1.length), (10, .int .i64 y4), (13, .int .i64 p5.2)], [.arr 14 p5.1.length (fun j => bif Nat.beq j (0 + (wr .i64 (p5.2 + 1)).toNat) then splice ((fun j => bif Nat.beq j (0 + p5.2.toNat) then splice (c_TRoute (p5.1.getD (0 + p5.2.toNat) default)) [.int .u32 (((p5.1.getD (0 + (wr .i64 (p5.2 + 1)).toNat) default).fPrefix).fAddr), .int .i64 (((p5.1.getD (0 + (wr .i64 (p5.2 + 1)).toNat) default).fPrefix).fLen), .int .i64 ((p5.1.getD (0 + (wr .i64 (p5.2 + 1)).toNat) default).fProto), .int .i64 ((p5.1.getD (0 + (wr .i64 (p5.2 + 1)).toNat) default).fClass), .int .i64 ((p5.1.getD (0 + (wr .i64 (p5.2 + 1)).toNat) default).fAdmin), .int .i64 ((p5.1.getD (0 + (wr .i64 (p5.2 + 1)).toNat) default).fMetric), .int .i64 ((p5.1.getD (0 + (wr .i64 (p5.2 + 1)).toNat) default).fInner), .int .i64 ((p5.1.getD (0 + (wr .i64 (p5.2 + 1)).toNat) default).fTag), .int .i64 ((p5.1.getD (0 + (wr .i64 (p5.2 + 1)).toNat) default).fPref), sL 1 (ci .i64) ((p5.1.getD (0 + (wr .i64 (p5.2 + 1)).toNat) default).fPath), .int .u32 ((p5.1.getD (0 + (wr .i64 (p5.2 + 1)).toNat) default).fFrom), .int .u32 ((p5.1.getD (0 + (wr .i64 (p5.2 + 1)).toNat) default).fNext), sL 2 c_THop ((p5.1.getD (0 + (wr .i64 (p5.2 + 1)).toNat) default).fHops), .bool ((p5.1.getD (0 + (wr .i64 (p5.2 + 1)).toNat) default).fDiscard)] 0 else c_TRoute (p5.1.getD j default)) (0 + (wr .i64 (p5.2 + 1)).toNat)) [.int .u32 (((p5.1.getD (0 + p5.2.toNat) default).fPrefix).fAddr), .int .i64 (((p5.1.getD (0 + p5.2.toNat) default).fPrefix).fLen), .int .i64 ((p5.1.getD (0 + p5.2.toNat) default).fProto), .int .i64 ((p5.1.getD (0 + p5.2.toNat) default).fClass), .int .i64 ((p5.1.getD (0 + p5.2.toNat) default).fAdmin), .int .i64 ((p5.1.getD (0 + p5.2.toNat) default).fMetric), .int .i64 ((p5.1.getD (0 + p5.2.toNat) default).fInner), .int .i64 ((p5.1.getD (0 + p5.2.toNat) default).fTag), .int .i64 ((p5.1.getD (0 + p5.2.toNat) default).fPref), sL 1 (ci .i64) ((p5.1.getD (0 + p5.2.toNat) default).fPath), .int .u32 ((p5.1.getD (0 + p5.2.toNat) default).fFrom), .int .u32 ((p5.1.getD (0 + p5.2.toNat) default).fNext), sL 2 c_THop ((p5.1.getD (0 + p5.2.toNat) default).fHops), .bool ((p5.1.getD (0 + p5.2.toNat) default).fDiscard)] 0 else (fun j => bif Nat.beq j (0 + p5.2.toNat) then splice (c_TRoute (p5.1.getD (0 + p5.2.toNat) default)) [.int .u32 (((p5.1.getD (0 + (wr .i64 (p5.2 + 1)).toNat) default).fPrefix).fAddr), .int .i64 (((p5.1.getD (0 + (wr .i64 (p5.2 + 1)).toNat) default).fPrefix).fLen), .int .i64 ((p5.1.getD (0 + (wr .i64 (p5.2 + 1)).toNat) default).fProto), .int .i64 ((p5.1.getD (0 + (wr .i64 (p5.2 + 1)).toNat) default).fClass), .int .i64 ((p5.1.getD (0 + (wr .i64 (p5.2 + 1)).toNat) default).fAdmin), .int .i64 ((p5.1.getD (0 + (wr .i64 (p5.2 + 1)).toNat) default).fMetric), .int .i64 ((p5.1.getD (0 + (wr .i64 (p5.2 + 1)).toNat) default).fInner), .int .i64 ((p5.1.getD (0 + (wr .i64 (p5.2 + 1)).toNat) default).fTag), .int .i64 ((p5.1.getD (0 + (wr .i64 (p5.2 + 1)).toNat) default).fPref), sL 1 (ci .i64) ((p5.1.getD (0 + (wr .i64 (p5.2 + 1)).toNat) default).fPath), .int .u32 ((p5.1.getD (0 + (wr .i64 (p5.2 + 1)).toNat) default).fFrom), .int .u32 ((p5.1.getD (0 + (wr .i64 (p5.2 + 1)).toNat) default).fNext), sL 2 c_THop ((p5.1.getD (0 + (wr .i64 (p5.2 + 1)).toNat) default).fHops), .bool ((p5.1.getD (0 + (wr .i64 (p5.2 + 1)).toNat) default).fDiscard)] 0 else c_TRoute (p5.1.getD j default)) j), .gone]⟩ [decide (0 ≤ (wr .i64 (p5.2 + 1))), decide ((wr .i64 (p5.2 + 1)) < (p5.1.length : Int)), decide (0 ≤ p5.2), decide (p5.2 < (p5.1.length : Int)), decide (0 ≤ p5.2), decide (p5.2 < (p5.1.length : Int)), decide (0 ≤ (wr .i64 (p5.2 + 1))), decide ((wr .i64 (p5.2 + 1)) < (p5.1.length : Int))] [] c27 trivial ?_
 refine inb_n ?_
 refine then_le (s' := ⟨220, [(0, .asl 0 0 (((p5.1.set (0 + p5.2.toNat) (p5.1.getD (0 + (wr .i64 (p5.2 + 1)).toNat) default)).set (0 + (wr .i64 (p5.2 + 1)).toNat) (p5.1.getD (0 + p5.2.toNat) default)).length)), (10, .int .i64 y4), (13, .int .i64 p5.2)], [aL 14 c_TRoute ((p5.1.set (0 + p5.2.toNat) (p5.1.getD (0 + (wr .i64 (p5.2 + 1)).toNat) default)).set (0 + (wr .i64 (p5.2 + 1)).toNat) (p5.1.getD (0 + p5.2.toNat) default)), .gone]⟩) (le_sub (.cons (asl_len (by simp)) (.cons Sub.rfl (.cons Sub.rfl .nil))) (.cons (.arr (by simp) (set2_ext c_TRoute p5.1 (0 + p5.2.toNat) (p5.1.getD (0 + (wr .i64 (p5.2 + 1)).toNat) default) _ rfl (0 + (wr .i64 (p5.2 + 1)).toNat) (p5.1.getD (0 + p5.2.toNat) default) _ (sp2 rfl rfl))) (.cons .rfl .nil))) ?_
 refine rg0 [0, 10, 13] 2 ⟨220, [(0, .asl 0 0 (((p5.1.set (0 + p5.2.toNat) (p5.1.getD (0 + (wr .i64 (p5.2 + 1)).toNat) default)).set (0 + (wr .i64 (p5.2 + 1)).toNat) (p5.1.getD (0 + p5.2.toNat) default)).length)), (10, .int .i64 y4), (13, .int .i64 (wr .i64 (p5.2 + 1)))], [aL 14 c_TRoute ((p5.1.set (0 + p5.2.toNat) (p5.1.getD (0 + (wr .i64 (p5.2 + 1)).toNat) default)).set (0 + (wr .i64 (p5.2 + 1)).toNat) (p5.1.getD (0 + p5.2.toNat) default)), .gone]⟩ ?_
 obtain rfl := Option.some.inj h28
 exact round_n (le_rfl)
 have h26 := cond_f b24 h23
 refine awp_exit (then_e ?_)
 obtain rfl := Option.some.inj h26
 exact round_e ⟨rfl, kp []⟩
 intro e31 s32 o33
 obtain ⟨rfl, l34⟩ := o33
 refine inb_here ?_
 refine then_le (s' := ⟨220, [], [aL 14 c_TRoute y7, .gone]⟩) (l34) ?_
 refine awp_ret (then_r ?_)
 obtain ⟨c35, h36⟩ := gd_some h30
 obtain rfl := Option.some.inj h36
 exact emr (s' := ⟨220, [], [aL 14 c_TRoute y7, .gone]⟩) (le_rfl) (len_ok c35)
 have h3 := cond_f b1 h
 refine awp_skip (then_n (awp_seq (awp_seq (rg0 [0, 1, 2, 3, 4, 80] 2 ⟨220, [(0, .asl 0 0 a0.length), (1, .int .i64 a1), (2, .int .i64 a2), (3, .int .i64 a3), (4, .fn 33 []), (80, .bool ((wr .i64 (a3 - a2)) == 1))], [aL 14 c_TRoute a0, .gone]⟩ ?_))))
 refine then_n ?_
 refine cnd ((wr .i64 (a3 - a2)) == 1) (fun b37 => ?_) (fun b37 => ?_)
 have h38 := cond_t b37 h3
 refine awp_seq (rg0 [0, 2, 4, 14] 2 ⟨220, [(0, .asl 0 0 a0.length), (2, .int .i64 a2), (4, .fn 33 []), (14, .int .i64 a1)], [aL 14 c_TRoute a0, .gone]⟩ ?_)
 refine then_n (awp_seq (rg0 [0, 2, 4, 14, 15] 2 ⟨220, [(0, .asl 0 0 a0.length), (2, .int .i64 a2), (4, .fn 33 []), (14, .int .i64 a1), (15, .int .i64 a2)], [aL 14 c_TRoute a0, .gone]⟩ ?_))
 refine then_n (awp_seq (awp_block ?_))
 obtain ⟨y11, q53, h54⟩ := bind_some h38
 refine awp_le (s' := ⟨220, [(0, .asl 0 0 a0.length), (2, .int .i64 a2), (4, .fn 33 []), (14, .int .i64 a1), (15, .int .i64 a2)], [aL 14 c_TRoute a0, .gone]⟩) (le_rfl) ?_
 refine awp_mono (awp_loop (f := M.slices_symMergeCmpFunc_api_Route__rib_Select_1_l3 a0 a2) (S := fun (p8 : Int × Int) => ⟨220, [(0, .asl 0 0 a0.length), (2, .int .i64 a2), (4, .fn 33 []), (14, .int .i64 p8.1), (15, .int .i64 p8.2)], [aL 14 c_TRoute a0, .gone]⟩) (O := (fun z => OutE 4 (fun z => ⟨220, [(0, .asl 0 0 a0.length), (2, .int .i64 a2), (14, .int .i64 z)], [aL 14 c_TRoute a0, .gone]⟩) z)) ?_ (x := (a1, a2)) (y := y11) (loopM_iter q53)) ?_
 intro p8 y9 h40
 unfold M.slices_symMergeCmpFunc_api_Route__rib_Select_1_l3 at h40
 refine awp_seq (awp_seq (rg0 [0, 2, 4, 14, 15, 85] 2 ⟨220, [(0, .asl 0 0 a0.length), (2, .int .i64 a2), (4, .fn 33 []), (14, .int .i64 p8.1), (15, .int .i64 p8.2), (85, .bool (decide (p8.1 < p8.2)))], [aL 14 c_TRoute a0, .gone]⟩ ?_))
 refine then_n ?_
 refine cnd (decide (p8.1 < p8.2)) (fun b41 => ?_) (fun b41 => ?_)
 have h42 := cond_t b41 h40
 refine awp_skip (then_n (awp_block (awp_seq ?_)))
 obtain ⟨c44, h45⟩ := gd_some h42
 refine rgc [0, 2, 4, 14, 15, 16] 2 ⟨220, [(0, .asl 0 0 a0.length), (2, .int .i64 a2), (4, .fn 33 []), (14, .int .i64 p8.1), (15, .int .i64 p8.2), (16, .int .i64 (wr .i64 ((wr .u64 (wr .i64 (p8.1 + p8.2))).fdiv (2 ^ min (1 : Int).toNat 64))))], [aL 14 c_TRoute a0, .gone]⟩ [decide (0 ≤ 1)] c44 ?_
 refine then_n (awp_seq ?_)
 obtain ⟨r10, q46, h47⟩ := bind_some h45
 obtain ⟨c48, h49⟩ := gd_some h47
 refine rg [.pure (.int .i64 r10)] [0, 2, 4, 14, 15, 16, 103] 2 ⟨220, [(0, .asl 0 0 a0.length), (2, .int .i64 a2), (4, .fn 33 []), (14, .int .i64 p8.1), (15, .int .i64 p8.2), (16, .int .i64 (wr .i64 ((wr .u64 (wr .i64 (p8.1 + p8.2))).fdiv (2 ^ min (1 : Int).toNat 64)))), (103, .bool (!(decide (r10 < 0))))], [aL 14 c_TRoute a0, .gone]⟩ [decide (0 ≤ a2), decide (a2 < (a0.length : Int)), decide (0 ≤ (wr .i64 ((wr .u64 (wr .i64 (p8.1 + p8.2))).fdiv (2 ^ min (1 : Int).toNat 64)))), decide ((wr .i64 ((wr .u64 (wr .i64 (p8.1 + p8.2))).fdiv (2 ^ min (1 : Int).toNat 64))) < (a0.length : Int))] [⟨true, 33, [.agg (c_TRoute (a0.getD (0 + a2.toNat) default)), .agg (c_TRoute (a0.getD (0 + (wr .i64 ((wr .u64 (wr .i64 (p8.1 + p8.2))).fdiv (2 ^ min (1 : Int).toNat 64))).toNat) default))], .pure (.int .i64 r10)⟩] c48 ⟨fun _ => rib_Select_1_ok (a0.getD (0 + a2.toNat) default) (a0.getD (0 + (wr .i64 ((wr .u64 (wr .i64 (p8.1 + p8.2))).fdiv (2 ^ min (1 : Int).toNat 64))).toNat) default) r10 q46, trivial⟩ ?_
 refine then_n ?_
 refine cnd (!(decide (r10 < 0))) (fun b50 => ?_) (fun b50 => ?_)
 have h51 := cond_t b50 h49
 refine rg0 [0, 2, 4, 14, 15] 2 ⟨220, [(0, .asl 0 0 a0.length), (2, .int .i64 a2), (4, .fn 33 []), (14, .int .i64 (wr .i64 ((wr .i64 ((wr .u64 (wr .i64 (p8.1 + p8.2))).fdiv (2 ^ min (1 : Int).toNat 64))) + 1))), (15, .int .i64 p8.2)], [aL 14 c_TRoute a0, .gone]⟩ ?_
 refine inb_n ?_
 obtain rfl := Option.some.inj h51
 exact round_n (le_rfl)
 have h52 := cond_f b50 h49
 refine rg0 [0, 2, 4, 14, 15] 2 ⟨220, [(0, .asl 0 0 a0.length), (2, .int .i64 a2), (4, .fn 33 []), (14, .int .i64 p8.1), (15, .int .i64 (wr .i64 ((wr .u64 (wr .i64 (p8.1 + p8.2))).fdiv (2 ^ min (1 : Int).toNat 64))))], [aL 14 c_TRoute a0, .gone]⟩ ?_
 refine inb_n ?_
 obtain rfl := Option.some.inj h52
 exact round_n (le_rfl)
 have h43 := cond_f b41 h40
 refine awp_exit (then_e ?_)
 obtain rfl := Option.some.inj h43
 exact round_e ⟨rfl, kp [0, 2, 14]⟩
 intro e55 s56 o57
 obtain ⟨rfl, l58⟩ := o57
 refine inb_here ?_
 refine then_le (s' := ⟨220, [(0, .asl 0 0 a0.length), (2, .int .i64 a2), (14, .int .i64 y11)], [aL 14 c_TRoute a0, .gone]⟩) (l58) ?_
 refine awp_seq (awp_seq (rg0 [0, 14, 17] 2 ⟨220, [(0, .asl 0 0 a0.length), (14, .int .i64 y11), (17, .int .i64 a2)], [aL 14 c_TRoute a0, .gone]⟩ ?_))
 refine then_n (awp_block ?_)
 obtain ⟨y14, q65, h66⟩ := bind_some h54
 refine awp_le (s' := ⟨220, [(0, .asl 0 0 a0.length), (14, .int .i64 y11), (17, .int .i64 a2)], [aL 14 c_TRoute a0, .gone]⟩) (le_rfl) ?_
 refine awp_mono (awp_loop (f := M.slices_symMergeCmpFunc_api_Route__rib_Select_1_l4 y11) (S := fun (p12 : (List TRoute) × Int) => ⟨220, [(0, .asl 0 0 p12.1.length), (14, .int .i64 y11), (17, .int .i64 p12.2)], [aL 14 c_TRoute p12.1, .gone]⟩) (O := (fun z => OutE 6 (fun z => ⟨220, [], [aL 14 c_TRoute z, .gone]⟩) z)) ?_ (x := (a0, a2)) (y := y14) (loopM_iter q65)) ?_
 intro p12 y13 h59
 unfold M.slices_symMergeCmpFunc_api_Route__rib_Select_1_l4 at h59
 refine awp_seq (awp_seq (rg0 [0, 14, 17, 110] 2 ⟨220, [(0, .asl 0 0 p12.1.length), (14, .int .i64 y11), (17, .int .i64 p12.2), (110, .bool (decide (p12.2 > y11)))], [aL 14 c_TRoute p12.1, .gone]⟩ ?_))
 refine then_n ?_
 refine cnd (decide (p12.2 > y11)) (fun b60 => ?_) (fun b60 => ?_)
 have h61 := cond_t b60 h59
 refine awp_skip (then_n (awp_seq (awp_block ?_)))
 obtain ⟨c63, h64⟩ := gd_some h61
 refine rgw [] [0, 14, 17] 2 ⟨220, [(0, .asl 0 0 p12.1.length), (14, .int .i64 y11), (17, .int .i64 p12.2)], [.arr 14 p12.1.length (fun j => bif Nat.beq j (0 + (wr .i64 (p12.2 - 1)).toNat) then splice ((fun j => bif Nat.beq j (0 + p12.2.toNat) then splice (c_TRoute (p12.1.getD (0 + p12.2.toNat) default)) [.int .u32 (((p12.1.getD (0 + (wr .i64 (p12.2 - 1)).toNat) default).fPrefix).fAddr), .int .i64 (((p12.1.getD (0 + (wr .i64 (p12.2 - 1)).toNat) default).fPrefix).fLen), .int .i64 ((p12.1.getD (0 + (wr .i64 (p12.2 - 1)).toNat) default).fProto), .int .i64 ((p12.1.getD (0 + (wr .i64 (p12.2 - 1)).toNat) default).fClass), .int .i64 ((p12.1.getD (0 + (wr .i64 (p12.2 - 1)).toNat) default).fAdmin), .int .i64 ((p12.1.getD (0 + (wr .i64 (p12.2 - 1)).toNat) default).fMetric), .int .i64 ((p12.1.getD (0 + (wr .i64 (p12.2 - 1)).toNat) default).fInner), .int .i64 ((p12.1.getD (0 + (wr .i64 (p12.2 - 1)).toNat) default).fTag), .int .i64 ((p12.1.getD (0 + (wr .i64 (p12.2 - 1)).toNat) default).fPref), sL 1 (ci .i64) ((p12.1.getD (0 + (wr .i64 (p12.2 - 1)).toNat) default).fPath), .int .u32 ((p12.1.getD (0 + (wr .i64 (p12.2 - 1)).toNat) default).fFrom), .int .u32 ((p12.1.getD (0 + (wr .i64 (p12.2 - 1)).toNat) default).fNext), sL 2 c_THop ((p12.1.getD (0 + (wr .i64 (p12.2 - 1)).toNat) default).fHops), .bool ((p12.1.getD (0 + (wr .i64 (p12.2 - 1)).toNat) default).fDiscard)] 0 else c_TRoute (p12.1.getD j default)) (0 + (wr .i64 (p12.2 - 1)).toNat)) [.int .u32 (((p12.1.getD (0 + p12.2.toNat) default).fPrefix).fAddr), .int .i64 (((p12.1.getD (0 + p12.2.toNat) default).fPrefix).fLen), .int .i64 ((p12.1.getD (0 + p12.2.toNat) default).fProto), .int .i64 ((p12.1.getD (0 + p12.2.toNat) default).fClass), .int .i64 ((p12.1.getD (0 + p12.2.toNat) default).fAdmin), .int .i64 ((p12.1.getD (0 + p12.2.toNat) default).fMetric), .int .i64 ((p12.1.getD (0 + p12.2.toNat) default).fInner), .int .i64 ((p12.1.getD (0 + p12.2.toNat) default).fTag), .int .i64 ((p12.1.getD (0 + p12.2.toNat) default).fPref), sL 1 (ci .i64) ((p12.1.getD (0 + p12.2.toNat) default).fPath), .int .u32 ((p12.1.getD (0 + p12.2.toNat) default).fFrom), .int .u32 ((p12.1.getD (0 + p12.2.toNat) default).fNext), sL 2 c_THop ((p12.1.getD (0 + p12.2.toNat) default).fHops), .bool ((p12.1.getD (0 + p12.2.toNat) default).fDiscard)] 0 else (fun j => bif Nat.beq j (0 + p12.2.toNat) then splice (c_TRoute (p12.1.getD (0 + p12.2.toNat) default)) [.int .u32 (((p12.1.getD (0 + (wr .i64 (p12.2 - 1)).toNat) default).fPrefix).fAddr), .int .i64 (((p12.1.getD (0 + (wr .i64 (p12.2 - 1)).toNat) default).fPrefix).fLen), .int .i64 ((p12.1.getD (0 + (wr .i64 (p12.2 - 1)).toNat) default).fProto), .int .i64 ((p12.1.getD (0 + (wr .i64 (p12.2 - 1)).toNat) default).fClass), .int .i64 ((p12.1.getD (0 + (wr .i64 (p12.2 - 1)).toNat) default).fAdmin), .int .i64 ((p12.1.getD (0 + (wr .i64 (p12.2 - 1)).toNat) default).fMetric), .int .i64 ((p12.1.getD (0 + (wr .i64 (p12.2 - 1)).toNat) default).fInner), .int .i64 ((p12.1.getD (0 + (wr .i64 (p12.2 - 1)).toNat) default).fTag), .int .i64 ((p12.1.getD (0 + (wr .i64 (p12.2 - 1)).toNat) default).fPref), sL 1 (ci .i64) ((p12.1.getD (0 + (wr .i64 (p12.2 - 1)).toNat) default).fPath), .int .u32 ((p12.1.getD (0 + (wr .i64 (p12.2 - 1)).toNat) default).fFrom), .int .u32 ((p12.1.getD (0 + (wr .i64 (p12.2 - 1)).toNat) default).fNext), sL 2 c_THop ((p12.1.getD (0 + (wr .i64 (p12.2 - 1)).toNat) default).fHops), .bool ((p12.1.getD (0 + (wr .i64 (p12.2 - 1)).toNat) default).fDiscard)] 0 else c_TRoute (p12.1.getD j default)) j), .gone]⟩ [decide (0 ≤ (wr .i64 (p12.2 - 1))), decide ((wr .i64 (p12.2 - 1)) < (p12.1.length : Int)), decide (0 ≤ p12.2), decide (p12.2 < (p12.1.length : Int)), decide (0 ≤ p12.2), decide (p12.2 < (p12.1.length : Int)), decide (0 ≤ (wr .i64 (p12.2 - 1))), decide ((wr .i64 (p12.2 - 1)) < (p12.1.length : Int))] [] c63 trivial ?_
 refine inb_n ?_
 refine then_le (s' := ⟨220, [(0, .asl 0 0 (((p12.1.set (0 + p12.2.toNat) (p12.1.getD (0 + (wr .i64 (p12.2 - 1)).toNat) default)).set (0 + (wr .i64 (p12.2 - 1)).toNat) (p12.1.getD (0 + p12.2.toNat) default)).length)), (14, .int .i64 y11), (17, .int .i64 p12.2)], [aL 14 c_TRoute ((p12.1.set (0 + p12.2.toNat) (p12.1.getD (0 + (wr .i64 (p12.2 - 1)).toNat) default)).set (0 + (wr .i64 (p12.2 - 1)).toNat) (p12.1.getD (0 + p12.2.toNat) default)), .gone]⟩) (le_sub (.cons (asl_len (by simp)) (.cons Sub.rfl (.cons Sub.rfl .nil))) (.cons (.arr (by simp) (set2_ext c_TRoute p12.1 (0 + p12.2.toNat) (p12.1.getD (0 + (wr .i64 (p12.2 - 1)).toNat) default) _ rfl (0 + (wr .i64 (p12.2 - 1)).toNat) (p12.1.getD (0 + p12.2.toNat) default) _ (sp2 rfl rfl))) (.cons .rfl .nil))) ?_
 refine rg0 [0, 14, 17] 2 ⟨220, [(0, .asl 0 0 (((p12.1.set (0 + p12.2.toNat) (p12.1.getD (0 + (wr .i64 (p12.2 - 1)).toNat) default)).set (0 + (wr .i64 (p12.2 - 1)).toNat) (p12.1.getD (0 + p12.2.toNat) default)).length)), (14, .int .i64 y11), (17, .int .i64 (wr .i64 (p12.2 - 1)))], [aL 14 c_TRoute ((p12.1.set (0 + p12.2.toNat) (p12.1.getD (0 + (wr .i64 (p12.2 - 1)).toNat) default)).set (0 + (wr .i64 (p12.2 - 1)).toNat) (p12.1.getD (0 + p12.2.toNat) default)), .gone]⟩ ?_
 obtain rfl := Option.some.inj h64
 exact round_n (le_rfl)
 have h62 := cond_f b60 h59
 refine awp_exit (then_e ?_)
 obtain rfl := Option.some.inj h62
 exact round_e ⟨rfl, kp []⟩
 intro e67 s68 o69
 obtain ⟨rfl, l70⟩ := o69
 refine inb_here ?_
 refine then_le (s' := ⟨220, [], [aL 14 c_TRoute y14, .gone]⟩) (l70) ?_
 refine awp_ret (then_r ?_)
 obtain ⟨c71, h72⟩ := gd_some h66
 obtain rfl := Option.some.inj h72
 exact emr (s' := ⟨220, [], [aL 14 c_TRoute y14, .gone]⟩) (le_rfl) (len_ok c71)
 have h39 := cond_f b37 h3
 refine awp_skip (then_n (awp_seq ?_))
 obtain ⟨c73, h74⟩ := gd_some h39
 refine rgc [0, 1, 2, 3, 4, 18] 2 ⟨220, [(0, .asl 0 0 a0.length), (1, .int .i64 a1), (2, .int .i64 a2), (3, .int .i64 a3), (4, .fn 33 []), (18, .int .i64 (wr .i64 ((wr .u64 (wr .i64 (a1 + a3))).fdiv (2 ^ min (1 : Int).toNat 64))))], [aL 14 c_TRoute a0, .gone]⟩ [decide (0 ≤ 1)] c73 ?_
 refine then_n (awp_seq (rg0 [0, 1, 2, 3, 4, 18, 19] 2 ⟨220, [(0, .asl 0 0 a0.length), (1, .int .i64 a1), (2, .int .i64 a2), (3, .int .i64 a3), (4, .fn 33 []), (18, .int .i64 (wr .i64 ((wr .u64 (wr .i64 (a1 + a3))).fdiv (2 ^ min (1 : Int).toNat 64)))), (19, .int .i64 (wr .i64 ((wr .i64 ((wr .u64 (wr .i64 (a1 + a3))).fdiv (2 ^ min (1 : Int).toNat 64))) + a2)))], [aL 14 c_TRoute a0, .gone]⟩ ?_))
 refine then_n (awp_seq (rg0 [0, 1, 2, 3, 4, 18, 19] 2 ⟨220, [(0, .asl 0 0 a0.length), (1, .int .i64 a1), (2, .int .i64 a2), (3, .int .i64 a3), (4, .fn 33 []), (18, .int .i64 (wr .i64 ((wr .u64 (wr .i64 (a1 + a3))).fdiv (2 ^ min (1 : Int).toNat 64)))), (19, .int .i64 (wr .i64 ((wr .i64 ((wr .u64 (wr .i64 (a1 + a3))).fdiv (2 ^ min (1 : Int).toNat 64))) + a2)))], [aL 14 c_TRoute a0, .gone]⟩ ?_))
 refine then_n ?_
 refine awp_join (fun (p15 : Int × Int) => ⟨220, [(0, .asl 0 0 a0.length), (1, .int .i64 a1), (2, .int .i64 a2), (3, .int .i64 a3), (4, .fn 33 []), (18, .int .i64 (wr .i64 ((wr .u64 (wr .i64 (a1 + a3))).fdiv (2 ^ min (1 : Int).toNat 64)))), (19, .int .i64 (wr .i64 ((wr .i64 ((wr .u64 (wr .i64 (a1 + a3))).fdiv (2 ^ min (1 : Int).toNat 64))) + a2))), (20, .int .i64 p15.1), (21, .int .i64 p15.2)], [aL 14 c_TRoute a0, .gone]⟩) (fun p15 => M.slices_symMergeCmpFunc_api_Route__rib_Select_1_k1 self a0 a1 a2 a3 p15 = some r) ?_ ?_
 intro p15 h76
 unfold M.slices_symMergeCmpFunc_api_Route__rib_Select_1_k1 at h76
 refine awp_seq (rg0 [0, 1, 2, 3, 4, 18, 19, 20, 21, 22] 2 ⟨220, [(0, .asl 0 0 a0.length), (1, .int .i64 a1), (2, .int .i64 a2), (3, .int .i64 a3), (4, .fn 33 []), (18, .int .i64 (wr .i64 ((wr .u64 (wr .i64 (a1 + a3))).fdiv (2 ^ min (1 : Int).toNat 64)))), (19, .int .i64 (wr .i64 ((wr .i64 ((wr .u64 (wr .i64 (a1 + a3))).fdiv (2 ^ min (1 : Int).toNat 64))) + a2))), (20, .int .i64 p15.1), (21, .int .i64 p15.2), (22, .int .i64 (wr .i64 ((wr .i64 ((wr .i64 ((wr .u64 (wr .i64 (a1 + a3))).fdiv (2 ^ min (1 : Int).toNat 64))) + a2)) - 1)))], [aL 14 c_TRoute a0, .gone]⟩ ?_)
 refine then_n (awp_seq (awp_block ?_))
 obtain ⟨y19, q90, h91⟩ := bind_some h76
 refine awp_le (s' := ⟨220, [(0, .asl 0 0 a0.length), (1, .int .i64 a1), (2, .int .i64 a2), (3, .int .i64 a3), (4, .fn 33 []), (18, .int .i64 (wr .i64 ((wr .u64 (wr .i64 (a1 + a3))).fdiv (2 ^ min (1 : Int).toNat 64)))), (19, .int .i64 (wr .i64 ((wr .i64 ((wr .u64 (wr .i64 (a1 + a3))).fdiv (2 ^ min (1 : Int).toNat 64))) + a2))), (20, .int .i64 p15.1), (21, .int .i64 p15.2), (22, .int .i64 (wr .i64 ((wr .i64 ((wr .i64 ((wr .u64 (wr .i64 (a1 + a3))).fdiv (2 ^ min (1 : Int).toNat 64))) + a2)) - 1)))], [aL 14 c_TRoute a0, .gone]⟩) (le_rfl) ?_
 refine awp_mono (awp_loop (f := M.slices_symMergeCmpFunc_api_Route__rib_Select_1_l5 a0 a1 a2 a3) (S := fun (p16 : Int × Int) => ⟨220, [(0, .asl 0 0 a0.length), (1, .int .i64 a1), (2, .int .i64 a2), (3, .int .i64 a3), (4, .fn 33 []), (18, .int .i64 (wr .i64 ((wr .u64 (wr .i64 (a1 + a3))).fdiv (2 ^ min (1 : Int).toNat 64)))), (19, .int .i64 (wr .i64 ((wr .i64 ((wr .u64 (wr .i64 (a1 + a3))).fdiv (2 ^ min (1 : Int).toNat 64))) + a2))), (20, .int .i64 p16.1), (21, .int .i64 p16.2), (22, .int .i64 (wr .i64 ((wr .i64 ((wr .i64 ((wr .u64 (wr .i64 (a1 + a3))).fdiv (2 ^ min (1 : Int).toNat 64))) + a2)) - 1)))], [aL 14 c_TRoute a0, .gone]⟩) (O := (fun z => OutE 8 (fun z => ⟨220, [(0, .asl 0 0 a0.length), (1, .int .i64 a1), (2, .int .i64 a2), (3, .int .i64 a3), (4, .fn 33 []), (18, .int .i64 (wr .i64 ((wr .u64 (wr .i64 (a1 + a3))).fdiv (2 ^ min (1 : Int).toNat 64)))), (19, .int .i64 (wr .i64 ((wr .i64 ((wr .u64 (wr .i64 (a1 + a3))).fdiv (2 ^ min (1 : Int).toNat 64))) + a2))), (20, .int .i64 z)], [aL 14 c_TRoute a0, .gone]⟩) z)) ?_ (x := (p15.1, p15.2)) (y := y19) (loopM_iter q90)) ?_
 intro p16 y17 h77
 unfold M.slices_symMergeCmpFunc_api_Route__rib_Select_1_l5 at h77
 refine awp_seq (awp_seq (rg0 [0, 1, 2, 3, 4, 18, 19, 20, 21, 22, 151] 2 ⟨220, [(0, .asl 0 0 a0.length), (1, .int .i64 a1), (2, .int .i64 a2), (3, .int .i64 a3), (4, .fn 33 []), (18, .int .i64 (wr .i64 ((wr .u64 (wr .i64 (a1 + a3))).fdiv (2 ^ min (1 : Int).toNat 64)))), (19, .int .i64 (wr .i64 ((wr .i64 ((wr .u64 (wr .i64 (a1 + a3))).fdiv (2 ^ min (1 : Int).toNat 64))) + a2))), (20, .int .i64 p16.1), (21, .int .i64 p16.2), (22, .int .i64 (wr .i64 ((wr .i64 ((wr .i64 ((wr .u64 (wr .i64 (a1 + a3))).fdiv (2 ^ min (1 : Int).toNat 64))) + a2)) - 1))), (151, .bool (decide (p16.1 < p16.2)))], [aL 14 c_TRoute a0, .gone]⟩ ?_))
 refine then_n ?_
 refine cnd (decide (p16.1 < p16.2)) (fun b78 => ?_) (fun b78 => ?_)
 have h79 := cond_t b78 h77
 refine awp_skip (then_n (awp_block (awp_seq ?_)))
 obtain ⟨c81, h82⟩ := gd_some h79
 refine rgc [0, 1, 2, 3, 4, 18, 19, 20, 21, 22, 23] 2 ⟨220, [(0, .asl 0 0 a0.length), (1, .int .i64 a1), (2, .int .i64 a2), (3, .int .i64 a3), (4, .fn 33 []), (18, .int .i64 (wr .i64 ((wr .u64 (wr .i64 (a1 + a3))).fdiv (2 ^ min (1 : Int).toNat 64)))), (19, .int .i64 (wr .i64 ((wr .i64 ((wr .u64 (wr .i64 (a1 + a3))).fdiv (2 ^ min (1 : Int).toNat 64))) + a2))), (20, .int .i64 p16.1), (21, .int .i64 p16.2), (22, .int .i64 (wr .i64 ((wr .i64 ((wr .i64 ((wr .u64 (wr .i64 (a1 + a3))).fdiv (2 ^ min (1 : Int).toNat 64))) + a2)) - 1))), (23, .int .i64 (wr .i64 ((wr .u64 (wr .i64 (p16.1 + p16.2))).fdiv (2 ^ min (1 : Int).toNat 64))))], [aL 14 c_TRoute a0, .gone]⟩ [decide (0 ≤ 1)] c81 ?_
 refine then_n (awp_seq ?_)
 obtain ⟨r18, q83, h84⟩ := bind_some h82
 obtain ⟨c85, h86⟩ := gd_some h84
 refine rg [.pure (.int .i64 r18)] [0, 1, 2, 3, 4, 18, 19, 20, 21, 22, 23, 171] 2 ⟨220, [(0, .asl 0 0 a0.length), (1, .int .i64 a1), (2, .int .i64 a2), (3, .int .i64 a3), (4, .fn 33 []), (18, .int .i64 (wr .i64 ((wr .u64 (wr .i64 (a1 + a3))).fdiv (2 ^ min (1 : Int).toNat 64)))), (19, .int .i64 (wr .i64 ((wr .i64 ((wr .u64 (wr .i64 (a1 + a3))).fdiv (2 ^ min (1 : Int).toNat 64))) + a2))), (20, .int .i64 p16.1), (21, .int .i64 p16.2), (22, .int .i64 (wr .i64 ((wr .i64 ((wr .i64 ((wr .u64 (wr .i64 (a1 + a3))).fdiv (2 ^ min (1 : Int).toNat 64))) + a2)) - 1))), (23, .int .i64 (wr .i64 ((wr .u64 (wr .i64 (p16.1 + p16.2))).fdiv (2 ^ min (1 : Int).toNat 64)))), (171, .bool (!(decide (r18 < 0))))], [aL 14 c_TRoute a0, .gone]⟩ [decide (0 ≤ (wr .i64 ((wr .i64 ((wr .i64 ((wr .i64 ((wr .u64 (wr .i64 (a1 + a3))).fdiv (2 ^ min (1 : Int).toNat 64))) + a2)) - 1)) - (wr .i64 ((wr .u64 (wr .i64 (p16.1 + p16.2))).fdiv (2 ^ min (1 : Int).toNat 64)))))), decide ((wr .i64 ((wr .i64 ((wr .i64 ((wr .i64 ((wr .u64 (wr .i64 (a1 + a3))).fdiv (2 ^ min (1 : Int).toNat 64))) + a2)) - 1)) - (wr .i64 ((wr .u64 (wr .i64 (p16.1 + p16.2))).fdiv (2 ^ min (1 : Int).toNat 64))))) < (a0.length : Int)), decide (0 ≤ (wr .i64 ((wr .u64 (wr .i64 (p16.1 + p16.2))).fdiv (2 ^ min (1 : Int).toNat 64)))), decide ((wr .i64 ((wr .u64 (wr .i64 (p16.1 + p16.2))).fdiv (2 ^ min (1 : Int).toNat 64))) < (a0.length : Int))] [⟨true, 33, [.agg (c_TRoute (a0.getD (0 + (wr .i64 ((wr .i64 ((wr .i64 ((wr .i64 ((wr .u64 (wr .i64 (a1 + a3))).fdiv (2 ^ min (1 : Int).toNat 64))) + a2)) - 1)) - (wr .i64 ((wr .u64 (wr .i64 (p16.1 + p16.2))).fdiv (2 ^ min (1 : Int).toNat 64))))).toNat) default)), .agg (c_TRoute (a0.getD (0 + (wr .i64 ((wr .u64 (wr .i64 (p16.1 + p16.2))).fdiv (2 ^ min (1 : Int).toNat 64))).toNat) default))], .pure (.int .i64 r18)⟩] c85 ⟨fun _ => rib_Select_1_ok (a0.getD (0 + (wr .i64 ((wr .i64 ((wr .i64 ((wr .i64 ((wr .u64 (wr .i64 (a1 + a3))).fdiv (2 ^ min (1 : Int).toNat 64))) + a2)) - 1)) - (wr .i64 ((wr .u64 (wr .i64 (p16.1 + p16.2))).fdiv (2 ^ min (1 : Int).toNat 64))))).toNat) default) (a0.getD (0 + (wr .i64 ((wr .u64 (wr .i64 (p16.1 + p16.2))).fdiv (2 ^ min (1 : Int).toNat 64))).toNat) default) r18 q83, trivial⟩ ?_
 refine then_n ?_
 refine cnd (!(decide (r18 < 0))) (fun b87 => ?_) (fun b87 => ?_)
 have h88 := cond_t b87 h86
 refine rg0 [0, 1, 2, 3, 4, 18, 19, 20, 21, 22] 2 ⟨220, [(0, .asl 0 0 a0.length), (1, .int .i64 a1), (2, .int .i64 a2), (3, .int .i64 a3), (4, .fn 33 []), (18, .int .i64 (wr .i64 ((wr .u64 (wr .i64 (a1 + a3))).fdiv (2 ^ min (1 : Int).toNat 64)))), (19, .int .i64 (wr .i64 ((wr .i64 ((wr .u64 (wr .i64 (a1 + a3))).fdiv (2 ^ min (1 : Int).toNat 64))) + a2))), (20, .int .i64 (wr .i64 ((wr .i64 ((wr .u64 (wr .i64 (p16.1 + p16.2))).fdiv (2 ^ min (1 : Int).toNat 64))) + 1))), (21, .int .i64 p16.2), (22, .int .i64 (wr .i64 ((wr .i64 ((wr .i64 ((wr .u64 (wr .i64 (a1 + a3))).fdiv (2 ^ min (1 : Int).toNat 64))) + a2)) - 1)))], [aL 14 c_TRoute a0, .gone]⟩ ?_
 refine inb_n ?_
 obtain rfl := Option.some.inj h88
 exact round_n (le_rfl)
 have h89 := cond_f b87 h86
 refine rg0 [0, 1, 2, 3, 4, 18, 19, 20, 21, 22] 2 ⟨220, [(0, .asl 0 0 a0.length), (1, .int .i64 a1), (2, .int .i64 a2), (3, .int .i64 a3), (4, .fn 33 []), (18, .int .i64 (wr .i64 ((wr .u64 (wr .i64 (a1 + a3))).fdiv (2 ^ min (1 : Int).toNat 64)))), (19, .int .i64 (wr .i64 ((wr .i64 ((wr .u64 (wr .i64 (a1 + a3))).fdiv (2 ^ min (1 : Int).toNat 64))) + a2))), (20, .int .i64 p16.1), (21, .int .i64 (wr .i64 ((wr .u64 (wr .i64 (p16.1 + p16.2))).fdiv (2 ^ min (1 : Int).toNat 64)))), (22, .int .i64 (wr .i64 ((wr .i64 ((wr .i64 ((wr .u64 (wr .i64 (a1 + a3))).fdiv (2 ^ min (1 : Int).toNat 64))) + a2)) - 1)))], [aL 14 c_TRoute a0, .gone]⟩ ?_
 refine inb_n ?_
 obtain rfl := Option.some.inj h89
 exact round_n (le_rfl)
 have h80 := cond_f b78 h77
 refine awp_exit (then_e ?_)
 obtain rfl := Option.some.inj h80
 exact round_e ⟨rfl, kp [0, 1, 2, 3, 4, 18, 19, 20]⟩
 intro e92 s93 o94
 obtain ⟨rfl, l95⟩ := o94
 refine inb_here ?_
 refine then_le (s' := ⟨220, [(0, .asl 0 0 a0.length), (1, .int .i64 a1), (2, .int .i64 a2), (3, .int .i64 a3), (4, .fn 33 []), (18, .int .i64 (wr .i64 ((wr .u64 (wr .i64 (a1 + a3))).fdiv (2 ^ min (1 : Int).toNat 64)))), (19, .int .i64 (wr .i64 ((wr .i64 ((wr .u64 (wr .i64 (a1 + a3))).fdiv (2 ^ min (1 : Int).toNat 64))) + a2))), (20, .int .i64 y19)], [aL 14 c_TRoute a0, .gone]⟩) (l95) ?_
 refine awp_seq (rg0 [0, 1, 2, 3, 4, 18, 20, 24] 2 ⟨220, [(0, .asl 0 0 a0.length), (1, .int .i64 a1), (2, .int .i64 a2), (3, .int .i64 a3), (4, .fn 33 []), (18, .int .i64 (wr .i64 ((wr .u64 (wr .i64 (a1 + a3))).fdiv (2 ^ min (1 : Int).toNat 64)))), (20, .int .i64 y19), (24, .int .i64 (wr .i64 ((wr .i64 ((wr .i64 ((wr .u64 (wr .i64 (a1 + a3))).fdiv (2 ^ min (1 : Int).toNat 64))) + a2)) - y19)))], [aL 14 c_TRoute a0, .gone]⟩ ?_)
 refine then_n ?_
 refine awp_join (fun (p20 : (List TRoute)) => ⟨220, [(0, .asl 0 0 p20.length), (1, .int .i64 a1), (3, .int .i64 a3), (4, .fn 33 []), (18, .int .i64 (wr .i64 ((wr .u64 (wr .i64 (a1 + a3))).fdiv (2 ^ min (1 : Int).toNat 64)))), (20, .int .i64 y19), (24, .int .i64 (wr .i64 ((wr .i64 ((wr .i64 ((wr .u64 (wr .i64 (a1 + a3))).fdiv (2 ^ min (1 : Int).toNat 64))) + a2)) - y19)))], [aL 14 c_TRoute p20, .gone]⟩) (fun p20 => M.slices_symMergeCmpFunc_api_Route__rib_Select_1_k2 self a0 a1 a2 a3 y19 p20 = some r) ?_ ?_
 intro p20 h97
 unfold M.slices_symMergeCmpFunc_api_Route__rib_Select_1_k2 at h97
 refine awp_join (fun (p21 : (List TRoute)) => ⟨220, [(0, .asl 0 0 p21.length), (3, .int .i64 a3), (4, .fn 33 []), (18, .int .i64 (wr .i64 ((wr .u64 (wr .i64 (a1 + a3))).fdiv (2 ^ min (1 : Int).toNat 64)))), (24, .int .i64 (wr .i64 ((wr .i64 ((wr .i64 ((wr .u64 (wr .i64 (a1 + a3))).fdiv (2 ^ min (1 : Int).toNat 64))) + a2)) - y19)))], [aL 14 c_TRoute p21, .gone]⟩) (fun p21 => M.slices_symMergeCmpFunc_api_Route__rib_Select_1_k3 self a0 a1 a2 a3 y19 p21 = some r) ?_ ?_
 intro p21 h99
 unfold M.slices_symMergeCmpFunc_api_Route__rib_Select_1_k3 at h99
 refine awp_seq (rg0 [0, 3, 4, 18, 24, 213] 2 ⟨220, [(0, .asl 0 0 p21.length), (3, .int .i64 a3), (4, .fn 33 []), (18, .int .i64 (wr .i64 ((wr .u64 (wr .i64 (a1 + a3))).fdiv (2 ^ min (1 : Int).toNat 64)))), (24, .int .i64 (wr .i64 ((wr .i64 ((wr .i64 ((wr .u64 (wr .i64 (a1 + a3))).fdiv (2 ^ min (1 : Int).toNat 64))) + a2)) - y19))), (213, .bool ((decide ((wr .i64 ((wr .u64 (wr .i64 (a1 + a3))).fdiv (2 ^ min (1 : Int).toNat 64))) < (wr .i64 ((wr .i64 ((wr .i64 ((wr .u64 (wr .i64 (a1 + a3))).fdiv (2 ^ min (1 : Int).toNat 64))) + a2)) - y19)))) && (decide ((wr .i64 ((wr .i64 ((wr .i64 ((wr .u64 (wr .i64 (a1 + a3))).fdiv (2 ^ min (1 : Int).toNat 64))) + a2)) - y19)) < a3))))], [aL 14 c_TRoute p21, .gone]⟩ ?_)
 refine then_n ?_
 refine cnd ((decide ((wr .i64 ((wr .u64 (wr .i64 (a1 + a3))).fdiv (2 ^ min (1 : Int).toNat 64))) < (wr .i64 ((wr .i64 ((wr .i64 ((wr .u64 (wr .i64 (a1 + a3))).fdiv (2 ^ min (1 : Int).toNat 64))) + a2)) - y19)))) && (decide ((wr .i64 ((wr .i64 ((wr .i64 ((wr .u64 (wr .i64 (a1 + a3))).fdiv (2 ^ min (1 : Int).toNat 64))) + a2)) - y19)) < a3))) (fun b100 => ?_) (fun b100 => ?_)
 have h101 := cond_t b100 h99
 obtain ⟨r22, q103, h104⟩ := bind_some h101
 obtain ⟨c105, h106⟩ := gd_some h104
 refine rg [.lnd 0 0 (fun _ => []) (fun i => c_TRoute (r22.getD i default)) (.tup [])] [] 2 ⟨220, [], [.arr 14 p21.length (fun i => c_TRoute (r22.getD i default)), .gone]⟩ [] [⟨true, 87, [.asl 0 0 p21.length, .int .i64 (wr .i64 ((wr .u64 (wr .i64 (a1 + a3))).fdiv (2 ^ min (1 : Int).toNat 64))), .int .i64 (wr .i64 ((wr .i64 ((wr .i64 ((wr .u64 (wr .i64 (a1 + a3))).fdiv (2 ^ min (1 : Int).toNat 64))) + a2)) - y19)), .int .i64 a3, .fn 33 []], .lnd 14 p21.length (fun i => c_TRoute (p21.getD i default)) (fun i => c_TRoute (r22.getD i default)) (.tup [])⟩] nil_all ⟨fun _ => ih p21 (wr .i64 ((wr .u64 (wr .i64 (a1 + a3))).fdiv (2 ^ min (1 : Int).toNat 64))) (wr .i64 ((wr .i64 ((wr .i64 ((wr .u64 (wr .i64 (a1 + a3))).fdiv (2 ^ min (1 : Int).toNat 64))) + a2)) - y19)) a3 r22 q103, trivial⟩ ?_
 obtain ⟨c107, h108⟩ := gd_some h106
 obtain rfl := Option.some.inj h108
 exact emn (s' := ⟨220, [], [aL 14 c_TRoute r22, .gone]⟩) (le_sub .nil (.cons (.arr (len_eq (c105 _ List.mem_cons_self)) (fun _ _ => rfl)) (.cons .rfl .nil))) (len_ok c107)
 have h102 := cond_f b100 h99
 refine awp_skip ?_
 obtain ⟨c109, h110⟩ := gd_some h102
 obtain rfl := Option.some.inj h110
 exact emn (s' := ⟨220, [(0, .asl 0 0 p21.length), (3, .int .i64 a3), (4, .fn 33 []), (18, .int .i64 (wr .i64 ((wr .u64 (wr .i64 (a1 + a3))).fdiv (2 ^ min (1 : Int).toNat 64)))), (24, .int .i64 (wr .i64 ((wr .i64 ((wr .i64 ((wr .u64 (wr .i64 (a1 + a3))).fdiv (2 ^ min (1 : Int).toNat 64))) + a2)) - y19))), (213, .bool ((decide ((wr .i64 ((wr .u64 (wr .i64 (a1 + a3))).fdiv (2 ^ min (1 : Int).toNat 64))) < (wr .i64 ((wr .i64 ((wr .i64 ((wr .u64 (wr .i64 (a1 + a3))).fdiv (2 ^ min (1 : Int).toNat 64))) + a2)) - y19)))) && (decide ((wr .i64 ((wr .i64 ((wr .i64 ((wr .u64 (wr .i64 (a1 + a3))).fdiv (2 ^ min (1 : Int).toNat 64))) + a2)) - y19)) < a3))))], [aL 14 c_TRoute p21, .gone]⟩) (le_rfl) (len_ok c109)
 intro k98
 refine awp_seq (rg0 [0, 1, 3, 4, 18, 20, 24, 199] 2 ⟨220, [(0, .asl 0 0 p20.length), (1, .int .i64 a1), (3, .int .i64 a3), (4, .fn 33 []), (18, .int .i64 (wr .i64 ((wr .u64 (wr .i64 (a1 + a3))).fdiv (2 ^ min (1 : Int).toNat 64)))), (20, .int .i64 y19), (24, .int .i64 (wr .i64 ((wr .i64 ((wr .i64 ((wr .u64 (wr .i64 (a1 + a3))).fdiv (2 ^ min (1 : Int).toNat 64))) + a2)) - y19))), (199, .bool ((decide (a1 < y19)) && (decide (y19 < (wr .i64 ((wr .u64 (wr .i64 (a1 + a3))).fdiv (2 ^ min (1 : Int).toNat 64)))))))], [aL 14 c_TRoute p20, .gone]⟩ ?_)
 refine then_n ?_
 refine cnd ((decide (a1 < y19)) && (decide (y19 < (wr .i64 ((wr .u64 (wr .i64 (a1 + a3))).fdiv (2 ^ min (1 : Int).toNat 64)))))) (fun b111 => ?_) (fun b111 => ?_)
 have h112 := cond_t b111 h97
 obtain ⟨r23, q114, h115⟩ := bind_some h112
 obtain ⟨c116, h117⟩ := gd_some h115
 refine rg [.lnd 0 0 (fun _ => []) (fun i => c_TRoute (r23.getD i default)) (.tup [])] [0, 3, 4, 18, 24] 2 ⟨220, [(0, .asl 0 0 p20.length), (3, .int .i64 a3), (4, .fn 33 []), (18, .int .i64 (wr .i64 ((wr .u64 (wr .i64 (a1 + a3))).fdiv (2 ^ min (1 : Int).toNat 64)))), (24, .int .i64 (wr .i64 ((wr .i64 ((wr .i64 ((wr .u64 (wr .i64 (a1 + a3))).fdiv (2 ^ min (1 : Int).toNat 64))) + a2)) - y19)))], [.arr 14 p20.length (fun i => c_TRoute (r23.getD i default)), .gone]⟩ [] [⟨true, 87, [.asl 0 0 p20.length, .int .i64 a1, .int .i64 y19, .int .i64 (wr .i64 ((wr .u64 (wr .i64 (a1 + a3))).fdiv (2 ^ min (1 : Int).toNat 64))), .fn 33 []], .lnd 14 p20.length (fun i => c_TRoute (p20.getD i default)) (fun i => c_TRoute (r23.getD i default)) (.tup [])⟩] nil_all ⟨fun _ => ih p20 a1 y19 (wr .i64 ((wr .u64 (wr .i64 (a1 + a3))).fdiv (2 ^ min (1 : Int).toNat 64))) r23 q114, trivial⟩ ?_
 exact then_le (le_sub (.cons (asl_len (len_eq (c116 _ List.mem_cons_self))) (.cons Sub.rfl (.cons Sub.rfl (.cons Sub.rfl (.cons Sub.rfl .nil))))) (.cons (.arr (len_eq (c116 _ List.mem_cons_self)) (fun _ _ => rfl)) (.cons .rfl .nil))) (k98 r23 h117)
 have h113 := cond_f b111 h97
 refine awp_skip ?_
 exact then_le (kp [0, 3, 4, 18, 24]) (k98 p20 h113)
 intro k96
 refine awp_seq (rg0 [0, 1, 2, 3, 4, 18, 20, 24, 185] 2 ⟨220, [(0, .asl 0 0 a0.length), (1, .int .i64 a1), (2, .int .i64 a2), (3, .int .i64 a3), (4, .fn 33 []), (18, .int .i64 (wr .i64 ((wr .u64 (wr .i64 (a1 + a3))).fdiv (2 ^ min (1 : Int).toNat 64)))), (20, .int .i64 y19), (24, .int .i64 (wr .i64 ((wr .i64 ((wr .i64 ((wr .u64 (wr .i64 (a1 + a3))).fdiv (2 ^ min (1 : Int).toNat 64))) + a2)) - y19))), (185, .bool ((decide (y19 < a2)) && (decide (a2 < (wr .i64 ((wr .i64 ((wr .i64 ((wr .u64 (wr .i64 (a1 + a3))).fdiv (2 ^ min (1 : Int).toNat 64))) + a2)) - y19))))))], [aL 14 c_TRoute a0, .gone]⟩ ?_)
 refine then_n ?_
 refine cnd ((decide (y19 < a2)) && (decide (a2 < (wr .i64 ((wr .i64 ((wr .i64 ((wr .u64 (wr .i64 (a1 + a3))).fdiv (2 ^ min (1 : Int).toNat 64))) + a2)) - y19))))) (fun b118 => ?_) (fun b118 => ?_)
 have h119 := cond_t b118 h91
 obtain ⟨r24, q121, h122⟩ := bind_some h119
 obtain ⟨c123, h124⟩ := gd_some h122
 refine rg [.lnd 0 0 (fun _ => []) (fun i => c_TRoute (r24.getD i default)) (.tup [])] [0, 1, 3, 4, 18, 20, 24] 2 ⟨220, [(0, .asl 0 0 a0.length), (1, .int .i64 a1), (3, .int .i64 a3), (4, .fn 33 []), (18, .int .i64 (wr .i64 ((wr .u64 (wr .i64 (a1 + a3))).fdiv (2 ^ min (1 : Int).toNat 64)))), (20, .int .i64 y19), (24, .int .i64 (wr .i64 ((wr .i64 ((wr .i64 ((wr .u64 (wr .i64 (a1 + a3))).fdiv (2 ^ min (1 : Int).toNat 64))) + a2)) - y19)))], [.arr 14 a0.length (fun i => c_TRoute (r24.getD i default)), .gone]⟩ [] [⟨true, 95, [.asl 0 0 a0.length, .int .i64 y19, .int .i64 a2, .int .i64 (wr .i64 ((wr .i64 ((wr .i64 ((wr .u64 (wr .i64 (a1 + a3))).fdiv (2 ^ min (1 : Int).toNat 64))) + a2)) - y19)), .fn 33 []], .lnd 14 a0.length (fun i => c_TRoute (a0.getD i default)) (fun i => c_TRoute (r24.getD i default)) (.tup [])⟩] nil_all ⟨fun _ => slices_rotateCmpFunc_api_Route__rib_Select_1_ok a0 y19 a2 (wr .i64 ((wr .i64 ((wr .i64 ((wr .u64 (wr .i64 (a1 + a3))).fdiv (2 ^ min (1 : Int).toNat 64))) + a2)) - y19)) r24 q121, trivial⟩ ?_
 exact then_le (le_sub (.cons (asl_len (len_eq (c123 _ List.mem_cons_self))) (.cons Sub.rfl (.cons Sub.rfl (.cons Sub.rfl (.cons Sub.rfl (.cons Sub.rfl (.cons Sub.rfl .nil))))))) (.cons (.arr (len_eq (c123 _ List.mem_cons_self)) (fun _ _ => rfl)) (.cons .rfl .nil))) (k96 r24 h124)
 have h120 := cond_f b118 h91
 refine awp_skip ?_
 exact then_le (kp [0, 1, 3, 4, 18, 20, 24]) (k96 a0 h120)
 intro k75
 refine awp_seq (rg0 [0, 1, 2, 3, 4, 18, 19, 140] 2 ⟨220, [(0, .asl 0 0 a0.length), (1, .int .i64 a1), (2, .int .i64 a2), (3, .int .i64 a3), (4, .fn 33 []), (18, .int .i64 (wr .i64 ((wr .u64 (wr .i64 (a1 + a3))).fdiv (2 ^ min (1 : Int).toNat 64)))), (19, .int .i64 (wr .i64 ((wr .i64 ((wr .u64 (wr .i64 (a1 + a3))).fdiv (2 ^ min (1 : Int).toNat 64))) + a2))), (140, .bool (decide (a2 > (wr .i64 ((wr .u64 (wr .i64 (a1 + a3))).fdiv (2 ^ min (1 : Int).toNat 64))))))], [aL 14 c_TRoute a0, .gone]⟩ ?_)
 refine then_n ?_
 refine cnd (decide (a2 > (wr .i64 ((wr .u64 (wr .i64 (a1 + a3))).fdiv (2 ^ min (1 : Int).toNat 64))))) (fun b125 => ?_) (fun b125 => ?_)
 have h126 := cond_t b125 h74
 refine awp_seq (rg0 [0, 1, 2, 3, 4, 18, 19, 20] 2 ⟨220, [(0, .asl 0 0 a0.length), (1, .int .i64 a1), (2, .int .i64 a2), (3, .int .i64 a3), (4, .fn 33 []), (18, .int .i64 (wr .i64 ((wr .u64 (wr .i64 (a1 + a3))).fdiv (2 ^ min (1 : Int).toNat 64)))), (19, .int .i64 (wr .i64 ((wr .i64 ((wr .u64 (wr .i64 (a1 + a3))).fdiv (2 ^ min (1 : Int).toNat 64))) + a2))), (20, .int .i64 (wr .i64 ((wr .i64 ((wr .i64 ((wr .u64 (wr .i64 (a1 + a3))).fdiv (2 ^ min (1 : Int).toNat 64))) + a2)) - a3)))], [aL 14 c_TRoute a0, .gone]⟩ ?_)
 refine then_n (rg0 [0, 1, 2, 3, 4, 18, 19, 20, 21] 2 ⟨220, [(0, .asl 0 0 a0.length), (1, .int .i64 a1), (2, .int .i64 a2), (3, .int .i64 a3), (4, .fn 33 []), (18, .int .i64 (wr .i64 ((wr .u64 (wr .i64 (a1 + a3))).fdiv (2 ^ min (1 : Int).toNat 64)))), (19, .int .i64 (wr .i64 ((wr .i64 ((wr .u64 (wr .i64 (a1 + a3))).fdiv (2 ^ min (1 : Int).toNat 64))) + a2))), (20, .int .i64 (wr .i64 ((wr .i64 ((wr .i64 ((wr .u64 (wr .i64 (a1 + a3))).fdiv (2 ^ min (1 : Int).toNat 64))) + a2)) - a3))), (21, .int .i64 (wr .i64 ((wr .u64 (wr .i64 (a1 + a3))).fdiv (2 ^ min (1 : Int).toNat 64))))], [aL 14 c_TRoute a0, .gone]⟩ ?_)
 exact then_le (le_rfl) (k75 (wr .i64 ((wr .i64 ((wr .i64 ((wr .u64 (wr .i64 (a1 + a3))).fdiv (2 ^ min (1 : Int).toNat 64))) + a2)) - a3), wr .i64 ((wr .u64 (wr .i64 (a1 + a3))).fdiv (2 ^ min (1 : Int).toNat 64))) h126)
 have h127 := cond_f b125 h74
 refine awp_seq (rg0 [0, 1, 2, 3, 4, 18, 19, 20] 2 ⟨220, [(0, .asl 0 0 a0.length), (1, .int .i64 a1), (2, .int .i64 a2), (3, .int .i64 a3), (4, .fn 33 []), (18, .int .i64 (wr .i64 ((wr .u64 (wr .i64 (a1 + a3))).fdiv (2 ^ min (1 : Int).toNat 64)))), (19, .int .i64 (wr .i64 ((wr .i64 ((wr .u64 (wr .i64 (a1 + a3))).fdiv (2 ^ min (1 : Int).toNat 64))) + a2))), (20, .int .i64 a1)], [aL 14 c_TRoute a0, .gone]⟩ ?_)
 refine then_n (rg0 [0, 1, 2, 3, 4, 18, 19, 20, 21] 2 ⟨220, [(0, .asl 0 0 a0.length), (1, .int .i64 a1), (2, .int .i64 a2), (3, .int .i64 a3), (4, .fn 33 []), (18, .int .i64 (wr .i64 ((wr .u64 (wr .i64 (a1 + a3))).fdiv (2 ^ min (1 : Int).toNat 64)))), (19, .int .i64 (wr .i64 ((wr .i64 ((wr .u64 (wr .i64 (a1 + a3))).fdiv (2 ^ min (1 : Int).toNat 64))) + a2))), (20, .int .i64 a1), (21, .int .i64 a2)], [aL 14 c_TRoute a0, .gone]⟩ ?_)
 exact then_le (le_rfl) (k75 (a1, a2) h127)
theorem slices_symMergeCmpFunc_api_Route__rib_Select_1_nok : ∀ (n : Nat) (a0 : List TRoute) (a1 : Int) (a2 : Int) (a3 : Int) (r : (List TRoute)) (_ : M.slices_symMergeCmpFunc_api_Route__rib_Select_1_n n a0 a1 a2 a3 = some r), FnM Try.prog 87 [.asl 0 0 a0.length, .int .i64 a1, .int .i64 a2, .int .i64 a3, .fn 33 []] 14 a0.length (fun i => c_TRoute (a0.getD i default)) (fun i => c_TRoute (r.getD i default)) (.tup [])
  | 0, a0, a1, a2, a3, r, h => by cases h
  | n + 1, a0, a1, a2, a3, r, h => slices_symMergeCmpFunc_api_Route__rib_Select_1_bok (M.slices_symMergeCmpFunc_api_Route__rib_Select_1_n n) (slices_symMergeCmpFunc_api_Route__rib_Select_1_nok n) a0 a1 a2 a3 r h
theorem slices_symMergeCmpFunc_api_Route__rib_Select_1_ok (a0 : List TRoute) (a1 : Int) (a2 : Int) (a3 : Int) (r : (List TRoute)) (h : M.slices_symMergeCmpFunc_api_Route__rib_Select_1 a0 a1 a2 a3 = some r) : FnM Try.prog 87 [.asl 0 0 a0.length, .int .i64 a1, .int .i64 a2, .int .i64 a3, .fn 33 []] 14 a0.length (fun i => c_TRoute (a0.getD i default)) (fun i => c_TRoute (r.getD i default)) (.tup []) := by
 obtain ⟨n, hn⟩ := recM_some h
 exact slices_symMergeCmpFunc_api_Route__rib_Select_1_nok n a0 a1 a2 a3 r hn
theorem slices_stableCmpFunc_api_Route__rib_Select_1_ok (a0 : List TRoute) (a1 : Int) (r : (List TRoute)) (h : M.slices_stableCmpFunc_api_Route__rib_Select_1 a0 a1 = some r) : FnM Try.prog 65 [.asl 0 0 a0.length, .int .i64 a1, .fn 33 []] 14 a0.length (fun i => c_TRoute (a0.getD i default)) (fun i => c_TRoute (r.getD i default)) (.tup []) := by
 unfold M.slices_stableCmpFunc_api_Route__rib_Select_1 at h
 refine fn_mut Try.func65 rfl (by kernel_rfl) ?_
 refine awp_seq (rg0 [0, 1, 2, 6] 2 ⟨63, [(0, .asl 0 0 a0.length), (1, .int .i64 a1), (2, .fn 33 []), (6, .int .i64 20)], [aL 14 c_TRoute a0, .gone]⟩ ?_)
 refine then_n (awp_seq (rg0 [0, 1, 2, 6, 7, 8] 2 ⟨63, [(0, .asl 0 0 a0.length), (1, .int .i64 a1), (2, .fn 33 []), (6, .int .i64 20), (7, .int .i64 0), (8, .int .i64 20)], [aL 14 c_TRoute a0, .gone]⟩ ?_))
 refine then_n (awp_seq (awp_block ?_))
 obtain ⟨y4, q9, h10⟩ := bind_some h
 refine awp_le (s' := ⟨63, [(0, .asl 0 0 a0.length), (1, .int .i64 a1), (2, .fn 33 []), (6, .int .i64 20), (7, .int .i64 0), (8, .int .i64 20)], [aL 14 c_TRoute a0, .gone]⟩) (le_rfl) ?_
 refine awp_mono (awp_loop (f := M.slices_stableCmpFunc_api_Route__rib_Select_1_l1 a1) (S := fun (p1 : (List TRoute) × Int × Int) => ⟨63, [(0, .asl 0 0 p1.1.length), (1, .int .i64 a1), (2, .fn 33 []), (6, .int .i64 20), (7, .int .i64 p1.2.1), (8, .int .i64 p1.2.2)], [aL 14 c_TRoute p1.1, .gone]⟩) (O := (fun z => OutE 0 (fun z => ⟨63, [(0, .asl 0 0 z.2.length), (1, .int .i64 a1), (2, .fn 33 []), (6, .int .i64 20), (7, .int .i64 z.1)], [aL 14 c_TRoute z.2, .gone]⟩) z)) ?_ (x := (a0, 0, 20)) (y := y4) (loopM_iter q9)) ?_
 intro p1 y2 h1
 unfold M.slices_stableCmpFunc_api_Route__rib_Select_1_l1 at h1
 refine awp_seq (awp_seq (rg0 [0, 1, 2, 6, 7, 8, 13] 2 ⟨63, [(0, .asl 0 0 p1.1.length), (1, .int .i64 a1), (2, .fn 33 []), (6, .int .i64 20), (7, .int .i64 p1.2.1), (8, .int .i64 p1.2.2), (13, .bool (decide (p1.2.2 ≤ a1)))], [aL 14 c_TRoute p1.1, .gone]⟩ ?_))
 refine then_n ?_
 refine cnd (decide (p1.2.2 ≤ a1)) (fun b2 => ?_) (fun b2 => ?_)
 have h3 := cond_t b2 h1
 refine awp_skip (then_n (awp_block (awp_seq ?_)))
 obtain ⟨r3, q5, h6⟩ := bind_some h3
 obtain ⟨c7, h8⟩ := gd_some h6
 refine rg [.lnd 0 0 (fun _ => []) (fun i => c_TRoute (r3.getD i default)) (.tup [])] [0, 1, 2, 6, 8] 2 ⟨63, [(0, .asl 0 0 p1.1.length), (1, .int .i64 a1), (2, .fn 33 []), (6, .int .i64 20), (8, .int .i64 p1.2.2)], [.arr 14 p1.1.length (fun i => c_TRoute (r3.getD i default)), .gone]⟩ [] [⟨true, 86, [.asl 0 0 p1.1.length, .int .i64 p1.2.1, .int .i64 p1.2.2, .fn 33 []], .lnd 14 p1.1.length (fun i => c_TRoute (p1.1.getD i default)) (fun i => c_TRoute (r3.getD i default)) (.tup [])⟩] nil_all ⟨fun _ => slices_insertionSortCmpFunc_api_Route__rib_Select_1_ok p1.1 p1.2.1 p1.2.2 r3 q5, trivial⟩ ?_
 refine then_le (s' := ⟨63, [(0, .asl 0 0 r3.length), (1, .int .i64 a1), (2, .fn 33 []), (6, .int .i64 20), (8, .int .i64 p1.2.2)], [aL 14 c_TRoute r3, .gone]⟩) (le_sub (.cons (asl_len (len_eq (c7 _ List.mem_cons_self))) (.cons Sub.rfl (.cons Sub.rfl (.cons Sub.rfl (.cons Sub.rfl .nil))))) (.cons (.arr (len_eq (c7 _ List.mem_cons_self)) (fun _ _ => rfl)) (.cons .rfl .nil))) ?_
 refine awp_seq (rg0 [0, 1, 2, 6, 7, 8] 2 ⟨63, [(0, .asl 0 0 r3.length), (1, .int .i64 a1), (2, .fn 33 []), (6, .int .i64 20), (7, .int .i64 p1.2.2), (8, .int .i64 p1.2.2)], [aL 14 c_TRoute r3, .gone]⟩ ?_)
 refine then_n (rg0 [0, 1, 2, 6, 7, 8] 2 ⟨63, [(0, .asl 0 0 r3.length), (1, .int .i64 a1), (2, .fn 33 []), (6, .int .i64 20), (7, .int .i64 p1.2.2), (8, .int .i64 (wr .i64 (p1.2.2 + 20)))], [aL 14 c_TRoute r3, .gone]⟩ ?_)
 refine inb_n ?_
 obtain rfl := Option.some.inj h8
 exact round_n (le_rfl)
 have h4 := cond_f b2 h1
 refine awp_exit (then_e ?_)
 obtain rfl := Option.some.inj h4
 exact round_e ⟨rfl, kp [0, 1, 2, 6, 7]⟩
 intro e11 s12 o13
 obtain ⟨rfl, l14⟩ := o13
 refine inb_here ?_
 refine then_le (s' := ⟨63, [(0, .asl 0 0 y4.2.length), (1, .int .i64 a1), (2, .fn 33 []), (6, .int .i64 20), (7, .int .i64 y4.1)], [aL 14 c_TRoute y4.2, .gone]⟩) (l14) ?_
 refine awp_seq ?_
 obtain ⟨r5, q15, h16⟩ := bind_some h10
 obtain ⟨c17, h18⟩ := gd_some h16
 refine rg [.lnd 0 0 (fun _ => []) (fun i => c_TRoute (r5.getD i default)) (.tup [])] [0, 1, 2, 6] 2 ⟨63, [(0, .asl 0 0 y4.2.length), (1, .int .i64 a1), (2, .fn 33 []), (6, .int .i64 20)], [.arr 14 y4.2.length (fun i => c_TRoute (r5.getD i default)), .gone]⟩ [] [⟨true, 86, [.asl 0 0 y4.2.length, .int .i64 y4.1, .int .i64 a1, .fn 33 []], .lnd 14 y4.2.length (fun i => c_TRoute (y4.2.getD i default)) (fun i => c_TRoute (r5.getD i default)) (.tup [])⟩] nil_all ⟨fun _ => slices_insertionSortCmpFunc_api_Route__rib_Select_1_ok y4.2 y4.1 a1 r5 q15, trivial⟩ ?_
 refine then_le (s' := ⟨63, [(0, .asl 0 0 r5.length), (1, .int .i64 a1), (2, .fn 33 []), (6, .int .i64 20)], [aL 14 c_TRoute r5, .gone]⟩) (le_sub (.cons (asl_len (len_eq (c17 _ List.mem_cons_self))) (.cons Sub.rfl (.cons Sub.rfl (.cons Sub.rfl .nil)))) (.cons (.arr (len_eq (c17 _ List.mem_cons_self)) (fun _ _ => rfl)) (.cons .rfl .nil))) ?_
 refine awp_block ?_
 obtain ⟨y14, q46, h47⟩ := bind_some h18
 refine awp_le (s' := ⟨63, [(0, .asl 0 0 r5.length), (1, .int .i64 a1), (2, .fn 33 []), (6, .int .i64 20)], [aL 14 c_TRoute r5, .gone]⟩) (le_rfl) ?_
 refine awp_mono (awp_loop (f := M.slices_stableCmpFunc_api_Route__rib_Select_1_l2 a1) (S := fun (p6 : (List TRoute) × Int) => ⟨63, [(0, .asl 0 0 p6.1.length), (1, .int .i64 a1), (2, .fn 33 []), (6, .int .i64 p6.2)], [aL 14 c_TRoute p6.1, .gone]⟩) (O := (fun z => OutE 2 (fun z => ⟨63, [], [aL 14 c_TRoute z, .gone]⟩) z)) ?_ (x := (r5, 20)) (y := y14) (loopM_iter q46)) ?_
 intro p6 y7 h19
 unfold M.slices_stableCmpFunc_api_Route__rib_Select_1_l2 at h19
 refine awp_seq (awp_seq (rg0 [0, 1, 2, 6, 30] 2 ⟨63, [(0, .asl 0 0 p6.1.length), (1, .int .i64 a1), (2, .fn 33 []), (6, .int .i64 p6.2), (30, .bool (decide (p6.2 < a1)))], [aL 14 c_TRoute p6.1, .gone]⟩ ?_))
 refine then_n ?_
 refine cnd (decide (p6.2 < a1)) (fun b20 => ?_) (fun b20 => ?_)
 have h21 := cond_t b20 h19
 refine awp_skip (then_n (awp_block (awp_seq (rg0 [0, 1, 2, 6, 7, 8] 2 ⟨63, [(0, .asl 0 0 p6.1.length), (1, .int .i64 a1), (2, .fn 33 []), (6, .int .i64 p6.2), (7, .int .i64 0), (8, .int .i64 (wr .i64 (2 * p6.2)))], [aL 14 c_TRoute p6.1, .gone]⟩ ?_))))
 refine then_n (awp_seq (awp_block ?_))
 obtain ⟨y11, q31, h32⟩ := bind_some h21
 refine awp_le (s' := ⟨63, [(0, .asl 0 0 p6.1.length), (1, .int .i64 a1), (2, .fn 33 []), (6, .int .i64 p6.2), (7, .int .i64 0), (8, .int .i64 (wr .i64 (2 * p6.2)))], [aL 14 c_TRoute p6.1, .gone]⟩) (le_rfl) ?_
 refine awp_mono (awp_loop (f := M.slices_stableCmpFunc_api_Route__rib_Select_1_l3 a1 p6) (S := fun (p8 : (List TRoute) × Int × Int) => ⟨63, [(0, .asl 0 0 p8.1.length), (1, .int .i64 a1), (2, .fn 33 []), (6, .int .i64 p6.2), (7, .int .i64 p8.2.1), (8, .int .i64 p8.2.2)], [aL 14 c_TRoute p8.1, .gone]⟩) (O := (fun z => OutE 4 (fun z => ⟨63, [(0, .asl 0 0 z.2.length), (1, .int .i64 a1), (2, .fn 33 []), (6, .int .i64 p6.2), (7, .int .i64 z.1)], [aL 14 c_TRoute z.2, .gone]⟩) z)) ?_ (x := (p6.1, 0, wr .i64 (2 * p6.2))) (y := y11) (loopM_iter q31)) ?_
 intro p8 y9 h23
 unfold M.slices_stableCmpFunc_api_Route__rib_Select_1_l3 at h23
 refine awp_seq (awp_seq (rg0 [0, 1, 2, 6, 7, 8, 35] 2 ⟨63, [(0, .asl 0 0 p8.1.length), (1, .int .i64 a1), (2, .fn 33 []), (6, .int .i64 p6.2), (7, .int .i64 p8.2.1), (8, .int .i64 p8.2.2), (35, .bool (decide (p8.2.2 ≤ a1)))], [aL 14 c_TRoute p8.1, .gone]⟩ ?_))
 refine then_n ?_
 refine cnd (decide (p8.2.2 ≤ a1)) (fun b24 => ?_) (fun b24 => ?_)
 have h25 := cond_t b24 h23
 refine awp_skip (then_n (awp_block (awp_seq ?_)))
 obtain ⟨r10, q27, h28⟩ := bind_some h25
 obtain ⟨c29, h30⟩ := gd_some h28
 refine rg [.lnd 0 0 (fun _ => []) (fun i => c_TRoute (r10.getD i default)) (.tup [])] [0, 1, 2, 6, 8] 2 ⟨63, [(0, .asl 0 0 p8.1.length), (1, .int .i64 a1), (2, .fn 33 []), (6, .int .i64 p6.2), (8, .int .i64 p8.2.2)], [.arr 14 p8.1.length (fun i => c_TRoute (r10.getD i default)), .gone]⟩ [] [⟨true, 87, [.asl 0 0 p8.1.length, .int .i64 p8.2.1, .int .i64 (wr .i64 (p8.2.1 + p6.2)), .int .i64 p8.2.2, .fn 33 []], .lnd 14 p8.1.length (fun i => c_TRoute (p8.1.getD i default)) (fun i => c_TRoute (r10.getD i default)) (.tup [])⟩] nil_all ⟨fun _ => slices_symMergeCmpFunc_api_Route__rib_Select_1_ok p8.1 p8.2.1 (wr .i64 (p8.2.1 + p6.2)) p8.2.2 r10 q27, trivial⟩ ?_
 refine then_le (s' := ⟨63, [(0, .asl 0 0 r10.length), (1, .int .i64 a1), (2, .fn 33 []), (6, .int .i64 p6.2), (8, .int .i64 p8.2.2)], [aL 14 c_TRoute r10, .gone]⟩) (le_sub (.cons (asl_len (len_eq (c29 _ List.mem_cons_self))) (.cons Sub.rfl (.cons Sub.rfl (.cons Sub.rfl (.cons Sub.rfl .nil))))) (.cons (.arr (len_eq (c29 _ List.mem_cons_self)) (fun _ _ => rfl)) (.cons .rfl .nil))) ?_
 refine awp_seq (rg0 [0, 1, 2, 6, 7, 8] 2 ⟨63, [(0, .asl 0 0 r10.length), (1, .int .i64 a1), (2, .fn 33 []), (6, .int .i64 p6.2), (7, .int .i64 p8.2.2), (8, .int .i64 p8.2.2)], [aL 14 c_TRoute r10, .gone]⟩ ?_)
 refine then_n (rg0 [0, 1, 2, 6, 7, 8] 2 ⟨63, [(0, .asl 0 0 r10.length), (1, .int .i64 a1), (2, .fn 33 []), (6, .int .i64 p6.2), (7, .int .i64 p8.2.2), (8, .int .i64 (wr .i64 (p8.2.2 + (wr .i64 (2 * p6.2)))))], [aL 14 c_TRoute r10, .gone]⟩ ?_)
 refine inb_n ?_
 obtain rfl := Option.some.inj h30
 exact round_n (le_rfl)
 have h26 := cond_f b24 h23
 refine awp_exit (then_e ?_)
 obtain rfl := Option.some.inj h26
 exact round_e ⟨rfl, kp [0, 1, 2, 6, 7]⟩
 intro e33 s34 o35
 obtain ⟨rfl, l36⟩ := o35
 refine inb_here ?_
 refine then_le (s' := ⟨63, [(0, .asl 0 0 y11.2.length), (1, .int .i64 a1), (2, .fn 33 []), (6, .int .i64 p6.2), (7, .int .i64 y11.1)], [aL 14 c_TRoute y11.2, .gone]⟩) (l36) ?_
 refine awp_join (fun (p12 : (List TRoute)) => ⟨63, [(0, .asl 0 0 p12.length), (1, .int .i64 a1), (2, .fn 33 []), (6, .int .i64 p6.2)], [aL 14 c_TRoute p12, .gone]⟩) (fun p12 => M.slices_stableCmpFunc_api_Route__rib_Select_1_k1 p6 p12 = some y7) ?_ ?_
 intro p12 h38
 unfold M.slices_stableCmpFunc_api_Route__rib_Select_1_k1 at h38
 refine rg0 [0, 1, 2, 6] 2 ⟨63, [(0, .asl 0 0 p12.length), (1, .int .i64 a1), (2, .fn 33 []), (6, .int .i64 (wr .i64 (p6.2 * 2)))], [aL 14 c_TRoute p12, .gone]⟩ ?_
 refine inb_n ?_
 obtain rfl := Option.some.inj h38
 exact round_n (le_rfl)
 intro k37
 refine awp_seq (rg0 [0, 1, 2, 6, 7, 9] 2 ⟨63, [(0, .asl 0 0 y11.2.length), (1, .int .i64 a1), (2, .fn 33 []), (6, .int .i64 p6.2), (7, .int .i64 y11.1), (9, .int .i64 (wr .i64 (y11.1 + p6.2)))], [aL 14 c_TRoute y11.2, .gone]⟩ ?_)
 refine then_n (awp_seq (rg0 [0, 1, 2, 6, 7, 9, 54] 2 ⟨63, [(0, .asl 0 0 y11.2.length), (1, .int .i64 a1), (2, .fn 33 []), (6, .int .i64 p6.2), (7, .int .i64 y11.1), (9, .int .i64 (wr .i64 (y11.1 + p6.2))), (54, .bool (decide ((wr .i64 (y11.1 + p6.2)) < a1)))], [aL 14 c_TRoute y11.2, .gone]⟩ ?_))
 refine then_n ?_
 refine cnd (decide ((wr .i64 (y11.1 + p6.2)) < a1)) (fun b39 => ?_) (fun b39 => ?_)
 have h40 := cond_t b39 h32
 obtain ⟨r13, q42, h43⟩ := bind_some h40
 obtain ⟨c44, h45⟩ := gd_some h43
 refine rg [.lnd 0 0 (fun _ => []) (fun i => c_TRoute (r13.getD i default)) (.tup [])] [0, 1, 2, 6] 2 ⟨63, [(0, .asl 0 0 y11.2.length), (1, .int .i64 a1), (2, .fn 33 []), (6, .int .i64 p6.2)], [.arr 14 y11.2.length (fun i => c_TRoute (r13.getD i default)), .gone]⟩ [] [⟨true, 87, [.asl 0 0 y11.2.length, .int .i64 y11.1, .int .i64 (wr .i64 (y11.1 + p6.2)), .int .i64 a1, .fn 33 []], .lnd 14 y11.2.length (fun i => c_TRoute (y11.2.getD i default)) (fun i => c_TRoute (r13.getD i default)) (.tup [])⟩] nil_all ⟨fun _ => slices_symMergeCmpFunc_api_Route__rib_Select_1_ok y11.2 y11.1 (wr .i64 (y11.1 + p6.2)) a1 r13 q42, trivial⟩ ?_
 exact then_le (le_sub (.cons (asl_len (len_eq (c44 _ List.mem_cons_self))) (.cons Sub.rfl (.cons Sub.rfl (.cons Sub.rfl .nil)))) (.cons (.arr (len_eq (c44 _ List.mem_cons_self)) (fun _ _ => rfl)) (.cons .rfl .nil))) (k37 r13 h45)
 have h41 := cond_f b39 h32
 refine awp_skip ?_
 exact then_le (kp [0, 1, 2, 6]) (k37 y11.2 h41)
 have h22 := cond_f b20 h19
 refine awp_exit (then_e ?_)
 obtain rfl := Option.some.inj h22
 exact round_e ⟨rfl, kp []⟩
 intro e48 s49 o50
 obtain ⟨rfl, l51⟩ := o50
 refine inb_here ?_
 obtain ⟨c52, h53⟩ := gd_some h47
 obtain rfl := Option.some.inj h53
 exact emn (s' := ⟨63, [], [aL 14 c_TRoute y14, .gone]⟩) (l51) (len_ok c52)
theorem slices_SortStableFunc_api_Route_api_Route__rib_Select_1_ok (a0 : List TRoute) (r : (List TRoute)) (h : M.slices_SortStableFunc_api_Route_api_Route__rib_Select_1 a0 = some r) : FnM Try.prog 32 [.asl 0 0 a0.length, .fn 33 []] 14 a0.length (fun i => c_TRoute (a0.getD i default)) (fun i => c_TRoute (r.getD i default)) (.tup []) := by
 unfold M.slices_SortStableFunc_api_Route_api_Route__rib_Select_1 at h
 refine fn_mut Try.func32 rfl (by kernel_rfl) ?_
 obtain ⟨r1, q1, h2⟩ := bind_some h
 obtain ⟨c3, h4⟩ := gd_some h2
 refine rg [.lnd 0 0 (fun _ => []) (fun i => c_TRoute (r1.getD i default)) (.tup [])] [] 2 ⟨9, [], [.arr 14 a0.length (fun i => c_TRoute (r1.getD i default)), .gone]⟩ [] [⟨true, 65, [.asl 0 0 a0.length, .int .i64 (a0.length : Int), .fn 33 []], .lnd 14 a0.length (fun i => c_TRoute (a0.getD i default)) (fun i => c_TRoute (r1.getD i default)) (.tup [])⟩] nil_all ⟨fun _ => slices_stableCmpFunc_api_Route__rib_Select_1_ok a0 (a0.length : Int) r1 q1, trivial⟩ ?_
 obtain ⟨c5, h6⟩ := gd_some h4
 obtain rfl := Option.some.inj h6
 exact emn (s' := ⟨9, [], [aL 14 c_TRoute r1, .gone]⟩) (le_sub .nil (.cons (.arr (len_eq (c3 _ List.mem_cons_self)) (fun _ _ => rfl)) (.cons .rfl .nil))) (len_ok c5)
theorem cmp_Or_int_ok (a0 : List Int) (r : Int) (h : M.cmp_Or_int a0 = some r) : Fn Try.prog 27 [sL 1 (ci .i64) a0] (.pure (.int .i64 r)) := by
 unfold M.cmp_Or_int at h
 refine fn_pure Try.func27 rfl (by kernel_rfl) ?_
 refine awp_seq (rg0 [0] 0 ⟨18, [(0, sL 1 (ci .i64) a0)], []⟩ ?_)
 refine then_n (awp_seq (rg0 [0, 3] 0 ⟨18, [(0, sL 1 (ci .i64) a0), (3, .int .i64 0)], []⟩ ?_))
 refine then_n (awp_seq (awp_seq (rg0 [3, 6, 7, 8] 0 ⟨18, [(3, .int .i64 0), (6, sL 1 (ci .i64) a0), (7, .int .i64 (a0.length : Int)), (8, .int .i64 0)], []⟩ ?_)))
 refine then_n (awp_block ?_)
 obtain ⟨y3, q10, h11⟩ := bind_some h
 refine awp_le (s' := ⟨18, [(3, .int .i64 0), (6, sL 1 (ci .i64) a0), (7, .int .i64 (a0.length : Int)), (8, .int .i64 0)], []⟩) (le_rfl) ?_
 refine awp_mono (awp_loop (f := M.cmp_Or_int_l1 a0) (S := fun (p1 : Int) => ⟨18, [(3, .int .i64 0), (6, sL 1 (ci .i64) a0), (7, .int .i64 (a0.length : Int)), (8, .int .i64 p1)], []⟩) (O := (Sum.elim (fun z => OutE 0 (fun z => ⟨18, [(3, .int .i64 0)], []⟩) z) (fun z => OutR Try.prog Try.f27 (.int .i64 z)))) ?_ (x := 0) (y := y3) (loopM_iter q10)) ?_
 intro p1 y2 h1
 unfold M.cmp_Or_int_l1 at h1
 refine awp_seq (rg0 [3, 6, 7, 8, 9] 0 ⟨18, [(3, .int .i64 0), (6, sL 1 (ci .i64) a0), (7, .int .i64 (a0.length : Int)), (8, .int .i64 p1), (9, .bool (decide (p1 < (a0.length : Int))))], []⟩ ?_)
 refine then_n (awp_seq ?_)
 refine cnd (decide (p1 < (a0.length : Int))) (fun b2 => ?_) (fun b2 => ?_)
 have h3 := cond_t b2 h1
 refine awp_skip (then_n (awp_seq (awp_block (awp_seq ?_))))
 obtain ⟨c5, h6⟩ := gd_some h3
 refine rgc [3, 5, 6, 7, 8] 0 ⟨18, [(3, .int .i64 0), (5, .int .i64 (a0.getD p1.toNat default)), (6, sL 1 (ci .i64) a0), (7, .int .i64 (a0.length : Int)), (8, .int .i64 p1)], []⟩ [decide (0 ≤ p1), decide (p1 < (a0.length : Int))] c5 ?_
 refine then_n (awp_seq (rg0 [3, 5, 6, 7, 8, 14] 0 ⟨18, [(3, .int .i64 0), (5, .int .i64 (a0.getD p1.toNat default)), (6, sL 1 (ci .i64) a0), (7, .int .i64 (a0.length : Int)), (8, .int .i64 p1), (14, .bool ((a0.getD p1.toNat default) != 0))], []⟩ ?_))
 refine then_n ?_
 refine cnd ((a0.getD p1.toNat default) != 0) (fun b7 => ?_) (fun b7 => ?_)
 have h8 := cond_t b7 h6
 refine awp_seq (rg0 [2] 0 ⟨18, [(2, .int .i64 (a0.getD p1.toNat default))], []⟩ ?_)
 refine then_n (awp_ret (inb_r (then_r ?_)))
 obtain rfl := Option.some.inj h8
 exact round_r ⟨rfl, er0 (.int .i64 (a0.getD p1.toNat default))⟩
 have h9 := cond_f b7 h6
 refine awp_skip (inb_n (then_n (rg0 [3, 6, 7, 8] 0 ⟨18, [(3, .int .i64 0), (6, sL 1 (ci .i64) a0), (7, .int .i64 (a0.length : Int)), (8, .int .i64 (wr .i64 (p1 + 1)))], []⟩ ?_)))
 obtain rfl := Option.some.inj h9
 exact round_n (le_rfl)
 have h4 := cond_f b2 h1
 refine awp_exit (then_e ?_)
 obtain rfl := Option.some.inj h4
 exact round_e ⟨rfl, kp [3]⟩
 intro e12 s13 o14
 rcases y3 with g4 | y5
 have h15 := elim_l h11
 obtain ⟨rfl, l17⟩ := o14
 refine inb_here ?_
 refine then_le (s' := ⟨18, [(3, .int .i64 0)], []⟩) (l17) ?_
 refine awp_seq (rg0 [2] 0 ⟨18, [(2, .int .i64 0)], []⟩ ?_)
 refine then_n (awp_ret ?_)
 obtain rfl := Option.some.inj h15
 exact er0 (.int .i64 0)
 have h16 := elim_r h11
 obtain ⟨rfl, n18⟩ := o14
 refine inb_r (then_r ?_)
 obtain rfl := Option.some.inj h16
 exact n18
theorem route_origin_ok (a0 : TRoute) (r : Int) (h : M.route_origin a0 = some r) : Fn Try.prog 62 [.agg (c_TRoute a0)] (.pure (.int .i64 r)) := by
 unfold M.route_origin at h
 refine fn_pure Try.func62 rfl (by kernel_rfl) ?_
 refine awp_seq (rg0 [1] 1 ⟨6, [(1, .ref 0 0)], [.box (c_TRoute a0)]⟩ ?_)
 refine then_n (awp_seq (rg0 [2] 0 ⟨6, [(2, .int .i64 (if 3 < a0.fClass then 3 else a0.fClass))], []⟩ ?_))
 refine then_n (awp_ret ?_)
 obtain rfl := Option.some.inj h
 exact er0 (.int .i64 (if 3 < a0.fClass then 3 else a0.fClass))
theorem route_Prefer_ok (a0 : TRoute) (a1 : TRoute) (r : Int) (h : M.route_Prefer a0 a1 = some r) : Fn Try.prog 29 [.agg (c_TRoute a0), .agg (c_TRoute a1)] (.pure (.int .i64 r)) := by
 unfold M.route_Prefer at h
 refine fn_pure Try.func29 rfl (by kernel_rfl) ?_
 refine awp_seq (rg0 [2, 3] 2 ⟨94, [(2, .ref 0 0), (3, .ref 1 0)], [.box (c_TRoute a0), .box (c_TRoute a1)]⟩ ?_)
 refine then_n (awp_seq (awp_seq (rg0 [2, 3, 6] 2 ⟨94, [(2, .ref 0 0), (3, .ref 1 0), (6, .int .i64 a0.fProto)], [.box (c_TRoute a0), .box (c_TRoute a1)]⟩ ?_)))
 refine then_n (awp_block ?_)
 refine awp_join (fun (p1 : Bool) => ⟨94, [(2, .ref 0 0), (3, .ref 1 0), (6, .int .i64 a0.fProto), (7, .bool p1)], [.box (c_TRoute a0), .box (c_TRoute a1)]⟩) (fun p1 => M.route_Prefer_k1 a0 a1 p1 = some r) ?_ ?_
 intro p1 h2
 unfold M.route_Prefer_k1 at h2
 refine cnd p1 (fun b3 => ?_) (fun b3 => ?_)
 have h4 := cond_t b3 h2
 refine awp_seq ?_
 obtain ⟨r2, q6, h7⟩ := bind_some h4
 refine rg [.pure (.int .i64 r2)] [4] 0 ⟨94, [(4, .int .i64 r2)], []⟩ [] [⟨true, 28, [.int .i64 a0.fAdmin, .int .i64 a1.fAdmin], .pure (.int .i64 r2)⟩] nil_all ⟨fun _ => cmp_Compare_int_ok a0.fAdmin a1.fAdmin r2 q6, trivial⟩ ?_
 refine then_n (awp_ret (inb_r (then_r ?_)))
 obtain rfl := Option.some.inj h7
 exact er0 (.int .i64 r2)
 have h5 := cond_f b3 h2
 refine awp_seq (rg0 [2, 3, 6, 15] 2 ⟨94, [(2, .ref 0 0), (3, .ref 1 0), (6, .int .i64 a0.fProto), (15, .bool (a0.fProto == 3))], [.box (c_TRoute a0), .box (c_TRoute a1)]⟩ ?_)
 refine then_n ?_
 refine cnd (a0.fProto == 3) (fun b8 => ?_) (fun b8 => ?_)
 have h9 := cond_t b8 h5
 refine awp_seq ?_
 obtain ⟨r3, q11, h12⟩ := bind_some h9
 obtain ⟨r4, q13, h14⟩ := bind_some h12
 obtain ⟨r5, q15, h16⟩ := bind_some h14
 obtain ⟨r6, q17, h18⟩ := bind_some h16
 obtain ⟨r7, q19, h20⟩ := bind_some h18
 refine rg [.pure (.int .i64 r3), .pure (.int .i64 r4), .pure (.int .i64 r5), .pure (.int .i64 r6), .pure (.int .i64 r7)] [4] 0 ⟨94, [(4, .int .i64 r7)], []⟩ [] [⟨true, 28, [.int .i64 a0.fClass, .int .i64 a1.fClass], .pure (.int .i64 r3)⟩, ⟨true, 28, [.int .i64 a0.fMetric, .int .i64 a1.fMetric], .pure (.int .i64 r4)⟩, ⟨true, 28, [.int .i64 a0.fInner, .int .i64 a1.fInner], .pure (.int .i64 r5)⟩, ⟨true, 28, [.int .i64 a0.fTag, .int .i64 a1.fTag], .pure (.int .i64 r6)⟩, ⟨true, 27, [.sl false 1 4 (fun i => List.take 1 (List.drop (i * 1) [.int .i64 r3, .int .i64 r4, .int .i64 r5, .int .i64 r6]))], .pure (.int .i64 r7)⟩] nil_all ⟨fun _ => cmp_Compare_int_ok a0.fClass a1.fClass r3 q11, fun _ => cmp_Compare_int_ok a0.fMetric a1.fMetric r4 q13, fun _ => cmp_Compare_int_ok a0.fInner a1.fInner r5 q15, fun _ => cmp_Compare_int_ok a0.fTag a1.fTag r6 q17, fun _ => (cmp_Or_int_ok ([r3, r4, r5, r6] : List Int) r7 q19).args (.cons (asub_sl rfl (fun i hi => match i, hi with | 0, _ => rfl | 1, _ => rfl | 2, _ => rfl | 3, _ => rfl | n + 4, h => absurd h (by omega))) .nil), trivial⟩ ?_
 refine then_n (awp_ret (inb_r (then_r ?_)))
 obtain rfl := Option.some.inj h20
 exact er0 (.int .i64 r7)
 have h10 := cond_f b8 h5
 refine awp_seq (rg0 [2, 3, 6, 39] 2 ⟨94, [(2, .ref 0 0), (3, .ref 1 0), (6, .int .i64 a0.fProto), (39, .bool (a0.fProto == 4))], [.box (c_TRoute a0), .box (c_TRoute a1)]⟩ ?_)
 refine then_n ?_
 refine cnd (a0.fProto == 4) (fun b21 => ?_) (fun b21 => ?_)
 have h22 := cond_t b21 h10
 refine awp_seq ?_
 obtain ⟨r8, q24, h25⟩ := bind_some h22
 obtain ⟨r9, q26, h27⟩ := bind_some h25
 obtain ⟨r10, q28, h29⟩ := bind_some h27
 obtain ⟨r11, q30, h31⟩ := bind_some h29
 refine rg [.pure (.int .i64 r8), .pure (.int .i64 r9), .pure (.int .i64 r10), .pure (.int .i64 r11)] [4] 0 ⟨94, [(4, .int .i64 r11)], []⟩ [] [⟨true, 28, [.int .i64 a0.fMetric, .int .i64 a1.fMetric], .pure (.int .i64 r8)⟩, ⟨true, 28, [.int .i64 a0.fClass, .int .i64 a1.fClass], .pure (.int .i64 r9)⟩, ⟨true, 28, [.int .i64 a0.fTag, .int .i64 a1.fTag], .pure (.int .i64 r10)⟩, ⟨true, 27, [.sl false 1 3 (fun i => List.take 1 (List.drop (i * 1) [.int .i64 r8, .int .i64 r9, .int .i64 r10]))], .pure (.int .i64 r11)⟩] nil_all ⟨fun _ => cmp_Compare_int_ok a0.fMetric a1.fMetric r8 q24, fun _ => cmp_Compare_int_ok a0.fClass a1.fClass r9 q26, fun _ => cmp_Compare_int_ok a0.fTag a1.fTag r10 q28, fun _ => (cmp_Or_int_ok ([r8, r9, r10] : List Int) r11 q30).args (.cons (asub_sl rfl (fun i hi => match i, hi with | 0, _ => rfl | 1, _ => rfl | 2, _ => rfl | n + 3, h => absurd h (by omega))) .nil), trivial⟩ ?_
 refine then_n (awp_ret (inb_r (then_r ?_)))
 obtain rfl := Option.some.inj h31
 exact er0 (.int .i64 r11)
 have h23 := cond_f b21 h10
 refine awp_seq (rg0 [2, 3, 58] 2 ⟨94, [(2, .ref 0 0), (3, .ref 1 0), (58, .bool (a0.fProto == 5))], [.box (c_TRoute a0), .box (c_TRoute a1)]⟩ ?_)
 refine then_n ?_
 refine cnd (a0.fProto == 5) (fun b32 => ?_) (fun b32 => ?_)
 have h33 := cond_t b32 h23
 refine awp_seq ?_
 obtain ⟨r12, q35, h36⟩ := bind_some h33
 obtain ⟨r13, q37, h38⟩ := bind_some h36
 obtain ⟨r14, q39, h40⟩ := bind_some h38
 obtain ⟨r15, q41, h42⟩ := bind_some h40
 obtain ⟨r16, q43, h44⟩ := bind_some h42
 obtain ⟨r17, q45, h46⟩ := bind_some h44
 obtain ⟨r18, q47, h48⟩ := bind_some h46
 obtain ⟨r19, q49, h50⟩ := bind_some h48
 obtain ⟨r20, q51, h52⟩ := bind_some h50
 refine rg [.pure (.int .i64 r12), .pure (.int .i64 r13), .pure (.int .i64 r14), .pure (.int .i64 r15), .pure (.int .i64 r16), .pure (.int .i64 r17), .pure (.int .i64 r18), .pure (.int .i64 r19), .pure (.int .i64 r20)] [4] 0 ⟨94, [(4, .int .i64 r20)], []⟩ [] [⟨true, 62, [.agg (c_TRoute a0)], .pure (.int .i64 r12)⟩, ⟨true, 62, [.agg (c_TRoute a1)], .pure (.int .i64 r13)⟩, ⟨true, 28, [.int .i64 r12, .int .i64 r13], .pure (.int .i64 r14)⟩, ⟨true, 28, [.int .i64 a1.fPref, .int .i64 a0.fPref], .pure (.int .i64 r15)⟩, ⟨true, 28, [.int .i64 (a0.fPath.length : Int), .int .i64 (a1.fPath.length : Int)], .pure (.int .i64 r16)⟩, ⟨true, 28, [.int .i64 a0.fMetric, .int .i64 a1.fMetric], .pure (.int .i64 r17)⟩, ⟨true, 28, [.int .i64 a0.fClass, .int .i64 a1.fClass], .pure (.int .i64 r18)⟩, ⟨true, 63, [.int .u32 a0.fFrom, .int .u32 a1.fFrom], .pure (.int .i64 r19)⟩, ⟨true, 27, [.sl false 1 6 (fun i => List.take 1 (List.drop (i * 1) [.int .i64 r14, .int .i64 r15, .int .i64 r16, .int .i64 r17, .int .i64 r18, .int .i64 r19]))], .pure (.int .i64 r20)⟩] nil_all ⟨fun _ => route_origin_ok a0 r12 q35, fun _ => route_origin_ok a1 r13 q37, fun _ => cmp_Compare_int_ok r12 r13 r14 q39, fun _ => cmp_Compare_int_ok a1.fPref a0.fPref r15 q41, fun _ => cmp_Compare_int_ok (a0.fPath.length : Int) (a1.fPath.length : Int) r16 q43, fun _ => cmp_Compare_int_ok a0.fMetric a1.fMetric r17 q45, fun _ => cmp_Compare_int_ok a0.fClass a1.fClass r18 q47, fun _ => cmp_Compare_uint32_ok a0.fFrom a1.fFrom r19 q49, fun _ => (cmp_Or_int_ok ([r14, r15, r16, r17, r18, r19] : List Int) r20 q51).args (.cons (asub_sl rfl (fun i hi => match i, hi with | 0, _ => rfl | 1, _ => rfl | 2, _ => rfl | 3, _ => rfl | 4, _ => rfl | 5, _ => rfl | n + 6, h => absurd h (by omega))) .nil), trivial⟩ ?_
 refine then_n (awp_ret (inb_r (then_r ?_)))
 obtain rfl := Option.some.inj h52
 exact er0 (.int .i64 r20)
 have h34 := cond_f b32 h23
 refine awp_skip (inb_n (then_n (awp_seq (rg0 [4] 0 ⟨94, [(4, .int .i64 0)], []⟩ ?_))))
 refine then_n (awp_ret ?_)
 obtain rfl := Option.some.inj h34
 exact er0 (.int .i64 0)
 intro k1
 refine awp_seq (rg0 [2, 3, 6, 7] 2 ⟨94, [(2, .ref 0 0), (3, .ref 1 0), (6, .int .i64 a0.fProto), (7, .bool (a0.fProto == 1))], [.box (c_TRoute a0), .box (c_TRoute a1)]⟩ ?_)
 refine then_n ?_
 refine cnd (a0.fProto == 1) (fun b53 => ?_) (fun b53 => ?_)
 have h54 := cond_t b53 h
 refine awp_skip ?_
 exact then_le (le_rfl) (k1 (a0.fProto == 1) h54)
 have h55 := cond_f b53 h
 refine rg0 [2, 3, 6, 7] 2 ⟨94, [(2, .ref 0 0), (3, .ref 1 0), (6, .int .i64 a0.fProto), (7, .bool (a0.fProto == 2))], [.box (c_TRoute a0), .box (c_TRoute a1)]⟩ ?_
 exact then_le (le_rfl) (k1 (a0.fProto == 2) h55)
theorem rib_Less_ok (a0 : TRoute) (a1 : TRoute) (r : Bool) (h : M.rib_Less a0 a1 = some r) : Fn Try.prog 10 [.agg (c_TRoute a0), .agg (c_TRoute a1)] (.pure (.bool r)) := by
 unfold M.rib_Less at h
 refine fn_pure Try.func10 rfl (by kernel_rfl) ?_
 refine awp_seq (rg0 [2, 3] 2 ⟨21, [(2, .ref 0 0), (3, .ref 1 0)], [.box (c_TRoute a0), .box (c_TRoute a1)]⟩ ?_)
 refine then_n (awp_seq ?_)
 obtain ⟨r1, q1, h2⟩ := bind_some h
 obtain ⟨r2, q3, h4⟩ := bind_some h2
 obtain ⟨r3, q5, h6⟩ := bind_some h4
 obtain ⟨r4, q7, h8⟩ := bind_some h6
 refine rg [.pure (.int .i64 r1), .pure (.int .i64 r2), .pure (.int .i64 r3), .pure (.int .i64 r4)] [4] 0 ⟨21, [(4, .bool (decide (r4 < 0)))], []⟩ [] [⟨true, 28, [.int .i64 a0.fAdmin, .int .i64 a1.fAdmin], .pure (.int .i64 r1)⟩, ⟨true, 28, [.int .i64 a0.fProto, .int .i64 a1.fProto], .pure (.int .i64 r2)⟩, ⟨true, 29, [.agg (c_TRoute a0), .agg (c_TRoute a1)], .pure (.int .i64 r3)⟩, ⟨true, 27, [.sl false 1 3 (fun i => List.take 1 (List.drop (i * 1) [.int .i64 r1, .int .i64 r2, .int .i64 r3]))], .pure (.int .i64 r4)⟩] nil_all ⟨fun _ => cmp_Compare_int_ok a0.fAdmin a1.fAdmin r1 q1, fun _ => cmp_Compare_int_ok a0.fProto a1.fProto r2 q3, fun _ => route_Prefer_ok a0 a1 r3 q5, fun _ => (cmp_Or_int_ok ([r1, r2, r3] : List Int) r4 q7).args (.cons (asub_sl rfl (fun i hi => match i, hi with | 0, _ => rfl | 1, _ => rfl | 2, _ => rfl | n + 3, h => absurd h (by omega))) .nil), trivial⟩ ?_
 refine then_n (awp_ret ?_)
 obtain rfl := Option.some.inj h8
 exact er0 (.bool (decide (r4 < 0)))
theorem slices_Clone_int_int_ok (a0 : List Int) (r : List Int) (h : M.slices_Clone_int_int a0 = some r) : Fn Try.prog 66 [sL 1 (ci .i64) a0] (.pure (sL 1 (ci .i64) r)) := by
 unfold M.slices_Clone_int_int at h
 obtain ⟨hc, h1⟩ := gd_some h
 obtain rfl := Option.some.inj h1
 refine fn_pure Try.func66 rfl (by kernel_rfl) ?_
 refine awp_seq (rg0 [0] 0 ⟨8, [(0, sL 1 (ci .i64) a0)], []⟩ ?_)
 refine then_n (awp_seq (awp_seq (rg0 [0, 4] 0 ⟨8, [(0, sL 1 (ci .i64) a0), (4, .nilq a0.length)], []⟩ ?_)))
 refine then_n (nq a0.length (fun hz => ?_) ?_)
 refine awp_seq (rg0 [2] 0 ⟨8, [(2, .sl true 1 0 (fun _ => []))], []⟩ ?_)
 refine then_n (awp_ret (then_r ?_))
 exact er (.sl false 1 0 (fun _ => [])) (sub_nil0 hz)
 refine awp_skip (then_n (awp_seq (rgc [2] 1 ⟨8, [(2, .asl 0 0 (0 + a0.length))], [.arr 1 (0 + a0.length) (app (fun i => List.take 1 (List.drop (i * 1) [])) 0 (fun i => (ci .i64) (a0.getD i default)))]⟩ [decide (0 = 0) || decide (0 < a0.length), decide ((0 + a0.length) * 8 ≤ 140737488355328)] hc ?_)))
 refine then_n (awp_ret ?_)
 exact er (.sl false 1 (0 + a0.length) (fun i => (app (fun i => List.take 1 (List.drop (i * 1) [])) 0 (fun i => (ci .i64) (a0.getD i default))) (0 + i))) (sub_sl (Nat.zero_add _) (fun i hi => by rw [Nat.zero_add]; exact app_nil (ci .i64) _ a0 _ (fun _ _ => rfl) i hi))
theorem slices_Clone_api_Hop_api_Hop_ok (a0 : List THop) (r : List THop) (h : M.slices_Clone_api_Hop_api_Hop a0 = some r) : Fn Try.prog 67 [sL 2 c_THop a0] (.pure (sL 2 c_THop r)) := by
 unfold M.slices_Clone_api_Hop_api_Hop at h
 obtain ⟨hc, h1⟩ := gd_some h
 obtain rfl := Option.some.inj h1
 refine fn_pure Try.func67 rfl (by kernel_rfl) ?_
 refine awp_seq (rg0 [0] 0 ⟨8, [(0, sL 2 c_THop a0)], []⟩ ?_)
 refine then_n (awp_seq (awp_seq (rg0 [0, 4] 0 ⟨8, [(0, sL 2 c_THop a0), (4, .nilq a0.length)], []⟩ ?_)))
 refine then_n (nq a0.length (fun hz => ?_) ?_)
 refine awp_seq (rg0 [2] 0 ⟨8, [(2, .sl true 2 0 (fun _ => []))], []⟩ ?_)
 refine then_n (awp_ret (then_r ?_))
 exact er (.sl false 2 0 (fun _ => [])) (sub_nil0 hz)
 refine awp_skip (then_n (awp_seq (rgc [2] 1 ⟨8, [(2, .asl 0 0 (0 + a0.length))], [.arr 2 (0 + a0.length) (app (fun i => List.take 2 (List.drop (i * 2) [])) 0 (fun i => c_THop (a0.getD i default)))]⟩ [decide (0 = 0) || decide (0 < a0.length), decide ((0 + a0.length) * 16 ≤ 140737488355328)] hc ?_)))
 refine then_n (awp_ret ?_)
 exact er (.sl false 2 (0 + a0.length) (fun i => (app (fun i => List.take 2 (List.drop (i * 2) [])) 0 (fun i => c_THop (a0.getD i default))) (0 + i))) (sub_sl (Nat.zero_add _) (fun i hi => by rw [Nat.zero_add]; exact app_nil c_THop _ a0 _ (fun _ _ => rfl) i hi))
theorem rib_clone_ok (a0 : TRoute) (r : TRoute) (h : M.rib_clone a0 = some r) : Fn Try.prog 35 [.agg (c_TRoute a0)] (.pure (.agg (c_TRoute r))) := by
 unfold M.rib_clone at h
 refine fn_pure Try.func35 rfl (by kernel_rfl) ?_
 refine awp_seq (rg0 [1, 2] 2 ⟨12, [(1, .ref 0 0), (2, .ref 1 0)], [.box (c_TRoute a0), .box [.int .u32 0, .int .i64 0, .int .i64 0, .int .i64 0, .int .i64 0, .int .i64 0, .int .i64 0, .int .i64 0, .int .i64 0, .sl true 1 0 (fun _ => []), .int .u32 0, .int .u32 0, .sl true 2 0 (fun _ => []), .bool false]]⟩ ?_)
 refine then_n (awp_seq ?_)
 obtain ⟨r1, q1, h2⟩ := bind_some h
 refine rg [.pure (sL 1 (ci .i64) r1)] [1, 2] 2 ⟨12, [(1, .ref 0 0), (2, .ref 1 0)], [.box [.int .u32 a0.fPrefix.fAddr, .int .i64 a0.fPrefix.fLen, .int .i64 a0.fProto, .int .i64 a0.fClass, .int .i64 a0.fAdmin, .int .i64 a0.fMetric, .int .i64 a0.fInner, .int .i64 a0.fTag, .int .i64 a0.fPref, sL 1 (ci .i64) r1, .int .u32 a0.fFrom, .int .u32 a0.fNext, sL 2 c_THop a0.fHops, .bool a0.fDiscard], .box [.int .u32 0, .int .i64 0, .int .i64 0, .int .i64 0, .int .i64 0, .int .i64 0, .int .i64 0, .int .i64 0, .int .i64 0, .sl true 1 0 (fun _ => []), .int .u32 0, .int .u32 0, .sl true 2 0 (fun _ => []), .bool false]]⟩ [] [⟨true, 66, [sL 1 (ci .i64) a0.fPath], .pure (sL 1 (ci .i64) r1)⟩] nil_all ⟨fun _ => slices_Clone_int_int_ok a0.fPath r1 q1, trivial⟩ ?_
 refine then_n (awp_seq ?_)
 obtain ⟨r2, q3, h4⟩ := bind_some h2
 refine rg [.pure (sL 2 c_THop r2)] [1, 2] 2 ⟨12, [(1, .ref 0 0), (2, .ref 1 0)], [.box [.int .u32 a0.fPrefix.fAddr, .int .i64 a0.fPrefix.fLen, .int .i64 a0.fProto, .int .i64 a0.fClass, .int .i64 a0.fAdmin, .int .i64 a0.fMetric, .int .i64 a0.fInner, .int .i64 a0.fTag, .int .i64 a0.fPref, sL 1 (ci .i64) r1, .int .u32 a0.fFrom, .int .u32 a0.fNext, sL 2 c_THop r2, .bool a0.fDiscard], .box [.int .u32 0, .int .i64 0, .int .i64 0, .int .i64 0, .int .i64 0, .int .i64 0, .int .i64 0, .int .i64 0, .int .i64 0, .sl true 1 0 (fun _ => []), .int .u32 0, .int .u32 0, .sl true 2 0 (fun _ => []), .bool false]]⟩ [] [⟨true, 67, [sL 2 c_THop a0.fHops], .pure (sL 2 c_THop r2)⟩] nil_all ⟨fun _ => slices_Clone_api_Hop_api_Hop_ok a0.fHops r2 q3, trivial⟩ ?_
 refine then_n (awp_seq (rg0 [2] 2 ⟨12, [(2, .ref 1 0)], [.box [.int .u32 a0.fPrefix.fAddr, .int .i64 a0.fPrefix.fLen, .int .i64 a0.fProto, .int .i64 a0.fClass, .int .i64 a0.fAdmin, .int .i64 a0.fMetric, .int .i64 a0.fInner, .int .i64 a0.fTag, .int .i64 a0.fPref, sL 1 (ci .i64) r1, .int .u32 a0.fFrom, .int .u32 a0.fNext, sL 2 c_THop r2, .bool a0.fDiscard], .box [.int .u32 a0.fPrefix.fAddr, .int .i64 a0.fPrefix.fLen, .int .i64 a0.fProto, .int .i64 a0.fClass, .int .i64 a0.fAdmin, .int .i64 a0.fMetric, .int .i64 a0.fInner, .int .i64 a0.fTag, .int .i64 a0.fPref, sL 1 (ci .i64) r1, .int .u32 a0.fFrom, .int .u32 a0.fNext, sL 2 c_THop r2, .bool a0.fDiscard]]⟩ ?_))
 refine then_n (awp_ret ?_)
 obtain rfl := Option.some.inj h4
 exact er0 (.agg [.int .u32 a0.fPrefix.fAddr, .int .i64 a0.fPrefix.fLen, .int .i64 a0.fProto, .int .i64 a0.fClass, .int .i64 a0.fAdmin, .int .i64 a0.fMetric, .int .i64 a0.fInner, .int .i64 a0.fTag, .int .i64 a0.fPref, sL 1 (ci .i64) r1, .int .u32 a0.fFrom, .int .u32 a0.fNext, sL 2 c_THop r2, .bool a0.fDiscard])
theorem rib_Select_ok (a0 : List TRoute) (r : (List TRoute)) (h : M.rib_Select a0 = some r) : Fn Try.prog 13 [sL 14 c_TRoute a0] (.pure (sL 14 c_TRoute r)) := by
 unfold M.rib_Select at h
 refine fn_pure Try.func13 rfl (by kernel_rfl) ?_
 refine awp_seq (rg0 [0] 0 ⟨64, [(0, sL 14 c_TRoute a0)], []⟩ ?_)
 refine then_n (awp_seq ?_)
 obtain ⟨r1, q1, h2⟩ := bind_some h
 refine rg [oL 14 c_TRoute r1] [3] 1 ⟨64, [(3, .asl 0 0 r1.length)], [aL 14 c_TRoute r1]⟩ [] [⟨true, 31, [sL 14 c_TRoute a0], oL 14 c_TRoute r1⟩] nil_all ⟨fun _ => slices_Clone_api_Route_api_Route_own a0 r1 q1, trivial⟩ ?_
 refine then_n (awp_seq ?_)
 obtain ⟨r2, q3, h4⟩ := bind_some h2
 obtain ⟨c5, h6⟩ := gd_some h4
 refine rg [.lnd 0 0 (fun _ => []) (fun i => c_TRoute (r2.getD i default)) (.tup [])] [3] 1 ⟨64, [(3, .asl 0 0 r1.length)], [.arr 14 r1.length (fun i => c_TRoute (r2.getD i default))]⟩ [] [⟨true, 32, [.asl 0 0 r1.length, .fn 33 []], .lnd 14 r1.length (fun i => c_TRoute (r1.getD i default)) (fun i => c_TRoute (r2.getD i default)) (.tup [])⟩] nil_all ⟨fun _ => slices_SortStableFunc_api_Route_api_Route__rib_Select_1_ok r1 r2 q3, trivial⟩ ?_
 refine then_le (s' := ⟨64, [(3, .asl 0 0 r2.length)], [aL 14 c_TRoute r2]⟩) (le_sub (.cons (asl_len (len_eq (c5 _ List.mem_cons_self))) .nil) (.cons (.arr (len_eq (c5 _ List.mem_cons_self)) (fun _ _ => rfl)) .nil)) ?_
 refine awp_seq (rg0 [3, 4] 1 ⟨64, [(3, .asl 0 0 r2.length), (4, .sl true 14 0 (fun _ => []))], [aL 14 c_TRoute r2]⟩ ?_)
 refine then_n (awp_seq (awp_seq (rg0 [4, 14, 15, 16] 1 ⟨64, [(4, .sl true 14 0 (fun _ => [])), (14, .asl 0 0 r2.length), (15, .int .i64 (r2.length : Int)), (16, .int .i64 0)], [aL 14 c_TRoute r2]⟩ ?_)))
 refine then_n (awp_block ?_)
 refine awp_le (s' := ⟨64, [(4, .sl true 14 0 (fun _ => [])), (14, .asl 0 0 r2.length), (15, .int .i64 (r2.length : Int)), (16, .int .i64 0)], [aL 14 c_TRoute r2]⟩) (le_rfl) ?_
 refine awp_le (s' := ⟨64, [(4, .asl 1 0 (([] : List TRoute).length)), (14, .asl 0 0 r2.length), (15, .int .i64 (r2.length : Int)), (16, .int .i64 0)], [aL 14 c_TRoute r2, aL 14 c_TRoute ([] : List TRoute)]⟩) (Le.trans (s' := ⟨64, (4, .asl 1 0 0) :: [(4, .sl true 14 0 (fun _ => [])), (14, .asl 0 0 r2.length), (15, .int .i64 (r2.length : Int)), (16, .int .i64 0)], [aL 14 c_TRoute r2] ++ [.arr 14 0 (fun i => c_TRoute (([] : List TRoute).getD i default))]⟩) (le_thaw (wd := 14) (f := fun _ => []) 4 (by kernel_rfl) _ _) (kp [4, 14, 15, 16])) ?_
 obtain ⟨y7, q31, h32⟩ := bind_some h6
 refine awp_le (s' := ⟨64, [(4, .asl 1 0 (([] : List TRoute).length)), (14, .asl 0 0 r2.length), (15, .int .i64 (r2.length : Int)), (16, .int .i64 0)], [aL 14 c_TRoute r2, aL 14 c_TRoute ([] : List TRoute)]⟩) (le_rfl) ?_
 refine awp_mono (awp_loop (f := M.rib_Select_l1 r2) (S := fun (p3 : (List TRoute) × Int) => ⟨64, [(4, .asl 1 0 p3.1.length), (14, .asl 0 0 r2.length), (15, .int .i64 (r2.length : Int)), (16, .int .i64 p3.2)], [aL 14 c_TRoute r2, aL 14 c_TRoute p3.1]⟩) (O := (fun z => OutE 0 (fun z => ⟨64, [(4, .asl 1 0 z.length)], [aL 14 c_TRoute r2, aL 14 c_TRoute z]⟩) z)) ?_ (x := (([] : List TRoute), 0)) (y := y7) (loopM_iter q31)) ?_
 intro p3 y4 h7
 unfold M.rib_Select_l1 at h7
 refine awp_seq (rg0 [4, 14, 15, 16, 17] 2 ⟨64, [(4, .asl 1 0 p3.1.length), (14, .asl 0 0 r2.length), (15, .int .i64 (r2.length : Int)), (16, .int .i64 p3.2), (17, .bool (decide (p3.2 < (r2.length : Int))))], [aL 14 c_TRoute r2, aL 14 c_TRoute p3.1]⟩ ?_)
 refine then_n (awp_seq ?_)
 refine cnd (decide (p3.2 < (r2.length : Int))) (fun b8 => ?_) (fun b8 => ?_)
 have h9 := cond_t b8 h7
 refine awp_skip (then_n ?_)
 refine awp_join (fun (p5 : (List TRoute)) => ⟨64, [(4, .asl 1 0 p5.length), (14, .asl 0 0 r2.length), (15, .int .i64 (r2.length : Int)), (16, .int .i64 p3.2)], [aL 14 c_TRoute r2, aL 14 c_TRoute p5]⟩) (fun p5 => M.rib_Select_k1 p3 p5 = some y4) ?_ ?_
 intro p5 h12
 unfold M.rib_Select_k1 at h12
 refine rg0 [4, 14, 15, 16] 2 ⟨64, [(4, .asl 1 0 p5.length), (14, .asl 0 0 r2.length), (15, .int .i64 (r2.length : Int)), (16, .int .i64 (wr .i64 (p3.2 + 1)))], [aL 14 c_TRoute r2, aL 14 c_TRoute p5]⟩ ?_
 obtain rfl := Option.some.inj h12
 exact round_n (le_rfl)
 intro k11
 refine awp_block (awp_seq ?_)
 obtain ⟨c13, h14⟩ := gd_some h9
 refine rgc [4, 6, 14, 15, 16] 3 ⟨64, [(4, .asl 1 0 p3.1.length), (6, .ref 2 0), (14, .asl 0 0 r2.length), (15, .int .i64 (r2.length : Int)), (16, .int .i64 p3.2)], [aL 14 c_TRoute r2, aL 14 c_TRoute p3.1, .box (c_TRoute (r2.getD (0 + p3.2.toNat) default))]⟩ [decide (0 ≤ p3.2), decide (p3.2 < (r2.length : Int))] c13 ?_
 refine then_n (awp_seq (rg0 [4, 6, 7, 14, 15, 16] 3 ⟨64, [(4, .asl 1 0 p3.1.length), (6, .ref 2 0), (7, .int .i64 (wr .i64 ((p3.1.length : Int) - 1))), (14, .asl 0 0 r2.length), (15, .int .i64 (r2.length : Int)), (16, .int .i64 p3.2)], [aL 14 c_TRoute r2, aL 14 c_TRoute p3.1, .box (c_TRoute (r2.getD (0 + p3.2.toNat) default))]⟩ ?_))
 refine then_n (awp_seq ?_)
 obtain ⟨c15, h16⟩ := gd_some h14
 refine rgc [4, 6, 7, 14, 15, 16, 34] 3 ⟨64, [(4, .asl 1 0 p3.1.length), (6, .ref 2 0), (7, .int .i64 (wr .i64 ((p3.1.length : Int) - 1))), (14, .asl 0 0 r2.length), (15, .int .i64 (r2.length : Int)), (16, .int .i64 p3.2), (34, .bool ((decide ((wr .i64 ((p3.1.length : Int) - 1)) < 0)) || (!(((((p3.1.getD (0 + (wr .i64 ((p3.1.length : Int) - 1)).toNat) default).fPrefix).fAddr) == (((r2.getD (0 + p3.2.toNat) default).fPrefix).fAddr)) && (((((p3.1.getD (0 + (wr .i64 ((p3.1.length : Int) - 1)).toNat) default).fPrefix).fLen) == (((r2.getD (0 + p3.2.toNat) default).fPrefix).fLen)) && true)))))], [aL 14 c_TRoute r2, aL 14 c_TRoute p3.1, .box (c_TRoute (r2.getD (0 + p3.2.toNat) default))]⟩ [guardB (!(decide ((wr .i64 ((p3.1.length : Int) - 1)) < 0))) (decide (0 ≤ (wr .i64 ((p3.1.length : Int) - 1)))), guardB (!(decide ((wr .i64 ((p3.1.length : Int) - 1)) < 0))) (decide ((wr .i64 ((p3.1.length : Int) - 1)) < (p3.1.length : Int)))] c15 ?_
 refine then_n ?_
 refine cnd ((decide ((wr .i64 ((p3.1.length : Int) - 1)) < 0)) || (!(((((p3.1.getD (0 + (wr .i64 ((p3.1.length : Int) - 1)).toNat) default).fPrefix).fAddr) == (((r2.getD (0 + p3.2.toNat) default).fPrefix).fAddr)) && (((((p3.1.getD (0 + (wr .i64 ((p3.1.length : Int) - 1)).toNat) default).fPrefix).fLen) == (((r2.getD (0 + p3.2.toNat) default).fPrefix).fLen)) && true)))) (fun b17 => ?_) (fun b17 => ?_)
 have h18 := cond_t b17 h16
 obtain ⟨c20, h21⟩ := gd_some h18
 refine rgc [4, 14, 15, 16] 2 ⟨64, [(4, .asl 1 0 (p3.1.length + 1)), (14, .asl 0 0 r2.length), (15, .int .i64 (r2.length : Int)), (16, .int .i64 p3.2)], [aL 14 c_TRoute r2, .arr 14 (p3.1.length + 1) (app (fun i => c_TRoute (p3.1.getD i default)) p3.1.length (fun i => List.take 14 (List.drop (i * 14) [.int .u32 (((r2.getD (0 + p3.2.toNat) default).fPrefix).fAddr), .int .i64 (((r2.getD (0 + p3.2.toNat) default).fPrefix).fLen), .int .i64 ((r2.getD (0 + p3.2.toNat) default).fProto), .int .i64 ((r2.getD (0 + p3.2.toNat) default).fClass), .int .i64 ((r2.getD (0 + p3.2.toNat) default).fAdmin), .int .i64 ((r2.getD (0 + p3.2.toNat) default).fMetric), .int .i64 ((r2.getD (0 + p3.2.toNat) default).fInner), .int .i64 ((r2.getD (0 + p3.2.toNat) default).fTag), .int .i64 ((r2.getD (0 + p3.2.toNat) default).fPref), sL 1 (ci .i64) ((r2.getD (0 + p3.2.toNat) default).fPath), .int .u32 ((r2.getD (0 + p3.2.toNat) default).fFrom), .int .u32 ((r2.getD (0 + p3.2.toNat) default).fNext), sL 2 c_THop ((r2.getD (0 + p3.2.toNat) default).fHops), .bool ((r2.getD (0 + p3.2.toNat) default).fDiscard)])))]⟩ [decide ((p3.1.length + 1) * 136 ≤ 140737488355328)] c20 ?_
 refine inb_n ?_
 exact then_le (le_sub (.cons (asl_len (len_snoc _ _)) (.cons Sub.rfl (.cons Sub.rfl (.cons Sub.rfl .nil)))) (.cons .rfl (.cons (.arr (len_snoc _ _) (app_snoc c_TRoute p3.1 (r2.getD (0 + p3.2.toNat) default) _ rfl)) .nil))) (k11 (p3.1 ++ [r2.getD (0 + p3.2.toNat) default]) h21)
 have h19 := cond_f b17 h16
 refine awp_seq ?_
 obtain ⟨r6, q22, h23⟩ := bind_some h19
 obtain ⟨c24, h25⟩ := gd_some h23
 refine rg [.pure (.bool r6)] [4, 6, 7, 14, 15, 16, 44] 3 ⟨64, [(4, .asl 1 0 p3.1.length), (6, .ref 2 0), (7, .int .i64 (wr .i64 ((p3.1.length : Int) - 1))), (14, .asl 0 0 r2.length), (15, .int .i64 (r2.length : Int)), (16, .int .i64 p3.2), (44, .bool r6)], [aL 14 c_TRoute r2, aL 14 c_TRoute p3.1, .box (c_TRoute (r2.getD (0 + p3.2.toNat) default))]⟩ [decide (0 ≤ (wr .i64 ((p3.1.length : Int) - 1))), decide ((wr .i64 ((p3.1.length : Int) - 1)) < (p3.1.length : Int))] [⟨true, 10, [.agg (c_TRoute (r2.getD (0 + p3.2.toNat) default)), .agg (c_TRoute (p3.1.getD (0 + (wr .i64 ((p3.1.length : Int) - 1)).toNat) default))], .pure (.bool r6)⟩] c24 ⟨fun _ => rib_Less_ok (r2.getD (0 + p3.2.toNat) default) (p3.1.getD (0 + (wr .i64 ((p3.1.length : Int) - 1)).toNat) default) r6 q22, trivial⟩ ?_
 refine then_n ?_
 refine cnd r6 (fun b26 => ?_) (fun b26 => ?_)
 have h27 := cond_t b26 h25
 obtain ⟨c29, h30⟩ := gd_some h27
 refine rgc [4, 14, 15, 16] 2 ⟨64, [(4, .asl 1 0 p3.1.length), (14, .asl 0 0 r2.length), (15, .int .i64 (r2.length : Int)), (16, .int .i64 p3.2)], [aL 14 c_TRoute r2, .arr 14 p3.1.length (fun j => bif Nat.beq j (0 + (wr .i64 ((p3.1.length : Int) - 1)).toNat) then splice (c_TRoute (p3.1.getD (0 + (wr .i64 ((p3.1.length : Int) - 1)).toNat) default)) [.int .u32 (((r2.getD (0 + p3.2.toNat) default).fPrefix).fAddr), .int .i64 (((r2.getD (0 + p3.2.toNat) default).fPrefix).fLen), .int .i64 ((r2.getD (0 + p3.2.toNat) default).fProto), .int .i64 ((r2.getD (0 + p3.2.toNat) default).fClass), .int .i64 ((r2.getD (0 + p3.2.toNat) default).fAdmin), .int .i64 ((r2.getD (0 + p3.2.toNat) default).fMetric), .int .i64 ((r2.getD (0 + p3.2.toNat) default).fInner), .int .i64 ((r2.getD (0 + p3.2.toNat) default).fTag), .int .i64 ((r2.getD (0 + p3.2.toNat) default).fPref), sL 1 (ci .i64) ((r2.getD (0 + p3.2.toNat) default).fPath), .int .u32 ((r2.getD (0 + p3.2.toNat) default).fFrom), .int .u32 ((r2.getD (0 + p3.2.toNat) default).fNext), sL 2 c_THop ((r2.getD (0 + p3.2.toNat) default).fHops), .bool ((r2.getD (0 + p3.2.toNat) default).fDiscard)] 0 else c_TRoute (p3.1.getD j default))]⟩ [decide (0 ≤ (wr .i64 ((p3.1.length : Int) - 1))), decide ((wr .i64 ((p3.1.length : Int) - 1)) < (p3.1.length : Int))] c29 ?_
 refine inb_n ?_
 exact then_le (le_sub (.cons (asl_len (by simp)) (.cons Sub.rfl (.cons Sub.rfl (.cons Sub.rfl .nil)))) (.cons .rfl (.cons (.arr (by simp) (set_ext c_TRoute p3.1 (0 + (wr .i64 ((p3.1.length : Int) - 1)).toNat) (r2.getD (0 + p3.2.toNat) default) _ rfl)) .nil))) (k11 (p3.1.set (0 + (wr .i64 ((p3.1.length : Int) - 1)).toNat) (r2.getD (0 + p3.2.toNat) default)) h30)
 have h28 := cond_f b26 h25
 refine awp_skip (inb_n ?_)
 exact then_le (Le.trans (s' := ⟨64, [(4, .asl 1 0 p3.1.length), (14, .asl 0 0 r2.length), (15, .int .i64 (r2.length : Int)), (16, .int .i64 p3.2)], [aL 14 c_TRoute r2, aL 14 c_TRoute p3.1, .box (c_TRoute (r2.getD (0 + p3.2.toNat) default))]⟩) (kp [4, 14, 15, 16]) (le_cut (n := 2) (by kernel_rfl))) (k11 p3.1 h28)
 have h10 := cond_f b8 h7
 refine awp_exit (then_e ?_)
 obtain rfl := Option.some.inj h10
 exact round_e ⟨rfl, kp [4]⟩
 intro e33 s34 o35
 obtain ⟨rfl, l36⟩ := o35
 refine inb_here ?_
 refine then_le (s' := ⟨64, [(4, .asl 1 0 y7.length)], [aL 14 c_TRoute r2, aL 14 c_TRoute y7]⟩) (l36) ?_
 refine awp_seq (awp_seq (rg0 [4, 50, 51, 52] 2 ⟨64, [(4, .asl 1 0 y7.length), (50, .asl 1 0 y7.length), (51, .int .i64 (y7.length : Int)), (52, .int .i64 0)], [aL 14 c_TRoute r2, aL 14 c_TRoute y7]⟩ ?_))
 refine then_n (awp_block ?_)
 obtain ⟨y11, q47, h48⟩ := bind_some h32
 refine awp_le (s' := ⟨64, [(4, .asl 1 0 y7.length), (50, .asl 1 0 y7.length), (51, .int .i64 (y7.length : Int)), (52, .int .i64 0)], [aL 14 c_TRoute r2, aL 14 c_TRoute y7]⟩) (le_rfl) ?_
 refine awp_mono (awp_loop (f := M.rib_Select_l2 y7) (S := fun (p8 : (List TRoute) × Int) => ⟨64, [(4, .asl 1 0 p8.1.length), (50, .asl 1 0 p8.1.length), (51, .int .i64 (y7.length : Int)), (52, .int .i64 p8.2)], [aL 14 c_TRoute r2, aL 14 c_TRoute p8.1]⟩) (O := (fun z => OutE 2 (fun z => ⟨64, [(4, .asl 1 0 z.length)], [aL 14 c_TRoute r2, aL 14 c_TRoute z]⟩) z)) ?_ (x := (y7, 0)) (y := y11) (loopM_iter q47)) ?_
 intro p8 y9 h37
 unfold M.rib_Select_l2 at h37
 refine awp_seq (rg0 [4, 50, 51, 52, 53] 2 ⟨64, [(4, .asl 1 0 p8.1.length), (50, .asl 1 0 p8.1.length), (51, .int .i64 (y7.length : Int)), (52, .int .i64 p8.2), (53, .bool (decide (p8.2 < (y7.length : Int))))], [aL 14 c_TRoute r2, aL 14 c_TRoute p8.1]⟩ ?_)
 refine then_n (awp_seq ?_)
 refine cnd (decide (p8.2 < (y7.length : Int))) (fun b38 => ?_) (fun b38 => ?_)
 have h39 := cond_t b38 h37
 refine awp_skip (then_n (awp_seq (awp_block (awp_seq ?_))))
 obtain ⟨c41, h42⟩ := gd_some h39
 refine rgc [4, 8, 9, 50, 51, 52] 3 ⟨64, [(4, .asl 1 0 p8.1.length), (8, .int .i64 p8.2), (9, .ref 2 0), (50, .asl 1 0 p8.1.length), (51, .int .i64 (y7.length : Int)), (52, .int .i64 p8.2)], [aL 14 c_TRoute r2, aL 14 c_TRoute p8.1, .box (c_TRoute (p8.1.getD (0 + p8.2.toNat) default))]⟩ [decide (0 ≤ p8.2), decide (p8.2 < (p8.1.length : Int))] c41 ?_
 refine then_n ?_
 obtain ⟨r10, q43, h44⟩ := bind_some h42
 obtain ⟨c45, h46⟩ := gd_some h44
 refine rg [.pure (.agg (c_TRoute r10))] [4, 50, 51, 52] 2 ⟨64, [(4, .asl 1 0 p8.1.length), (50, .asl 1 0 p8.1.length), (51, .int .i64 (y7.length : Int)), (52, .int .i64 p8.2)], [aL 14 c_TRoute r2, .arr 14 p8.1.length (fun j => bif Nat.beq j (0 + p8.2.toNat) then splice (c_TRoute (p8.1.getD (0 + p8.2.toNat) default)) [.int .u32 r10.fPrefix.fAddr, .int .i64 r10.fPrefix.fLen, .int .i64 r10.fProto, .int .i64 r10.fClass, .int .i64 r10.fAdmin, .int .i64 r10.fMetric, .int .i64 r10.fInner, .int .i64 r10.fTag, .int .i64 r10.fPref, sL 1 (ci .i64) r10.fPath, .int .u32 r10.fFrom, .int .u32 r10.fNext, sL 2 c_THop r10.fHops, .bool r10.fDiscard] 0 else c_TRoute (p8.1.getD j default))]⟩ [decide (0 ≤ p8.2), decide (p8.2 < (p8.1.length : Int))] [⟨true, 35, [.agg (c_TRoute (p8.1.getD (0 + p8.2.toNat) default))], .pure (.agg (c_TRoute r10))⟩] c45 ⟨fun _ => rib_clone_ok (p8.1.getD (0 + p8.2.toNat) default) r10 q43, trivial⟩ ?_
 refine inb_n ?_
 refine then_le (s' := ⟨64, [(4, .asl 1 0 ((p8.1.set (0 + p8.2.toNat) r10).length)), (50, .asl 1 0 ((p8.1.set (0 + p8.2.toNat) r10).length)), (51, .int .i64 (y7.length : Int)), (52, .int .i64 p8.2)], [aL 14 c_TRoute r2, aL 14 c_TRoute (p8.1.set (0 + p8.2.toNat) r10)]⟩) (le_sub (.cons (asl_len (by simp)) (.cons (asl_len (by simp)) (.cons Sub.rfl (.cons Sub.rfl .nil)))) (.cons .rfl (.cons (.arr (by simp) (set_ext c_TRoute p8.1 (0 + p8.2.toNat) r10 _ rfl)) .nil))) ?_
 refine rg0 [4, 50, 51, 52] 2 ⟨64, [(4, .asl 1 0 ((p8.1.set (0 + p8.2.toNat) r10).length)), (50, .asl 1 0 ((p8.1.set (0 + p8.2.toNat) r10).length)), (51, .int .i64 (y7.length : Int)), (52, .int .i64 (wr .i64 (p8.2 + 1)))], [aL 14 c_TRoute r2, aL 14 c_TRoute (p8.1.set (0 + p8.2.toNat) r10)]⟩ ?_
 obtain rfl := Option.some.inj h46
 exact round_n (le_rfl)
 have h40 := cond_f b38 h37
 refine awp_exit (then_e ?_)
 obtain rfl := Option.some.inj h40
 exact round_e ⟨rfl, kp [4]⟩
 intro e49 s50 o51
 obtain ⟨rfl, l52⟩ := o51
 refine inb_here ?_
 refine then_le (s' := ⟨64, [(4, .asl 1 0 y11.length)], [aL 14 c_TRoute r2, aL 14 c_TRoute y11]⟩) (l52) ?_
 refine awp_seq (rg0 [2] 2 ⟨64, [(2, .asl 1 0 y11.length)], [aL 14 c_TRoute r2, aL 14 c_TRoute y11]⟩ ?_)
 refine then_n (awp_ret ?_)
 obtain rfl := Option.some.inj h48
 exact er (.sl false 14 y11.length (fun i => c_TRoute (y11.getD (0 + i) default))) sub_asl
theorem law19_sane_ok  (r : Bool) (h : M.law19_sane  = some r) : Fn Try.prog 15 [] (.pure (.bool r)) := by
 unfold M.law19_sane at h
 refine fn_pure Try.func15 rfl (by kernel_rfl) ?_
 refine awp_seq (rg0 [] 0 ⟨33, [], []⟩ ?_)
 refine then_n (awp_seq (rg0 [1] 1 ⟨33, [(1, .ref 0 0)], [.box [.int .u32 0, .int .i64 0, .int .i64 2, .int .i64 0, .int .i64 5, .int .i64 0, .int .i64 0, .int .i64 0, .int .i64 0, .sl true 1 0 (fun _ => []), .int .u32 0, .int .u32 0, .sl true 2 0 (fun _ => []), .bool true]]⟩ ?_))
 refine then_n (awp_seq (rg0 [1, 2] 2 ⟨33, [(1, .ref 0 0), (2, .ref 1 0)], [.box [.int .u32 0, .int .i64 0, .int .i64 2, .int .i64 0, .int .i64 5, .int .i64 0, .int .i64 0, .int .i64 0, .int .i64 0, .sl true 1 0 (fun _ => []), .int .u32 0, .int .u32 0, .sl true 2 0 (fun _ => []), .bool true], .box [.int .u32 0, .int .i64 0, .int .i64 4, .int .i64 3, .int .i64 4, .int .i64 2, .int .i64 0, .int .i64 0, .int .i64 0, .sl true 1 0 (fun _ => []), .int .u32 0, .int .u32 0, .sl true 2 1 (fun i => List.take 2 (List.drop (i * 2) [.int .i64 0, .int .u32 9])), .bool false]]⟩ ?_))
 refine then_n (awp_seq ?_)
 obtain ⟨r1, q1, h2⟩ := bind_some h
 refine rg [.pure (sL 14 c_TRoute r1)] [1, 2, 3] 2 ⟨33, [(1, .ref 0 0), (2, .ref 1 0), (3, sL 14 c_TRoute r1)], [.box [.int .u32 0, .int .i64 0, .int .i64 2, .int .i64 0, .int .i64 5, .int .i64 0, .int .i64 0, .int .i64 0, .int .i64 0, .sl true 1 0 (fun _ => []), .int .u32 0, .int .u32 0, .sl true 2 0 (fun _ => []), .bool true], .box [.int .u32 0, .int .i64 0, .int .i64 4, .int .i64 3, .int .i64 4, .int .i64 2, .int .i64 0, .int .i64 0, .int .i64 0, .sl true 1 0 (fun _ => []), .int .u32 0, .int .u32 0, .sl true 2 1 (fun i => List.take 2 (List.drop (i * 2) [.int .i64 0, .int .u32 9])), .bool false]]⟩ [] [⟨true, 13, [.sl false 14 2 (fun i => List.take 14 (List.drop (i * 14) [.int .u32 0, .int .i64 0, .int .i64 2, .int .i64 0, .int .i64 5, .int .i64 0, .int .i64 0, .int .i64 0, .int .i64 0, .sl true 1 0 (fun _ => []), .int .u32 0, .int .u32 0, .sl true 2 0 (fun _ => []), .bool true, .int .u32 0, .int .i64 0, .int .i64 4, .int .i64 3, .int .i64 4, .int .i64 2, .int .i64 0, .int .i64 0, .int .i64 0, .sl true 1 0 (fun _ => []), .int .u32 0, .int .u32 0, .sl true 2 1 (fun i => List.take 2 (List.drop (i * 2) [.int .i64 0, .int .u32 9])), .bool false]))], .pure (sL 14 c_TRoute r1)⟩] nil_all ⟨fun _ => (rib_Select_ok ([(⟨(⟨0, 0⟩ : TPrefix), 2, 0, 5, 0, 0, 0, 0, ([] : List Int), 0, 0, ([] : List THop), true⟩ : TRoute), (⟨(⟨0, 0⟩ : TPrefix), 4, 3, 4, 2, 0, 0, 0, ([] : List Int), 0, 0, ([(⟨0, 9⟩ : THop)] : List THop), false⟩ : TRoute)] : List TRoute) r1 q1).args (.cons (asub_psl rfl (fun i hi => match i, hi with | 0, _ => (.cons PSub.rfl (.cons PSub.rfl (.cons PSub.rfl (.cons PSub.rfl (.cons PSub.rfl (.cons PSub.rfl (.cons PSub.rfl (.cons PSub.rfl (.cons PSub.rfl (.cons psub_nil (.cons PSub.rfl (.cons PSub.rfl (.cons psub_nil (.cons PSub.rfl .nil)))))))))))))) | 1, _ => (.cons PSub.rfl (.cons PSub.rfl (.cons PSub.rfl (.cons PSub.rfl (.cons PSub.rfl (.cons PSub.rfl (.cons PSub.rfl (.cons PSub.rfl (.cons PSub.rfl (.cons psub_nil (.cons PSub.rfl (.cons PSub.rfl (.cons (psub_sl rfl (fun i hi => match i, hi with | 0, _ => (.cons PSub.rfl (.cons PSub.rfl .nil)) | n + 1, h => absurd h (by omega))) (.cons PSub.rfl .nil)))))))))))))) | n + 2, h => absurd h (by omega))) .nil), trivial⟩ ?_
 refine then_n (awp_seq ?_)
 obtain ⟨r2, q3, h4⟩ := bind_some h2
 obtain ⟨r3, q5, h6⟩ := bind_some h4
 obtain ⟨c7, h8⟩ := gd_some h6
 refine rg [.pure (.bool r2), .pure (.bool r3)] [0] 0 ⟨33, [(0, .bool (((((r1.length : Int) == 1) && (((r1.getD (0 : Int).toNat default).fProto) == 4)) && r2) && (!r3)))], []⟩ [guardB ((r1.length : Int) == 1) (decide (0 ≤ 0)), guardB ((r1.length : Int) == 1) (decide (0 < (r1.length : Int)))] [⟨((r1.length : Int) == 1) && (((r1.getD (0 : Int).toNat default).fProto) == 4), 10, [.agg [.int .u32 0, .int .i64 0, .int .i64 4, .int .i64 3, .int .i64 4, .int .i64 2, .int .i64 0, .int .i64 0, .int .i64 0, .sl false 1 0 (fun _ => []), .int .u32 0, .int .u32 0, .sl false 2 1 (fun i => List.take 2 (List.drop (i * 2) [.int .i64 0, .int .u32 9])), .bool false], .agg [.int .u32 0, .int .i64 0, .int .i64 2, .int .i64 0, .int .i64 5, .int .i64 0, .int .i64 0, .int .i64 0, .int .i64 0, .sl false 1 0 (fun _ => []), .int .u32 0, .int .u32 0, .sl false 2 0 (fun _ => []), .bool true]], .pure (.bool r2)⟩, ⟨(((r1.length : Int) == 1) && (((r1.getD (0 : Int).toNat default).fProto) == 4)) && r2, 10, [.agg [.int .u32 0, .int .i64 0, .int .i64 2, .int .i64 0, .int .i64 5, .int .i64 0, .int .i64 0, .int .i64 0, .int .i64 0, .sl false 1 0 (fun _ => []), .int .u32 0, .int .u32 0, .sl false 2 0 (fun _ => []), .bool true], .agg [.int .u32 0, .int .i64 0, .int .i64 4, .int .i64 3, .int .i64 4, .int .i64 2, .int .i64 0, .int .i64 0, .int .i64 0, .sl false 1 0 (fun _ => []), .int .u32 0, .int .u32 0, .sl false 2 1 (fun i => List.take 2 (List.drop (i * 2) [.int .i64 0, .int .u32 9])), .bool false]], .pure (.bool r3)⟩] c7 ⟨fun hg => (rib_Less_ok (⟨(⟨0, 0⟩ : TPrefix), 4, 3, 4, 2, 0, 0, 0, ([] : List Int), 0, 0, ([(⟨0, 9⟩ : THop)] : List THop), false⟩ : TRoute) (⟨(⟨0, 0⟩ : TPrefix), 2, 0, 5, 0, 0, 0, 0, ([] : List Int), 0, 0, ([] : List THop), true⟩ : TRoute) r2 (gc_some q3 hg)).args (.cons (asub_agg (.cons CSub.rfl (.cons CSub.rfl (.cons CSub.rfl (.cons CSub.rfl (.cons CSub.rfl (.cons CSub.rfl (.cons CSub.rfl (.cons CSub.rfl (.cons CSub.rfl (.cons csub_nil (.cons CSub.rfl (.cons CSub.rfl (.cons (csub_sl rfl (fun i hi => match i, hi with | 0, _ => rfl | n + 1, h => absurd h (by omega))) (.cons CSub.rfl .nil))))))))))))))) (.cons (asub_agg (.cons CSub.rfl (.cons CSub.rfl (.cons CSub.rfl (.cons CSub.rfl (.cons CSub.rfl (.cons CSub.rfl (.cons CSub.rfl (.cons CSub.rfl (.cons CSub.rfl (.cons csub_nil (.cons CSub.rfl (.cons CSub.rfl (.cons csub_nil (.cons CSub.rfl .nil))))))))))))))) .nil)), fun hg => (rib_Less_ok (⟨(⟨0, 0⟩ : TPrefix), 2, 0, 5, 0, 0, 0, 0, ([] : List Int), 0, 0, ([] : List THop), true⟩ : TRoute) (⟨(⟨0, 0⟩ : TPrefix), 4, 3, 4, 2, 0, 0, 0, ([] : List Int), 0, 0, ([(⟨0, 9⟩ : THop)] : List THop), false⟩ : TRoute) r3 (gc_some q5 hg)).args (.cons (asub_agg (.cons CSub.rfl (.cons CSub.rfl (.cons CSub.rfl (.cons CSub.rfl (.cons CSub.rfl (.cons CSub.rfl (.cons CSub.rfl (.cons CSub.rfl (.cons CSub.rfl (.cons csub_nil (.cons CSub.rfl (.cons CSub.rfl (.cons csub_nil (.cons CSub.rfl .nil))))))))))))))) (.cons (asub_agg (.cons CSub.rfl (.cons CSub.rfl (.cons CSub.rfl (.cons CSub.rfl (.cons CSub.rfl (.cons CSub.rfl (.cons CSub.rfl (.cons CSub.rfl (.cons CSub.rfl (.cons csub_nil (.cons CSub.rfl (.cons CSub.rfl (.cons (csub_sl rfl (fun i hi => match i, hi with | 0, _ => rfl | n + 1, h => absurd h (by omega))) (.cons CSub.rfl .nil))))))))))))))) .nil)), trivial⟩ ?_
 refine then_n (awp_ret ?_)
 obtain rfl := Option.some.inj h8
 exact er0 (.bool (((((r1.length : Int) == 1) && (((r1.getD (0 : Int).toNat default).fProto) == 4)) && r2) && (!r3)))
theorem law19_RibOffers_ok (a0 : TRouter) (a1 : List TRoute) (a2 : Int) (r : Bool) (h : M.law19_RibOffers a0 a1 a2 = some r) : Fn Try.prog 8 [.agg (c_TRouter a0), sL 14 c_TRoute a1, .int .i64 a2] (.pure (.bool r)) := by
 unfold M.law19_RibOffers at h
 refine fn_pure Try.func8 rfl (by kernel_rfl) ?_
 refine awp_seq (rg0 [1, 2, 3] 1 ⟨158, [(1, sL 14 c_TRoute a1), (2, .int .i64 a2), (3, .ref 0 0)], [.box (c_TRouter a0)]⟩ ?_)
 refine then_n (awp_seq (awp_seq ?_))
 obtain ⟨r1, q1, h2⟩ := bind_some h
 obtain ⟨r2, q3, h4⟩ := bind_some h2
 obtain ⟨r3, q5, h6⟩ := bind_some h4
 refine rg [.pure (.bool r1), .pure (.int .i64 r2), .pure (.bool r3)] [1, 2, 3, 32] 1 ⟨158, [(1, sL 14 c_TRoute a1), (2, .int .i64 a2), (3, .ref 0 0), (32, .bool ((((!r1) || (r2 != 0)) || (decide ((a1.length : Int) > 30))) || (!r3)))], [.box (c_TRouter a0)]⟩ [] [⟨true, 21, [.agg (c_TRouter a0)], .pure (.bool r1)⟩, ⟨(!(!r1)), 22, [.agg (c_TRouter a0)], .pure (.int .i64 r2)⟩, ⟨(!(((!r1) || (r2 != 0)) || (decide ((a1.length : Int) > 30)))), 16, [sL 14 c_TRoute a1, .int .i64 0], .pure (.bool r3)⟩] nil_all ⟨fun _ => law5_Small_ok a0 r1 q1, fun hg => ref8_CheckRouter_ok a0 r2 (gc_some q3 hg), fun hg => ref15_Table_ok a1 0 r3 (gc_some q5 hg), trivial⟩ ?_
 refine then_n ?_
 refine cnd ((((!r1) || (r2 != 0)) || (decide ((a1.length : Int) > 30))) || (!r3)) (fun b7 => ?_) (fun b7 => ?_)
 have h8 := cond_t b7 h6
 refine awp_seq (rg0 [6] 0 ⟨158, [(6, .bool true)], []⟩ ?_)
 refine then_n (awp_ret (then_r ?_))
 obtain rfl := Option.some.inj h8
 exact er0 (.bool true)
 have h9 := cond_f b7 h6
 refine awp_skip (then_n (awp_seq ?_))
 obtain ⟨c10, h11⟩ := gd_some h9
 refine rgx 1 [] [1, 2, 3, 33] 1 ⟨158, [(1, sL 14 c_TRoute a1), (2, .int .i64 a2), (3, .ref 0 0), (33, .sl true 1 4 (fun i => List.take 1 (List.drop (i * 1) [.int .i64 3, .int .i64 4, .int .i64 5, .int .i64 5])))], [.box (c_TRouter a0)]⟩ [] [] nil_all trivial ⟨158, [(1, sL 14 c_TRoute a1), (2, .int .i64 a2), (3, .ref 0 0), (33, sL 1 (ci .i64) ([3, 4, 5, 5] : List Int))], [.box (c_TRouter a0)]⟩ (le_sub (.cons Sub.rfl (.cons Sub.rfl (.cons Sub.rfl (.cons (sub_sl rfl (fun i hi => match i, hi with | 0, _ => rfl | 1, _ => rfl | 2, _ => rfl | 3, _ => rfl | n + 4, h => absurd h (by omega))) .nil)))) (.cons .rfl .nil)) rfl [] [1, 3, 7] 1 ⟨158, [(1, sL 14 c_TRoute a1), (3, .ref 0 0), (7, .int .i64 (([3, 4, 5, 5] : List Int).getD (bitD .and .i64 a2 3).toNat default))], [.box (c_TRouter a0)]⟩ [decide (0 ≤ (bitD .and .i64 a2 3)), decide ((bitD .and .i64 a2 3) < (([3, 4, 5, 5] : List Int).length : Int))] [] c10 trivial ?_
 refine then_n (awp_seq ?_)
 obtain ⟨r4, q12, h13⟩ := bind_some h11
 refine rg [.pure (sL 5 c_TRedist r4)] [1, 3, 7, 8] 1 ⟨158, [(1, sL 14 c_TRoute a1), (3, .ref 0 0), (7, .int .i64 (([3, 4, 5, 5] : List Int).getD (bitD .and .i64 a2 3).toNat default)), (8, sL 5 c_TRedist r4)], [.box (c_TRouter a0)]⟩ [] [⟨true, 24, [.agg (c_TRouter a0), .int .i64 (([3, 4, 5, 5] : List Int).getD (bitD .and .i64 a2 3).toNat default)], .pure (sL 5 c_TRedist r4)⟩] nil_all ⟨fun _ => law19_into_ok a0 (([3, 4, 5, 5] : List Int).getD (bitD .and .i64 a2 3).toNat default) r4 q12, trivial⟩ ?_
 refine then_n (awp_seq ?_)
 obtain ⟨r5, q14, h15⟩ := bind_some h13
 refine rg [.pure (sL 14 c_TRoute r5)] [1, 7, 8, 9] 0 ⟨158, [(1, sL 14 c_TRoute a1), (7, .int .i64 (([3, 4, 5, 5] : List Int).getD (bitD .and .i64 a2 3).toNat default)), (8, sL 5 c_TRedist r4), (9, sL 14 c_TRoute r5)], []⟩ [] [⟨true, 23, [.agg (c_TRouter a0), sL 5 c_TRedist r4, sL 14 c_TRoute a1, .int .i64 (([3, 4, 5, 5] : List Int).getD (bitD .and .i64 a2 3).toNat default)], .pure (sL 14 c_TRoute r5)⟩] nil_all ⟨fun _ => rib_Redistribute_ok a0 r4 a1 (([3, 4, 5, 5] : List Int).getD (bitD .and .i64 a2 3).toNat default) r5 q14, trivial⟩ ?_
 refine then_n (awp_seq (rg0 [1, 7, 8, 9, 10] 0 ⟨158, [(1, sL 14 c_TRoute a1), (7, .int .i64 (([3, 4, 5, 5] : List Int).getD (bitD .and .i64 a2 3).toNat default)), (8, sL 5 c_TRedist r4), (9, sL 14 c_TRoute r5), (10, .int .i64 0)], []⟩ ?_))
 refine then_n (awp_seq (awp_seq (rg0 [1, 7, 8, 9, 10, 11] 0 ⟨158, [(1, sL 14 c_TRoute a1), (7, .int .i64 (([3, 4, 5, 5] : List Int).getD (bitD .and .i64 a2 3).toNat default)), (8, sL 5 c_TRedist r4), (9, sL 14 c_TRoute r5), (10, .int .i64 0), (11, .int .i64 0)], []⟩ ?_)))
 refine then_n (awp_block ?_)
 obtain ⟨y15, q61, h62⟩ := bind_some h15
 refine awp_le (s' := ⟨158, [(1, sL 14 c_TRoute a1), (7, .int .i64 (([3, 4, 5, 5] : List Int).getD (bitD .and .i64 a2 3).toNat default)), (8, sL 5 c_TRedist r4), (9, sL 14 c_TRoute r5), (10, .int .i64 0), (11, .int .i64 0)], []⟩) (le_rfl) ?_
 refine awp_mono (awp_loop (f := M.law19_RibOffers_l1 a1 a2 r4 r5) (S := fun (p6 : Int × Int) => ⟨158, [(1, sL 14 c_TRoute a1), (7, .int .i64 (([3, 4, 5, 5] : List Int).getD (bitD .and .i64 a2 3).toNat default)), (8, sL 5 c_TRedist r4), (9, sL 14 c_TRoute r5), (10, .int .i64 p6.1), (11, .int .i64 p6.2)], []⟩) (O := (Sum.elim (fun z => OutE 0 (fun z => ⟨158, [], []⟩) z) (fun z => OutR Try.prog Try.f8 (.bool z)))) ?_ (x := (0, 0)) (y := y15) (loopM_iter q61)) ?_
 intro p6 y7 h16
 unfold M.law19_RibOffers_l1 at h16
 refine awp_seq (awp_seq (rg0 [1, 7, 8, 9, 10, 11, 49] 0 ⟨158, [(1, sL 14 c_TRoute a1), (7, .int .i64 (([3, 4, 5, 5] : List Int).getD (bitD .and .i64 a2 3).toNat default)), (8, sL 5 c_TRedist r4), (9, sL 14 c_TRoute r5), (10, .int .i64 p6.1), (11, .int .i64 p6.2), (49, .bool (decide (p6.2 < (r5.length : Int))))], []⟩ ?_))
 refine then_n ?_
 refine cnd (decide (p6.2 < (r5.length : Int))) (fun b17 => ?_) (fun b17 => ?_)
 have h18 := cond_t b17 h16
 refine awp_skip (then_n (awp_seq (awp_block (awp_seq (awp_block ?_)))))
 obtain ⟨y10, q26, h27⟩ := bind_some h18
 refine awp_le (s' := ⟨158, [(1, sL 14 c_TRoute a1), (7, .int .i64 (([3, 4, 5, 5] : List Int).getD (bitD .and .i64 a2 3).toNat default)), (8, sL 5 c_TRedist r4), (9, sL 14 c_TRoute r5), (10, .int .i64 p6.1), (11, .int .i64 p6.2)], []⟩) (kp [1, 7, 8, 9, 10, 11]) ?_
 refine awp_mono (awp_loop (f := M.law19_RibOffers_l2 a1 r5 p6) (S := fun (p8 : Int) => ⟨158, [(1, sL 14 c_TRoute a1), (7, .int .i64 (([3, 4, 5, 5] : List Int).getD (bitD .and .i64 a2 3).toNat default)), (8, sL 5 c_TRedist r4), (9, sL 14 c_TRoute r5), (10, .int .i64 p8), (11, .int .i64 p6.2)], []⟩) (O := (fun z => OutE 2 (fun z => ⟨158, [(1, sL 14 c_TRoute a1), (7, .int .i64 (([3, 4, 5, 5] : List Int).getD (bitD .and .i64 a2 3).toNat default)), (8, sL 5 c_TRedist r4), (9, sL 14 c_TRoute r5), (10, .int .i64 z), (11, .int .i64 p6.2)], []⟩) z)) ?_ (x := p6.1) (y := y10) (loopM_iter q26)) ?_
 intro p8 y9 h20
 unfold M.law19_RibOffers_l2 at h20
 refine awp_seq (awp_seq ?_)
 obtain ⟨c21, h22⟩ := gd_some h20
 refine rgc [1, 7, 8, 9, 10, 11, 68] 0 ⟨158, [(1, sL 14 c_TRoute a1), (7, .int .i64 (([3, 4, 5, 5] : List Int).getD (bitD .and .i64 a2 3).toNat default)), (8, sL 5 c_TRedist r4), (9, sL 14 c_TRoute r5), (10, .int .i64 p8), (11, .int .i64 p6.2), (68, .bool ((decide (p8 < (a1.length : Int))) && (!(((((a1.getD p8.toNat default).fPrefix).fAddr) == (((r5.getD p6.2.toNat default).fPrefix).fAddr)) && (((((a1.getD p8.toNat default).fPrefix).fLen) == (((r5.getD p6.2.toNat default).fPrefix).fLen)) && true)))))], []⟩ [guardB (decide (p8 < (a1.length : Int))) (decide (0 ≤ p8)), guardB (decide (p8 < (a1.length : Int))) (decide (p8 < (a1.length : Int))), guardB (decide (p8 < (a1.length : Int))) (decide (0 ≤ p6.2)), guardB (decide (p8 < (a1.length : Int))) (decide (p6.2 < (r5.length : Int)))] c21 ?_
 refine then_n ?_
 refine cnd ((decide (p8 < (a1.length : Int))) && (!(((((a1.getD p8.toNat default).fPrefix).fAddr) == (((r5.getD p6.2.toNat default).fPrefix).fAddr)) && (((((a1.getD p8.toNat default).fPrefix).fLen) == (((r5.getD p6.2.toNat default).fPrefix).fLen)) && true)))) (fun b23 => ?_) (fun b23 => ?_)
 have h24 := cond_t b23 h22
 refine awp_skip (then_n (awp_block (rg0 [1, 7, 8, 9, 10, 11] 0 ⟨158, [(1, sL 14 c_TRoute a1), (7, .int .i64 (([3, 4, 5, 5] : List Int).getD (bitD .and .i64 a2 3).toNat default)), (8, sL 5 c_TRedist r4), (9, sL 14 c_TRoute r5), (10, .int .i64 (wr .i64 (p8 + 1))), (11, .int .i64 p6.2)], []⟩ ?_)))
 refine inb_n ?_
 obtain rfl := Option.some.inj h24
 exact round_n (le_rfl)
 have h25 := cond_f b23 h22
 refine awp_exit (then_e ?_)
 obtain rfl := Option.some.inj h25
 exact round_e ⟨rfl, kp [1, 7, 8, 9, 10, 11]⟩
 intro e28 s29 o30
 obtain ⟨rfl, l31⟩ := o30
 refine inb_here ?_
 refine then_le (s' := ⟨158, [(1, sL 14 c_TRoute a1), (7, .int .i64 (([3, 4, 5, 5] : List Int).getD (bitD .and .i64 a2 3).toNat default)), (8, sL 5 c_TRedist r4), (9, sL 14 c_TRoute r5), (10, .int .i64 y10), (11, .int .i64 p6.2)], []⟩) (l31) ?_
 refine awp_seq (awp_seq (rg0 [1, 7, 8, 9, 10, 11, 74] 0 ⟨158, [(1, sL 14 c_TRoute a1), (7, .int .i64 (([3, 4, 5, 5] : List Int).getD (bitD .and .i64 a2 3).toNat default)), (8, sL 5 c_TRedist r4), (9, sL 14 c_TRoute r5), (10, .int .i64 y10), (11, .int .i64 p6.2), (74, .bool (y10 == (a1.length : Int)))], []⟩ ?_))
 refine then_n ?_
 refine cnd (y10 == (a1.length : Int)) (fun b32 => ?_) (fun b32 => ?_)
 have h33 := cond_t b32 h27
 refine awp_seq (rg0 [6] 0 ⟨158, [(6, .bool false)], []⟩ ?_)
 refine then_n (awp_ret (then_r (inb_r (then_r ?_))))
 obtain rfl := Option.some.inj h33
 exact round_r ⟨rfl, er0 (.bool false)⟩
 have h34 := cond_f b32 h27
 refine awp_skip (then_n (awp_seq ?_))
 obtain ⟨c35, h36⟩ := gd_some h34
 refine rgc [1, 7, 8, 9, 10, 11, 12] 1 ⟨158, [(1, sL 14 c_TRoute a1), (7, .int .i64 (([3, 4, 5, 5] : List Int).getD (bitD .and .i64 a2 3).toNat default)), (8, sL 5 c_TRedist r4), (9, sL 14 c_TRoute r5), (10, .int .i64 y10), (11, .int .i64 p6.2), (12, .ref 0 0)], [.box (c_TRoute (a1.getD y10.toNat default))]⟩ [decide (0 ≤ y10), decide (y10 < (a1.length : Int))] c35 ?_
 refine then_n (awp_seq (rg0 [1, 7, 8, 9, 10, 11, 12] 1 ⟨158, [(1, sL 14 c_TRoute a1), (7, .int .i64 (([3, 4, 5, 5] : List Int).getD (bitD .and .i64 a2 3).toNat default)), (8, sL 5 c_TRedist r4), (9, sL 14 c_TRoute r5), (10, .int .i64 (wr .i64 (y10 + 1))), (11, .int .i64 p6.2), (12, .ref 0 0)], [.box (c_TRoute (a1.getD y10.toNat default))]⟩ ?_))
 refine then_n (awp_seq (rg0 [1, 7, 8, 9, 10, 11, 12, 13] 1 ⟨158, [(1, sL 14 c_TRoute a1), (7, .int .i64 (([3, 4, 5, 5] : List Int).getD (bitD .and .i64 a2 3).toNat default)), (8, sL 5 c_TRedist r4), (9, sL 14 c_TRoute r5), (10, .int .i64 (wr .i64 (y10 + 1))), (11, .int .i64 p6.2), (12, .ref 0 0), (13, .bool false)], [.box (c_TRoute (a1.getD y10.toNat default))]⟩ ?_))
 refine then_n (awp_seq (awp_seq (rg0 [1, 7, 8, 9, 10, 11, 12, 13, 14] 1 ⟨158, [(1, sL 14 c_TRoute a1), (7, .int .i64 (([3, 4, 5, 5] : List Int).getD (bitD .and .i64 a2 3).toNat default)), (8, sL 5 c_TRedist r4), (9, sL 14 c_TRoute r5), (10, .int .i64 (wr .i64 (y10 + 1))), (11, .int .i64 p6.2), (12, .ref 0 0), (13, .bool false), (14, .int .i64 0)], [.box (c_TRoute (a1.getD y10.toNat default))]⟩ ?_)))
 refine then_n (awp_block ?_)
 obtain ⟨y13, q43, h44⟩ := bind_some h36
 refine awp_le (s' := ⟨158, [(1, sL 14 c_TRoute a1), (7, .int .i64 (([3, 4, 5, 5] : List Int).getD (bitD .and .i64 a2 3).toNat default)), (8, sL 5 c_TRedist r4), (9, sL 14 c_TRoute r5), (10, .int .i64 (wr .i64 (y10 + 1))), (11, .int .i64 p6.2), (12, .ref 0 0), (13, .bool false), (14, .int .i64 0)], [.box (c_TRoute (a1.getD y10.toNat default))]⟩) (le_rfl) ?_
 refine awp_mono (awp_loop (f := M.law19_RibOffers_l3 a1 r4 y10) (S := fun (p11 : Bool × Int) => ⟨158, [(1, sL 14 c_TRoute a1), (7, .int .i64 (([3, 4, 5, 5] : List Int).getD (bitD .and .i64 a2 3).toNat default)), (8, sL 5 c_TRedist r4), (9, sL 14 c_TRoute r5), (10, .int .i64 (wr .i64 (y10 + 1))), (11, .int .i64 p6.2), (12, .ref 0 0), (13, .bool p11.1), (14, .int .i64 p11.2)], [.box (c_TRoute (a1.getD y10.toNat default))]⟩) (O := (fun z => OutE 4 (fun z => ⟨158, [(1, sL 14 c_TRoute a1), (7, .int .i64 (([3, 4, 5, 5] : List Int).getD (bitD .and .i64 a2 3).toNat default)), (8, sL 5 c_TRedist r4), (9, sL 14 c_TRoute r5), (10, .int .i64 (wr .i64 (y10 + 1))), (11, .int .i64 p6.2), (12, .ref 0 0), (13, .bool z)], [.box (c_TRoute (a1.getD y10.toNat default))]⟩) z)) ?_ (x := (false, 0)) (y := y13) (loopM_iter q43)) ?_
 intro p11 y12 h37
 unfold M.law19_RibOffers_l3 at h37
 refine awp_seq (awp_seq (rg0 [1, 7, 8, 9, 10, 11, 12, 13, 14, 84] 1 ⟨158, [(1, sL 14 c_TRoute a1), (7, .int .i64 (([3, 4, 5, 5] : List Int).getD (bitD .and .i64 a2 3).toNat default)), (8, sL 5 c_TRedist r4), (9, sL 14 c_TRoute r5), (10, .int .i64 (wr .i64 (y10 + 1))), (11, .int .i64 p6.2), (12, .ref 0 0), (13, .bool p11.1), (14, .int .i64 p11.2), (84, .bool (decide (p11.2 < (r4.length : Int))))], [.box (c_TRoute (a1.getD y10.toNat default))]⟩ ?_))
 refine then_n ?_
 refine cnd (decide (p11.2 < (r4.length : Int))) (fun b38 => ?_) (fun b38 => ?_)
 have h39 := cond_t b38 h37
 refine awp_skip (then_n (awp_seq (awp_block ?_)))
 obtain ⟨c41, h42⟩ := gd_some h39
 refine rgc [1, 7, 8, 9, 10, 11, 12, 13, 14] 1 ⟨158, [(1, sL 14 c_TRoute a1), (7, .int .i64 (([3, 4, 5, 5] : List Int).getD (bitD .and .i64 a2 3).toNat default)), (8, sL 5 c_TRedist r4), (9, sL 14 c_TRoute r5), (10, .int .i64 (wr .i64 (y10 + 1))), (11, .int .i64 p6.2), (12, .ref 0 0), (13, .bool (p11.1 || (((r4.getD p11.2.toNat default).fFrom) == ((a1.getD y10.toNat default).fProto)))), (14, .int .i64 p11.2)], [.box (c_TRoute (a1.getD y10.toNat default))]⟩ [guardB (!p11.1) (decide (0 ≤ p11.2)), guardB (!p11.1) (decide (p11.2 < (r4.length : Int)))] c41 ?_
 refine inb_n (then_n (rg0 [1, 7, 8, 9, 10, 11, 12, 13, 14] 1 ⟨158, [(1, sL 14 c_TRoute a1), (7, .int .i64 (([3, 4, 5, 5] : List Int).getD (bitD .and .i64 a2 3).toNat default)), (8, sL 5 c_TRedist r4), (9, sL 14 c_TRoute r5), (10, .int .i64 (wr .i64 (y10 + 1))), (11, .int .i64 p6.2), (12, .ref 0 0), (13, .bool (p11.1 || (((r4.getD p11.2.toNat default).fFrom) == ((a1.getD y10.toNat default).fProto)))), (14, .int .i64 (wr .i64 (p11.2 + 1)))], [.box (c_TRoute (a1.getD y10.toNat default))]⟩ ?_))
 obtain rfl := Option.some.inj h42
 exact round_n (le_rfl)
 have h40 := cond_f b38 h37
 refine awp_exit (then_e ?_)
 obtain rfl := Option.some.inj h40
 exact round_e ⟨rfl, kp [1, 7, 8, 9, 10, 11, 12, 13]⟩
 intro e45 s46 o47
 obtain ⟨rfl, l48⟩ := o47
 refine inb_here ?_
 refine then_le (s' := ⟨158, [(1, sL 14 c_TRoute a1), (7, .int .i64 (([3, 4, 5, 5] : List Int).getD (bitD .and .i64 a2 3).toNat default)), (8, sL 5 c_TRedist r4), (9, sL 14 c_TRoute r5), (10, .int .i64 (wr .i64 (y10 + 1))), (11, .int .i64 p6.2), (12, .ref 0 0), (13, .bool y13)], [.box (c_TRoute (a1.getD y10.toNat default))]⟩) (l48) ?_
 refine awp_seq (awp_seq ?_)
 obtain ⟨c49, h50⟩ := gd_some h44
 refine rgc [1, 7, 8, 9, 10, 11, 146] 0 ⟨158, [(1, sL 14 c_TRoute a1), (7, .int .i64 (([3, 4, 5, 5] : List Int).getD (bitD .and .i64 a2 3).toNat default)), (8, sL 5 c_TRedist r4), (9, sL 14 c_TRoute r5), (10, .int .i64 (wr .i64 (y10 + 1))), (11, .int .i64 p6.2), (146, .bool (((((((!y13) || (((a1.getD y10.toNat default).fProto) == (([3, 4, 5, 5] : List Int).getD (bitD .and .i64 a2 3).toNat default))) || (((r5.getD p6.2.toNat default).fProto) != (([3, 4, 5, 5] : List Int).getD (bitD .and .i64 a2 3).toNat default))) || (decide (((r5.getD p6.2.toNat default).fTag) < 0))) || (decide (((r5.getD p6.2.toNat default).fTag) > 65535))) || (decide (((r5.getD p6.2.toNat default).fMetric) < 0))) || (decide (((r5.getD p6.2.toNat default).fMetric) > 16777215))))], []⟩ [guardB (!((!y13) || (((a1.getD y10.toNat default).fProto) == (([3, 4, 5, 5] : List Int).getD (bitD .and .i64 a2 3).toNat default)))) (decide (0 ≤ p6.2)), guardB (!((!y13) || (((a1.getD y10.toNat default).fProto) == (([3, 4, 5, 5] : List Int).getD (bitD .and .i64 a2 3).toNat default)))) (decide (p6.2 < (r5.length : Int))), guardB (!(((!y13) || (((a1.getD y10.toNat default).fProto) == (([3, 4, 5, 5] : List Int).getD (bitD .and .i64 a2 3).toNat default))) || (((r5.getD p6.2.toNat default).fProto) != (([3, 4, 5, 5] : List Int).getD (bitD .and .i64 a2 3).toNat default)))) (decide (0 ≤ p6.2)), guardB (!(((!y13) || (((a1.getD y10.toNat default).fProto) == (([3, 4, 5, 5] : List Int).getD (bitD .and .i64 a2 3).toNat default))) || (((r5.getD p6.2.toNat default).fProto) != (([3, 4, 5, 5] : List Int).getD (bitD .and .i64 a2 3).toNat default)))) (decide (p6.2 < (r5.length : Int))), guardB (!((((!y13) || (((a1.getD y10.toNat default).fProto) == (([3, 4, 5, 5] : List Int).getD (bitD .and .i64 a2 3).toNat default))) || (((r5.getD p6.2.toNat default).fProto) != (([3, 4, 5, 5] : List Int).getD (bitD .and .i64 a2 3).toNat default))) || (decide (((r5.getD p6.2.toNat default).fTag) < 0)))) (decide (0 ≤ p6.2)), guardB (!((((!y13) || (((a1.getD y10.toNat default).fProto) == (([3, 4, 5, 5] : List Int).getD (bitD .and .i64 a2 3).toNat default))) || (((r5.getD p6.2.toNat default).fProto) != (([3, 4, 5, 5] : List Int).getD (bitD .and .i64 a2 3).toNat default))) || (decide (((r5.getD p6.2.toNat default).fTag) < 0)))) (decide (p6.2 < (r5.length : Int))), guardB (!(((((!y13) || (((a1.getD y10.toNat default).fProto) == (([3, 4, 5, 5] : List Int).getD (bitD .and .i64 a2 3).toNat default))) || (((r5.getD p6.2.toNat default).fProto) != (([3, 4, 5, 5] : List Int).getD (bitD .and .i64 a2 3).toNat default))) || (decide (((r5.getD p6.2.toNat default).fTag) < 0))) || (decide (((r5.getD p6.2.toNat default).fTag) > 65535)))) (decide (0 ≤ p6.2)), guardB (!(((((!y13) || (((a1.getD y10.toNat default).fProto) == (([3, 4, 5, 5] : List Int).getD (bitD .and .i64 a2 3).toNat default))) || (((r5.getD p6.2.toNat default).fProto) != (([3, 4, 5, 5] : List Int).getD (bitD .and .i64 a2 3).toNat default))) || (decide (((r5.getD p6.2.toNat default).fTag) < 0))) || (decide (((r5.getD p6.2.toNat default).fTag) > 65535)))) (decide (p6.2 < (r5.length : Int))), guardB (!((((((!y13) || (((a1.getD y10.toNat default).fProto) == (([3, 4, 5, 5] : List Int).getD (bitD .and .i64 a2 3).toNat default))) || (((r5.getD p6.2.toNat default).fProto) != (([3, 4, 5, 5] : List Int).getD (bitD .and .i64 a2 3).toNat default))) || (decide (((r5.getD p6.2.toNat default).fTag) < 0))) || (decide (((r5.getD p6.2.toNat default).fTag) > 65535))) || (decide (((r5.getD p6.2.toNat default).fMetric) < 0)))) (decide (0 ≤ p6.2)), guardB (!((((((!y13) || (((a1.getD y10.toNat default).fProto) == (([3, 4, 5, 5] : List Int).getD (bitD .and .i64 a2 3).toNat default))) || (((r5.getD p6.2.toNat default).fProto) != (([3, 4, 5, 5] : List Int).getD (bitD .and .i64 a2 3).toNat default))) || (decide (((r5.getD p6.2.toNat default).fTag) < 0))) || (decide (((r5.getD p6.2.toNat default).fTag) > 65535))) || (decide (((r5.getD p6.2.toNat default).fMetric) < 0)))) (decide (p6.2 < (r5.length : Int)))] c49 ?_
 refine then_n ?_
 refine cnd (((((((!y13) || (((a1.getD y10.toNat default).fProto) == (([3, 4, 5, 5] : List Int).getD (bitD .and .i64 a2 3).toNat default))) || (((r5.getD p6.2.toNat default).fProto) != (([3, 4, 5, 5] : List Int).getD (bitD .and .i64 a2 3).toNat default))) || (decide (((r5.getD p6.2.toNat default).fTag) < 0))) || (decide (((r5.getD p6.2.toNat default).fTag) > 65535))) || (decide (((r5.getD p6.2.toNat default).fMetric) < 0))) || (decide (((r5.getD p6.2.toNat default).fMetric) > 16777215))) (fun b51 => ?_) (fun b51 => ?_)
 have h52 := cond_t b51 h50
 refine awp_seq (rg0 [6] 0 ⟨158, [(6, .bool false)], []⟩ ?_)
 refine then_n (awp_ret (then_r (inb_r (then_r ?_))))
 obtain rfl := Option.some.inj h52
 exact round_r ⟨rfl, er0 (.bool false)⟩
 have h53 := cond_f b51 h50
 refine awp_skip (then_n (awp_seq ?_))
 obtain ⟨r14, q54, h55⟩ := bind_some h53
 obtain ⟨c56, h57⟩ := gd_some h55
 refine rg [.pure (.bool r14)] [1, 7, 8, 9, 10, 11, 156] 0 ⟨158, [(1, sL 14 c_TRoute a1), (7, .int .i64 (([3, 4, 5, 5] : List Int).getD (bitD .and .i64 a2 3).toNat default)), (8, sL 5 c_TRedist r4), (9, sL 14 c_TRoute r5), (10, .int .i64 (wr .i64 (y10 + 1))), (11, .int .i64 p6.2), (156, .bool (((([3, 4, 5, 5] : List Int).getD (bitD .and .i64 a2 3).toNat default) != 3) && (!r14)))], []⟩ [guardB ((([3, 4, 5, 5] : List Int).getD (bitD .and .i64 a2 3).toNat default) != 3) (decide (0 ≤ p6.2)), guardB ((([3, 4, 5, 5] : List Int).getD (bitD .and .i64 a2 3).toNat default) != 3) (decide (p6.2 < (r5.length : Int)))] [⟨(([3, 4, 5, 5] : List Int).getD (bitD .and .i64 a2 3).toNat default) != 3, 26, [.agg (c_TRoute (r5.getD p6.2.toNat default))], .pure (.bool r14)⟩] c56 ⟨fun hg => ref15_Valid_ok (r5.getD p6.2.toNat default) r14 (gc_some q54 hg), trivial⟩ ?_
 refine then_n ?_
 refine cnd (((([3, 4, 5, 5] : List Int).getD (bitD .and .i64 a2 3).toNat default) != 3) && (!r14)) (fun b58 => ?_) (fun b58 => ?_)
 have h59 := cond_t b58 h57
 refine awp_seq (rg0 [6] 0 ⟨158, [(6, .bool false)], []⟩ ?_)
 refine then_n (awp_ret (inb_r (then_r ?_)))
 obtain rfl := Option.some.inj h59
 exact round_r ⟨rfl, er0 (.bool false)⟩
 have h60 := cond_f b58 h57
 refine awp_skip (inb_n (then_n (rg0 [1, 7, 8, 9, 10, 11] 0 ⟨158, [(1, sL 14 c_TRoute a1), (7, .int .i64 (([3, 4, 5, 5] : List Int).getD (bitD .and .i64 a2 3).toNat default)), (8, sL 5 c_TRedist r4), (9, sL 14 c_TRoute r5), (10, .int .i64 (wr .i64 (y10 + 1))), (11, .int .i64 (wr .i64 (p6.2 + 1)))], []⟩ ?_)))
 obtain rfl := Option.some.inj h60
 exact round_n (le_rfl)
 have h19 := cond_f b17 h16
 refine awp_exit (then_e ?_)
 obtain rfl := Option.some.inj h19
 exact round_e ⟨rfl, kp []⟩
 intro e63 s64 o65
 rcases y15 with g16 | y17
 have h66 := elim_l h62
 obtain ⟨rfl, l68⟩ := o65
 refine inb_here ?_
 refine then_le (s' := ⟨158, [], []⟩) (l68) ?_
 refine awp_seq ?_
 obtain ⟨r18, q69, h70⟩ := bind_some h66
 refine rg [.pure (.bool r18)] [6] 0 ⟨158, [(6, .bool r18)], []⟩ [] [⟨true, 15, [], .pure (.bool r18)⟩] nil_all ⟨fun _ => law19_sane_ok  r18 q69, trivial⟩ ?_
 refine then_n (awp_ret ?_)
 obtain rfl := Option.some.inj h70
 exact er0 (.bool r18)
 have h67 := elim_r h62
 obtain ⟨rfl, n71⟩ := o65
 refine inb_r (then_r ?_)
 obtain rfl := Option.some.inj h67
 exact n71
end Nv
