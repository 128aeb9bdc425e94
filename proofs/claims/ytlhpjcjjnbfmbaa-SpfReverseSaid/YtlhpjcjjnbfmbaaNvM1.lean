/- The walks: each function computes its mirror. -/
import Derived.Test.YtlhpjcjjnbfmbaaProg
import Derived.Test.YtlhpjcjjnbfmbaaNvD1
import Derived.Test.YtlhpjcjjnbfmbaaNvLibC
import Derived.KernelRfl
import Derived.Ground.SlsfProg
import Derived.Shelf.Lay
import Derived.Test.YtlhpjcjjnbfmbaaNvLibD
set_option maxRecDepth 100000
namespace Nv
open Go Go.Proofs
theorem law15_few_ok (a0 : Int) (a1 : List TEdge) (r : Bool) (h : M.law15_few a0 a1 = some r) : Fn Try.prog 9 [.int .i64 a0, sL 5 c_TEdge a1] (.pure (.bool r)) := by
 unfold M.law15_few at h
 refine fn_pure Try.func9 rfl (by kernel_rfl) ?_
 refine awp_seq (rg0 [0, 1] 0 ⟨12, [(0, .int .i64 a0), (1, sL 5 c_TEdge a1)], []⟩ ?_)
 refine then_n (awp_seq (rg0 [4] 0 ⟨12, [(4, .bool ((decide (a0 ≤ 12)) && (decide ((a1.length : Int) ≤ 60))))], []⟩ ?_))
 refine then_n (awp_ret ?_)
 obtain rfl := Option.some.inj h
 exact er0 (.bool ((decide (a0 ≤ 12)) && (decide ((a1.length : Int) ≤ 60))))
theorem spf_nodes_ok (a0 : Int) (r : Int) (h : M.spf_nodes a0 = some r) : Fn Try.prog 18 [.int .i64 a0] (.pure (.int .i64 r)) := by
 unfold M.spf_nodes at h
 refine fn_pure Try.func18 rfl (by kernel_rfl) ?_
 refine awp_seq (rg0 [0] 0 ⟨6, [(0, .int .i64 a0)], []⟩ ?_)
 refine then_n (awp_seq (rg0 [2] 0 ⟨6, [(2, .int .i64 (if 64 < (if 0 > a0 then 0 else a0) then 64 else (if 0 > a0 then 0 else a0)))], []⟩ ?_))
 refine then_n (awp_ret ?_)
 obtain rfl := Option.some.inj h
 exact er0 (.int .i64 (if 64 < (if 0 > a0 then 0 else a0) then 64 else (if 0 > a0 then 0 else a0)))
theorem spf_usable_ok (a0 : Int) (a1 : TEdge) (r : Bool) (h : M.spf_usable a0 a1 = some r) : Fn Try.prog 19 [.int .i64 a0, .agg (c_TEdge a1)] (.pure (.bool r)) := by
 unfold M.spf_usable at h
 refine fn_pure Try.func19 rfl (by kernel_rfl) ?_
 refine awp_seq (rg0 [0, 3] 1 ⟨35, [(0, .int .i64 a0), (3, .ref 0 0)], [.box (c_TEdge a1)]⟩ ?_)
 refine then_n (awp_seq (rg0 [4] 0 ⟨35, [(4, .bool ((((((decide (a1.fFrom ≥ 0)) && (decide (a1.fFrom < a0))) && (decide (a1.fTo ≥ 0))) && (decide (a1.fTo < a0))) && (decide (a1.fCost ≥ 1))) && (decide (a1.fCost ≤ 16777215))))], []⟩ ?_))
 refine then_n (awp_ret ?_)
 obtain rfl := Option.some.inj h
 exact er0 (.bool ((((((decide (a1.fFrom ≥ 0)) && (decide (a1.fFrom < a0))) && (decide (a1.fTo ≥ 0))) && (decide (a1.fTo < a0))) && (decide (a1.fCost ≥ 1))) && (decide (a1.fCost ≤ 16777215))))
theorem spf_Distances_ok (a0 : Int) (a1 : List TEdge) (a2 : Int) (r : (List Int)) (h : M.spf_Distances a0 a1 a2 = some r) : Fn Try.prog 11 [.int .i64 a0, sL 5 c_TEdge a1, .int .i64 a2] (.pure (sL 1 (ci .i64) r)) := by
 unfold M.spf_Distances at h
 refine fn_pure Try.func11 rfl (by kernel_rfl) ?_
 refine awp_seq (rg0 [0, 1, 2] 0 ⟨122, [(0, .int .i64 a0), (1, sL 5 c_TEdge a1), (2, .int .i64 a2)], []⟩ ?_)
 refine then_n (awp_seq ?_)
 obtain ⟨r1, q1, h2⟩ := bind_some h
 refine rg [.pure (.int .i64 r1)] [0, 1, 2] 0 ⟨122, [(0, .int .i64 r1), (1, sL 5 c_TEdge a1), (2, .int .i64 a2)], []⟩ [] [⟨true, 18, [.int .i64 a0], .pure (.int .i64 r1)⟩] nil_all ⟨fun _ => spf_nodes_ok a0 r1 q1, trivial⟩ ?_
 refine then_n (awp_seq ?_)
 obtain ⟨c3, h4⟩ := gd_some h2
 refine rgc [0, 1, 2, 7] 1 ⟨122, [(0, .int .i64 r1), (1, sL 5 c_TEdge a1), (2, .int .i64 a2), (7, .asl 0 0 r1.toNat)], [.arr 1 r1.toNat (fun _ => [.int .i64 0])]⟩ [decide (0 ≤ r1), decide (r1 ≤ r1), decide (r1.toNat * 8 ≤ 140737488355328), decide (r1.toNat ≤ 140737488355328)] c3 ?_
 refine then_le (s' := ⟨122, [(0, .int .i64 r1), (1, sL 5 c_TEdge a1), (2, .int .i64 a2), (7, .asl 0 0 ((List.replicate r1.toNat (0 : Int)).length))], [aL 1 (ci .i64) (List.replicate r1.toNat (0 : Int))]⟩) (le_sub (.cons Sub.rfl (.cons Sub.rfl (.cons Sub.rfl (.cons (asl_len (by simp)) .nil)))) (.cons (.arr (by simp) (rep_ext (ci .i64) _ (0 : Int) _ rfl)) .nil)) ?_
 refine awp_seq (awp_seq (rg0 [0, 1, 2, 7, 21, 22] 1 ⟨122, [(0, .int .i64 r1), (1, sL 5 c_TEdge a1), (2, .int .i64 a2), (7, .asl 0 0 ((List.replicate r1.toNat (0 : Int)).length)), (21, .int .i64 ((List.replicate r1.toNat (0 : Int)).length : Int)), (22, .int .i64 0)], [aL 1 (ci .i64) (List.replicate r1.toNat (0 : Int))]⟩ ?_))
 refine then_n (awp_block ?_)
 obtain ⟨y4, q11, h12⟩ := bind_some h4
 refine awp_le (s' := ⟨122, [(0, .int .i64 r1), (1, sL 5 c_TEdge a1), (2, .int .i64 a2), (7, .asl 0 0 ((List.replicate r1.toNat (0 : Int)).length)), (21, .int .i64 ((List.replicate r1.toNat (0 : Int)).length : Int)), (22, .int .i64 0)], [aL 1 (ci .i64) (List.replicate r1.toNat (0 : Int))]⟩) (le_rfl) ?_
 refine awp_mono (awp_loop (f := M.spf_Distances_l1 r1) (S := fun (p2 : (List Int) × Int) => ⟨122, [(0, .int .i64 r1), (1, sL 5 c_TEdge a1), (2, .int .i64 a2), (7, .asl 0 0 p2.1.length), (21, .int .i64 ((List.replicate r1.toNat (0 : Int)).length : Int)), (22, .int .i64 p2.2)], [aL 1 (ci .i64) p2.1]⟩) (O := (fun z => OutE 0 (fun z => ⟨122, [(0, .int .i64 r1), (1, sL 5 c_TEdge a1), (2, .int .i64 a2), (7, .asl 0 0 z.length)], [aL 1 (ci .i64) z]⟩) z)) ?_ (x := (List.replicate r1.toNat (0 : Int), 0)) (y := y4) (loopM_iter q11)) ?_
 intro p2 y3 h5
 unfold M.spf_Distances_l1 at h5
 refine awp_seq (rg0 [0, 1, 2, 7, 21, 22, 23] 1 ⟨122, [(0, .int .i64 r1), (1, sL 5 c_TEdge a1), (2, .int .i64 a2), (7, .asl 0 0 p2.1.length), (21, .int .i64 ((List.replicate r1.toNat (0 : Int)).length : Int)), (22, .int .i64 p2.2), (23, .bool (decide (p2.2 < ((List.replicate r1.toNat (0 : Int)).length : Int))))], [aL 1 (ci .i64) p2.1]⟩ ?_)
 refine then_n (awp_seq ?_)
 refine cnd (decide (p2.2 < ((List.replicate r1.toNat (0 : Int)).length : Int))) (fun b6 => ?_) (fun b6 => ?_)
 have h7 := cond_t b6 h5
 refine awp_skip (then_n (awp_seq (awp_block (awp_seq (rg0 [0, 1, 2, 7, 8, 21, 22] 1 ⟨122, [(0, .int .i64 r1), (1, sL 5 c_TEdge a1), (2, .int .i64 a2), (7, .asl 0 0 p2.1.length), (8, .int .i64 p2.2), (21, .int .i64 ((List.replicate r1.toNat (0 : Int)).length : Int)), (22, .int .i64 p2.2)], [aL 1 (ci .i64) p2.1]⟩ ?_)))))
 refine then_n ?_
 obtain ⟨c9, h10⟩ := gd_some h7
 refine rgc [0, 1, 2, 7, 21, 22] 1 ⟨122, [(0, .int .i64 r1), (1, sL 5 c_TEdge a1), (2, .int .i64 a2), (7, .asl 0 0 p2.1.length), (21, .int .i64 ((List.replicate r1.toNat (0 : Int)).length : Int)), (22, .int .i64 p2.2)], [.arr 1 p2.1.length (fun j => bif Nat.beq j (0 + p2.2.toNat) then splice ((ci .i64) (p2.1.getD (0 + p2.2.toNat) default)) [.int .i64 (-1)] 0 else (ci .i64) (p2.1.getD j default))]⟩ [decide (0 ≤ p2.2), decide (p2.2 < (p2.1.length : Int))] c9 ?_
 refine inb_n ?_
 refine then_le (s' := ⟨122, [(0, .int .i64 r1), (1, sL 5 c_TEdge a1), (2, .int .i64 a2), (7, .asl 0 0 ((p2.1.set (0 + p2.2.toNat) (-1)).length)), (21, .int .i64 ((List.replicate r1.toNat (0 : Int)).length : Int)), (22, .int .i64 p2.2)], [aL 1 (ci .i64) (p2.1.set (0 + p2.2.toNat) (-1))]⟩) (le_sub (.cons Sub.rfl (.cons Sub.rfl (.cons Sub.rfl (.cons (asl_len (by simp)) (.cons Sub.rfl (.cons Sub.rfl .nil)))))) (.cons (.arr (by simp) (set_ext (ci .i64) p2.1 (0 + p2.2.toNat) (-1) _ rfl)) .nil)) ?_
 refine rg0 [0, 1, 2, 7, 21, 22] 1 ⟨122, [(0, .int .i64 r1), (1, sL 5 c_TEdge a1), (2, .int .i64 a2), (7, .asl 0 0 ((p2.1.set (0 + p2.2.toNat) (-1)).length)), (21, .int .i64 ((List.replicate r1.toNat (0 : Int)).length : Int)), (22, .int .i64 (wr .i64 (p2.2 + 1)))], [aL 1 (ci .i64) (p2.1.set (0 + p2.2.toNat) (-1))]⟩ ?_
 obtain rfl := Option.some.inj h10
 exact round_n (le_rfl)
 have h8 := cond_f b6 h5
 refine awp_exit (then_e ?_)
 obtain rfl := Option.some.inj h8
 exact round_e ⟨rfl, kp [0, 1, 2, 7]⟩
 intro e13 s14 o15
 obtain ⟨rfl, l16⟩ := o15
 refine inb_here ?_
 refine then_le (s' := ⟨122, [(0, .int .i64 r1), (1, sL 5 c_TEdge a1), (2, .int .i64 a2), (7, .asl 0 0 y4.length)], [aL 1 (ci .i64) y4]⟩) (l16) ?_
 refine awp_seq (awp_seq (rg0 [0, 1, 2, 7, 35] 1 ⟨122, [(0, .int .i64 r1), (1, sL 5 c_TEdge a1), (2, .int .i64 a2), (7, .asl 0 0 y4.length), (35, .bool ((decide (a2 < 0)) || (decide (a2 ≥ r1))))], [aL 1 (ci .i64) y4]⟩ ?_))
 refine then_n ?_
 refine cnd ((decide (a2 < 0)) || (decide (a2 ≥ r1))) (fun b17 => ?_) (fun b17 => ?_)
 have h18 := cond_t b17 h12
 refine awp_seq (rg0 [6] 1 ⟨122, [(6, .asl 0 0 y4.length)], [aL 1 (ci .i64) y4]⟩ ?_)
 refine then_n (awp_ret (then_r ?_))
 obtain rfl := Option.some.inj h18
 exact er (.sl false 1 y4.length (fun i => (ci .i64) (y4.getD (0 + i) default))) sub_asl
 have h19 := cond_f b17 h12
 refine awp_skip (then_n (awp_seq ?_))
 obtain ⟨c20, h21⟩ := gd_some h19
 refine rgc [0, 1, 7] 1 ⟨122, [(0, .int .i64 r1), (1, sL 5 c_TEdge a1), (7, .asl 0 0 y4.length)], [.arr 1 y4.length (fun j => bif Nat.beq j (0 + a2.toNat) then splice ((ci .i64) (y4.getD (0 + a2.toNat) default)) [.int .i64 0] 0 else (ci .i64) (y4.getD j default))]⟩ [decide (0 ≤ a2), decide (a2 < (y4.length : Int))] c20 ?_
 refine then_le (s' := ⟨122, [(0, .int .i64 r1), (1, sL 5 c_TEdge a1), (7, .asl 0 0 ((y4.set (0 + a2.toNat) 0).length))], [aL 1 (ci .i64) (y4.set (0 + a2.toNat) 0)]⟩) (le_sub (.cons Sub.rfl (.cons Sub.rfl (.cons (asl_len (by simp)) .nil))) (.cons (.arr (by simp) (set_ext (ci .i64) y4 (0 + a2.toNat) 0 _ rfl)) .nil)) ?_
 refine awp_seq ?_
 obtain ⟨c22, h23⟩ := gd_some h21
 refine rgc [0, 1, 7, 9] 2 ⟨122, [(0, .int .i64 r1), (1, sL 5 c_TEdge a1), (7, .asl 0 0 ((y4.set (0 + a2.toNat) 0).length)), (9, .asl 1 0 r1.toNat)], [aL 1 (ci .i64) (y4.set (0 + a2.toNat) 0), .arr 1 r1.toNat (fun _ => [.bool false])]⟩ [decide (0 ≤ r1), decide (r1 ≤ r1), decide (r1.toNat * 1 ≤ 140737488355328), decide (r1.toNat ≤ 140737488355328)] c22 ?_
 refine then_le (s' := ⟨122, [(0, .int .i64 r1), (1, sL 5 c_TEdge a1), (7, .asl 0 0 ((y4.set (0 + a2.toNat) 0).length)), (9, .asl 1 0 ((List.replicate r1.toNat false).length))], [aL 1 (ci .i64) (y4.set (0 + a2.toNat) 0), aL 1 cb (List.replicate r1.toNat false)]⟩) (le_sub (.cons Sub.rfl (.cons Sub.rfl (.cons Sub.rfl (.cons (asl_len (by simp)) .nil)))) (.cons .rfl (.cons (.arr (by simp) (rep_ext cb _ false _ rfl)) .nil))) ?_
 refine awp_block ?_
 obtain ⟨y16, q77, h78⟩ := bind_some h23
 refine awp_le (s' := ⟨122, [(0, .int .i64 r1), (1, sL 5 c_TEdge a1), (7, .asl 0 0 ((y4.set (0 + a2.toNat) 0).length)), (9, .asl 1 0 ((List.replicate r1.toNat false).length))], [aL 1 (ci .i64) (y4.set (0 + a2.toNat) 0), aL 1 cb (List.replicate r1.toNat false)]⟩) (le_rfl) ?_
 refine awp_mono (awp_loop (f := M.spf_Distances_l2 a1 r1) (S := fun (p5 : (List Int) × (List Bool)) => ⟨122, [(0, .int .i64 r1), (1, sL 5 c_TEdge a1), (7, .asl 0 0 p5.1.length), (9, .asl 1 0 p5.2.length)], [aL 1 (ci .i64) p5.1, aL 1 cb p5.2]⟩) (O := (fun z => OutR Try.prog Try.f11 (sL 1 (ci .i64) z))) ?_ (x := (y4.set (0 + a2.toNat) 0, List.replicate r1.toNat false)) (y := y16) (loopM_iter q77)) ?_
 intro p5 y6 h24
 unfold M.spf_Distances_l2 at h24
 refine awp_block (awp_seq (rg0 [0, 1, 7, 9, 10] 2 ⟨122, [(0, .int .i64 r1), (1, sL 5 c_TEdge a1), (7, .asl 0 0 p5.1.length), (9, .asl 1 0 p5.2.length), (10, .int .i64 (-1))], [aL 1 (ci .i64) p5.1, aL 1 cb p5.2]⟩ ?_))
 refine then_n (awp_seq (awp_seq (rg0 [0, 1, 7, 9, 10, 42, 43, 44] 2 ⟨122, [(0, .int .i64 r1), (1, sL 5 c_TEdge a1), (7, .asl 0 0 p5.1.length), (9, .asl 1 0 p5.2.length), (10, .int .i64 (-1)), (42, .asl 0 0 p5.1.length), (43, .int .i64 (p5.1.length : Int)), (44, .int .i64 0)], [aL 1 (ci .i64) p5.1, aL 1 cb p5.2]⟩ ?_)))
 refine then_n (awp_block ?_)
 obtain ⟨y10, q38, h39⟩ := bind_some h24
 refine awp_le (s' := ⟨122, [(0, .int .i64 r1), (1, sL 5 c_TEdge a1), (7, .asl 0 0 p5.1.length), (9, .asl 1 0 p5.2.length), (10, .int .i64 (-1)), (42, .asl 0 0 p5.1.length), (43, .int .i64 (p5.1.length : Int)), (44, .int .i64 0)], [aL 1 (ci .i64) p5.1, aL 1 cb p5.2]⟩) (le_rfl) ?_
 refine awp_mono (awp_loop (f := M.spf_Distances_l3 p5) (S := fun (p7 : Int × Int) => ⟨122, [(0, .int .i64 r1), (1, sL 5 c_TEdge a1), (7, .asl 0 0 p5.1.length), (9, .asl 1 0 p5.2.length), (10, .int .i64 p7.1), (42, .asl 0 0 p5.1.length), (43, .int .i64 (p5.1.length : Int)), (44, .int .i64 p7.2)], [aL 1 (ci .i64) p5.1, aL 1 cb p5.2]⟩) (O := (fun z => OutE 4 (fun z => ⟨122, [(0, .int .i64 r1), (1, sL 5 c_TEdge a1), (7, .asl 0 0 p5.1.length), (9, .asl 1 0 p5.2.length), (10, .int .i64 z)], [aL 1 (ci .i64) p5.1, aL 1 cb p5.2]⟩) z)) ?_ (x := ((-1), 0)) (y := y10) (loopM_iter q38)) ?_
 intro p7 y8 h25
 unfold M.spf_Distances_l3 at h25
 refine awp_seq (rg0 [0, 1, 7, 9, 10, 42, 43, 44, 45] 2 ⟨122, [(0, .int .i64 r1), (1, sL 5 c_TEdge a1), (7, .asl 0 0 p5.1.length), (9, .asl 1 0 p5.2.length), (10, .int .i64 p7.1), (42, .asl 0 0 p5.1.length), (43, .int .i64 (p5.1.length : Int)), (44, .int .i64 p7.2), (45, .bool (decide (p7.2 < (p5.1.length : Int))))], [aL 1 (ci .i64) p5.1, aL 1 cb p5.2]⟩ ?_)
 refine then_n (awp_seq ?_)
 refine cnd (decide (p7.2 < (p5.1.length : Int))) (fun b26 => ?_) (fun b26 => ?_)
 have h27 := cond_t b26 h25
 refine awp_skip (then_n ?_)
 refine awp_join (fun (p9 : Int) => ⟨122, [(0, .int .i64 r1), (1, sL 5 c_TEdge a1), (7, .asl 0 0 p5.1.length), (9, .asl 1 0 p5.2.length), (10, .int .i64 p9), (42, .asl 0 0 p5.1.length), (43, .int .i64 (p5.1.length : Int)), (44, .int .i64 p7.2)], [aL 1 (ci .i64) p5.1, aL 1 cb p5.2]⟩) (fun p9 => M.spf_Distances_k1 p7 p9 = some y8) ?_ ?_
 intro p9 h30
 unfold M.spf_Distances_k1 at h30
 refine rg0 [0, 1, 7, 9, 10, 42, 43, 44] 2 ⟨122, [(0, .int .i64 r1), (1, sL 5 c_TEdge a1), (7, .asl 0 0 p5.1.length), (9, .asl 1 0 p5.2.length), (10, .int .i64 p9), (42, .asl 0 0 p5.1.length), (43, .int .i64 (p5.1.length : Int)), (44, .int .i64 (wr .i64 (p7.2 + 1)))], [aL 1 (ci .i64) p5.1, aL 1 cb p5.2]⟩ ?_
 obtain rfl := Option.some.inj h30
 exact round_n (le_rfl)
 intro k29
 refine awp_block (awp_seq ?_)
 obtain ⟨c31, h32⟩ := gd_some h27
 refine rgc [0, 1, 7, 9, 10, 11, 12, 42, 43, 44] 2 ⟨122, [(0, .int .i64 r1), (1, sL 5 c_TEdge a1), (7, .asl 0 0 p5.1.length), (9, .asl 1 0 p5.2.length), (10, .int .i64 p7.1), (11, .int .i64 p7.2), (12, .int .i64 (p5.1.getD (0 + p7.2.toNat) default)), (42, .asl 0 0 p5.1.length), (43, .int .i64 (p5.1.length : Int)), (44, .int .i64 p7.2)], [aL 1 (ci .i64) p5.1, aL 1 cb p5.2]⟩ [decide (0 ≤ p7.2), decide (p7.2 < (p5.1.length : Int))] c31 ?_
 refine then_n (awp_seq ?_)
 obtain ⟨c33, h34⟩ := gd_some h32
 refine rgc [0, 1, 7, 9, 10, 11, 42, 43, 44, 69] 2 ⟨122, [(0, .int .i64 r1), (1, sL 5 c_TEdge a1), (7, .asl 0 0 p5.1.length), (9, .asl 1 0 p5.2.length), (10, .int .i64 p7.1), (11, .int .i64 p7.2), (42, .asl 0 0 p5.1.length), (43, .int .i64 (p5.1.length : Int)), (44, .int .i64 p7.2), (69, .bool (((!(p5.2.getD (0 + p7.2.toNat) default)) && (decide ((p5.1.getD (0 + p7.2.toNat) default) ≥ 0))) && ((decide (p7.1 < 0)) || (decide ((p5.1.getD (0 + p7.2.toNat) default) < (p5.1.getD (0 + p7.1.toNat) default))))))], [aL 1 (ci .i64) p5.1, aL 1 cb p5.2]⟩ [decide (0 ≤ p7.2), decide (p7.2 < (p5.2.length : Int)), guardB (((!(p5.2.getD (0 + p7.2.toNat) default)) && (decide ((p5.1.getD (0 + p7.2.toNat) default) ≥ 0))) && !(decide (p7.1 < 0))) (decide (0 ≤ p7.1)), guardB (((!(p5.2.getD (0 + p7.2.toNat) default)) && (decide ((p5.1.getD (0 + p7.2.toNat) default) ≥ 0))) && !(decide (p7.1 < 0))) (decide (p7.1 < (p5.1.length : Int)))] c33 ?_
 refine then_n ?_
 refine cnd (((!(p5.2.getD (0 + p7.2.toNat) default)) && (decide ((p5.1.getD (0 + p7.2.toNat) default) ≥ 0))) && ((decide (p7.1 < 0)) || (decide ((p5.1.getD (0 + p7.2.toNat) default) < (p5.1.getD (0 + p7.1.toNat) default))))) (fun b35 => ?_) (fun b35 => ?_)
 have h36 := cond_t b35 h34
 refine rg0 [0, 1, 7, 9, 10, 42, 43, 44] 2 ⟨122, [(0, .int .i64 r1), (1, sL 5 c_TEdge a1), (7, .asl 0 0 p5.1.length), (9, .asl 1 0 p5.2.length), (10, .int .i64 p7.2), (42, .asl 0 0 p5.1.length), (43, .int .i64 (p5.1.length : Int)), (44, .int .i64 p7.2)], [aL 1 (ci .i64) p5.1, aL 1 cb p5.2]⟩ ?_
 refine inb_n ?_
 exact then_le (le_rfl) (k29 p7.2 h36)
 have h37 := cond_f b35 h34
 refine awp_skip (inb_n ?_)
 exact then_le (kp [0, 1, 7, 9, 10, 42, 43, 44]) (k29 p7.1 h37)
 have h28 := cond_f b26 h25
 refine awp_exit (then_e ?_)
 obtain rfl := Option.some.inj h28
 exact round_e ⟨rfl, kp [0, 1, 7, 9, 10]⟩
 intro e40 s41 o42
 obtain ⟨rfl, l43⟩ := o42
 refine inb_here ?_
 refine then_le (s' := ⟨122, [(0, .int .i64 r1), (1, sL 5 c_TEdge a1), (7, .asl 0 0 p5.1.length), (9, .asl 1 0 p5.2.length), (10, .int .i64 y10)], [aL 1 (ci .i64) p5.1, aL 1 cb p5.2]⟩) (l43) ?_
 refine awp_seq (awp_seq (rg0 [0, 1, 7, 9, 10, 73] 2 ⟨122, [(0, .int .i64 r1), (1, sL 5 c_TEdge a1), (7, .asl 0 0 p5.1.length), (9, .asl 1 0 p5.2.length), (10, .int .i64 y10), (73, .bool (decide (y10 < 0)))], [aL 1 (ci .i64) p5.1, aL 1 cb p5.2]⟩ ?_))
 refine then_n ?_
 refine cnd (decide (y10 < 0)) (fun b44 => ?_) (fun b44 => ?_)
 have h45 := cond_t b44 h39
 refine awp_seq (rg0 [6] 1 ⟨122, [(6, .asl 0 0 p5.1.length)], [aL 1 (ci .i64) p5.1]⟩ ?_)
 refine then_n (awp_ret (then_r (inb_r ?_)))
 obtain rfl := Option.some.inj h45
 exact round_r ⟨rfl, er (.sl false 1 p5.1.length (fun i => (ci .i64) (p5.1.getD (0 + i) default))) sub_asl⟩
 have h46 := cond_f b44 h39
 refine awp_skip (then_n (awp_seq ?_))
 obtain ⟨c47, h48⟩ := gd_some h46
 refine rgc [0, 1, 7, 9, 10] 2 ⟨122, [(0, .int .i64 r1), (1, sL 5 c_TEdge a1), (7, .asl 0 0 p5.1.length), (9, .asl 1 0 p5.2.length), (10, .int .i64 y10)], [aL 1 (ci .i64) p5.1, .arr 1 p5.2.length (fun j => bif Nat.beq j (0 + y10.toNat) then splice (cb (p5.2.getD (0 + y10.toNat) default)) [.bool true] 0 else cb (p5.2.getD j default))]⟩ [decide (0 ≤ y10), decide (y10 < (p5.2.length : Int))] c47 ?_
 refine then_le (s' := ⟨122, [(0, .int .i64 r1), (1, sL 5 c_TEdge a1), (7, .asl 0 0 p5.1.length), (9, .asl 1 0 ((p5.2.set (0 + y10.toNat) true).length)), (10, .int .i64 y10)], [aL 1 (ci .i64) p5.1, aL 1 cb (p5.2.set (0 + y10.toNat) true)]⟩) (le_sub (.cons Sub.rfl (.cons Sub.rfl (.cons Sub.rfl (.cons (asl_len (by simp)) (.cons Sub.rfl .nil))))) (.cons .rfl (.cons (.arr (by simp) (set_ext cb p5.2 (0 + y10.toNat) true _ rfl)) .nil))) ?_
 refine awp_seq (rg0 [0, 1, 7, 9, 10, 78, 79, 80] 2 ⟨122, [(0, .int .i64 r1), (1, sL 5 c_TEdge a1), (7, .asl 0 0 p5.1.length), (9, .asl 1 0 ((p5.2.set (0 + y10.toNat) true).length)), (10, .int .i64 y10), (78, sL 5 c_TEdge a1), (79, .int .i64 (a1.length : Int)), (80, .int .i64 0)], [aL 1 (ci .i64) p5.1, aL 1 cb (p5.2.set (0 + y10.toNat) true)]⟩ ?_)
 refine then_n (awp_block ?_)
 obtain ⟨y15, q71, h72⟩ := bind_some h48
 refine awp_le (s' := ⟨122, [(0, .int .i64 r1), (1, sL 5 c_TEdge a1), (7, .asl 0 0 p5.1.length), (9, .asl 1 0 ((p5.2.set (0 + y10.toNat) true).length)), (10, .int .i64 y10), (78, sL 5 c_TEdge a1), (79, .int .i64 (a1.length : Int)), (80, .int .i64 0)], [aL 1 (ci .i64) p5.1, aL 1 cb (p5.2.set (0 + y10.toNat) true)]⟩) (le_rfl) ?_
 refine awp_mono (awp_loop (f := M.spf_Distances_l4 a1 r1 y10) (S := fun (p11 : (List Int) × Int) => ⟨122, [(0, .int .i64 r1), (1, sL 5 c_TEdge a1), (7, .asl 0 0 p11.1.length), (9, .asl 1 0 ((p5.2.set (0 + y10.toNat) true).length)), (10, .int .i64 y10), (78, sL 5 c_TEdge a1), (79, .int .i64 (a1.length : Int)), (80, .int .i64 p11.2)], [aL 1 (ci .i64) p11.1, aL 1 cb (p5.2.set (0 + y10.toNat) true)]⟩) (O := (fun z => OutE 6 (fun z => ⟨122, [(0, .int .i64 r1), (1, sL 5 c_TEdge a1), (7, .asl 0 0 z.length), (9, .asl 1 0 ((p5.2.set (0 + y10.toNat) true).length))], [aL 1 (ci .i64) z, aL 1 cb (p5.2.set (0 + y10.toNat) true)]⟩) z)) ?_ (x := (p5.1, 0)) (y := y15) (loopM_iter q71)) ?_
 intro p11 y12 h49
 unfold M.spf_Distances_l4 at h49
 refine awp_seq (rg0 [0, 1, 7, 9, 10, 78, 79, 80, 81] 2 ⟨122, [(0, .int .i64 r1), (1, sL 5 c_TEdge a1), (7, .asl 0 0 p11.1.length), (9, .asl 1 0 ((p5.2.set (0 + y10.toNat) true).length)), (10, .int .i64 y10), (78, sL 5 c_TEdge a1), (79, .int .i64 (a1.length : Int)), (80, .int .i64 p11.2), (81, .bool (decide (p11.2 < (a1.length : Int))))], [aL 1 (ci .i64) p11.1, aL 1 cb (p5.2.set (0 + y10.toNat) true)]⟩ ?_)
 refine then_n (awp_seq ?_)
 refine cnd (decide (p11.2 < (a1.length : Int))) (fun b50 => ?_) (fun b50 => ?_)
 have h51 := cond_t b50 h49
 refine awp_skip (then_n ?_)
 refine awp_join (fun (p13 : (List Int)) => ⟨122, [(0, .int .i64 r1), (1, sL 5 c_TEdge a1), (7, .asl 0 0 p13.length), (9, .asl 1 0 ((p5.2.set (0 + y10.toNat) true).length)), (10, .int .i64 y10), (78, sL 5 c_TEdge a1), (79, .int .i64 (a1.length : Int)), (80, .int .i64 p11.2)], [aL 1 (ci .i64) p13, aL 1 cb (p5.2.set (0 + y10.toNat) true)]⟩) (fun p13 => M.spf_Distances_k2 p11 p13 = some y12) ?_ ?_
 intro p13 h54
 unfold M.spf_Distances_k2 at h54
 refine rg0 [0, 1, 7, 9, 10, 78, 79, 80] 2 ⟨122, [(0, .int .i64 r1), (1, sL 5 c_TEdge a1), (7, .asl 0 0 p13.length), (9, .asl 1 0 ((p5.2.set (0 + y10.toNat) true).length)), (10, .int .i64 y10), (78, sL 5 c_TEdge a1), (79, .int .i64 (a1.length : Int)), (80, .int .i64 (wr .i64 (p11.2 + 1)))], [aL 1 (ci .i64) p13, aL 1 cb (p5.2.set (0 + y10.toNat) true)]⟩ ?_
 obtain rfl := Option.some.inj h54
 exact round_n (le_rfl)
 intro k53
 refine awp_block (awp_seq ?_)
 obtain ⟨c55, h56⟩ := gd_some h51
 refine rgc [0, 1, 7, 9, 10, 14, 78, 79, 80] 3 ⟨122, [(0, .int .i64 r1), (1, sL 5 c_TEdge a1), (7, .asl 0 0 p11.1.length), (9, .asl 1 0 ((p5.2.set (0 + y10.toNat) true).length)), (10, .int .i64 y10), (14, .ref 2 0), (78, sL 5 c_TEdge a1), (79, .int .i64 (a1.length : Int)), (80, .int .i64 p11.2)], [aL 1 (ci .i64) p11.1, aL 1 cb (p5.2.set (0 + y10.toNat) true), .box (c_TEdge (a1.getD p11.2.toNat default))]⟩ [decide (0 ≤ p11.2), decide (p11.2 < (a1.length : Int))] c55 ?_
 refine then_n (awp_seq (awp_seq ?_))
 obtain ⟨r14, q57, h58⟩ := bind_some h56
 refine rg [.pure (.bool r14)] [0, 1, 7, 9, 10, 14, 78, 79, 80, 93] 3 ⟨122, [(0, .int .i64 r1), (1, sL 5 c_TEdge a1), (7, .asl 0 0 p11.1.length), (9, .asl 1 0 ((p5.2.set (0 + y10.toNat) true).length)), (10, .int .i64 y10), (14, .ref 2 0), (78, sL 5 c_TEdge a1), (79, .int .i64 (a1.length : Int)), (80, .int .i64 p11.2), (93, .bool ((!r14) || (((a1.getD p11.2.toNat default).fFrom) != y10)))], [aL 1 (ci .i64) p11.1, aL 1 cb (p5.2.set (0 + y10.toNat) true), .box (c_TEdge (a1.getD p11.2.toNat default))]⟩ [] [⟨true, 19, [.int .i64 r1, .agg (c_TEdge (a1.getD p11.2.toNat default))], .pure (.bool r14)⟩] nil_all ⟨fun _ => spf_usable_ok r1 (a1.getD p11.2.toNat default) r14 q57, trivial⟩ ?_
 refine then_n ?_
 refine cnd ((!r14) || (((a1.getD p11.2.toNat default).fFrom) != y10)) (fun b59 => ?_) (fun b59 => ?_)
 have h60 := cond_t b59 h58
 refine awp_exit (then_e (inb_here ?_))
 exact then_le (Le.trans (s' := ⟨122, [(0, .int .i64 r1), (1, sL 5 c_TEdge a1), (7, .asl 0 0 p11.1.length), (9, .asl 1 0 ((p5.2.set (0 + y10.toNat) true).length)), (10, .int .i64 y10), (78, sL 5 c_TEdge a1), (79, .int .i64 (a1.length : Int)), (80, .int .i64 p11.2)], [aL 1 (ci .i64) p11.1, aL 1 cb (p5.2.set (0 + y10.toNat) true), .box (c_TEdge (a1.getD p11.2.toNat default))]⟩) (kp [0, 1, 7, 9, 10, 78, 79, 80]) (le_cut (n := 2) (by kernel_rfl))) (k53 p11.1 h60)
 have h61 := cond_f b59 h58
 refine awp_skip (then_n (awp_seq ?_))
 obtain ⟨c62, h63⟩ := gd_some h61
 refine rgc [0, 1, 7, 9, 10, 14, 15, 78, 79, 80] 3 ⟨122, [(0, .int .i64 r1), (1, sL 5 c_TEdge a1), (7, .asl 0 0 p11.1.length), (9, .asl 1 0 ((p5.2.set (0 + y10.toNat) true).length)), (10, .int .i64 y10), (14, .ref 2 0), (15, .int .i64 (wr .i64 ((p11.1.getD (0 + y10.toNat) default) + ((a1.getD p11.2.toNat default).fCost)))), (78, sL 5 c_TEdge a1), (79, .int .i64 (a1.length : Int)), (80, .int .i64 p11.2)], [aL 1 (ci .i64) p11.1, aL 1 cb (p5.2.set (0 + y10.toNat) true), .box (c_TEdge (a1.getD p11.2.toNat default))]⟩ [decide (0 ≤ y10), decide (y10 < (p11.1.length : Int))] c62 ?_
 refine then_n (awp_seq ?_)
 obtain ⟨c64, h65⟩ := gd_some h63
 refine rgc [0, 1, 7, 9, 10, 14, 15, 78, 79, 80, 115] 3 ⟨122, [(0, .int .i64 r1), (1, sL 5 c_TEdge a1), (7, .asl 0 0 p11.1.length), (9, .asl 1 0 ((p5.2.set (0 + y10.toNat) true).length)), (10, .int .i64 y10), (14, .ref 2 0), (15, .int .i64 (wr .i64 ((p11.1.getD (0 + y10.toNat) default) + ((a1.getD p11.2.toNat default).fCost)))), (78, sL 5 c_TEdge a1), (79, .int .i64 (a1.length : Int)), (80, .int .i64 p11.2), (115, .bool ((decide ((p11.1.getD (0 + ((a1.getD p11.2.toNat default).fTo).toNat) default) < 0)) || (decide ((wr .i64 ((p11.1.getD (0 + y10.toNat) default) + ((a1.getD p11.2.toNat default).fCost))) < (p11.1.getD (0 + ((a1.getD p11.2.toNat default).fTo).toNat) default)))))], [aL 1 (ci .i64) p11.1, aL 1 cb (p5.2.set (0 + y10.toNat) true), .box (c_TEdge (a1.getD p11.2.toNat default))]⟩ [decide (0 ≤ ((a1.getD p11.2.toNat default).fTo)), decide (((a1.getD p11.2.toNat default).fTo) < (p11.1.length : Int)), guardB (!(decide ((p11.1.getD (0 + ((a1.getD p11.2.toNat default).fTo).toNat) default) < 0))) (decide (0 ≤ ((a1.getD p11.2.toNat default).fTo))), guardB (!(decide ((p11.1.getD (0 + ((a1.getD p11.2.toNat default).fTo).toNat) default) < 0))) (decide (((a1.getD p11.2.toNat default).fTo) < (p11.1.length : Int)))] c64 ?_
 refine then_n ?_
 refine cnd ((decide ((p11.1.getD (0 + ((a1.getD p11.2.toNat default).fTo).toNat) default) < 0)) || (decide ((wr .i64 ((p11.1.getD (0 + y10.toNat) default) + ((a1.getD p11.2.toNat default).fCost))) < (p11.1.getD (0 + ((a1.getD p11.2.toNat default).fTo).toNat) default)))) (fun b66 => ?_) (fun b66 => ?_)
 have h67 := cond_t b66 h65
 obtain ⟨c69, h70⟩ := gd_some h67
 refine rgc [0, 1, 7, 9, 10, 78, 79, 80] 2 ⟨122, [(0, .int .i64 r1), (1, sL 5 c_TEdge a1), (7, .asl 0 0 p11.1.length), (9, .asl 1 0 ((p5.2.set (0 + y10.toNat) true).length)), (10, .int .i64 y10), (78, sL 5 c_TEdge a1), (79, .int .i64 (a1.length : Int)), (80, .int .i64 p11.2)], [.arr 1 p11.1.length (fun j => bif Nat.beq j (0 + ((a1.getD p11.2.toNat default).fTo).toNat) then splice ((ci .i64) (p11.1.getD (0 + ((a1.getD p11.2.toNat default).fTo).toNat) default)) [.int .i64 (wr .i64 ((p11.1.getD (0 + y10.toNat) default) + ((a1.getD p11.2.toNat default).fCost)))] 0 else (ci .i64) (p11.1.getD j default)), aL 1 cb (p5.2.set (0 + y10.toNat) true)]⟩ [decide (0 ≤ ((a1.getD p11.2.toNat default).fTo)), decide (((a1.getD p11.2.toNat default).fTo) < (p11.1.length : Int))] c69 ?_
 refine inb_n ?_
 exact then_le (le_sub (.cons Sub.rfl (.cons Sub.rfl (.cons (asl_len (by simp)) (.cons Sub.rfl (.cons Sub.rfl (.cons Sub.rfl (.cons Sub.rfl (.cons Sub.rfl .nil)))))))) (.cons (.arr (by simp) (set_ext (ci .i64) p11.1 (0 + ((a1.getD p11.2.toNat default).fTo).toNat) (wr .i64 ((p11.1.getD (0 + y10.toNat) default) + ((a1.getD p11.2.toNat default).fCost))) _ rfl)) (.cons .rfl .nil))) (k53 (p11.1.set (0 + ((a1.getD p11.2.toNat default).fTo).toNat) (wr .i64 ((p11.1.getD (0 + y10.toNat) default) + ((a1.getD p11.2.toNat default).fCost)))) h70)
 have h68 := cond_f b66 h65
 refine awp_skip (inb_n ?_)
 exact then_le (Le.trans (s' := ⟨122, [(0, .int .i64 r1), (1, sL 5 c_TEdge a1), (7, .asl 0 0 p11.1.length), (9, .asl 1 0 ((p5.2.set (0 + y10.toNat) true).length)), (10, .int .i64 y10), (78, sL 5 c_TEdge a1), (79, .int .i64 (a1.length : Int)), (80, .int .i64 p11.2)], [aL 1 (ci .i64) p11.1, aL 1 cb (p5.2.set (0 + y10.toNat) true), .box (c_TEdge (a1.getD p11.2.toNat default))]⟩) (kp [0, 1, 7, 9, 10, 78, 79, 80]) (le_cut (n := 2) (by kernel_rfl))) (k53 p11.1 h68)
 have h52 := cond_f b50 h49
 refine awp_exit (then_e ?_)
 obtain rfl := Option.some.inj h52
 exact round_e ⟨rfl, kp [0, 1, 7, 9]⟩
 intro e73 s74 o75
 obtain ⟨rfl, l76⟩ := o75
 refine inb_here (inb_n ?_)
 obtain rfl := Option.some.inj h72
 exact round_n (l76)
 intro e79 s80 o81
 obtain ⟨rfl, n82⟩ := o81
 refine inb_r ?_
 obtain rfl := Option.some.inj h78
 exact n82
theorem cmp_isNaN_int_ok (a0 : Int) (r : Bool) (h : M.cmp_isNaN_int a0 = some r) : Fn Try.prog 31 [.int .i64 a0] (.pure (.bool r)) := by
 unfold M.cmp_isNaN_int at h
 refine fn_pure Try.func31 rfl (by kernel_rfl) ?_
 refine awp_seq (rg0 [0] 0 ⟨6, [(0, .int .i64 a0)], []⟩ ?_)
 refine then_n (awp_seq (rg0 [2] 0 ⟨6, [(2, .bool (a0 != a0))], []⟩ ?_))
 refine then_n (awp_ret ?_)
 obtain rfl := Option.some.inj h
 exact er0 (.bool (a0 != a0))
theorem cmp_Compare_int_ok (a0 : Int) (a1 : Int) (r : Int) (h : M.cmp_Compare_int a0 a1 = some r) : Fn Try.prog 24 [.int .i64 a0, .int .i64 a1] (.pure (.int .i64 r)) := by
 unfold M.cmp_Compare_int at h
 refine fn_pure Try.func24 rfl (by kernel_rfl) ?_
 refine awp_seq (rg0 [0, 1] 0 ⟨20, [(0, .int .i64 a0), (1, .int .i64 a1)], []⟩ ?_)
 refine then_n (awp_seq ?_)
 obtain ⟨r1, q1, h2⟩ := bind_some h
 refine rg [.pure (.bool r1)] [0, 1, 5] 0 ⟨20, [(0, .int .i64 a0), (1, .int .i64 a1), (5, .bool r1)], []⟩ [] [⟨true, 31, [.int .i64 a0], .pure (.bool r1)⟩] nil_all ⟨fun _ => cmp_isNaN_int_ok a0 r1 q1, trivial⟩ ?_
 refine then_n (awp_seq ?_)
 obtain ⟨r2, q3, h4⟩ := bind_some h2
 refine rg [.pure (.bool r2)] [0, 1, 5, 6] 0 ⟨20, [(0, .int .i64 a0), (1, .int .i64 a1), (5, .bool r1), (6, .bool r2)], []⟩ [] [⟨true, 31, [.int .i64 a1], .pure (.bool r2)⟩] nil_all ⟨fun _ => cmp_isNaN_int_ok a1 r2 q3, trivial⟩ ?_
 refine then_n (awp_seq (awp_seq (rg0 [0, 1, 6, 11] 0 ⟨20, [(0, .int .i64 a0), (1, .int .i64 a1), (6, .bool r2), (11, .bool r1)], []⟩ ?_)))
 refine then_n ?_
 refine cnd r1 (fun b5 => ?_) (fun b5 => ?_)
 have h6 := cond_t b5 h4
 refine awp_seq (awp_seq (rg0 [12] 0 ⟨20, [(12, .bool r2)], []⟩ ?_))
 refine then_n ?_
 refine cnd r2 (fun b8 => ?_) (fun b8 => ?_)
 have h9 := cond_t b8 h6
 refine awp_seq (rg0 [4] 0 ⟨20, [(4, .int .i64 0)], []⟩ ?_)
 refine then_n (awp_ret (then_r (then_r ?_)))
 obtain rfl := Option.some.inj h9
 exact er0 (.int .i64 0)
 have h10 := cond_f b8 h6
 refine awp_skip (then_n (awp_seq (rg0 [4] 0 ⟨20, [(4, .int .i64 (-1))], []⟩ ?_)))
 refine then_n (awp_ret (then_r ?_))
 obtain rfl := Option.some.inj h10
 exact er0 (.int .i64 (-1))
 have h7 := cond_f b5 h4
 refine awp_skip (then_n (awp_seq (awp_seq (rg0 [0, 1, 13] 0 ⟨20, [(0, .int .i64 a0), (1, .int .i64 a1), (13, .bool r2)], []⟩ ?_))))
 refine then_n ?_
 refine cnd r2 (fun b11 => ?_) (fun b11 => ?_)
 have h12 := cond_t b11 h7
 refine awp_seq (rg0 [4] 0 ⟨20, [(4, .int .i64 1)], []⟩ ?_)
 refine then_n (awp_ret (then_r ?_))
 obtain rfl := Option.some.inj h12
 exact er0 (.int .i64 1)
 have h13 := cond_f b11 h7
 refine awp_skip (then_n (awp_seq (awp_seq (rg0 [0, 1, 16] 0 ⟨20, [(0, .int .i64 a0), (1, .int .i64 a1), (16, .bool (decide (a0 < a1)))], []⟩ ?_))))
 refine then_n ?_
 refine cnd (decide (a0 < a1)) (fun b14 => ?_) (fun b14 => ?_)
 have h15 := cond_t b14 h13
 refine awp_seq (rg0 [4] 0 ⟨20, [(4, .int .i64 (-1))], []⟩ ?_)
 refine then_n (awp_ret (then_r ?_))
 obtain rfl := Option.some.inj h15
 exact er0 (.int .i64 (-1))
 have h16 := cond_f b14 h13
 refine awp_skip (then_n (awp_seq (awp_seq (rg0 [19] 0 ⟨20, [(19, .bool (decide (a0 > a1)))], []⟩ ?_))))
 refine then_n ?_
 refine cnd (decide (a0 > a1)) (fun b17 => ?_) (fun b17 => ?_)
 have h18 := cond_t b17 h16
 refine awp_seq (rg0 [4] 0 ⟨20, [(4, .int .i64 1)], []⟩ ?_)
 refine then_n (awp_ret (then_r ?_))
 obtain rfl := Option.some.inj h18
 exact er0 (.int .i64 1)
 have h19 := cond_f b17 h16
 refine awp_skip (then_n (awp_seq (rg0 [4] 0 ⟨20, [(4, .int .i64 0)], []⟩ ?_)))
 refine then_n (awp_ret ?_)
 obtain rfl := Option.some.inj h19
 exact er0 (.int .i64 0)
theorem cmp_isNaN_uint32_ok (a0 : Int) (r : Bool) (h : M.cmp_isNaN_uint32 a0 = some r) : Fn Try.prog 32 [.int .u32 a0] (.pure (.bool r)) := by
 unfold M.cmp_isNaN_uint32 at h
 refine fn_pure Try.func32 rfl (by kernel_rfl) ?_
 refine awp_seq (rg0 [0] 0 ⟨6, [(0, .int .u32 a0)], []⟩ ?_)
 refine then_n (awp_seq (rg0 [2] 0 ⟨6, [(2, .bool (a0 != a0))], []⟩ ?_))
 refine then_n (awp_ret ?_)
 obtain rfl := Option.some.inj h
 exact er0 (.bool (a0 != a0))
theorem cmp_Compare_uint32_ok (a0 : Int) (a1 : Int) (r : Int) (h : M.cmp_Compare_uint32 a0 a1 = some r) : Fn Try.prog 25 [.int .u32 a0, .int .u32 a1] (.pure (.int .i64 r)) := by
 unfold M.cmp_Compare_uint32 at h
 refine fn_pure Try.func25 rfl (by kernel_rfl) ?_
 refine awp_seq (rg0 [0, 1] 0 ⟨20, [(0, .int .u32 a0), (1, .int .u32 a1)], []⟩ ?_)
 refine then_n (awp_seq ?_)
 obtain ⟨r1, q1, h2⟩ := bind_some h
 refine rg [.pure (.bool r1)] [0, 1, 5] 0 ⟨20, [(0, .int .u32 a0), (1, .int .u32 a1), (5, .bool r1)], []⟩ [] [⟨true, 32, [.int .u32 a0], .pure (.bool r1)⟩] nil_all ⟨fun _ => cmp_isNaN_uint32_ok a0 r1 q1, trivial⟩ ?_
 refine then_n (awp_seq ?_)
 obtain ⟨r2, q3, h4⟩ := bind_some h2
 refine rg [.pure (.bool r2)] [0, 1, 5, 6] 0 ⟨20, [(0, .int .u32 a0), (1, .int .u32 a1), (5, .bool r1), (6, .bool r2)], []⟩ [] [⟨true, 32, [.int .u32 a1], .pure (.bool r2)⟩] nil_all ⟨fun _ => cmp_isNaN_uint32_ok a1 r2 q3, trivial⟩ ?_
 refine then_n (awp_seq (awp_seq (rg0 [0, 1, 6, 11] 0 ⟨20, [(0, .int .u32 a0), (1, .int .u32 a1), (6, .bool r2), (11, .bool r1)], []⟩ ?_)))
 refine then_n ?_
 refine cnd r1 (fun b5 => ?_) (fun b5 => ?_)
 have h6 := cond_t b5 h4
 refine awp_seq (awp_seq (rg0 [12] 0 ⟨20, [(12, .bool r2)], []⟩ ?_))
 refine then_n ?_
 refine cnd r2 (fun b8 => ?_) (fun b8 => ?_)
 have h9 := cond_t b8 h6
 refine awp_seq (rg0 [4] 0 ⟨20, [(4, .int .i64 0)], []⟩ ?_)
 refine then_n (awp_ret (then_r (then_r ?_)))
 obtain rfl := Option.some.inj h9
 exact er0 (.int .i64 0)
 have h10 := cond_f b8 h6
 refine awp_skip (then_n (awp_seq (rg0 [4] 0 ⟨20, [(4, .int .i64 (-1))], []⟩ ?_)))
 refine then_n (awp_ret (then_r ?_))
 obtain rfl := Option.some.inj h10
 exact er0 (.int .i64 (-1))
 have h7 := cond_f b5 h4
 refine awp_skip (then_n (awp_seq (awp_seq (rg0 [0, 1, 13] 0 ⟨20, [(0, .int .u32 a0), (1, .int .u32 a1), (13, .bool r2)], []⟩ ?_))))
 refine then_n ?_
 refine cnd r2 (fun b11 => ?_) (fun b11 => ?_)
 have h12 := cond_t b11 h7
 refine awp_seq (rg0 [4] 0 ⟨20, [(4, .int .i64 1)], []⟩ ?_)
 refine then_n (awp_ret (then_r ?_))
 obtain rfl := Option.some.inj h12
 exact er0 (.int .i64 1)
 have h13 := cond_f b11 h7
 refine awp_skip (then_n (awp_seq (awp_seq (rg0 [0, 1, 16] 0 ⟨20, [(0, .int .u32 a0), (1, .int .u32 a1), (16, .bool (decide (a0 < a1)))], []⟩ ?_))))
 refine then_n ?_
 refine cnd (decide (a0 < a1)) (fun b14 => ?_) (fun b14 => ?_)
 have h15 := cond_t b14 h13
 refine awp_seq (rg0 [4] 0 ⟨20, [(4, .int .i64 (-1))], []⟩ ?_)
 refine then_n (awp_ret (then_r ?_))
 obtain rfl := Option.some.inj h15
 exact er0 (.int .i64 (-1))
 have h16 := cond_f b14 h13
 refine awp_skip (then_n (awp_seq (awp_seq (rg0 [19] 0 ⟨20, [(19, .bool (decide (a0 > a1)))], []⟩ ?_))))
 refine then_n ?_
 refine cnd (decide (a0 > a1)) (fun b17 => ?_) (fun b17 => ?_)
 have h18 := cond_t b17 h16
 refine awp_seq (rg0 [4] 0 ⟨20, [(4, .int .i64 1)], []⟩ ?_)
 refine then_n (awp_ret (then_r ?_))
 obtain rfl := Option.some.inj h18
 exact er0 (.int .i64 1)
 have h19 := cond_f b17 h16
 refine awp_skip (then_n (awp_seq (rg0 [4] 0 ⟨20, [(4, .int .i64 0)], []⟩ ?_)))
 refine then_n (awp_ret ?_)
 obtain rfl := Option.some.inj h19
 exact er0 (.int .i64 0)
theorem cmp_Or_int_ok (a0 : List Int) (r : Int) (h : M.cmp_Or_int a0 = some r) : Fn Try.prog 23 [sL 1 (ci .i64) a0] (.pure (.int .i64 r)) := by
 unfold M.cmp_Or_int at h
 refine fn_pure Try.func23 rfl (by kernel_rfl) ?_
 refine awp_seq (rg0 [0] 0 ⟨18, [(0, sL 1 (ci .i64) a0)], []⟩ ?_)
 refine then_n (awp_seq (rg0 [0, 3] 0 ⟨18, [(0, sL 1 (ci .i64) a0), (3, .int .i64 0)], []⟩ ?_))
 refine then_n (awp_seq (awp_seq (rg0 [3, 6, 7, 8] 0 ⟨18, [(3, .int .i64 0), (6, sL 1 (ci .i64) a0), (7, .int .i64 (a0.length : Int)), (8, .int .i64 0)], []⟩ ?_)))
 refine then_n (awp_block ?_)
 obtain ⟨y3, q10, h11⟩ := bind_some h
 refine awp_le (s' := ⟨18, [(3, .int .i64 0), (6, sL 1 (ci .i64) a0), (7, .int .i64 (a0.length : Int)), (8, .int .i64 0)], []⟩) (le_rfl) ?_
 refine awp_mono (awp_loop (f := M.cmp_Or_int_l1 a0) (S := fun (p1 : Int) => ⟨18, [(3, .int .i64 0), (6, sL 1 (ci .i64) a0), (7, .int .i64 (a0.length : Int)), (8, .int .i64 p1)], []⟩) (O := (Sum.elim (fun z => OutE 0 (fun z => ⟨18, [(3, .int .i64 0)], []⟩) z) (fun z => OutR Try.prog Try.f23 (.int .i64 z)))) ?_ (x := 0) (y := y3) (loopM_iter q10)) ?_
 intro p1 y2 h1
 unfold M.cmp_Or_int_l1 at h1
 refine awp_seq (rg0 [3, 6, 7, 8, 9] 0 ⟨18, [(3, .int .i64 0), (6, sL 1 (ci .i64) a0), (7, .int .i64 (a0.length : Int)), (8, .int .i64 p1), (9, .bool (decide (p1 < (a0.length : Int))))], []⟩ ?_)
 refine then_n (awp_seq ?_)
 refine cnd (decide (p1 < (a0.length : Int))) (fun b2 => ?_) (fun b2 => ?_)
 have h3 := cond_t b2 h1
 refine awp_skip (then_n (awp_seq (awp_block (awp_seq ?_))))
 obtain ⟨c5, h6⟩ := gd_some h3
 refine rgc [3, 5, 6, 7, 8] 0 ⟨18, [(3, .int .i64 0), (5, .int .i64 (a0.getD p1.toNat default)), (6, sL 1 (ci .i64) a0), (7, .int .i64 (a0.length : Int)), (8, .int .i64 p1)], []⟩ [decide (0 ≤ p1), decide (p1 < (a0.length : Int))] c5 ?_
 refine then_n (awp_seq (rg0 [3, 5, 6, 7, 8, 14] 0 ⟨18, [(3, .int .i64 0), (5, .int .i64 (a0.getD p1.toNat default)), (6, sL 1 (ci .i64) a0), (7, .int .i64 (a0.length : Int)), (8, .int .i64 p1), (14, .bool ((a0.getD p1.toNat default) != 0))], []⟩ ?_))
 refine then_n ?_
 refine cnd ((a0.getD p1.toNat default) != 0) (fun b7 => ?_) (fun b7 => ?_)
 have h8 := cond_t b7 h6
 refine awp_seq (rg0 [2] 0 ⟨18, [(2, .int .i64 (a0.getD p1.toNat default))], []⟩ ?_)
 refine then_n (awp_ret (inb_r (then_r ?_)))
 obtain rfl := Option.some.inj h8
 exact round_r ⟨rfl, er0 (.int .i64 (a0.getD p1.toNat default))⟩
 have h9 := cond_f b7 h6
 refine awp_skip (inb_n (then_n (rg0 [3, 6, 7, 8] 0 ⟨18, [(3, .int .i64 0), (6, sL 1 (ci .i64) a0), (7, .int .i64 (a0.length : Int)), (8, .int .i64 (wr .i64 (p1 + 1)))], []⟩ ?_)))
 obtain rfl := Option.some.inj h9
 exact round_n (le_rfl)
 have h4 := cond_f b2 h1
 refine awp_exit (then_e ?_)
 obtain rfl := Option.some.inj h4
 exact round_e ⟨rfl, kp [3]⟩
 intro e12 s13 o14
 rcases y3 with g4 | y5
 have h15 := elim_l h11
 obtain ⟨rfl, l17⟩ := o14
 refine inb_here ?_
 refine then_le (s' := ⟨18, [(3, .int .i64 0)], []⟩) (l17) ?_
 refine awp_seq (rg0 [2] 0 ⟨18, [(2, .int .i64 0)], []⟩ ?_)
 refine then_n (awp_ret ?_)
 obtain rfl := Option.some.inj h15
 exact er0 (.int .i64 0)
 have h16 := elim_r h11
 obtain ⟨rfl, n18⟩ := o14
 refine inb_r (then_r ?_)
 obtain rfl := Option.some.inj h16
 exact n18
theorem spf_Hops_1_ok (a0 : THop) (a1 : THop) (r : Int) (h : M.spf_Hops_1 a0 a1 = some r) : Fn Try.prog 22 [.agg (c_THop a0), .agg (c_THop a1)] (.pure (.int .i64 r)) := by
 unfold M.spf_Hops_1 at h
 refine fn_pure Try.func22 rfl (by kernel_rfl) ?_
 refine awp_seq (rg0 [2, 3] 2 ⟨17, [(2, .ref 0 0), (3, .ref 1 0)], [.box (c_THop a0), .box (c_THop a1)]⟩ ?_)
 refine then_n (awp_seq ?_)
 obtain ⟨r1, q1, h2⟩ := bind_some h
 obtain ⟨r2, q3, h4⟩ := bind_some h2
 obtain ⟨r3, q5, h6⟩ := bind_some h4
 refine rg [.pure (.int .i64 r1), .pure (.int .i64 r2), .pure (.int .i64 r3)] [4] 0 ⟨17, [(4, .int .i64 r3)], []⟩ [] [⟨true, 24, [.int .i64 a0.fIface, .int .i64 a1.fIface], .pure (.int .i64 r1)⟩, ⟨true, 25, [.int .u32 a0.fAddr, .int .u32 a1.fAddr], .pure (.int .i64 r2)⟩, ⟨true, 23, [.sl false 1 2 (fun i => List.take 1 (List.drop (i * 1) [.int .i64 r1, .int .i64 r2]))], .pure (.int .i64 r3)⟩] nil_all ⟨fun _ => cmp_Compare_int_ok a0.fIface a1.fIface r1 q1, fun _ => cmp_Compare_uint32_ok a0.fAddr a1.fAddr r2 q3, fun _ => (cmp_Or_int_ok ([r1, r2] : List Int) r3 q5).args (.cons (asub_sl rfl (fun i hi => match i, hi with | 0, _ => rfl | 1, _ => rfl | n + 2, h => absurd h (by omega))) .nil), trivial⟩ ?_
 refine then_n (awp_ret ?_)
 obtain rfl := Option.some.inj h6
 exact er0 (.int .i64 r3)
end Nv
namespace Go.Proofs
open Go.Shelf
shelf_lay_g SlLaysF0.n6 Slsf 6 at Try 21 as Try.sortL21
end Go.Proofs
namespace Nv
open Go Go.Proofs
theorem slices_SortFunc_api_Hop_api_Hop__spf_Hops_1_ok (a0 : List THop) (r : List THop) (h : M.slices_SortFunc_api_Hop_api_Hop__spf_Hops_1 a0 = some r) : FnM Try.prog 21 [.asl 0 0 a0.length, .fn 22 []] 2 a0.length (fun i => c_THop (a0.getD i default)) (fun i => c_THop (r.getD i default)) (.tup []) := by
 obtain ⟨cf, h1, h2, h3, rfl⟩ := sortM_some h
 exact sortF0 Try.sortL21 2 (fun w => by kernel_rfl) (fun w => by kernel_rfl) c_THop (fun _ => rfl) (fun _ => rfl) h2 22 (enters_of Try.func22 (by kernel_rfl) rfl) (fun x y => spf_Hops_1_ok x y _ (h1 x y)) a0 h3
theorem slices_Compact_api_Hop_api_Hop_ok (a0 : List THop) (r : (List THop) × Nat) (h : M.slices_Compact_api_Hop_api_Hop a0 = some r) : FnM Try.prog 26 [.asl 0 0 a0.length] 2 a0.length (fun i => c_THop (a0.getD i default)) (fun i => c_THop (r.1.getD i default)) (.asl 0 0 r.2) := by
 unfold M.slices_Compact_api_Hop_api_Hop at h
 refine fn_mut Try.func26 rfl (by kernel_rfl) ?_
 refine awp_seq (rg0 [0] 2 ⟨61, [(0, .asl 0 0 a0.length)], [aL 2 c_THop a0, .gone]⟩ ?_)
 refine then_n (awp_seq (awp_seq (rg0 [0, 8] 2 ⟨61, [(0, .asl 0 0 a0.length), (8, .bool (decide ((a0.length : Int) < 2)))], [aL 2 c_THop a0, .gone]⟩ ?_)))
 refine then_n ?_
 refine cnd (decide ((a0.length : Int) < 2)) (fun b1 => ?_) (fun b1 => ?_)
 have h2 := cond_t b1 h
 refine awp_seq (rg0 [2] 2 ⟨61, [(2, .asl 0 0 a0.length)], [aL 2 c_THop a0, .gone]⟩ ?_)
 refine then_n (awp_ret (then_r ?_))
 obtain rfl := Option.some.inj h2
 exact emr (s' := ⟨61, [(2, .asl 0 0 a0.length)], [aL 2 c_THop a0, .gone]⟩) (le_rfl) rfl
 have h3 := cond_f b1 h
 refine awp_skip (then_n (awp_seq (awp_seq (rg0 [0, 3] 2 ⟨61, [(0, .asl 0 0 a0.length), (3, .int .i64 1)], [aL 2 c_THop a0, .gone]⟩ ?_))))
 refine then_n (awp_block ?_)
 obtain ⟨y7, q40, h41⟩ := bind_some h3
 refine awp_le (s' := ⟨61, [(0, .asl 0 0 a0.length), (3, .int .i64 1)], [aL 2 c_THop a0, .gone]⟩) (le_rfl) ?_
 refine awp_mono (awp_loop (f := M.slices_Compact_api_Hop_api_Hop_l1 a0) (S := fun (p1 : Int) => ⟨61, [(0, .asl 0 0 a0.length), (3, .int .i64 p1)], [aL 2 c_THop a0, .gone]⟩) (O := (Sum.elim (fun z => OutE 0 (fun z => ⟨61, [(0, .asl 0 0 a0.length)], [aL 2 c_THop a0, .gone]⟩) z) (fun z => OutM Try.prog Try.f26 2 a0.length (fun i => c_THop (z.1.getD i default)) (.asl 0 0 z.2)))) ?_ (x := 1) (y := y7) (loopM_iter q40)) ?_
 intro p1 y2 h4
 unfold M.slices_Compact_api_Hop_api_Hop_l1 at h4
 refine awp_seq (awp_seq (rg0 [0, 3, 13] 2 ⟨61, [(0, .asl 0 0 a0.length), (3, .int .i64 p1), (13, .bool (decide (p1 < (a0.length : Int))))], [aL 2 c_THop a0, .gone]⟩ ?_))
 refine then_n ?_
 refine cnd (decide (p1 < (a0.length : Int))) (fun b5 => ?_) (fun b5 => ?_)
 have h6 := cond_t b5 h4
 refine awp_skip (then_n (awp_seq (awp_block (awp_seq ?_))))
 obtain ⟨c8, h9⟩ := gd_some h6
 refine rgc [0, 3, 25] 2 ⟨61, [(0, .asl 0 0 a0.length), (3, .int .i64 p1), (25, .bool ((((a0.getD (0 + p1.toNat) default).fIface) == ((a0.getD (0 + (wr .i64 (p1 - 1)).toNat) default).fIface)) && ((((a0.getD (0 + p1.toNat) default).fAddr) == ((a0.getD (0 + (wr .i64 (p1 - 1)).toNat) default).fAddr)) && true)))], [aL 2 c_THop a0, .gone]⟩ [decide (0 ≤ p1), decide (p1 < (a0.length : Int)), decide (0 ≤ (wr .i64 (p1 - 1))), decide ((wr .i64 (p1 - 1)) < (a0.length : Int))] c8 ?_
 refine then_n ?_
 refine cnd ((((a0.getD (0 + p1.toNat) default).fIface) == ((a0.getD (0 + (wr .i64 (p1 - 1)).toNat) default).fIface)) && ((((a0.getD (0 + p1.toNat) default).fAddr) == ((a0.getD (0 + (wr .i64 (p1 - 1)).toNat) default).fAddr)) && true)) (fun b10 => ?_) (fun b10 => ?_)
 have h11 := cond_t b10 h9
 refine awp_seq ?_
 obtain ⟨c13, h14⟩ := gd_some h11
 refine rgc [0, 3, 4] 2 ⟨61, [(0, .asl 0 0 a0.length), (3, .int .i64 p1), (4, .asl 0 (0 + p1.toNat) (a0.length - p1.toNat))], [aL 2 c_THop a0, .gone]⟩ [decide (0 ≤ p1), decide (p1 ≤ (a0.length : Int))] c13 ?_
 refine then_n (awp_seq (awp_seq (rg0 [0, 3, 4, 5] 2 ⟨61, [(0, .asl 0 0 a0.length), (3, .int .i64 p1), (4, .asl 0 (0 + p1.toNat) (a0.length - p1.toNat)), (5, .int .i64 1)], [aL 2 c_THop a0, .gone]⟩ ?_)))
 refine then_n (awp_block ?_)
 obtain ⟨y6, q28, h29⟩ := bind_some h14
 refine awp_le (s' := ⟨61, [(0, .asl 0 0 a0.length), (3, .int .i64 p1), (4, .asl 0 (0 + p1.toNat) (a0.length - p1.toNat)), (5, .int .i64 1)], [aL 2 c_THop a0, .gone]⟩) (le_rfl) ?_
 refine awp_mono (awp_loop (f := M.slices_Compact_api_Hop_api_Hop_l2 a0 p1) (S := fun (p3 : (List THop) × Int × Int) => ⟨61, [(0, .asl 0 0 p3.1.length), (3, .int .i64 p3.2.1), (4, .asl 0 (0 + p1.toNat) (a0.length - p1.toNat)), (5, .int .i64 p3.2.2)], [aL 2 c_THop p3.1, .gone]⟩) (O := (fun z => OutE 2 (fun z => ⟨61, [(0, .asl 0 0 z.2.length), (3, .int .i64 z.1)], [aL 2 c_THop z.2, .gone]⟩) z)) ?_ (x := (a0, p1, 1)) (y := y6) (loopM_iter q28)) ?_
 intro p3 y4 h15
 unfold M.slices_Compact_api_Hop_api_Hop_l2 at h15
 refine awp_seq (awp_seq (rg0 [0, 3, 4, 5, 32] 2 ⟨61, [(0, .asl 0 0 p3.1.length), (3, .int .i64 p3.2.1), (4, .asl 0 (0 + p1.toNat) (a0.length - p1.toNat)), (5, .int .i64 p3.2.2), (32, .bool (decide (p3.2.2 < ((a0.length - p1.toNat : Nat) : Int))))], [aL 2 c_THop p3.1, .gone]⟩ ?_))
 refine then_n ?_
 refine cnd (decide (p3.2.2 < ((a0.length - p1.toNat : Nat) : Int))) (fun b16 => ?_) (fun b16 => ?_)
 have h17 := cond_t b16 h15
 refine awp_skip (then_n ?_)
 refine awp_join (fun (p5 : Int × (List THop)) => ⟨61, [(0, .asl 0 0 p5.2.length), (3, .int .i64 p5.1), (4, .asl 0 (0 + p1.toNat) (a0.length - p1.toNat)), (5, .int .i64 p3.2.2)], [aL 2 c_THop p5.2, .gone]⟩) (fun p5 => M.slices_Compact_api_Hop_api_Hop_k1 p3 p5 = some y4) ?_ ?_
 intro p5 h20
 unfold M.slices_Compact_api_Hop_api_Hop_k1 at h20
 refine rg0 [0, 3, 4, 5] 2 ⟨61, [(0, .asl 0 0 p5.2.length), (3, .int .i64 p5.1), (4, .asl 0 (0 + p1.toNat) (a0.length - p1.toNat)), (5, .int .i64 (wr .i64 (p3.2.2 + 1)))], [aL 2 c_THop p5.2, .gone]⟩ ?_
 obtain rfl := Option.some.inj h20
 exact round_n (le_rfl)
 intro k19
 refine awp_block (awp_seq ?_)
 obtain ⟨c21, h22⟩ := gd_some h17
 refine rgc [0, 3, 4, 5, 44] 2 ⟨61, [(0, .asl 0 0 p3.1.length), (3, .int .i64 p3.2.1), (4, .asl 0 (0 + p1.toNat) (a0.length - p1.toNat)), (5, .int .i64 p3.2.2), (44, .bool (!((((p3.1.getD ((0 + p1.toNat) + p3.2.2.toNat) default).fIface) == ((p3.1.getD ((0 + p1.toNat) + (wr .i64 (p3.2.2 - 1)).toNat) default).fIface)) && ((((p3.1.getD ((0 + p1.toNat) + p3.2.2.toNat) default).fAddr) == ((p3.1.getD ((0 + p1.toNat) + (wr .i64 (p3.2.2 - 1)).toNat) default).fAddr)) && true))))], [aL 2 c_THop p3.1, .gone]⟩ [decide (0 ≤ p3.2.2), decide (p3.2.2 < ((a0.length - p1.toNat : Nat) : Int)), decide (0 ≤ (wr .i64 (p3.2.2 - 1))), decide ((wr .i64 (p3.2.2 - 1)) < ((a0.length - p1.toNat : Nat) : Int))] c21 ?_
 refine then_n ?_
 refine cnd (!((((p3.1.getD ((0 + p1.toNat) + p3.2.2.toNat) default).fIface) == ((p3.1.getD ((0 + p1.toNat) + (wr .i64 (p3.2.2 - 1)).toNat) default).fIface)) && ((((p3.1.getD ((0 + p1.toNat) + p3.2.2.toNat) default).fAddr) == ((p3.1.getD ((0 + p1.toNat) + (wr .i64 (p3.2.2 - 1)).toNat) default).fAddr)) && true))) (fun b23 => ?_) (fun b23 => ?_)
 have h24 := cond_t b23 h22
 refine awp_seq ?_
 obtain ⟨c26, h27⟩ := gd_some h24
 refine rgc [0, 3, 4, 5] 2 ⟨61, [(0, .asl 0 0 p3.1.length), (3, .int .i64 p3.2.1), (4, .asl 0 (0 + p1.toNat) (a0.length - p1.toNat)), (5, .int .i64 p3.2.2)], [.arr 2 p3.1.length (fun j => bif Nat.beq j (0 + p3.2.1.toNat) then splice (c_THop (p3.1.getD (0 + p3.2.1.toNat) default)) [.int .i64 ((p3.1.getD ((0 + p1.toNat) + p3.2.2.toNat) default).fIface), .int .u32 ((p3.1.getD ((0 + p1.toNat) + p3.2.2.toNat) default).fAddr)] 0 else c_THop (p3.1.getD j default)), .gone]⟩ [decide (0 ≤ p3.2.2), decide (p3.2.2 < ((a0.length - p1.toNat : Nat) : Int)), decide (0 ≤ p3.2.1), decide (p3.2.1 < (p3.1.length : Int))] c26 ?_
 refine then_le (s' := ⟨61, [(0, .asl 0 0 ((p3.1.set (0 + p3.2.1.toNat) (p3.1.getD ((0 + p1.toNat) + p3.2.2.toNat) default)).length)), (3, .int .i64 p3.2.1), (4, .asl 0 (0 + p1.toNat) (a0.length - p1.toNat)), (5, .int .i64 p3.2.2)], [aL 2 c_THop (p3.1.set (0 + p3.2.1.toNat) (p3.1.getD ((0 + p1.toNat) + p3.2.2.toNat) default)), .gone]⟩) (le_sub (.cons (asl_len (by simp)) (.cons Sub.rfl (.cons Sub.rfl (.cons Sub.rfl .nil)))) (.cons (.arr (by simp) (set_ext c_THop p3.1 (0 + p3.2.1.toNat) (p3.1.getD ((0 + p1.toNat) + p3.2.2.toNat) default) _ rfl)) (.cons .rfl .nil))) ?_
 refine rg0 [0, 3, 4, 5] 2 ⟨61, [(0, .asl 0 0 ((p3.1.set (0 + p3.2.1.toNat) (p3.1.getD ((0 + p1.toNat) + p3.2.2.toNat) default)).length)), (3, .int .i64 (wr .i64 (p3.2.1 + 1))), (4, .asl 0 (0 + p1.toNat) (a0.length - p1.toNat)), (5, .int .i64 p3.2.2)], [aL 2 c_THop (p3.1.set (0 + p3.2.1.toNat) (p3.1.getD ((0 + p1.toNat) + p3.2.2.toNat) default)), .gone]⟩ ?_
 refine inb_n ?_
 exact then_le (le_rfl) (k19 (wr .i64 (p3.2.1 + 1), p3.1.set (0 + p3.2.1.toNat) (p3.1.getD ((0 + p1.toNat) + p3.2.2.toNat) default)) h27)
 have h25 := cond_f b23 h22
 refine awp_skip (inb_n ?_)
 exact then_le (kp [0, 3, 4, 5]) (k19 (p3.2.1, p3.1) h25)
 have h18 := cond_f b16 h15
 refine awp_exit (then_e ?_)
 obtain rfl := Option.some.inj h18
 exact round_e ⟨rfl, kp [0, 3]⟩
 intro e30 s31 o32
 obtain ⟨rfl, l33⟩ := o32
 refine inb_here ?_
 refine then_le (s' := ⟨61, [(0, .asl 0 0 y6.2.length), (3, .int .i64 y6.1)], [aL 2 c_THop y6.2, .gone]⟩) (l33) ?_
 refine awp_seq ?_
 obtain ⟨c34, h35⟩ := gd_some h29
 refine rgc [0, 3] 2 ⟨61, [(0, .asl 0 0 y6.2.length), (3, .int .i64 y6.1)], [.arr 2 y6.2.length (clrR ([.int .i64 0, .int .u32 0]) (0 + y6.1.toNat) (y6.2.length - y6.1.toNat) (fun i => c_THop (y6.2.getD i default))), .gone]⟩ [decide (0 ≤ y6.1), decide (y6.1 ≤ (y6.2.length : Int))] c34 ?_
 refine then_le (s' := ⟨61, [(0, .asl 0 0 ((clrL y6.2 (0 + y6.1.toNat) (y6.2.length - y6.1.toNat) (⟨0, 0⟩ : THop)).length)), (3, .int .i64 y6.1)], [aL 2 c_THop (clrL y6.2 (0 + y6.1.toNat) (y6.2.length - y6.1.toNat) (⟨0, 0⟩ : THop)), .gone]⟩) (le_sub (.cons (asl_len (clrL_len _ _ _ _)) (.cons Sub.rfl .nil)) (.cons (.arr (clrL_len _ _ _ _) (clrL_ext c_THop y6.2 (0 + y6.1.toNat) (y6.2.length - y6.1.toNat) (⟨0, 0⟩ : THop) _ rfl)) (.cons .rfl .nil))) ?_
 refine awp_seq ?_
 obtain ⟨c36, h37⟩ := gd_some h35
 refine rgc [2] 2 ⟨61, [(2, .asl 0 (0 + 0) (y6.1.toNat - 0))], [aL 2 c_THop (clrL y6.2 (0 + y6.1.toNat) (y6.2.length - y6.1.toNat) (⟨0, 0⟩ : THop)), .gone]⟩ [decide (0 ≤ y6.1), decide (y6.1 ≤ (((clrL y6.2 (0 + y6.1.toNat) (y6.2.length - y6.1.toNat) (⟨0, 0⟩ : THop)).length : Nat) : Int))] c36 ?_
 refine then_n (awp_ret (inb_r (then_r ?_)))
 obtain ⟨c38, h39⟩ := gd_some h37
 obtain rfl := Option.some.inj h39
 exact round_r ⟨rfl, emr (s' := ⟨61, [(2, .asl 0 (0 + 0) (y6.1.toNat - 0))], [aL 2 c_THop (clrL y6.2 (0 + y6.1.toNat) (y6.2.length - y6.1.toNat) (⟨0, 0⟩ : THop)), .gone]⟩) (le_rfl) (len_ok c38)⟩
 have h12 := cond_f b10 h9
 refine awp_skip (inb_n (then_n (rg0 [0, 3] 2 ⟨61, [(0, .asl 0 0 a0.length), (3, .int .i64 (wr .i64 (p1 + 1)))], [aL 2 c_THop a0, .gone]⟩ ?_)))
 obtain rfl := Option.some.inj h12
 exact round_n (le_rfl)
 have h7 := cond_f b5 h4
 refine awp_exit (then_e ?_)
 obtain rfl := Option.some.inj h7
 exact round_e ⟨rfl, kp [0]⟩
 intro e42 s43 o44
 rcases y7 with g8 | y9
 have h45 := elim_l h41
 obtain ⟨rfl, l47⟩ := o44
 refine inb_here ?_
 refine then_le (s' := ⟨61, [(0, .asl 0 0 a0.length)], [aL 2 c_THop a0, .gone]⟩) (l47) ?_
 refine awp_seq (rg0 [2] 2 ⟨61, [(2, .asl 0 0 a0.length)], [aL 2 c_THop a0, .gone]⟩ ?_)
 refine then_n (awp_ret ?_)
 obtain rfl := Option.some.inj h45
 exact emr (s' := ⟨61, [(2, .asl 0 0 a0.length)], [aL 2 c_THop a0, .gone]⟩) (le_rfl) rfl
 have h46 := elim_r h41
 obtain ⟨rfl, n48⟩ := o44
 refine inb_r (then_r ?_)
 obtain rfl := Option.some.inj h46
 exact n48
theorem spf_Hops_ok (a0 : Int) (a1 : List TEdge) (a2 : Int) (r : (List (List THop))) (h : M.spf_Hops a0 a1 a2 = some r) : Fn Try.prog 14 [.int .i64 a0, sL 5 c_TEdge a1, .int .i64 a2] (.pure (sL 1 (cl 2 c_THop) r)) := by
 unfold M.spf_Hops at h
 refine fn_pure Try.func14 rfl (by kernel_rfl) ?_
 refine awp_seq (rg0 [0, 1, 2] 0 ⟨102, [(0, .int .i64 a0), (1, sL 5 c_TEdge a1), (2, .int .i64 a2)], []⟩ ?_)
 refine then_n (awp_seq ?_)
 obtain ⟨r1, q1, h2⟩ := bind_some h
 refine rg [.pure (.int .i64 r1)] [0, 1, 2] 0 ⟨102, [(0, .int .i64 r1), (1, sL 5 c_TEdge a1), (2, .int .i64 a2)], []⟩ [] [⟨true, 18, [.int .i64 a0], .pure (.int .i64 r1)⟩] nil_all ⟨fun _ => spf_nodes_ok a0 r1 q1, trivial⟩ ?_
 refine then_n (awp_seq ?_)
 obtain ⟨c3, h4⟩ := gd_some h2
 refine rgc [0, 1, 2, 7] 1 ⟨102, [(0, .int .i64 r1), (1, sL 5 c_TEdge a1), (2, .int .i64 a2), (7, .asl 0 0 r1.toNat)], [.arr 1 r1.toNat (fun _ => [.sl true 2 0 (fun _ => [])])]⟩ [decide (0 ≤ r1), decide (r1 ≤ r1), decide (r1.toNat * 24 ≤ 140737488355328), decide (r1.toNat ≤ 140737488355328)] c3 ?_
 refine then_leE (LeE.trans (le_sub (.cons Sub.rfl (.cons Sub.rfl (.cons Sub.rfl (.cons (asl_len (by simp)) .nil)))) HSub.rfl : Le _ ⟨102, [(0, .int .i64 r1), (1, sL 5 c_TEdge a1), (2, .int .i64 a2), (7, .asl 0 0 ((List.replicate r1.toNat ([] : List THop)).length))], [.arr 1 r1.toNat (fun _ => [.sl true 2 0 (fun _ => [])])]⟩) (leE_jag0 c_THop _)) fun v0 => ?_
 refine awp_seq ?_
 obtain ⟨r2, q5, h6⟩ := bind_some h4
 refine rg [.pure (sL 1 (ci .i64) r2)] [0, 1, 2, 7, 8] 2 ⟨102, [(0, .int .i64 r1), (1, sL 5 c_TEdge a1), (2, .int .i64 a2), (7, .asl 0 0 ((List.replicate r1.toNat ([] : List THop)).length)), (8, sL 1 (ci .i64) r2)], [jA (List.replicate r1.toNat ([] : List THop)).length v0, jF 2 c_THop (List.replicate r1.toNat ([] : List THop)) v0]⟩ [] [⟨true, 11, [.int .i64 r1, sL 5 c_TEdge a1, .int .i64 a2], .pure (sL 1 (ci .i64) r2)⟩] nil_all ⟨fun _ => spf_Distances_ok r1 a1 a2 r2 q5, trivial⟩ ?_
 refine then_n (awp_seq (awp_seq (rg0 [0, 1, 2, 7, 8, 23, 24, 25] 2 ⟨102, [(0, .int .i64 r1), (1, sL 5 c_TEdge a1), (2, .int .i64 a2), (7, .asl 0 0 ((List.replicate r1.toNat ([] : List THop)).length)), (8, sL 1 (ci .i64) r2), (23, sL 5 c_TEdge a1), (24, .int .i64 (a1.length : Int)), (25, .int .i64 0)], [jA (List.replicate r1.toNat ([] : List THop)).length v0, jF 2 c_THop (List.replicate r1.toNat ([] : List THop)) v0]⟩ ?_)))
 refine then_n (awp_block ?_)
 obtain ⟨y12, q43, h44⟩ := bind_some h6
 refine awp_le (s' := ⟨102, [(0, .int .i64 r1), (1, sL 5 c_TEdge a1), (2, .int .i64 a2), (7, .asl 0 0 ((List.replicate r1.toNat ([] : List THop)).length)), (8, sL 1 (ci .i64) r2), (23, sL 5 c_TEdge a1), (24, .int .i64 (a1.length : Int)), (25, .int .i64 0)], [jA (List.replicate r1.toNat ([] : List THop)).length v0, jF 2 c_THop (List.replicate r1.toNat ([] : List THop)) v0]⟩) (le_rfl) ?_
 refine awp_mono (awp_loopE (f := M.spf_Hops_l1 a1 a2 r1 r2) (S := fun (p3 : (List (List THop)) × Int) (vs : Nat → Value) => ⟨102, [(0, .int .i64 r1), (1, sL 5 c_TEdge a1), (2, .int .i64 a2), (7, .asl 0 0 p3.1.length), (8, sL 1 (ci .i64) r2), (23, sL 5 c_TEdge a1), (24, .int .i64 (a1.length : Int)), (25, .int .i64 p3.2)], [jA p3.1.length vs, jF 2 c_THop p3.1 vs]⟩) (O := (fun z => OutL 0 (fun (z : List (List THop)) (vs : Nat → Value) => ⟨102, [(7, .asl 0 0 z.length)], [jA z.length vs, jF 2 c_THop z vs]⟩) z)) ?_ (g := v0) (x := (List.replicate r1.toNat ([] : List THop), 0)) (y := y12) (loopM_iter q43)) ?_
 intro p3 y4 v3 h7
 unfold M.spf_Hops_l1 at h7
 refine awp_seq (rg0 [0, 1, 2, 7, 8, 23, 24, 25, 26] 2 ⟨102, [(0, .int .i64 r1), (1, sL 5 c_TEdge a1), (2, .int .i64 a2), (7, .asl 0 0 p3.1.length), (8, sL 1 (ci .i64) r2), (23, sL 5 c_TEdge a1), (24, .int .i64 (a1.length : Int)), (25, .int .i64 p3.2), (26, .bool (decide (p3.2 < (a1.length : Int))))], [jA p3.1.length v3, jF 2 c_THop p3.1 v3]⟩ ?_)
 refine then_n (awp_seq ?_)
 refine cnd (decide (p3.2 < (a1.length : Int))) (fun b8 => ?_) (fun b8 => ?_)
 have h9 := cond_t b8 h7
 refine awp_skip (then_n ?_)
 refine awp_join (fun (p5 : (List (List THop)) × (Nat → Value)) => ⟨102, [(0, .int .i64 r1), (1, sL 5 c_TEdge a1), (2, .int .i64 a2), (7, .asl 0 0 p5.1.length), (8, sL 1 (ci .i64) r2), (23, sL 5 c_TEdge a1), (24, .int .i64 (a1.length : Int)), (25, .int .i64 p3.2)], [jA p5.1.length p5.2, jF 2 c_THop p5.1 p5.2]⟩) (fun p5 => M.spf_Hops_k1 p3 p5.1 = some y4) ?_ ?_
 intro p5 h12
 unfold M.spf_Hops_k1 at h12
 refine rg0 [0, 1, 2, 7, 8, 23, 24, 25] 2 ⟨102, [(0, .int .i64 r1), (1, sL 5 c_TEdge a1), (2, .int .i64 a2), (7, .asl 0 0 p5.1.length), (8, sL 1 (ci .i64) r2), (23, sL 5 c_TEdge a1), (24, .int .i64 (a1.length : Int)), (25, .int .i64 (wr .i64 (p3.2 + 1)))], [jA p5.1.length p5.2, jF 2 c_THop p5.1 p5.2]⟩ ?_
 obtain rfl := Option.some.inj h12
 exact roundE_n p5.2 (le_rfl)
 intro k11
 refine awp_block (awp_seq ?_)
 obtain ⟨c13, h14⟩ := gd_some h9
 refine rgc [0, 1, 2, 7, 8, 10, 23, 24, 25] 3 ⟨102, [(0, .int .i64 r1), (1, sL 5 c_TEdge a1), (2, .int .i64 a2), (7, .asl 0 0 p3.1.length), (8, sL 1 (ci .i64) r2), (10, .ref 2 0), (23, sL 5 c_TEdge a1), (24, .int .i64 (a1.length : Int)), (25, .int .i64 p3.2)], [jA p3.1.length v3, jF 2 c_THop p3.1 v3, .box (c_TEdge (a1.getD p3.2.toNat default))]⟩ [decide (0 ≤ p3.2), decide (p3.2 < (a1.length : Int))] c13 ?_
 refine then_n (awp_seq (awp_seq ?_))
 obtain ⟨r6, q15, h16⟩ := bind_some h14
 refine rg [.pure (.bool r6)] [0, 1, 2, 7, 8, 10, 23, 24, 25, 38] 3 ⟨102, [(0, .int .i64 r1), (1, sL 5 c_TEdge a1), (2, .int .i64 a2), (7, .asl 0 0 p3.1.length), (8, sL 1 (ci .i64) r2), (10, .ref 2 0), (23, sL 5 c_TEdge a1), (24, .int .i64 (a1.length : Int)), (25, .int .i64 p3.2), (38, .bool ((!r6) || (((a1.getD p3.2.toNat default).fFrom) != a2)))], [jA p3.1.length v3, jF 2 c_THop p3.1 v3, .box (c_TEdge (a1.getD p3.2.toNat default))]⟩ [] [⟨true, 19, [.int .i64 r1, .agg (c_TEdge (a1.getD p3.2.toNat default))], .pure (.bool r6)⟩] nil_all ⟨fun _ => spf_usable_ok r1 (a1.getD p3.2.toNat default) r6 q15, trivial⟩ ?_
 refine then_n ?_
 refine cnd ((!r6) || (((a1.getD p3.2.toNat default).fFrom) != a2)) (fun b17 => ?_) (fun b17 => ?_)
 have h18 := cond_t b17 h16
 refine awp_exit (then_e (inb_here ?_))
 exact then_le (Le.trans (s' := ⟨102, [(0, .int .i64 r1), (1, sL 5 c_TEdge a1), (2, .int .i64 a2), (7, .asl 0 0 p3.1.length), (8, sL 1 (ci .i64) r2), (23, sL 5 c_TEdge a1), (24, .int .i64 (a1.length : Int)), (25, .int .i64 p3.2)], [jA p3.1.length v3, jF 2 c_THop p3.1 v3, .box (c_TEdge (a1.getD p3.2.toNat default))]⟩) (kp [0, 1, 2, 7, 8, 23, 24, 25]) (le_cut (n := 2) (by kernel_rfl))) (k11 (p3.1, v3) h18)
 have h19 := cond_f b17 h16
 refine awp_skip (then_n (awp_seq ?_))
 obtain ⟨r7, q20, h21⟩ := bind_some h19
 refine rg [.pure (sL 1 (ci .i64) r7)] [0, 1, 2, 7, 8, 10, 11, 23, 24, 25] 3 ⟨102, [(0, .int .i64 r1), (1, sL 5 c_TEdge a1), (2, .int .i64 a2), (7, .asl 0 0 p3.1.length), (8, sL 1 (ci .i64) r2), (10, .ref 2 0), (11, sL 1 (ci .i64) r7), (23, sL 5 c_TEdge a1), (24, .int .i64 (a1.length : Int)), (25, .int .i64 p3.2)], [jA p3.1.length v3, jF 2 c_THop p3.1 v3, .box (c_TEdge (a1.getD p3.2.toNat default))]⟩ [] [⟨true, 11, [.int .i64 r1, sL 5 c_TEdge a1, .int .i64 ((a1.getD p3.2.toNat default).fTo)], .pure (sL 1 (ci .i64) r7)⟩] nil_all ⟨fun _ => spf_Distances_ok r1 a1 ((a1.getD p3.2.toNat default).fTo) r7 q20, trivial⟩ ?_
 refine then_n (awp_seq (rg0 [0, 1, 2, 7, 8, 10, 23, 24, 25, 44, 45, 46] 3 ⟨102, [(0, .int .i64 r1), (1, sL 5 c_TEdge a1), (2, .int .i64 a2), (7, .asl 0 0 p3.1.length), (8, sL 1 (ci .i64) r2), (10, .ref 2 0), (23, sL 5 c_TEdge a1), (24, .int .i64 (a1.length : Int)), (25, .int .i64 p3.2), (44, sL 1 (ci .i64) r7), (45, .int .i64 (r7.length : Int)), (46, .int .i64 0)], [jA p3.1.length v3, jF 2 c_THop p3.1 v3, .box (c_TEdge (a1.getD p3.2.toNat default))]⟩ ?_))
 refine then_n (awp_block ?_)
 obtain ⟨y11, q37, h38⟩ := bind_some h21
 refine awp_le (s' := ⟨102, [(0, .int .i64 r1), (1, sL 5 c_TEdge a1), (2, .int .i64 a2), (7, .asl 0 0 p3.1.length), (8, sL 1 (ci .i64) r2), (10, .ref 2 0), (23, sL 5 c_TEdge a1), (24, .int .i64 (a1.length : Int)), (25, .int .i64 p3.2), (44, sL 1 (ci .i64) r7), (45, .int .i64 (r7.length : Int)), (46, .int .i64 0)], [jA p3.1.length v3, jF 2 c_THop p3.1 v3, .box (c_TEdge (a1.getD p3.2.toNat default))]⟩) (le_rfl) ?_
 refine awp_mono (awp_loopE (f := M.spf_Hops_l2 a1 a2 r2 p3 r7) (S := fun (p8 : (List (List THop)) × Int) (vs : Nat → Value) => ⟨102, [(0, .int .i64 r1), (1, sL 5 c_TEdge a1), (2, .int .i64 a2), (7, .asl 0 0 p8.1.length), (8, sL 1 (ci .i64) r2), (10, .ref 2 0), (23, sL 5 c_TEdge a1), (24, .int .i64 (a1.length : Int)), (25, .int .i64 p3.2), (44, sL 1 (ci .i64) r7), (45, .int .i64 (r7.length : Int)), (46, .int .i64 p8.2)], [jA p8.1.length vs, jF 2 c_THop p8.1 vs, .box (c_TEdge (a1.getD p3.2.toNat default))]⟩) (O := (fun z => OutL 2 (fun (z : List (List THop)) (vs : Nat → Value) => ⟨102, [(0, .int .i64 r1), (1, sL 5 c_TEdge a1), (2, .int .i64 a2), (7, .asl 0 0 z.length), (8, sL 1 (ci .i64) r2), (23, sL 5 c_TEdge a1), (24, .int .i64 (a1.length : Int)), (25, .int .i64 p3.2)], [jA z.length vs, jF 2 c_THop z vs]⟩) z)) ?_ (g := v3) (x := (p3.1, 0)) (y := y11) (loopM_iter q37)) ?_
 intro p8 y9 v8 h22
 unfold M.spf_Hops_l2 at h22
 refine awp_seq (rg0 [0, 1, 2, 7, 8, 10, 23, 24, 25, 44, 45, 46, 47] 3 ⟨102, [(0, .int .i64 r1), (1, sL 5 c_TEdge a1), (2, .int .i64 a2), (7, .asl 0 0 p8.1.length), (8, sL 1 (ci .i64) r2), (10, .ref 2 0), (23, sL 5 c_TEdge a1), (24, .int .i64 (a1.length : Int)), (25, .int .i64 p3.2), (44, sL 1 (ci .i64) r7), (45, .int .i64 (r7.length : Int)), (46, .int .i64 p8.2), (47, .bool (decide (p8.2 < (r7.length : Int))))], [jA p8.1.length v8, jF 2 c_THop p8.1 v8, .box (c_TEdge (a1.getD p3.2.toNat default))]⟩ ?_)
 refine then_n (awp_seq ?_)
 refine cnd (decide (p8.2 < (r7.length : Int))) (fun b23 => ?_) (fun b23 => ?_)
 have h24 := cond_t b23 h22
 refine awp_skip (then_n ?_)
 refine awp_join (fun (p10 : (List (List THop)) × (Nat → Value)) => ⟨102, [(0, .int .i64 r1), (1, sL 5 c_TEdge a1), (2, .int .i64 a2), (7, .asl 0 0 p10.1.length), (8, sL 1 (ci .i64) r2), (10, .ref 2 0), (23, sL 5 c_TEdge a1), (24, .int .i64 (a1.length : Int)), (25, .int .i64 p3.2), (44, sL 1 (ci .i64) r7), (45, .int .i64 (r7.length : Int)), (46, .int .i64 p8.2)], [jA p10.1.length p10.2, jF 2 c_THop p10.1 p10.2, .box (c_TEdge (a1.getD p3.2.toNat default))]⟩) (fun p10 => M.spf_Hops_k2 p8 p10.1 = some y9) ?_ ?_
 intro p10 h27
 unfold M.spf_Hops_k2 at h27
 refine rg0 [0, 1, 2, 7, 8, 10, 23, 24, 25, 44, 45, 46] 3 ⟨102, [(0, .int .i64 r1), (1, sL 5 c_TEdge a1), (2, .int .i64 a2), (7, .asl 0 0 p10.1.length), (8, sL 1 (ci .i64) r2), (10, .ref 2 0), (23, sL 5 c_TEdge a1), (24, .int .i64 (a1.length : Int)), (25, .int .i64 p3.2), (44, sL 1 (ci .i64) r7), (45, .int .i64 (r7.length : Int)), (46, .int .i64 (wr .i64 (p8.2 + 1)))], [jA p10.1.length p10.2, jF 2 c_THop p10.1 p10.2, .box (c_TEdge (a1.getD p3.2.toNat default))]⟩ ?_
 obtain rfl := Option.some.inj h27
 exact roundE_n p10.2 (le_rfl)
 intro k26
 refine awp_block (awp_seq ?_)
 obtain ⟨c28, h29⟩ := gd_some h24
 refine rgc [0, 1, 2, 7, 8, 10, 12, 13, 23, 24, 25, 44, 45, 46] 3 ⟨102, [(0, .int .i64 r1), (1, sL 5 c_TEdge a1), (2, .int .i64 a2), (7, .asl 0 0 p8.1.length), (8, sL 1 (ci .i64) r2), (10, .ref 2 0), (12, .int .i64 p8.2), (13, .int .i64 (r7.getD p8.2.toNat default)), (23, sL 5 c_TEdge a1), (24, .int .i64 (a1.length : Int)), (25, .int .i64 p3.2), (44, sL 1 (ci .i64) r7), (45, .int .i64 (r7.length : Int)), (46, .int .i64 p8.2)], [jA p8.1.length v8, jF 2 c_THop p8.1 v8, .box (c_TEdge (a1.getD p3.2.toNat default))]⟩ [decide (0 ≤ p8.2), decide (p8.2 < (r7.length : Int))] c28 ?_
 refine then_n (awp_seq ?_)
 obtain ⟨c30, h31⟩ := gd_some h29
 refine rgc [0, 1, 2, 7, 8, 10, 12, 23, 24, 25, 44, 45, 46, 68] 3 ⟨102, [(0, .int .i64 r1), (1, sL 5 c_TEdge a1), (2, .int .i64 a2), (7, .asl 0 0 p8.1.length), (8, sL 1 (ci .i64) r2), (10, .ref 2 0), (12, .int .i64 p8.2), (23, sL 5 c_TEdge a1), (24, .int .i64 (a1.length : Int)), (25, .int .i64 p3.2), (44, sL 1 (ci .i64) r7), (45, .int .i64 (r7.length : Int)), (46, .int .i64 p8.2), (68, .bool (((p8.2 != a2) && (decide ((r7.getD p8.2.toNat default) ≥ 0))) && ((wr .i64 (((a1.getD p3.2.toNat default).fCost) + (r7.getD p8.2.toNat default))) == (r2.getD p8.2.toNat default))))], [jA p8.1.length v8, jF 2 c_THop p8.1 v8, .box (c_TEdge (a1.getD p3.2.toNat default))]⟩ [guardB ((p8.2 != a2) && (decide ((r7.getD p8.2.toNat default) ≥ 0))) (decide (0 ≤ p8.2)), guardB ((p8.2 != a2) && (decide ((r7.getD p8.2.toNat default) ≥ 0))) (decide (p8.2 < (r2.length : Int)))] c30 ?_
 refine then_n ?_
 refine cnd (((p8.2 != a2) && (decide ((r7.getD p8.2.toNat default) ≥ 0))) && ((wr .i64 (((a1.getD p3.2.toNat default).fCost) + (r7.getD p8.2.toNat default))) == (r2.getD p8.2.toNat default))) (fun b32 => ?_) (fun b32 => ?_)
 have h33 := cond_t b32 h31
 obtain ⟨c35, h36⟩ := gd_some h33
 have g1 : 0 ≤ p8.2 := of_decide_eq_true (c35 _ (by simp only [List.mem_cons, true_or]))
 have g2 : p8.2 < (p8.1.length : Int) := of_decide_eq_true (c35 _ (by simp only [List.mem_cons, true_or, or_true]))
 have g3 : ((p8.1.getD (0 + p8.2.toNat) default).length + 1) * 16 ≤ 140737488355328 := of_decide_eq_true (c35 _ (by simp only [List.mem_cons, true_or, or_true]))
 refine awp_le (le_foc (idf := 1) (0 + p8.2.toNat) rfl) ?_
 refine rgv 10 [] [0, 1, 2, 7, 8, 10, 23, 24, 25, 44, 45, 46, 69, 70, 78] 4 ⟨102, [(0, .int .i64 r1), (1, sL 5 c_TEdge a1), (2, .int .i64 a2), (7, .asl 0 0 p8.1.length), (8, sL 1 (ci .i64) r2), (10, .ref 2 0), (23, sL 5 c_TEdge a1), (24, .int .i64 (a1.length : Int)), (25, .int .i64 p3.2), (44, sL 1 (ci .i64) r7), (45, .int .i64 (r7.length : Int)), (46, .int .i64 p8.2), (69, .asl 0 0 p8.1.length), (70, .int .i64 p8.2), (78, .asl 3 0 ((p8.1.getD (0 + p8.2.toNat) default).length + 1))], [jA p8.1.length v8, .fam (0 + p8.2.toNat) (fun _ => false) p8.1.length 2 (updV v8 (0 + p8.2.toNat) nilV) (updL (jls c_THop p8.1) (0 + p8.2.toNat) (0, fun _ => [])), .box (c_TEdge (a1.getD p3.2.toNat default)), .arr 2 ((p8.1.getD (0 + p8.2.toNat) default).length + 1) (app (jls c_THop p8.1 (0 + p8.2.toNat)).2 (jls c_THop p8.1 (0 + p8.2.toNat)).1 (fun i => List.take 2 (List.drop (i * 2) [.int .i64 (a1.getD p3.2.toNat default).fHop.fIface, .int .u32 (a1.getD p3.2.toNat default).fHop.fAddr])))]⟩ [decide (0 ≤ p8.2), decide (p8.2 < (p8.1.length : Int)), pB (v8 (0 + p8.2.toNat) = v8 (0 + p8.2.toNat)), decide ((0 + p8.2.toNat) < p8.1.length), decide (((p8.1.getD (0 + p8.2.toNat) default).length + 1) * 16 ≤ 140737488355328)] [] ?_ trivial _ (leE_ref (idf := 1) 78 (0 + p8.2.toNat) rfl rfl rfl ?_ rfl) [] [0, 1, 2, 7, 8, 10, 23, 24, 25, 44, 45, 46] 3 (fun u => ⟨102, [(0, .int .i64 r1), (1, sL 5 c_TEdge a1), (2, .int .i64 a2), (7, .asl 0 0 p8.1.length), (8, sL 1 (ci .i64) r2), (10, .ref 2 0), (23, sL 5 c_TEdge a1), (24, .int .i64 (a1.length : Int)), (25, .int .i64 p3.2), (44, sL 1 (ci .i64) r7), (45, .int .i64 (r7.length : Int)), (46, .int .i64 p8.2)], [.arr 1 p8.1.length (fun j => bif Nat.beq j (0 + p8.2.toNat) then splice [.val (v8 (0 + p8.2.toNat))] [.val u] 0 else [.val (v8 j)]), .fam 0 (fun _ => false) p8.1.length 2 (updV (updV v8 (0 + p8.2.toNat) nilV) (0 + p8.2.toNat) u) (updL (updL (jls c_THop p8.1) (0 + p8.2.toNat) (0, fun _ => [])) (0 + p8.2.toNat) ((p8.1.getD (0 + p8.2.toNat) default).length + 1, (app (jls c_THop p8.1 (0 + p8.2.toNat)).2 (jls c_THop p8.1 (0 + p8.2.toNat)).1 (fun i => List.take 2 (List.drop (i * 2) [.int .i64 (a1.getD p3.2.toNat default).fHop.fIface, .int .u32 (a1.getD p3.2.toNat default).fHop.fAddr]))))), .box (c_TEdge (a1.getD p3.2.toNat default))]⟩) (fun _ => [decide (0 ≤ p8.2), decide (p8.2 < (p8.1.length : Int))]) (fun _ => []) ?_ (fun _ => trivial) (fun u => ?_)
 · exact am (decide_eq_true g1) (am (decide_eq_true g2) (am (pB_of rfl) (am (decide_eq_true (by omega)) (am (decide_eq_true g3) nil_all))))
 · rw [updV_self]; rfl
 · exact fun _ => am (decide_eq_true g1) (am (decide_eq_true g2) nil_all)
 refine inb_n ?_
 exact then_le (Le.trans (le_jset c_THop p8.1 v8 (0 + p8.2.toNat) u ((p8.1.getD (0 + p8.2.toNat) default) ++ [(a1.getD p3.2.toNat default).fHop]) ((p8.1.getD (0 + p8.2.toNat) default).length + 1) (app (jls c_THop p8.1 (0 + p8.2.toNat)).2 (jls c_THop p8.1 (0 + p8.2.toNat)).1 (fun i => List.take 2 (List.drop (i * 2) [.int .i64 (a1.getD p3.2.toNat default).fHop.fIface, .int .u32 (a1.getD p3.2.toNat default).fHop.fAddr]))) _ _ _ (fun _ _ => rfl) (fun j hj => updV_ne hj) (fun j hj => updL_ne hj) (by simp) (fun i hi => app_snoc c_THop (p8.1.getD (0 + p8.2.toNat) default) (a1.getD p3.2.toNat default).fHop (fun i => List.take 2 (List.drop (i * 2) [.int .i64 (a1.getD p3.2.toNat default).fHop.fIface, .int .u32 (a1.getD p3.2.toNat default).fHop.fAddr])) rfl i hi)) (le_sub (.cons Sub.rfl (.cons Sub.rfl (.cons Sub.rfl (.cons (asl_len (by simp)) (.cons Sub.rfl (.cons Sub.rfl (.cons Sub.rfl (.cons Sub.rfl (.cons Sub.rfl (.cons Sub.rfl (.cons Sub.rfl (.cons Sub.rfl .nil)))))))))))) HSub.rfl)) (k26 (p8.1.set (0 + p8.2.toNat) ((p8.1.getD (0 + p8.2.toNat) default) ++ [(a1.getD p3.2.toNat default).fHop]), updV v8 (0 + p8.2.toNat) u) h36)
 have h34 := cond_f b32 h31
 refine awp_skip (inb_n ?_)
 exact then_le (kp [0, 1, 2, 7, 8, 10, 23, 24, 25, 44, 45, 46]) (k26 (p8.1, v8) h34)
 have h25 := cond_f b23 h22
 refine awp_exit (then_e ?_)
 obtain rfl := Option.some.inj h25
 exact roundE_e ⟨rfl, LeE.of v8 (Le.trans (s' := ⟨102, [(0, .int .i64 r1), (1, sL 5 c_TEdge a1), (2, .int .i64 a2), (7, .asl 0 0 p8.1.length), (8, sL 1 (ci .i64) r2), (23, sL 5 c_TEdge a1), (24, .int .i64 (a1.length : Int)), (25, .int .i64 p3.2)], [jA p8.1.length v8, jF 2 c_THop p8.1 v8, .box (c_TEdge (a1.getD p3.2.toNat default))]⟩) (kp [0, 1, 2, 7, 8, 23, 24, 25]) (le_cut (n := 2) (by kernel_rfl)))⟩
 intro e39 s40 o41
 obtain ⟨rfl, l42⟩ := o41
 refine inb_here (inb_n ?_)
 exact then_leE l42 fun v11 => k11 (y11, v11) h38
 have h10 := cond_f b8 h7
 refine awp_exit (then_e ?_)
 obtain rfl := Option.some.inj h10
 exact roundE_e ⟨rfl, LeE.of v3 (kp [7])⟩
 intro e45 s46 o47
 obtain ⟨rfl, l48⟩ := o47
 refine inb_here ?_
 refine then_leE l48 fun v12 => ?_
 refine awp_seq (awp_seq (rg0 [7, 83, 84] 2 ⟨102, [(7, .asl 0 0 y12.length), (83, .int .i64 (y12.length : Int)), (84, .int .i64 0)], [jA y12.length v12, jF 2 c_THop y12 v12]⟩ ?_))
 refine then_n (awp_block ?_)
 obtain ⟨y17, q61, h62⟩ := bind_some h44
 refine awp_le (s' := ⟨102, [(7, .asl 0 0 y12.length), (83, .int .i64 (y12.length : Int)), (84, .int .i64 0)], [jA y12.length v12, jF 2 c_THop y12 v12]⟩) (le_rfl) ?_
 refine awp_mono (awp_loopE (f := M.spf_Hops_l3 y12) (S := fun (p13 : (List (List THop)) × Int) (vs : Nat → Value) => ⟨102, [(7, .asl 0 0 p13.1.length), (83, .int .i64 (y12.length : Int)), (84, .int .i64 p13.2)], [jA p13.1.length vs, jF 2 c_THop p13.1 vs]⟩) (O := (fun z => OutL 4 (fun (z : List (List THop)) (vs : Nat → Value) => ⟨102, [(7, .asl 0 0 z.length)], [jA z.length vs, jF 2 c_THop z vs]⟩) z)) ?_ (g := v12) (x := (y12, 0)) (y := y17) (loopM_iter q61)) ?_
 intro p13 y14 v13 h49
 unfold M.spf_Hops_l3 at h49
 refine awp_seq (rg0 [7, 83, 84, 85] 2 ⟨102, [(7, .asl 0 0 p13.1.length), (83, .int .i64 (y12.length : Int)), (84, .int .i64 p13.2), (85, .bool (decide (p13.2 < (y12.length : Int))))], [jA p13.1.length v13, jF 2 c_THop p13.1 v13]⟩ ?_)
 refine then_n (awp_seq ?_)
 refine cnd (decide (p13.2 < (y12.length : Int))) (fun b50 => ?_) (fun b50 => ?_)
 have h51 := cond_t b50 h49
 refine awp_skip (then_n (awp_seq (awp_block (awp_seq (rg0 [7, 14, 83, 84] 2 ⟨102, [(7, .asl 0 0 p13.1.length), (14, .int .i64 p13.2), (83, .int .i64 (y12.length : Int)), (84, .int .i64 p13.2)], [jA p13.1.length v13, jF 2 c_THop p13.1 v13]⟩ ?_)))))
 refine then_n (awp_seq ?_)
 obtain ⟨c53, h53⟩ := gd_some h51
 obtain ⟨r15, q53, h54⟩ := bind_some h53
 obtain ⟨c54, h55⟩ := gd_some h54
 obtain ⟨r16, q57, h58⟩ := bind_some h55
 obtain ⟨c59, h60⟩ := gd_some h58
 have g1 : 0 ≤ p13.2 := of_decide_eq_true (c53 _ (by simp only [List.mem_cons, true_or]))
 have g2 : p13.2 < (p13.1.length : Int) := of_decide_eq_true (c53 _ (by simp only [List.mem_cons, true_or, or_true]))
 have g4 : r15.length = (p13.1.getD (0 + p13.2.toNat) default).length := of_decide_eq_true (c54 _ (by simp only [List.mem_cons, true_or]))
 have g5 : r16.1.length = r15.length := of_decide_eq_true (c59 _ (by simp only [List.mem_cons, true_or]))
 have g6 : r16.2 ≤ r16.1.length := of_decide_eq_true (c59 _ (by simp only [List.mem_cons, true_or, or_true]))
 refine rgz 4 [] [7, 14, 83, 84, 90] 2 ⟨102, [(7, .asl 0 0 p13.1.length), (14, .int .i64 p13.2), (83, .int .i64 (y12.length : Int)), (84, .int .i64 p13.2), (90, .val (v13 (0 + p13.2.toNat)))], [jA p13.1.length v13, jF 2 c_THop p13.1 v13]⟩ [decide (0 ≤ p13.2), decide (p13.2 < (p13.1.length : Int))] [] c53 trivial 1 90 (0 + p13.2.toNat) (by omega) [.lnd 0 0 (fun _ => []) (fun i => c_THop (r15.getD i default)) (.tup [])] [⟨true, 21, [.asl 0 0 (p13.1.getD (0 + p13.2.toNat) default).length, .fn 22 []], .lnd 2 (p13.1.getD (0 + p13.2.toNat) default).length (fun i => c_THop ((p13.1.getD (0 + p13.2.toNat) default).getD i default)) (fun i => c_THop (r15.getD i default)) (.tup [])⟩] ⟨fun _ => slices_SortFunc_api_Hop_api_Hop__spf_Hops_1_ok (p13.1.getD (0 + p13.2.toNat) default) r15 q53, trivial⟩ (d := .tup []) (orc' := []) (H' := [jA p13.1.length v13, .fam 0 (fun _ => false) p13.1.length 2 (updV v13 (0 + p13.2.toNat) nilV) (updL (jls c_THop p13.1) (0 + p13.2.toNat) (0, fun _ => [])), .arr 2 (p13.1.getD (0 + p13.2.toNat) default).length (fun i => c_THop (r15.getD i default))]) (vs2 := updV v13 (0 + p13.2.toNat) nilV) (by rw [updV_self]; rfl) [7, 14, 83, 84] 2 ⟨102, [(7, .asl 0 0 p13.1.length), (14, .int .i64 p13.2), (83, .int .i64 (y12.length : Int)), (84, .int .i64 p13.2)], [jA p13.1.length v13, .fam 0 (fun _ => false) p13.1.length 2 (updV (updV v13 (0 + p13.2.toNat) nilV) (0 + p13.2.toNat) (v13 (0 + p13.2.toNat))) (updL (updL (jls c_THop p13.1) (0 + p13.2.toNat) (0, fun _ => [])) (0 + p13.2.toNat) ((p13.1.getD (0 + p13.2.toNat) default).length, (fun i => c_THop (r15.getD i default))))]⟩ ?_ _ rfl rfl rfl (by kernel_rfl) rfl rfl (by kernel_rfl) rfl rfl rfl rfl (by kernel_rfl)
 refine then_le (s' := ⟨102, [(7, .asl 0 0 ((p13.1.set (0 + p13.2.toNat) r15).length)), (14, .int .i64 p13.2), (83, .int .i64 (y12.length : Int)), (84, .int .i64 p13.2)], [jA (p13.1.set (0 + p13.2.toNat) r15).length v13, jF 2 c_THop (p13.1.set (0 + p13.2.toNat) r15) v13]⟩) (Le.trans (le_jsame c_THop p13.1 v13 (0 + p13.2.toNat) r15 _ (fun i => c_THop (r15.getD i default)) _ _ (fun j hj => updV_ne hj) (fun j hj => updL_ne hj) g4.symm (fun _ _ => rfl)) (le_sub (.cons (asl_len (by simp)) (.cons Sub.rfl (.cons Sub.rfl (.cons Sub.rfl .nil)))) HSub.rfl)) ?_
 have g7 : p13.2 < ((p13.1.set (0 + p13.2.toNat) r15).length : Int) := by rw [List.length_set]; exact g2
 have g8 : (p13.1.set (0 + p13.2.toNat) r15).getD (0 + p13.2.toNat) default = r15 := by rw [List.getD_eq_getElem?_getD, List.getElem?_set_self (by omega)]; rfl
 have hc8 : ∀ b ∈ [decide (0 ≤ p13.2), decide (p13.2 < ((p13.1.set (0 + p13.2.toNat) r15).length : Int))], b = true := am (decide_eq_true g1) (am (decide_eq_true g7) nil_all)
 refine rgx3 6 7 [] [7, 83, 84, 92, 93, 97] 2 ⟨102, [(7, .asl 0 0 (p13.1.set (0 + p13.2.toNat) r15).length), (83, .int .i64 (y12.length : Int)), (84, .int .i64 p13.2), (92, .asl 0 0 (p13.1.set (0 + p13.2.toNat) r15).length), (93, .int .i64 p13.2), (97, .val (v13 (0 + p13.2.toNat)))], [jA (p13.1.set (0 + p13.2.toNat) r15).length v13, jF 2 c_THop (p13.1.set (0 + p13.2.toNat) r15) v13]⟩ [decide (0 ≤ p13.2), decide (p13.2 < ((p13.1.set (0 + p13.2.toNat) r15).length : Int))] [] hc8 trivial ⟨102, (97, .asl 2 0 (jls c_THop (p13.1.set (0 + p13.2.toNat) r15) (0 + p13.2.toNat)).1) :: [(7, .asl 0 0 (p13.1.set (0 + p13.2.toNat) r15).length), (83, .int .i64 (y12.length : Int)), (84, .int .i64 p13.2), (92, .asl 0 0 (p13.1.set (0 + p13.2.toNat) r15).length), (93, .int .i64 p13.2), (97, .val (v13 (0 + p13.2.toNat)))], [jA (p13.1.set (0 + p13.2.toNat) r15).length v13, .fam 0 (fun _ => false) (p13.1.set (0 + p13.2.toNat) r15).length 2 (updV v13 (0 + p13.2.toNat) nilV) (updL (jls c_THop (p13.1.set (0 + p13.2.toNat) r15)) (0 + p13.2.toNat) (0, fun _ => [])), .arr 2 (jls c_THop (p13.1.set (0 + p13.2.toNat) r15) (0 + p13.2.toNat)).1 (jls c_THop (p13.1.set (0 + p13.2.toNat) r15) (0 + p13.2.toNat)).2]⟩ (le_unf (idf := 1) 97 (0 + p13.2.toNat) rfl (by rw [List.length_set]; omega) rfl) [.lnd 0 0 (fun _ => []) (fun i => c_THop (r16.1.getD i default)) (.asl 0 0 r16.2)] [7, 83, 84, 92, 93, 98] 3 ⟨102, [(7, .asl 0 0 (p13.1.set (0 + p13.2.toNat) r15).length), (83, .int .i64 (y12.length : Int)), (84, .int .i64 p13.2), (92, .asl 0 0 (p13.1.set (0 + p13.2.toNat) r15).length), (93, .int .i64 p13.2), (98, .asl 2 0 r16.2)], [jA (p13.1.set (0 + p13.2.toNat) r15).length v13, .fam 0 (fun _ => false) (p13.1.set (0 + p13.2.toNat) r15).length 2 (updV v13 (0 + p13.2.toNat) nilV) (updL (jls c_THop (p13.1.set (0 + p13.2.toNat) r15)) (0 + p13.2.toNat) (0, fun _ => [])), .arr 2 (jls c_THop (p13.1.set (0 + p13.2.toNat) r15) (0 + p13.2.toNat)).1 (fun i => c_THop (r16.1.getD i default))]⟩ [] [⟨true, 26, [.asl 0 0 (jls c_THop (p13.1.set (0 + p13.2.toNat) r15) (0 + p13.2.toNat)).1], .lnd 2 (jls c_THop (p13.1.set (0 + p13.2.toNat) r15) (0 + p13.2.toNat)).1 (jls c_THop (p13.1.set (0 + p13.2.toNat) r15) (0 + p13.2.toNat)).2 (fun i => c_THop (r16.1.getD i default)) (.asl 0 0 r16.2)⟩] nil_all ⟨fun _ => ?_, trivial⟩ _ (leE_ref (idf := 1) 98 (0 + p13.2.toNat) rfl rfl rfl (by rw [updV_self]; rfl) rfl) [] [7, 83, 84] 2 (fun u => ⟨102, [(7, .asl 0 0 (p13.1.set (0 + p13.2.toNat) r15).length), (83, .int .i64 (y12.length : Int)), (84, .int .i64 p13.2)], [.arr 1 (p13.1.set (0 + p13.2.toNat) r15).length (fun j => bif Nat.beq j (0 + p13.2.toNat) then splice [.val (v13 (0 + p13.2.toNat))] [.val u] 0 else [.val (v13 j)]), .fam 0 (fun _ => false) (p13.1.set (0 + p13.2.toNat) r15).length 2 (updV (updV v13 (0 + p13.2.toNat) nilV) (0 + p13.2.toNat) u) (updL (updL (jls c_THop (p13.1.set (0 + p13.2.toNat) r15)) (0 + p13.2.toNat) (0, fun _ => [])) (0 + p13.2.toNat) (r16.2, (fun i => c_THop (r16.1.getD i default))))]⟩) (fun _ => [decide (0 ≤ p13.2), decide (p13.2 < ((p13.1.set (0 + p13.2.toNat) r15).length : Int))]) (fun _ => []) (fun _ => hc8) (fun _ => trivial) (fun u => ?_)
 · have e : (jls c_THop (p13.1.set (0 + p13.2.toNat) r15) (0 + p13.2.toNat)) = (r15.length, fun i => c_THop (r15.getD i default)) := by unfold jls; rw [g8]
   show FnM _ _ [.asl 0 0 (jls c_THop (p13.1.set (0 + p13.2.toNat) r15) (0 + p13.2.toNat)).1] 2 (jls c_THop (p13.1.set (0 + p13.2.toNat) r15) (0 + p13.2.toNat)).1 (jls c_THop (p13.1.set (0 + p13.2.toNat) r15) (0 + p13.2.toNat)).2 _ _
   rw [e]
   exact slices_Compact_api_Hop_api_Hop_ok r15 r16 q57
 refine inb_n ?_
 refine then_le (s' := ⟨102, [(7, .asl 0 0 ((p13.1.set (0 + p13.2.toNat) r15).set (0 + p13.2.toNat) (r16.1.take r16.2)).length), (83, .int .i64 (y12.length : Int)), (84, .int .i64 p13.2)], [jA ((p13.1.set (0 + p13.2.toNat) r15).set (0 + p13.2.toNat) (r16.1.take r16.2)).length (updV v13 (0 + p13.2.toNat) u), jF 2 c_THop ((p13.1.set (0 + p13.2.toNat) r15).set (0 + p13.2.toNat) (r16.1.take r16.2)) (updV v13 (0 + p13.2.toNat) u)]⟩) (Le.trans (le_jset (nt := 102) (rest := []) (e := [(7, .asl 0 0 (p13.1.set (0 + p13.2.toNat) r15).length), (83, .int .i64 (y12.length : Int)), (84, .int .i64 p13.2)]) (wd := 2) c_THop (p13.1.set (0 + p13.2.toNat) r15) v13 (0 + p13.2.toNat) u (r16.1.take r16.2) r16.2 (fun i => c_THop (r16.1.getD i default)) _ _ _ (fun _ _ => rfl) (fun j hj => updV_ne hj) (fun j hj => updL_ne hj) (by rw [List.length_take]; omega) (fun i hi => by congr 1; simp [hi])) (le_sub (.cons (asl_len (by simp)) (.cons Sub.rfl (.cons Sub.rfl .nil))) HSub.rfl)) ?_
 rw [List.set_set]
 refine rg0 [7, 83, 84] 2 ⟨102, [(7, .asl 0 0 ((p13.1.set (0 + p13.2.toNat) (r16.1.take r16.2)).length)), (83, .int .i64 (y12.length : Int)), (84, .int .i64 (wr .i64 (p13.2 + 1)))], [jA (p13.1.set (0 + p13.2.toNat) (r16.1.take r16.2)).length (updV v13 (0 + p13.2.toNat) u), jF 2 c_THop (p13.1.set (0 + p13.2.toNat) (r16.1.take r16.2)) (updV v13 (0 + p13.2.toNat) u)]⟩ ?_
 obtain rfl := Option.some.inj h60
 exact roundE_n (updV v13 (0 + p13.2.toNat) u) (le_rfl)
 have h52 := cond_f b50 h49
 refine awp_exit (then_e ?_)
 obtain rfl := Option.some.inj h52
 exact roundE_e ⟨rfl, LeE.of v13 (kp [7])⟩
 intro e63 s64 o65
 obtain ⟨rfl, l66⟩ := o65
 refine inb_here ?_
 refine then_leE l66 fun v17 => ?_
 refine awp_le (le_jfrz c_THop y17 v17) ?_
 refine awp_seq (rg0 [6] 2 ⟨102, [(6, .asl 0 0 y17.length)], [aL 1 (cl 2 c_THop) y17, .fam 0 (fun _ => false) 0 2 v17 (jls c_THop y17)]⟩ ?_)
 refine then_n (awp_ret ?_)
 obtain rfl := Option.some.inj h62
 exact er (.sl false 1 y17.length (fun i => (cl 2 c_THop) (y17.getD (0 + i) default))) sub_asl
theorem keep_Ints_ok (a0 : List Int) (a1 : List Int) (r : Bool) (h : M.keep_Ints a0 a1 = some r) : Fn Try.prog 10 [sL 1 (ci .i64) a0, sL 1 (ci .i64) a1] (.pure (.bool r)) := by
 unfold M.keep_Ints at h
 refine fn_pure Try.func10 rfl (by kernel_rfl) ?_
 refine awp_seq (rg0 [0, 1] 0 ⟨26, [(0, sL 1 (ci .i64) a0), (1, sL 1 (ci .i64) a1)], []⟩ ?_)
 refine then_n (awp_seq (awp_seq (rg0 [0, 1, 10] 0 ⟨26, [(0, sL 1 (ci .i64) a0), (1, sL 1 (ci .i64) a1), (10, .bool ((a0.length : Int) != (a1.length : Int)))], []⟩ ?_)))
 refine then_n ?_
 refine cnd ((a0.length : Int) != (a1.length : Int)) (fun b1 => ?_) (fun b1 => ?_)
 have h2 := cond_t b1 h
 refine awp_seq (rg0 [4] 0 ⟨26, [(4, .bool false)], []⟩ ?_)
 refine then_n (awp_ret (then_r ?_))
 obtain rfl := Option.some.inj h2
 exact er0 (.bool false)
 have h3 := cond_f b1 h
 refine awp_skip (then_n (awp_seq (awp_seq (rg0 [0, 1, 5] 0 ⟨26, [(0, sL 1 (ci .i64) a0), (1, sL 1 (ci .i64) a1), (5, .int .i64 0)], []⟩ ?_))))
 refine then_n (awp_block ?_)
 obtain ⟨y3, q13, h14⟩ := bind_some h3
 refine awp_le (s' := ⟨26, [(0, sL 1 (ci .i64) a0), (1, sL 1 (ci .i64) a1), (5, .int .i64 0)], []⟩) (le_rfl) ?_
 refine awp_mono (awp_loop (f := M.keep_Ints_l1 a0 a1) (S := fun (p1 : Int) => ⟨26, [(0, sL 1 (ci .i64) a0), (1, sL 1 (ci .i64) a1), (5, .int .i64 p1)], []⟩) (O := (Sum.elim (fun z => OutE 0 (fun z => ⟨26, [], []⟩) z) (fun z => OutR Try.prog Try.f10 (.bool z)))) ?_ (x := 0) (y := y3) (loopM_iter q13)) ?_
 intro p1 y2 h4
 unfold M.keep_Ints_l1 at h4
 refine awp_seq (awp_seq (rg0 [0, 1, 5, 14] 0 ⟨26, [(0, sL 1 (ci .i64) a0), (1, sL 1 (ci .i64) a1), (5, .int .i64 p1), (14, .bool (decide (p1 < (a0.length : Int))))], []⟩ ?_))
 refine then_n ?_
 refine cnd (decide (p1 < (a0.length : Int))) (fun b5 => ?_) (fun b5 => ?_)
 have h6 := cond_t b5 h4
 refine awp_skip (then_n (awp_seq (awp_block (awp_seq ?_))))
 obtain ⟨c8, h9⟩ := gd_some h6
 refine rgc [0, 1, 5, 25] 0 ⟨26, [(0, sL 1 (ci .i64) a0), (1, sL 1 (ci .i64) a1), (5, .int .i64 p1), (25, .bool ((a0.getD p1.toNat default) != (a1.getD p1.toNat default)))], []⟩ [decide (0 ≤ p1), decide (p1 < (a0.length : Int)), decide (0 ≤ p1), decide (p1 < (a1.length : Int))] c8 ?_
 refine then_n ?_
 refine cnd ((a0.getD p1.toNat default) != (a1.getD p1.toNat default)) (fun b10 => ?_) (fun b10 => ?_)
 have h11 := cond_t b10 h9
 refine awp_seq (rg0 [4] 0 ⟨26, [(4, .bool false)], []⟩ ?_)
 refine then_n (awp_ret (inb_r (then_r ?_)))
 obtain rfl := Option.some.inj h11
 exact round_r ⟨rfl, er0 (.bool false)⟩
 have h12 := cond_f b10 h9
 refine awp_skip (inb_n (then_n (rg0 [0, 1, 5] 0 ⟨26, [(0, sL 1 (ci .i64) a0), (1, sL 1 (ci .i64) a1), (5, .int .i64 (wr .i64 (p1 + 1)))], []⟩ ?_)))
 obtain rfl := Option.some.inj h12
 exact round_n (le_rfl)
 have h7 := cond_f b5 h4
 refine awp_exit (then_e ?_)
 obtain rfl := Option.some.inj h7
 exact round_e ⟨rfl, kp []⟩
 intro e15 s16 o17
 rcases y3 with g4 | y5
 have h18 := elim_l h14
 obtain ⟨rfl, l20⟩ := o17
 refine inb_here ?_
 refine then_le (s' := ⟨26, [], []⟩) (l20) ?_
 refine awp_seq (rg0 [4] 0 ⟨26, [(4, .bool true)], []⟩ ?_)
 refine then_n (awp_ret ?_)
 obtain rfl := Option.some.inj h18
 exact er0 (.bool true)
 have h19 := elim_r h14
 obtain ⟨rfl, n21⟩ := o17
 refine inb_r (then_r ?_)
 obtain rfl := Option.some.inj h19
 exact n21
theorem law15_sane_ok  (r : Bool) (h : M.law15_sane  = some r) : Fn Try.prog 13 [] (.pure (.bool r)) := by
 unfold M.law15_sane at h
 refine fn_pure Try.func13 rfl (by kernel_rfl) ?_
 refine awp_seq (rg0 [] 0 ⟨36, [], []⟩ ?_)
 refine then_n (awp_seq (rg0 [1] 0 ⟨36, [(1, .sl true 5 3 (fun i => List.take 5 (List.drop (i * 5) [.int .i64 0, .int .i64 1, .int .i64 1, .int .i64 0, .int .u32 1, .int .i64 1, .int .i64 2, .int .i64 1, .int .i64 0, .int .u32 0, .int .i64 0, .int .i64 2, .int .i64 2, .int .i64 0, .int .u32 2])))], []⟩ ?_))
 refine then_le (s' := ⟨36, [(1, sL 5 c_TEdge ([(⟨0, 1, 1, (⟨0, 1⟩ : THop)⟩ : TEdge), (⟨1, 2, 1, (⟨0, 0⟩ : THop)⟩ : TEdge), (⟨0, 2, 2, (⟨0, 2⟩ : THop)⟩ : TEdge)] : List TEdge))], []⟩) (le_sub (.cons (sub_sl rfl (fun i hi => match i, hi with | 0, _ => rfl | 1, _ => rfl | 2, _ => rfl | n + 3, h => absurd h (by omega))) .nil) .nil) ?_
 refine awp_seq ?_
 obtain ⟨r1, q1, h2⟩ := bind_some h
 obtain ⟨r2, q3, h4⟩ := bind_some h2
 refine rg [.pure (sL 1 (ci .i64) r1), .pure (sL 1 (cl 2 c_THop) r2)] [2, 3] 0 ⟨36, [(2, sL 1 (ci .i64) r1), (3, sL 1 (cl 2 c_THop) r2)], []⟩ [] [⟨true, 11, [.int .i64 4, sL 5 c_TEdge ([(⟨0, 1, 1, (⟨0, 1⟩ : THop)⟩ : TEdge), (⟨1, 2, 1, (⟨0, 0⟩ : THop)⟩ : TEdge), (⟨0, 2, 2, (⟨0, 2⟩ : THop)⟩ : TEdge)] : List TEdge), .int .i64 0], .pure (sL 1 (ci .i64) r1)⟩, ⟨true, 14, [.int .i64 4, sL 5 c_TEdge ([(⟨0, 1, 1, (⟨0, 1⟩ : THop)⟩ : TEdge), (⟨1, 2, 1, (⟨0, 0⟩ : THop)⟩ : TEdge), (⟨0, 2, 2, (⟨0, 2⟩ : THop)⟩ : TEdge)] : List TEdge), .int .i64 0], .pure (sL 1 (cl 2 c_THop) r2)⟩] nil_all ⟨fun _ => spf_Distances_ok 4 ([(⟨0, 1, 1, (⟨0, 1⟩ : THop)⟩ : TEdge), (⟨1, 2, 1, (⟨0, 0⟩ : THop)⟩ : TEdge), (⟨0, 2, 2, (⟨0, 2⟩ : THop)⟩ : TEdge)] : List TEdge) 0 r1 q1, fun _ => spf_Hops_ok 4 ([(⟨0, 1, 1, (⟨0, 1⟩ : THop)⟩ : TEdge), (⟨1, 2, 1, (⟨0, 0⟩ : THop)⟩ : TEdge), (⟨0, 2, 2, (⟨0, 2⟩ : THop)⟩ : TEdge)] : List TEdge) 0 r2 q3, trivial⟩ ?_
 refine then_n (awp_seq ?_)
 obtain ⟨r3, q5, h6⟩ := bind_some h4
 obtain ⟨c7, h8⟩ := gd_some h6
 refine rg [.pure (.bool r3)] [0] 0 ⟨36, [(0, .bool (((r3 && ((r2.length : Int) == 4)) && (((r2.getD (2 : Int).toNat default).length : Int) == 2)) && (((r2.getD (0 : Int).toNat default).length : Int) == 0)))], []⟩ [guardB (r3 && ((r2.length : Int) == 4)) (decide (0 ≤ 2)), guardB (r3 && ((r2.length : Int) == 4)) (decide (2 < (r2.length : Int))), guardB ((r3 && ((r2.length : Int) == 4)) && (((r2.getD (2 : Int).toNat default).length : Int) == 2)) (decide (0 ≤ 0)), guardB ((r3 && ((r2.length : Int) == 4)) && (((r2.getD (2 : Int).toNat default).length : Int) == 2)) (decide (0 < (r2.length : Int)))] [⟨true, 10, [sL 1 (ci .i64) r1, .sl false 1 4 (fun i => List.take 1 (List.drop (i * 1) [.int .i64 0, .int .i64 1, .int .i64 2, .int .i64 (-1)]))], .pure (.bool r3)⟩] c7 ⟨fun _ => (keep_Ints_ok r1 ([0, 1, 2, (-1)] : List Int) r3 q5).args (.cons ASub.rfl (.cons (asub_sl rfl (fun i hi => match i, hi with | 0, _ => rfl | 1, _ => rfl | 2, _ => rfl | 3, _ => rfl | n + 4, h => absurd h (by omega))) .nil)), trivial⟩ ?_
 refine then_n (awp_ret ?_)
 obtain rfl := Option.some.inj h8
 exact er0 (.bool (((r3 && ((r2.length : Int) == 4)) && (((r2.getD (2 : Int).toNat default).length : Int) == 2)) && (((r2.getD (0 : Int).toNat default).length : Int) == 0)))
theorem law15_SpfReverse_ok (a0 : Int) (a1 : List TEdge) (a2 : Int) (a3 : Int) (r : Bool) (h : M.law15_SpfReverse a0 a1 a2 a3 = some r) : Fn Try.prog 6 [.int .i64 a0, sL 5 c_TEdge a1, .int .i64 a2, .int .i64 a3] (.pure (.bool r)) := by
 unfold M.law15_SpfReverse at h
 refine fn_pure Try.func6 rfl (by kernel_rfl) ?_
 refine awp_seq (rg0 [0, 1, 2, 3] 0 ⟨94, [(0, .int .i64 a0), (1, sL 5 c_TEdge a1), (2, .int .i64 a2), (3, .int .i64 a3)], []⟩ ?_)
 refine then_n (awp_seq (awp_seq ?_))
 obtain ⟨r1, q1, h2⟩ := bind_some h
 refine rg [.pure (.bool r1)] [0, 1, 2, 3, 35] 0 ⟨94, [(0, .int .i64 a0), (1, sL 5 c_TEdge a1), (2, .int .i64 a2), (3, .int .i64 a3), (35, .bool (((((!r1) || (decide (a2 < 0))) || (decide (a2 ≥ a0))) || (decide (a3 < 0))) || (decide (a3 ≥ a0))))], []⟩ [] [⟨true, 9, [.int .i64 a0, sL 5 c_TEdge a1], .pure (.bool r1)⟩] nil_all ⟨fun _ => law15_few_ok a0 a1 r1 q1, trivial⟩ ?_
 refine then_n ?_
 refine cnd (((((!r1) || (decide (a2 < 0))) || (decide (a2 ≥ a0))) || (decide (a3 < 0))) || (decide (a3 ≥ a0))) (fun b3 => ?_) (fun b3 => ?_)
 have h4 := cond_t b3 h2
 refine awp_seq (rg0 [8] 0 ⟨94, [(8, .bool true)], []⟩ ?_)
 refine then_n (awp_ret (then_r ?_))
 obtain rfl := Option.some.inj h4
 exact er0 (.bool true)
 have h5 := cond_f b3 h2
 refine awp_skip (then_n (awp_seq (rg0 [0, 1, 2, 3, 9] 0 ⟨94, [(0, .int .i64 a0), (1, sL 5 c_TEdge a1), (2, .int .i64 a2), (3, .int .i64 a3), (9, .sl true 5 0 (fun _ => []))], []⟩ ?_)))
 refine then_n (awp_seq (awp_seq (rg0 [0, 1, 2, 3, 9, 10] 0 ⟨94, [(0, .int .i64 a0), (1, sL 5 c_TEdge a1), (2, .int .i64 a2), (3, .int .i64 a3), (9, .sl true 5 0 (fun _ => [])), (10, .int .i64 0)], []⟩ ?_)))
 refine then_n (awp_block ?_)
 refine awp_le (s' := ⟨94, [(0, .int .i64 a0), (1, sL 5 c_TEdge a1), (2, .int .i64 a2), (3, .int .i64 a3), (9, .sl true 5 0 (fun _ => [])), (10, .int .i64 0)], []⟩) (le_rfl) ?_
 refine awp_le (s' := ⟨94, [(0, .int .i64 a0), (1, sL 5 c_TEdge a1), (2, .int .i64 a2), (3, .int .i64 a3), (9, .asl 0 0 (([] : List TEdge).length)), (10, .int .i64 0)], [aL 5 c_TEdge ([] : List TEdge)]⟩) (Le.trans (s' := ⟨94, (9, .asl 0 0 0) :: [(0, .int .i64 a0), (1, sL 5 c_TEdge a1), (2, .int .i64 a2), (3, .int .i64 a3), (9, .sl true 5 0 (fun _ => [])), (10, .int .i64 0)], [] ++ [.arr 5 0 (fun i => c_TEdge (([] : List TEdge).getD i default))]⟩) (le_thaw (wd := 5) (f := fun _ => []) 9 (by kernel_rfl) _ _) (kp [0, 1, 2, 3, 9, 10])) ?_
 obtain ⟨y4, q16, h17⟩ := bind_some h5
 refine awp_le (s' := ⟨94, [(0, .int .i64 a0), (1, sL 5 c_TEdge a1), (2, .int .i64 a2), (3, .int .i64 a3), (9, .asl 0 0 (([] : List TEdge).length)), (10, .int .i64 0)], [aL 5 c_TEdge ([] : List TEdge)]⟩) (le_rfl) ?_
 refine awp_mono (awp_loop (f := M.law15_SpfReverse_l1 a1) (S := fun (p2 : (List TEdge) × Int) => ⟨94, [(0, .int .i64 a0), (1, sL 5 c_TEdge a1), (2, .int .i64 a2), (3, .int .i64 a3), (9, .asl 0 0 p2.1.length), (10, .int .i64 p2.2)], [aL 5 c_TEdge p2.1]⟩) (O := (fun z => OutE 0 (fun z => ⟨94, [(0, .int .i64 a0), (1, sL 5 c_TEdge a1), (2, .int .i64 a2), (3, .int .i64 a3), (9, .asl 0 0 z.length)], [aL 5 c_TEdge z]⟩) z)) ?_ (x := (([] : List TEdge), 0)) (y := y4) (loopM_iter q16)) ?_
 intro p2 y3 h6
 unfold M.law15_SpfReverse_l1 at h6
 refine awp_seq (awp_seq (rg0 [0, 1, 2, 3, 9, 10, 39] 1 ⟨94, [(0, .int .i64 a0), (1, sL 5 c_TEdge a1), (2, .int .i64 a2), (3, .int .i64 a3), (9, .asl 0 0 p2.1.length), (10, .int .i64 p2.2), (39, .bool (decide (p2.2 < (a1.length : Int))))], [aL 5 c_TEdge p2.1]⟩ ?_))
 refine then_n ?_
 refine cnd (decide (p2.2 < (a1.length : Int))) (fun b7 => ?_) (fun b7 => ?_)
 have h8 := cond_t b7 h6
 refine awp_skip (then_n (awp_seq (awp_block (awp_seq ?_))))
 obtain ⟨c10, h11⟩ := gd_some h8
 refine rgc [0, 1, 2, 3, 9, 10, 11] 2 ⟨94, [(0, .int .i64 a0), (1, sL 5 c_TEdge a1), (2, .int .i64 a2), (3, .int .i64 a3), (9, .asl 0 0 p2.1.length), (10, .int .i64 p2.2), (11, .ref 1 0)], [aL 5 c_TEdge p2.1, .box (c_TEdge (a1.getD p2.2.toNat default))]⟩ [decide (0 ≤ p2.2), decide (p2.2 < (a1.length : Int))] c10 ?_
 refine then_n (awp_seq ?_)
 obtain ⟨c12, h13⟩ := gd_some h11
 refine rgq [2, 4, 7, 9] [] [0, 1, 2, 3, 9, 10, 11] 2 ⟨94, [(0, .int .i64 a0), (1, sL 5 c_TEdge a1), (2, .int .i64 a2), (3, .int .i64 a3), (9, .asl 0 0 p2.1.length), (10, .int .i64 p2.2), (11, .ref 1 0)], [aL 5 c_TEdge p2.1, .box [.int .i64 ((a1.getD p2.2.toNat default).fTo), .int .i64 ((a1.getD p2.2.toNat default).fFrom), .int .i64 ((a1.getD p2.2.toNat default).fCost), .int .i64 (((a1.getD p2.2.toNat default).fHop).fIface), .int .u32 (((a1.getD p2.2.toNat default).fHop).fAddr)]]⟩ [decide (0 ≤ p2.2), decide (p2.2 < (a1.length : Int)), decide (0 ≤ p2.2), decide (p2.2 < (a1.length : Int))] [] c12 trivial ?_
 refine then_n ?_
 obtain ⟨c14, h15⟩ := gd_some h13
 refine rgc [0, 1, 2, 3, 9, 10] 1 ⟨94, [(0, .int .i64 a0), (1, sL 5 c_TEdge a1), (2, .int .i64 a2), (3, .int .i64 a3), (9, .asl 0 0 (p2.1.length + 1)), (10, .int .i64 p2.2)], [.arr 5 (p2.1.length + 1) (app (fun i => c_TEdge (p2.1.getD i default)) p2.1.length (fun i => List.take 5 (List.drop (i * 5) [.int .i64 ((a1.getD p2.2.toNat default).fTo), .int .i64 ((a1.getD p2.2.toNat default).fFrom), .int .i64 ((a1.getD p2.2.toNat default).fCost), .int .i64 (((a1.getD p2.2.toNat default).fHop).fIface), .int .u32 (((a1.getD p2.2.toNat default).fHop).fAddr)])))]⟩ [decide ((p2.1.length + 1) * 40 ≤ 140737488355328)] c14 ?_
 refine inb_n ?_
 refine then_le (s' := ⟨94, [(0, .int .i64 a0), (1, sL 5 c_TEdge a1), (2, .int .i64 a2), (3, .int .i64 a3), (9, .asl 0 0 ((p2.1 ++ [(⟨(a1.getD p2.2.toNat default).fTo, (a1.getD p2.2.toNat default).fFrom, (a1.getD p2.2.toNat default).fCost, (a1.getD p2.2.toNat default).fHop⟩ : TEdge)]).length)), (10, .int .i64 p2.2)], [aL 5 c_TEdge (p2.1 ++ [(⟨(a1.getD p2.2.toNat default).fTo, (a1.getD p2.2.toNat default).fFrom, (a1.getD p2.2.toNat default).fCost, (a1.getD p2.2.toNat default).fHop⟩ : TEdge)])]⟩) (le_sub (.cons Sub.rfl (.cons Sub.rfl (.cons Sub.rfl (.cons Sub.rfl (.cons (asl_len (len_snoc _ _)) (.cons Sub.rfl .nil)))))) (.cons (.arr (len_snoc _ _) (app_snoc c_TEdge p2.1 (⟨(a1.getD p2.2.toNat default).fTo, (a1.getD p2.2.toNat default).fFrom, (a1.getD p2.2.toNat default).fCost, (a1.getD p2.2.toNat default).fHop⟩ : TEdge) _ rfl)) .nil)) ?_
 refine rg0 [0, 1, 2, 3, 9, 10] 1 ⟨94, [(0, .int .i64 a0), (1, sL 5 c_TEdge a1), (2, .int .i64 a2), (3, .int .i64 a3), (9, .asl 0 0 ((p2.1 ++ [(⟨(a1.getD p2.2.toNat default).fTo, (a1.getD p2.2.toNat default).fFrom, (a1.getD p2.2.toNat default).fCost, (a1.getD p2.2.toNat default).fHop⟩ : TEdge)]).length)), (10, .int .i64 (wr .i64 (p2.2 + 1)))], [aL 5 c_TEdge (p2.1 ++ [(⟨(a1.getD p2.2.toNat default).fTo, (a1.getD p2.2.toNat default).fFrom, (a1.getD p2.2.toNat default).fCost, (a1.getD p2.2.toNat default).fHop⟩ : TEdge)])]⟩ ?_
 obtain rfl := Option.some.inj h15
 exact round_n (le_rfl)
 have h9 := cond_f b7 h6
 refine awp_exit (then_e ?_)
 obtain rfl := Option.some.inj h9
 exact round_e ⟨rfl, kp [0, 1, 2, 3, 9]⟩
 intro e18 s19 o20
 obtain ⟨rfl, l21⟩ := o20
 refine inb_here ?_
 refine then_le (s' := ⟨94, [(0, .int .i64 a0), (1, sL 5 c_TEdge a1), (2, .int .i64 a2), (3, .int .i64 a3), (9, .asl 0 0 y4.length)], [aL 5 c_TEdge y4]⟩) (l21) ?_
 refine awp_seq ?_
 refine awp_le (s' := ⟨94, [(0, .int .i64 a0), (1, sL 5 c_TEdge a1), (2, .int .i64 a2), (3, .int .i64 a3), (9, sL 5 c_TEdge y4)], [aL 5 c_TEdge ([] : List TEdge)]⟩) (Le.trans (le_frz 9 0 5 c_TEdge y4 (fun i => c_TEdge (([] : List TEdge).getD i default)) (by kernel_rfl) (by kernel_rfl) (by kernel_rfl)) (kp [0, 1, 2, 3, 9])) ?_
 obtain ⟨r5, q22, h23⟩ := bind_some h17
 obtain ⟨r6, q24, h25⟩ := bind_some h23
 refine rg [.pure (sL 1 (ci .i64) r5), .pure (sL 1 (ci .i64) r6)] [0, 2, 3, 12, 13] 0 ⟨94, [(0, .int .i64 a0), (2, .int .i64 a2), (3, .int .i64 a3), (12, sL 1 (ci .i64) r5), (13, sL 1 (ci .i64) r6)], []⟩ [] [⟨true, 11, [.int .i64 a0, sL 5 c_TEdge a1, .int .i64 a2], .pure (sL 1 (ci .i64) r5)⟩, ⟨true, 11, [.int .i64 a0, sL 5 c_TEdge y4, .int .i64 a3], .pure (sL 1 (ci .i64) r6)⟩] nil_all ⟨fun _ => spf_Distances_ok a0 a1 a2 r5 q22, fun _ => spf_Distances_ok a0 y4 a3 r6 q24, trivial⟩ ?_
 refine then_n (awp_seq ?_)
 obtain ⟨r7, q26, h27⟩ := bind_some h25
 obtain ⟨c28, h29⟩ := gd_some h27
 refine rg [.pure (.bool r7)] [8] 0 ⟨94, [(8, .bool (((((r5.length : Int) == a0) && ((r6.length : Int) == a0)) && ((r5.getD a3.toNat default) == (r6.getD a2.toNat default))) && r7))], []⟩ [guardB (((r5.length : Int) == a0) && ((r6.length : Int) == a0)) (decide (0 ≤ a3)), guardB (((r5.length : Int) == a0) && ((r6.length : Int) == a0)) (decide (a3 < (r5.length : Int))), guardB (((r5.length : Int) == a0) && ((r6.length : Int) == a0)) (decide (0 ≤ a2)), guardB (((r5.length : Int) == a0) && ((r6.length : Int) == a0)) (decide (a2 < (r6.length : Int)))] [⟨(((r5.length : Int) == a0) && ((r6.length : Int) == a0)) && ((r5.getD a3.toNat default) == (r6.getD a2.toNat default)), 13, [], .pure (.bool r7)⟩] c28 ⟨fun hg => law15_sane_ok  r7 (gc_some q26 hg), trivial⟩ ?_
 refine then_n (awp_ret ?_)
 obtain rfl := Option.some.inj h29
 exact er0 (.bool (((((r5.length : Int) == a0) && ((r6.length : Int) == a0)) && ((r5.getD a3.toNat default) == (r6.getD a2.toNat default))) && r7))
end Nv
