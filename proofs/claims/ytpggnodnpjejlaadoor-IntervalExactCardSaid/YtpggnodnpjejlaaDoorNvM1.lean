/- The walks: each function computes its mirror. -/
import Derived.Test.YtpggnodnpjejlaaDoorProg
import Derived.Test.YtpggnodnpjejlaaDoorNvD1
import Derived.Test.YtpggnodnpjejlaaDoorNvLibC
import Derived.KernelRfl
import Derived.Ground.Names7Prog
import Derived.Ground.SlsfProg
import Derived.Shelf.Lay
set_option maxRecDepth 100000
namespace Nv
open Go Go.Proofs
/- netverify/netverifylaw3.few -/
theorem law3_few_ok (a0 : List TInterval) (a1 : List TInterval) (r : Bool) (h : M.law3_few a0 a1 = some r) : Fn Tryd.prog 11 [sL 2 c_TInterval a0, sL 2 c_TInterval a1] (.pure (.bool r)) := by
 unfold M.law3_few at h
 refine fn_pure Tryd.func11 rfl (by kernel_rfl) ?_
 refine awp_seq (rg0 [0, 1] 0 ⟨13, [(0, sL 2 c_TInterval a0), (1, sL 2 c_TInterval a1)], []⟩ ?_)
 refine then_n (awp_seq (rg0 [4] 0 ⟨13, [(4, .bool ((decide ((a0.length : Int) ≤ 30)) && (decide ((a1.length : Int) ≤ 30))))], []⟩ ?_))
 refine then_n (awp_ret ?_)
 obtain rfl := Option.some.inj h
 exact er0 (.bool ((decide ((a0.length : Int) ≤ 30)) && (decide ((a1.length : Int) ≤ 30))))

/- slices.Grow[[]netverify/api.Interval,netverify/api.Interval] -/
set_option maxHeartbeats 4000000 in
theorem slices_Grow_api_Interval_api_Interval_c (n : Nat) (hn : n * 8 ≤ 140737488355328) : GrowCalls Tryd.prog 54 2 (n : Int) := by
 intro w
 by_cases h0 : n = 0
 · subst h0
   go_enter Tryd.func54, Tryd.ntmps54
   go_wp2
   go_ret
   exact .inl ⟨rfl, rfl⟩
 · obtain ⟨i, z, hi, hz, hs, hb, hc⟩ : ∃ i z, Tryd.prog.info? 45 = some i ∧ i.zero = some z ∧ i.size = 2 ∧ i.bytes = 8 ∧ z.cells.size = 2 := ⟨_, _, rfl, rfl, by kernel_rfl, by kernel_rfl, by kernel_rfl⟩
   have happ := Lib.run_append_nil_zeros (P := Tryd.prog) w 22 3 22 45 i z .i64 .i64 Tryd.underlying22 Tryd.underlying3 hi hz n (by omega) (by omega) (by omega) (by rw [hb]; omega)
   have hcapge : n ≤ grownCap w n 0 45 := grownCap_ge w _ 0 45
   generalize grownCap w n 0 45 = cap2 at happ hcapge
   generalize hZ : (Builtin.zeroCells z.cells n ++ Builtin.zeroCells z.cells (cap2 - n)) = Z at happ
   have hZs : Z.size = cap2 * 2 := by rw [← hZ]; simp [size_zeroCells, hc]; omega
   clear hZ
   go_enter Tryd.func54, Tryd.ntmps54
   go_wp2_with (at_builtin; refine Lib.wpList_append_run _ rfl _ _ _ _ rfl _ _ rfl rfl _ _ happ ?_)
   go_ret
   exact .inr ⟨cap2, Z, 45, rfl, rfl, by omega⟩
theorem slices_Grow_api_Interval_api_Interval_own (a0 : List TInterval) (a1 : Int) (r : List TInterval) (h : M.slices_Grow_api_Interval_api_Interval a0 a1 = some r) : Fn Tryd.prog 54 [.nils, .int .i64 a1] (oL 2 c_TInterval r) := by
 unfold M.slices_Grow_api_Interval_api_Interval at h
 obtain ⟨hc, h1⟩ := gd_some h
 obtain rfl := Option.some.inj h1
 have h2 := of_decide_eq_true (hc _ List.mem_cons_self)
 have h3 := of_decide_eq_true (hc _ (List.mem_cons_of_mem _ List.mem_cons_self))
 obtain ⟨n, rfl⟩ : ∃ n : Nat, a1 = n := ⟨a1.toNat, by omega⟩
 exact grow_fn (slices_Grow_api_Interval_api_Interval_c n (by omega)) _

/- slices.Concat[[]netverify/api.Interval,netverify/api.Interval] -/
theorem slices_Concat_api_Interval_api_Interval_ok (a0 : List (List TInterval)) (r : (List TInterval)) (h : M.slices_Concat_api_Interval_api_Interval a0 = some r) : Fn Tryd.prog 47 [sL 1 (cl 2 c_TInterval) a0] (.pure (sL 2 c_TInterval r)) := by
 unfold M.slices_Concat_api_Interval_api_Interval at h
 refine fn_pure Tryd.func47 rfl (by kernel_rfl) ?_
 refine awp_seq (rg0 [0] 0 ⟨36, [(0, sL 1 (cl 2 c_TInterval) a0)], []⟩ ?_)
 refine then_n (awp_seq (rg0 [0, 3] 0 ⟨36, [(0, sL 1 (cl 2 c_TInterval) a0), (3, .int .i64 0)], []⟩ ?_))
 refine then_n (awp_seq (awp_seq (rg0 [0, 3, 9, 10, 11] 0 ⟨36, [(0, sL 1 (cl 2 c_TInterval) a0), (3, .int .i64 0), (9, sL 1 (cl 2 c_TInterval) a0), (10, .int .i64 (a0.length : Int)), (11, .int .i64 0)], []⟩ ?_)))
 refine then_n (awp_block ?_)
 obtain ⟨y4, q12, h13⟩ := bind_some h
 refine awp_le (s' := ⟨36, [(0, sL 1 (cl 2 c_TInterval) a0), (3, .int .i64 0), (9, sL 1 (cl 2 c_TInterval) a0), (10, .int .i64 (a0.length : Int)), (11, .int .i64 0)], []⟩) (le_rfl) ?_
 refine awp_mono (awp_loop (f := M.slices_Concat_api_Interval_api_Interval_l1 a0) (S := fun (p1 : Int × Int) => ⟨36, [(0, sL 1 (cl 2 c_TInterval) a0), (3, .int .i64 p1.1), (9, sL 1 (cl 2 c_TInterval) a0), (10, .int .i64 (a0.length : Int)), (11, .int .i64 p1.2)], []⟩) (O := (fun z => OutE 0 (fun z => ⟨36, [(0, sL 1 (cl 2 c_TInterval) a0), (3, .int .i64 z)], []⟩) z)) ?_ (x := (0, 0)) (y := y4) (loopM_iter q12)) ?_
 intro p1 y2 h1
 unfold M.slices_Concat_api_Interval_api_Interval_l1 at h1
 refine awp_seq (rg0 [0, 3, 9, 10, 11, 12] 0 ⟨36, [(0, sL 1 (cl 2 c_TInterval) a0), (3, .int .i64 p1.1), (9, sL 1 (cl 2 c_TInterval) a0), (10, .int .i64 (a0.length : Int)), (11, .int .i64 p1.2), (12, .bool (decide (p1.2 < (a0.length : Int))))], []⟩ ?_)
 refine then_n (awp_seq ?_)
 refine cnd (decide (p1.2 < (a0.length : Int))) (fun b2 => ?_) (fun b2 => ?_)
 have h3 := cond_t b2 h1
 refine awp_skip (then_n ?_)
 refine awp_join (fun (p3 : Unit) => ⟨36, [(0, sL 1 (cl 2 c_TInterval) a0), (3, .int .i64 (wr .i64 (p1.1 + ((a0.getD p1.2.toNat default).length : Int)))), (9, sL 1 (cl 2 c_TInterval) a0), (10, .int .i64 (a0.length : Int)), (11, .int .i64 p1.2)], []⟩) (fun p3 => M.slices_Concat_api_Interval_api_Interval_k1 a0 p1 p3 = some y2) ?_ ?_
 intro p3 h6
 unfold M.slices_Concat_api_Interval_api_Interval_k1 at h6
 refine rg0 [0, 3, 9, 10, 11] 0 ⟨36, [(0, sL 1 (cl 2 c_TInterval) a0), (3, .int .i64 (wr .i64 (p1.1 + ((a0.getD p1.2.toNat default).length : Int)))), (9, sL 1 (cl 2 c_TInterval) a0), (10, .int .i64 (a0.length : Int)), (11, .int .i64 (wr .i64 (p1.2 + 1)))], []⟩ ?_
 obtain rfl := Option.some.inj h6
 exact round_n (le_rfl)
 intro k5
 refine awp_block (awp_seq ?_)
 obtain ⟨c7, h8⟩ := gd_some h3
 refine rgc [0, 3, 5, 9, 10, 11] 0 ⟨36, [(0, sL 1 (cl 2 c_TInterval) a0), (3, .int .i64 p1.1), (5, sL 2 c_TInterval (a0.getD p1.2.toNat default)), (9, sL 1 (cl 2 c_TInterval) a0), (10, .int .i64 (a0.length : Int)), (11, .int .i64 p1.2)], []⟩ [decide (0 ≤ p1.2), decide (p1.2 < (a0.length : Int))] c7 ?_
 refine then_n (awp_seq (rg0 [0, 3, 9, 10, 11] 0 ⟨36, [(0, sL 1 (cl 2 c_TInterval) a0), (3, .int .i64 (wr .i64 (p1.1 + ((a0.getD p1.2.toNat default).length : Int)))), (9, sL 1 (cl 2 c_TInterval) a0), (10, .int .i64 (a0.length : Int)), (11, .int .i64 p1.2)], []⟩ ?_))
 refine then_n (awp_seq (rg0 [0, 3, 9, 10, 11, 20] 0 ⟨36, [(0, sL 1 (cl 2 c_TInterval) a0), (3, .int .i64 (wr .i64 (p1.1 + ((a0.getD p1.2.toNat default).length : Int)))), (9, sL 1 (cl 2 c_TInterval) a0), (10, .int .i64 (a0.length : Int)), (11, .int .i64 p1.2), (20, .bool (decide ((wr .i64 (p1.1 + ((a0.getD p1.2.toNat default).length : Int))) < 0)))], []⟩ ?_))
 refine then_n ?_
 refine cnd (decide ((wr .i64 (p1.1 + ((a0.getD p1.2.toNat default).length : Int))) < 0)) (fun b9 => ?_) (fun b9 => ?_)
 have h10 := cond_t b9 h8
 cases h10
 have h11 := cond_f b9 h8
 refine awp_skip (inb_n ?_)
 exact then_le (kp [0, 3, 9, 10, 11]) (k5 () h11)
 have h4 := cond_f b2 h1
 refine awp_exit (then_e ?_)
 obtain rfl := Option.some.inj h4
 exact round_e ⟨rfl, kp [0, 3]⟩
 intro e14 s15 o16
 obtain ⟨rfl, l17⟩ := o16
 refine inb_here ?_
 refine then_le (s' := ⟨36, [(0, sL 1 (cl 2 c_TInterval) a0), (3, .int .i64 y4)], []⟩) (l17) ?_
 refine awp_seq ?_
 obtain ⟨r5, q18, h19⟩ := bind_some h13
 refine rg [oL 2 c_TInterval r5] [0, 6] 1 ⟨36, [(0, sL 1 (cl 2 c_TInterval) a0), (6, .asl 0 0 r5.length)], [aL 2 c_TInterval r5]⟩ [] [⟨true, 54, [.nils, .int .i64 y4], oL 2 c_TInterval r5⟩] nil_all ⟨fun _ => slices_Grow_api_Interval_api_Interval_own ([] : List TInterval) y4 r5 q18, trivial⟩ ?_
 refine then_n (awp_seq (awp_seq (rg0 [6, 25, 26, 27] 1 ⟨36, [(6, .asl 0 0 r5.length), (25, sL 1 (cl 2 c_TInterval) a0), (26, .int .i64 (a0.length : Int)), (27, .int .i64 0)], [aL 2 c_TInterval r5]⟩ ?_)))
 refine then_n (awp_block ?_)
 obtain ⟨y8, q28, h29⟩ := bind_some h19
 refine awp_le (s' := ⟨36, [(6, .asl 0 0 r5.length), (25, sL 1 (cl 2 c_TInterval) a0), (26, .int .i64 (a0.length : Int)), (27, .int .i64 0)], [aL 2 c_TInterval r5]⟩) (le_rfl) ?_
 refine awp_mono (awp_loop (f := M.slices_Concat_api_Interval_api_Interval_l2 a0) (S := fun (p6 : (List TInterval) × Int) => ⟨36, [(6, .asl 0 0 p6.1.length), (25, sL 1 (cl 2 c_TInterval) a0), (26, .int .i64 (a0.length : Int)), (27, .int .i64 p6.2)], [aL 2 c_TInterval p6.1]⟩) (O := (fun z => OutE 2 (fun z => ⟨36, [(6, .asl 0 0 z.length)], [aL 2 c_TInterval z]⟩) z)) ?_ (x := (r5, 0)) (y := y8) (loopM_iter q28)) ?_
 intro p6 y7 h20
 unfold M.slices_Concat_api_Interval_api_Interval_l2 at h20
 refine awp_seq (rg0 [6, 25, 26, 27, 28] 1 ⟨36, [(6, .asl 0 0 p6.1.length), (25, sL 1 (cl 2 c_TInterval) a0), (26, .int .i64 (a0.length : Int)), (27, .int .i64 p6.2), (28, .bool (decide (p6.2 < (a0.length : Int))))], [aL 2 c_TInterval p6.1]⟩ ?_)
 refine then_n (awp_seq ?_)
 refine cnd (decide (p6.2 < (a0.length : Int))) (fun b21 => ?_) (fun b21 => ?_)
 have h22 := cond_t b21 h20
 refine awp_skip (then_n (awp_seq (awp_block (awp_seq ?_))))
 obtain ⟨c24, h25⟩ := gd_some h22
 refine rgc [6, 8, 25, 26, 27] 1 ⟨36, [(6, .asl 0 0 p6.1.length), (8, sL 2 c_TInterval (a0.getD p6.2.toNat default)), (25, sL 1 (cl 2 c_TInterval) a0), (26, .int .i64 (a0.length : Int)), (27, .int .i64 p6.2)], [aL 2 c_TInterval p6.1]⟩ [decide (0 ≤ p6.2), decide (p6.2 < (a0.length : Int))] c24 ?_
 refine then_n ?_
 obtain ⟨c26, h27⟩ := gd_some h25
 refine rgc [6, 25, 26, 27] 1 ⟨36, [(6, .asl 0 0 (p6.1.length + ((a0.getD p6.2.toNat default).length))), (25, sL 1 (cl 2 c_TInterval) a0), (26, .int .i64 (a0.length : Int)), (27, .int .i64 p6.2)], [.arr 2 (p6.1.length + ((a0.getD p6.2.toNat default).length)) (app (fun i => c_TInterval (p6.1.getD i default)) p6.1.length (fun i => c_TInterval ((a0.getD p6.2.toNat default).getD i default)))]⟩ [decide ((p6.1.length + ((a0.getD p6.2.toNat default).length)) * 8 ≤ 140737488355328)] c26 ?_
 refine inb_n ?_
 refine then_le (s' := ⟨36, [(6, .asl 0 0 ((p6.1 ++ (a0.getD p6.2.toNat default)).length)), (25, sL 1 (cl 2 c_TInterval) a0), (26, .int .i64 (a0.length : Int)), (27, .int .i64 p6.2)], [aL 2 c_TInterval (p6.1 ++ (a0.getD p6.2.toNat default))]⟩) (le_sub (.cons (asl_len (len_app _ _)) (.cons Sub.rfl (.cons Sub.rfl (.cons Sub.rfl .nil)))) (.cons (.arr (len_app _ _) (app_list c_TInterval p6.1 (a0.getD p6.2.toNat default) _ (fun _ _ => rfl))) .nil)) ?_
 refine rg0 [6, 25, 26, 27] 1 ⟨36, [(6, .asl 0 0 ((p6.1 ++ (a0.getD p6.2.toNat default)).length)), (25, sL 1 (cl 2 c_TInterval) a0), (26, .int .i64 (a0.length : Int)), (27, .int .i64 (wr .i64 (p6.2 + 1)))], [aL 2 c_TInterval (p6.1 ++ (a0.getD p6.2.toNat default))]⟩ ?_
 obtain rfl := Option.some.inj h27
 exact round_n (le_rfl)
 have h23 := cond_f b21 h20
 refine awp_exit (then_e ?_)
 obtain rfl := Option.some.inj h23
 exact round_e ⟨rfl, kp [6]⟩
 intro e30 s31 o32
 obtain ⟨rfl, l33⟩ := o32
 refine inb_here ?_
 refine then_le (s' := ⟨36, [(6, .asl 0 0 y8.length)], [aL 2 c_TInterval y8]⟩) (l33) ?_
 refine awp_seq (rg0 [2] 1 ⟨36, [(2, .asl 0 0 y8.length)], [aL 2 c_TInterval y8]⟩ ?_)
 refine then_n (awp_ret ?_)
 obtain rfl := Option.some.inj h29
 exact er (.sl false 2 y8.length (fun i => c_TInterval (y8.getD (0 + i) default))) sub_asl

/- cmp.isNaN[uint32] -/
theorem cmp_isNaN_uint32_ok (a0 : Int) (r : Bool) (h : M.cmp_isNaN_uint32 a0 = some r) : Fn Tryd.prog 51 [.int .u32 a0] (.pure (.bool r)) := by
 unfold M.cmp_isNaN_uint32 at h
 refine fn_pure Tryd.func51 rfl (by kernel_rfl) ?_
 refine awp_seq (rg0 [0] 0 ⟨6, [(0, .int .u32 a0)], []⟩ ?_)
 refine then_n (awp_seq (rg0 [2] 0 ⟨6, [(2, .bool (a0 != a0))], []⟩ ?_))
 refine then_n (awp_ret ?_)
 obtain rfl := Option.some.inj h
 exact er0 (.bool (a0 != a0))

/- cmp.Compare[uint32] -/
theorem cmp_Compare_uint32_ok (a0 : Int) (a1 : Int) (r : Int) (h : M.cmp_Compare_uint32 a0 a1 = some r) : Fn Tryd.prog 43 [.int .u32 a0, .int .u32 a1] (.pure (.int .i64 r)) := by
 unfold M.cmp_Compare_uint32 at h
 refine fn_pure Tryd.func43 rfl (by kernel_rfl) ?_
 refine awp_seq (rg0 [0, 1] 0 ⟨20, [(0, .int .u32 a0), (1, .int .u32 a1)], []⟩ ?_)
 refine then_n (awp_seq ?_)
 obtain ⟨r1, q1, h2⟩ := bind_some h
 refine rg [.pure (.bool r1)] [0, 1, 5] 0 ⟨20, [(0, .int .u32 a0), (1, .int .u32 a1), (5, .bool r1)], []⟩ [] [⟨true, 51, [.int .u32 a0], .pure (.bool r1)⟩] nil_all ⟨fun _ => cmp_isNaN_uint32_ok a0 r1 q1, trivial⟩ ?_
 refine then_n (awp_seq ?_)
 obtain ⟨r2, q3, h4⟩ := bind_some h2
 refine rg [.pure (.bool r2)] [0, 1, 5, 6] 0 ⟨20, [(0, .int .u32 a0), (1, .int .u32 a1), (5, .bool r1), (6, .bool r2)], []⟩ [] [⟨true, 51, [.int .u32 a1], .pure (.bool r2)⟩] nil_all ⟨fun _ => cmp_isNaN_uint32_ok a1 r2 q3, trivial⟩ ?_
 refine then_n (awp_seq (awp_seq (rg0 [0, 1, 6, 11] 0 ⟨20, [(0, .int .u32 a0), (1, .int .u32 a1), (6, .bool r2), (11, .bool r1)], []⟩ ?_)))
 refine then_n ?_
 refine cnd r1 (fun b5 => ?_) (fun b5 => ?_)
 have h6 := cond_t b5 h4
 refine awp_seq (awp_seq (rg0 [12] 0 ⟨20, [(12, .bool r2)], []⟩ ?_))
 refine then_n ?_
 refine cnd r2 (fun b8 => ?_) (fun b8 => ?_)
 have h9 := cond_t b8 h6
 refine awp_seq (rg0 [4] 0 ⟨20, [(4, .int .i64 0)], []⟩ ?_)
 refine then_n (awp_ret (then_r (then_r ?_)))
 obtain rfl := Option.some.inj h9
 exact er0 (.int .i64 0)
 have h10 := cond_f b8 h6
 refine awp_skip (then_n (awp_seq (rg0 [4] 0 ⟨20, [(4, .int .i64 (-1))], []⟩ ?_)))
 refine then_n (awp_ret (then_r ?_))
 obtain rfl := Option.some.inj h10
 exact er0 (.int .i64 (-1))
 have h7 := cond_f b5 h4
 refine awp_skip (then_n (awp_seq (awp_seq (rg0 [0, 1, 13] 0 ⟨20, [(0, .int .u32 a0), (1, .int .u32 a1), (13, .bool r2)], []⟩ ?_))))
 refine then_n ?_
 refine cnd r2 (fun b11 => ?_) (fun b11 => ?_)
 have h12 := cond_t b11 h7
 refine awp_seq (rg0 [4] 0 ⟨20, [(4, .int .i64 1)], []⟩ ?_)
 refine then_n (awp_ret (then_r ?_))
 obtain rfl := Option.some.inj h12
 exact er0 (.int .i64 1)
 have h13 := cond_f b11 h7
 refine awp_skip (then_n (awp_seq (awp_seq (rg0 [0, 1, 16] 0 ⟨20, [(0, .int .u32 a0), (1, .int .u32 a1), (16, .bool (decide (a0 < a1)))], []⟩ ?_))))
 refine then_n ?_
 refine cnd (decide (a0 < a1)) (fun b14 => ?_) (fun b14 => ?_)
 have h15 := cond_t b14 h13
 refine awp_seq (rg0 [4] 0 ⟨20, [(4, .int .i64 (-1))], []⟩ ?_)
 refine then_n (awp_ret (then_r ?_))
 obtain rfl := Option.some.inj h15
 exact er0 (.int .i64 (-1))
 have h16 := cond_f b14 h13
 refine awp_skip (then_n (awp_seq (awp_seq (rg0 [19] 0 ⟨20, [(19, .bool (decide (a0 > a1)))], []⟩ ?_))))
 refine then_n ?_
 refine cnd (decide (a0 > a1)) (fun b17 => ?_) (fun b17 => ?_)
 have h18 := cond_t b17 h16
 refine awp_seq (rg0 [4] 0 ⟨20, [(4, .int .i64 1)], []⟩ ?_)
 refine then_n (awp_ret (then_r ?_))
 obtain rfl := Option.some.inj h18
 exact er0 (.int .i64 1)
 have h19 := cond_f b17 h16
 refine awp_skip (then_n (awp_seq (rg0 [4] 0 ⟨20, [(4, .int .i64 0)], []⟩ ?_)))
 refine then_n (awp_ret ?_)
 obtain rfl := Option.some.inj h19
 exact er0 (.int .i64 0)

/- netverify/interval.Normalize$1 -/
theorem interval_Normalize_1_ok (a0 : TInterval) (a1 : TInterval) (r : Int) (h : M.interval_Normalize_1 a0 a1 = some r) : Fn Tryd.prog 42 [.agg (c_TInterval a0), .agg (c_TInterval a1)] (.pure (.int .i64 r)) := by
 unfold M.interval_Normalize_1 at h
 refine fn_pure Tryd.func42 rfl (by kernel_rfl) ?_
 refine awp_seq (rg0 [2, 3] 2 ⟨10, [(2, .ref 0 0), (3, .ref 1 0)], [.box (c_TInterval a0), .box (c_TInterval a1)]⟩ ?_)
 refine then_n (awp_seq ?_)
 obtain ⟨r1, q1, h2⟩ := bind_some h
 refine rg [.pure (.int .i64 r1)] [4] 0 ⟨10, [(4, .int .i64 r1)], []⟩ [] [⟨true, 43, [.int .u32 a0.fLo, .int .u32 a1.fLo], .pure (.int .i64 r1)⟩] nil_all ⟨fun _ => cmp_Compare_uint32_ok a0.fLo a1.fLo r1 q1, trivial⟩ ?_
 refine then_n (awp_ret ?_)
 obtain rfl := Option.some.inj h2
 exact er0 (.int .i64 r1)

/- slices.SortFunc[[]netverify/api.Interval,netverify/api.Interval] -/
end Nv
namespace Go.Proofs
open Go.Shelf
shelf_lay_g SlLaysF0.n6 Slsf 6 at Tryd 41 as Tryd.sortL41
end Go.Proofs
namespace Nv
open Go Go.Proofs
theorem slices_SortFunc_api_Interval_api_Interval__interval_Normalize_1_ok (a0 : List TInterval) (r : List TInterval) (h : M.slices_SortFunc_api_Interval_api_Interval__interval_Normalize_1 a0 = some r) : FnM Tryd.prog 41 [.asl 0 0 a0.length, .fn 42 []] 2 a0.length (fun i => c_TInterval (a0.getD i default)) (fun i => c_TInterval (r.getD i default)) (.tup []) := by
 obtain ⟨cf, h1, h2, h3, rfl⟩ := sortM_some h
 exact sortF0 Tryd.sortL41 2 (fun w => by kernel_rfl) (fun w => by kernel_rfl) c_TInterval (fun _ => rfl) (fun _ => rfl) h2 42 (enters_of Tryd.func42 (by kernel_rfl) rfl) (fun x y => interval_Normalize_1_ok x y _ (h1 x y)) a0 h3

/- netverify/interval.Normalize -/
theorem interval_Normalize_ok (a0 : List TInterval) (r : (List TInterval)) (h : M.interval_Normalize a0 = some r) : Fn Tryd.prog 18 [sL 2 c_TInterval a0] (.pure (sL 2 c_TInterval r)) := by
 unfold M.interval_Normalize at h
 refine fn_pure Tryd.func18 rfl (by kernel_rfl) ?_
 refine awp_seq (rg0 [0] 0 ⟨73, [(0, sL 2 c_TInterval a0)], []⟩ ?_)
 refine then_n (awp_seq ?_)
 obtain ⟨c1, h2⟩ := gd_some h
 refine rgc [0, 3] 1 ⟨73, [(0, sL 2 c_TInterval a0), (3, .asl 0 0 ((0 : Int).toNat))], [.arr 2 ((0 : Int).toNat) (fun _ => [.int .u32 0, .int .u32 0])]⟩ [decide (0 ≤ 0), decide (0 ≤ (a0.length : Int)), decide ((a0.length : Int).toNat * 8 ≤ 140737488355328), decide ((a0.length : Int).toNat ≤ 140737488355328)] c1 ?_
 refine then_le (s' := ⟨73, [(0, sL 2 c_TInterval a0), (3, .asl 0 0 ((List.replicate ((0 : Int).toNat) (⟨0, 0⟩ : TInterval)).length))], [aL 2 c_TInterval (List.replicate ((0 : Int).toNat) (⟨0, 0⟩ : TInterval))]⟩) (le_sub (.cons Sub.rfl (.cons (asl_len (by simp)) .nil)) (.cons (.arr (by simp) (rep_ext c_TInterval _ (⟨0, 0⟩ : TInterval) _ rfl)) .nil)) ?_
 refine awp_seq (awp_seq (rg0 [3, 13, 14, 15] 1 ⟨73, [(3, .asl 0 0 ((List.replicate ((0 : Int).toNat) (⟨0, 0⟩ : TInterval)).length)), (13, sL 2 c_TInterval a0), (14, .int .i64 (a0.length : Int)), (15, .int .i64 0)], [aL 2 c_TInterval (List.replicate ((0 : Int).toNat) (⟨0, 0⟩ : TInterval))]⟩ ?_))
 refine then_n (awp_block ?_)
 obtain ⟨y4, q16, h17⟩ := bind_some h2
 refine awp_le (s' := ⟨73, [(3, .asl 0 0 ((List.replicate ((0 : Int).toNat) (⟨0, 0⟩ : TInterval)).length)), (13, sL 2 c_TInterval a0), (14, .int .i64 (a0.length : Int)), (15, .int .i64 0)], [aL 2 c_TInterval (List.replicate ((0 : Int).toNat) (⟨0, 0⟩ : TInterval))]⟩) (le_rfl) ?_
 refine awp_mono (awp_loop (f := M.interval_Normalize_l1 a0) (S := fun (p1 : (List TInterval) × Int) => ⟨73, [(3, .asl 0 0 p1.1.length), (13, sL 2 c_TInterval a0), (14, .int .i64 (a0.length : Int)), (15, .int .i64 p1.2)], [aL 2 c_TInterval p1.1]⟩) (O := (fun z => OutE 0 (fun z => ⟨73, [(3, .asl 0 0 z.length)], [aL 2 c_TInterval z]⟩) z)) ?_ (x := (List.replicate ((0 : Int).toNat) (⟨0, 0⟩ : TInterval), 0)) (y := y4) (loopM_iter q16)) ?_
 intro p1 y2 h3
 unfold M.interval_Normalize_l1 at h3
 refine awp_seq (rg0 [3, 13, 14, 15, 16] 1 ⟨73, [(3, .asl 0 0 p1.1.length), (13, sL 2 c_TInterval a0), (14, .int .i64 (a0.length : Int)), (15, .int .i64 p1.2), (16, .bool (decide (p1.2 < (a0.length : Int))))], [aL 2 c_TInterval p1.1]⟩ ?_)
 refine then_n (awp_seq ?_)
 refine cnd (decide (p1.2 < (a0.length : Int))) (fun b4 => ?_) (fun b4 => ?_)
 have h5 := cond_t b4 h3
 refine awp_skip (then_n ?_)
 refine awp_join (fun (p3 : (List TInterval)) => ⟨73, [(3, .asl 0 0 p3.length), (13, sL 2 c_TInterval a0), (14, .int .i64 (a0.length : Int)), (15, .int .i64 p1.2)], [aL 2 c_TInterval p3]⟩) (fun p3 => M.interval_Normalize_k1 p1 p3 = some y2) ?_ ?_
 intro p3 h8
 unfold M.interval_Normalize_k1 at h8
 refine rg0 [3, 13, 14, 15] 1 ⟨73, [(3, .asl 0 0 p3.length), (13, sL 2 c_TInterval a0), (14, .int .i64 (a0.length : Int)), (15, .int .i64 (wr .i64 (p1.2 + 1)))], [aL 2 c_TInterval p3]⟩ ?_
 obtain rfl := Option.some.inj h8
 exact round_n (le_rfl)
 intro k7
 refine awp_block (awp_seq ?_)
 obtain ⟨c9, h10⟩ := gd_some h5
 refine rgc [3, 5, 13, 14, 15] 2 ⟨73, [(3, .asl 0 0 p1.1.length), (5, .ref 1 0), (13, sL 2 c_TInterval a0), (14, .int .i64 (a0.length : Int)), (15, .int .i64 p1.2)], [aL 2 c_TInterval p1.1, .box (c_TInterval (a0.getD p1.2.toNat default))]⟩ [decide (0 ≤ p1.2), decide (p1.2 < (a0.length : Int))] c9 ?_
 refine then_n (awp_seq (rg0 [3, 5, 13, 14, 15, 23] 2 ⟨73, [(3, .asl 0 0 p1.1.length), (5, .ref 1 0), (13, sL 2 c_TInterval a0), (14, .int .i64 (a0.length : Int)), (15, .int .i64 p1.2), (23, .bool (decide (((a0.getD p1.2.toNat default).fLo) ≤ ((a0.getD p1.2.toNat default).fHi))))], [aL 2 c_TInterval p1.1, .box (c_TInterval (a0.getD p1.2.toNat default))]⟩ ?_))
 refine then_n ?_
 refine cnd (decide (((a0.getD p1.2.toNat default).fLo) ≤ ((a0.getD p1.2.toNat default).fHi))) (fun b11 => ?_) (fun b11 => ?_)
 have h12 := cond_t b11 h10
 obtain ⟨c14, h15⟩ := gd_some h12
 refine rgc [3, 13, 14, 15] 1 ⟨73, [(3, .asl 0 0 (p1.1.length + 1)), (13, sL 2 c_TInterval a0), (14, .int .i64 (a0.length : Int)), (15, .int .i64 p1.2)], [.arr 2 (p1.1.length + 1) (app (fun i => c_TInterval (p1.1.getD i default)) p1.1.length (fun i => List.take 2 (List.drop (i * 2) [.int .u32 ((a0.getD p1.2.toNat default).fLo), .int .u32 ((a0.getD p1.2.toNat default).fHi)])))]⟩ [decide ((p1.1.length + 1) * 8 ≤ 140737488355328)] c14 ?_
 refine inb_n ?_
 exact then_le (le_sub (.cons (asl_len (len_snoc _ _)) (.cons Sub.rfl (.cons Sub.rfl (.cons Sub.rfl .nil)))) (.cons (.arr (len_snoc _ _) (app_snoc c_TInterval p1.1 (a0.getD p1.2.toNat default) _ rfl)) .nil)) (k7 (p1.1 ++ [a0.getD p1.2.toNat default]) h15)
 have h13 := cond_f b11 h10
 refine awp_skip (inb_n ?_)
 exact then_le (Le.trans (s' := ⟨73, [(3, .asl 0 0 p1.1.length), (13, sL 2 c_TInterval a0), (14, .int .i64 (a0.length : Int)), (15, .int .i64 p1.2)], [aL 2 c_TInterval p1.1, .box (c_TInterval (a0.getD p1.2.toNat default))]⟩) (kp [3, 13, 14, 15]) (le_cut (n := 1) (by kernel_rfl))) (k7 p1.1 h13)
 have h6 := cond_f b4 h3
 refine awp_exit (then_e ?_)
 obtain rfl := Option.some.inj h6
 exact round_e ⟨rfl, kp [3]⟩
 intro e18 s19 o20
 obtain ⟨rfl, l21⟩ := o20
 refine inb_here ?_
 refine then_le (s' := ⟨73, [(3, .asl 0 0 y4.length)], [aL 2 c_TInterval y4]⟩) (l21) ?_
 refine awp_seq ?_
 obtain ⟨r5, q22, h23⟩ := bind_some h17
 obtain ⟨c24, h25⟩ := gd_some h23
 refine rg [.lnd 0 0 (fun _ => []) (fun i => c_TInterval (r5.getD i default)) (.tup [])] [3] 1 ⟨73, [(3, .asl 0 0 y4.length)], [.arr 2 y4.length (fun i => c_TInterval (r5.getD i default))]⟩ [] [⟨true, 41, [.asl 0 0 y4.length, .fn 42 []], .lnd 2 y4.length (fun i => c_TInterval (y4.getD i default)) (fun i => c_TInterval (r5.getD i default)) (.tup [])⟩] nil_all ⟨fun _ => slices_SortFunc_api_Interval_api_Interval__interval_Normalize_1_ok y4 r5 q22, trivial⟩ ?_
 refine then_le (s' := ⟨73, [(3, .asl 0 0 r5.length)], [aL 2 c_TInterval r5]⟩) (le_sub (.cons (asl_len (len_eq (c24 _ List.mem_cons_self))) .nil) (.cons (.arr (len_eq (c24 _ List.mem_cons_self)) (fun _ _ => rfl)) .nil)) ?_
 refine awp_seq (rg0 [3, 6] 1 ⟨73, [(3, .asl 0 0 r5.length), (6, .sl true 2 0 (fun _ => []))], [aL 2 c_TInterval r5]⟩ ?_)
 refine then_n (awp_seq (awp_seq (rg0 [6, 31, 32, 33] 1 ⟨73, [(6, .sl true 2 0 (fun _ => [])), (31, .asl 0 0 r5.length), (32, .int .i64 (r5.length : Int)), (33, .int .i64 0)], [aL 2 c_TInterval r5]⟩ ?_)))
 refine then_n (awp_block ?_)
 refine awp_le (s' := ⟨73, [(6, .sl true 2 0 (fun _ => [])), (31, .asl 0 0 r5.length), (32, .int .i64 (r5.length : Int)), (33, .int .i64 0)], [aL 2 c_TInterval r5]⟩) (le_rfl) ?_
 refine awp_le (s' := ⟨73, [(6, .asl 1 0 (([] : List TInterval).length)), (31, .asl 0 0 r5.length), (32, .int .i64 (r5.length : Int)), (33, .int .i64 0)], [aL 2 c_TInterval r5, aL 2 c_TInterval ([] : List TInterval)]⟩) (Le.trans (s' := ⟨73, (6, .asl 1 0 0) :: [(6, .sl true 2 0 (fun _ => [])), (31, .asl 0 0 r5.length), (32, .int .i64 (r5.length : Int)), (33, .int .i64 0)], [aL 2 c_TInterval r5] ++ [.arr 2 0 (fun i => c_TInterval (([] : List TInterval).getD i default))]⟩) (le_thaw (wd := 2) (f := fun _ => []) 6 (by kernel_rfl) _ _) (kp [6, 31, 32, 33])) ?_
 obtain ⟨y9, q43, h44⟩ := bind_some h25
 refine awp_le (s' := ⟨73, [(6, .asl 1 0 (([] : List TInterval).length)), (31, .asl 0 0 r5.length), (32, .int .i64 (r5.length : Int)), (33, .int .i64 0)], [aL 2 c_TInterval r5, aL 2 c_TInterval ([] : List TInterval)]⟩) (le_rfl) ?_
 refine awp_mono (awp_loop (f := M.interval_Normalize_l2 r5) (S := fun (p6 : (List TInterval) × Int) => ⟨73, [(6, .asl 1 0 p6.1.length), (31, .asl 0 0 r5.length), (32, .int .i64 (r5.length : Int)), (33, .int .i64 p6.2)], [aL 2 c_TInterval r5, aL 2 c_TInterval p6.1]⟩) (O := (fun z => OutE 2 (fun z => ⟨73, [(6, .asl 1 0 z.length)], [aL 2 c_TInterval r5, aL 2 c_TInterval z]⟩) z)) ?_ (x := (([] : List TInterval), 0)) (y := y9) (loopM_iter q43)) ?_
 intro p6 y7 h26
 unfold M.interval_Normalize_l2 at h26
 refine awp_seq (rg0 [6, 31, 32, 33, 34] 2 ⟨73, [(6, .asl 1 0 p6.1.length), (31, .asl 0 0 r5.length), (32, .int .i64 (r5.length : Int)), (33, .int .i64 p6.2), (34, .bool (decide (p6.2 < (r5.length : Int))))], [aL 2 c_TInterval r5, aL 2 c_TInterval p6.1]⟩ ?_)
 refine then_n (awp_seq ?_)
 refine cnd (decide (p6.2 < (r5.length : Int))) (fun b27 => ?_) (fun b27 => ?_)
 have h28 := cond_t b27 h26
 refine awp_skip (then_n ?_)
 refine awp_join (fun (p8 : (List TInterval)) => ⟨73, [(6, .asl 1 0 p8.length), (31, .asl 0 0 r5.length), (32, .int .i64 (r5.length : Int)), (33, .int .i64 p6.2)], [aL 2 c_TInterval r5, aL 2 c_TInterval p8]⟩) (fun p8 => M.interval_Normalize_k2 p6 p8 = some y7) ?_ ?_
 intro p8 h31
 unfold M.interval_Normalize_k2 at h31
 refine rg0 [6, 31, 32, 33] 2 ⟨73, [(6, .asl 1 0 p8.length), (31, .asl 0 0 r5.length), (32, .int .i64 (r5.length : Int)), (33, .int .i64 (wr .i64 (p6.2 + 1)))], [aL 2 c_TInterval r5, aL 2 c_TInterval p8]⟩ ?_
 obtain rfl := Option.some.inj h31
 exact round_n (le_rfl)
 intro k30
 refine awp_block (awp_seq ?_)
 obtain ⟨c32, h33⟩ := gd_some h28
 refine rgc [6, 8, 31, 32, 33] 3 ⟨73, [(6, .asl 1 0 p6.1.length), (8, .ref 2 0), (31, .asl 0 0 r5.length), (32, .int .i64 (r5.length : Int)), (33, .int .i64 p6.2)], [aL 2 c_TInterval r5, aL 2 c_TInterval p6.1, .box (c_TInterval (r5.getD (0 + p6.2.toNat) default))]⟩ [decide (0 ≤ p6.2), decide (p6.2 < (r5.length : Int))] c32 ?_
 refine then_n (awp_seq (rg0 [6, 8, 9, 31, 32, 33] 3 ⟨73, [(6, .asl 1 0 p6.1.length), (8, .ref 2 0), (9, .int .i64 (wr .i64 ((p6.1.length : Int) - 1))), (31, .asl 0 0 r5.length), (32, .int .i64 (r5.length : Int)), (33, .int .i64 p6.2)], [aL 2 c_TInterval r5, aL 2 c_TInterval p6.1, .box (c_TInterval (r5.getD (0 + p6.2.toNat) default))]⟩ ?_))
 refine then_n (awp_seq ?_)
 obtain ⟨c34, h35⟩ := gd_some h33
 refine rgc [6, 8, 9, 31, 32, 33, 54] 3 ⟨73, [(6, .asl 1 0 p6.1.length), (8, .ref 2 0), (9, .int .i64 (wr .i64 ((p6.1.length : Int) - 1))), (31, .asl 0 0 r5.length), (32, .int .i64 (r5.length : Int)), (33, .int .i64 p6.2), (54, .bool ((decide ((wr .i64 ((p6.1.length : Int) - 1)) ≥ 0)) && (decide ((wr .u64 ((r5.getD (0 + p6.2.toNat) default).fLo)) ≤ (wr .u64 ((wr .u64 ((p6.1.getD (0 + (wr .i64 ((p6.1.length : Int) - 1)).toNat) default).fHi)) + 1))))))], [aL 2 c_TInterval r5, aL 2 c_TInterval p6.1, .box (c_TInterval (r5.getD (0 + p6.2.toNat) default))]⟩ [guardB (decide ((wr .i64 ((p6.1.length : Int) - 1)) ≥ 0)) (decide (0 ≤ (wr .i64 ((p6.1.length : Int) - 1)))), guardB (decide ((wr .i64 ((p6.1.length : Int) - 1)) ≥ 0)) (decide ((wr .i64 ((p6.1.length : Int) - 1)) < (p6.1.length : Int)))] c34 ?_
 refine then_n ?_
 refine cnd ((decide ((wr .i64 ((p6.1.length : Int) - 1)) ≥ 0)) && (decide ((wr .u64 ((r5.getD (0 + p6.2.toNat) default).fLo)) ≤ (wr .u64 ((wr .u64 ((p6.1.getD (0 + (wr .i64 ((p6.1.length : Int) - 1)).toNat) default).fHi)) + 1))))) (fun b36 => ?_) (fun b36 => ?_)
 have h37 := cond_t b36 h35
 obtain ⟨c39, h40⟩ := gd_some h37
 refine rgw [] [6, 31, 32, 33] 2 ⟨73, [(6, .asl 1 0 p6.1.length), (31, .asl 0 0 r5.length), (32, .int .i64 (r5.length : Int)), (33, .int .i64 p6.2)], [aL 2 c_TInterval r5, .arr 2 p6.1.length (fun j => bif Nat.beq j (0 + (wr .i64 ((p6.1.length : Int) - 1)).toNat) then splice (c_TInterval (p6.1.getD (0 + (wr .i64 ((p6.1.length : Int) - 1)).toNat) default)) [.int .u32 (if ((r5.getD (0 + p6.2.toNat) default).fHi) > ((p6.1.getD (0 + (wr .i64 ((p6.1.length : Int) - 1)).toNat) default).fHi) then ((r5.getD (0 + p6.2.toNat) default).fHi) else ((p6.1.getD (0 + (wr .i64 ((p6.1.length : Int) - 1)).toNat) default).fHi))] 1 else c_TInterval (p6.1.getD j default))]⟩ [decide (0 ≤ (wr .i64 ((p6.1.length : Int) - 1))), decide ((wr .i64 ((p6.1.length : Int) - 1)) < (p6.1.length : Int)), decide (0 ≤ (wr .i64 ((p6.1.length : Int) - 1))), decide ((wr .i64 ((p6.1.length : Int) - 1)) < (p6.1.length : Int))] [] c39 trivial ?_
 refine inb_n ?_
 exact then_le (le_sub (.cons (asl_len (by simp)) (.cons Sub.rfl (.cons Sub.rfl (.cons Sub.rfl .nil)))) (.cons .rfl (.cons (.arr (by simp) (set_ext c_TInterval p6.1 (0 + (wr .i64 ((p6.1.length : Int) - 1)).toNat) (⟨(p6.1.getD (0 + (wr .i64 ((p6.1.length : Int) - 1)).toNat) default).fLo, if ((r5.getD (0 + p6.2.toNat) default).fHi) > ((p6.1.getD (0 + (wr .i64 ((p6.1.length : Int) - 1)).toNat) default).fHi) then ((r5.getD (0 + p6.2.toNat) default).fHi) else ((p6.1.getD (0 + (wr .i64 ((p6.1.length : Int) - 1)).toNat) default).fHi)⟩ : TInterval) _ rfl)) .nil))) (k30 (p6.1.set (0 + (wr .i64 ((p6.1.length : Int) - 1)).toNat) (⟨(p6.1.getD (0 + (wr .i64 ((p6.1.length : Int) - 1)).toNat) default).fLo, if ((r5.getD (0 + p6.2.toNat) default).fHi) > ((p6.1.getD (0 + (wr .i64 ((p6.1.length : Int) - 1)).toNat) default).fHi) then ((r5.getD (0 + p6.2.toNat) default).fHi) else ((p6.1.getD (0 + (wr .i64 ((p6.1.length : Int) - 1)).toNat) default).fHi)⟩ : TInterval)) h40)
 have h38 := cond_f b36 h35
 obtain ⟨c41, h42⟩ := gd_some h38
 refine rgc [6, 31, 32, 33] 2 ⟨73, [(6, .asl 1 0 (p6.1.length + 1)), (31, .asl 0 0 r5.length), (32, .int .i64 (r5.length : Int)), (33, .int .i64 p6.2)], [aL 2 c_TInterval r5, .arr 2 (p6.1.length + 1) (app (fun i => c_TInterval (p6.1.getD i default)) p6.1.length (fun i => List.take 2 (List.drop (i * 2) [.int .u32 ((r5.getD (0 + p6.2.toNat) default).fLo), .int .u32 ((r5.getD (0 + p6.2.toNat) default).fHi)])))]⟩ [decide ((p6.1.length + 1) * 8 ≤ 140737488355328)] c41 ?_
 refine inb_n ?_
 exact then_le (le_sub (.cons (asl_len (len_snoc _ _)) (.cons Sub.rfl (.cons Sub.rfl (.cons Sub.rfl .nil)))) (.cons .rfl (.cons (.arr (len_snoc _ _) (app_snoc c_TInterval p6.1 (r5.getD (0 + p6.2.toNat) default) _ rfl)) .nil))) (k30 (p6.1 ++ [r5.getD (0 + p6.2.toNat) default]) h42)
 have h29 := cond_f b27 h26
 refine awp_exit (then_e ?_)
 obtain rfl := Option.some.inj h29
 exact round_e ⟨rfl, kp [6]⟩
 intro e45 s46 o47
 obtain ⟨rfl, l48⟩ := o47
 refine inb_here ?_
 refine then_le (s' := ⟨73, [(6, .asl 1 0 y9.length)], [aL 2 c_TInterval r5, aL 2 c_TInterval y9]⟩) (l48) ?_
 refine awp_seq (rg0 [2] 2 ⟨73, [(2, .asl 1 0 y9.length)], [aL 2 c_TInterval r5, aL 2 c_TInterval y9]⟩ ?_)
 refine then_n (awp_ret ?_)
 obtain rfl := Option.some.inj h44
 exact er (.sl false 2 y9.length (fun i => c_TInterval (y9.getD (0 + i) default))) sub_asl

/- netverify/interval.Union -/
theorem interval_Union_ok (a0 : List TInterval) (a1 : List TInterval) (r : (List TInterval)) (h : M.interval_Union a0 a1 = some r) : Fn Tryd.prog 29 [sL 2 c_TInterval a0, sL 2 c_TInterval a1] (.pure (sL 2 c_TInterval r)) := by
 unfold M.interval_Union at h
 refine fn_pure Tryd.func29 rfl (by kernel_rfl) ?_
 refine awp_seq (rg0 [0, 1] 0 ⟨10, [(0, sL 2 c_TInterval a0), (1, sL 2 c_TInterval a1)], []⟩ ?_)
 refine then_n (awp_seq ?_)
 obtain ⟨r1, q1, h2⟩ := bind_some h
 obtain ⟨r2, q3, h4⟩ := bind_some h2
 refine rg [.pure (sL 2 c_TInterval r1), .pure (sL 2 c_TInterval r2)] [4] 0 ⟨10, [(4, sL 2 c_TInterval r2)], []⟩ [] [⟨true, 47, [.sl false 1 2 (fun i => List.take 1 (List.drop (i * 1) [sL 2 c_TInterval a0, sL 2 c_TInterval a1]))], .pure (sL 2 c_TInterval r1)⟩, ⟨true, 18, [sL 2 c_TInterval r1], .pure (sL 2 c_TInterval r2)⟩] nil_all ⟨fun _ => (slices_Concat_api_Interval_api_Interval_ok ([a0, a1] : List (List TInterval)) r1 q1).args (.cons (asub_sl rfl (fun i hi => match i, hi with | 0, _ => rfl | 1, _ => rfl | n + 2, h => absurd h (by omega))) .nil), fun _ => interval_Normalize_ok r1 r2 q3, trivial⟩ ?_
 refine then_n (awp_ret ?_)
 obtain rfl := Option.some.inj h4
 exact er0 (sL 2 c_TInterval r2)

/- netverify/netverifyref4.Normalize -/
theorem ref4_Normalize_ok (a0 : List TInterval) (r : (List TInterval)) (h : M.ref4_Normalize a0 = some r) : Fn Tryd.prog 20 [sL 2 c_TInterval a0] (.pure (sL 2 c_TInterval r)) := by
 unfold M.ref4_Normalize at h
 refine fn_pure Tryd.func20 rfl (by kernel_rfl) ?_
 refine awp_seq (rg0 [0] 0 ⟨106, [(0, sL 2 c_TInterval a0)], []⟩ ?_)
 refine then_n (awp_seq (rg0 [0, 3] 0 ⟨106, [(0, sL 2 c_TInterval a0), (3, .sl true 2 0 (fun _ => []))], []⟩ ?_))
 refine then_n (awp_seq (rg0 [0, 3, 4] 0 ⟨106, [(0, sL 2 c_TInterval a0), (3, .sl true 2 0 (fun _ => [])), (4, .int .u64 0)], []⟩ ?_))
 refine then_n (awp_block ?_)
 refine awp_le (s' := ⟨106, [(0, sL 2 c_TInterval a0), (3, .sl true 2 0 (fun _ => [])), (4, .int .u64 0)], []⟩) (le_rfl) ?_
 refine awp_le (s' := ⟨106, [(0, sL 2 c_TInterval a0), (3, .asl 0 0 (([] : List TInterval).length)), (4, .int .u64 0)], [aL 2 c_TInterval ([] : List TInterval)]⟩) (Le.trans (s' := ⟨106, (3, .asl 0 0 0) :: [(0, sL 2 c_TInterval a0), (3, .sl true 2 0 (fun _ => [])), (4, .int .u64 0)], [] ++ [.arr 2 0 (fun i => c_TInterval (([] : List TInterval).getD i default))]⟩) (le_thaw (wd := 2) (f := fun _ => []) 3 (by kernel_rfl) _ _) (kp [0, 3, 4])) ?_
 obtain ⟨y14, q55, h56⟩ := bind_some h
 refine awp_le (s' := ⟨106, [(0, sL 2 c_TInterval a0), (3, .asl 0 0 (([] : List TInterval).length)), (4, .int .u64 0)], [aL 2 c_TInterval ([] : List TInterval)]⟩) (le_rfl) ?_
 refine awp_mono (awp_loop (f := M.ref4_Normalize_l1 a0) (S := fun (p1 : (List TInterval) × Int) => ⟨106, [(0, sL 2 c_TInterval a0), (3, .asl 0 0 p1.1.length), (4, .int .u64 p1.2)], [aL 2 c_TInterval p1.1]⟩) (O := (fun z => OutR Tryd.prog Tryd.f20 (sL 2 c_TInterval z))) ?_ (x := (([] : List TInterval), 0)) (y := y14) (loopM_iter q55)) ?_
 intro p1 y2 h1
 unfold M.ref4_Normalize_l1 at h1
 refine awp_block (awp_seq (rg0 [0, 3, 4, 5] 1 ⟨106, [(0, sL 2 c_TInterval a0), (3, .asl 0 0 p1.1.length), (4, .int .u64 p1.2), (5, .int .u64 4294967296)], [aL 2 c_TInterval p1.1]⟩ ?_))
 refine then_n (awp_seq (awp_seq (rg0 [0, 3, 4, 5, 6] 1 ⟨106, [(0, sL 2 c_TInterval a0), (3, .asl 0 0 p1.1.length), (4, .int .u64 p1.2), (5, .int .u64 4294967296), (6, .int .i64 0)], [aL 2 c_TInterval p1.1]⟩ ?_)))
 refine then_n (awp_block ?_)
 obtain ⟨y6, q15, h16⟩ := bind_some h1
 refine awp_le (s' := ⟨106, [(0, sL 2 c_TInterval a0), (3, .asl 0 0 p1.1.length), (4, .int .u64 p1.2), (5, .int .u64 4294967296), (6, .int .i64 0)], [aL 2 c_TInterval p1.1]⟩) (le_rfl) ?_
 refine awp_mono (awp_loop (f := M.ref4_Normalize_l2 a0 p1) (S := fun (p3 : Int × Int) => ⟨106, [(0, sL 2 c_TInterval a0), (3, .asl 0 0 p1.1.length), (4, .int .u64 p1.2), (5, .int .u64 p3.1), (6, .int .i64 p3.2)], [aL 2 c_TInterval p1.1]⟩) (O := (fun z => OutE 2 (fun z => ⟨106, [(0, sL 2 c_TInterval a0), (3, .asl 0 0 p1.1.length), (5, .int .u64 z)], [aL 2 c_TInterval p1.1]⟩) z)) ?_ (x := (4294967296, 0)) (y := y6) (loopM_iter q15)) ?_
 intro p3 y4 h2
 unfold M.ref4_Normalize_l2 at h2
 refine awp_seq (awp_seq (rg0 [0, 3, 4, 5, 6, 13] 1 ⟨106, [(0, sL 2 c_TInterval a0), (3, .asl 0 0 p1.1.length), (4, .int .u64 p1.2), (5, .int .u64 p3.1), (6, .int .i64 p3.2), (13, .bool (decide (p3.2 < (a0.length : Int))))], [aL 2 c_TInterval p1.1]⟩ ?_))
 refine then_n ?_
 refine cnd (decide (p3.2 < (a0.length : Int))) (fun b3 => ?_) (fun b3 => ?_)
 have h4 := cond_t b3 h2
 refine awp_skip (then_n ?_)
 refine awp_join (fun (p5 : Int) => ⟨106, [(0, sL 2 c_TInterval a0), (3, .asl 0 0 p1.1.length), (4, .int .u64 p1.2), (5, .int .u64 p5), (6, .int .i64 p3.2)], [aL 2 c_TInterval p1.1]⟩) (fun p5 => M.ref4_Normalize_k1 p3 p5 = some y4) ?_ ?_
 intro p5 h7
 unfold M.ref4_Normalize_k1 at h7
 refine rg0 [0, 3, 4, 5, 6] 1 ⟨106, [(0, sL 2 c_TInterval a0), (3, .asl 0 0 p1.1.length), (4, .int .u64 p1.2), (5, .int .u64 p5), (6, .int .i64 (wr .i64 (p3.2 + 1)))], [aL 2 c_TInterval p1.1]⟩ ?_
 obtain rfl := Option.some.inj h7
 exact round_n (le_rfl)
 intro k6
 refine awp_block (awp_seq ?_)
 obtain ⟨c8, h9⟩ := gd_some h4
 refine rgc [0, 3, 4, 5, 6, 36] 1 ⟨106, [(0, sL 2 c_TInterval a0), (3, .asl 0 0 p1.1.length), (4, .int .u64 p1.2), (5, .int .u64 p3.1), (6, .int .i64 p3.2), (36, .bool ((decide (((a0.getD p3.2.toNat default).fLo) ≤ ((a0.getD p3.2.toNat default).fHi))) && (decide ((wr .u64 ((a0.getD p3.2.toNat default).fHi)) ≥ p1.2))))], [aL 2 c_TInterval p1.1]⟩ [decide (0 ≤ p3.2), decide (p3.2 < (a0.length : Int)), decide (0 ≤ p3.2), decide (p3.2 < (a0.length : Int)), guardB (decide (((a0.getD p3.2.toNat default).fLo) ≤ ((a0.getD p3.2.toNat default).fHi))) (decide (0 ≤ p3.2)), guardB (decide (((a0.getD p3.2.toNat default).fLo) ≤ ((a0.getD p3.2.toNat default).fHi))) (decide (p3.2 < (a0.length : Int)))] c8 ?_
 refine then_n ?_
 refine cnd ((decide (((a0.getD p3.2.toNat default).fLo) ≤ ((a0.getD p3.2.toNat default).fHi))) && (decide ((wr .u64 ((a0.getD p3.2.toNat default).fHi)) ≥ p1.2))) (fun b10 => ?_) (fun b10 => ?_)
 have h11 := cond_t b10 h9
 obtain ⟨c13, h14⟩ := gd_some h11
 refine rgc [0, 3, 4, 5, 6] 1 ⟨106, [(0, sL 2 c_TInterval a0), (3, .asl 0 0 p1.1.length), (4, .int .u64 p1.2), (5, .int .u64 (if (if p1.2 > (wr .u64 ((a0.getD p3.2.toNat default).fLo)) then p1.2 else (wr .u64 ((a0.getD p3.2.toNat default).fLo))) < p3.1 then (if p1.2 > (wr .u64 ((a0.getD p3.2.toNat default).fLo)) then p1.2 else (wr .u64 ((a0.getD p3.2.toNat default).fLo))) else p3.1)), (6, .int .i64 p3.2)], [aL 2 c_TInterval p1.1]⟩ [decide (0 ≤ p3.2), decide (p3.2 < (a0.length : Int))] c13 ?_
 refine inb_n ?_
 exact then_le (le_rfl) (k6 (if (if p1.2 > (wr .u64 ((a0.getD p3.2.toNat default).fLo)) then p1.2 else (wr .u64 ((a0.getD p3.2.toNat default).fLo))) < p3.1 then (if p1.2 > (wr .u64 ((a0.getD p3.2.toNat default).fLo)) then p1.2 else (wr .u64 ((a0.getD p3.2.toNat default).fLo))) else p3.1) h14)
 have h12 := cond_f b10 h9
 refine awp_skip (inb_n ?_)
 exact then_le (kp [0, 3, 4, 5, 6]) (k6 p3.1 h12)
 have h5 := cond_f b3 h2
 refine awp_exit (then_e ?_)
 obtain rfl := Option.some.inj h5
 exact round_e ⟨rfl, kp [0, 3, 5]⟩
 intro e17 s18 o19
 obtain ⟨rfl, l20⟩ := o19
 refine inb_here ?_
 refine then_le (s' := ⟨106, [(0, sL 2 c_TInterval a0), (3, .asl 0 0 p1.1.length), (5, .int .u64 y6)], [aL 2 c_TInterval p1.1]⟩) (l20) ?_
 refine awp_seq (awp_seq (rg0 [0, 3, 5, 48] 1 ⟨106, [(0, sL 2 c_TInterval a0), (3, .asl 0 0 p1.1.length), (5, .int .u64 y6), (48, .bool (y6 == 4294967296))], [aL 2 c_TInterval p1.1]⟩ ?_))
 refine then_n ?_
 refine cnd (y6 == 4294967296) (fun b21 => ?_) (fun b21 => ?_)
 have h22 := cond_t b21 h16
 refine awp_seq (rg0 [2] 1 ⟨106, [(2, .asl 0 0 p1.1.length)], [aL 2 c_TInterval p1.1]⟩ ?_)
 refine then_n (awp_ret (then_r (inb_r ?_)))
 obtain rfl := Option.some.inj h22
 exact round_r ⟨rfl, er (.sl false 2 p1.1.length (fun i => c_TInterval (p1.1.getD (0 + i) default))) sub_asl⟩
 have h23 := cond_f b21 h16
 refine awp_skip (then_n (awp_seq (rg0 [0, 3, 5, 7] 1 ⟨106, [(0, sL 2 c_TInterval a0), (3, .asl 0 0 p1.1.length), (5, .int .u64 y6), (7, .int .u64 y6)], [aL 2 c_TInterval p1.1]⟩ ?_)))
 refine then_n (awp_seq (rg0 [0, 3, 5, 7, 8] 1 ⟨106, [(0, sL 2 c_TInterval a0), (3, .asl 0 0 p1.1.length), (5, .int .u64 y6), (7, .int .u64 y6), (8, .bool true)], [aL 2 c_TInterval p1.1]⟩ ?_))
 refine then_n (awp_seq (awp_block ?_))
 obtain ⟨y13, q47, h48⟩ := bind_some h23
 refine awp_le (s' := ⟨106, [(0, sL 2 c_TInterval a0), (3, .asl 0 0 p1.1.length), (5, .int .u64 y6), (7, .int .u64 y6), (8, .bool true)], [aL 2 c_TInterval p1.1]⟩) (le_rfl) ?_
 refine awp_mono (awp_loop (f := M.ref4_Normalize_l3 a0) (S := fun (p7 : Int × Bool) => ⟨106, [(0, sL 2 c_TInterval a0), (3, .asl 0 0 p1.1.length), (5, .int .u64 y6), (7, .int .u64 p7.1), (8, .bool p7.2)], [aL 2 c_TInterval p1.1]⟩) (O := (fun z => OutE 4 (fun z => ⟨106, [(0, sL 2 c_TInterval a0), (3, .asl 0 0 p1.1.length), (5, .int .u64 y6), (7, .int .u64 z)], [aL 2 c_TInterval p1.1]⟩) z)) ?_ (x := (y6, true)) (y := y13) (loopM_iter q47)) ?_
 intro p7 y8 h24
 unfold M.ref4_Normalize_l3 at h24
 refine awp_seq (awp_seq (rg0 [0, 3, 5, 7, 51] 1 ⟨106, [(0, sL 2 c_TInterval a0), (3, .asl 0 0 p1.1.length), (5, .int .u64 y6), (7, .int .u64 p7.1), (51, .bool p7.2)], [aL 2 c_TInterval p1.1]⟩ ?_))
 refine then_n ?_
 refine cnd p7.2 (fun b25 => ?_) (fun b25 => ?_)
 have h26 := cond_t b25 h24
 refine awp_skip (then_n (awp_block (awp_seq (rg0 [0, 3, 5, 7, 8] 1 ⟨106, [(0, sL 2 c_TInterval a0), (3, .asl 0 0 p1.1.length), (5, .int .u64 y6), (7, .int .u64 p7.1), (8, .bool false)], [aL 2 c_TInterval p1.1]⟩ ?_))))
 refine then_n (awp_seq (rg0 [0, 3, 5, 7, 8, 9] 1 ⟨106, [(0, sL 2 c_TInterval a0), (3, .asl 0 0 p1.1.length), (5, .int .u64 y6), (7, .int .u64 p7.1), (8, .bool false), (9, .int .i64 0)], [aL 2 c_TInterval p1.1]⟩ ?_))
 refine then_n (awp_block ?_)
 obtain ⟨y12, q41, h42⟩ := bind_some h26
 refine awp_le (s' := ⟨106, [(0, sL 2 c_TInterval a0), (3, .asl 0 0 p1.1.length), (5, .int .u64 y6), (7, .int .u64 p7.1), (8, .bool false), (9, .int .i64 0)], [aL 2 c_TInterval p1.1]⟩) (le_rfl) ?_
 refine awp_mono (awp_loop (f := M.ref4_Normalize_l4 a0) (S := fun (p9 : Int × Bool × Int) => ⟨106, [(0, sL 2 c_TInterval a0), (3, .asl 0 0 p1.1.length), (5, .int .u64 y6), (7, .int .u64 p9.1), (8, .bool p9.2.1), (9, .int .i64 p9.2.2)], [aL 2 c_TInterval p1.1]⟩) (O := (fun z => OutE 6 (fun z => ⟨106, [(0, sL 2 c_TInterval a0), (3, .asl 0 0 p1.1.length), (5, .int .u64 y6), (7, .int .u64 z.1), (8, .bool z.2)], [aL 2 c_TInterval p1.1]⟩) z)) ?_ (x := (p7.1, false, 0)) (y := y12) (loopM_iter q41)) ?_
 intro p9 y10 h28
 unfold M.ref4_Normalize_l4 at h28
 refine awp_seq (awp_seq (rg0 [0, 3, 5, 7, 8, 9, 55] 1 ⟨106, [(0, sL 2 c_TInterval a0), (3, .asl 0 0 p1.1.length), (5, .int .u64 y6), (7, .int .u64 p9.1), (8, .bool p9.2.1), (9, .int .i64 p9.2.2), (55, .bool (decide (p9.2.2 < (a0.length : Int))))], [aL 2 c_TInterval p1.1]⟩ ?_))
 refine then_n ?_
 refine cnd (decide (p9.2.2 < (a0.length : Int))) (fun b29 => ?_) (fun b29 => ?_)
 have h30 := cond_t b29 h28
 refine awp_skip (then_n ?_)
 refine awp_join (fun (p11 : Int × Bool) => ⟨106, [(0, sL 2 c_TInterval a0), (3, .asl 0 0 p1.1.length), (5, .int .u64 y6), (7, .int .u64 p11.1), (8, .bool p11.2), (9, .int .i64 p9.2.2)], [aL 2 c_TInterval p1.1]⟩) (fun p11 => M.ref4_Normalize_k2 p9 p11 = some y10) ?_ ?_
 intro p11 h33
 unfold M.ref4_Normalize_k2 at h33
 refine rg0 [0, 3, 5, 7, 8, 9] 1 ⟨106, [(0, sL 2 c_TInterval a0), (3, .asl 0 0 p1.1.length), (5, .int .u64 y6), (7, .int .u64 p11.1), (8, .bool p11.2), (9, .int .i64 (wr .i64 (p9.2.2 + 1)))], [aL 2 c_TInterval p1.1]⟩ ?_
 obtain rfl := Option.some.inj h33
 exact round_n (le_rfl)
 intro k32
 refine awp_block (awp_seq ?_)
 obtain ⟨c34, h35⟩ := gd_some h30
 refine rgc [0, 3, 5, 7, 8, 9, 89] 1 ⟨106, [(0, sL 2 c_TInterval a0), (3, .asl 0 0 p1.1.length), (5, .int .u64 y6), (7, .int .u64 p9.1), (8, .bool p9.2.1), (9, .int .i64 p9.2.2), (89, .bool (((decide (((a0.getD p9.2.2.toNat default).fLo) ≤ ((a0.getD p9.2.2.toNat default).fHi))) && (decide ((wr .u64 ((a0.getD p9.2.2.toNat default).fLo)) ≤ (wr .u64 (p9.1 + 1))))) && (decide ((wr .u64 ((a0.getD p9.2.2.toNat default).fHi)) > p9.1))))], [aL 2 c_TInterval p1.1]⟩ [decide (0 ≤ p9.2.2), decide (p9.2.2 < (a0.length : Int)), decide (0 ≤ p9.2.2), decide (p9.2.2 < (a0.length : Int)), guardB (decide (((a0.getD p9.2.2.toNat default).fLo) ≤ ((a0.getD p9.2.2.toNat default).fHi))) (decide (0 ≤ p9.2.2)), guardB (decide (((a0.getD p9.2.2.toNat default).fLo) ≤ ((a0.getD p9.2.2.toNat default).fHi))) (decide (p9.2.2 < (a0.length : Int))), guardB ((decide (((a0.getD p9.2.2.toNat default).fLo) ≤ ((a0.getD p9.2.2.toNat default).fHi))) && (decide ((wr .u64 ((a0.getD p9.2.2.toNat default).fLo)) ≤ (wr .u64 (p9.1 + 1))))) (decide (0 ≤ p9.2.2)), guardB ((decide (((a0.getD p9.2.2.toNat default).fLo) ≤ ((a0.getD p9.2.2.toNat default).fHi))) && (decide ((wr .u64 ((a0.getD p9.2.2.toNat default).fLo)) ≤ (wr .u64 (p9.1 + 1))))) (decide (p9.2.2 < (a0.length : Int)))] c34 ?_
 refine then_n ?_
 refine cnd (((decide (((a0.getD p9.2.2.toNat default).fLo) ≤ ((a0.getD p9.2.2.toNat default).fHi))) && (decide ((wr .u64 ((a0.getD p9.2.2.toNat default).fLo)) ≤ (wr .u64 (p9.1 + 1))))) && (decide ((wr .u64 ((a0.getD p9.2.2.toNat default).fHi)) > p9.1))) (fun b36 => ?_) (fun b36 => ?_)
 have h37 := cond_t b36 h35
 refine awp_seq ?_
 obtain ⟨c39, h40⟩ := gd_some h37
 refine rgc [0, 3, 5, 7, 9] 1 ⟨106, [(0, sL 2 c_TInterval a0), (3, .asl 0 0 p1.1.length), (5, .int .u64 y6), (7, .int .u64 (wr .u64 ((a0.getD p9.2.2.toNat default).fHi))), (9, .int .i64 p9.2.2)], [aL 2 c_TInterval p1.1]⟩ [decide (0 ≤ p9.2.2), decide (p9.2.2 < (a0.length : Int))] c39 ?_
 refine then_n (rg0 [0, 3, 5, 7, 8, 9] 1 ⟨106, [(0, sL 2 c_TInterval a0), (3, .asl 0 0 p1.1.length), (5, .int .u64 y6), (7, .int .u64 (wr .u64 ((a0.getD p9.2.2.toNat default).fHi))), (8, .bool true), (9, .int .i64 p9.2.2)], [aL 2 c_TInterval p1.1]⟩ ?_)
 refine inb_n ?_
 exact then_le (le_rfl) (k32 (wr .u64 ((a0.getD p9.2.2.toNat default).fHi), true) h40)
 have h38 := cond_f b36 h35
 refine awp_skip (inb_n ?_)
 exact then_le (kp [0, 3, 5, 7, 8, 9]) (k32 (p9.1, p9.2.1) h38)
 have h31 := cond_f b29 h28
 refine awp_exit (then_e ?_)
 obtain rfl := Option.some.inj h31
 exact round_e ⟨rfl, kp [0, 3, 5, 7, 8]⟩
 intro e43 s44 o45
 obtain ⟨rfl, l46⟩ := o45
 refine inb_here (inb_n ?_)
 obtain rfl := Option.some.inj h42
 exact round_n (l46)
 have h27 := cond_f b25 h24
 refine awp_exit (then_e ?_)
 obtain rfl := Option.some.inj h27
 exact round_e ⟨rfl, kp [0, 3, 5, 7]⟩
 intro e49 s50 o51
 obtain ⟨rfl, l52⟩ := o51
 refine inb_here ?_
 refine then_le (s' := ⟨106, [(0, sL 2 c_TInterval a0), (3, .asl 0 0 p1.1.length), (5, .int .u64 y6), (7, .int .u64 y13)], [aL 2 c_TInterval p1.1]⟩) (l52) ?_
 refine awp_seq ?_
 obtain ⟨c53, h54⟩ := gd_some h48
 refine rgc [0, 3, 7] 1 ⟨106, [(0, sL 2 c_TInterval a0), (3, .asl 0 0 (p1.1.length + 1)), (7, .int .u64 y13)], [.arr 2 (p1.1.length + 1) (app (fun i => c_TInterval (p1.1.getD i default)) p1.1.length (fun i => List.take 2 (List.drop (i * 2) [.int .u32 (wr .u32 y6), .int .u32 (wr .u32 y13)])))]⟩ [decide ((p1.1.length + 1) * 8 ≤ 140737488355328)] c53 ?_
 refine then_le (s' := ⟨106, [(0, sL 2 c_TInterval a0), (3, .asl 0 0 ((p1.1 ++ [(⟨wr .u32 y6, wr .u32 y13⟩ : TInterval)]).length)), (7, .int .u64 y13)], [aL 2 c_TInterval (p1.1 ++ [(⟨wr .u32 y6, wr .u32 y13⟩ : TInterval)])]⟩) (le_sub (.cons Sub.rfl (.cons (asl_len (len_snoc _ _)) (.cons Sub.rfl .nil))) (.cons (.arr (len_snoc _ _) (app_snoc c_TInterval p1.1 (⟨wr .u32 y6, wr .u32 y13⟩ : TInterval) _ rfl)) .nil)) ?_
 refine rg0 [0, 3, 4] 1 ⟨106, [(0, sL 2 c_TInterval a0), (3, .asl 0 0 ((p1.1 ++ [(⟨wr .u32 y6, wr .u32 y13⟩ : TInterval)]).length)), (4, .int .u64 (wr .u64 (y13 + 1)))], [aL 2 c_TInterval (p1.1 ++ [(⟨wr .u32 y6, wr .u32 y13⟩ : TInterval)])]⟩ ?_
 refine inb_n ?_
 obtain rfl := Option.some.inj h54
 exact round_n (le_rfl)
 intro e57 s58 o59
 obtain ⟨rfl, n60⟩ := o59
 refine inb_r ?_
 obtain rfl := Option.some.inj h56
 exact n60

/- netverify/netverifyref4.Union -/
theorem ref4_Union_ok (a0 : List TInterval) (a1 : List TInterval) (r : (List TInterval)) (h : M.ref4_Union a0 a1 = some r) : Fn Tryd.prog 32 [sL 2 c_TInterval a0, sL 2 c_TInterval a1] (.pure (sL 2 c_TInterval r)) := by
 unfold M.ref4_Union at h
 refine fn_pure Tryd.func32 rfl (by kernel_rfl) ?_
 refine awp_seq (rg0 [0, 1] 0 ⟨11, [(0, sL 2 c_TInterval a0), (1, sL 2 c_TInterval a1)], []⟩ ?_)
 refine then_n (awp_seq ?_)
 obtain ⟨c1, h2⟩ := gd_some h
 obtain ⟨r1, q3, h4⟩ := bind_some h2
 refine rgx 5 [] [9] 1 ⟨11, [(9, .asl 0 0 ((0 + a0.length) + a1.length))], [.arr 2 ((0 + a0.length) + a1.length) (app (app (fun i => List.take 2 (List.drop (i * 2) [])) 0 (fun i => c_TInterval (a0.getD i default))) (0 + a0.length) (fun i => c_TInterval (a1.getD i default)))]⟩ [decide (0 = 0) || decide (0 < a0.length), decide ((0 + a0.length) * 8 ≤ 140737488355328), decide (((0 + a0.length) + a1.length) * 8 ≤ 140737488355328)] [] c1 trivial ⟨11, [(9, sL 2 c_TInterval ((a0 : List TInterval) ++ a1))], [aL 2 c_TInterval ([] : List TInterval)]⟩ (Le.trans (s' := ⟨11, [(9, .asl 0 0 (((a0 : List TInterval) ++ a1).length))], [aL 2 c_TInterval ((a0 : List TInterval) ++ a1)]⟩) (le_sub (.cons (asl_len (len_any (Nat.zero_add _) rfl)) .nil) (.cons (.arr (len_any (Nat.zero_add _) rfl) (app_any c_TInterval (f := app (fun i => List.take 2 (List.drop (i * 2) [])) 0 (fun i => c_TInterval (a0.getD i default))) (g := fun i => c_TInterval (a1.getD i default)) (Nat.zero_add _) (app_nil c_TInterval _ a0 _ (fun _ _ => rfl)) rfl (fun _ _ => rfl))) .nil)) (Le.trans (le_frz 9 0 2 c_TInterval ((a0 : List TInterval) ++ a1) (fun i => c_TInterval (([] : List TInterval).getD i default)) (by kernel_rfl) (by kernel_rfl) (by kernel_rfl)) (kp [9]))) rfl [.pure (sL 2 c_TInterval r1)] [4] 0 ⟨11, [(4, sL 2 c_TInterval r1)], []⟩ [] [⟨true, 20, [sL 2 c_TInterval ((a0 : List TInterval) ++ a1)], .pure (sL 2 c_TInterval r1)⟩] nil_all ⟨fun _ => ref4_Normalize_ok ((a0 : List TInterval) ++ a1) r1 q3, trivial⟩ ?_
 refine then_n (awp_ret ?_)
 obtain rfl := Option.some.inj h4
 exact er0 (sL 2 c_TInterval r1)

/- netverify/netverifykeep.Intervals -/
theorem keep_Intervals_ok (a0 : List TInterval) (a1 : List TInterval) (r : Bool) (h : M.keep_Intervals a0 a1 = some r) : Fn Tryd.prog 19 [sL 2 c_TInterval a0, sL 2 c_TInterval a1] (.pure (.bool r)) := by
 unfold M.keep_Intervals at h
 refine fn_pure Tryd.func19 rfl (by kernel_rfl) ?_
 refine awp_seq (rg0 [0, 1] 0 ⟨26, [(0, sL 2 c_TInterval a0), (1, sL 2 c_TInterval a1)], []⟩ ?_)
 refine then_n (awp_seq (awp_seq (rg0 [0, 1, 10] 0 ⟨26, [(0, sL 2 c_TInterval a0), (1, sL 2 c_TInterval a1), (10, .bool ((a0.length : Int) != (a1.length : Int)))], []⟩ ?_)))
 refine then_n ?_
 refine cnd ((a0.length : Int) != (a1.length : Int)) (fun b1 => ?_) (fun b1 => ?_)
 have h2 := cond_t b1 h
 refine awp_seq (rg0 [4] 0 ⟨26, [(4, .bool false)], []⟩ ?_)
 refine then_n (awp_ret (then_r ?_))
 obtain rfl := Option.some.inj h2
 exact er0 (.bool false)
 have h3 := cond_f b1 h
 refine awp_skip (then_n (awp_seq (awp_seq (rg0 [0, 1, 5] 0 ⟨26, [(0, sL 2 c_TInterval a0), (1, sL 2 c_TInterval a1), (5, .int .i64 0)], []⟩ ?_))))
 refine then_n (awp_block ?_)
 obtain ⟨y3, q13, h14⟩ := bind_some h3
 refine awp_le (s' := ⟨26, [(0, sL 2 c_TInterval a0), (1, sL 2 c_TInterval a1), (5, .int .i64 0)], []⟩) (le_rfl) ?_
 refine awp_mono (awp_loop (f := M.keep_Intervals_l1 a0 a1) (S := fun (p1 : Int) => ⟨26, [(0, sL 2 c_TInterval a0), (1, sL 2 c_TInterval a1), (5, .int .i64 p1)], []⟩) (O := (Sum.elim (fun z => OutE 0 (fun z => ⟨26, [], []⟩) z) (fun z => OutR Tryd.prog Tryd.f19 (.bool z)))) ?_ (x := 0) (y := y3) (loopM_iter q13)) ?_
 intro p1 y2 h4
 unfold M.keep_Intervals_l1 at h4
 refine awp_seq (awp_seq (rg0 [0, 1, 5, 14] 0 ⟨26, [(0, sL 2 c_TInterval a0), (1, sL 2 c_TInterval a1), (5, .int .i64 p1), (14, .bool (decide (p1 < (a0.length : Int))))], []⟩ ?_))
 refine then_n ?_
 refine cnd (decide (p1 < (a0.length : Int))) (fun b5 => ?_) (fun b5 => ?_)
 have h6 := cond_t b5 h4
 refine awp_skip (then_n (awp_seq (awp_block (awp_seq ?_))))
 obtain ⟨c8, h9⟩ := gd_some h6
 refine rgc [0, 1, 5, 25] 0 ⟨26, [(0, sL 2 c_TInterval a0), (1, sL 2 c_TInterval a1), (5, .int .i64 p1), (25, .bool (!((((a0.getD p1.toNat default).fLo) == ((a1.getD p1.toNat default).fLo)) && ((((a0.getD p1.toNat default).fHi) == ((a1.getD p1.toNat default).fHi)) && true))))], []⟩ [decide (0 ≤ p1), decide (p1 < (a0.length : Int)), decide (0 ≤ p1), decide (p1 < (a1.length : Int))] c8 ?_
 refine then_n ?_
 refine cnd (!((((a0.getD p1.toNat default).fLo) == ((a1.getD p1.toNat default).fLo)) && ((((a0.getD p1.toNat default).fHi) == ((a1.getD p1.toNat default).fHi)) && true))) (fun b10 => ?_) (fun b10 => ?_)
 have h11 := cond_t b10 h9
 refine awp_seq (rg0 [4] 0 ⟨26, [(4, .bool false)], []⟩ ?_)
 refine then_n (awp_ret (inb_r (then_r ?_)))
 obtain rfl := Option.some.inj h11
 exact round_r ⟨rfl, er0 (.bool false)⟩
 have h12 := cond_f b10 h9
 refine awp_skip (inb_n (then_n (rg0 [0, 1, 5] 0 ⟨26, [(0, sL 2 c_TInterval a0), (1, sL 2 c_TInterval a1), (5, .int .i64 (wr .i64 (p1 + 1)))], []⟩ ?_)))
 obtain rfl := Option.some.inj h12
 exact round_n (le_rfl)
 have h7 := cond_f b5 h4
 refine awp_exit (then_e ?_)
 obtain rfl := Option.some.inj h7
 exact round_e ⟨rfl, kp []⟩
 intro e15 s16 o17
 rcases y3 with g4 | y5
 have h18 := elim_l h14
 obtain ⟨rfl, l20⟩ := o17
 refine inb_here ?_
 refine then_le (s' := ⟨26, [], []⟩) (l20) ?_
 refine awp_seq (rg0 [4] 0 ⟨26, [(4, .bool true)], []⟩ ?_)
 refine then_n (awp_ret ?_)
 obtain rfl := Option.some.inj h18
 exact er0 (.bool true)
 have h19 := elim_r h14
 obtain ⟨rfl, n21⟩ := o17
 refine inb_r (then_r ?_)
 obtain rfl := Option.some.inj h19
 exact n21

/- netverify/interval.Intersect -/
theorem interval_Intersect_ok (a0 : List TInterval) (a1 : List TInterval) (r : (List TInterval)) (h : M.interval_Intersect a0 a1 = some r) : Fn Tryd.prog 30 [sL 2 c_TInterval a0, sL 2 c_TInterval a1] (.pure (sL 2 c_TInterval r)) := by
 unfold M.interval_Intersect at h
 refine fn_pure Tryd.func30 rfl (by kernel_rfl) ?_
 refine awp_seq (rg0 [0, 1] 0 ⟨73, [(0, sL 2 c_TInterval a0), (1, sL 2 c_TInterval a1)], []⟩ ?_)
 refine then_n (awp_seq ?_)
 obtain ⟨r1, q1, h2⟩ := bind_some h
 obtain ⟨r2, q3, h4⟩ := bind_some h2
 refine rg [.pure (sL 2 c_TInterval r1), .pure (sL 2 c_TInterval r2)] [5, 6] 0 ⟨73, [(5, sL 2 c_TInterval r1), (6, sL 2 c_TInterval r2)], []⟩ [] [⟨true, 18, [sL 2 c_TInterval a0], .pure (sL 2 c_TInterval r1)⟩, ⟨true, 18, [sL 2 c_TInterval a1], .pure (sL 2 c_TInterval r2)⟩] nil_all ⟨fun _ => interval_Normalize_ok a0 r1 q1, fun _ => interval_Normalize_ok a1 r2 q3, trivial⟩ ?_
 refine then_n (awp_seq (rg0 [5, 6, 7] 0 ⟨73, [(5, sL 2 c_TInterval r1), (6, sL 2 c_TInterval r2), (7, .sl true 2 0 (fun _ => []))], []⟩ ?_))
 refine then_n (awp_seq (awp_seq (rg0 [5, 6, 7, 8, 9] 0 ⟨73, [(5, sL 2 c_TInterval r1), (6, sL 2 c_TInterval r2), (7, .sl true 2 0 (fun _ => [])), (8, .int .i64 0), (9, .int .i64 0)], []⟩ ?_)))
 refine then_n (awp_block ?_)
 refine awp_le (s' := ⟨73, [(5, sL 2 c_TInterval r1), (6, sL 2 c_TInterval r2), (7, .sl true 2 0 (fun _ => [])), (8, .int .i64 0), (9, .int .i64 0)], []⟩) (le_rfl) ?_
 refine awp_le (s' := ⟨73, [(5, sL 2 c_TInterval r1), (6, sL 2 c_TInterval r2), (7, .asl 0 0 (([] : List TInterval).length)), (8, .int .i64 0), (9, .int .i64 0)], [aL 2 c_TInterval ([] : List TInterval)]⟩) (Le.trans (s' := ⟨73, (7, .asl 0 0 0) :: [(5, sL 2 c_TInterval r1), (6, sL 2 c_TInterval r2), (7, .sl true 2 0 (fun _ => [])), (8, .int .i64 0), (9, .int .i64 0)], [] ++ [.arr 2 0 (fun i => c_TInterval (([] : List TInterval).getD i default))]⟩) (le_thaw (wd := 2) (f := fun _ => []) 7 (by kernel_rfl) _ _) (kp [5, 6, 7, 8, 9])) ?_
 obtain ⟨y6, q23, h24⟩ := bind_some h4
 refine awp_le (s' := ⟨73, [(5, sL 2 c_TInterval r1), (6, sL 2 c_TInterval r2), (7, .asl 0 0 (([] : List TInterval).length)), (8, .int .i64 0), (9, .int .i64 0)], [aL 2 c_TInterval ([] : List TInterval)]⟩) (le_rfl) ?_
 refine awp_mono (awp_loop (f := M.interval_Intersect_l1 r1 r2) (S := fun (p3 : (List TInterval) × Int × Int) => ⟨73, [(5, sL 2 c_TInterval r1), (6, sL 2 c_TInterval r2), (7, .asl 0 0 p3.1.length), (8, .int .i64 p3.2.1), (9, .int .i64 p3.2.2)], [aL 2 c_TInterval p3.1]⟩) (O := (fun z => OutE 0 (fun z => ⟨73, [(7, .asl 0 0 z.length)], [aL 2 c_TInterval z]⟩) z)) ?_ (x := (([] : List TInterval), 0, 0)) (y := y6) (loopM_iter q23)) ?_
 intro p3 y4 h5
 unfold M.interval_Intersect_l1 at h5
 refine awp_seq (awp_seq (rg0 [5, 6, 7, 8, 9, 25] 1 ⟨73, [(5, sL 2 c_TInterval r1), (6, sL 2 c_TInterval r2), (7, .asl 0 0 p3.1.length), (8, .int .i64 p3.2.1), (9, .int .i64 p3.2.2), (25, .bool ((decide (p3.2.1 < (r1.length : Int))) && (decide (p3.2.2 < (r2.length : Int)))))], [aL 2 c_TInterval p3.1]⟩ ?_))
 refine then_n ?_
 refine cnd ((decide (p3.2.1 < (r1.length : Int))) && (decide (p3.2.2 < (r2.length : Int)))) (fun b6 => ?_) (fun b6 => ?_)
 have h7 := cond_t b6 h5
 refine awp_skip (then_n (awp_block (awp_seq ?_)))
 obtain ⟨c9, h10⟩ := gd_some h7
 refine rgc [5, 6, 7, 8, 9, 10, 11] 1 ⟨73, [(5, sL 2 c_TInterval r1), (6, sL 2 c_TInterval r2), (7, .asl 0 0 p3.1.length), (8, .int .i64 p3.2.1), (9, .int .i64 p3.2.2), (10, .int .u32 (if ((r2.getD p3.2.2.toNat default).fLo) > ((r1.getD p3.2.1.toNat default).fLo) then ((r2.getD p3.2.2.toNat default).fLo) else ((r1.getD p3.2.1.toNat default).fLo))), (11, .int .u32 (if ((r2.getD p3.2.2.toNat default).fHi) < ((r1.getD p3.2.1.toNat default).fHi) then ((r2.getD p3.2.2.toNat default).fHi) else ((r1.getD p3.2.1.toNat default).fHi)))], [aL 2 c_TInterval p3.1]⟩ [decide (0 ≤ p3.2.1), decide (p3.2.1 < (r1.length : Int)), decide (0 ≤ p3.2.2), decide (p3.2.2 < (r2.length : Int)), decide (0 ≤ p3.2.1), decide (p3.2.1 < (r1.length : Int)), decide (0 ≤ p3.2.2), decide (p3.2.2 < (r2.length : Int))] c9 ?_
 refine then_n ?_
 refine awp_join (fun (p5 : (List TInterval)) => ⟨73, [(5, sL 2 c_TInterval r1), (6, sL 2 c_TInterval r2), (7, .asl 0 0 p5.length), (8, .int .i64 p3.2.1), (9, .int .i64 p3.2.2)], [aL 2 c_TInterval p5]⟩) (fun p5 => M.interval_Intersect_k1 r1 r2 p3 p5 = some y4) ?_ ?_
 intro p5 h12
 unfold M.interval_Intersect_k1 at h12
 refine awp_seq ?_
 obtain ⟨c13, h14⟩ := gd_some h12
 refine rgc [5, 6, 7, 8, 9, 67] 1 ⟨73, [(5, sL 2 c_TInterval r1), (6, sL 2 c_TInterval r2), (7, .asl 0 0 p5.length), (8, .int .i64 p3.2.1), (9, .int .i64 p3.2.2), (67, .bool (decide (((r1.getD p3.2.1.toNat default).fHi) < ((r2.getD p3.2.2.toNat default).fHi))))], [aL 2 c_TInterval p5]⟩ [decide (0 ≤ p3.2.1), decide (p3.2.1 < (r1.length : Int)), decide (0 ≤ p3.2.2), decide (p3.2.2 < (r2.length : Int))] c13 ?_
 refine then_n ?_
 refine cnd (decide (((r1.getD p3.2.1.toNat default).fHi) < ((r2.getD p3.2.2.toNat default).fHi))) (fun b15 => ?_) (fun b15 => ?_)
 have h16 := cond_t b15 h14
 refine rg0 [5, 6, 7, 8, 9] 1 ⟨73, [(5, sL 2 c_TInterval r1), (6, sL 2 c_TInterval r2), (7, .asl 0 0 p5.length), (8, .int .i64 (wr .i64 (p3.2.1 + 1))), (9, .int .i64 p3.2.2)], [aL 2 c_TInterval p5]⟩ ?_
 refine inb_n ?_
 obtain rfl := Option.some.inj h16
 exact round_n (le_rfl)
 have h17 := cond_f b15 h14
 refine rg0 [5, 6, 7, 8, 9] 1 ⟨73, [(5, sL 2 c_TInterval r1), (6, sL 2 c_TInterval r2), (7, .asl 0 0 p5.length), (8, .int .i64 p3.2.1), (9, .int .i64 (wr .i64 (p3.2.2 + 1)))], [aL 2 c_TInterval p5]⟩ ?_
 refine inb_n ?_
 obtain rfl := Option.some.inj h17
 exact round_n (le_rfl)
 intro k11
 refine awp_seq (rg0 [5, 6, 7, 8, 9, 10, 11, 50] 1 ⟨73, [(5, sL 2 c_TInterval r1), (6, sL 2 c_TInterval r2), (7, .asl 0 0 p3.1.length), (8, .int .i64 p3.2.1), (9, .int .i64 p3.2.2), (10, .int .u32 (if ((r2.getD p3.2.2.toNat default).fLo) > ((r1.getD p3.2.1.toNat default).fLo) then ((r2.getD p3.2.2.toNat default).fLo) else ((r1.getD p3.2.1.toNat default).fLo))), (11, .int .u32 (if ((r2.getD p3.2.2.toNat default).fHi) < ((r1.getD p3.2.1.toNat default).fHi) then ((r2.getD p3.2.2.toNat default).fHi) else ((r1.getD p3.2.1.toNat default).fHi))), (50, .bool (decide ((if ((r2.getD p3.2.2.toNat default).fLo) > ((r1.getD p3.2.1.toNat default).fLo) then ((r2.getD p3.2.2.toNat default).fLo) else ((r1.getD p3.2.1.toNat default).fLo)) ≤ (if ((r2.getD p3.2.2.toNat default).fHi) < ((r1.getD p3.2.1.toNat default).fHi) then ((r2.getD p3.2.2.toNat default).fHi) else ((r1.getD p3.2.1.toNat default).fHi)))))], [aL 2 c_TInterval p3.1]⟩ ?_)
 refine then_n ?_
 refine cnd (decide ((if ((r2.getD p3.2.2.toNat default).fLo) > ((r1.getD p3.2.1.toNat default).fLo) then ((r2.getD p3.2.2.toNat default).fLo) else ((r1.getD p3.2.1.toNat default).fLo)) ≤ (if ((r2.getD p3.2.2.toNat default).fHi) < ((r1.getD p3.2.1.toNat default).fHi) then ((r2.getD p3.2.2.toNat default).fHi) else ((r1.getD p3.2.1.toNat default).fHi)))) (fun b18 => ?_) (fun b18 => ?_)
 have h19 := cond_t b18 h10
 obtain ⟨c21, h22⟩ := gd_some h19
 refine rgc [5, 6, 7, 8, 9] 1 ⟨73, [(5, sL 2 c_TInterval r1), (6, sL 2 c_TInterval r2), (7, .asl 0 0 (p3.1.length + 1)), (8, .int .i64 p3.2.1), (9, .int .i64 p3.2.2)], [.arr 2 (p3.1.length + 1) (app (fun i => c_TInterval (p3.1.getD i default)) p3.1.length (fun i => List.take 2 (List.drop (i * 2) [.int .u32 (if ((r2.getD p3.2.2.toNat default).fLo) > ((r1.getD p3.2.1.toNat default).fLo) then ((r2.getD p3.2.2.toNat default).fLo) else ((r1.getD p3.2.1.toNat default).fLo)), .int .u32 (if ((r2.getD p3.2.2.toNat default).fHi) < ((r1.getD p3.2.1.toNat default).fHi) then ((r2.getD p3.2.2.toNat default).fHi) else ((r1.getD p3.2.1.toNat default).fHi))])))]⟩ [decide ((p3.1.length + 1) * 8 ≤ 140737488355328)] c21 ?_
 exact then_le (le_sub (.cons Sub.rfl (.cons Sub.rfl (.cons (asl_len (len_snoc _ _)) (.cons Sub.rfl (.cons Sub.rfl .nil))))) (.cons (.arr (len_snoc _ _) (app_snoc c_TInterval p3.1 (⟨if ((r2.getD p3.2.2.toNat default).fLo) > ((r1.getD p3.2.1.toNat default).fLo) then ((r2.getD p3.2.2.toNat default).fLo) else ((r1.getD p3.2.1.toNat default).fLo), if ((r2.getD p3.2.2.toNat default).fHi) < ((r1.getD p3.2.1.toNat default).fHi) then ((r2.getD p3.2.2.toNat default).fHi) else ((r1.getD p3.2.1.toNat default).fHi)⟩ : TInterval) _ rfl)) .nil)) (k11 (p3.1 ++ [(⟨if ((r2.getD p3.2.2.toNat default).fLo) > ((r1.getD p3.2.1.toNat default).fLo) then ((r2.getD p3.2.2.toNat default).fLo) else ((r1.getD p3.2.1.toNat default).fLo), if ((r2.getD p3.2.2.toNat default).fHi) < ((r1.getD p3.2.1.toNat default).fHi) then ((r2.getD p3.2.2.toNat default).fHi) else ((r1.getD p3.2.1.toNat default).fHi)⟩ : TInterval)]) h22)
 have h20 := cond_f b18 h10
 refine awp_skip ?_
 exact then_le (kp [5, 6, 7, 8, 9]) (k11 p3.1 h20)
 have h8 := cond_f b6 h5
 refine awp_exit (then_e ?_)
 obtain rfl := Option.some.inj h8
 exact round_e ⟨rfl, kp [7]⟩
 intro e25 s26 o27
 obtain ⟨rfl, l28⟩ := o27
 refine inb_here ?_
 refine then_le (s' := ⟨73, [(7, .asl 0 0 y6.length)], [aL 2 c_TInterval y6]⟩) (l28) ?_
 refine awp_seq (rg0 [4] 1 ⟨73, [(4, .asl 0 0 y6.length)], [aL 2 c_TInterval y6]⟩ ?_)
 refine then_n (awp_ret ?_)
 obtain rfl := Option.some.inj h24
 exact er (.sl false 2 y6.length (fun i => c_TInterval (y6.getD (0 + i) default))) sub_asl

/- netverify/netverifyref4.Intersect -/
theorem ref4_Intersect_ok (a0 : List TInterval) (a1 : List TInterval) (r : (List TInterval)) (h : M.ref4_Intersect a0 a1 = some r) : Fn Tryd.prog 33 [sL 2 c_TInterval a0, sL 2 c_TInterval a1] (.pure (sL 2 c_TInterval r)) := by
 unfold M.ref4_Intersect at h
 refine fn_pure Tryd.func33 rfl (by kernel_rfl) ?_
 refine awp_seq (rg0 [0, 1] 0 ⟨72, [(0, sL 2 c_TInterval a0), (1, sL 2 c_TInterval a1)], []⟩ ?_)
 refine then_n (awp_seq (rg0 [0, 1, 5] 0 ⟨72, [(0, sL 2 c_TInterval a0), (1, sL 2 c_TInterval a1), (5, .sl true 2 0 (fun _ => []))], []⟩ ?_))
 refine then_n (awp_seq (awp_seq (rg0 [0, 1, 5, 6] 0 ⟨72, [(0, sL 2 c_TInterval a0), (1, sL 2 c_TInterval a1), (5, .sl true 2 0 (fun _ => [])), (6, .int .i64 0)], []⟩ ?_)))
 refine then_n (awp_block ?_)
 refine awp_le (s' := ⟨72, [(0, sL 2 c_TInterval a0), (1, sL 2 c_TInterval a1), (5, .sl true 2 0 (fun _ => [])), (6, .int .i64 0)], []⟩) (le_rfl) ?_
 refine awp_le (s' := ⟨72, [(0, sL 2 c_TInterval a0), (1, sL 2 c_TInterval a1), (5, .asl 0 0 (([] : List TInterval).length)), (6, .int .i64 0)], [aL 2 c_TInterval ([] : List TInterval)]⟩) (Le.trans (s' := ⟨72, (5, .asl 0 0 0) :: [(0, sL 2 c_TInterval a0), (1, sL 2 c_TInterval a1), (5, .sl true 2 0 (fun _ => [])), (6, .int .i64 0)], [] ++ [.arr 2 0 (fun i => c_TInterval (([] : List TInterval).getD i default))]⟩) (le_thaw (wd := 2) (f := fun _ => []) 5 (by kernel_rfl) _ _) (kp [0, 1, 5, 6])) ?_
 obtain ⟨y7, q24, h25⟩ := bind_some h
 refine awp_le (s' := ⟨72, [(0, sL 2 c_TInterval a0), (1, sL 2 c_TInterval a1), (5, .asl 0 0 (([] : List TInterval).length)), (6, .int .i64 0)], [aL 2 c_TInterval ([] : List TInterval)]⟩) (le_rfl) ?_
 refine awp_mono (awp_loop (f := M.ref4_Intersect_l1 a0 a1) (S := fun (p1 : (List TInterval) × Int) => ⟨72, [(0, sL 2 c_TInterval a0), (1, sL 2 c_TInterval a1), (5, .asl 0 0 p1.1.length), (6, .int .i64 p1.2)], [aL 2 c_TInterval p1.1]⟩) (O := (fun z => OutE 0 (fun z => ⟨72, [(5, .asl 0 0 z.length)], [aL 2 c_TInterval z]⟩) z)) ?_ (x := (([] : List TInterval), 0)) (y := y7) (loopM_iter q24)) ?_
 intro p1 y2 h1
 unfold M.ref4_Intersect_l1 at h1
 refine awp_seq (awp_seq (rg0 [0, 1, 5, 6, 11] 1 ⟨72, [(0, sL 2 c_TInterval a0), (1, sL 2 c_TInterval a1), (5, .asl 0 0 p1.1.length), (6, .int .i64 p1.2), (11, .bool (decide (p1.2 < (a0.length : Int))))], [aL 2 c_TInterval p1.1]⟩ ?_))
 refine then_n ?_
 refine cnd (decide (p1.2 < (a0.length : Int))) (fun b2 => ?_) (fun b2 => ?_)
 have h3 := cond_t b2 h1
 refine awp_skip (then_n (awp_seq (awp_block (awp_seq (rg0 [0, 1, 5, 6, 7] 1 ⟨72, [(0, sL 2 c_TInterval a0), (1, sL 2 c_TInterval a1), (5, .asl 0 0 p1.1.length), (6, .int .i64 p1.2), (7, .int .i64 0)], [aL 2 c_TInterval p1.1]⟩ ?_)))))
 refine then_n (awp_block ?_)
 obtain ⟨y6, q18, h19⟩ := bind_some h3
 refine awp_le (s' := ⟨72, [(0, sL 2 c_TInterval a0), (1, sL 2 c_TInterval a1), (5, .asl 0 0 p1.1.length), (6, .int .i64 p1.2), (7, .int .i64 0)], [aL 2 c_TInterval p1.1]⟩) (le_rfl) ?_
 refine awp_mono (awp_loop (f := M.ref4_Intersect_l2 a0 a1 p1) (S := fun (p3 : (List TInterval) × Int) => ⟨72, [(0, sL 2 c_TInterval a0), (1, sL 2 c_TInterval a1), (5, .asl 0 0 p3.1.length), (6, .int .i64 p1.2), (7, .int .i64 p3.2)], [aL 2 c_TInterval p3.1]⟩) (O := (fun z => OutE 2 (fun z => ⟨72, [(0, sL 2 c_TInterval a0), (1, sL 2 c_TInterval a1), (5, .asl 0 0 z.length), (6, .int .i64 p1.2)], [aL 2 c_TInterval z]⟩) z)) ?_ (x := (p1.1, 0)) (y := y6) (loopM_iter q18)) ?_
 intro p3 y4 h5
 unfold M.ref4_Intersect_l2 at h5
 refine awp_seq (awp_seq (rg0 [0, 1, 5, 6, 7, 17] 1 ⟨72, [(0, sL 2 c_TInterval a0), (1, sL 2 c_TInterval a1), (5, .asl 0 0 p3.1.length), (6, .int .i64 p1.2), (7, .int .i64 p3.2), (17, .bool (decide (p3.2 < (a1.length : Int))))], [aL 2 c_TInterval p3.1]⟩ ?_))
 refine then_n ?_
 refine cnd (decide (p3.2 < (a1.length : Int))) (fun b6 => ?_) (fun b6 => ?_)
 have h7 := cond_t b6 h5
 refine awp_skip (then_n ?_)
 refine awp_join (fun (p5 : (List TInterval)) => ⟨72, [(0, sL 2 c_TInterval a0), (1, sL 2 c_TInterval a1), (5, .asl 0 0 p5.length), (6, .int .i64 p1.2), (7, .int .i64 p3.2)], [aL 2 c_TInterval p5]⟩) (fun p5 => M.ref4_Intersect_k1 p3 p5 = some y4) ?_ ?_
 intro p5 h10
 unfold M.ref4_Intersect_k1 at h10
 refine rg0 [0, 1, 5, 6, 7] 1 ⟨72, [(0, sL 2 c_TInterval a0), (1, sL 2 c_TInterval a1), (5, .asl 0 0 p5.length), (6, .int .i64 p1.2), (7, .int .i64 (wr .i64 (p3.2 + 1)))], [aL 2 c_TInterval p5]⟩ ?_
 obtain rfl := Option.some.inj h10
 exact round_n (le_rfl)
 intro k9
 refine awp_block (awp_seq ?_)
 obtain ⟨c11, h12⟩ := gd_some h7
 refine rgc [0, 1, 5, 6, 7, 43] 1 ⟨72, [(0, sL 2 c_TInterval a0), (1, sL 2 c_TInterval a1), (5, .asl 0 0 p3.1.length), (6, .int .i64 p1.2), (7, .int .i64 p3.2), (43, .bool ((decide (((a0.getD p1.2.toNat default).fLo) ≤ ((a0.getD p1.2.toNat default).fHi))) && (decide (((a1.getD p3.2.toNat default).fLo) ≤ ((a1.getD p3.2.toNat default).fHi)))))], [aL 2 c_TInterval p3.1]⟩ [decide (0 ≤ p1.2), decide (p1.2 < (a0.length : Int)), decide (0 ≤ p1.2), decide (p1.2 < (a0.length : Int)), guardB (decide (((a0.getD p1.2.toNat default).fLo) ≤ ((a0.getD p1.2.toNat default).fHi))) (decide (0 ≤ p3.2)), guardB (decide (((a0.getD p1.2.toNat default).fLo) ≤ ((a0.getD p1.2.toNat default).fHi))) (decide (p3.2 < (a1.length : Int))), guardB (decide (((a0.getD p1.2.toNat default).fLo) ≤ ((a0.getD p1.2.toNat default).fHi))) (decide (0 ≤ p3.2)), guardB (decide (((a0.getD p1.2.toNat default).fLo) ≤ ((a0.getD p1.2.toNat default).fHi))) (decide (p3.2 < (a1.length : Int)))] c11 ?_
 refine then_n ?_
 refine cnd ((decide (((a0.getD p1.2.toNat default).fLo) ≤ ((a0.getD p1.2.toNat default).fHi))) && (decide (((a1.getD p3.2.toNat default).fLo) ≤ ((a1.getD p3.2.toNat default).fHi)))) (fun b13 => ?_) (fun b13 => ?_)
 have h14 := cond_t b13 h12
 obtain ⟨c16, h17⟩ := gd_some h14
 refine rgb 25 [] [0, 1, 5, 6, 7] 1 ⟨72, [(0, sL 2 c_TInterval a0), (1, sL 2 c_TInterval a1), (5, .asl 0 0 (p3.1.length + 1)), (6, .int .i64 p1.2), (7, .int .i64 p3.2)], [.arr 2 (p3.1.length + 1) (app (fun i => c_TInterval (p3.1.getD i default)) p3.1.length (fun i => List.take 2 (List.drop (i * 2) [.int .u32 (if ((a1.getD p3.2.toNat default).fLo) > ((a0.getD p1.2.toNat default).fLo) then ((a1.getD p3.2.toNat default).fLo) else ((a0.getD p1.2.toNat default).fLo)), .int .u32 (if ((a1.getD p3.2.toNat default).fHi) < ((a0.getD p1.2.toNat default).fHi) then ((a1.getD p3.2.toNat default).fHi) else ((a0.getD p1.2.toNat default).fHi))])))]⟩ [decide (0 ≤ p1.2), decide (p1.2 < (a0.length : Int)), decide (0 ≤ p3.2), decide (p3.2 < (a1.length : Int)), decide (0 ≤ p1.2), decide (p1.2 < (a0.length : Int)), decide (0 ≤ p3.2), decide (p3.2 < (a1.length : Int)), decide ((p3.1.length + 1) * 8 ≤ 140737488355328)] [] c16 trivial ?_
 refine inb_n ?_
 exact then_le (le_sub (.cons Sub.rfl (.cons Sub.rfl (.cons (asl_len (len_snoc _ _)) (.cons Sub.rfl (.cons Sub.rfl .nil))))) (.cons (.arr (len_snoc _ _) (app_snoc c_TInterval p3.1 (⟨if ((a1.getD p3.2.toNat default).fLo) > ((a0.getD p1.2.toNat default).fLo) then ((a1.getD p3.2.toNat default).fLo) else ((a0.getD p1.2.toNat default).fLo), if ((a1.getD p3.2.toNat default).fHi) < ((a0.getD p1.2.toNat default).fHi) then ((a1.getD p3.2.toNat default).fHi) else ((a0.getD p1.2.toNat default).fHi)⟩ : TInterval) _ rfl)) .nil)) (k9 (p3.1 ++ [(⟨if ((a1.getD p3.2.toNat default).fLo) > ((a0.getD p1.2.toNat default).fLo) then ((a1.getD p3.2.toNat default).fLo) else ((a0.getD p1.2.toNat default).fLo), if ((a1.getD p3.2.toNat default).fHi) < ((a0.getD p1.2.toNat default).fHi) then ((a1.getD p3.2.toNat default).fHi) else ((a0.getD p1.2.toNat default).fHi)⟩ : TInterval)]) h17)
 have h15 := cond_f b13 h12
 refine awp_skip (inb_n ?_)
 exact then_le (kp [0, 1, 5, 6, 7]) (k9 p3.1 h15)
 have h8 := cond_f b6 h5
 refine awp_exit (then_e ?_)
 obtain rfl := Option.some.inj h8
 exact round_e ⟨rfl, kp [0, 1, 5, 6]⟩
 intro e20 s21 o22
 obtain ⟨rfl, l23⟩ := o22
 refine inb_here (inb_n ?_)
 refine then_le (s' := ⟨72, [(0, sL 2 c_TInterval a0), (1, sL 2 c_TInterval a1), (5, .asl 0 0 y6.length), (6, .int .i64 p1.2)], [aL 2 c_TInterval y6]⟩) (l23) ?_
 refine rg0 [0, 1, 5, 6] 1 ⟨72, [(0, sL 2 c_TInterval a0), (1, sL 2 c_TInterval a1), (5, .asl 0 0 y6.length), (6, .int .i64 (wr .i64 (p1.2 + 1)))], [aL 2 c_TInterval y6]⟩ ?_
 obtain rfl := Option.some.inj h19
 exact round_n (le_rfl)
 have h4 := cond_f b2 h1
 refine awp_exit (then_e ?_)
 obtain rfl := Option.some.inj h4
 exact round_e ⟨rfl, kp [5]⟩
 intro e26 s27 o28
 obtain ⟨rfl, l29⟩ := o28
 refine inb_here ?_
 refine then_le (s' := ⟨72, [(5, .asl 0 0 y7.length)], [aL 2 c_TInterval y7]⟩) (l29) ?_
 refine awp_seq ?_
 refine awp_le (s' := ⟨72, [(5, sL 2 c_TInterval y7)], [aL 2 c_TInterval ([] : List TInterval)]⟩) (Le.trans (le_frz 5 0 2 c_TInterval y7 (fun i => c_TInterval (([] : List TInterval).getD i default)) (by kernel_rfl) (by kernel_rfl) (by kernel_rfl)) (kp [5])) ?_
 obtain ⟨r8, q30, h31⟩ := bind_some h25
 refine rg [.pure (sL 2 c_TInterval r8)] [4] 0 ⟨72, [(4, sL 2 c_TInterval r8)], []⟩ [] [⟨true, 20, [sL 2 c_TInterval y7], .pure (sL 2 c_TInterval r8)⟩] nil_all ⟨fun _ => ref4_Normalize_ok y7 r8 q30, trivial⟩ ?_
 refine then_n (awp_ret ?_)
 obtain rfl := Option.some.inj h31
 exact er0 (sL 2 c_TInterval r8)

/- netverify/interval.Complement -/
theorem interval_Complement_ok (a0 : List TInterval) (r : (List TInterval)) (h : M.interval_Complement a0 = some r) : Fn Tryd.prog 31 [sL 2 c_TInterval a0] (.pure (sL 2 c_TInterval r)) := by
 unfold M.interval_Complement at h
 refine fn_pure Tryd.func31 rfl (by kernel_rfl) ?_
 refine awp_seq (rg0 [0] 0 ⟨42, [(0, sL 2 c_TInterval a0)], []⟩ ?_)
 refine then_n (awp_seq (rg0 [0, 3] 0 ⟨42, [(0, sL 2 c_TInterval a0), (3, .sl true 2 0 (fun _ => []))], []⟩ ?_))
 refine then_n (awp_seq (rg0 [0, 3, 4] 0 ⟨42, [(0, sL 2 c_TInterval a0), (3, .sl true 2 0 (fun _ => [])), (4, .int .u64 0)], []⟩ ?_))
 refine then_n (awp_seq (awp_seq ?_))
 obtain ⟨r1, q1, h2⟩ := bind_some h
 refine rg [.pure (sL 2 c_TInterval r1)] [3, 4, 8, 9, 10] 0 ⟨42, [(3, .sl true 2 0 (fun _ => [])), (4, .int .u64 0), (8, sL 2 c_TInterval r1), (9, .int .i64 (r1.length : Int)), (10, .int .i64 0)], []⟩ [] [⟨true, 18, [sL 2 c_TInterval a0], .pure (sL 2 c_TInterval r1)⟩] nil_all ⟨fun _ => interval_Normalize_ok a0 r1 q1, trivial⟩ ?_
 refine then_n (awp_block ?_)
 refine awp_le (s' := ⟨42, [(3, .sl true 2 0 (fun _ => [])), (4, .int .u64 0), (8, sL 2 c_TInterval r1), (9, .int .i64 (r1.length : Int)), (10, .int .i64 0)], []⟩) (le_rfl) ?_
 refine awp_le (s' := ⟨42, [(3, .asl 0 0 (([] : List TInterval).length)), (4, .int .u64 0), (8, sL 2 c_TInterval r1), (9, .int .i64 (r1.length : Int)), (10, .int .i64 0)], [aL 2 c_TInterval ([] : List TInterval)]⟩) (Le.trans (s' := ⟨42, (3, .asl 0 0 0) :: [(3, .sl true 2 0 (fun _ => [])), (4, .int .u64 0), (8, sL 2 c_TInterval r1), (9, .int .i64 (r1.length : Int)), (10, .int .i64 0)], [] ++ [.arr 2 0 (fun i => c_TInterval (([] : List TInterval).getD i default))]⟩) (le_thaw (wd := 2) (f := fun _ => []) 3 (by kernel_rfl) _ _) (kp [3, 4, 8, 9, 10])) ?_
 obtain ⟨y5, q16, h17⟩ := bind_some h2
 refine awp_le (s' := ⟨42, [(3, .asl 0 0 (([] : List TInterval).length)), (4, .int .u64 0), (8, sL 2 c_TInterval r1), (9, .int .i64 (r1.length : Int)), (10, .int .i64 0)], [aL 2 c_TInterval ([] : List TInterval)]⟩) (le_rfl) ?_
 refine awp_mono (awp_loop (f := M.interval_Complement_l1 r1) (S := fun (p2 : (List TInterval) × Int × Int) => ⟨42, [(3, .asl 0 0 p2.1.length), (4, .int .u64 p2.2.1), (8, sL 2 c_TInterval r1), (9, .int .i64 (r1.length : Int)), (10, .int .i64 p2.2.2)], [aL 2 c_TInterval p2.1]⟩) (O := (fun z => OutE 0 (fun z => ⟨42, [(3, .asl 0 0 z.2.length), (4, .int .u64 z.1)], [aL 2 c_TInterval z.2]⟩) z)) ?_ (x := (([] : List TInterval), 0, 0)) (y := y5) (loopM_iter q16)) ?_
 intro p2 y3 h3
 unfold M.interval_Complement_l1 at h3
 refine awp_seq (rg0 [3, 4, 8, 9, 10, 11] 1 ⟨42, [(3, .asl 0 0 p2.1.length), (4, .int .u64 p2.2.1), (8, sL 2 c_TInterval r1), (9, .int .i64 (r1.length : Int)), (10, .int .i64 p2.2.2), (11, .bool (decide (p2.2.2 < (r1.length : Int))))], [aL 2 c_TInterval p2.1]⟩ ?_)
 refine then_n (awp_seq ?_)
 refine cnd (decide (p2.2.2 < (r1.length : Int))) (fun b4 => ?_) (fun b4 => ?_)
 have h5 := cond_t b4 h3
 refine awp_skip (then_n (awp_seq (awp_block (awp_seq ?_))))
 obtain ⟨c7, h8⟩ := gd_some h5
 refine rgc [3, 4, 6, 8, 9, 10] 2 ⟨42, [(3, .asl 0 0 p2.1.length), (4, .int .u64 p2.2.1), (6, .ref 1 0), (8, sL 2 c_TInterval r1), (9, .int .i64 (r1.length : Int)), (10, .int .i64 p2.2.2)], [aL 2 c_TInterval p2.1, .box (c_TInterval (r1.getD p2.2.2.toNat default))]⟩ [decide (0 ≤ p2.2.2), decide (p2.2.2 < (r1.length : Int))] c7 ?_
 refine then_n ?_
 refine awp_join (fun (p4 : (List TInterval)) => ⟨42, [(3, .asl 0 0 p4.length), (6, .ref 1 0), (8, sL 2 c_TInterval r1), (9, .int .i64 (r1.length : Int)), (10, .int .i64 p2.2.2)], [aL 2 c_TInterval p4, .box (c_TInterval (r1.getD p2.2.2.toNat default))]⟩) (fun p4 => M.interval_Complement_k1 r1 p2 p4 = some y3) ?_ ?_
 intro p4 h10
 unfold M.interval_Complement_k1 at h10
 refine rg0 [3, 4, 8, 9, 10] 1 ⟨42, [(3, .asl 0 0 p4.length), (4, .int .u64 (wr .u64 ((wr .u64 ((r1.getD p2.2.2.toNat default).fHi)) + 1))), (8, sL 2 c_TInterval r1), (9, .int .i64 (r1.length : Int)), (10, .int .i64 p2.2.2)], [aL 2 c_TInterval p4]⟩ ?_
 refine inb_n (then_n (rg0 [3, 4, 8, 9, 10] 1 ⟨42, [(3, .asl 0 0 p4.length), (4, .int .u64 (wr .u64 ((wr .u64 ((r1.getD p2.2.2.toNat default).fHi)) + 1))), (8, sL 2 c_TInterval r1), (9, .int .i64 (r1.length : Int)), (10, .int .i64 (wr .i64 (p2.2.2 + 1)))], [aL 2 c_TInterval p4]⟩ ?_))
 obtain rfl := Option.some.inj h10
 exact round_n (le_rfl)
 intro k9
 refine awp_seq (rg0 [3, 4, 6, 8, 9, 10, 18] 2 ⟨42, [(3, .asl 0 0 p2.1.length), (4, .int .u64 p2.2.1), (6, .ref 1 0), (8, sL 2 c_TInterval r1), (9, .int .i64 (r1.length : Int)), (10, .int .i64 p2.2.2), (18, .bool (decide ((wr .u64 ((r1.getD p2.2.2.toNat default).fLo)) > p2.2.1)))], [aL 2 c_TInterval p2.1, .box (c_TInterval (r1.getD p2.2.2.toNat default))]⟩ ?_)
 refine then_n ?_
 refine cnd (decide ((wr .u64 ((r1.getD p2.2.2.toNat default).fLo)) > p2.2.1)) (fun b11 => ?_) (fun b11 => ?_)
 have h12 := cond_t b11 h8
 obtain ⟨c14, h15⟩ := gd_some h12
 refine rgc [3, 6, 8, 9, 10] 2 ⟨42, [(3, .asl 0 0 (p2.1.length + 1)), (6, .ref 1 0), (8, sL 2 c_TInterval r1), (9, .int .i64 (r1.length : Int)), (10, .int .i64 p2.2.2)], [.arr 2 (p2.1.length + 1) (app (fun i => c_TInterval (p2.1.getD i default)) p2.1.length (fun i => List.take 2 (List.drop (i * 2) [.int .u32 (wr .u32 p2.2.1), .int .u32 (wr .u32 (((r1.getD p2.2.2.toNat default).fLo) - 1))]))), .box (c_TInterval (r1.getD p2.2.2.toNat default))]⟩ [decide ((p2.1.length + 1) * 8 ≤ 140737488355328)] c14 ?_
 exact then_le (le_sub (.cons (asl_len (len_snoc _ _)) (.cons Sub.rfl (.cons Sub.rfl (.cons Sub.rfl (.cons Sub.rfl .nil))))) (.cons (.arr (len_snoc _ _) (app_snoc c_TInterval p2.1 (⟨wr .u32 p2.2.1, wr .u32 (((r1.getD p2.2.2.toNat default).fLo) - 1)⟩ : TInterval) _ rfl)) (.cons .rfl .nil))) (k9 (p2.1 ++ [(⟨wr .u32 p2.2.1, wr .u32 (((r1.getD p2.2.2.toNat default).fLo) - 1)⟩ : TInterval)]) h15)
 have h13 := cond_f b11 h8
 refine awp_skip ?_
 exact then_le (kp [3, 6, 8, 9, 10]) (k9 p2.1 h13)
 have h6 := cond_f b4 h3
 refine awp_exit (then_e ?_)
 obtain rfl := Option.some.inj h6
 exact round_e ⟨rfl, kp [3, 4]⟩
 intro e18 s19 o20
 obtain ⟨rfl, l21⟩ := o20
 refine inb_here ?_
 refine then_le (s' := ⟨42, [(3, .asl 0 0 y5.2.length), (4, .int .u64 y5.1)], [aL 2 c_TInterval y5.2]⟩) (l21) ?_
 refine awp_join (fun (p6 : (List TInterval)) => ⟨42, [(3, .asl 0 0 p6.length)], [aL 2 c_TInterval p6]⟩) (fun p6 => M.interval_Complement_k2 p6 = some r) ?_ ?_
 intro p6 h23
 unfold M.interval_Complement_k2 at h23
 refine awp_seq (rg0 [2] 1 ⟨42, [(2, .asl 0 0 p6.length)], [aL 2 c_TInterval p6]⟩ ?_)
 refine then_n (awp_ret ?_)
 obtain rfl := Option.some.inj h23
 exact er (.sl false 2 p6.length (fun i => c_TInterval (p6.getD (0 + i) default))) sub_asl
 intro k22
 refine awp_seq (rg0 [3, 4, 34] 1 ⟨42, [(3, .asl 0 0 y5.2.length), (4, .int .u64 y5.1), (34, .bool (decide (y5.1 ≤ 4294967295)))], [aL 2 c_TInterval y5.2]⟩ ?_)
 refine then_n ?_
 refine cnd (decide (y5.1 ≤ 4294967295)) (fun b24 => ?_) (fun b24 => ?_)
 have h25 := cond_t b24 h17
 obtain ⟨c27, h28⟩ := gd_some h25
 refine rgc [3] 1 ⟨42, [(3, .asl 0 0 (y5.2.length + 1))], [.arr 2 (y5.2.length + 1) (app (fun i => c_TInterval (y5.2.getD i default)) y5.2.length (fun i => List.take 2 (List.drop (i * 2) [.int .u32 (wr .u32 y5.1), .int .u32 4294967295])))]⟩ [decide ((y5.2.length + 1) * 8 ≤ 140737488355328)] c27 ?_
 exact then_le (le_sub (.cons (asl_len (len_snoc _ _)) .nil) (.cons (.arr (len_snoc _ _) (app_snoc c_TInterval y5.2 (⟨wr .u32 y5.1, 4294967295⟩ : TInterval) _ rfl)) .nil)) (k22 (y5.2 ++ [(⟨wr .u32 y5.1, 4294967295⟩ : TInterval)]) h28)
 have h26 := cond_f b24 h17
 refine awp_skip ?_
 exact then_le (kp [3]) (k22 y5.2 h26)

/- netverify/interval.Subtract -/
theorem interval_Subtract_ok (a0 : List TInterval) (a1 : List TInterval) (r : (List TInterval)) (h : M.interval_Subtract a0 a1 = some r) : Fn Tryd.prog 34 [sL 2 c_TInterval a0, sL 2 c_TInterval a1] (.pure (sL 2 c_TInterval r)) := by
 unfold M.interval_Subtract at h
 refine fn_pure Tryd.func34 rfl (by kernel_rfl) ?_
 refine awp_seq (rg0 [0, 1] 0 ⟨9, [(0, sL 2 c_TInterval a0), (1, sL 2 c_TInterval a1)], []⟩ ?_)
 refine then_n (awp_seq ?_)
 obtain ⟨r1, q1, h2⟩ := bind_some h
 obtain ⟨r2, q3, h4⟩ := bind_some h2
 refine rg [.pure (sL 2 c_TInterval r1), .pure (sL 2 c_TInterval r2)] [4] 0 ⟨9, [(4, sL 2 c_TInterval r2)], []⟩ [] [⟨true, 31, [sL 2 c_TInterval a1], .pure (sL 2 c_TInterval r1)⟩, ⟨true, 30, [sL 2 c_TInterval a0, sL 2 c_TInterval r1], .pure (sL 2 c_TInterval r2)⟩] nil_all ⟨fun _ => interval_Complement_ok a1 r1 q1, fun _ => interval_Intersect_ok a0 r1 r2 q3, trivial⟩ ?_
 refine then_n (awp_ret ?_)
 obtain rfl := Option.some.inj h4
 exact er0 (sL 2 c_TInterval r2)

/- netverify/netverifyref4.Complement -/
theorem ref4_Complement_ok (a0 : List TInterval) (r : (List TInterval)) (h : M.ref4_Complement a0 = some r) : Fn Tryd.prog 36 [sL 2 c_TInterval a0] (.pure (sL 2 c_TInterval r)) := by
 unfold M.ref4_Complement at h
 refine fn_pure Tryd.func36 rfl (by kernel_rfl) ?_
 refine awp_seq (rg0 [0] 0 ⟨51, [(0, sL 2 c_TInterval a0)], []⟩ ?_)
 refine then_n (awp_seq ?_)
 obtain ⟨r1, q1, h2⟩ := bind_some h
 refine rg [.pure (sL 2 c_TInterval r1)] [3] 0 ⟨51, [(3, sL 2 c_TInterval r1)], []⟩ [] [⟨true, 20, [sL 2 c_TInterval a0], .pure (sL 2 c_TInterval r1)⟩] nil_all ⟨fun _ => ref4_Normalize_ok a0 r1 q1, trivial⟩ ?_
 refine then_n (awp_seq (rg0 [3, 4] 0 ⟨51, [(3, sL 2 c_TInterval r1), (4, .sl true 2 0 (fun _ => []))], []⟩ ?_))
 refine then_n (awp_seq (rg0 [3, 4, 5] 0 ⟨51, [(3, sL 2 c_TInterval r1), (4, .sl true 2 0 (fun _ => [])), (5, .int .u64 0)], []⟩ ?_))
 refine then_n (awp_seq (awp_seq (rg0 [3, 4, 5, 6] 0 ⟨51, [(3, sL 2 c_TInterval r1), (4, .sl true 2 0 (fun _ => [])), (5, .int .u64 0), (6, .int .i64 0)], []⟩ ?_)))
 refine then_n (awp_block ?_)
 refine awp_le (s' := ⟨51, [(3, sL 2 c_TInterval r1), (4, .sl true 2 0 (fun _ => [])), (5, .int .u64 0), (6, .int .i64 0)], []⟩) (le_rfl) ?_
 refine awp_le (s' := ⟨51, [(3, sL 2 c_TInterval r1), (4, .asl 0 0 (([] : List TInterval).length)), (5, .int .u64 0), (6, .int .i64 0)], [aL 2 c_TInterval ([] : List TInterval)]⟩) (Le.trans (s' := ⟨51, (4, .asl 0 0 0) :: [(3, sL 2 c_TInterval r1), (4, .sl true 2 0 (fun _ => [])), (5, .int .u64 0), (6, .int .i64 0)], [] ++ [.arr 2 0 (fun i => c_TInterval (([] : List TInterval).getD i default))]⟩) (le_thaw (wd := 2) (f := fun _ => []) 4 (by kernel_rfl) _ _) (kp [3, 4, 5, 6])) ?_
 obtain ⟨y5, q18, h19⟩ := bind_some h2
 refine awp_le (s' := ⟨51, [(3, sL 2 c_TInterval r1), (4, .asl 0 0 (([] : List TInterval).length)), (5, .int .u64 0), (6, .int .i64 0)], [aL 2 c_TInterval ([] : List TInterval)]⟩) (le_rfl) ?_
 refine awp_mono (awp_loop (f := M.ref4_Complement_l1 r1) (S := fun (p2 : (List TInterval) × Int × Int) => ⟨51, [(3, sL 2 c_TInterval r1), (4, .asl 0 0 p2.1.length), (5, .int .u64 p2.2.1), (6, .int .i64 p2.2.2)], [aL 2 c_TInterval p2.1]⟩) (O := (fun z => OutE 0 (fun z => ⟨51, [(4, .asl 0 0 z.2.length), (5, .int .u64 z.1)], [aL 2 c_TInterval z.2]⟩) z)) ?_ (x := (([] : List TInterval), 0, 0)) (y := y5) (loopM_iter q18)) ?_
 intro p2 y3 h3
 unfold M.ref4_Complement_l1 at h3
 refine awp_seq (awp_seq (rg0 [3, 4, 5, 6, 12] 1 ⟨51, [(3, sL 2 c_TInterval r1), (4, .asl 0 0 p2.1.length), (5, .int .u64 p2.2.1), (6, .int .i64 p2.2.2), (12, .bool (decide (p2.2.2 < (r1.length : Int))))], [aL 2 c_TInterval p2.1]⟩ ?_))
 refine then_n ?_
 refine cnd (decide (p2.2.2 < (r1.length : Int))) (fun b4 => ?_) (fun b4 => ?_)
 have h5 := cond_t b4 h3
 refine awp_skip (then_n (awp_seq (awp_block ?_)))
 refine awp_join (fun (p4 : (List TInterval)) => ⟨51, [(3, sL 2 c_TInterval r1), (4, .asl 0 0 p4.length), (6, .int .i64 p2.2.2)], [aL 2 c_TInterval p4]⟩) (fun p4 => M.ref4_Complement_k1 r1 p2 p4 = some y3) ?_ ?_
 intro p4 h8
 unfold M.ref4_Complement_k1 at h8
 obtain ⟨c9, h10⟩ := gd_some h8
 refine rgc [3, 4, 5, 6] 1 ⟨51, [(3, sL 2 c_TInterval r1), (4, .asl 0 0 p4.length), (5, .int .u64 (wr .u64 ((wr .u64 ((r1.getD p2.2.2.toNat default).fHi)) + 1))), (6, .int .i64 p2.2.2)], [aL 2 c_TInterval p4]⟩ [decide (0 ≤ p2.2.2), decide (p2.2.2 < (r1.length : Int))] c9 ?_
 refine inb_n (then_n (rg0 [3, 4, 5, 6] 1 ⟨51, [(3, sL 2 c_TInterval r1), (4, .asl 0 0 p4.length), (5, .int .u64 (wr .u64 ((wr .u64 ((r1.getD p2.2.2.toNat default).fHi)) + 1))), (6, .int .i64 (wr .i64 (p2.2.2 + 1)))], [aL 2 c_TInterval p4]⟩ ?_))
 obtain rfl := Option.some.inj h10
 exact round_n (le_rfl)
 intro k7
 refine awp_seq ?_
 obtain ⟨c11, h12⟩ := gd_some h5
 refine rgc [3, 4, 5, 6, 22] 1 ⟨51, [(3, sL 2 c_TInterval r1), (4, .asl 0 0 p2.1.length), (5, .int .u64 p2.2.1), (6, .int .i64 p2.2.2), (22, .bool (decide ((wr .u64 ((r1.getD p2.2.2.toNat default).fLo)) > p2.2.1)))], [aL 2 c_TInterval p2.1]⟩ [decide (0 ≤ p2.2.2), decide (p2.2.2 < (r1.length : Int))] c11 ?_
 refine then_n ?_
 refine cnd (decide ((wr .u64 ((r1.getD p2.2.2.toNat default).fLo)) > p2.2.1)) (fun b13 => ?_) (fun b13 => ?_)
 have h14 := cond_t b13 h12
 obtain ⟨c16, h17⟩ := gd_some h14
 refine rgc [3, 4, 6] 1 ⟨51, [(3, sL 2 c_TInterval r1), (4, .asl 0 0 (p2.1.length + 1)), (6, .int .i64 p2.2.2)], [.arr 2 (p2.1.length + 1) (app (fun i => c_TInterval (p2.1.getD i default)) p2.1.length (fun i => List.take 2 (List.drop (i * 2) [.int .u32 (wr .u32 p2.2.1), .int .u32 (wr .u32 (((r1.getD p2.2.2.toNat default).fLo) - 1))])))]⟩ [decide (0 ≤ p2.2.2), decide (p2.2.2 < (r1.length : Int)), decide ((p2.1.length + 1) * 8 ≤ 140737488355328)] c16 ?_
 exact then_le (le_sub (.cons Sub.rfl (.cons (asl_len (len_snoc _ _)) (.cons Sub.rfl .nil))) (.cons (.arr (len_snoc _ _) (app_snoc c_TInterval p2.1 (⟨wr .u32 p2.2.1, wr .u32 (((r1.getD p2.2.2.toNat default).fLo) - 1)⟩ : TInterval) _ rfl)) .nil)) (k7 (p2.1 ++ [(⟨wr .u32 p2.2.1, wr .u32 (((r1.getD p2.2.2.toNat default).fLo) - 1)⟩ : TInterval)]) h17)
 have h15 := cond_f b13 h12
 refine awp_skip ?_
 exact then_le (kp [3, 4, 6]) (k7 p2.1 h15)
 have h6 := cond_f b4 h3
 refine awp_exit (then_e ?_)
 obtain rfl := Option.some.inj h6
 exact round_e ⟨rfl, kp [4, 5]⟩
 intro e20 s21 o22
 obtain ⟨rfl, l23⟩ := o22
 refine inb_here ?_
 refine then_le (s' := ⟨51, [(4, .asl 0 0 y5.2.length), (5, .int .u64 y5.1)], [aL 2 c_TInterval y5.2]⟩) (l23) ?_
 refine awp_join (fun (p6 : (List TInterval)) => ⟨51, [(4, .asl 0 0 p6.length)], [aL 2 c_TInterval p6]⟩) (fun p6 => M.ref4_Complement_k2 p6 = some r) ?_ ?_
 intro p6 h25
 unfold M.ref4_Complement_k2 at h25
 refine awp_seq (rg0 [2] 1 ⟨51, [(2, .asl 0 0 p6.length)], [aL 2 c_TInterval p6]⟩ ?_)
 refine then_n (awp_ret ?_)
 obtain rfl := Option.some.inj h25
 exact er (.sl false 2 p6.length (fun i => c_TInterval (p6.getD (0 + i) default))) sub_asl
 intro k24
 refine awp_seq (rg0 [4, 5, 43] 1 ⟨51, [(4, .asl 0 0 y5.2.length), (5, .int .u64 y5.1), (43, .bool (decide (y5.1 < 4294967296)))], [aL 2 c_TInterval y5.2]⟩ ?_)
 refine then_n ?_
 refine cnd (decide (y5.1 < 4294967296)) (fun b26 => ?_) (fun b26 => ?_)
 have h27 := cond_t b26 h19
 obtain ⟨c29, h30⟩ := gd_some h27
 refine rgc [4] 1 ⟨51, [(4, .asl 0 0 (y5.2.length + 1))], [.arr 2 (y5.2.length + 1) (app (fun i => c_TInterval (y5.2.getD i default)) y5.2.length (fun i => List.take 2 (List.drop (i * 2) [.int .u32 (wr .u32 y5.1), .int .u32 4294967295])))]⟩ [decide ((y5.2.length + 1) * 8 ≤ 140737488355328)] c29 ?_
 exact then_le (le_sub (.cons (asl_len (len_snoc _ _)) .nil) (.cons (.arr (len_snoc _ _) (app_snoc c_TInterval y5.2 (⟨wr .u32 y5.1, 4294967295⟩ : TInterval) _ rfl)) .nil)) (k24 (y5.2 ++ [(⟨wr .u32 y5.1, 4294967295⟩ : TInterval)]) h30)
 have h28 := cond_f b26 h19
 refine awp_skip ?_
 exact then_le (kp [4]) (k24 y5.2 h28)

/- netverify/netverifyref4.Subtract -/
theorem ref4_Subtract_ok (a0 : List TInterval) (a1 : List TInterval) (r : (List TInterval)) (h : M.ref4_Subtract a0 a1 = some r) : Fn Tryd.prog 35 [sL 2 c_TInterval a0, sL 2 c_TInterval a1] (.pure (sL 2 c_TInterval r)) := by
 unfold M.ref4_Subtract at h
 refine fn_pure Tryd.func35 rfl (by kernel_rfl) ?_
 refine awp_seq (rg0 [0, 1] 0 ⟨9, [(0, sL 2 c_TInterval a0), (1, sL 2 c_TInterval a1)], []⟩ ?_)
 refine then_n (awp_seq ?_)
 obtain ⟨r1, q1, h2⟩ := bind_some h
 obtain ⟨r2, q3, h4⟩ := bind_some h2
 refine rg [.pure (sL 2 c_TInterval r1), .pure (sL 2 c_TInterval r2)] [4] 0 ⟨9, [(4, sL 2 c_TInterval r2)], []⟩ [] [⟨true, 36, [sL 2 c_TInterval a1], .pure (sL 2 c_TInterval r1)⟩, ⟨true, 33, [sL 2 c_TInterval a0, sL 2 c_TInterval r1], .pure (sL 2 c_TInterval r2)⟩] nil_all ⟨fun _ => ref4_Complement_ok a1 r1 q1, fun _ => ref4_Intersect_ok a0 r1 r2 q3, trivial⟩ ?_
 refine then_n (awp_ret ?_)
 obtain rfl := Option.some.inj h4
 exact er0 (sL 2 c_TInterval r2)

/- netverify/interval.Size -/
theorem interval_Size_ok (a0 : List TInterval) (r : Int) (h : M.interval_Size a0 = some r) : Fn Tryd.prog 28 [sL 2 c_TInterval a0] (.pure (.int .u64 r)) := by
 unfold M.interval_Size at h
 refine fn_pure Tryd.func28 rfl (by kernel_rfl) ?_
 refine awp_seq (rg0 [0] 0 ⟨25, [(0, sL 2 c_TInterval a0)], []⟩ ?_)
 refine then_n (awp_seq (rg0 [0, 3] 0 ⟨25, [(0, sL 2 c_TInterval a0), (3, .int .u64 0)], []⟩ ?_))
 refine then_n (awp_seq (awp_seq ?_))
 obtain ⟨r1, q1, h2⟩ := bind_some h
 refine rg [.pure (sL 2 c_TInterval r1)] [3, 7, 8, 9] 0 ⟨25, [(3, .int .u64 0), (7, sL 2 c_TInterval r1), (8, .int .i64 (r1.length : Int)), (9, .int .i64 0)], []⟩ [] [⟨true, 18, [sL 2 c_TInterval a0], .pure (sL 2 c_TInterval r1)⟩] nil_all ⟨fun _ => interval_Normalize_ok a0 r1 q1, trivial⟩ ?_
 refine then_n (awp_block ?_)
 obtain ⟨y4, q9, h10⟩ := bind_some h2
 refine awp_le (s' := ⟨25, [(3, .int .u64 0), (7, sL 2 c_TInterval r1), (8, .int .i64 (r1.length : Int)), (9, .int .i64 0)], []⟩) (le_rfl) ?_
 refine awp_mono (awp_loop (f := M.interval_Size_l1 r1) (S := fun (p2 : Int × Int) => ⟨25, [(3, .int .u64 p2.1), (7, sL 2 c_TInterval r1), (8, .int .i64 (r1.length : Int)), (9, .int .i64 p2.2)], []⟩) (O := (fun z => OutE 0 (fun z => ⟨25, [(3, .int .u64 z)], []⟩) z)) ?_ (x := (0, 0)) (y := y4) (loopM_iter q9)) ?_
 intro p2 y3 h3
 unfold M.interval_Size_l1 at h3
 refine awp_seq (rg0 [3, 7, 8, 9, 10] 0 ⟨25, [(3, .int .u64 p2.1), (7, sL 2 c_TInterval r1), (8, .int .i64 (r1.length : Int)), (9, .int .i64 p2.2), (10, .bool (decide (p2.2 < (r1.length : Int))))], []⟩ ?_)
 refine then_n (awp_seq ?_)
 refine cnd (decide (p2.2 < (r1.length : Int))) (fun b4 => ?_) (fun b4 => ?_)
 have h5 := cond_t b4 h3
 refine awp_skip (then_n (awp_seq (awp_block (awp_seq ?_))))
 obtain ⟨c7, h8⟩ := gd_some h5
 refine rgc [3, 5, 7, 8, 9] 1 ⟨25, [(3, .int .u64 p2.1), (5, .ref 0 0), (7, sL 2 c_TInterval r1), (8, .int .i64 (r1.length : Int)), (9, .int .i64 p2.2)], [.box (c_TInterval (r1.getD p2.2.toNat default))]⟩ [decide (0 ≤ p2.2), decide (p2.2 < (r1.length : Int))] c7 ?_
 refine then_n (rg0 [3, 7, 8, 9] 0 ⟨25, [(3, .int .u64 (wr .u64 (p2.1 + (wr .u64 ((wr .u64 ((wr .u64 ((r1.getD p2.2.toNat default).fHi)) - (wr .u64 ((r1.getD p2.2.toNat default).fLo)))) + 1))))), (7, sL 2 c_TInterval r1), (8, .int .i64 (r1.length : Int)), (9, .int .i64 p2.2)], []⟩ ?_)
 refine inb_n (then_n (rg0 [3, 7, 8, 9] 0 ⟨25, [(3, .int .u64 (wr .u64 (p2.1 + (wr .u64 ((wr .u64 ((wr .u64 ((r1.getD p2.2.toNat default).fHi)) - (wr .u64 ((r1.getD p2.2.toNat default).fLo)))) + 1))))), (7, sL 2 c_TInterval r1), (8, .int .i64 (r1.length : Int)), (9, .int .i64 (wr .i64 (p2.2 + 1)))], []⟩ ?_))
 obtain rfl := Option.some.inj h8
 exact round_n (le_rfl)
 have h6 := cond_f b4 h3
 refine awp_exit (then_e ?_)
 obtain rfl := Option.some.inj h6
 exact round_e ⟨rfl, kp [3]⟩
 intro e11 s12 o13
 obtain ⟨rfl, l14⟩ := o13
 refine inb_here ?_
 refine then_le (s' := ⟨25, [(3, .int .u64 y4)], []⟩) (l14) ?_
 refine awp_seq (rg0 [2] 0 ⟨25, [(2, .int .u64 y4)], []⟩ ?_)
 refine then_n (awp_ret ?_)
 obtain rfl := Option.some.inj h10
 exact er0 (.int .u64 y4)

/- netverify/netverifyref4.Size -/
theorem ref4_Size_ok (a0 : List TInterval) (r : Int) (h : M.ref4_Size a0 = some r) : Fn Tryd.prog 37 [sL 2 c_TInterval a0] (.pure (.int .u64 r)) := by
 unfold M.ref4_Size at h
 refine fn_pure Tryd.func37 rfl (by kernel_rfl) ?_
 refine awp_seq (rg0 [0] 0 ⟨31, [(0, sL 2 c_TInterval a0)], []⟩ ?_)
 refine then_n (awp_seq ?_)
 obtain ⟨r1, q1, h2⟩ := bind_some h
 refine rg [.pure (sL 2 c_TInterval r1)] [3] 0 ⟨31, [(3, sL 2 c_TInterval r1)], []⟩ [] [⟨true, 20, [sL 2 c_TInterval a0], .pure (sL 2 c_TInterval r1)⟩] nil_all ⟨fun _ => ref4_Normalize_ok a0 r1 q1, trivial⟩ ?_
 refine then_n (awp_seq (rg0 [3, 4] 0 ⟨31, [(3, sL 2 c_TInterval r1), (4, .int .u64 0)], []⟩ ?_))
 refine then_n (awp_seq (awp_seq (rg0 [3, 4, 5] 0 ⟨31, [(3, sL 2 c_TInterval r1), (4, .int .u64 0), (5, .int .i64 0)], []⟩ ?_)))
 refine then_n (awp_block ?_)
 obtain ⟨y4, q9, h10⟩ := bind_some h2
 refine awp_le (s' := ⟨31, [(3, sL 2 c_TInterval r1), (4, .int .u64 0), (5, .int .i64 0)], []⟩) (le_rfl) ?_
 refine awp_mono (awp_loop (f := M.ref4_Size_l1 r1) (S := fun (p2 : Int × Int) => ⟨31, [(3, sL 2 c_TInterval r1), (4, .int .u64 p2.1), (5, .int .i64 p2.2)], []⟩) (O := (fun z => OutE 0 (fun z => ⟨31, [(4, .int .u64 z)], []⟩) z)) ?_ (x := (0, 0)) (y := y4) (loopM_iter q9)) ?_
 intro p2 y3 h3
 unfold M.ref4_Size_l1 at h3
 refine awp_seq (awp_seq (rg0 [3, 4, 5, 11] 0 ⟨31, [(3, sL 2 c_TInterval r1), (4, .int .u64 p2.1), (5, .int .i64 p2.2), (11, .bool (decide (p2.2 < (r1.length : Int))))], []⟩ ?_))
 refine then_n ?_
 refine cnd (decide (p2.2 < (r1.length : Int))) (fun b4 => ?_) (fun b4 => ?_)
 have h5 := cond_t b4 h3
 refine awp_skip (then_n (awp_seq (awp_block ?_)))
 obtain ⟨c7, h8⟩ := gd_some h5
 refine rgc [3, 4, 5] 0 ⟨31, [(3, sL 2 c_TInterval r1), (4, .int .u64 (wr .u64 ((wr .u64 ((wr .u64 (p2.1 + (wr .u64 ((r1.getD p2.2.toNat default).fHi)))) - (wr .u64 ((r1.getD p2.2.toNat default).fLo)))) + 1))), (5, .int .i64 p2.2)], []⟩ [decide (0 ≤ p2.2), decide (p2.2 < (r1.length : Int)), decide (0 ≤ p2.2), decide (p2.2 < (r1.length : Int))] c7 ?_
 refine inb_n (then_n (rg0 [3, 4, 5] 0 ⟨31, [(3, sL 2 c_TInterval r1), (4, .int .u64 (wr .u64 ((wr .u64 ((wr .u64 (p2.1 + (wr .u64 ((r1.getD p2.2.toNat default).fHi)))) - (wr .u64 ((r1.getD p2.2.toNat default).fLo)))) + 1))), (5, .int .i64 (wr .i64 (p2.2 + 1)))], []⟩ ?_))
 obtain rfl := Option.some.inj h8
 exact round_n (le_rfl)
 have h6 := cond_f b4 h3
 refine awp_exit (then_e ?_)
 obtain rfl := Option.some.inj h6
 exact round_e ⟨rfl, kp [4]⟩
 intro e11 s12 o13
 obtain ⟨rfl, l14⟩ := o13
 refine inb_here ?_
 refine then_le (s' := ⟨31, [(4, .int .u64 y4)], []⟩) (l14) ?_
 refine awp_seq (rg0 [2] 0 ⟨31, [(2, .int .u64 y4)], []⟩ ?_)
 refine then_n (awp_ret ?_)
 obtain rfl := Option.some.inj h10
 exact er0 (.int .u64 y4)

/- netverify/interval.Has$1 -/
theorem interval_Has_1_ok (a0 : TInterval) (b0 : Int) (r : Bool) (h : M.interval_Has_1 a0 b0 = some r) : Fn Tryd.prog 45 [.agg (c_TInterval a0), .pp ((ci .u32) b0)] (.pure (.bool r)) := by
 unfold M.interval_Has_1 at h
 refine fn_pure Tryd.func45 rfl (by kernel_rfl) ?_
 refine awp_seq (rg0 [1, 2] 1 ⟨14, [(1, .pp ((ci .u32) b0)), (2, .ref 0 0)], [.box (c_TInterval a0)]⟩ ?_)
 refine then_n (awp_seq (rg0 [3] 0 ⟨14, [(3, .bool ((decide (a0.fLo ≤ b0)) && (decide (b0 ≤ a0.fHi))))], []⟩ ?_))
 refine then_n (awp_ret ?_)
 obtain rfl := Option.some.inj h
 exact er0 (.bool ((decide (a0.fLo ≤ b0)) && (decide (b0 ≤ a0.fHi))))

/- slices.IndexFunc[[]netverify/api.Interval,netverify/api.Interval] -/
theorem slices_IndexFunc_api_Interval_api_Interval__interval_Has_1_ok (a0 : List TInterval) (a1c0 : Int) (r : Int) (h : M.slices_IndexFunc_api_Interval_api_Interval__interval_Has_1 a0 a1c0 = some r) : Fn Tryd.prog 52 [sL 2 c_TInterval a0, .fn 45 [.pp ((ci .u32) a1c0)]] (.pure (.int .i64 r)) := by
 unfold M.slices_IndexFunc_api_Interval_api_Interval__interval_Has_1 at h
 refine fn_pure Tryd.func52 rfl (by kernel_rfl) ?_
 refine awp_seq (rg0 [0, 1] 0 ⟨19, [(0, sL 2 c_TInterval a0), (1, .fn 45 [.pp ((ci .u32) a1c0)])], []⟩ ?_)
 refine then_n (awp_seq (awp_seq (rg0 [0, 1, 7, 8] 0 ⟨19, [(0, sL 2 c_TInterval a0), (1, .fn 45 [.pp ((ci .u32) a1c0)]), (7, .int .i64 (a0.length : Int)), (8, .int .i64 0)], []⟩ ?_)))
 refine then_n (awp_block ?_)
 obtain ⟨y4, q12, h13⟩ := bind_some h
 refine awp_le (s' := ⟨19, [(0, sL 2 c_TInterval a0), (1, .fn 45 [.pp ((ci .u32) a1c0)]), (7, .int .i64 (a0.length : Int)), (8, .int .i64 0)], []⟩) (le_rfl) ?_
 refine awp_mono (awp_loop (f := M.slices_IndexFunc_api_Interval_api_Interval__interval_Has_1_l1 a0 a1c0) (S := fun (p1 : Int) => ⟨19, [(0, sL 2 c_TInterval a0), (1, .fn 45 [.pp ((ci .u32) a1c0)]), (7, .int .i64 (a0.length : Int)), (8, .int .i64 p1)], []⟩) (O := (Sum.elim (fun z => OutE 0 (fun z => ⟨19, [], []⟩) z) (fun z => OutR Tryd.prog Tryd.f52 (.int .i64 z)))) ?_ (x := 0) (y := y4) (loopM_iter q12)) ?_
 intro p1 y2 h1
 unfold M.slices_IndexFunc_api_Interval_api_Interval__interval_Has_1_l1 at h1
 refine awp_seq (rg0 [0, 1, 7, 8, 9] 0 ⟨19, [(0, sL 2 c_TInterval a0), (1, .fn 45 [.pp ((ci .u32) a1c0)]), (7, .int .i64 (a0.length : Int)), (8, .int .i64 p1), (9, .bool (decide (p1 < (a0.length : Int))))], []⟩ ?_)
 refine then_n (awp_seq ?_)
 refine cnd (decide (p1 < (a0.length : Int))) (fun b2 => ?_) (fun b2 => ?_)
 have h3 := cond_t b2 h1
 refine awp_skip (then_n (awp_seq (awp_block (awp_seq (rg0 [0, 1, 5, 7, 8] 0 ⟨19, [(0, sL 2 c_TInterval a0), (1, .fn 45 [.pp ((ci .u32) a1c0)]), (5, .int .i64 p1), (7, .int .i64 (a0.length : Int)), (8, .int .i64 p1)], []⟩ ?_)))))
 refine then_n (awp_seq ?_)
 obtain ⟨r3, q5, h6⟩ := bind_some h3
 obtain ⟨c7, h8⟩ := gd_some h6
 refine rg [.pure (.bool r3)] [0, 1, 5, 7, 8, 16] 0 ⟨19, [(0, sL 2 c_TInterval a0), (1, .fn 45 [.pp ((ci .u32) a1c0)]), (5, .int .i64 p1), (7, .int .i64 (a0.length : Int)), (8, .int .i64 p1), (16, .bool r3)], []⟩ [decide (0 ≤ p1), decide (p1 < (a0.length : Int))] [⟨true, 45, [.agg (c_TInterval (a0.getD p1.toNat default)), .pp ((ci .u32) a1c0)], .pure (.bool r3)⟩] c7 ⟨fun _ => interval_Has_1_ok (a0.getD p1.toNat default) a1c0 r3 q5, trivial⟩ ?_
 refine then_n ?_
 refine cnd r3 (fun b9 => ?_) (fun b9 => ?_)
 have h10 := cond_t b9 h8
 refine awp_seq (rg0 [4] 0 ⟨19, [(4, .int .i64 p1)], []⟩ ?_)
 refine then_n (awp_ret (inb_r (then_r ?_)))
 obtain rfl := Option.some.inj h10
 exact round_r ⟨rfl, er0 (.int .i64 p1)⟩
 have h11 := cond_f b9 h8
 refine awp_skip (inb_n (then_n (rg0 [0, 1, 7, 8] 0 ⟨19, [(0, sL 2 c_TInterval a0), (1, .fn 45 [.pp ((ci .u32) a1c0)]), (7, .int .i64 (a0.length : Int)), (8, .int .i64 (wr .i64 (p1 + 1)))], []⟩ ?_)))
 obtain rfl := Option.some.inj h11
 exact round_n (le_rfl)
 have h4 := cond_f b2 h1
 refine awp_exit (then_e ?_)
 obtain rfl := Option.some.inj h4
 exact round_e ⟨rfl, kp []⟩
 intro e14 s15 o16
 rcases y4 with g5 | y6
 have h17 := elim_l h13
 obtain ⟨rfl, l19⟩ := o16
 refine inb_here ?_
 refine then_le (s' := ⟨19, [], []⟩) (l19) ?_
 refine awp_seq (rg0 [4] 0 ⟨19, [(4, .int .i64 (-1))], []⟩ ?_)
 refine then_n (awp_ret ?_)
 obtain rfl := Option.some.inj h17
 exact er0 (.int .i64 (-1))
 have h18 := elim_r h13
 obtain ⟨rfl, n20⟩ := o16
 refine inb_r (then_r ?_)
 obtain rfl := Option.some.inj h18
 exact n20

/- slices.ContainsFunc[[]netverify/api.Interval,netverify/api.Interval] -/
theorem slices_ContainsFunc_api_Interval_api_Interval__interval_Has_1_ok (a0 : List TInterval) (a1c0 : Int) (r : Bool) (h : M.slices_ContainsFunc_api_Interval_api_Interval__interval_Has_1 a0 a1c0 = some r) : Fn Tryd.prog 44 [sL 2 c_TInterval a0, .fn 45 [.pp ((ci .u32) a1c0)]] (.pure (.bool r)) := by
 unfold M.slices_ContainsFunc_api_Interval_api_Interval__interval_Has_1 at h
 refine fn_pure Tryd.func44 rfl (by kernel_rfl) ?_
 refine awp_seq (rg0 [0, 1] 0 ⟨9, [(0, sL 2 c_TInterval a0), (1, .fn 45 [.pp ((ci .u32) a1c0)])], []⟩ ?_)
 refine then_n (awp_seq ?_)
 obtain ⟨r1, q1, h2⟩ := bind_some h
 refine rg [.pure (.int .i64 r1)] [4] 0 ⟨9, [(4, .bool (decide (r1 ≥ 0)))], []⟩ [] [⟨true, 52, [sL 2 c_TInterval a0, .fn 45 [.pp ((ci .u32) a1c0)]], .pure (.int .i64 r1)⟩] nil_all ⟨fun _ => slices_IndexFunc_api_Interval_api_Interval__interval_Has_1_ok a0 a1c0 r1 q1, trivial⟩ ?_
 refine then_n (awp_ret ?_)
 obtain rfl := Option.some.inj h2
 exact er0 (.bool (decide (r1 ≥ 0)))

/- netverify/interval.Has -/
theorem interval_Has_ok (a0 : List TInterval) (a1 : Int) (r : Bool) (h : M.interval_Has a0 a1 = some r) : Fn Tryd.prog 23 [sL 2 c_TInterval a0, .int .u32 a1] (.pure (.bool r)) := by
 unfold M.interval_Has at h
 refine fn_pure Tryd.func23 rfl (by kernel_rfl) ?_
 refine awp_seq (rg0 [0, 3] 1 ⟨8, [(0, sL 2 c_TInterval a0), (3, .ref 0 0)], [.box [.int .u32 a1]]⟩ ?_)
 refine then_n (awp_seq ?_)
 obtain ⟨r1, q1, h2⟩ := bind_some h
 refine rg [.pure (.bool r1)] [4] 0 ⟨8, [(4, .bool r1)], []⟩ [] [⟨true, 44, [sL 2 c_TInterval a0, .fn 45 [.pp ((ci .u32) a1)]], .pure (.bool r1)⟩] nil_all ⟨fun _ => slices_ContainsFunc_api_Interval_api_Interval__interval_Has_1_ok a0 a1 r1 q1, trivial⟩ ?_
 refine then_n (awp_ret ?_)
 obtain rfl := Option.some.inj h2
 exact er0 (.bool r1)

/- math/bits.TrailingZeros64 -/
end Nv
namespace Go.Proofs
open Go.Shelf
shelf_lay Lays7.n29 Nm7 29 at Tryd as Tryd.tzL
end Go.Proofs
namespace Nv
open Go Go.Proofs
theorem math_bits_TrailingZeros64_ok (a0 : Int) (r : Int) (h : M.math_bits_TrailingZeros64 a0 = some r) : Fn Tryd.prog 38 [.int .u64 a0] (.pure (.int .i64 r)) := by
 unfold M.math_bits_TrailingZeros64 at h
 obtain ⟨hc, h1⟩ := gd_some h
 obtain rfl := Option.some.inj h1
 exact tz_fn Tryd.tzL (by kernel_rfl) (of_decide_eq_true (hc _ List.mem_cons_self)) (of_decide_eq_true (hc _ (List.mem_cons_of_mem _ List.mem_cons_self)))

/- netverify/interval.Prefixes -/
theorem interval_Prefixes_ok (a0 : List TInterval) (r : (List TPrefix)) (h : M.interval_Prefixes a0 = some r) : Fn Tryd.prog 12 [sL 2 c_TInterval a0] (.pure (sL 2 c_TPrefix r)) := by
 unfold M.interval_Prefixes at h
 refine fn_pure Tryd.func12 rfl (by kernel_rfl) ?_
 refine awp_seq (rg0 [0] 0 ⟨52, [(0, sL 2 c_TInterval a0)], []⟩ ?_)
 refine then_n (awp_seq (rg0 [0, 3] 0 ⟨52, [(0, sL 2 c_TInterval a0), (3, .sl true 2 0 (fun _ => []))], []⟩ ?_))
 refine then_n (awp_seq (awp_seq ?_))
 obtain ⟨r1, q1, h2⟩ := bind_some h
 refine rg [.pure (sL 2 c_TInterval r1)] [3, 10, 11, 12] 0 ⟨52, [(3, .sl true 2 0 (fun _ => [])), (10, sL 2 c_TInterval r1), (11, .int .i64 (r1.length : Int)), (12, .int .i64 0)], []⟩ [] [⟨true, 18, [sL 2 c_TInterval a0], .pure (sL 2 c_TInterval r1)⟩] nil_all ⟨fun _ => interval_Normalize_ok a0 r1 q1, trivial⟩ ?_
 refine then_n (awp_block ?_)
 refine awp_le (s' := ⟨52, [(3, .sl true 2 0 (fun _ => [])), (10, sL 2 c_TInterval r1), (11, .int .i64 (r1.length : Int)), (12, .int .i64 0)], []⟩) (le_rfl) ?_
 refine awp_le (s' := ⟨52, [(3, .asl 0 0 (([] : List TPrefix).length)), (10, sL 2 c_TInterval r1), (11, .int .i64 (r1.length : Int)), (12, .int .i64 0)], [aL 2 c_TPrefix ([] : List TPrefix)]⟩) (Le.trans (s' := ⟨52, (3, .asl 0 0 0) :: [(3, .sl true 2 0 (fun _ => [])), (10, sL 2 c_TInterval r1), (11, .int .i64 (r1.length : Int)), (12, .int .i64 0)], [] ++ [.arr 2 0 (fun i => c_TPrefix (([] : List TPrefix).getD i default))]⟩) (le_thaw (wd := 2) (f := fun _ => []) 3 (by kernel_rfl) _ _) (kp [3, 10, 11, 12])) ?_
 obtain ⟨y12, q42, h43⟩ := bind_some h2
 refine awp_le (s' := ⟨52, [(3, .asl 0 0 (([] : List TPrefix).length)), (10, sL 2 c_TInterval r1), (11, .int .i64 (r1.length : Int)), (12, .int .i64 0)], [aL 2 c_TPrefix ([] : List TPrefix)]⟩) (le_rfl) ?_
 refine awp_mono (awp_loop (f := M.interval_Prefixes_l1 r1) (S := fun (p2 : (List TPrefix) × Int) => ⟨52, [(3, .asl 0 0 p2.1.length), (10, sL 2 c_TInterval r1), (11, .int .i64 (r1.length : Int)), (12, .int .i64 p2.2)], [aL 2 c_TPrefix p2.1]⟩) (O := (fun z => OutE 0 (fun z => ⟨52, [(3, .asl 0 0 z.length)], [aL 2 c_TPrefix z]⟩) z)) ?_ (x := (([] : List TPrefix), 0)) (y := y12) (loopM_iter q42)) ?_
 intro p2 y3 h3
 unfold M.interval_Prefixes_l1 at h3
 refine awp_seq (rg0 [3, 10, 11, 12, 13] 1 ⟨52, [(3, .asl 0 0 p2.1.length), (10, sL 2 c_TInterval r1), (11, .int .i64 (r1.length : Int)), (12, .int .i64 p2.2), (13, .bool (decide (p2.2 < (r1.length : Int))))], [aL 2 c_TPrefix p2.1]⟩ ?_)
 refine then_n (awp_seq ?_)
 refine cnd (decide (p2.2 < (r1.length : Int))) (fun b4 => ?_) (fun b4 => ?_)
 have h5 := cond_t b4 h3
 refine awp_skip (then_n (awp_seq (awp_block (awp_seq ?_))))
 obtain ⟨c7, h8⟩ := gd_some h5
 refine rgc [3, 5, 10, 11, 12] 2 ⟨52, [(3, .asl 0 0 p2.1.length), (5, .ref 1 0), (10, sL 2 c_TInterval r1), (11, .int .i64 (r1.length : Int)), (12, .int .i64 p2.2)], [aL 2 c_TPrefix p2.1, .box (c_TInterval (r1.getD p2.2.toNat default))]⟩ [decide (0 ≤ p2.2), decide (p2.2 < (r1.length : Int))] c7 ?_
 refine then_n (awp_seq (rg0 [3, 5, 6, 10, 11, 12] 2 ⟨52, [(3, .asl 0 0 p2.1.length), (5, .ref 1 0), (6, .int .u64 (wr .u64 ((wr .u64 ((r1.getD p2.2.toNat default).fHi)) + 1))), (10, sL 2 c_TInterval r1), (11, .int .i64 (r1.length : Int)), (12, .int .i64 p2.2)], [aL 2 c_TPrefix p2.1, .box (c_TInterval (r1.getD p2.2.toNat default))]⟩ ?_))
 refine then_n (awp_seq (rg0 [3, 6, 7, 10, 11, 12] 1 ⟨52, [(3, .asl 0 0 p2.1.length), (6, .int .u64 (wr .u64 ((wr .u64 ((r1.getD p2.2.toNat default).fHi)) + 1))), (7, .int .u64 (wr .u64 ((r1.getD p2.2.toNat default).fLo))), (10, sL 2 c_TInterval r1), (11, .int .i64 (r1.length : Int)), (12, .int .i64 p2.2)], [aL 2 c_TPrefix p2.1]⟩ ?_))
 refine then_n (awp_block ?_)
 obtain ⟨y11, q36, h37⟩ := bind_some h8
 refine awp_le (s' := ⟨52, [(3, .asl 0 0 p2.1.length), (6, .int .u64 (wr .u64 ((wr .u64 ((r1.getD p2.2.toNat default).fHi)) + 1))), (7, .int .u64 (wr .u64 ((r1.getD p2.2.toNat default).fLo))), (10, sL 2 c_TInterval r1), (11, .int .i64 (r1.length : Int)), (12, .int .i64 p2.2)], [aL 2 c_TPrefix p2.1]⟩) (le_rfl) ?_
 refine awp_mono (awp_loop (f := M.interval_Prefixes_l2 r1 p2) (S := fun (p4 : (List TPrefix) × Int) => ⟨52, [(3, .asl 0 0 p4.1.length), (6, .int .u64 (wr .u64 ((wr .u64 ((r1.getD p2.2.toNat default).fHi)) + 1))), (7, .int .u64 p4.2), (10, sL 2 c_TInterval r1), (11, .int .i64 (r1.length : Int)), (12, .int .i64 p2.2)], [aL 2 c_TPrefix p4.1]⟩) (O := (fun z => OutE 2 (fun z => ⟨52, [(3, .asl 0 0 z.length), (10, sL 2 c_TInterval r1), (11, .int .i64 (r1.length : Int)), (12, .int .i64 p2.2)], [aL 2 c_TPrefix z]⟩) z)) ?_ (x := (p2.1, wr .u64 ((r1.getD p2.2.toNat default).fLo))) (y := y11) (loopM_iter q36)) ?_
 intro p4 y5 h9
 unfold M.interval_Prefixes_l2 at h9
 refine awp_seq (awp_seq (rg0 [3, 6, 7, 10, 11, 12, 25] 1 ⟨52, [(3, .asl 0 0 p4.1.length), (6, .int .u64 (wr .u64 ((wr .u64 ((r1.getD p2.2.toNat default).fHi)) + 1))), (7, .int .u64 p4.2), (10, sL 2 c_TInterval r1), (11, .int .i64 (r1.length : Int)), (12, .int .i64 p2.2), (25, .bool (decide (p4.2 < (wr .u64 ((wr .u64 ((r1.getD p2.2.toNat default).fHi)) + 1)))))], [aL 2 c_TPrefix p4.1]⟩ ?_))
 refine then_n ?_
 refine cnd (decide (p4.2 < (wr .u64 ((wr .u64 ((r1.getD p2.2.toNat default).fHi)) + 1)))) (fun b10 => ?_) (fun b10 => ?_)
 have h11 := cond_t b10 h9
 refine awp_skip (then_n (awp_block (awp_seq (rg0 [3, 6, 7, 8, 10, 11, 12] 1 ⟨52, [(3, .asl 0 0 p4.1.length), (6, .int .u64 (wr .u64 ((wr .u64 ((r1.getD p2.2.toNat default).fHi)) + 1))), (7, .int .u64 p4.2), (8, .int .i64 32), (10, sL 2 c_TInterval r1), (11, .int .i64 (r1.length : Int)), (12, .int .i64 p2.2)], [aL 2 c_TPrefix p4.1]⟩ ?_))))
 refine then_n ?_
 refine awp_join (fun (p6 : Int) => ⟨52, [(3, .asl 0 0 p4.1.length), (6, .int .u64 (wr .u64 ((wr .u64 ((r1.getD p2.2.toNat default).fHi)) + 1))), (7, .int .u64 p4.2), (8, .int .i64 p6), (10, sL 2 c_TInterval r1), (11, .int .i64 (r1.length : Int)), (12, .int .i64 p2.2)], [aL 2 c_TPrefix p4.1]⟩) (fun p6 => M.interval_Prefixes_k1 r1 p2 p4 p6 = some y5) ?_ ?_
 intro p6 h14
 unfold M.interval_Prefixes_k1 at h14
 refine awp_seq (awp_block ?_)
 obtain ⟨y9, q21, h22⟩ := bind_some h14
 refine awp_le (s' := ⟨52, [(3, .asl 0 0 p4.1.length), (6, .int .u64 (wr .u64 ((wr .u64 ((r1.getD p2.2.toNat default).fHi)) + 1))), (7, .int .u64 p4.2), (8, .int .i64 p6), (10, sL 2 c_TInterval r1), (11, .int .i64 (r1.length : Int)), (12, .int .i64 p2.2)], [aL 2 c_TPrefix p4.1]⟩) (le_rfl) ?_
 refine awp_mono (awp_loop (f := M.interval_Prefixes_l3 r1 p2 p4) (S := fun (p7 : Int) => ⟨52, [(3, .asl 0 0 p4.1.length), (6, .int .u64 (wr .u64 ((wr .u64 ((r1.getD p2.2.toNat default).fHi)) + 1))), (7, .int .u64 p4.2), (8, .int .i64 p7), (10, sL 2 c_TInterval r1), (11, .int .i64 (r1.length : Int)), (12, .int .i64 p2.2)], [aL 2 c_TPrefix p4.1]⟩) (O := (fun z => OutE 4 (fun z => ⟨52, [(3, .asl 0 0 p4.1.length), (6, .int .u64 (wr .u64 ((wr .u64 ((r1.getD p2.2.toNat default).fHi)) + 1))), (7, .int .u64 p4.2), (8, .int .i64 z), (10, sL 2 c_TInterval r1), (11, .int .i64 (r1.length : Int)), (12, .int .i64 p2.2)], [aL 2 c_TPrefix p4.1]⟩) z)) ?_ (x := p6) (y := y9) (loopM_iter q21)) ?_
 intro p7 y8 h15
 unfold M.interval_Prefixes_l3 at h15
 refine awp_seq (awp_seq ?_)
 obtain ⟨c16, h17⟩ := gd_some h15
 refine rgc [3, 6, 7, 8, 10, 11, 12, 35] 1 ⟨52, [(3, .asl 0 0 p4.1.length), (6, .int .u64 (wr .u64 ((wr .u64 ((r1.getD p2.2.toNat default).fHi)) + 1))), (7, .int .u64 p4.2), (8, .int .i64 p7), (10, sL 2 c_TInterval r1), (11, .int .i64 (r1.length : Int)), (12, .int .i64 p2.2), (35, .bool (decide ((wr .u64 (p4.2 + (wr .u64 (1 * 2 ^ min p7.toNat 64)))) > (wr .u64 ((wr .u64 ((r1.getD p2.2.toNat default).fHi)) + 1)))))], [aL 2 c_TPrefix p4.1]⟩ [decide (0 ≤ p7)] c16 ?_
 refine then_n ?_
 refine cnd (decide ((wr .u64 (p4.2 + (wr .u64 (1 * 2 ^ min p7.toNat 64)))) > (wr .u64 ((wr .u64 ((r1.getD p2.2.toNat default).fHi)) + 1)))) (fun b18 => ?_) (fun b18 => ?_)
 have h19 := cond_t b18 h17
 refine awp_skip (then_n (awp_block (rg0 [3, 6, 7, 8, 10, 11, 12] 1 ⟨52, [(3, .asl 0 0 p4.1.length), (6, .int .u64 (wr .u64 ((wr .u64 ((r1.getD p2.2.toNat default).fHi)) + 1))), (7, .int .u64 p4.2), (8, .int .i64 (wr .i64 (p7 - 1))), (10, sL 2 c_TInterval r1), (11, .int .i64 (r1.length : Int)), (12, .int .i64 p2.2)], [aL 2 c_TPrefix p4.1]⟩ ?_)))
 refine inb_n ?_
 obtain rfl := Option.some.inj h19
 exact round_n (le_rfl)
 have h20 := cond_f b18 h17
 refine awp_exit (then_e ?_)
 obtain rfl := Option.some.inj h20
 exact round_e ⟨rfl, kp [3, 6, 7, 8, 10, 11, 12]⟩
 intro e23 s24 o25
 obtain ⟨rfl, l26⟩ := o25
 refine inb_here ?_
 refine then_le (s' := ⟨52, [(3, .asl 0 0 p4.1.length), (6, .int .u64 (wr .u64 ((wr .u64 ((r1.getD p2.2.toNat default).fHi)) + 1))), (7, .int .u64 p4.2), (8, .int .i64 y9), (10, sL 2 c_TInterval r1), (11, .int .i64 (r1.length : Int)), (12, .int .i64 p2.2)], [aL 2 c_TPrefix p4.1]⟩) (l26) ?_
 refine awp_seq ?_
 obtain ⟨c27, h28⟩ := gd_some h22
 refine rgc [3, 6, 7, 8, 10, 11, 12] 1 ⟨52, [(3, .asl 0 0 (p4.1.length + 1)), (6, .int .u64 (wr .u64 ((wr .u64 ((r1.getD p2.2.toNat default).fHi)) + 1))), (7, .int .u64 p4.2), (8, .int .i64 y9), (10, sL 2 c_TInterval r1), (11, .int .i64 (r1.length : Int)), (12, .int .i64 p2.2)], [.arr 2 (p4.1.length + 1) (app (fun i => c_TPrefix (p4.1.getD i default)) p4.1.length (fun i => List.take 2 (List.drop (i * 2) [.int .u32 (wr .u32 p4.2), .int .i64 (wr .i64 (32 - y9))])))]⟩ [decide ((p4.1.length + 1) * 16 ≤ 140737488355328)] c27 ?_
 refine then_le (s' := ⟨52, [(3, .asl 0 0 ((p4.1 ++ [(⟨wr .u32 p4.2, wr .i64 (32 - y9)⟩ : TPrefix)]).length)), (6, .int .u64 (wr .u64 ((wr .u64 ((r1.getD p2.2.toNat default).fHi)) + 1))), (7, .int .u64 p4.2), (8, .int .i64 y9), (10, sL 2 c_TInterval r1), (11, .int .i64 (r1.length : Int)), (12, .int .i64 p2.2)], [aL 2 c_TPrefix (p4.1 ++ [(⟨wr .u32 p4.2, wr .i64 (32 - y9)⟩ : TPrefix)])]⟩) (le_sub (.cons (asl_len (len_snoc _ _)) (.cons Sub.rfl (.cons Sub.rfl (.cons Sub.rfl (.cons Sub.rfl (.cons Sub.rfl (.cons Sub.rfl .nil))))))) (.cons (.arr (len_snoc _ _) (app_snoc c_TPrefix p4.1 (⟨wr .u32 p4.2, wr .i64 (32 - y9)⟩ : TPrefix) _ rfl)) .nil)) ?_
 obtain ⟨c29, h30⟩ := gd_some h28
 refine rgc [3, 6, 7, 10, 11, 12] 1 ⟨52, [(3, .asl 0 0 ((p4.1 ++ [(⟨wr .u32 p4.2, wr .i64 (32 - y9)⟩ : TPrefix)]).length)), (6, .int .u64 (wr .u64 ((wr .u64 ((r1.getD p2.2.toNat default).fHi)) + 1))), (7, .int .u64 (wr .u64 (p4.2 + (wr .u64 (1 * 2 ^ min y9.toNat 64))))), (10, sL 2 c_TInterval r1), (11, .int .i64 (r1.length : Int)), (12, .int .i64 p2.2)], [aL 2 c_TPrefix (p4.1 ++ [(⟨wr .u32 p4.2, wr .i64 (32 - y9)⟩ : TPrefix)])]⟩ [decide (0 ≤ y9)] c29 ?_
 refine inb_n ?_
 obtain rfl := Option.some.inj h30
 exact round_n (le_rfl)
 intro k13
 refine awp_seq (rg0 [3, 6, 7, 8, 10, 11, 12, 27] 1 ⟨52, [(3, .asl 0 0 p4.1.length), (6, .int .u64 (wr .u64 ((wr .u64 ((r1.getD p2.2.toNat default).fHi)) + 1))), (7, .int .u64 p4.2), (8, .int .i64 32), (10, sL 2 c_TInterval r1), (11, .int .i64 (r1.length : Int)), (12, .int .i64 p2.2), (27, .bool (decide (p4.2 > 0)))], [aL 2 c_TPrefix p4.1]⟩ ?_)
 refine then_n ?_
 refine cnd (decide (p4.2 > 0)) (fun b31 => ?_) (fun b31 => ?_)
 have h32 := cond_t b31 h11
 obtain ⟨r10, q34, h35⟩ := bind_some h32
 refine rg [.pure (.int .i64 r10)] [3, 6, 7, 8, 10, 11, 12] 1 ⟨52, [(3, .asl 0 0 p4.1.length), (6, .int .u64 (wr .u64 ((wr .u64 ((r1.getD p2.2.toNat default).fHi)) + 1))), (7, .int .u64 p4.2), (8, .int .i64 r10), (10, sL 2 c_TInterval r1), (11, .int .i64 (r1.length : Int)), (12, .int .i64 p2.2)], [aL 2 c_TPrefix p4.1]⟩ [] [⟨true, 38, [.int .u64 p4.2], .pure (.int .i64 r10)⟩] nil_all ⟨fun _ => math_bits_TrailingZeros64_ok p4.2 r10 q34, trivial⟩ ?_
 exact then_le (le_rfl) (k13 r10 h35)
 have h33 := cond_f b31 h11
 refine awp_skip ?_
 exact then_le (kp [3, 6, 7, 8, 10, 11, 12]) (k13 32 h33)
 have h12 := cond_f b10 h9
 refine awp_exit (then_e ?_)
 obtain rfl := Option.some.inj h12
 exact round_e ⟨rfl, kp [3, 10, 11, 12]⟩
 intro e38 s39 o40
 obtain ⟨rfl, l41⟩ := o40
 refine inb_here (inb_n ?_)
 refine then_le (s' := ⟨52, [(3, .asl 0 0 y11.length), (10, sL 2 c_TInterval r1), (11, .int .i64 (r1.length : Int)), (12, .int .i64 p2.2)], [aL 2 c_TPrefix y11]⟩) (l41) ?_
 refine rg0 [3, 10, 11, 12] 1 ⟨52, [(3, .asl 0 0 y11.length), (10, sL 2 c_TInterval r1), (11, .int .i64 (r1.length : Int)), (12, .int .i64 (wr .i64 (p2.2 + 1)))], [aL 2 c_TPrefix y11]⟩ ?_
 obtain rfl := Option.some.inj h37
 exact round_n (le_rfl)
 have h6 := cond_f b4 h3
 refine awp_exit (then_e ?_)
 obtain rfl := Option.some.inj h6
 exact round_e ⟨rfl, kp [3]⟩
 intro e44 s45 o46
 obtain ⟨rfl, l47⟩ := o46
 refine inb_here ?_
 refine then_le (s' := ⟨52, [(3, .asl 0 0 y12.length)], [aL 2 c_TPrefix y12]⟩) (l47) ?_
 refine awp_seq (rg0 [2] 1 ⟨52, [(2, .asl 0 0 y12.length)], [aL 2 c_TPrefix y12]⟩ ?_)
 refine then_n (awp_ret ?_)
 obtain rfl := Option.some.inj h43
 exact er (.sl false 2 y12.length (fun i => c_TPrefix (y12.getD (0 + i) default))) sub_asl

/- netverify/netverifylaw3.sane -/
theorem law3_sane_ok  (r : Bool) (h : M.law3_sane  = some r) : Fn Tryd.prog 17 [] (.pure (.bool r)) := by
 unfold M.law3_sane at h
 refine fn_pure Tryd.func17 rfl (by kernel_rfl) ?_
 refine awp_seq (rg0 [] 0 ⟨37, [], []⟩ ?_)
 refine then_n (awp_seq ?_)
 obtain ⟨r1, q1, h2⟩ := bind_some h
 refine rg [.pure (sL 2 c_TInterval r1)] [1] 0 ⟨37, [(1, sL 2 c_TInterval r1)], []⟩ [] [⟨true, 18, [.sl false 2 3 (fun i => List.take 2 (List.drop (i * 2) [.int .u32 5, .int .u32 9, .int .u32 1, .int .u32 4, .int .u32 20, .int .u32 11]))], .pure (sL 2 c_TInterval r1)⟩] nil_all ⟨fun _ => (interval_Normalize_ok ([(⟨5, 9⟩ : TInterval), (⟨1, 4⟩ : TInterval), (⟨20, 11⟩ : TInterval)] : List TInterval) r1 q1).args (.cons (asub_sl rfl (fun i hi => match i, hi with | 0, _ => rfl | 1, _ => rfl | 2, _ => rfl | n + 3, h => absurd h (by omega))) .nil), trivial⟩ ?_
 refine then_n (awp_seq ?_)
 obtain ⟨r2, q3, h4⟩ := bind_some h2
 obtain ⟨r3, q5, h6⟩ := bind_some h4
 obtain ⟨r4, q7, h8⟩ := bind_some h6
 obtain ⟨r5, q9, h10⟩ := bind_some h8
 obtain ⟨c11, h12⟩ := gd_some h10
 refine rg [.pure (.bool r2), .pure (.bool r3), .pure (.int .u64 r4), .pure (sL 2 c_TPrefix r5)] [0] 0 ⟨37, [(0, .bool (((((((r1.length : Int) == 1) && ((((r1.getD (0 : Int).toNat default).fLo) == 1) && ((((r1.getD (0 : Int).toNat default).fHi) == 9) && true))) && r2) && (!r3)) && (r4 == 9)) && ((r5.length : Int) == 4)))], []⟩ [guardB ((r1.length : Int) == 1) (decide (0 ≤ 0)), guardB ((r1.length : Int) == 1) (decide (0 < (r1.length : Int)))] [⟨((r1.length : Int) == 1) && ((((r1.getD (0 : Int).toNat default).fLo) == 1) && ((((r1.getD (0 : Int).toNat default).fHi) == 9) && true)), 23, [sL 2 c_TInterval r1, .int .u32 5], .pure (.bool r2)⟩, ⟨(((r1.length : Int) == 1) && ((((r1.getD (0 : Int).toNat default).fLo) == 1) && ((((r1.getD (0 : Int).toNat default).fHi) == 9) && true))) && r2, 23, [sL 2 c_TInterval r1, .int .u32 10], .pure (.bool r3)⟩, ⟨((((r1.length : Int) == 1) && ((((r1.getD (0 : Int).toNat default).fLo) == 1) && ((((r1.getD (0 : Int).toNat default).fHi) == 9) && true))) && r2) && (!r3), 28, [sL 2 c_TInterval r1], .pure (.int .u64 r4)⟩, ⟨(((((r1.length : Int) == 1) && ((((r1.getD (0 : Int).toNat default).fLo) == 1) && ((((r1.getD (0 : Int).toNat default).fHi) == 9) && true))) && r2) && (!r3)) && (r4 == 9), 12, [sL 2 c_TInterval r1], .pure (sL 2 c_TPrefix r5)⟩] c11 ⟨fun hg => interval_Has_ok r1 5 r2 (gc_some q3 hg), fun hg => interval_Has_ok r1 10 r3 (gc_some q5 hg), fun hg => interval_Size_ok r1 r4 (gc_some q7 hg), fun hg => interval_Prefixes_ok r1 r5 (gc_some q9 hg), trivial⟩ ?_
 refine then_n (awp_ret ?_)
 obtain rfl := Option.some.inj h12
 exact er0 (.bool (((((((r1.length : Int) == 1) && ((((r1.getD (0 : Int).toNat default).fLo) == 1) && ((((r1.getD (0 : Int).toNat default).fHi) == 9) && true))) && r2) && (!r3)) && (r4 == 9)) && ((r5.length : Int) == 4)))

/- netverify/netverifylaw3.IntervalExact -/
theorem law3_IntervalExact_ok (a0 : List TInterval) (a1 : List TInterval) (r : Bool) (h : M.law3_IntervalExact a0 a1 = some r) : Fn Tryd.prog 8 [sL 2 c_TInterval a0, sL 2 c_TInterval a1] (.pure (.bool r)) := by
 unfold M.law3_IntervalExact at h
 refine fn_pure Tryd.func8 rfl (by kernel_rfl) ?_
 refine awp_seq (rg0 [0, 1] 0 ⟨51, [(0, sL 2 c_TInterval a0), (1, sL 2 c_TInterval a1)], []⟩ ?_)
 refine then_n (awp_seq (awp_seq ?_))
 obtain ⟨r1, q1, h2⟩ := bind_some h
 refine rg [.pure (.bool r1)] [0, 1, 8] 0 ⟨51, [(0, sL 2 c_TInterval a0), (1, sL 2 c_TInterval a1), (8, .bool (!r1))], []⟩ [] [⟨true, 11, [sL 2 c_TInterval a0, sL 2 c_TInterval a1], .pure (.bool r1)⟩] nil_all ⟨fun _ => law3_few_ok a0 a1 r1 q1, trivial⟩ ?_
 refine then_n ?_
 refine cnd (!r1) (fun b3 => ?_) (fun b3 => ?_)
 have h4 := cond_t b3 h2
 refine awp_seq (rg0 [4] 0 ⟨51, [(4, .bool true)], []⟩ ?_)
 refine then_n (awp_ret (then_r ?_))
 obtain rfl := Option.some.inj h4
 exact er0 (.bool true)
 have h5 := cond_f b3 h2
 refine awp_skip (then_n (awp_seq ?_))
 obtain ⟨r2, q6, h7⟩ := bind_some h5
 obtain ⟨r3, q8, h9⟩ := bind_some h7
 obtain ⟨r4, q10, h11⟩ := bind_some h9
 obtain ⟨r5, q12, h13⟩ := bind_some h11
 obtain ⟨r6, q14, h15⟩ := bind_some h13
 obtain ⟨r7, q16, h17⟩ := bind_some h15
 obtain ⟨r8, q18, h19⟩ := bind_some h17
 obtain ⟨r9, q20, h21⟩ := bind_some h19
 obtain ⟨r10, q22, h23⟩ := bind_some h21
 obtain ⟨r11, q24, h25⟩ := bind_some h23
 obtain ⟨r12, q26, h27⟩ := bind_some h25
 obtain ⟨r13, q28, h29⟩ := bind_some h27
 obtain ⟨r14, q30, h31⟩ := bind_some h29
 obtain ⟨r15, q32, h33⟩ := bind_some h31
 obtain ⟨r16, q34, h35⟩ := bind_some h33
 refine rg [.pure (sL 2 c_TInterval r2), .pure (sL 2 c_TInterval r3), .pure (.bool r4), .pure (sL 2 c_TInterval r5), .pure (sL 2 c_TInterval r6), .pure (.bool r7), .pure (sL 2 c_TInterval r8), .pure (sL 2 c_TInterval r9), .pure (.bool r10), .pure (sL 2 c_TInterval r11), .pure (sL 2 c_TInterval r12), .pure (.bool r13), .pure (.int .u64 r14), .pure (.int .u64 r15), .pure (.bool r16)] [4] 0 ⟨51, [(4, .bool (((((r4 && r7) && r10) && r13) && (r14 == r15)) && r16))], []⟩ [] [⟨true, 29, [sL 2 c_TInterval a0, sL 2 c_TInterval a1], .pure (sL 2 c_TInterval r2)⟩, ⟨true, 32, [sL 2 c_TInterval a0, sL 2 c_TInterval a1], .pure (sL 2 c_TInterval r3)⟩, ⟨true, 19, [sL 2 c_TInterval r2, sL 2 c_TInterval r3], .pure (.bool r4)⟩, ⟨r4, 30, [sL 2 c_TInterval a0, sL 2 c_TInterval a1], .pure (sL 2 c_TInterval r5)⟩, ⟨r4, 33, [sL 2 c_TInterval a0, sL 2 c_TInterval a1], .pure (sL 2 c_TInterval r6)⟩, ⟨r4, 19, [sL 2 c_TInterval r5, sL 2 c_TInterval r6], .pure (.bool r7)⟩, ⟨r4 && r7, 34, [sL 2 c_TInterval a0, sL 2 c_TInterval a1], .pure (sL 2 c_TInterval r8)⟩, ⟨r4 && r7, 35, [sL 2 c_TInterval a0, sL 2 c_TInterval a1], .pure (sL 2 c_TInterval r9)⟩, ⟨r4 && r7, 19, [sL 2 c_TInterval r8, sL 2 c_TInterval r9], .pure (.bool r10)⟩, ⟨(r4 && r7) && r10, 31, [sL 2 c_TInterval a0], .pure (sL 2 c_TInterval r11)⟩, ⟨(r4 && r7) && r10, 36, [sL 2 c_TInterval a0], .pure (sL 2 c_TInterval r12)⟩, ⟨(r4 && r7) && r10, 19, [sL 2 c_TInterval r11, sL 2 c_TInterval r12], .pure (.bool r13)⟩, ⟨((r4 && r7) && r10) && r13, 28, [sL 2 c_TInterval a0], .pure (.int .u64 r14)⟩, ⟨((r4 && r7) && r10) && r13, 37, [sL 2 c_TInterval a0], .pure (.int .u64 r15)⟩, ⟨(((r4 && r7) && r10) && r13) && (r14 == r15), 17, [], .pure (.bool r16)⟩] nil_all ⟨fun _ => interval_Union_ok a0 a1 r2 q6, fun _ => ref4_Union_ok a0 a1 r3 q8, fun _ => keep_Intervals_ok r2 r3 r4 q10, fun hg => interval_Intersect_ok a0 a1 r5 (gc_some q12 hg), fun hg => ref4_Intersect_ok a0 a1 r6 (gc_some q14 hg), fun hg => keep_Intervals_ok r5 r6 r7 (gc_some q16 hg), fun hg => interval_Subtract_ok a0 a1 r8 (gc_some q18 hg), fun hg => ref4_Subtract_ok a0 a1 r9 (gc_some q20 hg), fun hg => keep_Intervals_ok r8 r9 r10 (gc_some q22 hg), fun hg => interval_Complement_ok a0 r11 (gc_some q24 hg), fun hg => ref4_Complement_ok a0 r12 (gc_some q26 hg), fun hg => keep_Intervals_ok r11 r12 r13 (gc_some q28 hg), fun hg => interval_Size_ok a0 r14 (gc_some q30 hg), fun hg => ref4_Size_ok a0 r15 (gc_some q32 hg), fun hg => law3_sane_ok  r16 (gc_some q34 hg), trivial⟩ ?_
 refine then_n (awp_ret ?_)
 obtain rfl := Option.some.inj h35
 exact er0 (.bool (((((r4 && r7) && r10) && r13) && (r14 == r15)) && r16))
end Nv
