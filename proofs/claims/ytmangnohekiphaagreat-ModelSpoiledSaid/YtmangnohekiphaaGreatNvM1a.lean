/- The walks: each function computes its mirror. -/
import Derived.Test.YtmangnohekiphaaGreatProg
import Derived.Test.YtmangnohekiphaaGreatNvD1
import Derived.Test.YtmangnohekiphaaGreatNvLibC
import Derived.Test.YtmangnohekiphaaGreatNvLibB
import Derived.KernelRfl
set_option maxRecDepth 100000
namespace Nv
open Go Go.Proofs
theorem law5_Small_ok (a0 : TRouter) (r : Bool) (h : M.law5_Small a0 = some r) : Fn Tryz.prog 6 [.agg (c_TRouter a0)] (.pure (.bool r)) := by
 let u1 : List Ob := [.box (c_TRouter a0)]
 let u2 : St := ⟨141, [(1, .ref 0 0)], u1⟩
 unfold M.law5_Small at h
 refine fn_pure Tryz.func6 rfl (by kernel_rfl) (awp_seq (zg [1] 1 (then_n (awp_seq (awp_seq (zg [1, 95] 1 (then_n (cn h (fun _ h2 => ?_) (fun _ h3 => ?_)))))))))
 exact awp_seq (zg [2] 0 (then_n (awp_ret (then_r (er1 h2)))))
 refine awp_skip (then_n (awp_seq (awp_seq (zg [1, 3] 1 (then_n (awp_block ?_))))))
 obtain ⟨y3, q13, h14⟩ := bind_some h3
 refine zl (fun (p1 : Int) => ⟨141, [(1, .ref 0 0), (3, .int .i64 p1)], u1⟩) (Sum.elim (fun z => OutE 0 (fun z => u2) z) (fun z => OutR Tryz.prog Tryz.f6 (.bool z))) q13 ?_ ?_
 intro p1 y2 h4
 unfold M.law5_Small_l1 at h4
 refine awp_seq (awp_seq (zg [1, 3, 100] 1 (then_n (cn h4 (fun _ h6 => ?_) (fun _ h7 => ?_)))))
 refine awp_skip (then_n (awp_seq (awp_block (awp_seq ?_))))
 obtain ⟨c8, h9⟩ := gd_some h6
 refine zc [1, 3, 110] 1 c8 (then_n (cn h9 (fun _ h11 => ?_) (fun _ h12 => ?_)))
 exact awp_seq (zg [2] 0 (then_n (awp_ret (inb_r (then_r (rr h11 ⟨rfl, er0 _⟩))))))
 exact awp_skip (inb_n (then_n (zg [1, 3] 1 (rn h12))))
 exact awp_exit (then_e (re h7 ⟨rfl, kq⟩))
 intro e15 s16 o17
 rcases y3 with g4 | y5
 have h18 := elim_l h14
 refine zi o17 (awp_seq (awp_seq (zg [1, 4] 1 (then_n (awp_block ?_)))))
 obtain ⟨y8, q30, h31⟩ := bind_some h18
 refine zl (fun (p6 : Int) => ⟨141, [(1, .ref 0 0), (4, .int .i64 p6)], u1⟩) (Sum.elim (fun z => OutE 2 (fun z => u2) z) (fun z => OutR Tryz.prog Tryz.f6 (.bool z))) q30 ?_ ?_
 intro p6 y7 h21
 unfold M.law5_Small_l2 at h21
 refine awp_seq (awp_seq (zg [1, 4, 115] 1 (then_n (cn h21 (fun _ h23 => ?_) (fun _ h24 => ?_)))))
 refine awp_skip (then_n (awp_seq (awp_block (awp_seq ?_))))
 obtain ⟨c25, h26⟩ := gd_some h23
 refine zc [1, 4, 125] 1 c25 (then_n (cn h26 (fun _ h28 => ?_) (fun _ h29 => ?_)))
 exact awp_seq (zg [2] 0 (then_n (awp_ret (inb_r (then_r (rr h28 ⟨rfl, er0 _⟩))))))
 exact awp_skip (inb_n (then_n (zg [1, 4] 1 (rn h29))))
 exact awp_exit (then_e (re h24 ⟨rfl, kq⟩))
 intro e32 s33 o34
 rcases y8 with g9 | y10
 have h35 := elim_l h31
 refine zi o34 (awp_seq (awp_seq (zg [1, 5] 1 (then_n (awp_block ?_)))))
 obtain ⟨y13, q47, h48⟩ := bind_some h35
 refine zl (fun (p11 : Int) => ⟨141, [(1, .ref 0 0), (5, .int .i64 p11)], u1⟩) (Sum.elim (fun z => OutE 4 (fun z => ⟨141, [], []⟩) z) (fun z => OutR Tryz.prog Tryz.f6 (.bool z))) q47 ?_ ?_
 intro p11 y12 h38
 unfold M.law5_Small_l3 at h38
 refine awp_seq (awp_seq (rg0 [1, 5, 130] 1 ⟨141, [(1, .ref 0 0), (5, .int .i64 p11), (130, .bool (decide (p11 < (a0.fACLs.length : Int))))], u1⟩ (then_n (cn h38 (fun _ h40 => ?_) (fun _ h41 => ?_)))))
 refine awp_skip (then_n (awp_seq (awp_block (awp_seq ?_))))
 obtain ⟨c42, h43⟩ := gd_some h40
 refine zc [1, 5, 140] 1 c42 (then_n (cn h43 (fun _ h45 => ?_) (fun _ h46 => ?_)))
 exact awp_seq (zg [2] 0 (then_n (awp_ret (inb_r (then_r (rr h45 ⟨rfl, er0 _⟩))))))
 exact awp_skip (inb_n (then_n (zg [1, 5] 1 (rn h46))))
 refine awp_exit (then_e ?_)
 obtain rfl := Option.some.inj h41
 exact round_e ⟨rfl, Le.trans (s' := ⟨141, [], u1⟩) (kp []) (le_cut (n := 0) (by kernel_rfl))⟩
 intro e49 s50 o51
 rcases y13 with g14 | y15
 have h52 := elim_l h48
 exact zi o51 (awp_seq (zg [2] 0 (then_n (awp_ret (er1 h52)))))
 have h53 := elim_r h48
 obtain ⟨rfl, n55⟩ := o51
 refine inb_r (then_r ?_)
 obtain rfl := Option.some.inj h53
 exact n55
 have h36 := elim_r h31
 obtain ⟨rfl, n56⟩ := o34
 refine inb_r (then_r ?_)
 obtain rfl := Option.some.inj h36
 exact n56
 have h19 := elim_r h14
 obtain ⟨rfl, n57⟩ := o17
 refine inb_r (then_r ?_)
 obtain rfl := Option.some.inj h19
 exact n57
theorem ref4_letter_ok (a0 : Int) (r : Bool) (h : M.ref4_letter a0 = some r) : Fn Tryz.prog 60 [.int .u8 a0] (.pure (.bool r)) := by
 unfold M.ref4_letter at h
 exact fn_pure Tryz.func60 rfl (by kernel_rfl) (awp_seq (zg [0] 0 (then_n (awp_seq (zg [2] 0 (then_n (awp_ret (er1 h))))))))
theorem ref4_Name_ok (a0 : ByteArray) (r : Bool) (h : M.ref4_Name a0 = some r) : Fn Tryz.prog 25 [.str a0] (.pure (.bool r)) := by
 unfold M.ref4_Name at h
 refine fn_pure Tryz.func25 rfl (by kernel_rfl) (awp_seq (zg [0] 0 (then_n (awp_seq (awp_seq ?_)))))
 obtain ⟨r1, q1, h2⟩ := bind_some h
 obtain ⟨c3, h4⟩ := gd_some h2
 refine zr [0, 18] 0 c3 (rq2 (fun hg => ref4_letter_ok _ _ (gc_some q1 hg)) rqn) (then_n (cn h4 (fun _ h6 => ?_) (fun _ h7 => ?_)))
 exact awp_seq (zg [2] 0 (then_n (awp_ret (then_r (er1 h6)))))
 refine awp_skip (then_n (awp_seq (awp_seq (zg [0, 3] 0 (then_n (awp_block ?_))))))
 obtain ⟨y5, q19, h20⟩ := bind_some h7
 refine zl (fun (p2 : Int) => ⟨56, [(0, .str a0), (3, .int .i64 p2)], []⟩) (Sum.elim (fun z => OutE 0 (fun z => ⟨56, [], []⟩) z) (fun z => OutR Tryz.prog Tryz.f25 (.bool z))) q19 ?_ ?_
 intro p2 y3 h8
 unfold M.ref4_Name_l1 at h8
 refine awp_seq (awp_seq (zg [0, 3, 22] 0 (then_n (cn h8 (fun _ h10 => ?_) (fun _ h11 => ?_)))))
 refine awp_skip (then_n (awp_seq (awp_block (awp_seq ?_))))
 obtain ⟨c12, h13⟩ := gd_some h10
 refine zc [0, 3, 4] 0 c12 (then_n (awp_seq ?_))
 obtain ⟨r4, q14, h15⟩ := bind_some h13
 refine zr [0, 3, 55] 0 nil_all (rq1 (ref4_letter_ok _ _ q14) rqn) (then_n (cn h15 (fun _ h17 => ?_) (fun _ h18 => ?_)))
 exact awp_seq (zg [2] 0 (then_n (awp_ret (inb_r (then_r (rr h17 ⟨rfl, er0 _⟩))))))
 exact awp_skip (inb_n (then_n (zg [0, 3] 0 (rn h18))))
 exact awp_exit (then_e (re h11 ⟨rfl, kq⟩))
 intro e21 s22 o23
 rcases y5 with g6 | y7
 have h24 := elim_l h20
 exact zi o23 (awp_seq (zg [2] 0 (then_n (awp_ret (er1 h24)))))
 have h25 := elim_r h20
 obtain ⟨rfl, n27⟩ := o23
 refine inb_r (then_r ?_)
 obtain rfl := Option.some.inj h25
 exact n27
theorem ref8_within_ok (a0 : Int) (a1 : Int) (a2 : Int) (r : Bool) (h : M.ref8_within a0 a1 a2 = some r) : Fn Tryz.prog 26 [.int .i64 a0, .int .i64 a1, .int .i64 a2] (.pure (.bool r)) := by
 unfold M.ref8_within at h
 exact fn_pure Tryz.func26 rfl (by kernel_rfl) (awp_seq (zg [0, 1, 2] 0 (then_n (awp_seq (zg [6] 0 (then_n (awp_ret (er1 h))))))))
theorem ref4_Mask_ok (a0 : Int) (r : Int) (h : M.ref4_Mask a0 = some r) : Fn Tryz.prog 103 [.int .i64 a0] (.pure (.int .u32 r)) := by
 unfold M.ref4_Mask at h
 refine fn_pure Tryz.func103 rfl (by kernel_rfl) (awp_seq (zg [0] 0 (then_n (awp_seq (zg [0, 3] 0 (then_n (awp_seq (awp_seq (zg [0, 3, 4] 0 (then_n (awp_block ?_)))))))))))
 obtain ⟨y4, q12, h13⟩ := bind_some h
 refine zl (fun (p1 : Int × Int) => ⟨19, [(0, .int .i64 a0), (3, .int .u32 p1.1), (4, .int .i64 p1.2)], []⟩) (fun z => OutE 0 (fun z => ⟨19, [(3, .int .u32 z)], []⟩) z) q12 ?_ ?_
 intro p1 y2 h1
 unfold M.ref4_Mask_l1 at h1
 refine awp_seq (awp_seq (rg0 [0, 3, 4, 6] 0 ⟨19, [(0, .int .i64 a0), (3, .int .u32 p1.1), (4, .int .i64 p1.2), (6, .bool (decide (p1.2 < 32)))], []⟩ (then_n (cn h1 (fun _ h3 => ?_) (fun _ h4 => ?_)))))
 refine awp_skip (then_n (awp_join (fun (p3 : Int) => ⟨19, [(0, .int .i64 a0), (3, .int .u32 p3), (4, .int .i64 p1.2)], []⟩) (fun p3 => M.ref4_Mask_k1 p1 p3 = some y2) ?_ ?_))
 intro p3 h6
 unfold M.ref4_Mask_k1 at h6
 exact zg [0, 3, 4] 0 (rn h6)
 intro k5
 refine awp_block (awp_seq (zg [0, 3, 4, 11] 0 (then_n (cn h3 (fun _ h8 => ?_) (fun _ h9 => ?_)))))
 obtain ⟨c10, h11⟩ := gd_some h8
 exact zc [0, 3, 4] 0 c10 (inb_n (then_le lk (k5 (bitD .or .u32 p1.1 (wr .u32 (1 * 2 ^ min (wr .u64 (wr .i64 (31 - p1.2))).toNat 32))) h11)))
 exact awp_skip (inb_n (then_le kq (k5 p1.1 h9)))
 exact awp_exit (then_e (re h4 ⟨rfl, kq⟩))
 intro e14 s15 o16
 exact zi o16 (awp_seq (zg [2] 0 (then_n (awp_ret (er1 h13)))))
theorem ref4_Network_ok (a0 : Int) (a1 : Int) (r : TPrefix) (h : M.ref4_Network a0 a1 = some r) : Fn Tryz.prog 62 [.int .u32 a0, .int .i64 a1] (.pure (.agg (c_TPrefix r))) := by
 unfold M.ref4_Network at h
 refine fn_pure Tryz.func62 rfl (by kernel_rfl) (awp_seq (zg [0, 1, 4] 1 (then_n (awp_seq (zg [0, 1, 4] 1 (then_n (awp_seq ?_)))))))
 obtain ⟨r1, q1, h2⟩ := bind_some h
 refine zr [4] 1 nil_all (rq1 (ref4_Mask_ok _ _ q1) rqn) (then_n (awp_ret ?_))
 obtain rfl := Option.some.inj h2
 exact er0 (.agg [.int .u32 (bitD .and .u32 a0 r1), .int .i64 (if 0 > (if 32 < a1 then 32 else a1) then 0 else (if 32 < a1 then 32 else a1))])
theorem ref4_Contains_ok (a0 : TPrefix) (a1 : Int) (r : Bool) (h : M.ref4_Contains a0 a1 = some r) : Fn Tryz.prog 115 [.agg (c_TPrefix a0), .int .u32 a1] (.pure (.bool r)) := by
 unfold M.ref4_Contains at h
 refine fn_pure Tryz.func115 rfl (by kernel_rfl) (awp_seq (zg [1, 2] 1 (then_n (awp_seq ?_))))
 obtain ⟨r1, q1, h2⟩ := bind_some h
 exact zr [4] 0 nil_all (rq1 (ref4_Mask_ok _ _ q1) rqn) (then_n (awp_ret (er1 h2)))
theorem ref4_Covers_ok (a0 : TPrefix) (a1 : TPrefix) (r : Bool) (h : M.ref4_Covers a0 a1 = some r) : Fn Tryz.prog 102 [.agg (c_TPrefix a0), .agg (c_TPrefix a1)] (.pure (.bool r)) := by
 unfold M.ref4_Covers at h
 refine fn_pure Tryz.func102 rfl (by kernel_rfl) (awp_seq (zg [2, 3] 2 (then_n (awp_seq ?_))))
 obtain ⟨r1, q1, h2⟩ := bind_some h
 exact zr [4] 0 nil_all (rq2 (fun hg => ref4_Contains_ok _ _ _ (gc_some q1 hg)) rqn) (then_n (awp_ret (er1 h2)))
theorem ref4_Overlaps_ok (a0 : TPrefix) (a1 : TPrefix) (r : Bool) (h : M.ref4_Overlaps a0 a1 = some r) : Fn Tryz.prog 61 [.agg (c_TPrefix a0), .agg (c_TPrefix a1)] (.pure (.bool r)) := by
 unfold M.ref4_Overlaps at h
 refine fn_pure Tryz.func61 rfl (by kernel_rfl) (awp_seq (zg [2, 3] 2 (then_n (awp_seq ?_))))
 obtain ⟨r1, q1, h2⟩ := bind_some h
 obtain ⟨r2, q3, h4⟩ := bind_some h2
 exact zr [4] 0 nil_all (rq1 (ref4_Covers_ok _ _ _ q1) (rq2 (fun hg => ref4_Covers_ok _ _ _ (gc_some q3 hg)) rqn)) (then_n (awp_ret (er1 h4)))
theorem ref8_interfaces_ok (a0 : List TInterface) (r : Int) (h : M.ref8_interfaces a0 = some r) : Fn Tryz.prog 27 [sL 12 c_TInterface a0] (.pure (.int .i64 r)) := by
 let u2 : Nat × D := (0, sL 12 c_TInterface a0)
 unfold M.ref8_interfaces at h
 refine fn_pure Tryz.func27 rfl (by kernel_rfl) (awp_seq (zg [0] 0 (then_n (awp_seq (awp_seq (zg [0, 9] 0 (then_n (cn h (fun _ h2 => ?_) (fun _ h3 => ?_)))))))))
 exact awp_seq (zg [2] 0 (then_n (awp_ret (then_r (er1 h2)))))
 refine awp_skip (then_n (awp_seq (awp_seq (zg [0, 3] 0 (then_n (awp_block ?_))))))
 obtain ⟨y22, q76, h77⟩ := bind_some h3
 refine zl (fun (p1 : Int) => ⟨163, [u2, (3, .int .i64 p1)], []⟩) (Sum.elim (fun z => OutE 0 (fun z => ⟨163, [], []⟩) z) (fun z => OutR Tryz.prog Tryz.f27 (.int .i64 z))) q76 ?_ ?_
 intro p1 y2 h4
 let u1 : List Ob := [.box (c_TInterface (a0.getD p1.toNat default))]
 unfold M.ref8_interfaces_l1 at h4
 refine awp_seq (awp_seq (zg [0, 3, 13] 0 (then_n (cn h4 (fun _ h6 => ?_) (fun _ h7 => ?_)))))
 refine awp_skip (then_n (awp_seq (awp_block (awp_seq ?_))))
 obtain ⟨c8, h9⟩ := gd_some h6
 refine zc [0, 3, 4] 1 c8 (then_n (awp_seq (awp_seq ?_)))
 obtain ⟨r3, q10, h11⟩ := bind_some h9
 refine zr [0, 3, 4, 23] 1 nil_all (rq1 (ref4_Name_ok _ _ q10) rqn) (then_n (cn h11 (fun _ h13 => ?_) (fun _ h14 => ?_)))
 exact awp_seq (zg [2] 0 (then_n (awp_ret (then_r (inb_r (then_r (rr h13 ⟨rfl, er0 _⟩)))))))
 refine awp_skip (then_n (awp_seq (awp_seq (zg [0, 3, 4, 5] 1 (then_n (awp_block ?_))))))
 obtain ⟨y6, q24, h25⟩ := bind_some h14
 refine zl (fun (p4 : Int) => ⟨163, [u2, (3, .int .i64 p1), (4, .ref 0 0), (5, .int .i64 p4)], u1⟩) (Sum.elim (fun z => OutE 2 (fun z => ⟨163, [u2, (3, .int .i64 p1), (4, .ref 0 0)], u1⟩) z) (fun z => OutR Tryz.prog Tryz.f27 (.int .i64 z))) q24 ?_ ?_
 intro p4 y5 h15
 unfold M.ref8_interfaces_l2 at h15
 refine awp_seq (awp_seq (zg [0, 3, 4, 5, 26] 1 (then_n (cn h15 (fun _ h17 => ?_) (fun _ h18 => ?_)))))
 refine awp_skip (then_n (awp_seq (awp_block (awp_seq ?_))))
 obtain ⟨c19, h20⟩ := gd_some h17
 refine zc [0, 3, 4, 5, 36] 1 c19 (then_n (cn h20 (fun _ h22 => ?_) (fun _ h23 => ?_)))
 exact awp_seq (zg [2] 0 (then_n (awp_ret (inb_r (then_r (rr h22 ⟨rfl, er0 _⟩))))))
 exact awp_skip (inb_n (then_n (zg [0, 3, 4, 5] 1 (rn h23))))
 exact awp_exit (then_e (re h18 ⟨rfl, kq⟩))
 intro e26 s27 o28
 rcases y6 with g7 | y8
 have h29 := elim_l h25
 refine zi o28 (awp_seq (awp_seq ?_))
 obtain ⟨r9, q32, h33⟩ := bind_some h29
 obtain ⟨r10, q34, h35⟩ := bind_some h33
 obtain ⟨r11, q36, h37⟩ := bind_some h35
 refine zr [0, 3, 4, 52] 1 nil_all (rq1 (ref8_within_ok _ _ _ _ q32) (rq2 (fun hg => ref8_within_ok _ _ _ _ (gc_some q34 hg)) (rq2 (fun hg => ref8_within_ok _ _ _ _ (gc_some q36 hg)) rqn))) (then_n (cn h37 (fun _ h39 => ?_) (fun _ h40 => ?_)))
 exact awp_seq (zg [2] 0 (then_n (awp_ret (then_r (inb_r (then_r (rr h39 ⟨rfl, er0 _⟩)))))))
 refine awp_skip (then_n (awp_seq (awp_seq (zg [0, 3, 4, 98] 1 (then_n (cn h40 (fun _ h42 => ?_) (fun _ h43 => ?_)))))))
 exact awp_seq (zg [2] 0 (then_n (awp_ret (then_r (inb_r (then_r (rr h42 ⟨rfl, er0 _⟩)))))))
 refine awp_skip (then_n (awp_seq (awp_seq ?_)))
 obtain ⟨r12, q44, h45⟩ := bind_some h43
 obtain ⟨r13, q46, h47⟩ := bind_some h45
 refine zr [0, 3, 4, 127] 1 nil_all (rq2 (fun hg => ref8_within_ok _ _ _ _ (gc_some q44 hg)) (rq2 (fun hg => ref8_within_ok _ _ _ _ (gc_some q46 hg)) rqn)) (then_n (cn h47 (fun _ h49 => ?_) (fun _ h50 => ?_)))
 exact awp_seq (zg [2] 0 (then_n (awp_ret (then_r (inb_r (then_r (rr h49 ⟨rfl, er0 _⟩)))))))
 refine awp_skip (then_n (awp_seq (zg [0, 3, 4, 6] 1 (then_n (awp_block ?_)))))
 obtain ⟨y19, q66, h67⟩ := bind_some h50
 refine zl (fun (p14 : Int) => ⟨163, [u2, (3, .int .i64 p1), (4, .ref 0 0), (6, .int .i64 p14)], u1⟩) (Sum.elim (fun z => OutE 4 (fun z => ⟨163, [u2, (3, .int .i64 p1)], []⟩) z) (fun z => OutR Tryz.prog Tryz.f27 (.int .i64 z))) q66 ?_ ?_
 intro p14 y15 h51
 unfold M.ref8_interfaces_l3 at h51
 refine awp_seq (awp_seq (rg0 [0, 3, 4, 6, 130] 1 ⟨163, [u2, (3, .int .i64 p1), (4, .ref 0 0), (6, .int .i64 p14), (130, .bool (decide (p14 < p1)))], u1⟩ (then_n (cn h51 (fun _ h53 => ?_) (fun _ h54 => ?_)))))
 refine awp_skip (then_n (awp_seq (awp_block (awp_seq ?_))))
 obtain ⟨r16, q55, h56⟩ := bind_some h53
 obtain ⟨r17, q57, h58⟩ := bind_some h56
 obtain ⟨r18, q59, h60⟩ := bind_some h58
 obtain ⟨c61, h62⟩ := gd_some h60
 refine zr [0, 3, 4, 6, 162] 1 c61 (rq2 (fun hg => ref4_Network_ok _ _ _ (gc_some q55 hg)) (rq2 (fun hg => ref4_Network_ok _ _ _ (gc_some q57 hg)) (rq2 (fun hg => ref4_Overlaps_ok _ _ _ (gc_some q59 hg)) rqn))) (then_n (cn h62 (fun _ h64 => ?_) (fun _ h65 => ?_)))
 exact awp_seq (zg [2] 0 (then_n (awp_ret (inb_r (then_r (rr h64 ⟨rfl, er0 _⟩))))))
 exact awp_skip (inb_n (then_n (zg [0, 3, 4, 6] 1 (rn h65))))
 refine awp_exit (then_e ?_)
 obtain rfl := Option.some.inj h54
 exact round_e ⟨rfl, Le.trans (s' := ⟨163, [u2, (3, .int .i64 p1)], u1⟩) (kp [0, 3]) (le_cut (n := 0) (by kernel_rfl))⟩
 intro e68 s69 o70
 rcases y19 with g20 | y21
 have h71 := elim_l h67
 obtain ⟨rfl, l73⟩ := o70
 exact inb_here (inb_n (then_le (s' := ⟨163, [u2, (3, .int .i64 p1)], []⟩) (l73) (zg [0, 3] 0 (rn h71))))
 have h72 := elim_r h67
 obtain ⟨rfl, n74⟩ := o70
 exact inb_r (inb_r (then_r (rr h72 ⟨rfl, n74⟩)))
 have h30 := elim_r h25
 obtain ⟨rfl, n75⟩ := o28
 exact inb_r (then_r (inb_r (then_r (rr h30 ⟨rfl, n75⟩))))
 exact awp_exit (then_e (re h7 ⟨rfl, kq⟩))
 intro e78 s79 o80
 rcases y22 with g23 | y24
 have h81 := elim_l h77
 exact zi o80 (awp_seq (zg [2] 0 (then_n (awp_ret (er1 h81)))))
 have h82 := elim_r h77
 obtain ⟨rfl, n84⟩ := o80
 refine inb_r (then_r ?_)
 obtain rfl := Option.some.inj h82
 exact n84
theorem ref4_Valid_ok (a0 : TPrefix) (r : Bool) (h : M.ref4_Valid a0 = some r) : Fn Tryz.prog 66 [.agg (c_TPrefix a0)] (.pure (.bool r)) := by
 unfold M.ref4_Valid at h
 refine fn_pure Tryz.func66 rfl (by kernel_rfl) (awp_seq (zg [1] 1 (then_n (awp_seq ?_))))
 obtain ⟨r1, q1, h2⟩ := bind_some h
 exact zr [2] 0 nil_all (rq2 (fun hg => ref4_Mask_ok _ _ (gc_some q1 hg)) rqn) (then_n (awp_ret (er1 h2)))
theorem ref8_ValidPrefixRule_ok (a0 : TPrefixRule) (r : Bool) (h : M.ref8_ValidPrefixRule a0 = some r) : Fn Tryz.prog 63 [.agg (c_TPrefixRule a0)] (.pure (.bool r)) := by
 unfold M.ref8_ValidPrefixRule at h
 refine fn_pure Tryz.func63 rfl (by kernel_rfl) (awp_seq (zg [1] 1 (then_n (awp_seq ?_))))
 obtain ⟨r1, q1, h2⟩ := bind_some h
 exact zr [2] 0 nil_all (rq1 (ref4_Valid_ok _ _ q1) rqn) (then_n (awp_ret (er1 h2)))
theorem ref8_prefixLists_ok (a0 : List TPrefixList) (r : Int) (h : M.ref8_prefixLists a0 = some r) : Fn Tryz.prog 28 [sL 2 c_TPrefixList a0] (.pure (.int .i64 r)) := by
 let u1 : Nat × D := (0, sL 2 c_TPrefixList a0)
 unfold M.ref8_prefixLists at h
 refine fn_pure Tryz.func28 rfl (by kernel_rfl) (awp_seq (zg [0] 0 (then_n (awp_seq (awp_seq (zg [0, 8] 0 (then_n (cn h (fun _ h2 => ?_) (fun _ h3 => ?_)))))))))
 exact awp_seq (zg [2] 0 (then_n (awp_ret (then_r (er1 h2)))))
 refine awp_skip (then_n (awp_seq (awp_seq (zg [0, 3] 0 (then_n (awp_block ?_))))))
 obtain ⟨y15, q65, h66⟩ := bind_some h3
 refine zl (fun (p1 : Int) => ⟨72, [u1, (3, .int .i64 p1)], []⟩) (Sum.elim (fun z => OutE 0 (fun z => ⟨72, [], []⟩) z) (fun z => OutR Tryz.prog Tryz.f28 (.int .i64 z))) q65 ?_ ?_
 intro p1 y2 h4
 unfold M.ref8_prefixLists_l1 at h4
 refine awp_seq (awp_seq (zg [0, 3, 12] 0 (then_n (cn h4 (fun _ h6 => ?_) (fun _ h7 => ?_)))))
 refine awp_skip (then_n (awp_seq (awp_block (awp_seq (awp_seq ?_)))))
 obtain ⟨r3, q8, h9⟩ := bind_some h6
 obtain ⟨c10, h11⟩ := gd_some h9
 refine zr [0, 3, 21] 0 c10 (rq1 (ref4_Name_ok _ _ q8) rqn) (then_n (cn h11 (fun _ h13 => ?_) (fun _ h14 => ?_)))
 exact awp_seq (zg [2] 0 (then_n (awp_ret (then_r (inb_r (then_r (rr h13 ⟨rfl, er0 _⟩)))))))
 refine awp_skip (then_n (awp_seq (awp_seq (zg [0, 3, 4] 0 (then_n (awp_block ?_))))))
 obtain ⟨y6, q24, h25⟩ := bind_some h14
 refine zl (fun (p4 : Int) => ⟨72, [u1, (3, .int .i64 p1), (4, .int .i64 p4)], []⟩) (Sum.elim (fun z => OutE 2 (fun z => ⟨72, [u1, (3, .int .i64 p1)], []⟩) z) (fun z => OutR Tryz.prog Tryz.f28 (.int .i64 z))) q24 ?_ ?_
 intro p4 y5 h15
 unfold M.ref8_prefixLists_l2 at h15
 refine awp_seq (awp_seq (zg [0, 3, 4, 24] 0 (then_n (cn h15 (fun _ h17 => ?_) (fun _ h18 => ?_)))))
 refine awp_skip (then_n (awp_seq (awp_block (awp_seq ?_))))
 obtain ⟨c19, h20⟩ := gd_some h17
 refine zc [0, 3, 4, 37] 0 c19 (then_n (cn h20 (fun _ h22 => ?_) (fun _ h23 => ?_)))
 exact awp_seq (zg [2] 0 (then_n (awp_ret (inb_r (then_r (rr h22 ⟨rfl, er0 _⟩))))))
 exact awp_skip (inb_n (then_n (zg [0, 3, 4] 0 (rn h23))))
 exact awp_exit (then_e (re h18 ⟨rfl, kq⟩))
 intro e26 s27 o28
 rcases y6 with g7 | y8
 have h29 := elim_l h25
 refine zi o28 (awp_seq (awp_seq ?_))
 obtain ⟨c32, h33⟩ := gd_some h29
 refine zc [0, 3, 44] 0 c32 (then_n (cn h33 (fun _ h35 => ?_) (fun _ h36 => ?_)))
 exact awp_seq (zg [2] 0 (then_n (awp_ret (then_r (inb_r (then_r (rr h35 ⟨rfl, er0 _⟩)))))))
 refine awp_skip (then_n (awp_seq (awp_seq ?_)))
 obtain ⟨c37, h38⟩ := gd_some h36
 refine zc [0, 3, 51] 0 c37 (then_n (cn h38 (fun _ h40 => ?_) (fun _ h41 => ?_)))
 exact awp_seq (zg [2] 0 (then_n (awp_ret (then_r (inb_r (then_r (rr h40 ⟨rfl, er0 _⟩)))))))
 refine awp_skip (then_n (awp_seq (zg [0, 3, 5] 0 (then_n (awp_block ?_)))))
 obtain ⟨y12, q55, h56⟩ := bind_some h41
 refine zl (fun (p9 : Int) => ⟨72, [u1, (3, .int .i64 p1), (5, .int .i64 p9)], []⟩) (Sum.elim (fun z => OutE 4 (fun z => ⟨72, [u1, (3, .int .i64 p1)], []⟩) z) (fun z => OutR Tryz.prog Tryz.f28 (.int .i64 z))) q55 ?_ ?_
 intro p9 y10 h42
 unfold M.ref8_prefixLists_l3 at h42
 refine awp_seq (awp_seq ?_)
 obtain ⟨c43, h44⟩ := gd_some h42
 refine zc [0, 3, 5, 59] 0 c43 (then_n (cn h44 (fun _ h46 => ?_) (fun _ h47 => ?_)))
 refine awp_skip (then_n (awp_seq (awp_block (awp_seq ?_))))
 obtain ⟨r11, q48, h49⟩ := bind_some h46
 obtain ⟨c50, h51⟩ := gd_some h49
 refine zr [0, 3, 5, 71] 0 c50 (rq1 (ref8_ValidPrefixRule_ok _ _ q48) rqn) (then_n (cn h51 (fun _ h53 => ?_) (fun _ h54 => ?_)))
 exact awp_seq (zg [2] 0 (then_n (awp_ret (inb_r (then_r (rr h53 ⟨rfl, er0 _⟩))))))
 exact awp_skip (inb_n (then_n (zg [0, 3, 5] 0 (rn h54))))
 exact awp_exit (then_e (re h47 ⟨rfl, kq⟩))
 intro e57 s58 o59
 rcases y12 with g13 | y14
 have h60 := elim_l h56
 obtain ⟨rfl, l62⟩ := o59
 exact inb_here (inb_n (then_le (s' := ⟨72, [u1, (3, .int .i64 p1)], []⟩) (l62) (zg [0, 3] 0 (rn h60))))
 have h61 := elim_r h56
 obtain ⟨rfl, n63⟩ := o59
 exact inb_r (inb_r (then_r (rr h61 ⟨rfl, n63⟩)))
 have h30 := elim_r h25
 obtain ⟨rfl, n64⟩ := o28
 exact inb_r (then_r (inb_r (then_r (rr h30 ⟨rfl, n64⟩))))
 exact awp_exit (then_e (re h7 ⟨rfl, kq⟩))
 intro e67 s68 o69
 rcases y15 with g16 | y17
 have h70 := elim_l h66
 exact zi o69 (awp_seq (zg [2] 0 (then_n (awp_ret (er1 h70)))))
 have h71 := elim_r h66
 obtain ⟨rfl, n73⟩ := o69
 refine inb_r (then_r ?_)
 obtain rfl := Option.some.inj h71
 exact n73
theorem ref8_PrefixList_ok (a0 : TRouter) (a1 : ByteArray) (r : Int) (h : M.ref8_PrefixList a0 a1 = some r) : Fn Tryz.prog 64 [.agg (c_TRouter a0), .str a1] (.pure (.int .i64 r)) := by
 let u1 : List Ob := [.box (c_TRouter a0)]
 unfold M.ref8_PrefixList at h
 refine fn_pure Tryz.func64 rfl (by kernel_rfl) (awp_seq (zg [1, 2] 1 (then_n (awp_seq (awp_seq (zg [1, 2, 5] 1 (then_n (awp_block ?_))))))))
 obtain ⟨y3, q10, h11⟩ := bind_some h
 refine zl (fun (p1 : Int) => ⟨22, [(1, .str a1), (2, .ref 0 0), (5, .int .i64 p1)], u1⟩) (Sum.elim (fun z => OutE 0 (fun z => ⟨22, [], []⟩) z) (fun z => OutR Tryz.prog Tryz.f64 (.int .i64 z))) q10 ?_ ?_
 intro p1 y2 h1
 unfold M.ref8_PrefixList_l1 at h1
 refine awp_seq (awp_seq (rg0 [1, 2, 5, 10] 1 ⟨22, [(1, .str a1), (2, .ref 0 0), (5, .int .i64 p1), (10, .bool (decide (p1 < (a0.fLists.length : Int))))], u1⟩ (then_n (cn h1 (fun _ h3 => ?_) (fun _ h4 => ?_)))))
 refine awp_skip (then_n (awp_seq (awp_block (awp_seq ?_))))
 obtain ⟨c5, h6⟩ := gd_some h3
 refine zc [1, 2, 5, 20] 1 c5 (then_n (cn h6 (fun _ h8 => ?_) (fun _ h9 => ?_)))
 exact awp_seq (zg [4] 0 (then_n (awp_ret (inb_r (then_r (rr h8 ⟨rfl, er0 _⟩))))))
 exact awp_skip (inb_n (then_n (zg [1, 2, 5] 1 (rn h9))))
 refine awp_exit (then_e ?_)
 obtain rfl := Option.some.inj h4
 exact round_e ⟨rfl, Le.trans (s' := ⟨22, [], u1⟩) (kp []) (le_cut (n := 0) (by kernel_rfl))⟩
 intro e12 s13 o14
 rcases y3 with g4 | y5
 have h15 := elim_l h11
 exact zi o14 (awp_seq (zg [4] 0 (then_n (awp_ret (er1 h15)))))
 have h16 := elim_r h11
 obtain ⟨rfl, n18⟩ := o14
 refine inb_r (then_r ?_)
 obtain rfl := Option.some.inj h16
 exact n18
theorem ref8_routeMaps_ok (a0 : TRouter) (r : Int) (h : M.ref8_routeMaps a0 = some r) : Fn Tryz.prog 29 [.agg (c_TRouter a0)] (.pure (.int .i64 r)) := by
 let u1 : Nat × D := (3, sL 2 c_TRouteMap a0.fMaps)
 let u2 : List Ob := [.box (c_TRouter a0)]
 unfold M.ref8_routeMaps at h
 refine fn_pure Tryz.func29 rfl (by kernel_rfl) (awp_seq (zg [1] 1 (then_n (awp_seq (zg [1, 3] 1 (then_n (awp_seq (awp_seq (zg [1, 3, 12] 1 (then_n (cn h (fun _ h2 => ?_) (fun _ h3 => ?_))))))))))))
 exact awp_seq (zg [2] 0 (then_n (awp_ret (then_r (er1 h2)))))
 refine awp_skip (then_n (awp_seq (awp_seq (zg [1, 3, 4] 1 (then_n (awp_block ?_))))))
 obtain ⟨y20, q78, h79⟩ := bind_some h3
 refine zl (fun (p1 : Int) => ⟨112, [(1, .ref 0 0), u1, (4, .int .i64 p1)], u2⟩) (Sum.elim (fun z => OutE 0 (fun z => ⟨112, [], []⟩) z) (fun z => OutR Tryz.prog Tryz.f29 (.int .i64 z))) q78 ?_ ?_
 intro p1 y2 h4
 unfold M.ref8_routeMaps_l1 at h4
 refine awp_seq (awp_seq (rg0 [1, 3, 4, 16] 1 ⟨112, [(1, .ref 0 0), u1, (4, .int .i64 p1), (16, .bool (decide (p1 < (a0.fMaps.length : Int))))], u2⟩ (then_n (cn h4 (fun _ h6 => ?_) (fun _ h7 => ?_)))))
 refine awp_skip (then_n (awp_seq (awp_block (awp_seq (awp_seq ?_)))))
 obtain ⟨r3, q8, h9⟩ := bind_some h6
 obtain ⟨c10, h11⟩ := gd_some h9
 refine zr [1, 3, 4, 25] 1 c10 (rq1 (ref4_Name_ok _ _ q8) rqn) (then_n (cn h11 (fun _ h13 => ?_) (fun _ h14 => ?_)))
 exact awp_seq (zg [2] 0 (then_n (awp_ret (then_r (inb_r (then_r (rr h13 ⟨rfl, er0 _⟩)))))))
 refine awp_skip (then_n (awp_seq (awp_seq (zg [1, 3, 4, 5] 1 (then_n (awp_block ?_))))))
 obtain ⟨y6, q24, h25⟩ := bind_some h14
 refine zl (fun (p4 : Int) => ⟨112, [(1, .ref 0 0), u1, (4, .int .i64 p1), (5, .int .i64 p4)], u2⟩) (Sum.elim (fun z => OutE 2 (fun z => ⟨112, [(1, .ref 0 0), u1, (4, .int .i64 p1)], u2⟩) z) (fun z => OutR Tryz.prog Tryz.f29 (.int .i64 z))) q24 ?_ ?_
 intro p4 y5 h15
 unfold M.ref8_routeMaps_l2 at h15
 refine awp_seq (awp_seq (zg [1, 3, 4, 5, 28] 1 (then_n (cn h15 (fun _ h17 => ?_) (fun _ h18 => ?_)))))
 refine awp_skip (then_n (awp_seq (awp_block (awp_seq ?_))))
 obtain ⟨c19, h20⟩ := gd_some h17
 refine zc [1, 3, 4, 5, 41] 1 c19 (then_n (cn h20 (fun _ h22 => ?_) (fun _ h23 => ?_)))
 exact awp_seq (zg [2] 0 (then_n (awp_ret (inb_r (then_r (rr h22 ⟨rfl, er0 _⟩))))))
 exact awp_skip (inb_n (then_n (zg [1, 3, 4, 5] 1 (rn h23))))
 exact awp_exit (then_e (re h18 ⟨rfl, kq⟩))
 intro e26 s27 o28
 rcases y6 with g7 | y8
 have h29 := elim_l h25
 refine zi o28 (awp_seq (awp_seq ?_))
 obtain ⟨c32, h33⟩ := gd_some h29
 refine zc [1, 3, 4, 48] 1 c32 (then_n (cn h33 (fun _ h35 => ?_) (fun _ h36 => ?_)))
 exact awp_seq (zg [2] 0 (then_n (awp_ret (then_r (inb_r (then_r (rr h35 ⟨rfl, er0 _⟩)))))))
 refine awp_skip (then_n (awp_seq (awp_seq ?_)))
 obtain ⟨c37, h38⟩ := gd_some h36
 refine zc [1, 3, 4, 55] 1 c37 (then_n (cn h38 (fun _ h40 => ?_) (fun _ h41 => ?_)))
 exact awp_seq (zg [2] 0 (then_n (awp_ret (then_r (inb_r (then_r (rr h40 ⟨rfl, er0 _⟩)))))))
 refine awp_skip (then_n (awp_seq (zg [1, 3, 4, 6] 1 (then_n (awp_block ?_)))))
 obtain ⟨y17, q68, h69⟩ := bind_some h41
 refine zl (fun (p9 : Int) => ⟨112, [(1, .ref 0 0), u1, (4, .int .i64 p1), (6, .int .i64 p9)], u2⟩) (Sum.elim (fun z => OutE 4 (fun z => ⟨112, [(1, .ref 0 0), u1, (4, .int .i64 p1)], u2⟩) z) (fun z => OutR Tryz.prog Tryz.f29 (.int .i64 z))) q68 ?_ ?_
 intro p9 y10 h42
 unfold M.ref8_routeMaps_l3 at h42
 refine awp_seq (awp_seq ?_)
 obtain ⟨c43, h44⟩ := gd_some h42
 refine zc [1, 3, 4, 6, 63] 1 c43 (then_n (cn h44 (fun _ h46 => ?_) (fun _ h47 => ?_)))
 refine awp_skip (then_n (awp_seq (awp_block (awp_seq ?_))))
 obtain ⟨c48, h49⟩ := gd_some h46
 refine zc [1, 3, 4, 6, 7] 2 c48 (then_n (awp_seq (awp_seq ?_)))
 obtain ⟨r11, q50, h51⟩ := bind_some h49
 refine zr [1, 3, 4, 6, 7, 83] 2 nil_all (rq2 (fun hg => ref8_PrefixList_ok _ _ _ (gc_some q50 hg)) rqn) (then_n (cn h51 (fun _ h53 => ?_) (fun _ h54 => ?_)))
 exact awp_seq (zg [2] 0 (then_n (awp_ret (then_r (inb_r (then_r (rr h53 ⟨rfl, er0 _⟩)))))))
 refine awp_skip (then_n (awp_seq ?_))
 obtain ⟨r12, q55, h56⟩ := bind_some h54
 obtain ⟨r13, q57, h58⟩ := bind_some h56
 obtain ⟨r14, q59, h60⟩ := bind_some h58
 obtain ⟨r15, q61, h62⟩ := bind_some h60
 obtain ⟨r16, q63, h64⟩ := bind_some h62
 refine zr [1, 3, 4, 6, 111] 1 nil_all (rq1 (ref8_within_ok _ _ _ _ q55) (rq2 (fun hg => ref8_within_ok _ _ _ _ (gc_some q57 hg)) (rq2 (fun hg => ref8_within_ok _ _ _ _ (gc_some q59 hg)) (rq2 (fun hg => ref8_within_ok _ _ _ _ (gc_some q61 hg)) (rq2 (fun hg => ref8_within_ok _ _ _ _ (gc_some q63 hg)) rqn))))) (then_n (cn h64 (fun _ h66 => ?_) (fun _ h67 => ?_)))
 exact awp_seq (zg [2] 0 (then_n (awp_ret (inb_r (then_r (rr h66 ⟨rfl, er0 _⟩))))))
 exact awp_skip (inb_n (then_n (zg [1, 3, 4, 6] 1 (rn h67))))
 exact awp_exit (then_e (re h47 ⟨rfl, kq⟩))
 intro e70 s71 o72
 rcases y17 with g18 | y19
 have h73 := elim_l h69
 obtain ⟨rfl, l75⟩ := o72
 exact inb_here (inb_n (then_le (s' := ⟨112, [(1, .ref 0 0), u1, (4, .int .i64 p1)], u2⟩) (l75) (zg [1, 3, 4] 1 (rn h73))))
 have h74 := elim_r h69
 obtain ⟨rfl, n76⟩ := o72
 exact inb_r (inb_r (then_r (rr h74 ⟨rfl, n76⟩)))
 have h30 := elim_r h25
 obtain ⟨rfl, n77⟩ := o28
 exact inb_r (then_r (inb_r (then_r (rr h30 ⟨rfl, n77⟩))))
 refine awp_exit (then_e ?_)
 obtain rfl := Option.some.inj h7
 exact round_e ⟨rfl, Le.trans (s' := ⟨112, [], u2⟩) (kp []) (le_cut (n := 0) (by kernel_rfl))⟩
 intro e80 s81 o82
 rcases y20 with g21 | y22
 have h83 := elim_l h79
 exact zi o82 (awp_seq (zg [2] 0 (then_n (awp_ret (er1 h83)))))
 have h84 := elim_r h79
 obtain ⟨rfl, n86⟩ := o82
 refine inb_r (then_r ?_)
 obtain rfl := Option.some.inj h84
 exact n86
theorem ref8_ports_ok (a0 : TPortRange) (r : Bool) (h : M.ref8_ports a0 = some r) : Fn Tryz.prog 104 [.agg (c_TPortRange a0)] (.pure (.bool r)) := by
 unfold M.ref8_ports at h
 exact fn_pure Tryz.func104 rfl (by kernel_rfl) (awp_seq (zg [1] 1 (then_n (awp_seq (zg [2] 0 (then_n (awp_ret (er1 h))))))))
theorem ref8_all_ok (a0 : TPortRange) (r : Bool) (h : M.ref8_all a0 = some r) : Fn Tryz.prog 105 [.agg (c_TPortRange a0)] (.pure (.bool r)) := by
 unfold M.ref8_all at h
 exact fn_pure Tryz.func105 rfl (by kernel_rfl) (awp_seq (zg [1] 1 (then_n (awp_seq (zg [2] 0 (then_n (awp_ret (er1 h))))))))
theorem ref8_ValidRule_ok (a0 : TRule) (r : Bool) (h : M.ref8_ValidRule a0 = some r) : Fn Tryz.prog 65 [.agg (c_TRule a0)] (.pure (.bool r)) := by
 unfold M.ref8_ValidRule at h
 refine fn_pure Tryz.func65 rfl (by kernel_rfl) (awp_seq (zg [1] 1 (then_n (awp_seq (awp_seq ?_)))))
 obtain ⟨r1, q1, h2⟩ := bind_some h
 obtain ⟨r2, q3, h4⟩ := bind_some h2
 obtain ⟨r3, q5, h6⟩ := bind_some h4
 refine zr [1, 38] 1 nil_all (rq1 (ref8_within_ok _ _ _ _ q1) (rq2 (fun hg => ref8_ports_ok _ _ (gc_some q3 hg)) (rq2 (fun hg => ref8_ports_ok _ _ (gc_some q5 hg)) rqn))) (then_n (cn h6 (fun _ h8 => ?_) (fun _ h9 => ?_)))
 exact awp_seq (zg [2] 0 (then_n (awp_ret (then_r (er1 h8)))))
 refine awp_skip (then_n (awp_seq ?_))
 obtain ⟨r4, q10, h11⟩ := bind_some h9
 obtain ⟨r5, q12, h13⟩ := bind_some h11
 exact zr [2] 0 nil_all (rq2 (fun hg => ref8_all_ok _ _ (gc_some q10 hg)) (rq2 (fun hg => ref8_all_ok _ _ (gc_some q12 hg)) rqn)) (then_n (awp_ret (er1 h13)))
theorem ref8_accessLists_ok (a0 : List TACL) (r : Int) (h : M.ref8_accessLists a0 = some r) : Fn Tryz.prog 30 [sL 2 c_TACL a0] (.pure (.int .i64 r)) := by
 let u1 : Nat × D := (0, sL 2 c_TACL a0)
 unfold M.ref8_accessLists at h
 refine fn_pure Tryz.func30 rfl (by kernel_rfl) (awp_seq (zg [0] 0 (then_n (awp_seq (awp_seq (zg [0, 8] 0 (then_n (cn h (fun _ h2 => ?_) (fun _ h3 => ?_)))))))))
 exact awp_seq (zg [2] 0 (then_n (awp_ret (then_r (er1 h2)))))
 refine awp_skip (then_n (awp_seq (awp_seq (zg [0, 3] 0 (then_n (awp_block ?_))))))
 obtain ⟨y15, q65, h66⟩ := bind_some h3
 refine zl (fun (p1 : Int) => ⟨72, [u1, (3, .int .i64 p1)], []⟩) (Sum.elim (fun z => OutE 0 (fun z => ⟨72, [], []⟩) z) (fun z => OutR Tryz.prog Tryz.f30 (.int .i64 z))) q65 ?_ ?_
 intro p1 y2 h4
 unfold M.ref8_accessLists_l1 at h4
 refine awp_seq (awp_seq (zg [0, 3, 12] 0 (then_n (cn h4 (fun _ h6 => ?_) (fun _ h7 => ?_)))))
 refine awp_skip (then_n (awp_seq (awp_block (awp_seq (awp_seq ?_)))))
 obtain ⟨r3, q8, h9⟩ := bind_some h6
 obtain ⟨c10, h11⟩ := gd_some h9
 refine zr [0, 3, 21] 0 c10 (rq1 (ref4_Name_ok _ _ q8) rqn) (then_n (cn h11 (fun _ h13 => ?_) (fun _ h14 => ?_)))
 exact awp_seq (zg [2] 0 (then_n (awp_ret (then_r (inb_r (then_r (rr h13 ⟨rfl, er0 _⟩)))))))
 refine awp_skip (then_n (awp_seq (awp_seq (zg [0, 3, 4] 0 (then_n (awp_block ?_))))))
 obtain ⟨y6, q24, h25⟩ := bind_some h14
 refine zl (fun (p4 : Int) => ⟨72, [u1, (3, .int .i64 p1), (4, .int .i64 p4)], []⟩) (Sum.elim (fun z => OutE 2 (fun z => ⟨72, [u1, (3, .int .i64 p1)], []⟩) z) (fun z => OutR Tryz.prog Tryz.f30 (.int .i64 z))) q24 ?_ ?_
 intro p4 y5 h15
 unfold M.ref8_accessLists_l2 at h15
 refine awp_seq (awp_seq (zg [0, 3, 4, 24] 0 (then_n (cn h15 (fun _ h17 => ?_) (fun _ h18 => ?_)))))
 refine awp_skip (then_n (awp_seq (awp_block (awp_seq ?_))))
 obtain ⟨c19, h20⟩ := gd_some h17
 refine zc [0, 3, 4, 37] 0 c19 (then_n (cn h20 (fun _ h22 => ?_) (fun _ h23 => ?_)))
 exact awp_seq (zg [2] 0 (then_n (awp_ret (inb_r (then_r (rr h22 ⟨rfl, er0 _⟩))))))
 exact awp_skip (inb_n (then_n (zg [0, 3, 4] 0 (rn h23))))
 exact awp_exit (then_e (re h18 ⟨rfl, kq⟩))
 intro e26 s27 o28
 rcases y6 with g7 | y8
 have h29 := elim_l h25
 refine zi o28 (awp_seq (awp_seq ?_))
 obtain ⟨c32, h33⟩ := gd_some h29
 refine zc [0, 3, 44] 0 c32 (then_n (cn h33 (fun _ h35 => ?_) (fun _ h36 => ?_)))
 exact awp_seq (zg [2] 0 (then_n (awp_ret (then_r (inb_r (then_r (rr h35 ⟨rfl, er0 _⟩)))))))
 refine awp_skip (then_n (awp_seq (awp_seq ?_)))
 obtain ⟨c37, h38⟩ := gd_some h36
 refine zc [0, 3, 51] 0 c37 (then_n (cn h38 (fun _ h40 => ?_) (fun _ h41 => ?_)))
 exact awp_seq (zg [2] 0 (then_n (awp_ret (then_r (inb_r (then_r (rr h40 ⟨rfl, er0 _⟩)))))))
 refine awp_skip (then_n (awp_seq (zg [0, 3, 5] 0 (then_n (awp_block ?_)))))
 obtain ⟨y12, q55, h56⟩ := bind_some h41
 refine zl (fun (p9 : Int) => ⟨72, [u1, (3, .int .i64 p1), (5, .int .i64 p9)], []⟩) (Sum.elim (fun z => OutE 4 (fun z => ⟨72, [u1, (3, .int .i64 p1)], []⟩) z) (fun z => OutR Tryz.prog Tryz.f30 (.int .i64 z))) q55 ?_ ?_
 intro p9 y10 h42
 unfold M.ref8_accessLists_l3 at h42
 refine awp_seq (awp_seq ?_)
 obtain ⟨c43, h44⟩ := gd_some h42
 refine zc [0, 3, 5, 59] 0 c43 (then_n (cn h44 (fun _ h46 => ?_) (fun _ h47 => ?_)))
 refine awp_skip (then_n (awp_seq (awp_block (awp_seq ?_))))
 obtain ⟨r11, q48, h49⟩ := bind_some h46
 obtain ⟨c50, h51⟩ := gd_some h49
 refine zr [0, 3, 5, 71] 0 c50 (rq1 (ref8_ValidRule_ok _ _ q48) rqn) (then_n (cn h51 (fun _ h53 => ?_) (fun _ h54 => ?_)))
 exact awp_seq (zg [2] 0 (then_n (awp_ret (inb_r (then_r (rr h53 ⟨rfl, er0 _⟩))))))
 exact awp_skip (inb_n (then_n (zg [0, 3, 5] 0 (rn h54))))
 exact awp_exit (then_e (re h47 ⟨rfl, kq⟩))
 intro e57 s58 o59
 rcases y12 with g13 | y14
 have h60 := elim_l h56
 obtain ⟨rfl, l62⟩ := o59
 exact inb_here (inb_n (then_le (s' := ⟨72, [u1, (3, .int .i64 p1)], []⟩) (l62) (zg [0, 3] 0 (rn h60))))
 have h61 := elim_r h56
 obtain ⟨rfl, n63⟩ := o59
 exact inb_r (inb_r (then_r (rr h61 ⟨rfl, n63⟩)))
 have h30 := elim_r h25
 obtain ⟨rfl, n64⟩ := o28
 exact inb_r (then_r (inb_r (then_r (rr h30 ⟨rfl, n64⟩))))
 exact awp_exit (then_e (re h7 ⟨rfl, kq⟩))
 intro e67 s68 o69
 rcases y15 with g16 | y17
 have h70 := elim_l h66
 exact zi o69 (awp_seq (zg [2] 0 (then_n (awp_ret (er1 h70)))))
 have h71 := elim_r h66
 obtain ⟨rfl, n73⟩ := o69
 refine inb_r (then_r ?_)
 obtain rfl := Option.some.inj h71
 exact n73
theorem ref8_ACL_ok (a0 : TRouter) (a1 : ByteArray) (r : Int) (h : M.ref8_ACL a0 a1 = some r) : Fn Tryz.prog 10 [.agg (c_TRouter a0), .str a1] (.pure (.int .i64 r)) := by
 let u1 : List Ob := [.box (c_TRouter a0)]
 unfold M.ref8_ACL at h
 refine fn_pure Tryz.func10 rfl (by kernel_rfl) (awp_seq (zg [1, 2] 1 (then_n (awp_seq (awp_seq (zg [1, 2, 5] 1 (then_n (awp_block ?_))))))))
 obtain ⟨y3, q10, h11⟩ := bind_some h
 refine zl (fun (p1 : Int) => ⟨22, [(1, .str a1), (2, .ref 0 0), (5, .int .i64 p1)], u1⟩) (Sum.elim (fun z => OutE 0 (fun z => ⟨22, [], []⟩) z) (fun z => OutR Tryz.prog Tryz.f10 (.int .i64 z))) q10 ?_ ?_
 intro p1 y2 h1
 unfold M.ref8_ACL_l1 at h1
 refine awp_seq (awp_seq (rg0 [1, 2, 5, 10] 1 ⟨22, [(1, .str a1), (2, .ref 0 0), (5, .int .i64 p1), (10, .bool (decide (p1 < (a0.fACLs.length : Int))))], u1⟩ (then_n (cn h1 (fun _ h3 => ?_) (fun _ h4 => ?_)))))
 refine awp_skip (then_n (awp_seq (awp_block (awp_seq ?_))))
 obtain ⟨c5, h6⟩ := gd_some h3
 refine zc [1, 2, 5, 20] 1 c5 (then_n (cn h6 (fun _ h8 => ?_) (fun _ h9 => ?_)))
 exact awp_seq (zg [4] 0 (then_n (awp_ret (inb_r (then_r (rr h8 ⟨rfl, er0 _⟩))))))
 exact awp_skip (inb_n (then_n (zg [1, 2, 5] 1 (rn h9))))
 refine awp_exit (then_e ?_)
 obtain rfl := Option.some.inj h4
 exact round_e ⟨rfl, Le.trans (s' := ⟨22, [], u1⟩) (kp []) (le_cut (n := 0) (by kernel_rfl))⟩
 intro e12 s13 o14
 rcases y3 with g4 | y5
 have h15 := elim_l h11
 exact zi o14 (awp_seq (zg [4] 0 (then_n (awp_ret (er1 h15)))))
 have h16 := elim_r h11
 obtain ⟨rfl, n18⟩ := o14
 refine inb_r (then_r ?_)
 obtain rfl := Option.some.inj h16
 exact n18
theorem ref8_translations_ok (a0 : TRouter) (r : Int) (h : M.ref8_translations a0 = some r) : Fn Tryz.prog 31 [.agg (c_TRouter a0)] (.pure (.int .i64 r)) := by
 let u2 := c_TRouter a0
 unfold M.ref8_translations at h
 refine fn_pure Tryz.func31 rfl (by kernel_rfl) (awp_seq (zg [1] 1 (then_n (awp_seq (awp_seq (zg [1, 9] 1 (then_n (cn h (fun _ h2 => ?_) (fun _ h3 => ?_)))))))))
 exact awp_seq (zg [2] 0 (then_n (awp_ret (then_r (er1 h2)))))
 refine awp_skip (then_n (awp_seq (awp_seq (zg [1, 3] 1 (then_n (awp_block ?_))))))
 obtain ⟨y7, q33, h34⟩ := bind_some h3
 refine zl (fun (p1 : Int) => ⟨135, [(1, .ref 0 0), (3, .int .i64 p1)], [.box u2]⟩) (Sum.elim (fun z => OutE 0 (fun z => ⟨135, [], []⟩) z) (fun z => OutR Tryz.prog Tryz.f31 (.int .i64 z))) q33 ?_ ?_
 intro p1 y2 h4
 let u1 := a0.fNAT.getD p1.toNat default
 let u3 := ((u1.fInside) != 0) && ((u1.fOutside) != 0)
 let u4 : List Ob := [.box u2, .box (c_TTranslation u1)]
 unfold M.ref8_translations_l1 at h4
 refine awp_seq (awp_seq (rg0 [1, 3, 14] 1 ⟨135, [(1, .ref 0 0), (3, .int .i64 p1), (14, .bool (decide (p1 < (a0.fNAT.length : Int))))], [.box u2]⟩ (then_n (cn h4 (fun _ h6 => ?_) (fun _ h7 => ?_)))))
 refine awp_skip (then_n (awp_seq (awp_block (awp_seq ?_))))
 obtain ⟨c8, h9⟩ := gd_some h6
 refine zc [1, 3, 4] 2 c8 (then_n (awp_seq (rg0 [1, 3, 4, 5] 2 ⟨135, [(1, .ref 0 0), (3, .int .i64 p1), (4, .ref 1 0), (5, .bool false)], u4⟩ (then_n (awp_join (fun (p3 : Bool) => ⟨135, [(1, .ref 0 0), (3, .int .i64 p1), (4, .ref 1 0), (5, .bool p3)], u4⟩) (fun p3 => M.ref8_translations_k1 a0 p1 p3 = some y2) ?_ ?_)))))
 intro p3 h11
 unfold M.ref8_translations_k1 at h11
 refine awp_seq (awp_seq (zg [1, 3, 4, 124] 2 (then_n (cn h11 (fun _ h13 => ?_) (fun _ h14 => ?_)))))
 exact awp_seq (zg [2] 0 (then_n (awp_ret (then_r (inb_r (then_r (rr h13 ⟨rfl, er0 _⟩)))))))
 refine awp_skip (then_n (awp_seq ?_))
 obtain ⟨r4, q15, h16⟩ := bind_some h14
 refine zr [1, 3, 134] 1 nil_all (rq2 (fun hg => ref8_ACL_ok _ _ _ (gc_some q15 hg)) rqn) (then_n (cn h16 (fun _ h18 => ?_) (fun _ h19 => ?_)))
 exact awp_seq (zg [2] 0 (then_n (awp_ret (inb_r (then_r (rr h18 ⟨rfl, er0 _⟩))))))
 exact awp_skip (inb_n (then_n (zg [1, 3] 1 (rn h19))))
 intro k10
 refine awp_seq (zg [1, 3, 4, 5, 23] 2 (then_n (awp_block (awp_seq (zg [1, 3, 4, 5, 23, 24] 2 (then_n (cn h9 (fun _ h21 => ?_) (fun _ h22 => ?_))))))))
 exact zg [1, 3, 4, 5] 2 (inb_n (then_le lk (k10 (u3 && (((u1.fKind) == (u1.fKind)) && (((u1.fInside) == (u1.fInside)) && (((u1.fOutside) == (u1.fOutside)) && (((u1.fProto) == 0) && (((u1.fInsidePort) == 0) && (((u1.fOutsidePort) == 0) && (strEq (u1.fList) (⟨#[]⟩ : ByteArray) && (((u1.fLo) == 0) && (((u1.fHi) == 0) && true)))))))))) h21)))
 refine awp_seq (zg [1, 3, 4, 5, 23, 45] 2 (then_n (cn h22 (fun _ h24 => ?_) (fun _ h25 => ?_))))
 exact zg [1, 3, 4, 5] 2 (inb_n (then_le lk (k10 (((((u1.fLo) != 0) && (decide ((u1.fLo) ≤ (u1.fHi)))) && (decide ((wr .u32 ((u1.fHi) - (u1.fLo))) < 8))) && (((u1.fKind) == (u1.fKind)) && (((u1.fInside) == 0) && (((u1.fOutside) == 0) && (((u1.fProto) == 0) && (((u1.fInsidePort) == 0) && (((u1.fOutsidePort) == 0) && (strEq (u1.fList) (u1.fList) && (((u1.fLo) == (u1.fLo)) && (((u1.fHi) == (u1.fHi)) && true)))))))))) h24)))
 refine awp_seq (zg [1, 3, 4, 5, 78] 2 (then_n (cn h25 (fun _ h27 => ?_) (fun _ h28 => ?_))))
 obtain ⟨r5, q29, h30⟩ := bind_some h27
 obtain ⟨r6, q31, h32⟩ := bind_some h30
 exact zr [1, 3, 4, 5] 2 nil_all (rq2 (fun hg => ref8_within_ok _ _ _ _ (gc_some q29 hg)) (rq2 (fun hg => ref8_within_ok _ _ _ _ (gc_some q31 hg)) rqn)) (inb_n (then_le lk (k10 ((((((u3 && (((u1.fProto) == 6) || ((u1.fProto) == 17))) && r5) && r6) && (strEq (u1.fList) (⟨#[]⟩ : ByteArray))) && ((u1.fLo) == 0)) && ((u1.fHi) == 0)) h32)))
 exact awp_skip (inb_n (then_le kq (k10 false h28)))
 refine awp_exit (then_e ?_)
 obtain rfl := Option.some.inj h7
 exact round_e ⟨rfl, Le.trans (s' := ⟨135, [], [.box u2]⟩) (kp []) (le_cut (n := 0) (by kernel_rfl))⟩
 intro e35 s36 o37
 rcases y7 with g8 | y9
 have h38 := elim_l h34
 exact zi o37 (awp_seq (zg [2] 0 (then_n (awp_ret (er1 h38)))))
 have h39 := elim_r h34
 obtain ⟨rfl, n41⟩ := o37
 refine inb_r (then_r ?_)
 obtain rfl := Option.some.inj h39
 exact n41
theorem ref8_filters_ok (a0 : TRouter) (r : Int) (h : M.ref8_filters a0 = some r) : Fn Tryz.prog 32 [.agg (c_TRouter a0)] (.pure (.int .i64 r)) := by
 let u1 : List Ob := [.box (c_TRouter a0)]
 unfold M.ref8_filters at h
 refine fn_pure Tryz.func32 rfl (by kernel_rfl) (awp_seq (zg [1] 1 (then_n (awp_seq (awp_seq (zg [1, 3] 1 (then_n (awp_block ?_))))))))
 obtain ⟨y5, q14, h15⟩ := bind_some h
 refine zl (fun (p1 : Int) => ⟨39, [(1, .ref 0 0), (3, .int .i64 p1)], u1⟩) (Sum.elim (fun z => OutE 0 (fun z => ⟨39, [], []⟩) z) (fun z => OutR Tryz.prog Tryz.f32 (.int .i64 z))) q14 ?_ ?_
 intro p1 y2 h1
 unfold M.ref8_filters_l1 at h1
 refine awp_seq (awp_seq (rg0 [1, 3, 9] 1 ⟨39, [(1, .ref 0 0), (3, .int .i64 p1), (9, .bool (decide (p1 < (a0.fInterfaces.length : Int))))], u1⟩ (then_n (cn h1 (fun _ h3 => ?_) (fun _ h4 => ?_)))))
 refine awp_skip (then_n (awp_seq (awp_block (awp_seq ?_))))
 obtain ⟨c5, h6⟩ := gd_some h3
 refine zc [1, 3, 4] 2 c5 (then_n (awp_seq ?_))
 obtain ⟨r3, q7, h8⟩ := bind_some h6
 obtain ⟨r4, q9, h10⟩ := bind_some h8
 refine zr [1, 3, 38] 1 nil_all (rq2 (fun hg => ref8_ACL_ok _ _ _ (gc_some q7 hg)) (rq2 (fun hg => ref8_ACL_ok _ _ _ (gc_some q9 hg)) rqn)) (then_n (cn h10 (fun _ h12 => ?_) (fun _ h13 => ?_)))
 exact awp_seq (zg [2] 0 (then_n (awp_ret (inb_r (then_r (rr h12 ⟨rfl, er0 _⟩))))))
 exact awp_skip (inb_n (then_n (zg [1, 3] 1 (rn h13))))
 refine awp_exit (then_e ?_)
 obtain rfl := Option.some.inj h4
 exact round_e ⟨rfl, Le.trans (s' := ⟨39, [], u1⟩) (kp []) (le_cut (n := 0) (by kernel_rfl))⟩
 intro e16 s17 o18
 rcases y5 with g6 | y7
 have h19 := elim_l h15
 exact zi o18 (awp_seq (zg [2] 0 (then_n (awp_ret (er1 h19)))))
 have h20 := elim_r h15
 obtain ⟨rfl, n22⟩ := o18
 refine inb_r (then_r ?_)
 obtain rfl := Option.some.inj h20
 exact n22
theorem ref8_Address_ok (a0 : TRouter) (a1 : Int) (r : Int) (h : M.ref8_Address a0 a1 = some r) : Fn Tryz.prog 42 [.agg (c_TRouter a0), .int .u32 a1] (.pure (.int .i64 r)) := by
 let u1 : List Ob := [.box (c_TRouter a0)]
 unfold M.ref8_Address at h
 refine fn_pure Tryz.func42 rfl (by kernel_rfl) (awp_seq (zg [1, 2] 1 (then_n (awp_seq (awp_seq (zg [1, 2, 5] 1 (then_n (awp_block ?_))))))))
 obtain ⟨y3, q10, h11⟩ := bind_some h
 refine zl (fun (p1 : Int) => ⟨31, [(1, .int .u32 a1), (2, .ref 0 0), (5, .int .i64 p1)], u1⟩) (Sum.elim (fun z => OutE 0 (fun z => ⟨31, [], []⟩) z) (fun z => OutR Tryz.prog Tryz.f42 (.int .i64 z))) q10 ?_ ?_
 intro p1 y2 h1
 unfold M.ref8_Address_l1 at h1
 refine awp_seq (awp_seq (rg0 [1, 2, 5, 10] 1 ⟨31, [(1, .int .u32 a1), (2, .ref 0 0), (5, .int .i64 p1), (10, .bool (decide (p1 < (a0.fInterfaces.length : Int))))], u1⟩ (then_n (cn h1 (fun _ h3 => ?_) (fun _ h4 => ?_)))))
 refine awp_skip (then_n (awp_seq (awp_block (awp_seq ?_))))
 obtain ⟨c5, h6⟩ := gd_some h3
 refine zc [1, 2, 5, 29] 1 c5 (then_n (cn h6 (fun _ h8 => ?_) (fun _ h9 => ?_)))
 exact awp_seq (zg [4] 0 (then_n (awp_ret (inb_r (then_r (rr h8 ⟨rfl, er0 _⟩))))))
 exact awp_skip (inb_n (then_n (zg [1, 2, 5] 1 (rn h9))))
 refine awp_exit (then_e ?_)
 obtain rfl := Option.some.inj h4
 exact round_e ⟨rfl, Le.trans (s' := ⟨31, [], u1⟩) (kp []) (le_cut (n := 0) (by kernel_rfl))⟩
 intro e12 s13 o14
 rcases y3 with g4 | y5
 have h15 := elim_l h11
 exact zi o14 (awp_seq (zg [4] 0 (then_n (awp_ret (er1 h15)))))
 have h16 := elim_r h11
 obtain ⟨rfl, n18⟩ := o14
 refine inb_r (then_r ?_)
 obtain rfl := Option.some.inj h16
 exact n18
theorem ref8_Interface_ok (a0 : TRouter) (a1 : ByteArray) (r : Int) (h : M.ref8_Interface a0 a1 = some r) : Fn Tryz.prog 67 [.agg (c_TRouter a0), .str a1] (.pure (.int .i64 r)) := by
 let u1 : List Ob := [.box (c_TRouter a0)]
 unfold M.ref8_Interface at h
 refine fn_pure Tryz.func67 rfl (by kernel_rfl) (awp_seq (zg [1, 2] 1 (then_n (awp_seq (awp_seq (zg [1, 2, 5] 1 (then_n (awp_block ?_))))))))
 obtain ⟨y3, q10, h11⟩ := bind_some h
 refine zl (fun (p1 : Int) => ⟨22, [(1, .str a1), (2, .ref 0 0), (5, .int .i64 p1)], u1⟩) (Sum.elim (fun z => OutE 0 (fun z => ⟨22, [], []⟩) z) (fun z => OutR Tryz.prog Tryz.f67 (.int .i64 z))) q10 ?_ ?_
 intro p1 y2 h1
 unfold M.ref8_Interface_l1 at h1
 refine awp_seq (awp_seq (rg0 [1, 2, 5, 10] 1 ⟨22, [(1, .str a1), (2, .ref 0 0), (5, .int .i64 p1), (10, .bool (decide (p1 < (a0.fInterfaces.length : Int))))], u1⟩ (then_n (cn h1 (fun _ h3 => ?_) (fun _ h4 => ?_)))))
 refine awp_skip (then_n (awp_seq (awp_block (awp_seq ?_))))
 obtain ⟨c5, h6⟩ := gd_some h3
 refine zc [1, 2, 5, 20] 1 c5 (then_n (cn h6 (fun _ h8 => ?_) (fun _ h9 => ?_)))
 exact awp_seq (zg [4] 0 (then_n (awp_ret (inb_r (then_r (rr h8 ⟨rfl, er0 _⟩))))))
 exact awp_skip (inb_n (then_n (zg [1, 2, 5] 1 (rn h9))))
 refine awp_exit (then_e ?_)
 obtain rfl := Option.some.inj h4
 exact round_e ⟨rfl, Le.trans (s' := ⟨22, [], u1⟩) (kp []) (le_cut (n := 0) (by kernel_rfl))⟩
 intro e12 s13 o14
 rcases y3 with g4 | y5
 have h15 := elim_l h11
 exact zi o14 (awp_seq (zg [4] 0 (then_n (awp_ret (er1 h15)))))
 have h16 := elim_r h11
 obtain ⟨rfl, n18⟩ := o14
 refine inb_r (then_r ?_)
 obtain rfl := Option.some.inj h16
 exact n18
theorem ref8_statics_ok (a0 : TRouter) (r : Int) (h : M.ref8_statics a0 = some r) : Fn Tryz.prog 33 [.agg (c_TRouter a0)] (.pure (.int .i64 r)) := by
 let u4 := c_TRouter a0
 unfold M.ref8_statics at h
 refine fn_pure Tryz.func33 rfl (by kernel_rfl) (awp_seq (zg [1] 1 (then_n (awp_seq (awp_seq (zg [1, 11] 1 (then_n (cn h (fun _ h2 => ?_) (fun _ h3 => ?_)))))))))
 exact awp_seq (zg [2] 0 (then_n (awp_ret (then_r (er1 h2)))))
 refine awp_skip (then_n (awp_seq (awp_seq (zg [1, 3] 1 (then_n (awp_block ?_))))))
 obtain ⟨y17, q69, h70⟩ := bind_some h3
 refine zl (fun (p1 : Int) => ⟨111, [(1, .ref 0 0), (3, .int .i64 p1)], [.box u4]⟩) (Sum.elim (fun z => OutE 0 (fun z => ⟨111, [], []⟩) z) (fun z => OutR Tryz.prog Tryz.f33 (.int .i64 z))) q69 ?_ ?_
 intro p1 y2 h4
 let u1 := a0.fStatics.getD p1.toNat default
 let u2 : List Ob := [.box u4, .box (c_TStaticRoute u1)]
 unfold M.ref8_statics_l1 at h4
 refine awp_seq (awp_seq (rg0 [1, 3, 16] 1 ⟨111, [(1, .ref 0 0), (3, .int .i64 p1), (16, .bool (decide (p1 < (a0.fStatics.length : Int))))], [.box u4]⟩ (then_n (cn h4 (fun _ h6 => ?_) (fun _ h7 => ?_)))))
 refine awp_skip (then_n (awp_seq (awp_block (awp_seq ?_))))
 obtain ⟨c8, h9⟩ := gd_some h6
 refine zc [1, 3, 4] 2 c8 (then_n (awp_seq (rg0 [1, 3, 4, 5] 2 ⟨111, [(1, .ref 0 0), (3, .int .i64 p1), (4, .ref 1 0), (5, .int .i64 0)], u2⟩ (then_n (awp_join (fun (p3 : Int) => ⟨111, [(1, .ref 0 0), (3, .int .i64 p1), (4, .ref 1 0), (5, .int .i64 p3)], u2⟩) (fun p3 => M.ref8_statics_k1 a0 p1 p3 = some y2) ?_ ?_)))))
 intro p3 h11
 unfold M.ref8_statics_k1 at h11
 refine awp_join (fun (p4 : Int) => ⟨111, [(1, .ref 0 0), (3, .int .i64 p1), (4, .ref 1 0), (5, .int .i64 p4)], u2⟩) (fun p4 => M.ref8_statics_k2 a0 p1 p4 = some y2) ?_ ?_
 intro p4 h13
 unfold M.ref8_statics_k2 at h13
 refine awp_join (fun (p5 : Int) => ⟨111, [(1, .ref 0 0), (3, .int .i64 p1), (4, .ref 1 0), (5, .int .i64 p5)], u2⟩) (fun p5 => M.ref8_statics_k3 a0 p1 p5 = some y2) ?_ ?_
 intro p5 h15
 unfold M.ref8_statics_k3 at h15
 refine awp_seq (awp_seq ?_)
 obtain ⟨r6, q16, h17⟩ := bind_some h15
 obtain ⟨r7, q18, h19⟩ := bind_some h17
 let u3 := ((!r6) || (p5 != 1)) || (((u1.fNext) != 0) && (decide (r7 ≥ 0)))
 obtain ⟨r8, q20, h21⟩ := bind_some h19
 obtain ⟨r9, q22, h23⟩ := bind_some h21
 refine rg [.pure (.bool r6), .pure (.int .i64 r7), .pure (.bool r8), .pure (.bool r9)] [1, 3, 4, 69] 2 ⟨111, [(1, .ref 0 0), (3, .int .i64 p1), (4, .ref 1 0), (69, .bool ((u3 || (!r8)) || (!r9)))], u2⟩ [] [⟨true, 66, [.agg (c_TPrefix (u1.fPrefix))], .pure (.bool r6)⟩, ⟨((!((!r6) || (p5 != 1))) && ((u1.fNext) != 0)), 42, [.agg u4, .int .u32 (u1.fNext)], .pure (.int .i64 r7)⟩, ⟨(!u3), 26, [.int .i64 (u1.fAdmin), .int .i64 1, .int .i64 255], .pure (.bool r8)⟩, ⟨(!(u3 || (!r8))), 26, [.int .i64 (u1.fTag), .int .i64 0, .int .i64 65535], .pure (.bool r9)⟩] nil_all ⟨fun _ => ref4_Valid_ok (u1.fPrefix) r6 q16, fun hg => ref8_Address_ok a0 (u1.fNext) r7 (gc_some q18 hg), fun hg => ref8_within_ok (u1.fAdmin) 1 255 r8 (gc_some q20 hg), fun hg => ref8_within_ok (u1.fTag) 0 65535 r9 (gc_some q22 hg), trivial⟩ (then_n (cn h23 (fun _ h25 => ?_) (fun _ h26 => ?_)))
 exact awp_seq (zg [2] 0 (then_n (awp_ret (then_r (inb_r (then_r (rr h25 ⟨rfl, er0 _⟩)))))))
 refine awp_skip (then_n (awp_join (fun (p10 : Unit) => ⟨111, [(1, .ref 0 0), (3, .int .i64 p1), (4, .ref 1 0)], u2⟩) (fun p10 => M.ref8_statics_k4 a0 p1 p10 = some y2) ?_ ?_))
 intro p10 h28
 unfold M.ref8_statics_k4 at h28
 refine awp_seq (zg [1, 3, 4, 7] 2 (then_n (awp_block ?_)))
 obtain ⟨y13, q38, h39⟩ := bind_some h28
 refine zl (fun (p11 : Int) => ⟨111, [(1, .ref 0 0), (3, .int .i64 p1), (4, .ref 1 0), (7, .int .i64 p11)], u2⟩) (Sum.elim (fun z => OutE 2 (fun z => ⟨111, [(1, .ref 0 0), (3, .int .i64 p1)], [.box u4]⟩) z) (fun z => OutR Tryz.prog Tryz.f33 (.int .i64 z))) q38 ?_ ?_
 intro p11 y12 h29
 unfold M.ref8_statics_l2 at h29
 refine awp_seq (awp_seq (rg0 [1, 3, 4, 7, 88] 2 ⟨111, [(1, .ref 0 0), (3, .int .i64 p1), (4, .ref 1 0), (7, .int .i64 p11), (88, .bool (decide (p11 < p1)))], u2⟩ (then_n (cn h29 (fun _ h31 => ?_) (fun _ h32 => ?_)))))
 refine awp_skip (then_n (awp_seq (awp_block (awp_seq ?_))))
 obtain ⟨c33, h34⟩ := gd_some h31
 refine zc [1, 3, 4, 7, 110] 2 c33 (then_n (cn h34 (fun _ h36 => ?_) (fun _ h37 => ?_)))
 exact awp_seq (zg [2] 0 (then_n (awp_ret (inb_r (then_r (rr h36 ⟨rfl, er0 _⟩))))))
 exact awp_skip (inb_n (then_n (zg [1, 3, 4, 7] 2 (rn h37))))
 refine awp_exit (then_e ?_)
 obtain rfl := Option.some.inj h32
 exact round_e ⟨rfl, Le.trans (s' := ⟨111, [(1, .ref 0 0), (3, .int .i64 p1)], u2⟩) (kp [1, 3]) (le_cut (n := 1) (by kernel_rfl))⟩
 intro e40 s41 o42
 rcases y13 with g14 | y15
 have h43 := elim_l h39
 obtain ⟨rfl, l45⟩ := o42
 exact inb_here (inb_n (then_le (s' := ⟨111, [(1, .ref 0 0), (3, .int .i64 p1)], [.box u4]⟩) (l45) (zg [1, 3] 1 (rn h43))))
 have h44 := elim_r h39
 obtain ⟨rfl, n46⟩ := o42
 exact inb_r (inb_r (then_r (rr h44 ⟨rfl, n46⟩)))
 intro k27
 refine awp_seq (zg [1, 3, 4, 72] 2 (then_n (cn h26 (fun _ h48 => ?_) (fun _ h49 => ?_))))
 refine awp_seq ?_
 obtain ⟨r16, q50, h51⟩ := bind_some h48
 refine zr [1, 3, 4, 6] 2 nil_all (rq1 (ref8_Interface_ok _ _ _ q50) rqn) (then_n (awp_seq (awp_seq (zg [1, 3, 4, 6, 78] 2 (then_n (cn h51 (fun _ h53 => ?_) (fun _ h54 => ?_)))))))
 exact awp_seq (zg [2] 0 (then_n (awp_ret (then_r (then_r (inb_r (then_r (rr h53 ⟨rfl, er0 _⟩))))))))
 refine awp_skip (then_n (awp_seq ?_))
 obtain ⟨c55, h56⟩ := gd_some h54
 refine zc [1, 3, 4, 85] 2 c55 (then_n (cn h56 (fun _ h58 => ?_) (fun _ h59 => ?_)))
 exact awp_seq (zg [2] 0 (then_n (awp_ret (then_r (inb_r (then_r (rr h58 ⟨rfl, er0 _⟩)))))))
 exact awp_skip (then_le kq (k27 () h59))
 exact awp_skip (then_le kq (k27 () h49))
 intro k14
 refine awp_seq (zg [1, 3, 4, 5, 35] 2 (then_n (cn h13 (fun _ h61 => ?_) (fun _ h62 => ?_))))
 exact zg [1, 3, 4, 5] 2 (then_le lk (k14 (wr .i64 (p4 + 1)) h61))
 exact awp_skip (then_le kq (k14 p4 h62))
 intro k12
 refine awp_seq (zg [1, 3, 4, 5, 31] 2 (then_n (cn h11 (fun _ h64 => ?_) (fun _ h65 => ?_))))
 exact zg [1, 3, 4, 5] 2 (then_le lk (k12 (wr .i64 (p3 + 1)) h64))
 exact awp_skip (then_le kq (k12 p3 h65))
 intro k10
 refine awp_seq (zg [1, 3, 4, 5, 26] 2 (then_n (cn h9 (fun _ h67 => ?_) (fun _ h68 => ?_))))
 exact zg [1, 3, 4, 5] 2 (then_le lk (k10 1 h67))
 exact awp_skip (then_le kq (k10 0 h68))
 refine awp_exit (then_e ?_)
 obtain rfl := Option.some.inj h7
 exact round_e ⟨rfl, Le.trans (s' := ⟨111, [], [.box u4]⟩) (kp []) (le_cut (n := 0) (by kernel_rfl))⟩
 intro e71 s72 o73
 rcases y17 with g18 | y19
 have h74 := elim_l h70
 exact zi o73 (awp_seq (zg [2] 0 (then_n (awp_ret (er1 h74)))))
 have h75 := elim_r h70
 obtain ⟨rfl, n77⟩ := o73
 refine inb_r (then_r ?_)
 obtain rfl := Option.some.inj h75
 exact n77
theorem ref8_RouteMap_ok (a0 : TRouter) (a1 : ByteArray) (r : Int) (h : M.ref8_RouteMap a0 a1 = some r) : Fn Tryz.prog 106 [.agg (c_TRouter a0), .str a1] (.pure (.int .i64 r)) := by
 let u1 : List Ob := [.box (c_TRouter a0)]
 unfold M.ref8_RouteMap at h
 refine fn_pure Tryz.func106 rfl (by kernel_rfl) (awp_seq (zg [1, 2] 1 (then_n (awp_seq (awp_seq (zg [1, 2, 5] 1 (then_n (awp_block ?_))))))))
 obtain ⟨y3, q10, h11⟩ := bind_some h
 refine zl (fun (p1 : Int) => ⟨22, [(1, .str a1), (2, .ref 0 0), (5, .int .i64 p1)], u1⟩) (Sum.elim (fun z => OutE 0 (fun z => ⟨22, [], []⟩) z) (fun z => OutR Tryz.prog Tryz.f106 (.int .i64 z))) q10 ?_ ?_
 intro p1 y2 h1
 unfold M.ref8_RouteMap_l1 at h1
 refine awp_seq (awp_seq (rg0 [1, 2, 5, 10] 1 ⟨22, [(1, .str a1), (2, .ref 0 0), (5, .int .i64 p1), (10, .bool (decide (p1 < (a0.fMaps.length : Int))))], u1⟩ (then_n (cn h1 (fun _ h3 => ?_) (fun _ h4 => ?_)))))
 refine awp_skip (then_n (awp_seq (awp_block (awp_seq ?_))))
 obtain ⟨c5, h6⟩ := gd_some h3
 refine zc [1, 2, 5, 20] 1 c5 (then_n (cn h6 (fun _ h8 => ?_) (fun _ h9 => ?_)))
 exact awp_seq (zg [4] 0 (then_n (awp_ret (inb_r (then_r (rr h8 ⟨rfl, er0 _⟩))))))
 exact awp_skip (inb_n (then_n (zg [1, 2, 5] 1 (rn h9))))
 refine awp_exit (then_e ?_)
 obtain rfl := Option.some.inj h4
 exact round_e ⟨rfl, Le.trans (s' := ⟨22, [], u1⟩) (kp []) (le_cut (n := 0) (by kernel_rfl))⟩
 intro e12 s13 o14
 rcases y3 with g4 | y5
 have h15 := elim_l h11
 exact zi o14 (awp_seq (zg [4] 0 (then_n (awp_ret (er1 h15)))))
 have h16 := elim_r h11
 obtain ⟨rfl, n18⟩ := o14
 refine inb_r (then_r ?_)
 obtain rfl := Option.some.inj h16
 exact n18
theorem ref8_redistributions_ok (a0 : TRouter) (a1 : List TRedist) (a2 : Int) (a3 : Int) (a4 : Int) (r : Int) (h : M.ref8_redistributions a0 a1 a2 a3 a4 = some r) : Fn Tryz.prog 68 [.agg (c_TRouter a0), sL 5 c_TRedist a1, .int .i64 a2, .int .i64 a3, .int .i64 a4] (.pure (.int .i64 r)) := by
 let u2 : Nat × D := (1, sL 5 c_TRedist a1)
 let u3 : List Ob := [.box (c_TRouter a0)]
 unfold M.ref8_redistributions at h
 refine fn_pure Tryz.func68 rfl (by kernel_rfl) (awp_seq (zg [1, 2, 3, 4, 5] 1 (then_n (awp_seq (awp_seq (zg [1, 2, 3, 4, 5, 16] 1 (then_n (cn h (fun _ h2 => ?_) (fun _ h3 => ?_)))))))))
 exact awp_seq (zg [10] 0 (then_n (awp_ret (then_r (er1 h2)))))
 refine awp_skip (then_n (awp_seq (awp_seq (zg [1, 2, 3, 4, 5, 11] 1 (then_n (awp_block ?_))))))
 obtain ⟨y12, q45, h46⟩ := bind_some h3
 refine zl (fun (p1 : Int) => ⟨95, [u2, (2, .int .i64 a2), (3, .int .i64 a3), (4, .int .i64 a4), (5, .ref 0 0), (11, .int .i64 p1)], u3⟩) (Sum.elim (fun z => OutE 0 (fun z => ⟨95, [], []⟩) z) (fun z => OutR Tryz.prog Tryz.f68 (.int .i64 z))) q45 ?_ ?_
 intro p1 y2 h4
 let u1 : List Ob := [.box (c_TRouter a0), .box (c_TRedist (a1.getD p1.toNat default))]
 unfold M.ref8_redistributions_l1 at h4
 refine awp_seq (awp_seq (rg0 [1, 2, 3, 4, 5, 11, 20] 1 ⟨95, [u2, (2, .int .i64 a2), (3, .int .i64 a3), (4, .int .i64 a4), (5, .ref 0 0), (11, .int .i64 p1), (20, .bool (decide (p1 < (a1.length : Int))))], u3⟩ (then_n (cn h4 (fun _ h6 => ?_) (fun _ h7 => ?_)))))
 refine awp_skip (then_n (awp_seq (awp_block (awp_seq ?_))))
 obtain ⟨c8, h9⟩ := gd_some h6
 refine zc [1, 2, 3, 4, 5, 11, 12] 2 c8 (then_n (awp_seq (awp_seq ?_)))
 obtain ⟨r3, q10, h11⟩ := bind_some h9
 obtain ⟨r4, q12, h13⟩ := bind_some h11
 obtain ⟨r5, q14, h15⟩ := bind_some h13
 refine zr [1, 2, 3, 4, 5, 11, 12, 50] 2 nil_all (rq1 (ref8_within_ok _ _ _ _ q10) (rq2 (fun hg => ref8_within_ok _ _ _ _ (gc_some q12 hg)) (rq2 (fun hg => ref8_within_ok _ _ _ _ (gc_some q14 hg)) rqn))) (then_n (cn h15 (fun _ h17 => ?_) (fun _ h18 => ?_)))
 exact awp_seq (zg [10] 0 (then_n (awp_ret (then_r (inb_r (then_r (rr h17 ⟨rfl, er0 _⟩)))))))
 refine awp_skip (then_n (awp_seq (awp_seq (zg [1, 2, 3, 4, 5, 11, 12, 71] 2 (then_n (cn h18 (fun _ h20 => ?_) (fun _ h21 => ?_)))))))
 exact awp_seq (zg [10] 0 (then_n (awp_ret (then_r (inb_r (then_r (rr h20 ⟨rfl, er0 _⟩)))))))
 refine awp_skip (then_n (awp_seq (awp_seq ?_)))
 obtain ⟨r6, q22, h23⟩ := bind_some h21
 refine zr [1, 2, 3, 4, 5, 11, 12, 81] 2 nil_all (rq2 (fun hg => ref8_RouteMap_ok _ _ _ (gc_some q22 hg)) rqn) (then_n (cn h23 (fun _ h25 => ?_) (fun _ h26 => ?_)))
 exact awp_seq (zg [10] 0 (then_n (awp_ret (then_r (inb_r (then_r (rr h25 ⟨rfl, er0 _⟩)))))))
 refine awp_skip (then_n (awp_seq (zg [1, 2, 3, 4, 5, 11, 12, 13] 2 (then_n (awp_block ?_)))))
 obtain ⟨y9, q36, h37⟩ := bind_some h26
 refine zl (fun (p7 : Int) => ⟨95, [u2, (2, .int .i64 a2), (3, .int .i64 a3), (4, .int .i64 a4), (5, .ref 0 0), (11, .int .i64 p1), (12, .ref 1 0), (13, .int .i64 p7)], u1⟩) (Sum.elim (fun z => OutE 2 (fun z => ⟨95, [u2, (2, .int .i64 a2), (3, .int .i64 a3), (4, .int .i64 a4), (5, .ref 0 0), (11, .int .i64 p1)], u3⟩) z) (fun z => OutR Tryz.prog Tryz.f68 (.int .i64 z))) q36 ?_ ?_
 intro p7 y8 h27
 unfold M.ref8_redistributions_l2 at h27
 refine awp_seq (awp_seq (rg0 [1, 2, 3, 4, 5, 11, 12, 13, 84] 2 ⟨95, [u2, (2, .int .i64 a2), (3, .int .i64 a3), (4, .int .i64 a4), (5, .ref 0 0), (11, .int .i64 p1), (12, .ref 1 0), (13, .int .i64 p7), (84, .bool (decide (p7 < p1)))], u1⟩ (then_n (cn h27 (fun _ h29 => ?_) (fun _ h30 => ?_)))))
 refine awp_skip (then_n (awp_seq (awp_block (awp_seq ?_))))
 obtain ⟨c31, h32⟩ := gd_some h29
 refine zc [1, 2, 3, 4, 5, 11, 12, 13, 94] 2 c31 (then_n (cn h32 (fun _ h34 => ?_) (fun _ h35 => ?_)))
 exact awp_seq (zg [10] 0 (then_n (awp_ret (inb_r (then_r (rr h34 ⟨rfl, er0 _⟩))))))
 exact awp_skip (inb_n (then_n (zg [1, 2, 3, 4, 5, 11, 12, 13] 2 (rn h35))))
 refine awp_exit (then_e ?_)
 obtain rfl := Option.some.inj h30
 exact round_e ⟨rfl, Le.trans (s' := ⟨95, [u2, (2, .int .i64 a2), (3, .int .i64 a3), (4, .int .i64 a4), (5, .ref 0 0), (11, .int .i64 p1)], u1⟩) (kp [1, 2, 3, 4, 5, 11]) (le_cut (n := 1) (by kernel_rfl))⟩
 intro e38 s39 o40
 rcases y9 with g10 | y11
 have h41 := elim_l h37
 obtain ⟨rfl, l43⟩ := o40
 exact inb_here (inb_n (then_le (s' := ⟨95, [u2, (2, .int .i64 a2), (3, .int .i64 a3), (4, .int .i64 a4), (5, .ref 0 0), (11, .int .i64 p1)], u3⟩) (l43) (zg [1, 2, 3, 4, 5, 11] 1 (rn h41))))
 have h42 := elim_r h37
 obtain ⟨rfl, n44⟩ := o40
 exact inb_r (inb_r (then_r (rr h42 ⟨rfl, n44⟩)))
 refine awp_exit (then_e ?_)
 obtain rfl := Option.some.inj h7
 exact round_e ⟨rfl, Le.trans (s' := ⟨95, [], u3⟩) (kp []) (le_cut (n := 0) (by kernel_rfl))⟩
 intro e47 s48 o49
 rcases y12 with g13 | y14
 have h50 := elim_l h46
 exact zi o49 (awp_seq (zg [10] 0 (then_n (awp_ret (er1 h50)))))
 have h51 := elim_r h46
 obtain ⟨rfl, n53⟩ := o49
 refine inb_r (then_r ?_)
 obtain rfl := Option.some.inj h51
 exact n53
theorem ref8_linkState_ok (a0 : TRouter) (r : Int) (h : M.ref8_linkState a0 = some r) : Fn Tryz.prog 34 [.agg (c_TRouter a0)] (.pure (.int .i64 r)) := by
 let u1 : List Ob := [.box (c_TRouter a0), .box (c_TLinkState a0.fLS)]
 unfold M.ref8_linkState at h
 refine fn_pure Tryz.func34 rfl (by kernel_rfl) (awp_seq (zg [1] 1 (then_n (awp_seq (zg [1, 3] 2 (then_n (awp_seq (awp_seq (zg [1, 3, 10] 2 (then_n (cn h (fun _ h2 => ?_) (fun _ h3 => ?_))))))))))))
 refine awp_seq (awp_seq (zg [25] 0 (then_n (cn h2 (fun _ h5 => ?_) (fun _ h6 => ?_)))))
 exact awp_seq (zg [2] 0 (then_n (awp_ret (then_r (then_r (er1 h5))))))
 exact awp_skip (then_n (awp_seq (zg [2] 0 (then_n (awp_ret (then_r (er1 h6)))))))
 refine awp_skip (then_n (awp_seq (awp_seq ?_)))
 obtain ⟨r1, q7, h8⟩ := bind_some h3
 refine zr [1, 3, 29] 2 nil_all (rq1 (ref8_within_ok _ _ _ _ q7) rqn) (then_n (cn h8 (fun _ h10 => ?_) (fun _ h11 => ?_)))
 exact awp_seq (zg [2] 0 (then_n (awp_ret (then_r (er1 h10)))))
 refine awp_skip (then_n (awp_seq (awp_seq (zg [1, 3, 33] 2 (then_n (cn h11 (fun _ h13 => ?_) (fun _ h14 => ?_)))))))
 exact awp_seq (zg [2] 0 (then_n (awp_ret (then_r (er1 h13)))))
 refine awp_skip (then_n (awp_seq (awp_seq (zg [1, 3, 4] 2 (then_n (awp_block ?_))))))
 obtain ⟨y12, q48, h49⟩ := bind_some h14
 refine zl (fun (p2 : Int) => ⟨96, [(1, .ref 0 0), (3, .ref 1 0), (4, .int .i64 p2)], u1⟩) (Sum.elim (fun z => OutE 0 (fun z => ⟨96, [(1, .ref 0 0), (3, .ref 1 0)], u1⟩) z) (fun z => OutR Tryz.prog Tryz.f34 (.int .i64 z))) q48 ?_ ?_
 intro p2 y3 h15
 unfold M.ref8_linkState_l1 at h15
 refine awp_seq (awp_seq (zg [1, 3, 4, 38] 2 (then_n (cn h15 (fun _ h17 => ?_) (fun _ h18 => ?_)))))
 refine awp_skip (then_n (awp_seq (awp_block (awp_seq (awp_seq ?_)))))
 obtain ⟨r4, q19, h20⟩ := bind_some h17
 obtain ⟨r5, q21, h22⟩ := bind_some h20
 obtain ⟨c23, h24⟩ := gd_some h22
 refine zr [1, 3, 4, 58] 2 c23 (rq1 (ref8_within_ok _ _ _ _ q19) (rq2 (fun hg => ref4_Valid_ok _ _ (gc_some q21 hg)) rqn)) (then_n (cn h24 (fun _ h26 => ?_) (fun _ h27 => ?_)))
 exact awp_seq (zg [2] 0 (then_n (awp_ret (then_r (inb_r (then_r (rr h26 ⟨rfl, er0 _⟩)))))))
 refine awp_skip (then_n (awp_seq (zg [1, 3, 4, 5] 2 (then_n (awp_block ?_)))))
 obtain ⟨y9, q39, h40⟩ := bind_some h27
 refine zl (fun (p6 : Int) => ⟨96, [(1, .ref 0 0), (3, .ref 1 0), (4, .int .i64 p2), (5, .int .i64 p6)], u1⟩) (Sum.elim (fun z => OutE 2 (fun z => ⟨96, [(1, .ref 0 0), (3, .ref 1 0), (4, .int .i64 p2)], u1⟩) z) (fun z => OutR Tryz.prog Tryz.f34 (.int .i64 z))) q39 ?_ ?_
 intro p6 y7 h28
 unfold M.ref8_linkState_l2 at h28
 refine awp_seq (awp_seq (zg [1, 3, 4, 5, 61] 2 (then_n (cn h28 (fun _ h30 => ?_) (fun _ h31 => ?_)))))
 refine awp_skip (then_n (awp_seq (awp_block (awp_seq ?_))))
 obtain ⟨r8, q32, h33⟩ := bind_some h30
 obtain ⟨c34, h35⟩ := gd_some h33
 refine zr [1, 3, 4, 5, 91] 2 c34 (rq2 (fun hg => ref4_Overlaps_ok _ _ _ (gc_some q32 hg)) rqn) (then_n (cn h35 (fun _ h37 => ?_) (fun _ h38 => ?_)))
 exact awp_seq (zg [2] 0 (then_n (awp_ret (inb_r (then_r (rr h37 ⟨rfl, er0 _⟩))))))
 exact awp_skip (inb_n (then_n (zg [1, 3, 4, 5] 2 (rn h38))))
 exact awp_exit (then_e (re h31 ⟨rfl, kq⟩))
 intro e41 s42 o43
 rcases y9 with g10 | y11
 have h44 := elim_l h40
 obtain ⟨rfl, l46⟩ := o43
 exact inb_here (inb_n (then_le (s' := ⟨96, [(1, .ref 0 0), (3, .ref 1 0), (4, .int .i64 p2)], u1⟩) (l46) (zg [1, 3, 4] 2 (rn h44))))
 have h45 := elim_r h40
 obtain ⟨rfl, n47⟩ := o43
 exact inb_r (inb_r (then_r (rr h45 ⟨rfl, n47⟩)))
 exact awp_exit (then_e (re h18 ⟨rfl, kq⟩))
 intro e50 s51 o52
 rcases y12 with g13 | y14
 have h53 := elim_l h49
 refine zi o52 (awp_seq ?_)
 obtain ⟨r15, q56, h57⟩ := bind_some h53
 exact zr [2] 0 nil_all (rq1 (ref8_redistributions_ok _ _ _ _ _ _ q56) rqn) (then_n (awp_ret (er1 h57)))
 have h54 := elim_r h49
 obtain ⟨rfl, n58⟩ := o52
 refine inb_r (then_r ?_)
 obtain rfl := Option.some.inj h54
 exact n58
theorem ref8_distance_ok (a0 : TRouter) (r : Int) (h : M.ref8_distance a0 = some r) : Fn Tryz.prog 35 [.agg (c_TRouter a0)] (.pure (.int .i64 r)) := by
 unfold M.ref8_distance at h
 refine fn_pure Tryz.func35 rfl (by kernel_rfl) (awp_seq (zg [1] 1 (then_n (awp_seq (zg [1, 3] 2 (then_n (awp_seq (awp_seq (zg [1, 3, 8] 2 (then_n (cn h (fun _ h2 => ?_) (fun _ h3 => ?_))))))))))))
 refine awp_seq (awp_seq (zg [27] 0 (then_n (cn h2 (fun _ h5 => ?_) (fun _ h6 => ?_)))))
 exact awp_seq (zg [2] 0 (then_n (awp_ret (then_r (then_r (er1 h5))))))
 exact awp_skip (then_n (awp_seq (zg [2] 0 (then_n (awp_ret (then_r (er1 h6)))))))
 refine awp_skip (then_n (awp_seq (awp_seq ?_)))
 obtain ⟨r1, q7, h8⟩ := bind_some h3
 refine zr [1, 3, 31] 2 nil_all (rq1 (ref8_within_ok _ _ _ _ q7) rqn) (then_n (cn h8 (fun _ h10 => ?_) (fun _ h11 => ?_)))
 exact awp_seq (zg [2] 0 (then_n (awp_ret (then_r (er1 h10)))))
 refine awp_skip (then_n (awp_seq (awp_seq ?_)))
 obtain ⟨r2, q12, h13⟩ := bind_some h11
 obtain ⟨r3, q14, h15⟩ := bind_some h13
 refine zr [1, 3, 53] 2 nil_all (rq2 (fun hg => ref8_PrefixList_ok _ _ _ (gc_some q12 hg)) (rq2 (fun hg => ref8_PrefixList_ok _ _ _ (gc_some q14 hg)) rqn)) (then_n (cn h15 (fun _ h17 => ?_) (fun _ h18 => ?_)))
 exact awp_seq (zg [2] 0 (then_n (awp_ret (then_r (er1 h17)))))
 refine awp_skip (then_n (awp_seq ?_))
 obtain ⟨r4, q19, h20⟩ := bind_some h18
 exact zr [2] 0 nil_all (rq1 (ref8_redistributions_ok _ _ _ _ _ _ q19) rqn) (then_n (awp_ret (er1 h20)))
theorem ref8_neighbors_ok (a0 : TRouter) (r : Int) (h : M.ref8_neighbors a0 = some r) : Fn Tryz.prog 69 [.agg (c_TRouter a0)] (.pure (.int .i64 r)) := by
 let u1 : Nat × D := (3, sL 4 c_TNeighbor a0.fPV.fNeighbors)
 let u2 : List Ob := [.box (c_TRouter a0)]
 unfold M.ref8_neighbors at h
 refine fn_pure Tryz.func69 rfl (by kernel_rfl) (awp_seq (zg [1] 1 (then_n (awp_seq (zg [1, 3] 1 (then_n (awp_seq (awp_seq (zg [1, 3, 11] 1 (then_n (cn h (fun _ h2 => ?_) (fun _ h3 => ?_))))))))))))
 exact awp_seq (zg [2] 0 (then_n (awp_ret (then_r (er1 h2)))))
 refine awp_skip (then_n (awp_seq (awp_seq (zg [1, 3, 4] 1 (then_n (awp_block ?_))))))
 obtain ⟨y11, q42, h43⟩ := bind_some h3
 refine zl (fun (p1 : Int) => ⟨83, [(1, .ref 0 0), u1, (4, .int .i64 p1)], u2⟩) (Sum.elim (fun z => OutE 0 (fun z => ⟨83, [], []⟩) z) (fun z => OutR Tryz.prog Tryz.f69 (.int .i64 z))) q42 ?_ ?_
 intro p1 y2 h4
 unfold M.ref8_neighbors_l1 at h4
 refine awp_seq (awp_seq (rg0 [1, 3, 4, 15] 1 ⟨83, [(1, .ref 0 0), u1, (4, .int .i64 p1), (15, .bool (decide (p1 < (a0.fPV.fNeighbors.length : Int))))], u2⟩ (then_n (cn h4 (fun _ h6 => ?_) (fun _ h7 => ?_)))))
 refine awp_skip (then_n (awp_seq (awp_block (awp_seq (awp_seq ?_)))))
 obtain ⟨r3, q8, h9⟩ := bind_some h6
 obtain ⟨c10, h11⟩ := gd_some h9
 refine zr [1, 3, 4, 32] 1 c10 (rq2 (fun hg => ref8_within_ok _ _ _ _ (gc_some q8 hg)) rqn) (then_n (cn h11 (fun _ h13 => ?_) (fun _ h14 => ?_)))
 exact awp_seq (zg [2] 0 (then_n (awp_ret (then_r (inb_r (then_r (rr h13 ⟨rfl, er0 _⟩)))))))
 refine awp_skip (then_n (awp_seq (awp_seq ?_)))
 obtain ⟨r4, q15, h16⟩ := bind_some h14
 obtain ⟨r5, q17, h18⟩ := bind_some h16
 obtain ⟨c19, h20⟩ := gd_some h18
 refine zr [1, 3, 4, 66] 1 c19 (rq2 (fun hg => ref8_RouteMap_ok _ _ _ (gc_some q15 hg)) (rq2 (fun hg => ref8_RouteMap_ok _ _ _ (gc_some q17 hg)) rqn)) (then_n (cn h20 (fun _ h22 => ?_) (fun _ h23 => ?_)))
 exact awp_seq (zg [2] 0 (then_n (awp_ret (then_r (inb_r (then_r (rr h22 ⟨rfl, er0 _⟩)))))))
 refine awp_skip (then_n (awp_seq (zg [1, 3, 4, 5] 1 (then_n (awp_block ?_)))))
 obtain ⟨y8, q33, h34⟩ := bind_some h23
 refine zl (fun (p6 : Int) => ⟨83, [(1, .ref 0 0), u1, (4, .int .i64 p1), (5, .int .i64 p6)], u2⟩) (Sum.elim (fun z => OutE 2 (fun z => ⟨83, [(1, .ref 0 0), u1, (4, .int .i64 p1)], u2⟩) z) (fun z => OutR Tryz.prog Tryz.f69 (.int .i64 z))) q33 ?_ ?_
 intro p6 y7 h24
 unfold M.ref8_neighbors_l2 at h24
 refine awp_seq (awp_seq (zg [1, 3, 4, 5, 69] 1 (then_n (cn h24 (fun _ h26 => ?_) (fun _ h27 => ?_)))))
 refine awp_skip (then_n (awp_seq (awp_block (awp_seq ?_))))
 obtain ⟨c28, h29⟩ := gd_some h26
 refine zc [1, 3, 4, 5, 82] 1 c28 (then_n (cn h29 (fun _ h31 => ?_) (fun _ h32 => ?_)))
 exact awp_seq (zg [2] 0 (then_n (awp_ret (inb_r (then_r (rr h31 ⟨rfl, er0 _⟩))))))
 exact awp_skip (inb_n (then_n (zg [1, 3, 4, 5] 1 (rn h32))))
 exact awp_exit (then_e (re h27 ⟨rfl, kq⟩))
 intro e35 s36 o37
 rcases y8 with g9 | y10
 have h38 := elim_l h34
 obtain ⟨rfl, l40⟩ := o37
 exact inb_here (inb_n (then_le (s' := ⟨83, [(1, .ref 0 0), u1, (4, .int .i64 p1)], u2⟩) (l40) (zg [1, 3, 4] 1 (rn h38))))
 have h39 := elim_r h34
 obtain ⟨rfl, n41⟩ := o37
 exact inb_r (inb_r (then_r (rr h39 ⟨rfl, n41⟩)))
 refine awp_exit (then_e ?_)
 obtain rfl := Option.some.inj h7
 exact round_e ⟨rfl, Le.trans (s' := ⟨83, [], u2⟩) (kp []) (le_cut (n := 0) (by kernel_rfl))⟩
 intro e44 s45 o46
 rcases y11 with g12 | y13
 have h47 := elim_l h43
 exact zi o46 (awp_seq (zg [2] 0 (then_n (awp_ret (er1 h47)))))
 have h48 := elim_r h43
 obtain ⟨rfl, n50⟩ := o46
 refine inb_r (then_r ?_)
 obtain rfl := Option.some.inj h48
 exact n50
theorem ref8_originations_ok (a0 : TPathVector) (r : Int) (h : M.ref8_originations a0 = some r) : Fn Tryz.prog 70 [.agg (c_TPathVector a0)] (.pure (.int .i64 r)) := by
 let u1 : List Ob := [.box (c_TPathVector a0)]
 let u3 : St := ⟨126, [(1, .ref 0 0)], u1⟩
 unfold M.ref8_originations at h
 refine fn_pure Tryz.func70 rfl (by kernel_rfl) (awp_seq (zg [1] 1 (then_n (awp_seq (awp_seq (zg [1, 13] 1 (then_n (cn h (fun _ h2 => ?_) (fun _ h3 => ?_)))))))))
 exact awp_seq (zg [2] 0 (then_n (awp_ret (then_r (er1 h2)))))
 refine awp_skip (then_n (awp_seq (awp_seq (zg [1, 3] 1 (then_n (awp_block ?_))))))
 obtain ⟨y9, q33, h34⟩ := bind_some h3
 refine zl (fun (p1 : Int) => ⟨126, [(1, .ref 0 0), (3, .int .i64 p1)], u1⟩) (Sum.elim (fun z => OutE 0 (fun z => u3) z) (fun z => OutR Tryz.prog Tryz.f70 (.int .i64 z))) q33 ?_ ?_
 intro p1 y2 h4
 unfold M.ref8_originations_l1 at h4
 refine awp_seq (awp_seq (zg [1, 3, 18] 1 (then_n (cn h4 (fun _ h6 => ?_) (fun _ h7 => ?_)))))
 refine awp_skip (then_n (awp_seq (awp_block (awp_seq (awp_seq ?_)))))
 obtain ⟨r3, q8, h9⟩ := bind_some h6
 obtain ⟨c10, h11⟩ := gd_some h9
 refine zr [1, 3, 27] 1 c10 (rq1 (ref4_Valid_ok _ _ q8) rqn) (then_n (cn h11 (fun _ h13 => ?_) (fun _ h14 => ?_)))
 exact awp_seq (zg [2] 0 (then_n (awp_ret (then_r (inb_r (then_r (rr h13 ⟨rfl, er0 _⟩)))))))
 refine awp_skip (then_n (awp_seq (zg [1, 3, 4] 1 (then_n (awp_block ?_)))))
 obtain ⟨y6, q24, h25⟩ := bind_some h14
 refine zl (fun (p4 : Int) => ⟨126, [(1, .ref 0 0), (3, .int .i64 p1), (4, .int .i64 p4)], u1⟩) (Sum.elim (fun z => OutE 2 (fun z => ⟨126, [(1, .ref 0 0), (3, .int .i64 p1)], u1⟩) z) (fun z => OutR Tryz.prog Tryz.f70 (.int .i64 z))) q24 ?_ ?_
 intro p4 y5 h15
 unfold M.ref8_originations_l2 at h15
 refine awp_seq (awp_seq (zg [1, 3, 4, 30] 1 (then_n (cn h15 (fun _ h17 => ?_) (fun _ h18 => ?_)))))
 refine awp_skip (then_n (awp_seq (awp_block (awp_seq ?_))))
 obtain ⟨c19, h20⟩ := gd_some h17
 refine zc [1, 3, 4, 43] 1 c19 (then_n (cn h20 (fun _ h22 => ?_) (fun _ h23 => ?_)))
 exact awp_seq (zg [2] 0 (then_n (awp_ret (inb_r (then_r (rr h22 ⟨rfl, er0 _⟩))))))
 exact awp_skip (inb_n (then_n (zg [1, 3, 4] 1 (rn h23))))
 exact awp_exit (then_e (re h18 ⟨rfl, kq⟩))
 intro e26 s27 o28
 rcases y6 with g7 | y8
 have h29 := elim_l h25
 obtain ⟨rfl, l31⟩ := o28
 exact inb_here (inb_n (then_le (s' := ⟨126, [(1, .ref 0 0), (3, .int .i64 p1)], u1⟩) (l31) (zg [1, 3] 1 (rn h29))))
 have h30 := elim_r h25
 obtain ⟨rfl, n32⟩ := o28
 exact inb_r (inb_r (then_r (rr h30 ⟨rfl, n32⟩)))
 exact awp_exit (then_e (re h7 ⟨rfl, kq⟩))
 intro e35 s36 o37
 rcases y9 with g10 | y11
 have h38 := elim_l h34
 refine zi o37 (awp_seq (awp_seq (zg [1, 47] 1 (then_n (cn h38 (fun _ h42 => ?_) (fun _ h43 => ?_))))))
 exact awp_seq (zg [2] 0 (then_n (awp_ret (then_r (er1 h42)))))
 refine awp_skip (then_n (awp_seq (awp_seq (zg [1, 5] 1 (then_n (awp_block ?_))))))
 obtain ⟨y20, q73, h74⟩ := bind_some h43
 refine zl (fun (p12 : Int) => ⟨126, [(1, .ref 0 0), (5, .int .i64 p12)], u1⟩) (Sum.elim (fun z => OutE 4 (fun z => u3) z) (fun z => OutR Tryz.prog Tryz.f70 (.int .i64 z))) q73 ?_ ?_
 intro p12 y13 h44
 unfold M.ref8_originations_l3 at h44
 refine awp_seq (awp_seq (zg [1, 5, 52] 1 (then_n (cn h44 (fun _ h46 => ?_) (fun _ h47 => ?_)))))
 refine awp_skip (then_n (awp_seq (awp_block (awp_seq (awp_seq ?_)))))
 obtain ⟨r14, q48, h49⟩ := bind_some h46
 obtain ⟨c50, h51⟩ := gd_some h49
 refine zr [1, 5, 62] 1 c50 (rq1 (ref4_Valid_ok _ _ q48) rqn) (then_n (cn h51 (fun _ h53 => ?_) (fun _ h54 => ?_)))
 exact awp_seq (zg [2] 0 (then_n (awp_ret (then_r (inb_r (then_r (rr h53 ⟨rfl, er0 _⟩)))))))
 refine awp_skip (then_n (awp_seq (zg [1, 5, 6] 1 (then_n (awp_block ?_)))))
 obtain ⟨y17, q64, h65⟩ := bind_some h54
 refine zl (fun (p15 : Int) => ⟨126, [(1, .ref 0 0), (5, .int .i64 p12), (6, .int .i64 p15)], u1⟩) (Sum.elim (fun z => OutE 6 (fun z => ⟨126, [(1, .ref 0 0), (5, .int .i64 p12)], u1⟩) z) (fun z => OutR Tryz.prog Tryz.f70 (.int .i64 z))) q64 ?_ ?_
 intro p15 y16 h55
 unfold M.ref8_originations_l4 at h55
 refine awp_seq (awp_seq (zg [1, 5, 6, 65] 1 (then_n (cn h55 (fun _ h57 => ?_) (fun _ h58 => ?_)))))
 refine awp_skip (then_n (awp_seq (awp_block (awp_seq ?_))))
 obtain ⟨c59, h60⟩ := gd_some h57
 refine zc [1, 5, 6, 80] 1 c59 (then_n (cn h60 (fun _ h62 => ?_) (fun _ h63 => ?_)))
 exact awp_seq (zg [2] 0 (then_n (awp_ret (inb_r (then_r (rr h62 ⟨rfl, er0 _⟩))))))
 exact awp_skip (inb_n (then_n (zg [1, 5, 6] 1 (rn h63))))
 exact awp_exit (then_e (re h58 ⟨rfl, kq⟩))
 intro e66 s67 o68
 rcases y17 with g18 | y19
 have h69 := elim_l h65
 obtain ⟨rfl, l71⟩ := o68
 exact inb_here (inb_n (then_le (s' := ⟨126, [(1, .ref 0 0), (5, .int .i64 p12)], u1⟩) (l71) (zg [1, 5] 1 (rn h69))))
 have h70 := elim_r h65
 obtain ⟨rfl, n72⟩ := o68
 exact inb_r (inb_r (then_r (rr h70 ⟨rfl, n72⟩)))
 exact awp_exit (then_e (re h47 ⟨rfl, kq⟩))
 intro e75 s76 o77
 rcases y20 with g21 | y22
 have h78 := elim_l h74
 refine zi o77 (awp_seq (awp_seq (zg [1, 84] 1 (then_n (cn h78 (fun _ h82 => ?_) (fun _ h83 => ?_))))))
 exact awp_seq (zg [2] 0 (then_n (awp_ret (then_r (er1 h82)))))
 refine awp_skip (then_n (awp_seq (awp_seq (zg [1, 7] 1 (then_n (awp_block ?_))))))
 obtain ⟨y32, q118, h119⟩ := bind_some h83
 refine zl (fun (p23 : Int) => ⟨126, [(1, .ref 0 0), (7, .int .i64 p23)], u1⟩) (Sum.elim (fun z => OutE 8 (fun z => ⟨126, [], []⟩) z) (fun z => OutR Tryz.prog Tryz.f70 (.int .i64 z))) q118 ?_ ?_
 intro p23 y24 h84
 let u2 : List Ob := [.box (c_TPathVector a0), .box (c_TCondition (a0.fConditions.getD p23.toNat default))]
 unfold M.ref8_originations_l5 at h84
 refine awp_seq (awp_seq (rg0 [1, 7, 89] 1 ⟨126, [(1, .ref 0 0), (7, .int .i64 p23), (89, .bool (decide (p23 < (a0.fConditions.length : Int))))], u1⟩ (then_n (cn h84 (fun _ h86 => ?_) (fun _ h87 => ?_)))))
 refine awp_skip (then_n (awp_seq (awp_block (awp_seq ?_))))
 obtain ⟨c88, h89⟩ := gd_some h86
 refine zc [1, 7, 8] 2 c88 (then_n (awp_seq (awp_seq ?_)))
 obtain ⟨r25, q90, h91⟩ := bind_some h89
 obtain ⟨r26, q92, h93⟩ := bind_some h91
 refine zr [1, 7, 8, 106] 2 nil_all (rq1 (ref4_Valid_ok _ _ q90) (rq2 (fun hg => ref4_Valid_ok _ _ (gc_some q92 hg)) rqn)) (then_n (cn h93 (fun _ h95 => ?_) (fun _ h96 => ?_)))
 exact awp_seq (zg [2] 0 (then_n (awp_ret (then_r (inb_r (then_r (rr h95 ⟨rfl, er0 _⟩)))))))
 refine awp_skip (then_n (awp_seq (awp_seq (zg [1, 7, 8, 111] 2 (then_n (cn h96 (fun _ h98 => ?_) (fun _ h99 => ?_)))))))
 exact awp_seq (zg [2] 0 (then_n (awp_ret (then_r (inb_r (then_r (rr h98 ⟨rfl, er0 _⟩)))))))
 refine awp_skip (then_n (awp_seq (zg [1, 7, 8, 9] 2 (then_n (awp_block ?_)))))
 obtain ⟨y29, q109, h110⟩ := bind_some h99
 refine zl (fun (p27 : Int) => ⟨126, [(1, .ref 0 0), (7, .int .i64 p23), (8, .ref 1 0), (9, .int .i64 p27)], u2⟩) (Sum.elim (fun z => OutE 10 (fun z => ⟨126, [(1, .ref 0 0), (7, .int .i64 p23)], u1⟩) z) (fun z => OutR Tryz.prog Tryz.f70 (.int .i64 z))) q109 ?_ ?_
 intro p27 y28 h100
 unfold M.ref8_originations_l6 at h100
 refine awp_seq (awp_seq (rg0 [1, 7, 8, 9, 114] 2 ⟨126, [(1, .ref 0 0), (7, .int .i64 p23), (8, .ref 1 0), (9, .int .i64 p27), (114, .bool (decide (p27 < p23)))], u2⟩ (then_n (cn h100 (fun _ h102 => ?_) (fun _ h103 => ?_)))))
 refine awp_skip (then_n (awp_seq (awp_block (awp_seq ?_))))
 obtain ⟨c104, h105⟩ := gd_some h102
 refine zc [1, 7, 8, 9, 125] 2 c104 (then_n (cn h105 (fun _ h107 => ?_) (fun _ h108 => ?_)))
 exact awp_seq (zg [2] 0 (then_n (awp_ret (inb_r (then_r (rr h107 ⟨rfl, er0 _⟩))))))
 exact awp_skip (inb_n (then_n (zg [1, 7, 8, 9] 2 (rn h108))))
 refine awp_exit (then_e ?_)
 obtain rfl := Option.some.inj h103
 exact round_e ⟨rfl, Le.trans (s' := ⟨126, [(1, .ref 0 0), (7, .int .i64 p23)], u2⟩) (kp [1, 7]) (le_cut (n := 1) (by kernel_rfl))⟩
 intro e111 s112 o113
 rcases y29 with g30 | y31
 have h114 := elim_l h110
 obtain ⟨rfl, l116⟩ := o113
 exact inb_here (inb_n (then_le (s' := ⟨126, [(1, .ref 0 0), (7, .int .i64 p23)], u1⟩) (l116) (zg [1, 7] 1 (rn h114))))
 have h115 := elim_r h110
 obtain ⟨rfl, n117⟩ := o113
 exact inb_r (inb_r (then_r (rr h115 ⟨rfl, n117⟩)))
 refine awp_exit (then_e ?_)
 obtain rfl := Option.some.inj h87
 exact round_e ⟨rfl, Le.trans (s' := ⟨126, [], u1⟩) (kp []) (le_cut (n := 0) (by kernel_rfl))⟩
 intro e120 s121 o122
 rcases y32 with g33 | y34
 have h123 := elim_l h119
 exact zi o122 (awp_seq (zg [2] 0 (then_n (awp_ret (er1 h123)))))
 have h124 := elim_r h119
 obtain ⟨rfl, n126⟩ := o122
 refine inb_r (then_r ?_)
 obtain rfl := Option.some.inj h124
 exact n126
 have h79 := elim_r h74
 obtain ⟨rfl, n127⟩ := o77
 refine inb_r (then_r ?_)
 obtain rfl := Option.some.inj h79
 exact n127
 have h39 := elim_r h34
 obtain ⟨rfl, n128⟩ := o37
 refine inb_r (then_r ?_)
 obtain rfl := Option.some.inj h39
 exact n128
theorem ref8_pathVector_ok (a0 : TRouter) (r : Int) (h : M.ref8_pathVector a0 = some r) : Fn Tryz.prog 36 [.agg (c_TRouter a0)] (.pure (.int .i64 r)) := by
 unfold M.ref8_pathVector at h
 refine fn_pure Tryz.func36 rfl (by kernel_rfl) (awp_seq (zg [1] 1 (then_n (awp_seq (zg [1, 3] 2 (then_n (awp_seq (awp_seq (zg [1, 3, 10] 2 (then_n (cn h (fun _ h2 => ?_) (fun _ h3 => ?_))))))))))))
 refine awp_seq (awp_seq (zg [40] 0 (then_n (cn h2 (fun _ h5 => ?_) (fun _ h6 => ?_)))))
 exact awp_seq (zg [2] 0 (then_n (awp_ret (then_r (then_r (er1 h5))))))
 exact awp_skip (then_n (awp_seq (zg [2] 0 (then_n (awp_ret (then_r (er1 h6)))))))
 refine awp_skip (then_n (awp_seq (awp_seq ?_)))
 obtain ⟨r1, q7, h8⟩ := bind_some h3
 obtain ⟨r2, q9, h10⟩ := bind_some h8
 refine zr [1, 3, 55] 2 nil_all (rq2 (fun hg => ref8_within_ok _ _ _ _ (gc_some q7 hg)) (rq2 (fun hg => ref8_within_ok _ _ _ _ (gc_some q9 hg)) rqn)) (then_n (cn h10 (fun _ h12 => ?_) (fun _ h13 => ?_)))
 exact awp_seq (zg [2] 0 (then_n (awp_ret (then_r (er1 h12)))))
 refine awp_skip (then_n (awp_seq (awp_seq ?_)))
 obtain ⟨r3, q14, h15⟩ := bind_some h13
 refine zr [1, 3, 4] 2 nil_all (rq1 (ref8_neighbors_ok _ _ q14) rqn) (then_n (awp_seq (zg [1, 3, 4, 59] 2 (then_n (cn h15 (fun _ h17 => ?_) (fun _ h18 => ?_))))))
 exact awp_seq (zg [2] 0 (then_n (awp_ret (then_r (er1 h17)))))
 refine awp_skip (then_n (awp_seq (awp_seq ?_)))
 obtain ⟨r4, q19, h20⟩ := bind_some h18
 refine zr [1, 3, 5] 2 nil_all (rq1 (ref8_originations_ok _ _ q19) rqn) (then_n (awp_seq (zg [1, 3, 5, 64] 2 (then_n (cn h20 (fun _ h22 => ?_) (fun _ h23 => ?_))))))
 exact awp_seq (zg [2] 0 (then_n (awp_ret (then_r (er1 h22)))))
 refine awp_skip (then_n (awp_seq ?_))
 obtain ⟨r5, q24, h25⟩ := bind_some h23
 exact zr [2] 0 nil_all (rq1 (ref8_redistributions_ok _ _ _ _ _ _ q24) rqn) (then_n (awp_ret (er1 h25)))
theorem ref8_CheckRouter_ok (a0 : TRouter) (r : Int) (h : M.ref8_CheckRouter a0 = some r) : Fn Tryz.prog 8 [.agg (c_TRouter a0)] (.pure (.int .i64 r)) := by
 let u1 := c_TRouter a0
 unfold M.ref8_CheckRouter at h
 refine fn_pure Tryz.func8 rfl (by kernel_rfl) (awp_seq (zg [1] 1 (then_n (awp_seq (awp_seq ?_)))))
 obtain ⟨r1, q1, h2⟩ := bind_some h
 refine zr [1, 8] 1 nil_all (rq1 (ref4_Name_ok _ _ q1) rqn) (then_n (cn h2 (fun _ h4 => ?_) (fun _ h5 => ?_)))
 exact awp_seq (zg [2] 0 (then_n (awp_ret (then_r (er1 h4)))))
 refine awp_skip (then_n (awp_seq (awp_seq ?_)))
 obtain ⟨r2, q6, h7⟩ := bind_some h5
 refine zr [1, 12] 1 nil_all (rq1 (ref8_within_ok _ _ _ _ q6) rqn) (then_n (cn h7 (fun _ h9 => ?_) (fun _ h10 => ?_)))
 exact awp_seq (zg [2] 0 (then_n (awp_ret (then_r (er1 h9)))))
 refine awp_skip (then_n (awp_seq ?_))
 obtain ⟨r3, q11, h12⟩ := bind_some h10
 obtain ⟨r4, q13, h14⟩ := bind_some h12
 obtain ⟨r5, q15, h16⟩ := bind_some h14
 obtain ⟨r6, q17, h18⟩ := bind_some h16
 obtain ⟨r7, q19, h20⟩ := bind_some h18
 obtain ⟨r8, q21, h22⟩ := bind_some h20
 obtain ⟨r9, q23, h24⟩ := bind_some h22
 obtain ⟨r10, q25, h26⟩ := bind_some h24
 obtain ⟨r11, q27, h28⟩ := bind_some h26
 obtain ⟨r12, q29, h30⟩ := bind_some h28
 refine rg [.pure (.int .i64 r3), .pure (.int .i64 r4), .pure (.int .i64 r5), .pure (.int .i64 r6), .pure (.int .i64 r7), .pure (.int .i64 r8), .pure (.int .i64 r9), .pure (.int .i64 r10), .pure (.int .i64 r11), .pure (.int .i64 r12)] [3] 0 ⟨52, [(3, .sl true 1 10 (fun i => List.take 1 (List.drop (i * 1) [.int .i64 r3, .int .i64 r4, .int .i64 r5, .int .i64 r6, .int .i64 r7, .int .i64 r8, .int .i64 r9, .int .i64 r10, .int .i64 r11, .int .i64 r12])))], []⟩ [] [⟨true, 27, [sL 12 c_TInterface a0.fInterfaces], .pure (.int .i64 r3)⟩, ⟨true, 28, [sL 2 c_TPrefixList a0.fLists], .pure (.int .i64 r4)⟩, ⟨true, 29, [.agg u1], .pure (.int .i64 r5)⟩, ⟨true, 30, [sL 2 c_TACL a0.fACLs], .pure (.int .i64 r6)⟩, ⟨true, 31, [.agg u1], .pure (.int .i64 r7)⟩, ⟨true, 32, [.agg u1], .pure (.int .i64 r8)⟩, ⟨true, 33, [.agg u1], .pure (.int .i64 r9)⟩, ⟨true, 34, [.agg u1], .pure (.int .i64 r10)⟩, ⟨true, 35, [.agg u1], .pure (.int .i64 r11)⟩, ⟨true, 36, [.agg u1], .pure (.int .i64 r12)⟩] nil_all ⟨fun _ => ref8_interfaces_ok a0.fInterfaces r3 q11, fun _ => ref8_prefixLists_ok a0.fLists r4 q13, fun _ => ref8_routeMaps_ok a0 r5 q15, fun _ => ref8_accessLists_ok a0.fACLs r6 q17, fun _ => ref8_translations_ok a0 r7 q19, fun _ => ref8_filters_ok a0 r8 q21, fun _ => ref8_statics_ok a0 r9 q23, fun _ => ref8_linkState_ok a0 r10 q25, fun _ => ref8_distance_ok a0 r11 q27, fun _ => ref8_pathVector_ok a0 r12 q29, trivial⟩ (then_le (s' := ⟨52, [(3, sL 1 (ci .i64) ([r3, r4, r5, r6, r7, r8, r9, r10, r11, r12] : List Int))], []⟩) (le_sub (.cons (sub_sl rfl (fun i hi => match i, hi with | 0, _ => rfl | 1, _ => rfl | 2, _ => rfl | 3, _ => rfl | 4, _ => rfl | 5, _ => rfl | 6, _ => rfl | 7, _ => rfl | 8, _ => rfl | 9, _ => rfl | n + 10, h => absurd h (by omega))) .nil) .nil) (awp_seq (awp_seq (zg [3, 4] 0 (then_n (awp_block ?_))))))
 obtain ⟨y15, q42, h43⟩ := bind_some h30
 refine zl (fun (p13 : Int) => ⟨52, [(3, sL 1 (ci .i64) ([r3, r4, r5, r6, r7, r8, r9, r10, r11, r12] : List Int)), (4, .int .i64 p13)], []⟩) (Sum.elim (fun z => OutE 0 (fun z => ⟨52, [], []⟩) z) (fun z => OutR Tryz.prog Tryz.f8 (.int .i64 z))) q42 ?_ ?_
 intro p13 y14 h31
 unfold M.ref8_CheckRouter_l1 at h31
 refine awp_seq (awp_seq (zg [3, 4, 40] 0 (then_n (cn h31 (fun _ h33 => ?_) (fun _ h34 => ?_)))))
 refine awp_skip (then_n (awp_seq (awp_block (awp_seq ?_))))
 obtain ⟨c35, h36⟩ := gd_some h33
 refine zc [3, 4, 47] 0 c35 (then_n (cn h36 (fun _ h38 => ?_) (fun _ h39 => ?_)))
 refine awp_seq ?_
 obtain ⟨c40, h41⟩ := gd_some h38
 exact zc [2] 0 c40 (then_n (awp_ret (inb_r (then_r (rr h41 ⟨rfl, er0 _⟩)))))
 exact awp_skip (inb_n (then_n (zg [3, 4] 0 (rn h39))))
 exact awp_exit (then_e (re h34 ⟨rfl, kq⟩))
 intro e44 s45 o46
 rcases y15 with g16 | y17
 have h47 := elim_l h43
 exact zi o46 (awp_seq (zg [2] 0 (then_n (awp_ret (er1 h47)))))
 have h48 := elim_r h43
 obtain ⟨rfl, n50⟩ := o46
 refine inb_r (then_r ?_)
 obtain rfl := Option.some.inj h48
 exact n50
theorem scan_letter_ok (a0 : Int) (r : Bool) (h : M.scan_letter a0 = some r) : Fn Tryz.prog 43 [.int .u8 a0] (.pure (.bool r)) := by
 unfold M.scan_letter at h
 exact fn_pure Tryz.func43 rfl (by kernel_rfl) (awp_seq (zg [0] 0 (then_n (awp_seq (zg [2] 0 (then_n (awp_ret (er1 h))))))))
theorem scan_digit_ok (a0 : Int) (r : Bool) (h : M.scan_digit a0 = some r) : Fn Tryz.prog 44 [.int .u8 a0] (.pure (.bool r)) := by
 unfold M.scan_digit at h
 exact fn_pure Tryz.func44 rfl (by kernel_rfl) (awp_seq (zg [0] 0 (then_n (awp_seq (zg [2] 0 (then_n (awp_ret (er1 h))))))))
theorem scan_Name_ok (a0 : ByteArray) (r : Bool) (h : M.scan_Name a0 = some r) : Fn Tryz.prog 13 [.str a0] (.pure (.bool r)) := by
 unfold M.scan_Name at h
 refine fn_pure Tryz.func13 rfl (by kernel_rfl) (awp_seq (zg [0] 0 (then_n (awp_seq (awp_seq ?_)))))
 obtain ⟨r1, q1, h2⟩ := bind_some h
 obtain ⟨c3, h4⟩ := gd_some h2
 refine zr [0, 18] 0 c3 (rq2 (fun hg => scan_letter_ok _ _ (gc_some q1 hg)) rqn) (then_n (cn h4 (fun _ h6 => ?_) (fun _ h7 => ?_)))
 exact awp_seq (zg [2] 0 (then_n (awp_ret (then_r (er1 h6)))))
 refine awp_skip (then_n (awp_seq (awp_seq (zg [0, 3] 0 (then_n (awp_block ?_))))))
 obtain ⟨y6, q21, h22⟩ := bind_some h7
 refine zl (fun (p2 : Int) => ⟨52, [(0, .str a0), (3, .int .i64 p2)], []⟩) (Sum.elim (fun z => OutE 0 (fun z => ⟨52, [], []⟩) z) (fun z => OutR Tryz.prog Tryz.f13 (.bool z))) q21 ?_ ?_
 intro p2 y3 h8
 unfold M.scan_Name_l1 at h8
 refine awp_seq (awp_seq (zg [0, 3, 22] 0 (then_n (cn h8 (fun _ h10 => ?_) (fun _ h11 => ?_)))))
 refine awp_skip (then_n (awp_seq (awp_block (awp_seq ?_))))
 obtain ⟨c12, h13⟩ := gd_some h10
 refine zc [0, 3, 4] 0 c12 (then_n (awp_seq ?_))
 obtain ⟨r4, q14, h15⟩ := bind_some h13
 obtain ⟨r5, q16, h17⟩ := bind_some h15
 refine zr [0, 3, 51] 0 nil_all (rq1 (scan_letter_ok _ _ q14) (rq2 (fun hg => scan_digit_ok _ _ (gc_some q16 hg)) rqn)) (then_n (cn h17 (fun _ h19 => ?_) (fun _ h20 => ?_)))
 exact awp_seq (zg [2] 0 (then_n (awp_ret (inb_r (then_r (rr h19 ⟨rfl, er0 _⟩))))))
 exact awp_skip (inb_n (then_n (zg [0, 3] 0 (rn h20))))
 exact awp_exit (then_e (re h11 ⟨rfl, kq⟩))
 intro e23 s24 o25
 rcases y6 with g7 | y8
 have h26 := elim_l h22
 exact zi o25 (awp_seq (zg [2] 0 (then_n (awp_ret (er1 h26)))))
 have h27 := elim_r h22
 obtain ⟨rfl, n29⟩ := o25
 refine inb_r (then_r ?_)
 obtain rfl := Option.some.inj h27
 exact n29
theorem model_within_ok (a0 : Int) (a1 : Int) (a2 : Int) (r : Bool) (h : M.model_within a0 a1 a2 = some r) : Fn Tryz.prog 14 [.int .i64 a0, .int .i64 a1, .int .i64 a2] (.pure (.bool r)) := by
 unfold M.model_within at h
 exact fn_pure Tryz.func14 rfl (by kernel_rfl) (awp_seq (zg [0, 1, 2] 0 (then_n (awp_seq (zg [6] 0 (then_n (awp_ret (er1 h))))))))
theorem model_Interface_1_ok (a0 : TInterface) (b0 : ByteArray) (r : Bool) (h : M.model_Interface_1 a0 b0 = some r) : Fn Tryz.prog 87 [.agg (c_TInterface a0), .pp (cs b0)] (.pure (.bool r)) := by
 unfold M.model_Interface_1 at h
 exact fn_pure Tryz.func87 rfl (by kernel_rfl) (awp_seq (zg [1, 2] 1 (then_n (awp_seq (zg [3] 0 (then_n (awp_ret (er1 h))))))))
theorem slices_IndexFunc_api_Interface_api_Interface__model_Interface_1_ok (a0 : List TInterface) (a1c0 : ByteArray) (r : Int) (h : M.slices_IndexFunc_api_Interface_api_Interface__model_Interface_1 a0 a1c0 = some r) : Fn Tryz.prog 86 [sL 12 c_TInterface a0, .fn 87 [.pp (cs a1c0)]] (.pure (.int .i64 r)) := by
 unfold M.slices_IndexFunc_api_Interface_api_Interface__model_Interface_1 at h
 refine fn_pure Tryz.func86 rfl (by kernel_rfl) (awp_seq (zg [0, 1] 0 (then_n (awp_seq (awp_seq (zg [0, 1, 7, 8] 0 (then_n (awp_block ?_))))))))
 obtain ⟨y4, q12, h13⟩ := bind_some h
 refine zl (fun (p1 : Int) => ⟨19, [(0, sL 12 c_TInterface a0), (1, .fn 87 [.pp (cs a1c0)]), (7, .int .i64 (a0.length : Int)), (8, .int .i64 p1)], []⟩) (Sum.elim (fun z => OutE 0 (fun z => ⟨19, [], []⟩) z) (fun z => OutR Tryz.prog Tryz.f86 (.int .i64 z))) q12 ?_ ?_
 intro p1 y2 h1
 unfold M.slices_IndexFunc_api_Interface_api_Interface__model_Interface_1_l1 at h1
 refine awp_seq (zg [0, 1, 7, 8, 9] 0 (then_n (awp_seq (cn h1 (fun _ h3 => ?_) (fun _ h4 => ?_)))))
 refine awp_skip (then_n (awp_seq (awp_block (awp_seq (zg [0, 1, 5, 7, 8] 0 (then_n (awp_seq ?_)))))))
 obtain ⟨r3, q5, h6⟩ := bind_some h3
 obtain ⟨c7, h8⟩ := gd_some h6
 refine zr [0, 1, 5, 7, 8, 16] 0 c7 (rq1 (model_Interface_1_ok _ _ _ q5) rqn) (then_n (cn h8 (fun _ h10 => ?_) (fun _ h11 => ?_)))
 exact awp_seq (zg [4] 0 (then_n (awp_ret (inb_r (then_r (rr h10 ⟨rfl, er0 _⟩))))))
 exact awp_skip (inb_n (then_n (zg [0, 1, 7, 8] 0 (rn h11))))
 exact awp_exit (then_e (re h4 ⟨rfl, kq⟩))
 intro e14 s15 o16
 rcases y4 with g5 | y6
 have h17 := elim_l h13
 exact zi o16 (awp_seq (zg [4] 0 (then_n (awp_ret (er1 h17)))))
 have h18 := elim_r h13
 obtain ⟨rfl, n20⟩ := o16
 refine inb_r (then_r ?_)
 obtain rfl := Option.some.inj h18
 exact n20
theorem model_Interface_ok (a0 : TRouter) (a1 : ByteArray) (r : Int) (h : M.model_Interface a0 a1 = some r) : Fn Tryz.prog 39 [.agg (c_TRouter a0), .str a1] (.pure (.int .i64 r)) := by
 unfold M.model_Interface at h
 refine fn_pure Tryz.func39 rfl (by kernel_rfl) (awp_seq (zg [2, 3] 2 (then_n (awp_seq ?_))))
 obtain ⟨r1, q1, h2⟩ := bind_some h
 exact zr [4] 0 nil_all (rq1 (slices_IndexFunc_api_Interface_api_Interface__model_Interface_1_ok _ _ _ q1) rqn) (then_n (awp_ret (er1 h2)))
theorem model_rightInterface_ok (a0 : TInterface) (r : Bool) (h : M.model_rightInterface a0 = some r) : Fn Tryz.prog 45 [.agg (c_TInterface a0)] (.pure (.bool r)) := by
 unfold M.model_rightInterface at h
 refine fn_pure Tryz.func45 rfl (by kernel_rfl) (awp_seq (zg [1] 1 (then_n (awp_seq (awp_seq ?_)))))
 obtain ⟨r1, q1, h2⟩ := bind_some h
 obtain ⟨r2, q3, h4⟩ := bind_some h2
 obtain ⟨r3, q5, h6⟩ := bind_some h4
 refine zr [1, 18] 1 nil_all (rq1 (model_within_ok _ _ _ _ q1) (rq2 (fun hg => model_within_ok _ _ _ _ (gc_some q3 hg)) (rq2 (fun hg => model_within_ok _ _ _ _ (gc_some q5 hg)) rqn))) (then_n (cn h6 (fun _ h8 => ?_) (fun _ h9 => ?_)))
 exact awp_seq (zg [2] 0 (then_n (awp_ret (then_r (er1 h8)))))
 refine awp_skip (then_n (awp_seq (awp_seq (zg [1, 54] 1 (then_n (cn h9 (fun _ h11 => ?_) (fun _ h12 => ?_)))))))
 exact awp_seq (zg [2] 0 (then_n (awp_ret (then_r (er1 h11)))))
 refine awp_skip (then_n (awp_seq (awp_seq (zg [1, 62] 1 (then_n (cn h12 (fun _ h14 => ?_) (fun _ h15 => ?_)))))))
 exact awp_seq (zg [2] 0 (then_n (awp_ret (then_r (er1 h14)))))
 refine awp_skip (then_n (awp_seq (awp_seq (zg [1, 64] 1 (then_n (cn h15 (fun _ h17 => ?_) (fun _ h18 => ?_)))))))
 refine awp_seq ?_
 obtain ⟨r4, q19, h20⟩ := bind_some h17
 obtain ⟨r5, q21, h22⟩ := bind_some h20
 exact zr [2] 0 nil_all (rq1 (model_within_ok _ _ _ _ q19) (rq2 (fun hg => model_within_ok _ _ _ _ (gc_some q21 hg)) rqn)) (then_n (awp_ret (then_r (er1 h22))))
 exact awp_skip (then_n (awp_seq (zg [2] 0 (then_n (awp_ret (er1 h18))))))
theorem addr_clamp_ok (a0 : Int) (r : Int) (h : M.addr_clamp a0 = some r) : Fn Tryz.prog 93 [.int .i64 a0] (.pure (.int .i64 r)) := by
 unfold M.addr_clamp at h
 exact fn_pure Tryz.func93 rfl (by kernel_rfl) (awp_seq (zg [0] 0 (then_n (awp_seq (zg [2] 0 (then_n (awp_ret (er1 h))))))))
theorem addr_Mask_ok (a0 : Int) (r : Int) (h : M.addr_Mask a0 = some r) : Fn Tryz.prog 92 [.int .i64 a0] (.pure (.int .u32 r)) := by
 unfold M.addr_Mask at h
 refine fn_pure Tryz.func92 rfl (by kernel_rfl) (awp_seq (zg [0] 0 (then_n (awp_seq ?_))))
 obtain ⟨r1, q1, h2⟩ := bind_some h
 obtain ⟨c3, h4⟩ := gd_some h2
 exact zr [2] 0 c3 (rq1 (addr_clamp_ok _ _ q1) rqn) (then_n (awp_ret (er1 h4)))
theorem addr_Network_ok (a0 : Int) (a1 : Int) (r : TPrefix) (h : M.addr_Network a0 a1 = some r) : Fn Tryz.prog 47 [.int .u32 a0, .int .i64 a1] (.pure (.agg (c_TPrefix r))) := by
 unfold M.addr_Network at h
 refine fn_pure Tryz.func47 rfl (by kernel_rfl) (awp_seq (zg [0, 1, 4] 1 (then_n (awp_seq ?_))))
 obtain ⟨r1, q1, h2⟩ := bind_some h
 obtain ⟨r2, q3, h4⟩ := bind_some h2
 refine zr [4] 1 nil_all (rq1 (addr_Mask_ok _ _ q1) (rq1 (addr_clamp_ok _ _ q3) rqn)) (then_n (awp_ret ?_))
 obtain rfl := Option.some.inj h4
 exact er0 (.agg [.int .u32 (bitD .and .u32 a0 r1), .int .i64 r2])
theorem addr_Contains_ok (a0 : TPrefix) (a1 : Int) (r : Bool) (h : M.addr_Contains a0 a1 = some r) : Fn Tryz.prog 113 [.agg (c_TPrefix a0), .int .u32 a1] (.pure (.bool r)) := by
 unfold M.addr_Contains at h
 refine fn_pure Tryz.func113 rfl (by kernel_rfl) (awp_seq (zg [1, 2] 1 (then_n (awp_seq ?_))))
 obtain ⟨r1, q1, h2⟩ := bind_some h
 exact zr [4] 0 nil_all (rq1 (addr_Mask_ok _ _ q1) rqn) (then_n (awp_ret (er1 h2)))
theorem addr_Covers_ok (a0 : TPrefix) (a1 : TPrefix) (r : Bool) (h : M.addr_Covers a0 a1 = some r) : Fn Tryz.prog 91 [.agg (c_TPrefix a0), .agg (c_TPrefix a1)] (.pure (.bool r)) := by
 unfold M.addr_Covers at h
 refine fn_pure Tryz.func91 rfl (by kernel_rfl) (awp_seq (zg [2, 3] 2 (then_n (awp_seq ?_))))
 obtain ⟨r1, q1, h2⟩ := bind_some h
 exact zr [4] 0 nil_all (rq2 (fun hg => addr_Contains_ok _ _ _ (gc_some q1 hg)) rqn) (then_n (awp_ret (er1 h2)))
theorem addr_Overlaps_ok (a0 : TPrefix) (a1 : TPrefix) (r : Bool) (h : M.addr_Overlaps a0 a1 = some r) : Fn Tryz.prog 46 [.agg (c_TPrefix a0), .agg (c_TPrefix a1)] (.pure (.bool r)) := by
 unfold M.addr_Overlaps at h
 refine fn_pure Tryz.func46 rfl (by kernel_rfl) (awp_seq (zg [2, 3] 2 (then_n (awp_seq ?_))))
 obtain ⟨r1, q1, h2⟩ := bind_some h
 obtain ⟨r2, q3, h4⟩ := bind_some h2
 exact zr [4] 0 nil_all (rq1 (addr_Covers_ok _ _ _ q1) (rq2 (fun hg => addr_Covers_ok _ _ _ (gc_some q3 hg)) rqn)) (then_n (awp_ret (er1 h4)))
theorem model_checkInterfaces_ok (a0 : TRouter) (r : Int) (h : M.model_checkInterfaces a0 = some r) : Fn Tryz.prog 15 [.agg (c_TRouter a0)] (.pure (.int .i64 r)) := by
 let u2 : Nat × D := (12, sL 12 c_TInterface a0.fInterfaces)
 let u3 := (a0.fInterfaces.length : Int)
 let u5 : List Ob := [.box (c_TRouter a0)]
 unfold M.model_checkInterfaces at h
 refine fn_pure Tryz.func15 rfl (by kernel_rfl) (awp_seq (zg [1] 1 (then_n (awp_seq (awp_seq (zg [1, 10] 1 (then_n (cn h (fun _ h2 => ?_) (fun _ h3 => ?_)))))))))
 exact awp_seq (zg [2] 0 (then_n (awp_ret (then_r (er1 h2)))))
 refine awp_skip (then_n (awp_seq (awp_seq (zg [1, 12, 13, 14] 1 (then_n (awp_block ?_))))))
 obtain ⟨y14, q51, h52⟩ := bind_some h3
 refine zl (fun (p1 : Int) => ⟨64, [(1, .ref 0 0), u2, (13, .int .i64 u3), (14, .int .i64 p1)], u5⟩) (Sum.elim (fun z => OutE 0 (fun z => ⟨64, [], []⟩) z) (fun z => OutR Tryz.prog Tryz.f15 (.int .i64 z))) q51 ?_ ?_
 intro p1 y2 h4
 let u1 : List Ob := [.box (c_TRouter a0), .box (c_TInterface (a0.fInterfaces.getD p1.toNat default))]
 let u4 : Nat × D := (35, sL 12 c_TInterface ((a0.fInterfaces.drop 0).take (p1.toNat - 0)))
 unfold M.model_checkInterfaces_l1 at h4
 refine awp_seq (rg0 [1, 12, 13, 14, 15] 1 ⟨64, [(1, .ref 0 0), u2, (13, .int .i64 u3), (14, .int .i64 p1), (15, .bool (decide (p1 < u3)))], u5⟩ (then_n (awp_seq (cn h4 (fun _ h6 => ?_) (fun _ h7 => ?_)))))
 refine awp_skip (then_n (awp_seq (awp_block (awp_seq ?_))))
 obtain ⟨c8, h9⟩ := gd_some h6
 refine zc [1, 3, 4, 12, 13, 14] 2 c8 (then_n (awp_seq (awp_seq ?_)))
 obtain ⟨r3, q10, h11⟩ := bind_some h9
 refine zr [1, 3, 4, 12, 13, 14, 22] 2 nil_all (rq1 (scan_Name_ok _ _ q10) rqn) (then_n (cn h11 (fun _ h13 => ?_) (fun _ h14 => ?_)))
 exact awp_seq (zg [2] 0 (then_n (awp_ret (then_r (inb_r (then_r (rr h13 ⟨rfl, er0 _⟩)))))))
 refine awp_skip (then_n (awp_seq (awp_seq ?_)))
 obtain ⟨r4, q15, h16⟩ := bind_some h14
 refine zr [1, 3, 4, 12, 13, 14, 28] 2 nil_all (rq1 (model_Interface_ok _ _ _ q15) rqn) (then_n (cn h16 (fun _ h18 => ?_) (fun _ h19 => ?_)))
 exact awp_seq (zg [2] 0 (then_n (awp_ret (then_r (inb_r (then_r (rr h18 ⟨rfl, er0 _⟩)))))))
 refine awp_skip (then_n (awp_seq (awp_seq ?_)))
 obtain ⟨r5, q20, h21⟩ := bind_some h19
 refine zr [1, 3, 4, 12, 13, 14, 31] 2 nil_all (rq1 (model_rightInterface_ok _ _ q20) rqn) (then_n (cn h21 (fun _ h23 => ?_) (fun _ h24 => ?_)))
 exact awp_seq (zg [2] 0 (then_n (awp_ret (then_r (inb_r (then_r (rr h23 ⟨rfl, er0 _⟩)))))))
 refine awp_skip (then_n (awp_seq ?_))
 obtain ⟨c25, h26⟩ := gd_some h24
 refine rgc [1, 4, 12, 13, 14, 35, 36, 37] 2 ⟨64, [(1, .ref 0 0), (4, .ref 1 0), u2, (13, .int .i64 u3), (14, .int .i64 p1), (35, .sl false 12 (p1.toNat - 0) (fun i => c_TInterface (a0.fInterfaces.getD (0 + i) default))), (36, .int .i64 ((p1.toNat - 0 : Nat) : Int)), (37, .int .i64 0)], u1⟩ [decide (0 ≤ p1), decide (p1 ≤ u3)] c25 (then_le (s' := ⟨64, [(1, .ref 0 0), (4, .ref 1 0), u2, (13, .int .i64 u3), (14, .int .i64 p1), u4, (36, .int .i64 ((p1.toNat - 0 : Nat) : Int)), (37, .int .i64 0)], u1⟩) (le_sub (.cons Sub.rfl (.cons Sub.rfl (.cons Sub.rfl (.cons Sub.rfl (.cons Sub.rfl (.cons (sub_sl (len_cut _ _ _ (cut_hi (c25 _ (List.mem_cons_of_mem _ List.mem_cons_self)))) (cut_ext _ _ _ _)) (.cons Sub.rfl (.cons Sub.rfl .nil)))))))) (.cons .rfl (.cons .rfl .nil))) (awp_block ?_))
 obtain ⟨y11, q42, h43⟩ := bind_some h26
 refine zl (fun (p6 : Int) => ⟨64, [(1, .ref 0 0), (4, .ref 1 0), u2, (13, .int .i64 u3), (14, .int .i64 p1), u4, (36, .int .i64 ((p1.toNat - 0 : Nat) : Int)), (37, .int .i64 p6)], u1⟩) (Sum.elim (fun z => OutE 2 (fun z => ⟨64, [(1, .ref 0 0), u2, (13, .int .i64 u3), (14, .int .i64 p1)], u5⟩) z) (fun z => OutR Tryz.prog Tryz.f15 (.int .i64 z))) q42 ?_ ?_
 intro p6 y7 h27
 unfold M.model_checkInterfaces_l2 at h27
 refine awp_seq (rg0 [1, 4, 12, 13, 14, 35, 36, 37, 38] 2 ⟨64, [(1, .ref 0 0), (4, .ref 1 0), u2, (13, .int .i64 u3), (14, .int .i64 p1), u4, (36, .int .i64 ((p1.toNat - 0 : Nat) : Int)), (37, .int .i64 p6), (38, .bool (decide (p6 < ((p1.toNat - 0 : Nat) : Int))))], u1⟩ (then_n (awp_seq (cn h27 (fun _ h29 => ?_) (fun _ h30 => ?_)))))
 refine awp_skip (then_n (awp_seq (awp_block (awp_seq ?_))))
 obtain ⟨c31, h32⟩ := gd_some h29
 refine zc [1, 4, 6, 12, 13, 14, 35, 36, 37] 3 c31 (then_n (awp_seq ?_))
 obtain ⟨r8, q33, h34⟩ := bind_some h32
 obtain ⟨r9, q35, h36⟩ := bind_some h34
 obtain ⟨r10, q37, h38⟩ := bind_some h36
 refine zr [1, 4, 12, 13, 14, 35, 36, 37, 61] 2 nil_all (rq2 (fun hg => addr_Network_ok _ _ _ (gc_some q33 hg)) (rq2 (fun hg => addr_Network_ok _ _ _ (gc_some q35 hg)) (rq2 (fun hg => addr_Overlaps_ok _ _ _ (gc_some q37 hg)) rqn))) (then_n (cn h38 (fun _ h40 => ?_) (fun _ h41 => ?_)))
 exact awp_seq (zg [2] 0 (then_n (awp_ret (inb_r (then_r (rr h40 ⟨rfl, er0 _⟩))))))
 exact awp_skip (inb_n (then_n (zg [1, 4, 12, 13, 14, 35, 36, 37] 2 (rn h41))))
 refine awp_exit (then_e ?_)
 obtain rfl := Option.some.inj h30
 exact round_e ⟨rfl, Le.trans (s' := ⟨64, [(1, .ref 0 0), u2, (13, .int .i64 u3), (14, .int .i64 p1)], u1⟩) (kp [1, 12, 13, 14]) (le_cut (n := 1) (by kernel_rfl))⟩
 intro e44 s45 o46
 rcases y11 with g12 | y13
 have h47 := elim_l h43
 obtain ⟨rfl, l49⟩ := o46
 exact inb_here (inb_n (then_le (s' := ⟨64, [(1, .ref 0 0), u2, (13, .int .i64 u3), (14, .int .i64 p1)], u5⟩) (l49) (zg [1, 12, 13, 14] 1 (rn h47))))
 have h48 := elim_r h43
 obtain ⟨rfl, n50⟩ := o46
 exact inb_r (inb_r (then_r (rr h48 ⟨rfl, n50⟩)))
 refine awp_exit (then_e ?_)
 obtain rfl := Option.some.inj h7
 exact round_e ⟨rfl, Le.trans (s' := ⟨64, [], u5⟩) (kp []) (le_cut (n := 0) (by kernel_rfl))⟩
 intro e53 s54 o55
 rcases y14 with g15 | y16
 have h56 := elim_l h52
 exact zi o55 (awp_seq (zg [2] 0 (then_n (awp_ret (er1 h56)))))
 have h57 := elim_r h52
 obtain ⟨rfl, n59⟩ := o55
 refine inb_r (then_r ?_)
 obtain rfl := Option.some.inj h57
 exact n59
theorem model_PrefixList_1_ok (a0 : TPrefixList) (b0 : ByteArray) (r : Bool) (h : M.model_PrefixList_1 a0 b0 = some r) : Fn Tryz.prog 95 [.agg (c_TPrefixList a0), .pp (cs b0)] (.pure (.bool r)) := by
 unfold M.model_PrefixList_1 at h
 exact fn_pure Tryz.func95 rfl (by kernel_rfl) (awp_seq (zg [1, 2] 1 (then_n (awp_seq (zg [3] 0 (then_n (awp_ret (er1 h))))))))
theorem slices_IndexFunc_api_PrefixList_api_PrefixList__model_PrefixList_1_ok (a0 : List TPrefixList) (a1c0 : ByteArray) (r : Int) (h : M.slices_IndexFunc_api_PrefixList_api_PrefixList__model_PrefixList_1 a0 a1c0 = some r) : Fn Tryz.prog 94 [sL 2 c_TPrefixList a0, .fn 95 [.pp (cs a1c0)]] (.pure (.int .i64 r)) := by
 unfold M.slices_IndexFunc_api_PrefixList_api_PrefixList__model_PrefixList_1 at h
 refine fn_pure Tryz.func94 rfl (by kernel_rfl) (awp_seq (zg [0, 1] 0 (then_n (awp_seq (awp_seq (zg [0, 1, 7, 8] 0 (then_n (awp_block ?_))))))))
 obtain ⟨y4, q12, h13⟩ := bind_some h
 refine zl (fun (p1 : Int) => ⟨19, [(0, sL 2 c_TPrefixList a0), (1, .fn 95 [.pp (cs a1c0)]), (7, .int .i64 (a0.length : Int)), (8, .int .i64 p1)], []⟩) (Sum.elim (fun z => OutE 0 (fun z => ⟨19, [], []⟩) z) (fun z => OutR Tryz.prog Tryz.f94 (.int .i64 z))) q12 ?_ ?_
 intro p1 y2 h1
 unfold M.slices_IndexFunc_api_PrefixList_api_PrefixList__model_PrefixList_1_l1 at h1
 refine awp_seq (zg [0, 1, 7, 8, 9] 0 (then_n (awp_seq (cn h1 (fun _ h3 => ?_) (fun _ h4 => ?_)))))
 refine awp_skip (then_n (awp_seq (awp_block (awp_seq (zg [0, 1, 5, 7, 8] 0 (then_n (awp_seq ?_)))))))
 obtain ⟨r3, q5, h6⟩ := bind_some h3
 obtain ⟨c7, h8⟩ := gd_some h6
 refine zr [0, 1, 5, 7, 8, 16] 0 c7 (rq1 (model_PrefixList_1_ok _ _ _ q5) rqn) (then_n (cn h8 (fun _ h10 => ?_) (fun _ h11 => ?_)))
 exact awp_seq (zg [4] 0 (then_n (awp_ret (inb_r (then_r (rr h10 ⟨rfl, er0 _⟩))))))
 exact awp_skip (inb_n (then_n (zg [0, 1, 7, 8] 0 (rn h11))))
 exact awp_exit (then_e (re h4 ⟨rfl, kq⟩))
 intro e14 s15 o16
 rcases y4 with g5 | y6
 have h17 := elim_l h13
 exact zi o16 (awp_seq (zg [4] 0 (then_n (awp_ret (er1 h17)))))
 have h18 := elim_r h13
 obtain ⟨rfl, n20⟩ := o16
 refine inb_r (then_r ?_)
 obtain rfl := Option.some.inj h18
 exact n20
theorem model_PrefixList_ok (a0 : TRouter) (a1 : ByteArray) (r : Int) (h : M.model_PrefixList a0 a1 = some r) : Fn Tryz.prog 49 [.agg (c_TRouter a0), .str a1] (.pure (.int .i64 r)) := by
 unfold M.model_PrefixList at h
 refine fn_pure Tryz.func49 rfl (by kernel_rfl) (awp_seq (zg [2, 3] 2 (then_n (awp_seq ?_))))
 obtain ⟨r1, q1, h2⟩ := bind_some h
 exact zr [4] 0 nil_all (rq1 (slices_IndexFunc_api_PrefixList_api_PrefixList__model_PrefixList_1_ok _ _ _ q1) rqn) (then_n (awp_ret (er1 h2)))
theorem model_checkList_ok (a0 : Int) (a1 : Int) (a2 : ByteArray) (a3 : Int) (a4 : Int) (r : Int) (h : M.model_checkList a0 a1 a2 a3 a4 = some r) : Fn Tryz.prog 48 [.int .i64 a0, .int .i64 a1, .str a2, .int .i64 a3, .int .i64 a4] (.pure (.int .i64 r)) := by
 unfold M.model_checkList at h
 refine fn_pure Tryz.func48 rfl (by kernel_rfl) (awp_seq (zg [0, 1, 2, 3, 4] 0 (then_n (awp_seq (awp_block (awp_seq ?_))))))
 obtain ⟨r1, q1, h2⟩ := bind_some h
 refine zr [0, 1, 3, 4, 11] 0 nil_all (rq1 (scan_Name_ok _ _ q1) rqn) (then_n (cn h2 (fun _ h4 => ?_) (fun _ h5 => ?_)))
 exact awp_seq (zg [10] 0 (then_n (awp_ret (inb_r (then_r (er1 h4))))))
 refine awp_seq (zg [3, 4, 15] 0 (then_n (cn h5 (fun _ h7 => ?_) (fun _ h8 => ?_))))
 exact awp_seq (zg [10] 0 (then_n (awp_ret (inb_r (then_r (er1 h7))))))
 refine awp_seq (zg [3, 4, 19] 0 (then_n (cn h8 (fun _ h10 => ?_) (fun _ h11 => ?_))))
 exact awp_seq (zg [10] 0 (then_n (awp_ret (inb_r (then_r (er1 h10))))))
 refine awp_seq (zg [22] 0 (then_n (cn h11 (fun _ h13 => ?_) (fun _ h14 => ?_))))
 exact awp_seq (zg [10] 0 (then_n (awp_ret (inb_r (then_r (er1 h13))))))
 exact awp_skip (inb_n (then_n (awp_seq (zg [10] 0 (then_n (awp_ret (er1 h14)))))))
theorem addr_Valid_ok (a0 : TPrefix) (r : Bool) (h : M.addr_Valid a0 = some r) : Fn Tryz.prog 50 [.agg (c_TPrefix a0)] (.pure (.bool r)) := by
 unfold M.addr_Valid at h
 refine fn_pure Tryz.func50 rfl (by kernel_rfl) (awp_seq (zg [1] 1 (then_n (awp_seq ?_))))
 obtain ⟨r1, q1, h2⟩ := bind_some h
 exact zr [2] 0 nil_all (rq2 (fun hg => addr_Mask_ok _ _ (gc_some q1 hg)) rqn) (then_n (awp_ret (er1 h2)))
theorem model_checkPrefixLists_ok (a0 : TRouter) (r : Int) (h : M.model_checkPrefixLists a0 = some r) : Fn Tryz.prog 16 [.agg (c_TRouter a0)] (.pure (.int .i64 r)) := by
 let u1 : Nat × D := (13, sL 2 c_TPrefixList a0.fLists)
 let u2 := (a0.fLists.length : Int)
 let u3 : List Ob := [.box (c_TRouter a0)]
 unfold M.model_checkPrefixLists at h
 refine fn_pure Tryz.func16 rfl (by kernel_rfl) (awp_seq (zg [1] 1 (then_n (awp_seq (awp_seq (zg [1, 11] 1 (then_n (cn h (fun _ h2 => ?_) (fun _ h3 => ?_)))))))))
 exact awp_seq (zg [2] 0 (then_n (awp_ret (then_r (er1 h2)))))
 refine awp_skip (then_n (awp_seq (awp_seq (zg [1, 13, 14, 15] 1 (then_n (awp_block ?_))))))
 obtain ⟨y11, q37, h38⟩ := bind_some h3
 refine zl (fun (p1 : Int) => ⟨67, [(1, .ref 0 0), u1, (14, .int .i64 u2), (15, .int .i64 p1)], u3⟩) (Sum.elim (fun z => OutE 0 (fun z => ⟨67, [], []⟩) z) (fun z => OutR Tryz.prog Tryz.f16 (.int .i64 z))) q37 ?_ ?_
 intro p1 y2 h4
 let u4 := (a0.fLists.getD p1.toNat default).fRules
 unfold M.model_checkPrefixLists_l1 at h4
 refine awp_seq (rg0 [1, 13, 14, 15, 16] 1 ⟨67, [(1, .ref 0 0), u1, (14, .int .i64 u2), (15, .int .i64 p1), (16, .bool (decide (p1 < u2)))], u3⟩ (then_n (awp_seq (cn h4 (fun _ h6 => ?_) (fun _ h7 => ?_)))))
 refine awp_skip (then_n (awp_seq (awp_block (awp_seq ?_))))
 obtain ⟨c8, h9⟩ := gd_some h6
 refine zc [1, 3, 4, 13, 14, 15] 2 c8 (then_n (awp_seq (awp_seq ?_)))
 obtain ⟨r3, q10, h11⟩ := bind_some h9
 obtain ⟨r4, q12, h13⟩ := bind_some h11
 refine zr [1, 4, 5, 13, 14, 15] 2 nil_all (rq1 (model_PrefixList_ok _ _ _ q10) (rq1 (model_checkList_ok _ _ _ _ _ _ q12) rqn)) (then_n (awp_seq (zg [1, 4, 5, 13, 14, 15, 32] 2 (then_n (cn h13 (fun _ h15 => ?_) (fun _ h16 => ?_))))))
 exact awp_seq (zg [2] 0 (then_n (awp_ret (then_r (inb_r (then_r (rr h15 ⟨rfl, er0 _⟩)))))))
 refine awp_skip (then_n (awp_seq (zg [1, 13, 14, 15, 35, 36, 37] 1 (then_n (awp_block ?_)))))
 obtain ⟨y8, q28, h29⟩ := bind_some h16
 refine zl (fun (p5 : Int) => ⟨67, [(1, .ref 0 0), u1, (14, .int .i64 u2), (15, .int .i64 p1), (35, sL 5 c_TPrefixRule u4), (36, .int .i64 (u4.length : Int)), (37, .int .i64 p5)], u3⟩) (Sum.elim (fun z => OutE 2 (fun z => ⟨67, [(1, .ref 0 0), u1, (14, .int .i64 u2), (15, .int .i64 p1)], u3⟩) z) (fun z => OutR Tryz.prog Tryz.f16 (.int .i64 z))) q28 ?_ ?_
 intro p5 y6 h17
 unfold M.model_checkPrefixLists_l2 at h17
 refine awp_seq (zg [1, 13, 14, 15, 35, 36, 37, 38] 1 (then_n (awp_seq (cn h17 (fun _ h19 => ?_) (fun _ h20 => ?_)))))
 refine awp_skip (then_n (awp_seq (awp_block (awp_seq ?_))))
 obtain ⟨c21, h22⟩ := gd_some h19
 refine zc [1, 7, 13, 14, 15, 35, 36, 37] 2 c21 (then_n (awp_seq ?_))
 obtain ⟨r7, q23, h24⟩ := bind_some h22
 refine zr [1, 13, 14, 15, 35, 36, 37, 64] 1 nil_all (rq1 (addr_Valid_ok _ _ q23) rqn) (then_n (cn h24 (fun _ h26 => ?_) (fun _ h27 => ?_)))
 exact awp_seq (zg [2] 0 (then_n (awp_ret (inb_r (then_r (rr h26 ⟨rfl, er0 _⟩))))))
 exact awp_skip (inb_n (then_n (zg [1, 13, 14, 15, 35, 36, 37] 1 (rn h27))))
 exact awp_exit (then_e (re h20 ⟨rfl, kq⟩))
 intro e30 s31 o32
 rcases y8 with g9 | y10
 have h33 := elim_l h29
 obtain ⟨rfl, l35⟩ := o32
 exact inb_here (inb_n (then_le (s' := ⟨67, [(1, .ref 0 0), u1, (14, .int .i64 u2), (15, .int .i64 p1)], u3⟩) (l35) (zg [1, 13, 14, 15] 1 (rn h33))))
 have h34 := elim_r h29
 obtain ⟨rfl, n36⟩ := o32
 exact inb_r (inb_r (then_r (rr h34 ⟨rfl, n36⟩)))
 refine awp_exit (then_e ?_)
 obtain rfl := Option.some.inj h7
 exact round_e ⟨rfl, Le.trans (s' := ⟨67, [], u3⟩) (kp []) (le_cut (n := 0) (by kernel_rfl))⟩
 intro e39 s40 o41
 rcases y11 with g12 | y13
 have h42 := elim_l h38
 exact zi o41 (awp_seq (zg [2] 0 (then_n (awp_ret (er1 h42)))))
 have h43 := elim_r h38
 obtain ⟨rfl, n45⟩ := o41
 refine inb_r (then_r ?_)
 obtain rfl := Option.some.inj h43
 exact n45
theorem model_RouteMap_1_ok (a0 : TRouteMap) (b0 : ByteArray) (r : Bool) (h : M.model_RouteMap_1 a0 b0 = some r) : Fn Tryz.prog 97 [.agg (c_TRouteMap a0), .pp (cs b0)] (.pure (.bool r)) := by
 unfold M.model_RouteMap_1 at h
 exact fn_pure Tryz.func97 rfl (by kernel_rfl) (awp_seq (zg [1, 2] 1 (then_n (awp_seq (zg [3] 0 (then_n (awp_ret (er1 h))))))))
theorem slices_IndexFunc_api_RouteMap_api_RouteMap__model_RouteMap_1_ok (a0 : List TRouteMap) (a1c0 : ByteArray) (r : Int) (h : M.slices_IndexFunc_api_RouteMap_api_RouteMap__model_RouteMap_1 a0 a1c0 = some r) : Fn Tryz.prog 96 [sL 2 c_TRouteMap a0, .fn 97 [.pp (cs a1c0)]] (.pure (.int .i64 r)) := by
 unfold M.slices_IndexFunc_api_RouteMap_api_RouteMap__model_RouteMap_1 at h
 refine fn_pure Tryz.func96 rfl (by kernel_rfl) (awp_seq (zg [0, 1] 0 (then_n (awp_seq (awp_seq (zg [0, 1, 7, 8] 0 (then_n (awp_block ?_))))))))
 obtain ⟨y4, q12, h13⟩ := bind_some h
 refine zl (fun (p1 : Int) => ⟨19, [(0, sL 2 c_TRouteMap a0), (1, .fn 97 [.pp (cs a1c0)]), (7, .int .i64 (a0.length : Int)), (8, .int .i64 p1)], []⟩) (Sum.elim (fun z => OutE 0 (fun z => ⟨19, [], []⟩) z) (fun z => OutR Tryz.prog Tryz.f96 (.int .i64 z))) q12 ?_ ?_
 intro p1 y2 h1
 unfold M.slices_IndexFunc_api_RouteMap_api_RouteMap__model_RouteMap_1_l1 at h1
 refine awp_seq (zg [0, 1, 7, 8, 9] 0 (then_n (awp_seq (cn h1 (fun _ h3 => ?_) (fun _ h4 => ?_)))))
 refine awp_skip (then_n (awp_seq (awp_block (awp_seq (zg [0, 1, 5, 7, 8] 0 (then_n (awp_seq ?_)))))))
 obtain ⟨r3, q5, h6⟩ := bind_some h3
 obtain ⟨c7, h8⟩ := gd_some h6
 refine zr [0, 1, 5, 7, 8, 16] 0 c7 (rq1 (model_RouteMap_1_ok _ _ _ q5) rqn) (then_n (cn h8 (fun _ h10 => ?_) (fun _ h11 => ?_)))
 exact awp_seq (zg [4] 0 (then_n (awp_ret (inb_r (then_r (rr h10 ⟨rfl, er0 _⟩))))))
 exact awp_skip (inb_n (then_n (zg [0, 1, 7, 8] 0 (rn h11))))
 exact awp_exit (then_e (re h4 ⟨rfl, kq⟩))
 intro e14 s15 o16
 rcases y4 with g5 | y6
 have h17 := elim_l h13
 exact zi o16 (awp_seq (zg [4] 0 (then_n (awp_ret (er1 h17)))))
 have h18 := elim_r h13
 obtain ⟨rfl, n20⟩ := o16
 refine inb_r (then_r ?_)
 obtain rfl := Option.some.inj h18
 exact n20
theorem model_RouteMap_ok (a0 : TRouter) (a1 : ByteArray) (r : Int) (h : M.model_RouteMap a0 a1 = some r) : Fn Tryz.prog 51 [.agg (c_TRouter a0), .str a1] (.pure (.int .i64 r)) := by
 unfold M.model_RouteMap at h
 refine fn_pure Tryz.func51 rfl (by kernel_rfl) (awp_seq (zg [2, 3] 2 (then_n (awp_seq ?_))))
 obtain ⟨r1, q1, h2⟩ := bind_some h
 exact zr [4] 0 nil_all (rq1 (slices_IndexFunc_api_RouteMap_api_RouteMap__model_RouteMap_1_ok _ _ _ q1) rqn) (then_n (awp_ret (er1 h2)))
theorem model_rightClause_ok (a0 : TClause) (r : Bool) (h : M.model_rightClause a0 = some r) : Fn Tryz.prog 52 [.agg (c_TClause a0)] (.pure (.bool r)) := by
 unfold M.model_rightClause at h
 refine fn_pure Tryz.func52 rfl (by kernel_rfl) (awp_seq (zg [1] 1 (then_n (awp_seq ?_))))
 obtain ⟨r1, q1, h2⟩ := bind_some h
 obtain ⟨r2, q3, h4⟩ := bind_some h2
 obtain ⟨r3, q5, h6⟩ := bind_some h4
 obtain ⟨r4, q7, h8⟩ := bind_some h6
 obtain ⟨r5, q9, h10⟩ := bind_some h8
 exact zr [2] 0 nil_all (rq1 (model_within_ok _ _ _ _ q1) (rq2 (fun hg => model_within_ok _ _ _ _ (gc_some q3 hg)) (rq2 (fun hg => model_within_ok _ _ _ _ (gc_some q5 hg)) (rq2 (fun hg => model_within_ok _ _ _ _ (gc_some q7 hg)) (rq2 (fun hg => model_within_ok _ _ _ _ (gc_some q9 hg)) rqn))))) (then_n (awp_ret (er1 h10)))
theorem model_checkRouteMaps_ok (a0 : TRouter) (r : Int) (h : M.model_checkRouteMaps a0 = some r) : Fn Tryz.prog 17 [.agg (c_TRouter a0)] (.pure (.int .i64 r)) := by
 let u1 : Nat × D := (13, sL 2 c_TRouteMap a0.fMaps)
 let u2 := (a0.fMaps.length : Int)
 let u3 : List Ob := [.box (c_TRouter a0)]
 unfold M.model_checkRouteMaps at h
 refine fn_pure Tryz.func17 rfl (by kernel_rfl) (awp_seq (zg [1] 1 (then_n (awp_seq (awp_seq (zg [1, 11] 1 (then_n (cn h (fun _ h2 => ?_) (fun _ h3 => ?_)))))))))
 exact awp_seq (zg [2] 0 (then_n (awp_ret (then_r (er1 h2)))))
 refine awp_skip (then_n (awp_seq (awp_seq (zg [1, 13, 14, 15] 1 (then_n (awp_block ?_))))))
 obtain ⟨y12, q42, h43⟩ := bind_some h3
 refine zl (fun (p1 : Int) => ⟨56, [(1, .ref 0 0), u1, (14, .int .i64 u2), (15, .int .i64 p1)], u3⟩) (Sum.elim (fun z => OutE 0 (fun z => ⟨56, [], []⟩) z) (fun z => OutR Tryz.prog Tryz.f17 (.int .i64 z))) q42 ?_ ?_
 intro p1 y2 h4
 let u4 := (a0.fMaps.getD p1.toNat default).fClauses
 unfold M.model_checkRouteMaps_l1 at h4
 refine awp_seq (rg0 [1, 13, 14, 15, 16] 1 ⟨56, [(1, .ref 0 0), u1, (14, .int .i64 u2), (15, .int .i64 p1), (16, .bool (decide (p1 < u2)))], u3⟩ (then_n (awp_seq (cn h4 (fun _ h6 => ?_) (fun _ h7 => ?_)))))
 refine awp_skip (then_n (awp_seq (awp_block (awp_seq ?_))))
 obtain ⟨c8, h9⟩ := gd_some h6
 refine zc [1, 3, 4, 13, 14, 15] 2 c8 (then_n (awp_seq (awp_seq ?_)))
 obtain ⟨r3, q10, h11⟩ := bind_some h9
 obtain ⟨r4, q12, h13⟩ := bind_some h11
 refine zr [1, 4, 5, 13, 14, 15] 2 nil_all (rq1 (model_RouteMap_ok _ _ _ q10) (rq1 (model_checkList_ok _ _ _ _ _ _ q12) rqn)) (then_n (awp_seq (zg [1, 4, 5, 13, 14, 15, 32] 2 (then_n (cn h13 (fun _ h15 => ?_) (fun _ h16 => ?_))))))
 exact awp_seq (zg [2] 0 (then_n (awp_ret (then_r (inb_r (then_r (rr h15 ⟨rfl, er0 _⟩)))))))
 refine awp_skip (then_n (awp_seq (zg [1, 13, 14, 15, 35, 36, 37] 1 (then_n (awp_block ?_)))))
 obtain ⟨y9, q33, h34⟩ := bind_some h16
 refine zl (fun (p5 : Int) => ⟨56, [(1, .ref 0 0), u1, (14, .int .i64 u2), (15, .int .i64 p1), (35, sL 7 c_TClause u4), (36, .int .i64 (u4.length : Int)), (37, .int .i64 p5)], u3⟩) (Sum.elim (fun z => OutE 2 (fun z => ⟨56, [(1, .ref 0 0), u1, (14, .int .i64 u2), (15, .int .i64 p1)], u3⟩) z) (fun z => OutR Tryz.prog Tryz.f17 (.int .i64 z))) q33 ?_ ?_
 intro p5 y6 h17
 unfold M.model_checkRouteMaps_l2 at h17
 refine awp_seq (zg [1, 13, 14, 15, 35, 36, 37, 38] 1 (then_n (awp_seq (cn h17 (fun _ h19 => ?_) (fun _ h20 => ?_)))))
 refine awp_skip (then_n (awp_seq (awp_block (awp_seq ?_))))
 obtain ⟨c21, h22⟩ := gd_some h19
 refine zc [1, 7, 13, 14, 15, 35, 36, 37] 2 c21 (then_n (awp_seq (awp_seq ?_)))
 obtain ⟨r7, q23, h24⟩ := bind_some h22
 refine zr [1, 7, 13, 14, 15, 35, 36, 37, 50] 2 nil_all (rq2 (fun hg => model_PrefixList_ok _ _ _ (gc_some q23 hg)) rqn) (then_n (cn h24 (fun _ h26 => ?_) (fun _ h27 => ?_)))
 exact awp_seq (zg [2] 0 (then_n (awp_ret (then_r (inb_r (then_r (rr h26 ⟨rfl, er0 _⟩)))))))
 refine awp_skip (then_n (awp_seq ?_))
 obtain ⟨r8, q28, h29⟩ := bind_some h27
 refine zr [1, 13, 14, 15, 35, 36, 37, 53] 1 nil_all (rq1 (model_rightClause_ok _ _ q28) rqn) (then_n (cn h29 (fun _ h31 => ?_) (fun _ h32 => ?_)))
 exact awp_seq (zg [2] 0 (then_n (awp_ret (inb_r (then_r (rr h31 ⟨rfl, er0 _⟩))))))
 exact awp_skip (inb_n (then_n (zg [1, 13, 14, 15, 35, 36, 37] 1 (rn h32))))
 exact awp_exit (then_e (re h20 ⟨rfl, kq⟩))
 intro e35 s36 o37
 rcases y9 with g10 | y11
 have h38 := elim_l h34
 obtain ⟨rfl, l40⟩ := o37
 exact inb_here (inb_n (then_le (s' := ⟨56, [(1, .ref 0 0), u1, (14, .int .i64 u2), (15, .int .i64 p1)], u3⟩) (l40) (zg [1, 13, 14, 15] 1 (rn h38))))
 have h39 := elim_r h34
 obtain ⟨rfl, n41⟩ := o37
 exact inb_r (inb_r (then_r (rr h39 ⟨rfl, n41⟩)))
 refine awp_exit (then_e ?_)
 obtain rfl := Option.some.inj h7
 exact round_e ⟨rfl, Le.trans (s' := ⟨56, [], u3⟩) (kp []) (le_cut (n := 0) (by kernel_rfl))⟩
 intro e44 s45 o46
 rcases y12 with g13 | y14
 have h47 := elim_l h43
 exact zi o46 (awp_seq (zg [2] 0 (then_n (awp_ret (er1 h47)))))
 have h48 := elim_r h43
 obtain ⟨rfl, n50⟩ := o46
 refine inb_r (then_r ?_)
 obtain rfl := Option.some.inj h48
 exact n50
theorem model_ACL_1_ok (a0 : TACL) (b0 : ByteArray) (r : Bool) (h : M.model_ACL_1 a0 b0 = some r) : Fn Tryz.prog 99 [.agg (c_TACL a0), .pp (cs b0)] (.pure (.bool r)) := by
 unfold M.model_ACL_1 at h
 exact fn_pure Tryz.func99 rfl (by kernel_rfl) (awp_seq (zg [1, 2] 1 (then_n (awp_seq (zg [3] 0 (then_n (awp_ret (er1 h))))))))
theorem slices_IndexFunc_api_ACL_api_ACL__model_ACL_1_ok (a0 : List TACL) (a1c0 : ByteArray) (r : Int) (h : M.slices_IndexFunc_api_ACL_api_ACL__model_ACL_1 a0 a1c0 = some r) : Fn Tryz.prog 98 [sL 2 c_TACL a0, .fn 99 [.pp (cs a1c0)]] (.pure (.int .i64 r)) := by
 unfold M.slices_IndexFunc_api_ACL_api_ACL__model_ACL_1 at h
 refine fn_pure Tryz.func98 rfl (by kernel_rfl) (awp_seq (zg [0, 1] 0 (then_n (awp_seq (awp_seq (zg [0, 1, 7, 8] 0 (then_n (awp_block ?_))))))))
 obtain ⟨y4, q12, h13⟩ := bind_some h
 refine zl (fun (p1 : Int) => ⟨19, [(0, sL 2 c_TACL a0), (1, .fn 99 [.pp (cs a1c0)]), (7, .int .i64 (a0.length : Int)), (8, .int .i64 p1)], []⟩) (Sum.elim (fun z => OutE 0 (fun z => ⟨19, [], []⟩) z) (fun z => OutR Tryz.prog Tryz.f98 (.int .i64 z))) q12 ?_ ?_
 intro p1 y2 h1
 unfold M.slices_IndexFunc_api_ACL_api_ACL__model_ACL_1_l1 at h1
 refine awp_seq (zg [0, 1, 7, 8, 9] 0 (then_n (awp_seq (cn h1 (fun _ h3 => ?_) (fun _ h4 => ?_)))))
 refine awp_skip (then_n (awp_seq (awp_block (awp_seq (zg [0, 1, 5, 7, 8] 0 (then_n (awp_seq ?_)))))))
 obtain ⟨r3, q5, h6⟩ := bind_some h3
 obtain ⟨c7, h8⟩ := gd_some h6
 refine zr [0, 1, 5, 7, 8, 16] 0 c7 (rq1 (model_ACL_1_ok _ _ _ q5) rqn) (then_n (cn h8 (fun _ h10 => ?_) (fun _ h11 => ?_)))
 exact awp_seq (zg [4] 0 (then_n (awp_ret (inb_r (then_r (rr h10 ⟨rfl, er0 _⟩))))))
 exact awp_skip (inb_n (then_n (zg [0, 1, 7, 8] 0 (rn h11))))
 exact awp_exit (then_e (re h4 ⟨rfl, kq⟩))
 intro e14 s15 o16
 rcases y4 with g5 | y6
 have h17 := elim_l h13
 exact zi o16 (awp_seq (zg [4] 0 (then_n (awp_ret (er1 h17)))))
 have h18 := elim_r h13
 obtain ⟨rfl, n20⟩ := o16
 refine inb_r (then_r ?_)
 obtain rfl := Option.some.inj h18
 exact n20
theorem model_ACL_ok (a0 : TRouter) (a1 : ByteArray) (r : Int) (h : M.model_ACL a0 a1 = some r) : Fn Tryz.prog 53 [.agg (c_TRouter a0), .str a1] (.pure (.int .i64 r)) := by
 unfold M.model_ACL at h
 refine fn_pure Tryz.func53 rfl (by kernel_rfl) (awp_seq (zg [2, 3] 2 (then_n (awp_seq ?_))))
 obtain ⟨r1, q1, h2⟩ := bind_some h
 exact zr [4] 0 nil_all (rq1 (slices_IndexFunc_api_ACL_api_ACL__model_ACL_1_ok _ _ _ q1) rqn) (then_n (awp_ret (er1 h2)))
theorem model_rightPorts_ok (a0 : TPortRange) (r : Bool) (h : M.model_rightPorts a0 = some r) : Fn Tryz.prog 100 [.agg (c_TPortRange a0)] (.pure (.bool r)) := by
 unfold M.model_rightPorts at h
 exact fn_pure Tryz.func100 rfl (by kernel_rfl) (awp_seq (zg [1] 1 (then_n (awp_seq (zg [2] 0 (then_n (awp_ret (er1 h))))))))
theorem model_rightRule_ok (a0 : TRule) (r : Bool) (h : M.model_rightRule a0 = some r) : Fn Tryz.prog 54 [.agg (c_TRule a0)] (.pure (.bool r)) := by
 unfold M.model_rightRule at h
 refine fn_pure Tryz.func54 rfl (by kernel_rfl) (awp_seq (zg [1] 1 (then_n (awp_seq (awp_seq ?_)))))
 obtain ⟨r1, q1, h2⟩ := bind_some h
 refine zr [1, 27] 1 nil_all (rq1 (model_within_ok _ _ _ _ q1) rqn) (then_n (cn h2 (fun _ h4 => ?_) (fun _ h5 => ?_)))
 exact awp_seq (zg [2] 0 (then_n (awp_ret (then_r (er1 h4)))))
 refine awp_skip (then_n (awp_seq (awp_seq ?_)))
 obtain ⟨r2, q6, h7⟩ := bind_some h5
 obtain ⟨r3, q8, h9⟩ := bind_some h7
 refine zr [1, 37] 1 nil_all (rq1 (model_rightPorts_ok _ _ q6) (rq2 (fun hg => model_rightPorts_ok _ _ (gc_some q8 hg)) rqn)) (then_n (cn h9 (fun _ h11 => ?_) (fun _ h12 => ?_)))
 exact awp_seq (zg [2] 0 (then_n (awp_ret (then_r (er1 h11)))))
 exact awp_skip (then_n (awp_seq (zg [1, 3] 2 (then_n (awp_seq (zg [2] 0 (then_n (awp_ret (er1 h12)))))))))
theorem model_checkACLs_ok (a0 : TRouter) (r : Int) (h : M.model_checkACLs a0 = some r) : Fn Tryz.prog 18 [.agg (c_TRouter a0)] (.pure (.int .i64 r)) := by
 let u1 := (a0.fACLs.length : Int)
 let u2 : Nat × D := (13, sL 2 c_TACL a0.fACLs)
 let u3 : List Ob := [.box (c_TRouter a0)]
 unfold M.model_checkACLs at h
 refine fn_pure Tryz.func18 rfl (by kernel_rfl) (awp_seq (zg [1] 1 (then_n (awp_seq (awp_seq (zg [1, 11] 1 (then_n (cn h (fun _ h2 => ?_) (fun _ h3 => ?_)))))))))
 exact awp_seq (zg [2] 0 (then_n (awp_ret (then_r (er1 h2)))))
 refine awp_skip (then_n (awp_seq (awp_seq (zg [1, 13, 14, 15] 1 (then_n (awp_block ?_))))))
 obtain ⟨y11, q37, h38⟩ := bind_some h3
 refine zl (fun (p1 : Int) => ⟨46, [(1, .ref 0 0), u2, (14, .int .i64 u1), (15, .int .i64 p1)], u3⟩) (Sum.elim (fun z => OutE 0 (fun z => ⟨46, [], []⟩) z) (fun z => OutR Tryz.prog Tryz.f18 (.int .i64 z))) q37 ?_ ?_
 intro p1 y2 h4
 let u4 := (a0.fACLs.getD p1.toNat default).fRules
 unfold M.model_checkACLs_l1 at h4
 refine awp_seq (rg0 [1, 13, 14, 15, 16] 1 ⟨46, [(1, .ref 0 0), u2, (14, .int .i64 u1), (15, .int .i64 p1), (16, .bool (decide (p1 < u1)))], u3⟩ (then_n (awp_seq (cn h4 (fun _ h6 => ?_) (fun _ h7 => ?_)))))
 refine awp_skip (then_n (awp_seq (awp_block (awp_seq ?_))))
 obtain ⟨c8, h9⟩ := gd_some h6
 refine zc [1, 3, 4, 13, 14, 15] 2 c8 (then_n (awp_seq (awp_seq ?_)))
 obtain ⟨r3, q10, h11⟩ := bind_some h9
 obtain ⟨r4, q12, h13⟩ := bind_some h11
 refine zr [1, 4, 5, 13, 14, 15] 2 nil_all (rq1 (model_ACL_ok _ _ _ q10) (rq1 (model_checkList_ok _ _ _ _ _ _ q12) rqn)) (then_n (awp_seq (zg [1, 4, 5, 13, 14, 15, 32] 2 (then_n (cn h13 (fun _ h15 => ?_) (fun _ h16 => ?_))))))
 exact awp_seq (zg [2] 0 (then_n (awp_ret (then_r (inb_r (then_r (rr h15 ⟨rfl, er0 _⟩)))))))
 refine awp_skip (then_n (awp_seq (zg [1, 13, 14, 15, 35, 36, 37] 1 (then_n (awp_block ?_)))))
 obtain ⟨y8, q28, h29⟩ := bind_some h16
 refine zl (fun (p5 : Int) => ⟨46, [(1, .ref 0 0), u2, (14, .int .i64 u1), (15, .int .i64 p1), (35, sL 10 c_TRule u4), (36, .int .i64 (u4.length : Int)), (37, .int .i64 p5)], u3⟩) (Sum.elim (fun z => OutE 2 (fun z => ⟨46, [(1, .ref 0 0), u2, (14, .int .i64 u1), (15, .int .i64 p1)], u3⟩) z) (fun z => OutR Tryz.prog Tryz.f18 (.int .i64 z))) q28 ?_ ?_
 intro p5 y6 h17
 unfold M.model_checkACLs_l2 at h17
 refine awp_seq (zg [1, 13, 14, 15, 35, 36, 37, 38] 1 (then_n (awp_seq (cn h17 (fun _ h19 => ?_) (fun _ h20 => ?_)))))
 refine awp_skip (then_n (awp_seq (awp_block (awp_seq ?_))))
 obtain ⟨c21, h22⟩ := gd_some h19
 refine zc [1, 7, 13, 14, 15, 35, 36, 37] 2 c21 (then_n (awp_seq ?_))
 obtain ⟨r7, q23, h24⟩ := bind_some h22
 refine zr [1, 13, 14, 15, 35, 36, 37, 43] 1 nil_all (rq1 (model_rightRule_ok _ _ q23) rqn) (then_n (cn h24 (fun _ h26 => ?_) (fun _ h27 => ?_)))
 exact awp_seq (zg [2] 0 (then_n (awp_ret (inb_r (then_r (rr h26 ⟨rfl, er0 _⟩))))))
 exact awp_skip (inb_n (then_n (zg [1, 13, 14, 15, 35, 36, 37] 1 (rn h27))))
 exact awp_exit (then_e (re h20 ⟨rfl, kq⟩))
 intro e30 s31 o32
 rcases y8 with g9 | y10
 have h33 := elim_l h29
 obtain ⟨rfl, l35⟩ := o32
 exact inb_here (inb_n (then_le (s' := ⟨46, [(1, .ref 0 0), u2, (14, .int .i64 u1), (15, .int .i64 p1)], u3⟩) (l35) (zg [1, 13, 14, 15] 1 (rn h33))))
 have h34 := elim_r h29
 obtain ⟨rfl, n36⟩ := o32
 exact inb_r (inb_r (then_r (rr h34 ⟨rfl, n36⟩)))
 refine awp_exit (then_e ?_)
 obtain rfl := Option.some.inj h7
 exact round_e ⟨rfl, Le.trans (s' := ⟨46, [], u3⟩) (kp []) (le_cut (n := 0) (by kernel_rfl))⟩
 intro e39 s40 o41
 rcases y11 with g12 | y13
 have h42 := elim_l h38
 exact zi o41 (awp_seq (zg [2] 0 (then_n (awp_ret (er1 h42)))))
 have h43 := elim_r h38
 obtain ⟨rfl, n45⟩ := o41
 refine inb_r (then_r ?_)
 obtain rfl := Option.some.inj h43
 exact n45
theorem model_rightTranslation_ok (a0 : TTranslation) (r : Bool) (h : M.model_rightTranslation a0 = some r) : Fn Tryz.prog 55 [.agg (c_TTranslation a0)] (.pure (.bool r)) := by
 unfold M.model_rightTranslation at h
 refine fn_pure Tryz.func55 rfl (by kernel_rfl) (awp_seq (zg [1] 1 (then_n (awp_seq (awp_seq (zg [1, 6] 1 (then_n (awp_block (awp_seq (zg [1, 6, 7] 1 (then_n (cn h (fun _ h2 => ?_) (fun _ h3 => ?_)))))))))))))
 exact awp_seq (zg [1, 3] 2 (then_n (awp_seq (zg [2] 0 (then_n (awp_ret (inb_r (then_r (er1 h2)))))))))
 refine awp_seq (zg [1, 6, 29] 1 (then_n (cn h3 (fun _ h5 => ?_) (fun _ h6 => ?_))))
 exact awp_seq (zg [1, 4] 2 (then_n (awp_seq (zg [2] 0 (then_n (awp_ret (inb_r (then_r (er1 h5)))))))))
 refine awp_seq (zg [1, 63] 1 (then_n (cn h6 (fun _ h8 => ?_) (fun _ h9 => ?_))))
 refine awp_seq ?_
 obtain ⟨r1, q10, h11⟩ := bind_some h8
 obtain ⟨r2, q12, h13⟩ := bind_some h11
 exact zr [2] 0 nil_all (rq2 (fun hg => model_within_ok _ _ _ _ (gc_some q10 hg)) (rq2 (fun hg => model_within_ok _ _ _ _ (gc_some q12 hg)) rqn)) (then_n (awp_ret (inb_r (then_r (er1 h13)))))
 exact awp_skip (inb_n (then_n (awp_seq (zg [2] 0 (then_n (awp_ret (er1 h9)))))))
theorem model_checkNAT_ok (a0 : TRouter) (r : Int) (h : M.model_checkNAT a0 = some r) : Fn Tryz.prog 19 [.agg (c_TRouter a0)] (.pure (.int .i64 r)) := by
 let u1 := (a0.fNAT.length : Int)
 let u2 : List Ob := [.box (c_TRouter a0)]
 unfold M.model_checkNAT at h
 refine fn_pure Tryz.func19 rfl (by kernel_rfl) (awp_seq (zg [1] 1 (then_n (awp_seq (awp_seq (zg [1, 8] 1 (then_n (cn h (fun _ h2 => ?_) (fun _ h3 => ?_)))))))))
 exact awp_seq (zg [2] 0 (then_n (awp_ret (then_r (er1 h2)))))
 refine awp_skip (then_n (awp_seq (awp_seq (zg [1, 10, 11, 12] 1 (then_n (awp_block ?_))))))
 obtain ⟨y5, q20, h21⟩ := bind_some h3
 refine zl (fun (p1 : Int) => ⟨30, [(1, .ref 0 0), (10, sL 9 c_TTranslation a0.fNAT), (11, .int .i64 u1), (12, .int .i64 p1)], u2⟩) (Sum.elim (fun z => OutE 0 (fun z => ⟨30, [], []⟩) z) (fun z => OutR Tryz.prog Tryz.f19 (.int .i64 z))) q20 ?_ ?_
 intro p1 y2 h4
 unfold M.model_checkNAT_l1 at h4
 refine awp_seq (rg0 [1, 10, 11, 12, 13] 1 ⟨30, [(1, .ref 0 0), (10, sL 9 c_TTranslation a0.fNAT), (11, .int .i64 u1), (12, .int .i64 p1), (13, .bool (decide (p1 < u1)))], u2⟩ (then_n (awp_seq (cn h4 (fun _ h6 => ?_) (fun _ h7 => ?_)))))
 refine awp_skip (then_n (awp_seq (awp_block (awp_seq ?_))))
 obtain ⟨c8, h9⟩ := gd_some h6
 refine zc [1, 4, 10, 11, 12] 2 c8 (then_n (awp_seq (awp_seq ?_)))
 obtain ⟨r3, q10, h11⟩ := bind_some h9
 refine zr [1, 4, 10, 11, 12, 18] 2 nil_all (rq1 (model_rightTranslation_ok _ _ q10) rqn) (then_n (cn h11 (fun _ h13 => ?_) (fun _ h14 => ?_)))
 exact awp_seq (zg [2] 0 (then_n (awp_ret (then_r (inb_r (then_r (rr h13 ⟨rfl, er0 _⟩)))))))
 refine awp_skip (then_n (awp_seq ?_))
 obtain ⟨r4, q15, h16⟩ := bind_some h14
 refine zr [1, 10, 11, 12, 28] 1 nil_all (rq2 (fun hg => model_ACL_ok _ _ _ (gc_some q15 hg)) rqn) (then_n (cn h16 (fun _ h18 => ?_) (fun _ h19 => ?_)))
 exact awp_seq (zg [2] 0 (then_n (awp_ret (inb_r (then_r (rr h18 ⟨rfl, er0 _⟩))))))
 exact awp_skip (inb_n (then_n (zg [1, 10, 11, 12] 1 (rn h19))))
 refine awp_exit (then_e ?_)
 obtain rfl := Option.some.inj h7
 exact round_e ⟨rfl, Le.trans (s' := ⟨30, [], u2⟩) (kp []) (le_cut (n := 0) (by kernel_rfl))⟩
 intro e22 s23 o24
 rcases y5 with g6 | y7
 have h25 := elim_l h21
 exact zi o24 (awp_seq (zg [2] 0 (then_n (awp_ret (er1 h25)))))
 have h26 := elim_r h21
 obtain ⟨rfl, n28⟩ := o24
 refine inb_r (then_r ?_)
 obtain rfl := Option.some.inj h26
 exact n28
theorem model_checkFilters_ok (a0 : TRouter) (r : Int) (h : M.model_checkFilters a0 = some r) : Fn Tryz.prog 20 [.agg (c_TRouter a0)] (.pure (.int .i64 r)) := by
 let u1 := (a0.fInterfaces.length : Int)
 let u2 : List Ob := [.box (c_TRouter a0)]
 let u3 : Nat × D := (6, sL 12 c_TInterface a0.fInterfaces)
 unfold M.model_checkFilters at h
 refine fn_pure Tryz.func20 rfl (by kernel_rfl) (awp_seq (zg [1] 1 (then_n (awp_seq (awp_seq (zg [1, 6, 7, 8] 1 (then_n (awp_block ?_))))))))
 obtain ⟨y5, q14, h15⟩ := bind_some h
 refine zl (fun (p1 : Int) => ⟨35, [(1, .ref 0 0), u3, (7, .int .i64 u1), (8, .int .i64 p1)], u2⟩) (Sum.elim (fun z => OutE 0 (fun z => ⟨35, [], []⟩) z) (fun z => OutR Tryz.prog Tryz.f20 (.int .i64 z))) q14 ?_ ?_
 intro p1 y2 h1
 unfold M.model_checkFilters_l1 at h1
 refine awp_seq (rg0 [1, 6, 7, 8, 9] 1 ⟨35, [(1, .ref 0 0), u3, (7, .int .i64 u1), (8, .int .i64 p1), (9, .bool (decide (p1 < u1)))], u2⟩ (then_n (awp_seq (cn h1 (fun _ h3 => ?_) (fun _ h4 => ?_)))))
 refine awp_skip (then_n (awp_seq (awp_block (awp_seq ?_))))
 obtain ⟨c5, h6⟩ := gd_some h3
 refine zc [1, 4, 6, 7, 8] 2 c5 (then_n (awp_seq ?_))
 obtain ⟨r3, q7, h8⟩ := bind_some h6
 obtain ⟨r4, q9, h10⟩ := bind_some h8
 refine zr [1, 6, 7, 8, 33] 1 nil_all (rq2 (fun hg => model_ACL_ok _ _ _ (gc_some q7 hg)) (rq2 (fun hg => model_ACL_ok _ _ _ (gc_some q9 hg)) rqn)) (then_n (cn h10 (fun _ h12 => ?_) (fun _ h13 => ?_)))
 exact awp_seq (zg [2] 0 (then_n (awp_ret (inb_r (then_r (rr h12 ⟨rfl, er0 _⟩))))))
 exact awp_skip (inb_n (then_n (zg [1, 6, 7, 8] 1 (rn h13))))
 refine awp_exit (then_e ?_)
 obtain rfl := Option.some.inj h4
 exact round_e ⟨rfl, Le.trans (s' := ⟨35, [], u2⟩) (kp []) (le_cut (n := 0) (by kernel_rfl))⟩
 intro e16 s17 o18
 rcases y5 with g6 | y7
 have h19 := elim_l h15
 exact zi o18 (awp_seq (zg [2] 0 (then_n (awp_ret (er1 h19)))))
 have h20 := elim_r h15
 obtain ⟨rfl, n22⟩ := o18
 refine inb_r (then_r ?_)
 obtain rfl := Option.some.inj h20
 exact n22
theorem model_Address_1_ok (a0 : TInterface) (b0 : Int) (r : Bool) (h : M.model_Address_1 a0 b0 = some r) : Fn Tryz.prog 88 [.agg (c_TInterface a0), .pp ((ci .u32) b0)] (.pure (.bool r)) := by
 unfold M.model_Address_1 at h
 exact fn_pure Tryz.func88 rfl (by kernel_rfl) (awp_seq (zg [1, 2] 1 (then_n (awp_seq (zg [3] 0 (then_n (awp_ret (er1 h))))))))
theorem slices_IndexFunc_api_Interface_api_Interface__model_Address_1_ok (a0 : List TInterface) (a1c0 : Int) (r : Int) (h : M.slices_IndexFunc_api_Interface_api_Interface__model_Address_1 a0 a1c0 = some r) : Fn Tryz.prog 86 [sL 12 c_TInterface a0, .fn 88 [.pp ((ci .u32) a1c0)]] (.pure (.int .i64 r)) := by
 unfold M.slices_IndexFunc_api_Interface_api_Interface__model_Address_1 at h
 refine fn_pure Tryz.func86 rfl (by kernel_rfl) (awp_seq (zg [0, 1] 0 (then_n (awp_seq (awp_seq (zg [0, 1, 7, 8] 0 (then_n (awp_block ?_))))))))
 obtain ⟨y4, q12, h13⟩ := bind_some h
 refine zl (fun (p1 : Int) => ⟨19, [(0, sL 12 c_TInterface a0), (1, .fn 88 [.pp ((ci .u32) a1c0)]), (7, .int .i64 (a0.length : Int)), (8, .int .i64 p1)], []⟩) (Sum.elim (fun z => OutE 0 (fun z => ⟨19, [], []⟩) z) (fun z => OutR Tryz.prog Tryz.f86 (.int .i64 z))) q12 ?_ ?_
 intro p1 y2 h1
 unfold M.slices_IndexFunc_api_Interface_api_Interface__model_Address_1_l1 at h1
 refine awp_seq (zg [0, 1, 7, 8, 9] 0 (then_n (awp_seq (cn h1 (fun _ h3 => ?_) (fun _ h4 => ?_)))))
 refine awp_skip (then_n (awp_seq (awp_block (awp_seq (zg [0, 1, 5, 7, 8] 0 (then_n (awp_seq ?_)))))))
 obtain ⟨r3, q5, h6⟩ := bind_some h3
 obtain ⟨c7, h8⟩ := gd_some h6
 refine zr [0, 1, 5, 7, 8, 16] 0 c7 (rq1 (model_Address_1_ok _ _ _ q5) rqn) (then_n (cn h8 (fun _ h10 => ?_) (fun _ h11 => ?_)))
 exact awp_seq (zg [4] 0 (then_n (awp_ret (inb_r (then_r (rr h10 ⟨rfl, er0 _⟩))))))
 exact awp_skip (inb_n (then_n (zg [0, 1, 7, 8] 0 (rn h11))))
 exact awp_exit (then_e (re h4 ⟨rfl, kq⟩))
 intro e14 s15 o16
 rcases y4 with g5 | y6
 have h17 := elim_l h13
 exact zi o16 (awp_seq (zg [4] 0 (then_n (awp_ret (er1 h17)))))
 have h18 := elim_r h13
 obtain ⟨rfl, n20⟩ := o16
 refine inb_r (then_r ?_)
 obtain rfl := Option.some.inj h18
 exact n20
theorem model_Address_ok (a0 : TRouter) (a1 : Int) (r : Int) (h : M.model_Address a0 a1 = some r) : Fn Tryz.prog 40 [.agg (c_TRouter a0), .int .u32 a1] (.pure (.int .i64 r)) := by
 unfold M.model_Address at h
 refine fn_pure Tryz.func40 rfl (by kernel_rfl) (awp_seq (zg [2, 3] 2 (then_n (awp_seq ?_))))
 obtain ⟨r1, q1, h2⟩ := bind_some h
 exact zr [4] 0 nil_all (rq1 (slices_IndexFunc_api_Interface_api_Interface__model_Address_1_ok _ _ _ q1) rqn) (then_n (awp_ret (er1 h2)))
theorem model_rightStatic_ok (a0 : TRouter) (a1 : TStaticRoute) (r : Bool) (h : M.model_rightStatic a0 a1 = some r) : Fn Tryz.prog 56 [.agg (c_TRouter a0), .agg (c_TStaticRoute a1)] (.pure (.bool r)) := by
 let u1 : Nat × D := (16, sL 1 cb ([a1.fNext != 0, !strEq a1.fIface (⟨#[]⟩ : ByteArray), a1.fDiscard] : List Bool))
 let u2 : List Ob := [.box (c_TRouter a0), .box (c_TStaticRoute a1)]
 unfold M.model_rightStatic at h
 refine fn_pure Tryz.func56 rfl (by kernel_rfl) (awp_seq (zg [2, 3] 2 (then_n (awp_seq (zg [2, 3, 5] 2 (then_n (awp_seq (awp_seq (rg0 [2, 3, 5, 16, 17, 18] 2 ⟨55, [(2, .ref 0 0), (3, .ref 1 0), (5, .int .i64 0), (16, .sl true 1 3 (fun i => List.take 1 (List.drop (i * 1) [.bool (a1.fNext != 0), .bool (!strEq a1.fIface (⟨#[]⟩ : ByteArray)), .bool a1.fDiscard]))), (17, .int .i64 3), (18, .int .i64 0)], u2⟩ (then_le (s' := ⟨55, [(2, .ref 0 0), (3, .ref 1 0), (5, .int .i64 0), u1, (17, .int .i64 3), (18, .int .i64 0)], u2⟩) (le_sub (.cons Sub.rfl (.cons Sub.rfl (.cons Sub.rfl (.cons (sub_sl rfl (fun i hi => match i, hi with | 0, _ => rfl | 1, _ => rfl | 2, _ => rfl | n + 3, h => absurd h (by omega))) (.cons Sub.rfl (.cons Sub.rfl .nil)))))) (.cons .rfl (.cons .rfl .nil))) (awp_block ?_)))))))))))
 obtain ⟨y4, q12, h13⟩ := bind_some h
 refine zl (fun (p1 : Int × Int) => ⟨55, [(2, .ref 0 0), (3, .ref 1 0), (5, .int .i64 p1.1), u1, (17, .int .i64 3), (18, .int .i64 p1.2)], u2⟩) (fun z => OutE 0 (fun z => ⟨55, [(2, .ref 0 0), (3, .ref 1 0), (5, .int .i64 z)], u2⟩) z) q12 ?_ ?_
 intro p1 y2 h1
 unfold M.model_rightStatic_l1 at h1
 refine awp_seq (rg0 [2, 3, 5, 16, 17, 18, 19] 2 ⟨55, [(2, .ref 0 0), (3, .ref 1 0), (5, .int .i64 p1.1), u1, (17, .int .i64 3), (18, .int .i64 p1.2), (19, .bool (decide (p1.2 < 3)))], u2⟩ (then_n (awp_seq (cn h1 (fun _ h3 => ?_) (fun _ h4 => ?_)))))
 refine awp_skip (then_n (awp_join (fun (p3 : Int) => ⟨55, [(2, .ref 0 0), (3, .ref 1 0), (5, .int .i64 p3), u1, (17, .int .i64 3), (18, .int .i64 p1.2)], u2⟩) (fun p3 => M.model_rightStatic_k1 p1 p3 = some y2) ?_ ?_))
 intro p3 h6
 unfold M.model_rightStatic_k1 at h6
 exact zg [2, 3, 5, 16, 17, 18] 2 (rn h6)
 intro k5
 refine awp_block (awp_seq ?_)
 obtain ⟨c7, h8⟩ := gd_some h3
 refine zc [2, 3, 5, 7, 16, 17, 18] 2 c7 (then_n (awp_seq (zg [2, 3, 5, 16, 17, 18, 22] 2 (then_n (cn h8 (fun _ h10 => ?_) (fun _ h11 => ?_))))))
 exact zg [2, 3, 5, 16, 17, 18] 2 (inb_n (then_le lk (k5 (wr .i64 (p1.1 + 1)) h10)))
 exact awp_skip (inb_n (then_le kq (k5 p1.1 h11)))
 exact awp_exit (then_e (re h4 ⟨rfl, kq⟩))
 intro e14 s15 o16
 refine zi o16 (awp_seq ?_)
 obtain ⟨r5, q18, h19⟩ := bind_some h13
 obtain ⟨r6, q20, h21⟩ := bind_some h19
 obtain ⟨r7, q22, h23⟩ := bind_some h21
 obtain ⟨r8, q24, h25⟩ := bind_some h23
 exact zr [4] 0 nil_all (rq1 (addr_Valid_ok _ _ q18) (rq2 (fun hg => model_Address_ok _ _ _ (gc_some q20 hg)) (rq2 (fun hg => model_within_ok _ _ _ _ (gc_some q22 hg)) (rq2 (fun hg => model_within_ok _ _ _ _ (gc_some q24 hg)) rqn)))) (then_n (awp_ret (er1 h25)))
theorem model_checkStatics_ok (a0 : TRouter) (r : Int) (h : M.model_checkStatics a0 = some r) : Fn Tryz.prog 21 [.agg (c_TRouter a0)] (.pure (.int .i64 r)) := by
 let u2 : Nat × D := (13, sL 7 c_TStaticRoute a0.fStatics)
 let u3 := (a0.fStatics.length : Int)
 let u5 := c_TRouter a0
 unfold M.model_checkStatics at h
 refine fn_pure Tryz.func21 rfl (by kernel_rfl) (awp_seq (zg [1] 1 (then_n (awp_seq (awp_seq (zg [1, 11] 1 (then_n (cn h (fun _ h2 => ?_) (fun _ h3 => ?_)))))))))
 exact awp_seq (zg [2] 0 (then_n (awp_ret (then_r (er1 h2)))))
 refine awp_skip (then_n (awp_seq (awp_seq (zg [1, 13, 14, 15] 1 (then_n (awp_block ?_))))))
 obtain ⟨y11, q50, h51⟩ := bind_some h3
 refine zl (fun (p1 : Int) => ⟨63, [(1, .ref 0 0), u2, (14, .int .i64 u3), (15, .int .i64 p1)], [.box u5]⟩) (Sum.elim (fun z => OutE 0 (fun z => ⟨63, [], []⟩) z) (fun z => OutR Tryz.prog Tryz.f21 (.int .i64 z))) q50 ?_ ?_
 intro p1 y2 h4
 let u6 := a0.fStatics.getD p1.toNat default
 let u1 : List Ob := [.box u5, .box (c_TStaticRoute u6)]
 let u4 : Nat × D := (43, sL 7 c_TStaticRoute ((a0.fStatics.drop 0).take (p1.toNat - 0)))
 unfold M.model_checkStatics_l1 at h4
 refine awp_seq (rg0 [1, 13, 14, 15, 16] 1 ⟨63, [(1, .ref 0 0), u2, (14, .int .i64 u3), (15, .int .i64 p1), (16, .bool (decide (p1 < u3)))], [.box u5]⟩ (then_n (awp_seq (cn h4 (fun _ h6 => ?_) (fun _ h7 => ?_)))))
 refine awp_skip (then_n (awp_seq (awp_block (awp_seq ?_))))
 obtain ⟨c8, h9⟩ := gd_some h6
 refine zc [1, 3, 4, 13, 14, 15] 2 c8 (then_n (awp_seq (awp_seq ?_)))
 obtain ⟨r3, q10, h11⟩ := bind_some h9
 refine rg [.pure (.bool r3)] [1, 3, 4, 13, 14, 15, 23] 2 ⟨63, [(1, .ref 0 0), (3, .int .i64 p1), (4, .ref 1 0), u2, (14, .int .i64 u3), (15, .int .i64 p1), (23, .bool (!r3))], u1⟩ [] [⟨true, 56, [.agg u5, .agg (c_TStaticRoute u6)], .pure (.bool r3)⟩] nil_all ⟨fun _ => model_rightStatic_ok a0 u6 r3 q10, trivial⟩ (then_n (cn h11 (fun _ h13 => ?_) (fun _ h14 => ?_)))
 exact awp_seq (zg [2] 0 (then_n (awp_ret (then_r (inb_r (then_r (rr h13 ⟨rfl, er0 _⟩)))))))
 refine awp_skip (then_n (awp_join (fun (p4 : Unit) => ⟨63, [(1, .ref 0 0), (3, .int .i64 p1), (4, .ref 1 0), u2, (14, .int .i64 u3), (15, .int .i64 p1)], u1⟩) (fun p4 => M.model_checkStatics_k1 a0 p1 p4 = some y2) ?_ ?_))
 intro p4 h16
 unfold M.model_checkStatics_k1 at h16
 refine awp_seq ?_
 obtain ⟨c17, h18⟩ := gd_some h16
 refine rgc [1, 4, 13, 14, 15, 43, 44, 45] 2 ⟨63, [(1, .ref 0 0), (4, .ref 1 0), u2, (14, .int .i64 u3), (15, .int .i64 p1), (43, .sl false 7 (p1.toNat - 0) (fun i => c_TStaticRoute (a0.fStatics.getD (0 + i) default))), (44, .int .i64 ((p1.toNat - 0 : Nat) : Int)), (45, .int .i64 0)], u1⟩ [decide (0 ≤ p1), decide (p1 ≤ u3)] c17 (then_le (s' := ⟨63, [(1, .ref 0 0), (4, .ref 1 0), u2, (14, .int .i64 u3), (15, .int .i64 p1), u4, (44, .int .i64 ((p1.toNat - 0 : Nat) : Int)), (45, .int .i64 0)], u1⟩) (le_sub (.cons Sub.rfl (.cons Sub.rfl (.cons Sub.rfl (.cons Sub.rfl (.cons Sub.rfl (.cons (sub_sl (len_cut _ _ _ (cut_hi (c17 _ (List.mem_cons_of_mem _ List.mem_cons_self)))) (cut_ext _ _ _ _)) (.cons Sub.rfl (.cons Sub.rfl .nil)))))))) (.cons .rfl (.cons .rfl .nil))) (awp_block ?_))
 obtain ⟨y7, q28, h29⟩ := bind_some h18
 refine zl (fun (p5 : Int) => ⟨63, [(1, .ref 0 0), (4, .ref 1 0), u2, (14, .int .i64 u3), (15, .int .i64 p1), u4, (44, .int .i64 ((p1.toNat - 0 : Nat) : Int)), (45, .int .i64 p5)], u1⟩) (Sum.elim (fun z => OutE 2 (fun z => ⟨63, [(1, .ref 0 0), u2, (14, .int .i64 u3), (15, .int .i64 p1)], [.box u5]⟩) z) (fun z => OutR Tryz.prog Tryz.f21 (.int .i64 z))) q28 ?_ ?_
 intro p5 y6 h19
 unfold M.model_checkStatics_l2 at h19
 refine awp_seq (rg0 [1, 4, 13, 14, 15, 43, 44, 45, 46] 2 ⟨63, [(1, .ref 0 0), (4, .ref 1 0), u2, (14, .int .i64 u3), (15, .int .i64 p1), u4, (44, .int .i64 ((p1.toNat - 0 : Nat) : Int)), (45, .int .i64 p5), (46, .bool (decide (p5 < ((p1.toNat - 0 : Nat) : Int))))], u1⟩ (then_n (awp_seq (cn h19 (fun _ h21 => ?_) (fun _ h22 => ?_)))))
 refine awp_skip (then_n (awp_seq (awp_block (awp_seq ?_))))
 obtain ⟨c23, h24⟩ := gd_some h21
 refine zc [1, 4, 7, 13, 14, 15, 43, 44, 45] 3 c23 (then_n (awp_seq (zg [1, 4, 13, 14, 15, 43, 44, 45, 60] 2 (then_n (cn h24 (fun _ h26 => ?_) (fun _ h27 => ?_))))))
 exact awp_seq (zg [2] 0 (then_n (awp_ret (inb_r (then_r (rr h26 ⟨rfl, er0 _⟩))))))
 exact awp_skip (inb_n (then_n (zg [1, 4, 13, 14, 15, 43, 44, 45] 2 (rn h27))))
 refine awp_exit (then_e ?_)
 obtain rfl := Option.some.inj h22
 exact round_e ⟨rfl, Le.trans (s' := ⟨63, [(1, .ref 0 0), u2, (14, .int .i64 u3), (15, .int .i64 p1)], u1⟩) (kp [1, 13, 14, 15]) (le_cut (n := 1) (by kernel_rfl))⟩
 intro e30 s31 o32
 rcases y7 with g8 | y9
 have h33 := elim_l h29
 obtain ⟨rfl, l35⟩ := o32
 exact inb_here (inb_n (then_le (s' := ⟨63, [(1, .ref 0 0), u2, (14, .int .i64 u3), (15, .int .i64 p1)], [.box u5]⟩) (l35) (zg [1, 13, 14, 15] 1 (rn h33))))
 have h34 := elim_r h29
 obtain ⟨rfl, n36⟩ := o32
 exact inb_r (inb_r (then_r (rr h34 ⟨rfl, n36⟩)))
 intro k15
 refine awp_seq (zg [1, 3, 4, 13, 14, 15, 26] 2 (then_n (cn h14 (fun _ h38 => ?_) (fun _ h39 => ?_))))
 refine awp_seq ?_
 obtain ⟨r10, q40, h41⟩ := bind_some h38
 refine zr [1, 3, 4, 5, 13, 14, 15] 2 nil_all (rq1 (model_Interface_ok _ _ _ q40) rqn) (then_n (awp_seq (awp_seq (zg [1, 3, 4, 5, 13, 14, 15, 32] 2 (then_n (cn h41 (fun _ h43 => ?_) (fun _ h44 => ?_)))))))
 exact awp_seq (zg [2] 0 (then_n (awp_ret (then_r (then_r (inb_r (then_r (rr h43 ⟨rfl, er0 _⟩))))))))
 refine awp_skip (then_n (awp_seq ?_))
 obtain ⟨c45, h46⟩ := gd_some h44
 refine zc [1, 3, 4, 13, 14, 15, 39] 2 c45 (then_n (cn h46 (fun _ h48 => ?_) (fun _ h49 => ?_)))
 exact awp_seq (zg [2] 0 (then_n (awp_ret (then_r (inb_r (then_r (rr h48 ⟨rfl, er0 _⟩)))))))
 exact awp_skip (then_le kq (k15 () h49))
 exact awp_skip (then_le kq (k15 () h39))
 refine awp_exit (then_e ?_)
 obtain rfl := Option.some.inj h7
 exact round_e ⟨rfl, Le.trans (s' := ⟨63, [], [.box u5]⟩) (kp []) (le_cut (n := 0) (by kernel_rfl))⟩
 intro e52 s53 o54
 rcases y11 with g12 | y13
 have h55 := elim_l h51
 exact zi o54 (awp_seq (zg [2] 0 (then_n (awp_ret (er1 h55)))))
 have h56 := elim_r h51
 obtain ⟨rfl, n58⟩ := o54
 refine inb_r (then_r ?_)
 obtain rfl := Option.some.inj h56
 exact n58
theorem model_checkRedist_ok (a0 : TRouter) (a1 : List TRedist) (a2 : Int) (a3 : Int) (a4 : Int) (a5 : Int) (r : Int) (h : M.model_checkRedist a0 a1 a2 a3 a4 a5 = some r) : Fn Tryz.prog 57 [.agg (c_TRouter a0), sL 5 c_TRedist a1, .int .i64 a2, .int .i64 a3, .int .i64 a4, .int .i64 a5] (.pure (.int .i64 r)) := by
 let u2 : Nat × D := (20, sL 5 c_TRedist a1)
 let u3 : Nat × D := (1, sL 5 c_TRedist a1)
 let u4 := (a1.length : Int)
 let u6 : List Ob := [.box (c_TRouter a0)]
 let u7 : Nat × D := (14, .ref 1 0)
 unfold M.model_checkRedist at h
 refine fn_pure Tryz.func57 rfl (by kernel_rfl) (awp_seq (zg [1, 2, 3, 4, 5, 6] 1 (then_n (awp_seq (awp_seq (zg [1, 2, 3, 4, 5, 6, 19] 1 (then_n (cn h (fun _ h2 => ?_) (fun _ h3 => ?_)))))))))
 exact awp_seq (zg [12] 0 (then_n (awp_ret (then_r (er1 h2)))))
 refine awp_skip (then_n (awp_seq (awp_seq (zg [1, 2, 3, 4, 5, 6, 20, 21, 22] 1 (then_n (awp_block ?_))))))
 obtain ⟨y13, q46, h47⟩ := bind_some h3
 refine zl (fun (p1 : Int) => ⟨85, [u3, (2, .int .i64 a2), (3, .int .i64 a3), (4, .int .i64 a4), (5, .int .i64 a5), (6, .ref 0 0), u2, (21, .int .i64 u4), (22, .int .i64 p1)], u6⟩) (Sum.elim (fun z => OutE 0 (fun z => ⟨85, [], []⟩) z) (fun z => OutR Tryz.prog Tryz.f57 (.int .i64 z))) q46 ?_ ?_
 intro p1 y2 h4
 let u1 : List Ob := [.box (c_TRouter a0), .box (c_TRedist (a1.getD p1.toNat default))]
 let u5 : Nat × D := (72, sL 5 c_TRedist ((a1.drop 0).take (p1.toNat - 0)))
 unfold M.model_checkRedist_l1 at h4
 refine awp_seq (rg0 [1, 2, 3, 4, 5, 6, 20, 21, 22, 23] 1 ⟨85, [u3, (2, .int .i64 a2), (3, .int .i64 a3), (4, .int .i64 a4), (5, .int .i64 a5), (6, .ref 0 0), u2, (21, .int .i64 u4), (22, .int .i64 p1), (23, .bool (decide (p1 < u4)))], u6⟩ (then_n (awp_seq (cn h4 (fun _ h6 => ?_) (fun _ h7 => ?_)))))
 refine awp_skip (then_n (awp_seq (awp_block (awp_seq ?_))))
 obtain ⟨c8, h9⟩ := gd_some h6
 refine zc [1, 2, 3, 4, 5, 6, 13, 14, 20, 21, 22] 2 c8 (then_n (awp_seq (awp_seq ?_)))
 obtain ⟨r3, q10, h11⟩ := bind_some h9
 obtain ⟨r4, q12, h13⟩ := bind_some h11
 obtain ⟨r5, q14, h15⟩ := bind_some h13
 obtain ⟨r6, q16, h17⟩ := bind_some h15
 refine zr [1, 2, 3, 4, 5, 6, 13, 14, 20, 21, 22, 59] 2 nil_all (rq1 (model_within_ok _ _ _ _ q10) (rq2 (fun hg => model_within_ok _ _ _ _ (gc_some q12 hg)) (rq2 (fun hg => model_within_ok _ _ _ _ (gc_some q14 hg)) (rq2 (fun hg => model_within_ok _ _ _ _ (gc_some q16 hg)) rqn)))) (then_n (cn h17 (fun _ h19 => ?_) (fun _ h20 => ?_)))
 exact awp_seq (zg [12] 0 (then_n (awp_ret (then_r (inb_r (then_r (rr h19 ⟨rfl, er0 _⟩)))))))
 refine awp_skip (then_n (awp_seq (awp_seq ?_)))
 obtain ⟨r7, q21, h22⟩ := bind_some h20
 refine zr [1, 2, 3, 4, 5, 6, 13, 14, 20, 21, 22, 69] 2 nil_all (rq2 (fun hg => model_RouteMap_ok _ _ _ (gc_some q21 hg)) rqn) (then_n (cn h22 (fun _ h24 => ?_) (fun _ h25 => ?_)))
 exact awp_seq (zg [12] 0 (then_n (awp_ret (then_r (inb_r (then_r (rr h24 ⟨rfl, er0 _⟩)))))))
 refine awp_skip (then_n (awp_seq ?_))
 obtain ⟨c26, h27⟩ := gd_some h25
 refine rgc [1, 2, 3, 4, 5, 6, 14, 20, 21, 22, 72, 73, 74] 2 ⟨85, [u3, (2, .int .i64 a2), (3, .int .i64 a3), (4, .int .i64 a4), (5, .int .i64 a5), (6, .ref 0 0), u7, u2, (21, .int .i64 u4), (22, .int .i64 p1), (72, .sl false 5 (p1.toNat - 0) (fun i => c_TRedist (a1.getD (0 + i) default))), (73, .int .i64 ((p1.toNat - 0 : Nat) : Int)), (74, .int .i64 0)], u1⟩ [decide (0 ≤ p1), decide (p1 ≤ u4)] c26 (then_le (s' := ⟨85, [u3, (2, .int .i64 a2), (3, .int .i64 a3), (4, .int .i64 a4), (5, .int .i64 a5), (6, .ref 0 0), u7, u2, (21, .int .i64 u4), (22, .int .i64 p1), u5, (73, .int .i64 ((p1.toNat - 0 : Nat) : Int)), (74, .int .i64 0)], u1⟩) (le_sub (.cons Sub.rfl (.cons Sub.rfl (.cons Sub.rfl (.cons Sub.rfl (.cons Sub.rfl (.cons Sub.rfl (.cons Sub.rfl (.cons Sub.rfl (.cons Sub.rfl (.cons Sub.rfl (.cons (sub_sl (len_cut _ _ _ (cut_hi (c26 _ (List.mem_cons_of_mem _ List.mem_cons_self)))) (cut_ext _ _ _ _)) (.cons Sub.rfl (.cons Sub.rfl .nil))))))))))))) (.cons .rfl (.cons .rfl .nil))) (awp_block ?_))
 obtain ⟨y10, q37, h38⟩ := bind_some h27
 refine zl (fun (p8 : Int) => ⟨85, [u3, (2, .int .i64 a2), (3, .int .i64 a3), (4, .int .i64 a4), (5, .int .i64 a5), (6, .ref 0 0), u7, u2, (21, .int .i64 u4), (22, .int .i64 p1), u5, (73, .int .i64 ((p1.toNat - 0 : Nat) : Int)), (74, .int .i64 p8)], u1⟩) (Sum.elim (fun z => OutE 2 (fun z => ⟨85, [u3, (2, .int .i64 a2), (3, .int .i64 a3), (4, .int .i64 a4), (5, .int .i64 a5), (6, .ref 0 0), u2, (21, .int .i64 u4), (22, .int .i64 p1)], u6⟩) z) (fun z => OutR Tryz.prog Tryz.f57 (.int .i64 z))) q37 ?_ ?_
 intro p8 y9 h28
 unfold M.model_checkRedist_l2 at h28
 refine awp_seq (rg0 [1, 2, 3, 4, 5, 6, 14, 20, 21, 22, 72, 73, 74, 75] 2 ⟨85, [u3, (2, .int .i64 a2), (3, .int .i64 a3), (4, .int .i64 a4), (5, .int .i64 a5), (6, .ref 0 0), u7, u2, (21, .int .i64 u4), (22, .int .i64 p1), u5, (73, .int .i64 ((p1.toNat - 0 : Nat) : Int)), (74, .int .i64 p8), (75, .bool (decide (p8 < ((p1.toNat - 0 : Nat) : Int))))], u1⟩ (then_n (awp_seq (cn h28 (fun _ h30 => ?_) (fun _ h31 => ?_)))))
 refine awp_skip (then_n (awp_seq (awp_block (awp_seq ?_))))
 obtain ⟨c32, h33⟩ := gd_some h30
 refine zc [1, 2, 3, 4, 5, 6, 14, 16, 20, 21, 22, 72, 73, 74] 3 c32 (then_n (awp_seq (zg [1, 2, 3, 4, 5, 6, 14, 20, 21, 22, 72, 73, 74, 82] 2 (then_n (cn h33 (fun _ h35 => ?_) (fun _ h36 => ?_))))))
 exact awp_seq (zg [12] 0 (then_n (awp_ret (inb_r (then_r (rr h35 ⟨rfl, er0 _⟩))))))
 exact awp_skip (inb_n (then_n (zg [1, 2, 3, 4, 5, 6, 14, 20, 21, 22, 72, 73, 74] 2 (rn h36))))
 refine awp_exit (then_e ?_)
 obtain rfl := Option.some.inj h31
 exact round_e ⟨rfl, Le.trans (s' := ⟨85, [u3, (2, .int .i64 a2), (3, .int .i64 a3), (4, .int .i64 a4), (5, .int .i64 a5), (6, .ref 0 0), u2, (21, .int .i64 u4), (22, .int .i64 p1)], u1⟩) (kp [1, 2, 3, 4, 5, 6, 20, 21, 22]) (le_cut (n := 1) (by kernel_rfl))⟩
 intro e39 s40 o41
 rcases y10 with g11 | y12
 have h42 := elim_l h38
 obtain ⟨rfl, l44⟩ := o41
 exact inb_here (inb_n (then_le (s' := ⟨85, [u3, (2, .int .i64 a2), (3, .int .i64 a3), (4, .int .i64 a4), (5, .int .i64 a5), (6, .ref 0 0), u2, (21, .int .i64 u4), (22, .int .i64 p1)], u6⟩) (l44) (zg [1, 2, 3, 4, 5, 6, 20, 21, 22] 1 (rn h42))))
 have h43 := elim_r h38
 obtain ⟨rfl, n45⟩ := o41
 exact inb_r (inb_r (then_r (rr h43 ⟨rfl, n45⟩)))
 refine awp_exit (then_e ?_)
 obtain rfl := Option.some.inj h7
 exact round_e ⟨rfl, Le.trans (s' := ⟨85, [], u6⟩) (kp []) (le_cut (n := 0) (by kernel_rfl))⟩
 intro e48 s49 o50
 rcases y13 with g14 | y15
 have h51 := elim_l h47
 exact zi o50 (awp_seq (zg [12] 0 (then_n (awp_ret (er1 h51)))))
 have h52 := elim_r h47
 obtain ⟨rfl, n54⟩ := o50
 refine inb_r (then_r ?_)
 obtain rfl := Option.some.inj h52
 exact n54
theorem model_checkLinkState_ok (a0 : TRouter) (r : Int) (h : M.model_checkLinkState a0 = some r) : Fn Tryz.prog 22 [.agg (c_TRouter a0)] (.pure (.int .i64 r)) := by
 let u2 : Nat × D := (37, sL 3 c_TAreaRange a0.fLS.fRanges)
 let u3 := (a0.fLS.fRanges.length : Int)
 let u4 : List Ob := [.box (c_TRouter a0), .box (c_TLinkState a0.fLS)]
 unfold M.model_checkLinkState at h
 refine fn_pure Tryz.func22 rfl (by kernel_rfl) (awp_seq (zg [1] 1 (then_n (awp_seq (zg [1, 3] 2 (then_n (awp_seq (awp_seq (zg [1, 3, 12] 2 (then_n (cn h (fun _ h2 => ?_) (fun _ h3 => ?_))))))))))))
 refine awp_seq (awp_seq (zg [27] 0 (then_n (cn h2 (fun _ h5 => ?_) (fun _ h6 => ?_)))))
 exact awp_seq (zg [2] 0 (then_n (awp_ret (then_r (then_r (er1 h5))))))
 exact awp_skip (then_n (awp_seq (zg [2] 0 (then_n (awp_ret (then_r (er1 h6)))))))
 refine awp_skip (then_n (awp_seq (awp_seq ?_)))
 obtain ⟨r1, q7, h8⟩ := bind_some h3
 refine zr [1, 3, 31] 2 nil_all (rq1 (model_within_ok _ _ _ _ q7) rqn) (then_n (cn h8 (fun _ h10 => ?_) (fun _ h11 => ?_)))
 exact awp_seq (zg [2] 0 (then_n (awp_ret (then_r (er1 h10)))))
 refine awp_skip (then_n (awp_seq (awp_seq (zg [1, 3, 35] 2 (then_n (cn h11 (fun _ h13 => ?_) (fun _ h14 => ?_)))))))
 exact awp_seq (zg [2] 0 (then_n (awp_ret (then_r (er1 h13)))))
 refine awp_skip (then_n (awp_seq (awp_seq (zg [1, 3, 37, 38, 39] 2 (then_n (awp_block ?_))))))
 obtain ⟨y12, q50, h51⟩ := bind_some h14
 refine zl (fun (p2 : Int) => ⟨81, [(1, .ref 0 0), (3, .ref 1 0), u2, (38, .int .i64 u3), (39, .int .i64 p2)], u4⟩) (Sum.elim (fun z => OutE 0 (fun z => ⟨81, [(1, .ref 0 0), (3, .ref 1 0)], u4⟩) z) (fun z => OutR Tryz.prog Tryz.f22 (.int .i64 z))) q50 ?_ ?_
 intro p2 y3 h15
 let u1 : List Ob := [.box (c_TRouter a0), .box (c_TLinkState a0.fLS), .box (c_TAreaRange (a0.fLS.fRanges.getD p2.toNat default))]
 let u5 : Nat × D := (57, sL 3 c_TAreaRange ((a0.fLS.fRanges.drop 0).take (p2.toNat - 0)))
 unfold M.model_checkLinkState_l1 at h15
 refine awp_seq (zg [1, 3, 37, 38, 39, 40] 2 (then_n (awp_seq (cn h15 (fun _ h17 => ?_) (fun _ h18 => ?_)))))
 refine awp_skip (then_n (awp_seq (awp_block (awp_seq ?_))))
 obtain ⟨c19, h20⟩ := gd_some h17
 refine zc [1, 3, 4, 5, 37, 38, 39] 3 c19 (then_n (awp_seq (awp_seq ?_)))
 obtain ⟨r4, q21, h22⟩ := bind_some h20
 obtain ⟨r5, q23, h24⟩ := bind_some h22
 refine zr [1, 3, 4, 5, 37, 38, 39, 53] 3 nil_all (rq1 (model_within_ok _ _ _ _ q21) (rq2 (fun hg => addr_Valid_ok _ _ (gc_some q23 hg)) rqn)) (then_n (cn h24 (fun _ h26 => ?_) (fun _ h27 => ?_)))
 exact awp_seq (zg [2] 0 (then_n (awp_ret (then_r (inb_r (then_r (rr h26 ⟨rfl, er0 _⟩)))))))
 refine awp_skip (then_n (awp_seq ?_))
 obtain ⟨c28, h29⟩ := gd_some h27
 refine rgc [1, 3, 5, 37, 38, 39, 57, 58, 59] 3 ⟨81, [(1, .ref 0 0), (3, .ref 1 0), (5, .ref 2 0), u2, (38, .int .i64 u3), (39, .int .i64 p2), (57, .sl false 3 (p2.toNat - 0) (fun i => c_TAreaRange (a0.fLS.fRanges.getD (0 + i) default))), (58, .int .i64 ((p2.toNat - 0 : Nat) : Int)), (59, .int .i64 0)], u1⟩ [decide (0 ≤ p2), decide (p2 ≤ u3)] c28 (then_le (s' := ⟨81, [(1, .ref 0 0), (3, .ref 1 0), (5, .ref 2 0), u2, (38, .int .i64 u3), (39, .int .i64 p2), u5, (58, .int .i64 ((p2.toNat - 0 : Nat) : Int)), (59, .int .i64 0)], u1⟩) (le_sub (.cons Sub.rfl (.cons Sub.rfl (.cons Sub.rfl (.cons Sub.rfl (.cons Sub.rfl (.cons Sub.rfl (.cons (sub_sl (len_cut _ _ _ (cut_hi (c28 _ (List.mem_cons_of_mem _ List.mem_cons_self)))) (cut_ext _ _ _ _)) (.cons Sub.rfl (.cons Sub.rfl .nil))))))))) (.cons .rfl (.cons .rfl (.cons .rfl .nil)))) (awp_block ?_))
 obtain ⟨y9, q41, h42⟩ := bind_some h29
 refine zl (fun (p6 : Int) => ⟨81, [(1, .ref 0 0), (3, .ref 1 0), (5, .ref 2 0), u2, (38, .int .i64 u3), (39, .int .i64 p2), u5, (58, .int .i64 ((p2.toNat - 0 : Nat) : Int)), (59, .int .i64 p6)], u1⟩) (Sum.elim (fun z => OutE 2 (fun z => ⟨81, [(1, .ref 0 0), (3, .ref 1 0), u2, (38, .int .i64 u3), (39, .int .i64 p2)], u4⟩) z) (fun z => OutR Tryz.prog Tryz.f22 (.int .i64 z))) q41 ?_ ?_
 intro p6 y7 h30
 unfold M.model_checkLinkState_l2 at h30
 refine awp_seq (rg0 [1, 3, 5, 37, 38, 39, 57, 58, 59, 60] 3 ⟨81, [(1, .ref 0 0), (3, .ref 1 0), (5, .ref 2 0), u2, (38, .int .i64 u3), (39, .int .i64 p2), u5, (58, .int .i64 ((p2.toNat - 0 : Nat) : Int)), (59, .int .i64 p6), (60, .bool (decide (p6 < ((p2.toNat - 0 : Nat) : Int))))], u1⟩ (then_n (awp_seq (cn h30 (fun _ h32 => ?_) (fun _ h33 => ?_)))))
 refine awp_skip (then_n (awp_seq (awp_block (awp_seq ?_))))
 obtain ⟨c34, h35⟩ := gd_some h32
 refine zc [1, 3, 5, 7, 37, 38, 39, 57, 58, 59] 4 c34 (then_n (awp_seq ?_))
 obtain ⟨r8, q36, h37⟩ := bind_some h35
 refine zr [1, 3, 5, 37, 38, 39, 57, 58, 59, 74] 3 nil_all (rq2 (fun hg => addr_Overlaps_ok _ _ _ (gc_some q36 hg)) rqn) (then_n (cn h37 (fun _ h39 => ?_) (fun _ h40 => ?_)))
 exact awp_seq (zg [2] 0 (then_n (awp_ret (inb_r (then_r (rr h39 ⟨rfl, er0 _⟩))))))
 exact awp_skip (inb_n (then_n (zg [1, 3, 5, 37, 38, 39, 57, 58, 59] 3 (rn h40))))
 refine awp_exit (then_e ?_)
 obtain rfl := Option.some.inj h33
 exact round_e ⟨rfl, Le.trans (s' := ⟨81, [(1, .ref 0 0), (3, .ref 1 0), u2, (38, .int .i64 u3), (39, .int .i64 p2)], u1⟩) (kp [1, 3, 37, 38, 39]) (le_cut (n := 2) (by kernel_rfl))⟩
 intro e43 s44 o45
 rcases y9 with g10 | y11
 have h46 := elim_l h42
 obtain ⟨rfl, l48⟩ := o45
 exact inb_here (inb_n (then_le (s' := ⟨81, [(1, .ref 0 0), (3, .ref 1 0), u2, (38, .int .i64 u3), (39, .int .i64 p2)], u4⟩) (l48) (zg [1, 3, 37, 38, 39] 2 (rn h46))))
 have h47 := elim_r h42
 obtain ⟨rfl, n49⟩ := o45
 exact inb_r (inb_r (then_r (rr h47 ⟨rfl, n49⟩)))
 exact awp_exit (then_e (re h18 ⟨rfl, kq⟩))
 intro e52 s53 o54
 rcases y12 with g13 | y14
 have h55 := elim_l h51
 refine zi o54 (awp_seq ?_)
 obtain ⟨r15, q58, h59⟩ := bind_some h55
 exact zr [2] 0 nil_all (rq1 (model_checkRedist_ok _ _ _ _ _ _ _ q58) rqn) (then_n (awp_ret (er1 h59)))
 have h56 := elim_r h51
 obtain ⟨rfl, n60⟩ := o54
 refine inb_r (then_r ?_)
 obtain rfl := Option.some.inj h56
 exact n60
theorem model_checkDistanceVector_ok (a0 : TRouter) (r : Int) (h : M.model_checkDistanceVector a0 = some r) : Fn Tryz.prog 23 [.agg (c_TRouter a0)] (.pure (.int .i64 r)) := by
 unfold M.model_checkDistanceVector at h
 refine fn_pure Tryz.func23 rfl (by kernel_rfl) (awp_seq (zg [1] 1 (then_n (awp_seq (zg [1, 3] 2 (then_n (awp_seq (awp_seq (zg [1, 3, 8] 2 (then_n (cn h (fun _ h2 => ?_) (fun _ h3 => ?_))))))))))))
 refine awp_seq (awp_seq (zg [27] 0 (then_n (cn h2 (fun _ h5 => ?_) (fun _ h6 => ?_)))))
 exact awp_seq (zg [2] 0 (then_n (awp_ret (then_r (then_r (er1 h5))))))
 exact awp_skip (then_n (awp_seq (zg [2] 0 (then_n (awp_ret (then_r (er1 h6)))))))
 refine awp_skip (then_n (awp_seq (awp_seq ?_)))
 obtain ⟨r1, q7, h8⟩ := bind_some h3
 refine zr [1, 3, 31] 2 nil_all (rq1 (model_within_ok _ _ _ _ q7) rqn) (then_n (cn h8 (fun _ h10 => ?_) (fun _ h11 => ?_)))
 exact awp_seq (zg [2] 0 (then_n (awp_ret (then_r (er1 h10)))))
 refine awp_skip (then_n (awp_seq (awp_seq ?_)))
 obtain ⟨r2, q12, h13⟩ := bind_some h11
 obtain ⟨r3, q14, h15⟩ := bind_some h13
 refine zr [1, 3, 53] 2 nil_all (rq2 (fun hg => model_PrefixList_ok _ _ _ (gc_some q12 hg)) (rq2 (fun hg => model_PrefixList_ok _ _ _ (gc_some q14 hg)) rqn)) (then_n (cn h15 (fun _ h17 => ?_) (fun _ h18 => ?_)))
 exact awp_seq (zg [2] 0 (then_n (awp_ret (then_r (er1 h17)))))
 refine awp_skip (then_n (awp_seq ?_))
 obtain ⟨r4, q19, h20⟩ := bind_some h18
 exact zr [2] 0 nil_all (rq1 (model_checkRedist_ok _ _ _ _ _ _ _ q19) rqn) (then_n (awp_ret (er1 h20)))
theorem model_checkNeighbors_ok (a0 : TRouter) (r : Int) (h : M.model_checkNeighbors a0 = some r) : Fn Tryz.prog 58 [.agg (c_TRouter a0)] (.pure (.int .i64 r)) := by
 let u2 := (a0.fPV.fNeighbors.length : Int)
 let u3 : Nat × D := (14, sL 4 c_TNeighbor a0.fPV.fNeighbors)
 let u5 : List Ob := [.box (c_TRouter a0)]
 unfold M.model_checkNeighbors at h
 refine fn_pure Tryz.func58 rfl (by kernel_rfl) (awp_seq (zg [1] 1 (then_n (awp_seq (awp_seq (zg [1, 11] 1 (then_n (cn h (fun _ h2 => ?_) (fun _ h3 => ?_)))))))))
 exact awp_seq (zg [2] 0 (then_n (awp_ret (then_r (er1 h2)))))
 refine awp_skip (then_n (awp_seq (awp_seq (zg [1, 14, 15, 16] 1 (then_n (awp_block ?_))))))
 obtain ⟨y11, q42, h43⟩ := bind_some h3
 refine zl (fun (p1 : Int) => ⟨69, [(1, .ref 0 0), u3, (15, .int .i64 u2), (16, .int .i64 p1)], u5⟩) (Sum.elim (fun z => OutE 0 (fun z => ⟨69, [], []⟩) z) (fun z => OutR Tryz.prog Tryz.f58 (.int .i64 z))) q42 ?_ ?_
 intro p1 y2 h4
 let u1 : List Ob := [.box (c_TRouter a0), .box (c_TNeighbor (a0.fPV.fNeighbors.getD p1.toNat default))]
 let u4 : Nat × D := (56, sL 4 c_TNeighbor ((a0.fPV.fNeighbors.drop 0).take (p1.toNat - 0)))
 unfold M.model_checkNeighbors_l1 at h4
 refine awp_seq (rg0 [1, 14, 15, 16, 17] 1 ⟨69, [(1, .ref 0 0), u3, (15, .int .i64 u2), (16, .int .i64 p1), (17, .bool (decide (p1 < u2)))], u5⟩ (then_n (awp_seq (cn h4 (fun _ h6 => ?_) (fun _ h7 => ?_)))))
 refine awp_skip (then_n (awp_seq (awp_block (awp_seq ?_))))
 obtain ⟨c8, h9⟩ := gd_some h6
 refine zc [1, 3, 4, 14, 15, 16] 2 c8 (then_n (awp_seq (awp_seq ?_)))
 obtain ⟨r3, q10, h11⟩ := bind_some h9
 refine zr [1, 3, 4, 14, 15, 16, 29] 2 nil_all (rq2 (fun hg => model_within_ok _ _ _ _ (gc_some q10 hg)) rqn) (then_n (cn h11 (fun _ h13 => ?_) (fun _ h14 => ?_)))
 exact awp_seq (zg [2] 0 (then_n (awp_ret (then_r (inb_r (then_r (rr h13 ⟨rfl, er0 _⟩)))))))
 refine awp_skip (then_n (awp_seq (awp_seq ?_)))
 obtain ⟨r4, q15, h16⟩ := bind_some h14
 obtain ⟨r5, q17, h18⟩ := bind_some h16
 refine zr [1, 3, 4, 14, 15, 16, 51] 2 nil_all (rq2 (fun hg => model_RouteMap_ok _ _ _ (gc_some q15 hg)) (rq2 (fun hg => model_RouteMap_ok _ _ _ (gc_some q17 hg)) rqn)) (then_n (cn h18 (fun _ h20 => ?_) (fun _ h21 => ?_)))
 exact awp_seq (zg [2] 0 (then_n (awp_ret (then_r (inb_r (then_r (rr h20 ⟨rfl, er0 _⟩)))))))
 refine awp_skip (then_n (awp_seq ?_))
 obtain ⟨c22, h23⟩ := gd_some h21
 refine rgc [1, 4, 14, 15, 16, 56, 57, 58] 2 ⟨69, [(1, .ref 0 0), (4, .ref 1 0), u3, (15, .int .i64 u2), (16, .int .i64 p1), (56, .sl false 4 (p1.toNat - 0) (fun i => c_TNeighbor (a0.fPV.fNeighbors.getD (0 + i) default))), (57, .int .i64 ((p1.toNat - 0 : Nat) : Int)), (58, .int .i64 0)], u1⟩ [decide (0 ≤ p1), decide (p1 ≤ u2)] c22 (then_le (s' := ⟨69, [(1, .ref 0 0), (4, .ref 1 0), u3, (15, .int .i64 u2), (16, .int .i64 p1), u4, (57, .int .i64 ((p1.toNat - 0 : Nat) : Int)), (58, .int .i64 0)], u1⟩) (le_sub (.cons Sub.rfl (.cons Sub.rfl (.cons Sub.rfl (.cons Sub.rfl (.cons Sub.rfl (.cons (sub_sl (len_cut _ _ _ (cut_hi (c22 _ (List.mem_cons_of_mem _ List.mem_cons_self)))) (cut_ext _ _ _ _)) (.cons Sub.rfl (.cons Sub.rfl .nil)))))))) (.cons .rfl (.cons .rfl .nil))) (awp_block ?_))
 obtain ⟨y8, q33, h34⟩ := bind_some h23
 refine zl (fun (p6 : Int) => ⟨69, [(1, .ref 0 0), (4, .ref 1 0), u3, (15, .int .i64 u2), (16, .int .i64 p1), u4, (57, .int .i64 ((p1.toNat - 0 : Nat) : Int)), (58, .int .i64 p6)], u1⟩) (Sum.elim (fun z => OutE 2 (fun z => ⟨69, [(1, .ref 0 0), u3, (15, .int .i64 u2), (16, .int .i64 p1)], u5⟩) z) (fun z => OutR Tryz.prog Tryz.f58 (.int .i64 z))) q33 ?_ ?_
 intro p6 y7 h24
 unfold M.model_checkNeighbors_l2 at h24
 refine awp_seq (rg0 [1, 4, 14, 15, 16, 56, 57, 58, 59] 2 ⟨69, [(1, .ref 0 0), (4, .ref 1 0), u3, (15, .int .i64 u2), (16, .int .i64 p1), u4, (57, .int .i64 ((p1.toNat - 0 : Nat) : Int)), (58, .int .i64 p6), (59, .bool (decide (p6 < ((p1.toNat - 0 : Nat) : Int))))], u1⟩ (then_n (awp_seq (cn h24 (fun _ h26 => ?_) (fun _ h27 => ?_)))))
 refine awp_skip (then_n (awp_seq (awp_block (awp_seq ?_))))
 obtain ⟨c28, h29⟩ := gd_some h26
 refine zc [1, 4, 6, 14, 15, 16, 56, 57, 58] 3 c28 (then_n (awp_seq (zg [1, 4, 14, 15, 16, 56, 57, 58, 66] 2 (then_n (cn h29 (fun _ h31 => ?_) (fun _ h32 => ?_))))))
 exact awp_seq (zg [2] 0 (then_n (awp_ret (inb_r (then_r (rr h31 ⟨rfl, er0 _⟩))))))
 exact awp_skip (inb_n (then_n (zg [1, 4, 14, 15, 16, 56, 57, 58] 2 (rn h32))))
 refine awp_exit (then_e ?_)
 obtain rfl := Option.some.inj h27
 exact round_e ⟨rfl, Le.trans (s' := ⟨69, [(1, .ref 0 0), u3, (15, .int .i64 u2), (16, .int .i64 p1)], u1⟩) (kp [1, 14, 15, 16]) (le_cut (n := 1) (by kernel_rfl))⟩
 intro e35 s36 o37
 rcases y8 with g9 | y10
 have h38 := elim_l h34
 obtain ⟨rfl, l40⟩ := o37
 exact inb_here (inb_n (then_le (s' := ⟨69, [(1, .ref 0 0), u3, (15, .int .i64 u2), (16, .int .i64 p1)], u5⟩) (l40) (zg [1, 14, 15, 16] 1 (rn h38))))
 have h39 := elim_r h34
 obtain ⟨rfl, n41⟩ := o37
 exact inb_r (inb_r (then_r (rr h39 ⟨rfl, n41⟩)))
 refine awp_exit (then_e ?_)
 obtain rfl := Option.some.inj h7
 exact round_e ⟨rfl, Le.trans (s' := ⟨69, [], u5⟩) (kp []) (le_cut (n := 0) (by kernel_rfl))⟩
 intro e44 s45 o46
 rcases y11 with g12 | y13
 have h47 := elim_l h43
 exact zi o46 (awp_seq (zg [2] 0 (then_n (awp_ret (er1 h47)))))
 have h48 := elim_r h43
 obtain ⟨rfl, n50⟩ := o46
 refine inb_r (then_r ?_)
 obtain rfl := Option.some.inj h48
 exact n50
theorem slices_Index_api_Prefix_api_Prefix_ok (a0 : List TPrefix) (a1 : TPrefix) (r : Int) (h : M.slices_Index_api_Prefix_api_Prefix a0 a1 = some r) : Fn Tryz.prog 114 [sL 2 c_TPrefix a0, .agg (c_TPrefix a1)] (.pure (.int .i64 r)) := by
 let u1 : List Ob := [.box (c_TPrefix a1)]
 let u2 := (a0.length : Int)
 unfold M.slices_Index_api_Prefix_api_Prefix at h
 refine fn_pure Tryz.func114 rfl (by kernel_rfl) (awp_seq (zg [0, 3] 1 (then_n (awp_seq (awp_seq (zg [0, 3, 7, 8] 1 (then_n (awp_block ?_))))))))
 obtain ⟨y3, q10, h11⟩ := bind_some h
 refine zl (fun (p1 : Int) => ⟨19, [(0, sL 2 c_TPrefix a0), (3, .ref 0 0), (7, .int .i64 u2), (8, .int .i64 p1)], u1⟩) (Sum.elim (fun z => OutE 0 (fun z => ⟨19, [], []⟩) z) (fun z => OutR Tryz.prog Tryz.f114 (.int .i64 z))) q10 ?_ ?_
 intro p1 y2 h1
 unfold M.slices_Index_api_Prefix_api_Prefix_l1 at h1
 refine awp_seq (rg0 [0, 3, 7, 8, 9] 1 ⟨19, [(0, sL 2 c_TPrefix a0), (3, .ref 0 0), (7, .int .i64 u2), (8, .int .i64 p1), (9, .bool (decide (p1 < u2)))], u1⟩ (then_n (awp_seq (cn h1 (fun _ h3 => ?_) (fun _ h4 => ?_)))))
 refine awp_skip (then_n (awp_seq (awp_block (awp_seq (zg [0, 3, 5, 7, 8] 1 (then_n (awp_seq ?_)))))))
 obtain ⟨c5, h6⟩ := gd_some h3
 refine zc [0, 3, 5, 7, 8, 16] 1 c5 (then_n (cn h6 (fun _ h8 => ?_) (fun _ h9 => ?_)))
 exact awp_seq (zg [4] 0 (then_n (awp_ret (inb_r (then_r (rr h8 ⟨rfl, er0 _⟩))))))
 exact awp_skip (inb_n (then_n (zg [0, 3, 7, 8] 1 (rn h9))))
 refine awp_exit (then_e ?_)
 obtain rfl := Option.some.inj h4
 exact round_e ⟨rfl, Le.trans (s' := ⟨19, [], u1⟩) (kp []) (le_cut (n := 0) (by kernel_rfl))⟩
 intro e12 s13 o14
 rcases y3 with g4 | y5
 have h15 := elim_l h11
 exact zi o14 (awp_seq (zg [4] 0 (then_n (awp_ret (er1 h15)))))
 have h16 := elim_r h11
 obtain ⟨rfl, n18⟩ := o14
 refine inb_r (then_r ?_)
 obtain rfl := Option.some.inj h16
 exact n18
theorem slices_Contains_api_Prefix_api_Prefix_ok (a0 : List TPrefix) (a1 : TPrefix) (r : Bool) (h : M.slices_Contains_api_Prefix_api_Prefix a0 a1 = some r) : Fn Tryz.prog 101 [sL 2 c_TPrefix a0, .agg (c_TPrefix a1)] (.pure (.bool r)) := by
 unfold M.slices_Contains_api_Prefix_api_Prefix at h
 refine fn_pure Tryz.func101 rfl (by kernel_rfl) (awp_seq (zg [0, 3] 1 (then_n (awp_seq ?_))))
 obtain ⟨r1, q1, h2⟩ := bind_some h
 exact zr [4] 0 nil_all (rq1 (slices_Index_api_Prefix_api_Prefix_ok _ _ _ q1) rqn) (then_n (awp_ret (er1 h2)))
theorem model_checkOrigins_ok (a0 : TPathVector) (r : Int) (h : M.model_checkOrigins a0 = some r) : Fn Tryz.prog 59 [.agg (c_TPathVector a0)] (.pure (.int .i64 r)) := by
 let u3 : Nat × D := (72, sL 5 c_TCondition a0.fConditions)
 let u4 := (a0.fConditions.length : Int)
 let u5 : Nat × D := (40, sL 3 c_TAggregate a0.fAggregates)
 let u12 := c_TPathVector a0
 let u6 : List Ob := [.box u12]
 let u7 := (a0.fAggregates.length : Int)
 let u10 := (a0.fNetworks.length : Int)
 let u13 : St := ⟨110, [(1, .ref 0 0)], u6⟩
 let u14 : Nat × D := (10, .ref 1 0)
 unfold M.model_checkOrigins at h
 refine fn_pure Tryz.func59 rfl (by kernel_rfl) (awp_seq (zg [1] 1 (then_n (awp_seq (awp_seq (zg [1, 16] 1 (then_n (cn h (fun _ h2 => ?_) (fun _ h3 => ?_)))))))))
 exact awp_seq (zg [2] 0 (then_n (awp_ret (then_r (er1 h2)))))
 refine awp_skip (then_n (awp_seq (awp_seq (zg [1, 18, 19, 20] 1 (then_n (awp_block ?_))))))
 obtain ⟨y5, q22, h23⟩ := bind_some h3
 refine zl (fun (p1 : Int) => ⟨110, [(1, .ref 0 0), (18, sL 2 c_TPrefix a0.fNetworks), (19, .int .i64 u10), (20, .int .i64 p1)], u6⟩) (Sum.elim (fun z => OutE 0 (fun z => u13) z) (fun z => OutR Tryz.prog Tryz.f59 (.int .i64 z))) q22 ?_ ?_
 intro p1 y2 h4
 let u11 := a0.fNetworks.getD p1.toNat default
 unfold M.model_checkOrigins_l1 at h4
 refine awp_seq (zg [1, 18, 19, 20, 21] 1 (then_n (awp_seq (cn h4 (fun _ h6 => ?_) (fun _ h7 => ?_)))))
 refine awp_skip (then_n (awp_seq (awp_block (awp_seq ?_))))
 obtain ⟨c8, h9⟩ := gd_some h6
 refine zc [1, 3, 4, 18, 19, 20] 2 c8 (then_n (awp_seq (awp_seq ?_)))
 obtain ⟨r3, q10, h11⟩ := bind_some h9
 refine zr [1, 3, 4, 18, 19, 20, 27] 2 nil_all (rq1 (addr_Valid_ok _ _ q10) rqn) (then_n (cn h11 (fun _ h13 => ?_) (fun _ h14 => ?_)))
 exact awp_seq (zg [2] 0 (then_n (awp_ret (then_r (inb_r (then_r (rr h13 ⟨rfl, er0 _⟩)))))))
 refine awp_skip (then_n (awp_seq ?_))
 obtain ⟨r4, q15, h16⟩ := bind_some h14
 obtain ⟨c17, h18⟩ := gd_some h16
 refine rg [.pure (.bool r4)] [1, 18, 19, 20, 33] 1 ⟨110, [(1, .ref 0 0), (18, sL 2 c_TPrefix a0.fNetworks), (19, .int .i64 u10), (20, .int .i64 p1), (33, .bool r4)], u6⟩ [decide (0 ≤ p1), decide (p1 ≤ u10)] [⟨true, 101, [.sl false 2 (p1.toNat - 0) (fun i => c_TPrefix (a0.fNetworks.getD (0 + i) default)), .agg (c_TPrefix u11)], .pure (.bool r4)⟩] c17 ⟨fun _ => (slices_Contains_api_Prefix_api_Prefix_ok ((a0.fNetworks.drop 0).take (p1.toNat - 0)) u11 r4 q15).args (.cons (asub_sl (len_cut _ _ _ (cut_hi (c17 _ (List.mem_cons_of_mem _ List.mem_cons_self)))) (cut_ext _ _ _ _)) (.cons ASub.rfl .nil)), trivial⟩ (then_n (cn h18 (fun _ h20 => ?_) (fun _ h21 => ?_)))
 exact awp_seq (zg [2] 0 (then_n (awp_ret (inb_r (then_r (rr h20 ⟨rfl, er0 _⟩))))))
 exact awp_skip (inb_n (then_n (zg [1, 18, 19, 20] 1 (rn h21))))
 exact awp_exit (then_e (re h7 ⟨rfl, kq⟩))
 intro e24 s25 o26
 rcases y5 with g6 | y7
 have h27 := elim_l h23
 refine zi o26 (awp_seq (awp_seq (zg [1, 38] 1 (then_n (cn h27 (fun _ h31 => ?_) (fun _ h32 => ?_))))))
 exact awp_seq (zg [2] 0 (then_n (awp_ret (then_r (er1 h31)))))
 refine awp_skip (then_n (awp_seq (awp_seq (zg [1, 40, 41, 42] 1 (then_n (awp_block ?_))))))
 obtain ⟨y16, q64, h65⟩ := bind_some h32
 refine zl (fun (p8 : Int) => ⟨110, [(1, .ref 0 0), u5, (41, .int .i64 u7), (42, .int .i64 p8)], u6⟩) (Sum.elim (fun z => OutE 2 (fun z => u13) z) (fun z => OutR Tryz.prog Tryz.f59 (.int .i64 z))) q64 ?_ ?_
 intro p8 y9 h33
 let u2 : List Ob := [.box u12, .box (c_TAggregate (a0.fAggregates.getD p8.toNat default))]
 let u9 : Nat × D := (54, sL 3 c_TAggregate ((a0.fAggregates.drop 0).take (p8.toNat - 0)))
 unfold M.model_checkOrigins_l2 at h33
 refine awp_seq (zg [1, 40, 41, 42, 43] 1 (then_n (awp_seq (cn h33 (fun _ h35 => ?_) (fun _ h36 => ?_)))))
 refine awp_skip (then_n (awp_seq (awp_block (awp_seq ?_))))
 obtain ⟨c37, h38⟩ := gd_some h35
 refine zc [1, 5, 6, 40, 41, 42] 2 c37 (then_n (awp_seq (awp_seq ?_)))
 obtain ⟨r10, q39, h40⟩ := bind_some h38
 refine zr [1, 5, 6, 40, 41, 42, 50] 2 nil_all (rq1 (addr_Valid_ok _ _ q39) rqn) (then_n (cn h40 (fun _ h42 => ?_) (fun _ h43 => ?_)))
 exact awp_seq (zg [2] 0 (then_n (awp_ret (then_r (inb_r (then_r (rr h42 ⟨rfl, er0 _⟩)))))))
 refine awp_skip (then_n (awp_seq ?_))
 obtain ⟨c44, h45⟩ := gd_some h43
 refine rgc [1, 6, 40, 41, 42, 54, 55, 56] 2 ⟨110, [(1, .ref 0 0), (6, .ref 1 0), u5, (41, .int .i64 u7), (42, .int .i64 p8), (54, .sl false 3 (p8.toNat - 0) (fun i => c_TAggregate (a0.fAggregates.getD (0 + i) default))), (55, .int .i64 ((p8.toNat - 0 : Nat) : Int)), (56, .int .i64 0)], u2⟩ [decide (0 ≤ p8), decide (p8 ≤ u7)] c44 (then_le (s' := ⟨110, [(1, .ref 0 0), (6, .ref 1 0), u5, (41, .int .i64 u7), (42, .int .i64 p8), u9, (55, .int .i64 ((p8.toNat - 0 : Nat) : Int)), (56, .int .i64 0)], u2⟩) (le_sub (.cons Sub.rfl (.cons Sub.rfl (.cons Sub.rfl (.cons Sub.rfl (.cons Sub.rfl (.cons (sub_sl (len_cut _ _ _ (cut_hi (c44 _ (List.mem_cons_of_mem _ List.mem_cons_self)))) (cut_ext _ _ _ _)) (.cons Sub.rfl (.cons Sub.rfl .nil)))))))) (.cons .rfl (.cons .rfl .nil))) (awp_block ?_))
 obtain ⟨y13, q55, h56⟩ := bind_some h45
 refine zl (fun (p11 : Int) => ⟨110, [(1, .ref 0 0), (6, .ref 1 0), u5, (41, .int .i64 u7), (42, .int .i64 p8), u9, (55, .int .i64 ((p8.toNat - 0 : Nat) : Int)), (56, .int .i64 p11)], u2⟩) (Sum.elim (fun z => OutE 4 (fun z => ⟨110, [(1, .ref 0 0), u5, (41, .int .i64 u7), (42, .int .i64 p8)], u6⟩) z) (fun z => OutR Tryz.prog Tryz.f59 (.int .i64 z))) q55 ?_ ?_
 intro p11 y12 h46
 unfold M.model_checkOrigins_l3 at h46
 refine awp_seq (rg0 [1, 6, 40, 41, 42, 54, 55, 56, 57] 2 ⟨110, [(1, .ref 0 0), (6, .ref 1 0), u5, (41, .int .i64 u7), (42, .int .i64 p8), u9, (55, .int .i64 ((p8.toNat - 0 : Nat) : Int)), (56, .int .i64 p11), (57, .bool (decide (p11 < ((p8.toNat - 0 : Nat) : Int))))], u2⟩ (then_n (awp_seq (cn h46 (fun _ h48 => ?_) (fun _ h49 => ?_)))))
 refine awp_skip (then_n (awp_seq (awp_block (awp_seq ?_))))
 obtain ⟨c50, h51⟩ := gd_some h48
 refine zc [1, 6, 8, 40, 41, 42, 54, 55, 56] 3 c50 (then_n (awp_seq (zg [1, 6, 40, 41, 42, 54, 55, 56, 64] 2 (then_n (cn h51 (fun _ h53 => ?_) (fun _ h54 => ?_))))))
 exact awp_seq (zg [2] 0 (then_n (awp_ret (inb_r (then_r (rr h53 ⟨rfl, er0 _⟩))))))
 exact awp_skip (inb_n (then_n (zg [1, 6, 40, 41, 42, 54, 55, 56] 2 (rn h54))))
 refine awp_exit (then_e ?_)
 obtain rfl := Option.some.inj h49
 exact round_e ⟨rfl, Le.trans (s' := ⟨110, [(1, .ref 0 0), u5, (41, .int .i64 u7), (42, .int .i64 p8)], u2⟩) (kp [1, 40, 41, 42]) (le_cut (n := 1) (by kernel_rfl))⟩
 intro e57 s58 o59
 rcases y13 with g14 | y15
 have h60 := elim_l h56
 obtain ⟨rfl, l62⟩ := o59
 exact inb_here (inb_n (then_le (s' := ⟨110, [(1, .ref 0 0), u5, (41, .int .i64 u7), (42, .int .i64 p8)], u6⟩) (l62) (zg [1, 40, 41, 42] 1 (rn h60))))
 have h61 := elim_r h56
 obtain ⟨rfl, n63⟩ := o59
 exact inb_r (inb_r (then_r (rr h61 ⟨rfl, n63⟩)))
 exact awp_exit (then_e (re h36 ⟨rfl, kq⟩))
 intro e66 s67 o68
 rcases y16 with g17 | y18
 have h69 := elim_l h65
 refine zi o68 (awp_seq (awp_seq (zg [1, 70] 1 (then_n (cn h69 (fun _ h73 => ?_) (fun _ h74 => ?_))))))
 exact awp_seq (zg [2] 0 (then_n (awp_ret (then_r (er1 h73)))))
 refine awp_skip (then_n (awp_seq (awp_seq (zg [1, 72, 73, 74] 1 (then_n (awp_block ?_))))))
 obtain ⟨y28, q111, h112⟩ := bind_some h74
 refine zl (fun (p19 : Int) => ⟨110, [(1, .ref 0 0), u3, (73, .int .i64 u4), (74, .int .i64 p19)], u6⟩) (Sum.elim (fun z => OutE 6 (fun z => ⟨110, [], []⟩) z) (fun z => OutR Tryz.prog Tryz.f59 (.int .i64 z))) q111 ?_ ?_
 intro p19 y20 h75
 let u1 : List Ob := [.box u12, .box (c_TCondition (a0.fConditions.getD p19.toNat default))]
 let u8 : Nat × D := (97, sL 5 c_TCondition ((a0.fConditions.drop 0).take (p19.toNat - 0)))
 unfold M.model_checkOrigins_l4 at h75
 refine awp_seq (rg0 [1, 72, 73, 74, 75] 1 ⟨110, [(1, .ref 0 0), u3, (73, .int .i64 u4), (74, .int .i64 p19), (75, .bool (decide (p19 < u4)))], u6⟩ (then_n (awp_seq (cn h75 (fun _ h77 => ?_) (fun _ h78 => ?_)))))
 refine awp_skip (then_n (awp_seq (awp_block (awp_seq ?_))))
 obtain ⟨c79, h80⟩ := gd_some h77
 refine zc [1, 9, 10, 72, 73, 74] 2 c79 (then_n (awp_seq (awp_seq ?_)))
 obtain ⟨r21, q81, h82⟩ := bind_some h80
 obtain ⟨r22, q83, h84⟩ := bind_some h82
 refine zr [1, 9, 10, 72, 73, 74, 88] 2 nil_all (rq1 (addr_Valid_ok _ _ q81) (rq2 (fun hg => addr_Valid_ok _ _ (gc_some q83 hg)) rqn)) (then_n (cn h84 (fun _ h86 => ?_) (fun _ h87 => ?_)))
 exact awp_seq (zg [2] 0 (then_n (awp_ret (then_r (inb_r (then_r (rr h86 ⟨rfl, er0 _⟩)))))))
 refine awp_skip (then_n (awp_seq (awp_seq (zg [1, 9, 10, 72, 73, 74, 93] 2 (then_n (cn h87 (fun _ h89 => ?_) (fun _ h90 => ?_)))))))
 exact awp_seq (zg [2] 0 (then_n (awp_ret (then_r (inb_r (then_r (rr h89 ⟨rfl, er0 _⟩)))))))
 refine awp_skip (then_n (awp_seq ?_))
 obtain ⟨c91, h92⟩ := gd_some h90
 refine rgc [1, 10, 72, 73, 74, 97, 98, 99] 2 ⟨110, [(1, .ref 0 0), u14, u3, (73, .int .i64 u4), (74, .int .i64 p19), (97, .sl false 5 (p19.toNat - 0) (fun i => c_TCondition (a0.fConditions.getD (0 + i) default))), (98, .int .i64 ((p19.toNat - 0 : Nat) : Int)), (99, .int .i64 0)], u1⟩ [decide (0 ≤ p19), decide (p19 ≤ u4)] c91 (then_le (s' := ⟨110, [(1, .ref 0 0), u14, u3, (73, .int .i64 u4), (74, .int .i64 p19), u8, (98, .int .i64 ((p19.toNat - 0 : Nat) : Int)), (99, .int .i64 0)], u1⟩) (le_sub (.cons Sub.rfl (.cons Sub.rfl (.cons Sub.rfl (.cons Sub.rfl (.cons Sub.rfl (.cons (sub_sl (len_cut _ _ _ (cut_hi (c91 _ (List.mem_cons_of_mem _ List.mem_cons_self)))) (cut_ext _ _ _ _)) (.cons Sub.rfl (.cons Sub.rfl .nil)))))))) (.cons .rfl (.cons .rfl .nil))) (awp_block ?_))
 obtain ⟨y25, q102, h103⟩ := bind_some h92
 refine zl (fun (p23 : Int) => ⟨110, [(1, .ref 0 0), u14, u3, (73, .int .i64 u4), (74, .int .i64 p19), u8, (98, .int .i64 ((p19.toNat - 0 : Nat) : Int)), (99, .int .i64 p23)], u1⟩) (Sum.elim (fun z => OutE 8 (fun z => ⟨110, [(1, .ref 0 0), u3, (73, .int .i64 u4), (74, .int .i64 p19)], u6⟩) z) (fun z => OutR Tryz.prog Tryz.f59 (.int .i64 z))) q102 ?_ ?_
 intro p23 y24 h93
 unfold M.model_checkOrigins_l5 at h93
 refine awp_seq (rg0 [1, 10, 72, 73, 74, 97, 98, 99, 100] 2 ⟨110, [(1, .ref 0 0), u14, u3, (73, .int .i64 u4), (74, .int .i64 p19), u8, (98, .int .i64 ((p19.toNat - 0 : Nat) : Int)), (99, .int .i64 p23), (100, .bool (decide (p23 < ((p19.toNat - 0 : Nat) : Int))))], u1⟩ (then_n (awp_seq (cn h93 (fun _ h95 => ?_) (fun _ h96 => ?_)))))
 refine awp_skip (then_n (awp_seq (awp_block (awp_seq ?_))))
 obtain ⟨c97, h98⟩ := gd_some h95
 refine zc [1, 10, 12, 72, 73, 74, 97, 98, 99] 3 c97 (then_n (awp_seq (zg [1, 10, 72, 73, 74, 97, 98, 99, 107] 2 (then_n (cn h98 (fun _ h100 => ?_) (fun _ h101 => ?_))))))
 exact awp_seq (zg [2] 0 (then_n (awp_ret (inb_r (then_r (rr h100 ⟨rfl, er0 _⟩))))))
 exact awp_skip (inb_n (then_n (zg [1, 10, 72, 73, 74, 97, 98, 99] 2 (rn h101))))
 refine awp_exit (then_e ?_)
 obtain rfl := Option.some.inj h96
 exact round_e ⟨rfl, Le.trans (s' := ⟨110, [(1, .ref 0 0), u3, (73, .int .i64 u4), (74, .int .i64 p19)], u1⟩) (kp [1, 72, 73, 74]) (le_cut (n := 1) (by kernel_rfl))⟩
 intro e104 s105 o106
 rcases y25 with g26 | y27
 have h107 := elim_l h103
 obtain ⟨rfl, l109⟩ := o106
 exact inb_here (inb_n (then_le (s' := ⟨110, [(1, .ref 0 0), u3, (73, .int .i64 u4), (74, .int .i64 p19)], u6⟩) (l109) (zg [1, 72, 73, 74] 1 (rn h107))))
 have h108 := elim_r h103
 obtain ⟨rfl, n110⟩ := o106
 exact inb_r (inb_r (then_r (rr h108 ⟨rfl, n110⟩)))
 refine awp_exit (then_e ?_)
 obtain rfl := Option.some.inj h78
 exact round_e ⟨rfl, Le.trans (s' := ⟨110, [], u6⟩) (kp []) (le_cut (n := 0) (by kernel_rfl))⟩
 intro e113 s114 o115
 rcases y28 with g29 | y30
 have h116 := elim_l h112
 exact zi o115 (awp_seq (zg [2] 0 (then_n (awp_ret (er1 h116)))))
 have h117 := elim_r h112
 obtain ⟨rfl, n119⟩ := o115
 refine inb_r (then_r ?_)
 obtain rfl := Option.some.inj h117
 exact n119
 have h70 := elim_r h65
 obtain ⟨rfl, n120⟩ := o68
 refine inb_r (then_r ?_)
 obtain rfl := Option.some.inj h70
 exact n120
 have h28 := elim_r h23
 obtain ⟨rfl, n121⟩ := o26
 refine inb_r (then_r ?_)
 obtain rfl := Option.some.inj h28
 exact n121
theorem model_checkPathVector_ok (a0 : TRouter) (r : Int) (h : M.model_checkPathVector a0 = some r) : Fn Tryz.prog 24 [.agg (c_TRouter a0)] (.pure (.int .i64 r)) := by
 unfold M.model_checkPathVector at h
 refine fn_pure Tryz.func24 rfl (by kernel_rfl) (awp_seq (zg [1] 1 (then_n (awp_seq (zg [1, 3] 2 (then_n (awp_seq (awp_seq (zg [1, 3, 10] 2 (then_n (cn h (fun _ h2 => ?_) (fun _ h3 => ?_))))))))))))
 refine awp_seq (awp_seq (zg [48] 0 (then_n (cn h2 (fun _ h5 => ?_) (fun _ h6 => ?_)))))
 exact awp_seq (zg [2] 0 (then_n (awp_ret (then_r (then_r (er1 h5))))))
 exact awp_skip (then_n (awp_seq (zg [2] 0 (then_n (awp_ret (then_r (er1 h6)))))))
 refine awp_skip (then_n (awp_seq (awp_seq ?_)))
 obtain ⟨r1, q7, h8⟩ := bind_some h3
 obtain ⟨r2, q9, h10⟩ := bind_some h8
 refine zr [1, 3, 63] 2 nil_all (rq2 (fun hg => model_within_ok _ _ _ _ (gc_some q7 hg)) (rq2 (fun hg => model_within_ok _ _ _ _ (gc_some q9 hg)) rqn)) (then_n (cn h10 (fun _ h12 => ?_) (fun _ h13 => ?_)))
 exact awp_seq (zg [2] 0 (then_n (awp_ret (then_r (er1 h12)))))
 refine awp_skip (then_n (awp_seq (awp_seq ?_)))
 obtain ⟨r3, q14, h15⟩ := bind_some h13
 refine zr [1, 3, 4] 2 nil_all (rq1 (model_checkNeighbors_ok _ _ q14) rqn) (then_n (awp_seq (zg [1, 3, 4, 67] 2 (then_n (cn h15 (fun _ h17 => ?_) (fun _ h18 => ?_))))))
 exact awp_seq (zg [2] 0 (then_n (awp_ret (then_r (er1 h17)))))
 refine awp_skip (then_n (awp_seq (awp_seq ?_)))
 obtain ⟨r4, q19, h20⟩ := bind_some h18
 refine zr [1, 3, 5] 2 nil_all (rq1 (model_checkOrigins_ok _ _ q19) rqn) (then_n (awp_seq (zg [1, 3, 5, 72] 2 (then_n (cn h20 (fun _ h22 => ?_) (fun _ h23 => ?_))))))
 exact awp_seq (zg [2] 0 (then_n (awp_ret (then_r (er1 h22)))))
 refine awp_skip (then_n (awp_seq ?_))
 obtain ⟨r5, q24, h25⟩ := bind_some h23
 exact zr [2] 0 nil_all (rq1 (model_checkRedist_ok _ _ _ _ _ _ _ q24) rqn) (then_n (awp_ret (er1 h25)))
theorem model_CheckRouter_ok (a0 : TRouter) (r : Int) (h : M.model_CheckRouter a0 = some r) : Fn Tryz.prog 7 [.agg (c_TRouter a0)] (.pure (.int .i64 r)) := by
 unfold M.model_CheckRouter at h
 refine fn_pure Tryz.func7 rfl (by kernel_rfl) (awp_seq (zg [1] 1 (then_n (awp_seq (awp_seq ?_)))))
 obtain ⟨r1, q1, h2⟩ := bind_some h
 refine zr [1, 10] 1 nil_all (rq1 (scan_Name_ok _ _ q1) rqn) (then_n (cn h2 (fun _ h4 => ?_) (fun _ h5 => ?_)))
 exact awp_seq (zg [2] 0 (then_n (awp_ret (then_r (er1 h4)))))
 refine awp_skip (then_n (awp_seq (awp_seq ?_)))
 obtain ⟨r2, q6, h7⟩ := bind_some h5
 refine zr [1, 14] 1 nil_all (rq1 (model_within_ok _ _ _ _ q6) rqn) (then_n (cn h7 (fun _ h9 => ?_) (fun _ h10 => ?_)))
 exact awp_seq (zg [2] 0 (then_n (awp_ret (then_r (er1 h9)))))
 refine awp_skip (then_n (awp_seq (zg [1, 3] 1 (then_n (awp_seq (awp_seq (zg [1, 16, 17, 18] 1 (then_n (awp_block (awp_unroll (lwp_round (awp_seq (zg [1, 16, 17, 18, 19] 1 (then_n (awp_seq (cnd true (fun _ => (awp_skip (then_n (awp_seq (awp_block (awp_seq ?_)))))) (fun b11 => Bool.noConfusion b11)))))))))))))))))
 obtain ⟨c12, h13⟩ := gd_some h10
 refine zc [1, 5, 16, 17, 18] 1 c12 (then_n (awp_seq ?_))
 obtain ⟨r3, q14, h15⟩ := bind_some h13
 refine zr [1, 6, 16, 17, 18] 1 nil_all (rq1 (model_checkInterfaces_ok _ _ q14) rqn) (then_n (awp_seq (zg [1, 6, 16, 17, 18, 26] 1 (then_n (cn h15 (fun _ h17 => ?_) (fun _ h18 => ?_))))))
 exact awp_seq (rg0 [2] 0 ⟨29, [(2, .int .i64 r3)], []⟩ (then_n (awp_ret (inb_r (then_r (thenl_r (inb_r (then_r (er1 h17)))))))))
 refine awp_skip (inb_n (then_n (zg [1, 16, 17, 18] 1 (thenl_n (lwp_round (awp_seq (zg [1, 16, 17, 18, 19] 1 (then_n (awp_seq (cnd true (fun _ => (awp_skip (then_n (awp_seq (awp_block (awp_seq ?_)))))) (fun b19 => Bool.noConfusion b19)))))))))))
 obtain ⟨c20, h21⟩ := gd_some h18
 refine zc [1, 5, 16, 17, 18] 1 c20 (then_n (awp_seq ?_))
 obtain ⟨r4, q22, h23⟩ := bind_some h21
 refine zr [1, 6, 16, 17, 18] 1 nil_all (rq1 (model_checkPrefixLists_ok _ _ q22) rqn) (then_n (awp_seq (zg [1, 6, 16, 17, 18, 26] 1 (then_n (cn h23 (fun _ h25 => ?_) (fun _ h26 => ?_))))))
 exact awp_seq (rg0 [2] 0 ⟨29, [(2, .int .i64 r4)], []⟩ (then_n (awp_ret (inb_r (then_r (thenl_r (inb_r (then_r (er1 h25)))))))))
 refine awp_skip (inb_n (then_n (zg [1, 16, 17, 18] 1 (thenl_n (lwp_round (awp_seq (zg [1, 16, 17, 18, 19] 1 (then_n (awp_seq (cnd true (fun _ => (awp_skip (then_n (awp_seq (awp_block (awp_seq ?_)))))) (fun b27 => Bool.noConfusion b27)))))))))))
 obtain ⟨c28, h29⟩ := gd_some h26
 refine zc [1, 5, 16, 17, 18] 1 c28 (then_n (awp_seq ?_))
 obtain ⟨r5, q30, h31⟩ := bind_some h29
 refine zr [1, 6, 16, 17, 18] 1 nil_all (rq1 (model_checkRouteMaps_ok _ _ q30) rqn) (then_n (awp_seq (zg [1, 6, 16, 17, 18, 26] 1 (then_n (cn h31 (fun _ h33 => ?_) (fun _ h34 => ?_))))))
 exact awp_seq (rg0 [2] 0 ⟨29, [(2, .int .i64 r5)], []⟩ (then_n (awp_ret (inb_r (then_r (thenl_r (inb_r (then_r (er1 h33)))))))))
 refine awp_skip (inb_n (then_n (zg [1, 16, 17, 18] 1 (thenl_n (lwp_round (awp_seq (zg [1, 16, 17, 18, 19] 1 (then_n (awp_seq (cnd true (fun _ => (awp_skip (then_n (awp_seq (awp_block (awp_seq ?_)))))) (fun b35 => Bool.noConfusion b35)))))))))))
 obtain ⟨c36, h37⟩ := gd_some h34
 refine zc [1, 5, 16, 17, 18] 1 c36 (then_n (awp_seq ?_))
 obtain ⟨r6, q38, h39⟩ := bind_some h37
 refine zr [1, 6, 16, 17, 18] 1 nil_all (rq1 (model_checkACLs_ok _ _ q38) rqn) (then_n (awp_seq (zg [1, 6, 16, 17, 18, 26] 1 (then_n (cn h39 (fun _ h41 => ?_) (fun _ h42 => ?_))))))
 exact awp_seq (rg0 [2] 0 ⟨29, [(2, .int .i64 r6)], []⟩ (then_n (awp_ret (inb_r (then_r (thenl_r (inb_r (then_r (er1 h41)))))))))
 refine awp_skip (inb_n (then_n (zg [1, 16, 17, 18] 1 (thenl_n (lwp_round (awp_seq (zg [1, 16, 17, 18, 19] 1 (then_n (awp_seq (cnd true (fun _ => (awp_skip (then_n (awp_seq (awp_block (awp_seq ?_)))))) (fun b43 => Bool.noConfusion b43)))))))))))
 obtain ⟨c44, h45⟩ := gd_some h42
 refine zc [1, 5, 16, 17, 18] 1 c44 (then_n (awp_seq ?_))
 obtain ⟨r7, q46, h47⟩ := bind_some h45
 refine zr [1, 6, 16, 17, 18] 1 nil_all (rq1 (model_checkNAT_ok _ _ q46) rqn) (then_n (awp_seq (zg [1, 6, 16, 17, 18, 26] 1 (then_n (cn h47 (fun _ h49 => ?_) (fun _ h50 => ?_))))))
 exact awp_seq (rg0 [2] 0 ⟨29, [(2, .int .i64 r7)], []⟩ (then_n (awp_ret (inb_r (then_r (thenl_r (inb_r (then_r (er1 h49)))))))))
 refine awp_skip (inb_n (then_n (zg [1, 16, 17, 18] 1 (thenl_n (lwp_round (awp_seq (zg [1, 16, 17, 18, 19] 1 (then_n (awp_seq (cnd true (fun _ => (awp_skip (then_n (awp_seq (awp_block (awp_seq ?_)))))) (fun b51 => Bool.noConfusion b51)))))))))))
 obtain ⟨c52, h53⟩ := gd_some h50
 refine zc [1, 5, 16, 17, 18] 1 c52 (then_n (awp_seq ?_))
 obtain ⟨r8, q54, h55⟩ := bind_some h53
 refine zr [1, 6, 16, 17, 18] 1 nil_all (rq1 (model_checkFilters_ok _ _ q54) rqn) (then_n (awp_seq (zg [1, 6, 16, 17, 18, 26] 1 (then_n (cn h55 (fun _ h57 => ?_) (fun _ h58 => ?_))))))
 exact awp_seq (rg0 [2] 0 ⟨29, [(2, .int .i64 r8)], []⟩ (then_n (awp_ret (inb_r (then_r (thenl_r (inb_r (then_r (er1 h57)))))))))
 refine awp_skip (inb_n (then_n (zg [1, 16, 17, 18] 1 (thenl_n (lwp_round (awp_seq (zg [1, 16, 17, 18, 19] 1 (then_n (awp_seq (cnd true (fun _ => (awp_skip (then_n (awp_seq (awp_block (awp_seq ?_)))))) (fun b59 => Bool.noConfusion b59)))))))))))
 obtain ⟨c60, h61⟩ := gd_some h58
 refine zc [1, 5, 16, 17, 18] 1 c60 (then_n (awp_seq ?_))
 obtain ⟨r9, q62, h63⟩ := bind_some h61
 refine zr [1, 6, 16, 17, 18] 1 nil_all (rq1 (model_checkStatics_ok _ _ q62) rqn) (then_n (awp_seq (zg [1, 6, 16, 17, 18, 26] 1 (then_n (cn h63 (fun _ h65 => ?_) (fun _ h66 => ?_))))))
 exact awp_seq (rg0 [2] 0 ⟨29, [(2, .int .i64 r9)], []⟩ (then_n (awp_ret (inb_r (then_r (thenl_r (inb_r (then_r (er1 h65)))))))))
 refine awp_skip (inb_n (then_n (zg [1, 16, 17, 18] 1 (thenl_n (lwp_round (awp_seq (zg [1, 16, 17, 18, 19] 1 (then_n (awp_seq (cnd true (fun _ => (awp_skip (then_n (awp_seq (awp_block (awp_seq ?_)))))) (fun b67 => Bool.noConfusion b67)))))))))))
 obtain ⟨c68, h69⟩ := gd_some h66
 refine zc [1, 5, 16, 17, 18] 1 c68 (then_n (awp_seq ?_))
 obtain ⟨r10, q70, h71⟩ := bind_some h69
 refine zr [1, 6, 16, 17, 18] 1 nil_all (rq1 (model_checkLinkState_ok _ _ q70) rqn) (then_n (awp_seq (zg [1, 6, 16, 17, 18, 26] 1 (then_n (cn h71 (fun _ h73 => ?_) (fun _ h74 => ?_))))))
 exact awp_seq (rg0 [2] 0 ⟨29, [(2, .int .i64 r10)], []⟩ (then_n (awp_ret (inb_r (then_r (thenl_r (inb_r (then_r (er1 h73)))))))))
 refine awp_skip (inb_n (then_n (zg [1, 16, 17, 18] 1 (thenl_n (lwp_round (awp_seq (zg [1, 16, 17, 18, 19] 1 (then_n (awp_seq (cnd true (fun _ => (awp_skip (then_n (awp_seq (awp_block (awp_seq ?_)))))) (fun b75 => Bool.noConfusion b75)))))))))))
 obtain ⟨c76, h77⟩ := gd_some h74
 refine zc [1, 5, 16, 17, 18] 1 c76 (then_n (awp_seq ?_))
 obtain ⟨r11, q78, h79⟩ := bind_some h77
 refine zr [1, 6, 16, 17, 18] 1 nil_all (rq1 (model_checkDistanceVector_ok _ _ q78) rqn) (then_n (awp_seq (zg [1, 6, 16, 17, 18, 26] 1 (then_n (cn h79 (fun _ h81 => ?_) (fun _ h82 => ?_))))))
 exact awp_seq (rg0 [2] 0 ⟨29, [(2, .int .i64 r11)], []⟩ (then_n (awp_ret (inb_r (then_r (thenl_r (inb_r (then_r (er1 h81)))))))))
 refine awp_skip (inb_n (then_n (zg [1, 16, 17, 18] 1 (thenl_n (lwp_round (awp_seq (zg [1, 16, 17, 18, 19] 1 (then_n (awp_seq (cnd true (fun _ => (awp_skip (then_n (awp_seq (awp_block (awp_seq ?_)))))) (fun b83 => Bool.noConfusion b83)))))))))))
 obtain ⟨c84, h85⟩ := gd_some h82
 refine zc [1, 5, 16, 17, 18] 1 c84 (then_n (awp_seq ?_))
 obtain ⟨r12, q86, h87⟩ := bind_some h85
 refine zr [1, 6, 16, 17, 18] 1 nil_all (rq1 (model_checkPathVector_ok _ _ q86) rqn) (then_n (awp_seq (zg [1, 6, 16, 17, 18, 26] 1 (then_n (cn h87 (fun _ h89 => ?_) (fun _ h90 => ?_))))))
 exact awp_seq (rg0 [2] 0 ⟨29, [(2, .int .i64 r12)], []⟩ (then_n (awp_ret (inb_r (then_r (thenl_r (inb_r (then_r (er1 h89)))))))))
 exact awp_skip (inb_n (then_n (zg [1, 16, 17, 18] 1 (thenl_n (lwp_round (awp_seq (zg [1, 16, 17, 18, 19] 1 (then_n (awp_seq (cnd false (fun b91 => Bool.noConfusion b91) (fun _ => (awp_exit (then_e (thenl_e (inb_here (then_n (awp_seq (zg [2] 0 (then_n (awp_ret (er1 h90)))))))))))))))))))))
theorem law5_sample_ok  (r : TRouter) (h : M.law5_sample  = some r) : Fn Tryz.prog 37 [] (.pure (.agg (c_TRouter r))) := by
 unfold M.law5_sample at h
 refine fn_pure Tryz.func37 rfl (by kernel_rfl) (awp_seq (zg [0] 1 (then_n (awp_seq (rg0 [0] 1 ⟨36, [(0, .ref 0 0)], [.box [.str (⟨#[114, 49]⟩ : ByteArray), .int .i64 65001, .sl true 12 2 (fun i => List.take 12 (List.drop (i * 12) [.str (⟨#[101, 48]⟩ : ByteArray), .int .u32 167772161, .int .i64 24, .int .i64 0, .bool false, .bool true, .int .i64 0, .int .i64 10, .bool false, .str (⟨#[97]⟩ : ByteArray), .str (⟨#[]⟩ : ByteArray), .int .i64 0, .str (⟨#[101, 49]⟩ : ByteArray), .int .u32 167772417, .int .i64 24, .int .i64 0, .bool false, .bool false, .int .i64 0, .int .i64 0, .bool true, .str (⟨#[]⟩ : ByteArray), .str (⟨#[]⟩ : ByteArray), .int .i64 0])), .sl true 2 1 (fun i => List.take 2 (List.drop (i * 2) [.str (⟨#[112]⟩ : ByteArray), .sl true 5 1 (fun i => List.take 5 (List.drop (i * 5) [.bool true, .int .u32 167772160, .int .i64 8, .int .i64 8, .int .i64 32]))])), .sl true 2 1 (fun i => List.take 2 (List.drop (i * 2) [.str (⟨#[109]⟩ : ByteArray), .sl true 7 1 (fun i => List.take 7 (List.drop (i * 7) [.bool true, .str (⟨#[112]⟩ : ByteArray), .int .i64 (-1), .int .i64 5, .int .i64 (-1), .int .i64 (-1), .int .i64 0]))])), .sl true 2 1 (fun i => List.take 2 (List.drop (i * 2) [.str (⟨#[97]⟩ : ByteArray), .sl true 10 1 (fun i => List.take 10 (List.drop (i * 10) [.bool true, .int .i64 6, .int .u32 0, .int .u32 4294967295, .int .u32 0, .int .u32 4294967295, .int .i64 0, .int .i64 65535, .int .i64 80, .int .i64 80]))])), .sl true 9 1 (fun i => List.take 9 (List.drop (i * 9) [.int .i64 1, .int .u32 167772165, .int .u32 3221225989, .int .i64 0, .int .i64 0, .int .i64 0, .str (⟨#[]⟩ : ByteArray), .int .u32 0, .int .u32 0])), .sl true 7 1 (fun i => List.take 7 (List.drop (i * 7) [.int .u32 3232235520, .int .i64 16, .int .u32 167772418, .str (⟨#[]⟩ : ByteArray), .bool false, .int .i64 1, .int .i64 0])), .bool true, .int .i64 110, .sl true 3 0 (fun _ => []), .sl true 5 1 (fun i => List.take 5 (List.drop (i * 5) [.int .i64 2, .int .i64 20, .int .i64 0, .str (⟨#[109]⟩ : ByteArray), .int .i64 2])), .bool true, .int .i64 120, .str (⟨#[]⟩ : ByteArray), .str (⟨#[112]⟩ : ByteArray), .sl true 5 0 (fun _ => []), .bool true, .int .i64 20, .int .i64 200, .sl true 4 1 (fun i => List.take 4 (List.drop (i * 4) [.int .u32 167772418, .int .i64 65002, .str (⟨#[109]⟩ : ByteArray), .str (⟨#[]⟩ : ByteArray)])), .sl true 2 1 (fun i => List.take 2 (List.drop (i * 2) [.int .u32 167772160, .int .i64 24])), .sl true 3 0 (fun _ => []), .sl true 5 0 (fun _ => []), .sl true 5 0 (fun _ => [])]]⟩ (then_n (awp_ret ?_)))))))
 obtain rfl := Option.some.inj h
 exact er (.agg [.str (⟨#[114, 49]⟩ : ByteArray), .int .i64 65001, .sl false 12 2 (fun i => List.take 12 (List.drop (i * 12) [.str (⟨#[101, 48]⟩ : ByteArray), .int .u32 167772161, .int .i64 24, .int .i64 0, .bool false, .bool true, .int .i64 0, .int .i64 10, .bool false, .str (⟨#[97]⟩ : ByteArray), .str (⟨#[]⟩ : ByteArray), .int .i64 0, .str (⟨#[101, 49]⟩ : ByteArray), .int .u32 167772417, .int .i64 24, .int .i64 0, .bool false, .bool false, .int .i64 0, .int .i64 0, .bool true, .str (⟨#[]⟩ : ByteArray), .str (⟨#[]⟩ : ByteArray), .int .i64 0])), .sl false 2 1 (fun i => List.take 2 (List.drop (i * 2) [.str (⟨#[112]⟩ : ByteArray), .sl true 5 1 (fun i => List.take 5 (List.drop (i * 5) [.bool true, .int .u32 167772160, .int .i64 8, .int .i64 8, .int .i64 32]))])), .sl false 2 1 (fun i => List.take 2 (List.drop (i * 2) [.str (⟨#[109]⟩ : ByteArray), .sl true 7 1 (fun i => List.take 7 (List.drop (i * 7) [.bool true, .str (⟨#[112]⟩ : ByteArray), .int .i64 (-1), .int .i64 5, .int .i64 (-1), .int .i64 (-1), .int .i64 0]))])), .sl false 2 1 (fun i => List.take 2 (List.drop (i * 2) [.str (⟨#[97]⟩ : ByteArray), .sl true 10 1 (fun i => List.take 10 (List.drop (i * 10) [.bool true, .int .i64 6, .int .u32 0, .int .u32 4294967295, .int .u32 0, .int .u32 4294967295, .int .i64 0, .int .i64 65535, .int .i64 80, .int .i64 80]))])), .sl false 9 1 (fun i => List.take 9 (List.drop (i * 9) [.int .i64 1, .int .u32 167772165, .int .u32 3221225989, .int .i64 0, .int .i64 0, .int .i64 0, .str (⟨#[]⟩ : ByteArray), .int .u32 0, .int .u32 0])), .sl false 7 1 (fun i => List.take 7 (List.drop (i * 7) [.int .u32 3232235520, .int .i64 16, .int .u32 167772418, .str (⟨#[]⟩ : ByteArray), .bool false, .int .i64 1, .int .i64 0])), .bool true, .int .i64 110, .sl false 3 0 (fun _ => []), .sl false 5 1 (fun i => List.take 5 (List.drop (i * 5) [.int .i64 2, .int .i64 20, .int .i64 0, .str (⟨#[109]⟩ : ByteArray), .int .i64 2])), .bool true, .int .i64 120, .str (⟨#[]⟩ : ByteArray), .str (⟨#[112]⟩ : ByteArray), .sl false 5 0 (fun _ => []), .bool true, .int .i64 20, .int .i64 200, .sl false 4 1 (fun i => List.take 4 (List.drop (i * 4) [.int .u32 167772418, .int .i64 65002, .str (⟨#[109]⟩ : ByteArray), .str (⟨#[]⟩ : ByteArray)])), .sl false 2 1 (fun i => List.take 2 (List.drop (i * 2) [.int .u32 167772160, .int .i64 24])), .sl false 3 0 (fun _ => []), .sl false 5 0 (fun _ => []), .sl false 5 0 (fun _ => [])]) (sub_agg (.cons CSub.rfl (.cons CSub.rfl (.cons (csub_sl rfl (fun i hi => match i, hi with | 0, _ => rfl | 1, _ => rfl | n + 2, h => absurd h (by omega))) (.cons (csub_psl rfl (fun i hi => match i, hi with | 0, _ => (.cons PSub.rfl (.cons (psub_sl rfl (fun i hi => match i, hi with | 0, _ => (.cons PSub.rfl (.cons PSub.rfl (.cons PSub.rfl (.cons PSub.rfl (.cons PSub.rfl .nil))))) | n + 1, h => absurd h (by omega))) .nil)) | n + 1, h => absurd h (by omega))) (.cons (csub_psl rfl (fun i hi => match i, hi with | 0, _ => (.cons PSub.rfl (.cons (psub_sl rfl (fun i hi => match i, hi with | 0, _ => (.cons PSub.rfl (.cons PSub.rfl (.cons PSub.rfl (.cons PSub.rfl (.cons PSub.rfl (.cons PSub.rfl (.cons PSub.rfl .nil))))))) | n + 1, h => absurd h (by omega))) .nil)) | n + 1, h => absurd h (by omega))) (.cons (csub_psl rfl (fun i hi => match i, hi with | 0, _ => (.cons PSub.rfl (.cons (psub_sl rfl (fun i hi => match i, hi with | 0, _ => (.cons PSub.rfl (.cons PSub.rfl (.cons PSub.rfl (.cons PSub.rfl (.cons PSub.rfl (.cons PSub.rfl (.cons PSub.rfl (.cons PSub.rfl (.cons PSub.rfl (.cons PSub.rfl .nil)))))))))) | n + 1, h => absurd h (by omega))) .nil)) | n + 1, h => absurd h (by omega))) (.cons (csub_sl rfl (fun i hi => match i, hi with | 0, _ => rfl | n + 1, h => absurd h (by omega))) (.cons (csub_sl rfl (fun i hi => match i, hi with | 0, _ => rfl | n + 1, h => absurd h (by omega))) (.cons CSub.rfl (.cons CSub.rfl (.cons csub_nil (.cons (csub_sl rfl (fun i hi => match i, hi with | 0, _ => rfl | n + 1, h => absurd h (by omega))) (.cons CSub.rfl (.cons CSub.rfl (.cons CSub.rfl (.cons CSub.rfl (.cons csub_nil (.cons CSub.rfl (.cons CSub.rfl (.cons CSub.rfl (.cons (csub_sl rfl (fun i hi => match i, hi with | 0, _ => rfl | n + 1, h => absurd h (by omega))) (.cons (csub_sl rfl (fun i hi => match i, hi with | 0, _ => rfl | n + 1, h => absurd h (by omega))) (.cons csub_nil (.cons csub_nil (.cons csub_nil .nil))))))))))))))))))))))))))
theorem slices_Equal_api_Interface_api_Interface_ok (a0 : List TInterface) (a1 : List TInterface) (r : Bool) (h : M.slices_Equal_api_Interface_api_Interface a0 a1 = some r) : Fn Tryz.prog 71 [sL 12 c_TInterface a0, sL 12 c_TInterface a1] (.pure (.bool r)) := by
 unfold M.slices_Equal_api_Interface_api_Interface at h
 refine fn_pure Tryz.func71 rfl (by kernel_rfl) (awp_seq (zg [0, 1] 0 (then_n (awp_seq (awp_seq (zg [0, 1, 10] 0 (then_n (cn h (fun _ h2 => ?_) (fun _ h3 => ?_)))))))))
 exact awp_seq (zg [4] 0 (then_n (awp_ret (then_r (er1 h2)))))
 refine awp_skip (then_n (awp_seq (awp_seq (zg [0, 1, 12, 13] 0 (then_n (awp_block ?_))))))
 obtain ⟨y3, q13, h14⟩ := bind_some h3
 refine zl (fun (p1 : Int) => ⟨26, [(0, sL 12 c_TInterface a0), (1, sL 12 c_TInterface a1), (12, .int .i64 (a0.length : Int)), (13, .int .i64 p1)], []⟩) (Sum.elim (fun z => OutE 0 (fun z => ⟨26, [], []⟩) z) (fun z => OutR Tryz.prog Tryz.f71 (.bool z))) q13 ?_ ?_
 intro p1 y2 h4
 unfold M.slices_Equal_api_Interface_api_Interface_l1 at h4
 refine awp_seq (zg [0, 1, 12, 13, 14] 0 (then_n (awp_seq (cn h4 (fun _ h6 => ?_) (fun _ h7 => ?_)))))
 refine awp_skip (then_n (awp_seq (awp_block (awp_seq (zg [0, 1, 5, 12, 13] 0 (then_n (awp_seq ?_)))))))
 obtain ⟨c8, h9⟩ := gd_some h6
 refine zc [0, 1, 12, 13, 24] 0 c8 (then_n (cn h9 (fun _ h11 => ?_) (fun _ h12 => ?_)))
 exact awp_seq (zg [4] 0 (then_n (awp_ret (inb_r (then_r (rr h11 ⟨rfl, er0 _⟩))))))
 exact awp_skip (inb_n (then_n (zg [0, 1, 12, 13] 0 (rn h12))))
 exact awp_exit (then_e (re h7 ⟨rfl, kq⟩))
 intro e15 s16 o17
 rcases y3 with g4 | y5
 have h18 := elim_l h14
 exact zi o17 (awp_seq (zg [4] 0 (then_n (awp_ret (er1 h18)))))
 have h19 := elim_r h14
 obtain ⟨rfl, n21⟩ := o17
 refine inb_r (then_r ?_)
 obtain rfl := Option.some.inj h19
 exact n21
theorem slices_Equal_api_PrefixRule_api_PrefixRule_ok (a0 : List TPrefixRule) (a1 : List TPrefixRule) (r : Bool) (h : M.slices_Equal_api_PrefixRule_api_PrefixRule a0 a1 = some r) : Fn Tryz.prog 74 [sL 5 c_TPrefixRule a0, sL 5 c_TPrefixRule a1] (.pure (.bool r)) := by
 unfold M.slices_Equal_api_PrefixRule_api_PrefixRule at h
 refine fn_pure Tryz.func74 rfl (by kernel_rfl) (awp_seq (zg [0, 1] 0 (then_n (awp_seq (awp_seq (zg [0, 1, 10] 0 (then_n (cn h (fun _ h2 => ?_) (fun _ h3 => ?_)))))))))
 exact awp_seq (zg [4] 0 (then_n (awp_ret (then_r (er1 h2)))))
 refine awp_skip (then_n (awp_seq (awp_seq (zg [0, 1, 12, 13] 0 (then_n (awp_block ?_))))))
 obtain ⟨y3, q13, h14⟩ := bind_some h3
 refine zl (fun (p1 : Int) => ⟨26, [(0, sL 5 c_TPrefixRule a0), (1, sL 5 c_TPrefixRule a1), (12, .int .i64 (a0.length : Int)), (13, .int .i64 p1)], []⟩) (Sum.elim (fun z => OutE 0 (fun z => ⟨26, [], []⟩) z) (fun z => OutR Tryz.prog Tryz.f74 (.bool z))) q13 ?_ ?_
 intro p1 y2 h4
 unfold M.slices_Equal_api_PrefixRule_api_PrefixRule_l1 at h4
 refine awp_seq (zg [0, 1, 12, 13, 14] 0 (then_n (awp_seq (cn h4 (fun _ h6 => ?_) (fun _ h7 => ?_)))))
 refine awp_skip (then_n (awp_seq (awp_block (awp_seq (zg [0, 1, 5, 12, 13] 0 (then_n (awp_seq ?_)))))))
 obtain ⟨c8, h9⟩ := gd_some h6
 refine zc [0, 1, 12, 13, 24] 0 c8 (then_n (cn h9 (fun _ h11 => ?_) (fun _ h12 => ?_)))
 exact awp_seq (zg [4] 0 (then_n (awp_ret (inb_r (then_r (rr h11 ⟨rfl, er0 _⟩))))))
 exact awp_skip (inb_n (then_n (zg [0, 1, 12, 13] 0 (rn h12))))
 exact awp_exit (then_e (re h7 ⟨rfl, kq⟩))
 intro e15 s16 o17
 rcases y3 with g4 | y5
 have h18 := elim_l h14
 exact zi o17 (awp_seq (zg [4] 0 (then_n (awp_ret (er1 h18)))))
 have h19 := elim_r h14
 obtain ⟨rfl, n21⟩ := o17
 refine inb_r (then_r ?_)
 obtain rfl := Option.some.inj h19
 exact n21
theorem model_Same_1_ok (a0 : TPrefixList) (a1 : TPrefixList) (r : Bool) (h : M.model_Same_1 a0 a1 = some r) : Fn Tryz.prog 73 [.agg (c_TPrefixList a0), .agg (c_TPrefixList a1)] (.pure (.bool r)) := by
 unfold M.model_Same_1 at h
 refine fn_pure Tryz.func73 rfl (by kernel_rfl) (awp_seq (zg [2, 3] 2 (then_n (awp_seq ?_))))
 obtain ⟨r1, q1, h2⟩ := bind_some h
 exact zr [4] 0 nil_all (rq2 (fun hg => slices_Equal_api_PrefixRule_api_PrefixRule_ok _ _ _ (gc_some q1 hg)) rqn) (then_n (awp_ret (er1 h2)))
theorem slices_EqualFunc_api_PrefixList_api_PrefixList_api_PrefixList_api_PrefixList__model_Same_1_ok (a0 : List TPrefixList) (a1 : List TPrefixList) (r : Bool) (h : M.slices_EqualFunc_api_PrefixList_api_PrefixList_api_PrefixList_api_PrefixList__model_Same_1 a0 a1 = some r) : Fn Tryz.prog 72 [sL 2 c_TPrefixList a0, sL 2 c_TPrefixList a1, .fn 73 []] (.pure (.bool r)) := by
 unfold M.slices_EqualFunc_api_PrefixList_api_PrefixList_api_PrefixList_api_PrefixList__model_Same_1 at h
 refine fn_pure Tryz.func72 rfl (by kernel_rfl) (awp_seq (zg [0, 1, 2] 0 (then_n (awp_seq (awp_seq (zg [0, 1, 2, 14] 0 (then_n (cn h (fun _ h2 => ?_) (fun _ h3 => ?_)))))))))
 exact awp_seq (zg [6] 0 (then_n (awp_ret (then_r (er1 h2)))))
 refine awp_skip (then_n (awp_seq (awp_seq (zg [1, 2, 15, 16, 17] 0 (then_n (awp_block ?_))))))
 obtain ⟨y4, q17, h18⟩ := bind_some h3
 refine zl (fun (p1 : Int) => ⟨32, [(1, sL 2 c_TPrefixList a1), (2, .fn 73 []), (15, sL 2 c_TPrefixList a0), (16, .int .i64 (a0.length : Int)), (17, .int .i64 p1)], []⟩) (Sum.elim (fun z => OutE 0 (fun z => ⟨32, [], []⟩) z) (fun z => OutR Tryz.prog Tryz.f72 (.bool z))) q17 ?_ ?_
 intro p1 y2 h4
 unfold M.slices_EqualFunc_api_PrefixList_api_PrefixList_api_PrefixList_api_PrefixList__model_Same_1_l1 at h4
 refine awp_seq (zg [1, 2, 15, 16, 17, 18] 0 (then_n (awp_seq (cn h4 (fun _ h6 => ?_) (fun _ h7 => ?_)))))
 refine awp_skip (then_n (awp_seq (awp_block (awp_seq ?_))))
 obtain ⟨c8, h9⟩ := gd_some h6
 refine zc [1, 2, 7, 8, 15, 16, 17] 1 c8 (then_n (awp_seq ?_))
 obtain ⟨c10, h11⟩ := gd_some h9
 refine zc [1, 2, 8, 9, 15, 16, 17] 2 c10 (then_n (awp_seq ?_))
 obtain ⟨r3, q12, h13⟩ := bind_some h11
 refine zr [1, 2, 15, 16, 17, 30] 0 nil_all (rq1 (model_Same_1_ok _ _ _ q12) rqn) (then_n (cn h13 (fun _ h15 => ?_) (fun _ h16 => ?_)))
 exact awp_seq (zg [6] 0 (then_n (awp_ret (inb_r (then_r (rr h15 ⟨rfl, er0 _⟩))))))
 exact awp_skip (inb_n (then_n (zg [1, 2, 15, 16, 17] 0 (rn h16))))
 exact awp_exit (then_e (re h7 ⟨rfl, kq⟩))
 intro e19 s20 o21
 rcases y4 with g5 | y6
 have h22 := elim_l h18
 exact zi o21 (awp_seq (zg [6] 0 (then_n (awp_ret (er1 h22)))))
 have h23 := elim_r h18
 obtain ⟨rfl, n25⟩ := o21
 refine inb_r (then_r ?_)
 obtain rfl := Option.some.inj h23
 exact n25
theorem slices_Equal_api_Clause_api_Clause_ok (a0 : List TClause) (a1 : List TClause) (r : Bool) (h : M.slices_Equal_api_Clause_api_Clause a0 a1 = some r) : Fn Tryz.prog 77 [sL 7 c_TClause a0, sL 7 c_TClause a1] (.pure (.bool r)) := by
 unfold M.slices_Equal_api_Clause_api_Clause at h
 refine fn_pure Tryz.func77 rfl (by kernel_rfl) (awp_seq (zg [0, 1] 0 (then_n (awp_seq (awp_seq (zg [0, 1, 10] 0 (then_n (cn h (fun _ h2 => ?_) (fun _ h3 => ?_)))))))))
 exact awp_seq (zg [4] 0 (then_n (awp_ret (then_r (er1 h2)))))
 refine awp_skip (then_n (awp_seq (awp_seq (zg [0, 1, 12, 13] 0 (then_n (awp_block ?_))))))
 obtain ⟨y3, q13, h14⟩ := bind_some h3
 refine zl (fun (p1 : Int) => ⟨26, [(0, sL 7 c_TClause a0), (1, sL 7 c_TClause a1), (12, .int .i64 (a0.length : Int)), (13, .int .i64 p1)], []⟩) (Sum.elim (fun z => OutE 0 (fun z => ⟨26, [], []⟩) z) (fun z => OutR Tryz.prog Tryz.f77 (.bool z))) q13 ?_ ?_
 intro p1 y2 h4
 unfold M.slices_Equal_api_Clause_api_Clause_l1 at h4
 refine awp_seq (zg [0, 1, 12, 13, 14] 0 (then_n (awp_seq (cn h4 (fun _ h6 => ?_) (fun _ h7 => ?_)))))
 refine awp_skip (then_n (awp_seq (awp_block (awp_seq (zg [0, 1, 5, 12, 13] 0 (then_n (awp_seq ?_)))))))
 obtain ⟨c8, h9⟩ := gd_some h6
 refine zc [0, 1, 12, 13, 24] 0 c8 (then_n (cn h9 (fun _ h11 => ?_) (fun _ h12 => ?_)))
 exact awp_seq (zg [4] 0 (then_n (awp_ret (inb_r (then_r (rr h11 ⟨rfl, er0 _⟩))))))
 exact awp_skip (inb_n (then_n (zg [0, 1, 12, 13] 0 (rn h12))))
 exact awp_exit (then_e (re h7 ⟨rfl, kq⟩))
 intro e15 s16 o17
 rcases y3 with g4 | y5
 have h18 := elim_l h14
 exact zi o17 (awp_seq (zg [4] 0 (then_n (awp_ret (er1 h18)))))
 have h19 := elim_r h14
 obtain ⟨rfl, n21⟩ := o17
 refine inb_r (then_r ?_)
 obtain rfl := Option.some.inj h19
 exact n21
theorem model_Same_2_ok (a0 : TRouteMap) (a1 : TRouteMap) (r : Bool) (h : M.model_Same_2 a0 a1 = some r) : Fn Tryz.prog 76 [.agg (c_TRouteMap a0), .agg (c_TRouteMap a1)] (.pure (.bool r)) := by
 unfold M.model_Same_2 at h
 refine fn_pure Tryz.func76 rfl (by kernel_rfl) (awp_seq (zg [2, 3] 2 (then_n (awp_seq ?_))))
 obtain ⟨r1, q1, h2⟩ := bind_some h
 exact zr [4] 0 nil_all (rq2 (fun hg => slices_Equal_api_Clause_api_Clause_ok _ _ _ (gc_some q1 hg)) rqn) (then_n (awp_ret (er1 h2)))
theorem slices_EqualFunc_api_RouteMap_api_RouteMap_api_RouteMap_api_RouteMap__model_Same_2_ok (a0 : List TRouteMap) (a1 : List TRouteMap) (r : Bool) (h : M.slices_EqualFunc_api_RouteMap_api_RouteMap_api_RouteMap_api_RouteMap__model_Same_2 a0 a1 = some r) : Fn Tryz.prog 75 [sL 2 c_TRouteMap a0, sL 2 c_TRouteMap a1, .fn 76 []] (.pure (.bool r)) := by
 unfold M.slices_EqualFunc_api_RouteMap_api_RouteMap_api_RouteMap_api_RouteMap__model_Same_2 at h
 refine fn_pure Tryz.func75 rfl (by kernel_rfl) (awp_seq (zg [0, 1, 2] 0 (then_n (awp_seq (awp_seq (zg [0, 1, 2, 14] 0 (then_n (cn h (fun _ h2 => ?_) (fun _ h3 => ?_)))))))))
 exact awp_seq (zg [6] 0 (then_n (awp_ret (then_r (er1 h2)))))
 refine awp_skip (then_n (awp_seq (awp_seq (zg [1, 2, 15, 16, 17] 0 (then_n (awp_block ?_))))))
 obtain ⟨y4, q17, h18⟩ := bind_some h3
 refine zl (fun (p1 : Int) => ⟨32, [(1, sL 2 c_TRouteMap a1), (2, .fn 76 []), (15, sL 2 c_TRouteMap a0), (16, .int .i64 (a0.length : Int)), (17, .int .i64 p1)], []⟩) (Sum.elim (fun z => OutE 0 (fun z => ⟨32, [], []⟩) z) (fun z => OutR Tryz.prog Tryz.f75 (.bool z))) q17 ?_ ?_
 intro p1 y2 h4
 unfold M.slices_EqualFunc_api_RouteMap_api_RouteMap_api_RouteMap_api_RouteMap__model_Same_2_l1 at h4
 refine awp_seq (zg [1, 2, 15, 16, 17, 18] 0 (then_n (awp_seq (cn h4 (fun _ h6 => ?_) (fun _ h7 => ?_)))))
 refine awp_skip (then_n (awp_seq (awp_block (awp_seq ?_))))
 obtain ⟨c8, h9⟩ := gd_some h6
 refine zc [1, 2, 7, 8, 15, 16, 17] 1 c8 (then_n (awp_seq ?_))
 obtain ⟨c10, h11⟩ := gd_some h9
 refine zc [1, 2, 8, 9, 15, 16, 17] 2 c10 (then_n (awp_seq ?_))
 obtain ⟨r3, q12, h13⟩ := bind_some h11
 refine zr [1, 2, 15, 16, 17, 30] 0 nil_all (rq1 (model_Same_2_ok _ _ _ q12) rqn) (then_n (cn h13 (fun _ h15 => ?_) (fun _ h16 => ?_)))
 exact awp_seq (zg [6] 0 (then_n (awp_ret (inb_r (then_r (rr h15 ⟨rfl, er0 _⟩))))))
 exact awp_skip (inb_n (then_n (zg [1, 2, 15, 16, 17] 0 (rn h16))))
 exact awp_exit (then_e (re h7 ⟨rfl, kq⟩))
 intro e19 s20 o21
 rcases y4 with g5 | y6
 have h22 := elim_l h18
 exact zi o21 (awp_seq (zg [6] 0 (then_n (awp_ret (er1 h22)))))
 have h23 := elim_r h18
 obtain ⟨rfl, n25⟩ := o21
 refine inb_r (then_r ?_)
 obtain rfl := Option.some.inj h23
 exact n25
theorem slices_Equal_api_Rule_api_Rule_ok (a0 : List TRule) (a1 : List TRule) (r : Bool) (h : M.slices_Equal_api_Rule_api_Rule a0 a1 = some r) : Fn Tryz.prog 80 [sL 10 c_TRule a0, sL 10 c_TRule a1] (.pure (.bool r)) := by
 unfold M.slices_Equal_api_Rule_api_Rule at h
 refine fn_pure Tryz.func80 rfl (by kernel_rfl) (awp_seq (zg [0, 1] 0 (then_n (awp_seq (awp_seq (zg [0, 1, 10] 0 (then_n (cn h (fun _ h2 => ?_) (fun _ h3 => ?_)))))))))
 exact awp_seq (zg [4] 0 (then_n (awp_ret (then_r (er1 h2)))))
 refine awp_skip (then_n (awp_seq (awp_seq (zg [0, 1, 12, 13] 0 (then_n (awp_block ?_))))))
 obtain ⟨y3, q13, h14⟩ := bind_some h3
 refine zl (fun (p1 : Int) => ⟨26, [(0, sL 10 c_TRule a0), (1, sL 10 c_TRule a1), (12, .int .i64 (a0.length : Int)), (13, .int .i64 p1)], []⟩) (Sum.elim (fun z => OutE 0 (fun z => ⟨26, [], []⟩) z) (fun z => OutR Tryz.prog Tryz.f80 (.bool z))) q13 ?_ ?_
 intro p1 y2 h4
 unfold M.slices_Equal_api_Rule_api_Rule_l1 at h4
 refine awp_seq (zg [0, 1, 12, 13, 14] 0 (then_n (awp_seq (cn h4 (fun _ h6 => ?_) (fun _ h7 => ?_)))))
 refine awp_skip (then_n (awp_seq (awp_block (awp_seq (zg [0, 1, 5, 12, 13] 0 (then_n (awp_seq ?_)))))))
 obtain ⟨c8, h9⟩ := gd_some h6
 refine zc [0, 1, 12, 13, 24] 0 c8 (then_n (cn h9 (fun _ h11 => ?_) (fun _ h12 => ?_)))
 exact awp_seq (zg [4] 0 (then_n (awp_ret (inb_r (then_r (rr h11 ⟨rfl, er0 _⟩))))))
 exact awp_skip (inb_n (then_n (zg [0, 1, 12, 13] 0 (rn h12))))
 exact awp_exit (then_e (re h7 ⟨rfl, kq⟩))
 intro e15 s16 o17
 rcases y3 with g4 | y5
 have h18 := elim_l h14
 exact zi o17 (awp_seq (zg [4] 0 (then_n (awp_ret (er1 h18)))))
 have h19 := elim_r h14
 obtain ⟨rfl, n21⟩ := o17
 refine inb_r (then_r ?_)
 obtain rfl := Option.some.inj h19
 exact n21
theorem model_Same_3_ok (a0 : TACL) (a1 : TACL) (r : Bool) (h : M.model_Same_3 a0 a1 = some r) : Fn Tryz.prog 79 [.agg (c_TACL a0), .agg (c_TACL a1)] (.pure (.bool r)) := by
 unfold M.model_Same_3 at h
 refine fn_pure Tryz.func79 rfl (by kernel_rfl) (awp_seq (zg [2, 3] 2 (then_n (awp_seq ?_))))
 obtain ⟨r1, q1, h2⟩ := bind_some h
 exact zr [4] 0 nil_all (rq2 (fun hg => slices_Equal_api_Rule_api_Rule_ok _ _ _ (gc_some q1 hg)) rqn) (then_n (awp_ret (er1 h2)))
theorem slices_EqualFunc_api_ACL_api_ACL_api_ACL_api_ACL__model_Same_3_ok (a0 : List TACL) (a1 : List TACL) (r : Bool) (h : M.slices_EqualFunc_api_ACL_api_ACL_api_ACL_api_ACL__model_Same_3 a0 a1 = some r) : Fn Tryz.prog 78 [sL 2 c_TACL a0, sL 2 c_TACL a1, .fn 79 []] (.pure (.bool r)) := by
 unfold M.slices_EqualFunc_api_ACL_api_ACL_api_ACL_api_ACL__model_Same_3 at h
 refine fn_pure Tryz.func78 rfl (by kernel_rfl) (awp_seq (zg [0, 1, 2] 0 (then_n (awp_seq (awp_seq (zg [0, 1, 2, 14] 0 (then_n (cn h (fun _ h2 => ?_) (fun _ h3 => ?_)))))))))
 exact awp_seq (zg [6] 0 (then_n (awp_ret (then_r (er1 h2)))))
 refine awp_skip (then_n (awp_seq (awp_seq (zg [1, 2, 15, 16, 17] 0 (then_n (awp_block ?_))))))
 obtain ⟨y4, q17, h18⟩ := bind_some h3
 refine zl (fun (p1 : Int) => ⟨32, [(1, sL 2 c_TACL a1), (2, .fn 79 []), (15, sL 2 c_TACL a0), (16, .int .i64 (a0.length : Int)), (17, .int .i64 p1)], []⟩) (Sum.elim (fun z => OutE 0 (fun z => ⟨32, [], []⟩) z) (fun z => OutR Tryz.prog Tryz.f78 (.bool z))) q17 ?_ ?_
 intro p1 y2 h4
 unfold M.slices_EqualFunc_api_ACL_api_ACL_api_ACL_api_ACL__model_Same_3_l1 at h4
 refine awp_seq (zg [1, 2, 15, 16, 17, 18] 0 (then_n (awp_seq (cn h4 (fun _ h6 => ?_) (fun _ h7 => ?_)))))
 refine awp_skip (then_n (awp_seq (awp_block (awp_seq ?_))))
 obtain ⟨c8, h9⟩ := gd_some h6
 refine zc [1, 2, 7, 8, 15, 16, 17] 1 c8 (then_n (awp_seq ?_))
 obtain ⟨c10, h11⟩ := gd_some h9
 refine zc [1, 2, 8, 9, 15, 16, 17] 2 c10 (then_n (awp_seq ?_))
 obtain ⟨r3, q12, h13⟩ := bind_some h11
 refine zr [1, 2, 15, 16, 17, 30] 0 nil_all (rq1 (model_Same_3_ok _ _ _ q12) rqn) (then_n (cn h13 (fun _ h15 => ?_) (fun _ h16 => ?_)))
 exact awp_seq (zg [6] 0 (then_n (awp_ret (inb_r (then_r (rr h15 ⟨rfl, er0 _⟩))))))
 exact awp_skip (inb_n (then_n (zg [1, 2, 15, 16, 17] 0 (rn h16))))
 exact awp_exit (then_e (re h7 ⟨rfl, kq⟩))
 intro e19 s20 o21
 rcases y4 with g5 | y6
 have h22 := elim_l h18
 exact zi o21 (awp_seq (zg [6] 0 (then_n (awp_ret (er1 h22)))))
 have h23 := elim_r h18
 obtain ⟨rfl, n25⟩ := o21
 refine inb_r (then_r ?_)
 obtain rfl := Option.some.inj h23
 exact n25
theorem slices_Equal_api_Translation_api_Translation_ok (a0 : List TTranslation) (a1 : List TTranslation) (r : Bool) (h : M.slices_Equal_api_Translation_api_Translation a0 a1 = some r) : Fn Tryz.prog 81 [sL 9 c_TTranslation a0, sL 9 c_TTranslation a1] (.pure (.bool r)) := by
 unfold M.slices_Equal_api_Translation_api_Translation at h
 refine fn_pure Tryz.func81 rfl (by kernel_rfl) (awp_seq (zg [0, 1] 0 (then_n (awp_seq (awp_seq (zg [0, 1, 10] 0 (then_n (cn h (fun _ h2 => ?_) (fun _ h3 => ?_)))))))))
 exact awp_seq (zg [4] 0 (then_n (awp_ret (then_r (er1 h2)))))
 refine awp_skip (then_n (awp_seq (awp_seq (zg [0, 1, 12, 13] 0 (then_n (awp_block ?_))))))
 obtain ⟨y3, q13, h14⟩ := bind_some h3
 refine zl (fun (p1 : Int) => ⟨26, [(0, sL 9 c_TTranslation a0), (1, sL 9 c_TTranslation a1), (12, .int .i64 (a0.length : Int)), (13, .int .i64 p1)], []⟩) (Sum.elim (fun z => OutE 0 (fun z => ⟨26, [], []⟩) z) (fun z => OutR Tryz.prog Tryz.f81 (.bool z))) q13 ?_ ?_
 intro p1 y2 h4
 unfold M.slices_Equal_api_Translation_api_Translation_l1 at h4
 refine awp_seq (zg [0, 1, 12, 13, 14] 0 (then_n (awp_seq (cn h4 (fun _ h6 => ?_) (fun _ h7 => ?_)))))
 refine awp_skip (then_n (awp_seq (awp_block (awp_seq (zg [0, 1, 5, 12, 13] 0 (then_n (awp_seq ?_)))))))
 obtain ⟨c8, h9⟩ := gd_some h6
 refine zc [0, 1, 12, 13, 24] 0 c8 (then_n (cn h9 (fun _ h11 => ?_) (fun _ h12 => ?_)))
 exact awp_seq (zg [4] 0 (then_n (awp_ret (inb_r (then_r (rr h11 ⟨rfl, er0 _⟩))))))
 exact awp_skip (inb_n (then_n (zg [0, 1, 12, 13] 0 (rn h12))))
 exact awp_exit (then_e (re h7 ⟨rfl, kq⟩))
 intro e15 s16 o17
 rcases y3 with g4 | y5
 have h18 := elim_l h14
 exact zi o17 (awp_seq (zg [4] 0 (then_n (awp_ret (er1 h18)))))
 have h19 := elim_r h14
 obtain ⟨rfl, n21⟩ := o17
 refine inb_r (then_r ?_)
 obtain rfl := Option.some.inj h19
 exact n21
theorem slices_Equal_api_StaticRoute_api_StaticRoute_ok (a0 : List TStaticRoute) (a1 : List TStaticRoute) (r : Bool) (h : M.slices_Equal_api_StaticRoute_api_StaticRoute a0 a1 = some r) : Fn Tryz.prog 82 [sL 7 c_TStaticRoute a0, sL 7 c_TStaticRoute a1] (.pure (.bool r)) := by
 unfold M.slices_Equal_api_StaticRoute_api_StaticRoute at h
 refine fn_pure Tryz.func82 rfl (by kernel_rfl) (awp_seq (zg [0, 1] 0 (then_n (awp_seq (awp_seq (zg [0, 1, 10] 0 (then_n (cn h (fun _ h2 => ?_) (fun _ h3 => ?_)))))))))
 exact awp_seq (zg [4] 0 (then_n (awp_ret (then_r (er1 h2)))))
 refine awp_skip (then_n (awp_seq (awp_seq (zg [0, 1, 12, 13] 0 (then_n (awp_block ?_))))))
 obtain ⟨y3, q13, h14⟩ := bind_some h3
 refine zl (fun (p1 : Int) => ⟨26, [(0, sL 7 c_TStaticRoute a0), (1, sL 7 c_TStaticRoute a1), (12, .int .i64 (a0.length : Int)), (13, .int .i64 p1)], []⟩) (Sum.elim (fun z => OutE 0 (fun z => ⟨26, [], []⟩) z) (fun z => OutR Tryz.prog Tryz.f82 (.bool z))) q13 ?_ ?_
 intro p1 y2 h4
 unfold M.slices_Equal_api_StaticRoute_api_StaticRoute_l1 at h4
 refine awp_seq (zg [0, 1, 12, 13, 14] 0 (then_n (awp_seq (cn h4 (fun _ h6 => ?_) (fun _ h7 => ?_)))))
 refine awp_skip (then_n (awp_seq (awp_block (awp_seq (zg [0, 1, 5, 12, 13] 0 (then_n (awp_seq ?_)))))))
 obtain ⟨c8, h9⟩ := gd_some h6
 refine zc [0, 1, 12, 13, 24] 0 c8 (then_n (cn h9 (fun _ h11 => ?_) (fun _ h12 => ?_)))
 exact awp_seq (zg [4] 0 (then_n (awp_ret (inb_r (then_r (rr h11 ⟨rfl, er0 _⟩))))))
 exact awp_skip (inb_n (then_n (zg [0, 1, 12, 13] 0 (rn h12))))
 exact awp_exit (then_e (re h7 ⟨rfl, kq⟩))
 intro e15 s16 o17
 rcases y3 with g4 | y5
 have h18 := elim_l h14
 exact zi o17 (awp_seq (zg [4] 0 (then_n (awp_ret (er1 h18)))))
 have h19 := elim_r h14
 obtain ⟨rfl, n21⟩ := o17
 refine inb_r (then_r ?_)
 obtain rfl := Option.some.inj h19
 exact n21
theorem slices_Equal_api_AreaRange_api_AreaRange_ok (a0 : List TAreaRange) (a1 : List TAreaRange) (r : Bool) (h : M.slices_Equal_api_AreaRange_api_AreaRange a0 a1 = some r) : Fn Tryz.prog 107 [sL 3 c_TAreaRange a0, sL 3 c_TAreaRange a1] (.pure (.bool r)) := by
 unfold M.slices_Equal_api_AreaRange_api_AreaRange at h
 refine fn_pure Tryz.func107 rfl (by kernel_rfl) (awp_seq (zg [0, 1] 0 (then_n (awp_seq (awp_seq (zg [0, 1, 10] 0 (then_n (cn h (fun _ h2 => ?_) (fun _ h3 => ?_)))))))))
 exact awp_seq (zg [4] 0 (then_n (awp_ret (then_r (er1 h2)))))
 refine awp_skip (then_n (awp_seq (awp_seq (zg [0, 1, 12, 13] 0 (then_n (awp_block ?_))))))
 obtain ⟨y3, q13, h14⟩ := bind_some h3
 refine zl (fun (p1 : Int) => ⟨26, [(0, sL 3 c_TAreaRange a0), (1, sL 3 c_TAreaRange a1), (12, .int .i64 (a0.length : Int)), (13, .int .i64 p1)], []⟩) (Sum.elim (fun z => OutE 0 (fun z => ⟨26, [], []⟩) z) (fun z => OutR Tryz.prog Tryz.f107 (.bool z))) q13 ?_ ?_
 intro p1 y2 h4
 unfold M.slices_Equal_api_AreaRange_api_AreaRange_l1 at h4
 refine awp_seq (zg [0, 1, 12, 13, 14] 0 (then_n (awp_seq (cn h4 (fun _ h6 => ?_) (fun _ h7 => ?_)))))
 refine awp_skip (then_n (awp_seq (awp_block (awp_seq (zg [0, 1, 5, 12, 13] 0 (then_n (awp_seq ?_)))))))
 obtain ⟨c8, h9⟩ := gd_some h6
 refine zc [0, 1, 12, 13, 24] 0 c8 (then_n (cn h9 (fun _ h11 => ?_) (fun _ h12 => ?_)))
 exact awp_seq (zg [4] 0 (then_n (awp_ret (inb_r (then_r (rr h11 ⟨rfl, er0 _⟩))))))
 exact awp_skip (inb_n (then_n (zg [0, 1, 12, 13] 0 (rn h12))))
 exact awp_exit (then_e (re h7 ⟨rfl, kq⟩))
 intro e15 s16 o17
 rcases y3 with g4 | y5
 have h18 := elim_l h14
 exact zi o17 (awp_seq (zg [4] 0 (then_n (awp_ret (er1 h18)))))
 have h19 := elim_r h14
 obtain ⟨rfl, n21⟩ := o17
 refine inb_r (then_r ?_)
 obtain rfl := Option.some.inj h19
 exact n21
theorem slices_Equal_api_Redist_api_Redist_ok (a0 : List TRedist) (a1 : List TRedist) (r : Bool) (h : M.slices_Equal_api_Redist_api_Redist a0 a1 = some r) : Fn Tryz.prog 108 [sL 5 c_TRedist a0, sL 5 c_TRedist a1] (.pure (.bool r)) := by
 unfold M.slices_Equal_api_Redist_api_Redist at h
 refine fn_pure Tryz.func108 rfl (by kernel_rfl) (awp_seq (zg [0, 1] 0 (then_n (awp_seq (awp_seq (zg [0, 1, 10] 0 (then_n (cn h (fun _ h2 => ?_) (fun _ h3 => ?_)))))))))
 exact awp_seq (zg [4] 0 (then_n (awp_ret (then_r (er1 h2)))))
 refine awp_skip (then_n (awp_seq (awp_seq (zg [0, 1, 12, 13] 0 (then_n (awp_block ?_))))))
 obtain ⟨y3, q13, h14⟩ := bind_some h3
 refine zl (fun (p1 : Int) => ⟨26, [(0, sL 5 c_TRedist a0), (1, sL 5 c_TRedist a1), (12, .int .i64 (a0.length : Int)), (13, .int .i64 p1)], []⟩) (Sum.elim (fun z => OutE 0 (fun z => ⟨26, [], []⟩) z) (fun z => OutR Tryz.prog Tryz.f108 (.bool z))) q13 ?_ ?_
 intro p1 y2 h4
 unfold M.slices_Equal_api_Redist_api_Redist_l1 at h4
 refine awp_seq (zg [0, 1, 12, 13, 14] 0 (then_n (awp_seq (cn h4 (fun _ h6 => ?_) (fun _ h7 => ?_)))))
 refine awp_skip (then_n (awp_seq (awp_block (awp_seq (zg [0, 1, 5, 12, 13] 0 (then_n (awp_seq ?_)))))))
 obtain ⟨c8, h9⟩ := gd_some h6
 refine zc [0, 1, 12, 13, 24] 0 c8 (then_n (cn h9 (fun _ h11 => ?_) (fun _ h12 => ?_)))
 exact awp_seq (zg [4] 0 (then_n (awp_ret (inb_r (then_r (rr h11 ⟨rfl, er0 _⟩))))))
 exact awp_skip (inb_n (then_n (zg [0, 1, 12, 13] 0 (rn h12))))
 exact awp_exit (then_e (re h7 ⟨rfl, kq⟩))
 intro e15 s16 o17
 rcases y3 with g4 | y5
 have h18 := elim_l h14
 exact zi o17 (awp_seq (zg [4] 0 (then_n (awp_ret (er1 h18)))))
 have h19 := elim_r h14
 obtain ⟨rfl, n21⟩ := o17
 refine inb_r (then_r ?_)
 obtain rfl := Option.some.inj h19
 exact n21
theorem model_sameLinkState_ok (a0 : TLinkState) (a1 : TLinkState) (r : Bool) (h : M.model_sameLinkState a0 a1 = some r) : Fn Tryz.prog 83 [.agg (c_TLinkState a0), .agg (c_TLinkState a1)] (.pure (.bool r)) := by
 unfold M.model_sameLinkState at h
 refine fn_pure Tryz.func83 rfl (by kernel_rfl) (awp_seq (zg [2, 3] 2 (then_n (awp_seq ?_))))
 obtain ⟨r1, q1, h2⟩ := bind_some h
 obtain ⟨r2, q3, h4⟩ := bind_some h2
 exact zr [4] 0 nil_all (rq2 (fun hg => slices_Equal_api_AreaRange_api_AreaRange_ok _ _ _ (gc_some q1 hg)) (rq2 (fun hg => slices_Equal_api_Redist_api_Redist_ok _ _ _ (gc_some q3 hg)) rqn)) (then_n (awp_ret (er1 h4)))
theorem model_sameDistanceVector_ok (a0 : TDistanceVector) (a1 : TDistanceVector) (r : Bool) (h : M.model_sameDistanceVector a0 a1 = some r) : Fn Tryz.prog 84 [.agg (c_TDistanceVector a0), .agg (c_TDistanceVector a1)] (.pure (.bool r)) := by
 unfold M.model_sameDistanceVector at h
 refine fn_pure Tryz.func84 rfl (by kernel_rfl) (awp_seq (zg [2, 3] 2 (then_n (awp_seq ?_))))
 obtain ⟨r1, q1, h2⟩ := bind_some h
 exact zr [4] 0 nil_all (rq2 (fun hg => slices_Equal_api_Redist_api_Redist_ok _ _ _ (gc_some q1 hg)) rqn) (then_n (awp_ret (er1 h2)))
theorem slices_Equal_api_Neighbor_api_Neighbor_ok (a0 : List TNeighbor) (a1 : List TNeighbor) (r : Bool) (h : M.slices_Equal_api_Neighbor_api_Neighbor a0 a1 = some r) : Fn Tryz.prog 109 [sL 4 c_TNeighbor a0, sL 4 c_TNeighbor a1] (.pure (.bool r)) := by
 unfold M.slices_Equal_api_Neighbor_api_Neighbor at h
 refine fn_pure Tryz.func109 rfl (by kernel_rfl) (awp_seq (zg [0, 1] 0 (then_n (awp_seq (awp_seq (zg [0, 1, 10] 0 (then_n (cn h (fun _ h2 => ?_) (fun _ h3 => ?_)))))))))
 exact awp_seq (zg [4] 0 (then_n (awp_ret (then_r (er1 h2)))))
 refine awp_skip (then_n (awp_seq (awp_seq (zg [0, 1, 12, 13] 0 (then_n (awp_block ?_))))))
 obtain ⟨y3, q13, h14⟩ := bind_some h3
 refine zl (fun (p1 : Int) => ⟨26, [(0, sL 4 c_TNeighbor a0), (1, sL 4 c_TNeighbor a1), (12, .int .i64 (a0.length : Int)), (13, .int .i64 p1)], []⟩) (Sum.elim (fun z => OutE 0 (fun z => ⟨26, [], []⟩) z) (fun z => OutR Tryz.prog Tryz.f109 (.bool z))) q13 ?_ ?_
 intro p1 y2 h4
 unfold M.slices_Equal_api_Neighbor_api_Neighbor_l1 at h4
 refine awp_seq (zg [0, 1, 12, 13, 14] 0 (then_n (awp_seq (cn h4 (fun _ h6 => ?_) (fun _ h7 => ?_)))))
 refine awp_skip (then_n (awp_seq (awp_block (awp_seq (zg [0, 1, 5, 12, 13] 0 (then_n (awp_seq ?_)))))))
 obtain ⟨c8, h9⟩ := gd_some h6
 refine zc [0, 1, 12, 13, 24] 0 c8 (then_n (cn h9 (fun _ h11 => ?_) (fun _ h12 => ?_)))
 exact awp_seq (zg [4] 0 (then_n (awp_ret (inb_r (then_r (rr h11 ⟨rfl, er0 _⟩))))))
 exact awp_skip (inb_n (then_n (zg [0, 1, 12, 13] 0 (rn h12))))
 exact awp_exit (then_e (re h7 ⟨rfl, kq⟩))
 intro e15 s16 o17
 rcases y3 with g4 | y5
 have h18 := elim_l h14
 exact zi o17 (awp_seq (zg [4] 0 (then_n (awp_ret (er1 h18)))))
 have h19 := elim_r h14
 obtain ⟨rfl, n21⟩ := o17
 refine inb_r (then_r ?_)
 obtain rfl := Option.some.inj h19
 exact n21
theorem slices_Equal_api_Prefix_api_Prefix_ok (a0 : List TPrefix) (a1 : List TPrefix) (r : Bool) (h : M.slices_Equal_api_Prefix_api_Prefix a0 a1 = some r) : Fn Tryz.prog 110 [sL 2 c_TPrefix a0, sL 2 c_TPrefix a1] (.pure (.bool r)) := by
 unfold M.slices_Equal_api_Prefix_api_Prefix at h
 refine fn_pure Tryz.func110 rfl (by kernel_rfl) (awp_seq (zg [0, 1] 0 (then_n (awp_seq (awp_seq (zg [0, 1, 10] 0 (then_n (cn h (fun _ h2 => ?_) (fun _ h3 => ?_)))))))))
 exact awp_seq (zg [4] 0 (then_n (awp_ret (then_r (er1 h2)))))
 refine awp_skip (then_n (awp_seq (awp_seq (zg [0, 1, 12, 13] 0 (then_n (awp_block ?_))))))
 obtain ⟨y3, q13, h14⟩ := bind_some h3
 refine zl (fun (p1 : Int) => ⟨26, [(0, sL 2 c_TPrefix a0), (1, sL 2 c_TPrefix a1), (12, .int .i64 (a0.length : Int)), (13, .int .i64 p1)], []⟩) (Sum.elim (fun z => OutE 0 (fun z => ⟨26, [], []⟩) z) (fun z => OutR Tryz.prog Tryz.f110 (.bool z))) q13 ?_ ?_
 intro p1 y2 h4
 unfold M.slices_Equal_api_Prefix_api_Prefix_l1 at h4
 refine awp_seq (zg [0, 1, 12, 13, 14] 0 (then_n (awp_seq (cn h4 (fun _ h6 => ?_) (fun _ h7 => ?_)))))
 refine awp_skip (then_n (awp_seq (awp_block (awp_seq (zg [0, 1, 5, 12, 13] 0 (then_n (awp_seq ?_)))))))
 obtain ⟨c8, h9⟩ := gd_some h6
 refine zc [0, 1, 12, 13, 24] 0 c8 (then_n (cn h9 (fun _ h11 => ?_) (fun _ h12 => ?_)))
 exact awp_seq (zg [4] 0 (then_n (awp_ret (inb_r (then_r (rr h11 ⟨rfl, er0 _⟩))))))
 exact awp_skip (inb_n (then_n (zg [0, 1, 12, 13] 0 (rn h12))))
 exact awp_exit (then_e (re h7 ⟨rfl, kq⟩))
 intro e15 s16 o17
 rcases y3 with g4 | y5
 have h18 := elim_l h14
 exact zi o17 (awp_seq (zg [4] 0 (then_n (awp_ret (er1 h18)))))
 have h19 := elim_r h14
 obtain ⟨rfl, n21⟩ := o17
 refine inb_r (then_r ?_)
 obtain rfl := Option.some.inj h19
 exact n21
theorem slices_Equal_api_Aggregate_api_Aggregate_ok (a0 : List TAggregate) (a1 : List TAggregate) (r : Bool) (h : M.slices_Equal_api_Aggregate_api_Aggregate a0 a1 = some r) : Fn Tryz.prog 111 [sL 3 c_TAggregate a0, sL 3 c_TAggregate a1] (.pure (.bool r)) := by
 unfold M.slices_Equal_api_Aggregate_api_Aggregate at h
 refine fn_pure Tryz.func111 rfl (by kernel_rfl) (awp_seq (zg [0, 1] 0 (then_n (awp_seq (awp_seq (zg [0, 1, 10] 0 (then_n (cn h (fun _ h2 => ?_) (fun _ h3 => ?_)))))))))
 exact awp_seq (zg [4] 0 (then_n (awp_ret (then_r (er1 h2)))))
 refine awp_skip (then_n (awp_seq (awp_seq (zg [0, 1, 12, 13] 0 (then_n (awp_block ?_))))))
 obtain ⟨y3, q13, h14⟩ := bind_some h3
 refine zl (fun (p1 : Int) => ⟨26, [(0, sL 3 c_TAggregate a0), (1, sL 3 c_TAggregate a1), (12, .int .i64 (a0.length : Int)), (13, .int .i64 p1)], []⟩) (Sum.elim (fun z => OutE 0 (fun z => ⟨26, [], []⟩) z) (fun z => OutR Tryz.prog Tryz.f111 (.bool z))) q13 ?_ ?_
 intro p1 y2 h4
 unfold M.slices_Equal_api_Aggregate_api_Aggregate_l1 at h4
 refine awp_seq (zg [0, 1, 12, 13, 14] 0 (then_n (awp_seq (cn h4 (fun _ h6 => ?_) (fun _ h7 => ?_)))))
 refine awp_skip (then_n (awp_seq (awp_block (awp_seq (zg [0, 1, 5, 12, 13] 0 (then_n (awp_seq ?_)))))))
 obtain ⟨c8, h9⟩ := gd_some h6
 refine zc [0, 1, 12, 13, 24] 0 c8 (then_n (cn h9 (fun _ h11 => ?_) (fun _ h12 => ?_)))
 exact awp_seq (zg [4] 0 (then_n (awp_ret (inb_r (then_r (rr h11 ⟨rfl, er0 _⟩))))))
 exact awp_skip (inb_n (then_n (zg [0, 1, 12, 13] 0 (rn h12))))
 exact awp_exit (then_e (re h7 ⟨rfl, kq⟩))
 intro e15 s16 o17
 rcases y3 with g4 | y5
 have h18 := elim_l h14
 exact zi o17 (awp_seq (zg [4] 0 (then_n (awp_ret (er1 h18)))))
 have h19 := elim_r h14
 obtain ⟨rfl, n21⟩ := o17
 refine inb_r (then_r ?_)
 obtain rfl := Option.some.inj h19
 exact n21
theorem slices_Equal_api_Condition_api_Condition_ok (a0 : List TCondition) (a1 : List TCondition) (r : Bool) (h : M.slices_Equal_api_Condition_api_Condition a0 a1 = some r) : Fn Tryz.prog 112 [sL 5 c_TCondition a0, sL 5 c_TCondition a1] (.pure (.bool r)) := by
 unfold M.slices_Equal_api_Condition_api_Condition at h
 refine fn_pure Tryz.func112 rfl (by kernel_rfl) (awp_seq (zg [0, 1] 0 (then_n (awp_seq (awp_seq (zg [0, 1, 10] 0 (then_n (cn h (fun _ h2 => ?_) (fun _ h3 => ?_)))))))))
 exact awp_seq (zg [4] 0 (then_n (awp_ret (then_r (er1 h2)))))
 refine awp_skip (then_n (awp_seq (awp_seq (zg [0, 1, 12, 13] 0 (then_n (awp_block ?_))))))
 obtain ⟨y3, q13, h14⟩ := bind_some h3
 refine zl (fun (p1 : Int) => ⟨26, [(0, sL 5 c_TCondition a0), (1, sL 5 c_TCondition a1), (12, .int .i64 (a0.length : Int)), (13, .int .i64 p1)], []⟩) (Sum.elim (fun z => OutE 0 (fun z => ⟨26, [], []⟩) z) (fun z => OutR Tryz.prog Tryz.f112 (.bool z))) q13 ?_ ?_
 intro p1 y2 h4
 unfold M.slices_Equal_api_Condition_api_Condition_l1 at h4
 refine awp_seq (zg [0, 1, 12, 13, 14] 0 (then_n (awp_seq (cn h4 (fun _ h6 => ?_) (fun _ h7 => ?_)))))
 refine awp_skip (then_n (awp_seq (awp_block (awp_seq (zg [0, 1, 5, 12, 13] 0 (then_n (awp_seq ?_)))))))
 obtain ⟨c8, h9⟩ := gd_some h6
 refine zc [0, 1, 12, 13, 24] 0 c8 (then_n (cn h9 (fun _ h11 => ?_) (fun _ h12 => ?_)))
 exact awp_seq (zg [4] 0 (then_n (awp_ret (inb_r (then_r (rr h11 ⟨rfl, er0 _⟩))))))
 exact awp_skip (inb_n (then_n (zg [0, 1, 12, 13] 0 (rn h12))))
 exact awp_exit (then_e (re h7 ⟨rfl, kq⟩))
 intro e15 s16 o17
 rcases y3 with g4 | y5
 have h18 := elim_l h14
 exact zi o17 (awp_seq (zg [4] 0 (then_n (awp_ret (er1 h18)))))
 have h19 := elim_r h14
 obtain ⟨rfl, n21⟩ := o17
 refine inb_r (then_r ?_)
 obtain rfl := Option.some.inj h19
 exact n21
theorem model_samePathVector_ok (a0 : TPathVector) (a1 : TPathVector) (r : Bool) (h : M.model_samePathVector a0 a1 = some r) : Fn Tryz.prog 85 [.agg (c_TPathVector a0), .agg (c_TPathVector a1)] (.pure (.bool r)) := by
 unfold M.model_samePathVector at h
 refine fn_pure Tryz.func85 rfl (by kernel_rfl) (awp_seq (zg [2, 3] 2 (then_n (awp_seq ?_))))
 obtain ⟨r1, q1, h2⟩ := bind_some h
 obtain ⟨r2, q3, h4⟩ := bind_some h2
 obtain ⟨r3, q5, h6⟩ := bind_some h4
 obtain ⟨r4, q7, h8⟩ := bind_some h6
 obtain ⟨r5, q9, h10⟩ := bind_some h8
 exact zr [4] 0 nil_all (rq2 (fun hg => slices_Equal_api_Neighbor_api_Neighbor_ok _ _ _ (gc_some q1 hg)) (rq2 (fun hg => slices_Equal_api_Prefix_api_Prefix_ok _ _ _ (gc_some q3 hg)) (rq2 (fun hg => slices_Equal_api_Aggregate_api_Aggregate_ok _ _ _ (gc_some q5 hg)) (rq2 (fun hg => slices_Equal_api_Condition_api_Condition_ok _ _ _ (gc_some q7 hg)) (rq2 (fun hg => slices_Equal_api_Redist_api_Redist_ok _ _ _ (gc_some q9 hg)) rqn))))) (then_n (awp_ret (er1 h10)))
theorem model_Same_ok (a0 : TRouter) (a1 : TRouter) (r : Bool) (h : M.model_Same a0 a1 = some r) : Fn Tryz.prog 38 [.agg (c_TRouter a0), .agg (c_TRouter a1)] (.pure (.bool r)) := by
 unfold M.model_Same at h
 refine fn_pure Tryz.func38 rfl (by kernel_rfl) (awp_seq (zg [2, 3] 2 (then_n (awp_seq ?_))))
 obtain ⟨r1, q1, h2⟩ := bind_some h
 obtain ⟨r2, q3, h4⟩ := bind_some h2
 obtain ⟨r3, q5, h6⟩ := bind_some h4
 obtain ⟨r4, q7, h8⟩ := bind_some h6
 obtain ⟨r5, q9, h10⟩ := bind_some h8
 obtain ⟨r6, q11, h12⟩ := bind_some h10
 obtain ⟨r7, q13, h14⟩ := bind_some h12
 obtain ⟨r8, q15, h16⟩ := bind_some h14
 obtain ⟨r9, q17, h18⟩ := bind_some h16
 exact zr [4] 0 nil_all (rq2 (fun hg => slices_Equal_api_Interface_api_Interface_ok _ _ _ (gc_some q1 hg)) (rq2 (fun hg => slices_EqualFunc_api_PrefixList_api_PrefixList_api_PrefixList_api_PrefixList__model_Same_1_ok _ _ _ (gc_some q3 hg)) (rq2 (fun hg => slices_EqualFunc_api_RouteMap_api_RouteMap_api_RouteMap_api_RouteMap__model_Same_2_ok _ _ _ (gc_some q5 hg)) (rq2 (fun hg => slices_EqualFunc_api_ACL_api_ACL_api_ACL_api_ACL__model_Same_3_ok _ _ _ (gc_some q7 hg)) (rq2 (fun hg => slices_Equal_api_Translation_api_Translation_ok _ _ _ (gc_some q9 hg)) (rq2 (fun hg => slices_Equal_api_StaticRoute_api_StaticRoute_ok _ _ _ (gc_some q11 hg)) (rq2 (fun hg => model_sameLinkState_ok _ _ _ (gc_some q13 hg)) (rq2 (fun hg => model_sameDistanceVector_ok _ _ _ (gc_some q15 hg)) (rq2 (fun hg => model_samePathVector_ok _ _ _ (gc_some q17 hg)) rqn))))))))) (then_n (awp_ret (er1 h18)))
theorem law5_sane_ok  (r : Bool) (h : M.law5_sane  = some r) : Fn Tryz.prog 9 [] (.pure (.bool r)) := by
 unfold M.law5_sane at h
 refine fn_pure Tryz.func9 rfl (by kernel_rfl) (awp_seq (zg [] 0 (then_n (awp_seq ?_))))
 obtain ⟨r1, q1, h2⟩ := bind_some h
 let u1 := c_TRouter r1
 refine rg [.pure (.agg u1)] [1] 1 ⟨35, [(1, .ref 0 0)], [.box u1]⟩ [] [⟨true, 37, [], .pure (.agg u1)⟩] nil_all ⟨fun _ => law5_sample_ok  r1 q1, trivial⟩ (then_n (awp_seq (zg [1, 2] 2 (then_n (awp_seq (zg [1, 2] 2 (then_n (awp_seq ?_))))))))
 obtain ⟨r2, q3, h4⟩ := bind_some h2
 obtain ⟨r3, q5, h6⟩ := bind_some h4
 let u2 := (r2 == 0) && (r3 == 3)
 obtain ⟨r4, q7, h8⟩ := bind_some h6
 obtain ⟨r5, q9, h10⟩ := bind_some h8
 obtain ⟨r6, q11, h12⟩ := bind_some h10
 obtain ⟨r7, q13, h14⟩ := bind_some h12
 obtain ⟨r8, q15, h16⟩ := bind_some h14
 exact rg [.pure (.int .i64 r2), .pure (.int .i64 r3), .pure (.agg (c_TRouter r4)), .pure (.bool r5), .pure (.bool r6), .pure (.int .i64 r7), .pure (.int .i64 r8)] [0] 0 ⟨35, [(0, .bool ((((u2 && r5) && (!r6)) && (r7 == 1)) && (r8 == 1)))], []⟩ [] [⟨true, 7, [.agg u1], .pure (.int .i64 r2)⟩, ⟨r2 == 0, 7, [.agg [.str (⟨#[49, 114]⟩ : ByteArray), .int .i64 r1.fAS, sL 12 c_TInterface r1.fInterfaces, sL 2 c_TPrefixList r1.fLists, sL 2 c_TRouteMap r1.fMaps, sL 2 c_TACL r1.fACLs, sL 9 c_TTranslation r1.fNAT, sL 7 c_TStaticRoute r1.fStatics, .bool r1.fLS.fOn, .int .i64 r1.fLS.fAdmin, sL 3 c_TAreaRange r1.fLS.fRanges, sL 5 c_TRedist r1.fLS.fRedist, .bool r1.fDV.fOn, .int .i64 r1.fDV.fAdmin, .str r1.fDV.fIn, .str r1.fDV.fOut, sL 5 c_TRedist r1.fDV.fRedist, .bool r1.fPV.fOn, .int .i64 r1.fPV.fExternal, .int .i64 r1.fPV.fInternal, sL 4 c_TNeighbor r1.fPV.fNeighbors, sL 2 c_TPrefix r1.fPV.fNetworks, sL 3 c_TAggregate r1.fPV.fAggregates, sL 5 c_TCondition r1.fPV.fConditions, sL 5 c_TRedist r1.fPV.fRedist]], .pure (.int .i64 r3)⟩, ⟨(r2 == 0) && (r3 == 3), 37, [], .pure (.agg (c_TRouter r4))⟩, ⟨(r2 == 0) && (r3 == 3), 38, [.agg u1, .agg (c_TRouter r4)], .pure (.bool r5)⟩, ⟨u2 && r5, 38, [.agg u1, .agg [.str (⟨#[49, 114]⟩ : ByteArray), .int .i64 r1.fAS, sL 12 c_TInterface r1.fInterfaces, sL 2 c_TPrefixList r1.fLists, sL 2 c_TRouteMap r1.fMaps, sL 2 c_TACL r1.fACLs, sL 9 c_TTranslation r1.fNAT, sL 7 c_TStaticRoute r1.fStatics, .bool r1.fLS.fOn, .int .i64 r1.fLS.fAdmin, sL 3 c_TAreaRange r1.fLS.fRanges, sL 5 c_TRedist r1.fLS.fRedist, .bool r1.fDV.fOn, .int .i64 r1.fDV.fAdmin, .str r1.fDV.fIn, .str r1.fDV.fOut, sL 5 c_TRedist r1.fDV.fRedist, .bool r1.fPV.fOn, .int .i64 r1.fPV.fExternal, .int .i64 r1.fPV.fInternal, sL 4 c_TNeighbor r1.fPV.fNeighbors, sL 2 c_TPrefix r1.fPV.fNetworks, sL 3 c_TAggregate r1.fPV.fAggregates, sL 5 c_TCondition r1.fPV.fConditions, sL 5 c_TRedist r1.fPV.fRedist]], .pure (.bool r6)⟩, ⟨(u2 && r5) && (!r6), 39, [.agg u1, .str (⟨#[101, 49]⟩ : ByteArray)], .pure (.int .i64 r7)⟩, ⟨((u2 && r5) && (!r6)) && (r7 == 1), 40, [.agg u1, .int .u32 167772417], .pure (.int .i64 r8)⟩] nil_all ⟨fun _ => model_CheckRouter_ok r1 r2 q3, fun hg => model_CheckRouter_ok (⟨(⟨#[49, 114]⟩ : ByteArray), r1.fAS, r1.fInterfaces, r1.fLists, r1.fMaps, r1.fACLs, r1.fNAT, r1.fStatics, r1.fLS, r1.fDV, r1.fPV⟩ : TRouter) r3 (gc_some q5 hg), fun hg => law5_sample_ok  r4 (gc_some q7 hg), fun hg => model_Same_ok r1 r4 r5 (gc_some q9 hg), fun hg => model_Same_ok r1 (⟨(⟨#[49, 114]⟩ : ByteArray), r1.fAS, r1.fInterfaces, r1.fLists, r1.fMaps, r1.fACLs, r1.fNAT, r1.fStatics, r1.fLS, r1.fDV, r1.fPV⟩ : TRouter) r6 (gc_some q11 hg), fun hg => model_Interface_ok r1 (⟨#[101, 49]⟩ : ByteArray) r7 (gc_some q13 hg), fun hg => model_Address_ok r1 167772417 r8 (gc_some q15 hg), trivial⟩ (then_n (awp_ret (er1 h16)))
end Nv
