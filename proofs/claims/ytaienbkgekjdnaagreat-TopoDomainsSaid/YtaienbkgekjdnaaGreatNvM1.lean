/- The walks: each function computes its mirror. -/
import Derived.Test.YtaienbkgekjdnaaGreatProg
import Derived.Test.YtaienbkgekjdnaaGreatNvD1
import Derived.Test.YtaienbkgekjdnaaGreatNvLibC
import Derived.Test.YtaienbkgekjdnaaGreatNvLibB
import Derived.KernelRfl
import Derived.Ground.SlsfProg
import Derived.Shelf.Lay
import Derived.Test.YtaienbkgekjdnaaGreatNvLibD
set_option maxRecDepth 100000
namespace Nv
open Go Go.Proofs
theorem law5_Small_ok (a0 : TRouter) (r : Bool) (h : M.law5_Small a0 = some r) : Fn Tryz.prog 36 [.agg (c_TRouter a0)] (.pure (.bool r)) := by
 let u1 : List Ob := [.box (c_TRouter a0)]
 let u2 : St := ⟨141, [(1, .ref 0 0)], u1⟩
 unfold M.law5_Small at h
 refine fn_pure Tryz.func36 rfl (by kernel_rfl) (awp_seq (zg [1] 1 (then_n (awp_seq (awp_seq (zg [1, 95] 1 (then_n (cn h (fun _ h2 => ?_) (fun _ h3 => ?_)))))))))
 exact awp_seq (zg [2] 0 (then_n (awp_ret (then_r (er1 h2)))))
 refine awp_skip (then_n (awp_seq (awp_seq (zg [1, 3] 1 (then_n (awp_block ?_))))))
 obtain ⟨y3, q13, h14⟩ := bind_some h3
 refine zl (fun (p1 : Int) => ⟨141, [(1, .ref 0 0), (3, .int .i64 p1)], u1⟩) (Sum.elim (fun z => OutE 0 (fun z => u2) z) (fun z => OutR Tryz.prog Tryz.f36 (.bool z))) q13 ?_ ?_
 intro p1 y2 h4
 unfold M.law5_Small_l1 at h4
 refine awp_seq (awp_seq (zg [1, 3, 100] 1 (then_n (cn h4 (fun _ h6 => ?_) (fun _ h7 => ?_)))))
 refine awp_skip (then_n (awp_seq (awp_block (awp_seq ?_))))
 obtain ⟨c8, h9⟩ := gd_some h6
 refine zc [1, 3, 110] 1 c8 (then_n (cn h9 (fun _ h11 => ?_) (fun _ h12 => ?_)))
 exact awp_seq (zg [2] 0 (then_n (awp_ret (inb_r (then_r (rr h11 ⟨rfl, er0 _⟩))))))
 exact awp_skip (inb_n (then_n (zg [1, 3] 1 (rn h12))))
 exact awp_exit (then_e (re h7 ⟨rfl, kq⟩))
 intro e15 s16 o17
 rcases y3 with g4 | y5
 have h18 := elim_l h14
 refine zi o17 (awp_seq (awp_seq (zg [1, 4] 1 (then_n (awp_block ?_)))))
 obtain ⟨y8, q30, h31⟩ := bind_some h18
 refine zl (fun (p6 : Int) => ⟨141, [(1, .ref 0 0), (4, .int .i64 p6)], u1⟩) (Sum.elim (fun z => OutE 2 (fun z => u2) z) (fun z => OutR Tryz.prog Tryz.f36 (.bool z))) q30 ?_ ?_
 intro p6 y7 h21
 unfold M.law5_Small_l2 at h21
 refine awp_seq (awp_seq (zg [1, 4, 115] 1 (then_n (cn h21 (fun _ h23 => ?_) (fun _ h24 => ?_)))))
 refine awp_skip (then_n (awp_seq (awp_block (awp_seq ?_))))
 obtain ⟨c25, h26⟩ := gd_some h23
 refine zc [1, 4, 125] 1 c25 (then_n (cn h26 (fun _ h28 => ?_) (fun _ h29 => ?_)))
 exact awp_seq (zg [2] 0 (then_n (awp_ret (inb_r (then_r (rr h28 ⟨rfl, er0 _⟩))))))
 exact awp_skip (inb_n (then_n (zg [1, 4] 1 (rn h29))))
 exact awp_exit (then_e (re h24 ⟨rfl, kq⟩))
 intro e32 s33 o34
 rcases y8 with g9 | y10
 have h35 := elim_l h31
 refine zi o34 (awp_seq (awp_seq (zg [1, 5] 1 (then_n (awp_block ?_)))))
 obtain ⟨y13, q47, h48⟩ := bind_some h35
 refine zl (fun (p11 : Int) => ⟨141, [(1, .ref 0 0), (5, .int .i64 p11)], u1⟩) (Sum.elim (fun z => OutE 4 (fun z => ⟨141, [], []⟩) z) (fun z => OutR Tryz.prog Tryz.f36 (.bool z))) q47 ?_ ?_
 intro p11 y12 h38
 unfold M.law5_Small_l3 at h38
 refine awp_seq (awp_seq (zg [1, 5, 130] 1 (then_n (cn h38 (fun _ h40 => ?_) (fun _ h41 => ?_)))))
 refine awp_skip (then_n (awp_seq (awp_block (awp_seq ?_))))
 obtain ⟨c42, h43⟩ := gd_some h40
 refine zc [1, 5, 140] 1 c42 (then_n (cn h43 (fun _ h45 => ?_) (fun _ h46 => ?_)))
 exact awp_seq (zg [2] 0 (then_n (awp_ret (inb_r (then_r (rr h45 ⟨rfl, er0 _⟩))))))
 exact awp_skip (inb_n (then_n (zg [1, 5] 1 (rn h46))))
 exact awp_exit (then_e (re h41 ⟨rfl, kc⟩))
 intro e49 s50 o51
 rcases y13 with g14 | y15
 have h52 := elim_l h48
 exact zi o51 (awp_seq (zg [2] 0 (then_n (awp_ret (er1 h52)))))
 have h53 := elim_r h48
 obtain ⟨rfl, n55⟩ := o51
 refine inb_r (then_r ?_)
 obtain rfl := Option.some.inj h53
 exact n55
 have h36 := elim_r h31
 obtain ⟨rfl, n56⟩ := o34
 refine inb_r (then_r ?_)
 obtain rfl := Option.some.inj h36
 exact n56
 have h19 := elim_r h14
 obtain ⟨rfl, n57⟩ := o17
 refine inb_r (then_r ?_)
 obtain rfl := Option.some.inj h19
 exact n57
theorem law13_Small_ok (a0 : TNetwork) (r : Bool) (h : M.law13_Small a0 = some r) : Fn Tryz.prog 11 [.agg (c_TNetwork a0)] (.pure (.bool r)) := by
 unfold M.law13_Small at h
 refine fn_pure Tryz.func11 rfl (by kernel_rfl) (awp_seq (zg [1] 1 (then_n (awp_seq (awp_seq (zg [1, 7] 1 (then_n (cn h (fun _ h2 => ?_) (fun _ h3 => ?_)))))))))
 exact awp_seq (zg [2] 0 (then_n (awp_ret (then_r (er1 h2)))))
 refine awp_skip (then_n (awp_seq (awp_seq (zg [1, 3] 1 (then_n (awp_block ?_))))))
 obtain ⟨y4, q15, h16⟩ := bind_some h3
 refine zl (fun (p1 : Int) => ⟨22, [(1, .ref 0 0), (3, .int .i64 p1)], [.box (c_TNetwork a0)]⟩) (Sum.elim (fun z => OutE 0 (fun z => ⟨22, [], []⟩) z) (fun z => OutR Tryz.prog Tryz.f11 (.bool z))) q15 ?_ ?_
 intro p1 y2 h4
 unfold M.law13_Small_l1 at h4
 refine awp_seq (awp_seq (zg [1, 3, 12] 1 (then_n (cn h4 (fun _ h6 => ?_) (fun _ h7 => ?_)))))
 refine awp_skip (then_n (awp_seq (awp_block (awp_seq ?_))))
 obtain ⟨r3, q8, h9⟩ := bind_some h6
 obtain ⟨c10, h11⟩ := gd_some h9
 refine zr [1, 3, 21] 1 c10 (rq1 (law5_Small_ok _ _ q8) rqn) (then_n (cn h11 (fun _ h13 => ?_) (fun _ h14 => ?_)))
 exact awp_seq (zg [2] 0 (then_n (awp_ret (inb_r (then_r (rr h13 ⟨rfl, er0 _⟩))))))
 exact awp_skip (inb_n (then_n (zg [1, 3] 1 (rn h14))))
 exact awp_exit (then_e (re h7 ⟨rfl, kc⟩))
 intro e17 s18 o19
 rcases y4 with g5 | y6
 have h20 := elim_l h16
 exact zi o19 (awp_seq (zg [2] 0 (then_n (awp_ret (er1 h20)))))
 have h21 := elim_r h16
 obtain ⟨rfl, n23⟩ := o19
 refine inb_r (then_r ?_)
 obtain rfl := Option.some.inj h21
 exact n23
theorem scan_letter_ok (a0 : Int) (r : Bool) (h : M.scan_letter a0 = some r) : Fn Tryz.prog 129 [.int .u8 a0] (.pure (.bool r)) := by
 unfold M.scan_letter at h
 exact fn_pure Tryz.func129 rfl (by kernel_rfl) (awp_seq (zg [0] 0 (then_n (awp_seq (zg [2] 0 (then_n (awp_ret (er1 h))))))))
theorem scan_digit_ok (a0 : Int) (r : Bool) (h : M.scan_digit a0 = some r) : Fn Tryz.prog 130 [.int .u8 a0] (.pure (.bool r)) := by
 unfold M.scan_digit at h
 exact fn_pure Tryz.func130 rfl (by kernel_rfl) (awp_seq (zg [0] 0 (then_n (awp_seq (zg [2] 0 (then_n (awp_ret (er1 h))))))))
theorem scan_Name_ok (a0 : ByteArray) (r : Bool) (h : M.scan_Name a0 = some r) : Fn Tryz.prog 73 [.str a0] (.pure (.bool r)) := by
 unfold M.scan_Name at h
 refine fn_pure Tryz.func73 rfl (by kernel_rfl) (awp_seq (zg [0] 0 (then_n (awp_seq (awp_seq ?_)))))
 obtain ⟨r1, q1, h2⟩ := bind_some h
 obtain ⟨c3, h4⟩ := gd_some h2
 refine zr [0, 18] 0 c3 (rq2 (fun hg => scan_letter_ok _ _ (gc_some q1 hg)) rqn) (then_n (cn h4 (fun _ h6 => ?_) (fun _ h7 => ?_)))
 exact awp_seq (zg [2] 0 (then_n (awp_ret (then_r (er1 h6)))))
 refine awp_skip (then_n (awp_seq (awp_seq (zg [0, 3] 0 (then_n (awp_block ?_))))))
 obtain ⟨y6, q21, h22⟩ := bind_some h7
 refine zl (fun (p2 : Int) => ⟨52, [(0, .str a0), (3, .int .i64 p2)], []⟩) (Sum.elim (fun z => OutE 0 (fun z => ⟨52, [], []⟩) z) (fun z => OutR Tryz.prog Tryz.f73 (.bool z))) q21 ?_ ?_
 intro p2 y3 h8
 unfold M.scan_Name_l1 at h8
 refine awp_seq (awp_seq (zg [0, 3, 22] 0 (then_n (cn h8 (fun _ h10 => ?_) (fun _ h11 => ?_)))))
 refine awp_skip (then_n (awp_seq (awp_block (awp_seq ?_))))
 obtain ⟨c12, h13⟩ := gd_some h10
 refine zc [0, 3, 4] 0 c12 (then_n (awp_seq ?_))
 obtain ⟨r4, q14, h15⟩ := bind_some h13
 obtain ⟨r5, q16, h17⟩ := bind_some h15
 refine zr [0, 3, 51] 0 nil_all (rq1 (scan_letter_ok _ _ q14) (rq2 (fun hg => scan_digit_ok _ _ (gc_some q16 hg)) rqn)) (then_n (cn h17 (fun _ h19 => ?_) (fun _ h20 => ?_)))
 exact awp_seq (zg [2] 0 (then_n (awp_ret (inb_r (then_r (rr h19 ⟨rfl, er0 _⟩))))))
 exact awp_skip (inb_n (then_n (zg [0, 3] 0 (rn h20))))
 exact awp_exit (then_e (re h11 ⟨rfl, kq⟩))
 intro e23 s24 o25
 rcases y6 with g7 | y8
 have h26 := elim_l h22
 exact zi o25 (awp_seq (zg [2] 0 (then_n (awp_ret (er1 h26)))))
 have h27 := elim_r h22
 obtain ⟨rfl, n29⟩ := o25
 refine inb_r (then_r ?_)
 obtain rfl := Option.some.inj h27
 exact n29
theorem model_within_ok (a0 : Int) (a1 : Int) (a2 : Int) (r : Bool) (h : M.model_within a0 a1 a2 = some r) : Fn Tryz.prog 74 [.int .i64 a0, .int .i64 a1, .int .i64 a2] (.pure (.bool r)) := by
 unfold M.model_within at h
 exact fn_pure Tryz.func74 rfl (by kernel_rfl) (awp_seq (zg [0, 1, 2] 0 (then_n (awp_seq (zg [6] 0 (then_n (awp_ret (er1 h))))))))
theorem model_Interface_1_ok (a0 : TInterface) (b0 : ByteArray) (r : Bool) (h : M.model_Interface_1 a0 b0 = some r) : Fn Tryz.prog 164 [.agg (c_TInterface a0), .pp (cs b0)] (.pure (.bool r)) := by
 unfold M.model_Interface_1 at h
 exact fn_pure Tryz.func164 rfl (by kernel_rfl) (awp_seq (zg [1, 2] 1 (then_n (awp_seq (zg [3] 0 (then_n (awp_ret (er1 h))))))))
theorem slices_IndexFunc_api_Interface_api_Interface__model_Interface_1_ok (a0 : List TInterface) (a1c0 : ByteArray) (r : Int) (h : M.slices_IndexFunc_api_Interface_api_Interface__model_Interface_1 a0 a1c0 = some r) : Fn Tryz.prog 146 [sL 12 c_TInterface a0, .fn 164 [.pp (cs a1c0)]] (.pure (.int .i64 r)) := by
 unfold M.slices_IndexFunc_api_Interface_api_Interface__model_Interface_1 at h
 refine fn_pure Tryz.func146 rfl (by kernel_rfl) (awp_seq (zg [0, 1] 0 (then_n (awp_seq (awp_seq (zg [0, 1, 7, 8] 0 (then_n (awp_block ?_))))))))
 obtain ⟨y4, q12, h13⟩ := bind_some h
 refine zl (fun (p1 : Int) => ⟨19, [(0, sL 12 c_TInterface a0), (1, .fn 164 [.pp (cs a1c0)]), (7, .int .i64 (a0.length : Int)), (8, .int .i64 p1)], []⟩) (Sum.elim (fun z => OutE 0 (fun z => ⟨19, [], []⟩) z) (fun z => OutR Tryz.prog Tryz.f146 (.int .i64 z))) q12 ?_ ?_
 intro p1 y2 h1
 unfold M.slices_IndexFunc_api_Interface_api_Interface__model_Interface_1_l1 at h1
 refine awp_seq (zg [0, 1, 7, 8, 9] 0 (then_n (awp_seq (cn h1 (fun _ h3 => ?_) (fun _ h4 => ?_)))))
 refine awp_skip (then_n (awp_seq (awp_block (awp_seq (zg [0, 1, 5, 7, 8] 0 (then_n (awp_seq ?_)))))))
 obtain ⟨r3, q5, h6⟩ := bind_some h3
 obtain ⟨c7, h8⟩ := gd_some h6
 refine zr [0, 1, 5, 7, 8, 16] 0 c7 (rq1 (model_Interface_1_ok _ _ _ q5) rqn) (then_n (cn h8 (fun _ h10 => ?_) (fun _ h11 => ?_)))
 exact awp_seq (zg [4] 0 (then_n (awp_ret (inb_r (then_r (rr h10 ⟨rfl, er0 _⟩))))))
 exact awp_skip (inb_n (then_n (zg [0, 1, 7, 8] 0 (rn h11))))
 exact awp_exit (then_e (re h4 ⟨rfl, kq⟩))
 intro e14 s15 o16
 rcases y4 with g5 | y6
 have h17 := elim_l h13
 exact zi o16 (awp_seq (zg [4] 0 (then_n (awp_ret (er1 h17)))))
 have h18 := elim_r h13
 obtain ⟨rfl, n20⟩ := o16
 refine inb_r (then_r ?_)
 obtain rfl := Option.some.inj h18
 exact n20
theorem model_Interface_ok (a0 : TRouter) (a1 : ByteArray) (r : Int) (h : M.model_Interface a0 a1 = some r) : Fn Tryz.prog 131 [.agg (c_TRouter a0), .str a1] (.pure (.int .i64 r)) := by
 unfold M.model_Interface at h
 refine fn_pure Tryz.func131 rfl (by kernel_rfl) (awp_seq (zg [2, 3] 2 (then_n (awp_seq ?_))))
 obtain ⟨r1, q1, h2⟩ := bind_some h
 exact zr [4] 0 nil_all (rq1 (slices_IndexFunc_api_Interface_api_Interface__model_Interface_1_ok _ _ _ q1) rqn) (then_n (awp_ret (er1 h2)))
theorem model_rightInterface_ok (a0 : TInterface) (r : Bool) (h : M.model_rightInterface a0 = some r) : Fn Tryz.prog 132 [.agg (c_TInterface a0)] (.pure (.bool r)) := by
 unfold M.model_rightInterface at h
 refine fn_pure Tryz.func132 rfl (by kernel_rfl) (awp_seq (zg [1] 1 (then_n (awp_seq (awp_seq ?_)))))
 obtain ⟨r1, q1, h2⟩ := bind_some h
 obtain ⟨r2, q3, h4⟩ := bind_some h2
 obtain ⟨r3, q5, h6⟩ := bind_some h4
 refine zr [1, 18] 1 nil_all (rq1 (model_within_ok _ _ _ _ q1) (rq2 (fun hg => model_within_ok _ _ _ _ (gc_some q3 hg)) (rq2 (fun hg => model_within_ok _ _ _ _ (gc_some q5 hg)) rqn))) (then_n (cn h6 (fun _ h8 => ?_) (fun _ h9 => ?_)))
 exact awp_seq (zg [2] 0 (then_n (awp_ret (then_r (er1 h8)))))
 refine awp_skip (then_n (awp_seq (awp_seq (zg [1, 54] 1 (then_n (cn h9 (fun _ h11 => ?_) (fun _ h12 => ?_)))))))
 exact awp_seq (zg [2] 0 (then_n (awp_ret (then_r (er1 h11)))))
 refine awp_skip (then_n (awp_seq (awp_seq (zg [1, 62] 1 (then_n (cn h12 (fun _ h14 => ?_) (fun _ h15 => ?_)))))))
 exact awp_seq (zg [2] 0 (then_n (awp_ret (then_r (er1 h14)))))
 refine awp_skip (then_n (awp_seq (awp_seq (zg [1, 64] 1 (then_n (cn h15 (fun _ h17 => ?_) (fun _ h18 => ?_)))))))
 refine awp_seq ?_
 obtain ⟨r4, q19, h20⟩ := bind_some h17
 obtain ⟨r5, q21, h22⟩ := bind_some h20
 exact zr [2] 0 nil_all (rq1 (model_within_ok _ _ _ _ q19) (rq2 (fun hg => model_within_ok _ _ _ _ (gc_some q21 hg)) rqn)) (then_n (awp_ret (then_r (er1 h22))))
 exact awp_skip (then_n (awp_seq (zg [2] 0 (then_n (awp_ret (er1 h18))))))
theorem addr_clamp_ok (a0 : Int) (r : Int) (h : M.addr_clamp a0 = some r) : Fn Tryz.prog 89 [.int .i64 a0] (.pure (.int .i64 r)) := by
 unfold M.addr_clamp at h
 exact fn_pure Tryz.func89 rfl (by kernel_rfl) (awp_seq (zg [0] 0 (then_n (awp_seq (zg [2] 0 (then_n (awp_ret (er1 h))))))))
theorem addr_Mask_ok (a0 : Int) (r : Int) (h : M.addr_Mask a0 = some r) : Fn Tryz.prog 88 [.int .i64 a0] (.pure (.int .u32 r)) := by
 unfold M.addr_Mask at h
 refine fn_pure Tryz.func88 rfl (by kernel_rfl) (awp_seq (zg [0] 0 (then_n (awp_seq ?_))))
 obtain ⟨r1, q1, h2⟩ := bind_some h
 obtain ⟨c3, h4⟩ := gd_some h2
 exact zr [2] 0 c3 (rq1 (addr_clamp_ok _ _ q1) rqn) (then_n (awp_ret (er1 h4)))
theorem addr_Network_ok (a0 : Int) (a1 : Int) (r : TPrefix) (h : M.addr_Network a0 a1 = some r) : Fn Tryz.prog 60 [.int .u32 a0, .int .i64 a1] (.pure (.agg (c_TPrefix r))) := by
 unfold M.addr_Network at h
 refine fn_pure Tryz.func60 rfl (by kernel_rfl) (awp_seq (zg [0, 1, 4] 1 (then_n (awp_seq ?_))))
 obtain ⟨r1, q1, h2⟩ := bind_some h
 obtain ⟨r2, q3, h4⟩ := bind_some h2
 refine zr [4] 1 nil_all (rq1 (addr_Mask_ok _ _ q1) (rq1 (addr_clamp_ok _ _ q3) rqn)) (then_n (awp_ret ?_))
 obtain rfl := Option.some.inj h4
 exact er0 (.agg [.int .u32 (bitD .and .u32 a0 r1), .int .i64 r2])
theorem addr_Contains_ok (a0 : TPrefix) (a1 : Int) (r : Bool) (h : M.addr_Contains a0 a1 = some r) : Fn Tryz.prog 179 [.agg (c_TPrefix a0), .int .u32 a1] (.pure (.bool r)) := by
 unfold M.addr_Contains at h
 refine fn_pure Tryz.func179 rfl (by kernel_rfl) (awp_seq (zg [1, 2] 1 (then_n (awp_seq ?_))))
 obtain ⟨r1, q1, h2⟩ := bind_some h
 exact zr [4] 0 nil_all (rq1 (addr_Mask_ok _ _ q1) rqn) (then_n (awp_ret (er1 h2)))
theorem addr_Covers_ok (a0 : TPrefix) (a1 : TPrefix) (r : Bool) (h : M.addr_Covers a0 a1 = some r) : Fn Tryz.prog 165 [.agg (c_TPrefix a0), .agg (c_TPrefix a1)] (.pure (.bool r)) := by
 unfold M.addr_Covers at h
 refine fn_pure Tryz.func165 rfl (by kernel_rfl) (awp_seq (zg [2, 3] 2 (then_n (awp_seq ?_))))
 obtain ⟨r1, q1, h2⟩ := bind_some h
 exact zr [4] 0 nil_all (rq2 (fun hg => addr_Contains_ok _ _ _ (gc_some q1 hg)) rqn) (then_n (awp_ret (er1 h2)))
theorem addr_Overlaps_ok (a0 : TPrefix) (a1 : TPrefix) (r : Bool) (h : M.addr_Overlaps a0 a1 = some r) : Fn Tryz.prog 133 [.agg (c_TPrefix a0), .agg (c_TPrefix a1)] (.pure (.bool r)) := by
 unfold M.addr_Overlaps at h
 refine fn_pure Tryz.func133 rfl (by kernel_rfl) (awp_seq (zg [2, 3] 2 (then_n (awp_seq ?_))))
 obtain ⟨r1, q1, h2⟩ := bind_some h
 obtain ⟨r2, q3, h4⟩ := bind_some h2
 exact zr [4] 0 nil_all (rq1 (addr_Covers_ok _ _ _ q1) (rq2 (fun hg => addr_Covers_ok _ _ _ (gc_some q3 hg)) rqn)) (then_n (awp_ret (er1 h4)))
theorem model_checkInterfaces_ok (a0 : TRouter) (r : Int) (h : M.model_checkInterfaces a0 = some r) : Fn Tryz.prog 75 [.agg (c_TRouter a0)] (.pure (.int .i64 r)) := by
 let u1 : Nat × D := (12, sL 12 c_TInterface a0.fInterfaces)
 let u2 := (a0.fInterfaces.length : Int)
 let u5 := c_TRouter a0
 unfold M.model_checkInterfaces at h
 refine fn_pure Tryz.func75 rfl (by kernel_rfl) (awp_seq (zg [1] 1 (then_n (awp_seq (awp_seq (zg [1, 10] 1 (then_n (cn h (fun _ h2 => ?_) (fun _ h3 => ?_)))))))))
 exact awp_seq (zg [2] 0 (then_n (awp_ret (then_r (er1 h2)))))
 refine awp_skip (then_n (awp_seq (awp_seq (zg [1, 12, 13, 14] 1 (then_n (awp_block ?_))))))
 obtain ⟨y14, q51, h52⟩ := bind_some h3
 refine zl (fun (p1 : Int) => ⟨64, [(1, .ref 0 0), u1, (13, .int .i64 u2), (14, .int .i64 p1)], [.box u5]⟩) (Sum.elim (fun z => OutE 0 (fun z => ⟨64, [], []⟩) z) (fun z => OutR Tryz.prog Tryz.f75 (.int .i64 z))) q51 ?_ ?_
 intro p1 y2 h4
 let u3 : List Ob := [.box u5, .box (c_TInterface (a0.fInterfaces.getD p1.toNat default))]
 let u4 : Nat × D := (35, sL 12 c_TInterface ((a0.fInterfaces.drop 0).take (p1.toNat - 0)))
 unfold M.model_checkInterfaces_l1 at h4
 refine awp_seq (zg [1, 12, 13, 14, 15] 1 (then_n (awp_seq (cn h4 (fun _ h6 => ?_) (fun _ h7 => ?_)))))
 refine awp_skip (then_n (awp_seq (awp_block (awp_seq ?_))))
 obtain ⟨c8, h9⟩ := gd_some h6
 refine zc [1, 3, 4, 12, 13, 14] 2 c8 (then_n (awp_seq (awp_seq ?_)))
 obtain ⟨r3, q10, h11⟩ := bind_some h9
 refine zr [1, 3, 4, 12, 13, 14, 22] 2 nil_all (rq1 (scan_Name_ok _ _ q10) rqn) (then_n (cn h11 (fun _ h13 => ?_) (fun _ h14 => ?_)))
 exact awp_seq (zg [2] 0 (then_n (awp_ret (then_r (inb_r (then_r (rr h13 ⟨rfl, er0 _⟩)))))))
 refine awp_skip (then_n (awp_seq (awp_seq ?_)))
 obtain ⟨r4, q15, h16⟩ := bind_some h14
 refine zr [1, 3, 4, 12, 13, 14, 28] 2 nil_all (rq1 (model_Interface_ok _ _ _ q15) rqn) (then_n (cn h16 (fun _ h18 => ?_) (fun _ h19 => ?_)))
 exact awp_seq (zg [2] 0 (then_n (awp_ret (then_r (inb_r (then_r (rr h18 ⟨rfl, er0 _⟩)))))))
 refine awp_skip (then_n (awp_seq (awp_seq ?_)))
 obtain ⟨r5, q20, h21⟩ := bind_some h19
 refine zr [1, 3, 4, 12, 13, 14, 31] 2 nil_all (rq1 (model_rightInterface_ok _ _ q20) rqn) (then_n (cn h21 (fun _ h23 => ?_) (fun _ h24 => ?_)))
 exact awp_seq (zg [2] 0 (then_n (awp_ret (then_r (inb_r (then_r (rr h23 ⟨rfl, er0 _⟩)))))))
 refine awp_skip (then_n (awp_seq ?_))
 obtain ⟨c25, h26⟩ := gd_some h24
 refine rgc [1, 4, 12, 13, 14, 35, 36, 37] 2 ⟨64, [(1, .ref 0 0), (4, .ref 1 0), u1, (13, .int .i64 u2), (14, .int .i64 p1), (35, .sl false 12 (p1.toNat - 0) (fun i => c_TInterface (a0.fInterfaces.getD (0 + i) default))), (36, .int .i64 ((p1.toNat - 0 : Nat) : Int)), (37, .int .i64 0)], u3⟩ [decide (0 ≤ p1), decide (p1 ≤ u2)] c25 (then_le (s' := ⟨64, [(1, .ref 0 0), (4, .ref 1 0), u1, (13, .int .i64 u2), (14, .int .i64 p1), u4, (36, .int .i64 ((p1.toNat - 0 : Nat) : Int)), (37, .int .i64 0)], u3⟩) (le_sub (.cons Sub.rfl (.cons Sub.rfl (.cons Sub.rfl (.cons Sub.rfl (.cons Sub.rfl (.cons (sub_sl (len_cut _ _ _ (cut_hi (c25 _ (List.mem_cons_of_mem _ List.mem_cons_self)))) (cut_ext _ _ _ _)) (.cons Sub.rfl (.cons Sub.rfl .nil)))))))) (.cons .rfl (.cons .rfl .nil))) (awp_block ?_))
 obtain ⟨y11, q42, h43⟩ := bind_some h26
 refine zl (fun (p6 : Int) => ⟨64, [(1, .ref 0 0), (4, .ref 1 0), u1, (13, .int .i64 u2), (14, .int .i64 p1), u4, (36, .int .i64 ((p1.toNat - 0 : Nat) : Int)), (37, .int .i64 p6)], u3⟩) (Sum.elim (fun z => OutE 2 (fun z => ⟨64, [(1, .ref 0 0), u1, (13, .int .i64 u2), (14, .int .i64 p1)], [.box u5]⟩) z) (fun z => OutR Tryz.prog Tryz.f75 (.int .i64 z))) q42 ?_ ?_
 intro p6 y7 h27
 unfold M.model_checkInterfaces_l2 at h27
 refine awp_seq (zg [1, 4, 12, 13, 14, 35, 36, 37, 38] 2 (then_n (awp_seq (cn h27 (fun _ h29 => ?_) (fun _ h30 => ?_)))))
 refine awp_skip (then_n (awp_seq (awp_block (awp_seq ?_))))
 obtain ⟨c31, h32⟩ := gd_some h29
 refine zc [1, 4, 6, 12, 13, 14, 35, 36, 37] 3 c31 (then_n (awp_seq ?_))
 obtain ⟨r8, q33, h34⟩ := bind_some h32
 obtain ⟨r9, q35, h36⟩ := bind_some h34
 obtain ⟨r10, q37, h38⟩ := bind_some h36
 refine zr [1, 4, 12, 13, 14, 35, 36, 37, 61] 2 nil_all (rq2 (fun hg => addr_Network_ok _ _ _ (gc_some q33 hg)) (rq2 (fun hg => addr_Network_ok _ _ _ (gc_some q35 hg)) (rq2 (fun hg => addr_Overlaps_ok _ _ _ (gc_some q37 hg)) rqn))) (then_n (cn h38 (fun _ h40 => ?_) (fun _ h41 => ?_)))
 exact awp_seq (zg [2] 0 (then_n (awp_ret (inb_r (then_r (rr h40 ⟨rfl, er0 _⟩))))))
 exact awp_skip (inb_n (then_n (zg [1, 4, 12, 13, 14, 35, 36, 37] 2 (rn h41))))
 exact awp_exit (then_e (re h30 ⟨rfl, kc⟩))
 intro e44 s45 o46
 rcases y11 with g12 | y13
 have h47 := elim_l h43
 obtain ⟨rfl, l49⟩ := o46
 exact inb_here (inb_n (then_le (s' := ⟨64, [(1, .ref 0 0), u1, (13, .int .i64 u2), (14, .int .i64 p1)], [.box u5]⟩) (l49) (zg [1, 12, 13, 14] 1 (rn h47))))
 have h48 := elim_r h43
 obtain ⟨rfl, n50⟩ := o46
 exact inb_r (inb_r (then_r (rr h48 ⟨rfl, n50⟩)))
 exact awp_exit (then_e (re h7 ⟨rfl, kc⟩))
 intro e53 s54 o55
 rcases y14 with g15 | y16
 have h56 := elim_l h52
 exact zi o55 (awp_seq (zg [2] 0 (then_n (awp_ret (er1 h56)))))
 have h57 := elim_r h52
 obtain ⟨rfl, n59⟩ := o55
 refine inb_r (then_r ?_)
 obtain rfl := Option.some.inj h57
 exact n59
theorem model_PrefixList_1_ok (a0 : TPrefixList) (b0 : ByteArray) (r : Bool) (h : M.model_PrefixList_1 a0 b0 = some r) : Fn Tryz.prog 167 [.agg (c_TPrefixList a0), .pp (cs b0)] (.pure (.bool r)) := by
 unfold M.model_PrefixList_1 at h
 exact fn_pure Tryz.func167 rfl (by kernel_rfl) (awp_seq (zg [1, 2] 1 (then_n (awp_seq (zg [3] 0 (then_n (awp_ret (er1 h))))))))
theorem slices_IndexFunc_api_PrefixList_api_PrefixList__model_PrefixList_1_ok (a0 : List TPrefixList) (a1c0 : ByteArray) (r : Int) (h : M.slices_IndexFunc_api_PrefixList_api_PrefixList__model_PrefixList_1 a0 a1c0 = some r) : Fn Tryz.prog 166 [sL 2 c_TPrefixList a0, .fn 167 [.pp (cs a1c0)]] (.pure (.int .i64 r)) := by
 unfold M.slices_IndexFunc_api_PrefixList_api_PrefixList__model_PrefixList_1 at h
 refine fn_pure Tryz.func166 rfl (by kernel_rfl) (awp_seq (zg [0, 1] 0 (then_n (awp_seq (awp_seq (zg [0, 1, 7, 8] 0 (then_n (awp_block ?_))))))))
 obtain ⟨y4, q12, h13⟩ := bind_some h
 refine zl (fun (p1 : Int) => ⟨19, [(0, sL 2 c_TPrefixList a0), (1, .fn 167 [.pp (cs a1c0)]), (7, .int .i64 (a0.length : Int)), (8, .int .i64 p1)], []⟩) (Sum.elim (fun z => OutE 0 (fun z => ⟨19, [], []⟩) z) (fun z => OutR Tryz.prog Tryz.f166 (.int .i64 z))) q12 ?_ ?_
 intro p1 y2 h1
 unfold M.slices_IndexFunc_api_PrefixList_api_PrefixList__model_PrefixList_1_l1 at h1
 refine awp_seq (zg [0, 1, 7, 8, 9] 0 (then_n (awp_seq (cn h1 (fun _ h3 => ?_) (fun _ h4 => ?_)))))
 refine awp_skip (then_n (awp_seq (awp_block (awp_seq (zg [0, 1, 5, 7, 8] 0 (then_n (awp_seq ?_)))))))
 obtain ⟨r3, q5, h6⟩ := bind_some h3
 obtain ⟨c7, h8⟩ := gd_some h6
 refine zr [0, 1, 5, 7, 8, 16] 0 c7 (rq1 (model_PrefixList_1_ok _ _ _ q5) rqn) (then_n (cn h8 (fun _ h10 => ?_) (fun _ h11 => ?_)))
 exact awp_seq (zg [4] 0 (then_n (awp_ret (inb_r (then_r (rr h10 ⟨rfl, er0 _⟩))))))
 exact awp_skip (inb_n (then_n (zg [0, 1, 7, 8] 0 (rn h11))))
 exact awp_exit (then_e (re h4 ⟨rfl, kq⟩))
 intro e14 s15 o16
 rcases y4 with g5 | y6
 have h17 := elim_l h13
 exact zi o16 (awp_seq (zg [4] 0 (then_n (awp_ret (er1 h17)))))
 have h18 := elim_r h13
 obtain ⟨rfl, n20⟩ := o16
 refine inb_r (then_r ?_)
 obtain rfl := Option.some.inj h18
 exact n20
theorem model_PrefixList_ok (a0 : TRouter) (a1 : ByteArray) (r : Int) (h : M.model_PrefixList a0 a1 = some r) : Fn Tryz.prog 135 [.agg (c_TRouter a0), .str a1] (.pure (.int .i64 r)) := by
 unfold M.model_PrefixList at h
 refine fn_pure Tryz.func135 rfl (by kernel_rfl) (awp_seq (zg [2, 3] 2 (then_n (awp_seq ?_))))
 obtain ⟨r1, q1, h2⟩ := bind_some h
 exact zr [4] 0 nil_all (rq1 (slices_IndexFunc_api_PrefixList_api_PrefixList__model_PrefixList_1_ok _ _ _ q1) rqn) (then_n (awp_ret (er1 h2)))
theorem model_checkList_ok (a0 : Int) (a1 : Int) (a2 : ByteArray) (a3 : Int) (a4 : Int) (r : Int) (h : M.model_checkList a0 a1 a2 a3 a4 = some r) : Fn Tryz.prog 134 [.int .i64 a0, .int .i64 a1, .str a2, .int .i64 a3, .int .i64 a4] (.pure (.int .i64 r)) := by
 unfold M.model_checkList at h
 refine fn_pure Tryz.func134 rfl (by kernel_rfl) (awp_seq (zg [0, 1, 2, 3, 4] 0 (then_n (awp_seq (awp_block (awp_seq ?_))))))
 obtain ⟨r1, q1, h2⟩ := bind_some h
 refine zr [0, 1, 3, 4, 11] 0 nil_all (rq1 (scan_Name_ok _ _ q1) rqn) (then_n (cn h2 (fun _ h4 => ?_) (fun _ h5 => ?_)))
 exact awp_seq (zg [10] 0 (then_n (awp_ret (inb_r (then_r (er1 h4))))))
 refine awp_seq (zg [3, 4, 15] 0 (then_n (cn h5 (fun _ h7 => ?_) (fun _ h8 => ?_))))
 exact awp_seq (zg [10] 0 (then_n (awp_ret (inb_r (then_r (er1 h7))))))
 refine awp_seq (zg [3, 4, 19] 0 (then_n (cn h8 (fun _ h10 => ?_) (fun _ h11 => ?_))))
 exact awp_seq (zg [10] 0 (then_n (awp_ret (inb_r (then_r (er1 h10))))))
 refine awp_seq (zg [22] 0 (then_n (cn h11 (fun _ h13 => ?_) (fun _ h14 => ?_))))
 exact awp_seq (zg [10] 0 (then_n (awp_ret (inb_r (then_r (er1 h13))))))
 exact awp_skip (inb_n (then_n (awp_seq (zg [10] 0 (then_n (awp_ret (er1 h14)))))))
theorem addr_Valid_ok (a0 : TPrefix) (r : Bool) (h : M.addr_Valid a0 = some r) : Fn Tryz.prog 136 [.agg (c_TPrefix a0)] (.pure (.bool r)) := by
 unfold M.addr_Valid at h
 refine fn_pure Tryz.func136 rfl (by kernel_rfl) (awp_seq (zg [1] 1 (then_n (awp_seq ?_))))
 obtain ⟨r1, q1, h2⟩ := bind_some h
 exact zr [2] 0 nil_all (rq2 (fun hg => addr_Mask_ok _ _ (gc_some q1 hg)) rqn) (then_n (awp_ret (er1 h2)))
theorem model_checkPrefixLists_ok (a0 : TRouter) (r : Int) (h : M.model_checkPrefixLists a0 = some r) : Fn Tryz.prog 76 [.agg (c_TRouter a0)] (.pure (.int .i64 r)) := by
 let u1 : Nat × D := (13, sL 2 c_TPrefixList a0.fLists)
 let u2 := (a0.fLists.length : Int)
 let u3 : List Ob := [.box (c_TRouter a0)]
 unfold M.model_checkPrefixLists at h
 refine fn_pure Tryz.func76 rfl (by kernel_rfl) (awp_seq (zg [1] 1 (then_n (awp_seq (awp_seq (zg [1, 11] 1 (then_n (cn h (fun _ h2 => ?_) (fun _ h3 => ?_)))))))))
 exact awp_seq (zg [2] 0 (then_n (awp_ret (then_r (er1 h2)))))
 refine awp_skip (then_n (awp_seq (awp_seq (zg [1, 13, 14, 15] 1 (then_n (awp_block ?_))))))
 obtain ⟨y11, q37, h38⟩ := bind_some h3
 refine zl (fun (p1 : Int) => ⟨67, [(1, .ref 0 0), u1, (14, .int .i64 u2), (15, .int .i64 p1)], u3⟩) (Sum.elim (fun z => OutE 0 (fun z => ⟨67, [], []⟩) z) (fun z => OutR Tryz.prog Tryz.f76 (.int .i64 z))) q37 ?_ ?_
 intro p1 y2 h4
 let u4 := (a0.fLists.getD p1.toNat default).fRules
 unfold M.model_checkPrefixLists_l1 at h4
 refine awp_seq (zg [1, 13, 14, 15, 16] 1 (then_n (awp_seq (cn h4 (fun _ h6 => ?_) (fun _ h7 => ?_)))))
 refine awp_skip (then_n (awp_seq (awp_block (awp_seq ?_))))
 obtain ⟨c8, h9⟩ := gd_some h6
 refine zc [1, 3, 4, 13, 14, 15] 2 c8 (then_n (awp_seq (awp_seq ?_)))
 obtain ⟨r3, q10, h11⟩ := bind_some h9
 obtain ⟨r4, q12, h13⟩ := bind_some h11
 refine zr [1, 4, 5, 13, 14, 15] 2 nil_all (rq1 (model_PrefixList_ok _ _ _ q10) (rq1 (model_checkList_ok _ _ _ _ _ _ q12) rqn)) (then_n (awp_seq (zg [1, 4, 5, 13, 14, 15, 32] 2 (then_n (cn h13 (fun _ h15 => ?_) (fun _ h16 => ?_))))))
 exact awp_seq (zg [2] 0 (then_n (awp_ret (then_r (inb_r (then_r (rr h15 ⟨rfl, er0 _⟩)))))))
 refine awp_skip (then_n (awp_seq (zg [1, 13, 14, 15, 35, 36, 37] 1 (then_n (awp_block ?_)))))
 obtain ⟨y8, q28, h29⟩ := bind_some h16
 refine zl (fun (p5 : Int) => ⟨67, [(1, .ref 0 0), u1, (14, .int .i64 u2), (15, .int .i64 p1), (35, sL 5 c_TPrefixRule u4), (36, .int .i64 (u4.length : Int)), (37, .int .i64 p5)], u3⟩) (Sum.elim (fun z => OutE 2 (fun z => ⟨67, [(1, .ref 0 0), u1, (14, .int .i64 u2), (15, .int .i64 p1)], u3⟩) z) (fun z => OutR Tryz.prog Tryz.f76 (.int .i64 z))) q28 ?_ ?_
 intro p5 y6 h17
 unfold M.model_checkPrefixLists_l2 at h17
 refine awp_seq (zg [1, 13, 14, 15, 35, 36, 37, 38] 1 (then_n (awp_seq (cn h17 (fun _ h19 => ?_) (fun _ h20 => ?_)))))
 refine awp_skip (then_n (awp_seq (awp_block (awp_seq ?_))))
 obtain ⟨c21, h22⟩ := gd_some h19
 refine zc [1, 7, 13, 14, 15, 35, 36, 37] 2 c21 (then_n (awp_seq ?_))
 obtain ⟨r7, q23, h24⟩ := bind_some h22
 refine zr [1, 13, 14, 15, 35, 36, 37, 64] 1 nil_all (rq1 (addr_Valid_ok _ _ q23) rqn) (then_n (cn h24 (fun _ h26 => ?_) (fun _ h27 => ?_)))
 exact awp_seq (zg [2] 0 (then_n (awp_ret (inb_r (then_r (rr h26 ⟨rfl, er0 _⟩))))))
 exact awp_skip (inb_n (then_n (zg [1, 13, 14, 15, 35, 36, 37] 1 (rn h27))))
 exact awp_exit (then_e (re h20 ⟨rfl, kq⟩))
 intro e30 s31 o32
 rcases y8 with g9 | y10
 have h33 := elim_l h29
 obtain ⟨rfl, l35⟩ := o32
 exact inb_here (inb_n (then_le (s' := ⟨67, [(1, .ref 0 0), u1, (14, .int .i64 u2), (15, .int .i64 p1)], u3⟩) (l35) (zg [1, 13, 14, 15] 1 (rn h33))))
 have h34 := elim_r h29
 obtain ⟨rfl, n36⟩ := o32
 exact inb_r (inb_r (then_r (rr h34 ⟨rfl, n36⟩)))
 exact awp_exit (then_e (re h7 ⟨rfl, kc⟩))
 intro e39 s40 o41
 rcases y11 with g12 | y13
 have h42 := elim_l h38
 exact zi o41 (awp_seq (zg [2] 0 (then_n (awp_ret (er1 h42)))))
 have h43 := elim_r h38
 obtain ⟨rfl, n45⟩ := o41
 refine inb_r (then_r ?_)
 obtain rfl := Option.some.inj h43
 exact n45
theorem model_RouteMap_1_ok (a0 : TRouteMap) (b0 : ByteArray) (r : Bool) (h : M.model_RouteMap_1 a0 b0 = some r) : Fn Tryz.prog 169 [.agg (c_TRouteMap a0), .pp (cs b0)] (.pure (.bool r)) := by
 unfold M.model_RouteMap_1 at h
 exact fn_pure Tryz.func169 rfl (by kernel_rfl) (awp_seq (zg [1, 2] 1 (then_n (awp_seq (zg [3] 0 (then_n (awp_ret (er1 h))))))))
theorem slices_IndexFunc_api_RouteMap_api_RouteMap__model_RouteMap_1_ok (a0 : List TRouteMap) (a1c0 : ByteArray) (r : Int) (h : M.slices_IndexFunc_api_RouteMap_api_RouteMap__model_RouteMap_1 a0 a1c0 = some r) : Fn Tryz.prog 168 [sL 2 c_TRouteMap a0, .fn 169 [.pp (cs a1c0)]] (.pure (.int .i64 r)) := by
 unfold M.slices_IndexFunc_api_RouteMap_api_RouteMap__model_RouteMap_1 at h
 refine fn_pure Tryz.func168 rfl (by kernel_rfl) (awp_seq (zg [0, 1] 0 (then_n (awp_seq (awp_seq (zg [0, 1, 7, 8] 0 (then_n (awp_block ?_))))))))
 obtain ⟨y4, q12, h13⟩ := bind_some h
 refine zl (fun (p1 : Int) => ⟨19, [(0, sL 2 c_TRouteMap a0), (1, .fn 169 [.pp (cs a1c0)]), (7, .int .i64 (a0.length : Int)), (8, .int .i64 p1)], []⟩) (Sum.elim (fun z => OutE 0 (fun z => ⟨19, [], []⟩) z) (fun z => OutR Tryz.prog Tryz.f168 (.int .i64 z))) q12 ?_ ?_
 intro p1 y2 h1
 unfold M.slices_IndexFunc_api_RouteMap_api_RouteMap__model_RouteMap_1_l1 at h1
 refine awp_seq (zg [0, 1, 7, 8, 9] 0 (then_n (awp_seq (cn h1 (fun _ h3 => ?_) (fun _ h4 => ?_)))))
 refine awp_skip (then_n (awp_seq (awp_block (awp_seq (zg [0, 1, 5, 7, 8] 0 (then_n (awp_seq ?_)))))))
 obtain ⟨r3, q5, h6⟩ := bind_some h3
 obtain ⟨c7, h8⟩ := gd_some h6
 refine zr [0, 1, 5, 7, 8, 16] 0 c7 (rq1 (model_RouteMap_1_ok _ _ _ q5) rqn) (then_n (cn h8 (fun _ h10 => ?_) (fun _ h11 => ?_)))
 exact awp_seq (zg [4] 0 (then_n (awp_ret (inb_r (then_r (rr h10 ⟨rfl, er0 _⟩))))))
 exact awp_skip (inb_n (then_n (zg [0, 1, 7, 8] 0 (rn h11))))
 exact awp_exit (then_e (re h4 ⟨rfl, kq⟩))
 intro e14 s15 o16
 rcases y4 with g5 | y6
 have h17 := elim_l h13
 exact zi o16 (awp_seq (zg [4] 0 (then_n (awp_ret (er1 h17)))))
 have h18 := elim_r h13
 obtain ⟨rfl, n20⟩ := o16
 refine inb_r (then_r ?_)
 obtain rfl := Option.some.inj h18
 exact n20
theorem model_RouteMap_ok (a0 : TRouter) (a1 : ByteArray) (r : Int) (h : M.model_RouteMap a0 a1 = some r) : Fn Tryz.prog 137 [.agg (c_TRouter a0), .str a1] (.pure (.int .i64 r)) := by
 unfold M.model_RouteMap at h
 refine fn_pure Tryz.func137 rfl (by kernel_rfl) (awp_seq (zg [2, 3] 2 (then_n (awp_seq ?_))))
 obtain ⟨r1, q1, h2⟩ := bind_some h
 exact zr [4] 0 nil_all (rq1 (slices_IndexFunc_api_RouteMap_api_RouteMap__model_RouteMap_1_ok _ _ _ q1) rqn) (then_n (awp_ret (er1 h2)))
theorem model_rightClause_ok (a0 : TClause) (r : Bool) (h : M.model_rightClause a0 = some r) : Fn Tryz.prog 138 [.agg (c_TClause a0)] (.pure (.bool r)) := by
 unfold M.model_rightClause at h
 refine fn_pure Tryz.func138 rfl (by kernel_rfl) (awp_seq (zg [1] 1 (then_n (awp_seq ?_))))
 obtain ⟨r1, q1, h2⟩ := bind_some h
 obtain ⟨r2, q3, h4⟩ := bind_some h2
 obtain ⟨r3, q5, h6⟩ := bind_some h4
 obtain ⟨r4, q7, h8⟩ := bind_some h6
 obtain ⟨r5, q9, h10⟩ := bind_some h8
 exact zr [2] 0 nil_all (rq1 (model_within_ok _ _ _ _ q1) (rq2 (fun hg => model_within_ok _ _ _ _ (gc_some q3 hg)) (rq2 (fun hg => model_within_ok _ _ _ _ (gc_some q5 hg)) (rq2 (fun hg => model_within_ok _ _ _ _ (gc_some q7 hg)) (rq2 (fun hg => model_within_ok _ _ _ _ (gc_some q9 hg)) rqn))))) (then_n (awp_ret (er1 h10)))
theorem model_checkRouteMaps_ok (a0 : TRouter) (r : Int) (h : M.model_checkRouteMaps a0 = some r) : Fn Tryz.prog 77 [.agg (c_TRouter a0)] (.pure (.int .i64 r)) := by
 let u1 : Nat × D := (13, sL 2 c_TRouteMap a0.fMaps)
 let u2 := (a0.fMaps.length : Int)
 let u3 : List Ob := [.box (c_TRouter a0)]
 unfold M.model_checkRouteMaps at h
 refine fn_pure Tryz.func77 rfl (by kernel_rfl) (awp_seq (zg [1] 1 (then_n (awp_seq (awp_seq (zg [1, 11] 1 (then_n (cn h (fun _ h2 => ?_) (fun _ h3 => ?_)))))))))
 exact awp_seq (zg [2] 0 (then_n (awp_ret (then_r (er1 h2)))))
 refine awp_skip (then_n (awp_seq (awp_seq (zg [1, 13, 14, 15] 1 (then_n (awp_block ?_))))))
 obtain ⟨y12, q42, h43⟩ := bind_some h3
 refine zl (fun (p1 : Int) => ⟨56, [(1, .ref 0 0), u1, (14, .int .i64 u2), (15, .int .i64 p1)], u3⟩) (Sum.elim (fun z => OutE 0 (fun z => ⟨56, [], []⟩) z) (fun z => OutR Tryz.prog Tryz.f77 (.int .i64 z))) q42 ?_ ?_
 intro p1 y2 h4
 let u4 := (a0.fMaps.getD p1.toNat default).fClauses
 unfold M.model_checkRouteMaps_l1 at h4
 refine awp_seq (zg [1, 13, 14, 15, 16] 1 (then_n (awp_seq (cn h4 (fun _ h6 => ?_) (fun _ h7 => ?_)))))
 refine awp_skip (then_n (awp_seq (awp_block (awp_seq ?_))))
 obtain ⟨c8, h9⟩ := gd_some h6
 refine zc [1, 3, 4, 13, 14, 15] 2 c8 (then_n (awp_seq (awp_seq ?_)))
 obtain ⟨r3, q10, h11⟩ := bind_some h9
 obtain ⟨r4, q12, h13⟩ := bind_some h11
 refine zr [1, 4, 5, 13, 14, 15] 2 nil_all (rq1 (model_RouteMap_ok _ _ _ q10) (rq1 (model_checkList_ok _ _ _ _ _ _ q12) rqn)) (then_n (awp_seq (zg [1, 4, 5, 13, 14, 15, 32] 2 (then_n (cn h13 (fun _ h15 => ?_) (fun _ h16 => ?_))))))
 exact awp_seq (zg [2] 0 (then_n (awp_ret (then_r (inb_r (then_r (rr h15 ⟨rfl, er0 _⟩)))))))
 refine awp_skip (then_n (awp_seq (zg [1, 13, 14, 15, 35, 36, 37] 1 (then_n (awp_block ?_)))))
 obtain ⟨y9, q33, h34⟩ := bind_some h16
 refine zl (fun (p5 : Int) => ⟨56, [(1, .ref 0 0), u1, (14, .int .i64 u2), (15, .int .i64 p1), (35, sL 7 c_TClause u4), (36, .int .i64 (u4.length : Int)), (37, .int .i64 p5)], u3⟩) (Sum.elim (fun z => OutE 2 (fun z => ⟨56, [(1, .ref 0 0), u1, (14, .int .i64 u2), (15, .int .i64 p1)], u3⟩) z) (fun z => OutR Tryz.prog Tryz.f77 (.int .i64 z))) q33 ?_ ?_
 intro p5 y6 h17
 unfold M.model_checkRouteMaps_l2 at h17
 refine awp_seq (zg [1, 13, 14, 15, 35, 36, 37, 38] 1 (then_n (awp_seq (cn h17 (fun _ h19 => ?_) (fun _ h20 => ?_)))))
 refine awp_skip (then_n (awp_seq (awp_block (awp_seq ?_))))
 obtain ⟨c21, h22⟩ := gd_some h19
 refine zc [1, 7, 13, 14, 15, 35, 36, 37] 2 c21 (then_n (awp_seq (awp_seq ?_)))
 obtain ⟨r7, q23, h24⟩ := bind_some h22
 refine zr [1, 7, 13, 14, 15, 35, 36, 37, 50] 2 nil_all (rq2 (fun hg => model_PrefixList_ok _ _ _ (gc_some q23 hg)) rqn) (then_n (cn h24 (fun _ h26 => ?_) (fun _ h27 => ?_)))
 exact awp_seq (zg [2] 0 (then_n (awp_ret (then_r (inb_r (then_r (rr h26 ⟨rfl, er0 _⟩)))))))
 refine awp_skip (then_n (awp_seq ?_))
 obtain ⟨r8, q28, h29⟩ := bind_some h27
 refine zr [1, 13, 14, 15, 35, 36, 37, 53] 1 nil_all (rq1 (model_rightClause_ok _ _ q28) rqn) (then_n (cn h29 (fun _ h31 => ?_) (fun _ h32 => ?_)))
 exact awp_seq (zg [2] 0 (then_n (awp_ret (inb_r (then_r (rr h31 ⟨rfl, er0 _⟩))))))
 exact awp_skip (inb_n (then_n (zg [1, 13, 14, 15, 35, 36, 37] 1 (rn h32))))
 exact awp_exit (then_e (re h20 ⟨rfl, kq⟩))
 intro e35 s36 o37
 rcases y9 with g10 | y11
 have h38 := elim_l h34
 obtain ⟨rfl, l40⟩ := o37
 exact inb_here (inb_n (then_le (s' := ⟨56, [(1, .ref 0 0), u1, (14, .int .i64 u2), (15, .int .i64 p1)], u3⟩) (l40) (zg [1, 13, 14, 15] 1 (rn h38))))
 have h39 := elim_r h34
 obtain ⟨rfl, n41⟩ := o37
 exact inb_r (inb_r (then_r (rr h39 ⟨rfl, n41⟩)))
 exact awp_exit (then_e (re h7 ⟨rfl, kc⟩))
 intro e44 s45 o46
 rcases y12 with g13 | y14
 have h47 := elim_l h43
 exact zi o46 (awp_seq (zg [2] 0 (then_n (awp_ret (er1 h47)))))
 have h48 := elim_r h43
 obtain ⟨rfl, n50⟩ := o46
 refine inb_r (then_r ?_)
 obtain rfl := Option.some.inj h48
 exact n50
theorem model_ACL_1_ok (a0 : TACL) (b0 : ByteArray) (r : Bool) (h : M.model_ACL_1 a0 b0 = some r) : Fn Tryz.prog 171 [.agg (c_TACL a0), .pp (cs b0)] (.pure (.bool r)) := by
 unfold M.model_ACL_1 at h
 exact fn_pure Tryz.func171 rfl (by kernel_rfl) (awp_seq (zg [1, 2] 1 (then_n (awp_seq (zg [3] 0 (then_n (awp_ret (er1 h))))))))
theorem slices_IndexFunc_api_ACL_api_ACL__model_ACL_1_ok (a0 : List TACL) (a1c0 : ByteArray) (r : Int) (h : M.slices_IndexFunc_api_ACL_api_ACL__model_ACL_1 a0 a1c0 = some r) : Fn Tryz.prog 170 [sL 2 c_TACL a0, .fn 171 [.pp (cs a1c0)]] (.pure (.int .i64 r)) := by
 unfold M.slices_IndexFunc_api_ACL_api_ACL__model_ACL_1 at h
 refine fn_pure Tryz.func170 rfl (by kernel_rfl) (awp_seq (zg [0, 1] 0 (then_n (awp_seq (awp_seq (zg [0, 1, 7, 8] 0 (then_n (awp_block ?_))))))))
 obtain ⟨y4, q12, h13⟩ := bind_some h
 refine zl (fun (p1 : Int) => ⟨19, [(0, sL 2 c_TACL a0), (1, .fn 171 [.pp (cs a1c0)]), (7, .int .i64 (a0.length : Int)), (8, .int .i64 p1)], []⟩) (Sum.elim (fun z => OutE 0 (fun z => ⟨19, [], []⟩) z) (fun z => OutR Tryz.prog Tryz.f170 (.int .i64 z))) q12 ?_ ?_
 intro p1 y2 h1
 unfold M.slices_IndexFunc_api_ACL_api_ACL__model_ACL_1_l1 at h1
 refine awp_seq (zg [0, 1, 7, 8, 9] 0 (then_n (awp_seq (cn h1 (fun _ h3 => ?_) (fun _ h4 => ?_)))))
 refine awp_skip (then_n (awp_seq (awp_block (awp_seq (zg [0, 1, 5, 7, 8] 0 (then_n (awp_seq ?_)))))))
 obtain ⟨r3, q5, h6⟩ := bind_some h3
 obtain ⟨c7, h8⟩ := gd_some h6
 refine zr [0, 1, 5, 7, 8, 16] 0 c7 (rq1 (model_ACL_1_ok _ _ _ q5) rqn) (then_n (cn h8 (fun _ h10 => ?_) (fun _ h11 => ?_)))
 exact awp_seq (zg [4] 0 (then_n (awp_ret (inb_r (then_r (rr h10 ⟨rfl, er0 _⟩))))))
 exact awp_skip (inb_n (then_n (zg [0, 1, 7, 8] 0 (rn h11))))
 exact awp_exit (then_e (re h4 ⟨rfl, kq⟩))
 intro e14 s15 o16
 rcases y4 with g5 | y6
 have h17 := elim_l h13
 exact zi o16 (awp_seq (zg [4] 0 (then_n (awp_ret (er1 h17)))))
 have h18 := elim_r h13
 obtain ⟨rfl, n20⟩ := o16
 refine inb_r (then_r ?_)
 obtain rfl := Option.some.inj h18
 exact n20
theorem model_ACL_ok (a0 : TRouter) (a1 : ByteArray) (r : Int) (h : M.model_ACL a0 a1 = some r) : Fn Tryz.prog 139 [.agg (c_TRouter a0), .str a1] (.pure (.int .i64 r)) := by
 unfold M.model_ACL at h
 refine fn_pure Tryz.func139 rfl (by kernel_rfl) (awp_seq (zg [2, 3] 2 (then_n (awp_seq ?_))))
 obtain ⟨r1, q1, h2⟩ := bind_some h
 exact zr [4] 0 nil_all (rq1 (slices_IndexFunc_api_ACL_api_ACL__model_ACL_1_ok _ _ _ q1) rqn) (then_n (awp_ret (er1 h2)))
theorem model_rightPorts_ok (a0 : TPortRange) (r : Bool) (h : M.model_rightPorts a0 = some r) : Fn Tryz.prog 172 [.agg (c_TPortRange a0)] (.pure (.bool r)) := by
 unfold M.model_rightPorts at h
 exact fn_pure Tryz.func172 rfl (by kernel_rfl) (awp_seq (zg [1] 1 (then_n (awp_seq (zg [2] 0 (then_n (awp_ret (er1 h))))))))
theorem model_rightRule_ok (a0 : TRule) (r : Bool) (h : M.model_rightRule a0 = some r) : Fn Tryz.prog 140 [.agg (c_TRule a0)] (.pure (.bool r)) := by
 unfold M.model_rightRule at h
 refine fn_pure Tryz.func140 rfl (by kernel_rfl) (awp_seq (zg [1] 1 (then_n (awp_seq (awp_seq ?_)))))
 obtain ⟨r1, q1, h2⟩ := bind_some h
 refine zr [1, 27] 1 nil_all (rq1 (model_within_ok _ _ _ _ q1) rqn) (then_n (cn h2 (fun _ h4 => ?_) (fun _ h5 => ?_)))
 exact awp_seq (zg [2] 0 (then_n (awp_ret (then_r (er1 h4)))))
 refine awp_skip (then_n (awp_seq (awp_seq ?_)))
 obtain ⟨r2, q6, h7⟩ := bind_some h5
 obtain ⟨r3, q8, h9⟩ := bind_some h7
 refine zr [1, 37] 1 nil_all (rq1 (model_rightPorts_ok _ _ q6) (rq2 (fun hg => model_rightPorts_ok _ _ (gc_some q8 hg)) rqn)) (then_n (cn h9 (fun _ h11 => ?_) (fun _ h12 => ?_)))
 exact awp_seq (zg [2] 0 (then_n (awp_ret (then_r (er1 h11)))))
 exact awp_skip (then_n (awp_seq (zg [1, 3] 2 (then_n (awp_seq (zg [2] 0 (then_n (awp_ret (er1 h12)))))))))
theorem model_checkACLs_ok (a0 : TRouter) (r : Int) (h : M.model_checkACLs a0 = some r) : Fn Tryz.prog 78 [.agg (c_TRouter a0)] (.pure (.int .i64 r)) := by
 let u1 : Nat × D := (13, sL 2 c_TACL a0.fACLs)
 let u2 := (a0.fACLs.length : Int)
 let u3 : List Ob := [.box (c_TRouter a0)]
 unfold M.model_checkACLs at h
 refine fn_pure Tryz.func78 rfl (by kernel_rfl) (awp_seq (zg [1] 1 (then_n (awp_seq (awp_seq (zg [1, 11] 1 (then_n (cn h (fun _ h2 => ?_) (fun _ h3 => ?_)))))))))
 exact awp_seq (zg [2] 0 (then_n (awp_ret (then_r (er1 h2)))))
 refine awp_skip (then_n (awp_seq (awp_seq (zg [1, 13, 14, 15] 1 (then_n (awp_block ?_))))))
 obtain ⟨y11, q37, h38⟩ := bind_some h3
 refine zl (fun (p1 : Int) => ⟨46, [(1, .ref 0 0), u1, (14, .int .i64 u2), (15, .int .i64 p1)], u3⟩) (Sum.elim (fun z => OutE 0 (fun z => ⟨46, [], []⟩) z) (fun z => OutR Tryz.prog Tryz.f78 (.int .i64 z))) q37 ?_ ?_
 intro p1 y2 h4
 let u4 := (a0.fACLs.getD p1.toNat default).fRules
 unfold M.model_checkACLs_l1 at h4
 refine awp_seq (zg [1, 13, 14, 15, 16] 1 (then_n (awp_seq (cn h4 (fun _ h6 => ?_) (fun _ h7 => ?_)))))
 refine awp_skip (then_n (awp_seq (awp_block (awp_seq ?_))))
 obtain ⟨c8, h9⟩ := gd_some h6
 refine zc [1, 3, 4, 13, 14, 15] 2 c8 (then_n (awp_seq (awp_seq ?_)))
 obtain ⟨r3, q10, h11⟩ := bind_some h9
 obtain ⟨r4, q12, h13⟩ := bind_some h11
 refine zr [1, 4, 5, 13, 14, 15] 2 nil_all (rq1 (model_ACL_ok _ _ _ q10) (rq1 (model_checkList_ok _ _ _ _ _ _ q12) rqn)) (then_n (awp_seq (zg [1, 4, 5, 13, 14, 15, 32] 2 (then_n (cn h13 (fun _ h15 => ?_) (fun _ h16 => ?_))))))
 exact awp_seq (zg [2] 0 (then_n (awp_ret (then_r (inb_r (then_r (rr h15 ⟨rfl, er0 _⟩)))))))
 refine awp_skip (then_n (awp_seq (zg [1, 13, 14, 15, 35, 36, 37] 1 (then_n (awp_block ?_)))))
 obtain ⟨y8, q28, h29⟩ := bind_some h16
 refine zl (fun (p5 : Int) => ⟨46, [(1, .ref 0 0), u1, (14, .int .i64 u2), (15, .int .i64 p1), (35, sL 10 c_TRule u4), (36, .int .i64 (u4.length : Int)), (37, .int .i64 p5)], u3⟩) (Sum.elim (fun z => OutE 2 (fun z => ⟨46, [(1, .ref 0 0), u1, (14, .int .i64 u2), (15, .int .i64 p1)], u3⟩) z) (fun z => OutR Tryz.prog Tryz.f78 (.int .i64 z))) q28 ?_ ?_
 intro p5 y6 h17
 unfold M.model_checkACLs_l2 at h17
 refine awp_seq (zg [1, 13, 14, 15, 35, 36, 37, 38] 1 (then_n (awp_seq (cn h17 (fun _ h19 => ?_) (fun _ h20 => ?_)))))
 refine awp_skip (then_n (awp_seq (awp_block (awp_seq ?_))))
 obtain ⟨c21, h22⟩ := gd_some h19
 refine zc [1, 7, 13, 14, 15, 35, 36, 37] 2 c21 (then_n (awp_seq ?_))
 obtain ⟨r7, q23, h24⟩ := bind_some h22
 refine zr [1, 13, 14, 15, 35, 36, 37, 43] 1 nil_all (rq1 (model_rightRule_ok _ _ q23) rqn) (then_n (cn h24 (fun _ h26 => ?_) (fun _ h27 => ?_)))
 exact awp_seq (zg [2] 0 (then_n (awp_ret (inb_r (then_r (rr h26 ⟨rfl, er0 _⟩))))))
 exact awp_skip (inb_n (then_n (zg [1, 13, 14, 15, 35, 36, 37] 1 (rn h27))))
 exact awp_exit (then_e (re h20 ⟨rfl, kq⟩))
 intro e30 s31 o32
 rcases y8 with g9 | y10
 have h33 := elim_l h29
 obtain ⟨rfl, l35⟩ := o32
 exact inb_here (inb_n (then_le (s' := ⟨46, [(1, .ref 0 0), u1, (14, .int .i64 u2), (15, .int .i64 p1)], u3⟩) (l35) (zg [1, 13, 14, 15] 1 (rn h33))))
 have h34 := elim_r h29
 obtain ⟨rfl, n36⟩ := o32
 exact inb_r (inb_r (then_r (rr h34 ⟨rfl, n36⟩)))
 exact awp_exit (then_e (re h7 ⟨rfl, kc⟩))
 intro e39 s40 o41
 rcases y11 with g12 | y13
 have h42 := elim_l h38
 exact zi o41 (awp_seq (zg [2] 0 (then_n (awp_ret (er1 h42)))))
 have h43 := elim_r h38
 obtain ⟨rfl, n45⟩ := o41
 refine inb_r (then_r ?_)
 obtain rfl := Option.some.inj h43
 exact n45
theorem model_rightTranslation_ok (a0 : TTranslation) (r : Bool) (h : M.model_rightTranslation a0 = some r) : Fn Tryz.prog 141 [.agg (c_TTranslation a0)] (.pure (.bool r)) := by
 unfold M.model_rightTranslation at h
 refine fn_pure Tryz.func141 rfl (by kernel_rfl) (awp_seq (zg [1] 1 (then_n (awp_seq (awp_seq (zg [1, 6] 1 (then_n (awp_block (awp_seq (zg [1, 6, 7] 1 (then_n (cn h (fun _ h2 => ?_) (fun _ h3 => ?_)))))))))))))
 exact awp_seq (zg [1, 3] 2 (then_n (awp_seq (zg [2] 0 (then_n (awp_ret (inb_r (then_r (er1 h2)))))))))
 refine awp_seq (zg [1, 6, 29] 1 (then_n (cn h3 (fun _ h5 => ?_) (fun _ h6 => ?_))))
 exact awp_seq (zg [1, 4] 2 (then_n (awp_seq (zg [2] 0 (then_n (awp_ret (inb_r (then_r (er1 h5)))))))))
 refine awp_seq (zg [1, 63] 1 (then_n (cn h6 (fun _ h8 => ?_) (fun _ h9 => ?_))))
 refine awp_seq ?_
 obtain ⟨r1, q10, h11⟩ := bind_some h8
 obtain ⟨r2, q12, h13⟩ := bind_some h11
 exact zr [2] 0 nil_all (rq2 (fun hg => model_within_ok _ _ _ _ (gc_some q10 hg)) (rq2 (fun hg => model_within_ok _ _ _ _ (gc_some q12 hg)) rqn)) (then_n (awp_ret (inb_r (then_r (er1 h13)))))
 exact awp_skip (inb_n (then_n (awp_seq (zg [2] 0 (then_n (awp_ret (er1 h9)))))))
theorem model_checkNAT_ok (a0 : TRouter) (r : Int) (h : M.model_checkNAT a0 = some r) : Fn Tryz.prog 79 [.agg (c_TRouter a0)] (.pure (.int .i64 r)) := by
 unfold M.model_checkNAT at h
 refine fn_pure Tryz.func79 rfl (by kernel_rfl) (awp_seq (zg [1] 1 (then_n (awp_seq (awp_seq (zg [1, 8] 1 (then_n (cn h (fun _ h2 => ?_) (fun _ h3 => ?_)))))))))
 exact awp_seq (zg [2] 0 (then_n (awp_ret (then_r (er1 h2)))))
 refine awp_skip (then_n (awp_seq (awp_seq (zg [1, 10, 11, 12] 1 (then_n (awp_block ?_))))))
 obtain ⟨y5, q20, h21⟩ := bind_some h3
 refine zl (fun (p1 : Int) => ⟨30, [(1, .ref 0 0), (10, sL 9 c_TTranslation a0.fNAT), (11, .int .i64 (a0.fNAT.length : Int)), (12, .int .i64 p1)], [.box (c_TRouter a0)]⟩) (Sum.elim (fun z => OutE 0 (fun z => ⟨30, [], []⟩) z) (fun z => OutR Tryz.prog Tryz.f79 (.int .i64 z))) q20 ?_ ?_
 intro p1 y2 h4
 unfold M.model_checkNAT_l1 at h4
 refine awp_seq (zg [1, 10, 11, 12, 13] 1 (then_n (awp_seq (cn h4 (fun _ h6 => ?_) (fun _ h7 => ?_)))))
 refine awp_skip (then_n (awp_seq (awp_block (awp_seq ?_))))
 obtain ⟨c8, h9⟩ := gd_some h6
 refine zc [1, 4, 10, 11, 12] 2 c8 (then_n (awp_seq (awp_seq ?_)))
 obtain ⟨r3, q10, h11⟩ := bind_some h9
 refine zr [1, 4, 10, 11, 12, 18] 2 nil_all (rq1 (model_rightTranslation_ok _ _ q10) rqn) (then_n (cn h11 (fun _ h13 => ?_) (fun _ h14 => ?_)))
 exact awp_seq (zg [2] 0 (then_n (awp_ret (then_r (inb_r (then_r (rr h13 ⟨rfl, er0 _⟩)))))))
 refine awp_skip (then_n (awp_seq ?_))
 obtain ⟨r4, q15, h16⟩ := bind_some h14
 refine zr [1, 10, 11, 12, 28] 1 nil_all (rq2 (fun hg => model_ACL_ok _ _ _ (gc_some q15 hg)) rqn) (then_n (cn h16 (fun _ h18 => ?_) (fun _ h19 => ?_)))
 exact awp_seq (zg [2] 0 (then_n (awp_ret (inb_r (then_r (rr h18 ⟨rfl, er0 _⟩))))))
 exact awp_skip (inb_n (then_n (zg [1, 10, 11, 12] 1 (rn h19))))
 exact awp_exit (then_e (re h7 ⟨rfl, kc⟩))
 intro e22 s23 o24
 rcases y5 with g6 | y7
 have h25 := elim_l h21
 exact zi o24 (awp_seq (zg [2] 0 (then_n (awp_ret (er1 h25)))))
 have h26 := elim_r h21
 obtain ⟨rfl, n28⟩ := o24
 refine inb_r (then_r ?_)
 obtain rfl := Option.some.inj h26
 exact n28
theorem model_checkFilters_ok (a0 : TRouter) (r : Int) (h : M.model_checkFilters a0 = some r) : Fn Tryz.prog 80 [.agg (c_TRouter a0)] (.pure (.int .i64 r)) := by
 unfold M.model_checkFilters at h
 refine fn_pure Tryz.func80 rfl (by kernel_rfl) (awp_seq (zg [1] 1 (then_n (awp_seq (awp_seq (zg [1, 6, 7, 8] 1 (then_n (awp_block ?_))))))))
 obtain ⟨y5, q14, h15⟩ := bind_some h
 refine zl (fun (p1 : Int) => ⟨35, [(1, .ref 0 0), (6, sL 12 c_TInterface a0.fInterfaces), (7, .int .i64 (a0.fInterfaces.length : Int)), (8, .int .i64 p1)], [.box (c_TRouter a0)]⟩) (Sum.elim (fun z => OutE 0 (fun z => ⟨35, [], []⟩) z) (fun z => OutR Tryz.prog Tryz.f80 (.int .i64 z))) q14 ?_ ?_
 intro p1 y2 h1
 unfold M.model_checkFilters_l1 at h1
 refine awp_seq (zg [1, 6, 7, 8, 9] 1 (then_n (awp_seq (cn h1 (fun _ h3 => ?_) (fun _ h4 => ?_)))))
 refine awp_skip (then_n (awp_seq (awp_block (awp_seq ?_))))
 obtain ⟨c5, h6⟩ := gd_some h3
 refine zc [1, 4, 6, 7, 8] 2 c5 (then_n (awp_seq ?_))
 obtain ⟨r3, q7, h8⟩ := bind_some h6
 obtain ⟨r4, q9, h10⟩ := bind_some h8
 refine zr [1, 6, 7, 8, 33] 1 nil_all (rq2 (fun hg => model_ACL_ok _ _ _ (gc_some q7 hg)) (rq2 (fun hg => model_ACL_ok _ _ _ (gc_some q9 hg)) rqn)) (then_n (cn h10 (fun _ h12 => ?_) (fun _ h13 => ?_)))
 exact awp_seq (zg [2] 0 (then_n (awp_ret (inb_r (then_r (rr h12 ⟨rfl, er0 _⟩))))))
 exact awp_skip (inb_n (then_n (zg [1, 6, 7, 8] 1 (rn h13))))
 exact awp_exit (then_e (re h4 ⟨rfl, kc⟩))
 intro e16 s17 o18
 rcases y5 with g6 | y7
 have h19 := elim_l h15
 exact zi o18 (awp_seq (zg [2] 0 (then_n (awp_ret (er1 h19)))))
 have h20 := elim_r h15
 obtain ⟨rfl, n22⟩ := o18
 refine inb_r (then_r ?_)
 obtain rfl := Option.some.inj h20
 exact n22
theorem model_Address_1_ok (a0 : TInterface) (b0 : Int) (r : Bool) (h : M.model_Address_1 a0 b0 = some r) : Fn Tryz.prog 147 [.agg (c_TInterface a0), .pp ((ci .u32) b0)] (.pure (.bool r)) := by
 unfold M.model_Address_1 at h
 exact fn_pure Tryz.func147 rfl (by kernel_rfl) (awp_seq (zg [1, 2] 1 (then_n (awp_seq (zg [3] 0 (then_n (awp_ret (er1 h))))))))
theorem slices_IndexFunc_api_Interface_api_Interface__model_Address_1_ok (a0 : List TInterface) (a1c0 : Int) (r : Int) (h : M.slices_IndexFunc_api_Interface_api_Interface__model_Address_1 a0 a1c0 = some r) : Fn Tryz.prog 146 [sL 12 c_TInterface a0, .fn 147 [.pp ((ci .u32) a1c0)]] (.pure (.int .i64 r)) := by
 unfold M.slices_IndexFunc_api_Interface_api_Interface__model_Address_1 at h
 refine fn_pure Tryz.func146 rfl (by kernel_rfl) (awp_seq (zg [0, 1] 0 (then_n (awp_seq (awp_seq (zg [0, 1, 7, 8] 0 (then_n (awp_block ?_))))))))
 obtain ⟨y4, q12, h13⟩ := bind_some h
 refine zl (fun (p1 : Int) => ⟨19, [(0, sL 12 c_TInterface a0), (1, .fn 147 [.pp ((ci .u32) a1c0)]), (7, .int .i64 (a0.length : Int)), (8, .int .i64 p1)], []⟩) (Sum.elim (fun z => OutE 0 (fun z => ⟨19, [], []⟩) z) (fun z => OutR Tryz.prog Tryz.f146 (.int .i64 z))) q12 ?_ ?_
 intro p1 y2 h1
 unfold M.slices_IndexFunc_api_Interface_api_Interface__model_Address_1_l1 at h1
 refine awp_seq (zg [0, 1, 7, 8, 9] 0 (then_n (awp_seq (cn h1 (fun _ h3 => ?_) (fun _ h4 => ?_)))))
 refine awp_skip (then_n (awp_seq (awp_block (awp_seq (zg [0, 1, 5, 7, 8] 0 (then_n (awp_seq ?_)))))))
 obtain ⟨r3, q5, h6⟩ := bind_some h3
 obtain ⟨c7, h8⟩ := gd_some h6
 refine zr [0, 1, 5, 7, 8, 16] 0 c7 (rq1 (model_Address_1_ok _ _ _ q5) rqn) (then_n (cn h8 (fun _ h10 => ?_) (fun _ h11 => ?_)))
 exact awp_seq (zg [4] 0 (then_n (awp_ret (inb_r (then_r (rr h10 ⟨rfl, er0 _⟩))))))
 exact awp_skip (inb_n (then_n (zg [0, 1, 7, 8] 0 (rn h11))))
 exact awp_exit (then_e (re h4 ⟨rfl, kq⟩))
 intro e14 s15 o16
 rcases y4 with g5 | y6
 have h17 := elim_l h13
 exact zi o16 (awp_seq (zg [4] 0 (then_n (awp_ret (er1 h17)))))
 have h18 := elim_r h13
 obtain ⟨rfl, n20⟩ := o16
 refine inb_r (then_r ?_)
 obtain rfl := Option.some.inj h18
 exact n20
theorem model_Address_ok (a0 : TRouter) (a1 : Int) (r : Int) (h : M.model_Address a0 a1 = some r) : Fn Tryz.prog 87 [.agg (c_TRouter a0), .int .u32 a1] (.pure (.int .i64 r)) := by
 unfold M.model_Address at h
 refine fn_pure Tryz.func87 rfl (by kernel_rfl) (awp_seq (zg [2, 3] 2 (then_n (awp_seq ?_))))
 obtain ⟨r1, q1, h2⟩ := bind_some h
 exact zr [4] 0 nil_all (rq1 (slices_IndexFunc_api_Interface_api_Interface__model_Address_1_ok _ _ _ q1) rqn) (then_n (awp_ret (er1 h2)))
theorem model_rightStatic_ok (a0 : TRouter) (a1 : TStaticRoute) (r : Bool) (h : M.model_rightStatic a0 a1 = some r) : Fn Tryz.prog 142 [.agg (c_TRouter a0), .agg (c_TStaticRoute a1)] (.pure (.bool r)) := by
 let u1 : Nat × D := (16, sL 1 cb ([a1.fNext != 0, !strEq a1.fIface (⟨#[]⟩ : ByteArray), a1.fDiscard] : List Bool))
 let u2 : List Ob := [.box (c_TRouter a0), .box (c_TStaticRoute a1)]
 unfold M.model_rightStatic at h
 refine fn_pure Tryz.func142 rfl (by kernel_rfl) (awp_seq (zg [2, 3] 2 (then_n (awp_seq (zg [2, 3, 5] 2 (then_n (awp_seq (awp_seq (rg0 [2, 3, 5, 16, 17, 18] 2 ⟨55, [(2, .ref 0 0), (3, .ref 1 0), (5, .int .i64 0), (16, .sl true 1 3 (fun i => List.take 1 (List.drop (i * 1) [.bool (a1.fNext != 0), .bool (!strEq a1.fIface (⟨#[]⟩ : ByteArray)), .bool a1.fDiscard]))), (17, .int .i64 3), (18, .int .i64 0)], [.box (c_TRouter a0), .box (c_TStaticRoute a1)]⟩ (then_le (s' := ⟨55, [(2, .ref 0 0), (3, .ref 1 0), (5, .int .i64 0), (16, sL 1 cb ([a1.fNext != 0, !strEq a1.fIface (⟨#[]⟩ : ByteArray), a1.fDiscard] : List Bool)), (17, .int .i64 3), (18, .int .i64 0)], [.box (c_TRouter a0), .box (c_TStaticRoute a1)]⟩) (le_sub (.cons Sub.rfl (.cons Sub.rfl (.cons Sub.rfl (.cons (sub_sl rfl (fun i hi => match i, hi with | 0, _ => rfl | 1, _ => rfl | 2, _ => rfl | n + 3, h => absurd h (by omega))) (.cons Sub.rfl (.cons Sub.rfl .nil)))))) (.cons .rfl (.cons .rfl .nil))) (awp_block ?_)))))))))))
 obtain ⟨y4, q12, h13⟩ := bind_some h
 refine zl (fun (p1 : Int × Int) => ⟨55, [(2, .ref 0 0), (3, .ref 1 0), (5, .int .i64 p1.1), u1, (17, .int .i64 3), (18, .int .i64 p1.2)], u2⟩) (fun z => OutE 0 (fun z => ⟨55, [(2, .ref 0 0), (3, .ref 1 0), (5, .int .i64 z)], u2⟩) z) q12 ?_ ?_
 intro p1 y2 h1
 unfold M.model_rightStatic_l1 at h1
 refine awp_seq (rg0 [2, 3, 5, 16, 17, 18, 19] 2 ⟨55, [(2, .ref 0 0), (3, .ref 1 0), (5, .int .i64 p1.1), u1, (17, .int .i64 3), (18, .int .i64 p1.2), (19, .bool (decide (p1.2 < 3)))], u2⟩ (then_n (awp_seq (cn h1 (fun _ h3 => ?_) (fun _ h4 => ?_)))))
 refine awp_skip (then_n (awp_join (fun (p3 : Int) => ⟨55, [(2, .ref 0 0), (3, .ref 1 0), (5, .int .i64 p3), u1, (17, .int .i64 3), (18, .int .i64 p1.2)], u2⟩) (fun p3 => M.model_rightStatic_k1 p1 p3 = some y2) ?_ ?_))
 intro p3 h6
 unfold M.model_rightStatic_k1 at h6
 exact zg [2, 3, 5, 16, 17, 18] 2 (rn h6)
 intro k5
 refine awp_block (awp_seq ?_)
 obtain ⟨c7, h8⟩ := gd_some h3
 refine zc [2, 3, 5, 7, 16, 17, 18] 2 c7 (then_n (awp_seq (zg [2, 3, 5, 16, 17, 18, 22] 2 (then_n (cn h8 (fun _ h10 => ?_) (fun _ h11 => ?_))))))
 exact zg [2, 3, 5, 16, 17, 18] 2 (inb_n (then_le lk (k5 (wr .i64 (p1.1 + 1)) h10)))
 exact awp_skip (inb_n (then_le kq (k5 p1.1 h11)))
 exact awp_exit (then_e (re h4 ⟨rfl, kq⟩))
 intro e14 s15 o16
 refine zi o16 (awp_seq ?_)
 obtain ⟨r5, q18, h19⟩ := bind_some h13
 obtain ⟨r6, q20, h21⟩ := bind_some h19
 obtain ⟨r7, q22, h23⟩ := bind_some h21
 obtain ⟨r8, q24, h25⟩ := bind_some h23
 exact zr [4] 0 nil_all (rq1 (addr_Valid_ok _ _ q18) (rq2 (fun hg => model_Address_ok _ _ _ (gc_some q20 hg)) (rq2 (fun hg => model_within_ok _ _ _ _ (gc_some q22 hg)) (rq2 (fun hg => model_within_ok _ _ _ _ (gc_some q24 hg)) rqn)))) (then_n (awp_ret (er1 h25)))
theorem model_checkStatics_ok (a0 : TRouter) (r : Int) (h : M.model_checkStatics a0 = some r) : Fn Tryz.prog 81 [.agg (c_TRouter a0)] (.pure (.int .i64 r)) := by
 let u2 : Nat × D := (13, sL 7 c_TStaticRoute a0.fStatics)
 let u3 := (a0.fStatics.length : Int)
 let u6 := c_TRouter a0
 unfold M.model_checkStatics at h
 refine fn_pure Tryz.func81 rfl (by kernel_rfl) (awp_seq (zg [1] 1 (then_n (awp_seq (awp_seq (zg [1, 11] 1 (then_n (cn h (fun _ h2 => ?_) (fun _ h3 => ?_)))))))))
 exact awp_seq (zg [2] 0 (then_n (awp_ret (then_r (er1 h2)))))
 refine awp_skip (then_n (awp_seq (awp_seq (zg [1, 13, 14, 15] 1 (then_n (awp_block ?_))))))
 obtain ⟨y11, q50, h51⟩ := bind_some h3
 refine zl (fun (p1 : Int) => ⟨63, [(1, .ref 0 0), u2, (14, .int .i64 u3), (15, .int .i64 p1)], [.box u6]⟩) (Sum.elim (fun z => OutE 0 (fun z => ⟨63, [], []⟩) z) (fun z => OutR Tryz.prog Tryz.f81 (.int .i64 z))) q50 ?_ ?_
 intro p1 y2 h4
 let u4 := a0.fStatics.getD p1.toNat default
 let u1 : List Ob := [.box u6, .box (c_TStaticRoute u4)]
 let u5 : Nat × D := (43, sL 7 c_TStaticRoute ((a0.fStatics.drop 0).take (p1.toNat - 0)))
 unfold M.model_checkStatics_l1 at h4
 refine awp_seq (zg [1, 13, 14, 15, 16] 1 (then_n (awp_seq (cn h4 (fun _ h6 => ?_) (fun _ h7 => ?_)))))
 refine awp_skip (then_n (awp_seq (awp_block (awp_seq ?_))))
 obtain ⟨c8, h9⟩ := gd_some h6
 refine zc [1, 3, 4, 13, 14, 15] 2 c8 (then_n (awp_seq (awp_seq ?_)))
 obtain ⟨r3, q10, h11⟩ := bind_some h9
 refine rg [.pure (.bool r3)] [1, 3, 4, 13, 14, 15, 23] 2 ⟨63, [(1, .ref 0 0), (3, .int .i64 p1), (4, .ref 1 0), u2, (14, .int .i64 u3), (15, .int .i64 p1), (23, .bool (!r3))], u1⟩ [] [⟨true, 142, [.agg u6, .agg (c_TStaticRoute u4)], .pure (.bool r3)⟩] nil_all ⟨fun _ => model_rightStatic_ok a0 u4 r3 q10, trivial⟩ (then_n (cn h11 (fun _ h13 => ?_) (fun _ h14 => ?_)))
 exact awp_seq (zg [2] 0 (then_n (awp_ret (then_r (inb_r (then_r (rr h13 ⟨rfl, er0 _⟩)))))))
 refine awp_skip (then_n (awp_join (fun (p4 : Unit) => ⟨63, [(1, .ref 0 0), (3, .int .i64 p1), (4, .ref 1 0), u2, (14, .int .i64 u3), (15, .int .i64 p1)], u1⟩) (fun p4 => M.model_checkStatics_k1 a0 p1 p4 = some y2) ?_ ?_))
 intro p4 h16
 unfold M.model_checkStatics_k1 at h16
 refine awp_seq ?_
 obtain ⟨c17, h18⟩ := gd_some h16
 refine rgc [1, 4, 13, 14, 15, 43, 44, 45] 2 ⟨63, [(1, .ref 0 0), (4, .ref 1 0), u2, (14, .int .i64 u3), (15, .int .i64 p1), (43, .sl false 7 (p1.toNat - 0) (fun i => c_TStaticRoute (a0.fStatics.getD (0 + i) default))), (44, .int .i64 ((p1.toNat - 0 : Nat) : Int)), (45, .int .i64 0)], u1⟩ [decide (0 ≤ p1), decide (p1 ≤ u3)] c17 (then_le (s' := ⟨63, [(1, .ref 0 0), (4, .ref 1 0), u2, (14, .int .i64 u3), (15, .int .i64 p1), u5, (44, .int .i64 ((p1.toNat - 0 : Nat) : Int)), (45, .int .i64 0)], u1⟩) (le_sub (.cons Sub.rfl (.cons Sub.rfl (.cons Sub.rfl (.cons Sub.rfl (.cons Sub.rfl (.cons (sub_sl (len_cut _ _ _ (cut_hi (c17 _ (List.mem_cons_of_mem _ List.mem_cons_self)))) (cut_ext _ _ _ _)) (.cons Sub.rfl (.cons Sub.rfl .nil)))))))) (.cons .rfl (.cons .rfl .nil))) (awp_block ?_))
 obtain ⟨y7, q28, h29⟩ := bind_some h18
 refine zl (fun (p5 : Int) => ⟨63, [(1, .ref 0 0), (4, .ref 1 0), u2, (14, .int .i64 u3), (15, .int .i64 p1), u5, (44, .int .i64 ((p1.toNat - 0 : Nat) : Int)), (45, .int .i64 p5)], u1⟩) (Sum.elim (fun z => OutE 2 (fun z => ⟨63, [(1, .ref 0 0), u2, (14, .int .i64 u3), (15, .int .i64 p1)], [.box u6]⟩) z) (fun z => OutR Tryz.prog Tryz.f81 (.int .i64 z))) q28 ?_ ?_
 intro p5 y6 h19
 unfold M.model_checkStatics_l2 at h19
 refine awp_seq (zg [1, 4, 13, 14, 15, 43, 44, 45, 46] 2 (then_n (awp_seq (cn h19 (fun _ h21 => ?_) (fun _ h22 => ?_)))))
 refine awp_skip (then_n (awp_seq (awp_block (awp_seq ?_))))
 obtain ⟨c23, h24⟩ := gd_some h21
 refine zc [1, 4, 7, 13, 14, 15, 43, 44, 45] 3 c23 (then_n (awp_seq (zg [1, 4, 13, 14, 15, 43, 44, 45, 60] 2 (then_n (cn h24 (fun _ h26 => ?_) (fun _ h27 => ?_))))))
 exact awp_seq (zg [2] 0 (then_n (awp_ret (inb_r (then_r (rr h26 ⟨rfl, er0 _⟩))))))
 exact awp_skip (inb_n (then_n (zg [1, 4, 13, 14, 15, 43, 44, 45] 2 (rn h27))))
 exact awp_exit (then_e (re h22 ⟨rfl, kc⟩))
 intro e30 s31 o32
 rcases y7 with g8 | y9
 have h33 := elim_l h29
 obtain ⟨rfl, l35⟩ := o32
 exact inb_here (inb_n (then_le (s' := ⟨63, [(1, .ref 0 0), u2, (14, .int .i64 u3), (15, .int .i64 p1)], [.box u6]⟩) (l35) (zg [1, 13, 14, 15] 1 (rn h33))))
 have h34 := elim_r h29
 obtain ⟨rfl, n36⟩ := o32
 exact inb_r (inb_r (then_r (rr h34 ⟨rfl, n36⟩)))
 intro k15
 refine awp_seq (zg [1, 3, 4, 13, 14, 15, 26] 2 (then_n (cn h14 (fun _ h38 => ?_) (fun _ h39 => ?_))))
 refine awp_seq ?_
 obtain ⟨r10, q40, h41⟩ := bind_some h38
 refine zr [1, 3, 4, 5, 13, 14, 15] 2 nil_all (rq1 (model_Interface_ok _ _ _ q40) rqn) (then_n (awp_seq (awp_seq (zg [1, 3, 4, 5, 13, 14, 15, 32] 2 (then_n (cn h41 (fun _ h43 => ?_) (fun _ h44 => ?_)))))))
 exact awp_seq (zg [2] 0 (then_n (awp_ret (then_r (then_r (inb_r (then_r (rr h43 ⟨rfl, er0 _⟩))))))))
 refine awp_skip (then_n (awp_seq ?_))
 obtain ⟨c45, h46⟩ := gd_some h44
 refine zc [1, 3, 4, 13, 14, 15, 39] 2 c45 (then_n (cn h46 (fun _ h48 => ?_) (fun _ h49 => ?_)))
 exact awp_seq (zg [2] 0 (then_n (awp_ret (then_r (inb_r (then_r (rr h48 ⟨rfl, er0 _⟩)))))))
 exact awp_skip (then_le kq (k15 () h49))
 exact awp_skip (then_le kq (k15 () h39))
 exact awp_exit (then_e (re h7 ⟨rfl, kc⟩))
 intro e52 s53 o54
 rcases y11 with g12 | y13
 have h55 := elim_l h51
 exact zi o54 (awp_seq (zg [2] 0 (then_n (awp_ret (er1 h55)))))
 have h56 := elim_r h51
 obtain ⟨rfl, n58⟩ := o54
 refine inb_r (then_r ?_)
 obtain rfl := Option.some.inj h56
 exact n58
theorem model_checkRedist_ok (a0 : TRouter) (a1 : List TRedist) (a2 : Int) (a3 : Int) (a4 : Int) (a5 : Int) (r : Int) (h : M.model_checkRedist a0 a1 a2 a3 a4 a5 = some r) : Fn Tryz.prog 143 [.agg (c_TRouter a0), sL 5 c_TRedist a1, .int .i64 a2, .int .i64 a3, .int .i64 a4, .int .i64 a5] (.pure (.int .i64 r)) := by
 let u2 : Nat × D := (20, sL 5 c_TRedist a1)
 let u3 : Nat × D := (1, sL 5 c_TRedist a1)
 let u4 := (a1.length : Int)
 let u6 := c_TRouter a0
 unfold M.model_checkRedist at h
 refine fn_pure Tryz.func143 rfl (by kernel_rfl) (awp_seq (zg [1, 2, 3, 4, 5, 6] 1 (then_n (awp_seq (awp_seq (zg [1, 2, 3, 4, 5, 6, 19] 1 (then_n (cn h (fun _ h2 => ?_) (fun _ h3 => ?_)))))))))
 exact awp_seq (zg [12] 0 (then_n (awp_ret (then_r (er1 h2)))))
 refine awp_skip (then_n (awp_seq (awp_seq (zg [1, 2, 3, 4, 5, 6, 20, 21, 22] 1 (then_n (awp_block ?_))))))
 obtain ⟨y13, q46, h47⟩ := bind_some h3
 refine zl (fun (p1 : Int) => ⟨85, [u3, (2, .int .i64 a2), (3, .int .i64 a3), (4, .int .i64 a4), (5, .int .i64 a5), (6, .ref 0 0), u2, (21, .int .i64 u4), (22, .int .i64 p1)], [.box u6]⟩) (Sum.elim (fun z => OutE 0 (fun z => ⟨85, [], []⟩) z) (fun z => OutR Tryz.prog Tryz.f143 (.int .i64 z))) q46 ?_ ?_
 intro p1 y2 h4
 let u1 : List Ob := [.box u6, .box (c_TRedist (a1.getD p1.toNat default))]
 let u5 : Nat × D := (72, sL 5 c_TRedist ((a1.drop 0).take (p1.toNat - 0)))
 unfold M.model_checkRedist_l1 at h4
 refine awp_seq (zg [1, 2, 3, 4, 5, 6, 20, 21, 22, 23] 1 (then_n (awp_seq (cn h4 (fun _ h6 => ?_) (fun _ h7 => ?_)))))
 refine awp_skip (then_n (awp_seq (awp_block (awp_seq ?_))))
 obtain ⟨c8, h9⟩ := gd_some h6
 refine zc [1, 2, 3, 4, 5, 6, 13, 14, 20, 21, 22] 2 c8 (then_n (awp_seq (awp_seq ?_)))
 obtain ⟨r3, q10, h11⟩ := bind_some h9
 obtain ⟨r4, q12, h13⟩ := bind_some h11
 obtain ⟨r5, q14, h15⟩ := bind_some h13
 obtain ⟨r6, q16, h17⟩ := bind_some h15
 refine zr [1, 2, 3, 4, 5, 6, 13, 14, 20, 21, 22, 59] 2 nil_all (rq1 (model_within_ok _ _ _ _ q10) (rq2 (fun hg => model_within_ok _ _ _ _ (gc_some q12 hg)) (rq2 (fun hg => model_within_ok _ _ _ _ (gc_some q14 hg)) (rq2 (fun hg => model_within_ok _ _ _ _ (gc_some q16 hg)) rqn)))) (then_n (cn h17 (fun _ h19 => ?_) (fun _ h20 => ?_)))
 exact awp_seq (zg [12] 0 (then_n (awp_ret (then_r (inb_r (then_r (rr h19 ⟨rfl, er0 _⟩)))))))
 refine awp_skip (then_n (awp_seq (awp_seq ?_)))
 obtain ⟨r7, q21, h22⟩ := bind_some h20
 refine zr [1, 2, 3, 4, 5, 6, 13, 14, 20, 21, 22, 69] 2 nil_all (rq2 (fun hg => model_RouteMap_ok _ _ _ (gc_some q21 hg)) rqn) (then_n (cn h22 (fun _ h24 => ?_) (fun _ h25 => ?_)))
 exact awp_seq (zg [12] 0 (then_n (awp_ret (then_r (inb_r (then_r (rr h24 ⟨rfl, er0 _⟩)))))))
 refine awp_skip (then_n (awp_seq ?_))
 obtain ⟨c26, h27⟩ := gd_some h25
 refine rgc [1, 2, 3, 4, 5, 6, 14, 20, 21, 22, 72, 73, 74] 2 ⟨85, [u3, (2, .int .i64 a2), (3, .int .i64 a3), (4, .int .i64 a4), (5, .int .i64 a5), (6, .ref 0 0), (14, .ref 1 0), u2, (21, .int .i64 u4), (22, .int .i64 p1), (72, .sl false 5 (p1.toNat - 0) (fun i => c_TRedist (a1.getD (0 + i) default))), (73, .int .i64 ((p1.toNat - 0 : Nat) : Int)), (74, .int .i64 0)], u1⟩ [decide (0 ≤ p1), decide (p1 ≤ u4)] c26 (then_le (s' := ⟨85, [u3, (2, .int .i64 a2), (3, .int .i64 a3), (4, .int .i64 a4), (5, .int .i64 a5), (6, .ref 0 0), (14, .ref 1 0), u2, (21, .int .i64 u4), (22, .int .i64 p1), u5, (73, .int .i64 ((p1.toNat - 0 : Nat) : Int)), (74, .int .i64 0)], u1⟩) (le_sub (.cons Sub.rfl (.cons Sub.rfl (.cons Sub.rfl (.cons Sub.rfl (.cons Sub.rfl (.cons Sub.rfl (.cons Sub.rfl (.cons Sub.rfl (.cons Sub.rfl (.cons Sub.rfl (.cons (sub_sl (len_cut _ _ _ (cut_hi (c26 _ (List.mem_cons_of_mem _ List.mem_cons_self)))) (cut_ext _ _ _ _)) (.cons Sub.rfl (.cons Sub.rfl .nil))))))))))))) (.cons .rfl (.cons .rfl .nil))) (awp_block ?_))
 obtain ⟨y10, q37, h38⟩ := bind_some h27
 refine zl (fun (p8 : Int) => ⟨85, [u3, (2, .int .i64 a2), (3, .int .i64 a3), (4, .int .i64 a4), (5, .int .i64 a5), (6, .ref 0 0), (14, .ref 1 0), u2, (21, .int .i64 u4), (22, .int .i64 p1), u5, (73, .int .i64 ((p1.toNat - 0 : Nat) : Int)), (74, .int .i64 p8)], u1⟩) (Sum.elim (fun z => OutE 2 (fun z => ⟨85, [u3, (2, .int .i64 a2), (3, .int .i64 a3), (4, .int .i64 a4), (5, .int .i64 a5), (6, .ref 0 0), u2, (21, .int .i64 u4), (22, .int .i64 p1)], [.box u6]⟩) z) (fun z => OutR Tryz.prog Tryz.f143 (.int .i64 z))) q37 ?_ ?_
 intro p8 y9 h28
 unfold M.model_checkRedist_l2 at h28
 refine awp_seq (zg [1, 2, 3, 4, 5, 6, 14, 20, 21, 22, 72, 73, 74, 75] 2 (then_n (awp_seq (cn h28 (fun _ h30 => ?_) (fun _ h31 => ?_)))))
 refine awp_skip (then_n (awp_seq (awp_block (awp_seq ?_))))
 obtain ⟨c32, h33⟩ := gd_some h30
 refine zc [1, 2, 3, 4, 5, 6, 14, 16, 20, 21, 22, 72, 73, 74] 3 c32 (then_n (awp_seq (zg [1, 2, 3, 4, 5, 6, 14, 20, 21, 22, 72, 73, 74, 82] 2 (then_n (cn h33 (fun _ h35 => ?_) (fun _ h36 => ?_))))))
 exact awp_seq (zg [12] 0 (then_n (awp_ret (inb_r (then_r (rr h35 ⟨rfl, er0 _⟩))))))
 exact awp_skip (inb_n (then_n (zg [1, 2, 3, 4, 5, 6, 14, 20, 21, 22, 72, 73, 74] 2 (rn h36))))
 exact awp_exit (then_e (re h31 ⟨rfl, kc⟩))
 intro e39 s40 o41
 rcases y10 with g11 | y12
 have h42 := elim_l h38
 obtain ⟨rfl, l44⟩ := o41
 exact inb_here (inb_n (then_le (s' := ⟨85, [u3, (2, .int .i64 a2), (3, .int .i64 a3), (4, .int .i64 a4), (5, .int .i64 a5), (6, .ref 0 0), u2, (21, .int .i64 u4), (22, .int .i64 p1)], [.box u6]⟩) (l44) (zg [1, 2, 3, 4, 5, 6, 20, 21, 22] 1 (rn h42))))
 have h43 := elim_r h38
 obtain ⟨rfl, n45⟩ := o41
 exact inb_r (inb_r (then_r (rr h43 ⟨rfl, n45⟩)))
 exact awp_exit (then_e (re h7 ⟨rfl, kc⟩))
 intro e48 s49 o50
 rcases y13 with g14 | y15
 have h51 := elim_l h47
 exact zi o50 (awp_seq (zg [12] 0 (then_n (awp_ret (er1 h51)))))
 have h52 := elim_r h47
 obtain ⟨rfl, n54⟩ := o50
 refine inb_r (then_r ?_)
 obtain rfl := Option.some.inj h52
 exact n54
theorem model_checkLinkState_ok (a0 : TRouter) (r : Int) (h : M.model_checkLinkState a0 = some r) : Fn Tryz.prog 82 [.agg (c_TRouter a0)] (.pure (.int .i64 r)) := by
 let u2 : Nat × D := (37, sL 3 c_TAreaRange a0.fLS.fRanges)
 let u3 := (a0.fLS.fRanges.length : Int)
 let u4 : List Ob := [.box (c_TRouter a0), .box (c_TLinkState a0.fLS)]
 unfold M.model_checkLinkState at h
 refine fn_pure Tryz.func82 rfl (by kernel_rfl) (awp_seq (zg [1] 1 (then_n (awp_seq (zg [1, 3] 2 (then_n (awp_seq (awp_seq (zg [1, 3, 12] 2 (then_n (cn h (fun _ h2 => ?_) (fun _ h3 => ?_))))))))))))
 refine awp_seq (awp_seq (zg [27] 0 (then_n (cn h2 (fun _ h5 => ?_) (fun _ h6 => ?_)))))
 exact awp_seq (zg [2] 0 (then_n (awp_ret (then_r (then_r (er1 h5))))))
 exact awp_skip (then_n (awp_seq (zg [2] 0 (then_n (awp_ret (then_r (er1 h6)))))))
 refine awp_skip (then_n (awp_seq (awp_seq ?_)))
 obtain ⟨r1, q7, h8⟩ := bind_some h3
 refine zr [1, 3, 31] 2 nil_all (rq1 (model_within_ok _ _ _ _ q7) rqn) (then_n (cn h8 (fun _ h10 => ?_) (fun _ h11 => ?_)))
 exact awp_seq (zg [2] 0 (then_n (awp_ret (then_r (er1 h10)))))
 refine awp_skip (then_n (awp_seq (awp_seq (zg [1, 3, 35] 2 (then_n (cn h11 (fun _ h13 => ?_) (fun _ h14 => ?_)))))))
 exact awp_seq (zg [2] 0 (then_n (awp_ret (then_r (er1 h13)))))
 refine awp_skip (then_n (awp_seq (awp_seq (zg [1, 3, 37, 38, 39] 2 (then_n (awp_block ?_))))))
 obtain ⟨y12, q50, h51⟩ := bind_some h14
 refine zl (fun (p2 : Int) => ⟨81, [(1, .ref 0 0), (3, .ref 1 0), u2, (38, .int .i64 u3), (39, .int .i64 p2)], u4⟩) (Sum.elim (fun z => OutE 0 (fun z => ⟨81, [(1, .ref 0 0), (3, .ref 1 0)], u4⟩) z) (fun z => OutR Tryz.prog Tryz.f82 (.int .i64 z))) q50 ?_ ?_
 intro p2 y3 h15
 let u1 : List Ob := [.box (c_TRouter a0), .box (c_TLinkState a0.fLS), .box (c_TAreaRange (a0.fLS.fRanges.getD p2.toNat default))]
 let u5 : Nat × D := (57, sL 3 c_TAreaRange ((a0.fLS.fRanges.drop 0).take (p2.toNat - 0)))
 unfold M.model_checkLinkState_l1 at h15
 refine awp_seq (zg [1, 3, 37, 38, 39, 40] 2 (then_n (awp_seq (cn h15 (fun _ h17 => ?_) (fun _ h18 => ?_)))))
 refine awp_skip (then_n (awp_seq (awp_block (awp_seq ?_))))
 obtain ⟨c19, h20⟩ := gd_some h17
 refine zc [1, 3, 4, 5, 37, 38, 39] 3 c19 (then_n (awp_seq (awp_seq ?_)))
 obtain ⟨r4, q21, h22⟩ := bind_some h20
 obtain ⟨r5, q23, h24⟩ := bind_some h22
 refine zr [1, 3, 4, 5, 37, 38, 39, 53] 3 nil_all (rq1 (model_within_ok _ _ _ _ q21) (rq2 (fun hg => addr_Valid_ok _ _ (gc_some q23 hg)) rqn)) (then_n (cn h24 (fun _ h26 => ?_) (fun _ h27 => ?_)))
 exact awp_seq (zg [2] 0 (then_n (awp_ret (then_r (inb_r (then_r (rr h26 ⟨rfl, er0 _⟩)))))))
 refine awp_skip (then_n (awp_seq ?_))
 obtain ⟨c28, h29⟩ := gd_some h27
 refine rgc [1, 3, 5, 37, 38, 39, 57, 58, 59] 3 ⟨81, [(1, .ref 0 0), (3, .ref 1 0), (5, .ref 2 0), u2, (38, .int .i64 u3), (39, .int .i64 p2), (57, .sl false 3 (p2.toNat - 0) (fun i => c_TAreaRange (a0.fLS.fRanges.getD (0 + i) default))), (58, .int .i64 ((p2.toNat - 0 : Nat) : Int)), (59, .int .i64 0)], u1⟩ [decide (0 ≤ p2), decide (p2 ≤ u3)] c28 (then_le (s' := ⟨81, [(1, .ref 0 0), (3, .ref 1 0), (5, .ref 2 0), u2, (38, .int .i64 u3), (39, .int .i64 p2), u5, (58, .int .i64 ((p2.toNat - 0 : Nat) : Int)), (59, .int .i64 0)], u1⟩) (le_sub (.cons Sub.rfl (.cons Sub.rfl (.cons Sub.rfl (.cons Sub.rfl (.cons Sub.rfl (.cons Sub.rfl (.cons (sub_sl (len_cut _ _ _ (cut_hi (c28 _ (List.mem_cons_of_mem _ List.mem_cons_self)))) (cut_ext _ _ _ _)) (.cons Sub.rfl (.cons Sub.rfl .nil))))))))) (.cons .rfl (.cons .rfl (.cons .rfl .nil)))) (awp_block ?_))
 obtain ⟨y9, q41, h42⟩ := bind_some h29
 refine zl (fun (p6 : Int) => ⟨81, [(1, .ref 0 0), (3, .ref 1 0), (5, .ref 2 0), u2, (38, .int .i64 u3), (39, .int .i64 p2), u5, (58, .int .i64 ((p2.toNat - 0 : Nat) : Int)), (59, .int .i64 p6)], u1⟩) (Sum.elim (fun z => OutE 2 (fun z => ⟨81, [(1, .ref 0 0), (3, .ref 1 0), u2, (38, .int .i64 u3), (39, .int .i64 p2)], u4⟩) z) (fun z => OutR Tryz.prog Tryz.f82 (.int .i64 z))) q41 ?_ ?_
 intro p6 y7 h30
 unfold M.model_checkLinkState_l2 at h30
 refine awp_seq (zg [1, 3, 5, 37, 38, 39, 57, 58, 59, 60] 3 (then_n (awp_seq (cn h30 (fun _ h32 => ?_) (fun _ h33 => ?_)))))
 refine awp_skip (then_n (awp_seq (awp_block (awp_seq ?_))))
 obtain ⟨c34, h35⟩ := gd_some h32
 refine zc [1, 3, 5, 7, 37, 38, 39, 57, 58, 59] 4 c34 (then_n (awp_seq ?_))
 obtain ⟨r8, q36, h37⟩ := bind_some h35
 refine zr [1, 3, 5, 37, 38, 39, 57, 58, 59, 74] 3 nil_all (rq2 (fun hg => addr_Overlaps_ok _ _ _ (gc_some q36 hg)) rqn) (then_n (cn h37 (fun _ h39 => ?_) (fun _ h40 => ?_)))
 exact awp_seq (zg [2] 0 (then_n (awp_ret (inb_r (then_r (rr h39 ⟨rfl, er0 _⟩))))))
 exact awp_skip (inb_n (then_n (zg [1, 3, 5, 37, 38, 39, 57, 58, 59] 3 (rn h40))))
 exact awp_exit (then_e (re h33 ⟨rfl, kc⟩))
 intro e43 s44 o45
 rcases y9 with g10 | y11
 have h46 := elim_l h42
 obtain ⟨rfl, l48⟩ := o45
 exact inb_here (inb_n (then_le (s' := ⟨81, [(1, .ref 0 0), (3, .ref 1 0), u2, (38, .int .i64 u3), (39, .int .i64 p2)], u4⟩) (l48) (zg [1, 3, 37, 38, 39] 2 (rn h46))))
 have h47 := elim_r h42
 obtain ⟨rfl, n49⟩ := o45
 exact inb_r (inb_r (then_r (rr h47 ⟨rfl, n49⟩)))
 exact awp_exit (then_e (re h18 ⟨rfl, kq⟩))
 intro e52 s53 o54
 rcases y12 with g13 | y14
 have h55 := elim_l h51
 refine zi o54 (awp_seq ?_)
 obtain ⟨r15, q58, h59⟩ := bind_some h55
 exact zr [2] 0 nil_all (rq1 (model_checkRedist_ok _ _ _ _ _ _ _ q58) rqn) (then_n (awp_ret (er1 h59)))
 have h56 := elim_r h51
 obtain ⟨rfl, n60⟩ := o54
 refine inb_r (then_r ?_)
 obtain rfl := Option.some.inj h56
 exact n60
theorem model_checkDistanceVector_ok (a0 : TRouter) (r : Int) (h : M.model_checkDistanceVector a0 = some r) : Fn Tryz.prog 83 [.agg (c_TRouter a0)] (.pure (.int .i64 r)) := by
 unfold M.model_checkDistanceVector at h
 refine fn_pure Tryz.func83 rfl (by kernel_rfl) (awp_seq (zg [1] 1 (then_n (awp_seq (zg [1, 3] 2 (then_n (awp_seq (awp_seq (zg [1, 3, 8] 2 (then_n (cn h (fun _ h2 => ?_) (fun _ h3 => ?_))))))))))))
 refine awp_seq (awp_seq (zg [27] 0 (then_n (cn h2 (fun _ h5 => ?_) (fun _ h6 => ?_)))))
 exact awp_seq (zg [2] 0 (then_n (awp_ret (then_r (then_r (er1 h5))))))
 exact awp_skip (then_n (awp_seq (zg [2] 0 (then_n (awp_ret (then_r (er1 h6)))))))
 refine awp_skip (then_n (awp_seq (awp_seq ?_)))
 obtain ⟨r1, q7, h8⟩ := bind_some h3
 refine zr [1, 3, 31] 2 nil_all (rq1 (model_within_ok _ _ _ _ q7) rqn) (then_n (cn h8 (fun _ h10 => ?_) (fun _ h11 => ?_)))
 exact awp_seq (zg [2] 0 (then_n (awp_ret (then_r (er1 h10)))))
 refine awp_skip (then_n (awp_seq (awp_seq ?_)))
 obtain ⟨r2, q12, h13⟩ := bind_some h11
 obtain ⟨r3, q14, h15⟩ := bind_some h13
 refine zr [1, 3, 53] 2 nil_all (rq2 (fun hg => model_PrefixList_ok _ _ _ (gc_some q12 hg)) (rq2 (fun hg => model_PrefixList_ok _ _ _ (gc_some q14 hg)) rqn)) (then_n (cn h15 (fun _ h17 => ?_) (fun _ h18 => ?_)))
 exact awp_seq (zg [2] 0 (then_n (awp_ret (then_r (er1 h17)))))
 refine awp_skip (then_n (awp_seq ?_))
 obtain ⟨r4, q19, h20⟩ := bind_some h18
 exact zr [2] 0 nil_all (rq1 (model_checkRedist_ok _ _ _ _ _ _ _ q19) rqn) (then_n (awp_ret (er1 h20)))
theorem model_checkNeighbors_ok (a0 : TRouter) (r : Int) (h : M.model_checkNeighbors a0 = some r) : Fn Tryz.prog 144 [.agg (c_TRouter a0)] (.pure (.int .i64 r)) := by
 let u1 : Nat × D := (14, sL 4 c_TNeighbor a0.fPV.fNeighbors)
 let u2 := (a0.fPV.fNeighbors.length : Int)
 let u5 := c_TRouter a0
 unfold M.model_checkNeighbors at h
 refine fn_pure Tryz.func144 rfl (by kernel_rfl) (awp_seq (zg [1] 1 (then_n (awp_seq (awp_seq (zg [1, 11] 1 (then_n (cn h (fun _ h2 => ?_) (fun _ h3 => ?_)))))))))
 exact awp_seq (zg [2] 0 (then_n (awp_ret (then_r (er1 h2)))))
 refine awp_skip (then_n (awp_seq (awp_seq (zg [1, 14, 15, 16] 1 (then_n (awp_block ?_))))))
 obtain ⟨y11, q42, h43⟩ := bind_some h3
 refine zl (fun (p1 : Int) => ⟨69, [(1, .ref 0 0), u1, (15, .int .i64 u2), (16, .int .i64 p1)], [.box u5]⟩) (Sum.elim (fun z => OutE 0 (fun z => ⟨69, [], []⟩) z) (fun z => OutR Tryz.prog Tryz.f144 (.int .i64 z))) q42 ?_ ?_
 intro p1 y2 h4
 let u3 : List Ob := [.box u5, .box (c_TNeighbor (a0.fPV.fNeighbors.getD p1.toNat default))]
 let u4 : Nat × D := (56, sL 4 c_TNeighbor ((a0.fPV.fNeighbors.drop 0).take (p1.toNat - 0)))
 unfold M.model_checkNeighbors_l1 at h4
 refine awp_seq (zg [1, 14, 15, 16, 17] 1 (then_n (awp_seq (cn h4 (fun _ h6 => ?_) (fun _ h7 => ?_)))))
 refine awp_skip (then_n (awp_seq (awp_block (awp_seq ?_))))
 obtain ⟨c8, h9⟩ := gd_some h6
 refine zc [1, 3, 4, 14, 15, 16] 2 c8 (then_n (awp_seq (awp_seq ?_)))
 obtain ⟨r3, q10, h11⟩ := bind_some h9
 refine zr [1, 3, 4, 14, 15, 16, 29] 2 nil_all (rq2 (fun hg => model_within_ok _ _ _ _ (gc_some q10 hg)) rqn) (then_n (cn h11 (fun _ h13 => ?_) (fun _ h14 => ?_)))
 exact awp_seq (zg [2] 0 (then_n (awp_ret (then_r (inb_r (then_r (rr h13 ⟨rfl, er0 _⟩)))))))
 refine awp_skip (then_n (awp_seq (awp_seq ?_)))
 obtain ⟨r4, q15, h16⟩ := bind_some h14
 obtain ⟨r5, q17, h18⟩ := bind_some h16
 refine zr [1, 3, 4, 14, 15, 16, 51] 2 nil_all (rq2 (fun hg => model_RouteMap_ok _ _ _ (gc_some q15 hg)) (rq2 (fun hg => model_RouteMap_ok _ _ _ (gc_some q17 hg)) rqn)) (then_n (cn h18 (fun _ h20 => ?_) (fun _ h21 => ?_)))
 exact awp_seq (zg [2] 0 (then_n (awp_ret (then_r (inb_r (then_r (rr h20 ⟨rfl, er0 _⟩)))))))
 refine awp_skip (then_n (awp_seq ?_))
 obtain ⟨c22, h23⟩ := gd_some h21
 refine rgc [1, 4, 14, 15, 16, 56, 57, 58] 2 ⟨69, [(1, .ref 0 0), (4, .ref 1 0), u1, (15, .int .i64 u2), (16, .int .i64 p1), (56, .sl false 4 (p1.toNat - 0) (fun i => c_TNeighbor (a0.fPV.fNeighbors.getD (0 + i) default))), (57, .int .i64 ((p1.toNat - 0 : Nat) : Int)), (58, .int .i64 0)], u3⟩ [decide (0 ≤ p1), decide (p1 ≤ u2)] c22 (then_le (s' := ⟨69, [(1, .ref 0 0), (4, .ref 1 0), u1, (15, .int .i64 u2), (16, .int .i64 p1), u4, (57, .int .i64 ((p1.toNat - 0 : Nat) : Int)), (58, .int .i64 0)], u3⟩) (le_sub (.cons Sub.rfl (.cons Sub.rfl (.cons Sub.rfl (.cons Sub.rfl (.cons Sub.rfl (.cons (sub_sl (len_cut _ _ _ (cut_hi (c22 _ (List.mem_cons_of_mem _ List.mem_cons_self)))) (cut_ext _ _ _ _)) (.cons Sub.rfl (.cons Sub.rfl .nil)))))))) (.cons .rfl (.cons .rfl .nil))) (awp_block ?_))
 obtain ⟨y8, q33, h34⟩ := bind_some h23
 refine zl (fun (p6 : Int) => ⟨69, [(1, .ref 0 0), (4, .ref 1 0), u1, (15, .int .i64 u2), (16, .int .i64 p1), u4, (57, .int .i64 ((p1.toNat - 0 : Nat) : Int)), (58, .int .i64 p6)], u3⟩) (Sum.elim (fun z => OutE 2 (fun z => ⟨69, [(1, .ref 0 0), u1, (15, .int .i64 u2), (16, .int .i64 p1)], [.box u5]⟩) z) (fun z => OutR Tryz.prog Tryz.f144 (.int .i64 z))) q33 ?_ ?_
 intro p6 y7 h24
 unfold M.model_checkNeighbors_l2 at h24
 refine awp_seq (zg [1, 4, 14, 15, 16, 56, 57, 58, 59] 2 (then_n (awp_seq (cn h24 (fun _ h26 => ?_) (fun _ h27 => ?_)))))
 refine awp_skip (then_n (awp_seq (awp_block (awp_seq ?_))))
 obtain ⟨c28, h29⟩ := gd_some h26
 refine zc [1, 4, 6, 14, 15, 16, 56, 57, 58] 3 c28 (then_n (awp_seq (zg [1, 4, 14, 15, 16, 56, 57, 58, 66] 2 (then_n (cn h29 (fun _ h31 => ?_) (fun _ h32 => ?_))))))
 exact awp_seq (zg [2] 0 (then_n (awp_ret (inb_r (then_r (rr h31 ⟨rfl, er0 _⟩))))))
 exact awp_skip (inb_n (then_n (zg [1, 4, 14, 15, 16, 56, 57, 58] 2 (rn h32))))
 exact awp_exit (then_e (re h27 ⟨rfl, kc⟩))
 intro e35 s36 o37
 rcases y8 with g9 | y10
 have h38 := elim_l h34
 obtain ⟨rfl, l40⟩ := o37
 exact inb_here (inb_n (then_le (s' := ⟨69, [(1, .ref 0 0), u1, (15, .int .i64 u2), (16, .int .i64 p1)], [.box u5]⟩) (l40) (zg [1, 14, 15, 16] 1 (rn h38))))
 have h39 := elim_r h34
 obtain ⟨rfl, n41⟩ := o37
 exact inb_r (inb_r (then_r (rr h39 ⟨rfl, n41⟩)))
 exact awp_exit (then_e (re h7 ⟨rfl, kc⟩))
 intro e44 s45 o46
 rcases y11 with g12 | y13
 have h47 := elim_l h43
 exact zi o46 (awp_seq (zg [2] 0 (then_n (awp_ret (er1 h47)))))
 have h48 := elim_r h43
 obtain ⟨rfl, n50⟩ := o46
 refine inb_r (then_r ?_)
 obtain rfl := Option.some.inj h48
 exact n50
theorem slices_Index_api_Prefix_api_Prefix_ok (a0 : List TPrefix) (a1 : TPrefix) (r : Int) (h : M.slices_Index_api_Prefix_api_Prefix a0 a1 = some r) : Fn Tryz.prog 180 [sL 2 c_TPrefix a0, .agg (c_TPrefix a1)] (.pure (.int .i64 r)) := by
 unfold M.slices_Index_api_Prefix_api_Prefix at h
 refine fn_pure Tryz.func180 rfl (by kernel_rfl) (awp_seq (zg [0, 3] 1 (then_n (awp_seq (awp_seq (zg [0, 3, 7, 8] 1 (then_n (awp_block ?_))))))))
 obtain ⟨y3, q10, h11⟩ := bind_some h
 refine zl (fun (p1 : Int) => ⟨19, [(0, sL 2 c_TPrefix a0), (3, .ref 0 0), (7, .int .i64 (a0.length : Int)), (8, .int .i64 p1)], [.box (c_TPrefix a1)]⟩) (Sum.elim (fun z => OutE 0 (fun z => ⟨19, [], []⟩) z) (fun z => OutR Tryz.prog Tryz.f180 (.int .i64 z))) q10 ?_ ?_
 intro p1 y2 h1
 unfold M.slices_Index_api_Prefix_api_Prefix_l1 at h1
 refine awp_seq (zg [0, 3, 7, 8, 9] 1 (then_n (awp_seq (cn h1 (fun _ h3 => ?_) (fun _ h4 => ?_)))))
 refine awp_skip (then_n (awp_seq (awp_block (awp_seq (zg [0, 3, 5, 7, 8] 1 (then_n (awp_seq ?_)))))))
 obtain ⟨c5, h6⟩ := gd_some h3
 refine zc [0, 3, 5, 7, 8, 16] 1 c5 (then_n (cn h6 (fun _ h8 => ?_) (fun _ h9 => ?_)))
 exact awp_seq (zg [4] 0 (then_n (awp_ret (inb_r (then_r (rr h8 ⟨rfl, er0 _⟩))))))
 exact awp_skip (inb_n (then_n (zg [0, 3, 7, 8] 1 (rn h9))))
 exact awp_exit (then_e (re h4 ⟨rfl, kc⟩))
 intro e12 s13 o14
 rcases y3 with g4 | y5
 have h15 := elim_l h11
 exact zi o14 (awp_seq (zg [4] 0 (then_n (awp_ret (er1 h15)))))
 have h16 := elim_r h11
 obtain ⟨rfl, n18⟩ := o14
 refine inb_r (then_r ?_)
 obtain rfl := Option.some.inj h16
 exact n18
theorem slices_Contains_api_Prefix_api_Prefix_ok (a0 : List TPrefix) (a1 : TPrefix) (r : Bool) (h : M.slices_Contains_api_Prefix_api_Prefix a0 a1 = some r) : Fn Tryz.prog 173 [sL 2 c_TPrefix a0, .agg (c_TPrefix a1)] (.pure (.bool r)) := by
 unfold M.slices_Contains_api_Prefix_api_Prefix at h
 refine fn_pure Tryz.func173 rfl (by kernel_rfl) (awp_seq (zg [0, 3] 1 (then_n (awp_seq ?_))))
 obtain ⟨r1, q1, h2⟩ := bind_some h
 exact zr [4] 0 nil_all (rq1 (slices_Index_api_Prefix_api_Prefix_ok _ _ _ q1) rqn) (then_n (awp_ret (er1 h2)))
theorem model_checkOrigins_ok (a0 : TPathVector) (r : Int) (h : M.model_checkOrigins a0 = some r) : Fn Tryz.prog 145 [.agg (c_TPathVector a0)] (.pure (.int .i64 r)) := by
 let u1 := c_TPathVector a0
 let u2 : Nat × D := (40, sL 3 c_TAggregate a0.fAggregates)
 let u3 : Nat × D := (72, sL 5 c_TCondition a0.fConditions)
 let u4 := (a0.fAggregates.length : Int)
 let u5 := (a0.fConditions.length : Int)
 let u10 := (a0.fNetworks.length : Int)
 let u12 : St := ⟨110, [(1, .ref 0 0)], [.box u1]⟩
 unfold M.model_checkOrigins at h
 refine fn_pure Tryz.func145 rfl (by kernel_rfl) (awp_seq (zg [1] 1 (then_n (awp_seq (awp_seq (zg [1, 16] 1 (then_n (cn h (fun _ h2 => ?_) (fun _ h3 => ?_)))))))))
 exact awp_seq (zg [2] 0 (then_n (awp_ret (then_r (er1 h2)))))
 refine awp_skip (then_n (awp_seq (awp_seq (zg [1, 18, 19, 20] 1 (then_n (awp_block ?_))))))
 obtain ⟨y5, q22, h23⟩ := bind_some h3
 refine zl (fun (p1 : Int) => ⟨110, [(1, .ref 0 0), (18, sL 2 c_TPrefix a0.fNetworks), (19, .int .i64 u10), (20, .int .i64 p1)], [.box u1]⟩) (Sum.elim (fun z => OutE 0 (fun z => u12) z) (fun z => OutR Tryz.prog Tryz.f145 (.int .i64 z))) q22 ?_ ?_
 intro p1 y2 h4
 let u11 := a0.fNetworks.getD p1.toNat default
 unfold M.model_checkOrigins_l1 at h4
 refine awp_seq (zg [1, 18, 19, 20, 21] 1 (then_n (awp_seq (cn h4 (fun _ h6 => ?_) (fun _ h7 => ?_)))))
 refine awp_skip (then_n (awp_seq (awp_block (awp_seq ?_))))
 obtain ⟨c8, h9⟩ := gd_some h6
 refine zc [1, 3, 4, 18, 19, 20] 2 c8 (then_n (awp_seq (awp_seq ?_)))
 obtain ⟨r3, q10, h11⟩ := bind_some h9
 refine zr [1, 3, 4, 18, 19, 20, 27] 2 nil_all (rq1 (addr_Valid_ok _ _ q10) rqn) (then_n (cn h11 (fun _ h13 => ?_) (fun _ h14 => ?_)))
 exact awp_seq (zg [2] 0 (then_n (awp_ret (then_r (inb_r (then_r (rr h13 ⟨rfl, er0 _⟩)))))))
 refine awp_skip (then_n (awp_seq ?_))
 obtain ⟨r4, q15, h16⟩ := bind_some h14
 obtain ⟨c17, h18⟩ := gd_some h16
 refine rg [.pure (.bool r4)] [1, 18, 19, 20, 33] 1 ⟨110, [(1, .ref 0 0), (18, sL 2 c_TPrefix a0.fNetworks), (19, .int .i64 u10), (20, .int .i64 p1), (33, .bool r4)], [.box u1]⟩ [decide (0 ≤ p1), decide (p1 ≤ u10)] [⟨true, 173, [.sl false 2 (p1.toNat - 0) (fun i => c_TPrefix (a0.fNetworks.getD (0 + i) default)), .agg (c_TPrefix u11)], .pure (.bool r4)⟩] c17 ⟨fun _ => (slices_Contains_api_Prefix_api_Prefix_ok ((a0.fNetworks.drop 0).take (p1.toNat - 0)) u11 r4 q15).args (.cons (asub_sl (len_cut _ _ _ (cut_hi (c17 _ (List.mem_cons_of_mem _ List.mem_cons_self)))) (cut_ext _ _ _ _)) (.cons ASub.rfl .nil)), trivial⟩ (then_n (cn h18 (fun _ h20 => ?_) (fun _ h21 => ?_)))
 exact awp_seq (zg [2] 0 (then_n (awp_ret (inb_r (then_r (rr h20 ⟨rfl, er0 _⟩))))))
 exact awp_skip (inb_n (then_n (zg [1, 18, 19, 20] 1 (rn h21))))
 exact awp_exit (then_e (re h7 ⟨rfl, kq⟩))
 intro e24 s25 o26
 rcases y5 with g6 | y7
 have h27 := elim_l h23
 refine zi o26 (awp_seq (awp_seq (zg [1, 38] 1 (then_n (cn h27 (fun _ h31 => ?_) (fun _ h32 => ?_))))))
 exact awp_seq (zg [2] 0 (then_n (awp_ret (then_r (er1 h31)))))
 refine awp_skip (then_n (awp_seq (awp_seq (zg [1, 40, 41, 42] 1 (then_n (awp_block ?_))))))
 obtain ⟨y16, q64, h65⟩ := bind_some h32
 refine zl (fun (p8 : Int) => ⟨110, [(1, .ref 0 0), u2, (41, .int .i64 u4), (42, .int .i64 p8)], [.box u1]⟩) (Sum.elim (fun z => OutE 2 (fun z => u12) z) (fun z => OutR Tryz.prog Tryz.f145 (.int .i64 z))) q64 ?_ ?_
 intro p8 y9 h33
 let u7 : List Ob := [.box u1, .box (c_TAggregate (a0.fAggregates.getD p8.toNat default))]
 let u9 : Nat × D := (54, sL 3 c_TAggregate ((a0.fAggregates.drop 0).take (p8.toNat - 0)))
 unfold M.model_checkOrigins_l2 at h33
 refine awp_seq (zg [1, 40, 41, 42, 43] 1 (then_n (awp_seq (cn h33 (fun _ h35 => ?_) (fun _ h36 => ?_)))))
 refine awp_skip (then_n (awp_seq (awp_block (awp_seq ?_))))
 obtain ⟨c37, h38⟩ := gd_some h35
 refine zc [1, 5, 6, 40, 41, 42] 2 c37 (then_n (awp_seq (awp_seq ?_)))
 obtain ⟨r10, q39, h40⟩ := bind_some h38
 refine zr [1, 5, 6, 40, 41, 42, 50] 2 nil_all (rq1 (addr_Valid_ok _ _ q39) rqn) (then_n (cn h40 (fun _ h42 => ?_) (fun _ h43 => ?_)))
 exact awp_seq (zg [2] 0 (then_n (awp_ret (then_r (inb_r (then_r (rr h42 ⟨rfl, er0 _⟩)))))))
 refine awp_skip (then_n (awp_seq ?_))
 obtain ⟨c44, h45⟩ := gd_some h43
 refine rgc [1, 6, 40, 41, 42, 54, 55, 56] 2 ⟨110, [(1, .ref 0 0), (6, .ref 1 0), u2, (41, .int .i64 u4), (42, .int .i64 p8), (54, .sl false 3 (p8.toNat - 0) (fun i => c_TAggregate (a0.fAggregates.getD (0 + i) default))), (55, .int .i64 ((p8.toNat - 0 : Nat) : Int)), (56, .int .i64 0)], u7⟩ [decide (0 ≤ p8), decide (p8 ≤ u4)] c44 (then_le (s' := ⟨110, [(1, .ref 0 0), (6, .ref 1 0), u2, (41, .int .i64 u4), (42, .int .i64 p8), u9, (55, .int .i64 ((p8.toNat - 0 : Nat) : Int)), (56, .int .i64 0)], u7⟩) (le_sub (.cons Sub.rfl (.cons Sub.rfl (.cons Sub.rfl (.cons Sub.rfl (.cons Sub.rfl (.cons (sub_sl (len_cut _ _ _ (cut_hi (c44 _ (List.mem_cons_of_mem _ List.mem_cons_self)))) (cut_ext _ _ _ _)) (.cons Sub.rfl (.cons Sub.rfl .nil)))))))) (.cons .rfl (.cons .rfl .nil))) (awp_block ?_))
 obtain ⟨y13, q55, h56⟩ := bind_some h45
 refine zl (fun (p11 : Int) => ⟨110, [(1, .ref 0 0), (6, .ref 1 0), u2, (41, .int .i64 u4), (42, .int .i64 p8), u9, (55, .int .i64 ((p8.toNat - 0 : Nat) : Int)), (56, .int .i64 p11)], u7⟩) (Sum.elim (fun z => OutE 4 (fun z => ⟨110, [(1, .ref 0 0), u2, (41, .int .i64 u4), (42, .int .i64 p8)], [.box u1]⟩) z) (fun z => OutR Tryz.prog Tryz.f145 (.int .i64 z))) q55 ?_ ?_
 intro p11 y12 h46
 unfold M.model_checkOrigins_l3 at h46
 refine awp_seq (zg [1, 6, 40, 41, 42, 54, 55, 56, 57] 2 (then_n (awp_seq (cn h46 (fun _ h48 => ?_) (fun _ h49 => ?_)))))
 refine awp_skip (then_n (awp_seq (awp_block (awp_seq ?_))))
 obtain ⟨c50, h51⟩ := gd_some h48
 refine zc [1, 6, 8, 40, 41, 42, 54, 55, 56] 3 c50 (then_n (awp_seq (zg [1, 6, 40, 41, 42, 54, 55, 56, 64] 2 (then_n (cn h51 (fun _ h53 => ?_) (fun _ h54 => ?_))))))
 exact awp_seq (zg [2] 0 (then_n (awp_ret (inb_r (then_r (rr h53 ⟨rfl, er0 _⟩))))))
 exact awp_skip (inb_n (then_n (zg [1, 6, 40, 41, 42, 54, 55, 56] 2 (rn h54))))
 exact awp_exit (then_e (re h49 ⟨rfl, kc⟩))
 intro e57 s58 o59
 rcases y13 with g14 | y15
 have h60 := elim_l h56
 obtain ⟨rfl, l62⟩ := o59
 exact inb_here (inb_n (then_le (s' := ⟨110, [(1, .ref 0 0), u2, (41, .int .i64 u4), (42, .int .i64 p8)], [.box u1]⟩) (l62) (zg [1, 40, 41, 42] 1 (rn h60))))
 have h61 := elim_r h56
 obtain ⟨rfl, n63⟩ := o59
 exact inb_r (inb_r (then_r (rr h61 ⟨rfl, n63⟩)))
 exact awp_exit (then_e (re h36 ⟨rfl, kq⟩))
 intro e66 s67 o68
 rcases y16 with g17 | y18
 have h69 := elim_l h65
 refine zi o68 (awp_seq (awp_seq (zg [1, 70] 1 (then_n (cn h69 (fun _ h73 => ?_) (fun _ h74 => ?_))))))
 exact awp_seq (zg [2] 0 (then_n (awp_ret (then_r (er1 h73)))))
 refine awp_skip (then_n (awp_seq (awp_seq (zg [1, 72, 73, 74] 1 (then_n (awp_block ?_))))))
 obtain ⟨y28, q111, h112⟩ := bind_some h74
 refine zl (fun (p19 : Int) => ⟨110, [(1, .ref 0 0), u3, (73, .int .i64 u5), (74, .int .i64 p19)], [.box u1]⟩) (Sum.elim (fun z => OutE 6 (fun z => ⟨110, [], []⟩) z) (fun z => OutR Tryz.prog Tryz.f145 (.int .i64 z))) q111 ?_ ?_
 intro p19 y20 h75
 let u6 : List Ob := [.box u1, .box (c_TCondition (a0.fConditions.getD p19.toNat default))]
 let u8 : Nat × D := (97, sL 5 c_TCondition ((a0.fConditions.drop 0).take (p19.toNat - 0)))
 unfold M.model_checkOrigins_l4 at h75
 refine awp_seq (zg [1, 72, 73, 74, 75] 1 (then_n (awp_seq (cn h75 (fun _ h77 => ?_) (fun _ h78 => ?_)))))
 refine awp_skip (then_n (awp_seq (awp_block (awp_seq ?_))))
 obtain ⟨c79, h80⟩ := gd_some h77
 refine zc [1, 9, 10, 72, 73, 74] 2 c79 (then_n (awp_seq (awp_seq ?_)))
 obtain ⟨r21, q81, h82⟩ := bind_some h80
 obtain ⟨r22, q83, h84⟩ := bind_some h82
 refine zr [1, 9, 10, 72, 73, 74, 88] 2 nil_all (rq1 (addr_Valid_ok _ _ q81) (rq2 (fun hg => addr_Valid_ok _ _ (gc_some q83 hg)) rqn)) (then_n (cn h84 (fun _ h86 => ?_) (fun _ h87 => ?_)))
 exact awp_seq (zg [2] 0 (then_n (awp_ret (then_r (inb_r (then_r (rr h86 ⟨rfl, er0 _⟩)))))))
 refine awp_skip (then_n (awp_seq (awp_seq (zg [1, 9, 10, 72, 73, 74, 93] 2 (then_n (cn h87 (fun _ h89 => ?_) (fun _ h90 => ?_)))))))
 exact awp_seq (zg [2] 0 (then_n (awp_ret (then_r (inb_r (then_r (rr h89 ⟨rfl, er0 _⟩)))))))
 refine awp_skip (then_n (awp_seq ?_))
 obtain ⟨c91, h92⟩ := gd_some h90
 refine rgc [1, 10, 72, 73, 74, 97, 98, 99] 2 ⟨110, [(1, .ref 0 0), (10, .ref 1 0), u3, (73, .int .i64 u5), (74, .int .i64 p19), (97, .sl false 5 (p19.toNat - 0) (fun i => c_TCondition (a0.fConditions.getD (0 + i) default))), (98, .int .i64 ((p19.toNat - 0 : Nat) : Int)), (99, .int .i64 0)], u6⟩ [decide (0 ≤ p19), decide (p19 ≤ u5)] c91 (then_le (s' := ⟨110, [(1, .ref 0 0), (10, .ref 1 0), u3, (73, .int .i64 u5), (74, .int .i64 p19), u8, (98, .int .i64 ((p19.toNat - 0 : Nat) : Int)), (99, .int .i64 0)], u6⟩) (le_sub (.cons Sub.rfl (.cons Sub.rfl (.cons Sub.rfl (.cons Sub.rfl (.cons Sub.rfl (.cons (sub_sl (len_cut _ _ _ (cut_hi (c91 _ (List.mem_cons_of_mem _ List.mem_cons_self)))) (cut_ext _ _ _ _)) (.cons Sub.rfl (.cons Sub.rfl .nil)))))))) (.cons .rfl (.cons .rfl .nil))) (awp_block ?_))
 obtain ⟨y25, q102, h103⟩ := bind_some h92
 refine zl (fun (p23 : Int) => ⟨110, [(1, .ref 0 0), (10, .ref 1 0), u3, (73, .int .i64 u5), (74, .int .i64 p19), u8, (98, .int .i64 ((p19.toNat - 0 : Nat) : Int)), (99, .int .i64 p23)], u6⟩) (Sum.elim (fun z => OutE 8 (fun z => ⟨110, [(1, .ref 0 0), u3, (73, .int .i64 u5), (74, .int .i64 p19)], [.box u1]⟩) z) (fun z => OutR Tryz.prog Tryz.f145 (.int .i64 z))) q102 ?_ ?_
 intro p23 y24 h93
 unfold M.model_checkOrigins_l5 at h93
 refine awp_seq (zg [1, 10, 72, 73, 74, 97, 98, 99, 100] 2 (then_n (awp_seq (cn h93 (fun _ h95 => ?_) (fun _ h96 => ?_)))))
 refine awp_skip (then_n (awp_seq (awp_block (awp_seq ?_))))
 obtain ⟨c97, h98⟩ := gd_some h95
 refine zc [1, 10, 12, 72, 73, 74, 97, 98, 99] 3 c97 (then_n (awp_seq (zg [1, 10, 72, 73, 74, 97, 98, 99, 107] 2 (then_n (cn h98 (fun _ h100 => ?_) (fun _ h101 => ?_))))))
 exact awp_seq (zg [2] 0 (then_n (awp_ret (inb_r (then_r (rr h100 ⟨rfl, er0 _⟩))))))
 exact awp_skip (inb_n (then_n (zg [1, 10, 72, 73, 74, 97, 98, 99] 2 (rn h101))))
 exact awp_exit (then_e (re h96 ⟨rfl, kc⟩))
 intro e104 s105 o106
 rcases y25 with g26 | y27
 have h107 := elim_l h103
 obtain ⟨rfl, l109⟩ := o106
 exact inb_here (inb_n (then_le (s' := ⟨110, [(1, .ref 0 0), u3, (73, .int .i64 u5), (74, .int .i64 p19)], [.box u1]⟩) (l109) (zg [1, 72, 73, 74] 1 (rn h107))))
 have h108 := elim_r h103
 obtain ⟨rfl, n110⟩ := o106
 exact inb_r (inb_r (then_r (rr h108 ⟨rfl, n110⟩)))
 exact awp_exit (then_e (re h78 ⟨rfl, kc⟩))
 intro e113 s114 o115
 rcases y28 with g29 | y30
 have h116 := elim_l h112
 exact zi o115 (awp_seq (zg [2] 0 (then_n (awp_ret (er1 h116)))))
 have h117 := elim_r h112
 obtain ⟨rfl, n119⟩ := o115
 refine inb_r (then_r ?_)
 obtain rfl := Option.some.inj h117
 exact n119
 have h70 := elim_r h65
 obtain ⟨rfl, n120⟩ := o68
 refine inb_r (then_r ?_)
 obtain rfl := Option.some.inj h70
 exact n120
 have h28 := elim_r h23
 obtain ⟨rfl, n121⟩ := o26
 refine inb_r (then_r ?_)
 obtain rfl := Option.some.inj h28
 exact n121
theorem model_checkPathVector_ok (a0 : TRouter) (r : Int) (h : M.model_checkPathVector a0 = some r) : Fn Tryz.prog 84 [.agg (c_TRouter a0)] (.pure (.int .i64 r)) := by
 unfold M.model_checkPathVector at h
 refine fn_pure Tryz.func84 rfl (by kernel_rfl) (awp_seq (zg [1] 1 (then_n (awp_seq (zg [1, 3] 2 (then_n (awp_seq (awp_seq (zg [1, 3, 10] 2 (then_n (cn h (fun _ h2 => ?_) (fun _ h3 => ?_))))))))))))
 refine awp_seq (awp_seq (zg [48] 0 (then_n (cn h2 (fun _ h5 => ?_) (fun _ h6 => ?_)))))
 exact awp_seq (zg [2] 0 (then_n (awp_ret (then_r (then_r (er1 h5))))))
 exact awp_skip (then_n (awp_seq (zg [2] 0 (then_n (awp_ret (then_r (er1 h6)))))))
 refine awp_skip (then_n (awp_seq (awp_seq ?_)))
 obtain ⟨r1, q7, h8⟩ := bind_some h3
 obtain ⟨r2, q9, h10⟩ := bind_some h8
 refine zr [1, 3, 63] 2 nil_all (rq2 (fun hg => model_within_ok _ _ _ _ (gc_some q7 hg)) (rq2 (fun hg => model_within_ok _ _ _ _ (gc_some q9 hg)) rqn)) (then_n (cn h10 (fun _ h12 => ?_) (fun _ h13 => ?_)))
 exact awp_seq (zg [2] 0 (then_n (awp_ret (then_r (er1 h12)))))
 refine awp_skip (then_n (awp_seq (awp_seq ?_)))
 obtain ⟨r3, q14, h15⟩ := bind_some h13
 refine zr [1, 3, 4] 2 nil_all (rq1 (model_checkNeighbors_ok _ _ q14) rqn) (then_n (awp_seq (zg [1, 3, 4, 67] 2 (then_n (cn h15 (fun _ h17 => ?_) (fun _ h18 => ?_))))))
 exact awp_seq (zg [2] 0 (then_n (awp_ret (then_r (er1 h17)))))
 refine awp_skip (then_n (awp_seq (awp_seq ?_)))
 obtain ⟨r4, q19, h20⟩ := bind_some h18
 refine zr [1, 3, 5] 2 nil_all (rq1 (model_checkOrigins_ok _ _ q19) rqn) (then_n (awp_seq (zg [1, 3, 5, 72] 2 (then_n (cn h20 (fun _ h22 => ?_) (fun _ h23 => ?_))))))
 exact awp_seq (zg [2] 0 (then_n (awp_ret (then_r (er1 h22)))))
 refine awp_skip (then_n (awp_seq ?_))
 obtain ⟨r5, q24, h25⟩ := bind_some h23
 exact zr [2] 0 nil_all (rq1 (model_checkRedist_ok _ _ _ _ _ _ _ q24) rqn) (then_n (awp_ret (er1 h25)))
theorem model_CheckRouter_ok (a0 : TRouter) (r : Int) (h : M.model_CheckRouter a0 = some r) : Fn Tryz.prog 58 [.agg (c_TRouter a0)] (.pure (.int .i64 r)) := by
 unfold M.model_CheckRouter at h
 refine fn_pure Tryz.func58 rfl (by kernel_rfl) (awp_seq (zg [1] 1 (then_n (awp_seq (awp_seq ?_)))))
 obtain ⟨r1, q1, h2⟩ := bind_some h
 refine zr [1, 10] 1 nil_all (rq1 (scan_Name_ok _ _ q1) rqn) (then_n (cn h2 (fun _ h4 => ?_) (fun _ h5 => ?_)))
 exact awp_seq (zg [2] 0 (then_n (awp_ret (then_r (er1 h4)))))
 refine awp_skip (then_n (awp_seq (awp_seq ?_)))
 obtain ⟨r2, q6, h7⟩ := bind_some h5
 refine zr [1, 14] 1 nil_all (rq1 (model_within_ok _ _ _ _ q6) rqn) (then_n (cn h7 (fun _ h9 => ?_) (fun _ h10 => ?_)))
 exact awp_seq (zg [2] 0 (then_n (awp_ret (then_r (er1 h9)))))
 refine awp_skip (then_n (awp_seq (zg [1, 3] 1 (then_n (awp_seq (awp_seq (zg [1, 16, 17, 18] 1 (then_n (awp_block (awp_unroll (lwp_round (awp_seq (zg [1, 16, 17, 18, 19] 1 (then_n (awp_seq (cnd true (fun _ => (awp_skip (then_n (awp_seq (awp_block (awp_seq ?_)))))) (fun b11 => Bool.noConfusion b11)))))))))))))))))
 obtain ⟨c12, h13⟩ := gd_some h10
 refine zc [1, 5, 16, 17, 18] 1 c12 (then_n (awp_seq ?_))
 obtain ⟨r3, q14, h15⟩ := bind_some h13
 refine zr [1, 6, 16, 17, 18] 1 nil_all (rq1 (model_checkInterfaces_ok _ _ q14) rqn) (then_n (awp_seq (zg [1, 6, 16, 17, 18, 26] 1 (then_n (cn h15 (fun _ h17 => ?_) (fun _ h18 => ?_))))))
 exact awp_seq (rg0 [2] 0 ⟨29, [(2, .int .i64 r3)], []⟩ (then_n (awp_ret (inb_r (then_r (thenl_r (inb_r (then_r (er1 h17)))))))))
 refine awp_skip (inb_n (then_n (zg [1, 16, 17, 18] 1 (thenl_n (lwp_round (awp_seq (zg [1, 16, 17, 18, 19] 1 (then_n (awp_seq (cnd true (fun _ => (awp_skip (then_n (awp_seq (awp_block (awp_seq ?_)))))) (fun b19 => Bool.noConfusion b19)))))))))))
 obtain ⟨c20, h21⟩ := gd_some h18
 refine zc [1, 5, 16, 17, 18] 1 c20 (then_n (awp_seq ?_))
 obtain ⟨r4, q22, h23⟩ := bind_some h21
 refine zr [1, 6, 16, 17, 18] 1 nil_all (rq1 (model_checkPrefixLists_ok _ _ q22) rqn) (then_n (awp_seq (zg [1, 6, 16, 17, 18, 26] 1 (then_n (cn h23 (fun _ h25 => ?_) (fun _ h26 => ?_))))))
 exact awp_seq (rg0 [2] 0 ⟨29, [(2, .int .i64 r4)], []⟩ (then_n (awp_ret (inb_r (then_r (thenl_r (inb_r (then_r (er1 h25)))))))))
 refine awp_skip (inb_n (then_n (zg [1, 16, 17, 18] 1 (thenl_n (lwp_round (awp_seq (zg [1, 16, 17, 18, 19] 1 (then_n (awp_seq (cnd true (fun _ => (awp_skip (then_n (awp_seq (awp_block (awp_seq ?_)))))) (fun b27 => Bool.noConfusion b27)))))))))))
 obtain ⟨c28, h29⟩ := gd_some h26
 refine zc [1, 5, 16, 17, 18] 1 c28 (then_n (awp_seq ?_))
 obtain ⟨r5, q30, h31⟩ := bind_some h29
 refine zr [1, 6, 16, 17, 18] 1 nil_all (rq1 (model_checkRouteMaps_ok _ _ q30) rqn) (then_n (awp_seq (zg [1, 6, 16, 17, 18, 26] 1 (then_n (cn h31 (fun _ h33 => ?_) (fun _ h34 => ?_))))))
 exact awp_seq (rg0 [2] 0 ⟨29, [(2, .int .i64 r5)], []⟩ (then_n (awp_ret (inb_r (then_r (thenl_r (inb_r (then_r (er1 h33)))))))))
 refine awp_skip (inb_n (then_n (zg [1, 16, 17, 18] 1 (thenl_n (lwp_round (awp_seq (zg [1, 16, 17, 18, 19] 1 (then_n (awp_seq (cnd true (fun _ => (awp_skip (then_n (awp_seq (awp_block (awp_seq ?_)))))) (fun b35 => Bool.noConfusion b35)))))))))))
 obtain ⟨c36, h37⟩ := gd_some h34
 refine zc [1, 5, 16, 17, 18] 1 c36 (then_n (awp_seq ?_))
 obtain ⟨r6, q38, h39⟩ := bind_some h37
 refine zr [1, 6, 16, 17, 18] 1 nil_all (rq1 (model_checkACLs_ok _ _ q38) rqn) (then_n (awp_seq (zg [1, 6, 16, 17, 18, 26] 1 (then_n (cn h39 (fun _ h41 => ?_) (fun _ h42 => ?_))))))
 exact awp_seq (rg0 [2] 0 ⟨29, [(2, .int .i64 r6)], []⟩ (then_n (awp_ret (inb_r (then_r (thenl_r (inb_r (then_r (er1 h41)))))))))
 refine awp_skip (inb_n (then_n (zg [1, 16, 17, 18] 1 (thenl_n (lwp_round (awp_seq (zg [1, 16, 17, 18, 19] 1 (then_n (awp_seq (cnd true (fun _ => (awp_skip (then_n (awp_seq (awp_block (awp_seq ?_)))))) (fun b43 => Bool.noConfusion b43)))))))))))
 obtain ⟨c44, h45⟩ := gd_some h42
 refine zc [1, 5, 16, 17, 18] 1 c44 (then_n (awp_seq ?_))
 obtain ⟨r7, q46, h47⟩ := bind_some h45
 refine zr [1, 6, 16, 17, 18] 1 nil_all (rq1 (model_checkNAT_ok _ _ q46) rqn) (then_n (awp_seq (zg [1, 6, 16, 17, 18, 26] 1 (then_n (cn h47 (fun _ h49 => ?_) (fun _ h50 => ?_))))))
 exact awp_seq (rg0 [2] 0 ⟨29, [(2, .int .i64 r7)], []⟩ (then_n (awp_ret (inb_r (then_r (thenl_r (inb_r (then_r (er1 h49)))))))))
 refine awp_skip (inb_n (then_n (zg [1, 16, 17, 18] 1 (thenl_n (lwp_round (awp_seq (zg [1, 16, 17, 18, 19] 1 (then_n (awp_seq (cnd true (fun _ => (awp_skip (then_n (awp_seq (awp_block (awp_seq ?_)))))) (fun b51 => Bool.noConfusion b51)))))))))))
 obtain ⟨c52, h53⟩ := gd_some h50
 refine zc [1, 5, 16, 17, 18] 1 c52 (then_n (awp_seq ?_))
 obtain ⟨r8, q54, h55⟩ := bind_some h53
 refine zr [1, 6, 16, 17, 18] 1 nil_all (rq1 (model_checkFilters_ok _ _ q54) rqn) (then_n (awp_seq (zg [1, 6, 16, 17, 18, 26] 1 (then_n (cn h55 (fun _ h57 => ?_) (fun _ h58 => ?_))))))
 exact awp_seq (rg0 [2] 0 ⟨29, [(2, .int .i64 r8)], []⟩ (then_n (awp_ret (inb_r (then_r (thenl_r (inb_r (then_r (er1 h57)))))))))
 refine awp_skip (inb_n (then_n (zg [1, 16, 17, 18] 1 (thenl_n (lwp_round (awp_seq (zg [1, 16, 17, 18, 19] 1 (then_n (awp_seq (cnd true (fun _ => (awp_skip (then_n (awp_seq (awp_block (awp_seq ?_)))))) (fun b59 => Bool.noConfusion b59)))))))))))
 obtain ⟨c60, h61⟩ := gd_some h58
 refine zc [1, 5, 16, 17, 18] 1 c60 (then_n (awp_seq ?_))
 obtain ⟨r9, q62, h63⟩ := bind_some h61
 refine zr [1, 6, 16, 17, 18] 1 nil_all (rq1 (model_checkStatics_ok _ _ q62) rqn) (then_n (awp_seq (zg [1, 6, 16, 17, 18, 26] 1 (then_n (cn h63 (fun _ h65 => ?_) (fun _ h66 => ?_))))))
 exact awp_seq (rg0 [2] 0 ⟨29, [(2, .int .i64 r9)], []⟩ (then_n (awp_ret (inb_r (then_r (thenl_r (inb_r (then_r (er1 h65)))))))))
 refine awp_skip (inb_n (then_n (zg [1, 16, 17, 18] 1 (thenl_n (lwp_round (awp_seq (zg [1, 16, 17, 18, 19] 1 (then_n (awp_seq (cnd true (fun _ => (awp_skip (then_n (awp_seq (awp_block (awp_seq ?_)))))) (fun b67 => Bool.noConfusion b67)))))))))))
 obtain ⟨c68, h69⟩ := gd_some h66
 refine zc [1, 5, 16, 17, 18] 1 c68 (then_n (awp_seq ?_))
 obtain ⟨r10, q70, h71⟩ := bind_some h69
 refine zr [1, 6, 16, 17, 18] 1 nil_all (rq1 (model_checkLinkState_ok _ _ q70) rqn) (then_n (awp_seq (zg [1, 6, 16, 17, 18, 26] 1 (then_n (cn h71 (fun _ h73 => ?_) (fun _ h74 => ?_))))))
 exact awp_seq (rg0 [2] 0 ⟨29, [(2, .int .i64 r10)], []⟩ (then_n (awp_ret (inb_r (then_r (thenl_r (inb_r (then_r (er1 h73)))))))))
 refine awp_skip (inb_n (then_n (zg [1, 16, 17, 18] 1 (thenl_n (lwp_round (awp_seq (zg [1, 16, 17, 18, 19] 1 (then_n (awp_seq (cnd true (fun _ => (awp_skip (then_n (awp_seq (awp_block (awp_seq ?_)))))) (fun b75 => Bool.noConfusion b75)))))))))))
 obtain ⟨c76, h77⟩ := gd_some h74
 refine zc [1, 5, 16, 17, 18] 1 c76 (then_n (awp_seq ?_))
 obtain ⟨r11, q78, h79⟩ := bind_some h77
 refine zr [1, 6, 16, 17, 18] 1 nil_all (rq1 (model_checkDistanceVector_ok _ _ q78) rqn) (then_n (awp_seq (zg [1, 6, 16, 17, 18, 26] 1 (then_n (cn h79 (fun _ h81 => ?_) (fun _ h82 => ?_))))))
 exact awp_seq (rg0 [2] 0 ⟨29, [(2, .int .i64 r11)], []⟩ (then_n (awp_ret (inb_r (then_r (thenl_r (inb_r (then_r (er1 h81)))))))))
 refine awp_skip (inb_n (then_n (zg [1, 16, 17, 18] 1 (thenl_n (lwp_round (awp_seq (zg [1, 16, 17, 18, 19] 1 (then_n (awp_seq (cnd true (fun _ => (awp_skip (then_n (awp_seq (awp_block (awp_seq ?_)))))) (fun b83 => Bool.noConfusion b83)))))))))))
 obtain ⟨c84, h85⟩ := gd_some h82
 refine zc [1, 5, 16, 17, 18] 1 c84 (then_n (awp_seq ?_))
 obtain ⟨r12, q86, h87⟩ := bind_some h85
 refine zr [1, 6, 16, 17, 18] 1 nil_all (rq1 (model_checkPathVector_ok _ _ q86) rqn) (then_n (awp_seq (zg [1, 6, 16, 17, 18, 26] 1 (then_n (cn h87 (fun _ h89 => ?_) (fun _ h90 => ?_))))))
 exact awp_seq (rg0 [2] 0 ⟨29, [(2, .int .i64 r12)], []⟩ (then_n (awp_ret (inb_r (then_r (thenl_r (inb_r (then_r (er1 h89)))))))))
 exact awp_skip (inb_n (then_n (zg [1, 16, 17, 18] 1 (thenl_n (lwp_round (awp_seq (zg [1, 16, 17, 18, 19] 1 (then_n (awp_seq (cnd false (fun b91 => Bool.noConfusion b91) (fun _ => (awp_exit (then_e (thenl_e (inb_here (then_n (awp_seq (zg [2] 0 (then_n (awp_ret (er1 h90)))))))))))))))))))))
theorem model_shareAddress_1_ok (a0 : TInterface) (b0 : TRouter) (r : Bool) (h : M.model_shareAddress_1 a0 b0 = some r) : Fn Tryz.prog 86 [.agg (c_TInterface a0), .pp (c_TRouter b0)] (.pure (.bool r)) := by
 unfold M.model_shareAddress_1 at h
 refine fn_pure Tryz.func86 rfl (by kernel_rfl) (awp_seq (zg [1, 2] 1 (then_n (awp_seq ?_))))
 obtain ⟨r1, q1, h2⟩ := bind_some h
 exact zr [3] 0 nil_all (rq2 (fun hg => model_Address_ok _ _ _ (gc_some q1 hg)) rqn) (then_n (awp_ret (er1 h2)))
theorem slices_IndexFunc_api_Interface_api_Interface__model_shareAddress_1_ok (a0 : List TInterface) (a1c0 : TRouter) (r : Int) (h : M.slices_IndexFunc_api_Interface_api_Interface__model_shareAddress_1 a0 a1c0 = some r) : Fn Tryz.prog 146 [sL 12 c_TInterface a0, .fn 86 [.pp (c_TRouter a1c0)]] (.pure (.int .i64 r)) := by
 unfold M.slices_IndexFunc_api_Interface_api_Interface__model_shareAddress_1 at h
 refine fn_pure Tryz.func146 rfl (by kernel_rfl) (awp_seq (zg [0, 1] 0 (then_n (awp_seq (awp_seq (zg [0, 1, 7, 8] 0 (then_n (awp_block ?_))))))))
 obtain ⟨y4, q12, h13⟩ := bind_some h
 refine zl (fun (p1 : Int) => ⟨19, [(0, sL 12 c_TInterface a0), (1, .fn 86 [.pp (c_TRouter a1c0)]), (7, .int .i64 (a0.length : Int)), (8, .int .i64 p1)], []⟩) (Sum.elim (fun z => OutE 0 (fun z => ⟨19, [], []⟩) z) (fun z => OutR Tryz.prog Tryz.f146 (.int .i64 z))) q12 ?_ ?_
 intro p1 y2 h1
 unfold M.slices_IndexFunc_api_Interface_api_Interface__model_shareAddress_1_l1 at h1
 refine awp_seq (zg [0, 1, 7, 8, 9] 0 (then_n (awp_seq (cn h1 (fun _ h3 => ?_) (fun _ h4 => ?_)))))
 refine awp_skip (then_n (awp_seq (awp_block (awp_seq (zg [0, 1, 5, 7, 8] 0 (then_n (awp_seq ?_)))))))
 obtain ⟨r3, q5, h6⟩ := bind_some h3
 obtain ⟨c7, h8⟩ := gd_some h6
 refine zr [0, 1, 5, 7, 8, 16] 0 c7 (rq1 (model_shareAddress_1_ok _ _ _ q5) rqn) (then_n (cn h8 (fun _ h10 => ?_) (fun _ h11 => ?_)))
 exact awp_seq (zg [4] 0 (then_n (awp_ret (inb_r (then_r (rr h10 ⟨rfl, er0 _⟩))))))
 exact awp_skip (inb_n (then_n (zg [0, 1, 7, 8] 0 (rn h11))))
 exact awp_exit (then_e (re h4 ⟨rfl, kq⟩))
 intro e14 s15 o16
 rcases y4 with g5 | y6
 have h17 := elim_l h13
 exact zi o16 (awp_seq (zg [4] 0 (then_n (awp_ret (er1 h17)))))
 have h18 := elim_r h13
 obtain ⟨rfl, n20⟩ := o16
 refine inb_r (then_r ?_)
 obtain rfl := Option.some.inj h18
 exact n20
theorem slices_ContainsFunc_api_Interface_api_Interface__model_shareAddress_1_ok (a0 : List TInterface) (a1c0 : TRouter) (r : Bool) (h : M.slices_ContainsFunc_api_Interface_api_Interface__model_shareAddress_1 a0 a1c0 = some r) : Fn Tryz.prog 85 [sL 12 c_TInterface a0, .fn 86 [.pp (c_TRouter a1c0)]] (.pure (.bool r)) := by
 unfold M.slices_ContainsFunc_api_Interface_api_Interface__model_shareAddress_1 at h
 refine fn_pure Tryz.func85 rfl (by kernel_rfl) (awp_seq (zg [0, 1] 0 (then_n (awp_seq ?_))))
 obtain ⟨r1, q1, h2⟩ := bind_some h
 exact zr [4] 0 nil_all (rq1 (slices_IndexFunc_api_Interface_api_Interface__model_shareAddress_1_ok _ _ _ q1) rqn) (then_n (awp_ret (er1 h2)))
theorem model_shareAddress_ok (a0 : TRouter) (a1 : TRouter) (r : Bool) (h : M.model_shareAddress a0 a1 = some r) : Fn Tryz.prog 59 [.agg (c_TRouter a0), .agg (c_TRouter a1)] (.pure (.bool r)) := by
 unfold M.model_shareAddress at h
 refine fn_pure Tryz.func59 rfl (by kernel_rfl) (awp_seq (zg [2, 3] 2 (then_n (awp_seq ?_))))
 obtain ⟨r1, q1, h2⟩ := bind_some h
 exact zr [4] 0 nil_all (rq1 (slices_ContainsFunc_api_Interface_api_Interface__model_shareAddress_1_ok _ _ _ q1) rqn) (then_n (awp_ret (er1 h2)))
theorem model_Check_ok (a0 : TNetwork) (r : Int) (h : M.model_Check a0 = some r) : Fn Tryz.prog 37 [.agg (c_TNetwork a0)] (.pure (.int .i64 r)) := by
 let u1 : Nat × D := (13, sL 25 c_TRouter a0.fRouters)
 let u3 := (a0.fRouters.length : Int)
 let u5 := c_TNetwork a0
 unfold M.model_Check at h
 refine fn_pure Tryz.func37 rfl (by kernel_rfl) (awp_seq (zg [1] 1 (then_n (awp_seq (awp_seq (zg [1, 11] 1 (then_n (cn h (fun _ h2 => ?_) (fun _ h3 => ?_)))))))))
 exact awp_seq (zg [2] 0 (then_n (awp_ret (then_r (er1 h2)))))
 refine awp_skip (then_n (awp_seq (awp_seq (zg [1, 13, 14, 15] 1 (then_n (awp_block ?_))))))
 obtain ⟨y10, q37, h38⟩ := bind_some h3
 refine zl (fun (p1 : Int) => ⟨46, [(1, .ref 0 0), u1, (14, .int .i64 u3), (15, .int .i64 p1)], [.box u5]⟩) (Sum.elim (fun z => OutE 0 (fun z => ⟨46, [], []⟩) z) (fun z => OutR Tryz.prog Tryz.f37 (.int .i64 z))) q37 ?_ ?_
 intro p1 y2 h4
 let u2 : List Ob := [.box u5, .box (c_TRouter (a0.fRouters.getD p1.toNat default))]
 let u4 : Nat × D := (28, sL 25 c_TRouter ((a0.fRouters.drop 0).take (p1.toNat - 0)))
 unfold M.model_Check_l1 at h4
 refine awp_seq (zg [1, 13, 14, 15, 16] 1 (then_n (awp_seq (cn h4 (fun _ h6 => ?_) (fun _ h7 => ?_)))))
 refine awp_skip (then_n (awp_seq (awp_block (awp_seq ?_))))
 obtain ⟨c8, h9⟩ := gd_some h6
 refine zc [1, 3, 4, 13, 14, 15] 2 c8 (then_n (awp_seq (awp_seq ?_)))
 obtain ⟨r3, q10, h11⟩ := bind_some h9
 refine zr [1, 3, 4, 5, 13, 14, 15] 2 nil_all (rq1 (model_CheckRouter_ok _ _ q10) rqn) (then_n (awp_seq (zg [1, 3, 4, 5, 13, 14, 15, 23] 2 (then_n (cn h11 (fun _ h13 => ?_) (fun _ h14 => ?_))))))
 exact awp_seq (zg [2] 0 (then_n (awp_ret (then_r (inb_r (then_r (rr h13 ⟨rfl, er0 _⟩)))))))
 refine awp_skip (then_n (awp_seq ?_))
 obtain ⟨c15, h16⟩ := gd_some h14
 refine rgc [1, 4, 13, 14, 15, 28, 29, 30] 2 ⟨46, [(1, .ref 0 0), (4, .ref 1 0), u1, (14, .int .i64 u3), (15, .int .i64 p1), (28, .sl false 25 (p1.toNat - 0) (fun i => c_TRouter (a0.fRouters.getD (0 + i) default))), (29, .int .i64 ((p1.toNat - 0 : Nat) : Int)), (30, .int .i64 0)], u2⟩ [decide (0 ≤ p1), decide (p1 ≤ u3)] c15 (then_le (s' := ⟨46, [(1, .ref 0 0), (4, .ref 1 0), u1, (14, .int .i64 u3), (15, .int .i64 p1), u4, (29, .int .i64 ((p1.toNat - 0 : Nat) : Int)), (30, .int .i64 0)], u2⟩) (le_sub (.cons Sub.rfl (.cons Sub.rfl (.cons Sub.rfl (.cons Sub.rfl (.cons Sub.rfl (.cons (sub_sl (len_cut _ _ _ (cut_hi (c15 _ (List.mem_cons_of_mem _ List.mem_cons_self)))) (cut_ext _ _ _ _)) (.cons Sub.rfl (.cons Sub.rfl .nil)))))))) (.cons .rfl (.cons .rfl .nil))) (awp_block ?_))
 obtain ⟨y7, q28, h29⟩ := bind_some h16
 refine zl (fun (p4 : Int) => ⟨46, [(1, .ref 0 0), (4, .ref 1 0), u1, (14, .int .i64 u3), (15, .int .i64 p1), u4, (29, .int .i64 ((p1.toNat - 0 : Nat) : Int)), (30, .int .i64 p4)], u2⟩) (Sum.elim (fun z => OutE 2 (fun z => ⟨46, [(1, .ref 0 0), u1, (14, .int .i64 u3), (15, .int .i64 p1)], [.box u5]⟩) z) (fun z => OutR Tryz.prog Tryz.f37 (.int .i64 z))) q28 ?_ ?_
 intro p4 y5 h17
 unfold M.model_Check_l2 at h17
 refine awp_seq (zg [1, 4, 13, 14, 15, 28, 29, 30, 31] 2 (then_n (awp_seq (cn h17 (fun _ h19 => ?_) (fun _ h20 => ?_)))))
 refine awp_skip (then_n (awp_seq (awp_block (awp_seq ?_))))
 obtain ⟨c21, h22⟩ := gd_some h19
 refine zc [1, 4, 7, 13, 14, 15, 28, 29, 30] 3 c21 (then_n (awp_seq ?_))
 obtain ⟨r6, q23, h24⟩ := bind_some h22
 refine zr [1, 4, 13, 14, 15, 28, 29, 30, 43] 2 nil_all (rq2 (fun hg => model_shareAddress_ok _ _ _ (gc_some q23 hg)) rqn) (then_n (cn h24 (fun _ h26 => ?_) (fun _ h27 => ?_)))
 exact awp_seq (zg [2] 0 (then_n (awp_ret (inb_r (then_r (rr h26 ⟨rfl, er0 _⟩))))))
 exact awp_skip (inb_n (then_n (zg [1, 4, 13, 14, 15, 28, 29, 30] 2 (rn h27))))
 exact awp_exit (then_e (re h20 ⟨rfl, kc⟩))
 intro e30 s31 o32
 rcases y7 with g8 | y9
 have h33 := elim_l h29
 obtain ⟨rfl, l35⟩ := o32
 exact inb_here (inb_n (then_le (s' := ⟨46, [(1, .ref 0 0), u1, (14, .int .i64 u3), (15, .int .i64 p1)], [.box u5]⟩) (l35) (zg [1, 13, 14, 15] 1 (rn h33))))
 have h34 := elim_r h29
 obtain ⟨rfl, n36⟩ := o32
 exact inb_r (inb_r (then_r (rr h34 ⟨rfl, n36⟩)))
 exact awp_exit (then_e (re h7 ⟨rfl, kc⟩))
 intro e39 s40 o41
 rcases y10 with g11 | y12
 have h42 := elim_l h38
 exact zi o41 (awp_seq (zg [2] 0 (then_n (awp_ret (er1 h42)))))
 have h43 := elim_r h38
 obtain ⟨rfl, n45⟩ := o41
 refine inb_r (then_r ?_)
 obtain rfl := Option.some.inj h43
 exact n45
theorem topo_key : KeyT Tryz.prog 117 119 3 c_TdomainKey topoKeyEq := ⟨by kernel_rfl, ⟨_, Tryz.underlying119⟩, ⟨3, by kernel_rfl, fun _ => rfl⟩, fun _ => rfl, fun em y w => by cases em <;> kernel_rfl, fun w => by kernel_rfl, fun x y => by kernel_rfl⟩
theorem topo_collect_own (a0 : TNetwork) (r : List TDomain) (h : M.topo_collect a0 = some r) : Fn Tryz.prog 38 [.agg (c_TNetwork a0)] (oL 4 c_TDomain r) := by
 let u1 : Nat × D := (14, sL 25 c_TRouter a0.fRouters)
 let u2 := (a0.fRouters.length : Int)
 let u3 := c_TNetwork a0
 let u4 : Nat × D := (3, .sl true 4 0 (fun _ => []))
 let u5 := List (TdomainKey × Int)
 let u6 : St := ⟨82, [(1, .ref 0 0), u4], [.box u3]⟩
 let u7 := List TDomain
 unfold M.topo_collect at h
 obtain ⟨y, hy, h1⟩ := bind_some h
 obtain rfl := Option.some.inj h1
 refine fn_own Tryz.func38 rfl (by kernel_rfl) (awp_ends_le ?_)
 refine awp_seq (rg0 [1] 1 ⟨82, [(1, .ref 0 0)], [.box u3]⟩ ?_)
 refine then_n (awp_seq (rg0 [1, 3] 1 u6 ?_))
 refine then_n (awp_seq ?_)
 refine rgo 0 [] [1, 3] 1 u6 [] [] nil_all trivial (fun u : Value => ⟨82, (12, .val u) :: [(1, .ref 0 0), u4], [.box u3] ++ [.mp u []]⟩) (opS_make rfl rfl rfl rfl rfl) [] [1, 3, 4] 2 (fun u => ⟨82, [(1, .ref 0 0), u4, (4, .val u)], [.box u3, .mp u []]⟩) (fun _ => []) (fun _ => []) (fun _ => nil_all) (fun _ => trivial) (fun u => ?_)
 refine then_n (awp_seq (awp_seq (rg0 [3, 4, 14, 15, 16] 2 ⟨82, [u4, (4, .val u), u1, (15, .int .i64 u2), (16, .int .i64 0)], [.box u3, .mp u []]⟩ ?_)))
 refine then_le (Le.trans (s' := ⟨82, (3, .asl 2 0 0) :: [u4, (4, .val u), u1, (15, .int .i64 u2), (16, .int .i64 0)], [.box u3, .mp u []] ++ [.arr 4 0 (fun _ => [])]⟩) (le_thaw (wd := 4) (f := fun _ => []) 3 (by kernel_rfl) _ _) (Le.trans (s' := ⟨82, [(3, .asl 2 0 0), (4, .val u), u1, (15, .int .i64 u2), (16, .int .i64 0)], [.box u3, .mp u [], .arr 4 0 (fun _ => [])]⟩) (kp [3, 4, 14, 15, 16]) (le_rows0 (H := [.box u3, .mp u []]) (wi := 2) (wd := 4) hdDom c_TEnd TDomain.fEnds _))) ?_
 refine awp_block ?_
 refine awp_mono (awp_loopE (f := M.topo_collect_l1 a0) (S := fun (p : u7 × u5 × Int) (vs : Nat → Value) => ⟨82, [(3, .asl 2 0 p.1.length), (4, .val u), u1, (15, .int .i64 u2), (16, .int .i64 p.2.2)], [.box u3, mpO u c_TdomainKey p.2.1, rA 4 hdDom p.1 vs, rF 2 c_TEnd TDomain.fEnds p.1 vs]⟩) (O := (fun z => OutL 0 (fun (z : List TDomain) (g : (Nat → Value) × u5) => ⟨82, [(3, .asl 2 0 z.length)], [.box u3, mpO u c_TdomainKey g.2, rA 4 hdDom z g.1, rF 2 c_TEnd TDomain.fEnds z g.1]⟩) z)) ?_ (g := fun _ => nilV) (x := ([], [], 0)) (y := y) (loopM_iter hy)) ?_
 · intro p1 y1 v1 h2
   unfold M.topo_collect_l1 at h2
   refine awp_seq (rg0 [3, 4, 14, 15, 16, 17] 4 ⟨82, [(3, .asl 2 0 p1.1.length), (4, .val u), u1, (15, .int .i64 u2), (16, .int .i64 p1.2.2), (17, .bool (decide (p1.2.2 < u2)))], [.box u3, mpO u c_TdomainKey p1.2.1, rA 4 hdDom p1.1 v1, rF 2 c_TEnd TDomain.fEnds p1.1 v1]⟩ ?_)
   refine then_n (awp_seq ?_)
   refine cnd (decide (p1.2.2 < u2)) (fun b1 => ?_) (fun b1 => ?_)
   · have h3 := cond_t b1 h2
     refine awp_skip (then_n ?_)
     refine awp_seq (awp_block (awp_seq ?_))
     obtain ⟨c1, h4⟩ := gd_some h3
     refine rgc [3, 4, 5, 6, 14, 15, 16] 5 ⟨82, [(3, .asl 2 0 p1.1.length), (4, .val u), (5, .int .i64 p1.2.2), (6, .ref 4 0), u1, (15, .int .i64 u2), (16, .int .i64 p1.2.2)], [.box u3, mpO u c_TdomainKey p1.2.1, rA 4 hdDom p1.1 v1, rF 2 c_TEnd TDomain.fEnds p1.1 v1, .box (c_TRouter (a0.fRouters.getD p1.2.2.toNat default))]⟩ [decide (0 ≤ p1.2.2), decide (p1.2.2 < u2)] c1 ?_
     refine then_n (awp_seq (rg0 [3, 4, 5, 14, 15, 16, 22, 23, 24] 4 ⟨82, [(3, .asl 2 0 p1.1.length), (4, .val u), (5, .int .i64 p1.2.2), u1, (15, .int .i64 u2), (16, .int .i64 p1.2.2), (22, sL 12 c_TInterface (a0.fRouters.getD p1.2.2.toNat default).fInterfaces), (23, .int .i64 ((a0.fRouters.getD p1.2.2.toNat default).fInterfaces.length : Int)), (24, .int .i64 0)], [.box u3, mpO u c_TdomainKey p1.2.1, rA 4 hdDom p1.1 v1, rF 2 c_TEnd TDomain.fEnds p1.1 v1]⟩ ?_))
     refine then_n (awp_block ?_)
     obtain ⟨y2, hy2, h5⟩ := bind_some h4
     refine awp_mono (awp_loopE (f := M.topo_collect_l2 a0 p1.2.2) (S := fun (p : u7 × u5 × Int) (vs : Nat → Value) => ⟨82, [(3, .asl 2 0 p.1.length), (4, .val u), (5, .int .i64 p1.2.2), u1, (15, .int .i64 u2), (16, .int .i64 p1.2.2), (22, sL 12 c_TInterface (a0.fRouters.getD p1.2.2.toNat default).fInterfaces), (23, .int .i64 ((a0.fRouters.getD p1.2.2.toNat default).fInterfaces.length : Int)), (24, .int .i64 p.2.2)], [.box u3, mpO u c_TdomainKey p.2.1, rA 4 hdDom p.1 vs, rF 2 c_TEnd TDomain.fEnds p.1 vs]⟩) (O := (fun z => OutL 2 (fun (z : u7 × u5) (vs : Nat → Value) => ⟨82, [(3, .asl 2 0 z.1.length), (4, .val u), u1, (15, .int .i64 u2), (16, .int .i64 p1.2.2)], [.box u3, mpO u c_TdomainKey z.2, rA 4 hdDom z.1 vs, rF 2 c_TEnd TDomain.fEnds z.1 vs]⟩) z)) ?_ (g := v1) (x := (p1.1, p1.2.1, 0)) (y := y2) (loopM_iter hy2)) ?_
     · intro p2 y3 v2 h6
       unfold M.topo_collect_l2 at h6
       refine awp_seq (rg0 [3, 4, 5, 14, 15, 16, 22, 23, 24, 25] 4 ⟨82, [(3, .asl 2 0 p2.1.length), (4, .val u), (5, .int .i64 p1.2.2), u1, (15, .int .i64 u2), (16, .int .i64 p1.2.2), (22, sL 12 c_TInterface (a0.fRouters.getD p1.2.2.toNat default).fInterfaces), (23, .int .i64 ((a0.fRouters.getD p1.2.2.toNat default).fInterfaces.length : Int)), (24, .int .i64 p2.2.2), (25, .bool (decide (p2.2.2 < ((a0.fRouters.getD p1.2.2.toNat default).fInterfaces.length : Int))))], [.box u3, mpO u c_TdomainKey p2.2.1, rA 4 hdDom p2.1 v2, rF 2 c_TEnd TDomain.fEnds p2.1 v2]⟩ ?_)
       refine then_n (awp_seq ?_)
       refine cnd (decide (p2.2.2 < ((a0.fRouters.getD p1.2.2.toNat default).fInterfaces.length : Int))) (fun b2 => ?_) (fun b2 => ?_)
       · have h7 := cond_t b2 h6
         refine awp_skip (then_n ?_)
         refine awp_seq (awp_block (awp_seq ?_))
         obtain ⟨c2, h8⟩ := gd_some h7
         refine rgc [3, 4, 5, 7, 8, 14, 15, 16, 22, 23, 24] 5 ⟨82, [(3, .asl 2 0 p2.1.length), (4, .val u), (5, .int .i64 p1.2.2), (7, .int .i64 p2.2.2), (8, .ref 4 0), u1, (15, .int .i64 u2), (16, .int .i64 p1.2.2), (22, sL 12 c_TInterface (a0.fRouters.getD p1.2.2.toNat default).fInterfaces), (23, .int .i64 ((a0.fRouters.getD p1.2.2.toNat default).fInterfaces.length : Int)), (24, .int .i64 p2.2.2)], [.box u3, mpO u c_TdomainKey p2.2.1, rA 4 hdDom p2.1 v2, rF 2 c_TEnd TDomain.fEnds p2.1 v2, .box (c_TInterface ((a0.fRouters.getD p1.2.2.toNat default).fInterfaces.getD p2.2.2.toNat default))]⟩ [decide (0 ≤ p2.2.2), decide (p2.2.2 < ((a0.fRouters.getD p1.2.2.toNat default).fInterfaces.length : Int))] c2 ?_
         refine then_n (awp_seq (awp_seq ?_))
         refine rg0 [3, 4, 5, 7, 8, 14, 15, 16, 22, 23, 24, 35] 5 ⟨82, [(3, .asl 2 0 p2.1.length), (4, .val u), (5, .int .i64 p1.2.2), (7, .int .i64 p2.2.2), (8, .ref 4 0), u1, (15, .int .i64 u2), (16, .int .i64 p1.2.2), (22, sL 12 c_TInterface (a0.fRouters.getD p1.2.2.toNat default).fInterfaces), (23, .int .i64 ((a0.fRouters.getD p1.2.2.toNat default).fInterfaces.length : Int)), (24, .int .i64 p2.2.2), (35, .bool ((((a0.fRouters.getD p1.2.2.toNat default).fInterfaces.getD p2.2.2.toNat default).fLen == 0) || ((a0.fRouters.getD p1.2.2.toNat default).fInterfaces.getD p2.2.2.toNat default).fDown))], [.box u3, mpO u c_TdomainKey p2.2.1, rA 4 hdDom p2.1 v2, rF 2 c_TEnd TDomain.fEnds p2.1 v2, .box (c_TInterface ((a0.fRouters.getD p1.2.2.toNat default).fInterfaces.getD p2.2.2.toNat default))]⟩ ?_
         refine then_n ?_
         refine cnd ((((a0.fRouters.getD p1.2.2.toNat default).fInterfaces.getD p2.2.2.toNat default).fLen == 0) || ((a0.fRouters.getD p1.2.2.toNat default).fInterfaces.getD p2.2.2.toNat default).fDown) (fun b3 => ?_) (fun b3 => ?_)
         · have h9 := cond_t b3 h8
           refine awp_exit (then_e (inb_here ?_))
           refine then_n (rg0 [3, 4, 5, 14, 15, 16, 22, 23, 24] 4 ⟨82, [(3, .asl 2 0 p2.1.length), (4, .val u), (5, .int .i64 p1.2.2), u1, (15, .int .i64 u2), (16, .int .i64 p1.2.2), (22, sL 12 c_TInterface (a0.fRouters.getD p1.2.2.toNat default).fInterfaces), (23, .int .i64 ((a0.fRouters.getD p1.2.2.toNat default).fInterfaces.length : Int)), (24, .int .i64 (wr .i64 (p2.2.2 + 1)))], [.box u3, mpO u c_TdomainKey p2.2.1, rA 4 hdDom p2.1 v2, rF 2 c_TEnd TDomain.fEnds p2.1 v2]⟩ ?_)
           obtain rfl := Option.some.inj h9
           exact roundE_n v2 le_rfl
         · have h9 := cond_f b3 h8
           refine awp_skip (then_n (awp_seq ?_))
           obtain ⟨r, hr, h10⟩ := bind_some h9
           refine rgs 8 9 [.pure (.agg (c_TPrefix r))] [3, 4, 5, 7, 9, 14, 15, 16, 22, 23, 24] 6 ⟨82, [(3, .asl 2 0 p2.1.length), (4, .val u), (5, .int .i64 p1.2.2), (7, .int .i64 p2.2.2), (9, .ref 5 0), u1, (15, .int .i64 u2), (16, .int .i64 p1.2.2), (22, sL 12 c_TInterface (a0.fRouters.getD p1.2.2.toNat default).fInterfaces), (23, .int .i64 ((a0.fRouters.getD p1.2.2.toNat default).fInterfaces.length : Int)), (24, .int .i64 p2.2.2)], [.box u3, mpO u c_TdomainKey p2.2.1, rA 4 hdDom p2.1 v2, rF 2 c_TEnd TDomain.fEnds p2.1 v2, .box (c_TInterface ((a0.fRouters.getD p1.2.2.toNat default).fInterfaces.getD p2.2.2.toNat default)), .box (c_TdomainKey (⟨r, ((a0.fRouters.getD p1.2.2.toNat default).fInterfaces.getD p2.2.2.toNat default).fVLAN⟩ : TdomainKey))]⟩ [] [⟨true, 60, [.int .u32 ((a0.fRouters.getD p1.2.2.toNat default).fInterfaces.getD p2.2.2.toNat default).fAddr, .int .i64 ((a0.fRouters.getD p1.2.2.toNat default).fInterfaces.getD p2.2.2.toNat default).fLen], .pure (.agg (c_TPrefix r))⟩] nil_all ⟨fun _ => addr_Network_ok ((a0.fRouters.getD p1.2.2.toNat default).fInterfaces.getD p2.2.2.toNat default).fAddr ((a0.fRouters.getD p1.2.2.toNat default).fInterfaces.getD p2.2.2.toNat default).fLen r hr, trivial⟩ ?_
           refine then_n (awp_seq ?_)
           refine rgo 2 [] [3, 4, 5, 7, 9, 14, 15, 16, 22, 23, 24, 45, 46] 6 ⟨82, [(3, .asl 2 0 p2.1.length), (4, .val u), (5, .int .i64 p1.2.2), (7, .int .i64 p2.2.2), (9, .ref 5 0), u1, (15, .int .i64 u2), (16, .int .i64 p1.2.2), (22, sL 12 c_TInterface (a0.fRouters.getD p1.2.2.toNat default).fInterfaces), (23, .int .i64 ((a0.fRouters.getD p1.2.2.toNat default).fInterfaces.length : Int)), (24, .int .i64 p2.2.2), (45, .val u), (46, .agg (c_TdomainKey (⟨r, ((a0.fRouters.getD p1.2.2.toNat default).fInterfaces.getD p2.2.2.toNat default).fVLAN⟩ : TdomainKey)))], [.box u3, mpO u c_TdomainKey p2.2.1, rA 4 hdDom p2.1 v2, rF 2 c_TEnd TDomain.fEnds p2.1 v2, .box (c_TInterface ((a0.fRouters.getD p1.2.2.toNat default).fInterfaces.getD p2.2.2.toNat default)), .box (c_TdomainKey (⟨r, ((a0.fRouters.getD p1.2.2.toNat default).fInterfaces.getD p2.2.2.toNat default).fVLAN⟩ : TdomainKey))]⟩ [] [] nil_all trivial (fun _ : Unit => ⟨82, (47, .tup [.int .i64 (lkM (topoKeyEq (⟨r, ((a0.fRouters.getD p1.2.2.toNat default).fInterfaces.getD p2.2.2.toNat default).fVLAN⟩ : TdomainKey)) p2.2.1).1, .bool (lkM (topoKeyEq (⟨r, ((a0.fRouters.getD p1.2.2.toNat default).fInterfaces.getD p2.2.2.toNat default).fVLAN⟩ : TdomainKey)) p2.2.1).2]) :: [(3, .asl 2 0 p2.1.length), (4, .val u), (5, .int .i64 p1.2.2), (7, .int .i64 p2.2.2), (9, .ref 5 0), u1, (15, .int .i64 u2), (16, .int .i64 p1.2.2), (22, sL 12 c_TInterface (a0.fRouters.getD p1.2.2.toNat default).fInterfaces), (23, .int .i64 ((a0.fRouters.getD p1.2.2.toNat default).fInterfaces.length : Int)), (24, .int .i64 p2.2.2), (45, .val u), (46, .agg (c_TdomainKey (⟨r, ((a0.fRouters.getD p1.2.2.toNat default).fInterfaces.getD p2.2.2.toNat default).fVLAN⟩ : TdomainKey)))], [.box u3, mpO u c_TdomainKey p2.2.1, rA 4 hdDom p2.1 v2, rF 2 c_TEnd TDomain.fEnds p2.1 v2, .box (c_TInterface ((a0.fRouters.getD p1.2.2.toNat default).fInterfaces.getD p2.2.2.toNat default)), .box (c_TdomainKey (⟨r, ((a0.fRouters.getD p1.2.2.toNat default).fInterfaces.getD p2.2.2.toNat default).fVLAN⟩ : TdomainKey))]⟩) (opS_look (id := 1) topo_key (⟨r, ((a0.fRouters.getD p1.2.2.toNat default).fInterfaces.getD p2.2.2.toNat default).fVLAN⟩ : TdomainKey) rfl rfl rfl rfl rfl rfl rfl rfl) [] [3, 4, 5, 7, 9, 10, 11, 14, 15, 16, 22, 23, 24] 6 (fun _ => ⟨82, [(3, .asl 2 0 p2.1.length), (4, .val u), (5, .int .i64 p1.2.2), (7, .int .i64 p2.2.2), (9, .ref 5 0), (10, .int .i64 (lkM (topoKeyEq (⟨r, ((a0.fRouters.getD p1.2.2.toNat default).fInterfaces.getD p2.2.2.toNat default).fVLAN⟩ : TdomainKey)) p2.2.1).1), (11, .bool (lkM (topoKeyEq (⟨r, ((a0.fRouters.getD p1.2.2.toNat default).fInterfaces.getD p2.2.2.toNat default).fVLAN⟩ : TdomainKey)) p2.2.1).2), u1, (15, .int .i64 u2), (16, .int .i64 p1.2.2), (22, sL 12 c_TInterface (a0.fRouters.getD p1.2.2.toNat default).fInterfaces), (23, .int .i64 ((a0.fRouters.getD p1.2.2.toNat default).fInterfaces.length : Int)), (24, .int .i64 p2.2.2)], [.box u3, mpO u c_TdomainKey p2.2.1, rA 4 hdDom p2.1 v2, rF 2 c_TEnd TDomain.fEnds p2.1 v2, .box (c_TInterface ((a0.fRouters.getD p1.2.2.toNat default).fInterfaces.getD p2.2.2.toNat default)), .box (c_TdomainKey (⟨r, ((a0.fRouters.getD p1.2.2.toNat default).fInterfaces.getD p2.2.2.toNat default).fVLAN⟩ : TdomainKey))]⟩) (fun _ => []) (fun _ => []) (fun _ => nil_all) (fun _ => trivial) (fun _ => ?_)
           refine then_n ?_
           refine awp_join (fun (q : u7 × u5 × Int × (Nat → Value)) => ⟨82, [(3, .asl 2 0 q.1.length), (4, .val u), (5, .int .i64 p1.2.2), (7, .int .i64 p2.2.2), (10, .int .i64 q.2.2.1), u1, (15, .int .i64 u2), (16, .int .i64 p1.2.2), (22, sL 12 c_TInterface (a0.fRouters.getD p1.2.2.toNat default).fInterfaces), (23, .int .i64 ((a0.fRouters.getD p1.2.2.toNat default).fInterfaces.length : Int)), (24, .int .i64 p2.2.2)], [.box u3, mpO u c_TdomainKey q.2.1, rA 4 hdDom q.1 q.2.2.2, rF 2 c_TEnd TDomain.fEnds q.1 q.2.2.2]⟩) (fun q => M.topo_collect_k p1.2.2 p2 (q.1, q.2.1, q.2.2.1) = some y3) ?_ ?_
           · intro q h11
             unfold M.topo_collect_k at h11
             obtain ⟨c4, h12⟩ := gd_some h11
             have g1 : 0 ≤ q.2.2.1 := of_decide_eq_true (c4 _ (by simp only [List.mem_cons, true_or]))
             have g2 : q.2.2.1 < (q.1.length : Int) := of_decide_eq_true (c4 _ (by simp only [List.mem_cons, true_or, or_true]))
             have g3 : ((q.1.getD (0 + q.2.2.1.toNat) default).fEnds.length + 1) * 16 ≤ 140737488355328 := of_decide_eq_true (c4 _ (by simp only [List.mem_cons, true_or, or_true]))
             refine awp_le (le_foc (idf := 3) (0 + q.2.2.1.toNat) rfl) ?_
             refine rgxe 12 [] [3, 4, 5, 14, 15, 16, 22, 23, 24, 65, 66, 76] 5 ⟨82, [(3, .asl 2 0 q.1.length), (4, .val u), (5, .int .i64 p1.2.2), u1, (15, .int .i64 u2), (16, .int .i64 p1.2.2), (22, sL 12 c_TInterface (a0.fRouters.getD p1.2.2.toNat default).fInterfaces), (23, .int .i64 ((a0.fRouters.getD p1.2.2.toNat default).fInterfaces.length : Int)), (24, .int .i64 p2.2.2), (65, .asl 2 0 q.1.length), (66, .int .i64 q.2.2.1), (76, .asl 4 0 ((q.1.getD (0 + q.2.2.1.toNat) default).fEnds.length + 1))], [.box u3, mpO u c_TdomainKey q.2.1, rA 4 hdDom q.1 q.2.2.2, .fam (0 + q.2.2.1.toNat) (fun _ => false) q.1.length 2 (updV q.2.2.2 (0 + q.2.2.1.toNat) nilV) (updL (rls c_TEnd TDomain.fEnds q.1) (0 + q.2.2.1.toNat) (0, fun _ => [])), .arr 2 ((q.1.getD (0 + q.2.2.1.toNat) default).fEnds.length + 1) (app (rls c_TEnd TDomain.fEnds q.1 (0 + q.2.2.1.toNat)).2 (rls c_TEnd TDomain.fEnds q.1 (0 + q.2.2.1.toNat)).1 (fun i => List.take 2 (List.drop (i * 2) [.int .i64 p1.2.2, .int .i64 p2.2.2])))]⟩ [decide (0 ≤ q.2.2.1), decide (q.2.2.1 < (q.1.length : Int)), pB (q.2.2.2 (0 + q.2.2.1.toNat) = q.2.2.2 (0 + q.2.2.1.toNat)), decide ((0 + q.2.2.1.toNat) < q.1.length), decide (((q.1.getD (0 + q.2.2.1.toNat) default).fEnds.length + 1) * 16 ≤ 140737488355328)] [] ?_ trivial _ (leE_ref (idf := 3) 76 (0 + q.2.2.1.toNat) rfl rfl rfl ?_ rfl) [] [3, 4, 5, 14, 15, 16, 22, 23, 24] 4 (fun w => ⟨82, [(3, .asl 2 0 q.1.length), (4, .val u), (5, .int .i64 p1.2.2), u1, (15, .int .i64 u2), (16, .int .i64 p1.2.2), (22, sL 12 c_TInterface (a0.fRouters.getD p1.2.2.toNat default).fInterfaces), (23, .int .i64 ((a0.fRouters.getD p1.2.2.toNat default).fInterfaces.length : Int)), (24, .int .i64 p2.2.2)], [.box u3, mpO u c_TdomainKey q.2.1, .arr 4 q.1.length (fun j => bif Nat.beq j (0 + q.2.2.1.toNat) then splice (hdDom (q.1.getD (0 + q.2.2.1.toNat) default) ++ [.val (q.2.2.2 (0 + q.2.2.1.toNat))]) [.val w] 3 else hdDom (q.1.getD j default) ++ [.val (q.2.2.2 j)]), .fam 0 (fun _ => false) q.1.length 2 (updV (updV q.2.2.2 (0 + q.2.2.1.toNat) nilV) (0 + q.2.2.1.toNat) w) (updL (updL (rls c_TEnd TDomain.fEnds q.1) (0 + q.2.2.1.toNat) (0, fun _ => [])) (0 + q.2.2.1.toNat) ((q.1.getD (0 + q.2.2.1.toNat) default).fEnds.length + 1, (app (rls c_TEnd TDomain.fEnds q.1 (0 + q.2.2.1.toNat)).2 (rls c_TEnd TDomain.fEnds q.1 (0 + q.2.2.1.toNat)).1 (fun i => List.take 2 (List.drop (i * 2) [.int .i64 p1.2.2, .int .i64 p2.2.2])))))]⟩) (fun _ => [decide (0 ≤ q.2.2.1), decide (q.2.2.1 < (q.1.length : Int))]) (fun _ => []) ?_ (fun _ => trivial) (fun w => ?_)
             · exact am (decide_eq_true g1) (am (decide_eq_true g2) (am (pB_of rfl) (am (decide_eq_true (by omega)) (am (decide_eq_true g3) nil_all))))
             · rw [updV_self]; rfl
             · exact fun _ => am (decide_eq_true g1) (am (decide_eq_true g2) nil_all)
             refine inb_n ?_
             refine then_le (s' := ⟨82, [(3, .asl 2 0 (q.1.set (0 + q.2.2.1.toNat) (⟨(q.1.getD (0 + q.2.2.1.toNat) default).fPrefix, (q.1.getD (0 + q.2.2.1.toNat) default).fVLAN, (q.1.getD (0 + q.2.2.1.toNat) default).fEnds ++ [(⟨p1.2.2, p2.2.2⟩ : TEnd)]⟩ : TDomain)).length), (4, .val u), (5, .int .i64 p1.2.2), (14, sL 25 c_TRouter a0.fRouters), (15, .int .i64 (a0.fRouters.length : Int)), (16, .int .i64 p1.2.2), (22, sL 12 c_TInterface (a0.fRouters.getD p1.2.2.toNat default).fInterfaces), (23, .int .i64 ((a0.fRouters.getD p1.2.2.toNat default).fInterfaces.length : Int)), (24, .int .i64 p2.2.2)], [.box (c_TNetwork a0), mpO u c_TdomainKey q.2.1, rA 4 hdDom (q.1.set (0 + q.2.2.1.toNat) (⟨(q.1.getD (0 + q.2.2.1.toNat) default).fPrefix, (q.1.getD (0 + q.2.2.1.toNat) default).fVLAN, (q.1.getD (0 + q.2.2.1.toNat) default).fEnds ++ [(⟨p1.2.2, p2.2.2⟩ : TEnd)]⟩ : TDomain)) (updV q.2.2.2 (0 + q.2.2.1.toNat) w), rF 2 c_TEnd TDomain.fEnds (q.1.set (0 + q.2.2.1.toNat) (⟨(q.1.getD (0 + q.2.2.1.toNat) default).fPrefix, (q.1.getD (0 + q.2.2.1.toNat) default).fVLAN, (q.1.getD (0 + q.2.2.1.toNat) default).fEnds ++ [(⟨p1.2.2, p2.2.2⟩ : TEnd)]⟩ : TDomain)) (updV q.2.2.2 (0 + q.2.2.1.toNat) w)]⟩) (Le.trans (le_rset 2 3 hdDom c_TEnd TDomain.fEnds q.1 (⟨(q.1.getD (0 + q.2.2.1.toNat) default).fPrefix, (q.1.getD (0 + q.2.2.1.toNat) default).fVLAN, (q.1.getD (0 + q.2.2.1.toNat) default).fEnds ++ [(⟨p1.2.2, p2.2.2⟩ : TEnd)]⟩ : TDomain) q.2.2.2 (0 + q.2.2.1.toNat) w ((q.1.getD (0 + q.2.2.1.toNat) default).fEnds.length + 1) (app (rls c_TEnd TDomain.fEnds q.1 (0 + q.2.2.1.toNat)).2 (rls c_TEnd TDomain.fEnds q.1 (0 + q.2.2.1.toNat)).1 (fun i => List.take 2 (List.drop (i * 2) [.int .i64 p1.2.2, .int .i64 p2.2.2]))) _ _ _ (by decide) rfl rfl (fun j _ hj => by rw [beq_no hj]; rfl) (fun _ => by rw [Nat.beq_refl]; rfl) (fun j hj => updV_ne hj) (fun j hj => updL_ne hj) (by simp) (fun i hi => app_snoc c_TEnd (q.1.getD (0 + q.2.2.1.toNat) default).fEnds (⟨p1.2.2, p2.2.2⟩ : TEnd) (fun i => List.take 2 (List.drop (i * 2) [.int .i64 p1.2.2, .int .i64 p2.2.2])) rfl i hi)) (le_sub (.cons (asl_len (by simp)) (.cons Sub.rfl (.cons Sub.rfl (.cons Sub.rfl (.cons Sub.rfl (.cons Sub.rfl (.cons Sub.rfl (.cons Sub.rfl (.cons Sub.rfl .nil))))))))) HSub.rfl)) ?_
             refine rg0 [3, 4, 5, 14, 15, 16, 22, 23, 24] 4 ⟨82, [(3, .asl 2 0 (q.1.set (0 + q.2.2.1.toNat) (⟨(q.1.getD (0 + q.2.2.1.toNat) default).fPrefix, (q.1.getD (0 + q.2.2.1.toNat) default).fVLAN, (q.1.getD (0 + q.2.2.1.toNat) default).fEnds ++ [(⟨p1.2.2, p2.2.2⟩ : TEnd)]⟩ : TDomain)).length), (4, .val u), (5, .int .i64 p1.2.2), u1, (15, .int .i64 u2), (16, .int .i64 p1.2.2), (22, sL 12 c_TInterface (a0.fRouters.getD p1.2.2.toNat default).fInterfaces), (23, .int .i64 ((a0.fRouters.getD p1.2.2.toNat default).fInterfaces.length : Int)), (24, .int .i64 (wr .i64 (p2.2.2 + 1)))], [.box u3, mpO u c_TdomainKey q.2.1, rA 4 hdDom (q.1.set (0 + q.2.2.1.toNat) (⟨(q.1.getD (0 + q.2.2.1.toNat) default).fPrefix, (q.1.getD (0 + q.2.2.1.toNat) default).fVLAN, (q.1.getD (0 + q.2.2.1.toNat) default).fEnds ++ [(⟨p1.2.2, p2.2.2⟩ : TEnd)]⟩ : TDomain)) (updV q.2.2.2 (0 + q.2.2.1.toNat) w), rF 2 c_TEnd TDomain.fEnds (q.1.set (0 + q.2.2.1.toNat) (⟨(q.1.getD (0 + q.2.2.1.toNat) default).fPrefix, (q.1.getD (0 + q.2.2.1.toNat) default).fVLAN, (q.1.getD (0 + q.2.2.1.toNat) default).fEnds ++ [(⟨p1.2.2, p2.2.2⟩ : TEnd)]⟩ : TDomain)) (updV q.2.2.2 (0 + q.2.2.1.toNat) w)]⟩ ?_
             obtain rfl := Option.some.inj h12
             exact roundE_n (updV q.2.2.2 (0 + q.2.2.1.toNat) w) le_rfl
           · intro hk
             refine awp_seq (rg0 [3, 4, 5, 7, 9, 10, 14, 15, 16, 22, 23, 24, 51] 6 ⟨82, [(3, .asl 2 0 p2.1.length), (4, .val u), (5, .int .i64 p1.2.2), (7, .int .i64 p2.2.2), (9, .ref 5 0), (10, .int .i64 (lkM (topoKeyEq (⟨r, ((a0.fRouters.getD p1.2.2.toNat default).fInterfaces.getD p2.2.2.toNat default).fVLAN⟩ : TdomainKey)) p2.2.1).1), u1, (15, .int .i64 u2), (16, .int .i64 p1.2.2), (22, sL 12 c_TInterface (a0.fRouters.getD p1.2.2.toNat default).fInterfaces), (23, .int .i64 ((a0.fRouters.getD p1.2.2.toNat default).fInterfaces.length : Int)), (24, .int .i64 p2.2.2), (51, .bool (!(lkM (topoKeyEq (⟨r, ((a0.fRouters.getD p1.2.2.toNat default).fInterfaces.getD p2.2.2.toNat default).fVLAN⟩ : TdomainKey)) p2.2.1).2))], [.box u3, mpO u c_TdomainKey p2.2.1, rA 4 hdDom p2.1 v2, rF 2 c_TEnd TDomain.fEnds p2.1 v2, .box (c_TInterface ((a0.fRouters.getD p1.2.2.toNat default).fInterfaces.getD p2.2.2.toNat default)), .box (c_TdomainKey (⟨r, ((a0.fRouters.getD p1.2.2.toNat default).fInterfaces.getD p2.2.2.toNat default).fVLAN⟩ : TdomainKey))]⟩ ?_)
             refine then_n ?_
             refine cnd (!(lkM (topoKeyEq (⟨r, ((a0.fRouters.getD p1.2.2.toNat default).fInterfaces.getD p2.2.2.toNat default).fVLAN⟩ : TdomainKey)) p2.2.1).2) (fun b4 => ?_) (fun b4 => ?_)
             · have h11 := cond_t b4 h10
               obtain ⟨c4, h12⟩ := gd_some h11
               refine awp_seq (rg0 [3, 4, 5, 7, 9, 10, 14, 15, 16, 22, 23, 24] 6 ⟨82, [(3, .asl 2 0 p2.1.length), (4, .val u), (5, .int .i64 p1.2.2), (7, .int .i64 p2.2.2), (9, .ref 5 0), (10, .int .i64 (p2.1.length : Int)), u1, (15, .int .i64 u2), (16, .int .i64 p1.2.2), (22, sL 12 c_TInterface (a0.fRouters.getD p1.2.2.toNat default).fInterfaces), (23, .int .i64 ((a0.fRouters.getD p1.2.2.toNat default).fInterfaces.length : Int)), (24, .int .i64 p2.2.2)], [.box u3, mpO u c_TdomainKey p2.2.1, rA 4 hdDom p2.1 v2, rF 2 c_TEnd TDomain.fEnds p2.1 v2, .box (c_TInterface ((a0.fRouters.getD p1.2.2.toNat default).fInterfaces.getD p2.2.2.toNat default)), .box (c_TdomainKey (⟨r, ((a0.fRouters.getD p1.2.2.toNat default).fInterfaces.getD p2.2.2.toNat default).fVLAN⟩ : TdomainKey))]⟩ ?_)
               refine then_n (awp_seq ?_)
               refine rgo 3 [] [3, 4, 5, 7, 9, 10, 14, 15, 16, 22, 23, 24, 54, 55, 56] 6 ⟨82, [(3, .asl 2 0 p2.1.length), (4, .val u), (5, .int .i64 p1.2.2), (7, .int .i64 p2.2.2), (9, .ref 5 0), (10, .int .i64 (p2.1.length : Int)), (14, sL 25 c_TRouter a0.fRouters), (15, .int .i64 (a0.fRouters.length : Int)), (16, .int .i64 p1.2.2), (22, sL 12 c_TInterface (a0.fRouters.getD p1.2.2.toNat default).fInterfaces), (23, .int .i64 ((a0.fRouters.getD p1.2.2.toNat default).fInterfaces.length : Int)), (24, .int .i64 p2.2.2), (54, .val u), (55, .agg (c_TdomainKey (⟨r, ((a0.fRouters.getD p1.2.2.toNat default).fInterfaces.getD p2.2.2.toNat default).fVLAN⟩ : TdomainKey))), (56, .int .i64 (p2.1.length : Int))], [.box (c_TNetwork a0), mpO u c_TdomainKey p2.2.1, rA 4 hdDom p2.1 v2, rF 2 c_TEnd TDomain.fEnds p2.1 v2, .box (c_TInterface ((a0.fRouters.getD p1.2.2.toNat default).fInterfaces.getD p2.2.2.toNat default)), .box (c_TdomainKey (⟨r, ((a0.fRouters.getD p1.2.2.toNat default).fInterfaces.getD p2.2.2.toNat default).fVLAN⟩ : TdomainKey))]⟩ [] [] nil_all trivial (fun _ : Unit => ⟨82, [(3, .asl 2 0 p2.1.length), (4, .val u), (5, .int .i64 p1.2.2), (7, .int .i64 p2.2.2), (9, .ref 5 0), (10, .int .i64 (p2.1.length : Int)), (14, sL 25 c_TRouter a0.fRouters), (15, .int .i64 (a0.fRouters.length : Int)), (16, .int .i64 p1.2.2), (22, sL 12 c_TInterface (a0.fRouters.getD p1.2.2.toNat default).fInterfaces), (23, .int .i64 ((a0.fRouters.getD p1.2.2.toNat default).fInterfaces.length : Int)), (24, .int .i64 p2.2.2), (54, .val u), (55, .agg (c_TdomainKey (⟨r, ((a0.fRouters.getD p1.2.2.toNat default).fInterfaces.getD p2.2.2.toNat default).fVLAN⟩ : TdomainKey))), (56, .int .i64 (p2.1.length : Int))], [.box (c_TNetwork a0), mpO u c_TdomainKey (p2.2.1 ++ [((⟨r, ((a0.fRouters.getD p1.2.2.toNat default).fInterfaces.getD p2.2.2.toNat default).fVLAN⟩ : TdomainKey), (p2.1.length : Int))]), rA 4 hdDom p2.1 v2, rF 2 c_TEnd TDomain.fEnds p2.1 v2, .box (c_TInterface ((a0.fRouters.getD p1.2.2.toNat default).fInterfaces.getD p2.2.2.toNat default)), .box (c_TdomainKey (⟨r, ((a0.fRouters.getD p1.2.2.toNat default).fInterfaces.getD p2.2.2.toNat default).fVLAN⟩ : TdomainKey))]⟩) (opS_upd (id := 1) topo_key (⟨r, ((a0.fRouters.getD p1.2.2.toNat default).fInterfaces.getD p2.2.2.toNat default).fVLAN⟩ : TdomainKey) (p2.1.length : Int) rfl rfl rfl rfl rfl rfl rfl rfl (by simpa using b4)) [] [3, 4, 5, 7, 9, 10, 14, 15, 16, 22, 23, 24] 6 (fun _ => ⟨82, [(3, .asl 2 0 p2.1.length), (4, .val u), (5, .int .i64 p1.2.2), (7, .int .i64 p2.2.2), (9, .ref 5 0), (10, .int .i64 (p2.1.length : Int)), (14, sL 25 c_TRouter a0.fRouters), (15, .int .i64 (a0.fRouters.length : Int)), (16, .int .i64 p1.2.2), (22, sL 12 c_TInterface (a0.fRouters.getD p1.2.2.toNat default).fInterfaces), (23, .int .i64 ((a0.fRouters.getD p1.2.2.toNat default).fInterfaces.length : Int)), (24, .int .i64 p2.2.2)], [.box (c_TNetwork a0), mpO u c_TdomainKey (p2.2.1 ++ [((⟨r, ((a0.fRouters.getD p1.2.2.toNat default).fInterfaces.getD p2.2.2.toNat default).fVLAN⟩ : TdomainKey), (p2.1.length : Int))]), rA 4 hdDom p2.1 v2, rF 2 c_TEnd TDomain.fEnds p2.1 v2, .box (c_TInterface ((a0.fRouters.getD p1.2.2.toNat default).fInterfaces.getD p2.2.2.toNat default)), .box (c_TdomainKey (⟨r, ((a0.fRouters.getD p1.2.2.toNat default).fInterfaces.getD p2.2.2.toNat default).fVLAN⟩ : TdomainKey))]⟩) (fun _ => []) (fun _ => []) (fun _ => nil_all) (fun _ => trivial) (fun _ => ?_)
               refine then_n ?_
               refine rgc [3, 4, 5, 7, 10, 14, 15, 16, 22, 23, 24] 4 ⟨82, [(3, .asl 2 0 (p2.1.length + 1)), (4, .val u), (5, .int .i64 p1.2.2), (7, .int .i64 p2.2.2), (10, .int .i64 (p2.1.length : Int)), u1, (15, .int .i64 u2), (16, .int .i64 p1.2.2), (22, sL 12 c_TInterface (a0.fRouters.getD p1.2.2.toNat default).fInterfaces), (23, .int .i64 ((a0.fRouters.getD p1.2.2.toNat default).fInterfaces.length : Int)), (24, .int .i64 p2.2.2)], [.box u3, mpO u c_TdomainKey (p2.2.1 ++ [((⟨r, ((a0.fRouters.getD p1.2.2.toNat default).fInterfaces.getD p2.2.2.toNat default).fVLAN⟩ : TdomainKey), (p2.1.length : Int))]), .arr 4 (p2.1.length + 1) (app (fun j => hdDom (p2.1.getD j default) ++ [.val (v2 j)]) p2.1.length (fun i => List.take 4 (List.drop (i * 4) [.int .u32 r.fAddr, .int .i64 r.fLen, .int .i64 ((a0.fRouters.getD p1.2.2.toNat default).fInterfaces.getD p2.2.2.toNat default).fVLAN, .sl true 2 0 (fun _ => [])]))), rF 2 c_TEnd TDomain.fEnds p2.1 v2]⟩ [decide ((p2.1.length + 1) * 48 ≤ 140737488355328)] c4 ?_
               refine then_leE (leE_rgrow 2 3 hdDom c_TEnd TDomain.fEnds p2.1 (⟨r, ((a0.fRouters.getD p1.2.2.toNat default).fInterfaces.getD p2.2.2.toNat default).fVLAN, []⟩ : TDomain) v2 (by decide) rfl rfl rfl (fun j hj => app_old hj) (app_at.trans rfl)) fun w => ?_
               exact awp_le (le_sub (.cons (asl_len (by simp)) (.cons Sub.rfl (.cons Sub.rfl (.cons Sub.rfl (.cons Sub.rfl (.cons Sub.rfl (.cons Sub.rfl (.cons Sub.rfl (.cons Sub.rfl (.cons Sub.rfl (.cons Sub.rfl .nil))))))))))) HSub.rfl) (hk (p2.1 ++ [(⟨r, ((a0.fRouters.getD p1.2.2.toNat default).fInterfaces.getD p2.2.2.toNat default).fVLAN, []⟩ : TDomain)], (p2.2.1 ++ [((⟨r, ((a0.fRouters.getD p1.2.2.toNat default).fInterfaces.getD p2.2.2.toNat default).fVLAN⟩ : TdomainKey), (p2.1.length : Int))]), (p2.1.length : Int), updV v2 p2.1.length w.1) h12)
             · have h11 := cond_f b4 h10
               refine awp_skip ?_
               exact then_le (Le.trans (s' := ⟨82, [(3, .asl 2 0 p2.1.length), (4, .val u), (5, .int .i64 p1.2.2), (7, .int .i64 p2.2.2), (10, .int .i64 (lkM (topoKeyEq (⟨r, ((a0.fRouters.getD p1.2.2.toNat default).fInterfaces.getD p2.2.2.toNat default).fVLAN⟩ : TdomainKey)) p2.2.1).1), u1, (15, .int .i64 u2), (16, .int .i64 p1.2.2), (22, sL 12 c_TInterface (a0.fRouters.getD p1.2.2.toNat default).fInterfaces), (23, .int .i64 ((a0.fRouters.getD p1.2.2.toNat default).fInterfaces.length : Int)), (24, .int .i64 p2.2.2)], [.box u3, mpO u c_TdomainKey p2.2.1, rA 4 hdDom p2.1 v2, rF 2 c_TEnd TDomain.fEnds p2.1 v2, .box (c_TInterface ((a0.fRouters.getD p1.2.2.toNat default).fInterfaces.getD p2.2.2.toNat default)), .box (c_TdomainKey (⟨r, ((a0.fRouters.getD p1.2.2.toNat default).fInterfaces.getD p2.2.2.toNat default).fVLAN⟩ : TdomainKey))]⟩) (kp [3, 4, 5, 7, 10, 14, 15, 16, 22, 23, 24]) (le_cut (n := 4) (by kernel_rfl))) (hk (p2.1, p2.2.1, (lkM (topoKeyEq (⟨r, ((a0.fRouters.getD p1.2.2.toNat default).fInterfaces.getD p2.2.2.toNat default).fVLAN⟩ : TdomainKey)) p2.2.1).1, v2) h11)
       · have h7 := cond_f b2 h6
         refine awp_exit (then_e ?_)
         obtain rfl := Option.some.inj h7
         exact roundE_e ⟨rfl, LeE.of v2 (kp [3, 4, 14, 15, 16])⟩
     · intro e s o
       obtain ⟨rfl, l⟩ := o
       refine inb_here (inb_n ?_)
       refine then_leE l fun v2 => ?_
       refine rg0 [3, 4, 14, 15, 16] 4 ⟨82, [(3, .asl 2 0 y2.1.length), (4, .val u), u1, (15, .int .i64 u2), (16, .int .i64 (wr .i64 (p1.2.2 + 1)))], [.box u3, mpO u c_TdomainKey y2.2, rA 4 hdDom y2.1 v2, rF 2 c_TEnd TDomain.fEnds y2.1 v2]⟩ ?_
       obtain rfl := Option.some.inj h5
       exact roundE_n v2 le_rfl
   · have h3 := cond_f b1 h2
     refine awp_exit (then_e ?_)
     obtain rfl := Option.some.inj h3
     exact roundE_e ⟨rfl, LeE.of (v1, p1.2.1) (kp [3])⟩
 · intro e s o
   obtain ⟨rfl, l⟩ := o
   refine inb_here ?_
   refine then_leE l fun g => ?_
   refine awp_seq (rg0 [2] 4 ⟨82, [(2, .asl 2 0 y.length)], [.box u3, mpO u c_TdomainKey g.2, rA 4 hdDom y g.1, rF 2 c_TEnd TDomain.fEnds y g.1]⟩ ?_)
   refine then_n (awp_ret ?_)
   exact ⟨_, le_rfrz 2 3 hdDom c_TEnd TDomain.fEnds c_TDomain y g.1 rfl rfl (fun _ => rfl), .inr rfl, 2, 2, _, rfl, rfl, rfl, fun _ _ => rfl⟩
theorem cmp_isNaN_uint32_ok (a0 : Int) (r : Bool) (h : M.cmp_isNaN_uint32 a0 = some r) : Fn Tryz.prog 100 [.int .u32 a0] (.pure (.bool r)) := by
 unfold M.cmp_isNaN_uint32 at h
 exact fn_pure Tryz.func100 rfl (by kernel_rfl) (awp_seq (zg [0] 0 (then_n (awp_seq (zg [2] 0 (then_n (awp_ret (er1 h))))))))
theorem cmp_Compare_uint32_ok (a0 : Int) (a1 : Int) (r : Int) (h : M.cmp_Compare_uint32 a0 a1 = some r) : Fn Tryz.prog 63 [.int .u32 a0, .int .u32 a1] (.pure (.int .i64 r)) := by
 unfold M.cmp_Compare_uint32 at h
 refine fn_pure Tryz.func63 rfl (by kernel_rfl) (awp_seq (zg [0, 1] 0 (then_n (awp_seq ?_))))
 obtain ⟨r1, q1, h2⟩ := bind_some h
 refine zr [0, 1, 5] 0 nil_all (rq1 (cmp_isNaN_uint32_ok _ _ q1) rqn) (then_n (awp_seq ?_))
 obtain ⟨r2, q3, h4⟩ := bind_some h2
 refine zr [0, 1, 5, 6] 0 nil_all (rq1 (cmp_isNaN_uint32_ok _ _ q3) rqn) (then_n (awp_seq (awp_seq (zg [0, 1, 6, 11] 0 (then_n (cn h4 (fun _ h6 => ?_) (fun _ h7 => ?_)))))))
 refine awp_seq (awp_seq (zg [12] 0 (then_n (cn h6 (fun _ h9 => ?_) (fun _ h10 => ?_)))))
 exact awp_seq (zg [4] 0 (then_n (awp_ret (then_r (then_r (er1 h9))))))
 exact awp_skip (then_n (awp_seq (zg [4] 0 (then_n (awp_ret (then_r (er1 h10)))))))
 refine awp_skip (then_n (awp_seq (awp_seq (zg [0, 1, 13] 0 (then_n (cn h7 (fun _ h12 => ?_) (fun _ h13 => ?_)))))))
 exact awp_seq (zg [4] 0 (then_n (awp_ret (then_r (er1 h12)))))
 refine awp_skip (then_n (awp_seq (awp_seq (zg [0, 1, 16] 0 (then_n (cn h13 (fun _ h15 => ?_) (fun _ h16 => ?_)))))))
 exact awp_seq (zg [4] 0 (then_n (awp_ret (then_r (er1 h15)))))
 refine awp_skip (then_n (awp_seq (awp_seq (zg [19] 0 (then_n (cn h16 (fun _ h18 => ?_) (fun _ h19 => ?_)))))))
 exact awp_seq (zg [4] 0 (then_n (awp_ret (then_r (er1 h18)))))
 exact awp_skip (then_n (awp_seq (zg [4] 0 (then_n (awp_ret (er1 h19))))))
theorem cmp_isNaN_int_ok (a0 : Int) (r : Bool) (h : M.cmp_isNaN_int a0 = some r) : Fn Tryz.prog 64 [.int .i64 a0] (.pure (.bool r)) := by
 unfold M.cmp_isNaN_int at h
 exact fn_pure Tryz.func64 rfl (by kernel_rfl) (awp_seq (zg [0] 0 (then_n (awp_seq (zg [2] 0 (then_n (awp_ret (er1 h))))))))
theorem cmp_Compare_int_ok (a0 : Int) (a1 : Int) (r : Int) (h : M.cmp_Compare_int a0 a1 = some r) : Fn Tryz.prog 43 [.int .i64 a0, .int .i64 a1] (.pure (.int .i64 r)) := by
 unfold M.cmp_Compare_int at h
 refine fn_pure Tryz.func43 rfl (by kernel_rfl) (awp_seq (zg [0, 1] 0 (then_n (awp_seq ?_))))
 obtain ⟨r1, q1, h2⟩ := bind_some h
 refine zr [0, 1, 5] 0 nil_all (rq1 (cmp_isNaN_int_ok _ _ q1) rqn) (then_n (awp_seq ?_))
 obtain ⟨r2, q3, h4⟩ := bind_some h2
 refine zr [0, 1, 5, 6] 0 nil_all (rq1 (cmp_isNaN_int_ok _ _ q3) rqn) (then_n (awp_seq (awp_seq (zg [0, 1, 6, 11] 0 (then_n (cn h4 (fun _ h6 => ?_) (fun _ h7 => ?_)))))))
 refine awp_seq (awp_seq (zg [12] 0 (then_n (cn h6 (fun _ h9 => ?_) (fun _ h10 => ?_)))))
 exact awp_seq (zg [4] 0 (then_n (awp_ret (then_r (then_r (er1 h9))))))
 exact awp_skip (then_n (awp_seq (zg [4] 0 (then_n (awp_ret (then_r (er1 h10)))))))
 refine awp_skip (then_n (awp_seq (awp_seq (zg [0, 1, 13] 0 (then_n (cn h7 (fun _ h12 => ?_) (fun _ h13 => ?_)))))))
 exact awp_seq (zg [4] 0 (then_n (awp_ret (then_r (er1 h12)))))
 refine awp_skip (then_n (awp_seq (awp_seq (zg [0, 1, 16] 0 (then_n (cn h13 (fun _ h15 => ?_) (fun _ h16 => ?_)))))))
 exact awp_seq (zg [4] 0 (then_n (awp_ret (then_r (er1 h15)))))
 refine awp_skip (then_n (awp_seq (awp_seq (zg [19] 0 (then_n (cn h16 (fun _ h18 => ?_) (fun _ h19 => ?_)))))))
 exact awp_seq (zg [4] 0 (then_n (awp_ret (then_r (er1 h18)))))
 exact awp_skip (then_n (awp_seq (zg [4] 0 (then_n (awp_ret (er1 h19))))))
theorem addr_Compare_ok (a0 : TPrefix) (a1 : TPrefix) (r : Int) (h : M.addr_Compare a0 a1 = some r) : Fn Tryz.prog 42 [.agg (c_TPrefix a0), .agg (c_TPrefix a1)] (.pure (.int .i64 r)) := by
 unfold M.addr_Compare at h
 refine fn_pure Tryz.func42 rfl (by kernel_rfl) (awp_seq (zg [2, 3] 2 (then_n (awp_seq (awp_seq ?_)))))
 obtain ⟨r1, q1, h2⟩ := bind_some h
 refine zr [2, 3, 5] 2 nil_all (rq1 (cmp_Compare_uint32_ok _ _ _ q1) rqn) (then_n (awp_seq (zg [2, 3, 5, 12] 2 (then_n (cn h2 (fun _ h4 => ?_) (fun _ h5 => ?_))))))
 exact awp_seq (zg [4] 0 (then_n (awp_ret (then_r (er1 h4)))))
 refine awp_skip (then_n (awp_seq ?_))
 obtain ⟨r2, q6, h7⟩ := bind_some h5
 exact zr [4] 0 nil_all (rq1 (cmp_Compare_int_ok _ _ _ q6) rqn) (then_n (awp_ret (er1 h7)))
theorem cmp_Or_int_ok (a0 : List Int) (r : Int) (h : M.cmp_Or_int a0 = some r) : Fn Tryz.prog 41 [sL 1 (ci .i64) a0] (.pure (.int .i64 r)) := by
 unfold M.cmp_Or_int at h
 refine fn_pure Tryz.func41 rfl (by kernel_rfl) (awp_seq (zg [0] 0 (then_n (awp_seq (zg [0, 3] 0 (then_n (awp_seq (awp_seq (zg [3, 6, 7, 8] 0 (then_n (awp_block ?_)))))))))))
 obtain ⟨y3, q10, h11⟩ := bind_some h
 refine zl (fun (p1 : Int) => ⟨18, [(3, .int .i64 0), (6, sL 1 (ci .i64) a0), (7, .int .i64 (a0.length : Int)), (8, .int .i64 p1)], []⟩) (Sum.elim (fun z => OutE 0 (fun z => ⟨18, [(3, .int .i64 0)], []⟩) z) (fun z => OutR Tryz.prog Tryz.f41 (.int .i64 z))) q10 ?_ ?_
 intro p1 y2 h1
 unfold M.cmp_Or_int_l1 at h1
 refine awp_seq (zg [3, 6, 7, 8, 9] 0 (then_n (awp_seq (cn h1 (fun _ h3 => ?_) (fun _ h4 => ?_)))))
 refine awp_skip (then_n (awp_seq (awp_block (awp_seq ?_))))
 obtain ⟨c5, h6⟩ := gd_some h3
 refine zc [3, 5, 6, 7, 8] 0 c5 (then_n (awp_seq (zg [3, 5, 6, 7, 8, 14] 0 (then_n (cn h6 (fun _ h8 => ?_) (fun _ h9 => ?_))))))
 exact awp_seq (zg [2] 0 (then_n (awp_ret (inb_r (then_r (rr h8 ⟨rfl, er0 _⟩))))))
 exact awp_skip (inb_n (then_n (zg [3, 6, 7, 8] 0 (rn h9))))
 exact awp_exit (then_e (re h4 ⟨rfl, kq⟩))
 intro e12 s13 o14
 rcases y3 with g4 | y5
 have h15 := elim_l h11
 exact zi o14 (awp_seq (zg [2] 0 (then_n (awp_ret (er1 h15)))))
 have h16 := elim_r h11
 obtain ⟨rfl, n18⟩ := o14
 refine inb_r (then_r ?_)
 obtain rfl := Option.some.inj h16
 exact n18
theorem topo_Build_1_ok (a0 : TDomain) (a1 : TDomain) (r : Int) (h : M.topo_Build_1 a0 a1 = some r) : Fn Tryz.prog 40 [.agg (c_TDomain a0), .agg (c_TDomain a1)] (.pure (.int .i64 r)) := by
 unfold M.topo_Build_1 at h
 refine fn_pure Tryz.func40 rfl (by kernel_rfl) (awp_seq (zg [2, 3] 2 (then_n (awp_seq ?_))))
 obtain ⟨r1, q1, h2⟩ := bind_some h
 obtain ⟨r2, q3, h4⟩ := bind_some h2
 obtain ⟨r3, q5, h6⟩ := bind_some h4
 exact rg [.pure (.int .i64 r1), .pure (.int .i64 r2), .pure (.int .i64 r3)] [4] 0 ⟨17, [(4, .int .i64 r3)], []⟩ [] [⟨true, 42, [.agg (c_TPrefix a0.fPrefix), .agg (c_TPrefix a1.fPrefix)], .pure (.int .i64 r1)⟩, ⟨true, 43, [.int .i64 a0.fVLAN, .int .i64 a1.fVLAN], .pure (.int .i64 r2)⟩, ⟨true, 41, [.sl false 1 2 (fun i => List.take 1 (List.drop (i * 1) [.int .i64 r1, .int .i64 r2]))], .pure (.int .i64 r3)⟩] nil_all ⟨fun _ => addr_Compare_ok a0.fPrefix a1.fPrefix r1 q1, fun _ => cmp_Compare_int_ok a0.fVLAN a1.fVLAN r2 q3, fun _ => (cmp_Or_int_ok ([r1, r2] : List Int) r3 q5).args (.cons (asub_sl rfl (fun i hi => match i, hi with | 0, _ => rfl | 1, _ => rfl | n + 2, h => absurd h (by omega))) .nil), trivial⟩ (then_n (awp_ret (er1 h6)))
end Nv
namespace Go.Proofs
open Go.Shelf
shelf_lay_g SlLaysF0.n6 Slsf 6 at Tryz 39 as Tryz.sortL39
end Go.Proofs
namespace Nv
open Go Go.Proofs
theorem slices_SortFunc_api_Domain_api_Domain__topo_Build_1_ok (a0 : List TDomain) (r : List TDomain) (h : M.slices_SortFunc_api_Domain_api_Domain__topo_Build_1 a0 = some r) : FnM Tryz.prog 39 [.asl 0 0 a0.length, .fn 40 []] 4 a0.length (fun i => c_TDomain (a0.getD i default)) (fun i => c_TDomain (r.getD i default)) (.tup []) := by
 obtain ⟨cf, h1, h2, h3, h4, rfl⟩ := sortU_some h
 exact sortFR0 Tryz.sortL39 4 (fun w => by kernel_rfl) (fun w => by kernel_rfl) c_TDomain (fun _ => rfl) (fun _ => rfl) h2 40 (enters_of Tryz.func40 (by kernel_rfl) rfl) (fun x y => topo_Build_1_ok x y _ (h1 x y)) a0 h3 h4
theorem topo_Build_ok (a0 : TNetwork) (r : TTopology × Int) (h : M.topo_Build a0 = some r) : Fn Tryz.prog 12 [.agg (c_TNetwork a0)] (.pure (.tup [.agg (c_TTopology r.1), .int .i64 r.2])) := by
 let u3 := c_TNetwork a0
 unfold M.topo_Build at h
 refine fn_pure Tryz.func12 rfl (by kernel_rfl) (awp_seq (zg [1, 2] 2 (then_n (awp_seq (awp_seq ?_)))))
 obtain ⟨r1, q1, h2⟩ := bind_some h
 refine zr [1, 2, 4] 2 nil_all (rq1 (model_Check_ok _ _ q1) rqn) (then_n (awp_seq (zg [1, 2, 4, 12] 2 (then_n (cn h2 (fun _ h4 => ?_) (fun _ h5 => ?_))))))
 refine awp_seq (zg [2, 3] 2 (then_n (awp_ret (then_r ?_))))
 obtain rfl := Option.some.inj h4
 exact er (.tup [.agg [.sl false 4 0 (fun _ => []), .sl false 1 0 (fun _ => [])], .int .i64 r1]) (tup_sub (.cons (asub_agg (.cons csub_nil (.cons csub_nil .nil))) (.cons ASub.rfl .nil)))
 refine awp_skip (then_n (awp_seq ?_))
 obtain ⟨r2, q6, h7⟩ := bind_some h5
 refine rg [oL 4 c_TDomain r2] [2, 5] 3 ⟨45, [(2, .ref 1 0), (5, .asl 2 0 r2.length)], [.box u3, .box [.sl true 4 0 (fun _ => []), .sl true 1 0 (fun _ => [])], aL 4 c_TDomain r2]⟩ [] [⟨true, 38, [.agg u3], oL 4 c_TDomain r2⟩] nil_all ⟨fun _ => topo_collect_own a0 r2 q6, trivial⟩ (then_n (awp_seq ?_))
 obtain ⟨r3, q8, h9⟩ := bind_some h7
 let u1 : List Ob := [.box u3, .box [.sl true 4 0 (fun _ => []), .sl true 1 0 (fun _ => [])], aL 4 c_TDomain ([] : List TDomain), .box [sL 4 c_TDomain r3, .sl true 1 0 (fun _ => [])]]
 let u4 : Nat × D := (21, sL 4 c_TDomain r3)
 let u5 := (r3.length : Int)
 obtain ⟨c10, h11⟩ := gd_some h9
 refine rg [.lnd 0 0 (fun _ => []) (fun i => c_TDomain (r3.getD i default)) (.tup [])] [2, 5] 3 ⟨45, [(2, .ref 1 0), (5, .asl 2 0 r2.length)], [.box u3, .box [.sl true 4 0 (fun _ => []), .sl true 1 0 (fun _ => [])], .arr 4 r2.length (fun i => c_TDomain (r3.getD i default))]⟩ [] [⟨true, 39, [.asl 0 0 r2.length, .fn 40 []], .lnd 4 r2.length (fun i => c_TDomain (r2.getD i default)) (fun i => c_TDomain (r3.getD i default)) (.tup [])⟩] nil_all ⟨fun _ => slices_SortFunc_api_Domain_api_Domain__topo_Build_1_ok r2 r3 q8, trivial⟩ (then_le (s' := ⟨45, [(2, .ref 1 0), (5, .asl 2 0 r3.length)], [.box u3, .box [.sl true 4 0 (fun _ => []), .sl true 1 0 (fun _ => [])], aL 4 c_TDomain r3]⟩) (le_sub (.cons Sub.rfl (.cons (asl_len (len_eq (c10 _ List.mem_cons_self))) .nil)) (.cons .rfl (.cons .rfl (.cons (.arr (len_eq (c10 _ List.mem_cons_self)) (fun _ _ => rfl)) .nil)))) (awp_seq (awp_le (s' := ⟨45, [(2, .ref 1 0), (5, sL 4 c_TDomain r3)], [.box u3, .box [.sl true 4 0 (fun _ => []), .sl true 1 0 (fun _ => [])], aL 4 c_TDomain ([] : List TDomain)]⟩) (Le.trans (le_frz 5 2 4 c_TDomain r3 (fun i => c_TDomain (([] : List TDomain).getD i default)) (by kernel_rfl) (by kernel_rfl) (by kernel_rfl)) (kp [2, 5])) (zg [2, 5, 6] 4 (then_n (awp_seq (awp_seq (rg0 [2, 6, 21, 22, 23] 4 ⟨45, [(2, .ref 1 0), (6, .ref 3 0), u4, (22, .int .i64 u5), (23, .int .i64 0)], u1⟩ (then_n (awp_block (awp_le (s' := ⟨45, [(2, .ref 1 0), (6, .ref 3 0), u4, (22, .int .i64 u5), (23, .int .i64 0)], u1⟩) (le_rfl) (awp_le (s' := ⟨45, [(2, .ref 1 0), (6, .ref 3 0), u4, (22, .int .i64 u5), (23, .int .i64 0)], [.box u3, .box [.sl true 4 0 (fun _ => []), .sl true 1 0 (fun _ => [])], aL 4 c_TDomain ([] : List TDomain), .box [sL 4 c_TDomain r3, .asl 4 0 (([] : List Int).length)], aL 1 (ci .i64) ([] : List Int)]⟩) (le_thawb (nt := 45) (e := [(2, .ref 1 0), (6, .ref 3 0), u4, (22, .int .i64 u5), (23, .int .i64 0)]) (H := u1) (cells := [sL 4 c_TDomain r3, .sl true 1 0 (fun _ => [])]) (wd := 1) (f := fun _ => []) 3 1 rfl rfl 1 (fun i => (ci .i64) (([] : List Int).getD i default))) ?_))))))))))))
 obtain ⟨y8, q28, h29⟩ := bind_some h11
 let u2 : List (Nat × D) := [(2, .ref 1 0), (6, .ref 3 0), (42, .bool (decide ((y8.length : Int) > 12)))]
 refine zl (fun (p5 : (List Int) × Int) => ⟨45, [(2, .ref 1 0), (6, .ref 3 0), u4, (22, .int .i64 u5), (23, .int .i64 p5.2)], [.box u3, .box [.sl true 4 0 (fun _ => []), .sl true 1 0 (fun _ => [])], aL 4 c_TDomain ([] : List TDomain), .box [sL 4 c_TDomain r3, .asl 4 0 p5.1.length], aL 1 (ci .i64) p5.1]⟩) (fun z => OutE 0 (fun z => ⟨45, [(2, .ref 1 0), (6, .ref 3 0)], [.box u3, .box [.sl true 4 0 (fun _ => []), .sl true 1 0 (fun _ => [])], aL 4 c_TDomain ([] : List TDomain), .box [sL 4 c_TDomain r3, .asl 4 0 z.length], aL 1 (ci .i64) z]⟩) z) q28 ?_ ?_
 intro p5 y6 h15
 let u6 := p5.1.length + 1
 unfold M.topo_Build_l1 at h15
 refine awp_seq (rg0 [2, 6, 21, 22, 23, 24] 5 ⟨45, [(2, .ref 1 0), (6, .ref 3 0), u4, (22, .int .i64 u5), (23, .int .i64 p5.2), (24, .bool (decide (p5.2 < u5)))], [.box u3, .box [.sl true 4 0 (fun _ => []), .sl true 1 0 (fun _ => [])], aL 4 c_TDomain ([] : List TDomain), .box [sL 4 c_TDomain r3, .asl 4 0 p5.1.length], aL 1 (ci .i64) p5.1]⟩ (then_n (awp_seq (cn h15 (fun _ h17 => ?_) (fun _ h18 => ?_)))))
 refine awp_skip (then_n (awp_join (fun (p7 : (List Int)) => ⟨45, [(2, .ref 1 0), (6, .ref 3 0), u4, (22, .int .i64 u5), (23, .int .i64 p5.2)], [.box u3, .box [.sl true 4 0 (fun _ => []), .sl true 1 0 (fun _ => [])], aL 4 c_TDomain ([] : List TDomain), .box [sL 4 c_TDomain r3, .asl 4 0 p7.length], aL 1 (ci .i64) p7]⟩) (fun p7 => M.topo_Build_k1 p5 p7 = some y6) ?_ ?_))
 intro p7 h20
 unfold M.topo_Build_k1 at h20
 exact zg [2, 6, 21, 22, 23] 5 (rn h20)
 intro k19
 refine awp_block (awp_seq ?_)
 obtain ⟨c21, h22⟩ := gd_some h17
 refine zc [2, 6, 7, 8, 21, 22, 23] 6 c21 (then_n (awp_seq (zg [2, 6, 7, 21, 22, 23, 31] 5 (then_n (cn h22 (fun _ h24 => ?_) (fun _ h25 => ?_))))))
 obtain ⟨c26, h27⟩ := gd_some h24
 exact rgc [2, 6, 21, 22, 23] 5 ⟨45, [(2, .ref 1 0), (6, .ref 3 0), u4, (22, .int .i64 u5), (23, .int .i64 p5.2)], [.box u3, .box [.sl true 4 0 (fun _ => []), .sl true 1 0 (fun _ => [])], aL 4 c_TDomain ([] : List TDomain), .box [sL 4 c_TDomain r3, .asl 4 0 u6], .arr 1 u6 (app (fun i => (ci .i64) (p5.1.getD i default)) p5.1.length (fun i => List.take 1 (List.drop (i * 1) [.int .i64 p5.2])))]⟩ [decide (u6 * 8 ≤ 140737488355328)] c26 (inb_n (then_le (le_sub (.cons Sub.rfl (.cons Sub.rfl (.cons Sub.rfl (.cons Sub.rfl (.cons Sub.rfl .nil))))) (.cons .rfl (.cons .rfl (.cons .rfl (.cons (.box (.cons CSub.rfl (.cons (casl_len (len_snoc _ _)) .nil))) (.cons (.arr (len_snoc _ _) (app_snoc (ci .i64) p5.1 p5.2 _ rfl)) .nil)))))) (k19 (p5.1 ++ [p5.2]) h27)))
 exact awp_skip (inb_n (then_le kq (k19 p5.1 h25)))
 exact awp_exit (then_e (re h18 ⟨rfl, kq⟩))
 intro e30 s31 o32
 refine zi o32 (awp_seq (awp_seq (rg0 [2, 6, 42] 5 ⟨45, u2, [.box u3, .box [.sl true 4 0 (fun _ => []), .sl true 1 0 (fun _ => [])], aL 4 c_TDomain ([] : List TDomain), .box [sL 4 c_TDomain r3, .asl 4 0 y8.length], aL 1 (ci .i64) y8]⟩ (then_n (cn h29 (fun _ h35 => ?_) (fun _ h36 => ?_))))))
 refine awp_seq (zg [2, 3] 2 (then_n (awp_ret (then_r ?_))))
 obtain rfl := Option.some.inj h35
 exact er (.tup [.agg [.sl false 4 0 (fun _ => []), .sl false 1 0 (fun _ => [])], .int .i64 7]) (tup_sub (.cons (asub_agg (.cons csub_nil (.cons csub_nil .nil))) (.cons ASub.rfl .nil)))
 refine awp_skip (then_n (awp_seq (awp_le (s' := ⟨45, u2, [.box u3, .box [.sl true 4 0 (fun _ => []), .sl true 1 0 (fun _ => [])], aL 4 c_TDomain ([] : List TDomain), .box [sL 4 c_TDomain r3, .sl false 1 y8.length (fun k => (fun i => (ci .i64) (y8.getD i default)) (0 + k))], aL 1 (ci .i64) ([] : List Int)]⟩) (Le.trans ((le_frb (s := ⟨45, u2, [.box u3, .box [.sl true 4 0 (fun _ => []), .sl true 1 0 (fun _ => [])], aL 4 c_TDomain ([] : List TDomain), .box [sL 4 c_TDomain r3, .asl 4 0 y8.length], aL 1 (ci .i64) y8]⟩) (s' := ⟨45, u2, [.box u3, .box [.sl true 4 0 (fun _ => []), .sl true 1 0 (fun _ => [])], aL 4 c_TDomain ([] : List TDomain), .box [sL 4 c_TDomain r3, .sl false 1 y8.length (fun k => (fun i => (ci .i64) (y8.getD i default)) (0 + k))], aL 1 (ci .i64) ([] : List Int)]⟩) 4 1 y8.length (fun i => (ci .i64) (y8.getD i default)) (fun i => (ci .i64) (([] : List Int).getD i default)) (by kernel_rfl) (by kernel_rfl) (by kernel_rfl))) (kp [2, 6, 42])) (rg0 [2, 3] 2 ⟨45, [(2, .ref 1 0), (3, .int .i64 0)], [.box u3, .box [sL 4 c_TDomain r3, .sl false 1 y8.length (fun k => (fun i => (ci .i64) (y8.getD i default)) (0 + k))]]⟩ (then_le (s' := ⟨45, [(2, .ref 1 0), (3, .int .i64 0)], [.box u3, .box [sL 4 c_TDomain r3, sL 1 (ci .i64) y8]]⟩) (le_sub (.cons Sub.rfl (.cons Sub.rfl .nil)) (.cons .rfl (.cons (.box (.cons CSub.rfl (.cons (csub_sl rfl (own_ext (f := fun i => (ci .i64) (y8.getD i default)) (fun _ _ => rfl))) .nil))) .nil))) (awp_ret ?_))))))
 obtain rfl := Option.some.inj h36
 exact er0 (.tup [.agg [sL 4 c_TDomain r3, sL 1 (ci .i64) y8], .int .i64 0])
theorem law13_pair_ok  (r : TNetwork) (h : M.law13_pair  = some r) : Fn Tryz.prog 47 [] (.pure (.agg (c_TNetwork r))) := by
 unfold M.law13_pair at h
 refine fn_pure Tryz.func47 rfl (by kernel_rfl) (awp_seq (zg [0] 1 (then_n (awp_seq (zg [0] 1 (then_n (awp_ret ?_)))))))
 obtain rfl := Option.some.inj h
 exact er (.agg [.sl false 25 2 (fun i => List.take 25 (List.drop (i * 25) [.str (⟨#[97]⟩ : ByteArray), .int .i64 0, .sl true 12 1 (fun i => List.take 12 (List.drop (i * 12) [.str (⟨#[101, 48]⟩ : ByteArray), .int .u32 167772161, .int .i64 24, .int .i64 0, .bool false, .bool false, .int .i64 0, .int .i64 0, .bool false, .str (⟨#[]⟩ : ByteArray), .str (⟨#[]⟩ : ByteArray), .int .i64 0])), .sl true 2 0 (fun _ => []), .sl true 2 0 (fun _ => []), .sl true 2 0 (fun _ => []), .sl true 9 0 (fun _ => []), .sl true 7 0 (fun _ => []), .bool false, .int .i64 0, .sl true 3 0 (fun _ => []), .sl true 5 0 (fun _ => []), .bool false, .int .i64 0, .str (⟨#[]⟩ : ByteArray), .str (⟨#[]⟩ : ByteArray), .sl true 5 0 (fun _ => []), .bool false, .int .i64 0, .int .i64 0, .sl true 4 0 (fun _ => []), .sl true 2 0 (fun _ => []), .sl true 3 0 (fun _ => []), .sl true 5 0 (fun _ => []), .sl true 5 0 (fun _ => []), .str (⟨#[98]⟩ : ByteArray), .int .i64 0, .sl true 12 2 (fun i => List.take 12 (List.drop (i * 12) [.str (⟨#[101, 48]⟩ : ByteArray), .int .u32 167772162, .int .i64 24, .int .i64 0, .bool false, .bool false, .int .i64 0, .int .i64 0, .bool false, .str (⟨#[]⟩ : ByteArray), .str (⟨#[]⟩ : ByteArray), .int .i64 0, .str (⟨#[101, 49]⟩ : ByteArray), .int .u32 167772418, .int .i64 24, .int .i64 0, .bool false, .bool false, .int .i64 0, .int .i64 0, .bool false, .str (⟨#[]⟩ : ByteArray), .str (⟨#[]⟩ : ByteArray), .int .i64 0])), .sl true 2 0 (fun _ => []), .sl true 2 0 (fun _ => []), .sl true 2 0 (fun _ => []), .sl true 9 0 (fun _ => []), .sl true 7 0 (fun _ => []), .bool false, .int .i64 0, .sl true 3 0 (fun _ => []), .sl true 5 0 (fun _ => []), .bool false, .int .i64 0, .str (⟨#[]⟩ : ByteArray), .str (⟨#[]⟩ : ByteArray), .sl true 5 0 (fun _ => []), .bool false, .int .i64 0, .int .i64 0, .sl true 4 0 (fun _ => []), .sl true 2 0 (fun _ => []), .sl true 3 0 (fun _ => []), .sl true 5 0 (fun _ => []), .sl true 5 0 (fun _ => [])]))]) (sub_agg (.cons (csub_psl rfl (fun i hi => match i, hi with | 0, _ => (.cons PSub.rfl (.cons PSub.rfl (.cons (psub_sl rfl (fun i hi => match i, hi with | 0, _ => (.cons PSub.rfl (.cons PSub.rfl (.cons PSub.rfl (.cons PSub.rfl (.cons PSub.rfl (.cons PSub.rfl (.cons PSub.rfl (.cons PSub.rfl (.cons PSub.rfl (.cons PSub.rfl (.cons PSub.rfl (.cons PSub.rfl .nil)))))))))))) | n + 1, h => absurd h (by omega))) (.cons psub_nil (.cons psub_nil (.cons psub_nil (.cons psub_nil (.cons psub_nil (.cons PSub.rfl (.cons PSub.rfl (.cons psub_nil (.cons psub_nil (.cons PSub.rfl (.cons PSub.rfl (.cons PSub.rfl (.cons PSub.rfl (.cons psub_nil (.cons PSub.rfl (.cons PSub.rfl (.cons PSub.rfl (.cons psub_nil (.cons psub_nil (.cons psub_nil (.cons psub_nil (.cons psub_nil .nil))))))))))))))))))))))))) | 1, _ => (.cons PSub.rfl (.cons PSub.rfl (.cons (psub_sl rfl (fun i hi => match i, hi with | 0, _ => (.cons PSub.rfl (.cons PSub.rfl (.cons PSub.rfl (.cons PSub.rfl (.cons PSub.rfl (.cons PSub.rfl (.cons PSub.rfl (.cons PSub.rfl (.cons PSub.rfl (.cons PSub.rfl (.cons PSub.rfl (.cons PSub.rfl .nil)))))))))))) | 1, _ => (.cons PSub.rfl (.cons PSub.rfl (.cons PSub.rfl (.cons PSub.rfl (.cons PSub.rfl (.cons PSub.rfl (.cons PSub.rfl (.cons PSub.rfl (.cons PSub.rfl (.cons PSub.rfl (.cons PSub.rfl (.cons PSub.rfl .nil)))))))))))) | n + 2, h => absurd h (by omega))) (.cons psub_nil (.cons psub_nil (.cons psub_nil (.cons psub_nil (.cons psub_nil (.cons PSub.rfl (.cons PSub.rfl (.cons psub_nil (.cons psub_nil (.cons PSub.rfl (.cons PSub.rfl (.cons PSub.rfl (.cons PSub.rfl (.cons psub_nil (.cons PSub.rfl (.cons PSub.rfl (.cons PSub.rfl (.cons psub_nil (.cons psub_nil (.cons psub_nil (.cons psub_nil (.cons psub_nil .nil))))))))))))))))))))))))) | n + 2, h => absurd h (by omega))) .nil))
theorem slices_Clone_api_Router_api_Router_own (a0 : List TRouter) (r : List TRouter) (h : M.slices_Clone_api_Router_api_Router a0 = some r) : Fn Tryz.prog 68 [sL 25 c_TRouter a0] (oL 25 c_TRouter r) := by
 unfold M.slices_Clone_api_Router_api_Router at h
 obtain ⟨hc, h1⟩ := gd_some h
 obtain rfl := Option.some.inj h1
 refine fn_own Tryz.func68 rfl (by kernel_rfl) (awp_ends_le ?_)
 refine awp_seq (rg0 [0] 0 ⟨8, [(0, sL 25 c_TRouter a0)], []⟩ ?_)
 refine then_n (awp_seq (awp_seq (rg0 [0, 4] 0 ⟨8, [(0, sL 25 c_TRouter a0), (4, .nilq a0.length)], []⟩ ?_)))
 refine then_n (nq a0.length (fun hz => ?_) ?_)
 refine awp_seq (rg0 [2] 0 ⟨8, [(2, .sl true 25 0 (fun _ => []))], []⟩ ?_)
 refine then_n (awp_ret (then_r ?_))
 obtain rfl := List.eq_nil_of_length_eq_zero hz
 exact ⟨_, le_thaw (wd := 25) (f := fun _ => []) 2 (by kernel_rfl) 25 (fun i => c_TRouter (([] : List TRouter).getD i default)), .inr rfl, 2, 0, _, rfl, rfl, rfl, fun _ _ => rfl⟩
 refine awp_skip (then_n (awp_seq (rgc [2] 1 ⟨8, [(2, .asl 0 0 (0 + a0.length))], [.arr 25 (0 + a0.length) (app (fun i => List.take 25 (List.drop (i * 25) [])) 0 (fun i => c_TRouter (a0.getD i default)))]⟩ [decide (0 = 0) || decide (0 < a0.length), decide ((0 + a0.length) * 448 ≤ 140737488355328)] hc ?_)))
 refine then_n (awp_ret ?_)
 exact ⟨⟨8, [(2, .asl 0 0 a0.length)], [aL 25 c_TRouter a0]⟩, le_sub (.cons (asl_len (Nat.zero_add _)) .nil) (.cons (.arr (Nat.zero_add _) (app_nil c_TRouter _ a0 _ (fun _ _ => rfl))) .nil), .inr rfl, 2, 0, _, rfl, rfl, rfl, fun _ _ => rfl⟩
theorem slices_Clone_api_Interface_api_Interface_own (a0 : List TInterface) (r : List TInterface) (h : M.slices_Clone_api_Interface_api_Interface a0 = some r) : Fn Tryz.prog 113 [sL 12 c_TInterface a0] (oL 12 c_TInterface r) := by
 unfold M.slices_Clone_api_Interface_api_Interface at h
 obtain ⟨hc, h1⟩ := gd_some h
 obtain rfl := Option.some.inj h1
 refine fn_own Tryz.func113 rfl (by kernel_rfl) (awp_ends_le ?_)
 refine awp_seq (rg0 [0] 0 ⟨8, [(0, sL 12 c_TInterface a0)], []⟩ ?_)
 refine then_n (awp_seq (awp_seq (rg0 [0, 4] 0 ⟨8, [(0, sL 12 c_TInterface a0), (4, .nilq a0.length)], []⟩ ?_)))
 refine then_n (nq a0.length (fun hz => ?_) ?_)
 refine awp_seq (rg0 [2] 0 ⟨8, [(2, .sl true 12 0 (fun _ => []))], []⟩ ?_)
 refine then_n (awp_ret (then_r ?_))
 obtain rfl := List.eq_nil_of_length_eq_zero hz
 exact ⟨_, le_thaw (wd := 12) (f := fun _ => []) 2 (by kernel_rfl) 12 (fun i => c_TInterface (([] : List TInterface).getD i default)), .inr rfl, 2, 0, _, rfl, rfl, rfl, fun _ _ => rfl⟩
 refine awp_skip (then_n (awp_seq (rgc [2] 1 ⟨8, [(2, .asl 0 0 (0 + a0.length))], [.arr 12 (0 + a0.length) (app (fun i => List.take 12 (List.drop (i * 12) [])) 0 (fun i => c_TInterface (a0.getD i default)))]⟩ [decide (0 = 0) || decide (0 < a0.length), decide ((0 + a0.length) * 112 ≤ 140737488355328)] hc ?_)))
 refine then_n (awp_ret ?_)
 exact ⟨⟨8, [(2, .asl 0 0 a0.length)], [aL 12 c_TInterface a0]⟩, le_sub (.cons (asl_len (Nat.zero_add _)) .nil) (.cons (.arr (Nat.zero_add _) (app_nil c_TInterface _ a0 _ (fun _ _ => rfl))) .nil), .inr rfl, 2, 0, _, rfl, rfl, rfl, fun _ _ => rfl⟩
theorem slices_Clone_api_PrefixList_api_PrefixList_own (a0 : List TPrefixList) (r : List TPrefixList) (h : M.slices_Clone_api_PrefixList_api_PrefixList a0 = some r) : Fn Tryz.prog 114 [sL 2 c_TPrefixList a0] (oL 2 c_TPrefixList r) := by
 unfold M.slices_Clone_api_PrefixList_api_PrefixList at h
 obtain ⟨hc, h1⟩ := gd_some h
 obtain rfl := Option.some.inj h1
 refine fn_own Tryz.func114 rfl (by kernel_rfl) (awp_ends_le ?_)
 refine awp_seq (rg0 [0] 0 ⟨8, [(0, sL 2 c_TPrefixList a0)], []⟩ ?_)
 refine then_n (awp_seq (awp_seq (rg0 [0, 4] 0 ⟨8, [(0, sL 2 c_TPrefixList a0), (4, .nilq a0.length)], []⟩ ?_)))
 refine then_n (nq a0.length (fun hz => ?_) ?_)
 refine awp_seq (rg0 [2] 0 ⟨8, [(2, .sl true 2 0 (fun _ => []))], []⟩ ?_)
 refine then_n (awp_ret (then_r ?_))
 obtain rfl := List.eq_nil_of_length_eq_zero hz
 exact ⟨_, le_thaw (wd := 2) (f := fun _ => []) 2 (by kernel_rfl) 2 (fun i => c_TPrefixList (([] : List TPrefixList).getD i default)), .inr rfl, 2, 0, _, rfl, rfl, rfl, fun _ _ => rfl⟩
 refine awp_skip (then_n (awp_seq (rgc [2] 1 ⟨8, [(2, .asl 0 0 (0 + a0.length))], [.arr 2 (0 + a0.length) (app (fun i => List.take 2 (List.drop (i * 2) [])) 0 (fun i => c_TPrefixList (a0.getD i default)))]⟩ [decide (0 = 0) || decide (0 < a0.length), decide ((0 + a0.length) * 40 ≤ 140737488355328)] hc ?_)))
 refine then_n (awp_ret ?_)
 exact ⟨⟨8, [(2, .asl 0 0 a0.length)], [aL 2 c_TPrefixList a0]⟩, le_sub (.cons (asl_len (Nat.zero_add _)) .nil) (.cons (.arr (Nat.zero_add _) (app_nil c_TPrefixList _ a0 _ (fun _ _ => rfl))) .nil), .inr rfl, 2, 0, _, rfl, rfl, rfl, fun _ _ => rfl⟩
theorem slices_Clone_api_RouteMap_api_RouteMap_own (a0 : List TRouteMap) (r : List TRouteMap) (h : M.slices_Clone_api_RouteMap_api_RouteMap a0 = some r) : Fn Tryz.prog 116 [sL 2 c_TRouteMap a0] (oL 2 c_TRouteMap r) := by
 unfold M.slices_Clone_api_RouteMap_api_RouteMap at h
 obtain ⟨hc, h1⟩ := gd_some h
 obtain rfl := Option.some.inj h1
 refine fn_own Tryz.func116 rfl (by kernel_rfl) (awp_ends_le ?_)
 refine awp_seq (rg0 [0] 0 ⟨8, [(0, sL 2 c_TRouteMap a0)], []⟩ ?_)
 refine then_n (awp_seq (awp_seq (rg0 [0, 4] 0 ⟨8, [(0, sL 2 c_TRouteMap a0), (4, .nilq a0.length)], []⟩ ?_)))
 refine then_n (nq a0.length (fun hz => ?_) ?_)
 refine awp_seq (rg0 [2] 0 ⟨8, [(2, .sl true 2 0 (fun _ => []))], []⟩ ?_)
 refine then_n (awp_ret (then_r ?_))
 obtain rfl := List.eq_nil_of_length_eq_zero hz
 exact ⟨_, le_thaw (wd := 2) (f := fun _ => []) 2 (by kernel_rfl) 2 (fun i => c_TRouteMap (([] : List TRouteMap).getD i default)), .inr rfl, 2, 0, _, rfl, rfl, rfl, fun _ _ => rfl⟩
 refine awp_skip (then_n (awp_seq (rgc [2] 1 ⟨8, [(2, .asl 0 0 (0 + a0.length))], [.arr 2 (0 + a0.length) (app (fun i => List.take 2 (List.drop (i * 2) [])) 0 (fun i => c_TRouteMap (a0.getD i default)))]⟩ [decide (0 = 0) || decide (0 < a0.length), decide ((0 + a0.length) * 40 ≤ 140737488355328)] hc ?_)))
 refine then_n (awp_ret ?_)
 exact ⟨⟨8, [(2, .asl 0 0 a0.length)], [aL 2 c_TRouteMap a0]⟩, le_sub (.cons (asl_len (Nat.zero_add _)) .nil) (.cons (.arr (Nat.zero_add _) (app_nil c_TRouteMap _ a0 _ (fun _ _ => rfl))) .nil), .inr rfl, 2, 0, _, rfl, rfl, rfl, fun _ _ => rfl⟩
theorem slices_Clone_api_ACL_api_ACL_own (a0 : List TACL) (r : List TACL) (h : M.slices_Clone_api_ACL_api_ACL a0 = some r) : Fn Tryz.prog 118 [sL 2 c_TACL a0] (oL 2 c_TACL r) := by
 unfold M.slices_Clone_api_ACL_api_ACL at h
 obtain ⟨hc, h1⟩ := gd_some h
 obtain rfl := Option.some.inj h1
 refine fn_own Tryz.func118 rfl (by kernel_rfl) (awp_ends_le ?_)
 refine awp_seq (rg0 [0] 0 ⟨8, [(0, sL 2 c_TACL a0)], []⟩ ?_)
 refine then_n (awp_seq (awp_seq (rg0 [0, 4] 0 ⟨8, [(0, sL 2 c_TACL a0), (4, .nilq a0.length)], []⟩ ?_)))
 refine then_n (nq a0.length (fun hz => ?_) ?_)
 refine awp_seq (rg0 [2] 0 ⟨8, [(2, .sl true 2 0 (fun _ => []))], []⟩ ?_)
 refine then_n (awp_ret (then_r ?_))
 obtain rfl := List.eq_nil_of_length_eq_zero hz
 exact ⟨_, le_thaw (wd := 2) (f := fun _ => []) 2 (by kernel_rfl) 2 (fun i => c_TACL (([] : List TACL).getD i default)), .inr rfl, 2, 0, _, rfl, rfl, rfl, fun _ _ => rfl⟩
 refine awp_skip (then_n (awp_seq (rgc [2] 1 ⟨8, [(2, .asl 0 0 (0 + a0.length))], [.arr 2 (0 + a0.length) (app (fun i => List.take 2 (List.drop (i * 2) [])) 0 (fun i => c_TACL (a0.getD i default)))]⟩ [decide (0 = 0) || decide (0 < a0.length), decide ((0 + a0.length) * 40 ≤ 140737488355328)] hc ?_)))
 refine then_n (awp_ret ?_)
 exact ⟨⟨8, [(2, .asl 0 0 a0.length)], [aL 2 c_TACL a0]⟩, le_sub (.cons (asl_len (Nat.zero_add _)) .nil) (.cons (.arr (Nat.zero_add _) (app_nil c_TACL _ a0 _ (fun _ _ => rfl))) .nil), .inr rfl, 2, 0, _, rfl, rfl, rfl, fun _ _ => rfl⟩
theorem slices_Clone_api_Translation_api_Translation_ok (a0 : List TTranslation) (r : List TTranslation) (h : M.slices_Clone_api_Translation_api_Translation a0 = some r) : Fn Tryz.prog 120 [sL 9 c_TTranslation a0] (.pure (sL 9 c_TTranslation r)) := by
 unfold M.slices_Clone_api_Translation_api_Translation at h
 obtain ⟨hc, h1⟩ := gd_some h
 obtain rfl := Option.some.inj h1
 refine fn_pure Tryz.func120 rfl (by kernel_rfl) (awp_seq (zg [0] 0 (then_n (awp_seq (awp_seq (zg [0, 4] 0 (then_n (nq a0.length (fun hz => ?_) ?_))))))))
 exact awp_seq (zg [2] 0 (then_n (awp_ret (then_r (er (.sl false 9 0 (fun _ => [])) (sub_nil0 hz))))))
 exact awp_skip (then_n (awp_seq (zc [2] 1 hc (then_n (awp_ret (er (.sl false 9 (0 + a0.length) (fun i => (app (fun i => List.take 9 (List.drop (i * 9) [])) 0 (fun i => c_TTranslation (a0.getD i default))) (0 + i))) (sub_sl (Nat.zero_add _) (fun i hi => by rw [Nat.zero_add]; exact app_nil c_TTranslation _ a0 _ (fun _ _ => rfl) i hi))))))))
theorem slices_Clone_api_StaticRoute_api_StaticRoute_ok (a0 : List TStaticRoute) (r : List TStaticRoute) (h : M.slices_Clone_api_StaticRoute_api_StaticRoute a0 = some r) : Fn Tryz.prog 121 [sL 7 c_TStaticRoute a0] (.pure (sL 7 c_TStaticRoute r)) := by
 unfold M.slices_Clone_api_StaticRoute_api_StaticRoute at h
 obtain ⟨hc, h1⟩ := gd_some h
 obtain rfl := Option.some.inj h1
 refine fn_pure Tryz.func121 rfl (by kernel_rfl) (awp_seq (zg [0] 0 (then_n (awp_seq (awp_seq (zg [0, 4] 0 (then_n (nq a0.length (fun hz => ?_) ?_))))))))
 exact awp_seq (zg [2] 0 (then_n (awp_ret (then_r (er (.sl false 7 0 (fun _ => [])) (sub_nil0 hz))))))
 exact awp_skip (then_n (awp_seq (zc [2] 1 hc (then_n (awp_ret (er (.sl false 7 (0 + a0.length) (fun i => (app (fun i => List.take 7 (List.drop (i * 7) [])) 0 (fun i => c_TStaticRoute (a0.getD i default))) (0 + i))) (sub_sl (Nat.zero_add _) (fun i hi => by rw [Nat.zero_add]; exact app_nil c_TStaticRoute _ a0 _ (fun _ _ => rfl) i hi))))))))
theorem slices_Clone_api_AreaRange_api_AreaRange_ok (a0 : List TAreaRange) (r : List TAreaRange) (h : M.slices_Clone_api_AreaRange_api_AreaRange a0 = some r) : Fn Tryz.prog 122 [sL 3 c_TAreaRange a0] (.pure (sL 3 c_TAreaRange r)) := by
 unfold M.slices_Clone_api_AreaRange_api_AreaRange at h
 obtain ⟨hc, h1⟩ := gd_some h
 obtain rfl := Option.some.inj h1
 refine fn_pure Tryz.func122 rfl (by kernel_rfl) (awp_seq (zg [0] 0 (then_n (awp_seq (awp_seq (zg [0, 4] 0 (then_n (nq a0.length (fun hz => ?_) ?_))))))))
 exact awp_seq (zg [2] 0 (then_n (awp_ret (then_r (er (.sl false 3 0 (fun _ => [])) (sub_nil0 hz))))))
 exact awp_skip (then_n (awp_seq (zc [2] 1 hc (then_n (awp_ret (er (.sl false 3 (0 + a0.length) (fun i => (app (fun i => List.take 3 (List.drop (i * 3) [])) 0 (fun i => c_TAreaRange (a0.getD i default))) (0 + i))) (sub_sl (Nat.zero_add _) (fun i hi => by rw [Nat.zero_add]; exact app_nil c_TAreaRange _ a0 _ (fun _ _ => rfl) i hi))))))))
theorem slices_Clone_api_Redist_api_Redist_ok (a0 : List TRedist) (r : List TRedist) (h : M.slices_Clone_api_Redist_api_Redist a0 = some r) : Fn Tryz.prog 123 [sL 5 c_TRedist a0] (.pure (sL 5 c_TRedist r)) := by
 unfold M.slices_Clone_api_Redist_api_Redist at h
 obtain ⟨hc, h1⟩ := gd_some h
 obtain rfl := Option.some.inj h1
 refine fn_pure Tryz.func123 rfl (by kernel_rfl) (awp_seq (zg [0] 0 (then_n (awp_seq (awp_seq (zg [0, 4] 0 (then_n (nq a0.length (fun hz => ?_) ?_))))))))
 exact awp_seq (zg [2] 0 (then_n (awp_ret (then_r (er (.sl false 5 0 (fun _ => [])) (sub_nil0 hz))))))
 exact awp_skip (then_n (awp_seq (zc [2] 1 hc (then_n (awp_ret (er (.sl false 5 (0 + a0.length) (fun i => (app (fun i => List.take 5 (List.drop (i * 5) [])) 0 (fun i => c_TRedist (a0.getD i default))) (0 + i))) (sub_sl (Nat.zero_add _) (fun i hi => by rw [Nat.zero_add]; exact app_nil c_TRedist _ a0 _ (fun _ _ => rfl) i hi))))))))
theorem slices_Clone_api_Neighbor_api_Neighbor_ok (a0 : List TNeighbor) (r : List TNeighbor) (h : M.slices_Clone_api_Neighbor_api_Neighbor a0 = some r) : Fn Tryz.prog 124 [sL 4 c_TNeighbor a0] (.pure (sL 4 c_TNeighbor r)) := by
 unfold M.slices_Clone_api_Neighbor_api_Neighbor at h
 obtain ⟨hc, h1⟩ := gd_some h
 obtain rfl := Option.some.inj h1
 refine fn_pure Tryz.func124 rfl (by kernel_rfl) (awp_seq (zg [0] 0 (then_n (awp_seq (awp_seq (zg [0, 4] 0 (then_n (nq a0.length (fun hz => ?_) ?_))))))))
 exact awp_seq (zg [2] 0 (then_n (awp_ret (then_r (er (.sl false 4 0 (fun _ => [])) (sub_nil0 hz))))))
 exact awp_skip (then_n (awp_seq (zc [2] 1 hc (then_n (awp_ret (er (.sl false 4 (0 + a0.length) (fun i => (app (fun i => List.take 4 (List.drop (i * 4) [])) 0 (fun i => c_TNeighbor (a0.getD i default))) (0 + i))) (sub_sl (Nat.zero_add _) (fun i hi => by rw [Nat.zero_add]; exact app_nil c_TNeighbor _ a0 _ (fun _ _ => rfl) i hi))))))))
theorem slices_Clone_api_Prefix_api_Prefix_ok (a0 : List TPrefix) (r : List TPrefix) (h : M.slices_Clone_api_Prefix_api_Prefix a0 = some r) : Fn Tryz.prog 125 [sL 2 c_TPrefix a0] (.pure (sL 2 c_TPrefix r)) := by
 unfold M.slices_Clone_api_Prefix_api_Prefix at h
 obtain ⟨hc, h1⟩ := gd_some h
 obtain rfl := Option.some.inj h1
 refine fn_pure Tryz.func125 rfl (by kernel_rfl) (awp_seq (zg [0] 0 (then_n (awp_seq (awp_seq (zg [0, 4] 0 (then_n (nq a0.length (fun hz => ?_) ?_))))))))
 exact awp_seq (zg [2] 0 (then_n (awp_ret (then_r (er (.sl false 2 0 (fun _ => [])) (sub_nil0 hz))))))
 exact awp_skip (then_n (awp_seq (zc [2] 1 hc (then_n (awp_ret (er (.sl false 2 (0 + a0.length) (fun i => (app (fun i => List.take 2 (List.drop (i * 2) [])) 0 (fun i => c_TPrefix (a0.getD i default))) (0 + i))) (sub_sl (Nat.zero_add _) (fun i hi => by rw [Nat.zero_add]; exact app_nil c_TPrefix _ a0 _ (fun _ _ => rfl) i hi))))))))
theorem slices_Clone_api_Aggregate_api_Aggregate_ok (a0 : List TAggregate) (r : List TAggregate) (h : M.slices_Clone_api_Aggregate_api_Aggregate a0 = some r) : Fn Tryz.prog 126 [sL 3 c_TAggregate a0] (.pure (sL 3 c_TAggregate r)) := by
 unfold M.slices_Clone_api_Aggregate_api_Aggregate at h
 obtain ⟨hc, h1⟩ := gd_some h
 obtain rfl := Option.some.inj h1
 refine fn_pure Tryz.func126 rfl (by kernel_rfl) (awp_seq (zg [0] 0 (then_n (awp_seq (awp_seq (zg [0, 4] 0 (then_n (nq a0.length (fun hz => ?_) ?_))))))))
 exact awp_seq (zg [2] 0 (then_n (awp_ret (then_r (er (.sl false 3 0 (fun _ => [])) (sub_nil0 hz))))))
 exact awp_skip (then_n (awp_seq (zc [2] 1 hc (then_n (awp_ret (er (.sl false 3 (0 + a0.length) (fun i => (app (fun i => List.take 3 (List.drop (i * 3) [])) 0 (fun i => c_TAggregate (a0.getD i default))) (0 + i))) (sub_sl (Nat.zero_add _) (fun i hi => by rw [Nat.zero_add]; exact app_nil c_TAggregate _ a0 _ (fun _ _ => rfl) i hi))))))))
theorem slices_Clone_api_Condition_api_Condition_ok (a0 : List TCondition) (r : List TCondition) (h : M.slices_Clone_api_Condition_api_Condition a0 = some r) : Fn Tryz.prog 127 [sL 5 c_TCondition a0] (.pure (sL 5 c_TCondition r)) := by
 unfold M.slices_Clone_api_Condition_api_Condition at h
 obtain ⟨hc, h1⟩ := gd_some h
 obtain rfl := Option.some.inj h1
 refine fn_pure Tryz.func127 rfl (by kernel_rfl) (awp_seq (zg [0] 0 (then_n (awp_seq (awp_seq (zg [0, 4] 0 (then_n (nq a0.length (fun hz => ?_) ?_))))))))
 exact awp_seq (zg [2] 0 (then_n (awp_ret (then_r (er (.sl false 5 0 (fun _ => [])) (sub_nil0 hz))))))
 exact awp_skip (then_n (awp_seq (zc [2] 1 hc (then_n (awp_ret (er (.sl false 5 (0 + a0.length) (fun i => (app (fun i => List.take 5 (List.drop (i * 5) [])) 0 (fun i => c_TCondition (a0.getD i default))) (0 + i))) (sub_sl (Nat.zero_add _) (fun i hi => by rw [Nat.zero_add]; exact app_nil c_TCondition _ a0 _ (fun _ _ => rfl) i hi))))))))
theorem topo_copyRouter_ok (a0 : TRouter) (r : TRouter) (h : M.topo_copyRouter a0 = some r) : Fn Tryz.prog 69 [.agg (c_TRouter a0)] (.pure (.agg (c_TRouter r))) := by
 let u1 : List (Nat × D) := [(1, .ref 0 0), (2, .ref 1 0)]
 unfold M.topo_copyRouter at h
 refine fn_pure Tryz.func69 rfl (by kernel_rfl) (awp_seq (zg [1, 2] 2 (then_n (awp_seq ?_))))
 obtain ⟨r1, q1, h2⟩ := bind_some h
 refine rg [oL 12 c_TInterface r1] [1, 2] 3 ⟨136, u1, [.box [.str a0.fName, .int .i64 a0.fAS, .asl 2 0 r1.length, sL 2 c_TPrefixList a0.fLists, sL 2 c_TRouteMap a0.fMaps, sL 2 c_TACL a0.fACLs, sL 9 c_TTranslation a0.fNAT, sL 7 c_TStaticRoute a0.fStatics, .bool a0.fLS.fOn, .int .i64 a0.fLS.fAdmin, sL 3 c_TAreaRange a0.fLS.fRanges, sL 5 c_TRedist a0.fLS.fRedist, .bool a0.fDV.fOn, .int .i64 a0.fDV.fAdmin, .str a0.fDV.fIn, .str a0.fDV.fOut, sL 5 c_TRedist a0.fDV.fRedist, .bool a0.fPV.fOn, .int .i64 a0.fPV.fExternal, .int .i64 a0.fPV.fInternal, sL 4 c_TNeighbor a0.fPV.fNeighbors, sL 2 c_TPrefix a0.fPV.fNetworks, sL 3 c_TAggregate a0.fPV.fAggregates, sL 5 c_TCondition a0.fPV.fConditions, sL 5 c_TRedist a0.fPV.fRedist], .box [.str (⟨#[]⟩ : ByteArray), .int .i64 0, .sl true 12 0 (fun _ => []), .sl true 2 0 (fun _ => []), .sl true 2 0 (fun _ => []), .sl true 2 0 (fun _ => []), .sl true 9 0 (fun _ => []), .sl true 7 0 (fun _ => []), .bool false, .int .i64 0, .sl true 3 0 (fun _ => []), .sl true 5 0 (fun _ => []), .bool false, .int .i64 0, .str (⟨#[]⟩ : ByteArray), .str (⟨#[]⟩ : ByteArray), .sl true 5 0 (fun _ => []), .bool false, .int .i64 0, .int .i64 0, .sl true 4 0 (fun _ => []), .sl true 2 0 (fun _ => []), .sl true 3 0 (fun _ => []), .sl true 5 0 (fun _ => []), .sl true 5 0 (fun _ => [])], aL 12 c_TInterface r1]⟩ [] [⟨true, 113, [sL 12 c_TInterface a0.fInterfaces], oL 12 c_TInterface r1⟩] nil_all ⟨fun _ => slices_Clone_api_Interface_api_Interface_own a0.fInterfaces r1 q1, trivial⟩ (then_n (awp_seq ?_))
 obtain ⟨r2, q3, h4⟩ := bind_some h2
 refine rg [oL 2 c_TPrefixList r2] [1, 2] 4 ⟨136, u1, [.box [.str a0.fName, .int .i64 a0.fAS, .asl 2 0 r1.length, .asl 3 0 r2.length, sL 2 c_TRouteMap a0.fMaps, sL 2 c_TACL a0.fACLs, sL 9 c_TTranslation a0.fNAT, sL 7 c_TStaticRoute a0.fStatics, .bool a0.fLS.fOn, .int .i64 a0.fLS.fAdmin, sL 3 c_TAreaRange a0.fLS.fRanges, sL 5 c_TRedist a0.fLS.fRedist, .bool a0.fDV.fOn, .int .i64 a0.fDV.fAdmin, .str a0.fDV.fIn, .str a0.fDV.fOut, sL 5 c_TRedist a0.fDV.fRedist, .bool a0.fPV.fOn, .int .i64 a0.fPV.fExternal, .int .i64 a0.fPV.fInternal, sL 4 c_TNeighbor a0.fPV.fNeighbors, sL 2 c_TPrefix a0.fPV.fNetworks, sL 3 c_TAggregate a0.fPV.fAggregates, sL 5 c_TCondition a0.fPV.fConditions, sL 5 c_TRedist a0.fPV.fRedist], .box [.str (⟨#[]⟩ : ByteArray), .int .i64 0, .sl true 12 0 (fun _ => []), .sl true 2 0 (fun _ => []), .sl true 2 0 (fun _ => []), .sl true 2 0 (fun _ => []), .sl true 9 0 (fun _ => []), .sl true 7 0 (fun _ => []), .bool false, .int .i64 0, .sl true 3 0 (fun _ => []), .sl true 5 0 (fun _ => []), .bool false, .int .i64 0, .str (⟨#[]⟩ : ByteArray), .str (⟨#[]⟩ : ByteArray), .sl true 5 0 (fun _ => []), .bool false, .int .i64 0, .int .i64 0, .sl true 4 0 (fun _ => []), .sl true 2 0 (fun _ => []), .sl true 3 0 (fun _ => []), .sl true 5 0 (fun _ => []), .sl true 5 0 (fun _ => [])], aL 12 c_TInterface r1, aL 2 c_TPrefixList r2]⟩ [] [⟨true, 114, [sL 2 c_TPrefixList a0.fLists], oL 2 c_TPrefixList r2⟩] nil_all ⟨fun _ => slices_Clone_api_PrefixList_api_PrefixList_own a0.fLists r2 q3, trivial⟩ (then_n (awp_seq (awp_seq (zg [1, 2, 16, 17] 4 (then_n (awp_block ?_))))))
 obtain ⟨y5, q9, h10⟩ := bind_some h4
 refine zl (fun (p3 : Int) => ⟨136, [(1, .ref 0 0), (2, .ref 1 0), (16, .int .i64 (r2.length : Int)), (17, .int .i64 p3)], [.box [.str a0.fName, .int .i64 a0.fAS, .asl 2 0 r1.length, .asl 3 0 r2.length, sL 2 c_TRouteMap a0.fMaps, sL 2 c_TACL a0.fACLs, sL 9 c_TTranslation a0.fNAT, sL 7 c_TStaticRoute a0.fStatics, .bool a0.fLS.fOn, .int .i64 a0.fLS.fAdmin, sL 3 c_TAreaRange a0.fLS.fRanges, sL 5 c_TRedist a0.fLS.fRedist, .bool a0.fDV.fOn, .int .i64 a0.fDV.fAdmin, .str a0.fDV.fIn, .str a0.fDV.fOut, sL 5 c_TRedist a0.fDV.fRedist, .bool a0.fPV.fOn, .int .i64 a0.fPV.fExternal, .int .i64 a0.fPV.fInternal, sL 4 c_TNeighbor a0.fPV.fNeighbors, sL 2 c_TPrefix a0.fPV.fNetworks, sL 3 c_TAggregate a0.fPV.fAggregates, sL 5 c_TCondition a0.fPV.fConditions, sL 5 c_TRedist a0.fPV.fRedist], .box [.str (⟨#[]⟩ : ByteArray), .int .i64 0, .sl true 12 0 (fun _ => []), .sl true 2 0 (fun _ => []), .sl true 2 0 (fun _ => []), .sl true 2 0 (fun _ => []), .sl true 9 0 (fun _ => []), .sl true 7 0 (fun _ => []), .bool false, .int .i64 0, .sl true 3 0 (fun _ => []), .sl true 5 0 (fun _ => []), .bool false, .int .i64 0, .str (⟨#[]⟩ : ByteArray), .str (⟨#[]⟩ : ByteArray), .sl true 5 0 (fun _ => []), .bool false, .int .i64 0, .int .i64 0, .sl true 4 0 (fun _ => []), .sl true 2 0 (fun _ => []), .sl true 3 0 (fun _ => []), .sl true 5 0 (fun _ => []), .sl true 5 0 (fun _ => [])], aL 12 c_TInterface r1, aL 2 c_TPrefixList r2]⟩) (fun z => OutE 0 (fun z => ⟨136, u1, [.box [.str a0.fName, .int .i64 a0.fAS, .asl 2 0 r1.length, .asl 3 0 r2.length, sL 2 c_TRouteMap a0.fMaps, sL 2 c_TACL a0.fACLs, sL 9 c_TTranslation a0.fNAT, sL 7 c_TStaticRoute a0.fStatics, .bool a0.fLS.fOn, .int .i64 a0.fLS.fAdmin, sL 3 c_TAreaRange a0.fLS.fRanges, sL 5 c_TRedist a0.fLS.fRedist, .bool a0.fDV.fOn, .int .i64 a0.fDV.fAdmin, .str a0.fDV.fIn, .str a0.fDV.fOut, sL 5 c_TRedist a0.fDV.fRedist, .bool a0.fPV.fOn, .int .i64 a0.fPV.fExternal, .int .i64 a0.fPV.fInternal, sL 4 c_TNeighbor a0.fPV.fNeighbors, sL 2 c_TPrefix a0.fPV.fNetworks, sL 3 c_TAggregate a0.fPV.fAggregates, sL 5 c_TCondition a0.fPV.fConditions, sL 5 c_TRedist a0.fPV.fRedist], .box [.str (⟨#[]⟩ : ByteArray), .int .i64 0, .sl true 12 0 (fun _ => []), .sl true 2 0 (fun _ => []), .sl true 2 0 (fun _ => []), .sl true 2 0 (fun _ => []), .sl true 9 0 (fun _ => []), .sl true 7 0 (fun _ => []), .bool false, .int .i64 0, .sl true 3 0 (fun _ => []), .sl true 5 0 (fun _ => []), .bool false, .int .i64 0, .str (⟨#[]⟩ : ByteArray), .str (⟨#[]⟩ : ByteArray), .sl true 5 0 (fun _ => []), .bool false, .int .i64 0, .int .i64 0, .sl true 4 0 (fun _ => []), .sl true 2 0 (fun _ => []), .sl true 3 0 (fun _ => []), .sl true 5 0 (fun _ => []), .sl true 5 0 (fun _ => [])], aL 12 c_TInterface r1, aL 2 c_TPrefixList r2]⟩) z) q9 ?_ ?_
 intro p3 y4 h5
 unfold M.topo_copyRouter_l1 at h5
 refine awp_seq (zg [1, 2, 16, 17, 18] 4 (then_n (awp_seq (cn h5 (fun _ h7 => ?_) (fun _ h8 => ?_)))))
 refine awp_skip (then_n (awp_seq (awp_block (awp_seq ?_))))
 cases h7
 exact awp_exit (then_e (re h8 ⟨rfl, kq⟩))
 intro e11 s12 o13
 refine zi o13 (awp_seq (awp_le (s' := ⟨136, u1, [.box [.str a0.fName, .int .i64 a0.fAS, .sl false 12 r1.length (fun k => (fun i => c_TInterface (r1.getD i default)) (0 + k)), .sl false 2 r2.length (fun k => (fun i => c_TPrefixList (r2.getD i default)) (0 + k)), sL 2 c_TRouteMap a0.fMaps, sL 2 c_TACL a0.fACLs, sL 9 c_TTranslation a0.fNAT, sL 7 c_TStaticRoute a0.fStatics, .bool a0.fLS.fOn, .int .i64 a0.fLS.fAdmin, sL 3 c_TAreaRange a0.fLS.fRanges, sL 5 c_TRedist a0.fLS.fRedist, .bool a0.fDV.fOn, .int .i64 a0.fDV.fAdmin, .str a0.fDV.fIn, .str a0.fDV.fOut, sL 5 c_TRedist a0.fDV.fRedist, .bool a0.fPV.fOn, .int .i64 a0.fPV.fExternal, .int .i64 a0.fPV.fInternal, sL 4 c_TNeighbor a0.fPV.fNeighbors, sL 2 c_TPrefix a0.fPV.fNetworks, sL 3 c_TAggregate a0.fPV.fAggregates, sL 5 c_TCondition a0.fPV.fConditions, sL 5 c_TRedist a0.fPV.fRedist], .box [.str (⟨#[]⟩ : ByteArray), .int .i64 0, .sl true 12 0 (fun _ => []), .sl true 2 0 (fun _ => []), .sl true 2 0 (fun _ => []), .sl true 2 0 (fun _ => []), .sl true 9 0 (fun _ => []), .sl true 7 0 (fun _ => []), .bool false, .int .i64 0, .sl true 3 0 (fun _ => []), .sl true 5 0 (fun _ => []), .bool false, .int .i64 0, .str (⟨#[]⟩ : ByteArray), .str (⟨#[]⟩ : ByteArray), .sl true 5 0 (fun _ => []), .bool false, .int .i64 0, .int .i64 0, .sl true 4 0 (fun _ => []), .sl true 2 0 (fun _ => []), .sl true 3 0 (fun _ => []), .sl true 5 0 (fun _ => []), .sl true 5 0 (fun _ => [])], aL 12 c_TInterface ([] : List TInterface), aL 2 c_TPrefixList ([] : List TPrefixList)]⟩) (Le.trans ((Le.trans (le_frb (s := ⟨136, u1, [.box [.str a0.fName, .int .i64 a0.fAS, .asl 2 0 r1.length, .asl 3 0 r2.length, sL 2 c_TRouteMap a0.fMaps, sL 2 c_TACL a0.fACLs, sL 9 c_TTranslation a0.fNAT, sL 7 c_TStaticRoute a0.fStatics, .bool a0.fLS.fOn, .int .i64 a0.fLS.fAdmin, sL 3 c_TAreaRange a0.fLS.fRanges, sL 5 c_TRedist a0.fLS.fRedist, .bool a0.fDV.fOn, .int .i64 a0.fDV.fAdmin, .str a0.fDV.fIn, .str a0.fDV.fOut, sL 5 c_TRedist a0.fDV.fRedist, .bool a0.fPV.fOn, .int .i64 a0.fPV.fExternal, .int .i64 a0.fPV.fInternal, sL 4 c_TNeighbor a0.fPV.fNeighbors, sL 2 c_TPrefix a0.fPV.fNetworks, sL 3 c_TAggregate a0.fPV.fAggregates, sL 5 c_TCondition a0.fPV.fConditions, sL 5 c_TRedist a0.fPV.fRedist], .box [.str (⟨#[]⟩ : ByteArray), .int .i64 0, .sl true 12 0 (fun _ => []), .sl true 2 0 (fun _ => []), .sl true 2 0 (fun _ => []), .sl true 2 0 (fun _ => []), .sl true 9 0 (fun _ => []), .sl true 7 0 (fun _ => []), .bool false, .int .i64 0, .sl true 3 0 (fun _ => []), .sl true 5 0 (fun _ => []), .bool false, .int .i64 0, .str (⟨#[]⟩ : ByteArray), .str (⟨#[]⟩ : ByteArray), .sl true 5 0 (fun _ => []), .bool false, .int .i64 0, .int .i64 0, .sl true 4 0 (fun _ => []), .sl true 2 0 (fun _ => []), .sl true 3 0 (fun _ => []), .sl true 5 0 (fun _ => []), .sl true 5 0 (fun _ => [])], aL 12 c_TInterface r1, aL 2 c_TPrefixList r2]⟩) (s' := ⟨136, u1, [.box [.str a0.fName, .int .i64 a0.fAS, .sl false 12 r1.length (fun k => (fun i => c_TInterface (r1.getD i default)) (0 + k)), .asl 3 0 r2.length, sL 2 c_TRouteMap a0.fMaps, sL 2 c_TACL a0.fACLs, sL 9 c_TTranslation a0.fNAT, sL 7 c_TStaticRoute a0.fStatics, .bool a0.fLS.fOn, .int .i64 a0.fLS.fAdmin, sL 3 c_TAreaRange a0.fLS.fRanges, sL 5 c_TRedist a0.fLS.fRedist, .bool a0.fDV.fOn, .int .i64 a0.fDV.fAdmin, .str a0.fDV.fIn, .str a0.fDV.fOut, sL 5 c_TRedist a0.fDV.fRedist, .bool a0.fPV.fOn, .int .i64 a0.fPV.fExternal, .int .i64 a0.fPV.fInternal, sL 4 c_TNeighbor a0.fPV.fNeighbors, sL 2 c_TPrefix a0.fPV.fNetworks, sL 3 c_TAggregate a0.fPV.fAggregates, sL 5 c_TCondition a0.fPV.fConditions, sL 5 c_TRedist a0.fPV.fRedist], .box [.str (⟨#[]⟩ : ByteArray), .int .i64 0, .sl true 12 0 (fun _ => []), .sl true 2 0 (fun _ => []), .sl true 2 0 (fun _ => []), .sl true 2 0 (fun _ => []), .sl true 9 0 (fun _ => []), .sl true 7 0 (fun _ => []), .bool false, .int .i64 0, .sl true 3 0 (fun _ => []), .sl true 5 0 (fun _ => []), .bool false, .int .i64 0, .str (⟨#[]⟩ : ByteArray), .str (⟨#[]⟩ : ByteArray), .sl true 5 0 (fun _ => []), .bool false, .int .i64 0, .int .i64 0, .sl true 4 0 (fun _ => []), .sl true 2 0 (fun _ => []), .sl true 3 0 (fun _ => []), .sl true 5 0 (fun _ => []), .sl true 5 0 (fun _ => [])], aL 12 c_TInterface ([] : List TInterface), aL 2 c_TPrefixList r2]⟩) 2 12 r1.length (fun i => c_TInterface (r1.getD i default)) (fun i => c_TInterface (([] : List TInterface).getD i default)) (by kernel_rfl) (by kernel_rfl) (by kernel_rfl)) (le_frb (s := ⟨136, u1, [.box [.str a0.fName, .int .i64 a0.fAS, .sl false 12 r1.length (fun k => (fun i => c_TInterface (r1.getD i default)) (0 + k)), .asl 3 0 r2.length, sL 2 c_TRouteMap a0.fMaps, sL 2 c_TACL a0.fACLs, sL 9 c_TTranslation a0.fNAT, sL 7 c_TStaticRoute a0.fStatics, .bool a0.fLS.fOn, .int .i64 a0.fLS.fAdmin, sL 3 c_TAreaRange a0.fLS.fRanges, sL 5 c_TRedist a0.fLS.fRedist, .bool a0.fDV.fOn, .int .i64 a0.fDV.fAdmin, .str a0.fDV.fIn, .str a0.fDV.fOut, sL 5 c_TRedist a0.fDV.fRedist, .bool a0.fPV.fOn, .int .i64 a0.fPV.fExternal, .int .i64 a0.fPV.fInternal, sL 4 c_TNeighbor a0.fPV.fNeighbors, sL 2 c_TPrefix a0.fPV.fNetworks, sL 3 c_TAggregate a0.fPV.fAggregates, sL 5 c_TCondition a0.fPV.fConditions, sL 5 c_TRedist a0.fPV.fRedist], .box [.str (⟨#[]⟩ : ByteArray), .int .i64 0, .sl true 12 0 (fun _ => []), .sl true 2 0 (fun _ => []), .sl true 2 0 (fun _ => []), .sl true 2 0 (fun _ => []), .sl true 9 0 (fun _ => []), .sl true 7 0 (fun _ => []), .bool false, .int .i64 0, .sl true 3 0 (fun _ => []), .sl true 5 0 (fun _ => []), .bool false, .int .i64 0, .str (⟨#[]⟩ : ByteArray), .str (⟨#[]⟩ : ByteArray), .sl true 5 0 (fun _ => []), .bool false, .int .i64 0, .int .i64 0, .sl true 4 0 (fun _ => []), .sl true 2 0 (fun _ => []), .sl true 3 0 (fun _ => []), .sl true 5 0 (fun _ => []), .sl true 5 0 (fun _ => [])], aL 12 c_TInterface ([] : List TInterface), aL 2 c_TPrefixList r2]⟩) (s' := ⟨136, u1, [.box [.str a0.fName, .int .i64 a0.fAS, .sl false 12 r1.length (fun k => (fun i => c_TInterface (r1.getD i default)) (0 + k)), .sl false 2 r2.length (fun k => (fun i => c_TPrefixList (r2.getD i default)) (0 + k)), sL 2 c_TRouteMap a0.fMaps, sL 2 c_TACL a0.fACLs, sL 9 c_TTranslation a0.fNAT, sL 7 c_TStaticRoute a0.fStatics, .bool a0.fLS.fOn, .int .i64 a0.fLS.fAdmin, sL 3 c_TAreaRange a0.fLS.fRanges, sL 5 c_TRedist a0.fLS.fRedist, .bool a0.fDV.fOn, .int .i64 a0.fDV.fAdmin, .str a0.fDV.fIn, .str a0.fDV.fOut, sL 5 c_TRedist a0.fDV.fRedist, .bool a0.fPV.fOn, .int .i64 a0.fPV.fExternal, .int .i64 a0.fPV.fInternal, sL 4 c_TNeighbor a0.fPV.fNeighbors, sL 2 c_TPrefix a0.fPV.fNetworks, sL 3 c_TAggregate a0.fPV.fAggregates, sL 5 c_TCondition a0.fPV.fConditions, sL 5 c_TRedist a0.fPV.fRedist], .box [.str (⟨#[]⟩ : ByteArray), .int .i64 0, .sl true 12 0 (fun _ => []), .sl true 2 0 (fun _ => []), .sl true 2 0 (fun _ => []), .sl true 2 0 (fun _ => []), .sl true 9 0 (fun _ => []), .sl true 7 0 (fun _ => []), .bool false, .int .i64 0, .sl true 3 0 (fun _ => []), .sl true 5 0 (fun _ => []), .bool false, .int .i64 0, .str (⟨#[]⟩ : ByteArray), .str (⟨#[]⟩ : ByteArray), .sl true 5 0 (fun _ => []), .bool false, .int .i64 0, .int .i64 0, .sl true 4 0 (fun _ => []), .sl true 2 0 (fun _ => []), .sl true 3 0 (fun _ => []), .sl true 5 0 (fun _ => []), .sl true 5 0 (fun _ => [])], aL 12 c_TInterface ([] : List TInterface), aL 2 c_TPrefixList ([] : List TPrefixList)]⟩) 3 2 r2.length (fun i => c_TPrefixList (r2.getD i default)) (fun i => c_TPrefixList (([] : List TPrefixList).getD i default)) (by kernel_rfl) (by kernel_rfl) (by kernel_rfl)))) (kp [1, 2])) ?_))
 obtain ⟨r6, q15, h16⟩ := bind_some h10
 refine rg [oL 2 c_TRouteMap r6] [1, 2] 5 ⟨136, u1, [.box [.str a0.fName, .int .i64 a0.fAS, .sl false 12 r1.length (fun k => (fun i => c_TInterface (r1.getD i default)) (0 + k)), .sl false 2 r2.length (fun k => (fun i => c_TPrefixList (r2.getD i default)) (0 + k)), .asl 4 0 r6.length, sL 2 c_TACL a0.fACLs, sL 9 c_TTranslation a0.fNAT, sL 7 c_TStaticRoute a0.fStatics, .bool a0.fLS.fOn, .int .i64 a0.fLS.fAdmin, sL 3 c_TAreaRange a0.fLS.fRanges, sL 5 c_TRedist a0.fLS.fRedist, .bool a0.fDV.fOn, .int .i64 a0.fDV.fAdmin, .str a0.fDV.fIn, .str a0.fDV.fOut, sL 5 c_TRedist a0.fDV.fRedist, .bool a0.fPV.fOn, .int .i64 a0.fPV.fExternal, .int .i64 a0.fPV.fInternal, sL 4 c_TNeighbor a0.fPV.fNeighbors, sL 2 c_TPrefix a0.fPV.fNetworks, sL 3 c_TAggregate a0.fPV.fAggregates, sL 5 c_TCondition a0.fPV.fConditions, sL 5 c_TRedist a0.fPV.fRedist], .box [.str (⟨#[]⟩ : ByteArray), .int .i64 0, .sl true 12 0 (fun _ => []), .sl true 2 0 (fun _ => []), .sl true 2 0 (fun _ => []), .sl true 2 0 (fun _ => []), .sl true 9 0 (fun _ => []), .sl true 7 0 (fun _ => []), .bool false, .int .i64 0, .sl true 3 0 (fun _ => []), .sl true 5 0 (fun _ => []), .bool false, .int .i64 0, .str (⟨#[]⟩ : ByteArray), .str (⟨#[]⟩ : ByteArray), .sl true 5 0 (fun _ => []), .bool false, .int .i64 0, .int .i64 0, .sl true 4 0 (fun _ => []), .sl true 2 0 (fun _ => []), .sl true 3 0 (fun _ => []), .sl true 5 0 (fun _ => []), .sl true 5 0 (fun _ => [])], aL 12 c_TInterface ([] : List TInterface), aL 2 c_TPrefixList ([] : List TPrefixList), aL 2 c_TRouteMap r6]⟩ [] [⟨true, 116, [sL 2 c_TRouteMap a0.fMaps], oL 2 c_TRouteMap r6⟩] nil_all ⟨fun _ => slices_Clone_api_RouteMap_api_RouteMap_own a0.fMaps r6 q15, trivial⟩ (then_le (s' := ⟨136, u1, [.box [.str a0.fName, .int .i64 a0.fAS, sL 12 c_TInterface r1, sL 2 c_TPrefixList r2, .asl 4 0 r6.length, sL 2 c_TACL a0.fACLs, sL 9 c_TTranslation a0.fNAT, sL 7 c_TStaticRoute a0.fStatics, .bool a0.fLS.fOn, .int .i64 a0.fLS.fAdmin, sL 3 c_TAreaRange a0.fLS.fRanges, sL 5 c_TRedist a0.fLS.fRedist, .bool a0.fDV.fOn, .int .i64 a0.fDV.fAdmin, .str a0.fDV.fIn, .str a0.fDV.fOut, sL 5 c_TRedist a0.fDV.fRedist, .bool a0.fPV.fOn, .int .i64 a0.fPV.fExternal, .int .i64 a0.fPV.fInternal, sL 4 c_TNeighbor a0.fPV.fNeighbors, sL 2 c_TPrefix a0.fPV.fNetworks, sL 3 c_TAggregate a0.fPV.fAggregates, sL 5 c_TCondition a0.fPV.fConditions, sL 5 c_TRedist a0.fPV.fRedist], .box [.str (⟨#[]⟩ : ByteArray), .int .i64 0, .sl true 12 0 (fun _ => []), .sl true 2 0 (fun _ => []), .sl true 2 0 (fun _ => []), .sl true 2 0 (fun _ => []), .sl true 9 0 (fun _ => []), .sl true 7 0 (fun _ => []), .bool false, .int .i64 0, .sl true 3 0 (fun _ => []), .sl true 5 0 (fun _ => []), .bool false, .int .i64 0, .str (⟨#[]⟩ : ByteArray), .str (⟨#[]⟩ : ByteArray), .sl true 5 0 (fun _ => []), .bool false, .int .i64 0, .int .i64 0, .sl true 4 0 (fun _ => []), .sl true 2 0 (fun _ => []), .sl true 3 0 (fun _ => []), .sl true 5 0 (fun _ => []), .sl true 5 0 (fun _ => [])], aL 12 c_TInterface ([] : List TInterface), aL 2 c_TPrefixList ([] : List TPrefixList), aL 2 c_TRouteMap r6]⟩) (le_sub (.cons Sub.rfl (.cons Sub.rfl .nil)) (.cons (.box (.cons CSub.rfl (.cons CSub.rfl (.cons (csub_sl rfl (own_ext (f := fun i => c_TInterface (r1.getD i default)) (fun _ _ => rfl))) (.cons (csub_sl rfl (own_ext (f := fun i => c_TPrefixList (r2.getD i default)) (fun _ _ => rfl))) (.cons CSub.rfl (.cons CSub.rfl (.cons CSub.rfl (.cons CSub.rfl (.cons CSub.rfl (.cons CSub.rfl (.cons CSub.rfl (.cons CSub.rfl (.cons CSub.rfl (.cons CSub.rfl (.cons CSub.rfl (.cons CSub.rfl (.cons CSub.rfl (.cons CSub.rfl (.cons CSub.rfl (.cons CSub.rfl (.cons CSub.rfl (.cons CSub.rfl (.cons CSub.rfl (.cons CSub.rfl (.cons CSub.rfl .nil)))))))))))))))))))))))))) (.cons .rfl (.cons .rfl (.cons .rfl (.cons .rfl .nil)))))) (awp_seq (awp_seq (zg [1, 2, 39, 40] 5 (then_n (awp_block ?_))))))
 obtain ⟨y9, q21, h22⟩ := bind_some h16
 refine zl (fun (p7 : Int) => ⟨136, [(1, .ref 0 0), (2, .ref 1 0), (39, .int .i64 (r6.length : Int)), (40, .int .i64 p7)], [.box [.str a0.fName, .int .i64 a0.fAS, sL 12 c_TInterface r1, sL 2 c_TPrefixList r2, .asl 4 0 r6.length, sL 2 c_TACL a0.fACLs, sL 9 c_TTranslation a0.fNAT, sL 7 c_TStaticRoute a0.fStatics, .bool a0.fLS.fOn, .int .i64 a0.fLS.fAdmin, sL 3 c_TAreaRange a0.fLS.fRanges, sL 5 c_TRedist a0.fLS.fRedist, .bool a0.fDV.fOn, .int .i64 a0.fDV.fAdmin, .str a0.fDV.fIn, .str a0.fDV.fOut, sL 5 c_TRedist a0.fDV.fRedist, .bool a0.fPV.fOn, .int .i64 a0.fPV.fExternal, .int .i64 a0.fPV.fInternal, sL 4 c_TNeighbor a0.fPV.fNeighbors, sL 2 c_TPrefix a0.fPV.fNetworks, sL 3 c_TAggregate a0.fPV.fAggregates, sL 5 c_TCondition a0.fPV.fConditions, sL 5 c_TRedist a0.fPV.fRedist], .box [.str (⟨#[]⟩ : ByteArray), .int .i64 0, .sl true 12 0 (fun _ => []), .sl true 2 0 (fun _ => []), .sl true 2 0 (fun _ => []), .sl true 2 0 (fun _ => []), .sl true 9 0 (fun _ => []), .sl true 7 0 (fun _ => []), .bool false, .int .i64 0, .sl true 3 0 (fun _ => []), .sl true 5 0 (fun _ => []), .bool false, .int .i64 0, .str (⟨#[]⟩ : ByteArray), .str (⟨#[]⟩ : ByteArray), .sl true 5 0 (fun _ => []), .bool false, .int .i64 0, .int .i64 0, .sl true 4 0 (fun _ => []), .sl true 2 0 (fun _ => []), .sl true 3 0 (fun _ => []), .sl true 5 0 (fun _ => []), .sl true 5 0 (fun _ => [])], aL 12 c_TInterface ([] : List TInterface), aL 2 c_TPrefixList ([] : List TPrefixList), aL 2 c_TRouteMap r6]⟩) (fun z => OutE 2 (fun z => ⟨136, u1, [.box [.str a0.fName, .int .i64 a0.fAS, sL 12 c_TInterface r1, sL 2 c_TPrefixList r2, .asl 4 0 r6.length, sL 2 c_TACL a0.fACLs, sL 9 c_TTranslation a0.fNAT, sL 7 c_TStaticRoute a0.fStatics, .bool a0.fLS.fOn, .int .i64 a0.fLS.fAdmin, sL 3 c_TAreaRange a0.fLS.fRanges, sL 5 c_TRedist a0.fLS.fRedist, .bool a0.fDV.fOn, .int .i64 a0.fDV.fAdmin, .str a0.fDV.fIn, .str a0.fDV.fOut, sL 5 c_TRedist a0.fDV.fRedist, .bool a0.fPV.fOn, .int .i64 a0.fPV.fExternal, .int .i64 a0.fPV.fInternal, sL 4 c_TNeighbor a0.fPV.fNeighbors, sL 2 c_TPrefix a0.fPV.fNetworks, sL 3 c_TAggregate a0.fPV.fAggregates, sL 5 c_TCondition a0.fPV.fConditions, sL 5 c_TRedist a0.fPV.fRedist], .box [.str (⟨#[]⟩ : ByteArray), .int .i64 0, .sl true 12 0 (fun _ => []), .sl true 2 0 (fun _ => []), .sl true 2 0 (fun _ => []), .sl true 2 0 (fun _ => []), .sl true 9 0 (fun _ => []), .sl true 7 0 (fun _ => []), .bool false, .int .i64 0, .sl true 3 0 (fun _ => []), .sl true 5 0 (fun _ => []), .bool false, .int .i64 0, .str (⟨#[]⟩ : ByteArray), .str (⟨#[]⟩ : ByteArray), .sl true 5 0 (fun _ => []), .bool false, .int .i64 0, .int .i64 0, .sl true 4 0 (fun _ => []), .sl true 2 0 (fun _ => []), .sl true 3 0 (fun _ => []), .sl true 5 0 (fun _ => []), .sl true 5 0 (fun _ => [])], aL 12 c_TInterface ([] : List TInterface), aL 2 c_TPrefixList ([] : List TPrefixList), aL 2 c_TRouteMap r6]⟩) z) q21 ?_ ?_
 intro p7 y8 h17
 unfold M.topo_copyRouter_l2 at h17
 refine awp_seq (zg [1, 2, 39, 40, 41] 5 (then_n (awp_seq (cn h17 (fun _ h19 => ?_) (fun _ h20 => ?_)))))
 refine awp_skip (then_n (awp_seq (awp_block (awp_seq ?_))))
 cases h19
 exact awp_exit (then_e (re h20 ⟨rfl, kq⟩))
 intro e23 s24 o25
 refine zi o25 (awp_seq (awp_le (s' := ⟨136, u1, [.box [.str a0.fName, .int .i64 a0.fAS, sL 12 c_TInterface r1, sL 2 c_TPrefixList r2, .sl false 2 r6.length (fun k => (fun i => c_TRouteMap (r6.getD i default)) (0 + k)), sL 2 c_TACL a0.fACLs, sL 9 c_TTranslation a0.fNAT, sL 7 c_TStaticRoute a0.fStatics, .bool a0.fLS.fOn, .int .i64 a0.fLS.fAdmin, sL 3 c_TAreaRange a0.fLS.fRanges, sL 5 c_TRedist a0.fLS.fRedist, .bool a0.fDV.fOn, .int .i64 a0.fDV.fAdmin, .str a0.fDV.fIn, .str a0.fDV.fOut, sL 5 c_TRedist a0.fDV.fRedist, .bool a0.fPV.fOn, .int .i64 a0.fPV.fExternal, .int .i64 a0.fPV.fInternal, sL 4 c_TNeighbor a0.fPV.fNeighbors, sL 2 c_TPrefix a0.fPV.fNetworks, sL 3 c_TAggregate a0.fPV.fAggregates, sL 5 c_TCondition a0.fPV.fConditions, sL 5 c_TRedist a0.fPV.fRedist], .box [.str (⟨#[]⟩ : ByteArray), .int .i64 0, .sl true 12 0 (fun _ => []), .sl true 2 0 (fun _ => []), .sl true 2 0 (fun _ => []), .sl true 2 0 (fun _ => []), .sl true 9 0 (fun _ => []), .sl true 7 0 (fun _ => []), .bool false, .int .i64 0, .sl true 3 0 (fun _ => []), .sl true 5 0 (fun _ => []), .bool false, .int .i64 0, .str (⟨#[]⟩ : ByteArray), .str (⟨#[]⟩ : ByteArray), .sl true 5 0 (fun _ => []), .bool false, .int .i64 0, .int .i64 0, .sl true 4 0 (fun _ => []), .sl true 2 0 (fun _ => []), .sl true 3 0 (fun _ => []), .sl true 5 0 (fun _ => []), .sl true 5 0 (fun _ => [])], aL 12 c_TInterface ([] : List TInterface), aL 2 c_TPrefixList ([] : List TPrefixList), aL 2 c_TRouteMap ([] : List TRouteMap)]⟩) (Le.trans ((le_frb (s := ⟨136, u1, [.box [.str a0.fName, .int .i64 a0.fAS, sL 12 c_TInterface r1, sL 2 c_TPrefixList r2, .asl 4 0 r6.length, sL 2 c_TACL a0.fACLs, sL 9 c_TTranslation a0.fNAT, sL 7 c_TStaticRoute a0.fStatics, .bool a0.fLS.fOn, .int .i64 a0.fLS.fAdmin, sL 3 c_TAreaRange a0.fLS.fRanges, sL 5 c_TRedist a0.fLS.fRedist, .bool a0.fDV.fOn, .int .i64 a0.fDV.fAdmin, .str a0.fDV.fIn, .str a0.fDV.fOut, sL 5 c_TRedist a0.fDV.fRedist, .bool a0.fPV.fOn, .int .i64 a0.fPV.fExternal, .int .i64 a0.fPV.fInternal, sL 4 c_TNeighbor a0.fPV.fNeighbors, sL 2 c_TPrefix a0.fPV.fNetworks, sL 3 c_TAggregate a0.fPV.fAggregates, sL 5 c_TCondition a0.fPV.fConditions, sL 5 c_TRedist a0.fPV.fRedist], .box [.str (⟨#[]⟩ : ByteArray), .int .i64 0, .sl true 12 0 (fun _ => []), .sl true 2 0 (fun _ => []), .sl true 2 0 (fun _ => []), .sl true 2 0 (fun _ => []), .sl true 9 0 (fun _ => []), .sl true 7 0 (fun _ => []), .bool false, .int .i64 0, .sl true 3 0 (fun _ => []), .sl true 5 0 (fun _ => []), .bool false, .int .i64 0, .str (⟨#[]⟩ : ByteArray), .str (⟨#[]⟩ : ByteArray), .sl true 5 0 (fun _ => []), .bool false, .int .i64 0, .int .i64 0, .sl true 4 0 (fun _ => []), .sl true 2 0 (fun _ => []), .sl true 3 0 (fun _ => []), .sl true 5 0 (fun _ => []), .sl true 5 0 (fun _ => [])], aL 12 c_TInterface ([] : List TInterface), aL 2 c_TPrefixList ([] : List TPrefixList), aL 2 c_TRouteMap r6]⟩) (s' := ⟨136, u1, [.box [.str a0.fName, .int .i64 a0.fAS, sL 12 c_TInterface r1, sL 2 c_TPrefixList r2, .sl false 2 r6.length (fun k => (fun i => c_TRouteMap (r6.getD i default)) (0 + k)), sL 2 c_TACL a0.fACLs, sL 9 c_TTranslation a0.fNAT, sL 7 c_TStaticRoute a0.fStatics, .bool a0.fLS.fOn, .int .i64 a0.fLS.fAdmin, sL 3 c_TAreaRange a0.fLS.fRanges, sL 5 c_TRedist a0.fLS.fRedist, .bool a0.fDV.fOn, .int .i64 a0.fDV.fAdmin, .str a0.fDV.fIn, .str a0.fDV.fOut, sL 5 c_TRedist a0.fDV.fRedist, .bool a0.fPV.fOn, .int .i64 a0.fPV.fExternal, .int .i64 a0.fPV.fInternal, sL 4 c_TNeighbor a0.fPV.fNeighbors, sL 2 c_TPrefix a0.fPV.fNetworks, sL 3 c_TAggregate a0.fPV.fAggregates, sL 5 c_TCondition a0.fPV.fConditions, sL 5 c_TRedist a0.fPV.fRedist], .box [.str (⟨#[]⟩ : ByteArray), .int .i64 0, .sl true 12 0 (fun _ => []), .sl true 2 0 (fun _ => []), .sl true 2 0 (fun _ => []), .sl true 2 0 (fun _ => []), .sl true 9 0 (fun _ => []), .sl true 7 0 (fun _ => []), .bool false, .int .i64 0, .sl true 3 0 (fun _ => []), .sl true 5 0 (fun _ => []), .bool false, .int .i64 0, .str (⟨#[]⟩ : ByteArray), .str (⟨#[]⟩ : ByteArray), .sl true 5 0 (fun _ => []), .bool false, .int .i64 0, .int .i64 0, .sl true 4 0 (fun _ => []), .sl true 2 0 (fun _ => []), .sl true 3 0 (fun _ => []), .sl true 5 0 (fun _ => []), .sl true 5 0 (fun _ => [])], aL 12 c_TInterface ([] : List TInterface), aL 2 c_TPrefixList ([] : List TPrefixList), aL 2 c_TRouteMap ([] : List TRouteMap)]⟩) 4 2 r6.length (fun i => c_TRouteMap (r6.getD i default)) (fun i => c_TRouteMap (([] : List TRouteMap).getD i default)) (by kernel_rfl) (by kernel_rfl) (by kernel_rfl))) (kp [1, 2])) ?_))
 obtain ⟨r10, q27, h28⟩ := bind_some h22
 refine rg [oL 2 c_TACL r10] [1, 2] 6 ⟨136, u1, [.box [.str a0.fName, .int .i64 a0.fAS, sL 12 c_TInterface r1, sL 2 c_TPrefixList r2, .sl false 2 r6.length (fun k => (fun i => c_TRouteMap (r6.getD i default)) (0 + k)), .asl 5 0 r10.length, sL 9 c_TTranslation a0.fNAT, sL 7 c_TStaticRoute a0.fStatics, .bool a0.fLS.fOn, .int .i64 a0.fLS.fAdmin, sL 3 c_TAreaRange a0.fLS.fRanges, sL 5 c_TRedist a0.fLS.fRedist, .bool a0.fDV.fOn, .int .i64 a0.fDV.fAdmin, .str a0.fDV.fIn, .str a0.fDV.fOut, sL 5 c_TRedist a0.fDV.fRedist, .bool a0.fPV.fOn, .int .i64 a0.fPV.fExternal, .int .i64 a0.fPV.fInternal, sL 4 c_TNeighbor a0.fPV.fNeighbors, sL 2 c_TPrefix a0.fPV.fNetworks, sL 3 c_TAggregate a0.fPV.fAggregates, sL 5 c_TCondition a0.fPV.fConditions, sL 5 c_TRedist a0.fPV.fRedist], .box [.str (⟨#[]⟩ : ByteArray), .int .i64 0, .sl true 12 0 (fun _ => []), .sl true 2 0 (fun _ => []), .sl true 2 0 (fun _ => []), .sl true 2 0 (fun _ => []), .sl true 9 0 (fun _ => []), .sl true 7 0 (fun _ => []), .bool false, .int .i64 0, .sl true 3 0 (fun _ => []), .sl true 5 0 (fun _ => []), .bool false, .int .i64 0, .str (⟨#[]⟩ : ByteArray), .str (⟨#[]⟩ : ByteArray), .sl true 5 0 (fun _ => []), .bool false, .int .i64 0, .int .i64 0, .sl true 4 0 (fun _ => []), .sl true 2 0 (fun _ => []), .sl true 3 0 (fun _ => []), .sl true 5 0 (fun _ => []), .sl true 5 0 (fun _ => [])], aL 12 c_TInterface ([] : List TInterface), aL 2 c_TPrefixList ([] : List TPrefixList), aL 2 c_TRouteMap ([] : List TRouteMap), aL 2 c_TACL r10]⟩ [] [⟨true, 118, [sL 2 c_TACL a0.fACLs], oL 2 c_TACL r10⟩] nil_all ⟨fun _ => slices_Clone_api_ACL_api_ACL_own a0.fACLs r10 q27, trivial⟩ (then_le (s' := ⟨136, u1, [.box [.str a0.fName, .int .i64 a0.fAS, sL 12 c_TInterface r1, sL 2 c_TPrefixList r2, sL 2 c_TRouteMap r6, .asl 5 0 r10.length, sL 9 c_TTranslation a0.fNAT, sL 7 c_TStaticRoute a0.fStatics, .bool a0.fLS.fOn, .int .i64 a0.fLS.fAdmin, sL 3 c_TAreaRange a0.fLS.fRanges, sL 5 c_TRedist a0.fLS.fRedist, .bool a0.fDV.fOn, .int .i64 a0.fDV.fAdmin, .str a0.fDV.fIn, .str a0.fDV.fOut, sL 5 c_TRedist a0.fDV.fRedist, .bool a0.fPV.fOn, .int .i64 a0.fPV.fExternal, .int .i64 a0.fPV.fInternal, sL 4 c_TNeighbor a0.fPV.fNeighbors, sL 2 c_TPrefix a0.fPV.fNetworks, sL 3 c_TAggregate a0.fPV.fAggregates, sL 5 c_TCondition a0.fPV.fConditions, sL 5 c_TRedist a0.fPV.fRedist], .box [.str (⟨#[]⟩ : ByteArray), .int .i64 0, .sl true 12 0 (fun _ => []), .sl true 2 0 (fun _ => []), .sl true 2 0 (fun _ => []), .sl true 2 0 (fun _ => []), .sl true 9 0 (fun _ => []), .sl true 7 0 (fun _ => []), .bool false, .int .i64 0, .sl true 3 0 (fun _ => []), .sl true 5 0 (fun _ => []), .bool false, .int .i64 0, .str (⟨#[]⟩ : ByteArray), .str (⟨#[]⟩ : ByteArray), .sl true 5 0 (fun _ => []), .bool false, .int .i64 0, .int .i64 0, .sl true 4 0 (fun _ => []), .sl true 2 0 (fun _ => []), .sl true 3 0 (fun _ => []), .sl true 5 0 (fun _ => []), .sl true 5 0 (fun _ => [])], aL 12 c_TInterface ([] : List TInterface), aL 2 c_TPrefixList ([] : List TPrefixList), aL 2 c_TRouteMap ([] : List TRouteMap), aL 2 c_TACL r10]⟩) (le_sub (.cons Sub.rfl (.cons Sub.rfl .nil)) (.cons (.box (.cons CSub.rfl (.cons CSub.rfl (.cons CSub.rfl (.cons CSub.rfl (.cons (csub_sl rfl (own_ext (f := fun i => c_TRouteMap (r6.getD i default)) (fun _ _ => rfl))) (.cons CSub.rfl (.cons CSub.rfl (.cons CSub.rfl (.cons CSub.rfl (.cons CSub.rfl (.cons CSub.rfl (.cons CSub.rfl (.cons CSub.rfl (.cons CSub.rfl (.cons CSub.rfl (.cons CSub.rfl (.cons CSub.rfl (.cons CSub.rfl (.cons CSub.rfl (.cons CSub.rfl (.cons CSub.rfl (.cons CSub.rfl (.cons CSub.rfl (.cons CSub.rfl (.cons CSub.rfl .nil)))))))))))))))))))))))))) (.cons .rfl (.cons .rfl (.cons .rfl (.cons .rfl (.cons .rfl .nil))))))) (awp_seq (awp_seq (zg [1, 2, 62, 63] 6 (then_n (awp_block ?_))))))
 obtain ⟨y13, q33, h34⟩ := bind_some h28
 refine zl (fun (p11 : Int) => ⟨136, [(1, .ref 0 0), (2, .ref 1 0), (62, .int .i64 (r10.length : Int)), (63, .int .i64 p11)], [.box [.str a0.fName, .int .i64 a0.fAS, sL 12 c_TInterface r1, sL 2 c_TPrefixList r2, sL 2 c_TRouteMap r6, .asl 5 0 r10.length, sL 9 c_TTranslation a0.fNAT, sL 7 c_TStaticRoute a0.fStatics, .bool a0.fLS.fOn, .int .i64 a0.fLS.fAdmin, sL 3 c_TAreaRange a0.fLS.fRanges, sL 5 c_TRedist a0.fLS.fRedist, .bool a0.fDV.fOn, .int .i64 a0.fDV.fAdmin, .str a0.fDV.fIn, .str a0.fDV.fOut, sL 5 c_TRedist a0.fDV.fRedist, .bool a0.fPV.fOn, .int .i64 a0.fPV.fExternal, .int .i64 a0.fPV.fInternal, sL 4 c_TNeighbor a0.fPV.fNeighbors, sL 2 c_TPrefix a0.fPV.fNetworks, sL 3 c_TAggregate a0.fPV.fAggregates, sL 5 c_TCondition a0.fPV.fConditions, sL 5 c_TRedist a0.fPV.fRedist], .box [.str (⟨#[]⟩ : ByteArray), .int .i64 0, .sl true 12 0 (fun _ => []), .sl true 2 0 (fun _ => []), .sl true 2 0 (fun _ => []), .sl true 2 0 (fun _ => []), .sl true 9 0 (fun _ => []), .sl true 7 0 (fun _ => []), .bool false, .int .i64 0, .sl true 3 0 (fun _ => []), .sl true 5 0 (fun _ => []), .bool false, .int .i64 0, .str (⟨#[]⟩ : ByteArray), .str (⟨#[]⟩ : ByteArray), .sl true 5 0 (fun _ => []), .bool false, .int .i64 0, .int .i64 0, .sl true 4 0 (fun _ => []), .sl true 2 0 (fun _ => []), .sl true 3 0 (fun _ => []), .sl true 5 0 (fun _ => []), .sl true 5 0 (fun _ => [])], aL 12 c_TInterface ([] : List TInterface), aL 2 c_TPrefixList ([] : List TPrefixList), aL 2 c_TRouteMap ([] : List TRouteMap), aL 2 c_TACL r10]⟩) (fun z => OutE 4 (fun z => ⟨136, u1, [.box [.str a0.fName, .int .i64 a0.fAS, sL 12 c_TInterface r1, sL 2 c_TPrefixList r2, sL 2 c_TRouteMap r6, .asl 5 0 r10.length, sL 9 c_TTranslation a0.fNAT, sL 7 c_TStaticRoute a0.fStatics, .bool a0.fLS.fOn, .int .i64 a0.fLS.fAdmin, sL 3 c_TAreaRange a0.fLS.fRanges, sL 5 c_TRedist a0.fLS.fRedist, .bool a0.fDV.fOn, .int .i64 a0.fDV.fAdmin, .str a0.fDV.fIn, .str a0.fDV.fOut, sL 5 c_TRedist a0.fDV.fRedist, .bool a0.fPV.fOn, .int .i64 a0.fPV.fExternal, .int .i64 a0.fPV.fInternal, sL 4 c_TNeighbor a0.fPV.fNeighbors, sL 2 c_TPrefix a0.fPV.fNetworks, sL 3 c_TAggregate a0.fPV.fAggregates, sL 5 c_TCondition a0.fPV.fConditions, sL 5 c_TRedist a0.fPV.fRedist], .box [.str (⟨#[]⟩ : ByteArray), .int .i64 0, .sl true 12 0 (fun _ => []), .sl true 2 0 (fun _ => []), .sl true 2 0 (fun _ => []), .sl true 2 0 (fun _ => []), .sl true 9 0 (fun _ => []), .sl true 7 0 (fun _ => []), .bool false, .int .i64 0, .sl true 3 0 (fun _ => []), .sl true 5 0 (fun _ => []), .bool false, .int .i64 0, .str (⟨#[]⟩ : ByteArray), .str (⟨#[]⟩ : ByteArray), .sl true 5 0 (fun _ => []), .bool false, .int .i64 0, .int .i64 0, .sl true 4 0 (fun _ => []), .sl true 2 0 (fun _ => []), .sl true 3 0 (fun _ => []), .sl true 5 0 (fun _ => []), .sl true 5 0 (fun _ => [])], aL 12 c_TInterface ([] : List TInterface), aL 2 c_TPrefixList ([] : List TPrefixList), aL 2 c_TRouteMap ([] : List TRouteMap), aL 2 c_TACL r10]⟩) z) q33 ?_ ?_
 intro p11 y12 h29
 unfold M.topo_copyRouter_l3 at h29
 refine awp_seq (zg [1, 2, 62, 63, 64] 6 (then_n (awp_seq (cn h29 (fun _ h31 => ?_) (fun _ h32 => ?_)))))
 refine awp_skip (then_n (awp_seq (awp_block (awp_seq ?_))))
 cases h31
 exact awp_exit (then_e (re h32 ⟨rfl, kq⟩))
 intro e35 s36 o37
 refine zi o37 (awp_seq (awp_le (s' := ⟨136, u1, [.box [.str a0.fName, .int .i64 a0.fAS, sL 12 c_TInterface r1, sL 2 c_TPrefixList r2, sL 2 c_TRouteMap r6, .sl false 2 r10.length (fun k => (fun i => c_TACL (r10.getD i default)) (0 + k)), sL 9 c_TTranslation a0.fNAT, sL 7 c_TStaticRoute a0.fStatics, .bool a0.fLS.fOn, .int .i64 a0.fLS.fAdmin, sL 3 c_TAreaRange a0.fLS.fRanges, sL 5 c_TRedist a0.fLS.fRedist, .bool a0.fDV.fOn, .int .i64 a0.fDV.fAdmin, .str a0.fDV.fIn, .str a0.fDV.fOut, sL 5 c_TRedist a0.fDV.fRedist, .bool a0.fPV.fOn, .int .i64 a0.fPV.fExternal, .int .i64 a0.fPV.fInternal, sL 4 c_TNeighbor a0.fPV.fNeighbors, sL 2 c_TPrefix a0.fPV.fNetworks, sL 3 c_TAggregate a0.fPV.fAggregates, sL 5 c_TCondition a0.fPV.fConditions, sL 5 c_TRedist a0.fPV.fRedist], .box [.str (⟨#[]⟩ : ByteArray), .int .i64 0, .sl true 12 0 (fun _ => []), .sl true 2 0 (fun _ => []), .sl true 2 0 (fun _ => []), .sl true 2 0 (fun _ => []), .sl true 9 0 (fun _ => []), .sl true 7 0 (fun _ => []), .bool false, .int .i64 0, .sl true 3 0 (fun _ => []), .sl true 5 0 (fun _ => []), .bool false, .int .i64 0, .str (⟨#[]⟩ : ByteArray), .str (⟨#[]⟩ : ByteArray), .sl true 5 0 (fun _ => []), .bool false, .int .i64 0, .int .i64 0, .sl true 4 0 (fun _ => []), .sl true 2 0 (fun _ => []), .sl true 3 0 (fun _ => []), .sl true 5 0 (fun _ => []), .sl true 5 0 (fun _ => [])], aL 12 c_TInterface ([] : List TInterface), aL 2 c_TPrefixList ([] : List TPrefixList), aL 2 c_TRouteMap ([] : List TRouteMap), aL 2 c_TACL ([] : List TACL)]⟩) (Le.trans ((le_frb (s := ⟨136, u1, [.box [.str a0.fName, .int .i64 a0.fAS, sL 12 c_TInterface r1, sL 2 c_TPrefixList r2, sL 2 c_TRouteMap r6, .asl 5 0 r10.length, sL 9 c_TTranslation a0.fNAT, sL 7 c_TStaticRoute a0.fStatics, .bool a0.fLS.fOn, .int .i64 a0.fLS.fAdmin, sL 3 c_TAreaRange a0.fLS.fRanges, sL 5 c_TRedist a0.fLS.fRedist, .bool a0.fDV.fOn, .int .i64 a0.fDV.fAdmin, .str a0.fDV.fIn, .str a0.fDV.fOut, sL 5 c_TRedist a0.fDV.fRedist, .bool a0.fPV.fOn, .int .i64 a0.fPV.fExternal, .int .i64 a0.fPV.fInternal, sL 4 c_TNeighbor a0.fPV.fNeighbors, sL 2 c_TPrefix a0.fPV.fNetworks, sL 3 c_TAggregate a0.fPV.fAggregates, sL 5 c_TCondition a0.fPV.fConditions, sL 5 c_TRedist a0.fPV.fRedist], .box [.str (⟨#[]⟩ : ByteArray), .int .i64 0, .sl true 12 0 (fun _ => []), .sl true 2 0 (fun _ => []), .sl true 2 0 (fun _ => []), .sl true 2 0 (fun _ => []), .sl true 9 0 (fun _ => []), .sl true 7 0 (fun _ => []), .bool false, .int .i64 0, .sl true 3 0 (fun _ => []), .sl true 5 0 (fun _ => []), .bool false, .int .i64 0, .str (⟨#[]⟩ : ByteArray), .str (⟨#[]⟩ : ByteArray), .sl true 5 0 (fun _ => []), .bool false, .int .i64 0, .int .i64 0, .sl true 4 0 (fun _ => []), .sl true 2 0 (fun _ => []), .sl true 3 0 (fun _ => []), .sl true 5 0 (fun _ => []), .sl true 5 0 (fun _ => [])], aL 12 c_TInterface ([] : List TInterface), aL 2 c_TPrefixList ([] : List TPrefixList), aL 2 c_TRouteMap ([] : List TRouteMap), aL 2 c_TACL r10]⟩) (s' := ⟨136, u1, [.box [.str a0.fName, .int .i64 a0.fAS, sL 12 c_TInterface r1, sL 2 c_TPrefixList r2, sL 2 c_TRouteMap r6, .sl false 2 r10.length (fun k => (fun i => c_TACL (r10.getD i default)) (0 + k)), sL 9 c_TTranslation a0.fNAT, sL 7 c_TStaticRoute a0.fStatics, .bool a0.fLS.fOn, .int .i64 a0.fLS.fAdmin, sL 3 c_TAreaRange a0.fLS.fRanges, sL 5 c_TRedist a0.fLS.fRedist, .bool a0.fDV.fOn, .int .i64 a0.fDV.fAdmin, .str a0.fDV.fIn, .str a0.fDV.fOut, sL 5 c_TRedist a0.fDV.fRedist, .bool a0.fPV.fOn, .int .i64 a0.fPV.fExternal, .int .i64 a0.fPV.fInternal, sL 4 c_TNeighbor a0.fPV.fNeighbors, sL 2 c_TPrefix a0.fPV.fNetworks, sL 3 c_TAggregate a0.fPV.fAggregates, sL 5 c_TCondition a0.fPV.fConditions, sL 5 c_TRedist a0.fPV.fRedist], .box [.str (⟨#[]⟩ : ByteArray), .int .i64 0, .sl true 12 0 (fun _ => []), .sl true 2 0 (fun _ => []), .sl true 2 0 (fun _ => []), .sl true 2 0 (fun _ => []), .sl true 9 0 (fun _ => []), .sl true 7 0 (fun _ => []), .bool false, .int .i64 0, .sl true 3 0 (fun _ => []), .sl true 5 0 (fun _ => []), .bool false, .int .i64 0, .str (⟨#[]⟩ : ByteArray), .str (⟨#[]⟩ : ByteArray), .sl true 5 0 (fun _ => []), .bool false, .int .i64 0, .int .i64 0, .sl true 4 0 (fun _ => []), .sl true 2 0 (fun _ => []), .sl true 3 0 (fun _ => []), .sl true 5 0 (fun _ => []), .sl true 5 0 (fun _ => [])], aL 12 c_TInterface ([] : List TInterface), aL 2 c_TPrefixList ([] : List TPrefixList), aL 2 c_TRouteMap ([] : List TRouteMap), aL 2 c_TACL ([] : List TACL)]⟩) 5 2 r10.length (fun i => c_TACL (r10.getD i default)) (fun i => c_TACL (([] : List TACL).getD i default)) (by kernel_rfl) (by kernel_rfl) (by kernel_rfl))) (kp [1, 2])) ?_))
 obtain ⟨r14, q39, h40⟩ := bind_some h34
 refine rg [.pure (sL 9 c_TTranslation r14)] [1, 2] 2 ⟨136, u1, [.box [.str a0.fName, .int .i64 a0.fAS, sL 12 c_TInterface r1, sL 2 c_TPrefixList r2, sL 2 c_TRouteMap r6, .sl false 2 r10.length (fun k => (fun i => c_TACL (r10.getD i default)) (0 + k)), sL 9 c_TTranslation r14, sL 7 c_TStaticRoute a0.fStatics, .bool a0.fLS.fOn, .int .i64 a0.fLS.fAdmin, sL 3 c_TAreaRange a0.fLS.fRanges, sL 5 c_TRedist a0.fLS.fRedist, .bool a0.fDV.fOn, .int .i64 a0.fDV.fAdmin, .str a0.fDV.fIn, .str a0.fDV.fOut, sL 5 c_TRedist a0.fDV.fRedist, .bool a0.fPV.fOn, .int .i64 a0.fPV.fExternal, .int .i64 a0.fPV.fInternal, sL 4 c_TNeighbor a0.fPV.fNeighbors, sL 2 c_TPrefix a0.fPV.fNetworks, sL 3 c_TAggregate a0.fPV.fAggregates, sL 5 c_TCondition a0.fPV.fConditions, sL 5 c_TRedist a0.fPV.fRedist], .box [.str (⟨#[]⟩ : ByteArray), .int .i64 0, .sl true 12 0 (fun _ => []), .sl true 2 0 (fun _ => []), .sl true 2 0 (fun _ => []), .sl true 2 0 (fun _ => []), .sl true 9 0 (fun _ => []), .sl true 7 0 (fun _ => []), .bool false, .int .i64 0, .sl true 3 0 (fun _ => []), .sl true 5 0 (fun _ => []), .bool false, .int .i64 0, .str (⟨#[]⟩ : ByteArray), .str (⟨#[]⟩ : ByteArray), .sl true 5 0 (fun _ => []), .bool false, .int .i64 0, .int .i64 0, .sl true 4 0 (fun _ => []), .sl true 2 0 (fun _ => []), .sl true 3 0 (fun _ => []), .sl true 5 0 (fun _ => []), .sl true 5 0 (fun _ => [])]]⟩ [] [⟨true, 120, [sL 9 c_TTranslation a0.fNAT], .pure (sL 9 c_TTranslation r14)⟩] nil_all ⟨fun _ => slices_Clone_api_Translation_api_Translation_ok a0.fNAT r14 q39, trivial⟩ (then_le (s' := ⟨136, u1, [.box [.str a0.fName, .int .i64 a0.fAS, sL 12 c_TInterface r1, sL 2 c_TPrefixList r2, sL 2 c_TRouteMap r6, sL 2 c_TACL r10, sL 9 c_TTranslation r14, sL 7 c_TStaticRoute a0.fStatics, .bool a0.fLS.fOn, .int .i64 a0.fLS.fAdmin, sL 3 c_TAreaRange a0.fLS.fRanges, sL 5 c_TRedist a0.fLS.fRedist, .bool a0.fDV.fOn, .int .i64 a0.fDV.fAdmin, .str a0.fDV.fIn, .str a0.fDV.fOut, sL 5 c_TRedist a0.fDV.fRedist, .bool a0.fPV.fOn, .int .i64 a0.fPV.fExternal, .int .i64 a0.fPV.fInternal, sL 4 c_TNeighbor a0.fPV.fNeighbors, sL 2 c_TPrefix a0.fPV.fNetworks, sL 3 c_TAggregate a0.fPV.fAggregates, sL 5 c_TCondition a0.fPV.fConditions, sL 5 c_TRedist a0.fPV.fRedist], .box [.str (⟨#[]⟩ : ByteArray), .int .i64 0, .sl true 12 0 (fun _ => []), .sl true 2 0 (fun _ => []), .sl true 2 0 (fun _ => []), .sl true 2 0 (fun _ => []), .sl true 9 0 (fun _ => []), .sl true 7 0 (fun _ => []), .bool false, .int .i64 0, .sl true 3 0 (fun _ => []), .sl true 5 0 (fun _ => []), .bool false, .int .i64 0, .str (⟨#[]⟩ : ByteArray), .str (⟨#[]⟩ : ByteArray), .sl true 5 0 (fun _ => []), .bool false, .int .i64 0, .int .i64 0, .sl true 4 0 (fun _ => []), .sl true 2 0 (fun _ => []), .sl true 3 0 (fun _ => []), .sl true 5 0 (fun _ => []), .sl true 5 0 (fun _ => [])]]⟩) (le_sub (.cons Sub.rfl (.cons Sub.rfl .nil)) (.cons (.box (.cons CSub.rfl (.cons CSub.rfl (.cons CSub.rfl (.cons CSub.rfl (.cons CSub.rfl (.cons (csub_sl rfl (own_ext (f := fun i => c_TACL (r10.getD i default)) (fun _ _ => rfl))) (.cons CSub.rfl (.cons CSub.rfl (.cons CSub.rfl (.cons CSub.rfl (.cons CSub.rfl (.cons CSub.rfl (.cons CSub.rfl (.cons CSub.rfl (.cons CSub.rfl (.cons CSub.rfl (.cons CSub.rfl (.cons CSub.rfl (.cons CSub.rfl (.cons CSub.rfl (.cons CSub.rfl (.cons CSub.rfl (.cons CSub.rfl (.cons CSub.rfl (.cons CSub.rfl .nil)))))))))))))))))))))))))) (.cons .rfl .nil))) (awp_seq ?_))
 obtain ⟨r15, q41, h42⟩ := bind_some h40
 refine zr [1, 2] 2 nil_all (rq1 (slices_Clone_api_StaticRoute_api_StaticRoute_ok _ _ q41) rqn) (then_n (awp_seq ?_))
 obtain ⟨r16, q43, h44⟩ := bind_some h42
 refine zr [1, 2] 2 nil_all (rq1 (slices_Clone_api_AreaRange_api_AreaRange_ok _ _ q43) rqn) (then_n (awp_seq ?_))
 obtain ⟨r17, q45, h46⟩ := bind_some h44
 refine zr [1, 2] 2 nil_all (rq1 (slices_Clone_api_Redist_api_Redist_ok _ _ q45) rqn) (then_n (awp_seq ?_))
 obtain ⟨r18, q47, h48⟩ := bind_some h46
 refine zr [1, 2] 2 nil_all (rq1 (slices_Clone_api_Redist_api_Redist_ok _ _ q47) rqn) (then_n (awp_seq ?_))
 obtain ⟨r19, q49, h50⟩ := bind_some h48
 refine zr [1, 2] 2 nil_all (rq1 (slices_Clone_api_Neighbor_api_Neighbor_ok _ _ q49) rqn) (then_n (awp_seq ?_))
 obtain ⟨r20, q51, h52⟩ := bind_some h50
 refine zr [1, 2] 2 nil_all (rq1 (slices_Clone_api_Prefix_api_Prefix_ok _ _ q51) rqn) (then_n (awp_seq ?_))
 obtain ⟨r21, q53, h54⟩ := bind_some h52
 refine zr [1, 2] 2 nil_all (rq1 (slices_Clone_api_Aggregate_api_Aggregate_ok _ _ q53) rqn) (then_n (awp_seq ?_))
 obtain ⟨r22, q55, h56⟩ := bind_some h54
 refine zr [1, 2] 2 nil_all (rq1 (slices_Clone_api_Condition_api_Condition_ok _ _ q55) rqn) (then_n (awp_seq ?_))
 obtain ⟨r23, q57, h58⟩ := bind_some h56
 refine zr [1, 2] 2 nil_all (rq1 (slices_Clone_api_Redist_api_Redist_ok _ _ q57) rqn) (then_n (awp_seq (zg [2] 2 (then_n (awp_ret ?_)))))
 obtain rfl := Option.some.inj h58
 exact er0 (.agg [.str a0.fName, .int .i64 a0.fAS, sL 12 c_TInterface r1, sL 2 c_TPrefixList r2, sL 2 c_TRouteMap r6, sL 2 c_TACL r10, sL 9 c_TTranslation r14, sL 7 c_TStaticRoute r15, .bool a0.fLS.fOn, .int .i64 a0.fLS.fAdmin, sL 3 c_TAreaRange r16, sL 5 c_TRedist r17, .bool a0.fDV.fOn, .int .i64 a0.fDV.fAdmin, .str a0.fDV.fIn, .str a0.fDV.fOut, sL 5 c_TRedist r18, .bool a0.fPV.fOn, .int .i64 a0.fPV.fExternal, .int .i64 a0.fPV.fInternal, sL 4 c_TNeighbor r19, sL 2 c_TPrefix r20, sL 3 c_TAggregate r21, sL 5 c_TCondition r22, sL 5 c_TRedist r23])
theorem topo_copyNetwork_ok (a0 : TNetwork) (r : TNetwork) (h : M.topo_copyNetwork a0 = some r) : Fn Tryz.prog 48 [.agg (c_TNetwork a0)] (.pure (.agg (c_TNetwork r))) := by
 let u1 := c_TNetwork a0
 unfold M.topo_copyNetwork at h
 refine fn_pure Tryz.func48 rfl (by kernel_rfl) (awp_seq (zg [1, 2] 2 (then_n (awp_seq ?_))))
 obtain ⟨r1, q1, h2⟩ := bind_some h
 refine rg [oL 25 c_TRouter r1] [2, 3] 3 ⟨24, [(2, .ref 1 0), (3, .asl 2 0 r1.length)], [.box u1, .box [.sl true 25 0 (fun _ => [])], aL 25 c_TRouter r1]⟩ [] [⟨true, 68, [sL 25 c_TRouter a0.fRouters], oL 25 c_TRouter r1⟩] nil_all ⟨fun _ => slices_Clone_api_Router_api_Router_own a0.fRouters r1 q1, trivial⟩ (then_n (awp_seq (awp_seq (zg [2, 3, 9, 10] 3 (then_n (awp_block ?_))))))
 obtain ⟨y5, q11, h12⟩ := bind_some h2
 refine zl (fun (p2 : (List TRouter) × Int) => ⟨24, [(2, .ref 1 0), (3, .asl 2 0 p2.1.length), (9, .int .i64 (r1.length : Int)), (10, .int .i64 p2.2)], [.box u1, .box [.sl true 25 0 (fun _ => [])], aL 25 c_TRouter p2.1]⟩) (fun z => OutE 0 (fun z => ⟨24, [(2, .ref 1 0), (3, .asl 2 0 z.length)], [.box u1, .box [.sl true 25 0 (fun _ => [])], aL 25 c_TRouter z]⟩) z) q11 ?_ ?_
 intro p2 y3 h3
 unfold M.topo_copyNetwork_l1 at h3
 refine awp_seq (zg [2, 3, 9, 10, 11] 3 (then_n (awp_seq (cn h3 (fun _ h5 => ?_) (fun _ h6 => ?_)))))
 refine awp_skip (then_n (awp_seq (awp_block (awp_seq (zg [2, 3, 4, 9, 10] 3 (then_n ?_))))))
 obtain ⟨r4, q7, h8⟩ := bind_some h5
 obtain ⟨c9, h10⟩ := gd_some h8
 exact rg [.pure (.agg (c_TRouter r4))] [2, 3, 9, 10] 3 ⟨24, [(2, .ref 1 0), (3, .asl 2 0 p2.1.length), (9, .int .i64 (r1.length : Int)), (10, .int .i64 p2.2)], [.box (c_TNetwork a0), .box [.sl true 25 0 (fun _ => [])], .arr 25 p2.1.length (fun j => bif Nat.beq j (0 + p2.2.toNat) then splice (c_TRouter (p2.1.getD (0 + p2.2.toNat) default)) [.str r4.fName, .int .i64 r4.fAS, sL 12 c_TInterface r4.fInterfaces, sL 2 c_TPrefixList r4.fLists, sL 2 c_TRouteMap r4.fMaps, sL 2 c_TACL r4.fACLs, sL 9 c_TTranslation r4.fNAT, sL 7 c_TStaticRoute r4.fStatics, .bool r4.fLS.fOn, .int .i64 r4.fLS.fAdmin, sL 3 c_TAreaRange r4.fLS.fRanges, sL 5 c_TRedist r4.fLS.fRedist, .bool r4.fDV.fOn, .int .i64 r4.fDV.fAdmin, .str r4.fDV.fIn, .str r4.fDV.fOut, sL 5 c_TRedist r4.fDV.fRedist, .bool r4.fPV.fOn, .int .i64 r4.fPV.fExternal, .int .i64 r4.fPV.fInternal, sL 4 c_TNeighbor r4.fPV.fNeighbors, sL 2 c_TPrefix r4.fPV.fNetworks, sL 3 c_TAggregate r4.fPV.fAggregates, sL 5 c_TCondition r4.fPV.fConditions, sL 5 c_TRedist r4.fPV.fRedist] 0 else c_TRouter (p2.1.getD j default))]⟩ [decide (0 ≤ p2.2), decide (p2.2 < (p2.1.length : Int)), decide (0 ≤ p2.2), decide (p2.2 < (p2.1.length : Int))] [⟨true, 69, [.agg (c_TRouter (p2.1.getD (0 + p2.2.toNat) default))], .pure (.agg (c_TRouter r4))⟩] c9 ⟨fun _ => topo_copyRouter_ok (p2.1.getD (0 + p2.2.toNat) default) r4 q7, trivial⟩ (inb_n (then_le (s' := ⟨24, [(2, .ref 1 0), (3, .asl 2 0 ((p2.1.set (0 + p2.2.toNat) r4).length)), (9, .int .i64 (r1.length : Int)), (10, .int .i64 p2.2)], [.box (c_TNetwork a0), .box [.sl true 25 0 (fun _ => [])], aL 25 c_TRouter (p2.1.set (0 + p2.2.toNat) r4)]⟩) (le_sub (.cons Sub.rfl (.cons (asl_len (by simp)) (.cons Sub.rfl (.cons Sub.rfl .nil)))) (.cons .rfl (.cons .rfl (.cons (.arr (by simp) (set_ext c_TRouter p2.1 (0 + p2.2.toNat) r4 _ rfl)) .nil)))) (zg [2, 3, 9, 10] 3 (rn h10))))
 exact awp_exit (then_e (re h6 ⟨rfl, kq⟩))
 intro e13 s14 o15
 refine zi o15 (awp_seq (awp_le (s' := ⟨24, [(2, .ref 1 0), (3, sL 25 c_TRouter y5)], [.box u1, .box [.sl true 25 0 (fun _ => [])], aL 25 c_TRouter ([] : List TRouter)]⟩) (Le.trans (le_frz 3 2 25 c_TRouter y5 (fun i => c_TRouter (([] : List TRouter).getD i default)) (by kernel_rfl) (by kernel_rfl) (by kernel_rfl)) (kp [2, 3])) (zg [2] 2 (then_n (awp_ret ?_)))))
 obtain rfl := Option.some.inj h12
 exact er0 (.agg [sL 25 c_TRouter y5])
theorem slices_Clone_int_int_ok (a0 : List Int) (r : List Int) (h : M.slices_Clone_int_int a0 = some r) : Fn Tryz.prog 49 [sL 1 (ci .i64) a0] (.pure (sL 1 (ci .i64) r)) := by
 unfold M.slices_Clone_int_int at h
 obtain ⟨hc, h1⟩ := gd_some h
 obtain rfl := Option.some.inj h1
 refine fn_pure Tryz.func49 rfl (by kernel_rfl) (awp_seq (zg [0] 0 (then_n (awp_seq (awp_seq (zg [0, 4] 0 (then_n (nq a0.length (fun hz => ?_) ?_))))))))
 exact awp_seq (zg [2] 0 (then_n (awp_ret (then_r (er (.sl false 1 0 (fun _ => [])) (sub_nil0 hz))))))
 exact awp_skip (then_n (awp_seq (zc [2] 1 hc (then_n (awp_ret (er (.sl false 1 (0 + a0.length) (fun i => (app (fun i => List.take 1 (List.drop (i * 1) [])) 0 (fun i => (ci .i64) (a0.getD i default))) (0 + i))) (sub_sl (Nat.zero_add _) (fun i hi => by rw [Nat.zero_add]; exact app_nil (ci .i64) _ a0 _ (fun _ _ => rfl) i hi))))))))
theorem topo_Make_ok (a0 : TNetwork) (a1 : List Int) (r : TView × Int) (h : M.topo_Make a0 a1 = some r) : Fn Tryz.prog 16 [.agg (c_TNetwork a0), sL 1 (ci .i64) a1] (.pure (.tup [.agg (c_TView r.1), .int .i64 r.2])) := by
 let u2 := c_TNetwork a0
 unfold M.topo_Make at h
 refine fn_pure Tryz.func16 rfl (by kernel_rfl) (awp_seq (zg [1, 2, 4] 2 (then_n (awp_seq ?_))))
 obtain ⟨r1, q1, h2⟩ := bind_some h
 let u1 : List Ob := [.box u2, .box [.sl true 25 0 (fun _ => []), .sl true 4 0 (fun _ => []), .sl true 1 0 (fun _ => []), .sl true 1 0 (fun _ => [])], .box (c_TTopology r1.1)]
 refine zr [1, 2, 4, 6, 7] 3 nil_all (rq1 (topo_Build_ok _ _ q1) rqn) (then_n (awp_seq (awp_seq (zg [1, 2, 4, 6, 7, 16] 3 (then_n (cn h2 (fun _ h4 => ?_) (fun _ h5 => ?_)))))))
 refine awp_seq ?_
 cases h4
 refine awp_skip (then_n (awp_seq (awp_seq (zg [1, 2, 4, 6, 21] 3 (then_n (cn h5 (fun _ h7 => ?_) (fun _ h8 => ?_)))))))
 refine awp_seq ?_
 cases h7
 refine awp_skip (then_n (awp_seq (awp_seq (zg [1, 2, 4, 6, 23, 24, 25] 3 (then_n (awp_block ?_))))))
 obtain ⟨y4, q20, h21⟩ := bind_some h8
 refine zl (fun (p2 : Int) => ⟨60, [(1, sL 1 (ci .i64) a1), (2, .ref 0 0), (4, .ref 1 0), (6, .ref 2 0), (23, sL 1 (ci .i64) a1), (24, .int .i64 (a1.length : Int)), (25, .int .i64 p2)], u1⟩) (fun z => OutE 0 (fun z => ⟨60, [(1, sL 1 (ci .i64) a1), (2, .ref 0 0), (4, .ref 1 0), (6, .ref 2 0)], u1⟩) z) q20 ?_ ?_
 intro p2 y3 h9
 unfold M.topo_Make_l1 at h9
 refine awp_seq (zg [1, 2, 4, 6, 23, 24, 25, 26] 3 (then_n (awp_seq (cn h9 (fun _ h11 => ?_) (fun _ h12 => ?_)))))
 refine awp_skip (then_n (awp_seq (awp_block (awp_seq ?_))))
 obtain ⟨c13, h14⟩ := gd_some h11
 refine zc [1, 2, 4, 6, 8, 9, 23, 24, 25] 3 c13 (then_n (awp_seq ?_))
 obtain ⟨c15, h16⟩ := gd_some h14
 refine zc [1, 2, 4, 6, 23, 24, 25, 51] 3 c15 (then_n (cn h16 (fun _ h18 => ?_) (fun _ h19 => ?_)))
 refine awp_seq ?_
 cases h18
 exact awp_skip (inb_n (then_n (zg [1, 2, 4, 6, 23, 24, 25] 3 (rn h19))))
 exact awp_exit (then_e (re h12 ⟨rfl, kq⟩))
 intro e22 s23 o24
 refine zi o24 (awp_seq ?_)
 obtain ⟨r5, q26, h27⟩ := bind_some h21
 obtain ⟨r6, q28, h29⟩ := bind_some h27
 refine rgw [.pure (.agg (c_TNetwork r5)), .pure (sL 1 (ci .i64) r6)] [4, 5] 2 ⟨60, [(4, .ref 1 0), (5, .int .i64 0)], [.box u2, .box [sL 25 c_TRouter r5.fRouters, sL 4 c_TDomain r1.1.fDomains, sL 1 (ci .i64) r1.1.fLinks, sL 1 (ci .i64) r6]]⟩ [] [⟨true, 48, [.agg u2], .pure (.agg (c_TNetwork r5))⟩, ⟨true, 49, [sL 1 (ci .i64) a1], .pure (sL 1 (ci .i64) r6)⟩] nil_all ⟨fun _ => topo_copyNetwork_ok a0 r5 q26, fun _ => slices_Clone_int_int_ok a1 r6 q28, trivial⟩ (then_n (awp_ret ?_))
 obtain rfl := Option.some.inj h29
 exact er0 (.tup [.agg [sL 25 c_TRouter r5.fRouters, sL 4 c_TDomain r1.1.fDomains, sL 1 (ci .i64) r1.1.fLinks, sL 1 (ci .i64) r6], .int .i64 0])
theorem slices_Index_api_End_api_End_ok (a0 : List TEnd) (a1 : TEnd) (r : Int) (h : M.slices_Index_api_End_api_End a0 a1 = some r) : Fn Tryz.prog 72 [sL 2 c_TEnd a0, .agg (c_TEnd a1)] (.pure (.int .i64 r)) := by
 unfold M.slices_Index_api_End_api_End at h
 refine fn_pure Tryz.func72 rfl (by kernel_rfl) (awp_seq (zg [0, 3] 1 (then_n (awp_seq (awp_seq (zg [0, 3, 7, 8] 1 (then_n (awp_block ?_))))))))
 obtain ⟨y3, q10, h11⟩ := bind_some h
 refine zl (fun (p1 : Int) => ⟨19, [(0, sL 2 c_TEnd a0), (3, .ref 0 0), (7, .int .i64 (a0.length : Int)), (8, .int .i64 p1)], [.box (c_TEnd a1)]⟩) (Sum.elim (fun z => OutE 0 (fun z => ⟨19, [], []⟩) z) (fun z => OutR Tryz.prog Tryz.f72 (.int .i64 z))) q10 ?_ ?_
 intro p1 y2 h1
 unfold M.slices_Index_api_End_api_End_l1 at h1
 refine awp_seq (zg [0, 3, 7, 8, 9] 1 (then_n (awp_seq (cn h1 (fun _ h3 => ?_) (fun _ h4 => ?_)))))
 refine awp_skip (then_n (awp_seq (awp_block (awp_seq (zg [0, 3, 5, 7, 8] 1 (then_n (awp_seq ?_)))))))
 obtain ⟨c5, h6⟩ := gd_some h3
 refine zc [0, 3, 5, 7, 8, 16] 1 c5 (then_n (cn h6 (fun _ h8 => ?_) (fun _ h9 => ?_)))
 exact awp_seq (zg [4] 0 (then_n (awp_ret (inb_r (then_r (rr h8 ⟨rfl, er0 _⟩))))))
 exact awp_skip (inb_n (then_n (zg [0, 3, 7, 8] 1 (rn h9))))
 exact awp_exit (then_e (re h4 ⟨rfl, kc⟩))
 intro e12 s13 o14
 rcases y3 with g4 | y5
 have h15 := elim_l h11
 exact zi o14 (awp_seq (zg [4] 0 (then_n (awp_ret (er1 h15)))))
 have h16 := elim_r h11
 obtain ⟨rfl, n18⟩ := o14
 refine inb_r (then_r ?_)
 obtain rfl := Option.some.inj h16
 exact n18
theorem slices_Contains_api_End_api_End_ok (a0 : List TEnd) (a1 : TEnd) (r : Bool) (h : M.slices_Contains_api_End_api_End a0 a1 = some r) : Fn Tryz.prog 54 [sL 2 c_TEnd a0, .agg (c_TEnd a1)] (.pure (.bool r)) := by
 unfold M.slices_Contains_api_End_api_End at h
 refine fn_pure Tryz.func54 rfl (by kernel_rfl) (awp_seq (zg [0, 3] 1 (then_n (awp_seq ?_))))
 obtain ⟨r1, q1, h2⟩ := bind_some h
 exact zr [4] 0 nil_all (rq1 (slices_Index_api_End_api_End_ok _ _ _ q1) rqn) (then_n (awp_ret (er1 h2)))
theorem topo_Domain_ok (a0 : TView) (a1 : Int) (a2 : Int) (r : Int) (h : M.topo_Domain a0 a1 a2 = some r) : Fn Tryz.prog 25 [.agg (c_TView a0), .int .i64 a1, .int .i64 a2] (.pure (.int .i64 r)) := by
 unfold M.topo_Domain at h
 refine fn_pure Tryz.func25 rfl (by kernel_rfl) (awp_seq (zg [1, 2, 3] 1 (then_n (awp_seq (zg [3, 7] 2 (then_n (awp_seq (awp_seq (zg [7, 15, 16, 17] 2 (then_n (awp_block ?_)))))))))))
 obtain ⟨y4, q12, h13⟩ := bind_some h
 refine zl (fun (p1 : Int) => ⟨28, [(7, .ref 1 0), (15, sL 4 c_TDomain a0.fTopo.fDomains), (16, .int .i64 (a0.fTopo.fDomains.length : Int)), (17, .int .i64 p1)], [.box (c_TView a0), .box [.int .i64 a1, .int .i64 a2]]⟩) (Sum.elim (fun z => OutE 0 (fun z => ⟨28, [], []⟩) z) (fun z => OutR Tryz.prog Tryz.f25 (.int .i64 z))) q12 ?_ ?_
 intro p1 y2 h1
 unfold M.topo_Domain_l1 at h1
 refine awp_seq (zg [7, 15, 16, 17, 18] 2 (then_n (awp_seq (cn h1 (fun _ h3 => ?_) (fun _ h4 => ?_)))))
 refine awp_skip (then_n (awp_seq (awp_block (awp_seq ?_))))
 obtain ⟨c5, h6⟩ := gd_some h3
 refine zc [7, 8, 9, 15, 16, 17] 3 c5 (then_n (awp_seq ?_))
 obtain ⟨r3, q7, h8⟩ := bind_some h6
 refine zr [7, 8, 15, 16, 17, 25] 2 nil_all (rq1 (slices_Contains_api_End_api_End_ok _ _ _ q7) rqn) (then_n (cn h8 (fun _ h10 => ?_) (fun _ h11 => ?_)))
 exact awp_seq (zg [6] 0 (then_n (awp_ret (inb_r (then_r (rr h10 ⟨rfl, er0 _⟩))))))
 exact awp_skip (inb_n (then_n (zg [7, 15, 16, 17] 2 (rn h11))))
 exact awp_exit (then_e (re h4 ⟨rfl, kc⟩))
 intro e14 s15 o16
 rcases y4 with g5 | y6
 have h17 := elim_l h13
 refine zi o16 (awp_seq ?_)
 cases h17
 have h18 := elim_r h13
 obtain ⟨rfl, n20⟩ := o16
 refine inb_r (then_r ?_)
 obtain rfl := Option.some.inj h18
 exact n20
theorem slices_Index_int_int_ok (a0 : List Int) (a1 : Int) (r : Int) (h : M.slices_Index_int_int a0 a1 = some r) : Fn Tryz.prog 55 [sL 1 (ci .i64) a0, .int .i64 a1] (.pure (.int .i64 r)) := by
 unfold M.slices_Index_int_int at h
 refine fn_pure Tryz.func55 rfl (by kernel_rfl) (awp_seq (zg [0, 1] 0 (then_n (awp_seq (awp_seq (zg [0, 1, 7, 8] 0 (then_n (awp_block ?_))))))))
 obtain ⟨y3, q10, h11⟩ := bind_some h
 refine zl (fun (p1 : Int) => ⟨19, [(0, sL 1 (ci .i64) a0), (1, .int .i64 a1), (7, .int .i64 (a0.length : Int)), (8, .int .i64 p1)], []⟩) (Sum.elim (fun z => OutE 0 (fun z => ⟨19, [], []⟩) z) (fun z => OutR Tryz.prog Tryz.f55 (.int .i64 z))) q10 ?_ ?_
 intro p1 y2 h1
 unfold M.slices_Index_int_int_l1 at h1
 refine awp_seq (zg [0, 1, 7, 8, 9] 0 (then_n (awp_seq (cn h1 (fun _ h3 => ?_) (fun _ h4 => ?_)))))
 refine awp_skip (then_n (awp_seq (awp_block (awp_seq (zg [0, 1, 5, 7, 8] 0 (then_n (awp_seq ?_)))))))
 obtain ⟨c5, h6⟩ := gd_some h3
 refine zc [0, 1, 5, 7, 8, 16] 0 c5 (then_n (cn h6 (fun _ h8 => ?_) (fun _ h9 => ?_)))
 exact awp_seq (zg [4] 0 (then_n (awp_ret (inb_r (then_r (rr h8 ⟨rfl, er0 _⟩))))))
 exact awp_skip (inb_n (then_n (zg [0, 1, 7, 8] 0 (rn h9))))
 exact awp_exit (then_e (re h4 ⟨rfl, kq⟩))
 intro e12 s13 o14
 rcases y3 with g4 | y5
 have h15 := elim_l h11
 exact zi o14 (awp_seq (zg [4] 0 (then_n (awp_ret (er1 h15)))))
 have h16 := elim_r h11
 obtain ⟨rfl, n18⟩ := o14
 refine inb_r (then_r ?_)
 obtain rfl := Option.some.inj h16
 exact n18
theorem topo_Link_ok (a0 : TView) (a1 : Int) (a2 : Int) (r : Int) (h : M.topo_Link a0 a1 a2 = some r) : Fn Tryz.prog 27 [.agg (c_TView a0), .int .i64 a1, .int .i64 a2] (.pure (.int .i64 r)) := by
 unfold M.topo_Link at h
 refine fn_pure Tryz.func27 rfl (by kernel_rfl) (awp_seq (zg [1, 2, 3] 1 (then_n (awp_seq ?_))))
 obtain ⟨r1, q1, h2⟩ := bind_some h
 refine zr [3, 7] 1 nil_all (rq1 (topo_Domain_ok _ _ _ _ q1) rqn) (then_n (awp_seq (awp_seq (zg [3, 7, 13] 1 (then_n (cn h2 (fun _ h4 => ?_) (fun _ h5 => ?_)))))))
 refine awp_seq ?_
 cases h4
 refine awp_skip (then_n (awp_seq ?_))
 obtain ⟨r2, q6, h7⟩ := bind_some h5
 exact zr [6] 0 nil_all (rq1 (slices_Index_int_int_ok _ _ _ q6) rqn) (then_n (awp_ret (er1 h7)))
theorem slices_Contains_int_int_ok (a0 : List Int) (a1 : Int) (r : Bool) (h : M.slices_Contains_int_int a0 a1 = some r) : Fn Tryz.prog 56 [sL 1 (ci .i64) a0, .int .i64 a1] (.pure (.bool r)) := by
 unfold M.slices_Contains_int_int at h
 refine fn_pure Tryz.func56 rfl (by kernel_rfl) (awp_seq (zg [0, 1] 0 (then_n (awp_seq ?_))))
 obtain ⟨r1, q1, h2⟩ := bind_some h
 exact zr [4] 0 nil_all (rq1 (slices_Index_int_int_ok _ _ _ q1) rqn) (then_n (awp_ret (er1 h2)))
theorem topo_Up_ok (a0 : TView) (a1 : Int) (a2 : Int) (r : Bool) (h : M.topo_Up a0 a1 a2 = some r) : Fn Tryz.prog 29 [.agg (c_TView a0), .int .i64 a1, .int .i64 a2] (.pure (.bool r)) := by
 unfold M.topo_Up at h
 refine fn_pure Tryz.func29 rfl (by kernel_rfl) (awp_seq (zg [1, 2, 3] 1 (then_n (awp_seq (awp_seq ?_)))))
 obtain ⟨r1, q1, h2⟩ := bind_some h
 refine zr [1, 2, 3, 12] 1 nil_all (rq1 (topo_Domain_ok _ _ _ _ q1) rqn) (then_n (cn h2 (fun _ h4 => ?_) (fun _ h5 => ?_)))
 refine awp_seq ?_
 cases h4
 refine awp_skip (then_n (awp_seq ?_))
 obtain ⟨r2, q6, h7⟩ := bind_some h5
 refine zr [3, 7] 1 nil_all (rq1 (topo_Link_ok _ _ _ _ q6) rqn) (then_n (awp_seq ?_))
 obtain ⟨r3, q8, h9⟩ := bind_some h7
 exact zr [6] 0 nil_all (rq2 (fun hg => slices_Contains_int_int_ok _ _ _ (gc_some q8 hg)) rqn) (then_n (awp_ret (er1 h9)))
theorem law13_sane_ok  (r : Bool) (h : M.law13_sane  = some r) : Fn Tryz.prog 15 [] (.pure (.bool r)) := by
 unfold M.law13_sane at h
 refine fn_pure Tryz.func15 rfl (by kernel_rfl) (awp_seq (zg [] 0 (then_n (awp_seq ?_))))
 obtain ⟨r1, q1, h2⟩ := bind_some h
 let u1 := c_TNetwork r1
 obtain ⟨r2, q3, h4⟩ := bind_some h2
 refine rg [.pure (.agg u1), .pure (.tup [.agg (c_TView r2.1), .int .i64 r2.2])] [1, 2] 1 ⟨49, [(1, .ref 0 0), (2, .int .i64 r2.2)], [.box (c_TView r2.1)]⟩ [] [⟨true, 47, [], .pure (.agg u1)⟩, ⟨true, 16, [.agg u1, .nils], .pure (.tup [.agg (c_TView r2.1), .int .i64 r2.2])⟩] nil_all ⟨fun _ => law13_pair_ok  r1 q1, fun _ => (topo_Make_ok r1 ([] : List Int) r2 q3).args (.cons ASub.rfl (.cons asub_nils .nil)), trivial⟩ (then_n (awp_seq ?_))
 obtain ⟨r3, q5, h6⟩ := bind_some h4
 obtain ⟨r4, q7, h8⟩ := bind_some h6
 refine rg [.pure (.agg (c_TNetwork r3)), .pure (.tup [.agg (c_TView r4.1), .int .i64 r4.2])] [1, 2, 3, 4] 2 ⟨49, [(1, .ref 0 0), (2, .int .i64 r2.2), (3, .ref 1 0), (4, .int .i64 r4.2)], [.box (c_TView r2.1), .box (c_TView r4.1)]⟩ [] [⟨true, 47, [], .pure (.agg (c_TNetwork r3))⟩, ⟨true, 16, [.agg (c_TNetwork r3), .sl false 1 1 (fun i => List.take 1 (List.drop (i * 1) [.int .i64 0]))], .pure (.tup [.agg (c_TView r4.1), .int .i64 r4.2])⟩] nil_all ⟨fun _ => law13_pair_ok  r3 q5, fun _ => (topo_Make_ok r3 ([0] : List Int) r4 q7).args (.cons ASub.rfl (.cons (asub_sl rfl (fun i hi => match i, hi with | 0, _ => rfl | n + 1, h => absurd h (by omega))) .nil)), trivial⟩ (then_n (awp_seq ?_))
 obtain ⟨r5, q9, h10⟩ := bind_some h8
 obtain ⟨r6, q11, h12⟩ := bind_some h10
 obtain ⟨r7, q13, h14⟩ := bind_some h12
 exact zr [0] 0 nil_all (rq2 (fun hg => topo_Up_ok _ _ _ _ (gc_some q9 hg)) (rq2 (fun hg => topo_Up_ok _ _ _ _ (gc_some q11 hg)) (rq2 (fun hg => topo_Up_ok _ _ _ _ (gc_some q13 hg)) rqn))) (then_n (awp_ret (er1 h14)))
theorem law13_TopoDomains_ok (a0 : TNetwork) (r : Bool) (h : M.law13_TopoDomains a0 = some r) : Fn Tryz.prog 5 [.agg (c_TNetwork a0)] (.pure (.bool r)) := by
 unfold M.law13_TopoDomains at h
 refine fn_pure Tryz.func5 rfl (by kernel_rfl) (awp_seq (zg [1] 1 (then_n (awp_seq (awp_seq ?_)))))
 obtain ⟨r1, q1, h2⟩ := bind_some h
 refine zr [1, 17] 1 nil_all (rq1 (law13_Small_ok _ _ q1) rqn) (then_n (cn h2 (fun _ h4 => ?_) (fun _ h5 => ?_)))
 exact awp_seq (zg [2] 0 (then_n (awp_ret (then_r (er1 h4)))))
 refine awp_skip (then_n (awp_seq ?_))
 obtain ⟨r2, q6, h7⟩ := bind_some h5
 let u2 : List Ob := [.box (c_TNetwork a0), .box (c_TTopology r2.1)]
 let u3 := (r2.1.fDomains.length : Int)
 let u4 := (r2.1.fLinks.length : Int)
 refine zr [1, 3, 4] 2 nil_all (rq1 (topo_Build_ok _ _ q6) rqn) (then_n (awp_seq (awp_seq (zg [1, 3, 24] 2 (then_n (cn h7 (fun _ h9 => ?_) (fun _ h10 => ?_)))))))
 refine awp_seq ?_
 obtain ⟨r3, q11, h12⟩ := bind_some h9
 exact rg [.pure (.bool r3)] [2] 0 ⟨171, [(2, .bool (((u3 == 0) && (u4 == 0)) && r3))], []⟩ [] [⟨(u3 == 0) && (u4 == 0), 15, [], .pure (.bool r3)⟩] nil_all ⟨fun hg => law13_sane_ok  r3 (gc_some q11 hg), trivial⟩ (then_n (awp_ret (then_r (er1 h12))))
 refine awp_skip (then_n (awp_seq (zg [1, 3, 5] 2 (then_n (awp_seq (awp_seq (zg [1, 3, 5, 6] 2 (then_n (awp_block ?_)))))))))
 obtain ⟨y18, q66, h67⟩ := bind_some h10
 refine zl (fun (p4 : Int) => ⟨171, [(1, .ref 0 0), (3, .ref 1 0), (5, .int .i64 0), (6, .int .i64 p4)], u2⟩) (Sum.elim (fun z => OutE 0 (fun z => ⟨171, [(3, .ref 1 0), (5, .int .i64 0)], u2⟩) z) (fun z => OutR Tryz.prog Tryz.f5 (.bool z))) q66 ?_ ?_
 intro p4 y5 h13
 unfold M.law13_TopoDomains_l1 at h13
 refine awp_seq (awp_seq (zg [1, 3, 5, 6, 42] 2 (then_n (cn h13 (fun _ h15 => ?_) (fun _ h16 => ?_)))))
 refine awp_skip (then_n (awp_seq (awp_block (awp_seq (zg [1, 3, 5, 6, 7] 2 (then_n (awp_block ?_)))))))
 obtain ⟨y15, q57, h58⟩ := bind_some h15
 refine zl (fun (p6 : Int) => ⟨171, [(1, .ref 0 0), (3, .ref 1 0), (5, .int .i64 0), (6, .int .i64 p4), (7, .int .i64 p6)], u2⟩) (Sum.elim (fun z => OutE 2 (fun z => ⟨171, [(1, .ref 0 0), (3, .ref 1 0), (5, .int .i64 0), (6, .int .i64 p4)], u2⟩) z) (fun z => OutR Tryz.prog Tryz.f5 (.bool z))) q57 ?_ ?_
 intro p6 y7 h17
 let u1 : List Ob := [.box (c_TNetwork a0), .box (c_TTopology r2.1), .box (c_TInterface (((a0.fRouters.getD p4.toNat default).fInterfaces).getD p6.toNat default))]
 unfold M.law13_TopoDomains_l2 at h17
 refine awp_seq (awp_seq ?_)
 obtain ⟨c18, h19⟩ := gd_some h17
 refine zc [1, 3, 5, 6, 7, 53] 2 c18 (then_n (cn h19 (fun _ h21 => ?_) (fun _ h22 => ?_)))
 refine awp_skip (then_n (awp_seq (awp_block (awp_seq ?_))))
 obtain ⟨c23, h24⟩ := gd_some h21
 refine zc [1, 3, 5, 6, 7, 8] 3 c23 (then_n (awp_seq (zg [1, 3, 5, 6, 7, 8, 9] 3 (then_n (awp_seq (awp_seq (zg [1, 3, 5, 6, 7, 8, 9, 10] 3 (then_n (awp_block ?_)))))))))
 obtain ⟨y14, q48, h49⟩ := bind_some h24
 refine zl (fun (p8 : Int × Int) => ⟨171, [(1, .ref 0 0), (3, .ref 1 0), (5, .int .i64 0), (6, .int .i64 p4), (7, .int .i64 p6), (8, .ref 2 0), (9, .int .i64 p8.1), (10, .int .i64 p8.2)], u1⟩) (fun z => OutE 4 (fun z => ⟨171, [(1, .ref 0 0), (3, .ref 1 0), (5, .int .i64 0), (6, .int .i64 p4), (7, .int .i64 p6), (8, .ref 2 0), (9, .int .i64 z)], u1⟩) z) q48 ?_ ?_
 intro p8 y9 h25
 unfold M.law13_TopoDomains_l3 at h25
 refine awp_seq (awp_seq (zg [1, 3, 5, 6, 7, 8, 9, 10, 69] 3 (then_n (cn h25 (fun _ h27 => ?_) (fun _ h28 => ?_)))))
 refine awp_skip (then_n (awp_seq (awp_block (awp_seq (zg [1, 3, 5, 6, 7, 8, 9, 10, 11] 3 (then_n (awp_block ?_)))))))
 obtain ⟨y13, q42, h43⟩ := bind_some h27
 refine zl (fun (p10 : Int × Int) => ⟨171, [(1, .ref 0 0), (3, .ref 1 0), (5, .int .i64 0), (6, .int .i64 p4), (7, .int .i64 p6), (8, .ref 2 0), (9, .int .i64 p10.1), (10, .int .i64 p8.2), (11, .int .i64 p10.2)], u1⟩) (fun z => OutE 6 (fun z => ⟨171, [(1, .ref 0 0), (3, .ref 1 0), (5, .int .i64 0), (6, .int .i64 p4), (7, .int .i64 p6), (8, .ref 2 0), (9, .int .i64 z), (10, .int .i64 p8.2)], u1⟩) z) q42 ?_ ?_
 intro p10 y11 h29
 unfold M.law13_TopoDomains_l4 at h29
 refine awp_seq (awp_seq ?_)
 obtain ⟨c30, h31⟩ := gd_some h29
 refine rgc [1, 3, 5, 6, 7, 8, 9, 10, 11, 80] 3 ⟨171, [(1, .ref 0 0), (3, .ref 1 0), (5, .int .i64 0), (6, .int .i64 p4), (7, .int .i64 p6), (8, .ref 2 0), (9, .int .i64 p10.1), (10, .int .i64 p8.2), (11, .int .i64 p10.2), (80, .bool (decide (p10.2 < (((r2.1.fDomains.getD p8.2.toNat default).fEnds).length : Int))))], u1⟩ [decide (0 ≤ p8.2), decide (p8.2 < u3)] c30 (then_n (cn h31 (fun _ h33 => ?_) (fun _ h34 => ?_)))
 refine awp_skip (then_n (awp_join (fun (p12 : Int) => ⟨171, [(1, .ref 0 0), (3, .ref 1 0), (5, .int .i64 0), (6, .int .i64 p4), (7, .int .i64 p6), (8, .ref 2 0), (9, .int .i64 p12), (10, .int .i64 p8.2), (11, .int .i64 p10.2)], u1⟩) (fun p12 => M.law13_TopoDomains_k1 p10 p12 = some y11) ?_ ?_))
 intro p12 h36
 unfold M.law13_TopoDomains_k1 at h36
 exact zg [1, 3, 5, 6, 7, 8, 9, 10, 11] 3 (rn h36)
 intro k35
 refine awp_block (awp_seq ?_)
 obtain ⟨c37, h38⟩ := gd_some h33
 refine zc [1, 3, 5, 6, 7, 8, 9, 10, 11, 95] 3 c37 (then_n (cn h38 (fun _ h40 => ?_) (fun _ h41 => ?_)))
 exact zg [1, 3, 5, 6, 7, 8, 9, 10, 11] 3 (inb_n (then_le lk (k35 (wr .i64 (p10.1 + 1)) h40)))
 exact awp_skip (inb_n (then_le kq (k35 p10.1 h41)))
 exact awp_exit (then_e (re h34 ⟨rfl, kq⟩))
 intro e44 s45 o46
 obtain ⟨rfl, l47⟩ := o46
 exact inb_here (inb_n (then_le (s' := ⟨171, [(1, .ref 0 0), (3, .ref 1 0), (5, .int .i64 0), (6, .int .i64 p4), (7, .int .i64 p6), (8, .ref 2 0), (9, .int .i64 y13), (10, .int .i64 p8.2)], u1⟩) (l47) (zg [1, 3, 5, 6, 7, 8, 9, 10] 3 (rn h43))))
 exact awp_exit (then_e (re h28 ⟨rfl, kq⟩))
 intro e50 s51 o52
 refine zi o52 (awp_seq (zg [1, 3, 5, 6, 7, 112] 2 (then_n (cn h49 (fun _ h55 => ?_) (fun _ h56 => ?_)))))
 exact awp_seq (zg [2] 0 (then_n (awp_ret (inb_r (then_r (rr h55 ⟨rfl, er0 _⟩))))))
 exact awp_skip (inb_n (then_n (zg [1, 3, 5, 6, 7] 2 (rn h56))))
 exact awp_exit (then_e (re h22 ⟨rfl, kq⟩))
 intro e59 s60 o61
 rcases y15 with g16 | y17
 have h62 := elim_l h58
 obtain ⟨rfl, l64⟩ := o61
 exact inb_here (inb_n (then_le (s' := ⟨171, [(1, .ref 0 0), (3, .ref 1 0), (5, .int .i64 0), (6, .int .i64 p4)], u2⟩) (l64) (zg [1, 3, 5, 6] 2 (rn h62))))
 have h63 := elim_r h58
 obtain ⟨rfl, n65⟩ := o61
 exact inb_r (inb_r (then_r (rr h63 ⟨rfl, n65⟩)))
 exact awp_exit (then_e (re h16 ⟨rfl, kq⟩))
 intro e68 s69 o70
 rcases y18 with g19 | y20
 have h71 := elim_l h67
 refine zi o70 (awp_seq (awp_seq (zg [3, 5, 12] 2 (then_n (awp_block ?_)))))
 obtain ⟨y29, q108, h109⟩ := bind_some h71
 refine zl (fun (p21 : Int × Int) => ⟨171, [(3, .ref 1 0), (5, .int .i64 p21.1), (12, .int .i64 p21.2)], u2⟩) (Sum.elim (fun z => OutE 8 (fun z => ⟨171, [(3, .ref 1 0), (5, .int .i64 z)], u2⟩) z) (fun z => OutR Tryz.prog Tryz.f5 (.bool z))) q108 ?_ ?_
 intro p21 y22 h74
 let u5 : Nat × D := (13, sL 2 c_TEnd ((r2.1.fDomains.getD p21.2.toNat default).fEnds))
 unfold M.law13_TopoDomains_l5 at h74
 refine awp_seq (awp_seq (rg0 [3, 5, 12, 117] 2 ⟨171, [(3, .ref 1 0), (5, .int .i64 p21.1), (12, .int .i64 p21.2), (117, .bool (decide (p21.2 < u3)))], u2⟩ (then_n (cn h74 (fun _ h76 => ?_) (fun _ h77 => ?_)))))
 refine awp_skip (then_n (awp_join (fun (p23 : Int) => ⟨171, [(3, .ref 1 0), (5, .int .i64 p23), (12, .int .i64 p21.2)], u2⟩) (fun p23 => M.law13_TopoDomains_k2 p21 p23 = some y22) ?_ ?_))
 intro p23 h79
 unfold M.law13_TopoDomains_k2 at h79
 exact zg [3, 5, 12] 2 (rn h79)
 intro k78
 refine awp_block (awp_seq ?_)
 obtain ⟨c80, h81⟩ := gd_some h76
 refine zc [3, 5, 12, 13] 2 c80 (then_n (awp_seq (awp_seq (zg [3, 5, 12, 13, 14] 2 (then_n (awp_block ?_))))))
 obtain ⟨y26, q91, h92⟩ := bind_some h81
 refine zl (fun (p24 : Int) => ⟨171, [(3, .ref 1 0), (5, .int .i64 p21.1), (12, .int .i64 p21.2), u5, (14, .int .i64 p24)], u2⟩) (Sum.elim (fun z => OutE 10 (fun z => ⟨171, [(3, .ref 1 0), (5, .int .i64 p21.1), (12, .int .i64 p21.2), u5], u2⟩) z) (fun z => OutR Tryz.prog Tryz.f5 (.bool z))) q91 ?_ ?_
 intro p24 y25 h82
 unfold M.law13_TopoDomains_l6 at h82
 refine awp_seq (awp_seq (zg [3, 5, 12, 13, 14, 129] 2 (then_n (cn h82 (fun _ h84 => ?_) (fun _ h85 => ?_)))))
 refine awp_skip (then_n (awp_seq (awp_block (awp_seq ?_))))
 obtain ⟨c86, h87⟩ := gd_some h84
 refine zc [3, 5, 12, 13, 14, 143] 2 c86 (then_n (cn h87 (fun _ h89 => ?_) (fun _ h90 => ?_)))
 exact awp_seq (zg [2] 0 (then_n (awp_ret (inb_r (then_r (rr h89 ⟨rfl, er0 _⟩))))))
 exact awp_skip (inb_n (then_n (zg [3, 5, 12, 13, 14] 2 (rn h90))))
 exact awp_exit (then_e (re h85 ⟨rfl, kq⟩))
 intro e93 s94 o95
 rcases y26 with g27 | y28
 have h96 := elim_l h92
 refine zi o95 (awp_seq (zg [3, 5, 12, 146] 2 (then_n (cn h96 (fun _ h100 => ?_) (fun _ h101 => ?_)))))
 refine awp_seq (awp_seq ?_)
 obtain ⟨c102, h103⟩ := gd_some h100
 refine zc [3, 5, 12, 160] 2 c102 (then_n (cn h103 (fun _ h105 => ?_) (fun _ h106 => ?_)))
 exact awp_seq (zg [2] 0 (then_n (awp_ret (then_r (inb_r (then_r (rr h105 ⟨rfl, er0 _⟩)))))))
 exact awp_skip (then_n (zg [3, 5, 12] 2 (inb_n (then_le lk (k78 (wr .i64 (p21.1 + 1)) h106)))))
 exact awp_skip (inb_n (then_le kq (k78 p21.1 h101)))
 have h97 := elim_r h92
 obtain ⟨rfl, n107⟩ := o95
 exact inb_r (then_r (inb_r (then_r (rr h97 ⟨rfl, n107⟩))))
 exact awp_exit (then_e (re h77 ⟨rfl, kq⟩))
 intro e110 s111 o112
 rcases y29 with g30 | y31
 have h113 := elim_l h109
 refine zi o112 (awp_seq ?_)
 obtain ⟨r32, q116, h117⟩ := bind_some h113
 exact rg [.pure (.bool r32)] [2] 0 ⟨171, [(2, .bool ((g30 == u4) && r32))], []⟩ [] [⟨g30 == u4, 15, [], .pure (.bool r32)⟩] nil_all ⟨fun hg => law13_sane_ok  r32 (gc_some q116 hg), trivial⟩ (then_n (awp_ret (er1 h117)))
 have h114 := elim_r h109
 obtain ⟨rfl, n118⟩ := o112
 refine inb_r (then_r ?_)
 obtain rfl := Option.some.inj h114
 exact n118
 have h72 := elim_r h67
 obtain ⟨rfl, n119⟩ := o70
 refine inb_r (then_r ?_)
 obtain rfl := Option.some.inj h72
 exact n119
end Nv
