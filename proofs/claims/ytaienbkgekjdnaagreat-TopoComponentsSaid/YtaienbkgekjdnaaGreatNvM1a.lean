/- The walks: each function computes its mirror. -/
import Derived.Test.YtaienbkgekjdnaaGreatProg
import Derived.Test.YtaienbkgekjdnaaGreatNvD1
import Derived.Test.YtaienbkgekjdnaaGreatNvLibC
import Derived.Test.YtaienbkgekjdnaaGreatNvLibB
import Derived.KernelRfl
import Derived.Ground.SlsfProg
import Derived.Shelf.Lay
import Derived.Test.YtaienbkgekjdnaaGreatNvLibD
set_option maxRecDepth 100000
namespace Nv
open Go Go.Proofs
theorem ZeY (a0 : Zf) (r : Bool) (h : M.Vm a0 = some r) : Fn Tryz.prog 36 [.agg (Zp a0)] (.pure (.bool r)) := by
 let u1 : List Ob := [.box (Zp a0)]
 let u2 : St := ⟨141, [(1, .ref 0 0)], u1⟩
 unfold M.Vm at h
 refine ZS Tryz.func36 rfl (by kernel_rfl) (Za (zg [1] 1 (Zb (Za (Za (zg [1, 95] 1 (Zb (cn h (fun _ h2 => ?_) (fun _ h3 => ?_)))))))))
 exact Za (zg [2] 0 (Zb (Zi (Zk (er1 h2)))))
 refine Ze (Zb (Za (Za (zg [1, 3] 1 (Zb (Zg ?_))))))
 obtain ⟨y3, q13, h14⟩ := bind_some h3
 refine zl (fun (p1 : Int) => ⟨141, [(1, .ref 0 0), (3, .int .i64 p1)], u1⟩) (Sum.elim (fun z => OutE 0 (fun z => u2) z) (fun z => OutR Tryz.prog Tryz.f36 (.bool z))) q13 ?_ ?_
 intro p1 y2 h4
 unfold M.Vp at h4
 refine Za (Za (zg [1, 3, 100] 1 (Zb (cn h4 (fun _ h6 => ?_) (fun _ h7 => ?_)))))
 refine Ze (Zb (Za (Zg (Za ?_))))
 obtain ⟨c8, h9⟩ := Zr h6
 refine zc [1, 3, 110] 1 c8 (Zb (cn h9 (fun _ h11 => ?_) (fun _ h12 => ?_)))
 exact Za (zg [2] 0 (Zb (Zi (Z7 (Zk (rr h11 ⟨rfl, er0 _⟩))))))
 exact Ze (XO (Zb (zg [1, 3] 1 (rn h12))))
 exact ZQ (Xh (re h7 ⟨rfl, kq⟩))
 intro e15 s16 o17
 rcases y3 with g4 | y5
 have h18 := X8 h14
 refine zi o17 (Za (Za (zg [1, 4] 1 (Zb (Zg ?_)))))
 obtain ⟨y8, q30, h31⟩ := bind_some h18
 refine zl (fun (p6 : Int) => ⟨141, [(1, .ref 0 0), (4, .int .i64 p6)], u1⟩) (Sum.elim (fun z => OutE 2 (fun z => u2) z) (fun z => OutR Tryz.prog Tryz.f36 (.bool z))) q30 ?_ ?_
 intro p6 y7 h21
 unfold M.Vq at h21
 refine Za (Za (zg [1, 4, 115] 1 (Zb (cn h21 (fun _ h23 => ?_) (fun _ h24 => ?_)))))
 refine Ze (Zb (Za (Zg (Za ?_))))
 obtain ⟨c25, h26⟩ := Zr h23
 refine zc [1, 4, 125] 1 c25 (Zb (cn h26 (fun _ h28 => ?_) (fun _ h29 => ?_)))
 exact Za (zg [2] 0 (Zb (Zi (Z7 (Zk (rr h28 ⟨rfl, er0 _⟩))))))
 exact Ze (XO (Zb (zg [1, 4] 1 (rn h29))))
 exact ZQ (Xh (re h24 ⟨rfl, kq⟩))
 intro e32 s33 o34
 rcases y8 with g9 | y10
 have h35 := X8 h31
 refine zi o34 (Za (Za (zg [1, 5] 1 (Zb (Zg ?_)))))
 obtain ⟨y13, q47, h48⟩ := bind_some h35
 refine zl (fun (p11 : Int) => ⟨141, [(1, .ref 0 0), (5, .int .i64 p11)], u1⟩) (Sum.elim (fun z => OutE 4 (fun z => ⟨141, [], []⟩) z) (fun z => OutR Tryz.prog Tryz.f36 (.bool z))) q47 ?_ ?_
 intro p11 y12 h38
 unfold M.Vr at h38
 refine Za (Za (zg [1, 5, 130] 1 (Zb (cn h38 (fun _ h40 => ?_) (fun _ h41 => ?_)))))
 refine Ze (Zb (Za (Zg (Za ?_))))
 obtain ⟨c42, h43⟩ := Zr h40
 refine zc [1, 5, 140] 1 c42 (Zb (cn h43 (fun _ h45 => ?_) (fun _ h46 => ?_)))
 exact Za (zg [2] 0 (Zb (Zi (Z7 (Zk (rr h45 ⟨rfl, er0 _⟩))))))
 exact Ze (XO (Zb (zg [1, 5] 1 (rn h46))))
 exact ZQ (Xh (re h41 ⟨rfl, kc⟩))
 intro e49 s50 o51
 rcases y13 with g14 | y15
 have h52 := X8 h48
 exact zi o51 (Za (zg [2] 0 (Zb (Zi (er1 h52)))))
 have h53 := X9 h48
 obtain ⟨rfl, n55⟩ := o51
 refine Z7 (Zk ?_)
 obtain rfl := Option.some.inj h53
 exact n55
 have h36 := X9 h31
 obtain ⟨rfl, n56⟩ := o34
 refine Z7 (Zk ?_)
 obtain rfl := Option.some.inj h36
 exact n56
 have h19 := X9 h14
 obtain ⟨rfl, n57⟩ := o17
 refine Z7 (Zk ?_)
 obtain rfl := Option.some.inj h19
 exact n57
theorem ZeF (a0 : ZB) (r : Bool) (h : M.JT a0 = some r) : Fn Tryz.prog 11 [.agg (XH a0)] (.pure (.bool r)) := by
 unfold M.JT at h
 refine ZS Tryz.func11 rfl (by kernel_rfl) (Za (zg [1] 1 (Zb (Za (Za (zg [1, 7] 1 (Zb (cn h (fun _ h2 => ?_) (fun _ h3 => ?_)))))))))
 exact Za (zg [2] 0 (Zb (Zi (Zk (er1 h2)))))
 refine Ze (Zb (Za (Za (zg [1, 3] 1 (Zb (Zg ?_))))))
 obtain ⟨y4, q15, h16⟩ := bind_some h3
 refine zl (fun (p1 : Int) => ⟨22, [(1, .ref 0 0), (3, .int .i64 p1)], [.box (XH a0)]⟩) (Sum.elim (fun z => OutE 0 (fun z => ⟨22, [], []⟩) z) (fun z => OutR Tryz.prog Tryz.f11 (.bool z))) q15 ?_ ?_
 intro p1 y2 h4
 unfold M.Qi at h4
 refine Za (Za (zg [1, 3, 12] 1 (Zb (cn h4 (fun _ h6 => ?_) (fun _ h7 => ?_)))))
 refine Ze (Zb (Za (Zg (Za ?_))))
 obtain ⟨r3, q8, h9⟩ := bind_some h6
 obtain ⟨c10, h11⟩ := Zr h9
 refine zr [1, 3, 21] 1 c10 (rq1 (ZeY _ _ q8) rqn) (Zb (cn h11 (fun _ h13 => ?_) (fun _ h14 => ?_)))
 exact Za (zg [2] 0 (Zb (Zi (Z7 (Zk (rr h13 ⟨rfl, er0 _⟩))))))
 exact Ze (XO (Zb (zg [1, 3] 1 (rn h14))))
 exact ZQ (Xh (re h7 ⟨rfl, kc⟩))
 intro e17 s18 o19
 rcases y4 with g5 | y6
 have h20 := X8 h16
 exact zi o19 (Za (zg [2] 0 (Zb (Zi (er1 h20)))))
 have h21 := X9 h16
 obtain ⟨rfl, n23⟩ := o19
 refine Z7 (Zk ?_)
 obtain rfl := Option.some.inj h21
 exact n23
theorem RY (a0 : Int) (r : Bool) (h : M.VA a0 = some r) : Fn Tryz.prog 153 [.int .u8 a0] (.pure (.bool r)) := by
 unfold M.VA at h
 exact ZS Tryz.func153 rfl (by kernel_rfl) (Za (zg [0] 0 (Zb (Za (zg [2] 0 (Zb (Zi (er1 h))))))))
theorem U4 (a0 : ByteArray) (r : Bool) (h : M.QW a0 = some r) : Fn Tryz.prog 101 [.str a0] (.pure (.bool r)) := by
 unfold M.QW at h
 refine ZS Tryz.func101 rfl (by kernel_rfl) (Za (zg [0] 0 (Zb (Za (Za ?_)))))
 obtain ⟨r1, q1, h2⟩ := bind_some h
 obtain ⟨c3, h4⟩ := Zr h2
 refine zr [0, 18] 0 c3 (rq2 (fun hg => RY _ _ (XR q1 hg)) rqn) (Zb (cn h4 (fun _ h6 => ?_) (fun _ h7 => ?_)))
 exact Za (zg [2] 0 (Zb (Zi (Zk (er1 h6)))))
 refine Ze (Zb (Za (Za (zg [0, 3] 0 (Zb (Zg ?_))))))
 obtain ⟨y5, q19, h20⟩ := bind_some h7
 refine zl (fun (p2 : Int) => ⟨56, [(0, .str a0), (3, .int .i64 p2)], []⟩) (Sum.elim (fun z => OutE 0 (fun z => ⟨56, [], []⟩) z) (fun z => OutR Tryz.prog Tryz.f101 (.bool z))) q19 ?_ ?_
 intro p2 y3 h8
 unfold M.VT at h8
 refine Za (Za (zg [0, 3, 22] 0 (Zb (cn h8 (fun _ h10 => ?_) (fun _ h11 => ?_)))))
 refine Ze (Zb (Za (Zg (Za ?_))))
 obtain ⟨c12, h13⟩ := Zr h10
 refine zc [0, 3, 4] 0 c12 (Zb (Za ?_))
 obtain ⟨r4, q14, h15⟩ := bind_some h13
 refine zr [0, 3, 55] 0 Zx (rq1 (RY _ _ q14) rqn) (Zb (cn h15 (fun _ h17 => ?_) (fun _ h18 => ?_)))
 exact Za (zg [2] 0 (Zb (Zi (Z7 (Zk (rr h17 ⟨rfl, er0 _⟩))))))
 exact Ze (XO (Zb (zg [0, 3] 0 (rn h18))))
 exact ZQ (Xh (re h11 ⟨rfl, kq⟩))
 intro e21 s22 o23
 rcases y5 with g6 | y7
 have h24 := X8 h20
 exact zi o23 (Za (zg [2] 0 (Zb (Zi (er1 h24)))))
 have h25 := X9 h20
 obtain ⟨rfl, n27⟩ := o23
 refine Z7 (Zk ?_)
 obtain rfl := Option.some.inj h25
 exact n27
theorem XQ (a0 : Int) (a1 : Int) (a2 : Int) (r : Bool) (h : M.ZX a0 a1 a2 = some r) : Fn Tryz.prog 102 [.int .i64 a0, .int .i64 a1, .int .i64 a2] (.pure (.bool r)) := by
 unfold M.ZX at h
 exact ZS Tryz.func102 rfl (by kernel_rfl) (Za (zg [0, 1, 2] 0 (Zb (Za (zg [6] 0 (Zb (Zi (er1 h))))))))
theorem KV (a0 : Int) (r : Int) (h : M.Jg a0 = some r) : Fn Tryz.prog 67 [.int .i64 a0] (.pure (.int .u32 r)) := by
 unfold M.Jg at h
 refine ZS Tryz.func67 rfl (by kernel_rfl) (Za (zg [0] 0 (Zb (Za (zg [0, 3] 0 (Zb (Za (Za (zg [0, 3, 4] 0 (Zb (Zg ?_)))))))))))
 obtain ⟨y4, q12, h13⟩ := bind_some h
 refine zl (fun (p1 : Int × Int) => ⟨19, [(0, .int .i64 a0), (3, .int .u32 p1.1), (4, .int .i64 p1.2)], []⟩) (fun z => OutE 0 (fun z => ⟨19, [(3, .int .u32 z)], []⟩) z) q12 ?_ ?_
 intro p1 y2 h1
 unfold M.W0 at h1
 refine Za (Za (rg0 [0, 3, 4, 6] 0 ⟨19, [(0, .int .i64 a0), (3, .int .u32 p1.1), (4, .int .i64 p1.2), (6, .bool (decide (p1.2 < 32)))], []⟩ (Zb (cn h1 (fun _ h3 => ?_) (fun _ h4 => ?_)))))
 refine Ze (Zb (V7 (fun (p3 : Int) => ⟨19, [(0, .int .i64 a0), (3, .int .u32 p3), (4, .int .i64 p1.2)], []⟩) (fun p3 => M.U1 p1 p3 = some y2) ?_ ?_))
 intro p3 h6
 unfold M.U1 at h6
 exact zg [0, 3, 4] 0 (rn h6)
 intro k5
 refine Zg (Za (zg [0, 3, 4, 11] 0 (Zb (cn h3 (fun _ h8 => ?_) (fun _ h9 => ?_)))))
 obtain ⟨c10, h11⟩ := Zr h8
 exact zc [0, 3, 4] 0 c10 (XO (Xo lk (k5 (bitD .or .u32 p1.1 (wr .u32 (1 * 2 ^ min (wr .u64 (wr .i64 (31 - p1.2))).toNat 32))) h11)))
 exact Ze (XO (Xo kq (k5 p1.1 h9)))
 exact ZQ (Xh (re h4 ⟨rfl, kq⟩))
 intro e14 s15 o16
 exact zi o16 (Za (zg [2] 0 (Zb (Zi (er1 h13)))))
theorem Gr (a0 : Int) (a1 : Int) (r : ZZ) (h : M.Qs a0 a1 = some r) : Fn Tryz.prog 45 [.int .u32 a0, .int .i64 a1] (.pure (.agg (Xd r))) := by
 unfold M.Qs at h
 refine ZS Tryz.func45 rfl (by kernel_rfl) (Za (zg [0, 1, 4] 1 (Zb (Za (zg [0, 1, 4] 1 (Zb (Za ?_)))))))
 obtain ⟨r1, q1, h2⟩ := bind_some h
 refine zr [4] 1 Zx (rq1 (KV _ _ q1) rqn) (Zb (Zi ?_))
 obtain rfl := Option.some.inj h2
 exact er0 (.agg [.int .u32 (bitD .and .u32 a0 r1), .int .i64 (if 0 > (if 32 < a1 then 32 else a1) then 0 else (if 32 < a1 then 32 else a1))])
theorem ZcS (a0 : ZZ) (a1 : Int) (r : Bool) (h : M.J0 a0 a1 = some r) : Fn Tryz.prog 181 [.agg (Xd a0), .int .u32 a1] (.pure (.bool r)) := by
 unfold M.J0 at h
 refine ZS Tryz.func181 rfl (by kernel_rfl) (Za (zg [1, 2] 1 (Zb (Za ?_))))
 obtain ⟨r1, q1, h2⟩ := bind_some h
 exact zr [4] 0 Zx (rq1 (KV _ _ q1) rqn) (Zb (Zi (er1 h2)))
theorem RZ (a0 : ZZ) (a1 : ZZ) (r : Bool) (h : M.JU a0 a1 = some r) : Fn Tryz.prog 175 [.agg (Xd a0), .agg (Xd a1)] (.pure (.bool r)) := by
 unfold M.JU at h
 refine ZS Tryz.func175 rfl (by kernel_rfl) (Za (zg [2, 3] 2 (Zb (Za ?_))))
 obtain ⟨r1, q1, h2⟩ := bind_some h
 exact zr [4] 0 Zx (rq2 (fun hg => ZcS _ _ _ (XR q1 hg)) rqn) (Zb (Zi (er1 h2)))
theorem Kz (a0 : ZZ) (a1 : ZZ) (r : Bool) (h : M.Ql a0 a1 = some r) : Fn Tryz.prog 154 [.agg (Xd a0), .agg (Xd a1)] (.pure (.bool r)) := by
 unfold M.Ql at h
 refine ZS Tryz.func154 rfl (by kernel_rfl) (Za (zg [2, 3] 2 (Zb (Za ?_))))
 obtain ⟨r1, q1, h2⟩ := bind_some h
 obtain ⟨r2, q3, h4⟩ := bind_some h2
 exact zr [4] 0 Zx (rq1 (RZ _ _ _ q1) (rq2 (fun hg => RZ _ _ _ (XR q3 hg)) rqn)) (Zb (Zi (er1 h4)))
theorem Zbi (a0 : List Zl) (r : Int) (h : M.Yd a0 = some r) : Fn Tryz.prog 103 [sL 12 Zj a0] (.pure (.int .i64 r)) := by
 let u1 : Nat × D := (0, sL 12 Zj a0)
 unfold M.Yd at h
 refine ZS Tryz.func103 rfl (by kernel_rfl) (Za (zg [0] 0 (Zb (Za (Za (zg [0, 9] 0 (Zb (cn h (fun _ h2 => ?_) (fun _ h3 => ?_)))))))))
 exact Za (zg [2] 0 (Zb (Zi (Zk (er1 h2)))))
 refine Ze (Zb (Za (Za (zg [0, 3] 0 (Zb (Zg ?_))))))
 obtain ⟨y22, q76, h77⟩ := bind_some h3
 refine zl (fun (p1 : Int) => ⟨163, [u1, (3, .int .i64 p1)], []⟩) (Sum.elim (fun z => OutE 0 (fun z => ⟨163, [], []⟩) z) (fun z => OutR Tryz.prog Tryz.f103 (.int .i64 z))) q76 ?_ ?_
 intro p1 y2 h4
 let u2 : List Ob := [.box (Zj (a0.getD p1.toNat default))]
 unfold M.Yp at h4
 refine Za (Za (zg [0, 3, 13] 0 (Zb (cn h4 (fun _ h6 => ?_) (fun _ h7 => ?_)))))
 refine Ze (Zb (Za (Zg (Za ?_))))
 obtain ⟨c8, h9⟩ := Zr h6
 refine zc [0, 3, 4] 1 c8 (Zb (Za (Za ?_)))
 obtain ⟨r3, q10, h11⟩ := bind_some h9
 refine zr [0, 3, 4, 23] 1 Zx (rq1 (U4 _ _ q10) rqn) (Zb (cn h11 (fun _ h13 => ?_) (fun _ h14 => ?_)))
 exact Za (zg [2] 0 (Zb (Zi (Zk (Z7 (Zk (rr h13 ⟨rfl, er0 _⟩)))))))
 refine Ze (Zb (Za (Za (zg [0, 3, 4, 5] 1 (Zb (Zg ?_))))))
 obtain ⟨y6, q24, h25⟩ := bind_some h14
 refine zl (fun (p4 : Int) => ⟨163, [u1, (3, .int .i64 p1), (4, .ref 0 0), (5, .int .i64 p4)], u2⟩) (Sum.elim (fun z => OutE 2 (fun z => ⟨163, [u1, (3, .int .i64 p1), (4, .ref 0 0)], u2⟩) z) (fun z => OutR Tryz.prog Tryz.f103 (.int .i64 z))) q24 ?_ ?_
 intro p4 y5 h15
 unfold M.YH at h15
 refine Za (Za (zg [0, 3, 4, 5, 26] 1 (Zb (cn h15 (fun _ h17 => ?_) (fun _ h18 => ?_)))))
 refine Ze (Zb (Za (Zg (Za ?_))))
 obtain ⟨c19, h20⟩ := Zr h17
 refine zc [0, 3, 4, 5, 36] 1 c19 (Zb (cn h20 (fun _ h22 => ?_) (fun _ h23 => ?_)))
 exact Za (zg [2] 0 (Zb (Zi (Z7 (Zk (rr h22 ⟨rfl, er0 _⟩))))))
 exact Ze (XO (Zb (zg [0, 3, 4, 5] 1 (rn h23))))
 exact ZQ (Xh (re h18 ⟨rfl, kq⟩))
 intro e26 s27 o28
 rcases y6 with g7 | y8
 have h29 := X8 h25
 refine zi o28 (Za (Za ?_))
 obtain ⟨r9, q32, h33⟩ := bind_some h29
 obtain ⟨r10, q34, h35⟩ := bind_some h33
 obtain ⟨r11, q36, h37⟩ := bind_some h35
 refine zr [0, 3, 4, 52] 1 Zx (rq1 (XQ _ _ _ _ q32) (rq2 (fun hg => XQ _ _ _ _ (XR q34 hg)) (rq2 (fun hg => XQ _ _ _ _ (XR q36 hg)) rqn))) (Zb (cn h37 (fun _ h39 => ?_) (fun _ h40 => ?_)))
 exact Za (zg [2] 0 (Zb (Zi (Zk (Z7 (Zk (rr h39 ⟨rfl, er0 _⟩)))))))
 refine Ze (Zb (Za (Za (zg [0, 3, 4, 98] 1 (Zb (cn h40 (fun _ h42 => ?_) (fun _ h43 => ?_)))))))
 exact Za (zg [2] 0 (Zb (Zi (Zk (Z7 (Zk (rr h42 ⟨rfl, er0 _⟩)))))))
 refine Ze (Zb (Za (Za ?_)))
 obtain ⟨r12, q44, h45⟩ := bind_some h43
 obtain ⟨r13, q46, h47⟩ := bind_some h45
 refine zr [0, 3, 4, 127] 1 Zx (rq2 (fun hg => XQ _ _ _ _ (XR q44 hg)) (rq2 (fun hg => XQ _ _ _ _ (XR q46 hg)) rqn)) (Zb (cn h47 (fun _ h49 => ?_) (fun _ h50 => ?_)))
 exact Za (zg [2] 0 (Zb (Zi (Zk (Z7 (Zk (rr h49 ⟨rfl, er0 _⟩)))))))
 refine Ze (Zb (Za (zg [0, 3, 4, 6] 1 (Zb (Zg ?_)))))
 obtain ⟨y19, q66, h67⟩ := bind_some h50
 refine zl (fun (p14 : Int) => ⟨163, [u1, (3, .int .i64 p1), (4, .ref 0 0), (6, .int .i64 p14)], u2⟩) (Sum.elim (fun z => OutE 4 (fun z => ⟨163, [u1, (3, .int .i64 p1)], []⟩) z) (fun z => OutR Tryz.prog Tryz.f103 (.int .i64 z))) q66 ?_ ?_
 intro p14 y15 h51
 unfold M.Yo at h51
 refine Za (Za (zg [0, 3, 4, 6, 130] 1 (Zb (cn h51 (fun _ h53 => ?_) (fun _ h54 => ?_)))))
 refine Ze (Zb (Za (Zg (Za ?_))))
 obtain ⟨r16, q55, h56⟩ := bind_some h53
 obtain ⟨r17, q57, h58⟩ := bind_some h56
 obtain ⟨r18, q59, h60⟩ := bind_some h58
 obtain ⟨c61, h62⟩ := Zr h60
 refine zr [0, 3, 4, 6, 162] 1 c61 (rq2 (fun hg => Gr _ _ _ (XR q55 hg)) (rq2 (fun hg => Gr _ _ _ (XR q57 hg)) (rq2 (fun hg => Kz _ _ _ (XR q59 hg)) rqn))) (Zb (cn h62 (fun _ h64 => ?_) (fun _ h65 => ?_)))
 exact Za (zg [2] 0 (Zb (Zi (Z7 (Zk (rr h64 ⟨rfl, er0 _⟩))))))
 exact Ze (XO (Zb (zg [0, 3, 4, 6] 1 (rn h65))))
 exact ZQ (Xh (re h54 ⟨rfl, kc⟩))
 intro e68 s69 o70
 rcases y19 with g20 | y21
 have h71 := X8 h67
 obtain ⟨rfl, l73⟩ := o70
 exact YF (XO (Xo (s' := ⟨163, [u1, (3, .int .i64 p1)], []⟩) (l73) (zg [0, 3] 0 (rn h71))))
 have h72 := X9 h67
 obtain ⟨rfl, n74⟩ := o70
 exact Z7 (Z7 (Zk (rr h72 ⟨rfl, n74⟩)))
 have h30 := X9 h25
 obtain ⟨rfl, n75⟩ := o28
 exact Z7 (Zk (Z7 (Zk (rr h30 ⟨rfl, n75⟩))))
 exact ZQ (Xh (re h7 ⟨rfl, kq⟩))
 intro e78 s79 o80
 rcases y22 with g23 | y24
 have h81 := X8 h77
 exact zi o80 (Za (zg [2] 0 (Zb (Zi (er1 h81)))))
 have h82 := X9 h77
 obtain ⟨rfl, n84⟩ := o80
 refine Z7 (Zk ?_)
 obtain rfl := Option.some.inj h82
 exact n84
theorem WA (a0 : ZZ) (r : Bool) (h : M.Y8 a0 = some r) : Fn Tryz.prog 159 [.agg (Xd a0)] (.pure (.bool r)) := by
 unfold M.Y8 at h
 refine ZS Tryz.func159 rfl (by kernel_rfl) (Za (zg [1] 1 (Zb (Za ?_))))
 obtain ⟨r1, q1, h2⟩ := bind_some h
 exact zr [2] 0 Zx (rq2 (fun hg => KV _ _ (XR q1 hg)) rqn) (Zb (Zi (er1 h2)))
theorem KA (a0 : Un) (r : Bool) (h : M.YT a0 = some r) : Fn Tryz.prog 155 [.agg (Ke a0)] (.pure (.bool r)) := by
 unfold M.YT at h
 refine ZS Tryz.func155 rfl (by kernel_rfl) (Za (zg [1] 1 (Zb (Za ?_))))
 obtain ⟨r1, q1, h2⟩ := bind_some h
 exact zr [2] 0 Zx (rq1 (WA _ _ q1) rqn) (Zb (Zi (er1 h2)))
theorem ZaD (a0 : List Z2) (r : Int) (h : M.Qj a0 = some r) : Fn Tryz.prog 104 [sL 2 Zw a0] (.pure (.int .i64 r)) := by
 let u1 : Nat × D := (0, sL 2 Zw a0)
 unfold M.Qj at h
 refine ZS Tryz.func104 rfl (by kernel_rfl) (Za (zg [0] 0 (Zb (Za (Za (zg [0, 8] 0 (Zb (cn h (fun _ h2 => ?_) (fun _ h3 => ?_)))))))))
 exact Za (zg [2] 0 (Zb (Zi (Zk (er1 h2)))))
 refine Ze (Zb (Za (Za (zg [0, 3] 0 (Zb (Zg ?_))))))
 obtain ⟨y15, q65, h66⟩ := bind_some h3
 refine zl (fun (p1 : Int) => ⟨72, [u1, (3, .int .i64 p1)], []⟩) (Sum.elim (fun z => OutE 0 (fun z => ⟨72, [], []⟩) z) (fun z => OutR Tryz.prog Tryz.f104 (.int .i64 z))) q65 ?_ ?_
 intro p1 y2 h4
 unfold M.Qe at h4
 refine Za (Za (zg [0, 3, 12] 0 (Zb (cn h4 (fun _ h6 => ?_) (fun _ h7 => ?_)))))
 refine Ze (Zb (Za (Zg (Za (Za ?_)))))
 obtain ⟨r3, q8, h9⟩ := bind_some h6
 obtain ⟨c10, h11⟩ := Zr h9
 refine zr [0, 3, 21] 0 c10 (rq1 (U4 _ _ q8) rqn) (Zb (cn h11 (fun _ h13 => ?_) (fun _ h14 => ?_)))
 exact Za (zg [2] 0 (Zb (Zi (Zk (Z7 (Zk (rr h13 ⟨rfl, er0 _⟩)))))))
 refine Ze (Zb (Za (Za (zg [0, 3, 4] 0 (Zb (Zg ?_))))))
 obtain ⟨y6, q24, h25⟩ := bind_some h14
 refine zl (fun (p4 : Int) => ⟨72, [u1, (3, .int .i64 p1), (4, .int .i64 p4)], []⟩) (Sum.elim (fun z => OutE 2 (fun z => ⟨72, [u1, (3, .int .i64 p1)], []⟩) z) (fun z => OutR Tryz.prog Tryz.f104 (.int .i64 z))) q24 ?_ ?_
 intro p4 y5 h15
 unfold M.Qc at h15
 refine Za (Za (zg [0, 3, 4, 24] 0 (Zb (cn h15 (fun _ h17 => ?_) (fun _ h18 => ?_)))))
 refine Ze (Zb (Za (Zg (Za ?_))))
 obtain ⟨c19, h20⟩ := Zr h17
 refine zc [0, 3, 4, 37] 0 c19 (Zb (cn h20 (fun _ h22 => ?_) (fun _ h23 => ?_)))
 exact Za (zg [2] 0 (Zb (Zi (Z7 (Zk (rr h22 ⟨rfl, er0 _⟩))))))
 exact Ze (XO (Zb (zg [0, 3, 4] 0 (rn h23))))
 exact ZQ (Xh (re h18 ⟨rfl, kq⟩))
 intro e26 s27 o28
 rcases y6 with g7 | y8
 have h29 := X8 h25
 refine zi o28 (Za (Za ?_))
 obtain ⟨c32, h33⟩ := Zr h29
 refine zc [0, 3, 44] 0 c32 (Zb (cn h33 (fun _ h35 => ?_) (fun _ h36 => ?_)))
 exact Za (zg [2] 0 (Zb (Zi (Zk (Z7 (Zk (rr h35 ⟨rfl, er0 _⟩)))))))
 refine Ze (Zb (Za (Za ?_)))
 obtain ⟨c37, h38⟩ := Zr h36
 refine zc [0, 3, 51] 0 c37 (Zb (cn h38 (fun _ h40 => ?_) (fun _ h41 => ?_)))
 exact Za (zg [2] 0 (Zb (Zi (Zk (Z7 (Zk (rr h40 ⟨rfl, er0 _⟩)))))))
 refine Ze (Zb (Za (zg [0, 3, 5] 0 (Zb (Zg ?_)))))
 obtain ⟨y12, q55, h56⟩ := bind_some h41
 refine zl (fun (p9 : Int) => ⟨72, [u1, (3, .int .i64 p1), (5, .int .i64 p9)], []⟩) (Sum.elim (fun z => OutE 4 (fun z => ⟨72, [u1, (3, .int .i64 p1)], []⟩) z) (fun z => OutR Tryz.prog Tryz.f104 (.int .i64 z))) q55 ?_ ?_
 intro p9 y10 h42
 unfold M.Qd at h42
 refine Za (Za ?_)
 obtain ⟨c43, h44⟩ := Zr h42
 refine zc [0, 3, 5, 59] 0 c43 (Zb (cn h44 (fun _ h46 => ?_) (fun _ h47 => ?_)))
 refine Ze (Zb (Za (Zg (Za ?_))))
 obtain ⟨r11, q48, h49⟩ := bind_some h46
 obtain ⟨c50, h51⟩ := Zr h49
 refine zr [0, 3, 5, 71] 0 c50 (rq1 (KA _ _ q48) rqn) (Zb (cn h51 (fun _ h53 => ?_) (fun _ h54 => ?_)))
 exact Za (zg [2] 0 (Zb (Zi (Z7 (Zk (rr h53 ⟨rfl, er0 _⟩))))))
 exact Ze (XO (Zb (zg [0, 3, 5] 0 (rn h54))))
 exact ZQ (Xh (re h47 ⟨rfl, kq⟩))
 intro e57 s58 o59
 rcases y12 with g13 | y14
 have h60 := X8 h56
 obtain ⟨rfl, l62⟩ := o59
 exact YF (XO (Xo (s' := ⟨72, [u1, (3, .int .i64 p1)], []⟩) (l62) (zg [0, 3] 0 (rn h60))))
 have h61 := X9 h56
 obtain ⟨rfl, n63⟩ := o59
 exact Z7 (Z7 (Zk (rr h61 ⟨rfl, n63⟩)))
 have h30 := X9 h25
 obtain ⟨rfl, n64⟩ := o28
 exact Z7 (Zk (Z7 (Zk (rr h30 ⟨rfl, n64⟩))))
 exact ZQ (Xh (re h7 ⟨rfl, kq⟩))
 intro e67 s68 o69
 rcases y15 with g16 | y17
 have h70 := X8 h66
 exact zi o69 (Za (zg [2] 0 (Zb (Zi (er1 h70)))))
 have h71 := X9 h66
 obtain ⟨rfl, n73⟩ := o69
 refine Z7 (Zk ?_)
 obtain rfl := Option.some.inj h71
 exact n73
theorem UK (a0 : Zf) (a1 : ByteArray) (r : Int) (h : M.YO a0 a1 = some r) : Fn Tryz.prog 156 [.agg (Zp a0), .str a1] (.pure (.int .i64 r)) := by
 unfold M.YO at h
 refine ZS Tryz.func156 rfl (by kernel_rfl) (Za (zg [1, 2] 1 (Zb (Za (Za (zg [1, 2, 5] 1 (Zb (Zg ?_))))))))
 obtain ⟨y3, q10, h11⟩ := bind_some h
 refine zl (fun (p1 : Int) => ⟨22, [(1, .str a1), (2, .ref 0 0), (5, .int .i64 p1)], [.box (Zp a0)]⟩) (Sum.elim (fun z => OutE 0 (fun z => ⟨22, [], []⟩) z) (fun z => OutR Tryz.prog Tryz.f156 (.int .i64 z))) q10 ?_ ?_
 intro p1 y2 h1
 unfold M.Qt at h1
 refine Za (Za (zg [1, 2, 5, 10] 1 (Zb (cn h1 (fun _ h3 => ?_) (fun _ h4 => ?_)))))
 refine Ze (Zb (Za (Zg (Za ?_))))
 obtain ⟨c5, h6⟩ := Zr h3
 refine zc [1, 2, 5, 20] 1 c5 (Zb (cn h6 (fun _ h8 => ?_) (fun _ h9 => ?_)))
 exact Za (zg [4] 0 (Zb (Zi (Z7 (Zk (rr h8 ⟨rfl, er0 _⟩))))))
 exact Ze (XO (Zb (zg [1, 2, 5] 1 (rn h9))))
 exact ZQ (Xh (re h4 ⟨rfl, kc⟩))
 intro e12 s13 o14
 rcases y3 with g4 | y5
 have h15 := X8 h11
 exact zi o14 (Za (zg [4] 0 (Zb (Zi (er1 h15)))))
 have h16 := X9 h11
 obtain ⟨rfl, n18⟩ := o14
 refine Z7 (Zk ?_)
 obtain rfl := Option.some.inj h16
 exact n18
theorem Zcc (a0 : Zf) (r : Int) (h : M.QZ a0 = some r) : Fn Tryz.prog 105 [.agg (Zp a0)] (.pure (.int .i64 r)) := by
 let u1 : Nat × D := (3, sL 2 Z0 a0.XE)
 let u2 : List Ob := [.box (Zp a0)]
 unfold M.QZ at h
 refine ZS Tryz.func105 rfl (by kernel_rfl) (Za (zg [1] 1 (Zb (Za (zg [1, 3] 1 (Zb (Za (Za (zg [1, 3, 12] 1 (Zb (cn h (fun _ h2 => ?_) (fun _ h3 => ?_))))))))))))
 exact Za (zg [2] 0 (Zb (Zi (Zk (er1 h2)))))
 refine Ze (Zb (Za (Za (zg [1, 3, 4] 1 (Zb (Zg ?_))))))
 obtain ⟨y20, q78, h79⟩ := bind_some h3
 refine zl (fun (p1 : Int) => ⟨112, [(1, .ref 0 0), u1, (4, .int .i64 p1)], u2⟩) (Sum.elim (fun z => OutE 0 (fun z => ⟨112, [], []⟩) z) (fun z => OutR Tryz.prog Tryz.f105 (.int .i64 z))) q78 ?_ ?_
 intro p1 y2 h4
 unfold M.QN at h4
 refine Za (Za (zg [1, 3, 4, 16] 1 (Zb (cn h4 (fun _ h6 => ?_) (fun _ h7 => ?_)))))
 refine Ze (Zb (Za (Zg (Za (Za ?_)))))
 obtain ⟨r3, q8, h9⟩ := bind_some h6
 obtain ⟨c10, h11⟩ := Zr h9
 refine zr [1, 3, 4, 25] 1 c10 (rq1 (U4 _ _ q8) rqn) (Zb (cn h11 (fun _ h13 => ?_) (fun _ h14 => ?_)))
 exact Za (zg [2] 0 (Zb (Zi (Zk (Z7 (Zk (rr h13 ⟨rfl, er0 _⟩)))))))
 refine Ze (Zb (Za (Za (zg [1, 3, 4, 5] 1 (Zb (Zg ?_))))))
 obtain ⟨y6, q24, h25⟩ := bind_some h14
 refine zl (fun (p4 : Int) => ⟨112, [(1, .ref 0 0), u1, (4, .int .i64 p1), (5, .int .i64 p4)], u2⟩) (Sum.elim (fun z => OutE 2 (fun z => ⟨112, [(1, .ref 0 0), u1, (4, .int .i64 p1)], u2⟩) z) (fun z => OutR Tryz.prog Tryz.f105 (.int .i64 z))) q24 ?_ ?_
 intro p4 y5 h15
 unfold M.QL at h15
 refine Za (Za (zg [1, 3, 4, 5, 28] 1 (Zb (cn h15 (fun _ h17 => ?_) (fun _ h18 => ?_)))))
 refine Ze (Zb (Za (Zg (Za ?_))))
 obtain ⟨c19, h20⟩ := Zr h17
 refine zc [1, 3, 4, 5, 41] 1 c19 (Zb (cn h20 (fun _ h22 => ?_) (fun _ h23 => ?_)))
 exact Za (zg [2] 0 (Zb (Zi (Z7 (Zk (rr h22 ⟨rfl, er0 _⟩))))))
 exact Ze (XO (Zb (zg [1, 3, 4, 5] 1 (rn h23))))
 exact ZQ (Xh (re h18 ⟨rfl, kq⟩))
 intro e26 s27 o28
 rcases y6 with g7 | y8
 have h29 := X8 h25
 refine zi o28 (Za (Za ?_))
 obtain ⟨c32, h33⟩ := Zr h29
 refine zc [1, 3, 4, 48] 1 c32 (Zb (cn h33 (fun _ h35 => ?_) (fun _ h36 => ?_)))
 exact Za (zg [2] 0 (Zb (Zi (Zk (Z7 (Zk (rr h35 ⟨rfl, er0 _⟩)))))))
 refine Ze (Zb (Za (Za ?_)))
 obtain ⟨c37, h38⟩ := Zr h36
 refine zc [1, 3, 4, 55] 1 c37 (Zb (cn h38 (fun _ h40 => ?_) (fun _ h41 => ?_)))
 exact Za (zg [2] 0 (Zb (Zi (Zk (Z7 (Zk (rr h40 ⟨rfl, er0 _⟩)))))))
 refine Ze (Zb (Za (zg [1, 3, 4, 6] 1 (Zb (Zg ?_)))))
 obtain ⟨y17, q68, h69⟩ := bind_some h41
 refine zl (fun (p9 : Int) => ⟨112, [(1, .ref 0 0), u1, (4, .int .i64 p1), (6, .int .i64 p9)], u2⟩) (Sum.elim (fun z => OutE 4 (fun z => ⟨112, [(1, .ref 0 0), u1, (4, .int .i64 p1)], u2⟩) z) (fun z => OutR Tryz.prog Tryz.f105 (.int .i64 z))) q68 ?_ ?_
 intro p9 y10 h42
 unfold M.QM at h42
 refine Za (Za ?_)
 obtain ⟨c43, h44⟩ := Zr h42
 refine zc [1, 3, 4, 6, 63] 1 c43 (Zb (cn h44 (fun _ h46 => ?_) (fun _ h47 => ?_)))
 refine Ze (Zb (Za (Zg (Za ?_))))
 obtain ⟨c48, h49⟩ := Zr h46
 refine zc [1, 3, 4, 6, 7] 2 c48 (Zb (Za (Za ?_)))
 obtain ⟨r11, q50, h51⟩ := bind_some h49
 refine zr [1, 3, 4, 6, 7, 83] 2 Zx (rq2 (fun hg => UK _ _ _ (XR q50 hg)) rqn) (Zb (cn h51 (fun _ h53 => ?_) (fun _ h54 => ?_)))
 exact Za (zg [2] 0 (Zb (Zi (Zk (Z7 (Zk (rr h53 ⟨rfl, er0 _⟩)))))))
 refine Ze (Zb (Za ?_))
 obtain ⟨r12, q55, h56⟩ := bind_some h54
 obtain ⟨r13, q57, h58⟩ := bind_some h56
 obtain ⟨r14, q59, h60⟩ := bind_some h58
 obtain ⟨r15, q61, h62⟩ := bind_some h60
 obtain ⟨r16, q63, h64⟩ := bind_some h62
 refine zr [1, 3, 4, 6, 111] 1 Zx (rq1 (XQ _ _ _ _ q55) (rq2 (fun hg => XQ _ _ _ _ (XR q57 hg)) (rq2 (fun hg => XQ _ _ _ _ (XR q59 hg)) (rq2 (fun hg => XQ _ _ _ _ (XR q61 hg)) (rq2 (fun hg => XQ _ _ _ _ (XR q63 hg)) rqn))))) (Zb (cn h64 (fun _ h66 => ?_) (fun _ h67 => ?_)))
 exact Za (zg [2] 0 (Zb (Zi (Z7 (Zk (rr h66 ⟨rfl, er0 _⟩))))))
 exact Ze (XO (Zb (zg [1, 3, 4, 6] 1 (rn h67))))
 exact ZQ (Xh (re h47 ⟨rfl, kq⟩))
 intro e70 s71 o72
 rcases y17 with g18 | y19
 have h73 := X8 h69
 obtain ⟨rfl, l75⟩ := o72
 exact YF (XO (Xo (s' := ⟨112, [(1, .ref 0 0), u1, (4, .int .i64 p1)], u2⟩) (l75) (zg [1, 3, 4] 1 (rn h73))))
 have h74 := X9 h69
 obtain ⟨rfl, n76⟩ := o72
 exact Z7 (Z7 (Zk (rr h74 ⟨rfl, n76⟩)))
 have h30 := X9 h25
 obtain ⟨rfl, n77⟩ := o28
 exact Z7 (Zk (Z7 (Zk (rr h30 ⟨rfl, n77⟩))))
 exact ZQ (Xh (re h7 ⟨rfl, kc⟩))
 intro e80 s81 o82
 rcases y20 with g21 | y22
 have h83 := X8 h79
 exact zi o82 (Za (zg [2] 0 (Zb (Zi (er1 h83)))))
 have h84 := X9 h79
 obtain ⟨rfl, n86⟩ := o82
 refine Z7 (Zk ?_)
 obtain rfl := Option.some.inj h84
 exact n86
theorem ZaW (a0 : VK) (r : Bool) (h : M.V9 a0 = some r) : Fn Tryz.prog 176 [.agg (KO a0)] (.pure (.bool r)) := by
 unfold M.V9 at h
 exact ZS Tryz.func176 rfl (by kernel_rfl) (Za (zg [1] 1 (Zb (Za (zg [2] 0 (Zb (Zi (er1 h))))))))
theorem Zdj (a0 : VK) (r : Bool) (h : M.Uo a0 = some r) : Fn Tryz.prog 177 [.agg (KO a0)] (.pure (.bool r)) := by
 unfold M.Uo at h
 exact ZS Tryz.func177 rfl (by kernel_rfl) (Za (zg [1] 1 (Zb (Za (zg [2] 0 (Zb (Zi (er1 h))))))))
theorem Zcd (a0 : Zey) (r : Bool) (h : M.J6 a0 = some r) : Fn Tryz.prog 157 [.agg (ZfX a0)] (.pure (.bool r)) := by
 unfold M.J6 at h
 refine ZS Tryz.func157 rfl (by kernel_rfl) (Za (zg [1] 1 (Zb (Za (Za ?_)))))
 obtain ⟨r1, q1, h2⟩ := bind_some h
 obtain ⟨r2, q3, h4⟩ := bind_some h2
 obtain ⟨r3, q5, h6⟩ := bind_some h4
 refine zr [1, 38] 1 Zx (rq1 (XQ _ _ _ _ q1) (rq2 (fun hg => ZaW _ _ (XR q3 hg)) (rq2 (fun hg => ZaW _ _ (XR q5 hg)) rqn))) (Zb (cn h6 (fun _ h8 => ?_) (fun _ h9 => ?_)))
 exact Za (zg [2] 0 (Zb (Zi (Zk (er1 h8)))))
 refine Ze (Zb (Za ?_))
 obtain ⟨r4, q10, h11⟩ := bind_some h9
 obtain ⟨r5, q12, h13⟩ := bind_some h11
 exact zr [2] 0 Zx (rq2 (fun hg => Zdj _ _ (XR q10 hg)) (rq2 (fun hg => Zdj _ _ (XR q12 hg)) rqn)) (Zb (Zi (er1 h13)))
theorem ZaE (a0 : List Ud) (r : Int) (h : M.Qk a0 = some r) : Fn Tryz.prog 106 [sL 2 Yu a0] (.pure (.int .i64 r)) := by
 let u1 : Nat × D := (0, sL 2 Yu a0)
 unfold M.Qk at h
 refine ZS Tryz.func106 rfl (by kernel_rfl) (Za (zg [0] 0 (Zb (Za (Za (zg [0, 8] 0 (Zb (cn h (fun _ h2 => ?_) (fun _ h3 => ?_)))))))))
 exact Za (zg [2] 0 (Zb (Zi (Zk (er1 h2)))))
 refine Ze (Zb (Za (Za (zg [0, 3] 0 (Zb (Zg ?_))))))
 obtain ⟨y15, q65, h66⟩ := bind_some h3
 refine zl (fun (p1 : Int) => ⟨72, [u1, (3, .int .i64 p1)], []⟩) (Sum.elim (fun z => OutE 0 (fun z => ⟨72, [], []⟩) z) (fun z => OutR Tryz.prog Tryz.f106 (.int .i64 z))) q65 ?_ ?_
 intro p1 y2 h4
 unfold M.Qh at h4
 refine Za (Za (zg [0, 3, 12] 0 (Zb (cn h4 (fun _ h6 => ?_) (fun _ h7 => ?_)))))
 refine Ze (Zb (Za (Zg (Za (Za ?_)))))
 obtain ⟨r3, q8, h9⟩ := bind_some h6
 obtain ⟨c10, h11⟩ := Zr h9
 refine zr [0, 3, 21] 0 c10 (rq1 (U4 _ _ q8) rqn) (Zb (cn h11 (fun _ h13 => ?_) (fun _ h14 => ?_)))
 exact Za (zg [2] 0 (Zb (Zi (Zk (Z7 (Zk (rr h13 ⟨rfl, er0 _⟩)))))))
 refine Ze (Zb (Za (Za (zg [0, 3, 4] 0 (Zb (Zg ?_))))))
 obtain ⟨y6, q24, h25⟩ := bind_some h14
 refine zl (fun (p4 : Int) => ⟨72, [u1, (3, .int .i64 p1), (4, .int .i64 p4)], []⟩) (Sum.elim (fun z => OutE 2 (fun z => ⟨72, [u1, (3, .int .i64 p1)], []⟩) z) (fun z => OutR Tryz.prog Tryz.f106 (.int .i64 z))) q24 ?_ ?_
 intro p4 y5 h15
 unfold M.Qf at h15
 refine Za (Za (zg [0, 3, 4, 24] 0 (Zb (cn h15 (fun _ h17 => ?_) (fun _ h18 => ?_)))))
 refine Ze (Zb (Za (Zg (Za ?_))))
 obtain ⟨c19, h20⟩ := Zr h17
 refine zc [0, 3, 4, 37] 0 c19 (Zb (cn h20 (fun _ h22 => ?_) (fun _ h23 => ?_)))
 exact Za (zg [2] 0 (Zb (Zi (Z7 (Zk (rr h22 ⟨rfl, er0 _⟩))))))
 exact Ze (XO (Zb (zg [0, 3, 4] 0 (rn h23))))
 exact ZQ (Xh (re h18 ⟨rfl, kq⟩))
 intro e26 s27 o28
 rcases y6 with g7 | y8
 have h29 := X8 h25
 refine zi o28 (Za (Za ?_))
 obtain ⟨c32, h33⟩ := Zr h29
 refine zc [0, 3, 44] 0 c32 (Zb (cn h33 (fun _ h35 => ?_) (fun _ h36 => ?_)))
 exact Za (zg [2] 0 (Zb (Zi (Zk (Z7 (Zk (rr h35 ⟨rfl, er0 _⟩)))))))
 refine Ze (Zb (Za (Za ?_)))
 obtain ⟨c37, h38⟩ := Zr h36
 refine zc [0, 3, 51] 0 c37 (Zb (cn h38 (fun _ h40 => ?_) (fun _ h41 => ?_)))
 exact Za (zg [2] 0 (Zb (Zi (Zk (Z7 (Zk (rr h40 ⟨rfl, er0 _⟩)))))))
 refine Ze (Zb (Za (zg [0, 3, 5] 0 (Zb (Zg ?_)))))
 obtain ⟨y12, q55, h56⟩ := bind_some h41
 refine zl (fun (p9 : Int) => ⟨72, [u1, (3, .int .i64 p1), (5, .int .i64 p9)], []⟩) (Sum.elim (fun z => OutE 4 (fun z => ⟨72, [u1, (3, .int .i64 p1)], []⟩) z) (fun z => OutR Tryz.prog Tryz.f106 (.int .i64 z))) q55 ?_ ?_
 intro p9 y10 h42
 unfold M.Qg at h42
 refine Za (Za ?_)
 obtain ⟨c43, h44⟩ := Zr h42
 refine zc [0, 3, 5, 59] 0 c43 (Zb (cn h44 (fun _ h46 => ?_) (fun _ h47 => ?_)))
 refine Ze (Zb (Za (Zg (Za ?_))))
 obtain ⟨r11, q48, h49⟩ := bind_some h46
 obtain ⟨c50, h51⟩ := Zr h49
 refine zr [0, 3, 5, 71] 0 c50 (rq1 (Zcd _ _ q48) rqn) (Zb (cn h51 (fun _ h53 => ?_) (fun _ h54 => ?_)))
 exact Za (zg [2] 0 (Zb (Zi (Z7 (Zk (rr h53 ⟨rfl, er0 _⟩))))))
 exact Ze (XO (Zb (zg [0, 3, 5] 0 (rn h54))))
 exact ZQ (Xh (re h47 ⟨rfl, kq⟩))
 intro e57 s58 o59
 rcases y12 with g13 | y14
 have h60 := X8 h56
 obtain ⟨rfl, l62⟩ := o59
 exact YF (XO (Xo (s' := ⟨72, [u1, (3, .int .i64 p1)], []⟩) (l62) (zg [0, 3] 0 (rn h60))))
 have h61 := X9 h56
 obtain ⟨rfl, n63⟩ := o59
 exact Z7 (Z7 (Zk (rr h61 ⟨rfl, n63⟩)))
 have h30 := X9 h25
 obtain ⟨rfl, n64⟩ := o28
 exact Z7 (Zk (Z7 (Zk (rr h30 ⟨rfl, n64⟩))))
 exact ZQ (Xh (re h7 ⟨rfl, kq⟩))
 intro e67 s68 o69
 rcases y15 with g16 | y17
 have h70 := X8 h66
 exact zi o69 (Za (zg [2] 0 (Zb (Zi (er1 h70)))))
 have h71 := X9 h66
 obtain ⟨rfl, n73⟩ := o69
 refine Z7 (Zk ?_)
 obtain rfl := Option.some.inj h71
 exact n73
theorem R0 (a0 : Zf) (a1 : ByteArray) (r : Int) (h : M.WI a0 a1 = some r) : Fn Tryz.prog 158 [.agg (Zp a0), .str a1] (.pure (.int .i64 r)) := by
 unfold M.WI at h
 refine ZS Tryz.func158 rfl (by kernel_rfl) (Za (zg [1, 2] 1 (Zb (Za (Za (zg [1, 2, 5] 1 (Zb (Zg ?_))))))))
 obtain ⟨y3, q10, h11⟩ := bind_some h
 refine zl (fun (p1 : Int) => ⟨22, [(1, .str a1), (2, .ref 0 0), (5, .int .i64 p1)], [.box (Zp a0)]⟩) (Sum.elim (fun z => OutE 0 (fun z => ⟨22, [], []⟩) z) (fun z => OutR Tryz.prog Tryz.f158 (.int .i64 z))) q10 ?_ ?_
 intro p1 y2 h1
 unfold M.Wp at h1
 refine Za (Za (zg [1, 2, 5, 10] 1 (Zb (cn h1 (fun _ h3 => ?_) (fun _ h4 => ?_)))))
 refine Ze (Zb (Za (Zg (Za ?_))))
 obtain ⟨c5, h6⟩ := Zr h3
 refine zc [1, 2, 5, 20] 1 c5 (Zb (cn h6 (fun _ h8 => ?_) (fun _ h9 => ?_)))
 exact Za (zg [4] 0 (Zb (Zi (Z7 (Zk (rr h8 ⟨rfl, er0 _⟩))))))
 exact Ze (XO (Zb (zg [1, 2, 5] 1 (rn h9))))
 exact ZQ (Xh (re h4 ⟨rfl, kc⟩))
 intro e12 s13 o14
 rcases y3 with g4 | y5
 have h15 := X8 h11
 exact zi o14 (Za (zg [4] 0 (Zb (Zi (er1 h15)))))
 have h16 := X9 h11
 obtain ⟨rfl, n18⟩ := o14
 refine Z7 (Zk ?_)
 obtain rfl := Option.some.inj h16
 exact n18
theorem R1 (a0 : Zf) (r : Int) (h : M.YV a0 = some r) : Fn Tryz.prog 107 [.agg (Zp a0)] (.pure (.int .i64 r)) := by
 unfold M.YV at h
 refine ZS Tryz.func107 rfl (by kernel_rfl) (Za (zg [1] 1 (Zb (Za (Za (zg [1, 9] 1 (Zb (cn h (fun _ h2 => ?_) (fun _ h3 => ?_)))))))))
 exact Za (zg [2] 0 (Zb (Zi (Zk (er1 h2)))))
 refine Ze (Zb (Za (Za (zg [1, 3] 1 (Zb (Zg ?_))))))
 obtain ⟨y7, q33, h34⟩ := bind_some h3
 refine zl (fun (p1 : Int) => ⟨135, [(1, .ref 0 0), (3, .int .i64 p1)], [.box (Zp a0)]⟩) (Sum.elim (fun z => OutE 0 (fun z => ⟨135, [], []⟩) z) (fun z => OutR Tryz.prog Tryz.f107 (.int .i64 z))) q33 ?_ ?_
 intro p1 y2 h4
 let u1 := a0.Xa.getD p1.toNat default
 let u2 := ((u1.Jy) != 0) && ((u1.Qz) != 0)
 let u3 : List Ob := [.box (Zp a0), .box (Z3 u1)]
 unfold M.YU at h4
 refine Za (Za (zg [1, 3, 14] 1 (Zb (cn h4 (fun _ h6 => ?_) (fun _ h7 => ?_)))))
 refine Ze (Zb (Za (Zg (Za ?_))))
 obtain ⟨c8, h9⟩ := Zr h6
 refine zc [1, 3, 4] 2 c8 (Zb (Za (rg0 [1, 3, 4, 5] 2 ⟨135, [(1, .ref 0 0), (3, .int .i64 p1), (4, .ref 1 0), (5, .bool false)], u3⟩ (Zb (V7 (fun (p3 : Bool) => ⟨135, [(1, .ref 0 0), (3, .int .i64 p1), (4, .ref 1 0), (5, .bool p3)], u3⟩) (fun p3 => M.XV a0 p1 p3 = some y2) ?_ ?_)))))
 intro p3 h11
 unfold M.XV at h11
 refine Za (Za (zg [1, 3, 4, 124] 2 (Zb (cn h11 (fun _ h13 => ?_) (fun _ h14 => ?_)))))
 exact Za (zg [2] 0 (Zb (Zi (Zk (Z7 (Zk (rr h13 ⟨rfl, er0 _⟩)))))))
 refine Ze (Zb (Za ?_))
 obtain ⟨r4, q15, h16⟩ := bind_some h14
 refine zr [1, 3, 134] 1 Zx (rq2 (fun hg => R0 _ _ _ (XR q15 hg)) rqn) (Zb (cn h16 (fun _ h18 => ?_) (fun _ h19 => ?_)))
 exact Za (zg [2] 0 (Zb (Zi (Z7 (Zk (rr h18 ⟨rfl, er0 _⟩))))))
 exact Ze (XO (Zb (zg [1, 3] 1 (rn h19))))
 intro k10
 refine Za (zg [1, 3, 4, 5, 23] 2 (Zb (Zg (Za (zg [1, 3, 4, 5, 23, 24] 2 (Zb (cn h9 (fun _ h21 => ?_) (fun _ h22 => ?_))))))))
 exact zg [1, 3, 4, 5] 2 (XO (Xo lk (k10 (u2 && (((u1.WC) == (u1.WC)) && (((u1.Jy) == (u1.Jy)) && (((u1.Qz) == (u1.Qz)) && (((u1.YQ) == 0) && (((u1.JS) == 0) && (((u1.Jf) == 0) && (strEq (u1.J1) (⟨#[]⟩ : ByteArray) && (((u1.Kt) == 0) && (((u1.Re) == 0) && true)))))))))) h21)))
 refine Za (zg [1, 3, 4, 5, 23, 45] 2 (Zb (cn h22 (fun _ h24 => ?_) (fun _ h25 => ?_))))
 exact zg [1, 3, 4, 5] 2 (XO (Xo lk (k10 (((((u1.Kt) != 0) && (decide ((u1.Kt) ≤ (u1.Re)))) && (decide ((wr .u32 ((u1.Re) - (u1.Kt))) < 8))) && (((u1.WC) == (u1.WC)) && (((u1.Jy) == 0) && (((u1.Qz) == 0) && (((u1.YQ) == 0) && (((u1.JS) == 0) && (((u1.Jf) == 0) && (strEq (u1.J1) (u1.J1) && (((u1.Kt) == (u1.Kt)) && (((u1.Re) == (u1.Re)) && true)))))))))) h24)))
 refine Za (zg [1, 3, 4, 5, 78] 2 (Zb (cn h25 (fun _ h27 => ?_) (fun _ h28 => ?_))))
 obtain ⟨r5, q29, h30⟩ := bind_some h27
 obtain ⟨r6, q31, h32⟩ := bind_some h30
 exact zr [1, 3, 4, 5] 2 Zx (rq2 (fun hg => XQ _ _ _ _ (XR q29 hg)) (rq2 (fun hg => XQ _ _ _ _ (XR q31 hg)) rqn)) (XO (Xo lk (k10 ((((((u2 && (((u1.YQ) == 6) || ((u1.YQ) == 17))) && r5) && r6) && (strEq (u1.J1) (⟨#[]⟩ : ByteArray))) && ((u1.Kt) == 0)) && ((u1.Re) == 0)) h32)))
 exact Ze (XO (Xo kq (k10 false h28)))
 exact ZQ (Xh (re h7 ⟨rfl, kc⟩))
 intro e35 s36 o37
 rcases y7 with g8 | y9
 have h38 := X8 h34
 exact zi o37 (Za (zg [2] 0 (Zb (Zi (er1 h38)))))
 have h39 := X9 h34
 obtain ⟨rfl, n41⟩ := o37
 refine Z7 (Zk ?_)
 obtain rfl := Option.some.inj h39
 exact n41
theorem Zdr (a0 : Zf) (r : Int) (h : M.J7 a0 = some r) : Fn Tryz.prog 108 [.agg (Zp a0)] (.pure (.int .i64 r)) := by
 unfold M.J7 at h
 refine ZS Tryz.func108 rfl (by kernel_rfl) (Za (zg [1] 1 (Zb (Za (Za (zg [1, 3] 1 (Zb (Zg ?_))))))))
 obtain ⟨y5, q14, h15⟩ := bind_some h
 refine zl (fun (p1 : Int) => ⟨39, [(1, .ref 0 0), (3, .int .i64 p1)], [.box (Zp a0)]⟩) (Sum.elim (fun z => OutE 0 (fun z => ⟨39, [], []⟩) z) (fun z => OutR Tryz.prog Tryz.f108 (.int .i64 z))) q14 ?_ ?_
 intro p1 y2 h1
 unfold M.Jz at h1
 refine Za (Za (zg [1, 3, 9] 1 (Zb (cn h1 (fun _ h3 => ?_) (fun _ h4 => ?_)))))
 refine Ze (Zb (Za (Zg (Za ?_))))
 obtain ⟨c5, h6⟩ := Zr h3
 refine zc [1, 3, 4] 2 c5 (Zb (Za ?_))
 obtain ⟨r3, q7, h8⟩ := bind_some h6
 obtain ⟨r4, q9, h10⟩ := bind_some h8
 refine zr [1, 3, 38] 1 Zx (rq2 (fun hg => R0 _ _ _ (XR q7 hg)) (rq2 (fun hg => R0 _ _ _ (XR q9 hg)) rqn)) (Zb (cn h10 (fun _ h12 => ?_) (fun _ h13 => ?_)))
 exact Za (zg [2] 0 (Zb (Zi (Z7 (Zk (rr h12 ⟨rfl, er0 _⟩))))))
 exact Ze (XO (Zb (zg [1, 3] 1 (rn h13))))
 exact ZQ (Xh (re h4 ⟨rfl, kc⟩))
 intro e16 s17 o18
 rcases y5 with g6 | y7
 have h19 := X8 h15
 exact zi o18 (Za (zg [2] 0 (Zb (Zi (er1 h19)))))
 have h20 := X9 h15
 obtain ⟨rfl, n22⟩ := o18
 refine Z7 (Zk ?_)
 obtain rfl := Option.some.inj h20
 exact n22
theorem Rc (a0 : Zf) (a1 : Int) (r : Int) (h : M.JB a0 a1 = some r) : Fn Tryz.prog 66 [.agg (Zp a0), .int .u32 a1] (.pure (.int .i64 r)) := by
 unfold M.JB at h
 refine ZS Tryz.func66 rfl (by kernel_rfl) (Za (zg [1, 2] 1 (Zb (Za (Za (zg [1, 2, 5] 1 (Zb (Zg ?_))))))))
 obtain ⟨y3, q10, h11⟩ := bind_some h
 refine zl (fun (p1 : Int) => ⟨31, [(1, .int .u32 a1), (2, .ref 0 0), (5, .int .i64 p1)], [.box (Zp a0)]⟩) (Sum.elim (fun z => OutE 0 (fun z => ⟨31, [], []⟩) z) (fun z => OutR Tryz.prog Tryz.f66 (.int .i64 z))) q10 ?_ ?_
 intro p1 y2 h1
 unfold M.JA at h1
 refine Za (Za (zg [1, 2, 5, 10] 1 (Zb (cn h1 (fun _ h3 => ?_) (fun _ h4 => ?_)))))
 refine Ze (Zb (Za (Zg (Za ?_))))
 obtain ⟨c5, h6⟩ := Zr h3
 refine zc [1, 2, 5, 29] 1 c5 (Zb (cn h6 (fun _ h8 => ?_) (fun _ h9 => ?_)))
 exact Za (zg [4] 0 (Zb (Zi (Z7 (Zk (rr h8 ⟨rfl, er0 _⟩))))))
 exact Ze (XO (Zb (zg [1, 2, 5] 1 (rn h9))))
 exact ZQ (Xh (re h4 ⟨rfl, kc⟩))
 intro e12 s13 o14
 rcases y3 with g4 | y5
 have h15 := X8 h11
 exact zi o14 (Za (zg [4] 0 (Zb (Zi (er1 h15)))))
 have h16 := X9 h11
 obtain ⟨rfl, n18⟩ := o14
 refine Z7 (Zk ?_)
 obtain rfl := Option.some.inj h16
 exact n18
theorem Zce (a0 : Zf) (a1 : ByteArray) (r : Int) (h : M.Q0 a0 a1 = some r) : Fn Tryz.prog 160 [.agg (Zp a0), .str a1] (.pure (.int .i64 r)) := by
 unfold M.Q0 at h
 refine ZS Tryz.func160 rfl (by kernel_rfl) (Za (zg [1, 2] 1 (Zb (Za (Za (zg [1, 2, 5] 1 (Zb (Zg ?_))))))))
 obtain ⟨y3, q10, h11⟩ := bind_some h
 refine zl (fun (p1 : Int) => ⟨22, [(1, .str a1), (2, .ref 0 0), (5, .int .i64 p1)], [.box (Zp a0)]⟩) (Sum.elim (fun z => OutE 0 (fun z => ⟨22, [], []⟩) z) (fun z => OutR Tryz.prog Tryz.f160 (.int .i64 z))) q10 ?_ ?_
 intro p1 y2 h1
 unfold M.Qm at h1
 refine Za (Za (zg [1, 2, 5, 10] 1 (Zb (cn h1 (fun _ h3 => ?_) (fun _ h4 => ?_)))))
 refine Ze (Zb (Za (Zg (Za ?_))))
 obtain ⟨c5, h6⟩ := Zr h3
 refine zc [1, 2, 5, 20] 1 c5 (Zb (cn h6 (fun _ h8 => ?_) (fun _ h9 => ?_)))
 exact Za (zg [4] 0 (Zb (Zi (Z7 (Zk (rr h8 ⟨rfl, er0 _⟩))))))
 exact Ze (XO (Zb (zg [1, 2, 5] 1 (rn h9))))
 exact ZQ (Xh (re h4 ⟨rfl, kc⟩))
 intro e12 s13 o14
 rcases y3 with g4 | y5
 have h15 := X8 h11
 exact zi o14 (Za (zg [4] 0 (Zb (Zi (er1 h15)))))
 have h16 := X9 h11
 obtain ⟨rfl, n18⟩ := o14
 refine Z7 (Zk ?_)
 obtain rfl := Option.some.inj h16
 exact n18
theorem Zds (a0 : Zf) (r : Int) (h : M.J8 a0 = some r) : Fn Tryz.prog 109 [.agg (Zp a0)] (.pure (.int .i64 r)) := by
 let u4 := Zp a0
 unfold M.J8 at h
 refine ZS Tryz.func109 rfl (by kernel_rfl) (Za (zg [1] 1 (Zb (Za (Za (zg [1, 11] 1 (Zb (cn h (fun _ h2 => ?_) (fun _ h3 => ?_)))))))))
 exact Za (zg [2] 0 (Zb (Zi (Zk (er1 h2)))))
 refine Ze (Zb (Za (Za (zg [1, 3] 1 (Zb (Zg ?_))))))
 obtain ⟨y17, q69, h70⟩ := bind_some h3
 refine zl (fun (p1 : Int) => ⟨111, [(1, .ref 0 0), (3, .int .i64 p1)], [.box u4]⟩) (Sum.elim (fun z => OutE 0 (fun z => ⟨111, [], []⟩) z) (fun z => OutR Tryz.prog Tryz.f109 (.int .i64 z))) q69 ?_ ?_
 intro p1 y2 h4
 let u1 := a0.Zq.getD p1.toNat default
 let u2 : List Ob := [.box u4, .box (Z9 u1)]
 unfold M.JD at h4
 refine Za (Za (zg [1, 3, 16] 1 (Zb (cn h4 (fun _ h6 => ?_) (fun _ h7 => ?_)))))
 refine Ze (Zb (Za (Zg (Za ?_))))
 obtain ⟨c8, h9⟩ := Zr h6
 refine zc [1, 3, 4] 2 c8 (Zb (Za (rg0 [1, 3, 4, 5] 2 ⟨111, [(1, .ref 0 0), (3, .int .i64 p1), (4, .ref 1 0), (5, .int .i64 0)], u2⟩ (Zb (V7 (fun (p3 : Int) => ⟨111, [(1, .ref 0 0), (3, .int .i64 p1), (4, .ref 1 0), (5, .int .i64 p3)], u2⟩) (fun p3 => M.QD a0 p1 p3 = some y2) ?_ ?_)))))
 intro p3 h11
 unfold M.QD at h11
 refine V7 (fun (p4 : Int) => ⟨111, [(1, .ref 0 0), (3, .int .i64 p1), (4, .ref 1 0), (5, .int .i64 p4)], u2⟩) (fun p4 => M.QC a0 p1 p4 = some y2) ?_ ?_
 intro p4 h13
 unfold M.QC at h13
 refine V7 (fun (p5 : Int) => ⟨111, [(1, .ref 0 0), (3, .int .i64 p1), (4, .ref 1 0), (5, .int .i64 p5)], u2⟩) (fun p5 => M.QB a0 p1 p5 = some y2) ?_ ?_
 intro p5 h15
 unfold M.QB at h15
 refine Za (Za ?_)
 obtain ⟨r6, q16, h17⟩ := bind_some h15
 obtain ⟨r7, q18, h19⟩ := bind_some h17
 let u3 := ((!r6) || (p5 != 1)) || (((u1.U0) != 0) && (decide (r7 ≥ 0)))
 obtain ⟨r8, q20, h21⟩ := bind_some h19
 obtain ⟨r9, q22, h23⟩ := bind_some h21
 refine rg [.pure (.bool r6), .pure (.int .i64 r7), .pure (.bool r8), .pure (.bool r9)] [1, 3, 4, 69] 2 ⟨111, [(1, .ref 0 0), (3, .int .i64 p1), (4, .ref 1 0), (69, .bool ((u3 || (!r8)) || (!r9)))], u2⟩ [] [⟨true, 159, [.agg (Xd (u1.Zo))], .pure (.bool r6)⟩, ⟨((!((!r6) || (p5 != 1))) && ((u1.U0) != 0)), 66, [.agg u4, .int .u32 (u1.U0)], .pure (.int .i64 r7)⟩, ⟨(!u3), 102, [.int .i64 (u1.Xr), .int .i64 1, .int .i64 255], .pure (.bool r8)⟩, ⟨(!(u3 || (!r8))), 102, [.int .i64 (u1.KN), .int .i64 0, .int .i64 65535], .pure (.bool r9)⟩] Zx ⟨fun _ => WA (u1.Zo) r6 q16, fun hg => Rc a0 (u1.U0) r7 (XR q18 hg), fun hg => XQ (u1.Xr) 1 255 r8 (XR q20 hg), fun hg => XQ (u1.KN) 0 65535 r9 (XR q22 hg), trivial⟩ (Zb (cn h23 (fun _ h25 => ?_) (fun _ h26 => ?_)))
 exact Za (zg [2] 0 (Zb (Zi (Zk (Z7 (Zk (rr h25 ⟨rfl, er0 _⟩)))))))
 refine Ze (Zb (V7 (fun (p10 : Unit) => ⟨111, [(1, .ref 0 0), (3, .int .i64 p1), (4, .ref 1 0)], u2⟩) (fun p10 => M.QA a0 p1 p10 = some y2) ?_ ?_))
 intro p10 h28
 unfold M.QA at h28
 refine Za (zg [1, 3, 4, 7] 2 (Zb (Zg ?_)))
 obtain ⟨y13, q38, h39⟩ := bind_some h28
 refine zl (fun (p11 : Int) => ⟨111, [(1, .ref 0 0), (3, .int .i64 p1), (4, .ref 1 0), (7, .int .i64 p11)], u2⟩) (Sum.elim (fun z => OutE 2 (fun z => ⟨111, [(1, .ref 0 0), (3, .int .i64 p1)], [.box u4]⟩) z) (fun z => OutR Tryz.prog Tryz.f109 (.int .i64 z))) q38 ?_ ?_
 intro p11 y12 h29
 unfold M.JC at h29
 refine Za (Za (zg [1, 3, 4, 7, 88] 2 (Zb (cn h29 (fun _ h31 => ?_) (fun _ h32 => ?_)))))
 refine Ze (Zb (Za (Zg (Za ?_))))
 obtain ⟨c33, h34⟩ := Zr h31
 refine zc [1, 3, 4, 7, 110] 2 c33 (Zb (cn h34 (fun _ h36 => ?_) (fun _ h37 => ?_)))
 exact Za (zg [2] 0 (Zb (Zi (Z7 (Zk (rr h36 ⟨rfl, er0 _⟩))))))
 exact Ze (XO (Zb (zg [1, 3, 4, 7] 2 (rn h37))))
 exact ZQ (Xh (re h32 ⟨rfl, kc⟩))
 intro e40 s41 o42
 rcases y13 with g14 | y15
 have h43 := X8 h39
 obtain ⟨rfl, l45⟩ := o42
 exact YF (XO (Xo (s' := ⟨111, [(1, .ref 0 0), (3, .int .i64 p1)], [.box u4]⟩) (l45) (zg [1, 3] 1 (rn h43))))
 have h44 := X9 h39
 obtain ⟨rfl, n46⟩ := o42
 exact Z7 (Z7 (Zk (rr h44 ⟨rfl, n46⟩)))
 intro k27
 refine Za (zg [1, 3, 4, 72] 2 (Zb (cn h26 (fun _ h48 => ?_) (fun _ h49 => ?_))))
 refine Za ?_
 obtain ⟨r16, q50, h51⟩ := bind_some h48
 refine zr [1, 3, 4, 6] 2 Zx (rq1 (Zce _ _ _ q50) rqn) (Zb (Za (Za (zg [1, 3, 4, 6, 78] 2 (Zb (cn h51 (fun _ h53 => ?_) (fun _ h54 => ?_)))))))
 exact Za (zg [2] 0 (Zb (Zi (Zk (Zk (Z7 (Zk (rr h53 ⟨rfl, er0 _⟩))))))))
 refine Ze (Zb (Za ?_))
 obtain ⟨c55, h56⟩ := Zr h54
 refine zc [1, 3, 4, 85] 2 c55 (Zb (cn h56 (fun _ h58 => ?_) (fun _ h59 => ?_)))
 exact Za (zg [2] 0 (Zb (Zi (Zk (Z7 (Zk (rr h58 ⟨rfl, er0 _⟩)))))))
 exact Ze (Xo kq (k27 () h59))
 exact Ze (Xo kq (k27 () h49))
 intro k14
 refine Za (zg [1, 3, 4, 5, 35] 2 (Zb (cn h13 (fun _ h61 => ?_) (fun _ h62 => ?_))))
 exact zg [1, 3, 4, 5] 2 (Xo lk (k14 (wr .i64 (p4 + 1)) h61))
 exact Ze (Xo kq (k14 p4 h62))
 intro k12
 refine Za (zg [1, 3, 4, 5, 31] 2 (Zb (cn h11 (fun _ h64 => ?_) (fun _ h65 => ?_))))
 exact zg [1, 3, 4, 5] 2 (Xo lk (k12 (wr .i64 (p3 + 1)) h64))
 exact Ze (Xo kq (k12 p3 h65))
 intro k10
 refine Za (zg [1, 3, 4, 5, 26] 2 (Zb (cn h9 (fun _ h67 => ?_) (fun _ h68 => ?_))))
 exact zg [1, 3, 4, 5] 2 (Xo lk (k10 1 h67))
 exact Ze (Xo kq (k10 0 h68))
 exact ZQ (Xh (re h7 ⟨rfl, kc⟩))
 intro e71 s72 o73
 rcases y17 with g18 | y19
 have h74 := X8 h70
 exact zi o73 (Za (zg [2] 0 (Zb (Zi (er1 h74)))))
 have h75 := X9 h70
 obtain ⟨rfl, n77⟩ := o73
 refine Z7 (Zk ?_)
 obtain rfl := Option.some.inj h75
 exact n77
theorem Ge (a0 : Zf) (a1 : ByteArray) (r : Int) (h : M.QG a0 a1 = some r) : Fn Tryz.prog 178 [.agg (Zp a0), .str a1] (.pure (.int .i64 r)) := by
 unfold M.QG at h
 refine ZS Tryz.func178 rfl (by kernel_rfl) (Za (zg [1, 2] 1 (Zb (Za (Za (zg [1, 2, 5] 1 (Zb (Zg ?_))))))))
 obtain ⟨y3, q10, h11⟩ := bind_some h
 refine zl (fun (p1 : Int) => ⟨22, [(1, .str a1), (2, .ref 0 0), (5, .int .i64 p1)], [.box (Zp a0)]⟩) (Sum.elim (fun z => OutE 0 (fun z => ⟨22, [], []⟩) z) (fun z => OutR Tryz.prog Tryz.f178 (.int .i64 z))) q10 ?_ ?_
 intro p1 y2 h1
 unfold M.Jh at h1
 refine Za (Za (zg [1, 2, 5, 10] 1 (Zb (cn h1 (fun _ h3 => ?_) (fun _ h4 => ?_)))))
 refine Ze (Zb (Za (Zg (Za ?_))))
 obtain ⟨c5, h6⟩ := Zr h3
 refine zc [1, 2, 5, 20] 1 c5 (Zb (cn h6 (fun _ h8 => ?_) (fun _ h9 => ?_)))
 exact Za (zg [4] 0 (Zb (Zi (Z7 (Zk (rr h8 ⟨rfl, er0 _⟩))))))
 exact Ze (XO (Zb (zg [1, 2, 5] 1 (rn h9))))
 exact ZQ (Xh (re h4 ⟨rfl, kc⟩))
 intro e12 s13 o14
 rcases y3 with g4 | y5
 have h15 := X8 h11
 exact zi o14 (Za (zg [4] 0 (Zb (Zi (er1 h15)))))
 have h16 := X9 h11
 obtain ⟨rfl, n18⟩ := o14
 refine Z7 (Zk ?_)
 obtain rfl := Option.some.inj h16
 exact n18
theorem WS (a0 : Zf) (a1 : List YJ) (a2 : Int) (a3 : Int) (a4 : Int) (r : Int) (h : M.X4 a0 a1 a2 a3 a4 = some r) : Fn Tryz.prog 161 [.agg (Zp a0), sL 5 Zz a1, .int .i64 a2, .int .i64 a3, .int .i64 a4] (.pure (.int .i64 r)) := by
 let u1 : Nat × D := (1, sL 5 Zz a1)
 let u2 := Zp a0
 unfold M.X4 at h
 refine ZS Tryz.func161 rfl (by kernel_rfl) (Za (zg [1, 2, 3, 4, 5] 1 (Zb (Za (Za (zg [1, 2, 3, 4, 5, 16] 1 (Zb (cn h (fun _ h2 => ?_) (fun _ h3 => ?_)))))))))
 exact Za (zg [10] 0 (Zb (Zi (Zk (er1 h2)))))
 refine Ze (Zb (Za (Za (zg [1, 2, 3, 4, 5, 11] 1 (Zb (Zg ?_))))))
 obtain ⟨y12, q45, h46⟩ := bind_some h3
 refine zl (fun (p1 : Int) => ⟨95, [u1, (2, .int .i64 a2), (3, .int .i64 a3), (4, .int .i64 a4), (5, .ref 0 0), (11, .int .i64 p1)], [.box u2]⟩) (Sum.elim (fun z => OutE 0 (fun z => ⟨95, [], []⟩) z) (fun z => OutR Tryz.prog Tryz.f161 (.int .i64 z))) q45 ?_ ?_
 intro p1 y2 h4
 unfold M.Yl at h4
 refine Za (Za (zg [1, 2, 3, 4, 5, 11, 20] 1 (Zb (cn h4 (fun _ h6 => ?_) (fun _ h7 => ?_)))))
 refine Ze (Zb (Za (Zg (Za ?_))))
 obtain ⟨c8, h9⟩ := Zr h6
 refine zc [1, 2, 3, 4, 5, 11, 12] 2 c8 (Zb (Za (Za ?_)))
 obtain ⟨r3, q10, h11⟩ := bind_some h9
 obtain ⟨r4, q12, h13⟩ := bind_some h11
 obtain ⟨r5, q14, h15⟩ := bind_some h13
 refine zr [1, 2, 3, 4, 5, 11, 12, 50] 2 Zx (rq1 (XQ _ _ _ _ q10) (rq2 (fun hg => XQ _ _ _ _ (XR q12 hg)) (rq2 (fun hg => XQ _ _ _ _ (XR q14 hg)) rqn))) (Zb (cn h15 (fun _ h17 => ?_) (fun _ h18 => ?_)))
 exact Za (zg [10] 0 (Zb (Zi (Zk (Z7 (Zk (rr h17 ⟨rfl, er0 _⟩)))))))
 refine Ze (Zb (Za (Za (zg [1, 2, 3, 4, 5, 11, 12, 71] 2 (Zb (cn h18 (fun _ h20 => ?_) (fun _ h21 => ?_)))))))
 exact Za (zg [10] 0 (Zb (Zi (Zk (Z7 (Zk (rr h20 ⟨rfl, er0 _⟩)))))))
 refine Ze (Zb (Za (Za ?_)))
 obtain ⟨r6, q22, h23⟩ := bind_some h21
 refine zr [1, 2, 3, 4, 5, 11, 12, 81] 2 Zx (rq2 (fun hg => Ge _ _ _ (XR q22 hg)) rqn) (Zb (cn h23 (fun _ h25 => ?_) (fun _ h26 => ?_)))
 exact Za (zg [10] 0 (Zb (Zi (Zk (Z7 (Zk (rr h25 ⟨rfl, er0 _⟩)))))))
 refine Ze (Zb (Za (zg [1, 2, 3, 4, 5, 11, 12, 13] 2 (Zb (Zg ?_)))))
 obtain ⟨y9, q36, h37⟩ := bind_some h26
 refine zl (fun (p7 : Int) => ⟨95, [u1, (2, .int .i64 a2), (3, .int .i64 a3), (4, .int .i64 a4), (5, .ref 0 0), (11, .int .i64 p1), (12, .ref 1 0), (13, .int .i64 p7)], [.box u2, .box (Zz (a1.getD p1.toNat default))]⟩) (Sum.elim (fun z => OutE 2 (fun z => ⟨95, [u1, (2, .int .i64 a2), (3, .int .i64 a3), (4, .int .i64 a4), (5, .ref 0 0), (11, .int .i64 p1)], [.box u2]⟩) z) (fun z => OutR Tryz.prog Tryz.f161 (.int .i64 z))) q36 ?_ ?_
 intro p7 y8 h27
 unfold M.Yk at h27
 refine Za (Za (zg [1, 2, 3, 4, 5, 11, 12, 13, 84] 2 (Zb (cn h27 (fun _ h29 => ?_) (fun _ h30 => ?_)))))
 refine Ze (Zb (Za (Zg (Za ?_))))
 obtain ⟨c31, h32⟩ := Zr h29
 refine zc [1, 2, 3, 4, 5, 11, 12, 13, 94] 2 c31 (Zb (cn h32 (fun _ h34 => ?_) (fun _ h35 => ?_)))
 exact Za (zg [10] 0 (Zb (Zi (Z7 (Zk (rr h34 ⟨rfl, er0 _⟩))))))
 exact Ze (XO (Zb (zg [1, 2, 3, 4, 5, 11, 12, 13] 2 (rn h35))))
 exact ZQ (Xh (re h30 ⟨rfl, kc⟩))
 intro e38 s39 o40
 rcases y9 with g10 | y11
 have h41 := X8 h37
 obtain ⟨rfl, l43⟩ := o40
 exact YF (XO (Xo (s' := ⟨95, [u1, (2, .int .i64 a2), (3, .int .i64 a3), (4, .int .i64 a4), (5, .ref 0 0), (11, .int .i64 p1)], [.box u2]⟩) (l43) (zg [1, 2, 3, 4, 5, 11] 1 (rn h41))))
 have h42 := X9 h37
 obtain ⟨rfl, n44⟩ := o40
 exact Z7 (Z7 (Zk (rr h42 ⟨rfl, n44⟩)))
 exact ZQ (Xh (re h7 ⟨rfl, kc⟩))
 intro e47 s48 o49
 rcases y12 with g13 | y14
 have h50 := X8 h46
 exact zi o49 (Za (zg [10] 0 (Zb (Zi (er1 h50)))))
 have h51 := X9 h46
 obtain ⟨rfl, n53⟩ := o49
 refine Z7 (Zk ?_)
 obtain rfl := Option.some.inj h51
 exact n53
theorem Zcf (a0 : Zf) (r : Int) (h : M.Q1 a0 = some r) : Fn Tryz.prog 110 [.agg (Zp a0)] (.pure (.int .i64 r)) := by
 let u1 : List Ob := [.box (Zp a0), .box (Zb3 a0.Yi)]
 unfold M.Q1 at h
 refine ZS Tryz.func110 rfl (by kernel_rfl) (Za (zg [1] 1 (Zb (Za (zg [1, 3] 2 (Zb (Za (Za (zg [1, 3, 10] 2 (Zb (cn h (fun _ h2 => ?_) (fun _ h3 => ?_))))))))))))
 refine Za (Za (zg [25] 0 (Zb (cn h2 (fun _ h5 => ?_) (fun _ h6 => ?_)))))
 exact Za (zg [2] 0 (Zb (Zi (Zk (Zk (er1 h5))))))
 exact Ze (Zb (Za (zg [2] 0 (Zb (Zi (Zk (er1 h6)))))))
 refine Ze (Zb (Za (Za ?_)))
 obtain ⟨r1, q7, h8⟩ := bind_some h3
 refine zr [1, 3, 29] 2 Zx (rq1 (XQ _ _ _ _ q7) rqn) (Zb (cn h8 (fun _ h10 => ?_) (fun _ h11 => ?_)))
 exact Za (zg [2] 0 (Zb (Zi (Zk (er1 h10)))))
 refine Ze (Zb (Za (Za (zg [1, 3, 33] 2 (Zb (cn h11 (fun _ h13 => ?_) (fun _ h14 => ?_)))))))
 exact Za (zg [2] 0 (Zb (Zi (Zk (er1 h13)))))
 refine Ze (Zb (Za (Za (zg [1, 3, 4] 2 (Zb (Zg ?_))))))
 obtain ⟨y12, q48, h49⟩ := bind_some h14
 refine zl (fun (p2 : Int) => ⟨96, [(1, .ref 0 0), (3, .ref 1 0), (4, .int .i64 p2)], u1⟩) (Sum.elim (fun z => OutE 0 (fun z => ⟨96, [(1, .ref 0 0), (3, .ref 1 0)], u1⟩) z) (fun z => OutR Tryz.prog Tryz.f110 (.int .i64 z))) q48 ?_ ?_
 intro p2 y3 h15
 unfold M.QP at h15
 refine Za (Za (zg [1, 3, 4, 38] 2 (Zb (cn h15 (fun _ h17 => ?_) (fun _ h18 => ?_)))))
 refine Ze (Zb (Za (Zg (Za (Za ?_)))))
 obtain ⟨r4, q19, h20⟩ := bind_some h17
 obtain ⟨r5, q21, h22⟩ := bind_some h20
 obtain ⟨c23, h24⟩ := Zr h22
 refine zr [1, 3, 4, 58] 2 c23 (rq1 (XQ _ _ _ _ q19) (rq2 (fun hg => WA _ _ (XR q21 hg)) rqn)) (Zb (cn h24 (fun _ h26 => ?_) (fun _ h27 => ?_)))
 exact Za (zg [2] 0 (Zb (Zi (Zk (Z7 (Zk (rr h26 ⟨rfl, er0 _⟩)))))))
 refine Ze (Zb (Za (zg [1, 3, 4, 5] 2 (Zb (Zg ?_)))))
 obtain ⟨y9, q39, h40⟩ := bind_some h27
 refine zl (fun (p6 : Int) => ⟨96, [(1, .ref 0 0), (3, .ref 1 0), (4, .int .i64 p2), (5, .int .i64 p6)], u1⟩) (Sum.elim (fun z => OutE 2 (fun z => ⟨96, [(1, .ref 0 0), (3, .ref 1 0), (4, .int .i64 p2)], u1⟩) z) (fun z => OutR Tryz.prog Tryz.f110 (.int .i64 z))) q39 ?_ ?_
 intro p6 y7 h28
 unfold M.QO at h28
 refine Za (Za (zg [1, 3, 4, 5, 61] 2 (Zb (cn h28 (fun _ h30 => ?_) (fun _ h31 => ?_)))))
 refine Ze (Zb (Za (Zg (Za ?_))))
 obtain ⟨r8, q32, h33⟩ := bind_some h30
 obtain ⟨c34, h35⟩ := Zr h33
 refine zr [1, 3, 4, 5, 91] 2 c34 (rq2 (fun hg => Kz _ _ _ (XR q32 hg)) rqn) (Zb (cn h35 (fun _ h37 => ?_) (fun _ h38 => ?_)))
 exact Za (zg [2] 0 (Zb (Zi (Z7 (Zk (rr h37 ⟨rfl, er0 _⟩))))))
 exact Ze (XO (Zb (zg [1, 3, 4, 5] 2 (rn h38))))
 exact ZQ (Xh (re h31 ⟨rfl, kq⟩))
 intro e41 s42 o43
 rcases y9 with g10 | y11
 have h44 := X8 h40
 obtain ⟨rfl, l46⟩ := o43
 exact YF (XO (Xo (s' := ⟨96, [(1, .ref 0 0), (3, .ref 1 0), (4, .int .i64 p2)], u1⟩) (l46) (zg [1, 3, 4] 2 (rn h44))))
 have h45 := X9 h40
 obtain ⟨rfl, n47⟩ := o43
 exact Z7 (Z7 (Zk (rr h45 ⟨rfl, n47⟩)))
 exact ZQ (Xh (re h18 ⟨rfl, kq⟩))
 intro e50 s51 o52
 rcases y12 with g13 | y14
 have h53 := X8 h49
 refine zi o52 (Za ?_)
 obtain ⟨r15, q56, h57⟩ := bind_some h53
 exact zr [2] 0 Zx (rq1 (WS _ _ _ _ _ _ q56) rqn) (Zb (Zi (er1 h57)))
 have h54 := X9 h49
 obtain ⟨rfl, n58⟩ := o52
 refine Z7 (Zk ?_)
 obtain rfl := Option.some.inj h54
 exact n58
theorem ZcT (a0 : Zf) (r : Int) (h : M.Js a0 = some r) : Fn Tryz.prog 111 [.agg (Zp a0)] (.pure (.int .i64 r)) := by
 unfold M.Js at h
 refine ZS Tryz.func111 rfl (by kernel_rfl) (Za (zg [1] 1 (Zb (Za (zg [1, 3] 2 (Zb (Za (Za (zg [1, 3, 8] 2 (Zb (cn h (fun _ h2 => ?_) (fun _ h3 => ?_))))))))))))
 refine Za (Za (zg [27] 0 (Zb (cn h2 (fun _ h5 => ?_) (fun _ h6 => ?_)))))
 exact Za (zg [2] 0 (Zb (Zi (Zk (Zk (er1 h5))))))
 exact Ze (Zb (Za (zg [2] 0 (Zb (Zi (Zk (er1 h6)))))))
 refine Ze (Zb (Za (Za ?_)))
 obtain ⟨r1, q7, h8⟩ := bind_some h3
 refine zr [1, 3, 31] 2 Zx (rq1 (XQ _ _ _ _ q7) rqn) (Zb (cn h8 (fun _ h10 => ?_) (fun _ h11 => ?_)))
 exact Za (zg [2] 0 (Zb (Zi (Zk (er1 h10)))))
 refine Ze (Zb (Za (Za ?_)))
 obtain ⟨r2, q12, h13⟩ := bind_some h11
 obtain ⟨r3, q14, h15⟩ := bind_some h13
 refine zr [1, 3, 53] 2 Zx (rq2 (fun hg => UK _ _ _ (XR q12 hg)) (rq2 (fun hg => UK _ _ _ (XR q14 hg)) rqn)) (Zb (cn h15 (fun _ h17 => ?_) (fun _ h18 => ?_)))
 exact Za (zg [2] 0 (Zb (Zi (Zk (er1 h17)))))
 refine Ze (Zb (Za ?_))
 obtain ⟨r4, q19, h20⟩ := bind_some h18
 exact zr [2] 0 Zx (rq1 (WS _ _ _ _ _ _ q19) rqn) (Zb (Zi (er1 h20)))
theorem Zcg (a0 : Zf) (r : Int) (h : M.J9 a0 = some r) : Fn Tryz.prog 162 [.agg (Zp a0)] (.pure (.int .i64 r)) := by
 let u1 : Nat × D := (3, sL 4 XK a0.Xs.Zm)
 let u2 : List Ob := [.box (Zp a0)]
 unfold M.J9 at h
 refine ZS Tryz.func162 rfl (by kernel_rfl) (Za (zg [1] 1 (Zb (Za (zg [1, 3] 1 (Zb (Za (Za (zg [1, 3, 11] 1 (Zb (cn h (fun _ h2 => ?_) (fun _ h3 => ?_))))))))))))
 exact Za (zg [2] 0 (Zb (Zi (Zk (er1 h2)))))
 refine Ze (Zb (Za (Za (zg [1, 3, 4] 1 (Zb (Zg ?_))))))
 obtain ⟨y11, q42, h43⟩ := bind_some h3
 refine zl (fun (p1 : Int) => ⟨83, [(1, .ref 0 0), u1, (4, .int .i64 p1)], u2⟩) (Sum.elim (fun z => OutE 0 (fun z => ⟨83, [], []⟩) z) (fun z => OutR Tryz.prog Tryz.f162 (.int .i64 z))) q42 ?_ ?_
 intro p1 y2 h4
 unfold M.QR at h4
 refine Za (Za (zg [1, 3, 4, 15] 1 (Zb (cn h4 (fun _ h6 => ?_) (fun _ h7 => ?_)))))
 refine Ze (Zb (Za (Zg (Za (Za ?_)))))
 obtain ⟨r3, q8, h9⟩ := bind_some h6
 obtain ⟨c10, h11⟩ := Zr h9
 refine zr [1, 3, 4, 32] 1 c10 (rq2 (fun hg => XQ _ _ _ _ (XR q8 hg)) rqn) (Zb (cn h11 (fun _ h13 => ?_) (fun _ h14 => ?_)))
 exact Za (zg [2] 0 (Zb (Zi (Zk (Z7 (Zk (rr h13 ⟨rfl, er0 _⟩)))))))
 refine Ze (Zb (Za (Za ?_)))
 obtain ⟨r4, q15, h16⟩ := bind_some h14
 obtain ⟨r5, q17, h18⟩ := bind_some h16
 obtain ⟨c19, h20⟩ := Zr h18
 refine zr [1, 3, 4, 66] 1 c19 (rq2 (fun hg => Ge _ _ _ (XR q15 hg)) (rq2 (fun hg => Ge _ _ _ (XR q17 hg)) rqn)) (Zb (cn h20 (fun _ h22 => ?_) (fun _ h23 => ?_)))
 exact Za (zg [2] 0 (Zb (Zi (Zk (Z7 (Zk (rr h22 ⟨rfl, er0 _⟩)))))))
 refine Ze (Zb (Za (zg [1, 3, 4, 5] 1 (Zb (Zg ?_)))))
 obtain ⟨y8, q33, h34⟩ := bind_some h23
 refine zl (fun (p6 : Int) => ⟨83, [(1, .ref 0 0), u1, (4, .int .i64 p1), (5, .int .i64 p6)], u2⟩) (Sum.elim (fun z => OutE 2 (fun z => ⟨83, [(1, .ref 0 0), u1, (4, .int .i64 p1)], u2⟩) z) (fun z => OutR Tryz.prog Tryz.f162 (.int .i64 z))) q33 ?_ ?_
 intro p6 y7 h24
 unfold M.QQ at h24
 refine Za (Za (zg [1, 3, 4, 5, 69] 1 (Zb (cn h24 (fun _ h26 => ?_) (fun _ h27 => ?_)))))
 refine Ze (Zb (Za (Zg (Za ?_))))
 obtain ⟨c28, h29⟩ := Zr h26
 refine zc [1, 3, 4, 5, 82] 1 c28 (Zb (cn h29 (fun _ h31 => ?_) (fun _ h32 => ?_)))
 exact Za (zg [2] 0 (Zb (Zi (Z7 (Zk (rr h31 ⟨rfl, er0 _⟩))))))
 exact Ze (XO (Zb (zg [1, 3, 4, 5] 1 (rn h32))))
 exact ZQ (Xh (re h27 ⟨rfl, kq⟩))
 intro e35 s36 o37
 rcases y8 with g9 | y10
 have h38 := X8 h34
 obtain ⟨rfl, l40⟩ := o37
 exact YF (XO (Xo (s' := ⟨83, [(1, .ref 0 0), u1, (4, .int .i64 p1)], u2⟩) (l40) (zg [1, 3, 4] 1 (rn h38))))
 have h39 := X9 h34
 obtain ⟨rfl, n41⟩ := o37
 exact Z7 (Z7 (Zk (rr h39 ⟨rfl, n41⟩)))
 exact ZQ (Xh (re h7 ⟨rfl, kc⟩))
 intro e44 s45 o46
 rcases y11 with g12 | y13
 have h47 := X8 h43
 exact zi o46 (Za (zg [2] 0 (Zb (Zi (er1 h47)))))
 have h48 := X9 h43
 obtain ⟨rfl, n50⟩ := o46
 refine Z7 (Zk ?_)
 obtain rfl := Option.some.inj h48
 exact n50
theorem R2 (a0 : Xy) (r : Int) (h : M.QS a0 = some r) : Fn Tryz.prog 163 [.agg (Gh a0)] (.pure (.int .i64 r)) := by
 let u1 : List Ob := [.box (Gh a0)]
 let u2 : St := ⟨126, [(1, .ref 0 0)], u1⟩
 unfold M.QS at h
 refine ZS Tryz.func163 rfl (by kernel_rfl) (Za (zg [1] 1 (Zb (Za (Za (zg [1, 13] 1 (Zb (cn h (fun _ h2 => ?_) (fun _ h3 => ?_)))))))))
 exact Za (zg [2] 0 (Zb (Zi (Zk (er1 h2)))))
 refine Ze (Zb (Za (Za (zg [1, 3] 1 (Zb (Zg ?_))))))
 obtain ⟨y9, q33, h34⟩ := bind_some h3
 refine zl (fun (p1 : Int) => ⟨126, [(1, .ref 0 0), (3, .int .i64 p1)], u1⟩) (Sum.elim (fun z => OutE 0 (fun z => u2) z) (fun z => OutR Tryz.prog Tryz.f163 (.int .i64 z))) q33 ?_ ?_
 intro p1 y2 h4
 unfold M.YX at h4
 refine Za (Za (zg [1, 3, 18] 1 (Zb (cn h4 (fun _ h6 => ?_) (fun _ h7 => ?_)))))
 refine Ze (Zb (Za (Zg (Za (Za ?_)))))
 obtain ⟨r3, q8, h9⟩ := bind_some h6
 obtain ⟨c10, h11⟩ := Zr h9
 refine zr [1, 3, 27] 1 c10 (rq1 (WA _ _ q8) rqn) (Zb (cn h11 (fun _ h13 => ?_) (fun _ h14 => ?_)))
 exact Za (zg [2] 0 (Zb (Zi (Zk (Z7 (Zk (rr h13 ⟨rfl, er0 _⟩)))))))
 refine Ze (Zb (Za (zg [1, 3, 4] 1 (Zb (Zg ?_)))))
 obtain ⟨y6, q24, h25⟩ := bind_some h14
 refine zl (fun (p4 : Int) => ⟨126, [(1, .ref 0 0), (3, .int .i64 p1), (4, .int .i64 p4)], u1⟩) (Sum.elim (fun z => OutE 2 (fun z => ⟨126, [(1, .ref 0 0), (3, .int .i64 p1)], u1⟩) z) (fun z => OutR Tryz.prog Tryz.f163 (.int .i64 z))) q24 ?_ ?_
 intro p4 y5 h15
 unfold M.YW at h15
 refine Za (Za (zg [1, 3, 4, 30] 1 (Zb (cn h15 (fun _ h17 => ?_) (fun _ h18 => ?_)))))
 refine Ze (Zb (Za (Zg (Za ?_))))
 obtain ⟨c19, h20⟩ := Zr h17
 refine zc [1, 3, 4, 43] 1 c19 (Zb (cn h20 (fun _ h22 => ?_) (fun _ h23 => ?_)))
 exact Za (zg [2] 0 (Zb (Zi (Z7 (Zk (rr h22 ⟨rfl, er0 _⟩))))))
 exact Ze (XO (Zb (zg [1, 3, 4] 1 (rn h23))))
 exact ZQ (Xh (re h18 ⟨rfl, kq⟩))
 intro e26 s27 o28
 rcases y6 with g7 | y8
 have h29 := X8 h25
 obtain ⟨rfl, l31⟩ := o28
 exact YF (XO (Xo (s' := ⟨126, [(1, .ref 0 0), (3, .int .i64 p1)], u1⟩) (l31) (zg [1, 3] 1 (rn h29))))
 have h30 := X9 h25
 obtain ⟨rfl, n32⟩ := o28
 exact Z7 (Z7 (Zk (rr h30 ⟨rfl, n32⟩)))
 exact ZQ (Xh (re h7 ⟨rfl, kq⟩))
 intro e35 s36 o37
 rcases y9 with g10 | y11
 have h38 := X8 h34
 refine zi o37 (Za (Za (zg [1, 47] 1 (Zb (cn h38 (fun _ h42 => ?_) (fun _ h43 => ?_))))))
 exact Za (zg [2] 0 (Zb (Zi (Zk (er1 h42)))))
 refine Ze (Zb (Za (Za (zg [1, 5] 1 (Zb (Zg ?_))))))
 obtain ⟨y20, q73, h74⟩ := bind_some h43
 refine zl (fun (p12 : Int) => ⟨126, [(1, .ref 0 0), (5, .int .i64 p12)], u1⟩) (Sum.elim (fun z => OutE 4 (fun z => u2) z) (fun z => OutR Tryz.prog Tryz.f163 (.int .i64 z))) q73 ?_ ?_
 intro p12 y13 h44
 unfold M.YZ at h44
 refine Za (Za (zg [1, 5, 52] 1 (Zb (cn h44 (fun _ h46 => ?_) (fun _ h47 => ?_)))))
 refine Ze (Zb (Za (Zg (Za (Za ?_)))))
 obtain ⟨r14, q48, h49⟩ := bind_some h46
 obtain ⟨c50, h51⟩ := Zr h49
 refine zr [1, 5, 62] 1 c50 (rq1 (WA _ _ q48) rqn) (Zb (cn h51 (fun _ h53 => ?_) (fun _ h54 => ?_)))
 exact Za (zg [2] 0 (Zb (Zi (Zk (Z7 (Zk (rr h53 ⟨rfl, er0 _⟩)))))))
 refine Ze (Zb (Za (zg [1, 5, 6] 1 (Zb (Zg ?_)))))
 obtain ⟨y17, q64, h65⟩ := bind_some h54
 refine zl (fun (p15 : Int) => ⟨126, [(1, .ref 0 0), (5, .int .i64 p12), (6, .int .i64 p15)], u1⟩) (Sum.elim (fun z => OutE 6 (fun z => ⟨126, [(1, .ref 0 0), (5, .int .i64 p12)], u1⟩) z) (fun z => OutR Tryz.prog Tryz.f163 (.int .i64 z))) q64 ?_ ?_
 intro p15 y16 h55
 unfold M.YY at h55
 refine Za (Za (zg [1, 5, 6, 65] 1 (Zb (cn h55 (fun _ h57 => ?_) (fun _ h58 => ?_)))))
 refine Ze (Zb (Za (Zg (Za ?_))))
 obtain ⟨c59, h60⟩ := Zr h57
 refine zc [1, 5, 6, 80] 1 c59 (Zb (cn h60 (fun _ h62 => ?_) (fun _ h63 => ?_)))
 exact Za (zg [2] 0 (Zb (Zi (Z7 (Zk (rr h62 ⟨rfl, er0 _⟩))))))
 exact Ze (XO (Zb (zg [1, 5, 6] 1 (rn h63))))
 exact ZQ (Xh (re h58 ⟨rfl, kq⟩))
 intro e66 s67 o68
 rcases y17 with g18 | y19
 have h69 := X8 h65
 obtain ⟨rfl, l71⟩ := o68
 exact YF (XO (Xo (s' := ⟨126, [(1, .ref 0 0), (5, .int .i64 p12)], u1⟩) (l71) (zg [1, 5] 1 (rn h69))))
 have h70 := X9 h65
 obtain ⟨rfl, n72⟩ := o68
 exact Z7 (Z7 (Zk (rr h70 ⟨rfl, n72⟩)))
 exact ZQ (Xh (re h47 ⟨rfl, kq⟩))
 intro e75 s76 o77
 rcases y20 with g21 | y22
 have h78 := X8 h74
 refine zi o77 (Za (Za (zg [1, 84] 1 (Zb (cn h78 (fun _ h82 => ?_) (fun _ h83 => ?_))))))
 exact Za (zg [2] 0 (Zb (Zi (Zk (er1 h82)))))
 refine Ze (Zb (Za (Za (zg [1, 7] 1 (Zb (Zg ?_))))))
 obtain ⟨y32, q118, h119⟩ := bind_some h83
 refine zl (fun (p23 : Int) => ⟨126, [(1, .ref 0 0), (7, .int .i64 p23)], u1⟩) (Sum.elim (fun z => OutE 8 (fun z => ⟨126, [], []⟩) z) (fun z => OutR Tryz.prog Tryz.f163 (.int .i64 z))) q118 ?_ ?_
 intro p23 y24 h84
 unfold M.Y1 at h84
 refine Za (Za (zg [1, 7, 89] 1 (Zb (cn h84 (fun _ h86 => ?_) (fun _ h87 => ?_)))))
 refine Ze (Zb (Za (Zg (Za ?_))))
 obtain ⟨c88, h89⟩ := Zr h86
 refine zc [1, 7, 8] 2 c88 (Zb (Za (Za ?_)))
 obtain ⟨r25, q90, h91⟩ := bind_some h89
 obtain ⟨r26, q92, h93⟩ := bind_some h91
 refine zr [1, 7, 8, 106] 2 Zx (rq1 (WA _ _ q90) (rq2 (fun hg => WA _ _ (XR q92 hg)) rqn)) (Zb (cn h93 (fun _ h95 => ?_) (fun _ h96 => ?_)))
 exact Za (zg [2] 0 (Zb (Zi (Zk (Z7 (Zk (rr h95 ⟨rfl, er0 _⟩)))))))
 refine Ze (Zb (Za (Za (zg [1, 7, 8, 111] 2 (Zb (cn h96 (fun _ h98 => ?_) (fun _ h99 => ?_)))))))
 exact Za (zg [2] 0 (Zb (Zi (Zk (Z7 (Zk (rr h98 ⟨rfl, er0 _⟩)))))))
 refine Ze (Zb (Za (zg [1, 7, 8, 9] 2 (Zb (Zg ?_)))))
 obtain ⟨y29, q109, h110⟩ := bind_some h99
 refine zl (fun (p27 : Int) => ⟨126, [(1, .ref 0 0), (7, .int .i64 p23), (8, .ref 1 0), (9, .int .i64 p27)], [.box (Gh a0), .box (Xt (a0.Zt.getD p23.toNat default))]⟩) (Sum.elim (fun z => OutE 10 (fun z => ⟨126, [(1, .ref 0 0), (7, .int .i64 p23)], u1⟩) z) (fun z => OutR Tryz.prog Tryz.f163 (.int .i64 z))) q109 ?_ ?_
 intro p27 y28 h100
 unfold M.Y0 at h100
 refine Za (Za (zg [1, 7, 8, 9, 114] 2 (Zb (cn h100 (fun _ h102 => ?_) (fun _ h103 => ?_)))))
 refine Ze (Zb (Za (Zg (Za ?_))))
 obtain ⟨c104, h105⟩ := Zr h102
 refine zc [1, 7, 8, 9, 125] 2 c104 (Zb (cn h105 (fun _ h107 => ?_) (fun _ h108 => ?_)))
 exact Za (zg [2] 0 (Zb (Zi (Z7 (Zk (rr h107 ⟨rfl, er0 _⟩))))))
 exact Ze (XO (Zb (zg [1, 7, 8, 9] 2 (rn h108))))
 exact ZQ (Xh (re h103 ⟨rfl, kc⟩))
 intro e111 s112 o113
 rcases y29 with g30 | y31
 have h114 := X8 h110
 obtain ⟨rfl, l116⟩ := o113
 exact YF (XO (Xo (s' := ⟨126, [(1, .ref 0 0), (7, .int .i64 p23)], u1⟩) (l116) (zg [1, 7] 1 (rn h114))))
 have h115 := X9 h110
 obtain ⟨rfl, n117⟩ := o113
 exact Z7 (Z7 (Zk (rr h115 ⟨rfl, n117⟩)))
 exact ZQ (Xh (re h87 ⟨rfl, kc⟩))
 intro e120 s121 o122
 rcases y32 with g33 | y34
 have h123 := X8 h119
 exact zi o122 (Za (zg [2] 0 (Zb (Zi (er1 h123)))))
 have h124 := X9 h119
 obtain ⟨rfl, n126⟩ := o122
 refine Z7 (Zk ?_)
 obtain rfl := Option.some.inj h124
 exact n126
 have h79 := X9 h74
 obtain ⟨rfl, n127⟩ := o77
 refine Z7 (Zk ?_)
 obtain rfl := Option.some.inj h79
 exact n127
 have h39 := X9 h34
 obtain ⟨rfl, n128⟩ := o37
 refine Z7 (Zk ?_)
 obtain rfl := Option.some.inj h39
 exact n128
theorem Zbj (a0 : Zf) (r : Int) (h : M.QE a0 = some r) : Fn Tryz.prog 112 [.agg (Zp a0)] (.pure (.int .i64 r)) := by
 unfold M.QE at h
 refine ZS Tryz.func112 rfl (by kernel_rfl) (Za (zg [1] 1 (Zb (Za (zg [1, 3] 2 (Zb (Za (Za (zg [1, 3, 10] 2 (Zb (cn h (fun _ h2 => ?_) (fun _ h3 => ?_))))))))))))
 refine Za (Za (zg [40] 0 (Zb (cn h2 (fun _ h5 => ?_) (fun _ h6 => ?_)))))
 exact Za (zg [2] 0 (Zb (Zi (Zk (Zk (er1 h5))))))
 exact Ze (Zb (Za (zg [2] 0 (Zb (Zi (Zk (er1 h6)))))))
 refine Ze (Zb (Za (Za ?_)))
 obtain ⟨r1, q7, h8⟩ := bind_some h3
 obtain ⟨r2, q9, h10⟩ := bind_some h8
 refine zr [1, 3, 55] 2 Zx (rq2 (fun hg => XQ _ _ _ _ (XR q7 hg)) (rq2 (fun hg => XQ _ _ _ _ (XR q9 hg)) rqn)) (Zb (cn h10 (fun _ h12 => ?_) (fun _ h13 => ?_)))
 exact Za (zg [2] 0 (Zb (Zi (Zk (er1 h12)))))
 refine Ze (Zb (Za (Za ?_)))
 obtain ⟨r3, q14, h15⟩ := bind_some h13
 refine zr [1, 3, 4] 2 Zx (rq1 (Zcg _ _ q14) rqn) (Zb (Za (zg [1, 3, 4, 59] 2 (Zb (cn h15 (fun _ h17 => ?_) (fun _ h18 => ?_))))))
 exact Za (zg [2] 0 (Zb (Zi (Zk (er1 h17)))))
 refine Ze (Zb (Za (Za ?_)))
 obtain ⟨r4, q19, h20⟩ := bind_some h18
 refine zr [1, 3, 5] 2 Zx (rq1 (R2 _ _ q19) rqn) (Zb (Za (zg [1, 3, 5, 64] 2 (Zb (cn h20 (fun _ h22 => ?_) (fun _ h23 => ?_))))))
 exact Za (zg [2] 0 (Zb (Zi (Zk (er1 h22)))))
 refine Ze (Zb (Za ?_))
 obtain ⟨r5, q24, h25⟩ := bind_some h23
 exact zr [2] 0 Zx (rq1 (WS _ _ _ _ _ _ q24) rqn) (Zb (Zi (er1 h25)))
theorem ZaF (a0 : Zf) (r : Int) (h : M.Ym a0 = some r) : Fn Tryz.prog 65 [.agg (Zp a0)] (.pure (.int .i64 r)) := by
 unfold M.Ym at h
 refine ZS Tryz.func65 rfl (by kernel_rfl) (Za (zg [1] 1 (Zb (Za (Za ?_)))))
 obtain ⟨r1, q1, h2⟩ := bind_some h
 refine zr [1, 8] 1 Zx (rq1 (U4 _ _ q1) rqn) (Zb (cn h2 (fun _ h4 => ?_) (fun _ h5 => ?_)))
 exact Za (zg [2] 0 (Zb (Zi (Zk (er1 h4)))))
 refine Ze (Zb (Za (Za ?_)))
 obtain ⟨r2, q6, h7⟩ := bind_some h5
 refine zr [1, 12] 1 Zx (rq1 (XQ _ _ _ _ q6) rqn) (Zb (cn h7 (fun _ h9 => ?_) (fun _ h10 => ?_)))
 exact Za (zg [2] 0 (Zb (Zi (Zk (er1 h9)))))
 refine Ze (Zb (Za ?_))
 obtain ⟨r3, q11, h12⟩ := bind_some h10
 obtain ⟨r4, q13, h14⟩ := bind_some h12
 obtain ⟨r5, q15, h16⟩ := bind_some h14
 obtain ⟨r6, q17, h18⟩ := bind_some h16
 obtain ⟨r7, q19, h20⟩ := bind_some h18
 obtain ⟨r8, q21, h22⟩ := bind_some h20
 obtain ⟨r9, q23, h24⟩ := bind_some h22
 obtain ⟨r10, q25, h26⟩ := bind_some h24
 obtain ⟨r11, q27, h28⟩ := bind_some h26
 obtain ⟨r12, q29, h30⟩ := bind_some h28
 refine rg [.pure (.int .i64 r3), .pure (.int .i64 r4), .pure (.int .i64 r5), .pure (.int .i64 r6), .pure (.int .i64 r7), .pure (.int .i64 r8), .pure (.int .i64 r9), .pure (.int .i64 r10), .pure (.int .i64 r11), .pure (.int .i64 r12)] [3] 0 ⟨52, [(3, .sl true 1 10 (fun i => List.take 1 (List.drop (i * 1) [.int .i64 r3, .int .i64 r4, .int .i64 r5, .int .i64 r6, .int .i64 r7, .int .i64 r8, .int .i64 r9, .int .i64 r10, .int .i64 r11, .int .i64 r12])))], []⟩ [] [⟨true, 103, [sL 12 Zj a0.Zc], .pure (.int .i64 r3)⟩, ⟨true, 104, [sL 2 Zw a0.Yv], .pure (.int .i64 r4)⟩, ⟨true, 105, [.agg (Zp a0)], .pure (.int .i64 r5)⟩, ⟨true, 106, [sL 2 Yu a0.YD], .pure (.int .i64 r6)⟩, ⟨true, 107, [.agg (Zp a0)], .pure (.int .i64 r7)⟩, ⟨true, 108, [.agg (Zp a0)], .pure (.int .i64 r8)⟩, ⟨true, 109, [.agg (Zp a0)], .pure (.int .i64 r9)⟩, ⟨true, 110, [.agg (Zp a0)], .pure (.int .i64 r10)⟩, ⟨true, 111, [.agg (Zp a0)], .pure (.int .i64 r11)⟩, ⟨true, 112, [.agg (Zp a0)], .pure (.int .i64 r12)⟩] Zx ⟨fun _ => Zbi a0.Zc r3 q11, fun _ => ZaD a0.Yv r4 q13, fun _ => Zcc a0 r5 q15, fun _ => ZaE a0.YD r6 q17, fun _ => R1 a0 r7 q19, fun _ => Zdr a0 r8 q21, fun _ => Zds a0 r9 q23, fun _ => Zcf a0 r10 q25, fun _ => ZcT a0 r11 q27, fun _ => Zbj a0 r12 q29, trivial⟩ (Xo (s' := ⟨52, [(3, sL 1 (ci .i64) ([r3, r4, r5, r6, r7, r8, r9, r10, r11, r12] : List Int))], []⟩) (JL (.cons (Gb rfl (fun i hi => match i, hi with | 0, _ => rfl | 1, _ => rfl | 2, _ => rfl | 3, _ => rfl | 4, _ => rfl | 5, _ => rfl | 6, _ => rfl | 7, _ => rfl | 8, _ => rfl | 9, _ => rfl | n + 10, h => absurd h (by omega))) .nil) .nil) (Za (Za (zg [3, 4] 0 (Zb (Zg ?_))))))
 obtain ⟨y15, q42, h43⟩ := bind_some h30
 refine zl (fun (p13 : Int) => ⟨52, [(3, sL 1 (ci .i64) ([r3, r4, r5, r6, r7, r8, r9, r10, r11, r12] : List Int)), (4, .int .i64 p13)], []⟩) (Sum.elim (fun z => OutE 0 (fun z => ⟨52, [], []⟩) z) (fun z => OutR Tryz.prog Tryz.f65 (.int .i64 z))) q42 ?_ ?_
 intro p13 y14 h31
 unfold M.Ye at h31
 refine Za (Za (zg [3, 4, 40] 0 (Zb (cn h31 (fun _ h33 => ?_) (fun _ h34 => ?_)))))
 refine Ze (Zb (Za (Zg (Za ?_))))
 obtain ⟨c35, h36⟩ := Zr h33
 refine zc [3, 4, 47] 0 c35 (Zb (cn h36 (fun _ h38 => ?_) (fun _ h39 => ?_)))
 refine Za ?_
 obtain ⟨c40, h41⟩ := Zr h38
 exact zc [2] 0 c40 (Zb (Zi (Z7 (Zk (rr h41 ⟨rfl, er0 _⟩)))))
 exact Ze (XO (Zb (zg [3, 4] 0 (rn h39))))
 exact ZQ (Xh (re h34 ⟨rfl, kq⟩))
 intro e44 s45 o46
 rcases y15 with g16 | y17
 have h47 := X8 h43
 exact zi o46 (Za (zg [2] 0 (Zb (Zi (er1 h47)))))
 have h48 := X9 h43
 obtain ⟨rfl, n50⟩ := o46
 refine Z7 (Zk ?_)
 obtain rfl := Option.some.inj h48
 exact n50
theorem ZeZ (a0 : ZB) (r : Int) (h : M.Q2 a0 = some r) : Fn Tryz.prog 44 [.agg (XH a0)] (.pure (.int .i64 r)) := by
 let u1 : List Ob := [.box (XH a0)]
 unfold M.Q2 at h
 refine ZS Tryz.func44 rfl (by kernel_rfl) (Za (zg [1] 1 (Zb (Za (Za (zg [1, 12] 1 (Zb (cn h (fun _ h2 => ?_) (fun _ h3 => ?_)))))))))
 exact Za (zg [2] 0 (Zb (Zi (Zk (er1 h2)))))
 refine Ze (Zb (Za (Za (zg [1, 3] 1 (Zb (Zg ?_))))))
 obtain ⟨y20, q70, h71⟩ := bind_some h3
 refine zl (fun (p1 : Int) => ⟨86, [(1, .ref 0 0), (3, .int .i64 p1)], u1⟩) (Sum.elim (fun z => OutE 0 (fun z => ⟨86, [], []⟩) z) (fun z => OutR Tryz.prog Tryz.f44 (.int .i64 z))) q70 ?_ ?_
 intro p1 y2 h4
 unfold M.Jb at h4
 refine Za (Za (zg [1, 3, 17] 1 (Zb (cn h4 (fun _ h6 => ?_) (fun _ h7 => ?_)))))
 refine Ze (Zb (Za (Zg (Za (Za ?_)))))
 obtain ⟨r3, q8, h9⟩ := bind_some h6
 obtain ⟨c10, h11⟩ := Zr h9
 refine zr [1, 3, 4] 1 c10 (rq1 (ZaF _ _ q8) rqn) (Zb (Za (zg [1, 3, 4, 27] 1 (Zb (cn h11 (fun _ h13 => ?_) (fun _ h14 => ?_))))))
 exact Za (zg [2] 0 (Zb (Zi (Zk (Z7 (Zk (rr h13 ⟨rfl, er0 _⟩)))))))
 refine Ze (Zb (Za (Za (zg [1, 3, 5] 1 (Zb (Zg ?_))))))
 obtain ⟨y6, q24, h25⟩ := bind_some h14
 refine zl (fun (p4 : Int) => ⟨86, [(1, .ref 0 0), (3, .int .i64 p1), (5, .int .i64 p4)], u1⟩) (Sum.elim (fun z => OutE 2 (fun z => ⟨86, [(1, .ref 0 0), (3, .int .i64 p1)], u1⟩) z) (fun z => OutR Tryz.prog Tryz.f44 (.int .i64 z))) q24 ?_ ?_
 intro p4 y5 h15
 unfold M.Jt at h15
 refine Za (Za (zg [1, 3, 5, 31] 1 (Zb (cn h15 (fun _ h17 => ?_) (fun _ h18 => ?_)))))
 refine Ze (Zb (Za (Zg (Za ?_))))
 obtain ⟨c19, h20⟩ := Zr h17
 refine zc [1, 3, 5, 46] 1 c19 (Zb (cn h20 (fun _ h22 => ?_) (fun _ h23 => ?_)))
 exact Za (zg [2] 0 (Zb (Zi (Z7 (Zk (rr h22 ⟨rfl, er0 _⟩))))))
 exact Ze (XO (Zb (zg [1, 3, 5] 1 (rn h23))))
 exact ZQ (Xh (re h18 ⟨rfl, kq⟩))
 intro e26 s27 o28
 rcases y6 with g7 | y8
 have h29 := X8 h25
 refine zi o28 (Za (zg [1, 3, 6] 1 (Zb (Zg ?_))))
 obtain ⟨y17, q60, h61⟩ := bind_some h29
 refine zl (fun (p9 : Int) => ⟨86, [(1, .ref 0 0), (3, .int .i64 p1), (6, .int .i64 p9)], u1⟩) (Sum.elim (fun z => OutE 4 (fun z => ⟨86, [(1, .ref 0 0), (3, .int .i64 p1)], u1⟩) z) (fun z => OutR Tryz.prog Tryz.f44 (.int .i64 z))) q60 ?_ ?_
 intro p9 y10 h32
 unfold M.Ja at h32
 refine Za (Za ?_)
 obtain ⟨c33, h34⟩ := Zr h32
 refine zc [1, 3, 6, 55] 1 c33 (Zb (cn h34 (fun _ h36 => ?_) (fun _ h37 => ?_)))
 refine Ze (Zb (Za (Zg (Za ?_))))
 obtain ⟨c38, h39⟩ := Zr h36
 refine zc [1, 3, 6, 7] 2 c38 (Zb (Za (zg [1, 3, 6, 7, 8] 2 (Zb (Zg ?_)))))
 obtain ⟨y14, q51, h52⟩ := bind_some h39
 refine zl (fun (p11 : Int) => ⟨86, [(1, .ref 0 0), (3, .int .i64 p1), (6, .int .i64 p9), (7, .ref 1 0), (8, .int .i64 p11)], [.box (XH a0), .box (Zj (((a0.Zd.getD p1.toNat default).Zc).getD p9.toNat default))]⟩) (Sum.elim (fun z => OutE 6 (fun z => ⟨86, [(1, .ref 0 0), (3, .int .i64 p1), (6, .int .i64 p9)], u1⟩) z) (fun z => OutR Tryz.prog Tryz.f44 (.int .i64 z))) q51 ?_ ?_
 intro p11 y12 h40
 unfold M.Q9 at h40
 refine Za (Za (zg [1, 3, 6, 7, 8, 69] 2 (Zb (cn h40 (fun _ h42 => ?_) (fun _ h43 => ?_)))))
 refine Ze (Zb (Za (Zg (Za ?_))))
 obtain ⟨r13, q44, h45⟩ := bind_some h42
 obtain ⟨c46, h47⟩ := Zr h45
 refine zr [1, 3, 6, 7, 8, 85] 2 c46 (rq2 (fun hg => Rc _ _ _ (XR q44 hg)) rqn) (Zb (cn h47 (fun _ h49 => ?_) (fun _ h50 => ?_)))
 exact Za (zg [2] 0 (Zb (Zi (Z7 (Zk (rr h49 ⟨rfl, er0 _⟩))))))
 exact Ze (XO (Zb (zg [1, 3, 6, 7, 8] 2 (rn h50))))
 exact ZQ (Xh (re h43 ⟨rfl, kc⟩))
 intro e53 s54 o55
 rcases y14 with g15 | y16
 have h56 := X8 h52
 obtain ⟨rfl, l58⟩ := o55
 exact YF (XO (Xo (s' := ⟨86, [(1, .ref 0 0), (3, .int .i64 p1), (6, .int .i64 p9)], u1⟩) (l58) (zg [1, 3, 6] 1 (rn h56))))
 have h57 := X9 h52
 obtain ⟨rfl, n59⟩ := o55
 exact Z7 (Z7 (Zk (rr h57 ⟨rfl, n59⟩)))
 exact ZQ (Xh (re h37 ⟨rfl, kq⟩))
 intro e62 s63 o64
 rcases y17 with g18 | y19
 have h65 := X8 h61
 obtain ⟨rfl, l67⟩ := o64
 exact YF (XO (Xo (s' := ⟨86, [(1, .ref 0 0), (3, .int .i64 p1)], u1⟩) (l67) (zg [1, 3] 1 (rn h65))))
 have h66 := X9 h61
 obtain ⟨rfl, n68⟩ := o64
 exact Z7 (Z7 (Zk (rr h66 ⟨rfl, n68⟩)))
 have h30 := X9 h25
 obtain ⟨rfl, n69⟩ := o28
 exact Z7 (Zk (Z7 (Zk (rr h30 ⟨rfl, n69⟩))))
 exact ZQ (Xh (re h7 ⟨rfl, kc⟩))
 intro e72 s73 o74
 rcases y20 with g21 | y22
 have h75 := X8 h71
 exact zi o74 (Za (zg [2] 0 (Zb (Zi (er1 h75)))))
 have h76 := X9 h71
 obtain ⟨rfl, n78⟩ := o74
 refine Z7 (Zk ?_)
 obtain rfl := Option.some.inj h76
 exact n78
theorem Zdt (a0 : ZZ) (a1 : ZZ) (r : Int) (h : M.Vt a0 a1 = some r) : Fn Tryz.prog 46 [.agg (Xd a0), .agg (Xd a1)] (.pure (.int .i64 r)) := by
 unfold M.Vt at h
 refine ZS Tryz.func46 rfl (by kernel_rfl) (Za (zg [2, 3] 2 (Zb (Za (Za (zg [2, 3, 23] 2 (Zb (cn h (fun _ h2 => ?_) (fun _ h3 => ?_)))))))))
 exact Za (zg [4] 0 (Zb (Zi (Zk (er1 h2)))))
 refine Ze (Zb (Za (Za (zg [26] 0 (Zb (cn h3 (fun _ h5 => ?_) (fun _ h6 => ?_)))))))
 exact Za (zg [4] 0 (Zb (Zi (Zk (er1 h5)))))
 exact Ze (Zb (Za (zg [4] 0 (Zb (Zi (er1 h6))))))
theorem ZeG (a0 : ZB) (r : Qr × Int) (h : M.Up a0 = some r) : Fn Tryz.prog 13 [.agg (XH a0)] (.pure (.tup [.agg (G7 r.1), .int .i64 r.2])) := by
 let u2 := XH a0
 let u7 : List Ob := [.box u2, .box [.sl true 4 0 (fun _ => []), .sl true 1 0 (fun _ => [])]]
 let u8 : List Ob := [.box u2, .box [.sl true 4 0 (fun _ => []), .sl true 1 0 (fun _ => [])], .box [.sl true 4 0 (fun _ => []), .sl true 1 0 (fun _ => [])]]
 let u16 : List (Nat × D) := [(2, .ref 1 0), (5, .ref 2 0)]
 let u21 := (a0.Zd.length : Int)
 let u28 := List Zh
 unfold M.Up at h
 refine ZS Tryz.func13 rfl (by kernel_rfl) ?_
 refine Za (rg0 [1, 2] 2 ⟨186, [(1, .ref 0 0), (2, .ref 1 0)], u7⟩ ?_)
 refine Zb (Za (Za ?_))
 obtain ⟨r1, q1, h2⟩ := bind_some h
 refine rg [.pure (.int .i64 r1)] [1, 2, 4] 2 ⟨186, [(1, .ref 0 0), (2, .ref 1 0), (4, .int .i64 r1)], u7⟩ [] [⟨true, 44, [.agg u2], .pure (.int .i64 r1)⟩] Zx ⟨fun _ => ZeZ a0 r1 q1, trivial⟩ ?_
 refine Zb (Za (rg0 [1, 2, 4, 16] 2 ⟨186, [(1, .ref 0 0), (2, .ref 1 0), (4, .int .i64 r1), (16, .bool (r1 != 0))], u7⟩ ?_))
 refine Zb ?_
 refine cnd (r1 != 0) (fun b3 => ?_) (fun b3 => ?_)
 have h4 := UW b3 h2
 refine Za (rg0 [2, 3] 2 ⟨186, [(2, .ref 1 0), (3, .int .i64 r1)], u7⟩ ?_)
 refine Zb (Zi (Zk ?_))
 obtain rfl := Option.some.inj h4
 exact er (.tup [.agg [.sl false 4 0 (fun _ => []), .sl false 1 0 (fun _ => [])], .int .i64 r1]) (ZbO (.cons (RD (.cons Vy (.cons Vy .nil))) (.cons ASub.rfl .nil)))
 have h5 := UX b3 h2
 refine Ze (Zb (Za (rg0 [1, 2, 5] 3 ⟨186, [(1, .ref 0 0), (2, .ref 1 0), (5, .ref 2 0)], u8⟩ ?_)))
 refine Zb (Za (Za (rg0 [1, 2, 5, 6] 3 ⟨186, [(1, .ref 0 0), (2, .ref 1 0), (5, .ref 2 0), (6, .int .i64 0)], u8⟩ ?_)))
 refine Zb (Zg ?_)
 refine Wk (s' := ⟨186, [(1, .ref 0 0), (2, .ref 1 0), (5, .ref 2 0), (6, .int .i64 0)], [.box u2, .box [.sl true 4 0 (fun _ => []), .sl true 1 0 (fun _ => [])], .box [.asl 3 0 ([] : List Zh).length, .sl true 1 0 (fun _ => [])], rA 4 hdDom ([] : List Zh) (fun _ => nilV), rF 2 ZY Zh.ZU ([] : List Zh) (fun _ => nilV)]⟩) (Le.trans (s' := ⟨186, [(1, .ref 0 0), (2, .ref 1 0), (5, .ref 2 0), (6, .int .i64 0)], [.box u2, .box [.sl true 4 0 (fun _ => []), .sl true 1 0 (fun _ => [])], .box [.asl 3 0 0, .sl true 1 0 (fun _ => [])], .arr 4 0 (fun i => ZF (([] : List Zh).getD i default))]⟩) (Zev (nt := 186) (e := [(1, .ref 0 0), (2, .ref 1 0), (5, .ref 2 0), (6, .int .i64 0)]) (H := u8) (cells := [.sl true 4 0 (fun _ => []), .sl true 1 0 (fun _ => [])]) (wd := 4) (f := fun _ => []) 2 0 rfl rfl 4 (fun i => ZF (([] : List Zh).getD i default))) (ZgO (H := [.box u2, .box [.sl true 4 0 (fun _ => []), .sl true 1 0 (fun _ => [])], .box [.asl 3 0 0, .sl true 1 0 (fun _ => [])]]) (wd := 4) (wi := 2) hdDom ZY Zh.ZU (fun i => ZF (([] : List Zh).getD i default)))) ?_
 obtain ⟨y26, q114, h115⟩ := bind_some h5
 let u9 : List Ob := [.box u2, .box [.sl true 4 0 (fun _ => []), .sl true 1 0 (fun _ => [])], .box [sL 4 ZF y26, .sl true 1 0 (fun _ => [])]]
 let u32 := (y26.length : Int)
 refine GG (Zau (f := M.Wc a0) (S := fun (p14 : u28 × Int) (vs : Nat → Value) => ⟨186, [(1, .ref 0 0), (2, .ref 1 0), (5, .ref 2 0), (6, .int .i64 p14.2)], [.box u2, .box [.sl true 4 0 (fun _ => []), .sl true 1 0 (fun _ => [])], .box [.asl 3 0 p14.1.length, .sl true 1 0 (fun _ => [])], rA 4 hdDom p14.1 vs, rF 2 ZY Zh.ZU p14.1 vs]⟩) (O := (fun z => OutL 0 (fun (z : List Zh) (vs : Nat → Value) => ⟨186, u16, [.box u2, .box [.sl true 4 0 (fun _ => []), .sl true 1 0 (fun _ => [])], .box [.asl 3 0 z.length, .sl true 1 0 (fun _ => [])], rA 4 hdDom z vs, rF 2 ZY Zh.ZU z vs]⟩) z)) ?_ (g := (fun _ => nilV)) (x := (([] : List Zh), 0)) (y := y26) (VI q114)) ?_
 intro p14 y15 v14 h62
 let u17 := (a0.Zd.getD p14.2.toNat default).Zc
 let u31 := (u17.length : Int)
 unfold M.Wc at h62
 refine Za (Za (rg0 [1, 2, 5, 6, 24] 5 ⟨186, [(1, .ref 0 0), (2, .ref 1 0), (5, .ref 2 0), (6, .int .i64 p14.2), (24, .bool (decide (p14.2 < u21)))], [.box u2, .box [.sl true 4 0 (fun _ => []), .sl true 1 0 (fun _ => [])], .box [.asl 3 0 p14.1.length, .sl true 1 0 (fun _ => [])], rA 4 hdDom p14.1 v14, rF 2 ZY Zh.ZU p14.1 v14]⟩ ?_))
 refine Zb ?_
 refine cnd (decide (p14.2 < u21)) (fun b63 => ?_) (fun b63 => ?_)
 have h64 := UW b63 h62
 refine Ze (Zb (Za (Zg (Za (rg0 [1, 2, 5, 6, 7] 5 ⟨186, [(1, .ref 0 0), (2, .ref 1 0), (5, .ref 2 0), (6, .int .i64 p14.2), (7, .int .i64 0)], [.box u2, .box [.sl true 4 0 (fun _ => []), .sl true 1 0 (fun _ => [])], .box [.asl 3 0 p14.1.length, .sl true 1 0 (fun _ => [])], rA 4 hdDom p14.1 v14, rF 2 ZY Zh.ZU p14.1 v14]⟩ ?_)))))
 refine Zb (Zg ?_)
 obtain ⟨y25, q108, h109⟩ := bind_some h64
 refine GG (Zau (f := M.Wb a0 p14) (S := fun (p16 : u28 × Int) (vs : Nat → Value) => ⟨186, [(1, .ref 0 0), (2, .ref 1 0), (5, .ref 2 0), (6, .int .i64 p14.2), (7, .int .i64 p16.2)], [.box u2, .box [.sl true 4 0 (fun _ => []), .sl true 1 0 (fun _ => [])], .box [.asl 3 0 p16.1.length, .sl true 1 0 (fun _ => [])], rA 4 hdDom p16.1 vs, rF 2 ZY Zh.ZU p16.1 vs]⟩) (O := (fun z => OutL 2 (fun (z : List Zh) (vs : Nat → Value) => ⟨186, [(1, .ref 0 0), (2, .ref 1 0), (5, .ref 2 0), (6, .int .i64 p14.2)], [.box u2, .box [.sl true 4 0 (fun _ => []), .sl true 1 0 (fun _ => [])], .box [.asl 3 0 z.length, .sl true 1 0 (fun _ => [])], rA 4 hdDom z vs, rF 2 ZY Zh.ZU z vs]⟩) z)) ?_ (g := v14) (x := (p14.1, 0)) (y := y25) (VI q108)) ?_
 intro p16 y17 v16 h66
 let u1 := u17.getD p16.2.toNat default
 let u5 := (p16.1.length : Int)
 let u10 := Zj u1
 let u34 := ((u1.ZW) == 0) || (u1.Qy)
 unfold M.Wb at h66
 refine Za (Za ?_)
 obtain ⟨c67, h68⟩ := Zr h66
 refine rgc [1, 2, 5, 6, 7, 35] 5 ⟨186, [(1, .ref 0 0), (2, .ref 1 0), (5, .ref 2 0), (6, .int .i64 p14.2), (7, .int .i64 p16.2), (35, .bool (decide (p16.2 < u31)))], [.box u2, .box [.sl true 4 0 (fun _ => []), .sl true 1 0 (fun _ => [])], .box [.asl 3 0 p16.1.length, .sl true 1 0 (fun _ => [])], rA 4 hdDom p16.1 v16, rF 2 ZY Zh.ZU p16.1 v16]⟩ [decide (0 ≤ p14.2), decide (p14.2 < u21)] c67 ?_
 refine Zb ?_
 refine cnd (decide (p16.2 < u31)) (fun b69 => ?_) (fun b69 => ?_)
 have h70 := UW b69 h68
 refine Ze (Zb ?_)
 refine V7 (fun (p18 : u28 × (Nat → Value)) => ⟨186, [(1, .ref 0 0), (2, .ref 1 0), (5, .ref 2 0), (6, .int .i64 p14.2), (7, .int .i64 p16.2)], [.box u2, .box [.sl true 4 0 (fun _ => []), .sl true 1 0 (fun _ => [])], .box [.asl 3 0 p18.1.length, .sl true 1 0 (fun _ => [])], rA 4 hdDom p18.1 p18.2, rF 2 ZY Zh.ZU p18.1 p18.2]⟩) (fun p18 => M.WJ p16 p18.1 = some y17) ?_ ?_
 intro p18 h73
 unfold M.WJ at h73
 refine rg0 [1, 2, 5, 6, 7] 5 ⟨186, [(1, .ref 0 0), (2, .ref 1 0), (5, .ref 2 0), (6, .int .i64 p14.2), (7, .int .i64 (wr .i64 (p16.2 + 1)))], [.box u2, .box [.sl true 4 0 (fun _ => []), .sl true 1 0 (fun _ => [])], .box [.asl 3 0 p18.1.length, .sl true 1 0 (fun _ => [])], rA 4 hdDom p18.1 p18.2, rF 2 ZY Zh.ZU p18.1 p18.2]⟩ ?_
 obtain rfl := Option.some.inj h73
 exact RH p18.2 (UD)
 intro k72
 refine Zg (Za ?_)
 obtain ⟨c74, h75⟩ := Zr h70
 refine rgc [1, 2, 5, 6, 7, 8] 6 ⟨186, [(1, .ref 0 0), (2, .ref 1 0), (5, .ref 2 0), (6, .int .i64 p14.2), (7, .int .i64 p16.2), (8, .ref 5 0)], [.box u2, .box [.sl true 4 0 (fun _ => []), .sl true 1 0 (fun _ => [])], .box [.asl 3 0 p16.1.length, .sl true 1 0 (fun _ => [])], rA 4 hdDom p16.1 v16, rF 2 ZY Zh.ZU p16.1 v16, .box u10]⟩ [decide (0 ≤ p14.2), decide (p14.2 < u21), decide (0 ≤ p16.2), decide (p16.2 < u31)] c74 ?_
 refine Zb (Za (Za (rg0 [1, 2, 5, 6, 7, 8, 53] 6 ⟨186, [(1, .ref 0 0), (2, .ref 1 0), (5, .ref 2 0), (6, .int .i64 p14.2), (7, .int .i64 p16.2), (8, .ref 5 0), (53, .bool u34)], [.box u2, .box [.sl true 4 0 (fun _ => []), .sl true 1 0 (fun _ => [])], .box [.asl 3 0 p16.1.length, .sl true 1 0 (fun _ => [])], rA 4 hdDom p16.1 v16, rF 2 ZY Zh.ZU p16.1 v16, .box u10]⟩ ?_)))
 refine Zb ?_
 refine cnd u34 (fun b76 => ?_) (fun b76 => ?_)
 have h77 := UW b76 h75
 refine ZQ (Xh (YF ?_))
 exact Xo (Le.trans (s' := ⟨186, [(1, .ref 0 0), (2, .ref 1 0), (5, .ref 2 0), (6, .int .i64 p14.2), (7, .int .i64 p16.2)], [.box u2, .box [.sl true 4 0 (fun _ => []), .sl true 1 0 (fun _ => [])], .box [.asl 3 0 p16.1.length, .sl true 1 0 (fun _ => [])], rA 4 hdDom p16.1 v16, rF 2 ZY Zh.ZU p16.1 v16, .box u10]⟩) (kp [1, 2, 5, 6, 7]) (Um (n := 5) (by kernel_rfl))) (k72 (p16.1, v16) h77)
 have h78 := UX b76 h75
 refine Ze (Zb (Za ?_))
 obtain ⟨r19, q79, h80⟩ := bind_some h78
 let u12 := Xd r19
 refine rg [.pure (.agg u12)] [1, 2, 5, 6, 7, 8, 9] 7 ⟨186, [(1, .ref 0 0), (2, .ref 1 0), (5, .ref 2 0), (6, .int .i64 p14.2), (7, .int .i64 p16.2), (8, .ref 5 0), (9, .ref 6 0)], [.box u2, .box [.sl true 4 0 (fun _ => []), .sl true 1 0 (fun _ => [])], .box [.asl 3 0 p16.1.length, .sl true 1 0 (fun _ => [])], rA 4 hdDom p16.1 v16, rF 2 ZY Zh.ZU p16.1 v16, .box u10, .box u12]⟩ [] [⟨true, 45, [.int .u32 (u1.Zy), .int .i64 (u1.ZW)], .pure (.agg u12)⟩] Zx ⟨fun _ => Gr (u1.Zy) (u1.ZW) r19 q79, trivial⟩ ?_
 refine Zb (Za (rg0 [1, 2, 5, 6, 7, 8, 9, 10] 7 ⟨186, [(1, .ref 0 0), (2, .ref 1 0), (5, .ref 2 0), (6, .int .i64 p14.2), (7, .int .i64 p16.2), (8, .ref 5 0), (9, .ref 6 0), (10, .int .i64 0)], [.box u2, .box [.sl true 4 0 (fun _ => []), .sl true 1 0 (fun _ => [])], .box [.asl 3 0 p16.1.length, .sl true 1 0 (fun _ => [])], rA 4 hdDom p16.1 v16, rF 2 ZY Zh.ZU p16.1 v16, .box u10, .box u12]⟩ ?_))
 refine Zb (Za (Zg ?_))
 obtain ⟨y23, q89, h90⟩ := bind_some h80
 let u19 := p16.1.getD (0 + y23.toNat) default
 let u3 := !((((u19.Zo).Zy) == r19.Zy) && ((((u19.Zo).ZW) == r19.ZW) && true))
 let u6 := p16.1.length - y23.toNat
 let u18 := y23.toNat - 0
 let u24 := (u18 + 1) + (0 + u6)
 let u30 := (y23 == u5) || u3
 let u26 := u30 || ((u19.XD) != (u1.XD))
 let u29 := (u18 + 1) * 48 ≤ 140737488355328
 let u35 := u24 * 48 ≤ 140737488355328
 refine Wk (s' := ⟨186, [(1, .ref 0 0), (2, .ref 1 0), (5, .ref 2 0), (6, .int .i64 p14.2), (7, .int .i64 p16.2), (8, .ref 5 0), (9, .ref 6 0), (10, .int .i64 0)], [.box u2, .box [.sl true 4 0 (fun _ => []), .sl true 1 0 (fun _ => [])], .box [.asl 3 0 p16.1.length, .sl true 1 0 (fun _ => [])], rA 4 hdDom p16.1 v16, rF 2 ZY Zh.ZU p16.1 v16, .box u10, .box u12]⟩) (UD) ?_
 refine GG (Zee (f := M.Wa a0 p14 p16 r19) (S := fun (p20 : Int) => ⟨186, [(1, .ref 0 0), (2, .ref 1 0), (5, .ref 2 0), (6, .int .i64 p14.2), (7, .int .i64 p16.2), (8, .ref 5 0), (9, .ref 6 0), (10, .int .i64 p20)], [.box u2, .box [.sl true 4 0 (fun _ => []), .sl true 1 0 (fun _ => [])], .box [.asl 3 0 p16.1.length, .sl true 1 0 (fun _ => [])], rA 4 hdDom p16.1 v16, rF 2 ZY Zh.ZU p16.1 v16, .box u10, .box u12]⟩) (O := (fun z => OutE 4 (fun z => ⟨186, [(1, .ref 0 0), (2, .ref 1 0), (5, .ref 2 0), (6, .int .i64 p14.2), (7, .int .i64 p16.2), (8, .ref 5 0), (9, .ref 6 0), (10, .int .i64 z)], [.box u2, .box [.sl true 4 0 (fun _ => []), .sl true 1 0 (fun _ => [])], .box [.asl 3 0 p16.1.length, .sl true 1 0 (fun _ => [])], rA 4 hdDom p16.1 v16, rF 2 ZY Zh.ZU p16.1 v16, .box u10, .box u12]⟩) z)) ?_ (x := 0) (y := y23) (VI q89)) ?_
 intro p20 y21 h81
 let u13 := p16.1.getD (0 + p20.toNat) default
 let u4 := (((u13.Zo).Zy) == r19.Zy) && ((((u13.Zo).ZW) == r19.ZW) && true)
 let u15 := decide (p20 < u5)
 let u27 := decide (0 ≤ p20)
 unfold M.Wa at h81
 refine Za (Za ?_)
 obtain ⟨r22, q82, h83⟩ := bind_some h81
 let u20 := decide (r22 < 0)
 let u22 := u15 && (u20 || (u4 && (decide ((u13.XD) < (u1.XD)))))
 obtain ⟨c84, h85⟩ := Zr h83
 refine rg [.pure (.int .i64 r22)] [1, 2, 5, 6, 7, 8, 9, 10, 95] 7 ⟨186, [(1, .ref 0 0), (2, .ref 1 0), (5, .ref 2 0), (6, .int .i64 p14.2), (7, .int .i64 p16.2), (8, .ref 5 0), (9, .ref 6 0), (10, .int .i64 p20), (95, .bool u22)], [.box u2, .box [.sl true 4 0 (fun _ => []), .sl true 1 0 (fun _ => [])], .box [.asl 3 0 p16.1.length, .sl true 1 0 (fun _ => [])], rA 4 hdDom p16.1 v16, rF 2 ZY Zh.ZU p16.1 v16, .box u10, .box u12]⟩ [guardB u15 u27, guardB u15 u15, guardB (u15 && !u20) u27, guardB (u15 && !u20) u15, guardB ((u15 && !u20) && u4) u27, guardB ((u15 && !u20) && u4) u15] [⟨decide (p20 < u5), 46, [.agg (Xd (u13.Zo)), .agg u12], .pure (.int .i64 r22)⟩] c84 ⟨fun hg => Zdt (u13.Zo) r19 r22 (XR q82 hg), trivial⟩ ?_
 refine Zb ?_
 refine cnd u22 (fun b86 => ?_) (fun b86 => ?_)
 have h87 := UW b86 h85
 refine Ze (Zb (Zg (rg0 [1, 2, 5, 6, 7, 8, 9, 10] 7 ⟨186, [(1, .ref 0 0), (2, .ref 1 0), (5, .ref 2 0), (6, .int .i64 p14.2), (7, .int .i64 p16.2), (8, .ref 5 0), (9, .ref 6 0), (10, .int .i64 (wr .i64 (p20 + 1)))], [.box u2, .box [.sl true 4 0 (fun _ => []), .sl true 1 0 (fun _ => [])], .box [.asl 3 0 p16.1.length, .sl true 1 0 (fun _ => [])], rA 4 hdDom p16.1 v16, rF 2 ZY Zh.ZU p16.1 v16, .box u10, .box u12]⟩ ?_)))
 refine XO ?_
 obtain rfl := Option.some.inj h87
 exact ZdP (UD)
 have h88 := UX b86 h85
 refine ZQ (Xh ?_)
 obtain rfl := Option.some.inj h88
 exact ZfG ⟨rfl, kp [1, 2, 5, 6, 7, 8, 9, 10]⟩
 intro e91 s92 o93
 obtain ⟨rfl, l94⟩ := o93
 refine YF ?_
 refine Xo (s' := ⟨186, [(1, .ref 0 0), (2, .ref 1 0), (5, .ref 2 0), (6, .int .i64 p14.2), (7, .int .i64 p16.2), (8, .ref 5 0), (9, .ref 6 0), (10, .int .i64 y23)], [.box u2, .box [.sl true 4 0 (fun _ => []), .sl true 1 0 (fun _ => [])], .box [.asl 3 0 p16.1.length, .sl true 1 0 (fun _ => [])], rA 4 hdDom p16.1 v16, rF 2 ZY Zh.ZU p16.1 v16, .box u10, .box u12]⟩) (l94) ?_
 refine V7 (fun (p24 : u28 × (Nat → Value)) => ⟨186, [(1, .ref 0 0), (2, .ref 1 0), (5, .ref 2 0), (6, .int .i64 p14.2), (7, .int .i64 p16.2), (10, .int .i64 y23)], [.box u2, .box [.sl true 4 0 (fun _ => []), .sl true 1 0 (fun _ => [])], .box [.asl 3 0 p24.1.length, .sl true 1 0 (fun _ => [])], rA 4 hdDom p24.1 p24.2, rF 2 ZY Zh.ZU p24.1 p24.2]⟩) (fun p24 => M.WK p14 p16 y23 p24.1 = some y17) ?_ ?_
 intro p24 h96
 let u14 := p24.1.getD (0 + y23.toNat) default
 let u23 := u14.ZU.length + 1
 unfold M.WK at h96
 obtain ⟨c97, h98⟩ := Zr h96
 have g1 : 0 ≤ y23 := of_decide_eq_true (c97 _ (by simp only [List.mem_cons, true_or]))
 have g2 : y23 < (p24.1.length : Int) := of_decide_eq_true (c97 _ (by simp only [List.mem_cons, true_or, or_true]))
 have g3 : (((p24.1.getD (0 + y23.toNat) default).ZU).length + 1) * 16 ≤ 140737488355328 := of_decide_eq_true (c97 _ (by simp only [List.mem_cons, true_or, or_true]))
 refine Wk (ZjD (idf := 4) (0 + y23.toNat) rfl) ?_
 refine rgvB [1] [.gone, .gone, .box [.asl 3 0 p24.1.length, .sl true 1 0 (fun _ => [])]] [[.box u2, .box [.sl true 4 0 (fun _ => []), .sl true 1 0 (fun _ => [])], .box [.asl 3 0 p24.1.length, .sl true 1 0 (fun _ => [])], rA 4 hdDom p24.1 p24.2, .fam (0 + y23.toNat) (fun v => pB (v = p24.2 (0 + y23.toNat))) p24.1.length 2 p24.2 (rls ZY Zh.ZU p24.1)], [.box u2, .box [.sl true 4 0 (fun _ => []), .sl true 1 0 (fun _ => [])], .box [.asl 3 0 p24.1.length, .sl true 1 0 (fun _ => [])], rA 4 hdDom p24.1 p24.2, .fam (0 + y23.toNat) (fun _ => false) p24.1.length 2 (updV p24.2 (0 + y23.toNat) nilV) (updL (rls ZY Zh.ZU p24.1) (0 + y23.toNat) (0, fun _ => [])), .arr 2 u23 (app (rls ZY Zh.ZU p24.1 (0 + y23.toNat)).2 (rls ZY Zh.ZU p24.1 (0 + y23.toNat)).1 (fun i => List.take 2 (List.drop (i * 2) [.int .i64 p14.2, .int .i64 p16.2])))]] 14 [] [1, 2, 5, 6, 7, 144, 145, 156] 6 ⟨186, [(1, .ref 0 0), (2, .ref 1 0), (5, .ref 2 0), (6, .int .i64 p14.2), (7, .int .i64 p16.2), (144, .asl 3 0 p24.1.length), (145, .int .i64 y23), (156, .asl 5 0 u23)], [.box u2, .box [.sl true 4 0 (fun _ => []), .sl true 1 0 (fun _ => [])], .box [.asl 3 0 p24.1.length, .sl true 1 0 (fun _ => [])], rA 4 hdDom p24.1 p24.2, .fam (0 + y23.toNat) (fun _ => false) p24.1.length 2 (updV p24.2 (0 + y23.toNat) nilV) (updL (rls ZY Zh.ZU p24.1) (0 + y23.toNat) (0, fun _ => [])), .arr 2 u23 (app (rls ZY Zh.ZU p24.1 (0 + y23.toNat)).2 (rls ZY Zh.ZU p24.1 (0 + y23.toNat)).1 (fun i => List.take 2 (List.drop (i * 2) [.int .i64 p14.2, .int .i64 p16.2])))]⟩ [decide (0 ≤ y23), decide (y23 < (p24.1.length : Int)), pB (p24.2 (0 + y23.toNat) = p24.2 (0 + y23.toNat)), decide ((0 + y23.toNat) < p24.1.length), decide (u23 * 16 ≤ 140737488355328)] [] ?_ trivial ?_ _ (ZhX (idf := 4) 156 (0 + y23.toNat) rfl rfl rfl ?_ rfl) [] [1, 2, 5, 6, 7] 5 (fun w => ⟨186, [(1, .ref 0 0), (2, .ref 1 0), (5, .ref 2 0), (6, .int .i64 p14.2), (7, .int .i64 p16.2)], [.box u2, .box [.sl true 4 0 (fun _ => []), .sl true 1 0 (fun _ => [])], .box [.asl 3 0 p24.1.length, .sl true 1 0 (fun _ => [])], .arr 4 p24.1.length (fun j => bif Nat.beq j (0 + y23.toNat) then splice (hdDom u14 ++ [.val (p24.2 (0 + y23.toNat))]) [.val w] 3 else hdDom (p24.1.getD j default) ++ [.val (p24.2 j)]), .fam 0 (fun _ => false) p24.1.length 2 (updV (updV p24.2 (0 + y23.toNat) nilV) (0 + y23.toNat) w) (updL (updL (rls ZY Zh.ZU p24.1) (0 + y23.toNat) (0, fun _ => [])) (0 + y23.toNat) (u14.ZU.length + 1, (app (rls ZY Zh.ZU p24.1 (0 + y23.toNat)).2 (rls ZY Zh.ZU p24.1 (0 + y23.toNat)).1 (fun i => List.take 2 (List.drop (i * 2) [.int .i64 p14.2, .int .i64 p16.2])))))]⟩) (fun _ => [decide (0 ≤ y23), decide (y23 < (p24.1.length : Int))]) (fun _ => []) ?_ (fun _ => trivial) (fun w => ?_)
 · exact am (decide_eq_true g1) (am (decide_eq_true g2) (am (ZjC rfl) (am (decide_eq_true (by omega)) (am (decide_eq_true g3) Zx))))
 · intro x hx
   simp only [List.mem_cons, List.not_mem_nil, or_false] at hx
   rcases hx with rfl | rfl <;> exact ⟨rfl, trivial⟩
 · rw [WG]; rfl
 · exact fun _ => am (decide_eq_true g1) (am (decide_eq_true g2) Zx)
 refine XO ?_
 exact Xo (Le.trans (Zh0 3 4 hdDom ZY Zh.ZU p24.1 (⟨(p24.1.getD (0 + y23.toNat) default).Zo, (p24.1.getD (0 + y23.toNat) default).XD, ((p24.1.getD (0 + y23.toNat) default).ZU) ++ [(⟨p14.2, p16.2⟩ : Qo)]⟩ : Zh) p24.2 (0 + y23.toNat) w ((p24.1.getD (0 + y23.toNat) default).ZU.length + 1) (app (rls ZY Zh.ZU p24.1 (0 + y23.toNat)).2 (rls ZY Zh.ZU p24.1 (0 + y23.toNat)).1 (fun i => List.take 2 (List.drop (i * 2) [.int .i64 p14.2, .int .i64 p16.2]))) _ _ _ (by decide) rfl rfl (fun j _ hj => by rw [Zbd hj]; rfl) (fun _ => by rw [Nat.beq_refl]; rfl) (fun j hj => UU hj) (fun j hj => Zaq hj) (by simp) (fun i hi => RE ZY (p24.1.getD (0 + y23.toNat) default).ZU (⟨p14.2, p16.2⟩ : Qo) (fun i => List.take 2 (List.drop (i * 2) [.int .i64 p14.2, .int .i64 p16.2])) rfl i hi)) (JL (.cons Sub.rfl (.cons Sub.rfl (.cons Sub.rfl (.cons Sub.rfl (.cons Sub.rfl .nil))))) (.cons .rfl (.cons .rfl (.cons (.box (.cons (ZbX (by simp)) (.cons CSub.rfl .nil))) (.cons .rfl (.cons .rfl .nil))))))) (k72 (p24.1.set (0 + y23.toNat) (⟨(p24.1.getD (0 + y23.toNat) default).Zo, (p24.1.getD (0 + y23.toNat) default).XD, ((p24.1.getD (0 + y23.toNat) default).ZU) ++ [(⟨p14.2, p16.2⟩ : Qo)]⟩ : Zh), updV p24.2 (0 + y23.toNat) w) h98)
 intro k95
 refine Za ?_
 obtain ⟨c99, h100⟩ := Zr h90
 refine rgc [1, 2, 5, 6, 7, 8, 9, 10, 123] 7 ⟨186, [(1, .ref 0 0), (2, .ref 1 0), (5, .ref 2 0), (6, .int .i64 p14.2), (7, .int .i64 p16.2), (8, .ref 5 0), (9, .ref 6 0), (10, .int .i64 y23), (123, .bool u26)], [.box u2, .box [.sl true 4 0 (fun _ => []), .sl true 1 0 (fun _ => [])], .box [.asl 3 0 p16.1.length, .sl true 1 0 (fun _ => [])], rA 4 hdDom p16.1 v16, rF 2 ZY Zh.ZU p16.1 v16, .box u10, .box u12]⟩ [guardB (!(y23 == u5)) (decide (0 ≤ y23)), guardB (!(y23 == u5)) (decide (y23 < u5)), guardB (!u30) (decide (0 ≤ y23)), guardB (!u30) (decide (y23 < u5))] c99 ?_
 refine Zb ?_
 refine cnd u26 (fun b101 => ?_) (fun b101 => ?_)
 have h102 := UW b101 h100
 refine Za ?_
 obtain ⟨c104, h105⟩ := Zr h102
 refine rgc [1, 2, 5, 6, 7, 8, 9, 10, 11] 8 ⟨186, [(1, .ref 0 0), (2, .ref 1 0), (5, .ref 2 0), (6, .int .i64 p14.2), (7, .int .i64 p16.2), (8, .ref 5 0), (9, .ref 6 0), (10, .int .i64 y23), (11, .asl 7 0 (0 + u6))], [.box u2, .box [.sl true 4 0 (fun _ => []), .sl true 1 0 (fun _ => [])], .box [.asl 3 0 p16.1.length, .sl true 1 0 (fun _ => [])], rA 4 hdDom p16.1 v16, rF 2 ZY Zh.ZU p16.1 v16, .box u10, .box u12, .arr 4 (0 + u6) (app (fun i => List.take 4 (List.drop (i * 4) [])) 0 (fun i => hdDom (p16.1.getD ((0 + y23.toNat) + i) default) ++ [.val (v16 ((0 + y23.toNat) + i))]))]⟩ [decide (0 ≤ y23), decide (y23 ≤ u5), decide (0 = 0) || decide (0 < u6), decide ((0 + u6) * 48 ≤ 140737488355328)] c104 ?_
 refine Zb ?_
 obtain ⟨c106, h107⟩ := Zr h105
 have g1 : 0 ≤ y23 := of_decide_eq_true (c106 _ (by simp only [List.mem_cons, true_or]))
 have g2 : y23 ≤ (p16.1.length : Int) := of_decide_eq_true (c106 _ (by simp only [List.mem_cons, true_or, or_true]))
 have g3 : ((y23.toNat - 0) + 1) * 48 ≤ 140737488355328 := of_decide_eq_true (c106 _ (by simp only [List.mem_cons, true_or, or_true]))
 have g4 : (((y23.toNat - 0) + 1) + (0 + (p16.1.length - y23.toNat))) * 48 ≤ 140737488355328 := of_decide_eq_true (c106 _ (by simp only [List.mem_cons, true_or, or_true]))
 refine rgp 9 [] [1, 2, 5, 6, 7, 10, 11, 133, 138] 8 ⟨186, [(1, .ref 0 0), (2, .ref 1 0), (5, .ref 2 0), (6, .int .i64 p14.2), (7, .int .i64 p16.2), (10, .int .i64 y23), (11, .asl 7 0 (0 + u6)), (133, .asl 3 0 u18), (138, .sl true 4 1 (fun i => List.take 4 (List.drop (i * 4) [.int .u32 r19.Zy, .int .i64 r19.ZW, .int .i64 u1.XD, .sl true 2 0 (fun _ => [])])))], [.box u2, .box [.sl true 4 0 (fun _ => []), .sl true 1 0 (fun _ => [])], .box [.asl 3 0 p16.1.length, .sl true 1 0 (fun _ => [])], rA 4 hdDom p16.1 v16, rF 2 ZY Zh.ZU p16.1 v16, .box u10, .box u12, .arr 4 (0 + u6) (app (fun i => List.take 4 (List.drop (i * 4) [])) 0 (fun i => hdDom (p16.1.getD ((0 + y23.toNat) + i) default) ++ [.val (v16 ((0 + y23.toNat) + i))]))]⟩ [1, 2, 5, 6, 7, 10, 133, 138, 140] 8 ⟨186, [(1, .ref 0 0), (2, .ref 1 0), (5, .ref 2 0), (6, .int .i64 p14.2), (7, .int .i64 p16.2), (10, .int .i64 y23), (133, .asl 3 0 u18), (138, .sl true 4 1 (fun i => List.take 4 (List.drop (i * 4) [.int .u32 r19.Zy, .int .i64 r19.ZW, .int .i64 u1.XD, .sl true 2 0 (fun _ => [])]))), (140, .asl 7 0 (0 + u6))], [.box u2, .box [.sl true 4 0 (fun _ => []), .sl true 1 0 (fun _ => [])], .box [.asl 3 0 p16.1.length, .sl true 1 0 (fun _ => [])], rA 4 hdDom p16.1 v16, rF 2 ZY Zh.ZU p16.1 v16, .box u10, .box u12, .arr 4 (0 + u6) (app (fun i => List.take 4 (List.drop (i * 4) [])) 0 (fun i => hdDom (p16.1.getD ((0 + y23.toNat) + i) default) ++ [.val (v16 ((0 + y23.toNat) + i))]))]⟩ [decide (0 ≤ y23), decide (y23 ≤ u5)] [] (am (decide_eq_true g1) (am (decide_eq_true g2) Zx)) trivial [] [1, 2, 5, 6, 7, 10] 5 ⟨186, [(1, .ref 0 0), (2, .ref 1 0), (5, .ref 2 0), (6, .int .i64 p14.2), (7, .int .i64 p16.2), (10, .int .i64 y23)], [.box u2, .box [.sl true 4 0 (fun _ => []), .sl true 1 0 (fun _ => [])], .box [.asl 3 0 u24, .sl true 1 0 (fun _ => [])], .arr 4 u24 (app (app (fun j => hdDom (p16.1.getD j default) ++ [.val (v16 j)]) u18 (fun i => List.take 4 (List.drop (i * 4) [.int .u32 r19.Zy, .int .i64 r19.ZW, .int .i64 u1.XD, .sl true 2 0 (fun _ => [])]))) (u18 + 1) (fun i => (app (fun i => List.take 4 (List.drop (i * 4) [])) 0 (fun i => hdDom (p16.1.getD ((0 + y23.toNat) + i) default) ++ [.val (v16 ((0 + y23.toNat) + i))])) (0 + i))), rF 2 ZY Zh.ZU p16.1 v16]⟩ [decide u29, decide u35] [] (am (decide_eq_true g3) (am (decide_eq_true g4) Zx)) trivial [] [1, 2, 5, 6, 7, 10, 139, 140] 8 ⟨186, [(1, .ref 0 0), (2, .ref 1 0), (5, .ref 2 0), (6, .int .i64 p14.2), (7, .int .i64 p16.2), (10, .int .i64 y23), (139, .asl 3 0 (u18 + 1)), (140, .asl 7 0 (0 + u6))], [.box u2, .box [.sl true 4 0 (fun _ => []), .sl true 1 0 (fun _ => [])], .box [.any, .sl true 1 0 (fun _ => [])], .arr 4 (u18 + 1) (app (fun j => hdDom (p16.1.getD j default) ++ [.val (v16 j)]) u18 (fun i => List.take 4 (List.drop (i * 4) [.int .u32 r19.Zy, .int .i64 r19.ZW, .int .i64 u1.XD, .sl true 2 0 (fun _ => [])]))), rF 2 ZY Zh.ZU p16.1 v16, .box u10, .box u12, .arr 4 (0 + u6) (app (fun i => List.take 4 (List.drop (i * 4) [])) 0 (fun i => hdDom (p16.1.getD ((0 + y23.toNat) + i) default) ++ [.val (v16 ((0 + y23.toNat) + i))]))]⟩ [decide u29] [] (am (decide_eq_true g3) Zx) trivial [] [1, 2, 5, 6, 7, 10] 5 [decide u35] [] (am (decide_eq_true g4) Zx) trivial ?_
 refine Ks (ZjX (w1 := 2) (g := fun _ => []) 3 4 hdDom ZY Zh.ZU p16.1 y23.toNat (⟨r19, (((a0.Zd.getD p14.2.toNat default).Zc).getD p16.2.toNat default).XD, ([] : List Qo)⟩ : Zh) v16 (by decide) (by omega) (by omega) rfl rfl rfl (fun j hj => ?_) ?_ (fun j hj hj2 => ?_)) fun w => ?_
 · exact (ZdU (by omega)).trans (ZdU (by omega))
 · exact (ZdU (by omega)).trans ((congrArg (app _ (y23.toNat - 0) _) (show y23.toNat = y23.toNat - 0 by omega)).trans ZjW)
 · rw [ZjV (by omega)]
   show app _ 0 _ (0 + (j - (y23.toNat - 0 + 1))) = _
   rw [ZjV (Nat.zero_le _)]
   have e : (0 + y23.toNat) + ((0 + (j - (y23.toNat - 0 + 1))) - 0) = j - 1 := by omega
   simp only [e]
 exact Wk (JL (.cons Sub.rfl (.cons Sub.rfl (.cons Sub.rfl (.cons Sub.rfl (.cons Sub.rfl (.cons Sub.rfl .nil)))))) (.cons .rfl (.cons .rfl (.cons (.box (.cons (ZbX (by rw [ZbW (by omega)]; omega)) (.cons CSub.rfl .nil))) (.cons .rfl (.cons .rfl .nil)))))) (k95 (insL p16.1 y23.toNat (⟨r19, (((a0.Zd.getD p14.2.toNat default).Zc).getD p16.2.toNat default).XD, ([] : List Qo)⟩ : Zh), insV v16 y23.toNat w.1) h107)
 have h103 := UX b101 h100
 refine Ze ?_
 exact Xo (Le.trans (s' := ⟨186, [(1, .ref 0 0), (2, .ref 1 0), (5, .ref 2 0), (6, .int .i64 p14.2), (7, .int .i64 p16.2), (10, .int .i64 y23)], [.box u2, .box [.sl true 4 0 (fun _ => []), .sl true 1 0 (fun _ => [])], .box [.asl 3 0 p16.1.length, .sl true 1 0 (fun _ => [])], rA 4 hdDom p16.1 v16, rF 2 ZY Zh.ZU p16.1 v16, .box u10, .box u12]⟩) (kp [1, 2, 5, 6, 7, 10]) (Um (n := 5) (by kernel_rfl))) (k95 (p16.1, v16) h103)
 have h71 := UX b69 h68
 refine ZQ (Xh ?_)
 obtain rfl := Option.some.inj h71
 exact ZbV ⟨rfl, LeE.of v16 (kp [1, 2, 5, 6])⟩
 intro e110 s111 o112
 obtain ⟨rfl, l113⟩ := o112
 refine YF (XO ?_)
 refine Ks l113 fun v25 => ?_
 refine rg0 [1, 2, 5, 6] 5 ⟨186, [(1, .ref 0 0), (2, .ref 1 0), (5, .ref 2 0), (6, .int .i64 (wr .i64 (p14.2 + 1)))], [.box u2, .box [.sl true 4 0 (fun _ => []), .sl true 1 0 (fun _ => [])], .box [.asl 3 0 y25.length, .sl true 1 0 (fun _ => [])], rA 4 hdDom y25 v25, rF 2 ZY Zh.ZU y25 v25]⟩ ?_
 obtain rfl := Option.some.inj h109
 exact RH v25 (UD)
 have h65 := UX b63 h62
 refine ZQ (Xh ?_)
 obtain rfl := Option.some.inj h65
 exact ZbV ⟨rfl, LeE.of v14 (kp [2, 5])⟩
 intro e116 s117 o118
 obtain ⟨rfl, l119⟩ := o118
 refine YF ?_
 refine Ks l119 fun v26 => ?_
 refine Za (Za ?_)
 refine Wk (s' := ⟨186, u16, [.box u2, .box [.sl true 4 0 (fun _ => []), .sl true 1 0 (fun _ => [])], .box [.sl false 4 y26.length (fun k => (fun i => ZF (y26.getD i default)) (0 + k)), .sl true 1 0 (fun _ => [])], aL 4 ZF ([] : List Zh), .fam 0 (fun _ => false) 0 2 v26 (rls ZY Zh.ZU y26)]⟩) (Le.trans (s' := ⟨186, u16, [.box u2, .box [.sl true 4 0 (fun _ => []), .sl true 1 0 (fun _ => [])], .box [.asl 3 0 y26.length, .sl true 1 0 (fun _ => [])], aL 4 ZF y26, .fam 0 (fun _ => false) 0 2 v26 (rls ZY Zh.ZU y26)]⟩) (Zh1 3 4 hdDom ZY Zh.ZU ZF y26 v26 rfl rfl (fun _ => rfl)) (Le.trans ((RF (s := ⟨186, u16, [.box u2, .box [.sl true 4 0 (fun _ => []), .sl true 1 0 (fun _ => [])], .box [.asl 3 0 y26.length, .sl true 1 0 (fun _ => [])], aL 4 ZF y26, .fam 0 (fun _ => false) 0 2 v26 (rls ZY Zh.ZU y26)]⟩) (s' := ⟨186, u16, [.box u2, .box [.sl true 4 0 (fun _ => []), .sl true 1 0 (fun _ => [])], .box [.sl false 4 y26.length (fun k => (fun i => ZF (y26.getD i default)) (0 + k)), .sl true 1 0 (fun _ => [])], aL 4 ZF ([] : List Zh), .fam 0 (fun _ => false) 0 2 v26 (rls ZY Zh.ZU y26)]⟩) 3 4 y26.length (fun i => ZF (y26.getD i default)) (fun i => ZF (([] : List Zh).getD i default)) (by kernel_rfl) (by kernel_rfl) (by kernel_rfl))) (kp [2, 5]))) ?_
 refine rg0 [2, 5, 12] 3 ⟨186, [(2, .ref 1 0), (5, .ref 2 0), (12, .int .i64 0)], [.box u2, .box [.sl true 4 0 (fun _ => []), .sl true 1 0 (fun _ => [])], .box [.sl false 4 y26.length (fun k => (fun i => ZF (y26.getD i default)) (0 + k)), .sl true 1 0 (fun _ => [])]]⟩ ?_
 refine Xo (s' := ⟨186, [(2, .ref 1 0), (5, .ref 2 0), (12, .int .i64 0)], u9⟩) (JL (.cons Sub.rfl (.cons Sub.rfl (.cons Sub.rfl .nil))) (.cons .rfl (.cons .rfl (.cons (.box (.cons (Gg rfl (G5 (f := fun i => ZF (y26.getD i default)) (fun _ _ => rfl))) (.cons CSub.rfl .nil))) .nil)))) ?_
 refine Zg ?_
 refine Wk (s' := ⟨186, [(2, .ref 1 0), (5, .ref 2 0), (12, .int .i64 0)], u9⟩) (UD) ?_
 refine Wk (s' := ⟨186, [(2, .ref 1 0), (5, .ref 2 0), (12, .int .i64 0)], [.box u2, .box [.sl true 4 0 (fun _ => []), .sl true 1 0 (fun _ => [])], .box [sL 4 ZF y26, .asl 3 0 (([] : List Int).length)], aL 1 (ci .i64) ([] : List Int)]⟩) (Zev (nt := 186) (e := [(2, .ref 1 0), (5, .ref 2 0), (12, .int .i64 0)]) (H := u9) (cells := [sL 4 ZF y26, .sl true 1 0 (fun _ => [])]) (wd := 1) (f := fun _ => []) 2 1 rfl rfl 1 (fun i => (ci .i64) (([] : List Int).getD i default))) ?_
 obtain ⟨y31, q136, h137⟩ := bind_some h115
 let u11 : List (Nat × D) := [(2, .ref 1 0), (5, .ref 2 0), (183, .bool (decide ((y31.length : Int) > 12)))]
 refine Wk (s' := ⟨186, [(2, .ref 1 0), (5, .ref 2 0), (12, .int .i64 0)], [.box u2, .box [.sl true 4 0 (fun _ => []), .sl true 1 0 (fun _ => [])], .box [sL 4 ZF y26, .asl 3 0 (([] : List Int).length)], aL 1 (ci .i64) ([] : List Int)]⟩) (UD) ?_
 refine GG (Zee (f := M.Wd y26) (S := fun (p28 : (List Int) × Int) => ⟨186, [(2, .ref 1 0), (5, .ref 2 0), (12, .int .i64 p28.2)], [.box u2, .box [.sl true 4 0 (fun _ => []), .sl true 1 0 (fun _ => [])], .box [sL 4 ZF y26, .asl 3 0 p28.1.length], aL 1 (ci .i64) p28.1]⟩) (O := (fun z => OutE 6 (fun z => ⟨186, u16, [.box u2, .box [.sl true 4 0 (fun _ => []), .sl true 1 0 (fun _ => [])], .box [sL 4 ZF y26, .asl 3 0 z.length], aL 1 (ci .i64) z]⟩) z)) ?_ (x := (([] : List Int), 0)) (y := y31) (VI q136)) ?_
 intro p28 y29 h123
 let u25 := (((y26.getD p28.2.toNat default).ZU).length : Int)
 let u33 := p28.1.length + 1
 unfold M.Wd at h123
 refine Za (Za (rg0 [2, 5, 12, 163] 4 ⟨186, [(2, .ref 1 0), (5, .ref 2 0), (12, .int .i64 p28.2), (163, .bool (decide (p28.2 < u32)))], [.box u2, .box [.sl true 4 0 (fun _ => []), .sl true 1 0 (fun _ => [])], .box [sL 4 ZF y26, .asl 3 0 p28.1.length], aL 1 (ci .i64) p28.1]⟩ ?_))
 refine Zb ?_
 refine cnd (decide (p28.2 < u32)) (fun b124 => ?_) (fun b124 => ?_)
 have h125 := UW b124 h123
 refine Ze (Zb ?_)
 refine V7 (fun (p30 : (List Int)) => ⟨186, [(2, .ref 1 0), (5, .ref 2 0), (12, .int .i64 p28.2)], [.box u2, .box [.sl true 4 0 (fun _ => []), .sl true 1 0 (fun _ => [])], .box [sL 4 ZF y26, .asl 3 0 p30.length], aL 1 (ci .i64) p30]⟩) (fun p30 => M.WL p28 p30 = some y29) ?_ ?_
 intro p30 h128
 unfold M.WL at h128
 refine rg0 [2, 5, 12] 4 ⟨186, [(2, .ref 1 0), (5, .ref 2 0), (12, .int .i64 (wr .i64 (p28.2 + 1)))], [.box u2, .box [.sl true 4 0 (fun _ => []), .sl true 1 0 (fun _ => [])], .box [sL 4 ZF y26, .asl 3 0 p30.length], aL 1 (ci .i64) p30]⟩ ?_
 obtain rfl := Option.some.inj h128
 exact ZdP (UD)
 intro k127
 refine Zg (Za ?_)
 obtain ⟨c129, h130⟩ := Zr h125
 refine rgc [2, 5, 12, 173] 4 ⟨186, [(2, .ref 1 0), (5, .ref 2 0), (12, .int .i64 p28.2), (173, .bool (decide (u25 > 1)))], [.box u2, .box [.sl true 4 0 (fun _ => []), .sl true 1 0 (fun _ => [])], .box [sL 4 ZF y26, .asl 3 0 p28.1.length], aL 1 (ci .i64) p28.1]⟩ [decide (0 ≤ p28.2), decide (p28.2 < u32)] c129 ?_
 refine Zb ?_
 refine cnd (decide (u25 > 1)) (fun b131 => ?_) (fun b131 => ?_)
 have h132 := UW b131 h130
 obtain ⟨c134, h135⟩ := Zr h132
 refine rgc [2, 5, 12] 4 ⟨186, [(2, .ref 1 0), (5, .ref 2 0), (12, .int .i64 p28.2)], [.box u2, .box [.sl true 4 0 (fun _ => []), .sl true 1 0 (fun _ => [])], .box [sL 4 ZF y26, .asl 3 0 u33], .arr 1 u33 (app (fun i => (ci .i64) (p28.1.getD i default)) p28.1.length (fun i => List.take 1 (List.drop (i * 1) [.int .i64 p28.2])))]⟩ [decide (u33 * 8 ≤ 140737488355328)] c134 ?_
 refine XO ?_
 exact Xo (JL (.cons Sub.rfl (.cons Sub.rfl (.cons Sub.rfl .nil))) (.cons .rfl (.cons .rfl (.cons (.box (.cons CSub.rfl (.cons (ZbX (Kr _ _)) .nil))) (.cons (.arr (Kr _ _) (RE (ci .i64) p28.1 p28.2 _ rfl)) .nil))))) (k127 (p28.1 ++ [p28.2]) h135)
 have h133 := UX b131 h130
 refine Ze (XO ?_)
 exact Xo (kp [2, 5, 12]) (k127 p28.1 h133)
 have h126 := UX b124 h123
 refine ZQ (Xh ?_)
 obtain rfl := Option.some.inj h126
 exact ZfG ⟨rfl, kp [2, 5]⟩
 intro e138 s139 o140
 obtain ⟨rfl, l141⟩ := o140
 refine YF ?_
 refine Xo (s' := ⟨186, u16, [.box u2, .box [.sl true 4 0 (fun _ => []), .sl true 1 0 (fun _ => [])], .box [sL 4 ZF y26, .asl 3 0 y31.length], aL 1 (ci .i64) y31]⟩) (l141) ?_
 refine Za (Za (rg0 [2, 5, 183] 4 ⟨186, u11, [.box u2, .box [.sl true 4 0 (fun _ => []), .sl true 1 0 (fun _ => [])], .box [sL 4 ZF y26, .asl 3 0 y31.length], aL 1 (ci .i64) y31]⟩ ?_))
 refine Zb ?_
 refine cnd (decide ((y31.length : Int) > 12)) (fun b142 => ?_) (fun b142 => ?_)
 have h143 := UW b142 h137
 refine Za (rg0 [2, 3] 2 ⟨186, [(2, .ref 1 0), (3, .int .i64 7)], u7⟩ ?_)
 refine Zb (Zi (Zk ?_))
 obtain rfl := Option.some.inj h143
 exact er (.tup [.agg [.sl false 4 0 (fun _ => []), .sl false 1 0 (fun _ => [])], .int .i64 7]) (ZbO (.cons (RD (.cons Vy (.cons Vy .nil))) (.cons ASub.rfl .nil)))
 have h144 := UX b142 h137
 refine Ze (Zb (Za ?_))
 refine Wk (s' := ⟨186, u11, [.box u2, .box [.sl true 4 0 (fun _ => []), .sl true 1 0 (fun _ => [])], .box [sL 4 ZF y26, .sl false 1 y31.length (fun k => (fun i => (ci .i64) (y31.getD i default)) (0 + k))], aL 1 (ci .i64) ([] : List Int)]⟩) (Le.trans ((RF (s := ⟨186, u11, [.box u2, .box [.sl true 4 0 (fun _ => []), .sl true 1 0 (fun _ => [])], .box [sL 4 ZF y26, .asl 3 0 y31.length], aL 1 (ci .i64) y31]⟩) (s' := ⟨186, u11, [.box u2, .box [.sl true 4 0 (fun _ => []), .sl true 1 0 (fun _ => [])], .box [sL 4 ZF y26, .sl false 1 y31.length (fun k => (fun i => (ci .i64) (y31.getD i default)) (0 + k))], aL 1 (ci .i64) ([] : List Int)]⟩) 3 1 y31.length (fun i => (ci .i64) (y31.getD i default)) (fun i => (ci .i64) (([] : List Int).getD i default)) (by kernel_rfl) (by kernel_rfl) (by kernel_rfl))) (kp [2, 5, 183])) ?_
 refine rg0 [2, 3] 2 ⟨186, [(2, .ref 1 0), (3, .int .i64 0)], [.box u2, .box [sL 4 ZF y26, .sl false 1 y31.length (fun k => (fun i => (ci .i64) (y31.getD i default)) (0 + k))]]⟩ ?_
 refine Xo (s' := ⟨186, [(2, .ref 1 0), (3, .int .i64 0)], [.box u2, .box [sL 4 ZF y26, sL 1 (ci .i64) y31]]⟩) (JL (.cons Sub.rfl (.cons Sub.rfl .nil)) (.cons .rfl (.cons (.box (.cons CSub.rfl (.cons (Gg rfl (G5 (f := fun i => (ci .i64) (y31.getD i default)) (fun _ _ => rfl))) .nil))) .nil))) ?_
 refine Zi ?_
 obtain rfl := Option.some.inj h144
 exact er0 (.tup [.agg [sL 4 ZF y26, sL 1 (ci .i64) y31], .int .i64 0])
theorem Zbk (a0 : List Int) (a1 : Int) (r : Bool) (h : M.QF a0 a1 = some r) : Fn Tryz.prog 50 [sL 1 (ci .i64) a0, .int .i64 a1] (.pure (.bool r)) := by
 unfold M.QF at h
 refine ZS Tryz.func50 rfl (by kernel_rfl) (Za (zg [0, 1] 0 (Zb (Za (Za (zg [0, 1, 8] 0 (Zb (cn h (fun _ h2 => ?_) (fun _ h3 => ?_)))))))))
 exact Za (zg [4] 0 (Zb (Zi (Zk (er1 h2)))))
 refine Ze (Zb (Za (Za (zg [0, 1, 5] 0 (Zb (Zg ?_))))))
 obtain ⟨y3, q13, h14⟩ := bind_some h3
 refine zl (fun (p1 : Int) => ⟨44, [(0, sL 1 (ci .i64) a0), (1, .int .i64 a1), (5, .int .i64 p1)], []⟩) (Sum.elim (fun z => OutE 0 (fun z => ⟨44, [], []⟩) z) (fun z => OutR Tryz.prog Tryz.f50 (.bool z))) q13 ?_ ?_
 intro p1 y2 h4
 unfold M.X6 at h4
 refine Za (Za (zg [0, 1, 5, 12] 0 (Zb (cn h4 (fun _ h6 => ?_) (fun _ h7 => ?_)))))
 refine Ze (Zb (Za (Zg (Za ?_))))
 obtain ⟨c8, h9⟩ := Zr h6
 refine zc [0, 1, 5, 43] 0 c8 (Zb (cn h9 (fun _ h11 => ?_) (fun _ h12 => ?_)))
 exact Za (zg [4] 0 (Zb (Zi (Z7 (Zk (rr h11 ⟨rfl, er0 _⟩))))))
 exact Ze (XO (Zb (zg [0, 1, 5] 0 (rn h12))))
 exact ZQ (Xh (re h7 ⟨rfl, kq⟩))
 intro e15 s16 o17
 rcases y3 with g4 | y5
 have h18 := X8 h14
 exact zi o17 (Za (zg [4] 0 (Zb (Zi (er1 h18)))))
 have h19 := X9 h14
 obtain ⟨rfl, n21⟩ := o17
 refine Z7 (Zk ?_)
 obtain rfl := Option.some.inj h19
 exact n21
theorem Ze0 (a0 : ZB) (a1 : List Int) (r : Xq × Int) (h : M.KP a0 a1 = some r) : Fn Tryz.prog 17 [.agg (XH a0), sL 1 (ci .i64) a1] (.pure (.tup [.agg (XI r.1), .int .i64 r.2])) := by
 let u1 : List Bool := [decide (0 = 0) || decide (0 < a1.length), decide ((0 + a1.length) * 8 ≤ 140737488355328)]
 let u3 := XH a0
 unfold M.KP at h
 refine ZS Tryz.func17 rfl (by kernel_rfl) (Za (zg [1, 2, 4] 2 (Zb (Za ?_))))
 obtain ⟨r1, q1, h2⟩ := bind_some h
 let u2 := G7 r1.1
 refine zr [1, 2, 4, 6, 7] 3 Zx (rq1 (ZeG _ _ q1) rqn) (Zb (Za (Za (zg [1, 2, 4, 6, 7, 14] 3 (Zb (cn h2 (fun _ h4 => ?_) (fun _ h5 => ?_)))))))
 refine Za (zg [4, 5] 2 (Zb (Zi (Zk ?_))))
 obtain rfl := Option.some.inj h4
 exact er (.tup [.agg [.sl false 25 0 (fun _ => []), .sl false 4 0 (fun _ => []), .sl false 1 0 (fun _ => []), .sl false 1 0 (fun _ => [])], .int .i64 r1.2]) (ZbO (.cons (RD (.cons Vy (.cons Vy (.cons Vy (.cons Vy .nil))))) (.cons ASub.rfl .nil)))
 refine Ze (Zb (Za (Za ?_)))
 obtain ⟨r2, q6, h7⟩ := bind_some h5
 refine rg [.pure (.bool r2)] [1, 2, 4, 6, 22] 3 ⟨30, [(1, sL 1 (ci .i64) a1), (2, .ref 0 0), (4, .ref 1 0), (6, .ref 2 0), (22, .bool (!r2))], [.box u3, .box [.sl true 25 0 (fun _ => []), .sl true 4 0 (fun _ => []), .sl true 1 0 (fun _ => []), .sl true 1 0 (fun _ => [])], .box u2]⟩ [] [⟨true, 50, [sL 1 (ci .i64) a1, .int .i64 (r1.1.XB.length : Int)], .pure (.bool r2)⟩] Zx ⟨fun _ => Zbk a1 (r1.1.XB.length : Int) r2 q6, trivial⟩ (Zb (cn h7 (fun _ h9 => ?_) (fun _ h10 => ?_)))
 refine Za (zg [4, 5] 2 (Zb (Zi (Zk ?_))))
 obtain rfl := Option.some.inj h9
 exact er (.tup [.agg [.sl false 25 0 (fun _ => []), .sl false 4 0 (fun _ => []), .sl false 1 0 (fun _ => []), .sl false 1 0 (fun _ => [])], .int .i64 1]) (ZbO (.cons (RD (.cons Vy (.cons Vy (.cons Vy (.cons Vy .nil))))) (.cons ASub.rfl .nil)))
 refine Ze (Zb (Za ?_))
 obtain ⟨c11, h12⟩ := Zr h10
 refine rgu [1, 2, 4, 5, 6, 22, 24, 25, 26, 27, 28, 29] [([], [], []), ([], [], []), ([], [], []), ([], [], []), ([], u1, []), ([], [], []), ([], [], []), ([], [], [])] [4, 5] 4 ⟨30, [(4, .ref 1 0), (5, .int .i64 0)], [.box u3, .box [sL 25 Zp a0.Zd, sL 4 ZF r1.1.Zv, sL 1 (ci .i64) r1.1.XB, .asl 3 0 (0 + a1.length)], .box u2, .arr 1 (0 + a1.length) (app (fun i => List.take 1 (List.drop (i * 1) [])) 0 (fun i => (ci .i64) (a1.getD i default)))]⟩ u1 [] c11 trivial (Xo (s' := ⟨30, [(4, .ref 1 0), (5, .int .i64 0)], [.box u3, .box [sL 25 Zp a0.Zd, sL 4 ZF r1.1.Zv, sL 1 (ci .i64) r1.1.XB, sL 1 (ci .i64) (a1 : List Int)], .box u2, aL 1 (ci .i64) ([] : List Int)]⟩) (Le.trans (RF (s := ⟨30, [(4, .ref 1 0), (5, .int .i64 0)], [.box u3, .box [sL 25 Zp a0.Zd, sL 4 ZF r1.1.Zv, sL 1 (ci .i64) r1.1.XB, .asl 3 0 (0 + a1.length)], .box u2, .arr 1 (0 + a1.length) (app (fun i => List.take 1 (List.drop (i * 1) [])) 0 (fun i => (ci .i64) (a1.getD i default)))]⟩) (s' := ⟨30, [(4, .ref 1 0), (5, .int .i64 0)], [.box u3, .box [sL 25 Zp a0.Zd, sL 4 ZF r1.1.Zv, sL 1 (ci .i64) r1.1.XB, .sl false 1 (0 + a1.length) (fun k => (app (fun i => List.take 1 (List.drop (i * 1) [])) 0 (fun i => (ci .i64) (a1.getD i default))) (0 + k))], .box u2, aL 1 (ci .i64) ([] : List Int)]⟩) 3 1 (0 + a1.length) (app (fun i => List.take 1 (List.drop (i * 1) [])) 0 (fun i => (ci .i64) (a1.getD i default))) (fun i => (ci .i64) (([] : List Int).getD i default)) (by kernel_rfl) (by kernel_rfl) (by kernel_rfl)) (JL (.cons Sub.rfl (.cons Sub.rfl .nil)) (.cons .rfl (.cons (.box (.cons CSub.rfl (.cons CSub.rfl (.cons CSub.rfl (.cons (Gg (Nat.zero_add _) (G5 (f := app (fun i => List.take 1 (List.drop (i * 1) [])) 0 (fun i => (ci .i64) (a1.getD i default))) (WY (ci .i64) _ a1 _ (fun _ _ => rfl)))) .nil))))) (.cons .rfl (.cons .rfl .nil)))))) (Zi ?_))
 obtain rfl := Option.some.inj h12
 exact er0 (.tup [.agg [sL 25 Zp a0.Zd, sL 4 ZF r1.1.Zv, sL 1 (ci .i64) r1.1.XB, sL 1 (ci .i64) (a1 : List Int)], .int .i64 0])
theorem ZaX (a0 : ZB) (a1 : List Int) (r : Xq × Bool) (h : M.Uq a0 a1 = some r) : Fn Tryz.prog 22 [.agg (XH a0), sL 1 (ci .i64) a1] (.pure (.tup [.agg (XI r.1), .bool r.2])) := by
 unfold M.Uq at h
 refine ZS Tryz.func22 rfl (by kernel_rfl) (Za (zg [1, 2, 4] 2 (Zb (Za (Za ?_)))))
 obtain ⟨r1, q1, h2⟩ := bind_some h
 refine zr [1, 2, 4, 15] 2 Zx (rq1 (ZeF _ _ q1) rqn) (Zb (cn h2 (fun _ h4 => ?_) (fun _ h5 => ?_)))
 refine Za (zg [4, 5] 2 (Zb (Zi (Zk ?_))))
 obtain rfl := Option.some.inj h4
 exact er (.tup [.agg [.sl false 25 0 (fun _ => []), .sl false 4 0 (fun _ => []), .sl false 1 0 (fun _ => []), .sl false 1 0 (fun _ => [])], .bool false]) (ZbO (.cons (RD (.cons Vy (.cons Vy (.cons Vy (.cons Vy .nil))))) (.cons ASub.rfl .nil)))
 refine Ze (Zb (Za ?_))
 obtain ⟨r2, q6, h7⟩ := bind_some h5
 refine zr [4, 6, 7] 3 Zx (rq1 (Ze0 _ _ _ q6) rqn) (Zb (Za (zg [4, 5] 2 (Zb (Zi ?_)))))
 obtain rfl := Option.some.inj h7
 exact er0 (.tup [.agg (XI r2.1), .bool (r2.2 == 0)])
theorem UP (a0 : List Int) (a1 : Int) (r : Int) (h : M.XL a0 a1 = some r) : Fn Tryz.prog 55 [sL 1 (ci .i64) a0, .int .i64 a1] (.pure (.int .i64 r)) := by
 unfold M.XL at h
 refine ZS Tryz.func55 rfl (by kernel_rfl) (Za (zg [0, 1] 0 (Zb (Za (Za (zg [0, 1, 7, 8] 0 (Zb (Zg ?_))))))))
 obtain ⟨y3, q10, h11⟩ := bind_some h
 refine zl (fun (p1 : Int) => ⟨19, [(0, sL 1 (ci .i64) a0), (1, .int .i64 a1), (7, .int .i64 (a0.length : Int)), (8, .int .i64 p1)], []⟩) (Sum.elim (fun z => OutE 0 (fun z => ⟨19, [], []⟩) z) (fun z => OutR Tryz.prog Tryz.f55 (.int .i64 z))) q10 ?_ ?_
 intro p1 y2 h1
 unfold M.XG at h1
 refine Za (zg [0, 1, 7, 8, 9] 0 (Zb (Za (cn h1 (fun _ h3 => ?_) (fun _ h4 => ?_)))))
 refine Ze (Zb (Za (Zg (Za (zg [0, 1, 5, 7, 8] 0 (Zb (Za ?_)))))))
 obtain ⟨c5, h6⟩ := Zr h3
 refine zc [0, 1, 5, 7, 8, 16] 0 c5 (Zb (cn h6 (fun _ h8 => ?_) (fun _ h9 => ?_)))
 exact Za (zg [4] 0 (Zb (Zi (Z7 (Zk (rr h8 ⟨rfl, er0 _⟩))))))
 exact Ze (XO (Zb (zg [0, 1, 7, 8] 0 (rn h9))))
 exact ZQ (Xh (re h4 ⟨rfl, kq⟩))
 intro e12 s13 o14
 rcases y3 with g4 | y5
 have h15 := X8 h11
 exact zi o14 (Za (zg [4] 0 (Zb (Zi (er1 h15)))))
 have h16 := X9 h11
 obtain ⟨rfl, n18⟩ := o14
 refine Z7 (Zk ?_)
 obtain rfl := Option.some.inj h16
 exact n18
theorem Ur (a0 : List Int) (a1 : Int) (r : Bool) (h : M.Xx a0 a1 = some r) : Fn Tryz.prog 56 [sL 1 (ci .i64) a0, .int .i64 a1] (.pure (.bool r)) := by
 unfold M.Xx at h
 refine ZS Tryz.func56 rfl (by kernel_rfl) (Za (zg [0, 1] 0 (Zb (Za ?_))))
 obtain ⟨r1, q1, h2⟩ := bind_some h
 exact zr [4] 0 Zx (rq1 (UP _ _ _ q1) rqn) (Zb (Zi (er1 h2)))
theorem Zf3 (a0 : List Int) (a1 : List Qo) (r : (List Int) × Bool) (h : M.Ku a0 a1 = some r) : FnM Tryz.prog 57 [.asl 0 0 a0.length, sL 2 ZY a1] 1 a0.length (fun i => (ci .i64) (a0.getD i default)) (fun i => (ci .i64) (r.1.getD i default)) (.bool r.2) := by
 let u2 := (a1.length : Int)
 let u4 : Nat × D := (0, .asl 0 0 a0.length)
 let u5 : Nat × D := (1, sL 2 ZY a1)
 let u6 : Nat × D := (13, sL 2 ZY a1)
 let u7 : Nat × D := (37, sL 2 ZY a1)
 unfold M.Ku at h
 refine Zll Tryz.func57 rfl (by kernel_rfl) (Za (zg [0, 1] 2 (Zb (Za (zg [0, 1, 5] 2 (Zb (Za (Za (zg [0, 1, 5, 13, 14, 15] 2 (Zb (Zg ?_)))))))))))
 obtain ⟨y4, q14, h15⟩ := bind_some h
 refine zl (fun (p1 : Int × Int) => ⟨69, [u4, u5, (5, .int .i64 p1.1), u6, (14, .int .i64 u2), (15, .int .i64 p1.2)], [aL 1 (ci .i64) a0, .gone]⟩) (fun z => OutE 0 (fun z => ⟨69, [u4, u5, (5, .int .i64 z)], [aL 1 (ci .i64) a0, .gone]⟩) z) q14 ?_ ?_
 intro p1 y2 h1
 let u3 := a1.getD p1.2.toNat default
 let u11 := a0.getD (0 + (u3.Xp).toNat) default
 unfold M.Ux at h1
 refine Za (rg0 [0, 1, 5, 13, 14, 15, 16] 2 ⟨69, [u4, u5, (5, .int .i64 p1.1), u6, (14, .int .i64 u2), (15, .int .i64 p1.2), (16, .bool (decide (p1.2 < u2)))], [aL 1 (ci .i64) a0, .gone]⟩ (Zb (Za (cn h1 (fun _ h3 => ?_) (fun _ h4 => ?_)))))
 refine Ze (Zb (V7 (fun (p3 : Int) => ⟨69, [u4, u5, (5, .int .i64 p3), u6, (14, .int .i64 u2), (15, .int .i64 p1.2)], [aL 1 (ci .i64) a0, .gone]⟩) (fun p3 => M.U2 p1 p3 = some y2) ?_ ?_))
 intro p3 h6
 unfold M.U2 at h6
 exact zg [0, 1, 5, 13, 14, 15] 2 (rn h6)
 intro k5
 refine Zg (Za ?_)
 obtain ⟨c7, h8⟩ := Zr h3
 refine zc [0, 1, 5, 7, 13, 14, 15] 3 c7 (Zb (Za (rg0 [0, 1, 5, 7, 13, 14, 15, 28] 3 ⟨69, [u4, u5, (5, .int .i64 p1.1), (7, .ref 2 0), u6, (14, .int .i64 u2), (15, .int .i64 p1.2), (28, .bool ((decide ((u3.Xp) ≥ 0)) && (decide ((u3.Xp) < (a0.length : Int)))))], [aL 1 (ci .i64) a0, .gone, .box (ZY u3)]⟩ (Zb (cn h8 (fun _ h10 => ?_) (fun _ h11 => ?_))))))
 obtain ⟨c12, h13⟩ := Zr h10
 exact zc [0, 1, 5, 13, 14, 15] 2 c12 (XO (Xo lk (k5 (if u11 < p1.1 then u11 else p1.1) h13)))
 exact Ze (XO (Xo (Le.trans (s' := ⟨69, [u4, u5, (5, .int .i64 p1.1), u6, (14, .int .i64 u2), (15, .int .i64 p1.2)], [aL 1 (ci .i64) a0, .gone, .box (ZY u3)]⟩) (kp [0, 1, 5, 13, 14, 15]) (Um (n := 2) (by kernel_rfl))) (k5 p1.1 h11)))
 exact ZQ (Xh (re h4 ⟨rfl, kq⟩))
 intro e16 s17 o18
 refine zi o18 (Za (zg [0, 1, 5, 8] 2 (Zb (Za (Za (zg [0, 5, 8, 37, 38, 39] 2 (Zb (Zg ?_))))))))
 obtain ⟨y8, q35, h36⟩ := bind_some h15
 refine zl (fun (p5 : (List Int) × Bool × Int) => ⟨69, [(0, .asl 0 0 p5.1.length), (5, .int .i64 y4), (8, .bool p5.2.1), u7, (38, .int .i64 u2), (39, .int .i64 p5.2.2)], [aL 1 (ci .i64) p5.1, .gone]⟩) (fun z => OutE 2 (fun z => ⟨69, [(8, .bool z.1)], [aL 1 (ci .i64) z.2, .gone]⟩) z) q35 ?_ ?_
 intro p5 y6 h20
 let u8 := a1.getD p5.2.2.toNat default
 let u1 := u8.Xp
 let u9 := (p5.1.length : Int)
 let u10 := (decide (u1 ≥ 0)) && (decide (u1 < u9))
 let u12 : Nat × D := (0, .asl 0 0 p5.1.length)
 unfold M.W1 at h20
 refine Za (rg0 [0, 5, 8, 37, 38, 39, 40] 2 ⟨69, [u12, (5, .int .i64 y4), (8, .bool p5.2.1), u7, (38, .int .i64 u2), (39, .int .i64 p5.2.2), (40, .bool (decide (p5.2.2 < u2)))], [aL 1 (ci .i64) p5.1, .gone]⟩ (Zb (Za (cn h20 (fun _ h22 => ?_) (fun _ h23 => ?_)))))
 refine Ze (Zb (V7 (fun (p7 : Bool × (List Int)) => ⟨69, [(0, .asl 0 0 p7.2.length), (5, .int .i64 y4), (8, .bool p7.1), u7, (38, .int .i64 u2), (39, .int .i64 p5.2.2)], [aL 1 (ci .i64) p7.2, .gone]⟩) (fun p7 => M.Uy p5 p7 = some y6) ?_ ?_))
 intro p7 h25
 unfold M.Uy at h25
 exact zg [0, 5, 8, 37, 38, 39] 2 (rn h25)
 intro k24
 refine Zg (Za ?_)
 obtain ⟨c26, h27⟩ := Zr h22
 refine zc [0, 5, 8, 10, 37, 38, 39] 3 c26 (Zb (Za ?_))
 obtain ⟨c28, h29⟩ := Zr h27
 refine rgc [0, 5, 8, 10, 37, 38, 39, 61] 3 ⟨69, [u12, (5, .int .i64 y4), (8, .bool p5.2.1), (10, .ref 2 0), u7, (38, .int .i64 u2), (39, .int .i64 p5.2.2), (61, .bool (u10 && ((p5.1.getD (0 + u1.toNat) default) != y4)))], [aL 1 (ci .i64) p5.1, .gone, .box (ZY u8)]⟩ [guardB u10 (decide (0 ≤ u1)), guardB u10 (decide (u1 < u9))] c28 (Zb (cn h29 (fun _ h31 => ?_) (fun _ h32 => ?_)))
 refine Za ?_
 obtain ⟨c33, h34⟩ := Zr h31
 exact rgc [0, 5, 37, 38, 39] 2 ⟨69, [(0, .asl 0 0 p5.1.length), (5, .int .i64 y4), (37, sL 2 ZY a1), (38, .int .i64 (a1.length : Int)), (39, .int .i64 p5.2.2)], [.arr 1 p5.1.length (fun j => bif Nat.beq j (0 + ((a1.getD p5.2.2.toNat default).Xp).toNat) then splice ((ci .i64) (p5.1.getD (0 + ((a1.getD p5.2.2.toNat default).Xp).toNat) default)) [.int .i64 y4] 0 else (ci .i64) (p5.1.getD j default)), .gone]⟩ [decide (0 ≤ ((a1.getD p5.2.2.toNat default).Xp)), decide (((a1.getD p5.2.2.toNat default).Xp) < (p5.1.length : Int))] c33 (Xo (s' := ⟨69, [(0, .asl 0 0 ((p5.1.set (0 + ((a1.getD p5.2.2.toNat default).Xp).toNat) y4).length)), (5, .int .i64 y4), (37, sL 2 ZY a1), (38, .int .i64 (a1.length : Int)), (39, .int .i64 p5.2.2)], [aL 1 (ci .i64) (p5.1.set (0 + ((a1.getD p5.2.2.toNat default).Xp).toNat) y4), .gone]⟩) (JL (.cons (Wo (by simp)) (.cons Sub.rfl (.cons Sub.rfl (.cons Sub.rfl (.cons Sub.rfl .nil))))) (.cons (.arr (by simp) (ZbQ (ci .i64) p5.1 (0 + ((a1.getD p5.2.2.toNat default).Xp).toNat) y4 _ rfl)) (.cons .rfl .nil))) (zg [0, 5, 8, 37, 38, 39] 2 (XO (Xo lk (k24 (true, p5.1.set (0 + ((a1.getD p5.2.2.toNat default).Xp).toNat) y4) h34)))))
 exact Ze (XO (Xo (Le.trans (s' := ⟨69, [u12, (5, .int .i64 y4), (8, .bool p5.2.1), u7, (38, .int .i64 u2), (39, .int .i64 p5.2.2)], [aL 1 (ci .i64) p5.1, .gone, .box (ZY u8)]⟩) (kp [0, 5, 8, 37, 38, 39]) (Um (n := 2) (by kernel_rfl))) (k24 (p5.2.1, p5.1) h32)))
 exact ZQ (Xh (re h23 ⟨rfl, kq⟩))
 intro e37 s38 o39
 refine zi o39 (Za (rg0 [4] 2 ⟨69, [(4, .bool y8.1)], [aL 1 (ci .i64) y8.2, .gone]⟩ (Zb (Zi ?_))))
 obtain ⟨c41, h42⟩ := Zr h36
 obtain rfl := Option.some.inj h42
 exact emr (s' := ⟨69, [(4, .bool y8.1)], [aL 1 (ci .i64) y8.2, .gone]⟩) (UD) (Zlk c41)
theorem GN (a0 : Xq) (r : (List Int)) (h : M.Wl a0 = some r) : Fn Tryz.prog 34 [.agg (XI a0)] (.pure (sL 1 (ci .i64) r)) := by
 let u1 := (a0.ZV.XB.length : Int)
 unfold M.Wl at h
 refine ZS Tryz.func34 rfl (by kernel_rfl) (Za (zg [1] 1 (Zb (Za ?_))))
 obtain ⟨c1, h2⟩ := Zr h
 refine rgc [1, 3] 2 ⟨60, [(1, .ref 0 0), (3, .asl 1 0 ((a0.X5.Zd.length : Int).toNat))], [.box (XI a0), .arr 1 ((a0.X5.Zd.length : Int).toNat) (fun _ => [.int .i64 0])]⟩ [decide (0 ≤ (a0.X5.Zd.length : Int)), decide ((a0.X5.Zd.length : Int) ≤ (a0.X5.Zd.length : Int)), decide ((a0.X5.Zd.length : Int).toNat * 8 ≤ 140737488355328), decide ((a0.X5.Zd.length : Int).toNat ≤ 140737488355328)] c1 (Xo (s' := ⟨60, [(1, .ref 0 0), (3, .asl 1 0 ((List.replicate ((a0.X5.Zd.length : Int).toNat) (0 : Int)).length))], [.box (XI a0), aL 1 (ci .i64) (List.replicate ((a0.X5.Zd.length : Int).toNat) (0 : Int))]⟩) (JL (.cons Sub.rfl (.cons (Wo (by simp)) .nil)) (.cons .rfl (.cons (.arr (by simp) (ZhR (ci .i64) _ (0 : Int) _ rfl)) .nil))) (Za (Za (zg [1, 3, 14, 15] 2 (Zb (Zg ?_))))))
 obtain ⟨y3, q9, h10⟩ := bind_some h2
 refine zl (fun (p1 : (List Int) × Int) => ⟨60, [(1, .ref 0 0), (3, .asl 1 0 p1.1.length), (14, .int .i64 ((List.replicate ((a0.X5.Zd.length : Int).toNat) (0 : Int)).length : Int)), (15, .int .i64 p1.2)], [.box (XI a0), aL 1 (ci .i64) p1.1]⟩) (fun z => OutE 0 (fun z => ⟨60, [(1, .ref 0 0), (3, .asl 1 0 z.length)], [.box (XI a0), aL 1 (ci .i64) z]⟩) z) q9 ?_ ?_
 intro p1 y2 h3
 unfold M.We at h3
 refine Za (zg [1, 3, 14, 15, 16] 2 (Zb (Za (cn h3 (fun _ h5 => ?_) (fun _ h6 => ?_)))))
 refine Ze (Zb (Za (Zg (Za (zg [1, 3, 4, 14, 15] 2 (Zb ?_))))))
 obtain ⟨c7, h8⟩ := Zr h5
 exact rgc [1, 3, 14, 15] 2 ⟨60, [(1, .ref 0 0), (3, .asl 1 0 p1.1.length), (14, .int .i64 ((List.replicate ((a0.X5.Zd.length : Int).toNat) (0 : Int)).length : Int)), (15, .int .i64 p1.2)], [.box (XI a0), .arr 1 p1.1.length (fun j => bif Nat.beq j (0 + p1.2.toNat) then splice ((ci .i64) (p1.1.getD (0 + p1.2.toNat) default)) [.int .i64 p1.2] 0 else (ci .i64) (p1.1.getD j default))]⟩ [decide (0 ≤ p1.2), decide (p1.2 < (p1.1.length : Int))] c7 (XO (Xo (s' := ⟨60, [(1, .ref 0 0), (3, .asl 1 0 ((p1.1.set (0 + p1.2.toNat) p1.2).length)), (14, .int .i64 ((List.replicate ((a0.X5.Zd.length : Int).toNat) (0 : Int)).length : Int)), (15, .int .i64 p1.2)], [.box (XI a0), aL 1 (ci .i64) (p1.1.set (0 + p1.2.toNat) p1.2)]⟩) (JL (.cons Sub.rfl (.cons (Wo (by simp)) (.cons Sub.rfl (.cons Sub.rfl .nil)))) (.cons .rfl (.cons (.arr (by simp) (ZbQ (ci .i64) p1.1 (0 + p1.2.toNat) p1.2 _ rfl)) .nil))) (zg [1, 3, 14, 15] 2 (rn h8))))
 exact ZQ (Xh (re h6 ⟨rfl, kq⟩))
 intro e11 s12 o13
 refine zi o13 (Za (Za (zg [1, 3, 5] 2 (Zb (Zg ?_)))))
 obtain ⟨y12, q47, h48⟩ := bind_some h10
 refine zl (fun (p4 : (List Int) × Bool) => ⟨60, [(1, .ref 0 0), (3, .asl 1 0 p4.1.length), (5, .bool p4.2)], [.box (XI a0), aL 1 (ci .i64) p4.1]⟩) (fun z => OutE 2 (fun z => ⟨60, [(3, .asl 1 0 z.length)], [.box (XI a0), aL 1 (ci .i64) z]⟩) z) q47 ?_ ?_
 intro p4 y5 h15
 unfold M.Vn at h15
 refine Za (Za (zg [1, 3, 23] 2 (Zb (cn h15 (fun _ h17 => ?_) (fun _ h18 => ?_)))))
 refine Ze (Zb (Zg (Za (zg [1, 3, 5] 2 (Zb (Za (zg [1, 3, 5, 26, 27, 28] 2 (Zb (Zg ?_)))))))))
 obtain ⟨y11, q41, h42⟩ := bind_some h17
 refine zl (fun (p6 : (List Int) × Bool × Int) => ⟨60, [(1, .ref 0 0), (3, .asl 1 0 p6.1.length), (5, .bool p6.2.1), (26, sL 1 (ci .i64) a0.ZV.XB), (27, .int .i64 u1), (28, .int .i64 p6.2.2)], [.box (XI a0), aL 1 (ci .i64) p6.1]⟩) (fun z => OutE 4 (fun z => ⟨60, [(1, .ref 0 0), (3, .asl 1 0 z.2.length), (5, .bool z.1)], [.box (XI a0), aL 1 (ci .i64) z.2]⟩) z) q41 ?_ ?_
 intro p6 y7 h19
 let u2 := a0.ZV.XB.getD p6.2.2.toNat default
 let u3 := (a0.ZV.Zv.getD u2.toNat default).ZU
 unfold M.JO at h19
 refine Za (rg0 [1, 3, 5, 26, 27, 28, 29] 2 ⟨60, [(1, .ref 0 0), (3, .asl 1 0 p6.1.length), (5, .bool p6.2.1), (26, sL 1 (ci .i64) a0.ZV.XB), (27, .int .i64 u1), (28, .int .i64 p6.2.2), (29, .bool (decide (p6.2.2 < u1)))], [.box (XI a0), aL 1 (ci .i64) p6.1]⟩ (Zb (Za (cn h19 (fun _ h21 => ?_) (fun _ h22 => ?_)))))
 refine Ze (Zb (V7 (fun (p8 : Bool × (List Int)) => ⟨60, [(1, .ref 0 0), (3, .asl 1 0 p8.2.length), (5, .bool p8.1), (26, sL 1 (ci .i64) a0.ZV.XB), (27, .int .i64 u1), (28, .int .i64 p6.2.2)], [.box (XI a0), aL 1 (ci .i64) p8.2]⟩) (fun p8 => M.JN p6 p8 = some y7) ?_ ?_))
 intro p8 h24
 unfold M.JN at h24
 exact zg [1, 3, 5, 26, 27, 28] 2 (rn h24)
 intro k23
 refine Zg (Za ?_)
 obtain ⟨c25, h26⟩ := Zr h21
 refine zc [1, 3, 5, 6, 7, 26, 27, 28] 2 c25 (Zb (Za (Za ?_)))
 obtain ⟨r9, q27, h28⟩ := bind_some h26
 refine zr [1, 3, 5, 7, 26, 27, 28, 48] 2 Zx (rq2 (fun hg => Ur _ _ _ (XR q27 hg)) rqn) (Zb (cn h28 (fun _ h30 => ?_) (fun _ h31 => ?_)))
 exact ZQ (Xh (YF (Xo kq (k23 (p6.2.1, p6.1) h30))))
 refine Ze (Zb (Za ?_))
 obtain ⟨r10, q32, h33⟩ := bind_some h31
 obtain ⟨c34, h35⟩ := Zr h33
 obtain ⟨c36, h37⟩ := Zr h35
 refine rg [.lnd 0 0 (fun _ => []) (fun i => (ci .i64) (r10.1.getD i default)) (.bool r10.2)] [1, 3, 5, 26, 27, 28, 57] 2 ⟨60, [(1, .ref 0 0), (3, .asl 1 0 p6.1.length), (5, .bool p6.2.1), (26, sL 1 (ci .i64) a0.ZV.XB), (27, .int .i64 u1), (28, .int .i64 p6.2.2), (57, .bool r10.2)], [.box (XI a0), .arr 1 p6.1.length (fun i => (ci .i64) (r10.1.getD i default))]⟩ [decide (0 ≤ u2), decide (u2 < (a0.ZV.Zv.length : Int))] [⟨true, 57, [.asl 0 0 p6.1.length, sL 2 ZY u3], .lnd 1 p6.1.length (fun i => (ci .i64) (p6.1.getD i default)) (fun i => (ci .i64) (r10.1.getD i default)) (.bool r10.2)⟩] c36 ⟨fun _ => Zf3 p6.1 u3 r10 q32, trivial⟩ (Xo (s' := ⟨60, [(1, .ref 0 0), (3, .asl 1 0 r10.1.length), (5, .bool p6.2.1), (26, sL 1 (ci .i64) a0.ZV.XB), (27, .int .i64 u1), (28, .int .i64 p6.2.2), (57, .bool r10.2)], [.box (XI a0), aL 1 (ci .i64) r10.1]⟩) (JL (.cons Sub.rfl (.cons (Wo (ZfK (c34 _ List.mem_cons_self))) (.cons Sub.rfl (.cons Sub.rfl (.cons Sub.rfl (.cons Sub.rfl (.cons Sub.rfl .nil))))))) (.cons .rfl (.cons (.arr (ZfK (c34 _ List.mem_cons_self)) (fun _ _ => rfl)) .nil))) (cn h37 (fun _ h39 => ?_) (fun _ h40 => ?_)))
 exact zg [1, 3, 5, 26, 27, 28] 2 (XO (Xo lk (k23 (true, r10.1) h39)))
 exact Ze (XO (Xo kq (k23 (p6.2.1, r10.1) h40)))
 exact ZQ (Xh (re h22 ⟨rfl, kq⟩))
 intro e43 s44 o45
 obtain ⟨rfl, l46⟩ := o45
 refine YF (XO ?_)
 obtain rfl := Option.some.inj h42
 exact ZdP (l46)
 exact ZQ (Xh (re h18 ⟨rfl, kq⟩))
 intro e49 s50 o51
 refine zi o51 (Za (zg [2] 2 (Zb (Zi ?_))))
 obtain rfl := Option.some.inj h48
 exact er (.sl false 1 y12.length (fun i => (ci .i64) (y12.getD (0 + i) default))) ZfJ
theorem Gs (a0 : Xq) (a1 : Int) (a2 : Int) (r : Int) (h : M.QT a0 a1 a2 = some r) : Fn Tryz.prog 26 [.agg (XI a0), .int .i64 a1, .int .i64 a2] (.pure (.int .i64 r)) := by
 let u1 : List Ob := [.box (XI a0)]
 unfold M.QT at h
 refine ZS Tryz.func26 rfl (by kernel_rfl) (Za (zg [1, 2, 3] 1 (Zb (Za (Za (zg [1, 2, 3, 7] 1 (Zb (Zg ?_))))))))
 obtain ⟨y8, q25, h26⟩ := bind_some h
 refine zl (fun (p1 : Int) => ⟨44, [(1, .int .i64 a1), (2, .int .i64 a2), (3, .ref 0 0), (7, .int .i64 p1)], u1⟩) (Sum.elim (fun z => OutE 0 (fun z => ⟨44, [], []⟩) z) (fun z => OutR Tryz.prog Tryz.f26 (.int .i64 z))) q25 ?_ ?_
 intro p1 y2 h1
 unfold M.Jd at h1
 refine Za (Za (zg [1, 2, 3, 7, 14] 1 (Zb (cn h1 (fun _ h3 => ?_) (fun _ h4 => ?_)))))
 refine Ze (Zb (Za (Zg (Za (zg [1, 2, 3, 7, 8] 1 (Zb (Zg ?_)))))))
 obtain ⟨y5, q16, h17⟩ := bind_some h3
 refine zl (fun (p3 : Int) => ⟨44, [(1, .int .i64 a1), (2, .int .i64 a2), (3, .ref 0 0), (7, .int .i64 p1), (8, .int .i64 p3)], u1⟩) (Sum.elim (fun z => OutE 2 (fun z => ⟨44, [(1, .int .i64 a1), (2, .int .i64 a2), (3, .ref 0 0), (7, .int .i64 p1)], u1⟩) z) (fun z => OutR Tryz.prog Tryz.f26 (.int .i64 z))) q16 ?_ ?_
 intro p3 y4 h5
 unfold M.Jc at h5
 refine Za (Za ?_)
 obtain ⟨c6, h7⟩ := Zr h5
 refine zc [1, 2, 3, 7, 8, 26] 1 c6 (Zb (cn h7 (fun _ h9 => ?_) (fun _ h10 => ?_)))
 refine Ze (Zb (Za (Zg (Za ?_))))
 obtain ⟨c11, h12⟩ := Zr h9
 refine zc [1, 2, 3, 7, 8, 42] 1 c11 (Zb (cn h12 (fun _ h14 => ?_) (fun _ h15 => ?_)))
 exact Za (zg [6] 0 (Zb (Zi (Z7 (Zk (rr h14 ⟨rfl, er0 _⟩))))))
 exact Ze (XO (Zb (zg [1, 2, 3, 7, 8] 1 (rn h15))))
 exact ZQ (Xh (re h10 ⟨rfl, kq⟩))
 intro e18 s19 o20
 rcases y5 with g6 | y7
 have h21 := X8 h17
 obtain ⟨rfl, l23⟩ := o20
 exact YF (XO (Xo (s' := ⟨44, [(1, .int .i64 a1), (2, .int .i64 a2), (3, .ref 0 0), (7, .int .i64 p1)], u1⟩) (l23) (zg [1, 2, 3, 7] 1 (rn h21))))
 have h22 := X9 h17
 obtain ⟨rfl, n24⟩ := o20
 exact Z7 (Z7 (Zk (rr h22 ⟨rfl, n24⟩)))
 exact ZQ (Xh (re h4 ⟨rfl, kc⟩))
 intro e27 s28 o29
 rcases y8 with g9 | y10
 have h30 := X8 h26
 exact zi o29 (Za (zg [6] 0 (Zb (Zi (er1 h30)))))
 have h31 := X9 h26
 obtain ⟨rfl, n33⟩ := o29
 refine Z7 (Zk ?_)
 obtain rfl := Option.some.inj h31
 exact n33
theorem Ze1 (a0 : Xq) (a1 : Int) (a2 : Int) (r : Int) (h : M.Wf a0 a1 a2 = some r) : Fn Tryz.prog 28 [.agg (XI a0), .int .i64 a1, .int .i64 a2] (.pure (.int .i64 r)) := by
 unfold M.Wf at h
 refine ZS Tryz.func28 rfl (by kernel_rfl) (Za (zg [1, 2, 3] 1 (Zb (Za ?_))))
 obtain ⟨r1, q1, h2⟩ := bind_some h
 refine zr [3, 7] 1 Zx (rq1 (Gs _ _ _ _ q1) rqn) (Zb (Za (Za (zg [3, 7, 8] 1 (Zb (Zg ?_))))))
 obtain ⟨y4, q12, h13⟩ := bind_some h2
 refine zl (fun (p2 : Int) => ⟨34, [(3, .ref 0 0), (7, .int .i64 r1), (8, .int .i64 p2)], [.box (XI a0)]⟩) (Sum.elim (fun z => OutE 0 (fun z => ⟨34, [], []⟩) z) (fun z => OutR Tryz.prog Tryz.f28 (.int .i64 z))) q12 ?_ ?_
 intro p2 y3 h3
 unfold M.Ju at h3
 refine Za (Za (zg [3, 7, 8, 18] 1 (Zb (cn h3 (fun _ h5 => ?_) (fun _ h6 => ?_)))))
 refine Ze (Zb (Za (Zg (Za ?_))))
 obtain ⟨c7, h8⟩ := Zr h5
 refine zc [3, 7, 8, 32] 1 c7 (Zb (cn h8 (fun _ h10 => ?_) (fun _ h11 => ?_)))
 exact Za (zg [6] 0 (Zb (Zi (Z7 (Zk (rr h10 ⟨rfl, er0 _⟩))))))
 exact Ze (XO (Zb (zg [3, 7, 8] 1 (rn h11))))
 exact ZQ (Xh (re h6 ⟨rfl, kc⟩))
 intro e14 s15 o16
 rcases y4 with g5 | y6
 have h17 := X8 h13
 exact zi o16 (Za (zg [6] 0 (Zb (Zi (er1 h17)))))
 have h18 := X9 h13
 obtain ⟨rfl, n20⟩ := o16
 refine Z7 (Zk ?_)
 obtain rfl := Option.some.inj h18
 exact n20
theorem ZgV (a0 : Xq) (a1 : Int) (a2 : Int) (r : Bool) (h : M.UI a0 a1 a2 = some r) : Fn Tryz.prog 30 [.agg (XI a0), .int .i64 a1, .int .i64 a2] (.pure (.bool r)) := by
 unfold M.UI at h
 refine ZS Tryz.func30 rfl (by kernel_rfl) (Za (zg [1, 2, 3] 1 (Zb (Za (Za ?_)))))
 obtain ⟨r1, q1, h2⟩ := bind_some h
 refine zr [1, 2, 3, 13] 1 Zx (rq1 (Gs _ _ _ _ q1) rqn) (Zb (cn h2 (fun _ h4 => ?_) (fun _ h5 => ?_)))
 exact Za (zg [6] 0 (Zb (Zi (Zk (er1 h4)))))
 refine Ze (Zb (Za ?_))
 obtain ⟨r2, q6, h7⟩ := bind_some h5
 refine zr [3, 7] 1 Zx (rq1 (Ze1 _ _ _ _ q6) rqn) (Zb (Za (Za (zg [3, 7, 8] 1 (Zb (Zg ?_))))))
 obtain ⟨y5, q17, h18⟩ := bind_some h7
 refine zl (fun (p3 : Int) => ⟨32, [(3, .ref 0 0), (7, .int .i64 r2), (8, .int .i64 p3)], [.box (XI a0)]⟩) (Sum.elim (fun z => OutE 0 (fun z => ⟨32, [], []⟩) z) (fun z => OutR Tryz.prog Tryz.f30 (.bool z))) q17 ?_ ?_
 intro p3 y4 h8
 unfold M.VX at h8
 refine Za (Za (zg [3, 7, 8, 22] 1 (Zb (cn h8 (fun _ h10 => ?_) (fun _ h11 => ?_)))))
 refine Ze (Zb (Za (Zg (Za ?_))))
 obtain ⟨c12, h13⟩ := Zr h10
 refine zc [3, 7, 8, 31] 1 c12 (Zb (cn h13 (fun _ h15 => ?_) (fun _ h16 => ?_)))
 exact Za (zg [6] 0 (Zb (Zi (Z7 (Zk (rr h15 ⟨rfl, er0 _⟩))))))
 exact Ze (XO (Zb (zg [3, 7, 8] 1 (rn h16))))
 exact ZQ (Xh (re h11 ⟨rfl, kc⟩))
 intro e19 s20 o21
 rcases y5 with g6 | y7
 have h22 := X8 h18
 exact zi o21 (Za (zg [6] 0 (Zb (Zi (er1 h22)))))
 have h23 := X9 h18
 obtain ⟨rfl, n25⟩ := o21
 refine Z7 (Zk ?_)
 obtain rfl := Option.some.inj h23
 exact n25
theorem Zbl (a0 : Xq) (a1 : Int) (a2 : Int) (r : (List Qo)) (h : M.Ue a0 a1 a2 = some r) : Fn Tryz.prog 33 [.agg (XI a0), .int .i64 a1, .int .i64 a2] (.pure (sL 2 ZY r)) := by
 let u4 : Nat × D := (7, .sl true 2 0 (fun _ => []))
 unfold M.Ue at h
 refine ZS Tryz.func33 rfl (by kernel_rfl) (Za (zg [1, 2, 3] 1 (Zb (Za (zg [1, 2, 3, 7] 1 (Zb (Za (Za ?_))))))))
 obtain ⟨r1, q1, h2⟩ := bind_some h
 refine zr [1, 2, 3, 7, 14] 1 Zx (rq1 (ZgV _ _ _ _ q1) rqn) (Zb (cn h2 (fun _ h4 => ?_) (fun _ h5 => ?_)))
 refine Za (zg [6] 0 (Zb (Zi (Zk ?_))))
 obtain rfl := Option.some.inj h4
 exact er (.sl false 2 0 (fun _ => [])) ZhP
 refine Ze (Zb (Za ?_))
 obtain ⟨r2, q6, h7⟩ := bind_some h5
 let u1 := (a0.ZV.Zv.getD r2.toNat default).ZU
 let u2 : Nat × D := (8, sL 2 ZY u1)
 obtain ⟨c8, h9⟩ := Zr h7
 refine zr [1, 7, 8] 0 c8 (rq1 (Gs _ _ _ _ q6) rqn) (Zb (Za (Za (rg0 [1, 7, 8, 9] 0 ⟨46, [(1, .int .i64 a1), u4, u2, (9, .int .i64 0)], []⟩ (Zb (Zg (Wk (s' := ⟨46, [(1, .int .i64 a1), u4, u2, (9, .int .i64 0)], []⟩) (UD) (Wk (s' := ⟨46, [(1, .int .i64 a1), (7, .asl 0 0 (([] : List Qo).length)), u2, (9, .int .i64 0)], [aL 2 ZY ([] : List Qo)]⟩) (Le.trans (s' := ⟨46, (7, .asl 0 0 0) :: [(1, .int .i64 a1), u4, u2, (9, .int .i64 0)], [] ++ [.arr 2 0 (fun i => ZY (([] : List Qo).getD i default))]⟩) (KK (wd := 2) (f := fun _ => []) 7 (by kernel_rfl) _ _) (kp [1, 7, 8, 9])) ?_))))))))
 obtain ⟨y6, q23, h24⟩ := bind_some h9
 refine zl (fun (p3 : (List Qo) × Int) => ⟨46, [(1, .int .i64 a1), (7, .asl 0 0 p3.1.length), u2, (9, .int .i64 p3.2)], [aL 2 ZY p3.1]⟩) (fun z => OutE 0 (fun z => ⟨46, [(7, .asl 0 0 z.length)], [aL 2 ZY z]⟩) z) q23 ?_ ?_
 intro p3 y4 h10
 let u3 := u1.getD p3.2.toNat default
 let u5 := p3.1.length + 1
 unfold M.W2 at h10
 refine Za (Za (rg0 [1, 7, 8, 9, 28] 1 ⟨46, [(1, .int .i64 a1), (7, .asl 0 0 p3.1.length), u2, (9, .int .i64 p3.2), (28, .bool (decide (p3.2 < (u1.length : Int))))], [aL 2 ZY p3.1]⟩ (Zb (cn h10 (fun _ h12 => ?_) (fun _ h13 => ?_)))))
 refine Ze (Zb (V7 (fun (p5 : (List Qo)) => ⟨46, [(1, .int .i64 a1), (7, .asl 0 0 p5.length), u2, (9, .int .i64 p3.2)], [aL 2 ZY p5]⟩) (fun p5 => M.Vo p3 p5 = some y4) ?_ ?_))
 intro p5 h15
 unfold M.Vo at h15
 exact zg [1, 7, 8, 9] 1 (rn h15)
 intro k14
 refine Zg (Za ?_)
 obtain ⟨c16, h17⟩ := Zr h12
 refine zc [1, 7, 8, 9, 37] 1 c16 (Zb (cn h17 (fun _ h19 => ?_) (fun _ h20 => ?_)))
 obtain ⟨c21, h22⟩ := Zr h19
 exact rgc [1, 7, 8, 9] 1 ⟨46, [(1, .int .i64 a1), (7, .asl 0 0 u5), u2, (9, .int .i64 p3.2)], [.arr 2 u5 (app (fun i => ZY (p3.1.getD i default)) p3.1.length (fun i => List.take 2 (List.drop (i * 2) [.int .i64 (u3.Xp), .int .i64 (u3.J2)])))]⟩ [decide (0 ≤ p3.2), decide (p3.2 < (u1.length : Int)), decide (u5 * 16 ≤ 140737488355328)] c21 (XO (Xo (JL (.cons Sub.rfl (.cons (Wo (Kr _ _)) (.cons Sub.rfl (.cons Sub.rfl .nil)))) (.cons (.arr (Kr _ _) (RE ZY p3.1 u3 _ rfl)) .nil)) (k14 (p3.1 ++ [u1.getD p3.2.toNat default]) h22)))
 exact Ze (XO (Xo kq (k14 p3.1 h20)))
 exact ZQ (Xh (re h13 ⟨rfl, kq⟩))
 intro e25 s26 o27
 refine zi o27 (Za (zg [6] 1 (Zb (Zi ?_))))
 obtain rfl := Option.some.inj h24
 exact er (.sl false 2 y6.length (fun i => ZY (y6.getD (0 + i) default))) ZfJ
theorem Gx (a0 : Xq) (r : (List Int)) (h : M.V3 a0 = some r) : Fn Tryz.prog 35 [.agg (XI a0)] (.pure (sL 1 (ci .i64) r)) := by
 let u1 := (a0.X5.Zd.length : Int)
 unfold M.V3 at h
 refine ZS Tryz.func35 rfl (by kernel_rfl) (Za (zg [1] 1 (Zb (Za (zg [1, 3] 1 (Zb (Za ?_)))))))
 obtain ⟨c1, h2⟩ := Zr h
 refine rgc [1, 3, 4] 2 ⟨75, [(1, .ref 0 0), (3, .int .i64 (a0.X5.Zd.length : Int)), (4, .asl 1 0 ((a0.X5.Zd.length : Int).toNat))], [.box (XI a0), .arr 1 ((a0.X5.Zd.length : Int).toNat) (fun _ => [.int .i64 0])]⟩ [decide (0 ≤ (a0.X5.Zd.length : Int)), decide ((a0.X5.Zd.length : Int) ≤ (a0.X5.Zd.length : Int)), decide ((a0.X5.Zd.length : Int).toNat * 8 ≤ 140737488355328), decide ((a0.X5.Zd.length : Int).toNat ≤ 140737488355328)] c1 (Xo (s' := ⟨75, [(1, .ref 0 0), (3, .int .i64 (a0.X5.Zd.length : Int)), (4, .asl 1 0 ((List.replicate ((a0.X5.Zd.length : Int).toNat) (0 : Int)).length))], [.box (XI a0), aL 1 (ci .i64) (List.replicate ((a0.X5.Zd.length : Int).toNat) (0 : Int))]⟩) (JL (.cons Sub.rfl (.cons Sub.rfl (.cons (Wo (by simp)) .nil))) (.cons .rfl (.cons (.arr (by simp) (ZhR (ci .i64) _ (0 : Int) _ rfl)) .nil))) (Za (Za (zg [1, 3, 4, 5] 2 (Zb (Zg ?_))))))
 obtain ⟨y3, q9, h10⟩ := bind_some h2
 refine zl (fun (p1 : (List Int) × Int) => ⟨75, [(1, .ref 0 0), (3, .int .i64 u1), (4, .asl 1 0 p1.1.length), (5, .int .i64 p1.2)], [.box (XI a0), aL 1 (ci .i64) p1.1]⟩) (fun z => OutE 0 (fun z => ⟨75, [(1, .ref 0 0), (3, .int .i64 u1), (4, .asl 1 0 z.length)], [.box (XI a0), aL 1 (ci .i64) z]⟩) z) q9 ?_ ?_
 intro p1 y2 h3
 unfold M.VP at h3
 refine Za (Za (zg [1, 3, 4, 5, 19] 2 (Zb (cn h3 (fun _ h5 => ?_) (fun _ h6 => ?_)))))
 refine Ze (Zb (Za (Zg ?_)))
 obtain ⟨c7, h8⟩ := Zr h5
 exact rgc [1, 3, 4, 5] 2 ⟨75, [(1, .ref 0 0), (3, .int .i64 (a0.X5.Zd.length : Int)), (4, .asl 1 0 p1.1.length), (5, .int .i64 p1.2)], [.box (XI a0), .arr 1 p1.1.length (fun j => bif Nat.beq j (0 + p1.2.toNat) then splice ((ci .i64) (p1.1.getD (0 + p1.2.toNat) default)) [.int .i64 p1.2] 0 else (ci .i64) (p1.1.getD j default))]⟩ [decide (0 ≤ p1.2), decide (p1.2 < (p1.1.length : Int))] c7 (XO (Xo (s' := ⟨75, [(1, .ref 0 0), (3, .int .i64 (a0.X5.Zd.length : Int)), (4, .asl 1 0 ((p1.1.set (0 + p1.2.toNat) p1.2).length)), (5, .int .i64 p1.2)], [.box (XI a0), aL 1 (ci .i64) (p1.1.set (0 + p1.2.toNat) p1.2)]⟩) (JL (.cons Sub.rfl (.cons Sub.rfl (.cons (Wo (by simp)) (.cons Sub.rfl .nil)))) (.cons .rfl (.cons (.arr (by simp) (ZbQ (ci .i64) p1.1 (0 + p1.2.toNat) p1.2 _ rfl)) .nil))) (zg [1, 3, 4, 5] 2 (rn h8))))
 exact ZQ (Xh (re h6 ⟨rfl, kq⟩))
 intro e11 s12 o13
 refine zi o13 (Za (Za (zg [1, 3, 4, 6] 2 (Zb (Zg ?_)))))
 obtain ⟨y16, q55, h56⟩ := bind_some h10
 refine zl (fun (p4 : (List Int) × Int) => ⟨75, [(1, .ref 0 0), (3, .int .i64 u1), (4, .asl 1 0 p4.1.length), (6, .int .i64 p4.2)], [.box (XI a0), aL 1 (ci .i64) p4.1]⟩) (fun z => OutE 2 (fun z => ⟨75, [(4, .asl 1 0 z.length)], [.box (XI a0), aL 1 (ci .i64) z]⟩) z) q55 ?_ ?_
 intro p4 y5 h15
 unfold M.Vh at h15
 refine Za (Za (zg [1, 3, 4, 6, 28] 2 (Zb (cn h15 (fun _ h17 => ?_) (fun _ h18 => ?_)))))
 refine Ze (Zb (Za (Zg (Za (zg [1, 3, 4, 6, 7] 2 (Zb (Zg ?_)))))))
 obtain ⟨y15, q49, h50⟩ := bind_some h17
 refine zl (fun (p6 : (List Int) × Int) => ⟨75, [(1, .ref 0 0), (3, .int .i64 u1), (4, .asl 1 0 p6.1.length), (6, .int .i64 p4.2), (7, .int .i64 p6.2)], [.box (XI a0), aL 1 (ci .i64) p6.1]⟩) (fun z => OutE 4 (fun z => ⟨75, [(1, .ref 0 0), (3, .int .i64 u1), (4, .asl 1 0 z.length), (6, .int .i64 p4.2)], [.box (XI a0), aL 1 (ci .i64) z]⟩) z) q49 ?_ ?_
 intro p6 y7 h19
 unfold M.Vg at h19
 refine Za (Za (zg [1, 3, 4, 6, 7, 33] 2 (Zb (cn h19 (fun _ h21 => ?_) (fun _ h22 => ?_)))))
 refine Ze (Zb (Za (Zg (Za (zg [1, 3, 4, 6, 7, 8] 2 (Zb (Zg ?_)))))))
 obtain ⟨y14, q43, h44⟩ := bind_some h21
 refine zl (fun (p8 : (List Int) × Int) => ⟨75, [(1, .ref 0 0), (3, .int .i64 u1), (4, .asl 1 0 p8.1.length), (6, .int .i64 p4.2), (7, .int .i64 p6.2), (8, .int .i64 p8.2)], [.box (XI a0), aL 1 (ci .i64) p8.1]⟩) (fun z => OutE 6 (fun z => ⟨75, [(1, .ref 0 0), (3, .int .i64 u1), (4, .asl 1 0 z.length), (6, .int .i64 p4.2), (7, .int .i64 p6.2)], [.box (XI a0), aL 1 (ci .i64) z]⟩) z) q43 ?_ ?_
 intro p8 y9 h23
 unfold M.Vf at h23
 refine Za (Za ?_)
 obtain ⟨c24, h25⟩ := Zr h23
 refine zc [1, 3, 4, 6, 7, 8, 45] 2 c24 (Zb (cn h25 (fun _ h27 => ?_) (fun _ h28 => ?_)))
 refine Ze (Zb (Za (Zg (Za ?_))))
 obtain ⟨r10, q29, h30⟩ := bind_some h27
 refine zr [1, 3, 4, 6, 7, 8, 9] 2 Zx (rq1 (Zbl _ _ _ _ q29) rqn) (Zb (Za (zg [1, 3, 4, 6, 7, 8, 9, 10] 2 (Zb (Zg ?_)))))
 obtain ⟨y13, q37, h38⟩ := bind_some h30
 refine zl (fun (p11 : (List Int) × Int) => ⟨75, [(1, .ref 0 0), (3, .int .i64 u1), (4, .asl 1 0 p11.1.length), (6, .int .i64 p4.2), (7, .int .i64 p6.2), (8, .int .i64 p8.2), (9, sL 2 ZY r10), (10, .int .i64 p11.2)], [.box (XI a0), aL 1 (ci .i64) p11.1]⟩) (fun z => OutE 8 (fun z => ⟨75, [(1, .ref 0 0), (3, .int .i64 u1), (4, .asl 1 0 z.length), (6, .int .i64 p4.2), (7, .int .i64 p6.2), (8, .int .i64 p8.2)], [.box (XI a0), aL 1 (ci .i64) z]⟩) z) q37 ?_ ?_
 intro p11 y12 h31
 unfold M.Ve at h31
 refine Za (Za (rg0 [1, 3, 4, 6, 7, 8, 9, 10, 55] 2 ⟨75, [(1, .ref 0 0), (3, .int .i64 u1), (4, .asl 1 0 p11.1.length), (6, .int .i64 p4.2), (7, .int .i64 p6.2), (8, .int .i64 p8.2), (9, sL 2 ZY r10), (10, .int .i64 p11.2), (55, .bool (decide (p11.2 < (r10.length : Int))))], [.box (XI a0), aL 1 (ci .i64) p11.1]⟩ (Zb (cn h31 (fun _ h33 => ?_) (fun _ h34 => ?_)))))
 refine Ze (Zb (Za (Zg ?_)))
 obtain ⟨c35, h36⟩ := Zr h33
 exact rgw [] [1, 3, 4, 6, 7, 8, 9, 10] 2 ⟨75, [(1, .ref 0 0), (3, .int .i64 (a0.X5.Zd.length : Int)), (4, .asl 1 0 p11.1.length), (6, .int .i64 p4.2), (7, .int .i64 p6.2), (8, .int .i64 p8.2), (9, sL 2 ZY r10), (10, .int .i64 p11.2)], [.box (XI a0), .arr 1 p11.1.length (fun j => bif Nat.beq j (0 + p6.2.toNat) then splice ((ci .i64) (p11.1.getD (0 + p6.2.toNat) default)) [.int .i64 (if (p11.1.getD (0 + ((r10.getD p11.2.toNat default).Xp).toNat) default) < (p11.1.getD (0 + p6.2.toNat) default) then (p11.1.getD (0 + ((r10.getD p11.2.toNat default).Xp).toNat) default) else (p11.1.getD (0 + p6.2.toNat) default))] 0 else (ci .i64) (p11.1.getD j default))]⟩ [decide (0 ≤ p6.2), decide (p6.2 < (p11.1.length : Int)), decide (0 ≤ p11.2), decide (p11.2 < (r10.length : Int)), decide (0 ≤ ((r10.getD p11.2.toNat default).Xp)), decide (((r10.getD p11.2.toNat default).Xp) < (p11.1.length : Int)), decide (0 ≤ p6.2), decide (p6.2 < (p11.1.length : Int))] [] c35 trivial (XO (Xo (s' := ⟨75, [(1, .ref 0 0), (3, .int .i64 (a0.X5.Zd.length : Int)), (4, .asl 1 0 ((p11.1.set (0 + p6.2.toNat) (if (p11.1.getD (0 + ((r10.getD p11.2.toNat default).Xp).toNat) default) < (p11.1.getD (0 + p6.2.toNat) default) then (p11.1.getD (0 + ((r10.getD p11.2.toNat default).Xp).toNat) default) else (p11.1.getD (0 + p6.2.toNat) default))).length)), (6, .int .i64 p4.2), (7, .int .i64 p6.2), (8, .int .i64 p8.2), (9, sL 2 ZY r10), (10, .int .i64 p11.2)], [.box (XI a0), aL 1 (ci .i64) (p11.1.set (0 + p6.2.toNat) (if (p11.1.getD (0 + ((r10.getD p11.2.toNat default).Xp).toNat) default) < (p11.1.getD (0 + p6.2.toNat) default) then (p11.1.getD (0 + ((r10.getD p11.2.toNat default).Xp).toNat) default) else (p11.1.getD (0 + p6.2.toNat) default)))]⟩) (JL (.cons Sub.rfl (.cons Sub.rfl (.cons (Wo (by simp)) (.cons Sub.rfl (.cons Sub.rfl (.cons Sub.rfl (.cons Sub.rfl (.cons Sub.rfl .nil)))))))) (.cons .rfl (.cons (.arr (by simp) (ZbQ (ci .i64) p11.1 (0 + p6.2.toNat) (if (p11.1.getD (0 + ((r10.getD p11.2.toNat default).Xp).toNat) default) < (p11.1.getD (0 + p6.2.toNat) default) then (p11.1.getD (0 + ((r10.getD p11.2.toNat default).Xp).toNat) default) else (p11.1.getD (0 + p6.2.toNat) default)) _ rfl)) .nil))) (zg [1, 3, 4, 6, 7, 8, 9, 10] 2 (rn h36))))
 exact ZQ (Xh (re h34 ⟨rfl, kq⟩))
 intro e39 s40 o41
 obtain ⟨rfl, l42⟩ := o41
 exact YF (XO (Xo (s' := ⟨75, [(1, .ref 0 0), (3, .int .i64 u1), (4, .asl 1 0 y13.length), (6, .int .i64 p4.2), (7, .int .i64 p6.2), (8, .int .i64 p8.2)], [.box (XI a0), aL 1 (ci .i64) y13]⟩) (l42) (zg [1, 3, 4, 6, 7, 8] 2 (rn h38))))
 exact ZQ (Xh (re h28 ⟨rfl, kq⟩))
 intro e45 s46 o47
 obtain ⟨rfl, l48⟩ := o47
 exact YF (XO (Xo (s' := ⟨75, [(1, .ref 0 0), (3, .int .i64 u1), (4, .asl 1 0 y14.length), (6, .int .i64 p4.2), (7, .int .i64 p6.2)], [.box (XI a0), aL 1 (ci .i64) y14]⟩) (l48) (zg [1, 3, 4, 6, 7] 2 (rn h44))))
 exact ZQ (Xh (re h22 ⟨rfl, kq⟩))
 intro e51 s52 o53
 obtain ⟨rfl, l54⟩ := o53
 exact YF (XO (Xo (s' := ⟨75, [(1, .ref 0 0), (3, .int .i64 u1), (4, .asl 1 0 y15.length), (6, .int .i64 p4.2)], [.box (XI a0), aL 1 (ci .i64) y15]⟩) (l54) (zg [1, 3, 4, 6] 2 (rn h50))))
 exact ZQ (Xh (re h18 ⟨rfl, kq⟩))
 intro e57 s58 o59
 refine zi o59 (Za (zg [2] 2 (Zb (Zi ?_))))
 obtain rfl := Option.some.inj h56
 exact er (.sl false 1 y16.length (fun i => (ci .i64) (y16.getD (0 + i) default))) ZfJ
theorem Zch (a0 : List Int) (a1 : List Int) (r : Bool) (h : M.WM a0 a1 = some r) : Fn Tryz.prog 18 [sL 1 (ci .i64) a0, sL 1 (ci .i64) a1] (.pure (.bool r)) := by
 unfold M.WM at h
 refine ZS Tryz.func18 rfl (by kernel_rfl) (Za (zg [0, 1] 0 (Zb (Za (Za (zg [0, 1, 10] 0 (Zb (cn h (fun _ h2 => ?_) (fun _ h3 => ?_)))))))))
 exact Za (zg [4] 0 (Zb (Zi (Zk (er1 h2)))))
 refine Ze (Zb (Za (Za (zg [0, 1, 5] 0 (Zb (Zg ?_))))))
 obtain ⟨y3, q13, h14⟩ := bind_some h3
 refine zl (fun (p1 : Int) => ⟨26, [(0, sL 1 (ci .i64) a0), (1, sL 1 (ci .i64) a1), (5, .int .i64 p1)], []⟩) (Sum.elim (fun z => OutE 0 (fun z => ⟨26, [], []⟩) z) (fun z => OutR Tryz.prog Tryz.f18 (.bool z))) q13 ?_ ?_
 intro p1 y2 h4
 unfold M.Vu at h4
 refine Za (Za (zg [0, 1, 5, 14] 0 (Zb (cn h4 (fun _ h6 => ?_) (fun _ h7 => ?_)))))
 refine Ze (Zb (Za (Zg (Za ?_))))
 obtain ⟨c8, h9⟩ := Zr h6
 refine zc [0, 1, 5, 25] 0 c8 (Zb (cn h9 (fun _ h11 => ?_) (fun _ h12 => ?_)))
 exact Za (zg [4] 0 (Zb (Zi (Z7 (Zk (rr h11 ⟨rfl, er0 _⟩))))))
 exact Ze (XO (Zb (zg [0, 1, 5] 0 (rn h12))))
 exact ZQ (Xh (re h7 ⟨rfl, kq⟩))
 intro e15 s16 o17
 rcases y3 with g4 | y5
 have h18 := X8 h14
 exact zi o17 (Za (zg [4] 0 (Zb (Zi (er1 h18)))))
 have h19 := X9 h14
 obtain ⟨rfl, n21⟩ := o17
 refine Z7 (Zk ?_)
 obtain rfl := Option.some.inj h19
 exact n21
theorem ZaY  (r : ZB) (h : M.Wg  = some r) : Fn Tryz.prog 47 [] (.pure (.agg (XH r))) := by
 unfold M.Wg at h
 refine ZS Tryz.func47 rfl (by kernel_rfl) (Za (zg [0] 1 (Zb (Za (zg [0] 1 (Zb (Zi ?_)))))))
 obtain rfl := Option.some.inj h
 exact er (.agg [.sl false 25 2 (fun i => List.take 25 (List.drop (i * 25) [.str (⟨#[97]⟩ : ByteArray), .int .i64 0, .sl true 12 1 (fun i => List.take 12 (List.drop (i * 12) [.str (⟨#[101, 48]⟩ : ByteArray), .int .u32 167772161, .int .i64 24, .int .i64 0, .bool false, .bool false, .int .i64 0, .int .i64 0, .bool false, .str (⟨#[]⟩ : ByteArray), .str (⟨#[]⟩ : ByteArray), .int .i64 0])), .sl true 2 0 (fun _ => []), .sl true 2 0 (fun _ => []), .sl true 2 0 (fun _ => []), .sl true 9 0 (fun _ => []), .sl true 7 0 (fun _ => []), .bool false, .int .i64 0, .sl true 3 0 (fun _ => []), .sl true 5 0 (fun _ => []), .bool false, .int .i64 0, .str (⟨#[]⟩ : ByteArray), .str (⟨#[]⟩ : ByteArray), .sl true 5 0 (fun _ => []), .bool false, .int .i64 0, .int .i64 0, .sl true 4 0 (fun _ => []), .sl true 2 0 (fun _ => []), .sl true 3 0 (fun _ => []), .sl true 5 0 (fun _ => []), .sl true 5 0 (fun _ => []), .str (⟨#[98]⟩ : ByteArray), .int .i64 0, .sl true 12 2 (fun i => List.take 12 (List.drop (i * 12) [.str (⟨#[101, 48]⟩ : ByteArray), .int .u32 167772162, .int .i64 24, .int .i64 0, .bool false, .bool false, .int .i64 0, .int .i64 0, .bool false, .str (⟨#[]⟩ : ByteArray), .str (⟨#[]⟩ : ByteArray), .int .i64 0, .str (⟨#[101, 49]⟩ : ByteArray), .int .u32 167772418, .int .i64 24, .int .i64 0, .bool false, .bool false, .int .i64 0, .int .i64 0, .bool false, .str (⟨#[]⟩ : ByteArray), .str (⟨#[]⟩ : ByteArray), .int .i64 0])), .sl true 2 0 (fun _ => []), .sl true 2 0 (fun _ => []), .sl true 2 0 (fun _ => []), .sl true 9 0 (fun _ => []), .sl true 7 0 (fun _ => []), .bool false, .int .i64 0, .sl true 3 0 (fun _ => []), .sl true 5 0 (fun _ => []), .bool false, .int .i64 0, .str (⟨#[]⟩ : ByteArray), .str (⟨#[]⟩ : ByteArray), .sl true 5 0 (fun _ => []), .bool false, .int .i64 0, .int .i64 0, .sl true 4 0 (fun _ => []), .sl true 2 0 (fun _ => []), .sl true 3 0 (fun _ => []), .sl true 5 0 (fun _ => []), .sl true 5 0 (fun _ => [])]))]) (Zky (.cons (Zjq rfl (fun i hi => match i, hi with | 0, _ => (.cons PSub.rfl (.cons PSub.rfl (.cons (ZfI rfl (fun i hi => match i, hi with | 0, _ => (.cons PSub.rfl (.cons PSub.rfl (.cons PSub.rfl (.cons PSub.rfl (.cons PSub.rfl (.cons PSub.rfl (.cons PSub.rfl (.cons PSub.rfl (.cons PSub.rfl (.cons PSub.rfl (.cons PSub.rfl (.cons PSub.rfl .nil)))))))))))) | n + 1, h => absurd h (by omega))) (.cons Qp (.cons Qp (.cons Qp (.cons Qp (.cons Qp (.cons PSub.rfl (.cons PSub.rfl (.cons Qp (.cons Qp (.cons PSub.rfl (.cons PSub.rfl (.cons PSub.rfl (.cons PSub.rfl (.cons Qp (.cons PSub.rfl (.cons PSub.rfl (.cons PSub.rfl (.cons Qp (.cons Qp (.cons Qp (.cons Qp (.cons Qp .nil))))))))))))))))))))))))) | 1, _ => (.cons PSub.rfl (.cons PSub.rfl (.cons (ZfI rfl (fun i hi => match i, hi with | 0, _ => (.cons PSub.rfl (.cons PSub.rfl (.cons PSub.rfl (.cons PSub.rfl (.cons PSub.rfl (.cons PSub.rfl (.cons PSub.rfl (.cons PSub.rfl (.cons PSub.rfl (.cons PSub.rfl (.cons PSub.rfl (.cons PSub.rfl .nil)))))))))))) | 1, _ => (.cons PSub.rfl (.cons PSub.rfl (.cons PSub.rfl (.cons PSub.rfl (.cons PSub.rfl (.cons PSub.rfl (.cons PSub.rfl (.cons PSub.rfl (.cons PSub.rfl (.cons PSub.rfl (.cons PSub.rfl (.cons PSub.rfl .nil)))))))))))) | n + 2, h => absurd h (by omega))) (.cons Qp (.cons Qp (.cons Qp (.cons Qp (.cons Qp (.cons PSub.rfl (.cons PSub.rfl (.cons Qp (.cons Qp (.cons PSub.rfl (.cons PSub.rfl (.cons PSub.rfl (.cons PSub.rfl (.cons Qp (.cons PSub.rfl (.cons PSub.rfl (.cons PSub.rfl (.cons Qp (.cons Qp (.cons Qp (.cons Qp (.cons Qp .nil))))))))))))))))))))))))) | n + 2, h => absurd h (by omega))) .nil))
theorem R3 (a0 : Int) (r : Bool) (h : M.VB a0 = some r) : Fn Tryz.prog 129 [.int .u8 a0] (.pure (.bool r)) := by
 unfold M.VB at h
 exact ZS Tryz.func129 rfl (by kernel_rfl) (Za (zg [0] 0 (Zb (Za (zg [2] 0 (Zb (Zi (er1 h))))))))
theorem Ze2 (a0 : Int) (r : Bool) (h : M.W3 a0 = some r) : Fn Tryz.prog 130 [.int .u8 a0] (.pure (.bool r)) := by
 unfold M.W3 at h
 exact ZS Tryz.func130 rfl (by kernel_rfl) (Za (zg [0] 0 (Zb (Za (zg [2] 0 (Zb (Zi (er1 h))))))))
theorem Zci (a0 : ByteArray) (r : Bool) (h : M.WN a0 = some r) : Fn Tryz.prog 73 [.str a0] (.pure (.bool r)) := by
 unfold M.WN at h
 refine ZS Tryz.func73 rfl (by kernel_rfl) (Za (zg [0] 0 (Zb (Za (Za ?_)))))
 obtain ⟨r1, q1, h2⟩ := bind_some h
 obtain ⟨c3, h4⟩ := Zr h2
 refine zr [0, 18] 0 c3 (rq2 (fun hg => R3 _ _ (XR q1 hg)) rqn) (Zb (cn h4 (fun _ h6 => ?_) (fun _ h7 => ?_)))
 refine Za ?_
 cases h6
 refine Ze (Zb (Za (Za (zg [0, 3] 0 (Zb (Zg ?_))))))
 obtain ⟨y6, q21, h22⟩ := bind_some h7
 refine zl (fun (p2 : Int) => ⟨52, [(0, .str a0), (3, .int .i64 p2)], []⟩) (fun z => OutE 0 (fun z => ⟨52, [], []⟩) z) q21 ?_ ?_
 intro p2 y3 h8
 unfold M.Wq at h8
 refine Za (Za (zg [0, 3, 22] 0 (Zb (cn h8 (fun _ h10 => ?_) (fun _ h11 => ?_)))))
 refine Ze (Zb (Za (Zg (Za ?_))))
 obtain ⟨c12, h13⟩ := Zr h10
 refine zc [0, 3, 4] 0 c12 (Zb (Za ?_))
 obtain ⟨r4, q14, h15⟩ := bind_some h13
 obtain ⟨r5, q16, h17⟩ := bind_some h15
 refine zr [0, 3, 51] 0 Zx (rq1 (R3 _ _ q14) (rq2 (fun hg => Ze2 _ _ (XR q16 hg)) rqn)) (Zb (cn h17 (fun _ h19 => ?_) (fun _ h20 => ?_)))
 refine Za ?_
 cases h19
 exact Ze (XO (Zb (zg [0, 3] 0 (rn h20))))
 exact ZQ (Xh (re h11 ⟨rfl, kq⟩))
 intro e23 s24 o25
 exact zi o25 (Za (zg [2] 0 (Zb (Zi (er1 h22)))))
theorem UJ (a0 : Int) (a1 : Int) (a2 : Int) (r : Bool) (h : M.Qu a0 a1 a2 = some r) : Fn Tryz.prog 74 [.int .i64 a0, .int .i64 a1, .int .i64 a2] (.pure (.bool r)) := by
 unfold M.Qu at h
 exact ZS Tryz.func74 rfl (by kernel_rfl) (Za (zg [0, 1, 2] 0 (Zb (Za (zg [6] 0 (Zb (Zi (er1 h))))))))
theorem R4 (a0 : Zl) (b0 : ByteArray) (r : Bool) (h : M.QU a0 b0 = some r) : Fn Tryz.prog 164 [.agg (Zj a0), .pp (cs b0)] (.pure (.bool r)) := by
 unfold M.QU at h
 exact ZS Tryz.func164 rfl (by kernel_rfl) (Za (zg [1, 2] 1 (Zb (Za (zg [3] 0 (Zb (Zi (er1 h))))))))
theorem JQ (a0 : List Zl) (a1c0 : ByteArray) (r : Int) (h : M.ZH a0 a1c0 = some r) : Fn Tryz.prog 146 [sL 12 Zj a0, .fn 164 [.pp (cs a1c0)]] (.pure (.int .i64 r)) := by
 unfold M.ZH at h
 refine ZS Tryz.func146 rfl (by kernel_rfl) (Za (zg [0, 1] 0 (Zb (Za (Za (zg [0, 1, 7, 8] 0 (Zb (Zg ?_))))))))
 obtain ⟨y4, q12, h13⟩ := bind_some h
 refine zl (fun (p1 : Int) => ⟨19, [(0, sL 12 Zj a0), (1, .fn 164 [.pp (cs a1c0)]), (7, .int .i64 (a0.length : Int)), (8, .int .i64 p1)], []⟩) (Sum.elim (fun z => OutE 0 (fun z => ⟨19, [], []⟩) z) (fun z => OutR Tryz.prog Tryz.f146 (.int .i64 z))) q12 ?_ ?_
 intro p1 y2 h1
 unfold M.ZR at h1
 refine Za (zg [0, 1, 7, 8, 9] 0 (Zb (Za (cn h1 (fun _ h3 => ?_) (fun _ h4 => ?_)))))
 refine Ze (Zb (Za (Zg (Za (zg [0, 1, 5, 7, 8] 0 (Zb (Za ?_)))))))
 obtain ⟨r3, q5, h6⟩ := bind_some h3
 obtain ⟨c7, h8⟩ := Zr h6
 refine zr [0, 1, 5, 7, 8, 16] 0 c7 (rq1 (R4 _ _ _ q5) rqn) (Zb (cn h8 (fun _ h10 => ?_) (fun _ h11 => ?_)))
 exact Za (zg [4] 0 (Zb (Zi (Z7 (Zk (rr h10 ⟨rfl, er0 _⟩))))))
 exact Ze (XO (Zb (zg [0, 1, 7, 8] 0 (rn h11))))
 exact ZQ (Xh (re h4 ⟨rfl, kq⟩))
 intro e14 s15 o16
 rcases y4 with g5 | y6
 have h17 := X8 h13
 exact zi o16 (Za (zg [4] 0 (Zb (Zi (er1 h17)))))
 have h18 := X9 h13
 obtain ⟨rfl, n20⟩ := o16
 refine Z7 (Zk ?_)
 obtain rfl := Option.some.inj h18
 exact n20
theorem Zbm (a0 : Zf) (a1 : ByteArray) (r : Int) (h : M.JE a0 a1 = some r) : Fn Tryz.prog 131 [.agg (Zp a0), .str a1] (.pure (.int .i64 r)) := by
 unfold M.JE at h
 refine ZS Tryz.func131 rfl (by kernel_rfl) (Za (zg [2, 3] 2 (Zb (Za ?_))))
 obtain ⟨r1, q1, h2⟩ := bind_some h
 exact zr [4] 0 Zx (rq1 (JQ _ _ _ q1) rqn) (Zb (Zi (er1 h2)))
theorem KB (a0 : Zl) (r : Bool) (h : M.Y2 a0 = some r) : Fn Tryz.prog 132 [.agg (Zj a0)] (.pure (.bool r)) := by
 unfold M.Y2 at h
 refine ZS Tryz.func132 rfl (by kernel_rfl) (Za (zg [1] 1 (Zb (Za (Za ?_)))))
 obtain ⟨r1, q1, h2⟩ := bind_some h
 obtain ⟨r2, q3, h4⟩ := bind_some h2
 obtain ⟨r3, q5, h6⟩ := bind_some h4
 refine zr [1, 18] 1 Zx (rq1 (UJ _ _ _ _ q1) (rq2 (fun hg => UJ _ _ _ _ (XR q3 hg)) (rq2 (fun hg => UJ _ _ _ _ (XR q5 hg)) rqn))) (Zb (cn h6 (fun _ h8 => ?_) (fun _ h9 => ?_)))
 refine Za ?_
 cases h8
 refine Ze (Zb (Za (Za (zg [1, 54] 1 (Zb (cn h9 (fun _ h11 => ?_) (fun _ h12 => ?_)))))))
 refine Za ?_
 cases h11
 refine Ze (Zb (Za (Za (zg [1, 62] 1 (Zb (cn h12 (fun _ h14 => ?_) (fun _ h15 => ?_)))))))
 refine Za ?_
 cases h14
 refine Ze (Zb (Za (Za (zg [1, 64] 1 (Zb (cn h15 (fun _ h17 => ?_) (fun _ h18 => ?_)))))))
 refine Za ?_
 cases h17
 exact Ze (Zb (Za (zg [2] 0 (Zb (Zi (er1 h18))))))
theorem ZaZ (a0 : Int) (r : Int) (h : M.Wh a0 = some r) : Fn Tryz.prog 89 [.int .i64 a0] (.pure (.int .i64 r)) := by
 unfold M.Wh at h
 exact ZS Tryz.func89 rfl (by kernel_rfl) (Za (zg [0] 0 (Zb (Za (zg [2] 0 (Zb (Zi (er1 h))))))))
theorem Zcj (a0 : Int) (r : Int) (h : M.WO a0 = some r) : Fn Tryz.prog 88 [.int .i64 a0] (.pure (.int .u32 r)) := by
 unfold M.WO at h
 refine ZS Tryz.func88 rfl (by kernel_rfl) (Za (zg [0] 0 (Zb (Za ?_))))
 obtain ⟨r1, q1, h2⟩ := bind_some h
 obtain ⟨c3, h4⟩ := Zr h2
 exact zr [2] 0 c3 (rq1 (ZaZ _ _ q1) rqn) (Zb (Zi (er1 h4)))
theorem Gt (a0 : Int) (a1 : Int) (r : ZZ) (h : M.Ji a0 a1 = some r) : Fn Tryz.prog 60 [.int .u32 a0, .int .i64 a1] (.pure (.agg (Xd r))) := by
 unfold M.Ji at h
 refine ZS Tryz.func60 rfl (by kernel_rfl) (Za (zg [0, 1, 4] 1 (Zb (Za ?_))))
 obtain ⟨r1, q1, h2⟩ := bind_some h
 obtain ⟨r2, q3, h4⟩ := bind_some h2
 refine zr [4] 1 Zx (rq1 (Zcj _ _ q1) (rq1 (ZaZ _ _ q3) rqn)) (Zb (Zi ?_))
 obtain rfl := Option.some.inj h4
 exact er0 (.agg [.int .u32 (bitD .and .u32 a0 r1), .int .i64 r2])
theorem ZcU (a0 : ZZ) (a1 : Int) (r : Bool) (h : M.Vv a0 a1 = some r) : Fn Tryz.prog 179 [.agg (Xd a0), .int .u32 a1] (.pure (.bool r)) := by
 unfold M.Vv at h
 refine ZS Tryz.func179 rfl (by kernel_rfl) (Za (zg [1, 2] 1 (Zb (Za ?_))))
 obtain ⟨r1, q1, h2⟩ := bind_some h
 exact zr [4] 0 Zx (rq1 (Zcj _ _ q1) rqn) (Zb (Zi (er1 h2)))
theorem R5 (a0 : ZZ) (a1 : ZZ) (r : Bool) (h : M.VC a0 a1 = some r) : Fn Tryz.prog 165 [.agg (Xd a0), .agg (Xd a1)] (.pure (.bool r)) := by
 unfold M.VC at h
 refine ZS Tryz.func165 rfl (by kernel_rfl) (Za (zg [2, 3] 2 (Zb (Za ?_))))
 obtain ⟨r1, q1, h2⟩ := bind_some h
 exact zr [4] 0 Zx (rq2 (fun hg => ZcU _ _ _ (XR q1 hg)) rqn) (Zb (Zi (er1 h2)))
theorem ZcV (a0 : ZZ) (a1 : ZZ) (r : Bool) (h : M.Vw a0 a1 = some r) : Fn Tryz.prog 133 [.agg (Xd a0), .agg (Xd a1)] (.pure (.bool r)) := by
 unfold M.Vw at h
 refine ZS Tryz.func133 rfl (by kernel_rfl) (Za (zg [2, 3] 2 (Zb (Za ?_))))
 obtain ⟨r1, q1, h2⟩ := bind_some h
 obtain ⟨r2, q3, h4⟩ := bind_some h2
 exact zr [4] 0 Zx (rq1 (R5 _ _ _ q1) (rq2 (fun hg => R5 _ _ _ (XR q3 hg)) rqn)) (Zb (Zi (er1 h4)))
theorem Kg (a0 : Zf) (r : Int) (h : M.YK a0 = some r) : Fn Tryz.prog 75 [.agg (Zp a0)] (.pure (.int .i64 r)) := by
 let u1 : Nat × D := (12, sL 12 Zj a0.Zc)
 let u2 := (a0.Zc.length : Int)
 let u5 := Zp a0
 unfold M.YK at h
 refine ZS Tryz.func75 rfl (by kernel_rfl) (Za (zg [1] 1 (Zb (Za (Za (zg [1, 10] 1 (Zb (cn h (fun _ h2 => ?_) (fun _ h3 => ?_)))))))))
 refine Za ?_
 cases h2
 refine Ze (Zb (Za (Za (zg [1, 12, 13, 14] 1 (Zb (Zg ?_))))))
 obtain ⟨y12, q48, h49⟩ := bind_some h3
 refine zl (fun (p1 : Int) => ⟨64, [(1, .ref 0 0), u1, (13, .int .i64 u2), (14, .int .i64 p1)], [.box u5]⟩) (fun z => OutE 0 (fun z => ⟨64, [], []⟩) z) q48 ?_ ?_
 intro p1 y2 h4
 let u3 : List Ob := [.box u5, .box (Zj (a0.Zc.getD p1.toNat default))]
 let u4 : Nat × D := (35, sL 12 Zj ((a0.Zc.drop 0).take (p1.toNat - 0)))
 unfold M.Yz at h4
 refine Za (zg [1, 12, 13, 14, 15] 1 (Zb (Za (cn h4 (fun _ h6 => ?_) (fun _ h7 => ?_)))))
 refine Ze (Zb (Za (Zg (Za ?_))))
 obtain ⟨c8, h9⟩ := Zr h6
 refine zc [1, 3, 4, 12, 13, 14] 2 c8 (Zb (Za (Za ?_)))
 obtain ⟨r3, q10, h11⟩ := bind_some h9
 refine zr [1, 3, 4, 12, 13, 14, 22] 2 Zx (rq1 (Zci _ _ q10) rqn) (Zb (cn h11 (fun _ h13 => ?_) (fun _ h14 => ?_)))
 refine Za ?_
 cases h13
 refine Ze (Zb (Za (Za ?_)))
 obtain ⟨r4, q15, h16⟩ := bind_some h14
 refine zr [1, 3, 4, 12, 13, 14, 28] 2 Zx (rq1 (Zbm _ _ _ q15) rqn) (Zb (cn h16 (fun _ h18 => ?_) (fun _ h19 => ?_)))
 refine Za ?_
 cases h18
 refine Ze (Zb (Za (Za ?_)))
 obtain ⟨r5, q20, h21⟩ := bind_some h19
 refine zr [1, 3, 4, 12, 13, 14, 31] 2 Zx (rq1 (KB _ _ q20) rqn) (Zb (cn h21 (fun _ h23 => ?_) (fun _ h24 => ?_)))
 refine Za ?_
 cases h23
 refine Ze (Zb (Za ?_))
 obtain ⟨c25, h26⟩ := Zr h24
 refine rgc [1, 4, 12, 13, 14, 35, 36, 37] 2 ⟨64, [(1, .ref 0 0), (4, .ref 1 0), u1, (13, .int .i64 u2), (14, .int .i64 p1), (35, .sl false 12 (p1.toNat - 0) (fun i => Zj (a0.Zc.getD (0 + i) default))), (36, .int .i64 ((p1.toNat - 0 : Nat) : Int)), (37, .int .i64 0)], u3⟩ [decide (0 ≤ p1), decide (p1 ≤ u2)] c25 (Xo (s' := ⟨64, [(1, .ref 0 0), (4, .ref 1 0), u1, (13, .int .i64 u2), (14, .int .i64 p1), u4, (36, .int .i64 ((p1.toNat - 0 : Nat) : Int)), (37, .int .i64 0)], u3⟩) (JL (.cons Sub.rfl (.cons Sub.rfl (.cons Sub.rfl (.cons Sub.rfl (.cons Sub.rfl (.cons (Gb (ZhT _ _ _ (Zjs (c25 _ (List.mem_cons_of_mem _ List.mem_cons_self)))) (ZhS _ _ _ _)) (.cons Sub.rfl (.cons Sub.rfl .nil)))))))) (.cons .rfl (.cons .rfl .nil))) (Zg ?_))
 obtain ⟨y11, q42, h43⟩ := bind_some h26
 refine zl (fun (p6 : Int) => ⟨64, [(1, .ref 0 0), (4, .ref 1 0), u1, (13, .int .i64 u2), (14, .int .i64 p1), u4, (36, .int .i64 ((p1.toNat - 0 : Nat) : Int)), (37, .int .i64 p6)], u3⟩) (fun z => OutE 2 (fun z => ⟨64, [(1, .ref 0 0), u1, (13, .int .i64 u2), (14, .int .i64 p1)], [.box u5]⟩) z) q42 ?_ ?_
 intro p6 y7 h27
 unfold M.Yy at h27
 refine Za (zg [1, 4, 12, 13, 14, 35, 36, 37, 38] 2 (Zb (Za (cn h27 (fun _ h29 => ?_) (fun _ h30 => ?_)))))
 refine Ze (Zb (Za (Zg (Za ?_))))
 obtain ⟨c31, h32⟩ := Zr h29
 refine zc [1, 4, 6, 12, 13, 14, 35, 36, 37] 3 c31 (Zb (Za ?_))
 obtain ⟨r8, q33, h34⟩ := bind_some h32
 obtain ⟨r9, q35, h36⟩ := bind_some h34
 obtain ⟨r10, q37, h38⟩ := bind_some h36
 refine zr [1, 4, 12, 13, 14, 35, 36, 37, 61] 2 Zx (rq2 (fun hg => Gt _ _ _ (XR q33 hg)) (rq2 (fun hg => Gt _ _ _ (XR q35 hg)) (rq2 (fun hg => ZcV _ _ _ (XR q37 hg)) rqn))) (Zb (cn h38 (fun _ h40 => ?_) (fun _ h41 => ?_)))
 refine Za ?_
 cases h40
 exact Ze (XO (Zb (zg [1, 4, 12, 13, 14, 35, 36, 37] 2 (rn h41))))
 exact ZQ (Xh (re h30 ⟨rfl, kc⟩))
 intro e44 s45 o46
 obtain ⟨rfl, l47⟩ := o46
 exact YF (XO (Xo (s' := ⟨64, [(1, .ref 0 0), u1, (13, .int .i64 u2), (14, .int .i64 p1)], [.box u5]⟩) (l47) (zg [1, 12, 13, 14] 1 (rn h43))))
 exact ZQ (Xh (re h7 ⟨rfl, kc⟩))
 intro e50 s51 o52
 exact zi o52 (Za (zg [2] 0 (Zb (Zi (er1 h49)))))
theorem GZ (a0 : Zf) (r : Int) (h : M.Yw a0 = some r) : Fn Tryz.prog 76 [.agg (Zp a0)] (.pure (.int .i64 r)) := by
 unfold M.Yw at h
 refine ZS Tryz.func76 rfl (by kernel_rfl) (Za (zg [1] 1 (Zb (Za (Za (zg [1, 11] 1 (Zb (cn h (fun _ h2 => ?_) (fun _ h3 => ?_)))))))))
 refine Za ?_
 cases h2
 refine Ze (Zb (Za (Za (zg [1, 13, 14, 15] 1 (Zb (Zg ?_))))))
 obtain ⟨y3, q8, h9⟩ := bind_some h3
 refine zl (fun (p1 : Int) => ⟨67, [(1, .ref 0 0), (13, sL 2 Zw a0.Yv), (14, .int .i64 (a0.Yv.length : Int)), (15, .int .i64 p1)], [.box (Zp a0)]⟩) (fun z => OutE 0 (fun z => ⟨67, [], []⟩) z) q8 ?_ ?_
 intro p1 y2 h4
 unfold M.Yq at h4
 refine Za (zg [1, 13, 14, 15, 16] 1 (Zb (Za (cn h4 (fun _ h6 => ?_) (fun _ h7 => ?_)))))
 refine Ze (Zb (Za (Zg (Za ?_))))
 cases h6
 exact ZQ (Xh (re h7 ⟨rfl, kc⟩))
 intro e10 s11 o12
 exact zi o12 (Za (zg [2] 0 (Zb (Zi (er1 h9)))))
theorem KC (a0 : Zf) (r : Int) (h : M.Y3 a0 = some r) : Fn Tryz.prog 77 [.agg (Zp a0)] (.pure (.int .i64 r)) := by
 unfold M.Y3 at h
 refine ZS Tryz.func77 rfl (by kernel_rfl) (Za (zg [1] 1 (Zb (Za (Za (zg [1, 11] 1 (Zb (cn h (fun _ h2 => ?_) (fun _ h3 => ?_)))))))))
 refine Za ?_
 cases h2
 refine Ze (Zb (Za (Za (zg [1, 13, 14, 15] 1 (Zb (Zg ?_))))))
 obtain ⟨y3, q8, h9⟩ := bind_some h3
 refine zl (fun (p1 : Int) => ⟨56, [(1, .ref 0 0), (13, sL 2 Z0 a0.XE), (14, .int .i64 (a0.XE.length : Int)), (15, .int .i64 p1)], [.box (Zp a0)]⟩) (fun z => OutE 0 (fun z => ⟨56, [], []⟩) z) q8 ?_ ?_
 intro p1 y2 h4
 unfold M.YM at h4
 refine Za (zg [1, 13, 14, 15, 16] 1 (Zb (Za (cn h4 (fun _ h6 => ?_) (fun _ h7 => ?_)))))
 refine Ze (Zb (Za (Zg (Za ?_))))
 cases h6
 exact ZQ (Xh (re h7 ⟨rfl, kc⟩))
 intro e10 s11 o12
 exact zi o12 (Za (zg [2] 0 (Zb (Zi (er1 h9)))))
theorem Zbn (a0 : Zf) (r : Int) (h : M.JF a0 = some r) : Fn Tryz.prog 78 [.agg (Zp a0)] (.pure (.int .i64 r)) := by
 unfold M.JF at h
 refine ZS Tryz.func78 rfl (by kernel_rfl) (Za (zg [1] 1 (Zb (Za (Za (zg [1, 11] 1 (Zb (cn h (fun _ h2 => ?_) (fun _ h3 => ?_)))))))))
 refine Za ?_
 cases h2
 refine Ze (Zb (Za (Za (zg [1, 13, 14, 15] 1 (Zb (Zg ?_))))))
 obtain ⟨y3, q8, h9⟩ := bind_some h3
 refine zl (fun (p1 : Int) => ⟨46, [(1, .ref 0 0), (13, sL 2 Yu a0.YD), (14, .int .i64 (a0.YD.length : Int)), (15, .int .i64 p1)], [.box (Zp a0)]⟩) (fun z => OutE 0 (fun z => ⟨46, [], []⟩) z) q8 ?_ ?_
 intro p1 y2 h4
 unfold M.Q3 at h4
 refine Za (zg [1, 13, 14, 15, 16] 1 (Zb (Za (cn h4 (fun _ h6 => ?_) (fun _ h7 => ?_)))))
 refine Ze (Zb (Za (Zg (Za ?_))))
 cases h6
 exact ZQ (Xh (re h7 ⟨rfl, kc⟩))
 intro e10 s11 o12
 exact zi o12 (Za (zg [2] 0 (Zb (Zi (er1 h9)))))
theorem Zck (a0 : Zf) (r : Int) (h : M.Va a0 = some r) : Fn Tryz.prog 79 [.agg (Zp a0)] (.pure (.int .i64 r)) := by
 unfold M.Va at h
 refine ZS Tryz.func79 rfl (by kernel_rfl) (Za (zg [1] 1 (Zb (Za (Za (zg [1, 8] 1 (Zb (cn h (fun _ h2 => ?_) (fun _ h3 => ?_)))))))))
 refine Za ?_
 cases h2
 refine Ze (Zb (Za (Za (zg [1, 10, 11, 12] 1 (Zb (Zg ?_))))))
 obtain ⟨y3, q8, h9⟩ := bind_some h3
 refine zl (fun (p1 : Int) => ⟨30, [(1, .ref 0 0), (10, sL 9 Z3 a0.Xa), (11, .int .i64 (a0.Xa.length : Int)), (12, .int .i64 p1)], [.box (Zp a0)]⟩) (fun z => OutE 0 (fun z => ⟨30, [], []⟩) z) q8 ?_ ?_
 intro p1 y2 h4
 unfold M.Jp at h4
 refine Za (zg [1, 10, 11, 12, 13] 1 (Zb (Za (cn h4 (fun _ h6 => ?_) (fun _ h7 => ?_)))))
 refine Ze (Zb (Za (Zg (Za ?_))))
 cases h6
 exact ZQ (Xh (re h7 ⟨rfl, kc⟩))
 intro e10 s11 o12
 exact zi o12 (Za (zg [2] 0 (Zb (Zi (er1 h9)))))
theorem Zcl (a0 : Zf) (a1 : ByteArray) (r : Int) (h : M.WP a0 a1 = some r) : Fn Tryz.prog 139 [.agg (Zp a0), .str a1] (.pure (.int .i64 r)) := by
 unfold M.WP at h
 refine ZS Tryz.func139 rfl (by kernel_rfl) (Za ?_)
 cases h
theorem Rg (a0 : Zf) (r : Int) (h : M.Qv a0 = some r) : Fn Tryz.prog 80 [.agg (Zp a0)] (.pure (.int .i64 r)) := by
 unfold M.Qv at h
 refine ZS Tryz.func80 rfl (by kernel_rfl) (Za (zg [1] 1 (Zb (Za (Za (zg [1, 6, 7, 8] 1 (Zb (Zg ?_))))))))
 obtain ⟨y5, q14, h15⟩ := bind_some h
 refine zl (fun (p1 : Int) => ⟨35, [(1, .ref 0 0), (6, sL 12 Zj a0.Zc), (7, .int .i64 (a0.Zc.length : Int)), (8, .int .i64 p1)], [.box (Zp a0)]⟩) (fun z => OutE 0 (fun z => ⟨35, [], []⟩) z) q14 ?_ ?_
 intro p1 y2 h1
 unfold M.Qa at h1
 refine Za (zg [1, 6, 7, 8, 9] 1 (Zb (Za (cn h1 (fun _ h3 => ?_) (fun _ h4 => ?_)))))
 refine Ze (Zb (Za (Zg (Za ?_))))
 obtain ⟨c5, h6⟩ := Zr h3
 refine zc [1, 4, 6, 7, 8] 2 c5 (Zb (Za ?_))
 obtain ⟨r3, q7, h8⟩ := bind_some h6
 obtain ⟨r4, q9, h10⟩ := bind_some h8
 refine zr [1, 6, 7, 8, 33] 1 Zx (rq2 (fun hg => Zcl _ _ _ (XR q7 hg)) (rq2 (fun hg => Zcl _ _ _ (XR q9 hg)) rqn)) (Zb (cn h10 (fun _ h12 => ?_) (fun _ h13 => ?_)))
 refine Za ?_
 cases h12
 exact Ze (XO (Zb (zg [1, 6, 7, 8] 1 (rn h13))))
 exact ZQ (Xh (re h4 ⟨rfl, kc⟩))
 intro e16 s17 o18
 exact zi o18 (Za (zg [2] 0 (Zb (Zi (er1 h15)))))
theorem Rh (a0 : Zf) (r : Int) (h : M.Qw a0 = some r) : Fn Tryz.prog 81 [.agg (Zp a0)] (.pure (.int .i64 r)) := by
 unfold M.Qw at h
 refine ZS Tryz.func81 rfl (by kernel_rfl) (Za (zg [1] 1 (Zb (Za (Za (zg [1, 11] 1 (Zb (cn h (fun _ h2 => ?_) (fun _ h3 => ?_)))))))))
 refine Za ?_
 cases h2
 refine Ze (Zb (Za (Za (zg [1, 13, 14, 15] 1 (Zb (Zg ?_))))))
 obtain ⟨y3, q8, h9⟩ := bind_some h3
 refine zl (fun (p1 : Int) => ⟨63, [(1, .ref 0 0), (13, sL 7 Z9 a0.Zq), (14, .int .i64 (a0.Zq.length : Int)), (15, .int .i64 p1)], [.box (Zp a0)]⟩) (fun z => OutE 0 (fun z => ⟨63, [], []⟩) z) q8 ?_ ?_
 intro p1 y2 h4
 unfold M.Qb at h4
 refine Za (zg [1, 13, 14, 15, 16] 1 (Zb (Za (cn h4 (fun _ h6 => ?_) (fun _ h7 => ?_)))))
 refine Ze (Zb (Za (Zg (Za ?_))))
 cases h6
 exact ZQ (Xh (re h7 ⟨rfl, kc⟩))
 intro e10 s11 o12
 exact zi o12 (Za (zg [2] 0 (Zb (Zi (er1 h9)))))
theorem KD (a0 : Zf) (r : Int) (h : M.Y4 a0 = some r) : Fn Tryz.prog 82 [.agg (Zp a0)] (.pure (.int .i64 r)) := by
 unfold M.Y4 at h
 refine ZS Tryz.func82 rfl (by kernel_rfl) (Za (zg [1] 1 (Zb (Za (zg [1, 3] 2 (Zb (Za (Za (zg [1, 3, 12] 2 (Zb (cn h (fun _ h2 => ?_) (fun _ h3 => ?_))))))))))))
 refine Za (Za (zg [27] 0 (Zb (cn h2 (fun _ h5 => ?_) (fun _ h6 => ?_)))))
 refine Za ?_
 cases h5
 exact Ze (Zb (Za (zg [2] 0 (Zb (Zi (Zk (er1 h6)))))))
 refine Ze (Zb (Za (Za ?_)))
 cases h3
theorem Gu (a0 : Zf) (r : Int) (h : M.Yb a0 = some r) : Fn Tryz.prog 83 [.agg (Zp a0)] (.pure (.int .i64 r)) := by
 unfold M.Yb at h
 refine ZS Tryz.func83 rfl (by kernel_rfl) (Za (zg [1] 1 (Zb (Za (zg [1, 3] 2 (Zb (Za (Za (zg [1, 3, 8] 2 (Zb (cn h (fun _ h2 => ?_) (fun _ h3 => ?_))))))))))))
 refine Za (Za (zg [27] 0 (Zb (cn h2 (fun _ h5 => ?_) (fun _ h6 => ?_)))))
 refine Za ?_
 cases h5
 exact Ze (Zb (Za (zg [2] 0 (Zb (Zi (Zk (er1 h6)))))))
 refine Ze (Zb (Za (Za ?_)))
 cases h3
theorem Kh (a0 : Zf) (r : Int) (h : M.YL a0 = some r) : Fn Tryz.prog 84 [.agg (Zp a0)] (.pure (.int .i64 r)) := by
 unfold M.YL at h
 refine ZS Tryz.func84 rfl (by kernel_rfl) (Za (zg [1] 1 (Zb (Za (zg [1, 3] 2 (Zb (Za (Za (zg [1, 3, 10] 2 (Zb (cn h (fun _ h2 => ?_) (fun _ h3 => ?_))))))))))))
 refine Za (Za (zg [48] 0 (Zb (cn h2 (fun _ h5 => ?_) (fun _ h6 => ?_)))))
 refine Za ?_
 cases h5
 exact Ze (Zb (Za (zg [2] 0 (Zb (Zi (Zk (er1 h6)))))))
 refine Ze (Zb (Za (Za ?_)))
 cases h3
theorem R6 (a0 : Zf) (r : Int) (h : M.QV a0 = some r) : Fn Tryz.prog 58 [.agg (Zp a0)] (.pure (.int .i64 r)) := by
 unfold M.QV at h
 refine ZS Tryz.func58 rfl (by kernel_rfl) (Za (zg [1] 1 (Zb (Za (Za ?_)))))
 obtain ⟨r1, q1, h2⟩ := bind_some h
 refine zr [1, 10] 1 Zx (rq1 (Zci _ _ q1) rqn) (Zb (cn h2 (fun _ h4 => ?_) (fun _ h5 => ?_)))
 refine Za ?_
 cases h4
 refine Ze (Zb (Za (Za ?_)))
 obtain ⟨r2, q6, h7⟩ := bind_some h5
 refine zr [1, 14] 1 Zx (rq1 (UJ _ _ _ _ q6) rqn) (Zb (cn h7 (fun _ h9 => ?_) (fun _ h10 => ?_)))
 refine Za ?_
 cases h9
 refine Ze (Zb (Za (zg [1, 3] 1 (Zb (Za (Za (zg [1, 16, 17, 18] 1 (Zb (Zg (Zhh (WH (Za (zg [1, 16, 17, 18, 19] 1 (Zb (Za (cnd true (fun _ => (Ze (Zb (Za (Zg (Za ?_)))))) (fun b11 => Bool.noConfusion b11)))))))))))))))))
 obtain ⟨c12, h13⟩ := Zr h10
 refine zc [1, 5, 16, 17, 18] 1 c12 (Zb (Za ?_))
 obtain ⟨r3, q14, h15⟩ := bind_some h13
 refine zr [1, 6, 16, 17, 18] 1 Zx (rq1 (Kg _ _ q14) rqn) (Zb (Za (zg [1, 6, 16, 17, 18, 26] 1 (Zb (cn h15 (fun _ h17 => ?_) (fun _ h18 => ?_))))))
 refine Za ?_
 cases h17
 refine Ze (XO (Zb (zg [1, 16, 17, 18] 1 (Gf (WH (Za (zg [1, 16, 17, 18, 19] 1 (Zb (Za (cnd true (fun _ => (Ze (Zb (Za (Zg (Za ?_)))))) (fun b19 => Bool.noConfusion b19)))))))))))
 obtain ⟨c20, h21⟩ := Zr h18
 refine zc [1, 5, 16, 17, 18] 1 c20 (Zb (Za ?_))
 obtain ⟨r4, q22, h23⟩ := bind_some h21
 refine zr [1, 6, 16, 17, 18] 1 Zx (rq1 (GZ _ _ q22) rqn) (Zb (Za (zg [1, 6, 16, 17, 18, 26] 1 (Zb (cn h23 (fun _ h25 => ?_) (fun _ h26 => ?_))))))
 refine Za ?_
 cases h25
 refine Ze (XO (Zb (zg [1, 16, 17, 18] 1 (Gf (WH (Za (zg [1, 16, 17, 18, 19] 1 (Zb (Za (cnd true (fun _ => (Ze (Zb (Za (Zg (Za ?_)))))) (fun b27 => Bool.noConfusion b27)))))))))))
 obtain ⟨c28, h29⟩ := Zr h26
 refine zc [1, 5, 16, 17, 18] 1 c28 (Zb (Za ?_))
 obtain ⟨r5, q30, h31⟩ := bind_some h29
 refine zr [1, 6, 16, 17, 18] 1 Zx (rq1 (KC _ _ q30) rqn) (Zb (Za (zg [1, 6, 16, 17, 18, 26] 1 (Zb (cn h31 (fun _ h33 => ?_) (fun _ h34 => ?_))))))
 refine Za ?_
 cases h33
 refine Ze (XO (Zb (zg [1, 16, 17, 18] 1 (Gf (WH (Za (zg [1, 16, 17, 18, 19] 1 (Zb (Za (cnd true (fun _ => (Ze (Zb (Za (Zg (Za ?_)))))) (fun b35 => Bool.noConfusion b35)))))))))))
 obtain ⟨c36, h37⟩ := Zr h34
 refine zc [1, 5, 16, 17, 18] 1 c36 (Zb (Za ?_))
 obtain ⟨r6, q38, h39⟩ := bind_some h37
 refine zr [1, 6, 16, 17, 18] 1 Zx (rq1 (Zbn _ _ q38) rqn) (Zb (Za (zg [1, 6, 16, 17, 18, 26] 1 (Zb (cn h39 (fun _ h41 => ?_) (fun _ h42 => ?_))))))
 refine Za ?_
 cases h41
 refine Ze (XO (Zb (zg [1, 16, 17, 18] 1 (Gf (WH (Za (zg [1, 16, 17, 18, 19] 1 (Zb (Za (cnd true (fun _ => (Ze (Zb (Za (Zg (Za ?_)))))) (fun b43 => Bool.noConfusion b43)))))))))))
 obtain ⟨c44, h45⟩ := Zr h42
 refine zc [1, 5, 16, 17, 18] 1 c44 (Zb (Za ?_))
 obtain ⟨r7, q46, h47⟩ := bind_some h45
 refine zr [1, 6, 16, 17, 18] 1 Zx (rq1 (Zck _ _ q46) rqn) (Zb (Za (zg [1, 6, 16, 17, 18, 26] 1 (Zb (cn h47 (fun _ h49 => ?_) (fun _ h50 => ?_))))))
 refine Za ?_
 cases h49
 refine Ze (XO (Zb (zg [1, 16, 17, 18] 1 (Gf (WH (Za (zg [1, 16, 17, 18, 19] 1 (Zb (Za (cnd true (fun _ => (Ze (Zb (Za (Zg (Za ?_)))))) (fun b51 => Bool.noConfusion b51)))))))))))
 obtain ⟨c52, h53⟩ := Zr h50
 refine zc [1, 5, 16, 17, 18] 1 c52 (Zb (Za ?_))
 obtain ⟨r8, q54, h55⟩ := bind_some h53
 refine zr [1, 6, 16, 17, 18] 1 Zx (rq1 (Rg _ _ q54) rqn) (Zb (Za (zg [1, 6, 16, 17, 18, 26] 1 (Zb (cn h55 (fun _ h57 => ?_) (fun _ h58 => ?_))))))
 refine Za ?_
 cases h57
 refine Ze (XO (Zb (zg [1, 16, 17, 18] 1 (Gf (WH (Za (zg [1, 16, 17, 18, 19] 1 (Zb (Za (cnd true (fun _ => (Ze (Zb (Za (Zg (Za ?_)))))) (fun b59 => Bool.noConfusion b59)))))))))))
 obtain ⟨c60, h61⟩ := Zr h58
 refine zc [1, 5, 16, 17, 18] 1 c60 (Zb (Za ?_))
 obtain ⟨r9, q62, h63⟩ := bind_some h61
 refine zr [1, 6, 16, 17, 18] 1 Zx (rq1 (Rh _ _ q62) rqn) (Zb (Za (zg [1, 6, 16, 17, 18, 26] 1 (Zb (cn h63 (fun _ h65 => ?_) (fun _ h66 => ?_))))))
 refine Za ?_
 cases h65
 refine Ze (XO (Zb (zg [1, 16, 17, 18] 1 (Gf (WH (Za (zg [1, 16, 17, 18, 19] 1 (Zb (Za (cnd true (fun _ => (Ze (Zb (Za (Zg (Za ?_)))))) (fun b67 => Bool.noConfusion b67)))))))))))
 obtain ⟨c68, h69⟩ := Zr h66
 refine zc [1, 5, 16, 17, 18] 1 c68 (Zb (Za ?_))
 obtain ⟨r10, q70, h71⟩ := bind_some h69
 refine zr [1, 6, 16, 17, 18] 1 Zx (rq1 (KD _ _ q70) rqn) (Zb (Za (zg [1, 6, 16, 17, 18, 26] 1 (Zb (cn h71 (fun _ h73 => ?_) (fun _ h74 => ?_))))))
 refine Za ?_
 cases h73
 refine Ze (XO (Zb (zg [1, 16, 17, 18] 1 (Gf (WH (Za (zg [1, 16, 17, 18, 19] 1 (Zb (Za (cnd true (fun _ => (Ze (Zb (Za (Zg (Za ?_)))))) (fun b75 => Bool.noConfusion b75)))))))))))
 obtain ⟨c76, h77⟩ := Zr h74
 refine zc [1, 5, 16, 17, 18] 1 c76 (Zb (Za ?_))
 obtain ⟨r11, q78, h79⟩ := bind_some h77
 refine zr [1, 6, 16, 17, 18] 1 Zx (rq1 (Gu _ _ q78) rqn) (Zb (Za (zg [1, 6, 16, 17, 18, 26] 1 (Zb (cn h79 (fun _ h81 => ?_) (fun _ h82 => ?_))))))
 refine Za ?_
 cases h81
 refine Ze (XO (Zb (zg [1, 16, 17, 18] 1 (Gf (WH (Za (zg [1, 16, 17, 18, 19] 1 (Zb (Za (cnd true (fun _ => (Ze (Zb (Za (Zg (Za ?_)))))) (fun b83 => Bool.noConfusion b83)))))))))))
 obtain ⟨c84, h85⟩ := Zr h82
 refine zc [1, 5, 16, 17, 18] 1 c84 (Zb (Za ?_))
 obtain ⟨r12, q86, h87⟩ := bind_some h85
 refine zr [1, 6, 16, 17, 18] 1 Zx (rq1 (Kh _ _ q86) rqn) (Zb (Za (zg [1, 6, 16, 17, 18, 26] 1 (Zb (cn h87 (fun _ h89 => ?_) (fun _ h90 => ?_))))))
 refine Za ?_
 cases h89
 exact Ze (XO (Zb (zg [1, 16, 17, 18] 1 (Gf (WH (Za (zg [1, 16, 17, 18, 19] 1 (Zb (Za (cnd false (fun b91 => Bool.noConfusion b91) (fun _ => (ZQ (Xh (Zkx (YF (Zb (Za (zg [2] 0 (Zb (Zi (er1 h90)))))))))))))))))))))
theorem Zbo (a0 : Zl) (b0 : Int) (r : Bool) (h : M.JG a0 b0 = some r) : Fn Tryz.prog 147 [.agg (Zj a0), .pp ((ci .u32) b0)] (.pure (.bool r)) := by
 unfold M.JG at h
 exact ZS Tryz.func147 rfl (by kernel_rfl) (Za (zg [1, 2] 1 (Zb (Za (zg [3] 0 (Zb (Zi (er1 h))))))))
theorem JX (a0 : List Zl) (a1c0 : Int) (r : Int) (h : M.ZL a0 a1c0 = some r) : Fn Tryz.prog 146 [sL 12 Zj a0, .fn 147 [.pp ((ci .u32) a1c0)]] (.pure (.int .i64 r)) := by
 unfold M.ZL at h
 refine ZS Tryz.func146 rfl (by kernel_rfl) (Za (zg [0, 1] 0 (Zb (Za (Za (zg [0, 1, 7, 8] 0 (Zb (Zg ?_))))))))
 obtain ⟨y4, q12, h13⟩ := bind_some h
 refine zl (fun (p1 : Int) => ⟨19, [(0, sL 12 Zj a0), (1, .fn 147 [.pp ((ci .u32) a1c0)]), (7, .int .i64 (a0.length : Int)), (8, .int .i64 p1)], []⟩) (Sum.elim (fun z => OutE 0 (fun z => ⟨19, [], []⟩) z) (fun z => OutR Tryz.prog Tryz.f146 (.int .i64 z))) q12 ?_ ?_
 intro p1 y2 h1
 unfold M.ZT at h1
 refine Za (zg [0, 1, 7, 8, 9] 0 (Zb (Za (cn h1 (fun _ h3 => ?_) (fun _ h4 => ?_)))))
 refine Ze (Zb (Za (Zg (Za (zg [0, 1, 5, 7, 8] 0 (Zb (Za ?_)))))))
 obtain ⟨r3, q5, h6⟩ := bind_some h3
 obtain ⟨c7, h8⟩ := Zr h6
 refine zr [0, 1, 5, 7, 8, 16] 0 c7 (rq1 (Zbo _ _ _ q5) rqn) (Zb (cn h8 (fun _ h10 => ?_) (fun _ h11 => ?_)))
 exact Za (zg [4] 0 (Zb (Zi (Z7 (Zk (rr h10 ⟨rfl, er0 _⟩))))))
 exact Ze (XO (Zb (zg [0, 1, 7, 8] 0 (rn h11))))
 exact ZQ (Xh (re h4 ⟨rfl, kq⟩))
 intro e14 s15 o16
 rcases y4 with g5 | y6
 have h17 := X8 h13
 exact zi o16 (Za (zg [4] 0 (Zb (Zi (er1 h17)))))
 have h18 := X9 h13
 obtain ⟨rfl, n20⟩ := o16
 refine Z7 (Zk ?_)
 obtain rfl := Option.some.inj h18
 exact n20
theorem ZcW (a0 : Zf) (a1 : Int) (r : Int) (h : M.Vx a0 a1 = some r) : Fn Tryz.prog 87 [.agg (Zp a0), .int .u32 a1] (.pure (.int .i64 r)) := by
 unfold M.Vx at h
 refine ZS Tryz.func87 rfl (by kernel_rfl) (Za (zg [2, 3] 2 (Zb (Za ?_))))
 obtain ⟨r1, q1, h2⟩ := bind_some h
 exact zr [4] 0 Zx (rq1 (JX _ _ _ q1) rqn) (Zb (Zi (er1 h2)))
theorem KE (a0 : Zl) (b0 : Zf) (r : Bool) (h : M.Y5 a0 b0 = some r) : Fn Tryz.prog 86 [.agg (Zj a0), .pp (Zp b0)] (.pure (.bool r)) := by
 unfold M.Y5 at h
 refine ZS Tryz.func86 rfl (by kernel_rfl) (Za (zg [1, 2] 1 (Zb (Za ?_))))
 obtain ⟨r1, q1, h2⟩ := bind_some h
 exact zr [3] 0 Zx (rq2 (fun hg => ZcW _ _ _ (XR q1 hg)) rqn) (Zb (Zi (er1 h2)))
theorem Jq (a0 : List Zl) (a1c0 : Zf) (r : Int) (h : M.ZC a0 a1c0 = some r) : Fn Tryz.prog 146 [sL 12 Zj a0, .fn 86 [.pp (Zp a1c0)]] (.pure (.int .i64 r)) := by
 unfold M.ZC at h
 refine ZS Tryz.func146 rfl (by kernel_rfl) (Za (zg [0, 1] 0 (Zb (Za (Za (zg [0, 1, 7, 8] 0 (Zb (Zg ?_))))))))
 obtain ⟨y4, q12, h13⟩ := bind_some h
 refine zl (fun (p1 : Int) => ⟨19, [(0, sL 12 Zj a0), (1, .fn 86 [.pp (Zp a1c0)]), (7, .int .i64 (a0.length : Int)), (8, .int .i64 p1)], []⟩) (Sum.elim (fun z => OutE 0 (fun z => ⟨19, [], []⟩) z) (fun z => OutR Tryz.prog Tryz.f146 (.int .i64 z))) q12 ?_ ?_
 intro p1 y2 h1
 unfold M.ZI at h1
 refine Za (zg [0, 1, 7, 8, 9] 0 (Zb (Za (cn h1 (fun _ h3 => ?_) (fun _ h4 => ?_)))))
 refine Ze (Zb (Za (Zg (Za (zg [0, 1, 5, 7, 8] 0 (Zb (Za ?_)))))))
 obtain ⟨r3, q5, h6⟩ := bind_some h3
 obtain ⟨c7, h8⟩ := Zr h6
 refine zr [0, 1, 5, 7, 8, 16] 0 c7 (rq1 (KE _ _ _ q5) rqn) (Zb (cn h8 (fun _ h10 => ?_) (fun _ h11 => ?_)))
 exact Za (zg [4] 0 (Zb (Zi (Z7 (Zk (rr h10 ⟨rfl, er0 _⟩))))))
 exact Ze (XO (Zb (zg [0, 1, 7, 8] 0 (rn h11))))
 exact ZQ (Xh (re h4 ⟨rfl, kq⟩))
 intro e14 s15 o16
 rcases y4 with g5 | y6
 have h17 := X8 h13
 exact zi o16 (Za (zg [4] 0 (Zb (Zi (er1 h17)))))
 have h18 := X9 h13
 obtain ⟨rfl, n20⟩ := o16
 refine Z7 (Zk ?_)
 obtain rfl := Option.some.inj h18
 exact n20
theorem Jk (a0 : List Zl) (a1c0 : Zf) (r : Bool) (h : M.ZA a0 a1c0 = some r) : Fn Tryz.prog 85 [sL 12 Zj a0, .fn 86 [.pp (Zp a1c0)]] (.pure (.bool r)) := by
 unfold M.ZA at h
 refine ZS Tryz.func85 rfl (by kernel_rfl) (Za (zg [0, 1] 0 (Zb (Za ?_))))
 obtain ⟨r1, q1, h2⟩ := bind_some h
 exact zr [4] 0 Zx (rq1 (Jq _ _ _ q1) rqn) (Zb (Zi (er1 h2)))
theorem Ri (a0 : Zf) (a1 : Zf) (r : Bool) (h : M.Qx a0 a1 = some r) : Fn Tryz.prog 59 [.agg (Zp a0), .agg (Zp a1)] (.pure (.bool r)) := by
 unfold M.Qx at h
 refine ZS Tryz.func59 rfl (by kernel_rfl) (Za (zg [2, 3] 2 (Zb (Za ?_))))
 obtain ⟨r1, q1, h2⟩ := bind_some h
 exact zr [4] 0 Zx (rq1 (Jk _ _ _ q1) rqn) (Zb (Zi (er1 h2)))
theorem ZeH (a0 : ZB) (r : Int) (h : M.Wr a0 = some r) : Fn Tryz.prog 37 [.agg (XH a0)] (.pure (.int .i64 r)) := by
 let u1 : Nat × D := (13, sL 25 Zp a0.Zd)
 let u3 := (a0.Zd.length : Int)
 let u5 := XH a0
 unfold M.Wr at h
 refine ZS Tryz.func37 rfl (by kernel_rfl) (Za (zg [1] 1 (Zb (Za (Za (zg [1, 11] 1 (Zb (cn h (fun _ h2 => ?_) (fun _ h3 => ?_)))))))))
 refine Za ?_
 cases h2
 refine Ze (Zb (Za (Za (zg [1, 13, 14, 15] 1 (Zb (Zg ?_))))))
 obtain ⟨y8, q34, h35⟩ := bind_some h3
 refine zl (fun (p1 : Int) => ⟨46, [(1, .ref 0 0), u1, (14, .int .i64 u3), (15, .int .i64 p1)], [.box u5]⟩) (fun z => OutE 0 (fun z => ⟨46, [], []⟩) z) q34 ?_ ?_
 intro p1 y2 h4
 let u2 : List Ob := [.box u5, .box (Zp (a0.Zd.getD p1.toNat default))]
 let u4 : Nat × D := (28, sL 25 Zp ((a0.Zd.drop 0).take (p1.toNat - 0)))
 unfold M.VE at h4
 refine Za (zg [1, 13, 14, 15, 16] 1 (Zb (Za (cn h4 (fun _ h6 => ?_) (fun _ h7 => ?_)))))
 refine Ze (Zb (Za (Zg (Za ?_))))
 obtain ⟨c8, h9⟩ := Zr h6
 refine zc [1, 3, 4, 13, 14, 15] 2 c8 (Zb (Za (Za ?_)))
 obtain ⟨r3, q10, h11⟩ := bind_some h9
 refine zr [1, 3, 4, 5, 13, 14, 15] 2 Zx (rq1 (R6 _ _ q10) rqn) (Zb (Za (zg [1, 3, 4, 5, 13, 14, 15, 23] 2 (Zb (cn h11 (fun _ h13 => ?_) (fun _ h14 => ?_))))))
 refine Za ?_
 cases h13
 refine Ze (Zb (Za ?_))
 obtain ⟨c15, h16⟩ := Zr h14
 refine rgc [1, 4, 13, 14, 15, 28, 29, 30] 2 ⟨46, [(1, .ref 0 0), (4, .ref 1 0), u1, (14, .int .i64 u3), (15, .int .i64 p1), (28, .sl false 25 (p1.toNat - 0) (fun i => Zp (a0.Zd.getD (0 + i) default))), (29, .int .i64 ((p1.toNat - 0 : Nat) : Int)), (30, .int .i64 0)], u2⟩ [decide (0 ≤ p1), decide (p1 ≤ u3)] c15 (Xo (s' := ⟨46, [(1, .ref 0 0), (4, .ref 1 0), u1, (14, .int .i64 u3), (15, .int .i64 p1), u4, (29, .int .i64 ((p1.toNat - 0 : Nat) : Int)), (30, .int .i64 0)], u2⟩) (JL (.cons Sub.rfl (.cons Sub.rfl (.cons Sub.rfl (.cons Sub.rfl (.cons Sub.rfl (.cons (Gb (ZhT _ _ _ (Zjs (c15 _ (List.mem_cons_of_mem _ List.mem_cons_self)))) (ZhS _ _ _ _)) (.cons Sub.rfl (.cons Sub.rfl .nil)))))))) (.cons .rfl (.cons .rfl .nil))) (Zg ?_))
 obtain ⟨y7, q28, h29⟩ := bind_some h16
 refine zl (fun (p4 : Int) => ⟨46, [(1, .ref 0 0), (4, .ref 1 0), u1, (14, .int .i64 u3), (15, .int .i64 p1), u4, (29, .int .i64 ((p1.toNat - 0 : Nat) : Int)), (30, .int .i64 p4)], u2⟩) (fun z => OutE 2 (fun z => ⟨46, [(1, .ref 0 0), u1, (14, .int .i64 u3), (15, .int .i64 p1)], [.box u5]⟩) z) q28 ?_ ?_
 intro p4 y5 h17
 unfold M.VD at h17
 refine Za (zg [1, 4, 13, 14, 15, 28, 29, 30, 31] 2 (Zb (Za (cn h17 (fun _ h19 => ?_) (fun _ h20 => ?_)))))
 refine Ze (Zb (Za (Zg (Za ?_))))
 obtain ⟨c21, h22⟩ := Zr h19
 refine zc [1, 4, 7, 13, 14, 15, 28, 29, 30] 3 c21 (Zb (Za ?_))
 obtain ⟨r6, q23, h24⟩ := bind_some h22
 refine zr [1, 4, 13, 14, 15, 28, 29, 30, 43] 2 Zx (rq2 (fun hg => Ri _ _ _ (XR q23 hg)) rqn) (Zb (cn h24 (fun _ h26 => ?_) (fun _ h27 => ?_)))
 refine Za ?_
 cases h26
 exact Ze (XO (Zb (zg [1, 4, 13, 14, 15, 28, 29, 30] 2 (rn h27))))
 exact ZQ (Xh (re h20 ⟨rfl, kc⟩))
 intro e30 s31 o32
 obtain ⟨rfl, l33⟩ := o32
 exact YF (XO (Xo (s' := ⟨46, [(1, .ref 0 0), u1, (14, .int .i64 u3), (15, .int .i64 p1)], [.box u5]⟩) (l33) (zg [1, 13, 14, 15] 1 (rn h29))))
 exact ZQ (Xh (re h7 ⟨rfl, kc⟩))
 intro e36 s37 o38
 exact zi o38 (Za (zg [2] 0 (Zb (Zi (er1 h35)))))
theorem ZgW : KeyT Tryz.prog 117 119 3 Z5 topoKeyEq := ⟨by kernel_rfl, ⟨_, Tryz.underlying119⟩, ⟨3, by kernel_rfl, fun _ => rfl⟩, fun _ => rfl, fun em y w => by cases em <;> kernel_rfl, fun w => by kernel_rfl, fun x y => by kernel_rfl⟩
theorem ZcX (a0 : ZB) (r : List Zh) (h : M.VU a0 = some r) : Fn Tryz.prog 38 [.agg (XH a0)] (oL 4 ZF r) := by
 let u1 : Nat × D := (14, sL 25 Zp a0.Zd)
 let u2 := (a0.Zd.length : Int)
 let u3 := XH a0
 let u4 : Nat × D := (3, .sl true 4 0 (fun _ => []))
 let u5 := List (Z8 × Int)
 let u6 : St := ⟨82, [(1, .ref 0 0), u4], [.box u3]⟩
 let u7 := List Zh
 unfold M.VU at h
 obtain ⟨y, hy, h1⟩ := bind_some h
 obtain rfl := Option.some.inj h1
 refine ZcJ Tryz.func38 rfl (by kernel_rfl) (UM ?_)
 refine Za (rg0 [1] 1 ⟨82, [(1, .ref 0 0)], [.box u3]⟩ ?_)
 refine Zb (Za (rg0 [1, 3] 1 u6 ?_))
 refine Zb (Za ?_)
 refine rgo 0 [] [1, 3] 1 u6 [] [] Zx trivial (fun u : Value => ⟨82, (12, .val u) :: [(1, .ref 0 0), u4], [.box u3] ++ [.mp u []]⟩) (ZjS rfl rfl rfl rfl rfl) [] [1, 3, 4] 2 (fun u => ⟨82, [(1, .ref 0 0), u4, (4, .val u)], [.box u3, .mp u []]⟩) (fun _ => []) (fun _ => []) (fun _ => Zx) (fun _ => trivial) (fun u => ?_)
 refine Zb (Za (Za (rg0 [3, 4, 14, 15, 16] 2 ⟨82, [u4, (4, .val u), u1, (15, .int .i64 u2), (16, .int .i64 0)], [.box u3, .mp u []]⟩ ?_)))
 refine Xo (Le.trans (s' := ⟨82, (3, .asl 2 0 0) :: [u4, (4, .val u), u1, (15, .int .i64 u2), (16, .int .i64 0)], [.box u3, .mp u []] ++ [.arr 4 0 (fun _ => [])]⟩) (KK (wd := 4) (f := fun _ => []) 3 (by kernel_rfl) _ _) (Le.trans (s' := ⟨82, [(3, .asl 2 0 0), (4, .val u), u1, (15, .int .i64 u2), (16, .int .i64 0)], [.box u3, .mp u [], .arr 4 0 (fun _ => [])]⟩) (kp [3, 4, 14, 15, 16]) (ZgO (H := [.box u3, .mp u []]) (wi := 2) (wd := 4) hdDom ZY Zh.ZU _))) ?_
 refine Zg ?_
 refine GG (Zau (f := M.JI a0) (S := fun (p : u7 × u5 × Int) (vs : Nat → Value) => ⟨82, [(3, .asl 2 0 p.1.length), (4, .val u), u1, (15, .int .i64 u2), (16, .int .i64 p.2.2)], [.box u3, mpO u Z5 p.2.1, rA 4 hdDom p.1 vs, rF 2 ZY Zh.ZU p.1 vs]⟩) (O := (fun z => OutL 0 (fun (z : List Zh) (g : (Nat → Value) × u5) => ⟨82, [(3, .asl 2 0 z.length)], [.box u3, mpO u Z5 g.2, rA 4 hdDom z g.1, rF 2 ZY Zh.ZU z g.1]⟩) z)) ?_ (g := fun _ => nilV) (x := ([], [], 0)) (y := y) (VI hy)) ?_
 · intro p1 y1 v1 h2
   unfold M.JI at h2
   refine Za (rg0 [3, 4, 14, 15, 16, 17] 4 ⟨82, [(3, .asl 2 0 p1.1.length), (4, .val u), u1, (15, .int .i64 u2), (16, .int .i64 p1.2.2), (17, .bool (decide (p1.2.2 < u2)))], [.box u3, mpO u Z5 p1.2.1, rA 4 hdDom p1.1 v1, rF 2 ZY Zh.ZU p1.1 v1]⟩ ?_)
   refine Zb (Za ?_)
   refine cnd (decide (p1.2.2 < u2)) (fun b1 => ?_) (fun b1 => ?_)
   · have h3 := UW b1 h2
     refine Ze (Zb ?_)
     refine Za (Zg (Za ?_))
     obtain ⟨c1, h4⟩ := Zr h3
     refine rgc [3, 4, 5, 6, 14, 15, 16] 5 ⟨82, [(3, .asl 2 0 p1.1.length), (4, .val u), (5, .int .i64 p1.2.2), (6, .ref 4 0), u1, (15, .int .i64 u2), (16, .int .i64 p1.2.2)], [.box u3, mpO u Z5 p1.2.1, rA 4 hdDom p1.1 v1, rF 2 ZY Zh.ZU p1.1 v1, .box (Zp (a0.Zd.getD p1.2.2.toNat default))]⟩ [decide (0 ≤ p1.2.2), decide (p1.2.2 < u2)] c1 ?_
     refine Zb (Za (rg0 [3, 4, 5, 14, 15, 16, 22, 23, 24] 4 ⟨82, [(3, .asl 2 0 p1.1.length), (4, .val u), (5, .int .i64 p1.2.2), u1, (15, .int .i64 u2), (16, .int .i64 p1.2.2), (22, sL 12 Zj (a0.Zd.getD p1.2.2.toNat default).Zc), (23, .int .i64 ((a0.Zd.getD p1.2.2.toNat default).Zc.length : Int)), (24, .int .i64 0)], [.box u3, mpO u Z5 p1.2.1, rA 4 hdDom p1.1 v1, rF 2 ZY Zh.ZU p1.1 v1]⟩ ?_))
     refine Zb (Zg ?_)
     obtain ⟨y2, hy2, h5⟩ := bind_some h4
     refine GG (Zau (f := M.JH a0 p1.2.2) (S := fun (p : u7 × u5 × Int) (vs : Nat → Value) => ⟨82, [(3, .asl 2 0 p.1.length), (4, .val u), (5, .int .i64 p1.2.2), u1, (15, .int .i64 u2), (16, .int .i64 p1.2.2), (22, sL 12 Zj (a0.Zd.getD p1.2.2.toNat default).Zc), (23, .int .i64 ((a0.Zd.getD p1.2.2.toNat default).Zc.length : Int)), (24, .int .i64 p.2.2)], [.box u3, mpO u Z5 p.2.1, rA 4 hdDom p.1 vs, rF 2 ZY Zh.ZU p.1 vs]⟩) (O := (fun z => OutL 2 (fun (z : u7 × u5) (vs : Nat → Value) => ⟨82, [(3, .asl 2 0 z.1.length), (4, .val u), u1, (15, .int .i64 u2), (16, .int .i64 p1.2.2)], [.box u3, mpO u Z5 z.2, rA 4 hdDom z.1 vs, rF 2 ZY Zh.ZU z.1 vs]⟩) z)) ?_ (g := v1) (x := (p1.1, p1.2.1, 0)) (y := y2) (VI hy2)) ?_
     · intro p2 y3 v2 h6
       unfold M.JH at h6
       refine Za (rg0 [3, 4, 5, 14, 15, 16, 22, 23, 24, 25] 4 ⟨82, [(3, .asl 2 0 p2.1.length), (4, .val u), (5, .int .i64 p1.2.2), u1, (15, .int .i64 u2), (16, .int .i64 p1.2.2), (22, sL 12 Zj (a0.Zd.getD p1.2.2.toNat default).Zc), (23, .int .i64 ((a0.Zd.getD p1.2.2.toNat default).Zc.length : Int)), (24, .int .i64 p2.2.2), (25, .bool (decide (p2.2.2 < ((a0.Zd.getD p1.2.2.toNat default).Zc.length : Int))))], [.box u3, mpO u Z5 p2.2.1, rA 4 hdDom p2.1 v2, rF 2 ZY Zh.ZU p2.1 v2]⟩ ?_)
       refine Zb (Za ?_)
       refine cnd (decide (p2.2.2 < ((a0.Zd.getD p1.2.2.toNat default).Zc.length : Int))) (fun b2 => ?_) (fun b2 => ?_)
       · have h7 := UW b2 h6
         refine Ze (Zb ?_)
         refine Za (Zg (Za ?_))
         obtain ⟨c2, h8⟩ := Zr h7
         refine rgc [3, 4, 5, 7, 8, 14, 15, 16, 22, 23, 24] 5 ⟨82, [(3, .asl 2 0 p2.1.length), (4, .val u), (5, .int .i64 p1.2.2), (7, .int .i64 p2.2.2), (8, .ref 4 0), u1, (15, .int .i64 u2), (16, .int .i64 p1.2.2), (22, sL 12 Zj (a0.Zd.getD p1.2.2.toNat default).Zc), (23, .int .i64 ((a0.Zd.getD p1.2.2.toNat default).Zc.length : Int)), (24, .int .i64 p2.2.2)], [.box u3, mpO u Z5 p2.2.1, rA 4 hdDom p2.1 v2, rF 2 ZY Zh.ZU p2.1 v2, .box (Zj ((a0.Zd.getD p1.2.2.toNat default).Zc.getD p2.2.2.toNat default))]⟩ [decide (0 ≤ p2.2.2), decide (p2.2.2 < ((a0.Zd.getD p1.2.2.toNat default).Zc.length : Int))] c2 ?_
         refine Zb (Za (Za ?_))
         refine rg0 [3, 4, 5, 7, 8, 14, 15, 16, 22, 23, 24, 35] 5 ⟨82, [(3, .asl 2 0 p2.1.length), (4, .val u), (5, .int .i64 p1.2.2), (7, .int .i64 p2.2.2), (8, .ref 4 0), u1, (15, .int .i64 u2), (16, .int .i64 p1.2.2), (22, sL 12 Zj (a0.Zd.getD p1.2.2.toNat default).Zc), (23, .int .i64 ((a0.Zd.getD p1.2.2.toNat default).Zc.length : Int)), (24, .int .i64 p2.2.2), (35, .bool ((((a0.Zd.getD p1.2.2.toNat default).Zc.getD p2.2.2.toNat default).ZW == 0) || ((a0.Zd.getD p1.2.2.toNat default).Zc.getD p2.2.2.toNat default).Qy))], [.box u3, mpO u Z5 p2.2.1, rA 4 hdDom p2.1 v2, rF 2 ZY Zh.ZU p2.1 v2, .box (Zj ((a0.Zd.getD p1.2.2.toNat default).Zc.getD p2.2.2.toNat default))]⟩ ?_
         refine Zb ?_
         refine cnd ((((a0.Zd.getD p1.2.2.toNat default).Zc.getD p2.2.2.toNat default).ZW == 0) || ((a0.Zd.getD p1.2.2.toNat default).Zc.getD p2.2.2.toNat default).Qy) (fun b3 => ?_) (fun b3 => ?_)
         · have h9 := UW b3 h8
           refine ZQ (Xh (YF ?_))
           refine Zb (rg0 [3, 4, 5, 14, 15, 16, 22, 23, 24] 4 ⟨82, [(3, .asl 2 0 p2.1.length), (4, .val u), (5, .int .i64 p1.2.2), u1, (15, .int .i64 u2), (16, .int .i64 p1.2.2), (22, sL 12 Zj (a0.Zd.getD p1.2.2.toNat default).Zc), (23, .int .i64 ((a0.Zd.getD p1.2.2.toNat default).Zc.length : Int)), (24, .int .i64 (wr .i64 (p2.2.2 + 1)))], [.box u3, mpO u Z5 p2.2.1, rA 4 hdDom p2.1 v2, rF 2 ZY Zh.ZU p2.1 v2]⟩ ?_)
           obtain rfl := Option.some.inj h9
           exact RH v2 UD
         · have h9 := UX b3 h8
           refine Ze (Zb (Za ?_))
           obtain ⟨r, hr, h10⟩ := bind_some h9
           refine rgs 8 9 [.pure (.agg (Xd r))] [3, 4, 5, 7, 9, 14, 15, 16, 22, 23, 24] 6 ⟨82, [(3, .asl 2 0 p2.1.length), (4, .val u), (5, .int .i64 p1.2.2), (7, .int .i64 p2.2.2), (9, .ref 5 0), u1, (15, .int .i64 u2), (16, .int .i64 p1.2.2), (22, sL 12 Zj (a0.Zd.getD p1.2.2.toNat default).Zc), (23, .int .i64 ((a0.Zd.getD p1.2.2.toNat default).Zc.length : Int)), (24, .int .i64 p2.2.2)], [.box u3, mpO u Z5 p2.2.1, rA 4 hdDom p2.1 v2, rF 2 ZY Zh.ZU p2.1 v2, .box (Zj ((a0.Zd.getD p1.2.2.toNat default).Zc.getD p2.2.2.toNat default)), .box (Z5 (⟨r, ((a0.Zd.getD p1.2.2.toNat default).Zc.getD p2.2.2.toNat default).XD⟩ : Z8))]⟩ [] [⟨true, 60, [.int .u32 ((a0.Zd.getD p1.2.2.toNat default).Zc.getD p2.2.2.toNat default).Zy, .int .i64 ((a0.Zd.getD p1.2.2.toNat default).Zc.getD p2.2.2.toNat default).ZW], .pure (.agg (Xd r))⟩] Zx ⟨fun _ => Gt ((a0.Zd.getD p1.2.2.toNat default).Zc.getD p2.2.2.toNat default).Zy ((a0.Zd.getD p1.2.2.toNat default).Zc.getD p2.2.2.toNat default).ZW r hr, trivial⟩ ?_
           refine Zb (Za ?_)
           refine rgo 2 [] [3, 4, 5, 7, 9, 14, 15, 16, 22, 23, 24, 45, 46] 6 ⟨82, [(3, .asl 2 0 p2.1.length), (4, .val u), (5, .int .i64 p1.2.2), (7, .int .i64 p2.2.2), (9, .ref 5 0), u1, (15, .int .i64 u2), (16, .int .i64 p1.2.2), (22, sL 12 Zj (a0.Zd.getD p1.2.2.toNat default).Zc), (23, .int .i64 ((a0.Zd.getD p1.2.2.toNat default).Zc.length : Int)), (24, .int .i64 p2.2.2), (45, .val u), (46, .agg (Z5 (⟨r, ((a0.Zd.getD p1.2.2.toNat default).Zc.getD p2.2.2.toNat default).XD⟩ : Z8)))], [.box u3, mpO u Z5 p2.2.1, rA 4 hdDom p2.1 v2, rF 2 ZY Zh.ZU p2.1 v2, .box (Zj ((a0.Zd.getD p1.2.2.toNat default).Zc.getD p2.2.2.toNat default)), .box (Z5 (⟨r, ((a0.Zd.getD p1.2.2.toNat default).Zc.getD p2.2.2.toNat default).XD⟩ : Z8))]⟩ [] [] Zx trivial (fun _ : Unit => ⟨82, (47, .tup [.int .i64 (lkM (topoKeyEq (⟨r, ((a0.Zd.getD p1.2.2.toNat default).Zc.getD p2.2.2.toNat default).XD⟩ : Z8)) p2.2.1).1, .bool (lkM (topoKeyEq (⟨r, ((a0.Zd.getD p1.2.2.toNat default).Zc.getD p2.2.2.toNat default).XD⟩ : Z8)) p2.2.1).2]) :: [(3, .asl 2 0 p2.1.length), (4, .val u), (5, .int .i64 p1.2.2), (7, .int .i64 p2.2.2), (9, .ref 5 0), u1, (15, .int .i64 u2), (16, .int .i64 p1.2.2), (22, sL 12 Zj (a0.Zd.getD p1.2.2.toNat default).Zc), (23, .int .i64 ((a0.Zd.getD p1.2.2.toNat default).Zc.length : Int)), (24, .int .i64 p2.2.2), (45, .val u), (46, .agg (Z5 (⟨r, ((a0.Zd.getD p1.2.2.toNat default).Zc.getD p2.2.2.toNat default).XD⟩ : Z8)))], [.box u3, mpO u Z5 p2.2.1, rA 4 hdDom p2.1 v2, rF 2 ZY Zh.ZU p2.1 v2, .box (Zj ((a0.Zd.getD p1.2.2.toNat default).Zc.getD p2.2.2.toNat default)), .box (Z5 (⟨r, ((a0.Zd.getD p1.2.2.toNat default).Zc.getD p2.2.2.toNat default).XD⟩ : Z8))]⟩) (ZjU (id := 1) ZgW (⟨r, ((a0.Zd.getD p1.2.2.toNat default).Zc.getD p2.2.2.toNat default).XD⟩ : Z8) rfl rfl rfl rfl rfl rfl rfl rfl) [] [3, 4, 5, 7, 9, 10, 11, 14, 15, 16, 22, 23, 24] 6 (fun _ => ⟨82, [(3, .asl 2 0 p2.1.length), (4, .val u), (5, .int .i64 p1.2.2), (7, .int .i64 p2.2.2), (9, .ref 5 0), (10, .int .i64 (lkM (topoKeyEq (⟨r, ((a0.Zd.getD p1.2.2.toNat default).Zc.getD p2.2.2.toNat default).XD⟩ : Z8)) p2.2.1).1), (11, .bool (lkM (topoKeyEq (⟨r, ((a0.Zd.getD p1.2.2.toNat default).Zc.getD p2.2.2.toNat default).XD⟩ : Z8)) p2.2.1).2), u1, (15, .int .i64 u2), (16, .int .i64 p1.2.2), (22, sL 12 Zj (a0.Zd.getD p1.2.2.toNat default).Zc), (23, .int .i64 ((a0.Zd.getD p1.2.2.toNat default).Zc.length : Int)), (24, .int .i64 p2.2.2)], [.box u3, mpO u Z5 p2.2.1, rA 4 hdDom p2.1 v2, rF 2 ZY Zh.ZU p2.1 v2, .box (Zj ((a0.Zd.getD p1.2.2.toNat default).Zc.getD p2.2.2.toNat default)), .box (Z5 (⟨r, ((a0.Zd.getD p1.2.2.toNat default).Zc.getD p2.2.2.toNat default).XD⟩ : Z8))]⟩) (fun _ => []) (fun _ => []) (fun _ => Zx) (fun _ => trivial) (fun _ => ?_)
           refine Zb ?_
           refine V7 (fun (q : u7 × u5 × Int × (Nat → Value)) => ⟨82, [(3, .asl 2 0 q.1.length), (4, .val u), (5, .int .i64 p1.2.2), (7, .int .i64 p2.2.2), (10, .int .i64 q.2.2.1), u1, (15, .int .i64 u2), (16, .int .i64 p1.2.2), (22, sL 12 Zj (a0.Zd.getD p1.2.2.toNat default).Zc), (23, .int .i64 ((a0.Zd.getD p1.2.2.toNat default).Zc.length : Int)), (24, .int .i64 p2.2.2)], [.box u3, mpO u Z5 q.2.1, rA 4 hdDom q.1 q.2.2.2, rF 2 ZY Zh.ZU q.1 q.2.2.2]⟩) (fun q => M.Q4 p1.2.2 p2 (q.1, q.2.1, q.2.2.1) = some y3) ?_ ?_
           · intro q h11
             unfold M.Q4 at h11
             obtain ⟨c4, h12⟩ := Zr h11
             have g1 : 0 ≤ q.2.2.1 := of_decide_eq_true (c4 _ (by simp only [List.mem_cons, true_or]))
             have g2 : q.2.2.1 < (q.1.length : Int) := of_decide_eq_true (c4 _ (by simp only [List.mem_cons, true_or, or_true]))
             have g3 : ((q.1.getD (0 + q.2.2.1.toNat) default).ZU.length + 1) * 16 ≤ 140737488355328 := of_decide_eq_true (c4 _ (by simp only [List.mem_cons, true_or, or_true]))
             refine Wk (ZjD (idf := 3) (0 + q.2.2.1.toNat) rfl) ?_
             refine rgxe 12 [] [3, 4, 5, 14, 15, 16, 22, 23, 24, 65, 66, 76] 5 ⟨82, [(3, .asl 2 0 q.1.length), (4, .val u), (5, .int .i64 p1.2.2), u1, (15, .int .i64 u2), (16, .int .i64 p1.2.2), (22, sL 12 Zj (a0.Zd.getD p1.2.2.toNat default).Zc), (23, .int .i64 ((a0.Zd.getD p1.2.2.toNat default).Zc.length : Int)), (24, .int .i64 p2.2.2), (65, .asl 2 0 q.1.length), (66, .int .i64 q.2.2.1), (76, .asl 4 0 ((q.1.getD (0 + q.2.2.1.toNat) default).ZU.length + 1))], [.box u3, mpO u Z5 q.2.1, rA 4 hdDom q.1 q.2.2.2, .fam (0 + q.2.2.1.toNat) (fun _ => false) q.1.length 2 (updV q.2.2.2 (0 + q.2.2.1.toNat) nilV) (updL (rls ZY Zh.ZU q.1) (0 + q.2.2.1.toNat) (0, fun _ => [])), .arr 2 ((q.1.getD (0 + q.2.2.1.toNat) default).ZU.length + 1) (app (rls ZY Zh.ZU q.1 (0 + q.2.2.1.toNat)).2 (rls ZY Zh.ZU q.1 (0 + q.2.2.1.toNat)).1 (fun i => List.take 2 (List.drop (i * 2) [.int .i64 p1.2.2, .int .i64 p2.2.2])))]⟩ [decide (0 ≤ q.2.2.1), decide (q.2.2.1 < (q.1.length : Int)), pB (q.2.2.2 (0 + q.2.2.1.toNat) = q.2.2.2 (0 + q.2.2.1.toNat)), decide ((0 + q.2.2.1.toNat) < q.1.length), decide (((q.1.getD (0 + q.2.2.1.toNat) default).ZU.length + 1) * 16 ≤ 140737488355328)] [] ?_ trivial _ (ZhX (idf := 3) 76 (0 + q.2.2.1.toNat) rfl rfl rfl ?_ rfl) [] [3, 4, 5, 14, 15, 16, 22, 23, 24] 4 (fun w => ⟨82, [(3, .asl 2 0 q.1.length), (4, .val u), (5, .int .i64 p1.2.2), u1, (15, .int .i64 u2), (16, .int .i64 p1.2.2), (22, sL 12 Zj (a0.Zd.getD p1.2.2.toNat default).Zc), (23, .int .i64 ((a0.Zd.getD p1.2.2.toNat default).Zc.length : Int)), (24, .int .i64 p2.2.2)], [.box u3, mpO u Z5 q.2.1, .arr 4 q.1.length (fun j => bif Nat.beq j (0 + q.2.2.1.toNat) then splice (hdDom (q.1.getD (0 + q.2.2.1.toNat) default) ++ [.val (q.2.2.2 (0 + q.2.2.1.toNat))]) [.val w] 3 else hdDom (q.1.getD j default) ++ [.val (q.2.2.2 j)]), .fam 0 (fun _ => false) q.1.length 2 (updV (updV q.2.2.2 (0 + q.2.2.1.toNat) nilV) (0 + q.2.2.1.toNat) w) (updL (updL (rls ZY Zh.ZU q.1) (0 + q.2.2.1.toNat) (0, fun _ => [])) (0 + q.2.2.1.toNat) ((q.1.getD (0 + q.2.2.1.toNat) default).ZU.length + 1, (app (rls ZY Zh.ZU q.1 (0 + q.2.2.1.toNat)).2 (rls ZY Zh.ZU q.1 (0 + q.2.2.1.toNat)).1 (fun i => List.take 2 (List.drop (i * 2) [.int .i64 p1.2.2, .int .i64 p2.2.2])))))]⟩) (fun _ => [decide (0 ≤ q.2.2.1), decide (q.2.2.1 < (q.1.length : Int))]) (fun _ => []) ?_ (fun _ => trivial) (fun w => ?_)
             · exact am (decide_eq_true g1) (am (decide_eq_true g2) (am (ZjC rfl) (am (decide_eq_true (by omega)) (am (decide_eq_true g3) Zx))))
             · rw [WG]; rfl
             · exact fun _ => am (decide_eq_true g1) (am (decide_eq_true g2) Zx)
             refine XO ?_
             refine Xo (s' := ⟨82, [(3, .asl 2 0 (q.1.set (0 + q.2.2.1.toNat) (⟨(q.1.getD (0 + q.2.2.1.toNat) default).Zo, (q.1.getD (0 + q.2.2.1.toNat) default).XD, (q.1.getD (0 + q.2.2.1.toNat) default).ZU ++ [(⟨p1.2.2, p2.2.2⟩ : Qo)]⟩ : Zh)).length), (4, .val u), (5, .int .i64 p1.2.2), (14, sL 25 Zp a0.Zd), (15, .int .i64 (a0.Zd.length : Int)), (16, .int .i64 p1.2.2), (22, sL 12 Zj (a0.Zd.getD p1.2.2.toNat default).Zc), (23, .int .i64 ((a0.Zd.getD p1.2.2.toNat default).Zc.length : Int)), (24, .int .i64 p2.2.2)], [.box (XH a0), mpO u Z5 q.2.1, rA 4 hdDom (q.1.set (0 + q.2.2.1.toNat) (⟨(q.1.getD (0 + q.2.2.1.toNat) default).Zo, (q.1.getD (0 + q.2.2.1.toNat) default).XD, (q.1.getD (0 + q.2.2.1.toNat) default).ZU ++ [(⟨p1.2.2, p2.2.2⟩ : Qo)]⟩ : Zh)) (updV q.2.2.2 (0 + q.2.2.1.toNat) w), rF 2 ZY Zh.ZU (q.1.set (0 + q.2.2.1.toNat) (⟨(q.1.getD (0 + q.2.2.1.toNat) default).Zo, (q.1.getD (0 + q.2.2.1.toNat) default).XD, (q.1.getD (0 + q.2.2.1.toNat) default).ZU ++ [(⟨p1.2.2, p2.2.2⟩ : Qo)]⟩ : Zh)) (updV q.2.2.2 (0 + q.2.2.1.toNat) w)]⟩) (Le.trans (Zh0 2 3 hdDom ZY Zh.ZU q.1 (⟨(q.1.getD (0 + q.2.2.1.toNat) default).Zo, (q.1.getD (0 + q.2.2.1.toNat) default).XD, (q.1.getD (0 + q.2.2.1.toNat) default).ZU ++ [(⟨p1.2.2, p2.2.2⟩ : Qo)]⟩ : Zh) q.2.2.2 (0 + q.2.2.1.toNat) w ((q.1.getD (0 + q.2.2.1.toNat) default).ZU.length + 1) (app (rls ZY Zh.ZU q.1 (0 + q.2.2.1.toNat)).2 (rls ZY Zh.ZU q.1 (0 + q.2.2.1.toNat)).1 (fun i => List.take 2 (List.drop (i * 2) [.int .i64 p1.2.2, .int .i64 p2.2.2]))) _ _ _ (by decide) rfl rfl (fun j _ hj => by rw [Zbd hj]; rfl) (fun _ => by rw [Nat.beq_refl]; rfl) (fun j hj => UU hj) (fun j hj => Zaq hj) (by simp) (fun i hi => RE ZY (q.1.getD (0 + q.2.2.1.toNat) default).ZU (⟨p1.2.2, p2.2.2⟩ : Qo) (fun i => List.take 2 (List.drop (i * 2) [.int .i64 p1.2.2, .int .i64 p2.2.2])) rfl i hi)) (JL (.cons (Wo (by simp)) (.cons Sub.rfl (.cons Sub.rfl (.cons Sub.rfl (.cons Sub.rfl (.cons Sub.rfl (.cons Sub.rfl (.cons Sub.rfl (.cons Sub.rfl .nil))))))))) HSub.rfl)) ?_
             refine rg0 [3, 4, 5, 14, 15, 16, 22, 23, 24] 4 ⟨82, [(3, .asl 2 0 (q.1.set (0 + q.2.2.1.toNat) (⟨(q.1.getD (0 + q.2.2.1.toNat) default).Zo, (q.1.getD (0 + q.2.2.1.toNat) default).XD, (q.1.getD (0 + q.2.2.1.toNat) default).ZU ++ [(⟨p1.2.2, p2.2.2⟩ : Qo)]⟩ : Zh)).length), (4, .val u), (5, .int .i64 p1.2.2), u1, (15, .int .i64 u2), (16, .int .i64 p1.2.2), (22, sL 12 Zj (a0.Zd.getD p1.2.2.toNat default).Zc), (23, .int .i64 ((a0.Zd.getD p1.2.2.toNat default).Zc.length : Int)), (24, .int .i64 (wr .i64 (p2.2.2 + 1)))], [.box u3, mpO u Z5 q.2.1, rA 4 hdDom (q.1.set (0 + q.2.2.1.toNat) (⟨(q.1.getD (0 + q.2.2.1.toNat) default).Zo, (q.1.getD (0 + q.2.2.1.toNat) default).XD, (q.1.getD (0 + q.2.2.1.toNat) default).ZU ++ [(⟨p1.2.2, p2.2.2⟩ : Qo)]⟩ : Zh)) (updV q.2.2.2 (0 + q.2.2.1.toNat) w), rF 2 ZY Zh.ZU (q.1.set (0 + q.2.2.1.toNat) (⟨(q.1.getD (0 + q.2.2.1.toNat) default).Zo, (q.1.getD (0 + q.2.2.1.toNat) default).XD, (q.1.getD (0 + q.2.2.1.toNat) default).ZU ++ [(⟨p1.2.2, p2.2.2⟩ : Qo)]⟩ : Zh)) (updV q.2.2.2 (0 + q.2.2.1.toNat) w)]⟩ ?_
             obtain rfl := Option.some.inj h12
             exact RH (updV q.2.2.2 (0 + q.2.2.1.toNat) w) UD
           · intro hk
             refine Za (rg0 [3, 4, 5, 7, 9, 10, 14, 15, 16, 22, 23, 24, 51] 6 ⟨82, [(3, .asl 2 0 p2.1.length), (4, .val u), (5, .int .i64 p1.2.2), (7, .int .i64 p2.2.2), (9, .ref 5 0), (10, .int .i64 (lkM (topoKeyEq (⟨r, ((a0.Zd.getD p1.2.2.toNat default).Zc.getD p2.2.2.toNat default).XD⟩ : Z8)) p2.2.1).1), u1, (15, .int .i64 u2), (16, .int .i64 p1.2.2), (22, sL 12 Zj (a0.Zd.getD p1.2.2.toNat default).Zc), (23, .int .i64 ((a0.Zd.getD p1.2.2.toNat default).Zc.length : Int)), (24, .int .i64 p2.2.2), (51, .bool (!(lkM (topoKeyEq (⟨r, ((a0.Zd.getD p1.2.2.toNat default).Zc.getD p2.2.2.toNat default).XD⟩ : Z8)) p2.2.1).2))], [.box u3, mpO u Z5 p2.2.1, rA 4 hdDom p2.1 v2, rF 2 ZY Zh.ZU p2.1 v2, .box (Zj ((a0.Zd.getD p1.2.2.toNat default).Zc.getD p2.2.2.toNat default)), .box (Z5 (⟨r, ((a0.Zd.getD p1.2.2.toNat default).Zc.getD p2.2.2.toNat default).XD⟩ : Z8))]⟩ ?_)
             refine Zb ?_
             refine cnd (!(lkM (topoKeyEq (⟨r, ((a0.Zd.getD p1.2.2.toNat default).Zc.getD p2.2.2.toNat default).XD⟩ : Z8)) p2.2.1).2) (fun b4 => ?_) (fun b4 => ?_)
             · have h11 := UW b4 h10
               obtain ⟨c4, h12⟩ := Zr h11
               refine Za (rg0 [3, 4, 5, 7, 9, 10, 14, 15, 16, 22, 23, 24] 6 ⟨82, [(3, .asl 2 0 p2.1.length), (4, .val u), (5, .int .i64 p1.2.2), (7, .int .i64 p2.2.2), (9, .ref 5 0), (10, .int .i64 (p2.1.length : Int)), u1, (15, .int .i64 u2), (16, .int .i64 p1.2.2), (22, sL 12 Zj (a0.Zd.getD p1.2.2.toNat default).Zc), (23, .int .i64 ((a0.Zd.getD p1.2.2.toNat default).Zc.length : Int)), (24, .int .i64 p2.2.2)], [.box u3, mpO u Z5 p2.2.1, rA 4 hdDom p2.1 v2, rF 2 ZY Zh.ZU p2.1 v2, .box (Zj ((a0.Zd.getD p1.2.2.toNat default).Zc.getD p2.2.2.toNat default)), .box (Z5 (⟨r, ((a0.Zd.getD p1.2.2.toNat default).Zc.getD p2.2.2.toNat default).XD⟩ : Z8))]⟩ ?_)
               refine Zb (Za ?_)
               refine rgo 3 [] [3, 4, 5, 7, 9, 10, 14, 15, 16, 22, 23, 24, 54, 55, 56] 6 ⟨82, [(3, .asl 2 0 p2.1.length), (4, .val u), (5, .int .i64 p1.2.2), (7, .int .i64 p2.2.2), (9, .ref 5 0), (10, .int .i64 (p2.1.length : Int)), (14, sL 25 Zp a0.Zd), (15, .int .i64 (a0.Zd.length : Int)), (16, .int .i64 p1.2.2), (22, sL 12 Zj (a0.Zd.getD p1.2.2.toNat default).Zc), (23, .int .i64 ((a0.Zd.getD p1.2.2.toNat default).Zc.length : Int)), (24, .int .i64 p2.2.2), (54, .val u), (55, .agg (Z5 (⟨r, ((a0.Zd.getD p1.2.2.toNat default).Zc.getD p2.2.2.toNat default).XD⟩ : Z8))), (56, .int .i64 (p2.1.length : Int))], [.box (XH a0), mpO u Z5 p2.2.1, rA 4 hdDom p2.1 v2, rF 2 ZY Zh.ZU p2.1 v2, .box (Zj ((a0.Zd.getD p1.2.2.toNat default).Zc.getD p2.2.2.toNat default)), .box (Z5 (⟨r, ((a0.Zd.getD p1.2.2.toNat default).Zc.getD p2.2.2.toNat default).XD⟩ : Z8))]⟩ [] [] Zx trivial (fun _ : Unit => ⟨82, [(3, .asl 2 0 p2.1.length), (4, .val u), (5, .int .i64 p1.2.2), (7, .int .i64 p2.2.2), (9, .ref 5 0), (10, .int .i64 (p2.1.length : Int)), (14, sL 25 Zp a0.Zd), (15, .int .i64 (a0.Zd.length : Int)), (16, .int .i64 p1.2.2), (22, sL 12 Zj (a0.Zd.getD p1.2.2.toNat default).Zc), (23, .int .i64 ((a0.Zd.getD p1.2.2.toNat default).Zc.length : Int)), (24, .int .i64 p2.2.2), (54, .val u), (55, .agg (Z5 (⟨r, ((a0.Zd.getD p1.2.2.toNat default).Zc.getD p2.2.2.toNat default).XD⟩ : Z8))), (56, .int .i64 (p2.1.length : Int))], [.box (XH a0), mpO u Z5 (p2.2.1 ++ [((⟨r, ((a0.Zd.getD p1.2.2.toNat default).Zc.getD p2.2.2.toNat default).XD⟩ : Z8), (p2.1.length : Int))]), rA 4 hdDom p2.1 v2, rF 2 ZY Zh.ZU p2.1 v2, .box (Zj ((a0.Zd.getD p1.2.2.toNat default).Zc.getD p2.2.2.toNat default)), .box (Z5 (⟨r, ((a0.Zd.getD p1.2.2.toNat default).Zc.getD p2.2.2.toNat default).XD⟩ : Z8))]⟩) (ZkR (id := 1) ZgW (⟨r, ((a0.Zd.getD p1.2.2.toNat default).Zc.getD p2.2.2.toNat default).XD⟩ : Z8) (p2.1.length : Int) rfl rfl rfl rfl rfl rfl rfl rfl (by simpa using b4)) [] [3, 4, 5, 7, 9, 10, 14, 15, 16, 22, 23, 24] 6 (fun _ => ⟨82, [(3, .asl 2 0 p2.1.length), (4, .val u), (5, .int .i64 p1.2.2), (7, .int .i64 p2.2.2), (9, .ref 5 0), (10, .int .i64 (p2.1.length : Int)), (14, sL 25 Zp a0.Zd), (15, .int .i64 (a0.Zd.length : Int)), (16, .int .i64 p1.2.2), (22, sL 12 Zj (a0.Zd.getD p1.2.2.toNat default).Zc), (23, .int .i64 ((a0.Zd.getD p1.2.2.toNat default).Zc.length : Int)), (24, .int .i64 p2.2.2)], [.box (XH a0), mpO u Z5 (p2.2.1 ++ [((⟨r, ((a0.Zd.getD p1.2.2.toNat default).Zc.getD p2.2.2.toNat default).XD⟩ : Z8), (p2.1.length : Int))]), rA 4 hdDom p2.1 v2, rF 2 ZY Zh.ZU p2.1 v2, .box (Zj ((a0.Zd.getD p1.2.2.toNat default).Zc.getD p2.2.2.toNat default)), .box (Z5 (⟨r, ((a0.Zd.getD p1.2.2.toNat default).Zc.getD p2.2.2.toNat default).XD⟩ : Z8))]⟩) (fun _ => []) (fun _ => []) (fun _ => Zx) (fun _ => trivial) (fun _ => ?_)
               refine Zb ?_
               refine rgc [3, 4, 5, 7, 10, 14, 15, 16, 22, 23, 24] 4 ⟨82, [(3, .asl 2 0 (p2.1.length + 1)), (4, .val u), (5, .int .i64 p1.2.2), (7, .int .i64 p2.2.2), (10, .int .i64 (p2.1.length : Int)), u1, (15, .int .i64 u2), (16, .int .i64 p1.2.2), (22, sL 12 Zj (a0.Zd.getD p1.2.2.toNat default).Zc), (23, .int .i64 ((a0.Zd.getD p1.2.2.toNat default).Zc.length : Int)), (24, .int .i64 p2.2.2)], [.box u3, mpO u Z5 (p2.2.1 ++ [((⟨r, ((a0.Zd.getD p1.2.2.toNat default).Zc.getD p2.2.2.toNat default).XD⟩ : Z8), (p2.1.length : Int))]), .arr 4 (p2.1.length + 1) (app (fun j => hdDom (p2.1.getD j default) ++ [.val (v2 j)]) p2.1.length (fun i => List.take 4 (List.drop (i * 4) [.int .u32 r.Zy, .int .i64 r.ZW, .int .i64 ((a0.Zd.getD p1.2.2.toNat default).Zc.getD p2.2.2.toNat default).XD, .sl true 2 0 (fun _ => [])]))), rF 2 ZY Zh.ZU p2.1 v2]⟩ [decide ((p2.1.length + 1) * 48 ≤ 140737488355328)] c4 ?_
               refine Ks (Ziy 2 3 hdDom ZY Zh.ZU p2.1 (⟨r, ((a0.Zd.getD p1.2.2.toNat default).Zc.getD p2.2.2.toNat default).XD, []⟩ : Zh) v2 (by decide) rfl rfl rfl (fun j hj => ZdU hj) (ZjW.trans rfl)) fun w => ?_
               exact Wk (JL (.cons (Wo (by simp)) (.cons Sub.rfl (.cons Sub.rfl (.cons Sub.rfl (.cons Sub.rfl (.cons Sub.rfl (.cons Sub.rfl (.cons Sub.rfl (.cons Sub.rfl (.cons Sub.rfl (.cons Sub.rfl .nil))))))))))) HSub.rfl) (hk (p2.1 ++ [(⟨r, ((a0.Zd.getD p1.2.2.toNat default).Zc.getD p2.2.2.toNat default).XD, []⟩ : Zh)], (p2.2.1 ++ [((⟨r, ((a0.Zd.getD p1.2.2.toNat default).Zc.getD p2.2.2.toNat default).XD⟩ : Z8), (p2.1.length : Int))]), (p2.1.length : Int), updV v2 p2.1.length w.1) h12)
             · have h11 := UX b4 h10
               refine Ze ?_
               exact Xo (Le.trans (s' := ⟨82, [(3, .asl 2 0 p2.1.length), (4, .val u), (5, .int .i64 p1.2.2), (7, .int .i64 p2.2.2), (10, .int .i64 (lkM (topoKeyEq (⟨r, ((a0.Zd.getD p1.2.2.toNat default).Zc.getD p2.2.2.toNat default).XD⟩ : Z8)) p2.2.1).1), u1, (15, .int .i64 u2), (16, .int .i64 p1.2.2), (22, sL 12 Zj (a0.Zd.getD p1.2.2.toNat default).Zc), (23, .int .i64 ((a0.Zd.getD p1.2.2.toNat default).Zc.length : Int)), (24, .int .i64 p2.2.2)], [.box u3, mpO u Z5 p2.2.1, rA 4 hdDom p2.1 v2, rF 2 ZY Zh.ZU p2.1 v2, .box (Zj ((a0.Zd.getD p1.2.2.toNat default).Zc.getD p2.2.2.toNat default)), .box (Z5 (⟨r, ((a0.Zd.getD p1.2.2.toNat default).Zc.getD p2.2.2.toNat default).XD⟩ : Z8))]⟩) (kp [3, 4, 5, 7, 10, 14, 15, 16, 22, 23, 24]) (Um (n := 4) (by kernel_rfl))) (hk (p2.1, p2.2.1, (lkM (topoKeyEq (⟨r, ((a0.Zd.getD p1.2.2.toNat default).Zc.getD p2.2.2.toNat default).XD⟩ : Z8)) p2.2.1).1, v2) h11)
       · have h7 := UX b2 h6
         refine ZQ (Xh ?_)
         obtain rfl := Option.some.inj h7
         exact ZbV ⟨rfl, LeE.of v2 (kp [3, 4, 14, 15, 16])⟩
     · intro e s o
       obtain ⟨rfl, l⟩ := o
       refine YF (XO ?_)
       refine Ks l fun v2 => ?_
       refine rg0 [3, 4, 14, 15, 16] 4 ⟨82, [(3, .asl 2 0 y2.1.length), (4, .val u), u1, (15, .int .i64 u2), (16, .int .i64 (wr .i64 (p1.2.2 + 1)))], [.box u3, mpO u Z5 y2.2, rA 4 hdDom y2.1 v2, rF 2 ZY Zh.ZU y2.1 v2]⟩ ?_
       obtain rfl := Option.some.inj h5
       exact RH v2 UD
   · have h3 := UX b1 h2
     refine ZQ (Xh ?_)
     obtain rfl := Option.some.inj h3
     exact ZbV ⟨rfl, LeE.of (v1, p1.2.1) (kp [3])⟩
 · intro e s o
   obtain ⟨rfl, l⟩ := o
   refine YF ?_
   refine Ks l fun g => ?_
   refine Za (rg0 [2] 4 ⟨82, [(2, .asl 2 0 y.length)], [.box u3, mpO u Z5 g.2, rA 4 hdDom y g.1, rF 2 ZY Zh.ZU y g.1]⟩ ?_)
   refine Zb (Zi ?_)
   exact ⟨_, Zh1 2 3 hdDom ZY Zh.ZU ZF y g.1 rfl rfl (fun _ => rfl), .inr rfl, 2, 2, _, rfl, rfl, rfl, fun _ _ => rfl⟩
theorem Gy (a0 : Int) (r : Bool) (h : M.YB a0 = some r) : Fn Tryz.prog 100 [.int .u32 a0] (.pure (.bool r)) := by
 unfold M.YB at h
 exact ZS Tryz.func100 rfl (by kernel_rfl) (Za (zg [0] 0 (Zb (Za (zg [2] 0 (Zb (Zi (er1 h))))))))
theorem Rj (a0 : Int) (a1 : Int) (r : Int) (h : M.YI a0 a1 = some r) : Fn Tryz.prog 63 [.int .u32 a0, .int .u32 a1] (.pure (.int .i64 r)) := by
 unfold M.YI at h
 refine ZS Tryz.func63 rfl (by kernel_rfl) (Za (zg [0, 1] 0 (Zb (Za ?_))))
 obtain ⟨r1, q1, h2⟩ := bind_some h
 refine zr [0, 1, 5] 0 Zx (rq1 (Gy _ _ q1) rqn) (Zb (Za ?_))
 obtain ⟨r2, q3, h4⟩ := bind_some h2
 refine zr [0, 1, 5, 6] 0 Zx (rq1 (Gy _ _ q3) rqn) (Zb (Za (Za (zg [0, 1, 6, 11] 0 (Zb (cn h4 (fun _ h6 => ?_) (fun _ h7 => ?_)))))))
 refine Za (Za (zg [12] 0 (Zb (cn h6 (fun _ h9 => ?_) (fun _ h10 => ?_)))))
 exact Za (zg [4] 0 (Zb (Zi (Zk (Zk (er1 h9))))))
 exact Ze (Zb (Za (zg [4] 0 (Zb (Zi (Zk (er1 h10)))))))
 refine Ze (Zb (Za (Za (zg [0, 1, 13] 0 (Zb (cn h7 (fun _ h12 => ?_) (fun _ h13 => ?_)))))))
 exact Za (zg [4] 0 (Zb (Zi (Zk (er1 h12)))))
 refine Ze (Zb (Za (Za (zg [0, 1, 16] 0 (Zb (cn h13 (fun _ h15 => ?_) (fun _ h16 => ?_)))))))
 exact Za (zg [4] 0 (Zb (Zi (Zk (er1 h15)))))
 refine Ze (Zb (Za (Za (zg [19] 0 (Zb (cn h16 (fun _ h18 => ?_) (fun _ h19 => ?_)))))))
 exact Za (zg [4] 0 (Zb (Zi (Zk (er1 h18)))))
 exact Ze (Zb (Za (zg [4] 0 (Zb (Zi (er1 h19))))))
theorem KF (a0 : Int) (r : Bool) (h : M.QH a0 = some r) : Fn Tryz.prog 64 [.int .i64 a0] (.pure (.bool r)) := by
 unfold M.QH at h
 exact ZS Tryz.func64 rfl (by kernel_rfl) (Za (zg [0] 0 (Zb (Za (zg [2] 0 (Zb (Zi (er1 h))))))))
theorem GO (a0 : Int) (a1 : Int) (r : Int) (h : M.YP a0 a1 = some r) : Fn Tryz.prog 43 [.int .i64 a0, .int .i64 a1] (.pure (.int .i64 r)) := by
 unfold M.YP at h
 refine ZS Tryz.func43 rfl (by kernel_rfl) (Za (zg [0, 1] 0 (Zb (Za ?_))))
 obtain ⟨r1, q1, h2⟩ := bind_some h
 refine zr [0, 1, 5] 0 Zx (rq1 (KF _ _ q1) rqn) (Zb (Za ?_))
 obtain ⟨r2, q3, h4⟩ := bind_some h2
 refine zr [0, 1, 5, 6] 0 Zx (rq1 (KF _ _ q3) rqn) (Zb (Za (Za (zg [0, 1, 6, 11] 0 (Zb (cn h4 (fun _ h6 => ?_) (fun _ h7 => ?_)))))))
 refine Za (Za (zg [12] 0 (Zb (cn h6 (fun _ h9 => ?_) (fun _ h10 => ?_)))))
 exact Za (zg [4] 0 (Zb (Zi (Zk (Zk (er1 h9))))))
 exact Ze (Zb (Za (zg [4] 0 (Zb (Zi (Zk (er1 h10)))))))
 refine Ze (Zb (Za (Za (zg [0, 1, 13] 0 (Zb (cn h7 (fun _ h12 => ?_) (fun _ h13 => ?_)))))))
 exact Za (zg [4] 0 (Zb (Zi (Zk (er1 h12)))))
 refine Ze (Zb (Za (Za (zg [0, 1, 16] 0 (Zb (cn h13 (fun _ h15 => ?_) (fun _ h16 => ?_)))))))
 exact Za (zg [4] 0 (Zb (Zi (Zk (er1 h15)))))
 refine Ze (Zb (Za (Za (zg [19] 0 (Zb (cn h16 (fun _ h18 => ?_) (fun _ h19 => ?_)))))))
 exact Za (zg [4] 0 (Zb (Zi (Zk (er1 h18)))))
 exact Ze (Zb (Za (zg [4] 0 (Zb (Zi (er1 h19))))))
theorem Zdu (a0 : ZZ) (a1 : ZZ) (r : Int) (h : M.Vb a0 a1 = some r) : Fn Tryz.prog 42 [.agg (Xd a0), .agg (Xd a1)] (.pure (.int .i64 r)) := by
 unfold M.Vb at h
 refine ZS Tryz.func42 rfl (by kernel_rfl) (Za (zg [2, 3] 2 (Zb (Za (Za ?_)))))
 obtain ⟨r1, q1, h2⟩ := bind_some h
 refine zr [2, 3, 5] 2 Zx (rq1 (Rj _ _ _ q1) rqn) (Zb (Za (zg [2, 3, 5, 12] 2 (Zb (cn h2 (fun _ h4 => ?_) (fun _ h5 => ?_))))))
 exact Za (zg [4] 0 (Zb (Zi (Zk (er1 h4)))))
 refine Ze (Zb (Za ?_))
 obtain ⟨r2, q6, h7⟩ := bind_some h5
 exact zr [4] 0 Zx (rq1 (GO _ _ _ q6) rqn) (Zb (Zi (er1 h7)))
theorem Ze3 (a0 : List Int) (r : Int) (h : M.Wi a0 = some r) : Fn Tryz.prog 41 [sL 1 (ci .i64) a0] (.pure (.int .i64 r)) := by
 unfold M.Wi at h
 refine ZS Tryz.func41 rfl (by kernel_rfl) (Za (zg [0] 0 (Zb (Za (zg [0, 3] 0 (Zb (Za (Za (zg [3, 6, 7, 8] 0 (Zb (Zg ?_)))))))))))
 obtain ⟨y3, q10, h11⟩ := bind_some h
 refine zl (fun (p1 : Int) => ⟨18, [(3, .int .i64 0), (6, sL 1 (ci .i64) a0), (7, .int .i64 (a0.length : Int)), (8, .int .i64 p1)], []⟩) (Sum.elim (fun z => OutE 0 (fun z => ⟨18, [(3, .int .i64 0)], []⟩) z) (fun z => OutR Tryz.prog Tryz.f41 (.int .i64 z))) q10 ?_ ?_
 intro p1 y2 h1
 unfold M.Qn at h1
 refine Za (zg [3, 6, 7, 8, 9] 0 (Zb (Za (cn h1 (fun _ h3 => ?_) (fun _ h4 => ?_)))))
 refine Ze (Zb (Za (Zg (Za ?_))))
 obtain ⟨c5, h6⟩ := Zr h3
 refine zc [3, 5, 6, 7, 8] 0 c5 (Zb (Za (zg [3, 5, 6, 7, 8, 14] 0 (Zb (cn h6 (fun _ h8 => ?_) (fun _ h9 => ?_))))))
 exact Za (zg [2] 0 (Zb (Zi (Z7 (Zk (rr h8 ⟨rfl, er0 _⟩))))))
 exact Ze (XO (Zb (zg [3, 6, 7, 8] 0 (rn h9))))
 exact ZQ (Xh (re h4 ⟨rfl, kq⟩))
 intro e12 s13 o14
 rcases y3 with g4 | y5
 have h15 := X8 h11
 exact zi o14 (Za (zg [2] 0 (Zb (Zi (er1 h15)))))
 have h16 := X9 h11
 obtain ⟨rfl, n18⟩ := o14
 refine Z7 (Zk ?_)
 obtain rfl := Option.some.inj h16
 exact n18
theorem Zdv (a0 : Zh) (a1 : Zh) (r : Int) (h : M.JJ a0 a1 = some r) : Fn Tryz.prog 40 [.agg (ZF a0), .agg (ZF a1)] (.pure (.int .i64 r)) := by
 unfold M.JJ at h
 refine ZS Tryz.func40 rfl (by kernel_rfl) (Za (zg [2, 3] 2 (Zb (Za ?_))))
 obtain ⟨r1, q1, h2⟩ := bind_some h
 obtain ⟨r2, q3, h4⟩ := bind_some h2
 obtain ⟨r3, q5, h6⟩ := bind_some h4
 exact rg [.pure (.int .i64 r1), .pure (.int .i64 r2), .pure (.int .i64 r3)] [4] 0 ⟨17, [(4, .int .i64 r3)], []⟩ [] [⟨true, 42, [.agg (Xd a0.Zo), .agg (Xd a1.Zo)], .pure (.int .i64 r1)⟩, ⟨true, 43, [.int .i64 a0.XD, .int .i64 a1.XD], .pure (.int .i64 r2)⟩, ⟨true, 41, [.sl false 1 2 (fun i => List.take 1 (List.drop (i * 1) [.int .i64 r1, .int .i64 r2]))], .pure (.int .i64 r3)⟩] Zx ⟨fun _ => Zdu a0.Zo a1.Zo r1 q1, fun _ => GO a0.XD a1.XD r2 q3, fun _ => (Ze3 ([r1, r2] : List Int) r3 q5).args (.cons (ZfH rfl (fun i hi => match i, hi with | 0, _ => rfl | 1, _ => rfl | n + 2, h => absurd h (by omega))) .nil), trivial⟩ (Zb (Zi (er1 h6)))
end Nv
namespace Go.Proofs
open Go.Shelf
shelf_lay_g SlLaysF0.n6 Slsf 6 at Tryz 39 as Tryz.sortL39
end Go.Proofs
namespace Nv
open Go Go.Proofs
theorem VL (a0 : List Zh) (r : List Zh) (h : M.XC a0 = some r) : FnM Tryz.prog 39 [.asl 0 0 a0.length, .fn 40 []] 4 a0.length (fun i => ZF (a0.getD i default)) (fun i => ZF (r.getD i default)) (.tup []) := by
 obtain ⟨cf, h1, h2, h3, h4, rfl⟩ := Zhq h
 exact sortFR0 Tryz.sortL39 4 (fun w => by kernel_rfl) (fun w => by kernel_rfl) ZF (fun _ => rfl) (fun _ => rfl) h2 40 (enters_of Tryz.func40 (by kernel_rfl) rfl) (fun x y => Zdv x y _ (h1 x y)) a0 h3 h4
theorem Ze4 (a0 : ZB) (r : Qr × Int) (h : M.W4 a0 = some r) : Fn Tryz.prog 12 [.agg (XH a0)] (.pure (.tup [.agg (G7 r.1), .int .i64 r.2])) := by
 let u3 := XH a0
 unfold M.W4 at h
 refine ZS Tryz.func12 rfl (by kernel_rfl) (Za (zg [1, 2] 2 (Zb (Za (Za ?_)))))
 obtain ⟨r1, q1, h2⟩ := bind_some h
 refine zr [1, 2, 4] 2 Zx (rq1 (ZeH _ _ q1) rqn) (Zb (Za (zg [1, 2, 4, 12] 2 (Zb (cn h2 (fun _ h4 => ?_) (fun _ h5 => ?_))))))
 refine Za ?_
 cases h4
 refine Ze (Zb (Za ?_))
 obtain ⟨r2, q6, h7⟩ := bind_some h5
 refine rg [oL 4 ZF r2] [2, 5] 3 ⟨45, [(2, .ref 1 0), (5, .asl 2 0 r2.length)], [.box u3, .box [.sl true 4 0 (fun _ => []), .sl true 1 0 (fun _ => [])], aL 4 ZF r2]⟩ [] [⟨true, 38, [.agg u3], oL 4 ZF r2⟩] Zx ⟨fun _ => ZcX a0 r2 q6, trivial⟩ (Zb (Za ?_))
 obtain ⟨r3, q8, h9⟩ := bind_some h7
 let u1 : List Ob := [.box u3, .box [.sl true 4 0 (fun _ => []), .sl true 1 0 (fun _ => [])], aL 4 ZF ([] : List Zh), .box [sL 4 ZF r3, .sl true 1 0 (fun _ => [])]]
 let u4 : Nat × D := (21, sL 4 ZF r3)
 let u5 := (r3.length : Int)
 obtain ⟨c10, h11⟩ := Zr h9
 refine rg [.lnd 0 0 (fun _ => []) (fun i => ZF (r3.getD i default)) (.tup [])] [2, 5] 3 ⟨45, [(2, .ref 1 0), (5, .asl 2 0 r2.length)], [.box u3, .box [.sl true 4 0 (fun _ => []), .sl true 1 0 (fun _ => [])], .arr 4 r2.length (fun i => ZF (r3.getD i default))]⟩ [] [⟨true, 39, [.asl 0 0 r2.length, .fn 40 []], .lnd 4 r2.length (fun i => ZF (r2.getD i default)) (fun i => ZF (r3.getD i default)) (.tup [])⟩] Zx ⟨fun _ => VL r2 r3 q8, trivial⟩ (Xo (s' := ⟨45, [(2, .ref 1 0), (5, .asl 2 0 r3.length)], [.box u3, .box [.sl true 4 0 (fun _ => []), .sl true 1 0 (fun _ => [])], aL 4 ZF r3]⟩) (JL (.cons Sub.rfl (.cons (Wo (ZfK (c10 _ List.mem_cons_self))) .nil)) (.cons .rfl (.cons .rfl (.cons (.arr (ZfK (c10 _ List.mem_cons_self)) (fun _ _ => rfl)) .nil)))) (Za (Wk (s' := ⟨45, [(2, .ref 1 0), (5, sL 4 ZF r3)], [.box u3, .box [.sl true 4 0 (fun _ => []), .sl true 1 0 (fun _ => [])], aL 4 ZF ([] : List Zh)]⟩) (Le.trans (Zjy 5 2 4 ZF r3 (fun i => ZF (([] : List Zh).getD i default)) (by kernel_rfl) (by kernel_rfl) (by kernel_rfl)) (kp [2, 5])) (zg [2, 5, 6] 4 (Zb (Za (Za (rg0 [2, 6, 21, 22, 23] 4 ⟨45, [(2, .ref 1 0), (6, .ref 3 0), u4, (22, .int .i64 u5), (23, .int .i64 0)], u1⟩ (Zb (Zg (Wk (s' := ⟨45, [(2, .ref 1 0), (6, .ref 3 0), u4, (22, .int .i64 u5), (23, .int .i64 0)], u1⟩) (UD) (Wk (s' := ⟨45, [(2, .ref 1 0), (6, .ref 3 0), u4, (22, .int .i64 u5), (23, .int .i64 0)], [.box u3, .box [.sl true 4 0 (fun _ => []), .sl true 1 0 (fun _ => [])], aL 4 ZF ([] : List Zh), .box [sL 4 ZF r3, .asl 4 0 (([] : List Int).length)], aL 1 (ci .i64) ([] : List Int)]⟩) (Zev (nt := 45) (e := [(2, .ref 1 0), (6, .ref 3 0), u4, (22, .int .i64 u5), (23, .int .i64 0)]) (H := u1) (cells := [sL 4 ZF r3, .sl true 1 0 (fun _ => [])]) (wd := 1) (f := fun _ => []) 3 1 rfl rfl 1 (fun i => (ci .i64) (([] : List Int).getD i default))) ?_))))))))))))
 obtain ⟨y8, q28, h29⟩ := bind_some h11
 let u2 : List (Nat × D) := [(2, .ref 1 0), (6, .ref 3 0), (42, .bool (decide ((y8.length : Int) > 12)))]
 refine zl (fun (p5 : (List Int) × Int) => ⟨45, [(2, .ref 1 0), (6, .ref 3 0), u4, (22, .int .i64 u5), (23, .int .i64 p5.2)], [.box u3, .box [.sl true 4 0 (fun _ => []), .sl true 1 0 (fun _ => [])], aL 4 ZF ([] : List Zh), .box [sL 4 ZF r3, .asl 4 0 p5.1.length], aL 1 (ci .i64) p5.1]⟩) (fun z => OutE 0 (fun z => ⟨45, [(2, .ref 1 0), (6, .ref 3 0)], [.box u3, .box [.sl true 4 0 (fun _ => []), .sl true 1 0 (fun _ => [])], aL 4 ZF ([] : List Zh), .box [sL 4 ZF r3, .asl 4 0 z.length], aL 1 (ci .i64) z]⟩) z) q28 ?_ ?_
 intro p5 y6 h15
 let u6 := p5.1.length + 1
 unfold M.VY at h15
 refine Za (rg0 [2, 6, 21, 22, 23, 24] 5 ⟨45, [(2, .ref 1 0), (6, .ref 3 0), u4, (22, .int .i64 u5), (23, .int .i64 p5.2), (24, .bool (decide (p5.2 < u5)))], [.box u3, .box [.sl true 4 0 (fun _ => []), .sl true 1 0 (fun _ => [])], aL 4 ZF ([] : List Zh), .box [sL 4 ZF r3, .asl 4 0 p5.1.length], aL 1 (ci .i64) p5.1]⟩ (Zb (Za (cn h15 (fun _ h17 => ?_) (fun _ h18 => ?_)))))
 refine Ze (Zb (V7 (fun (p7 : (List Int)) => ⟨45, [(2, .ref 1 0), (6, .ref 3 0), u4, (22, .int .i64 u5), (23, .int .i64 p5.2)], [.box u3, .box [.sl true 4 0 (fun _ => []), .sl true 1 0 (fun _ => [])], aL 4 ZF ([] : List Zh), .box [sL 4 ZF r3, .asl 4 0 p7.length], aL 1 (ci .i64) p7]⟩) (fun p7 => M.Jv p5 p7 = some y6) ?_ ?_))
 intro p7 h20
 unfold M.Jv at h20
 exact zg [2, 6, 21, 22, 23] 5 (rn h20)
 intro k19
 refine Zg (Za ?_)
 obtain ⟨c21, h22⟩ := Zr h17
 refine zc [2, 6, 7, 8, 21, 22, 23] 6 c21 (Zb (Za (zg [2, 6, 7, 21, 22, 23, 31] 5 (Zb (cn h22 (fun _ h24 => ?_) (fun _ h25 => ?_))))))
 obtain ⟨c26, h27⟩ := Zr h24
 exact rgc [2, 6, 21, 22, 23] 5 ⟨45, [(2, .ref 1 0), (6, .ref 3 0), u4, (22, .int .i64 u5), (23, .int .i64 p5.2)], [.box u3, .box [.sl true 4 0 (fun _ => []), .sl true 1 0 (fun _ => [])], aL 4 ZF ([] : List Zh), .box [sL 4 ZF r3, .asl 4 0 u6], .arr 1 u6 (app (fun i => (ci .i64) (p5.1.getD i default)) p5.1.length (fun i => List.take 1 (List.drop (i * 1) [.int .i64 p5.2])))]⟩ [decide (u6 * 8 ≤ 140737488355328)] c26 (XO (Xo (JL (.cons Sub.rfl (.cons Sub.rfl (.cons Sub.rfl (.cons Sub.rfl (.cons Sub.rfl .nil))))) (.cons .rfl (.cons .rfl (.cons .rfl (.cons (.box (.cons CSub.rfl (.cons (ZbX (Kr _ _)) .nil))) (.cons (.arr (Kr _ _) (RE (ci .i64) p5.1 p5.2 _ rfl)) .nil)))))) (k19 (p5.1 ++ [p5.2]) h27)))
 exact Ze (XO (Xo kq (k19 p5.1 h25)))
 exact ZQ (Xh (re h18 ⟨rfl, kq⟩))
 intro e30 s31 o32
 refine zi o32 (Za (Za (rg0 [2, 6, 42] 5 ⟨45, u2, [.box u3, .box [.sl true 4 0 (fun _ => []), .sl true 1 0 (fun _ => [])], aL 4 ZF ([] : List Zh), .box [sL 4 ZF r3, .asl 4 0 y8.length], aL 1 (ci .i64) y8]⟩ (Zb (cn h29 (fun _ h35 => ?_) (fun _ h36 => ?_))))))
 refine Za ?_
 cases h35
 refine Ze (Zb (Za (Wk (s' := ⟨45, u2, [.box u3, .box [.sl true 4 0 (fun _ => []), .sl true 1 0 (fun _ => [])], aL 4 ZF ([] : List Zh), .box [sL 4 ZF r3, .sl false 1 y8.length (fun k => (fun i => (ci .i64) (y8.getD i default)) (0 + k))], aL 1 (ci .i64) ([] : List Int)]⟩) (Le.trans ((RF (s := ⟨45, u2, [.box u3, .box [.sl true 4 0 (fun _ => []), .sl true 1 0 (fun _ => [])], aL 4 ZF ([] : List Zh), .box [sL 4 ZF r3, .asl 4 0 y8.length], aL 1 (ci .i64) y8]⟩) (s' := ⟨45, u2, [.box u3, .box [.sl true 4 0 (fun _ => []), .sl true 1 0 (fun _ => [])], aL 4 ZF ([] : List Zh), .box [sL 4 ZF r3, .sl false 1 y8.length (fun k => (fun i => (ci .i64) (y8.getD i default)) (0 + k))], aL 1 (ci .i64) ([] : List Int)]⟩) 4 1 y8.length (fun i => (ci .i64) (y8.getD i default)) (fun i => (ci .i64) (([] : List Int).getD i default)) (by kernel_rfl) (by kernel_rfl) (by kernel_rfl))) (kp [2, 6, 42])) (rg0 [2, 3] 2 ⟨45, [(2, .ref 1 0), (3, .int .i64 0)], [.box u3, .box [sL 4 ZF r3, .sl false 1 y8.length (fun k => (fun i => (ci .i64) (y8.getD i default)) (0 + k))]]⟩ (Xo (s' := ⟨45, [(2, .ref 1 0), (3, .int .i64 0)], [.box u3, .box [sL 4 ZF r3, sL 1 (ci .i64) y8]]⟩) (JL (.cons Sub.rfl (.cons Sub.rfl .nil)) (.cons .rfl (.cons (.box (.cons CSub.rfl (.cons (Gg rfl (G5 (f := fun i => (ci .i64) (y8.getD i default)) (fun _ _ => rfl))) .nil))) .nil))) (Zi ?_))))))
 obtain rfl := Option.some.inj h36
 exact er0 (.tup [.agg [sL 4 ZF r3, sL 1 (ci .i64) y8], .int .i64 0])
theorem Us (a0 : List Zf) (r : List Zf) (h : M.XM a0 = some r) : Fn Tryz.prog 68 [sL 25 Zp a0] (oL 25 Zp r) := by
 unfold M.XM at h
 obtain ⟨hc, h1⟩ := Zr h
 obtain rfl := Option.some.inj h1
 refine ZcJ Tryz.func68 rfl (by kernel_rfl) (UM ?_)
 refine Za (rg0 [0] 0 ⟨8, [(0, sL 25 Zp a0)], []⟩ ?_)
 refine Zb (Za (Za (rg0 [0, 4] 0 ⟨8, [(0, sL 25 Zp a0), (4, .nilq a0.length)], []⟩ ?_)))
 refine Zb (nq a0.length (fun hz => ?_) ?_)
 refine Za (rg0 [2] 0 ⟨8, [(2, .sl true 25 0 (fun _ => []))], []⟩ ?_)
 refine Zb (Zi (Zk ?_))
 obtain rfl := List.eq_nil_of_length_eq_zero hz
 exact ⟨_, KK (wd := 25) (f := fun _ => []) 2 (by kernel_rfl) 25 (fun i => Zp (([] : List Zf).getD i default)), .inr rfl, 2, 0, _, rfl, rfl, rfl, fun _ _ => rfl⟩
 refine Ze (Zb (Za (rgc [2] 1 ⟨8, [(2, .asl 0 0 (0 + a0.length))], [.arr 25 (0 + a0.length) (app (fun i => List.take 25 (List.drop (i * 25) [])) 0 (fun i => Zp (a0.getD i default)))]⟩ [decide (0 = 0) || decide (0 < a0.length), decide ((0 + a0.length) * 448 ≤ 140737488355328)] hc ?_)))
 refine Zb (Zi ?_)
 exact ⟨⟨8, [(2, .asl 0 0 a0.length)], [aL 25 Zp a0]⟩, JL (.cons (Wo (Nat.zero_add _)) .nil) (.cons (.arr (Nat.zero_add _) (WY Zp _ a0 _ (fun _ _ => rfl))) .nil), .inr rfl, 2, 0, _, rfl, rfl, rfl, fun _ _ => rfl⟩
theorem WT (a0 : List Zl) (r : List Zl) (h : M.Xk a0 = some r) : Fn Tryz.prog 113 [sL 12 Zj a0] (oL 12 Zj r) := by
 unfold M.Xk at h
 obtain ⟨hc, h1⟩ := Zr h
 obtain rfl := Option.some.inj h1
 refine ZcJ Tryz.func113 rfl (by kernel_rfl) (UM ?_)
 refine Za (rg0 [0] 0 ⟨8, [(0, sL 12 Zj a0)], []⟩ ?_)
 refine Zb (Za (Za (rg0 [0, 4] 0 ⟨8, [(0, sL 12 Zj a0), (4, .nilq a0.length)], []⟩ ?_)))
 refine Zb (nq a0.length (fun hz => ?_) ?_)
 refine Za (rg0 [2] 0 ⟨8, [(2, .sl true 12 0 (fun _ => []))], []⟩ ?_)
 refine Zb (Zi (Zk ?_))
 obtain rfl := List.eq_nil_of_length_eq_zero hz
 exact ⟨_, KK (wd := 12) (f := fun _ => []) 2 (by kernel_rfl) 12 (fun i => Zj (([] : List Zl).getD i default)), .inr rfl, 2, 0, _, rfl, rfl, rfl, fun _ _ => rfl⟩
 refine Ze (Zb (Za (rgc [2] 1 ⟨8, [(2, .asl 0 0 (0 + a0.length))], [.arr 12 (0 + a0.length) (app (fun i => List.take 12 (List.drop (i * 12) [])) 0 (fun i => Zj (a0.getD i default)))]⟩ [decide (0 = 0) || decide (0 < a0.length), decide ((0 + a0.length) * 112 ≤ 140737488355328)] hc ?_)))
 refine Zb (Zi ?_)
 exact ⟨⟨8, [(2, .asl 0 0 a0.length)], [aL 12 Zj a0]⟩, JL (.cons (Wo (Nat.zero_add _)) .nil) (.cons (.arr (Nat.zero_add _) (WY Zj _ a0 _ (fun _ _ => rfl))) .nil), .inr rfl, 2, 0, _, rfl, rfl, rfl, fun _ _ => rfl⟩
end Nv
