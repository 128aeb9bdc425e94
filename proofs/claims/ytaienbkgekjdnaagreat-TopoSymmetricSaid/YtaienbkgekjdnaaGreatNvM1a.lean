/- The walks: each function computes its mirror. -/
import Derived.Test.YtaienbkgekjdnaaGreatProg
import Derived.Test.YtaienbkgekjdnaaGreatNvD1
import Derived.Test.YtaienbkgekjdnaaGreatNvLibC
import Derived.Test.YtaienbkgekjdnaaGreatNvLibB
import Derived.KernelRfl
import Derived.Ground.SlsfProg
import Derived.Shelf.Lay
import Derived.Test.YtaienbkgekjdnaaGreatNvLibD
import Derived.Test.YtaienbkgekjdnaaGreatNvLibE
set_option maxRecDepth 100000
namespace Nv
open Go Go.Proofs
theorem Zeq (a0 : Zf) (r : Bool) (h : M.Vg a0 = some r) : Fn Tryz.prog 36 [.agg (Zp a0)] (.pure (.bool r)) := by
 let u1 : List Ob := [.box (Zp a0)]
 let u2 : St := ⟨141, [(1, .ref 0 0)], u1⟩
 unfold M.Vg at h
 refine ZS Tryz.func36 rfl (by kernel_rfl) (Za (zg [1] 1 (Zb (Za (Za (zg [1, 95] 1 (Zb (cn h (fun _ h2 => ?_) (fun _ h3 => ?_)))))))))
 exact Za (zg [2] 0 (Zb (Zh (Zk (er1 h2)))))
 refine Ze (Zb (Za (Za (zg [1, 3] 1 (Zb (Zi ?_))))))
 obtain ⟨y3, q13, h14⟩ := bind_some h3
 refine zl (fun (p1 : Int) => ⟨141, [(1, .ref 0 0), (3, .int .i64 p1)], u1⟩) (Sum.elim (fun z => OutE 0 (fun z => u2) z) (fun z => OutR Tryz.prog Tryz.f36 (.bool z))) q13 ?_ ?_
 intro p1 y2 h4
 unfold M.Vh at h4
 refine Za (Za (zg [1, 3, 100] 1 (Zb (cn h4 (fun _ h6 => ?_) (fun _ h7 => ?_)))))
 refine Ze (Zb (Za (Zi (Za ?_))))
 obtain ⟨c8, h9⟩ := Zy h6
 refine zc [1, 3, 110] 1 c8 (Zb (cn h9 (fun _ h11 => ?_) (fun _ h12 => ?_)))
 exact Za (zg [2] 0 (Zb (Zh (Xb (Zk (rr h11 ⟨rfl, er0 _⟩))))))
 exact Ze (XX (Zb (zg [1, 3] 1 (rn h12))))
 exact ZV (XF (re h7 ⟨rfl, kq⟩))
 intro e15 s16 o17
 rcases y3 with g4 | y5
 have h18 := X9 h14
 refine zi o17 (Za (Za (zg [1, 4] 1 (Zb (Zi ?_)))))
 obtain ⟨y8, q30, h31⟩ := bind_some h18
 refine zl (fun (p6 : Int) => ⟨141, [(1, .ref 0 0), (4, .int .i64 p6)], u1⟩) (Sum.elim (fun z => OutE 2 (fun z => u2) z) (fun z => OutR Tryz.prog Tryz.f36 (.bool z))) q30 ?_ ?_
 intro p6 y7 h21
 unfold M.Vi at h21
 refine Za (Za (zg [1, 4, 115] 1 (Zb (cn h21 (fun _ h23 => ?_) (fun _ h24 => ?_)))))
 refine Ze (Zb (Za (Zi (Za ?_))))
 obtain ⟨c25, h26⟩ := Zy h23
 refine zc [1, 4, 125] 1 c25 (Zb (cn h26 (fun _ h28 => ?_) (fun _ h29 => ?_)))
 exact Za (zg [2] 0 (Zb (Zh (Xb (Zk (rr h28 ⟨rfl, er0 _⟩))))))
 exact Ze (XX (Zb (zg [1, 4] 1 (rn h29))))
 exact ZV (XF (re h24 ⟨rfl, kq⟩))
 intro e32 s33 o34
 rcases y8 with g9 | y10
 have h35 := X9 h31
 refine zi o34 (Za (Za (zg [1, 5] 1 (Zb (Zi ?_)))))
 obtain ⟨y13, q47, h48⟩ := bind_some h35
 refine zl (fun (p11 : Int) => ⟨141, [(1, .ref 0 0), (5, .int .i64 p11)], u1⟩) (Sum.elim (fun z => OutE 4 (fun z => ⟨141, [], []⟩) z) (fun z => OutR Tryz.prog Tryz.f36 (.bool z))) q47 ?_ ?_
 intro p11 y12 h38
 unfold M.Vj at h38
 refine Za (Za (zg [1, 5, 130] 1 (Zb (cn h38 (fun _ h40 => ?_) (fun _ h41 => ?_)))))
 refine Ze (Zb (Za (Zi (Za ?_))))
 obtain ⟨c42, h43⟩ := Zy h40
 refine zc [1, 5, 140] 1 c42 (Zb (cn h43 (fun _ h45 => ?_) (fun _ h46 => ?_)))
 exact Za (zg [2] 0 (Zb (Zh (Xb (Zk (rr h45 ⟨rfl, er0 _⟩))))))
 exact Ze (XX (Zb (zg [1, 5] 1 (rn h46))))
 exact ZV (XF (re h41 ⟨rfl, kc⟩))
 intro e49 s50 o51
 rcases y13 with g14 | y15
 have h52 := X9 h48
 exact zi o51 (Za (zg [2] 0 (Zb (Zh (er1 h52)))))
 have h53 := Ya h48
 obtain ⟨rfl, n55⟩ := o51
 refine Xb (Zk ?_)
 obtain rfl := Option.some.inj h53
 exact n55
 have h36 := Ya h31
 obtain ⟨rfl, n56⟩ := o34
 refine Xb (Zk ?_)
 obtain rfl := Option.some.inj h36
 exact n56
 have h19 := Ya h14
 obtain ⟨rfl, n57⟩ := o17
 refine Xb (Zk ?_)
 obtain rfl := Option.some.inj h19
 exact n57
theorem Zeb (a0 : Zw) (r : Bool) (h : M.JP a0 = some r) : Fn Tryz.prog 11 [.agg (XO a0)] (.pure (.bool r)) := by
 unfold M.JP at h
 refine ZS Tryz.func11 rfl (by kernel_rfl) (Za (zg [1] 1 (Zb (Za (Za (zg [1, 7] 1 (Zb (cn h (fun _ h2 => ?_) (fun _ h3 => ?_)))))))))
 exact Za (zg [2] 0 (Zb (Zh (Zk (er1 h2)))))
 refine Ze (Zb (Za (Za (zg [1, 3] 1 (Zb (Zi ?_))))))
 obtain ⟨y4, q15, h16⟩ := bind_some h3
 refine zl (fun (p1 : Int) => ⟨22, [(1, .ref 0 0), (3, .int .i64 p1)], [.box (XO a0)]⟩) (Sum.elim (fun z => OutE 0 (fun z => ⟨22, [], []⟩) z) (fun z => OutR Tryz.prog Tryz.f11 (.bool z))) q15 ?_ ?_
 intro p1 y2 h4
 unfold M.Qj at h4
 refine Za (Za (zg [1, 3, 12] 1 (Zb (cn h4 (fun _ h6 => ?_) (fun _ h7 => ?_)))))
 refine Ze (Zb (Za (Zi (Za ?_))))
 obtain ⟨r3, q8, h9⟩ := bind_some h6
 obtain ⟨c10, h11⟩ := Zy h9
 refine zr [1, 3, 21] 1 c10 (rq1 (Zeq _ _ q8) rqn) (Zb (cn h11 (fun _ h13 => ?_) (fun _ h14 => ?_)))
 exact Za (zg [2] 0 (Zb (Zh (Xb (Zk (rr h13 ⟨rfl, er0 _⟩))))))
 exact Ze (XX (Zb (zg [1, 3] 1 (rn h14))))
 exact ZV (XF (re h7 ⟨rfl, kc⟩))
 intro e17 s18 o19
 rcases y4 with g5 | y6
 have h20 := X9 h16
 exact zi o19 (Za (zg [2] 0 (Zb (Zh (er1 h20)))))
 have h21 := Ya h16
 obtain ⟨rfl, n23⟩ := o19
 refine Xb (Zk ?_)
 obtain rfl := Option.some.inj h21
 exact n23
theorem Ry (a0 : Int) (r : Bool) (h : M.Vr a0 = some r) : Fn Tryz.prog 153 [.int .u8 a0] (.pure (.bool r)) := by
 unfold M.Vr at h
 exact ZS Tryz.func153 rfl (by kernel_rfl) (Za (zg [0] 0 (Zb (Za (zg [2] 0 (Zb (Zh (er1 h))))))))
theorem UJ (a0 : ByteArray) (r : Bool) (h : M.QX a0 = some r) : Fn Tryz.prog 101 [.str a0] (.pure (.bool r)) := by
 unfold M.QX at h
 refine ZS Tryz.func101 rfl (by kernel_rfl) (Za (zg [0] 0 (Zb (Za (Za ?_)))))
 obtain ⟨r1, q1, h2⟩ := bind_some h
 obtain ⟨c3, h4⟩ := Zy h2
 refine zr [0, 18] 0 c3 (rq2 (fun hg => Ry _ _ (XN q1 hg)) rqn) (Zb (cn h4 (fun _ h6 => ?_) (fun _ h7 => ?_)))
 exact Za (zg [2] 0 (Zb (Zh (Zk (er1 h6)))))
 refine Ze (Zb (Za (Za (zg [0, 3] 0 (Zb (Zi ?_))))))
 obtain ⟨y5, q19, h20⟩ := bind_some h7
 refine zl (fun (p2 : Int) => ⟨56, [(0, .str a0), (3, .int .i64 p2)], []⟩) (Sum.elim (fun z => OutE 0 (fun z => ⟨56, [], []⟩) z) (fun z => OutR Tryz.prog Tryz.f101 (.bool z))) q19 ?_ ?_
 intro p2 y3 h8
 unfold M.VH at h8
 refine Za (Za (zg [0, 3, 22] 0 (Zb (cn h8 (fun _ h10 => ?_) (fun _ h11 => ?_)))))
 refine Ze (Zb (Za (Zi (Za ?_))))
 obtain ⟨c12, h13⟩ := Zy h10
 refine zc [0, 3, 4] 0 c12 (Zb (Za ?_))
 obtain ⟨r4, q14, h15⟩ := bind_some h13
 refine zr [0, 3, 55] 0 ZA (rq1 (Ry _ _ q14) rqn) (Zb (cn h15 (fun _ h17 => ?_) (fun _ h18 => ?_)))
 exact Za (zg [2] 0 (Zb (Zh (Xb (Zk (rr h17 ⟨rfl, er0 _⟩))))))
 exact Ze (XX (Zb (zg [0, 3] 0 (rn h18))))
 exact ZV (XF (re h11 ⟨rfl, kq⟩))
 intro e21 s22 o23
 rcases y5 with g6 | y7
 have h24 := X9 h20
 exact zi o23 (Za (zg [2] 0 (Zb (Zh (er1 h24)))))
 have h25 := Ya h20
 obtain ⟨rfl, n27⟩ := o23
 refine Xb (Zk ?_)
 obtain rfl := Option.some.inj h25
 exact n27
theorem XM (a0 : Int) (a1 : Int) (a2 : Int) (r : Bool) (h : M.ZT a0 a1 a2 = some r) : Fn Tryz.prog 102 [.int .i64 a0, .int .i64 a1, .int .i64 a2] (.pure (.bool r)) := by
 unfold M.ZT at h
 exact ZS Tryz.func102 rfl (by kernel_rfl) (Za (zg [0, 1, 2] 0 (Zb (Za (zg [6] 0 (Zb (Zh (er1 h))))))))
theorem Kz (a0 : Int) (r : Int) (h : M.Jf a0 = some r) : Fn Tryz.prog 67 [.int .i64 a0] (.pure (.int .u32 r)) := by
 unfold M.Jf at h
 refine ZS Tryz.func67 rfl (by kernel_rfl) (Za (zg [0] 0 (Zb (Za (zg [0, 3] 0 (Zb (Za (Za (zg [0, 3, 4] 0 (Zb (Zi ?_)))))))))))
 obtain ⟨y4, q12, h13⟩ := bind_some h
 refine zl (fun (p1 : Int × Int) => ⟨19, [(0, .int .i64 a0), (3, .int .u32 p1.1), (4, .int .i64 p1.2)], []⟩) (fun z => OutE 0 (fun z => ⟨19, [(3, .int .u32 z)], []⟩) z) q12 ?_ ?_
 intro p1 y2 h1
 unfold M.WH at h1
 refine Za (Za (rg0 [0, 3, 4, 6] 0 ⟨19, [(0, .int .i64 a0), (3, .int .u32 p1.1), (4, .int .i64 p1.2), (6, .bool (decide (p1.2 < 32)))], []⟩ (Zb (cn h1 (fun _ h3 => ?_) (fun _ h4 => ?_)))))
 refine Ze (Zb (WT (fun (p3 : Int) => ⟨19, [(0, .int .i64 a0), (3, .int .u32 p3), (4, .int .i64 p1.2)], []⟩) (fun p3 => M.UH p1 p3 = some y2) ?_ ?_))
 intro p3 h6
 unfold M.UH at h6
 exact zg [0, 3, 4] 0 (rn h6)
 intro k5
 refine Zi (Za (zg [0, 3, 4, 11] 0 (Zb (cn h3 (fun _ h8 => ?_) (fun _ h9 => ?_)))))
 obtain ⟨c10, h11⟩ := Zy h8
 exact zc [0, 3, 4] 0 c10 (XX (XP lk (k5 (bitD .or .u32 p1.1 (wr .u32 (1 * 2 ^ min (wr .u64 (wr .i64 (31 - p1.2))).toNat 32))) h11)))
 exact Ze (XX (XP kq (k5 p1.1 h9)))
 exact ZV (XF (re h4 ⟨rfl, kq⟩))
 intro e14 s15 o16
 exact zi o16 (Za (zg [2] 0 (Zb (Zh (er1 h13)))))
theorem U7 (a0 : Int) (a1 : Int) (r : ZX) (h : M.Qt a0 a1 = some r) : Fn Tryz.prog 45 [.int .u32 a0, .int .i64 a1] (.pure (.agg (Xg r))) := by
 unfold M.Qt at h
 refine ZS Tryz.func45 rfl (by kernel_rfl) (Za (zg [0, 1, 4] 1 (Zb (Za (zg [0, 1, 4] 1 (Zb (Za ?_)))))))
 obtain ⟨r1, q1, h2⟩ := bind_some h
 refine zr [4] 1 ZA (rq1 (Kz _ _ q1) rqn) (Zb (Zh ?_))
 obtain rfl := Option.some.inj h2
 exact er0 (.agg [.int .u32 (bitD .and .u32 a0 r1), .int .i64 (if 0 > (if 32 < a1 then 32 else a1) then 0 else (if 32 < a1 then 32 else a1))])
theorem Zcp (a0 : ZX) (a1 : Int) (r : Bool) (h : M.JX a0 a1 = some r) : Fn Tryz.prog 181 [.agg (Xg a0), .int .u32 a1] (.pure (.bool r)) := by
 unfold M.JX at h
 refine ZS Tryz.func181 rfl (by kernel_rfl) (Za (zg [1, 2] 1 (Zb (Za ?_))))
 obtain ⟨r1, q1, h2⟩ := bind_some h
 exact zr [4] 0 ZA (rq1 (Kz _ _ q1) rqn) (Zb (Zh (er1 h2)))
theorem Rz (a0 : ZX) (a1 : ZX) (r : Bool) (h : M.JQ a0 a1 = some r) : Fn Tryz.prog 175 [.agg (Xg a0), .agg (Xg a1)] (.pure (.bool r)) := by
 unfold M.JQ at h
 refine ZS Tryz.func175 rfl (by kernel_rfl) (Za (zg [2, 3] 2 (Zb (Za ?_))))
 obtain ⟨r1, q1, h2⟩ := bind_some h
 exact zr [4] 0 ZA (rq2 (fun hg => Zcp _ _ _ (XN q1 hg)) rqn) (Zb (Zh (er1 h2)))
theorem Kd (a0 : ZX) (a1 : ZX) (r : Bool) (h : M.Qm a0 a1 = some r) : Fn Tryz.prog 154 [.agg (Xg a0), .agg (Xg a1)] (.pure (.bool r)) := by
 unfold M.Qm at h
 refine ZS Tryz.func154 rfl (by kernel_rfl) (Za (zg [2, 3] 2 (Zb (Za ?_))))
 obtain ⟨r1, q1, h2⟩ := bind_some h
 obtain ⟨r2, q3, h4⟩ := bind_some h2
 exact zr [4] 0 ZA (rq1 (Rz _ _ _ q1) (rq2 (fun hg => Rz _ _ _ (XN q3 hg)) rqn)) (Zb (Zh (er1 h4)))
theorem ZaT (a0 : List Zl) (r : Int) (h : M.Yb a0 = some r) : Fn Tryz.prog 103 [sL 12 Zj a0] (.pure (.int .i64 r)) := by
 let u1 : Nat × D := (0, sL 12 Zj a0)
 unfold M.Yb at h
 refine ZS Tryz.func103 rfl (by kernel_rfl) (Za (zg [0] 0 (Zb (Za (Za (zg [0, 9] 0 (Zb (cn h (fun _ h2 => ?_) (fun _ h3 => ?_)))))))))
 exact Za (zg [2] 0 (Zb (Zh (Zk (er1 h2)))))
 refine Ze (Zb (Za (Za (zg [0, 3] 0 (Zb (Zi ?_))))))
 obtain ⟨y22, q76, h77⟩ := bind_some h3
 refine zl (fun (p1 : Int) => ⟨163, [u1, (3, .int .i64 p1)], []⟩) (Sum.elim (fun z => OutE 0 (fun z => ⟨163, [], []⟩) z) (fun z => OutR Tryz.prog Tryz.f103 (.int .i64 z))) q76 ?_ ?_
 intro p1 y2 h4
 let u2 : List Ob := [.box (Zj (a0.getD p1.toNat default))]
 unfold M.Yo at h4
 refine Za (Za (zg [0, 3, 13] 0 (Zb (cn h4 (fun _ h6 => ?_) (fun _ h7 => ?_)))))
 refine Ze (Zb (Za (Zi (Za ?_))))
 obtain ⟨c8, h9⟩ := Zy h6
 refine zc [0, 3, 4] 1 c8 (Zb (Za (Za ?_)))
 obtain ⟨r3, q10, h11⟩ := bind_some h9
 refine zr [0, 3, 4, 23] 1 ZA (rq1 (UJ _ _ q10) rqn) (Zb (cn h11 (fun _ h13 => ?_) (fun _ h14 => ?_)))
 exact Za (zg [2] 0 (Zb (Zh (Zk (Xb (Zk (rr h13 ⟨rfl, er0 _⟩)))))))
 refine Ze (Zb (Za (Za (zg [0, 3, 4, 5] 1 (Zb (Zi ?_))))))
 obtain ⟨y6, q24, h25⟩ := bind_some h14
 refine zl (fun (p4 : Int) => ⟨163, [u1, (3, .int .i64 p1), (4, .ref 0 0), (5, .int .i64 p4)], u2⟩) (Sum.elim (fun z => OutE 2 (fun z => ⟨163, [u1, (3, .int .i64 p1), (4, .ref 0 0)], u2⟩) z) (fun z => OutR Tryz.prog Tryz.f103 (.int .i64 z))) q24 ?_ ?_
 intro p4 y5 h15
 unfold M.YH at h15
 refine Za (Za (zg [0, 3, 4, 5, 26] 1 (Zb (cn h15 (fun _ h17 => ?_) (fun _ h18 => ?_)))))
 refine Ze (Zb (Za (Zi (Za ?_))))
 obtain ⟨c19, h20⟩ := Zy h17
 refine zc [0, 3, 4, 5, 36] 1 c19 (Zb (cn h20 (fun _ h22 => ?_) (fun _ h23 => ?_)))
 exact Za (zg [2] 0 (Zb (Zh (Xb (Zk (rr h22 ⟨rfl, er0 _⟩))))))
 exact Ze (XX (Zb (zg [0, 3, 4, 5] 1 (rn h23))))
 exact ZV (XF (re h18 ⟨rfl, kq⟩))
 intro e26 s27 o28
 rcases y6 with g7 | y8
 have h29 := X9 h25
 refine zi o28 (Za (Za ?_))
 obtain ⟨r9, q32, h33⟩ := bind_some h29
 obtain ⟨r10, q34, h35⟩ := bind_some h33
 obtain ⟨r11, q36, h37⟩ := bind_some h35
 refine zr [0, 3, 4, 52] 1 ZA (rq1 (XM _ _ _ _ q32) (rq2 (fun hg => XM _ _ _ _ (XN q34 hg)) (rq2 (fun hg => XM _ _ _ _ (XN q36 hg)) rqn))) (Zb (cn h37 (fun _ h39 => ?_) (fun _ h40 => ?_)))
 exact Za (zg [2] 0 (Zb (Zh (Zk (Xb (Zk (rr h39 ⟨rfl, er0 _⟩)))))))
 refine Ze (Zb (Za (Za (zg [0, 3, 4, 98] 1 (Zb (cn h40 (fun _ h42 => ?_) (fun _ h43 => ?_)))))))
 exact Za (zg [2] 0 (Zb (Zh (Zk (Xb (Zk (rr h42 ⟨rfl, er0 _⟩)))))))
 refine Ze (Zb (Za (Za ?_)))
 obtain ⟨r12, q44, h45⟩ := bind_some h43
 obtain ⟨r13, q46, h47⟩ := bind_some h45
 refine zr [0, 3, 4, 127] 1 ZA (rq2 (fun hg => XM _ _ _ _ (XN q44 hg)) (rq2 (fun hg => XM _ _ _ _ (XN q46 hg)) rqn)) (Zb (cn h47 (fun _ h49 => ?_) (fun _ h50 => ?_)))
 exact Za (zg [2] 0 (Zb (Zh (Zk (Xb (Zk (rr h49 ⟨rfl, er0 _⟩)))))))
 refine Ze (Zb (Za (zg [0, 3, 4, 6] 1 (Zb (Zi ?_)))))
 obtain ⟨y19, q66, h67⟩ := bind_some h50
 refine zl (fun (p14 : Int) => ⟨163, [u1, (3, .int .i64 p1), (4, .ref 0 0), (6, .int .i64 p14)], u2⟩) (Sum.elim (fun z => OutE 4 (fun z => ⟨163, [u1, (3, .int .i64 p1)], []⟩) z) (fun z => OutR Tryz.prog Tryz.f103 (.int .i64 z))) q66 ?_ ?_
 intro p14 y15 h51
 unfold M.Yn at h51
 refine Za (Za (zg [0, 3, 4, 6, 130] 1 (Zb (cn h51 (fun _ h53 => ?_) (fun _ h54 => ?_)))))
 refine Ze (Zb (Za (Zi (Za ?_))))
 obtain ⟨r16, q55, h56⟩ := bind_some h53
 obtain ⟨r17, q57, h58⟩ := bind_some h56
 obtain ⟨r18, q59, h60⟩ := bind_some h58
 obtain ⟨c61, h62⟩ := Zy h60
 refine zr [0, 3, 4, 6, 162] 1 c61 (rq2 (fun hg => U7 _ _ _ (XN q55 hg)) (rq2 (fun hg => U7 _ _ _ (XN q57 hg)) (rq2 (fun hg => Kd _ _ _ (XN q59 hg)) rqn))) (Zb (cn h62 (fun _ h64 => ?_) (fun _ h65 => ?_)))
 exact Za (zg [2] 0 (Zb (Zh (Xb (Zk (rr h64 ⟨rfl, er0 _⟩))))))
 exact Ze (XX (Zb (zg [0, 3, 4, 6] 1 (rn h65))))
 exact ZV (XF (re h54 ⟨rfl, kc⟩))
 intro e68 s69 o70
 rcases y19 with g20 | y21
 have h71 := X9 h67
 obtain ⟨rfl, l73⟩ := o70
 exact Qi (XX (XP (s' := ⟨163, [u1, (3, .int .i64 p1)], []⟩) (l73) (zg [0, 3] 0 (rn h71))))
 have h72 := Ya h67
 obtain ⟨rfl, n74⟩ := o70
 exact Xb (Xb (Zk (rr h72 ⟨rfl, n74⟩)))
 have h30 := Ya h25
 obtain ⟨rfl, n75⟩ := o28
 exact Xb (Zk (Xb (Zk (rr h30 ⟨rfl, n75⟩))))
 exact ZV (XF (re h7 ⟨rfl, kq⟩))
 intro e78 s79 o80
 rcases y22 with g23 | y24
 have h81 := X9 h77
 exact zi o80 (Za (zg [2] 0 (Zb (Zh (er1 h81)))))
 have h82 := Ya h77
 obtain ⟨rfl, n84⟩ := o80
 refine Xb (Zk ?_)
 obtain rfl := Option.some.inj h82
 exact n84
theorem Wh (a0 : ZX) (r : Bool) (h : M.Y8 a0 = some r) : Fn Tryz.prog 159 [.agg (Xg a0)] (.pure (.bool r)) := by
 unfold M.Y8 at h
 refine ZS Tryz.func159 rfl (by kernel_rfl) (Za (zg [1] 1 (Zb (Za ?_))))
 obtain ⟨r1, q1, h2⟩ := bind_some h
 exact zr [2] 0 ZA (rq2 (fun hg => Kz _ _ (XN q1 hg)) rqn) (Zb (Zh (er1 h2)))
theorem Ke (a0 : W6) (r : Bool) (h : M.YT a0 = some r) : Fn Tryz.prog 155 [.agg (GQ a0)] (.pure (.bool r)) := by
 unfold M.YT at h
 refine ZS Tryz.func155 rfl (by kernel_rfl) (Za (zg [1] 1 (Zb (Za ?_))))
 obtain ⟨r1, q1, h2⟩ := bind_some h
 exact zr [2] 0 ZA (rq1 (Wh _ _ q1) rqn) (Zb (Zh (er1 h2)))
theorem Zad (a0 : List Z2) (r : Int) (h : M.Qk a0 = some r) : Fn Tryz.prog 104 [sL 2 Zu a0] (.pure (.int .i64 r)) := by
 let u1 : Nat × D := (0, sL 2 Zu a0)
 unfold M.Qk at h
 refine ZS Tryz.func104 rfl (by kernel_rfl) (Za (zg [0] 0 (Zb (Za (Za (zg [0, 8] 0 (Zb (cn h (fun _ h2 => ?_) (fun _ h3 => ?_)))))))))
 exact Za (zg [2] 0 (Zb (Zh (Zk (er1 h2)))))
 refine Ze (Zb (Za (Za (zg [0, 3] 0 (Zb (Zi ?_))))))
 obtain ⟨y15, q65, h66⟩ := bind_some h3
 refine zl (fun (p1 : Int) => ⟨72, [u1, (3, .int .i64 p1)], []⟩) (Sum.elim (fun z => OutE 0 (fun z => ⟨72, [], []⟩) z) (fun z => OutR Tryz.prog Tryz.f104 (.int .i64 z))) q65 ?_ ?_
 intro p1 y2 h4
 unfold M.Qe at h4
 refine Za (Za (zg [0, 3, 12] 0 (Zb (cn h4 (fun _ h6 => ?_) (fun _ h7 => ?_)))))
 refine Ze (Zb (Za (Zi (Za (Za ?_)))))
 obtain ⟨r3, q8, h9⟩ := bind_some h6
 obtain ⟨c10, h11⟩ := Zy h9
 refine zr [0, 3, 21] 0 c10 (rq1 (UJ _ _ q8) rqn) (Zb (cn h11 (fun _ h13 => ?_) (fun _ h14 => ?_)))
 exact Za (zg [2] 0 (Zb (Zh (Zk (Xb (Zk (rr h13 ⟨rfl, er0 _⟩)))))))
 refine Ze (Zb (Za (Za (zg [0, 3, 4] 0 (Zb (Zi ?_))))))
 obtain ⟨y6, q24, h25⟩ := bind_some h14
 refine zl (fun (p4 : Int) => ⟨72, [u1, (3, .int .i64 p1), (4, .int .i64 p4)], []⟩) (Sum.elim (fun z => OutE 2 (fun z => ⟨72, [u1, (3, .int .i64 p1)], []⟩) z) (fun z => OutR Tryz.prog Tryz.f104 (.int .i64 z))) q24 ?_ ?_
 intro p4 y5 h15
 unfold M.Qc at h15
 refine Za (Za (zg [0, 3, 4, 24] 0 (Zb (cn h15 (fun _ h17 => ?_) (fun _ h18 => ?_)))))
 refine Ze (Zb (Za (Zi (Za ?_))))
 obtain ⟨c19, h20⟩ := Zy h17
 refine zc [0, 3, 4, 37] 0 c19 (Zb (cn h20 (fun _ h22 => ?_) (fun _ h23 => ?_)))
 exact Za (zg [2] 0 (Zb (Zh (Xb (Zk (rr h22 ⟨rfl, er0 _⟩))))))
 exact Ze (XX (Zb (zg [0, 3, 4] 0 (rn h23))))
 exact ZV (XF (re h18 ⟨rfl, kq⟩))
 intro e26 s27 o28
 rcases y6 with g7 | y8
 have h29 := X9 h25
 refine zi o28 (Za (Za ?_))
 obtain ⟨c32, h33⟩ := Zy h29
 refine zc [0, 3, 44] 0 c32 (Zb (cn h33 (fun _ h35 => ?_) (fun _ h36 => ?_)))
 exact Za (zg [2] 0 (Zb (Zh (Zk (Xb (Zk (rr h35 ⟨rfl, er0 _⟩)))))))
 refine Ze (Zb (Za (Za ?_)))
 obtain ⟨c37, h38⟩ := Zy h36
 refine zc [0, 3, 51] 0 c37 (Zb (cn h38 (fun _ h40 => ?_) (fun _ h41 => ?_)))
 exact Za (zg [2] 0 (Zb (Zh (Zk (Xb (Zk (rr h40 ⟨rfl, er0 _⟩)))))))
 refine Ze (Zb (Za (zg [0, 3, 5] 0 (Zb (Zi ?_)))))
 obtain ⟨y12, q55, h56⟩ := bind_some h41
 refine zl (fun (p9 : Int) => ⟨72, [u1, (3, .int .i64 p1), (5, .int .i64 p9)], []⟩) (Sum.elim (fun z => OutE 4 (fun z => ⟨72, [u1, (3, .int .i64 p1)], []⟩) z) (fun z => OutR Tryz.prog Tryz.f104 (.int .i64 z))) q55 ?_ ?_
 intro p9 y10 h42
 unfold M.Qd at h42
 refine Za (Za ?_)
 obtain ⟨c43, h44⟩ := Zy h42
 refine zc [0, 3, 5, 59] 0 c43 (Zb (cn h44 (fun _ h46 => ?_) (fun _ h47 => ?_)))
 refine Ze (Zb (Za (Zi (Za ?_))))
 obtain ⟨r11, q48, h49⟩ := bind_some h46
 obtain ⟨c50, h51⟩ := Zy h49
 refine zr [0, 3, 5, 71] 0 c50 (rq1 (Ke _ _ q48) rqn) (Zb (cn h51 (fun _ h53 => ?_) (fun _ h54 => ?_)))
 exact Za (zg [2] 0 (Zb (Zh (Xb (Zk (rr h53 ⟨rfl, er0 _⟩))))))
 exact Ze (XX (Zb (zg [0, 3, 5] 0 (rn h54))))
 exact ZV (XF (re h47 ⟨rfl, kq⟩))
 intro e57 s58 o59
 rcases y12 with g13 | y14
 have h60 := X9 h56
 obtain ⟨rfl, l62⟩ := o59
 exact Qi (XX (XP (s' := ⟨72, [u1, (3, .int .i64 p1)], []⟩) (l62) (zg [0, 3] 0 (rn h60))))
 have h61 := Ya h56
 obtain ⟨rfl, n63⟩ := o59
 exact Xb (Xb (Zk (rr h61 ⟨rfl, n63⟩)))
 have h30 := Ya h25
 obtain ⟨rfl, n64⟩ := o28
 exact Xb (Zk (Xb (Zk (rr h30 ⟨rfl, n64⟩))))
 exact ZV (XF (re h7 ⟨rfl, kq⟩))
 intro e67 s68 o69
 rcases y15 with g16 | y17
 have h70 := X9 h66
 exact zi o69 (Za (zg [2] 0 (Zb (Zh (er1 h70)))))
 have h71 := Ya h66
 obtain ⟨rfl, n73⟩ := o69
 refine Xb (Zk ?_)
 obtain rfl := Option.some.inj h71
 exact n73
theorem Up (a0 : Zf) (a1 : ByteArray) (r : Int) (h : M.YN a0 a1 = some r) : Fn Tryz.prog 156 [.agg (Zp a0), .str a1] (.pure (.int .i64 r)) := by
 unfold M.YN at h
 refine ZS Tryz.func156 rfl (by kernel_rfl) (Za (zg [1, 2] 1 (Zb (Za (Za (zg [1, 2, 5] 1 (Zb (Zi ?_))))))))
 obtain ⟨y3, q10, h11⟩ := bind_some h
 refine zl (fun (p1 : Int) => ⟨22, [(1, .str a1), (2, .ref 0 0), (5, .int .i64 p1)], [.box (Zp a0)]⟩) (Sum.elim (fun z => OutE 0 (fun z => ⟨22, [], []⟩) z) (fun z => OutR Tryz.prog Tryz.f156 (.int .i64 z))) q10 ?_ ?_
 intro p1 y2 h1
 unfold M.Qu at h1
 refine Za (Za (zg [1, 2, 5, 10] 1 (Zb (cn h1 (fun _ h3 => ?_) (fun _ h4 => ?_)))))
 refine Ze (Zb (Za (Zi (Za ?_))))
 obtain ⟨c5, h6⟩ := Zy h3
 refine zc [1, 2, 5, 20] 1 c5 (Zb (cn h6 (fun _ h8 => ?_) (fun _ h9 => ?_)))
 exact Za (zg [4] 0 (Zb (Zh (Xb (Zk (rr h8 ⟨rfl, er0 _⟩))))))
 exact Ze (XX (Zb (zg [1, 2, 5] 1 (rn h9))))
 exact ZV (XF (re h4 ⟨rfl, kc⟩))
 intro e12 s13 o14
 rcases y3 with g4 | y5
 have h15 := X9 h11
 exact zi o14 (Za (zg [4] 0 (Zb (Zh (er1 h15)))))
 have h16 := Ya h11
 obtain ⟨rfl, n18⟩ := o14
 refine Xb (Zk ?_)
 obtain rfl := Option.some.inj h16
 exact n18
theorem ZbM (a0 : Zf) (r : Int) (h : M.QZ a0 = some r) : Fn Tryz.prog 105 [.agg (Zp a0)] (.pure (.int .i64 r)) := by
 let u1 : Nat × D := (3, sL 2 ZY a0.XC)
 let u2 : List Ob := [.box (Zp a0)]
 unfold M.QZ at h
 refine ZS Tryz.func105 rfl (by kernel_rfl) (Za (zg [1] 1 (Zb (Za (zg [1, 3] 1 (Zb (Za (Za (zg [1, 3, 12] 1 (Zb (cn h (fun _ h2 => ?_) (fun _ h3 => ?_))))))))))))
 exact Za (zg [2] 0 (Zb (Zh (Zk (er1 h2)))))
 refine Ze (Zb (Za (Za (zg [1, 3, 4] 1 (Zb (Zi ?_))))))
 obtain ⟨y20, q78, h79⟩ := bind_some h3
 refine zl (fun (p1 : Int) => ⟨112, [(1, .ref 0 0), u1, (4, .int .i64 p1)], u2⟩) (Sum.elim (fun z => OutE 0 (fun z => ⟨112, [], []⟩) z) (fun z => OutR Tryz.prog Tryz.f105 (.int .i64 z))) q78 ?_ ?_
 intro p1 y2 h4
 unfold M.QO at h4
 refine Za (Za (zg [1, 3, 4, 16] 1 (Zb (cn h4 (fun _ h6 => ?_) (fun _ h7 => ?_)))))
 refine Ze (Zb (Za (Zi (Za (Za ?_)))))
 obtain ⟨r3, q8, h9⟩ := bind_some h6
 obtain ⟨c10, h11⟩ := Zy h9
 refine zr [1, 3, 4, 25] 1 c10 (rq1 (UJ _ _ q8) rqn) (Zb (cn h11 (fun _ h13 => ?_) (fun _ h14 => ?_)))
 exact Za (zg [2] 0 (Zb (Zh (Zk (Xb (Zk (rr h13 ⟨rfl, er0 _⟩)))))))
 refine Ze (Zb (Za (Za (zg [1, 3, 4, 5] 1 (Zb (Zi ?_))))))
 obtain ⟨y6, q24, h25⟩ := bind_some h14
 refine zl (fun (p4 : Int) => ⟨112, [(1, .ref 0 0), u1, (4, .int .i64 p1), (5, .int .i64 p4)], u2⟩) (Sum.elim (fun z => OutE 2 (fun z => ⟨112, [(1, .ref 0 0), u1, (4, .int .i64 p1)], u2⟩) z) (fun z => OutR Tryz.prog Tryz.f105 (.int .i64 z))) q24 ?_ ?_
 intro p4 y5 h15
 unfold M.QM at h15
 refine Za (Za (zg [1, 3, 4, 5, 28] 1 (Zb (cn h15 (fun _ h17 => ?_) (fun _ h18 => ?_)))))
 refine Ze (Zb (Za (Zi (Za ?_))))
 obtain ⟨c19, h20⟩ := Zy h17
 refine zc [1, 3, 4, 5, 41] 1 c19 (Zb (cn h20 (fun _ h22 => ?_) (fun _ h23 => ?_)))
 exact Za (zg [2] 0 (Zb (Zh (Xb (Zk (rr h22 ⟨rfl, er0 _⟩))))))
 exact Ze (XX (Zb (zg [1, 3, 4, 5] 1 (rn h23))))
 exact ZV (XF (re h18 ⟨rfl, kq⟩))
 intro e26 s27 o28
 rcases y6 with g7 | y8
 have h29 := X9 h25
 refine zi o28 (Za (Za ?_))
 obtain ⟨c32, h33⟩ := Zy h29
 refine zc [1, 3, 4, 48] 1 c32 (Zb (cn h33 (fun _ h35 => ?_) (fun _ h36 => ?_)))
 exact Za (zg [2] 0 (Zb (Zh (Zk (Xb (Zk (rr h35 ⟨rfl, er0 _⟩)))))))
 refine Ze (Zb (Za (Za ?_)))
 obtain ⟨c37, h38⟩ := Zy h36
 refine zc [1, 3, 4, 55] 1 c37 (Zb (cn h38 (fun _ h40 => ?_) (fun _ h41 => ?_)))
 exact Za (zg [2] 0 (Zb (Zh (Zk (Xb (Zk (rr h40 ⟨rfl, er0 _⟩)))))))
 refine Ze (Zb (Za (zg [1, 3, 4, 6] 1 (Zb (Zi ?_)))))
 obtain ⟨y17, q68, h69⟩ := bind_some h41
 refine zl (fun (p9 : Int) => ⟨112, [(1, .ref 0 0), u1, (4, .int .i64 p1), (6, .int .i64 p9)], u2⟩) (Sum.elim (fun z => OutE 4 (fun z => ⟨112, [(1, .ref 0 0), u1, (4, .int .i64 p1)], u2⟩) z) (fun z => OutR Tryz.prog Tryz.f105 (.int .i64 z))) q68 ?_ ?_
 intro p9 y10 h42
 unfold M.QN at h42
 refine Za (Za ?_)
 obtain ⟨c43, h44⟩ := Zy h42
 refine zc [1, 3, 4, 6, 63] 1 c43 (Zb (cn h44 (fun _ h46 => ?_) (fun _ h47 => ?_)))
 refine Ze (Zb (Za (Zi (Za ?_))))
 obtain ⟨c48, h49⟩ := Zy h46
 refine zc [1, 3, 4, 6, 7] 2 c48 (Zb (Za (Za ?_)))
 obtain ⟨r11, q50, h51⟩ := bind_some h49
 refine zr [1, 3, 4, 6, 7, 83] 2 ZA (rq2 (fun hg => Up _ _ _ (XN q50 hg)) rqn) (Zb (cn h51 (fun _ h53 => ?_) (fun _ h54 => ?_)))
 exact Za (zg [2] 0 (Zb (Zh (Zk (Xb (Zk (rr h53 ⟨rfl, er0 _⟩)))))))
 refine Ze (Zb (Za ?_))
 obtain ⟨r12, q55, h56⟩ := bind_some h54
 obtain ⟨r13, q57, h58⟩ := bind_some h56
 obtain ⟨r14, q59, h60⟩ := bind_some h58
 obtain ⟨r15, q61, h62⟩ := bind_some h60
 obtain ⟨r16, q63, h64⟩ := bind_some h62
 refine zr [1, 3, 4, 6, 111] 1 ZA (rq1 (XM _ _ _ _ q55) (rq2 (fun hg => XM _ _ _ _ (XN q57 hg)) (rq2 (fun hg => XM _ _ _ _ (XN q59 hg)) (rq2 (fun hg => XM _ _ _ _ (XN q61 hg)) (rq2 (fun hg => XM _ _ _ _ (XN q63 hg)) rqn))))) (Zb (cn h64 (fun _ h66 => ?_) (fun _ h67 => ?_)))
 exact Za (zg [2] 0 (Zb (Zh (Xb (Zk (rr h66 ⟨rfl, er0 _⟩))))))
 exact Ze (XX (Zb (zg [1, 3, 4, 6] 1 (rn h67))))
 exact ZV (XF (re h47 ⟨rfl, kq⟩))
 intro e70 s71 o72
 rcases y17 with g18 | y19
 have h73 := X9 h69
 obtain ⟨rfl, l75⟩ := o72
 exact Qi (XX (XP (s' := ⟨112, [(1, .ref 0 0), u1, (4, .int .i64 p1)], u2⟩) (l75) (zg [1, 3, 4] 1 (rn h73))))
 have h74 := Ya h69
 obtain ⟨rfl, n76⟩ := o72
 exact Xb (Xb (Zk (rr h74 ⟨rfl, n76⟩)))
 have h30 := Ya h25
 obtain ⟨rfl, n77⟩ := o28
 exact Xb (Zk (Xb (Zk (rr h30 ⟨rfl, n77⟩))))
 exact ZV (XF (re h7 ⟨rfl, kc⟩))
 intro e80 s81 o82
 rcases y20 with g21 | y22
 have h83 := X9 h79
 exact zi o82 (Za (zg [2] 0 (Zb (Zh (er1 h83)))))
 have h84 := Ya h79
 obtain ⟨rfl, n86⟩ := o82
 refine Xb (Zk ?_)
 obtain rfl := Option.some.inj h84
 exact n86
theorem Zay (a0 : Vz) (r : Bool) (h : M.VR a0 = some r) : Fn Tryz.prog 176 [.agg (Ks a0)] (.pure (.bool r)) := by
 unfold M.VR at h
 exact ZS Tryz.func176 rfl (by kernel_rfl) (Za (zg [1] 1 (Zb (Za (zg [2] 0 (Zb (Zh (er1 h))))))))
theorem ZcR (a0 : Vz) (r : Bool) (h : M.W7 a0 = some r) : Fn Tryz.prog 177 [.agg (Ks a0)] (.pure (.bool r)) := by
 unfold M.W7 at h
 exact ZS Tryz.func177 rfl (by kernel_rfl) (Za (zg [1] 1 (Zb (Za (zg [2] 0 (Zb (Zh (er1 h))))))))
theorem ZbN (a0 : Zd4) (r : Bool) (h : M.J3 a0 = some r) : Fn Tryz.prog 157 [.agg (Zfq a0)] (.pure (.bool r)) := by
 unfold M.J3 at h
 refine ZS Tryz.func157 rfl (by kernel_rfl) (Za (zg [1] 1 (Zb (Za (Za ?_)))))
 obtain ⟨r1, q1, h2⟩ := bind_some h
 obtain ⟨r2, q3, h4⟩ := bind_some h2
 obtain ⟨r3, q5, h6⟩ := bind_some h4
 refine zr [1, 38] 1 ZA (rq1 (XM _ _ _ _ q1) (rq2 (fun hg => Zay _ _ (XN q3 hg)) (rq2 (fun hg => Zay _ _ (XN q5 hg)) rqn))) (Zb (cn h6 (fun _ h8 => ?_) (fun _ h9 => ?_)))
 exact Za (zg [2] 0 (Zb (Zh (Zk (er1 h8)))))
 refine Ze (Zb (Za ?_))
 obtain ⟨r4, q10, h11⟩ := bind_some h9
 obtain ⟨r5, q12, h13⟩ := bind_some h11
 exact zr [2] 0 ZA (rq2 (fun hg => ZcR _ _ (XN q10 hg)) (rq2 (fun hg => ZcR _ _ (XN q12 hg)) rqn)) (Zb (Zh (er1 h13)))
theorem Zae (a0 : List WV) (r : Int) (h : M.Ql a0 = some r) : Fn Tryz.prog 106 [sL 2 Ys a0] (.pure (.int .i64 r)) := by
 let u1 : Nat × D := (0, sL 2 Ys a0)
 unfold M.Ql at h
 refine ZS Tryz.func106 rfl (by kernel_rfl) (Za (zg [0] 0 (Zb (Za (Za (zg [0, 8] 0 (Zb (cn h (fun _ h2 => ?_) (fun _ h3 => ?_)))))))))
 exact Za (zg [2] 0 (Zb (Zh (Zk (er1 h2)))))
 refine Ze (Zb (Za (Za (zg [0, 3] 0 (Zb (Zi ?_))))))
 obtain ⟨y15, q65, h66⟩ := bind_some h3
 refine zl (fun (p1 : Int) => ⟨72, [u1, (3, .int .i64 p1)], []⟩) (Sum.elim (fun z => OutE 0 (fun z => ⟨72, [], []⟩) z) (fun z => OutR Tryz.prog Tryz.f106 (.int .i64 z))) q65 ?_ ?_
 intro p1 y2 h4
 unfold M.Qh at h4
 refine Za (Za (zg [0, 3, 12] 0 (Zb (cn h4 (fun _ h6 => ?_) (fun _ h7 => ?_)))))
 refine Ze (Zb (Za (Zi (Za (Za ?_)))))
 obtain ⟨r3, q8, h9⟩ := bind_some h6
 obtain ⟨c10, h11⟩ := Zy h9
 refine zr [0, 3, 21] 0 c10 (rq1 (UJ _ _ q8) rqn) (Zb (cn h11 (fun _ h13 => ?_) (fun _ h14 => ?_)))
 exact Za (zg [2] 0 (Zb (Zh (Zk (Xb (Zk (rr h13 ⟨rfl, er0 _⟩)))))))
 refine Ze (Zb (Za (Za (zg [0, 3, 4] 0 (Zb (Zi ?_))))))
 obtain ⟨y6, q24, h25⟩ := bind_some h14
 refine zl (fun (p4 : Int) => ⟨72, [u1, (3, .int .i64 p1), (4, .int .i64 p4)], []⟩) (Sum.elim (fun z => OutE 2 (fun z => ⟨72, [u1, (3, .int .i64 p1)], []⟩) z) (fun z => OutR Tryz.prog Tryz.f106 (.int .i64 z))) q24 ?_ ?_
 intro p4 y5 h15
 unfold M.Qf at h15
 refine Za (Za (zg [0, 3, 4, 24] 0 (Zb (cn h15 (fun _ h17 => ?_) (fun _ h18 => ?_)))))
 refine Ze (Zb (Za (Zi (Za ?_))))
 obtain ⟨c19, h20⟩ := Zy h17
 refine zc [0, 3, 4, 37] 0 c19 (Zb (cn h20 (fun _ h22 => ?_) (fun _ h23 => ?_)))
 exact Za (zg [2] 0 (Zb (Zh (Xb (Zk (rr h22 ⟨rfl, er0 _⟩))))))
 exact Ze (XX (Zb (zg [0, 3, 4] 0 (rn h23))))
 exact ZV (XF (re h18 ⟨rfl, kq⟩))
 intro e26 s27 o28
 rcases y6 with g7 | y8
 have h29 := X9 h25
 refine zi o28 (Za (Za ?_))
 obtain ⟨c32, h33⟩ := Zy h29
 refine zc [0, 3, 44] 0 c32 (Zb (cn h33 (fun _ h35 => ?_) (fun _ h36 => ?_)))
 exact Za (zg [2] 0 (Zb (Zh (Zk (Xb (Zk (rr h35 ⟨rfl, er0 _⟩)))))))
 refine Ze (Zb (Za (Za ?_)))
 obtain ⟨c37, h38⟩ := Zy h36
 refine zc [0, 3, 51] 0 c37 (Zb (cn h38 (fun _ h40 => ?_) (fun _ h41 => ?_)))
 exact Za (zg [2] 0 (Zb (Zh (Zk (Xb (Zk (rr h40 ⟨rfl, er0 _⟩)))))))
 refine Ze (Zb (Za (zg [0, 3, 5] 0 (Zb (Zi ?_)))))
 obtain ⟨y12, q55, h56⟩ := bind_some h41
 refine zl (fun (p9 : Int) => ⟨72, [u1, (3, .int .i64 p1), (5, .int .i64 p9)], []⟩) (Sum.elim (fun z => OutE 4 (fun z => ⟨72, [u1, (3, .int .i64 p1)], []⟩) z) (fun z => OutR Tryz.prog Tryz.f106 (.int .i64 z))) q55 ?_ ?_
 intro p9 y10 h42
 unfold M.Qg at h42
 refine Za (Za ?_)
 obtain ⟨c43, h44⟩ := Zy h42
 refine zc [0, 3, 5, 59] 0 c43 (Zb (cn h44 (fun _ h46 => ?_) (fun _ h47 => ?_)))
 refine Ze (Zb (Za (Zi (Za ?_))))
 obtain ⟨r11, q48, h49⟩ := bind_some h46
 obtain ⟨c50, h51⟩ := Zy h49
 refine zr [0, 3, 5, 71] 0 c50 (rq1 (ZbN _ _ q48) rqn) (Zb (cn h51 (fun _ h53 => ?_) (fun _ h54 => ?_)))
 exact Za (zg [2] 0 (Zb (Zh (Xb (Zk (rr h53 ⟨rfl, er0 _⟩))))))
 exact Ze (XX (Zb (zg [0, 3, 5] 0 (rn h54))))
 exact ZV (XF (re h47 ⟨rfl, kq⟩))
 intro e57 s58 o59
 rcases y12 with g13 | y14
 have h60 := X9 h56
 obtain ⟨rfl, l62⟩ := o59
 exact Qi (XX (XP (s' := ⟨72, [u1, (3, .int .i64 p1)], []⟩) (l62) (zg [0, 3] 0 (rn h60))))
 have h61 := Ya h56
 obtain ⟨rfl, n63⟩ := o59
 exact Xb (Xb (Zk (rr h61 ⟨rfl, n63⟩)))
 have h30 := Ya h25
 obtain ⟨rfl, n64⟩ := o28
 exact Xb (Zk (Xb (Zk (rr h30 ⟨rfl, n64⟩))))
 exact ZV (XF (re h7 ⟨rfl, kq⟩))
 intro e67 s68 o69
 rcases y15 with g16 | y17
 have h70 := X9 h66
 exact zi o69 (Za (zg [2] 0 (Zb (Zh (er1 h70)))))
 have h71 := Ya h66
 obtain ⟨rfl, n73⟩ := o69
 refine Xb (Zk ?_)
 obtain rfl := Option.some.inj h71
 exact n73
theorem RA (a0 : Zf) (a1 : ByteArray) (r : Int) (h : M.Wp a0 a1 = some r) : Fn Tryz.prog 158 [.agg (Zp a0), .str a1] (.pure (.int .i64 r)) := by
 unfold M.Wp at h
 refine ZS Tryz.func158 rfl (by kernel_rfl) (Za (zg [1, 2] 1 (Zb (Za (Za (zg [1, 2, 5] 1 (Zb (Zi ?_))))))))
 obtain ⟨y3, q10, h11⟩ := bind_some h
 refine zl (fun (p1 : Int) => ⟨22, [(1, .str a1), (2, .ref 0 0), (5, .int .i64 p1)], [.box (Zp a0)]⟩) (Sum.elim (fun z => OutE 0 (fun z => ⟨22, [], []⟩) z) (fun z => OutR Tryz.prog Tryz.f158 (.int .i64 z))) q10 ?_ ?_
 intro p1 y2 h1
 unfold M.V5 at h1
 refine Za (Za (zg [1, 2, 5, 10] 1 (Zb (cn h1 (fun _ h3 => ?_) (fun _ h4 => ?_)))))
 refine Ze (Zb (Za (Zi (Za ?_))))
 obtain ⟨c5, h6⟩ := Zy h3
 refine zc [1, 2, 5, 20] 1 c5 (Zb (cn h6 (fun _ h8 => ?_) (fun _ h9 => ?_)))
 exact Za (zg [4] 0 (Zb (Zh (Xb (Zk (rr h8 ⟨rfl, er0 _⟩))))))
 exact Ze (XX (Zb (zg [1, 2, 5] 1 (rn h9))))
 exact ZV (XF (re h4 ⟨rfl, kc⟩))
 intro e12 s13 o14
 rcases y3 with g4 | y5
 have h15 := X9 h11
 exact zi o14 (Za (zg [4] 0 (Zb (Zh (er1 h15)))))
 have h16 := Ya h11
 obtain ⟨rfl, n18⟩ := o14
 refine Xb (Zk ?_)
 obtain rfl := Option.some.inj h16
 exact n18
theorem RB (a0 : Zf) (r : Int) (h : M.YV a0 = some r) : Fn Tryz.prog 107 [.agg (Zp a0)] (.pure (.int .i64 r)) := by
 unfold M.YV at h
 refine ZS Tryz.func107 rfl (by kernel_rfl) (Za (zg [1] 1 (Zb (Za (Za (zg [1, 9] 1 (Zb (cn h (fun _ h2 => ?_) (fun _ h3 => ?_)))))))))
 exact Za (zg [2] 0 (Zb (Zh (Zk (er1 h2)))))
 refine Ze (Zb (Za (Za (zg [1, 3] 1 (Zb (Zi ?_))))))
 obtain ⟨y7, q33, h34⟩ := bind_some h3
 refine zl (fun (p1 : Int) => ⟨135, [(1, .ref 0 0), (3, .int .i64 p1)], [.box (Zp a0)]⟩) (Sum.elim (fun z => OutE 0 (fun z => ⟨135, [], []⟩) z) (fun z => OutR Tryz.prog Tryz.f107 (.int .i64 z))) q33 ?_ ?_
 intro p1 y2 h4
 let u1 := a0.Xd.getD p1.toNat default
 let u2 := ((u1.Jz) != 0) && ((u1.Qz) != 0)
 let u3 : List Ob := [.box (Zp a0), .box (Z3 u1)]
 unfold M.YU at h4
 refine Za (Za (zg [1, 3, 14] 1 (Zb (cn h4 (fun _ h6 => ?_) (fun _ h7 => ?_)))))
 refine Ze (Zb (Za (Zi (Za ?_))))
 obtain ⟨c8, h9⟩ := Zy h6
 refine zc [1, 3, 4] 2 c8 (Zb (Za (rg0 [1, 3, 4, 5] 2 ⟨135, [(1, .ref 0 0), (3, .int .i64 p1), (4, .ref 1 0), (5, .bool false)], u3⟩ (Zb (WT (fun (p3 : Bool) => ⟨135, [(1, .ref 0 0), (3, .int .i64 p1), (4, .ref 1 0), (5, .bool p3)], u3⟩) (fun p3 => M.XS a0 p1 p3 = some y2) ?_ ?_)))))
 intro p3 h11
 unfold M.XS at h11
 refine Za (Za (zg [1, 3, 4, 124] 2 (Zb (cn h11 (fun _ h13 => ?_) (fun _ h14 => ?_)))))
 exact Za (zg [2] 0 (Zb (Zh (Zk (Xb (Zk (rr h13 ⟨rfl, er0 _⟩)))))))
 refine Ze (Zb (Za ?_))
 obtain ⟨r4, q15, h16⟩ := bind_some h14
 refine zr [1, 3, 134] 1 ZA (rq2 (fun hg => RA _ _ _ (XN q15 hg)) rqn) (Zb (cn h16 (fun _ h18 => ?_) (fun _ h19 => ?_)))
 exact Za (zg [2] 0 (Zb (Zh (Xb (Zk (rr h18 ⟨rfl, er0 _⟩))))))
 exact Ze (XX (Zb (zg [1, 3] 1 (rn h19))))
 intro k10
 refine Za (zg [1, 3, 4, 5, 23] 2 (Zb (Zi (Za (zg [1, 3, 4, 5, 23, 24] 2 (Zb (cn h9 (fun _ h21 => ?_) (fun _ h22 => ?_))))))))
 exact zg [1, 3, 4, 5] 2 (XX (XP lk (k10 (u2 && (((u1.Wj) == (u1.Wj)) && (((u1.Jz) == (u1.Jz)) && (((u1.Qz) == (u1.Qz)) && (((u1.YQ) == 0) && (((u1.JO) == 0) && (((u1.Je) == 0) && (strEq (u1.JZ) (⟨#[]⟩ : ByteArray) && (((u1.G8) == 0) && (((u1.KQ) == 0) && true)))))))))) h21)))
 refine Za (zg [1, 3, 4, 5, 23, 45] 2 (Zb (cn h22 (fun _ h24 => ?_) (fun _ h25 => ?_))))
 exact zg [1, 3, 4, 5] 2 (XX (XP lk (k10 (((((u1.G8) != 0) && (decide ((u1.G8) ≤ (u1.KQ)))) && (decide ((wr .u32 ((u1.KQ) - (u1.G8))) < 8))) && (((u1.Wj) == (u1.Wj)) && (((u1.Jz) == 0) && (((u1.Qz) == 0) && (((u1.YQ) == 0) && (((u1.JO) == 0) && (((u1.Je) == 0) && (strEq (u1.JZ) (u1.JZ) && (((u1.G8) == (u1.G8)) && (((u1.KQ) == (u1.KQ)) && true)))))))))) h24)))
 refine Za (zg [1, 3, 4, 5, 78] 2 (Zb (cn h25 (fun _ h27 => ?_) (fun _ h28 => ?_))))
 obtain ⟨r5, q29, h30⟩ := bind_some h27
 obtain ⟨r6, q31, h32⟩ := bind_some h30
 exact zr [1, 3, 4, 5] 2 ZA (rq2 (fun hg => XM _ _ _ _ (XN q29 hg)) (rq2 (fun hg => XM _ _ _ _ (XN q31 hg)) rqn)) (XX (XP lk (k10 ((((((u2 && (((u1.YQ) == 6) || ((u1.YQ) == 17))) && r5) && r6) && (strEq (u1.JZ) (⟨#[]⟩ : ByteArray))) && ((u1.G8) == 0)) && ((u1.KQ) == 0)) h32)))
 exact Ze (XX (XP kq (k10 false h28)))
 exact ZV (XF (re h7 ⟨rfl, kc⟩))
 intro e35 s36 o37
 rcases y7 with g8 | y9
 have h38 := X9 h34
 exact zi o37 (Za (zg [2] 0 (Zb (Zh (er1 h38)))))
 have h39 := Ya h34
 obtain ⟨rfl, n41⟩ := o37
 refine Xb (Zk ?_)
 obtain rfl := Option.some.inj h39
 exact n41
theorem ZcZ (a0 : Zf) (r : Int) (h : M.J4 a0 = some r) : Fn Tryz.prog 108 [.agg (Zp a0)] (.pure (.int .i64 r)) := by
 unfold M.J4 at h
 refine ZS Tryz.func108 rfl (by kernel_rfl) (Za (zg [1] 1 (Zb (Za (Za (zg [1, 3] 1 (Zb (Zi ?_))))))))
 obtain ⟨y5, q14, h15⟩ := bind_some h
 refine zl (fun (p1 : Int) => ⟨39, [(1, .ref 0 0), (3, .int .i64 p1)], [.box (Zp a0)]⟩) (Sum.elim (fun z => OutE 0 (fun z => ⟨39, [], []⟩) z) (fun z => OutR Tryz.prog Tryz.f108 (.int .i64 z))) q14 ?_ ?_
 intro p1 y2 h1
 unfold M.JA at h1
 refine Za (Za (zg [1, 3, 9] 1 (Zb (cn h1 (fun _ h3 => ?_) (fun _ h4 => ?_)))))
 refine Ze (Zb (Za (Zi (Za ?_))))
 obtain ⟨c5, h6⟩ := Zy h3
 refine zc [1, 3, 4] 2 c5 (Zb (Za ?_))
 obtain ⟨r3, q7, h8⟩ := bind_some h6
 obtain ⟨r4, q9, h10⟩ := bind_some h8
 refine zr [1, 3, 38] 1 ZA (rq2 (fun hg => RA _ _ _ (XN q7 hg)) (rq2 (fun hg => RA _ _ _ (XN q9 hg)) rqn)) (Zb (cn h10 (fun _ h12 => ?_) (fun _ h13 => ?_)))
 exact Za (zg [2] 0 (Zb (Zh (Xb (Zk (rr h12 ⟨rfl, er0 _⟩))))))
 exact Ze (XX (Zb (zg [1, 3] 1 (rn h13))))
 exact ZV (XF (re h4 ⟨rfl, kc⟩))
 intro e16 s17 o18
 rcases y5 with g6 | y7
 have h19 := X9 h15
 exact zi o18 (Za (zg [2] 0 (Zb (Zh (er1 h19)))))
 have h20 := Ya h15
 obtain ⟨rfl, n22⟩ := o18
 refine Xb (Zk ?_)
 obtain rfl := Option.some.inj h20
 exact n22
theorem KO (a0 : Zf) (a1 : Int) (r : Int) (h : M.QP a0 a1 = some r) : Fn Tryz.prog 66 [.agg (Zp a0), .int .u32 a1] (.pure (.int .i64 r)) := by
 unfold M.QP at h
 refine ZS Tryz.func66 rfl (by kernel_rfl) (Za (zg [1, 2] 1 (Zb (Za (Za (zg [1, 2, 5] 1 (Zb (Zi ?_))))))))
 obtain ⟨y3, q10, h11⟩ := bind_some h
 refine zl (fun (p1 : Int) => ⟨31, [(1, .int .u32 a1), (2, .ref 0 0), (5, .int .i64 p1)], [.box (Zp a0)]⟩) (Sum.elim (fun z => OutE 0 (fun z => ⟨31, [], []⟩) z) (fun z => OutR Tryz.prog Tryz.f66 (.int .i64 z))) q10 ?_ ?_
 intro p1 y2 h1
 unfold M.JB at h1
 refine Za (Za (zg [1, 2, 5, 10] 1 (Zb (cn h1 (fun _ h3 => ?_) (fun _ h4 => ?_)))))
 refine Ze (Zb (Za (Zi (Za ?_))))
 obtain ⟨c5, h6⟩ := Zy h3
 refine zc [1, 2, 5, 29] 1 c5 (Zb (cn h6 (fun _ h8 => ?_) (fun _ h9 => ?_)))
 exact Za (zg [4] 0 (Zb (Zh (Xb (Zk (rr h8 ⟨rfl, er0 _⟩))))))
 exact Ze (XX (Zb (zg [1, 2, 5] 1 (rn h9))))
 exact ZV (XF (re h4 ⟨rfl, kc⟩))
 intro e12 s13 o14
 rcases y3 with g4 | y5
 have h15 := X9 h11
 exact zi o14 (Za (zg [4] 0 (Zb (Zh (er1 h15)))))
 have h16 := Ya h11
 obtain ⟨rfl, n18⟩ := o14
 refine Xb (Zk ?_)
 obtain rfl := Option.some.inj h16
 exact n18
theorem ZbO (a0 : Zf) (a1 : ByteArray) (r : Int) (h : M.Q0 a0 a1 = some r) : Fn Tryz.prog 160 [.agg (Zp a0), .str a1] (.pure (.int .i64 r)) := by
 unfold M.Q0 at h
 refine ZS Tryz.func160 rfl (by kernel_rfl) (Za (zg [1, 2] 1 (Zb (Za (Za (zg [1, 2, 5] 1 (Zb (Zi ?_))))))))
 obtain ⟨y3, q10, h11⟩ := bind_some h
 refine zl (fun (p1 : Int) => ⟨22, [(1, .str a1), (2, .ref 0 0), (5, .int .i64 p1)], [.box (Zp a0)]⟩) (Sum.elim (fun z => OutE 0 (fun z => ⟨22, [], []⟩) z) (fun z => OutR Tryz.prog Tryz.f160 (.int .i64 z))) q10 ?_ ?_
 intro p1 y2 h1
 unfold M.Qn at h1
 refine Za (Za (zg [1, 2, 5, 10] 1 (Zb (cn h1 (fun _ h3 => ?_) (fun _ h4 => ?_)))))
 refine Ze (Zb (Za (Zi (Za ?_))))
 obtain ⟨c5, h6⟩ := Zy h3
 refine zc [1, 2, 5, 20] 1 c5 (Zb (cn h6 (fun _ h8 => ?_) (fun _ h9 => ?_)))
 exact Za (zg [4] 0 (Zb (Zh (Xb (Zk (rr h8 ⟨rfl, er0 _⟩))))))
 exact Ze (XX (Zb (zg [1, 2, 5] 1 (rn h9))))
 exact ZV (XF (re h4 ⟨rfl, kc⟩))
 intro e12 s13 o14
 rcases y3 with g4 | y5
 have h15 := X9 h11
 exact zi o14 (Za (zg [4] 0 (Zb (Zh (er1 h15)))))
 have h16 := Ya h11
 obtain ⟨rfl, n18⟩ := o14
 refine Xb (Zk ?_)
 obtain rfl := Option.some.inj h16
 exact n18
theorem Zc0 (a0 : Zf) (r : Int) (h : M.J5 a0 = some r) : Fn Tryz.prog 109 [.agg (Zp a0)] (.pure (.int .i64 r)) := by
 let u4 := Zp a0
 unfold M.J5 at h
 refine ZS Tryz.func109 rfl (by kernel_rfl) (Za (zg [1] 1 (Zb (Za (Za (zg [1, 11] 1 (Zb (cn h (fun _ h2 => ?_) (fun _ h3 => ?_)))))))))
 exact Za (zg [2] 0 (Zb (Zh (Zk (er1 h2)))))
 refine Ze (Zb (Za (Za (zg [1, 3] 1 (Zb (Zi ?_))))))
 obtain ⟨y17, q69, h70⟩ := bind_some h3
 refine zl (fun (p1 : Int) => ⟨111, [(1, .ref 0 0), (3, .int .i64 p1)], [.box u4]⟩) (Sum.elim (fun z => OutE 0 (fun z => ⟨111, [], []⟩) z) (fun z => OutR Tryz.prog Tryz.f109 (.int .i64 z))) q69 ?_ ?_
 intro p1 y2 h4
 let u1 := a0.Zq.getD p1.toNat default
 let u2 : List Ob := [.box u4, .box (Xc u1)]
 unfold M.JD at h4
 refine Za (Za (zg [1, 3, 16] 1 (Zb (cn h4 (fun _ h6 => ?_) (fun _ h7 => ?_)))))
 refine Ze (Zb (Za (Zi (Za ?_))))
 obtain ⟨c8, h9⟩ := Zy h6
 refine zc [1, 3, 4] 2 c8 (Zb (Za (rg0 [1, 3, 4, 5] 2 ⟨111, [(1, .ref 0 0), (3, .int .i64 p1), (4, .ref 1 0), (5, .int .i64 0)], u2⟩ (Zb (WT (fun (p3 : Int) => ⟨111, [(1, .ref 0 0), (3, .int .i64 p1), (4, .ref 1 0), (5, .int .i64 p3)], u2⟩) (fun p3 => M.QE a0 p1 p3 = some y2) ?_ ?_)))))
 intro p3 h11
 unfold M.QE at h11
 refine WT (fun (p4 : Int) => ⟨111, [(1, .ref 0 0), (3, .int .i64 p1), (4, .ref 1 0), (5, .int .i64 p4)], u2⟩) (fun p4 => M.QD a0 p1 p4 = some y2) ?_ ?_
 intro p4 h13
 unfold M.QD at h13
 refine WT (fun (p5 : Int) => ⟨111, [(1, .ref 0 0), (3, .int .i64 p1), (4, .ref 1 0), (5, .int .i64 p5)], u2⟩) (fun p5 => M.QC a0 p1 p5 = some y2) ?_ ?_
 intro p5 h15
 unfold M.QC at h15
 refine Za (Za ?_)
 obtain ⟨r6, q16, h17⟩ := bind_some h15
 obtain ⟨r7, q18, h19⟩ := bind_some h17
 let u3 := ((!r6) || (p5 != 1)) || (((u1.UG) != 0) && (decide (r7 ≥ 0)))
 obtain ⟨r8, q20, h21⟩ := bind_some h19
 obtain ⟨r9, q22, h23⟩ := bind_some h21
 refine rg [.pure (.bool r6), .pure (.int .i64 r7), .pure (.bool r8), .pure (.bool r9)] [1, 3, 4, 69] 2 ⟨111, [(1, .ref 0 0), (3, .int .i64 p1), (4, .ref 1 0), (69, .bool ((u3 || (!r8)) || (!r9)))], u2⟩ [] [⟨true, 159, [.agg (Xg (u1.Zo))], .pure (.bool r6)⟩, ⟨((!((!r6) || (p5 != 1))) && ((u1.UG) != 0)), 66, [.agg u4, .int .u32 (u1.UG)], .pure (.int .i64 r7)⟩, ⟨(!u3), 102, [.int .i64 (u1.Xq), .int .i64 1, .int .i64 255], .pure (.bool r8)⟩, ⟨(!(u3 || (!r8))), 102, [.int .i64 (u1.Kr), .int .i64 0, .int .i64 65535], .pure (.bool r9)⟩] ZA ⟨fun _ => Wh (u1.Zo) r6 q16, fun hg => KO a0 (u1.UG) r7 (XN q18 hg), fun hg => XM (u1.Xq) 1 255 r8 (XN q20 hg), fun hg => XM (u1.Kr) 0 65535 r9 (XN q22 hg), trivial⟩ (Zb (cn h23 (fun _ h25 => ?_) (fun _ h26 => ?_)))
 exact Za (zg [2] 0 (Zb (Zh (Zk (Xb (Zk (rr h25 ⟨rfl, er0 _⟩)))))))
 refine Ze (Zb (WT (fun (p10 : Unit) => ⟨111, [(1, .ref 0 0), (3, .int .i64 p1), (4, .ref 1 0)], u2⟩) (fun p10 => M.QB a0 p1 p10 = some y2) ?_ ?_))
 intro p10 h28
 unfold M.QB at h28
 refine Za (zg [1, 3, 4, 7] 2 (Zb (Zi ?_)))
 obtain ⟨y13, q38, h39⟩ := bind_some h28
 refine zl (fun (p11 : Int) => ⟨111, [(1, .ref 0 0), (3, .int .i64 p1), (4, .ref 1 0), (7, .int .i64 p11)], u2⟩) (Sum.elim (fun z => OutE 2 (fun z => ⟨111, [(1, .ref 0 0), (3, .int .i64 p1)], [.box u4]⟩) z) (fun z => OutR Tryz.prog Tryz.f109 (.int .i64 z))) q38 ?_ ?_
 intro p11 y12 h29
 unfold M.JC at h29
 refine Za (Za (zg [1, 3, 4, 7, 88] 2 (Zb (cn h29 (fun _ h31 => ?_) (fun _ h32 => ?_)))))
 refine Ze (Zb (Za (Zi (Za ?_))))
 obtain ⟨c33, h34⟩ := Zy h31
 refine zc [1, 3, 4, 7, 110] 2 c33 (Zb (cn h34 (fun _ h36 => ?_) (fun _ h37 => ?_)))
 exact Za (zg [2] 0 (Zb (Zh (Xb (Zk (rr h36 ⟨rfl, er0 _⟩))))))
 exact Ze (XX (Zb (zg [1, 3, 4, 7] 2 (rn h37))))
 exact ZV (XF (re h32 ⟨rfl, kc⟩))
 intro e40 s41 o42
 rcases y13 with g14 | y15
 have h43 := X9 h39
 obtain ⟨rfl, l45⟩ := o42
 exact Qi (XX (XP (s' := ⟨111, [(1, .ref 0 0), (3, .int .i64 p1)], [.box u4]⟩) (l45) (zg [1, 3] 1 (rn h43))))
 have h44 := Ya h39
 obtain ⟨rfl, n46⟩ := o42
 exact Xb (Xb (Zk (rr h44 ⟨rfl, n46⟩)))
 intro k27
 refine Za (zg [1, 3, 4, 72] 2 (Zb (cn h26 (fun _ h48 => ?_) (fun _ h49 => ?_))))
 refine Za ?_
 obtain ⟨r16, q50, h51⟩ := bind_some h48
 refine zr [1, 3, 4, 6] 2 ZA (rq1 (ZbO _ _ _ q50) rqn) (Zb (Za (Za (zg [1, 3, 4, 6, 78] 2 (Zb (cn h51 (fun _ h53 => ?_) (fun _ h54 => ?_)))))))
 exact Za (zg [2] 0 (Zb (Zh (Zk (Zk (Xb (Zk (rr h53 ⟨rfl, er0 _⟩))))))))
 refine Ze (Zb (Za ?_))
 obtain ⟨c55, h56⟩ := Zy h54
 refine zc [1, 3, 4, 85] 2 c55 (Zb (cn h56 (fun _ h58 => ?_) (fun _ h59 => ?_)))
 exact Za (zg [2] 0 (Zb (Zh (Zk (Xb (Zk (rr h58 ⟨rfl, er0 _⟩)))))))
 exact Ze (XP kq (k27 () h59))
 exact Ze (XP kq (k27 () h49))
 intro k14
 refine Za (zg [1, 3, 4, 5, 35] 2 (Zb (cn h13 (fun _ h61 => ?_) (fun _ h62 => ?_))))
 exact zg [1, 3, 4, 5] 2 (XP lk (k14 (wr .i64 (p4 + 1)) h61))
 exact Ze (XP kq (k14 p4 h62))
 intro k12
 refine Za (zg [1, 3, 4, 5, 31] 2 (Zb (cn h11 (fun _ h64 => ?_) (fun _ h65 => ?_))))
 exact zg [1, 3, 4, 5] 2 (XP lk (k12 (wr .i64 (p3 + 1)) h64))
 exact Ze (XP kq (k12 p3 h65))
 intro k10
 refine Za (zg [1, 3, 4, 5, 26] 2 (Zb (cn h9 (fun _ h67 => ?_) (fun _ h68 => ?_))))
 exact zg [1, 3, 4, 5] 2 (XP lk (k10 1 h67))
 exact Ze (XP kq (k10 0 h68))
 exact ZV (XF (re h7 ⟨rfl, kc⟩))
 intro e71 s72 o73
 rcases y17 with g18 | y19
 have h74 := X9 h70
 exact zi o73 (Za (zg [2] 0 (Zb (Zh (er1 h74)))))
 have h75 := Ya h70
 obtain ⟨rfl, n77⟩ := o73
 refine Xb (Zk ?_)
 obtain rfl := Option.some.inj h75
 exact n77
theorem UU (a0 : Zf) (a1 : ByteArray) (r : Int) (h : M.QH a0 a1 = some r) : Fn Tryz.prog 178 [.agg (Zp a0), .str a1] (.pure (.int .i64 r)) := by
 unfold M.QH at h
 refine ZS Tryz.func178 rfl (by kernel_rfl) (Za (zg [1, 2] 1 (Zb (Za (Za (zg [1, 2, 5] 1 (Zb (Zi ?_))))))))
 obtain ⟨y3, q10, h11⟩ := bind_some h
 refine zl (fun (p1 : Int) => ⟨22, [(1, .str a1), (2, .ref 0 0), (5, .int .i64 p1)], [.box (Zp a0)]⟩) (Sum.elim (fun z => OutE 0 (fun z => ⟨22, [], []⟩) z) (fun z => OutR Tryz.prog Tryz.f178 (.int .i64 z))) q10 ?_ ?_
 intro p1 y2 h1
 unfold M.Jg at h1
 refine Za (Za (zg [1, 2, 5, 10] 1 (Zb (cn h1 (fun _ h3 => ?_) (fun _ h4 => ?_)))))
 refine Ze (Zb (Za (Zi (Za ?_))))
 obtain ⟨c5, h6⟩ := Zy h3
 refine zc [1, 2, 5, 20] 1 c5 (Zb (cn h6 (fun _ h8 => ?_) (fun _ h9 => ?_)))
 exact Za (zg [4] 0 (Zb (Zh (Xb (Zk (rr h8 ⟨rfl, er0 _⟩))))))
 exact Ze (XX (Zb (zg [1, 2, 5] 1 (rn h9))))
 exact ZV (XF (re h4 ⟨rfl, kc⟩))
 intro e12 s13 o14
 rcases y3 with g4 | y5
 have h15 := X9 h11
 exact zi o14 (Za (zg [4] 0 (Zb (Zh (er1 h15)))))
 have h16 := Ya h11
 obtain ⟨rfl, n18⟩ := o14
 refine Xb (Zk ?_)
 obtain rfl := Option.some.inj h16
 exact n18
theorem Wz (a0 : Zf) (a1 : List YJ) (a2 : Int) (a3 : Int) (a4 : Int) (r : Int) (h : M.X1 a0 a1 a2 a3 a4 = some r) : Fn Tryz.prog 161 [.agg (Zp a0), sL 5 Zx a1, .int .i64 a2, .int .i64 a3, .int .i64 a4] (.pure (.int .i64 r)) := by
 let u1 : Nat × D := (1, sL 5 Zx a1)
 let u2 := Zp a0
 unfold M.X1 at h
 refine ZS Tryz.func161 rfl (by kernel_rfl) (Za (zg [1, 2, 3, 4, 5] 1 (Zb (Za (Za (zg [1, 2, 3, 4, 5, 16] 1 (Zb (cn h (fun _ h2 => ?_) (fun _ h3 => ?_)))))))))
 exact Za (zg [10] 0 (Zb (Zh (Zk (er1 h2)))))
 refine Ze (Zb (Za (Za (zg [1, 2, 3, 4, 5, 11] 1 (Zb (Zi ?_))))))
 obtain ⟨y12, q45, h46⟩ := bind_some h3
 refine zl (fun (p1 : Int) => ⟨95, [u1, (2, .int .i64 a2), (3, .int .i64 a3), (4, .int .i64 a4), (5, .ref 0 0), (11, .int .i64 p1)], [.box u2]⟩) (Sum.elim (fun z => OutE 0 (fun z => ⟨95, [], []⟩) z) (fun z => OutR Tryz.prog Tryz.f161 (.int .i64 z))) q45 ?_ ?_
 intro p1 y2 h4
 unfold M.Yk at h4
 refine Za (Za (zg [1, 2, 3, 4, 5, 11, 20] 1 (Zb (cn h4 (fun _ h6 => ?_) (fun _ h7 => ?_)))))
 refine Ze (Zb (Za (Zi (Za ?_))))
 obtain ⟨c8, h9⟩ := Zy h6
 refine zc [1, 2, 3, 4, 5, 11, 12] 2 c8 (Zb (Za (Za ?_)))
 obtain ⟨r3, q10, h11⟩ := bind_some h9
 obtain ⟨r4, q12, h13⟩ := bind_some h11
 obtain ⟨r5, q14, h15⟩ := bind_some h13
 refine zr [1, 2, 3, 4, 5, 11, 12, 50] 2 ZA (rq1 (XM _ _ _ _ q10) (rq2 (fun hg => XM _ _ _ _ (XN q12 hg)) (rq2 (fun hg => XM _ _ _ _ (XN q14 hg)) rqn))) (Zb (cn h15 (fun _ h17 => ?_) (fun _ h18 => ?_)))
 exact Za (zg [10] 0 (Zb (Zh (Zk (Xb (Zk (rr h17 ⟨rfl, er0 _⟩)))))))
 refine Ze (Zb (Za (Za (zg [1, 2, 3, 4, 5, 11, 12, 71] 2 (Zb (cn h18 (fun _ h20 => ?_) (fun _ h21 => ?_)))))))
 exact Za (zg [10] 0 (Zb (Zh (Zk (Xb (Zk (rr h20 ⟨rfl, er0 _⟩)))))))
 refine Ze (Zb (Za (Za ?_)))
 obtain ⟨r6, q22, h23⟩ := bind_some h21
 refine zr [1, 2, 3, 4, 5, 11, 12, 81] 2 ZA (rq2 (fun hg => UU _ _ _ (XN q22 hg)) rqn) (Zb (cn h23 (fun _ h25 => ?_) (fun _ h26 => ?_)))
 exact Za (zg [10] 0 (Zb (Zh (Zk (Xb (Zk (rr h25 ⟨rfl, er0 _⟩)))))))
 refine Ze (Zb (Za (zg [1, 2, 3, 4, 5, 11, 12, 13] 2 (Zb (Zi ?_)))))
 obtain ⟨y9, q36, h37⟩ := bind_some h26
 refine zl (fun (p7 : Int) => ⟨95, [u1, (2, .int .i64 a2), (3, .int .i64 a3), (4, .int .i64 a4), (5, .ref 0 0), (11, .int .i64 p1), (12, .ref 1 0), (13, .int .i64 p7)], [.box u2, .box (Zx (a1.getD p1.toNat default))]⟩) (Sum.elim (fun z => OutE 2 (fun z => ⟨95, [u1, (2, .int .i64 a2), (3, .int .i64 a3), (4, .int .i64 a4), (5, .ref 0 0), (11, .int .i64 p1)], [.box u2]⟩) z) (fun z => OutR Tryz.prog Tryz.f161 (.int .i64 z))) q36 ?_ ?_
 intro p7 y8 h27
 unfold M.Yj at h27
 refine Za (Za (zg [1, 2, 3, 4, 5, 11, 12, 13, 84] 2 (Zb (cn h27 (fun _ h29 => ?_) (fun _ h30 => ?_)))))
 refine Ze (Zb (Za (Zi (Za ?_))))
 obtain ⟨c31, h32⟩ := Zy h29
 refine zc [1, 2, 3, 4, 5, 11, 12, 13, 94] 2 c31 (Zb (cn h32 (fun _ h34 => ?_) (fun _ h35 => ?_)))
 exact Za (zg [10] 0 (Zb (Zh (Xb (Zk (rr h34 ⟨rfl, er0 _⟩))))))
 exact Ze (XX (Zb (zg [1, 2, 3, 4, 5, 11, 12, 13] 2 (rn h35))))
 exact ZV (XF (re h30 ⟨rfl, kc⟩))
 intro e38 s39 o40
 rcases y9 with g10 | y11
 have h41 := X9 h37
 obtain ⟨rfl, l43⟩ := o40
 exact Qi (XX (XP (s' := ⟨95, [u1, (2, .int .i64 a2), (3, .int .i64 a3), (4, .int .i64 a4), (5, .ref 0 0), (11, .int .i64 p1)], [.box u2]⟩) (l43) (zg [1, 2, 3, 4, 5, 11] 1 (rn h41))))
 have h42 := Ya h37
 obtain ⟨rfl, n44⟩ := o40
 exact Xb (Xb (Zk (rr h42 ⟨rfl, n44⟩)))
 exact ZV (XF (re h7 ⟨rfl, kc⟩))
 intro e47 s48 o49
 rcases y12 with g13 | y14
 have h50 := X9 h46
 exact zi o49 (Za (zg [10] 0 (Zb (Zh (er1 h50)))))
 have h51 := Ya h46
 obtain ⟨rfl, n53⟩ := o49
 refine Xb (Zk ?_)
 obtain rfl := Option.some.inj h51
 exact n53
theorem ZbP (a0 : Zf) (r : Int) (h : M.Q1 a0 = some r) : Fn Tryz.prog 110 [.agg (Zp a0)] (.pure (.int .i64 r)) := by
 let u1 : List Ob := [.box (Zp a0), .box (ZbD a0.Yf)]
 unfold M.Q1 at h
 refine ZS Tryz.func110 rfl (by kernel_rfl) (Za (zg [1] 1 (Zb (Za (zg [1, 3] 2 (Zb (Za (Za (zg [1, 3, 10] 2 (Zb (cn h (fun _ h2 => ?_) (fun _ h3 => ?_))))))))))))
 refine Za (Za (zg [25] 0 (Zb (cn h2 (fun _ h5 => ?_) (fun _ h6 => ?_)))))
 exact Za (zg [2] 0 (Zb (Zh (Zk (Zk (er1 h5))))))
 exact Ze (Zb (Za (zg [2] 0 (Zb (Zh (Zk (er1 h6)))))))
 refine Ze (Zb (Za (Za ?_)))
 obtain ⟨r1, q7, h8⟩ := bind_some h3
 refine zr [1, 3, 29] 2 ZA (rq1 (XM _ _ _ _ q7) rqn) (Zb (cn h8 (fun _ h10 => ?_) (fun _ h11 => ?_)))
 exact Za (zg [2] 0 (Zb (Zh (Zk (er1 h10)))))
 refine Ze (Zb (Za (Za (zg [1, 3, 33] 2 (Zb (cn h11 (fun _ h13 => ?_) (fun _ h14 => ?_)))))))
 exact Za (zg [2] 0 (Zb (Zh (Zk (er1 h13)))))
 refine Ze (Zb (Za (Za (zg [1, 3, 4] 2 (Zb (Zi ?_))))))
 obtain ⟨y12, q48, h49⟩ := bind_some h14
 refine zl (fun (p2 : Int) => ⟨96, [(1, .ref 0 0), (3, .ref 1 0), (4, .int .i64 p2)], u1⟩) (Sum.elim (fun z => OutE 0 (fun z => ⟨96, [(1, .ref 0 0), (3, .ref 1 0)], u1⟩) z) (fun z => OutR Tryz.prog Tryz.f110 (.int .i64 z))) q48 ?_ ?_
 intro p2 y3 h15
 unfold M.QR at h15
 refine Za (Za (zg [1, 3, 4, 38] 2 (Zb (cn h15 (fun _ h17 => ?_) (fun _ h18 => ?_)))))
 refine Ze (Zb (Za (Zi (Za (Za ?_)))))
 obtain ⟨r4, q19, h20⟩ := bind_some h17
 obtain ⟨r5, q21, h22⟩ := bind_some h20
 obtain ⟨c23, h24⟩ := Zy h22
 refine zr [1, 3, 4, 58] 2 c23 (rq1 (XM _ _ _ _ q19) (rq2 (fun hg => Wh _ _ (XN q21 hg)) rqn)) (Zb (cn h24 (fun _ h26 => ?_) (fun _ h27 => ?_)))
 exact Za (zg [2] 0 (Zb (Zh (Zk (Xb (Zk (rr h26 ⟨rfl, er0 _⟩)))))))
 refine Ze (Zb (Za (zg [1, 3, 4, 5] 2 (Zb (Zi ?_)))))
 obtain ⟨y9, q39, h40⟩ := bind_some h27
 refine zl (fun (p6 : Int) => ⟨96, [(1, .ref 0 0), (3, .ref 1 0), (4, .int .i64 p2), (5, .int .i64 p6)], u1⟩) (Sum.elim (fun z => OutE 2 (fun z => ⟨96, [(1, .ref 0 0), (3, .ref 1 0), (4, .int .i64 p2)], u1⟩) z) (fun z => OutR Tryz.prog Tryz.f110 (.int .i64 z))) q39 ?_ ?_
 intro p6 y7 h28
 unfold M.QQ at h28
 refine Za (Za (zg [1, 3, 4, 5, 61] 2 (Zb (cn h28 (fun _ h30 => ?_) (fun _ h31 => ?_)))))
 refine Ze (Zb (Za (Zi (Za ?_))))
 obtain ⟨r8, q32, h33⟩ := bind_some h30
 obtain ⟨c34, h35⟩ := Zy h33
 refine zr [1, 3, 4, 5, 91] 2 c34 (rq2 (fun hg => Kd _ _ _ (XN q32 hg)) rqn) (Zb (cn h35 (fun _ h37 => ?_) (fun _ h38 => ?_)))
 exact Za (zg [2] 0 (Zb (Zh (Xb (Zk (rr h37 ⟨rfl, er0 _⟩))))))
 exact Ze (XX (Zb (zg [1, 3, 4, 5] 2 (rn h38))))
 exact ZV (XF (re h31 ⟨rfl, kq⟩))
 intro e41 s42 o43
 rcases y9 with g10 | y11
 have h44 := X9 h40
 obtain ⟨rfl, l46⟩ := o43
 exact Qi (XX (XP (s' := ⟨96, [(1, .ref 0 0), (3, .ref 1 0), (4, .int .i64 p2)], u1⟩) (l46) (zg [1, 3, 4] 2 (rn h44))))
 have h45 := Ya h40
 obtain ⟨rfl, n47⟩ := o43
 exact Xb (Xb (Zk (rr h45 ⟨rfl, n47⟩)))
 exact ZV (XF (re h18 ⟨rfl, kq⟩))
 intro e50 s51 o52
 rcases y12 with g13 | y14
 have h53 := X9 h49
 refine zi o52 (Za ?_)
 obtain ⟨r15, q56, h57⟩ := bind_some h53
 exact zr [2] 0 ZA (rq1 (Wz _ _ _ _ _ _ q56) rqn) (Zb (Zh (er1 h57)))
 have h54 := Ya h49
 obtain ⟨rfl, n58⟩ := o52
 refine Xb (Zk ?_)
 obtain rfl := Option.some.inj h54
 exact n58
theorem Zcq (a0 : Zf) (r : Int) (h : M.Ju a0 = some r) : Fn Tryz.prog 111 [.agg (Zp a0)] (.pure (.int .i64 r)) := by
 unfold M.Ju at h
 refine ZS Tryz.func111 rfl (by kernel_rfl) (Za (zg [1] 1 (Zb (Za (zg [1, 3] 2 (Zb (Za (Za (zg [1, 3, 8] 2 (Zb (cn h (fun _ h2 => ?_) (fun _ h3 => ?_))))))))))))
 refine Za (Za (zg [27] 0 (Zb (cn h2 (fun _ h5 => ?_) (fun _ h6 => ?_)))))
 exact Za (zg [2] 0 (Zb (Zh (Zk (Zk (er1 h5))))))
 exact Ze (Zb (Za (zg [2] 0 (Zb (Zh (Zk (er1 h6)))))))
 refine Ze (Zb (Za (Za ?_)))
 obtain ⟨r1, q7, h8⟩ := bind_some h3
 refine zr [1, 3, 31] 2 ZA (rq1 (XM _ _ _ _ q7) rqn) (Zb (cn h8 (fun _ h10 => ?_) (fun _ h11 => ?_)))
 exact Za (zg [2] 0 (Zb (Zh (Zk (er1 h10)))))
 refine Ze (Zb (Za (Za ?_)))
 obtain ⟨r2, q12, h13⟩ := bind_some h11
 obtain ⟨r3, q14, h15⟩ := bind_some h13
 refine zr [1, 3, 53] 2 ZA (rq2 (fun hg => Up _ _ _ (XN q12 hg)) (rq2 (fun hg => Up _ _ _ (XN q14 hg)) rqn)) (Zb (cn h15 (fun _ h17 => ?_) (fun _ h18 => ?_)))
 exact Za (zg [2] 0 (Zb (Zh (Zk (er1 h17)))))
 refine Ze (Zb (Za ?_))
 obtain ⟨r4, q19, h20⟩ := bind_some h18
 exact zr [2] 0 ZA (rq1 (Wz _ _ _ _ _ _ q19) rqn) (Zb (Zh (er1 h20)))
theorem ZbQ (a0 : Zf) (r : Int) (h : M.J6 a0 = some r) : Fn Tryz.prog 162 [.agg (Zp a0)] (.pure (.int .i64 r)) := by
 let u1 : Nat × D := (3, sL 4 XI a0.Xr.Zm)
 let u2 : List Ob := [.box (Zp a0)]
 unfold M.J6 at h
 refine ZS Tryz.func162 rfl (by kernel_rfl) (Za (zg [1] 1 (Zb (Za (zg [1, 3] 1 (Zb (Za (Za (zg [1, 3, 11] 1 (Zb (cn h (fun _ h2 => ?_) (fun _ h3 => ?_))))))))))))
 exact Za (zg [2] 0 (Zb (Zh (Zk (er1 h2)))))
 refine Ze (Zb (Za (Za (zg [1, 3, 4] 1 (Zb (Zi ?_))))))
 obtain ⟨y11, q42, h43⟩ := bind_some h3
 refine zl (fun (p1 : Int) => ⟨83, [(1, .ref 0 0), u1, (4, .int .i64 p1)], u2⟩) (Sum.elim (fun z => OutE 0 (fun z => ⟨83, [], []⟩) z) (fun z => OutR Tryz.prog Tryz.f162 (.int .i64 z))) q42 ?_ ?_
 intro p1 y2 h4
 unfold M.QT at h4
 refine Za (Za (zg [1, 3, 4, 15] 1 (Zb (cn h4 (fun _ h6 => ?_) (fun _ h7 => ?_)))))
 refine Ze (Zb (Za (Zi (Za (Za ?_)))))
 obtain ⟨r3, q8, h9⟩ := bind_some h6
 obtain ⟨c10, h11⟩ := Zy h9
 refine zr [1, 3, 4, 32] 1 c10 (rq2 (fun hg => XM _ _ _ _ (XN q8 hg)) rqn) (Zb (cn h11 (fun _ h13 => ?_) (fun _ h14 => ?_)))
 exact Za (zg [2] 0 (Zb (Zh (Zk (Xb (Zk (rr h13 ⟨rfl, er0 _⟩)))))))
 refine Ze (Zb (Za (Za ?_)))
 obtain ⟨r4, q15, h16⟩ := bind_some h14
 obtain ⟨r5, q17, h18⟩ := bind_some h16
 obtain ⟨c19, h20⟩ := Zy h18
 refine zr [1, 3, 4, 66] 1 c19 (rq2 (fun hg => UU _ _ _ (XN q15 hg)) (rq2 (fun hg => UU _ _ _ (XN q17 hg)) rqn)) (Zb (cn h20 (fun _ h22 => ?_) (fun _ h23 => ?_)))
 exact Za (zg [2] 0 (Zb (Zh (Zk (Xb (Zk (rr h22 ⟨rfl, er0 _⟩)))))))
 refine Ze (Zb (Za (zg [1, 3, 4, 5] 1 (Zb (Zi ?_)))))
 obtain ⟨y8, q33, h34⟩ := bind_some h23
 refine zl (fun (p6 : Int) => ⟨83, [(1, .ref 0 0), u1, (4, .int .i64 p1), (5, .int .i64 p6)], u2⟩) (Sum.elim (fun z => OutE 2 (fun z => ⟨83, [(1, .ref 0 0), u1, (4, .int .i64 p1)], u2⟩) z) (fun z => OutR Tryz.prog Tryz.f162 (.int .i64 z))) q33 ?_ ?_
 intro p6 y7 h24
 unfold M.QS at h24
 refine Za (Za (zg [1, 3, 4, 5, 69] 1 (Zb (cn h24 (fun _ h26 => ?_) (fun _ h27 => ?_)))))
 refine Ze (Zb (Za (Zi (Za ?_))))
 obtain ⟨c28, h29⟩ := Zy h26
 refine zc [1, 3, 4, 5, 82] 1 c28 (Zb (cn h29 (fun _ h31 => ?_) (fun _ h32 => ?_)))
 exact Za (zg [2] 0 (Zb (Zh (Xb (Zk (rr h31 ⟨rfl, er0 _⟩))))))
 exact Ze (XX (Zb (zg [1, 3, 4, 5] 1 (rn h32))))
 exact ZV (XF (re h27 ⟨rfl, kq⟩))
 intro e35 s36 o37
 rcases y8 with g9 | y10
 have h38 := X9 h34
 obtain ⟨rfl, l40⟩ := o37
 exact Qi (XX (XP (s' := ⟨83, [(1, .ref 0 0), u1, (4, .int .i64 p1)], u2⟩) (l40) (zg [1, 3, 4] 1 (rn h38))))
 have h39 := Ya h34
 obtain ⟨rfl, n41⟩ := o37
 exact Xb (Xb (Zk (rr h39 ⟨rfl, n41⟩)))
 exact ZV (XF (re h7 ⟨rfl, kc⟩))
 intro e44 s45 o46
 rcases y11 with g12 | y13
 have h47 := X9 h43
 exact zi o46 (Za (zg [2] 0 (Zb (Zh (er1 h47)))))
 have h48 := Ya h43
 obtain ⟨rfl, n50⟩ := o46
 refine Xb (Zk ?_)
 obtain rfl := Option.some.inj h48
 exact n50
theorem RC (a0 : Xw) (r : Int) (h : M.QU a0 = some r) : Fn Tryz.prog 163 [.agg (UZ a0)] (.pure (.int .i64 r)) := by
 let u1 : List Ob := [.box (UZ a0)]
 let u2 : St := ⟨126, [(1, .ref 0 0)], u1⟩
 unfold M.QU at h
 refine ZS Tryz.func163 rfl (by kernel_rfl) (Za (zg [1] 1 (Zb (Za (Za (zg [1, 13] 1 (Zb (cn h (fun _ h2 => ?_) (fun _ h3 => ?_)))))))))
 exact Za (zg [2] 0 (Zb (Zh (Zk (er1 h2)))))
 refine Ze (Zb (Za (Za (zg [1, 3] 1 (Zb (Zi ?_))))))
 obtain ⟨y9, q33, h34⟩ := bind_some h3
 refine zl (fun (p1 : Int) => ⟨126, [(1, .ref 0 0), (3, .int .i64 p1)], u1⟩) (Sum.elim (fun z => OutE 0 (fun z => u2) z) (fun z => OutR Tryz.prog Tryz.f163 (.int .i64 z))) q33 ?_ ?_
 intro p1 y2 h4
 unfold M.YX at h4
 refine Za (Za (zg [1, 3, 18] 1 (Zb (cn h4 (fun _ h6 => ?_) (fun _ h7 => ?_)))))
 refine Ze (Zb (Za (Zi (Za (Za ?_)))))
 obtain ⟨r3, q8, h9⟩ := bind_some h6
 obtain ⟨c10, h11⟩ := Zy h9
 refine zr [1, 3, 27] 1 c10 (rq1 (Wh _ _ q8) rqn) (Zb (cn h11 (fun _ h13 => ?_) (fun _ h14 => ?_)))
 exact Za (zg [2] 0 (Zb (Zh (Zk (Xb (Zk (rr h13 ⟨rfl, er0 _⟩)))))))
 refine Ze (Zb (Za (zg [1, 3, 4] 1 (Zb (Zi ?_)))))
 obtain ⟨y6, q24, h25⟩ := bind_some h14
 refine zl (fun (p4 : Int) => ⟨126, [(1, .ref 0 0), (3, .int .i64 p1), (4, .int .i64 p4)], u1⟩) (Sum.elim (fun z => OutE 2 (fun z => ⟨126, [(1, .ref 0 0), (3, .int .i64 p1)], u1⟩) z) (fun z => OutR Tryz.prog Tryz.f163 (.int .i64 z))) q24 ?_ ?_
 intro p4 y5 h15
 unfold M.YW at h15
 refine Za (Za (zg [1, 3, 4, 30] 1 (Zb (cn h15 (fun _ h17 => ?_) (fun _ h18 => ?_)))))
 refine Ze (Zb (Za (Zi (Za ?_))))
 obtain ⟨c19, h20⟩ := Zy h17
 refine zc [1, 3, 4, 43] 1 c19 (Zb (cn h20 (fun _ h22 => ?_) (fun _ h23 => ?_)))
 exact Za (zg [2] 0 (Zb (Zh (Xb (Zk (rr h22 ⟨rfl, er0 _⟩))))))
 exact Ze (XX (Zb (zg [1, 3, 4] 1 (rn h23))))
 exact ZV (XF (re h18 ⟨rfl, kq⟩))
 intro e26 s27 o28
 rcases y6 with g7 | y8
 have h29 := X9 h25
 obtain ⟨rfl, l31⟩ := o28
 exact Qi (XX (XP (s' := ⟨126, [(1, .ref 0 0), (3, .int .i64 p1)], u1⟩) (l31) (zg [1, 3] 1 (rn h29))))
 have h30 := Ya h25
 obtain ⟨rfl, n32⟩ := o28
 exact Xb (Xb (Zk (rr h30 ⟨rfl, n32⟩)))
 exact ZV (XF (re h7 ⟨rfl, kq⟩))
 intro e35 s36 o37
 rcases y9 with g10 | y11
 have h38 := X9 h34
 refine zi o37 (Za (Za (zg [1, 47] 1 (Zb (cn h38 (fun _ h42 => ?_) (fun _ h43 => ?_))))))
 exact Za (zg [2] 0 (Zb (Zh (Zk (er1 h42)))))
 refine Ze (Zb (Za (Za (zg [1, 5] 1 (Zb (Zi ?_))))))
 obtain ⟨y20, q73, h74⟩ := bind_some h43
 refine zl (fun (p12 : Int) => ⟨126, [(1, .ref 0 0), (5, .int .i64 p12)], u1⟩) (Sum.elim (fun z => OutE 4 (fun z => u2) z) (fun z => OutR Tryz.prog Tryz.f163 (.int .i64 z))) q73 ?_ ?_
 intro p12 y13 h44
 unfold M.YZ at h44
 refine Za (Za (zg [1, 5, 52] 1 (Zb (cn h44 (fun _ h46 => ?_) (fun _ h47 => ?_)))))
 refine Ze (Zb (Za (Zi (Za (Za ?_)))))
 obtain ⟨r14, q48, h49⟩ := bind_some h46
 obtain ⟨c50, h51⟩ := Zy h49
 refine zr [1, 5, 62] 1 c50 (rq1 (Wh _ _ q48) rqn) (Zb (cn h51 (fun _ h53 => ?_) (fun _ h54 => ?_)))
 exact Za (zg [2] 0 (Zb (Zh (Zk (Xb (Zk (rr h53 ⟨rfl, er0 _⟩)))))))
 refine Ze (Zb (Za (zg [1, 5, 6] 1 (Zb (Zi ?_)))))
 obtain ⟨y17, q64, h65⟩ := bind_some h54
 refine zl (fun (p15 : Int) => ⟨126, [(1, .ref 0 0), (5, .int .i64 p12), (6, .int .i64 p15)], u1⟩) (Sum.elim (fun z => OutE 6 (fun z => ⟨126, [(1, .ref 0 0), (5, .int .i64 p12)], u1⟩) z) (fun z => OutR Tryz.prog Tryz.f163 (.int .i64 z))) q64 ?_ ?_
 intro p15 y16 h55
 unfold M.YY at h55
 refine Za (Za (zg [1, 5, 6, 65] 1 (Zb (cn h55 (fun _ h57 => ?_) (fun _ h58 => ?_)))))
 refine Ze (Zb (Za (Zi (Za ?_))))
 obtain ⟨c59, h60⟩ := Zy h57
 refine zc [1, 5, 6, 80] 1 c59 (Zb (cn h60 (fun _ h62 => ?_) (fun _ h63 => ?_)))
 exact Za (zg [2] 0 (Zb (Zh (Xb (Zk (rr h62 ⟨rfl, er0 _⟩))))))
 exact Ze (XX (Zb (zg [1, 5, 6] 1 (rn h63))))
 exact ZV (XF (re h58 ⟨rfl, kq⟩))
 intro e66 s67 o68
 rcases y17 with g18 | y19
 have h69 := X9 h65
 obtain ⟨rfl, l71⟩ := o68
 exact Qi (XX (XP (s' := ⟨126, [(1, .ref 0 0), (5, .int .i64 p12)], u1⟩) (l71) (zg [1, 5] 1 (rn h69))))
 have h70 := Ya h65
 obtain ⟨rfl, n72⟩ := o68
 exact Xb (Xb (Zk (rr h70 ⟨rfl, n72⟩)))
 exact ZV (XF (re h47 ⟨rfl, kq⟩))
 intro e75 s76 o77
 rcases y20 with g21 | y22
 have h78 := X9 h74
 refine zi o77 (Za (Za (zg [1, 84] 1 (Zb (cn h78 (fun _ h82 => ?_) (fun _ h83 => ?_))))))
 exact Za (zg [2] 0 (Zb (Zh (Zk (er1 h82)))))
 refine Ze (Zb (Za (Za (zg [1, 7] 1 (Zb (Zi ?_))))))
 obtain ⟨y32, q118, h119⟩ := bind_some h83
 refine zl (fun (p23 : Int) => ⟨126, [(1, .ref 0 0), (7, .int .i64 p23)], u1⟩) (Sum.elim (fun z => OutE 8 (fun z => ⟨126, [], []⟩) z) (fun z => OutR Tryz.prog Tryz.f163 (.int .i64 z))) q118 ?_ ?_
 intro p23 y24 h84
 unfold M.Y1 at h84
 refine Za (Za (zg [1, 7, 89] 1 (Zb (cn h84 (fun _ h86 => ?_) (fun _ h87 => ?_)))))
 refine Ze (Zb (Za (Zi (Za ?_))))
 obtain ⟨c88, h89⟩ := Zy h86
 refine zc [1, 7, 8] 2 c88 (Zb (Za (Za ?_)))
 obtain ⟨r25, q90, h91⟩ := bind_some h89
 obtain ⟨r26, q92, h93⟩ := bind_some h91
 refine zr [1, 7, 8, 106] 2 ZA (rq1 (Wh _ _ q90) (rq2 (fun hg => Wh _ _ (XN q92 hg)) rqn)) (Zb (cn h93 (fun _ h95 => ?_) (fun _ h96 => ?_)))
 exact Za (zg [2] 0 (Zb (Zh (Zk (Xb (Zk (rr h95 ⟨rfl, er0 _⟩)))))))
 refine Ze (Zb (Za (Za (zg [1, 7, 8, 111] 2 (Zb (cn h96 (fun _ h98 => ?_) (fun _ h99 => ?_)))))))
 exact Za (zg [2] 0 (Zb (Zh (Zk (Xb (Zk (rr h98 ⟨rfl, er0 _⟩)))))))
 refine Ze (Zb (Za (zg [1, 7, 8, 9] 2 (Zb (Zi ?_)))))
 obtain ⟨y29, q109, h110⟩ := bind_some h99
 refine zl (fun (p27 : Int) => ⟨126, [(1, .ref 0 0), (7, .int .i64 p23), (8, .ref 1 0), (9, .int .i64 p27)], [.box (UZ a0), .box (Xs (a0.Zt.getD p23.toNat default))]⟩) (Sum.elim (fun z => OutE 10 (fun z => ⟨126, [(1, .ref 0 0), (7, .int .i64 p23)], u1⟩) z) (fun z => OutR Tryz.prog Tryz.f163 (.int .i64 z))) q109 ?_ ?_
 intro p27 y28 h100
 unfold M.Y0 at h100
 refine Za (Za (zg [1, 7, 8, 9, 114] 2 (Zb (cn h100 (fun _ h102 => ?_) (fun _ h103 => ?_)))))
 refine Ze (Zb (Za (Zi (Za ?_))))
 obtain ⟨c104, h105⟩ := Zy h102
 refine zc [1, 7, 8, 9, 125] 2 c104 (Zb (cn h105 (fun _ h107 => ?_) (fun _ h108 => ?_)))
 exact Za (zg [2] 0 (Zb (Zh (Xb (Zk (rr h107 ⟨rfl, er0 _⟩))))))
 exact Ze (XX (Zb (zg [1, 7, 8, 9] 2 (rn h108))))
 exact ZV (XF (re h103 ⟨rfl, kc⟩))
 intro e111 s112 o113
 rcases y29 with g30 | y31
 have h114 := X9 h110
 obtain ⟨rfl, l116⟩ := o113
 exact Qi (XX (XP (s' := ⟨126, [(1, .ref 0 0), (7, .int .i64 p23)], u1⟩) (l116) (zg [1, 7] 1 (rn h114))))
 have h115 := Ya h110
 obtain ⟨rfl, n117⟩ := o113
 exact Xb (Xb (Zk (rr h115 ⟨rfl, n117⟩)))
 exact ZV (XF (re h87 ⟨rfl, kc⟩))
 intro e120 s121 o122
 rcases y32 with g33 | y34
 have h123 := X9 h119
 exact zi o122 (Za (zg [2] 0 (Zb (Zh (er1 h123)))))
 have h124 := Ya h119
 obtain ⟨rfl, n126⟩ := o122
 refine Xb (Zk ?_)
 obtain rfl := Option.some.inj h124
 exact n126
 have h79 := Ya h74
 obtain ⟨rfl, n127⟩ := o77
 refine Xb (Zk ?_)
 obtain rfl := Option.some.inj h79
 exact n127
 have h39 := Ya h34
 obtain ⟨rfl, n128⟩ := o37
 refine Xb (Zk ?_)
 obtain rfl := Option.some.inj h39
 exact n128
theorem ZaU (a0 : Zf) (r : Int) (h : M.QF a0 = some r) : Fn Tryz.prog 112 [.agg (Zp a0)] (.pure (.int .i64 r)) := by
 unfold M.QF at h
 refine ZS Tryz.func112 rfl (by kernel_rfl) (Za (zg [1] 1 (Zb (Za (zg [1, 3] 2 (Zb (Za (Za (zg [1, 3, 10] 2 (Zb (cn h (fun _ h2 => ?_) (fun _ h3 => ?_))))))))))))
 refine Za (Za (zg [40] 0 (Zb (cn h2 (fun _ h5 => ?_) (fun _ h6 => ?_)))))
 exact Za (zg [2] 0 (Zb (Zh (Zk (Zk (er1 h5))))))
 exact Ze (Zb (Za (zg [2] 0 (Zb (Zh (Zk (er1 h6)))))))
 refine Ze (Zb (Za (Za ?_)))
 obtain ⟨r1, q7, h8⟩ := bind_some h3
 obtain ⟨r2, q9, h10⟩ := bind_some h8
 refine zr [1, 3, 55] 2 ZA (rq2 (fun hg => XM _ _ _ _ (XN q7 hg)) (rq2 (fun hg => XM _ _ _ _ (XN q9 hg)) rqn)) (Zb (cn h10 (fun _ h12 => ?_) (fun _ h13 => ?_)))
 exact Za (zg [2] 0 (Zb (Zh (Zk (er1 h12)))))
 refine Ze (Zb (Za (Za ?_)))
 obtain ⟨r3, q14, h15⟩ := bind_some h13
 refine zr [1, 3, 4] 2 ZA (rq1 (ZbQ _ _ q14) rqn) (Zb (Za (zg [1, 3, 4, 59] 2 (Zb (cn h15 (fun _ h17 => ?_) (fun _ h18 => ?_))))))
 exact Za (zg [2] 0 (Zb (Zh (Zk (er1 h17)))))
 refine Ze (Zb (Za (Za ?_)))
 obtain ⟨r4, q19, h20⟩ := bind_some h18
 refine zr [1, 3, 5] 2 ZA (rq1 (RC _ _ q19) rqn) (Zb (Za (zg [1, 3, 5, 64] 2 (Zb (cn h20 (fun _ h22 => ?_) (fun _ h23 => ?_))))))
 exact Za (zg [2] 0 (Zb (Zh (Zk (er1 h22)))))
 refine Ze (Zb (Za ?_))
 obtain ⟨r5, q24, h25⟩ := bind_some h23
 exact zr [2] 0 ZA (rq1 (Wz _ _ _ _ _ _ q24) rqn) (Zb (Zh (er1 h25)))
theorem Zaf (a0 : Zf) (r : Int) (h : M.Yl a0 = some r) : Fn Tryz.prog 65 [.agg (Zp a0)] (.pure (.int .i64 r)) := by
 unfold M.Yl at h
 refine ZS Tryz.func65 rfl (by kernel_rfl) (Za (zg [1] 1 (Zb (Za (Za ?_)))))
 obtain ⟨r1, q1, h2⟩ := bind_some h
 refine zr [1, 8] 1 ZA (rq1 (UJ _ _ q1) rqn) (Zb (cn h2 (fun _ h4 => ?_) (fun _ h5 => ?_)))
 exact Za (zg [2] 0 (Zb (Zh (Zk (er1 h4)))))
 refine Ze (Zb (Za (Za ?_)))
 obtain ⟨r2, q6, h7⟩ := bind_some h5
 refine zr [1, 12] 1 ZA (rq1 (XM _ _ _ _ q6) rqn) (Zb (cn h7 (fun _ h9 => ?_) (fun _ h10 => ?_)))
 exact Za (zg [2] 0 (Zb (Zh (Zk (er1 h9)))))
 refine Ze (Zb (Za ?_))
 obtain ⟨r3, q11, h12⟩ := bind_some h10
 obtain ⟨r4, q13, h14⟩ := bind_some h12
 obtain ⟨r5, q15, h16⟩ := bind_some h14
 obtain ⟨r6, q17, h18⟩ := bind_some h16
 obtain ⟨r7, q19, h20⟩ := bind_some h18
 obtain ⟨r8, q21, h22⟩ := bind_some h20
 obtain ⟨r9, q23, h24⟩ := bind_some h22
 obtain ⟨r10, q25, h26⟩ := bind_some h24
 obtain ⟨r11, q27, h28⟩ := bind_some h26
 obtain ⟨r12, q29, h30⟩ := bind_some h28
 refine rg [.pure (.int .i64 r3), .pure (.int .i64 r4), .pure (.int .i64 r5), .pure (.int .i64 r6), .pure (.int .i64 r7), .pure (.int .i64 r8), .pure (.int .i64 r9), .pure (.int .i64 r10), .pure (.int .i64 r11), .pure (.int .i64 r12)] [3] 0 ⟨52, [(3, .sl true 1 10 (fun i => List.take 1 (List.drop (i * 1) [.int .i64 r3, .int .i64 r4, .int .i64 r5, .int .i64 r6, .int .i64 r7, .int .i64 r8, .int .i64 r9, .int .i64 r10, .int .i64 r11, .int .i64 r12])))], []⟩ [] [⟨true, 103, [sL 12 Zj a0.Zc], .pure (.int .i64 r3)⟩, ⟨true, 104, [sL 2 Zu a0.Yt], .pure (.int .i64 r4)⟩, ⟨true, 105, [.agg (Zp a0)], .pure (.int .i64 r5)⟩, ⟨true, 106, [sL 2 Ys a0.YC], .pure (.int .i64 r6)⟩, ⟨true, 107, [.agg (Zp a0)], .pure (.int .i64 r7)⟩, ⟨true, 108, [.agg (Zp a0)], .pure (.int .i64 r8)⟩, ⟨true, 109, [.agg (Zp a0)], .pure (.int .i64 r9)⟩, ⟨true, 110, [.agg (Zp a0)], .pure (.int .i64 r10)⟩, ⟨true, 111, [.agg (Zp a0)], .pure (.int .i64 r11)⟩, ⟨true, 112, [.agg (Zp a0)], .pure (.int .i64 r12)⟩] ZA ⟨fun _ => ZaT a0.Zc r3 q11, fun _ => Zad a0.Yt r4 q13, fun _ => ZbM a0 r5 q15, fun _ => Zae a0.YC r6 q17, fun _ => RB a0 r7 q19, fun _ => ZcZ a0 r8 q21, fun _ => Zc0 a0 r9 q23, fun _ => ZbP a0 r10 q25, fun _ => Zcq a0 r11 q27, fun _ => ZaU a0 r12 q29, trivial⟩ (XP (s' := ⟨52, [(3, sL 1 (ci .i64) ([r3, r4, r5, r6, r7, r8, r9, r10, r11, r12] : List Int))], []⟩) (VE (.cons (UR rfl (fun i hi => match i, hi with | 0, _ => rfl | 1, _ => rfl | 2, _ => rfl | 3, _ => rfl | 4, _ => rfl | 5, _ => rfl | 6, _ => rfl | 7, _ => rfl | 8, _ => rfl | 9, _ => rfl | n + 10, h => absurd h (by omega))) .nil) .nil) (Za (Za (zg [3, 4] 0 (Zb (Zi ?_))))))
 obtain ⟨y15, q42, h43⟩ := bind_some h30
 refine zl (fun (p13 : Int) => ⟨52, [(3, sL 1 (ci .i64) ([r3, r4, r5, r6, r7, r8, r9, r10, r11, r12] : List Int)), (4, .int .i64 p13)], []⟩) (Sum.elim (fun z => OutE 0 (fun z => ⟨52, [], []⟩) z) (fun z => OutR Tryz.prog Tryz.f65 (.int .i64 z))) q42 ?_ ?_
 intro p13 y14 h31
 unfold M.Yc at h31
 refine Za (Za (zg [3, 4, 40] 0 (Zb (cn h31 (fun _ h33 => ?_) (fun _ h34 => ?_)))))
 refine Ze (Zb (Za (Zi (Za ?_))))
 obtain ⟨c35, h36⟩ := Zy h33
 refine zc [3, 4, 47] 0 c35 (Zb (cn h36 (fun _ h38 => ?_) (fun _ h39 => ?_)))
 refine Za ?_
 obtain ⟨c40, h41⟩ := Zy h38
 exact zc [2] 0 c40 (Zb (Zh (Xb (Zk (rr h41 ⟨rfl, er0 _⟩)))))
 exact Ze (XX (Zb (zg [3, 4] 0 (rn h39))))
 exact ZV (XF (re h34 ⟨rfl, kq⟩))
 intro e44 s45 o46
 rcases y15 with g16 | y17
 have h47 := X9 h43
 exact zi o46 (Za (zg [2] 0 (Zb (Zh (er1 h47)))))
 have h48 := Ya h43
 obtain ⟨rfl, n50⟩ := o46
 refine Xb (Zk ?_)
 obtain rfl := Option.some.inj h48
 exact n50
theorem Zer (a0 : Zw) (r : Int) (h : M.Q2 a0 = some r) : Fn Tryz.prog 44 [.agg (XO a0)] (.pure (.int .i64 r)) := by
 let u1 : List Ob := [.box (XO a0)]
 unfold M.Q2 at h
 refine ZS Tryz.func44 rfl (by kernel_rfl) (Za (zg [1] 1 (Zb (Za (Za (zg [1, 12] 1 (Zb (cn h (fun _ h2 => ?_) (fun _ h3 => ?_)))))))))
 exact Za (zg [2] 0 (Zb (Zh (Zk (er1 h2)))))
 refine Ze (Zb (Za (Za (zg [1, 3] 1 (Zb (Zi ?_))))))
 obtain ⟨y20, q70, h71⟩ := bind_some h3
 refine zl (fun (p1 : Int) => ⟨86, [(1, .ref 0 0), (3, .int .i64 p1)], u1⟩) (Sum.elim (fun z => OutE 0 (fun z => ⟨86, [], []⟩) z) (fun z => OutR Tryz.prog Tryz.f44 (.int .i64 z))) q70 ?_ ?_
 intro p1 y2 h4
 unfold M.Jb at h4
 refine Za (Za (zg [1, 3, 17] 1 (Zb (cn h4 (fun _ h6 => ?_) (fun _ h7 => ?_)))))
 refine Ze (Zb (Za (Zi (Za (Za ?_)))))
 obtain ⟨r3, q8, h9⟩ := bind_some h6
 obtain ⟨c10, h11⟩ := Zy h9
 refine zr [1, 3, 4] 1 c10 (rq1 (Zaf _ _ q8) rqn) (Zb (Za (zg [1, 3, 4, 27] 1 (Zb (cn h11 (fun _ h13 => ?_) (fun _ h14 => ?_))))))
 exact Za (zg [2] 0 (Zb (Zh (Zk (Xb (Zk (rr h13 ⟨rfl, er0 _⟩)))))))
 refine Ze (Zb (Za (Za (zg [1, 3, 5] 1 (Zb (Zi ?_))))))
 obtain ⟨y6, q24, h25⟩ := bind_some h14
 refine zl (fun (p4 : Int) => ⟨86, [(1, .ref 0 0), (3, .int .i64 p1), (5, .int .i64 p4)], u1⟩) (Sum.elim (fun z => OutE 2 (fun z => ⟨86, [(1, .ref 0 0), (3, .int .i64 p1)], u1⟩) z) (fun z => OutR Tryz.prog Tryz.f44 (.int .i64 z))) q24 ?_ ?_
 intro p4 y5 h15
 unfold M.Jv at h15
 refine Za (Za (zg [1, 3, 5, 31] 1 (Zb (cn h15 (fun _ h17 => ?_) (fun _ h18 => ?_)))))
 refine Ze (Zb (Za (Zi (Za ?_))))
 obtain ⟨c19, h20⟩ := Zy h17
 refine zc [1, 3, 5, 46] 1 c19 (Zb (cn h20 (fun _ h22 => ?_) (fun _ h23 => ?_)))
 exact Za (zg [2] 0 (Zb (Zh (Xb (Zk (rr h22 ⟨rfl, er0 _⟩))))))
 exact Ze (XX (Zb (zg [1, 3, 5] 1 (rn h23))))
 exact ZV (XF (re h18 ⟨rfl, kq⟩))
 intro e26 s27 o28
 rcases y6 with g7 | y8
 have h29 := X9 h25
 refine zi o28 (Za (zg [1, 3, 6] 1 (Zb (Zi ?_))))
 obtain ⟨y17, q60, h61⟩ := bind_some h29
 refine zl (fun (p9 : Int) => ⟨86, [(1, .ref 0 0), (3, .int .i64 p1), (6, .int .i64 p9)], u1⟩) (Sum.elim (fun z => OutE 4 (fun z => ⟨86, [(1, .ref 0 0), (3, .int .i64 p1)], u1⟩) z) (fun z => OutR Tryz.prog Tryz.f44 (.int .i64 z))) q60 ?_ ?_
 intro p9 y10 h32
 unfold M.Ja at h32
 refine Za (Za ?_)
 obtain ⟨c33, h34⟩ := Zy h32
 refine zc [1, 3, 6, 55] 1 c33 (Zb (cn h34 (fun _ h36 => ?_) (fun _ h37 => ?_)))
 refine Ze (Zb (Za (Zi (Za ?_))))
 obtain ⟨c38, h39⟩ := Zy h36
 refine zc [1, 3, 6, 7] 2 c38 (Zb (Za (zg [1, 3, 6, 7, 8] 2 (Zb (Zi ?_)))))
 obtain ⟨y14, q51, h52⟩ := bind_some h39
 refine zl (fun (p11 : Int) => ⟨86, [(1, .ref 0 0), (3, .int .i64 p1), (6, .int .i64 p9), (7, .ref 1 0), (8, .int .i64 p11)], [.box (XO a0), .box (Zj (((a0.Zd.getD p1.toNat default).Zc).getD p9.toNat default))]⟩) (Sum.elim (fun z => OutE 6 (fun z => ⟨86, [(1, .ref 0 0), (3, .int .i64 p1), (6, .int .i64 p9)], u1⟩) z) (fun z => OutR Tryz.prog Tryz.f44 (.int .i64 z))) q51 ?_ ?_
 intro p11 y12 h40
 unfold M.Q9 at h40
 refine Za (Za (zg [1, 3, 6, 7, 8, 69] 2 (Zb (cn h40 (fun _ h42 => ?_) (fun _ h43 => ?_)))))
 refine Ze (Zb (Za (Zi (Za ?_))))
 obtain ⟨r13, q44, h45⟩ := bind_some h42
 obtain ⟨c46, h47⟩ := Zy h45
 refine zr [1, 3, 6, 7, 8, 85] 2 c46 (rq2 (fun hg => KO _ _ _ (XN q44 hg)) rqn) (Zb (cn h47 (fun _ h49 => ?_) (fun _ h50 => ?_)))
 exact Za (zg [2] 0 (Zb (Zh (Xb (Zk (rr h49 ⟨rfl, er0 _⟩))))))
 exact Ze (XX (Zb (zg [1, 3, 6, 7, 8] 2 (rn h50))))
 exact ZV (XF (re h43 ⟨rfl, kc⟩))
 intro e53 s54 o55
 rcases y14 with g15 | y16
 have h56 := X9 h52
 obtain ⟨rfl, l58⟩ := o55
 exact Qi (XX (XP (s' := ⟨86, [(1, .ref 0 0), (3, .int .i64 p1), (6, .int .i64 p9)], u1⟩) (l58) (zg [1, 3, 6] 1 (rn h56))))
 have h57 := Ya h52
 obtain ⟨rfl, n59⟩ := o55
 exact Xb (Xb (Zk (rr h57 ⟨rfl, n59⟩)))
 exact ZV (XF (re h37 ⟨rfl, kq⟩))
 intro e62 s63 o64
 rcases y17 with g18 | y19
 have h65 := X9 h61
 obtain ⟨rfl, l67⟩ := o64
 exact Qi (XX (XP (s' := ⟨86, [(1, .ref 0 0), (3, .int .i64 p1)], u1⟩) (l67) (zg [1, 3] 1 (rn h65))))
 have h66 := Ya h61
 obtain ⟨rfl, n68⟩ := o64
 exact Xb (Xb (Zk (rr h66 ⟨rfl, n68⟩)))
 have h30 := Ya h25
 obtain ⟨rfl, n69⟩ := o28
 exact Xb (Zk (Xb (Zk (rr h30 ⟨rfl, n69⟩))))
 exact ZV (XF (re h7 ⟨rfl, kc⟩))
 intro e72 s73 o74
 rcases y20 with g21 | y22
 have h75 := X9 h71
 exact zi o74 (Za (zg [2] 0 (Zb (Zh (er1 h75)))))
 have h76 := Ya h71
 obtain ⟨rfl, n78⟩ := o74
 refine Xb (Zk ?_)
 obtain rfl := Option.some.inj h76
 exact n78
theorem Zc1 (a0 : ZX) (a1 : ZX) (r : Int) (h : M.Vk a0 a1 = some r) : Fn Tryz.prog 46 [.agg (Xg a0), .agg (Xg a1)] (.pure (.int .i64 r)) := by
 unfold M.Vk at h
 refine ZS Tryz.func46 rfl (by kernel_rfl) (Za (zg [2, 3] 2 (Zb (Za (Za (zg [2, 3, 23] 2 (Zb (cn h (fun _ h2 => ?_) (fun _ h3 => ?_)))))))))
 exact Za (zg [4] 0 (Zb (Zh (Zk (er1 h2)))))
 refine Ze (Zb (Za (Za (zg [26] 0 (Zb (cn h3 (fun _ h5 => ?_) (fun _ h6 => ?_)))))))
 exact Za (zg [4] 0 (Zb (Zh (Zk (er1 h5)))))
 exact Ze (Zb (Za (zg [4] 0 (Zb (Zh (er1 h6))))))
theorem Zec (a0 : Zw) (r : Qs × Int) (h : M.W8 a0 = some r) : Fn Tryz.prog 13 [.agg (XO a0)] (.pure (.tup [.agg (GI r.1), .int .i64 r.2])) := by
 let u2 := XO a0
 let u7 : List Ob := [.box u2, .box [.sl true 4 0 (fun _ => []), .sl true 1 0 (fun _ => [])]]
 let u8 : List Ob := [.box u2, .box [.sl true 4 0 (fun _ => []), .sl true 1 0 (fun _ => [])], .box [.sl true 4 0 (fun _ => []), .sl true 1 0 (fun _ => [])]]
 let u16 : List (Nat × D) := [(2, .ref 1 0), (5, .ref 2 0)]
 let u21 := (a0.Zd.length : Int)
 let u28 := List Zg
 unfold M.W8 at h
 refine ZS Tryz.func13 rfl (by kernel_rfl) ?_
 refine Za (rg0 [1, 2] 2 ⟨186, [(1, .ref 0 0), (2, .ref 1 0)], u7⟩ ?_)
 refine Zb (Za (Za ?_))
 obtain ⟨r1, q1, h2⟩ := bind_some h
 refine rg [.pure (.int .i64 r1)] [1, 2, 4] 2 ⟨186, [(1, .ref 0 0), (2, .ref 1 0), (4, .int .i64 r1)], u7⟩ [] [⟨true, 44, [.agg u2], .pure (.int .i64 r1)⟩] ZA ⟨fun _ => Zer a0 r1 q1, trivial⟩ ?_
 refine Zb (Za (rg0 [1, 2, 4, 16] 2 ⟨186, [(1, .ref 0 0), (2, .ref 1 0), (4, .int .i64 r1), (16, .bool (r1 != 0))], u7⟩ ?_))
 refine Zb ?_
 refine cnd (r1 != 0) (fun b3 => ?_) (fun b3 => ?_)
 have h4 := UC b3 h2
 refine Za (rg0 [2, 3] 2 ⟨186, [(2, .ref 1 0), (3, .int .i64 r1)], u7⟩ ?_)
 refine Zb (Zh (Zk ?_))
 obtain rfl := Option.some.inj h4
 exact er (.tup [.agg [.sl false 4 0 (fun _ => []), .sl false 1 0 (fun _ => [])], .int .i64 r1]) (Zbo (.cons (Rf (.cons Vp (.cons Vp .nil))) (.cons ASub.rfl .nil)))
 have h5 := UD b3 h2
 refine Ze (Zb (Za (rg0 [1, 2, 5] 3 ⟨186, [(1, .ref 0 0), (2, .ref 1 0), (5, .ref 2 0)], u8⟩ ?_)))
 refine Zb (Za (Za (rg0 [1, 2, 5, 6] 3 ⟨186, [(1, .ref 0 0), (2, .ref 1 0), (5, .ref 2 0), (6, .int .i64 0)], u8⟩ ?_)))
 refine Zb (Zi ?_)
 refine V3 (s' := ⟨186, [(1, .ref 0 0), (2, .ref 1 0), (5, .ref 2 0), (6, .int .i64 0)], [.box u2, .box [.sl true 4 0 (fun _ => []), .sl true 1 0 (fun _ => [])], .box [.asl 3 0 ([] : List Zg).length, .sl true 1 0 (fun _ => [])], rA 4 hdDom ([] : List Zg) (fun _ => nilV), rF 2 ZW Zg.ZZ ([] : List Zg) (fun _ => nilV)]⟩) (Le.trans (s' := ⟨186, [(1, .ref 0 0), (2, .ref 1 0), (5, .ref 2 0), (6, .int .i64 0)], [.box u2, .box [.sl true 4 0 (fun _ => []), .sl true 1 0 (fun _ => [])], .box [.asl 3 0 0, .sl true 1 0 (fun _ => [])], .arr 4 0 (fun i => ZD (([] : List Zg).getD i default))]⟩) (Zd1 (nt := 186) (e := [(1, .ref 0 0), (2, .ref 1 0), (5, .ref 2 0), (6, .int .i64 0)]) (H := u8) (cells := [.sl true 4 0 (fun _ => []), .sl true 1 0 (fun _ => [])]) (wd := 4) (f := fun _ => []) 2 0 rfl rfl 4 (fun i => ZD (([] : List Zg).getD i default))) (Zgi (H := [.box u2, .box [.sl true 4 0 (fun _ => []), .sl true 1 0 (fun _ => [])], .box [.asl 3 0 0, .sl true 1 0 (fun _ => [])]]) (wd := 4) (wi := 2) hdDom ZW Zg.ZZ (fun i => ZD (([] : List Zg).getD i default)))) ?_
 obtain ⟨y26, q114, h115⟩ := bind_some h5
 let u9 : List Ob := [.box u2, .box [.sl true 4 0 (fun _ => []), .sl true 1 0 (fun _ => [])], .box [sL 4 ZD y26, .sl true 1 0 (fun _ => [])]]
 let u32 := (y26.length : Int)
 refine Gj (R3 (f := M.VU a0) (S := fun (p14 : u28 × Int) (vs : Nat → Value) => ⟨186, [(1, .ref 0 0), (2, .ref 1 0), (5, .ref 2 0), (6, .int .i64 p14.2)], [.box u2, .box [.sl true 4 0 (fun _ => []), .sl true 1 0 (fun _ => [])], .box [.asl 3 0 p14.1.length, .sl true 1 0 (fun _ => [])], rA 4 hdDom p14.1 vs, rF 2 ZW Zg.ZZ p14.1 vs]⟩) (O := (fun z => OutL 0 (fun (z : List Zg) (vs : Nat → Value) => ⟨186, u16, [.box u2, .box [.sl true 4 0 (fun _ => []), .sl true 1 0 (fun _ => [])], .box [.asl 3 0 z.length, .sl true 1 0 (fun _ => [])], rA 4 hdDom z vs, rF 2 ZW Zg.ZZ z vs]⟩) z)) ?_ (g := (fun _ => nilV)) (x := (([] : List Zg), 0)) (y := y26) (Wc q114)) ?_
 intro p14 y15 v14 h62
 let u17 := (a0.Zd.getD p14.2.toNat default).Zc
 let u31 := (u17.length : Int)
 unfold M.VU at h62
 refine Za (Za (rg0 [1, 2, 5, 6, 24] 5 ⟨186, [(1, .ref 0 0), (2, .ref 1 0), (5, .ref 2 0), (6, .int .i64 p14.2), (24, .bool (decide (p14.2 < u21)))], [.box u2, .box [.sl true 4 0 (fun _ => []), .sl true 1 0 (fun _ => [])], .box [.asl 3 0 p14.1.length, .sl true 1 0 (fun _ => [])], rA 4 hdDom p14.1 v14, rF 2 ZW Zg.ZZ p14.1 v14]⟩ ?_))
 refine Zb ?_
 refine cnd (decide (p14.2 < u21)) (fun b63 => ?_) (fun b63 => ?_)
 have h64 := UC b63 h62
 refine Ze (Zb (Za (Zi (Za (rg0 [1, 2, 5, 6, 7] 5 ⟨186, [(1, .ref 0 0), (2, .ref 1 0), (5, .ref 2 0), (6, .int .i64 p14.2), (7, .int .i64 0)], [.box u2, .box [.sl true 4 0 (fun _ => []), .sl true 1 0 (fun _ => [])], .box [.asl 3 0 p14.1.length, .sl true 1 0 (fun _ => [])], rA 4 hdDom p14.1 v14, rF 2 ZW Zg.ZZ p14.1 v14]⟩ ?_)))))
 refine Zb (Zi ?_)
 obtain ⟨y25, q108, h109⟩ := bind_some h64
 refine Gj (R3 (f := M.VT a0 p14) (S := fun (p16 : u28 × Int) (vs : Nat → Value) => ⟨186, [(1, .ref 0 0), (2, .ref 1 0), (5, .ref 2 0), (6, .int .i64 p14.2), (7, .int .i64 p16.2)], [.box u2, .box [.sl true 4 0 (fun _ => []), .sl true 1 0 (fun _ => [])], .box [.asl 3 0 p16.1.length, .sl true 1 0 (fun _ => [])], rA 4 hdDom p16.1 vs, rF 2 ZW Zg.ZZ p16.1 vs]⟩) (O := (fun z => OutL 2 (fun (z : List Zg) (vs : Nat → Value) => ⟨186, [(1, .ref 0 0), (2, .ref 1 0), (5, .ref 2 0), (6, .int .i64 p14.2)], [.box u2, .box [.sl true 4 0 (fun _ => []), .sl true 1 0 (fun _ => [])], .box [.asl 3 0 z.length, .sl true 1 0 (fun _ => [])], rA 4 hdDom z vs, rF 2 ZW Zg.ZZ z vs]⟩) z)) ?_ (g := v14) (x := (p14.1, 0)) (y := y25) (Wc q108)) ?_
 intro p16 y17 v16 h66
 let u1 := u17.getD p16.2.toNat default
 let u5 := (p16.1.length : Int)
 let u10 := Zj u1
 let u34 := ((u1.ZR) == 0) || (u1.V0)
 unfold M.VT at h66
 refine Za (Za ?_)
 obtain ⟨c67, h68⟩ := Zy h66
 refine rgc [1, 2, 5, 6, 7, 35] 5 ⟨186, [(1, .ref 0 0), (2, .ref 1 0), (5, .ref 2 0), (6, .int .i64 p14.2), (7, .int .i64 p16.2), (35, .bool (decide (p16.2 < u31)))], [.box u2, .box [.sl true 4 0 (fun _ => []), .sl true 1 0 (fun _ => [])], .box [.asl 3 0 p16.1.length, .sl true 1 0 (fun _ => [])], rA 4 hdDom p16.1 v16, rF 2 ZW Zg.ZZ p16.1 v16]⟩ [decide (0 ≤ p14.2), decide (p14.2 < u21)] c67 ?_
 refine Zb ?_
 refine cnd (decide (p16.2 < u31)) (fun b69 => ?_) (fun b69 => ?_)
 have h70 := UC b69 h68
 refine Ze (Zb ?_)
 refine WT (fun (p18 : u28 × (Nat → Value)) => ⟨186, [(1, .ref 0 0), (2, .ref 1 0), (5, .ref 2 0), (6, .int .i64 p14.2), (7, .int .i64 p16.2)], [.box u2, .box [.sl true 4 0 (fun _ => []), .sl true 1 0 (fun _ => [])], .box [.asl 3 0 p18.1.length, .sl true 1 0 (fun _ => [])], rA 4 hdDom p18.1 p18.2, rF 2 ZW Zg.ZZ p18.1 p18.2]⟩) (fun p18 => M.Wq p16 p18.1 = some y17) ?_ ?_
 intro p18 h73
 unfold M.Wq at h73
 refine rg0 [1, 2, 5, 6, 7] 5 ⟨186, [(1, .ref 0 0), (2, .ref 1 0), (5, .ref 2 0), (6, .int .i64 p14.2), (7, .int .i64 (wr .i64 (p16.2 + 1)))], [.box u2, .box [.sl true 4 0 (fun _ => []), .sl true 1 0 (fun _ => [])], .box [.asl 3 0 p18.1.length, .sl true 1 0 (fun _ => [])], rA 4 hdDom p18.1 p18.2, rF 2 ZW Zg.ZZ p18.1 p18.2]⟩ ?_
 obtain rfl := Option.some.inj h73
 exact Rj p18.2 (Un)
 intro k72
 refine Zi (Za ?_)
 obtain ⟨c74, h75⟩ := Zy h70
 refine rgc [1, 2, 5, 6, 7, 8] 6 ⟨186, [(1, .ref 0 0), (2, .ref 1 0), (5, .ref 2 0), (6, .int .i64 p14.2), (7, .int .i64 p16.2), (8, .ref 5 0)], [.box u2, .box [.sl true 4 0 (fun _ => []), .sl true 1 0 (fun _ => [])], .box [.asl 3 0 p16.1.length, .sl true 1 0 (fun _ => [])], rA 4 hdDom p16.1 v16, rF 2 ZW Zg.ZZ p16.1 v16, .box u10]⟩ [decide (0 ≤ p14.2), decide (p14.2 < u21), decide (0 ≤ p16.2), decide (p16.2 < u31)] c74 ?_
 refine Zb (Za (Za (rg0 [1, 2, 5, 6, 7, 8, 53] 6 ⟨186, [(1, .ref 0 0), (2, .ref 1 0), (5, .ref 2 0), (6, .int .i64 p14.2), (7, .int .i64 p16.2), (8, .ref 5 0), (53, .bool u34)], [.box u2, .box [.sl true 4 0 (fun _ => []), .sl true 1 0 (fun _ => [])], .box [.asl 3 0 p16.1.length, .sl true 1 0 (fun _ => [])], rA 4 hdDom p16.1 v16, rF 2 ZW Zg.ZZ p16.1 v16, .box u10]⟩ ?_)))
 refine Zb ?_
 refine cnd u34 (fun b76 => ?_) (fun b76 => ?_)
 have h77 := UC b76 h75
 refine ZV (XF (Qi ?_))
 exact XP (Le.trans (s' := ⟨186, [(1, .ref 0 0), (2, .ref 1 0), (5, .ref 2 0), (6, .int .i64 p14.2), (7, .int .i64 p16.2)], [.box u2, .box [.sl true 4 0 (fun _ => []), .sl true 1 0 (fun _ => [])], .box [.asl 3 0 p16.1.length, .sl true 1 0 (fun _ => [])], rA 4 hdDom p16.1 v16, rF 2 ZW Zg.ZZ p16.1 v16, .box u10]⟩) (kp [1, 2, 5, 6, 7]) (Uh (n := 5) (by kernel_rfl))) (k72 (p16.1, v16) h77)
 have h78 := UD b76 h75
 refine Ze (Zb (Za ?_))
 obtain ⟨r19, q79, h80⟩ := bind_some h78
 let u12 := Xg r19
 refine rg [.pure (.agg u12)] [1, 2, 5, 6, 7, 8, 9] 7 ⟨186, [(1, .ref 0 0), (2, .ref 1 0), (5, .ref 2 0), (6, .int .i64 p14.2), (7, .int .i64 p16.2), (8, .ref 5 0), (9, .ref 6 0)], [.box u2, .box [.sl true 4 0 (fun _ => []), .sl true 1 0 (fun _ => [])], .box [.asl 3 0 p16.1.length, .sl true 1 0 (fun _ => [])], rA 4 hdDom p16.1 v16, rF 2 ZW Zg.ZZ p16.1 v16, .box u10, .box u12]⟩ [] [⟨true, 45, [.int .u32 (u1.Zs), .int .i64 (u1.ZR)], .pure (.agg u12)⟩] ZA ⟨fun _ => U7 (u1.Zs) (u1.ZR) r19 q79, trivial⟩ ?_
 refine Zb (Za (rg0 [1, 2, 5, 6, 7, 8, 9, 10] 7 ⟨186, [(1, .ref 0 0), (2, .ref 1 0), (5, .ref 2 0), (6, .int .i64 p14.2), (7, .int .i64 p16.2), (8, .ref 5 0), (9, .ref 6 0), (10, .int .i64 0)], [.box u2, .box [.sl true 4 0 (fun _ => []), .sl true 1 0 (fun _ => [])], .box [.asl 3 0 p16.1.length, .sl true 1 0 (fun _ => [])], rA 4 hdDom p16.1 v16, rF 2 ZW Zg.ZZ p16.1 v16, .box u10, .box u12]⟩ ?_))
 refine Zb (Za (Zi ?_))
 obtain ⟨y23, q89, h90⟩ := bind_some h80
 let u19 := p16.1.getD (0 + y23.toNat) default
 let u3 := !((((u19.Zo).Zs) == r19.Zs) && ((((u19.Zo).ZR) == r19.ZR) && true))
 let u6 := p16.1.length - y23.toNat
 let u18 := y23.toNat - 0
 let u24 := (u18 + 1) + (0 + u6)
 let u30 := (y23 == u5) || u3
 let u26 := u30 || ((u19.XB) != (u1.XB))
 let u29 := (u18 + 1) * 48 ≤ 140737488355328
 let u35 := u24 * 48 ≤ 140737488355328
 refine V3 (s' := ⟨186, [(1, .ref 0 0), (2, .ref 1 0), (5, .ref 2 0), (6, .int .i64 p14.2), (7, .int .i64 p16.2), (8, .ref 5 0), (9, .ref 6 0), (10, .int .i64 0)], [.box u2, .box [.sl true 4 0 (fun _ => []), .sl true 1 0 (fun _ => [])], .box [.asl 3 0 p16.1.length, .sl true 1 0 (fun _ => [])], rA 4 hdDom p16.1 v16, rF 2 ZW Zg.ZZ p16.1 v16, .box u10, .box u12]⟩) (Un) ?_
 refine Gj (ZdJ (f := M.VS a0 p14 p16 r19) (S := fun (p20 : Int) => ⟨186, [(1, .ref 0 0), (2, .ref 1 0), (5, .ref 2 0), (6, .int .i64 p14.2), (7, .int .i64 p16.2), (8, .ref 5 0), (9, .ref 6 0), (10, .int .i64 p20)], [.box u2, .box [.sl true 4 0 (fun _ => []), .sl true 1 0 (fun _ => [])], .box [.asl 3 0 p16.1.length, .sl true 1 0 (fun _ => [])], rA 4 hdDom p16.1 v16, rF 2 ZW Zg.ZZ p16.1 v16, .box u10, .box u12]⟩) (O := (fun z => OutE 4 (fun z => ⟨186, [(1, .ref 0 0), (2, .ref 1 0), (5, .ref 2 0), (6, .int .i64 p14.2), (7, .int .i64 p16.2), (8, .ref 5 0), (9, .ref 6 0), (10, .int .i64 z)], [.box u2, .box [.sl true 4 0 (fun _ => []), .sl true 1 0 (fun _ => [])], .box [.asl 3 0 p16.1.length, .sl true 1 0 (fun _ => [])], rA 4 hdDom p16.1 v16, rF 2 ZW Zg.ZZ p16.1 v16, .box u10, .box u12]⟩) z)) ?_ (x := 0) (y := y23) (Wc q89)) ?_
 intro p20 y21 h81
 let u13 := p16.1.getD (0 + p20.toNat) default
 let u4 := (((u13.Zo).Zs) == r19.Zs) && ((((u13.Zo).ZR) == r19.ZR) && true)
 let u15 := decide (p20 < u5)
 let u27 := decide (0 ≤ p20)
 unfold M.VS at h81
 refine Za (Za ?_)
 obtain ⟨r22, q82, h83⟩ := bind_some h81
 let u20 := decide (r22 < 0)
 let u22 := u15 && (u20 || (u4 && (decide ((u13.XB) < (u1.XB)))))
 obtain ⟨c84, h85⟩ := Zy h83
 refine rg [.pure (.int .i64 r22)] [1, 2, 5, 6, 7, 8, 9, 10, 95] 7 ⟨186, [(1, .ref 0 0), (2, .ref 1 0), (5, .ref 2 0), (6, .int .i64 p14.2), (7, .int .i64 p16.2), (8, .ref 5 0), (9, .ref 6 0), (10, .int .i64 p20), (95, .bool u22)], [.box u2, .box [.sl true 4 0 (fun _ => []), .sl true 1 0 (fun _ => [])], .box [.asl 3 0 p16.1.length, .sl true 1 0 (fun _ => [])], rA 4 hdDom p16.1 v16, rF 2 ZW Zg.ZZ p16.1 v16, .box u10, .box u12]⟩ [guardB u15 u27, guardB u15 u15, guardB (u15 && !u20) u27, guardB (u15 && !u20) u15, guardB ((u15 && !u20) && u4) u27, guardB ((u15 && !u20) && u4) u15] [⟨decide (p20 < u5), 46, [.agg (Xg (u13.Zo)), .agg u12], .pure (.int .i64 r22)⟩] c84 ⟨fun hg => Zc1 (u13.Zo) r19 r22 (XN q82 hg), trivial⟩ ?_
 refine Zb ?_
 refine cnd u22 (fun b86 => ?_) (fun b86 => ?_)
 have h87 := UC b86 h85
 refine Ze (Zb (Zi (rg0 [1, 2, 5, 6, 7, 8, 9, 10] 7 ⟨186, [(1, .ref 0 0), (2, .ref 1 0), (5, .ref 2 0), (6, .int .i64 p14.2), (7, .int .i64 p16.2), (8, .ref 5 0), (9, .ref 6 0), (10, .int .i64 (wr .i64 (p20 + 1)))], [.box u2, .box [.sl true 4 0 (fun _ => []), .sl true 1 0 (fun _ => [])], .box [.asl 3 0 p16.1.length, .sl true 1 0 (fun _ => [])], rA 4 hdDom p16.1 v16, rF 2 ZW Zg.ZZ p16.1 v16, .box u10, .box u12]⟩ ?_)))
 refine XX ?_
 obtain rfl := Option.some.inj h87
 exact Zfa (Un)
 have h88 := UD b86 h85
 refine ZV (XF ?_)
 obtain rfl := Option.some.inj h88
 exact Zfb ⟨rfl, kp [1, 2, 5, 6, 7, 8, 9, 10]⟩
 intro e91 s92 o93
 obtain ⟨rfl, l94⟩ := o93
 refine Qi ?_
 refine XP (s' := ⟨186, [(1, .ref 0 0), (2, .ref 1 0), (5, .ref 2 0), (6, .int .i64 p14.2), (7, .int .i64 p16.2), (8, .ref 5 0), (9, .ref 6 0), (10, .int .i64 y23)], [.box u2, .box [.sl true 4 0 (fun _ => []), .sl true 1 0 (fun _ => [])], .box [.asl 3 0 p16.1.length, .sl true 1 0 (fun _ => [])], rA 4 hdDom p16.1 v16, rF 2 ZW Zg.ZZ p16.1 v16, .box u10, .box u12]⟩) (l94) ?_
 refine WT (fun (p24 : u28 × (Nat → Value)) => ⟨186, [(1, .ref 0 0), (2, .ref 1 0), (5, .ref 2 0), (6, .int .i64 p14.2), (7, .int .i64 p16.2), (10, .int .i64 y23)], [.box u2, .box [.sl true 4 0 (fun _ => []), .sl true 1 0 (fun _ => [])], .box [.asl 3 0 p24.1.length, .sl true 1 0 (fun _ => [])], rA 4 hdDom p24.1 p24.2, rF 2 ZW Zg.ZZ p24.1 p24.2]⟩) (fun p24 => M.Wr p14 p16 y23 p24.1 = some y17) ?_ ?_
 intro p24 h96
 let u14 := p24.1.getD (0 + y23.toNat) default
 let u23 := u14.ZZ.length + 1
 unfold M.Wr at h96
 obtain ⟨c97, h98⟩ := Zy h96
 have g1 : 0 ≤ y23 := of_decide_eq_true (c97 _ (by simp only [List.mem_cons, true_or]))
 have g2 : y23 < (p24.1.length : Int) := of_decide_eq_true (c97 _ (by simp only [List.mem_cons, true_or, or_true]))
 have g3 : (((p24.1.getD (0 + y23.toNat) default).ZZ).length + 1) * 16 ≤ 140737488355328 := of_decide_eq_true (c97 _ (by simp only [List.mem_cons, true_or, or_true]))
 refine V3 (Zi9 (idf := 4) (0 + y23.toNat) rfl) ?_
 refine rgvB [1] [.gone, .gone, .box [.asl 3 0 p24.1.length, .sl true 1 0 (fun _ => [])]] [[.box u2, .box [.sl true 4 0 (fun _ => []), .sl true 1 0 (fun _ => [])], .box [.asl 3 0 p24.1.length, .sl true 1 0 (fun _ => [])], rA 4 hdDom p24.1 p24.2, .fam (0 + y23.toNat) (fun v => pB (v = p24.2 (0 + y23.toNat))) p24.1.length 2 p24.2 (rls ZW Zg.ZZ p24.1)], [.box u2, .box [.sl true 4 0 (fun _ => []), .sl true 1 0 (fun _ => [])], .box [.asl 3 0 p24.1.length, .sl true 1 0 (fun _ => [])], rA 4 hdDom p24.1 p24.2, .fam (0 + y23.toNat) (fun _ => false) p24.1.length 2 (updV p24.2 (0 + y23.toNat) nilV) (updL (rls ZW Zg.ZZ p24.1) (0 + y23.toNat) (0, fun _ => [])), .arr 2 u23 (app (rls ZW Zg.ZZ p24.1 (0 + y23.toNat)).2 (rls ZW Zg.ZZ p24.1 (0 + y23.toNat)).1 (fun i => List.take 2 (List.drop (i * 2) [.int .i64 p14.2, .int .i64 p16.2])))]] 14 [] [1, 2, 5, 6, 7, 144, 145, 156] 6 ⟨186, [(1, .ref 0 0), (2, .ref 1 0), (5, .ref 2 0), (6, .int .i64 p14.2), (7, .int .i64 p16.2), (144, .asl 3 0 p24.1.length), (145, .int .i64 y23), (156, .asl 5 0 u23)], [.box u2, .box [.sl true 4 0 (fun _ => []), .sl true 1 0 (fun _ => [])], .box [.asl 3 0 p24.1.length, .sl true 1 0 (fun _ => [])], rA 4 hdDom p24.1 p24.2, .fam (0 + y23.toNat) (fun _ => false) p24.1.length 2 (updV p24.2 (0 + y23.toNat) nilV) (updL (rls ZW Zg.ZZ p24.1) (0 + y23.toNat) (0, fun _ => [])), .arr 2 u23 (app (rls ZW Zg.ZZ p24.1 (0 + y23.toNat)).2 (rls ZW Zg.ZZ p24.1 (0 + y23.toNat)).1 (fun i => List.take 2 (List.drop (i * 2) [.int .i64 p14.2, .int .i64 p16.2])))]⟩ [decide (0 ≤ y23), decide (y23 < (p24.1.length : Int)), pB (p24.2 (0 + y23.toNat) = p24.2 (0 + y23.toNat)), decide ((0 + y23.toNat) < p24.1.length), decide (u23 * 16 ≤ 140737488355328)] [] ?_ trivial ?_ _ (Zht (idf := 4) 156 (0 + y23.toNat) rfl rfl rfl ?_ rfl) [] [1, 2, 5, 6, 7] 5 (fun w => ⟨186, [(1, .ref 0 0), (2, .ref 1 0), (5, .ref 2 0), (6, .int .i64 p14.2), (7, .int .i64 p16.2)], [.box u2, .box [.sl true 4 0 (fun _ => []), .sl true 1 0 (fun _ => [])], .box [.asl 3 0 p24.1.length, .sl true 1 0 (fun _ => [])], .arr 4 p24.1.length (fun j => bif Nat.beq j (0 + y23.toNat) then splice (hdDom u14 ++ [.val (p24.2 (0 + y23.toNat))]) [.val w] 3 else hdDom (p24.1.getD j default) ++ [.val (p24.2 j)]), .fam 0 (fun _ => false) p24.1.length 2 (updV (updV p24.2 (0 + y23.toNat) nilV) (0 + y23.toNat) w) (updL (updL (rls ZW Zg.ZZ p24.1) (0 + y23.toNat) (0, fun _ => [])) (0 + y23.toNat) (u14.ZZ.length + 1, (app (rls ZW Zg.ZZ p24.1 (0 + y23.toNat)).2 (rls ZW Zg.ZZ p24.1 (0 + y23.toNat)).1 (fun i => List.take 2 (List.drop (i * 2) [.int .i64 p14.2, .int .i64 p16.2])))))]⟩) (fun _ => [decide (0 ≤ y23), decide (y23 < (p24.1.length : Int))]) (fun _ => []) ?_ (fun _ => trivial) (fun w => ?_)
 · exact am (decide_eq_true g1) (am (decide_eq_true g2) (am (Zi8 rfl) (am (decide_eq_true (by omega)) (am (decide_eq_true g3) ZA))))
 · intro x hx
   simp only [List.mem_cons, List.not_mem_nil, or_false] at hx
   rcases hx with rfl | rfl <;> exact ⟨rfl, trivial⟩
 · rw [Wn]; rfl
 · exact fun _ => am (decide_eq_true g1) (am (decide_eq_true g2) ZA)
 refine XX ?_
 exact XP (Le.trans (Zhw 3 4 hdDom ZW Zg.ZZ p24.1 (⟨(p24.1.getD (0 + y23.toNat) default).Zo, (p24.1.getD (0 + y23.toNat) default).XB, ((p24.1.getD (0 + y23.toNat) default).ZZ) ++ [(⟨p14.2, p16.2⟩ : X8)]⟩ : Zg) p24.2 (0 + y23.toNat) w ((p24.1.getD (0 + y23.toNat) default).ZZ.length + 1) (app (rls ZW Zg.ZZ p24.1 (0 + y23.toNat)).2 (rls ZW Zg.ZZ p24.1 (0 + y23.toNat)).1 (fun i => List.take 2 (List.drop (i * 2) [.int .i64 p14.2, .int .i64 p16.2]))) _ _ _ (by decide) rfl rfl (fun j _ hj => by rw [ZaO hj]; rfl) (fun _ => by rw [Nat.beq_refl]; rfl) (fun j hj => UA hj) (fun j hj => R0 hj) (by simp) (fun i hi => Rg ZW (p24.1.getD (0 + y23.toNat) default).ZZ (⟨p14.2, p16.2⟩ : X8) (fun i => List.take 2 (List.drop (i * 2) [.int .i64 p14.2, .int .i64 p16.2])) rfl i hi)) (VE (.cons Sub.rfl (.cons Sub.rfl (.cons Sub.rfl (.cons Sub.rfl (.cons Sub.rfl .nil))))) (.cons .rfl (.cons .rfl (.cons (.box (.cons (Zbx (by simp)) (.cons CSub.rfl .nil))) (.cons .rfl (.cons .rfl .nil))))))) (k72 (p24.1.set (0 + y23.toNat) (⟨(p24.1.getD (0 + y23.toNat) default).Zo, (p24.1.getD (0 + y23.toNat) default).XB, ((p24.1.getD (0 + y23.toNat) default).ZZ) ++ [(⟨p14.2, p16.2⟩ : X8)]⟩ : Zg), updV p24.2 (0 + y23.toNat) w) h98)
 intro k95
 refine Za ?_
 obtain ⟨c99, h100⟩ := Zy h90
 refine rgc [1, 2, 5, 6, 7, 8, 9, 10, 123] 7 ⟨186, [(1, .ref 0 0), (2, .ref 1 0), (5, .ref 2 0), (6, .int .i64 p14.2), (7, .int .i64 p16.2), (8, .ref 5 0), (9, .ref 6 0), (10, .int .i64 y23), (123, .bool u26)], [.box u2, .box [.sl true 4 0 (fun _ => []), .sl true 1 0 (fun _ => [])], .box [.asl 3 0 p16.1.length, .sl true 1 0 (fun _ => [])], rA 4 hdDom p16.1 v16, rF 2 ZW Zg.ZZ p16.1 v16, .box u10, .box u12]⟩ [guardB (!(y23 == u5)) (decide (0 ≤ y23)), guardB (!(y23 == u5)) (decide (y23 < u5)), guardB (!u30) (decide (0 ≤ y23)), guardB (!u30) (decide (y23 < u5))] c99 ?_
 refine Zb ?_
 refine cnd u26 (fun b101 => ?_) (fun b101 => ?_)
 have h102 := UC b101 h100
 refine Za ?_
 obtain ⟨c104, h105⟩ := Zy h102
 refine rgc [1, 2, 5, 6, 7, 8, 9, 10, 11] 8 ⟨186, [(1, .ref 0 0), (2, .ref 1 0), (5, .ref 2 0), (6, .int .i64 p14.2), (7, .int .i64 p16.2), (8, .ref 5 0), (9, .ref 6 0), (10, .int .i64 y23), (11, .asl 7 0 (0 + u6))], [.box u2, .box [.sl true 4 0 (fun _ => []), .sl true 1 0 (fun _ => [])], .box [.asl 3 0 p16.1.length, .sl true 1 0 (fun _ => [])], rA 4 hdDom p16.1 v16, rF 2 ZW Zg.ZZ p16.1 v16, .box u10, .box u12, .arr 4 (0 + u6) (app (fun i => List.take 4 (List.drop (i * 4) [])) 0 (fun i => hdDom (p16.1.getD ((0 + y23.toNat) + i) default) ++ [.val (v16 ((0 + y23.toNat) + i))]))]⟩ [decide (0 ≤ y23), decide (y23 ≤ u5), decide (0 = 0) || decide (0 < u6), decide ((0 + u6) * 48 ≤ 140737488355328)] c104 ?_
 refine Zb ?_
 obtain ⟨c106, h107⟩ := Zy h105
 have g1 : 0 ≤ y23 := of_decide_eq_true (c106 _ (by simp only [List.mem_cons, true_or]))
 have g2 : y23 ≤ (p16.1.length : Int) := of_decide_eq_true (c106 _ (by simp only [List.mem_cons, true_or, or_true]))
 have g3 : ((y23.toNat - 0) + 1) * 48 ≤ 140737488355328 := of_decide_eq_true (c106 _ (by simp only [List.mem_cons, true_or, or_true]))
 have g4 : (((y23.toNat - 0) + 1) + (0 + (p16.1.length - y23.toNat))) * 48 ≤ 140737488355328 := of_decide_eq_true (c106 _ (by simp only [List.mem_cons, true_or, or_true]))
 refine rgp 9 [] [1, 2, 5, 6, 7, 10, 11, 133, 138] 8 ⟨186, [(1, .ref 0 0), (2, .ref 1 0), (5, .ref 2 0), (6, .int .i64 p14.2), (7, .int .i64 p16.2), (10, .int .i64 y23), (11, .asl 7 0 (0 + u6)), (133, .asl 3 0 u18), (138, .sl true 4 1 (fun i => List.take 4 (List.drop (i * 4) [.int .u32 r19.Zs, .int .i64 r19.ZR, .int .i64 u1.XB, .sl true 2 0 (fun _ => [])])))], [.box u2, .box [.sl true 4 0 (fun _ => []), .sl true 1 0 (fun _ => [])], .box [.asl 3 0 p16.1.length, .sl true 1 0 (fun _ => [])], rA 4 hdDom p16.1 v16, rF 2 ZW Zg.ZZ p16.1 v16, .box u10, .box u12, .arr 4 (0 + u6) (app (fun i => List.take 4 (List.drop (i * 4) [])) 0 (fun i => hdDom (p16.1.getD ((0 + y23.toNat) + i) default) ++ [.val (v16 ((0 + y23.toNat) + i))]))]⟩ [1, 2, 5, 6, 7, 10, 133, 138, 140] 8 ⟨186, [(1, .ref 0 0), (2, .ref 1 0), (5, .ref 2 0), (6, .int .i64 p14.2), (7, .int .i64 p16.2), (10, .int .i64 y23), (133, .asl 3 0 u18), (138, .sl true 4 1 (fun i => List.take 4 (List.drop (i * 4) [.int .u32 r19.Zs, .int .i64 r19.ZR, .int .i64 u1.XB, .sl true 2 0 (fun _ => [])]))), (140, .asl 7 0 (0 + u6))], [.box u2, .box [.sl true 4 0 (fun _ => []), .sl true 1 0 (fun _ => [])], .box [.asl 3 0 p16.1.length, .sl true 1 0 (fun _ => [])], rA 4 hdDom p16.1 v16, rF 2 ZW Zg.ZZ p16.1 v16, .box u10, .box u12, .arr 4 (0 + u6) (app (fun i => List.take 4 (List.drop (i * 4) [])) 0 (fun i => hdDom (p16.1.getD ((0 + y23.toNat) + i) default) ++ [.val (v16 ((0 + y23.toNat) + i))]))]⟩ [decide (0 ≤ y23), decide (y23 ≤ u5)] [] (am (decide_eq_true g1) (am (decide_eq_true g2) ZA)) trivial [] [1, 2, 5, 6, 7, 10] 5 ⟨186, [(1, .ref 0 0), (2, .ref 1 0), (5, .ref 2 0), (6, .int .i64 p14.2), (7, .int .i64 p16.2), (10, .int .i64 y23)], [.box u2, .box [.sl true 4 0 (fun _ => []), .sl true 1 0 (fun _ => [])], .box [.asl 3 0 u24, .sl true 1 0 (fun _ => [])], .arr 4 u24 (app (app (fun j => hdDom (p16.1.getD j default) ++ [.val (v16 j)]) u18 (fun i => List.take 4 (List.drop (i * 4) [.int .u32 r19.Zs, .int .i64 r19.ZR, .int .i64 u1.XB, .sl true 2 0 (fun _ => [])]))) (u18 + 1) (fun i => (app (fun i => List.take 4 (List.drop (i * 4) [])) 0 (fun i => hdDom (p16.1.getD ((0 + y23.toNat) + i) default) ++ [.val (v16 ((0 + y23.toNat) + i))])) (0 + i))), rF 2 ZW Zg.ZZ p16.1 v16]⟩ [decide u29, decide u35] [] (am (decide_eq_true g3) (am (decide_eq_true g4) ZA)) trivial [] [1, 2, 5, 6, 7, 10, 139, 140] 8 ⟨186, [(1, .ref 0 0), (2, .ref 1 0), (5, .ref 2 0), (6, .int .i64 p14.2), (7, .int .i64 p16.2), (10, .int .i64 y23), (139, .asl 3 0 (u18 + 1)), (140, .asl 7 0 (0 + u6))], [.box u2, .box [.sl true 4 0 (fun _ => []), .sl true 1 0 (fun _ => [])], .box [.any, .sl true 1 0 (fun _ => [])], .arr 4 (u18 + 1) (app (fun j => hdDom (p16.1.getD j default) ++ [.val (v16 j)]) u18 (fun i => List.take 4 (List.drop (i * 4) [.int .u32 r19.Zs, .int .i64 r19.ZR, .int .i64 u1.XB, .sl true 2 0 (fun _ => [])]))), rF 2 ZW Zg.ZZ p16.1 v16, .box u10, .box u12, .arr 4 (0 + u6) (app (fun i => List.take 4 (List.drop (i * 4) [])) 0 (fun i => hdDom (p16.1.getD ((0 + y23.toNat) + i) default) ++ [.val (v16 ((0 + y23.toNat) + i))]))]⟩ [decide u29] [] (am (decide_eq_true g3) ZA) trivial [] [1, 2, 5, 6, 7, 10] 5 [decide u35] [] (am (decide_eq_true g4) ZA) trivial ?_
 refine G7 (Zjv (w1 := 2) (g := fun _ => []) 3 4 hdDom ZW Zg.ZZ p16.1 y23.toNat (⟨r19, (((a0.Zd.getD p14.2.toNat default).Zc).getD p16.2.toNat default).XB, ([] : List X8)⟩ : Zg) v16 (by decide) (by omega) (by omega) rfl rfl rfl (fun j hj => ?_) ?_ (fun j hj hj2 => ?_)) fun w => ?_
 · exact (Zdq (by omega)).trans (Zdq (by omega))
 · exact (Zdq (by omega)).trans ((congrArg (app _ (y23.toNat - 0) _) (show y23.toNat = y23.toNat - 0 by omega)).trans Zju)
 · rw [Zjt (by omega)]
   show app _ 0 _ (0 + (j - (y23.toNat - 0 + 1))) = _
   rw [Zjt (Nat.zero_le _)]
   have e : (0 + y23.toNat) + ((0 + (j - (y23.toNat - 0 + 1))) - 0) = j - 1 := by omega
   simp only [e]
 exact V3 (VE (.cons Sub.rfl (.cons Sub.rfl (.cons Sub.rfl (.cons Sub.rfl (.cons Sub.rfl (.cons Sub.rfl .nil)))))) (.cons .rfl (.cons .rfl (.cons (.box (.cons (Zbx (by rw [Zbw (by omega)]; omega)) (.cons CSub.rfl .nil))) (.cons .rfl (.cons .rfl .nil)))))) (k95 (insL p16.1 y23.toNat (⟨r19, (((a0.Zd.getD p14.2.toNat default).Zc).getD p16.2.toNat default).XB, ([] : List X8)⟩ : Zg), insV v16 y23.toNat w.1) h107)
 have h103 := UD b101 h100
 refine Ze ?_
 exact XP (Le.trans (s' := ⟨186, [(1, .ref 0 0), (2, .ref 1 0), (5, .ref 2 0), (6, .int .i64 p14.2), (7, .int .i64 p16.2), (10, .int .i64 y23)], [.box u2, .box [.sl true 4 0 (fun _ => []), .sl true 1 0 (fun _ => [])], .box [.asl 3 0 p16.1.length, .sl true 1 0 (fun _ => [])], rA 4 hdDom p16.1 v16, rF 2 ZW Zg.ZZ p16.1 v16, .box u10, .box u12]⟩) (kp [1, 2, 5, 6, 7, 10]) (Uh (n := 5) (by kernel_rfl))) (k95 (p16.1, v16) h103)
 have h71 := UD b69 h68
 refine ZV (XF ?_)
 obtain rfl := Option.some.inj h71
 exact Zbv ⟨rfl, LeE.of v16 (kp [1, 2, 5, 6])⟩
 intro e110 s111 o112
 obtain ⟨rfl, l113⟩ := o112
 refine Qi (XX ?_)
 refine G7 l113 fun v25 => ?_
 refine rg0 [1, 2, 5, 6] 5 ⟨186, [(1, .ref 0 0), (2, .ref 1 0), (5, .ref 2 0), (6, .int .i64 (wr .i64 (p14.2 + 1)))], [.box u2, .box [.sl true 4 0 (fun _ => []), .sl true 1 0 (fun _ => [])], .box [.asl 3 0 y25.length, .sl true 1 0 (fun _ => [])], rA 4 hdDom y25 v25, rF 2 ZW Zg.ZZ y25 v25]⟩ ?_
 obtain rfl := Option.some.inj h109
 exact Rj v25 (Un)
 have h65 := UD b63 h62
 refine ZV (XF ?_)
 obtain rfl := Option.some.inj h65
 exact Zbv ⟨rfl, LeE.of v14 (kp [2, 5])⟩
 intro e116 s117 o118
 obtain ⟨rfl, l119⟩ := o118
 refine Qi ?_
 refine G7 l119 fun v26 => ?_
 refine Za (Za ?_)
 refine V3 (s' := ⟨186, u16, [.box u2, .box [.sl true 4 0 (fun _ => []), .sl true 1 0 (fun _ => [])], .box [.sl false 4 y26.length (fun k => (fun i => ZD (y26.getD i default)) (0 + k)), .sl true 1 0 (fun _ => [])], aL 4 ZD ([] : List Zg), .fam 0 (fun _ => false) 0 2 v26 (rls ZW Zg.ZZ y26)]⟩) (Le.trans (s' := ⟨186, u16, [.box u2, .box [.sl true 4 0 (fun _ => []), .sl true 1 0 (fun _ => [])], .box [.asl 3 0 y26.length, .sl true 1 0 (fun _ => [])], aL 4 ZD y26, .fam 0 (fun _ => false) 0 2 v26 (rls ZW Zg.ZZ y26)]⟩) (Zhx 3 4 hdDom ZW Zg.ZZ ZD y26 v26 rfl rfl (fun _ => rfl)) (Le.trans ((Rh (s := ⟨186, u16, [.box u2, .box [.sl true 4 0 (fun _ => []), .sl true 1 0 (fun _ => [])], .box [.asl 3 0 y26.length, .sl true 1 0 (fun _ => [])], aL 4 ZD y26, .fam 0 (fun _ => false) 0 2 v26 (rls ZW Zg.ZZ y26)]⟩) (s' := ⟨186, u16, [.box u2, .box [.sl true 4 0 (fun _ => []), .sl true 1 0 (fun _ => [])], .box [.sl false 4 y26.length (fun k => (fun i => ZD (y26.getD i default)) (0 + k)), .sl true 1 0 (fun _ => [])], aL 4 ZD ([] : List Zg), .fam 0 (fun _ => false) 0 2 v26 (rls ZW Zg.ZZ y26)]⟩) 3 4 y26.length (fun i => ZD (y26.getD i default)) (fun i => ZD (([] : List Zg).getD i default)) (by kernel_rfl) (by kernel_rfl) (by kernel_rfl))) (kp [2, 5]))) ?_
 refine rg0 [2, 5, 12] 3 ⟨186, [(2, .ref 1 0), (5, .ref 2 0), (12, .int .i64 0)], [.box u2, .box [.sl true 4 0 (fun _ => []), .sl true 1 0 (fun _ => [])], .box [.sl false 4 y26.length (fun k => (fun i => ZD (y26.getD i default)) (0 + k)), .sl true 1 0 (fun _ => [])]]⟩ ?_
 refine XP (s' := ⟨186, [(2, .ref 1 0), (5, .ref 2 0), (12, .int .i64 0)], u9⟩) (VE (.cons Sub.rfl (.cons Sub.rfl (.cons Sub.rfl .nil))) (.cons .rfl (.cons .rfl (.cons (.box (.cons (UX rfl (GG (f := fun i => ZD (y26.getD i default)) (fun _ _ => rfl))) (.cons CSub.rfl .nil))) .nil)))) ?_
 refine Zi ?_
 refine V3 (s' := ⟨186, [(2, .ref 1 0), (5, .ref 2 0), (12, .int .i64 0)], u9⟩) (Un) ?_
 refine V3 (s' := ⟨186, [(2, .ref 1 0), (5, .ref 2 0), (12, .int .i64 0)], [.box u2, .box [.sl true 4 0 (fun _ => []), .sl true 1 0 (fun _ => [])], .box [sL 4 ZD y26, .asl 3 0 (([] : List Int).length)], aL 1 (ci .i64) ([] : List Int)]⟩) (Zd1 (nt := 186) (e := [(2, .ref 1 0), (5, .ref 2 0), (12, .int .i64 0)]) (H := u9) (cells := [sL 4 ZD y26, .sl true 1 0 (fun _ => [])]) (wd := 1) (f := fun _ => []) 2 1 rfl rfl 1 (fun i => (ci .i64) (([] : List Int).getD i default))) ?_
 obtain ⟨y31, q136, h137⟩ := bind_some h115
 let u11 : List (Nat × D) := [(2, .ref 1 0), (5, .ref 2 0), (183, .bool (decide ((y31.length : Int) > 12)))]
 refine V3 (s' := ⟨186, [(2, .ref 1 0), (5, .ref 2 0), (12, .int .i64 0)], [.box u2, .box [.sl true 4 0 (fun _ => []), .sl true 1 0 (fun _ => [])], .box [sL 4 ZD y26, .asl 3 0 (([] : List Int).length)], aL 1 (ci .i64) ([] : List Int)]⟩) (Un) ?_
 refine Gj (ZdJ (f := M.VV y26) (S := fun (p28 : (List Int) × Int) => ⟨186, [(2, .ref 1 0), (5, .ref 2 0), (12, .int .i64 p28.2)], [.box u2, .box [.sl true 4 0 (fun _ => []), .sl true 1 0 (fun _ => [])], .box [sL 4 ZD y26, .asl 3 0 p28.1.length], aL 1 (ci .i64) p28.1]⟩) (O := (fun z => OutE 6 (fun z => ⟨186, u16, [.box u2, .box [.sl true 4 0 (fun _ => []), .sl true 1 0 (fun _ => [])], .box [sL 4 ZD y26, .asl 3 0 z.length], aL 1 (ci .i64) z]⟩) z)) ?_ (x := (([] : List Int), 0)) (y := y31) (Wc q136)) ?_
 intro p28 y29 h123
 let u25 := (((y26.getD p28.2.toNat default).ZZ).length : Int)
 let u33 := p28.1.length + 1
 unfold M.VV at h123
 refine Za (Za (rg0 [2, 5, 12, 163] 4 ⟨186, [(2, .ref 1 0), (5, .ref 2 0), (12, .int .i64 p28.2), (163, .bool (decide (p28.2 < u32)))], [.box u2, .box [.sl true 4 0 (fun _ => []), .sl true 1 0 (fun _ => [])], .box [sL 4 ZD y26, .asl 3 0 p28.1.length], aL 1 (ci .i64) p28.1]⟩ ?_))
 refine Zb ?_
 refine cnd (decide (p28.2 < u32)) (fun b124 => ?_) (fun b124 => ?_)
 have h125 := UC b124 h123
 refine Ze (Zb ?_)
 refine WT (fun (p30 : (List Int)) => ⟨186, [(2, .ref 1 0), (5, .ref 2 0), (12, .int .i64 p28.2)], [.box u2, .box [.sl true 4 0 (fun _ => []), .sl true 1 0 (fun _ => [])], .box [sL 4 ZD y26, .asl 3 0 p30.length], aL 1 (ci .i64) p30]⟩) (fun p30 => M.Ws p28 p30 = some y29) ?_ ?_
 intro p30 h128
 unfold M.Ws at h128
 refine rg0 [2, 5, 12] 4 ⟨186, [(2, .ref 1 0), (5, .ref 2 0), (12, .int .i64 (wr .i64 (p28.2 + 1)))], [.box u2, .box [.sl true 4 0 (fun _ => []), .sl true 1 0 (fun _ => [])], .box [sL 4 ZD y26, .asl 3 0 p30.length], aL 1 (ci .i64) p30]⟩ ?_
 obtain rfl := Option.some.inj h128
 exact Zfa (Un)
 intro k127
 refine Zi (Za ?_)
 obtain ⟨c129, h130⟩ := Zy h125
 refine rgc [2, 5, 12, 173] 4 ⟨186, [(2, .ref 1 0), (5, .ref 2 0), (12, .int .i64 p28.2), (173, .bool (decide (u25 > 1)))], [.box u2, .box [.sl true 4 0 (fun _ => []), .sl true 1 0 (fun _ => [])], .box [sL 4 ZD y26, .asl 3 0 p28.1.length], aL 1 (ci .i64) p28.1]⟩ [decide (0 ≤ p28.2), decide (p28.2 < u32)] c129 ?_
 refine Zb ?_
 refine cnd (decide (u25 > 1)) (fun b131 => ?_) (fun b131 => ?_)
 have h132 := UC b131 h130
 obtain ⟨c134, h135⟩ := Zy h132
 refine rgc [2, 5, 12] 4 ⟨186, [(2, .ref 1 0), (5, .ref 2 0), (12, .int .i64 p28.2)], [.box u2, .box [.sl true 4 0 (fun _ => []), .sl true 1 0 (fun _ => [])], .box [sL 4 ZD y26, .asl 3 0 u33], .arr 1 u33 (app (fun i => (ci .i64) (p28.1.getD i default)) p28.1.length (fun i => List.take 1 (List.drop (i * 1) [.int .i64 p28.2])))]⟩ [decide (u33 * 8 ≤ 140737488355328)] c134 ?_
 refine XX ?_
 exact XP (VE (.cons Sub.rfl (.cons Sub.rfl (.cons Sub.rfl .nil))) (.cons .rfl (.cons .rfl (.cons (.box (.cons CSub.rfl (.cons (Zbx (G6 _ _)) .nil))) (.cons (.arr (G6 _ _) (Rg (ci .i64) p28.1 p28.2 _ rfl)) .nil))))) (k127 (p28.1 ++ [p28.2]) h135)
 have h133 := UD b131 h130
 refine Ze (XX ?_)
 exact XP (kp [2, 5, 12]) (k127 p28.1 h133)
 have h126 := UD b124 h123
 refine ZV (XF ?_)
 obtain rfl := Option.some.inj h126
 exact Zfb ⟨rfl, kp [2, 5]⟩
 intro e138 s139 o140
 obtain ⟨rfl, l141⟩ := o140
 refine Qi ?_
 refine XP (s' := ⟨186, u16, [.box u2, .box [.sl true 4 0 (fun _ => []), .sl true 1 0 (fun _ => [])], .box [sL 4 ZD y26, .asl 3 0 y31.length], aL 1 (ci .i64) y31]⟩) (l141) ?_
 refine Za (Za (rg0 [2, 5, 183] 4 ⟨186, u11, [.box u2, .box [.sl true 4 0 (fun _ => []), .sl true 1 0 (fun _ => [])], .box [sL 4 ZD y26, .asl 3 0 y31.length], aL 1 (ci .i64) y31]⟩ ?_))
 refine Zb ?_
 refine cnd (decide ((y31.length : Int) > 12)) (fun b142 => ?_) (fun b142 => ?_)
 have h143 := UC b142 h137
 refine Za (rg0 [2, 3] 2 ⟨186, [(2, .ref 1 0), (3, .int .i64 7)], u7⟩ ?_)
 refine Zb (Zh (Zk ?_))
 obtain rfl := Option.some.inj h143
 exact er (.tup [.agg [.sl false 4 0 (fun _ => []), .sl false 1 0 (fun _ => [])], .int .i64 7]) (Zbo (.cons (Rf (.cons Vp (.cons Vp .nil))) (.cons ASub.rfl .nil)))
 have h144 := UD b142 h137
 refine Ze (Zb (Za ?_))
 refine V3 (s' := ⟨186, u11, [.box u2, .box [.sl true 4 0 (fun _ => []), .sl true 1 0 (fun _ => [])], .box [sL 4 ZD y26, .sl false 1 y31.length (fun k => (fun i => (ci .i64) (y31.getD i default)) (0 + k))], aL 1 (ci .i64) ([] : List Int)]⟩) (Le.trans ((Rh (s := ⟨186, u11, [.box u2, .box [.sl true 4 0 (fun _ => []), .sl true 1 0 (fun _ => [])], .box [sL 4 ZD y26, .asl 3 0 y31.length], aL 1 (ci .i64) y31]⟩) (s' := ⟨186, u11, [.box u2, .box [.sl true 4 0 (fun _ => []), .sl true 1 0 (fun _ => [])], .box [sL 4 ZD y26, .sl false 1 y31.length (fun k => (fun i => (ci .i64) (y31.getD i default)) (0 + k))], aL 1 (ci .i64) ([] : List Int)]⟩) 3 1 y31.length (fun i => (ci .i64) (y31.getD i default)) (fun i => (ci .i64) (([] : List Int).getD i default)) (by kernel_rfl) (by kernel_rfl) (by kernel_rfl))) (kp [2, 5, 183])) ?_
 refine rg0 [2, 3] 2 ⟨186, [(2, .ref 1 0), (3, .int .i64 0)], [.box u2, .box [sL 4 ZD y26, .sl false 1 y31.length (fun k => (fun i => (ci .i64) (y31.getD i default)) (0 + k))]]⟩ ?_
 refine XP (s' := ⟨186, [(2, .ref 1 0), (3, .int .i64 0)], [.box u2, .box [sL 4 ZD y26, sL 1 (ci .i64) y31]]⟩) (VE (.cons Sub.rfl (.cons Sub.rfl .nil)) (.cons .rfl (.cons (.box (.cons CSub.rfl (.cons (UX rfl (GG (f := fun i => (ci .i64) (y31.getD i default)) (fun _ _ => rfl))) .nil))) .nil))) ?_
 refine Zh ?_
 obtain rfl := Option.some.inj h144
 exact er0 (.tup [.agg [sL 4 ZD y26, sL 1 (ci .i64) y31], .int .i64 0])
theorem ZaV (a0 : List Int) (a1 : Int) (r : Bool) (h : M.QG a0 a1 = some r) : Fn Tryz.prog 50 [sL 1 (ci .i64) a0, .int .i64 a1] (.pure (.bool r)) := by
 unfold M.QG at h
 refine ZS Tryz.func50 rfl (by kernel_rfl) (Za (zg [0, 1] 0 (Zb (Za (Za (zg [0, 1, 8] 0 (Zb (cn h (fun _ h2 => ?_) (fun _ h3 => ?_)))))))))
 exact Za (zg [4] 0 (Zb (Zh (Zk (er1 h2)))))
 refine Ze (Zb (Za (Za (zg [0, 1, 5] 0 (Zb (Zi ?_))))))
 obtain ⟨y3, q13, h14⟩ := bind_some h3
 refine zl (fun (p1 : Int) => ⟨44, [(0, sL 1 (ci .i64) a0), (1, .int .i64 a1), (5, .int .i64 p1)], []⟩) (Sum.elim (fun z => OutE 0 (fun z => ⟨44, [], []⟩) z) (fun z => OutR Tryz.prog Tryz.f50 (.bool z))) q13 ?_ ?_
 intro p1 y2 h4
 unfold M.X4 at h4
 refine Za (Za (zg [0, 1, 5, 12] 0 (Zb (cn h4 (fun _ h6 => ?_) (fun _ h7 => ?_)))))
 refine Ze (Zb (Za (Zi (Za ?_))))
 obtain ⟨c8, h9⟩ := Zy h6
 refine zc [0, 1, 5, 43] 0 c8 (Zb (cn h9 (fun _ h11 => ?_) (fun _ h12 => ?_)))
 exact Za (zg [4] 0 (Zb (Zh (Xb (Zk (rr h11 ⟨rfl, er0 _⟩))))))
 exact Ze (XX (Zb (zg [0, 1, 5] 0 (rn h12))))
 exact ZV (XF (re h7 ⟨rfl, kq⟩))
 intro e15 s16 o17
 rcases y3 with g4 | y5
 have h18 := X9 h14
 exact zi o17 (Za (zg [4] 0 (Zb (Zh (er1 h18)))))
 have h19 := Ya h14
 obtain ⟨rfl, n21⟩ := o17
 refine Xb (Zk ?_)
 obtain rfl := Option.some.inj h19
 exact n21
theorem Zes (a0 : Zw) (a1 : List Int) (r : X3 × Int) (h : M.Kt a0 a1 = some r) : Fn Tryz.prog 17 [.agg (XO a0), sL 1 (ci .i64) a1] (.pure (.tup [.agg (Vc r.1), .int .i64 r.2])) := by
 let u1 : List Bool := [decide (0 = 0) || decide (0 < a1.length), decide ((0 + a1.length) * 8 ≤ 140737488355328)]
 let u3 := XO a0
 unfold M.Kt at h
 refine ZS Tryz.func17 rfl (by kernel_rfl) (Za (zg [1, 2, 4] 2 (Zb (Za ?_))))
 obtain ⟨r1, q1, h2⟩ := bind_some h
 let u2 := GI r1.1
 refine zr [1, 2, 4, 6, 7] 3 ZA (rq1 (Zec _ _ q1) rqn) (Zb (Za (Za (zg [1, 2, 4, 6, 7, 14] 3 (Zb (cn h2 (fun _ h4 => ?_) (fun _ h5 => ?_)))))))
 refine Za (zg [4, 5] 2 (Zb (Zh (Zk ?_))))
 obtain rfl := Option.some.inj h4
 exact er (.tup [.agg [.sl false 25 0 (fun _ => []), .sl false 4 0 (fun _ => []), .sl false 1 0 (fun _ => []), .sl false 1 0 (fun _ => [])], .int .i64 r1.2]) (Zbo (.cons (Rf (.cons Vp (.cons Vp (.cons Vp (.cons Vp .nil))))) (.cons ASub.rfl .nil)))
 refine Ze (Zb (Za (Za ?_)))
 obtain ⟨r2, q6, h7⟩ := bind_some h5
 refine rg [.pure (.bool r2)] [1, 2, 4, 6, 22] 3 ⟨30, [(1, sL 1 (ci .i64) a1), (2, .ref 0 0), (4, .ref 1 0), (6, .ref 2 0), (22, .bool (!r2))], [.box u3, .box [.sl true 25 0 (fun _ => []), .sl true 4 0 (fun _ => []), .sl true 1 0 (fun _ => []), .sl true 1 0 (fun _ => [])], .box u2]⟩ [] [⟨true, 50, [sL 1 (ci .i64) a1, .int .i64 (r1.1.QA.length : Int)], .pure (.bool r2)⟩] ZA ⟨fun _ => ZaV a1 (r1.1.QA.length : Int) r2 q6, trivial⟩ (Zb (cn h7 (fun _ h9 => ?_) (fun _ h10 => ?_)))
 refine Za (zg [4, 5] 2 (Zb (Zh (Zk ?_))))
 obtain rfl := Option.some.inj h9
 exact er (.tup [.agg [.sl false 25 0 (fun _ => []), .sl false 4 0 (fun _ => []), .sl false 1 0 (fun _ => []), .sl false 1 0 (fun _ => [])], .int .i64 1]) (Zbo (.cons (Rf (.cons Vp (.cons Vp (.cons Vp (.cons Vp .nil))))) (.cons ASub.rfl .nil)))
 refine Ze (Zb (Za ?_))
 obtain ⟨c11, h12⟩ := Zy h10
 refine rgu [1, 2, 4, 5, 6, 22, 24, 25, 26, 27, 28, 29] [([], [], []), ([], [], []), ([], [], []), ([], [], []), ([], u1, []), ([], [], []), ([], [], []), ([], [], [])] [4, 5] 4 ⟨30, [(4, .ref 1 0), (5, .int .i64 0)], [.box u3, .box [sL 25 Zp a0.Zd, sL 4 ZD r1.1.Z1, sL 1 (ci .i64) r1.1.QA, .asl 3 0 (0 + a1.length)], .box u2, .arr 1 (0 + a1.length) (app (fun i => List.take 1 (List.drop (i * 1) [])) 0 (fun i => (ci .i64) (a1.getD i default)))]⟩ u1 [] c11 trivial (XP (s' := ⟨30, [(4, .ref 1 0), (5, .int .i64 0)], [.box u3, .box [sL 25 Zp a0.Zd, sL 4 ZD r1.1.Z1, sL 1 (ci .i64) r1.1.QA, sL 1 (ci .i64) (a1 : List Int)], .box u2, aL 1 (ci .i64) ([] : List Int)]⟩) (Le.trans (Rh (s := ⟨30, [(4, .ref 1 0), (5, .int .i64 0)], [.box u3, .box [sL 25 Zp a0.Zd, sL 4 ZD r1.1.Z1, sL 1 (ci .i64) r1.1.QA, .asl 3 0 (0 + a1.length)], .box u2, .arr 1 (0 + a1.length) (app (fun i => List.take 1 (List.drop (i * 1) [])) 0 (fun i => (ci .i64) (a1.getD i default)))]⟩) (s' := ⟨30, [(4, .ref 1 0), (5, .int .i64 0)], [.box u3, .box [sL 25 Zp a0.Zd, sL 4 ZD r1.1.Z1, sL 1 (ci .i64) r1.1.QA, .sl false 1 (0 + a1.length) (fun k => (app (fun i => List.take 1 (List.drop (i * 1) [])) 0 (fun i => (ci .i64) (a1.getD i default))) (0 + k))], .box u2, aL 1 (ci .i64) ([] : List Int)]⟩) 3 1 (0 + a1.length) (app (fun i => List.take 1 (List.drop (i * 1) [])) 0 (fun i => (ci .i64) (a1.getD i default))) (fun i => (ci .i64) (([] : List Int).getD i default)) (by kernel_rfl) (by kernel_rfl) (by kernel_rfl)) (VE (.cons Sub.rfl (.cons Sub.rfl .nil)) (.cons .rfl (.cons (.box (.cons CSub.rfl (.cons CSub.rfl (.cons CSub.rfl (.cons (UX (Nat.zero_add _) (GG (f := app (fun i => List.take 1 (List.drop (i * 1) [])) 0 (fun i => (ci .i64) (a1.getD i default))) (WG (ci .i64) _ a1 _ (fun _ _ => rfl)))) .nil))))) (.cons .rfl (.cons .rfl .nil)))))) (Zh ?_))
 obtain rfl := Option.some.inj h12
 exact er0 (.tup [.agg [sL 25 Zp a0.Zd, sL 4 ZD r1.1.Z1, sL 1 (ci .i64) r1.1.QA, sL 1 (ci .i64) (a1 : List Int)], .int .i64 0])
theorem Zet (a0 : Zw) (a1 : List Int) (r : X3 × Bool) (h : M.Uo a0 a1 = some r) : Fn Tryz.prog 22 [.agg (XO a0), sL 1 (ci .i64) a1] (.pure (.tup [.agg (Vc r.1), .bool r.2])) := by
 unfold M.Uo at h
 refine ZS Tryz.func22 rfl (by kernel_rfl) (Za (zg [1, 2, 4] 2 (Zb (Za (Za ?_)))))
 obtain ⟨r1, q1, h2⟩ := bind_some h
 refine zr [1, 2, 4, 15] 2 ZA (rq1 (Zeb _ _ q1) rqn) (Zb (cn h2 (fun _ h4 => ?_) (fun _ h5 => ?_)))
 refine Za (zg [4, 5] 2 (Zb (Zh (Zk ?_))))
 obtain rfl := Option.some.inj h4
 exact er (.tup [.agg [.sl false 25 0 (fun _ => []), .sl false 4 0 (fun _ => []), .sl false 1 0 (fun _ => []), .sl false 1 0 (fun _ => [])], .bool false]) (Zbo (.cons (Rf (.cons Vp (.cons Vp (.cons Vp (.cons Vp .nil))))) (.cons ASub.rfl .nil)))
 refine Ze (Zb (Za ?_))
 obtain ⟨r2, q6, h7⟩ := bind_some h5
 refine zr [4, 6, 7] 3 ZA (rq1 (Zes _ _ _ q6) rqn) (Zb (Za (zg [4, 5] 2 (Zb (Zh ?_)))))
 obtain rfl := Option.some.inj h7
 exact er0 (.tup [.agg (Vc r2.1), .bool (r2.2 == 0)])
theorem UP (a0 : List X8) (a1 : X8) (r : Int) (h : M.Z9 a0 a1 = some r) : Fn Tryz.prog 72 [sL 2 ZW a0, .agg (ZW a1)] (.pure (.int .i64 r)) := by
 unfold M.Z9 at h
 refine ZS Tryz.func72 rfl (by kernel_rfl) (Za (zg [0, 3] 1 (Zb (Za (Za (zg [0, 3, 7, 8] 1 (Zb (Zi ?_))))))))
 obtain ⟨y3, q10, h11⟩ := bind_some h
 refine zl (fun (p1 : Int) => ⟨19, [(0, sL 2 ZW a0), (3, .ref 0 0), (7, .int .i64 (a0.length : Int)), (8, .int .i64 p1)], [.box (ZW a1)]⟩) (Sum.elim (fun z => OutE 0 (fun z => ⟨19, [], []⟩) z) (fun z => OutR Tryz.prog Tryz.f72 (.int .i64 z))) q10 ?_ ?_
 intro p1 y2 h1
 unfold M.Z4 at h1
 refine Za (zg [0, 3, 7, 8, 9] 1 (Zb (Za (cn h1 (fun _ h3 => ?_) (fun _ h4 => ?_)))))
 refine Ze (Zb (Za (Zi (Za (zg [0, 3, 5, 7, 8] 1 (Zb (Za ?_)))))))
 obtain ⟨c5, h6⟩ := Zy h3
 refine zc [0, 3, 5, 7, 8, 16] 1 c5 (Zb (cn h6 (fun _ h8 => ?_) (fun _ h9 => ?_)))
 exact Za (zg [4] 0 (Zb (Zh (Xb (Zk (rr h8 ⟨rfl, er0 _⟩))))))
 exact Ze (XX (Zb (zg [0, 3, 7, 8] 1 (rn h9))))
 exact ZV (XF (re h4 ⟨rfl, kc⟩))
 intro e12 s13 o14
 rcases y3 with g4 | y5
 have h15 := X9 h11
 exact zi o14 (Za (zg [4] 0 (Zb (Zh (er1 h15)))))
 have h16 := Ya h11
 obtain ⟨rfl, n18⟩ := o14
 refine Xb (Zk ?_)
 obtain rfl := Option.some.inj h16
 exact n18
theorem Uq (a0 : List X8) (a1 : X8) (r : Bool) (h : M.ZU a0 a1 = some r) : Fn Tryz.prog 54 [sL 2 ZW a0, .agg (ZW a1)] (.pure (.bool r)) := by
 unfold M.ZU at h
 refine ZS Tryz.func54 rfl (by kernel_rfl) (Za (zg [0, 3] 1 (Zb (Za ?_))))
 obtain ⟨r1, q1, h2⟩ := bind_some h
 exact zr [4] 0 ZA (rq1 (UP _ _ _ q1) rqn) (Zb (Zh (er1 h2)))
theorem Gq (a0 : X3) (a1 : Int) (a2 : Int) (r : Int) (h : M.Yw a0 a1 a2 = some r) : Fn Tryz.prog 25 [.agg (Vc a0), .int .i64 a1, .int .i64 a2] (.pure (.int .i64 r)) := by
 unfold M.Yw at h
 refine ZS Tryz.func25 rfl (by kernel_rfl) (Za (zg [1, 2, 3] 1 (Zb (Za (zg [3, 7] 2 (Zb (Za (Za (zg [7, 15, 16, 17] 2 (Zb (Zi ?_)))))))))))
 obtain ⟨y4, q12, h13⟩ := bind_some h
 refine zl (fun (p1 : Int) => ⟨28, [(7, .ref 1 0), (15, sL 4 ZD a0.XW.Z1), (16, .int .i64 (a0.XW.Z1.length : Int)), (17, .int .i64 p1)], [.box (Vc a0), .box [.int .i64 a1, .int .i64 a2]]⟩) (Sum.elim (fun z => OutE 0 (fun z => ⟨28, [], []⟩) z) (fun z => OutR Tryz.prog Tryz.f25 (.int .i64 z))) q12 ?_ ?_
 intro p1 y2 h1
 unfold M.Yq at h1
 refine Za (zg [7, 15, 16, 17, 18] 2 (Zb (Za (cn h1 (fun _ h3 => ?_) (fun _ h4 => ?_)))))
 refine Ze (Zb (Za (Zi (Za ?_))))
 obtain ⟨c5, h6⟩ := Zy h3
 refine zc [7, 8, 9, 15, 16, 17] 3 c5 (Zb (Za ?_))
 obtain ⟨r3, q7, h8⟩ := bind_some h6
 refine zr [7, 8, 15, 16, 17, 25] 2 ZA (rq1 (Uq _ _ _ q7) rqn) (Zb (cn h8 (fun _ h10 => ?_) (fun _ h11 => ?_)))
 exact Za (zg [6] 0 (Zb (Zh (Xb (Zk (rr h10 ⟨rfl, er0 _⟩))))))
 exact Ze (XX (Zb (zg [7, 15, 16, 17] 2 (rn h11))))
 exact ZV (XF (re h4 ⟨rfl, kc⟩))
 intro e14 s15 o16
 rcases y4 with g5 | y6
 have h17 := X9 h13
 exact zi o16 (Za (zg [6] 0 (Zb (Zh (er1 h17)))))
 have h18 := Ya h13
 obtain ⟨rfl, n20⟩ := o16
 refine Xb (Zk ?_)
 obtain rfl := Option.some.inj h18
 exact n20
theorem Ut (a0 : List Int) (a1 : Int) (r : Int) (h : M.XD a0 a1 = some r) : Fn Tryz.prog 55 [sL 1 (ci .i64) a0, .int .i64 a1] (.pure (.int .i64 r)) := by
 unfold M.XD at h
 refine ZS Tryz.func55 rfl (by kernel_rfl) (Za (zg [0, 1] 0 (Zb (Za (Za (zg [0, 1, 7, 8] 0 (Zb (Zi ?_))))))))
 obtain ⟨y3, q10, h11⟩ := bind_some h
 refine zl (fun (p1 : Int) => ⟨19, [(0, sL 1 (ci .i64) a0), (1, .int .i64 a1), (7, .int .i64 (a0.length : Int)), (8, .int .i64 p1)], []⟩) (Sum.elim (fun z => OutE 0 (fun z => ⟨19, [], []⟩) z) (fun z => OutR Tryz.prog Tryz.f55 (.int .i64 z))) q10 ?_ ?_
 intro p1 y2 h1
 unfold M.XG at h1
 refine Za (zg [0, 1, 7, 8, 9] 0 (Zb (Za (cn h1 (fun _ h3 => ?_) (fun _ h4 => ?_)))))
 refine Ze (Zb (Za (Zi (Za (zg [0, 1, 5, 7, 8] 0 (Zb (Za ?_)))))))
 obtain ⟨c5, h6⟩ := Zy h3
 refine zc [0, 1, 5, 7, 8, 16] 0 c5 (Zb (cn h6 (fun _ h8 => ?_) (fun _ h9 => ?_)))
 exact Za (zg [4] 0 (Zb (Zh (Xb (Zk (rr h8 ⟨rfl, er0 _⟩))))))
 exact Ze (XX (Zb (zg [0, 1, 7, 8] 0 (rn h9))))
 exact ZV (XF (re h4 ⟨rfl, kq⟩))
 intro e12 s13 o14
 rcases y3 with g4 | y5
 have h15 := X9 h11
 exact zi o14 (Za (zg [4] 0 (Zb (Zh (er1 h15)))))
 have h16 := Ya h11
 obtain ⟨rfl, n18⟩ := o14
 refine Xb (Zk ?_)
 obtain rfl := Option.some.inj h16
 exact n18
theorem Zfw (a0 : X3) (a1 : Int) (a2 : Int) (r : Int) (h : M.JR a0 a1 a2 = some r) : Fn Tryz.prog 27 [.agg (Vc a0), .int .i64 a1, .int .i64 a2] (.pure (.int .i64 r)) := by
 unfold M.JR at h
 refine ZS Tryz.func27 rfl (by kernel_rfl) (Za (zg [1, 2, 3] 1 (Zb (Za ?_))))
 obtain ⟨r1, q1, h2⟩ := bind_some h
 refine zr [3, 7] 1 ZA (rq1 (Gq _ _ _ _ q1) rqn) (Zb (Za (Za (zg [3, 7, 13] 1 (Zb (cn h2 (fun _ h4 => ?_) (fun _ h5 => ?_)))))))
 exact Za (zg [6] 0 (Zb (Zh (Zk (er1 h4)))))
 refine Ze (Zb (Za ?_))
 obtain ⟨r2, q6, h7⟩ := bind_some h5
 exact zr [6] 0 ZA (rq1 (Ut _ _ _ q6) rqn) (Zb (Zh (er1 h7)))
theorem Gr (a0 : List Int) (a1 : Int) (r : Bool) (h : M.Xv a0 a1 = some r) : Fn Tryz.prog 56 [sL 1 (ci .i64) a0, .int .i64 a1] (.pure (.bool r)) := by
 unfold M.Xv at h
 refine ZS Tryz.func56 rfl (by kernel_rfl) (Za (zg [0, 1] 0 (Zb (Za ?_))))
 obtain ⟨r1, q1, h2⟩ := bind_some h
 exact zr [4] 0 ZA (rq1 (Ut _ _ _ q1) rqn) (Zb (Zh (er1 h2)))
theorem KA (a0 : X3) (a1 : Int) (a2 : Int) (r : Bool) (h : M.Vl a0 a1 a2 = some r) : Fn Tryz.prog 29 [.agg (Vc a0), .int .i64 a1, .int .i64 a2] (.pure (.bool r)) := by
 unfold M.Vl at h
 refine ZS Tryz.func29 rfl (by kernel_rfl) (Za (zg [1, 2, 3] 1 (Zb (Za (Za ?_)))))
 obtain ⟨r1, q1, h2⟩ := bind_some h
 refine zr [1, 2, 3, 12] 1 ZA (rq1 (Gq _ _ _ _ q1) rqn) (Zb (cn h2 (fun _ h4 => ?_) (fun _ h5 => ?_)))
 exact Za (zg [6] 0 (Zb (Zh (Zk (er1 h4)))))
 refine Ze (Zb (Za ?_))
 obtain ⟨r2, q6, h7⟩ := bind_some h5
 refine zr [3, 7] 1 ZA (rq1 (Zfw _ _ _ _ q6) rqn) (Zb (Za ?_))
 obtain ⟨r3, q8, h9⟩ := bind_some h7
 exact zr [6] 0 ZA (rq2 (fun hg => Gr _ _ _ (XN q8 hg)) rqn) (Zb (Zh (er1 h9)))
theorem GK (a0 : X3) (a1 : Int) (a2 : Int) (r : (List X8)) (h : M.Wt a0 a1 a2 = some r) : Fn Tryz.prog 32 [.agg (Vc a0), .int .i64 a1, .int .i64 a2] (.pure (sL 2 ZW r)) := by
 let u5 : Nat × D := (7, .sl true 2 0 (fun _ => []))
 unfold M.Wt at h
 refine ZS Tryz.func32 rfl (by kernel_rfl) (Za (zg [1, 2, 3] 1 (Zb (Za (Za ?_)))))
 obtain ⟨r1, q1, h2⟩ := bind_some h
 refine zr [1, 2, 3, 14] 1 ZA (rq1 (KA _ _ _ _ q1) rqn) (Zb (cn h2 (fun _ h4 => ?_) (fun _ h5 => ?_)))
 refine Za (zg [6] 0 (Zb (Zh (Zk ?_))))
 obtain rfl := Option.some.inj h4
 exact er (.sl false 2 0 (fun _ => [])) Zhm
 refine Ze (Zb (Za (zg [1, 2, 3, 7] 1 (Zb (Za (Za ?_))))))
 obtain ⟨r2, q6, h7⟩ := bind_some h5
 let u1 := (a0.XW.Z1.getD r2.toNat default).ZZ
 let u3 : Nat × D := (24, sL 2 ZW u1)
 let u4 := (u1.length : Int)
 obtain ⟨c8, h9⟩ := Zy h7
 refine rg [.pure (.int .i64 r2)] [1, 2, 7, 24, 25, 26] 0 ⟨46, [(1, .int .i64 a1), (2, .int .i64 a2), u5, u3, (25, .int .i64 u4), (26, .int .i64 0)], []⟩ [decide (0 ≤ r2), decide (r2 < (a0.XW.Z1.length : Int))] [⟨true, 25, [.agg (Vc a0), .int .i64 a1, .int .i64 a2], .pure (.int .i64 r2)⟩] c8 ⟨fun _ => Gq a0 a1 a2 r2 q6, trivial⟩ (Zb (Zi (V3 (s' := ⟨46, [(1, .int .i64 a1), (2, .int .i64 a2), u5, u3, (25, .int .i64 u4), (26, .int .i64 0)], []⟩) (Un) (V3 (s' := ⟨46, [(1, .int .i64 a1), (2, .int .i64 a2), (7, .asl 0 0 (([] : List X8).length)), u3, (25, .int .i64 u4), (26, .int .i64 0)], [aL 2 ZW ([] : List X8)]⟩) (Le.trans (s' := ⟨46, (7, .asl 0 0 0) :: [(1, .int .i64 a1), (2, .int .i64 a2), u5, u3, (25, .int .i64 u4), (26, .int .i64 0)], [] ++ [.arr 2 0 (fun i => ZW (([] : List X8).getD i default))]⟩) (Kn (wd := 2) (f := fun _ => []) 7 (by kernel_rfl) _ _) (kp [1, 2, 7, 24, 25, 26])) ?_))))
 obtain ⟨y6, q23, h24⟩ := bind_some h9
 refine zl (fun (p3 : (List X8) × Int) => ⟨46, [(1, .int .i64 a1), (2, .int .i64 a2), (7, .asl 0 0 p3.1.length), u3, (25, .int .i64 u4), (26, .int .i64 p3.2)], [aL 2 ZW p3.1]⟩) (fun z => OutE 0 (fun z => ⟨46, [(7, .asl 0 0 z.length)], [aL 2 ZW z]⟩) z) q23 ?_ ?_
 intro p3 y4 h10
 let u2 := u1.getD p3.2.toNat default
 let u6 : Nat × D := (7, .asl 0 0 p3.1.length)
 let u7 := p3.1.length + 1
 unfold M.W0 at h10
 refine Za (rg0 [1, 2, 7, 24, 25, 26, 27] 1 ⟨46, [(1, .int .i64 a1), (2, .int .i64 a2), u6, u3, (25, .int .i64 u4), (26, .int .i64 p3.2), (27, .bool (decide (p3.2 < u4)))], [aL 2 ZW p3.1]⟩ (Zb (Za (cn h10 (fun _ h12 => ?_) (fun _ h13 => ?_)))))
 refine Ze (Zb (WT (fun (p5 : (List X8)) => ⟨46, [(1, .int .i64 a1), (2, .int .i64 a2), (7, .asl 0 0 p5.length), u3, (25, .int .i64 u4), (26, .int .i64 p3.2)], [aL 2 ZW p5]⟩) (fun p5 => M.Vx p3 p5 = some y4) ?_ ?_))
 intro p5 h15
 unfold M.Vx at h15
 exact zg [1, 2, 7, 24, 25, 26] 1 (rn h15)
 intro k14
 refine Zi (Za ?_)
 obtain ⟨c16, h17⟩ := Zy h12
 refine zc [1, 2, 7, 9, 24, 25, 26] 2 c16 (Zb (Za (rg0 [1, 2, 7, 9, 24, 25, 26, 39] 2 ⟨46, [(1, .int .i64 a1), (2, .int .i64 a2), u6, (9, .ref 1 0), u3, (25, .int .i64 u4), (26, .int .i64 p3.2), (39, .bool (((u2.Z5) != a1) || ((u2.XY) != a2)))], [aL 2 ZW p3.1, .box (ZW u2)]⟩ (Zb (cn h17 (fun _ h19 => ?_) (fun _ h20 => ?_))))))
 obtain ⟨c21, h22⟩ := Zy h19
 exact rgc [1, 2, 7, 24, 25, 26] 1 ⟨46, [(1, .int .i64 a1), (2, .int .i64 a2), (7, .asl 0 0 u7), u3, (25, .int .i64 u4), (26, .int .i64 p3.2)], [.arr 2 u7 (app (fun i => ZW (p3.1.getD i default)) p3.1.length (fun i => List.take 2 (List.drop (i * 2) [.int .i64 (u2.Z5), .int .i64 (u2.XY)])))]⟩ [decide (u7 * 16 ≤ 140737488355328)] c21 (XX (XP (VE (.cons Sub.rfl (.cons Sub.rfl (.cons (UY (G6 _ _)) (.cons Sub.rfl (.cons Sub.rfl (.cons Sub.rfl .nil)))))) (.cons (.arr (G6 _ _) (Rg ZW p3.1 u2 _ rfl)) .nil)) (k14 (p3.1 ++ [u1.getD p3.2.toNat default]) h22)))
 exact Ze (XX (XP (Le.trans (s' := ⟨46, [(1, .int .i64 a1), (2, .int .i64 a2), u6, u3, (25, .int .i64 u4), (26, .int .i64 p3.2)], [aL 2 ZW p3.1, .box (ZW u2)]⟩) (kp [1, 2, 7, 24, 25, 26]) (Uh (n := 1) (by kernel_rfl))) (k14 p3.1 h20)))
 exact ZV (XF (re h13 ⟨rfl, kq⟩))
 intro e25 s26 o27
 refine zi o27 (Za (zg [6] 1 (Zb (Zh ?_))))
 obtain rfl := Option.some.inj h24
 exact er (.sl false 2 y6.length (fun i => ZW (y6.getD (0 + i) default))) Zj3
theorem Zag (a0 : X3) (a1 : X8) (r : Zl × Bool) (h : M.QI a0 a1 = some r) : Fn Tryz.prog 52 [.agg (Vc a0), .agg (ZW a1)] (.pure (.tup [.agg (Zj r.1), .bool r.2])) := by
 unfold M.QI at h
 refine ZS Tryz.func52 rfl (by kernel_rfl) (Za (zg [2, 3, 4] 3 (Zb (Za (Za (zg [2, 3, 4, 18] 3 (Zb (cn h (fun _ h2 => ?_) (fun _ h3 => ?_)))))))))
 refine Za (zg [4, 5] 3 (Zb (Zh (Zk ?_))))
 obtain rfl := Option.some.inj h2
 exact er0 (.tup [.agg [.str (⟨#[]⟩ : ByteArray), .int .u32 0, .int .i64 0, .int .i64 0, .bool false, .bool false, .int .i64 0, .int .i64 0, .bool false, .str (⟨#[]⟩ : ByteArray), .str (⟨#[]⟩ : ByteArray), .int .i64 0], .bool false])
 refine Ze (Zb (Za ?_))
 obtain ⟨c4, h5⟩ := Zy h3
 refine zc [3, 4, 6] 3 c4 (Zb (Za (Za (zg [3, 4, 6, 37] 3 (Zb (cn h5 (fun _ h7 => ?_) (fun _ h8 => ?_)))))))
 refine Za (zg [4, 5] 3 (Zb (Zh (Zk ?_))))
 obtain rfl := Option.some.inj h7
 exact er0 (.tup [.agg [.str (⟨#[]⟩ : ByteArray), .int .u32 0, .int .i64 0, .int .i64 0, .bool false, .bool false, .int .i64 0, .int .i64 0, .bool false, .str (⟨#[]⟩ : ByteArray), .str (⟨#[]⟩ : ByteArray), .int .i64 0], .bool false])
 refine Ze (Zb (Za ?_))
 obtain ⟨c9, h10⟩ := Zy h8
 refine zc [4, 5] 3 c9 (Zb (Zh ?_))
 obtain rfl := Option.some.inj h10
 exact er0 (.tup [.agg (Zj (((a0.Qq.Zd.getD a1.Z5.toNat default).Zc).getD a1.XY.toNat default)), .bool true])
theorem Zaz (a0 : X3) (a1 : Int) (a2 : Int) (a3 : Int) (r : X8 × Bool) (h : M.W9 a0 a1 a2 a3 = some r) : Fn Tryz.prog 23 [.agg (Vc a0), .int .i64 a1, .int .i64 a2, .int .u32 a3] (.pure (.tup [.agg (ZW r.1), .bool r.2])) := by
 unfold M.W9 at h
 refine ZS Tryz.func23 rfl (by kernel_rfl) (Za (zg [1, 2, 3, 4, 8] 2 (Zb (Za (Za ?_)))))
 obtain ⟨r1, q1, h2⟩ := bind_some h
 refine zr [3, 4, 8, 17, 18, 19] 2 ZA (rq1 (GK _ _ _ _ q1) rqn) (Zb (Zi ?_))
 obtain ⟨y5, q14, h15⟩ := bind_some h2
 refine zl (fun (p2 : Int) => ⟨39, [(3, .int .u32 a3), (4, .ref 0 0), (8, .ref 1 0), (17, sL 2 ZW r1), (18, .int .i64 (r1.length : Int)), (19, .int .i64 p2)], [.box (Vc a0), .box [.int .i64 0, .int .i64 0]]⟩) (Sum.elim (fun z => OutE 0 (fun z => ⟨39, [(8, .ref 1 0)], [.box (Vc a0), .box [.int .i64 0, .int .i64 0]]⟩) z) (fun z => OutR Tryz.prog Tryz.f23 (.tup [.agg (ZW z.1), .bool z.2]))) q14 ?_ ?_
 intro p2 y3 h3
 unfold M.We at h3
 refine Za (zg [3, 4, 8, 17, 18, 19, 20] 2 (Zb (Za (cn h3 (fun _ h5 => ?_) (fun _ h6 => ?_)))))
 refine Ze (Zb (Za (Zi (Za ?_))))
 obtain ⟨c7, h8⟩ := Zy h5
 refine zc [3, 4, 8, 11, 17, 18, 19] 3 c7 (Zb (Za ?_))
 obtain ⟨r4, q9, h10⟩ := bind_some h8
 refine zr [3, 4, 8, 11, 12, 13, 17, 18, 19] 4 ZA (rq1 (Zag _ _ _ q9) rqn) (Zb (Za (zg [3, 4, 8, 11, 17, 18, 19, 35] 3 (Zb (cn h10 (fun _ h12 => ?_) (fun _ h13 => ?_))))))
 exact Za (zg [8, 9] 2 (Zb (Zh (Xb (Zk (rr h12 ⟨rfl, er0 _⟩))))))
 exact Ze (XX (Zb (zg [3, 4, 8, 17, 18, 19] 2 (rn h13))))
 exact ZV (XF (re h6 ⟨rfl, kq⟩))
 intro e16 s17 o18
 rcases y5 with g6 | y7
 have h19 := X9 h15
 refine zi o18 (Za (zg [8, 9] 2 (Zb (Zh ?_))))
 obtain rfl := Option.some.inj h19
 exact er0 (.tup [.agg [.int .i64 0, .int .i64 0], .bool false])
 have h20 := Ya h15
 obtain ⟨rfl, n22⟩ := o18
 refine Xb (Zk ?_)
 obtain rfl := Option.some.inj h20
 exact n22
theorem ZaA  (r : Zw) (h : M.VW  = some r) : Fn Tryz.prog 47 [] (.pure (.agg (XO r))) := by
 unfold M.VW at h
 refine ZS Tryz.func47 rfl (by kernel_rfl) (Za (zg [0] 1 (Zb (Za (zg [0] 1 (Zb (Zh ?_)))))))
 obtain rfl := Option.some.inj h
 exact er (.agg [.sl false 25 2 (fun i => List.take 25 (List.drop (i * 25) [.str (⟨#[97]⟩ : ByteArray), .int .i64 0, .sl true 12 1 (fun i => List.take 12 (List.drop (i * 12) [.str (⟨#[101, 48]⟩ : ByteArray), .int .u32 167772161, .int .i64 24, .int .i64 0, .bool false, .bool false, .int .i64 0, .int .i64 0, .bool false, .str (⟨#[]⟩ : ByteArray), .str (⟨#[]⟩ : ByteArray), .int .i64 0])), .sl true 2 0 (fun _ => []), .sl true 2 0 (fun _ => []), .sl true 2 0 (fun _ => []), .sl true 9 0 (fun _ => []), .sl true 7 0 (fun _ => []), .bool false, .int .i64 0, .sl true 3 0 (fun _ => []), .sl true 5 0 (fun _ => []), .bool false, .int .i64 0, .str (⟨#[]⟩ : ByteArray), .str (⟨#[]⟩ : ByteArray), .sl true 5 0 (fun _ => []), .bool false, .int .i64 0, .int .i64 0, .sl true 4 0 (fun _ => []), .sl true 2 0 (fun _ => []), .sl true 3 0 (fun _ => []), .sl true 5 0 (fun _ => []), .sl true 5 0 (fun _ => []), .str (⟨#[98]⟩ : ByteArray), .int .i64 0, .sl true 12 2 (fun i => List.take 12 (List.drop (i * 12) [.str (⟨#[101, 48]⟩ : ByteArray), .int .u32 167772162, .int .i64 24, .int .i64 0, .bool false, .bool false, .int .i64 0, .int .i64 0, .bool false, .str (⟨#[]⟩ : ByteArray), .str (⟨#[]⟩ : ByteArray), .int .i64 0, .str (⟨#[101, 49]⟩ : ByteArray), .int .u32 167772418, .int .i64 24, .int .i64 0, .bool false, .bool false, .int .i64 0, .int .i64 0, .bool false, .str (⟨#[]⟩ : ByteArray), .str (⟨#[]⟩ : ByteArray), .int .i64 0])), .sl true 2 0 (fun _ => []), .sl true 2 0 (fun _ => []), .sl true 2 0 (fun _ => []), .sl true 9 0 (fun _ => []), .sl true 7 0 (fun _ => []), .bool false, .int .i64 0, .sl true 3 0 (fun _ => []), .sl true 5 0 (fun _ => []), .bool false, .int .i64 0, .str (⟨#[]⟩ : ByteArray), .str (⟨#[]⟩ : ByteArray), .sl true 5 0 (fun _ => []), .bool false, .int .i64 0, .int .i64 0, .sl true 4 0 (fun _ => []), .sl true 2 0 (fun _ => []), .sl true 3 0 (fun _ => []), .sl true 5 0 (fun _ => []), .sl true 5 0 (fun _ => [])]))]) (Zj0 (.cons (ZiU rfl (fun i hi => match i, hi with | 0, _ => (.cons PSub.rfl (.cons PSub.rfl (.cons (Zfc rfl (fun i hi => match i, hi with | 0, _ => (.cons PSub.rfl (.cons PSub.rfl (.cons PSub.rfl (.cons PSub.rfl (.cons PSub.rfl (.cons PSub.rfl (.cons PSub.rfl (.cons PSub.rfl (.cons PSub.rfl (.cons PSub.rfl (.cons PSub.rfl (.cons PSub.rfl .nil)))))))))))) | n + 1, h => absurd h (by omega))) (.cons Qp (.cons Qp (.cons Qp (.cons Qp (.cons Qp (.cons PSub.rfl (.cons PSub.rfl (.cons Qp (.cons Qp (.cons PSub.rfl (.cons PSub.rfl (.cons PSub.rfl (.cons PSub.rfl (.cons Qp (.cons PSub.rfl (.cons PSub.rfl (.cons PSub.rfl (.cons Qp (.cons Qp (.cons Qp (.cons Qp (.cons Qp .nil))))))))))))))))))))))))) | 1, _ => (.cons PSub.rfl (.cons PSub.rfl (.cons (Zfc rfl (fun i hi => match i, hi with | 0, _ => (.cons PSub.rfl (.cons PSub.rfl (.cons PSub.rfl (.cons PSub.rfl (.cons PSub.rfl (.cons PSub.rfl (.cons PSub.rfl (.cons PSub.rfl (.cons PSub.rfl (.cons PSub.rfl (.cons PSub.rfl (.cons PSub.rfl .nil)))))))))))) | 1, _ => (.cons PSub.rfl (.cons PSub.rfl (.cons PSub.rfl (.cons PSub.rfl (.cons PSub.rfl (.cons PSub.rfl (.cons PSub.rfl (.cons PSub.rfl (.cons PSub.rfl (.cons PSub.rfl (.cons PSub.rfl (.cons PSub.rfl .nil)))))))))))) | n + 2, h => absurd h (by omega))) (.cons Qp (.cons Qp (.cons Qp (.cons Qp (.cons Qp (.cons PSub.rfl (.cons PSub.rfl (.cons Qp (.cons Qp (.cons PSub.rfl (.cons PSub.rfl (.cons PSub.rfl (.cons PSub.rfl (.cons Qp (.cons PSub.rfl (.cons PSub.rfl (.cons PSub.rfl (.cons Qp (.cons Qp (.cons Qp (.cons Qp (.cons Qp .nil))))))))))))))))))))))))) | n + 2, h => absurd h (by omega))) .nil))
theorem RD (a0 : Int) (r : Bool) (h : M.Vt a0 = some r) : Fn Tryz.prog 129 [.int .u8 a0] (.pure (.bool r)) := by
 unfold M.Vt at h
 exact ZS Tryz.func129 rfl (by kernel_rfl) (Za (zg [0] 0 (Zb (Za (zg [2] 0 (Zb (Zh (er1 h))))))))
theorem Zeu (a0 : Int) (r : Bool) (h : M.WI a0 = some r) : Fn Tryz.prog 130 [.int .u8 a0] (.pure (.bool r)) := by
 unfold M.WI at h
 exact ZS Tryz.func130 rfl (by kernel_rfl) (Za (zg [0] 0 (Zb (Za (zg [2] 0 (Zb (Zh (er1 h))))))))
theorem ZbR (a0 : ByteArray) (r : Bool) (h : M.Wu a0 = some r) : Fn Tryz.prog 73 [.str a0] (.pure (.bool r)) := by
 unfold M.Wu at h
 refine ZS Tryz.func73 rfl (by kernel_rfl) (Za (zg [0] 0 (Zb (Za (Za ?_)))))
 obtain ⟨r1, q1, h2⟩ := bind_some h
 obtain ⟨c3, h4⟩ := Zy h2
 refine zr [0, 18] 0 c3 (rq2 (fun hg => RD _ _ (XN q1 hg)) rqn) (Zb (cn h4 (fun _ h6 => ?_) (fun _ h7 => ?_)))
 refine Za ?_
 cases h6
 refine Ze (Zb (Za (Za (zg [0, 3] 0 (Zb (Zi ?_))))))
 obtain ⟨y6, q21, h22⟩ := bind_some h7
 refine zl (fun (p2 : Int) => ⟨52, [(0, .str a0), (3, .int .i64 p2)], []⟩) (fun z => OutE 0 (fun z => ⟨52, [], []⟩) z) q21 ?_ ?_
 intro p2 y3 h8
 unfold M.V6 at h8
 refine Za (Za (zg [0, 3, 22] 0 (Zb (cn h8 (fun _ h10 => ?_) (fun _ h11 => ?_)))))
 refine Ze (Zb (Za (Zi (Za ?_))))
 obtain ⟨c12, h13⟩ := Zy h10
 refine zc [0, 3, 4] 0 c12 (Zb (Za ?_))
 obtain ⟨r4, q14, h15⟩ := bind_some h13
 obtain ⟨r5, q16, h17⟩ := bind_some h15
 refine zr [0, 3, 51] 0 ZA (rq1 (RD _ _ q14) (rq2 (fun hg => Zeu _ _ (XN q16 hg)) rqn)) (Zb (cn h17 (fun _ h19 => ?_) (fun _ h20 => ?_)))
 refine Za ?_
 cases h19
 exact Ze (XX (Zb (zg [0, 3] 0 (rn h20))))
 exact ZV (XF (re h11 ⟨rfl, kq⟩))
 intro e23 s24 o25
 exact zi o25 (Za (zg [2] 0 (Zb (Zh (er1 h22)))))
theorem Um (a0 : Int) (a1 : Int) (a2 : Int) (r : Bool) (h : M.Qv a0 a1 a2 = some r) : Fn Tryz.prog 74 [.int .i64 a0, .int .i64 a1, .int .i64 a2] (.pure (.bool r)) := by
 unfold M.Qv at h
 exact ZS Tryz.func74 rfl (by kernel_rfl) (Za (zg [0, 1, 2] 0 (Zb (Za (zg [6] 0 (Zb (Zh (er1 h))))))))
theorem RE (a0 : Zl) (b0 : ByteArray) (r : Bool) (h : M.QV a0 b0 = some r) : Fn Tryz.prog 164 [.agg (Zj a0), .pp (cs b0)] (.pure (.bool r)) := by
 unfold M.QV at h
 exact ZS Tryz.func164 rfl (by kernel_rfl) (Za (zg [1, 2] 1 (Zb (Za (zg [3] 0 (Zb (Zh (er1 h))))))))
theorem JM (a0 : List Zl) (a1c0 : ByteArray) (r : Int) (h : M.ZF a0 a1c0 = some r) : Fn Tryz.prog 146 [sL 12 Zj a0, .fn 164 [.pp (cs a1c0)]] (.pure (.int .i64 r)) := by
 unfold M.ZF at h
 refine ZS Tryz.func146 rfl (by kernel_rfl) (Za (zg [0, 1] 0 (Zb (Za (Za (zg [0, 1, 7, 8] 0 (Zb (Zi ?_))))))))
 obtain ⟨y4, q12, h13⟩ := bind_some h
 refine zl (fun (p1 : Int) => ⟨19, [(0, sL 12 Zj a0), (1, .fn 164 [.pp (cs a1c0)]), (7, .int .i64 (a0.length : Int)), (8, .int .i64 p1)], []⟩) (Sum.elim (fun z => OutE 0 (fun z => ⟨19, [], []⟩) z) (fun z => OutR Tryz.prog Tryz.f146 (.int .i64 z))) q12 ?_ ?_
 intro p1 y2 h1
 unfold M.ZP at h1
 refine Za (zg [0, 1, 7, 8, 9] 0 (Zb (Za (cn h1 (fun _ h3 => ?_) (fun _ h4 => ?_)))))
 refine Ze (Zb (Za (Zi (Za (zg [0, 1, 5, 7, 8] 0 (Zb (Za ?_)))))))
 obtain ⟨r3, q5, h6⟩ := bind_some h3
 obtain ⟨c7, h8⟩ := Zy h6
 refine zr [0, 1, 5, 7, 8, 16] 0 c7 (rq1 (RE _ _ _ q5) rqn) (Zb (cn h8 (fun _ h10 => ?_) (fun _ h11 => ?_)))
 exact Za (zg [4] 0 (Zb (Zh (Xb (Zk (rr h10 ⟨rfl, er0 _⟩))))))
 exact Ze (XX (Zb (zg [0, 1, 7, 8] 0 (rn h11))))
 exact ZV (XF (re h4 ⟨rfl, kq⟩))
 intro e14 s15 o16
 rcases y4 with g5 | y6
 have h17 := X9 h13
 exact zi o16 (Za (zg [4] 0 (Zb (Zh (er1 h17)))))
 have h18 := Ya h13
 obtain ⟨rfl, n20⟩ := o16
 refine Xb (Zk ?_)
 obtain rfl := Option.some.inj h18
 exact n20
theorem ZaW (a0 : Zf) (a1 : ByteArray) (r : Int) (h : M.JE a0 a1 = some r) : Fn Tryz.prog 131 [.agg (Zp a0), .str a1] (.pure (.int .i64 r)) := by
 unfold M.JE at h
 refine ZS Tryz.func131 rfl (by kernel_rfl) (Za (zg [2, 3] 2 (Zb (Za ?_))))
 obtain ⟨r1, q1, h2⟩ := bind_some h
 exact zr [4] 0 ZA (rq1 (JM _ _ _ q1) rqn) (Zb (Zh (er1 h2)))
theorem Kf (a0 : Zl) (r : Bool) (h : M.Y2 a0 = some r) : Fn Tryz.prog 132 [.agg (Zj a0)] (.pure (.bool r)) := by
 unfold M.Y2 at h
 refine ZS Tryz.func132 rfl (by kernel_rfl) (Za (zg [1] 1 (Zb (Za (Za ?_)))))
 obtain ⟨r1, q1, h2⟩ := bind_some h
 obtain ⟨r2, q3, h4⟩ := bind_some h2
 obtain ⟨r3, q5, h6⟩ := bind_some h4
 refine zr [1, 18] 1 ZA (rq1 (Um _ _ _ _ q1) (rq2 (fun hg => Um _ _ _ _ (XN q3 hg)) (rq2 (fun hg => Um _ _ _ _ (XN q5 hg)) rqn))) (Zb (cn h6 (fun _ h8 => ?_) (fun _ h9 => ?_)))
 refine Za ?_
 cases h8
 refine Ze (Zb (Za (Za (zg [1, 54] 1 (Zb (cn h9 (fun _ h11 => ?_) (fun _ h12 => ?_)))))))
 refine Za ?_
 cases h11
 refine Ze (Zb (Za (Za (zg [1, 62] 1 (Zb (cn h12 (fun _ h14 => ?_) (fun _ h15 => ?_)))))))
 refine Za ?_
 cases h14
 refine Ze (Zb (Za (Za (zg [1, 64] 1 (Zb (cn h15 (fun _ h17 => ?_) (fun _ h18 => ?_)))))))
 refine Za ?_
 cases h17
 exact Ze (Zb (Za (zg [2] 0 (Zb (Zh (er1 h18))))))
theorem ZaB (a0 : Int) (r : Int) (h : M.VX a0 = some r) : Fn Tryz.prog 89 [.int .i64 a0] (.pure (.int .i64 r)) := by
 unfold M.VX at h
 exact ZS Tryz.func89 rfl (by kernel_rfl) (Za (zg [0] 0 (Zb (Za (zg [2] 0 (Zb (Zh (er1 h))))))))
theorem ZbS (a0 : Int) (r : Int) (h : M.Wv a0 = some r) : Fn Tryz.prog 88 [.int .i64 a0] (.pure (.int .u32 r)) := by
 unfold M.Wv at h
 refine ZS Tryz.func88 rfl (by kernel_rfl) (Za (zg [0] 0 (Zb (Za ?_))))
 obtain ⟨r1, q1, h2⟩ := bind_some h
 obtain ⟨c3, h4⟩ := Zy h2
 exact zr [2] 0 c3 (rq1 (ZaB _ _ q1) rqn) (Zb (Zh (er1 h4)))
theorem U8 (a0 : Int) (a1 : Int) (r : ZX) (h : M.Jh a0 a1 = some r) : Fn Tryz.prog 60 [.int .u32 a0, .int .i64 a1] (.pure (.agg (Xg r))) := by
 unfold M.Jh at h
 refine ZS Tryz.func60 rfl (by kernel_rfl) (Za (zg [0, 1, 4] 1 (Zb (Za ?_))))
 obtain ⟨r1, q1, h2⟩ := bind_some h
 obtain ⟨r2, q3, h4⟩ := bind_some h2
 refine zr [4] 1 ZA (rq1 (ZbS _ _ q1) (rq1 (ZaB _ _ q3) rqn)) (Zb (Zh ?_))
 obtain rfl := Option.some.inj h4
 exact er0 (.agg [.int .u32 (bitD .and .u32 a0 r1), .int .i64 r2])
theorem Zcr (a0 : ZX) (a1 : Int) (r : Bool) (h : M.Vm a0 a1 = some r) : Fn Tryz.prog 179 [.agg (Xg a0), .int .u32 a1] (.pure (.bool r)) := by
 unfold M.Vm at h
 refine ZS Tryz.func179 rfl (by kernel_rfl) (Za (zg [1, 2] 1 (Zb (Za ?_))))
 obtain ⟨r1, q1, h2⟩ := bind_some h
 exact zr [4] 0 ZA (rq1 (ZbS _ _ q1) rqn) (Zb (Zh (er1 h2)))
theorem RF (a0 : ZX) (a1 : ZX) (r : Bool) (h : M.Vu a0 a1 = some r) : Fn Tryz.prog 165 [.agg (Xg a0), .agg (Xg a1)] (.pure (.bool r)) := by
 unfold M.Vu at h
 refine ZS Tryz.func165 rfl (by kernel_rfl) (Za (zg [2, 3] 2 (Zb (Za ?_))))
 obtain ⟨r1, q1, h2⟩ := bind_some h
 exact zr [4] 0 ZA (rq2 (fun hg => Zcr _ _ _ (XN q1 hg)) rqn) (Zb (Zh (er1 h2)))
theorem Zcs (a0 : ZX) (a1 : ZX) (r : Bool) (h : M.Vn a0 a1 = some r) : Fn Tryz.prog 133 [.agg (Xg a0), .agg (Xg a1)] (.pure (.bool r)) := by
 unfold M.Vn at h
 refine ZS Tryz.func133 rfl (by kernel_rfl) (Za (zg [2, 3] 2 (Zb (Za ?_))))
 obtain ⟨r1, q1, h2⟩ := bind_some h
 obtain ⟨r2, q3, h4⟩ := bind_some h2
 exact zr [4] 0 ZA (rq1 (RF _ _ _ q1) (rq2 (fun hg => RF _ _ _ (XN q3 hg)) rqn)) (Zb (Zh (er1 h4)))
theorem GS (a0 : Zf) (r : Int) (h : M.YK a0 = some r) : Fn Tryz.prog 75 [.agg (Zp a0)] (.pure (.int .i64 r)) := by
 let u1 : Nat × D := (12, sL 12 Zj a0.Zc)
 let u2 := (a0.Zc.length : Int)
 let u5 := Zp a0
 unfold M.YK at h
 refine ZS Tryz.func75 rfl (by kernel_rfl) (Za (zg [1] 1 (Zb (Za (Za (zg [1, 10] 1 (Zb (cn h (fun _ h2 => ?_) (fun _ h3 => ?_)))))))))
 refine Za ?_
 cases h2
 refine Ze (Zb (Za (Za (zg [1, 12, 13, 14] 1 (Zb (Zi ?_))))))
 obtain ⟨y12, q48, h49⟩ := bind_some h3
 refine zl (fun (p1 : Int) => ⟨64, [(1, .ref 0 0), u1, (13, .int .i64 u2), (14, .int .i64 p1)], [.box u5]⟩) (fun z => OutE 0 (fun z => ⟨64, [], []⟩) z) q48 ?_ ?_
 intro p1 y2 h4
 let u3 : List Ob := [.box u5, .box (Zj (a0.Zc.getD p1.toNat default))]
 let u4 : Nat × D := (35, sL 12 Zj ((a0.Zc.drop 0).take (p1.toNat - 0)))
 unfold M.Yy at h4
 refine Za (zg [1, 12, 13, 14, 15] 1 (Zb (Za (cn h4 (fun _ h6 => ?_) (fun _ h7 => ?_)))))
 refine Ze (Zb (Za (Zi (Za ?_))))
 obtain ⟨c8, h9⟩ := Zy h6
 refine zc [1, 3, 4, 12, 13, 14] 2 c8 (Zb (Za (Za ?_)))
 obtain ⟨r3, q10, h11⟩ := bind_some h9
 refine zr [1, 3, 4, 12, 13, 14, 22] 2 ZA (rq1 (ZbR _ _ q10) rqn) (Zb (cn h11 (fun _ h13 => ?_) (fun _ h14 => ?_)))
 refine Za ?_
 cases h13
 refine Ze (Zb (Za (Za ?_)))
 obtain ⟨r4, q15, h16⟩ := bind_some h14
 refine zr [1, 3, 4, 12, 13, 14, 28] 2 ZA (rq1 (ZaW _ _ _ q15) rqn) (Zb (cn h16 (fun _ h18 => ?_) (fun _ h19 => ?_)))
 refine Za ?_
 cases h18
 refine Ze (Zb (Za (Za ?_)))
 obtain ⟨r5, q20, h21⟩ := bind_some h19
 refine zr [1, 3, 4, 12, 13, 14, 31] 2 ZA (rq1 (Kf _ _ q20) rqn) (Zb (cn h21 (fun _ h23 => ?_) (fun _ h24 => ?_)))
 refine Za ?_
 cases h23
 refine Ze (Zb (Za ?_))
 obtain ⟨c25, h26⟩ := Zy h24
 refine rgc [1, 4, 12, 13, 14, 35, 36, 37] 2 ⟨64, [(1, .ref 0 0), (4, .ref 1 0), u1, (13, .int .i64 u2), (14, .int .i64 p1), (35, .sl false 12 (p1.toNat - 0) (fun i => Zj (a0.Zc.getD (0 + i) default))), (36, .int .i64 ((p1.toNat - 0 : Nat) : Int)), (37, .int .i64 0)], u3⟩ [decide (0 ≤ p1), decide (p1 ≤ u2)] c25 (XP (s' := ⟨64, [(1, .ref 0 0), (4, .ref 1 0), u1, (13, .int .i64 u2), (14, .int .i64 p1), u4, (36, .int .i64 ((p1.toNat - 0 : Nat) : Int)), (37, .int .i64 0)], u3⟩) (VE (.cons Sub.rfl (.cons Sub.rfl (.cons Sub.rfl (.cons Sub.rfl (.cons Sub.rfl (.cons (UR (Zhp _ _ _ (ZiW (c25 _ (List.mem_cons_of_mem _ List.mem_cons_self)))) (Zho _ _ _ _)) (.cons Sub.rfl (.cons Sub.rfl .nil)))))))) (.cons .rfl (.cons .rfl .nil))) (Zi ?_))
 obtain ⟨y11, q42, h43⟩ := bind_some h26
 refine zl (fun (p6 : Int) => ⟨64, [(1, .ref 0 0), (4, .ref 1 0), u1, (13, .int .i64 u2), (14, .int .i64 p1), u4, (36, .int .i64 ((p1.toNat - 0 : Nat) : Int)), (37, .int .i64 p6)], u3⟩) (fun z => OutE 2 (fun z => ⟨64, [(1, .ref 0 0), u1, (13, .int .i64 u2), (14, .int .i64 p1)], [.box u5]⟩) z) q42 ?_ ?_
 intro p6 y7 h27
 unfold M.Yx at h27
 refine Za (zg [1, 4, 12, 13, 14, 35, 36, 37, 38] 2 (Zb (Za (cn h27 (fun _ h29 => ?_) (fun _ h30 => ?_)))))
 refine Ze (Zb (Za (Zi (Za ?_))))
 obtain ⟨c31, h32⟩ := Zy h29
 refine zc [1, 4, 6, 12, 13, 14, 35, 36, 37] 3 c31 (Zb (Za ?_))
 obtain ⟨r8, q33, h34⟩ := bind_some h32
 obtain ⟨r9, q35, h36⟩ := bind_some h34
 obtain ⟨r10, q37, h38⟩ := bind_some h36
 refine zr [1, 4, 12, 13, 14, 35, 36, 37, 61] 2 ZA (rq2 (fun hg => U8 _ _ _ (XN q33 hg)) (rq2 (fun hg => U8 _ _ _ (XN q35 hg)) (rq2 (fun hg => Zcs _ _ _ (XN q37 hg)) rqn))) (Zb (cn h38 (fun _ h40 => ?_) (fun _ h41 => ?_)))
 refine Za ?_
 cases h40
 exact Ze (XX (Zb (zg [1, 4, 12, 13, 14, 35, 36, 37] 2 (rn h41))))
 exact ZV (XF (re h30 ⟨rfl, kc⟩))
 intro e44 s45 o46
 obtain ⟨rfl, l47⟩ := o46
 exact Qi (XX (XP (s' := ⟨64, [(1, .ref 0 0), u1, (13, .int .i64 u2), (14, .int .i64 p1)], [.box u5]⟩) (l47) (zg [1, 12, 13, 14] 1 (rn h43))))
 exact ZV (XF (re h7 ⟨rfl, kc⟩))
 intro e50 s51 o52
 exact zi o52 (Za (zg [2] 0 (Zb (Zh (er1 h49)))))
theorem GA (a0 : Zf) (r : Int) (h : M.Yu a0 = some r) : Fn Tryz.prog 76 [.agg (Zp a0)] (.pure (.int .i64 r)) := by
 unfold M.Yu at h
 refine ZS Tryz.func76 rfl (by kernel_rfl) (Za (zg [1] 1 (Zb (Za (Za (zg [1, 11] 1 (Zb (cn h (fun _ h2 => ?_) (fun _ h3 => ?_)))))))))
 refine Za ?_
 cases h2
 refine Ze (Zb (Za (Za (zg [1, 13, 14, 15] 1 (Zb (Zi ?_))))))
 obtain ⟨y3, q8, h9⟩ := bind_some h3
 refine zl (fun (p1 : Int) => ⟨67, [(1, .ref 0 0), (13, sL 2 Zu a0.Yt), (14, .int .i64 (a0.Yt.length : Int)), (15, .int .i64 p1)], [.box (Zp a0)]⟩) (fun z => OutE 0 (fun z => ⟨67, [], []⟩) z) q8 ?_ ?_
 intro p1 y2 h4
 unfold M.Yp at h4
 refine Za (zg [1, 13, 14, 15, 16] 1 (Zb (Za (cn h4 (fun _ h6 => ?_) (fun _ h7 => ?_)))))
 refine Ze (Zb (Za (Zi (Za ?_))))
 cases h6
 exact ZV (XF (re h7 ⟨rfl, kc⟩))
 intro e10 s11 o12
 exact zi o12 (Za (zg [2] 0 (Zb (Zh (er1 h9)))))
theorem Kg (a0 : Zf) (r : Int) (h : M.Y3 a0 = some r) : Fn Tryz.prog 77 [.agg (Zp a0)] (.pure (.int .i64 r)) := by
 unfold M.Y3 at h
 refine ZS Tryz.func77 rfl (by kernel_rfl) (Za (zg [1] 1 (Zb (Za (Za (zg [1, 11] 1 (Zb (cn h (fun _ h2 => ?_) (fun _ h3 => ?_)))))))))
 refine Za ?_
 cases h2
 refine Ze (Zb (Za (Za (zg [1, 13, 14, 15] 1 (Zb (Zi ?_))))))
 obtain ⟨y3, q8, h9⟩ := bind_some h3
 refine zl (fun (p1 : Int) => ⟨56, [(1, .ref 0 0), (13, sL 2 ZY a0.XC), (14, .int .i64 (a0.XC.length : Int)), (15, .int .i64 p1)], [.box (Zp a0)]⟩) (fun z => OutE 0 (fun z => ⟨56, [], []⟩) z) q8 ?_ ?_
 intro p1 y2 h4
 unfold M.YM at h4
 refine Za (zg [1, 13, 14, 15, 16] 1 (Zb (Za (cn h4 (fun _ h6 => ?_) (fun _ h7 => ?_)))))
 refine Ze (Zb (Za (Zi (Za ?_))))
 cases h6
 exact ZV (XF (re h7 ⟨rfl, kc⟩))
 intro e10 s11 o12
 exact zi o12 (Za (zg [2] 0 (Zb (Zh (er1 h9)))))
theorem ZaX (a0 : Zf) (r : Int) (h : M.JF a0 = some r) : Fn Tryz.prog 78 [.agg (Zp a0)] (.pure (.int .i64 r)) := by
 unfold M.JF at h
 refine ZS Tryz.func78 rfl (by kernel_rfl) (Za (zg [1] 1 (Zb (Za (Za (zg [1, 11] 1 (Zb (cn h (fun _ h2 => ?_) (fun _ h3 => ?_)))))))))
 refine Za ?_
 cases h2
 refine Ze (Zb (Za (Za (zg [1, 13, 14, 15] 1 (Zb (Zi ?_))))))
 obtain ⟨y3, q8, h9⟩ := bind_some h3
 refine zl (fun (p1 : Int) => ⟨46, [(1, .ref 0 0), (13, sL 2 Ys a0.YC), (14, .int .i64 (a0.YC.length : Int)), (15, .int .i64 p1)], [.box (Zp a0)]⟩) (fun z => OutE 0 (fun z => ⟨46, [], []⟩) z) q8 ?_ ?_
 intro p1 y2 h4
 unfold M.Q3 at h4
 refine Za (zg [1, 13, 14, 15, 16] 1 (Zb (Za (cn h4 (fun _ h6 => ?_) (fun _ h7 => ?_)))))
 refine Ze (Zb (Za (Zi (Za ?_))))
 cases h6
 exact ZV (XF (re h7 ⟨rfl, kc⟩))
 intro e10 s11 o12
 exact zi o12 (Za (zg [2] 0 (Zb (Zh (er1 h9)))))
theorem ZbT (a0 : Zf) (r : Int) (h : M.J7 a0 = some r) : Fn Tryz.prog 79 [.agg (Zp a0)] (.pure (.int .i64 r)) := by
 unfold M.J7 at h
 refine ZS Tryz.func79 rfl (by kernel_rfl) (Za (zg [1] 1 (Zb (Za (Za (zg [1, 8] 1 (Zb (cn h (fun _ h2 => ?_) (fun _ h3 => ?_)))))))))
 refine Za ?_
 cases h2
 refine Ze (Zb (Za (Za (zg [1, 10, 11, 12] 1 (Zb (Zi ?_))))))
 obtain ⟨y3, q8, h9⟩ := bind_some h3
 refine zl (fun (p1 : Int) => ⟨30, [(1, .ref 0 0), (10, sL 9 Z3 a0.Xd), (11, .int .i64 (a0.Xd.length : Int)), (12, .int .i64 p1)], [.box (Zp a0)]⟩) (fun z => OutE 0 (fun z => ⟨30, [], []⟩) z) q8 ?_ ?_
 intro p1 y2 h4
 unfold M.Jr at h4
 refine Za (zg [1, 10, 11, 12, 13] 1 (Zb (Za (cn h4 (fun _ h6 => ?_) (fun _ h7 => ?_)))))
 refine Ze (Zb (Za (Zi (Za ?_))))
 cases h6
 exact ZV (XF (re h7 ⟨rfl, kc⟩))
 intro e10 s11 o12
 exact zi o12 (Za (zg [2] 0 (Zb (Zh (er1 h9)))))
theorem ZbU (a0 : Zf) (a1 : ByteArray) (r : Int) (h : M.Ww a0 a1 = some r) : Fn Tryz.prog 139 [.agg (Zp a0), .str a1] (.pure (.int .i64 r)) := by
 unfold M.Ww at h
 refine ZS Tryz.func139 rfl (by kernel_rfl) (Za ?_)
 cases h
theorem KS (a0 : Zf) (r : Int) (h : M.Qw a0 = some r) : Fn Tryz.prog 80 [.agg (Zp a0)] (.pure (.int .i64 r)) := by
 unfold M.Qw at h
 refine ZS Tryz.func80 rfl (by kernel_rfl) (Za (zg [1] 1 (Zb (Za (Za (zg [1, 6, 7, 8] 1 (Zb (Zi ?_))))))))
 obtain ⟨y5, q14, h15⟩ := bind_some h
 refine zl (fun (p1 : Int) => ⟨35, [(1, .ref 0 0), (6, sL 12 Zj a0.Zc), (7, .int .i64 (a0.Zc.length : Int)), (8, .int .i64 p1)], [.box (Zp a0)]⟩) (fun z => OutE 0 (fun z => ⟨35, [], []⟩) z) q14 ?_ ?_
 intro p1 y2 h1
 unfold M.Qa at h1
 refine Za (zg [1, 6, 7, 8, 9] 1 (Zb (Za (cn h1 (fun _ h3 => ?_) (fun _ h4 => ?_)))))
 refine Ze (Zb (Za (Zi (Za ?_))))
 obtain ⟨c5, h6⟩ := Zy h3
 refine zc [1, 4, 6, 7, 8] 2 c5 (Zb (Za ?_))
 obtain ⟨r3, q7, h8⟩ := bind_some h6
 obtain ⟨r4, q9, h10⟩ := bind_some h8
 refine zr [1, 6, 7, 8, 33] 1 ZA (rq2 (fun hg => ZbU _ _ _ (XN q7 hg)) (rq2 (fun hg => ZbU _ _ _ (XN q9 hg)) rqn)) (Zb (cn h10 (fun _ h12 => ?_) (fun _ h13 => ?_)))
 refine Za ?_
 cases h12
 exact Ze (XX (Zb (zg [1, 6, 7, 8] 1 (rn h13))))
 exact ZV (XF (re h4 ⟨rfl, kc⟩))
 intro e16 s17 o18
 exact zi o18 (Za (zg [2] 0 (Zb (Zh (er1 h15)))))
theorem KT (a0 : Zf) (r : Int) (h : M.Qx a0 = some r) : Fn Tryz.prog 81 [.agg (Zp a0)] (.pure (.int .i64 r)) := by
 unfold M.Qx at h
 refine ZS Tryz.func81 rfl (by kernel_rfl) (Za (zg [1] 1 (Zb (Za (Za (zg [1, 11] 1 (Zb (cn h (fun _ h2 => ?_) (fun _ h3 => ?_)))))))))
 refine Za ?_
 cases h2
 refine Ze (Zb (Za (Za (zg [1, 13, 14, 15] 1 (Zb (Zi ?_))))))
 obtain ⟨y3, q8, h9⟩ := bind_some h3
 refine zl (fun (p1 : Int) => ⟨63, [(1, .ref 0 0), (13, sL 7 Xc a0.Zq), (14, .int .i64 (a0.Zq.length : Int)), (15, .int .i64 p1)], [.box (Zp a0)]⟩) (fun z => OutE 0 (fun z => ⟨63, [], []⟩) z) q8 ?_ ?_
 intro p1 y2 h4
 unfold M.Qb at h4
 refine Za (zg [1, 13, 14, 15, 16] 1 (Zb (Za (cn h4 (fun _ h6 => ?_) (fun _ h7 => ?_)))))
 refine Ze (Zb (Za (Zi (Za ?_))))
 cases h6
 exact ZV (XF (re h7 ⟨rfl, kc⟩))
 intro e10 s11 o12
 exact zi o12 (Za (zg [2] 0 (Zb (Zh (er1 h9)))))
theorem Kh (a0 : Zf) (r : Int) (h : M.Y4 a0 = some r) : Fn Tryz.prog 82 [.agg (Zp a0)] (.pure (.int .i64 r)) := by
 unfold M.Y4 at h
 refine ZS Tryz.func82 rfl (by kernel_rfl) (Za (zg [1] 1 (Zb (Za (zg [1, 3] 2 (Zb (Za (Za (zg [1, 3, 12] 2 (Zb (cn h (fun _ h2 => ?_) (fun _ h3 => ?_))))))))))))
 refine Za (Za (zg [27] 0 (Zb (cn h2 (fun _ h5 => ?_) (fun _ h6 => ?_)))))
 refine Za ?_
 cases h5
 exact Ze (Zb (Za (zg [2] 0 (Zb (Zh (Zk (er1 h6)))))))
 refine Ze (Zb (Za (Za ?_)))
 cases h3
theorem U9 (a0 : Zf) (r : Int) (h : M.X7 a0 = some r) : Fn Tryz.prog 83 [.agg (Zp a0)] (.pure (.int .i64 r)) := by
 unfold M.X7 at h
 refine ZS Tryz.func83 rfl (by kernel_rfl) (Za (zg [1] 1 (Zb (Za (zg [1, 3] 2 (Zb (Za (Za (zg [1, 3, 8] 2 (Zb (cn h (fun _ h2 => ?_) (fun _ h3 => ?_))))))))))))
 refine Za (Za (zg [27] 0 (Zb (cn h2 (fun _ h5 => ?_) (fun _ h6 => ?_)))))
 refine Za ?_
 cases h5
 exact Ze (Zb (Za (zg [2] 0 (Zb (Zh (Zk (er1 h6)))))))
 refine Ze (Zb (Za (Za ?_)))
 cases h3
theorem GU (a0 : Zf) (r : Int) (h : M.YL a0 = some r) : Fn Tryz.prog 84 [.agg (Zp a0)] (.pure (.int .i64 r)) := by
 unfold M.YL at h
 refine ZS Tryz.func84 rfl (by kernel_rfl) (Za (zg [1] 1 (Zb (Za (zg [1, 3] 2 (Zb (Za (Za (zg [1, 3, 10] 2 (Zb (cn h (fun _ h2 => ?_) (fun _ h3 => ?_))))))))))))
 refine Za (Za (zg [48] 0 (Zb (cn h2 (fun _ h5 => ?_) (fun _ h6 => ?_)))))
 refine Za ?_
 cases h5
 exact Ze (Zb (Za (zg [2] 0 (Zb (Zh (Zk (er1 h6)))))))
 refine Ze (Zb (Za (Za ?_)))
 cases h3
theorem RG (a0 : Zf) (r : Int) (h : M.QW a0 = some r) : Fn Tryz.prog 58 [.agg (Zp a0)] (.pure (.int .i64 r)) := by
 unfold M.QW at h
 refine ZS Tryz.func58 rfl (by kernel_rfl) (Za (zg [1] 1 (Zb (Za (Za ?_)))))
 obtain ⟨r1, q1, h2⟩ := bind_some h
 refine zr [1, 10] 1 ZA (rq1 (ZbR _ _ q1) rqn) (Zb (cn h2 (fun _ h4 => ?_) (fun _ h5 => ?_)))
 refine Za ?_
 cases h4
 refine Ze (Zb (Za (Za ?_)))
 obtain ⟨r2, q6, h7⟩ := bind_some h5
 refine zr [1, 14] 1 ZA (rq1 (Um _ _ _ _ q6) rqn) (Zb (cn h7 (fun _ h9 => ?_) (fun _ h10 => ?_)))
 refine Za ?_
 cases h9
 refine Ze (Zb (Za (zg [1, 3] 1 (Zb (Za (Za (zg [1, 16, 17, 18] 1 (Zb (Zi (ZgK (Wo (Za (zg [1, 16, 17, 18, 19] 1 (Zb (Za (cnd true (fun _ => (Ze (Zb (Za (Zi (Za ?_)))))) (fun b11 => Bool.noConfusion b11)))))))))))))))))
 obtain ⟨c12, h13⟩ := Zy h10
 refine zc [1, 5, 16, 17, 18] 1 c12 (Zb (Za ?_))
 obtain ⟨r3, q14, h15⟩ := bind_some h13
 refine zr [1, 6, 16, 17, 18] 1 ZA (rq1 (GS _ _ q14) rqn) (Zb (Za (zg [1, 6, 16, 17, 18, 26] 1 (Zb (cn h15 (fun _ h17 => ?_) (fun _ h18 => ?_))))))
 refine Za ?_
 cases h17
 refine Ze (XX (Zb (zg [1, 16, 17, 18] 1 (UW (Wo (Za (zg [1, 16, 17, 18, 19] 1 (Zb (Za (cnd true (fun _ => (Ze (Zb (Za (Zi (Za ?_)))))) (fun b19 => Bool.noConfusion b19)))))))))))
 obtain ⟨c20, h21⟩ := Zy h18
 refine zc [1, 5, 16, 17, 18] 1 c20 (Zb (Za ?_))
 obtain ⟨r4, q22, h23⟩ := bind_some h21
 refine zr [1, 6, 16, 17, 18] 1 ZA (rq1 (GA _ _ q22) rqn) (Zb (Za (zg [1, 6, 16, 17, 18, 26] 1 (Zb (cn h23 (fun _ h25 => ?_) (fun _ h26 => ?_))))))
 refine Za ?_
 cases h25
 refine Ze (XX (Zb (zg [1, 16, 17, 18] 1 (UW (Wo (Za (zg [1, 16, 17, 18, 19] 1 (Zb (Za (cnd true (fun _ => (Ze (Zb (Za (Zi (Za ?_)))))) (fun b27 => Bool.noConfusion b27)))))))))))
 obtain ⟨c28, h29⟩ := Zy h26
 refine zc [1, 5, 16, 17, 18] 1 c28 (Zb (Za ?_))
 obtain ⟨r5, q30, h31⟩ := bind_some h29
 refine zr [1, 6, 16, 17, 18] 1 ZA (rq1 (Kg _ _ q30) rqn) (Zb (Za (zg [1, 6, 16, 17, 18, 26] 1 (Zb (cn h31 (fun _ h33 => ?_) (fun _ h34 => ?_))))))
 refine Za ?_
 cases h33
 refine Ze (XX (Zb (zg [1, 16, 17, 18] 1 (UW (Wo (Za (zg [1, 16, 17, 18, 19] 1 (Zb (Za (cnd true (fun _ => (Ze (Zb (Za (Zi (Za ?_)))))) (fun b35 => Bool.noConfusion b35)))))))))))
 obtain ⟨c36, h37⟩ := Zy h34
 refine zc [1, 5, 16, 17, 18] 1 c36 (Zb (Za ?_))
 obtain ⟨r6, q38, h39⟩ := bind_some h37
 refine zr [1, 6, 16, 17, 18] 1 ZA (rq1 (ZaX _ _ q38) rqn) (Zb (Za (zg [1, 6, 16, 17, 18, 26] 1 (Zb (cn h39 (fun _ h41 => ?_) (fun _ h42 => ?_))))))
 refine Za ?_
 cases h41
 refine Ze (XX (Zb (zg [1, 16, 17, 18] 1 (UW (Wo (Za (zg [1, 16, 17, 18, 19] 1 (Zb (Za (cnd true (fun _ => (Ze (Zb (Za (Zi (Za ?_)))))) (fun b43 => Bool.noConfusion b43)))))))))))
 obtain ⟨c44, h45⟩ := Zy h42
 refine zc [1, 5, 16, 17, 18] 1 c44 (Zb (Za ?_))
 obtain ⟨r7, q46, h47⟩ := bind_some h45
 refine zr [1, 6, 16, 17, 18] 1 ZA (rq1 (ZbT _ _ q46) rqn) (Zb (Za (zg [1, 6, 16, 17, 18, 26] 1 (Zb (cn h47 (fun _ h49 => ?_) (fun _ h50 => ?_))))))
 refine Za ?_
 cases h49
 refine Ze (XX (Zb (zg [1, 16, 17, 18] 1 (UW (Wo (Za (zg [1, 16, 17, 18, 19] 1 (Zb (Za (cnd true (fun _ => (Ze (Zb (Za (Zi (Za ?_)))))) (fun b51 => Bool.noConfusion b51)))))))))))
 obtain ⟨c52, h53⟩ := Zy h50
 refine zc [1, 5, 16, 17, 18] 1 c52 (Zb (Za ?_))
 obtain ⟨r8, q54, h55⟩ := bind_some h53
 refine zr [1, 6, 16, 17, 18] 1 ZA (rq1 (KS _ _ q54) rqn) (Zb (Za (zg [1, 6, 16, 17, 18, 26] 1 (Zb (cn h55 (fun _ h57 => ?_) (fun _ h58 => ?_))))))
 refine Za ?_
 cases h57
 refine Ze (XX (Zb (zg [1, 16, 17, 18] 1 (UW (Wo (Za (zg [1, 16, 17, 18, 19] 1 (Zb (Za (cnd true (fun _ => (Ze (Zb (Za (Zi (Za ?_)))))) (fun b59 => Bool.noConfusion b59)))))))))))
 obtain ⟨c60, h61⟩ := Zy h58
 refine zc [1, 5, 16, 17, 18] 1 c60 (Zb (Za ?_))
 obtain ⟨r9, q62, h63⟩ := bind_some h61
 refine zr [1, 6, 16, 17, 18] 1 ZA (rq1 (KT _ _ q62) rqn) (Zb (Za (zg [1, 6, 16, 17, 18, 26] 1 (Zb (cn h63 (fun _ h65 => ?_) (fun _ h66 => ?_))))))
 refine Za ?_
 cases h65
 refine Ze (XX (Zb (zg [1, 16, 17, 18] 1 (UW (Wo (Za (zg [1, 16, 17, 18, 19] 1 (Zb (Za (cnd true (fun _ => (Ze (Zb (Za (Zi (Za ?_)))))) (fun b67 => Bool.noConfusion b67)))))))))))
 obtain ⟨c68, h69⟩ := Zy h66
 refine zc [1, 5, 16, 17, 18] 1 c68 (Zb (Za ?_))
 obtain ⟨r10, q70, h71⟩ := bind_some h69
 refine zr [1, 6, 16, 17, 18] 1 ZA (rq1 (Kh _ _ q70) rqn) (Zb (Za (zg [1, 6, 16, 17, 18, 26] 1 (Zb (cn h71 (fun _ h73 => ?_) (fun _ h74 => ?_))))))
 refine Za ?_
 cases h73
 refine Ze (XX (Zb (zg [1, 16, 17, 18] 1 (UW (Wo (Za (zg [1, 16, 17, 18, 19] 1 (Zb (Za (cnd true (fun _ => (Ze (Zb (Za (Zi (Za ?_)))))) (fun b75 => Bool.noConfusion b75)))))))))))
 obtain ⟨c76, h77⟩ := Zy h74
 refine zc [1, 5, 16, 17, 18] 1 c76 (Zb (Za ?_))
 obtain ⟨r11, q78, h79⟩ := bind_some h77
 refine zr [1, 6, 16, 17, 18] 1 ZA (rq1 (U9 _ _ q78) rqn) (Zb (Za (zg [1, 6, 16, 17, 18, 26] 1 (Zb (cn h79 (fun _ h81 => ?_) (fun _ h82 => ?_))))))
 refine Za ?_
 cases h81
 refine Ze (XX (Zb (zg [1, 16, 17, 18] 1 (UW (Wo (Za (zg [1, 16, 17, 18, 19] 1 (Zb (Za (cnd true (fun _ => (Ze (Zb (Za (Zi (Za ?_)))))) (fun b83 => Bool.noConfusion b83)))))))))))
 obtain ⟨c84, h85⟩ := Zy h82
 refine zc [1, 5, 16, 17, 18] 1 c84 (Zb (Za ?_))
 obtain ⟨r12, q86, h87⟩ := bind_some h85
 refine zr [1, 6, 16, 17, 18] 1 ZA (rq1 (GU _ _ q86) rqn) (Zb (Za (zg [1, 6, 16, 17, 18, 26] 1 (Zb (cn h87 (fun _ h89 => ?_) (fun _ h90 => ?_))))))
 refine Za ?_
 cases h89
 exact Ze (XX (Zb (zg [1, 16, 17, 18] 1 (UW (Wo (Za (zg [1, 16, 17, 18, 19] 1 (Zb (Za (cnd false (fun b91 => Bool.noConfusion b91) (fun _ => (ZV (XF (ZjZ (Qi (Zb (Za (zg [2] 0 (Zb (Zh (er1 h90)))))))))))))))))))))
theorem ZaY (a0 : Zl) (b0 : Int) (r : Bool) (h : M.JG a0 b0 = some r) : Fn Tryz.prog 147 [.agg (Zj a0), .pp ((ci .u32) b0)] (.pure (.bool r)) := by
 unfold M.JG at h
 exact ZS Tryz.func147 rfl (by kernel_rfl) (Za (zg [1, 2] 1 (Zb (Za (zg [3] 0 (Zb (Zh (er1 h))))))))
theorem JU (a0 : List Zl) (a1c0 : Int) (r : Int) (h : M.ZJ a0 a1c0 = some r) : Fn Tryz.prog 146 [sL 12 Zj a0, .fn 147 [.pp ((ci .u32) a1c0)]] (.pure (.int .i64 r)) := by
 unfold M.ZJ at h
 refine ZS Tryz.func146 rfl (by kernel_rfl) (Za (zg [0, 1] 0 (Zb (Za (Za (zg [0, 1, 7, 8] 0 (Zb (Zi ?_))))))))
 obtain ⟨y4, q12, h13⟩ := bind_some h
 refine zl (fun (p1 : Int) => ⟨19, [(0, sL 12 Zj a0), (1, .fn 147 [.pp ((ci .u32) a1c0)]), (7, .int .i64 (a0.length : Int)), (8, .int .i64 p1)], []⟩) (Sum.elim (fun z => OutE 0 (fun z => ⟨19, [], []⟩) z) (fun z => OutR Tryz.prog Tryz.f146 (.int .i64 z))) q12 ?_ ?_
 intro p1 y2 h1
 unfold M.ZQ at h1
 refine Za (zg [0, 1, 7, 8, 9] 0 (Zb (Za (cn h1 (fun _ h3 => ?_) (fun _ h4 => ?_)))))
 refine Ze (Zb (Za (Zi (Za (zg [0, 1, 5, 7, 8] 0 (Zb (Za ?_)))))))
 obtain ⟨r3, q5, h6⟩ := bind_some h3
 obtain ⟨c7, h8⟩ := Zy h6
 refine zr [0, 1, 5, 7, 8, 16] 0 c7 (rq1 (ZaY _ _ _ q5) rqn) (Zb (cn h8 (fun _ h10 => ?_) (fun _ h11 => ?_)))
 exact Za (zg [4] 0 (Zb (Zh (Xb (Zk (rr h10 ⟨rfl, er0 _⟩))))))
 exact Ze (XX (Zb (zg [0, 1, 7, 8] 0 (rn h11))))
 exact ZV (XF (re h4 ⟨rfl, kq⟩))
 intro e14 s15 o16
 rcases y4 with g5 | y6
 have h17 := X9 h13
 exact zi o16 (Za (zg [4] 0 (Zb (Zh (er1 h17)))))
 have h18 := Ya h13
 obtain ⟨rfl, n20⟩ := o16
 refine Xb (Zk ?_)
 obtain rfl := Option.some.inj h18
 exact n20
theorem Zct (a0 : Zf) (a1 : Int) (r : Int) (h : M.Vo a0 a1 = some r) : Fn Tryz.prog 87 [.agg (Zp a0), .int .u32 a1] (.pure (.int .i64 r)) := by
 unfold M.Vo at h
 refine ZS Tryz.func87 rfl (by kernel_rfl) (Za (zg [2, 3] 2 (Zb (Za ?_))))
 obtain ⟨r1, q1, h2⟩ := bind_some h
 exact zr [4] 0 ZA (rq1 (JU _ _ _ q1) rqn) (Zb (Zh (er1 h2)))
theorem Ki (a0 : Zl) (b0 : Zf) (r : Bool) (h : M.Y5 a0 b0 = some r) : Fn Tryz.prog 86 [.agg (Zj a0), .pp (Zp b0)] (.pure (.bool r)) := by
 unfold M.Y5 at h
 refine ZS Tryz.func86 rfl (by kernel_rfl) (Za (zg [1, 2] 1 (Zb (Za ?_))))
 obtain ⟨r1, q1, h2⟩ := bind_some h
 exact zr [3] 0 ZA (rq2 (fun hg => Zct _ _ _ (XN q1 hg)) rqn) (Zb (Zh (er1 h2)))
theorem Js (a0 : List Zl) (a1c0 : Zf) (r : Int) (h : M.ZB a0 a1c0 = some r) : Fn Tryz.prog 146 [sL 12 Zj a0, .fn 86 [.pp (Zp a1c0)]] (.pure (.int .i64 r)) := by
 unfold M.ZB at h
 refine ZS Tryz.func146 rfl (by kernel_rfl) (Za (zg [0, 1] 0 (Zb (Za (Za (zg [0, 1, 7, 8] 0 (Zb (Zi ?_))))))))
 obtain ⟨y4, q12, h13⟩ := bind_some h
 refine zl (fun (p1 : Int) => ⟨19, [(0, sL 12 Zj a0), (1, .fn 86 [.pp (Zp a1c0)]), (7, .int .i64 (a0.length : Int)), (8, .int .i64 p1)], []⟩) (Sum.elim (fun z => OutE 0 (fun z => ⟨19, [], []⟩) z) (fun z => OutR Tryz.prog Tryz.f146 (.int .i64 z))) q12 ?_ ?_
 intro p1 y2 h1
 unfold M.ZG at h1
 refine Za (zg [0, 1, 7, 8, 9] 0 (Zb (Za (cn h1 (fun _ h3 => ?_) (fun _ h4 => ?_)))))
 refine Ze (Zb (Za (Zi (Za (zg [0, 1, 5, 7, 8] 0 (Zb (Za ?_)))))))
 obtain ⟨r3, q5, h6⟩ := bind_some h3
 obtain ⟨c7, h8⟩ := Zy h6
 refine zr [0, 1, 5, 7, 8, 16] 0 c7 (rq1 (Ki _ _ _ q5) rqn) (Zb (cn h8 (fun _ h10 => ?_) (fun _ h11 => ?_)))
 exact Za (zg [4] 0 (Zb (Zh (Xb (Zk (rr h10 ⟨rfl, er0 _⟩))))))
 exact Ze (XX (Zb (zg [0, 1, 7, 8] 0 (rn h11))))
 exact ZV (XF (re h4 ⟨rfl, kq⟩))
 intro e14 s15 o16
 rcases y4 with g5 | y6
 have h17 := X9 h13
 exact zi o16 (Za (zg [4] 0 (Zb (Zh (er1 h17)))))
 have h18 := Ya h13
 obtain ⟨rfl, n20⟩ := o16
 refine Xb (Zk ?_)
 obtain rfl := Option.some.inj h18
 exact n20
theorem Jm (a0 : List Zl) (a1c0 : Zf) (r : Bool) (h : M.Zz a0 a1c0 = some r) : Fn Tryz.prog 85 [sL 12 Zj a0, .fn 86 [.pp (Zp a1c0)]] (.pure (.bool r)) := by
 unfold M.Zz at h
 refine ZS Tryz.func85 rfl (by kernel_rfl) (Za (zg [0, 1] 0 (Zb (Za ?_))))
 obtain ⟨r1, q1, h2⟩ := bind_some h
 exact zr [4] 0 ZA (rq1 (Js _ _ _ q1) rqn) (Zb (Zh (er1 h2)))
theorem KU (a0 : Zf) (a1 : Zf) (r : Bool) (h : M.Qy a0 a1 = some r) : Fn Tryz.prog 59 [.agg (Zp a0), .agg (Zp a1)] (.pure (.bool r)) := by
 unfold M.Qy at h
 refine ZS Tryz.func59 rfl (by kernel_rfl) (Za (zg [2, 3] 2 (Zb (Za ?_))))
 obtain ⟨r1, q1, h2⟩ := bind_some h
 exact zr [4] 0 ZA (rq1 (Jm _ _ _ q1) rqn) (Zb (Zh (er1 h2)))
theorem Zed (a0 : Zw) (r : Int) (h : M.V7 a0 = some r) : Fn Tryz.prog 37 [.agg (XO a0)] (.pure (.int .i64 r)) := by
 let u1 : Nat × D := (13, sL 25 Zp a0.Zd)
 let u3 := (a0.Zd.length : Int)
 let u5 := XO a0
 unfold M.V7 at h
 refine ZS Tryz.func37 rfl (by kernel_rfl) (Za (zg [1] 1 (Zb (Za (Za (zg [1, 11] 1 (Zb (cn h (fun _ h2 => ?_) (fun _ h3 => ?_)))))))))
 refine Za ?_
 cases h2
 refine Ze (Zb (Za (Za (zg [1, 13, 14, 15] 1 (Zb (Zi ?_))))))
 obtain ⟨y8, q34, h35⟩ := bind_some h3
 refine zl (fun (p1 : Int) => ⟨46, [(1, .ref 0 0), u1, (14, .int .i64 u3), (15, .int .i64 p1)], [.box u5]⟩) (fun z => OutE 0 (fun z => ⟨46, [], []⟩) z) q34 ?_ ?_
 intro p1 y2 h4
 let u2 : List Ob := [.box u5, .box (Zp (a0.Zd.getD p1.toNat default))]
 let u4 : Nat × D := (28, sL 25 Zp ((a0.Zd.drop 0).take (p1.toNat - 0)))
 unfold M.Vw at h4
 refine Za (zg [1, 13, 14, 15, 16] 1 (Zb (Za (cn h4 (fun _ h6 => ?_) (fun _ h7 => ?_)))))
 refine Ze (Zb (Za (Zi (Za ?_))))
 obtain ⟨c8, h9⟩ := Zy h6
 refine zc [1, 3, 4, 13, 14, 15] 2 c8 (Zb (Za (Za ?_)))
 obtain ⟨r3, q10, h11⟩ := bind_some h9
 refine zr [1, 3, 4, 5, 13, 14, 15] 2 ZA (rq1 (RG _ _ q10) rqn) (Zb (Za (zg [1, 3, 4, 5, 13, 14, 15, 23] 2 (Zb (cn h11 (fun _ h13 => ?_) (fun _ h14 => ?_))))))
 refine Za ?_
 cases h13
 refine Ze (Zb (Za ?_))
 obtain ⟨c15, h16⟩ := Zy h14
 refine rgc [1, 4, 13, 14, 15, 28, 29, 30] 2 ⟨46, [(1, .ref 0 0), (4, .ref 1 0), u1, (14, .int .i64 u3), (15, .int .i64 p1), (28, .sl false 25 (p1.toNat - 0) (fun i => Zp (a0.Zd.getD (0 + i) default))), (29, .int .i64 ((p1.toNat - 0 : Nat) : Int)), (30, .int .i64 0)], u2⟩ [decide (0 ≤ p1), decide (p1 ≤ u3)] c15 (XP (s' := ⟨46, [(1, .ref 0 0), (4, .ref 1 0), u1, (14, .int .i64 u3), (15, .int .i64 p1), u4, (29, .int .i64 ((p1.toNat - 0 : Nat) : Int)), (30, .int .i64 0)], u2⟩) (VE (.cons Sub.rfl (.cons Sub.rfl (.cons Sub.rfl (.cons Sub.rfl (.cons Sub.rfl (.cons (UR (Zhp _ _ _ (ZiW (c15 _ (List.mem_cons_of_mem _ List.mem_cons_self)))) (Zho _ _ _ _)) (.cons Sub.rfl (.cons Sub.rfl .nil)))))))) (.cons .rfl (.cons .rfl .nil))) (Zi ?_))
 obtain ⟨y7, q28, h29⟩ := bind_some h16
 refine zl (fun (p4 : Int) => ⟨46, [(1, .ref 0 0), (4, .ref 1 0), u1, (14, .int .i64 u3), (15, .int .i64 p1), u4, (29, .int .i64 ((p1.toNat - 0 : Nat) : Int)), (30, .int .i64 p4)], u2⟩) (fun z => OutE 2 (fun z => ⟨46, [(1, .ref 0 0), u1, (14, .int .i64 u3), (15, .int .i64 p1)], [.box u5]⟩) z) q28 ?_ ?_
 intro p4 y5 h17
 unfold M.Vv at h17
 refine Za (zg [1, 4, 13, 14, 15, 28, 29, 30, 31] 2 (Zb (Za (cn h17 (fun _ h19 => ?_) (fun _ h20 => ?_)))))
 refine Ze (Zb (Za (Zi (Za ?_))))
 obtain ⟨c21, h22⟩ := Zy h19
 refine zc [1, 4, 7, 13, 14, 15, 28, 29, 30] 3 c21 (Zb (Za ?_))
 obtain ⟨r6, q23, h24⟩ := bind_some h22
 refine zr [1, 4, 13, 14, 15, 28, 29, 30, 43] 2 ZA (rq2 (fun hg => KU _ _ _ (XN q23 hg)) rqn) (Zb (cn h24 (fun _ h26 => ?_) (fun _ h27 => ?_)))
 refine Za ?_
 cases h26
 exact Ze (XX (Zb (zg [1, 4, 13, 14, 15, 28, 29, 30] 2 (rn h27))))
 exact ZV (XF (re h20 ⟨rfl, kc⟩))
 intro e30 s31 o32
 obtain ⟨rfl, l33⟩ := o32
 exact Qi (XX (XP (s' := ⟨46, [(1, .ref 0 0), u1, (14, .int .i64 u3), (15, .int .i64 p1)], [.box u5]⟩) (l33) (zg [1, 13, 14, 15] 1 (rn h29))))
 exact ZV (XF (re h7 ⟨rfl, kc⟩))
 intro e36 s37 o38
 exact zi o38 (Za (zg [2] 0 (Zb (Zh (er1 h35)))))
theorem Zgp : KeyT Tryz.prog 117 119 3 Z7 topoKeyEq := ⟨by kernel_rfl, ⟨_, Tryz.underlying119⟩, ⟨3, by kernel_rfl, fun _ => rfl⟩, fun _ => rfl, fun em y w => by cases em <;> kernel_rfl, fun w => by kernel_rfl, fun x y => by kernel_rfl⟩
theorem Zcu (a0 : Zw) (r : List Zg) (h : M.VI a0 = some r) : Fn Tryz.prog 38 [.agg (XO a0)] (oL 4 ZD r) := by
 let u1 : Nat × D := (14, sL 25 Zp a0.Zd)
 let u2 := (a0.Zd.length : Int)
 let u3 := XO a0
 let u4 : Nat × D := (3, .sl true 4 0 (fun _ => []))
 let u5 := List (Xa × Int)
 let u6 : St := ⟨82, [(1, .ref 0 0), u4], [.box u3]⟩
 let u7 := List Zg
 unfold M.VI at h
 obtain ⟨y, hy, h1⟩ := bind_some h
 obtain rfl := Option.some.inj h1
 refine Zcg Tryz.func38 rfl (by kernel_rfl) (Ur ?_)
 refine Za (rg0 [1] 1 ⟨82, [(1, .ref 0 0)], [.box u3]⟩ ?_)
 refine Zb (Za (rg0 [1, 3] 1 u6 ?_))
 refine Zb (Za ?_)
 refine rgo 0 [] [1, 3] 1 u6 [] [] ZA trivial (fun u : Value => ⟨82, (12, .val u) :: [(1, .ref 0 0), u4], [.box u3] ++ [.mp u []]⟩) (Zjq rfl rfl rfl rfl rfl) [] [1, 3, 4] 2 (fun u => ⟨82, [(1, .ref 0 0), u4, (4, .val u)], [.box u3, .mp u []]⟩) (fun _ => []) (fun _ => []) (fun _ => ZA) (fun _ => trivial) (fun u => ?_)
 refine Zb (Za (Za (rg0 [3, 4, 14, 15, 16] 2 ⟨82, [u4, (4, .val u), u1, (15, .int .i64 u2), (16, .int .i64 0)], [.box u3, .mp u []]⟩ ?_)))
 refine XP (Le.trans (s' := ⟨82, (3, .asl 2 0 0) :: [u4, (4, .val u), u1, (15, .int .i64 u2), (16, .int .i64 0)], [.box u3, .mp u []] ++ [.arr 4 0 (fun _ => [])]⟩) (Kn (wd := 4) (f := fun _ => []) 3 (by kernel_rfl) _ _) (Le.trans (s' := ⟨82, [(3, .asl 2 0 0), (4, .val u), u1, (15, .int .i64 u2), (16, .int .i64 0)], [.box u3, .mp u [], .arr 4 0 (fun _ => [])]⟩) (kp [3, 4, 14, 15, 16]) (Zgi (H := [.box u3, .mp u []]) (wi := 2) (wd := 4) hdDom ZW Zg.ZZ _))) ?_
 refine Zi ?_
 refine Gj (R3 (f := M.JI a0) (S := fun (p : u7 × u5 × Int) (vs : Nat → Value) => ⟨82, [(3, .asl 2 0 p.1.length), (4, .val u), u1, (15, .int .i64 u2), (16, .int .i64 p.2.2)], [.box u3, mpO u Z7 p.2.1, rA 4 hdDom p.1 vs, rF 2 ZW Zg.ZZ p.1 vs]⟩) (O := (fun z => OutL 0 (fun (z : List Zg) (g : (Nat → Value) × u5) => ⟨82, [(3, .asl 2 0 z.length)], [.box u3, mpO u Z7 g.2, rA 4 hdDom z g.1, rF 2 ZW Zg.ZZ z g.1]⟩) z)) ?_ (g := fun _ => nilV) (x := ([], [], 0)) (y := y) (Wc hy)) ?_
 · intro p1 y1 v1 h2
   unfold M.JI at h2
   refine Za (rg0 [3, 4, 14, 15, 16, 17] 4 ⟨82, [(3, .asl 2 0 p1.1.length), (4, .val u), u1, (15, .int .i64 u2), (16, .int .i64 p1.2.2), (17, .bool (decide (p1.2.2 < u2)))], [.box u3, mpO u Z7 p1.2.1, rA 4 hdDom p1.1 v1, rF 2 ZW Zg.ZZ p1.1 v1]⟩ ?_)
   refine Zb (Za ?_)
   refine cnd (decide (p1.2.2 < u2)) (fun b1 => ?_) (fun b1 => ?_)
   · have h3 := UC b1 h2
     refine Ze (Zb ?_)
     refine Za (Zi (Za ?_))
     obtain ⟨c1, h4⟩ := Zy h3
     refine rgc [3, 4, 5, 6, 14, 15, 16] 5 ⟨82, [(3, .asl 2 0 p1.1.length), (4, .val u), (5, .int .i64 p1.2.2), (6, .ref 4 0), u1, (15, .int .i64 u2), (16, .int .i64 p1.2.2)], [.box u3, mpO u Z7 p1.2.1, rA 4 hdDom p1.1 v1, rF 2 ZW Zg.ZZ p1.1 v1, .box (Zp (a0.Zd.getD p1.2.2.toNat default))]⟩ [decide (0 ≤ p1.2.2), decide (p1.2.2 < u2)] c1 ?_
     refine Zb (Za (rg0 [3, 4, 5, 14, 15, 16, 22, 23, 24] 4 ⟨82, [(3, .asl 2 0 p1.1.length), (4, .val u), (5, .int .i64 p1.2.2), u1, (15, .int .i64 u2), (16, .int .i64 p1.2.2), (22, sL 12 Zj (a0.Zd.getD p1.2.2.toNat default).Zc), (23, .int .i64 ((a0.Zd.getD p1.2.2.toNat default).Zc.length : Int)), (24, .int .i64 0)], [.box u3, mpO u Z7 p1.2.1, rA 4 hdDom p1.1 v1, rF 2 ZW Zg.ZZ p1.1 v1]⟩ ?_))
     refine Zb (Zi ?_)
     obtain ⟨y2, hy2, h5⟩ := bind_some h4
     refine Gj (R3 (f := M.JH a0 p1.2.2) (S := fun (p : u7 × u5 × Int) (vs : Nat → Value) => ⟨82, [(3, .asl 2 0 p.1.length), (4, .val u), (5, .int .i64 p1.2.2), u1, (15, .int .i64 u2), (16, .int .i64 p1.2.2), (22, sL 12 Zj (a0.Zd.getD p1.2.2.toNat default).Zc), (23, .int .i64 ((a0.Zd.getD p1.2.2.toNat default).Zc.length : Int)), (24, .int .i64 p.2.2)], [.box u3, mpO u Z7 p.2.1, rA 4 hdDom p.1 vs, rF 2 ZW Zg.ZZ p.1 vs]⟩) (O := (fun z => OutL 2 (fun (z : u7 × u5) (vs : Nat → Value) => ⟨82, [(3, .asl 2 0 z.1.length), (4, .val u), u1, (15, .int .i64 u2), (16, .int .i64 p1.2.2)], [.box u3, mpO u Z7 z.2, rA 4 hdDom z.1 vs, rF 2 ZW Zg.ZZ z.1 vs]⟩) z)) ?_ (g := v1) (x := (p1.1, p1.2.1, 0)) (y := y2) (Wc hy2)) ?_
     · intro p2 y3 v2 h6
       unfold M.JH at h6
       refine Za (rg0 [3, 4, 5, 14, 15, 16, 22, 23, 24, 25] 4 ⟨82, [(3, .asl 2 0 p2.1.length), (4, .val u), (5, .int .i64 p1.2.2), u1, (15, .int .i64 u2), (16, .int .i64 p1.2.2), (22, sL 12 Zj (a0.Zd.getD p1.2.2.toNat default).Zc), (23, .int .i64 ((a0.Zd.getD p1.2.2.toNat default).Zc.length : Int)), (24, .int .i64 p2.2.2), (25, .bool (decide (p2.2.2 < ((a0.Zd.getD p1.2.2.toNat default).Zc.length : Int))))], [.box u3, mpO u Z7 p2.2.1, rA 4 hdDom p2.1 v2, rF 2 ZW Zg.ZZ p2.1 v2]⟩ ?_)
       refine Zb (Za ?_)
       refine cnd (decide (p2.2.2 < ((a0.Zd.getD p1.2.2.toNat default).Zc.length : Int))) (fun b2 => ?_) (fun b2 => ?_)
       · have h7 := UC b2 h6
         refine Ze (Zb ?_)
         refine Za (Zi (Za ?_))
         obtain ⟨c2, h8⟩ := Zy h7
         refine rgc [3, 4, 5, 7, 8, 14, 15, 16, 22, 23, 24] 5 ⟨82, [(3, .asl 2 0 p2.1.length), (4, .val u), (5, .int .i64 p1.2.2), (7, .int .i64 p2.2.2), (8, .ref 4 0), u1, (15, .int .i64 u2), (16, .int .i64 p1.2.2), (22, sL 12 Zj (a0.Zd.getD p1.2.2.toNat default).Zc), (23, .int .i64 ((a0.Zd.getD p1.2.2.toNat default).Zc.length : Int)), (24, .int .i64 p2.2.2)], [.box u3, mpO u Z7 p2.2.1, rA 4 hdDom p2.1 v2, rF 2 ZW Zg.ZZ p2.1 v2, .box (Zj ((a0.Zd.getD p1.2.2.toNat default).Zc.getD p2.2.2.toNat default))]⟩ [decide (0 ≤ p2.2.2), decide (p2.2.2 < ((a0.Zd.getD p1.2.2.toNat default).Zc.length : Int))] c2 ?_
         refine Zb (Za (Za ?_))
         refine rg0 [3, 4, 5, 7, 8, 14, 15, 16, 22, 23, 24, 35] 5 ⟨82, [(3, .asl 2 0 p2.1.length), (4, .val u), (5, .int .i64 p1.2.2), (7, .int .i64 p2.2.2), (8, .ref 4 0), u1, (15, .int .i64 u2), (16, .int .i64 p1.2.2), (22, sL 12 Zj (a0.Zd.getD p1.2.2.toNat default).Zc), (23, .int .i64 ((a0.Zd.getD p1.2.2.toNat default).Zc.length : Int)), (24, .int .i64 p2.2.2), (35, .bool ((((a0.Zd.getD p1.2.2.toNat default).Zc.getD p2.2.2.toNat default).ZR == 0) || ((a0.Zd.getD p1.2.2.toNat default).Zc.getD p2.2.2.toNat default).V0))], [.box u3, mpO u Z7 p2.2.1, rA 4 hdDom p2.1 v2, rF 2 ZW Zg.ZZ p2.1 v2, .box (Zj ((a0.Zd.getD p1.2.2.toNat default).Zc.getD p2.2.2.toNat default))]⟩ ?_
         refine Zb ?_
         refine cnd ((((a0.Zd.getD p1.2.2.toNat default).Zc.getD p2.2.2.toNat default).ZR == 0) || ((a0.Zd.getD p1.2.2.toNat default).Zc.getD p2.2.2.toNat default).V0) (fun b3 => ?_) (fun b3 => ?_)
         · have h9 := UC b3 h8
           refine ZV (XF (Qi ?_))
           refine Zb (rg0 [3, 4, 5, 14, 15, 16, 22, 23, 24] 4 ⟨82, [(3, .asl 2 0 p2.1.length), (4, .val u), (5, .int .i64 p1.2.2), u1, (15, .int .i64 u2), (16, .int .i64 p1.2.2), (22, sL 12 Zj (a0.Zd.getD p1.2.2.toNat default).Zc), (23, .int .i64 ((a0.Zd.getD p1.2.2.toNat default).Zc.length : Int)), (24, .int .i64 (wr .i64 (p2.2.2 + 1)))], [.box u3, mpO u Z7 p2.2.1, rA 4 hdDom p2.1 v2, rF 2 ZW Zg.ZZ p2.1 v2]⟩ ?_)
           obtain rfl := Option.some.inj h9
           exact Rj v2 Un
         · have h9 := UD b3 h8
           refine Ze (Zb (Za ?_))
           obtain ⟨r, hr, h10⟩ := bind_some h9
           refine rgs 8 9 [.pure (.agg (Xg r))] [3, 4, 5, 7, 9, 14, 15, 16, 22, 23, 24] 6 ⟨82, [(3, .asl 2 0 p2.1.length), (4, .val u), (5, .int .i64 p1.2.2), (7, .int .i64 p2.2.2), (9, .ref 5 0), u1, (15, .int .i64 u2), (16, .int .i64 p1.2.2), (22, sL 12 Zj (a0.Zd.getD p1.2.2.toNat default).Zc), (23, .int .i64 ((a0.Zd.getD p1.2.2.toNat default).Zc.length : Int)), (24, .int .i64 p2.2.2)], [.box u3, mpO u Z7 p2.2.1, rA 4 hdDom p2.1 v2, rF 2 ZW Zg.ZZ p2.1 v2, .box (Zj ((a0.Zd.getD p1.2.2.toNat default).Zc.getD p2.2.2.toNat default)), .box (Z7 (⟨r, ((a0.Zd.getD p1.2.2.toNat default).Zc.getD p2.2.2.toNat default).XB⟩ : Xa))]⟩ [] [⟨true, 60, [.int .u32 ((a0.Zd.getD p1.2.2.toNat default).Zc.getD p2.2.2.toNat default).Zs, .int .i64 ((a0.Zd.getD p1.2.2.toNat default).Zc.getD p2.2.2.toNat default).ZR], .pure (.agg (Xg r))⟩] ZA ⟨fun _ => U8 ((a0.Zd.getD p1.2.2.toNat default).Zc.getD p2.2.2.toNat default).Zs ((a0.Zd.getD p1.2.2.toNat default).Zc.getD p2.2.2.toNat default).ZR r hr, trivial⟩ ?_
           refine Zb (Za ?_)
           refine rgo 2 [] [3, 4, 5, 7, 9, 14, 15, 16, 22, 23, 24, 45, 46] 6 ⟨82, [(3, .asl 2 0 p2.1.length), (4, .val u), (5, .int .i64 p1.2.2), (7, .int .i64 p2.2.2), (9, .ref 5 0), u1, (15, .int .i64 u2), (16, .int .i64 p1.2.2), (22, sL 12 Zj (a0.Zd.getD p1.2.2.toNat default).Zc), (23, .int .i64 ((a0.Zd.getD p1.2.2.toNat default).Zc.length : Int)), (24, .int .i64 p2.2.2), (45, .val u), (46, .agg (Z7 (⟨r, ((a0.Zd.getD p1.2.2.toNat default).Zc.getD p2.2.2.toNat default).XB⟩ : Xa)))], [.box u3, mpO u Z7 p2.2.1, rA 4 hdDom p2.1 v2, rF 2 ZW Zg.ZZ p2.1 v2, .box (Zj ((a0.Zd.getD p1.2.2.toNat default).Zc.getD p2.2.2.toNat default)), .box (Z7 (⟨r, ((a0.Zd.getD p1.2.2.toNat default).Zc.getD p2.2.2.toNat default).XB⟩ : Xa))]⟩ [] [] ZA trivial (fun _ : Unit => ⟨82, (47, .tup [.int .i64 (lkM (topoKeyEq (⟨r, ((a0.Zd.getD p1.2.2.toNat default).Zc.getD p2.2.2.toNat default).XB⟩ : Xa)) p2.2.1).1, .bool (lkM (topoKeyEq (⟨r, ((a0.Zd.getD p1.2.2.toNat default).Zc.getD p2.2.2.toNat default).XB⟩ : Xa)) p2.2.1).2]) :: [(3, .asl 2 0 p2.1.length), (4, .val u), (5, .int .i64 p1.2.2), (7, .int .i64 p2.2.2), (9, .ref 5 0), u1, (15, .int .i64 u2), (16, .int .i64 p1.2.2), (22, sL 12 Zj (a0.Zd.getD p1.2.2.toNat default).Zc), (23, .int .i64 ((a0.Zd.getD p1.2.2.toNat default).Zc.length : Int)), (24, .int .i64 p2.2.2), (45, .val u), (46, .agg (Z7 (⟨r, ((a0.Zd.getD p1.2.2.toNat default).Zc.getD p2.2.2.toNat default).XB⟩ : Xa)))], [.box u3, mpO u Z7 p2.2.1, rA 4 hdDom p2.1 v2, rF 2 ZW Zg.ZZ p2.1 v2, .box (Zj ((a0.Zd.getD p1.2.2.toNat default).Zc.getD p2.2.2.toNat default)), .box (Z7 (⟨r, ((a0.Zd.getD p1.2.2.toNat default).Zc.getD p2.2.2.toNat default).XB⟩ : Xa))]⟩) (Zjs (id := 1) Zgp (⟨r, ((a0.Zd.getD p1.2.2.toNat default).Zc.getD p2.2.2.toNat default).XB⟩ : Xa) rfl rfl rfl rfl rfl rfl rfl rfl) [] [3, 4, 5, 7, 9, 10, 11, 14, 15, 16, 22, 23, 24] 6 (fun _ => ⟨82, [(3, .asl 2 0 p2.1.length), (4, .val u), (5, .int .i64 p1.2.2), (7, .int .i64 p2.2.2), (9, .ref 5 0), (10, .int .i64 (lkM (topoKeyEq (⟨r, ((a0.Zd.getD p1.2.2.toNat default).Zc.getD p2.2.2.toNat default).XB⟩ : Xa)) p2.2.1).1), (11, .bool (lkM (topoKeyEq (⟨r, ((a0.Zd.getD p1.2.2.toNat default).Zc.getD p2.2.2.toNat default).XB⟩ : Xa)) p2.2.1).2), u1, (15, .int .i64 u2), (16, .int .i64 p1.2.2), (22, sL 12 Zj (a0.Zd.getD p1.2.2.toNat default).Zc), (23, .int .i64 ((a0.Zd.getD p1.2.2.toNat default).Zc.length : Int)), (24, .int .i64 p2.2.2)], [.box u3, mpO u Z7 p2.2.1, rA 4 hdDom p2.1 v2, rF 2 ZW Zg.ZZ p2.1 v2, .box (Zj ((a0.Zd.getD p1.2.2.toNat default).Zc.getD p2.2.2.toNat default)), .box (Z7 (⟨r, ((a0.Zd.getD p1.2.2.toNat default).Zc.getD p2.2.2.toNat default).XB⟩ : Xa))]⟩) (fun _ => []) (fun _ => []) (fun _ => ZA) (fun _ => trivial) (fun _ => ?_)
           refine Zb ?_
           refine WT (fun (q : u7 × u5 × Int × (Nat → Value)) => ⟨82, [(3, .asl 2 0 q.1.length), (4, .val u), (5, .int .i64 p1.2.2), (7, .int .i64 p2.2.2), (10, .int .i64 q.2.2.1), u1, (15, .int .i64 u2), (16, .int .i64 p1.2.2), (22, sL 12 Zj (a0.Zd.getD p1.2.2.toNat default).Zc), (23, .int .i64 ((a0.Zd.getD p1.2.2.toNat default).Zc.length : Int)), (24, .int .i64 p2.2.2)], [.box u3, mpO u Z7 q.2.1, rA 4 hdDom q.1 q.2.2.2, rF 2 ZW Zg.ZZ q.1 q.2.2.2]⟩) (fun q => M.Q4 p1.2.2 p2 (q.1, q.2.1, q.2.2.1) = some y3) ?_ ?_
           · intro q h11
             unfold M.Q4 at h11
             obtain ⟨c4, h12⟩ := Zy h11
             have g1 : 0 ≤ q.2.2.1 := of_decide_eq_true (c4 _ (by simp only [List.mem_cons, true_or]))
             have g2 : q.2.2.1 < (q.1.length : Int) := of_decide_eq_true (c4 _ (by simp only [List.mem_cons, true_or, or_true]))
             have g3 : ((q.1.getD (0 + q.2.2.1.toNat) default).ZZ.length + 1) * 16 ≤ 140737488355328 := of_decide_eq_true (c4 _ (by simp only [List.mem_cons, true_or, or_true]))
             refine V3 (Zi9 (idf := 3) (0 + q.2.2.1.toNat) rfl) ?_
             refine rgxe 12 [] [3, 4, 5, 14, 15, 16, 22, 23, 24, 65, 66, 76] 5 ⟨82, [(3, .asl 2 0 q.1.length), (4, .val u), (5, .int .i64 p1.2.2), u1, (15, .int .i64 u2), (16, .int .i64 p1.2.2), (22, sL 12 Zj (a0.Zd.getD p1.2.2.toNat default).Zc), (23, .int .i64 ((a0.Zd.getD p1.2.2.toNat default).Zc.length : Int)), (24, .int .i64 p2.2.2), (65, .asl 2 0 q.1.length), (66, .int .i64 q.2.2.1), (76, .asl 4 0 ((q.1.getD (0 + q.2.2.1.toNat) default).ZZ.length + 1))], [.box u3, mpO u Z7 q.2.1, rA 4 hdDom q.1 q.2.2.2, .fam (0 + q.2.2.1.toNat) (fun _ => false) q.1.length 2 (updV q.2.2.2 (0 + q.2.2.1.toNat) nilV) (updL (rls ZW Zg.ZZ q.1) (0 + q.2.2.1.toNat) (0, fun _ => [])), .arr 2 ((q.1.getD (0 + q.2.2.1.toNat) default).ZZ.length + 1) (app (rls ZW Zg.ZZ q.1 (0 + q.2.2.1.toNat)).2 (rls ZW Zg.ZZ q.1 (0 + q.2.2.1.toNat)).1 (fun i => List.take 2 (List.drop (i * 2) [.int .i64 p1.2.2, .int .i64 p2.2.2])))]⟩ [decide (0 ≤ q.2.2.1), decide (q.2.2.1 < (q.1.length : Int)), pB (q.2.2.2 (0 + q.2.2.1.toNat) = q.2.2.2 (0 + q.2.2.1.toNat)), decide ((0 + q.2.2.1.toNat) < q.1.length), decide (((q.1.getD (0 + q.2.2.1.toNat) default).ZZ.length + 1) * 16 ≤ 140737488355328)] [] ?_ trivial _ (Zht (idf := 3) 76 (0 + q.2.2.1.toNat) rfl rfl rfl ?_ rfl) [] [3, 4, 5, 14, 15, 16, 22, 23, 24] 4 (fun w => ⟨82, [(3, .asl 2 0 q.1.length), (4, .val u), (5, .int .i64 p1.2.2), u1, (15, .int .i64 u2), (16, .int .i64 p1.2.2), (22, sL 12 Zj (a0.Zd.getD p1.2.2.toNat default).Zc), (23, .int .i64 ((a0.Zd.getD p1.2.2.toNat default).Zc.length : Int)), (24, .int .i64 p2.2.2)], [.box u3, mpO u Z7 q.2.1, .arr 4 q.1.length (fun j => bif Nat.beq j (0 + q.2.2.1.toNat) then splice (hdDom (q.1.getD (0 + q.2.2.1.toNat) default) ++ [.val (q.2.2.2 (0 + q.2.2.1.toNat))]) [.val w] 3 else hdDom (q.1.getD j default) ++ [.val (q.2.2.2 j)]), .fam 0 (fun _ => false) q.1.length 2 (updV (updV q.2.2.2 (0 + q.2.2.1.toNat) nilV) (0 + q.2.2.1.toNat) w) (updL (updL (rls ZW Zg.ZZ q.1) (0 + q.2.2.1.toNat) (0, fun _ => [])) (0 + q.2.2.1.toNat) ((q.1.getD (0 + q.2.2.1.toNat) default).ZZ.length + 1, (app (rls ZW Zg.ZZ q.1 (0 + q.2.2.1.toNat)).2 (rls ZW Zg.ZZ q.1 (0 + q.2.2.1.toNat)).1 (fun i => List.take 2 (List.drop (i * 2) [.int .i64 p1.2.2, .int .i64 p2.2.2])))))]⟩) (fun _ => [decide (0 ≤ q.2.2.1), decide (q.2.2.1 < (q.1.length : Int))]) (fun _ => []) ?_ (fun _ => trivial) (fun w => ?_)
             · exact am (decide_eq_true g1) (am (decide_eq_true g2) (am (Zi8 rfl) (am (decide_eq_true (by omega)) (am (decide_eq_true g3) ZA))))
             · rw [Wn]; rfl
             · exact fun _ => am (decide_eq_true g1) (am (decide_eq_true g2) ZA)
             refine XX ?_
             refine XP (s' := ⟨82, [(3, .asl 2 0 (q.1.set (0 + q.2.2.1.toNat) (⟨(q.1.getD (0 + q.2.2.1.toNat) default).Zo, (q.1.getD (0 + q.2.2.1.toNat) default).XB, (q.1.getD (0 + q.2.2.1.toNat) default).ZZ ++ [(⟨p1.2.2, p2.2.2⟩ : X8)]⟩ : Zg)).length), (4, .val u), (5, .int .i64 p1.2.2), (14, sL 25 Zp a0.Zd), (15, .int .i64 (a0.Zd.length : Int)), (16, .int .i64 p1.2.2), (22, sL 12 Zj (a0.Zd.getD p1.2.2.toNat default).Zc), (23, .int .i64 ((a0.Zd.getD p1.2.2.toNat default).Zc.length : Int)), (24, .int .i64 p2.2.2)], [.box (XO a0), mpO u Z7 q.2.1, rA 4 hdDom (q.1.set (0 + q.2.2.1.toNat) (⟨(q.1.getD (0 + q.2.2.1.toNat) default).Zo, (q.1.getD (0 + q.2.2.1.toNat) default).XB, (q.1.getD (0 + q.2.2.1.toNat) default).ZZ ++ [(⟨p1.2.2, p2.2.2⟩ : X8)]⟩ : Zg)) (updV q.2.2.2 (0 + q.2.2.1.toNat) w), rF 2 ZW Zg.ZZ (q.1.set (0 + q.2.2.1.toNat) (⟨(q.1.getD (0 + q.2.2.1.toNat) default).Zo, (q.1.getD (0 + q.2.2.1.toNat) default).XB, (q.1.getD (0 + q.2.2.1.toNat) default).ZZ ++ [(⟨p1.2.2, p2.2.2⟩ : X8)]⟩ : Zg)) (updV q.2.2.2 (0 + q.2.2.1.toNat) w)]⟩) (Le.trans (Zhw 2 3 hdDom ZW Zg.ZZ q.1 (⟨(q.1.getD (0 + q.2.2.1.toNat) default).Zo, (q.1.getD (0 + q.2.2.1.toNat) default).XB, (q.1.getD (0 + q.2.2.1.toNat) default).ZZ ++ [(⟨p1.2.2, p2.2.2⟩ : X8)]⟩ : Zg) q.2.2.2 (0 + q.2.2.1.toNat) w ((q.1.getD (0 + q.2.2.1.toNat) default).ZZ.length + 1) (app (rls ZW Zg.ZZ q.1 (0 + q.2.2.1.toNat)).2 (rls ZW Zg.ZZ q.1 (0 + q.2.2.1.toNat)).1 (fun i => List.take 2 (List.drop (i * 2) [.int .i64 p1.2.2, .int .i64 p2.2.2]))) _ _ _ (by decide) rfl rfl (fun j _ hj => by rw [ZaO hj]; rfl) (fun _ => by rw [Nat.beq_refl]; rfl) (fun j hj => UA hj) (fun j hj => R0 hj) (by simp) (fun i hi => Rg ZW (q.1.getD (0 + q.2.2.1.toNat) default).ZZ (⟨p1.2.2, p2.2.2⟩ : X8) (fun i => List.take 2 (List.drop (i * 2) [.int .i64 p1.2.2, .int .i64 p2.2.2])) rfl i hi)) (VE (.cons (UY (by simp)) (.cons Sub.rfl (.cons Sub.rfl (.cons Sub.rfl (.cons Sub.rfl (.cons Sub.rfl (.cons Sub.rfl (.cons Sub.rfl (.cons Sub.rfl .nil))))))))) HSub.rfl)) ?_
             refine rg0 [3, 4, 5, 14, 15, 16, 22, 23, 24] 4 ⟨82, [(3, .asl 2 0 (q.1.set (0 + q.2.2.1.toNat) (⟨(q.1.getD (0 + q.2.2.1.toNat) default).Zo, (q.1.getD (0 + q.2.2.1.toNat) default).XB, (q.1.getD (0 + q.2.2.1.toNat) default).ZZ ++ [(⟨p1.2.2, p2.2.2⟩ : X8)]⟩ : Zg)).length), (4, .val u), (5, .int .i64 p1.2.2), u1, (15, .int .i64 u2), (16, .int .i64 p1.2.2), (22, sL 12 Zj (a0.Zd.getD p1.2.2.toNat default).Zc), (23, .int .i64 ((a0.Zd.getD p1.2.2.toNat default).Zc.length : Int)), (24, .int .i64 (wr .i64 (p2.2.2 + 1)))], [.box u3, mpO u Z7 q.2.1, rA 4 hdDom (q.1.set (0 + q.2.2.1.toNat) (⟨(q.1.getD (0 + q.2.2.1.toNat) default).Zo, (q.1.getD (0 + q.2.2.1.toNat) default).XB, (q.1.getD (0 + q.2.2.1.toNat) default).ZZ ++ [(⟨p1.2.2, p2.2.2⟩ : X8)]⟩ : Zg)) (updV q.2.2.2 (0 + q.2.2.1.toNat) w), rF 2 ZW Zg.ZZ (q.1.set (0 + q.2.2.1.toNat) (⟨(q.1.getD (0 + q.2.2.1.toNat) default).Zo, (q.1.getD (0 + q.2.2.1.toNat) default).XB, (q.1.getD (0 + q.2.2.1.toNat) default).ZZ ++ [(⟨p1.2.2, p2.2.2⟩ : X8)]⟩ : Zg)) (updV q.2.2.2 (0 + q.2.2.1.toNat) w)]⟩ ?_
             obtain rfl := Option.some.inj h12
             exact Rj (updV q.2.2.2 (0 + q.2.2.1.toNat) w) Un
           · intro hk
             refine Za (rg0 [3, 4, 5, 7, 9, 10, 14, 15, 16, 22, 23, 24, 51] 6 ⟨82, [(3, .asl 2 0 p2.1.length), (4, .val u), (5, .int .i64 p1.2.2), (7, .int .i64 p2.2.2), (9, .ref 5 0), (10, .int .i64 (lkM (topoKeyEq (⟨r, ((a0.Zd.getD p1.2.2.toNat default).Zc.getD p2.2.2.toNat default).XB⟩ : Xa)) p2.2.1).1), u1, (15, .int .i64 u2), (16, .int .i64 p1.2.2), (22, sL 12 Zj (a0.Zd.getD p1.2.2.toNat default).Zc), (23, .int .i64 ((a0.Zd.getD p1.2.2.toNat default).Zc.length : Int)), (24, .int .i64 p2.2.2), (51, .bool (!(lkM (topoKeyEq (⟨r, ((a0.Zd.getD p1.2.2.toNat default).Zc.getD p2.2.2.toNat default).XB⟩ : Xa)) p2.2.1).2))], [.box u3, mpO u Z7 p2.2.1, rA 4 hdDom p2.1 v2, rF 2 ZW Zg.ZZ p2.1 v2, .box (Zj ((a0.Zd.getD p1.2.2.toNat default).Zc.getD p2.2.2.toNat default)), .box (Z7 (⟨r, ((a0.Zd.getD p1.2.2.toNat default).Zc.getD p2.2.2.toNat default).XB⟩ : Xa))]⟩ ?_)
             refine Zb ?_
             refine cnd (!(lkM (topoKeyEq (⟨r, ((a0.Zd.getD p1.2.2.toNat default).Zc.getD p2.2.2.toNat default).XB⟩ : Xa)) p2.2.1).2) (fun b4 => ?_) (fun b4 => ?_)
             · have h11 := UC b4 h10
               obtain ⟨c4, h12⟩ := Zy h11
               refine Za (rg0 [3, 4, 5, 7, 9, 10, 14, 15, 16, 22, 23, 24] 6 ⟨82, [(3, .asl 2 0 p2.1.length), (4, .val u), (5, .int .i64 p1.2.2), (7, .int .i64 p2.2.2), (9, .ref 5 0), (10, .int .i64 (p2.1.length : Int)), u1, (15, .int .i64 u2), (16, .int .i64 p1.2.2), (22, sL 12 Zj (a0.Zd.getD p1.2.2.toNat default).Zc), (23, .int .i64 ((a0.Zd.getD p1.2.2.toNat default).Zc.length : Int)), (24, .int .i64 p2.2.2)], [.box u3, mpO u Z7 p2.2.1, rA 4 hdDom p2.1 v2, rF 2 ZW Zg.ZZ p2.1 v2, .box (Zj ((a0.Zd.getD p1.2.2.toNat default).Zc.getD p2.2.2.toNat default)), .box (Z7 (⟨r, ((a0.Zd.getD p1.2.2.toNat default).Zc.getD p2.2.2.toNat default).XB⟩ : Xa))]⟩ ?_)
               refine Zb (Za ?_)
               refine rgo 3 [] [3, 4, 5, 7, 9, 10, 14, 15, 16, 22, 23, 24, 54, 55, 56] 6 ⟨82, [(3, .asl 2 0 p2.1.length), (4, .val u), (5, .int .i64 p1.2.2), (7, .int .i64 p2.2.2), (9, .ref 5 0), (10, .int .i64 (p2.1.length : Int)), (14, sL 25 Zp a0.Zd), (15, .int .i64 (a0.Zd.length : Int)), (16, .int .i64 p1.2.2), (22, sL 12 Zj (a0.Zd.getD p1.2.2.toNat default).Zc), (23, .int .i64 ((a0.Zd.getD p1.2.2.toNat default).Zc.length : Int)), (24, .int .i64 p2.2.2), (54, .val u), (55, .agg (Z7 (⟨r, ((a0.Zd.getD p1.2.2.toNat default).Zc.getD p2.2.2.toNat default).XB⟩ : Xa))), (56, .int .i64 (p2.1.length : Int))], [.box (XO a0), mpO u Z7 p2.2.1, rA 4 hdDom p2.1 v2, rF 2 ZW Zg.ZZ p2.1 v2, .box (Zj ((a0.Zd.getD p1.2.2.toNat default).Zc.getD p2.2.2.toNat default)), .box (Z7 (⟨r, ((a0.Zd.getD p1.2.2.toNat default).Zc.getD p2.2.2.toNat default).XB⟩ : Xa))]⟩ [] [] ZA trivial (fun _ : Unit => ⟨82, [(3, .asl 2 0 p2.1.length), (4, .val u), (5, .int .i64 p1.2.2), (7, .int .i64 p2.2.2), (9, .ref 5 0), (10, .int .i64 (p2.1.length : Int)), (14, sL 25 Zp a0.Zd), (15, .int .i64 (a0.Zd.length : Int)), (16, .int .i64 p1.2.2), (22, sL 12 Zj (a0.Zd.getD p1.2.2.toNat default).Zc), (23, .int .i64 ((a0.Zd.getD p1.2.2.toNat default).Zc.length : Int)), (24, .int .i64 p2.2.2), (54, .val u), (55, .agg (Z7 (⟨r, ((a0.Zd.getD p1.2.2.toNat default).Zc.getD p2.2.2.toNat default).XB⟩ : Xa))), (56, .int .i64 (p2.1.length : Int))], [.box (XO a0), mpO u Z7 (p2.2.1 ++ [((⟨r, ((a0.Zd.getD p1.2.2.toNat default).Zc.getD p2.2.2.toNat default).XB⟩ : Xa), (p2.1.length : Int))]), rA 4 hdDom p2.1 v2, rF 2 ZW Zg.ZZ p2.1 v2, .box (Zj ((a0.Zd.getD p1.2.2.toNat default).Zc.getD p2.2.2.toNat default)), .box (Z7 (⟨r, ((a0.Zd.getD p1.2.2.toNat default).Zc.getD p2.2.2.toNat default).XB⟩ : Xa))]⟩) (Zkn (id := 1) Zgp (⟨r, ((a0.Zd.getD p1.2.2.toNat default).Zc.getD p2.2.2.toNat default).XB⟩ : Xa) (p2.1.length : Int) rfl rfl rfl rfl rfl rfl rfl rfl (by simpa using b4)) [] [3, 4, 5, 7, 9, 10, 14, 15, 16, 22, 23, 24] 6 (fun _ => ⟨82, [(3, .asl 2 0 p2.1.length), (4, .val u), (5, .int .i64 p1.2.2), (7, .int .i64 p2.2.2), (9, .ref 5 0), (10, .int .i64 (p2.1.length : Int)), (14, sL 25 Zp a0.Zd), (15, .int .i64 (a0.Zd.length : Int)), (16, .int .i64 p1.2.2), (22, sL 12 Zj (a0.Zd.getD p1.2.2.toNat default).Zc), (23, .int .i64 ((a0.Zd.getD p1.2.2.toNat default).Zc.length : Int)), (24, .int .i64 p2.2.2)], [.box (XO a0), mpO u Z7 (p2.2.1 ++ [((⟨r, ((a0.Zd.getD p1.2.2.toNat default).Zc.getD p2.2.2.toNat default).XB⟩ : Xa), (p2.1.length : Int))]), rA 4 hdDom p2.1 v2, rF 2 ZW Zg.ZZ p2.1 v2, .box (Zj ((a0.Zd.getD p1.2.2.toNat default).Zc.getD p2.2.2.toNat default)), .box (Z7 (⟨r, ((a0.Zd.getD p1.2.2.toNat default).Zc.getD p2.2.2.toNat default).XB⟩ : Xa))]⟩) (fun _ => []) (fun _ => []) (fun _ => ZA) (fun _ => trivial) (fun _ => ?_)
               refine Zb ?_
               refine rgc [3, 4, 5, 7, 10, 14, 15, 16, 22, 23, 24] 4 ⟨82, [(3, .asl 2 0 (p2.1.length + 1)), (4, .val u), (5, .int .i64 p1.2.2), (7, .int .i64 p2.2.2), (10, .int .i64 (p2.1.length : Int)), u1, (15, .int .i64 u2), (16, .int .i64 p1.2.2), (22, sL 12 Zj (a0.Zd.getD p1.2.2.toNat default).Zc), (23, .int .i64 ((a0.Zd.getD p1.2.2.toNat default).Zc.length : Int)), (24, .int .i64 p2.2.2)], [.box u3, mpO u Z7 (p2.2.1 ++ [((⟨r, ((a0.Zd.getD p1.2.2.toNat default).Zc.getD p2.2.2.toNat default).XB⟩ : Xa), (p2.1.length : Int))]), .arr 4 (p2.1.length + 1) (app (fun j => hdDom (p2.1.getD j default) ++ [.val (v2 j)]) p2.1.length (fun i => List.take 4 (List.drop (i * 4) [.int .u32 r.Zs, .int .i64 r.ZR, .int .i64 ((a0.Zd.getD p1.2.2.toNat default).Zc.getD p2.2.2.toNat default).XB, .sl true 2 0 (fun _ => [])]))), rF 2 ZW Zg.ZZ p2.1 v2]⟩ [decide ((p2.1.length + 1) * 48 ≤ 140737488355328)] c4 ?_
               refine G7 (Zh1 2 3 hdDom ZW Zg.ZZ p2.1 (⟨r, ((a0.Zd.getD p1.2.2.toNat default).Zc.getD p2.2.2.toNat default).XB, []⟩ : Zg) v2 (by decide) rfl rfl rfl (fun j hj => Zdq hj) (Zju.trans rfl)) fun w => ?_
               exact V3 (VE (.cons (UY (by simp)) (.cons Sub.rfl (.cons Sub.rfl (.cons Sub.rfl (.cons Sub.rfl (.cons Sub.rfl (.cons Sub.rfl (.cons Sub.rfl (.cons Sub.rfl (.cons Sub.rfl (.cons Sub.rfl .nil))))))))))) HSub.rfl) (hk (p2.1 ++ [(⟨r, ((a0.Zd.getD p1.2.2.toNat default).Zc.getD p2.2.2.toNat default).XB, []⟩ : Zg)], (p2.2.1 ++ [((⟨r, ((a0.Zd.getD p1.2.2.toNat default).Zc.getD p2.2.2.toNat default).XB⟩ : Xa), (p2.1.length : Int))]), (p2.1.length : Int), updV v2 p2.1.length w.1) h12)
             · have h11 := UD b4 h10
               refine Ze ?_
               exact XP (Le.trans (s' := ⟨82, [(3, .asl 2 0 p2.1.length), (4, .val u), (5, .int .i64 p1.2.2), (7, .int .i64 p2.2.2), (10, .int .i64 (lkM (topoKeyEq (⟨r, ((a0.Zd.getD p1.2.2.toNat default).Zc.getD p2.2.2.toNat default).XB⟩ : Xa)) p2.2.1).1), u1, (15, .int .i64 u2), (16, .int .i64 p1.2.2), (22, sL 12 Zj (a0.Zd.getD p1.2.2.toNat default).Zc), (23, .int .i64 ((a0.Zd.getD p1.2.2.toNat default).Zc.length : Int)), (24, .int .i64 p2.2.2)], [.box u3, mpO u Z7 p2.2.1, rA 4 hdDom p2.1 v2, rF 2 ZW Zg.ZZ p2.1 v2, .box (Zj ((a0.Zd.getD p1.2.2.toNat default).Zc.getD p2.2.2.toNat default)), .box (Z7 (⟨r, ((a0.Zd.getD p1.2.2.toNat default).Zc.getD p2.2.2.toNat default).XB⟩ : Xa))]⟩) (kp [3, 4, 5, 7, 10, 14, 15, 16, 22, 23, 24]) (Uh (n := 4) (by kernel_rfl))) (hk (p2.1, p2.2.1, (lkM (topoKeyEq (⟨r, ((a0.Zd.getD p1.2.2.toNat default).Zc.getD p2.2.2.toNat default).XB⟩ : Xa)) p2.2.1).1, v2) h11)
       · have h7 := UD b2 h6
         refine ZV (XF ?_)
         obtain rfl := Option.some.inj h7
         exact Zbv ⟨rfl, LeE.of v2 (kp [3, 4, 14, 15, 16])⟩
     · intro e s o
       obtain ⟨rfl, l⟩ := o
       refine Qi (XX ?_)
       refine G7 l fun v2 => ?_
       refine rg0 [3, 4, 14, 15, 16] 4 ⟨82, [(3, .asl 2 0 y2.1.length), (4, .val u), u1, (15, .int .i64 u2), (16, .int .i64 (wr .i64 (p1.2.2 + 1)))], [.box u3, mpO u Z7 y2.2, rA 4 hdDom y2.1 v2, rF 2 ZW Zg.ZZ y2.1 v2]⟩ ?_
       obtain rfl := Option.some.inj h5
       exact Rj v2 Un
   · have h3 := UD b1 h2
     refine ZV (XF ?_)
     obtain rfl := Option.some.inj h3
     exact Zbv ⟨rfl, LeE.of (v1, p1.2.1) (kp [3])⟩
 · intro e s o
   obtain ⟨rfl, l⟩ := o
   refine Qi ?_
   refine G7 l fun g => ?_
   refine Za (rg0 [2] 4 ⟨82, [(2, .asl 2 0 y.length)], [.box u3, mpO u Z7 g.2, rA 4 hdDom y g.1, rF 2 ZW Zg.ZZ y g.1]⟩ ?_)
   refine Zb (Zh ?_)
   exact ⟨_, Zhx 2 3 hdDom ZW Zg.ZZ ZD y g.1 rfl rfl (fun _ => rfl), .inr rfl, 2, 2, _, rfl, rfl, rfl, fun _ _ => rfl⟩
theorem Gc (a0 : Int) (r : Bool) (h : M.YA a0 = some r) : Fn Tryz.prog 100 [.int .u32 a0] (.pure (.bool r)) := by
 unfold M.YA at h
 exact ZS Tryz.func100 rfl (by kernel_rfl) (Za (zg [0] 0 (Zb (Za (zg [2] 0 (Zb (Zh (er1 h))))))))
theorem KV (a0 : Int) (a1 : Int) (r : Int) (h : M.YI a0 a1 = some r) : Fn Tryz.prog 63 [.int .u32 a0, .int .u32 a1] (.pure (.int .i64 r)) := by
 unfold M.YI at h
 refine ZS Tryz.func63 rfl (by kernel_rfl) (Za (zg [0, 1] 0 (Zb (Za ?_))))
 obtain ⟨r1, q1, h2⟩ := bind_some h
 refine zr [0, 1, 5] 0 ZA (rq1 (Gc _ _ q1) rqn) (Zb (Za ?_))
 obtain ⟨r2, q3, h4⟩ := bind_some h2
 refine zr [0, 1, 5, 6] 0 ZA (rq1 (Gc _ _ q3) rqn) (Zb (Za (Za (zg [0, 1, 6, 11] 0 (Zb (cn h4 (fun _ h6 => ?_) (fun _ h7 => ?_)))))))
 refine Za (Za (zg [12] 0 (Zb (cn h6 (fun _ h9 => ?_) (fun _ h10 => ?_)))))
 exact Za (zg [4] 0 (Zb (Zh (Zk (Zk (er1 h9))))))
 exact Ze (Zb (Za (zg [4] 0 (Zb (Zh (Zk (er1 h10)))))))
 refine Ze (Zb (Za (Za (zg [0, 1, 13] 0 (Zb (cn h7 (fun _ h12 => ?_) (fun _ h13 => ?_)))))))
 exact Za (zg [4] 0 (Zb (Zh (Zk (er1 h12)))))
 refine Ze (Zb (Za (Za (zg [0, 1, 16] 0 (Zb (cn h13 (fun _ h15 => ?_) (fun _ h16 => ?_)))))))
 exact Za (zg [4] 0 (Zb (Zh (Zk (er1 h15)))))
 refine Ze (Zb (Za (Za (zg [19] 0 (Zb (cn h16 (fun _ h18 => ?_) (fun _ h19 => ?_)))))))
 exact Za (zg [4] 0 (Zb (Zh (Zk (er1 h18)))))
 exact Ze (Zb (Za (zg [4] 0 (Zb (Zh (er1 h19))))))
theorem Kj (a0 : Int) (r : Bool) (h : M.QJ a0 = some r) : Fn Tryz.prog 64 [.int .i64 a0] (.pure (.bool r)) := by
 unfold M.QJ at h
 exact ZS Tryz.func64 rfl (by kernel_rfl) (Za (zg [0] 0 (Zb (Za (zg [2] 0 (Zb (Zh (er1 h))))))))
theorem Gs (a0 : Int) (a1 : Int) (r : Int) (h : M.YO a0 a1 = some r) : Fn Tryz.prog 43 [.int .i64 a0, .int .i64 a1] (.pure (.int .i64 r)) := by
 unfold M.YO at h
 refine ZS Tryz.func43 rfl (by kernel_rfl) (Za (zg [0, 1] 0 (Zb (Za ?_))))
 obtain ⟨r1, q1, h2⟩ := bind_some h
 refine zr [0, 1, 5] 0 ZA (rq1 (Kj _ _ q1) rqn) (Zb (Za ?_))
 obtain ⟨r2, q3, h4⟩ := bind_some h2
 refine zr [0, 1, 5, 6] 0 ZA (rq1 (Kj _ _ q3) rqn) (Zb (Za (Za (zg [0, 1, 6, 11] 0 (Zb (cn h4 (fun _ h6 => ?_) (fun _ h7 => ?_)))))))
 refine Za (Za (zg [12] 0 (Zb (cn h6 (fun _ h9 => ?_) (fun _ h10 => ?_)))))
 exact Za (zg [4] 0 (Zb (Zh (Zk (Zk (er1 h9))))))
 exact Ze (Zb (Za (zg [4] 0 (Zb (Zh (Zk (er1 h10)))))))
 refine Ze (Zb (Za (Za (zg [0, 1, 13] 0 (Zb (cn h7 (fun _ h12 => ?_) (fun _ h13 => ?_)))))))
 exact Za (zg [4] 0 (Zb (Zh (Zk (er1 h12)))))
 refine Ze (Zb (Za (Za (zg [0, 1, 16] 0 (Zb (cn h13 (fun _ h15 => ?_) (fun _ h16 => ?_)))))))
 exact Za (zg [4] 0 (Zb (Zh (Zk (er1 h15)))))
 refine Ze (Zb (Za (Za (zg [19] 0 (Zb (cn h16 (fun _ h18 => ?_) (fun _ h19 => ?_)))))))
 exact Za (zg [4] 0 (Zb (Zh (Zk (er1 h18)))))
 exact Ze (Zb (Za (zg [4] 0 (Zb (Zh (er1 h19))))))
theorem Zc2 (a0 : ZX) (a1 : ZX) (r : Int) (h : M.J8 a0 a1 = some r) : Fn Tryz.prog 42 [.agg (Xg a0), .agg (Xg a1)] (.pure (.int .i64 r)) := by
 unfold M.J8 at h
 refine ZS Tryz.func42 rfl (by kernel_rfl) (Za (zg [2, 3] 2 (Zb (Za (Za ?_)))))
 obtain ⟨r1, q1, h2⟩ := bind_some h
 refine zr [2, 3, 5] 2 ZA (rq1 (KV _ _ _ q1) rqn) (Zb (Za (zg [2, 3, 5, 12] 2 (Zb (cn h2 (fun _ h4 => ?_) (fun _ h5 => ?_))))))
 exact Za (zg [4] 0 (Zb (Zh (Zk (er1 h4)))))
 refine Ze (Zb (Za ?_))
 obtain ⟨r2, q6, h7⟩ := bind_some h5
 exact zr [4] 0 ZA (rq1 (Gs _ _ _ q6) rqn) (Zb (Zh (er1 h7)))
theorem Zev (a0 : List Int) (r : Int) (h : M.VY a0 = some r) : Fn Tryz.prog 41 [sL 1 (ci .i64) a0] (.pure (.int .i64 r)) := by
 unfold M.VY at h
 refine ZS Tryz.func41 rfl (by kernel_rfl) (Za (zg [0] 0 (Zb (Za (zg [0, 3] 0 (Zb (Za (Za (zg [3, 6, 7, 8] 0 (Zb (Zi ?_)))))))))))
 obtain ⟨y3, q10, h11⟩ := bind_some h
 refine zl (fun (p1 : Int) => ⟨18, [(3, .int .i64 0), (6, sL 1 (ci .i64) a0), (7, .int .i64 (a0.length : Int)), (8, .int .i64 p1)], []⟩) (Sum.elim (fun z => OutE 0 (fun z => ⟨18, [(3, .int .i64 0)], []⟩) z) (fun z => OutR Tryz.prog Tryz.f41 (.int .i64 z))) q10 ?_ ?_
 intro p1 y2 h1
 unfold M.Qo at h1
 refine Za (zg [3, 6, 7, 8, 9] 0 (Zb (Za (cn h1 (fun _ h3 => ?_) (fun _ h4 => ?_)))))
 refine Ze (Zb (Za (Zi (Za ?_))))
 obtain ⟨c5, h6⟩ := Zy h3
 refine zc [3, 5, 6, 7, 8] 0 c5 (Zb (Za (zg [3, 5, 6, 7, 8, 14] 0 (Zb (cn h6 (fun _ h8 => ?_) (fun _ h9 => ?_))))))
 exact Za (zg [2] 0 (Zb (Zh (Xb (Zk (rr h8 ⟨rfl, er0 _⟩))))))
 exact Ze (XX (Zb (zg [3, 6, 7, 8] 0 (rn h9))))
 exact ZV (XF (re h4 ⟨rfl, kq⟩))
 intro e12 s13 o14
 rcases y3 with g4 | y5
 have h15 := X9 h11
 exact zi o14 (Za (zg [2] 0 (Zb (Zh (er1 h15)))))
 have h16 := Ya h11
 obtain ⟨rfl, n18⟩ := o14
 refine Xb (Zk ?_)
 obtain rfl := Option.some.inj h16
 exact n18
theorem Zc3 (a0 : Zg) (a1 : Zg) (r : Int) (h : M.JJ a0 a1 = some r) : Fn Tryz.prog 40 [.agg (ZD a0), .agg (ZD a1)] (.pure (.int .i64 r)) := by
 unfold M.JJ at h
 refine ZS Tryz.func40 rfl (by kernel_rfl) (Za (zg [2, 3] 2 (Zb (Za ?_))))
 obtain ⟨r1, q1, h2⟩ := bind_some h
 obtain ⟨r2, q3, h4⟩ := bind_some h2
 obtain ⟨r3, q5, h6⟩ := bind_some h4
 exact rg [.pure (.int .i64 r1), .pure (.int .i64 r2), .pure (.int .i64 r3)] [4] 0 ⟨17, [(4, .int .i64 r3)], []⟩ [] [⟨true, 42, [.agg (Xg a0.Zo), .agg (Xg a1.Zo)], .pure (.int .i64 r1)⟩, ⟨true, 43, [.int .i64 a0.XB, .int .i64 a1.XB], .pure (.int .i64 r2)⟩, ⟨true, 41, [.sl false 1 2 (fun i => List.take 1 (List.drop (i * 1) [.int .i64 r1, .int .i64 r2]))], .pure (.int .i64 r3)⟩] ZA ⟨fun _ => Zc2 a0.Zo a1.Zo r1 q1, fun _ => Gs a0.XB a1.XB r2 q3, fun _ => (Zev ([r1, r2] : List Int) r3 q5).args (.cons (Zhl rfl (fun i hi => match i, hi with | 0, _ => rfl | 1, _ => rfl | n + 2, h => absurd h (by omega))) .nil), trivial⟩ (Zb (Zh (er1 h6)))
end Nv
namespace Go.Proofs
open Go.Shelf
shelf_lay_g SlLaysF0.n6 Slsf 6 at Tryz 39 as Tryz.sortL39
end Go.Proofs
namespace Nv
open Go Go.Proofs
theorem VA (a0 : List Zg) (r : List Zg) (h : M.XA a0 = some r) : FnM Tryz.prog 39 [.asl 0 0 a0.length, .fn 40 []] 4 a0.length (fun i => ZD (a0.getD i default)) (fun i => ZD (r.getD i default)) (.tup []) := by
 obtain ⟨cf, h1, h2, h3, h4, rfl⟩ := ZgW h
 exact sortFR0 Tryz.sortL39 4 (fun w => by kernel_rfl) (fun w => by kernel_rfl) ZD (fun _ => rfl) (fun _ => rfl) h2 40 (enters_of Tryz.func40 (by kernel_rfl) rfl) (fun x y => Zc3 x y _ (h1 x y)) a0 h3 h4
theorem Zew (a0 : Zw) (r : Qs × Int) (h : M.WJ a0 = some r) : Fn Tryz.prog 12 [.agg (XO a0)] (.pure (.tup [.agg (GI r.1), .int .i64 r.2])) := by
 let u3 := XO a0
 unfold M.WJ at h
 refine ZS Tryz.func12 rfl (by kernel_rfl) (Za (zg [1, 2] 2 (Zb (Za (Za ?_)))))
 obtain ⟨r1, q1, h2⟩ := bind_some h
 refine zr [1, 2, 4] 2 ZA (rq1 (Zed _ _ q1) rqn) (Zb (Za (zg [1, 2, 4, 12] 2 (Zb (cn h2 (fun _ h4 => ?_) (fun _ h5 => ?_))))))
 refine Za ?_
 cases h4
 refine Ze (Zb (Za ?_))
 obtain ⟨r2, q6, h7⟩ := bind_some h5
 refine rg [oL 4 ZD r2] [2, 5] 3 ⟨45, [(2, .ref 1 0), (5, .asl 2 0 r2.length)], [.box u3, .box [.sl true 4 0 (fun _ => []), .sl true 1 0 (fun _ => [])], aL 4 ZD r2]⟩ [] [⟨true, 38, [.agg u3], oL 4 ZD r2⟩] ZA ⟨fun _ => Zcu a0 r2 q6, trivial⟩ (Zb (Za ?_))
 obtain ⟨r3, q8, h9⟩ := bind_some h7
 let u1 : List Ob := [.box u3, .box [.sl true 4 0 (fun _ => []), .sl true 1 0 (fun _ => [])], aL 4 ZD ([] : List Zg), .box [sL 4 ZD r3, .sl true 1 0 (fun _ => [])]]
 let u4 : Nat × D := (21, sL 4 ZD r3)
 let u5 := (r3.length : Int)
 obtain ⟨c10, h11⟩ := Zy h9
 refine rg [.lnd 0 0 (fun _ => []) (fun i => ZD (r3.getD i default)) (.tup [])] [2, 5] 3 ⟨45, [(2, .ref 1 0), (5, .asl 2 0 r2.length)], [.box u3, .box [.sl true 4 0 (fun _ => []), .sl true 1 0 (fun _ => [])], .arr 4 r2.length (fun i => ZD (r3.getD i default))]⟩ [] [⟨true, 39, [.asl 0 0 r2.length, .fn 40 []], .lnd 4 r2.length (fun i => ZD (r2.getD i default)) (fun i => ZD (r3.getD i default)) (.tup [])⟩] ZA ⟨fun _ => VA r2 r3 q8, trivial⟩ (XP (s' := ⟨45, [(2, .ref 1 0), (5, .asl 2 0 r3.length)], [.box u3, .box [.sl true 4 0 (fun _ => []), .sl true 1 0 (fun _ => [])], aL 4 ZD r3]⟩) (VE (.cons Sub.rfl (.cons (UY (ZiZ (c10 _ List.mem_cons_self))) .nil)) (.cons .rfl (.cons .rfl (.cons (.arr (ZiZ (c10 _ List.mem_cons_self)) (fun _ _ => rfl)) .nil)))) (Za (V3 (s' := ⟨45, [(2, .ref 1 0), (5, sL 4 ZD r3)], [.box u3, .box [.sl true 4 0 (fun _ => []), .sl true 1 0 (fun _ => [])], aL 4 ZD ([] : List Zg)]⟩) (Le.trans (Zi4 5 2 4 ZD r3 (fun i => ZD (([] : List Zg).getD i default)) (by kernel_rfl) (by kernel_rfl) (by kernel_rfl)) (kp [2, 5])) (zg [2, 5, 6] 4 (Zb (Za (Za (rg0 [2, 6, 21, 22, 23] 4 ⟨45, [(2, .ref 1 0), (6, .ref 3 0), u4, (22, .int .i64 u5), (23, .int .i64 0)], u1⟩ (Zb (Zi (V3 (s' := ⟨45, [(2, .ref 1 0), (6, .ref 3 0), u4, (22, .int .i64 u5), (23, .int .i64 0)], u1⟩) (Un) (V3 (s' := ⟨45, [(2, .ref 1 0), (6, .ref 3 0), u4, (22, .int .i64 u5), (23, .int .i64 0)], [.box u3, .box [.sl true 4 0 (fun _ => []), .sl true 1 0 (fun _ => [])], aL 4 ZD ([] : List Zg), .box [sL 4 ZD r3, .asl 4 0 (([] : List Int).length)], aL 1 (ci .i64) ([] : List Int)]⟩) (Zd1 (nt := 45) (e := [(2, .ref 1 0), (6, .ref 3 0), u4, (22, .int .i64 u5), (23, .int .i64 0)]) (H := u1) (cells := [sL 4 ZD r3, .sl true 1 0 (fun _ => [])]) (wd := 1) (f := fun _ => []) 3 1 rfl rfl 1 (fun i => (ci .i64) (([] : List Int).getD i default))) ?_))))))))))))
 obtain ⟨y8, q28, h29⟩ := bind_some h11
 let u2 : List (Nat × D) := [(2, .ref 1 0), (6, .ref 3 0), (42, .bool (decide ((y8.length : Int) > 12)))]
 refine zl (fun (p5 : (List Int) × Int) => ⟨45, [(2, .ref 1 0), (6, .ref 3 0), u4, (22, .int .i64 u5), (23, .int .i64 p5.2)], [.box u3, .box [.sl true 4 0 (fun _ => []), .sl true 1 0 (fun _ => [])], aL 4 ZD ([] : List Zg), .box [sL 4 ZD r3, .asl 4 0 p5.1.length], aL 1 (ci .i64) p5.1]⟩) (fun z => OutE 0 (fun z => ⟨45, [(2, .ref 1 0), (6, .ref 3 0)], [.box u3, .box [.sl true 4 0 (fun _ => []), .sl true 1 0 (fun _ => [])], aL 4 ZD ([] : List Zg), .box [sL 4 ZD r3, .asl 4 0 z.length], aL 1 (ci .i64) z]⟩) z) q28 ?_ ?_
 intro p5 y6 h15
 let u6 := p5.1.length + 1
 unfold M.VL at h15
 refine Za (rg0 [2, 6, 21, 22, 23, 24] 5 ⟨45, [(2, .ref 1 0), (6, .ref 3 0), u4, (22, .int .i64 u5), (23, .int .i64 p5.2), (24, .bool (decide (p5.2 < u5)))], [.box u3, .box [.sl true 4 0 (fun _ => []), .sl true 1 0 (fun _ => [])], aL 4 ZD ([] : List Zg), .box [sL 4 ZD r3, .asl 4 0 p5.1.length], aL 1 (ci .i64) p5.1]⟩ (Zb (Za (cn h15 (fun _ h17 => ?_) (fun _ h18 => ?_)))))
 refine Ze (Zb (WT (fun (p7 : (List Int)) => ⟨45, [(2, .ref 1 0), (6, .ref 3 0), u4, (22, .int .i64 u5), (23, .int .i64 p5.2)], [.box u3, .box [.sl true 4 0 (fun _ => []), .sl true 1 0 (fun _ => [])], aL 4 ZD ([] : List Zg), .box [sL 4 ZD r3, .asl 4 0 p7.length], aL 1 (ci .i64) p7]⟩) (fun p7 => M.Jw p5 p7 = some y6) ?_ ?_))
 intro p7 h20
 unfold M.Jw at h20
 exact zg [2, 6, 21, 22, 23] 5 (rn h20)
 intro k19
 refine Zi (Za ?_)
 obtain ⟨c21, h22⟩ := Zy h17
 refine zc [2, 6, 7, 8, 21, 22, 23] 6 c21 (Zb (Za (zg [2, 6, 7, 21, 22, 23, 31] 5 (Zb (cn h22 (fun _ h24 => ?_) (fun _ h25 => ?_))))))
 obtain ⟨c26, h27⟩ := Zy h24
 exact rgc [2, 6, 21, 22, 23] 5 ⟨45, [(2, .ref 1 0), (6, .ref 3 0), u4, (22, .int .i64 u5), (23, .int .i64 p5.2)], [.box u3, .box [.sl true 4 0 (fun _ => []), .sl true 1 0 (fun _ => [])], aL 4 ZD ([] : List Zg), .box [sL 4 ZD r3, .asl 4 0 u6], .arr 1 u6 (app (fun i => (ci .i64) (p5.1.getD i default)) p5.1.length (fun i => List.take 1 (List.drop (i * 1) [.int .i64 p5.2])))]⟩ [decide (u6 * 8 ≤ 140737488355328)] c26 (XX (XP (VE (.cons Sub.rfl (.cons Sub.rfl (.cons Sub.rfl (.cons Sub.rfl (.cons Sub.rfl .nil))))) (.cons .rfl (.cons .rfl (.cons .rfl (.cons (.box (.cons CSub.rfl (.cons (Zbx (G6 _ _)) .nil))) (.cons (.arr (G6 _ _) (Rg (ci .i64) p5.1 p5.2 _ rfl)) .nil)))))) (k19 (p5.1 ++ [p5.2]) h27)))
 exact Ze (XX (XP kq (k19 p5.1 h25)))
 exact ZV (XF (re h18 ⟨rfl, kq⟩))
 intro e30 s31 o32
 refine zi o32 (Za (Za (rg0 [2, 6, 42] 5 ⟨45, u2, [.box u3, .box [.sl true 4 0 (fun _ => []), .sl true 1 0 (fun _ => [])], aL 4 ZD ([] : List Zg), .box [sL 4 ZD r3, .asl 4 0 y8.length], aL 1 (ci .i64) y8]⟩ (Zb (cn h29 (fun _ h35 => ?_) (fun _ h36 => ?_))))))
 refine Za ?_
 cases h35
 refine Ze (Zb (Za (V3 (s' := ⟨45, u2, [.box u3, .box [.sl true 4 0 (fun _ => []), .sl true 1 0 (fun _ => [])], aL 4 ZD ([] : List Zg), .box [sL 4 ZD r3, .sl false 1 y8.length (fun k => (fun i => (ci .i64) (y8.getD i default)) (0 + k))], aL 1 (ci .i64) ([] : List Int)]⟩) (Le.trans ((Rh (s := ⟨45, u2, [.box u3, .box [.sl true 4 0 (fun _ => []), .sl true 1 0 (fun _ => [])], aL 4 ZD ([] : List Zg), .box [sL 4 ZD r3, .asl 4 0 y8.length], aL 1 (ci .i64) y8]⟩) (s' := ⟨45, u2, [.box u3, .box [.sl true 4 0 (fun _ => []), .sl true 1 0 (fun _ => [])], aL 4 ZD ([] : List Zg), .box [sL 4 ZD r3, .sl false 1 y8.length (fun k => (fun i => (ci .i64) (y8.getD i default)) (0 + k))], aL 1 (ci .i64) ([] : List Int)]⟩) 4 1 y8.length (fun i => (ci .i64) (y8.getD i default)) (fun i => (ci .i64) (([] : List Int).getD i default)) (by kernel_rfl) (by kernel_rfl) (by kernel_rfl))) (kp [2, 6, 42])) (rg0 [2, 3] 2 ⟨45, [(2, .ref 1 0), (3, .int .i64 0)], [.box u3, .box [sL 4 ZD r3, .sl false 1 y8.length (fun k => (fun i => (ci .i64) (y8.getD i default)) (0 + k))]]⟩ (XP (s' := ⟨45, [(2, .ref 1 0), (3, .int .i64 0)], [.box u3, .box [sL 4 ZD r3, sL 1 (ci .i64) y8]]⟩) (VE (.cons Sub.rfl (.cons Sub.rfl .nil)) (.cons .rfl (.cons (.box (.cons CSub.rfl (.cons (UX rfl (GG (f := fun i => (ci .i64) (y8.getD i default)) (fun _ _ => rfl))) .nil))) .nil))) (Zh ?_))))))
 obtain rfl := Option.some.inj h36
 exact er0 (.tup [.agg [sL 4 ZD r3, sL 1 (ci .i64) y8], .int .i64 0])
theorem Ua (a0 : List Zf) (r : List Zf) (h : M.XJ a0 = some r) : Fn Tryz.prog 68 [sL 25 Zp a0] (oL 25 Zp r) := by
 unfold M.XJ at h
 obtain ⟨hc, h1⟩ := Zy h
 obtain rfl := Option.some.inj h1
 refine Zcg Tryz.func68 rfl (by kernel_rfl) (Ur ?_)
 refine Za (rg0 [0] 0 ⟨8, [(0, sL 25 Zp a0)], []⟩ ?_)
 refine Zb (Za (Za (rg0 [0, 4] 0 ⟨8, [(0, sL 25 Zp a0), (4, .nilq a0.length)], []⟩ ?_)))
 refine Zb (nq a0.length (fun hz => ?_) ?_)
 refine Za (rg0 [2] 0 ⟨8, [(2, .sl true 25 0 (fun _ => []))], []⟩ ?_)
 refine Zb (Zh (Zk ?_))
 obtain rfl := List.eq_nil_of_length_eq_zero hz
 exact ⟨_, Kn (wd := 25) (f := fun _ => []) 2 (by kernel_rfl) 25 (fun i => Zp (([] : List Zf).getD i default)), .inr rfl, 2, 0, _, rfl, rfl, rfl, fun _ _ => rfl⟩
 refine Ze (Zb (Za (rgc [2] 1 ⟨8, [(2, .asl 0 0 (0 + a0.length))], [.arr 25 (0 + a0.length) (app (fun i => List.take 25 (List.drop (i * 25) [])) 0 (fun i => Zp (a0.getD i default)))]⟩ [decide (0 = 0) || decide (0 < a0.length), decide ((0 + a0.length) * 448 ≤ 140737488355328)] hc ?_)))
 refine Zb (Zh ?_)
 exact ⟨⟨8, [(2, .asl 0 0 a0.length)], [aL 25 Zp a0]⟩, VE (.cons (UY (Nat.zero_add _)) .nil) (.cons (.arr (Nat.zero_add _) (WG Zp _ a0 _ (fun _ _ => rfl))) .nil), .inr rfl, 2, 0, _, rfl, rfl, rfl, fun _ _ => rfl⟩
theorem WA (a0 : List Zl) (r : List Zl) (h : M.Xm a0 = some r) : Fn Tryz.prog 113 [sL 12 Zj a0] (oL 12 Zj r) := by
 unfold M.Xm at h
 obtain ⟨hc, h1⟩ := Zy h
 obtain rfl := Option.some.inj h1
 refine Zcg Tryz.func113 rfl (by kernel_rfl) (Ur ?_)
 refine Za (rg0 [0] 0 ⟨8, [(0, sL 12 Zj a0)], []⟩ ?_)
 refine Zb (Za (Za (rg0 [0, 4] 0 ⟨8, [(0, sL 12 Zj a0), (4, .nilq a0.length)], []⟩ ?_)))
 refine Zb (nq a0.length (fun hz => ?_) ?_)
 refine Za (rg0 [2] 0 ⟨8, [(2, .sl true 12 0 (fun _ => []))], []⟩ ?_)
 refine Zb (Zh (Zk ?_))
 obtain rfl := List.eq_nil_of_length_eq_zero hz
 exact ⟨_, Kn (wd := 12) (f := fun _ => []) 2 (by kernel_rfl) 12 (fun i => Zj (([] : List Zl).getD i default)), .inr rfl, 2, 0, _, rfl, rfl, rfl, fun _ _ => rfl⟩
 refine Ze (Zb (Za (rgc [2] 1 ⟨8, [(2, .asl 0 0 (0 + a0.length))], [.arr 12 (0 + a0.length) (app (fun i => List.take 12 (List.drop (i * 12) [])) 0 (fun i => Zj (a0.getD i default)))]⟩ [decide (0 = 0) || decide (0 < a0.length), decide ((0 + a0.length) * 112 ≤ 140737488355328)] hc ?_)))
 refine Zb (Zh ?_)
 exact ⟨⟨8, [(2, .asl 0 0 a0.length)], [aL 12 Zj a0]⟩, VE (.cons (UY (Nat.zero_add _)) .nil) (.cons (.arr (Nat.zero_add _) (WG Zj _ a0 _ (fun _ _ => rfl))) .nil), .inr rfl, 2, 0, _, rfl, rfl, rfl, fun _ _ => rfl⟩
theorem Wi (a0 : List Z2) (r : List Z2) (h : M.Xh a0 = some r) : Fn Tryz.prog 114 [sL 2 Zu a0] (oL 2 Zu r) := by
 unfold M.Xh at h
 obtain ⟨hc, h1⟩ := Zy h
 obtain rfl := Option.some.inj h1
 refine Zcg Tryz.func114 rfl (by kernel_rfl) (Ur ?_)
 refine Za (rg0 [0] 0 ⟨8, [(0, sL 2 Zu a0)], []⟩ ?_)
 refine Zb (Za (Za (rg0 [0, 4] 0 ⟨8, [(0, sL 2 Zu a0), (4, .nilq a0.length)], []⟩ ?_)))
 refine Zb (nq a0.length (fun hz => ?_) ?_)
 refine Za (rg0 [2] 0 ⟨8, [(2, .sl true 2 0 (fun _ => []))], []⟩ ?_)
 refine Zb (Zh (Zk ?_))
 obtain rfl := List.eq_nil_of_length_eq_zero hz
 exact ⟨_, Kn (wd := 2) (f := fun _ => []) 2 (by kernel_rfl) 2 (fun i => Zu (([] : List Z2).getD i default)), .inr rfl, 2, 0, _, rfl, rfl, rfl, fun _ _ => rfl⟩
 refine Ze (Zb (Za (rgc [2] 1 ⟨8, [(2, .asl 0 0 (0 + a0.length))], [.arr 2 (0 + a0.length) (app (fun i => List.take 2 (List.drop (i * 2) [])) 0 (fun i => Zu (a0.getD i default)))]⟩ [decide (0 = 0) || decide (0 < a0.length), decide ((0 + a0.length) * 40 ≤ 140737488355328)] hc ?_)))
 refine Zb (Zh ?_)
 exact ⟨⟨8, [(2, .asl 0 0 a0.length)], [aL 2 Zu a0]⟩, VE (.cons (UY (Nat.zero_add _)) .nil) (.cons (.arr (Nat.zero_add _) (WG Zu _ a0 _ (fun _ _ => rfl))) .nil), .inr rfl, 2, 0, _, rfl, rfl, rfl, fun _ _ => rfl⟩
theorem WP (a0 : List X6) (r : List X6) (h : M.Xt a0 = some r) : Fn Tryz.prog 116 [sL 2 ZY a0] (oL 2 ZY r) := by
 unfold M.Xt at h
 obtain ⟨hc, h1⟩ := Zy h
 obtain rfl := Option.some.inj h1
 refine Zcg Tryz.func116 rfl (by kernel_rfl) (Ur ?_)
 refine Za (rg0 [0] 0 ⟨8, [(0, sL 2 ZY a0)], []⟩ ?_)
 refine Zb (Za (Za (rg0 [0, 4] 0 ⟨8, [(0, sL 2 ZY a0), (4, .nilq a0.length)], []⟩ ?_)))
 refine Zb (nq a0.length (fun hz => ?_) ?_)
 refine Za (rg0 [2] 0 ⟨8, [(2, .sl true 2 0 (fun _ => []))], []⟩ ?_)
 refine Zb (Zh (Zk ?_))
 obtain rfl := List.eq_nil_of_length_eq_zero hz
 exact ⟨_, Kn (wd := 2) (f := fun _ => []) 2 (by kernel_rfl) 2 (fun i => ZY (([] : List X6).getD i default)), .inr rfl, 2, 0, _, rfl, rfl, rfl, fun _ _ => rfl⟩
 refine Ze (Zb (Za (rgc [2] 1 ⟨8, [(2, .asl 0 0 (0 + a0.length))], [.arr 2 (0 + a0.length) (app (fun i => List.take 2 (List.drop (i * 2) [])) 0 (fun i => ZY (a0.getD i default)))]⟩ [decide (0 = 0) || decide (0 < a0.length), decide ((0 + a0.length) * 40 ≤ 140737488355328)] hc ?_)))
 refine Zb (Zh ?_)
 exact ⟨⟨8, [(2, .asl 0 0 a0.length)], [aL 2 ZY a0]⟩, VE (.cons (UY (Nat.zero_add _)) .nil) (.cons (.arr (Nat.zero_add _) (WG ZY _ a0 _ (fun _ _ => rfl))) .nil), .inr rfl, 2, 0, _, rfl, rfl, rfl, fun _ _ => rfl⟩
theorem UK (a0 : List WV) (r : List WV) (h : M.X0 a0 = some r) : Fn Tryz.prog 118 [sL 2 Ys a0] (oL 2 Ys r) := by
 unfold M.X0 at h
 obtain ⟨hc, h1⟩ := Zy h
 obtain rfl := Option.some.inj h1
 refine Zcg Tryz.func118 rfl (by kernel_rfl) (Ur ?_)
 refine Za (rg0 [0] 0 ⟨8, [(0, sL 2 Ys a0)], []⟩ ?_)
 refine Zb (Za (Za (rg0 [0, 4] 0 ⟨8, [(0, sL 2 Ys a0), (4, .nilq a0.length)], []⟩ ?_)))
 refine Zb (nq a0.length (fun hz => ?_) ?_)
 refine Za (rg0 [2] 0 ⟨8, [(2, .sl true 2 0 (fun _ => []))], []⟩ ?_)
 refine Zb (Zh (Zk ?_))
 obtain rfl := List.eq_nil_of_length_eq_zero hz
 exact ⟨_, Kn (wd := 2) (f := fun _ => []) 2 (by kernel_rfl) 2 (fun i => Ys (([] : List WV).getD i default)), .inr rfl, 2, 0, _, rfl, rfl, rfl, fun _ _ => rfl⟩
 refine Ze (Zb (Za (rgc [2] 1 ⟨8, [(2, .asl 0 0 (0 + a0.length))], [.arr 2 (0 + a0.length) (app (fun i => List.take 2 (List.drop (i * 2) [])) 0 (fun i => Ys (a0.getD i default)))]⟩ [decide (0 = 0) || decide (0 < a0.length), decide ((0 + a0.length) * 40 ≤ 140737488355328)] hc ?_)))
 refine Zb (Zh ?_)
 exact ⟨⟨8, [(2, .asl 0 0 a0.length)], [aL 2 Ys a0]⟩, VE (.cons (UY (Nat.zero_add _)) .nil) (.cons (.arr (Nat.zero_add _) (WG Ys _ a0 _ (fun _ _ => rfl))) .nil), .inr rfl, 2, 0, _, rfl, rfl, rfl, fun _ _ => rfl⟩
theorem V9 (a0 : List YR) (r : List YR) (h : M.Xe a0 = some r) : Fn Tryz.prog 120 [sL 9 Z3 a0] (.pure (sL 9 Z3 r)) := by
 unfold M.Xe at h
 obtain ⟨hc, h1⟩ := Zy h
 obtain rfl := Option.some.inj h1
 refine ZS Tryz.func120 rfl (by kernel_rfl) (Za (zg [0] 0 (Zb (Za (Za (zg [0, 4] 0 (Zb (nq a0.length (fun hz => ?_) ?_))))))))
 exact Za (zg [2] 0 (Zb (Zh (Zk (er (.sl false 9 0 (fun _ => [])) (UE hz))))))
 exact Ze (Zb (Za (zc [2] 1 hc (Zb (Zh (er (.sl false 9 (0 + a0.length) (fun i => (app (fun i => List.take 9 (List.drop (i * 9) [])) 0 (fun i => Z3 (a0.getD i default))) (0 + i))) (UR (Nat.zero_add _) (fun i hi => by rw [Nat.zero_add]; exact WG Z3 _ a0 _ (fun _ _ => rfl) i hi))))))))
theorem Wa (a0 : List YS) (r : List YS) (h : M.Xf a0 = some r) : Fn Tryz.prog 121 [sL 7 Xc a0] (.pure (sL 7 Xc r)) := by
 unfold M.Xf at h
 obtain ⟨hc, h1⟩ := Zy h
 obtain rfl := Option.some.inj h1
 refine ZS Tryz.func121 rfl (by kernel_rfl) (Za (zg [0] 0 (Zb (Za (Za (zg [0, 4] 0 (Zb (nq a0.length (fun hz => ?_) ?_))))))))
 exact Za (zg [2] 0 (Zb (Zh (Zk (er (.sl false 7 0 (fun _ => [])) (UE hz))))))
 exact Ze (Zb (Za (zc [2] 1 hc (Zb (Zh (er (.sl false 7 (0 + a0.length) (fun i => (app (fun i => List.take 7 (List.drop (i * 7) [])) 0 (fun i => Xc (a0.getD i default))) (0 + i))) (UR (Nat.zero_add _) (fun i hi => by rw [Nat.zero_add]; exact WG Xc _ a0 _ (fun _ _ => rfl) i hi))))))))
theorem WC (a0 : List J0) (r : List J0) (h : M.Xn a0 = some r) : Fn Tryz.prog 122 [sL 3 Xx a0] (.pure (sL 3 Xx r)) := by
 unfold M.Xn at h
 obtain ⟨hc, h1⟩ := Zy h
 obtain rfl := Option.some.inj h1
 refine ZS Tryz.func122 rfl (by kernel_rfl) (Za (zg [0] 0 (Zb (Za (Za (zg [0, 4] 0 (Zb (nq a0.length (fun hz => ?_) ?_))))))))
 exact Za (zg [2] 0 (Zb (Zh (Zk (er (.sl false 3 0 (fun _ => [])) (UE hz))))))
 exact Ze (Zb (Za (zc [2] 1 hc (Zb (Zh (er (.sl false 3 (0 + a0.length) (fun i => (app (fun i => List.take 3 (List.drop (i * 3) [])) 0 (fun i => Xx (a0.getD i default))) (0 + i))) (UR (Nat.zero_add _) (fun i hi => by rw [Nat.zero_add]; exact WG Xx _ a0 _ (fun _ _ => rfl) i hi))))))))
theorem Jn (a0 : List YJ) (r : List YJ) (h : M.Z8 a0 = some r) : Fn Tryz.prog 123 [sL 5 Zx a0] (.pure (sL 5 Zx r)) := by
 unfold M.Z8 at h
 obtain ⟨hc, h1⟩ := Zy h
 obtain rfl := Option.some.inj h1
 refine ZS Tryz.func123 rfl (by kernel_rfl) (Za (zg [0] 0 (Zb (Za (Za (zg [0, 4] 0 (Zb (nq a0.length (fun hz => ?_) ?_))))))))
 exact Za (zg [2] 0 (Zb (Zh (Zk (er (.sl false 5 0 (fun _ => [])) (UE hz))))))
 exact Ze (Zb (Za (zc [2] 1 hc (Zb (Zh (er (.sl false 5 (0 + a0.length) (fun i => (app (fun i => List.take 5 (List.drop (i * 5) [])) 0 (fun i => Zx (a0.getD i default))) (0 + i))) (UR (Nat.zero_add _) (fun i hi => by rw [Nat.zero_add]; exact WG Zx _ a0 _ (fun _ _ => rfl) i hi))))))))
theorem WW (a0 : List Jt) (r : List Jt) (h : M.Xu a0 = some r) : Fn Tryz.prog 124 [sL 4 XI a0] (.pure (sL 4 XI r)) := by
 unfold M.Xu at h
 obtain ⟨hc, h1⟩ := Zy h
 obtain rfl := Option.some.inj h1
 refine ZS Tryz.func124 rfl (by kernel_rfl) (Za (zg [0] 0 (Zb (Za (Za (zg [0, 4] 0 (Zb (nq a0.length (fun hz => ?_) ?_))))))))
 exact Za (zg [2] 0 (Zb (Zh (Zk (er (.sl false 4 0 (fun _ => [])) (UE hz))))))
 exact Ze (Zb (Za (zc [2] 1 hc (Zb (Zh (er (.sl false 4 (0 + a0.length) (fun i => (app (fun i => List.take 4 (List.drop (i * 4) [])) 0 (fun i => XI (a0.getD i default))) (0 + i))) (UR (Nat.zero_add _) (fun i hi => by rw [Nat.zero_add]; exact WG XI _ a0 _ (fun _ _ => rfl) i hi))))))))
theorem Uf (a0 : List ZX) (r : List ZX) (h : M.XK a0 = some r) : Fn Tryz.prog 125 [sL 2 Xg a0] (.pure (sL 2 Xg r)) := by
 unfold M.XK at h
 obtain ⟨hc, h1⟩ := Zy h
 obtain rfl := Option.some.inj h1
 refine ZS Tryz.func125 rfl (by kernel_rfl) (Za (zg [0] 0 (Zb (Za (Za (zg [0, 4] 0 (Zb (nq a0.length (fun hz => ?_) ?_))))))))
 exact Za (zg [2] 0 (Zb (Zh (Zk (er (.sl false 2 0 (fun _ => [])) (UE hz))))))
 exact Ze (Zb (Za (zc [2] 1 hc (Zb (Zh (er (.sl false 2 (0 + a0.length) (fun i => (app (fun i => List.take 2 (List.drop (i * 2) [])) 0 (fun i => Xg (a0.getD i default))) (0 + i))) (UR (Nat.zero_add _) (fun i hi => by rw [Nat.zero_add]; exact WG Xg _ a0 _ (fun _ _ => rfl) i hi))))))))
end Nv
