/- The walks: each function computes its mirror. -/
import Derived.Test.YtaienbkgekjdnaaGreatProg
import Derived.Test.YtaienbkgekjdnaaGreatNvD1
import Derived.Test.YtaienbkgekjdnaaGreatNvLibC
import Derived.Test.YtaienbkgekjdnaaGreatNvLibB
import Derived.KernelRfl
import Derived.Ground.SlsfProg
import Derived.Shelf.Lay
import Derived.Test.YtaienbkgekjdnaaGreatNvLibD
set_option maxRecDepth 100000
namespace Nv
open Go Go.Proofs
theorem Zf0 (a0 : Zf) (r : Bool) (h : M.VH a0 = some r) : Fn Tryz.prog 36 [.agg (Zx a0)] (.pure (.bool r)) := by
 let u1 : List Ob := [.box (Zx a0)]
 let u2 : St := ⟨141, [(1, .ref 0 0)], u1⟩
 unfold M.VH at h
 refine ZQ Tryz.func36 rfl (by kernel_rfl) (Za (zg [1] 1 (Zb (Za (Za (zg [1, 95] 1 (Zb (cn h (fun _ h2 => ?_) (fun _ h3 => ?_)))))))))
 exact Za (zg [2] 0 (Zb (Zg (Zh (er1 h2)))))
 refine Ze (Zb (Za (Za (zg [1, 3] 1 (Zb (Zj ?_))))))
 obtain ⟨y3, q13, h14⟩ := bind_some h3
 refine zl (fun (p1 : Int) => ⟨141, [(1, .ref 0 0), (3, .int .i64 p1)], u1⟩) (Sum.elim (fun z => OutE 0 (fun z => u2) z) (fun z => OutR Tryz.prog Tryz.f36 (.bool z))) q13 ?_ ?_
 intro p1 y2 h4
 unfold M.Wi at h4
 refine Za (Za (zg [1, 3, 100] 1 (Zb (cn h4 (fun _ h6 => ?_) (fun _ h7 => ?_)))))
 refine Ze (Zb (Za (Zj (Za ?_))))
 obtain ⟨c8, h9⟩ := ZA h6
 refine zc [1, 3, 110] 1 c8 (Zb (cn h9 (fun _ h11 => ?_) (fun _ h12 => ?_)))
 exact Za (zg [2] 0 (Zb (Zg (ZB (Zh (rr h11 ⟨rfl, er0 _⟩))))))
 exact Ze (XM (Zb (zg [1, 3] 1 (rn h12))))
 exact ZV (Xs (re h7 ⟨rfl, kq⟩))
 intro e15 s16 o17
 rcases y3 with g4 | y5
 have h18 := XP h14
 refine zi o17 (Za (Za (zg [1, 4] 1 (Zb (Zj ?_)))))
 obtain ⟨y8, q30, h31⟩ := bind_some h18
 refine zl (fun (p6 : Int) => ⟨141, [(1, .ref 0 0), (4, .int .i64 p6)], u1⟩) (Sum.elim (fun z => OutE 2 (fun z => u2) z) (fun z => OutR Tryz.prog Tryz.f36 (.bool z))) q30 ?_ ?_
 intro p6 y7 h21
 unfold M.Wj at h21
 refine Za (Za (zg [1, 4, 115] 1 (Zb (cn h21 (fun _ h23 => ?_) (fun _ h24 => ?_)))))
 refine Ze (Zb (Za (Zj (Za ?_))))
 obtain ⟨c25, h26⟩ := ZA h23
 refine zc [1, 4, 125] 1 c25 (Zb (cn h26 (fun _ h28 => ?_) (fun _ h29 => ?_)))
 exact Za (zg [2] 0 (Zb (Zg (ZB (Zh (rr h28 ⟨rfl, er0 _⟩))))))
 exact Ze (XM (Zb (zg [1, 4] 1 (rn h29))))
 exact ZV (Xs (re h24 ⟨rfl, kq⟩))
 intro e32 s33 o34
 rcases y8 with g9 | y10
 have h35 := XP h31
 refine zi o34 (Za (Za (zg [1, 5] 1 (Zb (Zj ?_)))))
 obtain ⟨y13, q47, h48⟩ := bind_some h35
 refine zl (fun (p11 : Int) => ⟨141, [(1, .ref 0 0), (5, .int .i64 p11)], u1⟩) (Sum.elim (fun z => OutE 4 (fun z => ⟨141, [], []⟩) z) (fun z => OutR Tryz.prog Tryz.f36 (.bool z))) q47 ?_ ?_
 intro p11 y12 h38
 unfold M.Wk at h38
 refine Za (Za (zg [1, 5, 130] 1 (Zb (cn h38 (fun _ h40 => ?_) (fun _ h41 => ?_)))))
 refine Ze (Zb (Za (Zj (Za ?_))))
 obtain ⟨c42, h43⟩ := ZA h40
 refine zc [1, 5, 140] 1 c42 (Zb (cn h43 (fun _ h45 => ?_) (fun _ h46 => ?_)))
 exact Za (zg [2] 0 (Zb (Zg (ZB (Zh (rr h45 ⟨rfl, er0 _⟩))))))
 exact Ze (XM (Zb (zg [1, 5] 1 (rn h46))))
 exact ZV (Xs (re h41 ⟨rfl, kc⟩))
 intro e49 s50 o51
 rcases y13 with g14 | y15
 have h52 := XP h48
 exact zi o51 (Za (zg [2] 0 (Zb (Zg (er1 h52)))))
 have h53 := XQ h48
 obtain ⟨rfl, n55⟩ := o51
 refine ZB (Zh ?_)
 obtain rfl := Option.some.inj h53
 exact n55
 have h36 := XQ h31
 obtain ⟨rfl, n56⟩ := o34
 refine ZB (Zh ?_)
 obtain rfl := Option.some.inj h36
 exact n56
 have h19 := XQ h14
 obtain ⟨rfl, n57⟩ := o17
 refine ZB (Zh ?_)
 obtain rfl := Option.some.inj h19
 exact n57
theorem ZfE (a0 : ZX) (r : Bool) (h : M.VL a0 = some r) : Fn Tryz.prog 11 [.agg (Yg a0)] (.pure (.bool r)) := by
 unfold M.VL at h
 refine ZQ Tryz.func11 rfl (by kernel_rfl) (Za (zg [1] 1 (Zb (Za (Za (zg [1, 7] 1 (Zb (cn h (fun _ h2 => ?_) (fun _ h3 => ?_)))))))))
 exact Za (zg [2] 0 (Zb (Zg (Zh (er1 h2)))))
 refine Ze (Zb (Za (Za (zg [1, 3] 1 (Zb (Zj ?_))))))
 obtain ⟨y4, q15, h16⟩ := bind_some h3
 refine zl (fun (p1 : Int) => ⟨22, [(1, .ref 0 0), (3, .int .i64 p1)], [.box (Yg a0)]⟩) (Sum.elim (fun z => OutE 0 (fun z => ⟨22, [], []⟩) z) (fun z => OutR Tryz.prog Tryz.f11 (.bool z))) q15 ?_ ?_
 intro p1 y2 h4
 unfold M.YW at h4
 refine Za (Za (zg [1, 3, 12] 1 (Zb (cn h4 (fun _ h6 => ?_) (fun _ h7 => ?_)))))
 refine Ze (Zb (Za (Zj (Za ?_))))
 obtain ⟨r3, q8, h9⟩ := bind_some h6
 obtain ⟨c10, h11⟩ := ZA h9
 refine zr [1, 3, 21] 1 c10 (rq1 (Zf0 _ _ q8) rqn) (Zb (cn h11 (fun _ h13 => ?_) (fun _ h14 => ?_)))
 exact Za (zg [2] 0 (Zb (Zg (ZB (Zh (rr h13 ⟨rfl, er0 _⟩))))))
 exact Ze (XM (Zb (zg [1, 3] 1 (rn h14))))
 exact ZV (Xs (re h7 ⟨rfl, kc⟩))
 intro e17 s18 o19
 rcases y4 with g5 | y6
 have h20 := XP h16
 exact zi o19 (Za (zg [2] 0 (Zb (Zg (er1 h20)))))
 have h21 := XQ h16
 obtain ⟨rfl, n23⟩ := o19
 refine ZB (Zh ?_)
 obtain rfl := Option.some.inj h21
 exact n23
theorem Za4 (a0 : Int) (r : Bool) (h : M.VM a0 = some r) : Fn Tryz.prog 129 [.int .u8 a0] (.pure (.bool r)) := by
 unfold M.VM at h
 exact ZQ Tryz.func129 rfl (by kernel_rfl) (Za (zg [0] 0 (Zb (Za (zg [2] 0 (Zb (Zg (er1 h))))))))
theorem Zf1 (a0 : Int) (r : Bool) (h : M.W5 a0 = some r) : Fn Tryz.prog 130 [.int .u8 a0] (.pure (.bool r)) := by
 unfold M.W5 at h
 exact ZQ Tryz.func130 rfl (by kernel_rfl) (Za (zg [0] 0 (Zb (Za (zg [2] 0 (Zb (Zg (er1 h))))))))
theorem R3 (a0 : ByteArray) (r : Bool) (h : M.Wf a0 = some r) : Fn Tryz.prog 73 [.str a0] (.pure (.bool r)) := by
 unfold M.Wf at h
 refine ZQ Tryz.func73 rfl (by kernel_rfl) (Za (zg [0] 0 (Zb (Za (Za ?_)))))
 obtain ⟨r1, q1, h2⟩ := bind_some h
 obtain ⟨c3, h4⟩ := ZA h2
 refine zr [0, 18] 0 c3 (rq2 (fun hg => Za4 _ _ (Xc q1 hg)) rqn) (Zb (cn h4 (fun _ h6 => ?_) (fun _ h7 => ?_)))
 exact Za (zg [2] 0 (Zb (Zg (Zh (er1 h6)))))
 refine Ze (Zb (Za (Za (zg [0, 3] 0 (Zb (Zj ?_))))))
 obtain ⟨y6, q21, h22⟩ := bind_some h7
 refine zl (fun (p2 : Int) => ⟨52, [(0, .str a0), (3, .int .i64 p2)], []⟩) (Sum.elim (fun z => OutE 0 (fun z => ⟨52, [], []⟩) z) (fun z => OutR Tryz.prog Tryz.f73 (.bool z))) q21 ?_ ?_
 intro p2 y3 h8
 unfold M.V3 at h8
 refine Za (Za (zg [0, 3, 22] 0 (Zb (cn h8 (fun _ h10 => ?_) (fun _ h11 => ?_)))))
 refine Ze (Zb (Za (Zj (Za ?_))))
 obtain ⟨c12, h13⟩ := ZA h10
 refine zc [0, 3, 4] 0 c12 (Zb (Za ?_))
 obtain ⟨r4, q14, h15⟩ := bind_some h13
 obtain ⟨r5, q16, h17⟩ := bind_some h15
 refine zr [0, 3, 51] 0 Zw (rq1 (Za4 _ _ q14) (rq2 (fun hg => Zf1 _ _ (Xc q16 hg)) rqn)) (Zb (cn h17 (fun _ h19 => ?_) (fun _ h20 => ?_)))
 exact Za (zg [2] 0 (Zb (Zg (ZB (Zh (rr h19 ⟨rfl, er0 _⟩))))))
 exact Ze (XM (Zb (zg [0, 3] 0 (rn h20))))
 exact ZV (Xs (re h11 ⟨rfl, kq⟩))
 intro e23 s24 o25
 rcases y6 with g7 | y8
 have h26 := XP h22
 exact zi o25 (Za (zg [2] 0 (Zb (Zg (er1 h26)))))
 have h27 := XQ h22
 obtain ⟨rfl, n29⟩ := o25
 refine ZB (Zh ?_)
 obtain rfl := Option.some.inj h27
 exact n29
theorem XK (a0 : Int) (a1 : Int) (a2 : Int) (r : Bool) (h : M.ZP a0 a1 a2 = some r) : Fn Tryz.prog 74 [.int .i64 a0, .int .i64 a1, .int .i64 a2] (.pure (.bool r)) := by
 unfold M.ZP at h
 exact ZQ Tryz.func74 rfl (by kernel_rfl) (Za (zg [0, 1, 2] 0 (Zb (Za (zg [6] 0 (Zb (Zg (er1 h))))))))
theorem Za5 (a0 : Zy) (b0 : ByteArray) (r : Bool) (h : M.Jt a0 b0 = some r) : Fn Tryz.prog 164 [.agg (Zn a0), .pp (cs b0)] (.pure (.bool r)) := by
 unfold M.Jt at h
 exact ZQ Tryz.func164 rfl (by kernel_rfl) (Za (zg [1, 2] 1 (Zb (Za (zg [3] 0 (Zb (Zg (er1 h))))))))
theorem VI (a0 : List Zy) (a1c0 : ByteArray) (r : Int) (h : M.ZF a0 a1c0 = some r) : Fn Tryz.prog 146 [sL 12 Zn a0, .fn 164 [.pp (cs a1c0)]] (.pure (.int .i64 r)) := by
 unfold M.ZF at h
 refine ZQ Tryz.func146 rfl (by kernel_rfl) (Za (zg [0, 1] 0 (Zb (Za (Za (zg [0, 1, 7, 8] 0 (Zb (Zj ?_))))))))
 obtain ⟨y4, q12, h13⟩ := bind_some h
 refine zl (fun (p1 : Int) => ⟨19, [(0, sL 12 Zn a0), (1, .fn 164 [.pp (cs a1c0)]), (7, .int .i64 (a0.length : Int)), (8, .int .i64 p1)], []⟩) (Sum.elim (fun z => OutE 0 (fun z => ⟨19, [], []⟩) z) (fun z => OutR Tryz.prog Tryz.f146 (.int .i64 z))) q12 ?_ ?_
 intro p1 y2 h1
 unfold M.ZE at h1
 refine Za (zg [0, 1, 7, 8, 9] 0 (Zb (Za (cn h1 (fun _ h3 => ?_) (fun _ h4 => ?_)))))
 refine Ze (Zb (Za (Zj (Za (zg [0, 1, 5, 7, 8] 0 (Zb (Za ?_)))))))
 obtain ⟨r3, q5, h6⟩ := bind_some h3
 obtain ⟨c7, h8⟩ := ZA h6
 refine zr [0, 1, 5, 7, 8, 16] 0 c7 (rq1 (Za5 _ _ _ q5) rqn) (Zb (cn h8 (fun _ h10 => ?_) (fun _ h11 => ?_)))
 exact Za (zg [4] 0 (Zb (Zg (ZB (Zh (rr h10 ⟨rfl, er0 _⟩))))))
 exact Ze (XM (Zb (zg [0, 1, 7, 8] 0 (rn h11))))
 exact ZV (Xs (re h4 ⟨rfl, kq⟩))
 intro e14 s15 o16
 rcases y4 with g5 | y6
 have h17 := XP h13
 exact zi o16 (Za (zg [4] 0 (Zb (Zg (er1 h17)))))
 have h18 := XQ h13
 obtain ⟨rfl, n20⟩ := o16
 refine ZB (Zh ?_)
 obtain rfl := Option.some.inj h18
 exact n20
theorem KD (a0 : Zf) (a1 : ByteArray) (r : Int) (h : M.Qh a0 a1 = some r) : Fn Tryz.prog 131 [.agg (Zx a0), .str a1] (.pure (.int .i64 r)) := by
 unfold M.Qh at h
 refine ZQ Tryz.func131 rfl (by kernel_rfl) (Za (zg [2, 3] 2 (Zb (Za ?_))))
 obtain ⟨r1, q1, h2⟩ := bind_some h
 exact zr [4] 0 Zw (rq1 (VI _ _ _ q1) rqn) (Zb (Zg (er1 h2)))
theorem Rx (a0 : Zy) (r : Bool) (h : M.Qq a0 = some r) : Fn Tryz.prog 132 [.agg (Zn a0)] (.pure (.bool r)) := by
 unfold M.Qq at h
 refine ZQ Tryz.func132 rfl (by kernel_rfl) (Za (zg [1] 1 (Zb (Za (Za ?_)))))
 obtain ⟨r1, q1, h2⟩ := bind_some h
 obtain ⟨r2, q3, h4⟩ := bind_some h2
 obtain ⟨r3, q5, h6⟩ := bind_some h4
 refine zr [1, 18] 1 Zw (rq1 (XK _ _ _ _ q1) (rq2 (fun hg => XK _ _ _ _ (Xc q3 hg)) (rq2 (fun hg => XK _ _ _ _ (Xc q5 hg)) rqn))) (Zb (cn h6 (fun _ h8 => ?_) (fun _ h9 => ?_)))
 exact Za (zg [2] 0 (Zb (Zg (Zh (er1 h8)))))
 refine Ze (Zb (Za (Za (zg [1, 54] 1 (Zb (cn h9 (fun _ h11 => ?_) (fun _ h12 => ?_)))))))
 exact Za (zg [2] 0 (Zb (Zg (Zh (er1 h11)))))
 refine Ze (Zb (Za (Za (zg [1, 62] 1 (Zb (cn h12 (fun _ h14 => ?_) (fun _ h15 => ?_)))))))
 exact Za (zg [2] 0 (Zb (Zg (Zh (er1 h14)))))
 refine Ze (Zb (Za (Za (zg [1, 64] 1 (Zb (cn h15 (fun _ h17 => ?_) (fun _ h18 => ?_)))))))
 refine Za ?_
 obtain ⟨r4, q19, h20⟩ := bind_some h17
 obtain ⟨r5, q21, h22⟩ := bind_some h20
 exact zr [2] 0 Zw (rq1 (XK _ _ _ _ q19) (rq2 (fun hg => XK _ _ _ _ (Xc q21 hg)) rqn)) (Zb (Zg (Zh (er1 h22))))
 exact Ze (Zb (Za (zg [2] 0 (Zb (Zg (er1 h18))))))
theorem Zcj (a0 : Int) (r : Int) (h : M.JC a0 = some r) : Fn Tryz.prog 89 [.int .i64 a0] (.pure (.int .i64 r)) := by
 unfold M.JC at h
 exact ZQ Tryz.func89 rfl (by kernel_rfl) (Za (zg [0] 0 (Zb (Za (zg [2] 0 (Zb (Zg (er1 h))))))))
theorem R4 (a0 : Int) (r : Int) (h : M.JU a0 = some r) : Fn Tryz.prog 88 [.int .i64 a0] (.pure (.int .u32 r)) := by
 unfold M.JU at h
 refine ZQ Tryz.func88 rfl (by kernel_rfl) (Za (zg [0] 0 (Zb (Za ?_))))
 obtain ⟨r1, q1, h2⟩ := bind_some h
 obtain ⟨c3, h4⟩ := ZA h2
 exact zr [2] 0 c3 (rq1 (Zcj _ _ q1) rqn) (Zb (Zg (er1 h4)))
theorem Kf (a0 : Int) (a1 : Int) (r : ZL) (h : M.YT a0 a1 = some r) : Fn Tryz.prog 60 [.int .u32 a0, .int .i64 a1] (.pure (.agg (Z9 r))) := by
 unfold M.YT at h
 refine ZQ Tryz.func60 rfl (by kernel_rfl) (Za (zg [0, 1, 4] 1 (Zb (Za ?_))))
 obtain ⟨r1, q1, h2⟩ := bind_some h
 obtain ⟨r2, q3, h4⟩ := bind_some h2
 refine zr [4] 1 Zw (rq1 (R4 _ _ q1) (rq1 (Zcj _ _ q3) rqn)) (Zb (Zg ?_))
 obtain rfl := Option.some.inj h4
 exact er0 (.agg [.int .u32 (bitD .and .u32 a0 r1), .int .i64 r2])
theorem Zd2 (a0 : ZL) (a1 : Int) (r : Bool) (h : M.Wl a0 a1 = some r) : Fn Tryz.prog 179 [.agg (Z9 a0), .int .u32 a1] (.pure (.bool r)) := by
 unfold M.Wl at h
 refine ZQ Tryz.func179 rfl (by kernel_rfl) (Za (zg [1, 2] 1 (Zb (Za ?_))))
 obtain ⟨r1, q1, h2⟩ := bind_some h
 exact zr [4] 0 Zw (rq1 (R4 _ _ q1) rqn) (Zb (Zg (er1 h2)))
theorem Za6 (a0 : ZL) (a1 : ZL) (r : Bool) (h : M.Wt a0 a1 = some r) : Fn Tryz.prog 165 [.agg (Z9 a0), .agg (Z9 a1)] (.pure (.bool r)) := by
 unfold M.Wt at h
 refine ZQ Tryz.func165 rfl (by kernel_rfl) (Za (zg [2, 3] 2 (Zb (Za ?_))))
 obtain ⟨r1, q1, h2⟩ := bind_some h
 exact zr [4] 0 Zw (rq2 (fun hg => Zd2 _ _ _ (Xc q1 hg)) rqn) (Zb (Zg (er1 h2)))
theorem Ry (a0 : ZL) (a1 : ZL) (r : Bool) (h : M.J4 a0 a1 = some r) : Fn Tryz.prog 133 [.agg (Z9 a0), .agg (Z9 a1)] (.pure (.bool r)) := by
 unfold M.J4 at h
 refine ZQ Tryz.func133 rfl (by kernel_rfl) (Za (zg [2, 3] 2 (Zb (Za ?_))))
 obtain ⟨r1, q1, h2⟩ := bind_some h
 obtain ⟨r2, q3, h4⟩ := bind_some h2
 exact zr [4] 0 Zw (rq1 (Za6 _ _ _ q1) (rq2 (fun hg => Za6 _ _ _ (Xc q3 hg)) rqn)) (Zb (Zg (er1 h4)))
theorem Rh (a0 : Zf) (r : Int) (h : M.YH a0 = some r) : Fn Tryz.prog 75 [.agg (Zx a0)] (.pure (.int .i64 r)) := by
 let u1 : Nat × D := (12, sL 12 Zn a0.Zc)
 let u2 := (a0.Zc.length : Int)
 let u5 := Zx a0
 unfold M.YH at h
 refine ZQ Tryz.func75 rfl (by kernel_rfl) (Za (zg [1] 1 (Zb (Za (Za (zg [1, 10] 1 (Zb (cn h (fun _ h2 => ?_) (fun _ h3 => ?_)))))))))
 exact Za (zg [2] 0 (Zb (Zg (Zh (er1 h2)))))
 refine Ze (Zb (Za (Za (zg [1, 12, 13, 14] 1 (Zb (Zj ?_))))))
 obtain ⟨y14, q51, h52⟩ := bind_some h3
 refine zl (fun (p1 : Int) => ⟨64, [(1, .ref 0 0), u1, (13, .int .i64 u2), (14, .int .i64 p1)], [.box u5]⟩) (Sum.elim (fun z => OutE 0 (fun z => ⟨64, [], []⟩) z) (fun z => OutR Tryz.prog Tryz.f75 (.int .i64 z))) q51 ?_ ?_
 intro p1 y2 h4
 let u3 : List Ob := [.box u5, .box (Zn (a0.Zc.getD p1.toNat default))]
 let u4 : Nat × D := (35, sL 12 Zn ((a0.Zc.drop 0).take (p1.toNat - 0)))
 unfold M.Yz at h4
 refine Za (zg [1, 12, 13, 14, 15] 1 (Zb (Za (cn h4 (fun _ h6 => ?_) (fun _ h7 => ?_)))))
 refine Ze (Zb (Za (Zj (Za ?_))))
 obtain ⟨c8, h9⟩ := ZA h6
 refine zc [1, 3, 4, 12, 13, 14] 2 c8 (Zb (Za (Za ?_)))
 obtain ⟨r3, q10, h11⟩ := bind_some h9
 refine zr [1, 3, 4, 12, 13, 14, 22] 2 Zw (rq1 (R3 _ _ q10) rqn) (Zb (cn h11 (fun _ h13 => ?_) (fun _ h14 => ?_)))
 exact Za (zg [2] 0 (Zb (Zg (Zh (ZB (Zh (rr h13 ⟨rfl, er0 _⟩)))))))
 refine Ze (Zb (Za (Za ?_)))
 obtain ⟨r4, q15, h16⟩ := bind_some h14
 refine zr [1, 3, 4, 12, 13, 14, 28] 2 Zw (rq1 (KD _ _ _ q15) rqn) (Zb (cn h16 (fun _ h18 => ?_) (fun _ h19 => ?_)))
 exact Za (zg [2] 0 (Zb (Zg (Zh (ZB (Zh (rr h18 ⟨rfl, er0 _⟩)))))))
 refine Ze (Zb (Za (Za ?_)))
 obtain ⟨r5, q20, h21⟩ := bind_some h19
 refine zr [1, 3, 4, 12, 13, 14, 31] 2 Zw (rq1 (Rx _ _ q20) rqn) (Zb (cn h21 (fun _ h23 => ?_) (fun _ h24 => ?_)))
 exact Za (zg [2] 0 (Zb (Zg (Zh (ZB (Zh (rr h23 ⟨rfl, er0 _⟩)))))))
 refine Ze (Zb (Za ?_))
 obtain ⟨c25, h26⟩ := ZA h24
 refine rgc [1, 4, 12, 13, 14, 35, 36, 37] 2 ⟨64, [(1, .ref 0 0), (4, .ref 1 0), u1, (13, .int .i64 u2), (14, .int .i64 p1), (35, .sl false 12 (p1.toNat - 0) (fun i => Zn (a0.Zc.getD (0 + i) default))), (36, .int .i64 ((p1.toNat - 0 : Nat) : Int)), (37, .int .i64 0)], u3⟩ [decide (0 ≤ p1), decide (p1 ≤ u2)] c25 (XE (s' := ⟨64, [(1, .ref 0 0), (4, .ref 1 0), u1, (13, .int .i64 u2), (14, .int .i64 p1), u4, (36, .int .i64 ((p1.toNat - 0 : Nat) : Int)), (37, .int .i64 0)], u3⟩) (VX (.cons Sub.rfl (.cons Sub.rfl (.cons Sub.rfl (.cons Sub.rfl (.cons Sub.rfl (.cons (Uv (Kp _ _ _ (RX (c25 _ (List.mem_cons_of_mem _ List.mem_cons_self)))) (Ko _ _ _ _)) (.cons Sub.rfl (.cons Sub.rfl .nil)))))))) (.cons .rfl (.cons .rfl .nil))) (Zj ?_))
 obtain ⟨y11, q42, h43⟩ := bind_some h26
 refine zl (fun (p6 : Int) => ⟨64, [(1, .ref 0 0), (4, .ref 1 0), u1, (13, .int .i64 u2), (14, .int .i64 p1), u4, (36, .int .i64 ((p1.toNat - 0 : Nat) : Int)), (37, .int .i64 p6)], u3⟩) (Sum.elim (fun z => OutE 2 (fun z => ⟨64, [(1, .ref 0 0), u1, (13, .int .i64 u2), (14, .int .i64 p1)], [.box u5]⟩) z) (fun z => OutR Tryz.prog Tryz.f75 (.int .i64 z))) q42 ?_ ?_
 intro p6 y7 h27
 unfold M.Yj at h27
 refine Za (zg [1, 4, 12, 13, 14, 35, 36, 37, 38] 2 (Zb (Za (cn h27 (fun _ h29 => ?_) (fun _ h30 => ?_)))))
 refine Ze (Zb (Za (Zj (Za ?_))))
 obtain ⟨c31, h32⟩ := ZA h29
 refine zc [1, 4, 6, 12, 13, 14, 35, 36, 37] 3 c31 (Zb (Za ?_))
 obtain ⟨r8, q33, h34⟩ := bind_some h32
 obtain ⟨r9, q35, h36⟩ := bind_some h34
 obtain ⟨r10, q37, h38⟩ := bind_some h36
 refine zr [1, 4, 12, 13, 14, 35, 36, 37, 61] 2 Zw (rq2 (fun hg => Kf _ _ _ (Xc q33 hg)) (rq2 (fun hg => Kf _ _ _ (Xc q35 hg)) (rq2 (fun hg => Ry _ _ _ (Xc q37 hg)) rqn))) (Zb (cn h38 (fun _ h40 => ?_) (fun _ h41 => ?_)))
 exact Za (zg [2] 0 (Zb (Zg (ZB (Zh (rr h40 ⟨rfl, er0 _⟩))))))
 exact Ze (XM (Zb (zg [1, 4, 12, 13, 14, 35, 36, 37] 2 (rn h41))))
 exact ZV (Xs (re h30 ⟨rfl, kc⟩))
 intro e44 s45 o46
 rcases y11 with g12 | y13
 have h47 := XP h43
 obtain ⟨rfl, l49⟩ := o46
 exact Qd (XM (XE (s' := ⟨64, [(1, .ref 0 0), u1, (13, .int .i64 u2), (14, .int .i64 p1)], [.box u5]⟩) (l49) (zg [1, 12, 13, 14] 1 (rn h47))))
 have h48 := XQ h43
 obtain ⟨rfl, n50⟩ := o46
 exact ZB (ZB (Zh (rr h48 ⟨rfl, n50⟩)))
 exact ZV (Xs (re h7 ⟨rfl, kc⟩))
 intro e53 s54 o55
 rcases y14 with g15 | y16
 have h56 := XP h52
 exact zi o55 (Za (zg [2] 0 (Zb (Zg (er1 h56)))))
 have h57 := XQ h52
 obtain ⟨rfl, n59⟩ := o55
 refine ZB (Zh ?_)
 obtain rfl := Option.some.inj h57
 exact n59
theorem Zax (a0 : Z1) (b0 : ByteArray) (r : Bool) (h : M.JD a0 b0 = some r) : Fn Tryz.prog 167 [.agg (ZC a0), .pp (cs b0)] (.pure (.bool r)) := by
 unfold M.JD at h
 exact ZQ Tryz.func167 rfl (by kernel_rfl) (Za (zg [1, 2] 1 (Zb (Za (zg [3] 0 (Zb (Zg (er1 h))))))))
theorem Vk (a0 : List Z1) (a1c0 : ByteArray) (r : Int) (h : M.ZM a0 a1c0 = some r) : Fn Tryz.prog 166 [sL 2 ZC a0, .fn 167 [.pp (cs a1c0)]] (.pure (.int .i64 r)) := by
 unfold M.ZM at h
 refine ZQ Tryz.func166 rfl (by kernel_rfl) (Za (zg [0, 1] 0 (Zb (Za (Za (zg [0, 1, 7, 8] 0 (Zb (Zj ?_))))))))
 obtain ⟨y4, q12, h13⟩ := bind_some h
 refine zl (fun (p1 : Int) => ⟨19, [(0, sL 2 ZC a0), (1, .fn 167 [.pp (cs a1c0)]), (7, .int .i64 (a0.length : Int)), (8, .int .i64 p1)], []⟩) (Sum.elim (fun z => OutE 0 (fun z => ⟨19, [], []⟩) z) (fun z => OutR Tryz.prog Tryz.f166 (.int .i64 z))) q12 ?_ ?_
 intro p1 y2 h1
 unfold M.ZG at h1
 refine Za (zg [0, 1, 7, 8, 9] 0 (Zb (Za (cn h1 (fun _ h3 => ?_) (fun _ h4 => ?_)))))
 refine Ze (Zb (Za (Zj (Za (zg [0, 1, 5, 7, 8] 0 (Zb (Za ?_)))))))
 obtain ⟨r3, q5, h6⟩ := bind_some h3
 obtain ⟨c7, h8⟩ := ZA h6
 refine zr [0, 1, 5, 7, 8, 16] 0 c7 (rq1 (Zax _ _ _ q5) rqn) (Zb (cn h8 (fun _ h10 => ?_) (fun _ h11 => ?_)))
 exact Za (zg [4] 0 (Zb (Zg (ZB (Zh (rr h10 ⟨rfl, er0 _⟩))))))
 exact Ze (XM (Zb (zg [0, 1, 7, 8] 0 (rn h11))))
 exact ZV (Xs (re h4 ⟨rfl, kq⟩))
 intro e14 s15 o16
 rcases y4 with g5 | y6
 have h17 := XP h13
 exact zi o16 (Za (zg [4] 0 (Zb (Zg (er1 h17)))))
 have h18 := XQ h13
 obtain ⟨rfl, n20⟩ := o16
 refine ZB (Zh ?_)
 obtain rfl := Option.some.inj h18
 exact n20
theorem Ud (a0 : Zf) (a1 : ByteArray) (r : Int) (h : M.Yo a0 a1 = some r) : Fn Tryz.prog 135 [.agg (Zx a0), .str a1] (.pure (.int .i64 r)) := by
 unfold M.Yo at h
 refine ZQ Tryz.func135 rfl (by kernel_rfl) (Za (zg [2, 3] 2 (Zb (Za ?_))))
 obtain ⟨r1, q1, h2⟩ := bind_some h
 exact zr [4] 0 Zw (rq1 (Vk _ _ _ q1) rqn) (Zb (Zg (er1 h2)))
theorem Gm (a0 : Int) (a1 : Int) (a2 : ByteArray) (a3 : Int) (a4 : Int) (r : Int) (h : M.YQ a0 a1 a2 a3 a4 = some r) : Fn Tryz.prog 134 [.int .i64 a0, .int .i64 a1, .str a2, .int .i64 a3, .int .i64 a4] (.pure (.int .i64 r)) := by
 unfold M.YQ at h
 refine ZQ Tryz.func134 rfl (by kernel_rfl) (Za (zg [0, 1, 2, 3, 4] 0 (Zb (Za (Zj (Za ?_))))))
 obtain ⟨r1, q1, h2⟩ := bind_some h
 refine zr [0, 1, 3, 4, 11] 0 Zw (rq1 (R3 _ _ q1) rqn) (Zb (cn h2 (fun _ h4 => ?_) (fun _ h5 => ?_)))
 exact Za (zg [10] 0 (Zb (Zg (ZB (Zh (er1 h4))))))
 refine Za (zg [3, 4, 15] 0 (Zb (cn h5 (fun _ h7 => ?_) (fun _ h8 => ?_))))
 exact Za (zg [10] 0 (Zb (Zg (ZB (Zh (er1 h7))))))
 refine Za (zg [3, 4, 19] 0 (Zb (cn h8 (fun _ h10 => ?_) (fun _ h11 => ?_))))
 exact Za (zg [10] 0 (Zb (Zg (ZB (Zh (er1 h10))))))
 refine Za (zg [22] 0 (Zb (cn h11 (fun _ h13 => ?_) (fun _ h14 => ?_))))
 exact Za (zg [10] 0 (Zb (Zg (ZB (Zh (er1 h13))))))
 exact Ze (XM (Zb (Za (zg [10] 0 (Zb (Zg (er1 h14)))))))
theorem W8 (a0 : ZL) (r : Bool) (h : M.QO a0 = some r) : Fn Tryz.prog 136 [.agg (Z9 a0)] (.pure (.bool r)) := by
 unfold M.QO at h
 refine ZQ Tryz.func136 rfl (by kernel_rfl) (Za (zg [1] 1 (Zb (Za ?_))))
 obtain ⟨r1, q1, h2⟩ := bind_some h
 exact zr [2] 0 Zw (rq2 (fun hg => R4 _ _ (Xc q1 hg)) rqn) (Zb (Zg (er1 h2)))
theorem KQ (a0 : Zf) (r : Int) (h : M.YA a0 = some r) : Fn Tryz.prog 76 [.agg (Zx a0)] (.pure (.int .i64 r)) := by
 let u1 : Nat × D := (13, sL 2 ZC a0.Xk)
 let u2 := (a0.Xk.length : Int)
 let u3 : List Ob := [.box (Zx a0)]
 unfold M.YA at h
 refine ZQ Tryz.func76 rfl (by kernel_rfl) (Za (zg [1] 1 (Zb (Za (Za (zg [1, 11] 1 (Zb (cn h (fun _ h2 => ?_) (fun _ h3 => ?_)))))))))
 exact Za (zg [2] 0 (Zb (Zg (Zh (er1 h2)))))
 refine Ze (Zb (Za (Za (zg [1, 13, 14, 15] 1 (Zb (Zj ?_))))))
 obtain ⟨y11, q37, h38⟩ := bind_some h3
 refine zl (fun (p1 : Int) => ⟨67, [(1, .ref 0 0), u1, (14, .int .i64 u2), (15, .int .i64 p1)], u3⟩) (Sum.elim (fun z => OutE 0 (fun z => ⟨67, [], []⟩) z) (fun z => OutR Tryz.prog Tryz.f76 (.int .i64 z))) q37 ?_ ?_
 intro p1 y2 h4
 let u4 := (a0.Xk.getD p1.toNat default).Xz
 unfold M.Yn at h4
 refine Za (zg [1, 13, 14, 15, 16] 1 (Zb (Za (cn h4 (fun _ h6 => ?_) (fun _ h7 => ?_)))))
 refine Ze (Zb (Za (Zj (Za ?_))))
 obtain ⟨c8, h9⟩ := ZA h6
 refine zc [1, 3, 4, 13, 14, 15] 2 c8 (Zb (Za (Za ?_)))
 obtain ⟨r3, q10, h11⟩ := bind_some h9
 obtain ⟨r4, q12, h13⟩ := bind_some h11
 refine zr [1, 4, 5, 13, 14, 15] 2 Zw (rq1 (Ud _ _ _ q10) (rq1 (Gm _ _ _ _ _ _ q12) rqn)) (Zb (Za (zg [1, 4, 5, 13, 14, 15, 32] 2 (Zb (cn h13 (fun _ h15 => ?_) (fun _ h16 => ?_))))))
 exact Za (zg [2] 0 (Zb (Zg (Zh (ZB (Zh (rr h15 ⟨rfl, er0 _⟩)))))))
 refine Ze (Zb (Za (zg [1, 13, 14, 15, 35, 36, 37] 1 (Zb (Zj ?_)))))
 obtain ⟨y8, q28, h29⟩ := bind_some h16
 refine zl (fun (p5 : Int) => ⟨67, [(1, .ref 0 0), u1, (14, .int .i64 u2), (15, .int .i64 p1), (35, sL 5 G7 u4), (36, .int .i64 (u4.length : Int)), (37, .int .i64 p5)], u3⟩) (Sum.elim (fun z => OutE 2 (fun z => ⟨67, [(1, .ref 0 0), u1, (14, .int .i64 u2), (15, .int .i64 p1)], u3⟩) z) (fun z => OutR Tryz.prog Tryz.f76 (.int .i64 z))) q28 ?_ ?_
 intro p5 y6 h17
 unfold M.Yd at h17
 refine Za (zg [1, 13, 14, 15, 35, 36, 37, 38] 1 (Zb (Za (cn h17 (fun _ h19 => ?_) (fun _ h20 => ?_)))))
 refine Ze (Zb (Za (Zj (Za ?_))))
 obtain ⟨c21, h22⟩ := ZA h19
 refine zc [1, 7, 13, 14, 15, 35, 36, 37] 2 c21 (Zb (Za ?_))
 obtain ⟨r7, q23, h24⟩ := bind_some h22
 refine zr [1, 13, 14, 15, 35, 36, 37, 64] 1 Zw (rq1 (W8 _ _ q23) rqn) (Zb (cn h24 (fun _ h26 => ?_) (fun _ h27 => ?_)))
 exact Za (zg [2] 0 (Zb (Zg (ZB (Zh (rr h26 ⟨rfl, er0 _⟩))))))
 exact Ze (XM (Zb (zg [1, 13, 14, 15, 35, 36, 37] 1 (rn h27))))
 exact ZV (Xs (re h20 ⟨rfl, kq⟩))
 intro e30 s31 o32
 rcases y8 with g9 | y10
 have h33 := XP h29
 obtain ⟨rfl, l35⟩ := o32
 exact Qd (XM (XE (s' := ⟨67, [(1, .ref 0 0), u1, (14, .int .i64 u2), (15, .int .i64 p1)], u3⟩) (l35) (zg [1, 13, 14, 15] 1 (rn h33))))
 have h34 := XQ h29
 obtain ⟨rfl, n36⟩ := o32
 exact ZB (ZB (Zh (rr h34 ⟨rfl, n36⟩)))
 exact ZV (Xs (re h7 ⟨rfl, kc⟩))
 intro e39 s40 o41
 rcases y11 with g12 | y13
 have h42 := XP h38
 exact zi o41 (Za (zg [2] 0 (Zb (Zg (er1 h42)))))
 have h43 := XQ h38
 obtain ⟨rfl, n45⟩ := o41
 refine ZB (Zh ?_)
 obtain rfl := Option.some.inj h43
 exact n45
theorem ZbT (a0 : X1) (b0 : ByteArray) (r : Bool) (h : M.Va a0 b0 = some r) : Fn Tryz.prog 169 [.agg (Z6 a0), .pp (cs b0)] (.pure (.bool r)) := by
 unfold M.Va at h
 exact ZQ Tryz.func169 rfl (by kernel_rfl) (Za (zg [1, 2] 1 (Zb (Za (zg [3] 0 (Zb (Zg (er1 h))))))))
theorem VT (a0 : List X1) (a1c0 : ByteArray) (r : Int) (h : M.Z0 a0 a1c0 = some r) : Fn Tryz.prog 168 [sL 2 Z6 a0, .fn 169 [.pp (cs a1c0)]] (.pure (.int .i64 r)) := by
 unfold M.Z0 at h
 refine ZQ Tryz.func168 rfl (by kernel_rfl) (Za (zg [0, 1] 0 (Zb (Za (Za (zg [0, 1, 7, 8] 0 (Zb (Zj ?_))))))))
 obtain ⟨y4, q12, h13⟩ := bind_some h
 refine zl (fun (p1 : Int) => ⟨19, [(0, sL 2 Z6 a0), (1, .fn 169 [.pp (cs a1c0)]), (7, .int .i64 (a0.length : Int)), (8, .int .i64 p1)], []⟩) (Sum.elim (fun z => OutE 0 (fun z => ⟨19, [], []⟩) z) (fun z => OutR Tryz.prog Tryz.f168 (.int .i64 z))) q12 ?_ ?_
 intro p1 y2 h1
 unfold M.ZT at h1
 refine Za (zg [0, 1, 7, 8, 9] 0 (Zb (Za (cn h1 (fun _ h3 => ?_) (fun _ h4 => ?_)))))
 refine Ze (Zb (Za (Zj (Za (zg [0, 1, 5, 7, 8] 0 (Zb (Za ?_)))))))
 obtain ⟨r3, q5, h6⟩ := bind_some h3
 obtain ⟨c7, h8⟩ := ZA h6
 refine zr [0, 1, 5, 7, 8, 16] 0 c7 (rq1 (ZbT _ _ _ q5) rqn) (Zb (cn h8 (fun _ h10 => ?_) (fun _ h11 => ?_)))
 exact Za (zg [4] 0 (Zb (Zg (ZB (Zh (rr h10 ⟨rfl, er0 _⟩))))))
 exact Ze (XM (Zb (zg [0, 1, 7, 8] 0 (rn h11))))
 exact ZV (Xs (re h4 ⟨rfl, kq⟩))
 intro e14 s15 o16
 rcases y4 with g5 | y6
 have h17 := XP h13
 exact zi o16 (Za (zg [4] 0 (Zb (Zg (er1 h17)))))
 have h18 := XQ h13
 obtain ⟨rfl, n20⟩ := o16
 refine ZB (Zh ?_)
 obtain rfl := Option.some.inj h18
 exact n20
theorem UR (a0 : Zf) (a1 : ByteArray) (r : Int) (h : M.YX a0 a1 = some r) : Fn Tryz.prog 137 [.agg (Zx a0), .str a1] (.pure (.int .i64 r)) := by
 unfold M.YX at h
 refine ZQ Tryz.func137 rfl (by kernel_rfl) (Za (zg [2, 3] 2 (Zb (Za ?_))))
 obtain ⟨r1, q1, h2⟩ := bind_some h
 exact zr [4] 0 Zw (rq1 (VT _ _ _ q1) rqn) (Zb (Zg (er1 h2)))
theorem Za7 (a0 : GK) (r : Bool) (h : M.QW a0 = some r) : Fn Tryz.prog 138 [.agg (ZbO a0)] (.pure (.bool r)) := by
 unfold M.QW at h
 refine ZQ Tryz.func138 rfl (by kernel_rfl) (Za (zg [1] 1 (Zb (Za ?_))))
 obtain ⟨r1, q1, h2⟩ := bind_some h
 obtain ⟨r2, q3, h4⟩ := bind_some h2
 obtain ⟨r3, q5, h6⟩ := bind_some h4
 obtain ⟨r4, q7, h8⟩ := bind_some h6
 obtain ⟨r5, q9, h10⟩ := bind_some h8
 exact zr [2] 0 Zw (rq1 (XK _ _ _ _ q1) (rq2 (fun hg => XK _ _ _ _ (Xc q3 hg)) (rq2 (fun hg => XK _ _ _ _ (Xc q5 hg)) (rq2 (fun hg => XK _ _ _ _ (Xc q7 hg)) (rq2 (fun hg => XK _ _ _ _ (Xc q9 hg)) rqn))))) (Zb (Zg (er1 h10)))
theorem Rz (a0 : Zf) (r : Int) (h : M.YY a0 = some r) : Fn Tryz.prog 77 [.agg (Zx a0)] (.pure (.int .i64 r)) := by
 let u1 : Nat × D := (13, sL 2 Z6 a0.Z8)
 let u2 := (a0.Z8.length : Int)
 let u3 : List Ob := [.box (Zx a0)]
 unfold M.YY at h
 refine ZQ Tryz.func77 rfl (by kernel_rfl) (Za (zg [1] 1 (Zb (Za (Za (zg [1, 11] 1 (Zb (cn h (fun _ h2 => ?_) (fun _ h3 => ?_)))))))))
 exact Za (zg [2] 0 (Zb (Zg (Zh (er1 h2)))))
 refine Ze (Zb (Za (Za (zg [1, 13, 14, 15] 1 (Zb (Zj ?_))))))
 obtain ⟨y12, q42, h43⟩ := bind_some h3
 refine zl (fun (p1 : Int) => ⟨56, [(1, .ref 0 0), u1, (14, .int .i64 u2), (15, .int .i64 p1)], u3⟩) (Sum.elim (fun z => OutE 0 (fun z => ⟨56, [], []⟩) z) (fun z => OutR Tryz.prog Tryz.f77 (.int .i64 z))) q42 ?_ ?_
 intro p1 y2 h4
 let u4 := (a0.Z8.getD p1.toNat default).Xl
 unfold M.YE at h4
 refine Za (zg [1, 13, 14, 15, 16] 1 (Zb (Za (cn h4 (fun _ h6 => ?_) (fun _ h7 => ?_)))))
 refine Ze (Zb (Za (Zj (Za ?_))))
 obtain ⟨c8, h9⟩ := ZA h6
 refine zc [1, 3, 4, 13, 14, 15] 2 c8 (Zb (Za (Za ?_)))
 obtain ⟨r3, q10, h11⟩ := bind_some h9
 obtain ⟨r4, q12, h13⟩ := bind_some h11
 refine zr [1, 4, 5, 13, 14, 15] 2 Zw (rq1 (UR _ _ _ q10) (rq1 (Gm _ _ _ _ _ _ q12) rqn)) (Zb (Za (zg [1, 4, 5, 13, 14, 15, 32] 2 (Zb (cn h13 (fun _ h15 => ?_) (fun _ h16 => ?_))))))
 exact Za (zg [2] 0 (Zb (Zg (Zh (ZB (Zh (rr h15 ⟨rfl, er0 _⟩)))))))
 refine Ze (Zb (Za (zg [1, 13, 14, 15, 35, 36, 37] 1 (Zb (Zj ?_)))))
 obtain ⟨y9, q33, h34⟩ := bind_some h16
 refine zl (fun (p5 : Int) => ⟨56, [(1, .ref 0 0), u1, (14, .int .i64 u2), (15, .int .i64 p1), (35, sL 7 ZbO u4), (36, .int .i64 (u4.length : Int)), (37, .int .i64 p5)], u3⟩) (Sum.elim (fun z => OutE 2 (fun z => ⟨56, [(1, .ref 0 0), u1, (14, .int .i64 u2), (15, .int .i64 p1)], u3⟩) z) (fun z => OutR Tryz.prog Tryz.f77 (.int .i64 z))) q33 ?_ ?_
 intro p5 y6 h17
 unfold M.Yp at h17
 refine Za (zg [1, 13, 14, 15, 35, 36, 37, 38] 1 (Zb (Za (cn h17 (fun _ h19 => ?_) (fun _ h20 => ?_)))))
 refine Ze (Zb (Za (Zj (Za ?_))))
 obtain ⟨c21, h22⟩ := ZA h19
 refine zc [1, 7, 13, 14, 15, 35, 36, 37] 2 c21 (Zb (Za (Za ?_)))
 obtain ⟨r7, q23, h24⟩ := bind_some h22
 refine zr [1, 7, 13, 14, 15, 35, 36, 37, 50] 2 Zw (rq2 (fun hg => Ud _ _ _ (Xc q23 hg)) rqn) (Zb (cn h24 (fun _ h26 => ?_) (fun _ h27 => ?_)))
 exact Za (zg [2] 0 (Zb (Zg (Zh (ZB (Zh (rr h26 ⟨rfl, er0 _⟩)))))))
 refine Ze (Zb (Za ?_))
 obtain ⟨r8, q28, h29⟩ := bind_some h27
 refine zr [1, 13, 14, 15, 35, 36, 37, 53] 1 Zw (rq1 (Za7 _ _ q28) rqn) (Zb (cn h29 (fun _ h31 => ?_) (fun _ h32 => ?_)))
 exact Za (zg [2] 0 (Zb (Zg (ZB (Zh (rr h31 ⟨rfl, er0 _⟩))))))
 exact Ze (XM (Zb (zg [1, 13, 14, 15, 35, 36, 37] 1 (rn h32))))
 exact ZV (Xs (re h20 ⟨rfl, kq⟩))
 intro e35 s36 o37
 rcases y9 with g10 | y11
 have h38 := XP h34
 obtain ⟨rfl, l40⟩ := o37
 exact Qd (XM (XE (s' := ⟨56, [(1, .ref 0 0), u1, (14, .int .i64 u2), (15, .int .i64 p1)], u3⟩) (l40) (zg [1, 13, 14, 15] 1 (rn h38))))
 have h39 := XQ h34
 obtain ⟨rfl, n41⟩ := o37
 exact ZB (ZB (Zh (rr h39 ⟨rfl, n41⟩)))
 exact ZV (Xs (re h7 ⟨rfl, kc⟩))
 intro e44 s45 o46
 rcases y12 with g13 | y14
 have h47 := XP h43
 exact zi o46 (Za (zg [2] 0 (Zb (Zg (er1 h47)))))
 have h48 := XQ h43
 obtain ⟨rfl, n50⟩ := o46
 refine ZB (Zh ?_)
 obtain rfl := Option.some.inj h48
 exact n50
theorem ZfF (a0 : WD) (b0 : ByteArray) (r : Bool) (h : M.WX a0 b0 = some r) : Fn Tryz.prog 171 [.agg (Qb a0), .pp (cs b0)] (.pure (.bool r)) := by
 unfold M.WX at h
 exact ZQ Tryz.func171 rfl (by kernel_rfl) (Za (zg [1, 2] 1 (Zb (Za (zg [3] 0 (Zb (Zg (er1 h))))))))
theorem WV (a0 : List WD) (a1c0 : ByteArray) (r : Int) (h : M.Xm a0 a1c0 = some r) : Fn Tryz.prog 170 [sL 2 Qb a0, .fn 171 [.pp (cs a1c0)]] (.pure (.int .i64 r)) := by
 unfold M.Xm at h
 refine ZQ Tryz.func170 rfl (by kernel_rfl) (Za (zg [0, 1] 0 (Zb (Za (Za (zg [0, 1, 7, 8] 0 (Zb (Zj ?_))))))))
 obtain ⟨y4, q12, h13⟩ := bind_some h
 refine zl (fun (p1 : Int) => ⟨19, [(0, sL 2 Qb a0), (1, .fn 171 [.pp (cs a1c0)]), (7, .int .i64 (a0.length : Int)), (8, .int .i64 p1)], []⟩) (Sum.elim (fun z => OutE 0 (fun z => ⟨19, [], []⟩) z) (fun z => OutR Tryz.prog Tryz.f170 (.int .i64 z))) q12 ?_ ?_
 intro p1 y2 h1
 unfold M.Xe at h1
 refine Za (zg [0, 1, 7, 8, 9] 0 (Zb (Za (cn h1 (fun _ h3 => ?_) (fun _ h4 => ?_)))))
 refine Ze (Zb (Za (Zj (Za (zg [0, 1, 5, 7, 8] 0 (Zb (Za ?_)))))))
 obtain ⟨r3, q5, h6⟩ := bind_some h3
 obtain ⟨c7, h8⟩ := ZA h6
 refine zr [0, 1, 5, 7, 8, 16] 0 c7 (rq1 (ZfF _ _ _ q5) rqn) (Zb (cn h8 (fun _ h10 => ?_) (fun _ h11 => ?_)))
 exact Za (zg [4] 0 (Zb (Zg (ZB (Zh (rr h10 ⟨rfl, er0 _⟩))))))
 exact Ze (XM (Zb (zg [0, 1, 7, 8] 0 (rn h11))))
 exact ZV (Xs (re h4 ⟨rfl, kq⟩))
 intro e14 s15 o16
 rcases y4 with g5 | y6
 have h17 := XP h13
 exact zi o16 (Za (zg [4] 0 (Zb (Zg (er1 h17)))))
 have h18 := XQ h13
 obtain ⟨rfl, n20⟩ := o16
 refine ZB (Zh ?_)
 obtain rfl := Option.some.inj h18
 exact n20
theorem Ku (a0 : Zf) (a1 : ByteArray) (r : Int) (h : M.VN a0 a1 = some r) : Fn Tryz.prog 139 [.agg (Zx a0), .str a1] (.pure (.int .i64 r)) := by
 unfold M.VN at h
 refine ZQ Tryz.func139 rfl (by kernel_rfl) (Za (zg [2, 3] 2 (Zb (Za ?_))))
 obtain ⟨r1, q1, h2⟩ := bind_some h
 exact zr [4] 0 Zw (rq1 (WV _ _ _ q1) rqn) (Zb (Zg (er1 h2)))
theorem Kj (a0 : JW) (r : Bool) (h : M.QQ a0 = some r) : Fn Tryz.prog 172 [.agg (Kr a0)] (.pure (.bool r)) := by
 unfold M.QQ at h
 exact ZQ Tryz.func172 rfl (by kernel_rfl) (Za (zg [1] 1 (Zb (Za (zg [2] 0 (Zb (Zg (er1 h))))))))
theorem ZcG (a0 : Zar) (r : Bool) (h : M.JG a0 = some r) : Fn Tryz.prog 140 [.agg (Zdn a0)] (.pure (.bool r)) := by
 unfold M.JG at h
 refine ZQ Tryz.func140 rfl (by kernel_rfl) (Za (zg [1] 1 (Zb (Za (Za ?_)))))
 obtain ⟨r1, q1, h2⟩ := bind_some h
 refine zr [1, 27] 1 Zw (rq1 (XK _ _ _ _ q1) rqn) (Zb (cn h2 (fun _ h4 => ?_) (fun _ h5 => ?_)))
 exact Za (zg [2] 0 (Zb (Zg (Zh (er1 h4)))))
 refine Ze (Zb (Za (Za ?_)))
 obtain ⟨r2, q6, h7⟩ := bind_some h5
 obtain ⟨r3, q8, h9⟩ := bind_some h7
 refine zr [1, 37] 1 Zw (rq1 (Kj _ _ q6) (rq2 (fun hg => Kj _ _ (Xc q8 hg)) rqn)) (Zb (cn h9 (fun _ h11 => ?_) (fun _ h12 => ?_)))
 exact Za (zg [2] 0 (Zb (Zg (Zh (er1 h11)))))
 exact Ze (Zb (Za (zg [1, 3] 2 (Zb (Za (zg [2] 0 (Zb (Zg (er1 h12)))))))))
theorem ZcH (a0 : Zf) (r : Int) (h : M.JH a0 = some r) : Fn Tryz.prog 78 [.agg (Zx a0)] (.pure (.int .i64 r)) := by
 let u1 : Nat × D := (13, sL 2 Qb a0.XO)
 let u2 := (a0.XO.length : Int)
 let u3 : List Ob := [.box (Zx a0)]
 unfold M.JH at h
 refine ZQ Tryz.func78 rfl (by kernel_rfl) (Za (zg [1] 1 (Zb (Za (Za (zg [1, 11] 1 (Zb (cn h (fun _ h2 => ?_) (fun _ h3 => ?_)))))))))
 exact Za (zg [2] 0 (Zb (Zg (Zh (er1 h2)))))
 refine Ze (Zb (Za (Za (zg [1, 13, 14, 15] 1 (Zb (Zj ?_))))))
 obtain ⟨y11, q37, h38⟩ := bind_some h3
 refine zl (fun (p1 : Int) => ⟨46, [(1, .ref 0 0), u1, (14, .int .i64 u2), (15, .int .i64 p1)], u3⟩) (Sum.elim (fun z => OutE 0 (fun z => ⟨46, [], []⟩) z) (fun z => OutR Tryz.prog Tryz.f78 (.int .i64 z))) q37 ?_ ?_
 intro p1 y2 h4
 let u4 := (a0.XO.getD p1.toNat default).Xz
 unfold M.Ja at h4
 refine Za (zg [1, 13, 14, 15, 16] 1 (Zb (Za (cn h4 (fun _ h6 => ?_) (fun _ h7 => ?_)))))
 refine Ze (Zb (Za (Zj (Za ?_))))
 obtain ⟨c8, h9⟩ := ZA h6
 refine zc [1, 3, 4, 13, 14, 15] 2 c8 (Zb (Za (Za ?_)))
 obtain ⟨r3, q10, h11⟩ := bind_some h9
 obtain ⟨r4, q12, h13⟩ := bind_some h11
 refine zr [1, 4, 5, 13, 14, 15] 2 Zw (rq1 (Ku _ _ _ q10) (rq1 (Gm _ _ _ _ _ _ q12) rqn)) (Zb (Za (zg [1, 4, 5, 13, 14, 15, 32] 2 (Zb (cn h13 (fun _ h15 => ?_) (fun _ h16 => ?_))))))
 exact Za (zg [2] 0 (Zb (Zg (Zh (ZB (Zh (rr h15 ⟨rfl, er0 _⟩)))))))
 refine Ze (Zb (Za (zg [1, 13, 14, 15, 35, 36, 37] 1 (Zb (Zj ?_)))))
 obtain ⟨y8, q28, h29⟩ := bind_some h16
 refine zl (fun (p5 : Int) => ⟨46, [(1, .ref 0 0), u1, (14, .int .i64 u2), (15, .int .i64 p1), (35, sL 10 Zdn u4), (36, .int .i64 (u4.length : Int)), (37, .int .i64 p5)], u3⟩) (Sum.elim (fun z => OutE 2 (fun z => ⟨46, [(1, .ref 0 0), u1, (14, .int .i64 u2), (15, .int .i64 p1)], u3⟩) z) (fun z => OutR Tryz.prog Tryz.f78 (.int .i64 z))) q28 ?_ ?_
 intro p5 y6 h17
 unfold M.QC at h17
 refine Za (zg [1, 13, 14, 15, 35, 36, 37, 38] 1 (Zb (Za (cn h17 (fun _ h19 => ?_) (fun _ h20 => ?_)))))
 refine Ze (Zb (Za (Zj (Za ?_))))
 obtain ⟨c21, h22⟩ := ZA h19
 refine zc [1, 7, 13, 14, 15, 35, 36, 37] 2 c21 (Zb (Za ?_))
 obtain ⟨r7, q23, h24⟩ := bind_some h22
 refine zr [1, 13, 14, 15, 35, 36, 37, 43] 1 Zw (rq1 (ZcG _ _ q23) rqn) (Zb (cn h24 (fun _ h26 => ?_) (fun _ h27 => ?_)))
 exact Za (zg [2] 0 (Zb (Zg (ZB (Zh (rr h26 ⟨rfl, er0 _⟩))))))
 exact Ze (XM (Zb (zg [1, 13, 14, 15, 35, 36, 37] 1 (rn h27))))
 exact ZV (Xs (re h20 ⟨rfl, kq⟩))
 intro e30 s31 o32
 rcases y8 with g9 | y10
 have h33 := XP h29
 obtain ⟨rfl, l35⟩ := o32
 exact Qd (XM (XE (s' := ⟨46, [(1, .ref 0 0), u1, (14, .int .i64 u2), (15, .int .i64 p1)], u3⟩) (l35) (zg [1, 13, 14, 15] 1 (rn h33))))
 have h34 := XQ h29
 obtain ⟨rfl, n36⟩ := o32
 exact ZB (ZB (Zh (rr h34 ⟨rfl, n36⟩)))
 exact ZV (Xs (re h7 ⟨rfl, kc⟩))
 intro e39 s40 o41
 rcases y11 with g12 | y13
 have h42 := XP h38
 exact zi o41 (Za (zg [2] 0 (Zb (Zg (er1 h42)))))
 have h43 := XQ h38
 obtain ⟨rfl, n45⟩ := o41
 refine ZB (Zh ?_)
 obtain rfl := Option.some.inj h43
 exact n45
theorem KR (a0 : YS) (r : Bool) (h : M.YU a0 = some r) : Fn Tryz.prog 141 [.agg (Xa a0)] (.pure (.bool r)) := by
 unfold M.YU at h
 refine ZQ Tryz.func141 rfl (by kernel_rfl) (Za (zg [1] 1 (Zb (Za (Za (zg [1, 6] 1 (Zb (Zj (Za (zg [1, 6, 7] 1 (Zb (cn h (fun _ h2 => ?_) (fun _ h3 => ?_)))))))))))))
 exact Za (zg [1, 3] 2 (Zb (Za (zg [2] 0 (Zb (Zg (ZB (Zh (er1 h2)))))))))
 refine Za (zg [1, 6, 29] 1 (Zb (cn h3 (fun _ h5 => ?_) (fun _ h6 => ?_))))
 exact Za (zg [1, 4] 2 (Zb (Za (zg [2] 0 (Zb (Zg (ZB (Zh (er1 h5)))))))))
 refine Za (zg [1, 63] 1 (Zb (cn h6 (fun _ h8 => ?_) (fun _ h9 => ?_))))
 refine Za ?_
 obtain ⟨r1, q10, h11⟩ := bind_some h8
 obtain ⟨r2, q12, h13⟩ := bind_some h11
 exact zr [2] 0 Zw (rq2 (fun hg => XK _ _ _ _ (Xc q10 hg)) (rq2 (fun hg => XK _ _ _ _ (Xc q12 hg)) rqn)) (Zb (Zg (ZB (Zh (er1 h13)))))
 exact Ze (XM (Zb (Za (zg [2] 0 (Zb (Zg (er1 h9)))))))
theorem Zdt (a0 : Zf) (r : Int) (h : M.JX a0 = some r) : Fn Tryz.prog 79 [.agg (Zx a0)] (.pure (.int .i64 r)) := by
 unfold M.JX at h
 refine ZQ Tryz.func79 rfl (by kernel_rfl) (Za (zg [1] 1 (Zb (Za (Za (zg [1, 8] 1 (Zb (cn h (fun _ h2 => ?_) (fun _ h3 => ?_)))))))))
 exact Za (zg [2] 0 (Zb (Zg (Zh (er1 h2)))))
 refine Ze (Zb (Za (Za (zg [1, 10, 11, 12] 1 (Zb (Zj ?_))))))
 obtain ⟨y5, q20, h21⟩ := bind_some h3
 refine zl (fun (p1 : Int) => ⟨30, [(1, .ref 0 0), (10, sL 9 Xa a0.Xd), (11, .int .i64 (a0.Xd.length : Int)), (12, .int .i64 p1)], [.box (Zx a0)]⟩) (Sum.elim (fun z => OutE 0 (fun z => ⟨30, [], []⟩) z) (fun z => OutR Tryz.prog Tryz.f79 (.int .i64 z))) q20 ?_ ?_
 intro p1 y2 h4
 unfold M.Ju at h4
 refine Za (zg [1, 10, 11, 12, 13] 1 (Zb (Za (cn h4 (fun _ h6 => ?_) (fun _ h7 => ?_)))))
 refine Ze (Zb (Za (Zj (Za ?_))))
 obtain ⟨c8, h9⟩ := ZA h6
 refine zc [1, 4, 10, 11, 12] 2 c8 (Zb (Za (Za ?_)))
 obtain ⟨r3, q10, h11⟩ := bind_some h9
 refine zr [1, 4, 10, 11, 12, 18] 2 Zw (rq1 (KR _ _ q10) rqn) (Zb (cn h11 (fun _ h13 => ?_) (fun _ h14 => ?_)))
 exact Za (zg [2] 0 (Zb (Zg (Zh (ZB (Zh (rr h13 ⟨rfl, er0 _⟩)))))))
 refine Ze (Zb (Za ?_))
 obtain ⟨r4, q15, h16⟩ := bind_some h14
 refine zr [1, 10, 11, 12, 28] 1 Zw (rq2 (fun hg => Ku _ _ _ (Xc q15 hg)) rqn) (Zb (cn h16 (fun _ h18 => ?_) (fun _ h19 => ?_)))
 exact Za (zg [2] 0 (Zb (Zg (ZB (Zh (rr h18 ⟨rfl, er0 _⟩))))))
 exact Ze (XM (Zb (zg [1, 10, 11, 12] 1 (rn h19))))
 exact ZV (Xs (re h7 ⟨rfl, kc⟩))
 intro e22 s23 o24
 rcases y5 with g6 | y7
 have h25 := XP h21
 exact zi o24 (Za (zg [2] 0 (Zb (Zg (er1 h25)))))
 have h26 := XQ h21
 obtain ⟨rfl, n28⟩ := o24
 refine ZB (Zh ?_)
 obtain rfl := Option.some.inj h26
 exact n28
theorem Zay (a0 : Zf) (r : Int) (h : M.Jb a0 = some r) : Fn Tryz.prog 80 [.agg (Zx a0)] (.pure (.int .i64 r)) := by
 unfold M.Jb at h
 refine ZQ Tryz.func80 rfl (by kernel_rfl) (Za (zg [1] 1 (Zb (Za (Za (zg [1, 6, 7, 8] 1 (Zb (Zj ?_))))))))
 obtain ⟨y5, q14, h15⟩ := bind_some h
 refine zl (fun (p1 : Int) => ⟨35, [(1, .ref 0 0), (6, sL 12 Zn a0.Zc), (7, .int .i64 (a0.Zc.length : Int)), (8, .int .i64 p1)], [.box (Zx a0)]⟩) (Sum.elim (fun z => OutE 0 (fun z => ⟨35, [], []⟩) z) (fun z => OutR Tryz.prog Tryz.f80 (.int .i64 z))) q14 ?_ ?_
 intro p1 y2 h1
 unfold M.QH at h1
 refine Za (zg [1, 6, 7, 8, 9] 1 (Zb (Za (cn h1 (fun _ h3 => ?_) (fun _ h4 => ?_)))))
 refine Ze (Zb (Za (Zj (Za ?_))))
 obtain ⟨c5, h6⟩ := ZA h3
 refine zc [1, 4, 6, 7, 8] 2 c5 (Zb (Za ?_))
 obtain ⟨r3, q7, h8⟩ := bind_some h6
 obtain ⟨r4, q9, h10⟩ := bind_some h8
 refine zr [1, 6, 7, 8, 33] 1 Zw (rq2 (fun hg => Ku _ _ _ (Xc q7 hg)) (rq2 (fun hg => Ku _ _ _ (Xc q9 hg)) rqn)) (Zb (cn h10 (fun _ h12 => ?_) (fun _ h13 => ?_)))
 exact Za (zg [2] 0 (Zb (Zg (ZB (Zh (rr h12 ⟨rfl, er0 _⟩))))))
 exact Ze (XM (Zb (zg [1, 6, 7, 8] 1 (rn h13))))
 exact ZV (Xs (re h4 ⟨rfl, kc⟩))
 intro e16 s17 o18
 rcases y5 with g6 | y7
 have h19 := XP h15
 exact zi o18 (Za (zg [2] 0 (Zb (Zg (er1 h19)))))
 have h20 := XQ h15
 obtain ⟨rfl, n22⟩ := o18
 refine ZB (Zh ?_)
 obtain rfl := Option.some.inj h20
 exact n22
theorem ZcI (a0 : Zy) (b0 : Int) (r : Bool) (h : M.VB a0 b0 = some r) : Fn Tryz.prog 147 [.agg (Zn a0), .pp ((ci .u32) b0)] (.pure (.bool r)) := by
 unfold M.VB at h
 exact ZQ Tryz.func147 rfl (by kernel_rfl) (Za (zg [1, 2] 1 (Zb (Za (zg [3] 0 (Zb (Zg (er1 h))))))))
theorem VR (a0 : List Zy) (a1c0 : Int) (r : Int) (h : M.ZY a0 a1c0 = some r) : Fn Tryz.prog 146 [sL 12 Zn a0, .fn 147 [.pp ((ci .u32) a1c0)]] (.pure (.int .i64 r)) := by
 unfold M.ZY at h
 refine ZQ Tryz.func146 rfl (by kernel_rfl) (Za (zg [0, 1] 0 (Zb (Za (Za (zg [0, 1, 7, 8] 0 (Zb (Zj ?_))))))))
 obtain ⟨y4, q12, h13⟩ := bind_some h
 refine zl (fun (p1 : Int) => ⟨19, [(0, sL 12 Zn a0), (1, .fn 147 [.pp ((ci .u32) a1c0)]), (7, .int .i64 (a0.length : Int)), (8, .int .i64 p1)], []⟩) (Sum.elim (fun z => OutE 0 (fun z => ⟨19, [], []⟩) z) (fun z => OutR Tryz.prog Tryz.f146 (.int .i64 z))) q12 ?_ ?_
 intro p1 y2 h1
 unfold M.ZR at h1
 refine Za (zg [0, 1, 7, 8, 9] 0 (Zb (Za (cn h1 (fun _ h3 => ?_) (fun _ h4 => ?_)))))
 refine Ze (Zb (Za (Zj (Za (zg [0, 1, 5, 7, 8] 0 (Zb (Za ?_)))))))
 obtain ⟨r3, q5, h6⟩ := bind_some h3
 obtain ⟨c7, h8⟩ := ZA h6
 refine zr [0, 1, 5, 7, 8, 16] 0 c7 (rq1 (ZcI _ _ _ q5) rqn) (Zb (cn h8 (fun _ h10 => ?_) (fun _ h11 => ?_)))
 exact Za (zg [4] 0 (Zb (Zg (ZB (Zh (rr h10 ⟨rfl, er0 _⟩))))))
 exact Ze (XM (Zb (zg [0, 1, 7, 8] 0 (rn h11))))
 exact ZV (Xs (re h4 ⟨rfl, kq⟩))
 intro e14 s15 o16
 rcases y4 with g5 | y6
 have h17 := XP h13
 exact zi o16 (Za (zg [4] 0 (Zb (Zg (er1 h17)))))
 have h18 := XQ h13
 obtain ⟨rfl, n20⟩ := o16
 refine ZB (Zh ?_)
 obtain rfl := Option.some.inj h18
 exact n20
theorem RA (a0 : Zf) (a1 : Int) (r : Int) (h : M.J5 a0 a1 = some r) : Fn Tryz.prog 87 [.agg (Zx a0), .int .u32 a1] (.pure (.int .i64 r)) := by
 unfold M.J5 at h
 refine ZQ Tryz.func87 rfl (by kernel_rfl) (Za (zg [2, 3] 2 (Zb (Za ?_))))
 obtain ⟨r1, q1, h2⟩ := bind_some h
 exact zr [4] 0 Zw (rq1 (VR _ _ _ q1) rqn) (Zb (Zg (er1 h2)))
theorem Za8 (a0 : Zf) (a1 : Yc) (r : Bool) (h : M.Qx a0 a1 = some r) : Fn Tryz.prog 142 [.agg (Zx a0), .agg (Z5 a1)] (.pure (.bool r)) := by
 let u1 : Nat × D := (16, sL 1 cb ([a1.Vf != 0, !strEq a1.QB (⟨#[]⟩ : ByteArray), a1.Vt] : List Bool))
 let u2 : List Ob := [.box (Zx a0), .box (Z5 a1)]
 unfold M.Qx at h
 refine ZQ Tryz.func142 rfl (by kernel_rfl) (Za (zg [2, 3] 2 (Zb (Za (zg [2, 3, 5] 2 (Zb (Za (Za (rg0 [2, 3, 5, 16, 17, 18] 2 ⟨55, [(2, .ref 0 0), (3, .ref 1 0), (5, .int .i64 0), (16, .sl true 1 3 (fun i => List.take 1 (List.drop (i * 1) [.bool (a1.Vf != 0), .bool (!strEq a1.QB (⟨#[]⟩ : ByteArray)), .bool a1.Vt]))), (17, .int .i64 3), (18, .int .i64 0)], [.box (Zx a0), .box (Z5 a1)]⟩ (XE (s' := ⟨55, [(2, .ref 0 0), (3, .ref 1 0), (5, .int .i64 0), (16, sL 1 cb ([a1.Vf != 0, !strEq a1.QB (⟨#[]⟩ : ByteArray), a1.Vt] : List Bool)), (17, .int .i64 3), (18, .int .i64 0)], [.box (Zx a0), .box (Z5 a1)]⟩) (VX (.cons Sub.rfl (.cons Sub.rfl (.cons Sub.rfl (.cons (Uv rfl (fun i hi => match i, hi with | 0, _ => rfl | 1, _ => rfl | 2, _ => rfl | n + 3, h => absurd h (by omega))) (.cons Sub.rfl (.cons Sub.rfl .nil)))))) (.cons .rfl (.cons .rfl .nil))) (Zj ?_)))))))))))
 obtain ⟨y4, q12, h13⟩ := bind_some h
 refine zl (fun (p1 : Int × Int) => ⟨55, [(2, .ref 0 0), (3, .ref 1 0), (5, .int .i64 p1.1), u1, (17, .int .i64 3), (18, .int .i64 p1.2)], u2⟩) (fun z => OutE 0 (fun z => ⟨55, [(2, .ref 0 0), (3, .ref 1 0), (5, .int .i64 z)], u2⟩) z) q12 ?_ ?_
 intro p1 y2 h1
 unfold M.YZ at h1
 refine Za (rg0 [2, 3, 5, 16, 17, 18, 19] 2 ⟨55, [(2, .ref 0 0), (3, .ref 1 0), (5, .int .i64 p1.1), u1, (17, .int .i64 3), (18, .int .i64 p1.2), (19, .bool (decide (p1.2 < 3)))], u2⟩ (Zb (Za (cn h1 (fun _ h3 => ?_) (fun _ h4 => ?_)))))
 refine Ze (Zb (Uj (fun (p3 : Int) => ⟨55, [(2, .ref 0 0), (3, .ref 1 0), (5, .int .i64 p3), u1, (17, .int .i64 3), (18, .int .i64 p1.2)], u2⟩) (fun p3 => M.YD p1 p3 = some y2) ?_ ?_))
 intro p3 h6
 unfold M.YD at h6
 exact zg [2, 3, 5, 16, 17, 18] 2 (rn h6)
 intro k5
 refine Zj (Za ?_)
 obtain ⟨c7, h8⟩ := ZA h3
 refine zc [2, 3, 5, 7, 16, 17, 18] 2 c7 (Zb (Za (zg [2, 3, 5, 16, 17, 18, 22] 2 (Zb (cn h8 (fun _ h10 => ?_) (fun _ h11 => ?_))))))
 exact zg [2, 3, 5, 16, 17, 18] 2 (XM (XE lk (k5 (wr .i64 (p1.1 + 1)) h10)))
 exact Ze (XM (XE kq (k5 p1.1 h11)))
 exact ZV (Xs (re h4 ⟨rfl, kq⟩))
 intro e14 s15 o16
 refine zi o16 (Za ?_)
 obtain ⟨r5, q18, h19⟩ := bind_some h13
 obtain ⟨r6, q20, h21⟩ := bind_some h19
 obtain ⟨r7, q22, h23⟩ := bind_some h21
 obtain ⟨r8, q24, h25⟩ := bind_some h23
 exact zr [4] 0 Zw (rq1 (W8 _ _ q18) (rq2 (fun hg => RA _ _ _ (Xc q20 hg)) (rq2 (fun hg => XK _ _ _ _ (Xc q22 hg)) (rq2 (fun hg => XK _ _ _ _ (Xc q24 hg)) rqn)))) (Zb (Zg (er1 h25)))
theorem Zaz (a0 : Zf) (r : Int) (h : M.QD a0 = some r) : Fn Tryz.prog 81 [.agg (Zx a0)] (.pure (.int .i64 r)) := by
 let u2 : Nat × D := (13, sL 7 Z5 a0.Zq)
 let u3 := (a0.Zq.length : Int)
 let u6 := Zx a0
 unfold M.QD at h
 refine ZQ Tryz.func81 rfl (by kernel_rfl) (Za (zg [1] 1 (Zb (Za (Za (zg [1, 11] 1 (Zb (cn h (fun _ h2 => ?_) (fun _ h3 => ?_)))))))))
 exact Za (zg [2] 0 (Zb (Zg (Zh (er1 h2)))))
 refine Ze (Zb (Za (Za (zg [1, 13, 14, 15] 1 (Zb (Zj ?_))))))
 obtain ⟨y11, q50, h51⟩ := bind_some h3
 refine zl (fun (p1 : Int) => ⟨63, [(1, .ref 0 0), u2, (14, .int .i64 u3), (15, .int .i64 p1)], [.box u6]⟩) (Sum.elim (fun z => OutE 0 (fun z => ⟨63, [], []⟩) z) (fun z => OutR Tryz.prog Tryz.f81 (.int .i64 z))) q50 ?_ ?_
 intro p1 y2 h4
 let u4 := a0.Zq.getD p1.toNat default
 let u1 : List Ob := [.box u6, .box (Z5 u4)]
 let u5 : Nat × D := (43, sL 7 Z5 ((a0.Zq.drop 0).take (p1.toNat - 0)))
 unfold M.Qg at h4
 refine Za (zg [1, 13, 14, 15, 16] 1 (Zb (Za (cn h4 (fun _ h6 => ?_) (fun _ h7 => ?_)))))
 refine Ze (Zb (Za (Zj (Za ?_))))
 obtain ⟨c8, h9⟩ := ZA h6
 refine zc [1, 3, 4, 13, 14, 15] 2 c8 (Zb (Za (Za ?_)))
 obtain ⟨r3, q10, h11⟩ := bind_some h9
 refine rg [.pure (.bool r3)] [1, 3, 4, 13, 14, 15, 23] 2 ⟨63, [(1, .ref 0 0), (3, .int .i64 p1), (4, .ref 1 0), u2, (14, .int .i64 u3), (15, .int .i64 p1), (23, .bool (!r3))], u1⟩ [] [⟨true, 142, [.agg u6, .agg (Z5 u4)], .pure (.bool r3)⟩] Zw ⟨fun _ => Za8 a0 u4 r3 q10, trivial⟩ (Zb (cn h11 (fun _ h13 => ?_) (fun _ h14 => ?_)))
 exact Za (zg [2] 0 (Zb (Zg (Zh (ZB (Zh (rr h13 ⟨rfl, er0 _⟩)))))))
 refine Ze (Zb (Uj (fun (p4 : Unit) => ⟨63, [(1, .ref 0 0), (3, .int .i64 p1), (4, .ref 1 0), u2, (14, .int .i64 u3), (15, .int .i64 p1)], u1⟩) (fun p4 => M.Yu a0 p1 p4 = some y2) ?_ ?_))
 intro p4 h16
 unfold M.Yu at h16
 refine Za ?_
 obtain ⟨c17, h18⟩ := ZA h16
 refine rgc [1, 4, 13, 14, 15, 43, 44, 45] 2 ⟨63, [(1, .ref 0 0), (4, .ref 1 0), u2, (14, .int .i64 u3), (15, .int .i64 p1), (43, .sl false 7 (p1.toNat - 0) (fun i => Z5 (a0.Zq.getD (0 + i) default))), (44, .int .i64 ((p1.toNat - 0 : Nat) : Int)), (45, .int .i64 0)], u1⟩ [decide (0 ≤ p1), decide (p1 ≤ u3)] c17 (XE (s' := ⟨63, [(1, .ref 0 0), (4, .ref 1 0), u2, (14, .int .i64 u3), (15, .int .i64 p1), u5, (44, .int .i64 ((p1.toNat - 0 : Nat) : Int)), (45, .int .i64 0)], u1⟩) (VX (.cons Sub.rfl (.cons Sub.rfl (.cons Sub.rfl (.cons Sub.rfl (.cons Sub.rfl (.cons (Uv (Kp _ _ _ (RX (c17 _ (List.mem_cons_of_mem _ List.mem_cons_self)))) (Ko _ _ _ _)) (.cons Sub.rfl (.cons Sub.rfl .nil)))))))) (.cons .rfl (.cons .rfl .nil))) (Zj ?_))
 obtain ⟨y7, q28, h29⟩ := bind_some h18
 refine zl (fun (p5 : Int) => ⟨63, [(1, .ref 0 0), (4, .ref 1 0), u2, (14, .int .i64 u3), (15, .int .i64 p1), u5, (44, .int .i64 ((p1.toNat - 0 : Nat) : Int)), (45, .int .i64 p5)], u1⟩) (Sum.elim (fun z => OutE 2 (fun z => ⟨63, [(1, .ref 0 0), u2, (14, .int .i64 u3), (15, .int .i64 p1)], [.box u6]⟩) z) (fun z => OutR Tryz.prog Tryz.f81 (.int .i64 z))) q28 ?_ ?_
 intro p5 y6 h19
 unfold M.YI at h19
 refine Za (zg [1, 4, 13, 14, 15, 43, 44, 45, 46] 2 (Zb (Za (cn h19 (fun _ h21 => ?_) (fun _ h22 => ?_)))))
 refine Ze (Zb (Za (Zj (Za ?_))))
 obtain ⟨c23, h24⟩ := ZA h21
 refine zc [1, 4, 7, 13, 14, 15, 43, 44, 45] 3 c23 (Zb (Za (zg [1, 4, 13, 14, 15, 43, 44, 45, 60] 2 (Zb (cn h24 (fun _ h26 => ?_) (fun _ h27 => ?_))))))
 exact Za (zg [2] 0 (Zb (Zg (ZB (Zh (rr h26 ⟨rfl, er0 _⟩))))))
 exact Ze (XM (Zb (zg [1, 4, 13, 14, 15, 43, 44, 45] 2 (rn h27))))
 exact ZV (Xs (re h22 ⟨rfl, kc⟩))
 intro e30 s31 o32
 rcases y7 with g8 | y9
 have h33 := XP h29
 obtain ⟨rfl, l35⟩ := o32
 exact Qd (XM (XE (s' := ⟨63, [(1, .ref 0 0), u2, (14, .int .i64 u3), (15, .int .i64 p1)], [.box u6]⟩) (l35) (zg [1, 13, 14, 15] 1 (rn h33))))
 have h34 := XQ h29
 obtain ⟨rfl, n36⟩ := o32
 exact ZB (ZB (Zh (rr h34 ⟨rfl, n36⟩)))
 intro k15
 refine Za (zg [1, 3, 4, 13, 14, 15, 26] 2 (Zb (cn h14 (fun _ h38 => ?_) (fun _ h39 => ?_))))
 refine Za ?_
 obtain ⟨r10, q40, h41⟩ := bind_some h38
 refine zr [1, 3, 4, 5, 13, 14, 15] 2 Zw (rq1 (KD _ _ _ q40) rqn) (Zb (Za (Za (zg [1, 3, 4, 5, 13, 14, 15, 32] 2 (Zb (cn h41 (fun _ h43 => ?_) (fun _ h44 => ?_)))))))
 exact Za (zg [2] 0 (Zb (Zg (Zh (Zh (ZB (Zh (rr h43 ⟨rfl, er0 _⟩))))))))
 refine Ze (Zb (Za ?_))
 obtain ⟨c45, h46⟩ := ZA h44
 refine zc [1, 3, 4, 13, 14, 15, 39] 2 c45 (Zb (cn h46 (fun _ h48 => ?_) (fun _ h49 => ?_)))
 exact Za (zg [2] 0 (Zb (Zg (Zh (ZB (Zh (rr h48 ⟨rfl, er0 _⟩)))))))
 exact Ze (XE kq (k15 () h49))
 exact Ze (XE kq (k15 () h39))
 exact ZV (Xs (re h7 ⟨rfl, kc⟩))
 intro e52 s53 o54
 rcases y11 with g12 | y13
 have h55 := XP h51
 exact zi o54 (Za (zg [2] 0 (Zb (Zg (er1 h55)))))
 have h56 := XQ h51
 obtain ⟨rfl, n58⟩ := o54
 refine ZB (Zh ?_)
 obtain rfl := Option.some.inj h56
 exact n58
theorem U1 (a0 : Zf) (a1 : List Yw) (a2 : Int) (a3 : Int) (a4 : Int) (a5 : Int) (r : Int) (h : M.YB a0 a1 a2 a3 a4 a5 = some r) : Fn Tryz.prog 143 [.agg (Zx a0), sL 5 ZD a1, .int .i64 a2, .int .i64 a3, .int .i64 a4, .int .i64 a5] (.pure (.int .i64 r)) := by
 let u2 : Nat × D := (20, sL 5 ZD a1)
 let u3 : Nat × D := (1, sL 5 ZD a1)
 let u4 := (a1.length : Int)
 let u6 := Zx a0
 unfold M.YB at h
 refine ZQ Tryz.func143 rfl (by kernel_rfl) (Za (zg [1, 2, 3, 4, 5, 6] 1 (Zb (Za (Za (zg [1, 2, 3, 4, 5, 6, 19] 1 (Zb (cn h (fun _ h2 => ?_) (fun _ h3 => ?_)))))))))
 exact Za (zg [12] 0 (Zb (Zg (Zh (er1 h2)))))
 refine Ze (Zb (Za (Za (zg [1, 2, 3, 4, 5, 6, 20, 21, 22] 1 (Zb (Zj ?_))))))
 obtain ⟨y13, q46, h47⟩ := bind_some h3
 refine zl (fun (p1 : Int) => ⟨85, [u3, (2, .int .i64 a2), (3, .int .i64 a3), (4, .int .i64 a4), (5, .int .i64 a5), (6, .ref 0 0), u2, (21, .int .i64 u4), (22, .int .i64 p1)], [.box u6]⟩) (Sum.elim (fun z => OutE 0 (fun z => ⟨85, [], []⟩) z) (fun z => OutR Tryz.prog Tryz.f143 (.int .i64 z))) q46 ?_ ?_
 intro p1 y2 h4
 let u1 : List Ob := [.box u6, .box (ZD (a1.getD p1.toNat default))]
 let u5 : Nat × D := (72, sL 5 ZD ((a1.drop 0).take (p1.toNat - 0)))
 unfold M.Qr at h4
 refine Za (zg [1, 2, 3, 4, 5, 6, 20, 21, 22, 23] 1 (Zb (Za (cn h4 (fun _ h6 => ?_) (fun _ h7 => ?_)))))
 refine Ze (Zb (Za (Zj (Za ?_))))
 obtain ⟨c8, h9⟩ := ZA h6
 refine zc [1, 2, 3, 4, 5, 6, 13, 14, 20, 21, 22] 2 c8 (Zb (Za (Za ?_)))
 obtain ⟨r3, q10, h11⟩ := bind_some h9
 obtain ⟨r4, q12, h13⟩ := bind_some h11
 obtain ⟨r5, q14, h15⟩ := bind_some h13
 obtain ⟨r6, q16, h17⟩ := bind_some h15
 refine zr [1, 2, 3, 4, 5, 6, 13, 14, 20, 21, 22, 59] 2 Zw (rq1 (XK _ _ _ _ q10) (rq2 (fun hg => XK _ _ _ _ (Xc q12 hg)) (rq2 (fun hg => XK _ _ _ _ (Xc q14 hg)) (rq2 (fun hg => XK _ _ _ _ (Xc q16 hg)) rqn)))) (Zb (cn h17 (fun _ h19 => ?_) (fun _ h20 => ?_)))
 exact Za (zg [12] 0 (Zb (Zg (Zh (ZB (Zh (rr h19 ⟨rfl, er0 _⟩)))))))
 refine Ze (Zb (Za (Za ?_)))
 obtain ⟨r7, q21, h22⟩ := bind_some h20
 refine zr [1, 2, 3, 4, 5, 6, 13, 14, 20, 21, 22, 69] 2 Zw (rq2 (fun hg => UR _ _ _ (Xc q21 hg)) rqn) (Zb (cn h22 (fun _ h24 => ?_) (fun _ h25 => ?_)))
 exact Za (zg [12] 0 (Zb (Zg (Zh (ZB (Zh (rr h24 ⟨rfl, er0 _⟩)))))))
 refine Ze (Zb (Za ?_))
 obtain ⟨c26, h27⟩ := ZA h25
 refine rgc [1, 2, 3, 4, 5, 6, 14, 20, 21, 22, 72, 73, 74] 2 ⟨85, [u3, (2, .int .i64 a2), (3, .int .i64 a3), (4, .int .i64 a4), (5, .int .i64 a5), (6, .ref 0 0), (14, .ref 1 0), u2, (21, .int .i64 u4), (22, .int .i64 p1), (72, .sl false 5 (p1.toNat - 0) (fun i => ZD (a1.getD (0 + i) default))), (73, .int .i64 ((p1.toNat - 0 : Nat) : Int)), (74, .int .i64 0)], u1⟩ [decide (0 ≤ p1), decide (p1 ≤ u4)] c26 (XE (s' := ⟨85, [u3, (2, .int .i64 a2), (3, .int .i64 a3), (4, .int .i64 a4), (5, .int .i64 a5), (6, .ref 0 0), (14, .ref 1 0), u2, (21, .int .i64 u4), (22, .int .i64 p1), u5, (73, .int .i64 ((p1.toNat - 0 : Nat) : Int)), (74, .int .i64 0)], u1⟩) (VX (.cons Sub.rfl (.cons Sub.rfl (.cons Sub.rfl (.cons Sub.rfl (.cons Sub.rfl (.cons Sub.rfl (.cons Sub.rfl (.cons Sub.rfl (.cons Sub.rfl (.cons Sub.rfl (.cons (Uv (Kp _ _ _ (RX (c26 _ (List.mem_cons_of_mem _ List.mem_cons_self)))) (Ko _ _ _ _)) (.cons Sub.rfl (.cons Sub.rfl .nil))))))))))))) (.cons .rfl (.cons .rfl .nil))) (Zj ?_))
 obtain ⟨y10, q37, h38⟩ := bind_some h27
 refine zl (fun (p8 : Int) => ⟨85, [u3, (2, .int .i64 a2), (3, .int .i64 a3), (4, .int .i64 a4), (5, .int .i64 a5), (6, .ref 0 0), (14, .ref 1 0), u2, (21, .int .i64 u4), (22, .int .i64 p1), u5, (73, .int .i64 ((p1.toNat - 0 : Nat) : Int)), (74, .int .i64 p8)], u1⟩) (Sum.elim (fun z => OutE 2 (fun z => ⟨85, [u3, (2, .int .i64 a2), (3, .int .i64 a3), (4, .int .i64 a4), (5, .int .i64 a5), (6, .ref 0 0), u2, (21, .int .i64 u4), (22, .int .i64 p1)], [.box u6]⟩) z) (fun z => OutR Tryz.prog Tryz.f143 (.int .i64 z))) q37 ?_ ?_
 intro p8 y9 h28
 unfold M.Y0 at h28
 refine Za (zg [1, 2, 3, 4, 5, 6, 14, 20, 21, 22, 72, 73, 74, 75] 2 (Zb (Za (cn h28 (fun _ h30 => ?_) (fun _ h31 => ?_)))))
 refine Ze (Zb (Za (Zj (Za ?_))))
 obtain ⟨c32, h33⟩ := ZA h30
 refine zc [1, 2, 3, 4, 5, 6, 14, 16, 20, 21, 22, 72, 73, 74] 3 c32 (Zb (Za (zg [1, 2, 3, 4, 5, 6, 14, 20, 21, 22, 72, 73, 74, 82] 2 (Zb (cn h33 (fun _ h35 => ?_) (fun _ h36 => ?_))))))
 exact Za (zg [12] 0 (Zb (Zg (ZB (Zh (rr h35 ⟨rfl, er0 _⟩))))))
 exact Ze (XM (Zb (zg [1, 2, 3, 4, 5, 6, 14, 20, 21, 22, 72, 73, 74] 2 (rn h36))))
 exact ZV (Xs (re h31 ⟨rfl, kc⟩))
 intro e39 s40 o41
 rcases y10 with g11 | y12
 have h42 := XP h38
 obtain ⟨rfl, l44⟩ := o41
 exact Qd (XM (XE (s' := ⟨85, [u3, (2, .int .i64 a2), (3, .int .i64 a3), (4, .int .i64 a4), (5, .int .i64 a5), (6, .ref 0 0), u2, (21, .int .i64 u4), (22, .int .i64 p1)], [.box u6]⟩) (l44) (zg [1, 2, 3, 4, 5, 6, 20, 21, 22] 1 (rn h42))))
 have h43 := XQ h38
 obtain ⟨rfl, n45⟩ := o41
 exact ZB (ZB (Zh (rr h43 ⟨rfl, n45⟩)))
 exact ZV (Xs (re h7 ⟨rfl, kc⟩))
 intro e48 s49 o50
 rcases y13 with g14 | y15
 have h51 := XP h47
 exact zi o50 (Za (zg [12] 0 (Zb (Zg (er1 h51)))))
 have h52 := XQ h47
 obtain ⟨rfl, n54⟩ := o50
 refine ZB (Zh ?_)
 obtain rfl := Option.some.inj h52
 exact n54
theorem RB (a0 : Zf) (r : Int) (h : M.Y1 a0 = some r) : Fn Tryz.prog 82 [.agg (Zx a0)] (.pure (.int .i64 r)) := by
 let u2 : Nat × D := (37, sL 3 Xx a0.Yi.ZK)
 let u3 := (a0.Yi.ZK.length : Int)
 let u4 : List Ob := [.box (Zx a0), .box (Kt a0.Yi)]
 unfold M.Y1 at h
 refine ZQ Tryz.func82 rfl (by kernel_rfl) (Za (zg [1] 1 (Zb (Za (zg [1, 3] 2 (Zb (Za (Za (zg [1, 3, 12] 2 (Zb (cn h (fun _ h2 => ?_) (fun _ h3 => ?_))))))))))))
 refine Za (Za (zg [27] 0 (Zb (cn h2 (fun _ h5 => ?_) (fun _ h6 => ?_)))))
 exact Za (zg [2] 0 (Zb (Zg (Zh (Zh (er1 h5))))))
 exact Ze (Zb (Za (zg [2] 0 (Zb (Zg (Zh (er1 h6)))))))
 refine Ze (Zb (Za (Za ?_)))
 obtain ⟨r1, q7, h8⟩ := bind_some h3
 refine zr [1, 3, 31] 2 Zw (rq1 (XK _ _ _ _ q7) rqn) (Zb (cn h8 (fun _ h10 => ?_) (fun _ h11 => ?_)))
 exact Za (zg [2] 0 (Zb (Zg (Zh (er1 h10)))))
 refine Ze (Zb (Za (Za (zg [1, 3, 35] 2 (Zb (cn h11 (fun _ h13 => ?_) (fun _ h14 => ?_)))))))
 exact Za (zg [2] 0 (Zb (Zg (Zh (er1 h13)))))
 refine Ze (Zb (Za (Za (zg [1, 3, 37, 38, 39] 2 (Zb (Zj ?_))))))
 obtain ⟨y12, q50, h51⟩ := bind_some h14
 refine zl (fun (p2 : Int) => ⟨81, [(1, .ref 0 0), (3, .ref 1 0), u2, (38, .int .i64 u3), (39, .int .i64 p2)], u4⟩) (Sum.elim (fun z => OutE 0 (fun z => ⟨81, [(1, .ref 0 0), (3, .ref 1 0)], u4⟩) z) (fun z => OutR Tryz.prog Tryz.f82 (.int .i64 z))) q50 ?_ ?_
 intro p2 y3 h15
 let u1 : List Ob := [.box (Zx a0), .box (Kt a0.Yi), .box (Xx (a0.Yi.ZK.getD p2.toNat default))]
 let u5 : Nat × D := (57, sL 3 Xx ((a0.Yi.ZK.drop 0).take (p2.toNat - 0)))
 unfold M.YF at h15
 refine Za (zg [1, 3, 37, 38, 39, 40] 2 (Zb (Za (cn h15 (fun _ h17 => ?_) (fun _ h18 => ?_)))))
 refine Ze (Zb (Za (Zj (Za ?_))))
 obtain ⟨c19, h20⟩ := ZA h17
 refine zc [1, 3, 4, 5, 37, 38, 39] 3 c19 (Zb (Za (Za ?_)))
 obtain ⟨r4, q21, h22⟩ := bind_some h20
 obtain ⟨r5, q23, h24⟩ := bind_some h22
 refine zr [1, 3, 4, 5, 37, 38, 39, 53] 3 Zw (rq1 (XK _ _ _ _ q21) (rq2 (fun hg => W8 _ _ (Xc q23 hg)) rqn)) (Zb (cn h24 (fun _ h26 => ?_) (fun _ h27 => ?_)))
 exact Za (zg [2] 0 (Zb (Zg (Zh (ZB (Zh (rr h26 ⟨rfl, er0 _⟩)))))))
 refine Ze (Zb (Za ?_))
 obtain ⟨c28, h29⟩ := ZA h27
 refine rgc [1, 3, 5, 37, 38, 39, 57, 58, 59] 3 ⟨81, [(1, .ref 0 0), (3, .ref 1 0), (5, .ref 2 0), u2, (38, .int .i64 u3), (39, .int .i64 p2), (57, .sl false 3 (p2.toNat - 0) (fun i => Xx (a0.Yi.ZK.getD (0 + i) default))), (58, .int .i64 ((p2.toNat - 0 : Nat) : Int)), (59, .int .i64 0)], u1⟩ [decide (0 ≤ p2), decide (p2 ≤ u3)] c28 (XE (s' := ⟨81, [(1, .ref 0 0), (3, .ref 1 0), (5, .ref 2 0), u2, (38, .int .i64 u3), (39, .int .i64 p2), u5, (58, .int .i64 ((p2.toNat - 0 : Nat) : Int)), (59, .int .i64 0)], u1⟩) (VX (.cons Sub.rfl (.cons Sub.rfl (.cons Sub.rfl (.cons Sub.rfl (.cons Sub.rfl (.cons Sub.rfl (.cons (Uv (Kp _ _ _ (RX (c28 _ (List.mem_cons_of_mem _ List.mem_cons_self)))) (Ko _ _ _ _)) (.cons Sub.rfl (.cons Sub.rfl .nil))))))))) (.cons .rfl (.cons .rfl (.cons .rfl .nil)))) (Zj ?_))
 obtain ⟨y9, q41, h42⟩ := bind_some h29
 refine zl (fun (p6 : Int) => ⟨81, [(1, .ref 0 0), (3, .ref 1 0), (5, .ref 2 0), u2, (38, .int .i64 u3), (39, .int .i64 p2), u5, (58, .int .i64 ((p2.toNat - 0 : Nat) : Int)), (59, .int .i64 p6)], u1⟩) (Sum.elim (fun z => OutE 2 (fun z => ⟨81, [(1, .ref 0 0), (3, .ref 1 0), u2, (38, .int .i64 u3), (39, .int .i64 p2)], u4⟩) z) (fun z => OutR Tryz.prog Tryz.f82 (.int .i64 z))) q41 ?_ ?_
 intro p6 y7 h30
 unfold M.Yq at h30
 refine Za (zg [1, 3, 5, 37, 38, 39, 57, 58, 59, 60] 3 (Zb (Za (cn h30 (fun _ h32 => ?_) (fun _ h33 => ?_)))))
 refine Ze (Zb (Za (Zj (Za ?_))))
 obtain ⟨c34, h35⟩ := ZA h32
 refine zc [1, 3, 5, 7, 37, 38, 39, 57, 58, 59] 4 c34 (Zb (Za ?_))
 obtain ⟨r8, q36, h37⟩ := bind_some h35
 refine zr [1, 3, 5, 37, 38, 39, 57, 58, 59, 74] 3 Zw (rq2 (fun hg => Ry _ _ _ (Xc q36 hg)) rqn) (Zb (cn h37 (fun _ h39 => ?_) (fun _ h40 => ?_)))
 exact Za (zg [2] 0 (Zb (Zg (ZB (Zh (rr h39 ⟨rfl, er0 _⟩))))))
 exact Ze (XM (Zb (zg [1, 3, 5, 37, 38, 39, 57, 58, 59] 3 (rn h40))))
 exact ZV (Xs (re h33 ⟨rfl, kc⟩))
 intro e43 s44 o45
 rcases y9 with g10 | y11
 have h46 := XP h42
 obtain ⟨rfl, l48⟩ := o45
 exact Qd (XM (XE (s' := ⟨81, [(1, .ref 0 0), (3, .ref 1 0), u2, (38, .int .i64 u3), (39, .int .i64 p2)], u4⟩) (l48) (zg [1, 3, 37, 38, 39] 2 (rn h46))))
 have h47 := XQ h42
 obtain ⟨rfl, n49⟩ := o45
 exact ZB (ZB (Zh (rr h47 ⟨rfl, n49⟩)))
 exact ZV (Xs (re h18 ⟨rfl, kq⟩))
 intro e52 s53 o54
 rcases y12 with g13 | y14
 have h55 := XP h51
 refine zi o54 (Za ?_)
 obtain ⟨r15, q58, h59⟩ := bind_some h55
 exact zr [2] 0 Zw (rq1 (U1 _ _ _ _ _ _ _ q58) rqn) (Zb (Zg (er1 h59)))
 have h56 := XQ h51
 obtain ⟨rfl, n60⟩ := o54
 refine ZB (Zh ?_)
 obtain rfl := Option.some.inj h56
 exact n60
theorem Kg (a0 : Zf) (r : Int) (h : M.Ye a0 = some r) : Fn Tryz.prog 83 [.agg (Zx a0)] (.pure (.int .i64 r)) := by
 unfold M.Ye at h
 refine ZQ Tryz.func83 rfl (by kernel_rfl) (Za (zg [1] 1 (Zb (Za (zg [1, 3] 2 (Zb (Za (Za (zg [1, 3, 8] 2 (Zb (cn h (fun _ h2 => ?_) (fun _ h3 => ?_))))))))))))
 refine Za (Za (zg [27] 0 (Zb (cn h2 (fun _ h5 => ?_) (fun _ h6 => ?_)))))
 exact Za (zg [2] 0 (Zb (Zg (Zh (Zh (er1 h5))))))
 exact Ze (Zb (Za (zg [2] 0 (Zb (Zg (Zh (er1 h6)))))))
 refine Ze (Zb (Za (Za ?_)))
 obtain ⟨r1, q7, h8⟩ := bind_some h3
 refine zr [1, 3, 31] 2 Zw (rq1 (XK _ _ _ _ q7) rqn) (Zb (cn h8 (fun _ h10 => ?_) (fun _ h11 => ?_)))
 exact Za (zg [2] 0 (Zb (Zg (Zh (er1 h10)))))
 refine Ze (Zb (Za (Za ?_)))
 obtain ⟨r2, q12, h13⟩ := bind_some h11
 obtain ⟨r3, q14, h15⟩ := bind_some h13
 refine zr [1, 3, 53] 2 Zw (rq2 (fun hg => Ud _ _ _ (Xc q12 hg)) (rq2 (fun hg => Ud _ _ _ (Xc q14 hg)) rqn)) (Zb (cn h15 (fun _ h17 => ?_) (fun _ h18 => ?_)))
 exact Za (zg [2] 0 (Zb (Zg (Zh (er1 h17)))))
 refine Ze (Zb (Za ?_))
 obtain ⟨r4, q19, h20⟩ := bind_some h18
 exact zr [2] 0 Zw (rq1 (U1 _ _ _ _ _ _ _ q19) rqn) (Zb (Zg (er1 h20)))
theorem RC (a0 : Zf) (r : Int) (h : M.Y2 a0 = some r) : Fn Tryz.prog 144 [.agg (Zx a0)] (.pure (.int .i64 r)) := by
 let u1 : Nat × D := (14, sL 4 XG a0.Xb.Zl)
 let u2 := (a0.Xb.Zl.length : Int)
 let u5 := Zx a0
 unfold M.Y2 at h
 refine ZQ Tryz.func144 rfl (by kernel_rfl) (Za (zg [1] 1 (Zb (Za (Za (zg [1, 11] 1 (Zb (cn h (fun _ h2 => ?_) (fun _ h3 => ?_)))))))))
 exact Za (zg [2] 0 (Zb (Zg (Zh (er1 h2)))))
 refine Ze (Zb (Za (Za (zg [1, 14, 15, 16] 1 (Zb (Zj ?_))))))
 obtain ⟨y11, q42, h43⟩ := bind_some h3
 refine zl (fun (p1 : Int) => ⟨69, [(1, .ref 0 0), u1, (15, .int .i64 u2), (16, .int .i64 p1)], [.box u5]⟩) (Sum.elim (fun z => OutE 0 (fun z => ⟨69, [], []⟩) z) (fun z => OutR Tryz.prog Tryz.f144 (.int .i64 z))) q42 ?_ ?_
 intro p1 y2 h4
 let u3 : List Ob := [.box u5, .box (XG (a0.Xb.Zl.getD p1.toNat default))]
 let u4 : Nat × D := (56, sL 4 XG ((a0.Xb.Zl.drop 0).take (p1.toNat - 0)))
 unfold M.YG at h4
 refine Za (zg [1, 14, 15, 16, 17] 1 (Zb (Za (cn h4 (fun _ h6 => ?_) (fun _ h7 => ?_)))))
 refine Ze (Zb (Za (Zj (Za ?_))))
 obtain ⟨c8, h9⟩ := ZA h6
 refine zc [1, 3, 4, 14, 15, 16] 2 c8 (Zb (Za (Za ?_)))
 obtain ⟨r3, q10, h11⟩ := bind_some h9
 refine zr [1, 3, 4, 14, 15, 16, 29] 2 Zw (rq2 (fun hg => XK _ _ _ _ (Xc q10 hg)) rqn) (Zb (cn h11 (fun _ h13 => ?_) (fun _ h14 => ?_)))
 exact Za (zg [2] 0 (Zb (Zg (Zh (ZB (Zh (rr h13 ⟨rfl, er0 _⟩)))))))
 refine Ze (Zb (Za (Za ?_)))
 obtain ⟨r4, q15, h16⟩ := bind_some h14
 obtain ⟨r5, q17, h18⟩ := bind_some h16
 refine zr [1, 3, 4, 14, 15, 16, 51] 2 Zw (rq2 (fun hg => UR _ _ _ (Xc q15 hg)) (rq2 (fun hg => UR _ _ _ (Xc q17 hg)) rqn)) (Zb (cn h18 (fun _ h20 => ?_) (fun _ h21 => ?_)))
 exact Za (zg [2] 0 (Zb (Zg (Zh (ZB (Zh (rr h20 ⟨rfl, er0 _⟩)))))))
 refine Ze (Zb (Za ?_))
 obtain ⟨c22, h23⟩ := ZA h21
 refine rgc [1, 4, 14, 15, 16, 56, 57, 58] 2 ⟨69, [(1, .ref 0 0), (4, .ref 1 0), u1, (15, .int .i64 u2), (16, .int .i64 p1), (56, .sl false 4 (p1.toNat - 0) (fun i => XG (a0.Xb.Zl.getD (0 + i) default))), (57, .int .i64 ((p1.toNat - 0 : Nat) : Int)), (58, .int .i64 0)], u3⟩ [decide (0 ≤ p1), decide (p1 ≤ u2)] c22 (XE (s' := ⟨69, [(1, .ref 0 0), (4, .ref 1 0), u1, (15, .int .i64 u2), (16, .int .i64 p1), u4, (57, .int .i64 ((p1.toNat - 0 : Nat) : Int)), (58, .int .i64 0)], u3⟩) (VX (.cons Sub.rfl (.cons Sub.rfl (.cons Sub.rfl (.cons Sub.rfl (.cons Sub.rfl (.cons (Uv (Kp _ _ _ (RX (c22 _ (List.mem_cons_of_mem _ List.mem_cons_self)))) (Ko _ _ _ _)) (.cons Sub.rfl (.cons Sub.rfl .nil)))))))) (.cons .rfl (.cons .rfl .nil))) (Zj ?_))
 obtain ⟨y8, q33, h34⟩ := bind_some h23
 refine zl (fun (p6 : Int) => ⟨69, [(1, .ref 0 0), (4, .ref 1 0), u1, (15, .int .i64 u2), (16, .int .i64 p1), u4, (57, .int .i64 ((p1.toNat - 0 : Nat) : Int)), (58, .int .i64 p6)], u3⟩) (Sum.elim (fun z => OutE 2 (fun z => ⟨69, [(1, .ref 0 0), u1, (15, .int .i64 u2), (16, .int .i64 p1)], [.box u5]⟩) z) (fun z => OutR Tryz.prog Tryz.f144 (.int .i64 z))) q33 ?_ ?_
 intro p6 y7 h24
 unfold M.Yr at h24
 refine Za (zg [1, 4, 14, 15, 16, 56, 57, 58, 59] 2 (Zb (Za (cn h24 (fun _ h26 => ?_) (fun _ h27 => ?_)))))
 refine Ze (Zb (Za (Zj (Za ?_))))
 obtain ⟨c28, h29⟩ := ZA h26
 refine zc [1, 4, 6, 14, 15, 16, 56, 57, 58] 3 c28 (Zb (Za (zg [1, 4, 14, 15, 16, 56, 57, 58, 66] 2 (Zb (cn h29 (fun _ h31 => ?_) (fun _ h32 => ?_))))))
 exact Za (zg [2] 0 (Zb (Zg (ZB (Zh (rr h31 ⟨rfl, er0 _⟩))))))
 exact Ze (XM (Zb (zg [1, 4, 14, 15, 16, 56, 57, 58] 2 (rn h32))))
 exact ZV (Xs (re h27 ⟨rfl, kc⟩))
 intro e35 s36 o37
 rcases y8 with g9 | y10
 have h38 := XP h34
 obtain ⟨rfl, l40⟩ := o37
 exact Qd (XM (XE (s' := ⟨69, [(1, .ref 0 0), u1, (15, .int .i64 u2), (16, .int .i64 p1)], [.box u5]⟩) (l40) (zg [1, 14, 15, 16] 1 (rn h38))))
 have h39 := XQ h34
 obtain ⟨rfl, n41⟩ := o37
 exact ZB (ZB (Zh (rr h39 ⟨rfl, n41⟩)))
 exact ZV (Xs (re h7 ⟨rfl, kc⟩))
 intro e44 s45 o46
 rcases y11 with g12 | y13
 have h47 := XP h43
 exact zi o46 (Za (zg [2] 0 (Zb (Zg (er1 h47)))))
 have h48 := XQ h43
 obtain ⟨rfl, n50⟩ := o46
 refine ZB (Zh ?_)
 obtain rfl := Option.some.inj h48
 exact n50
theorem U8 (a0 : List ZL) (a1 : ZL) (r : Int) (h : M.XJ a0 a1 = some r) : Fn Tryz.prog 180 [sL 2 Z9 a0, .agg (Z9 a1)] (.pure (.int .i64 r)) := by
 unfold M.XJ at h
 refine ZQ Tryz.func180 rfl (by kernel_rfl) (Za (zg [0, 3] 1 (Zb (Za (Za (zg [0, 3, 7, 8] 1 (Zb (Zj ?_))))))))
 obtain ⟨y3, q10, h11⟩ := bind_some h
 refine zl (fun (p1 : Int) => ⟨19, [(0, sL 2 Z9 a0), (3, .ref 0 0), (7, .int .i64 (a0.length : Int)), (8, .int .i64 p1)], [.box (Z9 a1)]⟩) (Sum.elim (fun z => OutE 0 (fun z => ⟨19, [], []⟩) z) (fun z => OutR Tryz.prog Tryz.f180 (.int .i64 z))) q10 ?_ ?_
 intro p1 y2 h1
 unfold M.XL at h1
 refine Za (zg [0, 3, 7, 8, 9] 1 (Zb (Za (cn h1 (fun _ h3 => ?_) (fun _ h4 => ?_)))))
 refine Ze (Zb (Za (Zj (Za (zg [0, 3, 5, 7, 8] 1 (Zb (Za ?_)))))))
 obtain ⟨c5, h6⟩ := ZA h3
 refine zc [0, 3, 5, 7, 8, 16] 1 c5 (Zb (cn h6 (fun _ h8 => ?_) (fun _ h9 => ?_)))
 exact Za (zg [4] 0 (Zb (Zg (ZB (Zh (rr h8 ⟨rfl, er0 _⟩))))))
 exact Ze (XM (Zb (zg [0, 3, 7, 8] 1 (rn h9))))
 exact ZV (Xs (re h4 ⟨rfl, kc⟩))
 intro e12 s13 o14
 rcases y3 with g4 | y5
 have h15 := XP h11
 exact zi o14 (Za (zg [4] 0 (Zb (Zg (er1 h15)))))
 have h16 := XQ h11
 obtain ⟨rfl, n18⟩ := o14
 refine ZB (Zh ?_)
 obtain rfl := Option.some.inj h16
 exact n18
theorem UO (a0 : List ZL) (a1 : ZL) (r : Bool) (h : M.Xn a0 a1 = some r) : Fn Tryz.prog 173 [sL 2 Z9 a0, .agg (Z9 a1)] (.pure (.bool r)) := by
 unfold M.Xn at h
 refine ZQ Tryz.func173 rfl (by kernel_rfl) (Za (zg [0, 3] 1 (Zb (Za ?_))))
 obtain ⟨r1, q1, h2⟩ := bind_some h
 exact zr [4] 0 Zw (rq1 (U8 _ _ _ q1) rqn) (Zb (Zg (er1 h2)))
theorem ZaA (a0 : Z4) (r : Int) (h : M.QE a0 = some r) : Fn Tryz.prog 145 [.agg (UJ a0)] (.pure (.int .i64 r)) := by
 let u1 := UJ a0
 let u2 : Nat × D := (40, sL 3 Xy a0.Zr)
 let u3 : Nat × D := (72, sL 5 Xu a0.Zo)
 let u4 := (a0.Zr.length : Int)
 let u5 := (a0.Zo.length : Int)
 let u10 := (a0.Zt.length : Int)
 let u12 : St := ⟨110, [(1, .ref 0 0)], [.box u1]⟩
 unfold M.QE at h
 refine ZQ Tryz.func145 rfl (by kernel_rfl) (Za (zg [1] 1 (Zb (Za (Za (zg [1, 16] 1 (Zb (cn h (fun _ h2 => ?_) (fun _ h3 => ?_)))))))))
 exact Za (zg [2] 0 (Zb (Zg (Zh (er1 h2)))))
 refine Ze (Zb (Za (Za (zg [1, 18, 19, 20] 1 (Zb (Zj ?_))))))
 obtain ⟨y5, q22, h23⟩ := bind_some h3
 refine zl (fun (p1 : Int) => ⟨110, [(1, .ref 0 0), (18, sL 2 Z9 a0.Zt), (19, .int .i64 u10), (20, .int .i64 p1)], [.box u1]⟩) (Sum.elim (fun z => OutE 0 (fun z => u12) z) (fun z => OutR Tryz.prog Tryz.f145 (.int .i64 z))) q22 ?_ ?_
 intro p1 y2 h4
 let u11 := a0.Zt.getD p1.toNat default
 unfold M.YJ at h4
 refine Za (zg [1, 18, 19, 20, 21] 1 (Zb (Za (cn h4 (fun _ h6 => ?_) (fun _ h7 => ?_)))))
 refine Ze (Zb (Za (Zj (Za ?_))))
 obtain ⟨c8, h9⟩ := ZA h6
 refine zc [1, 3, 4, 18, 19, 20] 2 c8 (Zb (Za (Za ?_)))
 obtain ⟨r3, q10, h11⟩ := bind_some h9
 refine zr [1, 3, 4, 18, 19, 20, 27] 2 Zw (rq1 (W8 _ _ q10) rqn) (Zb (cn h11 (fun _ h13 => ?_) (fun _ h14 => ?_)))
 exact Za (zg [2] 0 (Zb (Zg (Zh (ZB (Zh (rr h13 ⟨rfl, er0 _⟩)))))))
 refine Ze (Zb (Za ?_))
 obtain ⟨r4, q15, h16⟩ := bind_some h14
 obtain ⟨c17, h18⟩ := ZA h16
 refine rg [.pure (.bool r4)] [1, 18, 19, 20, 33] 1 ⟨110, [(1, .ref 0 0), (18, sL 2 Z9 a0.Zt), (19, .int .i64 u10), (20, .int .i64 p1), (33, .bool r4)], [.box u1]⟩ [decide (0 ≤ p1), decide (p1 ≤ u10)] [⟨true, 173, [.sl false 2 (p1.toNat - 0) (fun i => Z9 (a0.Zt.getD (0 + i) default)), .agg (Z9 u11)], .pure (.bool r4)⟩] c17 ⟨fun _ => (UO ((a0.Zt.drop 0).take (p1.toNat - 0)) u11 r4 q15).args (.cons (ZgS (Kp _ _ _ (RX (c17 _ (List.mem_cons_of_mem _ List.mem_cons_self)))) (Ko _ _ _ _)) (.cons ASub.rfl .nil)), trivial⟩ (Zb (cn h18 (fun _ h20 => ?_) (fun _ h21 => ?_)))
 exact Za (zg [2] 0 (Zb (Zg (ZB (Zh (rr h20 ⟨rfl, er0 _⟩))))))
 exact Ze (XM (Zb (zg [1, 18, 19, 20] 1 (rn h21))))
 exact ZV (Xs (re h7 ⟨rfl, kq⟩))
 intro e24 s25 o26
 rcases y5 with g6 | y7
 have h27 := XP h23
 refine zi o26 (Za (Za (zg [1, 38] 1 (Zb (cn h27 (fun _ h31 => ?_) (fun _ h32 => ?_))))))
 exact Za (zg [2] 0 (Zb (Zg (Zh (er1 h31)))))
 refine Ze (Zb (Za (Za (zg [1, 40, 41, 42] 1 (Zb (Zj ?_))))))
 obtain ⟨y16, q64, h65⟩ := bind_some h32
 refine zl (fun (p8 : Int) => ⟨110, [(1, .ref 0 0), u2, (41, .int .i64 u4), (42, .int .i64 p8)], [.box u1]⟩) (Sum.elim (fun z => OutE 2 (fun z => u12) z) (fun z => OutR Tryz.prog Tryz.f145 (.int .i64 z))) q64 ?_ ?_
 intro p8 y9 h33
 let u7 : List Ob := [.box u1, .box (Xy (a0.Zr.getD p8.toNat default))]
 let u9 : Nat × D := (54, sL 3 Xy ((a0.Zr.drop 0).take (p8.toNat - 0)))
 unfold M.YL at h33
 refine Za (zg [1, 40, 41, 42, 43] 1 (Zb (Za (cn h33 (fun _ h35 => ?_) (fun _ h36 => ?_)))))
 refine Ze (Zb (Za (Zj (Za ?_))))
 obtain ⟨c37, h38⟩ := ZA h35
 refine zc [1, 5, 6, 40, 41, 42] 2 c37 (Zb (Za (Za ?_)))
 obtain ⟨r10, q39, h40⟩ := bind_some h38
 refine zr [1, 5, 6, 40, 41, 42, 50] 2 Zw (rq1 (W8 _ _ q39) rqn) (Zb (cn h40 (fun _ h42 => ?_) (fun _ h43 => ?_)))
 exact Za (zg [2] 0 (Zb (Zg (Zh (ZB (Zh (rr h42 ⟨rfl, er0 _⟩)))))))
 refine Ze (Zb (Za ?_))
 obtain ⟨c44, h45⟩ := ZA h43
 refine rgc [1, 6, 40, 41, 42, 54, 55, 56] 2 ⟨110, [(1, .ref 0 0), (6, .ref 1 0), u2, (41, .int .i64 u4), (42, .int .i64 p8), (54, .sl false 3 (p8.toNat - 0) (fun i => Xy (a0.Zr.getD (0 + i) default))), (55, .int .i64 ((p8.toNat - 0 : Nat) : Int)), (56, .int .i64 0)], u7⟩ [decide (0 ≤ p8), decide (p8 ≤ u4)] c44 (XE (s' := ⟨110, [(1, .ref 0 0), (6, .ref 1 0), u2, (41, .int .i64 u4), (42, .int .i64 p8), u9, (55, .int .i64 ((p8.toNat - 0 : Nat) : Int)), (56, .int .i64 0)], u7⟩) (VX (.cons Sub.rfl (.cons Sub.rfl (.cons Sub.rfl (.cons Sub.rfl (.cons Sub.rfl (.cons (Uv (Kp _ _ _ (RX (c44 _ (List.mem_cons_of_mem _ List.mem_cons_self)))) (Ko _ _ _ _)) (.cons Sub.rfl (.cons Sub.rfl .nil)))))))) (.cons .rfl (.cons .rfl .nil))) (Zj ?_))
 obtain ⟨y13, q55, h56⟩ := bind_some h45
 refine zl (fun (p11 : Int) => ⟨110, [(1, .ref 0 0), (6, .ref 1 0), u2, (41, .int .i64 u4), (42, .int .i64 p8), u9, (55, .int .i64 ((p8.toNat - 0 : Nat) : Int)), (56, .int .i64 p11)], u7⟩) (Sum.elim (fun z => OutE 4 (fun z => ⟨110, [(1, .ref 0 0), u2, (41, .int .i64 u4), (42, .int .i64 p8)], [.box u1]⟩) z) (fun z => OutR Tryz.prog Tryz.f145 (.int .i64 z))) q55 ?_ ?_
 intro p11 y12 h46
 unfold M.YK at h46
 refine Za (zg [1, 6, 40, 41, 42, 54, 55, 56, 57] 2 (Zb (Za (cn h46 (fun _ h48 => ?_) (fun _ h49 => ?_)))))
 refine Ze (Zb (Za (Zj (Za ?_))))
 obtain ⟨c50, h51⟩ := ZA h48
 refine zc [1, 6, 8, 40, 41, 42, 54, 55, 56] 3 c50 (Zb (Za (zg [1, 6, 40, 41, 42, 54, 55, 56, 64] 2 (Zb (cn h51 (fun _ h53 => ?_) (fun _ h54 => ?_))))))
 exact Za (zg [2] 0 (Zb (Zg (ZB (Zh (rr h53 ⟨rfl, er0 _⟩))))))
 exact Ze (XM (Zb (zg [1, 6, 40, 41, 42, 54, 55, 56] 2 (rn h54))))
 exact ZV (Xs (re h49 ⟨rfl, kc⟩))
 intro e57 s58 o59
 rcases y13 with g14 | y15
 have h60 := XP h56
 obtain ⟨rfl, l62⟩ := o59
 exact Qd (XM (XE (s' := ⟨110, [(1, .ref 0 0), u2, (41, .int .i64 u4), (42, .int .i64 p8)], [.box u1]⟩) (l62) (zg [1, 40, 41, 42] 1 (rn h60))))
 have h61 := XQ h56
 obtain ⟨rfl, n63⟩ := o59
 exact ZB (ZB (Zh (rr h61 ⟨rfl, n63⟩)))
 exact ZV (Xs (re h36 ⟨rfl, kq⟩))
 intro e66 s67 o68
 rcases y16 with g17 | y18
 have h69 := XP h65
 refine zi o68 (Za (Za (zg [1, 70] 1 (Zb (cn h69 (fun _ h73 => ?_) (fun _ h74 => ?_))))))
 exact Za (zg [2] 0 (Zb (Zg (Zh (er1 h73)))))
 refine Ze (Zb (Za (Za (zg [1, 72, 73, 74] 1 (Zb (Zj ?_))))))
 obtain ⟨y28, q111, h112⟩ := bind_some h74
 refine zl (fun (p19 : Int) => ⟨110, [(1, .ref 0 0), u3, (73, .int .i64 u5), (74, .int .i64 p19)], [.box u1]⟩) (Sum.elim (fun z => OutE 6 (fun z => ⟨110, [], []⟩) z) (fun z => OutR Tryz.prog Tryz.f145 (.int .i64 z))) q111 ?_ ?_
 intro p19 y20 h75
 let u6 : List Ob := [.box u1, .box (Xu (a0.Zo.getD p19.toNat default))]
 let u8 : Nat × D := (97, sL 5 Xu ((a0.Zo.drop 0).take (p19.toNat - 0)))
 unfold M.YN at h75
 refine Za (zg [1, 72, 73, 74, 75] 1 (Zb (Za (cn h75 (fun _ h77 => ?_) (fun _ h78 => ?_)))))
 refine Ze (Zb (Za (Zj (Za ?_))))
 obtain ⟨c79, h80⟩ := ZA h77
 refine zc [1, 9, 10, 72, 73, 74] 2 c79 (Zb (Za (Za ?_)))
 obtain ⟨r21, q81, h82⟩ := bind_some h80
 obtain ⟨r22, q83, h84⟩ := bind_some h82
 refine zr [1, 9, 10, 72, 73, 74, 88] 2 Zw (rq1 (W8 _ _ q81) (rq2 (fun hg => W8 _ _ (Xc q83 hg)) rqn)) (Zb (cn h84 (fun _ h86 => ?_) (fun _ h87 => ?_)))
 exact Za (zg [2] 0 (Zb (Zg (Zh (ZB (Zh (rr h86 ⟨rfl, er0 _⟩)))))))
 refine Ze (Zb (Za (Za (zg [1, 9, 10, 72, 73, 74, 93] 2 (Zb (cn h87 (fun _ h89 => ?_) (fun _ h90 => ?_)))))))
 exact Za (zg [2] 0 (Zb (Zg (Zh (ZB (Zh (rr h89 ⟨rfl, er0 _⟩)))))))
 refine Ze (Zb (Za ?_))
 obtain ⟨c91, h92⟩ := ZA h90
 refine rgc [1, 10, 72, 73, 74, 97, 98, 99] 2 ⟨110, [(1, .ref 0 0), (10, .ref 1 0), u3, (73, .int .i64 u5), (74, .int .i64 p19), (97, .sl false 5 (p19.toNat - 0) (fun i => Xu (a0.Zo.getD (0 + i) default))), (98, .int .i64 ((p19.toNat - 0 : Nat) : Int)), (99, .int .i64 0)], u6⟩ [decide (0 ≤ p19), decide (p19 ≤ u5)] c91 (XE (s' := ⟨110, [(1, .ref 0 0), (10, .ref 1 0), u3, (73, .int .i64 u5), (74, .int .i64 p19), u8, (98, .int .i64 ((p19.toNat - 0 : Nat) : Int)), (99, .int .i64 0)], u6⟩) (VX (.cons Sub.rfl (.cons Sub.rfl (.cons Sub.rfl (.cons Sub.rfl (.cons Sub.rfl (.cons (Uv (Kp _ _ _ (RX (c91 _ (List.mem_cons_of_mem _ List.mem_cons_self)))) (Ko _ _ _ _)) (.cons Sub.rfl (.cons Sub.rfl .nil)))))))) (.cons .rfl (.cons .rfl .nil))) (Zj ?_))
 obtain ⟨y25, q102, h103⟩ := bind_some h92
 refine zl (fun (p23 : Int) => ⟨110, [(1, .ref 0 0), (10, .ref 1 0), u3, (73, .int .i64 u5), (74, .int .i64 p19), u8, (98, .int .i64 ((p19.toNat - 0 : Nat) : Int)), (99, .int .i64 p23)], u6⟩) (Sum.elim (fun z => OutE 8 (fun z => ⟨110, [(1, .ref 0 0), u3, (73, .int .i64 u5), (74, .int .i64 p19)], [.box u1]⟩) z) (fun z => OutR Tryz.prog Tryz.f145 (.int .i64 z))) q102 ?_ ?_
 intro p23 y24 h93
 unfold M.YM at h93
 refine Za (zg [1, 10, 72, 73, 74, 97, 98, 99, 100] 2 (Zb (Za (cn h93 (fun _ h95 => ?_) (fun _ h96 => ?_)))))
 refine Ze (Zb (Za (Zj (Za ?_))))
 obtain ⟨c97, h98⟩ := ZA h95
 refine zc [1, 10, 12, 72, 73, 74, 97, 98, 99] 3 c97 (Zb (Za (zg [1, 10, 72, 73, 74, 97, 98, 99, 107] 2 (Zb (cn h98 (fun _ h100 => ?_) (fun _ h101 => ?_))))))
 exact Za (zg [2] 0 (Zb (Zg (ZB (Zh (rr h100 ⟨rfl, er0 _⟩))))))
 exact Ze (XM (Zb (zg [1, 10, 72, 73, 74, 97, 98, 99] 2 (rn h101))))
 exact ZV (Xs (re h96 ⟨rfl, kc⟩))
 intro e104 s105 o106
 rcases y25 with g26 | y27
 have h107 := XP h103
 obtain ⟨rfl, l109⟩ := o106
 exact Qd (XM (XE (s' := ⟨110, [(1, .ref 0 0), u3, (73, .int .i64 u5), (74, .int .i64 p19)], [.box u1]⟩) (l109) (zg [1, 72, 73, 74] 1 (rn h107))))
 have h108 := XQ h103
 obtain ⟨rfl, n110⟩ := o106
 exact ZB (ZB (Zh (rr h108 ⟨rfl, n110⟩)))
 exact ZV (Xs (re h78 ⟨rfl, kc⟩))
 intro e113 s114 o115
 rcases y28 with g29 | y30
 have h116 := XP h112
 exact zi o115 (Za (zg [2] 0 (Zb (Zg (er1 h116)))))
 have h117 := XQ h112
 obtain ⟨rfl, n119⟩ := o115
 refine ZB (Zh ?_)
 obtain rfl := Option.some.inj h117
 exact n119
 have h70 := XQ h65
 obtain ⟨rfl, n120⟩ := o68
 refine ZB (Zh ?_)
 obtain rfl := Option.some.inj h70
 exact n120
 have h28 := XQ h23
 obtain ⟨rfl, n121⟩ := o26
 refine ZB (Zh ?_)
 obtain rfl := Option.some.inj h28
 exact n121
theorem Ri (a0 : Zf) (r : Int) (h : M.YO a0 = some r) : Fn Tryz.prog 84 [.agg (Zx a0)] (.pure (.int .i64 r)) := by
 unfold M.YO at h
 refine ZQ Tryz.func84 rfl (by kernel_rfl) (Za (zg [1] 1 (Zb (Za (zg [1, 3] 2 (Zb (Za (Za (zg [1, 3, 10] 2 (Zb (cn h (fun _ h2 => ?_) (fun _ h3 => ?_))))))))))))
 refine Za (Za (zg [48] 0 (Zb (cn h2 (fun _ h5 => ?_) (fun _ h6 => ?_)))))
 exact Za (zg [2] 0 (Zb (Zg (Zh (Zh (er1 h5))))))
 exact Ze (Zb (Za (zg [2] 0 (Zb (Zg (Zh (er1 h6)))))))
 refine Ze (Zb (Za (Za ?_)))
 obtain ⟨r1, q7, h8⟩ := bind_some h3
 obtain ⟨r2, q9, h10⟩ := bind_some h8
 refine zr [1, 3, 63] 2 Zw (rq2 (fun hg => XK _ _ _ _ (Xc q7 hg)) (rq2 (fun hg => XK _ _ _ _ (Xc q9 hg)) rqn)) (Zb (cn h10 (fun _ h12 => ?_) (fun _ h13 => ?_)))
 exact Za (zg [2] 0 (Zb (Zg (Zh (er1 h12)))))
 refine Ze (Zb (Za (Za ?_)))
 obtain ⟨r3, q14, h15⟩ := bind_some h13
 refine zr [1, 3, 4] 2 Zw (rq1 (RC _ _ q14) rqn) (Zb (Za (zg [1, 3, 4, 67] 2 (Zb (cn h15 (fun _ h17 => ?_) (fun _ h18 => ?_))))))
 exact Za (zg [2] 0 (Zb (Zg (Zh (er1 h17)))))
 refine Ze (Zb (Za (Za ?_)))
 obtain ⟨r4, q19, h20⟩ := bind_some h18
 refine zr [1, 3, 5] 2 Zw (rq1 (ZaA _ _ q19) rqn) (Zb (Za (zg [1, 3, 5, 72] 2 (Zb (cn h20 (fun _ h22 => ?_) (fun _ h23 => ?_))))))
 exact Za (zg [2] 0 (Zb (Zg (Zh (er1 h22)))))
 refine Ze (Zb (Za ?_))
 obtain ⟨r5, q24, h25⟩ := bind_some h23
 exact zr [2] 0 Zw (rq1 (U1 _ _ _ _ _ _ _ q24) rqn) (Zb (Zg (er1 h25)))
theorem Za9 (a0 : Zf) (r : Int) (h : M.QX a0 = some r) : Fn Tryz.prog 58 [.agg (Zx a0)] (.pure (.int .i64 r)) := by
 unfold M.QX at h
 refine ZQ Tryz.func58 rfl (by kernel_rfl) (Za (zg [1] 1 (Zb (Za (Za ?_)))))
 obtain ⟨r1, q1, h2⟩ := bind_some h
 refine zr [1, 10] 1 Zw (rq1 (R3 _ _ q1) rqn) (Zb (cn h2 (fun _ h4 => ?_) (fun _ h5 => ?_)))
 exact Za (zg [2] 0 (Zb (Zg (Zh (er1 h4)))))
 refine Ze (Zb (Za (Za ?_)))
 obtain ⟨r2, q6, h7⟩ := bind_some h5
 refine zr [1, 14] 1 Zw (rq1 (XK _ _ _ _ q6) rqn) (Zb (cn h7 (fun _ h9 => ?_) (fun _ h10 => ?_)))
 exact Za (zg [2] 0 (Zb (Zg (Zh (er1 h9)))))
 refine Ze (Zb (Za (zg [1, 3] 1 (Zb (Za (Za (zg [1, 16, 17, 18] 1 (Zb (Zj (Ziu (Ui (Za (zg [1, 16, 17, 18, 19] 1 (Zb (Za (cnd true (fun _ => (Ze (Zb (Za (Zj (Za ?_)))))) (fun b11 => Bool.noConfusion b11)))))))))))))))))
 obtain ⟨c12, h13⟩ := ZA h10
 refine zc [1, 5, 16, 17, 18] 1 c12 (Zb (Za ?_))
 obtain ⟨r3, q14, h15⟩ := bind_some h13
 refine zr [1, 6, 16, 17, 18] 1 Zw (rq1 (Rh _ _ q14) rqn) (Zb (Za (zg [1, 6, 16, 17, 18, 26] 1 (Zb (cn h15 (fun _ h17 => ?_) (fun _ h18 => ?_))))))
 exact Za (rg0 [2] 0 ⟨29, [(2, .int .i64 r3)], []⟩ (Zb (Zg (ZB (Zh (G6 (ZB (Zh (er1 h17)))))))))
 refine Ze (XM (Zb (zg [1, 16, 17, 18] 1 (G5 (Ui (Za (zg [1, 16, 17, 18, 19] 1 (Zb (Za (cnd true (fun _ => (Ze (Zb (Za (Zj (Za ?_)))))) (fun b19 => Bool.noConfusion b19)))))))))))
 obtain ⟨c20, h21⟩ := ZA h18
 refine zc [1, 5, 16, 17, 18] 1 c20 (Zb (Za ?_))
 obtain ⟨r4, q22, h23⟩ := bind_some h21
 refine zr [1, 6, 16, 17, 18] 1 Zw (rq1 (KQ _ _ q22) rqn) (Zb (Za (zg [1, 6, 16, 17, 18, 26] 1 (Zb (cn h23 (fun _ h25 => ?_) (fun _ h26 => ?_))))))
 exact Za (rg0 [2] 0 ⟨29, [(2, .int .i64 r4)], []⟩ (Zb (Zg (ZB (Zh (G6 (ZB (Zh (er1 h25)))))))))
 refine Ze (XM (Zb (zg [1, 16, 17, 18] 1 (G5 (Ui (Za (zg [1, 16, 17, 18, 19] 1 (Zb (Za (cnd true (fun _ => (Ze (Zb (Za (Zj (Za ?_)))))) (fun b27 => Bool.noConfusion b27)))))))))))
 obtain ⟨c28, h29⟩ := ZA h26
 refine zc [1, 5, 16, 17, 18] 1 c28 (Zb (Za ?_))
 obtain ⟨r5, q30, h31⟩ := bind_some h29
 refine zr [1, 6, 16, 17, 18] 1 Zw (rq1 (Rz _ _ q30) rqn) (Zb (Za (zg [1, 6, 16, 17, 18, 26] 1 (Zb (cn h31 (fun _ h33 => ?_) (fun _ h34 => ?_))))))
 exact Za (rg0 [2] 0 ⟨29, [(2, .int .i64 r5)], []⟩ (Zb (Zg (ZB (Zh (G6 (ZB (Zh (er1 h33)))))))))
 refine Ze (XM (Zb (zg [1, 16, 17, 18] 1 (G5 (Ui (Za (zg [1, 16, 17, 18, 19] 1 (Zb (Za (cnd true (fun _ => (Ze (Zb (Za (Zj (Za ?_)))))) (fun b35 => Bool.noConfusion b35)))))))))))
 obtain ⟨c36, h37⟩ := ZA h34
 refine zc [1, 5, 16, 17, 18] 1 c36 (Zb (Za ?_))
 obtain ⟨r6, q38, h39⟩ := bind_some h37
 refine zr [1, 6, 16, 17, 18] 1 Zw (rq1 (ZcH _ _ q38) rqn) (Zb (Za (zg [1, 6, 16, 17, 18, 26] 1 (Zb (cn h39 (fun _ h41 => ?_) (fun _ h42 => ?_))))))
 exact Za (rg0 [2] 0 ⟨29, [(2, .int .i64 r6)], []⟩ (Zb (Zg (ZB (Zh (G6 (ZB (Zh (er1 h41)))))))))
 refine Ze (XM (Zb (zg [1, 16, 17, 18] 1 (G5 (Ui (Za (zg [1, 16, 17, 18, 19] 1 (Zb (Za (cnd true (fun _ => (Ze (Zb (Za (Zj (Za ?_)))))) (fun b43 => Bool.noConfusion b43)))))))))))
 obtain ⟨c44, h45⟩ := ZA h42
 refine zc [1, 5, 16, 17, 18] 1 c44 (Zb (Za ?_))
 obtain ⟨r7, q46, h47⟩ := bind_some h45
 refine zr [1, 6, 16, 17, 18] 1 Zw (rq1 (Zdt _ _ q46) rqn) (Zb (Za (zg [1, 6, 16, 17, 18, 26] 1 (Zb (cn h47 (fun _ h49 => ?_) (fun _ h50 => ?_))))))
 exact Za (rg0 [2] 0 ⟨29, [(2, .int .i64 r7)], []⟩ (Zb (Zg (ZB (Zh (G6 (ZB (Zh (er1 h49)))))))))
 refine Ze (XM (Zb (zg [1, 16, 17, 18] 1 (G5 (Ui (Za (zg [1, 16, 17, 18, 19] 1 (Zb (Za (cnd true (fun _ => (Ze (Zb (Za (Zj (Za ?_)))))) (fun b51 => Bool.noConfusion b51)))))))))))
 obtain ⟨c52, h53⟩ := ZA h50
 refine zc [1, 5, 16, 17, 18] 1 c52 (Zb (Za ?_))
 obtain ⟨r8, q54, h55⟩ := bind_some h53
 refine zr [1, 6, 16, 17, 18] 1 Zw (rq1 (Zay _ _ q54) rqn) (Zb (Za (zg [1, 6, 16, 17, 18, 26] 1 (Zb (cn h55 (fun _ h57 => ?_) (fun _ h58 => ?_))))))
 exact Za (rg0 [2] 0 ⟨29, [(2, .int .i64 r8)], []⟩ (Zb (Zg (ZB (Zh (G6 (ZB (Zh (er1 h57)))))))))
 refine Ze (XM (Zb (zg [1, 16, 17, 18] 1 (G5 (Ui (Za (zg [1, 16, 17, 18, 19] 1 (Zb (Za (cnd true (fun _ => (Ze (Zb (Za (Zj (Za ?_)))))) (fun b59 => Bool.noConfusion b59)))))))))))
 obtain ⟨c60, h61⟩ := ZA h58
 refine zc [1, 5, 16, 17, 18] 1 c60 (Zb (Za ?_))
 obtain ⟨r9, q62, h63⟩ := bind_some h61
 refine zr [1, 6, 16, 17, 18] 1 Zw (rq1 (Zaz _ _ q62) rqn) (Zb (Za (zg [1, 6, 16, 17, 18, 26] 1 (Zb (cn h63 (fun _ h65 => ?_) (fun _ h66 => ?_))))))
 exact Za (rg0 [2] 0 ⟨29, [(2, .int .i64 r9)], []⟩ (Zb (Zg (ZB (Zh (G6 (ZB (Zh (er1 h65)))))))))
 refine Ze (XM (Zb (zg [1, 16, 17, 18] 1 (G5 (Ui (Za (zg [1, 16, 17, 18, 19] 1 (Zb (Za (cnd true (fun _ => (Ze (Zb (Za (Zj (Za ?_)))))) (fun b67 => Bool.noConfusion b67)))))))))))
 obtain ⟨c68, h69⟩ := ZA h66
 refine zc [1, 5, 16, 17, 18] 1 c68 (Zb (Za ?_))
 obtain ⟨r10, q70, h71⟩ := bind_some h69
 refine zr [1, 6, 16, 17, 18] 1 Zw (rq1 (RB _ _ q70) rqn) (Zb (Za (zg [1, 6, 16, 17, 18, 26] 1 (Zb (cn h71 (fun _ h73 => ?_) (fun _ h74 => ?_))))))
 exact Za (rg0 [2] 0 ⟨29, [(2, .int .i64 r10)], []⟩ (Zb (Zg (ZB (Zh (G6 (ZB (Zh (er1 h73)))))))))
 refine Ze (XM (Zb (zg [1, 16, 17, 18] 1 (G5 (Ui (Za (zg [1, 16, 17, 18, 19] 1 (Zb (Za (cnd true (fun _ => (Ze (Zb (Za (Zj (Za ?_)))))) (fun b75 => Bool.noConfusion b75)))))))))))
 obtain ⟨c76, h77⟩ := ZA h74
 refine zc [1, 5, 16, 17, 18] 1 c76 (Zb (Za ?_))
 obtain ⟨r11, q78, h79⟩ := bind_some h77
 refine zr [1, 6, 16, 17, 18] 1 Zw (rq1 (Kg _ _ q78) rqn) (Zb (Za (zg [1, 6, 16, 17, 18, 26] 1 (Zb (cn h79 (fun _ h81 => ?_) (fun _ h82 => ?_))))))
 exact Za (rg0 [2] 0 ⟨29, [(2, .int .i64 r11)], []⟩ (Zb (Zg (ZB (Zh (G6 (ZB (Zh (er1 h81)))))))))
 refine Ze (XM (Zb (zg [1, 16, 17, 18] 1 (G5 (Ui (Za (zg [1, 16, 17, 18, 19] 1 (Zb (Za (cnd true (fun _ => (Ze (Zb (Za (Zj (Za ?_)))))) (fun b83 => Bool.noConfusion b83)))))))))))
 obtain ⟨c84, h85⟩ := ZA h82
 refine zc [1, 5, 16, 17, 18] 1 c84 (Zb (Za ?_))
 obtain ⟨r12, q86, h87⟩ := bind_some h85
 refine zr [1, 6, 16, 17, 18] 1 Zw (rq1 (Ri _ _ q86) rqn) (Zb (Za (zg [1, 6, 16, 17, 18, 26] 1 (Zb (cn h87 (fun _ h89 => ?_) (fun _ h90 => ?_))))))
 exact Za (rg0 [2] 0 ⟨29, [(2, .int .i64 r12)], []⟩ (Zb (Zg (ZB (Zh (G6 (ZB (Zh (er1 h89)))))))))
 exact Ze (XM (Zb (zg [1, 16, 17, 18] 1 (G5 (Ui (Za (zg [1, 16, 17, 18, 19] 1 (Zb (Za (cnd false (fun b91 => Bool.noConfusion b91) (fun _ => (ZV (Xs (ZlF (Qd (Zb (Za (zg [2] 0 (Zb (Zg (er1 h90)))))))))))))))))))))
theorem RD (a0 : Zy) (b0 : Zf) (r : Bool) (h : M.Y3 a0 b0 = some r) : Fn Tryz.prog 86 [.agg (Zn a0), .pp (Zx b0)] (.pure (.bool r)) := by
 unfold M.Y3 at h
 refine ZQ Tryz.func86 rfl (by kernel_rfl) (Za (zg [1, 2] 1 (Zb (Za ?_))))
 obtain ⟨r1, q1, h2⟩ := bind_some h
 exact zr [3] 0 Zw (rq2 (fun hg => RA _ _ _ (Xc q1 hg)) rqn) (Zb (Zg (er1 h2)))
theorem Vl (a0 : List Zy) (a1c0 : Zf) (r : Int) (h : M.ZN a0 a1c0 = some r) : Fn Tryz.prog 146 [sL 12 Zn a0, .fn 86 [.pp (Zx a1c0)]] (.pure (.int .i64 r)) := by
 unfold M.ZN at h
 refine ZQ Tryz.func146 rfl (by kernel_rfl) (Za (zg [0, 1] 0 (Zb (Za (Za (zg [0, 1, 7, 8] 0 (Zb (Zj ?_))))))))
 obtain ⟨y4, q12, h13⟩ := bind_some h
 refine zl (fun (p1 : Int) => ⟨19, [(0, sL 12 Zn a0), (1, .fn 86 [.pp (Zx a1c0)]), (7, .int .i64 (a0.length : Int)), (8, .int .i64 p1)], []⟩) (Sum.elim (fun z => OutE 0 (fun z => ⟨19, [], []⟩) z) (fun z => OutR Tryz.prog Tryz.f146 (.int .i64 z))) q12 ?_ ?_
 intro p1 y2 h1
 unfold M.ZH at h1
 refine Za (zg [0, 1, 7, 8, 9] 0 (Zb (Za (cn h1 (fun _ h3 => ?_) (fun _ h4 => ?_)))))
 refine Ze (Zb (Za (Zj (Za (zg [0, 1, 5, 7, 8] 0 (Zb (Za ?_)))))))
 obtain ⟨r3, q5, h6⟩ := bind_some h3
 obtain ⟨c7, h8⟩ := ZA h6
 refine zr [0, 1, 5, 7, 8, 16] 0 c7 (rq1 (RD _ _ _ q5) rqn) (Zb (cn h8 (fun _ h10 => ?_) (fun _ h11 => ?_)))
 exact Za (zg [4] 0 (Zb (Zg (ZB (Zh (rr h10 ⟨rfl, er0 _⟩))))))
 exact Ze (XM (Zb (zg [0, 1, 7, 8] 0 (rn h11))))
 exact ZV (Xs (re h4 ⟨rfl, kq⟩))
 intro e14 s15 o16
 rcases y4 with g5 | y6
 have h17 := XP h13
 exact zi o16 (Za (zg [4] 0 (Zb (Zg (er1 h17)))))
 have h18 := XQ h13
 obtain ⟨rfl, n20⟩ := o16
 refine ZB (Zh ?_)
 obtain rfl := Option.some.inj h18
 exact n20
theorem Vd (a0 : List Zy) (a1c0 : Zf) (r : Bool) (h : M.ZI a0 a1c0 = some r) : Fn Tryz.prog 85 [sL 12 Zn a0, .fn 86 [.pp (Zx a1c0)]] (.pure (.bool r)) := by
 unfold M.ZI at h
 refine ZQ Tryz.func85 rfl (by kernel_rfl) (Za (zg [0, 1] 0 (Zb (Za ?_))))
 obtain ⟨r1, q1, h2⟩ := bind_some h
 exact zr [4] 0 Zw (rq1 (Vl _ _ _ q1) rqn) (Zb (Zg (er1 h2)))
theorem ZaB (a0 : Zf) (a1 : Zf) (r : Bool) (h : M.Jc a0 a1 = some r) : Fn Tryz.prog 59 [.agg (Zx a0), .agg (Zx a1)] (.pure (.bool r)) := by
 unfold M.Jc at h
 refine ZQ Tryz.func59 rfl (by kernel_rfl) (Za (zg [2, 3] 2 (Zb (Za ?_))))
 obtain ⟨r1, q1, h2⟩ := bind_some h
 exact zr [4] 0 Zw (rq1 (Vd _ _ _ q1) rqn) (Zb (Zg (er1 h2)))
theorem ZfG (a0 : ZX) (r : Int) (h : M.QJ a0 = some r) : Fn Tryz.prog 37 [.agg (Yg a0)] (.pure (.int .i64 r)) := by
 let u1 : Nat × D := (13, sL 25 Zx a0.Zd)
 let u3 := (a0.Zd.length : Int)
 let u5 := Yg a0
 unfold M.QJ at h
 refine ZQ Tryz.func37 rfl (by kernel_rfl) (Za (zg [1] 1 (Zb (Za (Za (zg [1, 11] 1 (Zb (cn h (fun _ h2 => ?_) (fun _ h3 => ?_)))))))))
 exact Za (zg [2] 0 (Zb (Zg (Zh (er1 h2)))))
 refine Ze (Zb (Za (Za (zg [1, 13, 14, 15] 1 (Zb (Zj ?_))))))
 obtain ⟨y10, q37, h38⟩ := bind_some h3
 refine zl (fun (p1 : Int) => ⟨46, [(1, .ref 0 0), u1, (14, .int .i64 u3), (15, .int .i64 p1)], [.box u5]⟩) (Sum.elim (fun z => OutE 0 (fun z => ⟨46, [], []⟩) z) (fun z => OutR Tryz.prog Tryz.f37 (.int .i64 z))) q37 ?_ ?_
 intro p1 y2 h4
 let u2 : List Ob := [.box u5, .box (Zx (a0.Zd.getD p1.toNat default))]
 let u4 : Nat × D := (28, sL 25 Zx ((a0.Zd.drop 0).take (p1.toNat - 0)))
 unfold M.Vu at h4
 refine Za (zg [1, 13, 14, 15, 16] 1 (Zb (Za (cn h4 (fun _ h6 => ?_) (fun _ h7 => ?_)))))
 refine Ze (Zb (Za (Zj (Za ?_))))
 obtain ⟨c8, h9⟩ := ZA h6
 refine zc [1, 3, 4, 13, 14, 15] 2 c8 (Zb (Za (Za ?_)))
 obtain ⟨r3, q10, h11⟩ := bind_some h9
 refine zr [1, 3, 4, 5, 13, 14, 15] 2 Zw (rq1 (Za9 _ _ q10) rqn) (Zb (Za (zg [1, 3, 4, 5, 13, 14, 15, 23] 2 (Zb (cn h11 (fun _ h13 => ?_) (fun _ h14 => ?_))))))
 exact Za (zg [2] 0 (Zb (Zg (Zh (ZB (Zh (rr h13 ⟨rfl, er0 _⟩)))))))
 refine Ze (Zb (Za ?_))
 obtain ⟨c15, h16⟩ := ZA h14
 refine rgc [1, 4, 13, 14, 15, 28, 29, 30] 2 ⟨46, [(1, .ref 0 0), (4, .ref 1 0), u1, (14, .int .i64 u3), (15, .int .i64 p1), (28, .sl false 25 (p1.toNat - 0) (fun i => Zx (a0.Zd.getD (0 + i) default))), (29, .int .i64 ((p1.toNat - 0 : Nat) : Int)), (30, .int .i64 0)], u2⟩ [decide (0 ≤ p1), decide (p1 ≤ u3)] c15 (XE (s' := ⟨46, [(1, .ref 0 0), (4, .ref 1 0), u1, (14, .int .i64 u3), (15, .int .i64 p1), u4, (29, .int .i64 ((p1.toNat - 0 : Nat) : Int)), (30, .int .i64 0)], u2⟩) (VX (.cons Sub.rfl (.cons Sub.rfl (.cons Sub.rfl (.cons Sub.rfl (.cons Sub.rfl (.cons (Uv (Kp _ _ _ (RX (c15 _ (List.mem_cons_of_mem _ List.mem_cons_self)))) (Ko _ _ _ _)) (.cons Sub.rfl (.cons Sub.rfl .nil)))))))) (.cons .rfl (.cons .rfl .nil))) (Zj ?_))
 obtain ⟨y7, q28, h29⟩ := bind_some h16
 refine zl (fun (p4 : Int) => ⟨46, [(1, .ref 0 0), (4, .ref 1 0), u1, (14, .int .i64 u3), (15, .int .i64 p1), u4, (29, .int .i64 ((p1.toNat - 0 : Nat) : Int)), (30, .int .i64 p4)], u2⟩) (Sum.elim (fun z => OutE 2 (fun z => ⟨46, [(1, .ref 0 0), u1, (14, .int .i64 u3), (15, .int .i64 p1)], [.box u5]⟩) z) (fun z => OutR Tryz.prog Tryz.f37 (.int .i64 z))) q28 ?_ ?_
 intro p4 y5 h17
 unfold M.JY at h17
 refine Za (zg [1, 4, 13, 14, 15, 28, 29, 30, 31] 2 (Zb (Za (cn h17 (fun _ h19 => ?_) (fun _ h20 => ?_)))))
 refine Ze (Zb (Za (Zj (Za ?_))))
 obtain ⟨c21, h22⟩ := ZA h19
 refine zc [1, 4, 7, 13, 14, 15, 28, 29, 30] 3 c21 (Zb (Za ?_))
 obtain ⟨r6, q23, h24⟩ := bind_some h22
 refine zr [1, 4, 13, 14, 15, 28, 29, 30, 43] 2 Zw (rq2 (fun hg => ZaB _ _ _ (Xc q23 hg)) rqn) (Zb (cn h24 (fun _ h26 => ?_) (fun _ h27 => ?_)))
 exact Za (zg [2] 0 (Zb (Zg (ZB (Zh (rr h26 ⟨rfl, er0 _⟩))))))
 exact Ze (XM (Zb (zg [1, 4, 13, 14, 15, 28, 29, 30] 2 (rn h27))))
 exact ZV (Xs (re h20 ⟨rfl, kc⟩))
 intro e30 s31 o32
 rcases y7 with g8 | y9
 have h33 := XP h29
 obtain ⟨rfl, l35⟩ := o32
 exact Qd (XM (XE (s' := ⟨46, [(1, .ref 0 0), u1, (14, .int .i64 u3), (15, .int .i64 p1)], [.box u5]⟩) (l35) (zg [1, 13, 14, 15] 1 (rn h33))))
 have h34 := XQ h29
 obtain ⟨rfl, n36⟩ := o32
 exact ZB (ZB (Zh (rr h34 ⟨rfl, n36⟩)))
 exact ZV (Xs (re h7 ⟨rfl, kc⟩))
 intro e39 s40 o41
 rcases y10 with g11 | y12
 have h42 := XP h38
 exact zi o41 (Za (zg [2] 0 (Zb (Zg (er1 h42)))))
 have h43 := XQ h38
 obtain ⟨rfl, n45⟩ := o41
 refine ZB (Zh ?_)
 obtain rfl := Option.some.inj h43
 exact n45
theorem Zh5 : KeyT Tryz.prog 117 119 3 Xg topoKeyEq := ⟨by kernel_rfl, ⟨_, Tryz.underlying119⟩, ⟨3, by kernel_rfl, fun _ => rfl⟩, fun _ => rfl, fun em y w => by cases em <;> kernel_rfl, fun w => by kernel_rfl, fun x y => by kernel_rfl⟩
theorem Zd3 (a0 : ZX) (r : List Zk) (h : M.V4 a0 = some r) : Fn Tryz.prog 38 [.agg (Yg a0)] (oL 4 ZU r) := by
 let u1 : Nat × D := (14, sL 25 Zx a0.Zd)
 let u2 := (a0.Zd.length : Int)
 let u3 := Yg a0
 let u4 : Nat × D := (3, .sl true 4 0 (fun _ => []))
 let u5 := List (Z7 × Int)
 let u6 : St := ⟨82, [(1, .ref 0 0), u4], [.box u3]⟩
 let u7 := List Zk
 unfold M.V4 at h
 obtain ⟨y, hy, h1⟩ := bind_some h
 obtain rfl := Option.some.inj h1
 refine ZdW Tryz.func38 rfl (by kernel_rfl) (Gq ?_)
 refine Za (rg0 [1] 1 ⟨82, [(1, .ref 0 0)], [.box u3]⟩ ?_)
 refine Zb (Za (rg0 [1, 3] 1 u6 ?_))
 refine Zb (Za ?_)
 refine rgo 0 [] [1, 3] 1 u6 [] [] Zw trivial (fun u : Value => ⟨82, (12, .val u) :: [(1, .ref 0 0), u4], [.box u3] ++ [.mp u []]⟩) (Zk7 rfl rfl rfl rfl rfl) [] [1, 3, 4] 2 (fun u => ⟨82, [(1, .ref 0 0), u4, (4, .val u)], [.box u3, .mp u []]⟩) (fun _ => []) (fun _ => []) (fun _ => Zw) (fun _ => trivial) (fun u => ?_)
 refine Zb (Za (Za (rg0 [3, 4, 14, 15, 16] 2 ⟨82, [u4, (4, .val u), u1, (15, .int .i64 u2), (16, .int .i64 0)], [.box u3, .mp u []]⟩ ?_)))
 refine XE (Le.trans (s' := ⟨82, (3, .asl 2 0 0) :: [u4, (4, .val u), u1, (15, .int .i64 u2), (16, .int .i64 0)], [.box u3, .mp u []] ++ [.arr 4 0 (fun _ => [])]⟩) (ZbK (wd := 4) (f := fun _ => []) 3 (by kernel_rfl) _ _) (Le.trans (s' := ⟨82, [(3, .asl 2 0 0), (4, .val u), u1, (15, .int .i64 u2), (16, .int .i64 0)], [.box u3, .mp u [], .arr 4 0 (fun _ => [])]⟩) (kp [3, 4, 14, 15, 16]) (ZhX (H := [.box u3, .mp u []]) (wi := 2) (wd := 4) hdDom Xq Zk.Xf _))) ?_
 refine Zj ?_
 refine KB (ZbL (f := M.Jj a0) (S := fun (p : u7 × u5 × Int) (vs : Nat → Value) => ⟨82, [(3, .asl 2 0 p.1.length), (4, .val u), u1, (15, .int .i64 u2), (16, .int .i64 p.2.2)], [.box u3, mpO u Xg p.2.1, rA 4 hdDom p.1 vs, rF 2 Xq Zk.Xf p.1 vs]⟩) (O := (fun z => OutL 0 (fun (z : List Zk) (g : (Nat → Value) × u5) => ⟨82, [(3, .asl 2 0 z.length)], [.box u3, mpO u Xg g.2, rA 4 hdDom z g.1, rF 2 Xq Zk.Xf z g.1]⟩) z)) ?_ (g := fun _ => nilV) (x := ([], [], 0)) (y := y) (W4 hy)) ?_
 · intro p1 y1 v1 h2
   unfold M.Jj at h2
   refine Za (rg0 [3, 4, 14, 15, 16, 17] 4 ⟨82, [(3, .asl 2 0 p1.1.length), (4, .val u), u1, (15, .int .i64 u2), (16, .int .i64 p1.2.2), (17, .bool (decide (p1.2.2 < u2)))], [.box u3, mpO u Xg p1.2.1, rA 4 hdDom p1.1 v1, rF 2 Xq Zk.Xf p1.1 v1]⟩ ?_)
   refine Zb (Za ?_)
   refine cnd (decide (p1.2.2 < u2)) (fun b1 => ?_) (fun b1 => ?_)
   · have h3 := GD b1 h2
     refine Ze (Zb ?_)
     refine Za (Zj (Za ?_))
     obtain ⟨c1, h4⟩ := ZA h3
     refine rgc [3, 4, 5, 6, 14, 15, 16] 5 ⟨82, [(3, .asl 2 0 p1.1.length), (4, .val u), (5, .int .i64 p1.2.2), (6, .ref 4 0), u1, (15, .int .i64 u2), (16, .int .i64 p1.2.2)], [.box u3, mpO u Xg p1.2.1, rA 4 hdDom p1.1 v1, rF 2 Xq Zk.Xf p1.1 v1, .box (Zx (a0.Zd.getD p1.2.2.toNat default))]⟩ [decide (0 ≤ p1.2.2), decide (p1.2.2 < u2)] c1 ?_
     refine Zb (Za (rg0 [3, 4, 5, 14, 15, 16, 22, 23, 24] 4 ⟨82, [(3, .asl 2 0 p1.1.length), (4, .val u), (5, .int .i64 p1.2.2), u1, (15, .int .i64 u2), (16, .int .i64 p1.2.2), (22, sL 12 Zn (a0.Zd.getD p1.2.2.toNat default).Zc), (23, .int .i64 ((a0.Zd.getD p1.2.2.toNat default).Zc.length : Int)), (24, .int .i64 0)], [.box u3, mpO u Xg p1.2.1, rA 4 hdDom p1.1 v1, rF 2 Xq Zk.Xf p1.1 v1]⟩ ?_))
     refine Zb (Zj ?_)
     obtain ⟨y2, hy2, h5⟩ := bind_some h4
     refine KB (ZbL (f := M.QR a0 p1.2.2) (S := fun (p : u7 × u5 × Int) (vs : Nat → Value) => ⟨82, [(3, .asl 2 0 p.1.length), (4, .val u), (5, .int .i64 p1.2.2), u1, (15, .int .i64 u2), (16, .int .i64 p1.2.2), (22, sL 12 Zn (a0.Zd.getD p1.2.2.toNat default).Zc), (23, .int .i64 ((a0.Zd.getD p1.2.2.toNat default).Zc.length : Int)), (24, .int .i64 p.2.2)], [.box u3, mpO u Xg p.2.1, rA 4 hdDom p.1 vs, rF 2 Xq Zk.Xf p.1 vs]⟩) (O := (fun z => OutL 2 (fun (z : u7 × u5) (vs : Nat → Value) => ⟨82, [(3, .asl 2 0 z.1.length), (4, .val u), u1, (15, .int .i64 u2), (16, .int .i64 p1.2.2)], [.box u3, mpO u Xg z.2, rA 4 hdDom z.1 vs, rF 2 Xq Zk.Xf z.1 vs]⟩) z)) ?_ (g := v1) (x := (p1.1, p1.2.1, 0)) (y := y2) (W4 hy2)) ?_
     · intro p2 y3 v2 h6
       unfold M.QR at h6
       refine Za (rg0 [3, 4, 5, 14, 15, 16, 22, 23, 24, 25] 4 ⟨82, [(3, .asl 2 0 p2.1.length), (4, .val u), (5, .int .i64 p1.2.2), u1, (15, .int .i64 u2), (16, .int .i64 p1.2.2), (22, sL 12 Zn (a0.Zd.getD p1.2.2.toNat default).Zc), (23, .int .i64 ((a0.Zd.getD p1.2.2.toNat default).Zc.length : Int)), (24, .int .i64 p2.2.2), (25, .bool (decide (p2.2.2 < ((a0.Zd.getD p1.2.2.toNat default).Zc.length : Int))))], [.box u3, mpO u Xg p2.2.1, rA 4 hdDom p2.1 v2, rF 2 Xq Zk.Xf p2.1 v2]⟩ ?_)
       refine Zb (Za ?_)
       refine cnd (decide (p2.2.2 < ((a0.Zd.getD p1.2.2.toNat default).Zc.length : Int))) (fun b2 => ?_) (fun b2 => ?_)
       · have h7 := GD b2 h6
         refine Ze (Zb ?_)
         refine Za (Zj (Za ?_))
         obtain ⟨c2, h8⟩ := ZA h7
         refine rgc [3, 4, 5, 7, 8, 14, 15, 16, 22, 23, 24] 5 ⟨82, [(3, .asl 2 0 p2.1.length), (4, .val u), (5, .int .i64 p1.2.2), (7, .int .i64 p2.2.2), (8, .ref 4 0), u1, (15, .int .i64 u2), (16, .int .i64 p1.2.2), (22, sL 12 Zn (a0.Zd.getD p1.2.2.toNat default).Zc), (23, .int .i64 ((a0.Zd.getD p1.2.2.toNat default).Zc.length : Int)), (24, .int .i64 p2.2.2)], [.box u3, mpO u Xg p2.2.1, rA 4 hdDom p2.1 v2, rF 2 Xq Zk.Xf p2.1 v2, .box (Zn ((a0.Zd.getD p1.2.2.toNat default).Zc.getD p2.2.2.toNat default))]⟩ [decide (0 ≤ p2.2.2), decide (p2.2.2 < ((a0.Zd.getD p1.2.2.toNat default).Zc.length : Int))] c2 ?_
         refine Zb (Za (Za ?_))
         refine rg0 [3, 4, 5, 7, 8, 14, 15, 16, 22, 23, 24, 35] 5 ⟨82, [(3, .asl 2 0 p2.1.length), (4, .val u), (5, .int .i64 p1.2.2), (7, .int .i64 p2.2.2), (8, .ref 4 0), u1, (15, .int .i64 u2), (16, .int .i64 p1.2.2), (22, sL 12 Zn (a0.Zd.getD p1.2.2.toNat default).Zc), (23, .int .i64 ((a0.Zd.getD p1.2.2.toNat default).Zc.length : Int)), (24, .int .i64 p2.2.2), (35, .bool ((((a0.Zd.getD p1.2.2.toNat default).Zc.getD p2.2.2.toNat default).ZJ == 0) || ((a0.Zd.getD p1.2.2.toNat default).Zc.getD p2.2.2.toNat default).K3))], [.box u3, mpO u Xg p2.2.1, rA 4 hdDom p2.1 v2, rF 2 Xq Zk.Xf p2.1 v2, .box (Zn ((a0.Zd.getD p1.2.2.toNat default).Zc.getD p2.2.2.toNat default))]⟩ ?_
         refine Zb ?_
         refine cnd ((((a0.Zd.getD p1.2.2.toNat default).Zc.getD p2.2.2.toNat default).ZJ == 0) || ((a0.Zd.getD p1.2.2.toNat default).Zc.getD p2.2.2.toNat default).K3) (fun b3 => ?_) (fun b3 => ?_)
         · have h9 := GD b3 h8
           refine ZV (Xs (Qd ?_))
           refine Zb (rg0 [3, 4, 5, 14, 15, 16, 22, 23, 24] 4 ⟨82, [(3, .asl 2 0 p2.1.length), (4, .val u), (5, .int .i64 p1.2.2), u1, (15, .int .i64 u2), (16, .int .i64 p1.2.2), (22, sL 12 Zn (a0.Zd.getD p1.2.2.toNat default).Zc), (23, .int .i64 ((a0.Zd.getD p1.2.2.toNat default).Zc.length : Int)), (24, .int .i64 (wr .i64 (p2.2.2 + 1)))], [.box u3, mpO u Xg p2.2.1, rA 4 hdDom p2.1 v2, rF 2 Xq Zk.Xf p2.1 v2]⟩ ?_)
           obtain rfl := Option.some.inj h9
           exact ZaY v2 GC
         · have h9 := GE b3 h8
           refine Ze (Zb (Za ?_))
           obtain ⟨r, hr, h10⟩ := bind_some h9
           refine rgs 8 9 [.pure (.agg (Z9 r))] [3, 4, 5, 7, 9, 14, 15, 16, 22, 23, 24] 6 ⟨82, [(3, .asl 2 0 p2.1.length), (4, .val u), (5, .int .i64 p1.2.2), (7, .int .i64 p2.2.2), (9, .ref 5 0), u1, (15, .int .i64 u2), (16, .int .i64 p1.2.2), (22, sL 12 Zn (a0.Zd.getD p1.2.2.toNat default).Zc), (23, .int .i64 ((a0.Zd.getD p1.2.2.toNat default).Zc.length : Int)), (24, .int .i64 p2.2.2)], [.box u3, mpO u Xg p2.2.1, rA 4 hdDom p2.1 v2, rF 2 Xq Zk.Xf p2.1 v2, .box (Zn ((a0.Zd.getD p1.2.2.toNat default).Zc.getD p2.2.2.toNat default)), .box (Xg (⟨r, ((a0.Zd.getD p1.2.2.toNat default).Zc.getD p2.2.2.toNat default).Xr⟩ : Z7))]⟩ [] [⟨true, 60, [.int .u32 ((a0.Zd.getD p1.2.2.toNat default).Zc.getD p2.2.2.toNat default).Zu, .int .i64 ((a0.Zd.getD p1.2.2.toNat default).Zc.getD p2.2.2.toNat default).ZJ], .pure (.agg (Z9 r))⟩] Zw ⟨fun _ => Kf ((a0.Zd.getD p1.2.2.toNat default).Zc.getD p2.2.2.toNat default).Zu ((a0.Zd.getD p1.2.2.toNat default).Zc.getD p2.2.2.toNat default).ZJ r hr, trivial⟩ ?_
           refine Zb (Za ?_)
           refine rgo 2 [] [3, 4, 5, 7, 9, 14, 15, 16, 22, 23, 24, 45, 46] 6 ⟨82, [(3, .asl 2 0 p2.1.length), (4, .val u), (5, .int .i64 p1.2.2), (7, .int .i64 p2.2.2), (9, .ref 5 0), u1, (15, .int .i64 u2), (16, .int .i64 p1.2.2), (22, sL 12 Zn (a0.Zd.getD p1.2.2.toNat default).Zc), (23, .int .i64 ((a0.Zd.getD p1.2.2.toNat default).Zc.length : Int)), (24, .int .i64 p2.2.2), (45, .val u), (46, .agg (Xg (⟨r, ((a0.Zd.getD p1.2.2.toNat default).Zc.getD p2.2.2.toNat default).Xr⟩ : Z7)))], [.box u3, mpO u Xg p2.2.1, rA 4 hdDom p2.1 v2, rF 2 Xq Zk.Xf p2.1 v2, .box (Zn ((a0.Zd.getD p1.2.2.toNat default).Zc.getD p2.2.2.toNat default)), .box (Xg (⟨r, ((a0.Zd.getD p1.2.2.toNat default).Zc.getD p2.2.2.toNat default).Xr⟩ : Z7))]⟩ [] [] Zw trivial (fun _ : Unit => ⟨82, (47, .tup [.int .i64 (lkM (topoKeyEq (⟨r, ((a0.Zd.getD p1.2.2.toNat default).Zc.getD p2.2.2.toNat default).Xr⟩ : Z7)) p2.2.1).1, .bool (lkM (topoKeyEq (⟨r, ((a0.Zd.getD p1.2.2.toNat default).Zc.getD p2.2.2.toNat default).Xr⟩ : Z7)) p2.2.1).2]) :: [(3, .asl 2 0 p2.1.length), (4, .val u), (5, .int .i64 p1.2.2), (7, .int .i64 p2.2.2), (9, .ref 5 0), u1, (15, .int .i64 u2), (16, .int .i64 p1.2.2), (22, sL 12 Zn (a0.Zd.getD p1.2.2.toNat default).Zc), (23, .int .i64 ((a0.Zd.getD p1.2.2.toNat default).Zc.length : Int)), (24, .int .i64 p2.2.2), (45, .val u), (46, .agg (Xg (⟨r, ((a0.Zd.getD p1.2.2.toNat default).Zc.getD p2.2.2.toNat default).Xr⟩ : Z7)))], [.box u3, mpO u Xg p2.2.1, rA 4 hdDom p2.1 v2, rF 2 Xq Zk.Xf p2.1 v2, .box (Zn ((a0.Zd.getD p1.2.2.toNat default).Zc.getD p2.2.2.toNat default)), .box (Xg (⟨r, ((a0.Zd.getD p1.2.2.toNat default).Zc.getD p2.2.2.toNat default).Xr⟩ : Z7))]⟩) (Zk9 (id := 1) Zh5 (⟨r, ((a0.Zd.getD p1.2.2.toNat default).Zc.getD p2.2.2.toNat default).Xr⟩ : Z7) rfl rfl rfl rfl rfl rfl rfl rfl) [] [3, 4, 5, 7, 9, 10, 11, 14, 15, 16, 22, 23, 24] 6 (fun _ => ⟨82, [(3, .asl 2 0 p2.1.length), (4, .val u), (5, .int .i64 p1.2.2), (7, .int .i64 p2.2.2), (9, .ref 5 0), (10, .int .i64 (lkM (topoKeyEq (⟨r, ((a0.Zd.getD p1.2.2.toNat default).Zc.getD p2.2.2.toNat default).Xr⟩ : Z7)) p2.2.1).1), (11, .bool (lkM (topoKeyEq (⟨r, ((a0.Zd.getD p1.2.2.toNat default).Zc.getD p2.2.2.toNat default).Xr⟩ : Z7)) p2.2.1).2), u1, (15, .int .i64 u2), (16, .int .i64 p1.2.2), (22, sL 12 Zn (a0.Zd.getD p1.2.2.toNat default).Zc), (23, .int .i64 ((a0.Zd.getD p1.2.2.toNat default).Zc.length : Int)), (24, .int .i64 p2.2.2)], [.box u3, mpO u Xg p2.2.1, rA 4 hdDom p2.1 v2, rF 2 Xq Zk.Xf p2.1 v2, .box (Zn ((a0.Zd.getD p1.2.2.toNat default).Zc.getD p2.2.2.toNat default)), .box (Xg (⟨r, ((a0.Zd.getD p1.2.2.toNat default).Zc.getD p2.2.2.toNat default).Xr⟩ : Z7))]⟩) (fun _ => []) (fun _ => []) (fun _ => Zw) (fun _ => trivial) (fun _ => ?_)
           refine Zb ?_
           refine Uj (fun (q : u7 × u5 × Int × (Nat → Value)) => ⟨82, [(3, .asl 2 0 q.1.length), (4, .val u), (5, .int .i64 p1.2.2), (7, .int .i64 p2.2.2), (10, .int .i64 q.2.2.1), u1, (15, .int .i64 u2), (16, .int .i64 p1.2.2), (22, sL 12 Zn (a0.Zd.getD p1.2.2.toNat default).Zc), (23, .int .i64 ((a0.Zd.getD p1.2.2.toNat default).Zc.length : Int)), (24, .int .i64 p2.2.2)], [.box u3, mpO u Xg q.2.1, rA 4 hdDom q.1 q.2.2.2, rF 2 Xq Zk.Xf q.1 q.2.2.2]⟩) (fun q => M.QY p1.2.2 p2 (q.1, q.2.1, q.2.2.1) = some y3) ?_ ?_
           · intro q h11
             unfold M.QY at h11
             obtain ⟨c4, h12⟩ := ZA h11
             have g1 : 0 ≤ q.2.2.1 := of_decide_eq_true (c4 _ (by simp only [List.mem_cons, true_or]))
             have g2 : q.2.2.1 < (q.1.length : Int) := of_decide_eq_true (c4 _ (by simp only [List.mem_cons, true_or, or_true]))
             have g3 : ((q.1.getD (0 + q.2.2.1.toNat) default).Xf.length + 1) * 16 ≤ 140737488355328 := of_decide_eq_true (c4 _ (by simp only [List.mem_cons, true_or, or_true]))
             refine Ug (ZkU (idf := 3) (0 + q.2.2.1.toNat) rfl) ?_
             refine rgxe 12 [] [3, 4, 5, 14, 15, 16, 22, 23, 24, 65, 66, 76] 5 ⟨82, [(3, .asl 2 0 q.1.length), (4, .val u), (5, .int .i64 p1.2.2), u1, (15, .int .i64 u2), (16, .int .i64 p1.2.2), (22, sL 12 Zn (a0.Zd.getD p1.2.2.toNat default).Zc), (23, .int .i64 ((a0.Zd.getD p1.2.2.toNat default).Zc.length : Int)), (24, .int .i64 p2.2.2), (65, .asl 2 0 q.1.length), (66, .int .i64 q.2.2.1), (76, .asl 4 0 ((q.1.getD (0 + q.2.2.1.toNat) default).Xf.length + 1))], [.box u3, mpO u Xg q.2.1, rA 4 hdDom q.1 q.2.2.2, .fam (0 + q.2.2.1.toNat) (fun _ => false) q.1.length 2 (updV q.2.2.2 (0 + q.2.2.1.toNat) nilV) (updL (rls Xq Zk.Xf q.1) (0 + q.2.2.1.toNat) (0, fun _ => [])), .arr 2 ((q.1.getD (0 + q.2.2.1.toNat) default).Xf.length + 1) (app (rls Xq Zk.Xf q.1 (0 + q.2.2.1.toNat)).2 (rls Xq Zk.Xf q.1 (0 + q.2.2.1.toNat)).1 (fun i => List.take 2 (List.drop (i * 2) [.int .i64 p1.2.2, .int .i64 p2.2.2])))]⟩ [decide (0 ≤ q.2.2.1), decide (q.2.2.1 < (q.1.length : Int)), pB (q.2.2.2 (0 + q.2.2.1.toNat) = q.2.2.2 (0 + q.2.2.1.toNat)), decide ((0 + q.2.2.1.toNat) < q.1.length), decide (((q.1.getD (0 + q.2.2.1.toNat) default).Xf.length + 1) * 16 ≤ 140737488355328)] [] ?_ trivial _ (Zi9 (idf := 3) 76 (0 + q.2.2.1.toNat) rfl rfl rfl ?_ rfl) [] [3, 4, 5, 14, 15, 16, 22, 23, 24] 4 (fun w => ⟨82, [(3, .asl 2 0 q.1.length), (4, .val u), (5, .int .i64 p1.2.2), u1, (15, .int .i64 u2), (16, .int .i64 p1.2.2), (22, sL 12 Zn (a0.Zd.getD p1.2.2.toNat default).Zc), (23, .int .i64 ((a0.Zd.getD p1.2.2.toNat default).Zc.length : Int)), (24, .int .i64 p2.2.2)], [.box u3, mpO u Xg q.2.1, .arr 4 q.1.length (fun j => bif Nat.beq j (0 + q.2.2.1.toNat) then splice (hdDom (q.1.getD (0 + q.2.2.1.toNat) default) ++ [.val (q.2.2.2 (0 + q.2.2.1.toNat))]) [.val w] 3 else hdDom (q.1.getD j default) ++ [.val (q.2.2.2 j)]), .fam 0 (fun _ => false) q.1.length 2 (updV (updV q.2.2.2 (0 + q.2.2.1.toNat) nilV) (0 + q.2.2.1.toNat) w) (updL (updL (rls Xq Zk.Xf q.1) (0 + q.2.2.1.toNat) (0, fun _ => [])) (0 + q.2.2.1.toNat) ((q.1.getD (0 + q.2.2.1.toNat) default).Xf.length + 1, (app (rls Xq Zk.Xf q.1 (0 + q.2.2.1.toNat)).2 (rls Xq Zk.Xf q.1 (0 + q.2.2.1.toNat)).1 (fun i => List.take 2 (List.drop (i * 2) [.int .i64 p1.2.2, .int .i64 p2.2.2])))))]⟩) (fun _ => [decide (0 ≤ q.2.2.1), decide (q.2.2.1 < (q.1.length : Int))]) (fun _ => []) ?_ (fun _ => trivial) (fun w => ?_)
             · exact am (decide_eq_true g1) (am (decide_eq_true g2) (am (ZkT rfl) (am (decide_eq_true (by omega)) (am (decide_eq_true g3) Zw))))
             · rw [Uf]; rfl
             · exact fun _ => am (decide_eq_true g1) (am (decide_eq_true g2) Zw)
             refine XM ?_
             refine XE (s' := ⟨82, [(3, .asl 2 0 (q.1.set (0 + q.2.2.1.toNat) (⟨(q.1.getD (0 + q.2.2.1.toNat) default).Zp, (q.1.getD (0 + q.2.2.1.toNat) default).Xr, (q.1.getD (0 + q.2.2.1.toNat) default).Xf ++ [(⟨p1.2.2, p2.2.2⟩ : VS)]⟩ : Zk)).length), (4, .val u), (5, .int .i64 p1.2.2), (14, sL 25 Zx a0.Zd), (15, .int .i64 (a0.Zd.length : Int)), (16, .int .i64 p1.2.2), (22, sL 12 Zn (a0.Zd.getD p1.2.2.toNat default).Zc), (23, .int .i64 ((a0.Zd.getD p1.2.2.toNat default).Zc.length : Int)), (24, .int .i64 p2.2.2)], [.box (Yg a0), mpO u Xg q.2.1, rA 4 hdDom (q.1.set (0 + q.2.2.1.toNat) (⟨(q.1.getD (0 + q.2.2.1.toNat) default).Zp, (q.1.getD (0 + q.2.2.1.toNat) default).Xr, (q.1.getD (0 + q.2.2.1.toNat) default).Xf ++ [(⟨p1.2.2, p2.2.2⟩ : VS)]⟩ : Zk)) (updV q.2.2.2 (0 + q.2.2.1.toNat) w), rF 2 Xq Zk.Xf (q.1.set (0 + q.2.2.1.toNat) (⟨(q.1.getD (0 + q.2.2.1.toNat) default).Zp, (q.1.getD (0 + q.2.2.1.toNat) default).Xr, (q.1.getD (0 + q.2.2.1.toNat) default).Xf ++ [(⟨p1.2.2, p2.2.2⟩ : VS)]⟩ : Zk)) (updV q.2.2.2 (0 + q.2.2.1.toNat) w)]⟩) (Le.trans (Zjc 2 3 hdDom Xq Zk.Xf q.1 (⟨(q.1.getD (0 + q.2.2.1.toNat) default).Zp, (q.1.getD (0 + q.2.2.1.toNat) default).Xr, (q.1.getD (0 + q.2.2.1.toNat) default).Xf ++ [(⟨p1.2.2, p2.2.2⟩ : VS)]⟩ : Zk) q.2.2.2 (0 + q.2.2.1.toNat) w ((q.1.getD (0 + q.2.2.1.toNat) default).Xf.length + 1) (app (rls Xq Zk.Xf q.1 (0 + q.2.2.1.toNat)).2 (rls Xq Zk.Xf q.1 (0 + q.2.2.1.toNat)).1 (fun i => List.take 2 (List.drop (i * 2) [.int .i64 p1.2.2, .int .i64 p2.2.2]))) _ _ _ (by decide) rfl rfl (fun j _ hj => by rw [ZcD hj]; rfl) (fun _ => by rw [Nat.beq_refl]; rfl) (fun j hj => Gy hj) (fun j hj => ZbH hj) (by simp) (fun i hi => Zdc Xq (q.1.getD (0 + q.2.2.1.toNat) default).Xf (⟨p1.2.2, p2.2.2⟩ : VS) (fun i => List.take 2 (List.drop (i * 2) [.int .i64 p1.2.2, .int .i64 p2.2.2])) rfl i hi)) (VX (.cons (Kq (by simp)) (.cons Sub.rfl (.cons Sub.rfl (.cons Sub.rfl (.cons Sub.rfl (.cons Sub.rfl (.cons Sub.rfl (.cons Sub.rfl (.cons Sub.rfl .nil))))))))) HSub.rfl)) ?_
             refine rg0 [3, 4, 5, 14, 15, 16, 22, 23, 24] 4 ⟨82, [(3, .asl 2 0 (q.1.set (0 + q.2.2.1.toNat) (⟨(q.1.getD (0 + q.2.2.1.toNat) default).Zp, (q.1.getD (0 + q.2.2.1.toNat) default).Xr, (q.1.getD (0 + q.2.2.1.toNat) default).Xf ++ [(⟨p1.2.2, p2.2.2⟩ : VS)]⟩ : Zk)).length), (4, .val u), (5, .int .i64 p1.2.2), u1, (15, .int .i64 u2), (16, .int .i64 p1.2.2), (22, sL 12 Zn (a0.Zd.getD p1.2.2.toNat default).Zc), (23, .int .i64 ((a0.Zd.getD p1.2.2.toNat default).Zc.length : Int)), (24, .int .i64 (wr .i64 (p2.2.2 + 1)))], [.box u3, mpO u Xg q.2.1, rA 4 hdDom (q.1.set (0 + q.2.2.1.toNat) (⟨(q.1.getD (0 + q.2.2.1.toNat) default).Zp, (q.1.getD (0 + q.2.2.1.toNat) default).Xr, (q.1.getD (0 + q.2.2.1.toNat) default).Xf ++ [(⟨p1.2.2, p2.2.2⟩ : VS)]⟩ : Zk)) (updV q.2.2.2 (0 + q.2.2.1.toNat) w), rF 2 Xq Zk.Xf (q.1.set (0 + q.2.2.1.toNat) (⟨(q.1.getD (0 + q.2.2.1.toNat) default).Zp, (q.1.getD (0 + q.2.2.1.toNat) default).Xr, (q.1.getD (0 + q.2.2.1.toNat) default).Xf ++ [(⟨p1.2.2, p2.2.2⟩ : VS)]⟩ : Zk)) (updV q.2.2.2 (0 + q.2.2.1.toNat) w)]⟩ ?_
             obtain rfl := Option.some.inj h12
             exact ZaY (updV q.2.2.2 (0 + q.2.2.1.toNat) w) GC
           · intro hk
             refine Za (rg0 [3, 4, 5, 7, 9, 10, 14, 15, 16, 22, 23, 24, 51] 6 ⟨82, [(3, .asl 2 0 p2.1.length), (4, .val u), (5, .int .i64 p1.2.2), (7, .int .i64 p2.2.2), (9, .ref 5 0), (10, .int .i64 (lkM (topoKeyEq (⟨r, ((a0.Zd.getD p1.2.2.toNat default).Zc.getD p2.2.2.toNat default).Xr⟩ : Z7)) p2.2.1).1), u1, (15, .int .i64 u2), (16, .int .i64 p1.2.2), (22, sL 12 Zn (a0.Zd.getD p1.2.2.toNat default).Zc), (23, .int .i64 ((a0.Zd.getD p1.2.2.toNat default).Zc.length : Int)), (24, .int .i64 p2.2.2), (51, .bool (!(lkM (topoKeyEq (⟨r, ((a0.Zd.getD p1.2.2.toNat default).Zc.getD p2.2.2.toNat default).Xr⟩ : Z7)) p2.2.1).2))], [.box u3, mpO u Xg p2.2.1, rA 4 hdDom p2.1 v2, rF 2 Xq Zk.Xf p2.1 v2, .box (Zn ((a0.Zd.getD p1.2.2.toNat default).Zc.getD p2.2.2.toNat default)), .box (Xg (⟨r, ((a0.Zd.getD p1.2.2.toNat default).Zc.getD p2.2.2.toNat default).Xr⟩ : Z7))]⟩ ?_)
             refine Zb ?_
             refine cnd (!(lkM (topoKeyEq (⟨r, ((a0.Zd.getD p1.2.2.toNat default).Zc.getD p2.2.2.toNat default).Xr⟩ : Z7)) p2.2.1).2) (fun b4 => ?_) (fun b4 => ?_)
             · have h11 := GD b4 h10
               obtain ⟨c4, h12⟩ := ZA h11
               refine Za (rg0 [3, 4, 5, 7, 9, 10, 14, 15, 16, 22, 23, 24] 6 ⟨82, [(3, .asl 2 0 p2.1.length), (4, .val u), (5, .int .i64 p1.2.2), (7, .int .i64 p2.2.2), (9, .ref 5 0), (10, .int .i64 (p2.1.length : Int)), u1, (15, .int .i64 u2), (16, .int .i64 p1.2.2), (22, sL 12 Zn (a0.Zd.getD p1.2.2.toNat default).Zc), (23, .int .i64 ((a0.Zd.getD p1.2.2.toNat default).Zc.length : Int)), (24, .int .i64 p2.2.2)], [.box u3, mpO u Xg p2.2.1, rA 4 hdDom p2.1 v2, rF 2 Xq Zk.Xf p2.1 v2, .box (Zn ((a0.Zd.getD p1.2.2.toNat default).Zc.getD p2.2.2.toNat default)), .box (Xg (⟨r, ((a0.Zd.getD p1.2.2.toNat default).Zc.getD p2.2.2.toNat default).Xr⟩ : Z7))]⟩ ?_)
               refine Zb (Za ?_)
               refine rgo 3 [] [3, 4, 5, 7, 9, 10, 14, 15, 16, 22, 23, 24, 54, 55, 56] 6 ⟨82, [(3, .asl 2 0 p2.1.length), (4, .val u), (5, .int .i64 p1.2.2), (7, .int .i64 p2.2.2), (9, .ref 5 0), (10, .int .i64 (p2.1.length : Int)), (14, sL 25 Zx a0.Zd), (15, .int .i64 (a0.Zd.length : Int)), (16, .int .i64 p1.2.2), (22, sL 12 Zn (a0.Zd.getD p1.2.2.toNat default).Zc), (23, .int .i64 ((a0.Zd.getD p1.2.2.toNat default).Zc.length : Int)), (24, .int .i64 p2.2.2), (54, .val u), (55, .agg (Xg (⟨r, ((a0.Zd.getD p1.2.2.toNat default).Zc.getD p2.2.2.toNat default).Xr⟩ : Z7))), (56, .int .i64 (p2.1.length : Int))], [.box (Yg a0), mpO u Xg p2.2.1, rA 4 hdDom p2.1 v2, rF 2 Xq Zk.Xf p2.1 v2, .box (Zn ((a0.Zd.getD p1.2.2.toNat default).Zc.getD p2.2.2.toNat default)), .box (Xg (⟨r, ((a0.Zd.getD p1.2.2.toNat default).Zc.getD p2.2.2.toNat default).Xr⟩ : Z7))]⟩ [] [] Zw trivial (fun _ : Unit => ⟨82, [(3, .asl 2 0 p2.1.length), (4, .val u), (5, .int .i64 p1.2.2), (7, .int .i64 p2.2.2), (9, .ref 5 0), (10, .int .i64 (p2.1.length : Int)), (14, sL 25 Zx a0.Zd), (15, .int .i64 (a0.Zd.length : Int)), (16, .int .i64 p1.2.2), (22, sL 12 Zn (a0.Zd.getD p1.2.2.toNat default).Zc), (23, .int .i64 ((a0.Zd.getD p1.2.2.toNat default).Zc.length : Int)), (24, .int .i64 p2.2.2), (54, .val u), (55, .agg (Xg (⟨r, ((a0.Zd.getD p1.2.2.toNat default).Zc.getD p2.2.2.toNat default).Xr⟩ : Z7))), (56, .int .i64 (p2.1.length : Int))], [.box (Yg a0), mpO u Xg (p2.2.1 ++ [((⟨r, ((a0.Zd.getD p1.2.2.toNat default).Zc.getD p2.2.2.toNat default).Xr⟩ : Z7), (p2.1.length : Int))]), rA 4 hdDom p2.1 v2, rF 2 Xq Zk.Xf p2.1 v2, .box (Zn ((a0.Zd.getD p1.2.2.toNat default).Zc.getD p2.2.2.toNat default)), .box (Xg (⟨r, ((a0.Zd.getD p1.2.2.toNat default).Zc.getD p2.2.2.toNat default).Xr⟩ : Z7))]⟩) (ZlZ (id := 1) Zh5 (⟨r, ((a0.Zd.getD p1.2.2.toNat default).Zc.getD p2.2.2.toNat default).Xr⟩ : Z7) (p2.1.length : Int) rfl rfl rfl rfl rfl rfl rfl rfl (by simpa using b4)) [] [3, 4, 5, 7, 9, 10, 14, 15, 16, 22, 23, 24] 6 (fun _ => ⟨82, [(3, .asl 2 0 p2.1.length), (4, .val u), (5, .int .i64 p1.2.2), (7, .int .i64 p2.2.2), (9, .ref 5 0), (10, .int .i64 (p2.1.length : Int)), (14, sL 25 Zx a0.Zd), (15, .int .i64 (a0.Zd.length : Int)), (16, .int .i64 p1.2.2), (22, sL 12 Zn (a0.Zd.getD p1.2.2.toNat default).Zc), (23, .int .i64 ((a0.Zd.getD p1.2.2.toNat default).Zc.length : Int)), (24, .int .i64 p2.2.2)], [.box (Yg a0), mpO u Xg (p2.2.1 ++ [((⟨r, ((a0.Zd.getD p1.2.2.toNat default).Zc.getD p2.2.2.toNat default).Xr⟩ : Z7), (p2.1.length : Int))]), rA 4 hdDom p2.1 v2, rF 2 Xq Zk.Xf p2.1 v2, .box (Zn ((a0.Zd.getD p1.2.2.toNat default).Zc.getD p2.2.2.toNat default)), .box (Xg (⟨r, ((a0.Zd.getD p1.2.2.toNat default).Zc.getD p2.2.2.toNat default).Xr⟩ : Z7))]⟩) (fun _ => []) (fun _ => []) (fun _ => Zw) (fun _ => trivial) (fun _ => ?_)
               refine Zb ?_
               refine rgc [3, 4, 5, 7, 10, 14, 15, 16, 22, 23, 24] 4 ⟨82, [(3, .asl 2 0 (p2.1.length + 1)), (4, .val u), (5, .int .i64 p1.2.2), (7, .int .i64 p2.2.2), (10, .int .i64 (p2.1.length : Int)), u1, (15, .int .i64 u2), (16, .int .i64 p1.2.2), (22, sL 12 Zn (a0.Zd.getD p1.2.2.toNat default).Zc), (23, .int .i64 ((a0.Zd.getD p1.2.2.toNat default).Zc.length : Int)), (24, .int .i64 p2.2.2)], [.box u3, mpO u Xg (p2.2.1 ++ [((⟨r, ((a0.Zd.getD p1.2.2.toNat default).Zc.getD p2.2.2.toNat default).Xr⟩ : Z7), (p2.1.length : Int))]), .arr 4 (p2.1.length + 1) (app (fun j => hdDom (p2.1.getD j default) ++ [.val (v2 j)]) p2.1.length (fun i => List.take 4 (List.drop (i * 4) [.int .u32 r.Zu, .int .i64 r.ZJ, .int .i64 ((a0.Zd.getD p1.2.2.toNat default).Zc.getD p2.2.2.toNat default).Xr, .sl true 2 0 (fun _ => [])]))), rF 2 Xq Zk.Xf p2.1 v2]⟩ [decide ((p2.1.length + 1) * 48 ≤ 140737488355328)] c4 ?_
               refine Rv (ZjJ 2 3 hdDom Xq Zk.Xf p2.1 (⟨r, ((a0.Zd.getD p1.2.2.toNat default).Zc.getD p2.2.2.toNat default).Xr, []⟩ : Zk) v2 (by decide) rfl rfl rfl (fun j hj => Ze0 hj) (Zlb.trans rfl)) fun w => ?_
               exact Ug (VX (.cons (Kq (by simp)) (.cons Sub.rfl (.cons Sub.rfl (.cons Sub.rfl (.cons Sub.rfl (.cons Sub.rfl (.cons Sub.rfl (.cons Sub.rfl (.cons Sub.rfl (.cons Sub.rfl (.cons Sub.rfl .nil))))))))))) HSub.rfl) (hk (p2.1 ++ [(⟨r, ((a0.Zd.getD p1.2.2.toNat default).Zc.getD p2.2.2.toNat default).Xr, []⟩ : Zk)], (p2.2.1 ++ [((⟨r, ((a0.Zd.getD p1.2.2.toNat default).Zc.getD p2.2.2.toNat default).Xr⟩ : Z7), (p2.1.length : Int))]), (p2.1.length : Int), updV v2 p2.1.length w.1) h12)
             · have h11 := GE b4 h10
               refine Ze ?_
               exact XE (Le.trans (s' := ⟨82, [(3, .asl 2 0 p2.1.length), (4, .val u), (5, .int .i64 p1.2.2), (7, .int .i64 p2.2.2), (10, .int .i64 (lkM (topoKeyEq (⟨r, ((a0.Zd.getD p1.2.2.toNat default).Zc.getD p2.2.2.toNat default).Xr⟩ : Z7)) p2.2.1).1), u1, (15, .int .i64 u2), (16, .int .i64 p1.2.2), (22, sL 12 Zn (a0.Zd.getD p1.2.2.toNat default).Zc), (23, .int .i64 ((a0.Zd.getD p1.2.2.toNat default).Zc.length : Int)), (24, .int .i64 p2.2.2)], [.box u3, mpO u Xg p2.2.1, rA 4 hdDom p2.1 v2, rF 2 Xq Zk.Xf p2.1 v2, .box (Zn ((a0.Zd.getD p1.2.2.toNat default).Zc.getD p2.2.2.toNat default)), .box (Xg (⟨r, ((a0.Zd.getD p1.2.2.toNat default).Zc.getD p2.2.2.toNat default).Xr⟩ : Z7))]⟩) (kp [3, 4, 5, 7, 10, 14, 15, 16, 22, 23, 24]) (GA (n := 4) (by kernel_rfl))) (hk (p2.1, p2.2.1, (lkM (topoKeyEq (⟨r, ((a0.Zd.getD p1.2.2.toNat default).Zc.getD p2.2.2.toNat default).Xr⟩ : Z7)) p2.2.1).1, v2) h11)
       · have h7 := GE b2 h6
         refine ZV (Xs ?_)
         obtain rfl := Option.some.inj h7
         exact Zdi ⟨rfl, LeE.of v2 (kp [3, 4, 14, 15, 16])⟩
     · intro e s o
       obtain ⟨rfl, l⟩ := o
       refine Qd (XM ?_)
       refine Rv l fun v2 => ?_
       refine rg0 [3, 4, 14, 15, 16] 4 ⟨82, [(3, .asl 2 0 y2.1.length), (4, .val u), u1, (15, .int .i64 u2), (16, .int .i64 (wr .i64 (p1.2.2 + 1)))], [.box u3, mpO u Xg y2.2, rA 4 hdDom y2.1 v2, rF 2 Xq Zk.Xf y2.1 v2]⟩ ?_
       obtain rfl := Option.some.inj h5
       exact ZaY v2 GC
   · have h3 := GE b1 h2
     refine ZV (Xs ?_)
     obtain rfl := Option.some.inj h3
     exact Zdi ⟨rfl, LeE.of (v1, p1.2.1) (kp [3])⟩
 · intro e s o
   obtain ⟨rfl, l⟩ := o
   refine Qd ?_
   refine Rv l fun g => ?_
   refine Za (rg0 [2] 4 ⟨82, [(2, .asl 2 0 y.length)], [.box u3, mpO u Xg g.2, rA 4 hdDom y g.1, rF 2 Xq Zk.Xf y g.1]⟩ ?_)
   refine Zb (Zg ?_)
   exact ⟨_, Zjd 2 3 hdDom Xq Zk.Xf ZU y g.1 rfl rfl (fun _ => rfl), .inr rfl, 2, 2, _, rfl, rfl, rfl, fun _ _ => rfl⟩
theorem Kk (a0 : Int) (r : Bool) (h : M.Qv a0 = some r) : Fn Tryz.prog 100 [.int .u32 a0] (.pure (.bool r)) := by
 unfold M.Qv at h
 exact ZQ Tryz.func100 rfl (by kernel_rfl) (Za (zg [0] 0 (Zb (Za (zg [2] 0 (Zb (Zg (er1 h))))))))
theorem ZaC (a0 : Int) (a1 : Int) (r : Int) (h : M.QF a0 a1 = some r) : Fn Tryz.prog 63 [.int .u32 a0, .int .u32 a1] (.pure (.int .i64 r)) := by
 unfold M.QF at h
 refine ZQ Tryz.func63 rfl (by kernel_rfl) (Za (zg [0, 1] 0 (Zb (Za ?_))))
 obtain ⟨r1, q1, h2⟩ := bind_some h
 refine zr [0, 1, 5] 0 Zw (rq1 (Kk _ _ q1) rqn) (Zb (Za ?_))
 obtain ⟨r2, q3, h4⟩ := bind_some h2
 refine zr [0, 1, 5, 6] 0 Zw (rq1 (Kk _ _ q3) rqn) (Zb (Za (Za (zg [0, 1, 6, 11] 0 (Zb (cn h4 (fun _ h6 => ?_) (fun _ h7 => ?_)))))))
 refine Za (Za (zg [12] 0 (Zb (cn h6 (fun _ h9 => ?_) (fun _ h10 => ?_)))))
 exact Za (zg [4] 0 (Zb (Zg (Zh (Zh (er1 h9))))))
 exact Ze (Zb (Za (zg [4] 0 (Zb (Zg (Zh (er1 h10)))))))
 refine Ze (Zb (Za (Za (zg [0, 1, 13] 0 (Zb (cn h7 (fun _ h12 => ?_) (fun _ h13 => ?_)))))))
 exact Za (zg [4] 0 (Zb (Zg (Zh (er1 h12)))))
 refine Ze (Zb (Za (Za (zg [0, 1, 16] 0 (Zb (cn h13 (fun _ h15 => ?_) (fun _ h16 => ?_)))))))
 exact Za (zg [4] 0 (Zb (Zg (Zh (er1 h15)))))
 refine Ze (Zb (Za (Za (zg [19] 0 (Zb (cn h16 (fun _ h18 => ?_) (fun _ h19 => ?_)))))))
 exact Za (zg [4] 0 (Zb (Zg (Zh (er1 h18)))))
 exact Ze (Zb (Za (zg [4] 0 (Zb (Zg (er1 h19))))))
theorem RE (a0 : Int) (r : Bool) (h : M.JN a0 = some r) : Fn Tryz.prog 64 [.int .i64 a0] (.pure (.bool r)) := by
 unfold M.JN at h
 exact ZQ Tryz.func64 rfl (by kernel_rfl) (Za (zg [0] 0 (Zb (Za (zg [2] 0 (Zb (Zg (er1 h))))))))
theorem KE (a0 : Int) (a1 : Int) (r : Int) (h : M.QS a0 a1 = some r) : Fn Tryz.prog 43 [.int .i64 a0, .int .i64 a1] (.pure (.int .i64 r)) := by
 unfold M.QS at h
 refine ZQ Tryz.func43 rfl (by kernel_rfl) (Za (zg [0, 1] 0 (Zb (Za ?_))))
 obtain ⟨r1, q1, h2⟩ := bind_some h
 refine zr [0, 1, 5] 0 Zw (rq1 (RE _ _ q1) rqn) (Zb (Za ?_))
 obtain ⟨r2, q3, h4⟩ := bind_some h2
 refine zr [0, 1, 5, 6] 0 Zw (rq1 (RE _ _ q3) rqn) (Zb (Za (Za (zg [0, 1, 6, 11] 0 (Zb (cn h4 (fun _ h6 => ?_) (fun _ h7 => ?_)))))))
 refine Za (Za (zg [12] 0 (Zb (cn h6 (fun _ h9 => ?_) (fun _ h10 => ?_)))))
 exact Za (zg [4] 0 (Zb (Zg (Zh (Zh (er1 h9))))))
 exact Ze (Zb (Za (zg [4] 0 (Zb (Zg (Zh (er1 h10)))))))
 refine Ze (Zb (Za (Za (zg [0, 1, 13] 0 (Zb (cn h7 (fun _ h12 => ?_) (fun _ h13 => ?_)))))))
 exact Za (zg [4] 0 (Zb (Zg (Zh (er1 h12)))))
 refine Ze (Zb (Za (Za (zg [0, 1, 16] 0 (Zb (cn h13 (fun _ h15 => ?_) (fun _ h16 => ?_)))))))
 exact Za (zg [4] 0 (Zb (Zg (Zh (er1 h15)))))
 refine Ze (Zb (Za (Za (zg [19] 0 (Zb (cn h16 (fun _ h18 => ?_) (fun _ h19 => ?_)))))))
 exact Za (zg [4] 0 (Zb (Zg (Zh (er1 h18)))))
 exact Ze (Zb (Za (zg [4] 0 (Zb (Zg (er1 h19))))))
theorem Zex (a0 : ZL) (a1 : ZL) (r : Int) (h : M.V5 a0 a1 = some r) : Fn Tryz.prog 42 [.agg (Z9 a0), .agg (Z9 a1)] (.pure (.int .i64 r)) := by
 unfold M.V5 at h
 refine ZQ Tryz.func42 rfl (by kernel_rfl) (Za (zg [2, 3] 2 (Zb (Za (Za ?_)))))
 obtain ⟨r1, q1, h2⟩ := bind_some h
 refine zr [2, 3, 5] 2 Zw (rq1 (ZaC _ _ _ q1) rqn) (Zb (Za (zg [2, 3, 5, 12] 2 (Zb (cn h2 (fun _ h4 => ?_) (fun _ h5 => ?_))))))
 exact Za (zg [4] 0 (Zb (Zg (Zh (er1 h4)))))
 refine Ze (Zb (Za ?_))
 obtain ⟨r2, q6, h7⟩ := bind_some h5
 exact zr [4] 0 Zw (rq1 (KE _ _ _ q6) rqn) (Zb (Zg (er1 h7)))
theorem Zf2 (a0 : List Int) (r : Int) (h : M.WM a0 = some r) : Fn Tryz.prog 41 [sL 1 (ci .i64) a0] (.pure (.int .i64 r)) := by
 unfold M.WM at h
 refine ZQ Tryz.func41 rfl (by kernel_rfl) (Za (zg [0] 0 (Zb (Za (zg [0, 3] 0 (Zb (Za (Za (zg [3, 6, 7, 8] 0 (Zb (Zj ?_)))))))))))
 obtain ⟨y3, q10, h11⟩ := bind_some h
 refine zl (fun (p1 : Int) => ⟨18, [(3, .int .i64 0), (6, sL 1 (ci .i64) a0), (7, .int .i64 (a0.length : Int)), (8, .int .i64 p1)], []⟩) (Sum.elim (fun z => OutE 0 (fun z => ⟨18, [(3, .int .i64 0)], []⟩) z) (fun z => OutR Tryz.prog Tryz.f41 (.int .i64 z))) q10 ?_ ?_
 intro p1 y2 h1
 unfold M.Jv at h1
 refine Za (zg [3, 6, 7, 8, 9] 0 (Zb (Za (cn h1 (fun _ h3 => ?_) (fun _ h4 => ?_)))))
 refine Ze (Zb (Za (Zj (Za ?_))))
 obtain ⟨c5, h6⟩ := ZA h3
 refine zc [3, 5, 6, 7, 8] 0 c5 (Zb (Za (zg [3, 5, 6, 7, 8, 14] 0 (Zb (cn h6 (fun _ h8 => ?_) (fun _ h9 => ?_))))))
 exact Za (zg [2] 0 (Zb (Zg (ZB (Zh (rr h8 ⟨rfl, er0 _⟩))))))
 exact Ze (XM (Zb (zg [3, 6, 7, 8] 0 (rn h9))))
 exact ZV (Xs (re h4 ⟨rfl, kq⟩))
 intro e12 s13 o14
 rcases y3 with g4 | y5
 have h15 := XP h11
 exact zi o14 (Za (zg [2] 0 (Zb (Zg (er1 h15)))))
 have h16 := XQ h11
 obtain ⟨rfl, n18⟩ := o14
 refine ZB (Zh ?_)
 obtain rfl := Option.some.inj h16
 exact n18
theorem Zey (a0 : Zk) (a1 : Zk) (r : Int) (h : M.VC a0 a1 = some r) : Fn Tryz.prog 40 [.agg (ZU a0), .agg (ZU a1)] (.pure (.int .i64 r)) := by
 unfold M.VC at h
 refine ZQ Tryz.func40 rfl (by kernel_rfl) (Za (zg [2, 3] 2 (Zb (Za ?_))))
 obtain ⟨r1, q1, h2⟩ := bind_some h
 obtain ⟨r2, q3, h4⟩ := bind_some h2
 obtain ⟨r3, q5, h6⟩ := bind_some h4
 exact rg [.pure (.int .i64 r1), .pure (.int .i64 r2), .pure (.int .i64 r3)] [4] 0 ⟨17, [(4, .int .i64 r3)], []⟩ [] [⟨true, 42, [.agg (Z9 a0.Zp), .agg (Z9 a1.Zp)], .pure (.int .i64 r1)⟩, ⟨true, 43, [.int .i64 a0.Xr, .int .i64 a1.Xr], .pure (.int .i64 r2)⟩, ⟨true, 41, [.sl false 1 2 (fun i => List.take 1 (List.drop (i * 1) [.int .i64 r1, .int .i64 r2]))], .pure (.int .i64 r3)⟩] Zw ⟨fun _ => Zex a0.Zp a1.Zp r1 q1, fun _ => KE a0.Xr a1.Xr r2 q3, fun _ => (Zf2 ([r1, r2] : List Int) r3 q5).args (.cons (ZgS rfl (fun i hi => match i, hi with | 0, _ => rfl | 1, _ => rfl | n + 2, h => absurd h (by omega))) .nil), trivial⟩ (Zb (Zg (er1 h6)))
end Nv
namespace Go.Proofs
open Go.Shelf
shelf_lay_g SlLaysF0.n6 Slsf 6 at Tryz 39 as Tryz.sortL39
end Go.Proofs
namespace Nv
open Go Go.Proofs
theorem Wz (a0 : List Zk) (r : List Zk) (h : M.Xw a0 = some r) : FnM Tryz.prog 39 [.asl 0 0 a0.length, .fn 40 []] 4 a0.length (fun i => ZU (a0.getD i default)) (fun i => ZU (r.getD i default)) (.tup []) := by
 obtain ⟨cf, h1, h2, h3, h4, rfl⟩ := ZiE h
 exact sortFR0 Tryz.sortL39 4 (fun w => by kernel_rfl) (fun w => by kernel_rfl) ZU (fun _ => rfl) (fun _ => rfl) h2 40 (enters_of Tryz.func40 (by kernel_rfl) rfl) (fun x y => Zey x y _ (h1 x y)) a0 h3 h4
theorem Zck (a0 : ZX) (r : Qu × Int) (h : M.Wg a0 = some r) : Fn Tryz.prog 12 [.agg (Yg a0)] (.pure (.tup [.agg (Ws r.1), .int .i64 r.2])) := by
 let u3 := Yg a0
 unfold M.Wg at h
 refine ZQ Tryz.func12 rfl (by kernel_rfl) (Za (zg [1, 2] 2 (Zb (Za (Za ?_)))))
 obtain ⟨r1, q1, h2⟩ := bind_some h
 refine zr [1, 2, 4] 2 Zw (rq1 (ZfG _ _ q1) rqn) (Zb (Za (zg [1, 2, 4, 12] 2 (Zb (cn h2 (fun _ h4 => ?_) (fun _ h5 => ?_))))))
 refine Za (zg [2, 3] 2 (Zb (Zg (Zh ?_))))
 obtain rfl := Option.some.inj h4
 exact er (.tup [.agg [.sl false 4 0 (fun _ => []), .sl false 1 0 (fun _ => [])], .int .i64 r1]) (ZeV (.cons (Zda (.cons GG (.cons GG .nil))) (.cons ASub.rfl .nil)))
 refine Ze (Zb (Za ?_))
 obtain ⟨r2, q6, h7⟩ := bind_some h5
 refine rg [oL 4 ZU r2] [2, 5] 3 ⟨45, [(2, .ref 1 0), (5, .asl 2 0 r2.length)], [.box u3, .box [.sl true 4 0 (fun _ => []), .sl true 1 0 (fun _ => [])], aL 4 ZU r2]⟩ [] [⟨true, 38, [.agg u3], oL 4 ZU r2⟩] Zw ⟨fun _ => Zd3 a0 r2 q6, trivial⟩ (Zb (Za ?_))
 obtain ⟨r3, q8, h9⟩ := bind_some h7
 let u1 : List Ob := [.box u3, .box [.sl true 4 0 (fun _ => []), .sl true 1 0 (fun _ => [])], aL 4 ZU ([] : List Zk), .box [sL 4 ZU r3, .sl true 1 0 (fun _ => [])]]
 let u4 : Nat × D := (21, sL 4 ZU r3)
 let u5 := (r3.length : Int)
 obtain ⟨c10, h11⟩ := ZA h9
 refine rg [.lnd 0 0 (fun _ => []) (fun i => ZU (r3.getD i default)) (.tup [])] [2, 5] 3 ⟨45, [(2, .ref 1 0), (5, .asl 2 0 r2.length)], [.box u3, .box [.sl true 4 0 (fun _ => []), .sl true 1 0 (fun _ => [])], .arr 4 r2.length (fun i => ZU (r3.getD i default))]⟩ [] [⟨true, 39, [.asl 0 0 r2.length, .fn 40 []], .lnd 4 r2.length (fun i => ZU (r2.getD i default)) (fun i => ZU (r3.getD i default)) (.tup [])⟩] Zw ⟨fun _ => Wz r2 r3 q8, trivial⟩ (XE (s' := ⟨45, [(2, .ref 1 0), (5, .asl 2 0 r3.length)], [.box u3, .box [.sl true 4 0 (fun _ => []), .sl true 1 0 (fun _ => [])], aL 4 ZU r3]⟩) (VX (.cons Sub.rfl (.cons (Kq (ZkH (c10 _ List.mem_cons_self))) .nil)) (.cons .rfl (.cons .rfl (.cons (.arr (ZkH (c10 _ List.mem_cons_self)) (fun _ _ => rfl)) .nil)))) (Za (Ug (s' := ⟨45, [(2, .ref 1 0), (5, sL 4 ZU r3)], [.box u3, .box [.sl true 4 0 (fun _ => []), .sl true 1 0 (fun _ => [])], aL 4 ZU ([] : List Zk)]⟩) (Le.trans (ZkP 5 2 4 ZU r3 (fun i => ZU (([] : List Zk).getD i default)) (by kernel_rfl) (by kernel_rfl) (by kernel_rfl)) (kp [2, 5])) (zg [2, 5, 6] 4 (Zb (Za (Za (rg0 [2, 6, 21, 22, 23] 4 ⟨45, [(2, .ref 1 0), (6, .ref 3 0), u4, (22, .int .i64 u5), (23, .int .i64 0)], u1⟩ (Zb (Zj (Ug (s' := ⟨45, [(2, .ref 1 0), (6, .ref 3 0), u4, (22, .int .i64 u5), (23, .int .i64 0)], u1⟩) (GC) (Ug (s' := ⟨45, [(2, .ref 1 0), (6, .ref 3 0), u4, (22, .int .i64 u5), (23, .int .i64 0)], [.box u3, .box [.sl true 4 0 (fun _ => []), .sl true 1 0 (fun _ => [])], aL 4 ZU ([] : List Zk), .box [sL 4 ZU r3, .asl 4 0 (([] : List Int).length)], aL 1 (ci .i64) ([] : List Int)]⟩) (Zfw (nt := 45) (e := [(2, .ref 1 0), (6, .ref 3 0), u4, (22, .int .i64 u5), (23, .int .i64 0)]) (H := u1) (cells := [sL 4 ZU r3, .sl true 1 0 (fun _ => [])]) (wd := 1) (f := fun _ => []) 3 1 rfl rfl 1 (fun i => (ci .i64) (([] : List Int).getD i default))) ?_))))))))))))
 obtain ⟨y8, q28, h29⟩ := bind_some h11
 let u2 : List (Nat × D) := [(2, .ref 1 0), (6, .ref 3 0), (42, .bool (decide ((y8.length : Int) > 12)))]
 refine zl (fun (p5 : (List Int) × Int) => ⟨45, [(2, .ref 1 0), (6, .ref 3 0), u4, (22, .int .i64 u5), (23, .int .i64 p5.2)], [.box u3, .box [.sl true 4 0 (fun _ => []), .sl true 1 0 (fun _ => [])], aL 4 ZU ([] : List Zk), .box [sL 4 ZU r3, .asl 4 0 p5.1.length], aL 1 (ci .i64) p5.1]⟩) (fun z => OutE 0 (fun z => ⟨45, [(2, .ref 1 0), (6, .ref 3 0)], [.box u3, .box [.sl true 4 0 (fun _ => []), .sl true 1 0 (fun _ => [])], aL 4 ZU ([] : List Zk), .box [sL 4 ZU r3, .asl 4 0 z.length], aL 1 (ci .i64) z]⟩) z) q28 ?_ ?_
 intro p5 y6 h15
 let u6 := p5.1.length + 1
 unfold M.J6 at h15
 refine Za (rg0 [2, 6, 21, 22, 23, 24] 5 ⟨45, [(2, .ref 1 0), (6, .ref 3 0), u4, (22, .int .i64 u5), (23, .int .i64 p5.2), (24, .bool (decide (p5.2 < u5)))], [.box u3, .box [.sl true 4 0 (fun _ => []), .sl true 1 0 (fun _ => [])], aL 4 ZU ([] : List Zk), .box [sL 4 ZU r3, .asl 4 0 p5.1.length], aL 1 (ci .i64) p5.1]⟩ (Zb (Za (cn h15 (fun _ h17 => ?_) (fun _ h18 => ?_)))))
 refine Ze (Zb (Uj (fun (p7 : (List Int)) => ⟨45, [(2, .ref 1 0), (6, .ref 3 0), u4, (22, .int .i64 u5), (23, .int .i64 p5.2)], [.box u3, .box [.sl true 4 0 (fun _ => []), .sl true 1 0 (fun _ => [])], aL 4 ZU ([] : List Zk), .box [sL 4 ZU r3, .asl 4 0 p7.length], aL 1 (ci .i64) p7]⟩) (fun p7 => M.JO p5 p7 = some y6) ?_ ?_))
 intro p7 h20
 unfold M.JO at h20
 exact zg [2, 6, 21, 22, 23] 5 (rn h20)
 intro k19
 refine Zj (Za ?_)
 obtain ⟨c21, h22⟩ := ZA h17
 refine zc [2, 6, 7, 8, 21, 22, 23] 6 c21 (Zb (Za (zg [2, 6, 7, 21, 22, 23, 31] 5 (Zb (cn h22 (fun _ h24 => ?_) (fun _ h25 => ?_))))))
 obtain ⟨c26, h27⟩ := ZA h24
 exact rgc [2, 6, 21, 22, 23] 5 ⟨45, [(2, .ref 1 0), (6, .ref 3 0), u4, (22, .int .i64 u5), (23, .int .i64 p5.2)], [.box u3, .box [.sl true 4 0 (fun _ => []), .sl true 1 0 (fun _ => [])], aL 4 ZU ([] : List Zk), .box [sL 4 ZU r3, .asl 4 0 u6], .arr 1 u6 (app (fun i => (ci .i64) (p5.1.getD i default)) p5.1.length (fun i => List.take 1 (List.drop (i * 1) [.int .i64 p5.2])))]⟩ [decide (u6 * 8 ≤ 140737488355328)] c26 (XM (XE (VX (.cons Sub.rfl (.cons Sub.rfl (.cons Sub.rfl (.cons Sub.rfl (.cons Sub.rfl .nil))))) (.cons .rfl (.cons .rfl (.cons .rfl (.cons (.box (.cons CSub.rfl (.cons (Zdk (Zdd _ _)) .nil))) (.cons (.arr (Zdd _ _) (Zdc (ci .i64) p5.1 p5.2 _ rfl)) .nil)))))) (k19 (p5.1 ++ [p5.2]) h27)))
 exact Ze (XM (XE kq (k19 p5.1 h25)))
 exact ZV (Xs (re h18 ⟨rfl, kq⟩))
 intro e30 s31 o32
 refine zi o32 (Za (Za (rg0 [2, 6, 42] 5 ⟨45, u2, [.box u3, .box [.sl true 4 0 (fun _ => []), .sl true 1 0 (fun _ => [])], aL 4 ZU ([] : List Zk), .box [sL 4 ZU r3, .asl 4 0 y8.length], aL 1 (ci .i64) y8]⟩ (Zb (cn h29 (fun _ h35 => ?_) (fun _ h36 => ?_))))))
 refine Za (zg [2, 3] 2 (Zb (Zg (Zh ?_))))
 obtain rfl := Option.some.inj h35
 exact er (.tup [.agg [.sl false 4 0 (fun _ => []), .sl false 1 0 (fun _ => [])], .int .i64 7]) (ZeV (.cons (Zda (.cons GG (.cons GG .nil))) (.cons ASub.rfl .nil)))
 refine Ze (Zb (Za (Ug (s' := ⟨45, u2, [.box u3, .box [.sl true 4 0 (fun _ => []), .sl true 1 0 (fun _ => [])], aL 4 ZU ([] : List Zk), .box [sL 4 ZU r3, .sl false 1 y8.length (fun k => (fun i => (ci .i64) (y8.getD i default)) (0 + k))], aL 1 (ci .i64) ([] : List Int)]⟩) (Le.trans ((ZcA (s := ⟨45, u2, [.box u3, .box [.sl true 4 0 (fun _ => []), .sl true 1 0 (fun _ => [])], aL 4 ZU ([] : List Zk), .box [sL 4 ZU r3, .asl 4 0 y8.length], aL 1 (ci .i64) y8]⟩) (s' := ⟨45, u2, [.box u3, .box [.sl true 4 0 (fun _ => []), .sl true 1 0 (fun _ => [])], aL 4 ZU ([] : List Zk), .box [sL 4 ZU r3, .sl false 1 y8.length (fun k => (fun i => (ci .i64) (y8.getD i default)) (0 + k))], aL 1 (ci .i64) ([] : List Int)]⟩) 4 1 y8.length (fun i => (ci .i64) (y8.getD i default)) (fun i => (ci .i64) (([] : List Int).getD i default)) (by kernel_rfl) (by kernel_rfl) (by kernel_rfl))) (kp [2, 6, 42])) (rg0 [2, 3] 2 ⟨45, [(2, .ref 1 0), (3, .int .i64 0)], [.box u3, .box [sL 4 ZU r3, .sl false 1 y8.length (fun k => (fun i => (ci .i64) (y8.getD i default)) (0 + k))]]⟩ (XE (s' := ⟨45, [(2, .ref 1 0), (3, .int .i64 0)], [.box u3, .box [sL 4 ZU r3, sL 1 (ci .i64) y8]]⟩) (VX (.cons Sub.rfl (.cons Sub.rfl .nil)) (.cons .rfl (.cons (.box (.cons CSub.rfl (.cons (Kn rfl (RZ (f := fun i => (ci .i64) (y8.getD i default)) (fun _ _ => rfl))) .nil))) .nil))) (Zg ?_))))))
 obtain rfl := Option.some.inj h36
 exact er0 (.tup [.agg [sL 4 ZU r3, sL 1 (ci .i64) y8], .int .i64 0])
theorem Zba (a0 : Int) (r : Bool) (h : M.Vj a0 = some r) : Fn Tryz.prog 153 [.int .u8 a0] (.pure (.bool r)) := by
 unfold M.Vj at h
 exact ZQ Tryz.func153 rfl (by kernel_rfl) (Za (zg [0] 0 (Zb (Za (zg [2] 0 (Zb (Zg (er1 h))))))))
theorem GQ (a0 : ByteArray) (r : Bool) (h : M.Je a0 = some r) : Fn Tryz.prog 101 [.str a0] (.pure (.bool r)) := by
 unfold M.Je at h
 refine ZQ Tryz.func101 rfl (by kernel_rfl) (Za (zg [0] 0 (Zb (Za (Za ?_)))))
 obtain ⟨r1, q1, h2⟩ := bind_some h
 obtain ⟨c3, h4⟩ := ZA h2
 refine zr [0, 18] 0 c3 (rq2 (fun hg => Zba _ _ (Xc q1 hg)) rqn) (Zb (cn h4 (fun _ h6 => ?_) (fun _ h7 => ?_)))
 exact Za (zg [2] 0 (Zb (Zg (Zh (er1 h6)))))
 refine Ze (Zb (Za (Za (zg [0, 3] 0 (Zb (Zj ?_))))))
 obtain ⟨y5, q19, h20⟩ := bind_some h7
 refine zl (fun (p2 : Int) => ⟨56, [(0, .str a0), (3, .int .i64 p2)], []⟩) (Sum.elim (fun z => OutE 0 (fun z => ⟨56, [], []⟩) z) (fun z => OutR Tryz.prog Tryz.f101 (.bool z))) q19 ?_ ?_
 intro p2 y3 h8
 unfold M.V6 at h8
 refine Za (Za (zg [0, 3, 22] 0 (Zb (cn h8 (fun _ h10 => ?_) (fun _ h11 => ?_)))))
 refine Ze (Zb (Za (Zj (Za ?_))))
 obtain ⟨c12, h13⟩ := ZA h10
 refine zc [0, 3, 4] 0 c12 (Zb (Za ?_))
 obtain ⟨r4, q14, h15⟩ := bind_some h13
 refine zr [0, 3, 55] 0 Zw (rq1 (Zba _ _ q14) rqn) (Zb (cn h15 (fun _ h17 => ?_) (fun _ h18 => ?_)))
 exact Za (zg [2] 0 (Zb (Zg (ZB (Zh (rr h17 ⟨rfl, er0 _⟩))))))
 exact Ze (XM (Zb (zg [0, 3] 0 (rn h18))))
 exact ZV (Xs (re h11 ⟨rfl, kq⟩))
 intro e21 s22 o23
 rcases y5 with g6 | y7
 have h24 := XP h20
 exact zi o23 (Za (zg [2] 0 (Zb (Zg (er1 h24)))))
 have h25 := XQ h20
 obtain ⟨rfl, n27⟩ := o23
 refine ZB (Zh ?_)
 obtain rfl := Option.some.inj h25
 exact n27
theorem XZ (a0 : Int) (a1 : Int) (a2 : Int) (r : Bool) (h : M.Zz a0 a1 a2 = some r) : Fn Tryz.prog 102 [.int .i64 a0, .int .i64 a1, .int .i64 a2] (.pure (.bool r)) := by
 unfold M.Zz at h
 exact ZQ Tryz.func102 rfl (by kernel_rfl) (Za (zg [0, 1, 2] 0 (Zb (Za (zg [6] 0 (Zb (Zg (er1 h))))))))
theorem R5 (a0 : Int) (r : Int) (h : M.Vp a0 = some r) : Fn Tryz.prog 67 [.int .i64 a0] (.pure (.int .u32 r)) := by
 unfold M.Vp at h
 refine ZQ Tryz.func67 rfl (by kernel_rfl) (Za (zg [0] 0 (Zb (Za (zg [0, 3] 0 (Zb (Za (Za (zg [0, 3, 4] 0 (Zb (Zj ?_)))))))))))
 obtain ⟨y4, q12, h13⟩ := bind_some h
 refine zl (fun (p1 : Int × Int) => ⟨19, [(0, .int .i64 a0), (3, .int .u32 p1.1), (4, .int .i64 p1.2)], []⟩) (fun z => OutE 0 (fun z => ⟨19, [(3, .int .u32 z)], []⟩) z) q12 ?_ ?_
 intro p1 y2 h1
 unfold M.Uw at h1
 refine Za (Za (rg0 [0, 3, 4, 6] 0 ⟨19, [(0, .int .i64 a0), (3, .int .u32 p1.1), (4, .int .i64 p1.2), (6, .bool (decide (p1.2 < 32)))], []⟩ (Zb (cn h1 (fun _ h3 => ?_) (fun _ h4 => ?_)))))
 refine Ze (Zb (Uj (fun (p3 : Int) => ⟨19, [(0, .int .i64 a0), (3, .int .u32 p3), (4, .int .i64 p1.2)], []⟩) (fun p3 => M.GO p1 p3 = some y2) ?_ ?_))
 intro p3 h6
 unfold M.GO at h6
 exact zg [0, 3, 4] 0 (rn h6)
 intro k5
 refine Zj (Za (zg [0, 3, 4, 11] 0 (Zb (cn h3 (fun _ h8 => ?_) (fun _ h9 => ?_)))))
 obtain ⟨c10, h11⟩ := ZA h8
 exact zc [0, 3, 4] 0 c10 (XM (XE lk (k5 (bitD .or .u32 p1.1 (wr .u32 (1 * 2 ^ min (wr .u64 (wr .i64 (31 - p1.2))).toNat 32))) h11)))
 exact Ze (XM (XE kq (k5 p1.1 h9)))
 exact ZV (Xs (re h4 ⟨rfl, kq⟩))
 intro e14 s15 o16
 exact zi o16 (Za (zg [2] 0 (Zb (Zg (er1 h13)))))
theorem Kh (a0 : Int) (a1 : Int) (r : ZL) (h : M.QZ a0 a1 = some r) : Fn Tryz.prog 45 [.int .u32 a0, .int .i64 a1] (.pure (.agg (Z9 r))) := by
 unfold M.QZ at h
 refine ZQ Tryz.func45 rfl (by kernel_rfl) (Za (zg [0, 1, 4] 1 (Zb (Za (zg [0, 1, 4] 1 (Zb (Za ?_)))))))
 obtain ⟨r1, q1, h2⟩ := bind_some h
 refine zr [4] 1 Zw (rq1 (R5 _ _ q1) rqn) (Zb (Zg ?_))
 obtain rfl := Option.some.inj h2
 exact er0 (.agg [.int .u32 (bitD .and .u32 a0 r1), .int .i64 (if 0 > (if 32 < a1 then 32 else a1) then 0 else (if 32 < a1 then 32 else a1))])
theorem Zd4 (a0 : ZL) (a1 : Int) (r : Bool) (h : M.Wm a0 a1 = some r) : Fn Tryz.prog 181 [.agg (Z9 a0), .int .u32 a1] (.pure (.bool r)) := by
 unfold M.Wm at h
 refine ZQ Tryz.func181 rfl (by kernel_rfl) (Za (zg [1, 2] 1 (Zb (Za ?_))))
 obtain ⟨r1, q1, h2⟩ := bind_some h
 exact zr [4] 0 Zw (rq1 (R5 _ _ q1) rqn) (Zb (Zg (er1 h2)))
theorem Zbb (a0 : ZL) (a1 : ZL) (r : Bool) (h : M.Wu a0 a1 = some r) : Fn Tryz.prog 175 [.agg (Z9 a0), .agg (Z9 a1)] (.pure (.bool r)) := by
 unfold M.Wu at h
 refine ZQ Tryz.func175 rfl (by kernel_rfl) (Za (zg [2, 3] 2 (Zb (Za ?_))))
 obtain ⟨r1, q1, h2⟩ := bind_some h
 exact zr [4] 0 Zw (rq2 (fun hg => Zd4 _ _ _ (Xc q1 hg)) rqn) (Zb (Zg (er1 h2)))
theorem RF (a0 : ZL) (a1 : ZL) (r : Bool) (h : M.J7 a0 a1 = some r) : Fn Tryz.prog 154 [.agg (Z9 a0), .agg (Z9 a1)] (.pure (.bool r)) := by
 unfold M.J7 at h
 refine ZQ Tryz.func154 rfl (by kernel_rfl) (Za (zg [2, 3] 2 (Zb (Za ?_))))
 obtain ⟨r1, q1, h2⟩ := bind_some h
 obtain ⟨r2, q3, h4⟩ := bind_some h2
 exact zr [4] 0 Zw (rq1 (Zbb _ _ _ q1) (rq2 (fun hg => Zbb _ _ _ (Xc q3 hg)) rqn)) (Zb (Zg (er1 h4)))
theorem ZcJ (a0 : List Zy) (r : Int) (h : M.Jk a0 = some r) : Fn Tryz.prog 103 [sL 12 Zn a0] (.pure (.int .i64 r)) := by
 let u1 : Nat × D := (0, sL 12 Zn a0)
 unfold M.Jk at h
 refine ZQ Tryz.func103 rfl (by kernel_rfl) (Za (zg [0] 0 (Zb (Za (Za (zg [0, 9] 0 (Zb (cn h (fun _ h2 => ?_) (fun _ h3 => ?_)))))))))
 exact Za (zg [2] 0 (Zb (Zg (Zh (er1 h2)))))
 refine Ze (Zb (Za (Za (zg [0, 3] 0 (Zb (Zj ?_))))))
 obtain ⟨y22, q76, h77⟩ := bind_some h3
 refine zl (fun (p1 : Int) => ⟨163, [u1, (3, .int .i64 p1)], []⟩) (Sum.elim (fun z => OutE 0 (fun z => ⟨163, [], []⟩) z) (fun z => OutR Tryz.prog Tryz.f103 (.int .i64 z))) q76 ?_ ?_
 intro p1 y2 h4
 let u2 : List Ob := [.box (Zn (a0.getD p1.toNat default))]
 unfold M.QG at h4
 refine Za (Za (zg [0, 3, 13] 0 (Zb (cn h4 (fun _ h6 => ?_) (fun _ h7 => ?_)))))
 refine Ze (Zb (Za (Zj (Za ?_))))
 obtain ⟨c8, h9⟩ := ZA h6
 refine zc [0, 3, 4] 1 c8 (Zb (Za (Za ?_)))
 obtain ⟨r3, q10, h11⟩ := bind_some h9
 refine zr [0, 3, 4, 23] 1 Zw (rq1 (GQ _ _ q10) rqn) (Zb (cn h11 (fun _ h13 => ?_) (fun _ h14 => ?_)))
 exact Za (zg [2] 0 (Zb (Zg (Zh (ZB (Zh (rr h13 ⟨rfl, er0 _⟩)))))))
 refine Ze (Zb (Za (Za (zg [0, 3, 4, 5] 1 (Zb (Zj ?_))))))
 obtain ⟨y6, q24, h25⟩ := bind_some h14
 refine zl (fun (p4 : Int) => ⟨163, [u1, (3, .int .i64 p1), (4, .ref 0 0), (5, .int .i64 p4)], u2⟩) (Sum.elim (fun z => OutE 2 (fun z => ⟨163, [u1, (3, .int .i64 p1), (4, .ref 0 0)], u2⟩) z) (fun z => OutR Tryz.prog Tryz.f103 (.int .i64 z))) q24 ?_ ?_
 intro p4 y5 h15
 unfold M.Jd at h15
 refine Za (Za (zg [0, 3, 4, 5, 26] 1 (Zb (cn h15 (fun _ h17 => ?_) (fun _ h18 => ?_)))))
 refine Ze (Zb (Za (Zj (Za ?_))))
 obtain ⟨c19, h20⟩ := ZA h17
 refine zc [0, 3, 4, 5, 36] 1 c19 (Zb (cn h20 (fun _ h22 => ?_) (fun _ h23 => ?_)))
 exact Za (zg [2] 0 (Zb (Zg (ZB (Zh (rr h22 ⟨rfl, er0 _⟩))))))
 exact Ze (XM (Zb (zg [0, 3, 4, 5] 1 (rn h23))))
 exact ZV (Xs (re h18 ⟨rfl, kq⟩))
 intro e26 s27 o28
 rcases y6 with g7 | y8
 have h29 := XP h25
 refine zi o28 (Za (Za ?_))
 obtain ⟨r9, q32, h33⟩ := bind_some h29
 obtain ⟨r10, q34, h35⟩ := bind_some h33
 obtain ⟨r11, q36, h37⟩ := bind_some h35
 refine zr [0, 3, 4, 52] 1 Zw (rq1 (XZ _ _ _ _ q32) (rq2 (fun hg => XZ _ _ _ _ (Xc q34 hg)) (rq2 (fun hg => XZ _ _ _ _ (Xc q36 hg)) rqn))) (Zb (cn h37 (fun _ h39 => ?_) (fun _ h40 => ?_)))
 exact Za (zg [2] 0 (Zb (Zg (Zh (ZB (Zh (rr h39 ⟨rfl, er0 _⟩)))))))
 refine Ze (Zb (Za (Za (zg [0, 3, 4, 98] 1 (Zb (cn h40 (fun _ h42 => ?_) (fun _ h43 => ?_)))))))
 exact Za (zg [2] 0 (Zb (Zg (Zh (ZB (Zh (rr h42 ⟨rfl, er0 _⟩)))))))
 refine Ze (Zb (Za (Za ?_)))
 obtain ⟨r12, q44, h45⟩ := bind_some h43
 obtain ⟨r13, q46, h47⟩ := bind_some h45
 refine zr [0, 3, 4, 127] 1 Zw (rq2 (fun hg => XZ _ _ _ _ (Xc q44 hg)) (rq2 (fun hg => XZ _ _ _ _ (Xc q46 hg)) rqn)) (Zb (cn h47 (fun _ h49 => ?_) (fun _ h50 => ?_)))
 exact Za (zg [2] 0 (Zb (Zg (Zh (ZB (Zh (rr h49 ⟨rfl, er0 _⟩)))))))
 refine Ze (Zb (Za (zg [0, 3, 4, 6] 1 (Zb (Zj ?_)))))
 obtain ⟨y19, q66, h67⟩ := bind_some h50
 refine zl (fun (p14 : Int) => ⟨163, [u1, (3, .int .i64 p1), (4, .ref 0 0), (6, .int .i64 p14)], u2⟩) (Sum.elim (fun z => OutE 4 (fun z => ⟨163, [u1, (3, .int .i64 p1)], []⟩) z) (fun z => OutR Tryz.prog Tryz.f103 (.int .i64 z))) q66 ?_ ?_
 intro p14 y15 h51
 unfold M.Qi at h51
 refine Za (Za (zg [0, 3, 4, 6, 130] 1 (Zb (cn h51 (fun _ h53 => ?_) (fun _ h54 => ?_)))))
 refine Ze (Zb (Za (Zj (Za ?_))))
 obtain ⟨r16, q55, h56⟩ := bind_some h53
 obtain ⟨r17, q57, h58⟩ := bind_some h56
 obtain ⟨r18, q59, h60⟩ := bind_some h58
 obtain ⟨c61, h62⟩ := ZA h60
 refine zr [0, 3, 4, 6, 162] 1 c61 (rq2 (fun hg => Kh _ _ _ (Xc q55 hg)) (rq2 (fun hg => Kh _ _ _ (Xc q57 hg)) (rq2 (fun hg => RF _ _ _ (Xc q59 hg)) rqn))) (Zb (cn h62 (fun _ h64 => ?_) (fun _ h65 => ?_)))
 exact Za (zg [2] 0 (Zb (Zg (ZB (Zh (rr h64 ⟨rfl, er0 _⟩))))))
 exact Ze (XM (Zb (zg [0, 3, 4, 6] 1 (rn h65))))
 exact ZV (Xs (re h54 ⟨rfl, kc⟩))
 intro e68 s69 o70
 rcases y19 with g20 | y21
 have h71 := XP h67
 obtain ⟨rfl, l73⟩ := o70
 exact Qd (XM (XE (s' := ⟨163, [u1, (3, .int .i64 p1)], []⟩) (l73) (zg [0, 3] 0 (rn h71))))
 have h72 := XQ h67
 obtain ⟨rfl, n74⟩ := o70
 exact ZB (ZB (Zh (rr h72 ⟨rfl, n74⟩)))
 have h30 := XQ h25
 obtain ⟨rfl, n75⟩ := o28
 exact ZB (Zh (ZB (Zh (rr h30 ⟨rfl, n75⟩))))
 exact ZV (Xs (re h7 ⟨rfl, kq⟩))
 intro e78 s79 o80
 rcases y22 with g23 | y24
 have h81 := XP h77
 exact zi o80 (Za (zg [2] 0 (Zb (Zg (er1 h81)))))
 have h82 := XQ h77
 obtain ⟨rfl, n84⟩ := o80
 refine ZB (Zh ?_)
 obtain rfl := Option.some.inj h82
 exact n84
theorem W9 (a0 : ZL) (r : Bool) (h : M.YP a0 = some r) : Fn Tryz.prog 159 [.agg (Z9 a0)] (.pure (.bool r)) := by
 unfold M.YP at h
 refine ZQ Tryz.func159 rfl (by kernel_rfl) (Za (zg [1] 1 (Zb (Za ?_))))
 obtain ⟨r1, q1, h2⟩ := bind_some h
 exact zr [2] 0 Zw (rq2 (fun hg => R5 _ _ (Xc q1 hg)) rqn) (Zb (Zg (er1 h2)))
theorem RG (a0 : UY) (r : Bool) (h : M.Qs a0 = some r) : Fn Tryz.prog 155 [.agg (G7 a0)] (.pure (.bool r)) := by
 unfold M.Qs at h
 refine ZQ Tryz.func155 rfl (by kernel_rfl) (Za (zg [1] 1 (Zb (Za ?_))))
 obtain ⟨r1, q1, h2⟩ := bind_some h
 exact zr [2] 0 Zw (rq1 (W9 _ _ q1) rqn) (Zb (Zg (er1 h2)))
theorem ZbU (a0 : List Z1) (r : Int) (h : M.QT a0 = some r) : Fn Tryz.prog 104 [sL 2 ZC a0] (.pure (.int .i64 r)) := by
 let u1 : Nat × D := (0, sL 2 ZC a0)
 unfold M.QT at h
 refine ZQ Tryz.func104 rfl (by kernel_rfl) (Za (zg [0] 0 (Zb (Za (Za (zg [0, 8] 0 (Zb (cn h (fun _ h2 => ?_) (fun _ h3 => ?_)))))))))
 exact Za (zg [2] 0 (Zb (Zg (Zh (er1 h2)))))
 refine Ze (Zb (Za (Za (zg [0, 3] 0 (Zb (Zj ?_))))))
 obtain ⟨y15, q65, h66⟩ := bind_some h3
 refine zl (fun (p1 : Int) => ⟨72, [u1, (3, .int .i64 p1)], []⟩) (Sum.elim (fun z => OutE 0 (fun z => ⟨72, [], []⟩) z) (fun z => OutR Tryz.prog Tryz.f104 (.int .i64 z))) q65 ?_ ?_
 intro p1 y2 h4
 unfold M.Ql at h4
 refine Za (Za (zg [0, 3, 12] 0 (Zb (cn h4 (fun _ h6 => ?_) (fun _ h7 => ?_)))))
 refine Ze (Zb (Za (Zj (Za (Za ?_)))))
 obtain ⟨r3, q8, h9⟩ := bind_some h6
 obtain ⟨c10, h11⟩ := ZA h9
 refine zr [0, 3, 21] 0 c10 (rq1 (GQ _ _ q8) rqn) (Zb (cn h11 (fun _ h13 => ?_) (fun _ h14 => ?_)))
 exact Za (zg [2] 0 (Zb (Zg (Zh (ZB (Zh (rr h13 ⟨rfl, er0 _⟩)))))))
 refine Ze (Zb (Za (Za (zg [0, 3, 4] 0 (Zb (Zj ?_))))))
 obtain ⟨y6, q24, h25⟩ := bind_some h14
 refine zl (fun (p4 : Int) => ⟨72, [u1, (3, .int .i64 p1), (4, .int .i64 p4)], []⟩) (Sum.elim (fun z => OutE 2 (fun z => ⟨72, [u1, (3, .int .i64 p1)], []⟩) z) (fun z => OutR Tryz.prog Tryz.f104 (.int .i64 z))) q24 ?_ ?_
 intro p4 y5 h15
 unfold M.QM at h15
 refine Za (Za (zg [0, 3, 4, 24] 0 (Zb (cn h15 (fun _ h17 => ?_) (fun _ h18 => ?_)))))
 refine Ze (Zb (Za (Zj (Za ?_))))
 obtain ⟨c19, h20⟩ := ZA h17
 refine zc [0, 3, 4, 37] 0 c19 (Zb (cn h20 (fun _ h22 => ?_) (fun _ h23 => ?_)))
 exact Za (zg [2] 0 (Zb (Zg (ZB (Zh (rr h22 ⟨rfl, er0 _⟩))))))
 exact Ze (XM (Zb (zg [0, 3, 4] 0 (rn h23))))
 exact ZV (Xs (re h18 ⟨rfl, kq⟩))
 intro e26 s27 o28
 rcases y6 with g7 | y8
 have h29 := XP h25
 refine zi o28 (Za (Za ?_))
 obtain ⟨c32, h33⟩ := ZA h29
 refine zc [0, 3, 44] 0 c32 (Zb (cn h33 (fun _ h35 => ?_) (fun _ h36 => ?_)))
 exact Za (zg [2] 0 (Zb (Zg (Zh (ZB (Zh (rr h35 ⟨rfl, er0 _⟩)))))))
 refine Ze (Zb (Za (Za ?_)))
 obtain ⟨c37, h38⟩ := ZA h36
 refine zc [0, 3, 51] 0 c37 (Zb (cn h38 (fun _ h40 => ?_) (fun _ h41 => ?_)))
 exact Za (zg [2] 0 (Zb (Zg (Zh (ZB (Zh (rr h40 ⟨rfl, er0 _⟩)))))))
 refine Ze (Zb (Za (zg [0, 3, 5] 0 (Zb (Zj ?_)))))
 obtain ⟨y12, q55, h56⟩ := bind_some h41
 refine zl (fun (p9 : Int) => ⟨72, [u1, (3, .int .i64 p1), (5, .int .i64 p9)], []⟩) (Sum.elim (fun z => OutE 4 (fun z => ⟨72, [u1, (3, .int .i64 p1)], []⟩) z) (fun z => OutR Tryz.prog Tryz.f104 (.int .i64 z))) q55 ?_ ?_
 intro p9 y10 h42
 unfold M.Qk at h42
 refine Za (Za ?_)
 obtain ⟨c43, h44⟩ := ZA h42
 refine zc [0, 3, 5, 59] 0 c43 (Zb (cn h44 (fun _ h46 => ?_) (fun _ h47 => ?_)))
 refine Ze (Zb (Za (Zj (Za ?_))))
 obtain ⟨r11, q48, h49⟩ := bind_some h46
 obtain ⟨c50, h51⟩ := ZA h49
 refine zr [0, 3, 5, 71] 0 c50 (rq1 (RG _ _ q48) rqn) (Zb (cn h51 (fun _ h53 => ?_) (fun _ h54 => ?_)))
 exact Za (zg [2] 0 (Zb (Zg (ZB (Zh (rr h53 ⟨rfl, er0 _⟩))))))
 exact Ze (XM (Zb (zg [0, 3, 5] 0 (rn h54))))
 exact ZV (Xs (re h47 ⟨rfl, kq⟩))
 intro e57 s58 o59
 rcases y12 with g13 | y14
 have h60 := XP h56
 obtain ⟨rfl, l62⟩ := o59
 exact Qd (XM (XE (s' := ⟨72, [u1, (3, .int .i64 p1)], []⟩) (l62) (zg [0, 3] 0 (rn h60))))
 have h61 := XQ h56
 obtain ⟨rfl, n63⟩ := o59
 exact ZB (ZB (Zh (rr h61 ⟨rfl, n63⟩)))
 have h30 := XQ h25
 obtain ⟨rfl, n64⟩ := o28
 exact ZB (Zh (ZB (Zh (rr h30 ⟨rfl, n64⟩))))
 exact ZV (Xs (re h7 ⟨rfl, kq⟩))
 intro e67 s68 o69
 rcases y15 with g16 | y17
 have h70 := XP h66
 exact zi o69 (Za (zg [2] 0 (Zb (Zg (er1 h70)))))
 have h71 := XQ h66
 obtain ⟨rfl, n73⟩ := o69
 refine ZB (Zh ?_)
 obtain rfl := Option.some.inj h71
 exact n73
theorem Gn (a0 : Zf) (a1 : ByteArray) (r : Int) (h : M.Qy a0 a1 = some r) : Fn Tryz.prog 156 [.agg (Zx a0), .str a1] (.pure (.int .i64 r)) := by
 unfold M.Qy at h
 refine ZQ Tryz.func156 rfl (by kernel_rfl) (Za (zg [1, 2] 1 (Zb (Za (Za (zg [1, 2, 5] 1 (Zb (Zj ?_))))))))
 obtain ⟨y3, q10, h11⟩ := bind_some h
 refine zl (fun (p1 : Int) => ⟨22, [(1, .str a1), (2, .ref 0 0), (5, .int .i64 p1)], [.box (Zx a0)]⟩) (Sum.elim (fun z => OutE 0 (fun z => ⟨22, [], []⟩) z) (fun z => OutR Tryz.prog Tryz.f156 (.int .i64 z))) q10 ?_ ?_
 intro p1 y2 h1
 unfold M.JE at h1
 refine Za (Za (zg [1, 2, 5, 10] 1 (Zb (cn h1 (fun _ h3 => ?_) (fun _ h4 => ?_)))))
 refine Ze (Zb (Za (Zj (Za ?_))))
 obtain ⟨c5, h6⟩ := ZA h3
 refine zc [1, 2, 5, 20] 1 c5 (Zb (cn h6 (fun _ h8 => ?_) (fun _ h9 => ?_)))
 exact Za (zg [4] 0 (Zb (Zg (ZB (Zh (rr h8 ⟨rfl, er0 _⟩))))))
 exact Ze (XM (Zb (zg [1, 2, 5] 1 (rn h9))))
 exact ZV (Xs (re h4 ⟨rfl, kc⟩))
 intro e12 s13 o14
 rcases y3 with g4 | y5
 have h15 := XP h11
 exact zi o14 (Za (zg [4] 0 (Zb (Zg (er1 h15)))))
 have h16 := XQ h11
 obtain ⟨rfl, n18⟩ := o14
 refine ZB (Zh ?_)
 obtain rfl := Option.some.inj h16
 exact n18
theorem Zdu (a0 : Zf) (r : Int) (h : M.JI a0 = some r) : Fn Tryz.prog 105 [.agg (Zx a0)] (.pure (.int .i64 r)) := by
 let u1 : Nat × D := (3, sL 2 Z6 a0.Z8)
 let u2 : List Ob := [.box (Zx a0)]
 unfold M.JI at h
 refine ZQ Tryz.func105 rfl (by kernel_rfl) (Za (zg [1] 1 (Zb (Za (zg [1, 3] 1 (Zb (Za (Za (zg [1, 3, 12] 1 (Zb (cn h (fun _ h2 => ?_) (fun _ h3 => ?_))))))))))))
 exact Za (zg [2] 0 (Zb (Zg (Zh (er1 h2)))))
 refine Ze (Zb (Za (Za (zg [1, 3, 4] 1 (Zb (Zj ?_))))))
 obtain ⟨y20, q78, h79⟩ := bind_some h3
 refine zl (fun (p1 : Int) => ⟨112, [(1, .ref 0 0), u1, (4, .int .i64 p1)], u2⟩) (Sum.elim (fun z => OutE 0 (fun z => ⟨112, [], []⟩) z) (fun z => OutR Tryz.prog Tryz.f105 (.int .i64 z))) q78 ?_ ?_
 intro p1 y2 h4
 unfold M.Q1 at h4
 refine Za (Za (zg [1, 3, 4, 16] 1 (Zb (cn h4 (fun _ h6 => ?_) (fun _ h7 => ?_)))))
 refine Ze (Zb (Za (Zj (Za (Za ?_)))))
 obtain ⟨r3, q8, h9⟩ := bind_some h6
 obtain ⟨c10, h11⟩ := ZA h9
 refine zr [1, 3, 4, 25] 1 c10 (rq1 (GQ _ _ q8) rqn) (Zb (cn h11 (fun _ h13 => ?_) (fun _ h14 => ?_)))
 exact Za (zg [2] 0 (Zb (Zg (Zh (ZB (Zh (rr h13 ⟨rfl, er0 _⟩)))))))
 refine Ze (Zb (Za (Za (zg [1, 3, 4, 5] 1 (Zb (Zj ?_))))))
 obtain ⟨y6, q24, h25⟩ := bind_some h14
 refine zl (fun (p4 : Int) => ⟨112, [(1, .ref 0 0), u1, (4, .int .i64 p1), (5, .int .i64 p4)], u2⟩) (Sum.elim (fun z => OutE 2 (fun z => ⟨112, [(1, .ref 0 0), u1, (4, .int .i64 p1)], u2⟩) z) (fun z => OutR Tryz.prog Tryz.f105 (.int .i64 z))) q24 ?_ ?_
 intro p4 y5 h15
 unfold M.Jw at h15
 refine Za (Za (zg [1, 3, 4, 5, 28] 1 (Zb (cn h15 (fun _ h17 => ?_) (fun _ h18 => ?_)))))
 refine Ze (Zb (Za (Zj (Za ?_))))
 obtain ⟨c19, h20⟩ := ZA h17
 refine zc [1, 3, 4, 5, 41] 1 c19 (Zb (cn h20 (fun _ h22 => ?_) (fun _ h23 => ?_)))
 exact Za (zg [2] 0 (Zb (Zg (ZB (Zh (rr h22 ⟨rfl, er0 _⟩))))))
 exact Ze (XM (Zb (zg [1, 3, 4, 5] 1 (rn h23))))
 exact ZV (Xs (re h18 ⟨rfl, kq⟩))
 intro e26 s27 o28
 rcases y6 with g7 | y8
 have h29 := XP h25
 refine zi o28 (Za (Za ?_))
 obtain ⟨c32, h33⟩ := ZA h29
 refine zc [1, 3, 4, 48] 1 c32 (Zb (cn h33 (fun _ h35 => ?_) (fun _ h36 => ?_)))
 exact Za (zg [2] 0 (Zb (Zg (Zh (ZB (Zh (rr h35 ⟨rfl, er0 _⟩)))))))
 refine Ze (Zb (Za (Za ?_)))
 obtain ⟨c37, h38⟩ := ZA h36
 refine zc [1, 3, 4, 55] 1 c37 (Zb (cn h38 (fun _ h40 => ?_) (fun _ h41 => ?_)))
 exact Za (zg [2] 0 (Zb (Zg (Zh (ZB (Zh (rr h40 ⟨rfl, er0 _⟩)))))))
 refine Ze (Zb (Za (zg [1, 3, 4, 6] 1 (Zb (Zj ?_)))))
 obtain ⟨y17, q68, h69⟩ := bind_some h41
 refine zl (fun (p9 : Int) => ⟨112, [(1, .ref 0 0), u1, (4, .int .i64 p1), (6, .int .i64 p9)], u2⟩) (Sum.elim (fun z => OutE 4 (fun z => ⟨112, [(1, .ref 0 0), u1, (4, .int .i64 p1)], u2⟩) z) (fun z => OutR Tryz.prog Tryz.f105 (.int .i64 z))) q68 ?_ ?_
 intro p9 y10 h42
 unfold M.Q0 at h42
 refine Za (Za ?_)
 obtain ⟨c43, h44⟩ := ZA h42
 refine zc [1, 3, 4, 6, 63] 1 c43 (Zb (cn h44 (fun _ h46 => ?_) (fun _ h47 => ?_)))
 refine Ze (Zb (Za (Zj (Za ?_))))
 obtain ⟨c48, h49⟩ := ZA h46
 refine zc [1, 3, 4, 6, 7] 2 c48 (Zb (Za (Za ?_)))
 obtain ⟨r11, q50, h51⟩ := bind_some h49
 refine zr [1, 3, 4, 6, 7, 83] 2 Zw (rq2 (fun hg => Gn _ _ _ (Xc q50 hg)) rqn) (Zb (cn h51 (fun _ h53 => ?_) (fun _ h54 => ?_)))
 exact Za (zg [2] 0 (Zb (Zg (Zh (ZB (Zh (rr h53 ⟨rfl, er0 _⟩)))))))
 refine Ze (Zb (Za ?_))
 obtain ⟨r12, q55, h56⟩ := bind_some h54
 obtain ⟨r13, q57, h58⟩ := bind_some h56
 obtain ⟨r14, q59, h60⟩ := bind_some h58
 obtain ⟨r15, q61, h62⟩ := bind_some h60
 obtain ⟨r16, q63, h64⟩ := bind_some h62
 refine zr [1, 3, 4, 6, 111] 1 Zw (rq1 (XZ _ _ _ _ q55) (rq2 (fun hg => XZ _ _ _ _ (Xc q57 hg)) (rq2 (fun hg => XZ _ _ _ _ (Xc q59 hg)) (rq2 (fun hg => XZ _ _ _ _ (Xc q61 hg)) (rq2 (fun hg => XZ _ _ _ _ (Xc q63 hg)) rqn))))) (Zb (cn h64 (fun _ h66 => ?_) (fun _ h67 => ?_)))
 exact Za (zg [2] 0 (Zb (Zg (ZB (Zh (rr h66 ⟨rfl, er0 _⟩))))))
 exact Ze (XM (Zb (zg [1, 3, 4, 6] 1 (rn h67))))
 exact ZV (Xs (re h47 ⟨rfl, kq⟩))
 intro e70 s71 o72
 rcases y17 with g18 | y19
 have h73 := XP h69
 obtain ⟨rfl, l75⟩ := o72
 exact Qd (XM (XE (s' := ⟨112, [(1, .ref 0 0), u1, (4, .int .i64 p1)], u2⟩) (l75) (zg [1, 3, 4] 1 (rn h73))))
 have h74 := XQ h69
 obtain ⟨rfl, n76⟩ := o72
 exact ZB (ZB (Zh (rr h74 ⟨rfl, n76⟩)))
 have h30 := XQ h25
 obtain ⟨rfl, n77⟩ := o28
 exact ZB (Zh (ZB (Zh (rr h30 ⟨rfl, n77⟩))))
 exact ZV (Xs (re h7 ⟨rfl, kc⟩))
 intro e80 s81 o82
 rcases y20 with g21 | y22
 have h83 := XP h79
 exact zi o82 (Za (zg [2] 0 (Zb (Zg (er1 h83)))))
 have h84 := XQ h79
 obtain ⟨rfl, n86⟩ := o82
 refine ZB (Zh ?_)
 obtain rfl := Option.some.inj h84
 exact n86
theorem Zcl (a0 : JW) (r : Bool) (h : M.V7 a0 = some r) : Fn Tryz.prog 176 [.agg (Kr a0)] (.pure (.bool r)) := by
 unfold M.V7 at h
 exact ZQ Tryz.func176 rfl (by kernel_rfl) (Za (zg [1] 1 (Zb (Za (zg [2] 0 (Zb (Zg (er1 h))))))))
theorem Zes (a0 : JW) (r : Bool) (h : M.UH a0 = some r) : Fn Tryz.prog 177 [.agg (Kr a0)] (.pure (.bool r)) := by
 unfold M.UH at h
 exact ZQ Tryz.func177 rfl (by kernel_rfl) (Za (zg [1] 1 (Zb (Za (zg [2] 0 (Zb (Zg (er1 h))))))))
theorem Zdv (a0 : Zar) (r : Bool) (h : M.JZ a0 = some r) : Fn Tryz.prog 157 [.agg (Zdn a0)] (.pure (.bool r)) := by
 unfold M.JZ at h
 refine ZQ Tryz.func157 rfl (by kernel_rfl) (Za (zg [1] 1 (Zb (Za (Za ?_)))))
 obtain ⟨r1, q1, h2⟩ := bind_some h
 obtain ⟨r2, q3, h4⟩ := bind_some h2
 obtain ⟨r3, q5, h6⟩ := bind_some h4
 refine zr [1, 38] 1 Zw (rq1 (XZ _ _ _ _ q1) (rq2 (fun hg => Zcl _ _ (Xc q3 hg)) (rq2 (fun hg => Zcl _ _ (Xc q5 hg)) rqn))) (Zb (cn h6 (fun _ h8 => ?_) (fun _ h9 => ?_)))
 exact Za (zg [2] 0 (Zb (Zg (Zh (er1 h8)))))
 refine Ze (Zb (Za ?_))
 obtain ⟨r4, q10, h11⟩ := bind_some h9
 obtain ⟨r5, q12, h13⟩ := bind_some h11
 exact zr [2] 0 Zw (rq2 (fun hg => Zes _ _ (Xc q10 hg)) (rq2 (fun hg => Zes _ _ (Xc q12 hg)) rqn)) (Zb (Zg (er1 h13)))
theorem ZbV (a0 : List WD) (r : Int) (h : M.QU a0 = some r) : Fn Tryz.prog 106 [sL 2 Qb a0] (.pure (.int .i64 r)) := by
 let u1 : Nat × D := (0, sL 2 Qb a0)
 unfold M.QU at h
 refine ZQ Tryz.func106 rfl (by kernel_rfl) (Za (zg [0] 0 (Zb (Za (Za (zg [0, 8] 0 (Zb (cn h (fun _ h2 => ?_) (fun _ h3 => ?_)))))))))
 exact Za (zg [2] 0 (Zb (Zg (Zh (er1 h2)))))
 refine Ze (Zb (Za (Za (zg [0, 3] 0 (Zb (Zj ?_))))))
 obtain ⟨y15, q65, h66⟩ := bind_some h3
 refine zl (fun (p1 : Int) => ⟨72, [u1, (3, .int .i64 p1)], []⟩) (Sum.elim (fun z => OutE 0 (fun z => ⟨72, [], []⟩) z) (fun z => OutR Tryz.prog Tryz.f106 (.int .i64 z))) q65 ?_ ?_
 intro p1 y2 h4
 unfold M.Qn at h4
 refine Za (Za (zg [0, 3, 12] 0 (Zb (cn h4 (fun _ h6 => ?_) (fun _ h7 => ?_)))))
 refine Ze (Zb (Za (Zj (Za (Za ?_)))))
 obtain ⟨r3, q8, h9⟩ := bind_some h6
 obtain ⟨c10, h11⟩ := ZA h9
 refine zr [0, 3, 21] 0 c10 (rq1 (GQ _ _ q8) rqn) (Zb (cn h11 (fun _ h13 => ?_) (fun _ h14 => ?_)))
 exact Za (zg [2] 0 (Zb (Zg (Zh (ZB (Zh (rr h13 ⟨rfl, er0 _⟩)))))))
 refine Ze (Zb (Za (Za (zg [0, 3, 4] 0 (Zb (Zj ?_))))))
 obtain ⟨y6, q24, h25⟩ := bind_some h14
 refine zl (fun (p4 : Int) => ⟨72, [u1, (3, .int .i64 p1), (4, .int .i64 p4)], []⟩) (Sum.elim (fun z => OutE 2 (fun z => ⟨72, [u1, (3, .int .i64 p1)], []⟩) z) (fun z => OutR Tryz.prog Tryz.f106 (.int .i64 z))) q24 ?_ ?_
 intro p4 y5 h15
 unfold M.QN at h15
 refine Za (Za (zg [0, 3, 4, 24] 0 (Zb (cn h15 (fun _ h17 => ?_) (fun _ h18 => ?_)))))
 refine Ze (Zb (Za (Zj (Za ?_))))
 obtain ⟨c19, h20⟩ := ZA h17
 refine zc [0, 3, 4, 37] 0 c19 (Zb (cn h20 (fun _ h22 => ?_) (fun _ h23 => ?_)))
 exact Za (zg [2] 0 (Zb (Zg (ZB (Zh (rr h22 ⟨rfl, er0 _⟩))))))
 exact Ze (XM (Zb (zg [0, 3, 4] 0 (rn h23))))
 exact ZV (Xs (re h18 ⟨rfl, kq⟩))
 intro e26 s27 o28
 rcases y6 with g7 | y8
 have h29 := XP h25
 refine zi o28 (Za (Za ?_))
 obtain ⟨c32, h33⟩ := ZA h29
 refine zc [0, 3, 44] 0 c32 (Zb (cn h33 (fun _ h35 => ?_) (fun _ h36 => ?_)))
 exact Za (zg [2] 0 (Zb (Zg (Zh (ZB (Zh (rr h35 ⟨rfl, er0 _⟩)))))))
 refine Ze (Zb (Za (Za ?_)))
 obtain ⟨c37, h38⟩ := ZA h36
 refine zc [0, 3, 51] 0 c37 (Zb (cn h38 (fun _ h40 => ?_) (fun _ h41 => ?_)))
 exact Za (zg [2] 0 (Zb (Zg (Zh (ZB (Zh (rr h40 ⟨rfl, er0 _⟩)))))))
 refine Ze (Zb (Za (zg [0, 3, 5] 0 (Zb (Zj ?_)))))
 obtain ⟨y12, q55, h56⟩ := bind_some h41
 refine zl (fun (p9 : Int) => ⟨72, [u1, (3, .int .i64 p1), (5, .int .i64 p9)], []⟩) (Sum.elim (fun z => OutE 4 (fun z => ⟨72, [u1, (3, .int .i64 p1)], []⟩) z) (fun z => OutR Tryz.prog Tryz.f106 (.int .i64 z))) q55 ?_ ?_
 intro p9 y10 h42
 unfold M.Qm at h42
 refine Za (Za ?_)
 obtain ⟨c43, h44⟩ := ZA h42
 refine zc [0, 3, 5, 59] 0 c43 (Zb (cn h44 (fun _ h46 => ?_) (fun _ h47 => ?_)))
 refine Ze (Zb (Za (Zj (Za ?_))))
 obtain ⟨r11, q48, h49⟩ := bind_some h46
 obtain ⟨c50, h51⟩ := ZA h49
 refine zr [0, 3, 5, 71] 0 c50 (rq1 (Zdv _ _ q48) rqn) (Zb (cn h51 (fun _ h53 => ?_) (fun _ h54 => ?_)))
 exact Za (zg [2] 0 (Zb (Zg (ZB (Zh (rr h53 ⟨rfl, er0 _⟩))))))
 exact Ze (XM (Zb (zg [0, 3, 5] 0 (rn h54))))
 exact ZV (Xs (re h47 ⟨rfl, kq⟩))
 intro e57 s58 o59
 rcases y12 with g13 | y14
 have h60 := XP h56
 obtain ⟨rfl, l62⟩ := o59
 exact Qd (XM (XE (s' := ⟨72, [u1, (3, .int .i64 p1)], []⟩) (l62) (zg [0, 3] 0 (rn h60))))
 have h61 := XQ h56
 obtain ⟨rfl, n63⟩ := o59
 exact ZB (ZB (Zh (rr h61 ⟨rfl, n63⟩)))
 have h30 := XQ h25
 obtain ⟨rfl, n64⟩ := o28
 exact ZB (Zh (ZB (Zh (rr h30 ⟨rfl, n64⟩))))
 exact ZV (Xs (re h7 ⟨rfl, kq⟩))
 intro e67 s68 o69
 rcases y15 with g16 | y17
 have h70 := XP h66
 exact zi o69 (Za (zg [2] 0 (Zb (Zg (er1 h70)))))
 have h71 := XQ h66
 obtain ⟨rfl, n73⟩ := o69
 refine ZB (Zh ?_)
 obtain rfl := Option.some.inj h71
 exact n73
theorem Zbc (a0 : Zf) (a1 : ByteArray) (r : Int) (h : M.WZ a0 a1 = some r) : Fn Tryz.prog 158 [.agg (Zx a0), .str a1] (.pure (.int .i64 r)) := by
 unfold M.WZ at h
 refine ZQ Tryz.func158 rfl (by kernel_rfl) (Za (zg [1, 2] 1 (Zb (Za (Za (zg [1, 2, 5] 1 (Zb (Zj ?_))))))))
 obtain ⟨y3, q10, h11⟩ := bind_some h
 refine zl (fun (p1 : Int) => ⟨22, [(1, .str a1), (2, .ref 0 0), (5, .int .i64 p1)], [.box (Zx a0)]⟩) (Sum.elim (fun z => OutE 0 (fun z => ⟨22, [], []⟩) z) (fun z => OutR Tryz.prog Tryz.f158 (.int .i64 z))) q10 ?_ ?_
 intro p1 y2 h1
 unfold M.WY at h1
 refine Za (Za (zg [1, 2, 5, 10] 1 (Zb (cn h1 (fun _ h3 => ?_) (fun _ h4 => ?_)))))
 refine Ze (Zb (Za (Zj (Za ?_))))
 obtain ⟨c5, h6⟩ := ZA h3
 refine zc [1, 2, 5, 20] 1 c5 (Zb (cn h6 (fun _ h8 => ?_) (fun _ h9 => ?_)))
 exact Za (zg [4] 0 (Zb (Zg (ZB (Zh (rr h8 ⟨rfl, er0 _⟩))))))
 exact Ze (XM (Zb (zg [1, 2, 5] 1 (rn h9))))
 exact ZV (Xs (re h4 ⟨rfl, kc⟩))
 intro e12 s13 o14
 rcases y3 with g4 | y5
 have h15 := XP h11
 exact zi o14 (Za (zg [4] 0 (Zb (Zg (er1 h15)))))
 have h16 := XQ h11
 obtain ⟨rfl, n18⟩ := o14
 refine ZB (Zh ?_)
 obtain rfl := Option.some.inj h16
 exact n18
theorem Zbd (a0 : Zf) (r : Int) (h : M.Qz a0 = some r) : Fn Tryz.prog 107 [.agg (Zx a0)] (.pure (.int .i64 r)) := by
 unfold M.Qz at h
 refine ZQ Tryz.func107 rfl (by kernel_rfl) (Za (zg [1] 1 (Zb (Za (Za (zg [1, 9] 1 (Zb (cn h (fun _ h2 => ?_) (fun _ h3 => ?_)))))))))
 exact Za (zg [2] 0 (Zb (Zg (Zh (er1 h2)))))
 refine Ze (Zb (Za (Za (zg [1, 3] 1 (Zb (Zj ?_))))))
 obtain ⟨y7, q33, h34⟩ := bind_some h3
 refine zl (fun (p1 : Int) => ⟨135, [(1, .ref 0 0), (3, .int .i64 p1)], [.box (Zx a0)]⟩) (Sum.elim (fun z => OutE 0 (fun z => ⟨135, [], []⟩) z) (fun z => OutR Tryz.prog Tryz.f107 (.int .i64 z))) q33 ?_ ?_
 intro p1 y2 h4
 let u1 := a0.Xd.getD p1.toNat default
 let u2 := ((u1.Qj) != 0) && ((u1.Yv) != 0)
 let u3 : List Ob := [.box (Zx a0), .box (Xa u1)]
 unfold M.Y4 at h4
 refine Za (Za (zg [1, 3, 14] 1 (Zb (cn h4 (fun _ h6 => ?_) (fun _ h7 => ?_)))))
 refine Ze (Zb (Za (Zj (Za ?_))))
 obtain ⟨c8, h9⟩ := ZA h6
 refine zc [1, 3, 4] 2 c8 (Zb (Za (rg0 [1, 3, 4, 5] 2 ⟨135, [(1, .ref 0 0), (3, .int .i64 p1), (4, .ref 1 0), (5, .bool false)], u3⟩ (Zb (Uj (fun (p3 : Bool) => ⟨135, [(1, .ref 0 0), (3, .int .i64 p1), (4, .ref 1 0), (5, .bool p3)], u3⟩) (fun p3 => M.X3 a0 p1 p3 = some y2) ?_ ?_)))))
 intro p3 h11
 unfold M.X3 at h11
 refine Za (Za (zg [1, 3, 4, 124] 2 (Zb (cn h11 (fun _ h13 => ?_) (fun _ h14 => ?_)))))
 exact Za (zg [2] 0 (Zb (Zg (Zh (ZB (Zh (rr h13 ⟨rfl, er0 _⟩)))))))
 refine Ze (Zb (Za ?_))
 obtain ⟨r4, q15, h16⟩ := bind_some h14
 refine zr [1, 3, 134] 1 Zw (rq2 (fun hg => Zbc _ _ _ (Xc q15 hg)) rqn) (Zb (cn h16 (fun _ h18 => ?_) (fun _ h19 => ?_)))
 exact Za (zg [2] 0 (Zb (Zg (ZB (Zh (rr h18 ⟨rfl, er0 _⟩))))))
 exact Ze (XM (Zb (zg [1, 3] 1 (rn h19))))
 intro k10
 refine Za (zg [1, 3, 4, 5, 23] 2 (Zb (Zj (Za (zg [1, 3, 4, 5, 23, 24] 2 (Zb (cn h9 (fun _ h21 => ?_) (fun _ h22 => ?_))))))))
 exact zg [1, 3, 4, 5] 2 (XM (XE lk (k10 (u2 && (((u1.JT) == (u1.JT)) && (((u1.Qj) == (u1.Qj)) && (((u1.Yv) == (u1.Yv)) && (((u1.Yb) == 0) && (((u1.QI) == 0) && (((u1.Qe) == 0) && (strEq (u1.QP) (⟨#[]⟩ : ByteArray) && (((u1.Gc) == 0) && (((u1.GM) == 0) && true)))))))))) h21)))
 refine Za (zg [1, 3, 4, 5, 23, 45] 2 (Zb (cn h22 (fun _ h24 => ?_) (fun _ h25 => ?_))))
 exact zg [1, 3, 4, 5] 2 (XM (XE lk (k10 (((((u1.Gc) != 0) && (decide ((u1.Gc) ≤ (u1.GM)))) && (decide ((wr .u32 ((u1.GM) - (u1.Gc))) < 8))) && (((u1.JT) == (u1.JT)) && (((u1.Qj) == 0) && (((u1.Yv) == 0) && (((u1.Yb) == 0) && (((u1.QI) == 0) && (((u1.Qe) == 0) && (strEq (u1.QP) (u1.QP) && (((u1.Gc) == (u1.Gc)) && (((u1.GM) == (u1.GM)) && true)))))))))) h24)))
 refine Za (zg [1, 3, 4, 5, 78] 2 (Zb (cn h25 (fun _ h27 => ?_) (fun _ h28 => ?_))))
 obtain ⟨r5, q29, h30⟩ := bind_some h27
 obtain ⟨r6, q31, h32⟩ := bind_some h30
 exact zr [1, 3, 4, 5] 2 Zw (rq2 (fun hg => XZ _ _ _ _ (Xc q29 hg)) (rq2 (fun hg => XZ _ _ _ _ (Xc q31 hg)) rqn)) (XM (XE lk (k10 ((((((u2 && (((u1.Yb) == 6) || ((u1.Yb) == 17))) && r5) && r6) && (strEq (u1.QP) (⟨#[]⟩ : ByteArray))) && ((u1.Gc) == 0)) && ((u1.GM) == 0)) h32)))
 exact Ze (XM (XE kq (k10 false h28)))
 exact ZV (Xs (re h7 ⟨rfl, kc⟩))
 intro e35 s36 o37
 rcases y7 with g8 | y9
 have h38 := XP h34
 exact zi o37 (Za (zg [2] 0 (Zb (Zg (er1 h38)))))
 have h39 := XQ h34
 obtain ⟨rfl, n41⟩ := o37
 refine ZB (Zh ?_)
 obtain rfl := Option.some.inj h39
 exact n41
theorem Zez (a0 : Zf) (r : Int) (h : M.V8 a0 = some r) : Fn Tryz.prog 108 [.agg (Zx a0)] (.pure (.int .i64 r)) := by
 unfold M.V8 at h
 refine ZQ Tryz.func108 rfl (by kernel_rfl) (Za (zg [1] 1 (Zb (Za (Za (zg [1, 3] 1 (Zb (Zj ?_))))))))
 obtain ⟨y5, q14, h15⟩ := bind_some h
 refine zl (fun (p1 : Int) => ⟨39, [(1, .ref 0 0), (3, .int .i64 p1)], [.box (Zx a0)]⟩) (Sum.elim (fun z => OutE 0 (fun z => ⟨39, [], []⟩) z) (fun z => OutR Tryz.prog Tryz.f108 (.int .i64 z))) q14 ?_ ?_
 intro p1 y2 h1
 unfold M.VD at h1
 refine Za (Za (zg [1, 3, 9] 1 (Zb (cn h1 (fun _ h3 => ?_) (fun _ h4 => ?_)))))
 refine Ze (Zb (Za (Zj (Za ?_))))
 obtain ⟨c5, h6⟩ := ZA h3
 refine zc [1, 3, 4] 2 c5 (Zb (Za ?_))
 obtain ⟨r3, q7, h8⟩ := bind_some h6
 obtain ⟨r4, q9, h10⟩ := bind_some h8
 refine zr [1, 3, 38] 1 Zw (rq2 (fun hg => Zbc _ _ _ (Xc q7 hg)) (rq2 (fun hg => Zbc _ _ _ (Xc q9 hg)) rqn)) (Zb (cn h10 (fun _ h12 => ?_) (fun _ h13 => ?_)))
 exact Za (zg [2] 0 (Zb (Zg (ZB (Zh (rr h12 ⟨rfl, er0 _⟩))))))
 exact Ze (XM (Zb (zg [1, 3] 1 (rn h13))))
 exact ZV (Xs (re h4 ⟨rfl, kc⟩))
 intro e16 s17 o18
 rcases y5 with g6 | y7
 have h19 := XP h15
 exact zi o18 (Za (zg [2] 0 (Zb (Zg (er1 h19)))))
 have h20 := XQ h15
 obtain ⟨rfl, n22⟩ := o18
 refine ZB (Zh ?_)
 obtain rfl := Option.some.inj h20
 exact n22
theorem Zas (a0 : Zf) (a1 : Int) (r : Int) (h : M.Q2 a0 a1 = some r) : Fn Tryz.prog 66 [.agg (Zx a0), .int .u32 a1] (.pure (.int .i64 r)) := by
 unfold M.Q2 at h
 refine ZQ Tryz.func66 rfl (by kernel_rfl) (Za (zg [1, 2] 1 (Zb (Za (Za (zg [1, 2, 5] 1 (Zb (Zj ?_))))))))
 obtain ⟨y3, q10, h11⟩ := bind_some h
 refine zl (fun (p1 : Int) => ⟨31, [(1, .int .u32 a1), (2, .ref 0 0), (5, .int .i64 p1)], [.box (Zx a0)]⟩) (Sum.elim (fun z => OutE 0 (fun z => ⟨31, [], []⟩) z) (fun z => OutR Tryz.prog Tryz.f66 (.int .i64 z))) q10 ?_ ?_
 intro p1 y2 h1
 unfold M.VE at h1
 refine Za (Za (zg [1, 2, 5, 10] 1 (Zb (cn h1 (fun _ h3 => ?_) (fun _ h4 => ?_)))))
 refine Ze (Zb (Za (Zj (Za ?_))))
 obtain ⟨c5, h6⟩ := ZA h3
 refine zc [1, 2, 5, 29] 1 c5 (Zb (cn h6 (fun _ h8 => ?_) (fun _ h9 => ?_)))
 exact Za (zg [4] 0 (Zb (Zg (ZB (Zh (rr h8 ⟨rfl, er0 _⟩))))))
 exact Ze (XM (Zb (zg [1, 2, 5] 1 (rn h9))))
 exact ZV (Xs (re h4 ⟨rfl, kc⟩))
 intro e12 s13 o14
 rcases y3 with g4 | y5
 have h15 := XP h11
 exact zi o14 (Za (zg [4] 0 (Zb (Zg (er1 h15)))))
 have h16 := XQ h11
 obtain ⟨rfl, n18⟩ := o14
 refine ZB (Zh ?_)
 obtain rfl := Option.some.inj h16
 exact n18
theorem Zdw (a0 : Zf) (a1 : ByteArray) (r : Int) (h : M.JJ a0 a1 = some r) : Fn Tryz.prog 160 [.agg (Zx a0), .str a1] (.pure (.int .i64 r)) := by
 unfold M.JJ at h
 refine ZQ Tryz.func160 rfl (by kernel_rfl) (Za (zg [1, 2] 1 (Zb (Za (Za (zg [1, 2, 5] 1 (Zb (Zj ?_))))))))
 obtain ⟨y3, q10, h11⟩ := bind_some h
 refine zl (fun (p1 : Int) => ⟨22, [(1, .str a1), (2, .ref 0 0), (5, .int .i64 p1)], [.box (Zx a0)]⟩) (Sum.elim (fun z => OutE 0 (fun z => ⟨22, [], []⟩) z) (fun z => OutR Tryz.prog Tryz.f160 (.int .i64 z))) q10 ?_ ?_
 intro p1 y2 h1
 unfold M.Jx at h1
 refine Za (Za (zg [1, 2, 5, 10] 1 (Zb (cn h1 (fun _ h3 => ?_) (fun _ h4 => ?_)))))
 refine Ze (Zb (Za (Zj (Za ?_))))
 obtain ⟨c5, h6⟩ := ZA h3
 refine zc [1, 2, 5, 20] 1 c5 (Zb (cn h6 (fun _ h8 => ?_) (fun _ h9 => ?_)))
 exact Za (zg [4] 0 (Zb (Zg (ZB (Zh (rr h8 ⟨rfl, er0 _⟩))))))
 exact Ze (XM (Zb (zg [1, 2, 5] 1 (rn h9))))
 exact ZV (Xs (re h4 ⟨rfl, kc⟩))
 intro e12 s13 o14
 rcases y3 with g4 | y5
 have h15 := XP h11
 exact zi o14 (Za (zg [4] 0 (Zb (Zg (er1 h15)))))
 have h16 := XQ h11
 obtain ⟨rfl, n18⟩ := o14
 refine ZB (Zh ?_)
 obtain rfl := Option.some.inj h16
 exact n18
theorem ZeA (a0 : Zf) (r : Int) (h : M.VF a0 = some r) : Fn Tryz.prog 109 [.agg (Zx a0)] (.pure (.int .i64 r)) := by
 let u4 := Zx a0
 unfold M.VF at h
 refine ZQ Tryz.func109 rfl (by kernel_rfl) (Za (zg [1] 1 (Zb (Za (Za (zg [1, 11] 1 (Zb (cn h (fun _ h2 => ?_) (fun _ h3 => ?_)))))))))
 exact Za (zg [2] 0 (Zb (Zg (Zh (er1 h2)))))
 refine Ze (Zb (Za (Za (zg [1, 3] 1 (Zb (Zj ?_))))))
 obtain ⟨y17, q69, h70⟩ := bind_some h3
 refine zl (fun (p1 : Int) => ⟨111, [(1, .ref 0 0), (3, .int .i64 p1)], [.box u4]⟩) (Sum.elim (fun z => OutE 0 (fun z => ⟨111, [], []⟩) z) (fun z => OutR Tryz.prog Tryz.f109 (.int .i64 z))) q69 ?_ ?_
 intro p1 y2 h4
 let u1 := a0.Zq.getD p1.toNat default
 let u2 : List Ob := [.box u4, .box (Z5 u1)]
 unfold M.JK at h4
 refine Za (Za (zg [1, 3, 16] 1 (Zb (cn h4 (fun _ h6 => ?_) (fun _ h7 => ?_)))))
 refine Ze (Zb (Za (Zj (Za ?_))))
 obtain ⟨c8, h9⟩ := ZA h6
 refine zc [1, 3, 4] 2 c8 (Zb (Za (rg0 [1, 3, 4, 5] 2 ⟨111, [(1, .ref 0 0), (3, .int .i64 p1), (4, .ref 1 0), (5, .int .i64 0)], u2⟩ (Zb (Uj (fun (p3 : Int) => ⟨111, [(1, .ref 0 0), (3, .int .i64 p1), (4, .ref 1 0), (5, .int .i64 p3)], u2⟩) (fun p3 => M.Jp a0 p1 p3 = some y2) ?_ ?_)))))
 intro p3 h11
 unfold M.Jp at h11
 refine Uj (fun (p4 : Int) => ⟨111, [(1, .ref 0 0), (3, .int .i64 p1), (4, .ref 1 0), (5, .int .i64 p4)], u2⟩) (fun p4 => M.Jo a0 p1 p4 = some y2) ?_ ?_
 intro p4 h13
 unfold M.Jo at h13
 refine Uj (fun (p5 : Int) => ⟨111, [(1, .ref 0 0), (3, .int .i64 p1), (4, .ref 1 0), (5, .int .i64 p5)], u2⟩) (fun p5 => M.Jn a0 p1 p5 = some y2) ?_ ?_
 intro p5 h15
 unfold M.Jn at h15
 refine Za (Za ?_)
 obtain ⟨r6, q16, h17⟩ := bind_some h15
 obtain ⟨r7, q18, h19⟩ := bind_some h17
 let u3 := ((!r6) || (p5 != 1)) || (((u1.Vf) != 0) && (decide (r7 ≥ 0)))
 obtain ⟨r8, q20, h21⟩ := bind_some h19
 obtain ⟨r9, q22, h23⟩ := bind_some h21
 refine rg [.pure (.bool r6), .pure (.int .i64 r7), .pure (.bool r8), .pure (.bool r9)] [1, 3, 4, 69] 2 ⟨111, [(1, .ref 0 0), (3, .int .i64 p1), (4, .ref 1 0), (69, .bool ((u3 || (!r8)) || (!r9)))], u2⟩ [] [⟨true, 159, [.agg (Z9 (u1.Zp))], .pure (.bool r6)⟩, ⟨((!((!r6) || (p5 != 1))) && ((u1.Vf) != 0)), 66, [.agg u4, .int .u32 (u1.Vf)], .pure (.int .i64 r7)⟩, ⟨(!u3), 102, [.int .i64 (u1.Xj), .int .i64 1, .int .i64 255], .pure (.bool r8)⟩, ⟨(!(u3 || (!r8))), 102, [.int .i64 (u1.US), .int .i64 0, .int .i64 65535], .pure (.bool r9)⟩] Zw ⟨fun _ => W9 (u1.Zp) r6 q16, fun hg => Zas a0 (u1.Vf) r7 (Xc q18 hg), fun hg => XZ (u1.Xj) 1 255 r8 (Xc q20 hg), fun hg => XZ (u1.US) 0 65535 r9 (Xc q22 hg), trivial⟩ (Zb (cn h23 (fun _ h25 => ?_) (fun _ h26 => ?_)))
 exact Za (zg [2] 0 (Zb (Zg (Zh (ZB (Zh (rr h25 ⟨rfl, er0 _⟩)))))))
 refine Ze (Zb (Uj (fun (p10 : Unit) => ⟨111, [(1, .ref 0 0), (3, .int .i64 p1), (4, .ref 1 0)], u2⟩) (fun p10 => M.Jm a0 p1 p10 = some y2) ?_ ?_))
 intro p10 h28
 unfold M.Jm at h28
 refine Za (zg [1, 3, 4, 7] 2 (Zb (Zj ?_)))
 obtain ⟨y13, q38, h39⟩ := bind_some h28
 refine zl (fun (p11 : Int) => ⟨111, [(1, .ref 0 0), (3, .int .i64 p1), (4, .ref 1 0), (7, .int .i64 p11)], u2⟩) (Sum.elim (fun z => OutE 2 (fun z => ⟨111, [(1, .ref 0 0), (3, .int .i64 p1)], [.box u4]⟩) z) (fun z => OutR Tryz.prog Tryz.f109 (.int .i64 z))) q38 ?_ ?_
 intro p11 y12 h29
 unfold M.Jl at h29
 refine Za (Za (zg [1, 3, 4, 7, 88] 2 (Zb (cn h29 (fun _ h31 => ?_) (fun _ h32 => ?_)))))
 refine Ze (Zb (Za (Zj (Za ?_))))
 obtain ⟨c33, h34⟩ := ZA h31
 refine zc [1, 3, 4, 7, 110] 2 c33 (Zb (cn h34 (fun _ h36 => ?_) (fun _ h37 => ?_)))
 exact Za (zg [2] 0 (Zb (Zg (ZB (Zh (rr h36 ⟨rfl, er0 _⟩))))))
 exact Ze (XM (Zb (zg [1, 3, 4, 7] 2 (rn h37))))
 exact ZV (Xs (re h32 ⟨rfl, kc⟩))
 intro e40 s41 o42
 rcases y13 with g14 | y15
 have h43 := XP h39
 obtain ⟨rfl, l45⟩ := o42
 exact Qd (XM (XE (s' := ⟨111, [(1, .ref 0 0), (3, .int .i64 p1)], [.box u4]⟩) (l45) (zg [1, 3] 1 (rn h43))))
 have h44 := XQ h39
 obtain ⟨rfl, n46⟩ := o42
 exact ZB (ZB (Zh (rr h44 ⟨rfl, n46⟩)))
 intro k27
 refine Za (zg [1, 3, 4, 72] 2 (Zb (cn h26 (fun _ h48 => ?_) (fun _ h49 => ?_))))
 refine Za ?_
 obtain ⟨r16, q50, h51⟩ := bind_some h48
 refine zr [1, 3, 4, 6] 2 Zw (rq1 (Zdw _ _ _ q50) rqn) (Zb (Za (Za (zg [1, 3, 4, 6, 78] 2 (Zb (cn h51 (fun _ h53 => ?_) (fun _ h54 => ?_)))))))
 exact Za (zg [2] 0 (Zb (Zg (Zh (Zh (ZB (Zh (rr h53 ⟨rfl, er0 _⟩))))))))
 refine Ze (Zb (Za ?_))
 obtain ⟨c55, h56⟩ := ZA h54
 refine zc [1, 3, 4, 85] 2 c55 (Zb (cn h56 (fun _ h58 => ?_) (fun _ h59 => ?_)))
 exact Za (zg [2] 0 (Zb (Zg (Zh (ZB (Zh (rr h58 ⟨rfl, er0 _⟩)))))))
 exact Ze (XE kq (k27 () h59))
 exact Ze (XE kq (k27 () h49))
 intro k14
 refine Za (zg [1, 3, 4, 5, 35] 2 (Zb (cn h13 (fun _ h61 => ?_) (fun _ h62 => ?_))))
 exact zg [1, 3, 4, 5] 2 (XE lk (k14 (wr .i64 (p4 + 1)) h61))
 exact Ze (XE kq (k14 p4 h62))
 intro k12
 refine Za (zg [1, 3, 4, 5, 31] 2 (Zb (cn h11 (fun _ h64 => ?_) (fun _ h65 => ?_))))
 exact zg [1, 3, 4, 5] 2 (XE lk (k12 (wr .i64 (p3 + 1)) h64))
 exact Ze (XE kq (k12 p3 h65))
 intro k10
 refine Za (zg [1, 3, 4, 5, 26] 2 (Zb (cn h9 (fun _ h67 => ?_) (fun _ h68 => ?_))))
 exact zg [1, 3, 4, 5] 2 (XE lk (k10 1 h67))
 exact Ze (XE kq (k10 0 h68))
 exact ZV (Xs (re h7 ⟨rfl, kc⟩))
 intro e71 s72 o73
 rcases y17 with g18 | y19
 have h74 := XP h70
 exact zi o73 (Za (zg [2] 0 (Zb (Zg (er1 h74)))))
 have h75 := XQ h70
 obtain ⟨rfl, n77⟩ := o73
 refine ZB (Zh ?_)
 obtain rfl := Option.some.inj h75
 exact n77
theorem G4 (a0 : Zf) (a1 : ByteArray) (r : Int) (h : M.Jy a0 a1 = some r) : Fn Tryz.prog 178 [.agg (Zx a0), .str a1] (.pure (.int .i64 r)) := by
 unfold M.Jy at h
 refine ZQ Tryz.func178 rfl (by kernel_rfl) (Za (zg [1, 2] 1 (Zb (Za (Za (zg [1, 2, 5] 1 (Zb (Zj ?_))))))))
 obtain ⟨y3, q10, h11⟩ := bind_some h
 refine zl (fun (p1 : Int) => ⟨22, [(1, .str a1), (2, .ref 0 0), (5, .int .i64 p1)], [.box (Zx a0)]⟩) (Sum.elim (fun z => OutE 0 (fun z => ⟨22, [], []⟩) z) (fun z => OutR Tryz.prog Tryz.f178 (.int .i64 z))) q10 ?_ ?_
 intro p1 y2 h1
 unfold M.Vb at h1
 refine Za (Za (zg [1, 2, 5, 10] 1 (Zb (cn h1 (fun _ h3 => ?_) (fun _ h4 => ?_)))))
 refine Ze (Zb (Za (Zj (Za ?_))))
 obtain ⟨c5, h6⟩ := ZA h3
 refine zc [1, 2, 5, 20] 1 c5 (Zb (cn h6 (fun _ h8 => ?_) (fun _ h9 => ?_)))
 exact Za (zg [4] 0 (Zb (Zg (ZB (Zh (rr h8 ⟨rfl, er0 _⟩))))))
 exact Ze (XM (Zb (zg [1, 2, 5] 1 (rn h9))))
 exact ZV (Xs (re h4 ⟨rfl, kc⟩))
 intro e12 s13 o14
 rcases y3 with g4 | y5
 have h15 := XP h11
 exact zi o14 (Za (zg [4] 0 (Zb (Zg (er1 h15)))))
 have h16 := XQ h11
 obtain ⟨rfl, n18⟩ := o14
 refine ZB (Zh ?_)
 obtain rfl := Option.some.inj h16
 exact n18
theorem Up (a0 : Zf) (a1 : List Yw) (a2 : Int) (a3 : Int) (a4 : Int) (r : Int) (h : M.X8 a0 a1 a2 a3 a4 = some r) : Fn Tryz.prog 161 [.agg (Zx a0), sL 5 ZD a1, .int .i64 a2, .int .i64 a3, .int .i64 a4] (.pure (.int .i64 r)) := by
 let u1 : Nat × D := (1, sL 5 ZD a1)
 let u2 := Zx a0
 unfold M.X8 at h
 refine ZQ Tryz.func161 rfl (by kernel_rfl) (Za (zg [1, 2, 3, 4, 5] 1 (Zb (Za (Za (zg [1, 2, 3, 4, 5, 16] 1 (Zb (cn h (fun _ h2 => ?_) (fun _ h3 => ?_)))))))))
 exact Za (zg [10] 0 (Zb (Zg (Zh (er1 h2)))))
 refine Ze (Zb (Za (Za (zg [1, 2, 3, 4, 5, 11] 1 (Zb (Zj ?_))))))
 obtain ⟨y12, q45, h46⟩ := bind_some h3
 refine zl (fun (p1 : Int) => ⟨95, [u1, (2, .int .i64 a2), (3, .int .i64 a3), (4, .int .i64 a4), (5, .ref 0 0), (11, .int .i64 p1)], [.box u2]⟩) (Sum.elim (fun z => OutE 0 (fun z => ⟨95, [], []⟩) z) (fun z => OutR Tryz.prog Tryz.f161 (.int .i64 z))) q45 ?_ ?_
 intro p1 y2 h4
 unfold M.Ys at h4
 refine Za (Za (zg [1, 2, 3, 4, 5, 11, 20] 1 (Zb (cn h4 (fun _ h6 => ?_) (fun _ h7 => ?_)))))
 refine Ze (Zb (Za (Zj (Za ?_))))
 obtain ⟨c8, h9⟩ := ZA h6
 refine zc [1, 2, 3, 4, 5, 11, 12] 2 c8 (Zb (Za (Za ?_)))
 obtain ⟨r3, q10, h11⟩ := bind_some h9
 obtain ⟨r4, q12, h13⟩ := bind_some h11
 obtain ⟨r5, q14, h15⟩ := bind_some h13
 refine zr [1, 2, 3, 4, 5, 11, 12, 50] 2 Zw (rq1 (XZ _ _ _ _ q10) (rq2 (fun hg => XZ _ _ _ _ (Xc q12 hg)) (rq2 (fun hg => XZ _ _ _ _ (Xc q14 hg)) rqn))) (Zb (cn h15 (fun _ h17 => ?_) (fun _ h18 => ?_)))
 exact Za (zg [10] 0 (Zb (Zg (Zh (ZB (Zh (rr h17 ⟨rfl, er0 _⟩)))))))
 refine Ze (Zb (Za (Za (zg [1, 2, 3, 4, 5, 11, 12, 71] 2 (Zb (cn h18 (fun _ h20 => ?_) (fun _ h21 => ?_)))))))
 exact Za (zg [10] 0 (Zb (Zg (Zh (ZB (Zh (rr h20 ⟨rfl, er0 _⟩)))))))
 refine Ze (Zb (Za (Za ?_)))
 obtain ⟨r6, q22, h23⟩ := bind_some h21
 refine zr [1, 2, 3, 4, 5, 11, 12, 81] 2 Zw (rq2 (fun hg => G4 _ _ _ (Xc q22 hg)) rqn) (Zb (cn h23 (fun _ h25 => ?_) (fun _ h26 => ?_)))
 exact Za (zg [10] 0 (Zb (Zg (Zh (ZB (Zh (rr h25 ⟨rfl, er0 _⟩)))))))
 refine Ze (Zb (Za (zg [1, 2, 3, 4, 5, 11, 12, 13] 2 (Zb (Zj ?_)))))
 obtain ⟨y9, q36, h37⟩ := bind_some h26
 refine zl (fun (p7 : Int) => ⟨95, [u1, (2, .int .i64 a2), (3, .int .i64 a3), (4, .int .i64 a4), (5, .ref 0 0), (11, .int .i64 p1), (12, .ref 1 0), (13, .int .i64 p7)], [.box u2, .box (ZD (a1.getD p1.toNat default))]⟩) (Sum.elim (fun z => OutE 2 (fun z => ⟨95, [u1, (2, .int .i64 a2), (3, .int .i64 a3), (4, .int .i64 a4), (5, .ref 0 0), (11, .int .i64 p1)], [.box u2]⟩) z) (fun z => OutR Tryz.prog Tryz.f161 (.int .i64 z))) q36 ?_ ?_
 intro p7 y8 h27
 unfold M.Yf at h27
 refine Za (Za (zg [1, 2, 3, 4, 5, 11, 12, 13, 84] 2 (Zb (cn h27 (fun _ h29 => ?_) (fun _ h30 => ?_)))))
 refine Ze (Zb (Za (Zj (Za ?_))))
 obtain ⟨c31, h32⟩ := ZA h29
 refine zc [1, 2, 3, 4, 5, 11, 12, 13, 94] 2 c31 (Zb (cn h32 (fun _ h34 => ?_) (fun _ h35 => ?_)))
 exact Za (zg [10] 0 (Zb (Zg (ZB (Zh (rr h34 ⟨rfl, er0 _⟩))))))
 exact Ze (XM (Zb (zg [1, 2, 3, 4, 5, 11, 12, 13] 2 (rn h35))))
 exact ZV (Xs (re h30 ⟨rfl, kc⟩))
 intro e38 s39 o40
 rcases y9 with g10 | y11
 have h41 := XP h37
 obtain ⟨rfl, l43⟩ := o40
 exact Qd (XM (XE (s' := ⟨95, [u1, (2, .int .i64 a2), (3, .int .i64 a3), (4, .int .i64 a4), (5, .ref 0 0), (11, .int .i64 p1)], [.box u2]⟩) (l43) (zg [1, 2, 3, 4, 5, 11] 1 (rn h41))))
 have h42 := XQ h37
 obtain ⟨rfl, n44⟩ := o40
 exact ZB (ZB (Zh (rr h42 ⟨rfl, n44⟩)))
 exact ZV (Xs (re h7 ⟨rfl, kc⟩))
 intro e47 s48 o49
 rcases y12 with g13 | y14
 have h50 := XP h46
 exact zi o49 (Za (zg [10] 0 (Zb (Zg (er1 h50)))))
 have h51 := XQ h46
 obtain ⟨rfl, n53⟩ := o49
 refine ZB (Zh ?_)
 obtain rfl := Option.some.inj h51
 exact n53
theorem Zdx (a0 : Zf) (r : Int) (h : M.JL a0 = some r) : Fn Tryz.prog 110 [.agg (Zx a0)] (.pure (.int .i64 r)) := by
 let u1 : List Ob := [.box (Zx a0), .box (Kt a0.Yi)]
 unfold M.JL at h
 refine ZQ Tryz.func110 rfl (by kernel_rfl) (Za (zg [1] 1 (Zb (Za (zg [1, 3] 2 (Zb (Za (Za (zg [1, 3, 10] 2 (Zb (cn h (fun _ h2 => ?_) (fun _ h3 => ?_))))))))))))
 refine Za (Za (zg [25] 0 (Zb (cn h2 (fun _ h5 => ?_) (fun _ h6 => ?_)))))
 exact Za (zg [2] 0 (Zb (Zg (Zh (Zh (er1 h5))))))
 exact Ze (Zb (Za (zg [2] 0 (Zb (Zg (Zh (er1 h6)))))))
 refine Ze (Zb (Za (Za ?_)))
 obtain ⟨r1, q7, h8⟩ := bind_some h3
 refine zr [1, 3, 29] 2 Zw (rq1 (XZ _ _ _ _ q7) rqn) (Zb (cn h8 (fun _ h10 => ?_) (fun _ h11 => ?_)))
 exact Za (zg [2] 0 (Zb (Zg (Zh (er1 h10)))))
 refine Ze (Zb (Za (Za (zg [1, 3, 33] 2 (Zb (cn h11 (fun _ h13 => ?_) (fun _ h14 => ?_)))))))
 exact Za (zg [2] 0 (Zb (Zg (Zh (er1 h13)))))
 refine Ze (Zb (Za (Za (zg [1, 3, 4] 2 (Zb (Zj ?_))))))
 obtain ⟨y12, q48, h49⟩ := bind_some h14
 refine zl (fun (p2 : Int) => ⟨96, [(1, .ref 0 0), (3, .ref 1 0), (4, .int .i64 p2)], u1⟩) (Sum.elim (fun z => OutE 0 (fun z => ⟨96, [(1, .ref 0 0), (3, .ref 1 0)], u1⟩) z) (fun z => OutR Tryz.prog Tryz.f110 (.int .i64 z))) q48 ?_ ?_
 intro p2 y3 h15
 unfold M.Q4 at h15
 refine Za (Za (zg [1, 3, 4, 38] 2 (Zb (cn h15 (fun _ h17 => ?_) (fun _ h18 => ?_)))))
 refine Ze (Zb (Za (Zj (Za (Za ?_)))))
 obtain ⟨r4, q19, h20⟩ := bind_some h17
 obtain ⟨r5, q21, h22⟩ := bind_some h20
 obtain ⟨c23, h24⟩ := ZA h22
 refine zr [1, 3, 4, 58] 2 c23 (rq1 (XZ _ _ _ _ q19) (rq2 (fun hg => W9 _ _ (Xc q21 hg)) rqn)) (Zb (cn h24 (fun _ h26 => ?_) (fun _ h27 => ?_)))
 exact Za (zg [2] 0 (Zb (Zg (Zh (ZB (Zh (rr h26 ⟨rfl, er0 _⟩)))))))
 refine Ze (Zb (Za (zg [1, 3, 4, 5] 2 (Zb (Zj ?_)))))
 obtain ⟨y9, q39, h40⟩ := bind_some h27
 refine zl (fun (p6 : Int) => ⟨96, [(1, .ref 0 0), (3, .ref 1 0), (4, .int .i64 p2), (5, .int .i64 p6)], u1⟩) (Sum.elim (fun z => OutE 2 (fun z => ⟨96, [(1, .ref 0 0), (3, .ref 1 0), (4, .int .i64 p2)], u1⟩) z) (fun z => OutR Tryz.prog Tryz.f110 (.int .i64 z))) q39 ?_ ?_
 intro p6 y7 h28
 unfold M.Q3 at h28
 refine Za (Za (zg [1, 3, 4, 5, 61] 2 (Zb (cn h28 (fun _ h30 => ?_) (fun _ h31 => ?_)))))
 refine Ze (Zb (Za (Zj (Za ?_))))
 obtain ⟨r8, q32, h33⟩ := bind_some h30
 obtain ⟨c34, h35⟩ := ZA h33
 refine zr [1, 3, 4, 5, 91] 2 c34 (rq2 (fun hg => RF _ _ _ (Xc q32 hg)) rqn) (Zb (cn h35 (fun _ h37 => ?_) (fun _ h38 => ?_)))
 exact Za (zg [2] 0 (Zb (Zg (ZB (Zh (rr h37 ⟨rfl, er0 _⟩))))))
 exact Ze (XM (Zb (zg [1, 3, 4, 5] 2 (rn h38))))
 exact ZV (Xs (re h31 ⟨rfl, kq⟩))
 intro e41 s42 o43
 rcases y9 with g10 | y11
 have h44 := XP h40
 obtain ⟨rfl, l46⟩ := o43
 exact Qd (XM (XE (s' := ⟨96, [(1, .ref 0 0), (3, .ref 1 0), (4, .int .i64 p2)], u1⟩) (l46) (zg [1, 3, 4] 2 (rn h44))))
 have h45 := XQ h40
 obtain ⟨rfl, n47⟩ := o43
 exact ZB (ZB (Zh (rr h45 ⟨rfl, n47⟩)))
 exact ZV (Xs (re h18 ⟨rfl, kq⟩))
 intro e50 s51 o52
 rcases y12 with g13 | y14
 have h53 := XP h49
 refine zi o52 (Za ?_)
 obtain ⟨r15, q56, h57⟩ := bind_some h53
 exact zr [2] 0 Zw (rq1 (Up _ _ _ _ _ _ q56) rqn) (Zb (Zg (er1 h57)))
 have h54 := XQ h49
 obtain ⟨rfl, n58⟩ := o52
 refine ZB (Zh ?_)
 obtain rfl := Option.some.inj h54
 exact n58
theorem Zd5 (a0 : Zf) (r : Int) (h : M.J8 a0 = some r) : Fn Tryz.prog 111 [.agg (Zx a0)] (.pure (.int .i64 r)) := by
 unfold M.J8 at h
 refine ZQ Tryz.func111 rfl (by kernel_rfl) (Za (zg [1] 1 (Zb (Za (zg [1, 3] 2 (Zb (Za (Za (zg [1, 3, 8] 2 (Zb (cn h (fun _ h2 => ?_) (fun _ h3 => ?_))))))))))))
 refine Za (Za (zg [27] 0 (Zb (cn h2 (fun _ h5 => ?_) (fun _ h6 => ?_)))))
 exact Za (zg [2] 0 (Zb (Zg (Zh (Zh (er1 h5))))))
 exact Ze (Zb (Za (zg [2] 0 (Zb (Zg (Zh (er1 h6)))))))
 refine Ze (Zb (Za (Za ?_)))
 obtain ⟨r1, q7, h8⟩ := bind_some h3
 refine zr [1, 3, 31] 2 Zw (rq1 (XZ _ _ _ _ q7) rqn) (Zb (cn h8 (fun _ h10 => ?_) (fun _ h11 => ?_)))
 exact Za (zg [2] 0 (Zb (Zg (Zh (er1 h10)))))
 refine Ze (Zb (Za (Za ?_)))
 obtain ⟨r2, q12, h13⟩ := bind_some h11
 obtain ⟨r3, q14, h15⟩ := bind_some h13
 refine zr [1, 3, 53] 2 Zw (rq2 (fun hg => Gn _ _ _ (Xc q12 hg)) (rq2 (fun hg => Gn _ _ _ (Xc q14 hg)) rqn)) (Zb (cn h15 (fun _ h17 => ?_) (fun _ h18 => ?_)))
 exact Za (zg [2] 0 (Zb (Zg (Zh (er1 h17)))))
 refine Ze (Zb (Za ?_))
 obtain ⟨r4, q19, h20⟩ := bind_some h18
 exact zr [2] 0 Zw (rq1 (Up _ _ _ _ _ _ q19) rqn) (Zb (Zg (er1 h20)))
theorem Zdy (a0 : Zf) (r : Int) (h : M.J0 a0 = some r) : Fn Tryz.prog 162 [.agg (Zx a0)] (.pure (.int .i64 r)) := by
 let u1 : Nat × D := (3, sL 4 XG a0.Xb.Zl)
 let u2 : List Ob := [.box (Zx a0)]
 unfold M.J0 at h
 refine ZQ Tryz.func162 rfl (by kernel_rfl) (Za (zg [1] 1 (Zb (Za (zg [1, 3] 1 (Zb (Za (Za (zg [1, 3, 11] 1 (Zb (cn h (fun _ h2 => ?_) (fun _ h3 => ?_))))))))))))
 exact Za (zg [2] 0 (Zb (Zg (Zh (er1 h2)))))
 refine Ze (Zb (Za (Za (zg [1, 3, 4] 1 (Zb (Zj ?_))))))
 obtain ⟨y11, q42, h43⟩ := bind_some h3
 refine zl (fun (p1 : Int) => ⟨83, [(1, .ref 0 0), u1, (4, .int .i64 p1)], u2⟩) (Sum.elim (fun z => OutE 0 (fun z => ⟨83, [], []⟩) z) (fun z => OutR Tryz.prog Tryz.f162 (.int .i64 z))) q42 ?_ ?_
 intro p1 y2 h4
 unfold M.Q6 at h4
 refine Za (Za (zg [1, 3, 4, 15] 1 (Zb (cn h4 (fun _ h6 => ?_) (fun _ h7 => ?_)))))
 refine Ze (Zb (Za (Zj (Za (Za ?_)))))
 obtain ⟨r3, q8, h9⟩ := bind_some h6
 obtain ⟨c10, h11⟩ := ZA h9
 refine zr [1, 3, 4, 32] 1 c10 (rq2 (fun hg => XZ _ _ _ _ (Xc q8 hg)) rqn) (Zb (cn h11 (fun _ h13 => ?_) (fun _ h14 => ?_)))
 exact Za (zg [2] 0 (Zb (Zg (Zh (ZB (Zh (rr h13 ⟨rfl, er0 _⟩)))))))
 refine Ze (Zb (Za (Za ?_)))
 obtain ⟨r4, q15, h16⟩ := bind_some h14
 obtain ⟨r5, q17, h18⟩ := bind_some h16
 obtain ⟨c19, h20⟩ := ZA h18
 refine zr [1, 3, 4, 66] 1 c19 (rq2 (fun hg => G4 _ _ _ (Xc q15 hg)) (rq2 (fun hg => G4 _ _ _ (Xc q17 hg)) rqn)) (Zb (cn h20 (fun _ h22 => ?_) (fun _ h23 => ?_)))
 exact Za (zg [2] 0 (Zb (Zg (Zh (ZB (Zh (rr h22 ⟨rfl, er0 _⟩)))))))
 refine Ze (Zb (Za (zg [1, 3, 4, 5] 1 (Zb (Zj ?_)))))
 obtain ⟨y8, q33, h34⟩ := bind_some h23
 refine zl (fun (p6 : Int) => ⟨83, [(1, .ref 0 0), u1, (4, .int .i64 p1), (5, .int .i64 p6)], u2⟩) (Sum.elim (fun z => OutE 2 (fun z => ⟨83, [(1, .ref 0 0), u1, (4, .int .i64 p1)], u2⟩) z) (fun z => OutR Tryz.prog Tryz.f162 (.int .i64 z))) q33 ?_ ?_
 intro p6 y7 h24
 unfold M.Q5 at h24
 refine Za (Za (zg [1, 3, 4, 5, 69] 1 (Zb (cn h24 (fun _ h26 => ?_) (fun _ h27 => ?_)))))
 refine Ze (Zb (Za (Zj (Za ?_))))
 obtain ⟨c28, h29⟩ := ZA h26
 refine zc [1, 3, 4, 5, 82] 1 c28 (Zb (cn h29 (fun _ h31 => ?_) (fun _ h32 => ?_)))
 exact Za (zg [2] 0 (Zb (Zg (ZB (Zh (rr h31 ⟨rfl, er0 _⟩))))))
 exact Ze (XM (Zb (zg [1, 3, 4, 5] 1 (rn h32))))
 exact ZV (Xs (re h27 ⟨rfl, kq⟩))
 intro e35 s36 o37
 rcases y8 with g9 | y10
 have h38 := XP h34
 obtain ⟨rfl, l40⟩ := o37
 exact Qd (XM (XE (s' := ⟨83, [(1, .ref 0 0), u1, (4, .int .i64 p1)], u2⟩) (l40) (zg [1, 3, 4] 1 (rn h38))))
 have h39 := XQ h34
 obtain ⟨rfl, n41⟩ := o37
 exact ZB (ZB (Zh (rr h39 ⟨rfl, n41⟩)))
 exact ZV (Xs (re h7 ⟨rfl, kc⟩))
 intro e44 s45 o46
 rcases y11 with g12 | y13
 have h47 := XP h43
 exact zi o46 (Za (zg [2] 0 (Zb (Zg (er1 h47)))))
 have h48 := XQ h43
 obtain ⟨rfl, n50⟩ := o46
 refine ZB (Zh ?_)
 obtain rfl := Option.some.inj h48
 exact n50
theorem Zbe (a0 : Z4) (r : Int) (h : M.Q7 a0 = some r) : Fn Tryz.prog 163 [.agg (UJ a0)] (.pure (.int .i64 r)) := by
 let u1 : List Ob := [.box (UJ a0)]
 let u2 : St := ⟨126, [(1, .ref 0 0)], u1⟩
 unfold M.Q7 at h
 refine ZQ Tryz.func163 rfl (by kernel_rfl) (Za (zg [1] 1 (Zb (Za (Za (zg [1, 13] 1 (Zb (cn h (fun _ h2 => ?_) (fun _ h3 => ?_)))))))))
 exact Za (zg [2] 0 (Zb (Zg (Zh (er1 h2)))))
 refine Ze (Zb (Za (Za (zg [1, 3] 1 (Zb (Zj ?_))))))
 obtain ⟨y9, q33, h34⟩ := bind_some h3
 refine zl (fun (p1 : Int) => ⟨126, [(1, .ref 0 0), (3, .int .i64 p1)], u1⟩) (Sum.elim (fun z => OutE 0 (fun z => u2) z) (fun z => OutR Tryz.prog Tryz.f163 (.int .i64 z))) q33 ?_ ?_
 intro p1 y2 h4
 unfold M.Y5 at h4
 refine Za (Za (zg [1, 3, 18] 1 (Zb (cn h4 (fun _ h6 => ?_) (fun _ h7 => ?_)))))
 refine Ze (Zb (Za (Zj (Za (Za ?_)))))
 obtain ⟨r3, q8, h9⟩ := bind_some h6
 obtain ⟨c10, h11⟩ := ZA h9
 refine zr [1, 3, 27] 1 c10 (rq1 (W9 _ _ q8) rqn) (Zb (cn h11 (fun _ h13 => ?_) (fun _ h14 => ?_)))
 exact Za (zg [2] 0 (Zb (Zg (Zh (ZB (Zh (rr h13 ⟨rfl, er0 _⟩)))))))
 refine Ze (Zb (Za (zg [1, 3, 4] 1 (Zb (Zj ?_)))))
 obtain ⟨y6, q24, h25⟩ := bind_some h14
 refine zl (fun (p4 : Int) => ⟨126, [(1, .ref 0 0), (3, .int .i64 p1), (4, .int .i64 p4)], u1⟩) (Sum.elim (fun z => OutE 2 (fun z => ⟨126, [(1, .ref 0 0), (3, .int .i64 p1)], u1⟩) z) (fun z => OutR Tryz.prog Tryz.f163 (.int .i64 z))) q24 ?_ ?_
 intro p4 y5 h15
 unfold M.Qt at h15
 refine Za (Za (zg [1, 3, 4, 30] 1 (Zb (cn h15 (fun _ h17 => ?_) (fun _ h18 => ?_)))))
 refine Ze (Zb (Za (Zj (Za ?_))))
 obtain ⟨c19, h20⟩ := ZA h17
 refine zc [1, 3, 4, 43] 1 c19 (Zb (cn h20 (fun _ h22 => ?_) (fun _ h23 => ?_)))
 exact Za (zg [2] 0 (Zb (Zg (ZB (Zh (rr h22 ⟨rfl, er0 _⟩))))))
 exact Ze (XM (Zb (zg [1, 3, 4] 1 (rn h23))))
 exact ZV (Xs (re h18 ⟨rfl, kq⟩))
 intro e26 s27 o28
 rcases y6 with g7 | y8
 have h29 := XP h25
 obtain ⟨rfl, l31⟩ := o28
 exact Qd (XM (XE (s' := ⟨126, [(1, .ref 0 0), (3, .int .i64 p1)], u1⟩) (l31) (zg [1, 3] 1 (rn h29))))
 have h30 := XQ h25
 obtain ⟨rfl, n32⟩ := o28
 exact ZB (ZB (Zh (rr h30 ⟨rfl, n32⟩)))
 exact ZV (Xs (re h7 ⟨rfl, kq⟩))
 intro e35 s36 o37
 rcases y9 with g10 | y11
 have h38 := XP h34
 refine zi o37 (Za (Za (zg [1, 47] 1 (Zb (cn h38 (fun _ h42 => ?_) (fun _ h43 => ?_))))))
 exact Za (zg [2] 0 (Zb (Zg (Zh (er1 h42)))))
 refine Ze (Zb (Za (Za (zg [1, 5] 1 (Zb (Zj ?_))))))
 obtain ⟨y20, q73, h74⟩ := bind_some h43
 refine zl (fun (p12 : Int) => ⟨126, [(1, .ref 0 0), (5, .int .i64 p12)], u1⟩) (Sum.elim (fun z => OutE 4 (fun z => u2) z) (fun z => OutR Tryz.prog Tryz.f163 (.int .i64 z))) q73 ?_ ?_
 intro p12 y13 h44
 unfold M.Y7 at h44
 refine Za (Za (zg [1, 5, 52] 1 (Zb (cn h44 (fun _ h46 => ?_) (fun _ h47 => ?_)))))
 refine Ze (Zb (Za (Zj (Za (Za ?_)))))
 obtain ⟨r14, q48, h49⟩ := bind_some h46
 obtain ⟨c50, h51⟩ := ZA h49
 refine zr [1, 5, 62] 1 c50 (rq1 (W9 _ _ q48) rqn) (Zb (cn h51 (fun _ h53 => ?_) (fun _ h54 => ?_)))
 exact Za (zg [2] 0 (Zb (Zg (Zh (ZB (Zh (rr h53 ⟨rfl, er0 _⟩)))))))
 refine Ze (Zb (Za (zg [1, 5, 6] 1 (Zb (Zj ?_)))))
 obtain ⟨y17, q64, h65⟩ := bind_some h54
 refine zl (fun (p15 : Int) => ⟨126, [(1, .ref 0 0), (5, .int .i64 p12), (6, .int .i64 p15)], u1⟩) (Sum.elim (fun z => OutE 6 (fun z => ⟨126, [(1, .ref 0 0), (5, .int .i64 p12)], u1⟩) z) (fun z => OutR Tryz.prog Tryz.f163 (.int .i64 z))) q64 ?_ ?_
 intro p15 y16 h55
 unfold M.Y6 at h55
 refine Za (Za (zg [1, 5, 6, 65] 1 (Zb (cn h55 (fun _ h57 => ?_) (fun _ h58 => ?_)))))
 refine Ze (Zb (Za (Zj (Za ?_))))
 obtain ⟨c59, h60⟩ := ZA h57
 refine zc [1, 5, 6, 80] 1 c59 (Zb (cn h60 (fun _ h62 => ?_) (fun _ h63 => ?_)))
 exact Za (zg [2] 0 (Zb (Zg (ZB (Zh (rr h62 ⟨rfl, er0 _⟩))))))
 exact Ze (XM (Zb (zg [1, 5, 6] 1 (rn h63))))
 exact ZV (Xs (re h58 ⟨rfl, kq⟩))
 intro e66 s67 o68
 rcases y17 with g18 | y19
 have h69 := XP h65
 obtain ⟨rfl, l71⟩ := o68
 exact Qd (XM (XE (s' := ⟨126, [(1, .ref 0 0), (5, .int .i64 p12)], u1⟩) (l71) (zg [1, 5] 1 (rn h69))))
 have h70 := XQ h65
 obtain ⟨rfl, n72⟩ := o68
 exact ZB (ZB (Zh (rr h70 ⟨rfl, n72⟩)))
 exact ZV (Xs (re h47 ⟨rfl, kq⟩))
 intro e75 s76 o77
 rcases y20 with g21 | y22
 have h78 := XP h74
 refine zi o77 (Za (Za (zg [1, 84] 1 (Zb (cn h78 (fun _ h82 => ?_) (fun _ h83 => ?_))))))
 exact Za (zg [2] 0 (Zb (Zg (Zh (er1 h82)))))
 refine Ze (Zb (Za (Za (zg [1, 7] 1 (Zb (Zj ?_))))))
 obtain ⟨y32, q118, h119⟩ := bind_some h83
 refine zl (fun (p23 : Int) => ⟨126, [(1, .ref 0 0), (7, .int .i64 p23)], u1⟩) (Sum.elim (fun z => OutE 8 (fun z => ⟨126, [], []⟩) z) (fun z => OutR Tryz.prog Tryz.f163 (.int .i64 z))) q118 ?_ ?_
 intro p23 y24 h84
 unfold M.Y9 at h84
 refine Za (Za (zg [1, 7, 89] 1 (Zb (cn h84 (fun _ h86 => ?_) (fun _ h87 => ?_)))))
 refine Ze (Zb (Za (Zj (Za ?_))))
 obtain ⟨c88, h89⟩ := ZA h86
 refine zc [1, 7, 8] 2 c88 (Zb (Za (Za ?_)))
 obtain ⟨r25, q90, h91⟩ := bind_some h89
 obtain ⟨r26, q92, h93⟩ := bind_some h91
 refine zr [1, 7, 8, 106] 2 Zw (rq1 (W9 _ _ q90) (rq2 (fun hg => W9 _ _ (Xc q92 hg)) rqn)) (Zb (cn h93 (fun _ h95 => ?_) (fun _ h96 => ?_)))
 exact Za (zg [2] 0 (Zb (Zg (Zh (ZB (Zh (rr h95 ⟨rfl, er0 _⟩)))))))
 refine Ze (Zb (Za (Za (zg [1, 7, 8, 111] 2 (Zb (cn h96 (fun _ h98 => ?_) (fun _ h99 => ?_)))))))
 exact Za (zg [2] 0 (Zb (Zg (Zh (ZB (Zh (rr h98 ⟨rfl, er0 _⟩)))))))
 refine Ze (Zb (Za (zg [1, 7, 8, 9] 2 (Zb (Zj ?_)))))
 obtain ⟨y29, q109, h110⟩ := bind_some h99
 refine zl (fun (p27 : Int) => ⟨126, [(1, .ref 0 0), (7, .int .i64 p23), (8, .ref 1 0), (9, .int .i64 p27)], [.box (UJ a0), .box (Xu (a0.Zo.getD p23.toNat default))]⟩) (Sum.elim (fun z => OutE 10 (fun z => ⟨126, [(1, .ref 0 0), (7, .int .i64 p23)], u1⟩) z) (fun z => OutR Tryz.prog Tryz.f163 (.int .i64 z))) q109 ?_ ?_
 intro p27 y28 h100
 unfold M.Y8 at h100
 refine Za (Za (zg [1, 7, 8, 9, 114] 2 (Zb (cn h100 (fun _ h102 => ?_) (fun _ h103 => ?_)))))
 refine Ze (Zb (Za (Zj (Za ?_))))
 obtain ⟨c104, h105⟩ := ZA h102
 refine zc [1, 7, 8, 9, 125] 2 c104 (Zb (cn h105 (fun _ h107 => ?_) (fun _ h108 => ?_)))
 exact Za (zg [2] 0 (Zb (Zg (ZB (Zh (rr h107 ⟨rfl, er0 _⟩))))))
 exact Ze (XM (Zb (zg [1, 7, 8, 9] 2 (rn h108))))
 exact ZV (Xs (re h103 ⟨rfl, kc⟩))
 intro e111 s112 o113
 rcases y29 with g30 | y31
 have h114 := XP h110
 obtain ⟨rfl, l116⟩ := o113
 exact Qd (XM (XE (s' := ⟨126, [(1, .ref 0 0), (7, .int .i64 p23)], u1⟩) (l116) (zg [1, 7] 1 (rn h114))))
 have h115 := XQ h110
 obtain ⟨rfl, n117⟩ := o113
 exact ZB (ZB (Zh (rr h115 ⟨rfl, n117⟩)))
 exact ZV (Xs (re h87 ⟨rfl, kc⟩))
 intro e120 s121 o122
 rcases y32 with g33 | y34
 have h123 := XP h119
 exact zi o122 (Za (zg [2] 0 (Zb (Zg (er1 h123)))))
 have h124 := XQ h119
 obtain ⟨rfl, n126⟩ := o122
 refine ZB (Zh ?_)
 obtain rfl := Option.some.inj h124
 exact n126
 have h79 := XQ h74
 obtain ⟨rfl, n127⟩ := o77
 refine ZB (Zh ?_)
 obtain rfl := Option.some.inj h79
 exact n127
 have h39 := XQ h34
 obtain ⟨rfl, n128⟩ := o37
 refine ZB (Zh ?_)
 obtain rfl := Option.some.inj h39
 exact n128
theorem ZcK (a0 : Zf) (r : Int) (h : M.Jq a0 = some r) : Fn Tryz.prog 112 [.agg (Zx a0)] (.pure (.int .i64 r)) := by
 unfold M.Jq at h
 refine ZQ Tryz.func112 rfl (by kernel_rfl) (Za (zg [1] 1 (Zb (Za (zg [1, 3] 2 (Zb (Za (Za (zg [1, 3, 10] 2 (Zb (cn h (fun _ h2 => ?_) (fun _ h3 => ?_))))))))))))
 refine Za (Za (zg [40] 0 (Zb (cn h2 (fun _ h5 => ?_) (fun _ h6 => ?_)))))
 exact Za (zg [2] 0 (Zb (Zg (Zh (Zh (er1 h5))))))
 exact Ze (Zb (Za (zg [2] 0 (Zb (Zg (Zh (er1 h6)))))))
 refine Ze (Zb (Za (Za ?_)))
 obtain ⟨r1, q7, h8⟩ := bind_some h3
 obtain ⟨r2, q9, h10⟩ := bind_some h8
 refine zr [1, 3, 55] 2 Zw (rq2 (fun hg => XZ _ _ _ _ (Xc q7 hg)) (rq2 (fun hg => XZ _ _ _ _ (Xc q9 hg)) rqn)) (Zb (cn h10 (fun _ h12 => ?_) (fun _ h13 => ?_)))
 exact Za (zg [2] 0 (Zb (Zg (Zh (er1 h12)))))
 refine Ze (Zb (Za (Za ?_)))
 obtain ⟨r3, q14, h15⟩ := bind_some h13
 refine zr [1, 3, 4] 2 Zw (rq1 (Zdy _ _ q14) rqn) (Zb (Za (zg [1, 3, 4, 59] 2 (Zb (cn h15 (fun _ h17 => ?_) (fun _ h18 => ?_))))))
 exact Za (zg [2] 0 (Zb (Zg (Zh (er1 h17)))))
 refine Ze (Zb (Za (Za ?_)))
 obtain ⟨r4, q19, h20⟩ := bind_some h18
 refine zr [1, 3, 5] 2 Zw (rq1 (Zbe _ _ q19) rqn) (Zb (Za (zg [1, 3, 5, 64] 2 (Zb (cn h20 (fun _ h22 => ?_) (fun _ h23 => ?_))))))
 exact Za (zg [2] 0 (Zb (Zg (Zh (er1 h22)))))
 refine Ze (Zb (Za ?_))
 obtain ⟨r5, q24, h25⟩ := bind_some h23
 exact zr [2] 0 Zw (rq1 (Up _ _ _ _ _ _ q24) rqn) (Zb (Zg (er1 h25)))
theorem ZbW (a0 : Zf) (r : Int) (h : M.QV a0 = some r) : Fn Tryz.prog 65 [.agg (Zx a0)] (.pure (.int .i64 r)) := by
 unfold M.QV at h
 refine ZQ Tryz.func65 rfl (by kernel_rfl) (Za (zg [1] 1 (Zb (Za (Za ?_)))))
 obtain ⟨r1, q1, h2⟩ := bind_some h
 refine zr [1, 8] 1 Zw (rq1 (GQ _ _ q1) rqn) (Zb (cn h2 (fun _ h4 => ?_) (fun _ h5 => ?_)))
 exact Za (zg [2] 0 (Zb (Zg (Zh (er1 h4)))))
 refine Ze (Zb (Za (Za ?_)))
 obtain ⟨r2, q6, h7⟩ := bind_some h5
 refine zr [1, 12] 1 Zw (rq1 (XZ _ _ _ _ q6) rqn) (Zb (cn h7 (fun _ h9 => ?_) (fun _ h10 => ?_)))
 exact Za (zg [2] 0 (Zb (Zg (Zh (er1 h9)))))
 refine Ze (Zb (Za ?_))
 obtain ⟨r3, q11, h12⟩ := bind_some h10
 obtain ⟨r4, q13, h14⟩ := bind_some h12
 obtain ⟨r5, q15, h16⟩ := bind_some h14
 obtain ⟨r6, q17, h18⟩ := bind_some h16
 obtain ⟨r7, q19, h20⟩ := bind_some h18
 obtain ⟨r8, q21, h22⟩ := bind_some h20
 obtain ⟨r9, q23, h24⟩ := bind_some h22
 obtain ⟨r10, q25, h26⟩ := bind_some h24
 obtain ⟨r11, q27, h28⟩ := bind_some h26
 obtain ⟨r12, q29, h30⟩ := bind_some h28
 refine rg [.pure (.int .i64 r3), .pure (.int .i64 r4), .pure (.int .i64 r5), .pure (.int .i64 r6), .pure (.int .i64 r7), .pure (.int .i64 r8), .pure (.int .i64 r9), .pure (.int .i64 r10), .pure (.int .i64 r11), .pure (.int .i64 r12)] [3] 0 ⟨52, [(3, .sl true 1 10 (fun i => List.take 1 (List.drop (i * 1) [.int .i64 r3, .int .i64 r4, .int .i64 r5, .int .i64 r6, .int .i64 r7, .int .i64 r8, .int .i64 r9, .int .i64 r10, .int .i64 r11, .int .i64 r12])))], []⟩ [] [⟨true, 103, [sL 12 Zn a0.Zc], .pure (.int .i64 r3)⟩, ⟨true, 104, [sL 2 ZC a0.Xk], .pure (.int .i64 r4)⟩, ⟨true, 105, [.agg (Zx a0)], .pure (.int .i64 r5)⟩, ⟨true, 106, [sL 2 Qb a0.XO], .pure (.int .i64 r6)⟩, ⟨true, 107, [.agg (Zx a0)], .pure (.int .i64 r7)⟩, ⟨true, 108, [.agg (Zx a0)], .pure (.int .i64 r8)⟩, ⟨true, 109, [.agg (Zx a0)], .pure (.int .i64 r9)⟩, ⟨true, 110, [.agg (Zx a0)], .pure (.int .i64 r10)⟩, ⟨true, 111, [.agg (Zx a0)], .pure (.int .i64 r11)⟩, ⟨true, 112, [.agg (Zx a0)], .pure (.int .i64 r12)⟩] Zw ⟨fun _ => ZcJ a0.Zc r3 q11, fun _ => ZbU a0.Xk r4 q13, fun _ => Zdu a0 r5 q15, fun _ => ZbV a0.XO r6 q17, fun _ => Zbd a0 r7 q19, fun _ => Zez a0 r8 q21, fun _ => ZeA a0 r9 q23, fun _ => Zdx a0 r10 q25, fun _ => Zd5 a0 r11 q27, fun _ => ZcK a0 r12 q29, trivial⟩ (XE (s' := ⟨52, [(3, sL 1 (ci .i64) ([r3, r4, r5, r6, r7, r8, r9, r10, r11, r12] : List Int))], []⟩) (VX (.cons (Uv rfl (fun i hi => match i, hi with | 0, _ => rfl | 1, _ => rfl | 2, _ => rfl | 3, _ => rfl | 4, _ => rfl | 5, _ => rfl | 6, _ => rfl | 7, _ => rfl | 8, _ => rfl | 9, _ => rfl | n + 10, h => absurd h (by omega))) .nil) .nil) (Za (Za (zg [3, 4] 0 (Zb (Zj ?_))))))
 obtain ⟨y15, q42, h43⟩ := bind_some h30
 refine zl (fun (p13 : Int) => ⟨52, [(3, sL 1 (ci .i64) ([r3, r4, r5, r6, r7, r8, r9, r10, r11, r12] : List Int)), (4, .int .i64 p13)], []⟩) (Sum.elim (fun z => OutE 0 (fun z => ⟨52, [], []⟩) z) (fun z => OutR Tryz.prog Tryz.f65 (.int .i64 z))) q42 ?_ ?_
 intro p13 y14 h31
 unfold M.Jh at h31
 refine Za (Za (zg [3, 4, 40] 0 (Zb (cn h31 (fun _ h33 => ?_) (fun _ h34 => ?_)))))
 refine Ze (Zb (Za (Zj (Za ?_))))
 obtain ⟨c35, h36⟩ := ZA h33
 refine zc [3, 4, 47] 0 c35 (Zb (cn h36 (fun _ h38 => ?_) (fun _ h39 => ?_)))
 refine Za ?_
 obtain ⟨c40, h41⟩ := ZA h38
 exact zc [2] 0 c40 (Zb (Zg (ZB (Zh (rr h41 ⟨rfl, er0 _⟩)))))
 exact Ze (XM (Zb (zg [3, 4] 0 (rn h39))))
 exact ZV (Xs (re h34 ⟨rfl, kq⟩))
 intro e44 s45 o46
 rcases y15 with g16 | y17
 have h47 := XP h43
 exact zi o46 (Za (zg [2] 0 (Zb (Zg (er1 h47)))))
 have h48 := XQ h43
 obtain ⟨rfl, n50⟩ := o46
 refine ZB (Zh ?_)
 obtain rfl := Option.some.inj h48
 exact n50
theorem Zf3 (a0 : ZX) (r : Int) (h : M.V9 a0 = some r) : Fn Tryz.prog 44 [.agg (Yg a0)] (.pure (.int .i64 r)) := by
 let u1 : List Ob := [.box (Yg a0)]
 unfold M.V9 at h
 refine ZQ Tryz.func44 rfl (by kernel_rfl) (Za (zg [1] 1 (Zb (Za (Za (zg [1, 12] 1 (Zb (cn h (fun _ h2 => ?_) (fun _ h3 => ?_)))))))))
 exact Za (zg [2] 0 (Zb (Zg (Zh (er1 h2)))))
 refine Ze (Zb (Za (Za (zg [1, 3] 1 (Zb (Zj ?_))))))
 obtain ⟨y20, q70, h71⟩ := bind_some h3
 refine zl (fun (p1 : Int) => ⟨86, [(1, .ref 0 0), (3, .int .i64 p1)], u1⟩) (Sum.elim (fun z => OutE 0 (fun z => ⟨86, [], []⟩) z) (fun z => OutR Tryz.prog Tryz.f44 (.int .i64 z))) q70 ?_ ?_
 intro p1 y2 h4
 unfold M.Vx at h4
 refine Za (Za (zg [1, 3, 17] 1 (Zb (cn h4 (fun _ h6 => ?_) (fun _ h7 => ?_)))))
 refine Ze (Zb (Za (Zj (Za (Za ?_)))))
 obtain ⟨r3, q8, h9⟩ := bind_some h6
 obtain ⟨c10, h11⟩ := ZA h9
 refine zr [1, 3, 4] 1 c10 (rq1 (ZbW _ _ q8) rqn) (Zb (Za (zg [1, 3, 4, 27] 1 (Zb (cn h11 (fun _ h13 => ?_) (fun _ h14 => ?_))))))
 exact Za (zg [2] 0 (Zb (Zg (Zh (ZB (Zh (rr h13 ⟨rfl, er0 _⟩)))))))
 refine Ze (Zb (Za (Za (zg [1, 3, 5] 1 (Zb (Zj ?_))))))
 obtain ⟨y6, q24, h25⟩ := bind_some h14
 refine zl (fun (p4 : Int) => ⟨86, [(1, .ref 0 0), (3, .int .i64 p1), (5, .int .i64 p4)], u1⟩) (Sum.elim (fun z => OutE 2 (fun z => ⟨86, [(1, .ref 0 0), (3, .int .i64 p1)], u1⟩) z) (fun z => OutR Tryz.prog Tryz.f44 (.int .i64 z))) q24 ?_ ?_
 intro p4 y5 h15
 unfold M.VW at h15
 refine Za (Za (zg [1, 3, 5, 31] 1 (Zb (cn h15 (fun _ h17 => ?_) (fun _ h18 => ?_)))))
 refine Ze (Zb (Za (Zj (Za ?_))))
 obtain ⟨c19, h20⟩ := ZA h17
 refine zc [1, 3, 5, 46] 1 c19 (Zb (cn h20 (fun _ h22 => ?_) (fun _ h23 => ?_)))
 exact Za (zg [2] 0 (Zb (Zg (ZB (Zh (rr h22 ⟨rfl, er0 _⟩))))))
 exact Ze (XM (Zb (zg [1, 3, 5] 1 (rn h23))))
 exact ZV (Xs (re h18 ⟨rfl, kq⟩))
 intro e26 s27 o28
 rcases y6 with g7 | y8
 have h29 := XP h25
 refine zi o28 (Za (zg [1, 3, 6] 1 (Zb (Zj ?_))))
 obtain ⟨y17, q60, h61⟩ := bind_some h29
 refine zl (fun (p9 : Int) => ⟨86, [(1, .ref 0 0), (3, .int .i64 p1), (6, .int .i64 p9)], u1⟩) (Sum.elim (fun z => OutE 4 (fun z => ⟨86, [(1, .ref 0 0), (3, .int .i64 p1)], u1⟩) z) (fun z => OutR Tryz.prog Tryz.f44 (.int .i64 z))) q60 ?_ ?_
 intro p9 y10 h32
 unfold M.Vw at h32
 refine Za (Za ?_)
 obtain ⟨c33, h34⟩ := ZA h32
 refine zc [1, 3, 6, 55] 1 c33 (Zb (cn h34 (fun _ h36 => ?_) (fun _ h37 => ?_)))
 refine Ze (Zb (Za (Zj (Za ?_))))
 obtain ⟨c38, h39⟩ := ZA h36
 refine zc [1, 3, 6, 7] 2 c38 (Zb (Za (zg [1, 3, 6, 7, 8] 2 (Zb (Zj ?_)))))
 obtain ⟨y14, q51, h52⟩ := bind_some h39
 refine zl (fun (p11 : Int) => ⟨86, [(1, .ref 0 0), (3, .int .i64 p1), (6, .int .i64 p9), (7, .ref 1 0), (8, .int .i64 p11)], [.box (Yg a0), .box (Zn (((a0.Zd.getD p1.toNat default).Zc).getD p9.toNat default))]⟩) (Sum.elim (fun z => OutE 6 (fun z => ⟨86, [(1, .ref 0 0), (3, .int .i64 p1), (6, .int .i64 p9)], u1⟩) z) (fun z => OutR Tryz.prog Tryz.f44 (.int .i64 z))) q51 ?_ ?_
 intro p11 y12 h40
 unfold M.Vv at h40
 refine Za (Za (zg [1, 3, 6, 7, 8, 69] 2 (Zb (cn h40 (fun _ h42 => ?_) (fun _ h43 => ?_)))))
 refine Ze (Zb (Za (Zj (Za ?_))))
 obtain ⟨r13, q44, h45⟩ := bind_some h42
 obtain ⟨c46, h47⟩ := ZA h45
 refine zr [1, 3, 6, 7, 8, 85] 2 c46 (rq2 (fun hg => Zas _ _ _ (Xc q44 hg)) rqn) (Zb (cn h47 (fun _ h49 => ?_) (fun _ h50 => ?_)))
 exact Za (zg [2] 0 (Zb (Zg (ZB (Zh (rr h49 ⟨rfl, er0 _⟩))))))
 exact Ze (XM (Zb (zg [1, 3, 6, 7, 8] 2 (rn h50))))
 exact ZV (Xs (re h43 ⟨rfl, kc⟩))
 intro e53 s54 o55
 rcases y14 with g15 | y16
 have h56 := XP h52
 obtain ⟨rfl, l58⟩ := o55
 exact Qd (XM (XE (s' := ⟨86, [(1, .ref 0 0), (3, .int .i64 p1), (6, .int .i64 p9)], u1⟩) (l58) (zg [1, 3, 6] 1 (rn h56))))
 have h57 := XQ h52
 obtain ⟨rfl, n59⟩ := o55
 exact ZB (ZB (Zh (rr h57 ⟨rfl, n59⟩)))
 exact ZV (Xs (re h37 ⟨rfl, kq⟩))
 intro e62 s63 o64
 rcases y17 with g18 | y19
 have h65 := XP h61
 obtain ⟨rfl, l67⟩ := o64
 exact Qd (XM (XE (s' := ⟨86, [(1, .ref 0 0), (3, .int .i64 p1)], u1⟩) (l67) (zg [1, 3] 1 (rn h65))))
 have h66 := XQ h61
 obtain ⟨rfl, n68⟩ := o64
 exact ZB (ZB (Zh (rr h66 ⟨rfl, n68⟩)))
 have h30 := XQ h25
 obtain ⟨rfl, n69⟩ := o28
 exact ZB (Zh (ZB (Zh (rr h30 ⟨rfl, n69⟩))))
 exact ZV (Xs (re h7 ⟨rfl, kc⟩))
 intro e72 s73 o74
 rcases y20 with g21 | y22
 have h75 := XP h71
 exact zi o74 (Za (zg [2] 0 (Zb (Zg (er1 h75)))))
 have h76 := XQ h71
 obtain ⟨rfl, n78⟩ := o74
 refine ZB (Zh ?_)
 obtain rfl := Option.some.inj h76
 exact n78
theorem ZeB (a0 : ZL) (a1 : ZL) (r : Int) (h : M.Wn a0 a1 = some r) : Fn Tryz.prog 46 [.agg (Z9 a0), .agg (Z9 a1)] (.pure (.int .i64 r)) := by
 unfold M.Wn at h
 refine ZQ Tryz.func46 rfl (by kernel_rfl) (Za (zg [2, 3] 2 (Zb (Za (Za (zg [2, 3, 23] 2 (Zb (cn h (fun _ h2 => ?_) (fun _ h3 => ?_)))))))))
 exact Za (zg [4] 0 (Zb (Zg (Zh (er1 h2)))))
 refine Ze (Zb (Za (Za (zg [26] 0 (Zb (cn h3 (fun _ h5 => ?_) (fun _ h6 => ?_)))))))
 exact Za (zg [4] 0 (Zb (Zg (Zh (er1 h5)))))
 exact Ze (Zb (Za (zg [4] 0 (Zb (Zg (er1 h6))))))
end Nv
