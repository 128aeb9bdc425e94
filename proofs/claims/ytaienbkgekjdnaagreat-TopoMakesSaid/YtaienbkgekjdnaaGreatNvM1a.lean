/- The walks: each function computes its mirror. -/
import Derived.Test.YtaienbkgekjdnaaGreatProg
import Derived.Test.YtaienbkgekjdnaaGreatNvD1
import Derived.Test.YtaienbkgekjdnaaGreatNvLibC
import Derived.Test.YtaienbkgekjdnaaGreatNvLibB
import Derived.KernelRfl
import Derived.Ground.SlsfProg
import Derived.Shelf.Lay
import Derived.Test.YtaienbkgekjdnaaGreatNvLibD
set_option maxRecDepth 100000
namespace Nv
open Go Go.Proofs
theorem Zg5 (a0 : Zf) (r : Bool) (h : M.VX a0 = some r) : Fn Tryz.prog 36 [.agg (Zu a0)] (.pure (.bool r)) := by
 let u1 : List Ob := [.box (Zu a0)]
 let u2 : St := ⟨141,[(1,.ref 0 0)],u1⟩
 unfold M.VX at h
 refine ZL Tryz.func36 rfl (by kernel_rfl) (Za (zg [1] 1 (Zb (Za (Za (zg [1,95] 1 (Zb (cn h (fun _ h2 => ?_) (fun _ h3 => ?_)))))))))
 exact Za (zg [2] 0 (Zb (Zg (Zh (er1 h2)))))
 refine Zd (Zb (Za (Za (zg [1,3] 1 (Zb (Zi ?_))))))
 obtain ⟨y3,q13,h14⟩ := bind_some h3
 refine zl (fun (p1 : Int) => ⟨141,[(1,.ref 0 0),(3,.int .i64 p1)],u1⟩) (Sum.elim (fun z => OutE 0 (fun z => u2) z) (fun z => OutR Tryz.prog Tryz.f36 (.bool z))) q13 ?_ ?_
 intro p1 y2 h4
 unfold M.WH at h4
 refine Za (Za (zg [1,3,100] 1 (Zb (cn h4 (fun _ h6 => ?_) (fun _ h7 => ?_)))))
 refine Zd (Zb (Za (Zi (Za ?_))))
 obtain ⟨c8,h9⟩ := Zz h6
 refine zc [1,3,110] 1 c8 (Zb (cn h9 (fun _ h11 => ?_) (fun _ h12 => ?_)))
 exact Za (zg [2] 0 (Zb (Zg (ZC (Zh (rr h11 ⟨rfl,er0 _⟩))))))
 exact Zd (XK (Zb (zg [1,3] 1 (rn h12))))
 exact ZH (Xn (re h7 ⟨rfl,kq⟩))
 intro e15 s16 o17
 rcases y3 with g4 | y5
 have h18 := XG h14
 refine zi o17 (Za (Za (zg [1,4] 1 (Zb (Zi ?_)))))
 obtain ⟨y8,q30,h31⟩ := bind_some h18
 refine zl (fun (p6 : Int) => ⟨141,[(1,.ref 0 0),(4,.int .i64 p6)],u1⟩) (Sum.elim (fun z => OutE 2 (fun z => u2) z) (fun z => OutR Tryz.prog Tryz.f36 (.bool z))) q30 ?_ ?_
 intro p6 y7 h21
 unfold M.WI at h21
 refine Za (Za (zg [1,4,115] 1 (Zb (cn h21 (fun _ h23 => ?_) (fun _ h24 => ?_)))))
 refine Zd (Zb (Za (Zi (Za ?_))))
 obtain ⟨c25,h26⟩ := Zz h23
 refine zc [1,4,125] 1 c25 (Zb (cn h26 (fun _ h28 => ?_) (fun _ h29 => ?_)))
 exact Za (zg [2] 0 (Zb (Zg (ZC (Zh (rr h28 ⟨rfl,er0 _⟩))))))
 exact Zd (XK (Zb (zg [1,4] 1 (rn h29))))
 exact ZH (Xn (re h24 ⟨rfl,kq⟩))
 intro e32 s33 o34
 rcases y8 with g9 | y10
 have h35 := XG h31
 refine zi o34 (Za (Za (zg [1,5] 1 (Zb (Zi ?_)))))
 obtain ⟨y13,q47,h48⟩ := bind_some h35
 refine zl (fun (p11 : Int) => ⟨141,[(1,.ref 0 0),(5,.int .i64 p11)],u1⟩) (Sum.elim (fun z => OutE 4 (fun z => ⟨141,[],[]⟩) z) (fun z => OutR Tryz.prog Tryz.f36 (.bool z))) q47 ?_ ?_
 intro p11 y12 h38
 unfold M.WJ at h38
 refine Za (Za (zg [1,5,130] 1 (Zb (cn h38 (fun _ h40 => ?_) (fun _ h41 => ?_)))))
 refine Zd (Zb (Za (Zi (Za ?_))))
 obtain ⟨c42,h43⟩ := Zz h40
 refine zc [1,5,140] 1 c42 (Zb (cn h43 (fun _ h45 => ?_) (fun _ h46 => ?_)))
 exact Za (zg [2] 0 (Zb (Zg (ZC (Zh (rr h45 ⟨rfl,er0 _⟩))))))
 exact Zd (XK (Zb (zg [1,5] 1 (rn h46))))
 exact ZH (Xn (re h41 ⟨rfl,kc⟩))
 intro e49 s50 o51
 rcases y13 with g14 | y15
 have h52 := XG h48
 exact zi o51 (Za (zg [2] 0 (Zb (Zg (er1 h52)))))
 have h53 := XH h48
 obtain ⟨rfl,n55⟩ := o51
 refine ZC (Zh ?_)
 obtain rfl := Option.some.inj h53
 exact n55
 have h36 := XH h31
 obtain ⟨rfl,n56⟩ := o34
 refine ZC (Zh ?_)
 obtain rfl := Option.some.inj h36
 exact n56
 have h19 := XH h14
 obtain ⟨rfl,n57⟩ := o17
 refine ZC (Zh ?_)
 obtain rfl := Option.some.inj h19
 exact n57
theorem ZgI (a0 : ZG) (r : Bool) (h : M.VD a0 = some r) : Fn Tryz.prog 11 [.agg (X3 a0)] (.pure (.bool r)) := by
 unfold M.VD at h
 refine ZL Tryz.func11 rfl (by kernel_rfl) (Za (zg [1] 1 (Zb (Za (Za (zg [1,7] 1 (Zb (cn h (fun _ h2 => ?_) (fun _ h3 => ?_)))))))))
 exact Za (zg [2] 0 (Zb (Zg (Zh (er1 h2)))))
 refine Zd (Zb (Za (Za (zg [1,3] 1 (Zb (Zi ?_))))))
 obtain ⟨y4,q15,h16⟩ := bind_some h3
 refine zl (fun (p1 : Int) => ⟨22,[(1,.ref 0 0),(3,.int .i64 p1)],[.box (X3 a0)]⟩) (Sum.elim (fun z => OutE 0 (fun z => ⟨22,[],[]⟩) z) (fun z => OutR Tryz.prog Tryz.f11 (.bool z))) q15 ?_ ?_
 intro p1 y2 h4
 unfold M.Y4 at h4
 refine Za (Za (zg [1,3,12] 1 (Zb (cn h4 (fun _ h6 => ?_) (fun _ h7 => ?_)))))
 refine Zd (Zb (Za (Zi (Za ?_))))
 obtain ⟨r3,q8,h9⟩ := bind_some h6
 obtain ⟨c10,h11⟩ := Zz h9
 refine zr [1,3,21] 1 c10 (rq1 (Zg5 _ _ q8) rqn) (Zb (cn h11 (fun _ h13 => ?_) (fun _ h14 => ?_)))
 exact Za (zg [2] 0 (Zb (Zg (ZC (Zh (rr h13 ⟨rfl,er0 _⟩))))))
 exact Zd (XK (Zb (zg [1,3] 1 (rn h14))))
 exact ZH (Xn (re h7 ⟨rfl,kc⟩))
 intro e17 s18 o19
 rcases y4 with g5 | y6
 have h20 := XG h16
 exact zi o19 (Za (zg [2] 0 (Zb (Zg (er1 h20)))))
 have h21 := XH h16
 obtain ⟨rfl,n23⟩ := o19
 refine ZC (Zh ?_)
 obtain rfl := Option.some.inj h21
 exact n23
theorem Zb4 (a0 : Int) (r : Bool) (h : M.V3 a0 = some r) : Fn Tryz.prog 129 [.int .u8 a0] (.pure (.bool r)) := by
 unfold M.V3 at h
 exact ZL Tryz.func129 rfl (by kernel_rfl) (Za (zg [0] 0 (Zb (Za (zg [2] 0 (Zb (Zg (er1 h))))))))
theorem Zg6 (a0 : Int) (r : Bool) (h : M.UE a0 = some r) : Fn Tryz.prog 130 [.int .u8 a0] (.pure (.bool r)) := by
 unfold M.UE at h
 exact ZL Tryz.func130 rfl (by kernel_rfl) (Za (zg [0] 0 (Zb (Za (zg [2] 0 (Zb (Zg (er1 h))))))))
theorem ZaS (a0 : ByteArray) (r : Bool) (h : M.WD a0 = some r) : Fn Tryz.prog 73 [.str a0] (.pure (.bool r)) := by
 unfold M.WD at h
 refine ZL Tryz.func73 rfl (by kernel_rfl) (Za (zg [0] 0 (Zb (Za (Za ?_)))))
 obtain ⟨r1,q1,h2⟩ := bind_some h
 obtain ⟨c3,h4⟩ := Zz h2
 refine zr [0,18] 0 c3 (rq2 (fun hg => Zb4 _ _ (Xj q1 hg)) rqn) (Zb (cn h4 (fun _ h6 => ?_) (fun _ h7 => ?_)))
 exact Za (zg [2] 0 (Zb (Zg (Zh (er1 h6)))))
 refine Zd (Zb (Za (Za (zg [0,3] 0 (Zb (Zi ?_))))))
 obtain ⟨y6,q21,h22⟩ := bind_some h7
 refine zl (fun (p2 : Int) => ⟨52,[(0,.str a0),(3,.int .i64 p2)],[]⟩) (Sum.elim (fun z => OutE 0 (fun z => ⟨52,[],[]⟩) z) (fun z => OutR Tryz.prog Tryz.f73 (.bool z))) q21 ?_ ?_
 intro p2 y3 h8
 unfold M.Wh at h8
 refine Za (Za (zg [0,3,22] 0 (Zb (cn h8 (fun _ h10 => ?_) (fun _ h11 => ?_)))))
 refine Zd (Zb (Za (Zi (Za ?_))))
 obtain ⟨c12,h13⟩ := Zz h10
 refine zc [0,3,4] 0 c12 (Zb (Za ?_))
 obtain ⟨r4,q14,h15⟩ := bind_some h13
 obtain ⟨r5,q16,h17⟩ := bind_some h15
 refine zr [0,3,51] 0 ZA (rq1 (Zb4 _ _ q14) (rq2 (fun hg => Zg6 _ _ (Xj q16 hg)) rqn)) (Zb (cn h17 (fun _ h19 => ?_) (fun _ h20 => ?_)))
 exact Za (zg [2] 0 (Zb (Zg (ZC (Zh (rr h19 ⟨rfl,er0 _⟩))))))
 exact Zd (XK (Zb (zg [0,3] 0 (rn h20))))
 exact ZH (Xn (re h11 ⟨rfl,kq⟩))
 intro e23 s24 o25
 rcases y6 with g7 | y8
 have h26 := XG h22
 exact zi o25 (Za (zg [2] 0 (Zb (Zg (er1 h26)))))
 have h27 := XH h22
 obtain ⟨rfl,n29⟩ := o25
 refine ZC (Zh ?_)
 obtain rfl := Option.some.inj h27
 exact n29
theorem XW (a0 : Int) (a1 : Int) (a2 : Int) (r : Bool) (h : M.ZZ a0 a1 a2 = some r) : Fn Tryz.prog 74 [.int .i64 a0,.int .i64 a1,.int .i64 a2] (.pure (.bool r)) := by
 unfold M.ZZ at h
 exact ZL Tryz.func74 rfl (by kernel_rfl) (Za (zg [0,1,2] 0 (Zb (Za (zg [6] 0 (Zb (Zg (er1 h))))))))
theorem Zb5 (a0 : ZB) (b0 : ByteArray) (r : Bool) (h : M.JI a0 b0 = some r) : Fn Tryz.prog 164 [.agg (Zn a0),.pp (cs b0)] (.pure (.bool r)) := by
 unfold M.JI at h
 exact ZL Tryz.func164 rfl (by kernel_rfl) (Za (zg [1,2] 1 (Zb (Za (zg [3] 0 (Zb (Zg (er1 h))))))))
theorem VY (a0 : List ZB) (a1c0 : ByteArray) (r : Int) (h : M.ZM a0 a1c0 = some r) : Fn Tryz.prog 146 [sL 12 Zn a0,.fn 164 [.pp (cs a1c0)]] (.pure (.int .i64 r)) := by
 unfold M.ZM at h
 refine ZL Tryz.func146 rfl (by kernel_rfl) (Za (zg [0,1] 0 (Zb (Za (Za (zg [0,1,7,8] 0 (Zb (Zi ?_))))))))
 obtain ⟨y4,q12,h13⟩ := bind_some h
 refine zl (fun (p1 : Int) => ⟨19,[(0,sL 12 Zn a0),(1,.fn 164 [.pp (cs a1c0)]),(7,.int .i64 (a0.length : Int)),(8,.int .i64 p1)],[]⟩) (Sum.elim (fun z => OutE 0 (fun z => ⟨19,[],[]⟩) z) (fun z => OutR Tryz.prog Tryz.f146 (.int .i64 z))) q12 ?_ ?_
 intro p1 y2 h1
 unfold M.ZI at h1
 refine Za (zg [0,1,7,8,9] 0 (Zb (Za (cn h1 (fun _ h3 => ?_) (fun _ h4 => ?_)))))
 refine Zd (Zb (Za (Zi (Za (zg [0,1,5,7,8] 0 (Zb (Za ?_)))))))
 obtain ⟨r3,q5,h6⟩ := bind_some h3
 obtain ⟨c7,h8⟩ := Zz h6
 refine zr [0,1,5,7,8,16] 0 c7 (rq1 (Zb5 _ _ _ q5) rqn) (Zb (cn h8 (fun _ h10 => ?_) (fun _ h11 => ?_)))
 exact Za (zg [4] 0 (Zb (Zg (ZC (Zh (rr h10 ⟨rfl,er0 _⟩))))))
 exact Zd (XK (Zb (zg [0,1,7,8] 0 (rn h11))))
 exact ZH (Xn (re h4 ⟨rfl,kq⟩))
 intro e14 s15 o16
 rcases y4 with g5 | y6
 have h17 := XG h13
 exact zi o16 (Za (zg [4] 0 (Zb (Zg (er1 h17)))))
 have h18 := XH h13
 obtain ⟨rfl,n20⟩ := o16
 refine ZC (Zh ?_)
 obtain rfl := Option.some.inj h18
 exact n20
theorem Ru (a0 : Zf) (a1 : ByteArray) (r : Int) (h : M.Qn a0 a1 = some r) : Fn Tryz.prog 131 [.agg (Zu a0),.str a1] (.pure (.int .i64 r)) := by
 unfold M.Qn at h
 refine ZL Tryz.func131 rfl (by kernel_rfl) (Za (zg [2,3] 2 (Zb (Za ?_))))
 obtain ⟨r1,q1,h2⟩ := bind_some h
 exact zr [4] 0 ZA (rq1 (VY _ _ _ q1) rqn) (Zb (Zg (er1 h2)))
theorem Zao (a0 : ZB) (r : Bool) (h : M.Qy a0 = some r) : Fn Tryz.prog 132 [.agg (Zn a0)] (.pure (.bool r)) := by
 unfold M.Qy at h
 refine ZL Tryz.func132 rfl (by kernel_rfl) (Za (zg [1] 1 (Zb (Za (Za ?_)))))
 obtain ⟨r1,q1,h2⟩ := bind_some h
 obtain ⟨r2,q3,h4⟩ := bind_some h2
 obtain ⟨r3,q5,h6⟩ := bind_some h4
 refine zr [1,18] 1 ZA (rq1 (XW _ _ _ _ q1) (rq2 (fun hg => XW _ _ _ _ (Xj q3 hg)) (rq2 (fun hg => XW _ _ _ _ (Xj q5 hg)) rqn))) (Zb (cn h6 (fun _ h8 => ?_) (fun _ h9 => ?_)))
 exact Za (zg [2] 0 (Zb (Zg (Zh (er1 h8)))))
 refine Zd (Zb (Za (Za (zg [1,54] 1 (Zb (cn h9 (fun _ h11 => ?_) (fun _ h12 => ?_)))))))
 exact Za (zg [2] 0 (Zb (Zg (Zh (er1 h11)))))
 refine Zd (Zb (Za (Za (zg [1,62] 1 (Zb (cn h12 (fun _ h14 => ?_) (fun _ h15 => ?_)))))))
 exact Za (zg [2] 0 (Zb (Zg (Zh (er1 h14)))))
 refine Zd (Zb (Za (Za (zg [1,64] 1 (Zb (cn h15 (fun _ h17 => ?_) (fun _ h18 => ?_)))))))
 refine Za ?_
 obtain ⟨r4,q19,h20⟩ := bind_some h17
 obtain ⟨r5,q21,h22⟩ := bind_some h20
 exact zr [2] 0 ZA (rq1 (XW _ _ _ _ q19) (rq2 (fun hg => XW _ _ _ _ (Xj q21 hg)) rqn)) (Zb (Zg (Zh (er1 h22))))
 exact Zd (Zb (Za (zg [2] 0 (Zb (Zg (er1 h18))))))
theorem Zdj (a0 : Int) (r : Int) (h : M.JT a0 = some r) : Fn Tryz.prog 89 [.int .i64 a0] (.pure (.int .i64 r)) := by
 unfold M.JT at h
 exact ZL Tryz.func89 rfl (by kernel_rfl) (Za (zg [0] 0 (Zb (Za (zg [2] 0 (Zb (Zg (er1 h))))))))
theorem ZaT (a0 : Int) (r : Int) (h : M.Vb a0 = some r) : Fn Tryz.prog 88 [.int .i64 a0] (.pure (.int .u32 r)) := by
 unfold M.Vb at h
 refine ZL Tryz.func88 rfl (by kernel_rfl) (Za (zg [0] 0 (Zb (Za ?_))))
 obtain ⟨r1,q1,h2⟩ := bind_some h
 obtain ⟨c3,h4⟩ := Zz h2
 exact zr [2] 0 c3 (rq1 (Zdj _ _ q1) rqn) (Zb (Zg (er1 h4)))
theorem KZ (a0 : Int) (a1 : Int) (r : ZS) (h : M.Y2 a0 a1 = some r) : Fn Tryz.prog 60 [.int .u32 a0,.int .i64 a1] (.pure (.agg (Xc r))) := by
 unfold M.Y2 at h
 refine ZL Tryz.func60 rfl (by kernel_rfl) (Za (zg [0,1,4] 1 (Zb (Za ?_))))
 obtain ⟨r1,q1,h2⟩ := bind_some h
 obtain ⟨r2,q3,h4⟩ := bind_some h2
 refine zr [4] 1 ZA (rq1 (ZaT _ _ q1) (rq1 (Zdj _ _ q3) rqn)) (Zb (Zg ?_))
 obtain rfl := Option.some.inj h4
 exact er0 (.agg [.int .u32 (bitD .and .u32 a0 r1),.int .i64 r2])
theorem Ze0 (a0 : ZS) (a1 : Int) (r : Bool) (h : M.WK a0 a1 = some r) : Fn Tryz.prog 179 [.agg (Xc a0),.int .u32 a1] (.pure (.bool r)) := by
 unfold M.WK at h
 refine ZL Tryz.func179 rfl (by kernel_rfl) (Za (zg [1,2] 1 (Zb (Za ?_))))
 obtain ⟨r1,q1,h2⟩ := bind_some h
 exact zr [4] 0 ZA (rq1 (ZaT _ _ q1) rqn) (Zb (Zg (er1 h2)))
theorem Zb6 (a0 : ZS) (a1 : ZS) (r : Bool) (h : M.WP a0 a1 = some r) : Fn Tryz.prog 165 [.agg (Xc a0),.agg (Xc a1)] (.pure (.bool r)) := by
 unfold M.WP at h
 refine ZL Tryz.func165 rfl (by kernel_rfl) (Za (zg [2,3] 2 (Zb (Za ?_))))
 obtain ⟨r1,q1,h2⟩ := bind_some h
 exact zr [4] 0 ZA (rq2 (fun hg => Ze0 _ _ _ (Xj q1 hg)) rqn) (Zb (Zg (er1 h2)))
theorem Zap (a0 : ZS) (a1 : ZS) (r : Bool) (h : M.Vl a0 a1 = some r) : Fn Tryz.prog 133 [.agg (Xc a0),.agg (Xc a1)] (.pure (.bool r)) := by
 unfold M.Vl at h
 refine ZL Tryz.func133 rfl (by kernel_rfl) (Za (zg [2,3] 2 (Zb (Za ?_))))
 obtain ⟨r1,q1,h2⟩ := bind_some h
 obtain ⟨r2,q3,h4⟩ := bind_some h2
 exact zr [4] 0 ZA (rq1 (Zb6 _ _ _ q1) (rq2 (fun hg => Zb6 _ _ _ (Xj q3 hg)) rqn)) (Zb (Zg (er1 h4)))
theorem Zaa (a0 : Zf) (r : Int) (h : M.YQ a0 = some r) : Fn Tryz.prog 75 [.agg (Zu a0)] (.pure (.int .i64 r)) := by
 let u1 : Nat × D := (12,sL 12 Zn a0.Zc)
 let u2 := (a0.Zc.length : Int)
 let u5 := Zu a0
 unfold M.YQ at h
 refine ZL Tryz.func75 rfl (by kernel_rfl) (Za (zg [1] 1 (Zb (Za (Za (zg [1,10] 1 (Zb (cn h (fun _ h2 => ?_) (fun _ h3 => ?_)))))))))
 exact Za (zg [2] 0 (Zb (Zg (Zh (er1 h2)))))
 refine Zd (Zb (Za (Za (zg [1,12,13,14] 1 (Zb (Zi ?_))))))
 obtain ⟨y14,q51,h52⟩ := bind_some h3
 refine zl (fun (p1 : Int) => ⟨64,[(1,.ref 0 0),u1,(13,.int .i64 u2),(14,.int .i64 p1)],[.box u5]⟩) (Sum.elim (fun z => OutE 0 (fun z => ⟨64,[],[]⟩) z) (fun z => OutR Tryz.prog Tryz.f75 (.int .i64 z))) q51 ?_ ?_
 intro p1 y2 h4
 let u3 : List Ob := [.box u5,.box (Zn (a0.Zc.getD p1.toNat default))]
 let u4 : Nat × D := (35,sL 12 Zn ((a0.Zc.drop 0).take (p1.toNat - 0)))
 unfold M.YG at h4
 refine Za (zg [1,12,13,14,15] 1 (Zb (Za (cn h4 (fun _ h6 => ?_) (fun _ h7 => ?_)))))
 refine Zd (Zb (Za (Zi (Za ?_))))
 obtain ⟨c8,h9⟩ := Zz h6
 refine zc [1,3,4,12,13,14] 2 c8 (Zb (Za (Za ?_)))
 obtain ⟨r3,q10,h11⟩ := bind_some h9
 refine zr [1,3,4,12,13,14,22] 2 ZA (rq1 (ZaS _ _ q10) rqn) (Zb (cn h11 (fun _ h13 => ?_) (fun _ h14 => ?_)))
 exact Za (zg [2] 0 (Zb (Zg (Zh (ZC (Zh (rr h13 ⟨rfl,er0 _⟩)))))))
 refine Zd (Zb (Za (Za ?_)))
 obtain ⟨r4,q15,h16⟩ := bind_some h14
 refine zr [1,3,4,12,13,14,28] 2 ZA (rq1 (Ru _ _ _ q15) rqn) (Zb (cn h16 (fun _ h18 => ?_) (fun _ h19 => ?_)))
 exact Za (zg [2] 0 (Zb (Zg (Zh (ZC (Zh (rr h18 ⟨rfl,er0 _⟩)))))))
 refine Zd (Zb (Za (Za ?_)))
 obtain ⟨r5,q20,h21⟩ := bind_some h19
 refine zr [1,3,4,12,13,14,31] 2 ZA (rq1 (Zao _ _ q20) rqn) (Zb (cn h21 (fun _ h23 => ?_) (fun _ h24 => ?_)))
 exact Za (zg [2] 0 (Zb (Zg (Zh (ZC (Zh (rr h23 ⟨rfl,er0 _⟩)))))))
 refine Zd (Zb (Za ?_))
 obtain ⟨c25,h26⟩ := Zz h24
 refine rgc [1,4,12,13,14,35,36,37] 2 ⟨64,[(1,.ref 0 0),(4,.ref 1 0),u1,(13,.int .i64 u2),(14,.int .i64 p1),(35,.sl false 12 (p1.toNat - 0) (fun i => Zn (a0.Zc.getD (0 + i) default))),(36,.int .i64 ((p1.toNat - 0 : Nat) : Int)),(37,.int .i64 0)],u3⟩ [decide (0 ≤ p1),decide (p1 ≤ u2)] c25 (XJ (s' := ⟨64,[(1,.ref 0 0),(4,.ref 1 0),u1,(13,.int .i64 u2),(14,.int .i64 p1),u4,(36,.int .i64 ((p1.toNat - 0 : Nat) : Int)),(37,.int .i64 0)],u3⟩) (VB (.cons Sub.rfl (.cons Sub.rfl (.cons Sub.rfl (.cons Sub.rfl (.cons Sub.rfl (.cons (Un (Rc _ _ _ (ZaN (c25 _ (List.mem_cons_of_mem _ List.mem_cons_self)))) (Rb _ _ _ _)) (.cons Sub.rfl (.cons Sub.rfl .nil)))))))) (.cons .rfl (.cons .rfl .nil))) (Zi ?_))
 obtain ⟨y11,q42,h43⟩ := bind_some h26
 refine zl (fun (p6 : Int) => ⟨64,[(1,.ref 0 0),(4,.ref 1 0),u1,(13,.int .i64 u2),(14,.int .i64 p1),u4,(36,.int .i64 ((p1.toNat - 0 : Nat) : Int)),(37,.int .i64 p6)],u3⟩) (Sum.elim (fun z => OutE 2 (fun z => ⟨64,[(1,.ref 0 0),u1,(13,.int .i64 u2),(14,.int .i64 p1)],[.box u5]⟩) z) (fun z => OutR Tryz.prog Tryz.f75 (.int .i64 z))) q42 ?_ ?_
 intro p6 y7 h27
 unfold M.Yr at h27
 refine Za (zg [1,4,12,13,14,35,36,37,38] 2 (Zb (Za (cn h27 (fun _ h29 => ?_) (fun _ h30 => ?_)))))
 refine Zd (Zb (Za (Zi (Za ?_))))
 obtain ⟨c31,h32⟩ := Zz h29
 refine zc [1,4,6,12,13,14,35,36,37] 3 c31 (Zb (Za ?_))
 obtain ⟨r8,q33,h34⟩ := bind_some h32
 obtain ⟨r9,q35,h36⟩ := bind_some h34
 obtain ⟨r10,q37,h38⟩ := bind_some h36
 refine zr [1,4,12,13,14,35,36,37,61] 2 ZA (rq2 (fun hg => KZ _ _ _ (Xj q33 hg)) (rq2 (fun hg => KZ _ _ _ (Xj q35 hg)) (rq2 (fun hg => Zap _ _ _ (Xj q37 hg)) rqn))) (Zb (cn h38 (fun _ h40 => ?_) (fun _ h41 => ?_)))
 exact Za (zg [2] 0 (Zb (Zg (ZC (Zh (rr h40 ⟨rfl,er0 _⟩))))))
 exact Zd (XK (Zb (zg [1,4,12,13,14,35,36,37] 2 (rn h41))))
 exact ZH (Xn (re h30 ⟨rfl,kc⟩))
 intro e44 s45 o46
 rcases y11 with g12 | y13
 have h47 := XG h43
 obtain ⟨rfl,l49⟩ := o46
 exact YP (XK (XJ (s' := ⟨64,[(1,.ref 0 0),u1,(13,.int .i64 u2),(14,.int .i64 p1)],[.box u5]⟩) (l49) (zg [1,12,13,14] 1 (rn h47))))
 have h48 := XH h43
 obtain ⟨rfl,n50⟩ := o46
 exact ZC (ZC (Zh (rr h48 ⟨rfl,n50⟩)))
 exact ZH (Xn (re h7 ⟨rfl,kc⟩))
 intro e53 s54 o55
 rcases y14 with g15 | y16
 have h56 := XG h52
 exact zi o55 (Za (zg [2] 0 (Zb (Zg (er1 h56)))))
 have h57 := XH h52
 obtain ⟨rfl,n59⟩ := o55
 refine ZC (Zh ?_)
 obtain rfl := Option.some.inj h57
 exact n59
theorem Zbp (a0 : ZF) (b0 : ByteArray) (r : Bool) (h : M.JU a0 b0 = some r) : Fn Tryz.prog 167 [.agg (Zv a0),.pp (cs b0)] (.pure (.bool r)) := by
 unfold M.JU at h
 exact ZL Tryz.func167 rfl (by kernel_rfl) (Za (zg [1,2] 1 (Zb (Za (zg [3] 0 (Zb (Zg (er1 h))))))))
theorem VF (a0 : List ZF) (a1c0 : ByteArray) (r : Int) (h : M.ZU a0 a1c0 = some r) : Fn Tryz.prog 166 [sL 2 Zv a0,.fn 167 [.pp (cs a1c0)]] (.pure (.int .i64 r)) := by
 unfold M.ZU at h
 refine ZL Tryz.func166 rfl (by kernel_rfl) (Za (zg [0,1] 0 (Zb (Za (Za (zg [0,1,7,8] 0 (Zb (Zi ?_))))))))
 obtain ⟨y4,q12,h13⟩ := bind_some h
 refine zl (fun (p1 : Int) => ⟨19,[(0,sL 2 Zv a0),(1,.fn 167 [.pp (cs a1c0)]),(7,.int .i64 (a0.length : Int)),(8,.int .i64 p1)],[]⟩) (Sum.elim (fun z => OutE 0 (fun z => ⟨19,[],[]⟩) z) (fun z => OutR Tryz.prog Tryz.f166 (.int .i64 z))) q12 ?_ ?_
 intro p1 y2 h1
 unfold M.ZN at h1
 refine Za (zg [0,1,7,8,9] 0 (Zb (Za (cn h1 (fun _ h3 => ?_) (fun _ h4 => ?_)))))
 refine Zd (Zb (Za (Zi (Za (zg [0,1,5,7,8] 0 (Zb (Za ?_)))))))
 obtain ⟨r3,q5,h6⟩ := bind_some h3
 obtain ⟨c7,h8⟩ := Zz h6
 refine zr [0,1,5,7,8,16] 0 c7 (rq1 (Zbp _ _ _ q5) rqn) (Zb (cn h8 (fun _ h10 => ?_) (fun _ h11 => ?_)))
 exact Za (zg [4] 0 (Zb (Zg (ZC (Zh (rr h10 ⟨rfl,er0 _⟩))))))
 exact Zd (XK (Zb (zg [0,1,7,8] 0 (rn h11))))
 exact ZH (Xn (re h4 ⟨rfl,kq⟩))
 intro e14 s15 o16
 rcases y4 with g5 | y6
 have h17 := XG h13
 exact zi o16 (Za (zg [4] 0 (Zb (Zg (er1 h17)))))
 have h18 := XH h13
 obtain ⟨rfl,n20⟩ := o16
 refine ZC (Zh ?_)
 obtain rfl := Option.some.inj h18
 exact n20
theorem UN (a0 : Zf) (a1 : ByteArray) (r : Int) (h : M.Yy a0 a1 = some r) : Fn Tryz.prog 135 [.agg (Zu a0),.str a1] (.pure (.int .i64 r)) := by
 unfold M.Yy at h
 refine ZL Tryz.func135 rfl (by kernel_rfl) (Za (zg [2,3] 2 (Zb (Za ?_))))
 obtain ⟨r1,q1,h2⟩ := bind_some h
 exact zr [4] 0 ZA (rq1 (VF _ _ _ q1) rqn) (Zb (Zg (er1 h2)))
theorem G8 (a0 : Int) (a1 : Int) (a2 : ByteArray) (a3 : Int) (a4 : Int) (r : Int) (h : M.YZ a0 a1 a2 a3 a4 = some r) : Fn Tryz.prog 134 [.int .i64 a0,.int .i64 a1,.str a2,.int .i64 a3,.int .i64 a4] (.pure (.int .i64 r)) := by
 unfold M.YZ at h
 refine ZL Tryz.func134 rfl (by kernel_rfl) (Za (zg [0,1,2,3,4] 0 (Zb (Za (Zi (Za ?_))))))
 obtain ⟨r1,q1,h2⟩ := bind_some h
 refine zr [0,1,3,4,11] 0 ZA (rq1 (ZaS _ _ q1) rqn) (Zb (cn h2 (fun _ h4 => ?_) (fun _ h5 => ?_)))
 exact Za (zg [10] 0 (Zb (Zg (ZC (Zh (er1 h4))))))
 refine Za (zg [3,4,15] 0 (Zb (cn h5 (fun _ h7 => ?_) (fun _ h8 => ?_))))
 exact Za (zg [10] 0 (Zb (Zg (ZC (Zh (er1 h7))))))
 refine Za (zg [3,4,19] 0 (Zb (cn h8 (fun _ h10 => ?_) (fun _ h11 => ?_))))
 exact Za (zg [10] 0 (Zb (Zg (ZC (Zh (er1 h10))))))
 refine Za (zg [22] 0 (Zb (cn h11 (fun _ h13 => ?_) (fun _ h14 => ?_))))
 exact Za (zg [10] 0 (Zb (Zg (ZC (Zh (er1 h13))))))
 exact Zd (XK (Zb (Za (zg [10] 0 (Zb (Zg (er1 h14)))))))
theorem UH (a0 : ZS) (r : Bool) (h : M.QZ a0 = some r) : Fn Tryz.prog 136 [.agg (Xc a0)] (.pure (.bool r)) := by
 unfold M.QZ at h
 refine ZL Tryz.func136 rfl (by kernel_rfl) (Za (zg [1] 1 (Zb (Za ?_))))
 obtain ⟨r1,q1,h2⟩ := bind_some h
 exact zr [2] 0 ZA (rq2 (fun hg => ZaT _ _ (Xj q1 hg)) rqn) (Zb (Zg (er1 h2)))
theorem RI (a0 : Zf) (r : Int) (h : M.YH a0 = some r) : Fn Tryz.prog 76 [.agg (Zu a0)] (.pure (.int .i64 r)) := by
 let u1 : Nat × D := (13,sL 2 Zv a0.Z1)
 let u2 := (a0.Z1.length : Int)
 let u3 : List Ob := [.box (Zu a0)]
 unfold M.YH at h
 refine ZL Tryz.func76 rfl (by kernel_rfl) (Za (zg [1] 1 (Zb (Za (Za (zg [1,11] 1 (Zb (cn h (fun _ h2 => ?_) (fun _ h3 => ?_)))))))))
 exact Za (zg [2] 0 (Zb (Zg (Zh (er1 h2)))))
 refine Zd (Zb (Za (Za (zg [1,13,14,15] 1 (Zb (Zi ?_))))))
 obtain ⟨y11,q37,h38⟩ := bind_some h3
 refine zl (fun (p1 : Int) => ⟨67,[(1,.ref 0 0),u1,(14,.int .i64 u2),(15,.int .i64 p1)],u3⟩) (Sum.elim (fun z => OutE 0 (fun z => ⟨67,[],[]⟩) z) (fun z => OutR Tryz.prog Tryz.f76 (.int .i64 z))) q37 ?_ ?_
 intro p1 y2 h4
 let u4 := (a0.Z1.getD p1.toNat default).Z0
 unfold M.Yw at h4
 refine Za (zg [1,13,14,15,16] 1 (Zb (Za (cn h4 (fun _ h6 => ?_) (fun _ h7 => ?_)))))
 refine Zd (Zb (Za (Zi (Za ?_))))
 obtain ⟨c8,h9⟩ := Zz h6
 refine zc [1,3,4,13,14,15] 2 c8 (Zb (Za (Za ?_)))
 obtain ⟨r3,q10,h11⟩ := bind_some h9
 obtain ⟨r4,q12,h13⟩ := bind_some h11
 refine zr [1,4,5,13,14,15] 2 ZA (rq1 (UN _ _ _ q10) (rq1 (G8 _ _ _ _ _ _ q12) rqn)) (Zb (Za (zg [1,4,5,13,14,15,32] 2 (Zb (cn h13 (fun _ h15 => ?_) (fun _ h16 => ?_))))))
 exact Za (zg [2] 0 (Zb (Zg (Zh (ZC (Zh (rr h15 ⟨rfl,er0 _⟩)))))))
 refine Zd (Zb (Za (zg [1,13,14,15,35,36,37] 1 (Zb (Zi ?_)))))
 obtain ⟨y8,q28,h29⟩ := bind_some h16
 refine zl (fun (p5 : Int) => ⟨67,[(1,.ref 0 0),u1,(14,.int .i64 u2),(15,.int .i64 p1),(35,sL 5 Vk u4),(36,.int .i64 (u4.length : Int)),(37,.int .i64 p5)],u3⟩) (Sum.elim (fun z => OutE 2 (fun z => ⟨67,[(1,.ref 0 0),u1,(14,.int .i64 u2),(15,.int .i64 p1)],u3⟩) z) (fun z => OutR Tryz.prog Tryz.f76 (.int .i64 z))) q28 ?_ ?_
 intro p5 y6 h17
 unfold M.Ym at h17
 refine Za (zg [1,13,14,15,35,36,37,38] 1 (Zb (Za (cn h17 (fun _ h19 => ?_) (fun _ h20 => ?_)))))
 refine Zd (Zb (Za (Zi (Za ?_))))
 obtain ⟨c21,h22⟩ := Zz h19
 refine zc [1,7,13,14,15,35,36,37] 2 c21 (Zb (Za ?_))
 obtain ⟨r7,q23,h24⟩ := bind_some h22
 refine zr [1,13,14,15,35,36,37,64] 1 ZA (rq1 (UH _ _ q23) rqn) (Zb (cn h24 (fun _ h26 => ?_) (fun _ h27 => ?_)))
 exact Za (zg [2] 0 (Zb (Zg (ZC (Zh (rr h26 ⟨rfl,er0 _⟩))))))
 exact Zd (XK (Zb (zg [1,13,14,15,35,36,37] 1 (rn h27))))
 exact ZH (Xn (re h20 ⟨rfl,kq⟩))
 intro e30 s31 o32
 rcases y8 with g9 | y10
 have h33 := XG h29
 obtain ⟨rfl,l35⟩ := o32
 exact YP (XK (XJ (s' := ⟨67,[(1,.ref 0 0),u1,(14,.int .i64 u2),(15,.int .i64 p1)],u3⟩) (l35) (zg [1,13,14,15] 1 (rn h33))))
 have h34 := XH h29
 obtain ⟨rfl,n36⟩ := o32
 exact ZC (ZC (Zh (rr h34 ⟨rfl,n36⟩)))
 exact ZH (Xn (re h7 ⟨rfl,kc⟩))
 intro e39 s40 o41
 rcases y11 with g12 | y13
 have h42 := XG h38
 exact zi o41 (Za (zg [2] 0 (Zb (Zg (er1 h42)))))
 have h43 := XH h38
 obtain ⟨rfl,n45⟩ := o41
 refine ZC (Zh ?_)
 obtain rfl := Option.some.inj h43
 exact n45
theorem ZcT (a0 : Xy) (b0 : ByteArray) (r : Bool) (h : M.Vu a0 b0 = some r) : Fn Tryz.prog 169 [.agg (ZQ a0),.pp (cs b0)] (.pure (.bool r)) := by
 unfold M.Vu at h
 exact ZL Tryz.func169 rfl (by kernel_rfl) (Za (zg [1,2] 1 (Zb (Za (zg [3] 0 (Zb (Zg (er1 h))))))))
theorem V9 (a0 : List Xy) (a1c0 : ByteArray) (r : Int) (h : M.Z9 a0 a1c0 = some r) : Fn Tryz.prog 168 [sL 2 ZQ a0,.fn 169 [.pp (cs a1c0)]] (.pure (.int .i64 r)) := by
 unfold M.Z9 at h
 refine ZL Tryz.func168 rfl (by kernel_rfl) (Za (zg [0,1] 0 (Zb (Za (Za (zg [0,1,7,8] 0 (Zb (Zi ?_))))))))
 obtain ⟨y4,q12,h13⟩ := bind_some h
 refine zl (fun (p1 : Int) => ⟨19,[(0,sL 2 ZQ a0),(1,.fn 169 [.pp (cs a1c0)]),(7,.int .i64 (a0.length : Int)),(8,.int .i64 p1)],[]⟩) (Sum.elim (fun z => OutE 0 (fun z => ⟨19,[],[]⟩) z) (fun z => OutR Tryz.prog Tryz.f168 (.int .i64 z))) q12 ?_ ?_
 intro p1 y2 h1
 unfold M.Z5 at h1
 refine Za (zg [0,1,7,8,9] 0 (Zb (Za (cn h1 (fun _ h3 => ?_) (fun _ h4 => ?_)))))
 refine Zd (Zb (Za (Zi (Za (zg [0,1,5,7,8] 0 (Zb (Za ?_)))))))
 obtain ⟨r3,q5,h6⟩ := bind_some h3
 obtain ⟨c7,h8⟩ := Zz h6
 refine zr [0,1,5,7,8,16] 0 c7 (rq1 (ZcT _ _ _ q5) rqn) (Zb (cn h8 (fun _ h10 => ?_) (fun _ h11 => ?_)))
 exact Za (zg [4] 0 (Zb (Zg (ZC (Zh (rr h10 ⟨rfl,er0 _⟩))))))
 exact Zd (XK (Zb (zg [0,1,7,8] 0 (rn h11))))
 exact ZH (Xn (re h4 ⟨rfl,kq⟩))
 intro e14 s15 o16
 rcases y4 with g5 | y6
 have h17 := XG h13
 exact zi o16 (Za (zg [4] 0 (Zb (Zg (er1 h17)))))
 have h18 := XH h13
 obtain ⟨rfl,n20⟩ := o16
 refine ZC (Zh ?_)
 obtain rfl := Option.some.inj h18
 exact n20
theorem Gx (a0 : Zf) (a1 : ByteArray) (r : Int) (h : M.Y5 a0 a1 = some r) : Fn Tryz.prog 137 [.agg (Zu a0),.str a1] (.pure (.int .i64 r)) := by
 unfold M.Y5 at h
 refine ZL Tryz.func137 rfl (by kernel_rfl) (Za (zg [2,3] 2 (Zb (Za ?_))))
 obtain ⟨r1,q1,h2⟩ := bind_some h
 exact zr [4] 0 ZA (rq1 (V9 _ _ _ q1) rqn) (Zb (Zg (er1 h2)))
theorem Zb7 (a0 : Ul) (r : Bool) (h : M.Q8 a0 = some r) : Fn Tryz.prog 138 [.agg (Up a0)] (.pure (.bool r)) := by
 unfold M.Q8 at h
 refine ZL Tryz.func138 rfl (by kernel_rfl) (Za (zg [1] 1 (Zb (Za ?_))))
 obtain ⟨r1,q1,h2⟩ := bind_some h
 obtain ⟨r2,q3,h4⟩ := bind_some h2
 obtain ⟨r3,q5,h6⟩ := bind_some h4
 obtain ⟨r4,q7,h8⟩ := bind_some h6
 obtain ⟨r5,q9,h10⟩ := bind_some h8
 exact zr [2] 0 ZA (rq1 (XW _ _ _ _ q1) (rq2 (fun hg => XW _ _ _ _ (Xj q3 hg)) (rq2 (fun hg => XW _ _ _ _ (Xj q5 hg)) (rq2 (fun hg => XW _ _ _ _ (Xj q7 hg)) (rq2 (fun hg => XW _ _ _ _ (Xj q9 hg)) rqn))))) (Zb (Zg (er1 h10)))
theorem Zaq (a0 : Zf) (r : Int) (h : M.Y6 a0 = some r) : Fn Tryz.prog 77 [.agg (Zu a0)] (.pure (.int .i64 r)) := by
 let u1 : Nat × D := (13,sL 2 ZQ a0.ZR)
 let u2 := (a0.ZR.length : Int)
 let u3 : List Ob := [.box (Zu a0)]
 unfold M.Y6 at h
 refine ZL Tryz.func77 rfl (by kernel_rfl) (Za (zg [1] 1 (Zb (Za (Za (zg [1,11] 1 (Zb (cn h (fun _ h2 => ?_) (fun _ h3 => ?_)))))))))
 exact Za (zg [2] 0 (Zb (Zg (Zh (er1 h2)))))
 refine Zd (Zb (Za (Za (zg [1,13,14,15] 1 (Zb (Zi ?_))))))
 obtain ⟨y12,q42,h43⟩ := bind_some h3
 refine zl (fun (p1 : Int) => ⟨56,[(1,.ref 0 0),u1,(14,.int .i64 u2),(15,.int .i64 p1)],u3⟩) (Sum.elim (fun z => OutE 0 (fun z => ⟨56,[],[]⟩) z) (fun z => OutR Tryz.prog Tryz.f77 (.int .i64 z))) q42 ?_ ?_
 intro p1 y2 h4
 let u4 := (a0.ZR.getD p1.toNat default).Z4
 unfold M.YK at h4
 refine Za (zg [1,13,14,15,16] 1 (Zb (Za (cn h4 (fun _ h6 => ?_) (fun _ h7 => ?_)))))
 refine Zd (Zb (Za (Zi (Za ?_))))
 obtain ⟨c8,h9⟩ := Zz h6
 refine zc [1,3,4,13,14,15] 2 c8 (Zb (Za (Za ?_)))
 obtain ⟨r3,q10,h11⟩ := bind_some h9
 obtain ⟨r4,q12,h13⟩ := bind_some h11
 refine zr [1,4,5,13,14,15] 2 ZA (rq1 (Gx _ _ _ q10) (rq1 (G8 _ _ _ _ _ _ q12) rqn)) (Zb (Za (zg [1,4,5,13,14,15,32] 2 (Zb (cn h13 (fun _ h15 => ?_) (fun _ h16 => ?_))))))
 exact Za (zg [2] 0 (Zb (Zg (Zh (ZC (Zh (rr h15 ⟨rfl,er0 _⟩)))))))
 refine Zd (Zb (Za (zg [1,13,14,15,35,36,37] 1 (Zb (Zi ?_)))))
 obtain ⟨y9,q33,h34⟩ := bind_some h16
 refine zl (fun (p5 : Int) => ⟨56,[(1,.ref 0 0),u1,(14,.int .i64 u2),(15,.int .i64 p1),(35,sL 7 Up u4),(36,.int .i64 (u4.length : Int)),(37,.int .i64 p5)],u3⟩) (Sum.elim (fun z => OutE 2 (fun z => ⟨56,[(1,.ref 0 0),u1,(14,.int .i64 u2),(15,.int .i64 p1)],u3⟩) z) (fun z => OutR Tryz.prog Tryz.f77 (.int .i64 z))) q33 ?_ ?_
 intro p5 y6 h17
 unfold M.Yz at h17
 refine Za (zg [1,13,14,15,35,36,37,38] 1 (Zb (Za (cn h17 (fun _ h19 => ?_) (fun _ h20 => ?_)))))
 refine Zd (Zb (Za (Zi (Za ?_))))
 obtain ⟨c21,h22⟩ := Zz h19
 refine zc [1,7,13,14,15,35,36,37] 2 c21 (Zb (Za (Za ?_)))
 obtain ⟨r7,q23,h24⟩ := bind_some h22
 refine zr [1,7,13,14,15,35,36,37,50] 2 ZA (rq2 (fun hg => UN _ _ _ (Xj q23 hg)) rqn) (Zb (cn h24 (fun _ h26 => ?_) (fun _ h27 => ?_)))
 exact Za (zg [2] 0 (Zb (Zg (Zh (ZC (Zh (rr h26 ⟨rfl,er0 _⟩)))))))
 refine Zd (Zb (Za ?_))
 obtain ⟨r8,q28,h29⟩ := bind_some h27
 refine zr [1,13,14,15,35,36,37,53] 1 ZA (rq1 (Zb7 _ _ q28) rqn) (Zb (cn h29 (fun _ h31 => ?_) (fun _ h32 => ?_)))
 exact Za (zg [2] 0 (Zb (Zg (ZC (Zh (rr h31 ⟨rfl,er0 _⟩))))))
 exact Zd (XK (Zb (zg [1,13,14,15,35,36,37] 1 (rn h32))))
 exact ZH (Xn (re h20 ⟨rfl,kq⟩))
 intro e35 s36 o37
 rcases y9 with g10 | y11
 have h38 := XG h34
 obtain ⟨rfl,l40⟩ := o37
 exact YP (XK (XJ (s' := ⟨56,[(1,.ref 0 0),u1,(14,.int .i64 u2),(15,.int .i64 p1)],u3⟩) (l40) (zg [1,13,14,15] 1 (rn h38))))
 have h39 := XH h34
 obtain ⟨rfl,n41⟩ := o37
 exact ZC (ZC (Zh (rr h39 ⟨rfl,n41⟩)))
 exact ZH (Xn (re h7 ⟨rfl,kc⟩))
 intro e44 s45 o46
 rcases y12 with g13 | y14
 have h47 := XG h43
 exact zi o46 (Za (zg [2] 0 (Zb (Zg (er1 h47)))))
 have h48 := XH h43
 obtain ⟨rfl,n50⟩ := o46
 refine ZC (Zh ?_)
 obtain rfl := Option.some.inj h48
 exact n50
theorem ZgJ (a0 : V2) (b0 : ByteArray) (r : Bool) (h : M.Ur a0 b0 = some r) : Fn Tryz.prog 171 [.agg (Yq a0),.pp (cs b0)] (.pure (.bool r)) := by
 unfold M.Ur at h
 exact ZL Tryz.func171 rfl (by kernel_rfl) (Za (zg [1,2] 1 (Zb (Za (zg [3] 0 (Zb (Zg (er1 h))))))))
theorem Uo (a0 : List V2) (a1c0 : ByteArray) (r : Int) (h : M.Xx a0 a1c0 = some r) : Fn Tryz.prog 170 [sL 2 Yq a0,.fn 171 [.pp (cs a1c0)]] (.pure (.int .i64 r)) := by
 unfold M.Xx at h
 refine ZL Tryz.func170 rfl (by kernel_rfl) (Za (zg [0,1] 0 (Zb (Za (Za (zg [0,1,7,8] 0 (Zb (Zi ?_))))))))
 obtain ⟨y4,q12,h13⟩ := bind_some h
 refine zl (fun (p1 : Int) => ⟨19,[(0,sL 2 Yq a0),(1,.fn 171 [.pp (cs a1c0)]),(7,.int .i64 (a0.length : Int)),(8,.int .i64 p1)],[]⟩) (Sum.elim (fun z => OutE 0 (fun z => ⟨19,[],[]⟩) z) (fun z => OutR Tryz.prog Tryz.f170 (.int .i64 z))) q12 ?_ ?_
 intro p1 y2 h1
 unfold M.Xr at h1
 refine Za (zg [0,1,7,8,9] 0 (Zb (Za (cn h1 (fun _ h3 => ?_) (fun _ h4 => ?_)))))
 refine Zd (Zb (Za (Zi (Za (zg [0,1,5,7,8] 0 (Zb (Za ?_)))))))
 obtain ⟨r3,q5,h6⟩ := bind_some h3
 obtain ⟨c7,h8⟩ := Zz h6
 refine zr [0,1,5,7,8,16] 0 c7 (rq1 (ZgJ _ _ _ q5) rqn) (Zb (cn h8 (fun _ h10 => ?_) (fun _ h11 => ?_)))
 exact Za (zg [4] 0 (Zb (Zg (ZC (Zh (rr h10 ⟨rfl,er0 _⟩))))))
 exact Zd (XK (Zb (zg [0,1,7,8] 0 (rn h11))))
 exact ZH (Xn (re h4 ⟨rfl,kq⟩))
 intro e14 s15 o16
 rcases y4 with g5 | y6
 have h17 := XG h13
 exact zi o16 (Za (zg [4] 0 (Zb (Zg (er1 h17)))))
 have h18 := XH h13
 obtain ⟨rfl,n20⟩ := o16
 refine ZC (Zh ?_)
 obtain rfl := Option.some.inj h18
 exact n20
theorem Rg (a0 : Zf) (a1 : ByteArray) (r : Int) (h : M.V4 a0 a1 = some r) : Fn Tryz.prog 139 [.agg (Zu a0),.str a1] (.pure (.int .i64 r)) := by
 unfold M.V4 at h
 refine ZL Tryz.func139 rfl (by kernel_rfl) (Za (zg [2,3] 2 (Zb (Za ?_))))
 obtain ⟨r1,q1,h2⟩ := bind_some h
 exact zr [4] 0 ZA (rq1 (Uo _ _ _ q1) rqn) (Zb (Zg (er1 h2)))
theorem K6 (a0 : Vd) (r : Bool) (h : M.Q0 a0 = some r) : Fn Tryz.prog 172 [.agg (Re a0)] (.pure (.bool r)) := by
 unfold M.Q0 at h
 exact ZL Tryz.func172 rfl (by kernel_rfl) (Za (zg [1] 1 (Zb (Za (zg [2] 0 (Zb (Zg (er1 h))))))))
theorem ZdF (a0 : Ku) (r : Bool) (h : M.JY a0 = some r) : Fn Tryz.prog 140 [.agg (GO a0)] (.pure (.bool r)) := by
 unfold M.JY at h
 refine ZL Tryz.func140 rfl (by kernel_rfl) (Za (zg [1] 1 (Zb (Za (Za ?_)))))
 obtain ⟨r1,q1,h2⟩ := bind_some h
 refine zr [1,27] 1 ZA (rq1 (XW _ _ _ _ q1) rqn) (Zb (cn h2 (fun _ h4 => ?_) (fun _ h5 => ?_)))
 exact Za (zg [2] 0 (Zb (Zg (Zh (er1 h4)))))
 refine Zd (Zb (Za (Za ?_)))
 obtain ⟨r2,q6,h7⟩ := bind_some h5
 obtain ⟨r3,q8,h9⟩ := bind_some h7
 refine zr [1,37] 1 ZA (rq1 (K6 _ _ q6) (rq2 (fun hg => K6 _ _ (Xj q8 hg)) rqn)) (Zb (cn h9 (fun _ h11 => ?_) (fun _ h12 => ?_)))
 exact Za (zg [2] 0 (Zb (Zg (Zh (er1 h11)))))
 exact Zd (Zb (Za (zg [1,3] 2 (Zb (Za (zg [2] 0 (Zb (Zg (er1 h12)))))))))
theorem ZdG (a0 : Zf) (r : Int) (h : M.JZ a0 = some r) : Fn Tryz.prog 78 [.agg (Zu a0)] (.pure (.int .i64 r)) := by
 let u1 : Nat × D := (13,sL 2 Yq a0.Xh)
 let u2 := (a0.Xh.length : Int)
 let u3 : List Ob := [.box (Zu a0)]
 unfold M.JZ at h
 refine ZL Tryz.func78 rfl (by kernel_rfl) (Za (zg [1] 1 (Zb (Za (Za (zg [1,11] 1 (Zb (cn h (fun _ h2 => ?_) (fun _ h3 => ?_)))))))))
 exact Za (zg [2] 0 (Zb (Zg (Zh (er1 h2)))))
 refine Zd (Zb (Za (Za (zg [1,13,14,15] 1 (Zb (Zi ?_))))))
 obtain ⟨y11,q37,h38⟩ := bind_some h3
 refine zl (fun (p1 : Int) => ⟨46,[(1,.ref 0 0),u1,(14,.int .i64 u2),(15,.int .i64 p1)],u3⟩) (Sum.elim (fun z => OutE 0 (fun z => ⟨46,[],[]⟩) z) (fun z => OutR Tryz.prog Tryz.f78 (.int .i64 z))) q37 ?_ ?_
 intro p1 y2 h4
 let u4 := (a0.Xh.getD p1.toNat default).Z0
 unfold M.Jm at h4
 refine Za (zg [1,13,14,15,16] 1 (Zb (Za (cn h4 (fun _ h6 => ?_) (fun _ h7 => ?_)))))
 refine Zd (Zb (Za (Zi (Za ?_))))
 obtain ⟨c8,h9⟩ := Zz h6
 refine zc [1,3,4,13,14,15] 2 c8 (Zb (Za (Za ?_)))
 obtain ⟨r3,q10,h11⟩ := bind_some h9
 obtain ⟨r4,q12,h13⟩ := bind_some h11
 refine zr [1,4,5,13,14,15] 2 ZA (rq1 (Rg _ _ _ q10) (rq1 (G8 _ _ _ _ _ _ q12) rqn)) (Zb (Za (zg [1,4,5,13,14,15,32] 2 (Zb (cn h13 (fun _ h15 => ?_) (fun _ h16 => ?_))))))
 exact Za (zg [2] 0 (Zb (Zg (Zh (ZC (Zh (rr h15 ⟨rfl,er0 _⟩)))))))
 refine Zd (Zb (Za (zg [1,13,14,15,35,36,37] 1 (Zb (Zi ?_)))))
 obtain ⟨y8,q28,h29⟩ := bind_some h16
 refine zl (fun (p5 : Int) => ⟨46,[(1,.ref 0 0),u1,(14,.int .i64 u2),(15,.int .i64 p1),(35,sL 10 GO u4),(36,.int .i64 (u4.length : Int)),(37,.int .i64 p5)],u3⟩) (Sum.elim (fun z => OutE 2 (fun z => ⟨46,[(1,.ref 0 0),u1,(14,.int .i64 u2),(15,.int .i64 p1)],u3⟩) z) (fun z => OutR Tryz.prog Tryz.f78 (.int .i64 z))) q28 ?_ ?_
 intro p5 y6 h17
 unfold M.QL at h17
 refine Za (zg [1,13,14,15,35,36,37,38] 1 (Zb (Za (cn h17 (fun _ h19 => ?_) (fun _ h20 => ?_)))))
 refine Zd (Zb (Za (Zi (Za ?_))))
 obtain ⟨c21,h22⟩ := Zz h19
 refine zc [1,7,13,14,15,35,36,37] 2 c21 (Zb (Za ?_))
 obtain ⟨r7,q23,h24⟩ := bind_some h22
 refine zr [1,13,14,15,35,36,37,43] 1 ZA (rq1 (ZdF _ _ q23) rqn) (Zb (cn h24 (fun _ h26 => ?_) (fun _ h27 => ?_)))
 exact Za (zg [2] 0 (Zb (Zg (ZC (Zh (rr h26 ⟨rfl,er0 _⟩))))))
 exact Zd (XK (Zb (zg [1,13,14,15,35,36,37] 1 (rn h27))))
 exact ZH (Xn (re h20 ⟨rfl,kq⟩))
 intro e30 s31 o32
 rcases y8 with g9 | y10
 have h33 := XG h29
 obtain ⟨rfl,l35⟩ := o32
 exact YP (XK (XJ (s' := ⟨46,[(1,.ref 0 0),u1,(14,.int .i64 u2),(15,.int .i64 p1)],u3⟩) (l35) (zg [1,13,14,15] 1 (rn h33))))
 have h34 := XH h29
 obtain ⟨rfl,n36⟩ := o32
 exact ZC (ZC (Zh (rr h34 ⟨rfl,n36⟩)))
 exact ZH (Xn (re h7 ⟨rfl,kc⟩))
 intro e39 s40 o41
 rcases y11 with g12 | y13
 have h42 := XG h38
 exact zi o41 (Za (zg [2] 0 (Zb (Zg (er1 h42)))))
 have h43 := XH h38
 obtain ⟨rfl,n45⟩ := o41
 refine ZC (Zh ?_)
 obtain rfl := Option.some.inj h43
 exact n45
theorem RJ (a0 : Y1) (r : Bool) (h : M.Y3 a0 = some r) : Fn Tryz.prog 141 [.agg (Z8 a0)] (.pure (.bool r)) := by
 unfold M.Y3 at h
 refine ZL Tryz.func141 rfl (by kernel_rfl) (Za (zg [1] 1 (Zb (Za (Za (zg [1,6] 1 (Zb (Zi (Za (zg [1,6,7] 1 (Zb (cn h (fun _ h2 => ?_) (fun _ h3 => ?_)))))))))))))
 exact Za (zg [1,3] 2 (Zb (Za (zg [2] 0 (Zb (Zg (ZC (Zh (er1 h2)))))))))
 refine Za (zg [1,6,29] 1 (Zb (cn h3 (fun _ h5 => ?_) (fun _ h6 => ?_))))
 exact Za (zg [1,4] 2 (Zb (Za (zg [2] 0 (Zb (Zg (ZC (Zh (er1 h5)))))))))
 refine Za (zg [1,63] 1 (Zb (cn h6 (fun _ h8 => ?_) (fun _ h9 => ?_))))
 refine Za ?_
 obtain ⟨r1,q10,h11⟩ := bind_some h8
 obtain ⟨r2,q12,h13⟩ := bind_some h11
 exact zr [2] 0 ZA (rq2 (fun hg => XW _ _ _ _ (Xj q10 hg)) (rq2 (fun hg => XW _ _ _ _ (Xj q12 hg)) rqn)) (Zb (Zg (ZC (Zh (er1 h13)))))
 exact Zd (XK (Zb (Za (zg [2] 0 (Zb (Zg (er1 h9)))))))
theorem Zep (a0 : Zf) (r : Int) (h : M.Vg a0 = some r) : Fn Tryz.prog 79 [.agg (Zu a0)] (.pure (.int .i64 r)) := by
 unfold M.Vg at h
 refine ZL Tryz.func79 rfl (by kernel_rfl) (Za (zg [1] 1 (Zb (Za (Za (zg [1,8] 1 (Zb (cn h (fun _ h2 => ?_) (fun _ h3 => ?_)))))))))
 exact Za (zg [2] 0 (Zb (Zg (Zh (er1 h2)))))
 refine Zd (Zb (Za (Za (zg [1,10,11,12] 1 (Zb (Zi ?_))))))
 obtain ⟨y5,q20,h21⟩ := bind_some h3
 refine zl (fun (p1 : Int) => ⟨30,[(1,.ref 0 0),(10,sL 9 Z8 a0.Xf),(11,.int .i64 (a0.Xf.length : Int)),(12,.int .i64 p1)],[.box (Zu a0)]⟩) (Sum.elim (fun z => OutE 0 (fun z => ⟨30,[],[]⟩) z) (fun z => OutR Tryz.prog Tryz.f79 (.int .i64 z))) q20 ?_ ?_
 intro p1 y2 h4
 unfold M.JJ at h4
 refine Za (zg [1,10,11,12,13] 1 (Zb (Za (cn h4 (fun _ h6 => ?_) (fun _ h7 => ?_)))))
 refine Zd (Zb (Za (Zi (Za ?_))))
 obtain ⟨c8,h9⟩ := Zz h6
 refine zc [1,4,10,11,12] 2 c8 (Zb (Za (Za ?_)))
 obtain ⟨r3,q10,h11⟩ := bind_some h9
 refine zr [1,4,10,11,12,18] 2 ZA (rq1 (RJ _ _ q10) rqn) (Zb (cn h11 (fun _ h13 => ?_) (fun _ h14 => ?_)))
 exact Za (zg [2] 0 (Zb (Zg (Zh (ZC (Zh (rr h13 ⟨rfl,er0 _⟩)))))))
 refine Zd (Zb (Za ?_))
 obtain ⟨r4,q15,h16⟩ := bind_some h14
 refine zr [1,10,11,12,28] 1 ZA (rq2 (fun hg => Rg _ _ _ (Xj q15 hg)) rqn) (Zb (cn h16 (fun _ h18 => ?_) (fun _ h19 => ?_)))
 exact Za (zg [2] 0 (Zb (Zg (ZC (Zh (rr h18 ⟨rfl,er0 _⟩))))))
 exact Zd (XK (Zb (zg [1,10,11,12] 1 (rn h19))))
 exact ZH (Xn (re h7 ⟨rfl,kc⟩))
 intro e22 s23 o24
 rcases y5 with g6 | y7
 have h25 := XG h21
 exact zi o24 (Za (zg [2] 0 (Zb (Zg (er1 h25)))))
 have h26 := XH h21
 obtain ⟨rfl,n28⟩ := o24
 refine ZC (Zh ?_)
 obtain rfl := Option.some.inj h26
 exact n28
theorem Zbq (a0 : Zf) (r : Int) (h : M.Jn a0 = some r) : Fn Tryz.prog 80 [.agg (Zu a0)] (.pure (.int .i64 r)) := by
 unfold M.Jn at h
 refine ZL Tryz.func80 rfl (by kernel_rfl) (Za (zg [1] 1 (Zb (Za (Za (zg [1,6,7,8] 1 (Zb (Zi ?_))))))))
 obtain ⟨y5,q14,h15⟩ := bind_some h
 refine zl (fun (p1 : Int) => ⟨35,[(1,.ref 0 0),(6,sL 12 Zn a0.Zc),(7,.int .i64 (a0.Zc.length : Int)),(8,.int .i64 p1)],[.box (Zu a0)]⟩) (Sum.elim (fun z => OutE 0 (fun z => ⟨35,[],[]⟩) z) (fun z => OutR Tryz.prog Tryz.f80 (.int .i64 z))) q14 ?_ ?_
 intro p1 y2 h1
 unfold M.QT at h1
 refine Za (zg [1,6,7,8,9] 1 (Zb (Za (cn h1 (fun _ h3 => ?_) (fun _ h4 => ?_)))))
 refine Zd (Zb (Za (Zi (Za ?_))))
 obtain ⟨c5,h6⟩ := Zz h3
 refine zc [1,4,6,7,8] 2 c5 (Zb (Za ?_))
 obtain ⟨r3,q7,h8⟩ := bind_some h6
 obtain ⟨r4,q9,h10⟩ := bind_some h8
 refine zr [1,6,7,8,33] 1 ZA (rq2 (fun hg => Rg _ _ _ (Xj q7 hg)) (rq2 (fun hg => Rg _ _ _ (Xj q9 hg)) rqn)) (Zb (cn h10 (fun _ h12 => ?_) (fun _ h13 => ?_)))
 exact Za (zg [2] 0 (Zb (Zg (ZC (Zh (rr h12 ⟨rfl,er0 _⟩))))))
 exact Zd (XK (Zb (zg [1,6,7,8] 1 (rn h13))))
 exact ZH (Xn (re h4 ⟨rfl,kc⟩))
 intro e16 s17 o18
 rcases y5 with g6 | y7
 have h19 := XG h15
 exact zi o18 (Za (zg [2] 0 (Zb (Zg (er1 h19)))))
 have h20 := XH h15
 obtain ⟨rfl,n22⟩ := o18
 refine ZC (Zh ?_)
 obtain rfl := Option.some.inj h20
 exact n22
theorem ZdH (a0 : ZB) (b0 : Int) (r : Bool) (h : M.VS a0 b0 = some r) : Fn Tryz.prog 147 [.agg (Zn a0),.pp ((ci .u32) b0)] (.pure (.bool r)) := by
 unfold M.VS at h
 exact ZL Tryz.func147 rfl (by kernel_rfl) (Za (zg [1,2] 1 (Zb (Za (zg [3] 0 (Zb (Zg (er1 h))))))))
theorem V7 (a0 : List ZB) (a1c0 : Int) (r : Int) (h : M.Z7 a0 a1c0 = some r) : Fn Tryz.prog 146 [sL 12 Zn a0,.fn 147 [.pp ((ci .u32) a1c0)]] (.pure (.int .i64 r)) := by
 unfold M.Z7 at h
 refine ZL Tryz.func146 rfl (by kernel_rfl) (Za (zg [0,1] 0 (Zb (Za (Za (zg [0,1,7,8] 0 (Zb (Zi ?_))))))))
 obtain ⟨y4,q12,h13⟩ := bind_some h
 refine zl (fun (p1 : Int) => ⟨19,[(0,sL 12 Zn a0),(1,.fn 147 [.pp ((ci .u32) a1c0)]),(7,.int .i64 (a0.length : Int)),(8,.int .i64 p1)],[]⟩) (Sum.elim (fun z => OutE 0 (fun z => ⟨19,[],[]⟩) z) (fun z => OutR Tryz.prog Tryz.f146 (.int .i64 z))) q12 ?_ ?_
 intro p1 y2 h1
 unfold M.Z2 at h1
 refine Za (zg [0,1,7,8,9] 0 (Zb (Za (cn h1 (fun _ h3 => ?_) (fun _ h4 => ?_)))))
 refine Zd (Zb (Za (Zi (Za (zg [0,1,5,7,8] 0 (Zb (Za ?_)))))))
 obtain ⟨r3,q5,h6⟩ := bind_some h3
 obtain ⟨c7,h8⟩ := Zz h6
 refine zr [0,1,5,7,8,16] 0 c7 (rq1 (ZdH _ _ _ q5) rqn) (Zb (cn h8 (fun _ h10 => ?_) (fun _ h11 => ?_)))
 exact Za (zg [4] 0 (Zb (Zg (ZC (Zh (rr h10 ⟨rfl,er0 _⟩))))))
 exact Zd (XK (Zb (zg [0,1,7,8] 0 (rn h11))))
 exact ZH (Xn (re h4 ⟨rfl,kq⟩))
 intro e14 s15 o16
 rcases y4 with g5 | y6
 have h17 := XG h13
 exact zi o16 (Za (zg [4] 0 (Zb (Zg (er1 h17)))))
 have h18 := XH h13
 obtain ⟨rfl,n20⟩ := o16
 refine ZC (Zh ?_)
 obtain rfl := Option.some.inj h18
 exact n20
theorem Zar (a0 : Zf) (a1 : Int) (r : Int) (h : M.Vm a0 a1 = some r) : Fn Tryz.prog 87 [.agg (Zu a0),.int .u32 a1] (.pure (.int .i64 r)) := by
 unfold M.Vm at h
 refine ZL Tryz.func87 rfl (by kernel_rfl) (Za (zg [2,3] 2 (Zb (Za ?_))))
 obtain ⟨r1,q1,h2⟩ := bind_some h
 exact zr [4] 0 ZA (rq1 (V7 _ _ _ q1) rqn) (Zb (Zg (er1 h2)))
theorem Zb8 (a0 : Zf) (a1 : Yk) (r : Bool) (h : M.QG a0 a1 = some r) : Fn Tryz.prog 142 [.agg (Zu a0),.agg (ZX a1)] (.pure (.bool r)) := by
 let u1 : Nat × D := (16,sL 1 cb ([a1.Ve != 0,!strEq a1.Qx (⟨#[]⟩ : ByteArray),a1.Vf] : List Bool))
 let u2 : List Ob := [.box (Zu a0),.box (ZX a1)]
 unfold M.QG at h
 refine ZL Tryz.func142 rfl (by kernel_rfl) (Za (zg [2,3] 2 (Zb (Za (zg [2,3,5] 2 (Zb (Za (Za (rg0 [2,3,5,16,17,18] 2 ⟨55,[(2,.ref 0 0),(3,.ref 1 0),(5,.int .i64 0),(16,.sl true 1 3 (fun i => List.take 1 (List.drop (i * 1) [.bool (a1.Ve != 0),.bool (!strEq a1.Qx (⟨#[]⟩ : ByteArray)),.bool a1.Vf]))),(17,.int .i64 3),(18,.int .i64 0)],[.box (Zu a0),.box (ZX a1)]⟩ (XJ (s' := ⟨55,[(2,.ref 0 0),(3,.ref 1 0),(5,.int .i64 0),(16,sL 1 cb ([a1.Ve != 0,!strEq a1.Qx (⟨#[]⟩ : ByteArray),a1.Vf] : List Bool)),(17,.int .i64 3),(18,.int .i64 0)],[.box (Zu a0),.box (ZX a1)]⟩) (VB (.cons Sub.rfl (.cons Sub.rfl (.cons Sub.rfl (.cons (Un rfl (fun i hi => match i,hi with | 0,_ => rfl | 1,_ => rfl | 2,_ => rfl | n + 3,h => absurd h (by omega))) (.cons Sub.rfl (.cons Sub.rfl .nil)))))) (.cons .rfl (.cons .rfl .nil))) (Zi ?_)))))))))))
 obtain ⟨y4,q12,h13⟩ := bind_some h
 refine zl (fun (p1 : Int × Int) => ⟨55,[(2,.ref 0 0),(3,.ref 1 0),(5,.int .i64 p1.1),u1,(17,.int .i64 3),(18,.int .i64 p1.2)],u2⟩) (fun z => OutE 0 (fun z => ⟨55,[(2,.ref 0 0),(3,.ref 1 0),(5,.int .i64 z)],u2⟩) z) q12 ?_ ?_
 intro p1 y2 h1
 unfold M.Y7 at h1
 refine Za (rg0 [2,3,5,16,17,18,19] 2 ⟨55,[(2,.ref 0 0),(3,.ref 1 0),(5,.int .i64 p1.1),u1,(17,.int .i64 3),(18,.int .i64 p1.2),(19,.bool (decide (p1.2 < 3)))],u2⟩ (Zb (Za (cn h1 (fun _ h3 => ?_) (fun _ h4 => ?_)))))
 refine Zd (Zb (UT (fun (p3 : Int) => ⟨55,[(2,.ref 0 0),(3,.ref 1 0),(5,.int .i64 p3),u1,(17,.int .i64 3),(18,.int .i64 p1.2)],u2⟩) (fun p3 => M.YJ p1 p3 = some y2) ?_ ?_))
 intro p3 h6
 unfold M.YJ at h6
 exact zg [2,3,5,16,17,18] 2 (rn h6)
 intro k5
 refine Zi (Za ?_)
 obtain ⟨c7,h8⟩ := Zz h3
 refine zc [2,3,5,7,16,17,18] 2 c7 (Zb (Za (zg [2,3,5,16,17,18,22] 2 (Zb (cn h8 (fun _ h10 => ?_) (fun _ h11 => ?_))))))
 exact zg [2,3,5,16,17,18] 2 (XK (XJ lk (k5 (wr .i64 (p1.1 + 1)) h10)))
 exact Zd (XK (XJ kq (k5 p1.1 h11)))
 exact ZH (Xn (re h4 ⟨rfl,kq⟩))
 intro e14 s15 o16
 refine zi o16 (Za ?_)
 obtain ⟨r5,q18,h19⟩ := bind_some h13
 obtain ⟨r6,q20,h21⟩ := bind_some h19
 obtain ⟨r7,q22,h23⟩ := bind_some h21
 obtain ⟨r8,q24,h25⟩ := bind_some h23
 exact zr [4] 0 ZA (rq1 (UH _ _ q18) (rq2 (fun hg => Zar _ _ _ (Xj q20 hg)) (rq2 (fun hg => XW _ _ _ _ (Xj q22 hg)) (rq2 (fun hg => XW _ _ _ _ (Xj q24 hg)) rqn)))) (Zb (Zg (er1 h25)))
theorem Zbr (a0 : Zf) (r : Int) (h : M.QM a0 = some r) : Fn Tryz.prog 81 [.agg (Zu a0)] (.pure (.int .i64 r)) := by
 let u2 : Nat × D := (13,sL 7 ZX a0.Zr)
 let u3 := (a0.Zr.length : Int)
 let u6 := Zu a0
 unfold M.QM at h
 refine ZL Tryz.func81 rfl (by kernel_rfl) (Za (zg [1] 1 (Zb (Za (Za (zg [1,11] 1 (Zb (cn h (fun _ h2 => ?_) (fun _ h3 => ?_)))))))))
 exact Za (zg [2] 0 (Zb (Zg (Zh (er1 h2)))))
 refine Zd (Zb (Za (Za (zg [1,13,14,15] 1 (Zb (Zi ?_))))))
 obtain ⟨y11,q50,h51⟩ := bind_some h3
 refine zl (fun (p1 : Int) => ⟨63,[(1,.ref 0 0),u2,(14,.int .i64 u3),(15,.int .i64 p1)],[.box u6]⟩) (Sum.elim (fun z => OutE 0 (fun z => ⟨63,[],[]⟩) z) (fun z => OutR Tryz.prog Tryz.f81 (.int .i64 z))) q50 ?_ ?_
 intro p1 y2 h4
 let u4 := a0.Zr.getD p1.toNat default
 let u1 : List Ob := [.box u6,.box (ZX u4)]
 let u5 : Nat × D := (43,sL 7 ZX ((a0.Zr.drop 0).take (p1.toNat - 0)))
 unfold M.Qm at h4
 refine Za (zg [1,13,14,15,16] 1 (Zb (Za (cn h4 (fun _ h6 => ?_) (fun _ h7 => ?_)))))
 refine Zd (Zb (Za (Zi (Za ?_))))
 obtain ⟨c8,h9⟩ := Zz h6
 refine zc [1,3,4,13,14,15] 2 c8 (Zb (Za (Za ?_)))
 obtain ⟨r3,q10,h11⟩ := bind_some h9
 refine rg [.pure (.bool r3)] [1,3,4,13,14,15,23] 2 ⟨63,[(1,.ref 0 0),(3,.int .i64 p1),(4,.ref 1 0),u2,(14,.int .i64 u3),(15,.int .i64 p1),(23,.bool (!r3))],u1⟩ [] [⟨true,142,[.agg u6,.agg (ZX u4)],.pure (.bool r3)⟩] ZA ⟨fun _ => Zb8 a0 u4 r3 q10,trivial⟩ (Zb (cn h11 (fun _ h13 => ?_) (fun _ h14 => ?_)))
 exact Za (zg [2] 0 (Zb (Zg (Zh (ZC (Zh (rr h13 ⟨rfl,er0 _⟩)))))))
 refine Zd (Zb (UT (fun (p4 : Unit) => ⟨63,[(1,.ref 0 0),(3,.int .i64 p1),(4,.ref 1 0),u2,(14,.int .i64 u3),(15,.int .i64 p1)],u1⟩) (fun p4 => M.YE a0 p1 p4 = some y2) ?_ ?_))
 intro p4 h16
 unfold M.YE at h16
 refine Za ?_
 obtain ⟨c17,h18⟩ := Zz h16
 refine rgc [1,4,13,14,15,43,44,45] 2 ⟨63,[(1,.ref 0 0),(4,.ref 1 0),u2,(14,.int .i64 u3),(15,.int .i64 p1),(43,.sl false 7 (p1.toNat - 0) (fun i => ZX (a0.Zr.getD (0 + i) default))),(44,.int .i64 ((p1.toNat - 0 : Nat) : Int)),(45,.int .i64 0)],u1⟩ [decide (0 ≤ p1),decide (p1 ≤ u3)] c17 (XJ (s' := ⟨63,[(1,.ref 0 0),(4,.ref 1 0),u2,(14,.int .i64 u3),(15,.int .i64 p1),u5,(44,.int .i64 ((p1.toNat - 0 : Nat) : Int)),(45,.int .i64 0)],u1⟩) (VB (.cons Sub.rfl (.cons Sub.rfl (.cons Sub.rfl (.cons Sub.rfl (.cons Sub.rfl (.cons (Un (Rc _ _ _ (ZaN (c17 _ (List.mem_cons_of_mem _ List.mem_cons_self)))) (Rb _ _ _ _)) (.cons Sub.rfl (.cons Sub.rfl .nil)))))))) (.cons .rfl (.cons .rfl .nil))) (Zi ?_))
 obtain ⟨y7,q28,h29⟩ := bind_some h18
 refine zl (fun (p5 : Int) => ⟨63,[(1,.ref 0 0),(4,.ref 1 0),u2,(14,.int .i64 u3),(15,.int .i64 p1),u5,(44,.int .i64 ((p1.toNat - 0 : Nat) : Int)),(45,.int .i64 p5)],u1⟩) (Sum.elim (fun z => OutE 2 (fun z => ⟨63,[(1,.ref 0 0),u2,(14,.int .i64 u3),(15,.int .i64 p1)],[.box u6]⟩) z) (fun z => OutR Tryz.prog Tryz.f81 (.int .i64 z))) q28 ?_ ?_
 intro p5 y6 h19
 unfold M.YR at h19
 refine Za (zg [1,4,13,14,15,43,44,45,46] 2 (Zb (Za (cn h19 (fun _ h21 => ?_) (fun _ h22 => ?_)))))
 refine Zd (Zb (Za (Zi (Za ?_))))
 obtain ⟨c23,h24⟩ := Zz h21
 refine zc [1,4,7,13,14,15,43,44,45] 3 c23 (Zb (Za (zg [1,4,13,14,15,43,44,45,60] 2 (Zb (cn h24 (fun _ h26 => ?_) (fun _ h27 => ?_))))))
 exact Za (zg [2] 0 (Zb (Zg (ZC (Zh (rr h26 ⟨rfl,er0 _⟩))))))
 exact Zd (XK (Zb (zg [1,4,13,14,15,43,44,45] 2 (rn h27))))
 exact ZH (Xn (re h22 ⟨rfl,kc⟩))
 intro e30 s31 o32
 rcases y7 with g8 | y9
 have h33 := XG h29
 obtain ⟨rfl,l35⟩ := o32
 exact YP (XK (XJ (s' := ⟨63,[(1,.ref 0 0),u2,(14,.int .i64 u3),(15,.int .i64 p1)],[.box u6]⟩) (l35) (zg [1,13,14,15] 1 (rn h33))))
 have h34 := XH h29
 obtain ⟨rfl,n36⟩ := o32
 exact ZC (ZC (Zh (rr h34 ⟨rfl,n36⟩)))
 intro k15
 refine Za (zg [1,3,4,13,14,15,26] 2 (Zb (cn h14 (fun _ h38 => ?_) (fun _ h39 => ?_))))
 refine Za ?_
 obtain ⟨r10,q40,h41⟩ := bind_some h38
 refine zr [1,3,4,5,13,14,15] 2 ZA (rq1 (Ru _ _ _ q40) rqn) (Zb (Za (Za (zg [1,3,4,5,13,14,15,32] 2 (Zb (cn h41 (fun _ h43 => ?_) (fun _ h44 => ?_)))))))
 exact Za (zg [2] 0 (Zb (Zg (Zh (Zh (ZC (Zh (rr h43 ⟨rfl,er0 _⟩))))))))
 refine Zd (Zb (Za ?_))
 obtain ⟨c45,h46⟩ := Zz h44
 refine zc [1,3,4,13,14,15,39] 2 c45 (Zb (cn h46 (fun _ h48 => ?_) (fun _ h49 => ?_)))
 exact Za (zg [2] 0 (Zb (Zg (Zh (ZC (Zh (rr h48 ⟨rfl,er0 _⟩)))))))
 exact Zd (XJ kq (k15 () h49))
 exact Zd (XJ kq (k15 () h39))
 exact ZH (Xn (re h7 ⟨rfl,kc⟩))
 intro e52 s53 o54
 rcases y11 with g12 | y13
 have h55 := XG h51
 exact zi o54 (Za (zg [2] 0 (Zb (Zg (er1 h55)))))
 have h56 := XH h51
 obtain ⟨rfl,n58⟩ := o54
 refine ZC (Zh ?_)
 obtain rfl := Option.some.inj h56
 exact n58
theorem GI (a0 : Zf) (a1 : List Yi) (a2 : Int) (a3 : Int) (a4 : Int) (a5 : Int) (r : Int) (h : M.YI a0 a1 a2 a3 a4 a5 = some r) : Fn Tryz.prog 143 [.agg (Zu a0),sL 5 Zx a1,.int .i64 a2,.int .i64 a3,.int .i64 a4,.int .i64 a5] (.pure (.int .i64 r)) := by
 let u2 : Nat × D := (20,sL 5 Zx a1)
 let u3 : Nat × D := (1,sL 5 Zx a1)
 let u4 := (a1.length : Int)
 let u6 := Zu a0
 unfold M.YI at h
 refine ZL Tryz.func143 rfl (by kernel_rfl) (Za (zg [1,2,3,4,5,6] 1 (Zb (Za (Za (zg [1,2,3,4,5,6,19] 1 (Zb (cn h (fun _ h2 => ?_) (fun _ h3 => ?_)))))))))
 exact Za (zg [12] 0 (Zb (Zg (Zh (er1 h2)))))
 refine Zd (Zb (Za (Za (zg [1,2,3,4,5,6,20,21,22] 1 (Zb (Zi ?_))))))
 obtain ⟨y13,q46,h47⟩ := bind_some h3
 refine zl (fun (p1 : Int) => ⟨85,[u3,(2,.int .i64 a2),(3,.int .i64 a3),(4,.int .i64 a4),(5,.int .i64 a5),(6,.ref 0 0),u2,(21,.int .i64 u4),(22,.int .i64 p1)],[.box u6]⟩) (Sum.elim (fun z => OutE 0 (fun z => ⟨85,[],[]⟩) z) (fun z => OutR Tryz.prog Tryz.f143 (.int .i64 z))) q46 ?_ ?_
 intro p1 y2 h4
 let u1 : List Ob := [.box u6,.box (Zx (a1.getD p1.toNat default))]
 let u5 : Nat × D := (72,sL 5 Zx ((a1.drop 0).take (p1.toNat - 0)))
 unfold M.Qz at h4
 refine Za (zg [1,2,3,4,5,6,20,21,22,23] 1 (Zb (Za (cn h4 (fun _ h6 => ?_) (fun _ h7 => ?_)))))
 refine Zd (Zb (Za (Zi (Za ?_))))
 obtain ⟨c8,h9⟩ := Zz h6
 refine zc [1,2,3,4,5,6,13,14,20,21,22] 2 c8 (Zb (Za (Za ?_)))
 obtain ⟨r3,q10,h11⟩ := bind_some h9
 obtain ⟨r4,q12,h13⟩ := bind_some h11
 obtain ⟨r5,q14,h15⟩ := bind_some h13
 obtain ⟨r6,q16,h17⟩ := bind_some h15
 refine zr [1,2,3,4,5,6,13,14,20,21,22,59] 2 ZA (rq1 (XW _ _ _ _ q10) (rq2 (fun hg => XW _ _ _ _ (Xj q12 hg)) (rq2 (fun hg => XW _ _ _ _ (Xj q14 hg)) (rq2 (fun hg => XW _ _ _ _ (Xj q16 hg)) rqn)))) (Zb (cn h17 (fun _ h19 => ?_) (fun _ h20 => ?_)))
 exact Za (zg [12] 0 (Zb (Zg (Zh (ZC (Zh (rr h19 ⟨rfl,er0 _⟩)))))))
 refine Zd (Zb (Za (Za ?_)))
 obtain ⟨r7,q21,h22⟩ := bind_some h20
 refine zr [1,2,3,4,5,6,13,14,20,21,22,69] 2 ZA (rq2 (fun hg => Gx _ _ _ (Xj q21 hg)) rqn) (Zb (cn h22 (fun _ h24 => ?_) (fun _ h25 => ?_)))
 exact Za (zg [12] 0 (Zb (Zg (Zh (ZC (Zh (rr h24 ⟨rfl,er0 _⟩)))))))
 refine Zd (Zb (Za ?_))
 obtain ⟨c26,h27⟩ := Zz h25
 refine rgc [1,2,3,4,5,6,14,20,21,22,72,73,74] 2 ⟨85,[u3,(2,.int .i64 a2),(3,.int .i64 a3),(4,.int .i64 a4),(5,.int .i64 a5),(6,.ref 0 0),(14,.ref 1 0),u2,(21,.int .i64 u4),(22,.int .i64 p1),(72,.sl false 5 (p1.toNat - 0) (fun i => Zx (a1.getD (0 + i) default))),(73,.int .i64 ((p1.toNat - 0 : Nat) : Int)),(74,.int .i64 0)],u1⟩ [decide (0 ≤ p1),decide (p1 ≤ u4)] c26 (XJ (s' := ⟨85,[u3,(2,.int .i64 a2),(3,.int .i64 a3),(4,.int .i64 a4),(5,.int .i64 a5),(6,.ref 0 0),(14,.ref 1 0),u2,(21,.int .i64 u4),(22,.int .i64 p1),u5,(73,.int .i64 ((p1.toNat - 0 : Nat) : Int)),(74,.int .i64 0)],u1⟩) (VB (.cons Sub.rfl (.cons Sub.rfl (.cons Sub.rfl (.cons Sub.rfl (.cons Sub.rfl (.cons Sub.rfl (.cons Sub.rfl (.cons Sub.rfl (.cons Sub.rfl (.cons Sub.rfl (.cons (Un (Rc _ _ _ (ZaN (c26 _ (List.mem_cons_of_mem _ List.mem_cons_self)))) (Rb _ _ _ _)) (.cons Sub.rfl (.cons Sub.rfl .nil))))))))))))) (.cons .rfl (.cons .rfl .nil))) (Zi ?_))
 obtain ⟨y10,q37,h38⟩ := bind_some h27
 refine zl (fun (p8 : Int) => ⟨85,[u3,(2,.int .i64 a2),(3,.int .i64 a3),(4,.int .i64 a4),(5,.int .i64 a5),(6,.ref 0 0),(14,.ref 1 0),u2,(21,.int .i64 u4),(22,.int .i64 p1),u5,(73,.int .i64 ((p1.toNat - 0 : Nat) : Int)),(74,.int .i64 p8)],u1⟩) (Sum.elim (fun z => OutE 2 (fun z => ⟨85,[u3,(2,.int .i64 a2),(3,.int .i64 a3),(4,.int .i64 a4),(5,.int .i64 a5),(6,.ref 0 0),u2,(21,.int .i64 u4),(22,.int .i64 p1)],[.box u6]⟩) z) (fun z => OutR Tryz.prog Tryz.f143 (.int .i64 z))) q37 ?_ ?_
 intro p8 y9 h28
 unfold M.Y8 at h28
 refine Za (zg [1,2,3,4,5,6,14,20,21,22,72,73,74,75] 2 (Zb (Za (cn h28 (fun _ h30 => ?_) (fun _ h31 => ?_)))))
 refine Zd (Zb (Za (Zi (Za ?_))))
 obtain ⟨c32,h33⟩ := Zz h30
 refine zc [1,2,3,4,5,6,14,16,20,21,22,72,73,74] 3 c32 (Zb (Za (zg [1,2,3,4,5,6,14,20,21,22,72,73,74,82] 2 (Zb (cn h33 (fun _ h35 => ?_) (fun _ h36 => ?_))))))
 exact Za (zg [12] 0 (Zb (Zg (ZC (Zh (rr h35 ⟨rfl,er0 _⟩))))))
 exact Zd (XK (Zb (zg [1,2,3,4,5,6,14,20,21,22,72,73,74] 2 (rn h36))))
 exact ZH (Xn (re h31 ⟨rfl,kc⟩))
 intro e39 s40 o41
 rcases y10 with g11 | y12
 have h42 := XG h38
 obtain ⟨rfl,l44⟩ := o41
 exact YP (XK (XJ (s' := ⟨85,[u3,(2,.int .i64 a2),(3,.int .i64 a3),(4,.int .i64 a4),(5,.int .i64 a5),(6,.ref 0 0),u2,(21,.int .i64 u4),(22,.int .i64 p1)],[.box u6]⟩) (l44) (zg [1,2,3,4,5,6,20,21,22] 1 (rn h42))))
 have h43 := XH h38
 obtain ⟨rfl,n45⟩ := o41
 exact ZC (ZC (Zh (rr h43 ⟨rfl,n45⟩)))
 exact ZH (Xn (re h7 ⟨rfl,kc⟩))
 intro e48 s49 o50
 rcases y13 with g14 | y15
 have h51 := XG h47
 exact zi o50 (Za (zg [12] 0 (Zb (Zg (er1 h51)))))
 have h52 := XH h47
 obtain ⟨rfl,n54⟩ := o50
 refine ZC (Zh ?_)
 obtain rfl := Option.some.inj h52
 exact n54
theorem Zas (a0 : Zf) (r : Int) (h : M.Y9 a0 = some r) : Fn Tryz.prog 82 [.agg (Zu a0)] (.pure (.int .i64 r)) := by
 let u2 : Nat × D := (37,sL 3 Xl a0.X0.ZE)
 let u3 := (a0.X0.ZE.length : Int)
 let u4 : List Ob := [.box (Zu a0),.box (Rf a0.X0)]
 unfold M.Y9 at h
 refine ZL Tryz.func82 rfl (by kernel_rfl) (Za (zg [1] 1 (Zb (Za (zg [1,3] 2 (Zb (Za (Za (zg [1,3,12] 2 (Zb (cn h (fun _ h2 => ?_) (fun _ h3 => ?_))))))))))))
 refine Za (Za (zg [27] 0 (Zb (cn h2 (fun _ h5 => ?_) (fun _ h6 => ?_)))))
 exact Za (zg [2] 0 (Zb (Zg (Zh (Zh (er1 h5))))))
 exact Zd (Zb (Za (zg [2] 0 (Zb (Zg (Zh (er1 h6)))))))
 refine Zd (Zb (Za (Za ?_)))
 obtain ⟨r1,q7,h8⟩ := bind_some h3
 refine zr [1,3,31] 2 ZA (rq1 (XW _ _ _ _ q7) rqn) (Zb (cn h8 (fun _ h10 => ?_) (fun _ h11 => ?_)))
 exact Za (zg [2] 0 (Zb (Zg (Zh (er1 h10)))))
 refine Zd (Zb (Za (Za (zg [1,3,35] 2 (Zb (cn h11 (fun _ h13 => ?_) (fun _ h14 => ?_)))))))
 exact Za (zg [2] 0 (Zb (Zg (Zh (er1 h13)))))
 refine Zd (Zb (Za (Za (zg [1,3,37,38,39] 2 (Zb (Zi ?_))))))
 obtain ⟨y12,q50,h51⟩ := bind_some h14
 refine zl (fun (p2 : Int) => ⟨81,[(1,.ref 0 0),(3,.ref 1 0),u2,(38,.int .i64 u3),(39,.int .i64 p2)],u4⟩) (Sum.elim (fun z => OutE 0 (fun z => ⟨81,[(1,.ref 0 0),(3,.ref 1 0)],u4⟩) z) (fun z => OutR Tryz.prog Tryz.f82 (.int .i64 z))) q50 ?_ ?_
 intro p2 y3 h15
 let u1 : List Ob := [.box (Zu a0),.box (Rf a0.X0),.box (Xl (a0.X0.ZE.getD p2.toNat default))]
 let u5 : Nat × D := (57,sL 3 Xl ((a0.X0.ZE.drop 0).take (p2.toNat - 0)))
 unfold M.YL at h15
 refine Za (zg [1,3,37,38,39,40] 2 (Zb (Za (cn h15 (fun _ h17 => ?_) (fun _ h18 => ?_)))))
 refine Zd (Zb (Za (Zi (Za ?_))))
 obtain ⟨c19,h20⟩ := Zz h17
 refine zc [1,3,4,5,37,38,39] 3 c19 (Zb (Za (Za ?_)))
 obtain ⟨r4,q21,h22⟩ := bind_some h20
 obtain ⟨r5,q23,h24⟩ := bind_some h22
 refine zr [1,3,4,5,37,38,39,53] 3 ZA (rq1 (XW _ _ _ _ q21) (rq2 (fun hg => UH _ _ (Xj q23 hg)) rqn)) (Zb (cn h24 (fun _ h26 => ?_) (fun _ h27 => ?_)))
 exact Za (zg [2] 0 (Zb (Zg (Zh (ZC (Zh (rr h26 ⟨rfl,er0 _⟩)))))))
 refine Zd (Zb (Za ?_))
 obtain ⟨c28,h29⟩ := Zz h27
 refine rgc [1,3,5,37,38,39,57,58,59] 3 ⟨81,[(1,.ref 0 0),(3,.ref 1 0),(5,.ref 2 0),u2,(38,.int .i64 u3),(39,.int .i64 p2),(57,.sl false 3 (p2.toNat - 0) (fun i => Xl (a0.X0.ZE.getD (0 + i) default))),(58,.int .i64 ((p2.toNat - 0 : Nat) : Int)),(59,.int .i64 0)],u1⟩ [decide (0 ≤ p2),decide (p2 ≤ u3)] c28 (XJ (s' := ⟨81,[(1,.ref 0 0),(3,.ref 1 0),(5,.ref 2 0),u2,(38,.int .i64 u3),(39,.int .i64 p2),u5,(58,.int .i64 ((p2.toNat - 0 : Nat) : Int)),(59,.int .i64 0)],u1⟩) (VB (.cons Sub.rfl (.cons Sub.rfl (.cons Sub.rfl (.cons Sub.rfl (.cons Sub.rfl (.cons Sub.rfl (.cons (Un (Rc _ _ _ (ZaN (c28 _ (List.mem_cons_of_mem _ List.mem_cons_self)))) (Rb _ _ _ _)) (.cons Sub.rfl (.cons Sub.rfl .nil))))))))) (.cons .rfl (.cons .rfl (.cons .rfl .nil)))) (Zi ?_))
 obtain ⟨y9,q41,h42⟩ := bind_some h29
 refine zl (fun (p6 : Int) => ⟨81,[(1,.ref 0 0),(3,.ref 1 0),(5,.ref 2 0),u2,(38,.int .i64 u3),(39,.int .i64 p2),u5,(58,.int .i64 ((p2.toNat - 0 : Nat) : Int)),(59,.int .i64 p6)],u1⟩) (Sum.elim (fun z => OutE 2 (fun z => ⟨81,[(1,.ref 0 0),(3,.ref 1 0),u2,(38,.int .i64 u3),(39,.int .i64 p2)],u4⟩) z) (fun z => OutR Tryz.prog Tryz.f82 (.int .i64 z))) q41 ?_ ?_
 intro p6 y7 h30
 unfold M.YA at h30
 refine Za (zg [1,3,5,37,38,39,57,58,59,60] 3 (Zb (Za (cn h30 (fun _ h32 => ?_) (fun _ h33 => ?_)))))
 refine Zd (Zb (Za (Zi (Za ?_))))
 obtain ⟨c34,h35⟩ := Zz h32
 refine zc [1,3,5,7,37,38,39,57,58,59] 4 c34 (Zb (Za ?_))
 obtain ⟨r8,q36,h37⟩ := bind_some h35
 refine zr [1,3,5,37,38,39,57,58,59,74] 3 ZA (rq2 (fun hg => Zap _ _ _ (Xj q36 hg)) rqn) (Zb (cn h37 (fun _ h39 => ?_) (fun _ h40 => ?_)))
 exact Za (zg [2] 0 (Zb (Zg (ZC (Zh (rr h39 ⟨rfl,er0 _⟩))))))
 exact Zd (XK (Zb (zg [1,3,5,37,38,39,57,58,59] 3 (rn h40))))
 exact ZH (Xn (re h33 ⟨rfl,kc⟩))
 intro e43 s44 o45
 rcases y9 with g10 | y11
 have h46 := XG h42
 obtain ⟨rfl,l48⟩ := o45
 exact YP (XK (XJ (s' := ⟨81,[(1,.ref 0 0),(3,.ref 1 0),u2,(38,.int .i64 u3),(39,.int .i64 p2)],u4⟩) (l48) (zg [1,3,37,38,39] 2 (rn h46))))
 have h47 := XH h42
 obtain ⟨rfl,n49⟩ := o45
 exact ZC (ZC (Zh (rr h47 ⟨rfl,n49⟩)))
 exact ZH (Xn (re h18 ⟨rfl,kq⟩))
 intro e52 s53 o54
 rcases y12 with g13 | y14
 have h55 := XG h51
 refine zi o54 (Za ?_)
 obtain ⟨r15,q58,h59⟩ := bind_some h55
 exact zr [2] 0 ZA (rq1 (GI _ _ _ _ _ _ _ q58) rqn) (Zb (Zg (er1 h59)))
 have h56 := XH h51
 obtain ⟨rfl,n60⟩ := o54
 refine ZC (Zh ?_)
 obtain rfl := Option.some.inj h56
 exact n60
theorem K0 (a0 : Zf) (r : Int) (h : M.Yn a0 = some r) : Fn Tryz.prog 83 [.agg (Zu a0)] (.pure (.int .i64 r)) := by
 unfold M.Yn at h
 refine ZL Tryz.func83 rfl (by kernel_rfl) (Za (zg [1] 1 (Zb (Za (zg [1,3] 2 (Zb (Za (Za (zg [1,3,8] 2 (Zb (cn h (fun _ h2 => ?_) (fun _ h3 => ?_))))))))))))
 refine Za (Za (zg [27] 0 (Zb (cn h2 (fun _ h5 => ?_) (fun _ h6 => ?_)))))
 exact Za (zg [2] 0 (Zb (Zg (Zh (Zh (er1 h5))))))
 exact Zd (Zb (Za (zg [2] 0 (Zb (Zg (Zh (er1 h6)))))))
 refine Zd (Zb (Za (Za ?_)))
 obtain ⟨r1,q7,h8⟩ := bind_some h3
 refine zr [1,3,31] 2 ZA (rq1 (XW _ _ _ _ q7) rqn) (Zb (cn h8 (fun _ h10 => ?_) (fun _ h11 => ?_)))
 exact Za (zg [2] 0 (Zb (Zg (Zh (er1 h10)))))
 refine Zd (Zb (Za (Za ?_)))
 obtain ⟨r2,q12,h13⟩ := bind_some h11
 obtain ⟨r3,q14,h15⟩ := bind_some h13
 refine zr [1,3,53] 2 ZA (rq2 (fun hg => UN _ _ _ (Xj q12 hg)) (rq2 (fun hg => UN _ _ _ (Xj q14 hg)) rqn)) (Zb (cn h15 (fun _ h17 => ?_) (fun _ h18 => ?_)))
 exact Za (zg [2] 0 (Zb (Zg (Zh (er1 h17)))))
 refine Zd (Zb (Za ?_))
 obtain ⟨r4,q19,h20⟩ := bind_some h18
 exact zr [2] 0 ZA (rq1 (GI _ _ _ _ _ _ _ q19) rqn) (Zb (Zg (er1 h20)))
theorem Zat (a0 : Zf) (r : Int) (h : M.Qa a0 = some r) : Fn Tryz.prog 144 [.agg (Zu a0)] (.pure (.int .i64 r)) := by
 let u1 : Nat × D := (14,sL 4 Xu a0.ZW.Zk)
 let u2 := (a0.ZW.Zk.length : Int)
 let u5 := Zu a0
 unfold M.Qa at h
 refine ZL Tryz.func144 rfl (by kernel_rfl) (Za (zg [1] 1 (Zb (Za (Za (zg [1,11] 1 (Zb (cn h (fun _ h2 => ?_) (fun _ h3 => ?_)))))))))
 exact Za (zg [2] 0 (Zb (Zg (Zh (er1 h2)))))
 refine Zd (Zb (Za (Za (zg [1,14,15,16] 1 (Zb (Zi ?_))))))
 obtain ⟨y11,q42,h43⟩ := bind_some h3
 refine zl (fun (p1 : Int) => ⟨69,[(1,.ref 0 0),u1,(15,.int .i64 u2),(16,.int .i64 p1)],[.box u5]⟩) (Sum.elim (fun z => OutE 0 (fun z => ⟨69,[],[]⟩) z) (fun z => OutR Tryz.prog Tryz.f144 (.int .i64 z))) q42 ?_ ?_
 intro p1 y2 h4
 let u3 : List Ob := [.box u5,.box (Xu (a0.ZW.Zk.getD p1.toNat default))]
 let u4 : Nat × D := (56,sL 4 Xu ((a0.ZW.Zk.drop 0).take (p1.toNat - 0)))
 unfold M.YM at h4
 refine Za (zg [1,14,15,16,17] 1 (Zb (Za (cn h4 (fun _ h6 => ?_) (fun _ h7 => ?_)))))
 refine Zd (Zb (Za (Zi (Za ?_))))
 obtain ⟨c8,h9⟩ := Zz h6
 refine zc [1,3,4,14,15,16] 2 c8 (Zb (Za (Za ?_)))
 obtain ⟨r3,q10,h11⟩ := bind_some h9
 refine zr [1,3,4,14,15,16,29] 2 ZA (rq2 (fun hg => XW _ _ _ _ (Xj q10 hg)) rqn) (Zb (cn h11 (fun _ h13 => ?_) (fun _ h14 => ?_)))
 exact Za (zg [2] 0 (Zb (Zg (Zh (ZC (Zh (rr h13 ⟨rfl,er0 _⟩)))))))
 refine Zd (Zb (Za (Za ?_)))
 obtain ⟨r4,q15,h16⟩ := bind_some h14
 obtain ⟨r5,q17,h18⟩ := bind_some h16
 refine zr [1,3,4,14,15,16,51] 2 ZA (rq2 (fun hg => Gx _ _ _ (Xj q15 hg)) (rq2 (fun hg => Gx _ _ _ (Xj q17 hg)) rqn)) (Zb (cn h18 (fun _ h20 => ?_) (fun _ h21 => ?_)))
 exact Za (zg [2] 0 (Zb (Zg (Zh (ZC (Zh (rr h20 ⟨rfl,er0 _⟩)))))))
 refine Zd (Zb (Za ?_))
 obtain ⟨c22,h23⟩ := Zz h21
 refine rgc [1,4,14,15,16,56,57,58] 2 ⟨69,[(1,.ref 0 0),(4,.ref 1 0),u1,(15,.int .i64 u2),(16,.int .i64 p1),(56,.sl false 4 (p1.toNat - 0) (fun i => Xu (a0.ZW.Zk.getD (0 + i) default))),(57,.int .i64 ((p1.toNat - 0 : Nat) : Int)),(58,.int .i64 0)],u3⟩ [decide (0 ≤ p1),decide (p1 ≤ u2)] c22 (XJ (s' := ⟨69,[(1,.ref 0 0),(4,.ref 1 0),u1,(15,.int .i64 u2),(16,.int .i64 p1),u4,(57,.int .i64 ((p1.toNat - 0 : Nat) : Int)),(58,.int .i64 0)],u3⟩) (VB (.cons Sub.rfl (.cons Sub.rfl (.cons Sub.rfl (.cons Sub.rfl (.cons Sub.rfl (.cons (Un (Rc _ _ _ (ZaN (c22 _ (List.mem_cons_of_mem _ List.mem_cons_self)))) (Rb _ _ _ _)) (.cons Sub.rfl (.cons Sub.rfl .nil)))))))) (.cons .rfl (.cons .rfl .nil))) (Zi ?_))
 obtain ⟨y8,q33,h34⟩ := bind_some h23
 refine zl (fun (p6 : Int) => ⟨69,[(1,.ref 0 0),(4,.ref 1 0),u1,(15,.int .i64 u2),(16,.int .i64 p1),u4,(57,.int .i64 ((p1.toNat - 0 : Nat) : Int)),(58,.int .i64 p6)],u3⟩) (Sum.elim (fun z => OutE 2 (fun z => ⟨69,[(1,.ref 0 0),u1,(15,.int .i64 u2),(16,.int .i64 p1)],[.box u5]⟩) z) (fun z => OutR Tryz.prog Tryz.f144 (.int .i64 z))) q33 ?_ ?_
 intro p6 y7 h24
 unfold M.YB at h24
 refine Za (zg [1,4,14,15,16,56,57,58,59] 2 (Zb (Za (cn h24 (fun _ h26 => ?_) (fun _ h27 => ?_)))))
 refine Zd (Zb (Za (Zi (Za ?_))))
 obtain ⟨c28,h29⟩ := Zz h26
 refine zc [1,4,6,14,15,16,56,57,58] 3 c28 (Zb (Za (zg [1,4,14,15,16,56,57,58,66] 2 (Zb (cn h29 (fun _ h31 => ?_) (fun _ h32 => ?_))))))
 exact Za (zg [2] 0 (Zb (Zg (ZC (Zh (rr h31 ⟨rfl,er0 _⟩))))))
 exact Zd (XK (Zb (zg [1,4,14,15,16,56,57,58] 2 (rn h32))))
 exact ZH (Xn (re h27 ⟨rfl,kc⟩))
 intro e35 s36 o37
 rcases y8 with g9 | y10
 have h38 := XG h34
 obtain ⟨rfl,l40⟩ := o37
 exact YP (XK (XJ (s' := ⟨69,[(1,.ref 0 0),u1,(15,.int .i64 u2),(16,.int .i64 p1)],[.box u5]⟩) (l40) (zg [1,14,15,16] 1 (rn h38))))
 have h39 := XH h34
 obtain ⟨rfl,n41⟩ := o37
 exact ZC (ZC (Zh (rr h39 ⟨rfl,n41⟩)))
 exact ZH (Xn (re h7 ⟨rfl,kc⟩))
 intro e44 s45 o46
 rcases y11 with g12 | y13
 have h47 := XG h43
 exact zi o46 (Za (zg [2] 0 (Zb (Zg (er1 h47)))))
 have h48 := XH h43
 obtain ⟨rfl,n50⟩ := o46
 refine ZC (Zh ?_)
 obtain rfl := Option.some.inj h48
 exact n50
theorem GR (a0 : List ZS) (a1 : ZS) (r : Int) (h : M.XS a0 a1 = some r) : Fn Tryz.prog 180 [sL 2 Xc a0,.agg (Xc a1)] (.pure (.int .i64 r)) := by
 unfold M.XS at h
 refine ZL Tryz.func180 rfl (by kernel_rfl) (Za (zg [0,3] 1 (Zb (Za (Za (zg [0,3,7,8] 1 (Zb (Zi ?_))))))))
 obtain ⟨y3,q10,h11⟩ := bind_some h
 refine zl (fun (p1 : Int) => ⟨19,[(0,sL 2 Xc a0),(3,.ref 0 0),(7,.int .i64 (a0.length : Int)),(8,.int .i64 p1)],[.box (Xc a1)]⟩) (Sum.elim (fun z => OutE 0 (fun z => ⟨19,[],[]⟩) z) (fun z => OutR Tryz.prog Tryz.f180 (.int .i64 z))) q10 ?_ ?_
 intro p1 y2 h1
 unfold M.XX at h1
 refine Za (zg [0,3,7,8,9] 1 (Zb (Za (cn h1 (fun _ h3 => ?_) (fun _ h4 => ?_)))))
 refine Zd (Zb (Za (Zi (Za (zg [0,3,5,7,8] 1 (Zb (Za ?_)))))))
 obtain ⟨c5,h6⟩ := Zz h3
 refine zc [0,3,5,7,8,16] 1 c5 (Zb (cn h6 (fun _ h8 => ?_) (fun _ h9 => ?_)))
 exact Za (zg [4] 0 (Zb (Zg (ZC (Zh (rr h8 ⟨rfl,er0 _⟩))))))
 exact Zd (XK (Zb (zg [0,3,7,8] 1 (rn h9))))
 exact ZH (Xn (re h4 ⟨rfl,kc⟩))
 intro e12 s13 o14
 rcases y3 with g4 | y5
 have h15 := XG h11
 exact zi o14 (Za (zg [4] 0 (Zb (Zg (er1 h15)))))
 have h16 := XH h11
 obtain ⟨rfl,n18⟩ := o14
 refine ZC (Zh ?_)
 obtain rfl := Option.some.inj h16
 exact n18
theorem Gs (a0 : List ZS) (a1 : ZS) (r : Bool) (h : M.Xz a0 a1 = some r) : Fn Tryz.prog 173 [sL 2 Xc a0,.agg (Xc a1)] (.pure (.bool r)) := by
 unfold M.Xz at h
 refine ZL Tryz.func173 rfl (by kernel_rfl) (Za (zg [0,3] 1 (Zb (Za ?_))))
 obtain ⟨r1,q1,h2⟩ := bind_some h
 exact zr [4] 0 ZA (rq1 (GR _ _ _ q1) rqn) (Zb (Zg (er1 h2)))
theorem Zbs (a0 : Xg) (r : Int) (h : M.QN a0 = some r) : Fn Tryz.prog 145 [.agg (W4 a0)] (.pure (.int .i64 r)) := by
 let u1 := W4 a0
 let u2 : Nat × D := (40,sL 3 Xm a0.Zq)
 let u3 : Nat × D := (72,sL 5 Xk a0.Zm)
 let u4 := (a0.Zq.length : Int)
 let u5 := (a0.Zm.length : Int)
 let u10 := (a0.Zt.length : Int)
 let u12 : St := ⟨110,[(1,.ref 0 0)],[.box u1]⟩
 unfold M.QN at h
 refine ZL Tryz.func145 rfl (by kernel_rfl) (Za (zg [1] 1 (Zb (Za (Za (zg [1,16] 1 (Zb (cn h (fun _ h2 => ?_) (fun _ h3 => ?_)))))))))
 exact Za (zg [2] 0 (Zb (Zg (Zh (er1 h2)))))
 refine Zd (Zb (Za (Za (zg [1,18,19,20] 1 (Zb (Zi ?_))))))
 obtain ⟨y5,q22,h23⟩ := bind_some h3
 refine zl (fun (p1 : Int) => ⟨110,[(1,.ref 0 0),(18,sL 2 Xc a0.Zt),(19,.int .i64 u10),(20,.int .i64 p1)],[.box u1]⟩) (Sum.elim (fun z => OutE 0 (fun z => u12) z) (fun z => OutR Tryz.prog Tryz.f145 (.int .i64 z))) q22 ?_ ?_
 intro p1 y2 h4
 let u11 := a0.Zt.getD p1.toNat default
 unfold M.YS at h4
 refine Za (zg [1,18,19,20,21] 1 (Zb (Za (cn h4 (fun _ h6 => ?_) (fun _ h7 => ?_)))))
 refine Zd (Zb (Za (Zi (Za ?_))))
 obtain ⟨c8,h9⟩ := Zz h6
 refine zc [1,3,4,18,19,20] 2 c8 (Zb (Za (Za ?_)))
 obtain ⟨r3,q10,h11⟩ := bind_some h9
 refine zr [1,3,4,18,19,20,27] 2 ZA (rq1 (UH _ _ q10) rqn) (Zb (cn h11 (fun _ h13 => ?_) (fun _ h14 => ?_)))
 exact Za (zg [2] 0 (Zb (Zg (Zh (ZC (Zh (rr h13 ⟨rfl,er0 _⟩)))))))
 refine Zd (Zb (Za ?_))
 obtain ⟨r4,q15,h16⟩ := bind_some h14
 obtain ⟨c17,h18⟩ := Zz h16
 refine rg [.pure (.bool r4)] [1,18,19,20,33] 1 ⟨110,[(1,.ref 0 0),(18,sL 2 Xc a0.Zt),(19,.int .i64 u10),(20,.int .i64 p1),(33,.bool r4)],[.box u1]⟩ [decide (0 ≤ p1),decide (p1 ≤ u10)] [⟨true,173,[.sl false 2 (p1.toNat - 0) (fun i => Xc (a0.Zt.getD (0 + i) default)),.agg (Xc u11)],.pure (.bool r4)⟩] c17 ⟨fun _ => (Gs ((a0.Zt.drop 0).take (p1.toNat - 0)) u11 r4 q15).args (.cons (ZhX (Rc _ _ _ (ZaN (c17 _ (List.mem_cons_of_mem _ List.mem_cons_self)))) (Rb _ _ _ _)) (.cons ASub.rfl .nil)),trivial⟩ (Zb (cn h18 (fun _ h20 => ?_) (fun _ h21 => ?_)))
 exact Za (zg [2] 0 (Zb (Zg (ZC (Zh (rr h20 ⟨rfl,er0 _⟩))))))
 exact Zd (XK (Zb (zg [1,18,19,20] 1 (rn h21))))
 exact ZH (Xn (re h7 ⟨rfl,kq⟩))
 intro e24 s25 o26
 rcases y5 with g6 | y7
 have h27 := XG h23
 refine zi o26 (Za (Za (zg [1,38] 1 (Zb (cn h27 (fun _ h31 => ?_) (fun _ h32 => ?_))))))
 exact Za (zg [2] 0 (Zb (Zg (Zh (er1 h31)))))
 refine Zd (Zb (Za (Za (zg [1,40,41,42] 1 (Zb (Zi ?_))))))
 obtain ⟨y16,q64,h65⟩ := bind_some h32
 refine zl (fun (p8 : Int) => ⟨110,[(1,.ref 0 0),u2,(41,.int .i64 u4),(42,.int .i64 p8)],[.box u1]⟩) (Sum.elim (fun z => OutE 2 (fun z => u12) z) (fun z => OutR Tryz.prog Tryz.f145 (.int .i64 z))) q64 ?_ ?_
 intro p8 y9 h33
 let u7 : List Ob := [.box u1,.box (Xm (a0.Zq.getD p8.toNat default))]
 let u9 : Nat × D := (54,sL 3 Xm ((a0.Zq.drop 0).take (p8.toNat - 0)))
 unfold M.YU at h33
 refine Za (zg [1,40,41,42,43] 1 (Zb (Za (cn h33 (fun _ h35 => ?_) (fun _ h36 => ?_)))))
 refine Zd (Zb (Za (Zi (Za ?_))))
 obtain ⟨c37,h38⟩ := Zz h35
 refine zc [1,5,6,40,41,42] 2 c37 (Zb (Za (Za ?_)))
 obtain ⟨r10,q39,h40⟩ := bind_some h38
 refine zr [1,5,6,40,41,42,50] 2 ZA (rq1 (UH _ _ q39) rqn) (Zb (cn h40 (fun _ h42 => ?_) (fun _ h43 => ?_)))
 exact Za (zg [2] 0 (Zb (Zg (Zh (ZC (Zh (rr h42 ⟨rfl,er0 _⟩)))))))
 refine Zd (Zb (Za ?_))
 obtain ⟨c44,h45⟩ := Zz h43
 refine rgc [1,6,40,41,42,54,55,56] 2 ⟨110,[(1,.ref 0 0),(6,.ref 1 0),u2,(41,.int .i64 u4),(42,.int .i64 p8),(54,.sl false 3 (p8.toNat - 0) (fun i => Xm (a0.Zq.getD (0 + i) default))),(55,.int .i64 ((p8.toNat - 0 : Nat) : Int)),(56,.int .i64 0)],u7⟩ [decide (0 ≤ p8),decide (p8 ≤ u4)] c44 (XJ (s' := ⟨110,[(1,.ref 0 0),(6,.ref 1 0),u2,(41,.int .i64 u4),(42,.int .i64 p8),u9,(55,.int .i64 ((p8.toNat - 0 : Nat) : Int)),(56,.int .i64 0)],u7⟩) (VB (.cons Sub.rfl (.cons Sub.rfl (.cons Sub.rfl (.cons Sub.rfl (.cons Sub.rfl (.cons (Un (Rc _ _ _ (ZaN (c44 _ (List.mem_cons_of_mem _ List.mem_cons_self)))) (Rb _ _ _ _)) (.cons Sub.rfl (.cons Sub.rfl .nil)))))))) (.cons .rfl (.cons .rfl .nil))) (Zi ?_))
 obtain ⟨y13,q55,h56⟩ := bind_some h45
 refine zl (fun (p11 : Int) => ⟨110,[(1,.ref 0 0),(6,.ref 1 0),u2,(41,.int .i64 u4),(42,.int .i64 p8),u9,(55,.int .i64 ((p8.toNat - 0 : Nat) : Int)),(56,.int .i64 p11)],u7⟩) (Sum.elim (fun z => OutE 4 (fun z => ⟨110,[(1,.ref 0 0),u2,(41,.int .i64 u4),(42,.int .i64 p8)],[.box u1]⟩) z) (fun z => OutR Tryz.prog Tryz.f145 (.int .i64 z))) q55 ?_ ?_
 intro p11 y12 h46
 unfold M.YT at h46
 refine Za (zg [1,6,40,41,42,54,55,56,57] 2 (Zb (Za (cn h46 (fun _ h48 => ?_) (fun _ h49 => ?_)))))
 refine Zd (Zb (Za (Zi (Za ?_))))
 obtain ⟨c50,h51⟩ := Zz h48
 refine zc [1,6,8,40,41,42,54,55,56] 3 c50 (Zb (Za (zg [1,6,40,41,42,54,55,56,64] 2 (Zb (cn h51 (fun _ h53 => ?_) (fun _ h54 => ?_))))))
 exact Za (zg [2] 0 (Zb (Zg (ZC (Zh (rr h53 ⟨rfl,er0 _⟩))))))
 exact Zd (XK (Zb (zg [1,6,40,41,42,54,55,56] 2 (rn h54))))
 exact ZH (Xn (re h49 ⟨rfl,kc⟩))
 intro e57 s58 o59
 rcases y13 with g14 | y15
 have h60 := XG h56
 obtain ⟨rfl,l62⟩ := o59
 exact YP (XK (XJ (s' := ⟨110,[(1,.ref 0 0),u2,(41,.int .i64 u4),(42,.int .i64 p8)],[.box u1]⟩) (l62) (zg [1,40,41,42] 1 (rn h60))))
 have h61 := XH h56
 obtain ⟨rfl,n63⟩ := o59
 exact ZC (ZC (Zh (rr h61 ⟨rfl,n63⟩)))
 exact ZH (Xn (re h36 ⟨rfl,kq⟩))
 intro e66 s67 o68
 rcases y16 with g17 | y18
 have h69 := XG h65
 refine zi o68 (Za (Za (zg [1,70] 1 (Zb (cn h69 (fun _ h73 => ?_) (fun _ h74 => ?_))))))
 exact Za (zg [2] 0 (Zb (Zg (Zh (er1 h73)))))
 refine Zd (Zb (Za (Za (zg [1,72,73,74] 1 (Zb (Zi ?_))))))
 obtain ⟨y28,q111,h112⟩ := bind_some h74
 refine zl (fun (p19 : Int) => ⟨110,[(1,.ref 0 0),u3,(73,.int .i64 u5),(74,.int .i64 p19)],[.box u1]⟩) (Sum.elim (fun z => OutE 6 (fun z => ⟨110,[],[]⟩) z) (fun z => OutR Tryz.prog Tryz.f145 (.int .i64 z))) q111 ?_ ?_
 intro p19 y20 h75
 let u6 : List Ob := [.box u1,.box (Xk (a0.Zm.getD p19.toNat default))]
 let u8 : Nat × D := (97,sL 5 Xk ((a0.Zm.drop 0).take (p19.toNat - 0)))
 unfold M.YW at h75
 refine Za (zg [1,72,73,74,75] 1 (Zb (Za (cn h75 (fun _ h77 => ?_) (fun _ h78 => ?_)))))
 refine Zd (Zb (Za (Zi (Za ?_))))
 obtain ⟨c79,h80⟩ := Zz h77
 refine zc [1,9,10,72,73,74] 2 c79 (Zb (Za (Za ?_)))
 obtain ⟨r21,q81,h82⟩ := bind_some h80
 obtain ⟨r22,q83,h84⟩ := bind_some h82
 refine zr [1,9,10,72,73,74,88] 2 ZA (rq1 (UH _ _ q81) (rq2 (fun hg => UH _ _ (Xj q83 hg)) rqn)) (Zb (cn h84 (fun _ h86 => ?_) (fun _ h87 => ?_)))
 exact Za (zg [2] 0 (Zb (Zg (Zh (ZC (Zh (rr h86 ⟨rfl,er0 _⟩)))))))
 refine Zd (Zb (Za (Za (zg [1,9,10,72,73,74,93] 2 (Zb (cn h87 (fun _ h89 => ?_) (fun _ h90 => ?_)))))))
 exact Za (zg [2] 0 (Zb (Zg (Zh (ZC (Zh (rr h89 ⟨rfl,er0 _⟩)))))))
 refine Zd (Zb (Za ?_))
 obtain ⟨c91,h92⟩ := Zz h90
 refine rgc [1,10,72,73,74,97,98,99] 2 ⟨110,[(1,.ref 0 0),(10,.ref 1 0),u3,(73,.int .i64 u5),(74,.int .i64 p19),(97,.sl false 5 (p19.toNat - 0) (fun i => Xk (a0.Zm.getD (0 + i) default))),(98,.int .i64 ((p19.toNat - 0 : Nat) : Int)),(99,.int .i64 0)],u6⟩ [decide (0 ≤ p19),decide (p19 ≤ u5)] c91 (XJ (s' := ⟨110,[(1,.ref 0 0),(10,.ref 1 0),u3,(73,.int .i64 u5),(74,.int .i64 p19),u8,(98,.int .i64 ((p19.toNat - 0 : Nat) : Int)),(99,.int .i64 0)],u6⟩) (VB (.cons Sub.rfl (.cons Sub.rfl (.cons Sub.rfl (.cons Sub.rfl (.cons Sub.rfl (.cons (Un (Rc _ _ _ (ZaN (c91 _ (List.mem_cons_of_mem _ List.mem_cons_self)))) (Rb _ _ _ _)) (.cons Sub.rfl (.cons Sub.rfl .nil)))))))) (.cons .rfl (.cons .rfl .nil))) (Zi ?_))
 obtain ⟨y25,q102,h103⟩ := bind_some h92
 refine zl (fun (p23 : Int) => ⟨110,[(1,.ref 0 0),(10,.ref 1 0),u3,(73,.int .i64 u5),(74,.int .i64 p19),u8,(98,.int .i64 ((p19.toNat - 0 : Nat) : Int)),(99,.int .i64 p23)],u6⟩) (Sum.elim (fun z => OutE 8 (fun z => ⟨110,[(1,.ref 0 0),u3,(73,.int .i64 u5),(74,.int .i64 p19)],[.box u1]⟩) z) (fun z => OutR Tryz.prog Tryz.f145 (.int .i64 z))) q102 ?_ ?_
 intro p23 y24 h93
 unfold M.YV at h93
 refine Za (zg [1,10,72,73,74,97,98,99,100] 2 (Zb (Za (cn h93 (fun _ h95 => ?_) (fun _ h96 => ?_)))))
 refine Zd (Zb (Za (Zi (Za ?_))))
 obtain ⟨c97,h98⟩ := Zz h95
 refine zc [1,10,12,72,73,74,97,98,99] 3 c97 (Zb (Za (zg [1,10,72,73,74,97,98,99,107] 2 (Zb (cn h98 (fun _ h100 => ?_) (fun _ h101 => ?_))))))
 exact Za (zg [2] 0 (Zb (Zg (ZC (Zh (rr h100 ⟨rfl,er0 _⟩))))))
 exact Zd (XK (Zb (zg [1,10,72,73,74,97,98,99] 2 (rn h101))))
 exact ZH (Xn (re h96 ⟨rfl,kc⟩))
 intro e104 s105 o106
 rcases y25 with g26 | y27
 have h107 := XG h103
 obtain ⟨rfl,l109⟩ := o106
 exact YP (XK (XJ (s' := ⟨110,[(1,.ref 0 0),u3,(73,.int .i64 u5),(74,.int .i64 p19)],[.box u1]⟩) (l109) (zg [1,72,73,74] 1 (rn h107))))
 have h108 := XH h103
 obtain ⟨rfl,n110⟩ := o106
 exact ZC (ZC (Zh (rr h108 ⟨rfl,n110⟩)))
 exact ZH (Xn (re h78 ⟨rfl,kc⟩))
 intro e113 s114 o115
 rcases y28 with g29 | y30
 have h116 := XG h112
 exact zi o115 (Za (zg [2] 0 (Zb (Zg (er1 h116)))))
 have h117 := XH h112
 obtain ⟨rfl,n119⟩ := o115
 refine ZC (Zh ?_)
 obtain rfl := Option.some.inj h117
 exact n119
 have h70 := XH h65
 obtain ⟨rfl,n120⟩ := o68
 refine ZC (Zh ?_)
 obtain rfl := Option.some.inj h70
 exact n120
 have h28 := XH h23
 obtain ⟨rfl,n121⟩ := o26
 refine ZC (Zh ?_)
 obtain rfl := Option.some.inj h28
 exact n121
theorem Zab (a0 : Zf) (r : Int) (h : M.YX a0 = some r) : Fn Tryz.prog 84 [.agg (Zu a0)] (.pure (.int .i64 r)) := by
 unfold M.YX at h
 refine ZL Tryz.func84 rfl (by kernel_rfl) (Za (zg [1] 1 (Zb (Za (zg [1,3] 2 (Zb (Za (Za (zg [1,3,10] 2 (Zb (cn h (fun _ h2 => ?_) (fun _ h3 => ?_))))))))))))
 refine Za (Za (zg [48] 0 (Zb (cn h2 (fun _ h5 => ?_) (fun _ h6 => ?_)))))
 exact Za (zg [2] 0 (Zb (Zg (Zh (Zh (er1 h5))))))
 exact Zd (Zb (Za (zg [2] 0 (Zb (Zg (Zh (er1 h6)))))))
 refine Zd (Zb (Za (Za ?_)))
 obtain ⟨r1,q7,h8⟩ := bind_some h3
 obtain ⟨r2,q9,h10⟩ := bind_some h8
 refine zr [1,3,63] 2 ZA (rq2 (fun hg => XW _ _ _ _ (Xj q7 hg)) (rq2 (fun hg => XW _ _ _ _ (Xj q9 hg)) rqn)) (Zb (cn h10 (fun _ h12 => ?_) (fun _ h13 => ?_)))
 exact Za (zg [2] 0 (Zb (Zg (Zh (er1 h12)))))
 refine Zd (Zb (Za (Za ?_)))
 obtain ⟨r3,q14,h15⟩ := bind_some h13
 refine zr [1,3,4] 2 ZA (rq1 (Zat _ _ q14) rqn) (Zb (Za (zg [1,3,4,67] 2 (Zb (cn h15 (fun _ h17 => ?_) (fun _ h18 => ?_))))))
 exact Za (zg [2] 0 (Zb (Zg (Zh (er1 h17)))))
 refine Zd (Zb (Za (Za ?_)))
 obtain ⟨r4,q19,h20⟩ := bind_some h18
 refine zr [1,3,5] 2 ZA (rq1 (Zbs _ _ q19) rqn) (Zb (Za (zg [1,3,5,72] 2 (Zb (cn h20 (fun _ h22 => ?_) (fun _ h23 => ?_))))))
 exact Za (zg [2] 0 (Zb (Zg (Zh (er1 h22)))))
 refine Zd (Zb (Za ?_))
 obtain ⟨r5,q24,h25⟩ := bind_some h23
 exact zr [2] 0 ZA (rq1 (GI _ _ _ _ _ _ _ q24) rqn) (Zb (Zg (er1 h25)))
theorem Zb9 (a0 : Zf) (r : Int) (h : M.Q9 a0 = some r) : Fn Tryz.prog 58 [.agg (Zu a0)] (.pure (.int .i64 r)) := by
 unfold M.Q9 at h
 refine ZL Tryz.func58 rfl (by kernel_rfl) (Za (zg [1] 1 (Zb (Za (Za ?_)))))
 obtain ⟨r1,q1,h2⟩ := bind_some h
 refine zr [1,10] 1 ZA (rq1 (ZaS _ _ q1) rqn) (Zb (cn h2 (fun _ h4 => ?_) (fun _ h5 => ?_)))
 exact Za (zg [2] 0 (Zb (Zg (Zh (er1 h4)))))
 refine Zd (Zb (Za (Za ?_)))
 obtain ⟨r2,q6,h7⟩ := bind_some h5
 refine zr [1,14] 1 ZA (rq1 (XW _ _ _ _ q6) rqn) (Zb (cn h7 (fun _ h9 => ?_) (fun _ h10 => ?_)))
 exact Za (zg [2] 0 (Zb (Zg (Zh (er1 h9)))))
 refine Zd (Zb (Za (zg [1,3] 1 (Zb (Za (Za (zg [1,16,17,18] 1 (Zb (Zi (ZjD (US (Za (zg [1,16,17,18,19] 1 (Zb (Za (cnd true (fun _ => (Zd (Zb (Za (Zi (Za ?_)))))) (fun b11 => Bool.noConfusion b11)))))))))))))))))
 obtain ⟨c12,h13⟩ := Zz h10
 refine zc [1,5,16,17,18] 1 c12 (Zb (Za ?_))
 obtain ⟨r3,q14,h15⟩ := bind_some h13
 refine zr [1,6,16,17,18] 1 ZA (rq1 (Zaa _ _ q14) rqn) (Zb (Za (zg [1,6,16,17,18,26] 1 (Zb (cn h15 (fun _ h17 => ?_) (fun _ h18 => ?_))))))
 exact Za (rg0 [2] 0 ⟨29,[(2,.int .i64 r3)],[]⟩ (Zb (Zg (ZC (Zh (KO (ZC (Zh (er1 h17)))))))))
 refine Zd (XK (Zb (zg [1,16,17,18] 1 (KN (US (Za (zg [1,16,17,18,19] 1 (Zb (Za (cnd true (fun _ => (Zd (Zb (Za (Zi (Za ?_)))))) (fun b19 => Bool.noConfusion b19)))))))))))
 obtain ⟨c20,h21⟩ := Zz h18
 refine zc [1,5,16,17,18] 1 c20 (Zb (Za ?_))
 obtain ⟨r4,q22,h23⟩ := bind_some h21
 refine zr [1,6,16,17,18] 1 ZA (rq1 (RI _ _ q22) rqn) (Zb (Za (zg [1,6,16,17,18,26] 1 (Zb (cn h23 (fun _ h25 => ?_) (fun _ h26 => ?_))))))
 exact Za (rg0 [2] 0 ⟨29,[(2,.int .i64 r4)],[]⟩ (Zb (Zg (ZC (Zh (KO (ZC (Zh (er1 h25)))))))))
 refine Zd (XK (Zb (zg [1,16,17,18] 1 (KN (US (Za (zg [1,16,17,18,19] 1 (Zb (Za (cnd true (fun _ => (Zd (Zb (Za (Zi (Za ?_)))))) (fun b27 => Bool.noConfusion b27)))))))))))
 obtain ⟨c28,h29⟩ := Zz h26
 refine zc [1,5,16,17,18] 1 c28 (Zb (Za ?_))
 obtain ⟨r5,q30,h31⟩ := bind_some h29
 refine zr [1,6,16,17,18] 1 ZA (rq1 (Zaq _ _ q30) rqn) (Zb (Za (zg [1,6,16,17,18,26] 1 (Zb (cn h31 (fun _ h33 => ?_) (fun _ h34 => ?_))))))
 exact Za (rg0 [2] 0 ⟨29,[(2,.int .i64 r5)],[]⟩ (Zb (Zg (ZC (Zh (KO (ZC (Zh (er1 h33)))))))))
 refine Zd (XK (Zb (zg [1,16,17,18] 1 (KN (US (Za (zg [1,16,17,18,19] 1 (Zb (Za (cnd true (fun _ => (Zd (Zb (Za (Zi (Za ?_)))))) (fun b35 => Bool.noConfusion b35)))))))))))
 obtain ⟨c36,h37⟩ := Zz h34
 refine zc [1,5,16,17,18] 1 c36 (Zb (Za ?_))
 obtain ⟨r6,q38,h39⟩ := bind_some h37
 refine zr [1,6,16,17,18] 1 ZA (rq1 (ZdG _ _ q38) rqn) (Zb (Za (zg [1,6,16,17,18,26] 1 (Zb (cn h39 (fun _ h41 => ?_) (fun _ h42 => ?_))))))
 exact Za (rg0 [2] 0 ⟨29,[(2,.int .i64 r6)],[]⟩ (Zb (Zg (ZC (Zh (KO (ZC (Zh (er1 h41)))))))))
 refine Zd (XK (Zb (zg [1,16,17,18] 1 (KN (US (Za (zg [1,16,17,18,19] 1 (Zb (Za (cnd true (fun _ => (Zd (Zb (Za (Zi (Za ?_)))))) (fun b43 => Bool.noConfusion b43)))))))))))
 obtain ⟨c44,h45⟩ := Zz h42
 refine zc [1,5,16,17,18] 1 c44 (Zb (Za ?_))
 obtain ⟨r7,q46,h47⟩ := bind_some h45
 refine zr [1,6,16,17,18] 1 ZA (rq1 (Zep _ _ q46) rqn) (Zb (Za (zg [1,6,16,17,18,26] 1 (Zb (cn h47 (fun _ h49 => ?_) (fun _ h50 => ?_))))))
 exact Za (rg0 [2] 0 ⟨29,[(2,.int .i64 r7)],[]⟩ (Zb (Zg (ZC (Zh (KO (ZC (Zh (er1 h49)))))))))
 refine Zd (XK (Zb (zg [1,16,17,18] 1 (KN (US (Za (zg [1,16,17,18,19] 1 (Zb (Za (cnd true (fun _ => (Zd (Zb (Za (Zi (Za ?_)))))) (fun b51 => Bool.noConfusion b51)))))))))))
 obtain ⟨c52,h53⟩ := Zz h50
 refine zc [1,5,16,17,18] 1 c52 (Zb (Za ?_))
 obtain ⟨r8,q54,h55⟩ := bind_some h53
 refine zr [1,6,16,17,18] 1 ZA (rq1 (Zbq _ _ q54) rqn) (Zb (Za (zg [1,6,16,17,18,26] 1 (Zb (cn h55 (fun _ h57 => ?_) (fun _ h58 => ?_))))))
 exact Za (rg0 [2] 0 ⟨29,[(2,.int .i64 r8)],[]⟩ (Zb (Zg (ZC (Zh (KO (ZC (Zh (er1 h57)))))))))
 refine Zd (XK (Zb (zg [1,16,17,18] 1 (KN (US (Za (zg [1,16,17,18,19] 1 (Zb (Za (cnd true (fun _ => (Zd (Zb (Za (Zi (Za ?_)))))) (fun b59 => Bool.noConfusion b59)))))))))))
 obtain ⟨c60,h61⟩ := Zz h58
 refine zc [1,5,16,17,18] 1 c60 (Zb (Za ?_))
 obtain ⟨r9,q62,h63⟩ := bind_some h61
 refine zr [1,6,16,17,18] 1 ZA (rq1 (Zbr _ _ q62) rqn) (Zb (Za (zg [1,6,16,17,18,26] 1 (Zb (cn h63 (fun _ h65 => ?_) (fun _ h66 => ?_))))))
 exact Za (rg0 [2] 0 ⟨29,[(2,.int .i64 r9)],[]⟩ (Zb (Zg (ZC (Zh (KO (ZC (Zh (er1 h65)))))))))
 refine Zd (XK (Zb (zg [1,16,17,18] 1 (KN (US (Za (zg [1,16,17,18,19] 1 (Zb (Za (cnd true (fun _ => (Zd (Zb (Za (Zi (Za ?_)))))) (fun b67 => Bool.noConfusion b67)))))))))))
 obtain ⟨c68,h69⟩ := Zz h66
 refine zc [1,5,16,17,18] 1 c68 (Zb (Za ?_))
 obtain ⟨r10,q70,h71⟩ := bind_some h69
 refine zr [1,6,16,17,18] 1 ZA (rq1 (Zas _ _ q70) rqn) (Zb (Za (zg [1,6,16,17,18,26] 1 (Zb (cn h71 (fun _ h73 => ?_) (fun _ h74 => ?_))))))
 exact Za (rg0 [2] 0 ⟨29,[(2,.int .i64 r10)],[]⟩ (Zb (Zg (ZC (Zh (KO (ZC (Zh (er1 h73)))))))))
 refine Zd (XK (Zb (zg [1,16,17,18] 1 (KN (US (Za (zg [1,16,17,18,19] 1 (Zb (Za (cnd true (fun _ => (Zd (Zb (Za (Zi (Za ?_)))))) (fun b75 => Bool.noConfusion b75)))))))))))
 obtain ⟨c76,h77⟩ := Zz h74
 refine zc [1,5,16,17,18] 1 c76 (Zb (Za ?_))
 obtain ⟨r11,q78,h79⟩ := bind_some h77
 refine zr [1,6,16,17,18] 1 ZA (rq1 (K0 _ _ q78) rqn) (Zb (Za (zg [1,6,16,17,18,26] 1 (Zb (cn h79 (fun _ h81 => ?_) (fun _ h82 => ?_))))))
 exact Za (rg0 [2] 0 ⟨29,[(2,.int .i64 r11)],[]⟩ (Zb (Zg (ZC (Zh (KO (ZC (Zh (er1 h81)))))))))
 refine Zd (XK (Zb (zg [1,16,17,18] 1 (KN (US (Za (zg [1,16,17,18,19] 1 (Zb (Za (cnd true (fun _ => (Zd (Zb (Za (Zi (Za ?_)))))) (fun b83 => Bool.noConfusion b83)))))))))))
 obtain ⟨c84,h85⟩ := Zz h82
 refine zc [1,5,16,17,18] 1 c84 (Zb (Za ?_))
 obtain ⟨r12,q86,h87⟩ := bind_some h85
 refine zr [1,6,16,17,18] 1 ZA (rq1 (Zab _ _ q86) rqn) (Zb (Za (zg [1,6,16,17,18,26] 1 (Zb (cn h87 (fun _ h89 => ?_) (fun _ h90 => ?_))))))
 exact Za (rg0 [2] 0 ⟨29,[(2,.int .i64 r12)],[]⟩ (Zb (Zg (ZC (Zh (KO (ZC (Zh (er1 h89)))))))))
 exact Zd (XK (Zb (zg [1,16,17,18] 1 (KN (US (Za (zg [1,16,17,18,19] 1 (Zb (Za (cnd false (fun b91 => Bool.noConfusion b91) (fun _ => (ZH (Xn (ZmW (YP (Zb (Za (zg [2] 0 (Zb (Zg (er1 h90)))))))))))))))))))))
theorem Zau (a0 : ZB) (b0 : Zf) (r : Bool) (h : M.Qb a0 b0 = some r) : Fn Tryz.prog 86 [.agg (Zn a0),.pp (Zu b0)] (.pure (.bool r)) := by
 unfold M.Qb at h
 refine ZL Tryz.func86 rfl (by kernel_rfl) (Za (zg [1,2] 1 (Zb (Za ?_))))
 obtain ⟨r1,q1,h2⟩ := bind_some h
 exact zr [3] 0 ZA (rq2 (fun hg => Zar _ _ _ (Xj q1 hg)) rqn) (Zb (Zg (er1 h2)))
theorem VG (a0 : List ZB) (a1c0 : Zf) (r : Int) (h : M.ZV a0 a1c0 = some r) : Fn Tryz.prog 146 [sL 12 Zn a0,.fn 86 [.pp (Zu a1c0)]] (.pure (.int .i64 r)) := by
 unfold M.ZV at h
 refine ZL Tryz.func146 rfl (by kernel_rfl) (Za (zg [0,1] 0 (Zb (Za (Za (zg [0,1,7,8] 0 (Zb (Zi ?_))))))))
 obtain ⟨y4,q12,h13⟩ := bind_some h
 refine zl (fun (p1 : Int) => ⟨19,[(0,sL 12 Zn a0),(1,.fn 86 [.pp (Zu a1c0)]),(7,.int .i64 (a0.length : Int)),(8,.int .i64 p1)],[]⟩) (Sum.elim (fun z => OutE 0 (fun z => ⟨19,[],[]⟩) z) (fun z => OutR Tryz.prog Tryz.f146 (.int .i64 z))) q12 ?_ ?_
 intro p1 y2 h1
 unfold M.ZO at h1
 refine Za (zg [0,1,7,8,9] 0 (Zb (Za (cn h1 (fun _ h3 => ?_) (fun _ h4 => ?_)))))
 refine Zd (Zb (Za (Zi (Za (zg [0,1,5,7,8] 0 (Zb (Za ?_)))))))
 obtain ⟨r3,q5,h6⟩ := bind_some h3
 obtain ⟨c7,h8⟩ := Zz h6
 refine zr [0,1,5,7,8,16] 0 c7 (rq1 (Zau _ _ _ q5) rqn) (Zb (cn h8 (fun _ h10 => ?_) (fun _ h11 => ?_)))
 exact Za (zg [4] 0 (Zb (Zg (ZC (Zh (rr h10 ⟨rfl,er0 _⟩))))))
 exact Zd (XK (Zb (zg [0,1,7,8] 0 (rn h11))))
 exact ZH (Xn (re h4 ⟨rfl,kq⟩))
 intro e14 s15 o16
 rcases y4 with g5 | y6
 have h17 := XG h13
 exact zi o16 (Za (zg [4] 0 (Zb (Zg (er1 h17)))))
 have h18 := XH h13
 obtain ⟨rfl,n20⟩ := o16
 refine ZC (Zh ?_)
 obtain rfl := Option.some.inj h18
 exact n20
theorem Vw (a0 : List ZB) (a1c0 : Zf) (r : Bool) (h : M.ZP a0 a1c0 = some r) : Fn Tryz.prog 85 [sL 12 Zn a0,.fn 86 [.pp (Zu a1c0)]] (.pure (.bool r)) := by
 unfold M.ZP at h
 refine ZL Tryz.func85 rfl (by kernel_rfl) (Za (zg [0,1] 0 (Zb (Za ?_))))
 obtain ⟨r1,q1,h2⟩ := bind_some h
 exact zr [4] 0 ZA (rq1 (VG _ _ _ q1) rqn) (Zb (Zg (er1 h2)))
theorem Zbt (a0 : Zf) (a1 : Zf) (r : Bool) (h : M.Jo a0 a1 = some r) : Fn Tryz.prog 59 [.agg (Zu a0),.agg (Zu a1)] (.pure (.bool r)) := by
 unfold M.Jo at h
 refine ZL Tryz.func59 rfl (by kernel_rfl) (Za (zg [2,3] 2 (Zb (Za ?_))))
 obtain ⟨r1,q1,h2⟩ := bind_some h
 exact zr [4] 0 ZA (rq1 (Vw _ _ _ q1) rqn) (Zb (Zg (er1 h2)))
theorem ZgK (a0 : ZG) (r : Int) (h : M.QU a0 = some r) : Fn Tryz.prog 37 [.agg (X3 a0)] (.pure (.int .i64 r)) := by
 let u1 : Nat × D := (13,sL 25 Zu a0.Ze)
 let u3 := (a0.Ze.length : Int)
 let u5 := X3 a0
 unfold M.QU at h
 refine ZL Tryz.func37 rfl (by kernel_rfl) (Za (zg [1] 1 (Zb (Za (Za (zg [1,11] 1 (Zb (cn h (fun _ h2 => ?_) (fun _ h3 => ?_)))))))))
 exact Za (zg [2] 0 (Zb (Zg (Zh (er1 h2)))))
 refine Zd (Zb (Za (Za (zg [1,13,14,15] 1 (Zb (Zi ?_))))))
 obtain ⟨y10,q37,h38⟩ := bind_some h3
 refine zl (fun (p1 : Int) => ⟨46,[(1,.ref 0 0),u1,(14,.int .i64 u3),(15,.int .i64 p1)],[.box u5]⟩) (Sum.elim (fun z => OutE 0 (fun z => ⟨46,[],[]⟩) z) (fun z => OutR Tryz.prog Tryz.f37 (.int .i64 z))) q37 ?_ ?_
 intro p1 y2 h4
 let u2 : List Ob := [.box u5,.box (Zu (a0.Ze.getD p1.toNat default))]
 let u4 : Nat × D := (28,sL 25 Zu ((a0.Ze.drop 0).take (p1.toNat - 0)))
 unfold M.VL at h4
 refine Za (zg [1,13,14,15,16] 1 (Zb (Za (cn h4 (fun _ h6 => ?_) (fun _ h7 => ?_)))))
 refine Zd (Zb (Za (Zi (Za ?_))))
 obtain ⟨c8,h9⟩ := Zz h6
 refine zc [1,3,4,13,14,15] 2 c8 (Zb (Za (Za ?_)))
 obtain ⟨r3,q10,h11⟩ := bind_some h9
 refine zr [1,3,4,5,13,14,15] 2 ZA (rq1 (Zb9 _ _ q10) rqn) (Zb (Za (zg [1,3,4,5,13,14,15,23] 2 (Zb (cn h11 (fun _ h13 => ?_) (fun _ h14 => ?_))))))
 exact Za (zg [2] 0 (Zb (Zg (Zh (ZC (Zh (rr h13 ⟨rfl,er0 _⟩)))))))
 refine Zd (Zb (Za ?_))
 obtain ⟨c15,h16⟩ := Zz h14
 refine rgc [1,4,13,14,15,28,29,30] 2 ⟨46,[(1,.ref 0 0),(4,.ref 1 0),u1,(14,.int .i64 u3),(15,.int .i64 p1),(28,.sl false 25 (p1.toNat - 0) (fun i => Zu (a0.Ze.getD (0 + i) default))),(29,.int .i64 ((p1.toNat - 0 : Nat) : Int)),(30,.int .i64 0)],u2⟩ [decide (0 ≤ p1),decide (p1 ≤ u3)] c15 (XJ (s' := ⟨46,[(1,.ref 0 0),(4,.ref 1 0),u1,(14,.int .i64 u3),(15,.int .i64 p1),u4,(29,.int .i64 ((p1.toNat - 0 : Nat) : Int)),(30,.int .i64 0)],u2⟩) (VB (.cons Sub.rfl (.cons Sub.rfl (.cons Sub.rfl (.cons Sub.rfl (.cons Sub.rfl (.cons (Un (Rc _ _ _ (ZaN (c15 _ (List.mem_cons_of_mem _ List.mem_cons_self)))) (Rb _ _ _ _)) (.cons Sub.rfl (.cons Sub.rfl .nil)))))))) (.cons .rfl (.cons .rfl .nil))) (Zi ?_))
 obtain ⟨y7,q28,h29⟩ := bind_some h16
 refine zl (fun (p4 : Int) => ⟨46,[(1,.ref 0 0),(4,.ref 1 0),u1,(14,.int .i64 u3),(15,.int .i64 p1),u4,(29,.int .i64 ((p1.toNat - 0 : Nat) : Int)),(30,.int .i64 p4)],u2⟩) (Sum.elim (fun z => OutE 2 (fun z => ⟨46,[(1,.ref 0 0),u1,(14,.int .i64 u3),(15,.int .i64 p1)],[.box u5]⟩) z) (fun z => OutR Tryz.prog Tryz.f37 (.int .i64 z))) q28 ?_ ?_
 intro p4 y5 h17
 unfold M.Vh at h17
 refine Za (zg [1,4,13,14,15,28,29,30,31] 2 (Zb (Za (cn h17 (fun _ h19 => ?_) (fun _ h20 => ?_)))))
 refine Zd (Zb (Za (Zi (Za ?_))))
 obtain ⟨c21,h22⟩ := Zz h19
 refine zc [1,4,7,13,14,15,28,29,30] 3 c21 (Zb (Za ?_))
 obtain ⟨r6,q23,h24⟩ := bind_some h22
 refine zr [1,4,13,14,15,28,29,30,43] 2 ZA (rq2 (fun hg => Zbt _ _ _ (Xj q23 hg)) rqn) (Zb (cn h24 (fun _ h26 => ?_) (fun _ h27 => ?_)))
 exact Za (zg [2] 0 (Zb (Zg (ZC (Zh (rr h26 ⟨rfl,er0 _⟩))))))
 exact Zd (XK (Zb (zg [1,4,13,14,15,28,29,30] 2 (rn h27))))
 exact ZH (Xn (re h20 ⟨rfl,kc⟩))
 intro e30 s31 o32
 rcases y7 with g8 | y9
 have h33 := XG h29
 obtain ⟨rfl,l35⟩ := o32
 exact YP (XK (XJ (s' := ⟨46,[(1,.ref 0 0),u1,(14,.int .i64 u3),(15,.int .i64 p1)],[.box u5]⟩) (l35) (zg [1,13,14,15] 1 (rn h33))))
 have h34 := XH h29
 obtain ⟨rfl,n36⟩ := o32
 exact ZC (ZC (Zh (rr h34 ⟨rfl,n36⟩)))
 exact ZH (Xn (re h7 ⟨rfl,kc⟩))
 intro e39 s40 o41
 rcases y10 with g11 | y12
 have h42 := XG h38
 exact zi o41 (Za (zg [2] 0 (Zb (Zg (er1 h42)))))
 have h43 := XH h38
 obtain ⟨rfl,n45⟩ := o41
 refine ZC (Zh ?_)
 obtain rfl := Option.some.inj h43
 exact n45
theorem Zjd : KeyT Tryz.prog 117 119 3 Xs topoKeyEq := ⟨by kernel_rfl,⟨_,Tryz.underlying119⟩,⟨3,by kernel_rfl,fun _ => rfl⟩,fun _ => rfl,fun em y w => by cases em <;> kernel_rfl,fun w => by kernel_rfl,fun x y => by kernel_rfl⟩
theorem Ze1 (a0 : ZG) (r : List Zl) (h : M.Wi a0 = some r) : Fn Tryz.prog 38 [.agg (X3 a0)] (oL 4 ZT r) := by
 let u1 : Nat × D := (14,sL 25 Zu a0.Ze)
 let u2 := (a0.Ze.length : Int)
 let u3 := X3 a0
 let u4 : Nat × D := (3,.sl true 4 0 (fun _ => []))
 let u5 := List (Xi × Int)
 let u6 : St := ⟨82,[(1,.ref 0 0),u4],[.box u3]⟩
 let u7 := List Zl
 unfold M.Wi at h
 obtain ⟨y,hy,h1⟩ := bind_some h
 obtain rfl := Option.some.inj h1
 refine ZeU Tryz.func38 rfl (by kernel_rfl) (Kc ?_)
 refine Za (rg0 [1] 1 ⟨82,[(1,.ref 0 0)],[.box u3]⟩ ?_)
 refine Zb (Za (rg0 [1,3] 1 u6 ?_))
 refine Zb (Za ?_)
 refine rgo 0 [] [1,3] 1 u6 [] [] ZA trivial (fun u : Value => ⟨82,(12,.val u) :: [(1,.ref 0 0),u4],[.box u3] ++ [.mp u []]⟩) (Zml rfl rfl rfl rfl rfl) [] [1,3,4] 2 (fun u => ⟨82,[(1,.ref 0 0),u4,(4,.val u)],[.box u3,.mp u []]⟩) (fun _ => []) (fun _ => []) (fun _ => ZA) (fun _ => trivial) (fun u => ?_)
 refine Zb (Za (Za (rg0 [3,4,14,15,16] 2 ⟨82,[u4,(4,.val u),u1,(15,.int .i64 u2),(16,.int .i64 0)],[.box u3,.mp u []]⟩ ?_)))
 refine XJ (Le.trans (s' := ⟨82,(3,.asl 2 0 0) :: [u4,(4,.val u),u1,(15,.int .i64 u2),(16,.int .i64 0)],[.box u3,.mp u []] ++ [.arr 4 0 (fun _ => [])]⟩) (ZcL (wd := 4) (f := fun _ => []) 3 (by kernel_rfl) _ _) (Le.trans (s' := ⟨82,[(3,.asl 2 0 0),(4,.val u),u1,(15,.int .i64 u2),(16,.int .i64 0)],[.box u3,.mp u [],.arr 4 0 (fun _ => [])]⟩) (kp [3,4,14,15,16]) (Zi6 (H := [.box u3,.mp u []]) (wi := 2) (wd := 4) hdDom XE Zl.Xo _))) ?_
 refine Zi ?_
 refine Rn (ZcM (f := M.Jv a0) (S := fun (p : u7 × u5 × Int) (vs : Nat → Value) => ⟨82,[(3,.asl 2 0 p.1.length),(4,.val u),u1,(15,.int .i64 u2),(16,.int .i64 p.2.2)],[.box u3,mpO u Xs p.2.1,rA 4 hdDom p.1 vs,rF 2 XE Zl.Xo p.1 vs]⟩) (O := (fun z => OutL 0 (fun (z : List Zl) (g : (Nat → Value) × u5) => ⟨82,[(3,.asl 2 0 z.length)],[.box u3,mpO u Xs g.2,rA 4 hdDom z g.1,rF 2 XE Zl.Xo z g.1]⟩) z)) ?_ (g := fun _ => nilV) (x := ([],[],0)) (y := y) (UD hy)) ?_
 · intro p1 y1 v1 h2
   unfold M.Jv at h2
   refine Za (rg0 [3,4,14,15,16,17] 4 ⟨82,[(3,.asl 2 0 p1.1.length),(4,.val u),u1,(15,.int .i64 u2),(16,.int .i64 p1.2.2),(17,.bool (decide (p1.2.2 < u2)))],[.box u3,mpO u Xs p1.2.1,rA 4 hdDom p1.1 v1,rF 2 XE Zl.Xo p1.1 v1]⟩ ?_)
   refine Zb (Za ?_)
   refine cnd (decide (p1.2.2 < u2)) (fun b1 => ?_) (fun b1 => ?_)
   · have h3 := Kp b1 h2
     refine Zd (Zb ?_)
     refine Za (Zi (Za ?_))
     obtain ⟨c1,h4⟩ := Zz h3
     refine rgc [3,4,5,6,14,15,16] 5 ⟨82,[(3,.asl 2 0 p1.1.length),(4,.val u),(5,.int .i64 p1.2.2),(6,.ref 4 0),u1,(15,.int .i64 u2),(16,.int .i64 p1.2.2)],[.box u3,mpO u Xs p1.2.1,rA 4 hdDom p1.1 v1,rF 2 XE Zl.Xo p1.1 v1,.box (Zu (a0.Ze.getD p1.2.2.toNat default))]⟩ [decide (0 ≤ p1.2.2),decide (p1.2.2 < u2)] c1 ?_
     refine Zb (Za (rg0 [3,4,5,14,15,16,22,23,24] 4 ⟨82,[(3,.asl 2 0 p1.1.length),(4,.val u),(5,.int .i64 p1.2.2),u1,(15,.int .i64 u2),(16,.int .i64 p1.2.2),(22,sL 12 Zn (a0.Ze.getD p1.2.2.toNat default).Zc),(23,.int .i64 ((a0.Ze.getD p1.2.2.toNat default).Zc.length : Int)),(24,.int .i64 0)],[.box u3,mpO u Xs p1.2.1,rA 4 hdDom p1.1 v1,rF 2 XE Zl.Xo p1.1 v1]⟩ ?_))
     refine Zb (Zi ?_)
     obtain ⟨y2,hy2,h5⟩ := bind_some h4
     refine Rn (ZcM (f := M.Q1 a0 p1.2.2) (S := fun (p : u7 × u5 × Int) (vs : Nat → Value) => ⟨82,[(3,.asl 2 0 p.1.length),(4,.val u),(5,.int .i64 p1.2.2),u1,(15,.int .i64 u2),(16,.int .i64 p1.2.2),(22,sL 12 Zn (a0.Ze.getD p1.2.2.toNat default).Zc),(23,.int .i64 ((a0.Ze.getD p1.2.2.toNat default).Zc.length : Int)),(24,.int .i64 p.2.2)],[.box u3,mpO u Xs p.2.1,rA 4 hdDom p.1 vs,rF 2 XE Zl.Xo p.1 vs]⟩) (O := (fun z => OutL 2 (fun (z : u7 × u5) (vs : Nat → Value) => ⟨82,[(3,.asl 2 0 z.1.length),(4,.val u),u1,(15,.int .i64 u2),(16,.int .i64 p1.2.2)],[.box u3,mpO u Xs z.2,rA 4 hdDom z.1 vs,rF 2 XE Zl.Xo z.1 vs]⟩) z)) ?_ (g := v1) (x := (p1.1,p1.2.1,0)) (y := y2) (UD hy2)) ?_
     · intro p2 y3 v2 h6
       unfold M.Q1 at h6
       refine Za (rg0 [3,4,5,14,15,16,22,23,24,25] 4 ⟨82,[(3,.asl 2 0 p2.1.length),(4,.val u),(5,.int .i64 p1.2.2),u1,(15,.int .i64 u2),(16,.int .i64 p1.2.2),(22,sL 12 Zn (a0.Ze.getD p1.2.2.toNat default).Zc),(23,.int .i64 ((a0.Ze.getD p1.2.2.toNat default).Zc.length : Int)),(24,.int .i64 p2.2.2),(25,.bool (decide (p2.2.2 < ((a0.Ze.getD p1.2.2.toNat default).Zc.length : Int))))],[.box u3,mpO u Xs p2.2.1,rA 4 hdDom p2.1 v2,rF 2 XE Zl.Xo p2.1 v2]⟩ ?_)
       refine Zb (Za ?_)
       refine cnd (decide (p2.2.2 < ((a0.Ze.getD p1.2.2.toNat default).Zc.length : Int))) (fun b2 => ?_) (fun b2 => ?_)
       · have h7 := Kp b2 h6
         refine Zd (Zb ?_)
         refine Za (Zi (Za ?_))
         obtain ⟨c2,h8⟩ := Zz h7
         refine rgc [3,4,5,7,8,14,15,16,22,23,24] 5 ⟨82,[(3,.asl 2 0 p2.1.length),(4,.val u),(5,.int .i64 p1.2.2),(7,.int .i64 p2.2.2),(8,.ref 4 0),u1,(15,.int .i64 u2),(16,.int .i64 p1.2.2),(22,sL 12 Zn (a0.Ze.getD p1.2.2.toNat default).Zc),(23,.int .i64 ((a0.Ze.getD p1.2.2.toNat default).Zc.length : Int)),(24,.int .i64 p2.2.2)],[.box u3,mpO u Xs p2.2.1,rA 4 hdDom p2.1 v2,rF 2 XE Zl.Xo p2.1 v2,.box (Zn ((a0.Ze.getD p1.2.2.toNat default).Zc.getD p2.2.2.toNat default))]⟩ [decide (0 ≤ p2.2.2),decide (p2.2.2 < ((a0.Ze.getD p1.2.2.toNat default).Zc.length : Int))] c2 ?_
         refine Zb (Za (Za ?_))
         refine rg0 [3,4,5,7,8,14,15,16,22,23,24,35] 5 ⟨82,[(3,.asl 2 0 p2.1.length),(4,.val u),(5,.int .i64 p1.2.2),(7,.int .i64 p2.2.2),(8,.ref 4 0),u1,(15,.int .i64 u2),(16,.int .i64 p1.2.2),(22,sL 12 Zn (a0.Ze.getD p1.2.2.toNat default).Zc),(23,.int .i64 ((a0.Ze.getD p1.2.2.toNat default).Zc.length : Int)),(24,.int .i64 p2.2.2),(35,.bool ((((a0.Ze.getD p1.2.2.toNat default).Zc.getD p2.2.2.toNat default).ZK == 0) || ((a0.Ze.getD p1.2.2.toNat default).Zc.getD p2.2.2.toNat default).Gu))],[.box u3,mpO u Xs p2.2.1,rA 4 hdDom p2.1 v2,rF 2 XE Zl.Xo p2.1 v2,.box (Zn ((a0.Ze.getD p1.2.2.toNat default).Zc.getD p2.2.2.toNat default))]⟩ ?_
         refine Zb ?_
         refine cnd ((((a0.Ze.getD p1.2.2.toNat default).Zc.getD p2.2.2.toNat default).ZK == 0) || ((a0.Ze.getD p1.2.2.toNat default).Zc.getD p2.2.2.toNat default).Gu) (fun b3 => ?_) (fun b3 => ?_)
         · have h9 := Kp b3 h8
           refine ZH (Xn (YP ?_))
           refine Zb (rg0 [3,4,5,14,15,16,22,23,24] 4 ⟨82,[(3,.asl 2 0 p2.1.length),(4,.val u),(5,.int .i64 p1.2.2),u1,(15,.int .i64 u2),(16,.int .i64 p1.2.2),(22,sL 12 Zn (a0.Ze.getD p1.2.2.toNat default).Zc),(23,.int .i64 ((a0.Ze.getD p1.2.2.toNat default).Zc.length : Int)),(24,.int .i64 (wr .i64 (p2.2.2 + 1)))],[.box u3,mpO u Xs p2.2.1,rA 4 hdDom p2.1 v2,rF 2 XE Zl.Xo p2.1 v2]⟩ ?_)
           obtain rfl := Option.some.inj h9
           exact ZbY v2 Ko
         · have h9 := Kq b3 h8
           refine Zd (Zb (Za ?_))
           obtain ⟨r,hr,h10⟩ := bind_some h9
           refine rgs 8 9 [.pure (.agg (Xc r))] [3,4,5,7,9,14,15,16,22,23,24] 6 ⟨82,[(3,.asl 2 0 p2.1.length),(4,.val u),(5,.int .i64 p1.2.2),(7,.int .i64 p2.2.2),(9,.ref 5 0),u1,(15,.int .i64 u2),(16,.int .i64 p1.2.2),(22,sL 12 Zn (a0.Ze.getD p1.2.2.toNat default).Zc),(23,.int .i64 ((a0.Ze.getD p1.2.2.toNat default).Zc.length : Int)),(24,.int .i64 p2.2.2)],[.box u3,mpO u Xs p2.2.1,rA 4 hdDom p2.1 v2,rF 2 XE Zl.Xo p2.1 v2,.box (Zn ((a0.Ze.getD p1.2.2.toNat default).Zc.getD p2.2.2.toNat default)),.box (Xs (⟨r,((a0.Ze.getD p1.2.2.toNat default).Zc.getD p2.2.2.toNat default).XF⟩ : Xi))]⟩ [] [⟨true,60,[.int .u32 ((a0.Ze.getD p1.2.2.toNat default).Zc.getD p2.2.2.toNat default).Zy,.int .i64 ((a0.Ze.getD p1.2.2.toNat default).Zc.getD p2.2.2.toNat default).ZK],.pure (.agg (Xc r))⟩] ZA ⟨fun _ => KZ ((a0.Ze.getD p1.2.2.toNat default).Zc.getD p2.2.2.toNat default).Zy ((a0.Ze.getD p1.2.2.toNat default).Zc.getD p2.2.2.toNat default).ZK r hr,trivial⟩ ?_
           refine Zb (Za ?_)
           refine rgo 2 [] [3,4,5,7,9,14,15,16,22,23,24,45,46] 6 ⟨82,[(3,.asl 2 0 p2.1.length),(4,.val u),(5,.int .i64 p1.2.2),(7,.int .i64 p2.2.2),(9,.ref 5 0),u1,(15,.int .i64 u2),(16,.int .i64 p1.2.2),(22,sL 12 Zn (a0.Ze.getD p1.2.2.toNat default).Zc),(23,.int .i64 ((a0.Ze.getD p1.2.2.toNat default).Zc.length : Int)),(24,.int .i64 p2.2.2),(45,.val u),(46,.agg (Xs (⟨r,((a0.Ze.getD p1.2.2.toNat default).Zc.getD p2.2.2.toNat default).XF⟩ : Xi)))],[.box u3,mpO u Xs p2.2.1,rA 4 hdDom p2.1 v2,rF 2 XE Zl.Xo p2.1 v2,.box (Zn ((a0.Ze.getD p1.2.2.toNat default).Zc.getD p2.2.2.toNat default)),.box (Xs (⟨r,((a0.Ze.getD p1.2.2.toNat default).Zc.getD p2.2.2.toNat default).XF⟩ : Xi))]⟩ [] [] ZA trivial (fun _ : Unit => ⟨82,(47,.tup [.int .i64 (lkM (topoKeyEq (⟨r,((a0.Ze.getD p1.2.2.toNat default).Zc.getD p2.2.2.toNat default).XF⟩ : Xi)) p2.2.1).1,.bool (lkM (topoKeyEq (⟨r,((a0.Ze.getD p1.2.2.toNat default).Zc.getD p2.2.2.toNat default).XF⟩ : Xi)) p2.2.1).2]) :: [(3,.asl 2 0 p2.1.length),(4,.val u),(5,.int .i64 p1.2.2),(7,.int .i64 p2.2.2),(9,.ref 5 0),u1,(15,.int .i64 u2),(16,.int .i64 p1.2.2),(22,sL 12 Zn (a0.Ze.getD p1.2.2.toNat default).Zc),(23,.int .i64 ((a0.Ze.getD p1.2.2.toNat default).Zc.length : Int)),(24,.int .i64 p2.2.2),(45,.val u),(46,.agg (Xs (⟨r,((a0.Ze.getD p1.2.2.toNat default).Zc.getD p2.2.2.toNat default).XF⟩ : Xi)))],[.box u3,mpO u Xs p2.2.1,rA 4 hdDom p2.1 v2,rF 2 XE Zl.Xo p2.1 v2,.box (Zn ((a0.Ze.getD p1.2.2.toNat default).Zc.getD p2.2.2.toNat default)),.box (Xs (⟨r,((a0.Ze.getD p1.2.2.toNat default).Zc.getD p2.2.2.toNat default).XF⟩ : Xi))]⟩) (Zmn (id := 1) Zjd (⟨r,((a0.Ze.getD p1.2.2.toNat default).Zc.getD p2.2.2.toNat default).XF⟩ : Xi) rfl rfl rfl rfl rfl rfl rfl rfl) [] [3,4,5,7,9,10,11,14,15,16,22,23,24] 6 (fun _ => ⟨82,[(3,.asl 2 0 p2.1.length),(4,.val u),(5,.int .i64 p1.2.2),(7,.int .i64 p2.2.2),(9,.ref 5 0),(10,.int .i64 (lkM (topoKeyEq (⟨r,((a0.Ze.getD p1.2.2.toNat default).Zc.getD p2.2.2.toNat default).XF⟩ : Xi)) p2.2.1).1),(11,.bool (lkM (topoKeyEq (⟨r,((a0.Ze.getD p1.2.2.toNat default).Zc.getD p2.2.2.toNat default).XF⟩ : Xi)) p2.2.1).2),u1,(15,.int .i64 u2),(16,.int .i64 p1.2.2),(22,sL 12 Zn (a0.Ze.getD p1.2.2.toNat default).Zc),(23,.int .i64 ((a0.Ze.getD p1.2.2.toNat default).Zc.length : Int)),(24,.int .i64 p2.2.2)],[.box u3,mpO u Xs p2.2.1,rA 4 hdDom p2.1 v2,rF 2 XE Zl.Xo p2.1 v2,.box (Zn ((a0.Ze.getD p1.2.2.toNat default).Zc.getD p2.2.2.toNat default)),.box (Xs (⟨r,((a0.Ze.getD p1.2.2.toNat default).Zc.getD p2.2.2.toNat default).XF⟩ : Xi))]⟩) (fun _ => []) (fun _ => []) (fun _ => ZA) (fun _ => trivial) (fun _ => ?_)
           refine Zb ?_
           refine UT (fun (q : u7 × u5 × Int × (Nat → Value)) => ⟨82,[(3,.asl 2 0 q.1.length),(4,.val u),(5,.int .i64 p1.2.2),(7,.int .i64 p2.2.2),(10,.int .i64 q.2.2.1),u1,(15,.int .i64 u2),(16,.int .i64 p1.2.2),(22,sL 12 Zn (a0.Ze.getD p1.2.2.toNat default).Zc),(23,.int .i64 ((a0.Ze.getD p1.2.2.toNat default).Zc.length : Int)),(24,.int .i64 p2.2.2)],[.box u3,mpO u Xs q.2.1,rA 4 hdDom q.1 q.2.2.2,rF 2 XE Zl.Xo q.1 q.2.2.2]⟩) (fun q => M.Ja p1.2.2 p2 (q.1,q.2.1,q.2.2.1) = some y3) ?_ ?_
           · intro q h11
             unfold M.Ja at h11
             obtain ⟨c4,h12⟩ := Zz h11
             have g1 : 0 ≤ q.2.2.1 := of_decide_eq_true (c4 _ (by simp only [List.mem_cons,true_or]))
             have g2 : q.2.2.1 < (q.1.length : Int) := of_decide_eq_true (c4 _ (by simp only [List.mem_cons,true_or,or_true]))
             have g3 : ((q.1.getD (0 + q.2.2.1.toNat) default).Xo.length + 1) * 16 ≤ 140737488355328 := of_decide_eq_true (c4 _ (by simp only [List.mem_cons,true_or,or_true]))
             refine UQ (Zl6 (idf := 3) (0 + q.2.2.1.toNat) rfl) ?_
             refine rgxe 12 [] [3,4,5,14,15,16,22,23,24,65,66,76] 5 ⟨82,[(3,.asl 2 0 q.1.length),(4,.val u),(5,.int .i64 p1.2.2),u1,(15,.int .i64 u2),(16,.int .i64 p1.2.2),(22,sL 12 Zn (a0.Ze.getD p1.2.2.toNat default).Zc),(23,.int .i64 ((a0.Ze.getD p1.2.2.toNat default).Zc.length : Int)),(24,.int .i64 p2.2.2),(65,.asl 2 0 q.1.length),(66,.int .i64 q.2.2.1),(76,.asl 4 0 ((q.1.getD (0 + q.2.2.1.toNat) default).Xo.length + 1))],[.box u3,mpO u Xs q.2.1,rA 4 hdDom q.1 q.2.2.2,.fam (0 + q.2.2.1.toNat) (fun _ => false) q.1.length 2 (updV q.2.2.2 (0 + q.2.2.1.toNat) nilV) (updL (rls XE Zl.Xo q.1) (0 + q.2.2.1.toNat) (0,fun _ => [])),.arr 2 ((q.1.getD (0 + q.2.2.1.toNat) default).Xo.length + 1) (app (rls XE Zl.Xo q.1 (0 + q.2.2.1.toNat)).2 (rls XE Zl.Xo q.1 (0 + q.2.2.1.toNat)).1 (fun i => List.take 2 (List.drop (i * 2) [.int .i64 p1.2.2,.int .i64 p2.2.2])))]⟩ [decide (0 ≤ q.2.2.1),decide (q.2.2.1 < (q.1.length : Int)),pB (q.2.2.2 (0 + q.2.2.1.toNat) = q.2.2.2 (0 + q.2.2.1.toNat)),decide ((0 + q.2.2.1.toNat) < q.1.length),decide (((q.1.getD (0 + q.2.2.1.toNat) default).Xo.length + 1) * 16 ≤ 140737488355328)] [] ?_ trivial _ (Zki (idf := 3) 76 (0 + q.2.2.1.toNat) rfl rfl rfl ?_ rfl) [] [3,4,5,14,15,16,22,23,24] 4 (fun w => ⟨82,[(3,.asl 2 0 q.1.length),(4,.val u),(5,.int .i64 p1.2.2),u1,(15,.int .i64 u2),(16,.int .i64 p1.2.2),(22,sL 12 Zn (a0.Ze.getD p1.2.2.toNat default).Zc),(23,.int .i64 ((a0.Ze.getD p1.2.2.toNat default).Zc.length : Int)),(24,.int .i64 p2.2.2)],[.box u3,mpO u Xs q.2.1,.arr 4 q.1.length (fun j => bif Nat.beq j (0 + q.2.2.1.toNat) then splice (hdDom (q.1.getD (0 + q.2.2.1.toNat) default) ++ [.val (q.2.2.2 (0 + q.2.2.1.toNat))]) [.val w] 3 else hdDom (q.1.getD j default) ++ [.val (q.2.2.2 j)]),.fam 0 (fun _ => false) q.1.length 2 (updV (updV q.2.2.2 (0 + q.2.2.1.toNat) nilV) (0 + q.2.2.1.toNat) w) (updL (updL (rls XE Zl.Xo q.1) (0 + q.2.2.1.toNat) (0,fun _ => [])) (0 + q.2.2.1.toNat) ((q.1.getD (0 + q.2.2.1.toNat) default).Xo.length + 1,(app (rls XE Zl.Xo q.1 (0 + q.2.2.1.toNat)).2 (rls XE Zl.Xo q.1 (0 + q.2.2.1.toNat)).1 (fun i => List.take 2 (List.drop (i * 2) [.int .i64 p1.2.2,.int .i64 p2.2.2])))))]⟩) (fun _ => [decide (0 ≤ q.2.2.1),decide (q.2.2.1 < (q.1.length : Int))]) (fun _ => []) ?_ (fun _ => trivial) (fun w => ?_)
             · exact am (decide_eq_true g1) (am (decide_eq_true g2) (am (Zl5 rfl) (am (decide_eq_true (by omega)) (am (decide_eq_true g3) ZA))))
             · rw [UP]; rfl
             · exact fun _ => am (decide_eq_true g1) (am (decide_eq_true g2) ZA)
             refine XK ?_
             refine XJ (s' := ⟨82,[(3,.asl 2 0 (q.1.set (0 + q.2.2.1.toNat) (⟨(q.1.getD (0 + q.2.2.1.toNat) default).Zp,(q.1.getD (0 + q.2.2.1.toNat) default).XF,(q.1.getD (0 + q.2.2.1.toNat) default).Xo ++ [(⟨p1.2.2,p2.2.2⟩ : V8)]⟩ : Zl)).length),(4,.val u),(5,.int .i64 p1.2.2),(14,sL 25 Zu a0.Ze),(15,.int .i64 (a0.Ze.length : Int)),(16,.int .i64 p1.2.2),(22,sL 12 Zn (a0.Ze.getD p1.2.2.toNat default).Zc),(23,.int .i64 ((a0.Ze.getD p1.2.2.toNat default).Zc.length : Int)),(24,.int .i64 p2.2.2)],[.box (X3 a0),mpO u Xs q.2.1,rA 4 hdDom (q.1.set (0 + q.2.2.1.toNat) (⟨(q.1.getD (0 + q.2.2.1.toNat) default).Zp,(q.1.getD (0 + q.2.2.1.toNat) default).XF,(q.1.getD (0 + q.2.2.1.toNat) default).Xo ++ [(⟨p1.2.2,p2.2.2⟩ : V8)]⟩ : Zl)) (updV q.2.2.2 (0 + q.2.2.1.toNat) w),rF 2 XE Zl.Xo (q.1.set (0 + q.2.2.1.toNat) (⟨(q.1.getD (0 + q.2.2.1.toNat) default).Zp,(q.1.getD (0 + q.2.2.1.toNat) default).XF,(q.1.getD (0 + q.2.2.1.toNat) default).Xo ++ [(⟨p1.2.2,p2.2.2⟩ : V8)]⟩ : Zl)) (updV q.2.2.2 (0 + q.2.2.1.toNat) w)]⟩) (Le.trans (Zkl 2 3 hdDom XE Zl.Xo q.1 (⟨(q.1.getD (0 + q.2.2.1.toNat) default).Zp,(q.1.getD (0 + q.2.2.1.toNat) default).XF,(q.1.getD (0 + q.2.2.1.toNat) default).Xo ++ [(⟨p1.2.2,p2.2.2⟩ : V8)]⟩ : Zl) q.2.2.2 (0 + q.2.2.1.toNat) w ((q.1.getD (0 + q.2.2.1.toNat) default).Xo.length + 1) (app (rls XE Zl.Xo q.1 (0 + q.2.2.1.toNat)).2 (rls XE Zl.Xo q.1 (0 + q.2.2.1.toNat)).1 (fun i => List.take 2 (List.drop (i * 2) [.int .i64 p1.2.2,.int .i64 p2.2.2]))) _ _ _ (by decide) rfl rfl (fun j _ hj => by rw [ZdC hj]; rfl) (fun _ => by rw [Nat.beq_refl]; rfl) (fun j hj => Km hj) (fun j hj => ZcI hj) (by simp) (fun i hi => Zec XE (q.1.getD (0 + q.2.2.1.toNat) default).Xo (⟨p1.2.2,p2.2.2⟩ : V8) (fun i => List.take 2 (List.drop (i * 2) [.int .i64 p1.2.2,.int .i64 p2.2.2])) rfl i hi)) (VB (.cons (Rd (by simp)) (.cons Sub.rfl (.cons Sub.rfl (.cons Sub.rfl (.cons Sub.rfl (.cons Sub.rfl (.cons Sub.rfl (.cons Sub.rfl (.cons Sub.rfl .nil))))))))) HSub.rfl)) ?_
             refine rg0 [3,4,5,14,15,16,22,23,24] 4 ⟨82,[(3,.asl 2 0 (q.1.set (0 + q.2.2.1.toNat) (⟨(q.1.getD (0 + q.2.2.1.toNat) default).Zp,(q.1.getD (0 + q.2.2.1.toNat) default).XF,(q.1.getD (0 + q.2.2.1.toNat) default).Xo ++ [(⟨p1.2.2,p2.2.2⟩ : V8)]⟩ : Zl)).length),(4,.val u),(5,.int .i64 p1.2.2),u1,(15,.int .i64 u2),(16,.int .i64 p1.2.2),(22,sL 12 Zn (a0.Ze.getD p1.2.2.toNat default).Zc),(23,.int .i64 ((a0.Ze.getD p1.2.2.toNat default).Zc.length : Int)),(24,.int .i64 (wr .i64 (p2.2.2 + 1)))],[.box u3,mpO u Xs q.2.1,rA 4 hdDom (q.1.set (0 + q.2.2.1.toNat) (⟨(q.1.getD (0 + q.2.2.1.toNat) default).Zp,(q.1.getD (0 + q.2.2.1.toNat) default).XF,(q.1.getD (0 + q.2.2.1.toNat) default).Xo ++ [(⟨p1.2.2,p2.2.2⟩ : V8)]⟩ : Zl)) (updV q.2.2.2 (0 + q.2.2.1.toNat) w),rF 2 XE Zl.Xo (q.1.set (0 + q.2.2.1.toNat) (⟨(q.1.getD (0 + q.2.2.1.toNat) default).Zp,(q.1.getD (0 + q.2.2.1.toNat) default).XF,(q.1.getD (0 + q.2.2.1.toNat) default).Xo ++ [(⟨p1.2.2,p2.2.2⟩ : V8)]⟩ : Zl)) (updV q.2.2.2 (0 + q.2.2.1.toNat) w)]⟩ ?_
             obtain rfl := Option.some.inj h12
             exact ZbY (updV q.2.2.2 (0 + q.2.2.1.toNat) w) Ko
           · intro hk
             refine Za (rg0 [3,4,5,7,9,10,14,15,16,22,23,24,51] 6 ⟨82,[(3,.asl 2 0 p2.1.length),(4,.val u),(5,.int .i64 p1.2.2),(7,.int .i64 p2.2.2),(9,.ref 5 0),(10,.int .i64 (lkM (topoKeyEq (⟨r,((a0.Ze.getD p1.2.2.toNat default).Zc.getD p2.2.2.toNat default).XF⟩ : Xi)) p2.2.1).1),u1,(15,.int .i64 u2),(16,.int .i64 p1.2.2),(22,sL 12 Zn (a0.Ze.getD p1.2.2.toNat default).Zc),(23,.int .i64 ((a0.Ze.getD p1.2.2.toNat default).Zc.length : Int)),(24,.int .i64 p2.2.2),(51,.bool (!(lkM (topoKeyEq (⟨r,((a0.Ze.getD p1.2.2.toNat default).Zc.getD p2.2.2.toNat default).XF⟩ : Xi)) p2.2.1).2))],[.box u3,mpO u Xs p2.2.1,rA 4 hdDom p2.1 v2,rF 2 XE Zl.Xo p2.1 v2,.box (Zn ((a0.Ze.getD p1.2.2.toNat default).Zc.getD p2.2.2.toNat default)),.box (Xs (⟨r,((a0.Ze.getD p1.2.2.toNat default).Zc.getD p2.2.2.toNat default).XF⟩ : Xi))]⟩ ?_)
             refine Zb ?_
             refine cnd (!(lkM (topoKeyEq (⟨r,((a0.Ze.getD p1.2.2.toNat default).Zc.getD p2.2.2.toNat default).XF⟩ : Xi)) p2.2.1).2) (fun b4 => ?_) (fun b4 => ?_)
             · have h11 := Kp b4 h10
               obtain ⟨c4,h12⟩ := Zz h11
               refine Za (rg0 [3,4,5,7,9,10,14,15,16,22,23,24] 6 ⟨82,[(3,.asl 2 0 p2.1.length),(4,.val u),(5,.int .i64 p1.2.2),(7,.int .i64 p2.2.2),(9,.ref 5 0),(10,.int .i64 (p2.1.length : Int)),u1,(15,.int .i64 u2),(16,.int .i64 p1.2.2),(22,sL 12 Zn (a0.Ze.getD p1.2.2.toNat default).Zc),(23,.int .i64 ((a0.Ze.getD p1.2.2.toNat default).Zc.length : Int)),(24,.int .i64 p2.2.2)],[.box u3,mpO u Xs p2.2.1,rA 4 hdDom p2.1 v2,rF 2 XE Zl.Xo p2.1 v2,.box (Zn ((a0.Ze.getD p1.2.2.toNat default).Zc.getD p2.2.2.toNat default)),.box (Xs (⟨r,((a0.Ze.getD p1.2.2.toNat default).Zc.getD p2.2.2.toNat default).XF⟩ : Xi))]⟩ ?_)
               refine Zb (Za ?_)
               refine rgo 3 [] [3,4,5,7,9,10,14,15,16,22,23,24,54,55,56] 6 ⟨82,[(3,.asl 2 0 p2.1.length),(4,.val u),(5,.int .i64 p1.2.2),(7,.int .i64 p2.2.2),(9,.ref 5 0),(10,.int .i64 (p2.1.length : Int)),(14,sL 25 Zu a0.Ze),(15,.int .i64 (a0.Ze.length : Int)),(16,.int .i64 p1.2.2),(22,sL 12 Zn (a0.Ze.getD p1.2.2.toNat default).Zc),(23,.int .i64 ((a0.Ze.getD p1.2.2.toNat default).Zc.length : Int)),(24,.int .i64 p2.2.2),(54,.val u),(55,.agg (Xs (⟨r,((a0.Ze.getD p1.2.2.toNat default).Zc.getD p2.2.2.toNat default).XF⟩ : Xi))),(56,.int .i64 (p2.1.length : Int))],[.box (X3 a0),mpO u Xs p2.2.1,rA 4 hdDom p2.1 v2,rF 2 XE Zl.Xo p2.1 v2,.box (Zn ((a0.Ze.getD p1.2.2.toNat default).Zc.getD p2.2.2.toNat default)),.box (Xs (⟨r,((a0.Ze.getD p1.2.2.toNat default).Zc.getD p2.2.2.toNat default).XF⟩ : Xi))]⟩ [] [] ZA trivial (fun _ : Unit => ⟨82,[(3,.asl 2 0 p2.1.length),(4,.val u),(5,.int .i64 p1.2.2),(7,.int .i64 p2.2.2),(9,.ref 5 0),(10,.int .i64 (p2.1.length : Int)),(14,sL 25 Zu a0.Ze),(15,.int .i64 (a0.Ze.length : Int)),(16,.int .i64 p1.2.2),(22,sL 12 Zn (a0.Ze.getD p1.2.2.toNat default).Zc),(23,.int .i64 ((a0.Ze.getD p1.2.2.toNat default).Zc.length : Int)),(24,.int .i64 p2.2.2),(54,.val u),(55,.agg (Xs (⟨r,((a0.Ze.getD p1.2.2.toNat default).Zc.getD p2.2.2.toNat default).XF⟩ : Xi))),(56,.int .i64 (p2.1.length : Int))],[.box (X3 a0),mpO u Xs (p2.2.1 ++ [((⟨r,((a0.Ze.getD p1.2.2.toNat default).Zc.getD p2.2.2.toNat default).XF⟩ : Xi),(p2.1.length : Int))]),rA 4 hdDom p2.1 v2,rF 2 XE Zl.Xo p2.1 v2,.box (Zn ((a0.Ze.getD p1.2.2.toNat default).Zc.getD p2.2.2.toNat default)),.box (Xs (⟨r,((a0.Ze.getD p1.2.2.toNat default).Zc.getD p2.2.2.toNat default).XF⟩ : Xi))]⟩) (Zng (id := 1) Zjd (⟨r,((a0.Ze.getD p1.2.2.toNat default).Zc.getD p2.2.2.toNat default).XF⟩ : Xi) (p2.1.length : Int) rfl rfl rfl rfl rfl rfl rfl rfl (by simpa using b4)) [] [3,4,5,7,9,10,14,15,16,22,23,24] 6 (fun _ => ⟨82,[(3,.asl 2 0 p2.1.length),(4,.val u),(5,.int .i64 p1.2.2),(7,.int .i64 p2.2.2),(9,.ref 5 0),(10,.int .i64 (p2.1.length : Int)),(14,sL 25 Zu a0.Ze),(15,.int .i64 (a0.Ze.length : Int)),(16,.int .i64 p1.2.2),(22,sL 12 Zn (a0.Ze.getD p1.2.2.toNat default).Zc),(23,.int .i64 ((a0.Ze.getD p1.2.2.toNat default).Zc.length : Int)),(24,.int .i64 p2.2.2)],[.box (X3 a0),mpO u Xs (p2.2.1 ++ [((⟨r,((a0.Ze.getD p1.2.2.toNat default).Zc.getD p2.2.2.toNat default).XF⟩ : Xi),(p2.1.length : Int))]),rA 4 hdDom p2.1 v2,rF 2 XE Zl.Xo p2.1 v2,.box (Zn ((a0.Ze.getD p1.2.2.toNat default).Zc.getD p2.2.2.toNat default)),.box (Xs (⟨r,((a0.Ze.getD p1.2.2.toNat default).Zc.getD p2.2.2.toNat default).XF⟩ : Xi))]⟩) (fun _ => []) (fun _ => []) (fun _ => ZA) (fun _ => trivial) (fun _ => ?_)
               refine Zb ?_
               refine rgc [3,4,5,7,10,14,15,16,22,23,24] 4 ⟨82,[(3,.asl 2 0 (p2.1.length + 1)),(4,.val u),(5,.int .i64 p1.2.2),(7,.int .i64 p2.2.2),(10,.int .i64 (p2.1.length : Int)),u1,(15,.int .i64 u2),(16,.int .i64 p1.2.2),(22,sL 12 Zn (a0.Ze.getD p1.2.2.toNat default).Zc),(23,.int .i64 ((a0.Ze.getD p1.2.2.toNat default).Zc.length : Int)),(24,.int .i64 p2.2.2)],[.box u3,mpO u Xs (p2.2.1 ++ [((⟨r,((a0.Ze.getD p1.2.2.toNat default).Zc.getD p2.2.2.toNat default).XF⟩ : Xi),(p2.1.length : Int))]),.arr 4 (p2.1.length + 1) (app (fun j => hdDom (p2.1.getD j default) ++ [.val (v2 j)]) p2.1.length (fun i => List.take 4 (List.drop (i * 4) [.int .u32 r.Zy,.int .i64 r.ZK,.int .i64 ((a0.Ze.getD p1.2.2.toNat default).Zc.getD p2.2.2.toNat default).XF,.sl true 2 0 (fun _ => [])]))),rF 2 XE Zl.Xo p2.1 v2]⟩ [decide ((p2.1.length + 1) * 48 ≤ 140737488355328)] c4 ?_
               refine Zan (ZkS 2 3 hdDom XE Zl.Xo p2.1 (⟨r,((a0.Ze.getD p1.2.2.toNat default).Zc.getD p2.2.2.toNat default).XF,[]⟩ : Zl) v2 (by decide) rfl rfl rfl (fun j hj => Zf1 hj) (Zmp.trans rfl)) fun w => ?_
               exact UQ (VB (.cons (Rd (by simp)) (.cons Sub.rfl (.cons Sub.rfl (.cons Sub.rfl (.cons Sub.rfl (.cons Sub.rfl (.cons Sub.rfl (.cons Sub.rfl (.cons Sub.rfl (.cons Sub.rfl (.cons Sub.rfl .nil))))))))))) HSub.rfl) (hk (p2.1 ++ [(⟨r,((a0.Ze.getD p1.2.2.toNat default).Zc.getD p2.2.2.toNat default).XF,[]⟩ : Zl)],(p2.2.1 ++ [((⟨r,((a0.Ze.getD p1.2.2.toNat default).Zc.getD p2.2.2.toNat default).XF⟩ : Xi),(p2.1.length : Int))]),(p2.1.length : Int),updV v2 p2.1.length w.1) h12)
             · have h11 := Kq b4 h10
               refine Zd ?_
               exact XJ (Le.trans (s' := ⟨82,[(3,.asl 2 0 p2.1.length),(4,.val u),(5,.int .i64 p1.2.2),(7,.int .i64 p2.2.2),(10,.int .i64 (lkM (topoKeyEq (⟨r,((a0.Ze.getD p1.2.2.toNat default).Zc.getD p2.2.2.toNat default).XF⟩ : Xi)) p2.2.1).1),u1,(15,.int .i64 u2),(16,.int .i64 p1.2.2),(22,sL 12 Zn (a0.Ze.getD p1.2.2.toNat default).Zc),(23,.int .i64 ((a0.Ze.getD p1.2.2.toNat default).Zc.length : Int)),(24,.int .i64 p2.2.2)],[.box u3,mpO u Xs p2.2.1,rA 4 hdDom p2.1 v2,rF 2 XE Zl.Xo p2.1 v2,.box (Zn ((a0.Ze.getD p1.2.2.toNat default).Zc.getD p2.2.2.toNat default)),.box (Xs (⟨r,((a0.Ze.getD p1.2.2.toNat default).Zc.getD p2.2.2.toNat default).XF⟩ : Xi))]⟩) (kp [3,4,5,7,10,14,15,16,22,23,24]) (G6 (n := 4) (by kernel_rfl))) (hk (p2.1,p2.2.1,(lkM (topoKeyEq (⟨r,((a0.Ze.getD p1.2.2.toNat default).Zc.getD p2.2.2.toNat default).XF⟩ : Xi)) p2.2.1).1,v2) h11)
       · have h7 := Kq b2 h6
         refine ZH (Xn ?_)
         obtain rfl := Option.some.inj h7
         exact Zeh ⟨rfl,LeE.of v2 (kp [3,4,14,15,16])⟩
     · intro e s o
       obtain ⟨rfl,l⟩ := o
       refine YP (XK ?_)
       refine Zan l fun v2 => ?_
       refine rg0 [3,4,14,15,16] 4 ⟨82,[(3,.asl 2 0 y2.1.length),(4,.val u),u1,(15,.int .i64 u2),(16,.int .i64 (wr .i64 (p1.2.2 + 1)))],[.box u3,mpO u Xs y2.2,rA 4 hdDom y2.1 v2,rF 2 XE Zl.Xo y2.1 v2]⟩ ?_
       obtain rfl := Option.some.inj h5
       exact ZbY v2 Ko
   · have h3 := Kq b1 h2
     refine ZH (Xn ?_)
     obtain rfl := Option.some.inj h3
     exact Zeh ⟨rfl,LeE.of (v1,p1.2.1) (kp [3])⟩
 · intro e s o
   obtain ⟨rfl,l⟩ := o
   refine YP ?_
   refine Zan l fun g => ?_
   refine Za (rg0 [2] 4 ⟨82,[(2,.asl 2 0 y.length)],[.box u3,mpO u Xs g.2,rA 4 hdDom y g.1,rF 2 XE Zl.Xo y g.1]⟩ ?_)
   refine Zb (Zg ?_)
   exact ⟨_,Zkm 2 3 hdDom XE Zl.Xo ZT y g.1 rfl rfl (fun _ => rfl),.inr rfl,2,2,_,rfl,rfl,rfl,fun _ _ => rfl⟩
theorem K7 (a0 : Int) (r : Bool) (h : M.QD a0 = some r) : Fn Tryz.prog 100 [.int .u32 a0] (.pure (.bool r)) := by
 unfold M.QD at h
 exact ZL Tryz.func100 rfl (by kernel_rfl) (Za (zg [0] 0 (Zb (Za (zg [2] 0 (Zb (Zg (er1 h))))))))
theorem Zbu (a0 : Int) (a1 : Int) (r : Int) (h : M.QO a0 a1 = some r) : Fn Tryz.prog 63 [.int .u32 a0,.int .u32 a1] (.pure (.int .i64 r)) := by
 unfold M.QO at h
 refine ZL Tryz.func63 rfl (by kernel_rfl) (Za (zg [0,1] 0 (Zb (Za ?_))))
 obtain ⟨r1,q1,h2⟩ := bind_some h
 refine zr [0,1,5] 0 ZA (rq1 (K7 _ _ q1) rqn) (Zb (Za ?_))
 obtain ⟨r2,q3,h4⟩ := bind_some h2
 refine zr [0,1,5,6] 0 ZA (rq1 (K7 _ _ q3) rqn) (Zb (Za (Za (zg [0,1,6,11] 0 (Zb (cn h4 (fun _ h6 => ?_) (fun _ h7 => ?_)))))))
 refine Za (Za (zg [12] 0 (Zb (cn h6 (fun _ h9 => ?_) (fun _ h10 => ?_)))))
 exact Za (zg [4] 0 (Zb (Zg (Zh (Zh (er1 h9))))))
 exact Zd (Zb (Za (zg [4] 0 (Zb (Zg (Zh (er1 h10)))))))
 refine Zd (Zb (Za (Za (zg [0,1,13] 0 (Zb (cn h7 (fun _ h12 => ?_) (fun _ h13 => ?_)))))))
 exact Za (zg [4] 0 (Zb (Zg (Zh (er1 h12)))))
 refine Zd (Zb (Za (Za (zg [0,1,16] 0 (Zb (cn h13 (fun _ h15 => ?_) (fun _ h16 => ?_)))))))
 exact Za (zg [4] 0 (Zb (Zg (Zh (er1 h15)))))
 refine Zd (Zb (Za (Za (zg [19] 0 (Zb (cn h16 (fun _ h18 => ?_) (fun _ h19 => ?_)))))))
 exact Za (zg [4] 0 (Zb (Zg (Zh (er1 h18)))))
 exact Zd (Zb (Za (zg [4] 0 (Zb (Zg (er1 h19))))))
theorem Zav (a0 : Int) (r : Bool) (h : M.J5 a0 = some r) : Fn Tryz.prog 64 [.int .i64 a0] (.pure (.bool r)) := by
 unfold M.J5 at h
 exact ZL Tryz.func64 rfl (by kernel_rfl) (Za (zg [0] 0 (Zb (Za (zg [2] 0 (Zb (Zg (er1 h))))))))
theorem Rv (a0 : Int) (a1 : Int) (r : Int) (h : M.Q2 a0 a1 = some r) : Fn Tryz.prog 43 [.int .i64 a0,.int .i64 a1] (.pure (.int .i64 r)) := by
 unfold M.Q2 at h
 refine ZL Tryz.func43 rfl (by kernel_rfl) (Za (zg [0,1] 0 (Zb (Za ?_))))
 obtain ⟨r1,q1,h2⟩ := bind_some h
 refine zr [0,1,5] 0 ZA (rq1 (Zav _ _ q1) rqn) (Zb (Za ?_))
 obtain ⟨r2,q3,h4⟩ := bind_some h2
 refine zr [0,1,5,6] 0 ZA (rq1 (Zav _ _ q3) rqn) (Zb (Za (Za (zg [0,1,6,11] 0 (Zb (cn h4 (fun _ h6 => ?_) (fun _ h7 => ?_)))))))
 refine Za (Za (zg [12] 0 (Zb (cn h6 (fun _ h9 => ?_) (fun _ h10 => ?_)))))
 exact Za (zg [4] 0 (Zb (Zg (Zh (Zh (er1 h9))))))
 exact Zd (Zb (Za (zg [4] 0 (Zb (Zg (Zh (er1 h10)))))))
 refine Zd (Zb (Za (Za (zg [0,1,13] 0 (Zb (cn h7 (fun _ h12 => ?_) (fun _ h13 => ?_)))))))
 exact Za (zg [4] 0 (Zb (Zg (Zh (er1 h12)))))
 refine Zd (Zb (Za (Za (zg [0,1,16] 0 (Zb (cn h13 (fun _ h15 => ?_) (fun _ h16 => ?_)))))))
 exact Za (zg [4] 0 (Zb (Zg (Zh (er1 h15)))))
 refine Zd (Zb (Za (Za (zg [19] 0 (Zb (cn h16 (fun _ h18 => ?_) (fun _ h19 => ?_)))))))
 exact Za (zg [4] 0 (Zb (Zg (Zh (er1 h18)))))
 exact Zd (Zb (Za (zg [4] 0 (Zb (Zg (er1 h19))))))
theorem Zfx (a0 : ZS) (a1 : ZS) (r : Int) (h : M.Wj a0 a1 = some r) : Fn Tryz.prog 42 [.agg (Xc a0),.agg (Xc a1)] (.pure (.int .i64 r)) := by
 unfold M.Wj at h
 refine ZL Tryz.func42 rfl (by kernel_rfl) (Za (zg [2,3] 2 (Zb (Za (Za ?_)))))
 obtain ⟨r1,q1,h2⟩ := bind_some h
 refine zr [2,3,5] 2 ZA (rq1 (Zbu _ _ _ q1) rqn) (Zb (Za (zg [2,3,5,12] 2 (Zb (cn h2 (fun _ h4 => ?_) (fun _ h5 => ?_))))))
 exact Za (zg [4] 0 (Zb (Zg (Zh (er1 h4)))))
 refine Zd (Zb (Za ?_))
 obtain ⟨r2,q6,h7⟩ := bind_some h5
 exact zr [4] 0 ZA (rq1 (Rv _ _ _ q6) rqn) (Zb (Zg (er1 h7)))
theorem Zg7 (a0 : List Int) (r : Int) (h : M.Ua a0 = some r) : Fn Tryz.prog 41 [sL 1 (ci .i64) a0] (.pure (.int .i64 r)) := by
 unfold M.Ua at h
 refine ZL Tryz.func41 rfl (by kernel_rfl) (Za (zg [0] 0 (Zb (Za (zg [0,3] 0 (Zb (Za (Za (zg [3,6,7,8] 0 (Zb (Zi ?_)))))))))))
 obtain ⟨y3,q10,h11⟩ := bind_some h
 refine zl (fun (p1 : Int) => ⟨18,[(3,.int .i64 0),(6,sL 1 (ci .i64) a0),(7,.int .i64 (a0.length : Int)),(8,.int .i64 p1)],[]⟩) (Sum.elim (fun z => OutE 0 (fun z => ⟨18,[(3,.int .i64 0)],[]⟩) z) (fun z => OutR Tryz.prog Tryz.f41 (.int .i64 z))) q10 ?_ ?_
 intro p1 y2 h1
 unfold M.YN at h1
 refine Za (zg [3,6,7,8,9] 0 (Zb (Za (cn h1 (fun _ h3 => ?_) (fun _ h4 => ?_)))))
 refine Zd (Zb (Za (Zi (Za ?_))))
 obtain ⟨c5,h6⟩ := Zz h3
 refine zc [3,5,6,7,8] 0 c5 (Zb (Za (zg [3,5,6,7,8,14] 0 (Zb (cn h6 (fun _ h8 => ?_) (fun _ h9 => ?_))))))
 exact Za (zg [2] 0 (Zb (Zg (ZC (Zh (rr h8 ⟨rfl,er0 _⟩))))))
 exact Zd (XK (Zb (zg [3,6,7,8] 0 (rn h9))))
 exact ZH (Xn (re h4 ⟨rfl,kq⟩))
 intro e12 s13 o14
 rcases y3 with g4 | y5
 have h15 := XG h11
 exact zi o14 (Za (zg [2] 0 (Zb (Zg (er1 h15)))))
 have h16 := XH h11
 obtain ⟨rfl,n18⟩ := o14
 refine ZC (Zh ?_)
 obtain rfl := Option.some.inj h16
 exact n18
theorem Zfy (a0 : Zl) (a1 : Zl) (r : Int) (h : M.VT a0 a1 = some r) : Fn Tryz.prog 40 [.agg (ZT a0),.agg (ZT a1)] (.pure (.int .i64 r)) := by
 unfold M.VT at h
 refine ZL Tryz.func40 rfl (by kernel_rfl) (Za (zg [2,3] 2 (Zb (Za ?_))))
 obtain ⟨r1,q1,h2⟩ := bind_some h
 obtain ⟨r2,q3,h4⟩ := bind_some h2
 obtain ⟨r3,q5,h6⟩ := bind_some h4
 exact rg [.pure (.int .i64 r1),.pure (.int .i64 r2),.pure (.int .i64 r3)] [4] 0 ⟨17,[(4,.int .i64 r3)],[]⟩ [] [⟨true,42,[.agg (Xc a0.Zp),.agg (Xc a1.Zp)],.pure (.int .i64 r1)⟩,⟨true,43,[.int .i64 a0.XF,.int .i64 a1.XF],.pure (.int .i64 r2)⟩,⟨true,41,[.sl false 1 2 (fun i => List.take 1 (List.drop (i * 1) [.int .i64 r1,.int .i64 r2]))],.pure (.int .i64 r3)⟩] ZA ⟨fun _ => Zfx a0.Zp a1.Zp r1 q1,fun _ => Rv a0.XF a1.XF r2 q3,fun _ => (Zg7 ([r1,r2] : List Int) r3 q5).args (.cons (ZhX rfl (fun i hi => match i,hi with | 0,_ => rfl | 1,_ => rfl | n + 2,h => absurd h (by omega))) .nil),trivial⟩ (Zb (Zg (er1 h6)))
end Nv
namespace Go.Proofs
open Go.Shelf
shelf_lay_g SlLaysF0.n6 Slsf 6 at Tryz 39 as Tryz.sortL39
end Go.Proofs
namespace Nv
open Go Go.Proofs
theorem WX (a0 : List Zl) (r : List Zl) (h : M.XP a0 = some r) : FnM Tryz.prog 39 [.asl 0 0 a0.length,.fn 40 []] 4 a0.length (fun i => ZT (a0.getD i default)) (fun i => ZT (r.getD i default)) (.tup []) := by
 obtain ⟨cf,h1,h2,h3,h4,rfl⟩ := ZjM h
 exact sortFR0 Tryz.sortL39 4 (fun w => by kernel_rfl) (fun w => by kernel_rfl) ZT (fun _ => rfl) (fun _ => rfl) h2 40 (enters_of Tryz.func40 (by kernel_rfl) rfl) (fun x y => Zfy x y _ (h1 x y)) a0 h3 h4
theorem Zg8 (a0 : ZG) (r : Yl × Int) (h : M.WE a0 = some r) : Fn Tryz.prog 12 [.agg (X3 a0)] (.pure (.tup [.agg (Wr r.1),.int .i64 r.2])) := by
 let u3 := X3 a0
 unfold M.WE at h
 refine ZL Tryz.func12 rfl (by kernel_rfl) (Za (zg [1,2] 2 (Zb (Za (Za ?_)))))
 obtain ⟨r1,q1,h2⟩ := bind_some h
 refine zr [1,2,4] 2 ZA (rq1 (ZgK _ _ q1) rqn) (Zb (Za (zg [1,2,4,12] 2 (Zb (cn h2 (fun _ h4 => ?_) (fun _ h5 => ?_))))))
 refine Za (zg [2,3] 2 (Zb (Zg (Zh ?_))))
 obtain rfl := Option.some.inj h4
 exact er (.tup [.agg [.sl false 4 0 (fun _ => []),.sl false 1 0 (fun _ => [])],.int .i64 r1]) (Ra (.cons (Kr (.cons Q6 (.cons Q6 .nil))) (.cons ASub.rfl .nil)))
 refine Zd (Zb (Za ?_))
 obtain ⟨r2,q6,h7⟩ := bind_some h5
 refine rg [oL 4 ZT r2] [2,5] 3 ⟨45,[(2,.ref 1 0),(5,.asl 2 0 r2.length)],[.box u3,.box [.sl true 4 0 (fun _ => []),.sl true 1 0 (fun _ => [])],aL 4 ZT r2]⟩ [] [⟨true,38,[.agg u3],oL 4 ZT r2⟩] ZA ⟨fun _ => Ze1 a0 r2 q6,trivial⟩ (Zb (Za ?_))
 obtain ⟨r3,q8,h9⟩ := bind_some h7
 let u1 : List Ob := [.box u3,.box [.sl true 4 0 (fun _ => []),.sl true 1 0 (fun _ => [])],aL 4 ZT ([] : List Zl),.box [sL 4 ZT r3,.sl true 1 0 (fun _ => [])]]
 let u4 : Nat × D := (21,sL 4 ZT r3)
 let u5 := (r3.length : Int)
 obtain ⟨c10,h11⟩ := Zz h9
 refine rg [.lnd 0 0 (fun _ => []) (fun i => ZT (r3.getD i default)) (.tup [])] [2,5] 3 ⟨45,[(2,.ref 1 0),(5,.asl 2 0 r2.length)],[.box u3,.box [.sl true 4 0 (fun _ => []),.sl true 1 0 (fun _ => [])],.arr 4 r2.length (fun i => ZT (r3.getD i default))]⟩ [] [⟨true,39,[.asl 0 0 r2.length,.fn 40 []],.lnd 4 r2.length (fun i => ZT (r2.getD i default)) (fun i => ZT (r3.getD i default)) (.tup [])⟩] ZA ⟨fun _ => WX r2 r3 q8,trivial⟩ (XJ (s' := ⟨45,[(2,.ref 1 0),(5,.asl 2 0 r3.length)],[.box u3,.box [.sl true 4 0 (fun _ => []),.sl true 1 0 (fun _ => [])],aL 4 ZT r3]⟩) (VB (.cons Sub.rfl (.cons (Rd (ZlS (c10 _ List.mem_cons_self))) .nil)) (.cons .rfl (.cons .rfl (.cons (.arr (ZlS (c10 _ List.mem_cons_self)) (fun _ _ => rfl)) .nil)))) (Za (UQ (s' := ⟨45,[(2,.ref 1 0),(5,sL 4 ZT r3)],[.box u3,.box [.sl true 4 0 (fun _ => []),.sl true 1 0 (fun _ => [])],aL 4 ZT ([] : List Zl)]⟩) (Le.trans (Zl1 5 2 4 ZT r3 (fun i => ZT (([] : List Zl).getD i default)) (by kernel_rfl) (by kernel_rfl) (by kernel_rfl)) (kp [2,5])) (zg [2,5,6] 4 (Zb (Za (Za (rg0 [2,6,21,22,23] 4 ⟨45,[(2,.ref 1 0),(6,.ref 3 0),u4,(22,.int .i64 u5),(23,.int .i64 0)],u1⟩ (Zb (Zi (UQ (s' := ⟨45,[(2,.ref 1 0),(6,.ref 3 0),u4,(22,.int .i64 u5),(23,.int .i64 0)],u1⟩) (Ko) (UQ (s' := ⟨45,[(2,.ref 1 0),(6,.ref 3 0),u4,(22,.int .i64 u5),(23,.int .i64 0)],[.box u3,.box [.sl true 4 0 (fun _ => []),.sl true 1 0 (fun _ => [])],aL 4 ZT ([] : List Zl),.box [sL 4 ZT r3,.asl 4 0 (([] : List Int).length)],aL 1 (ci .i64) ([] : List Int)]⟩) (ZgA (nt := 45) (e := [(2,.ref 1 0),(6,.ref 3 0),u4,(22,.int .i64 u5),(23,.int .i64 0)]) (H := u1) (cells := [sL 4 ZT r3,.sl true 1 0 (fun _ => [])]) (wd := 1) (f := fun _ => []) 3 1 rfl rfl 1 (fun i => (ci .i64) (([] : List Int).getD i default))) ?_))))))))))))
 obtain ⟨y8,q28,h29⟩ := bind_some h11
 let u2 : List (Nat × D) := [(2,.ref 1 0),(6,.ref 3 0),(42,.bool (decide ((y8.length : Int) > 12)))]
 refine zl (fun (p5 : (List Int) × Int) => ⟨45,[(2,.ref 1 0),(6,.ref 3 0),u4,(22,.int .i64 u5),(23,.int .i64 p5.2)],[.box u3,.box [.sl true 4 0 (fun _ => []),.sl true 1 0 (fun _ => [])],aL 4 ZT ([] : List Zl),.box [sL 4 ZT r3,.asl 4 0 p5.1.length],aL 1 (ci .i64) p5.1]⟩) (fun z => OutE 0 (fun z => ⟨45,[(2,.ref 1 0),(6,.ref 3 0)],[.box u3,.box [.sl true 4 0 (fun _ => []),.sl true 1 0 (fun _ => [])],aL 4 ZT ([] : List Zl),.box [sL 4 ZT r3,.asl 4 0 z.length],aL 1 (ci .i64) z]⟩) z) q28 ?_ ?_
 intro p5 y6 h15
 let u6 := p5.1.length + 1
 unfold M.Vn at h15
 refine Za (rg0 [2,6,21,22,23,24] 5 ⟨45,[(2,.ref 1 0),(6,.ref 3 0),u4,(22,.int .i64 u5),(23,.int .i64 p5.2),(24,.bool (decide (p5.2 < u5)))],[.box u3,.box [.sl true 4 0 (fun _ => []),.sl true 1 0 (fun _ => [])],aL 4 ZT ([] : List Zl),.box [sL 4 ZT r3,.asl 4 0 p5.1.length],aL 1 (ci .i64) p5.1]⟩ (Zb (Za (cn h15 (fun _ h17 => ?_) (fun _ h18 => ?_)))))
 refine Zd (Zb (UT (fun (p7 : (List Int)) => ⟨45,[(2,.ref 1 0),(6,.ref 3 0),u4,(22,.int .i64 u5),(23,.int .i64 p5.2)],[.box u3,.box [.sl true 4 0 (fun _ => []),.sl true 1 0 (fun _ => [])],aL 4 ZT ([] : List Zl),.box [sL 4 ZT r3,.asl 4 0 p7.length],aL 1 (ci .i64) p7]⟩) (fun p7 => M.J6 p5 p7 = some y6) ?_ ?_))
 intro p7 h20
 unfold M.J6 at h20
 exact zg [2,6,21,22,23] 5 (rn h20)
 intro k19
 refine Zi (Za ?_)
 obtain ⟨c21,h22⟩ := Zz h17
 refine zc [2,6,7,8,21,22,23] 6 c21 (Zb (Za (zg [2,6,7,21,22,23,31] 5 (Zb (cn h22 (fun _ h24 => ?_) (fun _ h25 => ?_))))))
 obtain ⟨c26,h27⟩ := Zz h24
 exact rgc [2,6,21,22,23] 5 ⟨45,[(2,.ref 1 0),(6,.ref 3 0),u4,(22,.int .i64 u5),(23,.int .i64 p5.2)],[.box u3,.box [.sl true 4 0 (fun _ => []),.sl true 1 0 (fun _ => [])],aL 4 ZT ([] : List Zl),.box [sL 4 ZT r3,.asl 4 0 u6],.arr 1 u6 (app (fun i => (ci .i64) (p5.1.getD i default)) p5.1.length (fun i => List.take 1 (List.drop (i * 1) [.int .i64 p5.2])))]⟩ [decide (u6 * 8 ≤ 140737488355328)] c26 (XK (XJ (VB (.cons Sub.rfl (.cons Sub.rfl (.cons Sub.rfl (.cons Sub.rfl (.cons Sub.rfl .nil))))) (.cons .rfl (.cons .rfl (.cons .rfl (.cons (.box (.cons CSub.rfl (.cons (Rq (Zed _ _)) .nil))) (.cons (.arr (Zed _ _) (Zec (ci .i64) p5.1 p5.2 _ rfl)) .nil)))))) (k19 (p5.1 ++ [p5.2]) h27)))
 exact Zd (XK (XJ kq (k19 p5.1 h25)))
 exact ZH (Xn (re h18 ⟨rfl,kq⟩))
 intro e30 s31 o32
 refine zi o32 (Za (Za (rg0 [2,6,42] 5 ⟨45,u2,[.box u3,.box [.sl true 4 0 (fun _ => []),.sl true 1 0 (fun _ => [])],aL 4 ZT ([] : List Zl),.box [sL 4 ZT r3,.asl 4 0 y8.length],aL 1 (ci .i64) y8]⟩ (Zb (cn h29 (fun _ h35 => ?_) (fun _ h36 => ?_))))))
 refine Za (zg [2,3] 2 (Zb (Zg (Zh ?_))))
 obtain rfl := Option.some.inj h35
 exact er (.tup [.agg [.sl false 4 0 (fun _ => []),.sl false 1 0 (fun _ => [])],.int .i64 7]) (Ra (.cons (Kr (.cons Q6 (.cons Q6 .nil))) (.cons ASub.rfl .nil)))
 refine Zd (Zb (Za (UQ (s' := ⟨45,u2,[.box u3,.box [.sl true 4 0 (fun _ => []),.sl true 1 0 (fun _ => [])],aL 4 ZT ([] : List Zl),.box [sL 4 ZT r3,.sl false 1 y8.length (fun k => (fun i => (ci .i64) (y8.getD i default)) (0 + k))],aL 1 (ci .i64) ([] : List Int)]⟩) (Le.trans ((ZbV (s := ⟨45,u2,[.box u3,.box [.sl true 4 0 (fun _ => []),.sl true 1 0 (fun _ => [])],aL 4 ZT ([] : List Zl),.box [sL 4 ZT r3,.asl 4 0 y8.length],aL 1 (ci .i64) y8]⟩) (s' := ⟨45,u2,[.box u3,.box [.sl true 4 0 (fun _ => []),.sl true 1 0 (fun _ => [])],aL 4 ZT ([] : List Zl),.box [sL 4 ZT r3,.sl false 1 y8.length (fun k => (fun i => (ci .i64) (y8.getD i default)) (0 + k))],aL 1 (ci .i64) ([] : List Int)]⟩) 4 1 y8.length (fun i => (ci .i64) (y8.getD i default)) (fun i => (ci .i64) (([] : List Int).getD i default)) (by kernel_rfl) (by kernel_rfl) (by kernel_rfl))) (kp [2,6,42])) (rg0 [2,3] 2 ⟨45,[(2,.ref 1 0),(3,.int .i64 0)],[.box u3,.box [sL 4 ZT r3,.sl false 1 y8.length (fun k => (fun i => (ci .i64) (y8.getD i default)) (0 + k))]]⟩ (XJ (s' := ⟨45,[(2,.ref 1 0),(3,.int .i64 0)],[.box u3,.box [sL 4 ZT r3,sL 1 (ci .i64) y8]]⟩) (VB (.cons Sub.rfl (.cons Sub.rfl .nil)) (.cons .rfl (.cons (.box (.cons CSub.rfl (.cons (KP rfl (RZ (f := fun i => (ci .i64) (y8.getD i default)) (fun _ _ => rfl))) .nil))) .nil))) (Zg ?_))))))
 obtain rfl := Option.some.inj h36
 exact er0 (.tup [.agg [sL 4 ZT r3,sL 1 (ci .i64) y8],.int .i64 0])
theorem GJ (a0 : List Zf) (r : List Zf) (h : M.XT a0 = some r) : Fn Tryz.prog 68 [sL 25 Zu a0] (oL 25 Zu r) := by
 unfold M.XT at h
 obtain ⟨hc,h1⟩ := Zz h
 obtain rfl := Option.some.inj h1
 refine ZeU Tryz.func68 rfl (by kernel_rfl) (Kc ?_)
 refine Za (rg0 [0] 0 ⟨8,[(0,sL 25 Zu a0)],[]⟩ ?_)
 refine Zb (Za (Za (rg0 [0,4] 0 ⟨8,[(0,sL 25 Zu a0),(4,.nilq a0.length)],[]⟩ ?_)))
 refine Zb (nq a0.length (fun hz => ?_) ?_)
 refine Za (rg0 [2] 0 ⟨8,[(2,.sl true 25 0 (fun _ => []))],[]⟩ ?_)
 refine Zb (Zg (Zh ?_))
 obtain rfl := List.eq_nil_of_length_eq_zero hz
 exact ⟨_,ZcL (wd := 25) (f := fun _ => []) 2 (by kernel_rfl) 25 (fun i => Zu (([] : List Zf).getD i default)),.inr rfl,2,0,_,rfl,rfl,rfl,fun _ _ => rfl⟩
 refine Zd (Zb (Za (rgc [2] 1 ⟨8,[(2,.asl 0 0 (0 + a0.length))],[.arr 25 (0 + a0.length) (app (fun i => List.take 25 (List.drop (i * 25) [])) 0 (fun i => Zu (a0.getD i default)))]⟩ [decide (0 = 0) || decide (0 < a0.length),decide ((0 + a0.length) * 448 ≤ 140737488355328)] hc ?_)))
 refine Zb (Zg ?_)
 exact ⟨⟨8,[(2,.asl 0 0 a0.length)],[aL 25 Zu a0]⟩,VB (.cons (Rd (Nat.zero_add _)) .nil) (.cons (.arr (Nat.zero_add _) (Uk Zu _ a0 _ (fun _ _ => rfl))) .nil),.inr rfl,2,0,_,rfl,rfl,rfl,fun _ _ => rfl⟩
theorem U2 (a0 : List ZB) (r : List ZB) (h : M.XA a0 = some r) : Fn Tryz.prog 113 [sL 12 Zn a0] (oL 12 Zn r) := by
 unfold M.XA at h
 obtain ⟨hc,h1⟩ := Zz h
 obtain rfl := Option.some.inj h1
 refine ZeU Tryz.func113 rfl (by kernel_rfl) (Kc ?_)
 refine Za (rg0 [0] 0 ⟨8,[(0,sL 12 Zn a0)],[]⟩ ?_)
 refine Zb (Za (Za (rg0 [0,4] 0 ⟨8,[(0,sL 12 Zn a0),(4,.nilq a0.length)],[]⟩ ?_)))
 refine Zb (nq a0.length (fun hz => ?_) ?_)
 refine Za (rg0 [2] 0 ⟨8,[(2,.sl true 12 0 (fun _ => []))],[]⟩ ?_)
 refine Zb (Zg (Zh ?_))
 obtain rfl := List.eq_nil_of_length_eq_zero hz
 exact ⟨_,ZcL (wd := 12) (f := fun _ => []) 2 (by kernel_rfl) 12 (fun i => Zn (([] : List ZB).getD i default)),.inr rfl,2,0,_,rfl,rfl,rfl,fun _ _ => rfl⟩
 refine Zd (Zb (Za (rgc [2] 1 ⟨8,[(2,.asl 0 0 (0 + a0.length))],[.arr 12 (0 + a0.length) (app (fun i => List.take 12 (List.drop (i * 12) [])) 0 (fun i => Zn (a0.getD i default)))]⟩ [decide (0 = 0) || decide (0 < a0.length),decide ((0 + a0.length) * 112 ≤ 140737488355328)] hc ?_)))
 refine Zb (Zg ?_)
 exact ⟨⟨8,[(2,.asl 0 0 a0.length)],[aL 12 Zn a0]⟩,VB (.cons (Rd (Nat.zero_add _)) .nil) (.cons (.arr (Nat.zero_add _) (Uk Zn _ a0 _ (fun _ _ => rfl))) .nil),.inr rfl,2,0,_,rfl,rfl,rfl,fun _ _ => rfl⟩
theorem UI (a0 : List ZF) (r : List ZF) (h : M.Xv a0 = some r) : Fn Tryz.prog 114 [sL 2 Zv a0] (oL 2 Zv r) := by
 unfold M.Xv at h
 obtain ⟨hc,h1⟩ := Zz h
 obtain rfl := Option.some.inj h1
 refine ZeU Tryz.func114 rfl (by kernel_rfl) (Kc ?_)
 refine Za (rg0 [0] 0 ⟨8,[(0,sL 2 Zv a0)],[]⟩ ?_)
 refine Zb (Za (Za (rg0 [0,4] 0 ⟨8,[(0,sL 2 Zv a0),(4,.nilq a0.length)],[]⟩ ?_)))
 refine Zb (nq a0.length (fun hz => ?_) ?_)
 refine Za (rg0 [2] 0 ⟨8,[(2,.sl true 2 0 (fun _ => []))],[]⟩ ?_)
 refine Zb (Zg (Zh ?_))
 obtain rfl := List.eq_nil_of_length_eq_zero hz
 exact ⟨_,ZcL (wd := 2) (f := fun _ => []) 2 (by kernel_rfl) 2 (fun i => Zv (([] : List ZF).getD i default)),.inr rfl,2,0,_,rfl,rfl,rfl,fun _ _ => rfl⟩
 refine Zd (Zb (Za (rgc [2] 1 ⟨8,[(2,.asl 0 0 (0 + a0.length))],[.arr 2 (0 + a0.length) (app (fun i => List.take 2 (List.drop (i * 2) [])) 0 (fun i => Zv (a0.getD i default)))]⟩ [decide (0 = 0) || decide (0 < a0.length),decide ((0 + a0.length) * 40 ≤ 140737488355328)] hc ?_)))
 refine Zb (Zg ?_)
 exact ⟨⟨8,[(2,.asl 0 0 a0.length)],[aL 2 Zv a0]⟩,VB (.cons (Rd (Nat.zero_add _)) .nil) (.cons (.arr (Nat.zero_add _) (Uk Zv _ a0 _ (fun _ _ => rfl))) .nil),.inr rfl,2,0,_,rfl,rfl,rfl,fun _ _ => rfl⟩
theorem UL (a0 : List VC) (r : List VC) (h : M.Xw a0 = some r) : Fn Tryz.prog 115 [sL 5 Vk a0] (.pure (sL 5 Vk r)) := by
 unfold M.Xw at h
 obtain ⟨hc,h1⟩ := Zz h
 obtain rfl := Option.some.inj h1
 refine ZL Tryz.func115 rfl (by kernel_rfl) (Za (zg [0] 0 (Zb (Za (Za (zg [0,4] 0 (Zb (nq a0.length (fun hz => ?_) ?_))))))))
 exact Za (zg [2] 0 (Zb (Zg (Zh (er (.sl false 5 0 (fun _ => [])) (Gl hz))))))
 exact Zd (Zb (Za (zc [2] 1 hc (Zb (Zg (er (.sl false 5 (0 + a0.length) (fun i => (app (fun i => List.take 5 (List.drop (i * 5) [])) 0 (fun i => Vk (a0.getD i default))) (0 + i))) (Un (Nat.zero_add _) (fun i hi => by rw [Nat.zero_add]; exact Uk Vk _ a0 _ (fun _ _ => rfl) i hi))))))))
theorem Gf (a0 : List Xy) (r : List Xy) (h : M.XL a0 = some r) : Fn Tryz.prog 116 [sL 2 ZQ a0] (oL 2 ZQ r) := by
 unfold M.XL at h
 obtain ⟨hc,h1⟩ := Zz h
 obtain rfl := Option.some.inj h1
 refine ZeU Tryz.func116 rfl (by kernel_rfl) (Kc ?_)
 refine Za (rg0 [0] 0 ⟨8,[(0,sL 2 ZQ a0)],[]⟩ ?_)
 refine Zb (Za (Za (rg0 [0,4] 0 ⟨8,[(0,sL 2 ZQ a0),(4,.nilq a0.length)],[]⟩ ?_)))
 refine Zb (nq a0.length (fun hz => ?_) ?_)
 refine Za (rg0 [2] 0 ⟨8,[(2,.sl true 2 0 (fun _ => []))],[]⟩ ?_)
 refine Zb (Zg (Zh ?_))
 obtain rfl := List.eq_nil_of_length_eq_zero hz
 exact ⟨_,ZcL (wd := 2) (f := fun _ => []) 2 (by kernel_rfl) 2 (fun i => ZQ (([] : List Xy).getD i default)),.inr rfl,2,0,_,rfl,rfl,rfl,fun _ _ => rfl⟩
 refine Zd (Zb (Za (rgc [2] 1 ⟨8,[(2,.asl 0 0 (0 + a0.length))],[.arr 2 (0 + a0.length) (app (fun i => List.take 2 (List.drop (i * 2) [])) 0 (fun i => ZQ (a0.getD i default)))]⟩ [decide (0 = 0) || decide (0 < a0.length),decide ((0 + a0.length) * 40 ≤ 140737488355328)] hc ?_)))
 refine Zb (Zg ?_)
 exact ⟨⟨8,[(2,.asl 0 0 a0.length)],[aL 2 ZQ a0]⟩,VB (.cons (Rd (Nat.zero_add _)) .nil) (.cons (.arr (Nat.zero_add _) (Uk ZQ _ a0 _ (fun _ _ => rfl))) .nil),.inr rfl,2,0,_,rfl,rfl,rfl,fun _ _ => rfl⟩
theorem GS (a0 : List Ul) (r : List Ul) (h : M.XU a0 = some r) : Fn Tryz.prog 117 [sL 7 Up a0] (.pure (sL 7 Up r)) := by
 unfold M.XU at h
 obtain ⟨hc,h1⟩ := Zz h
 obtain rfl := Option.some.inj h1
 refine ZL Tryz.func117 rfl (by kernel_rfl) (Za (zg [0] 0 (Zb (Za (Za (zg [0,4] 0 (Zb (nq a0.length (fun hz => ?_) ?_))))))))
 exact Za (zg [2] 0 (Zb (Zg (Zh (er (.sl false 7 0 (fun _ => [])) (Gl hz))))))
 exact Zd (Zb (Za (zc [2] 1 hc (Zb (Zg (er (.sl false 7 (0 + a0.length) (fun i => (app (fun i => List.take 7 (List.drop (i * 7) [])) 0 (fun i => Up (a0.getD i default))) (0 + i))) (Un (Nat.zero_add _) (fun i hi => by rw [Nat.zero_add]; exact Uk Up _ a0 _ (fun _ _ => rfl) i hi))))))))
theorem KC (a0 : List V2) (r : List V2) (h : M.Yg a0 = some r) : Fn Tryz.prog 118 [sL 2 Yq a0] (oL 2 Yq r) := by
 unfold M.Yg at h
 obtain ⟨hc,h1⟩ := Zz h
 obtain rfl := Option.some.inj h1
 refine ZeU Tryz.func118 rfl (by kernel_rfl) (Kc ?_)
 refine Za (rg0 [0] 0 ⟨8,[(0,sL 2 Yq a0)],[]⟩ ?_)
 refine Zb (Za (Za (rg0 [0,4] 0 ⟨8,[(0,sL 2 Yq a0),(4,.nilq a0.length)],[]⟩ ?_)))
 refine Zb (nq a0.length (fun hz => ?_) ?_)
 refine Za (rg0 [2] 0 ⟨8,[(2,.sl true 2 0 (fun _ => []))],[]⟩ ?_)
 refine Zb (Zg (Zh ?_))
 obtain rfl := List.eq_nil_of_length_eq_zero hz
 exact ⟨_,ZcL (wd := 2) (f := fun _ => []) 2 (by kernel_rfl) 2 (fun i => Yq (([] : List V2).getD i default)),.inr rfl,2,0,_,rfl,rfl,rfl,fun _ _ => rfl⟩
 refine Zd (Zb (Za (rgc [2] 1 ⟨8,[(2,.asl 0 0 (0 + a0.length))],[.arr 2 (0 + a0.length) (app (fun i => List.take 2 (List.drop (i * 2) [])) 0 (fun i => Yq (a0.getD i default)))]⟩ [decide (0 = 0) || decide (0 < a0.length),decide ((0 + a0.length) * 40 ≤ 140737488355328)] hc ?_)))
 refine Zb (Zg ?_)
 exact ⟨⟨8,[(2,.asl 0 0 a0.length)],[aL 2 Yq a0]⟩,VB (.cons (Rd (Nat.zero_add _)) .nil) (.cons (.arr (Nat.zero_add _) (Uk Yq _ a0 _ (fun _ _ => rfl))) .nil),.inr rfl,2,0,_,rfl,rfl,rfl,fun _ _ => rfl⟩
theorem Kl (a0 : List Ku) (r : List Ku) (h : M.X8 a0 = some r) : Fn Tryz.prog 119 [sL 10 GO a0] (.pure (sL 10 GO r)) := by
 unfold M.X8 at h
 obtain ⟨hc,h1⟩ := Zz h
 obtain rfl := Option.some.inj h1
 refine ZL Tryz.func119 rfl (by kernel_rfl) (Za (zg [0] 0 (Zb (Za (Za (zg [0,4] 0 (Zb (nq a0.length (fun hz => ?_) ?_))))))))
 exact Za (zg [2] 0 (Zb (Zg (Zh (er (.sl false 10 0 (fun _ => [])) (Gl hz))))))
 exact Zd (Zb (Za (zc [2] 1 hc (Zb (Zg (er (.sl false 10 (0 + a0.length) (fun i => (app (fun i => List.take 10 (List.drop (i * 10) [])) 0 (fun i => GO (a0.getD i default))) (0 + i))) (Un (Nat.zero_add _) (fun i hi => by rw [Nat.zero_add]; exact Uk GO _ a0 _ (fun _ _ => rfl) i hi))))))))
theorem UA (a0 : List Y1) (r : List Y1) (h : M.Xp a0 = some r) : Fn Tryz.prog 120 [sL 9 Z8 a0] (.pure (sL 9 Z8 r)) := by
 unfold M.Xp at h
 obtain ⟨hc,h1⟩ := Zz h
 obtain rfl := Option.some.inj h1
 refine ZL Tryz.func120 rfl (by kernel_rfl) (Za (zg [0] 0 (Zb (Za (Za (zg [0,4] 0 (Zb (nq a0.length (fun hz => ?_) ?_))))))))
 exact Za (zg [2] 0 (Zb (Zg (Zh (er (.sl false 9 0 (fun _ => [])) (Gl hz))))))
 exact Zd (Zb (Za (zc [2] 1 hc (Zb (Zg (er (.sl false 9 (0 + a0.length) (fun i => (app (fun i => List.take 9 (List.drop (i * 9) [])) 0 (fun i => Z8 (a0.getD i default))) (0 + i))) (Un (Nat.zero_add _) (fun i hi => by rw [Nat.zero_add]; exact Uk Z8 _ a0 _ (fun _ _ => rfl) i hi))))))))
theorem UB (a0 : List Yk) (r : List Yk) (h : M.Xq a0 = some r) : Fn Tryz.prog 121 [sL 7 ZX a0] (.pure (sL 7 ZX r)) := by
 unfold M.Xq at h
 obtain ⟨hc,h1⟩ := Zz h
 obtain rfl := Option.some.inj h1
 refine ZL Tryz.func121 rfl (by kernel_rfl) (Za (zg [0] 0 (Zb (Za (Za (zg [0,4] 0 (Zb (nq a0.length (fun hz => ?_) ?_))))))))
 exact Za (zg [2] 0 (Zb (Zg (Zh (er (.sl false 7 0 (fun _ => [])) (Gl hz))))))
 exact Zd (Zb (Za (zc [2] 1 hc (Zb (Zg (er (.sl false 7 (0 + a0.length) (fun i => (app (fun i => List.take 7 (List.drop (i * 7) [])) 0 (fun i => ZX (a0.getD i default))) (0 + i))) (Un (Nat.zero_add _) (fun i hi => by rw [Nat.zero_add]; exact Uk ZX _ a0 _ (fun _ _ => rfl) i hi))))))))
theorem U4 (a0 : List We) (r : List We) (h : M.XB a0 = some r) : Fn Tryz.prog 122 [sL 3 Xl a0] (.pure (sL 3 Xl r)) := by
 unfold M.XB at h
 obtain ⟨hc,h1⟩ := Zz h
 obtain rfl := Option.some.inj h1
 refine ZL Tryz.func122 rfl (by kernel_rfl) (Za (zg [0] 0 (Zb (Za (Za (zg [0,4] 0 (Zb (nq a0.length (fun hz => ?_) ?_))))))))
 exact Za (zg [2] 0 (Zb (Zg (Zh (er (.sl false 3 0 (fun _ => [])) (Gl hz))))))
 exact Zd (Zb (Za (zc [2] 1 hc (Zb (Zg (er (.sl false 3 (0 + a0.length) (fun i => (app (fun i => List.take 3 (List.drop (i * 3) [])) 0 (fun i => Xl (a0.getD i default))) (0 + i))) (Un (Nat.zero_add _) (fun i hi => by rw [Nat.zero_add]; exact Uk Xl _ a0 _ (fun _ _ => rfl) i hi))))))))
theorem Vx (a0 : List Yi) (r : List Yi) (h : M.Xe a0 = some r) : Fn Tryz.prog 123 [sL 5 Zx a0] (.pure (sL 5 Zx r)) := by
 unfold M.Xe at h
 obtain ⟨hc,h1⟩ := Zz h
 obtain rfl := Option.some.inj h1
 refine ZL Tryz.func123 rfl (by kernel_rfl) (Za (zg [0] 0 (Zb (Za (Za (zg [0,4] 0 (Zb (nq a0.length (fun hz => ?_) ?_))))))))
 exact Za (zg [2] 0 (Zb (Zg (Zh (er (.sl false 5 0 (fun _ => [])) (Gl hz))))))
 exact Zd (Zb (Za (zc [2] 1 hc (Zb (Zg (er (.sl false 5 (0 + a0.length) (fun i => (app (fun i => List.take 5 (List.drop (i * 5) [])) 0 (fun i => Zx (a0.getD i default))) (0 + i))) (Un (Nat.zero_add _) (fun i hi => by rw [Nat.zero_add]; exact Uk Zx _ a0 _ (fun _ _ => rfl) i hi))))))))
theorem Gn (a0 : List VH) (r : List VH) (h : M.XM a0 = some r) : Fn Tryz.prog 124 [sL 4 Xu a0] (.pure (sL 4 Xu r)) := by
 unfold M.XM at h
 obtain ⟨hc,h1⟩ := Zz h
 obtain rfl := Option.some.inj h1
 refine ZL Tryz.func124 rfl (by kernel_rfl) (Za (zg [0] 0 (Zb (Za (Za (zg [0,4] 0 (Zb (nq a0.length (fun hz => ?_) ?_))))))))
 exact Za (zg [2] 0 (Zb (Zg (Zh (er (.sl false 4 0 (fun _ => [])) (Gl hz))))))
 exact Zd (Zb (Za (zc [2] 1 hc (Zb (Zg (er (.sl false 4 (0 + a0.length) (fun i => (app (fun i => List.take 4 (List.drop (i * 4) [])) 0 (fun i => Xu (a0.getD i default))) (0 + i))) (Un (Nat.zero_add _) (fun i hi => by rw [Nat.zero_add]; exact Uk Xu _ a0 _ (fun _ _ => rfl) i hi))))))))
theorem GU (a0 : List ZS) (r : List ZS) (h : M.XV a0 = some r) : Fn Tryz.prog 125 [sL 2 Xc a0] (.pure (sL 2 Xc r)) := by
 unfold M.XV at h
 obtain ⟨hc,h1⟩ := Zz h
 obtain rfl := Option.some.inj h1
 refine ZL Tryz.func125 rfl (by kernel_rfl) (Za (zg [0] 0 (Zb (Za (Za (zg [0,4] 0 (Zb (nq a0.length (fun hz => ?_) ?_))))))))
 exact Za (zg [2] 0 (Zb (Zg (Zh (er (.sl false 2 0 (fun _ => [])) (Gl hz))))))
 exact Zd (Zb (Za (zc [2] 1 hc (Zb (Zg (er (.sl false 2 (0 + a0.length) (fun i => (app (fun i => List.take 2 (List.drop (i * 2) [])) 0 (fun i => Xc (a0.getD i default))) (0 + i))) (Un (Nat.zero_add _) (fun i hi => by rw [Nat.zero_add]; exact Uk Xc _ a0 _ (fun _ _ => rfl) i hi))))))))
theorem U5 (a0 : List Wf) (r : List Wf) (h : M.XC a0 = some r) : Fn Tryz.prog 126 [sL 3 Xm a0] (.pure (sL 3 Xm r)) := by
 unfold M.XC at h
 obtain ⟨hc,h1⟩ := Zz h
 obtain rfl := Option.some.inj h1
 refine ZL Tryz.func126 rfl (by kernel_rfl) (Za (zg [0] 0 (Zb (Za (Za (zg [0,4] 0 (Zb (nq a0.length (fun hz => ?_) ?_))))))))
 exact Za (zg [2] 0 (Zb (Zg (Zh (er (.sl false 3 0 (fun _ => [])) (Gl hz))))))
 exact Zd (Zb (Za (zc [2] 1 hc (Zb (Zg (er (.sl false 3 (0 + a0.length) (fun i => (app (fun i => List.take 3 (List.drop (i * 3) [])) 0 (fun i => Xm (a0.getD i default))) (0 + i))) (Un (Nat.zero_add _) (fun i hi => by rw [Nat.zero_add]; exact Uk Xm _ a0 _ (fun _ _ => rfl) i hi))))))))
theorem U6 (a0 : List Wg) (r : List Wg) (h : M.XD a0 = some r) : Fn Tryz.prog 127 [sL 5 Xk a0] (.pure (sL 5 Xk r)) := by
 unfold M.XD at h
 obtain ⟨hc,h1⟩ := Zz h
 obtain rfl := Option.some.inj h1
 refine ZL Tryz.func127 rfl (by kernel_rfl) (Za (zg [0] 0 (Zb (Za (Za (zg [0,4] 0 (Zb (nq a0.length (fun hz => ?_) ?_))))))))
 exact Za (zg [2] 0 (Zb (Zg (Zh (er (.sl false 5 0 (fun _ => [])) (Gl hz))))))
 exact Zd (Zb (Za (zc [2] 1 hc (Zb (Zg (er (.sl false 5 (0 + a0.length) (fun i => (app (fun i => List.take 5 (List.drop (i * 5) [])) 0 (fun i => Xk (a0.getD i default))) (0 + i))) (Un (Nat.zero_add _) (fun i hi => by rw [Nat.zero_add]; exact Uk Xk _ a0 _ (fun _ _ => rfl) i hi))))))))
theorem ZdI (a0 : Zf) (r : Zf) (h : M.J0 a0 = some r) : Fn Tryz.prog 69 [.agg (Zu a0)] (.pure (.agg (Zu r))) := by
 let u1 : List (Nat × D) := [(1,.ref 0 0),(2,.ref 1 0)]
 unfold M.J0 at h
 refine ZL Tryz.func69 rfl (by kernel_rfl) (Za (zg [1,2] 2 (Zb (Za ?_))))
 obtain ⟨r1,q1,h2⟩ := bind_some h
 refine rg [oL 12 Zn r1] [1,2] 3 ⟨136,u1,[.box [.str a0.ZJ,.int .i64 a0.GA,.asl 2 0 r1.length,sL 2 Zv a0.Z1,sL 2 ZQ a0.ZR,sL 2 Yq a0.Xh,sL 9 Z8 a0.Xf,sL 7 ZX a0.Zr,.bool a0.X0.Va,.int .i64 a0.X0.Xd,sL 3 Xl a0.X0.ZE,sL 5 Zx a0.X0.Zs,.bool a0.Ya.Va,.int .i64 a0.Ya.Xd,.str a0.Ya.Vr,.str a0.Ya.YD,sL 5 Zx a0.Ya.Zs,.bool a0.ZW.Va,.int .i64 a0.ZW.XN,.int .i64 a0.ZW.XO,sL 4 Xu a0.ZW.Zk,sL 2 Xc a0.ZW.Zt,sL 3 Xm a0.ZW.Zq,sL 5 Xk a0.ZW.Zm,sL 5 Zx a0.ZW.Zs],.box [.str (⟨#[]⟩ : ByteArray),.int .i64 0,.sl true 12 0 (fun _ => []),.sl true 2 0 (fun _ => []),.sl true 2 0 (fun _ => []),.sl true 2 0 (fun _ => []),.sl true 9 0 (fun _ => []),.sl true 7 0 (fun _ => []),.bool false,.int .i64 0,.sl true 3 0 (fun _ => []),.sl true 5 0 (fun _ => []),.bool false,.int .i64 0,.str (⟨#[]⟩ : ByteArray),.str (⟨#[]⟩ : ByteArray),.sl true 5 0 (fun _ => []),.bool false,.int .i64 0,.int .i64 0,.sl true 4 0 (fun _ => []),.sl true 2 0 (fun _ => []),.sl true 3 0 (fun _ => []),.sl true 5 0 (fun _ => []),.sl true 5 0 (fun _ => [])],aL 12 Zn r1]⟩ [] [⟨true,113,[sL 12 Zn a0.Zc],oL 12 Zn r1⟩] ZA ⟨fun _ => U2 a0.Zc r1 q1,trivial⟩ (Zb (Za ?_))
 obtain ⟨r2,q3,h4⟩ := bind_some h2
 refine rg [oL 2 Zv r2] [1,2] 4 ⟨136,u1,[.box [.str a0.ZJ,.int .i64 a0.GA,.asl 2 0 r1.length,.asl 3 0 r2.length,sL 2 ZQ a0.ZR,sL 2 Yq a0.Xh,sL 9 Z8 a0.Xf,sL 7 ZX a0.Zr,.bool a0.X0.Va,.int .i64 a0.X0.Xd,sL 3 Xl a0.X0.ZE,sL 5 Zx a0.X0.Zs,.bool a0.Ya.Va,.int .i64 a0.Ya.Xd,.str a0.Ya.Vr,.str a0.Ya.YD,sL 5 Zx a0.Ya.Zs,.bool a0.ZW.Va,.int .i64 a0.ZW.XN,.int .i64 a0.ZW.XO,sL 4 Xu a0.ZW.Zk,sL 2 Xc a0.ZW.Zt,sL 3 Xm a0.ZW.Zq,sL 5 Xk a0.ZW.Zm,sL 5 Zx a0.ZW.Zs],.box [.str (⟨#[]⟩ : ByteArray),.int .i64 0,.sl true 12 0 (fun _ => []),.sl true 2 0 (fun _ => []),.sl true 2 0 (fun _ => []),.sl true 2 0 (fun _ => []),.sl true 9 0 (fun _ => []),.sl true 7 0 (fun _ => []),.bool false,.int .i64 0,.sl true 3 0 (fun _ => []),.sl true 5 0 (fun _ => []),.bool false,.int .i64 0,.str (⟨#[]⟩ : ByteArray),.str (⟨#[]⟩ : ByteArray),.sl true 5 0 (fun _ => []),.bool false,.int .i64 0,.int .i64 0,.sl true 4 0 (fun _ => []),.sl true 2 0 (fun _ => []),.sl true 3 0 (fun _ => []),.sl true 5 0 (fun _ => []),.sl true 5 0 (fun _ => [])],aL 12 Zn r1,aL 2 Zv r2]⟩ [] [⟨true,114,[sL 2 Zv a0.Z1],oL 2 Zv r2⟩] ZA ⟨fun _ => UI a0.Z1 r2 q3,trivial⟩ (Zb (Za (Za (zg [1,2,16,17] 4 (Zb (Zi ?_))))))
 obtain ⟨y6,q13,h14⟩ := bind_some h4
 refine zl (fun (p3 : (List ZF) × Int) => ⟨136,[(1,.ref 0 0),(2,.ref 1 0),(16,.int .i64 (r2.length : Int)),(17,.int .i64 p3.2)],[.box [.str a0.ZJ,.int .i64 a0.GA,.asl 2 0 r1.length,.asl 3 0 p3.1.length,sL 2 ZQ a0.ZR,sL 2 Yq a0.Xh,sL 9 Z8 a0.Xf,sL 7 ZX a0.Zr,.bool a0.X0.Va,.int .i64 a0.X0.Xd,sL 3 Xl a0.X0.ZE,sL 5 Zx a0.X0.Zs,.bool a0.Ya.Va,.int .i64 a0.Ya.Xd,.str a0.Ya.Vr,.str a0.Ya.YD,sL 5 Zx a0.Ya.Zs,.bool a0.ZW.Va,.int .i64 a0.ZW.XN,.int .i64 a0.ZW.XO,sL 4 Xu a0.ZW.Zk,sL 2 Xc a0.ZW.Zt,sL 3 Xm a0.ZW.Zq,sL 5 Xk a0.ZW.Zm,sL 5 Zx a0.ZW.Zs],.box [.str (⟨#[]⟩ : ByteArray),.int .i64 0,.sl true 12 0 (fun _ => []),.sl true 2 0 (fun _ => []),.sl true 2 0 (fun _ => []),.sl true 2 0 (fun _ => []),.sl true 9 0 (fun _ => []),.sl true 7 0 (fun _ => []),.bool false,.int .i64 0,.sl true 3 0 (fun _ => []),.sl true 5 0 (fun _ => []),.bool false,.int .i64 0,.str (⟨#[]⟩ : ByteArray),.str (⟨#[]⟩ : ByteArray),.sl true 5 0 (fun _ => []),.bool false,.int .i64 0,.int .i64 0,.sl true 4 0 (fun _ => []),.sl true 2 0 (fun _ => []),.sl true 3 0 (fun _ => []),.sl true 5 0 (fun _ => []),.sl true 5 0 (fun _ => [])],aL 12 Zn r1,aL 2 Zv p3.1]⟩) (fun z => OutE 0 (fun z => ⟨136,u1,[.box [.str a0.ZJ,.int .i64 a0.GA,.asl 2 0 r1.length,.asl 3 0 z.length,sL 2 ZQ a0.ZR,sL 2 Yq a0.Xh,sL 9 Z8 a0.Xf,sL 7 ZX a0.Zr,.bool a0.X0.Va,.int .i64 a0.X0.Xd,sL 3 Xl a0.X0.ZE,sL 5 Zx a0.X0.Zs,.bool a0.Ya.Va,.int .i64 a0.Ya.Xd,.str a0.Ya.Vr,.str a0.Ya.YD,sL 5 Zx a0.Ya.Zs,.bool a0.ZW.Va,.int .i64 a0.ZW.XN,.int .i64 a0.ZW.XO,sL 4 Xu a0.ZW.Zk,sL 2 Xc a0.ZW.Zt,sL 3 Xm a0.ZW.Zq,sL 5 Xk a0.ZW.Zm,sL 5 Zx a0.ZW.Zs],.box [.str (⟨#[]⟩ : ByteArray),.int .i64 0,.sl true 12 0 (fun _ => []),.sl true 2 0 (fun _ => []),.sl true 2 0 (fun _ => []),.sl true 2 0 (fun _ => []),.sl true 9 0 (fun _ => []),.sl true 7 0 (fun _ => []),.bool false,.int .i64 0,.sl true 3 0 (fun _ => []),.sl true 5 0 (fun _ => []),.bool false,.int .i64 0,.str (⟨#[]⟩ : ByteArray),.str (⟨#[]⟩ : ByteArray),.sl true 5 0 (fun _ => []),.bool false,.int .i64 0,.int .i64 0,.sl true 4 0 (fun _ => []),.sl true 2 0 (fun _ => []),.sl true 3 0 (fun _ => []),.sl true 5 0 (fun _ => []),.sl true 5 0 (fun _ => [])],aL 12 Zn r1,aL 2 Zv z]⟩) z) q13 ?_ ?_
 intro p3 y4 h5
 unfold M.QP at h5
 refine Za (zg [1,2,16,17,18] 4 (Zb (Za (cn h5 (fun _ h7 => ?_) (fun _ h8 => ?_)))))
 refine Zd (Zb (Za (Zi (Za (rg0 [1,2,3,16,17] 4 ⟨136,[(1,.ref 0 0),(2,.ref 1 0),(3,.int .i64 p3.2),(16,.int .i64 (r2.length : Int)),(17,.int .i64 p3.2)],[.box [.str a0.ZJ,.int .i64 a0.GA,.asl 2 0 r1.length,.asl 3 0 p3.1.length,sL 2 ZQ a0.ZR,sL 2 Yq a0.Xh,sL 9 Z8 a0.Xf,sL 7 ZX a0.Zr,.bool a0.X0.Va,.int .i64 a0.X0.Xd,sL 3 Xl a0.X0.ZE,sL 5 Zx a0.X0.Zs,.bool a0.Ya.Va,.int .i64 a0.Ya.Xd,.str a0.Ya.Vr,.str a0.Ya.YD,sL 5 Zx a0.Ya.Zs,.bool a0.ZW.Va,.int .i64 a0.ZW.XN,.int .i64 a0.ZW.XO,sL 4 Xu a0.ZW.Zk,sL 2 Xc a0.ZW.Zt,sL 3 Xm a0.ZW.Zq,sL 5 Xk a0.ZW.Zm,sL 5 Zx a0.ZW.Zs],.box [.str (⟨#[]⟩ : ByteArray),.int .i64 0,.sl true 12 0 (fun _ => []),.sl true 2 0 (fun _ => []),.sl true 2 0 (fun _ => []),.sl true 2 0 (fun _ => []),.sl true 9 0 (fun _ => []),.sl true 7 0 (fun _ => []),.bool false,.int .i64 0,.sl true 3 0 (fun _ => []),.sl true 5 0 (fun _ => []),.bool false,.int .i64 0,.str (⟨#[]⟩ : ByteArray),.str (⟨#[]⟩ : ByteArray),.sl true 5 0 (fun _ => []),.bool false,.int .i64 0,.int .i64 0,.sl true 4 0 (fun _ => []),.sl true 2 0 (fun _ => []),.sl true 3 0 (fun _ => []),.sl true 5 0 (fun _ => []),.sl true 5 0 (fun _ => [])],aL 12 Zn r1,aL 2 Zv p3.1]⟩ (Zb ?_))))))
 obtain ⟨r5,q9,h10⟩ := bind_some h7
 obtain ⟨c11,h12⟩ := Zz h10
 exact rgw [.pure (sL 5 Vk r5)] [1,2,16,17] 4 ⟨136,[(1,.ref 0 0),(2,.ref 1 0),(16,.int .i64 (r2.length : Int)),(17,.int .i64 p3.2)],[.box [.str a0.ZJ,.int .i64 a0.GA,.asl 2 0 r1.length,.asl 3 0 p3.1.length,sL 2 ZQ a0.ZR,sL 2 Yq a0.Xh,sL 9 Z8 a0.Xf,sL 7 ZX a0.Zr,.bool a0.X0.Va,.int .i64 a0.X0.Xd,sL 3 Xl a0.X0.ZE,sL 5 Zx a0.X0.Zs,.bool a0.Ya.Va,.int .i64 a0.Ya.Xd,.str a0.Ya.Vr,.str a0.Ya.YD,sL 5 Zx a0.Ya.Zs,.bool a0.ZW.Va,.int .i64 a0.ZW.XN,.int .i64 a0.ZW.XO,sL 4 Xu a0.ZW.Zk,sL 2 Xc a0.ZW.Zt,sL 3 Xm a0.ZW.Zq,sL 5 Xk a0.ZW.Zm,sL 5 Zx a0.ZW.Zs],.box [.str (⟨#[]⟩ : ByteArray),.int .i64 0,.sl true 12 0 (fun _ => []),.sl true 2 0 (fun _ => []),.sl true 2 0 (fun _ => []),.sl true 2 0 (fun _ => []),.sl true 9 0 (fun _ => []),.sl true 7 0 (fun _ => []),.bool false,.int .i64 0,.sl true 3 0 (fun _ => []),.sl true 5 0 (fun _ => []),.bool false,.int .i64 0,.str (⟨#[]⟩ : ByteArray),.str (⟨#[]⟩ : ByteArray),.sl true 5 0 (fun _ => []),.bool false,.int .i64 0,.int .i64 0,.sl true 4 0 (fun _ => []),.sl true 2 0 (fun _ => []),.sl true 3 0 (fun _ => []),.sl true 5 0 (fun _ => []),.sl true 5 0 (fun _ => [])],aL 12 Zn r1,.arr 2 p3.1.length (fun j => bif Nat.beq j (0 + p3.2.toNat) then splice (Zv (p3.1.getD (0 + p3.2.toNat) default)) [sL 5 Vk r5] 1 else Zv (p3.1.getD j default))]⟩ [decide (0 ≤ p3.2),decide (p3.2 < (p3.1.length : Int)),decide (0 ≤ p3.2),decide (p3.2 < (p3.1.length : Int))] [⟨true,115,[sL 5 Vk ((p3.1.getD (0 + p3.2.toNat) default).Z0)],.pure (sL 5 Vk r5)⟩] c11 ⟨fun _ => UL ((p3.1.getD (0 + p3.2.toNat) default).Z0) r5 q9,trivial⟩ (XK (XJ (s' := ⟨136,[(1,.ref 0 0),(2,.ref 1 0),(16,.int .i64 (r2.length : Int)),(17,.int .i64 p3.2)],[.box [.str a0.ZJ,.int .i64 a0.GA,.asl 2 0 r1.length,.asl 3 0 ((p3.1.set (0 + p3.2.toNat) (⟨(p3.1.getD (0 + p3.2.toNat) default).ZJ,r5⟩ : ZF)).length),sL 2 ZQ a0.ZR,sL 2 Yq a0.Xh,sL 9 Z8 a0.Xf,sL 7 ZX a0.Zr,.bool a0.X0.Va,.int .i64 a0.X0.Xd,sL 3 Xl a0.X0.ZE,sL 5 Zx a0.X0.Zs,.bool a0.Ya.Va,.int .i64 a0.Ya.Xd,.str a0.Ya.Vr,.str a0.Ya.YD,sL 5 Zx a0.Ya.Zs,.bool a0.ZW.Va,.int .i64 a0.ZW.XN,.int .i64 a0.ZW.XO,sL 4 Xu a0.ZW.Zk,sL 2 Xc a0.ZW.Zt,sL 3 Xm a0.ZW.Zq,sL 5 Xk a0.ZW.Zm,sL 5 Zx a0.ZW.Zs],.box [.str (⟨#[]⟩ : ByteArray),.int .i64 0,.sl true 12 0 (fun _ => []),.sl true 2 0 (fun _ => []),.sl true 2 0 (fun _ => []),.sl true 2 0 (fun _ => []),.sl true 9 0 (fun _ => []),.sl true 7 0 (fun _ => []),.bool false,.int .i64 0,.sl true 3 0 (fun _ => []),.sl true 5 0 (fun _ => []),.bool false,.int .i64 0,.str (⟨#[]⟩ : ByteArray),.str (⟨#[]⟩ : ByteArray),.sl true 5 0 (fun _ => []),.bool false,.int .i64 0,.int .i64 0,.sl true 4 0 (fun _ => []),.sl true 2 0 (fun _ => []),.sl true 3 0 (fun _ => []),.sl true 5 0 (fun _ => []),.sl true 5 0 (fun _ => [])],aL 12 Zn r1,aL 2 Zv (p3.1.set (0 + p3.2.toNat) (⟨(p3.1.getD (0 + p3.2.toNat) default).ZJ,r5⟩ : ZF))]⟩) (VB (.cons Sub.rfl (.cons Sub.rfl (.cons Sub.rfl (.cons Sub.rfl .nil)))) (.cons (.box (.cons CSub.rfl (.cons CSub.rfl (.cons CSub.rfl (.cons (Rq (by simp)) (.cons CSub.rfl (.cons CSub.rfl (.cons CSub.rfl (.cons CSub.rfl (.cons CSub.rfl (.cons CSub.rfl (.cons CSub.rfl (.cons CSub.rfl (.cons CSub.rfl (.cons CSub.rfl (.cons CSub.rfl (.cons CSub.rfl (.cons CSub.rfl (.cons CSub.rfl (.cons CSub.rfl (.cons CSub.rfl (.cons CSub.rfl (.cons CSub.rfl (.cons CSub.rfl (.cons CSub.rfl (.cons CSub.rfl .nil)))))))))))))))))))))))))) (.cons .rfl (.cons .rfl (.cons (.arr (by simp) (ZfX Zv p3.1 (0 + p3.2.toNat) (⟨(p3.1.getD (0 + p3.2.toNat) default).ZJ,r5⟩ : ZF) _ rfl)) .nil))))) (zg [1,2,16,17] 4 (rn h12))))
 exact ZH (Xn (re h8 ⟨rfl,kq⟩))
 intro e15 s16 o17
 refine zi o17 (Za (UQ (s' := ⟨136,u1,[.box [.str a0.ZJ,.int .i64 a0.GA,.sl false 12 r1.length (fun k => (fun i => Zn (r1.getD i default)) (0 + k)),.sl false 2 y6.length (fun k => (fun i => Zv (y6.getD i default)) (0 + k)),sL 2 ZQ a0.ZR,sL 2 Yq a0.Xh,sL 9 Z8 a0.Xf,sL 7 ZX a0.Zr,.bool a0.X0.Va,.int .i64 a0.X0.Xd,sL 3 Xl a0.X0.ZE,sL 5 Zx a0.X0.Zs,.bool a0.Ya.Va,.int .i64 a0.Ya.Xd,.str a0.Ya.Vr,.str a0.Ya.YD,sL 5 Zx a0.Ya.Zs,.bool a0.ZW.Va,.int .i64 a0.ZW.XN,.int .i64 a0.ZW.XO,sL 4 Xu a0.ZW.Zk,sL 2 Xc a0.ZW.Zt,sL 3 Xm a0.ZW.Zq,sL 5 Xk a0.ZW.Zm,sL 5 Zx a0.ZW.Zs],.box [.str (⟨#[]⟩ : ByteArray),.int .i64 0,.sl true 12 0 (fun _ => []),.sl true 2 0 (fun _ => []),.sl true 2 0 (fun _ => []),.sl true 2 0 (fun _ => []),.sl true 9 0 (fun _ => []),.sl true 7 0 (fun _ => []),.bool false,.int .i64 0,.sl true 3 0 (fun _ => []),.sl true 5 0 (fun _ => []),.bool false,.int .i64 0,.str (⟨#[]⟩ : ByteArray),.str (⟨#[]⟩ : ByteArray),.sl true 5 0 (fun _ => []),.bool false,.int .i64 0,.int .i64 0,.sl true 4 0 (fun _ => []),.sl true 2 0 (fun _ => []),.sl true 3 0 (fun _ => []),.sl true 5 0 (fun _ => []),.sl true 5 0 (fun _ => [])],aL 12 Zn ([] : List ZB),aL 2 Zv ([] : List ZF)]⟩) (Le.trans ((Le.trans (ZbV (s := ⟨136,u1,[.box [.str a0.ZJ,.int .i64 a0.GA,.asl 2 0 r1.length,.asl 3 0 y6.length,sL 2 ZQ a0.ZR,sL 2 Yq a0.Xh,sL 9 Z8 a0.Xf,sL 7 ZX a0.Zr,.bool a0.X0.Va,.int .i64 a0.X0.Xd,sL 3 Xl a0.X0.ZE,sL 5 Zx a0.X0.Zs,.bool a0.Ya.Va,.int .i64 a0.Ya.Xd,.str a0.Ya.Vr,.str a0.Ya.YD,sL 5 Zx a0.Ya.Zs,.bool a0.ZW.Va,.int .i64 a0.ZW.XN,.int .i64 a0.ZW.XO,sL 4 Xu a0.ZW.Zk,sL 2 Xc a0.ZW.Zt,sL 3 Xm a0.ZW.Zq,sL 5 Xk a0.ZW.Zm,sL 5 Zx a0.ZW.Zs],.box [.str (⟨#[]⟩ : ByteArray),.int .i64 0,.sl true 12 0 (fun _ => []),.sl true 2 0 (fun _ => []),.sl true 2 0 (fun _ => []),.sl true 2 0 (fun _ => []),.sl true 9 0 (fun _ => []),.sl true 7 0 (fun _ => []),.bool false,.int .i64 0,.sl true 3 0 (fun _ => []),.sl true 5 0 (fun _ => []),.bool false,.int .i64 0,.str (⟨#[]⟩ : ByteArray),.str (⟨#[]⟩ : ByteArray),.sl true 5 0 (fun _ => []),.bool false,.int .i64 0,.int .i64 0,.sl true 4 0 (fun _ => []),.sl true 2 0 (fun _ => []),.sl true 3 0 (fun _ => []),.sl true 5 0 (fun _ => []),.sl true 5 0 (fun _ => [])],aL 12 Zn r1,aL 2 Zv y6]⟩) (s' := ⟨136,u1,[.box [.str a0.ZJ,.int .i64 a0.GA,.sl false 12 r1.length (fun k => (fun i => Zn (r1.getD i default)) (0 + k)),.asl 3 0 y6.length,sL 2 ZQ a0.ZR,sL 2 Yq a0.Xh,sL 9 Z8 a0.Xf,sL 7 ZX a0.Zr,.bool a0.X0.Va,.int .i64 a0.X0.Xd,sL 3 Xl a0.X0.ZE,sL 5 Zx a0.X0.Zs,.bool a0.Ya.Va,.int .i64 a0.Ya.Xd,.str a0.Ya.Vr,.str a0.Ya.YD,sL 5 Zx a0.Ya.Zs,.bool a0.ZW.Va,.int .i64 a0.ZW.XN,.int .i64 a0.ZW.XO,sL 4 Xu a0.ZW.Zk,sL 2 Xc a0.ZW.Zt,sL 3 Xm a0.ZW.Zq,sL 5 Xk a0.ZW.Zm,sL 5 Zx a0.ZW.Zs],.box [.str (⟨#[]⟩ : ByteArray),.int .i64 0,.sl true 12 0 (fun _ => []),.sl true 2 0 (fun _ => []),.sl true 2 0 (fun _ => []),.sl true 2 0 (fun _ => []),.sl true 9 0 (fun _ => []),.sl true 7 0 (fun _ => []),.bool false,.int .i64 0,.sl true 3 0 (fun _ => []),.sl true 5 0 (fun _ => []),.bool false,.int .i64 0,.str (⟨#[]⟩ : ByteArray),.str (⟨#[]⟩ : ByteArray),.sl true 5 0 (fun _ => []),.bool false,.int .i64 0,.int .i64 0,.sl true 4 0 (fun _ => []),.sl true 2 0 (fun _ => []),.sl true 3 0 (fun _ => []),.sl true 5 0 (fun _ => []),.sl true 5 0 (fun _ => [])],aL 12 Zn ([] : List ZB),aL 2 Zv y6]⟩) 2 12 r1.length (fun i => Zn (r1.getD i default)) (fun i => Zn (([] : List ZB).getD i default)) (by kernel_rfl) (by kernel_rfl) (by kernel_rfl)) (ZbV (s := ⟨136,u1,[.box [.str a0.ZJ,.int .i64 a0.GA,.sl false 12 r1.length (fun k => (fun i => Zn (r1.getD i default)) (0 + k)),.asl 3 0 y6.length,sL 2 ZQ a0.ZR,sL 2 Yq a0.Xh,sL 9 Z8 a0.Xf,sL 7 ZX a0.Zr,.bool a0.X0.Va,.int .i64 a0.X0.Xd,sL 3 Xl a0.X0.ZE,sL 5 Zx a0.X0.Zs,.bool a0.Ya.Va,.int .i64 a0.Ya.Xd,.str a0.Ya.Vr,.str a0.Ya.YD,sL 5 Zx a0.Ya.Zs,.bool a0.ZW.Va,.int .i64 a0.ZW.XN,.int .i64 a0.ZW.XO,sL 4 Xu a0.ZW.Zk,sL 2 Xc a0.ZW.Zt,sL 3 Xm a0.ZW.Zq,sL 5 Xk a0.ZW.Zm,sL 5 Zx a0.ZW.Zs],.box [.str (⟨#[]⟩ : ByteArray),.int .i64 0,.sl true 12 0 (fun _ => []),.sl true 2 0 (fun _ => []),.sl true 2 0 (fun _ => []),.sl true 2 0 (fun _ => []),.sl true 9 0 (fun _ => []),.sl true 7 0 (fun _ => []),.bool false,.int .i64 0,.sl true 3 0 (fun _ => []),.sl true 5 0 (fun _ => []),.bool false,.int .i64 0,.str (⟨#[]⟩ : ByteArray),.str (⟨#[]⟩ : ByteArray),.sl true 5 0 (fun _ => []),.bool false,.int .i64 0,.int .i64 0,.sl true 4 0 (fun _ => []),.sl true 2 0 (fun _ => []),.sl true 3 0 (fun _ => []),.sl true 5 0 (fun _ => []),.sl true 5 0 (fun _ => [])],aL 12 Zn ([] : List ZB),aL 2 Zv y6]⟩) (s' := ⟨136,u1,[.box [.str a0.ZJ,.int .i64 a0.GA,.sl false 12 r1.length (fun k => (fun i => Zn (r1.getD i default)) (0 + k)),.sl false 2 y6.length (fun k => (fun i => Zv (y6.getD i default)) (0 + k)),sL 2 ZQ a0.ZR,sL 2 Yq a0.Xh,sL 9 Z8 a0.Xf,sL 7 ZX a0.Zr,.bool a0.X0.Va,.int .i64 a0.X0.Xd,sL 3 Xl a0.X0.ZE,sL 5 Zx a0.X0.Zs,.bool a0.Ya.Va,.int .i64 a0.Ya.Xd,.str a0.Ya.Vr,.str a0.Ya.YD,sL 5 Zx a0.Ya.Zs,.bool a0.ZW.Va,.int .i64 a0.ZW.XN,.int .i64 a0.ZW.XO,sL 4 Xu a0.ZW.Zk,sL 2 Xc a0.ZW.Zt,sL 3 Xm a0.ZW.Zq,sL 5 Xk a0.ZW.Zm,sL 5 Zx a0.ZW.Zs],.box [.str (⟨#[]⟩ : ByteArray),.int .i64 0,.sl true 12 0 (fun _ => []),.sl true 2 0 (fun _ => []),.sl true 2 0 (fun _ => []),.sl true 2 0 (fun _ => []),.sl true 9 0 (fun _ => []),.sl true 7 0 (fun _ => []),.bool false,.int .i64 0,.sl true 3 0 (fun _ => []),.sl true 5 0 (fun _ => []),.bool false,.int .i64 0,.str (⟨#[]⟩ : ByteArray),.str (⟨#[]⟩ : ByteArray),.sl true 5 0 (fun _ => []),.bool false,.int .i64 0,.int .i64 0,.sl true 4 0 (fun _ => []),.sl true 2 0 (fun _ => []),.sl true 3 0 (fun _ => []),.sl true 5 0 (fun _ => []),.sl true 5 0 (fun _ => [])],aL 12 Zn ([] : List ZB),aL 2 Zv ([] : List ZF)]⟩) 3 2 y6.length (fun i => Zv (y6.getD i default)) (fun i => Zv (([] : List ZF).getD i default)) (by kernel_rfl) (by kernel_rfl) (by kernel_rfl)))) (kp [1,2])) ?_))
 obtain ⟨r7,q19,h20⟩ := bind_some h14
 refine rg [oL 2 ZQ r7] [1,2] 5 ⟨136,u1,[.box [.str a0.ZJ,.int .i64 a0.GA,.sl false 12 r1.length (fun k => (fun i => Zn (r1.getD i default)) (0 + k)),.sl false 2 y6.length (fun k => (fun i => Zv (y6.getD i default)) (0 + k)),.asl 4 0 r7.length,sL 2 Yq a0.Xh,sL 9 Z8 a0.Xf,sL 7 ZX a0.Zr,.bool a0.X0.Va,.int .i64 a0.X0.Xd,sL 3 Xl a0.X0.ZE,sL 5 Zx a0.X0.Zs,.bool a0.Ya.Va,.int .i64 a0.Ya.Xd,.str a0.Ya.Vr,.str a0.Ya.YD,sL 5 Zx a0.Ya.Zs,.bool a0.ZW.Va,.int .i64 a0.ZW.XN,.int .i64 a0.ZW.XO,sL 4 Xu a0.ZW.Zk,sL 2 Xc a0.ZW.Zt,sL 3 Xm a0.ZW.Zq,sL 5 Xk a0.ZW.Zm,sL 5 Zx a0.ZW.Zs],.box [.str (⟨#[]⟩ : ByteArray),.int .i64 0,.sl true 12 0 (fun _ => []),.sl true 2 0 (fun _ => []),.sl true 2 0 (fun _ => []),.sl true 2 0 (fun _ => []),.sl true 9 0 (fun _ => []),.sl true 7 0 (fun _ => []),.bool false,.int .i64 0,.sl true 3 0 (fun _ => []),.sl true 5 0 (fun _ => []),.bool false,.int .i64 0,.str (⟨#[]⟩ : ByteArray),.str (⟨#[]⟩ : ByteArray),.sl true 5 0 (fun _ => []),.bool false,.int .i64 0,.int .i64 0,.sl true 4 0 (fun _ => []),.sl true 2 0 (fun _ => []),.sl true 3 0 (fun _ => []),.sl true 5 0 (fun _ => []),.sl true 5 0 (fun _ => [])],aL 12 Zn ([] : List ZB),aL 2 Zv ([] : List ZF),aL 2 ZQ r7]⟩ [] [⟨true,116,[sL 2 ZQ a0.ZR],oL 2 ZQ r7⟩] ZA ⟨fun _ => Gf a0.ZR r7 q19,trivial⟩ (XJ (s' := ⟨136,u1,[.box [.str a0.ZJ,.int .i64 a0.GA,sL 12 Zn r1,sL 2 Zv y6,.asl 4 0 r7.length,sL 2 Yq a0.Xh,sL 9 Z8 a0.Xf,sL 7 ZX a0.Zr,.bool a0.X0.Va,.int .i64 a0.X0.Xd,sL 3 Xl a0.X0.ZE,sL 5 Zx a0.X0.Zs,.bool a0.Ya.Va,.int .i64 a0.Ya.Xd,.str a0.Ya.Vr,.str a0.Ya.YD,sL 5 Zx a0.Ya.Zs,.bool a0.ZW.Va,.int .i64 a0.ZW.XN,.int .i64 a0.ZW.XO,sL 4 Xu a0.ZW.Zk,sL 2 Xc a0.ZW.Zt,sL 3 Xm a0.ZW.Zq,sL 5 Xk a0.ZW.Zm,sL 5 Zx a0.ZW.Zs],.box [.str (⟨#[]⟩ : ByteArray),.int .i64 0,.sl true 12 0 (fun _ => []),.sl true 2 0 (fun _ => []),.sl true 2 0 (fun _ => []),.sl true 2 0 (fun _ => []),.sl true 9 0 (fun _ => []),.sl true 7 0 (fun _ => []),.bool false,.int .i64 0,.sl true 3 0 (fun _ => []),.sl true 5 0 (fun _ => []),.bool false,.int .i64 0,.str (⟨#[]⟩ : ByteArray),.str (⟨#[]⟩ : ByteArray),.sl true 5 0 (fun _ => []),.bool false,.int .i64 0,.int .i64 0,.sl true 4 0 (fun _ => []),.sl true 2 0 (fun _ => []),.sl true 3 0 (fun _ => []),.sl true 5 0 (fun _ => []),.sl true 5 0 (fun _ => [])],aL 12 Zn ([] : List ZB),aL 2 Zv ([] : List ZF),aL 2 ZQ r7]⟩) (VB (.cons Sub.rfl (.cons Sub.rfl .nil)) (.cons (.box (.cons CSub.rfl (.cons CSub.rfl (.cons (KP rfl (RZ (f := fun i => Zn (r1.getD i default)) (fun _ _ => rfl))) (.cons (KP rfl (RZ (f := fun i => Zv (y6.getD i default)) (fun _ _ => rfl))) (.cons CSub.rfl (.cons CSub.rfl (.cons CSub.rfl (.cons CSub.rfl (.cons CSub.rfl (.cons CSub.rfl (.cons CSub.rfl (.cons CSub.rfl (.cons CSub.rfl (.cons CSub.rfl (.cons CSub.rfl (.cons CSub.rfl (.cons CSub.rfl (.cons CSub.rfl (.cons CSub.rfl (.cons CSub.rfl (.cons CSub.rfl (.cons CSub.rfl (.cons CSub.rfl (.cons CSub.rfl (.cons CSub.rfl .nil)))))))))))))))))))))))))) (.cons .rfl (.cons .rfl (.cons .rfl (.cons .rfl .nil)))))) (Za (Za (zg [1,2,39,40] 5 (Zb (Zi ?_))))))
 obtain ⟨y11,q29,h30⟩ := bind_some h20
 refine zl (fun (p8 : (List Xy) × Int) => ⟨136,[(1,.ref 0 0),(2,.ref 1 0),(39,.int .i64 (r7.length : Int)),(40,.int .i64 p8.2)],[.box [.str a0.ZJ,.int .i64 a0.GA,sL 12 Zn r1,sL 2 Zv y6,.asl 4 0 p8.1.length,sL 2 Yq a0.Xh,sL 9 Z8 a0.Xf,sL 7 ZX a0.Zr,.bool a0.X0.Va,.int .i64 a0.X0.Xd,sL 3 Xl a0.X0.ZE,sL 5 Zx a0.X0.Zs,.bool a0.Ya.Va,.int .i64 a0.Ya.Xd,.str a0.Ya.Vr,.str a0.Ya.YD,sL 5 Zx a0.Ya.Zs,.bool a0.ZW.Va,.int .i64 a0.ZW.XN,.int .i64 a0.ZW.XO,sL 4 Xu a0.ZW.Zk,sL 2 Xc a0.ZW.Zt,sL 3 Xm a0.ZW.Zq,sL 5 Xk a0.ZW.Zm,sL 5 Zx a0.ZW.Zs],.box [.str (⟨#[]⟩ : ByteArray),.int .i64 0,.sl true 12 0 (fun _ => []),.sl true 2 0 (fun _ => []),.sl true 2 0 (fun _ => []),.sl true 2 0 (fun _ => []),.sl true 9 0 (fun _ => []),.sl true 7 0 (fun _ => []),.bool false,.int .i64 0,.sl true 3 0 (fun _ => []),.sl true 5 0 (fun _ => []),.bool false,.int .i64 0,.str (⟨#[]⟩ : ByteArray),.str (⟨#[]⟩ : ByteArray),.sl true 5 0 (fun _ => []),.bool false,.int .i64 0,.int .i64 0,.sl true 4 0 (fun _ => []),.sl true 2 0 (fun _ => []),.sl true 3 0 (fun _ => []),.sl true 5 0 (fun _ => []),.sl true 5 0 (fun _ => [])],aL 12 Zn ([] : List ZB),aL 2 Zv ([] : List ZF),aL 2 ZQ p8.1]⟩) (fun z => OutE 2 (fun z => ⟨136,u1,[.box [.str a0.ZJ,.int .i64 a0.GA,sL 12 Zn r1,sL 2 Zv y6,.asl 4 0 z.length,sL 2 Yq a0.Xh,sL 9 Z8 a0.Xf,sL 7 ZX a0.Zr,.bool a0.X0.Va,.int .i64 a0.X0.Xd,sL 3 Xl a0.X0.ZE,sL 5 Zx a0.X0.Zs,.bool a0.Ya.Va,.int .i64 a0.Ya.Xd,.str a0.Ya.Vr,.str a0.Ya.YD,sL 5 Zx a0.Ya.Zs,.bool a0.ZW.Va,.int .i64 a0.ZW.XN,.int .i64 a0.ZW.XO,sL 4 Xu a0.ZW.Zk,sL 2 Xc a0.ZW.Zt,sL 3 Xm a0.ZW.Zq,sL 5 Xk a0.ZW.Zm,sL 5 Zx a0.ZW.Zs],.box [.str (⟨#[]⟩ : ByteArray),.int .i64 0,.sl true 12 0 (fun _ => []),.sl true 2 0 (fun _ => []),.sl true 2 0 (fun _ => []),.sl true 2 0 (fun _ => []),.sl true 9 0 (fun _ => []),.sl true 7 0 (fun _ => []),.bool false,.int .i64 0,.sl true 3 0 (fun _ => []),.sl true 5 0 (fun _ => []),.bool false,.int .i64 0,.str (⟨#[]⟩ : ByteArray),.str (⟨#[]⟩ : ByteArray),.sl true 5 0 (fun _ => []),.bool false,.int .i64 0,.int .i64 0,.sl true 4 0 (fun _ => []),.sl true 2 0 (fun _ => []),.sl true 3 0 (fun _ => []),.sl true 5 0 (fun _ => []),.sl true 5 0 (fun _ => [])],aL 12 Zn ([] : List ZB),aL 2 Zv ([] : List ZF),aL 2 ZQ z]⟩) z) q29 ?_ ?_
 intro p8 y9 h21
 unfold M.QQ at h21
 refine Za (zg [1,2,39,40,41] 5 (Zb (Za (cn h21 (fun _ h23 => ?_) (fun _ h24 => ?_)))))
 refine Zd (Zb (Za (Zi (Za (rg0 [1,2,4,39,40] 5 ⟨136,[(1,.ref 0 0),(2,.ref 1 0),(4,.int .i64 p8.2),(39,.int .i64 (r7.length : Int)),(40,.int .i64 p8.2)],[.box [.str a0.ZJ,.int .i64 a0.GA,sL 12 Zn r1,sL 2 Zv y6,.asl 4 0 p8.1.length,sL 2 Yq a0.Xh,sL 9 Z8 a0.Xf,sL 7 ZX a0.Zr,.bool a0.X0.Va,.int .i64 a0.X0.Xd,sL 3 Xl a0.X0.ZE,sL 5 Zx a0.X0.Zs,.bool a0.Ya.Va,.int .i64 a0.Ya.Xd,.str a0.Ya.Vr,.str a0.Ya.YD,sL 5 Zx a0.Ya.Zs,.bool a0.ZW.Va,.int .i64 a0.ZW.XN,.int .i64 a0.ZW.XO,sL 4 Xu a0.ZW.Zk,sL 2 Xc a0.ZW.Zt,sL 3 Xm a0.ZW.Zq,sL 5 Xk a0.ZW.Zm,sL 5 Zx a0.ZW.Zs],.box [.str (⟨#[]⟩ : ByteArray),.int .i64 0,.sl true 12 0 (fun _ => []),.sl true 2 0 (fun _ => []),.sl true 2 0 (fun _ => []),.sl true 2 0 (fun _ => []),.sl true 9 0 (fun _ => []),.sl true 7 0 (fun _ => []),.bool false,.int .i64 0,.sl true 3 0 (fun _ => []),.sl true 5 0 (fun _ => []),.bool false,.int .i64 0,.str (⟨#[]⟩ : ByteArray),.str (⟨#[]⟩ : ByteArray),.sl true 5 0 (fun _ => []),.bool false,.int .i64 0,.int .i64 0,.sl true 4 0 (fun _ => []),.sl true 2 0 (fun _ => []),.sl true 3 0 (fun _ => []),.sl true 5 0 (fun _ => []),.sl true 5 0 (fun _ => [])],aL 12 Zn ([] : List ZB),aL 2 Zv ([] : List ZF),aL 2 ZQ p8.1]⟩ (Zb ?_))))))
 obtain ⟨r10,q25,h26⟩ := bind_some h23
 obtain ⟨c27,h28⟩ := Zz h26
 exact rgw [.pure (sL 7 Up r10)] [1,2,39,40] 5 ⟨136,[(1,.ref 0 0),(2,.ref 1 0),(39,.int .i64 (r7.length : Int)),(40,.int .i64 p8.2)],[.box [.str a0.ZJ,.int .i64 a0.GA,sL 12 Zn r1,sL 2 Zv y6,.asl 4 0 p8.1.length,sL 2 Yq a0.Xh,sL 9 Z8 a0.Xf,sL 7 ZX a0.Zr,.bool a0.X0.Va,.int .i64 a0.X0.Xd,sL 3 Xl a0.X0.ZE,sL 5 Zx a0.X0.Zs,.bool a0.Ya.Va,.int .i64 a0.Ya.Xd,.str a0.Ya.Vr,.str a0.Ya.YD,sL 5 Zx a0.Ya.Zs,.bool a0.ZW.Va,.int .i64 a0.ZW.XN,.int .i64 a0.ZW.XO,sL 4 Xu a0.ZW.Zk,sL 2 Xc a0.ZW.Zt,sL 3 Xm a0.ZW.Zq,sL 5 Xk a0.ZW.Zm,sL 5 Zx a0.ZW.Zs],.box [.str (⟨#[]⟩ : ByteArray),.int .i64 0,.sl true 12 0 (fun _ => []),.sl true 2 0 (fun _ => []),.sl true 2 0 (fun _ => []),.sl true 2 0 (fun _ => []),.sl true 9 0 (fun _ => []),.sl true 7 0 (fun _ => []),.bool false,.int .i64 0,.sl true 3 0 (fun _ => []),.sl true 5 0 (fun _ => []),.bool false,.int .i64 0,.str (⟨#[]⟩ : ByteArray),.str (⟨#[]⟩ : ByteArray),.sl true 5 0 (fun _ => []),.bool false,.int .i64 0,.int .i64 0,.sl true 4 0 (fun _ => []),.sl true 2 0 (fun _ => []),.sl true 3 0 (fun _ => []),.sl true 5 0 (fun _ => []),.sl true 5 0 (fun _ => [])],aL 12 Zn ([] : List ZB),aL 2 Zv ([] : List ZF),.arr 2 p8.1.length (fun j => bif Nat.beq j (0 + p8.2.toNat) then splice (ZQ (p8.1.getD (0 + p8.2.toNat) default)) [sL 7 Up r10] 1 else ZQ (p8.1.getD j default))]⟩ [decide (0 ≤ p8.2),decide (p8.2 < (p8.1.length : Int)),decide (0 ≤ p8.2),decide (p8.2 < (p8.1.length : Int))] [⟨true,117,[sL 7 Up ((p8.1.getD (0 + p8.2.toNat) default).Z4)],.pure (sL 7 Up r10)⟩] c27 ⟨fun _ => GS ((p8.1.getD (0 + p8.2.toNat) default).Z4) r10 q25,trivial⟩ (XK (XJ (s' := ⟨136,[(1,.ref 0 0),(2,.ref 1 0),(39,.int .i64 (r7.length : Int)),(40,.int .i64 p8.2)],[.box [.str a0.ZJ,.int .i64 a0.GA,sL 12 Zn r1,sL 2 Zv y6,.asl 4 0 ((p8.1.set (0 + p8.2.toNat) (⟨(p8.1.getD (0 + p8.2.toNat) default).ZJ,r10⟩ : Xy)).length),sL 2 Yq a0.Xh,sL 9 Z8 a0.Xf,sL 7 ZX a0.Zr,.bool a0.X0.Va,.int .i64 a0.X0.Xd,sL 3 Xl a0.X0.ZE,sL 5 Zx a0.X0.Zs,.bool a0.Ya.Va,.int .i64 a0.Ya.Xd,.str a0.Ya.Vr,.str a0.Ya.YD,sL 5 Zx a0.Ya.Zs,.bool a0.ZW.Va,.int .i64 a0.ZW.XN,.int .i64 a0.ZW.XO,sL 4 Xu a0.ZW.Zk,sL 2 Xc a0.ZW.Zt,sL 3 Xm a0.ZW.Zq,sL 5 Xk a0.ZW.Zm,sL 5 Zx a0.ZW.Zs],.box [.str (⟨#[]⟩ : ByteArray),.int .i64 0,.sl true 12 0 (fun _ => []),.sl true 2 0 (fun _ => []),.sl true 2 0 (fun _ => []),.sl true 2 0 (fun _ => []),.sl true 9 0 (fun _ => []),.sl true 7 0 (fun _ => []),.bool false,.int .i64 0,.sl true 3 0 (fun _ => []),.sl true 5 0 (fun _ => []),.bool false,.int .i64 0,.str (⟨#[]⟩ : ByteArray),.str (⟨#[]⟩ : ByteArray),.sl true 5 0 (fun _ => []),.bool false,.int .i64 0,.int .i64 0,.sl true 4 0 (fun _ => []),.sl true 2 0 (fun _ => []),.sl true 3 0 (fun _ => []),.sl true 5 0 (fun _ => []),.sl true 5 0 (fun _ => [])],aL 12 Zn ([] : List ZB),aL 2 Zv ([] : List ZF),aL 2 ZQ (p8.1.set (0 + p8.2.toNat) (⟨(p8.1.getD (0 + p8.2.toNat) default).ZJ,r10⟩ : Xy))]⟩) (VB (.cons Sub.rfl (.cons Sub.rfl (.cons Sub.rfl (.cons Sub.rfl .nil)))) (.cons (.box (.cons CSub.rfl (.cons CSub.rfl (.cons CSub.rfl (.cons CSub.rfl (.cons (Rq (by simp)) (.cons CSub.rfl (.cons CSub.rfl (.cons CSub.rfl (.cons CSub.rfl (.cons CSub.rfl (.cons CSub.rfl (.cons CSub.rfl (.cons CSub.rfl (.cons CSub.rfl (.cons CSub.rfl (.cons CSub.rfl (.cons CSub.rfl (.cons CSub.rfl (.cons CSub.rfl (.cons CSub.rfl (.cons CSub.rfl (.cons CSub.rfl (.cons CSub.rfl (.cons CSub.rfl (.cons CSub.rfl .nil)))))))))))))))))))))))))) (.cons .rfl (.cons .rfl (.cons .rfl (.cons (.arr (by simp) (ZfX ZQ p8.1 (0 + p8.2.toNat) (⟨(p8.1.getD (0 + p8.2.toNat) default).ZJ,r10⟩ : Xy) _ rfl)) .nil)))))) (zg [1,2,39,40] 5 (rn h28))))
 exact ZH (Xn (re h24 ⟨rfl,kq⟩))
 intro e31 s32 o33
 refine zi o33 (Za (UQ (s' := ⟨136,u1,[.box [.str a0.ZJ,.int .i64 a0.GA,sL 12 Zn r1,sL 2 Zv y6,.sl false 2 y11.length (fun k => (fun i => ZQ (y11.getD i default)) (0 + k)),sL 2 Yq a0.Xh,sL 9 Z8 a0.Xf,sL 7 ZX a0.Zr,.bool a0.X0.Va,.int .i64 a0.X0.Xd,sL 3 Xl a0.X0.ZE,sL 5 Zx a0.X0.Zs,.bool a0.Ya.Va,.int .i64 a0.Ya.Xd,.str a0.Ya.Vr,.str a0.Ya.YD,sL 5 Zx a0.Ya.Zs,.bool a0.ZW.Va,.int .i64 a0.ZW.XN,.int .i64 a0.ZW.XO,sL 4 Xu a0.ZW.Zk,sL 2 Xc a0.ZW.Zt,sL 3 Xm a0.ZW.Zq,sL 5 Xk a0.ZW.Zm,sL 5 Zx a0.ZW.Zs],.box [.str (⟨#[]⟩ : ByteArray),.int .i64 0,.sl true 12 0 (fun _ => []),.sl true 2 0 (fun _ => []),.sl true 2 0 (fun _ => []),.sl true 2 0 (fun _ => []),.sl true 9 0 (fun _ => []),.sl true 7 0 (fun _ => []),.bool false,.int .i64 0,.sl true 3 0 (fun _ => []),.sl true 5 0 (fun _ => []),.bool false,.int .i64 0,.str (⟨#[]⟩ : ByteArray),.str (⟨#[]⟩ : ByteArray),.sl true 5 0 (fun _ => []),.bool false,.int .i64 0,.int .i64 0,.sl true 4 0 (fun _ => []),.sl true 2 0 (fun _ => []),.sl true 3 0 (fun _ => []),.sl true 5 0 (fun _ => []),.sl true 5 0 (fun _ => [])],aL 12 Zn ([] : List ZB),aL 2 Zv ([] : List ZF),aL 2 ZQ ([] : List Xy)]⟩) (Le.trans ((ZbV (s := ⟨136,u1,[.box [.str a0.ZJ,.int .i64 a0.GA,sL 12 Zn r1,sL 2 Zv y6,.asl 4 0 y11.length,sL 2 Yq a0.Xh,sL 9 Z8 a0.Xf,sL 7 ZX a0.Zr,.bool a0.X0.Va,.int .i64 a0.X0.Xd,sL 3 Xl a0.X0.ZE,sL 5 Zx a0.X0.Zs,.bool a0.Ya.Va,.int .i64 a0.Ya.Xd,.str a0.Ya.Vr,.str a0.Ya.YD,sL 5 Zx a0.Ya.Zs,.bool a0.ZW.Va,.int .i64 a0.ZW.XN,.int .i64 a0.ZW.XO,sL 4 Xu a0.ZW.Zk,sL 2 Xc a0.ZW.Zt,sL 3 Xm a0.ZW.Zq,sL 5 Xk a0.ZW.Zm,sL 5 Zx a0.ZW.Zs],.box [.str (⟨#[]⟩ : ByteArray),.int .i64 0,.sl true 12 0 (fun _ => []),.sl true 2 0 (fun _ => []),.sl true 2 0 (fun _ => []),.sl true 2 0 (fun _ => []),.sl true 9 0 (fun _ => []),.sl true 7 0 (fun _ => []),.bool false,.int .i64 0,.sl true 3 0 (fun _ => []),.sl true 5 0 (fun _ => []),.bool false,.int .i64 0,.str (⟨#[]⟩ : ByteArray),.str (⟨#[]⟩ : ByteArray),.sl true 5 0 (fun _ => []),.bool false,.int .i64 0,.int .i64 0,.sl true 4 0 (fun _ => []),.sl true 2 0 (fun _ => []),.sl true 3 0 (fun _ => []),.sl true 5 0 (fun _ => []),.sl true 5 0 (fun _ => [])],aL 12 Zn ([] : List ZB),aL 2 Zv ([] : List ZF),aL 2 ZQ y11]⟩) (s' := ⟨136,u1,[.box [.str a0.ZJ,.int .i64 a0.GA,sL 12 Zn r1,sL 2 Zv y6,.sl false 2 y11.length (fun k => (fun i => ZQ (y11.getD i default)) (0 + k)),sL 2 Yq a0.Xh,sL 9 Z8 a0.Xf,sL 7 ZX a0.Zr,.bool a0.X0.Va,.int .i64 a0.X0.Xd,sL 3 Xl a0.X0.ZE,sL 5 Zx a0.X0.Zs,.bool a0.Ya.Va,.int .i64 a0.Ya.Xd,.str a0.Ya.Vr,.str a0.Ya.YD,sL 5 Zx a0.Ya.Zs,.bool a0.ZW.Va,.int .i64 a0.ZW.XN,.int .i64 a0.ZW.XO,sL 4 Xu a0.ZW.Zk,sL 2 Xc a0.ZW.Zt,sL 3 Xm a0.ZW.Zq,sL 5 Xk a0.ZW.Zm,sL 5 Zx a0.ZW.Zs],.box [.str (⟨#[]⟩ : ByteArray),.int .i64 0,.sl true 12 0 (fun _ => []),.sl true 2 0 (fun _ => []),.sl true 2 0 (fun _ => []),.sl true 2 0 (fun _ => []),.sl true 9 0 (fun _ => []),.sl true 7 0 (fun _ => []),.bool false,.int .i64 0,.sl true 3 0 (fun _ => []),.sl true 5 0 (fun _ => []),.bool false,.int .i64 0,.str (⟨#[]⟩ : ByteArray),.str (⟨#[]⟩ : ByteArray),.sl true 5 0 (fun _ => []),.bool false,.int .i64 0,.int .i64 0,.sl true 4 0 (fun _ => []),.sl true 2 0 (fun _ => []),.sl true 3 0 (fun _ => []),.sl true 5 0 (fun _ => []),.sl true 5 0 (fun _ => [])],aL 12 Zn ([] : List ZB),aL 2 Zv ([] : List ZF),aL 2 ZQ ([] : List Xy)]⟩) 4 2 y11.length (fun i => ZQ (y11.getD i default)) (fun i => ZQ (([] : List Xy).getD i default)) (by kernel_rfl) (by kernel_rfl) (by kernel_rfl))) (kp [1,2])) ?_))
 obtain ⟨r12,q35,h36⟩ := bind_some h30
 refine rg [oL 2 Yq r12] [1,2] 6 ⟨136,u1,[.box [.str a0.ZJ,.int .i64 a0.GA,sL 12 Zn r1,sL 2 Zv y6,.sl false 2 y11.length (fun k => (fun i => ZQ (y11.getD i default)) (0 + k)),.asl 5 0 r12.length,sL 9 Z8 a0.Xf,sL 7 ZX a0.Zr,.bool a0.X0.Va,.int .i64 a0.X0.Xd,sL 3 Xl a0.X0.ZE,sL 5 Zx a0.X0.Zs,.bool a0.Ya.Va,.int .i64 a0.Ya.Xd,.str a0.Ya.Vr,.str a0.Ya.YD,sL 5 Zx a0.Ya.Zs,.bool a0.ZW.Va,.int .i64 a0.ZW.XN,.int .i64 a0.ZW.XO,sL 4 Xu a0.ZW.Zk,sL 2 Xc a0.ZW.Zt,sL 3 Xm a0.ZW.Zq,sL 5 Xk a0.ZW.Zm,sL 5 Zx a0.ZW.Zs],.box [.str (⟨#[]⟩ : ByteArray),.int .i64 0,.sl true 12 0 (fun _ => []),.sl true 2 0 (fun _ => []),.sl true 2 0 (fun _ => []),.sl true 2 0 (fun _ => []),.sl true 9 0 (fun _ => []),.sl true 7 0 (fun _ => []),.bool false,.int .i64 0,.sl true 3 0 (fun _ => []),.sl true 5 0 (fun _ => []),.bool false,.int .i64 0,.str (⟨#[]⟩ : ByteArray),.str (⟨#[]⟩ : ByteArray),.sl true 5 0 (fun _ => []),.bool false,.int .i64 0,.int .i64 0,.sl true 4 0 (fun _ => []),.sl true 2 0 (fun _ => []),.sl true 3 0 (fun _ => []),.sl true 5 0 (fun _ => []),.sl true 5 0 (fun _ => [])],aL 12 Zn ([] : List ZB),aL 2 Zv ([] : List ZF),aL 2 ZQ ([] : List Xy),aL 2 Yq r12]⟩ [] [⟨true,118,[sL 2 Yq a0.Xh],oL 2 Yq r12⟩] ZA ⟨fun _ => KC a0.Xh r12 q35,trivial⟩ (XJ (s' := ⟨136,u1,[.box [.str a0.ZJ,.int .i64 a0.GA,sL 12 Zn r1,sL 2 Zv y6,sL 2 ZQ y11,.asl 5 0 r12.length,sL 9 Z8 a0.Xf,sL 7 ZX a0.Zr,.bool a0.X0.Va,.int .i64 a0.X0.Xd,sL 3 Xl a0.X0.ZE,sL 5 Zx a0.X0.Zs,.bool a0.Ya.Va,.int .i64 a0.Ya.Xd,.str a0.Ya.Vr,.str a0.Ya.YD,sL 5 Zx a0.Ya.Zs,.bool a0.ZW.Va,.int .i64 a0.ZW.XN,.int .i64 a0.ZW.XO,sL 4 Xu a0.ZW.Zk,sL 2 Xc a0.ZW.Zt,sL 3 Xm a0.ZW.Zq,sL 5 Xk a0.ZW.Zm,sL 5 Zx a0.ZW.Zs],.box [.str (⟨#[]⟩ : ByteArray),.int .i64 0,.sl true 12 0 (fun _ => []),.sl true 2 0 (fun _ => []),.sl true 2 0 (fun _ => []),.sl true 2 0 (fun _ => []),.sl true 9 0 (fun _ => []),.sl true 7 0 (fun _ => []),.bool false,.int .i64 0,.sl true 3 0 (fun _ => []),.sl true 5 0 (fun _ => []),.bool false,.int .i64 0,.str (⟨#[]⟩ : ByteArray),.str (⟨#[]⟩ : ByteArray),.sl true 5 0 (fun _ => []),.bool false,.int .i64 0,.int .i64 0,.sl true 4 0 (fun _ => []),.sl true 2 0 (fun _ => []),.sl true 3 0 (fun _ => []),.sl true 5 0 (fun _ => []),.sl true 5 0 (fun _ => [])],aL 12 Zn ([] : List ZB),aL 2 Zv ([] : List ZF),aL 2 ZQ ([] : List Xy),aL 2 Yq r12]⟩) (VB (.cons Sub.rfl (.cons Sub.rfl .nil)) (.cons (.box (.cons CSub.rfl (.cons CSub.rfl (.cons CSub.rfl (.cons CSub.rfl (.cons (KP rfl (RZ (f := fun i => ZQ (y11.getD i default)) (fun _ _ => rfl))) (.cons CSub.rfl (.cons CSub.rfl (.cons CSub.rfl (.cons CSub.rfl (.cons CSub.rfl (.cons CSub.rfl (.cons CSub.rfl (.cons CSub.rfl (.cons CSub.rfl (.cons CSub.rfl (.cons CSub.rfl (.cons CSub.rfl (.cons CSub.rfl (.cons CSub.rfl (.cons CSub.rfl (.cons CSub.rfl (.cons CSub.rfl (.cons CSub.rfl (.cons CSub.rfl (.cons CSub.rfl .nil)))))))))))))))))))))))))) (.cons .rfl (.cons .rfl (.cons .rfl (.cons .rfl (.cons .rfl .nil))))))) (Za (Za (zg [1,2,62,63] 6 (Zb (Zi ?_))))))
 obtain ⟨y16,q45,h46⟩ := bind_some h36
 refine zl (fun (p13 : (List V2) × Int) => ⟨136,[(1,.ref 0 0),(2,.ref 1 0),(62,.int .i64 (r12.length : Int)),(63,.int .i64 p13.2)],[.box [.str a0.ZJ,.int .i64 a0.GA,sL 12 Zn r1,sL 2 Zv y6,sL 2 ZQ y11,.asl 5 0 p13.1.length,sL 9 Z8 a0.Xf,sL 7 ZX a0.Zr,.bool a0.X0.Va,.int .i64 a0.X0.Xd,sL 3 Xl a0.X0.ZE,sL 5 Zx a0.X0.Zs,.bool a0.Ya.Va,.int .i64 a0.Ya.Xd,.str a0.Ya.Vr,.str a0.Ya.YD,sL 5 Zx a0.Ya.Zs,.bool a0.ZW.Va,.int .i64 a0.ZW.XN,.int .i64 a0.ZW.XO,sL 4 Xu a0.ZW.Zk,sL 2 Xc a0.ZW.Zt,sL 3 Xm a0.ZW.Zq,sL 5 Xk a0.ZW.Zm,sL 5 Zx a0.ZW.Zs],.box [.str (⟨#[]⟩ : ByteArray),.int .i64 0,.sl true 12 0 (fun _ => []),.sl true 2 0 (fun _ => []),.sl true 2 0 (fun _ => []),.sl true 2 0 (fun _ => []),.sl true 9 0 (fun _ => []),.sl true 7 0 (fun _ => []),.bool false,.int .i64 0,.sl true 3 0 (fun _ => []),.sl true 5 0 (fun _ => []),.bool false,.int .i64 0,.str (⟨#[]⟩ : ByteArray),.str (⟨#[]⟩ : ByteArray),.sl true 5 0 (fun _ => []),.bool false,.int .i64 0,.int .i64 0,.sl true 4 0 (fun _ => []),.sl true 2 0 (fun _ => []),.sl true 3 0 (fun _ => []),.sl true 5 0 (fun _ => []),.sl true 5 0 (fun _ => [])],aL 12 Zn ([] : List ZB),aL 2 Zv ([] : List ZF),aL 2 ZQ ([] : List Xy),aL 2 Yq p13.1]⟩) (fun z => OutE 4 (fun z => ⟨136,u1,[.box [.str a0.ZJ,.int .i64 a0.GA,sL 12 Zn r1,sL 2 Zv y6,sL 2 ZQ y11,.asl 5 0 z.length,sL 9 Z8 a0.Xf,sL 7 ZX a0.Zr,.bool a0.X0.Va,.int .i64 a0.X0.Xd,sL 3 Xl a0.X0.ZE,sL 5 Zx a0.X0.Zs,.bool a0.Ya.Va,.int .i64 a0.Ya.Xd,.str a0.Ya.Vr,.str a0.Ya.YD,sL 5 Zx a0.Ya.Zs,.bool a0.ZW.Va,.int .i64 a0.ZW.XN,.int .i64 a0.ZW.XO,sL 4 Xu a0.ZW.Zk,sL 2 Xc a0.ZW.Zt,sL 3 Xm a0.ZW.Zq,sL 5 Xk a0.ZW.Zm,sL 5 Zx a0.ZW.Zs],.box [.str (⟨#[]⟩ : ByteArray),.int .i64 0,.sl true 12 0 (fun _ => []),.sl true 2 0 (fun _ => []),.sl true 2 0 (fun _ => []),.sl true 2 0 (fun _ => []),.sl true 9 0 (fun _ => []),.sl true 7 0 (fun _ => []),.bool false,.int .i64 0,.sl true 3 0 (fun _ => []),.sl true 5 0 (fun _ => []),.bool false,.int .i64 0,.str (⟨#[]⟩ : ByteArray),.str (⟨#[]⟩ : ByteArray),.sl true 5 0 (fun _ => []),.bool false,.int .i64 0,.int .i64 0,.sl true 4 0 (fun _ => []),.sl true 2 0 (fun _ => []),.sl true 3 0 (fun _ => []),.sl true 5 0 (fun _ => []),.sl true 5 0 (fun _ => [])],aL 12 Zn ([] : List ZB),aL 2 Zv ([] : List ZF),aL 2 ZQ ([] : List Xy),aL 2 Yq z]⟩) z) q45 ?_ ?_
 intro p13 y14 h37
 unfold M.QR at h37
 refine Za (zg [1,2,62,63,64] 6 (Zb (Za (cn h37 (fun _ h39 => ?_) (fun _ h40 => ?_)))))
 refine Zd (Zb (Za (Zi (Za (rg0 [1,2,5,62,63] 6 ⟨136,[(1,.ref 0 0),(2,.ref 1 0),(5,.int .i64 p13.2),(62,.int .i64 (r12.length : Int)),(63,.int .i64 p13.2)],[.box [.str a0.ZJ,.int .i64 a0.GA,sL 12 Zn r1,sL 2 Zv y6,sL 2 ZQ y11,.asl 5 0 p13.1.length,sL 9 Z8 a0.Xf,sL 7 ZX a0.Zr,.bool a0.X0.Va,.int .i64 a0.X0.Xd,sL 3 Xl a0.X0.ZE,sL 5 Zx a0.X0.Zs,.bool a0.Ya.Va,.int .i64 a0.Ya.Xd,.str a0.Ya.Vr,.str a0.Ya.YD,sL 5 Zx a0.Ya.Zs,.bool a0.ZW.Va,.int .i64 a0.ZW.XN,.int .i64 a0.ZW.XO,sL 4 Xu a0.ZW.Zk,sL 2 Xc a0.ZW.Zt,sL 3 Xm a0.ZW.Zq,sL 5 Xk a0.ZW.Zm,sL 5 Zx a0.ZW.Zs],.box [.str (⟨#[]⟩ : ByteArray),.int .i64 0,.sl true 12 0 (fun _ => []),.sl true 2 0 (fun _ => []),.sl true 2 0 (fun _ => []),.sl true 2 0 (fun _ => []),.sl true 9 0 (fun _ => []),.sl true 7 0 (fun _ => []),.bool false,.int .i64 0,.sl true 3 0 (fun _ => []),.sl true 5 0 (fun _ => []),.bool false,.int .i64 0,.str (⟨#[]⟩ : ByteArray),.str (⟨#[]⟩ : ByteArray),.sl true 5 0 (fun _ => []),.bool false,.int .i64 0,.int .i64 0,.sl true 4 0 (fun _ => []),.sl true 2 0 (fun _ => []),.sl true 3 0 (fun _ => []),.sl true 5 0 (fun _ => []),.sl true 5 0 (fun _ => [])],aL 12 Zn ([] : List ZB),aL 2 Zv ([] : List ZF),aL 2 ZQ ([] : List Xy),aL 2 Yq p13.1]⟩ (Zb ?_))))))
 obtain ⟨r15,q41,h42⟩ := bind_some h39
 obtain ⟨c43,h44⟩ := Zz h42
 exact rgw [.pure (sL 10 GO r15)] [1,2,62,63] 6 ⟨136,[(1,.ref 0 0),(2,.ref 1 0),(62,.int .i64 (r12.length : Int)),(63,.int .i64 p13.2)],[.box [.str a0.ZJ,.int .i64 a0.GA,sL 12 Zn r1,sL 2 Zv y6,sL 2 ZQ y11,.asl 5 0 p13.1.length,sL 9 Z8 a0.Xf,sL 7 ZX a0.Zr,.bool a0.X0.Va,.int .i64 a0.X0.Xd,sL 3 Xl a0.X0.ZE,sL 5 Zx a0.X0.Zs,.bool a0.Ya.Va,.int .i64 a0.Ya.Xd,.str a0.Ya.Vr,.str a0.Ya.YD,sL 5 Zx a0.Ya.Zs,.bool a0.ZW.Va,.int .i64 a0.ZW.XN,.int .i64 a0.ZW.XO,sL 4 Xu a0.ZW.Zk,sL 2 Xc a0.ZW.Zt,sL 3 Xm a0.ZW.Zq,sL 5 Xk a0.ZW.Zm,sL 5 Zx a0.ZW.Zs],.box [.str (⟨#[]⟩ : ByteArray),.int .i64 0,.sl true 12 0 (fun _ => []),.sl true 2 0 (fun _ => []),.sl true 2 0 (fun _ => []),.sl true 2 0 (fun _ => []),.sl true 9 0 (fun _ => []),.sl true 7 0 (fun _ => []),.bool false,.int .i64 0,.sl true 3 0 (fun _ => []),.sl true 5 0 (fun _ => []),.bool false,.int .i64 0,.str (⟨#[]⟩ : ByteArray),.str (⟨#[]⟩ : ByteArray),.sl true 5 0 (fun _ => []),.bool false,.int .i64 0,.int .i64 0,.sl true 4 0 (fun _ => []),.sl true 2 0 (fun _ => []),.sl true 3 0 (fun _ => []),.sl true 5 0 (fun _ => []),.sl true 5 0 (fun _ => [])],aL 12 Zn ([] : List ZB),aL 2 Zv ([] : List ZF),aL 2 ZQ ([] : List Xy),.arr 2 p13.1.length (fun j => bif Nat.beq j (0 + p13.2.toNat) then splice (Yq (p13.1.getD (0 + p13.2.toNat) default)) [sL 10 GO r15] 1 else Yq (p13.1.getD j default))]⟩ [decide (0 ≤ p13.2),decide (p13.2 < (p13.1.length : Int)),decide (0 ≤ p13.2),decide (p13.2 < (p13.1.length : Int))] [⟨true,119,[sL 10 GO ((p13.1.getD (0 + p13.2.toNat) default).Z0)],.pure (sL 10 GO r15)⟩] c43 ⟨fun _ => Kl ((p13.1.getD (0 + p13.2.toNat) default).Z0) r15 q41,trivial⟩ (XK (XJ (s' := ⟨136,[(1,.ref 0 0),(2,.ref 1 0),(62,.int .i64 (r12.length : Int)),(63,.int .i64 p13.2)],[.box [.str a0.ZJ,.int .i64 a0.GA,sL 12 Zn r1,sL 2 Zv y6,sL 2 ZQ y11,.asl 5 0 ((p13.1.set (0 + p13.2.toNat) (⟨(p13.1.getD (0 + p13.2.toNat) default).ZJ,r15⟩ : V2)).length),sL 9 Z8 a0.Xf,sL 7 ZX a0.Zr,.bool a0.X0.Va,.int .i64 a0.X0.Xd,sL 3 Xl a0.X0.ZE,sL 5 Zx a0.X0.Zs,.bool a0.Ya.Va,.int .i64 a0.Ya.Xd,.str a0.Ya.Vr,.str a0.Ya.YD,sL 5 Zx a0.Ya.Zs,.bool a0.ZW.Va,.int .i64 a0.ZW.XN,.int .i64 a0.ZW.XO,sL 4 Xu a0.ZW.Zk,sL 2 Xc a0.ZW.Zt,sL 3 Xm a0.ZW.Zq,sL 5 Xk a0.ZW.Zm,sL 5 Zx a0.ZW.Zs],.box [.str (⟨#[]⟩ : ByteArray),.int .i64 0,.sl true 12 0 (fun _ => []),.sl true 2 0 (fun _ => []),.sl true 2 0 (fun _ => []),.sl true 2 0 (fun _ => []),.sl true 9 0 (fun _ => []),.sl true 7 0 (fun _ => []),.bool false,.int .i64 0,.sl true 3 0 (fun _ => []),.sl true 5 0 (fun _ => []),.bool false,.int .i64 0,.str (⟨#[]⟩ : ByteArray),.str (⟨#[]⟩ : ByteArray),.sl true 5 0 (fun _ => []),.bool false,.int .i64 0,.int .i64 0,.sl true 4 0 (fun _ => []),.sl true 2 0 (fun _ => []),.sl true 3 0 (fun _ => []),.sl true 5 0 (fun _ => []),.sl true 5 0 (fun _ => [])],aL 12 Zn ([] : List ZB),aL 2 Zv ([] : List ZF),aL 2 ZQ ([] : List Xy),aL 2 Yq (p13.1.set (0 + p13.2.toNat) (⟨(p13.1.getD (0 + p13.2.toNat) default).ZJ,r15⟩ : V2))]⟩) (VB (.cons Sub.rfl (.cons Sub.rfl (.cons Sub.rfl (.cons Sub.rfl .nil)))) (.cons (.box (.cons CSub.rfl (.cons CSub.rfl (.cons CSub.rfl (.cons CSub.rfl (.cons CSub.rfl (.cons (Rq (by simp)) (.cons CSub.rfl (.cons CSub.rfl (.cons CSub.rfl (.cons CSub.rfl (.cons CSub.rfl (.cons CSub.rfl (.cons CSub.rfl (.cons CSub.rfl (.cons CSub.rfl (.cons CSub.rfl (.cons CSub.rfl (.cons CSub.rfl (.cons CSub.rfl (.cons CSub.rfl (.cons CSub.rfl (.cons CSub.rfl (.cons CSub.rfl (.cons CSub.rfl (.cons CSub.rfl .nil)))))))))))))))))))))))))) (.cons .rfl (.cons .rfl (.cons .rfl (.cons .rfl (.cons (.arr (by simp) (ZfX Yq p13.1 (0 + p13.2.toNat) (⟨(p13.1.getD (0 + p13.2.toNat) default).ZJ,r15⟩ : V2) _ rfl)) .nil))))))) (zg [1,2,62,63] 6 (rn h44))))
 exact ZH (Xn (re h40 ⟨rfl,kq⟩))
 intro e47 s48 o49
 refine zi o49 (Za (UQ (s' := ⟨136,u1,[.box [.str a0.ZJ,.int .i64 a0.GA,sL 12 Zn r1,sL 2 Zv y6,sL 2 ZQ y11,.sl false 2 y16.length (fun k => (fun i => Yq (y16.getD i default)) (0 + k)),sL 9 Z8 a0.Xf,sL 7 ZX a0.Zr,.bool a0.X0.Va,.int .i64 a0.X0.Xd,sL 3 Xl a0.X0.ZE,sL 5 Zx a0.X0.Zs,.bool a0.Ya.Va,.int .i64 a0.Ya.Xd,.str a0.Ya.Vr,.str a0.Ya.YD,sL 5 Zx a0.Ya.Zs,.bool a0.ZW.Va,.int .i64 a0.ZW.XN,.int .i64 a0.ZW.XO,sL 4 Xu a0.ZW.Zk,sL 2 Xc a0.ZW.Zt,sL 3 Xm a0.ZW.Zq,sL 5 Xk a0.ZW.Zm,sL 5 Zx a0.ZW.Zs],.box [.str (⟨#[]⟩ : ByteArray),.int .i64 0,.sl true 12 0 (fun _ => []),.sl true 2 0 (fun _ => []),.sl true 2 0 (fun _ => []),.sl true 2 0 (fun _ => []),.sl true 9 0 (fun _ => []),.sl true 7 0 (fun _ => []),.bool false,.int .i64 0,.sl true 3 0 (fun _ => []),.sl true 5 0 (fun _ => []),.bool false,.int .i64 0,.str (⟨#[]⟩ : ByteArray),.str (⟨#[]⟩ : ByteArray),.sl true 5 0 (fun _ => []),.bool false,.int .i64 0,.int .i64 0,.sl true 4 0 (fun _ => []),.sl true 2 0 (fun _ => []),.sl true 3 0 (fun _ => []),.sl true 5 0 (fun _ => []),.sl true 5 0 (fun _ => [])],aL 12 Zn ([] : List ZB),aL 2 Zv ([] : List ZF),aL 2 ZQ ([] : List Xy),aL 2 Yq ([] : List V2)]⟩) (Le.trans ((ZbV (s := ⟨136,u1,[.box [.str a0.ZJ,.int .i64 a0.GA,sL 12 Zn r1,sL 2 Zv y6,sL 2 ZQ y11,.asl 5 0 y16.length,sL 9 Z8 a0.Xf,sL 7 ZX a0.Zr,.bool a0.X0.Va,.int .i64 a0.X0.Xd,sL 3 Xl a0.X0.ZE,sL 5 Zx a0.X0.Zs,.bool a0.Ya.Va,.int .i64 a0.Ya.Xd,.str a0.Ya.Vr,.str a0.Ya.YD,sL 5 Zx a0.Ya.Zs,.bool a0.ZW.Va,.int .i64 a0.ZW.XN,.int .i64 a0.ZW.XO,sL 4 Xu a0.ZW.Zk,sL 2 Xc a0.ZW.Zt,sL 3 Xm a0.ZW.Zq,sL 5 Xk a0.ZW.Zm,sL 5 Zx a0.ZW.Zs],.box [.str (⟨#[]⟩ : ByteArray),.int .i64 0,.sl true 12 0 (fun _ => []),.sl true 2 0 (fun _ => []),.sl true 2 0 (fun _ => []),.sl true 2 0 (fun _ => []),.sl true 9 0 (fun _ => []),.sl true 7 0 (fun _ => []),.bool false,.int .i64 0,.sl true 3 0 (fun _ => []),.sl true 5 0 (fun _ => []),.bool false,.int .i64 0,.str (⟨#[]⟩ : ByteArray),.str (⟨#[]⟩ : ByteArray),.sl true 5 0 (fun _ => []),.bool false,.int .i64 0,.int .i64 0,.sl true 4 0 (fun _ => []),.sl true 2 0 (fun _ => []),.sl true 3 0 (fun _ => []),.sl true 5 0 (fun _ => []),.sl true 5 0 (fun _ => [])],aL 12 Zn ([] : List ZB),aL 2 Zv ([] : List ZF),aL 2 ZQ ([] : List Xy),aL 2 Yq y16]⟩) (s' := ⟨136,u1,[.box [.str a0.ZJ,.int .i64 a0.GA,sL 12 Zn r1,sL 2 Zv y6,sL 2 ZQ y11,.sl false 2 y16.length (fun k => (fun i => Yq (y16.getD i default)) (0 + k)),sL 9 Z8 a0.Xf,sL 7 ZX a0.Zr,.bool a0.X0.Va,.int .i64 a0.X0.Xd,sL 3 Xl a0.X0.ZE,sL 5 Zx a0.X0.Zs,.bool a0.Ya.Va,.int .i64 a0.Ya.Xd,.str a0.Ya.Vr,.str a0.Ya.YD,sL 5 Zx a0.Ya.Zs,.bool a0.ZW.Va,.int .i64 a0.ZW.XN,.int .i64 a0.ZW.XO,sL 4 Xu a0.ZW.Zk,sL 2 Xc a0.ZW.Zt,sL 3 Xm a0.ZW.Zq,sL 5 Xk a0.ZW.Zm,sL 5 Zx a0.ZW.Zs],.box [.str (⟨#[]⟩ : ByteArray),.int .i64 0,.sl true 12 0 (fun _ => []),.sl true 2 0 (fun _ => []),.sl true 2 0 (fun _ => []),.sl true 2 0 (fun _ => []),.sl true 9 0 (fun _ => []),.sl true 7 0 (fun _ => []),.bool false,.int .i64 0,.sl true 3 0 (fun _ => []),.sl true 5 0 (fun _ => []),.bool false,.int .i64 0,.str (⟨#[]⟩ : ByteArray),.str (⟨#[]⟩ : ByteArray),.sl true 5 0 (fun _ => []),.bool false,.int .i64 0,.int .i64 0,.sl true 4 0 (fun _ => []),.sl true 2 0 (fun _ => []),.sl true 3 0 (fun _ => []),.sl true 5 0 (fun _ => []),.sl true 5 0 (fun _ => [])],aL 12 Zn ([] : List ZB),aL 2 Zv ([] : List ZF),aL 2 ZQ ([] : List Xy),aL 2 Yq ([] : List V2)]⟩) 5 2 y16.length (fun i => Yq (y16.getD i default)) (fun i => Yq (([] : List V2).getD i default)) (by kernel_rfl) (by kernel_rfl) (by kernel_rfl))) (kp [1,2])) ?_))
 obtain ⟨r17,q51,h52⟩ := bind_some h46
 refine rg [.pure (sL 9 Z8 r17)] [1,2] 2 ⟨136,u1,[.box [.str a0.ZJ,.int .i64 a0.GA,sL 12 Zn r1,sL 2 Zv y6,sL 2 ZQ y11,.sl false 2 y16.length (fun k => (fun i => Yq (y16.getD i default)) (0 + k)),sL 9 Z8 r17,sL 7 ZX a0.Zr,.bool a0.X0.Va,.int .i64 a0.X0.Xd,sL 3 Xl a0.X0.ZE,sL 5 Zx a0.X0.Zs,.bool a0.Ya.Va,.int .i64 a0.Ya.Xd,.str a0.Ya.Vr,.str a0.Ya.YD,sL 5 Zx a0.Ya.Zs,.bool a0.ZW.Va,.int .i64 a0.ZW.XN,.int .i64 a0.ZW.XO,sL 4 Xu a0.ZW.Zk,sL 2 Xc a0.ZW.Zt,sL 3 Xm a0.ZW.Zq,sL 5 Xk a0.ZW.Zm,sL 5 Zx a0.ZW.Zs],.box [.str (⟨#[]⟩ : ByteArray),.int .i64 0,.sl true 12 0 (fun _ => []),.sl true 2 0 (fun _ => []),.sl true 2 0 (fun _ => []),.sl true 2 0 (fun _ => []),.sl true 9 0 (fun _ => []),.sl true 7 0 (fun _ => []),.bool false,.int .i64 0,.sl true 3 0 (fun _ => []),.sl true 5 0 (fun _ => []),.bool false,.int .i64 0,.str (⟨#[]⟩ : ByteArray),.str (⟨#[]⟩ : ByteArray),.sl true 5 0 (fun _ => []),.bool false,.int .i64 0,.int .i64 0,.sl true 4 0 (fun _ => []),.sl true 2 0 (fun _ => []),.sl true 3 0 (fun _ => []),.sl true 5 0 (fun _ => []),.sl true 5 0 (fun _ => [])]]⟩ [] [⟨true,120,[sL 9 Z8 a0.Xf],.pure (sL 9 Z8 r17)⟩] ZA ⟨fun _ => UA a0.Xf r17 q51,trivial⟩ (XJ (s' := ⟨136,u1,[.box [.str a0.ZJ,.int .i64 a0.GA,sL 12 Zn r1,sL 2 Zv y6,sL 2 ZQ y11,sL 2 Yq y16,sL 9 Z8 r17,sL 7 ZX a0.Zr,.bool a0.X0.Va,.int .i64 a0.X0.Xd,sL 3 Xl a0.X0.ZE,sL 5 Zx a0.X0.Zs,.bool a0.Ya.Va,.int .i64 a0.Ya.Xd,.str a0.Ya.Vr,.str a0.Ya.YD,sL 5 Zx a0.Ya.Zs,.bool a0.ZW.Va,.int .i64 a0.ZW.XN,.int .i64 a0.ZW.XO,sL 4 Xu a0.ZW.Zk,sL 2 Xc a0.ZW.Zt,sL 3 Xm a0.ZW.Zq,sL 5 Xk a0.ZW.Zm,sL 5 Zx a0.ZW.Zs],.box [.str (⟨#[]⟩ : ByteArray),.int .i64 0,.sl true 12 0 (fun _ => []),.sl true 2 0 (fun _ => []),.sl true 2 0 (fun _ => []),.sl true 2 0 (fun _ => []),.sl true 9 0 (fun _ => []),.sl true 7 0 (fun _ => []),.bool false,.int .i64 0,.sl true 3 0 (fun _ => []),.sl true 5 0 (fun _ => []),.bool false,.int .i64 0,.str (⟨#[]⟩ : ByteArray),.str (⟨#[]⟩ : ByteArray),.sl true 5 0 (fun _ => []),.bool false,.int .i64 0,.int .i64 0,.sl true 4 0 (fun _ => []),.sl true 2 0 (fun _ => []),.sl true 3 0 (fun _ => []),.sl true 5 0 (fun _ => []),.sl true 5 0 (fun _ => [])]]⟩) (VB (.cons Sub.rfl (.cons Sub.rfl .nil)) (.cons (.box (.cons CSub.rfl (.cons CSub.rfl (.cons CSub.rfl (.cons CSub.rfl (.cons CSub.rfl (.cons (KP rfl (RZ (f := fun i => Yq (y16.getD i default)) (fun _ _ => rfl))) (.cons CSub.rfl (.cons CSub.rfl (.cons CSub.rfl (.cons CSub.rfl (.cons CSub.rfl (.cons CSub.rfl (.cons CSub.rfl (.cons CSub.rfl (.cons CSub.rfl (.cons CSub.rfl (.cons CSub.rfl (.cons CSub.rfl (.cons CSub.rfl (.cons CSub.rfl (.cons CSub.rfl (.cons CSub.rfl (.cons CSub.rfl (.cons CSub.rfl (.cons CSub.rfl .nil)))))))))))))))))))))))))) (.cons .rfl .nil))) (Za ?_))
 obtain ⟨r18,q53,h54⟩ := bind_some h52
 refine zr [1,2] 2 ZA (rq1 (UB _ _ q53) rqn) (Zb (Za ?_))
 obtain ⟨r19,q55,h56⟩ := bind_some h54
 refine zr [1,2] 2 ZA (rq1 (U4 _ _ q55) rqn) (Zb (Za ?_))
 obtain ⟨r20,q57,h58⟩ := bind_some h56
 refine zr [1,2] 2 ZA (rq1 (Vx _ _ q57) rqn) (Zb (Za ?_))
 obtain ⟨r21,q59,h60⟩ := bind_some h58
 refine zr [1,2] 2 ZA (rq1 (Vx _ _ q59) rqn) (Zb (Za ?_))
 obtain ⟨r22,q61,h62⟩ := bind_some h60
 refine zr [1,2] 2 ZA (rq1 (Gn _ _ q61) rqn) (Zb (Za ?_))
 obtain ⟨r23,q63,h64⟩ := bind_some h62
 refine zr [1,2] 2 ZA (rq1 (GU _ _ q63) rqn) (Zb (Za ?_))
 obtain ⟨r24,q65,h66⟩ := bind_some h64
 refine zr [1,2] 2 ZA (rq1 (U5 _ _ q65) rqn) (Zb (Za ?_))
 obtain ⟨r25,q67,h68⟩ := bind_some h66
 refine zr [1,2] 2 ZA (rq1 (U6 _ _ q67) rqn) (Zb (Za ?_))
 obtain ⟨r26,q69,h70⟩ := bind_some h68
 refine zr [1,2] 2 ZA (rq1 (Vx _ _ q69) rqn) (Zb (Za (zg [2] 2 (Zb (Zg ?_)))))
 obtain rfl := Option.some.inj h70
 exact er0 (.agg [.str a0.ZJ,.int .i64 a0.GA,sL 12 Zn r1,sL 2 Zv y6,sL 2 ZQ y11,sL 2 Yq y16,sL 9 Z8 r17,sL 7 ZX r18,.bool a0.X0.Va,.int .i64 a0.X0.Xd,sL 3 Xl r19,sL 5 Zx r20,.bool a0.Ya.Va,.int .i64 a0.Ya.Xd,.str a0.Ya.Vr,.str a0.Ya.YD,sL 5 Zx r21,.bool a0.ZW.Va,.int .i64 a0.ZW.XN,.int .i64 a0.ZW.XO,sL 4 Xu r22,sL 2 Xc r23,sL 3 Xm r24,sL 5 Xk r25,sL 5 Zx r26])
theorem ZcU (a0 : ZG) (r : ZG) (h : M.JG a0 = some r) : Fn Tryz.prog 48 [.agg (X3 a0)] (.pure (.agg (X3 r))) := by
 let u1 := X3 a0
 unfold M.JG at h
 refine ZL Tryz.func48 rfl (by kernel_rfl) (Za (zg [1,2] 2 (Zb (Za ?_))))
 obtain ⟨r1,q1,h2⟩ := bind_some h
 refine rg [oL 25 Zu r1] [2,3] 3 ⟨24,[(2,.ref 1 0),(3,.asl 2 0 r1.length)],[.box u1,.box [.sl true 25 0 (fun _ => [])],aL 25 Zu r1]⟩ [] [⟨true,68,[sL 25 Zu a0.Ze],oL 25 Zu r1⟩] ZA ⟨fun _ => GJ a0.Ze r1 q1,trivial⟩ (Zb (Za (Za (zg [2,3,9,10] 3 (Zb (Zi ?_))))))
 obtain ⟨y5,q11,h12⟩ := bind_some h2
 refine zl (fun (p2 : (List Zf) × Int) => ⟨24,[(2,.ref 1 0),(3,.asl 2 0 p2.1.length),(9,.int .i64 (r1.length : Int)),(10,.int .i64 p2.2)],[.box u1,.box [.sl true 25 0 (fun _ => [])],aL 25 Zu p2.1]⟩) (fun z => OutE 0 (fun z => ⟨24,[(2,.ref 1 0),(3,.asl 2 0 z.length)],[.box u1,.box [.sl true 25 0 (fun _ => [])],aL 25 Zu z]⟩) z) q11 ?_ ?_
 intro p2 y3 h3
 unfold M.Qr at h3
 refine Za (zg [2,3,9,10,11] 3 (Zb (Za (cn h3 (fun _ h5 => ?_) (fun _ h6 => ?_)))))
 refine Zd (Zb (Za (Zi (Za (zg [2,3,4,9,10] 3 (Zb ?_))))))
 obtain ⟨r4,q7,h8⟩ := bind_some h5
 obtain ⟨c9,h10⟩ := Zz h8
 exact rg [.pure (.agg (Zu r4))] [2,3,9,10] 3 ⟨24,[(2,.ref 1 0),(3,.asl 2 0 p2.1.length),(9,.int .i64 (r1.length : Int)),(10,.int .i64 p2.2)],[.box (X3 a0),.box [.sl true 25 0 (fun _ => [])],.arr 25 p2.1.length (fun j => bif Nat.beq j (0 + p2.2.toNat) then splice (Zu (p2.1.getD (0 + p2.2.toNat) default)) [.str r4.ZJ,.int .i64 r4.GA,sL 12 Zn r4.Zc,sL 2 Zv r4.Z1,sL 2 ZQ r4.ZR,sL 2 Yq r4.Xh,sL 9 Z8 r4.Xf,sL 7 ZX r4.Zr,.bool r4.X0.Va,.int .i64 r4.X0.Xd,sL 3 Xl r4.X0.ZE,sL 5 Zx r4.X0.Zs,.bool r4.Ya.Va,.int .i64 r4.Ya.Xd,.str r4.Ya.Vr,.str r4.Ya.YD,sL 5 Zx r4.Ya.Zs,.bool r4.ZW.Va,.int .i64 r4.ZW.XN,.int .i64 r4.ZW.XO,sL 4 Xu r4.ZW.Zk,sL 2 Xc r4.ZW.Zt,sL 3 Xm r4.ZW.Zq,sL 5 Xk r4.ZW.Zm,sL 5 Zx r4.ZW.Zs] 0 else Zu (p2.1.getD j default))]⟩ [decide (0 ≤ p2.2),decide (p2.2 < (p2.1.length : Int)),decide (0 ≤ p2.2),decide (p2.2 < (p2.1.length : Int))] [⟨true,69,[.agg (Zu (p2.1.getD (0 + p2.2.toNat) default))],.pure (.agg (Zu r4))⟩] c9 ⟨fun _ => ZdI (p2.1.getD (0 + p2.2.toNat) default) r4 q7,trivial⟩ (XK (XJ (s' := ⟨24,[(2,.ref 1 0),(3,.asl 2 0 ((p2.1.set (0 + p2.2.toNat) r4).length)),(9,.int .i64 (r1.length : Int)),(10,.int .i64 p2.2)],[.box (X3 a0),.box [.sl true 25 0 (fun _ => [])],aL 25 Zu (p2.1.set (0 + p2.2.toNat) r4)]⟩) (VB (.cons Sub.rfl (.cons (Rd (by simp)) (.cons Sub.rfl (.cons Sub.rfl .nil)))) (.cons .rfl (.cons .rfl (.cons (.arr (by simp) (ZfX Zu p2.1 (0 + p2.2.toNat) r4 _ rfl)) .nil)))) (zg [2,3,9,10] 3 (rn h10))))
 exact ZH (Xn (re h6 ⟨rfl,kq⟩))
 intro e13 s14 o15
 refine zi o15 (Za (UQ (s' := ⟨24,[(2,.ref 1 0),(3,sL 25 Zu y5)],[.box u1,.box [.sl true 25 0 (fun _ => [])],aL 25 Zu ([] : List Zf)]⟩) (Le.trans (Zl1 3 2 25 Zu y5 (fun i => Zu (([] : List Zf).getD i default)) (by kernel_rfl) (by kernel_rfl) (by kernel_rfl)) (kp [2,3])) (zg [2] 2 (Zb (Zg ?_)))))
 obtain rfl := Option.some.inj h12
 exact er0 (.agg [sL 25 Zu y5])
theorem Zaw (a0 : List Int) (r : List Int) (h : M.QA a0 = some r) : Fn Tryz.prog 49 [sL 1 (ci .i64) a0] (.pure (sL 1 (ci .i64) r)) := by
 unfold M.QA at h
 obtain ⟨hc,h1⟩ := Zz h
 obtain rfl := Option.some.inj h1
 refine ZL Tryz.func49 rfl (by kernel_rfl) (Za (zg [0] 0 (Zb (Za (Za (zg [0,4] 0 (Zb (nq a0.length (fun hz => ?_) ?_))))))))
 exact Za (zg [2] 0 (Zb (Zg (Zh (er (.sl false 1 0 (fun _ => [])) (Gl hz))))))
 exact Zd (Zb (Za (zc [2] 1 hc (Zb (Zg (er (.sl false 1 (0 + a0.length) (fun i => (app (fun i => List.take 1 (List.drop (i * 1) [])) 0 (fun i => (ci .i64) (a0.getD i default))) (0 + i))) (Un (Nat.zero_add _) (fun i hi => by rw [Nat.zero_add]; exact Uk (ci .i64) _ a0 _ (fun _ _ => rfl) i hi))))))))
end Nv
