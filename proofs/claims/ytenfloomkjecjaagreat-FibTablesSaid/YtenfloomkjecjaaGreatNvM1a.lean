/- The walks: each function computes its mirror. -/
import Derived.Test.YtenfloomkjecjaaGreatProg
import Derived.Test.YtenfloomkjecjaaGreatNvD1
import Derived.Test.YtenfloomkjecjaaGreatNvLibC
import Derived.Test.YtenfloomkjecjaaGreatNvLibB
import Derived.KernelRfl
import Derived.Ground.SlsfProg
import Derived.Shelf.Lay
import Derived.Test.YtenfloomkjecjaaGreatNvLibD
set_option maxRecDepth 100000
namespace Nv
open Go Go.Proofs
theorem Zg1 (a0:Zi) (r:Bool) (h:M.Wc a0=some r):Fn Tryz.prog 54 [.agg (Zs a0)] (.pure (.bool r)):=by
 let u1:List Ob:=[.box (Zs a0)]
 let u2:St:=⟨141,[(1,.ref 0 0)],u1⟩
 unfold M.Wc at h
 refine ZC Tryz.func54 rfl (by kernel_rfl) (Za (zg [1] 1 (Zb (Za (Za (zg [1,95] 1 (Zb (cn h (fun _ h2=>?_) (fun _ h3=>?_)))))))))
 exact Za (zg [2] 0 (Zb (Zf (Zk (er1 h2)))))
 refine Zd (Zb (Za (Za (zg [1,3] 1 (Zb (Zg ?_))))))
 obtain ⟨y3,q13,h14⟩:=bind_some h3
 refine zl (fun (p1:Int)=>⟨141,[(1,.ref 0 0),(3,.int .i64 p1)],u1⟩) (Sum.elim (fun z=>OutE 0 (fun z=>u2) z) (fun z=>OutR Tryz.prog Tryz.f54 (.bool z))) q13 ?_ ?_
 intro p1 y2 h4
 unfold M.Wj at h4
 refine Za (Za (zg [1,3,100] 1 (Zb (cn h4 (fun _ h6=>?_) (fun _ h7=>?_)))))
 refine Zd (Zb (Za (Zg (Za ?_))))
 obtain ⟨c8,h9⟩:=Zo h6
 refine zc [1,3,110] 1 c8 (Zb (cn h9 (fun _ h11=>?_) (fun _ h12=>?_)))
 exact Za (zg [2] 0 (Zb (Zf (ZR (Zk (rr h11 ⟨rfl,er0 _⟩))))))
 exact Zd (XA (Zb (zg [1,3] 1 (rn h12))))
 exact ZD (Xc (re h7 ⟨rfl,kq⟩))
 intro e15 s16 o17
 rcases y3 with g4 | y5
 have h18:=Yc h14
 refine zi o17 (Za (Za (zg [1,4] 1 (Zb (Zg ?_)))))
 obtain ⟨y8,q30,h31⟩:=bind_some h18
 refine zl (fun (p6:Int)=>⟨141,[(1,.ref 0 0),(4,.int .i64 p6)],u1⟩) (Sum.elim (fun z=>OutE 2 (fun z=>u2) z) (fun z=>OutR Tryz.prog Tryz.f54 (.bool z))) q30 ?_ ?_
 intro p6 y7 h21
 unfold M.Wk at h21
 refine Za (Za (zg [1,4,115] 1 (Zb (cn h21 (fun _ h23=>?_) (fun _ h24=>?_)))))
 refine Zd (Zb (Za (Zg (Za ?_))))
 obtain ⟨c25,h26⟩:=Zo h23
 refine zc [1,4,125] 1 c25 (Zb (cn h26 (fun _ h28=>?_) (fun _ h29=>?_)))
 exact Za (zg [2] 0 (Zb (Zf (ZR (Zk (rr h28 ⟨rfl,er0 _⟩))))))
 exact Zd (XA (Zb (zg [1,4] 1 (rn h29))))
 exact ZD (Xc (re h24 ⟨rfl,kq⟩))
 intro e32 s33 o34
 rcases y8 with g9 | y10
 have h35:=Yc h31
 refine zi o34 (Za (Za (zg [1,5] 1 (Zb (Zg ?_)))))
 obtain ⟨y13,q47,h48⟩:=bind_some h35
 refine zl (fun (p11:Int)=>⟨141,[(1,.ref 0 0),(5,.int .i64 p11)],u1⟩) (Sum.elim (fun z=>OutE 4 (fun z=>⟨141,[],[]⟩) z) (fun z=>OutR Tryz.prog Tryz.f54 (.bool z))) q47 ?_ ?_
 intro p11 y12 h38
 unfold M.Wl at h38
 refine Za (Za (zg [1,5,130] 1 (Zb (cn h38 (fun _ h40=>?_) (fun _ h41=>?_)))))
 refine Zd (Zb (Za (Zg (Za ?_))))
 obtain ⟨c42,h43⟩:=Zo h40
 refine zc [1,5,140] 1 c42 (Zb (cn h43 (fun _ h45=>?_) (fun _ h46=>?_)))
 exact Za (zg [2] 0 (Zb (Zf (ZR (Zk (rr h45 ⟨rfl,er0 _⟩))))))
 exact Zd (XA (Zb (zg [1,5] 1 (rn h46))))
 exact ZD (Xc (re h41 ⟨rfl,kc⟩))
 intro e49 s50 o51
 rcases y13 with g14 | y15
 have h52:=Yc h48
 exact zi o51 (Za (zg [2] 0 (Zb (Zf (er1 h52)))))
 have h53:=Yd h48
 obtain ⟨rfl,n55⟩:=o51
 refine ZR (Zk ?_)
 obtain rfl:=Option.some.inj h53
 exact n55
 have h36:=Yd h31
 obtain ⟨rfl,n56⟩:=o34
 refine ZR (Zk ?_)
 obtain rfl:=Option.some.inj h36
 exact n56
 have h19:=Yd h14
 obtain ⟨rfl,n57⟩:=o17
 refine ZR (Zk ?_)
 obtain rfl:=Option.some.inj h19
 exact n57
theorem ZgD (a0:ZI) (r:Bool) (h:M.VC a0=some r):Fn Tryz.prog 26 [.agg (Yb a0)] (.pure (.bool r)):=by
 unfold M.VC at h
 refine ZC Tryz.func26 rfl (by kernel_rfl) (Za (zg [1] 1 (Zb (Za (Za (zg [1,7] 1 (Zb (cn h (fun _ h2=>?_) (fun _ h3=>?_)))))))))
 exact Za (zg [2] 0 (Zb (Zf (Zk (er1 h2)))))
 refine Zd (Zb (Za (Za (zg [1,3] 1 (Zb (Zg ?_))))))
 obtain ⟨y4,q15,h16⟩:=bind_some h3
 refine zl (fun (p1:Int)=>⟨22,[(1,.ref 0 0),(3,.int .i64 p1)],[.box (Yb a0)]⟩) (Sum.elim (fun z=>OutE 0 (fun z=>⟨22,[],[]⟩) z) (fun z=>OutR Tryz.prog Tryz.f26 (.bool z))) q15 ?_ ?_
 intro p1 y2 h4
 unfold M.QO at h4
 refine Za (Za (zg [1,3,12] 1 (Zb (cn h4 (fun _ h6=>?_) (fun _ h7=>?_)))))
 refine Zd (Zb (Za (Zg (Za ?_))))
 obtain ⟨r3,q8,h9⟩:=bind_some h6
 obtain ⟨c10,h11⟩:=Zo h9
 refine zr [1,3,21] 1 c10 (rq1 (Zg1 _ _ q8) rqn) (Zb (cn h11 (fun _ h13=>?_) (fun _ h14=>?_)))
 exact Za (zg [2] 0 (Zb (Zf (ZR (Zk (rr h13 ⟨rfl,er0 _⟩))))))
 exact Zd (XA (Zb (zg [1,3] 1 (rn h14))))
 exact ZD (Xc (re h7 ⟨rfl,kc⟩))
 intro e17 s18 o19
 rcases y4 with g5 | y6
 have h20:=Yc h16
 exact zi o19 (Za (zg [2] 0 (Zb (Zf (er1 h20)))))
 have h21:=Yd h16
 obtain ⟨rfl,n23⟩:=o19
 refine ZR (Zk ?_)
 obtain rfl:=Option.some.inj h21
 exact n23
theorem Zbv (a0:Int) (r:Bool) (h:M.Ws a0=some r):Fn Tryz.prog 221 [.int .u8 a0] (.pure (.bool r)):=by
 unfold M.Ws at h
 exact ZC Tryz.func221 rfl (by kernel_rfl) (Za (zg [0] 0 (Zb (Za (zg [2] 0 (Zb (Zf (er1 h))))))))
theorem G9 (a0:ByteArray) (r:Bool) (h:M.Jy a0=some r):Fn Tryz.prog 160 [.str a0] (.pure (.bool r)):=by
 unfold M.Jy at h
 refine ZC Tryz.func160 rfl (by kernel_rfl) (Za (zg [0] 0 (Zb (Za (Za ?_)))))
 obtain ⟨r1,q1,h2⟩:=bind_some h
 obtain ⟨c3,h4⟩:=Zo h2
 refine zr [0,18] 0 c3 (rq2 (fun hg=>Zbv _ _ (Xg q1 hg)) rqn) (Zb (cn h4 (fun _ h6=>?_) (fun _ h7=>?_)))
 exact Za (zg [2] 0 (Zb (Zf (Zk (er1 h6)))))
 refine Zd (Zb (Za (Za (zg [0,3] 0 (Zb (Zg ?_))))))
 obtain ⟨y5,q19,h20⟩:=bind_some h7
 refine zl (fun (p2:Int)=>⟨56,[(0,.str a0),(3,.int .i64 p2)],[]⟩) (Sum.elim (fun z=>OutE 0 (fun z=>⟨56,[],[]⟩) z) (fun z=>OutR Tryz.prog Tryz.f160 (.bool z))) q19 ?_ ?_
 intro p2 y3 h8
 unfold M.WI at h8
 refine Za (Za (zg [0,3,22] 0 (Zb (cn h8 (fun _ h10=>?_) (fun _ h11=>?_)))))
 refine Zd (Zb (Za (Zg (Za ?_))))
 obtain ⟨c12,h13⟩:=Zo h10
 refine zc [0,3,4] 0 c12 (Zb (Za ?_))
 obtain ⟨r4,q14,h15⟩:=bind_some h13
 refine zr [0,3,55] 0 Zt (rq1 (Zbv _ _ q14) rqn) (Zb (cn h15 (fun _ h17=>?_) (fun _ h18=>?_)))
 exact Za (zg [2] 0 (Zb (Zf (ZR (Zk (rr h17 ⟨rfl,er0 _⟩))))))
 exact Zd (XA (Zb (zg [0,3] 0 (rn h18))))
 exact ZD (Xc (re h11 ⟨rfl,kq⟩))
 intro e21 s22 o23
 rcases y5 with g6 | y7
 have h24:=Yc h20
 exact zi o23 (Za (zg [2] 0 (Zb (Zf (er1 h24)))))
 have h25:=Yd h20
 obtain ⟨rfl,n27⟩:=o23
 refine ZR (Zk ?_)
 obtain rfl:=Option.some.inj h25
 exact n27
theorem XZ (a0:Int) (a1:Int) (a2:Int) (r:Bool) (h:M.ZT a0 a1 a2=some r):Fn Tryz.prog 161 [.int .i64 a0,.int .i64 a1,.int .i64 a2] (.pure (.bool r)):=by
 unfold M.ZT at h
 exact ZC Tryz.func161 rfl (by kernel_rfl) (Za (zg [0,1,2] 0 (Zb (Za (zg [6] 0 (Zb (Zf (er1 h))))))))
theorem Zao (a0:Int) (r:Int) (h:M.J1 a0=some r):Fn Tryz.prog 78 [.int .i64 a0] (.pure (.int .u32 r)):=by
 unfold M.J1 at h
 refine ZC Tryz.func78 rfl (by kernel_rfl) (Za (zg [0] 0 (Zb (Za (zg [0,3] 0 (Zb (Za (Za (zg [0,3,4] 0 (Zb (Zg ?_)))))))))))
 obtain ⟨y4,q12,h13⟩:=bind_some h
 refine zl (fun (p1:Int × Int)=>⟨19,[(0,.int .i64 a0),(3,.int .u32 p1.1),(4,.int .i64 p1.2)],[]⟩) (fun z=>OutE 0 (fun z=>⟨19,[(3,.int .u32 z)],[]⟩) z) q12 ?_ ?_
 intro p1 y2 h1
 unfold M.UR at h1
 refine Za (Za (rg0 [0,3,4,6] 0 ⟨19,[(0,.int .i64 a0),(3,.int .u32 p1.1),(4,.int .i64 p1.2),(6,.bool (decide (p1.2 < 32)))],[]⟩ (Zb (cn h1 (fun _ h3=>?_) (fun _ h4=>?_)))))
 refine Zd (Zb (Jz (fun (p3:Int)=>⟨19,[(0,.int .i64 a0),(3,.int .u32 p3),(4,.int .i64 p1.2)],[]⟩) (fun p3=>M.G4 p1 p3=some y2) ?_ ?_))
 intro p3 h6
 unfold M.G4 at h6
 exact zg [0,3,4] 0 (rn h6)
 intro k5
 refine Zg (Za (zg [0,3,4,11] 0 (Zb (cn h3 (fun _ h8=>?_) (fun _ h9=>?_)))))
 obtain ⟨c10,h11⟩:=Zo h8
 exact zc [0,3,4] 0 c10 (XA (ZZ lk (k5 (bitD .or .u32 p1.1 (wr .u32 (1*2 ^ min (wr .u64 (wr .i64 (31 - p1.2))).toNat 32))) h11)))
 exact Zd (XA (ZZ kq (k5 p1.1 h9)))
 exact ZD (Xc (re h4 ⟨rfl,kq⟩))
 intro e14 s15 o16
 exact zi o16 (Za (zg [2] 0 (Zb (Zf (er1 h13)))))
theorem KJ (a0:Int) (a1:Int) (r:ZL) (h:M.QY a0 a1=some r):Fn Tryz.prog 84 [.int .u32 a0,.int .i64 a1] (.pure (.agg (Xd r))):=by
 unfold M.QY at h
 refine ZC Tryz.func84 rfl (by kernel_rfl) (Za (zg [0,1,4] 1 (Zb (Za (zg [0,1,4] 1 (Zb (Za ?_)))))))
 obtain ⟨r1,q1,h2⟩:=bind_some h
 refine zr [4] 1 Zt (rq1 (Zao _ _ q1) rqn) (Zb (Zf ?_))
 obtain rfl:=Option.some.inj h2
 exact er0 (.agg [.int .u32 (bitD .and .u32 a0 r1),.int .i64 (if 0 > (if 32 < a1 then 32 else a1) then 0 else (if 32 < a1 then 32 else a1))])
theorem RR (a0:ZL) (a1:Int) (r:Bool) (h:M.Jf a0 a1=some r):Fn Tryz.prog 46 [.agg (Xd a0),.int .u32 a1] (.pure (.bool r)):=by
 unfold M.Jf at h
 refine ZC Tryz.func46 rfl (by kernel_rfl) (Za (zg [1,2] 1 (Zb (Za ?_))))
 obtain ⟨r1,q1,h2⟩:=bind_some h
 exact zr [4] 0 Zt (rq1 (Zao _ _ q1) rqn) (Zb (Zf (er1 h2)))
theorem Zbw (a0:ZL) (a1:ZL) (r:Bool) (h:M.VD a0 a1=some r):Fn Tryz.prog 53 [.agg (Xd a0),.agg (Xd a1)] (.pure (.bool r)):=by
 unfold M.VD at h
 refine ZC Tryz.func53 rfl (by kernel_rfl) (Za (zg [2,3] 2 (Zb (Za ?_))))
 obtain ⟨r1,q1,h2⟩:=bind_some h
 exact zr [4] 0 Zt (rq2 (fun hg=>RR _ _ _ (Xg q1 hg)) rqn) (Zb (Zf (er1 h2)))
theorem RT (a0:ZL) (a1:ZL) (r:Bool) (h:M.QR a0 a1=some r):Fn Tryz.prog 222 [.agg (Xd a0),.agg (Xd a1)] (.pure (.bool r)):=by
 unfold M.QR at h
 refine ZC Tryz.func222 rfl (by kernel_rfl) (Za (zg [2,3] 2 (Zb (Za ?_))))
 obtain ⟨r1,q1,h2⟩:=bind_some h
 obtain ⟨r2,q3,h4⟩:=bind_some h2
 exact zr [4] 0 Zt (rq1 (Zbw _ _ _ q1) (rq2 (fun hg=>Zbw _ _ _ (Xg q3 hg)) rqn)) (Zb (Zf (er1 h4)))
theorem Zc1 (a0:List ZA) (r:Int) (h:M.Yx a0=some r):Fn Tryz.prog 162 [sL 12 Zl a0] (.pure (.int .i64 r)):=by
 let u1:Nat × D:=(0,sL 12 Zl a0)
 unfold M.Yx at h
 refine ZC Tryz.func162 rfl (by kernel_rfl) (Za (zg [0] 0 (Zb (Za (Za (zg [0,9] 0 (Zb (cn h (fun _ h2=>?_) (fun _ h3=>?_)))))))))
 exact Za (zg [2] 0 (Zb (Zf (Zk (er1 h2)))))
 refine Zd (Zb (Za (Za (zg [0,3] 0 (Zb (Zg ?_))))))
 obtain ⟨y22,q76,h77⟩:=bind_some h3
 refine zl (fun (p1:Int)=>⟨163,[u1,(3,.int .i64 p1)],[]⟩) (Sum.elim (fun z=>OutE 0 (fun z=>⟨163,[],[]⟩) z) (fun z=>OutR Tryz.prog Tryz.f162 (.int .i64 z))) q76 ?_ ?_
 intro p1 y2 h4
 let u2:List Ob:=[.box (Zl (a0.getD p1.toNat default))]
 unfold M.YM at h4
 refine Za (Za (zg [0,3,13] 0 (Zb (cn h4 (fun _ h6=>?_) (fun _ h7=>?_)))))
 refine Zd (Zb (Za (Zg (Za ?_))))
 obtain ⟨c8,h9⟩:=Zo h6
 refine zc [0,3,4] 1 c8 (Zb (Za (Za ?_)))
 obtain ⟨r3,q10,h11⟩:=bind_some h9
 refine zr [0,3,4,23] 1 Zt (rq1 (G9 _ _ q10) rqn) (Zb (cn h11 (fun _ h13=>?_) (fun _ h14=>?_)))
 exact Za (zg [2] 0 (Zb (Zf (Zk (ZR (Zk (rr h13 ⟨rfl,er0 _⟩)))))))
 refine Zd (Zb (Za (Za (zg [0,3,4,5] 1 (Zb (Zg ?_))))))
 obtain ⟨y6,q24,h25⟩:=bind_some h14
 refine zl (fun (p4:Int)=>⟨163,[u1,(3,.int .i64 p1),(4,.ref 0 0),(5,.int .i64 p4)],u2⟩) (Sum.elim (fun z=>OutE 2 (fun z=>⟨163,[u1,(3,.int .i64 p1),(4,.ref 0 0)],u2⟩) z) (fun z=>OutR Tryz.prog Tryz.f162 (.int .i64 z))) q24 ?_ ?_
 intro p4 y5 h15
 unfold M.Y8 at h15
 refine Za (Za (zg [0,3,4,5,26] 1 (Zb (cn h15 (fun _ h17=>?_) (fun _ h18=>?_)))))
 refine Zd (Zb (Za (Zg (Za ?_))))
 obtain ⟨c19,h20⟩:=Zo h17
 refine zc [0,3,4,5,36] 1 c19 (Zb (cn h20 (fun _ h22=>?_) (fun _ h23=>?_)))
 exact Za (zg [2] 0 (Zb (Zf (ZR (Zk (rr h22 ⟨rfl,er0 _⟩))))))
 exact Zd (XA (Zb (zg [0,3,4,5] 1 (rn h23))))
 exact ZD (Xc (re h18 ⟨rfl,kq⟩))
 intro e26 s27 o28
 rcases y6 with g7 | y8
 have h29:=Yc h25
 refine zi o28 (Za (Za ?_))
 obtain ⟨r9,q32,h33⟩:=bind_some h29
 obtain ⟨r10,q34,h35⟩:=bind_some h33
 obtain ⟨r11,q36,h37⟩:=bind_some h35
 refine zr [0,3,4,52] 1 Zt (rq1 (XZ _ _ _ _ q32) (rq2 (fun hg=>XZ _ _ _ _ (Xg q34 hg)) (rq2 (fun hg=>XZ _ _ _ _ (Xg q36 hg)) rqn))) (Zb (cn h37 (fun _ h39=>?_) (fun _ h40=>?_)))
 exact Za (zg [2] 0 (Zb (Zf (Zk (ZR (Zk (rr h39 ⟨rfl,er0 _⟩)))))))
 refine Zd (Zb (Za (Za (zg [0,3,4,98] 1 (Zb (cn h40 (fun _ h42=>?_) (fun _ h43=>?_)))))))
 exact Za (zg [2] 0 (Zb (Zf (Zk (ZR (Zk (rr h42 ⟨rfl,er0 _⟩)))))))
 refine Zd (Zb (Za (Za ?_)))
 obtain ⟨r12,q44,h45⟩:=bind_some h43
 obtain ⟨r13,q46,h47⟩:=bind_some h45
 refine zr [0,3,4,127] 1 Zt (rq2 (fun hg=>XZ _ _ _ _ (Xg q44 hg)) (rq2 (fun hg=>XZ _ _ _ _ (Xg q46 hg)) rqn)) (Zb (cn h47 (fun _ h49=>?_) (fun _ h50=>?_)))
 exact Za (zg [2] 0 (Zb (Zf (Zk (ZR (Zk (rr h49 ⟨rfl,er0 _⟩)))))))
 refine Zd (Zb (Za (zg [0,3,4,6] 1 (Zb (Zg ?_)))))
 obtain ⟨y19,q66,h67⟩:=bind_some h50
 refine zl (fun (p14:Int)=>⟨163,[u1,(3,.int .i64 p1),(4,.ref 0 0),(6,.int .i64 p14)],u2⟩) (Sum.elim (fun z=>OutE 4 (fun z=>⟨163,[u1,(3,.int .i64 p1)],[]⟩) z) (fun z=>OutR Tryz.prog Tryz.f162 (.int .i64 z))) q66 ?_ ?_
 intro p14 y15 h51
 unfold M.YL at h51
 refine Za (Za (zg [0,3,4,6,130] 1 (Zb (cn h51 (fun _ h53=>?_) (fun _ h54=>?_)))))
 refine Zd (Zb (Za (Zg (Za ?_))))
 obtain ⟨r16,q55,h56⟩:=bind_some h53
 obtain ⟨r17,q57,h58⟩:=bind_some h56
 obtain ⟨r18,q59,h60⟩:=bind_some h58
 obtain ⟨c61,h62⟩:=Zo h60
 refine zr [0,3,4,6,162] 1 c61 (rq2 (fun hg=>KJ _ _ _ (Xg q55 hg)) (rq2 (fun hg=>KJ _ _ _ (Xg q57 hg)) (rq2 (fun hg=>RT _ _ _ (Xg q59 hg)) rqn))) (Zb (cn h62 (fun _ h64=>?_) (fun _ h65=>?_)))
 exact Za (zg [2] 0 (Zb (Zf (ZR (Zk (rr h64 ⟨rfl,er0 _⟩))))))
 exact Zd (XA (Zb (zg [0,3,4,6] 1 (rn h65))))
 exact ZD (Xc (re h54 ⟨rfl,kc⟩))
 intro e68 s69 o70
 rcases y19 with g20 | y21
 have h71:=Yc h67
 obtain ⟨rfl,l73⟩:=o70
 exact Qg (XA (ZZ (s':=⟨163,[u1,(3,.int .i64 p1)],[]⟩) (l73) (zg [0,3] 0 (rn h71))))
 have h72:=Yd h67
 obtain ⟨rfl,n74⟩:=o70
 exact ZR (ZR (Zk (rr h72 ⟨rfl,n74⟩)))
 have h30:=Yd h25
 obtain ⟨rfl,n75⟩:=o28
 exact ZR (Zk (ZR (Zk (rr h30 ⟨rfl,n75⟩))))
 exact ZD (Xc (re h7 ⟨rfl,kq⟩))
 intro e78 s79 o80
 rcases y22 with g23 | y24
 have h81:=Yc h77
 exact zi o80 (Za (zg [2] 0 (Zb (Zf (er1 h81)))))
 have h82:=Yd h77
 obtain ⟨rfl,n84⟩:=o80
 refine ZR (Zk ?_)
 obtain rfl:=Option.some.inj h82
 exact n84
theorem WP (a0:ZL) (r:Bool) (h:M.Y9 a0=some r):Fn Tryz.prog 44 [.agg (Xd a0)] (.pure (.bool r)):=by
 unfold M.Y9 at h
 refine ZC Tryz.func44 rfl (by kernel_rfl) (Za (zg [1] 1 (Zb (Za ?_))))
 obtain ⟨r1,q1,h2⟩:=bind_some h
 exact zr [2] 0 Zt (rq2 (fun hg=>Zao _ _ (Xg q1 hg)) rqn) (Zb (Zf (er1 h2)))
theorem RU (a0:Gc) (r:Bool) (h:M.Ql a0=some r):Fn Tryz.prog 223 [.agg (Ru a0)] (.pure (.bool r)):=by
 unfold M.Ql at h
 refine ZC Tryz.func223 rfl (by kernel_rfl) (Za (zg [1] 1 (Zb (Za ?_))))
 obtain ⟨r1,q1,h2⟩:=bind_some h
 exact zr [2] 0 Zt (rq1 (WP _ _ q1) rqn) (Zb (Zf (er1 h2)))
theorem Zcg (a0:List Z1) (r:Int) (h:M.QP a0=some r):Fn Tryz.prog 163 [sL 2 Zx a0] (.pure (.int .i64 r)):=by
 let u1:Nat × D:=(0,sL 2 Zx a0)
 unfold M.QP at h
 refine ZC Tryz.func163 rfl (by kernel_rfl) (Za (zg [0] 0 (Zb (Za (Za (zg [0,8] 0 (Zb (cn h (fun _ h2=>?_) (fun _ h3=>?_)))))))))
 exact Za (zg [2] 0 (Zb (Zf (Zk (er1 h2)))))
 refine Zd (Zb (Za (Za (zg [0,3] 0 (Zb (Zg ?_))))))
 obtain ⟨y15,q65,h66⟩:=bind_some h3
 refine zl (fun (p1:Int)=>⟨72,[u1,(3,.int .i64 p1)],[]⟩) (Sum.elim (fun z=>OutE 0 (fun z=>⟨72,[],[]⟩) z) (fun z=>OutR Tryz.prog Tryz.f163 (.int .i64 z))) q65 ?_ ?_
 intro p1 y2 h4
 unfold M.QI at h4
 refine Za (Za (zg [0,3,12] 0 (Zb (cn h4 (fun _ h6=>?_) (fun _ h7=>?_)))))
 refine Zd (Zb (Za (Zg (Za (Za ?_)))))
 obtain ⟨r3,q8,h9⟩:=bind_some h6
 obtain ⟨c10,h11⟩:=Zo h9
 refine zr [0,3,21] 0 c10 (rq1 (G9 _ _ q8) rqn) (Zb (cn h11 (fun _ h13=>?_) (fun _ h14=>?_)))
 exact Za (zg [2] 0 (Zb (Zf (Zk (ZR (Zk (rr h13 ⟨rfl,er0 _⟩)))))))
 refine Zd (Zb (Za (Za (zg [0,3,4] 0 (Zb (Zg ?_))))))
 obtain ⟨y6,q24,h25⟩:=bind_some h14
 refine zl (fun (p4:Int)=>⟨72,[u1,(3,.int .i64 p1),(4,.int .i64 p4)],[]⟩) (Sum.elim (fun z=>OutE 2 (fun z=>⟨72,[u1,(3,.int .i64 p1)],[]⟩) z) (fun z=>OutR Tryz.prog Tryz.f163 (.int .i64 z))) q24 ?_ ?_
 intro p4 y5 h15
 unfold M.QG at h15
 refine Za (Za (zg [0,3,4,24] 0 (Zb (cn h15 (fun _ h17=>?_) (fun _ h18=>?_)))))
 refine Zd (Zb (Za (Zg (Za ?_))))
 obtain ⟨c19,h20⟩:=Zo h17
 refine zc [0,3,4,37] 0 c19 (Zb (cn h20 (fun _ h22=>?_) (fun _ h23=>?_)))
 exact Za (zg [2] 0 (Zb (Zf (ZR (Zk (rr h22 ⟨rfl,er0 _⟩))))))
 exact Zd (XA (Zb (zg [0,3,4] 0 (rn h23))))
 exact ZD (Xc (re h18 ⟨rfl,kq⟩))
 intro e26 s27 o28
 rcases y6 with g7 | y8
 have h29:=Yc h25
 refine zi o28 (Za (Za ?_))
 obtain ⟨c32,h33⟩:=Zo h29
 refine zc [0,3,44] 0 c32 (Zb (cn h33 (fun _ h35=>?_) (fun _ h36=>?_)))
 exact Za (zg [2] 0 (Zb (Zf (Zk (ZR (Zk (rr h35 ⟨rfl,er0 _⟩)))))))
 refine Zd (Zb (Za (Za ?_)))
 obtain ⟨c37,h38⟩:=Zo h36
 refine zc [0,3,51] 0 c37 (Zb (cn h38 (fun _ h40=>?_) (fun _ h41=>?_)))
 exact Za (zg [2] 0 (Zb (Zf (Zk (ZR (Zk (rr h40 ⟨rfl,er0 _⟩)))))))
 refine Zd (Zb (Za (zg [0,3,5] 0 (Zb (Zg ?_)))))
 obtain ⟨y12,q55,h56⟩:=bind_some h41
 refine zl (fun (p9:Int)=>⟨72,[u1,(3,.int .i64 p1),(5,.int .i64 p9)],[]⟩) (Sum.elim (fun z=>OutE 4 (fun z=>⟨72,[u1,(3,.int .i64 p1)],[]⟩) z) (fun z=>OutR Tryz.prog Tryz.f163 (.int .i64 z))) q55 ?_ ?_
 intro p9 y10 h42
 unfold M.QH at h42
 refine Za (Za ?_)
 obtain ⟨c43,h44⟩:=Zo h42
 refine zc [0,3,5,59] 0 c43 (Zb (cn h44 (fun _ h46=>?_) (fun _ h47=>?_)))
 refine Zd (Zb (Za (Zg (Za ?_))))
 obtain ⟨r11,q48,h49⟩:=bind_some h46
 obtain ⟨c50,h51⟩:=Zo h49
 refine zr [0,3,5,71] 0 c50 (rq1 (RU _ _ q48) rqn) (Zb (cn h51 (fun _ h53=>?_) (fun _ h54=>?_)))
 exact Za (zg [2] 0 (Zb (Zf (ZR (Zk (rr h53 ⟨rfl,er0 _⟩))))))
 exact Zd (XA (Zb (zg [0,3,5] 0 (rn h54))))
 exact ZD (Xc (re h47 ⟨rfl,kq⟩))
 intro e57 s58 o59
 rcases y12 with g13 | y14
 have h60:=Yc h56
 obtain ⟨rfl,l62⟩:=o59
 exact Qg (XA (ZZ (s':=⟨72,[u1,(3,.int .i64 p1)],[]⟩) (l62) (zg [0,3] 0 (rn h60))))
 have h61:=Yd h56
 obtain ⟨rfl,n63⟩:=o59
 exact ZR (ZR (Zk (rr h61 ⟨rfl,n63⟩)))
 have h30:=Yd h25
 obtain ⟨rfl,n64⟩:=o28
 exact ZR (Zk (ZR (Zk (rr h30 ⟨rfl,n64⟩))))
 exact ZD (Xc (re h7 ⟨rfl,kq⟩))
 intro e67 s68 o69
 rcases y15 with g16 | y17
 have h70:=Yc h66
 exact zi o69 (Za (zg [2] 0 (Zb (Zf (er1 h70)))))
 have h71:=Yd h66
 obtain ⟨rfl,n73⟩:=o69
 refine ZR (Zk ?_)
 obtain rfl:=Option.some.inj h71
 exact n73
theorem GI (a0:Zi) (a1:ByteArray) (r:Int) (h:M.Qj a0 a1=some r):Fn Tryz.prog 224 [.agg (Zs a0),.str a1] (.pure (.int .i64 r)):=by
 unfold M.Qj at h
 refine ZC Tryz.func224 rfl (by kernel_rfl) (Za (zg [1,2] 1 (Zb (Za (Za (zg [1,2,5] 1 (Zb (Zg ?_))))))))
 obtain ⟨y3,q10,h11⟩:=bind_some h
 refine zl (fun (p1:Int)=>⟨22,[(1,.str a1),(2,.ref 0 0),(5,.int .i64 p1)],[.box (Zs a0)]⟩) (Sum.elim (fun z=>OutE 0 (fun z=>⟨22,[],[]⟩) z) (fun z=>OutR Tryz.prog Tryz.f224 (.int .i64 z))) q10 ?_ ?_
 intro p1 y2 h1
 unfold M.QZ at h1
 refine Za (Za (zg [1,2,5,10] 1 (Zb (cn h1 (fun _ h3=>?_) (fun _ h4=>?_)))))
 refine Zd (Zb (Za (Zg (Za ?_))))
 obtain ⟨c5,h6⟩:=Zo h3
 refine zc [1,2,5,20] 1 c5 (Zb (cn h6 (fun _ h8=>?_) (fun _ h9=>?_)))
 exact Za (zg [4] 0 (Zb (Zf (ZR (Zk (rr h8 ⟨rfl,er0 _⟩))))))
 exact Zd (XA (Zb (zg [1,2,5] 1 (rn h9))))
 exact ZD (Xc (re h4 ⟨rfl,kc⟩))
 intro e12 s13 o14
 rcases y3 with g4 | y5
 have h15:=Yc h11
 exact zi o14 (Za (zg [4] 0 (Zb (Zf (er1 h15)))))
 have h16:=Yd h11
 obtain ⟨rfl,n18⟩:=o14
 refine ZR (Zk ?_)
 obtain rfl:=Option.some.inj h16
 exact n18
theorem ZdZ (a0:Zi) (r:Int) (h:M.JB a0=some r):Fn Tryz.prog 164 [.agg (Zs a0)] (.pure (.int .i64 r)):=by
 let u1:Nat × D:=(3,sL 2 ZX a0.XP)
 let u2:List Ob:=[.box (Zs a0)]
 unfold M.JB at h
 refine ZC Tryz.func164 rfl (by kernel_rfl) (Za (zg [1] 1 (Zb (Za (zg [1,3] 1 (Zb (Za (Za (zg [1,3,12] 1 (Zb (cn h (fun _ h2=>?_) (fun _ h3=>?_))))))))))))
 exact Za (zg [2] 0 (Zb (Zf (Zk (er1 h2)))))
 refine Zd (Zb (Za (Za (zg [1,3,4] 1 (Zb (Zg ?_))))))
 obtain ⟨y20,q78,h79⟩:=bind_some h3
 refine zl (fun (p1:Int)=>⟨112,[(1,.ref 0 0),u1,(4,.int .i64 p1)],u2⟩) (Sum.elim (fun z=>OutE 0 (fun z=>⟨112,[],[]⟩) z) (fun z=>OutR Tryz.prog Tryz.f164 (.int .i64 z))) q78 ?_ ?_
 intro p1 y2 h4
 unfold M.Jn at h4
 refine Za (Za (zg [1,3,4,16] 1 (Zb (cn h4 (fun _ h6=>?_) (fun _ h7=>?_)))))
 refine Zd (Zb (Za (Zg (Za (Za ?_)))))
 obtain ⟨r3,q8,h9⟩:=bind_some h6
 obtain ⟨c10,h11⟩:=Zo h9
 refine zr [1,3,4,25] 1 c10 (rq1 (G9 _ _ q8) rqn) (Zb (cn h11 (fun _ h13=>?_) (fun _ h14=>?_)))
 exact Za (zg [2] 0 (Zb (Zf (Zk (ZR (Zk (rr h13 ⟨rfl,er0 _⟩)))))))
 refine Zd (Zb (Za (Za (zg [1,3,4,5] 1 (Zb (Zg ?_))))))
 obtain ⟨y6,q24,h25⟩:=bind_some h14
 refine zl (fun (p4:Int)=>⟨112,[(1,.ref 0 0),u1,(4,.int .i64 p1),(5,.int .i64 p4)],u2⟩) (Sum.elim (fun z=>OutE 2 (fun z=>⟨112,[(1,.ref 0 0),u1,(4,.int .i64 p1)],u2⟩) z) (fun z=>OutR Tryz.prog Tryz.f164 (.int .i64 z))) q24 ?_ ?_
 intro p4 y5 h15
 unfold M.Jl at h15
 refine Za (Za (zg [1,3,4,5,28] 1 (Zb (cn h15 (fun _ h17=>?_) (fun _ h18=>?_)))))
 refine Zd (Zb (Za (Zg (Za ?_))))
 obtain ⟨c19,h20⟩:=Zo h17
 refine zc [1,3,4,5,41] 1 c19 (Zb (cn h20 (fun _ h22=>?_) (fun _ h23=>?_)))
 exact Za (zg [2] 0 (Zb (Zf (ZR (Zk (rr h22 ⟨rfl,er0 _⟩))))))
 exact Zd (XA (Zb (zg [1,3,4,5] 1 (rn h23))))
 exact ZD (Xc (re h18 ⟨rfl,kq⟩))
 intro e26 s27 o28
 rcases y6 with g7 | y8
 have h29:=Yc h25
 refine zi o28 (Za (Za ?_))
 obtain ⟨c32,h33⟩:=Zo h29
 refine zc [1,3,4,48] 1 c32 (Zb (cn h33 (fun _ h35=>?_) (fun _ h36=>?_)))
 exact Za (zg [2] 0 (Zb (Zf (Zk (ZR (Zk (rr h35 ⟨rfl,er0 _⟩)))))))
 refine Zd (Zb (Za (Za ?_)))
 obtain ⟨c37,h38⟩:=Zo h36
 refine zc [1,3,4,55] 1 c37 (Zb (cn h38 (fun _ h40=>?_) (fun _ h41=>?_)))
 exact Za (zg [2] 0 (Zb (Zf (Zk (ZR (Zk (rr h40 ⟨rfl,er0 _⟩)))))))
 refine Zd (Zb (Za (zg [1,3,4,6] 1 (Zb (Zg ?_)))))
 obtain ⟨y17,q68,h69⟩:=bind_some h41
 refine zl (fun (p9:Int)=>⟨112,[(1,.ref 0 0),u1,(4,.int .i64 p1),(6,.int .i64 p9)],u2⟩) (Sum.elim (fun z=>OutE 4 (fun z=>⟨112,[(1,.ref 0 0),u1,(4,.int .i64 p1)],u2⟩) z) (fun z=>OutR Tryz.prog Tryz.f164 (.int .i64 z))) q68 ?_ ?_
 intro p9 y10 h42
 unfold M.Jm at h42
 refine Za (Za ?_)
 obtain ⟨c43,h44⟩:=Zo h42
 refine zc [1,3,4,6,63] 1 c43 (Zb (cn h44 (fun _ h46=>?_) (fun _ h47=>?_)))
 refine Zd (Zb (Za (Zg (Za ?_))))
 obtain ⟨c48,h49⟩:=Zo h46
 refine zc [1,3,4,6,7] 2 c48 (Zb (Za (Za ?_)))
 obtain ⟨r11,q50,h51⟩:=bind_some h49
 refine zr [1,3,4,6,7,83] 2 Zt (rq2 (fun hg=>GI _ _ _ (Xg q50 hg)) rqn) (Zb (cn h51 (fun _ h53=>?_) (fun _ h54=>?_)))
 exact Za (zg [2] 0 (Zb (Zf (Zk (ZR (Zk (rr h53 ⟨rfl,er0 _⟩)))))))
 refine Zd (Zb (Za ?_))
 obtain ⟨r12,q55,h56⟩:=bind_some h54
 obtain ⟨r13,q57,h58⟩:=bind_some h56
 obtain ⟨r14,q59,h60⟩:=bind_some h58
 obtain ⟨r15,q61,h62⟩:=bind_some h60
 obtain ⟨r16,q63,h64⟩:=bind_some h62
 refine zr [1,3,4,6,111] 1 Zt (rq1 (XZ _ _ _ _ q55) (rq2 (fun hg=>XZ _ _ _ _ (Xg q57 hg)) (rq2 (fun hg=>XZ _ _ _ _ (Xg q59 hg)) (rq2 (fun hg=>XZ _ _ _ _ (Xg q61 hg)) (rq2 (fun hg=>XZ _ _ _ _ (Xg q63 hg)) rqn))))) (Zb (cn h64 (fun _ h66=>?_) (fun _ h67=>?_)))
 exact Za (zg [2] 0 (Zb (Zf (ZR (Zk (rr h66 ⟨rfl,er0 _⟩))))))
 exact Zd (XA (Zb (zg [1,3,4,6] 1 (rn h67))))
 exact ZD (Xc (re h47 ⟨rfl,kq⟩))
 intro e70 s71 o72
 rcases y17 with g18 | y19
 have h73:=Yc h69
 obtain ⟨rfl,l75⟩:=o72
 exact Qg (XA (ZZ (s':=⟨112,[(1,.ref 0 0),u1,(4,.int .i64 p1)],u2⟩) (l75) (zg [1,3,4] 1 (rn h73))))
 have h74:=Yd h69
 obtain ⟨rfl,n76⟩:=o72
 exact ZR (ZR (Zk (rr h74 ⟨rfl,n76⟩)))
 have h30:=Yd h25
 obtain ⟨rfl,n77⟩:=o28
 exact ZR (Zk (ZR (Zk (rr h30 ⟨rfl,n77⟩))))
 exact ZD (Xc (re h7 ⟨rfl,kc⟩))
 intro e80 s81 o82
 rcases y20 with g21 | y22
 have h83:=Yc h79
 exact zi o82 (Za (zg [2] 0 (Zb (Zf (er1 h83)))))
 have h84:=Yd h79
 obtain ⟨rfl,n86⟩:=o82
 refine ZR (Zk ?_)
 obtain rfl:=Option.some.inj h84
 exact n86
theorem ZcA (a0:WA) (r:Bool) (h:M.WT a0=some r):Fn Tryz.prog 259 [.agg (Zaf a0)] (.pure (.bool r)):=by
 unfold M.WT at h
 exact ZC Tryz.func259 rfl (by kernel_rfl) (Za (zg [1] 1 (Zb (Za (zg [2] 0 (Zb (Zf (er1 h))))))))
theorem Zfa (a0:WA) (r:Bool) (h:M.Gd a0=some r):Fn Tryz.prog 260 [.agg (Zaf a0)] (.pure (.bool r)):=by
 unfold M.Gd at h
 exact ZC Tryz.func260 rfl (by kernel_rfl) (Za (zg [1] 1 (Zb (Za (zg [2] 0 (Zb (Zf (er1 h))))))))
theorem Zd0 (a0:Zgu) (r:Bool) (h:M.VP a0=some r):Fn Tryz.prog 225 [.agg (Zh1 a0)] (.pure (.bool r)):=by
 unfold M.VP at h
 refine ZC Tryz.func225 rfl (by kernel_rfl) (Za (zg [1] 1 (Zb (Za (Za ?_)))))
 obtain ⟨r1,q1,h2⟩:=bind_some h
 obtain ⟨r2,q3,h4⟩:=bind_some h2
 obtain ⟨r3,q5,h6⟩:=bind_some h4
 refine zr [1,38] 1 Zt (rq1 (XZ _ _ _ _ q1) (rq2 (fun hg=>ZcA _ _ (Xg q3 hg)) (rq2 (fun hg=>ZcA _ _ (Xg q5 hg)) rqn))) (Zb (cn h6 (fun _ h8=>?_) (fun _ h9=>?_)))
 exact Za (zg [2] 0 (Zb (Zf (Zk (er1 h8)))))
 refine Zd (Zb (Za ?_))
 obtain ⟨r4,q10,h11⟩:=bind_some h9
 obtain ⟨r5,q12,h13⟩:=bind_some h11
 exact zr [2] 0 Zt (rq2 (fun hg=>Zfa _ _ (Xg q10 hg)) (rq2 (fun hg=>Zfa _ _ (Xg q12 hg)) rqn)) (Zb (Zf (er1 h13)))
theorem Zch (a0:List U6) (r:Int) (h:M.QQ a0=some r):Fn Tryz.prog 165 [sL 2 YU a0] (.pure (.int .i64 r)):=by
 let u1:Nat × D:=(0,sL 2 YU a0)
 unfold M.QQ at h
 refine ZC Tryz.func165 rfl (by kernel_rfl) (Za (zg [0] 0 (Zb (Za (Za (zg [0,8] 0 (Zb (cn h (fun _ h2=>?_) (fun _ h3=>?_)))))))))
 exact Za (zg [2] 0 (Zb (Zf (Zk (er1 h2)))))
 refine Zd (Zb (Za (Za (zg [0,3] 0 (Zb (Zg ?_))))))
 obtain ⟨y15,q65,h66⟩:=bind_some h3
 refine zl (fun (p1:Int)=>⟨72,[u1,(3,.int .i64 p1)],[]⟩) (Sum.elim (fun z=>OutE 0 (fun z=>⟨72,[],[]⟩) z) (fun z=>OutR Tryz.prog Tryz.f165 (.int .i64 z))) q65 ?_ ?_
 intro p1 y2 h4
 unfold M.QM at h4
 refine Za (Za (zg [0,3,12] 0 (Zb (cn h4 (fun _ h6=>?_) (fun _ h7=>?_)))))
 refine Zd (Zb (Za (Zg (Za (Za ?_)))))
 obtain ⟨r3,q8,h9⟩:=bind_some h6
 obtain ⟨c10,h11⟩:=Zo h9
 refine zr [0,3,21] 0 c10 (rq1 (G9 _ _ q8) rqn) (Zb (cn h11 (fun _ h13=>?_) (fun _ h14=>?_)))
 exact Za (zg [2] 0 (Zb (Zf (Zk (ZR (Zk (rr h13 ⟨rfl,er0 _⟩)))))))
 refine Zd (Zb (Za (Za (zg [0,3,4] 0 (Zb (Zg ?_))))))
 obtain ⟨y6,q24,h25⟩:=bind_some h14
 refine zl (fun (p4:Int)=>⟨72,[u1,(3,.int .i64 p1),(4,.int .i64 p4)],[]⟩) (Sum.elim (fun z=>OutE 2 (fun z=>⟨72,[u1,(3,.int .i64 p1)],[]⟩) z) (fun z=>OutR Tryz.prog Tryz.f165 (.int .i64 z))) q24 ?_ ?_
 intro p4 y5 h15
 unfold M.QJ at h15
 refine Za (Za (zg [0,3,4,24] 0 (Zb (cn h15 (fun _ h17=>?_) (fun _ h18=>?_)))))
 refine Zd (Zb (Za (Zg (Za ?_))))
 obtain ⟨c19,h20⟩:=Zo h17
 refine zc [0,3,4,37] 0 c19 (Zb (cn h20 (fun _ h22=>?_) (fun _ h23=>?_)))
 exact Za (zg [2] 0 (Zb (Zf (ZR (Zk (rr h22 ⟨rfl,er0 _⟩))))))
 exact Zd (XA (Zb (zg [0,3,4] 0 (rn h23))))
 exact ZD (Xc (re h18 ⟨rfl,kq⟩))
 intro e26 s27 o28
 rcases y6 with g7 | y8
 have h29:=Yc h25
 refine zi o28 (Za (Za ?_))
 obtain ⟨c32,h33⟩:=Zo h29
 refine zc [0,3,44] 0 c32 (Zb (cn h33 (fun _ h35=>?_) (fun _ h36=>?_)))
 exact Za (zg [2] 0 (Zb (Zf (Zk (ZR (Zk (rr h35 ⟨rfl,er0 _⟩)))))))
 refine Zd (Zb (Za (Za ?_)))
 obtain ⟨c37,h38⟩:=Zo h36
 refine zc [0,3,51] 0 c37 (Zb (cn h38 (fun _ h40=>?_) (fun _ h41=>?_)))
 exact Za (zg [2] 0 (Zb (Zf (Zk (ZR (Zk (rr h40 ⟨rfl,er0 _⟩)))))))
 refine Zd (Zb (Za (zg [0,3,5] 0 (Zb (Zg ?_)))))
 obtain ⟨y12,q55,h56⟩:=bind_some h41
 refine zl (fun (p9:Int)=>⟨72,[u1,(3,.int .i64 p1),(5,.int .i64 p9)],[]⟩) (Sum.elim (fun z=>OutE 4 (fun z=>⟨72,[u1,(3,.int .i64 p1)],[]⟩) z) (fun z=>OutR Tryz.prog Tryz.f165 (.int .i64 z))) q55 ?_ ?_
 intro p9 y10 h42
 unfold M.QL at h42
 refine Za (Za ?_)
 obtain ⟨c43,h44⟩:=Zo h42
 refine zc [0,3,5,59] 0 c43 (Zb (cn h44 (fun _ h46=>?_) (fun _ h47=>?_)))
 refine Zd (Zb (Za (Zg (Za ?_))))
 obtain ⟨r11,q48,h49⟩:=bind_some h46
 obtain ⟨c50,h51⟩:=Zo h49
 refine zr [0,3,5,71] 0 c50 (rq1 (Zd0 _ _ q48) rqn) (Zb (cn h51 (fun _ h53=>?_) (fun _ h54=>?_)))
 exact Za (zg [2] 0 (Zb (Zf (ZR (Zk (rr h53 ⟨rfl,er0 _⟩))))))
 exact Zd (XA (Zb (zg [0,3,5] 0 (rn h54))))
 exact ZD (Xc (re h47 ⟨rfl,kq⟩))
 intro e57 s58 o59
 rcases y12 with g13 | y14
 have h60:=Yc h56
 obtain ⟨rfl,l62⟩:=o59
 exact Qg (XA (ZZ (s':=⟨72,[u1,(3,.int .i64 p1)],[]⟩) (l62) (zg [0,3] 0 (rn h60))))
 have h61:=Yd h56
 obtain ⟨rfl,n63⟩:=o59
 exact ZR (ZR (Zk (rr h61 ⟨rfl,n63⟩)))
 have h30:=Yd h25
 obtain ⟨rfl,n64⟩:=o28
 exact ZR (Zk (ZR (Zk (rr h30 ⟨rfl,n64⟩))))
 exact ZD (Xc (re h7 ⟨rfl,kq⟩))
 intro e67 s68 o69
 rcases y15 with g16 | y17
 have h70:=Yc h66
 exact zi o69 (Za (zg [2] 0 (Zb (Zf (er1 h70)))))
 have h71:=Yd h66
 obtain ⟨rfl,n73⟩:=o69
 refine ZR (Zk ?_)
 obtain rfl:=Option.some.inj h71
 exact n73
theorem Zbx (a0:Zi) (a1:ByteArray) (r:Int) (h:M.Ux a0 a1=some r):Fn Tryz.prog 226 [.agg (Zs a0),.str a1] (.pure (.int .i64 r)):=by
 unfold M.Ux at h
 refine ZC Tryz.func226 rfl (by kernel_rfl) (Za (zg [1,2] 1 (Zb (Za (Za (zg [1,2,5] 1 (Zb (Zg ?_))))))))
 obtain ⟨y3,q10,h11⟩:=bind_some h
 refine zl (fun (p1:Int)=>⟨22,[(1,.str a1),(2,.ref 0 0),(5,.int .i64 p1)],[.box (Zs a0)]⟩) (Sum.elim (fun z=>OutE 0 (fun z=>⟨22,[],[]⟩) z) (fun z=>OutR Tryz.prog Tryz.f226 (.int .i64 z))) q10 ?_ ?_
 intro p1 y2 h1
 unfold M.Ub at h1
 refine Za (Za (zg [1,2,5,10] 1 (Zb (cn h1 (fun _ h3=>?_) (fun _ h4=>?_)))))
 refine Zd (Zb (Za (Zg (Za ?_))))
 obtain ⟨c5,h6⟩:=Zo h3
 refine zc [1,2,5,20] 1 c5 (Zb (cn h6 (fun _ h8=>?_) (fun _ h9=>?_)))
 exact Za (zg [4] 0 (Zb (Zf (ZR (Zk (rr h8 ⟨rfl,er0 _⟩))))))
 exact Zd (XA (Zb (zg [1,2,5] 1 (rn h9))))
 exact ZD (Xc (re h4 ⟨rfl,kc⟩))
 intro e12 s13 o14
 rcases y3 with g4 | y5
 have h15:=Yc h11
 exact zi o14 (Za (zg [4] 0 (Zb (Zf (er1 h15)))))
 have h16:=Yd h11
 obtain ⟨rfl,n18⟩:=o14
 refine ZR (Zk ?_)
 obtain rfl:=Option.some.inj h16
 exact n18
theorem Zby (a0:Zi) (r:Int) (h:M.Qn a0=some r):Fn Tryz.prog 166 [.agg (Zs a0)] (.pure (.int .i64 r)):=by
 unfold M.Qn at h
 refine ZC Tryz.func166 rfl (by kernel_rfl) (Za (zg [1] 1 (Zb (Za (Za (zg [1,9] 1 (Zb (cn h (fun _ h2=>?_) (fun _ h3=>?_)))))))))
 exact Za (zg [2] 0 (Zb (Zf (Zk (er1 h2)))))
 refine Zd (Zb (Za (Za (zg [1,3] 1 (Zb (Zg ?_))))))
 obtain ⟨y7,q33,h34⟩:=bind_some h3
 refine zl (fun (p1:Int)=>⟨135,[(1,.ref 0 0),(3,.int .i64 p1)],[.box (Zs a0)]⟩) (Sum.elim (fun z=>OutE 0 (fun z=>⟨135,[],[]⟩) z) (fun z=>OutR Tryz.prog Tryz.f166 (.int .i64 z))) q33 ?_ ?_
 intro p1 y2 h4
 let u1:=a0.Xf.getD p1.toNat default
 let u2:=((u1.Vi) != 0)&&((u1.Q3) != 0)
 let u3:List Ob:=[.box (Zs a0),.box (Z2 u1)]
 unfold M.Qm at h4
 refine Za (Za (zg [1,3,14] 1 (Zb (cn h4 (fun _ h6=>?_) (fun _ h7=>?_)))))
 refine Zd (Zb (Za (Zg (Za ?_))))
 obtain ⟨c8,h9⟩:=Zo h6
 refine zc [1,3,4] 2 c8 (Zb (Za (rg0 [1,3,4,5] 2 ⟨135,[(1,.ref 0 0),(3,.int .i64 p1),(4,.ref 1 0),(5,.bool false)],u3⟩ (Zb (Jz (fun (p3:Bool)=>⟨135,[(1,.ref 0 0),(3,.int .i64 p1),(4,.ref 1 0),(5,.bool p3)],u3⟩) (fun p3=>M.X3 a0 p1 p3=some y2) ?_ ?_)))))
 intro p3 h11
 unfold M.X3 at h11
 refine Za (Za (zg [1,3,4,124] 2 (Zb (cn h11 (fun _ h13=>?_) (fun _ h14=>?_)))))
 exact Za (zg [2] 0 (Zb (Zf (Zk (ZR (Zk (rr h13 ⟨rfl,er0 _⟩)))))))
 refine Zd (Zb (Za ?_))
 obtain ⟨r4,q15,h16⟩:=bind_some h14
 refine zr [1,3,134] 1 Zt (rq2 (fun hg=>Zbx _ _ _ (Xg q15 hg)) rqn) (Zb (cn h16 (fun _ h18=>?_) (fun _ h19=>?_)))
 exact Za (zg [2] 0 (Zb (Zf (ZR (Zk (rr h18 ⟨rfl,er0 _⟩))))))
 exact Zd (XA (Zb (zg [1,3] 1 (rn h19))))
 intro k10
 refine Za (zg [1,3,4,5,23] 2 (Zb (Zg (Za (zg [1,3,4,5,23,24] 2 (Zb (cn h9 (fun _ h21=>?_) (fun _ h22=>?_))))))))
 exact zg [1,3,4,5] 2 (XA (ZZ lk (k10 (u2&&(((u1.Up)==(u1.Up))&&(((u1.Vi)==(u1.Vi))&&(((u1.Q3)==(u1.Q3))&&(((u1.XR)==0)&&(((u1.VA)==0)&&(((u1.JY)==0)&&(strEq (u1.VO) (⟨#[]⟩:ByteArray)&&(((u1.RJ)==0)&&(((u1.fHi)==0)&&true)))))))))) h21)))
 refine Za (zg [1,3,4,5,23,45] 2 (Zb (cn h22 (fun _ h24=>?_) (fun _ h25=>?_))))
 exact zg [1,3,4,5] 2 (XA (ZZ lk (k10 (((((u1.RJ) != 0)&&(decide ((u1.RJ)≤(u1.fHi))))&&(decide ((wr .u32 ((u1.fHi) - (u1.RJ))) < 8)))&&(((u1.Up)==(u1.Up))&&(((u1.Vi)==0)&&(((u1.Q3)==0)&&(((u1.XR)==0)&&(((u1.VA)==0)&&(((u1.JY)==0)&&(strEq (u1.VO) (u1.VO)&&(((u1.RJ)==(u1.RJ))&&(((u1.fHi)==(u1.fHi))&&true)))))))))) h24)))
 refine Za (zg [1,3,4,5,78] 2 (Zb (cn h25 (fun _ h27=>?_) (fun _ h28=>?_))))
 obtain ⟨r5,q29,h30⟩:=bind_some h27
 obtain ⟨r6,q31,h32⟩:=bind_some h30
 exact zr [1,3,4,5] 2 Zt (rq2 (fun hg=>XZ _ _ _ _ (Xg q29 hg)) (rq2 (fun hg=>XZ _ _ _ _ (Xg q31 hg)) rqn)) (XA (ZZ lk (k10 ((((((u2&&(((u1.XR)==6)||((u1.XR)==17)))&&r5)&&r6)&&(strEq (u1.VO) (⟨#[]⟩:ByteArray)))&&((u1.RJ)==0))&&((u1.fHi)==0)) h32)))
 exact Zd (XA (ZZ kq (k10 false h28)))
 exact ZD (Xc (re h7 ⟨rfl,kc⟩))
 intro e35 s36 o37
 rcases y7 with g8 | y9
 have h38:=Yc h34
 exact zi o37 (Za (zg [2] 0 (Zb (Zf (er1 h38)))))
 have h39:=Yd h34
 obtain ⟨rfl,n41⟩:=o37
 refine ZR (Zk ?_)
 obtain rfl:=Option.some.inj h39
 exact n41
theorem Zfo (a0:Zi) (r:Int) (h:M.VQ a0=some r):Fn Tryz.prog 167 [.agg (Zs a0)] (.pure (.int .i64 r)):=by
 unfold M.VQ at h
 refine ZC Tryz.func167 rfl (by kernel_rfl) (Za (zg [1] 1 (Zb (Za (Za (zg [1,3] 1 (Zb (Zg ?_))))))))
 obtain ⟨y5,q14,h15⟩:=bind_some h
 refine zl (fun (p1:Int)=>⟨39,[(1,.ref 0 0),(3,.int .i64 p1)],[.box (Zs a0)]⟩) (Sum.elim (fun z=>OutE 0 (fun z=>⟨39,[],[]⟩) z) (fun z=>OutR Tryz.prog Tryz.f167 (.int .i64 z))) q14 ?_ ?_
 intro p1 y2 h1
 unfold M.Vj at h1
 refine Za (Za (zg [1,3,9] 1 (Zb (cn h1 (fun _ h3=>?_) (fun _ h4=>?_)))))
 refine Zd (Zb (Za (Zg (Za ?_))))
 obtain ⟨c5,h6⟩:=Zo h3
 refine zc [1,3,4] 2 c5 (Zb (Za ?_))
 obtain ⟨r3,q7,h8⟩:=bind_some h6
 obtain ⟨r4,q9,h10⟩:=bind_some h8
 refine zr [1,3,38] 1 Zt (rq2 (fun hg=>Zbx _ _ _ (Xg q7 hg)) (rq2 (fun hg=>Zbx _ _ _ (Xg q9 hg)) rqn)) (Zb (cn h10 (fun _ h12=>?_) (fun _ h13=>?_)))
 exact Za (zg [2] 0 (Zb (Zf (ZR (Zk (rr h12 ⟨rfl,er0 _⟩))))))
 exact Zd (XA (Zb (zg [1,3] 1 (rn h13))))
 exact ZD (Xc (re h4 ⟨rfl,kc⟩))
 intro e16 s17 o18
 rcases y5 with g6 | y7
 have h19:=Yc h15
 exact zi o18 (Za (zg [2] 0 (Zb (Zf (er1 h19)))))
 have h20:=Yd h15
 obtain ⟨rfl,n22⟩:=o18
 refine ZR (Zk ?_)
 obtain rfl:=Option.some.inj h20
 exact n22
theorem ZaH (a0:Zi) (a1:Int) (r:Int) (h:M.Vl a0 a1=some r):Fn Tryz.prog 116 [.agg (Zs a0),.int .u32 a1] (.pure (.int .i64 r)):=by
 unfold M.Vl at h
 refine ZC Tryz.func116 rfl (by kernel_rfl) (Za (zg [1,2] 1 (Zb (Za (Za (zg [1,2,5] 1 (Zb (Zg ?_))))))))
 obtain ⟨y3,q10,h11⟩:=bind_some h
 refine zl (fun (p1:Int)=>⟨31,[(1,.int .u32 a1),(2,.ref 0 0),(5,.int .i64 p1)],[.box (Zs a0)]⟩) (Sum.elim (fun z=>OutE 0 (fun z=>⟨31,[],[]⟩) z) (fun z=>OutR Tryz.prog Tryz.f116 (.int .i64 z))) q10 ?_ ?_
 intro p1 y2 h1
 unfold M.Vk at h1
 refine Za (Za (zg [1,2,5,10] 1 (Zb (cn h1 (fun _ h3=>?_) (fun _ h4=>?_)))))
 refine Zd (Zb (Za (Zg (Za ?_))))
 obtain ⟨c5,h6⟩:=Zo h3
 refine zc [1,2,5,29] 1 c5 (Zb (cn h6 (fun _ h8=>?_) (fun _ h9=>?_)))
 exact Za (zg [4] 0 (Zb (Zf (ZR (Zk (rr h8 ⟨rfl,er0 _⟩))))))
 exact Zd (XA (Zb (zg [1,2,5] 1 (rn h9))))
 exact ZD (Xc (re h4 ⟨rfl,kc⟩))
 intro e12 s13 o14
 rcases y3 with g4 | y5
 have h15:=Yc h11
 exact zi o14 (Za (zg [4] 0 (Zb (Zf (er1 h15)))))
 have h16:=Yd h11
 obtain ⟨rfl,n18⟩:=o14
 refine ZR (Zk ?_)
 obtain rfl:=Option.some.inj h16
 exact n18
theorem Zd1 (a0:Zi) (a1:ByteArray) (r:Int) (h:M.JC a0 a1=some r):Fn Tryz.prog 157 [.agg (Zs a0),.str a1] (.pure (.int .i64 r)):=by
 unfold M.JC at h
 refine ZC Tryz.func157 rfl (by kernel_rfl) (Za (zg [1,2] 1 (Zb (Za (Za (zg [1,2,5] 1 (Zb (Zg ?_))))))))
 obtain ⟨y3,q10,h11⟩:=bind_some h
 refine zl (fun (p1:Int)=>⟨22,[(1,.str a1),(2,.ref 0 0),(5,.int .i64 p1)],[.box (Zs a0)]⟩) (Sum.elim (fun z=>OutE 0 (fun z=>⟨22,[],[]⟩) z) (fun z=>OutR Tryz.prog Tryz.f157 (.int .i64 z))) q10 ?_ ?_
 intro p1 y2 h1
 unfold M.QS at h1
 refine Za (Za (zg [1,2,5,10] 1 (Zb (cn h1 (fun _ h3=>?_) (fun _ h4=>?_)))))
 refine Zd (Zb (Za (Zg (Za ?_))))
 obtain ⟨c5,h6⟩:=Zo h3
 refine zc [1,2,5,20] 1 c5 (Zb (cn h6 (fun _ h8=>?_) (fun _ h9=>?_)))
 exact Za (zg [4] 0 (Zb (Zf (ZR (Zk (rr h8 ⟨rfl,er0 _⟩))))))
 exact Zd (XA (Zb (zg [1,2,5] 1 (rn h9))))
 exact ZD (Xc (re h4 ⟨rfl,kc⟩))
 intro e12 s13 o14
 rcases y3 with g4 | y5
 have h15:=Yc h11
 exact zi o14 (Za (zg [4] 0 (Zb (Zf (er1 h15)))))
 have h16:=Yd h11
 obtain ⟨rfl,n18⟩:=o14
 refine ZR (Zk ?_)
 obtain rfl:=Option.some.inj h16
 exact n18
theorem Zfp (a0:Zi) (r:Int) (h:M.VR a0=some r):Fn Tryz.prog 168 [.agg (Zs a0)] (.pure (.int .i64 r)):=by
 let u4:=Zs a0
 unfold M.VR at h
 refine ZC Tryz.func168 rfl (by kernel_rfl) (Za (zg [1] 1 (Zb (Za (Za (zg [1,11] 1 (Zb (cn h (fun _ h2=>?_) (fun _ h3=>?_)))))))))
 exact Za (zg [2] 0 (Zb (Zf (Zk (er1 h2)))))
 refine Zd (Zb (Za (Za (zg [1,3] 1 (Zb (Zg ?_))))))
 obtain ⟨y17,q69,h70⟩:=bind_some h3
 refine zl (fun (p1:Int)=>⟨111,[(1,.ref 0 0),(3,.int .i64 p1)],[.box u4]⟩) (Sum.elim (fun z=>OutE 0 (fun z=>⟨111,[],[]⟩) z) (fun z=>OutR Tryz.prog Tryz.f168 (.int .i64 z))) q69 ?_ ?_
 intro p1 y2 h4
 let u1:=a0.Zq.getD p1.toNat default
 let u2:List Ob:=[.box u4,.box (ZU u1)]
 unfold M.Vn at h4
 refine Za (Za (zg [1,3,16] 1 (Zb (cn h4 (fun _ h6=>?_) (fun _ h7=>?_)))))
 refine Zd (Zb (Za (Zg (Za ?_))))
 obtain ⟨c8,h9⟩:=Zo h6
 refine zc [1,3,4] 2 c8 (Zb (Za (rg0 [1,3,4,5] 2 ⟨111,[(1,.ref 0 0),(3,.int .i64 p1),(4,.ref 1 0),(5,.int .i64 0)],u2⟩ (Zb (Jz (fun (p3:Int)=>⟨111,[(1,.ref 0 0),(3,.int .i64 p1),(4,.ref 1 0),(5,.int .i64 p3)],u2⟩) (fun p3=>M.Q7 a0 p1 p3=some y2) ?_ ?_)))))
 intro p3 h11
 unfold M.Q7 at h11
 refine Jz (fun (p4:Int)=>⟨111,[(1,.ref 0 0),(3,.int .i64 p1),(4,.ref 1 0),(5,.int .i64 p4)],u2⟩) (fun p4=>M.Q6 a0 p1 p4=some y2) ?_ ?_
 intro p4 h13
 unfold M.Q6 at h13
 refine Jz (fun (p5:Int)=>⟨111,[(1,.ref 0 0),(3,.int .i64 p1),(4,.ref 1 0),(5,.int .i64 p5)],u2⟩) (fun p5=>M.Q5 a0 p1 p5=some y2) ?_ ?_
 intro p5 h15
 unfold M.Q5 at h15
 refine Za (Za ?_)
 obtain ⟨r6,q16,h17⟩:=bind_some h15
 obtain ⟨r7,q18,h19⟩:=bind_some h17
 let u3:=((!r6)||(p5 != 1))||(((u1.YF) != 0)&&(decide (r7 ≥ 0)))
 obtain ⟨r8,q20,h21⟩:=bind_some h19
 obtain ⟨r9,q22,h23⟩:=bind_some h21
 refine rg [.pure (.bool r6),.pure (.int .i64 r7),.pure (.bool r8),.pure (.bool r9)] [1,3,4,69] 2 ⟨111,[(1,.ref 0 0),(3,.int .i64 p1),(4,.ref 1 0),(69,.bool ((u3||(!r8))||(!r9)))],u2⟩ [] [⟨true,44,[.agg (Xd (u1.Zh))],.pure (.bool r6)⟩,⟨((!((!r6)||(p5 != 1)))&&((u1.YF) != 0)),116,[.agg u4,.int .u32 (u1.YF)],.pure (.int .i64 r7)⟩,⟨(!u3),161,[.int .i64 (u1.Z5),.int .i64 1,.int .i64 255],.pure (.bool r8)⟩,⟨(!(u3||(!r8))),161,[.int .i64 (u1.UP),.int .i64 0,.int .i64 65535],.pure (.bool r9)⟩] Zt ⟨fun _=>WP (u1.Zh) r6 q16,fun hg=>ZaH a0 (u1.YF) r7 (Xg q18 hg),fun hg=>XZ (u1.Z5) 1 255 r8 (Xg q20 hg),fun hg=>XZ (u1.UP) 0 65535 r9 (Xg q22 hg),trivial⟩ (Zb (cn h23 (fun _ h25=>?_) (fun _ h26=>?_)))
 exact Za (zg [2] 0 (Zb (Zf (Zk (ZR (Zk (rr h25 ⟨rfl,er0 _⟩)))))))
 refine Zd (Zb (Jz (fun (p10:Unit)=>⟨111,[(1,.ref 0 0),(3,.int .i64 p1),(4,.ref 1 0)],u2⟩) (fun p10=>M.Q4 a0 p1 p10=some y2) ?_ ?_))
 intro p10 h28
 unfold M.Q4 at h28
 refine Za (zg [1,3,4,7] 2 (Zb (Zg ?_)))
 obtain ⟨y13,q38,h39⟩:=bind_some h28
 refine zl (fun (p11:Int)=>⟨111,[(1,.ref 0 0),(3,.int .i64 p1),(4,.ref 1 0),(7,.int .i64 p11)],u2⟩) (Sum.elim (fun z=>OutE 2 (fun z=>⟨111,[(1,.ref 0 0),(3,.int .i64 p1)],[.box u4]⟩) z) (fun z=>OutR Tryz.prog Tryz.f168 (.int .i64 z))) q38 ?_ ?_
 intro p11 y12 h29
 unfold M.Vm at h29
 refine Za (Za (zg [1,3,4,7,88] 2 (Zb (cn h29 (fun _ h31=>?_) (fun _ h32=>?_)))))
 refine Zd (Zb (Za (Zg (Za ?_))))
 obtain ⟨c33,h34⟩:=Zo h31
 refine zc [1,3,4,7,110] 2 c33 (Zb (cn h34 (fun _ h36=>?_) (fun _ h37=>?_)))
 exact Za (zg [2] 0 (Zb (Zf (ZR (Zk (rr h36 ⟨rfl,er0 _⟩))))))
 exact Zd (XA (Zb (zg [1,3,4,7] 2 (rn h37))))
 exact ZD (Xc (re h32 ⟨rfl,kc⟩))
 intro e40 s41 o42
 rcases y13 with g14 | y15
 have h43:=Yc h39
 obtain ⟨rfl,l45⟩:=o42
 exact Qg (XA (ZZ (s':=⟨111,[(1,.ref 0 0),(3,.int .i64 p1)],[.box u4]⟩) (l45) (zg [1,3] 1 (rn h43))))
 have h44:=Yd h39
 obtain ⟨rfl,n46⟩:=o42
 exact ZR (ZR (Zk (rr h44 ⟨rfl,n46⟩)))
 intro k27
 refine Za (zg [1,3,4,72] 2 (Zb (cn h26 (fun _ h48=>?_) (fun _ h49=>?_))))
 refine Za ?_
 obtain ⟨r16,q50,h51⟩:=bind_some h48
 refine zr [1,3,4,6] 2 Zt (rq1 (Zd1 _ _ _ q50) rqn) (Zb (Za (Za (zg [1,3,4,6,78] 2 (Zb (cn h51 (fun _ h53=>?_) (fun _ h54=>?_)))))))
 exact Za (zg [2] 0 (Zb (Zf (Zk (Zk (ZR (Zk (rr h53 ⟨rfl,er0 _⟩))))))))
 refine Zd (Zb (Za ?_))
 obtain ⟨c55,h56⟩:=Zo h54
 refine zc [1,3,4,85] 2 c55 (Zb (cn h56 (fun _ h58=>?_) (fun _ h59=>?_)))
 exact Za (zg [2] 0 (Zb (Zf (Zk (ZR (Zk (rr h58 ⟨rfl,er0 _⟩)))))))
 exact Zd (ZZ kq (k27 () h59))
 exact Zd (ZZ kq (k27 () h49))
 intro k14
 refine Za (zg [1,3,4,5,35] 2 (Zb (cn h13 (fun _ h61=>?_) (fun _ h62=>?_))))
 exact zg [1,3,4,5] 2 (ZZ lk (k14 (wr .i64 (p4+1)) h61))
 exact Zd (ZZ kq (k14 p4 h62))
 intro k12
 refine Za (zg [1,3,4,5,31] 2 (Zb (cn h11 (fun _ h64=>?_) (fun _ h65=>?_))))
 exact zg [1,3,4,5] 2 (ZZ lk (k12 (wr .i64 (p3+1)) h64))
 exact Zd (ZZ kq (k12 p3 h65))
 intro k10
 refine Za (zg [1,3,4,5,26] 2 (Zb (cn h9 (fun _ h67=>?_) (fun _ h68=>?_))))
 exact zg [1,3,4,5] 2 (ZZ lk (k10 1 h67))
 exact Zd (ZZ kq (k10 0 h68))
 exact ZD (Xc (re h7 ⟨rfl,kc⟩))
 intro e71 s72 o73
 rcases y17 with g18 | y19
 have h74:=Yc h70
 exact zi o73 (Za (zg [2] 0 (Zb (Zf (er1 h74)))))
 have h75:=Yd h70
 obtain ⟨rfl,n77⟩:=o73
 refine ZR (Zk ?_)
 obtain rfl:=Option.some.inj h75
 exact n77
theorem Kn (a0:Zi) (a1:ByteArray) (r:Int) (h:M.Jg a0 a1=some r):Fn Tryz.prog 143 [.agg (Zs a0),.str a1] (.pure (.int .i64 r)):=by
 unfold M.Jg at h
 refine ZC Tryz.func143 rfl (by kernel_rfl) (Za (zg [1,2] 1 (Zb (Za (Za (zg [1,2,5] 1 (Zb (Zg ?_))))))))
 obtain ⟨y3,q10,h11⟩:=bind_some h
 refine zl (fun (p1:Int)=>⟨22,[(1,.str a1),(2,.ref 0 0),(5,.int .i64 p1)],[.box (Zs a0)]⟩) (Sum.elim (fun z=>OutE 0 (fun z=>⟨22,[],[]⟩) z) (fun z=>OutR Tryz.prog Tryz.f143 (.int .i64 z))) q10 ?_ ?_
 intro p1 y2 h1
 unfold M.J2 at h1
 refine Za (Za (zg [1,2,5,10] 1 (Zb (cn h1 (fun _ h3=>?_) (fun _ h4=>?_)))))
 refine Zd (Zb (Za (Zg (Za ?_))))
 obtain ⟨c5,h6⟩:=Zo h3
 refine zc [1,2,5,20] 1 c5 (Zb (cn h6 (fun _ h8=>?_) (fun _ h9=>?_)))
 exact Za (zg [4] 0 (Zb (Zf (ZR (Zk (rr h8 ⟨rfl,er0 _⟩))))))
 exact Zd (XA (Zb (zg [1,2,5] 1 (rn h9))))
 exact ZD (Xc (re h4 ⟨rfl,kc⟩))
 intro e12 s13 o14
 rcases y3 with g4 | y5
 have h15:=Yc h11
 exact zi o14 (Za (zg [4] 0 (Zb (Zf (er1 h15)))))
 have h16:=Yd h11
 obtain ⟨rfl,n18⟩:=o14
 refine ZR (Zk ?_)
 obtain rfl:=Option.some.inj h16
 exact n18
theorem UI (a0:Zi) (a1:List QB) (a2:Int) (a3:Int) (a4:Int) (r:Int) (h:M.Yk a0 a1 a2 a3 a4=some r):Fn Tryz.prog 227 [.agg (Zs a0),sL 5 ZB a1,.int .i64 a2,.int .i64 a3,.int .i64 a4] (.pure (.int .i64 r)):=by
 let u1:Nat × D:=(1,sL 5 ZB a1)
 let u2:=Zs a0
 unfold M.Yk at h
 refine ZC Tryz.func227 rfl (by kernel_rfl) (Za (zg [1,2,3,4,5] 1 (Zb (Za (Za (zg [1,2,3,4,5,16] 1 (Zb (cn h (fun _ h2=>?_) (fun _ h3=>?_)))))))))
 exact Za (zg [10] 0 (Zb (Zf (Zk (er1 h2)))))
 refine Zd (Zb (Za (Za (zg [1,2,3,4,5,11] 1 (Zb (Zg ?_))))))
 obtain ⟨y12,q45,h46⟩:=bind_some h3
 refine zl (fun (p1:Int)=>⟨95,[u1,(2,.int .i64 a2),(3,.int .i64 a3),(4,.int .i64 a4),(5,.ref 0 0),(11,.int .i64 p1)],[.box u2]⟩) (Sum.elim (fun z=>OutE 0 (fun z=>⟨95,[],[]⟩) z) (fun z=>OutR Tryz.prog Tryz.f227 (.int .i64 z))) q45 ?_ ?_
 intro p1 y2 h4
 unfold M.YI at h4
 refine Za (Za (zg [1,2,3,4,5,11,20] 1 (Zb (cn h4 (fun _ h6=>?_) (fun _ h7=>?_)))))
 refine Zd (Zb (Za (Zg (Za ?_))))
 obtain ⟨c8,h9⟩:=Zo h6
 refine zc [1,2,3,4,5,11,12] 2 c8 (Zb (Za (Za ?_)))
 obtain ⟨r3,q10,h11⟩:=bind_some h9
 obtain ⟨r4,q12,h13⟩:=bind_some h11
 obtain ⟨r5,q14,h15⟩:=bind_some h13
 refine zr [1,2,3,4,5,11,12,50] 2 Zt (rq1 (XZ _ _ _ _ q10) (rq2 (fun hg=>XZ _ _ _ _ (Xg q12 hg)) (rq2 (fun hg=>XZ _ _ _ _ (Xg q14 hg)) rqn))) (Zb (cn h15 (fun _ h17=>?_) (fun _ h18=>?_)))
 exact Za (zg [10] 0 (Zb (Zf (Zk (ZR (Zk (rr h17 ⟨rfl,er0 _⟩)))))))
 refine Zd (Zb (Za (Za (zg [1,2,3,4,5,11,12,71] 2 (Zb (cn h18 (fun _ h20=>?_) (fun _ h21=>?_)))))))
 exact Za (zg [10] 0 (Zb (Zf (Zk (ZR (Zk (rr h20 ⟨rfl,er0 _⟩)))))))
 refine Zd (Zb (Za (Za ?_)))
 obtain ⟨r6,q22,h23⟩:=bind_some h21
 refine zr [1,2,3,4,5,11,12,81] 2 Zt (rq2 (fun hg=>Kn _ _ _ (Xg q22 hg)) rqn) (Zb (cn h23 (fun _ h25=>?_) (fun _ h26=>?_)))
 exact Za (zg [10] 0 (Zb (Zf (Zk (ZR (Zk (rr h25 ⟨rfl,er0 _⟩)))))))
 refine Zd (Zb (Za (zg [1,2,3,4,5,11,12,13] 2 (Zb (Zg ?_)))))
 obtain ⟨y9,q36,h37⟩:=bind_some h26
 refine zl (fun (p7:Int)=>⟨95,[u1,(2,.int .i64 a2),(3,.int .i64 a3),(4,.int .i64 a4),(5,.ref 0 0),(11,.int .i64 p1),(12,.ref 1 0),(13,.int .i64 p7)],[.box u2,.box (ZB (a1.getD p1.toNat default))]⟩) (Sum.elim (fun z=>OutE 2 (fun z=>⟨95,[u1,(2,.int .i64 a2),(3,.int .i64 a3),(4,.int .i64 a4),(5,.ref 0 0),(11,.int .i64 p1)],[.box u2]⟩) z) (fun z=>OutR Tryz.prog Tryz.f227 (.int .i64 z))) q36 ?_ ?_
 intro p7 y8 h27
 unfold M.YH at h27
 refine Za (Za (zg [1,2,3,4,5,11,12,13,84] 2 (Zb (cn h27 (fun _ h29=>?_) (fun _ h30=>?_)))))
 refine Zd (Zb (Za (Zg (Za ?_))))
 obtain ⟨c31,h32⟩:=Zo h29
 refine zc [1,2,3,4,5,11,12,13,94] 2 c31 (Zb (cn h32 (fun _ h34=>?_) (fun _ h35=>?_)))
 exact Za (zg [10] 0 (Zb (Zf (ZR (Zk (rr h34 ⟨rfl,er0 _⟩))))))
 exact Zd (XA (Zb (zg [1,2,3,4,5,11,12,13] 2 (rn h35))))
 exact ZD (Xc (re h30 ⟨rfl,kc⟩))
 intro e38 s39 o40
 rcases y9 with g10 | y11
 have h41:=Yc h37
 obtain ⟨rfl,l43⟩:=o40
 exact Qg (XA (ZZ (s':=⟨95,[u1,(2,.int .i64 a2),(3,.int .i64 a3),(4,.int .i64 a4),(5,.ref 0 0),(11,.int .i64 p1)],[.box u2]⟩) (l43) (zg [1,2,3,4,5,11] 1 (rn h41))))
 have h42:=Yd h37
 obtain ⟨rfl,n44⟩:=o40
 exact ZR (ZR (Zk (rr h42 ⟨rfl,n44⟩)))
 exact ZD (Xc (re h7 ⟨rfl,kc⟩))
 intro e47 s48 o49
 rcases y12 with g13 | y14
 have h50:=Yc h46
 exact zi o49 (Za (zg [10] 0 (Zb (Zf (er1 h50)))))
 have h51:=Yd h46
 obtain ⟨rfl,n53⟩:=o49
 refine ZR (Zk ?_)
 obtain rfl:=Option.some.inj h51
 exact n53
theorem Zd2 (a0:Zi) (r:Int) (h:M.JD a0=some r):Fn Tryz.prog 169 [.agg (Zs a0)] (.pure (.int .i64 r)):=by
 let u1:List Ob:=[.box (Zs a0),.box (ZdO a0.YC)]
 unfold M.JD at h
 refine ZC Tryz.func169 rfl (by kernel_rfl) (Za (zg [1] 1 (Zb (Za (zg [1,3] 2 (Zb (Za (Za (zg [1,3,10] 2 (Zb (cn h (fun _ h2=>?_) (fun _ h3=>?_))))))))))))
 refine Za (Za (zg [25] 0 (Zb (cn h2 (fun _ h5=>?_) (fun _ h6=>?_)))))
 exact Za (zg [2] 0 (Zb (Zf (Zk (Zk (er1 h5))))))
 exact Zd (Zb (Za (zg [2] 0 (Zb (Zf (Zk (er1 h6)))))))
 refine Zd (Zb (Za (Za ?_)))
 obtain ⟨r1,q7,h8⟩:=bind_some h3
 refine zr [1,3,29] 2 Zt (rq1 (XZ _ _ _ _ q7) rqn) (Zb (cn h8 (fun _ h10=>?_) (fun _ h11=>?_)))
 exact Za (zg [2] 0 (Zb (Zf (Zk (er1 h10)))))
 refine Zd (Zb (Za (Za (zg [1,3,33] 2 (Zb (cn h11 (fun _ h13=>?_) (fun _ h14=>?_)))))))
 exact Za (zg [2] 0 (Zb (Zf (Zk (er1 h13)))))
 refine Zd (Zb (Za (Za (zg [1,3,4] 2 (Zb (Zg ?_))))))
 obtain ⟨y12,q48,h49⟩:=bind_some h14
 refine zl (fun (p2:Int)=>⟨96,[(1,.ref 0 0),(3,.ref 1 0),(4,.int .i64 p2)],u1⟩) (Sum.elim (fun z=>OutE 0 (fun z=>⟨96,[(1,.ref 0 0),(3,.ref 1 0)],u1⟩) z) (fun z=>OutR Tryz.prog Tryz.f169 (.int .i64 z))) q48 ?_ ?_
 intro p2 y3 h15
 unfold M.Jp at h15
 refine Za (Za (zg [1,3,4,38] 2 (Zb (cn h15 (fun _ h17=>?_) (fun _ h18=>?_)))))
 refine Zd (Zb (Za (Zg (Za (Za ?_)))))
 obtain ⟨r4,q19,h20⟩:=bind_some h17
 obtain ⟨r5,q21,h22⟩:=bind_some h20
 obtain ⟨c23,h24⟩:=Zo h22
 refine zr [1,3,4,58] 2 c23 (rq1 (XZ _ _ _ _ q19) (rq2 (fun hg=>WP _ _ (Xg q21 hg)) rqn)) (Zb (cn h24 (fun _ h26=>?_) (fun _ h27=>?_)))
 exact Za (zg [2] 0 (Zb (Zf (Zk (ZR (Zk (rr h26 ⟨rfl,er0 _⟩)))))))
 refine Zd (Zb (Za (zg [1,3,4,5] 2 (Zb (Zg ?_)))))
 obtain ⟨y9,q39,h40⟩:=bind_some h27
 refine zl (fun (p6:Int)=>⟨96,[(1,.ref 0 0),(3,.ref 1 0),(4,.int .i64 p2),(5,.int .i64 p6)],u1⟩) (Sum.elim (fun z=>OutE 2 (fun z=>⟨96,[(1,.ref 0 0),(3,.ref 1 0),(4,.int .i64 p2)],u1⟩) z) (fun z=>OutR Tryz.prog Tryz.f169 (.int .i64 z))) q39 ?_ ?_
 intro p6 y7 h28
 unfold M.Jo at h28
 refine Za (Za (zg [1,3,4,5,61] 2 (Zb (cn h28 (fun _ h30=>?_) (fun _ h31=>?_)))))
 refine Zd (Zb (Za (Zg (Za ?_))))
 obtain ⟨r8,q32,h33⟩:=bind_some h30
 obtain ⟨c34,h35⟩:=Zo h33
 refine zr [1,3,4,5,91] 2 c34 (rq2 (fun hg=>RT _ _ _ (Xg q32 hg)) rqn) (Zb (cn h35 (fun _ h37=>?_) (fun _ h38=>?_)))
 exact Za (zg [2] 0 (Zb (Zf (ZR (Zk (rr h37 ⟨rfl,er0 _⟩))))))
 exact Zd (XA (Zb (zg [1,3,4,5] 2 (rn h38))))
 exact ZD (Xc (re h31 ⟨rfl,kq⟩))
 intro e41 s42 o43
 rcases y9 with g10 | y11
 have h44:=Yc h40
 obtain ⟨rfl,l46⟩:=o43
 exact Qg (XA (ZZ (s':=⟨96,[(1,.ref 0 0),(3,.ref 1 0),(4,.int .i64 p2)],u1⟩) (l46) (zg [1,3,4] 2 (rn h44))))
 have h45:=Yd h40
 obtain ⟨rfl,n47⟩:=o43
 exact ZR (ZR (Zk (rr h45 ⟨rfl,n47⟩)))
 exact ZD (Xc (re h18 ⟨rfl,kq⟩))
 intro e50 s51 o52
 rcases y12 with g13 | y14
 have h53:=Yc h49
 refine zi o52 (Za ?_)
 obtain ⟨r15,q56,h57⟩:=bind_some h53
 exact zr [2] 0 Zt (rq1 (UI _ _ _ _ _ _ q56) rqn) (Zb (Zf (er1 h57)))
 have h54:=Yd h49
 obtain ⟨rfl,n58⟩:=o52
 refine ZR (Zk ?_)
 obtain rfl:=Option.some.inj h54
 exact n58
theorem ZeI (a0:Zi) (r:Int) (h:M.Vb a0=some r):Fn Tryz.prog 170 [.agg (Zs a0)] (.pure (.int .i64 r)):=by
 unfold M.Vb at h
 refine ZC Tryz.func170 rfl (by kernel_rfl) (Za (zg [1] 1 (Zb (Za (zg [1,3] 2 (Zb (Za (Za (zg [1,3,8] 2 (Zb (cn h (fun _ h2=>?_) (fun _ h3=>?_))))))))))))
 refine Za (Za (zg [27] 0 (Zb (cn h2 (fun _ h5=>?_) (fun _ h6=>?_)))))
 exact Za (zg [2] 0 (Zb (Zf (Zk (Zk (er1 h5))))))
 exact Zd (Zb (Za (zg [2] 0 (Zb (Zf (Zk (er1 h6)))))))
 refine Zd (Zb (Za (Za ?_)))
 obtain ⟨r1,q7,h8⟩:=bind_some h3
 refine zr [1,3,31] 2 Zt (rq1 (XZ _ _ _ _ q7) rqn) (Zb (cn h8 (fun _ h10=>?_) (fun _ h11=>?_)))
 exact Za (zg [2] 0 (Zb (Zf (Zk (er1 h10)))))
 refine Zd (Zb (Za (Za ?_)))
 obtain ⟨r2,q12,h13⟩:=bind_some h11
 obtain ⟨r3,q14,h15⟩:=bind_some h13
 refine zr [1,3,53] 2 Zt (rq2 (fun hg=>GI _ _ _ (Xg q12 hg)) (rq2 (fun hg=>GI _ _ _ (Xg q14 hg)) rqn)) (Zb (cn h15 (fun _ h17=>?_) (fun _ h18=>?_)))
 exact Za (zg [2] 0 (Zb (Zf (Zk (er1 h17)))))
 refine Zd (Zb (Za ?_))
 obtain ⟨r4,q19,h20⟩:=bind_some h18
 exact zr [2] 0 Zt (rq1 (UI _ _ _ _ _ _ q19) rqn) (Zb (Zf (er1 h20)))
theorem Zd3 (a0:Zi) (r:Int) (h:M.VS a0=some r):Fn Tryz.prog 228 [.agg (Zs a0)] (.pure (.int .i64 r)):=by
 let u1:Nat × D:=(3,sL 4 XU a0.Xz.Zp)
 let u2:List Ob:=[.box (Zs a0)]
 unfold M.VS at h
 refine ZC Tryz.func228 rfl (by kernel_rfl) (Za (zg [1] 1 (Zb (Za (zg [1,3] 1 (Zb (Za (Za (zg [1,3,11] 1 (Zb (cn h (fun _ h2=>?_) (fun _ h3=>?_))))))))))))
 exact Za (zg [2] 0 (Zb (Zf (Zk (er1 h2)))))
 refine Zd (Zb (Za (Za (zg [1,3,4] 1 (Zb (Zg ?_))))))
 obtain ⟨y11,q42,h43⟩:=bind_some h3
 refine zl (fun (p1:Int)=>⟨83,[(1,.ref 0 0),u1,(4,.int .i64 p1)],u2⟩) (Sum.elim (fun z=>OutE 0 (fun z=>⟨83,[],[]⟩) z) (fun z=>OutR Tryz.prog Tryz.f228 (.int .i64 z))) q42 ?_ ?_
 intro p1 y2 h4
 unfold M.Jr at h4
 refine Za (Za (zg [1,3,4,15] 1 (Zb (cn h4 (fun _ h6=>?_) (fun _ h7=>?_)))))
 refine Zd (Zb (Za (Zg (Za (Za ?_)))))
 obtain ⟨r3,q8,h9⟩:=bind_some h6
 obtain ⟨c10,h11⟩:=Zo h9
 refine zr [1,3,4,32] 1 c10 (rq2 (fun hg=>XZ _ _ _ _ (Xg q8 hg)) rqn) (Zb (cn h11 (fun _ h13=>?_) (fun _ h14=>?_)))
 exact Za (zg [2] 0 (Zb (Zf (Zk (ZR (Zk (rr h13 ⟨rfl,er0 _⟩)))))))
 refine Zd (Zb (Za (Za ?_)))
 obtain ⟨r4,q15,h16⟩:=bind_some h14
 obtain ⟨r5,q17,h18⟩:=bind_some h16
 obtain ⟨c19,h20⟩:=Zo h18
 refine zr [1,3,4,66] 1 c19 (rq2 (fun hg=>Kn _ _ _ (Xg q15 hg)) (rq2 (fun hg=>Kn _ _ _ (Xg q17 hg)) rqn)) (Zb (cn h20 (fun _ h22=>?_) (fun _ h23=>?_)))
 exact Za (zg [2] 0 (Zb (Zf (Zk (ZR (Zk (rr h22 ⟨rfl,er0 _⟩)))))))
 refine Zd (Zb (Za (zg [1,3,4,5] 1 (Zb (Zg ?_)))))
 obtain ⟨y8,q33,h34⟩:=bind_some h23
 refine zl (fun (p6:Int)=>⟨83,[(1,.ref 0 0),u1,(4,.int .i64 p1),(5,.int .i64 p6)],u2⟩) (Sum.elim (fun z=>OutE 2 (fun z=>⟨83,[(1,.ref 0 0),u1,(4,.int .i64 p1)],u2⟩) z) (fun z=>OutR Tryz.prog Tryz.f228 (.int .i64 z))) q33 ?_ ?_
 intro p6 y7 h24
 unfold M.Jq at h24
 refine Za (Za (zg [1,3,4,5,69] 1 (Zb (cn h24 (fun _ h26=>?_) (fun _ h27=>?_)))))
 refine Zd (Zb (Za (Zg (Za ?_))))
 obtain ⟨c28,h29⟩:=Zo h26
 refine zc [1,3,4,5,82] 1 c28 (Zb (cn h29 (fun _ h31=>?_) (fun _ h32=>?_)))
 exact Za (zg [2] 0 (Zb (Zf (ZR (Zk (rr h31 ⟨rfl,er0 _⟩))))))
 exact Zd (XA (Zb (zg [1,3,4,5] 1 (rn h32))))
 exact ZD (Xc (re h27 ⟨rfl,kq⟩))
 intro e35 s36 o37
 rcases y8 with g9 | y10
 have h38:=Yc h34
 obtain ⟨rfl,l40⟩:=o37
 exact Qg (XA (ZZ (s':=⟨83,[(1,.ref 0 0),u1,(4,.int .i64 p1)],u2⟩) (l40) (zg [1,3,4] 1 (rn h38))))
 have h39:=Yd h34
 obtain ⟨rfl,n41⟩:=o37
 exact ZR (ZR (Zk (rr h39 ⟨rfl,n41⟩)))
 exact ZD (Xc (re h7 ⟨rfl,kc⟩))
 intro e44 s45 o46
 rcases y11 with g12 | y13
 have h47:=Yc h43
 exact zi o46 (Za (zg [2] 0 (Zb (Zf (er1 h47)))))
 have h48:=Yd h43
 obtain ⟨rfl,n50⟩:=o46
 refine ZR (Zk ?_)
 obtain rfl:=Option.some.inj h48
 exact n50
theorem Zbz (a0:XO) (r:Int) (h:M.Js a0=some r):Fn Tryz.prog 229 [.agg (Kt a0)] (.pure (.int .i64 r)):=by
 let u1:List Ob:=[.box (Kt a0)]
 let u2:St:=⟨126,[(1,.ref 0 0)],u1⟩
 unfold M.Js at h
 refine ZC Tryz.func229 rfl (by kernel_rfl) (Za (zg [1] 1 (Zb (Za (Za (zg [1,13] 1 (Zb (cn h (fun _ h2=>?_) (fun _ h3=>?_)))))))))
 exact Za (zg [2] 0 (Zb (Zf (Zk (er1 h2)))))
 refine Zd (Zb (Za (Za (zg [1,3] 1 (Zb (Zg ?_))))))
 obtain ⟨y9,q33,h34⟩:=bind_some h3
 refine zl (fun (p1:Int)=>⟨126,[(1,.ref 0 0),(3,.int .i64 p1)],u1⟩) (Sum.elim (fun z=>OutE 0 (fun z=>u2) z) (fun z=>OutR Tryz.prog Tryz.f229 (.int .i64 z))) q33 ?_ ?_
 intro p1 y2 h4
 unfold M.Qp at h4
 refine Za (Za (zg [1,3,18] 1 (Zb (cn h4 (fun _ h6=>?_) (fun _ h7=>?_)))))
 refine Zd (Zb (Za (Zg (Za (Za ?_)))))
 obtain ⟨r3,q8,h9⟩:=bind_some h6
 obtain ⟨c10,h11⟩:=Zo h9
 refine zr [1,3,27] 1 c10 (rq1 (WP _ _ q8) rqn) (Zb (cn h11 (fun _ h13=>?_) (fun _ h14=>?_)))
 exact Za (zg [2] 0 (Zb (Zf (Zk (ZR (Zk (rr h13 ⟨rfl,er0 _⟩)))))))
 refine Zd (Zb (Za (zg [1,3,4] 1 (Zb (Zg ?_)))))
 obtain ⟨y6,q24,h25⟩:=bind_some h14
 refine zl (fun (p4:Int)=>⟨126,[(1,.ref 0 0),(3,.int .i64 p1),(4,.int .i64 p4)],u1⟩) (Sum.elim (fun z=>OutE 2 (fun z=>⟨126,[(1,.ref 0 0),(3,.int .i64 p1)],u1⟩) z) (fun z=>OutR Tryz.prog Tryz.f229 (.int .i64 z))) q24 ?_ ?_
 intro p4 y5 h15
 unfold M.Qo at h15
 refine Za (Za (zg [1,3,4,30] 1 (Zb (cn h15 (fun _ h17=>?_) (fun _ h18=>?_)))))
 refine Zd (Zb (Za (Zg (Za ?_))))
 obtain ⟨c19,h20⟩:=Zo h17
 refine zc [1,3,4,43] 1 c19 (Zb (cn h20 (fun _ h22=>?_) (fun _ h23=>?_)))
 exact Za (zg [2] 0 (Zb (Zf (ZR (Zk (rr h22 ⟨rfl,er0 _⟩))))))
 exact Zd (XA (Zb (zg [1,3,4] 1 (rn h23))))
 exact ZD (Xc (re h18 ⟨rfl,kq⟩))
 intro e26 s27 o28
 rcases y6 with g7 | y8
 have h29:=Yc h25
 obtain ⟨rfl,l31⟩:=o28
 exact Qg (XA (ZZ (s':=⟨126,[(1,.ref 0 0),(3,.int .i64 p1)],u1⟩) (l31) (zg [1,3] 1 (rn h29))))
 have h30:=Yd h25
 obtain ⟨rfl,n32⟩:=o28
 exact ZR (ZR (Zk (rr h30 ⟨rfl,n32⟩)))
 exact ZD (Xc (re h7 ⟨rfl,kq⟩))
 intro e35 s36 o37
 rcases y9 with g10 | y11
 have h38:=Yc h34
 refine zi o37 (Za (Za (zg [1,47] 1 (Zb (cn h38 (fun _ h42=>?_) (fun _ h43=>?_))))))
 exact Za (zg [2] 0 (Zb (Zf (Zk (er1 h42)))))
 refine Zd (Zb (Za (Za (zg [1,5] 1 (Zb (Zg ?_))))))
 obtain ⟨y20,q73,h74⟩:=bind_some h43
 refine zl (fun (p12:Int)=>⟨126,[(1,.ref 0 0),(5,.int .i64 p12)],u1⟩) (Sum.elim (fun z=>OutE 4 (fun z=>u2) z) (fun z=>OutR Tryz.prog Tryz.f229 (.int .i64 z))) q73 ?_ ?_
 intro p12 y13 h44
 unfold M.Qr at h44
 refine Za (Za (zg [1,5,52] 1 (Zb (cn h44 (fun _ h46=>?_) (fun _ h47=>?_)))))
 refine Zd (Zb (Za (Zg (Za (Za ?_)))))
 obtain ⟨r14,q48,h49⟩:=bind_some h46
 obtain ⟨c50,h51⟩:=Zo h49
 refine zr [1,5,62] 1 c50 (rq1 (WP _ _ q48) rqn) (Zb (cn h51 (fun _ h53=>?_) (fun _ h54=>?_)))
 exact Za (zg [2] 0 (Zb (Zf (Zk (ZR (Zk (rr h53 ⟨rfl,er0 _⟩)))))))
 refine Zd (Zb (Za (zg [1,5,6] 1 (Zb (Zg ?_)))))
 obtain ⟨y17,q64,h65⟩:=bind_some h54
 refine zl (fun (p15:Int)=>⟨126,[(1,.ref 0 0),(5,.int .i64 p12),(6,.int .i64 p15)],u1⟩) (Sum.elim (fun z=>OutE 6 (fun z=>⟨126,[(1,.ref 0 0),(5,.int .i64 p12)],u1⟩) z) (fun z=>OutR Tryz.prog Tryz.f229 (.int .i64 z))) q64 ?_ ?_
 intro p15 y16 h55
 unfold M.Qq at h55
 refine Za (Za (zg [1,5,6,65] 1 (Zb (cn h55 (fun _ h57=>?_) (fun _ h58=>?_)))))
 refine Zd (Zb (Za (Zg (Za ?_))))
 obtain ⟨c59,h60⟩:=Zo h57
 refine zc [1,5,6,80] 1 c59 (Zb (cn h60 (fun _ h62=>?_) (fun _ h63=>?_)))
 exact Za (zg [2] 0 (Zb (Zf (ZR (Zk (rr h62 ⟨rfl,er0 _⟩))))))
 exact Zd (XA (Zb (zg [1,5,6] 1 (rn h63))))
 exact ZD (Xc (re h58 ⟨rfl,kq⟩))
 intro e66 s67 o68
 rcases y17 with g18 | y19
 have h69:=Yc h65
 obtain ⟨rfl,l71⟩:=o68
 exact Qg (XA (ZZ (s':=⟨126,[(1,.ref 0 0),(5,.int .i64 p12)],u1⟩) (l71) (zg [1,5] 1 (rn h69))))
 have h70:=Yd h65
 obtain ⟨rfl,n72⟩:=o68
 exact ZR (ZR (Zk (rr h70 ⟨rfl,n72⟩)))
 exact ZD (Xc (re h47 ⟨rfl,kq⟩))
 intro e75 s76 o77
 rcases y20 with g21 | y22
 have h78:=Yc h74
 refine zi o77 (Za (Za (zg [1,84] 1 (Zb (cn h78 (fun _ h82=>?_) (fun _ h83=>?_))))))
 exact Za (zg [2] 0 (Zb (Zf (Zk (er1 h82)))))
 refine Zd (Zb (Za (Za (zg [1,7] 1 (Zb (Zg ?_))))))
 obtain ⟨y32,q118,h119⟩:=bind_some h83
 refine zl (fun (p23:Int)=>⟨126,[(1,.ref 0 0),(7,.int .i64 p23)],u1⟩) (Sum.elim (fun z=>OutE 8 (fun z=>⟨126,[],[]⟩) z) (fun z=>OutR Tryz.prog Tryz.f229 (.int .i64 z))) q118 ?_ ?_
 intro p23 y24 h84
 unfold M.Qt at h84
 refine Za (Za (zg [1,7,89] 1 (Zb (cn h84 (fun _ h86=>?_) (fun _ h87=>?_)))))
 refine Zd (Zb (Za (Zg (Za ?_))))
 obtain ⟨c88,h89⟩:=Zo h86
 refine zc [1,7,8] 2 c88 (Zb (Za (Za ?_)))
 obtain ⟨r25,q90,h91⟩:=bind_some h89
 obtain ⟨r26,q92,h93⟩:=bind_some h91
 refine zr [1,7,8,106] 2 Zt (rq1 (WP _ _ q90) (rq2 (fun hg=>WP _ _ (Xg q92 hg)) rqn)) (Zb (cn h93 (fun _ h95=>?_) (fun _ h96=>?_)))
 exact Za (zg [2] 0 (Zb (Zf (Zk (ZR (Zk (rr h95 ⟨rfl,er0 _⟩)))))))
 refine Zd (Zb (Za (Za (zg [1,7,8,111] 2 (Zb (cn h96 (fun _ h98=>?_) (fun _ h99=>?_)))))))
 exact Za (zg [2] 0 (Zb (Zf (Zk (ZR (Zk (rr h98 ⟨rfl,er0 _⟩)))))))
 refine Zd (Zb (Za (zg [1,7,8,9] 2 (Zb (Zg ?_)))))
 obtain ⟨y29,q109,h110⟩:=bind_some h99
 refine zl (fun (p27:Int)=>⟨126,[(1,.ref 0 0),(7,.int .i64 p23),(8,.ref 1 0),(9,.int .i64 p27)],[.box (Kt a0),.box (XC (a0.Zv.getD p23.toNat default))]⟩) (Sum.elim (fun z=>OutE 10 (fun z=>⟨126,[(1,.ref 0 0),(7,.int .i64 p23)],u1⟩) z) (fun z=>OutR Tryz.prog Tryz.f229 (.int .i64 z))) q109 ?_ ?_
 intro p27 y28 h100
 unfold M.Qs at h100
 refine Za (Za (zg [1,7,8,9,114] 2 (Zb (cn h100 (fun _ h102=>?_) (fun _ h103=>?_)))))
 refine Zd (Zb (Za (Zg (Za ?_))))
 obtain ⟨c104,h105⟩:=Zo h102
 refine zc [1,7,8,9,125] 2 c104 (Zb (cn h105 (fun _ h107=>?_) (fun _ h108=>?_)))
 exact Za (zg [2] 0 (Zb (Zf (ZR (Zk (rr h107 ⟨rfl,er0 _⟩))))))
 exact Zd (XA (Zb (zg [1,7,8,9] 2 (rn h108))))
 exact ZD (Xc (re h103 ⟨rfl,kc⟩))
 intro e111 s112 o113
 rcases y29 with g30 | y31
 have h114:=Yc h110
 obtain ⟨rfl,l116⟩:=o113
 exact Qg (XA (ZZ (s':=⟨126,[(1,.ref 0 0),(7,.int .i64 p23)],u1⟩) (l116) (zg [1,7] 1 (rn h114))))
 have h115:=Yd h110
 obtain ⟨rfl,n117⟩:=o113
 exact ZR (ZR (Zk (rr h115 ⟨rfl,n117⟩)))
 exact ZD (Xc (re h87 ⟨rfl,kc⟩))
 intro e120 s121 o122
 rcases y32 with g33 | y34
 have h123:=Yc h119
 exact zi o122 (Za (zg [2] 0 (Zb (Zf (er1 h123)))))
 have h124:=Yd h119
 obtain ⟨rfl,n126⟩:=o122
 refine ZR (Zk ?_)
 obtain rfl:=Option.some.inj h124
 exact n126
 have h79:=Yd h74
 obtain ⟨rfl,n127⟩:=o77
 refine ZR (Zk ?_)
 obtain rfl:=Option.some.inj h79
 exact n127
 have h39:=Yd h34
 obtain ⟨rfl,n128⟩:=o37
 refine ZR (Zk ?_)
 obtain rfl:=Option.some.inj h39
 exact n128
theorem Zc2 (a0:Zi) (r:Int) (h:M.Q8 a0=some r):Fn Tryz.prog 171 [.agg (Zs a0)] (.pure (.int .i64 r)):=by
 unfold M.Q8 at h
 refine ZC Tryz.func171 rfl (by kernel_rfl) (Za (zg [1] 1 (Zb (Za (zg [1,3] 2 (Zb (Za (Za (zg [1,3,10] 2 (Zb (cn h (fun _ h2=>?_) (fun _ h3=>?_))))))))))))
 refine Za (Za (zg [40] 0 (Zb (cn h2 (fun _ h5=>?_) (fun _ h6=>?_)))))
 exact Za (zg [2] 0 (Zb (Zf (Zk (Zk (er1 h5))))))
 exact Zd (Zb (Za (zg [2] 0 (Zb (Zf (Zk (er1 h6)))))))
 refine Zd (Zb (Za (Za ?_)))
 obtain ⟨r1,q7,h8⟩:=bind_some h3
 obtain ⟨r2,q9,h10⟩:=bind_some h8
 refine zr [1,3,55] 2 Zt (rq2 (fun hg=>XZ _ _ _ _ (Xg q7 hg)) (rq2 (fun hg=>XZ _ _ _ _ (Xg q9 hg)) rqn)) (Zb (cn h10 (fun _ h12=>?_) (fun _ h13=>?_)))
 exact Za (zg [2] 0 (Zb (Zf (Zk (er1 h12)))))
 refine Zd (Zb (Za (Za ?_)))
 obtain ⟨r3,q14,h15⟩:=bind_some h13
 refine zr [1,3,4] 2 Zt (rq1 (Zd3 _ _ q14) rqn) (Zb (Za (zg [1,3,4,59] 2 (Zb (cn h15 (fun _ h17=>?_) (fun _ h18=>?_))))))
 exact Za (zg [2] 0 (Zb (Zf (Zk (er1 h17)))))
 refine Zd (Zb (Za (Za ?_)))
 obtain ⟨r4,q19,h20⟩:=bind_some h18
 refine zr [1,3,5] 2 Zt (rq1 (Zbz _ _ q19) rqn) (Zb (Za (zg [1,3,5,64] 2 (Zb (cn h20 (fun _ h22=>?_) (fun _ h23=>?_))))))
 exact Za (zg [2] 0 (Zb (Zf (Zk (er1 h22)))))
 refine Zd (Zb (Za ?_))
 obtain ⟨r5,q24,h25⟩:=bind_some h23
 exact zr [2] 0 Zt (rq1 (UI _ _ _ _ _ _ q24) rqn) (Zb (Zf (er1 h25)))
theorem Zci (a0:Zi) (r:Int) (h:M.YJ a0=some r):Fn Tryz.prog 115 [.agg (Zs a0)] (.pure (.int .i64 r)):=by
 unfold M.YJ at h
 refine ZC Tryz.func115 rfl (by kernel_rfl) (Za (zg [1] 1 (Zb (Za (Za ?_)))))
 obtain ⟨r1,q1,h2⟩:=bind_some h
 refine zr [1,8] 1 Zt (rq1 (G9 _ _ q1) rqn) (Zb (cn h2 (fun _ h4=>?_) (fun _ h5=>?_)))
 exact Za (zg [2] 0 (Zb (Zf (Zk (er1 h4)))))
 refine Zd (Zb (Za (Za ?_)))
 obtain ⟨r2,q6,h7⟩:=bind_some h5
 refine zr [1,12] 1 Zt (rq1 (XZ _ _ _ _ q6) rqn) (Zb (cn h7 (fun _ h9=>?_) (fun _ h10=>?_)))
 exact Za (zg [2] 0 (Zb (Zf (Zk (er1 h9)))))
 refine Zd (Zb (Za ?_))
 obtain ⟨r3,q11,h12⟩:=bind_some h10
 obtain ⟨r4,q13,h14⟩:=bind_some h12
 obtain ⟨r5,q15,h16⟩:=bind_some h14
 obtain ⟨r6,q17,h18⟩:=bind_some h16
 obtain ⟨r7,q19,h20⟩:=bind_some h18
 obtain ⟨r8,q21,h22⟩:=bind_some h20
 obtain ⟨r9,q23,h24⟩:=bind_some h22
 obtain ⟨r10,q25,h26⟩:=bind_some h24
 obtain ⟨r11,q27,h28⟩:=bind_some h26
 obtain ⟨r12,q29,h30⟩:=bind_some h28
 refine rg [.pure (.int .i64 r3),.pure (.int .i64 r4),.pure (.int .i64 r5),.pure (.int .i64 r6),.pure (.int .i64 r7),.pure (.int .i64 r8),.pure (.int .i64 r9),.pure (.int .i64 r10),.pure (.int .i64 r11),.pure (.int .i64 r12)] [3] 0 ⟨52,[(3,.sl true 1 10 (fun i=>List.take 1 (List.drop (i*1) [.int .i64 r3,.int .i64 r4,.int .i64 r5,.int .i64 r6,.int .i64 r7,.int .i64 r8,.int .i64 r9,.int .i64 r10,.int .i64 r11,.int .i64 r12])))],[]⟩ [] [⟨true,162,[sL 12 Zl a0.Zc],.pure (.int .i64 r3)⟩,⟨true,163,[sL 2 Zx a0.YV],.pure (.int .i64 r4)⟩,⟨true,164,[.agg (Zs a0)],.pure (.int .i64 r5)⟩,⟨true,165,[sL 2 YU a0.Y5],.pure (.int .i64 r6)⟩,⟨true,166,[.agg (Zs a0)],.pure (.int .i64 r7)⟩,⟨true,167,[.agg (Zs a0)],.pure (.int .i64 r8)⟩,⟨true,168,[.agg (Zs a0)],.pure (.int .i64 r9)⟩,⟨true,169,[.agg (Zs a0)],.pure (.int .i64 r10)⟩,⟨true,170,[.agg (Zs a0)],.pure (.int .i64 r11)⟩,⟨true,171,[.agg (Zs a0)],.pure (.int .i64 r12)⟩] Zt ⟨fun _=>Zc1 a0.Zc r3 q11,fun _=>Zcg a0.YV r4 q13,fun _=>ZdZ a0 r5 q15,fun _=>Zch a0.Y5 r6 q17,fun _=>Zby a0 r7 q19,fun _=>Zfo a0 r8 q21,fun _=>Zfp a0 r9 q23,fun _=>Zd2 a0 r10 q25,fun _=>ZeI a0 r11 q27,fun _=>Zc2 a0 r12 q29,trivial⟩ (ZZ (s':=⟨52,[(3,sL 1 (ci .i64) ([r3,r4,r5,r6,r7,r8,r9,r10,r11,r12]:List Int))],[]⟩) (QU (.cons (Gs rfl (fun i hi=>match i,hi with | 0,_=>rfl | 1,_=>rfl | 2,_=>rfl | 3,_=>rfl | 4,_=>rfl | 5,_=>rfl | 6,_=>rfl | 7,_=>rfl | 8,_=>rfl | 9,_=>rfl | n+10,h=>absurd h (by omega))) .nil) .nil) (Za (Za (zg [3,4] 0 (Zb (Zg ?_))))))
 obtain ⟨y15,q42,h43⟩:=bind_some h30
 refine zl (fun (p13:Int)=>⟨52,[(3,sL 1 (ci .i64) ([r3,r4,r5,r6,r7,r8,r9,r10,r11,r12]:List Int)),(4,.int .i64 p13)],[]⟩) (Sum.elim (fun z=>OutE 0 (fun z=>⟨52,[],[]⟩) z) (fun z=>OutR Tryz.prog Tryz.f115 (.int .i64 z))) q42 ?_ ?_
 intro p13 y14 h31
 unfold M.Yy at h31
 refine Za (Za (zg [3,4,40] 0 (Zb (cn h31 (fun _ h33=>?_) (fun _ h34=>?_)))))
 refine Zd (Zb (Za (Zg (Za ?_))))
 obtain ⟨c35,h36⟩:=Zo h33
 refine zc [3,4,47] 0 c35 (Zb (cn h36 (fun _ h38=>?_) (fun _ h39=>?_)))
 refine Za ?_
 obtain ⟨c40,h41⟩:=Zo h38
 exact zc [2] 0 c40 (Zb (Zf (ZR (Zk (rr h41 ⟨rfl,er0 _⟩)))))
 exact Zd (XA (Zb (zg [3,4] 0 (rn h39))))
 exact ZD (Xc (re h34 ⟨rfl,kq⟩))
 intro e44 s45 o46
 rcases y15 with g16 | y17
 have h47:=Yc h43
 exact zi o46 (Za (zg [2] 0 (Zb (Zf (er1 h47)))))
 have h48:=Yd h43
 obtain ⟨rfl,n50⟩:=o46
 refine ZR (Zk ?_)
 obtain rfl:=Option.some.inj h48
 exact n50
theorem Zg2 (a0:ZI) (r:Int) (h:M.JE a0=some r):Fn Tryz.prog 83 [.agg (Yb a0)] (.pure (.int .i64 r)):=by
 let u1:List Ob:=[.box (Yb a0)]
 unfold M.JE at h
 refine ZC Tryz.func83 rfl (by kernel_rfl) (Za (zg [1] 1 (Zb (Za (Za (zg [1,12] 1 (Zb (cn h (fun _ h2=>?_) (fun _ h3=>?_)))))))))
 exact Za (zg [2] 0 (Zb (Zf (Zk (er1 h2)))))
 refine Zd (Zb (Za (Za (zg [1,3] 1 (Zb (Zg ?_))))))
 obtain ⟨y20,q70,h71⟩:=bind_some h3
 refine zl (fun (p1:Int)=>⟨86,[(1,.ref 0 0),(3,.int .i64 p1)],u1⟩) (Sum.elim (fun z=>OutE 0 (fun z=>⟨86,[],[]⟩) z) (fun z=>OutR Tryz.prog Tryz.f83 (.int .i64 z))) q70 ?_ ?_
 intro p1 y2 h4
 unfold M.JS at h4
 refine Za (Za (zg [1,3,17] 1 (Zb (cn h4 (fun _ h6=>?_) (fun _ h7=>?_)))))
 refine Zd (Zb (Za (Zg (Za (Za ?_)))))
 obtain ⟨r3,q8,h9⟩:=bind_some h6
 obtain ⟨c10,h11⟩:=Zo h9
 refine zr [1,3,4] 1 c10 (rq1 (Zci _ _ q8) rqn) (Zb (Za (zg [1,3,4,27] 1 (Zb (cn h11 (fun _ h13=>?_) (fun _ h14=>?_))))))
 exact Za (zg [2] 0 (Zb (Zf (Zk (ZR (Zk (rr h13 ⟨rfl,er0 _⟩)))))))
 refine Zd (Zb (Za (Za (zg [1,3,5] 1 (Zb (Zg ?_))))))
 obtain ⟨y6,q24,h25⟩:=bind_some h14
 refine zl (fun (p4:Int)=>⟨86,[(1,.ref 0 0),(3,.int .i64 p1),(5,.int .i64 p4)],u1⟩) (Sum.elim (fun z=>OutE 2 (fun z=>⟨86,[(1,.ref 0 0),(3,.int .i64 p1)],u1⟩) z) (fun z=>OutR Tryz.prog Tryz.f83 (.int .i64 z))) q24 ?_ ?_
 intro p4 y5 h15
 unfold M.Vc at h15
 refine Za (Za (zg [1,3,5,31] 1 (Zb (cn h15 (fun _ h17=>?_) (fun _ h18=>?_)))))
 refine Zd (Zb (Za (Zg (Za ?_))))
 obtain ⟨c19,h20⟩:=Zo h17
 refine zc [1,3,5,46] 1 c19 (Zb (cn h20 (fun _ h22=>?_) (fun _ h23=>?_)))
 exact Za (zg [2] 0 (Zb (Zf (ZR (Zk (rr h22 ⟨rfl,er0 _⟩))))))
 exact Zd (XA (Zb (zg [1,3,5] 1 (rn h23))))
 exact ZD (Xc (re h18 ⟨rfl,kq⟩))
 intro e26 s27 o28
 rcases y6 with g7 | y8
 have h29:=Yc h25
 refine zi o28 (Za (zg [1,3,6] 1 (Zb (Zg ?_))))
 obtain ⟨y17,q60,h61⟩:=bind_some h29
 refine zl (fun (p9:Int)=>⟨86,[(1,.ref 0 0),(3,.int .i64 p1),(6,.int .i64 p9)],u1⟩) (Sum.elim (fun z=>OutE 4 (fun z=>⟨86,[(1,.ref 0 0),(3,.int .i64 p1)],u1⟩) z) (fun z=>OutR Tryz.prog Tryz.f83 (.int .i64 z))) q60 ?_ ?_
 intro p9 y10 h32
 unfold M.JR at h32
 refine Za (Za ?_)
 obtain ⟨c33,h34⟩:=Zo h32
 refine zc [1,3,6,55] 1 c33 (Zb (cn h34 (fun _ h36=>?_) (fun _ h37=>?_)))
 refine Zd (Zb (Za (Zg (Za ?_))))
 obtain ⟨c38,h39⟩:=Zo h36
 refine zc [1,3,6,7] 2 c38 (Zb (Za (zg [1,3,6,7,8] 2 (Zb (Zg ?_)))))
 obtain ⟨y14,q51,h52⟩:=bind_some h39
 refine zl (fun (p11:Int)=>⟨86,[(1,.ref 0 0),(3,.int .i64 p1),(6,.int .i64 p9),(7,.ref 1 0),(8,.int .i64 p11)],[.box (Yb a0),.box (Zl (((a0.Ze.getD p1.toNat default).Zc).getD p9.toNat default))]⟩) (Sum.elim (fun z=>OutE 6 (fun z=>⟨86,[(1,.ref 0 0),(3,.int .i64 p1),(6,.int .i64 p9)],u1⟩) z) (fun z=>OutR Tryz.prog Tryz.f83 (.int .i64 z))) q51 ?_ ?_
 intro p11 y12 h40
 unfold M.JQ at h40
 refine Za (Za (zg [1,3,6,7,8,69] 2 (Zb (cn h40 (fun _ h42=>?_) (fun _ h43=>?_)))))
 refine Zd (Zb (Za (Zg (Za ?_))))
 obtain ⟨r13,q44,h45⟩:=bind_some h42
 obtain ⟨c46,h47⟩:=Zo h45
 refine zr [1,3,6,7,8,85] 2 c46 (rq2 (fun hg=>ZaH _ _ _ (Xg q44 hg)) rqn) (Zb (cn h47 (fun _ h49=>?_) (fun _ h50=>?_)))
 exact Za (zg [2] 0 (Zb (Zf (ZR (Zk (rr h49 ⟨rfl,er0 _⟩))))))
 exact Zd (XA (Zb (zg [1,3,6,7,8] 2 (rn h50))))
 exact ZD (Xc (re h43 ⟨rfl,kc⟩))
 intro e53 s54 o55
 rcases y14 with g15 | y16
 have h56:=Yc h52
 obtain ⟨rfl,l58⟩:=o55
 exact Qg (XA (ZZ (s':=⟨86,[(1,.ref 0 0),(3,.int .i64 p1),(6,.int .i64 p9)],u1⟩) (l58) (zg [1,3,6] 1 (rn h56))))
 have h57:=Yd h52
 obtain ⟨rfl,n59⟩:=o55
 exact ZR (ZR (Zk (rr h57 ⟨rfl,n59⟩)))
 exact ZD (Xc (re h37 ⟨rfl,kq⟩))
 intro e62 s63 o64
 rcases y17 with g18 | y19
 have h65:=Yc h61
 obtain ⟨rfl,l67⟩:=o64
 exact Qg (XA (ZZ (s':=⟨86,[(1,.ref 0 0),(3,.int .i64 p1)],u1⟩) (l67) (zg [1,3] 1 (rn h65))))
 have h66:=Yd h61
 obtain ⟨rfl,n68⟩:=o64
 exact ZR (ZR (Zk (rr h66 ⟨rfl,n68⟩)))
 have h30:=Yd h25
 obtain ⟨rfl,n69⟩:=o28
 exact ZR (Zk (ZR (Zk (rr h30 ⟨rfl,n69⟩))))
 exact ZD (Xc (re h7 ⟨rfl,kc⟩))
 intro e72 s73 o74
 rcases y20 with g21 | y22
 have h75:=Yc h71
 exact zi o74 (Za (zg [2] 0 (Zb (Zf (er1 h75)))))
 have h76:=Yd h71
 obtain ⟨rfl,n78⟩:=o74
 refine ZR (Zk ?_)
 obtain rfl:=Option.some.inj h76
 exact n78
theorem ZaI (a0:ZL) (a1:ZL) (r:Int) (h:M.Vo a0 a1=some r):Fn Tryz.prog 29 [.agg (Xd a0),.agg (Xd a1)] (.pure (.int .i64 r)):=by
 unfold M.Vo at h
 refine ZC Tryz.func29 rfl (by kernel_rfl) (Za (zg [2,3] 2 (Zb (Za (Za (zg [2,3,23] 2 (Zb (cn h (fun _ h2=>?_) (fun _ h3=>?_)))))))))
 exact Za (zg [4] 0 (Zb (Zf (Zk (er1 h2)))))
 refine Zd (Zb (Za (Za (zg [26] 0 (Zb (cn h3 (fun _ h5=>?_) (fun _ h6=>?_)))))))
 exact Za (zg [4] 0 (Zb (Zf (Zk (er1 h5)))))
 exact Zd (Zb (Za (zg [4] 0 (Zb (Zf (er1 h6))))))
theorem ZgE (a0:ZI) (r:JZ × Int) (h:M.Ge a0=some r):Fn Tryz.prog 55 [.agg (Yb a0)] (.pure (.tup [.agg (Rn r.1),.int .i64 r.2])):=by
 let u2:=Yb a0
 let u7:List Ob:=[.box u2,.box [.sl true 4 0 (fun _=>[]),.sl true 1 0 (fun _=>[])]]
 let u8:List Ob:=[.box u2,.box [.sl true 4 0 (fun _=>[]),.sl true 1 0 (fun _=>[])],.box [.sl true 4 0 (fun _=>[]),.sl true 1 0 (fun _=>[])]]
 let u16:List (Nat × D):=[(2,.ref 1 0),(5,.ref 2 0)]
 let u21:=(a0.Ze.length:Int)
 let u28:=List Zj
 unfold M.Ge at h
 refine ZC Tryz.func55 rfl (by kernel_rfl) ?_
 refine Za (rg0 [1,2] 2 ⟨186,[(1,.ref 0 0),(2,.ref 1 0)],u7⟩ ?_)
 refine Zb (Za (Za ?_))
 obtain ⟨r1,q1,h2⟩:=bind_some h
 refine rg [.pure (.int .i64 r1)] [1,2,4] 2 ⟨186,[(1,.ref 0 0),(2,.ref 1 0),(4,.int .i64 r1)],u7⟩ [] [⟨true,83,[.agg u2],.pure (.int .i64 r1)⟩] Zt ⟨fun _=>Zg2 a0 r1 q1,trivial⟩ ?_
 refine Zb (Za (rg0 [1,2,4,16] 2 ⟨186,[(1,.ref 0 0),(2,.ref 1 0),(4,.int .i64 r1),(16,.bool (r1 != 0))],u7⟩ ?_))
 refine Zb ?_
 refine cnd (r1 != 0) (fun b3=>?_) (fun b3=>?_)
 have h4:=GY b3 h2
 refine Za (rg0 [2,3] 2 ⟨186,[(2,.ref 1 0),(3,.int .i64 r1)],u7⟩ ?_)
 refine Zb (Zf (Zk ?_))
 obtain rfl:=Option.some.inj h4
 exact er (.tup [.agg [.sl false 4 0 (fun _=>[]),.sl false 1 0 (fun _=>[])],.int .i64 r1]) (Zb4 (.cons (KV (.cons V4 (.cons V4 .nil))) (.cons ASub.rfl .nil)))
 have h5:=GZ b3 h2
 refine Zd (Zb (Za (rg0 [1,2,5] 3 ⟨186,[(1,.ref 0 0),(2,.ref 1 0),(5,.ref 2 0)],u8⟩ ?_)))
 refine Zb (Za (Za (rg0 [1,2,5,6] 3 ⟨186,[(1,.ref 0 0),(2,.ref 1 0),(5,.ref 2 0),(6,.int .i64 0)],u8⟩ ?_)))
 refine Zb (Zg ?_)
 refine Wq (s':=⟨186,[(1,.ref 0 0),(2,.ref 1 0),(5,.ref 2 0),(6,.int .i64 0)],[.box u2,.box [.sl true 4 0 (fun _=>[]),.sl true 1 0 (fun _=>[])],.box [.asl 3 0 ([]:List Zj).length,.sl true 1 0 (fun _=>[])],rA 4 hdDom ([]:List Zj) (fun _=>nilV),rF 2 Xo Zj.ZW ([]:List Zj) (fun _=>nilV)]⟩) (Le.trans (s':=⟨186,[(1,.ref 0 0),(2,.ref 1 0),(5,.ref 2 0),(6,.int .i64 0)],[.box u2,.box [.sl true 4 0 (fun _=>[]),.sl true 1 0 (fun _=>[])],.box [.asl 3 0 0,.sl true 1 0 (fun _=>[])],.arr 4 0 (fun i=>Z0 (([]:List Zj).getD i default))]⟩) (Zi6 (nt:=186) (e:=[(1,.ref 0 0),(2,.ref 1 0),(5,.ref 2 0),(6,.int .i64 0)]) (H:=u8) (cells:=[.sl true 4 0 (fun _=>[]),.sl true 1 0 (fun _=>[])]) (wd:=4) (f:=fun _=>[]) 2 0 rfl rfl 4 (fun i=>Z0 (([]:List Zj).getD i default))) (Zi5 (H:=[.box u2,.box [.sl true 4 0 (fun _=>[]),.sl true 1 0 (fun _=>[])],.box [.asl 3 0 0,.sl true 1 0 (fun _=>[])]]) (wd:=4) (wi:=2) hdDom Xo Zj.ZW (fun i=>Z0 (([]:List Zj).getD i default)))) ?_
 obtain ⟨y26,q114,h115⟩:=bind_some h5
 let u9:List Ob:=[.box u2,.box [.sl true 4 0 (fun _=>[]),.sl true 1 0 (fun _=>[])],.box [sL 4 Z0 y26,.sl true 1 0 (fun _=>[])]]
 let u32:=(y26.length:Int)
 refine KU (Zb5 (f:=M.WW a0) (S:=fun (p14:u28 × Int) (vs:Nat→Value)=>⟨186,[(1,.ref 0 0),(2,.ref 1 0),(5,.ref 2 0),(6,.int .i64 p14.2)],[.box u2,.box [.sl true 4 0 (fun _=>[]),.sl true 1 0 (fun _=>[])],.box [.asl 3 0 p14.1.length,.sl true 1 0 (fun _=>[])],rA 4 hdDom p14.1 vs,rF 2 Xo Zj.ZW p14.1 vs]⟩) (O:=(fun z=>OutL 0 (fun (z:List Zj) (vs:Nat→Value)=>⟨186,u16,[.box u2,.box [.sl true 4 0 (fun _=>[]),.sl true 1 0 (fun _=>[])],.box [.asl 3 0 z.length,.sl true 1 0 (fun _=>[])],rA 4 hdDom z vs,rF 2 Xo Zj.ZW z vs]⟩) z)) ?_ (g:=(fun _=>nilV)) (x:=(([]:List Zj),0)) (y:=y26) (Wz q114)) ?_
 intro p14 y15 v14 h62
 let u17:=(a0.Ze.getD p14.2.toNat default).Zc
 let u31:=(u17.length:Int)
 unfold M.WW at h62
 refine Za (Za (rg0 [1,2,5,6,24] 5 ⟨186,[(1,.ref 0 0),(2,.ref 1 0),(5,.ref 2 0),(6,.int .i64 p14.2),(24,.bool (decide (p14.2 < u21)))],[.box u2,.box [.sl true 4 0 (fun _=>[]),.sl true 1 0 (fun _=>[])],.box [.asl 3 0 p14.1.length,.sl true 1 0 (fun _=>[])],rA 4 hdDom p14.1 v14,rF 2 Xo Zj.ZW p14.1 v14]⟩ ?_))
 refine Zb ?_
 refine cnd (decide (p14.2 < u21)) (fun b63=>?_) (fun b63=>?_)
 have h64:=GY b63 h62
 refine Zd (Zb (Za (Zg (Za (rg0 [1,2,5,6,7] 5 ⟨186,[(1,.ref 0 0),(2,.ref 1 0),(5,.ref 2 0),(6,.int .i64 p14.2),(7,.int .i64 0)],[.box u2,.box [.sl true 4 0 (fun _=>[]),.sl true 1 0 (fun _=>[])],.box [.asl 3 0 p14.1.length,.sl true 1 0 (fun _=>[])],rA 4 hdDom p14.1 v14,rF 2 Xo Zj.ZW p14.1 v14]⟩ ?_)))))
 refine Zb (Zg ?_)
 obtain ⟨y25,q108,h109⟩:=bind_some h64
 refine KU (Zb5 (f:=M.WV a0 p14) (S:=fun (p16:u28 × Int) (vs:Nat→Value)=>⟨186,[(1,.ref 0 0),(2,.ref 1 0),(5,.ref 2 0),(6,.int .i64 p14.2),(7,.int .i64 p16.2)],[.box u2,.box [.sl true 4 0 (fun _=>[]),.sl true 1 0 (fun _=>[])],.box [.asl 3 0 p16.1.length,.sl true 1 0 (fun _=>[])],rA 4 hdDom p16.1 vs,rF 2 Xo Zj.ZW p16.1 vs]⟩) (O:=(fun z=>OutL 2 (fun (z:List Zj) (vs:Nat→Value)=>⟨186,[(1,.ref 0 0),(2,.ref 1 0),(5,.ref 2 0),(6,.int .i64 p14.2)],[.box u2,.box [.sl true 4 0 (fun _=>[]),.sl true 1 0 (fun _=>[])],.box [.asl 3 0 z.length,.sl true 1 0 (fun _=>[])],rA 4 hdDom z vs,rF 2 Xo Zj.ZW z vs]⟩) z)) ?_ (g:=v14) (x:=(p14.1,0)) (y:=y25) (Wz q108)) ?_
 intro p16 y17 v16 h66
 let u1:=u17.getD p16.2.toNat default
 let u5:=(p16.1.length:Int)
 let u10:=Zl u1
 let u34:=((u1.ZE)==0)||(u1.Jx)
 unfold M.WV at h66
 refine Za (Za ?_)
 obtain ⟨c67,h68⟩:=Zo h66
 refine rgc [1,2,5,6,7,35] 5 ⟨186,[(1,.ref 0 0),(2,.ref 1 0),(5,.ref 2 0),(6,.int .i64 p14.2),(7,.int .i64 p16.2),(35,.bool (decide (p16.2 < u31)))],[.box u2,.box [.sl true 4 0 (fun _=>[]),.sl true 1 0 (fun _=>[])],.box [.asl 3 0 p16.1.length,.sl true 1 0 (fun _=>[])],rA 4 hdDom p16.1 v16,rF 2 Xo Zj.ZW p16.1 v16]⟩ [decide (0≤p14.2),decide (p14.2 < u21)] c67 ?_
 refine Zb ?_
 refine cnd (decide (p16.2 < u31)) (fun b69=>?_) (fun b69=>?_)
 have h70:=GY b69 h68
 refine Zd (Zb ?_)
 refine Jz (fun (p18:u28 × (Nat→Value))=>⟨186,[(1,.ref 0 0),(2,.ref 1 0),(5,.ref 2 0),(6,.int .i64 p14.2),(7,.int .i64 p16.2)],[.box u2,.box [.sl true 4 0 (fun _=>[]),.sl true 1 0 (fun _=>[])],.box [.asl 3 0 p18.1.length,.sl true 1 0 (fun _=>[])],rA 4 hdDom p18.1 p18.2,rF 2 Xo Zj.ZW p18.1 p18.2]⟩) (fun p18=>M.Uy p16 p18.1=some y17) ?_ ?_
 intro p18 h73
 unfold M.Uy at h73
 refine rg0 [1,2,5,6,7] 5 ⟨186,[(1,.ref 0 0),(2,.ref 1 0),(5,.ref 2 0),(6,.int .i64 p14.2),(7,.int .i64 (wr .i64 (p16.2+1)))],[.box u2,.box [.sl true 4 0 (fun _=>[]),.sl true 1 0 (fun _=>[])],.box [.asl 3 0 p18.1.length,.sl true 1 0 (fun _=>[])],rA 4 hdDom p18.1 p18.2,rF 2 Xo Zj.ZW p18.1 p18.2]⟩ ?_
 obtain rfl:=Option.some.inj h73
 exact Zbg p18.2 (Uw)
 intro k72
 refine Zg (Za ?_)
 obtain ⟨c74,h75⟩:=Zo h70
 refine rgc [1,2,5,6,7,8] 6 ⟨186,[(1,.ref 0 0),(2,.ref 1 0),(5,.ref 2 0),(6,.int .i64 p14.2),(7,.int .i64 p16.2),(8,.ref 5 0)],[.box u2,.box [.sl true 4 0 (fun _=>[]),.sl true 1 0 (fun _=>[])],.box [.asl 3 0 p16.1.length,.sl true 1 0 (fun _=>[])],rA 4 hdDom p16.1 v16,rF 2 Xo Zj.ZW p16.1 v16,.box u10]⟩ [decide (0≤p14.2),decide (p14.2 < u21),decide (0≤p16.2),decide (p16.2 < u31)] c74 ?_
 refine Zb (Za (Za (rg0 [1,2,5,6,7,8,53] 6 ⟨186,[(1,.ref 0 0),(2,.ref 1 0),(5,.ref 2 0),(6,.int .i64 p14.2),(7,.int .i64 p16.2),(8,.ref 5 0),(53,.bool u34)],[.box u2,.box [.sl true 4 0 (fun _=>[]),.sl true 1 0 (fun _=>[])],.box [.asl 3 0 p16.1.length,.sl true 1 0 (fun _=>[])],rA 4 hdDom p16.1 v16,rF 2 Xo Zj.ZW p16.1 v16,.box u10]⟩ ?_)))
 refine Zb ?_
 refine cnd u34 (fun b76=>?_) (fun b76=>?_)
 have h77:=GY b76 h75
 refine ZD (Xc (Qg ?_))
 exact ZZ (Le.trans (s':=⟨186,[(1,.ref 0 0),(2,.ref 1 0),(5,.ref 2 0),(6,.int .i64 p14.2),(7,.int .i64 p16.2)],[.box u2,.box [.sl true 4 0 (fun _=>[]),.sl true 1 0 (fun _=>[])],.box [.asl 3 0 p16.1.length,.sl true 1 0 (fun _=>[])],rA 4 hdDom p16.1 v16,rF 2 Xo Zj.ZW p16.1 v16,.box u10]⟩) (kp [1,2,5,6,7]) (UO (n:=5) (by kernel_rfl))) (k72 (p16.1,v16) h77)
 have h78:=GZ b76 h75
 refine Zd (Zb (Za ?_))
 obtain ⟨r19,q79,h80⟩:=bind_some h78
 let u12:=Xd r19
 refine rg [.pure (.agg u12)] [1,2,5,6,7,8,9] 7 ⟨186,[(1,.ref 0 0),(2,.ref 1 0),(5,.ref 2 0),(6,.int .i64 p14.2),(7,.int .i64 p16.2),(8,.ref 5 0),(9,.ref 6 0)],[.box u2,.box [.sl true 4 0 (fun _=>[]),.sl true 1 0 (fun _=>[])],.box [.asl 3 0 p16.1.length,.sl true 1 0 (fun _=>[])],rA 4 hdDom p16.1 v16,rF 2 Xo Zj.ZW p16.1 v16,.box u10,.box u12]⟩ [] [⟨true,84,[.int .u32 (u1.Zm),.int .i64 (u1.ZE)],.pure (.agg u12)⟩] Zt ⟨fun _=>KJ (u1.Zm) (u1.ZE) r19 q79,trivial⟩ ?_
 refine Zb (Za (rg0 [1,2,5,6,7,8,9,10] 7 ⟨186,[(1,.ref 0 0),(2,.ref 1 0),(5,.ref 2 0),(6,.int .i64 p14.2),(7,.int .i64 p16.2),(8,.ref 5 0),(9,.ref 6 0),(10,.int .i64 0)],[.box u2,.box [.sl true 4 0 (fun _=>[]),.sl true 1 0 (fun _=>[])],.box [.asl 3 0 p16.1.length,.sl true 1 0 (fun _=>[])],rA 4 hdDom p16.1 v16,rF 2 Xo Zj.ZW p16.1 v16,.box u10,.box u12]⟩ ?_))
 refine Zb (Za (Zg ?_))
 obtain ⟨y23,q89,h90⟩:=bind_some h80
 let u19:=p16.1.getD (0+y23.toNat) default
 let u3:=!((((u19.Zh).Zm)==r19.Zm)&&((((u19.Zh).ZE)==r19.ZE)&&true))
 let u6:=p16.1.length - y23.toNat
 let u18:=y23.toNat - 0
 let u24:=(u18+1)+(0+u6)
 let u30:=(y23==u5)||u3
 let u26:=u30||((u19.XN) != (u1.XN))
 let u29:=(u18+1)*48≤140737488355328
 let u35:=u24*48≤140737488355328
 refine Wq (s':=⟨186,[(1,.ref 0 0),(2,.ref 1 0),(5,.ref 2 0),(6,.int .i64 p14.2),(7,.int .i64 p16.2),(8,.ref 5 0),(9,.ref 6 0),(10,.int .i64 0)],[.box u2,.box [.sl true 4 0 (fun _=>[]),.sl true 1 0 (fun _=>[])],.box [.asl 3 0 p16.1.length,.sl true 1 0 (fun _=>[])],rA 4 hdDom p16.1 v16,rF 2 Xo Zj.ZW p16.1 v16,.box u10,.box u12]⟩) (Uw) ?_
 refine KU (Zf8 (f:=M.WU a0 p14 p16 r19) (S:=fun (p20:Int)=>⟨186,[(1,.ref 0 0),(2,.ref 1 0),(5,.ref 2 0),(6,.int .i64 p14.2),(7,.int .i64 p16.2),(8,.ref 5 0),(9,.ref 6 0),(10,.int .i64 p20)],[.box u2,.box [.sl true 4 0 (fun _=>[]),.sl true 1 0 (fun _=>[])],.box [.asl 3 0 p16.1.length,.sl true 1 0 (fun _=>[])],rA 4 hdDom p16.1 v16,rF 2 Xo Zj.ZW p16.1 v16,.box u10,.box u12]⟩) (O:=(fun z=>OutE 4 (fun z=>⟨186,[(1,.ref 0 0),(2,.ref 1 0),(5,.ref 2 0),(6,.int .i64 p14.2),(7,.int .i64 p16.2),(8,.ref 5 0),(9,.ref 6 0),(10,.int .i64 z)],[.box u2,.box [.sl true 4 0 (fun _=>[]),.sl true 1 0 (fun _=>[])],.box [.asl 3 0 p16.1.length,.sl true 1 0 (fun _=>[])],rA 4 hdDom p16.1 v16,rF 2 Xo Zj.ZW p16.1 v16,.box u10,.box u12]⟩) z)) ?_ (x:=0) (y:=y23) (Wz q89)) ?_
 intro p20 y21 h81
 let u13:=p16.1.getD (0+p20.toNat) default
 let u4:=(((u13.Zh).Zm)==r19.Zm)&&((((u13.Zh).ZE)==r19.ZE)&&true)
 let u15:=decide (p20 < u5)
 let u27:=decide (0≤p20)
 unfold M.WU at h81
 refine Za (Za ?_)
 obtain ⟨r22,q82,h83⟩:=bind_some h81
 let u20:=decide (r22 < 0)
 let u22:=u15&&(u20||(u4&&(decide ((u13.XN) < (u1.XN)))))
 obtain ⟨c84,h85⟩:=Zo h83
 refine rg [.pure (.int .i64 r22)] [1,2,5,6,7,8,9,10,95] 7 ⟨186,[(1,.ref 0 0),(2,.ref 1 0),(5,.ref 2 0),(6,.int .i64 p14.2),(7,.int .i64 p16.2),(8,.ref 5 0),(9,.ref 6 0),(10,.int .i64 p20),(95,.bool u22)],[.box u2,.box [.sl true 4 0 (fun _=>[]),.sl true 1 0 (fun _=>[])],.box [.asl 3 0 p16.1.length,.sl true 1 0 (fun _=>[])],rA 4 hdDom p16.1 v16,rF 2 Xo Zj.ZW p16.1 v16,.box u10,.box u12]⟩ [guardB u15 u27,guardB u15 u15,guardB (u15 && !u20) u27,guardB (u15 && !u20) u15,guardB ((u15 && !u20)&&u4) u27,guardB ((u15 && !u20)&&u4) u15] [⟨decide (p20 < u5),29,[.agg (Xd (u13.Zh)),.agg u12],.pure (.int .i64 r22)⟩] c84 ⟨fun hg=>ZaI (u13.Zh) r19 r22 (Xg q82 hg),trivial⟩ ?_
 refine Zb ?_
 refine cnd u22 (fun b86=>?_) (fun b86=>?_)
 have h87:=GY b86 h85
 refine Zd (Zb (Zg (rg0 [1,2,5,6,7,8,9,10] 7 ⟨186,[(1,.ref 0 0),(2,.ref 1 0),(5,.ref 2 0),(6,.int .i64 p14.2),(7,.int .i64 p16.2),(8,.ref 5 0),(9,.ref 6 0),(10,.int .i64 (wr .i64 (p20+1)))],[.box u2,.box [.sl true 4 0 (fun _=>[]),.sl true 1 0 (fun _=>[])],.box [.asl 3 0 p16.1.length,.sl true 1 0 (fun _=>[])],rA 4 hdDom p16.1 v16,rF 2 Xo Zj.ZW p16.1 v16,.box u10,.box u12]⟩ ?_)))
 refine XA ?_
 obtain rfl:=Option.some.inj h87
 exact ZfP (Uw)
 have h88:=GZ b86 h85
 refine ZD (Xc ?_)
 obtain rfl:=Option.some.inj h88
 exact ZhM ⟨rfl,kp [1,2,5,6,7,8,9,10]⟩
 intro e91 s92 o93
 obtain ⟨rfl,l94⟩:=o93
 refine Qg ?_
 refine ZZ (s':=⟨186,[(1,.ref 0 0),(2,.ref 1 0),(5,.ref 2 0),(6,.int .i64 p14.2),(7,.int .i64 p16.2),(8,.ref 5 0),(9,.ref 6 0),(10,.int .i64 y23)],[.box u2,.box [.sl true 4 0 (fun _=>[]),.sl true 1 0 (fun _=>[])],.box [.asl 3 0 p16.1.length,.sl true 1 0 (fun _=>[])],rA 4 hdDom p16.1 v16,rF 2 Xo Zj.ZW p16.1 v16,.box u10,.box u12]⟩) (l94) ?_
 refine Jz (fun (p24:u28 × (Nat→Value))=>⟨186,[(1,.ref 0 0),(2,.ref 1 0),(5,.ref 2 0),(6,.int .i64 p14.2),(7,.int .i64 p16.2),(10,.int .i64 y23)],[.box u2,.box [.sl true 4 0 (fun _=>[]),.sl true 1 0 (fun _=>[])],.box [.asl 3 0 p24.1.length,.sl true 1 0 (fun _=>[])],rA 4 hdDom p24.1 p24.2,rF 2 Xo Zj.ZW p24.1 p24.2]⟩) (fun p24=>M.Uz p14 p16 y23 p24.1=some y17) ?_ ?_
 intro p24 h96
 let u14:=p24.1.getD (0+y23.toNat) default
 let u23:=u14.ZW.length+1
 unfold M.Uz at h96
 obtain ⟨c97,h98⟩:=Zo h96
 have g1:0≤y23:=of_decide_eq_true (c97 _ (by simp only [List.mem_cons,true_or]))
 have g2:y23 < (p24.1.length:Int):=of_decide_eq_true (c97 _ (by simp only [List.mem_cons,true_or,or_true]))
 have g3:(((p24.1.getD (0+y23.toNat) default).ZW).length+1)*16≤140737488355328:=of_decide_eq_true (c97 _ (by simp only [List.mem_cons,true_or,or_true]))
 refine Wq (Zml (idf:=4) (0+y23.toNat) rfl) ?_
 refine rgvB [1] [.gone,.gone,.box [.asl 3 0 p24.1.length,.sl true 1 0 (fun _=>[])]] [[.box u2,.box [.sl true 4 0 (fun _=>[]),.sl true 1 0 (fun _=>[])],.box [.asl 3 0 p24.1.length,.sl true 1 0 (fun _=>[])],rA 4 hdDom p24.1 p24.2,.fam (0+y23.toNat) (fun v=>pB (v=p24.2 (0+y23.toNat))) p24.1.length 2 p24.2 (rls Xo Zj.ZW p24.1)],[.box u2,.box [.sl true 4 0 (fun _=>[]),.sl true 1 0 (fun _=>[])],.box [.asl 3 0 p24.1.length,.sl true 1 0 (fun _=>[])],rA 4 hdDom p24.1 p24.2,.fam (0+y23.toNat) (fun _=>false) p24.1.length 2 (updV p24.2 (0+y23.toNat) nilV) (updL (rls Xo Zj.ZW p24.1) (0+y23.toNat) (0,fun _=>[])),.arr 2 u23 (app (rls Xo Zj.ZW p24.1 (0+y23.toNat)).2 (rls Xo Zj.ZW p24.1 (0+y23.toNat)).1 (fun i=>List.take 2 (List.drop (i*2) [.int .i64 p14.2,.int .i64 p16.2])))]] 14 [] [1,2,5,6,7,144,145,156] 6 ⟨186,[(1,.ref 0 0),(2,.ref 1 0),(5,.ref 2 0),(6,.int .i64 p14.2),(7,.int .i64 p16.2),(144,.asl 3 0 p24.1.length),(145,.int .i64 y23),(156,.asl 5 0 u23)],[.box u2,.box [.sl true 4 0 (fun _=>[]),.sl true 1 0 (fun _=>[])],.box [.asl 3 0 p24.1.length,.sl true 1 0 (fun _=>[])],rA 4 hdDom p24.1 p24.2,.fam (0+y23.toNat) (fun _=>false) p24.1.length 2 (updV p24.2 (0+y23.toNat) nilV) (updL (rls Xo Zj.ZW p24.1) (0+y23.toNat) (0,fun _=>[])),.arr 2 u23 (app (rls Xo Zj.ZW p24.1 (0+y23.toNat)).2 (rls Xo Zj.ZW p24.1 (0+y23.toNat)).1 (fun i=>List.take 2 (List.drop (i*2) [.int .i64 p14.2,.int .i64 p16.2])))]⟩ [decide (0≤y23),decide (y23 < (p24.1.length:Int)),pB (p24.2 (0+y23.toNat)=p24.2 (0+y23.toNat)),decide ((0+y23.toNat) < p24.1.length),decide (u23*16≤140737488355328)] [] ?_ trivial ?_ _ (Zkt (idf:=4) 156 (0+y23.toNat) rfl rfl rfl ?_ rfl) [] [1,2,5,6,7] 5 (fun w=>⟨186,[(1,.ref 0 0),(2,.ref 1 0),(5,.ref 2 0),(6,.int .i64 p14.2),(7,.int .i64 p16.2)],[.box u2,.box [.sl true 4 0 (fun _=>[]),.sl true 1 0 (fun _=>[])],.box [.asl 3 0 p24.1.length,.sl true 1 0 (fun _=>[])],.arr 4 p24.1.length (fun j=>bif Nat.beq j (0+y23.toNat) then splice (hdDom u14++[.val (p24.2 (0+y23.toNat))]) [.val w] 3 else hdDom (p24.1.getD j default)++[.val (p24.2 j)]),.fam 0 (fun _=>false) p24.1.length 2 (updV (updV p24.2 (0+y23.toNat) nilV) (0+y23.toNat) w) (updL (updL (rls Xo Zj.ZW p24.1) (0+y23.toNat) (0,fun _=>[])) (0+y23.toNat) (u14.ZW.length+1,(app (rls Xo Zj.ZW p24.1 (0+y23.toNat)).2 (rls Xo Zj.ZW p24.1 (0+y23.toNat)).1 (fun i=>List.take 2 (List.drop (i*2) [.int .i64 p14.2,.int .i64 p16.2])))))]⟩) (fun _=>[decide (0≤y23),decide (y23 < (p24.1.length:Int))]) (fun _=>[]) ?_ (fun _=>trivial) (fun w=>?_)
 · exact am (decide_eq_true g1) (am (decide_eq_true g2) (am (Zmk rfl) (am (decide_eq_true (by omega)) (am (decide_eq_true g3) Zt))))
 · intro x hx
   simp only [List.mem_cons,List.not_mem_nil,or_false] at hx
   rcases hx with rfl | rfl <;> exact ⟨rfl,trivial⟩
 · rw [Uu]; rfl
 · exact fun _=>am (decide_eq_true g1) (am (decide_eq_true g2) Zt)
 refine XA ?_
 exact ZZ (Le.trans (Zkz 3 4 hdDom Xo Zj.ZW p24.1 (⟨(p24.1.getD (0+y23.toNat) default).Zh,(p24.1.getD (0+y23.toNat) default).XN,((p24.1.getD (0+y23.toNat) default).ZW)++[(⟨p14.2,p16.2⟩:VL)]⟩:Zj) p24.2 (0+y23.toNat) w ((p24.1.getD (0+y23.toNat) default).ZW.length+1) (app (rls Xo Zj.ZW p24.1 (0+y23.toNat)).2 (rls Xo Zj.ZW p24.1 (0+y23.toNat)).1 (fun i=>List.take 2 (List.drop (i*2) [.int .i64 p14.2,.int .i64 p16.2]))) _ _ _ (by decide) rfl rfl (fun j _ hj=>by rw [ZcW hj]; rfl) (fun _=>by rw [Nat.beq_refl]; rfl) (fun j hj=>GW hj) (fun j hj=>Zb1 hj) (by simp) (fun i hi=>KW Xo (p24.1.getD (0+y23.toNat) default).ZW (⟨p14.2,p16.2⟩:VL) (fun i=>List.take 2 (List.drop (i*2) [.int .i64 p14.2,.int .i64 p16.2])) rfl i hi)) (QU (.cons Sub.rfl (.cons Sub.rfl (.cons Sub.rfl (.cons Sub.rfl (.cons Sub.rfl .nil))))) (.cons .rfl (.cons .rfl (.cons (.box (.cons (Zgr (by simp)) (.cons CSub.rfl .nil))) (.cons .rfl (.cons .rfl .nil))))))) (k72 (p24.1.set (0+y23.toNat) (⟨(p24.1.getD (0+y23.toNat) default).Zh,(p24.1.getD (0+y23.toNat) default).XN,((p24.1.getD (0+y23.toNat) default).ZW)++[(⟨p14.2,p16.2⟩:VL)]⟩:Zj),updV p24.2 (0+y23.toNat) w) h98)
 intro k95
 refine Za ?_
 obtain ⟨c99,h100⟩:=Zo h90
 refine rgc [1,2,5,6,7,8,9,10,123] 7 ⟨186,[(1,.ref 0 0),(2,.ref 1 0),(5,.ref 2 0),(6,.int .i64 p14.2),(7,.int .i64 p16.2),(8,.ref 5 0),(9,.ref 6 0),(10,.int .i64 y23),(123,.bool u26)],[.box u2,.box [.sl true 4 0 (fun _=>[]),.sl true 1 0 (fun _=>[])],.box [.asl 3 0 p16.1.length,.sl true 1 0 (fun _=>[])],rA 4 hdDom p16.1 v16,rF 2 Xo Zj.ZW p16.1 v16,.box u10,.box u12]⟩ [guardB (!(y23==u5)) (decide (0≤y23)),guardB (!(y23==u5)) (decide (y23 < u5)),guardB (!u30) (decide (0≤y23)),guardB (!u30) (decide (y23 < u5))] c99 ?_
 refine Zb ?_
 refine cnd u26 (fun b101=>?_) (fun b101=>?_)
 have h102:=GY b101 h100
 refine Za ?_
 obtain ⟨c104,h105⟩:=Zo h102
 refine rgc [1,2,5,6,7,8,9,10,11] 8 ⟨186,[(1,.ref 0 0),(2,.ref 1 0),(5,.ref 2 0),(6,.int .i64 p14.2),(7,.int .i64 p16.2),(8,.ref 5 0),(9,.ref 6 0),(10,.int .i64 y23),(11,.asl 7 0 (0+u6))],[.box u2,.box [.sl true 4 0 (fun _=>[]),.sl true 1 0 (fun _=>[])],.box [.asl 3 0 p16.1.length,.sl true 1 0 (fun _=>[])],rA 4 hdDom p16.1 v16,rF 2 Xo Zj.ZW p16.1 v16,.box u10,.box u12,.arr 4 (0+u6) (app (fun i=>List.take 4 (List.drop (i*4) [])) 0 (fun i=>hdDom (p16.1.getD ((0+y23.toNat)+i) default)++[.val (v16 ((0+y23.toNat)+i))]))]⟩ [decide (0≤y23),decide (y23≤u5),decide (0=0)||decide (0 < u6),decide ((0+u6)*48≤140737488355328)] c104 ?_
 refine Zb ?_
 obtain ⟨c106,h107⟩:=Zo h105
 have g1:0≤y23:=of_decide_eq_true (c106 _ (by simp only [List.mem_cons,true_or]))
 have g2:y23≤(p16.1.length:Int):=of_decide_eq_true (c106 _ (by simp only [List.mem_cons,true_or,or_true]))
 have g3:((y23.toNat - 0)+1)*48≤140737488355328:=of_decide_eq_true (c106 _ (by simp only [List.mem_cons,true_or,or_true]))
 have g4:(((y23.toNat - 0)+1)+(0+(p16.1.length - y23.toNat)))*48≤140737488355328:=of_decide_eq_true (c106 _ (by simp only [List.mem_cons,true_or,or_true]))
 refine rgp 9 [] [1,2,5,6,7,10,11,133,138] 8 ⟨186,[(1,.ref 0 0),(2,.ref 1 0),(5,.ref 2 0),(6,.int .i64 p14.2),(7,.int .i64 p16.2),(10,.int .i64 y23),(11,.asl 7 0 (0+u6)),(133,.asl 3 0 u18),(138,.sl true 4 1 (fun i=>List.take 4 (List.drop (i*4) [.int .u32 r19.Zm,.int .i64 r19.ZE,.int .i64 u1.XN,.sl true 2 0 (fun _=>[])])))],[.box u2,.box [.sl true 4 0 (fun _=>[]),.sl true 1 0 (fun _=>[])],.box [.asl 3 0 p16.1.length,.sl true 1 0 (fun _=>[])],rA 4 hdDom p16.1 v16,rF 2 Xo Zj.ZW p16.1 v16,.box u10,.box u12,.arr 4 (0+u6) (app (fun i=>List.take 4 (List.drop (i*4) [])) 0 (fun i=>hdDom (p16.1.getD ((0+y23.toNat)+i) default)++[.val (v16 ((0+y23.toNat)+i))]))]⟩ [1,2,5,6,7,10,133,138,140] 8 ⟨186,[(1,.ref 0 0),(2,.ref 1 0),(5,.ref 2 0),(6,.int .i64 p14.2),(7,.int .i64 p16.2),(10,.int .i64 y23),(133,.asl 3 0 u18),(138,.sl true 4 1 (fun i=>List.take 4 (List.drop (i*4) [.int .u32 r19.Zm,.int .i64 r19.ZE,.int .i64 u1.XN,.sl true 2 0 (fun _=>[])]))),(140,.asl 7 0 (0+u6))],[.box u2,.box [.sl true 4 0 (fun _=>[]),.sl true 1 0 (fun _=>[])],.box [.asl 3 0 p16.1.length,.sl true 1 0 (fun _=>[])],rA 4 hdDom p16.1 v16,rF 2 Xo Zj.ZW p16.1 v16,.box u10,.box u12,.arr 4 (0+u6) (app (fun i=>List.take 4 (List.drop (i*4) [])) 0 (fun i=>hdDom (p16.1.getD ((0+y23.toNat)+i) default)++[.val (v16 ((0+y23.toNat)+i))]))]⟩ [decide (0≤y23),decide (y23≤u5)] [] (am (decide_eq_true g1) (am (decide_eq_true g2) Zt)) trivial [] [1,2,5,6,7,10] 5 ⟨186,[(1,.ref 0 0),(2,.ref 1 0),(5,.ref 2 0),(6,.int .i64 p14.2),(7,.int .i64 p16.2),(10,.int .i64 y23)],[.box u2,.box [.sl true 4 0 (fun _=>[]),.sl true 1 0 (fun _=>[])],.box [.asl 3 0 u24,.sl true 1 0 (fun _=>[])],.arr 4 u24 (app (app (fun j=>hdDom (p16.1.getD j default)++[.val (v16 j)]) u18 (fun i=>List.take 4 (List.drop (i*4) [.int .u32 r19.Zm,.int .i64 r19.ZE,.int .i64 u1.XN,.sl true 2 0 (fun _=>[])]))) (u18+1) (fun i=>(app (fun i=>List.take 4 (List.drop (i*4) [])) 0 (fun i=>hdDom (p16.1.getD ((0+y23.toNat)+i) default)++[.val (v16 ((0+y23.toNat)+i))])) (0+i))),rF 2 Xo Zj.ZW p16.1 v16]⟩ [decide u29,decide u35] [] (am (decide_eq_true g3) (am (decide_eq_true g4) Zt)) trivial [] [1,2,5,6,7,10,139,140] 8 ⟨186,[(1,.ref 0 0),(2,.ref 1 0),(5,.ref 2 0),(6,.int .i64 p14.2),(7,.int .i64 p16.2),(10,.int .i64 y23),(139,.asl 3 0 (u18+1)),(140,.asl 7 0 (0+u6))],[.box u2,.box [.sl true 4 0 (fun _=>[]),.sl true 1 0 (fun _=>[])],.box [.any,.sl true 1 0 (fun _=>[])],.arr 4 (u18+1) (app (fun j=>hdDom (p16.1.getD j default)++[.val (v16 j)]) u18 (fun i=>List.take 4 (List.drop (i*4) [.int .u32 r19.Zm,.int .i64 r19.ZE,.int .i64 u1.XN,.sl true 2 0 (fun _=>[])]))),rF 2 Xo Zj.ZW p16.1 v16,.box u10,.box u12,.arr 4 (0+u6) (app (fun i=>List.take 4 (List.drop (i*4) [])) 0 (fun i=>hdDom (p16.1.getD ((0+y23.toNat)+i) default)++[.val (v16 ((0+y23.toNat)+i))]))]⟩ [decide u29] [] (am (decide_eq_true g3) Zt) trivial [] [1,2,5,6,7,10] 5 [decide u35] [] (am (decide_eq_true g4) Zt) trivial ?_
 refine RI (ZmG (w1:=2) (g:=fun _=>[]) 3 4 hdDom Xo Zj.ZW p16.1 y23.toNat (⟨r19,(((a0.Ze.getD p14.2.toNat default).Zc).getD p16.2.toNat default).XN,([]:List VL)⟩:Zj) v16 (by decide) (by omega) (by omega) rfl rfl rfl (fun j hj=>?_) ?_ (fun j hj hj2=>?_)) fun w=>?_
 · exact (ZfT (by omega)).trans (ZfT (by omega))
 · exact (ZfT (by omega)).trans ((congrArg (app _ (y23.toNat - 0) _) (show y23.toNat=y23.toNat - 0 by omega)).trans ZmF)
 · rw [ZmE (by omega)]
   show app _ 0 _ (0+(j - (y23.toNat - 0+1)))=_
   rw [ZmE (Nat.zero_le _)]
   have e:(0+y23.toNat)+((0+(j - (y23.toNat - 0+1))) - 0)=j - 1:=by omega
   simp only [e]
 exact Wq (QU (.cons Sub.rfl (.cons Sub.rfl (.cons Sub.rfl (.cons Sub.rfl (.cons Sub.rfl (.cons Sub.rfl .nil)))))) (.cons .rfl (.cons .rfl (.cons (.box (.cons (Zgr (by rw [ZdJ (by omega)]; omega)) (.cons CSub.rfl .nil))) (.cons .rfl (.cons .rfl .nil)))))) (k95 (insL p16.1 y23.toNat (⟨r19,(((a0.Ze.getD p14.2.toNat default).Zc).getD p16.2.toNat default).XN,([]:List VL)⟩:Zj),insV v16 y23.toNat w.1) h107)
 have h103:=GZ b101 h100
 refine Zd ?_
 exact ZZ (Le.trans (s':=⟨186,[(1,.ref 0 0),(2,.ref 1 0),(5,.ref 2 0),(6,.int .i64 p14.2),(7,.int .i64 p16.2),(10,.int .i64 y23)],[.box u2,.box [.sl true 4 0 (fun _=>[]),.sl true 1 0 (fun _=>[])],.box [.asl 3 0 p16.1.length,.sl true 1 0 (fun _=>[])],rA 4 hdDom p16.1 v16,rF 2 Xo Zj.ZW p16.1 v16,.box u10,.box u12]⟩) (kp [1,2,5,6,7,10]) (UO (n:=5) (by kernel_rfl))) (k95 (p16.1,v16) h103)
 have h71:=GZ b69 h68
 refine ZD (Xc ?_)
 obtain rfl:=Option.some.inj h71
 exact ZdI ⟨rfl,LeE.of v16 (kp [1,2,5,6])⟩
 intro e110 s111 o112
 obtain ⟨rfl,l113⟩:=o112
 refine Qg (XA ?_)
 refine RI l113 fun v25=>?_
 refine rg0 [1,2,5,6] 5 ⟨186,[(1,.ref 0 0),(2,.ref 1 0),(5,.ref 2 0),(6,.int .i64 (wr .i64 (p14.2+1)))],[.box u2,.box [.sl true 4 0 (fun _=>[]),.sl true 1 0 (fun _=>[])],.box [.asl 3 0 y25.length,.sl true 1 0 (fun _=>[])],rA 4 hdDom y25 v25,rF 2 Xo Zj.ZW y25 v25]⟩ ?_
 obtain rfl:=Option.some.inj h109
 exact Zbg v25 (Uw)
 have h65:=GZ b63 h62
 refine ZD (Xc ?_)
 obtain rfl:=Option.some.inj h65
 exact ZdI ⟨rfl,LeE.of v14 (kp [2,5])⟩
 intro e116 s117 o118
 obtain ⟨rfl,l119⟩:=o118
 refine Qg ?_
 refine RI l119 fun v26=>?_
 refine Za (Za ?_)
 refine Wq (s':=⟨186,u16,[.box u2,.box [.sl true 4 0 (fun _=>[]),.sl true 1 0 (fun _=>[])],.box [.sl false 4 y26.length (fun k=>(fun i=>Z0 (y26.getD i default)) (0+k)),.sl true 1 0 (fun _=>[])],aL 4 Z0 ([]:List Zj),.fam 0 (fun _=>false) 0 2 v26 (rls Xo Zj.ZW y26)]⟩) (Le.trans (s':=⟨186,u16,[.box u2,.box [.sl true 4 0 (fun _=>[]),.sl true 1 0 (fun _=>[])],.box [.asl 3 0 y26.length,.sl true 1 0 (fun _=>[])],aL 4 Z0 y26,.fam 0 (fun _=>false) 0 2 v26 (rls Xo Zj.ZW y26)]⟩) (ZkA 3 4 hdDom Xo Zj.ZW Z0 y26 v26 rfl rfl (fun _=>rfl)) (Le.trans ((ZcT (s:=⟨186,u16,[.box u2,.box [.sl true 4 0 (fun _=>[]),.sl true 1 0 (fun _=>[])],.box [.asl 3 0 y26.length,.sl true 1 0 (fun _=>[])],aL 4 Z0 y26,.fam 0 (fun _=>false) 0 2 v26 (rls Xo Zj.ZW y26)]⟩) (s':=⟨186,u16,[.box u2,.box [.sl true 4 0 (fun _=>[]),.sl true 1 0 (fun _=>[])],.box [.sl false 4 y26.length (fun k=>(fun i=>Z0 (y26.getD i default)) (0+k)),.sl true 1 0 (fun _=>[])],aL 4 Z0 ([]:List Zj),.fam 0 (fun _=>false) 0 2 v26 (rls Xo Zj.ZW y26)]⟩) 3 4 y26.length (fun i=>Z0 (y26.getD i default)) (fun i=>Z0 (([]:List Zj).getD i default)) (by kernel_rfl) (by kernel_rfl) (by kernel_rfl))) (kp [2,5]))) ?_
 refine rg0 [2,5,12] 3 ⟨186,[(2,.ref 1 0),(5,.ref 2 0),(12,.int .i64 0)],[.box u2,.box [.sl true 4 0 (fun _=>[]),.sl true 1 0 (fun _=>[])],.box [.sl false 4 y26.length (fun k=>(fun i=>Z0 (y26.getD i default)) (0+k)),.sl true 1 0 (fun _=>[])]]⟩ ?_
 refine ZZ (s':=⟨186,[(2,.ref 1 0),(5,.ref 2 0),(12,.int .i64 0)],u9⟩) (QU (.cons Sub.rfl (.cons Sub.rfl (.cons Sub.rfl .nil))) (.cons .rfl (.cons .rfl (.cons (.box (.cons (KP rfl (Zaa (f:=fun i=>Z0 (y26.getD i default)) (fun _ _=>rfl))) (.cons CSub.rfl .nil))) .nil)))) ?_
 refine Zg ?_
 refine Wq (s':=⟨186,[(2,.ref 1 0),(5,.ref 2 0),(12,.int .i64 0)],u9⟩) (Uw) ?_
 refine Wq (s':=⟨186,[(2,.ref 1 0),(5,.ref 2 0),(12,.int .i64 0)],[.box u2,.box [.sl true 4 0 (fun _=>[]),.sl true 1 0 (fun _=>[])],.box [sL 4 Z0 y26,.asl 3 0 (([]:List Int).length)],aL 1 (ci .i64) ([]:List Int)]⟩) (Zi6 (nt:=186) (e:=[(2,.ref 1 0),(5,.ref 2 0),(12,.int .i64 0)]) (H:=u9) (cells:=[sL 4 Z0 y26,.sl true 1 0 (fun _=>[])]) (wd:=1) (f:=fun _=>[]) 2 1 rfl rfl 1 (fun i=>(ci .i64) (([]:List Int).getD i default))) ?_
 obtain ⟨y31,q136,h137⟩:=bind_some h115
 let u11:List (Nat × D):=[(2,.ref 1 0),(5,.ref 2 0),(183,.bool (decide ((y31.length:Int) > 12)))]
 refine Wq (s':=⟨186,[(2,.ref 1 0),(5,.ref 2 0),(12,.int .i64 0)],[.box u2,.box [.sl true 4 0 (fun _=>[]),.sl true 1 0 (fun _=>[])],.box [sL 4 Z0 y26,.asl 3 0 (([]:List Int).length)],aL 1 (ci .i64) ([]:List Int)]⟩) (Uw) ?_
 refine KU (Zf8 (f:=M.WX y26) (S:=fun (p28:(List Int) × Int)=>⟨186,[(2,.ref 1 0),(5,.ref 2 0),(12,.int .i64 p28.2)],[.box u2,.box [.sl true 4 0 (fun _=>[]),.sl true 1 0 (fun _=>[])],.box [sL 4 Z0 y26,.asl 3 0 p28.1.length],aL 1 (ci .i64) p28.1]⟩) (O:=(fun z=>OutE 6 (fun z=>⟨186,u16,[.box u2,.box [.sl true 4 0 (fun _=>[]),.sl true 1 0 (fun _=>[])],.box [sL 4 Z0 y26,.asl 3 0 z.length],aL 1 (ci .i64) z]⟩) z)) ?_ (x:=(([]:List Int),0)) (y:=y31) (Wz q136)) ?_
 intro p28 y29 h123
 let u25:=(((y26.getD p28.2.toNat default).ZW).length:Int)
 let u33:=p28.1.length+1
 unfold M.WX at h123
 refine Za (Za (rg0 [2,5,12,163] 4 ⟨186,[(2,.ref 1 0),(5,.ref 2 0),(12,.int .i64 p28.2),(163,.bool (decide (p28.2 < u32)))],[.box u2,.box [.sl true 4 0 (fun _=>[]),.sl true 1 0 (fun _=>[])],.box [sL 4 Z0 y26,.asl 3 0 p28.1.length],aL 1 (ci .i64) p28.1]⟩ ?_))
 refine Zb ?_
 refine cnd (decide (p28.2 < u32)) (fun b124=>?_) (fun b124=>?_)
 have h125:=GY b124 h123
 refine Zd (Zb ?_)
 refine Jz (fun (p30:(List Int))=>⟨186,[(2,.ref 1 0),(5,.ref 2 0),(12,.int .i64 p28.2)],[.box u2,.box [.sl true 4 0 (fun _=>[]),.sl true 1 0 (fun _=>[])],.box [sL 4 Z0 y26,.asl 3 0 p30.length],aL 1 (ci .i64) p30]⟩) (fun p30=>M.UA p28 p30=some y29) ?_ ?_
 intro p30 h128
 unfold M.UA at h128
 refine rg0 [2,5,12] 4 ⟨186,[(2,.ref 1 0),(5,.ref 2 0),(12,.int .i64 (wr .i64 (p28.2+1)))],[.box u2,.box [.sl true 4 0 (fun _=>[]),.sl true 1 0 (fun _=>[])],.box [sL 4 Z0 y26,.asl 3 0 p30.length],aL 1 (ci .i64) p30]⟩ ?_
 obtain rfl:=Option.some.inj h128
 exact ZfP (Uw)
 intro k127
 refine Zg (Za ?_)
 obtain ⟨c129,h130⟩:=Zo h125
 refine rgc [2,5,12,173] 4 ⟨186,[(2,.ref 1 0),(5,.ref 2 0),(12,.int .i64 p28.2),(173,.bool (decide (u25 > 1)))],[.box u2,.box [.sl true 4 0 (fun _=>[]),.sl true 1 0 (fun _=>[])],.box [sL 4 Z0 y26,.asl 3 0 p28.1.length],aL 1 (ci .i64) p28.1]⟩ [decide (0≤p28.2),decide (p28.2 < u32)] c129 ?_
 refine Zb ?_
 refine cnd (decide (u25 > 1)) (fun b131=>?_) (fun b131=>?_)
 have h132:=GY b131 h130
 obtain ⟨c134,h135⟩:=Zo h132
 refine rgc [2,5,12] 4 ⟨186,[(2,.ref 1 0),(5,.ref 2 0),(12,.int .i64 p28.2)],[.box u2,.box [.sl true 4 0 (fun _=>[]),.sl true 1 0 (fun _=>[])],.box [sL 4 Z0 y26,.asl 3 0 u33],.arr 1 u33 (app (fun i=>(ci .i64) (p28.1.getD i default)) p28.1.length (fun i=>List.take 1 (List.drop (i*1) [.int .i64 p28.2])))]⟩ [decide (u33*8≤140737488355328)] c134 ?_
 refine XA ?_
 exact ZZ (QU (.cons Sub.rfl (.cons Sub.rfl (.cons Sub.rfl .nil))) (.cons .rfl (.cons .rfl (.cons (.box (.cons CSub.rfl (.cons (Zgr (Gy _ _)) .nil))) (.cons (.arr (Gy _ _) (KW (ci .i64) p28.1 p28.2 _ rfl)) .nil))))) (k127 (p28.1++[p28.2]) h135)
 have h133:=GZ b131 h130
 refine Zd (XA ?_)
 exact ZZ (kp [2,5,12]) (k127 p28.1 h133)
 have h126:=GZ b124 h123
 refine ZD (Xc ?_)
 obtain rfl:=Option.some.inj h126
 exact ZhM ⟨rfl,kp [2,5]⟩
 intro e138 s139 o140
 obtain ⟨rfl,l141⟩:=o140
 refine Qg ?_
 refine ZZ (s':=⟨186,u16,[.box u2,.box [.sl true 4 0 (fun _=>[]),.sl true 1 0 (fun _=>[])],.box [sL 4 Z0 y26,.asl 3 0 y31.length],aL 1 (ci .i64) y31]⟩) (l141) ?_
 refine Za (Za (rg0 [2,5,183] 4 ⟨186,u11,[.box u2,.box [.sl true 4 0 (fun _=>[]),.sl true 1 0 (fun _=>[])],.box [sL 4 Z0 y26,.asl 3 0 y31.length],aL 1 (ci .i64) y31]⟩ ?_))
 refine Zb ?_
 refine cnd (decide ((y31.length:Int) > 12)) (fun b142=>?_) (fun b142=>?_)
 have h143:=GY b142 h137
 refine Za (rg0 [2,3] 2 ⟨186,[(2,.ref 1 0),(3,.int .i64 7)],u7⟩ ?_)
 refine Zb (Zf (Zk ?_))
 obtain rfl:=Option.some.inj h143
 exact er (.tup [.agg [.sl false 4 0 (fun _=>[]),.sl false 1 0 (fun _=>[])],.int .i64 7]) (Zb4 (.cons (KV (.cons V4 (.cons V4 .nil))) (.cons ASub.rfl .nil)))
 have h144:=GZ b142 h137
 refine Zd (Zb (Za ?_))
 refine Wq (s':=⟨186,u11,[.box u2,.box [.sl true 4 0 (fun _=>[]),.sl true 1 0 (fun _=>[])],.box [sL 4 Z0 y26,.sl false 1 y31.length (fun k=>(fun i=>(ci .i64) (y31.getD i default)) (0+k))],aL 1 (ci .i64) ([]:List Int)]⟩) (Le.trans ((ZcT (s:=⟨186,u11,[.box u2,.box [.sl true 4 0 (fun _=>[]),.sl true 1 0 (fun _=>[])],.box [sL 4 Z0 y26,.asl 3 0 y31.length],aL 1 (ci .i64) y31]⟩) (s':=⟨186,u11,[.box u2,.box [.sl true 4 0 (fun _=>[]),.sl true 1 0 (fun _=>[])],.box [sL 4 Z0 y26,.sl false 1 y31.length (fun k=>(fun i=>(ci .i64) (y31.getD i default)) (0+k))],aL 1 (ci .i64) ([]:List Int)]⟩) 3 1 y31.length (fun i=>(ci .i64) (y31.getD i default)) (fun i=>(ci .i64) (([]:List Int).getD i default)) (by kernel_rfl) (by kernel_rfl) (by kernel_rfl))) (kp [2,5,183])) ?_
 refine rg0 [2,3] 2 ⟨186,[(2,.ref 1 0),(3,.int .i64 0)],[.box u2,.box [sL 4 Z0 y26,.sl false 1 y31.length (fun k=>(fun i=>(ci .i64) (y31.getD i default)) (0+k))]]⟩ ?_
 refine ZZ (s':=⟨186,[(2,.ref 1 0),(3,.int .i64 0)],[.box u2,.box [sL 4 Z0 y26,sL 1 (ci .i64) y31]]⟩) (QU (.cons Sub.rfl (.cons Sub.rfl .nil)) (.cons .rfl (.cons (.box (.cons CSub.rfl (.cons (KP rfl (Zaa (f:=fun i=>(ci .i64) (y31.getD i default)) (fun _ _=>rfl))) .nil))) .nil))) ?_
 refine Zf ?_
 obtain rfl:=Option.some.inj h144
 exact er0 (.tup [.agg [sL 4 Z0 y26,sL 1 (ci .i64) y31],.int .i64 0])
theorem Zc3 (a0:List Int) (a1:Int) (r:Bool) (h:M.Q9 a0 a1=some r):Fn Tryz.prog 56 [sL 1 (ci .i64) a0,.int .i64 a1] (.pure (.bool r)):=by
 unfold M.Q9 at h
 refine ZC Tryz.func56 rfl (by kernel_rfl) (Za (zg [0,1] 0 (Zb (Za (Za (zg [0,1,8] 0 (Zb (cn h (fun _ h2=>?_) (fun _ h3=>?_)))))))))
 exact Za (zg [4] 0 (Zb (Zf (Zk (er1 h2)))))
 refine Zd (Zb (Za (Za (zg [0,1,5] 0 (Zb (Zg ?_))))))
 obtain ⟨y3,q13,h14⟩:=bind_some h3
 refine zl (fun (p1:Int)=>⟨44,[(0,sL 1 (ci .i64) a0),(1,.int .i64 a1),(5,.int .i64 p1)],[]⟩) (Sum.elim (fun z=>OutE 0 (fun z=>⟨44,[],[]⟩) z) (fun z=>OutR Tryz.prog Tryz.f56 (.bool z))) q13 ?_ ?_
 intro p1 y2 h4
 unfold M.Yo at h4
 refine Za (Za (zg [0,1,5,12] 0 (Zb (cn h4 (fun _ h6=>?_) (fun _ h7=>?_)))))
 refine Zd (Zb (Za (Zg (Za ?_))))
 obtain ⟨c8,h9⟩:=Zo h6
 refine zc [0,1,5,43] 0 c8 (Zb (cn h9 (fun _ h11=>?_) (fun _ h12=>?_)))
 exact Za (zg [4] 0 (Zb (Zf (ZR (Zk (rr h11 ⟨rfl,er0 _⟩))))))
 exact Zd (XA (Zb (zg [0,1,5] 0 (rn h12))))
 exact ZD (Xc (re h7 ⟨rfl,kq⟩))
 intro e15 s16 o17
 rcases y3 with g4 | y5
 have h18:=Yc h14
 exact zi o17 (Za (zg [4] 0 (Zb (Zf (er1 h18)))))
 have h19:=Yd h14
 obtain ⟨rfl,n21⟩:=o17
 refine ZR (Zk ?_)
 obtain rfl:=Option.some.inj h19
 exact n21
theorem Zg3 (a0:ZI) (a1:List Int) (r:XL × Int) (h:M.Zah a0 a1=some r):Fn Tryz.prog 27 [.agg (Yb a0),sL 1 (ci .i64) a1] (.pure (.tup [.agg (XD r.1),.int .i64 r.2])):=by
 let u1:List Bool:=[decide (0=0)||decide (0 < a1.length),decide ((0+a1.length)*8≤140737488355328)]
 let u3:=Yb a0
 unfold M.Zah at h
 refine ZC Tryz.func27 rfl (by kernel_rfl) (Za (zg [1,2,4] 2 (Zb (Za ?_))))
 obtain ⟨r1,q1,h2⟩:=bind_some h
 let u2:=Rn r1.1
 refine zr [1,2,4,6,7] 3 Zt (rq1 (ZgE _ _ q1) rqn) (Zb (Za (Za (zg [1,2,4,6,7,14] 3 (Zb (cn h2 (fun _ h4=>?_) (fun _ h5=>?_)))))))
 refine Za (zg [4,5] 2 (Zb (Zf (Zk ?_))))
 obtain rfl:=Option.some.inj h4
 exact er (.tup [.agg [.sl false 25 0 (fun _=>[]),.sl false 4 0 (fun _=>[]),.sl false 1 0 (fun _=>[]),.sl false 1 0 (fun _=>[])],.int .i64 r1.2]) (Zb4 (.cons (KV (.cons V4 (.cons V4 (.cons V4 (.cons V4 .nil))))) (.cons ASub.rfl .nil)))
 refine Zd (Zb (Za (Za ?_)))
 obtain ⟨r2,q6,h7⟩:=bind_some h5
 refine rg [.pure (.bool r2)] [1,2,4,6,22] 3 ⟨30,[(1,sL 1 (ci .i64) a1),(2,.ref 0 0),(4,.ref 1 0),(6,.ref 2 0),(22,.bool (!r2))],[.box u3,.box [.sl true 25 0 (fun _=>[]),.sl true 4 0 (fun _=>[]),.sl true 1 0 (fun _=>[]),.sl true 1 0 (fun _=>[])],.box u2]⟩ [] [⟨true,56,[sL 1 (ci .i64) a1,.int .i64 (r1.1.J0.length:Int)],.pure (.bool r2)⟩] Zt ⟨fun _=>Zc3 a1 (r1.1.J0.length:Int) r2 q6,trivial⟩ (Zb (cn h7 (fun _ h9=>?_) (fun _ h10=>?_)))
 refine Za (zg [4,5] 2 (Zb (Zf (Zk ?_))))
 obtain rfl:=Option.some.inj h9
 exact er (.tup [.agg [.sl false 25 0 (fun _=>[]),.sl false 4 0 (fun _=>[]),.sl false 1 0 (fun _=>[]),.sl false 1 0 (fun _=>[])],.int .i64 1]) (Zb4 (.cons (KV (.cons V4 (.cons V4 (.cons V4 (.cons V4 .nil))))) (.cons ASub.rfl .nil)))
 refine Zd (Zb (Za ?_))
 obtain ⟨c11,h12⟩:=Zo h10
 refine rgu [1,2,4,5,6,22,24,25,26,27,28,29] [([],[],[]),([],[],[]),([],[],[]),([],[],[]),([],u1,[]),([],[],[]),([],[],[]),([],[],[])] [4,5] 4 ⟨30,[(4,.ref 1 0),(5,.int .i64 0)],[.box u3,.box [sL 25 Zs a0.Ze,sL 4 Z0 r1.1.Xe,sL 1 (ci .i64) r1.1.J0,.asl 3 0 (0+a1.length)],.box u2,.arr 1 (0+a1.length) (app (fun i=>List.take 1 (List.drop (i*1) [])) 0 (fun i=>(ci .i64) (a1.getD i default)))]⟩ u1 [] c11 trivial (ZZ (s':=⟨30,[(4,.ref 1 0),(5,.int .i64 0)],[.box u3,.box [sL 25 Zs a0.Ze,sL 4 Z0 r1.1.Xe,sL 1 (ci .i64) r1.1.J0,sL 1 (ci .i64) (a1:List Int)],.box u2,aL 1 (ci .i64) ([]:List Int)]⟩) (Le.trans (ZcT (s:=⟨30,[(4,.ref 1 0),(5,.int .i64 0)],[.box u3,.box [sL 25 Zs a0.Ze,sL 4 Z0 r1.1.Xe,sL 1 (ci .i64) r1.1.J0,.asl 3 0 (0+a1.length)],.box u2,.arr 1 (0+a1.length) (app (fun i=>List.take 1 (List.drop (i*1) [])) 0 (fun i=>(ci .i64) (a1.getD i default)))]⟩) (s':=⟨30,[(4,.ref 1 0),(5,.int .i64 0)],[.box u3,.box [sL 25 Zs a0.Ze,sL 4 Z0 r1.1.Xe,sL 1 (ci .i64) r1.1.J0,.sl false 1 (0+a1.length) (fun k=>(app (fun i=>List.take 1 (List.drop (i*1) [])) 0 (fun i=>(ci .i64) (a1.getD i default))) (0+k))],.box u2,aL 1 (ci .i64) ([]:List Int)]⟩) 3 1 (0+a1.length) (app (fun i=>List.take 1 (List.drop (i*1) [])) 0 (fun i=>(ci .i64) (a1.getD i default))) (fun i=>(ci .i64) (([]:List Int).getD i default)) (by kernel_rfl) (by kernel_rfl) (by kernel_rfl)) (QU (.cons Sub.rfl (.cons Sub.rfl .nil)) (.cons .rfl (.cons (.box (.cons CSub.rfl (.cons CSub.rfl (.cons CSub.rfl (.cons (KP (Nat.zero_add _) (Zaa (f:=app (fun i=>List.take 1 (List.drop (i*1) [])) 0 (fun i=>(ci .i64) (a1.getD i default))) (Ur (ci .i64) _ a1 _ (fun _ _=>rfl)))) .nil))))) (.cons .rfl (.cons .rfl .nil)))))) (Zf ?_))
 obtain rfl:=Option.some.inj h12
 exact er0 (.tup [.agg [sL 25 Zs a0.Ze,sL 4 Z0 r1.1.Xe,sL 1 (ci .i64) r1.1.J0,sL 1 (ci .i64) (a1:List Int)],.int .i64 0])
theorem Zg4 (a0:ZI) (a1:List Int) (r:XL × Bool) (h:M.GH a0 a1=some r):Fn Tryz.prog 9 [.agg (Yb a0),sL 1 (ci .i64) a1] (.pure (.tup [.agg (XD r.1),.bool r.2])):=by
 unfold M.GH at h
 refine ZC Tryz.func9 rfl (by kernel_rfl) (Za (zg [1,2,4] 2 (Zb (Za (Za ?_)))))
 obtain ⟨r1,q1,h2⟩:=bind_some h
 refine zr [1,2,4,15] 2 Zt (rq1 (ZgD _ _ q1) rqn) (Zb (cn h2 (fun _ h4=>?_) (fun _ h5=>?_)))
 refine Za (zg [4,5] 2 (Zb (Zf (Zk ?_))))
 obtain rfl:=Option.some.inj h4
 exact er (.tup [.agg [.sl false 25 0 (fun _=>[]),.sl false 4 0 (fun _=>[]),.sl false 1 0 (fun _=>[]),.sl false 1 0 (fun _=>[])],.bool false]) (Zb4 (.cons (KV (.cons V4 (.cons V4 (.cons V4 (.cons V4 .nil))))) (.cons ASub.rfl .nil)))
 refine Zd (Zb (Za ?_))
 obtain ⟨r2,q6,h7⟩:=bind_some h5
 refine zr [4,6,7] 3 Zt (rq1 (Zg3 _ _ _ q6) rqn) (Zb (Za (zg [4,5] 2 (Zb (Zf ?_)))))
 obtain rfl:=Option.some.inj h7
 exact er0 (.tup [.agg (XD r2.1),.bool (r2.2==0)])
theorem QN (a0:Int) (a1:Int) (a2:Int) (r:Bool) (h:M.XV a0 a1 a2=some r):Fn Tryz.prog 57 [.int .i64 a0,.int .i64 a1,.int .i64 a2] (.pure (.bool r)):=by
 unfold M.XV at h
 exact ZC Tryz.func57 rfl (by kernel_rfl) (Za (zg [0,1,2] 0 (Zb (Za (zg [6] 0 (Zb (Zf (er1 h))))))))
theorem Gg (a0:ZM) (a1:Bool) (a2:Bool) (a3:Bool) (r:Bool) (h:M.QV a0 a1 a2 a3=some r):Fn Tryz.prog 58 [.agg (X1 a0),.bool a1,.bool a2,.bool a3] (.pure (.bool r)):=by
 unfold M.QV at h
 exact ZC Tryz.func58 rfl (by kernel_rfl) (Za (zg [1,2,3,4] 1 (Zb (Za (zg [8] 0 (Zb (Zf (er1 h))))))))
theorem RW (a0:ZF) (a1:ZF) (r:Bool) (h:M.Qf a0 a1=some r):Fn Tryz.prog 85 [.agg (ZN a0),.agg (ZN a1)] (.pure (.bool r)):=by
 unfold M.Qf at h
 exact ZC Tryz.func85 rfl (by kernel_rfl) (Za (zg [2,3] 2 (Zb (Za (zg [4] 0 (Zb (Zf (er1 h))))))))
theorem U4 (a0:List ZF) (a1:Bool) (r:Bool) (h:M.Qh a0 a1=some r):Fn Tryz.prog 59 [sL 2 ZN a0,.bool a1] (.pure (.bool r)):=by
 unfold M.Qh at h
 refine ZC Tryz.func59 rfl (by kernel_rfl) (Za (zg [0,1] 0 (Zb (Za (Za (zg [0,1,5] 0 (Zb (Zg ?_))))))))
 obtain ⟨y4,q12,h13⟩:=bind_some h
 refine zl (fun (p1:Int)=>⟨45,[(0,sL 2 ZN a0),(1,.bool a1),(5,.int .i64 p1)],[]⟩) (Sum.elim (fun z=>OutE 0 (fun z=>⟨45,[],[]⟩) z) (fun z=>OutR Tryz.prog Tryz.f59 (.bool z))) q12 ?_ ?_
 intro p1 y2 h1
 unfold M.Vd at h1
 refine Za (Za (zg [0,1,5,9] 0 (Zb (cn h1 (fun _ h3=>?_) (fun _ h4=>?_)))))
 refine Zd (Zb (Za (Zg (Za ?_))))
 obtain ⟨r3,q5,h6⟩:=bind_some h3
 obtain ⟨c7,h8⟩:=Zo h6
 refine zr [0,1,5,44] 0 c7 (rq2 (fun hg=>RW _ _ _ (Xg q5 hg)) rqn) (Zb (cn h8 (fun _ h10=>?_) (fun _ h11=>?_)))
 exact Za (zg [4] 0 (Zb (Zf (ZR (Zk (rr h10 ⟨rfl,er0 _⟩))))))
 exact Zd (XA (Zb (zg [0,1,5] 0 (rn h11))))
 exact ZD (Xc (re h4 ⟨rfl,kq⟩))
 intro e14 s15 o16
 rcases y4 with g5 | y6
 have h17:=Yc h13
 exact zi o16 (Za (zg [4] 0 (Zb (Zf (er1 h17)))))
 have h18:=Yd h13
 obtain ⟨rfl,n20⟩:=o16
 refine ZR (Zk ?_)
 obtain rfl:=Option.some.inj h18
 exact n20
theorem ZbA (a0:ZM) (r:Bool) (h:M.Qu a0=some r):Fn Tryz.prog 60 [.agg (X1 a0)] (.pure (.bool r)):=by
 unfold M.Qu at h
 refine ZC Tryz.func60 rfl (by kernel_rfl) (Za (zg [1] 1 (Zb (Za (Za ?_)))))
 obtain ⟨r1,q1,h2⟩:=bind_some h
 obtain ⟨r2,q3,h4⟩:=bind_some h2
 refine zr [1,21] 1 Zt (rq2 (fun hg=>QN _ _ _ _ (Xg q1 hg)) (rq2 (fun hg=>Gg _ _ _ _ _ (Xg q3 hg)) rqn)) (Zb (cn h4 (fun _ h6=>?_) (fun _ h7=>?_)))
 exact Za (zg [2] 0 (Zb (Zf (Zk (er1 h6)))))
 refine Zd (Zb (Za (Zg (Za (zg [1,22] 1 (Zb (cn h7 (fun _ h9=>?_) (fun _ h10=>?_))))))))
 exact Za (zg [2] 0 (Zb (Zf (ZR (Zk (er1 h9))))))
 refine Za (zg [1,35] 1 (Zb (cn h10 (fun _ h12=>?_) (fun _ h13=>?_))))
 exact Za (zg [2] 0 (Zb (Zf (ZR (Zk (er1 h12))))))
 refine Zd (XA (Zb (Za ?_)))
 obtain ⟨r3,q14,h15⟩:=bind_some h13
 exact zr [2] 0 Zt (rq2 (fun hg=>U4 _ _ _ (Xg q14 hg)) rqn) (Zb (Zf (er1 h15)))
theorem RX (a0:ZM) (r:Bool) (h:M.YD a0=some r):Fn Tryz.prog 61 [.agg (X1 a0)] (.pure (.bool r)):=by
 unfold M.YD at h
 refine ZC Tryz.func61 rfl (by kernel_rfl) (Za (zg [1] 1 (Zb (Za (Za ?_)))))
 obtain ⟨r1,q1,h2⟩:=bind_some h
 obtain ⟨r2,q3,h4⟩:=bind_some h2
 obtain ⟨r3,q5,h6⟩:=bind_some h4
 obtain ⟨r4,q7,h8⟩:=bind_some h6
 refine zr [1,23] 1 Zt (rq1 (QN _ _ _ _ q1) (rq2 (fun hg=>QN _ _ _ _ (Xg q3 hg)) (rq2 (fun hg=>QN _ _ _ _ (Xg q5 hg)) (rq2 (fun hg=>Gg _ _ _ _ _ (Xg q7 hg)) rqn)))) (Zb (cn h8 (fun _ h10=>?_) (fun _ h11=>?_)))
 exact Za (zg [2] 0 (Zb (Zf (Zk (er1 h10)))))
 refine Zd (Zb (Za (Za ?_)))
 obtain ⟨r5,q12,h13⟩:=bind_some h11
 refine zr [1,37] 1 Zt (rq1 (QN _ _ _ _ q12) rqn) (Zb (cn h13 (fun _ h15=>?_) (fun _ h16=>?_)))
 exact Za (zg [2] 0 (Zb (Zf (Zk (er1 h15)))))
 refine Zd (Zb (Za (Za (zg [1,39] 1 (Zb (cn h16 (fun _ h18=>?_) (fun _ h19=>?_)))))))
 exact Za (zg [2] 0 (Zb (Zf (Zk (er1 h18)))))
 refine Zd (Zb (Za ?_))
 obtain ⟨r6,q20,h21⟩:=bind_some h19
 exact zr [2] 0 Zt (rq2 (fun hg=>U4 _ _ _ (Xg q20 hg)) rqn) (Zb (Zf (er1 h21)))
theorem Zap (a0:ZM) (r:Bool) (h:M.YS a0=some r):Fn Tryz.prog 62 [.agg (X1 a0)] (.pure (.bool r)):=by
 unfold M.YS at h
 refine ZC Tryz.func62 rfl (by kernel_rfl) (Za (zg [1] 1 (Zb (Za (Za ?_)))))
 obtain ⟨r1,q1,h2⟩:=bind_some h
 obtain ⟨r2,q3,h4⟩:=bind_some h2
 obtain ⟨r3,q5,h6⟩:=bind_some h4
 refine zr [1,21] 1 Zt (rq1 (QN _ _ _ _ q1) (rq2 (fun hg=>QN _ _ _ _ (Xg q3 hg)) (rq2 (fun hg=>Gg _ _ _ _ _ (Xg q5 hg)) rqn))) (Zb (cn h6 (fun _ h8=>?_) (fun _ h9=>?_)))
 exact Za (zg [2] 0 (Zb (Zf (Zk (er1 h8)))))
 refine Zd (Zb (Za (Za (zg [1,23] 1 (Zb (Zg (Za (zg [1,23,24] 1 (Zb (cn h9 (fun _ h11=>?_) (fun _ h12=>?_)))))))))))
 refine Za ?_
 obtain ⟨r4,q13,h14⟩:=bind_some h11
 exact zr [2] 0 Zt (rq2 (fun hg=>U4 _ _ _ (Xg q13 hg)) rqn) (Zb (Zf (ZR (Zk (er1 h14)))))
 refine Za (zg [1,23,45] 1 (Zb (cn h12 (fun _ h16=>?_) (fun _ h17=>?_))))
 exact Za (zg [2] 0 (Zb (Zf (ZR (Zk (er1 h16))))))
 refine Za (zg [1,51] 1 (Zb (cn h17 (fun _ h19=>?_) (fun _ h20=>?_))))
 refine Za ?_
 obtain ⟨r5,q21,h22⟩:=bind_some h19
 exact zr [2] 0 Zt (rq2 (fun hg=>U4 _ _ _ (Xg q21 hg)) rqn) (Zb (Zf (ZR (Zk (er1 h22)))))
 exact Zd (XA (Zb (Za (zg [2] 0 (Zb (Zf (er1 h20)))))))
theorem Zc4 (a0:ZM) (r:Bool) (h:M.Ja a0=some r):Fn Tryz.prog 63 [.agg (X1 a0)] (.pure (.bool r)):=by
 let u1:List Ob:=[.box (X1 a0)]
 unfold M.Ja at h
 refine ZC Tryz.func63 rfl (by kernel_rfl) (Za (zg [1] 1 (Zb (Za (Za ?_)))))
 obtain ⟨r1,q1,h2⟩:=bind_some h
 obtain ⟨r2,q3,h4⟩:=bind_some h2
 obtain ⟨r3,q5,h6⟩:=bind_some h4
 obtain ⟨r4,q7,h8⟩:=bind_some h6
 refine zr [1,23] 1 Zt (rq1 (QN _ _ _ _ q1) (rq2 (fun hg=>QN _ _ _ _ (Xg q3 hg)) (rq2 (fun hg=>QN _ _ _ _ (Xg q5 hg)) (rq2 (fun hg=>Gg _ _ _ _ _ (Xg q7 hg)) rqn)))) (Zb (cn h8 (fun _ h10=>?_) (fun _ h11=>?_)))
 exact Za (zg [2] 0 (Zb (Zf (Zk (er1 h10)))))
 refine Zd (Zb (Za (Za (rg0 [1,25] 1 ⟨95,[(1,.ref 0 0),(25,.int .i64 a0.Yj)],u1⟩ (Zb (Zg (Jz (fun (p5:Bool)=>⟨95,[(1,.ref 0 0),(25,.int .i64 a0.Yj),(26,.bool p5)],u1⟩) (fun p5=>M.Yv a0 p5=some r) ?_ ?_)))))))
 intro p5 h13
 unfold M.Yv at h13
 refine cn h13 (fun _ h15=>?_) (fun _ h16=>?_)
 exact Za (zg [2] 0 (Zb (Zf (ZR (Zk (er1 h15))))))
 refine Jz (fun (p6:Bool)=>⟨95,[(1,.ref 0 0),(52,.bool p6)],u1⟩) (fun p6=>M.Yu a0 p6=some r) ?_ ?_
 intro p6 h18
 unfold M.Yu at h18
 refine cn h18 (fun _ h20=>?_) (fun _ h21=>?_)
 refine Za ?_
 obtain ⟨r7,q22,h23⟩:=bind_some h20
 obtain ⟨c24,h25⟩:=Zo h23
 exact zr [2] 0 c24 (rq2 (fun hg=>U4 _ _ _ (Xg q22 hg)) rqn) (Zb (Zf (ZR (Zk (er1 h25)))))
 exact Zd (XA (Zb (Za (zg [2] 0 (Zb (Zf (er1 h21)))))))
 intro k17
 refine Za (zg [1,25,52] 1 (Zb (cn h16 (fun _ h27=>?_) (fun _ h28=>?_))))
 exact Zd (ZZ kq (k17 (a0.Yj==3) h27))
 exact zg [1,52] 1 (ZZ lk (k17 (a0.Yj==4) h28))
 intro k12
 refine Za (zg [1,25,26] 1 (Zb (cn h11 (fun _ h30=>?_) (fun _ h31=>?_))))
 exact Zd (ZZ lk (k12 (a0.Yj==1) h30))
 exact zg [1,25,26] 1 (ZZ lk (k12 (a0.Yj==2) h31))
theorem ZgF (a0:ZM) (r:Bool) (h:M.V0 a0=some r):Fn Tryz.prog 28 [.agg (X1 a0)] (.pure (.bool r)):=by
 unfold M.V0 at h
 refine ZC Tryz.func28 rfl (by kernel_rfl) (Za (zg [1] 1 (Zb (Za (Za ?_)))))
 obtain ⟨r1,q1,h2⟩:=bind_some h
 obtain ⟨r2,q3,h4⟩:=bind_some h2
 refine zr [1,19] 1 Zt (rq1 (WP _ _ q1) (rq2 (fun hg=>QN _ _ _ _ (Xg q3 hg)) rqn)) (Zb (cn h4 (fun _ h6=>?_) (fun _ h7=>?_)))
 exact Za (zg [2] 0 (Zb (Zf (Zk (er1 h6)))))
 refine Zd (Zb (Za (Za (zg [1,3] 1 (Zb (Zg ?_))))))
 obtain ⟨y6,q19,h20⟩:=bind_some h7
 refine zl (fun (p3:Int)=>⟨92,[(1,.ref 0 0),(3,.int .i64 p3)],[.box (X1 a0)]⟩) (Sum.elim (fun z=>OutE 0 (fun z=>⟨92,[(1,.ref 0 0)],[.box (X1 a0)]⟩) z) (fun z=>OutR Tryz.prog Tryz.f28 (.bool z))) q19 ?_ ?_
 intro p3 y4 h8
 unfold M.Ve at h8
 refine Za (Za (zg [1,3,24] 1 (Zb (cn h8 (fun _ h10=>?_) (fun _ h11=>?_)))))
 refine Zd (Zb (Za (Zg (Za ?_))))
 obtain ⟨r5,q12,h13⟩:=bind_some h10
 obtain ⟨c14,h15⟩:=Zo h13
 refine zr [1,3,33] 1 c14 (rq1 (QN _ _ _ _ q12) rqn) (Zb (cn h15 (fun _ h17=>?_) (fun _ h18=>?_)))
 exact Za (zg [2] 0 (Zb (Zf (ZR (Zk (rr h17 ⟨rfl,er0 _⟩))))))
 exact Zd (XA (Zb (zg [1,3] 1 (rn h18))))
 exact ZD (Xc (re h11 ⟨rfl,kq⟩))
 intro e21 s22 o23
 rcases y6 with g7 | y8
 have h24:=Yc h20
 refine zi o23 (Za (Za (zg [1,35] 1 (Zb (Zg (Za (zg [1,35,36] 1 (Zb (cn h24 (fun _ h28=>?_) (fun _ h29=>?_))))))))))
 refine Za ?_
 obtain ⟨r9,q30,h31⟩:=bind_some h28
 obtain ⟨r10,q32,h33⟩:=bind_some h31
 exact zr [2] 0 Zt (rq2 (fun hg=>Gg _ _ _ _ _ (Xg q30 hg)) (rq2 (fun hg=>U4 _ _ _ (Xg q32 hg)) rqn)) (Zb (Zf (ZR (Zk (er1 h33)))))
 refine Za (zg [1,35,76] 1 (Zb (cn h29 (fun _ h35=>?_) (fun _ h36=>?_))))
 refine Za ?_
 obtain ⟨r11,q37,h38⟩:=bind_some h35
 exact zr [2] 0 Zt (rq1 (ZbA _ _ q37) rqn) (Zb (Zf (ZR (Zk (er1 h38)))))
 refine Za (zg [1,35,80] 1 (Zb (cn h36 (fun _ h40=>?_) (fun _ h41=>?_))))
 refine Za ?_
 obtain ⟨r12,q42,h43⟩:=bind_some h40
 exact zr [2] 0 Zt (rq1 (RX _ _ q42) rqn) (Zb (Zf (ZR (Zk (er1 h43)))))
 refine Za (zg [1,35,84] 1 (Zb (cn h41 (fun _ h45=>?_) (fun _ h46=>?_))))
 refine Za ?_
 obtain ⟨r13,q47,h48⟩:=bind_some h45
 exact zr [2] 0 Zt (rq1 (Zap _ _ q47) rqn) (Zb (Zf (ZR (Zk (er1 h48)))))
 refine Za (zg [1,88] 1 (Zb (cn h46 (fun _ h50=>?_) (fun _ h51=>?_))))
 refine Za ?_
 obtain ⟨r14,q52,h53⟩:=bind_some h50
 exact zr [2] 0 Zt (rq1 (Zc4 _ _ q52) rqn) (Zb (Zf (ZR (Zk (er1 h53)))))
 exact Zd (XA (Zb (Za (zg [2] 0 (Zb (Zf (er1 h51)))))))
 have h25:=Yd h20
 obtain ⟨rfl,n54⟩:=o23
 refine ZR (Zk ?_)
 obtain rfl:=Option.some.inj h25
 exact n54
theorem ZgG (a0:List ZM) (a1:Int) (r:Bool) (h:M.Wt a0 a1=some r):Fn Tryz.prog 10 [sL 14 X1 a0,.int .i64 a1] (.pure (.bool r)):=by
 unfold M.Wt at h
 refine ZC Tryz.func10 rfl (by kernel_rfl) (Za (zg [0,1] 0 (Zb (Za (Za (zg [0,1,5] 0 (Zb (Zg ?_))))))))
 obtain ⟨y5,q14,h15⟩:=bind_some h
 refine zl (fun (p1:Int)=>⟨50,[(0,sL 14 X1 a0),(1,.int .i64 a1),(5,.int .i64 p1)],[]⟩) (Sum.elim (fun z=>OutE 0 (fun z=>⟨50,[],[]⟩) z) (fun z=>OutR Tryz.prog Tryz.f10 (.bool z))) q14 ?_ ?_
 intro p1 y2 h1
 unfold M.JF at h1
 refine Za (Za (zg [0,1,5,9] 0 (Zb (cn h1 (fun _ h3=>?_) (fun _ h4=>?_)))))
 refine Zd (Zb (Za (Zg (Za ?_))))
 obtain ⟨r3,q5,h6⟩:=bind_some h3
 obtain ⟨r4,q7,h8⟩:=bind_some h6
 obtain ⟨c9,h10⟩:=Zo h8
 refine zr [0,1,5,49] 0 c9 (rq1 (ZgF _ _ q5) (rq2 (fun hg=>ZaI _ _ _ (Xg q7 hg)) rqn)) (Zb (cn h10 (fun _ h12=>?_) (fun _ h13=>?_)))
 exact Za (zg [4] 0 (Zb (Zf (ZR (Zk (rr h12 ⟨rfl,er0 _⟩))))))
 exact Zd (XA (Zb (zg [0,1,5] 0 (rn h13))))
 exact ZD (Xc (re h4 ⟨rfl,kq⟩))
 intro e16 s17 o18
 rcases y5 with g6 | y7
 have h19:=Yc h15
 exact zi o18 (Za (zg [4] 0 (Zb (Zf (er1 h19)))))
 have h20:=Yd h15
 obtain ⟨rfl,n22⟩:=o18
 refine ZR (Zk ?_)
 obtain rfl:=Option.some.inj h20
 exact n22
theorem RY (a0:ZM) (r:Bool) (h:M.JT a0=some r):Fn Tryz.prog 64 [.agg (X1 a0)] (.pure (.bool r)):=by
 unfold M.JT at h
 exact ZC Tryz.func64 rfl (by kernel_rfl) (Za (zg [1] 1 (Zb (Za (zg [2] 0 (Zb (Zf (er1 h))))))))
theorem ZcB (a0:Int) (r:Int) (h:M.JG a0=some r):Fn Tryz.prog 105 [.int .i64 a0] (.pure (.int .i64 r)):=by
 unfold M.JG at h
 exact ZC Tryz.func105 rfl (by kernel_rfl) (Za (zg [0] 0 (Zb (Za (zg [2] 0 (Zb (Zf (er1 h))))))))
theorem Zaq (a0:Int) (r:Int) (h:M.J3 a0=some r):Fn Tryz.prog 79 [.int .i64 a0] (.pure (.int .u32 r)):=by
 unfold M.J3 at h
 refine ZC Tryz.func79 rfl (by kernel_rfl) (Za (zg [0] 0 (Zb (Za ?_))))
 obtain ⟨r1,q1,h2⟩:=bind_some h
 obtain ⟨c3,h4⟩:=Zo h2
 exact zr [2] 0 c3 (rq1 (ZcB _ _ q1) rqn) (Zb (Zf (er1 h4)))
theorem RZ (a0:ZL) (a1:Int) (r:Bool) (h:M.Yn a0 a1=some r):Fn Tryz.prog 45 [.agg (Xd a0),.int .u32 a1] (.pure (.bool r)):=by
 unfold M.Yn at h
 refine ZC Tryz.func45 rfl (by kernel_rfl) (Za (zg [1,2] 1 (Zb (Za ?_))))
 obtain ⟨r1,q1,h2⟩:=bind_some h
 exact zr [4] 0 Zt (rq1 (Zaq _ _ q1) rqn) (Zb (Zf (er1 h2)))
theorem Zc5 (a0:List ZM) (a1:ZL) (a2:Int) (r:Int) (h:M.YN a0 a1 a2=some r):Fn Tryz.prog 65 [sL 14 X1 a0,.agg (Xd a1),.int .u32 a2] (.pure (.int .i64 r)):=by
 let u3:Nat × D:=(10,sL 14 X1 a0)
 let u4:=(a0.length:Int)
 let u5:Nat × D:=(0,sL 14 X1 a0)
 let u6:=Xd a1
 unfold M.YN at h
 refine ZC Tryz.func65 rfl (by kernel_rfl) (Za (zg [0,2,4] 1 (Zb (Za (zg [0,2,4,7] 1 (Zb (Za (Za (zg [0,2,4,7,10,11,12] 1 (Zb (Zg ?_)))))))))))
 obtain ⟨y5,q19,h20⟩:=bind_some h
 refine zl (fun (p1:Int × Int)=>⟨45,[u5,(2,.int .u32 a2),(4,.ref 0 0),(7,.int .i64 p1.1),u3,(11,.int .i64 u4),(12,.int .i64 p1.2)],[.box u6]⟩) (fun z=>OutE 0 (fun z=>⟨45,[(7,.int .i64 z)],[]⟩) z) q19 ?_ ?_
 intro p1 y2 h1
 let u1:=a0.getD p1.2.toNat default
 let u2:=(((u1.Zh).Zm)==a1.Zm)&&((((u1.Zh).ZE)==a1.ZE)&&true)
 unfold M.Yp at h1
 refine Za (rg0 [0,2,4,7,10,11,12,13] 1 ⟨45,[u5,(2,.int .u32 a2),(4,.ref 0 0),(7,.int .i64 p1.1),u3,(11,.int .i64 u4),(12,.int .i64 p1.2),(13,.bool (decide (p1.2 < u4)))],[.box u6]⟩ (Zb (Za (cn h1 (fun _ h3=>?_) (fun _ h4=>?_)))))
 refine Zd (Zb (Jz (fun (p3:Int)=>⟨45,[u5,(2,.int .u32 a2),(4,.ref 0 0),(7,.int .i64 p3),u3,(11,.int .i64 u4),(12,.int .i64 p1.2)],[.box u6]⟩) (fun p3=>M.Yi p1 p3=some y2) ?_ ?_))
 intro p3 h6
 unfold M.Yi at h6
 exact zg [0,2,4,7,10,11,12] 1 (rn h6)
 intro k5
 refine Zg (Za ?_)
 obtain ⟨c7,h8⟩:=Zo h3
 refine zc [0,2,4,7,8,9,10,11,12] 2 c7 (Zb (Za (Za ?_)))
 obtain ⟨r4,q9,h10⟩:=bind_some h8
 refine rg [.pure (.bool r4)] [0,2,4,7,8,9,10,11,12,27] 2 ⟨45,[u5,(2,.int .u32 a2),(4,.ref 0 0),(7,.int .i64 p1.1),(8,.int .i64 p1.2),(9,.ref 1 0),u3,(11,.int .i64 u4),(12,.int .i64 p1.2),(27,.bool (u2||(!r4)))],[.box u6,.box (X1 u1)]⟩ [] [⟨(!u2),45,[.agg (Xd (u1.Zh)),.int .u32 a2],.pure (.bool r4)⟩] Zt ⟨fun hg=>RZ (u1.Zh) a2 r4 (Xg q9 hg),trivial⟩ (Zb (cn h10 (fun _ h12=>?_) (fun _ h13=>?_)))
 exact ZD (Xc (Qg (ZZ (Le.trans (s':=⟨45,[u5,(2,.int .u32 a2),(4,.ref 0 0),(7,.int .i64 p1.1),u3,(11,.int .i64 u4),(12,.int .i64 p1.2)],[.box u6,.box (X1 u1)]⟩) (kp [0,2,4,7,10,11,12]) (UO (n:=1) (by kernel_rfl))) (k5 p1.1 h12))))
 refine Zd (Zb (Za ?_))
 obtain ⟨c14,h15⟩:=Zo h13
 refine zc [0,2,4,7,8,10,11,12,41] 1 c14 (Zb (cn h15 (fun _ h17=>?_) (fun _ h18=>?_)))
 exact zg [0,2,4,7,10,11,12] 1 (XA (ZZ lk (k5 p1.2 h17)))
 exact Zd (XA (ZZ kq (k5 p1.1 h18)))
 exact ZD (Xc (re h4 ⟨rfl,kc⟩))
 intro e21 s22 o23
 exact zi o23 (Za (zg [6] 0 (Zb (Zf (er1 h20)))))
theorem Ka (a0:List ZF) (r:List ZF) (h:M.XY a0=some r):Fn Tryz.prog 52 [sL 2 ZN a0] (oL 2 ZN r):=by
 unfold M.XY at h
 obtain ⟨hc,h1⟩:=Zo h
 obtain rfl:=Option.some.inj h1
 refine ZcP Tryz.func52 rfl (by kernel_rfl) (Gb ?_)
 refine Za (rg0 [0] 0 ⟨8,[(0,sL 2 ZN a0)],[]⟩ ?_)
 refine Zb (Za (Za (rg0 [0,4] 0 ⟨8,[(0,sL 2 ZN a0),(4,.nilq a0.length)],[]⟩ ?_)))
 refine Zb (nq a0.length (fun hz=>?_) ?_)
 refine Za (rg0 [2] 0 ⟨8,[(2,.sl true 2 0 (fun _=>[]))],[]⟩ ?_)
 refine Zb (Zf (Zk ?_))
 obtain rfl:=List.eq_nil_of_length_eq_zero hz
 exact ⟨_,G0 (wd:=2) (f:=fun _=>[]) 2 (by kernel_rfl) 2 (fun i=>ZN (([]:List ZF).getD i default)),.inr rfl,2,0,_,rfl,rfl,rfl,fun _ _=>rfl⟩
 refine Zd (Zb (Za (rgc [2] 1 ⟨8,[(2,.asl 0 0 (0+a0.length))],[.arr 2 (0+a0.length) (app (fun i=>List.take 2 (List.drop (i*2) [])) 0 (fun i=>ZN (a0.getD i default)))]⟩ [decide (0=0)||decide (0 < a0.length),decide ((0+a0.length)*16≤140737488355328)] hc ?_)))
 refine Zb (Zf ?_)
 exact ⟨⟨8,[(2,.asl 0 0 a0.length)],[aL 2 ZN a0]⟩,QU (.cons (VJ (Nat.zero_add _)) .nil) (.cons (.arr (Nat.zero_add _) (Ur ZN _ a0 _ (fun _ _=>rfl))) .nil),.inr rfl,2,0,_,rfl,rfl,rfl,fun _ _=>rfl⟩
theorem ZgH (a0:List ZF) (a1:Int) (r:(List ZF)) (h:M.Wu a0 a1=some r):Fn Tryz.prog 66 [sL 2 ZN a0,.int .u32 a1] (.pure (sL 2 ZN r)):=by
 unfold M.Wu at h
 refine ZC Tryz.func66 rfl (by kernel_rfl) (Za (zg [0,1] 0 (Zb (Za ?_))))
 obtain ⟨r1,q1,h2⟩:=bind_some h
 let u1:=(r1.length:Int)
 refine rg [oL 2 ZN r1] [1,5] 1 ⟨27,[(1,.int .u32 a1),(5,.asl 0 0 r1.length)],[aL 2 ZN r1]⟩ [] [⟨true,52,[sL 2 ZN a0],oL 2 ZN r1⟩] Zt ⟨fun _=>Ka a0 r1 q1,trivial⟩ (Zb (Za (Za (zg [1,5,10,11,12] 1 (Zb (Zg ?_))))))
 obtain ⟨y5,q16,h17⟩:=bind_some h2
 refine zl (fun (p2:(List ZF) × Int)=>⟨27,[(1,.int .u32 a1),(5,.asl 0 0 p2.1.length),(10,.asl 0 0 p2.1.length),(11,.int .i64 u1),(12,.int .i64 p2.2)],[aL 2 ZN p2.1]⟩) (fun z=>OutE 0 (fun z=>⟨27,[(5,.asl 0 0 z.length)],[aL 2 ZN z]⟩) z) q16 ?_ ?_
 intro p2 y3 h3
 unfold M.Jc at h3
 refine Za (rg0 [1,5,10,11,12,13] 1 ⟨27,[(1,.int .u32 a1),(5,.asl 0 0 p2.1.length),(10,.asl 0 0 p2.1.length),(11,.int .i64 u1),(12,.int .i64 p2.2),(13,.bool (decide (p2.2 < u1)))],[aL 2 ZN p2.1]⟩ (Zb (Za (cn h3 (fun _ h5=>?_) (fun _ h6=>?_)))))
 refine Zd (Zb (Jz (fun (p4:(List ZF))=>⟨27,[(1,.int .u32 a1),(5,.asl 0 0 p4.length),(10,.asl 0 0 p4.length),(11,.int .i64 u1),(12,.int .i64 p2.2)],[aL 2 ZN p4]⟩) (fun p4=>M.Jb p2 p4=some y3) ?_ ?_))
 intro p4 h8
 unfold M.Jb at h8
 exact zg [1,5,10,11,12] 1 (rn h8)
 intro k7
 refine Zg (Za ?_)
 obtain ⟨c9,h10⟩:=Zo h5
 refine zc [1,5,6,7,10,11,12] 2 c9 (Zb (Za (zg [1,5,6,10,11,12,19] 1 (Zb (cn h10 (fun _ h12=>?_) (fun _ h13=>?_))))))
 obtain ⟨c14,h15⟩:=Zo h12
 exact rgc [1,5,10,11,12] 1 ⟨27,[(1,.int .u32 a1),(5,.asl 0 0 p2.1.length),(10,.asl 0 0 p2.1.length),(11,.int .i64 (r1.length:Int)),(12,.int .i64 p2.2)],[.arr 2 p2.1.length (fun j=>bif Nat.beq j (0+p2.2.toNat) then splice (ZN (p2.1.getD (0+p2.2.toNat) default)) [.int .u32 a1] 1 else ZN (p2.1.getD j default))]⟩ [decide (0≤p2.2),decide (p2.2 < (p2.1.length:Int))] c14 (XA (ZZ (QU (.cons Sub.rfl (.cons (VJ (by simp)) (.cons (VJ (by simp)) (.cons Sub.rfl (.cons Sub.rfl .nil))))) (.cons (.arr (by simp) (Zdz ZN p2.1 (0+p2.2.toNat) (⟨(p2.1.getD (0+p2.2.toNat) default).ZP,a1⟩:ZF) _ rfl)) .nil)) (k7 (p2.1.set (0+p2.2.toNat) (⟨(p2.1.getD (0+p2.2.toNat) default).ZP,a1⟩:ZF)) h15)))
 exact Zd (XA (ZZ kq (k7 p2.1 h13)))
 exact ZD (Xc (re h6 ⟨rfl,kq⟩))
 intro e18 s19 o20
 refine zi o20 (Za (zg [4] 1 (Zb (Zf ?_))))
 obtain rfl:=Option.some.inj h17
 exact er (.sl false 2 y5.length (fun i=>ZN (y5.getD (0+i) default))) ZdB
theorem ZgI (a0:List ZM) (a1:Int) (r:(List ZF)) (h:M.Wv a0 a1=some r):Fn Tryz.prog 30 [sL 14 X1 a0,.int .i64 a1] (.pure (sL 2 ZN r)):=by
 unfold M.Wv at h
 refine ZC Tryz.func30 rfl (by kernel_rfl) (Za (zg [0,1] 0 (Zb (Za ?_))))
 obtain ⟨c1,h2⟩:=Zo h
 refine rgc [0,1,5] 1 ⟨86,[(0,sL 14 X1 a0),(1,.int .i64 a1),(5,.asl 0 0 ((a0.length:Int).toNat))],[.arr 1 ((a0.length:Int).toNat) (fun _=>[.bool false])]⟩ [decide (0≤(a0.length:Int)),decide ((a0.length:Int)≤(a0.length:Int)),decide ((a0.length:Int).toNat*1≤140737488355328),decide ((a0.length:Int).toNat≤140737488355328)] c1 (ZZ (s':=⟨86,[(0,sL 14 X1 a0),(1,.int .i64 a1),(5,.asl 0 0 ((List.replicate ((a0.length:Int).toNat) false).length))],[aL 1 cb (List.replicate ((a0.length:Int).toNat) false)]⟩) (QU (.cons Sub.rfl (.cons Sub.rfl (.cons (VJ (by simp)) .nil))) (.cons (.arr (by simp) (Zko cb _ false _ rfl)) .nil)) (Za (Zg ?_)))
 obtain ⟨y7,q35,h36⟩:=bind_some h2
 refine zl (fun (p1:(List Bool) × Int)=>⟨86,[(0,sL 14 X1 a0),(1,.int .i64 p1.2),(5,.asl 0 0 p1.1.length)],[aL 1 cb p1.1]⟩) (Sum.elim (fun z=>OutE 0 (fun z=>⟨86,[(0,sL 14 X1 a0),(1,.int .i64 z)],[]⟩) z) (fun z=>OutR Tryz.prog Tryz.f30 (sL 2 ZN z))) q35 ?_ ?_
 intro p1 y2 h3
 unfold M.JH at h3
 refine Za (Za ?_)
 obtain ⟨r3,q4,h5⟩:=bind_some h3
 obtain ⟨c6,h7⟩:=Zo h5
 refine zr [0,1,5,23] 1 c6 (rq2 (fun hg=>RY _ _ (Xg q4 hg)) rqn) (Zb (cn h7 (fun _ h9=>?_) (fun _ h10=>?_)))
 refine Zd (Zb (Zg (Za ?_)))
 obtain ⟨c11,h12⟩:=Zo h9
 refine rgc [0,1,5] 1 ⟨86,[(0,sL 14 X1 a0),(1,.int .i64 p1.2),(5,.asl 0 0 p1.1.length)],[.arr 1 p1.1.length (fun j=>bif Nat.beq j (0+p1.2.toNat) then splice (cb (p1.1.getD (0+p1.2.toNat) default)) [.bool true] 0 else cb (p1.1.getD j default))]⟩ [decide (0≤p1.2),decide (p1.2 < (p1.1.length:Int))] c11 (ZZ (s':=⟨86,[(0,sL 14 X1 a0),(1,.int .i64 p1.2),(5,.asl 0 0 ((p1.1.set (0+p1.2.toNat) true).length))],[aL 1 cb (p1.1.set (0+p1.2.toNat) true)]⟩) (QU (.cons Sub.rfl (.cons Sub.rfl (.cons (VJ (by simp)) .nil))) (.cons (.arr (by simp) (Zdz cb p1.1 (0+p1.2.toNat) true _ rfl)) .nil)) (Za ?_))
 obtain ⟨c13,h14⟩:=Zo h12
 refine zc [0,1,5,6] 1 c13 (Zb (Za ?_))
 obtain ⟨r4,q15,h16⟩:=bind_some h14
 obtain ⟨c17,h18⟩:=Zo h16
 refine zr [0,5,6,7] 1 c17 (rq1 (Zc5 _ _ _ _ q15) rqn) (Zb (Za (Za ?_)))
 obtain ⟨c19,h20⟩:=Zo h18
 refine zc [0,5,6,7,53] 1 c19 (Zb (cn h20 (fun _ h22=>?_) (fun _ h23=>?_)))
 exact Za (rg0 [4] 0 ⟨86,[(4,.sl true 2 0 (fun _=>[]))],[]⟩ (Zb (Zf (Zk (ZR (rr h22 ⟨rfl,er (.sl false 2 0 (fun _=>[])) R9⟩))))))
 refine Zd (Zb (Za (Za ?_)))
 obtain ⟨r5,q24,h25⟩:=bind_some h23
 obtain ⟨c26,h27⟩:=Zo h25
 refine zr [0,5,6,7,67] 1 c26 (rq2 (fun hg=>RY _ _ (Xg q24 hg)) rqn) (Zb (cn h27 (fun _ h29=>?_) (fun _ h30=>?_)))
 refine Za ?_
 obtain ⟨r6,q31,h32⟩:=bind_some h29
 obtain ⟨c33,h34⟩:=Zo h32
 exact zr [4] 0 c33 (rq1 (ZgH _ _ _ q31) rqn) (Zb (Zf (Zk (ZR (rr h34 ⟨rfl,er0 _⟩)))))
 exact Zd (Zb (zg [0,1,5] 1 (XA (rn h30))))
 exact ZD (Xc (re h10 ⟨rfl,kc⟩))
 intro e37 s38 o39
 rcases y7 with g8 | y9
 have h40:=Yc h36
 refine zi o39 (Za (Za ?_))
 obtain ⟨c43,h44⟩:=Zo h40
 refine zc [0,1,80] 0 c43 (Zb (cn h44 (fun _ h46=>?_) (fun _ h47=>?_)))
 refine Za (zg [4] 0 (Zb (Zf (Zk ?_))))
 obtain rfl:=Option.some.inj h46
 exact er (.sl false 2 0 (fun _=>[])) R9
 refine Zd (Zb (Za ?_))
 obtain ⟨c48,h49⟩:=Zo h47
 exact zc [4] 0 c48 (Zb (Zf (er1 h49)))
 have h41:=Yd h36
 obtain ⟨rfl,n50⟩:=o39
 refine ZR (Zk ?_)
 obtain rfl:=Option.some.inj h41
 exact n50
theorem Kh (a0:List VL) (a1:VL) (r:Int) (h:M.Z9 a0 a1=some r):Fn Tryz.prog 117 [sL 2 Xo a0,.agg (Xo a1)] (.pure (.int .i64 r)):=by
 unfold M.Z9 at h
 refine ZC Tryz.func117 rfl (by kernel_rfl) (Za (zg [0,3] 1 (Zb (Za (Za (zg [0,3,7,8] 1 (Zb (Zg ?_))))))))
 obtain ⟨y3,q10,h11⟩:=bind_some h
 refine zl (fun (p1:Int)=>⟨19,[(0,sL 2 Xo a0),(3,.ref 0 0),(7,.int .i64 (a0.length:Int)),(8,.int .i64 p1)],[.box (Xo a1)]⟩) (Sum.elim (fun z=>OutE 0 (fun z=>⟨19,[],[]⟩) z) (fun z=>OutR Tryz.prog Tryz.f117 (.int .i64 z))) q10 ?_ ?_
 intro p1 y2 h1
 unfold M.Z4 at h1
 refine Za (zg [0,3,7,8,9] 1 (Zb (Za (cn h1 (fun _ h3=>?_) (fun _ h4=>?_)))))
 refine Zd (Zb (Za (Zg (Za (zg [0,3,5,7,8] 1 (Zb (Za ?_)))))))
 obtain ⟨c5,h6⟩:=Zo h3
 refine zc [0,3,5,7,8,16] 1 c5 (Zb (cn h6 (fun _ h8=>?_) (fun _ h9=>?_)))
 exact Za (zg [4] 0 (Zb (Zf (ZR (Zk (rr h8 ⟨rfl,er0 _⟩))))))
 exact Zd (XA (Zb (zg [0,3,7,8] 1 (rn h9))))
 exact ZD (Xc (re h4 ⟨rfl,kc⟩))
 intro e12 s13 o14
 rcases y3 with g4 | y5
 have h15:=Yc h11
 exact zi o14 (Za (zg [4] 0 (Zb (Zf (er1 h15)))))
 have h16:=Yd h11
 obtain ⟨rfl,n18⟩:=o14
 refine ZR (Zk ?_)
 obtain rfl:=Option.some.inj h16
 exact n18
theorem GJ (a0:List VL) (a1:VL) (r:Bool) (h:M.ZV a0 a1=some r):Fn Tryz.prog 86 [sL 2 Xo a0,.agg (Xo a1)] (.pure (.bool r)):=by
 unfold M.ZV at h
 refine ZC Tryz.func86 rfl (by kernel_rfl) (Za (zg [0,3] 1 (Zb (Za ?_))))
 obtain ⟨r1,q1,h2⟩:=bind_some h
 exact zr [4] 0 Zt (rq1 (Kh _ _ _ q1) rqn) (Zb (Zf (er1 h2)))
theorem ZbB (a0:XL) (a1:Int) (a2:Int) (r:Int) (h:M.Qd a0 a1 a2=some r):Fn Tryz.prog 67 [.agg (XD a0),.int .i64 a1,.int .i64 a2] (.pure (.int .i64 r)):=by
 unfold M.Qd at h
 refine ZC Tryz.func67 rfl (by kernel_rfl) (Za (zg [1,2,3] 1 (Zb (Za (zg [3,7] 2 (Zb (Za (Za (zg [7,15,16,17] 2 (Zb (Zg ?_)))))))))))
 obtain ⟨y4,q12,h13⟩:=bind_some h
 refine zl (fun (p1:Int)=>⟨28,[(7,.ref 1 0),(15,sL 4 Z0 a0.Yf.Xe),(16,.int .i64 (a0.Yf.Xe.length:Int)),(17,.int .i64 p1)],[.box (XD a0),.box [.int .i64 a1,.int .i64 a2]]⟩) (Sum.elim (fun z=>OutE 0 (fun z=>⟨28,[],[]⟩) z) (fun z=>OutR Tryz.prog Tryz.f67 (.int .i64 z))) q12 ?_ ?_
 intro p1 y2 h1
 unfold M.YT at h1
 refine Za (zg [7,15,16,17,18] 2 (Zb (Za (cn h1 (fun _ h3=>?_) (fun _ h4=>?_)))))
 refine Zd (Zb (Za (Zg (Za ?_))))
 obtain ⟨c5,h6⟩:=Zo h3
 refine zc [7,8,9,15,16,17] 3 c5 (Zb (Za ?_))
 obtain ⟨r3,q7,h8⟩:=bind_some h6
 refine zr [7,8,15,16,17,25] 2 Zt (rq1 (GJ _ _ _ q7) rqn) (Zb (cn h8 (fun _ h10=>?_) (fun _ h11=>?_)))
 exact Za (zg [6] 0 (Zb (Zf (ZR (Zk (rr h10 ⟨rfl,er0 _⟩))))))
 exact Zd (XA (Zb (zg [7,15,16,17] 2 (rn h11))))
 exact ZD (Xc (re h4 ⟨rfl,kc⟩))
 intro e14 s15 o16
 rcases y4 with g5 | y6
 have h17:=Yc h13
 exact zi o16 (Za (zg [6] 0 (Zb (Zf (er1 h17)))))
 have h18:=Yd h13
 obtain ⟨rfl,n20⟩:=o16
 refine ZR (Zk ?_)
 obtain rfl:=Option.some.inj h18
 exact n20
theorem GO (a0:List Int) (a1:Int) (r:Int) (h:M.XQ a0 a1=some r):Fn Tryz.prog 87 [sL 1 (ci .i64) a0,.int .i64 a1] (.pure (.int .i64 r)):=by
 unfold M.XQ at h
 refine ZC Tryz.func87 rfl (by kernel_rfl) (Za (zg [0,1] 0 (Zb (Za (Za (zg [0,1,7,8] 0 (Zb (Zg ?_))))))))
 obtain ⟨y3,q10,h11⟩:=bind_some h
 refine zl (fun (p1:Int)=>⟨19,[(0,sL 1 (ci .i64) a0),(1,.int .i64 a1),(7,.int .i64 (a0.length:Int)),(8,.int .i64 p1)],[]⟩) (Sum.elim (fun z=>OutE 0 (fun z=>⟨19,[],[]⟩) z) (fun z=>OutR Tryz.prog Tryz.f87 (.int .i64 z))) q10 ?_ ?_
 intro p1 y2 h1
 unfold M.XS at h1
 refine Za (zg [0,1,7,8,9] 0 (Zb (Za (cn h1 (fun _ h3=>?_) (fun _ h4=>?_)))))
 refine Zd (Zb (Za (Zg (Za (zg [0,1,5,7,8] 0 (Zb (Za ?_)))))))
 obtain ⟨c5,h6⟩:=Zo h3
 refine zc [0,1,5,7,8,16] 0 c5 (Zb (cn h6 (fun _ h8=>?_) (fun _ h9=>?_)))
 exact Za (zg [4] 0 (Zb (Zf (ZR (Zk (rr h8 ⟨rfl,er0 _⟩))))))
 exact Zd (XA (Zb (zg [0,1,7,8] 0 (rn h9))))
 exact ZD (Xc (re h4 ⟨rfl,kq⟩))
 intro e12 s13 o14
 rcases y3 with g4 | y5
 have h15:=Yc h11
 exact zi o14 (Za (zg [4] 0 (Zb (Zf (er1 h15)))))
 have h16:=Yd h11
 obtain ⟨rfl,n18⟩:=o14
 refine ZR (Zk ?_)
 obtain rfl:=Option.some.inj h16
 exact n18
theorem Zh7 (a0:XL) (a1:Int) (a2:Int) (r:Int) (h:M.VE a0 a1 a2=some r):Fn Tryz.prog 68 [.agg (XD a0),.int .i64 a1,.int .i64 a2] (.pure (.int .i64 r)):=by
 unfold M.VE at h
 refine ZC Tryz.func68 rfl (by kernel_rfl) (Za (zg [1,2,3] 1 (Zb (Za ?_))))
 obtain ⟨r1,q1,h2⟩:=bind_some h
 refine zr [3,7] 1 Zt (rq1 (ZbB _ _ _ _ q1) rqn) (Zb (Za (Za (zg [3,7,13] 1 (Zb (cn h2 (fun _ h4=>?_) (fun _ h5=>?_)))))))
 exact Za (zg [6] 0 (Zb (Zf (Zk (er1 h4)))))
 refine Zd (Zb (Za ?_))
 obtain ⟨r2,q6,h7⟩:=bind_some h5
 exact zr [6] 0 Zt (rq1 (GO _ _ _ q6) rqn) (Zb (Zf (er1 h7)))
theorem K8 (a0:List Int) (a1:Int) (r:Bool) (h:M.XH a0 a1=some r):Fn Tryz.prog 69 [sL 1 (ci .i64) a0,.int .i64 a1] (.pure (.bool r)):=by
 unfold M.XH at h
 refine ZC Tryz.func69 rfl (by kernel_rfl) (Za (zg [0,1] 0 (Zb (Za ?_))))
 obtain ⟨r1,q1,h2⟩:=bind_some h
 exact zr [4] 0 Zt (rq1 (GO _ _ _ q1) rqn) (Zb (Zf (er1 h2)))
theorem ZjX (a0:XL) (a1:Int) (a2:Int) (r:Bool) (h:M.Us a0 a1 a2=some r):Fn Tryz.prog 31 [.agg (XD a0),.int .i64 a1,.int .i64 a2] (.pure (.bool r)):=by
 unfold M.Us at h
 refine ZC Tryz.func31 rfl (by kernel_rfl) (Za (zg [1,2,3] 1 (Zb (Za (Za ?_)))))
 obtain ⟨r1,q1,h2⟩:=bind_some h
 refine zr [1,2,3,12] 1 Zt (rq1 (ZbB _ _ _ _ q1) rqn) (Zb (cn h2 (fun _ h4=>?_) (fun _ h5=>?_)))
 exact Za (zg [6] 0 (Zb (Zf (Zk (er1 h4)))))
 refine Zd (Zb (Za ?_))
 obtain ⟨r2,q6,h7⟩:=bind_some h5
 refine zr [3,7] 1 Zt (rq1 (Zh7 _ _ _ _ q6) rqn) (Zb (Za ?_))
 obtain ⟨r3,q8,h9⟩:=bind_some h7
 exact zr [6] 0 Zt (rq2 (fun hg=>K8 _ _ _ (Xg q8 hg)) rqn) (Zb (Zf (er1 h9)))
theorem R0 (a0:Int) (r:Bool) (h:M.Jh a0=some r):Fn Tryz.prog 72 [.int .i64 a0] (.pure (.bool r)):=by
 unfold M.Jh at h
 exact ZC Tryz.func72 rfl (by kernel_rfl) (Za (zg [0] 0 (Zb (Za (zg [2] 0 (Zb (Zf (er1 h))))))))
theorem GK (a0:Int) (a1:Int) (r:Int) (h:M.YO a0 a1=some r):Fn Tryz.prog 35 [.int .i64 a0,.int .i64 a1] (.pure (.int .i64 r)):=by
 unfold M.YO at h
 refine ZC Tryz.func35 rfl (by kernel_rfl) (Za (zg [0,1] 0 (Zb (Za ?_))))
 obtain ⟨r1,q1,h2⟩:=bind_some h
 refine zr [0,1,5] 0 Zt (rq1 (R0 _ _ q1) rqn) (Zb (Za ?_))
 obtain ⟨r2,q3,h4⟩:=bind_some h2
 refine zr [0,1,5,6] 0 Zt (rq1 (R0 _ _ q3) rqn) (Zb (Za (Za (zg [0,1,6,11] 0 (Zb (cn h4 (fun _ h6=>?_) (fun _ h7=>?_)))))))
 refine Za (Za (zg [12] 0 (Zb (cn h6 (fun _ h9=>?_) (fun _ h10=>?_)))))
 exact Za (zg [4] 0 (Zb (Zf (Zk (Zk (er1 h9))))))
 exact Zd (Zb (Za (zg [4] 0 (Zb (Zf (Zk (er1 h10)))))))
 refine Zd (Zb (Za (Za (zg [0,1,13] 0 (Zb (cn h7 (fun _ h12=>?_) (fun _ h13=>?_)))))))
 exact Za (zg [4] 0 (Zb (Zf (Zk (er1 h12)))))
 refine Zd (Zb (Za (Za (zg [0,1,16] 0 (Zb (cn h13 (fun _ h15=>?_) (fun _ h16=>?_)))))))
 exact Za (zg [4] 0 (Zb (Zf (Zk (er1 h15)))))
 refine Zd (Zb (Za (Za (zg [19] 0 (Zb (cn h16 (fun _ h18=>?_) (fun _ h19=>?_)))))))
 exact Za (zg [4] 0 (Zb (Zf (Zk (er1 h18)))))
 exact Zd (Zb (Za (zg [4] 0 (Zb (Zf (er1 h19))))))
theorem KN (a0:Int) (r:Bool) (h:M.Y4 a0=some r):Fn Tryz.prog 73 [.int .u32 a0] (.pure (.bool r)):=by
 unfold M.Y4 at h
 exact ZC Tryz.func73 rfl (by kernel_rfl) (Za (zg [0] 0 (Zb (Za (zg [2] 0 (Zb (Zf (er1 h))))))))
theorem Ki (a0:Int) (a1:Int) (r:Int) (h:M.Yw a0 a1=some r):Fn Tryz.prog 36 [.int .u32 a0,.int .u32 a1] (.pure (.int .i64 r)):=by
 unfold M.Yw at h
 refine ZC Tryz.func36 rfl (by kernel_rfl) (Za (zg [0,1] 0 (Zb (Za ?_))))
 obtain ⟨r1,q1,h2⟩:=bind_some h
 refine zr [0,1,5] 0 Zt (rq1 (KN _ _ q1) rqn) (Zb (Za ?_))
 obtain ⟨r2,q3,h4⟩:=bind_some h2
 refine zr [0,1,5,6] 0 Zt (rq1 (KN _ _ q3) rqn) (Zb (Za (Za (zg [0,1,6,11] 0 (Zb (cn h4 (fun _ h6=>?_) (fun _ h7=>?_)))))))
 refine Za (Za (zg [12] 0 (Zb (cn h6 (fun _ h9=>?_) (fun _ h10=>?_)))))
 exact Za (zg [4] 0 (Zb (Zf (Zk (Zk (er1 h9))))))
 exact Zd (Zb (Za (zg [4] 0 (Zb (Zf (Zk (er1 h10)))))))
 refine Zd (Zb (Za (Za (zg [0,1,13] 0 (Zb (cn h7 (fun _ h12=>?_) (fun _ h13=>?_)))))))
 exact Za (zg [4] 0 (Zb (Zf (Zk (er1 h12)))))
 refine Zd (Zb (Za (Za (zg [0,1,16] 0 (Zb (cn h13 (fun _ h15=>?_) (fun _ h16=>?_)))))))
 exact Za (zg [4] 0 (Zb (Zf (Zk (er1 h15)))))
 refine Zd (Zb (Za (Za (zg [19] 0 (Zb (cn h16 (fun _ h18=>?_) (fun _ h19=>?_)))))))
 exact Za (zg [4] 0 (Zb (Zf (Zk (er1 h18)))))
 exact Zd (Zb (Za (zg [4] 0 (Zb (Zf (er1 h19))))))
theorem ZcC (a0:List Int) (r:Int) (h:M.Wd a0=some r):Fn Tryz.prog 34 [sL 1 (ci .i64) a0] (.pure (.int .i64 r)):=by
 unfold M.Wd at h
 refine ZC Tryz.func34 rfl (by kernel_rfl) (Za (zg [0] 0 (Zb (Za (zg [0,3] 0 (Zb (Za (Za (zg [3,6,7,8] 0 (Zb (Zg ?_)))))))))))
 obtain ⟨y3,q10,h11⟩:=bind_some h
 refine zl (fun (p1:Int)=>⟨18,[(3,.int .i64 0),(6,sL 1 (ci .i64) a0),(7,.int .i64 (a0.length:Int)),(8,.int .i64 p1)],[]⟩) (Sum.elim (fun z=>OutE 0 (fun z=>⟨18,[(3,.int .i64 0)],[]⟩) z) (fun z=>OutR Tryz.prog Tryz.f34 (.int .i64 z))) q10 ?_ ?_
 intro p1 y2 h1
 unfold M.QT at h1
 refine Za (zg [3,6,7,8,9] 0 (Zb (Za (cn h1 (fun _ h3=>?_) (fun _ h4=>?_)))))
 refine Zd (Zb (Za (Zg (Za ?_))))
 obtain ⟨c5,h6⟩:=Zo h3
 refine zc [3,5,6,7,8] 0 c5 (Zb (Za (zg [3,5,6,7,8,14] 0 (Zb (cn h6 (fun _ h8=>?_) (fun _ h9=>?_))))))
 exact Za (zg [2] 0 (Zb (Zf (ZR (Zk (rr h8 ⟨rfl,er0 _⟩))))))
 exact Zd (XA (Zb (zg [3,6,7,8] 0 (rn h9))))
 exact ZD (Xc (re h4 ⟨rfl,kq⟩))
 intro e12 s13 o14
 rcases y3 with g4 | y5
 have h15:=Yc h11
 exact zi o14 (Za (zg [2] 0 (Zb (Zf (er1 h15)))))
 have h16:=Yd h11
 obtain ⟨rfl,n18⟩:=o14
 refine ZR (Zk ?_)
 obtain rfl:=Option.some.inj h16
 exact n18
theorem ZeJ (a0:ZF) (a1:ZF) (r:Int) (h:M.JU a0 a1=some r):Fn Tryz.prog 33 [.agg (ZN a0),.agg (ZN a1)] (.pure (.int .i64 r)):=by
 unfold M.JU at h
 refine ZC Tryz.func33 rfl (by kernel_rfl) (Za (zg [2,3] 2 (Zb (Za ?_))))
 obtain ⟨r1,q1,h2⟩:=bind_some h
 obtain ⟨r2,q3,h4⟩:=bind_some h2
 obtain ⟨r3,q5,h6⟩:=bind_some h4
 exact rg [.pure (.int .i64 r1),.pure (.int .i64 r2),.pure (.int .i64 r3)] [4] 0 ⟨17,[(4,.int .i64 r3)],[]⟩ [] [⟨true,35,[.int .i64 a0.ZP,.int .i64 a1.ZP],.pure (.int .i64 r1)⟩,⟨true,36,[.int .u32 a0.Zm,.int .u32 a1.Zm],.pure (.int .i64 r2)⟩,⟨true,34,[.sl false 1 2 (fun i=>List.take 1 (List.drop (i*1) [.int .i64 r1,.int .i64 r2]))],.pure (.int .i64 r3)⟩] Zt ⟨fun _=>GK a0.ZP a1.ZP r1 q1,fun _=>Ki a0.Zm a1.Zm r2 q3,fun _=>(ZcC ([r1,r2]:List Int) r3 q5).args (.cons (ZhN rfl (fun i hi=>match i,hi with | 0,_=>rfl | 1,_=>rfl | n+2,h=>absurd h (by omega))) .nil),trivial⟩ (Zb (Zf (er1 h6)))
end Nv
namespace Go.Proofs
open Go.Shelf
shelf_lay_g SlLaysF0.n6 Slsf 6 at Tryz 32 as Tryz.sortL32
end Go.Proofs
namespace Nv
open Go Go.Proofs
theorem W2 (a0:List ZF) (r:List ZF) (h:M.XI a0=some r):FnM Tryz.prog 32 [.asl 0 0 a0.length,.fn 33 []] 2 a0.length (fun i=>ZN (a0.getD i default)) (fun i=>ZN (r.getD i default)) (.tup []):=by
 obtain ⟨cf,h1,h2,h3,rfl⟩:=Zgm h
 exact sortF0 Tryz.sortL32 2 (fun w=>by kernel_rfl) (fun w=>by kernel_rfl) ZN (fun _=>rfl) (fun _=>rfl) h2 33 (enters_of Tryz.func33 (by kernel_rfl) rfl) (fun x y=>ZeJ x y _ (h1 x y)) a0 h3
theorem GR (a0:List ZF) (r:(List ZF) × Nat) (h:M.XT a0=some r):FnM Tryz.prog 37 [.asl 0 0 a0.length] 2 a0.length (fun i=>ZN (a0.getD i default)) (fun i=>ZN (r.1.getD i default)) (.asl 0 0 r.2):=by
 let u1:St:=⟨61,[(2,.asl 0 0 a0.length)],[aL 2 ZN a0,.gone]⟩
 unfold M.XT at h
 refine Zoi Tryz.func37 rfl (by kernel_rfl) (Za (zg [0] 2 (Zb (Za (Za (zg [0,8] 2 (Zb (cn h (fun _ h2=>?_) (fun _ h3=>?_)))))))))
 refine Za (rg0 [2] 2 u1 (Zb (Zf (Zk ?_))))
 obtain rfl:=Option.some.inj h2
 exact emr (s':=u1) (Uw) rfl
 refine Zd (Zb (Za (Za (zg [0,3] 2 (Zb (Zg ?_))))))
 obtain ⟨y7,q40,h41⟩:=bind_some h3
 refine zl (fun (p1:Int)=>⟨61,[(0,.asl 0 0 a0.length),(3,.int .i64 p1)],[aL 2 ZN a0,.gone]⟩) (Sum.elim (fun z=>OutE 0 (fun z=>⟨61,[(0,.asl 0 0 a0.length)],[aL 2 ZN a0,.gone]⟩) z) (fun z=>OutM Tryz.prog Tryz.f37 2 a0.length (fun i=>ZN (z.1.getD i default)) (.asl 0 0 z.2))) q40 ?_ ?_
 intro p1 y2 h4
 let u3:Nat × D:=(4,.asl 0 (0+p1.toNat) (a0.length - p1.toNat))
 unfold M.Z3 at h4
 refine Za (Za (zg [0,3,13] 2 (Zb (cn h4 (fun _ h6=>?_) (fun _ h7=>?_)))))
 refine Zd (Zb (Za (Zg (Za ?_))))
 obtain ⟨c8,h9⟩:=Zo h6
 refine zc [0,3,25] 2 c8 (Zb (cn h9 (fun _ h11=>?_) (fun _ h12=>?_)))
 refine Za ?_
 obtain ⟨c13,h14⟩:=Zo h11
 refine zc [0,3,4] 2 c13 (Zb (Za (Za (zg [0,3,4,5] 2 (Zb (Zg ?_))))))
 obtain ⟨y6,q28,h29⟩:=bind_some h14
 let u2:=y6.2.length - y6.1.toNat
 let u4:Nat × D:=(2,.asl 0 (0+0) (y6.1.toNat - 0))
 refine zl (fun (p3:(List ZF) × Int × Int)=>⟨61,[(0,.asl 0 0 p3.1.length),(3,.int .i64 p3.2.1),u3,(5,.int .i64 p3.2.2)],[aL 2 ZN p3.1,.gone]⟩) (fun z=>OutE 2 (fun z=>⟨61,[(0,.asl 0 0 z.2.length),(3,.int .i64 z.1)],[aL 2 ZN z.2,.gone]⟩) z) q28 ?_ ?_
 intro p3 y4 h15
 unfold M.Xl at h15
 refine Za (Za (rg0 [0,3,4,5,32] 2 ⟨61,[(0,.asl 0 0 p3.1.length),(3,.int .i64 p3.2.1),u3,(5,.int .i64 p3.2.2),(32,.bool (decide (p3.2.2 < ((a0.length - p1.toNat:Nat):Int))))],[aL 2 ZN p3.1,.gone]⟩ (Zb (cn h15 (fun _ h17=>?_) (fun _ h18=>?_)))))
 refine Zd (Zb (Jz (fun (p5:Int × (List ZF))=>⟨61,[(0,.asl 0 0 p5.2.length),(3,.int .i64 p5.1),u3,(5,.int .i64 p3.2.2)],[aL 2 ZN p5.2,.gone]⟩) (fun p5=>M.Xk p3 p5=some y4) ?_ ?_))
 intro p5 h20
 unfold M.Xk at h20
 exact zg [0,3,4,5] 2 (rn h20)
 intro k19
 refine Zg (Za ?_)
 obtain ⟨c21,h22⟩:=Zo h17
 refine zc [0,3,4,5,44] 2 c21 (Zb (cn h22 (fun _ h24=>?_) (fun _ h25=>?_)))
 refine Za ?_
 obtain ⟨c26,h27⟩:=Zo h24
 exact rgc [0,3,4,5] 2 ⟨61,[(0,.asl 0 0 p3.1.length),(3,.int .i64 p3.2.1),(4,.asl 0 (0+p1.toNat) (a0.length - p1.toNat)),(5,.int .i64 p3.2.2)],[.arr 2 p3.1.length (fun j=>bif Nat.beq j (0+p3.2.1.toNat) then splice (ZN (p3.1.getD (0+p3.2.1.toNat) default)) [.int .i64 ((p3.1.getD ((0+p1.toNat)+p3.2.2.toNat) default).ZP),.int .u32 ((p3.1.getD ((0+p1.toNat)+p3.2.2.toNat) default).Zm)] 0 else ZN (p3.1.getD j default)),.gone]⟩ [decide (0≤p3.2.2),decide (p3.2.2 < ((a0.length - p1.toNat:Nat):Int)),decide (0≤p3.2.1),decide (p3.2.1 < (p3.1.length:Int))] c26 (ZZ (s':=⟨61,[(0,.asl 0 0 ((p3.1.set (0+p3.2.1.toNat) (p3.1.getD ((0+p1.toNat)+p3.2.2.toNat) default)).length)),(3,.int .i64 p3.2.1),(4,.asl 0 (0+p1.toNat) (a0.length - p1.toNat)),(5,.int .i64 p3.2.2)],[aL 2 ZN (p3.1.set (0+p3.2.1.toNat) (p3.1.getD ((0+p1.toNat)+p3.2.2.toNat) default)),.gone]⟩) (QU (.cons (VJ (by simp)) (.cons Sub.rfl (.cons Sub.rfl (.cons Sub.rfl .nil)))) (.cons (.arr (by simp) (Zdz ZN p3.1 (0+p3.2.1.toNat) (p3.1.getD ((0+p1.toNat)+p3.2.2.toNat) default) _ rfl)) (.cons .rfl .nil))) (zg [0,3,4,5] 2 (XA (ZZ lk (k19 (wr .i64 (p3.2.1+1),p3.1.set (0+p3.2.1.toNat) (p3.1.getD ((0+p1.toNat)+p3.2.2.toNat) default)) h27)))))
 exact Zd (XA (ZZ kq (k19 (p3.2.1,p3.1) h25)))
 exact ZD (Xc (re h18 ⟨rfl,kq⟩))
 intro e30 s31 o32
 refine zi o32 (Za ?_)
 obtain ⟨c34,h35⟩:=Zo h29
 refine rgc [0,3] 2 ⟨61,[(0,.asl 0 0 y6.2.length),(3,.int .i64 y6.1)],[.arr 2 y6.2.length (clrR ([.int .i64 0,.int .u32 0]) (0+y6.1.toNat) u2 (fun i=>ZN (y6.2.getD i default))),.gone]⟩ [decide (0≤y6.1),decide (y6.1≤(y6.2.length:Int))] c34 (ZZ (s':=⟨61,[(0,.asl 0 0 ((clrL y6.2 (0+y6.1.toNat) u2 (⟨0,0⟩:ZF)).length)),(3,.int .i64 y6.1)],[aL 2 ZN (clrL y6.2 (0+y6.1.toNat) u2 (⟨0,0⟩:ZF)),.gone]⟩) (QU (.cons (VJ (Zbi _ _ _ _)) (.cons Sub.rfl .nil)) (.cons (.arr (Zbi _ _ _ _) (ZmH ZN y6.2 (0+y6.1.toNat) u2 (⟨0,0⟩:ZF) _ rfl)) (.cons .rfl .nil))) (Za ?_))
 obtain ⟨c36,h37⟩:=Zo h35
 refine rgc [2] 2 ⟨61,[u4],[aL 2 ZN (clrL y6.2 (0+y6.1.toNat) u2 (⟨0,0⟩:ZF)),.gone]⟩ [decide (0≤y6.1),decide (y6.1≤(((clrL y6.2 (0+y6.1.toNat) u2 (⟨0,0⟩:ZF)).length:Nat):Int))] c36 (Zb (Zf (ZR (Zk ?_))))
 obtain ⟨c38,h39⟩:=Zo h37
 exact rr h39 ⟨rfl,emr (s':=⟨61,[u4],[aL 2 ZN (clrL y6.2 (0+y6.1.toNat) u2 (⟨0,0⟩:ZF)),.gone]⟩) (Uw) (Zoh c38)⟩
 exact Zd (XA (Zb (zg [0,3] 2 (rn h12))))
 exact ZD (Xc (re h7 ⟨rfl,kq⟩))
 intro e42 s43 o44
 rcases y7 with g8 | y9
 have h45:=Yc h41
 refine zi o44 (Za (rg0 [2] 2 u1 (Zb (Zf ?_))))
 obtain rfl:=Option.some.inj h45
 exact emr (s':=u1) (Uw) rfl
 have h46:=Yd h41
 obtain ⟨rfl,n48⟩:=o44
 refine ZR (Zk ?_)
 obtain rfl:=Option.some.inj h46
 exact n48
theorem ZbC (a0:XL) (a1:List ZM) (a2:Int) (a3:Int) (r:(List ZF)) (h:M.JJ a0 a1 a2 a3=some r):Fn Tryz.prog 15 [.agg (XD a0),sL 14 X1 a1,.int .i64 a2,.int .i64 a3] (.pure (sL 2 ZN r)):=by
 let u4:Nat × D:=(9,.sl true 2 0 (fun _=>[]))
 let u8:List Ob:=[.box (XD a0)]
 unfold M.JJ at h
 refine ZC Tryz.func15 rfl (by kernel_rfl) (Za (zg [1,2,3,4] 1 (Zb (Za (Za (zg [1,2,3,4,19] 1 (Zb (cn h (fun _ h2=>?_) (fun _ h3=>?_)))))))))
 refine Za (zg [8] 0 (Zb (Zf (Zk ?_))))
 obtain rfl:=Option.some.inj h2
 exact er (.sl false 2 0 (fun _=>[])) R9
 refine Zd (Zb (Za (zg [1,2,3,4,9] 1 (Zb (Za (Za ?_))))))
 obtain ⟨r1,q4,h5⟩:=bind_some h3
 let u2:Nat × D:=(22,sL 2 ZN r1)
 let u3:=(r1.length:Int)
 refine rg [.pure (sL 2 ZN r1)] [2,4,9,22,23,24] 1 ⟨42,[(2,.int .i64 a2),(4,.ref 0 0),u4,u2,(23,.int .i64 u3),(24,.int .i64 0)],u8⟩ [] [⟨true,30,[sL 14 X1 a1,.int .i64 a3],.pure (sL 2 ZN r1)⟩] Zt ⟨fun _=>ZgI a1 a3 r1 q4,trivial⟩ (Zb (Zg (Wq (s':=⟨42,[(2,.int .i64 a2),(4,.ref 0 0),u4,u2,(23,.int .i64 u3),(24,.int .i64 0)],u8⟩) (Uw) (Wq (s':=⟨42,[(2,.int .i64 a2),(4,.ref 0 0),(9,.asl 1 0 (([]:List ZF).length)),u2,(23,.int .i64 u3),(24,.int .i64 0)],[.box (XD a0),aL 2 ZN ([]:List ZF)]⟩) (Le.trans (s':=⟨42,(9,.asl 1 0 0) :: [(2,.int .i64 a2),(4,.ref 0 0),u4,u2,(23,.int .i64 u3),(24,.int .i64 0)],u8++[.arr 2 0 (fun i=>ZN (([]:List ZF).getD i default))]⟩) (G0 (wd:=2) (f:=fun _=>[]) 9 (by kernel_rfl) _ _) (kp [2,4,9,22,23,24])) ?_))))
 obtain ⟨y6,q21,h22⟩:=bind_some h5
 refine zl (fun (p2:(List ZF) × Int)=>⟨42,[(2,.int .i64 a2),(4,.ref 0 0),(9,.asl 1 0 p2.1.length),u2,(23,.int .i64 u3),(24,.int .i64 p2.2)],[.box (XD a0),aL 2 ZN p2.1]⟩) (fun z=>OutE 0 (fun z=>⟨42,[(9,.asl 1 0 z.length)],[.box (XD a0),aL 2 ZN z]⟩) z) q21 ?_ ?_
 intro p2 y3 h6
 let u1:=r1.getD p2.2.toNat default
 let u5:List Ob:=[.box (XD a0),aL 2 ZN p2.1,.box (ZN u1)]
 let u6:Nat × D:=(9,.asl 1 0 p2.1.length)
 let u7:=p2.1.length+1
 unfold M.JI at h6
 refine Za (rg0 [2,4,9,22,23,24,25] 2 ⟨42,[(2,.int .i64 a2),(4,.ref 0 0),u6,u2,(23,.int .i64 u3),(24,.int .i64 p2.2),(25,.bool (decide (p2.2 < u3)))],[.box (XD a0),aL 2 ZN p2.1]⟩ (Zb (Za (cn h6 (fun _ h8=>?_) (fun _ h9=>?_)))))
 refine Zd (Zb (Jz (fun (p4:(List ZF))=>⟨42,[(2,.int .i64 a2),(4,.ref 0 0),(9,.asl 1 0 p4.length),u2,(23,.int .i64 u3),(24,.int .i64 p2.2)],[.box (XD a0),aL 2 ZN p4]⟩) (fun p4=>M.Jd p2 p4=some y3) ?_ ?_))
 intro p4 h11
 unfold M.Jd at h11
 exact zg [2,4,9,22,23,24] 2 (rn h11)
 intro k10
 refine Zg (Za ?_)
 obtain ⟨c12,h13⟩:=Zo h8
 refine zc [2,4,9,11,22,23,24] 3 c12 (Zb (Za ?_))
 obtain ⟨r5,q14,h15⟩:=bind_some h13
 refine rg [.pure (.bool r5)] [2,4,9,11,22,23,24,32] 3 ⟨42,[(2,.int .i64 a2),(4,.ref 0 0),u6,(11,.ref 2 0),u2,(23,.int .i64 u3),(24,.int .i64 p2.2),(32,.bool r5)],u5⟩ [] [⟨true,31,[.agg (XD a0),.int .i64 a2,.int .i64 (u1.ZP)],.pure (.bool r5)⟩] Zt ⟨fun _=>ZjX a0 a2 (u1.ZP) r5 q14,trivial⟩ (Zb (cn h15 (fun _ h17=>?_) (fun _ h18=>?_)))
 obtain ⟨c19,h20⟩:=Zo h17
 exact rgc [2,4,9,22,23,24] 2 ⟨42,[(2,.int .i64 a2),(4,.ref 0 0),(9,.asl 1 0 u7),u2,(23,.int .i64 u3),(24,.int .i64 p2.2)],[.box (XD a0),.arr 2 u7 (app (fun i=>ZN (p2.1.getD i default)) p2.1.length (fun i=>List.take 2 (List.drop (i*2) [.int .i64 (u1.ZP),.int .u32 (u1.Zm)])))]⟩ [decide (u7*16≤140737488355328)] c19 (XA (ZZ (QU (.cons Sub.rfl (.cons Sub.rfl (.cons (VJ (Gy _ _)) (.cons Sub.rfl (.cons Sub.rfl (.cons Sub.rfl .nil)))))) (.cons .rfl (.cons (.arr (Gy _ _) (KW ZN p2.1 u1 _ rfl)) .nil))) (k10 (p2.1++[r1.getD p2.2.toNat default]) h20)))
 exact Zd (XA (ZZ (Le.trans (s':=⟨42,[(2,.int .i64 a2),(4,.ref 0 0),u6,u2,(23,.int .i64 u3),(24,.int .i64 p2.2)],u5⟩) (kp [2,4,9,22,23,24]) (UO (n:=2) (by kernel_rfl))) (k10 p2.1 h18)))
 exact ZD (Xc (re h9 ⟨rfl,kq⟩))
 intro e23 s24 o25
 refine zi o25 (Za ?_)
 obtain ⟨r7,q27,h28⟩:=bind_some h22
 obtain ⟨c29,h30⟩:=Zo h28
 refine rg [.lnd 0 0 (fun _=>[]) (fun i=>ZN (r7.getD i default)) (.tup [])] [9] 2 ⟨42,[(9,.asl 1 0 y6.length)],[.box (XD a0),.arr 2 y6.length (fun i=>ZN (r7.getD i default))]⟩ [] [⟨true,32,[.asl 0 0 y6.length,.fn 33 []],.lnd 2 y6.length (fun i=>ZN (y6.getD i default)) (fun i=>ZN (r7.getD i default)) (.tup [])⟩] Zt ⟨fun _=>W2 y6 r7 q27,trivial⟩ (ZZ (s':=⟨42,[(9,.asl 1 0 r7.length)],[.box (XD a0),aL 2 ZN r7]⟩) (QU (.cons (VJ (Zgb (c29 _ List.mem_cons_self))) .nil) (.cons .rfl (.cons (.arr (Zgb (c29 _ List.mem_cons_self)) (fun _ _=>rfl)) .nil))) (Za ?_))
 obtain ⟨r8,q31,h32⟩:=bind_some h30
 obtain ⟨c33,h34⟩:=Zo h32
 refine rg [.lnd 0 0 (fun _=>[]) (fun i=>ZN (r8.1.getD i default)) (.asl 0 0 r8.2)] [8] 2 ⟨42,[(8,.asl 1 0 r8.2)],[.box (XD a0),.arr 2 r7.length (fun i=>ZN (r8.1.getD i default))]⟩ [] [⟨true,37,[.asl 0 0 r7.length],.lnd 2 r7.length (fun i=>ZN (r7.getD i default)) (fun i=>ZN (r8.1.getD i default)) (.asl 0 0 r8.2)⟩] Zt ⟨fun _=>GR r7 r8 q31,trivial⟩ (ZZ (s':=⟨42,[(8,.asl 1 0 r8.2)],[.box (XD a0),aL 2 ZN r8.1]⟩) (QU (.cons Sub.rfl .nil) (.cons .rfl (.cons (.arr (Zgb (c33 _ List.mem_cons_self)) (fun _ _=>rfl)) .nil))) (Zf ?_))
 obtain ⟨c35,h36⟩:=Zo h34
 obtain rfl:=Option.some.inj h36
 exact er (.sl false 2 r8.2 (fun i=>ZN (r8.1.getD (0+i) default))) (Znw c35)
theorem Zd4 (a0:XL) (a1:List ZM) (a2:Int) (r:(List Xx)) (h:M.W5 a0 a1 a2=some r):Fn Tryz.prog 12 [.agg (XD a0),sL 14 X1 a1,.int .i64 a2] (.pure (sL 4 Yh r)):=by
 let u2:Nat × D:=(10,sL 14 X1 a1)
 let u3:Nat × D:=(1,sL 14 X1 a1)
 let u4:=(a1.length:Int)
 let u5:Nat × D:=(7,.sl true 4 0 (fun _=>[]))
 let u7:List Ob:=[.box (XD a0)]
 unfold M.W5 at h
 refine ZC Tryz.func12 rfl (by kernel_rfl) (Za (zg [1,2,3] 1 (Zb (Za (zg [1,2,3,7] 1 (Zb (Za (Za (rg0 [1,2,3,7,10,11,12] 1 ⟨32,[u3,(2,.int .i64 a2),(3,.ref 0 0),u5,u2,(11,.int .i64 u4),(12,.int .i64 0)],u7⟩ (Zb (Zg (Wq (s':=⟨32,[u3,(2,.int .i64 a2),(3,.ref 0 0),u5,u2,(11,.int .i64 u4),(12,.int .i64 0)],u7⟩) (Uw) (Wq (s':=⟨32,[u3,(2,.int .i64 a2),(3,.ref 0 0),(7,.asl 1 0 (([]:List Xx).length)),u2,(11,.int .i64 u4),(12,.int .i64 0)],[.box (XD a0),aL 4 Yh ([]:List Xx)]⟩) (Le.trans (s':=⟨32,(7,.asl 1 0 0) :: [u3,(2,.int .i64 a2),(3,.ref 0 0),u5,u2,(11,.int .i64 u4),(12,.int .i64 0)],u7++[.arr 4 0 (fun i=>Yh (([]:List Xx).getD i default))]⟩) (G0 (wd:=4) (f:=fun _=>[]) 7 (by kernel_rfl) _ _) (kp [1,2,3,7,10,11,12])) ?_)))))))))))))
 obtain ⟨y4,q11,h12⟩:=bind_some h
 refine zl (fun (p1:(List Xx) × Int)=>⟨32,[u3,(2,.int .i64 a2),(3,.ref 0 0),(7,.asl 1 0 p1.1.length),u2,(11,.int .i64 u4),(12,.int .i64 p1.2)],[.box (XD a0),aL 4 Yh p1.1]⟩) (fun z=>OutE 0 (fun z=>⟨32,[(7,.asl 1 0 z.length)],[.box (XD a0),aL 4 Yh z]⟩) z) q11 ?_ ?_
 intro p1 y2 h1
 let u1:=a1.getD p1.2.toNat default
 let u6:=p1.1.length+1
 unfold M.VT at h1
 refine Za (zg [1,2,3,7,10,11,12,13] 2 (Zb (Za (cn h1 (fun _ h3=>?_) (fun _ h4=>?_)))))
 refine Zd (Zb (Za (Zg (Za ?_))))
 obtain ⟨c5,h6⟩:=Zo h3
 refine rgc [1,2,3,7,8,9,10,11,12] 3 ⟨32,[u3,(2,.int .i64 a2),(3,.ref 0 0),(7,.asl 1 0 p1.1.length),(8,.int .i64 p1.2),(9,.ref 2 0),u2,(11,.int .i64 u4),(12,.int .i64 p1.2)],[.box (XD a0),aL 4 Yh p1.1,.box (X1 u1)]⟩ [decide (0≤p1.2),decide (p1.2 < u4)] c5 (Zb ?_)
 obtain ⟨r3,q7,h8⟩:=bind_some h6
 obtain ⟨c9,h10⟩:=Zo h8
 exact rgb 12 [.pure (sL 2 ZN r3)] [1,2,3,7,10,11,12] 2 ⟨32,[u3,(2,.int .i64 a2),(3,.ref 0 0),(7,.asl 1 0 u6),u2,(11,.int .i64 u4),(12,.int .i64 p1.2)],[.box (XD a0),.arr 4 u6 (app (fun i=>Yh (p1.1.getD i default)) p1.1.length (fun i=>List.take 4 (List.drop (i*4) [.int .u32 ((u1.Zh).Zm),.int .i64 ((u1.Zh).ZE),sL 2 ZN r3,.bool (u1.ZS)])))]⟩ [decide (u6*48≤140737488355328)] [⟨true,15,[.agg (XD a0),sL 14 X1 a1,.int .i64 a2,.int .i64 p1.2],.pure (sL 2 ZN r3)⟩] c9 ⟨fun _=>ZbC a0 a1 a2 p1.2 r3 q7,trivial⟩ (XA (ZZ (s':=⟨32,[u3,(2,.int .i64 a2),(3,.ref 0 0),(7,.asl 1 0 ((p1.1++[(⟨u1.Zh,r3,u1.ZS⟩:Xx)]).length)),u2,(11,.int .i64 u4),(12,.int .i64 p1.2)],[.box (XD a0),aL 4 Yh (p1.1++[(⟨u1.Zh,r3,u1.ZS⟩:Xx)])]⟩) (QU (.cons Sub.rfl (.cons Sub.rfl (.cons Sub.rfl (.cons (VJ (Gy _ _)) (.cons Sub.rfl (.cons Sub.rfl (.cons Sub.rfl .nil))))))) (.cons .rfl (.cons (.arr (Gy _ _) (KW Yh p1.1 (⟨u1.Zh,r3,u1.ZS⟩:Xx) _ rfl)) .nil))) (zg [1,2,3,7,10,11,12] 2 (rn h10))))
 exact ZD (Xc (re h4 ⟨rfl,kq⟩))
 intro e13 s14 o15
 refine zi o15 (Za (zg [6] 2 (Zb (Zf ?_))))
 obtain rfl:=Option.some.inj h12
 exact er (.sl false 4 y4.length (fun i=>Yh (y4.getD (0+i) default))) ZdB
theorem ZaJ (a0:XL) (a1:Int) (a2:Int) (r:Int) (h:M.J4 a0 a1 a2=some r):Fn Tryz.prog 42 [.agg (XD a0),.int .i64 a1,.int .i64 a2] (.pure (.int .i64 r)):=by
 let u1:List Ob:=[.box (XD a0)]
 unfold M.J4 at h
 refine ZC Tryz.func42 rfl (by kernel_rfl) (Za (zg [1,2,3] 1 (Zb (Za (Za (zg [1,2,3,7] 1 (Zb (Zg ?_))))))))
 obtain ⟨y8,q25,h26⟩:=bind_some h
 refine zl (fun (p1:Int)=>⟨44,[(1,.int .i64 a1),(2,.int .i64 a2),(3,.ref 0 0),(7,.int .i64 p1)],u1⟩) (Sum.elim (fun z=>OutE 0 (fun z=>⟨44,[],[]⟩) z) (fun z=>OutR Tryz.prog Tryz.f42 (.int .i64 z))) q25 ?_ ?_
 intro p1 y2 h1
 unfold M.JW at h1
 refine Za (Za (zg [1,2,3,7,14] 1 (Zb (cn h1 (fun _ h3=>?_) (fun _ h4=>?_)))))
 refine Zd (Zb (Za (Zg (Za (zg [1,2,3,7,8] 1 (Zb (Zg ?_)))))))
 obtain ⟨y5,q16,h17⟩:=bind_some h3
 refine zl (fun (p3:Int)=>⟨44,[(1,.int .i64 a1),(2,.int .i64 a2),(3,.ref 0 0),(7,.int .i64 p1),(8,.int .i64 p3)],u1⟩) (Sum.elim (fun z=>OutE 2 (fun z=>⟨44,[(1,.int .i64 a1),(2,.int .i64 a2),(3,.ref 0 0),(7,.int .i64 p1)],u1⟩) z) (fun z=>OutR Tryz.prog Tryz.f42 (.int .i64 z))) q16 ?_ ?_
 intro p3 y4 h5
 unfold M.JV at h5
 refine Za (Za ?_)
 obtain ⟨c6,h7⟩:=Zo h5
 refine zc [1,2,3,7,8,26] 1 c6 (Zb (cn h7 (fun _ h9=>?_) (fun _ h10=>?_)))
 refine Zd (Zb (Za (Zg (Za ?_))))
 obtain ⟨c11,h12⟩:=Zo h9
 refine zc [1,2,3,7,8,42] 1 c11 (Zb (cn h12 (fun _ h14=>?_) (fun _ h15=>?_)))
 exact Za (zg [6] 0 (Zb (Zf (ZR (Zk (rr h14 ⟨rfl,er0 _⟩))))))
 exact Zd (XA (Zb (zg [1,2,3,7,8] 1 (rn h15))))
 exact ZD (Xc (re h10 ⟨rfl,kq⟩))
 intro e18 s19 o20
 rcases y5 with g6 | y7
 have h21:=Yc h17
 obtain ⟨rfl,l23⟩:=o20
 exact Qg (XA (ZZ (s':=⟨44,[(1,.int .i64 a1),(2,.int .i64 a2),(3,.ref 0 0),(7,.int .i64 p1)],u1⟩) (l23) (zg [1,2,3,7] 1 (rn h21))))
 have h22:=Yd h17
 obtain ⟨rfl,n24⟩:=o20
 exact ZR (ZR (Zk (rr h22 ⟨rfl,n24⟩)))
 exact ZD (Xc (re h4 ⟨rfl,kc⟩))
 intro e27 s28 o29
 rcases y8 with g9 | y10
 have h30:=Yc h26
 exact zi o29 (Za (zg [6] 0 (Zb (Zf (er1 h30)))))
 have h31:=Yd h26
 obtain ⟨rfl,n33⟩:=o29
 refine ZR (Zk ?_)
 obtain rfl:=Option.some.inj h31
 exact n33
theorem Zg5 (a0:XL) (a1:Int) (a2:Int) (r:Int) (h:M.WY a0 a1 a2=some r):Fn Tryz.prog 43 [.agg (XD a0),.int .i64 a1,.int .i64 a2] (.pure (.int .i64 r)):=by
 unfold M.WY at h
 refine ZC Tryz.func43 rfl (by kernel_rfl) (Za (zg [1,2,3] 1 (Zb (Za ?_))))
 obtain ⟨r1,q1,h2⟩:=bind_some h
 refine zr [3,7] 1 Zt (rq1 (ZaJ _ _ _ _ q1) rqn) (Zb (Za (Za (zg [3,7,8] 1 (Zb (Zg ?_))))))
 obtain ⟨y4,q12,h13⟩:=bind_some h2
 refine zl (fun (p2:Int)=>⟨34,[(3,.ref 0 0),(7,.int .i64 r1),(8,.int .i64 p2)],[.box (XD a0)]⟩) (Sum.elim (fun z=>OutE 0 (fun z=>⟨34,[],[]⟩) z) (fun z=>OutR Tryz.prog Tryz.f43 (.int .i64 z))) q12 ?_ ?_
 intro p2 y3 h3
 unfold M.Vf at h3
 refine Za (Za (zg [3,7,8,18] 1 (Zb (cn h3 (fun _ h5=>?_) (fun _ h6=>?_)))))
 refine Zd (Zb (Za (Zg (Za ?_))))
 obtain ⟨c7,h8⟩:=Zo h5
 refine zc [3,7,8,32] 1 c7 (Zb (cn h8 (fun _ h10=>?_) (fun _ h11=>?_)))
 exact Za (zg [6] 0 (Zb (Zf (ZR (Zk (rr h10 ⟨rfl,er0 _⟩))))))
 exact Zd (XA (Zb (zg [3,7,8] 1 (rn h11))))
 exact ZD (Xc (re h6 ⟨rfl,kc⟩))
 intro e14 s15 o16
 rcases y4 with g5 | y6
 have h17:=Yc h13
 exact zi o16 (Za (zg [6] 0 (Zb (Zf (er1 h17)))))
 have h18:=Yd h13
 obtain ⟨rfl,n20⟩:=o16
 refine ZR (Zk ?_)
 obtain rfl:=Option.some.inj h18
 exact n20
theorem Zje (a0:XL) (a1:Int) (a2:Int) (r:Bool) (h:M.Gz a0 a1 a2=some r):Fn Tryz.prog 18 [.agg (XD a0),.int .i64 a1,.int .i64 a2] (.pure (.bool r)):=by
 unfold M.Gz at h
 refine ZC Tryz.func18 rfl (by kernel_rfl) (Za (zg [1,2,3] 1 (Zb (Za (Za ?_)))))
 obtain ⟨r1,q1,h2⟩:=bind_some h
 refine zr [1,2,3,13] 1 Zt (rq1 (ZaJ _ _ _ _ q1) rqn) (Zb (cn h2 (fun _ h4=>?_) (fun _ h5=>?_)))
 exact Za (zg [6] 0 (Zb (Zf (Zk (er1 h4)))))
 refine Zd (Zb (Za ?_))
 obtain ⟨r2,q6,h7⟩:=bind_some h5
 refine zr [3,7] 1 Zt (rq1 (Zg5 _ _ _ _ q6) rqn) (Zb (Za (Za (zg [3,7,8] 1 (Zb (Zg ?_))))))
 obtain ⟨y5,q17,h18⟩:=bind_some h7
 refine zl (fun (p3:Int)=>⟨32,[(3,.ref 0 0),(7,.int .i64 r2),(8,.int .i64 p3)],[.box (XD a0)]⟩) (Sum.elim (fun z=>OutE 0 (fun z=>⟨32,[],[]⟩) z) (fun z=>OutR Tryz.prog Tryz.f18 (.bool z))) q17 ?_ ?_
 intro p3 y4 h8
 unfold M.WM at h8
 refine Za (Za (zg [3,7,8,22] 1 (Zb (cn h8 (fun _ h10=>?_) (fun _ h11=>?_)))))
 refine Zd (Zb (Za (Zg (Za ?_))))
 obtain ⟨c12,h13⟩:=Zo h10
 refine zc [3,7,8,31] 1 c12 (Zb (cn h13 (fun _ h15=>?_) (fun _ h16=>?_)))
 exact Za (zg [6] 0 (Zb (Zf (ZR (Zk (rr h15 ⟨rfl,er0 _⟩))))))
 exact Zd (XA (Zb (zg [3,7,8] 1 (rn h16))))
 exact ZD (Xc (re h11 ⟨rfl,kc⟩))
 intro e19 s20 o21
 rcases y5 with g6 | y7
 have h22:=Yc h18
 exact zi o21 (Za (zg [6] 0 (Zb (Zf (er1 h22)))))
 have h23:=Yd h18
 obtain ⟨rfl,n25⟩:=o21
 refine ZR (Zk ?_)
 obtain rfl:=Option.some.inj h23
 exact n25
theorem Zfb (a0:XL) (a1:Int) (a2:List ZF) (r:(List ZF)) (h:M.K4 a0 a1 a2=some r):Fn Tryz.prog 38 [.agg (XD a0),.int .i64 a1,sL 2 ZN a2] (.pure (sL 2 ZN r)):=by
 let u1:Nat × D:=(2,sL 2 ZN a2)
 let u3:Nat × D:=(7,.sl true 2 0 (fun _=>[]))
 let u5:List Ob:=[.box (XD a0)]
 unfold M.K4 at h
 refine ZC Tryz.func38 rfl (by kernel_rfl) (Za (zg [1,2,3] 1 (Zb (Za (zg [1,2,3,7] 1 (Zb (Za (Za (rg0 [1,2,3,7,8] 1 ⟨31,[(1,.int .i64 a1),u1,(3,.ref 0 0),u3,(8,.int .i64 0)],u5⟩ (Zb (Zg (Wq (s':=⟨31,[(1,.int .i64 a1),u1,(3,.ref 0 0),u3,(8,.int .i64 0)],u5⟩) (Uw) (Wq (s':=⟨31,[(1,.int .i64 a1),u1,(3,.ref 0 0),(7,.asl 1 0 (([]:List ZF).length)),(8,.int .i64 0)],[.box (XD a0),aL 2 ZN ([]:List ZF)]⟩) (Le.trans (s':=⟨31,(7,.asl 1 0 0) :: [(1,.int .i64 a1),u1,(3,.ref 0 0),u3,(8,.int .i64 0)],u5++[.arr 2 0 (fun i=>ZN (([]:List ZF).getD i default))]⟩) (G0 (wd:=2) (f:=fun _=>[]) 7 (by kernel_rfl) _ _) (kp [1,2,3,7,8])) ?_)))))))))))))
 obtain ⟨y5,q16,h17⟩:=bind_some h
 refine zl (fun (p1:(List ZF) × Int)=>⟨31,[(1,.int .i64 a1),u1,(3,.ref 0 0),(7,.asl 1 0 p1.1.length),(8,.int .i64 p1.2)],[.box (XD a0),aL 2 ZN p1.1]⟩) (fun z=>OutE 0 (fun z=>⟨31,[(7,.asl 1 0 z.length)],[.box (XD a0),aL 2 ZN z]⟩) z) q16 ?_ ?_
 intro p1 y2 h1
 let u2:=a2.getD p1.2.toNat default
 let u4:=p1.1.length+1
 unfold M.KB at h1
 refine Za (Za (rg0 [1,2,3,7,8,12] 2 ⟨31,[(1,.int .i64 a1),u1,(3,.ref 0 0),(7,.asl 1 0 p1.1.length),(8,.int .i64 p1.2),(12,.bool (decide (p1.2 < (a2.length:Int))))],[.box (XD a0),aL 2 ZN p1.1]⟩ (Zb (cn h1 (fun _ h3=>?_) (fun _ h4=>?_)))))
 refine Zd (Zb (Jz (fun (p3:(List ZF))=>⟨31,[(1,.int .i64 a1),u1,(3,.ref 0 0),(7,.asl 1 0 p3.length),(8,.int .i64 p1.2)],[.box (XD a0),aL 2 ZN p3]⟩) (fun p3=>M.KA p1 p3=some y2) ?_ ?_))
 intro p3 h6
 unfold M.KA at h6
 exact zg [1,2,3,7,8] 2 (rn h6)
 intro k5
 refine Zg (Za ?_)
 obtain ⟨r4,q7,h8⟩:=bind_some h3
 obtain ⟨c9,h10⟩:=Zo h8
 refine zr [1,2,3,7,8,22] 2 c9 (rq1 (Zje _ _ _ _ q7) rqn) (Zb (cn h10 (fun _ h12=>?_) (fun _ h13=>?_)))
 obtain ⟨c14,h15⟩:=Zo h12
 exact rgc [1,2,3,7,8] 2 ⟨31,[(1,.int .i64 a1),u1,(3,.ref 0 0),(7,.asl 1 0 u4),(8,.int .i64 p1.2)],[.box (XD a0),.arr 2 u4 (app (fun i=>ZN (p1.1.getD i default)) p1.1.length (fun i=>List.take 2 (List.drop (i*2) [.int .i64 (u2.ZP),.int .u32 (u2.Zm)])))]⟩ [decide (0≤p1.2),decide (p1.2 < (a2.length:Int)),decide (u4*16≤140737488355328)] c14 (XA (ZZ (QU (.cons Sub.rfl (.cons Sub.rfl (.cons Sub.rfl (.cons (VJ (Gy _ _)) (.cons Sub.rfl .nil))))) (.cons .rfl (.cons (.arr (Gy _ _) (KW ZN p1.1 u2 _ rfl)) .nil))) (k5 (p1.1++[a2.getD p1.2.toNat default]) h15)))
 exact Zd (XA (ZZ kq (k5 p1.1 h13)))
 exact ZD (Xc (re h4 ⟨rfl,kq⟩))
 intro e18 s19 o20
 refine zi o20 (Za (zg [6] 2 (Zb (Zf ?_))))
 obtain rfl:=Option.some.inj h17
 exact er (.sl false 2 y5.length (fun i=>ZN (y5.getD (0+i) default))) ZdB
theorem Zd5 (a0:List ZM) (a1:ZL) (a2:Int) (r:Int) (h:M.UB a0 a1 a2=some r):Fn Tryz.prog 39 [sL 14 X1 a0,.agg (Xd a1),.int .u32 a2] (.pure (.int .i64 r)):=by
 let u1:Nat × D:=(0,sL 14 X1 a0)
 let u2:List Ob:=[.box (Xd a1)]
 unfold M.UB at h
 refine ZC Tryz.func39 rfl (by kernel_rfl) (Za (zg [0,2,4] 1 (Zb (Za (zg [0,2,4,7] 1 (Zb (Za (Za (zg [0,2,4,7,8] 1 (Zb (Zg ?_)))))))))))
 obtain ⟨y5,q14,h15⟩:=bind_some h
 refine zl (fun (p1:Int × Int)=>⟨52,[u1,(2,.int .u32 a2),(4,.ref 0 0),(7,.int .i64 p1.1),(8,.int .i64 p1.2)],u2⟩) (fun z=>OutE 0 (fun z=>⟨52,[(7,.int .i64 z)],[]⟩) z) q14 ?_ ?_
 intro p1 y2 h1
 unfold M.Ud at h1
 refine Za (Za (rg0 [0,2,4,7,8,12] 1 ⟨52,[u1,(2,.int .u32 a2),(4,.ref 0 0),(7,.int .i64 p1.1),(8,.int .i64 p1.2),(12,.bool (decide (p1.2 < (a0.length:Int))))],u2⟩ (Zb (cn h1 (fun _ h3=>?_) (fun _ h4=>?_)))))
 refine Zd (Zb (Jz (fun (p3:Int)=>⟨52,[u1,(2,.int .u32 a2),(4,.ref 0 0),(7,.int .i64 p3),(8,.int .i64 p1.2)],u2⟩) (fun p3=>M.Uc p1 p3=some y2) ?_ ?_))
 intro p3 h6
 unfold M.Uc at h6
 exact zg [0,2,4,7,8] 1 (rn h6)
 intro k5
 refine Zg (Za ?_)
 obtain ⟨r4,q7,h8⟩:=bind_some h3
 obtain ⟨c9,h10⟩:=Zo h8
 refine zr [0,2,4,7,8,49] 1 c9 (rq2 (fun hg=>RR _ _ _ (Xg q7 hg)) rqn) (Zb (cn h10 (fun _ h12=>?_) (fun _ h13=>?_)))
 exact zg [0,2,4,7,8] 1 (XA (ZZ lk (k5 p1.2 h12)))
 exact Zd (XA (ZZ kq (k5 p1.1 h13)))
 exact ZD (Xc (re h4 ⟨rfl,kc⟩))
 intro e16 s17 o18
 exact zi o18 (Za (zg [6] 0 (Zb (Zf (er1 h15)))))
theorem Zfq (a0:List ZF) (a1:ZF) (r:(List ZF)) (h:M.Gl a0 a1=some r):Fn Tryz.prog 74 [sL 2 ZN a0,.agg (ZN a1)] (.pure (sL 2 ZN r)):=by
 let u5:=(a0.length:Int)
 let u8:Nat × D:=(0,sL 2 ZN a0)
 unfold M.Gl at h
 refine ZC Tryz.func74 rfl (by kernel_rfl) (Za (zg [0,3] 1 (Zb (Za (zg [0,3,5] 1 (Zb (Za (Zg ?_))))))))
 obtain ⟨y4,q9,h10⟩:=bind_some h
 let u1:=(a0.drop y4.toNat).take (a0.length - y4.toNat)
 let u2:=y4.toNat - 0
 let u3:=(((a0.drop 0).take u2):List ZF)
 let u4:=((0+u2)+1)+(a0.length - y4.toNat)
 let u6:=(u3++([a1]))++u1
 let u7:=decide (y4 < u5)
 refine zl (fun (p1:Int)=>⟨45,[u8,(3,.ref 0 0),(5,.int .i64 p1)],[.box (ZN a1)]⟩) (fun z=>OutE 0 (fun z=>⟨45,[u8,(3,.ref 0 0),(5,.int .i64 z)],[.box (ZN a1)]⟩) z) q9 ?_ ?_
 intro p1 y2 h1
 unfold M.W6 at h1
 refine Za (Za ?_)
 obtain ⟨r3,q2,h3⟩:=bind_some h1
 obtain ⟨c4,h5⟩:=Zo h3
 refine zr [0,3,5,17] 1 c4 (rq2 (fun hg=>RW _ _ _ (Xg q2 hg)) rqn) (Zb (cn h5 (fun _ h7=>?_) (fun _ h8=>?_)))
 exact Zd (Zb (Zg (zg [0,3,5] 1 (XA (rn h7)))))
 exact ZD (Xc (re h8 ⟨rfl,kq⟩))
 intro e11 s12 o13
 refine zi o13 (Za (Za ?_))
 obtain ⟨c15,h16⟩:=Zo h10
 refine rgc [0,3,5,31] 1 ⟨45,[u8,(3,.ref 0 0),(5,.int .i64 y4),(31,.bool (u7&&((((a0.getD y4.toNat default).ZP)==a1.ZP)&&((((a0.getD y4.toNat default).Zm)==a1.Zm)&&true))))],[.box (ZN a1)]⟩ [guardB u7 (decide (0≤y4)),guardB u7 u7] c15 (Zb (cn h16 (fun _ h18=>?_) (fun _ h19=>?_)))
 exact Za (zg [4] 0 (Zb (Zf (Zk (er1 h18)))))
 refine Zd (Zb (Za ?_))
 obtain ⟨c20,h21⟩:=Zo h19
 refine rga [4,7,11] [] [4] 2 ⟨45,[(4,.asl 1 0 u4)],[.box (ZN a1),.arr 2 u4 (app (app (app (fun i=>List.take 2 (List.drop (i*2) [])) 0 (fun i=>ZN (a0.getD (0+i) default))) (0+u2) (fun i=>List.take 2 (List.drop (i*2) [.int .i64 a1.ZP,.int .u32 a1.Zm]))) ((0+u2)+1) (fun i=>ZN (a0.getD (y4.toNat+i) default)))]⟩ [decide (0≤y4),decide (y4≤u5),decide (0=0)||decide (0 < u2),decide ((0+u2)*16≤140737488355328),decide (((0+u2)+1)*16≤140737488355328),decide (0≤y4),decide (y4≤u5),decide (u4*16≤140737488355328)] [] c20 trivial (ZZ (s':=⟨45,[(4,.asl 1 0 (u6.length))],[.box (ZN a1),aL 2 ZN u6]⟩) (QU (.cons (VJ (ZdE (ZdE ((Nat.zero_add _).trans (Ks _ _ _ (ZcQ (c20 _ (List.mem_cons_of_mem _ (List.mem_cons_of_mem _ (List.mem_cons_of_mem _ (List.mem_cons_of_mem _ (List.mem_cons_of_mem _ (List.mem_cons_of_mem _ List.mem_cons_self)))))))))) rfl) (Ks _ _ _ (Nat.le_refl _)))) .nil) (.cons .rfl (.cons (.arr (ZdE (ZdE ((Nat.zero_add _).trans (Ks _ _ _ (ZcQ (c20 _ (List.mem_cons_of_mem _ (List.mem_cons_of_mem _ (List.mem_cons_of_mem _ (List.mem_cons_of_mem _ (List.mem_cons_of_mem _ (List.mem_cons_of_mem _ List.mem_cons_self)))))))))) rfl) (Ks _ _ _ (Nat.le_refl _))) (Zku ZN (f:=app (app (fun i=>List.take 2 (List.drop (i*2) [])) 0 (fun i=>ZN (a0.getD (0+i) default))) (0+u2) (fun i=>List.take 2 (List.drop (i*2) [.int .i64 a1.ZP,.int .u32 a1.Zm]))) (g:=fun i=>ZN (a0.getD (y4.toNat+i) default)) (ZdE ((Nat.zero_add _).trans (Ks _ _ _ (ZcQ (c20 _ (List.mem_cons_of_mem _ (List.mem_cons_of_mem _ (List.mem_cons_of_mem _ (List.mem_cons_of_mem _ (List.mem_cons_of_mem _ (List.mem_cons_of_mem _ List.mem_cons_self)))))))))) rfl) (Zku ZN (f:=app (fun i=>List.take 2 (List.drop (i*2) [])) 0 (fun i=>ZN (a0.getD (0+i) default))) (g:=fun i=>List.take 2 (List.drop (i*2) [.int .i64 a1.ZP,.int .u32 a1.Zm])) ((Nat.zero_add _).trans (Ks _ _ _ (ZcQ (c20 _ (List.mem_cons_of_mem _ (List.mem_cons_of_mem _ (List.mem_cons_of_mem _ (List.mem_cons_of_mem _ (List.mem_cons_of_mem _ (List.mem_cons_of_mem _ List.mem_cons_self)))))))))) (Zmg ZN (ZdA _ _ _ _)) rfl (ZnH ZN (x:=a1) rfl)) (Ks _ _ _ (Nat.le_refl _)) (ZdA _ _ _ _))) .nil))) (Zf ?_))
 obtain rfl:=Option.some.inj h21
 exact er (.sl false 2 u6.length (fun i=>ZN (u6.getD (0+i) default))) ZdB
theorem ZeK (a0:List ZF) (a1:List ZF) (r:(List ZF)) (h:M.GA a0 a1=some r):Fn Tryz.prog 40 [sL 2 ZN a0,sL 2 ZN a1] (.pure (sL 2 ZN r)):=by
 unfold M.GA at h
 refine ZC Tryz.func40 rfl (by kernel_rfl) (Za (zg [0,1] 0 (Zb (Za (Za (zg [0,1,5] 0 (Zb (Zg ?_))))))))
 obtain ⟨y4,q9,h10⟩:=bind_some h
 refine zl (fun (p1:(List ZF) × Int)=>⟨19,[(0,sL 2 ZN p1.1),(1,sL 2 ZN a1),(5,.int .i64 p1.2)],[]⟩) (fun z=>OutE 0 (fun z=>⟨19,[(0,sL 2 ZN z)],[]⟩) z) q9 ?_ ?_
 intro p1 y2 h1
 unfold M.UC at h1
 refine Za (Za (zg [0,1,5,9] 0 (Zb (cn h1 (fun _ h3=>?_) (fun _ h4=>?_)))))
 refine Zd (Zb (Za (Zg ?_)))
 obtain ⟨r3,q5,h6⟩:=bind_some h3
 obtain ⟨c7,h8⟩:=Zo h6
 exact zr [0,1,5] 0 c7 (rq1 (Zfq _ _ _ q5) rqn) (XA (Zb (zg [0,1,5] 0 (rn h8))))
 exact ZD (Xc (re h4 ⟨rfl,kq⟩))
 intro e11 s12 o13
 exact zi o13 (Za (zg [4] 0 (Zb (Zf (er1 h10)))))
theorem R1 (a0:XL) (a1:List ZM) (a2:Int) (a3:Int) (r:(List ZF)) (h:M.Wm a0 a1 a2 a3=some r):Fn Tryz.prog 16 [.agg (XD a0),sL 14 X1 a1,.int .i64 a2,.int .i64 a3] (.pure (sL 2 ZN r)):=by
 let u3:Nat × D:=(1,sL 14 X1 a1)
 let u5:List Ob:=[.box (XD a0)]
 let u8:=(a1.length:Int)
 unfold M.Wm at h
 refine ZC Tryz.func16 rfl (by kernel_rfl) (Za (zg [1,2,3,4] 1 (Zb (Za (Za ?_)))))
 obtain ⟨c1,h2⟩:=Zo h
 refine zc [1,2,3,4,28] 1 c1 (Zb (cn h2 (fun _ h4=>?_) (fun _ h5=>?_)))
 refine Za (zg [8] 0 (Zb (Zf (Zk ?_))))
 obtain rfl:=Option.some.inj h4
 exact er (.sl false 2 0 (fun _=>[])) R9
 refine Zd (Zb (Za (Za ?_)))
 obtain ⟨c6,h7⟩:=Zo h5
 refine zc [1,2,3,4,42] 1 c6 (Zb (cn h7 (fun _ h9=>?_) (fun _ h10=>?_)))
 refine Za ?_
 obtain ⟨r1,q11,h12⟩:=bind_some h9
 obtain ⟨c13,h14⟩:=Zo h12
 exact zr [8] 0 c13 (rq1 (Zfb _ _ _ _ q11) rqn) (Zb (Zf (Zk (er1 h14))))
 refine Zd (Zb (Za ?_))
 obtain ⟨c15,h16⟩:=Zo h10
 refine rgc [1,2,3,4,9] 2 ⟨130,[(1,sL 14 X1 a1),(2,.int .i64 a2),(3,.int .i64 a3),(4,.ref 0 0),(9,.asl 1 0 ((a1.length:Int).toNat))],[.box (XD a0),.arr 1 ((a1.length:Int).toNat) (fun _=>[.bool false])]⟩ [decide (0≤(a1.length:Int)),decide ((a1.length:Int)≤(a1.length:Int)),decide ((a1.length:Int).toNat*1≤140737488355328),decide ((a1.length:Int).toNat≤140737488355328)] c15 (ZZ (s':=⟨130,[(1,sL 14 X1 a1),(2,.int .i64 a2),(3,.int .i64 a3),(4,.ref 0 0),(9,.asl 1 0 ((List.replicate ((a1.length:Int).toNat) false).length))],[.box (XD a0),aL 1 cb (List.replicate ((a1.length:Int).toNat) false)]⟩) (QU (.cons Sub.rfl (.cons Sub.rfl (.cons Sub.rfl (.cons Sub.rfl (.cons (VJ (by simp)) .nil))))) (.cons .rfl (.cons (.arr (by simp) (Zko cb _ false _ rfl)) .nil))) (Zg ?_))
 obtain ⟨y11,q59,h60⟩:=bind_some h16
 refine zl (fun (p2:(List Bool) × Int)=>⟨130,[u3,(2,.int .i64 a2),(3,.int .i64 p2.2),(4,.ref 0 0),(9,.asl 1 0 p2.1.length)],[.box (XD a0),aL 1 cb p2.1]⟩) (fun z=>OutR Tryz.prog Tryz.f16 (sL 2 ZN z)) q59 ?_ ?_
 intro p2 y3 h17
 let u1:=(a1.getD p2.2.toNat default).YF
 let u7:=p2.1.set (0+p2.2.toNat) true
 unfold M.Wf at h17
 refine Zg (Za ?_)
 obtain ⟨c18,h19⟩:=Zo h17
 refine rgc [1,2,3,4,9] 2 ⟨130,[(1,sL 14 X1 a1),(2,.int .i64 a2),(3,.int .i64 p2.2),(4,.ref 0 0),(9,.asl 1 0 p2.1.length)],[.box (XD a0),.arr 1 p2.1.length (fun j=>bif Nat.beq j (0+p2.2.toNat) then splice (cb (p2.1.getD (0+p2.2.toNat) default)) [.bool true] 0 else cb (p2.1.getD j default))]⟩ [decide (0≤p2.2),decide (p2.2 < (p2.1.length:Int))] c18 (ZZ (s':=⟨130,[(1,sL 14 X1 a1),(2,.int .i64 a2),(3,.int .i64 p2.2),(4,.ref 0 0),(9,.asl 1 0 ((p2.1.set (0+p2.2.toNat) true).length))],[.box (XD a0),aL 1 cb (p2.1.set (0+p2.2.toNat) true)]⟩) (QU (.cons Sub.rfl (.cons Sub.rfl (.cons Sub.rfl (.cons Sub.rfl (.cons (VJ (by simp)) .nil))))) (.cons .rfl (.cons (.arr (by simp) (Zdz cb p2.1 (0+p2.2.toNat) true _ rfl)) .nil))) (Za ?_))
 obtain ⟨c20,h21⟩:=Zo h19
 refine zc [1,2,3,4,9,10] 2 c20 (Zb (Za ?_))
 obtain ⟨r4,q22,h23⟩:=bind_some h21
 let u2:=a1.getD r4.toNat default
 let u6:=(u2.XR)==2
 obtain ⟨c24,h25⟩:=Zo h23
 refine zr [1,2,3,4,9,10] 2 c24 (rq1 (Zd5 _ _ _ _ q22) rqn) (Zb (Za (Za ?_)))
 obtain ⟨c26,h27⟩:=Zo h25
 refine zc [1,2,3,4,9,10,84] 2 c26 (Zb (cn h27 (fun _ h29=>?_) (fun _ h30=>?_)))
 exact Za (rg0 [8] 0 ⟨130,[(8,.sl true 2 0 (fun _=>[]))],[]⟩ (Zb (Zf (Zk (ZR (rr h29 ⟨rfl,er (.sl false 2 0 (fun _=>[])) R9⟩))))))
 refine Zd (Zb (Za (Za ?_)))
 obtain ⟨c31,h32⟩:=Zo h30
 refine rgc [1,2,3,4,9,10,98] 2 ⟨130,[u3,(2,.int .i64 a2),(3,.int .i64 r4),(4,.ref 0 0),(9,.asl 1 0 (u7.length)),(10,.int .u32 u1),(98,.bool (u6&&((u2.YF) != 0)))],[.box (XD a0),aL 1 cb u7]⟩ [decide (0≤r4),decide (r4 < u8),guardB u6 (decide (0≤r4)),guardB u6 (decide (r4 < u8))] c31 (Zb (cn h32 (fun _ h34=>?_) (fun _ h35=>?_)))
 refine ZD (Xc (Qg ?_))
 obtain rfl:=Option.some.inj h34
 exact ZfP (kp [1,2,3,4,9])
 refine Zd (Zb (Za (zg [1,2,3,4,10,11] 1 (Zb (Za (Za (rg0 [1,2,3,4,10,11,12] 1 ⟨130,[u3,(2,.int .i64 a2),(3,.int .i64 r4),(4,.ref 0 0),(10,.int .u32 u1),(11,.sl true 2 0 (fun _=>[])),(12,.int .i64 0)],u5⟩ (Zb (Zg ?_)))))))))
 obtain ⟨y9,q51,h52⟩:=bind_some h35
 refine Wq (s':=⟨130,[u3,(2,.int .i64 a2),(3,.int .i64 r4),(4,.ref 0 0),(10,.int .u32 u1),(11,sL 2 ZN ([]:List ZF)),(12,.int .i64 0)],u5⟩) (QU (.cons Sub.rfl (.cons Sub.rfl (.cons Sub.rfl (.cons Sub.rfl (.cons Sub.rfl (.cons R9 (.cons Sub.rfl .nil))))))) (.cons .rfl .nil)) (zl (fun (p5:(List ZF) × Int)=>⟨130,[u3,(2,.int .i64 a2),(3,.int .i64 r4),(4,.ref 0 0),(10,.int .u32 u1),(11,sL 2 ZN p5.1),(12,.int .i64 p5.2)],u5⟩) (fun z=>OutE 2 (fun z=>⟨130,[(2,.int .i64 a2),(4,.ref 0 0),(11,sL 2 ZN z)],u5⟩) z) q51 ?_ ?_)
 intro p5 y6 h36
 let u4:=(u2.ZQ).getD p5.2.toNat default
 unfold M.We at h36
 refine Za (Za ?_)
 obtain ⟨c37,h38⟩:=Zo h36
 refine zc [1,2,3,4,10,11,12,106] 1 c37 (Zb (cn h38 (fun _ h40=>?_) (fun _ h41=>?_)))
 refine Zd (Zb (Za (Zg (Za ?_))))
 obtain ⟨c42,h43⟩:=Zo h40
 refine rgc [1,2,3,4,10,11,12,13] 2 ⟨130,[u3,(2,.int .i64 a2),(3,.int .i64 r4),(4,.ref 0 0),(10,.int .u32 u1),(11,sL 2 ZN p5.1),(12,.int .i64 p5.2),(13,.ref 1 0)],[.box (XD a0),.box (ZN u4)]⟩ [decide (0≤r4),decide (r4 < u8),decide (0≤p5.2),decide (p5.2 < ((u2.ZQ).length:Int))] c42 (Zb (Jz (fun (p7:Int)=>⟨130,[u3,(2,.int .i64 a2),(3,.int .i64 r4),(4,.ref 0 0),(10,.int .u32 u1),(11,sL 2 ZN p5.1),(12,.int .i64 p5.2),(13,.ref 1 0)],[.box (XD a0),.box [.int .i64 (u4.ZP),.int .u32 p7]]⟩) (fun p7=>M.UD a1 r4 p5 p7=some y6) ?_ ?_))
 intro p7 h45
 unfold M.UD at h45
 obtain ⟨r8,q46,h47⟩:=bind_some h45
 exact rg [.pure (sL 2 ZN r8)] [1,2,3,4,10,11,12] 1 ⟨130,[(1,sL 14 X1 a1),(2,.int .i64 a2),(3,.int .i64 r4),(4,.ref 0 0),(10,.int .u32 ((a1.getD p2.2.toNat default).YF)),(11,sL 2 ZN r8),(12,.int .i64 p5.2)],[.box (XD a0)]⟩ [] [⟨true,40,[sL 2 ZN p5.1,.sl false 2 1 (fun i=>List.take 2 (List.drop (i*2) [.int .i64 ((((a1.getD r4.toNat default).ZQ).getD p5.2.toNat default).ZP),.int .u32 p7]))],.pure (sL 2 ZN r8)⟩] Zt ⟨fun _=>(ZeK p5.1 ([(⟨(((a1.getD r4.toNat default).ZQ).getD p5.2.toNat default).ZP,p7⟩:ZF)]:List ZF) r8 q46).args (.cons ASub.rfl (.cons (ZhN rfl (fun i hi=>match i,hi with | 0,_=>rfl | n+1,h=>absurd h (by omega))) .nil)),trivial⟩ (XA (Zb (zg [1,2,3,4,10,11,12] 1 (rn h47))))
 intro k44
 refine Za (zg [1,2,3,4,10,11,12,13,119] 2 (Zb (cn h43 (fun _ h49=>?_) (fun _ h50=>?_))))
 exact zg [1,2,3,4,10,11,12,13] 2 (ZZ lk (k44 u1 h49))
 exact Zd (ZZ kq (k44 (u4.Zm) h50))
 exact ZD (Xc (re h41 ⟨rfl,kq⟩))
 intro e53 s54 o55
 refine zi o55 (Za ?_)
 obtain ⟨r10,q57,h58⟩:=bind_some h52
 exact zr [8] 0 Zt (rq1 (Zfb _ _ _ _ q57) rqn) (Zb (Zf (ZR (rr h58 ⟨rfl,er0 _⟩))))
 intro e61 s62 o63
 obtain ⟨rfl,n64⟩:=o63
 refine ZR ?_
 obtain rfl:=Option.some.inj h60
 exact n64
theorem ZgJ (a0:XL) (a1:List ZM) (a2:Int) (r:(List Xx)) (h:M.KC a0 a1 a2=some r):Fn Tryz.prog 13 [.agg (XD a0),sL 14 X1 a1,.int .i64 a2] (.pure (sL 4 Yh r)):=by
 let u2:Nat × D:=(1,sL 14 X1 a1)
 let u3:Nat × D:=(7,.sl true 4 0 (fun _=>[]))
 let u4:=(a1.length:Int)
 let u6:List Ob:=[.box (XD a0)]
 unfold M.KC at h
 refine ZC Tryz.func13 rfl (by kernel_rfl) (Za (zg [1,2,3] 1 (Zb (Za (zg [1,2,3,7] 1 (Zb (Za (Za (rg0 [1,2,3,7,8] 1 ⟨35,[u2,(2,.int .i64 a2),(3,.ref 0 0),u3,(8,.int .i64 0)],u6⟩ (Zb (Zg (Wq (s':=⟨35,[u2,(2,.int .i64 a2),(3,.ref 0 0),u3,(8,.int .i64 0)],u6⟩) (Uw) (Wq (s':=⟨35,[u2,(2,.int .i64 a2),(3,.ref 0 0),(7,.asl 1 0 (([]:List Xx).length)),(8,.int .i64 0)],[.box (XD a0),aL 4 Yh ([]:List Xx)]⟩) (Le.trans (s':=⟨35,(7,.asl 1 0 0) :: [u2,(2,.int .i64 a2),(3,.ref 0 0),u3,(8,.int .i64 0)],u6++[.arr 4 0 (fun i=>Yh (([]:List Xx).getD i default))]⟩) (G0 (wd:=4) (f:=fun _=>[]) 7 (by kernel_rfl) _ _) (kp [1,2,3,7,8])) ?_)))))))))))))
 obtain ⟨y4,q9,h10⟩:=bind_some h
 refine zl (fun (p1:(List Xx) × Int)=>⟨35,[u2,(2,.int .i64 a2),(3,.ref 0 0),(7,.asl 1 0 p1.1.length),(8,.int .i64 p1.2)],[.box (XD a0),aL 4 Yh p1.1]⟩) (fun z=>OutE 0 (fun z=>⟨35,[(7,.asl 1 0 z.length)],[.box (XD a0),aL 4 Yh z]⟩) z) q9 ?_ ?_
 intro p1 y2 h1
 let u1:=a1.getD p1.2.toNat default
 let u5:=p1.1.length+1
 unfold M.Gf at h1
 refine Za (Za (rg0 [1,2,3,7,8,12] 2 ⟨35,[u2,(2,.int .i64 a2),(3,.ref 0 0),(7,.asl 1 0 p1.1.length),(8,.int .i64 p1.2),(12,.bool (decide (p1.2 < u4)))],[.box (XD a0),aL 4 Yh p1.1]⟩ (Zb (cn h1 (fun _ h3=>?_) (fun _ h4=>?_)))))
 refine Zd (Zb (Za (Zg ?_)))
 obtain ⟨r3,q5,h6⟩:=bind_some h3
 obtain ⟨c7,h8⟩:=Zo h6
 exact rgb 18 [.pure (sL 2 ZN r3)] [1,2,3,7,8] 2 ⟨35,[u2,(2,.int .i64 a2),(3,.ref 0 0),(7,.asl 1 0 u5),(8,.int .i64 p1.2)],[.box (XD a0),.arr 4 u5 (app (fun i=>Yh (p1.1.getD i default)) p1.1.length (fun i=>List.take 4 (List.drop (i*4) [.int .u32 ((u1.Zh).Zm),.int .i64 ((u1.Zh).ZE),sL 2 ZN r3,.bool (u1.ZS)])))]⟩ [decide (0≤p1.2),decide (p1.2 < u4),decide (0≤p1.2),decide (p1.2 < u4),decide (u5*48≤140737488355328)] [⟨true,16,[.agg (XD a0),sL 14 X1 a1,.int .i64 a2,.int .i64 p1.2],.pure (sL 2 ZN r3)⟩] c7 ⟨fun _=>R1 a0 a1 a2 p1.2 r3 q5,trivial⟩ (XA (ZZ (s':=⟨35,[u2,(2,.int .i64 a2),(3,.ref 0 0),(7,.asl 1 0 ((p1.1++[(⟨u1.Zh,r3,u1.ZS⟩:Xx)]).length)),(8,.int .i64 p1.2)],[.box (XD a0),aL 4 Yh (p1.1++[(⟨u1.Zh,r3,u1.ZS⟩:Xx)])]⟩) (QU (.cons Sub.rfl (.cons Sub.rfl (.cons Sub.rfl (.cons (VJ (Gy _ _)) (.cons Sub.rfl .nil))))) (.cons .rfl (.cons (.arr (Gy _ _) (KW Yh p1.1 (⟨u1.Zh,r3,u1.ZS⟩:Xx) _ rfl)) .nil))) (zg [1,2,3,7,8] 2 (rn h8))))
 exact ZD (Xc (re h4 ⟨rfl,kq⟩))
 intro e11 s12 o13
 refine zi o13 (Za (zg [6] 2 (Zb (Zf ?_))))
 obtain rfl:=Option.some.inj h10
 exact er (.sl false 4 y4.length (fun i=>Yh (y4.getD (0+i) default))) ZdB
theorem Zcj (a0:Xx) (a1:Xx) (r:Bool) (h:M.UE a0 a1=some r):Fn Tryz.prog 25 [.agg (Yh a0),.agg (Yh a1)] (.pure (.bool r)):=by
 unfold M.UE at h
 refine ZC Tryz.func25 rfl (by kernel_rfl) (Za (zg [2,3] 2 (Zb (Za (Za (zg [2,3,19] 2 (Zb (cn h (fun _ h2=>?_) (fun _ h3=>?_)))))))))
 exact Za (zg [4] 0 (Zb (Zf (Zk (er1 h2)))))
 refine Zd (Zb (Za (Za (zg [2,3,5] 2 (Zb (Zg ?_))))))
 obtain ⟨y3,q13,h14⟩:=bind_some h3
 refine zl (fun (p1:Int)=>⟨38,[(2,.ref 0 0),(3,.ref 1 0),(5,.int .i64 p1)],[.box (Yh a0),.box (Yh a1)]⟩) (Sum.elim (fun z=>OutE 0 (fun z=>⟨38,[],[]⟩) z) (fun z=>OutR Tryz.prog Tryz.f25 (.bool z))) q13 ?_ ?_
 intro p1 y2 h4
 unfold M.WE at h4
 refine Za (Za (zg [2,3,5,24] 2 (Zb (cn h4 (fun _ h6=>?_) (fun _ h7=>?_)))))
 refine Zd (Zb (Za (Zg (Za ?_))))
 obtain ⟨c8,h9⟩:=Zo h6
 refine zc [2,3,5,37] 2 c8 (Zb (cn h9 (fun _ h11=>?_) (fun _ h12=>?_)))
 exact Za (zg [4] 0 (Zb (Zf (ZR (Zk (rr h11 ⟨rfl,er0 _⟩))))))
 exact Zd (XA (Zb (zg [2,3,5] 2 (rn h12))))
 exact ZD (Xc (re h7 ⟨rfl,kc⟩))
 intro e15 s16 o17
 rcases y3 with g4 | y5
 have h18:=Yc h14
 exact zi o17 (Za (zg [4] 0 (Zb (Zf (er1 h18)))))
 have h19:=Yd h14
 obtain ⟨rfl,n21⟩:=o17
 refine ZR (Zk ?_)
 obtain rfl:=Option.some.inj h19
 exact n21
theorem ZaP (a0:List Xx) (a1:List Xx) (r:Bool) (h:M.Wg a0 a1=some r):Fn Tryz.prog 11 [sL 4 Yh a0,sL 4 Yh a1] (.pure (.bool r)):=by
 unfold M.Wg at h
 refine ZC Tryz.func11 rfl (by kernel_rfl) (Za (zg [0,1] 0 (Zb (Za (Za (zg [0,1,10] 0 (Zb (cn h (fun _ h2=>?_) (fun _ h3=>?_)))))))))
 exact Za (zg [4] 0 (Zb (Zf (Zk (er1 h2)))))
 refine Zd (Zb (Za (Za (zg [0,1,5] 0 (Zb (Zg ?_))))))
 obtain ⟨y4,q15,h16⟩:=bind_some h3
 refine zl (fun (p1:Int)=>⟨40,[(0,sL 4 Yh a0),(1,sL 4 Yh a1),(5,.int .i64 p1)],[]⟩) (Sum.elim (fun z=>OutE 0 (fun z=>⟨40,[],[]⟩) z) (fun z=>OutR Tryz.prog Tryz.f11 (.bool z))) q15 ?_ ?_
 intro p1 y2 h4
 unfold M.V5 at h4
 refine Za (Za (zg [0,1,5,14] 0 (Zb (cn h4 (fun _ h6=>?_) (fun _ h7=>?_)))))
 refine Zd (Zb (Za (Zg (Za ?_))))
 obtain ⟨r3,q8,h9⟩:=bind_some h6
 obtain ⟨c10,h11⟩:=Zo h9
 refine zr [0,1,5,39] 0 c10 (rq2 (fun hg=>Zcj _ _ _ (Xg q8 hg)) rqn) (Zb (cn h11 (fun _ h13=>?_) (fun _ h14=>?_)))
 exact Za (zg [4] 0 (Zb (Zf (ZR (Zk (rr h13 ⟨rfl,er0 _⟩))))))
 exact Zd (XA (Zb (zg [0,1,5] 0 (rn h14))))
 exact ZD (Xc (re h7 ⟨rfl,kq⟩))
 intro e17 s18 o19
 rcases y4 with g5 | y6
 have h20:=Yc h16
 exact zi o19 (Za (zg [4] 0 (Zb (Zf (er1 h20)))))
 have h21:=Yd h16
 obtain ⟨rfl,n23⟩:=o19
 refine ZR (Zk ?_)
 obtain rfl:=Option.some.inj h21
 exact n23
theorem Zh8 (a0:List ZF) (a1:List ZF) (r:Bool) (h:M.RK a0 a1=some r):Fn Tryz.prog 14 [sL 2 ZN a0,sL 2 ZN a1] (.pure (.bool r)):=by
 unfold M.RK at h
 refine ZC Tryz.func14 rfl (by kernel_rfl) (Za (zg [0,1] 0 (Zb (Za (Za (zg [0,1,10] 0 (Zb (cn h (fun _ h2=>?_) (fun _ h3=>?_)))))))))
 exact Za (zg [4] 0 (Zb (Zf (Zk (er1 h2)))))
 refine Zd (Zb (Za (Za (zg [0,1,5] 0 (Zb (Zg ?_))))))
 obtain ⟨y3,q13,h14⟩:=bind_some h3
 refine zl (fun (p1:Int)=>⟨26,[(0,sL 2 ZN a0),(1,sL 2 ZN a1),(5,.int .i64 p1)],[]⟩) (Sum.elim (fun z=>OutE 0 (fun z=>⟨26,[],[]⟩) z) (fun z=>OutR Tryz.prog Tryz.f14 (.bool z))) q13 ?_ ?_
 intro p1 y2 h4
 unfold M.G5 at h4
 refine Za (Za (zg [0,1,5,14] 0 (Zb (cn h4 (fun _ h6=>?_) (fun _ h7=>?_)))))
 refine Zd (Zb (Za (Zg (Za ?_))))
 obtain ⟨c8,h9⟩:=Zo h6
 refine zc [0,1,5,25] 0 c8 (Zb (cn h9 (fun _ h11=>?_) (fun _ h12=>?_)))
 exact Za (zg [4] 0 (Zb (Zf (ZR (Zk (rr h11 ⟨rfl,er0 _⟩))))))
 exact Zd (XA (Zb (zg [0,1,5] 0 (rn h12))))
 exact ZD (Xc (re h7 ⟨rfl,kq⟩))
 intro e15 s16 o17
 rcases y3 with g4 | y5
 have h18:=Yc h14
 exact zi o17 (Za (zg [4] 0 (Zb (Zf (er1 h18)))))
 have h19:=Yd h14
 obtain ⟨rfl,n21⟩:=o17
 refine ZR (Zk ?_)
 obtain rfl:=Option.some.inj h19
 exact n21
theorem ZbD (a0:Int) (r:Bool) (h:M.Ww a0=some r):Fn Tryz.prog 230 [.int .u8 a0] (.pure (.bool r)):=by
 unfold M.Ww at h
 exact ZC Tryz.func230 rfl (by kernel_rfl) (Za (zg [0] 0 (Zb (Za (zg [2] 0 (Zb (Zf (er1 h))))))))
theorem Zg6 (a0:Int) (r:Bool) (h:M.US a0=some r):Fn Tryz.prog 231 [.int .u8 a0] (.pure (.bool r)):=by
 unfold M.US at h
 exact ZC Tryz.func231 rfl (by kernel_rfl) (Za (zg [0] 0 (Zb (Za (zg [2] 0 (Zb (Zf (er1 h))))))))
theorem Zd6 (a0:ByteArray) (r:Bool) (h:M.UF a0=some r):Fn Tryz.prog 173 [.str a0] (.pure (.bool r)):=by
 unfold M.UF at h
 refine ZC Tryz.func173 rfl (by kernel_rfl) (Za (zg [0] 0 (Zb (Za (Za ?_)))))
 obtain ⟨r1,q1,h2⟩:=bind_some h
 obtain ⟨c3,h4⟩:=Zo h2
 refine zr [0,18] 0 c3 (rq2 (fun hg=>ZbD _ _ (Xg q1 hg)) rqn) (Zb (cn h4 (fun _ h6=>?_) (fun _ h7=>?_)))
 refine Za ?_
 cases h6
 refine Zd (Zb (Za (Za (zg [0,3] 0 (Zb (Zg ?_))))))
 obtain ⟨y6,q21,h22⟩:=bind_some h7
 refine zl (fun (p2:Int)=>⟨52,[(0,.str a0),(3,.int .i64 p2)],[]⟩) (fun z=>OutE 0 (fun z=>⟨52,[],[]⟩) z) q21 ?_ ?_
 intro p2 y3 h8
 unfold M.Ue at h8
 refine Za (Za (zg [0,3,22] 0 (Zb (cn h8 (fun _ h10=>?_) (fun _ h11=>?_)))))
 refine Zd (Zb (Za (Zg (Za ?_))))
 obtain ⟨c12,h13⟩:=Zo h10
 refine zc [0,3,4] 0 c12 (Zb (Za ?_))
 obtain ⟨r4,q14,h15⟩:=bind_some h13
 obtain ⟨r5,q16,h17⟩:=bind_some h15
 refine zr [0,3,51] 0 Zt (rq1 (ZbD _ _ q14) (rq2 (fun hg=>Zg6 _ _ (Xg q16 hg)) rqn)) (Zb (cn h17 (fun _ h19=>?_) (fun _ h20=>?_)))
 refine Za ?_
 cases h19
 exact Zd (XA (Zb (zg [0,3] 0 (rn h20))))
 exact ZD (Xc (re h11 ⟨rfl,kq⟩))
 intro e23 s24 o25
 exact zi o25 (Za (zg [2] 0 (Zb (Zf (er1 h22)))))
theorem W7 (a0:Int) (a1:Int) (a2:Int) (r:Bool) (h:M.YW a0 a1 a2=some r):Fn Tryz.prog 174 [.int .i64 a0,.int .i64 a1,.int .i64 a2] (.pure (.bool r)):=by
 unfold M.YW at h
 exact ZC Tryz.func174 rfl (by kernel_rfl) (Za (zg [0,1,2] 0 (Zb (Za (zg [6] 0 (Zb (Zf (er1 h))))))))
theorem ZbE (a0:ZA) (b0:ByteArray) (r:Bool) (h:M.Jt a0 b0=some r):Fn Tryz.prog 261 [.agg (Zl a0),.pp (cs b0)] (.pure (.bool r)):=by
 unfold M.Jt at h
 exact ZC Tryz.func261 rfl (by kernel_rfl) (Za (zg [1,2] 1 (Zb (Za (zg [3] 0 (Zb (Zf (er1 h))))))))
theorem Vz (a0:List ZA) (a1c0:ByteArray) (r:Int) (h:M.ZH a0 a1c0=some r):Fn Tryz.prog 247 [sL 12 Zl a0,.fn 261 [.pp (cs a1c0)]] (.pure (.int .i64 r)):=by
 unfold M.ZH at h
 refine ZC Tryz.func247 rfl (by kernel_rfl) (Za (zg [0,1] 0 (Zb (Za (Za (zg [0,1,7,8] 0 (Zb (Zg ?_))))))))
 obtain ⟨y4,q12,h13⟩:=bind_some h
 refine zl (fun (p1:Int)=>⟨19,[(0,sL 12 Zl a0),(1,.fn 261 [.pp (cs a1c0)]),(7,.int .i64 (a0.length:Int)),(8,.int .i64 p1)],[]⟩) (Sum.elim (fun z=>OutE 0 (fun z=>⟨19,[],[]⟩) z) (fun z=>OutR Tryz.prog Tryz.f247 (.int .i64 z))) q12 ?_ ?_
 intro p1 y2 h1
 unfold M.ZK at h1
 refine Za (zg [0,1,7,8,9] 0 (Zb (Za (cn h1 (fun _ h3=>?_) (fun _ h4=>?_)))))
 refine Zd (Zb (Za (Zg (Za (zg [0,1,5,7,8] 0 (Zb (Za ?_)))))))
 obtain ⟨r3,q5,h6⟩:=bind_some h3
 obtain ⟨c7,h8⟩:=Zo h6
 refine zr [0,1,5,7,8,16] 0 c7 (rq1 (ZbE _ _ _ q5) rqn) (Zb (cn h8 (fun _ h10=>?_) (fun _ h11=>?_)))
 exact Za (zg [4] 0 (Zb (Zf (ZR (Zk (rr h10 ⟨rfl,er0 _⟩))))))
 exact Zd (XA (Zb (zg [0,1,7,8] 0 (rn h11))))
 exact ZD (Xc (re h4 ⟨rfl,kq⟩))
 intro e14 s15 o16
 rcases y4 with g5 | y6
 have h17:=Yc h13
 exact zi o16 (Za (zg [4] 0 (Zb (Zf (er1 h17)))))
 have h18:=Yd h13
 obtain ⟨rfl,n20⟩:=o16
 refine ZR (Zk ?_)
 obtain rfl:=Option.some.inj h18
 exact n20
theorem Zc6 (a0:Zi) (a1:ByteArray) (r:Int) (h:M.Vp a0 a1=some r):Fn Tryz.prog 232 [.agg (Zs a0),.str a1] (.pure (.int .i64 r)):=by
 unfold M.Vp at h
 refine ZC Tryz.func232 rfl (by kernel_rfl) (Za (zg [2,3] 2 (Zb (Za ?_))))
 obtain ⟨r1,q1,h2⟩:=bind_some h
 exact zr [4] 0 Zt (rq1 (Vz _ _ _ q1) rqn) (Zb (Zf (er1 h2)))
theorem R2 (a0:ZA) (r:Bool) (h:M.Qv a0=some r):Fn Tryz.prog 233 [.agg (Zl a0)] (.pure (.bool r)):=by
 unfold M.Qv at h
 refine ZC Tryz.func233 rfl (by kernel_rfl) (Za (zg [1] 1 (Zb (Za (Za ?_)))))
 obtain ⟨r1,q1,h2⟩:=bind_some h
 obtain ⟨r2,q3,h4⟩:=bind_some h2
 obtain ⟨r3,q5,h6⟩:=bind_some h4
 refine zr [1,18] 1 Zt (rq1 (W7 _ _ _ _ q1) (rq2 (fun hg=>W7 _ _ _ _ (Xg q3 hg)) (rq2 (fun hg=>W7 _ _ _ _ (Xg q5 hg)) rqn))) (Zb (cn h6 (fun _ h8=>?_) (fun _ h9=>?_)))
 refine Za ?_
 cases h8
 refine Zd (Zb (Za (Za (zg [1,54] 1 (Zb (cn h9 (fun _ h11=>?_) (fun _ h12=>?_)))))))
 refine Za ?_
 cases h11
 refine Zd (Zb (Za (Za (zg [1,62] 1 (Zb (cn h12 (fun _ h14=>?_) (fun _ h15=>?_)))))))
 refine Za ?_
 cases h14
 refine Zd (Zb (Za (Za (zg [1,64] 1 (Zb (cn h15 (fun _ h17=>?_) (fun _ h18=>?_)))))))
 refine Za ?_
 cases h17
 exact Zd (Zb (Za (zg [2] 0 (Zb (Zf (er1 h18))))))
theorem Rw (a0:Zi) (r:Int) (h:M.Qa a0=some r):Fn Tryz.prog 175 [.agg (Zs a0)] (.pure (.int .i64 r)):=by
 let u1:Nat × D:=(12,sL 12 Zl a0.Zc)
 let u2:=(a0.Zc.length:Int)
 let u5:=Zs a0
 unfold M.Qa at h
 refine ZC Tryz.func175 rfl (by kernel_rfl) (Za (zg [1] 1 (Zb (Za (Za (zg [1,10] 1 (Zb (cn h (fun _ h2=>?_) (fun _ h3=>?_)))))))))
 refine Za ?_
 cases h2
 refine Zd (Zb (Za (Za (zg [1,12,13,14] 1 (Zb (Zg ?_))))))
 obtain ⟨y9,q37,h38⟩:=bind_some h3
 refine zl (fun (p1:Int)=>⟨64,[(1,.ref 0 0),u1,(13,.int .i64 u2),(14,.int .i64 p1)],[.box u5]⟩) (fun z=>OutE 0 (fun z=>⟨64,[],[]⟩) z) q37 ?_ ?_
 intro p1 y2 h4
 let u3:List Ob:=[.box u5,.box (Zl (a0.Zc.getD p1.toNat default))]
 let u4:Nat × D:=(35,sL 12 Zl ((a0.Zc.drop 0).take (p1.toNat - 0)))
 unfold M.Y0 at h4
 refine Za (zg [1,12,13,14,15] 1 (Zb (Za (cn h4 (fun _ h6=>?_) (fun _ h7=>?_)))))
 refine Zd (Zb (Za (Zg (Za ?_))))
 obtain ⟨c8,h9⟩:=Zo h6
 refine zc [1,3,4,12,13,14] 2 c8 (Zb (Za (Za ?_)))
 obtain ⟨r3,q10,h11⟩:=bind_some h9
 refine zr [1,3,4,12,13,14,22] 2 Zt (rq1 (Zd6 _ _ q10) rqn) (Zb (cn h11 (fun _ h13=>?_) (fun _ h14=>?_)))
 refine Za ?_
 cases h13
 refine Zd (Zb (Za (Za ?_)))
 obtain ⟨r4,q15,h16⟩:=bind_some h14
 refine zr [1,3,4,12,13,14,28] 2 Zt (rq1 (Zc6 _ _ _ q15) rqn) (Zb (cn h16 (fun _ h18=>?_) (fun _ h19=>?_)))
 refine Za ?_
 cases h18
 refine Zd (Zb (Za (Za ?_)))
 obtain ⟨r5,q20,h21⟩:=bind_some h19
 refine zr [1,3,4,12,13,14,31] 2 Zt (rq1 (R2 _ _ q20) rqn) (Zb (cn h21 (fun _ h23=>?_) (fun _ h24=>?_)))
 refine Za ?_
 cases h23
 refine Zd (Zb (Za ?_))
 obtain ⟨c25,h26⟩:=Zo h24
 refine rgc [1,4,12,13,14,35,36,37] 2 ⟨64,[(1,.ref 0 0),(4,.ref 1 0),u1,(13,.int .i64 u2),(14,.int .i64 p1),(35,.sl false 12 (p1.toNat - 0) (fun i=>Zl (a0.Zc.getD (0+i) default))),(36,.int .i64 ((p1.toNat - 0:Nat):Int)),(37,.int .i64 0)],u3⟩ [decide (0≤p1),decide (p1≤u2)] c25 (ZZ (s':=⟨64,[(1,.ref 0 0),(4,.ref 1 0),u1,(13,.int .i64 u2),(14,.int .i64 p1),u4,(36,.int .i64 ((p1.toNat - 0:Nat):Int)),(37,.int .i64 0)],u3⟩) (QU (.cons Sub.rfl (.cons Sub.rfl (.cons Sub.rfl (.cons Sub.rfl (.cons Sub.rfl (.cons (Gs (Ks _ _ _ (ZcQ (c25 _ (List.mem_cons_of_mem _ List.mem_cons_self)))) (ZdA _ _ _ _)) (.cons Sub.rfl (.cons Sub.rfl .nil)))))))) (.cons .rfl (.cons .rfl .nil))) (Zg ?_))
 obtain ⟨y8,q31,h32⟩:=bind_some h26
 refine zl (fun (p6:Int)=>⟨64,[(1,.ref 0 0),(4,.ref 1 0),u1,(13,.int .i64 u2),(14,.int .i64 p1),u4,(36,.int .i64 ((p1.toNat - 0:Nat):Int)),(37,.int .i64 p6)],u3⟩) (fun z=>OutE 2 (fun z=>⟨64,[(1,.ref 0 0),u1,(13,.int .i64 u2),(14,.int .i64 p1)],[.box u5]⟩) z) q31 ?_ ?_
 intro p6 y7 h27
 unfold M.YZ at h27
 refine Za (zg [1,4,12,13,14,35,36,37,38] 2 (Zb (Za (cn h27 (fun _ h29=>?_) (fun _ h30=>?_)))))
 refine Zd (Zb (Za (Zg (Za ?_))))
 cases h29
 exact ZD (Xc (re h30 ⟨rfl,kc⟩))
 intro e33 s34 o35
 obtain ⟨rfl,l36⟩:=o35
 exact Qg (XA (ZZ (s':=⟨64,[(1,.ref 0 0),u1,(13,.int .i64 u2),(14,.int .i64 p1)],[.box u5]⟩) (l36) (zg [1,12,13,14] 1 (rn h32))))
 exact ZD (Xc (re h7 ⟨rfl,kc⟩))
 intro e39 s40 o41
 exact zi o41 (Za (zg [2] 0 (Zb (Zf (er1 h38)))))
theorem Rf (a0:Zi) (r:Int) (h:M.YX a0=some r):Fn Tryz.prog 176 [.agg (Zs a0)] (.pure (.int .i64 r)):=by
 unfold M.YX at h
 refine ZC Tryz.func176 rfl (by kernel_rfl) (Za (zg [1] 1 (Zb (Za (Za (zg [1,11] 1 (Zb (cn h (fun _ h2=>?_) (fun _ h3=>?_)))))))))
 refine Za ?_
 cases h2
 refine Zd (Zb (Za (Za (zg [1,13,14,15] 1 (Zb (Zg ?_))))))
 obtain ⟨y3,q8,h9⟩:=bind_some h3
 refine zl (fun (p1:Int)=>⟨67,[(1,.ref 0 0),(13,sL 2 Zx a0.YV),(14,.int .i64 (a0.YV.length:Int)),(15,.int .i64 p1)],[.box (Zs a0)]⟩) (fun z=>OutE 0 (fun z=>⟨67,[],[]⟩) z) q8 ?_ ?_
 intro p1 y2 h4
 unfold M.YQ at h4
 refine Za (zg [1,13,14,15,16] 1 (Zb (Za (cn h4 (fun _ h6=>?_) (fun _ h7=>?_)))))
 refine Zd (Zb (Za (Zg (Za ?_))))
 cases h6
 exact ZD (Xc (re h7 ⟨rfl,kc⟩))
 intro e10 s11 o12
 exact zi o12 (Za (zg [2] 0 (Zb (Zf (er1 h9)))))
theorem R3 (a0:Zi) (r:Int) (h:M.Qw a0=some r):Fn Tryz.prog 177 [.agg (Zs a0)] (.pure (.int .i64 r)):=by
 unfold M.Qw at h
 refine ZC Tryz.func177 rfl (by kernel_rfl) (Za (zg [1] 1 (Zb (Za (Za (zg [1,11] 1 (Zb (cn h (fun _ h2=>?_) (fun _ h3=>?_)))))))))
 refine Za ?_
 cases h2
 refine Zd (Zb (Za (Za (zg [1,13,14,15] 1 (Zb (Zg ?_))))))
 obtain ⟨y3,q8,h9⟩:=bind_some h3
 refine zl (fun (p1:Int)=>⟨56,[(1,.ref 0 0),(13,sL 2 ZX a0.XP),(14,.int .i64 (a0.XP.length:Int)),(15,.int .i64 p1)],[.box (Zs a0)]⟩) (fun z=>OutE 0 (fun z=>⟨56,[],[]⟩) z) q8 ?_ ?_
 intro p1 y2 h4
 unfold M.Qe at h4
 refine Za (zg [1,13,14,15,16] 1 (Zb (Za (cn h4 (fun _ h6=>?_) (fun _ h7=>?_)))))
 refine Zd (Zb (Za (Zg (Za ?_))))
 cases h6
 exact ZD (Xc (re h7 ⟨rfl,kc⟩))
 intro e10 s11 o12
 exact zi o12 (Za (zg [2] 0 (Zb (Zf (er1 h9)))))
theorem Zc7 (a0:Zi) (r:Int) (h:M.Vq a0=some r):Fn Tryz.prog 178 [.agg (Zs a0)] (.pure (.int .i64 r)):=by
 unfold M.Vq at h
 refine ZC Tryz.func178 rfl (by kernel_rfl) (Za (zg [1] 1 (Zb (Za (Za (zg [1,11] 1 (Zb (cn h (fun _ h2=>?_) (fun _ h3=>?_)))))))))
 refine Za ?_
 cases h2
 refine Zd (Zb (Za (Za (zg [1,13,14,15] 1 (Zb (Zg ?_))))))
 obtain ⟨y3,q8,h9⟩:=bind_some h3
 refine zl (fun (p1:Int)=>⟨46,[(1,.ref 0 0),(13,sL 2 YU a0.Y5),(14,.int .i64 (a0.Y5.length:Int)),(15,.int .i64 p1)],[.box (Zs a0)]⟩) (fun z=>OutE 0 (fun z=>⟨46,[],[]⟩) z) q8 ?_ ?_
 intro p1 y2 h4
 unfold M.JK at h4
 refine Za (zg [1,13,14,15,16] 1 (Zb (Za (cn h4 (fun _ h6=>?_) (fun _ h7=>?_)))))
 refine Zd (Zb (Za (Zg (Za ?_))))
 cases h6
 exact ZD (Xc (re h7 ⟨rfl,kc⟩))
 intro e10 s11 o12
 exact zi o12 (Za (zg [2] 0 (Zb (Zf (er1 h9)))))
theorem Zd7 (a0:Zi) (r:Int) (h:M.VU a0=some r):Fn Tryz.prog 179 [.agg (Zs a0)] (.pure (.int .i64 r)):=by
 unfold M.VU at h
 refine ZC Tryz.func179 rfl (by kernel_rfl) (Za (zg [1] 1 (Zb (Za (Za (zg [1,8] 1 (Zb (cn h (fun _ h2=>?_) (fun _ h3=>?_)))))))))
 refine Za ?_
 cases h2
 refine Zd (Zb (Za (Za (zg [1,10,11,12] 1 (Zb (Zg ?_))))))
 obtain ⟨y3,q8,h9⟩:=bind_some h3
 refine zl (fun (p1:Int)=>⟨30,[(1,.ref 0 0),(10,sL 9 Z2 a0.Xf),(11,.int .i64 (a0.Xf.length:Int)),(12,.int .i64 p1)],[.box (Zs a0)]⟩) (fun z=>OutE 0 (fun z=>⟨30,[],[]⟩) z) q8 ?_ ?_
 intro p1 y2 h4
 unfold M.J9 at h4
 refine Za (zg [1,10,11,12,13] 1 (Zb (Za (cn h4 (fun _ h6=>?_) (fun _ h7=>?_)))))
 refine Zd (Zb (Za (Zg (Za ?_))))
 cases h6
 exact ZD (Xc (re h7 ⟨rfl,kc⟩))
 intro e10 s11 o12
 exact zi o12 (Za (zg [2] 0 (Zb (Zf (er1 h9)))))
theorem Zd8 (a0:Zi) (a1:ByteArray) (r:Int) (h:M.UG a0 a1=some r):Fn Tryz.prog 240 [.agg (Zs a0),.str a1] (.pure (.int .i64 r)):=by
 unfold M.UG at h
 refine ZC Tryz.func240 rfl (by kernel_rfl) (Za ?_)
 cases h
theorem ZaQ (a0:Zi) (r:Int) (h:M.Q0 a0=some r):Fn Tryz.prog 180 [.agg (Zs a0)] (.pure (.int .i64 r)):=by
 unfold M.Q0 at h
 refine ZC Tryz.func180 rfl (by kernel_rfl) (Za (zg [1] 1 (Zb (Za (Za (zg [1,6,7,8] 1 (Zb (Zg ?_))))))))
 obtain ⟨y5,q14,h15⟩:=bind_some h
 refine zl (fun (p1:Int)=>⟨35,[(1,.ref 0 0),(6,sL 12 Zl a0.Zc),(7,.int .i64 (a0.Zc.length:Int)),(8,.int .i64 p1)],[.box (Zs a0)]⟩) (fun z=>OutE 0 (fun z=>⟨35,[],[]⟩) z) q14 ?_ ?_
 intro p1 y2 h1
 unfold M.QC at h1
 refine Za (zg [1,6,7,8,9] 1 (Zb (Za (cn h1 (fun _ h3=>?_) (fun _ h4=>?_)))))
 refine Zd (Zb (Za (Zg (Za ?_))))
 obtain ⟨c5,h6⟩:=Zo h3
 refine zc [1,4,6,7,8] 2 c5 (Zb (Za ?_))
 obtain ⟨r3,q7,h8⟩:=bind_some h6
 obtain ⟨r4,q9,h10⟩:=bind_some h8
 refine zr [1,6,7,8,33] 1 Zt (rq2 (fun hg=>Zd8 _ _ _ (Xg q7 hg)) (rq2 (fun hg=>Zd8 _ _ _ (Xg q9 hg)) rqn)) (Zb (cn h10 (fun _ h12=>?_) (fun _ h13=>?_)))
 refine Za ?_
 cases h12
 exact Zd (XA (Zb (zg [1,6,7,8] 1 (rn h13))))
 exact ZD (Xc (re h4 ⟨rfl,kc⟩))
 intro e16 s17 o18
 exact zi o18 (Za (zg [2] 0 (Zb (Zf (er1 h15)))))
theorem Zg7 (a0:ZL) (r:Bool) (h:M.UT a0=some r):Fn Tryz.prog 237 [.agg (Xd a0)] (.pure (.bool r)):=by
 unfold M.UT at h
 refine ZC Tryz.func237 rfl (by kernel_rfl) (Za (zg [1] 1 (Zb (Za ?_))))
 obtain ⟨r1,q1,h2⟩:=bind_some h
 exact zr [2] 0 Zt (rq2 (fun hg=>Zaq _ _ (Xg q1 hg)) rqn) (Zb (Zf (er1 h2)))
theorem Zc8 (a0:ZA) (b0:Int) (r:Bool) (h:M.Vr a0 b0=some r):Fn Tryz.prog 248 [.agg (Zl a0),.pp ((ci .u32) b0)] (.pure (.bool r)):=by
 unfold M.Vr at h
 exact ZC Tryz.func248 rfl (by kernel_rfl) (Za (zg [1,2] 1 (Zb (Za (zg [3] 0 (Zb (Zf (er1 h))))))))
theorem VK (a0:List ZA) (a1c0:Int) (r:Int) (h:M.ZJ a0 a1c0=some r):Fn Tryz.prog 247 [sL 12 Zl a0,.fn 248 [.pp ((ci .u32) a1c0)]] (.pure (.int .i64 r)):=by
 unfold M.ZJ at h
 refine ZC Tryz.func247 rfl (by kernel_rfl) (Za (zg [0,1] 0 (Zb (Za (Za (zg [0,1,7,8] 0 (Zb (Zg ?_))))))))
 obtain ⟨y4,q12,h13⟩:=bind_some h
 refine zl (fun (p1:Int)=>⟨19,[(0,sL 12 Zl a0),(1,.fn 248 [.pp ((ci .u32) a1c0)]),(7,.int .i64 (a0.length:Int)),(8,.int .i64 p1)],[]⟩) (Sum.elim (fun z=>OutE 0 (fun z=>⟨19,[],[]⟩) z) (fun z=>OutR Tryz.prog Tryz.f247 (.int .i64 z))) q12 ?_ ?_
 intro p1 y2 h1
 unfold M.ZO at h1
 refine Za (zg [0,1,7,8,9] 0 (Zb (Za (cn h1 (fun _ h3=>?_) (fun _ h4=>?_)))))
 refine Zd (Zb (Za (Zg (Za (zg [0,1,5,7,8] 0 (Zb (Za ?_)))))))
 obtain ⟨r3,q5,h6⟩:=bind_some h3
 obtain ⟨c7,h8⟩:=Zo h6
 refine zr [0,1,5,7,8,16] 0 c7 (rq1 (Zc8 _ _ _ q5) rqn) (Zb (cn h8 (fun _ h10=>?_) (fun _ h11=>?_)))
 exact Za (zg [4] 0 (Zb (Zf (ZR (Zk (rr h10 ⟨rfl,er0 _⟩))))))
 exact Zd (XA (Zb (zg [0,1,7,8] 0 (rn h11))))
 exact ZD (Xc (re h4 ⟨rfl,kq⟩))
 intro e14 s15 o16
 rcases y4 with g5 | y6
 have h17:=Yc h13
 exact zi o16 (Za (zg [4] 0 (Zb (Zf (er1 h17)))))
 have h18:=Yd h13
 obtain ⟨rfl,n20⟩:=o16
 refine ZR (Zk ?_)
 obtain rfl:=Option.some.inj h18
 exact n20
theorem ZeL (a0:Zi) (a1:Int) (r:Int) (h:M.Wn a0 a1=some r):Fn Tryz.prog 187 [.agg (Zs a0),.int .u32 a1] (.pure (.int .i64 r)):=by
 unfold M.Wn at h
 refine ZC Tryz.func187 rfl (by kernel_rfl) (Za (zg [2,3] 2 (Zb (Za ?_))))
 obtain ⟨r1,q1,h2⟩:=bind_some h
 exact zr [4] 0 Zt (rq1 (VK _ _ _ q1) rqn) (Zb (Zf (er1 h2)))
theorem ZbF (a0:Zi) (a1:X8) (r:Bool) (h:M.Ju a0 a1=some r):Fn Tryz.prog 243 [.agg (Zs a0),.agg (ZU a1)] (.pure (.bool r)):=by
 let u1:Nat × D:=(16,sL 1 cb ([a1.YF != 0,!strEq a1.ZP (⟨#[]⟩:ByteArray),a1.ZS]:List Bool))
 let u2:List Ob:=[.box (Zs a0),.box (ZU a1)]
 unfold M.Ju at h
 refine ZC Tryz.func243 rfl (by kernel_rfl) (Za (zg [2,3] 2 (Zb (Za (zg [2,3,5] 2 (Zb (Za (Za (rg0 [2,3,5,16,17,18] 2 ⟨55,[(2,.ref 0 0),(3,.ref 1 0),(5,.int .i64 0),(16,.sl true 1 3 (fun i=>List.take 1 (List.drop (i*1) [.bool (a1.YF != 0),.bool (!strEq a1.ZP (⟨#[]⟩:ByteArray)),.bool a1.ZS]))),(17,.int .i64 3),(18,.int .i64 0)],[.box (Zs a0),.box (ZU a1)]⟩ (ZZ (s':=⟨55,[(2,.ref 0 0),(3,.ref 1 0),(5,.int .i64 0),(16,sL 1 cb ([a1.YF != 0,!strEq a1.ZP (⟨#[]⟩:ByteArray),a1.ZS]:List Bool)),(17,.int .i64 3),(18,.int .i64 0)],[.box (Zs a0),.box (ZU a1)]⟩) (QU (.cons Sub.rfl (.cons Sub.rfl (.cons Sub.rfl (.cons (Gs rfl (fun i hi=>match i,hi with | 0,_=>rfl | 1,_=>rfl | 2,_=>rfl | n+3,h=>absurd h (by omega))) (.cons Sub.rfl (.cons Sub.rfl .nil)))))) (.cons .rfl (.cons .rfl .nil))) (Zg ?_)))))))))))
 obtain ⟨y4,q12,h13⟩:=bind_some h
 refine zl (fun (p1:Int × Int)=>⟨55,[(2,.ref 0 0),(3,.ref 1 0),(5,.int .i64 p1.1),u1,(17,.int .i64 3),(18,.int .i64 p1.2)],u2⟩) (fun z=>OutE 0 (fun z=>⟨55,[(2,.ref 0 0),(3,.ref 1 0),(5,.int .i64 z)],u2⟩) z) q12 ?_ ?_
 intro p1 y2 h1
 unfold M.QW at h1
 refine Za (rg0 [2,3,5,16,17,18,19] 2 ⟨55,[(2,.ref 0 0),(3,.ref 1 0),(5,.int .i64 p1.1),u1,(17,.int .i64 3),(18,.int .i64 p1.2),(19,.bool (decide (p1.2 < 3)))],u2⟩ (Zb (Za (cn h1 (fun _ h3=>?_) (fun _ h4=>?_)))))
 refine Zd (Zb (Jz (fun (p3:Int)=>⟨55,[(2,.ref 0 0),(3,.ref 1 0),(5,.int .i64 p3),u1,(17,.int .i64 3),(18,.int .i64 p1.2)],u2⟩) (fun p3=>M.YE p1 p3=some y2) ?_ ?_))
 intro p3 h6
 unfold M.YE at h6
 exact zg [2,3,5,16,17,18] 2 (rn h6)
 intro k5
 refine Zg (Za ?_)
 obtain ⟨c7,h8⟩:=Zo h3
 refine zc [2,3,5,7,16,17,18] 2 c7 (Zb (Za (zg [2,3,5,16,17,18,22] 2 (Zb (cn h8 (fun _ h10=>?_) (fun _ h11=>?_))))))
 exact zg [2,3,5,16,17,18] 2 (XA (ZZ lk (k5 (wr .i64 (p1.1+1)) h10)))
 exact Zd (XA (ZZ kq (k5 p1.1 h11)))
 exact ZD (Xc (re h4 ⟨rfl,kq⟩))
 intro e14 s15 o16
 refine zi o16 (Za ?_)
 obtain ⟨r5,q18,h19⟩:=bind_some h13
 obtain ⟨r6,q20,h21⟩:=bind_some h19
 obtain ⟨r7,q22,h23⟩:=bind_some h21
 obtain ⟨r8,q24,h25⟩:=bind_some h23
 exact zr [4] 0 Zt (rq1 (Zg7 _ _ q18) (rq2 (fun hg=>ZeL _ _ _ (Xg q20 hg)) (rq2 (fun hg=>W7 _ _ _ _ (Xg q22 hg)) (rq2 (fun hg=>W7 _ _ _ _ (Xg q24 hg)) rqn)))) (Zb (Zf (er1 h25)))
theorem ZaR (a0:Zi) (r:Int) (h:M.Q1 a0=some r):Fn Tryz.prog 181 [.agg (Zs a0)] (.pure (.int .i64 r)):=by
 let u2:Nat × D:=(13,sL 7 ZU a0.Zq)
 let u3:=(a0.Zq.length:Int)
 let u6:=Zs a0
 unfold M.Q1 at h
 refine ZC Tryz.func181 rfl (by kernel_rfl) (Za (zg [1] 1 (Zb (Za (Za (zg [1,11] 1 (Zb (cn h (fun _ h2=>?_) (fun _ h3=>?_)))))))))
 refine Za ?_
 cases h2
 refine Zd (Zb (Za (Za (zg [1,13,14,15] 1 (Zb (Zg ?_))))))
 obtain ⟨y8,q32,h33⟩:=bind_some h3
 refine zl (fun (p1:Int)=>⟨63,[(1,.ref 0 0),u2,(14,.int .i64 u3),(15,.int .i64 p1)],[.box u6]⟩) (fun z=>OutE 0 (fun z=>⟨63,[],[]⟩) z) q32 ?_ ?_
 intro p1 y2 h4
 let u4:=a0.Zq.getD p1.toNat default
 let u1:List Ob:=[.box u6,.box (ZU u4)]
 let u5:Nat × D:=(43,sL 7 ZU ((a0.Zq.drop 0).take (p1.toNat - 0)))
 unfold M.QE at h4
 refine Za (zg [1,13,14,15,16] 1 (Zb (Za (cn h4 (fun _ h6=>?_) (fun _ h7=>?_)))))
 refine Zd (Zb (Za (Zg (Za ?_))))
 obtain ⟨c8,h9⟩:=Zo h6
 refine zc [1,3,4,13,14,15] 2 c8 (Zb (Za (Za ?_)))
 obtain ⟨r3,q10,h11⟩:=bind_some h9
 refine rg [.pure (.bool r3)] [1,3,4,13,14,15,23] 2 ⟨63,[(1,.ref 0 0),(3,.int .i64 p1),(4,.ref 1 0),u2,(14,.int .i64 u3),(15,.int .i64 p1),(23,.bool (!r3))],u1⟩ [] [⟨true,243,[.agg u6,.agg (ZU u4)],.pure (.bool r3)⟩] Zt ⟨fun _=>ZbF a0 u4 r3 q10,trivial⟩ (Zb (cn h11 (fun _ h13=>?_) (fun _ h14=>?_)))
 refine Za ?_
 cases h13
 refine Zd (Zb (Jz (fun (p4:Unit)=>⟨63,[(1,.ref 0 0),(3,.int .i64 p1),(4,.ref 1 0),u2,(14,.int .i64 u3),(15,.int .i64 p1)],u1⟩) (fun p4=>M.Qb a0 p1 p4=some y2) ?_ ?_))
 intro p4 h16
 unfold M.Qb at h16
 refine Za ?_
 obtain ⟨c17,h18⟩:=Zo h16
 refine rgc [1,4,13,14,15,43,44,45] 2 ⟨63,[(1,.ref 0 0),(4,.ref 1 0),u2,(14,.int .i64 u3),(15,.int .i64 p1),(43,.sl false 7 (p1.toNat - 0) (fun i=>ZU (a0.Zq.getD (0+i) default))),(44,.int .i64 ((p1.toNat - 0:Nat):Int)),(45,.int .i64 0)],u1⟩ [decide (0≤p1),decide (p1≤u3)] c17 (ZZ (s':=⟨63,[(1,.ref 0 0),(4,.ref 1 0),u2,(14,.int .i64 u3),(15,.int .i64 p1),u5,(44,.int .i64 ((p1.toNat - 0:Nat):Int)),(45,.int .i64 0)],u1⟩) (QU (.cons Sub.rfl (.cons Sub.rfl (.cons Sub.rfl (.cons Sub.rfl (.cons Sub.rfl (.cons (Gs (Ks _ _ _ (ZcQ (c17 _ (List.mem_cons_of_mem _ List.mem_cons_self)))) (ZdA _ _ _ _)) (.cons Sub.rfl (.cons Sub.rfl .nil)))))))) (.cons .rfl (.cons .rfl .nil))) (Zg ?_))
 obtain ⟨y7,q23,h24⟩:=bind_some h18
 refine zl (fun (p5:Int)=>⟨63,[(1,.ref 0 0),(4,.ref 1 0),u2,(14,.int .i64 u3),(15,.int .i64 p1),u5,(44,.int .i64 ((p1.toNat - 0:Nat):Int)),(45,.int .i64 p5)],u1⟩) (fun z=>OutE 2 (fun z=>⟨63,[(1,.ref 0 0),u2,(14,.int .i64 u3),(15,.int .i64 p1)],[.box u6]⟩) z) q23 ?_ ?_
 intro p5 y6 h19
 unfold M.QD at h19
 refine Za (zg [1,4,13,14,15,43,44,45,46] 2 (Zb (Za (cn h19 (fun _ h21=>?_) (fun _ h22=>?_)))))
 refine Zd (Zb (Za (Zg (Za ?_))))
 cases h21
 exact ZD (Xc (re h22 ⟨rfl,kc⟩))
 intro e25 s26 o27
 obtain ⟨rfl,l28⟩:=o27
 exact Qg (XA (ZZ (s':=⟨63,[(1,.ref 0 0),u2,(14,.int .i64 u3),(15,.int .i64 p1)],[.box u6]⟩) (l28) (zg [1,13,14,15] 1 (rn h24))))
 intro k15
 refine Za (zg [1,3,4,13,14,15,26] 2 (Zb (cn h14 (fun _ h30=>?_) (fun _ h31=>?_))))
 refine Za ?_
 cases h30
 exact Zd (ZZ kq (k15 () h31))
 exact ZD (Xc (re h7 ⟨rfl,kc⟩))
 intro e34 s35 o36
 exact zi o36 (Za (zg [2] 0 (Zb (Zf (er1 h33)))))
theorem R4 (a0:Zi) (r:Int) (h:M.Qx a0=some r):Fn Tryz.prog 182 [.agg (Zs a0)] (.pure (.int .i64 r)):=by
 unfold M.Qx at h
 refine ZC Tryz.func182 rfl (by kernel_rfl) (Za (zg [1] 1 (Zb (Za (zg [1,3] 2 (Zb (Za (Za (zg [1,3,12] 2 (Zb (cn h (fun _ h2=>?_) (fun _ h3=>?_))))))))))))
 refine Za (Za (zg [27] 0 (Zb (cn h2 (fun _ h5=>?_) (fun _ h6=>?_)))))
 refine Za ?_
 cases h5
 exact Zd (Zb (Za (zg [2] 0 (Zb (Zf (Zk (er1 h6)))))))
 refine Zd (Zb (Za (Za ?_)))
 cases h3
theorem KK (a0:Zi) (r:Int) (h:M.Ys a0=some r):Fn Tryz.prog 183 [.agg (Zs a0)] (.pure (.int .i64 r)):=by
 unfold M.Ys at h
 refine ZC Tryz.func183 rfl (by kernel_rfl) (Za (zg [1] 1 (Zb (Za (zg [1,3] 2 (Zb (Za (Za (zg [1,3,8] 2 (Zb (cn h (fun _ h2=>?_) (fun _ h3=>?_))))))))))))
 refine Za (Za (zg [27] 0 (Zb (cn h2 (fun _ h5=>?_) (fun _ h6=>?_)))))
 refine Za ?_
 cases h5
 exact Zd (Zb (Za (zg [2] 0 (Zb (Zf (Zk (er1 h6)))))))
 refine Zd (Zb (Za (Za ?_)))
 cases h3
theorem Rx (a0:Zi) (r:Int) (h:M.Qc a0=some r):Fn Tryz.prog 184 [.agg (Zs a0)] (.pure (.int .i64 r)):=by
 unfold M.Qc at h
 refine ZC Tryz.func184 rfl (by kernel_rfl) (Za (zg [1] 1 (Zb (Za (zg [1,3] 2 (Zb (Za (Za (zg [1,3,10] 2 (Zb (cn h (fun _ h2=>?_) (fun _ h3=>?_))))))))))))
 refine Za (Za (zg [48] 0 (Zb (cn h2 (fun _ h5=>?_) (fun _ h6=>?_)))))
 refine Za ?_
 cases h5
 exact Zd (Zb (Za (zg [2] 0 (Zb (Zf (Zk (er1 h6)))))))
 refine Zd (Zb (Za (Za ?_)))
 cases h3
theorem ZbG (a0:Zi) (r:Int) (h:M.Jv a0=some r):Fn Tryz.prog 123 [.agg (Zs a0)] (.pure (.int .i64 r)):=by
 unfold M.Jv at h
 refine ZC Tryz.func123 rfl (by kernel_rfl) (Za (zg [1] 1 (Zb (Za (Za ?_)))))
 obtain ⟨r1,q1,h2⟩:=bind_some h
 refine zr [1,10] 1 Zt (rq1 (Zd6 _ _ q1) rqn) (Zb (cn h2 (fun _ h4=>?_) (fun _ h5=>?_)))
 refine Za ?_
 cases h4
 refine Zd (Zb (Za (Za ?_)))
 obtain ⟨r2,q6,h7⟩:=bind_some h5
 refine zr [1,14] 1 Zt (rq1 (W7 _ _ _ _ q6) rqn) (Zb (cn h7 (fun _ h9=>?_) (fun _ h10=>?_)))
 refine Za ?_
 cases h9
 refine Zd (Zb (Za (zg [1,3] 1 (Zb (Za (Za (zg [1,16,17,18] 1 (Zb (Zg (ZjH (Uv (Za (zg [1,16,17,18,19] 1 (Zb (Za (cnd true (fun _=>(Zd (Zb (Za (Zg (Za ?_)))))) (fun b11=>Bool.noConfusion b11)))))))))))))))))
 obtain ⟨c12,h13⟩:=Zo h10
 refine zc [1,5,16,17,18] 1 c12 (Zb (Za ?_))
 obtain ⟨r3,q14,h15⟩:=bind_some h13
 refine zr [1,6,16,17,18] 1 Zt (rq1 (Rw _ _ q14) rqn) (Zb (Za (zg [1,6,16,17,18,26] 1 (Zb (cn h15 (fun _ h17=>?_) (fun _ h18=>?_))))))
 refine Za ?_
 cases h17
 refine Zd (XA (Zb (zg [1,16,17,18] 1 (Kr (Uv (Za (zg [1,16,17,18,19] 1 (Zb (Za (cnd true (fun _=>(Zd (Zb (Za (Zg (Za ?_)))))) (fun b19=>Bool.noConfusion b19)))))))))))
 obtain ⟨c20,h21⟩:=Zo h18
 refine zc [1,5,16,17,18] 1 c20 (Zb (Za ?_))
 obtain ⟨r4,q22,h23⟩:=bind_some h21
 refine zr [1,6,16,17,18] 1 Zt (rq1 (Rf _ _ q22) rqn) (Zb (Za (zg [1,6,16,17,18,26] 1 (Zb (cn h23 (fun _ h25=>?_) (fun _ h26=>?_))))))
 refine Za ?_
 cases h25
 refine Zd (XA (Zb (zg [1,16,17,18] 1 (Kr (Uv (Za (zg [1,16,17,18,19] 1 (Zb (Za (cnd true (fun _=>(Zd (Zb (Za (Zg (Za ?_)))))) (fun b27=>Bool.noConfusion b27)))))))))))
 obtain ⟨c28,h29⟩:=Zo h26
 refine zc [1,5,16,17,18] 1 c28 (Zb (Za ?_))
 obtain ⟨r5,q30,h31⟩:=bind_some h29
 refine zr [1,6,16,17,18] 1 Zt (rq1 (R3 _ _ q30) rqn) (Zb (Za (zg [1,6,16,17,18,26] 1 (Zb (cn h31 (fun _ h33=>?_) (fun _ h34=>?_))))))
 refine Za ?_
 cases h33
 refine Zd (XA (Zb (zg [1,16,17,18] 1 (Kr (Uv (Za (zg [1,16,17,18,19] 1 (Zb (Za (cnd true (fun _=>(Zd (Zb (Za (Zg (Za ?_)))))) (fun b35=>Bool.noConfusion b35)))))))))))
 obtain ⟨c36,h37⟩:=Zo h34
 refine zc [1,5,16,17,18] 1 c36 (Zb (Za ?_))
 obtain ⟨r6,q38,h39⟩:=bind_some h37
 refine zr [1,6,16,17,18] 1 Zt (rq1 (Zc7 _ _ q38) rqn) (Zb (Za (zg [1,6,16,17,18,26] 1 (Zb (cn h39 (fun _ h41=>?_) (fun _ h42=>?_))))))
 refine Za ?_
 cases h41
 refine Zd (XA (Zb (zg [1,16,17,18] 1 (Kr (Uv (Za (zg [1,16,17,18,19] 1 (Zb (Za (cnd true (fun _=>(Zd (Zb (Za (Zg (Za ?_)))))) (fun b43=>Bool.noConfusion b43)))))))))))
 obtain ⟨c44,h45⟩:=Zo h42
 refine zc [1,5,16,17,18] 1 c44 (Zb (Za ?_))
 obtain ⟨r7,q46,h47⟩:=bind_some h45
 refine zr [1,6,16,17,18] 1 Zt (rq1 (Zd7 _ _ q46) rqn) (Zb (Za (zg [1,6,16,17,18,26] 1 (Zb (cn h47 (fun _ h49=>?_) (fun _ h50=>?_))))))
 refine Za ?_
 cases h49
 refine Zd (XA (Zb (zg [1,16,17,18] 1 (Kr (Uv (Za (zg [1,16,17,18,19] 1 (Zb (Za (cnd true (fun _=>(Zd (Zb (Za (Zg (Za ?_)))))) (fun b51=>Bool.noConfusion b51)))))))))))
 obtain ⟨c52,h53⟩:=Zo h50
 refine zc [1,5,16,17,18] 1 c52 (Zb (Za ?_))
 obtain ⟨r8,q54,h55⟩:=bind_some h53
 refine zr [1,6,16,17,18] 1 Zt (rq1 (ZaQ _ _ q54) rqn) (Zb (Za (zg [1,6,16,17,18,26] 1 (Zb (cn h55 (fun _ h57=>?_) (fun _ h58=>?_))))))
 refine Za ?_
 cases h57
 refine Zd (XA (Zb (zg [1,16,17,18] 1 (Kr (Uv (Za (zg [1,16,17,18,19] 1 (Zb (Za (cnd true (fun _=>(Zd (Zb (Za (Zg (Za ?_)))))) (fun b59=>Bool.noConfusion b59)))))))))))
 obtain ⟨c60,h61⟩:=Zo h58
 refine zc [1,5,16,17,18] 1 c60 (Zb (Za ?_))
 obtain ⟨r9,q62,h63⟩:=bind_some h61
 refine zr [1,6,16,17,18] 1 Zt (rq1 (ZaR _ _ q62) rqn) (Zb (Za (zg [1,6,16,17,18,26] 1 (Zb (cn h63 (fun _ h65=>?_) (fun _ h66=>?_))))))
 refine Za ?_
 cases h65
 refine Zd (XA (Zb (zg [1,16,17,18] 1 (Kr (Uv (Za (zg [1,16,17,18,19] 1 (Zb (Za (cnd true (fun _=>(Zd (Zb (Za (Zg (Za ?_)))))) (fun b67=>Bool.noConfusion b67)))))))))))
 obtain ⟨c68,h69⟩:=Zo h66
 refine zc [1,5,16,17,18] 1 c68 (Zb (Za ?_))
 obtain ⟨r10,q70,h71⟩:=bind_some h69
 refine zr [1,6,16,17,18] 1 Zt (rq1 (R4 _ _ q70) rqn) (Zb (Za (zg [1,6,16,17,18,26] 1 (Zb (cn h71 (fun _ h73=>?_) (fun _ h74=>?_))))))
 refine Za ?_
 cases h73
 refine Zd (XA (Zb (zg [1,16,17,18] 1 (Kr (Uv (Za (zg [1,16,17,18,19] 1 (Zb (Za (cnd true (fun _=>(Zd (Zb (Za (Zg (Za ?_)))))) (fun b75=>Bool.noConfusion b75)))))))))))
 obtain ⟨c76,h77⟩:=Zo h74
 refine zc [1,5,16,17,18] 1 c76 (Zb (Za ?_))
 obtain ⟨r11,q78,h79⟩:=bind_some h77
 refine zr [1,6,16,17,18] 1 Zt (rq1 (KK _ _ q78) rqn) (Zb (Za (zg [1,6,16,17,18,26] 1 (Zb (cn h79 (fun _ h81=>?_) (fun _ h82=>?_))))))
 refine Za ?_
 cases h81
 refine Zd (XA (Zb (zg [1,16,17,18] 1 (Kr (Uv (Za (zg [1,16,17,18,19] 1 (Zb (Za (cnd true (fun _=>(Zd (Zb (Za (Zg (Za ?_)))))) (fun b83=>Bool.noConfusion b83)))))))))))
 obtain ⟨c84,h85⟩:=Zo h82
 refine zc [1,5,16,17,18] 1 c84 (Zb (Za ?_))
 obtain ⟨r12,q86,h87⟩:=bind_some h85
 refine zr [1,6,16,17,18] 1 Zt (rq1 (Rx _ _ q86) rqn) (Zb (Za (zg [1,6,16,17,18,26] 1 (Zb (cn h87 (fun _ h89=>?_) (fun _ h90=>?_))))))
 refine Za ?_
 cases h89
 exact Zd (XA (Zb (zg [1,16,17,18] 1 (Kr (Uv (Za (zg [1,16,17,18,19] 1 (Zb (Za (cnd false (fun b91=>Bool.noConfusion b91) (fun _=>(ZD (Xc (Znp (Qg (Zb (Za (zg [2] 0 (Zb (Zf (er1 h90)))))))))))))))))))))
theorem ZgK (a0:ZI) (r:Int) (h:M.Uf a0=some r):Fn Tryz.prog 98 [.agg (Yb a0)] (.pure (.int .i64 r)):=by
 let u1:Nat × D:=(13,sL 25 Zs a0.Ze)
 let u3:=(a0.Ze.length:Int)
 let u5:=Yb a0
 unfold M.Uf at h
 refine ZC Tryz.func98 rfl (by kernel_rfl) (Za (zg [1] 1 (Zb (Za (Za (zg [1,11] 1 (Zb (cn h (fun _ h2=>?_) (fun _ h3=>?_)))))))))
 refine Za ?_
 cases h2
 refine Zd (Zb (Za (Za (zg [1,13,14,15] 1 (Zb (Zg ?_))))))
 obtain ⟨y7,q27,h28⟩:=bind_some h3
 refine zl (fun (p1:Int)=>⟨46,[(1,.ref 0 0),u1,(14,.int .i64 u3),(15,.int .i64 p1)],[.box u5]⟩) (fun z=>OutE 0 (fun z=>⟨46,[],[]⟩) z) q27 ?_ ?_
 intro p1 y2 h4
 let u2:List Ob:=[.box u5,.box (Zs (a0.Ze.getD p1.toNat default))]
 let u4:Nat × D:=(28,sL 25 Zs ((a0.Ze.drop 0).take (p1.toNat - 0)))
 unfold M.Wy at h4
 refine Za (zg [1,13,14,15,16] 1 (Zb (Za (cn h4 (fun _ h6=>?_) (fun _ h7=>?_)))))
 refine Zd (Zb (Za (Zg (Za ?_))))
 obtain ⟨c8,h9⟩:=Zo h6
 refine zc [1,3,4,13,14,15] 2 c8 (Zb (Za (Za ?_)))
 obtain ⟨r3,q10,h11⟩:=bind_some h9
 refine zr [1,3,4,5,13,14,15] 2 Zt (rq1 (ZbG _ _ q10) rqn) (Zb (Za (zg [1,3,4,5,13,14,15,23] 2 (Zb (cn h11 (fun _ h13=>?_) (fun _ h14=>?_))))))
 refine Za ?_
 cases h13
 refine Zd (Zb (Za ?_))
 obtain ⟨c15,h16⟩:=Zo h14
 refine rgc [1,4,13,14,15,28,29,30] 2 ⟨46,[(1,.ref 0 0),(4,.ref 1 0),u1,(14,.int .i64 u3),(15,.int .i64 p1),(28,.sl false 25 (p1.toNat - 0) (fun i=>Zs (a0.Ze.getD (0+i) default))),(29,.int .i64 ((p1.toNat - 0:Nat):Int)),(30,.int .i64 0)],u2⟩ [decide (0≤p1),decide (p1≤u3)] c15 (ZZ (s':=⟨46,[(1,.ref 0 0),(4,.ref 1 0),u1,(14,.int .i64 u3),(15,.int .i64 p1),u4,(29,.int .i64 ((p1.toNat - 0:Nat):Int)),(30,.int .i64 0)],u2⟩) (QU (.cons Sub.rfl (.cons Sub.rfl (.cons Sub.rfl (.cons Sub.rfl (.cons Sub.rfl (.cons (Gs (Ks _ _ _ (ZcQ (c15 _ (List.mem_cons_of_mem _ List.mem_cons_self)))) (ZdA _ _ _ _)) (.cons Sub.rfl (.cons Sub.rfl .nil)))))))) (.cons .rfl (.cons .rfl .nil))) (Zg ?_))
 obtain ⟨y6,q21,h22⟩:=bind_some h16
 refine zl (fun (p4:Int)=>⟨46,[(1,.ref 0 0),(4,.ref 1 0),u1,(14,.int .i64 u3),(15,.int .i64 p1),u4,(29,.int .i64 ((p1.toNat - 0:Nat):Int)),(30,.int .i64 p4)],u2⟩) (fun z=>OutE 2 (fun z=>⟨46,[(1,.ref 0 0),u1,(14,.int .i64 u3),(15,.int .i64 p1)],[.box u5]⟩) z) q21 ?_ ?_
 intro p4 y5 h17
 unfold M.Wx at h17
 refine Za (zg [1,4,13,14,15,28,29,30,31] 2 (Zb (Za (cn h17 (fun _ h19=>?_) (fun _ h20=>?_)))))
 refine Zd (Zb (Za (Zg (Za ?_))))
 cases h19
 exact ZD (Xc (re h20 ⟨rfl,kc⟩))
 intro e23 s24 o25
 obtain ⟨rfl,l26⟩:=o25
 exact Qg (XA (ZZ (s':=⟨46,[(1,.ref 0 0),u1,(14,.int .i64 u3),(15,.int .i64 p1)],[.box u5]⟩) (l26) (zg [1,13,14,15] 1 (rn h22))))
 exact ZD (Xc (re h7 ⟨rfl,kc⟩))
 intro e29 s30 o31
 exact zi o31 (Za (zg [2] 0 (Zb (Zf (er1 h28)))))
theorem Zfr (a0:Int) (a1:Int) (r:ZL) (h:M.WJ a0 a1=some r):Fn Tryz.prog 125 [.int .u32 a0,.int .i64 a1] (.pure (.agg (Xd r))):=by
 unfold M.WJ at h
 refine ZC Tryz.func125 rfl (by kernel_rfl) (Za (zg [0,1,4] 1 (Zb (Za ?_))))
 obtain ⟨r1,q1,h2⟩:=bind_some h
 obtain ⟨r2,q3,h4⟩:=bind_some h2
 refine zr [4] 1 Zt (rq1 (Zaq _ _ q1) (rq1 (ZcB _ _ q3) rqn)) (Zb (Zf ?_))
 obtain rfl:=Option.some.inj h4
 exact er0 (.agg [.int .u32 (bitD .and .u32 a0 r1),.int .i64 r2])
end Nv
