/- The walks: each function computes its mirror. -/
import Derived.Test.YtaienbkgekjdnaaGreatProg
import Derived.Test.YtaienbkgekjdnaaGreatNvD1
import Derived.Test.YtaienbkgekjdnaaGreatNvLibC
import Derived.Test.YtaienbkgekjdnaaGreatNvLibB
import Derived.KernelRfl
import Derived.Ground.SlsfProg
import Derived.Shelf.Lay
import Derived.Test.YtaienbkgekjdnaaGreatNvLibD
import Derived.Test.YtaienbkgekjdnaaGreatNvLibE
set_option maxRecDepth 100000
namespace Nv
open Go Go.Proofs
theorem Zgs (a0:Zf) (r:Bool) (h:M.VW a0=some r):Fn Tryz.prog 36 [.agg (ZB a0)] (.pure (.bool r)):=by
 let u1:List Ob:=[.box (ZB a0)]
 let u2:St:=⟨141,[(1,.ref 0 0)],u1⟩
 unfold M.VW at h
 refine ZT Tryz.func36 rfl (by kernel_rfl) (Za (zg [1] 1 (Zb (Za (Za (zg [1,95] 1 (Zb (cn h (fun _ h2=>?_) (fun _ h3=>?_)))))))))
 exact Za (zg [2] 0 (Zb (Zg (Zh (er1 h2)))))
 refine Ze (Zb (Za (Za (zg [1,3] 1 (Zb (Zj ?_))))))
 obtain ⟨y3,q13,h14⟩:=bind_some h3
 refine zl (fun (p1:Int)=>⟨141,[(1,.ref 0 0),(3,.int .i64 p1)],u1⟩) (Sum.elim (fun z=>OutE 0 (fun z=>u2) z) (fun z=>OutR Tryz.prog Tryz.f36 (.bool z))) q13 ?_ ?_
 intro p1 y2 h4
 unfold M.WB at h4
 refine Za (Za (zg [1,3,100] 1 (Zb (cn h4 (fun _ h6=>?_) (fun _ h7=>?_)))))
 refine Ze (Zb (Za (Zj (Za ?_))))
 obtain ⟨c8,h9⟩:=Zy h6
 refine zc [1,3,110] 1 c8 (Zb (cn h9 (fun _ h11=>?_) (fun _ h12=>?_)))
 exact Za (zg [2] 0 (Zb (Zg (ZE (Zh (rr h11 ⟨rfl,er0 _⟩))))))
 exact Ze (XO (Zb (zg [1,3] 1 (rn h12))))
 exact ZX (XC (re h7 ⟨rfl,kq⟩))
 intro e15 s16 o17
 rcases y3 with g4 | y5
 have h18:=XY h14
 refine zi o17 (Za (Za (zg [1,4] 1 (Zb (Zj ?_)))))
 obtain ⟨y8,q30,h31⟩:=bind_some h18
 refine zl (fun (p6:Int)=>⟨141,[(1,.ref 0 0),(4,.int .i64 p6)],u1⟩) (Sum.elim (fun z=>OutE 2 (fun z=>u2) z) (fun z=>OutR Tryz.prog Tryz.f36 (.bool z))) q30 ?_ ?_
 intro p6 y7 h21
 unfold M.WC at h21
 refine Za (Za (zg [1,4,115] 1 (Zb (cn h21 (fun _ h23=>?_) (fun _ h24=>?_)))))
 refine Ze (Zb (Za (Zj (Za ?_))))
 obtain ⟨c25,h26⟩:=Zy h23
 refine zc [1,4,125] 1 c25 (Zb (cn h26 (fun _ h28=>?_) (fun _ h29=>?_)))
 exact Za (zg [2] 0 (Zb (Zg (ZE (Zh (rr h28 ⟨rfl,er0 _⟩))))))
 exact Ze (XO (Zb (zg [1,4] 1 (rn h29))))
 exact ZX (XC (re h24 ⟨rfl,kq⟩))
 intro e32 s33 o34
 rcases y8 with g9 | y10
 have h35:=XY h31
 refine zi o34 (Za (Za (zg [1,5] 1 (Zb (Zj ?_)))))
 obtain ⟨y13,q47,h48⟩:=bind_some h35
 refine zl (fun (p11:Int)=>⟨141,[(1,.ref 0 0),(5,.int .i64 p11)],u1⟩) (Sum.elim (fun z=>OutE 4 (fun z=>⟨141,[],[]⟩) z) (fun z=>OutR Tryz.prog Tryz.f36 (.bool z))) q47 ?_ ?_
 intro p11 y12 h38
 unfold M.WD at h38
 refine Za (Za (zg [1,5,130] 1 (Zb (cn h38 (fun _ h40=>?_) (fun _ h41=>?_)))))
 refine Ze (Zb (Za (Zj (Za ?_))))
 obtain ⟨c42,h43⟩:=Zy h40
 refine zc [1,5,140] 1 c42 (Zb (cn h43 (fun _ h45=>?_) (fun _ h46=>?_)))
 exact Za (zg [2] 0 (Zb (Zg (ZE (Zh (rr h45 ⟨rfl,er0 _⟩))))))
 exact Ze (XO (Zb (zg [1,5] 1 (rn h46))))
 exact ZX (XC (re h41 ⟨rfl,kc⟩))
 intro e49 s50 o51
 rcases y13 with g14 | y15
 have h52:=XY h48
 exact zi o51 (Za (zg [2] 0 (Zb (Zg (er1 h52)))))
 have h53:=XZ h48
 obtain ⟨rfl,n55⟩:=o51
 refine ZE (Zh ?_)
 obtain rfl:=Option.some.inj h53
 exact n55
 have h36:=XZ h31
 obtain ⟨rfl,n56⟩:=o34
 refine ZE (Zh ?_)
 obtain rfl:=Option.some.inj h36
 exact n56
 have h19:=XZ h14
 obtain ⟨rfl,n57⟩:=o17
 refine ZE (Zh ?_)
 obtain rfl:=Option.some.inj h19
 exact n57
theorem Zf8 (a0:ZP) (r:Bool) (h:M.VA a0=some r):Fn Tryz.prog 11 [.agg (Yn a0)] (.pure (.bool r)):=by
 unfold M.VA at h
 refine ZT Tryz.func11 rfl (by kernel_rfl) (Za (zg [1] 1 (Zb (Za (Za (zg [1,7] 1 (Zb (cn h (fun _ h2=>?_) (fun _ h3=>?_)))))))))
 exact Za (zg [2] 0 (Zb (Zg (Zh (er1 h2)))))
 refine Ze (Zb (Za (Za (zg [1,3] 1 (Zb (Zj ?_))))))
 obtain ⟨y4,q15,h16⟩:=bind_some h3
 refine zl (fun (p1:Int)=>⟨22,[(1,.ref 0 0),(3,.int .i64 p1)],[.box (Yn a0)]⟩) (Sum.elim (fun z=>OutE 0 (fun z=>⟨22,[],[]⟩) z) (fun z=>OutR Tryz.prog Tryz.f11 (.bool z))) q15 ?_ ?_
 intro p1 y2 h4
 unfold M.Y1 at h4
 refine Za (Za (zg [1,3,12] 1 (Zb (cn h4 (fun _ h6=>?_) (fun _ h7=>?_)))))
 refine Ze (Zb (Za (Zj (Za ?_))))
 obtain ⟨r3,q8,h9⟩:=bind_some h6
 obtain ⟨c10,h11⟩:=Zy h9
 refine zr [1,3,21] 1 c10 (rq1 (Zgs _ _ q8) rqn) (Zb (cn h11 (fun _ h13=>?_) (fun _ h14=>?_)))
 exact Za (zg [2] 0 (Zb (Zg (ZE (Zh (rr h13 ⟨rfl,er0 _⟩))))))
 exact Ze (XO (Zb (zg [1,3] 1 (rn h14))))
 exact ZX (XC (re h7 ⟨rfl,kc⟩))
 intro e17 s18 o19
 rcases y4 with g5 | y6
 have h20:=XY h16
 exact zi o19 (Za (zg [2] 0 (Zb (Zg (er1 h20)))))
 have h21:=XZ h16
 obtain ⟨rfl,n23⟩:=o19
 refine ZE (Zh ?_)
 obtain rfl:=Option.some.inj h21
 exact n23
theorem ZbE (a0:Int) (r:Bool) (h:M.VB a0=some r):Fn Tryz.prog 153 [.int .u8 a0] (.pure (.bool r)):=by
 unfold M.VB at h
 exact ZT Tryz.func153 rfl (by kernel_rfl) (Za (zg [0] 0 (Zb (Za (zg [2] 0 (Zb (Zg (er1 h))))))))
theorem Kg (a0:ByteArray) (r:Bool) (h:M.Jo a0=some r):Fn Tryz.prog 101 [.str a0] (.pure (.bool r)):=by
 unfold M.Jo at h
 refine ZT Tryz.func101 rfl (by kernel_rfl) (Za (zg [0] 0 (Zb (Za (Za ?_)))))
 obtain ⟨r1,q1,h2⟩:=bind_some h
 obtain ⟨c3,h4⟩:=Zy h2
 refine zr [0,18] 0 c3 (rq2 (fun hg=>ZbE _ _ (Xn q1 hg)) rqn) (Zb (cn h4 (fun _ h6=>?_) (fun _ h7=>?_)))
 exact Za (zg [2] 0 (Zb (Zg (Zh (er1 h6)))))
 refine Ze (Zb (Za (Za (zg [0,3] 0 (Zb (Zj ?_))))))
 obtain ⟨y5,q19,h20⟩:=bind_some h7
 refine zl (fun (p2:Int)=>⟨56,[(0,.str a0),(3,.int .i64 p2)],[]⟩) (Sum.elim (fun z=>OutE 0 (fun z=>⟨56,[],[]⟩) z) (fun z=>OutR Tryz.prog Tryz.f101 (.bool z))) q19 ?_ ?_
 intro p2 y3 h8
 unfold M.Wi at h8
 refine Za (Za (zg [0,3,22] 0 (Zb (cn h8 (fun _ h10=>?_) (fun _ h11=>?_)))))
 refine Ze (Zb (Za (Zj (Za ?_))))
 obtain ⟨c12,h13⟩:=Zy h10
 refine zc [0,3,4] 0 c12 (Zb (Za ?_))
 obtain ⟨r4,q14,h15⟩:=bind_some h13
 refine zr [0,3,55] 0 Zz (rq1 (ZbE _ _ q14) rqn) (Zb (cn h15 (fun _ h17=>?_) (fun _ h18=>?_)))
 exact Za (zg [2] 0 (Zb (Zg (ZE (Zh (rr h17 ⟨rfl,er0 _⟩))))))
 exact Ze (XO (Zb (zg [0,3] 0 (rn h18))))
 exact ZX (XC (re h11 ⟨rfl,kq⟩))
 intro e21 s22 o23
 rcases y5 with g6 | y7
 have h24:=XY h20
 exact zi o23 (Za (zg [2] 0 (Zb (Zg (er1 h24)))))
 have h25:=XZ h20
 obtain ⟨rfl,n27⟩:=o23
 refine ZE (Zh ?_)
 obtain rfl:=Option.some.inj h25
 exact n27
theorem X4 (a0:Int) (a1:Int) (a2:Int) (r:Bool) (h:M.ZC a0 a1 a2=some r):Fn Tryz.prog 102 [.int .i64 a0,.int .i64 a1,.int .i64 a2] (.pure (.bool r)):=by
 unfold M.ZC at h
 exact ZT Tryz.func102 rfl (by kernel_rfl) (Za (zg [0,1,2] 0 (Zb (Za (zg [6] 0 (Zb (Zg (er1 h))))))))
theorem ZaC (a0:Int) (r:Int) (h:M.VI a0=some r):Fn Tryz.prog 67 [.int .i64 a0] (.pure (.int .u32 r)):=by
 unfold M.VI at h
 refine ZT Tryz.func67 rfl (by kernel_rfl) (Za (zg [0] 0 (Zb (Za (zg [0,3] 0 (Zb (Za (Za (zg [0,3,4] 0 (Zb (Zj ?_)))))))))))
 obtain ⟨y4,q12,h13⟩:=bind_some h
 refine zl (fun (p1:Int × Int)=>⟨19,[(0,.int .i64 a0),(3,.int .u32 p1.1),(4,.int .i64 p1.2)],[]⟩) (fun z=>OutE 0 (fun z=>⟨19,[(3,.int .u32 z)],[]⟩) z) q12 ?_ ?_
 intro p1 y2 h1
 unfold M.UR at h1
 refine Za (Za (rg0 [0,3,4,6] 0 ⟨19,[(0,.int .i64 a0),(3,.int .u32 p1.1),(4,.int .i64 p1.2),(6,.bool (decide (p1.2 < 32)))],[]⟩ (Zb (cn h1 (fun _ h3=>?_) (fun _ h4=>?_)))))
 refine Ze (Zb (Uh (fun (p3:Int)=>⟨19,[(0,.int .i64 a0),(3,.int .u32 p3),(4,.int .i64 p1.2)],[]⟩) (fun p3=>M.Kc p1 p3=some y2) ?_ ?_))
 intro p3 h6
 unfold M.Kc at h6
 exact zg [0,3,4] 0 (rn h6)
 intro k5
 refine Zj (Za (zg [0,3,4,11] 0 (Zb (cn h3 (fun _ h8=>?_) (fun _ h9=>?_)))))
 obtain ⟨c10,h11⟩:=Zy h8
 exact zc [0,3,4] 0 c10 (XO (XD lk (k5 (bitD .or .u32 p1.1 (wr .u32 (1*2 ^ min (wr .u64 (wr .i64 (31 - p1.2))).toNat 32))) h11)))
 exact Ze (XO (XD kq (k5 p1.1 h9)))
 exact ZX (XC (re h4 ⟨rfl,kq⟩))
 intro e14 s15 o16
 exact zi o16 (Za (zg [2] 0 (Zb (Zg (er1 h13)))))
theorem KC (a0:Int) (a1:Int) (r:ZO) (h:M.Q6 a0 a1=some r):Fn Tryz.prog 45 [.int .u32 a0,.int .i64 a1] (.pure (.agg (Z7 r))):=by
 unfold M.Q6 at h
 refine ZT Tryz.func45 rfl (by kernel_rfl) (Za (zg [0,1,4] 1 (Zb (Za (zg [0,1,4] 1 (Zb (Za ?_)))))))
 obtain ⟨r1,q1,h2⟩:=bind_some h
 refine zr [4] 1 Zz (rq1 (ZaC _ _ q1) rqn) (Zb (Zg ?_))
 obtain rfl:=Option.some.inj h2
 exact er0 (.agg [.int .u32 (bitD .and .u32 a0 r1),.int .i64 (if 0 > (if 32 < a1 then 32 else a1) then 0 else (if 32 < a1 then 32 else a1))])
theorem Zer (a0:ZO) (a1:Int) (r:Bool) (h:M.WE a0 a1=some r):Fn Tryz.prog 181 [.agg (Z7 a0),.int .u32 a1] (.pure (.bool r)):=by
 unfold M.WE at h
 refine ZT Tryz.func181 rfl (by kernel_rfl) (Za (zg [1,2] 1 (Zb (Za ?_))))
 obtain ⟨r1,q1,h2⟩:=bind_some h
 exact zr [4] 0 Zz (rq1 (ZaC _ _ q1) rqn) (Zb (Zg (er1 h2)))
theorem ZbF (a0:ZO) (a1:ZO) (r:Bool) (h:M.WI a0 a1=some r):Fn Tryz.prog 175 [.agg (Z7 a0),.agg (Z7 a1)] (.pure (.bool r)):=by
 unfold M.WI at h
 refine ZT Tryz.func175 rfl (by kernel_rfl) (Za (zg [2,3] 2 (Zb (Za ?_))))
 obtain ⟨r1,q1,h2⟩:=bind_some h
 exact zr [4] 0 Zz (rq2 (fun hg=>Zer _ _ _ (Xn q1 hg)) rqn) (Zb (Zg (er1 h2)))
theorem R8 (a0:ZO) (a1:ZO) (r:Bool) (h:M.Vi a0 a1=some r):Fn Tryz.prog 154 [.agg (Z7 a0),.agg (Z7 a1)] (.pure (.bool r)):=by
 unfold M.Vi at h
 refine ZT Tryz.func154 rfl (by kernel_rfl) (Za (zg [2,3] 2 (Zb (Za ?_))))
 obtain ⟨r1,q1,h2⟩:=bind_some h
 obtain ⟨r2,q3,h4⟩:=bind_some h2
 exact zr [4] 0 Zz (rq1 (ZbF _ _ _ q1) (rq2 (fun hg=>ZbF _ _ _ (Xn q3 hg)) rqn)) (Zb (Zg (er1 h4)))
theorem Zdf (a0:List Zx) (r:Int) (h:M.Js a0=some r):Fn Tryz.prog 103 [sL 12 Zm a0] (.pure (.int .i64 r)):=by
 let u1:Nat × D:=(0,sL 12 Zm a0)
 unfold M.Js at h
 refine ZT Tryz.func103 rfl (by kernel_rfl) (Za (zg [0] 0 (Zb (Za (Za (zg [0,9] 0 (Zb (cn h (fun _ h2=>?_) (fun _ h3=>?_)))))))))
 exact Za (zg [2] 0 (Zb (Zg (Zh (er1 h2)))))
 refine Ze (Zb (Za (Za (zg [0,3] 0 (Zb (Zj ?_))))))
 obtain ⟨y22,q76,h77⟩:=bind_some h3
 refine zl (fun (p1:Int)=>⟨163,[u1,(3,.int .i64 p1)],[]⟩) (Sum.elim (fun z=>OutE 0 (fun z=>⟨163,[],[]⟩) z) (fun z=>OutR Tryz.prog Tryz.f103 (.int .i64 z))) q76 ?_ ?_
 intro p1 y2 h4
 let u2:List Ob:=[.box (Zm (a0.getD p1.toNat default))]
 unfold M.QH at h4
 refine Za (Za (zg [0,3,13] 0 (Zb (cn h4 (fun _ h6=>?_) (fun _ h7=>?_)))))
 refine Ze (Zb (Za (Zj (Za ?_))))
 obtain ⟨c8,h9⟩:=Zy h6
 refine zc [0,3,4] 1 c8 (Zb (Za (Za ?_)))
 obtain ⟨r3,q10,h11⟩:=bind_some h9
 refine zr [0,3,4,23] 1 Zz (rq1 (Kg _ _ q10) rqn) (Zb (cn h11 (fun _ h13=>?_) (fun _ h14=>?_)))
 exact Za (zg [2] 0 (Zb (Zg (Zh (ZE (Zh (rr h13 ⟨rfl,er0 _⟩)))))))
 refine Ze (Zb (Za (Za (zg [0,3,4,5] 1 (Zb (Zj ?_))))))
 obtain ⟨y6,q24,h25⟩:=bind_some h14
 refine zl (fun (p4:Int)=>⟨163,[u1,(3,.int .i64 p1),(4,.ref 0 0),(5,.int .i64 p4)],u2⟩) (Sum.elim (fun z=>OutE 2 (fun z=>⟨163,[u1,(3,.int .i64 p1),(4,.ref 0 0)],u2⟩) z) (fun z=>OutR Tryz.prog Tryz.f103 (.int .i64 z))) q24 ?_ ?_
 intro p4 y5 h15
 unfold M.Jk at h15
 refine Za (Za (zg [0,3,4,5,26] 1 (Zb (cn h15 (fun _ h17=>?_) (fun _ h18=>?_)))))
 refine Ze (Zb (Za (Zj (Za ?_))))
 obtain ⟨c19,h20⟩:=Zy h17
 refine zc [0,3,4,5,36] 1 c19 (Zb (cn h20 (fun _ h22=>?_) (fun _ h23=>?_)))
 exact Za (zg [2] 0 (Zb (Zg (ZE (Zh (rr h22 ⟨rfl,er0 _⟩))))))
 exact Ze (XO (Zb (zg [0,3,4,5] 1 (rn h23))))
 exact ZX (XC (re h18 ⟨rfl,kq⟩))
 intro e26 s27 o28
 rcases y6 with g7 | y8
 have h29:=XY h25
 refine zi o28 (Za (Za ?_))
 obtain ⟨r9,q32,h33⟩:=bind_some h29
 obtain ⟨r10,q34,h35⟩:=bind_some h33
 obtain ⟨r11,q36,h37⟩:=bind_some h35
 refine zr [0,3,4,52] 1 Zz (rq1 (X4 _ _ _ _ q32) (rq2 (fun hg=>X4 _ _ _ _ (Xn q34 hg)) (rq2 (fun hg=>X4 _ _ _ _ (Xn q36 hg)) rqn))) (Zb (cn h37 (fun _ h39=>?_) (fun _ h40=>?_)))
 exact Za (zg [2] 0 (Zb (Zg (Zh (ZE (Zh (rr h39 ⟨rfl,er0 _⟩)))))))
 refine Ze (Zb (Za (Za (zg [0,3,4,98] 1 (Zb (cn h40 (fun _ h42=>?_) (fun _ h43=>?_)))))))
 exact Za (zg [2] 0 (Zb (Zg (Zh (ZE (Zh (rr h42 ⟨rfl,er0 _⟩)))))))
 refine Ze (Zb (Za (Za ?_)))
 obtain ⟨r12,q44,h45⟩:=bind_some h43
 obtain ⟨r13,q46,h47⟩:=bind_some h45
 refine zr [0,3,4,127] 1 Zz (rq2 (fun hg=>X4 _ _ _ _ (Xn q44 hg)) (rq2 (fun hg=>X4 _ _ _ _ (Xn q46 hg)) rqn)) (Zb (cn h47 (fun _ h49=>?_) (fun _ h50=>?_)))
 exact Za (zg [2] 0 (Zb (Zg (Zh (ZE (Zh (rr h49 ⟨rfl,er0 _⟩)))))))
 refine Ze (Zb (Za (zg [0,3,4,6] 1 (Zb (Zj ?_)))))
 obtain ⟨y19,q66,h67⟩:=bind_some h50
 refine zl (fun (p14:Int)=>⟨163,[u1,(3,.int .i64 p1),(4,.ref 0 0),(6,.int .i64 p14)],u2⟩) (Sum.elim (fun z=>OutE 4 (fun z=>⟨163,[u1,(3,.int .i64 p1)],[]⟩) z) (fun z=>OutR Tryz.prog Tryz.f103 (.int .i64 z))) q66 ?_ ?_
 intro p14 y15 h51
 unfold M.Qk at h51
 refine Za (Za (zg [0,3,4,6,130] 1 (Zb (cn h51 (fun _ h53=>?_) (fun _ h54=>?_)))))
 refine Ze (Zb (Za (Zj (Za ?_))))
 obtain ⟨r16,q55,h56⟩:=bind_some h53
 obtain ⟨r17,q57,h58⟩:=bind_some h56
 obtain ⟨r18,q59,h60⟩:=bind_some h58
 obtain ⟨c61,h62⟩:=Zy h60
 refine zr [0,3,4,6,162] 1 c61 (rq2 (fun hg=>KC _ _ _ (Xn q55 hg)) (rq2 (fun hg=>KC _ _ _ (Xn q57 hg)) (rq2 (fun hg=>R8 _ _ _ (Xn q59 hg)) rqn))) (Zb (cn h62 (fun _ h64=>?_) (fun _ h65=>?_)))
 exact Za (zg [2] 0 (Zb (Zg (ZE (Zh (rr h64 ⟨rfl,er0 _⟩))))))
 exact Ze (XO (Zb (zg [0,3,4,6] 1 (rn h65))))
 exact ZX (XC (re h54 ⟨rfl,kc⟩))
 intro e68 s69 o70
 rcases y19 with g20 | y21
 have h71:=XY h67
 obtain ⟨rfl,l73⟩:=o70
 exact Y0 (XO (XD (s':=⟨163,[u1,(3,.int .i64 p1)],[]⟩) (l73) (zg [0,3] 0 (rn h71))))
 have h72:=XZ h67
 obtain ⟨rfl,n74⟩:=o70
 exact ZE (ZE (Zh (rr h72 ⟨rfl,n74⟩)))
 have h30:=XZ h25
 obtain ⟨rfl,n75⟩:=o28
 exact ZE (Zh (ZE (Zh (rr h30 ⟨rfl,n75⟩))))
 exact ZX (XC (re h7 ⟨rfl,kq⟩))
 intro e78 s79 o80
 rcases y22 with g23 | y24
 have h81:=XY h77
 exact zi o80 (Za (zg [2] 0 (Zb (Zg (er1 h81)))))
 have h82:=XZ h77
 obtain ⟨rfl,n84⟩:=o80
 refine ZE (Zh ?_)
 obtain rfl:=Option.some.inj h82
 exact n84
theorem Uv (a0:ZO) (r:Bool) (h:M.YU a0=some r):Fn Tryz.prog 159 [.agg (Z7 a0)] (.pure (.bool r)):=by
 unfold M.YU at h
 refine ZT Tryz.func159 rfl (by kernel_rfl) (Za (zg [1] 1 (Zb (Za ?_))))
 obtain ⟨r1,q1,h2⟩:=bind_some h
 exact zr [2] 0 Zz (rq2 (fun hg=>ZaC _ _ (Xn q1 hg)) rqn) (Zb (Zg (er1 h2)))
theorem R9 (a0:Vy) (r:Bool) (h:M.Qu a0=some r):Fn Tryz.prog 155 [.agg (Vh a0)] (.pure (.bool r)):=by
 unfold M.Qu at h
 refine ZT Tryz.func155 rfl (by kernel_rfl) (Za (zg [1] 1 (Zb (Za ?_))))
 obtain ⟨r1,q1,h2⟩:=bind_some h
 exact zr [2] 0 Zz (rq1 (Uv _ _ q1) rqn) (Zb (Zg (er1 h2)))
theorem Zcr (a0:List ZD) (r:Int) (h:M.QY a0=some r):Fn Tryz.prog 104 [sL 2 Zu a0] (.pure (.int .i64 r)):=by
 let u1:Nat × D:=(0,sL 2 Zu a0)
 unfold M.QY at h
 refine ZT Tryz.func104 rfl (by kernel_rfl) (Za (zg [0] 0 (Zb (Za (Za (zg [0,8] 0 (Zb (cn h (fun _ h2=>?_) (fun _ h3=>?_)))))))))
 exact Za (zg [2] 0 (Zb (Zg (Zh (er1 h2)))))
 refine Ze (Zb (Za (Za (zg [0,3] 0 (Zb (Zj ?_))))))
 obtain ⟨y15,q65,h66⟩:=bind_some h3
 refine zl (fun (p1:Int)=>⟨72,[u1,(3,.int .i64 p1)],[]⟩) (Sum.elim (fun z=>OutE 0 (fun z=>⟨72,[],[]⟩) z) (fun z=>OutR Tryz.prog Tryz.f104 (.int .i64 z))) q65 ?_ ?_
 intro p1 y2 h4
 unfold M.Qo at h4
 refine Za (Za (zg [0,3,12] 0 (Zb (cn h4 (fun _ h6=>?_) (fun _ h7=>?_)))))
 refine Ze (Zb (Za (Zj (Za (Za ?_)))))
 obtain ⟨r3,q8,h9⟩:=bind_some h6
 obtain ⟨c10,h11⟩:=Zy h9
 refine zr [0,3,21] 0 c10 (rq1 (Kg _ _ q8) rqn) (Zb (cn h11 (fun _ h13=>?_) (fun _ h14=>?_)))
 exact Za (zg [2] 0 (Zb (Zg (Zh (ZE (Zh (rr h13 ⟨rfl,er0 _⟩)))))))
 refine Ze (Zb (Za (Za (zg [0,3,4] 0 (Zb (Zj ?_))))))
 obtain ⟨y6,q24,h25⟩:=bind_some h14
 refine zl (fun (p4:Int)=>⟨72,[u1,(3,.int .i64 p1),(4,.int .i64 p4)],[]⟩) (Sum.elim (fun z=>OutE 2 (fun z=>⟨72,[u1,(3,.int .i64 p1)],[]⟩) z) (fun z=>OutR Tryz.prog Tryz.f104 (.int .i64 z))) q24 ?_ ?_
 intro p4 y5 h15
 unfold M.QU at h15
 refine Za (Za (zg [0,3,4,24] 0 (Zb (cn h15 (fun _ h17=>?_) (fun _ h18=>?_)))))
 refine Ze (Zb (Za (Zj (Za ?_))))
 obtain ⟨c19,h20⟩:=Zy h17
 refine zc [0,3,4,37] 0 c19 (Zb (cn h20 (fun _ h22=>?_) (fun _ h23=>?_)))
 exact Za (zg [2] 0 (Zb (Zg (ZE (Zh (rr h22 ⟨rfl,er0 _⟩))))))
 exact Ze (XO (Zb (zg [0,3,4] 0 (rn h23))))
 exact ZX (XC (re h18 ⟨rfl,kq⟩))
 intro e26 s27 o28
 rcases y6 with g7 | y8
 have h29:=XY h25
 refine zi o28 (Za (Za ?_))
 obtain ⟨c32,h33⟩:=Zy h29
 refine zc [0,3,44] 0 c32 (Zb (cn h33 (fun _ h35=>?_) (fun _ h36=>?_)))
 exact Za (zg [2] 0 (Zb (Zg (Zh (ZE (Zh (rr h35 ⟨rfl,er0 _⟩)))))))
 refine Ze (Zb (Za (Za ?_)))
 obtain ⟨c37,h38⟩:=Zy h36
 refine zc [0,3,51] 0 c37 (Zb (cn h38 (fun _ h40=>?_) (fun _ h41=>?_)))
 exact Za (zg [2] 0 (Zb (Zg (Zh (ZE (Zh (rr h40 ⟨rfl,er0 _⟩)))))))
 refine Ze (Zb (Za (zg [0,3,5] 0 (Zb (Zj ?_)))))
 obtain ⟨y12,q55,h56⟩:=bind_some h41
 refine zl (fun (p9:Int)=>⟨72,[u1,(3,.int .i64 p1),(5,.int .i64 p9)],[]⟩) (Sum.elim (fun z=>OutE 4 (fun z=>⟨72,[u1,(3,.int .i64 p1)],[]⟩) z) (fun z=>OutR Tryz.prog Tryz.f104 (.int .i64 z))) q55 ?_ ?_
 intro p9 y10 h42
 unfold M.Qn at h42
 refine Za (Za ?_)
 obtain ⟨c43,h44⟩:=Zy h42
 refine zc [0,3,5,59] 0 c43 (Zb (cn h44 (fun _ h46=>?_) (fun _ h47=>?_)))
 refine Ze (Zb (Za (Zj (Za ?_))))
 obtain ⟨r11,q48,h49⟩:=bind_some h46
 obtain ⟨c50,h51⟩:=Zy h49
 refine zr [0,3,5,71] 0 c50 (rq1 (R9 _ _ q48) rqn) (Zb (cn h51 (fun _ h53=>?_) (fun _ h54=>?_)))
 exact Za (zg [2] 0 (Zb (Zg (ZE (Zh (rr h53 ⟨rfl,er0 _⟩))))))
 exact Ze (XO (Zb (zg [0,3,5] 0 (rn h54))))
 exact ZX (XC (re h47 ⟨rfl,kq⟩))
 intro e57 s58 o59
 rcases y12 with g13 | y14
 have h60:=XY h56
 obtain ⟨rfl,l62⟩:=o59
 exact Y0 (XO (XD (s':=⟨72,[u1,(3,.int .i64 p1)],[]⟩) (l62) (zg [0,3] 0 (rn h60))))
 have h61:=XZ h56
 obtain ⟨rfl,n63⟩:=o59
 exact ZE (ZE (Zh (rr h61 ⟨rfl,n63⟩)))
 have h30:=XZ h25
 obtain ⟨rfl,n64⟩:=o28
 exact ZE (Zh (ZE (Zh (rr h30 ⟨rfl,n64⟩))))
 exact ZX (XC (re h7 ⟨rfl,kq⟩))
 intro e67 s68 o69
 rcases y15 with g16 | y17
 have h70:=XY h66
 exact zi o69 (Za (zg [2] 0 (Zb (Zg (er1 h70)))))
 have h71:=XZ h66
 obtain ⟨rfl,n73⟩:=o69
 refine ZE (Zh ?_)
 obtain rfl:=Option.some.inj h71
 exact n73
theorem GQ (a0:Zf) (a1:ByteArray) (r:Int) (h:M.QB a0 a1=some r):Fn Tryz.prog 156 [.agg (ZB a0),.str a1] (.pure (.int .i64 r)):=by
 unfold M.QB at h
 refine ZT Tryz.func156 rfl (by kernel_rfl) (Za (zg [1,2] 1 (Zb (Za (Za (zg [1,2,5] 1 (Zb (Zj ?_))))))))
 obtain ⟨y3,q10,h11⟩:=bind_some h
 refine zl (fun (p1:Int)=>⟨22,[(1,.str a1),(2,.ref 0 0),(5,.int .i64 p1)],[.box (ZB a0)]⟩) (Sum.elim (fun z=>OutE 0 (fun z=>⟨22,[],[]⟩) z) (fun z=>OutR Tryz.prog Tryz.f156 (.int .i64 z))) q10 ?_ ?_
 intro p1 y2 h1
 unfold M.JN at h1
 refine Za (Za (zg [1,2,5,10] 1 (Zb (cn h1 (fun _ h3=>?_) (fun _ h4=>?_)))))
 refine Ze (Zb (Za (Zj (Za ?_))))
 obtain ⟨c5,h6⟩:=Zy h3
 refine zc [1,2,5,20] 1 c5 (Zb (cn h6 (fun _ h8=>?_) (fun _ h9=>?_)))
 exact Za (zg [4] 0 (Zb (Zg (ZE (Zh (rr h8 ⟨rfl,er0 _⟩))))))
 exact Ze (XO (Zb (zg [1,2,5] 1 (rn h9))))
 exact ZX (XC (re h4 ⟨rfl,kc⟩))
 intro e12 s13 o14
 rcases y3 with g4 | y5
 have h15:=XY h11
 exact zi o14 (Za (zg [4] 0 (Zb (Zg (er1 h15)))))
 have h16:=XZ h11
 obtain ⟨rfl,n18⟩:=o14
 refine ZE (Zh ?_)
 obtain rfl:=Option.some.inj h16
 exact n18
theorem ZdR (a0:Zf) (r:Int) (h:M.JR a0=some r):Fn Tryz.prog 105 [.agg (ZB a0)] (.pure (.int .i64 r)):=by
 let u1:Nat × D:=(3,sL 2 ZN a0.Z9)
 let u2:List Ob:=[.box (ZB a0)]
 unfold M.JR at h
 refine ZT Tryz.func105 rfl (by kernel_rfl) (Za (zg [1] 1 (Zb (Za (zg [1,3] 1 (Zb (Za (Za (zg [1,3,12] 1 (Zb (cn h (fun _ h2=>?_) (fun _ h3=>?_))))))))))))
 exact Za (zg [2] 0 (Zb (Zg (Zh (er1 h2)))))
 refine Ze (Zb (Za (Za (zg [1,3,4] 1 (Zb (Zj ?_))))))
 obtain ⟨y20,q78,h79⟩:=bind_some h3
 refine zl (fun (p1:Int)=>⟨112,[(1,.ref 0 0),u1,(4,.int .i64 p1)],u2⟩) (Sum.elim (fun z=>OutE 0 (fun z=>⟨112,[],[]⟩) z) (fun z=>OutR Tryz.prog Tryz.f105 (.int .i64 z))) q78 ?_ ?_
 intro p1 y2 h4
 unfold M.Q8 at h4
 refine Za (Za (zg [1,3,4,16] 1 (Zb (cn h4 (fun _ h6=>?_) (fun _ h7=>?_)))))
 refine Ze (Zb (Za (Zj (Za (Za ?_)))))
 obtain ⟨r3,q8,h9⟩:=bind_some h6
 obtain ⟨c10,h11⟩:=Zy h9
 refine zr [1,3,4,25] 1 c10 (rq1 (Kg _ _ q8) rqn) (Zb (cn h11 (fun _ h13=>?_) (fun _ h14=>?_)))
 exact Za (zg [2] 0 (Zb (Zg (Zh (ZE (Zh (rr h13 ⟨rfl,er0 _⟩)))))))
 refine Ze (Zb (Za (Za (zg [1,3,4,5] 1 (Zb (Zj ?_))))))
 obtain ⟨y6,q24,h25⟩:=bind_some h14
 refine zl (fun (p4:Int)=>⟨112,[(1,.ref 0 0),u1,(4,.int .i64 p1),(5,.int .i64 p4)],u2⟩) (Sum.elim (fun z=>OutE 2 (fun z=>⟨112,[(1,.ref 0 0),u1,(4,.int .i64 p1)],u2⟩) z) (fun z=>OutR Tryz.prog Tryz.f105 (.int .i64 z))) q24 ?_ ?_
 intro p4 y5 h15
 unfold M.JE at h15
 refine Za (Za (zg [1,3,4,5,28] 1 (Zb (cn h15 (fun _ h17=>?_) (fun _ h18=>?_)))))
 refine Ze (Zb (Za (Zj (Za ?_))))
 obtain ⟨c19,h20⟩:=Zy h17
 refine zc [1,3,4,5,41] 1 c19 (Zb (cn h20 (fun _ h22=>?_) (fun _ h23=>?_)))
 exact Za (zg [2] 0 (Zb (Zg (ZE (Zh (rr h22 ⟨rfl,er0 _⟩))))))
 exact Ze (XO (Zb (zg [1,3,4,5] 1 (rn h23))))
 exact ZX (XC (re h18 ⟨rfl,kq⟩))
 intro e26 s27 o28
 rcases y6 with g7 | y8
 have h29:=XY h25
 refine zi o28 (Za (Za ?_))
 obtain ⟨c32,h33⟩:=Zy h29
 refine zc [1,3,4,48] 1 c32 (Zb (cn h33 (fun _ h35=>?_) (fun _ h36=>?_)))
 exact Za (zg [2] 0 (Zb (Zg (Zh (ZE (Zh (rr h35 ⟨rfl,er0 _⟩)))))))
 refine Ze (Zb (Za (Za ?_)))
 obtain ⟨c37,h38⟩:=Zy h36
 refine zc [1,3,4,55] 1 c37 (Zb (cn h38 (fun _ h40=>?_) (fun _ h41=>?_)))
 exact Za (zg [2] 0 (Zb (Zg (Zh (ZE (Zh (rr h40 ⟨rfl,er0 _⟩)))))))
 refine Ze (Zb (Za (zg [1,3,4,6] 1 (Zb (Zj ?_)))))
 obtain ⟨y17,q68,h69⟩:=bind_some h41
 refine zl (fun (p9:Int)=>⟨112,[(1,.ref 0 0),u1,(4,.int .i64 p1),(6,.int .i64 p9)],u2⟩) (Sum.elim (fun z=>OutE 4 (fun z=>⟨112,[(1,.ref 0 0),u1,(4,.int .i64 p1)],u2⟩) z) (fun z=>OutR Tryz.prog Tryz.f105 (.int .i64 z))) q68 ?_ ?_
 intro p9 y10 h42
 unfold M.Q7 at h42
 refine Za (Za ?_)
 obtain ⟨c43,h44⟩:=Zy h42
 refine zc [1,3,4,6,63] 1 c43 (Zb (cn h44 (fun _ h46=>?_) (fun _ h47=>?_)))
 refine Ze (Zb (Za (Zj (Za ?_))))
 obtain ⟨c48,h49⟩:=Zy h46
 refine zc [1,3,4,6,7] 2 c48 (Zb (Za (Za ?_)))
 obtain ⟨r11,q50,h51⟩:=bind_some h49
 refine zr [1,3,4,6,7,83] 2 Zz (rq2 (fun hg=>GQ _ _ _ (Xn q50 hg)) rqn) (Zb (cn h51 (fun _ h53=>?_) (fun _ h54=>?_)))
 exact Za (zg [2] 0 (Zb (Zg (Zh (ZE (Zh (rr h53 ⟨rfl,er0 _⟩)))))))
 refine Ze (Zb (Za ?_))
 obtain ⟨r12,q55,h56⟩:=bind_some h54
 obtain ⟨r13,q57,h58⟩:=bind_some h56
 obtain ⟨r14,q59,h60⟩:=bind_some h58
 obtain ⟨r15,q61,h62⟩:=bind_some h60
 obtain ⟨r16,q63,h64⟩:=bind_some h62
 refine zr [1,3,4,6,111] 1 Zz (rq1 (X4 _ _ _ _ q55) (rq2 (fun hg=>X4 _ _ _ _ (Xn q57 hg)) (rq2 (fun hg=>X4 _ _ _ _ (Xn q59 hg)) (rq2 (fun hg=>X4 _ _ _ _ (Xn q61 hg)) (rq2 (fun hg=>X4 _ _ _ _ (Xn q63 hg)) rqn))))) (Zb (cn h64 (fun _ h66=>?_) (fun _ h67=>?_)))
 exact Za (zg [2] 0 (Zb (Zg (ZE (Zh (rr h66 ⟨rfl,er0 _⟩))))))
 exact Ze (XO (Zb (zg [1,3,4,6] 1 (rn h67))))
 exact ZX (XC (re h47 ⟨rfl,kq⟩))
 intro e70 s71 o72
 rcases y17 with g18 | y19
 have h73:=XY h69
 obtain ⟨rfl,l75⟩:=o72
 exact Y0 (XO (XD (s':=⟨112,[(1,.ref 0 0),u1,(4,.int .i64 p1)],u2⟩) (l75) (zg [1,3,4] 1 (rn h73))))
 have h74:=XZ h69
 obtain ⟨rfl,n76⟩:=o72
 exact ZE (ZE (Zh (rr h74 ⟨rfl,n76⟩)))
 have h30:=XZ h25
 obtain ⟨rfl,n77⟩:=o28
 exact ZE (Zh (ZE (Zh (rr h30 ⟨rfl,n77⟩))))
 exact ZX (XC (re h7 ⟨rfl,kc⟩))
 intro e80 s81 o82
 rcases y20 with g21 | y22
 have h83:=XY h79
 exact zi o82 (Za (zg [2] 0 (Zb (Zg (er1 h83)))))
 have h84:=XZ h79
 obtain ⟨rfl,n86⟩:=o82
 refine ZE (Zh ?_)
 obtain rfl:=Option.some.inj h84
 exact n86
theorem ZcQ (a0:Vc) (r:Bool) (h:M.Wj a0=some r):Fn Tryz.prog 176 [.agg (KO a0)] (.pure (.bool r)):=by
 unfold M.Wj at h
 exact ZT Tryz.func176 rfl (by kernel_rfl) (Za (zg [1] 1 (Zb (Za (zg [2] 0 (Zb (Zg (er1 h))))))))
theorem ZeS (a0:Vc) (r:Bool) (h:M.U2 a0=some r):Fn Tryz.prog 177 [.agg (KO a0)] (.pure (.bool r)):=by
 unfold M.U2 at h
 exact ZT Tryz.func177 rfl (by kernel_rfl) (Za (zg [1] 1 (Zb (Za (zg [2] 0 (Zb (Zg (er1 h))))))))
theorem ZdS (a0:Kb) (r:Bool) (h:M.Vd a0=some r):Fn Tryz.prog 157 [.agg (Gs a0)] (.pure (.bool r)):=by
 unfold M.Vd at h
 refine ZT Tryz.func157 rfl (by kernel_rfl) (Za (zg [1] 1 (Zb (Za (Za ?_)))))
 obtain ⟨r1,q1,h2⟩:=bind_some h
 obtain ⟨r2,q3,h4⟩:=bind_some h2
 obtain ⟨r3,q5,h6⟩:=bind_some h4
 refine zr [1,38] 1 Zz (rq1 (X4 _ _ _ _ q1) (rq2 (fun hg=>ZcQ _ _ (Xn q3 hg)) (rq2 (fun hg=>ZcQ _ _ (Xn q5 hg)) rqn))) (Zb (cn h6 (fun _ h8=>?_) (fun _ h9=>?_)))
 exact Za (zg [2] 0 (Zb (Zg (Zh (er1 h8)))))
 refine Ze (Zb (Za ?_))
 obtain ⟨r4,q10,h11⟩:=bind_some h9
 obtain ⟨r5,q12,h13⟩:=bind_some h11
 exact zr [2] 0 Zz (rq2 (fun hg=>ZeS _ _ (Xn q10 hg)) (rq2 (fun hg=>ZeS _ _ (Xn q12 hg)) rqn)) (Zb (Zg (er1 h13)))
theorem Zcs (a0:List V2) (r:Int) (h:M.QZ a0=some r):Fn Tryz.prog 106 [sL 2 Yr a0] (.pure (.int .i64 r)):=by
 let u1:Nat × D:=(0,sL 2 Yr a0)
 unfold M.QZ at h
 refine ZT Tryz.func106 rfl (by kernel_rfl) (Za (zg [0] 0 (Zb (Za (Za (zg [0,8] 0 (Zb (cn h (fun _ h2=>?_) (fun _ h3=>?_)))))))))
 exact Za (zg [2] 0 (Zb (Zg (Zh (er1 h2)))))
 refine Ze (Zb (Za (Za (zg [0,3] 0 (Zb (Zj ?_))))))
 obtain ⟨y15,q65,h66⟩:=bind_some h3
 refine zl (fun (p1:Int)=>⟨72,[u1,(3,.int .i64 p1)],[]⟩) (Sum.elim (fun z=>OutE 0 (fun z=>⟨72,[],[]⟩) z) (fun z=>OutR Tryz.prog Tryz.f106 (.int .i64 z))) q65 ?_ ?_
 intro p1 y2 h4
 unfold M.Qq at h4
 refine Za (Za (zg [0,3,12] 0 (Zb (cn h4 (fun _ h6=>?_) (fun _ h7=>?_)))))
 refine Ze (Zb (Za (Zj (Za (Za ?_)))))
 obtain ⟨r3,q8,h9⟩:=bind_some h6
 obtain ⟨c10,h11⟩:=Zy h9
 refine zr [0,3,21] 0 c10 (rq1 (Kg _ _ q8) rqn) (Zb (cn h11 (fun _ h13=>?_) (fun _ h14=>?_)))
 exact Za (zg [2] 0 (Zb (Zg (Zh (ZE (Zh (rr h13 ⟨rfl,er0 _⟩)))))))
 refine Ze (Zb (Za (Za (zg [0,3,4] 0 (Zb (Zj ?_))))))
 obtain ⟨y6,q24,h25⟩:=bind_some h14
 refine zl (fun (p4:Int)=>⟨72,[u1,(3,.int .i64 p1),(4,.int .i64 p4)],[]⟩) (Sum.elim (fun z=>OutE 2 (fun z=>⟨72,[u1,(3,.int .i64 p1)],[]⟩) z) (fun z=>OutR Tryz.prog Tryz.f106 (.int .i64 z))) q24 ?_ ?_
 intro p4 y5 h15
 unfold M.QV at h15
 refine Za (Za (zg [0,3,4,24] 0 (Zb (cn h15 (fun _ h17=>?_) (fun _ h18=>?_)))))
 refine Ze (Zb (Za (Zj (Za ?_))))
 obtain ⟨c19,h20⟩:=Zy h17
 refine zc [0,3,4,37] 0 c19 (Zb (cn h20 (fun _ h22=>?_) (fun _ h23=>?_)))
 exact Za (zg [2] 0 (Zb (Zg (ZE (Zh (rr h22 ⟨rfl,er0 _⟩))))))
 exact Ze (XO (Zb (zg [0,3,4] 0 (rn h23))))
 exact ZX (XC (re h18 ⟨rfl,kq⟩))
 intro e26 s27 o28
 rcases y6 with g7 | y8
 have h29:=XY h25
 refine zi o28 (Za (Za ?_))
 obtain ⟨c32,h33⟩:=Zy h29
 refine zc [0,3,44] 0 c32 (Zb (cn h33 (fun _ h35=>?_) (fun _ h36=>?_)))
 exact Za (zg [2] 0 (Zb (Zg (Zh (ZE (Zh (rr h35 ⟨rfl,er0 _⟩)))))))
 refine Ze (Zb (Za (Za ?_)))
 obtain ⟨c37,h38⟩:=Zy h36
 refine zc [0,3,51] 0 c37 (Zb (cn h38 (fun _ h40=>?_) (fun _ h41=>?_)))
 exact Za (zg [2] 0 (Zb (Zg (Zh (ZE (Zh (rr h40 ⟨rfl,er0 _⟩)))))))
 refine Ze (Zb (Za (zg [0,3,5] 0 (Zb (Zj ?_)))))
 obtain ⟨y12,q55,h56⟩:=bind_some h41
 refine zl (fun (p9:Int)=>⟨72,[u1,(3,.int .i64 p1),(5,.int .i64 p9)],[]⟩) (Sum.elim (fun z=>OutE 4 (fun z=>⟨72,[u1,(3,.int .i64 p1)],[]⟩) z) (fun z=>OutR Tryz.prog Tryz.f106 (.int .i64 z))) q55 ?_ ?_
 intro p9 y10 h42
 unfold M.Qp at h42
 refine Za (Za ?_)
 obtain ⟨c43,h44⟩:=Zy h42
 refine zc [0,3,5,59] 0 c43 (Zb (cn h44 (fun _ h46=>?_) (fun _ h47=>?_)))
 refine Ze (Zb (Za (Zj (Za ?_))))
 obtain ⟨r11,q48,h49⟩:=bind_some h46
 obtain ⟨c50,h51⟩:=Zy h49
 refine zr [0,3,5,71] 0 c50 (rq1 (ZdS _ _ q48) rqn) (Zb (cn h51 (fun _ h53=>?_) (fun _ h54=>?_)))
 exact Za (zg [2] 0 (Zb (Zg (ZE (Zh (rr h53 ⟨rfl,er0 _⟩))))))
 exact Ze (XO (Zb (zg [0,3,5] 0 (rn h54))))
 exact ZX (XC (re h47 ⟨rfl,kq⟩))
 intro e57 s58 o59
 rcases y12 with g13 | y14
 have h60:=XY h56
 obtain ⟨rfl,l62⟩:=o59
 exact Y0 (XO (XD (s':=⟨72,[u1,(3,.int .i64 p1)],[]⟩) (l62) (zg [0,3] 0 (rn h60))))
 have h61:=XZ h56
 obtain ⟨rfl,n63⟩:=o59
 exact ZE (ZE (Zh (rr h61 ⟨rfl,n63⟩)))
 have h30:=XZ h25
 obtain ⟨rfl,n64⟩:=o28
 exact ZE (Zh (ZE (Zh (rr h30 ⟨rfl,n64⟩))))
 exact ZX (XC (re h7 ⟨rfl,kq⟩))
 intro e67 s68 o69
 rcases y15 with g16 | y17
 have h70:=XY h66
 exact zi o69 (Za (zg [2] 0 (Zb (Zg (er1 h70)))))
 have h71:=XZ h66
 obtain ⟨rfl,n73⟩:=o69
 refine ZE (Zh ?_)
 obtain rfl:=Option.some.inj h71
 exact n73
theorem ZbG (a0:Zf) (a1:ByteArray) (r:Int) (h:M.Ul a0 a1=some r):Fn Tryz.prog 158 [.agg (ZB a0),.str a1] (.pure (.int .i64 r)):=by
 unfold M.Ul at h
 refine ZT Tryz.func158 rfl (by kernel_rfl) (Za (zg [1,2] 1 (Zb (Za (Za (zg [1,2,5] 1 (Zb (Zj ?_))))))))
 obtain ⟨y3,q10,h11⟩:=bind_some h
 refine zl (fun (p1:Int)=>⟨22,[(1,.str a1),(2,.ref 0 0),(5,.int .i64 p1)],[.box (ZB a0)]⟩) (Sum.elim (fun z=>OutE 0 (fun z=>⟨22,[],[]⟩) z) (fun z=>OutR Tryz.prog Tryz.f158 (.int .i64 z))) q10 ?_ ?_
 intro p1 y2 h1
 unfold M.Uk at h1
 refine Za (Za (zg [1,2,5,10] 1 (Zb (cn h1 (fun _ h3=>?_) (fun _ h4=>?_)))))
 refine Ze (Zb (Za (Zj (Za ?_))))
 obtain ⟨c5,h6⟩:=Zy h3
 refine zc [1,2,5,20] 1 c5 (Zb (cn h6 (fun _ h8=>?_) (fun _ h9=>?_)))
 exact Za (zg [4] 0 (Zb (Zg (ZE (Zh (rr h8 ⟨rfl,er0 _⟩))))))
 exact Ze (XO (Zb (zg [1,2,5] 1 (rn h9))))
 exact ZX (XC (re h4 ⟨rfl,kc⟩))
 intro e12 s13 o14
 rcases y3 with g4 | y5
 have h15:=XY h11
 exact zi o14 (Za (zg [4] 0 (Zb (Zg (er1 h15)))))
 have h16:=XZ h11
 obtain ⟨rfl,n18⟩:=o14
 refine ZE (Zh ?_)
 obtain rfl:=Option.some.inj h16
 exact n18
theorem ZbH (a0:Zf) (r:Int) (h:M.QC a0=some r):Fn Tryz.prog 107 [.agg (ZB a0)] (.pure (.int .i64 r)):=by
 unfold M.QC at h
 refine ZT Tryz.func107 rfl (by kernel_rfl) (Za (zg [1] 1 (Zb (Za (Za (zg [1,9] 1 (Zb (cn h (fun _ h2=>?_) (fun _ h3=>?_)))))))))
 exact Za (zg [2] 0 (Zb (Zg (Zh (er1 h2)))))
 refine Ze (Zb (Za (Za (zg [1,3] 1 (Zb (Zj ?_))))))
 obtain ⟨y7,q33,h34⟩:=bind_some h3
 refine zl (fun (p1:Int)=>⟨135,[(1,.ref 0 0),(3,.int .i64 p1)],[.box (ZB a0)]⟩) (Sum.elim (fun z=>OutE 0 (fun z=>⟨135,[],[]⟩) z) (fun z=>OutR Tryz.prog Tryz.f107 (.int .i64 z))) q33 ?_ ?_
 intro p1 y2 h4
 let u1:=a0.Xf.getD p1.toNat default
 let u2:=((u1.Qm) != 0)&&((u1.YA) != 0)
 let u3:List Ob:=[.box (ZB a0),.box (Z2 u1)]
 unfold M.Y2 at h4
 refine Za (Za (zg [1,3,14] 1 (Zb (cn h4 (fun _ h6=>?_) (fun _ h7=>?_)))))
 refine Ze (Zb (Za (Zj (Za ?_))))
 obtain ⟨c8,h9⟩:=Zy h6
 refine zc [1,3,4] 2 c8 (Zb (Za (rg0 [1,3,4,5] 2 ⟨135,[(1,.ref 0 0),(3,.int .i64 p1),(4,.ref 1 0),(5,.bool false)],u3⟩ (Zb (Uh (fun (p3:Bool)=>⟨135,[(1,.ref 0 0),(3,.int .i64 p1),(4,.ref 1 0),(5,.bool p3)],u3⟩) (fun p3=>M.X8 a0 p1 p3=some y2) ?_ ?_)))))
 intro p3 h11
 unfold M.X8 at h11
 refine Za (Za (zg [1,3,4,124] 2 (Zb (cn h11 (fun _ h13=>?_) (fun _ h14=>?_)))))
 exact Za (zg [2] 0 (Zb (Zg (Zh (ZE (Zh (rr h13 ⟨rfl,er0 _⟩)))))))
 refine Ze (Zb (Za ?_))
 obtain ⟨r4,q15,h16⟩:=bind_some h14
 refine zr [1,3,134] 1 Zz (rq2 (fun hg=>ZbG _ _ _ (Xn q15 hg)) rqn) (Zb (cn h16 (fun _ h18=>?_) (fun _ h19=>?_)))
 exact Za (zg [2] 0 (Zb (Zg (ZE (Zh (rr h18 ⟨rfl,er0 _⟩))))))
 exact Ze (XO (Zb (zg [1,3] 1 (rn h19))))
 intro k10
 refine Za (zg [1,3,4,5,23] 2 (Zb (Zj (Za (zg [1,3,4,5,23,24] 2 (Zb (cn h9 (fun _ h21=>?_) (fun _ h22=>?_))))))))
 exact zg [1,3,4,5] 2 (XO (XD lk (k10 (u2&&(((u1.J5)==(u1.J5))&&(((u1.Qm)==(u1.Qm))&&(((u1.YA)==(u1.YA))&&(((u1.Yg)==0)&&(((u1.QR)==0)&&(((u1.Qh)==0)&&(strEq (u1.QX) (⟨#[]⟩:ByteArray)&&(((u1.GB)==0)&&(((u1.Ka)==0)&&true)))))))))) h21)))
 refine Za (zg [1,3,4,5,23,45] 2 (Zb (cn h22 (fun _ h24=>?_) (fun _ h25=>?_))))
 exact zg [1,3,4,5] 2 (XO (XD lk (k10 (((((u1.GB) != 0)&&(decide ((u1.GB)≤(u1.Ka))))&&(decide ((wr .u32 ((u1.Ka) - (u1.GB))) < 8)))&&(((u1.J5)==(u1.J5))&&(((u1.Qm)==0)&&(((u1.YA)==0)&&(((u1.Yg)==0)&&(((u1.QR)==0)&&(((u1.Qh)==0)&&(strEq (u1.QX) (u1.QX)&&(((u1.GB)==(u1.GB))&&(((u1.Ka)==(u1.Ka))&&true)))))))))) h24)))
 refine Za (zg [1,3,4,5,78] 2 (Zb (cn h25 (fun _ h27=>?_) (fun _ h28=>?_))))
 obtain ⟨r5,q29,h30⟩:=bind_some h27
 obtain ⟨r6,q31,h32⟩:=bind_some h30
 exact zr [1,3,4,5] 2 Zz (rq2 (fun hg=>X4 _ _ _ _ (Xn q29 hg)) (rq2 (fun hg=>X4 _ _ _ _ (Xn q31 hg)) rqn)) (XO (XD lk (k10 ((((((u2&&(((u1.Yg)==6)||((u1.Yg)==17)))&&r5)&&r6)&&(strEq (u1.QX) (⟨#[]⟩:ByteArray)))&&((u1.GB)==0))&&((u1.Ka)==0)) h32)))
 exact Ze (XO (XD kq (k10 false h28)))
 exact ZX (XC (re h7 ⟨rfl,kc⟩))
 intro e35 s36 o37
 rcases y7 with g8 | y9
 have h38:=XY h34
 exact zi o37 (Za (zg [2] 0 (Zb (Zg (er1 h38)))))
 have h39:=XZ h34
 obtain ⟨rfl,n41⟩:=o37
 refine ZE (Zh ?_)
 obtain rfl:=Option.some.inj h39
 exact n41
theorem ZeY (a0:Zf) (r:Int) (h:M.Wk a0=some r):Fn Tryz.prog 108 [.agg (ZB a0)] (.pure (.int .i64 r)):=by
 unfold M.Wk at h
 refine ZT Tryz.func108 rfl (by kernel_rfl) (Za (zg [1] 1 (Zb (Za (Za (zg [1,3] 1 (Zb (Zj ?_))))))))
 obtain ⟨y5,q14,h15⟩:=bind_some h
 refine zl (fun (p1:Int)=>⟨39,[(1,.ref 0 0),(3,.int .i64 p1)],[.box (ZB a0)]⟩) (Sum.elim (fun z=>OutE 0 (fun z=>⟨39,[],[]⟩) z) (fun z=>OutR Tryz.prog Tryz.f108 (.int .i64 z))) q14 ?_ ?_
 intro p1 y2 h1
 unfold M.VR at h1
 refine Za (Za (zg [1,3,9] 1 (Zb (cn h1 (fun _ h3=>?_) (fun _ h4=>?_)))))
 refine Ze (Zb (Za (Zj (Za ?_))))
 obtain ⟨c5,h6⟩:=Zy h3
 refine zc [1,3,4] 2 c5 (Zb (Za ?_))
 obtain ⟨r3,q7,h8⟩:=bind_some h6
 obtain ⟨r4,q9,h10⟩:=bind_some h8
 refine zr [1,3,38] 1 Zz (rq2 (fun hg=>ZbG _ _ _ (Xn q7 hg)) (rq2 (fun hg=>ZbG _ _ _ (Xn q9 hg)) rqn)) (Zb (cn h10 (fun _ h12=>?_) (fun _ h13=>?_)))
 exact Za (zg [2] 0 (Zb (Zg (ZE (Zh (rr h12 ⟨rfl,er0 _⟩))))))
 exact Ze (XO (Zb (zg [1,3] 1 (rn h13))))
 exact ZX (XC (re h4 ⟨rfl,kc⟩))
 intro e16 s17 o18
 rcases y5 with g6 | y7
 have h19:=XY h15
 exact zi o18 (Za (zg [2] 0 (Zb (Zg (er1 h19)))))
 have h20:=XZ h15
 obtain ⟨rfl,n22⟩:=o18
 refine ZE (Zh ?_)
 obtain rfl:=Option.some.inj h20
 exact n22
theorem Za1 (a0:Zf) (a1:Int) (r:Int) (h:M.Q9 a0 a1=some r):Fn Tryz.prog 66 [.agg (ZB a0),.int .u32 a1] (.pure (.int .i64 r)):=by
 unfold M.Q9 at h
 refine ZT Tryz.func66 rfl (by kernel_rfl) (Za (zg [1,2] 1 (Zb (Za (Za (zg [1,2,5] 1 (Zb (Zj ?_))))))))
 obtain ⟨y3,q10,h11⟩:=bind_some h
 refine zl (fun (p1:Int)=>⟨31,[(1,.int .u32 a1),(2,.ref 0 0),(5,.int .i64 p1)],[.box (ZB a0)]⟩) (Sum.elim (fun z=>OutE 0 (fun z=>⟨31,[],[]⟩) z) (fun z=>OutR Tryz.prog Tryz.f66 (.int .i64 z))) q10 ?_ ?_
 intro p1 y2 h1
 unfold M.VS at h1
 refine Za (Za (zg [1,2,5,10] 1 (Zb (cn h1 (fun _ h3=>?_) (fun _ h4=>?_)))))
 refine Ze (Zb (Za (Zj (Za ?_))))
 obtain ⟨c5,h6⟩:=Zy h3
 refine zc [1,2,5,29] 1 c5 (Zb (cn h6 (fun _ h8=>?_) (fun _ h9=>?_)))
 exact Za (zg [4] 0 (Zb (Zg (ZE (Zh (rr h8 ⟨rfl,er0 _⟩))))))
 exact Ze (XO (Zb (zg [1,2,5] 1 (rn h9))))
 exact ZX (XC (re h4 ⟨rfl,kc⟩))
 intro e12 s13 o14
 rcases y3 with g4 | y5
 have h15:=XY h11
 exact zi o14 (Za (zg [4] 0 (Zb (Zg (er1 h15)))))
 have h16:=XZ h11
 obtain ⟨rfl,n18⟩:=o14
 refine ZE (Zh ?_)
 obtain rfl:=Option.some.inj h16
 exact n18
theorem ZdT (a0:Zf) (a1:ByteArray) (r:Int) (h:M.JS a0 a1=some r):Fn Tryz.prog 160 [.agg (ZB a0),.str a1] (.pure (.int .i64 r)):=by
 unfold M.JS at h
 refine ZT Tryz.func160 rfl (by kernel_rfl) (Za (zg [1,2] 1 (Zb (Za (Za (zg [1,2,5] 1 (Zb (Zj ?_))))))))
 obtain ⟨y3,q10,h11⟩:=bind_some h
 refine zl (fun (p1:Int)=>⟨22,[(1,.str a1),(2,.ref 0 0),(5,.int .i64 p1)],[.box (ZB a0)]⟩) (Sum.elim (fun z=>OutE 0 (fun z=>⟨22,[],[]⟩) z) (fun z=>OutR Tryz.prog Tryz.f160 (.int .i64 z))) q10 ?_ ?_
 intro p1 y2 h1
 unfold M.JF at h1
 refine Za (Za (zg [1,2,5,10] 1 (Zb (cn h1 (fun _ h3=>?_) (fun _ h4=>?_)))))
 refine Ze (Zb (Za (Zj (Za ?_))))
 obtain ⟨c5,h6⟩:=Zy h3
 refine zc [1,2,5,20] 1 c5 (Zb (cn h6 (fun _ h8=>?_) (fun _ h9=>?_)))
 exact Za (zg [4] 0 (Zb (Zg (ZE (Zh (rr h8 ⟨rfl,er0 _⟩))))))
 exact Ze (XO (Zb (zg [1,2,5] 1 (rn h9))))
 exact ZX (XC (re h4 ⟨rfl,kc⟩))
 intro e12 s13 o14
 rcases y3 with g4 | y5
 have h15:=XY h11
 exact zi o14 (Za (zg [4] 0 (Zb (Zg (er1 h15)))))
 have h16:=XZ h11
 obtain ⟨rfl,n18⟩:=o14
 refine ZE (Zh ?_)
 obtain rfl:=Option.some.inj h16
 exact n18
theorem ZeZ (a0:Zf) (r:Int) (h:M.VT a0=some r):Fn Tryz.prog 109 [.agg (ZB a0)] (.pure (.int .i64 r)):=by
 let u4:=ZB a0
 unfold M.VT at h
 refine ZT Tryz.func109 rfl (by kernel_rfl) (Za (zg [1] 1 (Zb (Za (Za (zg [1,11] 1 (Zb (cn h (fun _ h2=>?_) (fun _ h3=>?_)))))))))
 exact Za (zg [2] 0 (Zb (Zg (Zh (er1 h2)))))
 refine Ze (Zb (Za (Za (zg [1,3] 1 (Zb (Zj ?_))))))
 obtain ⟨y17,q69,h70⟩:=bind_some h3
 refine zl (fun (p1:Int)=>⟨111,[(1,.ref 0 0),(3,.int .i64 p1)],[.box u4]⟩) (Sum.elim (fun z=>OutE 0 (fun z=>⟨111,[],[]⟩) z) (fun z=>OutR Tryz.prog Tryz.f109 (.int .i64 z))) q69 ?_ ?_
 intro p1 y2 h4
 let u1:=a0.Zr.getD p1.toNat default
 let u2:List Ob:=[.box u4,.box (ZS u1)]
 unfold M.JT at h4
 refine Za (Za (zg [1,3,16] 1 (Zb (cn h4 (fun _ h6=>?_) (fun _ h7=>?_)))))
 refine Ze (Zb (Za (Zj (Za ?_))))
 obtain ⟨c8,h9⟩:=Zy h6
 refine zc [1,3,4] 2 c8 (Zb (Za (rg0 [1,3,4,5] 2 ⟨111,[(1,.ref 0 0),(3,.int .i64 p1),(4,.ref 1 0),(5,.int .i64 0)],u2⟩ (Zb (Uh (fun (p3:Int)=>⟨111,[(1,.ref 0 0),(3,.int .i64 p1),(4,.ref 1 0),(5,.int .i64 p3)],u2⟩) (fun p3=>M.Jx a0 p1 p3=some y2) ?_ ?_)))))
 intro p3 h11
 unfold M.Jx at h11
 refine Uh (fun (p4:Int)=>⟨111,[(1,.ref 0 0),(3,.int .i64 p1),(4,.ref 1 0),(5,.int .i64 p4)],u2⟩) (fun p4=>M.Jw a0 p1 p4=some y2) ?_ ?_
 intro p4 h13
 unfold M.Jw at h13
 refine Uh (fun (p5:Int)=>⟨111,[(1,.ref 0 0),(3,.int .i64 p1),(4,.ref 1 0),(5,.int .i64 p5)],u2⟩) (fun p5=>M.Jv a0 p1 p5=some y2) ?_ ?_
 intro p5 h15
 unfold M.Jv at h15
 refine Za (Za ?_)
 obtain ⟨r6,q16,h17⟩:=bind_some h15
 obtain ⟨r7,q18,h19⟩:=bind_some h17
 let u3:=((!r6)||(p5 != 1))||(((u1.Vu) != 0)&&(decide (r7 ≥ 0)))
 obtain ⟨r8,q20,h21⟩:=bind_some h19
 obtain ⟨r9,q22,h23⟩:=bind_some h21
 refine rg [.pure (.bool r6),.pure (.int .i64 r7),.pure (.bool r8),.pure (.bool r9)] [1,3,4,69] 2 ⟨111,[(1,.ref 0 0),(3,.int .i64 p1),(4,.ref 1 0),(69,.bool ((u3||(!r8))||(!r9)))],u2⟩ [] [⟨true,159,[.agg (Z7 (u1.Zp))],.pure (.bool r6)⟩,⟨((!((!r6)||(p5 != 1)))&&((u1.Vu) != 0)),66,[.agg u4,.int .u32 (u1.Vu)],.pure (.int .i64 r7)⟩,⟨(!u3),102,[.int .i64 (u1.Xd),.int .i64 1,.int .i64 255],.pure (.bool r8)⟩,⟨(!(u3||(!r8))),102,[.int .i64 (u1.Gd),.int .i64 0,.int .i64 65535],.pure (.bool r9)⟩] Zz ⟨fun _=>Uv (u1.Zp) r6 q16,fun hg=>Za1 a0 (u1.Vu) r7 (Xn q18 hg),fun hg=>X4 (u1.Xd) 1 255 r8 (Xn q20 hg),fun hg=>X4 (u1.Gd) 0 65535 r9 (Xn q22 hg),trivial⟩ (Zb (cn h23 (fun _ h25=>?_) (fun _ h26=>?_)))
 exact Za (zg [2] 0 (Zb (Zg (Zh (ZE (Zh (rr h25 ⟨rfl,er0 _⟩)))))))
 refine Ze (Zb (Uh (fun (p10:Unit)=>⟨111,[(1,.ref 0 0),(3,.int .i64 p1),(4,.ref 1 0)],u2⟩) (fun p10=>M.Ju a0 p1 p10=some y2) ?_ ?_))
 intro p10 h28
 unfold M.Ju at h28
 refine Za (zg [1,3,4,7] 2 (Zb (Zj ?_)))
 obtain ⟨y13,q38,h39⟩:=bind_some h28
 refine zl (fun (p11:Int)=>⟨111,[(1,.ref 0 0),(3,.int .i64 p1),(4,.ref 1 0),(7,.int .i64 p11)],u2⟩) (Sum.elim (fun z=>OutE 2 (fun z=>⟨111,[(1,.ref 0 0),(3,.int .i64 p1)],[.box u4]⟩) z) (fun z=>OutR Tryz.prog Tryz.f109 (.int .i64 z))) q38 ?_ ?_
 intro p11 y12 h29
 unfold M.Jt at h29
 refine Za (Za (zg [1,3,4,7,88] 2 (Zb (cn h29 (fun _ h31=>?_) (fun _ h32=>?_)))))
 refine Ze (Zb (Za (Zj (Za ?_))))
 obtain ⟨c33,h34⟩:=Zy h31
 refine zc [1,3,4,7,110] 2 c33 (Zb (cn h34 (fun _ h36=>?_) (fun _ h37=>?_)))
 exact Za (zg [2] 0 (Zb (Zg (ZE (Zh (rr h36 ⟨rfl,er0 _⟩))))))
 exact Ze (XO (Zb (zg [1,3,4,7] 2 (rn h37))))
 exact ZX (XC (re h32 ⟨rfl,kc⟩))
 intro e40 s41 o42
 rcases y13 with g14 | y15
 have h43:=XY h39
 obtain ⟨rfl,l45⟩:=o42
 exact Y0 (XO (XD (s':=⟨111,[(1,.ref 0 0),(3,.int .i64 p1)],[.box u4]⟩) (l45) (zg [1,3] 1 (rn h43))))
 have h44:=XZ h39
 obtain ⟨rfl,n46⟩:=o42
 exact ZE (ZE (Zh (rr h44 ⟨rfl,n46⟩)))
 intro k27
 refine Za (zg [1,3,4,72] 2 (Zb (cn h26 (fun _ h48=>?_) (fun _ h49=>?_))))
 refine Za ?_
 obtain ⟨r16,q50,h51⟩:=bind_some h48
 refine zr [1,3,4,6] 2 Zz (rq1 (ZdT _ _ _ q50) rqn) (Zb (Za (Za (zg [1,3,4,6,78] 2 (Zb (cn h51 (fun _ h53=>?_) (fun _ h54=>?_)))))))
 exact Za (zg [2] 0 (Zb (Zg (Zh (Zh (ZE (Zh (rr h53 ⟨rfl,er0 _⟩))))))))
 refine Ze (Zb (Za ?_))
 obtain ⟨c55,h56⟩:=Zy h54
 refine zc [1,3,4,85] 2 c55 (Zb (cn h56 (fun _ h58=>?_) (fun _ h59=>?_)))
 exact Za (zg [2] 0 (Zb (Zg (Zh (ZE (Zh (rr h58 ⟨rfl,er0 _⟩)))))))
 exact Ze (XD kq (k27 () h59))
 exact Ze (XD kq (k27 () h49))
 intro k14
 refine Za (zg [1,3,4,5,35] 2 (Zb (cn h13 (fun _ h61=>?_) (fun _ h62=>?_))))
 exact zg [1,3,4,5] 2 (XD lk (k14 (wr .i64 (p4+1)) h61))
 exact Ze (XD kq (k14 p4 h62))
 intro k12
 refine Za (zg [1,3,4,5,31] 2 (Zb (cn h11 (fun _ h64=>?_) (fun _ h65=>?_))))
 exact zg [1,3,4,5] 2 (XD lk (k12 (wr .i64 (p3+1)) h64))
 exact Ze (XD kq (k12 p3 h65))
 intro k10
 refine Za (zg [1,3,4,5,26] 2 (Zb (cn h9 (fun _ h67=>?_) (fun _ h68=>?_))))
 exact zg [1,3,4,5] 2 (XD lk (k10 1 h67))
 exact Ze (XD kq (k10 0 h68))
 exact ZX (XC (re h7 ⟨rfl,kc⟩))
 intro e71 s72 o73
 rcases y17 with g18 | y19
 have h74:=XY h70
 exact zi o73 (Za (zg [2] 0 (Zb (Zg (er1 h74)))))
 have h75:=XZ h70
 obtain ⟨rfl,n77⟩:=o73
 refine ZE (Zh ?_)
 obtain rfl:=Option.some.inj h75
 exact n77
theorem Ks (a0:Zf) (a1:ByteArray) (r:Int) (h:M.JG a0 a1=some r):Fn Tryz.prog 178 [.agg (ZB a0),.str a1] (.pure (.int .i64 r)):=by
 unfold M.JG at h
 refine ZT Tryz.func178 rfl (by kernel_rfl) (Za (zg [1,2] 1 (Zb (Za (Za (zg [1,2,5] 1 (Zb (Zj ?_))))))))
 obtain ⟨y3,q10,h11⟩:=bind_some h
 refine zl (fun (p1:Int)=>⟨22,[(1,.str a1),(2,.ref 0 0),(5,.int .i64 p1)],[.box (ZB a0)]⟩) (Sum.elim (fun z=>OutE 0 (fun z=>⟨22,[],[]⟩) z) (fun z=>OutR Tryz.prog Tryz.f178 (.int .i64 z))) q10 ?_ ?_
 intro p1 y2 h1
 unfold M.Vo at h1
 refine Za (Za (zg [1,2,5,10] 1 (Zb (cn h1 (fun _ h3=>?_) (fun _ h4=>?_)))))
 refine Ze (Zb (Za (Zj (Za ?_))))
 obtain ⟨c5,h6⟩:=Zy h3
 refine zc [1,2,5,20] 1 c5 (Zb (cn h6 (fun _ h8=>?_) (fun _ h9=>?_)))
 exact Za (zg [4] 0 (Zb (Zg (ZE (Zh (rr h8 ⟨rfl,er0 _⟩))))))
 exact Ze (XO (Zb (zg [1,2,5] 1 (rn h9))))
 exact ZX (XC (re h4 ⟨rfl,kc⟩))
 intro e12 s13 o14
 rcases y3 with g4 | y5
 have h15:=XY h11
 exact zi o14 (Za (zg [4] 0 (Zb (Zg (er1 h15)))))
 have h16:=XZ h11
 obtain ⟨rfl,n18⟩:=o14
 refine ZE (Zh ?_)
 obtain rfl:=Option.some.inj h16
 exact n18
theorem UL (a0:Zf) (a1:List YB) (a2:Int) (a3:Int) (a4:Int) (r:Int) (h:M.Yb a0 a1 a2 a3 a4=some r):Fn Tryz.prog 161 [.agg (ZB a0),sL 5 Zv a1,.int .i64 a2,.int .i64 a3,.int .i64 a4] (.pure (.int .i64 r)):=by
 let u1:Nat × D:=(1,sL 5 Zv a1)
 let u2:=ZB a0
 unfold M.Yb at h
 refine ZT Tryz.func161 rfl (by kernel_rfl) (Za (zg [1,2,3,4,5] 1 (Zb (Za (Za (zg [1,2,3,4,5,16] 1 (Zb (cn h (fun _ h2=>?_) (fun _ h3=>?_)))))))))
 exact Za (zg [10] 0 (Zb (Zg (Zh (er1 h2)))))
 refine Ze (Zb (Za (Za (zg [1,2,3,4,5,11] 1 (Zb (Zj ?_))))))
 obtain ⟨y12,q45,h46⟩:=bind_some h3
 refine zl (fun (p1:Int)=>⟨95,[u1,(2,.int .i64 a2),(3,.int .i64 a3),(4,.int .i64 a4),(5,.ref 0 0),(11,.int .i64 p1)],[.box u2]⟩) (Sum.elim (fun z=>OutE 0 (fun z=>⟨95,[],[]⟩) z) (fun z=>OutR Tryz.prog Tryz.f161 (.int .i64 z))) q45 ?_ ?_
 intro p1 y2 h4
 unfold M.Yt at h4
 refine Za (Za (zg [1,2,3,4,5,11,20] 1 (Zb (cn h4 (fun _ h6=>?_) (fun _ h7=>?_)))))
 refine Ze (Zb (Za (Zj (Za ?_))))
 obtain ⟨c8,h9⟩:=Zy h6
 refine zc [1,2,3,4,5,11,12] 2 c8 (Zb (Za (Za ?_)))
 obtain ⟨r3,q10,h11⟩:=bind_some h9
 obtain ⟨r4,q12,h13⟩:=bind_some h11
 obtain ⟨r5,q14,h15⟩:=bind_some h13
 refine zr [1,2,3,4,5,11,12,50] 2 Zz (rq1 (X4 _ _ _ _ q10) (rq2 (fun hg=>X4 _ _ _ _ (Xn q12 hg)) (rq2 (fun hg=>X4 _ _ _ _ (Xn q14 hg)) rqn))) (Zb (cn h15 (fun _ h17=>?_) (fun _ h18=>?_)))
 exact Za (zg [10] 0 (Zb (Zg (Zh (ZE (Zh (rr h17 ⟨rfl,er0 _⟩)))))))
 refine Ze (Zb (Za (Za (zg [1,2,3,4,5,11,12,71] 2 (Zb (cn h18 (fun _ h20=>?_) (fun _ h21=>?_)))))))
 exact Za (zg [10] 0 (Zb (Zg (Zh (ZE (Zh (rr h20 ⟨rfl,er0 _⟩)))))))
 refine Ze (Zb (Za (Za ?_)))
 obtain ⟨r6,q22,h23⟩:=bind_some h21
 refine zr [1,2,3,4,5,11,12,81] 2 Zz (rq2 (fun hg=>Ks _ _ _ (Xn q22 hg)) rqn) (Zb (cn h23 (fun _ h25=>?_) (fun _ h26=>?_)))
 exact Za (zg [10] 0 (Zb (Zg (Zh (ZE (Zh (rr h25 ⟨rfl,er0 _⟩)))))))
 refine Ze (Zb (Za (zg [1,2,3,4,5,11,12,13] 2 (Zb (Zj ?_)))))
 obtain ⟨y9,q36,h37⟩:=bind_some h26
 refine zl (fun (p7:Int)=>⟨95,[u1,(2,.int .i64 a2),(3,.int .i64 a3),(4,.int .i64 a4),(5,.ref 0 0),(11,.int .i64 p1),(12,.ref 1 0),(13,.int .i64 p7)],[.box u2,.box (Zv (a1.getD p1.toNat default))]⟩) (Sum.elim (fun z=>OutE 2 (fun z=>⟨95,[u1,(2,.int .i64 a2),(3,.int .i64 a3),(4,.int .i64 a4),(5,.ref 0 0),(11,.int .i64 p1)],[.box u2]⟩) z) (fun z=>OutR Tryz.prog Tryz.f161 (.int .i64 z))) q36 ?_ ?_
 intro p7 y8 h27
 unfold M.Yk at h27
 refine Za (Za (zg [1,2,3,4,5,11,12,13,84] 2 (Zb (cn h27 (fun _ h29=>?_) (fun _ h30=>?_)))))
 refine Ze (Zb (Za (Zj (Za ?_))))
 obtain ⟨c31,h32⟩:=Zy h29
 refine zc [1,2,3,4,5,11,12,13,94] 2 c31 (Zb (cn h32 (fun _ h34=>?_) (fun _ h35=>?_)))
 exact Za (zg [10] 0 (Zb (Zg (ZE (Zh (rr h34 ⟨rfl,er0 _⟩))))))
 exact Ze (XO (Zb (zg [1,2,3,4,5,11,12,13] 2 (rn h35))))
 exact ZX (XC (re h30 ⟨rfl,kc⟩))
 intro e38 s39 o40
 rcases y9 with g10 | y11
 have h41:=XY h37
 obtain ⟨rfl,l43⟩:=o40
 exact Y0 (XO (XD (s':=⟨95,[u1,(2,.int .i64 a2),(3,.int .i64 a3),(4,.int .i64 a4),(5,.ref 0 0),(11,.int .i64 p1)],[.box u2]⟩) (l43) (zg [1,2,3,4,5,11] 1 (rn h41))))
 have h42:=XZ h37
 obtain ⟨rfl,n44⟩:=o40
 exact ZE (ZE (Zh (rr h42 ⟨rfl,n44⟩)))
 exact ZX (XC (re h7 ⟨rfl,kc⟩))
 intro e47 s48 o49
 rcases y12 with g13 | y14
 have h50:=XY h46
 exact zi o49 (Za (zg [10] 0 (Zb (Zg (er1 h50)))))
 have h51:=XZ h46
 obtain ⟨rfl,n53⟩:=o49
 refine ZE (Zh ?_)
 obtain rfl:=Option.some.inj h51
 exact n53
theorem ZdU (a0:Zf) (r:Int) (h:M.JU a0=some r):Fn Tryz.prog 110 [.agg (ZB a0)] (.pure (.int .i64 r)):=by
 let u1:List Ob:=[.box (ZB a0),.box (KQ a0.X5)]
 unfold M.JU at h
 refine ZT Tryz.func110 rfl (by kernel_rfl) (Za (zg [1] 1 (Zb (Za (zg [1,3] 2 (Zb (Za (Za (zg [1,3,10] 2 (Zb (cn h (fun _ h2=>?_) (fun _ h3=>?_))))))))))))
 refine Za (Za (zg [25] 0 (Zb (cn h2 (fun _ h5=>?_) (fun _ h6=>?_)))))
 exact Za (zg [2] 0 (Zb (Zg (Zh (Zh (er1 h5))))))
 exact Ze (Zb (Za (zg [2] 0 (Zb (Zg (Zh (er1 h6)))))))
 refine Ze (Zb (Za (Za ?_)))
 obtain ⟨r1,q7,h8⟩:=bind_some h3
 refine zr [1,3,29] 2 Zz (rq1 (X4 _ _ _ _ q7) rqn) (Zb (cn h8 (fun _ h10=>?_) (fun _ h11=>?_)))
 exact Za (zg [2] 0 (Zb (Zg (Zh (er1 h10)))))
 refine Ze (Zb (Za (Za (zg [1,3,33] 2 (Zb (cn h11 (fun _ h13=>?_) (fun _ h14=>?_)))))))
 exact Za (zg [2] 0 (Zb (Zg (Zh (er1 h13)))))
 refine Ze (Zb (Za (Za (zg [1,3,4] 2 (Zb (Zj ?_))))))
 obtain ⟨y12,q48,h49⟩:=bind_some h14
 refine zl (fun (p2:Int)=>⟨96,[(1,.ref 0 0),(3,.ref 1 0),(4,.int .i64 p2)],u1⟩) (Sum.elim (fun z=>OutE 0 (fun z=>⟨96,[(1,.ref 0 0),(3,.ref 1 0)],u1⟩) z) (fun z=>OutR Tryz.prog Tryz.f110 (.int .i64 z))) q48 ?_ ?_
 intro p2 y3 h15
 unfold M.Jb at h15
 refine Za (Za (zg [1,3,4,38] 2 (Zb (cn h15 (fun _ h17=>?_) (fun _ h18=>?_)))))
 refine Ze (Zb (Za (Zj (Za (Za ?_)))))
 obtain ⟨r4,q19,h20⟩:=bind_some h17
 obtain ⟨r5,q21,h22⟩:=bind_some h20
 obtain ⟨c23,h24⟩:=Zy h22
 refine zr [1,3,4,58] 2 c23 (rq1 (X4 _ _ _ _ q19) (rq2 (fun hg=>Uv _ _ (Xn q21 hg)) rqn)) (Zb (cn h24 (fun _ h26=>?_) (fun _ h27=>?_)))
 exact Za (zg [2] 0 (Zb (Zg (Zh (ZE (Zh (rr h26 ⟨rfl,er0 _⟩)))))))
 refine Ze (Zb (Za (zg [1,3,4,5] 2 (Zb (Zj ?_)))))
 obtain ⟨y9,q39,h40⟩:=bind_some h27
 refine zl (fun (p6:Int)=>⟨96,[(1,.ref 0 0),(3,.ref 1 0),(4,.int .i64 p2),(5,.int .i64 p6)],u1⟩) (Sum.elim (fun z=>OutE 2 (fun z=>⟨96,[(1,.ref 0 0),(3,.ref 1 0),(4,.int .i64 p2)],u1⟩) z) (fun z=>OutR Tryz.prog Tryz.f110 (.int .i64 z))) q39 ?_ ?_
 intro p6 y7 h28
 unfold M.Ja at h28
 refine Za (Za (zg [1,3,4,5,61] 2 (Zb (cn h28 (fun _ h30=>?_) (fun _ h31=>?_)))))
 refine Ze (Zb (Za (Zj (Za ?_))))
 obtain ⟨r8,q32,h33⟩:=bind_some h30
 obtain ⟨c34,h35⟩:=Zy h33
 refine zr [1,3,4,5,91] 2 c34 (rq2 (fun hg=>R8 _ _ _ (Xn q32 hg)) rqn) (Zb (cn h35 (fun _ h37=>?_) (fun _ h38=>?_)))
 exact Za (zg [2] 0 (Zb (Zg (ZE (Zh (rr h37 ⟨rfl,er0 _⟩))))))
 exact Ze (XO (Zb (zg [1,3,4,5] 2 (rn h38))))
 exact ZX (XC (re h31 ⟨rfl,kq⟩))
 intro e41 s42 o43
 rcases y9 with g10 | y11
 have h44:=XY h40
 obtain ⟨rfl,l46⟩:=o43
 exact Y0 (XO (XD (s':=⟨96,[(1,.ref 0 0),(3,.ref 1 0),(4,.int .i64 p2)],u1⟩) (l46) (zg [1,3,4] 2 (rn h44))))
 have h45:=XZ h40
 obtain ⟨rfl,n47⟩:=o43
 exact ZE (ZE (Zh (rr h45 ⟨rfl,n47⟩)))
 exact ZX (XC (re h18 ⟨rfl,kq⟩))
 intro e50 s51 o52
 rcases y12 with g13 | y14
 have h53:=XY h49
 refine zi o52 (Za ?_)
 obtain ⟨r15,q56,h57⟩:=bind_some h53
 exact zr [2] 0 Zz (rq1 (UL _ _ _ _ _ _ q56) rqn) (Zb (Zg (er1 h57)))
 have h54:=XZ h49
 obtain ⟨rfl,n58⟩:=o52
 refine ZE (Zh ?_)
 obtain rfl:=Option.some.inj h54
 exact n58
theorem Zes (a0:Zf) (r:Int) (h:M.Vj a0=some r):Fn Tryz.prog 111 [.agg (ZB a0)] (.pure (.int .i64 r)):=by
 unfold M.Vj at h
 refine ZT Tryz.func111 rfl (by kernel_rfl) (Za (zg [1] 1 (Zb (Za (zg [1,3] 2 (Zb (Za (Za (zg [1,3,8] 2 (Zb (cn h (fun _ h2=>?_) (fun _ h3=>?_))))))))))))
 refine Za (Za (zg [27] 0 (Zb (cn h2 (fun _ h5=>?_) (fun _ h6=>?_)))))
 exact Za (zg [2] 0 (Zb (Zg (Zh (Zh (er1 h5))))))
 exact Ze (Zb (Za (zg [2] 0 (Zb (Zg (Zh (er1 h6)))))))
 refine Ze (Zb (Za (Za ?_)))
 obtain ⟨r1,q7,h8⟩:=bind_some h3
 refine zr [1,3,31] 2 Zz (rq1 (X4 _ _ _ _ q7) rqn) (Zb (cn h8 (fun _ h10=>?_) (fun _ h11=>?_)))
 exact Za (zg [2] 0 (Zb (Zg (Zh (er1 h10)))))
 refine Ze (Zb (Za (Za ?_)))
 obtain ⟨r2,q12,h13⟩:=bind_some h11
 obtain ⟨r3,q14,h15⟩:=bind_some h13
 refine zr [1,3,53] 2 Zz (rq2 (fun hg=>GQ _ _ _ (Xn q12 hg)) (rq2 (fun hg=>GQ _ _ _ (Xn q14 hg)) rqn)) (Zb (cn h15 (fun _ h17=>?_) (fun _ h18=>?_)))
 exact Za (zg [2] 0 (Zb (Zg (Zh (er1 h17)))))
 refine Ze (Zb (Za ?_))
 obtain ⟨r4,q19,h20⟩:=bind_some h18
 exact zr [2] 0 Zz (rq1 (UL _ _ _ _ _ _ q19) rqn) (Zb (Zg (er1 h20)))
theorem ZdV (a0:Zf) (r:Int) (h:M.Ve a0=some r):Fn Tryz.prog 162 [.agg (ZB a0)] (.pure (.int .i64 r)):=by
 let u1:Nat × D:=(3,sL 4 Xq a0.Z8.Zl)
 let u2:List Ob:=[.box (ZB a0)]
 unfold M.Ve at h
 refine ZT Tryz.func162 rfl (by kernel_rfl) (Za (zg [1] 1 (Zb (Za (zg [1,3] 1 (Zb (Za (Za (zg [1,3,11] 1 (Zb (cn h (fun _ h2=>?_) (fun _ h3=>?_))))))))))))
 exact Za (zg [2] 0 (Zb (Zg (Zh (er1 h2)))))
 refine Ze (Zb (Za (Za (zg [1,3,4] 1 (Zb (Zj ?_))))))
 obtain ⟨y11,q42,h43⟩:=bind_some h3
 refine zl (fun (p1:Int)=>⟨83,[(1,.ref 0 0),u1,(4,.int .i64 p1)],u2⟩) (Sum.elim (fun z=>OutE 0 (fun z=>⟨83,[],[]⟩) z) (fun z=>OutR Tryz.prog Tryz.f162 (.int .i64 z))) q42 ?_ ?_
 intro p1 y2 h4
 unfold M.Jd at h4
 refine Za (Za (zg [1,3,4,15] 1 (Zb (cn h4 (fun _ h6=>?_) (fun _ h7=>?_)))))
 refine Ze (Zb (Za (Zj (Za (Za ?_)))))
 obtain ⟨r3,q8,h9⟩:=bind_some h6
 obtain ⟨c10,h11⟩:=Zy h9
 refine zr [1,3,4,32] 1 c10 (rq2 (fun hg=>X4 _ _ _ _ (Xn q8 hg)) rqn) (Zb (cn h11 (fun _ h13=>?_) (fun _ h14=>?_)))
 exact Za (zg [2] 0 (Zb (Zg (Zh (ZE (Zh (rr h13 ⟨rfl,er0 _⟩)))))))
 refine Ze (Zb (Za (Za ?_)))
 obtain ⟨r4,q15,h16⟩:=bind_some h14
 obtain ⟨r5,q17,h18⟩:=bind_some h16
 obtain ⟨c19,h20⟩:=Zy h18
 refine zr [1,3,4,66] 1 c19 (rq2 (fun hg=>Ks _ _ _ (Xn q15 hg)) (rq2 (fun hg=>Ks _ _ _ (Xn q17 hg)) rqn)) (Zb (cn h20 (fun _ h22=>?_) (fun _ h23=>?_)))
 exact Za (zg [2] 0 (Zb (Zg (Zh (ZE (Zh (rr h22 ⟨rfl,er0 _⟩)))))))
 refine Ze (Zb (Za (zg [1,3,4,5] 1 (Zb (Zj ?_)))))
 obtain ⟨y8,q33,h34⟩:=bind_some h23
 refine zl (fun (p6:Int)=>⟨83,[(1,.ref 0 0),u1,(4,.int .i64 p1),(5,.int .i64 p6)],u2⟩) (Sum.elim (fun z=>OutE 2 (fun z=>⟨83,[(1,.ref 0 0),u1,(4,.int .i64 p1)],u2⟩) z) (fun z=>OutR Tryz.prog Tryz.f162 (.int .i64 z))) q33 ?_ ?_
 intro p6 y7 h24
 unfold M.Jc at h24
 refine Za (Za (zg [1,3,4,5,69] 1 (Zb (cn h24 (fun _ h26=>?_) (fun _ h27=>?_)))))
 refine Ze (Zb (Za (Zj (Za ?_))))
 obtain ⟨c28,h29⟩:=Zy h26
 refine zc [1,3,4,5,82] 1 c28 (Zb (cn h29 (fun _ h31=>?_) (fun _ h32=>?_)))
 exact Za (zg [2] 0 (Zb (Zg (ZE (Zh (rr h31 ⟨rfl,er0 _⟩))))))
 exact Ze (XO (Zb (zg [1,3,4,5] 1 (rn h32))))
 exact ZX (XC (re h27 ⟨rfl,kq⟩))
 intro e35 s36 o37
 rcases y8 with g9 | y10
 have h38:=XY h34
 obtain ⟨rfl,l40⟩:=o37
 exact Y0 (XO (XD (s':=⟨83,[(1,.ref 0 0),u1,(4,.int .i64 p1)],u2⟩) (l40) (zg [1,3,4] 1 (rn h38))))
 have h39:=XZ h34
 obtain ⟨rfl,n41⟩:=o37
 exact ZE (ZE (Zh (rr h39 ⟨rfl,n41⟩)))
 exact ZX (XC (re h7 ⟨rfl,kc⟩))
 intro e44 s45 o46
 rcases y11 with g12 | y13
 have h47:=XY h43
 exact zi o46 (Za (zg [2] 0 (Zb (Zg (er1 h47)))))
 have h48:=XZ h43
 obtain ⟨rfl,n50⟩:=o46
 refine ZE (Zh ?_)
 obtain rfl:=Option.some.inj h48
 exact n50
theorem ZbI (a0:Xb) (r:Int) (h:M.Je a0=some r):Fn Tryz.prog 163 [.agg (U4 a0)] (.pure (.int .i64 r)):=by
 let u1:List Ob:=[.box (U4 a0)]
 let u2:St:=⟨126,[(1,.ref 0 0)],u1⟩
 unfold M.Je at h
 refine ZT Tryz.func163 rfl (by kernel_rfl) (Za (zg [1] 1 (Zb (Za (Za (zg [1,13] 1 (Zb (cn h (fun _ h2=>?_) (fun _ h3=>?_)))))))))
 exact Za (zg [2] 0 (Zb (Zg (Zh (er1 h2)))))
 refine Ze (Zb (Za (Za (zg [1,3] 1 (Zb (Zj ?_))))))
 obtain ⟨y9,q33,h34⟩:=bind_some h3
 refine zl (fun (p1:Int)=>⟨126,[(1,.ref 0 0),(3,.int .i64 p1)],u1⟩) (Sum.elim (fun z=>OutE 0 (fun z=>u2) z) (fun z=>OutR Tryz.prog Tryz.f163 (.int .i64 z))) q33 ?_ ?_
 intro p1 y2 h4
 unfold M.Y3 at h4
 refine Za (Za (zg [1,3,18] 1 (Zb (cn h4 (fun _ h6=>?_) (fun _ h7=>?_)))))
 refine Ze (Zb (Za (Zj (Za (Za ?_)))))
 obtain ⟨r3,q8,h9⟩:=bind_some h6
 obtain ⟨c10,h11⟩:=Zy h9
 refine zr [1,3,27] 1 c10 (rq1 (Uv _ _ q8) rqn) (Zb (cn h11 (fun _ h13=>?_) (fun _ h14=>?_)))
 exact Za (zg [2] 0 (Zb (Zg (Zh (ZE (Zh (rr h13 ⟨rfl,er0 _⟩)))))))
 refine Ze (Zb (Za (zg [1,3,4] 1 (Zb (Zj ?_)))))
 obtain ⟨y6,q24,h25⟩:=bind_some h14
 refine zl (fun (p4:Int)=>⟨126,[(1,.ref 0 0),(3,.int .i64 p1),(4,.int .i64 p4)],u1⟩) (Sum.elim (fun z=>OutE 2 (fun z=>⟨126,[(1,.ref 0 0),(3,.int .i64 p1)],u1⟩) z) (fun z=>OutR Tryz.prog Tryz.f163 (.int .i64 z))) q24 ?_ ?_
 intro p4 y5 h15
 unfold M.Qv at h15
 refine Za (Za (zg [1,3,4,30] 1 (Zb (cn h15 (fun _ h17=>?_) (fun _ h18=>?_)))))
 refine Ze (Zb (Za (Zj (Za ?_))))
 obtain ⟨c19,h20⟩:=Zy h17
 refine zc [1,3,4,43] 1 c19 (Zb (cn h20 (fun _ h22=>?_) (fun _ h23=>?_)))
 exact Za (zg [2] 0 (Zb (Zg (ZE (Zh (rr h22 ⟨rfl,er0 _⟩))))))
 exact Ze (XO (Zb (zg [1,3,4] 1 (rn h23))))
 exact ZX (XC (re h18 ⟨rfl,kq⟩))
 intro e26 s27 o28
 rcases y6 with g7 | y8
 have h29:=XY h25
 obtain ⟨rfl,l31⟩:=o28
 exact Y0 (XO (XD (s':=⟨126,[(1,.ref 0 0),(3,.int .i64 p1)],u1⟩) (l31) (zg [1,3] 1 (rn h29))))
 have h30:=XZ h25
 obtain ⟨rfl,n32⟩:=o28
 exact ZE (ZE (Zh (rr h30 ⟨rfl,n32⟩)))
 exact ZX (XC (re h7 ⟨rfl,kq⟩))
 intro e35 s36 o37
 rcases y9 with g10 | y11
 have h38:=XY h34
 refine zi o37 (Za (Za (zg [1,47] 1 (Zb (cn h38 (fun _ h42=>?_) (fun _ h43=>?_))))))
 exact Za (zg [2] 0 (Zb (Zg (Zh (er1 h42)))))
 refine Ze (Zb (Za (Za (zg [1,5] 1 (Zb (Zj ?_))))))
 obtain ⟨y20,q73,h74⟩:=bind_some h43
 refine zl (fun (p12:Int)=>⟨126,[(1,.ref 0 0),(5,.int .i64 p12)],u1⟩) (Sum.elim (fun z=>OutE 4 (fun z=>u2) z) (fun z=>OutR Tryz.prog Tryz.f163 (.int .i64 z))) q73 ?_ ?_
 intro p12 y13 h44
 unfold M.Y5 at h44
 refine Za (Za (zg [1,5,52] 1 (Zb (cn h44 (fun _ h46=>?_) (fun _ h47=>?_)))))
 refine Ze (Zb (Za (Zj (Za (Za ?_)))))
 obtain ⟨r14,q48,h49⟩:=bind_some h46
 obtain ⟨c50,h51⟩:=Zy h49
 refine zr [1,5,62] 1 c50 (rq1 (Uv _ _ q48) rqn) (Zb (cn h51 (fun _ h53=>?_) (fun _ h54=>?_)))
 exact Za (zg [2] 0 (Zb (Zg (Zh (ZE (Zh (rr h53 ⟨rfl,er0 _⟩)))))))
 refine Ze (Zb (Za (zg [1,5,6] 1 (Zb (Zj ?_)))))
 obtain ⟨y17,q64,h65⟩:=bind_some h54
 refine zl (fun (p15:Int)=>⟨126,[(1,.ref 0 0),(5,.int .i64 p12),(6,.int .i64 p15)],u1⟩) (Sum.elim (fun z=>OutE 6 (fun z=>⟨126,[(1,.ref 0 0),(5,.int .i64 p12)],u1⟩) z) (fun z=>OutR Tryz.prog Tryz.f163 (.int .i64 z))) q64 ?_ ?_
 intro p15 y16 h55
 unfold M.Y4 at h55
 refine Za (Za (zg [1,5,6,65] 1 (Zb (cn h55 (fun _ h57=>?_) (fun _ h58=>?_)))))
 refine Ze (Zb (Za (Zj (Za ?_))))
 obtain ⟨c59,h60⟩:=Zy h57
 refine zc [1,5,6,80] 1 c59 (Zb (cn h60 (fun _ h62=>?_) (fun _ h63=>?_)))
 exact Za (zg [2] 0 (Zb (Zg (ZE (Zh (rr h62 ⟨rfl,er0 _⟩))))))
 exact Ze (XO (Zb (zg [1,5,6] 1 (rn h63))))
 exact ZX (XC (re h58 ⟨rfl,kq⟩))
 intro e66 s67 o68
 rcases y17 with g18 | y19
 have h69:=XY h65
 obtain ⟨rfl,l71⟩:=o68
 exact Y0 (XO (XD (s':=⟨126,[(1,.ref 0 0),(5,.int .i64 p12)],u1⟩) (l71) (zg [1,5] 1 (rn h69))))
 have h70:=XZ h65
 obtain ⟨rfl,n72⟩:=o68
 exact ZE (ZE (Zh (rr h70 ⟨rfl,n72⟩)))
 exact ZX (XC (re h47 ⟨rfl,kq⟩))
 intro e75 s76 o77
 rcases y20 with g21 | y22
 have h78:=XY h74
 refine zi o77 (Za (Za (zg [1,84] 1 (Zb (cn h78 (fun _ h82=>?_) (fun _ h83=>?_))))))
 exact Za (zg [2] 0 (Zb (Zg (Zh (er1 h82)))))
 refine Ze (Zb (Za (Za (zg [1,7] 1 (Zb (Zj ?_))))))
 obtain ⟨y32,q118,h119⟩:=bind_some h83
 refine zl (fun (p23:Int)=>⟨126,[(1,.ref 0 0),(7,.int .i64 p23)],u1⟩) (Sum.elim (fun z=>OutE 8 (fun z=>⟨126,[],[]⟩) z) (fun z=>OutR Tryz.prog Tryz.f163 (.int .i64 z))) q118 ?_ ?_
 intro p23 y24 h84
 unfold M.Y7 at h84
 refine Za (Za (zg [1,7,89] 1 (Zb (cn h84 (fun _ h86=>?_) (fun _ h87=>?_)))))
 refine Ze (Zb (Za (Zj (Za ?_))))
 obtain ⟨c88,h89⟩:=Zy h86
 refine zc [1,7,8] 2 c88 (Zb (Za (Za ?_)))
 obtain ⟨r25,q90,h91⟩:=bind_some h89
 obtain ⟨r26,q92,h93⟩:=bind_some h91
 refine zr [1,7,8,106] 2 Zz (rq1 (Uv _ _ q90) (rq2 (fun hg=>Uv _ _ (Xn q92 hg)) rqn)) (Zb (cn h93 (fun _ h95=>?_) (fun _ h96=>?_)))
 exact Za (zg [2] 0 (Zb (Zg (Zh (ZE (Zh (rr h95 ⟨rfl,er0 _⟩)))))))
 refine Ze (Zb (Za (Za (zg [1,7,8,111] 2 (Zb (cn h96 (fun _ h98=>?_) (fun _ h99=>?_)))))))
 exact Za (zg [2] 0 (Zb (Zg (Zh (ZE (Zh (rr h98 ⟨rfl,er0 _⟩)))))))
 refine Ze (Zb (Za (zg [1,7,8,9] 2 (Zb (Zj ?_)))))
 obtain ⟨y29,q109,h110⟩:=bind_some h99
 refine zl (fun (p27:Int)=>⟨126,[(1,.ref 0 0),(7,.int .i64 p23),(8,.ref 1 0),(9,.int .i64 p27)],[.box (U4 a0),.box (Xe (a0.Zn.getD p23.toNat default))]⟩) (Sum.elim (fun z=>OutE 10 (fun z=>⟨126,[(1,.ref 0 0),(7,.int .i64 p23)],u1⟩) z) (fun z=>OutR Tryz.prog Tryz.f163 (.int .i64 z))) q109 ?_ ?_
 intro p27 y28 h100
 unfold M.Y6 at h100
 refine Za (Za (zg [1,7,8,9,114] 2 (Zb (cn h100 (fun _ h102=>?_) (fun _ h103=>?_)))))
 refine Ze (Zb (Za (Zj (Za ?_))))
 obtain ⟨c104,h105⟩:=Zy h102
 refine zc [1,7,8,9,125] 2 c104 (Zb (cn h105 (fun _ h107=>?_) (fun _ h108=>?_)))
 exact Za (zg [2] 0 (Zb (Zg (ZE (Zh (rr h107 ⟨rfl,er0 _⟩))))))
 exact Ze (XO (Zb (zg [1,7,8,9] 2 (rn h108))))
 exact ZX (XC (re h103 ⟨rfl,kc⟩))
 intro e111 s112 o113
 rcases y29 with g30 | y31
 have h114:=XY h110
 obtain ⟨rfl,l116⟩:=o113
 exact Y0 (XO (XD (s':=⟨126,[(1,.ref 0 0),(7,.int .i64 p23)],u1⟩) (l116) (zg [1,7] 1 (rn h114))))
 have h115:=XZ h110
 obtain ⟨rfl,n117⟩:=o113
 exact ZE (ZE (Zh (rr h115 ⟨rfl,n117⟩)))
 exact ZX (XC (re h87 ⟨rfl,kc⟩))
 intro e120 s121 o122
 rcases y32 with g33 | y34
 have h123:=XY h119
 exact zi o122 (Za (zg [2] 0 (Zb (Zg (er1 h123)))))
 have h124:=XZ h119
 obtain ⟨rfl,n126⟩:=o122
 refine ZE (Zh ?_)
 obtain rfl:=Option.some.inj h124
 exact n126
 have h79:=XZ h74
 obtain ⟨rfl,n127⟩:=o77
 refine ZE (Zh ?_)
 obtain rfl:=Option.some.inj h79
 exact n127
 have h39:=XZ h34
 obtain ⟨rfl,n128⟩:=o37
 refine ZE (Zh ?_)
 obtain rfl:=Option.some.inj h39
 exact n128
theorem Zdg (a0:Zf) (r:Int) (h:M.Jy a0=some r):Fn Tryz.prog 112 [.agg (ZB a0)] (.pure (.int .i64 r)):=by
 unfold M.Jy at h
 refine ZT Tryz.func112 rfl (by kernel_rfl) (Za (zg [1] 1 (Zb (Za (zg [1,3] 2 (Zb (Za (Za (zg [1,3,10] 2 (Zb (cn h (fun _ h2=>?_) (fun _ h3=>?_))))))))))))
 refine Za (Za (zg [40] 0 (Zb (cn h2 (fun _ h5=>?_) (fun _ h6=>?_)))))
 exact Za (zg [2] 0 (Zb (Zg (Zh (Zh (er1 h5))))))
 exact Ze (Zb (Za (zg [2] 0 (Zb (Zg (Zh (er1 h6)))))))
 refine Ze (Zb (Za (Za ?_)))
 obtain ⟨r1,q7,h8⟩:=bind_some h3
 obtain ⟨r2,q9,h10⟩:=bind_some h8
 refine zr [1,3,55] 2 Zz (rq2 (fun hg=>X4 _ _ _ _ (Xn q7 hg)) (rq2 (fun hg=>X4 _ _ _ _ (Xn q9 hg)) rqn)) (Zb (cn h10 (fun _ h12=>?_) (fun _ h13=>?_)))
 exact Za (zg [2] 0 (Zb (Zg (Zh (er1 h12)))))
 refine Ze (Zb (Za (Za ?_)))
 obtain ⟨r3,q14,h15⟩:=bind_some h13
 refine zr [1,3,4] 2 Zz (rq1 (ZdV _ _ q14) rqn) (Zb (Za (zg [1,3,4,59] 2 (Zb (cn h15 (fun _ h17=>?_) (fun _ h18=>?_))))))
 exact Za (zg [2] 0 (Zb (Zg (Zh (er1 h17)))))
 refine Ze (Zb (Za (Za ?_)))
 obtain ⟨r4,q19,h20⟩:=bind_some h18
 refine zr [1,3,5] 2 Zz (rq1 (ZbI _ _ q19) rqn) (Zb (Za (zg [1,3,5,64] 2 (Zb (cn h20 (fun _ h22=>?_) (fun _ h23=>?_))))))
 exact Za (zg [2] 0 (Zb (Zg (Zh (er1 h22)))))
 refine Ze (Zb (Za ?_))
 obtain ⟨r5,q24,h25⟩:=bind_some h23
 exact zr [2] 0 Zz (rq1 (UL _ _ _ _ _ _ q24) rqn) (Zb (Zg (er1 h25)))
theorem Zct (a0:Zf) (r:Int) (h:M.Q0 a0=some r):Fn Tryz.prog 65 [.agg (ZB a0)] (.pure (.int .i64 r)):=by
 unfold M.Q0 at h
 refine ZT Tryz.func65 rfl (by kernel_rfl) (Za (zg [1] 1 (Zb (Za (Za ?_)))))
 obtain ⟨r1,q1,h2⟩:=bind_some h
 refine zr [1,8] 1 Zz (rq1 (Kg _ _ q1) rqn) (Zb (cn h2 (fun _ h4=>?_) (fun _ h5=>?_)))
 exact Za (zg [2] 0 (Zb (Zg (Zh (er1 h4)))))
 refine Ze (Zb (Za (Za ?_)))
 obtain ⟨r2,q6,h7⟩:=bind_some h5
 refine zr [1,12] 1 Zz (rq1 (X4 _ _ _ _ q6) rqn) (Zb (cn h7 (fun _ h9=>?_) (fun _ h10=>?_)))
 exact Za (zg [2] 0 (Zb (Zg (Zh (er1 h9)))))
 refine Ze (Zb (Za ?_))
 obtain ⟨r3,q11,h12⟩:=bind_some h10
 obtain ⟨r4,q13,h14⟩:=bind_some h12
 obtain ⟨r5,q15,h16⟩:=bind_some h14
 obtain ⟨r6,q17,h18⟩:=bind_some h16
 obtain ⟨r7,q19,h20⟩:=bind_some h18
 obtain ⟨r8,q21,h22⟩:=bind_some h20
 obtain ⟨r9,q23,h24⟩:=bind_some h22
 obtain ⟨r10,q25,h26⟩:=bind_some h24
 obtain ⟨r11,q27,h28⟩:=bind_some h26
 obtain ⟨r12,q29,h30⟩:=bind_some h28
 refine rg [.pure (.int .i64 r3),.pure (.int .i64 r4),.pure (.int .i64 r5),.pure (.int .i64 r6),.pure (.int .i64 r7),.pure (.int .i64 r8),.pure (.int .i64 r9),.pure (.int .i64 r10),.pure (.int .i64 r11),.pure (.int .i64 r12)] [3] 0 ⟨52,[(3,.sl true 1 10 (fun i=>List.take 1 (List.drop (i*1) [.int .i64 r3,.int .i64 r4,.int .i64 r5,.int .i64 r6,.int .i64 r7,.int .i64 r8,.int .i64 r9,.int .i64 r10,.int .i64 r11,.int .i64 r12])))],[]⟩ [] [⟨true,103,[sL 12 Zm a0.Zc],.pure (.int .i64 r3)⟩,⟨true,104,[sL 2 Zu a0.Xi],.pure (.int .i64 r4)⟩,⟨true,105,[.agg (ZB a0)],.pure (.int .i64 r5)⟩,⟨true,106,[sL 2 Yr a0.XK],.pure (.int .i64 r6)⟩,⟨true,107,[.agg (ZB a0)],.pure (.int .i64 r7)⟩,⟨true,108,[.agg (ZB a0)],.pure (.int .i64 r8)⟩,⟨true,109,[.agg (ZB a0)],.pure (.int .i64 r9)⟩,⟨true,110,[.agg (ZB a0)],.pure (.int .i64 r10)⟩,⟨true,111,[.agg (ZB a0)],.pure (.int .i64 r11)⟩,⟨true,112,[.agg (ZB a0)],.pure (.int .i64 r12)⟩] Zz ⟨fun _=>Zdf a0.Zc r3 q11,fun _=>Zcr a0.Xi r4 q13,fun _=>ZdR a0 r5 q15,fun _=>Zcs a0.XK r6 q17,fun _=>ZbH a0 r7 q19,fun _=>ZeY a0 r8 q21,fun _=>ZeZ a0 r9 q23,fun _=>ZdU a0 r10 q25,fun _=>Zes a0 r11 q27,fun _=>Zdg a0 r12 q29,trivial⟩ (XD (s':=⟨52,[(3,sL 1 (ci .i64) ([r3,r4,r5,r6,r7,r8,r9,r10,r11,r12]:List Int))],[]⟩) (JQ (.cons (W0 rfl (fun i hi=>match i,hi with | 0,_=>rfl | 1,_=>rfl | 2,_=>rfl | 3,_=>rfl | 4,_=>rfl | 5,_=>rfl | 6,_=>rfl | 7,_=>rfl | 8,_=>rfl | 9,_=>rfl | n+10,h=>absurd h (by omega))) .nil) .nil) (Za (Za (zg [3,4] 0 (Zb (Zj ?_))))))
 obtain ⟨y15,q42,h43⟩:=bind_some h30
 refine zl (fun (p13:Int)=>⟨52,[(3,sL 1 (ci .i64) ([r3,r4,r5,r6,r7,r8,r9,r10,r11,r12]:List Int)),(4,.int .i64 p13)],[]⟩) (Sum.elim (fun z=>OutE 0 (fun z=>⟨52,[],[]⟩) z) (fun z=>OutR Tryz.prog Tryz.f65 (.int .i64 z))) q42 ?_ ?_
 intro p13 y14 h31
 unfold M.Jq at h31
 refine Za (Za (zg [3,4,40] 0 (Zb (cn h31 (fun _ h33=>?_) (fun _ h34=>?_)))))
 refine Ze (Zb (Za (Zj (Za ?_))))
 obtain ⟨c35,h36⟩:=Zy h33
 refine zc [3,4,47] 0 c35 (Zb (cn h36 (fun _ h38=>?_) (fun _ h39=>?_)))
 refine Za ?_
 obtain ⟨c40,h41⟩:=Zy h38
 exact zc [2] 0 c40 (Zb (Zg (ZE (Zh (rr h41 ⟨rfl,er0 _⟩)))))
 exact Ze (XO (Zb (zg [3,4] 0 (rn h39))))
 exact ZX (XC (re h34 ⟨rfl,kq⟩))
 intro e44 s45 o46
 rcases y15 with g16 | y17
 have h47:=XY h43
 exact zi o46 (Za (zg [2] 0 (Zb (Zg (er1 h47)))))
 have h48:=XZ h43
 obtain ⟨rfl,n50⟩:=o46
 refine ZE (Zh ?_)
 obtain rfl:=Option.some.inj h48
 exact n50
theorem Zgt (a0:ZP) (r:Int) (h:M.Wl a0=some r):Fn Tryz.prog 44 [.agg (Yn a0)] (.pure (.int .i64 r)):=by
 let u1:List Ob:=[.box (Yn a0)]
 unfold M.Wl at h
 refine ZT Tryz.func44 rfl (by kernel_rfl) (Za (zg [1] 1 (Zb (Za (Za (zg [1,12] 1 (Zb (cn h (fun _ h2=>?_) (fun _ h3=>?_)))))))))
 exact Za (zg [2] 0 (Zb (Zg (Zh (er1 h2)))))
 refine Ze (Zb (Za (Za (zg [1,3] 1 (Zb (Zj ?_))))))
 obtain ⟨y20,q70,h71⟩:=bind_some h3
 refine zl (fun (p1:Int)=>⟨86,[(1,.ref 0 0),(3,.int .i64 p1)],u1⟩) (Sum.elim (fun z=>OutE 0 (fun z=>⟨86,[],[]⟩) z) (fun z=>OutR Tryz.prog Tryz.f44 (.int .i64 z))) q70 ?_ ?_
 intro p1 y2 h4
 unfold M.VM at h4
 refine Za (Za (zg [1,3,17] 1 (Zb (cn h4 (fun _ h6=>?_) (fun _ h7=>?_)))))
 refine Ze (Zb (Za (Zj (Za (Za ?_)))))
 obtain ⟨r3,q8,h9⟩:=bind_some h6
 obtain ⟨c10,h11⟩:=Zy h9
 refine zr [1,3,4] 1 c10 (rq1 (Zct _ _ q8) rqn) (Zb (Za (zg [1,3,4,27] 1 (Zb (cn h11 (fun _ h13=>?_) (fun _ h14=>?_))))))
 exact Za (zg [2] 0 (Zb (Zg (Zh (ZE (Zh (rr h13 ⟨rfl,er0 _⟩)))))))
 refine Ze (Zb (Za (Za (zg [1,3,5] 1 (Zb (Zj ?_))))))
 obtain ⟨y6,q24,h25⟩:=bind_some h14
 refine zl (fun (p4:Int)=>⟨86,[(1,.ref 0 0),(3,.int .i64 p1),(5,.int .i64 p4)],u1⟩) (Sum.elim (fun z=>OutE 2 (fun z=>⟨86,[(1,.ref 0 0),(3,.int .i64 p1)],u1⟩) z) (fun z=>OutR Tryz.prog Tryz.f44 (.int .i64 z))) q24 ?_ ?_
 intro p4 y5 h15
 unfold M.Wd at h15
 refine Za (Za (zg [1,3,5,31] 1 (Zb (cn h15 (fun _ h17=>?_) (fun _ h18=>?_)))))
 refine Ze (Zb (Za (Zj (Za ?_))))
 obtain ⟨c19,h20⟩:=Zy h17
 refine zc [1,3,5,46] 1 c19 (Zb (cn h20 (fun _ h22=>?_) (fun _ h23=>?_)))
 exact Za (zg [2] 0 (Zb (Zg (ZE (Zh (rr h22 ⟨rfl,er0 _⟩))))))
 exact Ze (XO (Zb (zg [1,3,5] 1 (rn h23))))
 exact ZX (XC (re h18 ⟨rfl,kq⟩))
 intro e26 s27 o28
 rcases y6 with g7 | y8
 have h29:=XY h25
 refine zi o28 (Za (zg [1,3,6] 1 (Zb (Zj ?_))))
 obtain ⟨y17,q60,h61⟩:=bind_some h29
 refine zl (fun (p9:Int)=>⟨86,[(1,.ref 0 0),(3,.int .i64 p1),(6,.int .i64 p9)],u1⟩) (Sum.elim (fun z=>OutE 4 (fun z=>⟨86,[(1,.ref 0 0),(3,.int .i64 p1)],u1⟩) z) (fun z=>OutR Tryz.prog Tryz.f44 (.int .i64 z))) q60 ?_ ?_
 intro p9 y10 h32
 unfold M.VL at h32
 refine Za (Za ?_)
 obtain ⟨c33,h34⟩:=Zy h32
 refine zc [1,3,6,55] 1 c33 (Zb (cn h34 (fun _ h36=>?_) (fun _ h37=>?_)))
 refine Ze (Zb (Za (Zj (Za ?_))))
 obtain ⟨c38,h39⟩:=Zy h36
 refine zc [1,3,6,7] 2 c38 (Zb (Za (zg [1,3,6,7,8] 2 (Zb (Zj ?_)))))
 obtain ⟨y14,q51,h52⟩:=bind_some h39
 refine zl (fun (p11:Int)=>⟨86,[(1,.ref 0 0),(3,.int .i64 p1),(6,.int .i64 p9),(7,.ref 1 0),(8,.int .i64 p11)],[.box (Yn a0),.box (Zm (((a0.Zd.getD p1.toNat default).Zc).getD p9.toNat default))]⟩) (Sum.elim (fun z=>OutE 6 (fun z=>⟨86,[(1,.ref 0 0),(3,.int .i64 p1),(6,.int .i64 p9)],u1⟩) z) (fun z=>OutR Tryz.prog Tryz.f44 (.int .i64 z))) q51 ?_ ?_
 intro p11 y12 h40
 unfold M.VK at h40
 refine Za (Za (zg [1,3,6,7,8,69] 2 (Zb (cn h40 (fun _ h42=>?_) (fun _ h43=>?_)))))
 refine Ze (Zb (Za (Zj (Za ?_))))
 obtain ⟨r13,q44,h45⟩:=bind_some h42
 obtain ⟨c46,h47⟩:=Zy h45
 refine zr [1,3,6,7,8,85] 2 c46 (rq2 (fun hg=>Za1 _ _ _ (Xn q44 hg)) rqn) (Zb (cn h47 (fun _ h49=>?_) (fun _ h50=>?_)))
 exact Za (zg [2] 0 (Zb (Zg (ZE (Zh (rr h49 ⟨rfl,er0 _⟩))))))
 exact Ze (XO (Zb (zg [1,3,6,7,8] 2 (rn h50))))
 exact ZX (XC (re h43 ⟨rfl,kc⟩))
 intro e53 s54 o55
 rcases y14 with g15 | y16
 have h56:=XY h52
 obtain ⟨rfl,l58⟩:=o55
 exact Y0 (XO (XD (s':=⟨86,[(1,.ref 0 0),(3,.int .i64 p1),(6,.int .i64 p9)],u1⟩) (l58) (zg [1,3,6] 1 (rn h56))))
 have h57:=XZ h52
 obtain ⟨rfl,n59⟩:=o55
 exact ZE (ZE (Zh (rr h57 ⟨rfl,n59⟩)))
 exact ZX (XC (re h37 ⟨rfl,kq⟩))
 intro e62 s63 o64
 rcases y17 with g18 | y19
 have h65:=XY h61
 obtain ⟨rfl,l67⟩:=o64
 exact Y0 (XO (XD (s':=⟨86,[(1,.ref 0 0),(3,.int .i64 p1)],u1⟩) (l67) (zg [1,3] 1 (rn h65))))
 have h66:=XZ h61
 obtain ⟨rfl,n68⟩:=o64
 exact ZE (ZE (Zh (rr h66 ⟨rfl,n68⟩)))
 have h30:=XZ h25
 obtain ⟨rfl,n69⟩:=o28
 exact ZE (Zh (ZE (Zh (rr h30 ⟨rfl,n69⟩))))
 exact ZX (XC (re h7 ⟨rfl,kc⟩))
 intro e72 s73 o74
 rcases y20 with g21 | y22
 have h75:=XY h71
 exact zi o74 (Za (zg [2] 0 (Zb (Zg (er1 h75)))))
 have h76:=XZ h71
 obtain ⟨rfl,n78⟩:=o74
 refine ZE (Zh ?_)
 obtain rfl:=Option.some.inj h76
 exact n78
theorem Ze0 (a0:ZO) (a1:ZO) (r:Int) (h:M.WF a0 a1=some r):Fn Tryz.prog 46 [.agg (Z7 a0),.agg (Z7 a1)] (.pure (.int .i64 r)):=by
 unfold M.WF at h
 refine ZT Tryz.func46 rfl (by kernel_rfl) (Za (zg [2,3] 2 (Zb (Za (Za (zg [2,3,23] 2 (Zb (cn h (fun _ h2=>?_) (fun _ h3=>?_)))))))))
 exact Za (zg [4] 0 (Zb (Zg (Zh (er1 h2)))))
 refine Ze (Zb (Za (Za (zg [26] 0 (Zb (cn h3 (fun _ h5=>?_) (fun _ h6=>?_)))))))
 exact Za (zg [4] 0 (Zb (Zg (Zh (er1 h5)))))
 exact Ze (Zb (Za (zg [4] 0 (Zb (Zg (er1 h6))))))
theorem Zf9 (a0:ZP) (r:Qs × Int) (h:M.GW a0=some r):Fn Tryz.prog 13 [.agg (Yn a0)] (.pure (.tup [.agg (Zbz r.1),.int .i64 r.2])):=by
 let u2:=Yn a0
 let u7:List Ob:=[.box u2,.box [.sl true 4 0 (fun _=>[]),.sl true 1 0 (fun _=>[])]]
 let u8:List Ob:=[.box u2,.box [.sl true 4 0 (fun _=>[]),.sl true 1 0 (fun _=>[])],.box [.sl true 4 0 (fun _=>[]),.sl true 1 0 (fun _=>[])]]
 let u16:List (Nat × D):=[(2,.ref 1 0),(5,.ref 2 0)]
 let u21:=(a0.Zd.length:Int)
 let u28:=List Zk
 unfold M.GW at h
 refine ZT Tryz.func13 rfl (by kernel_rfl) ?_
 refine Za (rg0 [1,2] 2 ⟨186,[(1,.ref 0 0),(2,.ref 1 0)],u7⟩ ?_)
 refine Zb (Za (Za ?_))
 obtain ⟨r1,q1,h2⟩:=bind_some h
 refine rg [.pure (.int .i64 r1)] [1,2,4] 2 ⟨186,[(1,.ref 0 0),(2,.ref 1 0),(4,.int .i64 r1)],u7⟩ [] [⟨true,44,[.agg u2],.pure (.int .i64 r1)⟩] Zz ⟨fun _=>Zgt a0 r1 q1,trivial⟩ ?_
 refine Zb (Za (rg0 [1,2,4,16] 2 ⟨186,[(1,.ref 0 0),(2,.ref 1 0),(4,.int .i64 r1),(16,.bool (r1 != 0))],u7⟩ ?_))
 refine Zb ?_
 refine cnd (r1 != 0) (fun b3=>?_) (fun b3=>?_)
 have h4:=Gh b3 h2
 refine Za (rg0 [2,3] 2 ⟨186,[(2,.ref 1 0),(3,.int .i64 r1)],u7⟩ ?_)
 refine Zb (Zg (Zh ?_))
 obtain rfl:=Option.some.inj h4
 exact er (.tup [.agg [.sl false 4 0 (fun _=>[]),.sl false 1 0 (fun _=>[])],.int .i64 r1]) (KL (.cons (KZ (.cons Vt (.cons Vt .nil))) (.cons ASub.rfl .nil)))
 have h5:=GP b3 h2
 refine Ze (Zb (Za (rg0 [1,2,5] 3 ⟨186,[(1,.ref 0 0),(2,.ref 1 0),(5,.ref 2 0)],u8⟩ ?_)))
 refine Zb (Za (Za (rg0 [1,2,5,6] 3 ⟨186,[(1,.ref 0 0),(2,.ref 1 0),(5,.ref 2 0),(6,.int .i64 0)],u8⟩ ?_)))
 refine Zb (Zj ?_)
 refine Ud (s':=⟨186,[(1,.ref 0 0),(2,.ref 1 0),(5,.ref 2 0),(6,.int .i64 0)],[.box u2,.box [.sl true 4 0 (fun _=>[]),.sl true 1 0 (fun _=>[])],.box [.asl 3 0 ([]:List Zk).length,.sl true 1 0 (fun _=>[])],rA 4 hdDom ([]:List Zk) (fun _=>nilV),rF 2 XF Zk.Xt ([]:List Zk) (fun _=>nilV)]⟩) (Le.trans (s':=⟨186,[(1,.ref 0 0),(2,.ref 1 0),(5,.ref 2 0),(6,.int .i64 0)],[.box u2,.box [.sl true 4 0 (fun _=>[]),.sl true 1 0 (fun _=>[])],.box [.asl 3 0 0,.sl true 1 0 (fun _=>[])],.arr 4 0 (fun i=>Z0 (([]:List Zk).getD i default))]⟩) (Zf0 (nt:=186) (e:=[(1,.ref 0 0),(2,.ref 1 0),(5,.ref 2 0),(6,.int .i64 0)]) (H:=u8) (cells:=[.sl true 4 0 (fun _=>[]),.sl true 1 0 (fun _=>[])]) (wd:=4) (f:=fun _=>[]) 2 0 rfl rfl 4 (fun i=>Z0 (([]:List Zk).getD i default))) (Zil (H:=[.box u2,.box [.sl true 4 0 (fun _=>[]),.sl true 1 0 (fun _=>[])],.box [.asl 3 0 0,.sl true 1 0 (fun _=>[])]]) (wd:=4) (wi:=2) hdDom XF Zk.Xt (fun i=>Z0 (([]:List Zk).getD i default)))) ?_
 obtain ⟨y26,q114,h115⟩:=bind_some h5
 let u9:List Ob:=[.box u2,.box [.sl true 4 0 (fun _=>[]),.sl true 1 0 (fun _=>[])],.box [sL 4 Z0 y26,.sl true 1 0 (fun _=>[])]]
 let u32:=(y26.length:Int)
 refine G7 (Zch (f:=M.W5 a0) (S:=fun (p14:u28 × Int) (vs:Nat→Value)=>⟨186,[(1,.ref 0 0),(2,.ref 1 0),(5,.ref 2 0),(6,.int .i64 p14.2)],[.box u2,.box [.sl true 4 0 (fun _=>[]),.sl true 1 0 (fun _=>[])],.box [.asl 3 0 p14.1.length,.sl true 1 0 (fun _=>[])],rA 4 hdDom p14.1 vs,rF 2 XF Zk.Xt p14.1 vs]⟩) (O:=(fun z=>OutL 0 (fun (z:List Zk) (vs:Nat→Value)=>⟨186,u16,[.box u2,.box [.sl true 4 0 (fun _=>[]),.sl true 1 0 (fun _=>[])],.box [.asl 3 0 z.length,.sl true 1 0 (fun _=>[])],rA 4 hdDom z vs,rF 2 XF Zk.Xt z vs]⟩) z)) ?_ (g:=(fun _=>nilV)) (x:=(([]:List Zk),0)) (y:=y26) (Wt q114)) ?_
 intro p14 y15 v14 h62
 let u17:=(a0.Zd.getD p14.2.toNat default).Zc
 let u31:=(u17.length:Int)
 unfold M.W5 at h62
 refine Za (Za (rg0 [1,2,5,6,24] 5 ⟨186,[(1,.ref 0 0),(2,.ref 1 0),(5,.ref 2 0),(6,.int .i64 p14.2),(24,.bool (decide (p14.2 < u21)))],[.box u2,.box [.sl true 4 0 (fun _=>[]),.sl true 1 0 (fun _=>[])],.box [.asl 3 0 p14.1.length,.sl true 1 0 (fun _=>[])],rA 4 hdDom p14.1 v14,rF 2 XF Zk.Xt p14.1 v14]⟩ ?_))
 refine Zb ?_
 refine cnd (decide (p14.2 < u21)) (fun b63=>?_) (fun b63=>?_)
 have h64:=Gh b63 h62
 refine Ze (Zb (Za (Zj (Za (rg0 [1,2,5,6,7] 5 ⟨186,[(1,.ref 0 0),(2,.ref 1 0),(5,.ref 2 0),(6,.int .i64 p14.2),(7,.int .i64 0)],[.box u2,.box [.sl true 4 0 (fun _=>[]),.sl true 1 0 (fun _=>[])],.box [.asl 3 0 p14.1.length,.sl true 1 0 (fun _=>[])],rA 4 hdDom p14.1 v14,rF 2 XF Zk.Xt p14.1 v14]⟩ ?_)))))
 refine Zb (Zj ?_)
 obtain ⟨y25,q108,h109⟩:=bind_some h64
 refine G7 (Zch (f:=M.W4 a0 p14) (S:=fun (p16:u28 × Int) (vs:Nat→Value)=>⟨186,[(1,.ref 0 0),(2,.ref 1 0),(5,.ref 2 0),(6,.int .i64 p14.2),(7,.int .i64 p16.2)],[.box u2,.box [.sl true 4 0 (fun _=>[]),.sl true 1 0 (fun _=>[])],.box [.asl 3 0 p16.1.length,.sl true 1 0 (fun _=>[])],rA 4 hdDom p16.1 vs,rF 2 XF Zk.Xt p16.1 vs]⟩) (O:=(fun z=>OutL 2 (fun (z:List Zk) (vs:Nat→Value)=>⟨186,[(1,.ref 0 0),(2,.ref 1 0),(5,.ref 2 0),(6,.int .i64 p14.2)],[.box u2,.box [.sl true 4 0 (fun _=>[]),.sl true 1 0 (fun _=>[])],.box [.asl 3 0 z.length,.sl true 1 0 (fun _=>[])],rA 4 hdDom z vs,rF 2 XF Zk.Xt z vs]⟩) z)) ?_ (g:=v14) (x:=(p14.1,0)) (y:=y25) (Wt q108)) ?_
 intro p16 y17 v16 h66
 let u1:=u17.getD p16.2.toNat default
 let u5:=(p16.1.length:Int)
 let u10:=Zm u1
 let u34:=((u1.ZM)==0)||(u1.RB)
 unfold M.W4 at h66
 refine Za (Za ?_)
 obtain ⟨c67,h68⟩:=Zy h66
 refine rgc [1,2,5,6,7,35] 5 ⟨186,[(1,.ref 0 0),(2,.ref 1 0),(5,.ref 2 0),(6,.int .i64 p14.2),(7,.int .i64 p16.2),(35,.bool (decide (p16.2 < u31)))],[.box u2,.box [.sl true 4 0 (fun _=>[]),.sl true 1 0 (fun _=>[])],.box [.asl 3 0 p16.1.length,.sl true 1 0 (fun _=>[])],rA 4 hdDom p16.1 v16,rF 2 XF Zk.Xt p16.1 v16]⟩ [decide (0≤p14.2),decide (p14.2 < u21)] c67 ?_
 refine Zb ?_
 refine cnd (decide (p16.2 < u31)) (fun b69=>?_) (fun b69=>?_)
 have h70:=Gh b69 h68
 refine Ze (Zb ?_)
 refine Uh (fun (p18:u28 × (Nat→Value))=>⟨186,[(1,.ref 0 0),(2,.ref 1 0),(5,.ref 2 0),(6,.int .i64 p14.2),(7,.int .i64 p16.2)],[.box u2,.box [.sl true 4 0 (fun _=>[]),.sl true 1 0 (fun _=>[])],.box [.asl 3 0 p18.1.length,.sl true 1 0 (fun _=>[])],rA 4 hdDom p18.1 p18.2,rF 2 XF Zk.Xt p18.1 p18.2]⟩) (fun p18=>M.UG p16 p18.1=some y17) ?_ ?_
 intro p18 h73
 unfold M.UG at h73
 refine rg0 [1,2,5,6,7] 5 ⟨186,[(1,.ref 0 0),(2,.ref 1 0),(5,.ref 2 0),(6,.int .i64 p14.2),(7,.int .i64 (wr .i64 (p16.2+1)))],[.box u2,.box [.sl true 4 0 (fun _=>[]),.sl true 1 0 (fun _=>[])],.box [.asl 3 0 p18.1.length,.sl true 1 0 (fun _=>[])],rA 4 hdDom p18.1 p18.2,rF 2 XF Zk.Xt p18.1 p18.2]⟩ ?_
 obtain rfl:=Option.some.inj h73
 exact K6 p18.2 (U6)
 intro k72
 refine Zj (Za ?_)
 obtain ⟨c74,h75⟩:=Zy h70
 refine rgc [1,2,5,6,7,8] 6 ⟨186,[(1,.ref 0 0),(2,.ref 1 0),(5,.ref 2 0),(6,.int .i64 p14.2),(7,.int .i64 p16.2),(8,.ref 5 0)],[.box u2,.box [.sl true 4 0 (fun _=>[]),.sl true 1 0 (fun _=>[])],.box [.asl 3 0 p16.1.length,.sl true 1 0 (fun _=>[])],rA 4 hdDom p16.1 v16,rF 2 XF Zk.Xt p16.1 v16,.box u10]⟩ [decide (0≤p14.2),decide (p14.2 < u21),decide (0≤p16.2),decide (p16.2 < u31)] c74 ?_
 refine Zb (Za (Za (rg0 [1,2,5,6,7,8,53] 6 ⟨186,[(1,.ref 0 0),(2,.ref 1 0),(5,.ref 2 0),(6,.int .i64 p14.2),(7,.int .i64 p16.2),(8,.ref 5 0),(53,.bool u34)],[.box u2,.box [.sl true 4 0 (fun _=>[]),.sl true 1 0 (fun _=>[])],.box [.asl 3 0 p16.1.length,.sl true 1 0 (fun _=>[])],rA 4 hdDom p16.1 v16,rF 2 XF Zk.Xt p16.1 v16,.box u10]⟩ ?_)))
 refine Zb ?_
 refine cnd u34 (fun b76=>?_) (fun b76=>?_)
 have h77:=Gh b76 h75
 refine ZX (XC (Y0 ?_))
 exact XD (Le.trans (s':=⟨186,[(1,.ref 0 0),(2,.ref 1 0),(5,.ref 2 0),(6,.int .i64 p14.2),(7,.int .i64 p16.2)],[.box u2,.box [.sl true 4 0 (fun _=>[]),.sl true 1 0 (fun _=>[])],.box [.asl 3 0 p16.1.length,.sl true 1 0 (fun _=>[])],rA 4 hdDom p16.1 v16,rF 2 XF Zk.Xt p16.1 v16,.box u10]⟩) (kp [1,2,5,6,7]) (U5 (n:=5) (by kernel_rfl))) (k72 (p16.1,v16) h77)
 have h78:=GP b76 h75
 refine Ze (Zb (Za ?_))
 obtain ⟨r19,q79,h80⟩:=bind_some h78
 let u12:=Z7 r19
 refine rg [.pure (.agg u12)] [1,2,5,6,7,8,9] 7 ⟨186,[(1,.ref 0 0),(2,.ref 1 0),(5,.ref 2 0),(6,.int .i64 p14.2),(7,.int .i64 p16.2),(8,.ref 5 0),(9,.ref 6 0)],[.box u2,.box [.sl true 4 0 (fun _=>[]),.sl true 1 0 (fun _=>[])],.box [.asl 3 0 p16.1.length,.sl true 1 0 (fun _=>[])],rA 4 hdDom p16.1 v16,rF 2 XF Zk.Xt p16.1 v16,.box u10,.box u12]⟩ [] [⟨true,45,[.int .u32 (u1.ZA),.int .i64 (u1.ZM)],.pure (.agg u12)⟩] Zz ⟨fun _=>KC (u1.ZA) (u1.ZM) r19 q79,trivial⟩ ?_
 refine Zb (Za (rg0 [1,2,5,6,7,8,9,10] 7 ⟨186,[(1,.ref 0 0),(2,.ref 1 0),(5,.ref 2 0),(6,.int .i64 p14.2),(7,.int .i64 p16.2),(8,.ref 5 0),(9,.ref 6 0),(10,.int .i64 0)],[.box u2,.box [.sl true 4 0 (fun _=>[]),.sl true 1 0 (fun _=>[])],.box [.asl 3 0 p16.1.length,.sl true 1 0 (fun _=>[])],rA 4 hdDom p16.1 v16,rF 2 XF Zk.Xt p16.1 v16,.box u10,.box u12]⟩ ?_))
 refine Zb (Za (Zj ?_))
 obtain ⟨y23,q89,h90⟩:=bind_some h80
 let u19:=p16.1.getD (0+y23.toNat) default
 let u3:=!((((u19.Zp).ZA)==r19.ZA)&&((((u19.Zp).ZM)==r19.ZM)&&true))
 let u6:=p16.1.length - y23.toNat
 let u18:=y23.toNat - 0
 let u24:=(u18+1)+(0+u6)
 let u30:=(y23==u5)||u3
 let u26:=u30||((u19.XI) != (u1.XI))
 let u29:=(u18+1)*48≤140737488355328
 let u35:=u24*48≤140737488355328
 refine Ud (s':=⟨186,[(1,.ref 0 0),(2,.ref 1 0),(5,.ref 2 0),(6,.int .i64 p14.2),(7,.int .i64 p16.2),(8,.ref 5 0),(9,.ref 6 0),(10,.int .i64 0)],[.box u2,.box [.sl true 4 0 (fun _=>[]),.sl true 1 0 (fun _=>[])],.box [.asl 3 0 p16.1.length,.sl true 1 0 (fun _=>[])],rA 4 hdDom p16.1 v16,rF 2 XF Zk.Xt p16.1 v16,.box u10,.box u12]⟩) (U6) ?_
 refine G7 (ZfI (f:=M.W3 a0 p14 p16 r19) (S:=fun (p20:Int)=>⟨186,[(1,.ref 0 0),(2,.ref 1 0),(5,.ref 2 0),(6,.int .i64 p14.2),(7,.int .i64 p16.2),(8,.ref 5 0),(9,.ref 6 0),(10,.int .i64 p20)],[.box u2,.box [.sl true 4 0 (fun _=>[]),.sl true 1 0 (fun _=>[])],.box [.asl 3 0 p16.1.length,.sl true 1 0 (fun _=>[])],rA 4 hdDom p16.1 v16,rF 2 XF Zk.Xt p16.1 v16,.box u10,.box u12]⟩) (O:=(fun z=>OutE 4 (fun z=>⟨186,[(1,.ref 0 0),(2,.ref 1 0),(5,.ref 2 0),(6,.int .i64 p14.2),(7,.int .i64 p16.2),(8,.ref 5 0),(9,.ref 6 0),(10,.int .i64 z)],[.box u2,.box [.sl true 4 0 (fun _=>[]),.sl true 1 0 (fun _=>[])],.box [.asl 3 0 p16.1.length,.sl true 1 0 (fun _=>[])],rA 4 hdDom p16.1 v16,rF 2 XF Zk.Xt p16.1 v16,.box u10,.box u12]⟩) z)) ?_ (x:=0) (y:=y23) (Wt q89)) ?_
 intro p20 y21 h81
 let u13:=p16.1.getD (0+p20.toNat) default
 let u4:=(((u13.Zp).ZA)==r19.ZA)&&((((u13.Zp).ZM)==r19.ZM)&&true)
 let u15:=decide (p20 < u5)
 let u27:=decide (0≤p20)
 unfold M.W3 at h81
 refine Za (Za ?_)
 obtain ⟨r22,q82,h83⟩:=bind_some h81
 let u20:=decide (r22 < 0)
 let u22:=u15&&(u20||(u4&&(decide ((u13.XI) < (u1.XI)))))
 obtain ⟨c84,h85⟩:=Zy h83
 refine rg [.pure (.int .i64 r22)] [1,2,5,6,7,8,9,10,95] 7 ⟨186,[(1,.ref 0 0),(2,.ref 1 0),(5,.ref 2 0),(6,.int .i64 p14.2),(7,.int .i64 p16.2),(8,.ref 5 0),(9,.ref 6 0),(10,.int .i64 p20),(95,.bool u22)],[.box u2,.box [.sl true 4 0 (fun _=>[]),.sl true 1 0 (fun _=>[])],.box [.asl 3 0 p16.1.length,.sl true 1 0 (fun _=>[])],rA 4 hdDom p16.1 v16,rF 2 XF Zk.Xt p16.1 v16,.box u10,.box u12]⟩ [guardB u15 u27,guardB u15 u15,guardB (u15 && !u20) u27,guardB (u15 && !u20) u15,guardB ((u15 && !u20)&&u4) u27,guardB ((u15 && !u20)&&u4) u15] [⟨decide (p20 < u5),46,[.agg (Z7 (u13.Zp)),.agg u12],.pure (.int .i64 r22)⟩] c84 ⟨fun hg=>Ze0 (u13.Zp) r19 r22 (Xn q82 hg),trivial⟩ ?_
 refine Zb ?_
 refine cnd u22 (fun b86=>?_) (fun b86=>?_)
 have h87:=Gh b86 h85
 refine Ze (Zb (Zj (rg0 [1,2,5,6,7,8,9,10] 7 ⟨186,[(1,.ref 0 0),(2,.ref 1 0),(5,.ref 2 0),(6,.int .i64 p14.2),(7,.int .i64 p16.2),(8,.ref 5 0),(9,.ref 6 0),(10,.int .i64 (wr .i64 (p20+1)))],[.box u2,.box [.sl true 4 0 (fun _=>[]),.sl true 1 0 (fun _=>[])],.box [.asl 3 0 p16.1.length,.sl true 1 0 (fun _=>[])],rA 4 hdDom p16.1 v16,rF 2 XF Zk.Xt p16.1 v16,.box u10,.box u12]⟩ ?_)))
 refine XO ?_
 obtain rfl:=Option.some.inj h87
 exact Zhd (U6)
 have h88:=GP b86 h85
 refine ZX (XC ?_)
 obtain rfl:=Option.some.inj h88
 exact Zhe ⟨rfl,kp [1,2,5,6,7,8,9,10]⟩
 intro e91 s92 o93
 obtain ⟨rfl,l94⟩:=o93
 refine Y0 ?_
 refine XD (s':=⟨186,[(1,.ref 0 0),(2,.ref 1 0),(5,.ref 2 0),(6,.int .i64 p14.2),(7,.int .i64 p16.2),(8,.ref 5 0),(9,.ref 6 0),(10,.int .i64 y23)],[.box u2,.box [.sl true 4 0 (fun _=>[]),.sl true 1 0 (fun _=>[])],.box [.asl 3 0 p16.1.length,.sl true 1 0 (fun _=>[])],rA 4 hdDom p16.1 v16,rF 2 XF Zk.Xt p16.1 v16,.box u10,.box u12]⟩) (l94) ?_
 refine Uh (fun (p24:u28 × (Nat→Value))=>⟨186,[(1,.ref 0 0),(2,.ref 1 0),(5,.ref 2 0),(6,.int .i64 p14.2),(7,.int .i64 p16.2),(10,.int .i64 y23)],[.box u2,.box [.sl true 4 0 (fun _=>[]),.sl true 1 0 (fun _=>[])],.box [.asl 3 0 p24.1.length,.sl true 1 0 (fun _=>[])],rA 4 hdDom p24.1 p24.2,rF 2 XF Zk.Xt p24.1 p24.2]⟩) (fun p24=>M.UH p14 p16 y23 p24.1=some y17) ?_ ?_
 intro p24 h96
 let u14:=p24.1.getD (0+y23.toNat) default
 let u23:=u14.Xt.length+1
 unfold M.UH at h96
 obtain ⟨c97,h98⟩:=Zy h96
 have g1:0≤y23:=of_decide_eq_true (c97 _ (by simp only [List.mem_cons,true_or]))
 have g2:y23 < (p24.1.length:Int):=of_decide_eq_true (c97 _ (by simp only [List.mem_cons,true_or,or_true]))
 have g3:(((p24.1.getD (0+y23.toNat) default).Xt).length+1)*16≤140737488355328:=of_decide_eq_true (c97 _ (by simp only [List.mem_cons,true_or,or_true]))
 refine Ud (Zlk (idf:=4) (0+y23.toNat) rfl) ?_
 refine rgvB [1] [.gone,.gone,.box [.asl 3 0 p24.1.length,.sl true 1 0 (fun _=>[])]] [[.box u2,.box [.sl true 4 0 (fun _=>[]),.sl true 1 0 (fun _=>[])],.box [.asl 3 0 p24.1.length,.sl true 1 0 (fun _=>[])],rA 4 hdDom p24.1 p24.2,.fam (0+y23.toNat) (fun v=>pB (v=p24.2 (0+y23.toNat))) p24.1.length 2 p24.2 (rls XF Zk.Xt p24.1)],[.box u2,.box [.sl true 4 0 (fun _=>[]),.sl true 1 0 (fun _=>[])],.box [.asl 3 0 p24.1.length,.sl true 1 0 (fun _=>[])],rA 4 hdDom p24.1 p24.2,.fam (0+y23.toNat) (fun _=>false) p24.1.length 2 (updV p24.2 (0+y23.toNat) nilV) (updL (rls XF Zk.Xt p24.1) (0+y23.toNat) (0,fun _=>[])),.arr 2 u23 (app (rls XF Zk.Xt p24.1 (0+y23.toNat)).2 (rls XF Zk.Xt p24.1 (0+y23.toNat)).1 (fun i=>List.take 2 (List.drop (i*2) [.int .i64 p14.2,.int .i64 p16.2])))]] 14 [] [1,2,5,6,7,144,145,156] 6 ⟨186,[(1,.ref 0 0),(2,.ref 1 0),(5,.ref 2 0),(6,.int .i64 p14.2),(7,.int .i64 p16.2),(144,.asl 3 0 p24.1.length),(145,.int .i64 y23),(156,.asl 5 0 u23)],[.box u2,.box [.sl true 4 0 (fun _=>[]),.sl true 1 0 (fun _=>[])],.box [.asl 3 0 p24.1.length,.sl true 1 0 (fun _=>[])],rA 4 hdDom p24.1 p24.2,.fam (0+y23.toNat) (fun _=>false) p24.1.length 2 (updV p24.2 (0+y23.toNat) nilV) (updL (rls XF Zk.Xt p24.1) (0+y23.toNat) (0,fun _=>[])),.arr 2 u23 (app (rls XF Zk.Xt p24.1 (0+y23.toNat)).2 (rls XF Zk.Xt p24.1 (0+y23.toNat)).1 (fun i=>List.take 2 (List.drop (i*2) [.int .i64 p14.2,.int .i64 p16.2])))]⟩ [decide (0≤y23),decide (y23 < (p24.1.length:Int)),pB (p24.2 (0+y23.toNat)=p24.2 (0+y23.toNat)),decide ((0+y23.toNat) < p24.1.length),decide (u23*16≤140737488355328)] [] ?_ trivial ?_ _ (Zjx (idf:=4) 156 (0+y23.toNat) rfl rfl rfl ?_ rfl) [] [1,2,5,6,7] 5 (fun w=>⟨186,[(1,.ref 0 0),(2,.ref 1 0),(5,.ref 2 0),(6,.int .i64 p14.2),(7,.int .i64 p16.2)],[.box u2,.box [.sl true 4 0 (fun _=>[]),.sl true 1 0 (fun _=>[])],.box [.asl 3 0 p24.1.length,.sl true 1 0 (fun _=>[])],.arr 4 p24.1.length (fun j=>bif Nat.beq j (0+y23.toNat) then splice (hdDom u14++[.val (p24.2 (0+y23.toNat))]) [.val w] 3 else hdDom (p24.1.getD j default)++[.val (p24.2 j)]),.fam 0 (fun _=>false) p24.1.length 2 (updV (updV p24.2 (0+y23.toNat) nilV) (0+y23.toNat) w) (updL (updL (rls XF Zk.Xt p24.1) (0+y23.toNat) (0,fun _=>[])) (0+y23.toNat) (u14.Xt.length+1,(app (rls XF Zk.Xt p24.1 (0+y23.toNat)).2 (rls XF Zk.Xt p24.1 (0+y23.toNat)).1 (fun i=>List.take 2 (List.drop (i*2) [.int .i64 p14.2,.int .i64 p16.2])))))]⟩) (fun _=>[decide (0≤y23),decide (y23 < (p24.1.length:Int))]) (fun _=>[]) ?_ (fun _=>trivial) (fun w=>?_)
 · exact am (decide_eq_true g1) (am (decide_eq_true g2) (am (Zlj rfl) (am (decide_eq_true (by omega)) (am (decide_eq_true g3) Zz))))
 · intro x hx
   simp only [List.mem_cons,List.not_mem_nil,or_false] at hx
   rcases hx with rfl | rfl <;> exact ⟨rfl,trivial⟩
 · rw [UD]; rfl
 · exact fun _=>am (decide_eq_true g1) (am (decide_eq_true g2) Zz)
 refine XO ?_
 exact XD (Le.trans (ZjA 3 4 hdDom XF Zk.Xt p24.1 (⟨(p24.1.getD (0+y23.toNat) default).Zp,(p24.1.getD (0+y23.toNat) default).XI,((p24.1.getD (0+y23.toNat) default).Xt)++[(⟨p14.2,p16.2⟩:Ue)]⟩:Zk) p24.2 (0+y23.toNat) w ((p24.1.getD (0+y23.toNat) default).Xt.length+1) (app (rls XF Zk.Xt p24.1 (0+y23.toNat)).2 (rls XF Zk.Xt p24.1 (0+y23.toNat)).1 (fun i=>List.take 2 (List.drop (i*2) [.int .i64 p14.2,.int .i64 p16.2]))) _ _ _ (by decide) rfl rfl (fun j _ hj=>by rw [Zc8 hj]; rfl) (fun _=>by rw [Nat.beq_refl]; rfl) (fun j hj=>G5 hj) (fun j hj=>Zce hj) (by simp) (fun i hi=>K0 XF (p24.1.getD (0+y23.toNat) default).Xt (⟨p14.2,p16.2⟩:Ue) (fun i=>List.take 2 (List.drop (i*2) [.int .i64 p14.2,.int .i64 p16.2])) rfl i hi)) (JQ (.cons Sub.rfl (.cons Sub.rfl (.cons Sub.rfl (.cons Sub.rfl (.cons Sub.rfl .nil))))) (.cons .rfl (.cons .rfl (.cons (.box (.cons (K7 (by simp)) (.cons CSub.rfl .nil))) (.cons .rfl (.cons .rfl .nil))))))) (k72 (p24.1.set (0+y23.toNat) (⟨(p24.1.getD (0+y23.toNat) default).Zp,(p24.1.getD (0+y23.toNat) default).XI,((p24.1.getD (0+y23.toNat) default).Xt)++[(⟨p14.2,p16.2⟩:Ue)]⟩:Zk),updV p24.2 (0+y23.toNat) w) h98)
 intro k95
 refine Za ?_
 obtain ⟨c99,h100⟩:=Zy h90
 refine rgc [1,2,5,6,7,8,9,10,123] 7 ⟨186,[(1,.ref 0 0),(2,.ref 1 0),(5,.ref 2 0),(6,.int .i64 p14.2),(7,.int .i64 p16.2),(8,.ref 5 0),(9,.ref 6 0),(10,.int .i64 y23),(123,.bool u26)],[.box u2,.box [.sl true 4 0 (fun _=>[]),.sl true 1 0 (fun _=>[])],.box [.asl 3 0 p16.1.length,.sl true 1 0 (fun _=>[])],rA 4 hdDom p16.1 v16,rF 2 XF Zk.Xt p16.1 v16,.box u10,.box u12]⟩ [guardB (!(y23==u5)) (decide (0≤y23)),guardB (!(y23==u5)) (decide (y23 < u5)),guardB (!u30) (decide (0≤y23)),guardB (!u30) (decide (y23 < u5))] c99 ?_
 refine Zb ?_
 refine cnd u26 (fun b101=>?_) (fun b101=>?_)
 have h102:=Gh b101 h100
 refine Za ?_
 obtain ⟨c104,h105⟩:=Zy h102
 refine rgc [1,2,5,6,7,8,9,10,11] 8 ⟨186,[(1,.ref 0 0),(2,.ref 1 0),(5,.ref 2 0),(6,.int .i64 p14.2),(7,.int .i64 p16.2),(8,.ref 5 0),(9,.ref 6 0),(10,.int .i64 y23),(11,.asl 7 0 (0+u6))],[.box u2,.box [.sl true 4 0 (fun _=>[]),.sl true 1 0 (fun _=>[])],.box [.asl 3 0 p16.1.length,.sl true 1 0 (fun _=>[])],rA 4 hdDom p16.1 v16,rF 2 XF Zk.Xt p16.1 v16,.box u10,.box u12,.arr 4 (0+u6) (app (fun i=>List.take 4 (List.drop (i*4) [])) 0 (fun i=>hdDom (p16.1.getD ((0+y23.toNat)+i) default)++[.val (v16 ((0+y23.toNat)+i))]))]⟩ [decide (0≤y23),decide (y23≤u5),decide (0=0)||decide (0 < u6),decide ((0+u6)*48≤140737488355328)] c104 ?_
 refine Zb ?_
 obtain ⟨c106,h107⟩:=Zy h105
 have g1:0≤y23:=of_decide_eq_true (c106 _ (by simp only [List.mem_cons,true_or]))
 have g2:y23≤(p16.1.length:Int):=of_decide_eq_true (c106 _ (by simp only [List.mem_cons,true_or,or_true]))
 have g3:((y23.toNat - 0)+1)*48≤140737488355328:=of_decide_eq_true (c106 _ (by simp only [List.mem_cons,true_or,or_true]))
 have g4:(((y23.toNat - 0)+1)+(0+(p16.1.length - y23.toNat)))*48≤140737488355328:=of_decide_eq_true (c106 _ (by simp only [List.mem_cons,true_or,or_true]))
 refine rgp 9 [] [1,2,5,6,7,10,11,133,138] 8 ⟨186,[(1,.ref 0 0),(2,.ref 1 0),(5,.ref 2 0),(6,.int .i64 p14.2),(7,.int .i64 p16.2),(10,.int .i64 y23),(11,.asl 7 0 (0+u6)),(133,.asl 3 0 u18),(138,.sl true 4 1 (fun i=>List.take 4 (List.drop (i*4) [.int .u32 r19.ZA,.int .i64 r19.ZM,.int .i64 u1.XI,.sl true 2 0 (fun _=>[])])))],[.box u2,.box [.sl true 4 0 (fun _=>[]),.sl true 1 0 (fun _=>[])],.box [.asl 3 0 p16.1.length,.sl true 1 0 (fun _=>[])],rA 4 hdDom p16.1 v16,rF 2 XF Zk.Xt p16.1 v16,.box u10,.box u12,.arr 4 (0+u6) (app (fun i=>List.take 4 (List.drop (i*4) [])) 0 (fun i=>hdDom (p16.1.getD ((0+y23.toNat)+i) default)++[.val (v16 ((0+y23.toNat)+i))]))]⟩ [1,2,5,6,7,10,133,138,140] 8 ⟨186,[(1,.ref 0 0),(2,.ref 1 0),(5,.ref 2 0),(6,.int .i64 p14.2),(7,.int .i64 p16.2),(10,.int .i64 y23),(133,.asl 3 0 u18),(138,.sl true 4 1 (fun i=>List.take 4 (List.drop (i*4) [.int .u32 r19.ZA,.int .i64 r19.ZM,.int .i64 u1.XI,.sl true 2 0 (fun _=>[])]))),(140,.asl 7 0 (0+u6))],[.box u2,.box [.sl true 4 0 (fun _=>[]),.sl true 1 0 (fun _=>[])],.box [.asl 3 0 p16.1.length,.sl true 1 0 (fun _=>[])],rA 4 hdDom p16.1 v16,rF 2 XF Zk.Xt p16.1 v16,.box u10,.box u12,.arr 4 (0+u6) (app (fun i=>List.take 4 (List.drop (i*4) [])) 0 (fun i=>hdDom (p16.1.getD ((0+y23.toNat)+i) default)++[.val (v16 ((0+y23.toNat)+i))]))]⟩ [decide (0≤y23),decide (y23≤u5)] [] (am (decide_eq_true g1) (am (decide_eq_true g2) Zz)) trivial [] [1,2,5,6,7,10] 5 ⟨186,[(1,.ref 0 0),(2,.ref 1 0),(5,.ref 2 0),(6,.int .i64 p14.2),(7,.int .i64 p16.2),(10,.int .i64 y23)],[.box u2,.box [.sl true 4 0 (fun _=>[]),.sl true 1 0 (fun _=>[])],.box [.asl 3 0 u24,.sl true 1 0 (fun _=>[])],.arr 4 u24 (app (app (fun j=>hdDom (p16.1.getD j default)++[.val (v16 j)]) u18 (fun i=>List.take 4 (List.drop (i*4) [.int .u32 r19.ZA,.int .i64 r19.ZM,.int .i64 u1.XI,.sl true 2 0 (fun _=>[])]))) (u18+1) (fun i=>(app (fun i=>List.take 4 (List.drop (i*4) [])) 0 (fun i=>hdDom (p16.1.getD ((0+y23.toNat)+i) default)++[.val (v16 ((0+y23.toNat)+i))])) (0+i))),rF 2 XF Zk.Xt p16.1 v16]⟩ [decide u29,decide u35] [] (am (decide_eq_true g3) (am (decide_eq_true g4) Zz)) trivial [] [1,2,5,6,7,10,139,140] 8 ⟨186,[(1,.ref 0 0),(2,.ref 1 0),(5,.ref 2 0),(6,.int .i64 p14.2),(7,.int .i64 p16.2),(10,.int .i64 y23),(139,.asl 3 0 (u18+1)),(140,.asl 7 0 (0+u6))],[.box u2,.box [.sl true 4 0 (fun _=>[]),.sl true 1 0 (fun _=>[])],.box [.any,.sl true 1 0 (fun _=>[])],.arr 4 (u18+1) (app (fun j=>hdDom (p16.1.getD j default)++[.val (v16 j)]) u18 (fun i=>List.take 4 (List.drop (i*4) [.int .u32 r19.ZA,.int .i64 r19.ZM,.int .i64 u1.XI,.sl true 2 0 (fun _=>[])]))),rF 2 XF Zk.Xt p16.1 v16,.box u10,.box u12,.arr 4 (0+u6) (app (fun i=>List.take 4 (List.drop (i*4) [])) 0 (fun i=>hdDom (p16.1.getD ((0+y23.toNat)+i) default)++[.val (v16 ((0+y23.toNat)+i))]))]⟩ [decide u29] [] (am (decide_eq_true g3) Zz) trivial [] [1,2,5,6,7,10] 5 [decide u35] [] (am (decide_eq_true g4) Zz) trivial ?_
 refine K5 (ZlF (w1:=2) (g:=fun _=>[]) 3 4 hdDom XF Zk.Xt p16.1 y23.toNat (⟨r19,(((a0.Zd.getD p14.2.toNat default).Zc).getD p16.2.toNat default).XI,([]:List Ue)⟩:Zk) v16 (by decide) (by omega) (by omega) rfl rfl rfl (fun j hj=>?_) ?_ (fun j hj hj2=>?_)) fun w=>?_
 · exact (Zfr (by omega)).trans (Zfr (by omega))
 · exact (Zfr (by omega)).trans ((congrArg (app _ (y23.toNat - 0) _) (show y23.toNat=y23.toNat - 0 by omega)).trans ZlE)
 · rw [ZlD (by omega)]
   show app _ 0 _ (0+(j - (y23.toNat - 0+1)))=_
   rw [ZlD (Nat.zero_le _)]
   have e:(0+y23.toNat)+((0+(j - (y23.toNat - 0+1))) - 0)=j - 1:=by omega
   simp only [e]
 exact Ud (JQ (.cons Sub.rfl (.cons Sub.rfl (.cons Sub.rfl (.cons Sub.rfl (.cons Sub.rfl (.cons Sub.rfl .nil)))))) (.cons .rfl (.cons .rfl (.cons (.box (.cons (K7 (by rw [ZdJ (by omega)]; omega)) (.cons CSub.rfl .nil))) (.cons .rfl (.cons .rfl .nil)))))) (k95 (insL p16.1 y23.toNat (⟨r19,(((a0.Zd.getD p14.2.toNat default).Zc).getD p16.2.toNat default).XI,([]:List Ue)⟩:Zk),insV v16 y23.toNat w.1) h107)
 have h103:=GP b101 h100
 refine Ze ?_
 exact XD (Le.trans (s':=⟨186,[(1,.ref 0 0),(2,.ref 1 0),(5,.ref 2 0),(6,.int .i64 p14.2),(7,.int .i64 p16.2),(10,.int .i64 y23)],[.box u2,.box [.sl true 4 0 (fun _=>[]),.sl true 1 0 (fun _=>[])],.box [.asl 3 0 p16.1.length,.sl true 1 0 (fun _=>[])],rA 4 hdDom p16.1 v16,rF 2 XF Zk.Xt p16.1 v16,.box u10,.box u12]⟩) (kp [1,2,5,6,7,10]) (U5 (n:=5) (by kernel_rfl))) (k95 (p16.1,v16) h103)
 have h71:=GP b69 h68
 refine ZX (XC ?_)
 obtain rfl:=Option.some.inj h71
 exact R5 ⟨rfl,LeE.of v16 (kp [1,2,5,6])⟩
 intro e110 s111 o112
 obtain ⟨rfl,l113⟩:=o112
 refine Y0 (XO ?_)
 refine K5 l113 fun v25=>?_
 refine rg0 [1,2,5,6] 5 ⟨186,[(1,.ref 0 0),(2,.ref 1 0),(5,.ref 2 0),(6,.int .i64 (wr .i64 (p14.2+1)))],[.box u2,.box [.sl true 4 0 (fun _=>[]),.sl true 1 0 (fun _=>[])],.box [.asl 3 0 y25.length,.sl true 1 0 (fun _=>[])],rA 4 hdDom y25 v25,rF 2 XF Zk.Xt y25 v25]⟩ ?_
 obtain rfl:=Option.some.inj h109
 exact K6 v25 (U6)
 have h65:=GP b63 h62
 refine ZX (XC ?_)
 obtain rfl:=Option.some.inj h65
 exact R5 ⟨rfl,LeE.of v14 (kp [2,5])⟩
 intro e116 s117 o118
 obtain ⟨rfl,l119⟩:=o118
 refine Y0 ?_
 refine K5 l119 fun v26=>?_
 refine Za (Za ?_)
 refine Ud (s':=⟨186,u16,[.box u2,.box [.sl true 4 0 (fun _=>[]),.sl true 1 0 (fun _=>[])],.box [.sl false 4 y26.length (fun k=>(fun i=>Z0 (y26.getD i default)) (0+k)),.sl true 1 0 (fun _=>[])],aL 4 Z0 ([]:List Zk),.fam 0 (fun _=>false) 0 2 v26 (rls XF Zk.Xt y26)]⟩) (Le.trans (s':=⟨186,u16,[.box u2,.box [.sl true 4 0 (fun _=>[]),.sl true 1 0 (fun _=>[])],.box [.asl 3 0 y26.length,.sl true 1 0 (fun _=>[])],aL 4 Z0 y26,.fam 0 (fun _=>false) 0 2 v26 (rls XF Zk.Xt y26)]⟩) (ZjB 3 4 hdDom XF Zk.Xt Z0 y26 v26 rfl rfl (fun _=>rfl)) (Le.trans ((Zc5 (s:=⟨186,u16,[.box u2,.box [.sl true 4 0 (fun _=>[]),.sl true 1 0 (fun _=>[])],.box [.asl 3 0 y26.length,.sl true 1 0 (fun _=>[])],aL 4 Z0 y26,.fam 0 (fun _=>false) 0 2 v26 (rls XF Zk.Xt y26)]⟩) (s':=⟨186,u16,[.box u2,.box [.sl true 4 0 (fun _=>[]),.sl true 1 0 (fun _=>[])],.box [.sl false 4 y26.length (fun k=>(fun i=>Z0 (y26.getD i default)) (0+k)),.sl true 1 0 (fun _=>[])],aL 4 Z0 ([]:List Zk),.fam 0 (fun _=>false) 0 2 v26 (rls XF Zk.Xt y26)]⟩) 3 4 y26.length (fun i=>Z0 (y26.getD i default)) (fun i=>Z0 (([]:List Zk).getD i default)) (by kernel_rfl) (by kernel_rfl) (by kernel_rfl))) (kp [2,5]))) ?_
 refine rg0 [2,5,12] 3 ⟨186,[(2,.ref 1 0),(5,.ref 2 0),(12,.int .i64 0)],[.box u2,.box [.sl true 4 0 (fun _=>[]),.sl true 1 0 (fun _=>[])],.box [.sl false 4 y26.length (fun k=>(fun i=>Z0 (y26.getD i default)) (0+k)),.sl true 1 0 (fun _=>[])]]⟩ ?_
 refine XD (s':=⟨186,[(2,.ref 1 0),(5,.ref 2 0),(12,.int .i64 0)],u9⟩) (JQ (.cons Sub.rfl (.cons Sub.rfl (.cons Sub.rfl .nil))) (.cons .rfl (.cons .rfl (.cons (.box (.cons (KK rfl (Zaz (f:=fun i=>Z0 (y26.getD i default)) (fun _ _=>rfl))) (.cons CSub.rfl .nil))) .nil)))) ?_
 refine Zj ?_
 refine Ud (s':=⟨186,[(2,.ref 1 0),(5,.ref 2 0),(12,.int .i64 0)],u9⟩) (U6) ?_
 refine Ud (s':=⟨186,[(2,.ref 1 0),(5,.ref 2 0),(12,.int .i64 0)],[.box u2,.box [.sl true 4 0 (fun _=>[]),.sl true 1 0 (fun _=>[])],.box [sL 4 Z0 y26,.asl 3 0 (([]:List Int).length)],aL 1 (ci .i64) ([]:List Int)]⟩) (Zf0 (nt:=186) (e:=[(2,.ref 1 0),(5,.ref 2 0),(12,.int .i64 0)]) (H:=u9) (cells:=[sL 4 Z0 y26,.sl true 1 0 (fun _=>[])]) (wd:=1) (f:=fun _=>[]) 2 1 rfl rfl 1 (fun i=>(ci .i64) (([]:List Int).getD i default))) ?_
 obtain ⟨y31,q136,h137⟩:=bind_some h115
 let u11:List (Nat × D):=[(2,.ref 1 0),(5,.ref 2 0),(183,.bool (decide ((y31.length:Int) > 12)))]
 refine Ud (s':=⟨186,[(2,.ref 1 0),(5,.ref 2 0),(12,.int .i64 0)],[.box u2,.box [.sl true 4 0 (fun _=>[]),.sl true 1 0 (fun _=>[])],.box [sL 4 Z0 y26,.asl 3 0 (([]:List Int).length)],aL 1 (ci .i64) ([]:List Int)]⟩) (U6) ?_
 refine G7 (ZfI (f:=M.W6 y26) (S:=fun (p28:(List Int) × Int)=>⟨186,[(2,.ref 1 0),(5,.ref 2 0),(12,.int .i64 p28.2)],[.box u2,.box [.sl true 4 0 (fun _=>[]),.sl true 1 0 (fun _=>[])],.box [sL 4 Z0 y26,.asl 3 0 p28.1.length],aL 1 (ci .i64) p28.1]⟩) (O:=(fun z=>OutE 6 (fun z=>⟨186,u16,[.box u2,.box [.sl true 4 0 (fun _=>[]),.sl true 1 0 (fun _=>[])],.box [sL 4 Z0 y26,.asl 3 0 z.length],aL 1 (ci .i64) z]⟩) z)) ?_ (x:=(([]:List Int),0)) (y:=y31) (Wt q136)) ?_
 intro p28 y29 h123
 let u25:=(((y26.getD p28.2.toNat default).Xt).length:Int)
 let u33:=p28.1.length+1
 unfold M.W6 at h123
 refine Za (Za (rg0 [2,5,12,163] 4 ⟨186,[(2,.ref 1 0),(5,.ref 2 0),(12,.int .i64 p28.2),(163,.bool (decide (p28.2 < u32)))],[.box u2,.box [.sl true 4 0 (fun _=>[]),.sl true 1 0 (fun _=>[])],.box [sL 4 Z0 y26,.asl 3 0 p28.1.length],aL 1 (ci .i64) p28.1]⟩ ?_))
 refine Zb ?_
 refine cnd (decide (p28.2 < u32)) (fun b124=>?_) (fun b124=>?_)
 have h125:=Gh b124 h123
 refine Ze (Zb ?_)
 refine Uh (fun (p30:(List Int))=>⟨186,[(2,.ref 1 0),(5,.ref 2 0),(12,.int .i64 p28.2)],[.box u2,.box [.sl true 4 0 (fun _=>[]),.sl true 1 0 (fun _=>[])],.box [sL 4 Z0 y26,.asl 3 0 p30.length],aL 1 (ci .i64) p30]⟩) (fun p30=>M.UI p28 p30=some y29) ?_ ?_
 intro p30 h128
 unfold M.UI at h128
 refine rg0 [2,5,12] 4 ⟨186,[(2,.ref 1 0),(5,.ref 2 0),(12,.int .i64 (wr .i64 (p28.2+1)))],[.box u2,.box [.sl true 4 0 (fun _=>[]),.sl true 1 0 (fun _=>[])],.box [sL 4 Z0 y26,.asl 3 0 p30.length],aL 1 (ci .i64) p30]⟩ ?_
 obtain rfl:=Option.some.inj h128
 exact Zhd (U6)
 intro k127
 refine Zj (Za ?_)
 obtain ⟨c129,h130⟩:=Zy h125
 refine rgc [2,5,12,173] 4 ⟨186,[(2,.ref 1 0),(5,.ref 2 0),(12,.int .i64 p28.2),(173,.bool (decide (u25 > 1)))],[.box u2,.box [.sl true 4 0 (fun _=>[]),.sl true 1 0 (fun _=>[])],.box [sL 4 Z0 y26,.asl 3 0 p28.1.length],aL 1 (ci .i64) p28.1]⟩ [decide (0≤p28.2),decide (p28.2 < u32)] c129 ?_
 refine Zb ?_
 refine cnd (decide (u25 > 1)) (fun b131=>?_) (fun b131=>?_)
 have h132:=Gh b131 h130
 obtain ⟨c134,h135⟩:=Zy h132
 refine rgc [2,5,12] 4 ⟨186,[(2,.ref 1 0),(5,.ref 2 0),(12,.int .i64 p28.2)],[.box u2,.box [.sl true 4 0 (fun _=>[]),.sl true 1 0 (fun _=>[])],.box [sL 4 Z0 y26,.asl 3 0 u33],.arr 1 u33 (app (fun i=>(ci .i64) (p28.1.getD i default)) p28.1.length (fun i=>List.take 1 (List.drop (i*1) [.int .i64 p28.2])))]⟩ [decide (u33*8≤140737488355328)] c134 ?_
 refine XO ?_
 exact XD (JQ (.cons Sub.rfl (.cons Sub.rfl (.cons Sub.rfl .nil))) (.cons .rfl (.cons .rfl (.cons (.box (.cons CSub.rfl (.cons (K7 (GM _ _)) .nil))) (.cons (.arr (GM _ _) (K0 (ci .i64) p28.1 p28.2 _ rfl)) .nil))))) (k127 (p28.1++[p28.2]) h135)
 have h133:=GP b131 h130
 refine Ze (XO ?_)
 exact XD (kp [2,5,12]) (k127 p28.1 h133)
 have h126:=GP b124 h123
 refine ZX (XC ?_)
 obtain rfl:=Option.some.inj h126
 exact Zhe ⟨rfl,kp [2,5]⟩
 intro e138 s139 o140
 obtain ⟨rfl,l141⟩:=o140
 refine Y0 ?_
 refine XD (s':=⟨186,u16,[.box u2,.box [.sl true 4 0 (fun _=>[]),.sl true 1 0 (fun _=>[])],.box [sL 4 Z0 y26,.asl 3 0 y31.length],aL 1 (ci .i64) y31]⟩) (l141) ?_
 refine Za (Za (rg0 [2,5,183] 4 ⟨186,u11,[.box u2,.box [.sl true 4 0 (fun _=>[]),.sl true 1 0 (fun _=>[])],.box [sL 4 Z0 y26,.asl 3 0 y31.length],aL 1 (ci .i64) y31]⟩ ?_))
 refine Zb ?_
 refine cnd (decide ((y31.length:Int) > 12)) (fun b142=>?_) (fun b142=>?_)
 have h143:=Gh b142 h137
 refine Za (rg0 [2,3] 2 ⟨186,[(2,.ref 1 0),(3,.int .i64 7)],u7⟩ ?_)
 refine Zb (Zg (Zh ?_))
 obtain rfl:=Option.some.inj h143
 exact er (.tup [.agg [.sl false 4 0 (fun _=>[]),.sl false 1 0 (fun _=>[])],.int .i64 7]) (KL (.cons (KZ (.cons Vt (.cons Vt .nil))) (.cons ASub.rfl .nil)))
 have h144:=GP b142 h137
 refine Ze (Zb (Za ?_))
 refine Ud (s':=⟨186,u11,[.box u2,.box [.sl true 4 0 (fun _=>[]),.sl true 1 0 (fun _=>[])],.box [sL 4 Z0 y26,.sl false 1 y31.length (fun k=>(fun i=>(ci .i64) (y31.getD i default)) (0+k))],aL 1 (ci .i64) ([]:List Int)]⟩) (Le.trans ((Zc5 (s:=⟨186,u11,[.box u2,.box [.sl true 4 0 (fun _=>[]),.sl true 1 0 (fun _=>[])],.box [sL 4 Z0 y26,.asl 3 0 y31.length],aL 1 (ci .i64) y31]⟩) (s':=⟨186,u11,[.box u2,.box [.sl true 4 0 (fun _=>[]),.sl true 1 0 (fun _=>[])],.box [sL 4 Z0 y26,.sl false 1 y31.length (fun k=>(fun i=>(ci .i64) (y31.getD i default)) (0+k))],aL 1 (ci .i64) ([]:List Int)]⟩) 3 1 y31.length (fun i=>(ci .i64) (y31.getD i default)) (fun i=>(ci .i64) (([]:List Int).getD i default)) (by kernel_rfl) (by kernel_rfl) (by kernel_rfl))) (kp [2,5,183])) ?_
 refine rg0 [2,3] 2 ⟨186,[(2,.ref 1 0),(3,.int .i64 0)],[.box u2,.box [sL 4 Z0 y26,.sl false 1 y31.length (fun k=>(fun i=>(ci .i64) (y31.getD i default)) (0+k))]]⟩ ?_
 refine XD (s':=⟨186,[(2,.ref 1 0),(3,.int .i64 0)],[.box u2,.box [sL 4 Z0 y26,sL 1 (ci .i64) y31]]⟩) (JQ (.cons Sub.rfl (.cons Sub.rfl .nil)) (.cons .rfl (.cons (.box (.cons CSub.rfl (.cons (KK rfl (Zaz (f:=fun i=>(ci .i64) (y31.getD i default)) (fun _ _=>rfl))) .nil))) .nil))) ?_
 refine Zg ?_
 obtain rfl:=Option.some.inj h144
 exact er0 (.tup [.agg [sL 4 Z0 y26,sL 1 (ci .i64) y31],.int .i64 0])
theorem Zaa (a0:List Int) (r:List Int) (h:M.Yl a0=some r):Fn Tryz.prog 49 [sL 1 (ci .i64) a0] (.pure (sL 1 (ci .i64) r)):=by
 unfold M.Yl at h
 obtain ⟨hc,h1⟩:=Zy h
 obtain rfl:=Option.some.inj h1
 refine ZT Tryz.func49 rfl (by kernel_rfl) (Za (zg [0] 0 (Zb (Za (Za (zg [0,4] 0 (Zb (nq a0.length (fun hz=>?_) ?_))))))))
 exact Za (zg [2] 0 (Zb (Zg (Zh (er (.sl false 1 0 (fun _=>[])) (U1 hz))))))
 exact Ze (Zb (Za (zc [2] 1 hc (Zb (Zg (er (.sl false 1 (0+a0.length) (fun i=>(app (fun i=>List.take 1 (List.drop (i*1) [])) 0 (fun i=>(ci .i64) (a0.getD i default))) (0+i))) (W0 (Nat.zero_add _) (fun i hi=>by rw [Nat.zero_add]; exact Ua (ci .i64) _ a0 _ (fun _ _=>rfl) i hi))))))))
theorem GN (a0:List Int) (r:List Int) (h:M.Yl a0=some r):Fn Tryz.prog 49 [sL 1 (ci .i64) a0] (oL 1 (ci .i64) r):=by
 unfold M.Yl at h
 obtain ⟨hc,h1⟩:=Zy h
 obtain rfl:=Option.some.inj h1
 refine Zc3 Tryz.func49 rfl (by kernel_rfl) (Gi ?_)
 refine Za (rg0 [0] 0 ⟨8,[(0,sL 1 (ci .i64) a0)],[]⟩ ?_)
 refine Zb (Za (Za (rg0 [0,4] 0 ⟨8,[(0,sL 1 (ci .i64) a0),(4,.nilq a0.length)],[]⟩ ?_)))
 refine Zb (nq a0.length (fun hz=>?_) ?_)
 refine Za (rg0 [2] 0 ⟨8,[(2,.sl true 1 0 (fun _=>[]))],[]⟩ ?_)
 refine Zb (Zg (Zh ?_))
 obtain rfl:=List.eq_nil_of_length_eq_zero hz
 exact ⟨_,Zaw (wd:=1) (f:=fun _=>[]) 2 (by kernel_rfl) 1 (fun i=>(ci .i64) (([]:List Int).getD i default)),.inr rfl,2,0,_,rfl,rfl,rfl,fun _ _=>rfl⟩
 refine Ze (Zb (Za (rgc [2] 1 ⟨8,[(2,.asl 0 0 (0+a0.length))],[.arr 1 (0+a0.length) (app (fun i=>List.take 1 (List.drop (i*1) [])) 0 (fun i=>(ci .i64) (a0.getD i default)))]⟩ [decide (0=0)||decide (0 < a0.length),decide ((0+a0.length)*8≤140737488355328)] hc ?_)))
 refine Zb (Zg ?_)
 exact ⟨⟨8,[(2,.asl 0 0 a0.length)],[aL 1 (ci .i64) a0]⟩,JQ (.cons (Gb (Nat.zero_add _)) .nil) (.cons (.arr (Nat.zero_add _) (Ua (ci .i64) _ a0 _ (fun _ _=>rfl))) .nil),.inr rfl,2,0,_,rfl,rfl,rfl,fun _ _=>rfl⟩
def wF (p1:(List (List Int)) × Int × Int) (g:Bool):D:=bif g then sL 1 (cl 1 (ci .i64)) ((p1.1.drop p1.2.1.toNat).take (((p1.1.length:Int).toNat) - p1.2.1.toNat)) else .asl 0 (0+p1.2.1.toNat) (((p1.1.length:Int).toNat) - p1.2.1.toNat)
theorem failJ3 (a0:Int) (p1:(List (List Int)) × Int × Int) (p3:(List (List Int)) × Int):∀ x x':(List (List Int)) × Int,(∃ t,x.1=p1.1++t)→M.Q1 a0 p1 p3 x=some (.inl x')→∃ t,x'.1=p1.1++t:=by
 intro x x' ⟨t,ht⟩ h
 unfold M.Q1 at h
 cases hb:decide (x.2 < a0) with
 | false=>rw [hb] at h; cases h
 | true =>
  rw [hb] at h
  obtain ⟨r,_,h1⟩:=bind_some (Gh rfl h)
  obtain ⟨_,h2⟩:=Zy h1
  obtain ⟨_,h3⟩:=Zy h2
  have h4:=Sum.inl.inj (Option.some.inj h3)
  rw [← h4]
  exact ⟨t++[r++[x.2]],by rw [ht,List.append_assoc]⟩
theorem failJ2 (a0:Int) (p1:(List (List Int)) × Int × Int):∀ x x':(List (List Int)) × Int,(∃ t,x.1=p1.1++t)→M.JB a0 p1 x=some (.inl x')→∃ t,x'.1=p1.1++t:=by
 intro x x' hx h
 have key:∀ q,M.Qy a0 p1 x q=some (.inl x')→∃ t,x'.1=p1.1++t:=fun q hq=>by
  unfold M.Qy at hq
  obtain ⟨y,q1,h1⟩:=bind_some hq
  have h2:=Sum.inl.inj (Option.some.inj h1)
  rw [← h2]
  refine Zlv (fun z:(List (List Int)) × Int=>∃ t,z.1=p1.1++t) (fun z=>∃ t,z=p1.1++t) (failJ3 a0 p1 x) (fun z y hz e=>?_) (Wt q1) hx
  unfold M.Q1 at e
  cases hb:decide (z.2 < a0) with
  | true =>
   rw [hb] at e
   obtain ⟨r,_,h3⟩:=bind_some (Gh rfl e)
   obtain ⟨_,h4⟩:=Zy h3
   obtain ⟨_,h5⟩:=Zy h4
   cases h5
  | false =>
   rw [hb] at e
   have h3:=Sum.inr.inj (Option.some.inj (GP rfl e))
   rw [← h3]; exact hz
 unfold M.JB at h
 cases hb:decide (x.2 < ((((p1.1.length:Int).toNat) - p1.2.1.toNat:Nat):Int)) with
 | false=>rw [hb] at h; cases h
 | true =>
  rw [hb] at h
  obtain ⟨_,h1⟩:=Zy (Gh rfl h)
  revert h1
  cases decide ((((((p1.1.drop p1.2.1.toNat).take (((p1.1.length:Int).toNat) - p1.2.1.toNat)).getD x.2.toNat default).length:Int) > 0)) with
  | true=>exact fun h1=>key _ (Zy h1).2
  | false=>exact fun h1=>key _ h1
theorem failF {p1:(List (List Int)) × Int × Int} (h:∀ b∈[decide (0≤(p1.1.length:Int)),decide ((p1.1.length:Int)≤(p1.1.length:Int)),decide (0≤p1.2.1),decide (p1.2.1≤((p1.1.length:Int).toNat:Int))],b=true):p1.2.1.toNat≤p1.1.length:=by
 have h1:0≤p1.2.1:=of_decide_eq_true (h _ (by simp only [List.mem_cons,true_or,or_true]))
 have h2:p1.2.1≤((p1.1.length:Int).toNat:Int):=of_decide_eq_true (h _ (by simp only [List.mem_cons,true_or,or_true]))
 omega
theorem failL (p1:(List (List Int)) × Int × Int):((p1.1.drop p1.2.1.toNat).take (((p1.1.length:Int).toNat) - p1.2.1.toNat)).length=((p1.1.length:Int).toNat) - p1.2.1.toNat:=by
 simp
theorem failC {p1:(List (List Int)) × Int × Int} {i:Int} (h:∀ b∈[decide (0≤i),decide (i < (((p1.1.drop p1.2.1.toNat).take (((p1.1.length:Int).toNat) - p1.2.1.toNat)).length:Int))],b=true):∀ b∈[decide (0≤i),decide (i < ((((p1.1.length:Int).toNat) - p1.2.1.toNat:Nat):Int))],b=true:=by
 rw [failL] at h
 exact h
theorem failE {p1:(List (List Int)) × Int × Int} {p3:(List (List Int)) × Int} (hJ:∃ t,p3.1=p1.1++t) (h:∀ b∈[decide (0≤p3.2),decide (p3.2 < (((p1.1.drop p1.2.1.toNat).take (((p1.1.length:Int).toNat) - p1.2.1.toNat)).length:Int))],b=true):p3.1.getD (0+p1.2.1.toNat+p3.2.toNat) default=((p1.1.drop p1.2.1.toNat).take (((p1.1.length:Int).toNat) - p1.2.1.toNat)).getD p3.2.toNat default:=by
 have h1:0≤p3.2:=of_decide_eq_true (h _ (by simp only [List.mem_cons,true_or,or_true]))
 have h2:p3.2 < (((p1.1.drop p1.2.1.toNat).take (((p1.1.length:Int).toNat) - p1.2.1.toNat)).length:Int):=of_decide_eq_true (h _ (by simp only [List.mem_cons,true_or,or_true]))
 rw [failL] at h2
 obtain ⟨t,ht⟩:=hJ
 rw [ht,List.getD_eq_getElem?_getD,List.getD_eq_getElem?_getD,List.getElem?_append_left (by omega),List.getElem?_take_of_lt (by omega),List.getElem?_drop]
 congr 2
 omega
theorem failN {p1:(List (List Int)) × Int × Int} {p6:(List (List Int)) × Int} (hJ:∃ t,p6.1=p1.1++t) (hF:p1.2.1.toNat≤p1.1.length) (h:∀ b∈[decide ((p6.1.length+1)*24≤140737488355328)],b=true) :
    ∀ b∈[decide (0+p1.2.1.toNat+(((p1.1.length:Int).toNat) - p1.2.1.toNat)≤p6.1.length+1),decide ((p6.1.length+1)*24≤140737488355328)],b=true:=by
 obtain ⟨t,ht⟩:=hJ
 have hl:p6.1.length=p1.1.length+t.length:=by rw [ht,List.length_append]
 intro b hb
 rcases List.mem_cons.1 hb with rfl | hb
 · exact decide_eq_true (by omega)
 · exact h b hb
theorem failS {p1:(List (List Int)) × Int × Int} {p6:(List (List Int)) × Int} (hJ:∃ t,p6.1=p1.1++t) (hF:p1.2.1.toNat≤p1.1.length):Sub (.sl false 1 (((p1.1.length:Int).toNat) - p1.2.1.toNat) (fun i=>cl 1 (ci .i64) (p6.1.getD (0+p1.2.1.toNat+i) default))) (wF p1 true):=by
 refine W0 (failL p1).symm fun i hi=>?_
 obtain ⟨t,ht⟩:=hJ
 congr 1
 rw [ht,List.getD_eq_getElem?_getD,List.getD_eq_getElem?_getD,List.getElem?_append_left (by omega),List.getElem?_take_of_lt (by omega),List.getElem?_drop]
 congr 2
 omega
theorem Zet (a0:Int) (a1:Int) (r:(List (List Int)) × Int) (h:M.We a0 a1=some r):Fn Tryz.prog 20 [.int .i64 a0,.int .i64 a1] (.pure (.tup [sL 1 (cl 1 (ci .i64)) r.1,.int .i64 r.2])):=by
 let u15:=List (List Int)
 unfold M.We at h
 refine ZT Tryz.func20 rfl (by kernel_rfl) (Za (zg [0,1] 0 (Zb (Za (Za (rg0 [0,1,26] 0 ⟨71,[(0,.int .i64 a0),(1,.int .i64 a1),(26,.bool ((((decide (a0 < 0))||(decide (a0 > 12)))||(decide (a1 < 0)))||(decide (a1 > 2))))],[]⟩ (Zb (cn h (fun _ h2=>?_) (fun _ h3=>?_)))))))))
 refine Za (zg [4,5] 0 (Zb (Zg (Zh ?_))))
 obtain rfl:=Option.some.inj h2
 exact er (.tup [.sl false 1 0 (fun _=>[]),.int .i64 1]) (KL (.cons Zk1 (.cons ASub.rfl .nil)))
 refine Ze (Zb (Za (rgo 1 [] [0,1,27] 0 ⟨71,[(0,.int .i64 a0),(1,.int .i64 a1),(27,.sl true 1 0 (fun i=>List.take 1 (List.drop (i*1) [])))],[]⟩ [] [] Zz trivial _ (ZmA (sz:=1) (len:=1) (f:=fun i=>List.take 1 (List.drop (i*1) [.sl true 1 0 (fun i=>List.take 1 (List.drop (i*1) []))])) rfl rfl rfl rfl rfl (by kernel_rfl)) [] [0,1,6] 1 (fun _=>⟨71,[(0,.int .i64 a0),(1,.int .i64 a1),(6,.asl 0 0 1)],[.arr 1 1 (fun i=>List.take 1 (List.drop (i*1) [.sl true 1 0 (fun i=>List.take 1 (List.drop (i*1) []))]))]⟩) (fun _=>[]) (fun _=>[]) (fun _=>Zz) (fun _=>trivial) (fun _=>(XD (s':=⟨71,[(0,.int .i64 a0),(1,.int .i64 a1),(6,.asl 0 0 (([([]:List Int)]:List (List Int)).length))],[aL 1 (cl 1 (ci .i64)) ([([]:List Int)]:List (List Int))]⟩) (JQ (.cons Sub.rfl (.cons Sub.rfl (.cons (Gb rfl) .nil))) (.cons (.arp rfl (Zj7 (.cons Zi7 .nil))) .nil)) (Za (zg [0,1,6,7] 1 (Zb (Za (Za (zg [0,6,7,29,30] 1 (Zb (Zj ?_)))))))))))))
 obtain ⟨y11,q45,h46⟩:=bind_some h3
 refine zl (fun (p1:u15 × Int × Int)=>⟨71,[(0,.int .i64 a0),(6,.asl 0 0 p1.1.length),(7,.int .i64 p1.2.1),(29,.int .i64 a1),(30,.int .i64 p1.2.2)],[aL 1 (cl 1 (ci .i64)) p1.1]⟩) (fun z=>OutE 0 (fun z=>⟨71,[(6,.asl 0 0 z.length)],[aL 1 (cl 1 (ci .i64)) z]⟩) z) q45 ?_ ?_
 intro p1 y2 h4
 let u1:=(p1.1.length:Int)
 let u7:=(u1.toNat) - p1.2.1.toNat
 let u12:=(p1.1.drop p1.2.1.toNat).take u7
 unfold M.V4 at h4
 refine Za (zg [0,6,7,29,30,31] 1 (Zb (Za (cn h4 (fun _ h6=>?_) (fun _ h7=>?_)))))
 refine Ze (Zb (Za (Zj (Za (zg [0,6,7,8,29,30] 1 (Zb (Za (Za ?_))))))))
 obtain ⟨c8,h9⟩:=Zy h6
 refine rgc [0,6,8,29,30,37,38,39] 1 ⟨71,[(0,.int .i64 a0),(6,.asl 0 0 p1.1.length),(8,.int .i64 u1),(29,.int .i64 a1),(30,.int .i64 p1.2.2),(37,.asl 0 (0+p1.2.1.toNat) u7),(38,.int .i64 (((u1.toNat) - p1.2.1.toNat:Nat):Int)),(39,.int .i64 0)],[aL 1 (cl 1 (ci .i64)) p1.1]⟩ [decide (0≤u1),decide (u1≤u1),decide (0≤p1.2.1),decide (p1.2.1≤(u1.toNat:Int))] c8 (Zb (Zj ?_))
 obtain ⟨y10,q39,h40⟩:=bind_some h9
 refine Ud (s':=⟨71,[(0,.int .i64 a0),(6,.asl 0 0 p1.1.length),(8,.int .i64 u1),(29,.int .i64 a1),(30,.int .i64 p1.2.2),(37,wF p1 false),(38,.int .i64 (((u1.toNat) - p1.2.1.toNat:Nat):Int)),(39,.int .i64 0)],[aL 1 (cl 1 (ci .i64)) p1.1]⟩) (U6) (G7 (ZgS (f:=M.JB a0 p1) (fun (p3:u15 × Int)=>∃ t,p3.1=p1.1++t) (fun (p3:u15 × Int) (g:Bool)=>⟨71,[(0,.int .i64 a0),(6,.asl 0 0 p3.1.length),(8,.int .i64 u1),(29,.int .i64 a1),(30,.int .i64 p1.2.2),(37,wF p1 g),(38,.int .i64 (((u1.toNat) - p1.2.1.toNat:Nat):Int)),(39,.int .i64 p3.2)],[aL 1 (cl 1 (ci .i64)) p3.1]⟩) (fun z=>OutE 2 (fun z=>⟨71,[(0,.int .i64 a0),(6,.asl 0 0 z.length),(8,.int .i64 u1),(29,.int .i64 a1),(30,.int .i64 p1.2.2)],[aL 1 (cl 1 (ci .i64)) z]⟩) z) (failJ2 a0 p1) ?_ (x:=(p1.1,0)) (y:=y10) (Wt q39) ⟨[],(List.append_nil _).symm⟩ false) ?_)
 intro p3 y4 g hJ h10
 let u2:=u12.getD p3.2.toNat default
 let u3:Nat × D:=(6,.asl 0 0 p3.1.length)
 let u9:=(u2.length:Int)
 let u10:List Bool:=[decide (0≤p3.2),decide (p3.2 < (((u1.toNat) - p1.2.1.toNat:Nat):Int))]
 let u13:Nat × D:=(40,.bool (decide (p3.2 < (((u1.toNat) - p1.2.1.toNat:Nat):Int))))
 have hF:=failF c8
 unfold M.JB at h10
 refine Za (rg0 [0,6,8,29,30,37,38,39,40] 1 ⟨71,[(0,.int .i64 a0),u3,(8,.int .i64 u1),(29,.int .i64 a1),(30,.int .i64 p1.2.2),(37,wF p1 g),(38,.int .i64 (((u1.toNat) - p1.2.1.toNat:Nat):Int)),(39,.int .i64 p3.2),u13],[aL 1 (cl 1 (ci .i64)) p3.1]⟩ (Zb (Za (cn h10 (fun _ h12=>?_) (fun _ h13=>?_)))) (by cases g <;> kernel_rfl))
 refine Ze (Zb (Za (Zj (Za ?_))))
 obtain ⟨c14,h15⟩:=Zy h12
 have hc14:∀ b∈u10,b=true:=failC c14
 have e14:p3.1.getD (0+p1.2.1.toNat+p3.2.toNat) default=u12.getD p3.2.toNat default:=failE hJ c14
 refine two (s:=fun g=>⟨71,[(0,.int .i64 a0),u3,(8,.int .i64 u1),(29,.int .i64 a1),(30,.int .i64 p1.2.2),(37,wF p1 g),(38,.int .i64 (((u1.toNat) - p1.2.1.toNat:Nat):Int)),(39,.int .i64 p3.2),u13],[aL 1 (cl 1 (ci .i64)) p3.1]⟩) (s':=fun g=>⟨71,[(0,.int .i64 a0),u3,(8,.int .i64 u1),(10,sL 1 (ci .i64) u2),(29,.int .i64 a1),(30,.int .i64 p1.2.2),(37,wF p1 g),(38,.int .i64 (((u1.toNat) - p1.2.1.toNat:Nat):Int)),(39,.int .i64 p3.2)],[aL 1 (cl 1 (ci .i64)) p3.1]⟩) g (fun k=>rgc [0,6,8,10,29,30,37,38,39] 1 ⟨71,[(0,.int .i64 a0),u3,(8,.int .i64 u1),(10,sL 1 (ci .i64) (p3.1.getD (0+p1.2.1.toNat+p3.2.toNat) default)),(29,.int .i64 a1),(30,.int .i64 p1.2.2),(37,wF p1 false),(38,.int .i64 (((u1.toNat) - p1.2.1.toNat:Nat):Int)),(39,.int .i64 p3.2)],[aL 1 (cl 1 (ci .i64)) p3.1]⟩ u10 hc14 (by rw [e14]; exact k)) (fun k=>rgc [0,6,8,10,29,30,37,38,39] 1 ⟨71,[(0,.int .i64 a0),u3,(8,.int .i64 u1),(10,sL 1 (ci .i64) u2),(29,.int .i64 a1),(30,.int .i64 p1.2.2),(37,wF p1 true),(38,.int .i64 (((u1.toNat) - p1.2.1.toNat:Nat):Int)),(39,.int .i64 p3.2)],[aL 1 (cl 1 (ci .i64)) p3.1]⟩ [decide (0≤p3.2),decide (p3.2 < (u12.length:Int))] c14 k) (Zb (Za (rg0 [0,6,8,10,11,29,30,37,38,39] 1 ⟨71,[(0,.int .i64 a0),u3,(8,.int .i64 u1),(10,sL 1 (ci .i64) u2),(11,.int .i64 0),(29,.int .i64 a1),(30,.int .i64 p1.2.2),(37,wF p1 g),(38,.int .i64 (((u1.toNat) - p1.2.1.toNat:Nat):Int)),(39,.int .i64 p3.2)],[aL 1 (cl 1 (ci .i64)) p3.1]⟩ (Zb (Uh (fun (p5:Int)=>⟨71,[(0,.int .i64 a0),u3,(8,.int .i64 u1),(10,sL 1 (ci .i64) u2),(11,.int .i64 p5),(29,.int .i64 a1),(30,.int .i64 p1.2.2),(37,wF p1 g),(38,.int .i64 (((u1.toNat) - p1.2.1.toNat:Nat):Int)),(39,.int .i64 p3.2)],[aL 1 (cl 1 (ci .i64)) p3.1]⟩) (fun p5=>M.Qy a0 p1 p3 p5=some y4) ?_ ?_)) (by cases g <;> kernel_rfl))))
 intro p5 h17
 unfold M.Qy at h17
 refine Za (rg0 [0,6,8,10,12,29,30,37,38,39] 1 ⟨71,[(0,.int .i64 a0),u3,(8,.int .i64 u1),(10,sL 1 (ci .i64) u2),(12,.int .i64 p5),(29,.int .i64 a1),(30,.int .i64 p1.2.2),(37,wF p1 g),(38,.int .i64 (((u1.toNat) - p1.2.1.toNat:Nat):Int)),(39,.int .i64 p3.2)],[aL 1 (cl 1 (ci .i64)) p3.1]⟩ (Zb (Zj ?_)) (by cases g <;> kernel_rfl))
 obtain ⟨y9,q28,h29⟩:=bind_some h17
 refine Ud (s':=⟨71,[(0,.int .i64 a0),u3,(8,.int .i64 u1),(10,sL 1 (ci .i64) u2),(12,.int .i64 p5),(29,.int .i64 a1),(30,.int .i64 p1.2.2),(37,wF p1 g),(38,.int .i64 (((u1.toNat) - p1.2.1.toNat:Nat):Int)),(39,.int .i64 p3.2)],[aL 1 (cl 1 (ci .i64)) p3.1]⟩) (U6) (G7 (ZgS (f:=M.Q1 a0 p1 p3) (fun (p3:u15 × Int)=>∃ t,p3.1=p1.1++t) (fun (p6:u15 × Int) (g:Bool)=>⟨71,[(0,.int .i64 a0),(6,.asl 0 0 p6.1.length),(8,.int .i64 u1),(10,sL 1 (ci .i64) u2),(12,.int .i64 p6.2),(29,.int .i64 a1),(30,.int .i64 p1.2.2),(37,wF p1 g),(38,.int .i64 (((u1.toNat) - p1.2.1.toNat:Nat):Int)),(39,.int .i64 p3.2)],[aL 1 (cl 1 (ci .i64)) p6.1]⟩) (fun z=>OutL 4 (fun z (g:Bool)=>⟨71,[(0,.int .i64 a0),(6,.asl 0 0 z.length),(8,.int .i64 u1),(29,.int .i64 a1),(30,.int .i64 p1.2.2),(37,wF p1 g),(38,.int .i64 (((u1.toNat) - p1.2.1.toNat:Nat):Int)),(39,.int .i64 p3.2)],[aL 1 (cl 1 (ci .i64)) z]⟩) z) (failJ3 a0 p1 p3) ?_ (x:=(p3.1,p5)) (y:=y9) (Wt q28) hJ g) ?_)
 intro p6 y7 g1 hJ1 h18
 let u4:Nat × D:=(6,.asl 0 0 p6.1.length)
 let u6:=p6.1.length+1
 let u8:Nat × D:=(59,.asl 0 0 p6.1.length)
 let u16:Nat × D:=(6,.asl 0 0 u6)
 let u18:=u6*24≤140737488355328
 unfold M.Q1 at h18
 refine Za (Za (rg0 [0,6,8,10,12,29,30,37,38,39,56] 1 ⟨71,[(0,.int .i64 a0),u4,(8,.int .i64 u1),(10,sL 1 (ci .i64) u2),(12,.int .i64 p6.2),(29,.int .i64 a1),(30,.int .i64 p1.2.2),(37,wF p1 g1),(38,.int .i64 (((u1.toNat) - p1.2.1.toNat:Nat):Int)),(39,.int .i64 p3.2),(56,.bool (decide (p6.2 < a0)))],[aL 1 (cl 1 (ci .i64)) p6.1]⟩ (Zb (cn h18 (fun _ h20=>?_) (fun _ h21=>?_))) (by cases g1 <;> kernel_rfl)))
 refine Ze (Zb (Za (Zj ?_)))
 obtain ⟨r8,q22,h23⟩:=bind_some h20
 let u5:=r8++[p6.2]
 let u11:=p6.1++[r8++[p6.2]]
 let u14:=r8.length+1
 let u17:=u14*8≤140737488355328
 obtain ⟨c24,h25⟩:=Zy h23
 obtain ⟨c26,h27⟩:=Zy h25
 refine twoE (s:=fun g=>⟨71,[(0,.int .i64 a0),u4,(8,.int .i64 u1),(10,sL 1 (ci .i64) u2),(12,.int .i64 p6.2),(29,.int .i64 a1),(30,.int .i64 p1.2.2),(37,wF p1 g),(38,.int .i64 (((u1.toNat) - p1.2.1.toNat:Nat):Int)),(39,.int .i64 p3.2),(56,.bool (decide (p6.2 < a0)))],[aL 1 (cl 1 (ci .i64)) p6.1]⟩) (s':=fun g=>⟨71,[(0,.int .i64 a0),u16,(8,.int .i64 u1),(10,sL 1 (ci .i64) u2),(12,.int .i64 p6.2),(29,.int .i64 a1),(30,.int .i64 p1.2.2),(37,wF p1 g),(38,.int .i64 (((u1.toNat) - p1.2.1.toNat:Nat):Int)),(39,.int .i64 p3.2)],[.arr 1 u6 (app (fun i=>(cl 1 (ci .i64)) (p6.1.getD i default)) p6.1.length (fun i=>List.take 1 (List.drop (i*1) [sL 1 (ci .i64) u5])))]⟩) g1 (fun k=>rgT 6 7 37 [oL 1 (ci .i64) r8] [0,6,8,10,12,29,30,37,38,39,59,64] 2 ⟨71,[(0,.int .i64 a0),u4,(8,.int .i64 u1),(10,sL 1 (ci .i64) u2),(12,.int .i64 p6.2),(29,.int .i64 a1),(30,.int .i64 p1.2.2),(37,wF p1 false),(38,.int .i64 (((u1.toNat) - p1.2.1.toNat:Nat):Int)),(39,.int .i64 p3.2),u8,(64,.asl 1 0 u14)],[aL 1 (cl 1 (ci .i64)) p6.1,.arr 1 u14 (app (fun i=>(ci .i64) (r8.getD i default)) r8.length (fun i=>List.take 1 (List.drop (i*1) [.int .i64 p6.2])))]⟩ [decide u17] [⟨true,49,[sL 1 (ci .i64) u2],oL 1 (ci .i64) r8⟩] c24 ⟨fun _=>GN u2 r8 q22,trivial⟩ ⟨71,[(0,.int .i64 a0),u4,(8,.int .i64 u1),(10,sL 1 (ci .i64) u2),(12,.int .i64 p6.2),(29,.int .i64 a1),(30,.int .i64 p1.2.2),(37,wF p1 false),(38,.int .i64 (((u1.toNat) - p1.2.1.toNat:Nat):Int)),(39,.int .i64 p3.2),u8,(64,sL 1 (ci .i64) u5)],[aL 1 (cl 1 (ci .i64)) p6.1,aL 1 (ci .i64) ([]:List Int)]⟩ (Le.trans (s':=⟨71,[(0,.int .i64 a0),u4,(8,.int .i64 u1),(10,sL 1 (ci .i64) u2),(12,.int .i64 p6.2),(29,.int .i64 a1),(30,.int .i64 p1.2.2),(37,wF p1 false),(38,.int .i64 (((u1.toNat) - p1.2.1.toNat:Nat):Int)),(39,.int .i64 p3.2),u8,(64,.asl 1 0 (u5.length))],[aL 1 (cl 1 (ci .i64)) p6.1,aL 1 (ci .i64) u5]⟩) (JQ (.cons Sub.rfl (.cons Sub.rfl (.cons Sub.rfl (.cons Sub.rfl (.cons Sub.rfl (.cons Sub.rfl (.cons Sub.rfl (.cons Sub.rfl (.cons Sub.rfl (.cons Sub.rfl (.cons Sub.rfl (.cons (Gb (GM _ _)) .nil)))))))))))) (.cons .rfl (.cons (.arr (GM _ _) (K0 (ci .i64) r8 p6.2 _ rfl)) .nil))) (Le.trans (Zhi 64 1 1 (ci .i64) u5 (fun i=>(ci .i64) (([]:List Int).getD i default)) (by kernel_rfl) (by kernel_rfl) (by kernel_rfl)) (kp [0,6,8,10,12,29,30,37,38,39,59,64]))) [0,6,8,10,12,29,30,37,38,39,59,65] 1 [decide (0+p1.2.1.toNat+u7≤p6.1.length+1),decide u18] (failN hJ1 hF c26) [0,6,8,10,12,29,30,37,38,39] 1 ⟨71,[(0,.int .i64 a0),u16,(8,.int .i64 u1),(10,sL 1 (ci .i64) u2),(12,.int .i64 p6.2),(29,.int .i64 a1),(30,.int .i64 p1.2.2),(37,wF p1 false),(38,.int .i64 (((u1.toNat) - p1.2.1.toNat:Nat):Int)),(39,.int .i64 p3.2)],[.arr 1 u6 (app (fun i=>(cl 1 (ci .i64)) (p6.1.getD i default)) p6.1.length (fun i=>List.take 1 (List.drop (i*1) [sL 1 (ci .i64) u5])))]⟩ ⟨71,[(0,.int .i64 a0),u16,(8,.int .i64 u1),(10,sL 1 (ci .i64) u2),(12,.int .i64 p6.2),(29,.int .i64 a1),(30,.int .i64 p1.2.2),(37,.sl false 1 u7 (fun i=>cl 1 (ci .i64) (p6.1.getD (0+p1.2.1.toNat+i) default))),(38,.int .i64 (((u1.toNat) - p1.2.1.toNat:Nat):Int)),(39,.int .i64 p3.2)],[.arr 1 u6 (app (fun i=>(cl 1 (ci .i64)) (p6.1.getD i default)) p6.1.length (fun i=>List.take 1 (List.drop (i*1) [sL 1 (ci .i64) u5])))]⟩ (k false) (XO (XD (JQ (.cons Sub.rfl (.cons Sub.rfl (.cons Sub.rfl (.cons Sub.rfl (.cons Sub.rfl (.cons Sub.rfl (.cons Sub.rfl (.cons (failS hJ1 hF) (.cons Sub.rfl (.cons Sub.rfl .nil)))))))))) .rfl) (k true)))) (fun k=>rgx 6 [oL 1 (ci .i64) r8] [0,6,8,10,12,29,30,37,38,39,59,64] 2 ⟨71,[(0,.int .i64 a0),u4,(8,.int .i64 u1),(10,sL 1 (ci .i64) u2),(12,.int .i64 p6.2),(29,.int .i64 a1),(30,.int .i64 p1.2.2),(37,wF p1 true),(38,.int .i64 (((u1.toNat) - p1.2.1.toNat:Nat):Int)),(39,.int .i64 p3.2),u8,(64,.asl 1 0 u14)],[aL 1 (cl 1 (ci .i64)) p6.1,.arr 1 u14 (app (fun i=>(ci .i64) (r8.getD i default)) r8.length (fun i=>List.take 1 (List.drop (i*1) [.int .i64 p6.2])))]⟩ [decide u17] [⟨true,49,[sL 1 (ci .i64) u2],oL 1 (ci .i64) r8⟩] c24 ⟨fun _=>GN u2 r8 q22,trivial⟩ ⟨71,[(0,.int .i64 a0),u4,(8,.int .i64 u1),(10,sL 1 (ci .i64) u2),(12,.int .i64 p6.2),(29,.int .i64 a1),(30,.int .i64 p1.2.2),(37,wF p1 true),(38,.int .i64 (((u1.toNat) - p1.2.1.toNat:Nat):Int)),(39,.int .i64 p3.2),u8,(64,sL 1 (ci .i64) u5)],[aL 1 (cl 1 (ci .i64)) p6.1,aL 1 (ci .i64) ([]:List Int)]⟩ (Le.trans (s':=⟨71,[(0,.int .i64 a0),u4,(8,.int .i64 u1),(10,sL 1 (ci .i64) u2),(12,.int .i64 p6.2),(29,.int .i64 a1),(30,.int .i64 p1.2.2),(37,wF p1 true),(38,.int .i64 (((u1.toNat) - p1.2.1.toNat:Nat):Int)),(39,.int .i64 p3.2),u8,(64,.asl 1 0 (u5.length))],[aL 1 (cl 1 (ci .i64)) p6.1,aL 1 (ci .i64) u5]⟩) (JQ (.cons Sub.rfl (.cons Sub.rfl (.cons Sub.rfl (.cons Sub.rfl (.cons Sub.rfl (.cons Sub.rfl (.cons Sub.rfl (.cons Sub.rfl (.cons Sub.rfl (.cons Sub.rfl (.cons Sub.rfl (.cons (Gb (GM _ _)) .nil)))))))))))) (.cons .rfl (.cons (.arr (GM _ _) (K0 (ci .i64) r8 p6.2 _ rfl)) .nil))) (Le.trans (Zhi 64 1 1 (ci .i64) u5 (fun i=>(ci .i64) (([]:List Int).getD i default)) (by kernel_rfl) (by kernel_rfl) (by kernel_rfl)) (kp [0,6,8,10,12,29,30,37,38,39,59,64]))) rfl [] [0,6,8,10,12,29,30,37,38,39] 1 ⟨71,[(0,.int .i64 a0),u16,(8,.int .i64 u1),(10,sL 1 (ci .i64) u2),(12,.int .i64 p6.2),(29,.int .i64 a1),(30,.int .i64 p1.2.2),(37,wF p1 true),(38,.int .i64 (((u1.toNat) - p1.2.1.toNat:Nat):Int)),(39,.int .i64 p3.2)],[.arr 1 u6 (app (fun i=>(cl 1 (ci .i64)) (p6.1.getD i default)) p6.1.length (fun i=>List.take 1 (List.drop (i*1) [sL 1 (ci .i64) u5])))]⟩ [decide u18] [] c26 trivial (k true)) ?_
 intro g2
 refine XO (XD (s':=⟨71,[(0,.int .i64 a0),(6,.asl 0 0 (u11.length)),(8,.int .i64 u1),(10,sL 1 (ci .i64) u2),(12,.int .i64 p6.2),(29,.int .i64 a1),(30,.int .i64 p1.2.2),(37,wF p1 g2),(38,.int .i64 (((u1.toNat) - p1.2.1.toNat:Nat):Int)),(39,.int .i64 p3.2)],[aL 1 (cl 1 (ci .i64)) u11]⟩) (JQ (.cons Sub.rfl (.cons (Gb (GM _ _)) (.cons Sub.rfl (.cons Sub.rfl (.cons Sub.rfl (.cons Sub.rfl (.cons Sub.rfl (.cons Sub.rfl (.cons Sub.rfl (.cons Sub.rfl .nil)))))))))) (.cons (.arr (GM _ _) (K0 (cl 1 (ci .i64)) p6.1 u5 _ rfl)) .nil)) (rg0 [0,6,8,10,12,29,30,37,38,39] 1 ⟨71,[(0,.int .i64 a0),(6,.asl 0 0 (u11.length)),(8,.int .i64 u1),(10,sL 1 (ci .i64) u2),(12,.int .i64 (wr .i64 (p6.2+1))),(29,.int .i64 a1),(30,.int .i64 p1.2.2),(37,wF p1 g2),(38,.int .i64 (((u1.toNat) - p1.2.1.toNat:Nat):Int)),(39,.int .i64 p3.2)],[aL 1 (cl 1 (ci .i64)) u11]⟩ ?_ (by cases g2 <;> kernel_rfl)))
 obtain rfl:=Option.some.inj h27
 exact K6 g2 (U6)
 refine ZX (XC ?_)
 obtain rfl:=Option.some.inj h21
 exact R5 ⟨rfl,LeE.of g1 (by cases g1 <;> exact kp [0,6,8,29,30,37,38,39])⟩
 intro e30 s31 o32
 obtain ⟨rfl,l33⟩:=o32
 refine Y0 (XO (K5 l33 fun g3=>(rg0 [0,6,8,29,30,37,38,39] 1 ⟨71,[(0,.int .i64 a0),(6,.asl 0 0 y9.length),(8,.int .i64 u1),(29,.int .i64 a1),(30,.int .i64 p1.2.2),(37,wF p1 g3),(38,.int .i64 (((u1.toNat) - p1.2.1.toNat:Nat):Int)),(39,.int .i64 (wr .i64 (p3.2+1)))],[aL 1 (cl 1 (ci .i64)) y9]⟩ ?_ (by cases g3 <;> kernel_rfl))))
 obtain rfl:=Option.some.inj h29
 exact K6 g3 (U6)
 intro k16
 refine Za (rg0 [0,6,8,10,11,29,30,37,38,39,45] 1 ⟨71,[(0,.int .i64 a0),u3,(8,.int .i64 u1),(10,sL 1 (ci .i64) u2),(11,.int .i64 0),(29,.int .i64 a1),(30,.int .i64 p1.2.2),(37,wF p1 g),(38,.int .i64 (((u1.toNat) - p1.2.1.toNat:Nat):Int)),(39,.int .i64 p3.2),(45,.bool (decide (u9 > 0)))],[aL 1 (cl 1 (ci .i64)) p3.1]⟩ (Zb (cn h15 (fun _ h35=>?_) (fun _ h36=>?_))) (by cases g <;> kernel_rfl))
 obtain ⟨c37,h38⟩:=Zy h35
 exact rgc [0,6,8,10,11,29,30,37,38,39] 1 ⟨71,[(0,.int .i64 a0),u3,(8,.int .i64 u1),(10,sL 1 (ci .i64) u2),(11,.int .i64 (wr .i64 ((u2.getD (wr .i64 (u9 - 1)).toNat default)+1))),(29,.int .i64 a1),(30,.int .i64 p1.2.2),(37,wF p1 g),(38,.int .i64 (((u1.toNat) - p1.2.1.toNat:Nat):Int)),(39,.int .i64 p3.2)],[aL 1 (cl 1 (ci .i64)) p3.1]⟩ [decide (0≤(wr .i64 (u9 - 1))),decide ((wr .i64 (u9 - 1)) < u9)] c37 (XD lk (k16 (wr .i64 ((u2.getD (wr .i64 (u9 - 1)).toNat default)+1)) h38)) (by cases g <;> kernel_rfl)
 exact Ze (XD (by cases g <;> exact kp [0,6,8,10,11,29,30,37,38,39]) (k16 0 h36))
 refine ZX (XC ?_)
 obtain rfl:=Option.some.inj h13
 exact R5 ⟨rfl,kp [0,6,8,29,30]⟩
 intro e41 s42 o43
 exact zi o43 (zg [0,6,7,29,30] 1 (XO (Zb (zg [0,6,7,29,30] 1 (rn h40)))))
 exact ZX (XC (re h7 ⟨rfl,kq⟩))
 intro e47 s48 o49
 refine zi o49 (Za (zg [4,5] 1 (Zb (Zg ?_))))
 obtain rfl:=Option.some.inj h46
 exact er (.tup [.sl false 1 y11.length (fun i=>(cl 1 (ci .i64)) (y11.getD (0+i) default)),.int .i64 0]) (KL (.cons Zk6 (.cons ASub.rfl .nil)))
theorem ZbJ (a0:Int) (r:Bool) (h:M.V5 a0=some r):Fn Tryz.prog 129 [.int .u8 a0] (.pure (.bool r)):=by
 unfold M.V5 at h
 exact ZT Tryz.func129 rfl (by kernel_rfl) (Za (zg [0] 0 (Zb (Za (zg [2] 0 (Zb (Zg (er1 h))))))))
theorem Zgu (a0:Int) (r:Bool) (h:M.Us a0=some r):Fn Tryz.prog 130 [.int .u8 a0] (.pure (.bool r)):=by
 unfold M.Us at h
 exact ZT Tryz.func130 rfl (by kernel_rfl) (Za (zg [0] 0 (Zb (Za (zg [2] 0 (Zb (Zg (er1 h))))))))
theorem ZaD (a0:ByteArray) (r:Bool) (h:M.Ww a0=some r):Fn Tryz.prog 73 [.str a0] (.pure (.bool r)):=by
 unfold M.Ww at h
 refine ZT Tryz.func73 rfl (by kernel_rfl) (Za (zg [0] 0 (Zb (Za (Za ?_)))))
 obtain ⟨r1,q1,h2⟩:=bind_some h
 obtain ⟨c3,h4⟩:=Zy h2
 refine zr [0,18] 0 c3 (rq2 (fun hg=>ZbJ _ _ (Xn q1 hg)) rqn) (Zb (cn h4 (fun _ h6=>?_) (fun _ h7=>?_)))
 exact Za (zg [2] 0 (Zb (Zg (Zh (er1 h6)))))
 refine Ze (Zb (Za (Za (zg [0,3] 0 (Zb (Zj ?_))))))
 obtain ⟨y6,q21,h22⟩:=bind_some h7
 refine zl (fun (p2:Int)=>⟨52,[(0,.str a0),(3,.int .i64 p2)],[]⟩) (Sum.elim (fun z=>OutE 0 (fun z=>⟨52,[],[]⟩) z) (fun z=>OutR Tryz.prog Tryz.f73 (.bool z))) q21 ?_ ?_
 intro p2 y3 h8
 unfold M.Wm at h8
 refine Za (Za (zg [0,3,22] 0 (Zb (cn h8 (fun _ h10=>?_) (fun _ h11=>?_)))))
 refine Ze (Zb (Za (Zj (Za ?_))))
 obtain ⟨c12,h13⟩:=Zy h10
 refine zc [0,3,4] 0 c12 (Zb (Za ?_))
 obtain ⟨r4,q14,h15⟩:=bind_some h13
 obtain ⟨r5,q16,h17⟩:=bind_some h15
 refine zr [0,3,51] 0 Zz (rq1 (ZbJ _ _ q14) (rq2 (fun hg=>Zgu _ _ (Xn q16 hg)) rqn)) (Zb (cn h17 (fun _ h19=>?_) (fun _ h20=>?_)))
 exact Za (zg [2] 0 (Zb (Zg (ZE (Zh (rr h19 ⟨rfl,er0 _⟩))))))
 exact Ze (XO (Zb (zg [0,3] 0 (rn h20))))
 exact ZX (XC (re h11 ⟨rfl,kq⟩))
 intro e23 s24 o25
 rcases y6 with g7 | y8
 have h26:=XY h22
 exact zi o25 (Za (zg [2] 0 (Zb (Zg (er1 h26)))))
 have h27:=XZ h22
 obtain ⟨rfl,n29⟩:=o25
 refine ZE (Zh ?_)
 obtain rfl:=Option.some.inj h27
 exact n29
theorem XU (a0:Int) (a1:Int) (a2:Int) (r:Bool) (h:M.ZV a0 a1 a2=some r):Fn Tryz.prog 74 [.int .i64 a0,.int .i64 a1,.int .i64 a2] (.pure (.bool r)):=by
 unfold M.ZV at h
 exact ZT Tryz.func74 rfl (by kernel_rfl) (Za (zg [0,1,2] 0 (Zb (Za (zg [6] 0 (Zb (Zg (er1 h))))))))
theorem ZbK (a0:Zx) (b0:ByteArray) (r:Bool) (h:M.JH a0 b0=some r):Fn Tryz.prog 164 [.agg (Zm a0),.pp (cs b0)] (.pure (.bool r)):=by
 unfold M.JH at h
 exact ZT Tryz.func164 rfl (by kernel_rfl) (Za (zg [1,2] 1 (Zb (Za (zg [3] 0 (Zb (Zg (er1 h))))))))
theorem VX (a0:List Zx) (a1c0:ByteArray) (r:Int) (h:M.ZI a0 a1c0=some r):Fn Tryz.prog 146 [sL 12 Zm a0,.fn 164 [.pp (cs a1c0)]] (.pure (.int .i64 r)):=by
 unfold M.ZI at h
 refine ZT Tryz.func146 rfl (by kernel_rfl) (Za (zg [0,1] 0 (Zb (Za (Za (zg [0,1,7,8] 0 (Zb (Zj ?_))))))))
 obtain ⟨y4,q12,h13⟩:=bind_some h
 refine zl (fun (p1:Int)=>⟨19,[(0,sL 12 Zm a0),(1,.fn 164 [.pp (cs a1c0)]),(7,.int .i64 (a0.length:Int)),(8,.int .i64 p1)],[]⟩) (Sum.elim (fun z=>OutE 0 (fun z=>⟨19,[],[]⟩) z) (fun z=>OutR Tryz.prog Tryz.f146 (.int .i64 z))) q12 ?_ ?_
 intro p1 y2 h1
 unfold M.ZG at h1
 refine Za (zg [0,1,7,8,9] 0 (Zb (Za (cn h1 (fun _ h3=>?_) (fun _ h4=>?_)))))
 refine Ze (Zb (Za (Zj (Za (zg [0,1,5,7,8] 0 (Zb (Za ?_)))))))
 obtain ⟨r3,q5,h6⟩:=bind_some h3
 obtain ⟨c7,h8⟩:=Zy h6
 refine zr [0,1,5,7,8,16] 0 c7 (rq1 (ZbK _ _ _ q5) rqn) (Zb (cn h8 (fun _ h10=>?_) (fun _ h11=>?_)))
 exact Za (zg [4] 0 (Zb (Zg (ZE (Zh (rr h10 ⟨rfl,er0 _⟩))))))
 exact Ze (XO (Zb (zg [0,1,7,8] 0 (rn h11))))
 exact ZX (XC (re h4 ⟨rfl,kq⟩))
 intro e14 s15 o16
 rcases y4 with g5 | y6
 have h17:=XY h13
 exact zi o16 (Za (zg [4] 0 (Zb (Zg (er1 h17)))))
 have h18:=XZ h13
 obtain ⟨rfl,n20⟩:=o16
 refine ZE (Zh ?_)
 obtain rfl:=Option.some.inj h18
 exact n20
theorem K8 (a0:Zf) (a1:ByteArray) (r:Int) (h:M.Ql a0 a1=some r):Fn Tryz.prog 131 [.agg (ZB a0),.str a1] (.pure (.int .i64 r)):=by
 unfold M.Ql at h
 refine ZT Tryz.func131 rfl (by kernel_rfl) (Za (zg [2,3] 2 (Zb (Za ?_))))
 obtain ⟨r1,q1,h2⟩:=bind_some h
 exact zr [4] 0 Zz (rq1 (VX _ _ _ q1) rqn) (Zb (Zg (er1 h2)))
theorem Zab (a0:Zx) (r:Bool) (h:M.Qw a0=some r):Fn Tryz.prog 132 [.agg (Zm a0)] (.pure (.bool r)):=by
 unfold M.Qw at h
 refine ZT Tryz.func132 rfl (by kernel_rfl) (Za (zg [1] 1 (Zb (Za (Za ?_)))))
 obtain ⟨r1,q1,h2⟩:=bind_some h
 obtain ⟨r2,q3,h4⟩:=bind_some h2
 obtain ⟨r3,q5,h6⟩:=bind_some h4
 refine zr [1,18] 1 Zz (rq1 (XU _ _ _ _ q1) (rq2 (fun hg=>XU _ _ _ _ (Xn q3 hg)) (rq2 (fun hg=>XU _ _ _ _ (Xn q5 hg)) rqn))) (Zb (cn h6 (fun _ h8=>?_) (fun _ h9=>?_)))
 exact Za (zg [2] 0 (Zb (Zg (Zh (er1 h8)))))
 refine Ze (Zb (Za (Za (zg [1,54] 1 (Zb (cn h9 (fun _ h11=>?_) (fun _ h12=>?_)))))))
 exact Za (zg [2] 0 (Zb (Zg (Zh (er1 h11)))))
 refine Ze (Zb (Za (Za (zg [1,62] 1 (Zb (cn h12 (fun _ h14=>?_) (fun _ h15=>?_)))))))
 exact Za (zg [2] 0 (Zb (Zg (Zh (er1 h14)))))
 refine Ze (Zb (Za (Za (zg [1,64] 1 (Zb (cn h15 (fun _ h17=>?_) (fun _ h18=>?_)))))))
 refine Za ?_
 obtain ⟨r4,q19,h20⟩:=bind_some h17
 obtain ⟨r5,q21,h22⟩:=bind_some h20
 exact zr [2] 0 Zz (rq1 (XU _ _ _ _ q19) (rq2 (fun hg=>XU _ _ _ _ (Xn q21 hg)) rqn)) (Zb (Zg (Zh (er1 h22))))
 exact Ze (Zb (Za (zg [2] 0 (Zb (Zg (er1 h18))))))
theorem ZcR (a0:Int) (r:Int) (h:M.JO a0=some r):Fn Tryz.prog 89 [.int .i64 a0] (.pure (.int .i64 r)):=by
 unfold M.JO at h
 exact ZT Tryz.func89 rfl (by kernel_rfl) (Za (zg [0] 0 (Zb (Za (zg [2] 0 (Zb (Zg (er1 h))))))))
theorem ZaE (a0:Int) (r:Int) (h:M.J7 a0=some r):Fn Tryz.prog 88 [.int .i64 a0] (.pure (.int .u32 r)):=by
 unfold M.J7 at h
 refine ZT Tryz.func88 rfl (by kernel_rfl) (Za (zg [0] 0 (Zb (Za ?_))))
 obtain ⟨r1,q1,h2⟩:=bind_some h
 obtain ⟨c3,h4⟩:=Zy h2
 exact zr [2] 0 c3 (rq1 (ZcR _ _ q1) rqn) (Zb (Zg (er1 h4)))
theorem KD (a0:Int) (a1:Int) (r:ZO) (h:M.YY a0 a1=some r):Fn Tryz.prog 60 [.int .u32 a0,.int .i64 a1] (.pure (.agg (Z7 r))):=by
 unfold M.YY at h
 refine ZT Tryz.func60 rfl (by kernel_rfl) (Za (zg [0,1,4] 1 (Zb (Za ?_))))
 obtain ⟨r1,q1,h2⟩:=bind_some h
 obtain ⟨r2,q3,h4⟩:=bind_some h2
 refine zr [4] 1 Zz (rq1 (ZaE _ _ q1) (rq1 (ZcR _ _ q3) rqn)) (Zb (Zg ?_))
 obtain rfl:=Option.some.inj h4
 exact er0 (.agg [.int .u32 (bitD .and .u32 a0 r1),.int .i64 r2])
theorem Zeu (a0:ZO) (a1:Int) (r:Bool) (h:M.WG a0 a1=some r):Fn Tryz.prog 179 [.agg (Z7 a0),.int .u32 a1] (.pure (.bool r)):=by
 unfold M.WG at h
 refine ZT Tryz.func179 rfl (by kernel_rfl) (Za (zg [1,2] 1 (Zb (Za ?_))))
 obtain ⟨r1,q1,h2⟩:=bind_some h
 exact zr [4] 0 Zz (rq1 (ZaE _ _ q1) rqn) (Zb (Zg (er1 h2)))
theorem ZbL (a0:ZO) (a1:ZO) (r:Bool) (h:M.WJ a0 a1=some r):Fn Tryz.prog 165 [.agg (Z7 a0),.agg (Z7 a1)] (.pure (.bool r)):=by
 unfold M.WJ at h
 refine ZT Tryz.func165 rfl (by kernel_rfl) (Za (zg [2,3] 2 (Zb (Za ?_))))
 obtain ⟨r1,q1,h2⟩:=bind_some h
 exact zr [4] 0 Zz (rq2 (fun hg=>Zeu _ _ _ (Xn q1 hg)) rqn) (Zb (Zg (er1 h2)))
theorem Zac (a0:ZO) (a1:ZO) (r:Bool) (h:M.Vk a0 a1=some r):Fn Tryz.prog 133 [.agg (Z7 a0),.agg (Z7 a1)] (.pure (.bool r)):=by
 unfold M.Vk at h
 refine ZT Tryz.func133 rfl (by kernel_rfl) (Za (zg [2,3] 2 (Zb (Za ?_))))
 obtain ⟨r1,q1,h2⟩:=bind_some h
 obtain ⟨r2,q3,h4⟩:=bind_some h2
 exact zr [4] 0 Zz (rq1 (ZbL _ _ _ q1) (rq2 (fun hg=>ZbL _ _ _ (Xn q3 hg)) rqn)) (Zb (Zg (er1 h4)))
theorem RP (a0:Zf) (r:Int) (h:M.YM a0=some r):Fn Tryz.prog 75 [.agg (ZB a0)] (.pure (.int .i64 r)):=by
 let u1:Nat × D:=(12,sL 12 Zm a0.Zc)
 let u2:=(a0.Zc.length:Int)
 let u5:=ZB a0
 unfold M.YM at h
 refine ZT Tryz.func75 rfl (by kernel_rfl) (Za (zg [1] 1 (Zb (Za (Za (zg [1,10] 1 (Zb (cn h (fun _ h2=>?_) (fun _ h3=>?_)))))))))
 exact Za (zg [2] 0 (Zb (Zg (Zh (er1 h2)))))
 refine Ze (Zb (Za (Za (zg [1,12,13,14] 1 (Zb (Zj ?_))))))
 obtain ⟨y14,q51,h52⟩:=bind_some h3
 refine zl (fun (p1:Int)=>⟨64,[(1,.ref 0 0),u1,(13,.int .i64 u2),(14,.int .i64 p1)],[.box u5]⟩) (Sum.elim (fun z=>OutE 0 (fun z=>⟨64,[],[]⟩) z) (fun z=>OutR Tryz.prog Tryz.f75 (.int .i64 z))) q51 ?_ ?_
 intro p1 y2 h4
 let u3:List Ob:=[.box u5,.box (Zm (a0.Zc.getD p1.toNat default))]
 let u4:Nat × D:=(35,sL 12 Zm ((a0.Zc.drop 0).take (p1.toNat - 0)))
 unfold M.YE at h4
 refine Za (zg [1,12,13,14,15] 1 (Zb (Za (cn h4 (fun _ h6=>?_) (fun _ h7=>?_)))))
 refine Ze (Zb (Za (Zj (Za ?_))))
 obtain ⟨c8,h9⟩:=Zy h6
 refine zc [1,3,4,12,13,14] 2 c8 (Zb (Za (Za ?_)))
 obtain ⟨r3,q10,h11⟩:=bind_some h9
 refine zr [1,3,4,12,13,14,22] 2 Zz (rq1 (ZaD _ _ q10) rqn) (Zb (cn h11 (fun _ h13=>?_) (fun _ h14=>?_)))
 exact Za (zg [2] 0 (Zb (Zg (Zh (ZE (Zh (rr h13 ⟨rfl,er0 _⟩)))))))
 refine Ze (Zb (Za (Za ?_)))
 obtain ⟨r4,q15,h16⟩:=bind_some h14
 refine zr [1,3,4,12,13,14,28] 2 Zz (rq1 (K8 _ _ _ q15) rqn) (Zb (cn h16 (fun _ h18=>?_) (fun _ h19=>?_)))
 exact Za (zg [2] 0 (Zb (Zg (Zh (ZE (Zh (rr h18 ⟨rfl,er0 _⟩)))))))
 refine Ze (Zb (Za (Za ?_)))
 obtain ⟨r5,q20,h21⟩:=bind_some h19
 refine zr [1,3,4,12,13,14,31] 2 Zz (rq1 (Zab _ _ q20) rqn) (Zb (cn h21 (fun _ h23=>?_) (fun _ h24=>?_)))
 exact Za (zg [2] 0 (Zb (Zg (Zh (ZE (Zh (rr h23 ⟨rfl,er0 _⟩)))))))
 refine Ze (Zb (Za ?_))
 obtain ⟨c25,h26⟩:=Zy h24
 refine rgc [1,4,12,13,14,35,36,37] 2 ⟨64,[(1,.ref 0 0),(4,.ref 1 0),u1,(13,.int .i64 u2),(14,.int .i64 p1),(35,.sl false 12 (p1.toNat - 0) (fun i=>Zm (a0.Zc.getD (0+i) default))),(36,.int .i64 ((p1.toNat - 0:Nat):Int)),(37,.int .i64 0)],u3⟩ [decide (0≤p1),decide (p1≤u2)] c25 (XD (s':=⟨64,[(1,.ref 0 0),(4,.ref 1 0),u1,(13,.int .i64 u2),(14,.int .i64 p1),u4,(36,.int .i64 ((p1.toNat - 0:Nat):Int)),(37,.int .i64 0)],u3⟩) (JQ (.cons Sub.rfl (.cons Sub.rfl (.cons Sub.rfl (.cons Sub.rfl (.cons Sub.rfl (.cons (W0 (KN _ _ _ (Zax (c25 _ (List.mem_cons_of_mem _ List.mem_cons_self)))) (KM _ _ _ _)) (.cons Sub.rfl (.cons Sub.rfl .nil)))))))) (.cons .rfl (.cons .rfl .nil))) (Zj ?_))
 obtain ⟨y11,q42,h43⟩:=bind_some h26
 refine zl (fun (p6:Int)=>⟨64,[(1,.ref 0 0),(4,.ref 1 0),u1,(13,.int .i64 u2),(14,.int .i64 p1),u4,(36,.int .i64 ((p1.toNat - 0:Nat):Int)),(37,.int .i64 p6)],u3⟩) (Sum.elim (fun z=>OutE 2 (fun z=>⟨64,[(1,.ref 0 0),u1,(13,.int .i64 u2),(14,.int .i64 p1)],[.box u5]⟩) z) (fun z=>OutR Tryz.prog Tryz.f75 (.int .i64 z))) q42 ?_ ?_
 intro p6 y7 h27
 unfold M.Yo at h27
 refine Za (zg [1,4,12,13,14,35,36,37,38] 2 (Zb (Za (cn h27 (fun _ h29=>?_) (fun _ h30=>?_)))))
 refine Ze (Zb (Za (Zj (Za ?_))))
 obtain ⟨c31,h32⟩:=Zy h29
 refine zc [1,4,6,12,13,14,35,36,37] 3 c31 (Zb (Za ?_))
 obtain ⟨r8,q33,h34⟩:=bind_some h32
 obtain ⟨r9,q35,h36⟩:=bind_some h34
 obtain ⟨r10,q37,h38⟩:=bind_some h36
 refine zr [1,4,12,13,14,35,36,37,61] 2 Zz (rq2 (fun hg=>KD _ _ _ (Xn q33 hg)) (rq2 (fun hg=>KD _ _ _ (Xn q35 hg)) (rq2 (fun hg=>Zac _ _ _ (Xn q37 hg)) rqn))) (Zb (cn h38 (fun _ h40=>?_) (fun _ h41=>?_)))
 exact Za (zg [2] 0 (Zb (Zg (ZE (Zh (rr h40 ⟨rfl,er0 _⟩))))))
 exact Ze (XO (Zb (zg [1,4,12,13,14,35,36,37] 2 (rn h41))))
 exact ZX (XC (re h30 ⟨rfl,kc⟩))
 intro e44 s45 o46
 rcases y11 with g12 | y13
 have h47:=XY h43
 obtain ⟨rfl,l49⟩:=o46
 exact Y0 (XO (XD (s':=⟨64,[(1,.ref 0 0),u1,(13,.int .i64 u2),(14,.int .i64 p1)],[.box u5]⟩) (l49) (zg [1,12,13,14] 1 (rn h47))))
 have h48:=XZ h43
 obtain ⟨rfl,n50⟩:=o46
 exact ZE (ZE (Zh (rr h48 ⟨rfl,n50⟩)))
 exact ZX (XC (re h7 ⟨rfl,kc⟩))
 intro e53 s54 o55
 rcases y14 with g15 | y16
 have h56:=XY h52
 exact zi o55 (Za (zg [2] 0 (Zb (Zg (er1 h56)))))
 have h57:=XZ h52
 obtain ⟨rfl,n59⟩:=o55
 refine ZE (Zh ?_)
 obtain rfl:=Option.some.inj h57
 exact n59
theorem Za6 (a0:ZD) (b0:ByteArray) (r:Bool) (h:M.JP a0 b0=some r):Fn Tryz.prog 167 [.agg (Zu a0),.pp (cs b0)] (.pure (.bool r)):=by
 unfold M.JP at h
 exact ZT Tryz.func167 rfl (by kernel_rfl) (Za (zg [1,2] 1 (Zb (Za (zg [3] 0 (Zb (Zg (er1 h))))))))
theorem VC (a0:List ZD) (a1c0:ByteArray) (r:Int) (h:M.ZQ a0 a1c0=some r):Fn Tryz.prog 166 [sL 2 Zu a0,.fn 167 [.pp (cs a1c0)]] (.pure (.int .i64 r)):=by
 unfold M.ZQ at h
 refine ZT Tryz.func166 rfl (by kernel_rfl) (Za (zg [0,1] 0 (Zb (Za (Za (zg [0,1,7,8] 0 (Zb (Zj ?_))))))))
 obtain ⟨y4,q12,h13⟩:=bind_some h
 refine zl (fun (p1:Int)=>⟨19,[(0,sL 2 Zu a0),(1,.fn 167 [.pp (cs a1c0)]),(7,.int .i64 (a0.length:Int)),(8,.int .i64 p1)],[]⟩) (Sum.elim (fun z=>OutE 0 (fun z=>⟨19,[],[]⟩) z) (fun z=>OutR Tryz.prog Tryz.f166 (.int .i64 z))) q12 ?_ ?_
 intro p1 y2 h1
 unfold M.ZJ at h1
 refine Za (zg [0,1,7,8,9] 0 (Zb (Za (cn h1 (fun _ h3=>?_) (fun _ h4=>?_)))))
 refine Ze (Zb (Za (Zj (Za (zg [0,1,5,7,8] 0 (Zb (Za ?_)))))))
 obtain ⟨r3,q5,h6⟩:=bind_some h3
 obtain ⟨c7,h8⟩:=Zy h6
 refine zr [0,1,5,7,8,16] 0 c7 (rq1 (Za6 _ _ _ q5) rqn) (Zb (cn h8 (fun _ h10=>?_) (fun _ h11=>?_)))
 exact Za (zg [4] 0 (Zb (Zg (ZE (Zh (rr h10 ⟨rfl,er0 _⟩))))))
 exact Ze (XO (Zb (zg [0,1,7,8] 0 (rn h11))))
 exact ZX (XC (re h4 ⟨rfl,kq⟩))
 intro e14 s15 o16
 rcases y4 with g5 | y6
 have h17:=XY h13
 exact zi o16 (Za (zg [4] 0 (Zb (Zg (er1 h17)))))
 have h18:=XZ h13
 obtain ⟨rfl,n20⟩:=o16
 refine ZE (Zh ?_)
 obtain rfl:=Option.some.inj h18
 exact n20
theorem UB (a0:Zf) (a1:ByteArray) (r:Int) (h:M.Yu a0 a1=some r):Fn Tryz.prog 135 [.agg (ZB a0),.str a1] (.pure (.int .i64 r)):=by
 unfold M.Yu at h
 refine ZT Tryz.func135 rfl (by kernel_rfl) (Za (zg [2,3] 2 (Zb (Za ?_))))
 obtain ⟨r1,q1,h2⟩:=bind_some h
 exact zr [4] 0 Zz (rq1 (VC _ _ _ q1) rqn) (Zb (Zg (er1 h2)))
theorem GR (a0:Int) (a1:Int) (a2:ByteArray) (a3:Int) (a4:Int) (r:Int) (h:M.YV a0 a1 a2 a3 a4=some r):Fn Tryz.prog 134 [.int .i64 a0,.int .i64 a1,.str a2,.int .i64 a3,.int .i64 a4] (.pure (.int .i64 r)):=by
 unfold M.YV at h
 refine ZT Tryz.func134 rfl (by kernel_rfl) (Za (zg [0,1,2,3,4] 0 (Zb (Za (Zj (Za ?_))))))
 obtain ⟨r1,q1,h2⟩:=bind_some h
 refine zr [0,1,3,4,11] 0 Zz (rq1 (ZaD _ _ q1) rqn) (Zb (cn h2 (fun _ h4=>?_) (fun _ h5=>?_)))
 exact Za (zg [10] 0 (Zb (Zg (ZE (Zh (er1 h4))))))
 refine Za (zg [3,4,15] 0 (Zb (cn h5 (fun _ h7=>?_) (fun _ h8=>?_))))
 exact Za (zg [10] 0 (Zb (Zg (ZE (Zh (er1 h7))))))
 refine Za (zg [3,4,19] 0 (Zb (cn h8 (fun _ h10=>?_) (fun _ h11=>?_))))
 exact Za (zg [10] 0 (Zb (Zg (ZE (Zh (er1 h10))))))
 refine Za (zg [22] 0 (Zb (cn h11 (fun _ h13=>?_) (fun _ h14=>?_))))
 exact Za (zg [10] 0 (Zb (Zg (ZE (Zh (er1 h13))))))
 exact Ze (XO (Zb (Za (zg [10] 0 (Zb (Zg (er1 h14)))))))
theorem Uw (a0:ZO) (r:Bool) (h:M.QW a0=some r):Fn Tryz.prog 136 [.agg (Z7 a0)] (.pure (.bool r)):=by
 unfold M.QW at h
 refine ZT Tryz.func136 rfl (by kernel_rfl) (Za (zg [1] 1 (Zb (Za ?_))))
 obtain ⟨r1,q1,h2⟩:=bind_some h
 exact zr [2] 0 Zz (rq2 (fun hg=>ZaE _ _ (Xn q1 hg)) rqn) (Zb (Zg (er1 h2)))
theorem Rm (a0:Zf) (r:Int) (h:M.YF a0=some r):Fn Tryz.prog 76 [.agg (ZB a0)] (.pure (.int .i64 r)):=by
 let u1:Nat × D:=(13,sL 2 Zu a0.Xi)
 let u2:=(a0.Xi.length:Int)
 let u3:List Ob:=[.box (ZB a0)]
 unfold M.YF at h
 refine ZT Tryz.func76 rfl (by kernel_rfl) (Za (zg [1] 1 (Zb (Za (Za (zg [1,11] 1 (Zb (cn h (fun _ h2=>?_) (fun _ h3=>?_)))))))))
 exact Za (zg [2] 0 (Zb (Zg (Zh (er1 h2)))))
 refine Ze (Zb (Za (Za (zg [1,13,14,15] 1 (Zb (Zj ?_))))))
 obtain ⟨y11,q37,h38⟩:=bind_some h3
 refine zl (fun (p1:Int)=>⟨67,[(1,.ref 0 0),u1,(14,.int .i64 u2),(15,.int .i64 p1)],u3⟩) (Sum.elim (fun z=>OutE 0 (fun z=>⟨67,[],[]⟩) z) (fun z=>OutR Tryz.prog Tryz.f76 (.int .i64 z))) q37 ?_ ?_
 intro p1 y2 h4
 let u4:=(a0.Xi.getD p1.toNat default).Xv
 unfold M.Ys at h4
 refine Za (zg [1,13,14,15,16] 1 (Zb (Za (cn h4 (fun _ h6=>?_) (fun _ h7=>?_)))))
 refine Ze (Zb (Za (Zj (Za ?_))))
 obtain ⟨c8,h9⟩:=Zy h6
 refine zc [1,3,4,13,14,15] 2 c8 (Zb (Za (Za ?_)))
 obtain ⟨r3,q10,h11⟩:=bind_some h9
 obtain ⟨r4,q12,h13⟩:=bind_some h11
 refine zr [1,4,5,13,14,15] 2 Zz (rq1 (UB _ _ _ q10) (rq1 (GR _ _ _ _ _ _ q12) rqn)) (Zb (Za (zg [1,4,5,13,14,15,32] 2 (Zb (cn h13 (fun _ h15=>?_) (fun _ h16=>?_))))))
 exact Za (zg [2] 0 (Zb (Zg (Zh (ZE (Zh (rr h15 ⟨rfl,er0 _⟩)))))))
 refine Ze (Zb (Za (zg [1,13,14,15,35,36,37] 1 (Zb (Zj ?_)))))
 obtain ⟨y8,q28,h29⟩:=bind_some h16
 refine zl (fun (p5:Int)=>⟨67,[(1,.ref 0 0),u1,(14,.int .i64 u2),(15,.int .i64 p1),(35,sL 5 Vh u4),(36,.int .i64 (u4.length:Int)),(37,.int .i64 p5)],u3⟩) (Sum.elim (fun z=>OutE 2 (fun z=>⟨67,[(1,.ref 0 0),u1,(14,.int .i64 u2),(15,.int .i64 p1)],u3⟩) z) (fun z=>OutR Tryz.prog Tryz.f76 (.int .i64 z))) q28 ?_ ?_
 intro p5 y6 h17
 unfold M.Yi at h17
 refine Za (zg [1,13,14,15,35,36,37,38] 1 (Zb (Za (cn h17 (fun _ h19=>?_) (fun _ h20=>?_)))))
 refine Ze (Zb (Za (Zj (Za ?_))))
 obtain ⟨c21,h22⟩:=Zy h19
 refine zc [1,7,13,14,15,35,36,37] 2 c21 (Zb (Za ?_))
 obtain ⟨r7,q23,h24⟩:=bind_some h22
 refine zr [1,13,14,15,35,36,37,64] 1 Zz (rq1 (Uw _ _ q23) rqn) (Zb (cn h24 (fun _ h26=>?_) (fun _ h27=>?_)))
 exact Za (zg [2] 0 (Zb (Zg (ZE (Zh (rr h26 ⟨rfl,er0 _⟩))))))
 exact Ze (XO (Zb (zg [1,13,14,15,35,36,37] 1 (rn h27))))
 exact ZX (XC (re h20 ⟨rfl,kq⟩))
 intro e30 s31 o32
 rcases y8 with g9 | y10
 have h33:=XY h29
 obtain ⟨rfl,l35⟩:=o32
 exact Y0 (XO (XD (s':=⟨67,[(1,.ref 0 0),u1,(14,.int .i64 u2),(15,.int .i64 p1)],u3⟩) (l35) (zg [1,13,14,15] 1 (rn h33))))
 have h34:=XZ h29
 obtain ⟨rfl,n36⟩:=o32
 exact ZE (ZE (Zh (rr h34 ⟨rfl,n36⟩)))
 exact ZX (XC (re h7 ⟨rfl,kc⟩))
 intro e39 s40 o41
 rcases y11 with g12 | y13
 have h42:=XY h38
 exact zi o41 (Za (zg [2] 0 (Zb (Zg (er1 h42)))))
 have h43:=XZ h38
 obtain ⟨rfl,n45⟩:=o41
 refine ZE (Zh ?_)
 obtain rfl:=Option.some.inj h43
 exact n45
theorem Zcu (a0:Xw) (b0:ByteArray) (r:Bool) (h:M.Vp a0 b0=some r):Fn Tryz.prog 169 [.agg (ZN a0),.pp (cs b0)] (.pure (.bool r)):=by
 unfold M.Vp at h
 exact ZT Tryz.func169 rfl (by kernel_rfl) (Za (zg [1,2] 1 (Zb (Za (zg [3] 0 (Zb (Zg (er1 h))))))))
theorem Wa (a0:List Xw) (a1c0:ByteArray) (r:Int) (h:M.Z4 a0 a1c0=some r):Fn Tryz.prog 168 [sL 2 ZN a0,.fn 169 [.pp (cs a1c0)]] (.pure (.int .i64 r)):=by
 unfold M.Z4 at h
 refine ZT Tryz.func168 rfl (by kernel_rfl) (Za (zg [0,1] 0 (Zb (Za (Za (zg [0,1,7,8] 0 (Zb (Zj ?_))))))))
 obtain ⟨y4,q12,h13⟩:=bind_some h
 refine zl (fun (p1:Int)=>⟨19,[(0,sL 2 ZN a0),(1,.fn 169 [.pp (cs a1c0)]),(7,.int .i64 (a0.length:Int)),(8,.int .i64 p1)],[]⟩) (Sum.elim (fun z=>OutE 0 (fun z=>⟨19,[],[]⟩) z) (fun z=>OutR Tryz.prog Tryz.f168 (.int .i64 z))) q12 ?_ ?_
 intro p1 y2 h1
 unfold M.ZZ at h1
 refine Za (zg [0,1,7,8,9] 0 (Zb (Za (cn h1 (fun _ h3=>?_) (fun _ h4=>?_)))))
 refine Ze (Zb (Za (Zj (Za (zg [0,1,5,7,8] 0 (Zb (Za ?_)))))))
 obtain ⟨r3,q5,h6⟩:=bind_some h3
 obtain ⟨c7,h8⟩:=Zy h6
 refine zr [0,1,5,7,8,16] 0 c7 (rq1 (Zcu _ _ _ q5) rqn) (Zb (cn h8 (fun _ h10=>?_) (fun _ h11=>?_)))
 exact Za (zg [4] 0 (Zb (Zg (ZE (Zh (rr h10 ⟨rfl,er0 _⟩))))))
 exact Ze (XO (Zb (zg [0,1,7,8] 0 (rn h11))))
 exact ZX (XC (re h4 ⟨rfl,kq⟩))
 intro e14 s15 o16
 rcases y4 with g5 | y6
 have h17:=XY h13
 exact zi o16 (Za (zg [4] 0 (Zb (Zg (er1 h17)))))
 have h18:=XZ h13
 obtain ⟨rfl,n20⟩:=o16
 refine ZE (Zh ?_)
 obtain rfl:=Option.some.inj h18
 exact n20
theorem Gc (a0:Zf) (a1:ByteArray) (r:Int) (h:M.Y8 a0 a1=some r):Fn Tryz.prog 137 [.agg (ZB a0),.str a1] (.pure (.int .i64 r)):=by
 unfold M.Y8 at h
 refine ZT Tryz.func137 rfl (by kernel_rfl) (Za (zg [2,3] 2 (Zb (Za ?_))))
 obtain ⟨r1,q1,h2⟩:=bind_some h
 exact zr [4] 0 Zz (rq1 (Wa _ _ _ q1) rqn) (Zb (Zg (er1 h2)))
theorem ZbM (a0:Ub) (r:Bool) (h:M.Jf a0=some r):Fn Tryz.prog 138 [.agg (Ug a0)] (.pure (.bool r)):=by
 unfold M.Jf at h
 refine ZT Tryz.func138 rfl (by kernel_rfl) (Za (zg [1] 1 (Zb (Za ?_))))
 obtain ⟨r1,q1,h2⟩:=bind_some h
 obtain ⟨r2,q3,h4⟩:=bind_some h2
 obtain ⟨r3,q5,h6⟩:=bind_some h4
 obtain ⟨r4,q7,h8⟩:=bind_some h6
 obtain ⟨r5,q9,h10⟩:=bind_some h8
 exact zr [2] 0 Zz (rq1 (XU _ _ _ _ q1) (rq2 (fun hg=>XU _ _ _ _ (Xn q3 hg)) (rq2 (fun hg=>XU _ _ _ _ (Xn q5 hg)) (rq2 (fun hg=>XU _ _ _ _ (Xn q7 hg)) (rq2 (fun hg=>XU _ _ _ _ (Xn q9 hg)) rqn))))) (Zb (Zg (er1 h10)))
theorem Zad (a0:Zf) (r:Int) (h:M.Y9 a0=some r):Fn Tryz.prog 77 [.agg (ZB a0)] (.pure (.int .i64 r)):=by
 let u1:Nat × D:=(13,sL 2 ZN a0.Z9)
 let u2:=(a0.Z9.length:Int)
 let u3:List Ob:=[.box (ZB a0)]
 unfold M.Y9 at h
 refine ZT Tryz.func77 rfl (by kernel_rfl) (Za (zg [1] 1 (Zb (Za (Za (zg [1,11] 1 (Zb (cn h (fun _ h2=>?_) (fun _ h3=>?_)))))))))
 exact Za (zg [2] 0 (Zb (Zg (Zh (er1 h2)))))
 refine Ze (Zb (Za (Za (zg [1,13,14,15] 1 (Zb (Zj ?_))))))
 obtain ⟨y12,q42,h43⟩:=bind_some h3
 refine zl (fun (p1:Int)=>⟨56,[(1,.ref 0 0),u1,(14,.int .i64 u2),(15,.int .i64 p1)],u3⟩) (Sum.elim (fun z=>OutE 0 (fun z=>⟨56,[],[]⟩) z) (fun z=>OutR Tryz.prog Tryz.f77 (.int .i64 z))) q42 ?_ ?_
 intro p1 y2 h4
 let u4:=(a0.Z9.getD p1.toNat default).Xj
 unfold M.YJ at h4
 refine Za (zg [1,13,14,15,16] 1 (Zb (Za (cn h4 (fun _ h6=>?_) (fun _ h7=>?_)))))
 refine Ze (Zb (Za (Zj (Za ?_))))
 obtain ⟨c8,h9⟩:=Zy h6
 refine zc [1,3,4,13,14,15] 2 c8 (Zb (Za (Za ?_)))
 obtain ⟨r3,q10,h11⟩:=bind_some h9
 obtain ⟨r4,q12,h13⟩:=bind_some h11
 refine zr [1,4,5,13,14,15] 2 Zz (rq1 (Gc _ _ _ q10) (rq1 (GR _ _ _ _ _ _ q12) rqn)) (Zb (Za (zg [1,4,5,13,14,15,32] 2 (Zb (cn h13 (fun _ h15=>?_) (fun _ h16=>?_))))))
 exact Za (zg [2] 0 (Zb (Zg (Zh (ZE (Zh (rr h15 ⟨rfl,er0 _⟩)))))))
 refine Ze (Zb (Za (zg [1,13,14,15,35,36,37] 1 (Zb (Zj ?_)))))
 obtain ⟨y9,q33,h34⟩:=bind_some h16
 refine zl (fun (p5:Int)=>⟨56,[(1,.ref 0 0),u1,(14,.int .i64 u2),(15,.int .i64 p1),(35,sL 7 Ug u4),(36,.int .i64 (u4.length:Int)),(37,.int .i64 p5)],u3⟩) (Sum.elim (fun z=>OutE 2 (fun z=>⟨56,[(1,.ref 0 0),u1,(14,.int .i64 u2),(15,.int .i64 p1)],u3⟩) z) (fun z=>OutR Tryz.prog Tryz.f77 (.int .i64 z))) q33 ?_ ?_
 intro p5 y6 h17
 unfold M.Yv at h17
 refine Za (zg [1,13,14,15,35,36,37,38] 1 (Zb (Za (cn h17 (fun _ h19=>?_) (fun _ h20=>?_)))))
 refine Ze (Zb (Za (Zj (Za ?_))))
 obtain ⟨c21,h22⟩:=Zy h19
 refine zc [1,7,13,14,15,35,36,37] 2 c21 (Zb (Za (Za ?_)))
 obtain ⟨r7,q23,h24⟩:=bind_some h22
 refine zr [1,7,13,14,15,35,36,37,50] 2 Zz (rq2 (fun hg=>UB _ _ _ (Xn q23 hg)) rqn) (Zb (cn h24 (fun _ h26=>?_) (fun _ h27=>?_)))
 exact Za (zg [2] 0 (Zb (Zg (Zh (ZE (Zh (rr h26 ⟨rfl,er0 _⟩)))))))
 refine Ze (Zb (Za ?_))
 obtain ⟨r8,q28,h29⟩:=bind_some h27
 refine zr [1,13,14,15,35,36,37,53] 1 Zz (rq1 (ZbM _ _ q28) rqn) (Zb (cn h29 (fun _ h31=>?_) (fun _ h32=>?_)))
 exact Za (zg [2] 0 (Zb (Zg (ZE (Zh (rr h31 ⟨rfl,er0 _⟩))))))
 exact Ze (XO (Zb (zg [1,13,14,15,35,36,37] 1 (rn h32))))
 exact ZX (XC (re h20 ⟨rfl,kq⟩))
 intro e35 s36 o37
 rcases y9 with g10 | y11
 have h38:=XY h34
 obtain ⟨rfl,l40⟩:=o37
 exact Y0 (XO (XD (s':=⟨56,[(1,.ref 0 0),u1,(14,.int .i64 u2),(15,.int .i64 p1)],u3⟩) (l40) (zg [1,13,14,15] 1 (rn h38))))
 have h39:=XZ h34
 obtain ⟨rfl,n41⟩:=o37
 exact ZE (ZE (Zh (rr h39 ⟨rfl,n41⟩)))
 exact ZX (XC (re h7 ⟨rfl,kc⟩))
 intro e44 s45 o46
 rcases y12 with g13 | y14
 have h47:=XY h43
 exact zi o46 (Za (zg [2] 0 (Zb (Zg (er1 h47)))))
 have h48:=XZ h43
 obtain ⟨rfl,n50⟩:=o46
 refine ZE (Zh ?_)
 obtain rfl:=Option.some.inj h48
 exact n50
theorem Zga (a0:V2) (b0:ByteArray) (r:Bool) (h:M.Um a0 b0=some r):Fn Tryz.prog 171 [.agg (Yr a0),.pp (cs b0)] (.pure (.bool r)):=by
 unfold M.Um at h
 exact ZT Tryz.func171 rfl (by kernel_rfl) (Za (zg [1,2] 1 (Zb (Za (zg [3] 0 (Zb (Zg (er1 h))))))))
theorem Uf (a0:List V2) (a1c0:ByteArray) (r:Int) (h:M.Xu a0 a1c0=some r):Fn Tryz.prog 170 [sL 2 Yr a0,.fn 171 [.pp (cs a1c0)]] (.pure (.int .i64 r)):=by
 unfold M.Xu at h
 refine ZT Tryz.func170 rfl (by kernel_rfl) (Za (zg [0,1] 0 (Zb (Za (Za (zg [0,1,7,8] 0 (Zb (Zj ?_))))))))
 obtain ⟨y4,q12,h13⟩:=bind_some h
 refine zl (fun (p1:Int)=>⟨19,[(0,sL 2 Yr a0),(1,.fn 171 [.pp (cs a1c0)]),(7,.int .i64 (a0.length:Int)),(8,.int .i64 p1)],[]⟩) (Sum.elim (fun z=>OutE 0 (fun z=>⟨19,[],[]⟩) z) (fun z=>OutR Tryz.prog Tryz.f170 (.int .i64 z))) q12 ?_ ?_
 intro p1 y2 h1
 unfold M.Xm at h1
 refine Za (zg [0,1,7,8,9] 0 (Zb (Za (cn h1 (fun _ h3=>?_) (fun _ h4=>?_)))))
 refine Ze (Zb (Za (Zj (Za (zg [0,1,5,7,8] 0 (Zb (Za ?_)))))))
 obtain ⟨r3,q5,h6⟩:=bind_some h3
 obtain ⟨c7,h8⟩:=Zy h6
 refine zr [0,1,5,7,8,16] 0 c7 (rq1 (Zga _ _ _ q5) rqn) (Zb (cn h8 (fun _ h10=>?_) (fun _ h11=>?_)))
 exact Za (zg [4] 0 (Zb (Zg (ZE (Zh (rr h10 ⟨rfl,er0 _⟩))))))
 exact Ze (XO (Zb (zg [0,1,7,8] 0 (rn h11))))
 exact ZX (XC (re h4 ⟨rfl,kq⟩))
 intro e14 s15 o16
 rcases y4 with g5 | y6
 have h17:=XY h13
 exact zi o16 (Za (zg [4] 0 (Zb (Zg (er1 h17)))))
 have h18:=XZ h13
 obtain ⟨rfl,n20⟩:=o16
 refine ZE (Zh ?_)
 obtain rfl:=Option.some.inj h18
 exact n20
theorem KR (a0:Zf) (a1:ByteArray) (r:Int) (h:M.V6 a0 a1=some r):Fn Tryz.prog 139 [.agg (ZB a0),.str a1] (.pure (.int .i64 r)):=by
 unfold M.V6 at h
 refine ZT Tryz.func139 rfl (by kernel_rfl) (Za (zg [2,3] 2 (Zb (Za ?_))))
 obtain ⟨r1,q1,h2⟩:=bind_some h
 exact zr [4] 0 Zz (rq1 (Uf _ _ _ q1) rqn) (Zb (Zg (er1 h2)))
theorem KG (a0:Vc) (r:Bool) (h:M.Q2 a0=some r):Fn Tryz.prog 172 [.agg (KO a0)] (.pure (.bool r)):=by
 unfold M.Q2 at h
 exact ZT Tryz.func172 rfl (by kernel_rfl) (Za (zg [1] 1 (Zb (Za (zg [2] 0 (Zb (Zg (er1 h))))))))
theorem Zdh (a0:Kb) (r:Bool) (h:M.JV a0=some r):Fn Tryz.prog 140 [.agg (Gs a0)] (.pure (.bool r)):=by
 unfold M.JV at h
 refine ZT Tryz.func140 rfl (by kernel_rfl) (Za (zg [1] 1 (Zb (Za (Za ?_)))))
 obtain ⟨r1,q1,h2⟩:=bind_some h
 refine zr [1,27] 1 Zz (rq1 (XU _ _ _ _ q1) rqn) (Zb (cn h2 (fun _ h4=>?_) (fun _ h5=>?_)))
 exact Za (zg [2] 0 (Zb (Zg (Zh (er1 h4)))))
 refine Ze (Zb (Za (Za ?_)))
 obtain ⟨r2,q6,h7⟩:=bind_some h5
 obtain ⟨r3,q8,h9⟩:=bind_some h7
 refine zr [1,37] 1 Zz (rq1 (KG _ _ q6) (rq2 (fun hg=>KG _ _ (Xn q8 hg)) rqn)) (Zb (cn h9 (fun _ h11=>?_) (fun _ h12=>?_)))
 exact Za (zg [2] 0 (Zb (Zg (Zh (er1 h11)))))
 exact Ze (Zb (Za (zg [1,3] 2 (Zb (Za (zg [2] 0 (Zb (Zg (er1 h12)))))))))
theorem Zdi (a0:Zf) (r:Int) (h:M.JW a0=some r):Fn Tryz.prog 78 [.agg (ZB a0)] (.pure (.int .i64 r)):=by
 let u1:Nat × D:=(13,sL 2 Yr a0.XK)
 let u2:=(a0.XK.length:Int)
 let u3:List Ob:=[.box (ZB a0)]
 unfold M.JW at h
 refine ZT Tryz.func78 rfl (by kernel_rfl) (Za (zg [1] 1 (Zb (Za (Za (zg [1,11] 1 (Zb (cn h (fun _ h2=>?_) (fun _ h3=>?_)))))))))
 exact Za (zg [2] 0 (Zb (Zg (Zh (er1 h2)))))
 refine Ze (Zb (Za (Za (zg [1,13,14,15] 1 (Zb (Zj ?_))))))
 obtain ⟨y11,q37,h38⟩:=bind_some h3
 refine zl (fun (p1:Int)=>⟨46,[(1,.ref 0 0),u1,(14,.int .i64 u2),(15,.int .i64 p1)],u3⟩) (Sum.elim (fun z=>OutE 0 (fun z=>⟨46,[],[]⟩) z) (fun z=>OutR Tryz.prog Tryz.f78 (.int .i64 z))) q37 ?_ ?_
 intro p1 y2 h4
 let u4:=(a0.XK.getD p1.toNat default).Xv
 unfold M.Jl at h4
 refine Za (zg [1,13,14,15,16] 1 (Zb (Za (cn h4 (fun _ h6=>?_) (fun _ h7=>?_)))))
 refine Ze (Zb (Za (Zj (Za ?_))))
 obtain ⟨c8,h9⟩:=Zy h6
 refine zc [1,3,4,13,14,15] 2 c8 (Zb (Za (Za ?_)))
 obtain ⟨r3,q10,h11⟩:=bind_some h9
 obtain ⟨r4,q12,h13⟩:=bind_some h11
 refine zr [1,4,5,13,14,15] 2 Zz (rq1 (KR _ _ _ q10) (rq1 (GR _ _ _ _ _ _ q12) rqn)) (Zb (Za (zg [1,4,5,13,14,15,32] 2 (Zb (cn h13 (fun _ h15=>?_) (fun _ h16=>?_))))))
 exact Za (zg [2] 0 (Zb (Zg (Zh (ZE (Zh (rr h15 ⟨rfl,er0 _⟩)))))))
 refine Ze (Zb (Za (zg [1,13,14,15,35,36,37] 1 (Zb (Zj ?_)))))
 obtain ⟨y8,q28,h29⟩:=bind_some h16
 refine zl (fun (p5:Int)=>⟨46,[(1,.ref 0 0),u1,(14,.int .i64 u2),(15,.int .i64 p1),(35,sL 10 Gs u4),(36,.int .i64 (u4.length:Int)),(37,.int .i64 p5)],u3⟩) (Sum.elim (fun z=>OutE 2 (fun z=>⟨46,[(1,.ref 0 0),u1,(14,.int .i64 u2),(15,.int .i64 p1)],u3⟩) z) (fun z=>OutR Tryz.prog Tryz.f78 (.int .i64 z))) q28 ?_ ?_
 intro p5 y6 h17
 unfold M.QI at h17
 refine Za (zg [1,13,14,15,35,36,37,38] 1 (Zb (Za (cn h17 (fun _ h19=>?_) (fun _ h20=>?_)))))
 refine Ze (Zb (Za (Zj (Za ?_))))
 obtain ⟨c21,h22⟩:=Zy h19
 refine zc [1,7,13,14,15,35,36,37] 2 c21 (Zb (Za ?_))
 obtain ⟨r7,q23,h24⟩:=bind_some h22
 refine zr [1,13,14,15,35,36,37,43] 1 Zz (rq1 (Zdh _ _ q23) rqn) (Zb (cn h24 (fun _ h26=>?_) (fun _ h27=>?_)))
 exact Za (zg [2] 0 (Zb (Zg (ZE (Zh (rr h26 ⟨rfl,er0 _⟩))))))
 exact Ze (XO (Zb (zg [1,13,14,15,35,36,37] 1 (rn h27))))
 exact ZX (XC (re h20 ⟨rfl,kq⟩))
 intro e30 s31 o32
 rcases y8 with g9 | y10
 have h33:=XY h29
 obtain ⟨rfl,l35⟩:=o32
 exact Y0 (XO (XD (s':=⟨46,[(1,.ref 0 0),u1,(14,.int .i64 u2),(15,.int .i64 p1)],u3⟩) (l35) (zg [1,13,14,15] 1 (rn h33))))
 have h34:=XZ h29
 obtain ⟨rfl,n36⟩:=o32
 exact ZE (ZE (Zh (rr h34 ⟨rfl,n36⟩)))
 exact ZX (XC (re h7 ⟨rfl,kc⟩))
 intro e39 s40 o41
 rcases y11 with g12 | y13
 have h42:=XY h38
 exact zi o41 (Za (zg [2] 0 (Zb (Zg (er1 h42)))))
 have h43:=XZ h38
 obtain ⟨rfl,n45⟩:=o41
 refine ZE (Zh ?_)
 obtain rfl:=Option.some.inj h43
 exact n45
theorem Rn (a0:YX) (r:Bool) (h:M.YZ a0=some r):Fn Tryz.prog 141 [.agg (Z2 a0)] (.pure (.bool r)):=by
 unfold M.YZ at h
 refine ZT Tryz.func141 rfl (by kernel_rfl) (Za (zg [1] 1 (Zb (Za (Za (zg [1,6] 1 (Zb (Zj (Za (zg [1,6,7] 1 (Zb (cn h (fun _ h2=>?_) (fun _ h3=>?_)))))))))))))
 exact Za (zg [1,3] 2 (Zb (Za (zg [2] 0 (Zb (Zg (ZE (Zh (er1 h2)))))))))
 refine Za (zg [1,6,29] 1 (Zb (cn h3 (fun _ h5=>?_) (fun _ h6=>?_))))
 exact Za (zg [1,4] 2 (Zb (Za (zg [2] 0 (Zb (Zg (ZE (Zh (er1 h5)))))))))
 refine Za (zg [1,63] 1 (Zb (cn h6 (fun _ h8=>?_) (fun _ h9=>?_))))
 refine Za ?_
 obtain ⟨r1,q10,h11⟩:=bind_some h8
 obtain ⟨r2,q12,h13⟩:=bind_some h11
 exact zr [2] 0 Zz (rq2 (fun hg=>XU _ _ _ _ (Xn q10 hg)) (rq2 (fun hg=>XU _ _ _ _ (Xn q12 hg)) rqn)) (Zb (Zg (ZE (Zh (er1 h13)))))
 exact Ze (XO (Zb (Za (zg [2] 0 (Zb (Zg (er1 h9)))))))
theorem ZdW (a0:Zf) (r:Int) (h:M.Vf a0=some r):Fn Tryz.prog 79 [.agg (ZB a0)] (.pure (.int .i64 r)):=by
 unfold M.Vf at h
 refine ZT Tryz.func79 rfl (by kernel_rfl) (Za (zg [1] 1 (Zb (Za (Za (zg [1,8] 1 (Zb (cn h (fun _ h2=>?_) (fun _ h3=>?_)))))))))
 exact Za (zg [2] 0 (Zb (Zg (Zh (er1 h2)))))
 refine Ze (Zb (Za (Za (zg [1,10,11,12] 1 (Zb (Zj ?_))))))
 obtain ⟨y5,q20,h21⟩:=bind_some h3
 refine zl (fun (p1:Int)=>⟨30,[(1,.ref 0 0),(10,sL 9 Z2 a0.Xf),(11,.int .i64 (a0.Xf.length:Int)),(12,.int .i64 p1)],[.box (ZB a0)]⟩) (Sum.elim (fun z=>OutE 0 (fun z=>⟨30,[],[]⟩) z) (fun z=>OutR Tryz.prog Tryz.f79 (.int .i64 z))) q20 ?_ ?_
 intro p1 y2 h4
 unfold M.JI at h4
 refine Za (zg [1,10,11,12,13] 1 (Zb (Za (cn h4 (fun _ h6=>?_) (fun _ h7=>?_)))))
 refine Ze (Zb (Za (Zj (Za ?_))))
 obtain ⟨c8,h9⟩:=Zy h6
 refine zc [1,4,10,11,12] 2 c8 (Zb (Za (Za ?_)))
 obtain ⟨r3,q10,h11⟩:=bind_some h9
 refine zr [1,4,10,11,12,18] 2 Zz (rq1 (Rn _ _ q10) rqn) (Zb (cn h11 (fun _ h13=>?_) (fun _ h14=>?_)))
 exact Za (zg [2] 0 (Zb (Zg (Zh (ZE (Zh (rr h13 ⟨rfl,er0 _⟩)))))))
 refine Ze (Zb (Za ?_))
 obtain ⟨r4,q15,h16⟩:=bind_some h14
 refine zr [1,10,11,12,28] 1 Zz (rq2 (fun hg=>KR _ _ _ (Xn q15 hg)) rqn) (Zb (cn h16 (fun _ h18=>?_) (fun _ h19=>?_)))
 exact Za (zg [2] 0 (Zb (Zg (ZE (Zh (rr h18 ⟨rfl,er0 _⟩))))))
 exact Ze (XO (Zb (zg [1,10,11,12] 1 (rn h19))))
 exact ZX (XC (re h7 ⟨rfl,kc⟩))
 intro e22 s23 o24
 rcases y5 with g6 | y7
 have h25:=XY h21
 exact zi o24 (Za (zg [2] 0 (Zb (Zg (er1 h25)))))
 have h26:=XZ h21
 obtain ⟨rfl,n28⟩:=o24
 refine ZE (Zh ?_)
 obtain rfl:=Option.some.inj h26
 exact n28
theorem Za7 (a0:Zf) (r:Int) (h:M.Jm a0=some r):Fn Tryz.prog 80 [.agg (ZB a0)] (.pure (.int .i64 r)):=by
 unfold M.Jm at h
 refine ZT Tryz.func80 rfl (by kernel_rfl) (Za (zg [1] 1 (Zb (Za (Za (zg [1,6,7,8] 1 (Zb (Zj ?_))))))))
 obtain ⟨y5,q14,h15⟩:=bind_some h
 refine zl (fun (p1:Int)=>⟨35,[(1,.ref 0 0),(6,sL 12 Zm a0.Zc),(7,.int .i64 (a0.Zc.length:Int)),(8,.int .i64 p1)],[.box (ZB a0)]⟩) (Sum.elim (fun z=>OutE 0 (fun z=>⟨35,[],[]⟩) z) (fun z=>OutR Tryz.prog Tryz.f80 (.int .i64 z))) q14 ?_ ?_
 intro p1 y2 h1
 unfold M.QQ at h1
 refine Za (zg [1,6,7,8,9] 1 (Zb (Za (cn h1 (fun _ h3=>?_) (fun _ h4=>?_)))))
 refine Ze (Zb (Za (Zj (Za ?_))))
 obtain ⟨c5,h6⟩:=Zy h3
 refine zc [1,4,6,7,8] 2 c5 (Zb (Za ?_))
 obtain ⟨r3,q7,h8⟩:=bind_some h6
 obtain ⟨r4,q9,h10⟩:=bind_some h8
 refine zr [1,6,7,8,33] 1 Zz (rq2 (fun hg=>KR _ _ _ (Xn q7 hg)) (rq2 (fun hg=>KR _ _ _ (Xn q9 hg)) rqn)) (Zb (cn h10 (fun _ h12=>?_) (fun _ h13=>?_)))
 exact Za (zg [2] 0 (Zb (Zg (ZE (Zh (rr h12 ⟨rfl,er0 _⟩))))))
 exact Ze (XO (Zb (zg [1,6,7,8] 1 (rn h13))))
 exact ZX (XC (re h4 ⟨rfl,kc⟩))
 intro e16 s17 o18
 rcases y5 with g6 | y7
 have h19:=XY h15
 exact zi o18 (Za (zg [2] 0 (Zb (Zg (er1 h19)))))
 have h20:=XZ h15
 obtain ⟨rfl,n22⟩:=o18
 refine ZE (Zh ?_)
 obtain rfl:=Option.some.inj h20
 exact n22
theorem Zdj (a0:Zx) (b0:Int) (r:Bool) (h:M.VU a0 b0=some r):Fn Tryz.prog 147 [.agg (Zm a0),.pp ((ci .u32) b0)] (.pure (.bool r)):=by
 unfold M.VU at h
 exact ZT Tryz.func147 rfl (by kernel_rfl) (Za (zg [1,2] 1 (Zb (Za (zg [3] 0 (Zb (Zg (er1 h))))))))
theorem V9 (a0:List Zx) (a1c0:Int) (r:Int) (h:M.Z1 a0 a1c0=some r):Fn Tryz.prog 146 [sL 12 Zm a0,.fn 147 [.pp ((ci .u32) a1c0)]] (.pure (.int .i64 r)):=by
 unfold M.Z1 at h
 refine ZT Tryz.func146 rfl (by kernel_rfl) (Za (zg [0,1] 0 (Zb (Za (Za (zg [0,1,7,8] 0 (Zb (Zj ?_))))))))
 obtain ⟨y4,q12,h13⟩:=bind_some h
 refine zl (fun (p1:Int)=>⟨19,[(0,sL 12 Zm a0),(1,.fn 147 [.pp ((ci .u32) a1c0)]),(7,.int .i64 (a0.length:Int)),(8,.int .i64 p1)],[]⟩) (Sum.elim (fun z=>OutE 0 (fun z=>⟨19,[],[]⟩) z) (fun z=>OutR Tryz.prog Tryz.f146 (.int .i64 z))) q12 ?_ ?_
 intro p1 y2 h1
 unfold M.ZW at h1
 refine Za (zg [0,1,7,8,9] 0 (Zb (Za (cn h1 (fun _ h3=>?_) (fun _ h4=>?_)))))
 refine Ze (Zb (Za (Zj (Za (zg [0,1,5,7,8] 0 (Zb (Za ?_)))))))
 obtain ⟨r3,q5,h6⟩:=bind_some h3
 obtain ⟨c7,h8⟩:=Zy h6
 refine zr [0,1,5,7,8,16] 0 c7 (rq1 (Zdj _ _ _ q5) rqn) (Zb (cn h8 (fun _ h10=>?_) (fun _ h11=>?_)))
 exact Za (zg [4] 0 (Zb (Zg (ZE (Zh (rr h10 ⟨rfl,er0 _⟩))))))
 exact Ze (XO (Zb (zg [0,1,7,8] 0 (rn h11))))
 exact ZX (XC (re h4 ⟨rfl,kq⟩))
 intro e14 s15 o16
 rcases y4 with g5 | y6
 have h17:=XY h13
 exact zi o16 (Za (zg [4] 0 (Zb (Zg (er1 h17)))))
 have h18:=XZ h13
 obtain ⟨rfl,n20⟩:=o16
 refine ZE (Zh ?_)
 obtain rfl:=Option.some.inj h18
 exact n20
theorem Zae (a0:Zf) (a1:Int) (r:Int) (h:M.Vl a0 a1=some r):Fn Tryz.prog 87 [.agg (ZB a0),.int .u32 a1] (.pure (.int .i64 r)):=by
 unfold M.Vl at h
 refine ZT Tryz.func87 rfl (by kernel_rfl) (Za (zg [2,3] 2 (Zb (Za ?_))))
 obtain ⟨r1,q1,h2⟩:=bind_some h
 exact zr [4] 0 Zz (rq1 (V9 _ _ _ q1) rqn) (Zb (Zg (er1 h2)))
theorem ZbN (a0:Zf) (a1:Yh) (r:Bool) (h:M.QD a0 a1=some r):Fn Tryz.prog 142 [.agg (ZB a0),.agg (ZS a1)] (.pure (.bool r)):=by
 let u1:Nat × D:=(16,sL 1 cb ([a1.Vu != 0,!strEq a1.Jj (⟨#[]⟩:ByteArray),a1.VJ]:List Bool))
 let u2:List Ob:=[.box (ZB a0),.box (ZS a1)]
 unfold M.QD at h
 refine ZT Tryz.func142 rfl (by kernel_rfl) (Za (zg [2,3] 2 (Zb (Za (zg [2,3,5] 2 (Zb (Za (Za (rg0 [2,3,5,16,17,18] 2 ⟨55,[(2,.ref 0 0),(3,.ref 1 0),(5,.int .i64 0),(16,.sl true 1 3 (fun i=>List.take 1 (List.drop (i*1) [.bool (a1.Vu != 0),.bool (!strEq a1.Jj (⟨#[]⟩:ByteArray)),.bool a1.VJ]))),(17,.int .i64 3),(18,.int .i64 0)],[.box (ZB a0),.box (ZS a1)]⟩ (XD (s':=⟨55,[(2,.ref 0 0),(3,.ref 1 0),(5,.int .i64 0),(16,sL 1 cb ([a1.Vu != 0,!strEq a1.Jj (⟨#[]⟩:ByteArray),a1.VJ]:List Bool)),(17,.int .i64 3),(18,.int .i64 0)],[.box (ZB a0),.box (ZS a1)]⟩) (JQ (.cons Sub.rfl (.cons Sub.rfl (.cons Sub.rfl (.cons (W0 rfl (fun i hi=>match i,hi with | 0,_=>rfl | 1,_=>rfl | 2,_=>rfl | n+3,h=>absurd h (by omega))) (.cons Sub.rfl (.cons Sub.rfl .nil)))))) (.cons .rfl (.cons .rfl .nil))) (Zj ?_)))))))))))
 obtain ⟨y4,q12,h13⟩:=bind_some h
 refine zl (fun (p1:Int × Int)=>⟨55,[(2,.ref 0 0),(3,.ref 1 0),(5,.int .i64 p1.1),u1,(17,.int .i64 3),(18,.int .i64 p1.2)],u2⟩) (fun z=>OutE 0 (fun z=>⟨55,[(2,.ref 0 0),(3,.ref 1 0),(5,.int .i64 z)],u2⟩) z) q12 ?_ ?_
 intro p1 y2 h1
 unfold M.Qa at h1
 refine Za (rg0 [2,3,5,16,17,18,19] 2 ⟨55,[(2,.ref 0 0),(3,.ref 1 0),(5,.int .i64 p1.1),u1,(17,.int .i64 3),(18,.int .i64 p1.2),(19,.bool (decide (p1.2 < 3)))],u2⟩ (Zb (Za (cn h1 (fun _ h3=>?_) (fun _ h4=>?_)))))
 refine Ze (Zb (Uh (fun (p3:Int)=>⟨55,[(2,.ref 0 0),(3,.ref 1 0),(5,.int .i64 p3),u1,(17,.int .i64 3),(18,.int .i64 p1.2)],u2⟩) (fun p3=>M.YI p1 p3=some y2) ?_ ?_))
 intro p3 h6
 unfold M.YI at h6
 exact zg [2,3,5,16,17,18] 2 (rn h6)
 intro k5
 refine Zj (Za ?_)
 obtain ⟨c7,h8⟩:=Zy h3
 refine zc [2,3,5,7,16,17,18] 2 c7 (Zb (Za (zg [2,3,5,16,17,18,22] 2 (Zb (cn h8 (fun _ h10=>?_) (fun _ h11=>?_))))))
 exact zg [2,3,5,16,17,18] 2 (XO (XD lk (k5 (wr .i64 (p1.1+1)) h10)))
 exact Ze (XO (XD kq (k5 p1.1 h11)))
 exact ZX (XC (re h4 ⟨rfl,kq⟩))
 intro e14 s15 o16
 refine zi o16 (Za ?_)
 obtain ⟨r5,q18,h19⟩:=bind_some h13
 obtain ⟨r6,q20,h21⟩:=bind_some h19
 obtain ⟨r7,q22,h23⟩:=bind_some h21
 obtain ⟨r8,q24,h25⟩:=bind_some h23
 exact zr [4] 0 Zz (rq1 (Uw _ _ q18) (rq2 (fun hg=>Zae _ _ _ (Xn q20 hg)) (rq2 (fun hg=>XU _ _ _ _ (Xn q22 hg)) (rq2 (fun hg=>XU _ _ _ _ (Xn q24 hg)) rqn)))) (Zb (Zg (er1 h25)))
theorem Za8 (a0:Zf) (r:Int) (h:M.QJ a0=some r):Fn Tryz.prog 81 [.agg (ZB a0)] (.pure (.int .i64 r)):=by
 let u2:Nat × D:=(13,sL 7 ZS a0.Zr)
 let u3:=(a0.Zr.length:Int)
 let u6:=ZB a0
 unfold M.QJ at h
 refine ZT Tryz.func81 rfl (by kernel_rfl) (Za (zg [1] 1 (Zb (Za (Za (zg [1,11] 1 (Zb (cn h (fun _ h2=>?_) (fun _ h3=>?_)))))))))
 exact Za (zg [2] 0 (Zb (Zg (Zh (er1 h2)))))
 refine Ze (Zb (Za (Za (zg [1,13,14,15] 1 (Zb (Zj ?_))))))
 obtain ⟨y11,q50,h51⟩:=bind_some h3
 refine zl (fun (p1:Int)=>⟨63,[(1,.ref 0 0),u2,(14,.int .i64 u3),(15,.int .i64 p1)],[.box u6]⟩) (Sum.elim (fun z=>OutE 0 (fun z=>⟨63,[],[]⟩) z) (fun z=>OutR Tryz.prog Tryz.f81 (.int .i64 z))) q50 ?_ ?_
 intro p1 y2 h4
 let u4:=a0.Zr.getD p1.toNat default
 let u1:List Ob:=[.box u6,.box (ZS u4)]
 let u5:Nat × D:=(43,sL 7 ZS ((a0.Zr.drop 0).take (p1.toNat - 0)))
 unfold M.Qj at h4
 refine Za (zg [1,13,14,15,16] 1 (Zb (Za (cn h4 (fun _ h6=>?_) (fun _ h7=>?_)))))
 refine Ze (Zb (Za (Zj (Za ?_))))
 obtain ⟨c8,h9⟩:=Zy h6
 refine zc [1,3,4,13,14,15] 2 c8 (Zb (Za (Za ?_)))
 obtain ⟨r3,q10,h11⟩:=bind_some h9
 refine rg [.pure (.bool r3)] [1,3,4,13,14,15,23] 2 ⟨63,[(1,.ref 0 0),(3,.int .i64 p1),(4,.ref 1 0),u2,(14,.int .i64 u3),(15,.int .i64 p1),(23,.bool (!r3))],u1⟩ [] [⟨true,142,[.agg u6,.agg (ZS u4)],.pure (.bool r3)⟩] Zz ⟨fun _=>ZbN a0 u4 r3 q10,trivial⟩ (Zb (cn h11 (fun _ h13=>?_) (fun _ h14=>?_)))
 exact Za (zg [2] 0 (Zb (Zg (Zh (ZE (Zh (rr h13 ⟨rfl,er0 _⟩)))))))
 refine Ze (Zb (Uh (fun (p4:Unit)=>⟨63,[(1,.ref 0 0),(3,.int .i64 p1),(4,.ref 1 0),u2,(14,.int .i64 u3),(15,.int .i64 p1)],u1⟩) (fun p4=>M.Yz a0 p1 p4=some y2) ?_ ?_))
 intro p4 h16
 unfold M.Yz at h16
 refine Za ?_
 obtain ⟨c17,h18⟩:=Zy h16
 refine rgc [1,4,13,14,15,43,44,45] 2 ⟨63,[(1,.ref 0 0),(4,.ref 1 0),u2,(14,.int .i64 u3),(15,.int .i64 p1),(43,.sl false 7 (p1.toNat - 0) (fun i=>ZS (a0.Zr.getD (0+i) default))),(44,.int .i64 ((p1.toNat - 0:Nat):Int)),(45,.int .i64 0)],u1⟩ [decide (0≤p1),decide (p1≤u3)] c17 (XD (s':=⟨63,[(1,.ref 0 0),(4,.ref 1 0),u2,(14,.int .i64 u3),(15,.int .i64 p1),u5,(44,.int .i64 ((p1.toNat - 0:Nat):Int)),(45,.int .i64 0)],u1⟩) (JQ (.cons Sub.rfl (.cons Sub.rfl (.cons Sub.rfl (.cons Sub.rfl (.cons Sub.rfl (.cons (W0 (KN _ _ _ (Zax (c17 _ (List.mem_cons_of_mem _ List.mem_cons_self)))) (KM _ _ _ _)) (.cons Sub.rfl (.cons Sub.rfl .nil)))))))) (.cons .rfl (.cons .rfl .nil))) (Zj ?_))
 obtain ⟨y7,q28,h29⟩:=bind_some h18
 refine zl (fun (p5:Int)=>⟨63,[(1,.ref 0 0),(4,.ref 1 0),u2,(14,.int .i64 u3),(15,.int .i64 p1),u5,(44,.int .i64 ((p1.toNat - 0:Nat):Int)),(45,.int .i64 p5)],u1⟩) (Sum.elim (fun z=>OutE 2 (fun z=>⟨63,[(1,.ref 0 0),u2,(14,.int .i64 u3),(15,.int .i64 p1)],[.box u6]⟩) z) (fun z=>OutR Tryz.prog Tryz.f81 (.int .i64 z))) q28 ?_ ?_
 intro p5 y6 h19
 unfold M.YN at h19
 refine Za (zg [1,4,13,14,15,43,44,45,46] 2 (Zb (Za (cn h19 (fun _ h21=>?_) (fun _ h22=>?_)))))
 refine Ze (Zb (Za (Zj (Za ?_))))
 obtain ⟨c23,h24⟩:=Zy h21
 refine zc [1,4,7,13,14,15,43,44,45] 3 c23 (Zb (Za (zg [1,4,13,14,15,43,44,45,60] 2 (Zb (cn h24 (fun _ h26=>?_) (fun _ h27=>?_))))))
 exact Za (zg [2] 0 (Zb (Zg (ZE (Zh (rr h26 ⟨rfl,er0 _⟩))))))
 exact Ze (XO (Zb (zg [1,4,13,14,15,43,44,45] 2 (rn h27))))
 exact ZX (XC (re h22 ⟨rfl,kc⟩))
 intro e30 s31 o32
 rcases y7 with g8 | y9
 have h33:=XY h29
 obtain ⟨rfl,l35⟩:=o32
 exact Y0 (XO (XD (s':=⟨63,[(1,.ref 0 0),u2,(14,.int .i64 u3),(15,.int .i64 p1)],[.box u6]⟩) (l35) (zg [1,13,14,15] 1 (rn h33))))
 have h34:=XZ h29
 obtain ⟨rfl,n36⟩:=o32
 exact ZE (ZE (Zh (rr h34 ⟨rfl,n36⟩)))
 intro k15
 refine Za (zg [1,3,4,13,14,15,26] 2 (Zb (cn h14 (fun _ h38=>?_) (fun _ h39=>?_))))
 refine Za ?_
 obtain ⟨r10,q40,h41⟩:=bind_some h38
 refine zr [1,3,4,5,13,14,15] 2 Zz (rq1 (K8 _ _ _ q40) rqn) (Zb (Za (Za (zg [1,3,4,5,13,14,15,32] 2 (Zb (cn h41 (fun _ h43=>?_) (fun _ h44=>?_)))))))
 exact Za (zg [2] 0 (Zb (Zg (Zh (Zh (ZE (Zh (rr h43 ⟨rfl,er0 _⟩))))))))
 refine Ze (Zb (Za ?_))
 obtain ⟨c45,h46⟩:=Zy h44
 refine zc [1,3,4,13,14,15,39] 2 c45 (Zb (cn h46 (fun _ h48=>?_) (fun _ h49=>?_)))
 exact Za (zg [2] 0 (Zb (Zg (Zh (ZE (Zh (rr h48 ⟨rfl,er0 _⟩)))))))
 exact Ze (XD kq (k15 () h49))
 exact Ze (XD kq (k15 () h39))
 exact ZX (XC (re h7 ⟨rfl,kc⟩))
 intro e52 s53 o54
 rcases y11 with g12 | y13
 have h55:=XY h51
 exact zi o54 (Za (zg [2] 0 (Zb (Zg (er1 h55)))))
 have h56:=XZ h51
 obtain ⟨rfl,n58⟩:=o54
 refine ZE (Zh ?_)
 obtain rfl:=Option.some.inj h56
 exact n58
theorem Gn (a0:Zf) (a1:List YB) (a2:Int) (a3:Int) (a4:Int) (a5:Int) (r:Int) (h:M.YG a0 a1 a2 a3 a4 a5=some r):Fn Tryz.prog 143 [.agg (ZB a0),sL 5 Zv a1,.int .i64 a2,.int .i64 a3,.int .i64 a4,.int .i64 a5] (.pure (.int .i64 r)):=by
 let u2:Nat × D:=(20,sL 5 Zv a1)
 let u3:Nat × D:=(1,sL 5 Zv a1)
 let u4:=(a1.length:Int)
 let u6:=ZB a0
 unfold M.YG at h
 refine ZT Tryz.func143 rfl (by kernel_rfl) (Za (zg [1,2,3,4,5,6] 1 (Zb (Za (Za (zg [1,2,3,4,5,6,19] 1 (Zb (cn h (fun _ h2=>?_) (fun _ h3=>?_)))))))))
 exact Za (zg [12] 0 (Zb (Zg (Zh (er1 h2)))))
 refine Ze (Zb (Za (Za (zg [1,2,3,4,5,6,20,21,22] 1 (Zb (Zj ?_))))))
 obtain ⟨y13,q46,h47⟩:=bind_some h3
 refine zl (fun (p1:Int)=>⟨85,[u3,(2,.int .i64 a2),(3,.int .i64 a3),(4,.int .i64 a4),(5,.int .i64 a5),(6,.ref 0 0),u2,(21,.int .i64 u4),(22,.int .i64 p1)],[.box u6]⟩) (Sum.elim (fun z=>OutE 0 (fun z=>⟨85,[],[]⟩) z) (fun z=>OutR Tryz.prog Tryz.f143 (.int .i64 z))) q46 ?_ ?_
 intro p1 y2 h4
 let u1:List Ob:=[.box u6,.box (Zv (a1.getD p1.toNat default))]
 let u5:Nat × D:=(72,sL 5 Zv ((a1.drop 0).take (p1.toNat - 0)))
 unfold M.Qx at h4
 refine Za (zg [1,2,3,4,5,6,20,21,22,23] 1 (Zb (Za (cn h4 (fun _ h6=>?_) (fun _ h7=>?_)))))
 refine Ze (Zb (Za (Zj (Za ?_))))
 obtain ⟨c8,h9⟩:=Zy h6
 refine zc [1,2,3,4,5,6,13,14,20,21,22] 2 c8 (Zb (Za (Za ?_)))
 obtain ⟨r3,q10,h11⟩:=bind_some h9
 obtain ⟨r4,q12,h13⟩:=bind_some h11
 obtain ⟨r5,q14,h15⟩:=bind_some h13
 obtain ⟨r6,q16,h17⟩:=bind_some h15
 refine zr [1,2,3,4,5,6,13,14,20,21,22,59] 2 Zz (rq1 (XU _ _ _ _ q10) (rq2 (fun hg=>XU _ _ _ _ (Xn q12 hg)) (rq2 (fun hg=>XU _ _ _ _ (Xn q14 hg)) (rq2 (fun hg=>XU _ _ _ _ (Xn q16 hg)) rqn)))) (Zb (cn h17 (fun _ h19=>?_) (fun _ h20=>?_)))
 exact Za (zg [12] 0 (Zb (Zg (Zh (ZE (Zh (rr h19 ⟨rfl,er0 _⟩)))))))
 refine Ze (Zb (Za (Za ?_)))
 obtain ⟨r7,q21,h22⟩:=bind_some h20
 refine zr [1,2,3,4,5,6,13,14,20,21,22,69] 2 Zz (rq2 (fun hg=>Gc _ _ _ (Xn q21 hg)) rqn) (Zb (cn h22 (fun _ h24=>?_) (fun _ h25=>?_)))
 exact Za (zg [12] 0 (Zb (Zg (Zh (ZE (Zh (rr h24 ⟨rfl,er0 _⟩)))))))
 refine Ze (Zb (Za ?_))
 obtain ⟨c26,h27⟩:=Zy h25
 refine rgc [1,2,3,4,5,6,14,20,21,22,72,73,74] 2 ⟨85,[u3,(2,.int .i64 a2),(3,.int .i64 a3),(4,.int .i64 a4),(5,.int .i64 a5),(6,.ref 0 0),(14,.ref 1 0),u2,(21,.int .i64 u4),(22,.int .i64 p1),(72,.sl false 5 (p1.toNat - 0) (fun i=>Zv (a1.getD (0+i) default))),(73,.int .i64 ((p1.toNat - 0:Nat):Int)),(74,.int .i64 0)],u1⟩ [decide (0≤p1),decide (p1≤u4)] c26 (XD (s':=⟨85,[u3,(2,.int .i64 a2),(3,.int .i64 a3),(4,.int .i64 a4),(5,.int .i64 a5),(6,.ref 0 0),(14,.ref 1 0),u2,(21,.int .i64 u4),(22,.int .i64 p1),u5,(73,.int .i64 ((p1.toNat - 0:Nat):Int)),(74,.int .i64 0)],u1⟩) (JQ (.cons Sub.rfl (.cons Sub.rfl (.cons Sub.rfl (.cons Sub.rfl (.cons Sub.rfl (.cons Sub.rfl (.cons Sub.rfl (.cons Sub.rfl (.cons Sub.rfl (.cons Sub.rfl (.cons (W0 (KN _ _ _ (Zax (c26 _ (List.mem_cons_of_mem _ List.mem_cons_self)))) (KM _ _ _ _)) (.cons Sub.rfl (.cons Sub.rfl .nil))))))))))))) (.cons .rfl (.cons .rfl .nil))) (Zj ?_))
 obtain ⟨y10,q37,h38⟩:=bind_some h27
 refine zl (fun (p8:Int)=>⟨85,[u3,(2,.int .i64 a2),(3,.int .i64 a3),(4,.int .i64 a4),(5,.int .i64 a5),(6,.ref 0 0),(14,.ref 1 0),u2,(21,.int .i64 u4),(22,.int .i64 p1),u5,(73,.int .i64 ((p1.toNat - 0:Nat):Int)),(74,.int .i64 p8)],u1⟩) (Sum.elim (fun z=>OutE 2 (fun z=>⟨85,[u3,(2,.int .i64 a2),(3,.int .i64 a3),(4,.int .i64 a4),(5,.int .i64 a5),(6,.ref 0 0),u2,(21,.int .i64 u4),(22,.int .i64 p1)],[.box u6]⟩) z) (fun z=>OutR Tryz.prog Tryz.f143 (.int .i64 z))) q37 ?_ ?_
 intro p8 y9 h28
 unfold M.Qb at h28
 refine Za (zg [1,2,3,4,5,6,14,20,21,22,72,73,74,75] 2 (Zb (Za (cn h28 (fun _ h30=>?_) (fun _ h31=>?_)))))
 refine Ze (Zb (Za (Zj (Za ?_))))
 obtain ⟨c32,h33⟩:=Zy h30
 refine zc [1,2,3,4,5,6,14,16,20,21,22,72,73,74] 3 c32 (Zb (Za (zg [1,2,3,4,5,6,14,20,21,22,72,73,74,82] 2 (Zb (cn h33 (fun _ h35=>?_) (fun _ h36=>?_))))))
 exact Za (zg [12] 0 (Zb (Zg (ZE (Zh (rr h35 ⟨rfl,er0 _⟩))))))
 exact Ze (XO (Zb (zg [1,2,3,4,5,6,14,20,21,22,72,73,74] 2 (rn h36))))
 exact ZX (XC (re h31 ⟨rfl,kc⟩))
 intro e39 s40 o41
 rcases y10 with g11 | y12
 have h42:=XY h38
 obtain ⟨rfl,l44⟩:=o41
 exact Y0 (XO (XD (s':=⟨85,[u3,(2,.int .i64 a2),(3,.int .i64 a3),(4,.int .i64 a4),(5,.int .i64 a5),(6,.ref 0 0),u2,(21,.int .i64 u4),(22,.int .i64 p1)],[.box u6]⟩) (l44) (zg [1,2,3,4,5,6,20,21,22] 1 (rn h42))))
 have h43:=XZ h38
 obtain ⟨rfl,n45⟩:=o41
 exact ZE (ZE (Zh (rr h43 ⟨rfl,n45⟩)))
 exact ZX (XC (re h7 ⟨rfl,kc⟩))
 intro e48 s49 o50
 rcases y13 with g14 | y15
 have h51:=XY h47
 exact zi o50 (Za (zg [12] 0 (Zb (Zg (er1 h51)))))
 have h52:=XZ h47
 obtain ⟨rfl,n54⟩:=o50
 refine ZE (Zh ?_)
 obtain rfl:=Option.some.inj h52
 exact n54
theorem Zaf (a0:Zf) (r:Int) (h:M.Qc a0=some r):Fn Tryz.prog 82 [.agg (ZB a0)] (.pure (.int .i64 r)):=by
 let u2:Nat × D:=(37,sL 3 Xg a0.X5.ZF)
 let u3:=(a0.X5.ZF.length:Int)
 let u4:List Ob:=[.box (ZB a0),.box (KQ a0.X5)]
 unfold M.Qc at h
 refine ZT Tryz.func82 rfl (by kernel_rfl) (Za (zg [1] 1 (Zb (Za (zg [1,3] 2 (Zb (Za (Za (zg [1,3,12] 2 (Zb (cn h (fun _ h2=>?_) (fun _ h3=>?_))))))))))))
 refine Za (Za (zg [27] 0 (Zb (cn h2 (fun _ h5=>?_) (fun _ h6=>?_)))))
 exact Za (zg [2] 0 (Zb (Zg (Zh (Zh (er1 h5))))))
 exact Ze (Zb (Za (zg [2] 0 (Zb (Zg (Zh (er1 h6)))))))
 refine Ze (Zb (Za (Za ?_)))
 obtain ⟨r1,q7,h8⟩:=bind_some h3
 refine zr [1,3,31] 2 Zz (rq1 (XU _ _ _ _ q7) rqn) (Zb (cn h8 (fun _ h10=>?_) (fun _ h11=>?_)))
 exact Za (zg [2] 0 (Zb (Zg (Zh (er1 h10)))))
 refine Ze (Zb (Za (Za (zg [1,3,35] 2 (Zb (cn h11 (fun _ h13=>?_) (fun _ h14=>?_)))))))
 exact Za (zg [2] 0 (Zb (Zg (Zh (er1 h13)))))
 refine Ze (Zb (Za (Za (zg [1,3,37,38,39] 2 (Zb (Zj ?_))))))
 obtain ⟨y12,q50,h51⟩:=bind_some h14
 refine zl (fun (p2:Int)=>⟨81,[(1,.ref 0 0),(3,.ref 1 0),u2,(38,.int .i64 u3),(39,.int .i64 p2)],u4⟩) (Sum.elim (fun z=>OutE 0 (fun z=>⟨81,[(1,.ref 0 0),(3,.ref 1 0)],u4⟩) z) (fun z=>OutR Tryz.prog Tryz.f82 (.int .i64 z))) q50 ?_ ?_
 intro p2 y3 h15
 let u1:List Ob:=[.box (ZB a0),.box (KQ a0.X5),.box (Xg (a0.X5.ZF.getD p2.toNat default))]
 let u5:Nat × D:=(57,sL 3 Xg ((a0.X5.ZF.drop 0).take (p2.toNat - 0)))
 unfold M.YK at h15
 refine Za (zg [1,3,37,38,39,40] 2 (Zb (Za (cn h15 (fun _ h17=>?_) (fun _ h18=>?_)))))
 refine Ze (Zb (Za (Zj (Za ?_))))
 obtain ⟨c19,h20⟩:=Zy h17
 refine zc [1,3,4,5,37,38,39] 3 c19 (Zb (Za (Za ?_)))
 obtain ⟨r4,q21,h22⟩:=bind_some h20
 obtain ⟨r5,q23,h24⟩:=bind_some h22
 refine zr [1,3,4,5,37,38,39,53] 3 Zz (rq1 (XU _ _ _ _ q21) (rq2 (fun hg=>Uw _ _ (Xn q23 hg)) rqn)) (Zb (cn h24 (fun _ h26=>?_) (fun _ h27=>?_)))
 exact Za (zg [2] 0 (Zb (Zg (Zh (ZE (Zh (rr h26 ⟨rfl,er0 _⟩)))))))
 refine Ze (Zb (Za ?_))
 obtain ⟨c28,h29⟩:=Zy h27
 refine rgc [1,3,5,37,38,39,57,58,59] 3 ⟨81,[(1,.ref 0 0),(3,.ref 1 0),(5,.ref 2 0),u2,(38,.int .i64 u3),(39,.int .i64 p2),(57,.sl false 3 (p2.toNat - 0) (fun i=>Xg (a0.X5.ZF.getD (0+i) default))),(58,.int .i64 ((p2.toNat - 0:Nat):Int)),(59,.int .i64 0)],u1⟩ [decide (0≤p2),decide (p2≤u3)] c28 (XD (s':=⟨81,[(1,.ref 0 0),(3,.ref 1 0),(5,.ref 2 0),u2,(38,.int .i64 u3),(39,.int .i64 p2),u5,(58,.int .i64 ((p2.toNat - 0:Nat):Int)),(59,.int .i64 0)],u1⟩) (JQ (.cons Sub.rfl (.cons Sub.rfl (.cons Sub.rfl (.cons Sub.rfl (.cons Sub.rfl (.cons Sub.rfl (.cons (W0 (KN _ _ _ (Zax (c28 _ (List.mem_cons_of_mem _ List.mem_cons_self)))) (KM _ _ _ _)) (.cons Sub.rfl (.cons Sub.rfl .nil))))))))) (.cons .rfl (.cons .rfl (.cons .rfl .nil)))) (Zj ?_))
 obtain ⟨y9,q41,h42⟩:=bind_some h29
 refine zl (fun (p6:Int)=>⟨81,[(1,.ref 0 0),(3,.ref 1 0),(5,.ref 2 0),u2,(38,.int .i64 u3),(39,.int .i64 p2),u5,(58,.int .i64 ((p2.toNat - 0:Nat):Int)),(59,.int .i64 p6)],u1⟩) (Sum.elim (fun z=>OutE 2 (fun z=>⟨81,[(1,.ref 0 0),(3,.ref 1 0),u2,(38,.int .i64 u3),(39,.int .i64 p2)],u4⟩) z) (fun z=>OutR Tryz.prog Tryz.f82 (.int .i64 z))) q41 ?_ ?_
 intro p6 y7 h30
 unfold M.Yw at h30
 refine Za (zg [1,3,5,37,38,39,57,58,59,60] 3 (Zb (Za (cn h30 (fun _ h32=>?_) (fun _ h33=>?_)))))
 refine Ze (Zb (Za (Zj (Za ?_))))
 obtain ⟨c34,h35⟩:=Zy h32
 refine zc [1,3,5,7,37,38,39,57,58,59] 4 c34 (Zb (Za ?_))
 obtain ⟨r8,q36,h37⟩:=bind_some h35
 refine zr [1,3,5,37,38,39,57,58,59,74] 3 Zz (rq2 (fun hg=>Zac _ _ _ (Xn q36 hg)) rqn) (Zb (cn h37 (fun _ h39=>?_) (fun _ h40=>?_)))
 exact Za (zg [2] 0 (Zb (Zg (ZE (Zh (rr h39 ⟨rfl,er0 _⟩))))))
 exact Ze (XO (Zb (zg [1,3,5,37,38,39,57,58,59] 3 (rn h40))))
 exact ZX (XC (re h33 ⟨rfl,kc⟩))
 intro e43 s44 o45
 rcases y9 with g10 | y11
 have h46:=XY h42
 obtain ⟨rfl,l48⟩:=o45
 exact Y0 (XO (XD (s':=⟨81,[(1,.ref 0 0),(3,.ref 1 0),u2,(38,.int .i64 u3),(39,.int .i64 p2)],u4⟩) (l48) (zg [1,3,37,38,39] 2 (rn h46))))
 have h47:=XZ h42
 obtain ⟨rfl,n49⟩:=o45
 exact ZE (ZE (Zh (rr h47 ⟨rfl,n49⟩)))
 exact ZX (XC (re h18 ⟨rfl,kq⟩))
 intro e52 s53 o54
 rcases y12 with g13 | y14
 have h55:=XY h51
 refine zi o54 (Za ?_)
 obtain ⟨r15,q58,h59⟩:=bind_some h55
 exact zr [2] 0 Zz (rq1 (Gn _ _ _ _ _ _ _ q58) rqn) (Zb (Zg (er1 h59)))
 have h56:=XZ h51
 obtain ⟨rfl,n60⟩:=o54
 refine ZE (Zh ?_)
 obtain rfl:=Option.some.inj h56
 exact n60
theorem KE (a0:Zf) (r:Int) (h:M.Yj a0=some r):Fn Tryz.prog 83 [.agg (ZB a0)] (.pure (.int .i64 r)):=by
 unfold M.Yj at h
 refine ZT Tryz.func83 rfl (by kernel_rfl) (Za (zg [1] 1 (Zb (Za (zg [1,3] 2 (Zb (Za (Za (zg [1,3,8] 2 (Zb (cn h (fun _ h2=>?_) (fun _ h3=>?_))))))))))))
 refine Za (Za (zg [27] 0 (Zb (cn h2 (fun _ h5=>?_) (fun _ h6=>?_)))))
 exact Za (zg [2] 0 (Zb (Zg (Zh (Zh (er1 h5))))))
 exact Ze (Zb (Za (zg [2] 0 (Zb (Zg (Zh (er1 h6)))))))
 refine Ze (Zb (Za (Za ?_)))
 obtain ⟨r1,q7,h8⟩:=bind_some h3
 refine zr [1,3,31] 2 Zz (rq1 (XU _ _ _ _ q7) rqn) (Zb (cn h8 (fun _ h10=>?_) (fun _ h11=>?_)))
 exact Za (zg [2] 0 (Zb (Zg (Zh (er1 h10)))))
 refine Ze (Zb (Za (Za ?_)))
 obtain ⟨r2,q12,h13⟩:=bind_some h11
 obtain ⟨r3,q14,h15⟩:=bind_some h13
 refine zr [1,3,53] 2 Zz (rq2 (fun hg=>UB _ _ _ (Xn q12 hg)) (rq2 (fun hg=>UB _ _ _ (Xn q14 hg)) rqn)) (Zb (cn h15 (fun _ h17=>?_) (fun _ h18=>?_)))
 exact Za (zg [2] 0 (Zb (Zg (Zh (er1 h17)))))
 refine Ze (Zb (Za ?_))
 obtain ⟨r4,q19,h20⟩:=bind_some h18
 exact zr [2] 0 Zz (rq1 (Gn _ _ _ _ _ _ _ q19) rqn) (Zb (Zg (er1 h20)))
theorem Zag (a0:Zf) (r:Int) (h:M.Qd a0=some r):Fn Tryz.prog 144 [.agg (ZB a0)] (.pure (.int .i64 r)):=by
 let u1:Nat × D:=(14,sL 4 Xq a0.Z8.Zl)
 let u2:=(a0.Z8.Zl.length:Int)
 let u5:=ZB a0
 unfold M.Qd at h
 refine ZT Tryz.func144 rfl (by kernel_rfl) (Za (zg [1] 1 (Zb (Za (Za (zg [1,11] 1 (Zb (cn h (fun _ h2=>?_) (fun _ h3=>?_)))))))))
 exact Za (zg [2] 0 (Zb (Zg (Zh (er1 h2)))))
 refine Ze (Zb (Za (Za (zg [1,14,15,16] 1 (Zb (Zj ?_))))))
 obtain ⟨y11,q42,h43⟩:=bind_some h3
 refine zl (fun (p1:Int)=>⟨69,[(1,.ref 0 0),u1,(15,.int .i64 u2),(16,.int .i64 p1)],[.box u5]⟩) (Sum.elim (fun z=>OutE 0 (fun z=>⟨69,[],[]⟩) z) (fun z=>OutR Tryz.prog Tryz.f144 (.int .i64 z))) q42 ?_ ?_
 intro p1 y2 h4
 let u3:List Ob:=[.box u5,.box (Xq (a0.Z8.Zl.getD p1.toNat default))]
 let u4:Nat × D:=(56,sL 4 Xq ((a0.Z8.Zl.drop 0).take (p1.toNat - 0)))
 unfold M.YL at h4
 refine Za (zg [1,14,15,16,17] 1 (Zb (Za (cn h4 (fun _ h6=>?_) (fun _ h7=>?_)))))
 refine Ze (Zb (Za (Zj (Za ?_))))
 obtain ⟨c8,h9⟩:=Zy h6
 refine zc [1,3,4,14,15,16] 2 c8 (Zb (Za (Za ?_)))
 obtain ⟨r3,q10,h11⟩:=bind_some h9
 refine zr [1,3,4,14,15,16,29] 2 Zz (rq2 (fun hg=>XU _ _ _ _ (Xn q10 hg)) rqn) (Zb (cn h11 (fun _ h13=>?_) (fun _ h14=>?_)))
 exact Za (zg [2] 0 (Zb (Zg (Zh (ZE (Zh (rr h13 ⟨rfl,er0 _⟩)))))))
 refine Ze (Zb (Za (Za ?_)))
 obtain ⟨r4,q15,h16⟩:=bind_some h14
 obtain ⟨r5,q17,h18⟩:=bind_some h16
 refine zr [1,3,4,14,15,16,51] 2 Zz (rq2 (fun hg=>Gc _ _ _ (Xn q15 hg)) (rq2 (fun hg=>Gc _ _ _ (Xn q17 hg)) rqn)) (Zb (cn h18 (fun _ h20=>?_) (fun _ h21=>?_)))
 exact Za (zg [2] 0 (Zb (Zg (Zh (ZE (Zh (rr h20 ⟨rfl,er0 _⟩)))))))
 refine Ze (Zb (Za ?_))
 obtain ⟨c22,h23⟩:=Zy h21
 refine rgc [1,4,14,15,16,56,57,58] 2 ⟨69,[(1,.ref 0 0),(4,.ref 1 0),u1,(15,.int .i64 u2),(16,.int .i64 p1),(56,.sl false 4 (p1.toNat - 0) (fun i=>Xq (a0.Z8.Zl.getD (0+i) default))),(57,.int .i64 ((p1.toNat - 0:Nat):Int)),(58,.int .i64 0)],u3⟩ [decide (0≤p1),decide (p1≤u2)] c22 (XD (s':=⟨69,[(1,.ref 0 0),(4,.ref 1 0),u1,(15,.int .i64 u2),(16,.int .i64 p1),u4,(57,.int .i64 ((p1.toNat - 0:Nat):Int)),(58,.int .i64 0)],u3⟩) (JQ (.cons Sub.rfl (.cons Sub.rfl (.cons Sub.rfl (.cons Sub.rfl (.cons Sub.rfl (.cons (W0 (KN _ _ _ (Zax (c22 _ (List.mem_cons_of_mem _ List.mem_cons_self)))) (KM _ _ _ _)) (.cons Sub.rfl (.cons Sub.rfl .nil)))))))) (.cons .rfl (.cons .rfl .nil))) (Zj ?_))
 obtain ⟨y8,q33,h34⟩:=bind_some h23
 refine zl (fun (p6:Int)=>⟨69,[(1,.ref 0 0),(4,.ref 1 0),u1,(15,.int .i64 u2),(16,.int .i64 p1),u4,(57,.int .i64 ((p1.toNat - 0:Nat):Int)),(58,.int .i64 p6)],u3⟩) (Sum.elim (fun z=>OutE 2 (fun z=>⟨69,[(1,.ref 0 0),u1,(15,.int .i64 u2),(16,.int .i64 p1)],[.box u5]⟩) z) (fun z=>OutR Tryz.prog Tryz.f144 (.int .i64 z))) q33 ?_ ?_
 intro p6 y7 h24
 unfold M.Yx at h24
 refine Za (zg [1,4,14,15,16,56,57,58,59] 2 (Zb (Za (cn h24 (fun _ h26=>?_) (fun _ h27=>?_)))))
 refine Ze (Zb (Za (Zj (Za ?_))))
 obtain ⟨c28,h29⟩:=Zy h26
 refine zc [1,4,6,14,15,16,56,57,58] 3 c28 (Zb (Za (zg [1,4,14,15,16,56,57,58,66] 2 (Zb (cn h29 (fun _ h31=>?_) (fun _ h32=>?_))))))
 exact Za (zg [2] 0 (Zb (Zg (ZE (Zh (rr h31 ⟨rfl,er0 _⟩))))))
 exact Ze (XO (Zb (zg [1,4,14,15,16,56,57,58] 2 (rn h32))))
 exact ZX (XC (re h27 ⟨rfl,kc⟩))
 intro e35 s36 o37
 rcases y8 with g9 | y10
 have h38:=XY h34
 obtain ⟨rfl,l40⟩:=o37
 exact Y0 (XO (XD (s':=⟨69,[(1,.ref 0 0),u1,(15,.int .i64 u2),(16,.int .i64 p1)],[.box u5]⟩) (l40) (zg [1,14,15,16] 1 (rn h38))))
 have h39:=XZ h34
 obtain ⟨rfl,n41⟩:=o37
 exact ZE (ZE (Zh (rr h39 ⟨rfl,n41⟩)))
 exact ZX (XC (re h7 ⟨rfl,kc⟩))
 intro e44 s45 o46
 rcases y11 with g12 | y13
 have h47:=XY h43
 exact zi o46 (Za (zg [2] 0 (Zb (Zg (er1 h47)))))
 have h48:=XZ h43
 obtain ⟨rfl,n50⟩:=o46
 refine ZE (Zh ?_)
 obtain rfl:=Option.some.inj h48
 exact n50
theorem Gw (a0:List ZO) (a1:ZO) (r:Int) (h:M.XQ a0 a1=some r):Fn Tryz.prog 180 [sL 2 Z7 a0,.agg (Z7 a1)] (.pure (.int .i64 r)):=by
 unfold M.XQ at h
 refine ZT Tryz.func180 rfl (by kernel_rfl) (Za (zg [0,3] 1 (Zb (Za (Za (zg [0,3,7,8] 1 (Zb (Zj ?_))))))))
 obtain ⟨y3,q10,h11⟩:=bind_some h
 refine zl (fun (p1:Int)=>⟨19,[(0,sL 2 Z7 a0),(3,.ref 0 0),(7,.int .i64 (a0.length:Int)),(8,.int .i64 p1)],[.box (Z7 a1)]⟩) (Sum.elim (fun z=>OutE 0 (fun z=>⟨19,[],[]⟩) z) (fun z=>OutR Tryz.prog Tryz.f180 (.int .i64 z))) q10 ?_ ?_
 intro p1 y2 h1
 unfold M.XV at h1
 refine Za (zg [0,3,7,8,9] 1 (Zb (Za (cn h1 (fun _ h3=>?_) (fun _ h4=>?_)))))
 refine Ze (Zb (Za (Zj (Za (zg [0,3,5,7,8] 1 (Zb (Za ?_)))))))
 obtain ⟨c5,h6⟩:=Zy h3
 refine zc [0,3,5,7,8,16] 1 c5 (Zb (cn h6 (fun _ h8=>?_) (fun _ h9=>?_)))
 exact Za (zg [4] 0 (Zb (Zg (ZE (Zh (rr h8 ⟨rfl,er0 _⟩))))))
 exact Ze (XO (Zb (zg [0,3,7,8] 1 (rn h9))))
 exact ZX (XC (re h4 ⟨rfl,kc⟩))
 intro e12 s13 o14
 rcases y3 with g4 | y5
 have h15:=XY h11
 exact zi o14 (Za (zg [4] 0 (Zb (Zg (er1 h15)))))
 have h16:=XZ h11
 obtain ⟨rfl,n18⟩:=o14
 refine ZE (Zh ?_)
 obtain rfl:=Option.some.inj h16
 exact n18
theorem U9 (a0:List ZO) (a1:ZO) (r:Bool) (h:M.Xx a0 a1=some r):Fn Tryz.prog 173 [sL 2 Z7 a0,.agg (Z7 a1)] (.pure (.bool r)):=by
 unfold M.Xx at h
 refine ZT Tryz.func173 rfl (by kernel_rfl) (Za (zg [0,3] 1 (Zb (Za ?_))))
 obtain ⟨r1,q1,h2⟩:=bind_some h
 exact zr [4] 0 Zz (rq1 (Gw _ _ _ q1) rqn) (Zb (Zg (er1 h2)))
theorem Za9 (a0:Xb) (r:Int) (h:M.QL a0=some r):Fn Tryz.prog 145 [.agg (U4 a0)] (.pure (.int .i64 r)):=by
 let u1:=U4 a0
 let u2:Nat × D:=(40,sL 3 Xh a0.Zq)
 let u3:Nat × D:=(72,sL 5 Xe a0.Zn)
 let u4:=(a0.Zq.length:Int)
 let u5:=(a0.Zn.length:Int)
 let u10:=(a0.Zt.length:Int)
 let u12:St:=⟨110,[(1,.ref 0 0)],[.box u1]⟩
 unfold M.QL at h
 refine ZT Tryz.func145 rfl (by kernel_rfl) (Za (zg [1] 1 (Zb (Za (Za (zg [1,16] 1 (Zb (cn h (fun _ h2=>?_) (fun _ h3=>?_)))))))))
 exact Za (zg [2] 0 (Zb (Zg (Zh (er1 h2)))))
 refine Ze (Zb (Za (Za (zg [1,18,19,20] 1 (Zb (Zj ?_))))))
 obtain ⟨y5,q22,h23⟩:=bind_some h3
 refine zl (fun (p1:Int)=>⟨110,[(1,.ref 0 0),(18,sL 2 Z7 a0.Zt),(19,.int .i64 u10),(20,.int .i64 p1)],[.box u1]⟩) (Sum.elim (fun z=>OutE 0 (fun z=>u12) z) (fun z=>OutR Tryz.prog Tryz.f145 (.int .i64 z))) q22 ?_ ?_
 intro p1 y2 h4
 let u11:=a0.Zt.getD p1.toNat default
 unfold M.YO at h4
 refine Za (zg [1,18,19,20,21] 1 (Zb (Za (cn h4 (fun _ h6=>?_) (fun _ h7=>?_)))))
 refine Ze (Zb (Za (Zj (Za ?_))))
 obtain ⟨c8,h9⟩:=Zy h6
 refine zc [1,3,4,18,19,20] 2 c8 (Zb (Za (Za ?_)))
 obtain ⟨r3,q10,h11⟩:=bind_some h9
 refine zr [1,3,4,18,19,20,27] 2 Zz (rq1 (Uw _ _ q10) rqn) (Zb (cn h11 (fun _ h13=>?_) (fun _ h14=>?_)))
 exact Za (zg [2] 0 (Zb (Zg (Zh (ZE (Zh (rr h13 ⟨rfl,er0 _⟩)))))))
 refine Ze (Zb (Za ?_))
 obtain ⟨r4,q15,h16⟩:=bind_some h14
 obtain ⟨c17,h18⟩:=Zy h16
 refine rg [.pure (.bool r4)] [1,18,19,20,33] 1 ⟨110,[(1,.ref 0 0),(18,sL 2 Z7 a0.Zt),(19,.int .i64 u10),(20,.int .i64 p1),(33,.bool r4)],[.box u1]⟩ [decide (0≤p1),decide (p1≤u10)] [⟨true,173,[.sl false 2 (p1.toNat - 0) (fun i=>Z7 (a0.Zt.getD (0+i) default)),.agg (Z7 u11)],.pure (.bool r4)⟩] c17 ⟨fun _=>(U9 ((a0.Zt.drop 0).take (p1.toNat - 0)) u11 r4 q15).args (.cons (Zfk (KN _ _ _ (Zax (c17 _ (List.mem_cons_of_mem _ List.mem_cons_self)))) (KM _ _ _ _)) (.cons ASub.rfl .nil)),trivial⟩ (Zb (cn h18 (fun _ h20=>?_) (fun _ h21=>?_)))
 exact Za (zg [2] 0 (Zb (Zg (ZE (Zh (rr h20 ⟨rfl,er0 _⟩))))))
 exact Ze (XO (Zb (zg [1,18,19,20] 1 (rn h21))))
 exact ZX (XC (re h7 ⟨rfl,kq⟩))
 intro e24 s25 o26
 rcases y5 with g6 | y7
 have h27:=XY h23
 refine zi o26 (Za (Za (zg [1,38] 1 (Zb (cn h27 (fun _ h31=>?_) (fun _ h32=>?_))))))
 exact Za (zg [2] 0 (Zb (Zg (Zh (er1 h31)))))
 refine Ze (Zb (Za (Za (zg [1,40,41,42] 1 (Zb (Zj ?_))))))
 obtain ⟨y16,q64,h65⟩:=bind_some h32
 refine zl (fun (p8:Int)=>⟨110,[(1,.ref 0 0),u2,(41,.int .i64 u4),(42,.int .i64 p8)],[.box u1]⟩) (Sum.elim (fun z=>OutE 2 (fun z=>u12) z) (fun z=>OutR Tryz.prog Tryz.f145 (.int .i64 z))) q64 ?_ ?_
 intro p8 y9 h33
 let u7:List Ob:=[.box u1,.box (Xh (a0.Zq.getD p8.toNat default))]
 let u9:Nat × D:=(54,sL 3 Xh ((a0.Zq.drop 0).take (p8.toNat - 0)))
 unfold M.YQ at h33
 refine Za (zg [1,40,41,42,43] 1 (Zb (Za (cn h33 (fun _ h35=>?_) (fun _ h36=>?_)))))
 refine Ze (Zb (Za (Zj (Za ?_))))
 obtain ⟨c37,h38⟩:=Zy h35
 refine zc [1,5,6,40,41,42] 2 c37 (Zb (Za (Za ?_)))
 obtain ⟨r10,q39,h40⟩:=bind_some h38
 refine zr [1,5,6,40,41,42,50] 2 Zz (rq1 (Uw _ _ q39) rqn) (Zb (cn h40 (fun _ h42=>?_) (fun _ h43=>?_)))
 exact Za (zg [2] 0 (Zb (Zg (Zh (ZE (Zh (rr h42 ⟨rfl,er0 _⟩)))))))
 refine Ze (Zb (Za ?_))
 obtain ⟨c44,h45⟩:=Zy h43
 refine rgc [1,6,40,41,42,54,55,56] 2 ⟨110,[(1,.ref 0 0),(6,.ref 1 0),u2,(41,.int .i64 u4),(42,.int .i64 p8),(54,.sl false 3 (p8.toNat - 0) (fun i=>Xh (a0.Zq.getD (0+i) default))),(55,.int .i64 ((p8.toNat - 0:Nat):Int)),(56,.int .i64 0)],u7⟩ [decide (0≤p8),decide (p8≤u4)] c44 (XD (s':=⟨110,[(1,.ref 0 0),(6,.ref 1 0),u2,(41,.int .i64 u4),(42,.int .i64 p8),u9,(55,.int .i64 ((p8.toNat - 0:Nat):Int)),(56,.int .i64 0)],u7⟩) (JQ (.cons Sub.rfl (.cons Sub.rfl (.cons Sub.rfl (.cons Sub.rfl (.cons Sub.rfl (.cons (W0 (KN _ _ _ (Zax (c44 _ (List.mem_cons_of_mem _ List.mem_cons_self)))) (KM _ _ _ _)) (.cons Sub.rfl (.cons Sub.rfl .nil)))))))) (.cons .rfl (.cons .rfl .nil))) (Zj ?_))
 obtain ⟨y13,q55,h56⟩:=bind_some h45
 refine zl (fun (p11:Int)=>⟨110,[(1,.ref 0 0),(6,.ref 1 0),u2,(41,.int .i64 u4),(42,.int .i64 p8),u9,(55,.int .i64 ((p8.toNat - 0:Nat):Int)),(56,.int .i64 p11)],u7⟩) (Sum.elim (fun z=>OutE 4 (fun z=>⟨110,[(1,.ref 0 0),u2,(41,.int .i64 u4),(42,.int .i64 p8)],[.box u1]⟩) z) (fun z=>OutR Tryz.prog Tryz.f145 (.int .i64 z))) q55 ?_ ?_
 intro p11 y12 h46
 unfold M.YP at h46
 refine Za (zg [1,6,40,41,42,54,55,56,57] 2 (Zb (Za (cn h46 (fun _ h48=>?_) (fun _ h49=>?_)))))
 refine Ze (Zb (Za (Zj (Za ?_))))
 obtain ⟨c50,h51⟩:=Zy h48
 refine zc [1,6,8,40,41,42,54,55,56] 3 c50 (Zb (Za (zg [1,6,40,41,42,54,55,56,64] 2 (Zb (cn h51 (fun _ h53=>?_) (fun _ h54=>?_))))))
 exact Za (zg [2] 0 (Zb (Zg (ZE (Zh (rr h53 ⟨rfl,er0 _⟩))))))
 exact Ze (XO (Zb (zg [1,6,40,41,42,54,55,56] 2 (rn h54))))
 exact ZX (XC (re h49 ⟨rfl,kc⟩))
 intro e57 s58 o59
 rcases y13 with g14 | y15
 have h60:=XY h56
 obtain ⟨rfl,l62⟩:=o59
 exact Y0 (XO (XD (s':=⟨110,[(1,.ref 0 0),u2,(41,.int .i64 u4),(42,.int .i64 p8)],[.box u1]⟩) (l62) (zg [1,40,41,42] 1 (rn h60))))
 have h61:=XZ h56
 obtain ⟨rfl,n63⟩:=o59
 exact ZE (ZE (Zh (rr h61 ⟨rfl,n63⟩)))
 exact ZX (XC (re h36 ⟨rfl,kq⟩))
 intro e66 s67 o68
 rcases y16 with g17 | y18
 have h69:=XY h65
 refine zi o68 (Za (Za (zg [1,70] 1 (Zb (cn h69 (fun _ h73=>?_) (fun _ h74=>?_))))))
 exact Za (zg [2] 0 (Zb (Zg (Zh (er1 h73)))))
 refine Ze (Zb (Za (Za (zg [1,72,73,74] 1 (Zb (Zj ?_))))))
 obtain ⟨y28,q111,h112⟩:=bind_some h74
 refine zl (fun (p19:Int)=>⟨110,[(1,.ref 0 0),u3,(73,.int .i64 u5),(74,.int .i64 p19)],[.box u1]⟩) (Sum.elim (fun z=>OutE 6 (fun z=>⟨110,[],[]⟩) z) (fun z=>OutR Tryz.prog Tryz.f145 (.int .i64 z))) q111 ?_ ?_
 intro p19 y20 h75
 let u6:List Ob:=[.box u1,.box (Xe (a0.Zn.getD p19.toNat default))]
 let u8:Nat × D:=(97,sL 5 Xe ((a0.Zn.drop 0).take (p19.toNat - 0)))
 unfold M.YS at h75
 refine Za (zg [1,72,73,74,75] 1 (Zb (Za (cn h75 (fun _ h77=>?_) (fun _ h78=>?_)))))
 refine Ze (Zb (Za (Zj (Za ?_))))
 obtain ⟨c79,h80⟩:=Zy h77
 refine zc [1,9,10,72,73,74] 2 c79 (Zb (Za (Za ?_)))
 obtain ⟨r21,q81,h82⟩:=bind_some h80
 obtain ⟨r22,q83,h84⟩:=bind_some h82
 refine zr [1,9,10,72,73,74,88] 2 Zz (rq1 (Uw _ _ q81) (rq2 (fun hg=>Uw _ _ (Xn q83 hg)) rqn)) (Zb (cn h84 (fun _ h86=>?_) (fun _ h87=>?_)))
 exact Za (zg [2] 0 (Zb (Zg (Zh (ZE (Zh (rr h86 ⟨rfl,er0 _⟩)))))))
 refine Ze (Zb (Za (Za (zg [1,9,10,72,73,74,93] 2 (Zb (cn h87 (fun _ h89=>?_) (fun _ h90=>?_)))))))
 exact Za (zg [2] 0 (Zb (Zg (Zh (ZE (Zh (rr h89 ⟨rfl,er0 _⟩)))))))
 refine Ze (Zb (Za ?_))
 obtain ⟨c91,h92⟩:=Zy h90
 refine rgc [1,10,72,73,74,97,98,99] 2 ⟨110,[(1,.ref 0 0),(10,.ref 1 0),u3,(73,.int .i64 u5),(74,.int .i64 p19),(97,.sl false 5 (p19.toNat - 0) (fun i=>Xe (a0.Zn.getD (0+i) default))),(98,.int .i64 ((p19.toNat - 0:Nat):Int)),(99,.int .i64 0)],u6⟩ [decide (0≤p19),decide (p19≤u5)] c91 (XD (s':=⟨110,[(1,.ref 0 0),(10,.ref 1 0),u3,(73,.int .i64 u5),(74,.int .i64 p19),u8,(98,.int .i64 ((p19.toNat - 0:Nat):Int)),(99,.int .i64 0)],u6⟩) (JQ (.cons Sub.rfl (.cons Sub.rfl (.cons Sub.rfl (.cons Sub.rfl (.cons Sub.rfl (.cons (W0 (KN _ _ _ (Zax (c91 _ (List.mem_cons_of_mem _ List.mem_cons_self)))) (KM _ _ _ _)) (.cons Sub.rfl (.cons Sub.rfl .nil)))))))) (.cons .rfl (.cons .rfl .nil))) (Zj ?_))
 obtain ⟨y25,q102,h103⟩:=bind_some h92
 refine zl (fun (p23:Int)=>⟨110,[(1,.ref 0 0),(10,.ref 1 0),u3,(73,.int .i64 u5),(74,.int .i64 p19),u8,(98,.int .i64 ((p19.toNat - 0:Nat):Int)),(99,.int .i64 p23)],u6⟩) (Sum.elim (fun z=>OutE 8 (fun z=>⟨110,[(1,.ref 0 0),u3,(73,.int .i64 u5),(74,.int .i64 p19)],[.box u1]⟩) z) (fun z=>OutR Tryz.prog Tryz.f145 (.int .i64 z))) q102 ?_ ?_
 intro p23 y24 h93
 unfold M.YR at h93
 refine Za (zg [1,10,72,73,74,97,98,99,100] 2 (Zb (Za (cn h93 (fun _ h95=>?_) (fun _ h96=>?_)))))
 refine Ze (Zb (Za (Zj (Za ?_))))
 obtain ⟨c97,h98⟩:=Zy h95
 refine zc [1,10,12,72,73,74,97,98,99] 3 c97 (Zb (Za (zg [1,10,72,73,74,97,98,99,107] 2 (Zb (cn h98 (fun _ h100=>?_) (fun _ h101=>?_))))))
 exact Za (zg [2] 0 (Zb (Zg (ZE (Zh (rr h100 ⟨rfl,er0 _⟩))))))
 exact Ze (XO (Zb (zg [1,10,72,73,74,97,98,99] 2 (rn h101))))
 exact ZX (XC (re h96 ⟨rfl,kc⟩))
 intro e104 s105 o106
 rcases y25 with g26 | y27
 have h107:=XY h103
 obtain ⟨rfl,l109⟩:=o106
 exact Y0 (XO (XD (s':=⟨110,[(1,.ref 0 0),u3,(73,.int .i64 u5),(74,.int .i64 p19)],[.box u1]⟩) (l109) (zg [1,72,73,74] 1 (rn h107))))
 have h108:=XZ h103
 obtain ⟨rfl,n110⟩:=o106
 exact ZE (ZE (Zh (rr h108 ⟨rfl,n110⟩)))
 exact ZX (XC (re h78 ⟨rfl,kc⟩))
 intro e113 s114 o115
 rcases y28 with g29 | y30
 have h116:=XY h112
 exact zi o115 (Za (zg [2] 0 (Zb (Zg (er1 h116)))))
 have h117:=XZ h112
 obtain ⟨rfl,n119⟩:=o115
 refine ZE (Zh ?_)
 obtain rfl:=Option.some.inj h117
 exact n119
 have h70:=XZ h65
 obtain ⟨rfl,n120⟩:=o68
 refine ZE (Zh ?_)
 obtain rfl:=Option.some.inj h70
 exact n120
 have h28:=XZ h23
 obtain ⟨rfl,n121⟩:=o26
 refine ZE (Zh ?_)
 obtain rfl:=Option.some.inj h28
 exact n121
theorem RQ (a0:Zf) (r:Int) (h:M.YT a0=some r):Fn Tryz.prog 84 [.agg (ZB a0)] (.pure (.int .i64 r)):=by
 unfold M.YT at h
 refine ZT Tryz.func84 rfl (by kernel_rfl) (Za (zg [1] 1 (Zb (Za (zg [1,3] 2 (Zb (Za (Za (zg [1,3,10] 2 (Zb (cn h (fun _ h2=>?_) (fun _ h3=>?_))))))))))))
 refine Za (Za (zg [48] 0 (Zb (cn h2 (fun _ h5=>?_) (fun _ h6=>?_)))))
 exact Za (zg [2] 0 (Zb (Zg (Zh (Zh (er1 h5))))))
 exact Ze (Zb (Za (zg [2] 0 (Zb (Zg (Zh (er1 h6)))))))
 refine Ze (Zb (Za (Za ?_)))
 obtain ⟨r1,q7,h8⟩:=bind_some h3
 obtain ⟨r2,q9,h10⟩:=bind_some h8
 refine zr [1,3,63] 2 Zz (rq2 (fun hg=>XU _ _ _ _ (Xn q7 hg)) (rq2 (fun hg=>XU _ _ _ _ (Xn q9 hg)) rqn)) (Zb (cn h10 (fun _ h12=>?_) (fun _ h13=>?_)))
 exact Za (zg [2] 0 (Zb (Zg (Zh (er1 h12)))))
 refine Ze (Zb (Za (Za ?_)))
 obtain ⟨r3,q14,h15⟩:=bind_some h13
 refine zr [1,3,4] 2 Zz (rq1 (Zag _ _ q14) rqn) (Zb (Za (zg [1,3,4,67] 2 (Zb (cn h15 (fun _ h17=>?_) (fun _ h18=>?_))))))
 exact Za (zg [2] 0 (Zb (Zg (Zh (er1 h17)))))
 refine Ze (Zb (Za (Za ?_)))
 obtain ⟨r4,q19,h20⟩:=bind_some h18
 refine zr [1,3,5] 2 Zz (rq1 (Za9 _ _ q19) rqn) (Zb (Za (zg [1,3,5,72] 2 (Zb (cn h20 (fun _ h22=>?_) (fun _ h23=>?_))))))
 exact Za (zg [2] 0 (Zb (Zg (Zh (er1 h22)))))
 refine Ze (Zb (Za ?_))
 obtain ⟨r5,q24,h25⟩:=bind_some h23
 exact zr [2] 0 Zz (rq1 (Gn _ _ _ _ _ _ _ q24) rqn) (Zb (Zg (er1 h25)))
theorem ZbO (a0:Zf) (r:Int) (h:M.Jg a0=some r):Fn Tryz.prog 58 [.agg (ZB a0)] (.pure (.int .i64 r)):=by
 unfold M.Jg at h
 refine ZT Tryz.func58 rfl (by kernel_rfl) (Za (zg [1] 1 (Zb (Za (Za ?_)))))
 obtain ⟨r1,q1,h2⟩:=bind_some h
 refine zr [1,10] 1 Zz (rq1 (ZaD _ _ q1) rqn) (Zb (cn h2 (fun _ h4=>?_) (fun _ h5=>?_)))
 exact Za (zg [2] 0 (Zb (Zg (Zh (er1 h4)))))
 refine Ze (Zb (Za (Za ?_)))
 obtain ⟨r2,q6,h7⟩:=bind_some h5
 refine zr [1,14] 1 Zz (rq1 (XU _ _ _ _ q6) rqn) (Zb (cn h7 (fun _ h9=>?_) (fun _ h10=>?_)))
 exact Za (zg [2] 0 (Zb (Zg (Zh (er1 h9)))))
 refine Ze (Zb (Za (zg [1,3] 1 (Zb (Za (Za (zg [1,16,17,18] 1 (Zb (Zj (ZiR (UF (Za (zg [1,16,17,18,19] 1 (Zb (Za (cnd true (fun _=>(Ze (Zb (Za (Zj (Za ?_)))))) (fun b11=>Bool.noConfusion b11)))))))))))))))))
 obtain ⟨c12,h13⟩:=Zy h10
 refine zc [1,5,16,17,18] 1 c12 (Zb (Za ?_))
 obtain ⟨r3,q14,h15⟩:=bind_some h13
 refine zr [1,6,16,17,18] 1 Zz (rq1 (RP _ _ q14) rqn) (Zb (Za (zg [1,6,16,17,18,26] 1 (Zb (cn h15 (fun _ h17=>?_) (fun _ h18=>?_))))))
 exact Za (rg0 [2] 0 ⟨29,[(2,.int .i64 r3)],[]⟩ (Zb (Zg (ZE (Zh (Kv (ZE (Zh (er1 h17)))))))))
 refine Ze (XO (Zb (zg [1,16,17,18] 1 (Ku (UF (Za (zg [1,16,17,18,19] 1 (Zb (Za (cnd true (fun _=>(Ze (Zb (Za (Zj (Za ?_)))))) (fun b19=>Bool.noConfusion b19)))))))))))
 obtain ⟨c20,h21⟩:=Zy h18
 refine zc [1,5,16,17,18] 1 c20 (Zb (Za ?_))
 obtain ⟨r4,q22,h23⟩:=bind_some h21
 refine zr [1,6,16,17,18] 1 Zz (rq1 (Rm _ _ q22) rqn) (Zb (Za (zg [1,6,16,17,18,26] 1 (Zb (cn h23 (fun _ h25=>?_) (fun _ h26=>?_))))))
 exact Za (rg0 [2] 0 ⟨29,[(2,.int .i64 r4)],[]⟩ (Zb (Zg (ZE (Zh (Kv (ZE (Zh (er1 h25)))))))))
 refine Ze (XO (Zb (zg [1,16,17,18] 1 (Ku (UF (Za (zg [1,16,17,18,19] 1 (Zb (Za (cnd true (fun _=>(Ze (Zb (Za (Zj (Za ?_)))))) (fun b27=>Bool.noConfusion b27)))))))))))
 obtain ⟨c28,h29⟩:=Zy h26
 refine zc [1,5,16,17,18] 1 c28 (Zb (Za ?_))
 obtain ⟨r5,q30,h31⟩:=bind_some h29
 refine zr [1,6,16,17,18] 1 Zz (rq1 (Zad _ _ q30) rqn) (Zb (Za (zg [1,6,16,17,18,26] 1 (Zb (cn h31 (fun _ h33=>?_) (fun _ h34=>?_))))))
 exact Za (rg0 [2] 0 ⟨29,[(2,.int .i64 r5)],[]⟩ (Zb (Zg (ZE (Zh (Kv (ZE (Zh (er1 h33)))))))))
 refine Ze (XO (Zb (zg [1,16,17,18] 1 (Ku (UF (Za (zg [1,16,17,18,19] 1 (Zb (Za (cnd true (fun _=>(Ze (Zb (Za (Zj (Za ?_)))))) (fun b35=>Bool.noConfusion b35)))))))))))
 obtain ⟨c36,h37⟩:=Zy h34
 refine zc [1,5,16,17,18] 1 c36 (Zb (Za ?_))
 obtain ⟨r6,q38,h39⟩:=bind_some h37
 refine zr [1,6,16,17,18] 1 Zz (rq1 (Zdi _ _ q38) rqn) (Zb (Za (zg [1,6,16,17,18,26] 1 (Zb (cn h39 (fun _ h41=>?_) (fun _ h42=>?_))))))
 exact Za (rg0 [2] 0 ⟨29,[(2,.int .i64 r6)],[]⟩ (Zb (Zg (ZE (Zh (Kv (ZE (Zh (er1 h41)))))))))
 refine Ze (XO (Zb (zg [1,16,17,18] 1 (Ku (UF (Za (zg [1,16,17,18,19] 1 (Zb (Za (cnd true (fun _=>(Ze (Zb (Za (Zj (Za ?_)))))) (fun b43=>Bool.noConfusion b43)))))))))))
 obtain ⟨c44,h45⟩:=Zy h42
 refine zc [1,5,16,17,18] 1 c44 (Zb (Za ?_))
 obtain ⟨r7,q46,h47⟩:=bind_some h45
 refine zr [1,6,16,17,18] 1 Zz (rq1 (ZdW _ _ q46) rqn) (Zb (Za (zg [1,6,16,17,18,26] 1 (Zb (cn h47 (fun _ h49=>?_) (fun _ h50=>?_))))))
 exact Za (rg0 [2] 0 ⟨29,[(2,.int .i64 r7)],[]⟩ (Zb (Zg (ZE (Zh (Kv (ZE (Zh (er1 h49)))))))))
 refine Ze (XO (Zb (zg [1,16,17,18] 1 (Ku (UF (Za (zg [1,16,17,18,19] 1 (Zb (Za (cnd true (fun _=>(Ze (Zb (Za (Zj (Za ?_)))))) (fun b51=>Bool.noConfusion b51)))))))))))
 obtain ⟨c52,h53⟩:=Zy h50
 refine zc [1,5,16,17,18] 1 c52 (Zb (Za ?_))
 obtain ⟨r8,q54,h55⟩:=bind_some h53
 refine zr [1,6,16,17,18] 1 Zz (rq1 (Za7 _ _ q54) rqn) (Zb (Za (zg [1,6,16,17,18,26] 1 (Zb (cn h55 (fun _ h57=>?_) (fun _ h58=>?_))))))
 exact Za (rg0 [2] 0 ⟨29,[(2,.int .i64 r8)],[]⟩ (Zb (Zg (ZE (Zh (Kv (ZE (Zh (er1 h57)))))))))
 refine Ze (XO (Zb (zg [1,16,17,18] 1 (Ku (UF (Za (zg [1,16,17,18,19] 1 (Zb (Za (cnd true (fun _=>(Ze (Zb (Za (Zj (Za ?_)))))) (fun b59=>Bool.noConfusion b59)))))))))))
 obtain ⟨c60,h61⟩:=Zy h58
 refine zc [1,5,16,17,18] 1 c60 (Zb (Za ?_))
 obtain ⟨r9,q62,h63⟩:=bind_some h61
 refine zr [1,6,16,17,18] 1 Zz (rq1 (Za8 _ _ q62) rqn) (Zb (Za (zg [1,6,16,17,18,26] 1 (Zb (cn h63 (fun _ h65=>?_) (fun _ h66=>?_))))))
 exact Za (rg0 [2] 0 ⟨29,[(2,.int .i64 r9)],[]⟩ (Zb (Zg (ZE (Zh (Kv (ZE (Zh (er1 h65)))))))))
 refine Ze (XO (Zb (zg [1,16,17,18] 1 (Ku (UF (Za (zg [1,16,17,18,19] 1 (Zb (Za (cnd true (fun _=>(Ze (Zb (Za (Zj (Za ?_)))))) (fun b67=>Bool.noConfusion b67)))))))))))
 obtain ⟨c68,h69⟩:=Zy h66
 refine zc [1,5,16,17,18] 1 c68 (Zb (Za ?_))
 obtain ⟨r10,q70,h71⟩:=bind_some h69
 refine zr [1,6,16,17,18] 1 Zz (rq1 (Zaf _ _ q70) rqn) (Zb (Za (zg [1,6,16,17,18,26] 1 (Zb (cn h71 (fun _ h73=>?_) (fun _ h74=>?_))))))
 exact Za (rg0 [2] 0 ⟨29,[(2,.int .i64 r10)],[]⟩ (Zb (Zg (ZE (Zh (Kv (ZE (Zh (er1 h73)))))))))
 refine Ze (XO (Zb (zg [1,16,17,18] 1 (Ku (UF (Za (zg [1,16,17,18,19] 1 (Zb (Za (cnd true (fun _=>(Ze (Zb (Za (Zj (Za ?_)))))) (fun b75=>Bool.noConfusion b75)))))))))))
 obtain ⟨c76,h77⟩:=Zy h74
 refine zc [1,5,16,17,18] 1 c76 (Zb (Za ?_))
 obtain ⟨r11,q78,h79⟩:=bind_some h77
 refine zr [1,6,16,17,18] 1 Zz (rq1 (KE _ _ q78) rqn) (Zb (Za (zg [1,6,16,17,18,26] 1 (Zb (cn h79 (fun _ h81=>?_) (fun _ h82=>?_))))))
 exact Za (rg0 [2] 0 ⟨29,[(2,.int .i64 r11)],[]⟩ (Zb (Zg (ZE (Zh (Kv (ZE (Zh (er1 h81)))))))))
 refine Ze (XO (Zb (zg [1,16,17,18] 1 (Ku (UF (Za (zg [1,16,17,18,19] 1 (Zb (Za (cnd true (fun _=>(Ze (Zb (Za (Zj (Za ?_)))))) (fun b83=>Bool.noConfusion b83)))))))))))
 obtain ⟨c84,h85⟩:=Zy h82
 refine zc [1,5,16,17,18] 1 c84 (Zb (Za ?_))
 obtain ⟨r12,q86,h87⟩:=bind_some h85
 refine zr [1,6,16,17,18] 1 Zz (rq1 (RQ _ _ q86) rqn) (Zb (Za (zg [1,6,16,17,18,26] 1 (Zb (cn h87 (fun _ h89=>?_) (fun _ h90=>?_))))))
 exact Za (rg0 [2] 0 ⟨29,[(2,.int .i64 r12)],[]⟩ (Zb (Zg (ZE (Zh (Kv (ZE (Zh (er1 h89)))))))))
 exact Ze (XO (Zb (zg [1,16,17,18] 1 (Ku (UF (Za (zg [1,16,17,18,19] 1 (Zb (Za (cnd false (fun b91=>Bool.noConfusion b91) (fun _=>(ZX (XC (Zmd (Y0 (Zb (Za (zg [2] 0 (Zb (Zg (er1 h90)))))))))))))))))))))
theorem Zah (a0:Zx) (b0:Zf) (r:Bool) (h:M.Qe a0 b0=some r):Fn Tryz.prog 86 [.agg (Zm a0),.pp (ZB b0)] (.pure (.bool r)):=by
 unfold M.Qe at h
 refine ZT Tryz.func86 rfl (by kernel_rfl) (Za (zg [1,2] 1 (Zb (Za ?_))))
 obtain ⟨r1,q1,h2⟩:=bind_some h
 exact zr [3] 0 Zz (rq2 (fun hg=>Zae _ _ _ (Xn q1 hg)) rqn) (Zb (Zg (er1 h2)))
theorem VD (a0:List Zx) (a1c0:Zf) (r:Int) (h:M.ZR a0 a1c0=some r):Fn Tryz.prog 146 [sL 12 Zm a0,.fn 86 [.pp (ZB a1c0)]] (.pure (.int .i64 r)):=by
 unfold M.ZR at h
 refine ZT Tryz.func146 rfl (by kernel_rfl) (Za (zg [0,1] 0 (Zb (Za (Za (zg [0,1,7,8] 0 (Zb (Zj ?_))))))))
 obtain ⟨y4,q12,h13⟩:=bind_some h
 refine zl (fun (p1:Int)=>⟨19,[(0,sL 12 Zm a0),(1,.fn 86 [.pp (ZB a1c0)]),(7,.int .i64 (a0.length:Int)),(8,.int .i64 p1)],[]⟩) (Sum.elim (fun z=>OutE 0 (fun z=>⟨19,[],[]⟩) z) (fun z=>OutR Tryz.prog Tryz.f146 (.int .i64 z))) q12 ?_ ?_
 intro p1 y2 h1
 unfold M.ZK at h1
 refine Za (zg [0,1,7,8,9] 0 (Zb (Za (cn h1 (fun _ h3=>?_) (fun _ h4=>?_)))))
 refine Ze (Zb (Za (Zj (Za (zg [0,1,5,7,8] 0 (Zb (Za ?_)))))))
 obtain ⟨r3,q5,h6⟩:=bind_some h3
 obtain ⟨c7,h8⟩:=Zy h6
 refine zr [0,1,5,7,8,16] 0 c7 (rq1 (Zah _ _ _ q5) rqn) (Zb (cn h8 (fun _ h10=>?_) (fun _ h11=>?_)))
 exact Za (zg [4] 0 (Zb (Zg (ZE (Zh (rr h10 ⟨rfl,er0 _⟩))))))
 exact Ze (XO (Zb (zg [0,1,7,8] 0 (rn h11))))
 exact ZX (XC (re h4 ⟨rfl,kq⟩))
 intro e14 s15 o16
 rcases y4 with g5 | y6
 have h17:=XY h13
 exact zi o16 (Za (zg [4] 0 (Zb (Zg (er1 h17)))))
 have h18:=XZ h13
 obtain ⟨rfl,n20⟩:=o16
 refine ZE (Zh ?_)
 obtain rfl:=Option.some.inj h18
 exact n20
theorem Vq (a0:List Zx) (a1c0:Zf) (r:Bool) (h:M.ZL a0 a1c0=some r):Fn Tryz.prog 85 [sL 12 Zm a0,.fn 86 [.pp (ZB a1c0)]] (.pure (.bool r)):=by
 unfold M.ZL at h
 refine ZT Tryz.func85 rfl (by kernel_rfl) (Za (zg [0,1] 0 (Zb (Za ?_))))
 obtain ⟨r1,q1,h2⟩:=bind_some h
 exact zr [4] 0 Zz (rq1 (VD _ _ _ q1) rqn) (Zb (Zg (er1 h2)))
theorem Zba (a0:Zf) (a1:Zf) (r:Bool) (h:M.Jn a0 a1=some r):Fn Tryz.prog 59 [.agg (ZB a0),.agg (ZB a1)] (.pure (.bool r)):=by
 unfold M.Jn at h
 refine ZT Tryz.func59 rfl (by kernel_rfl) (Za (zg [2,3] 2 (Zb (Za ?_))))
 obtain ⟨r1,q1,h2⟩:=bind_some h
 exact zr [4] 0 Zz (rq1 (Vq _ _ _ q1) rqn) (Zb (Zg (er1 h2)))
theorem Zgb (a0:ZP) (r:Int) (h:M.QS a0=some r):Fn Tryz.prog 37 [.agg (Yn a0)] (.pure (.int .i64 r)):=by
 let u1:Nat × D:=(13,sL 25 ZB a0.Zd)
 let u3:=(a0.Zd.length:Int)
 let u5:=Yn a0
 unfold M.QS at h
 refine ZT Tryz.func37 rfl (by kernel_rfl) (Za (zg [1] 1 (Zb (Za (Za (zg [1,11] 1 (Zb (cn h (fun _ h2=>?_) (fun _ h3=>?_)))))))))
 exact Za (zg [2] 0 (Zb (Zg (Zh (er1 h2)))))
 refine Ze (Zb (Za (Za (zg [1,13,14,15] 1 (Zb (Zj ?_))))))
 obtain ⟨y10,q37,h38⟩:=bind_some h3
 refine zl (fun (p1:Int)=>⟨46,[(1,.ref 0 0),u1,(14,.int .i64 u3),(15,.int .i64 p1)],[.box u5]⟩) (Sum.elim (fun z=>OutE 0 (fun z=>⟨46,[],[]⟩) z) (fun z=>OutR Tryz.prog Tryz.f37 (.int .i64 z))) q37 ?_ ?_
 intro p1 y2 h4
 let u2:List Ob:=[.box u5,.box (ZB (a0.Zd.getD p1.toNat default))]
 let u4:Nat × D:=(28,sL 25 ZB ((a0.Zd.drop 0).take (p1.toNat - 0)))
 unfold M.VN at h4
 refine Za (zg [1,13,14,15,16] 1 (Zb (Za (cn h4 (fun _ h6=>?_) (fun _ h7=>?_)))))
 refine Ze (Zb (Za (Zj (Za ?_))))
 obtain ⟨c8,h9⟩:=Zy h6
 refine zc [1,3,4,13,14,15] 2 c8 (Zb (Za (Za ?_)))
 obtain ⟨r3,q10,h11⟩:=bind_some h9
 refine zr [1,3,4,5,13,14,15] 2 Zz (rq1 (ZbO _ _ q10) rqn) (Zb (Za (zg [1,3,4,5,13,14,15,23] 2 (Zb (cn h11 (fun _ h13=>?_) (fun _ h14=>?_))))))
 exact Za (zg [2] 0 (Zb (Zg (Zh (ZE (Zh (rr h13 ⟨rfl,er0 _⟩)))))))
 refine Ze (Zb (Za ?_))
 obtain ⟨c15,h16⟩:=Zy h14
 refine rgc [1,4,13,14,15,28,29,30] 2 ⟨46,[(1,.ref 0 0),(4,.ref 1 0),u1,(14,.int .i64 u3),(15,.int .i64 p1),(28,.sl false 25 (p1.toNat - 0) (fun i=>ZB (a0.Zd.getD (0+i) default))),(29,.int .i64 ((p1.toNat - 0:Nat):Int)),(30,.int .i64 0)],u2⟩ [decide (0≤p1),decide (p1≤u3)] c15 (XD (s':=⟨46,[(1,.ref 0 0),(4,.ref 1 0),u1,(14,.int .i64 u3),(15,.int .i64 p1),u4,(29,.int .i64 ((p1.toNat - 0:Nat):Int)),(30,.int .i64 0)],u2⟩) (JQ (.cons Sub.rfl (.cons Sub.rfl (.cons Sub.rfl (.cons Sub.rfl (.cons Sub.rfl (.cons (W0 (KN _ _ _ (Zax (c15 _ (List.mem_cons_of_mem _ List.mem_cons_self)))) (KM _ _ _ _)) (.cons Sub.rfl (.cons Sub.rfl .nil)))))))) (.cons .rfl (.cons .rfl .nil))) (Zj ?_))
 obtain ⟨y7,q28,h29⟩:=bind_some h16
 refine zl (fun (p4:Int)=>⟨46,[(1,.ref 0 0),(4,.ref 1 0),u1,(14,.int .i64 u3),(15,.int .i64 p1),u4,(29,.int .i64 ((p1.toNat - 0:Nat):Int)),(30,.int .i64 p4)],u2⟩) (Sum.elim (fun z=>OutE 2 (fun z=>⟨46,[(1,.ref 0 0),u1,(14,.int .i64 u3),(15,.int .i64 p1)],[.box u5]⟩) z) (fun z=>OutR Tryz.prog Tryz.f37 (.int .i64 z))) q28 ?_ ?_
 intro p4 y5 h17
 unfold M.Vg at h17
 refine Za (zg [1,4,13,14,15,28,29,30,31] 2 (Zb (Za (cn h17 (fun _ h19=>?_) (fun _ h20=>?_)))))
 refine Ze (Zb (Za (Zj (Za ?_))))
 obtain ⟨c21,h22⟩:=Zy h19
 refine zc [1,4,7,13,14,15,28,29,30] 3 c21 (Zb (Za ?_))
 obtain ⟨r6,q23,h24⟩:=bind_some h22
 refine zr [1,4,13,14,15,28,29,30,43] 2 Zz (rq2 (fun hg=>Zba _ _ _ (Xn q23 hg)) rqn) (Zb (cn h24 (fun _ h26=>?_) (fun _ h27=>?_)))
 exact Za (zg [2] 0 (Zb (Zg (ZE (Zh (rr h26 ⟨rfl,er0 _⟩))))))
 exact Ze (XO (Zb (zg [1,4,13,14,15,28,29,30] 2 (rn h27))))
 exact ZX (XC (re h20 ⟨rfl,kc⟩))
 intro e30 s31 o32
 rcases y7 with g8 | y9
 have h33:=XY h29
 obtain ⟨rfl,l35⟩:=o32
 exact Y0 (XO (XD (s':=⟨46,[(1,.ref 0 0),u1,(14,.int .i64 u3),(15,.int .i64 p1)],[.box u5]⟩) (l35) (zg [1,13,14,15] 1 (rn h33))))
 have h34:=XZ h29
 obtain ⟨rfl,n36⟩:=o32
 exact ZE (ZE (Zh (rr h34 ⟨rfl,n36⟩)))
 exact ZX (XC (re h7 ⟨rfl,kc⟩))
 intro e39 s40 o41
 rcases y10 with g11 | y12
 have h42:=XY h38
 exact zi o41 (Za (zg [2] 0 (Zb (Zg (er1 h42)))))
 have h43:=XZ h38
 obtain ⟨rfl,n45⟩:=o41
 refine ZE (Zh ?_)
 obtain rfl:=Option.some.inj h43
 exact n45
end Nv
