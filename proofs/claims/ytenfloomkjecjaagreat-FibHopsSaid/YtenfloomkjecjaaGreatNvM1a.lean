/- The walks: each function computes its mirror. -/
import Derived.Test.YtenfloomkjecjaaGreatProg
import Derived.Test.YtenfloomkjecjaaGreatNvD1
import Derived.Test.YtenfloomkjecjaaGreatNvLibC
import Derived.Test.YtenfloomkjecjaaGreatNvLibB
import Derived.KernelRfl
import Derived.Ground.SlsfProg
import Derived.Shelf.Lay
import Derived.Test.YtenfloomkjecjaaGreatNvLibD
set_option maxRecDepth 100000
namespace Nv
open Go Go.Proofs
theorem Zgf (a0 : Zh) (r : Bool) (h : M.V3 a0 = some r) : Fn Tryz.prog 54 [.agg (Zs a0)] (.pure (.bool r)) := by
 let u1 : List Ob := [.box (Zs a0)]
 let u2 : St := ⟨141,[(1,.ref 0 0)],u1⟩
 unfold M.V3 at h
 refine ZE Tryz.func54 rfl (by kernel_rfl) (Za (zg [1] 1 (Zb (Za (Za (zg [1,95] 1 (Zb (cn h (fun _ h2 => ?_) (fun _ h3 => ?_)))))))))
 exact Za (zg [2] 0 (Zb (Zf (Zk (er1 h2)))))
 refine Zd (Zb (Za (Za (zg [1,3] 1 (Zb (Zg ?_))))))
 obtain ⟨y3,q13,h14⟩ := bind_some h3
 refine zl (fun (p1 : Int) => ⟨141,[(1,.ref 0 0),(3,.int .i64 p1)],u1⟩) (Sum.elim (fun z => OutE 0 (fun z => u2) z) (fun z => OutR Tryz.prog Tryz.f54 (.bool z))) q13 ?_ ?_
 intro p1 y2 h4
 unfold M.V7 at h4
 refine Za (Za (zg [1,3,100] 1 (Zb (cn h4 (fun _ h6 => ?_) (fun _ h7 => ?_)))))
 refine Zd (Zb (Za (Zg (Za ?_))))
 obtain ⟨c8,h9⟩ := Zq h6
 refine zc [1,3,110] 1 c8 (Zb (cn h9 (fun _ h11 => ?_) (fun _ h12 => ?_)))
 exact Za (zg [2] 0 (Zb (Zf (ZQ (Zk (rr h11 ⟨rfl,er0 _⟩))))))
 exact Zd (XO (Zb (zg [1,3] 1 (rn h12))))
 exact ZF (Xl (re h7 ⟨rfl,kq⟩))
 intro e15 s16 o17
 rcases y3 with g4 | y5
 have h18 := Ya h14
 refine zi o17 (Za (Za (zg [1,4] 1 (Zb (Zg ?_)))))
 obtain ⟨y8,q30,h31⟩ := bind_some h18
 refine zl (fun (p6 : Int) => ⟨141,[(1,.ref 0 0),(4,.int .i64 p6)],u1⟩) (Sum.elim (fun z => OutE 2 (fun z => u2) z) (fun z => OutR Tryz.prog Tryz.f54 (.bool z))) q30 ?_ ?_
 intro p6 y7 h21
 unfold M.V8 at h21
 refine Za (Za (zg [1,4,115] 1 (Zb (cn h21 (fun _ h23 => ?_) (fun _ h24 => ?_)))))
 refine Zd (Zb (Za (Zg (Za ?_))))
 obtain ⟨c25,h26⟩ := Zq h23
 refine zc [1,4,125] 1 c25 (Zb (cn h26 (fun _ h28 => ?_) (fun _ h29 => ?_)))
 exact Za (zg [2] 0 (Zb (Zf (ZQ (Zk (rr h28 ⟨rfl,er0 _⟩))))))
 exact Zd (XO (Zb (zg [1,4] 1 (rn h29))))
 exact ZF (Xl (re h24 ⟨rfl,kq⟩))
 intro e32 s33 o34
 rcases y8 with g9 | y10
 have h35 := Ya h31
 refine zi o34 (Za (Za (zg [1,5] 1 (Zb (Zg ?_)))))
 obtain ⟨y13,q47,h48⟩ := bind_some h35
 refine zl (fun (p11 : Int) => ⟨141,[(1,.ref 0 0),(5,.int .i64 p11)],u1⟩) (Sum.elim (fun z => OutE 4 (fun z => ⟨141,[],[]⟩) z) (fun z => OutR Tryz.prog Tryz.f54 (.bool z))) q47 ?_ ?_
 intro p11 y12 h38
 unfold M.V9 at h38
 refine Za (Za (zg [1,5,130] 1 (Zb (cn h38 (fun _ h40 => ?_) (fun _ h41 => ?_)))))
 refine Zd (Zb (Za (Zg (Za ?_))))
 obtain ⟨c42,h43⟩ := Zq h40
 refine zc [1,5,140] 1 c42 (Zb (cn h43 (fun _ h45 => ?_) (fun _ h46 => ?_)))
 exact Za (zg [2] 0 (Zb (Zf (ZQ (Zk (rr h45 ⟨rfl,er0 _⟩))))))
 exact Zd (XO (Zb (zg [1,5] 1 (rn h46))))
 exact ZF (Xl (re h41 ⟨rfl,kc⟩))
 intro e49 s50 o51
 rcases y13 with g14 | y15
 have h52 := Ya h48
 exact zi o51 (Za (zg [2] 0 (Zb (Zf (er1 h52)))))
 have h53 := Yb h48
 obtain ⟨rfl,n55⟩ := o51
 refine ZQ (Zk ?_)
 obtain rfl := Option.some.inj h53
 exact n55
 have h36 := Yb h31
 obtain ⟨rfl,n56⟩ := o34
 refine ZQ (Zk ?_)
 obtain rfl := Option.some.inj h36
 exact n56
 have h19 := Yb h14
 obtain ⟨rfl,n57⟩ := o17
 refine ZQ (Zk ?_)
 obtain rfl := Option.some.inj h19
 exact n57
theorem ZfS (a0 : ZG) (r : Bool) (h : M.Vr a0 = some r) : Fn Tryz.prog 26 [.agg (X6 a0)] (.pure (.bool r)) := by
 unfold M.Vr at h
 refine ZE Tryz.func26 rfl (by kernel_rfl) (Za (zg [1] 1 (Zb (Za (Za (zg [1,7] 1 (Zb (cn h (fun _ h2 => ?_) (fun _ h3 => ?_)))))))))
 exact Za (zg [2] 0 (Zb (Zf (Zk (er1 h2)))))
 refine Zd (Zb (Za (Za (zg [1,3] 1 (Zb (Zg ?_))))))
 obtain ⟨y4,q15,h16⟩ := bind_some h3
 refine zl (fun (p1 : Int) => ⟨22,[(1,.ref 0 0),(3,.int .i64 p1)],[.box (X6 a0)]⟩) (Sum.elim (fun z => OutE 0 (fun z => ⟨22,[],[]⟩) z) (fun z => OutR Tryz.prog Tryz.f26 (.bool z))) q15 ?_ ?_
 intro p1 y2 h4
 unfold M.QJ at h4
 refine Za (Za (zg [1,3,12] 1 (Zb (cn h4 (fun _ h6 => ?_) (fun _ h7 => ?_)))))
 refine Zd (Zb (Za (Zg (Za ?_))))
 obtain ⟨r3,q8,h9⟩ := bind_some h6
 obtain ⟨c10,h11⟩ := Zq h9
 refine zr [1,3,21] 1 c10 (rq1 (Zgf _ _ q8) rqn) (Zb (cn h11 (fun _ h13 => ?_) (fun _ h14 => ?_)))
 exact Za (zg [2] 0 (Zb (Zf (ZQ (Zk (rr h13 ⟨rfl,er0 _⟩))))))
 exact Zd (XO (Zb (zg [1,3] 1 (rn h14))))
 exact ZF (Xl (re h7 ⟨rfl,kc⟩))
 intro e17 s18 o19
 rcases y4 with g5 | y6
 have h20 := Ya h16
 exact zi o19 (Za (zg [2] 0 (Zb (Zf (er1 h20)))))
 have h21 := Yb h16
 obtain ⟨rfl,n23⟩ := o19
 refine ZQ (Zk ?_)
 obtain rfl := Option.some.inj h21
 exact n23
theorem ZaR (a0 : Int) (r : Bool) (h : M.Wf a0 = some r) : Fn Tryz.prog 221 [.int .u8 a0] (.pure (.bool r)) := by
 unfold M.Wf at h
 exact ZE Tryz.func221 rfl (by kernel_rfl) (Za (zg [0] 0 (Zb (Za (zg [2] 0 (Zb (Zf (er1 h))))))))
theorem GN (a0 : ByteArray) (r : Bool) (h : M.Jq a0 = some r) : Fn Tryz.prog 160 [.str a0] (.pure (.bool r)) := by
 unfold M.Jq at h
 refine ZE Tryz.func160 rfl (by kernel_rfl) (Za (zg [0] 0 (Zb (Za (Za ?_)))))
 obtain ⟨r1,q1,h2⟩ := bind_some h
 obtain ⟨c3,h4⟩ := Zq h2
 refine zr [0,18] 0 c3 (rq2 (fun hg => ZaR _ _ (Xg q1 hg)) rqn) (Zb (cn h4 (fun _ h6 => ?_) (fun _ h7 => ?_)))
 exact Za (zg [2] 0 (Zb (Zf (Zk (er1 h6)))))
 refine Zd (Zb (Za (Za (zg [0,3] 0 (Zb (Zg ?_))))))
 obtain ⟨y5,q19,h20⟩ := bind_some h7
 refine zl (fun (p2 : Int) => ⟨56,[(0,.str a0),(3,.int .i64 p2)],[]⟩) (Sum.elim (fun z => OutE 0 (fun z => ⟨56,[],[]⟩) z) (fun z => OutR Tryz.prog Tryz.f160 (.bool z))) q19 ?_ ?_
 intro p2 y3 h8
 unfold M.Wx at h8
 refine Za (Za (zg [0,3,22] 0 (Zb (cn h8 (fun _ h10 => ?_) (fun _ h11 => ?_)))))
 refine Zd (Zb (Za (Zg (Za ?_))))
 obtain ⟨c12,h13⟩ := Zq h10
 refine zc [0,3,4] 0 c12 (Zb (Za ?_))
 obtain ⟨r4,q14,h15⟩ := bind_some h13
 refine zr [0,3,55] 0 Zt (rq1 (ZaR _ _ q14) rqn) (Zb (cn h15 (fun _ h17 => ?_) (fun _ h18 => ?_)))
 exact Za (zg [2] 0 (Zb (Zf (ZQ (Zk (rr h17 ⟨rfl,er0 _⟩))))))
 exact Zd (XO (Zb (zg [0,3] 0 (rn h18))))
 exact ZF (Xl (re h11 ⟨rfl,kq⟩))
 intro e21 s22 o23
 rcases y5 with g6 | y7
 have h24 := Ya h20
 exact zi o23 (Za (zg [2] 0 (Zb (Zf (er1 h24)))))
 have h25 := Yb h20
 obtain ⟨rfl,n27⟩ := o23
 refine ZQ (Zk ?_)
 obtain rfl := Option.some.inj h25
 exact n27
theorem XW (a0 : Int) (a1 : Int) (a2 : Int) (r : Bool) (h : M.ZN a0 a1 a2 = some r) : Fn Tryz.prog 161 [.int .i64 a0,.int .i64 a1,.int .i64 a2] (.pure (.bool r)) := by
 unfold M.ZN at h
 exact ZE Tryz.func161 rfl (by kernel_rfl) (Za (zg [0,1,2] 0 (Zb (Za (zg [6] 0 (Zb (Zf (er1 h))))))))
theorem RO (a0 : Int) (r : Int) (h : M.JQ a0 = some r) : Fn Tryz.prog 78 [.int .i64 a0] (.pure (.int .u32 r)) := by
 unfold M.JQ at h
 refine ZE Tryz.func78 rfl (by kernel_rfl) (Za (zg [0] 0 (Zb (Za (zg [0,3] 0 (Zb (Za (Za (zg [0,3,4] 0 (Zb (Zg ?_)))))))))))
 obtain ⟨y4,q12,h13⟩ := bind_some h
 refine zl (fun (p1 : Int × Int) => ⟨19,[(0,.int .i64 a0),(3,.int .u32 p1.1),(4,.int .i64 p1.2)],[]⟩) (fun z => OutE 0 (fun z => ⟨19,[(3,.int .u32 z)],[]⟩) z) q12 ?_ ?_
 intro p1 y2 h1
 unfold M.UC at h1
 refine Za (Za (rg0 [0,3,4,6] 0 ⟨19,[(0,.int .i64 a0),(3,.int .u32 p1.1),(4,.int .i64 p1.2),(6,.bool (decide (p1.2 < 32)))],[]⟩ (Zb (cn h1 (fun _ h3 => ?_) (fun _ h4 => ?_)))))
 refine Zd (Zb (Vo (fun (p3 : Int) => ⟨19,[(0,.int .i64 a0),(3,.int .u32 p3),(4,.int .i64 p1.2)],[]⟩) (fun p3 => M.GJ p1 p3 = some y2) ?_ ?_))
 intro p3 h6
 unfold M.GJ at h6
 exact zg [0,3,4] 0 (rn h6)
 intro k5
 refine Zg (Za (zg [0,3,4,11] 0 (Zb (cn h3 (fun _ h8 => ?_) (fun _ h9 => ?_)))))
 obtain ⟨c10,h11⟩ := Zq h8
 exact zc [0,3,4] 0 c10 (XO (Xb lk (k5 (bitD .or .u32 p1.1 (wr .u32 (1 * 2 ^ min (wr .u64 (wr .i64 (31 - p1.2))).toNat 32))) h11)))
 exact Zd (XO (Xb kq (k5 p1.1 h9)))
 exact ZF (Xl (re h4 ⟨rfl,kq⟩))
 intro e14 s15 o16
 exact zi o16 (Za (zg [2] 0 (Zb (Zf (er1 h13)))))
theorem Ki (a0 : Int) (a1 : Int) (r : ZM) (h : M.QT a0 a1 = some r) : Fn Tryz.prog 84 [.int .u32 a0,.int .i64 a1] (.pure (.agg (Xf r))) := by
 unfold M.QT at h
 refine ZE Tryz.func84 rfl (by kernel_rfl) (Za (zg [0,1,4] 1 (Zb (Za (zg [0,1,4] 1 (Zb (Za ?_)))))))
 obtain ⟨r1,q1,h2⟩ := bind_some h
 refine zr [4] 1 Zt (rq1 (RO _ _ q1) rqn) (Zb (Zf ?_))
 obtain rfl := Option.some.inj h2
 exact er0 (.agg [.int .u32 (bitD .and .u32 a0 r1),.int .i64 (if 0 > (if 32 < a1 then 32 else a1) then 0 else (if 32 < a1 then 32 else a1))])
theorem ZdY (a0 : ZM) (a1 : Int) (r : Bool) (h : M.VC a0 a1 = some r) : Fn Tryz.prog 46 [.agg (Xf a0),.int .u32 a1] (.pure (.bool r)) := by
 unfold M.VC at h
 refine ZE Tryz.func46 rfl (by kernel_rfl) (Za (zg [1,2] 1 (Zb (Za ?_))))
 obtain ⟨r1,q1,h2⟩ := bind_some h
 exact zr [4] 0 Zt (rq1 (RO _ _ q1) rqn) (Zb (Zf (er1 h2)))
theorem ZaS (a0 : ZM) (a1 : ZM) (r : Bool) (h : M.Vt a0 a1 = some r) : Fn Tryz.prog 53 [.agg (Xf a0),.agg (Xf a1)] (.pure (.bool r)) := by
 unfold M.Vt at h
 refine ZE Tryz.func53 rfl (by kernel_rfl) (Za (zg [2,3] 2 (Zb (Za ?_))))
 obtain ⟨r1,q1,h2⟩ := bind_some h
 exact zr [4] 0 Zt (rq2 (fun hg => ZdY _ _ _ (Xg q1 hg)) rqn) (Zb (Zf (er1 h2)))
theorem Rn (a0 : ZM) (a1 : ZM) (r : Bool) (h : M.QN a0 a1 = some r) : Fn Tryz.prog 222 [.agg (Xf a0),.agg (Xf a1)] (.pure (.bool r)) := by
 unfold M.QN at h
 refine ZE Tryz.func222 rfl (by kernel_rfl) (Za (zg [2,3] 2 (Zb (Za ?_))))
 obtain ⟨r1,q1,h2⟩ := bind_some h
 obtain ⟨r2,q3,h4⟩ := bind_some h2
 exact zr [4] 0 Zt (rq1 (ZaS _ _ _ q1) (rq2 (fun hg => ZaS _ _ _ (Xg q3 hg)) rqn)) (Zb (Zf (er1 h4)))
theorem Zcl (a0 : List ZA) (r : Int) (h : M.Yo a0 = some r) : Fn Tryz.prog 162 [sL 12 Zj a0] (.pure (.int .i64 r)) := by
 let u1 : Nat × D := (0,sL 12 Zj a0)
 unfold M.Yo at h
 refine ZE Tryz.func162 rfl (by kernel_rfl) (Za (zg [0] 0 (Zb (Za (Za (zg [0,9] 0 (Zb (cn h (fun _ h2 => ?_) (fun _ h3 => ?_)))))))))
 exact Za (zg [2] 0 (Zb (Zf (Zk (er1 h2)))))
 refine Zd (Zb (Za (Za (zg [0,3] 0 (Zb (Zg ?_))))))
 obtain ⟨y22,q76,h77⟩ := bind_some h3
 refine zl (fun (p1 : Int) => ⟨163,[u1,(3,.int .i64 p1)],[]⟩) (Sum.elim (fun z => OutE 0 (fun z => ⟨163,[],[]⟩) z) (fun z => OutR Tryz.prog Tryz.f162 (.int .i64 z))) q76 ?_ ?_
 intro p1 y2 h4
 let u2 : List Ob := [.box (Zj (a0.getD p1.toNat default))]
 unfold M.YE at h4
 refine Za (Za (zg [0,3,13] 0 (Zb (cn h4 (fun _ h6 => ?_) (fun _ h7 => ?_)))))
 refine Zd (Zb (Za (Zg (Za ?_))))
 obtain ⟨c8,h9⟩ := Zq h6
 refine zc [0,3,4] 1 c8 (Zb (Za (Za ?_)))
 obtain ⟨r3,q10,h11⟩ := bind_some h9
 refine zr [0,3,4,23] 1 Zt (rq1 (GN _ _ q10) rqn) (Zb (cn h11 (fun _ h13 => ?_) (fun _ h14 => ?_)))
 exact Za (zg [2] 0 (Zb (Zf (Zk (ZQ (Zk (rr h13 ⟨rfl,er0 _⟩)))))))
 refine Zd (Zb (Za (Za (zg [0,3,4,5] 1 (Zb (Zg ?_))))))
 obtain ⟨y6,q24,h25⟩ := bind_some h14
 refine zl (fun (p4 : Int) => ⟨163,[u1,(3,.int .i64 p1),(4,.ref 0 0),(5,.int .i64 p4)],u2⟩) (Sum.elim (fun z => OutE 2 (fun z => ⟨163,[u1,(3,.int .i64 p1),(4,.ref 0 0)],u2⟩) z) (fun z => OutR Tryz.prog Tryz.f162 (.int .i64 z))) q24 ?_ ?_
 intro p4 y5 h15
 unfold M.YY at h15
 refine Za (Za (zg [0,3,4,5,26] 1 (Zb (cn h15 (fun _ h17 => ?_) (fun _ h18 => ?_)))))
 refine Zd (Zb (Za (Zg (Za ?_))))
 obtain ⟨c19,h20⟩ := Zq h17
 refine zc [0,3,4,5,36] 1 c19 (Zb (cn h20 (fun _ h22 => ?_) (fun _ h23 => ?_)))
 exact Za (zg [2] 0 (Zb (Zf (ZQ (Zk (rr h22 ⟨rfl,er0 _⟩))))))
 exact Zd (XO (Zb (zg [0,3,4,5] 1 (rn h23))))
 exact ZF (Xl (re h18 ⟨rfl,kq⟩))
 intro e26 s27 o28
 rcases y6 with g7 | y8
 have h29 := Ya h25
 refine zi o28 (Za (Za ?_))
 obtain ⟨r9,q32,h33⟩ := bind_some h29
 obtain ⟨r10,q34,h35⟩ := bind_some h33
 obtain ⟨r11,q36,h37⟩ := bind_some h35
 refine zr [0,3,4,52] 1 Zt (rq1 (XW _ _ _ _ q32) (rq2 (fun hg => XW _ _ _ _ (Xg q34 hg)) (rq2 (fun hg => XW _ _ _ _ (Xg q36 hg)) rqn))) (Zb (cn h37 (fun _ h39 => ?_) (fun _ h40 => ?_)))
 exact Za (zg [2] 0 (Zb (Zf (Zk (ZQ (Zk (rr h39 ⟨rfl,er0 _⟩)))))))
 refine Zd (Zb (Za (Za (zg [0,3,4,98] 1 (Zb (cn h40 (fun _ h42 => ?_) (fun _ h43 => ?_)))))))
 exact Za (zg [2] 0 (Zb (Zf (Zk (ZQ (Zk (rr h42 ⟨rfl,er0 _⟩)))))))
 refine Zd (Zb (Za (Za ?_)))
 obtain ⟨r12,q44,h45⟩ := bind_some h43
 obtain ⟨r13,q46,h47⟩ := bind_some h45
 refine zr [0,3,4,127] 1 Zt (rq2 (fun hg => XW _ _ _ _ (Xg q44 hg)) (rq2 (fun hg => XW _ _ _ _ (Xg q46 hg)) rqn)) (Zb (cn h47 (fun _ h49 => ?_) (fun _ h50 => ?_)))
 exact Za (zg [2] 0 (Zb (Zf (Zk (ZQ (Zk (rr h49 ⟨rfl,er0 _⟩)))))))
 refine Zd (Zb (Za (zg [0,3,4,6] 1 (Zb (Zg ?_)))))
 obtain ⟨y19,q66,h67⟩ := bind_some h50
 refine zl (fun (p14 : Int) => ⟨163,[u1,(3,.int .i64 p1),(4,.ref 0 0),(6,.int .i64 p14)],u2⟩) (Sum.elim (fun z => OutE 4 (fun z => ⟨163,[u1,(3,.int .i64 p1)],[]⟩) z) (fun z => OutR Tryz.prog Tryz.f162 (.int .i64 z))) q66 ?_ ?_
 intro p14 y15 h51
 unfold M.YD at h51
 refine Za (Za (zg [0,3,4,6,130] 1 (Zb (cn h51 (fun _ h53 => ?_) (fun _ h54 => ?_)))))
 refine Zd (Zb (Za (Zg (Za ?_))))
 obtain ⟨r16,q55,h56⟩ := bind_some h53
 obtain ⟨r17,q57,h58⟩ := bind_some h56
 obtain ⟨r18,q59,h60⟩ := bind_some h58
 obtain ⟨c61,h62⟩ := Zq h60
 refine zr [0,3,4,6,162] 1 c61 (rq2 (fun hg => Ki _ _ _ (Xg q55 hg)) (rq2 (fun hg => Ki _ _ _ (Xg q57 hg)) (rq2 (fun hg => Rn _ _ _ (Xg q59 hg)) rqn))) (Zb (cn h62 (fun _ h64 => ?_) (fun _ h65 => ?_)))
 exact Za (zg [2] 0 (Zb (Zf (ZQ (Zk (rr h64 ⟨rfl,er0 _⟩))))))
 exact Zd (XO (Zb (zg [0,3,4,6] 1 (rn h65))))
 exact ZF (Xl (re h54 ⟨rfl,kc⟩))
 intro e68 s69 o70
 rcases y19 with g20 | y21
 have h71 := Ya h67
 obtain ⟨rfl,l73⟩ := o70
 exact Y8 (XO (Xb (s' := ⟨163,[u1,(3,.int .i64 p1)],[]⟩) (l73) (zg [0,3] 0 (rn h71))))
 have h72 := Yb h67
 obtain ⟨rfl,n74⟩ := o70
 exact ZQ (ZQ (Zk (rr h72 ⟨rfl,n74⟩)))
 have h30 := Yb h25
 obtain ⟨rfl,n75⟩ := o28
 exact ZQ (Zk (ZQ (Zk (rr h30 ⟨rfl,n75⟩))))
 exact ZF (Xl (re h7 ⟨rfl,kq⟩))
 intro e78 s79 o80
 rcases y22 with g23 | y24
 have h81 := Ya h77
 exact zi o80 (Za (zg [2] 0 (Zb (Zf (er1 h81)))))
 have h82 := Yb h77
 obtain ⟨rfl,n84⟩ := o80
 refine ZQ (Zk ?_)
 obtain rfl := Option.some.inj h82
 exact n84
theorem WE (a0 : ZM) (r : Bool) (h : M.YZ a0 = some r) : Fn Tryz.prog 44 [.agg (Xf a0)] (.pure (.bool r)) := by
 unfold M.YZ at h
 refine ZE Tryz.func44 rfl (by kernel_rfl) (Za (zg [1] 1 (Zb (Za ?_))))
 obtain ⟨r1,q1,h2⟩ := bind_some h
 exact zr [2] 0 Zt (rq2 (fun hg => RO _ _ (Xg q1 hg)) rqn) (Zb (Zf (er1 h2)))
theorem Ro (a0 : UY) (r : Bool) (h : M.Qd a0 = some r) : Fn Tryz.prog 223 [.agg (K0 a0)] (.pure (.bool r)) := by
 unfold M.Qd at h
 refine ZE Tryz.func223 rfl (by kernel_rfl) (Za (zg [1] 1 (Zb (Za ?_))))
 obtain ⟨r1,q1,h2⟩ := bind_some h
 exact zr [2] 0 Zt (rq1 (WE _ _ q1) rqn) (Zb (Zf (er1 h2)))
theorem ZbC (a0 : List ZW) (r : Int) (h : M.QL a0 = some r) : Fn Tryz.prog 163 [sL 2 Zx a0] (.pure (.int .i64 r)) := by
 let u1 : Nat × D := (0,sL 2 Zx a0)
 unfold M.QL at h
 refine ZE Tryz.func163 rfl (by kernel_rfl) (Za (zg [0] 0 (Zb (Za (Za (zg [0,8] 0 (Zb (cn h (fun _ h2 => ?_) (fun _ h3 => ?_)))))))))
 exact Za (zg [2] 0 (Zb (Zf (Zk (er1 h2)))))
 refine Zd (Zb (Za (Za (zg [0,3] 0 (Zb (Zg ?_))))))
 obtain ⟨y15,q65,h66⟩ := bind_some h3
 refine zl (fun (p1 : Int) => ⟨72,[u1,(3,.int .i64 p1)],[]⟩) (Sum.elim (fun z => OutE 0 (fun z => ⟨72,[],[]⟩) z) (fun z => OutR Tryz.prog Tryz.f163 (.int .i64 z))) q65 ?_ ?_
 intro p1 y2 h4
 unfold M.QA at h4
 refine Za (Za (zg [0,3,12] 0 (Zb (cn h4 (fun _ h6 => ?_) (fun _ h7 => ?_)))))
 refine Zd (Zb (Za (Zg (Za (Za ?_)))))
 obtain ⟨r3,q8,h9⟩ := bind_some h6
 obtain ⟨c10,h11⟩ := Zq h9
 refine zr [0,3,21] 0 c10 (rq1 (GN _ _ q8) rqn) (Zb (cn h11 (fun _ h13 => ?_) (fun _ h14 => ?_)))
 exact Za (zg [2] 0 (Zb (Zf (Zk (ZQ (Zk (rr h13 ⟨rfl,er0 _⟩)))))))
 refine Zd (Zb (Za (Za (zg [0,3,4] 0 (Zb (Zg ?_))))))
 obtain ⟨y6,q24,h25⟩ := bind_some h14
 refine zl (fun (p4 : Int) => ⟨72,[u1,(3,.int .i64 p1),(4,.int .i64 p4)],[]⟩) (Sum.elim (fun z => OutE 2 (fun z => ⟨72,[u1,(3,.int .i64 p1)],[]⟩) z) (fun z => OutR Tryz.prog Tryz.f163 (.int .i64 z))) q24 ?_ ?_
 intro p4 y5 h15
 unfold M.Qy at h15
 refine Za (Za (zg [0,3,4,24] 0 (Zb (cn h15 (fun _ h17 => ?_) (fun _ h18 => ?_)))))
 refine Zd (Zb (Za (Zg (Za ?_))))
 obtain ⟨c19,h20⟩ := Zq h17
 refine zc [0,3,4,37] 0 c19 (Zb (cn h20 (fun _ h22 => ?_) (fun _ h23 => ?_)))
 exact Za (zg [2] 0 (Zb (Zf (ZQ (Zk (rr h22 ⟨rfl,er0 _⟩))))))
 exact Zd (XO (Zb (zg [0,3,4] 0 (rn h23))))
 exact ZF (Xl (re h18 ⟨rfl,kq⟩))
 intro e26 s27 o28
 rcases y6 with g7 | y8
 have h29 := Ya h25
 refine zi o28 (Za (Za ?_))
 obtain ⟨c32,h33⟩ := Zq h29
 refine zc [0,3,44] 0 c32 (Zb (cn h33 (fun _ h35 => ?_) (fun _ h36 => ?_)))
 exact Za (zg [2] 0 (Zb (Zf (Zk (ZQ (Zk (rr h35 ⟨rfl,er0 _⟩)))))))
 refine Zd (Zb (Za (Za ?_)))
 obtain ⟨c37,h38⟩ := Zq h36
 refine zc [0,3,51] 0 c37 (Zb (cn h38 (fun _ h40 => ?_) (fun _ h41 => ?_)))
 exact Za (zg [2] 0 (Zb (Zf (Zk (ZQ (Zk (rr h40 ⟨rfl,er0 _⟩)))))))
 refine Zd (Zb (Za (zg [0,3,5] 0 (Zb (Zg ?_)))))
 obtain ⟨y12,q55,h56⟩ := bind_some h41
 refine zl (fun (p9 : Int) => ⟨72,[u1,(3,.int .i64 p1),(5,.int .i64 p9)],[]⟩) (Sum.elim (fun z => OutE 4 (fun z => ⟨72,[u1,(3,.int .i64 p1)],[]⟩) z) (fun z => OutR Tryz.prog Tryz.f163 (.int .i64 z))) q55 ?_ ?_
 intro p9 y10 h42
 unfold M.Qz at h42
 refine Za (Za ?_)
 obtain ⟨c43,h44⟩ := Zq h42
 refine zc [0,3,5,59] 0 c43 (Zb (cn h44 (fun _ h46 => ?_) (fun _ h47 => ?_)))
 refine Zd (Zb (Za (Zg (Za ?_))))
 obtain ⟨r11,q48,h49⟩ := bind_some h46
 obtain ⟨c50,h51⟩ := Zq h49
 refine zr [0,3,5,71] 0 c50 (rq1 (Ro _ _ q48) rqn) (Zb (cn h51 (fun _ h53 => ?_) (fun _ h54 => ?_)))
 exact Za (zg [2] 0 (Zb (Zf (ZQ (Zk (rr h53 ⟨rfl,er0 _⟩))))))
 exact Zd (XO (Zb (zg [0,3,5] 0 (rn h54))))
 exact ZF (Xl (re h47 ⟨rfl,kq⟩))
 intro e57 s58 o59
 rcases y12 with g13 | y14
 have h60 := Ya h56
 obtain ⟨rfl,l62⟩ := o59
 exact Y8 (XO (Xb (s' := ⟨72,[u1,(3,.int .i64 p1)],[]⟩) (l62) (zg [0,3] 0 (rn h60))))
 have h61 := Yb h56
 obtain ⟨rfl,n63⟩ := o59
 exact ZQ (ZQ (Zk (rr h61 ⟨rfl,n63⟩)))
 have h30 := Yb h25
 obtain ⟨rfl,n64⟩ := o28
 exact ZQ (Zk (ZQ (Zk (rr h30 ⟨rfl,n64⟩))))
 exact ZF (Xl (re h7 ⟨rfl,kq⟩))
 intro e67 s68 o69
 rcases y15 with g16 | y17
 have h70 := Ya h66
 exact zi o69 (Za (zg [2] 0 (Zb (Zf (er1 h70)))))
 have h71 := Yb h66
 obtain ⟨rfl,n73⟩ := o69
 refine ZQ (Zk ?_)
 obtain rfl := Option.some.inj h71
 exact n73
theorem Gp (a0 : Zh) (a1 : ByteArray) (r : Int) (h : M.Qa a0 a1 = some r) : Fn Tryz.prog 224 [.agg (Zs a0),.str a1] (.pure (.int .i64 r)) := by
 unfold M.Qa at h
 refine ZE Tryz.func224 rfl (by kernel_rfl) (Za (zg [1,2] 1 (Zb (Za (Za (zg [1,2,5] 1 (Zb (Zg ?_))))))))
 obtain ⟨y3,q10,h11⟩ := bind_some h
 refine zl (fun (p1 : Int) => ⟨22,[(1,.str a1),(2,.ref 0 0),(5,.int .i64 p1)],[.box (Zs a0)]⟩) (Sum.elim (fun z => OutE 0 (fun z => ⟨22,[],[]⟩) z) (fun z => OutR Tryz.prog Tryz.f224 (.int .i64 z))) q10 ?_ ?_
 intro p1 y2 h1
 unfold M.QU at h1
 refine Za (Za (zg [1,2,5,10] 1 (Zb (cn h1 (fun _ h3 => ?_) (fun _ h4 => ?_)))))
 refine Zd (Zb (Za (Zg (Za ?_))))
 obtain ⟨c5,h6⟩ := Zq h3
 refine zc [1,2,5,20] 1 c5 (Zb (cn h6 (fun _ h8 => ?_) (fun _ h9 => ?_)))
 exact Za (zg [4] 0 (Zb (Zf (ZQ (Zk (rr h8 ⟨rfl,er0 _⟩))))))
 exact Zd (XO (Zb (zg [1,2,5] 1 (rn h9))))
 exact ZF (Xl (re h4 ⟨rfl,kc⟩))
 intro e12 s13 o14
 rcases y3 with g4 | y5
 have h15 := Ya h11
 exact zi o14 (Za (zg [4] 0 (Zb (Zf (er1 h15)))))
 have h16 := Yb h11
 obtain ⟨rfl,n18⟩ := o14
 refine ZQ (Zk ?_)
 obtain rfl := Option.some.inj h16
 exact n18
theorem Zdg (a0 : Zh) (r : Int) (h : M.Js a0 = some r) : Fn Tryz.prog 164 [.agg (Zs a0)] (.pure (.int .i64 r)) := by
 let u1 : Nat × D := (3,sL 2 ZS a0.XJ)
 let u2 : List Ob := [.box (Zs a0)]
 unfold M.Js at h
 refine ZE Tryz.func164 rfl (by kernel_rfl) (Za (zg [1] 1 (Zb (Za (zg [1,3] 1 (Zb (Za (Za (zg [1,3,12] 1 (Zb (cn h (fun _ h2 => ?_) (fun _ h3 => ?_))))))))))))
 exact Za (zg [2] 0 (Zb (Zf (Zk (er1 h2)))))
 refine Zd (Zb (Za (Za (zg [1,3,4] 1 (Zb (Zg ?_))))))
 obtain ⟨y20,q78,h79⟩ := bind_some h3
 refine zl (fun (p1 : Int) => ⟨112,[(1,.ref 0 0),u1,(4,.int .i64 p1)],u2⟩) (Sum.elim (fun z => OutE 0 (fun z => ⟨112,[],[]⟩) z) (fun z => OutR Tryz.prog Tryz.f164 (.int .i64 z))) q78 ?_ ?_
 intro p1 y2 h4
 unfold M.Jf at h4
 refine Za (Za (zg [1,3,4,16] 1 (Zb (cn h4 (fun _ h6 => ?_) (fun _ h7 => ?_)))))
 refine Zd (Zb (Za (Zg (Za (Za ?_)))))
 obtain ⟨r3,q8,h9⟩ := bind_some h6
 obtain ⟨c10,h11⟩ := Zq h9
 refine zr [1,3,4,25] 1 c10 (rq1 (GN _ _ q8) rqn) (Zb (cn h11 (fun _ h13 => ?_) (fun _ h14 => ?_)))
 exact Za (zg [2] 0 (Zb (Zf (Zk (ZQ (Zk (rr h13 ⟨rfl,er0 _⟩)))))))
 refine Zd (Zb (Za (Za (zg [1,3,4,5] 1 (Zb (Zg ?_))))))
 obtain ⟨y6,q24,h25⟩ := bind_some h14
 refine zl (fun (p4 : Int) => ⟨112,[(1,.ref 0 0),u1,(4,.int .i64 p1),(5,.int .i64 p4)],u2⟩) (Sum.elim (fun z => OutE 2 (fun z => ⟨112,[(1,.ref 0 0),u1,(4,.int .i64 p1)],u2⟩) z) (fun z => OutR Tryz.prog Tryz.f164 (.int .i64 z))) q24 ?_ ?_
 intro p4 y5 h15
 unfold M.Jd at h15
 refine Za (Za (zg [1,3,4,5,28] 1 (Zb (cn h15 (fun _ h17 => ?_) (fun _ h18 => ?_)))))
 refine Zd (Zb (Za (Zg (Za ?_))))
 obtain ⟨c19,h20⟩ := Zq h17
 refine zc [1,3,4,5,41] 1 c19 (Zb (cn h20 (fun _ h22 => ?_) (fun _ h23 => ?_)))
 exact Za (zg [2] 0 (Zb (Zf (ZQ (Zk (rr h22 ⟨rfl,er0 _⟩))))))
 exact Zd (XO (Zb (zg [1,3,4,5] 1 (rn h23))))
 exact ZF (Xl (re h18 ⟨rfl,kq⟩))
 intro e26 s27 o28
 rcases y6 with g7 | y8
 have h29 := Ya h25
 refine zi o28 (Za (Za ?_))
 obtain ⟨c32,h33⟩ := Zq h29
 refine zc [1,3,4,48] 1 c32 (Zb (cn h33 (fun _ h35 => ?_) (fun _ h36 => ?_)))
 exact Za (zg [2] 0 (Zb (Zf (Zk (ZQ (Zk (rr h35 ⟨rfl,er0 _⟩)))))))
 refine Zd (Zb (Za (Za ?_)))
 obtain ⟨c37,h38⟩ := Zq h36
 refine zc [1,3,4,55] 1 c37 (Zb (cn h38 (fun _ h40 => ?_) (fun _ h41 => ?_)))
 exact Za (zg [2] 0 (Zb (Zf (Zk (ZQ (Zk (rr h40 ⟨rfl,er0 _⟩)))))))
 refine Zd (Zb (Za (zg [1,3,4,6] 1 (Zb (Zg ?_)))))
 obtain ⟨y17,q68,h69⟩ := bind_some h41
 refine zl (fun (p9 : Int) => ⟨112,[(1,.ref 0 0),u1,(4,.int .i64 p1),(6,.int .i64 p9)],u2⟩) (Sum.elim (fun z => OutE 4 (fun z => ⟨112,[(1,.ref 0 0),u1,(4,.int .i64 p1)],u2⟩) z) (fun z => OutR Tryz.prog Tryz.f164 (.int .i64 z))) q68 ?_ ?_
 intro p9 y10 h42
 unfold M.Je at h42
 refine Za (Za ?_)
 obtain ⟨c43,h44⟩ := Zq h42
 refine zc [1,3,4,6,63] 1 c43 (Zb (cn h44 (fun _ h46 => ?_) (fun _ h47 => ?_)))
 refine Zd (Zb (Za (Zg (Za ?_))))
 obtain ⟨c48,h49⟩ := Zq h46
 refine zc [1,3,4,6,7] 2 c48 (Zb (Za (Za ?_)))
 obtain ⟨r11,q50,h51⟩ := bind_some h49
 refine zr [1,3,4,6,7,83] 2 Zt (rq2 (fun hg => Gp _ _ _ (Xg q50 hg)) rqn) (Zb (cn h51 (fun _ h53 => ?_) (fun _ h54 => ?_)))
 exact Za (zg [2] 0 (Zb (Zf (Zk (ZQ (Zk (rr h53 ⟨rfl,er0 _⟩)))))))
 refine Zd (Zb (Za ?_))
 obtain ⟨r12,q55,h56⟩ := bind_some h54
 obtain ⟨r13,q57,h58⟩ := bind_some h56
 obtain ⟨r14,q59,h60⟩ := bind_some h58
 obtain ⟨r15,q61,h62⟩ := bind_some h60
 obtain ⟨r16,q63,h64⟩ := bind_some h62
 refine zr [1,3,4,6,111] 1 Zt (rq1 (XW _ _ _ _ q55) (rq2 (fun hg => XW _ _ _ _ (Xg q57 hg)) (rq2 (fun hg => XW _ _ _ _ (Xg q59 hg)) (rq2 (fun hg => XW _ _ _ _ (Xg q61 hg)) (rq2 (fun hg => XW _ _ _ _ (Xg q63 hg)) rqn))))) (Zb (cn h64 (fun _ h66 => ?_) (fun _ h67 => ?_)))
 exact Za (zg [2] 0 (Zb (Zf (ZQ (Zk (rr h66 ⟨rfl,er0 _⟩))))))
 exact Zd (XO (Zb (zg [1,3,4,6] 1 (rn h67))))
 exact ZF (Xl (re h47 ⟨rfl,kq⟩))
 intro e70 s71 o72
 rcases y17 with g18 | y19
 have h73 := Ya h69
 obtain ⟨rfl,l75⟩ := o72
 exact Y8 (XO (Xb (s' := ⟨112,[(1,.ref 0 0),u1,(4,.int .i64 p1)],u2⟩) (l75) (zg [1,3,4] 1 (rn h73))))
 have h74 := Yb h69
 obtain ⟨rfl,n76⟩ := o72
 exact ZQ (ZQ (Zk (rr h74 ⟨rfl,n76⟩)))
 have h30 := Yb h25
 obtain ⟨rfl,n77⟩ := o28
 exact ZQ (Zk (ZQ (Zk (rr h30 ⟨rfl,n77⟩))))
 exact ZF (Xl (re h7 ⟨rfl,kc⟩))
 intro e80 s81 o82
 rcases y20 with g21 | y22
 have h83 := Ya h79
 exact zi o82 (Za (zg [2] 0 (Zb (Zf (er1 h83)))))
 have h84 := Yb h79
 obtain ⟨rfl,n86⟩ := o82
 refine ZQ (Zk ?_)
 obtain rfl := Option.some.inj h84
 exact n86
theorem ZbW (a0 : Wn) (r : Bool) (h : M.WJ a0 = some r) : Fn Tryz.prog 259 [.agg (RF a0)] (.pure (.bool r)) := by
 unfold M.WJ at h
 exact ZE Tryz.func259 rfl (by kernel_rfl) (Za (zg [1] 1 (Zb (Za (zg [2] 0 (Zb (Zf (er1 h))))))))
theorem Zes (a0 : Wn) (r : Bool) (h : M.UZ a0 = some r) : Fn Tryz.prog 260 [.agg (RF a0)] (.pure (.bool r)) := by
 unfold M.UZ at h
 exact ZE Tryz.func260 rfl (by kernel_rfl) (Za (zg [1] 1 (Zb (Za (zg [2] 0 (Zb (Zf (er1 h))))))))
theorem Zdh (a0 : ZfJ) (r : Bool) (h : M.VG a0 = some r) : Fn Tryz.prog 225 [.agg (Zhg a0)] (.pure (.bool r)) := by
 unfold M.VG at h
 refine ZE Tryz.func225 rfl (by kernel_rfl) (Za (zg [1] 1 (Zb (Za (Za ?_)))))
 obtain ⟨r1,q1,h2⟩ := bind_some h
 obtain ⟨r2,q3,h4⟩ := bind_some h2
 obtain ⟨r3,q5,h6⟩ := bind_some h4
 refine zr [1,38] 1 Zt (rq1 (XW _ _ _ _ q1) (rq2 (fun hg => ZbW _ _ (Xg q3 hg)) (rq2 (fun hg => ZbW _ _ (Xg q5 hg)) rqn))) (Zb (cn h6 (fun _ h8 => ?_) (fun _ h9 => ?_)))
 exact Za (zg [2] 0 (Zb (Zf (Zk (er1 h8)))))
 refine Zd (Zb (Za ?_))
 obtain ⟨r4,q10,h11⟩ := bind_some h9
 obtain ⟨r5,q12,h13⟩ := bind_some h11
 exact zr [2] 0 Zt (rq2 (fun hg => Zes _ _ (Xg q10 hg)) (rq2 (fun hg => Zes _ _ (Xg q12 hg)) rqn)) (Zb (Zf (er1 h13)))
theorem ZbD (a0 : List US) (r : Int) (h : M.QM a0 = some r) : Fn Tryz.prog 165 [sL 2 YL a0] (.pure (.int .i64 r)) := by
 let u1 : Nat × D := (0,sL 2 YL a0)
 unfold M.QM at h
 refine ZE Tryz.func165 rfl (by kernel_rfl) (Za (zg [0] 0 (Zb (Za (Za (zg [0,8] 0 (Zb (cn h (fun _ h2 => ?_) (fun _ h3 => ?_)))))))))
 exact Za (zg [2] 0 (Zb (Zf (Zk (er1 h2)))))
 refine Zd (Zb (Za (Za (zg [0,3] 0 (Zb (Zg ?_))))))
 obtain ⟨y15,q65,h66⟩ := bind_some h3
 refine zl (fun (p1 : Int) => ⟨72,[u1,(3,.int .i64 p1)],[]⟩) (Sum.elim (fun z => OutE 0 (fun z => ⟨72,[],[]⟩) z) (fun z => OutR Tryz.prog Tryz.f165 (.int .i64 z))) q65 ?_ ?_
 intro p1 y2 h4
 unfold M.QD at h4
 refine Za (Za (zg [0,3,12] 0 (Zb (cn h4 (fun _ h6 => ?_) (fun _ h7 => ?_)))))
 refine Zd (Zb (Za (Zg (Za (Za ?_)))))
 obtain ⟨r3,q8,h9⟩ := bind_some h6
 obtain ⟨c10,h11⟩ := Zq h9
 refine zr [0,3,21] 0 c10 (rq1 (GN _ _ q8) rqn) (Zb (cn h11 (fun _ h13 => ?_) (fun _ h14 => ?_)))
 exact Za (zg [2] 0 (Zb (Zf (Zk (ZQ (Zk (rr h13 ⟨rfl,er0 _⟩)))))))
 refine Zd (Zb (Za (Za (zg [0,3,4] 0 (Zb (Zg ?_))))))
 obtain ⟨y6,q24,h25⟩ := bind_some h14
 refine zl (fun (p4 : Int) => ⟨72,[u1,(3,.int .i64 p1),(4,.int .i64 p4)],[]⟩) (Sum.elim (fun z => OutE 2 (fun z => ⟨72,[u1,(3,.int .i64 p1)],[]⟩) z) (fun z => OutR Tryz.prog Tryz.f165 (.int .i64 z))) q24 ?_ ?_
 intro p4 y5 h15
 unfold M.QB at h15
 refine Za (Za (zg [0,3,4,24] 0 (Zb (cn h15 (fun _ h17 => ?_) (fun _ h18 => ?_)))))
 refine Zd (Zb (Za (Zg (Za ?_))))
 obtain ⟨c19,h20⟩ := Zq h17
 refine zc [0,3,4,37] 0 c19 (Zb (cn h20 (fun _ h22 => ?_) (fun _ h23 => ?_)))
 exact Za (zg [2] 0 (Zb (Zf (ZQ (Zk (rr h22 ⟨rfl,er0 _⟩))))))
 exact Zd (XO (Zb (zg [0,3,4] 0 (rn h23))))
 exact ZF (Xl (re h18 ⟨rfl,kq⟩))
 intro e26 s27 o28
 rcases y6 with g7 | y8
 have h29 := Ya h25
 refine zi o28 (Za (Za ?_))
 obtain ⟨c32,h33⟩ := Zq h29
 refine zc [0,3,44] 0 c32 (Zb (cn h33 (fun _ h35 => ?_) (fun _ h36 => ?_)))
 exact Za (zg [2] 0 (Zb (Zf (Zk (ZQ (Zk (rr h35 ⟨rfl,er0 _⟩)))))))
 refine Zd (Zb (Za (Za ?_)))
 obtain ⟨c37,h38⟩ := Zq h36
 refine zc [0,3,51] 0 c37 (Zb (cn h38 (fun _ h40 => ?_) (fun _ h41 => ?_)))
 exact Za (zg [2] 0 (Zb (Zf (Zk (ZQ (Zk (rr h40 ⟨rfl,er0 _⟩)))))))
 refine Zd (Zb (Za (zg [0,3,5] 0 (Zb (Zg ?_)))))
 obtain ⟨y12,q55,h56⟩ := bind_some h41
 refine zl (fun (p9 : Int) => ⟨72,[u1,(3,.int .i64 p1),(5,.int .i64 p9)],[]⟩) (Sum.elim (fun z => OutE 4 (fun z => ⟨72,[u1,(3,.int .i64 p1)],[]⟩) z) (fun z => OutR Tryz.prog Tryz.f165 (.int .i64 z))) q55 ?_ ?_
 intro p9 y10 h42
 unfold M.QC at h42
 refine Za (Za ?_)
 obtain ⟨c43,h44⟩ := Zq h42
 refine zc [0,3,5,59] 0 c43 (Zb (cn h44 (fun _ h46 => ?_) (fun _ h47 => ?_)))
 refine Zd (Zb (Za (Zg (Za ?_))))
 obtain ⟨r11,q48,h49⟩ := bind_some h46
 obtain ⟨c50,h51⟩ := Zq h49
 refine zr [0,3,5,71] 0 c50 (rq1 (Zdh _ _ q48) rqn) (Zb (cn h51 (fun _ h53 => ?_) (fun _ h54 => ?_)))
 exact Za (zg [2] 0 (Zb (Zf (ZQ (Zk (rr h53 ⟨rfl,er0 _⟩))))))
 exact Zd (XO (Zb (zg [0,3,5] 0 (rn h54))))
 exact ZF (Xl (re h47 ⟨rfl,kq⟩))
 intro e57 s58 o59
 rcases y12 with g13 | y14
 have h60 := Ya h56
 obtain ⟨rfl,l62⟩ := o59
 exact Y8 (XO (Xb (s' := ⟨72,[u1,(3,.int .i64 p1)],[]⟩) (l62) (zg [0,3] 0 (rn h60))))
 have h61 := Yb h56
 obtain ⟨rfl,n63⟩ := o59
 exact ZQ (ZQ (Zk (rr h61 ⟨rfl,n63⟩)))
 have h30 := Yb h25
 obtain ⟨rfl,n64⟩ := o28
 exact ZQ (Zk (ZQ (Zk (rr h30 ⟨rfl,n64⟩))))
 exact ZF (Xl (re h7 ⟨rfl,kq⟩))
 intro e67 s68 o69
 rcases y15 with g16 | y17
 have h70 := Ya h66
 exact zi o69 (Za (zg [2] 0 (Zb (Zf (er1 h70)))))
 have h71 := Yb h66
 obtain ⟨rfl,n73⟩ := o69
 refine ZQ (Zk ?_)
 obtain rfl := Option.some.inj h71
 exact n73
theorem ZaT (a0 : Zh) (a1 : ByteArray) (r : Int) (h : M.Ui a0 a1 = some r) : Fn Tryz.prog 226 [.agg (Zs a0),.str a1] (.pure (.int .i64 r)) := by
 unfold M.Ui at h
 refine ZE Tryz.func226 rfl (by kernel_rfl) (Za (zg [1,2] 1 (Zb (Za (Za (zg [1,2,5] 1 (Zb (Zg ?_))))))))
 obtain ⟨y3,q10,h11⟩ := bind_some h
 refine zl (fun (p1 : Int) => ⟨22,[(1,.str a1),(2,.ref 0 0),(5,.int .i64 p1)],[.box (Zs a0)]⟩) (Sum.elim (fun z => OutE 0 (fun z => ⟨22,[],[]⟩) z) (fun z => OutR Tryz.prog Tryz.f226 (.int .i64 z))) q10 ?_ ?_
 intro p1 y2 h1
 unfold M.WX at h1
 refine Za (Za (zg [1,2,5,10] 1 (Zb (cn h1 (fun _ h3 => ?_) (fun _ h4 => ?_)))))
 refine Zd (Zb (Za (Zg (Za ?_))))
 obtain ⟨c5,h6⟩ := Zq h3
 refine zc [1,2,5,20] 1 c5 (Zb (cn h6 (fun _ h8 => ?_) (fun _ h9 => ?_)))
 exact Za (zg [4] 0 (Zb (Zf (ZQ (Zk (rr h8 ⟨rfl,er0 _⟩))))))
 exact Zd (XO (Zb (zg [1,2,5] 1 (rn h9))))
 exact ZF (Xl (re h4 ⟨rfl,kc⟩))
 intro e12 s13 o14
 rcases y3 with g4 | y5
 have h15 := Ya h11
 exact zi o14 (Za (zg [4] 0 (Zb (Zf (er1 h15)))))
 have h16 := Yb h11
 obtain ⟨rfl,n18⟩ := o14
 refine ZQ (Zk ?_)
 obtain rfl := Option.some.inj h16
 exact n18
theorem ZaU (a0 : Zh) (r : Int) (h : M.Qf a0 = some r) : Fn Tryz.prog 166 [.agg (Zs a0)] (.pure (.int .i64 r)) := by
 unfold M.Qf at h
 refine ZE Tryz.func166 rfl (by kernel_rfl) (Za (zg [1] 1 (Zb (Za (Za (zg [1,9] 1 (Zb (cn h (fun _ h2 => ?_) (fun _ h3 => ?_)))))))))
 exact Za (zg [2] 0 (Zb (Zf (Zk (er1 h2)))))
 refine Zd (Zb (Za (Za (zg [1,3] 1 (Zb (Zg ?_))))))
 obtain ⟨y7,q33,h34⟩ := bind_some h3
 refine zl (fun (p1 : Int) => ⟨135,[(1,.ref 0 0),(3,.int .i64 p1)],[.box (Zs a0)]⟩) (Sum.elim (fun z => OutE 0 (fun z => ⟨135,[],[]⟩) z) (fun z => OutR Tryz.prog Tryz.f166 (.int .i64 z))) q33 ?_ ?_
 intro p1 y2 h4
 let u1 := a0.Xc.getD p1.toNat default
 let u2 := ((u1.J5) != 0) && ((u1.QY) != 0)
 let u3 : List Ob := [.box (Zs a0),.box (ZX u1)]
 unfold M.Qe at h4
 refine Za (Za (zg [1,3,14] 1 (Zb (cn h4 (fun _ h6 => ?_) (fun _ h7 => ?_)))))
 refine Zd (Zb (Za (Zg (Za ?_))))
 obtain ⟨c8,h9⟩ := Zq h6
 refine zc [1,3,4] 2 c8 (Zb (Za (rg0 [1,3,4,5] 2 ⟨135,[(1,.ref 0 0),(3,.int .i64 p1),(4,.ref 1 0),(5,.bool false)],u3⟩ (Zb (Vo (fun (p3 : Bool) => ⟨135,[(1,.ref 0 0),(3,.int .i64 p1),(4,.ref 1 0),(5,.bool p3)],u3⟩) (fun p3 => M.XX a0 p1 p3 = some y2) ?_ ?_)))))
 intro p3 h11
 unfold M.XX at h11
 refine Za (Za (zg [1,3,4,124] 2 (Zb (cn h11 (fun _ h13 => ?_) (fun _ h14 => ?_)))))
 exact Za (zg [2] 0 (Zb (Zf (Zk (ZQ (Zk (rr h13 ⟨rfl,er0 _⟩)))))))
 refine Zd (Zb (Za ?_))
 obtain ⟨r4,q15,h16⟩ := bind_some h14
 refine zr [1,3,134] 1 Zt (rq2 (fun hg => ZaT _ _ _ (Xg q15 hg)) rqn) (Zb (cn h16 (fun _ h18 => ?_) (fun _ h19 => ?_)))
 exact Za (zg [2] 0 (Zb (Zf (ZQ (Zk (rr h18 ⟨rfl,er0 _⟩))))))
 exact Zd (XO (Zb (zg [1,3] 1 (rn h19))))
 intro k10
 refine Za (zg [1,3,4,5,23] 2 (Zb (Zg (Za (zg [1,3,4,5,23,24] 2 (Zb (cn h9 (fun _ h21 => ?_) (fun _ h22 => ?_))))))))
 exact zg [1,3,4,5] 2 (XO (Xb lk (k10 (u2 && (((u1.Ua) == (u1.Ua)) && (((u1.J5) == (u1.J5)) && (((u1.QY) == (u1.QY)) && (((u1.X1) == 0) && (((u1.Vp) == 0) && (((u1.JN) == 0) && (strEq (u1.VD) (⟨#[]⟩ : ByteArray) && (((u1.Rg) == 0) && (((u1.fHi) == 0) && true)))))))))) h21)))
 refine Za (zg [1,3,4,5,23,45] 2 (Zb (cn h22 (fun _ h24 => ?_) (fun _ h25 => ?_))))
 exact zg [1,3,4,5] 2 (XO (Xb lk (k10 (((((u1.Rg) != 0) && (decide ((u1.Rg) ≤ (u1.fHi)))) && (decide ((wr .u32 ((u1.fHi) - (u1.Rg))) < 8))) && (((u1.Ua) == (u1.Ua)) && (((u1.J5) == 0) && (((u1.QY) == 0) && (((u1.X1) == 0) && (((u1.Vp) == 0) && (((u1.JN) == 0) && (strEq (u1.VD) (u1.VD) && (((u1.Rg) == (u1.Rg)) && (((u1.fHi) == (u1.fHi)) && true)))))))))) h24)))
 refine Za (zg [1,3,4,5,78] 2 (Zb (cn h25 (fun _ h27 => ?_) (fun _ h28 => ?_))))
 obtain ⟨r5,q29,h30⟩ := bind_some h27
 obtain ⟨r6,q31,h32⟩ := bind_some h30
 exact zr [1,3,4,5] 2 Zt (rq2 (fun hg => XW _ _ _ _ (Xg q29 hg)) (rq2 (fun hg => XW _ _ _ _ (Xg q31 hg)) rqn)) (XO (Xb lk (k10 ((((((u2 && (((u1.X1) == 6) || ((u1.X1) == 17))) && r5) && r6) && (strEq (u1.VD) (⟨#[]⟩ : ByteArray))) && ((u1.Rg) == 0)) && ((u1.fHi) == 0)) h32)))
 exact Zd (XO (Xb kq (k10 false h28)))
 exact ZF (Xl (re h7 ⟨rfl,kc⟩))
 intro e35 s36 o37
 rcases y7 with g8 | y9
 have h38 := Ya h34
 exact zi o37 (Za (zg [2] 0 (Zb (Zf (er1 h38)))))
 have h39 := Yb h34
 obtain ⟨rfl,n41⟩ := o37
 refine ZQ (Zk ?_)
 obtain rfl := Option.some.inj h39
 exact n41
theorem ZeC (a0 : Zh) (r : Int) (h : M.VH a0 = some r) : Fn Tryz.prog 167 [.agg (Zs a0)] (.pure (.int .i64 r)) := by
 unfold M.VH at h
 refine ZE Tryz.func167 rfl (by kernel_rfl) (Za (zg [1] 1 (Zb (Za (Za (zg [1,3] 1 (Zb (Zg ?_))))))))
 obtain ⟨y5,q14,h15⟩ := bind_some h
 refine zl (fun (p1 : Int) => ⟨39,[(1,.ref 0 0),(3,.int .i64 p1)],[.box (Zs a0)]⟩) (Sum.elim (fun z => OutE 0 (fun z => ⟨39,[],[]⟩) z) (fun z => OutR Tryz.prog Tryz.f167 (.int .i64 z))) q14 ?_ ?_
 intro p1 y2 h1
 unfold M.J6 at h1
 refine Za (Za (zg [1,3,9] 1 (Zb (cn h1 (fun _ h3 => ?_) (fun _ h4 => ?_)))))
 refine Zd (Zb (Za (Zg (Za ?_))))
 obtain ⟨c5,h6⟩ := Zq h3
 refine zc [1,3,4] 2 c5 (Zb (Za ?_))
 obtain ⟨r3,q7,h8⟩ := bind_some h6
 obtain ⟨r4,q9,h10⟩ := bind_some h8
 refine zr [1,3,38] 1 Zt (rq2 (fun hg => ZaT _ _ _ (Xg q7 hg)) (rq2 (fun hg => ZaT _ _ _ (Xg q9 hg)) rqn)) (Zb (cn h10 (fun _ h12 => ?_) (fun _ h13 => ?_)))
 exact Za (zg [2] 0 (Zb (Zf (ZQ (Zk (rr h12 ⟨rfl,er0 _⟩))))))
 exact Zd (XO (Zb (zg [1,3] 1 (rn h13))))
 exact ZF (Xl (re h4 ⟨rfl,kc⟩))
 intro e16 s17 o18
 rcases y5 with g6 | y7
 have h19 := Ya h15
 exact zi o18 (Za (zg [2] 0 (Zb (Zf (er1 h19)))))
 have h20 := Yb h15
 obtain ⟨rfl,n22⟩ := o18
 refine ZQ (Zk ?_)
 obtain rfl := Option.some.inj h20
 exact n22
theorem R7 (a0 : Zh) (a1 : Int) (r : Int) (h : M.J8 a0 a1 = some r) : Fn Tryz.prog 116 [.agg (Zs a0),.int .u32 a1] (.pure (.int .i64 r)) := by
 unfold M.J8 at h
 refine ZE Tryz.func116 rfl (by kernel_rfl) (Za (zg [1,2] 1 (Zb (Za (Za (zg [1,2,5] 1 (Zb (Zg ?_))))))))
 obtain ⟨y3,q10,h11⟩ := bind_some h
 refine zl (fun (p1 : Int) => ⟨31,[(1,.int .u32 a1),(2,.ref 0 0),(5,.int .i64 p1)],[.box (Zs a0)]⟩) (Sum.elim (fun z => OutE 0 (fun z => ⟨31,[],[]⟩) z) (fun z => OutR Tryz.prog Tryz.f116 (.int .i64 z))) q10 ?_ ?_
 intro p1 y2 h1
 unfold M.J7 at h1
 refine Za (Za (zg [1,2,5,10] 1 (Zb (cn h1 (fun _ h3 => ?_) (fun _ h4 => ?_)))))
 refine Zd (Zb (Za (Zg (Za ?_))))
 obtain ⟨c5,h6⟩ := Zq h3
 refine zc [1,2,5,29] 1 c5 (Zb (cn h6 (fun _ h8 => ?_) (fun _ h9 => ?_)))
 exact Za (zg [4] 0 (Zb (Zf (ZQ (Zk (rr h8 ⟨rfl,er0 _⟩))))))
 exact Zd (XO (Zb (zg [1,2,5] 1 (rn h9))))
 exact ZF (Xl (re h4 ⟨rfl,kc⟩))
 intro e12 s13 o14
 rcases y3 with g4 | y5
 have h15 := Ya h11
 exact zi o14 (Za (zg [4] 0 (Zb (Zf (er1 h15)))))
 have h16 := Yb h11
 obtain ⟨rfl,n18⟩ := o14
 refine ZQ (Zk ?_)
 obtain rfl := Option.some.inj h16
 exact n18
theorem Zdi (a0 : Zh) (a1 : ByteArray) (r : Int) (h : M.Jt a0 a1 = some r) : Fn Tryz.prog 157 [.agg (Zs a0),.str a1] (.pure (.int .i64 r)) := by
 unfold M.Jt at h
 refine ZE Tryz.func157 rfl (by kernel_rfl) (Za (zg [1,2] 1 (Zb (Za (Za (zg [1,2,5] 1 (Zb (Zg ?_))))))))
 obtain ⟨y3,q10,h11⟩ := bind_some h
 refine zl (fun (p1 : Int) => ⟨22,[(1,.str a1),(2,.ref 0 0),(5,.int .i64 p1)],[.box (Zs a0)]⟩) (Sum.elim (fun z => OutE 0 (fun z => ⟨22,[],[]⟩) z) (fun z => OutR Tryz.prog Tryz.f157 (.int .i64 z))) q10 ?_ ?_
 intro p1 y2 h1
 unfold M.QO at h1
 refine Za (Za (zg [1,2,5,10] 1 (Zb (cn h1 (fun _ h3 => ?_) (fun _ h4 => ?_)))))
 refine Zd (Zb (Za (Zg (Za ?_))))
 obtain ⟨c5,h6⟩ := Zq h3
 refine zc [1,2,5,20] 1 c5 (Zb (cn h6 (fun _ h8 => ?_) (fun _ h9 => ?_)))
 exact Za (zg [4] 0 (Zb (Zf (ZQ (Zk (rr h8 ⟨rfl,er0 _⟩))))))
 exact Zd (XO (Zb (zg [1,2,5] 1 (rn h9))))
 exact ZF (Xl (re h4 ⟨rfl,kc⟩))
 intro e12 s13 o14
 rcases y3 with g4 | y5
 have h15 := Ya h11
 exact zi o14 (Za (zg [4] 0 (Zb (Zf (er1 h15)))))
 have h16 := Yb h11
 obtain ⟨rfl,n18⟩ := o14
 refine ZQ (Zk ?_)
 obtain rfl := Option.some.inj h16
 exact n18
theorem ZeD (a0 : Zh) (r : Int) (h : M.VI a0 = some r) : Fn Tryz.prog 168 [.agg (Zs a0)] (.pure (.int .i64 r)) := by
 let u4 := Zs a0
 unfold M.VI at h
 refine ZE Tryz.func168 rfl (by kernel_rfl) (Za (zg [1] 1 (Zb (Za (Za (zg [1,11] 1 (Zb (cn h (fun _ h2 => ?_) (fun _ h3 => ?_)))))))))
 exact Za (zg [2] 0 (Zb (Zf (Zk (er1 h2)))))
 refine Zd (Zb (Za (Za (zg [1,3] 1 (Zb (Zg ?_))))))
 obtain ⟨y17,q69,h70⟩ := bind_some h3
 refine zl (fun (p1 : Int) => ⟨111,[(1,.ref 0 0),(3,.int .i64 p1)],[.box u4]⟩) (Sum.elim (fun z => OutE 0 (fun z => ⟨111,[],[]⟩) z) (fun z => OutR Tryz.prog Tryz.f168 (.int .i64 z))) q69 ?_ ?_
 intro p1 y2 h4
 let u1 := a0.Zp.getD p1.toNat default
 let u2 : List Ob := [.box u4,.box (ZO u1)]
 unfold M.Va at h4
 refine Za (Za (zg [1,3,16] 1 (Zb (cn h4 (fun _ h6 => ?_) (fun _ h7 => ?_)))))
 refine Zd (Zb (Za (Zg (Za ?_))))
 obtain ⟨c8,h9⟩ := Zq h6
 refine zc [1,3,4] 2 c8 (Zb (Za (rg0 [1,3,4,5] 2 ⟨111,[(1,.ref 0 0),(3,.int .i64 p1),(4,.ref 1 0),(5,.int .i64 0)],u2⟩ (Zb (Vo (fun (p3 : Int) => ⟨111,[(1,.ref 0 0),(3,.int .i64 p1),(4,.ref 1 0),(5,.int .i64 p3)],u2⟩) (fun p3 => M.Q2 a0 p1 p3 = some y2) ?_ ?_)))))
 intro p3 h11
 unfold M.Q2 at h11
 refine Vo (fun (p4 : Int) => ⟨111,[(1,.ref 0 0),(3,.int .i64 p1),(4,.ref 1 0),(5,.int .i64 p4)],u2⟩) (fun p4 => M.Q1 a0 p1 p4 = some y2) ?_ ?_
 intro p4 h13
 unfold M.Q1 at h13
 refine Vo (fun (p5 : Int) => ⟨111,[(1,.ref 0 0),(3,.int .i64 p1),(4,.ref 1 0),(5,.int .i64 p5)],u2⟩) (fun p5 => M.Q0 a0 p1 p5 = some y2) ?_ ?_
 intro p5 h15
 unfold M.Q0 at h15
 refine Za (Za ?_)
 obtain ⟨r6,q16,h17⟩ := bind_some h15
 obtain ⟨r7,q18,h19⟩ := bind_some h17
 let u3 := ((!r6) || (p5 != 1)) || (((u1.QI) != 0) && (decide (r7 ≥ 0)))
 obtain ⟨r8,q20,h21⟩ := bind_some h19
 obtain ⟨r9,q22,h23⟩ := bind_some h21
 refine rg [.pure (.bool r6),.pure (.int .i64 r7),.pure (.bool r8),.pure (.bool r9)] [1,3,4,69] 2 ⟨111,[(1,.ref 0 0),(3,.int .i64 p1),(4,.ref 1 0),(69,.bool ((u3 || (!r8)) || (!r9)))],u2⟩ [] [⟨true,44,[.agg (Xf (u1.Zl))],.pure (.bool r6)⟩,⟨((!((!r6) || (p5 != 1))) && ((u1.QI) != 0)),116,[.agg u4,.int .u32 (u1.QI)],.pure (.int .i64 r7)⟩,⟨(!u3),161,[.int .i64 (u1.Z2),.int .i64 1,.int .i64 255],.pure (.bool r8)⟩,⟨(!(u3 || (!r8))),161,[.int .i64 (u1.UA),.int .i64 0,.int .i64 65535],.pure (.bool r9)⟩] Zt ⟨fun _ => WE (u1.Zl) r6 q16,fun hg => R7 a0 (u1.QI) r7 (Xg q18 hg),fun hg => XW (u1.Z2) 1 255 r8 (Xg q20 hg),fun hg => XW (u1.UA) 0 65535 r9 (Xg q22 hg),trivial⟩ (Zb (cn h23 (fun _ h25 => ?_) (fun _ h26 => ?_)))
 exact Za (zg [2] 0 (Zb (Zf (Zk (ZQ (Zk (rr h25 ⟨rfl,er0 _⟩)))))))
 refine Zd (Zb (Vo (fun (p10 : Unit) => ⟨111,[(1,.ref 0 0),(3,.int .i64 p1),(4,.ref 1 0)],u2⟩) (fun p10 => M.QZ a0 p1 p10 = some y2) ?_ ?_))
 intro p10 h28
 unfold M.QZ at h28
 refine Za (zg [1,3,4,7] 2 (Zb (Zg ?_)))
 obtain ⟨y13,q38,h39⟩ := bind_some h28
 refine zl (fun (p11 : Int) => ⟨111,[(1,.ref 0 0),(3,.int .i64 p1),(4,.ref 1 0),(7,.int .i64 p11)],u2⟩) (Sum.elim (fun z => OutE 2 (fun z => ⟨111,[(1,.ref 0 0),(3,.int .i64 p1)],[.box u4]⟩) z) (fun z => OutR Tryz.prog Tryz.f168 (.int .i64 z))) q38 ?_ ?_
 intro p11 y12 h29
 unfold M.J9 at h29
 refine Za (Za (zg [1,3,4,7,88] 2 (Zb (cn h29 (fun _ h31 => ?_) (fun _ h32 => ?_)))))
 refine Zd (Zb (Za (Zg (Za ?_))))
 obtain ⟨c33,h34⟩ := Zq h31
 refine zc [1,3,4,7,110] 2 c33 (Zb (cn h34 (fun _ h36 => ?_) (fun _ h37 => ?_)))
 exact Za (zg [2] 0 (Zb (Zf (ZQ (Zk (rr h36 ⟨rfl,er0 _⟩))))))
 exact Zd (XO (Zb (zg [1,3,4,7] 2 (rn h37))))
 exact ZF (Xl (re h32 ⟨rfl,kc⟩))
 intro e40 s41 o42
 rcases y13 with g14 | y15
 have h43 := Ya h39
 obtain ⟨rfl,l45⟩ := o42
 exact Y8 (XO (Xb (s' := ⟨111,[(1,.ref 0 0),(3,.int .i64 p1)],[.box u4]⟩) (l45) (zg [1,3] 1 (rn h43))))
 have h44 := Yb h39
 obtain ⟨rfl,n46⟩ := o42
 exact ZQ (ZQ (Zk (rr h44 ⟨rfl,n46⟩)))
 intro k27
 refine Za (zg [1,3,4,72] 2 (Zb (cn h26 (fun _ h48 => ?_) (fun _ h49 => ?_))))
 refine Za ?_
 obtain ⟨r16,q50,h51⟩ := bind_some h48
 refine zr [1,3,4,6] 2 Zt (rq1 (Zdi _ _ _ q50) rqn) (Zb (Za (Za (zg [1,3,4,6,78] 2 (Zb (cn h51 (fun _ h53 => ?_) (fun _ h54 => ?_)))))))
 exact Za (zg [2] 0 (Zb (Zf (Zk (Zk (ZQ (Zk (rr h53 ⟨rfl,er0 _⟩))))))))
 refine Zd (Zb (Za ?_))
 obtain ⟨c55,h56⟩ := Zq h54
 refine zc [1,3,4,85] 2 c55 (Zb (cn h56 (fun _ h58 => ?_) (fun _ h59 => ?_)))
 exact Za (zg [2] 0 (Zb (Zf (Zk (ZQ (Zk (rr h58 ⟨rfl,er0 _⟩)))))))
 exact Zd (Xb kq (k27 () h59))
 exact Zd (Xb kq (k27 () h49))
 intro k14
 refine Za (zg [1,3,4,5,35] 2 (Zb (cn h13 (fun _ h61 => ?_) (fun _ h62 => ?_))))
 exact zg [1,3,4,5] 2 (Xb lk (k14 (wr .i64 (p4 + 1)) h61))
 exact Zd (Xb kq (k14 p4 h62))
 intro k12
 refine Za (zg [1,3,4,5,31] 2 (Zb (cn h11 (fun _ h64 => ?_) (fun _ h65 => ?_))))
 exact zg [1,3,4,5] 2 (Xb lk (k12 (wr .i64 (p3 + 1)) h64))
 exact Zd (Xb kq (k12 p3 h65))
 intro k10
 refine Za (zg [1,3,4,5,26] 2 (Zb (cn h9 (fun _ h67 => ?_) (fun _ h68 => ?_))))
 exact zg [1,3,4,5] 2 (Xb lk (k10 1 h67))
 exact Zd (Xb kq (k10 0 h68))
 exact ZF (Xl (re h7 ⟨rfl,kc⟩))
 intro e71 s72 o73
 rcases y17 with g18 | y19
 have h74 := Ya h70
 exact zi o73 (Za (zg [2] 0 (Zb (Zf (er1 h74)))))
 have h75 := Yb h70
 obtain ⟨rfl,n77⟩ := o73
 refine ZQ (Zk ?_)
 obtain rfl := Option.some.inj h75
 exact n77
theorem G1 (a0 : Zh) (a1 : ByteArray) (r : Int) (h : M.Q9 a0 a1 = some r) : Fn Tryz.prog 143 [.agg (Zs a0),.str a1] (.pure (.int .i64 r)) := by
 unfold M.Q9 at h
 refine ZE Tryz.func143 rfl (by kernel_rfl) (Za (zg [1,2] 1 (Zb (Za (Za (zg [1,2,5] 1 (Zb (Zg ?_))))))))
 obtain ⟨y3,q10,h11⟩ := bind_some h
 refine zl (fun (p1 : Int) => ⟨22,[(1,.str a1),(2,.ref 0 0),(5,.int .i64 p1)],[.box (Zs a0)]⟩) (Sum.elim (fun z => OutE 0 (fun z => ⟨22,[],[]⟩) z) (fun z => OutR Tryz.prog Tryz.f143 (.int .i64 z))) q10 ?_ ?_
 intro p1 y2 h1
 unfold M.JR at h1
 refine Za (Za (zg [1,2,5,10] 1 (Zb (cn h1 (fun _ h3 => ?_) (fun _ h4 => ?_)))))
 refine Zd (Zb (Za (Zg (Za ?_))))
 obtain ⟨c5,h6⟩ := Zq h3
 refine zc [1,2,5,20] 1 c5 (Zb (cn h6 (fun _ h8 => ?_) (fun _ h9 => ?_)))
 exact Za (zg [4] 0 (Zb (Zf (ZQ (Zk (rr h8 ⟨rfl,er0 _⟩))))))
 exact Zd (XO (Zb (zg [1,2,5] 1 (rn h9))))
 exact ZF (Xl (re h4 ⟨rfl,kc⟩))
 intro e12 s13 o14
 rcases y3 with g4 | y5
 have h15 := Ya h11
 exact zi o14 (Za (zg [4] 0 (Zb (Zf (er1 h15)))))
 have h16 := Yb h11
 obtain ⟨rfl,n18⟩ := o14
 refine ZQ (Zk ?_)
 obtain rfl := Option.some.inj h16
 exact n18
theorem Us (a0 : Zh) (a1 : List Qt) (a2 : Int) (a3 : Int) (a4 : Int) (r : Int) (h : M.Yc a0 a1 a2 a3 a4 = some r) : Fn Tryz.prog 227 [.agg (Zs a0),sL 5 ZB a1,.int .i64 a2,.int .i64 a3,.int .i64 a4] (.pure (.int .i64 r)) := by
 let u1 : Nat × D := (1,sL 5 ZB a1)
 let u2 := Zs a0
 unfold M.Yc at h
 refine ZE Tryz.func227 rfl (by kernel_rfl) (Za (zg [1,2,3,4,5] 1 (Zb (Za (Za (zg [1,2,3,4,5,16] 1 (Zb (cn h (fun _ h2 => ?_) (fun _ h3 => ?_)))))))))
 exact Za (zg [10] 0 (Zb (Zf (Zk (er1 h2)))))
 refine Zd (Zb (Za (Za (zg [1,2,3,4,5,11] 1 (Zb (Zg ?_))))))
 obtain ⟨y12,q45,h46⟩ := bind_some h3
 refine zl (fun (p1 : Int) => ⟨95,[u1,(2,.int .i64 a2),(3,.int .i64 a3),(4,.int .i64 a4),(5,.ref 0 0),(11,.int .i64 p1)],[.box u2]⟩) (Sum.elim (fun z => OutE 0 (fun z => ⟨95,[],[]⟩) z) (fun z => OutR Tryz.prog Tryz.f227 (.int .i64 z))) q45 ?_ ?_
 intro p1 y2 h4
 unfold M.YA at h4
 refine Za (Za (zg [1,2,3,4,5,11,20] 1 (Zb (cn h4 (fun _ h6 => ?_) (fun _ h7 => ?_)))))
 refine Zd (Zb (Za (Zg (Za ?_))))
 obtain ⟨c8,h9⟩ := Zq h6
 refine zc [1,2,3,4,5,11,12] 2 c8 (Zb (Za (Za ?_)))
 obtain ⟨r3,q10,h11⟩ := bind_some h9
 obtain ⟨r4,q12,h13⟩ := bind_some h11
 obtain ⟨r5,q14,h15⟩ := bind_some h13
 refine zr [1,2,3,4,5,11,12,50] 2 Zt (rq1 (XW _ _ _ _ q10) (rq2 (fun hg => XW _ _ _ _ (Xg q12 hg)) (rq2 (fun hg => XW _ _ _ _ (Xg q14 hg)) rqn))) (Zb (cn h15 (fun _ h17 => ?_) (fun _ h18 => ?_)))
 exact Za (zg [10] 0 (Zb (Zf (Zk (ZQ (Zk (rr h17 ⟨rfl,er0 _⟩)))))))
 refine Zd (Zb (Za (Za (zg [1,2,3,4,5,11,12,71] 2 (Zb (cn h18 (fun _ h20 => ?_) (fun _ h21 => ?_)))))))
 exact Za (zg [10] 0 (Zb (Zf (Zk (ZQ (Zk (rr h20 ⟨rfl,er0 _⟩)))))))
 refine Zd (Zb (Za (Za ?_)))
 obtain ⟨r6,q22,h23⟩ := bind_some h21
 refine zr [1,2,3,4,5,11,12,81] 2 Zt (rq2 (fun hg => G1 _ _ _ (Xg q22 hg)) rqn) (Zb (cn h23 (fun _ h25 => ?_) (fun _ h26 => ?_)))
 exact Za (zg [10] 0 (Zb (Zf (Zk (ZQ (Zk (rr h25 ⟨rfl,er0 _⟩)))))))
 refine Zd (Zb (Za (zg [1,2,3,4,5,11,12,13] 2 (Zb (Zg ?_)))))
 obtain ⟨y9,q36,h37⟩ := bind_some h26
 refine zl (fun (p7 : Int) => ⟨95,[u1,(2,.int .i64 a2),(3,.int .i64 a3),(4,.int .i64 a4),(5,.ref 0 0),(11,.int .i64 p1),(12,.ref 1 0),(13,.int .i64 p7)],[.box u2,.box (ZB (a1.getD p1.toNat default))]⟩) (Sum.elim (fun z => OutE 2 (fun z => ⟨95,[u1,(2,.int .i64 a2),(3,.int .i64 a3),(4,.int .i64 a4),(5,.ref 0 0),(11,.int .i64 p1)],[.box u2]⟩) z) (fun z => OutR Tryz.prog Tryz.f227 (.int .i64 z))) q36 ?_ ?_
 intro p7 y8 h27
 unfold M.Yz at h27
 refine Za (Za (zg [1,2,3,4,5,11,12,13,84] 2 (Zb (cn h27 (fun _ h29 => ?_) (fun _ h30 => ?_)))))
 refine Zd (Zb (Za (Zg (Za ?_))))
 obtain ⟨c31,h32⟩ := Zq h29
 refine zc [1,2,3,4,5,11,12,13,94] 2 c31 (Zb (cn h32 (fun _ h34 => ?_) (fun _ h35 => ?_)))
 exact Za (zg [10] 0 (Zb (Zf (ZQ (Zk (rr h34 ⟨rfl,er0 _⟩))))))
 exact Zd (XO (Zb (zg [1,2,3,4,5,11,12,13] 2 (rn h35))))
 exact ZF (Xl (re h30 ⟨rfl,kc⟩))
 intro e38 s39 o40
 rcases y9 with g10 | y11
 have h41 := Ya h37
 obtain ⟨rfl,l43⟩ := o40
 exact Y8 (XO (Xb (s' := ⟨95,[u1,(2,.int .i64 a2),(3,.int .i64 a3),(4,.int .i64 a4),(5,.ref 0 0),(11,.int .i64 p1)],[.box u2]⟩) (l43) (zg [1,2,3,4,5,11] 1 (rn h41))))
 have h42 := Yb h37
 obtain ⟨rfl,n44⟩ := o40
 exact ZQ (ZQ (Zk (rr h42 ⟨rfl,n44⟩)))
 exact ZF (Xl (re h7 ⟨rfl,kc⟩))
 intro e47 s48 o49
 rcases y12 with g13 | y14
 have h50 := Ya h46
 exact zi o49 (Za (zg [10] 0 (Zb (Zf (er1 h50)))))
 have h51 := Yb h46
 obtain ⟨rfl,n53⟩ := o49
 refine ZQ (Zk ?_)
 obtain rfl := Option.some.inj h51
 exact n53
theorem Zdj (a0 : Zh) (r : Int) (h : M.Ju a0 = some r) : Fn Tryz.prog 169 [.agg (Zs a0)] (.pure (.int .i64 r)) := by
 let u1 : List Ob := [.box (Zs a0),.box (Zc5 a0.Yw)]
 unfold M.Ju at h
 refine ZE Tryz.func169 rfl (by kernel_rfl) (Za (zg [1] 1 (Zb (Za (zg [1,3] 2 (Zb (Za (Za (zg [1,3,10] 2 (Zb (cn h (fun _ h2 => ?_) (fun _ h3 => ?_))))))))))))
 refine Za (Za (zg [25] 0 (Zb (cn h2 (fun _ h5 => ?_) (fun _ h6 => ?_)))))
 exact Za (zg [2] 0 (Zb (Zf (Zk (Zk (er1 h5))))))
 exact Zd (Zb (Za (zg [2] 0 (Zb (Zf (Zk (er1 h6)))))))
 refine Zd (Zb (Za (Za ?_)))
 obtain ⟨r1,q7,h8⟩ := bind_some h3
 refine zr [1,3,29] 2 Zt (rq1 (XW _ _ _ _ q7) rqn) (Zb (cn h8 (fun _ h10 => ?_) (fun _ h11 => ?_)))
 exact Za (zg [2] 0 (Zb (Zf (Zk (er1 h10)))))
 refine Zd (Zb (Za (Za (zg [1,3,33] 2 (Zb (cn h11 (fun _ h13 => ?_) (fun _ h14 => ?_)))))))
 exact Za (zg [2] 0 (Zb (Zf (Zk (er1 h13)))))
 refine Zd (Zb (Za (Za (zg [1,3,4] 2 (Zb (Zg ?_))))))
 obtain ⟨y12,q48,h49⟩ := bind_some h14
 refine zl (fun (p2 : Int) => ⟨96,[(1,.ref 0 0),(3,.ref 1 0),(4,.int .i64 p2)],u1⟩) (Sum.elim (fun z => OutE 0 (fun z => ⟨96,[(1,.ref 0 0),(3,.ref 1 0)],u1⟩) z) (fun z => OutR Tryz.prog Tryz.f169 (.int .i64 z))) q48 ?_ ?_
 intro p2 y3 h15
 unfold M.Jh at h15
 refine Za (Za (zg [1,3,4,38] 2 (Zb (cn h15 (fun _ h17 => ?_) (fun _ h18 => ?_)))))
 refine Zd (Zb (Za (Zg (Za (Za ?_)))))
 obtain ⟨r4,q19,h20⟩ := bind_some h17
 obtain ⟨r5,q21,h22⟩ := bind_some h20
 obtain ⟨c23,h24⟩ := Zq h22
 refine zr [1,3,4,58] 2 c23 (rq1 (XW _ _ _ _ q19) (rq2 (fun hg => WE _ _ (Xg q21 hg)) rqn)) (Zb (cn h24 (fun _ h26 => ?_) (fun _ h27 => ?_)))
 exact Za (zg [2] 0 (Zb (Zf (Zk (ZQ (Zk (rr h26 ⟨rfl,er0 _⟩)))))))
 refine Zd (Zb (Za (zg [1,3,4,5] 2 (Zb (Zg ?_)))))
 obtain ⟨y9,q39,h40⟩ := bind_some h27
 refine zl (fun (p6 : Int) => ⟨96,[(1,.ref 0 0),(3,.ref 1 0),(4,.int .i64 p2),(5,.int .i64 p6)],u1⟩) (Sum.elim (fun z => OutE 2 (fun z => ⟨96,[(1,.ref 0 0),(3,.ref 1 0),(4,.int .i64 p2)],u1⟩) z) (fun z => OutR Tryz.prog Tryz.f169 (.int .i64 z))) q39 ?_ ?_
 intro p6 y7 h28
 unfold M.Jg at h28
 refine Za (Za (zg [1,3,4,5,61] 2 (Zb (cn h28 (fun _ h30 => ?_) (fun _ h31 => ?_)))))
 refine Zd (Zb (Za (Zg (Za ?_))))
 obtain ⟨r8,q32,h33⟩ := bind_some h30
 obtain ⟨c34,h35⟩ := Zq h33
 refine zr [1,3,4,5,91] 2 c34 (rq2 (fun hg => Rn _ _ _ (Xg q32 hg)) rqn) (Zb (cn h35 (fun _ h37 => ?_) (fun _ h38 => ?_)))
 exact Za (zg [2] 0 (Zb (Zf (ZQ (Zk (rr h37 ⟨rfl,er0 _⟩))))))
 exact Zd (XO (Zb (zg [1,3,4,5] 2 (rn h38))))
 exact ZF (Xl (re h31 ⟨rfl,kq⟩))
 intro e41 s42 o43
 rcases y9 with g10 | y11
 have h44 := Ya h40
 obtain ⟨rfl,l46⟩ := o43
 exact Y8 (XO (Xb (s' := ⟨96,[(1,.ref 0 0),(3,.ref 1 0),(4,.int .i64 p2)],u1⟩) (l46) (zg [1,3,4] 2 (rn h44))))
 have h45 := Yb h40
 obtain ⟨rfl,n47⟩ := o43
 exact ZQ (ZQ (Zk (rr h45 ⟨rfl,n47⟩)))
 exact ZF (Xl (re h18 ⟨rfl,kq⟩))
 intro e50 s51 o52
 rcases y12 with g13 | y14
 have h53 := Ya h49
 refine zi o52 (Za ?_)
 obtain ⟨r15,q56,h57⟩ := bind_some h53
 exact zr [2] 0 Zt (rq1 (Us _ _ _ _ _ _ q56) rqn) (Zb (Zf (er1 h57)))
 have h54 := Yb h49
 obtain ⟨rfl,n58⟩ := o52
 refine ZQ (Zk ?_)
 obtain rfl := Option.some.inj h54
 exact n58
theorem ZdZ (a0 : Zh) (r : Int) (h : M.J0 a0 = some r) : Fn Tryz.prog 170 [.agg (Zs a0)] (.pure (.int .i64 r)) := by
 unfold M.J0 at h
 refine ZE Tryz.func170 rfl (by kernel_rfl) (Za (zg [1] 1 (Zb (Za (zg [1,3] 2 (Zb (Za (Za (zg [1,3,8] 2 (Zb (cn h (fun _ h2 => ?_) (fun _ h3 => ?_))))))))))))
 refine Za (Za (zg [27] 0 (Zb (cn h2 (fun _ h5 => ?_) (fun _ h6 => ?_)))))
 exact Za (zg [2] 0 (Zb (Zf (Zk (Zk (er1 h5))))))
 exact Zd (Zb (Za (zg [2] 0 (Zb (Zf (Zk (er1 h6)))))))
 refine Zd (Zb (Za (Za ?_)))
 obtain ⟨r1,q7,h8⟩ := bind_some h3
 refine zr [1,3,31] 2 Zt (rq1 (XW _ _ _ _ q7) rqn) (Zb (cn h8 (fun _ h10 => ?_) (fun _ h11 => ?_)))
 exact Za (zg [2] 0 (Zb (Zf (Zk (er1 h10)))))
 refine Zd (Zb (Za (Za ?_)))
 obtain ⟨r2,q12,h13⟩ := bind_some h11
 obtain ⟨r3,q14,h15⟩ := bind_some h13
 refine zr [1,3,53] 2 Zt (rq2 (fun hg => Gp _ _ _ (Xg q12 hg)) (rq2 (fun hg => Gp _ _ _ (Xg q14 hg)) rqn)) (Zb (cn h15 (fun _ h17 => ?_) (fun _ h18 => ?_)))
 exact Za (zg [2] 0 (Zb (Zf (Zk (er1 h17)))))
 refine Zd (Zb (Za ?_))
 obtain ⟨r4,q19,h20⟩ := bind_some h18
 exact zr [2] 0 Zt (rq1 (Us _ _ _ _ _ _ q19) rqn) (Zb (Zf (er1 h20)))
theorem Zdk (a0 : Zh) (r : Int) (h : M.VJ a0 = some r) : Fn Tryz.prog 228 [.agg (Zs a0)] (.pure (.int .i64 r)) := by
 let u1 : Nat × D := (3,sL 4 XQ a0.Xv.Zo)
 let u2 : List Ob := [.box (Zs a0)]
 unfold M.VJ at h
 refine ZE Tryz.func228 rfl (by kernel_rfl) (Za (zg [1] 1 (Zb (Za (zg [1,3] 1 (Zb (Za (Za (zg [1,3,11] 1 (Zb (cn h (fun _ h2 => ?_) (fun _ h3 => ?_))))))))))))
 exact Za (zg [2] 0 (Zb (Zf (Zk (er1 h2)))))
 refine Zd (Zb (Za (Za (zg [1,3,4] 1 (Zb (Zg ?_))))))
 obtain ⟨y11,q42,h43⟩ := bind_some h3
 refine zl (fun (p1 : Int) => ⟨83,[(1,.ref 0 0),u1,(4,.int .i64 p1)],u2⟩) (Sum.elim (fun z => OutE 0 (fun z => ⟨83,[],[]⟩) z) (fun z => OutR Tryz.prog Tryz.f228 (.int .i64 z))) q42 ?_ ?_
 intro p1 y2 h4
 unfold M.Jj at h4
 refine Za (Za (zg [1,3,4,15] 1 (Zb (cn h4 (fun _ h6 => ?_) (fun _ h7 => ?_)))))
 refine Zd (Zb (Za (Zg (Za (Za ?_)))))
 obtain ⟨r3,q8,h9⟩ := bind_some h6
 obtain ⟨c10,h11⟩ := Zq h9
 refine zr [1,3,4,32] 1 c10 (rq2 (fun hg => XW _ _ _ _ (Xg q8 hg)) rqn) (Zb (cn h11 (fun _ h13 => ?_) (fun _ h14 => ?_)))
 exact Za (zg [2] 0 (Zb (Zf (Zk (ZQ (Zk (rr h13 ⟨rfl,er0 _⟩)))))))
 refine Zd (Zb (Za (Za ?_)))
 obtain ⟨r4,q15,h16⟩ := bind_some h14
 obtain ⟨r5,q17,h18⟩ := bind_some h16
 obtain ⟨c19,h20⟩ := Zq h18
 refine zr [1,3,4,66] 1 c19 (rq2 (fun hg => G1 _ _ _ (Xg q15 hg)) (rq2 (fun hg => G1 _ _ _ (Xg q17 hg)) rqn)) (Zb (cn h20 (fun _ h22 => ?_) (fun _ h23 => ?_)))
 exact Za (zg [2] 0 (Zb (Zf (Zk (ZQ (Zk (rr h22 ⟨rfl,er0 _⟩)))))))
 refine Zd (Zb (Za (zg [1,3,4,5] 1 (Zb (Zg ?_)))))
 obtain ⟨y8,q33,h34⟩ := bind_some h23
 refine zl (fun (p6 : Int) => ⟨83,[(1,.ref 0 0),u1,(4,.int .i64 p1),(5,.int .i64 p6)],u2⟩) (Sum.elim (fun z => OutE 2 (fun z => ⟨83,[(1,.ref 0 0),u1,(4,.int .i64 p1)],u2⟩) z) (fun z => OutR Tryz.prog Tryz.f228 (.int .i64 z))) q33 ?_ ?_
 intro p6 y7 h24
 unfold M.Ji at h24
 refine Za (Za (zg [1,3,4,5,69] 1 (Zb (cn h24 (fun _ h26 => ?_) (fun _ h27 => ?_)))))
 refine Zd (Zb (Za (Zg (Za ?_))))
 obtain ⟨c28,h29⟩ := Zq h26
 refine zc [1,3,4,5,82] 1 c28 (Zb (cn h29 (fun _ h31 => ?_) (fun _ h32 => ?_)))
 exact Za (zg [2] 0 (Zb (Zf (ZQ (Zk (rr h31 ⟨rfl,er0 _⟩))))))
 exact Zd (XO (Zb (zg [1,3,4,5] 1 (rn h32))))
 exact ZF (Xl (re h27 ⟨rfl,kq⟩))
 intro e35 s36 o37
 rcases y8 with g9 | y10
 have h38 := Ya h34
 obtain ⟨rfl,l40⟩ := o37
 exact Y8 (XO (Xb (s' := ⟨83,[(1,.ref 0 0),u1,(4,.int .i64 p1)],u2⟩) (l40) (zg [1,3,4] 1 (rn h38))))
 have h39 := Yb h34
 obtain ⟨rfl,n41⟩ := o37
 exact ZQ (ZQ (Zk (rr h39 ⟨rfl,n41⟩)))
 exact ZF (Xl (re h7 ⟨rfl,kc⟩))
 intro e44 s45 o46
 rcases y11 with g12 | y13
 have h47 := Ya h43
 exact zi o46 (Za (zg [2] 0 (Zb (Zf (er1 h47)))))
 have h48 := Yb h43
 obtain ⟨rfl,n50⟩ := o46
 refine ZQ (Zk ?_)
 obtain rfl := Option.some.inj h48
 exact n50
theorem ZaV (a0 : XI) (r : Int) (h : M.Jk a0 = some r) : Fn Tryz.prog 229 [.agg (G5 a0)] (.pure (.int .i64 r)) := by
 let u1 : List Ob := [.box (G5 a0)]
 let u2 : St := ⟨126,[(1,.ref 0 0)],u1⟩
 unfold M.Jk at h
 refine ZE Tryz.func229 rfl (by kernel_rfl) (Za (zg [1] 1 (Zb (Za (Za (zg [1,13] 1 (Zb (cn h (fun _ h2 => ?_) (fun _ h3 => ?_)))))))))
 exact Za (zg [2] 0 (Zb (Zf (Zk (er1 h2)))))
 refine Zd (Zb (Za (Za (zg [1,3] 1 (Zb (Zg ?_))))))
 obtain ⟨y9,q33,h34⟩ := bind_some h3
 refine zl (fun (p1 : Int) => ⟨126,[(1,.ref 0 0),(3,.int .i64 p1)],u1⟩) (Sum.elim (fun z => OutE 0 (fun z => u2) z) (fun z => OutR Tryz.prog Tryz.f229 (.int .i64 z))) q33 ?_ ?_
 intro p1 y2 h4
 unfold M.Qh at h4
 refine Za (Za (zg [1,3,18] 1 (Zb (cn h4 (fun _ h6 => ?_) (fun _ h7 => ?_)))))
 refine Zd (Zb (Za (Zg (Za (Za ?_)))))
 obtain ⟨r3,q8,h9⟩ := bind_some h6
 obtain ⟨c10,h11⟩ := Zq h9
 refine zr [1,3,27] 1 c10 (rq1 (WE _ _ q8) rqn) (Zb (cn h11 (fun _ h13 => ?_) (fun _ h14 => ?_)))
 exact Za (zg [2] 0 (Zb (Zf (Zk (ZQ (Zk (rr h13 ⟨rfl,er0 _⟩)))))))
 refine Zd (Zb (Za (zg [1,3,4] 1 (Zb (Zg ?_)))))
 obtain ⟨y6,q24,h25⟩ := bind_some h14
 refine zl (fun (p4 : Int) => ⟨126,[(1,.ref 0 0),(3,.int .i64 p1),(4,.int .i64 p4)],u1⟩) (Sum.elim (fun z => OutE 2 (fun z => ⟨126,[(1,.ref 0 0),(3,.int .i64 p1)],u1⟩) z) (fun z => OutR Tryz.prog Tryz.f229 (.int .i64 z))) q24 ?_ ?_
 intro p4 y5 h15
 unfold M.Qg at h15
 refine Za (Za (zg [1,3,4,30] 1 (Zb (cn h15 (fun _ h17 => ?_) (fun _ h18 => ?_)))))
 refine Zd (Zb (Za (Zg (Za ?_))))
 obtain ⟨c19,h20⟩ := Zq h17
 refine zc [1,3,4,43] 1 c19 (Zb (cn h20 (fun _ h22 => ?_) (fun _ h23 => ?_)))
 exact Za (zg [2] 0 (Zb (Zf (ZQ (Zk (rr h22 ⟨rfl,er0 _⟩))))))
 exact Zd (XO (Zb (zg [1,3,4] 1 (rn h23))))
 exact ZF (Xl (re h18 ⟨rfl,kq⟩))
 intro e26 s27 o28
 rcases y6 with g7 | y8
 have h29 := Ya h25
 obtain ⟨rfl,l31⟩ := o28
 exact Y8 (XO (Xb (s' := ⟨126,[(1,.ref 0 0),(3,.int .i64 p1)],u1⟩) (l31) (zg [1,3] 1 (rn h29))))
 have h30 := Yb h25
 obtain ⟨rfl,n32⟩ := o28
 exact ZQ (ZQ (Zk (rr h30 ⟨rfl,n32⟩)))
 exact ZF (Xl (re h7 ⟨rfl,kq⟩))
 intro e35 s36 o37
 rcases y9 with g10 | y11
 have h38 := Ya h34
 refine zi o37 (Za (Za (zg [1,47] 1 (Zb (cn h38 (fun _ h42 => ?_) (fun _ h43 => ?_))))))
 exact Za (zg [2] 0 (Zb (Zf (Zk (er1 h42)))))
 refine Zd (Zb (Za (Za (zg [1,5] 1 (Zb (Zg ?_))))))
 obtain ⟨y20,q73,h74⟩ := bind_some h43
 refine zl (fun (p12 : Int) => ⟨126,[(1,.ref 0 0),(5,.int .i64 p12)],u1⟩) (Sum.elim (fun z => OutE 4 (fun z => u2) z) (fun z => OutR Tryz.prog Tryz.f229 (.int .i64 z))) q73 ?_ ?_
 intro p12 y13 h44
 unfold M.Qj at h44
 refine Za (Za (zg [1,5,52] 1 (Zb (cn h44 (fun _ h46 => ?_) (fun _ h47 => ?_)))))
 refine Zd (Zb (Za (Zg (Za (Za ?_)))))
 obtain ⟨r14,q48,h49⟩ := bind_some h46
 obtain ⟨c50,h51⟩ := Zq h49
 refine zr [1,5,62] 1 c50 (rq1 (WE _ _ q48) rqn) (Zb (cn h51 (fun _ h53 => ?_) (fun _ h54 => ?_)))
 exact Za (zg [2] 0 (Zb (Zf (Zk (ZQ (Zk (rr h53 ⟨rfl,er0 _⟩)))))))
 refine Zd (Zb (Za (zg [1,5,6] 1 (Zb (Zg ?_)))))
 obtain ⟨y17,q64,h65⟩ := bind_some h54
 refine zl (fun (p15 : Int) => ⟨126,[(1,.ref 0 0),(5,.int .i64 p12),(6,.int .i64 p15)],u1⟩) (Sum.elim (fun z => OutE 6 (fun z => ⟨126,[(1,.ref 0 0),(5,.int .i64 p12)],u1⟩) z) (fun z => OutR Tryz.prog Tryz.f229 (.int .i64 z))) q64 ?_ ?_
 intro p15 y16 h55
 unfold M.Qi at h55
 refine Za (Za (zg [1,5,6,65] 1 (Zb (cn h55 (fun _ h57 => ?_) (fun _ h58 => ?_)))))
 refine Zd (Zb (Za (Zg (Za ?_))))
 obtain ⟨c59,h60⟩ := Zq h57
 refine zc [1,5,6,80] 1 c59 (Zb (cn h60 (fun _ h62 => ?_) (fun _ h63 => ?_)))
 exact Za (zg [2] 0 (Zb (Zf (ZQ (Zk (rr h62 ⟨rfl,er0 _⟩))))))
 exact Zd (XO (Zb (zg [1,5,6] 1 (rn h63))))
 exact ZF (Xl (re h58 ⟨rfl,kq⟩))
 intro e66 s67 o68
 rcases y17 with g18 | y19
 have h69 := Ya h65
 obtain ⟨rfl,l71⟩ := o68
 exact Y8 (XO (Xb (s' := ⟨126,[(1,.ref 0 0),(5,.int .i64 p12)],u1⟩) (l71) (zg [1,5] 1 (rn h69))))
 have h70 := Yb h65
 obtain ⟨rfl,n72⟩ := o68
 exact ZQ (ZQ (Zk (rr h70 ⟨rfl,n72⟩)))
 exact ZF (Xl (re h47 ⟨rfl,kq⟩))
 intro e75 s76 o77
 rcases y20 with g21 | y22
 have h78 := Ya h74
 refine zi o77 (Za (Za (zg [1,84] 1 (Zb (cn h78 (fun _ h82 => ?_) (fun _ h83 => ?_))))))
 exact Za (zg [2] 0 (Zb (Zf (Zk (er1 h82)))))
 refine Zd (Zb (Za (Za (zg [1,7] 1 (Zb (Zg ?_))))))
 obtain ⟨y32,q118,h119⟩ := bind_some h83
 refine zl (fun (p23 : Int) => ⟨126,[(1,.ref 0 0),(7,.int .i64 p23)],u1⟩) (Sum.elim (fun z => OutE 8 (fun z => ⟨126,[],[]⟩) z) (fun z => OutR Tryz.prog Tryz.f229 (.int .i64 z))) q118 ?_ ?_
 intro p23 y24 h84
 unfold M.Ql at h84
 refine Za (Za (zg [1,7,89] 1 (Zb (cn h84 (fun _ h86 => ?_) (fun _ h87 => ?_)))))
 refine Zd (Zb (Za (Zg (Za ?_))))
 obtain ⟨c88,h89⟩ := Zq h86
 refine zc [1,7,8] 2 c88 (Zb (Za (Za ?_)))
 obtain ⟨r25,q90,h91⟩ := bind_some h89
 obtain ⟨r26,q92,h93⟩ := bind_some h91
 refine zr [1,7,8,106] 2 Zt (rq1 (WE _ _ q90) (rq2 (fun hg => WE _ _ (Xg q92 hg)) rqn)) (Zb (cn h93 (fun _ h95 => ?_) (fun _ h96 => ?_)))
 exact Za (zg [2] 0 (Zb (Zf (Zk (ZQ (Zk (rr h95 ⟨rfl,er0 _⟩)))))))
 refine Zd (Zb (Za (Za (zg [1,7,8,111] 2 (Zb (cn h96 (fun _ h98 => ?_) (fun _ h99 => ?_)))))))
 exact Za (zg [2] 0 (Zb (Zf (Zk (ZQ (Zk (rr h98 ⟨rfl,er0 _⟩)))))))
 refine Zd (Zb (Za (zg [1,7,8,9] 2 (Zb (Zg ?_)))))
 obtain ⟨y29,q109,h110⟩ := bind_some h99
 refine zl (fun (p27 : Int) => ⟨126,[(1,.ref 0 0),(7,.int .i64 p23),(8,.ref 1 0),(9,.int .i64 p27)],[.box (G5 a0),.box (Xy (a0.Zv.getD p23.toNat default))]⟩) (Sum.elim (fun z => OutE 10 (fun z => ⟨126,[(1,.ref 0 0),(7,.int .i64 p23)],u1⟩) z) (fun z => OutR Tryz.prog Tryz.f229 (.int .i64 z))) q109 ?_ ?_
 intro p27 y28 h100
 unfold M.Qk at h100
 refine Za (Za (zg [1,7,8,9,114] 2 (Zb (cn h100 (fun _ h102 => ?_) (fun _ h103 => ?_)))))
 refine Zd (Zb (Za (Zg (Za ?_))))
 obtain ⟨c104,h105⟩ := Zq h102
 refine zc [1,7,8,9,125] 2 c104 (Zb (cn h105 (fun _ h107 => ?_) (fun _ h108 => ?_)))
 exact Za (zg [2] 0 (Zb (Zf (ZQ (Zk (rr h107 ⟨rfl,er0 _⟩))))))
 exact Zd (XO (Zb (zg [1,7,8,9] 2 (rn h108))))
 exact ZF (Xl (re h103 ⟨rfl,kc⟩))
 intro e111 s112 o113
 rcases y29 with g30 | y31
 have h114 := Ya h110
 obtain ⟨rfl,l116⟩ := o113
 exact Y8 (XO (Xb (s' := ⟨126,[(1,.ref 0 0),(7,.int .i64 p23)],u1⟩) (l116) (zg [1,7] 1 (rn h114))))
 have h115 := Yb h110
 obtain ⟨rfl,n117⟩ := o113
 exact ZQ (ZQ (Zk (rr h115 ⟨rfl,n117⟩)))
 exact ZF (Xl (re h87 ⟨rfl,kc⟩))
 intro e120 s121 o122
 rcases y32 with g33 | y34
 have h123 := Ya h119
 exact zi o122 (Za (zg [2] 0 (Zb (Zf (er1 h123)))))
 have h124 := Yb h119
 obtain ⟨rfl,n126⟩ := o122
 refine ZQ (Zk ?_)
 obtain rfl := Option.some.inj h124
 exact n126
 have h79 := Yb h74
 obtain ⟨rfl,n127⟩ := o77
 refine ZQ (Zk ?_)
 obtain rfl := Option.some.inj h79
 exact n127
 have h39 := Yb h34
 obtain ⟨rfl,n128⟩ := o37
 refine ZQ (Zk ?_)
 obtain rfl := Option.some.inj h39
 exact n128
theorem Zcm (a0 : Zh) (r : Int) (h : M.Q3 a0 = some r) : Fn Tryz.prog 171 [.agg (Zs a0)] (.pure (.int .i64 r)) := by
 unfold M.Q3 at h
 refine ZE Tryz.func171 rfl (by kernel_rfl) (Za (zg [1] 1 (Zb (Za (zg [1,3] 2 (Zb (Za (Za (zg [1,3,10] 2 (Zb (cn h (fun _ h2 => ?_) (fun _ h3 => ?_))))))))))))
 refine Za (Za (zg [40] 0 (Zb (cn h2 (fun _ h5 => ?_) (fun _ h6 => ?_)))))
 exact Za (zg [2] 0 (Zb (Zf (Zk (Zk (er1 h5))))))
 exact Zd (Zb (Za (zg [2] 0 (Zb (Zf (Zk (er1 h6)))))))
 refine Zd (Zb (Za (Za ?_)))
 obtain ⟨r1,q7,h8⟩ := bind_some h3
 obtain ⟨r2,q9,h10⟩ := bind_some h8
 refine zr [1,3,55] 2 Zt (rq2 (fun hg => XW _ _ _ _ (Xg q7 hg)) (rq2 (fun hg => XW _ _ _ _ (Xg q9 hg)) rqn)) (Zb (cn h10 (fun _ h12 => ?_) (fun _ h13 => ?_)))
 exact Za (zg [2] 0 (Zb (Zf (Zk (er1 h12)))))
 refine Zd (Zb (Za (Za ?_)))
 obtain ⟨r3,q14,h15⟩ := bind_some h13
 refine zr [1,3,4] 2 Zt (rq1 (Zdk _ _ q14) rqn) (Zb (Za (zg [1,3,4,59] 2 (Zb (cn h15 (fun _ h17 => ?_) (fun _ h18 => ?_))))))
 exact Za (zg [2] 0 (Zb (Zf (Zk (er1 h17)))))
 refine Zd (Zb (Za (Za ?_)))
 obtain ⟨r4,q19,h20⟩ := bind_some h18
 refine zr [1,3,5] 2 Zt (rq1 (ZaV _ _ q19) rqn) (Zb (Za (zg [1,3,5,64] 2 (Zb (cn h20 (fun _ h22 => ?_) (fun _ h23 => ?_))))))
 exact Za (zg [2] 0 (Zb (Zf (Zk (er1 h22)))))
 refine Zd (Zb (Za ?_))
 obtain ⟨r5,q24,h25⟩ := bind_some h23
 exact zr [2] 0 Zt (rq1 (Us _ _ _ _ _ _ q24) rqn) (Zb (Zf (er1 h25)))
theorem ZbE (a0 : Zh) (r : Int) (h : M.YB a0 = some r) : Fn Tryz.prog 115 [.agg (Zs a0)] (.pure (.int .i64 r)) := by
 unfold M.YB at h
 refine ZE Tryz.func115 rfl (by kernel_rfl) (Za (zg [1] 1 (Zb (Za (Za ?_)))))
 obtain ⟨r1,q1,h2⟩ := bind_some h
 refine zr [1,8] 1 Zt (rq1 (GN _ _ q1) rqn) (Zb (cn h2 (fun _ h4 => ?_) (fun _ h5 => ?_)))
 exact Za (zg [2] 0 (Zb (Zf (Zk (er1 h4)))))
 refine Zd (Zb (Za (Za ?_)))
 obtain ⟨r2,q6,h7⟩ := bind_some h5
 refine zr [1,12] 1 Zt (rq1 (XW _ _ _ _ q6) rqn) (Zb (cn h7 (fun _ h9 => ?_) (fun _ h10 => ?_)))
 exact Za (zg [2] 0 (Zb (Zf (Zk (er1 h9)))))
 refine Zd (Zb (Za ?_))
 obtain ⟨r3,q11,h12⟩ := bind_some h10
 obtain ⟨r4,q13,h14⟩ := bind_some h12
 obtain ⟨r5,q15,h16⟩ := bind_some h14
 obtain ⟨r6,q17,h18⟩ := bind_some h16
 obtain ⟨r7,q19,h20⟩ := bind_some h18
 obtain ⟨r8,q21,h22⟩ := bind_some h20
 obtain ⟨r9,q23,h24⟩ := bind_some h22
 obtain ⟨r10,q25,h26⟩ := bind_some h24
 obtain ⟨r11,q27,h28⟩ := bind_some h26
 obtain ⟨r12,q29,h30⟩ := bind_some h28
 refine rg [.pure (.int .i64 r3),.pure (.int .i64 r4),.pure (.int .i64 r5),.pure (.int .i64 r6),.pure (.int .i64 r7),.pure (.int .i64 r8),.pure (.int .i64 r9),.pure (.int .i64 r10),.pure (.int .i64 r11),.pure (.int .i64 r12)] [3] 0 ⟨52,[(3,.sl true 1 10 (fun i => List.take 1 (List.drop (i * 1) [.int .i64 r3,.int .i64 r4,.int .i64 r5,.int .i64 r6,.int .i64 r7,.int .i64 r8,.int .i64 r9,.int .i64 r10,.int .i64 r11,.int .i64 r12])))],[]⟩ [] [⟨true,162,[sL 12 Zj a0.Zc],.pure (.int .i64 r3)⟩,⟨true,163,[sL 2 Zx a0.YM],.pure (.int .i64 r4)⟩,⟨true,164,[.agg (Zs a0)],.pure (.int .i64 r5)⟩,⟨true,165,[sL 2 YL a0.YW],.pure (.int .i64 r6)⟩,⟨true,166,[.agg (Zs a0)],.pure (.int .i64 r7)⟩,⟨true,167,[.agg (Zs a0)],.pure (.int .i64 r8)⟩,⟨true,168,[.agg (Zs a0)],.pure (.int .i64 r9)⟩,⟨true,169,[.agg (Zs a0)],.pure (.int .i64 r10)⟩,⟨true,170,[.agg (Zs a0)],.pure (.int .i64 r11)⟩,⟨true,171,[.agg (Zs a0)],.pure (.int .i64 r12)⟩] Zt ⟨fun _ => Zcl a0.Zc r3 q11,fun _ => ZbC a0.YM r4 q13,fun _ => Zdg a0 r5 q15,fun _ => ZbD a0.YW r6 q17,fun _ => ZaU a0 r7 q19,fun _ => ZeC a0 r8 q21,fun _ => ZeD a0 r9 q23,fun _ => Zdj a0 r10 q25,fun _ => ZdZ a0 r11 q27,fun _ => Zcm a0 r12 q29,trivial⟩ (Xb (s' := ⟨52,[(3,sL 1 (ci .i64) ([r3,r4,r5,r6,r7,r8,r9,r10,r11,r12] : List Int))],[]⟩) (JM (.cons (Gb rfl (fun i hi => match i,hi with | 0,_ => rfl | 1,_ => rfl | 2,_ => rfl | 3,_ => rfl | 4,_ => rfl | 5,_ => rfl | 6,_ => rfl | 7,_ => rfl | 8,_ => rfl | 9,_ => rfl | n + 10,h => absurd h (by omega))) .nil) .nil) (Za (Za (zg [3,4] 0 (Zb (Zg ?_))))))
 obtain ⟨y15,q42,h43⟩ := bind_some h30
 refine zl (fun (p13 : Int) => ⟨52,[(3,sL 1 (ci .i64) ([r3,r4,r5,r6,r7,r8,r9,r10,r11,r12] : List Int)),(4,.int .i64 p13)],[]⟩) (Sum.elim (fun z => OutE 0 (fun z => ⟨52,[],[]⟩) z) (fun z => OutR Tryz.prog Tryz.f115 (.int .i64 z))) q42 ?_ ?_
 intro p13 y14 h31
 unfold M.Yp at h31
 refine Za (Za (zg [3,4,40] 0 (Zb (cn h31 (fun _ h33 => ?_) (fun _ h34 => ?_)))))
 refine Zd (Zb (Za (Zg (Za ?_))))
 obtain ⟨c35,h36⟩ := Zq h33
 refine zc [3,4,47] 0 c35 (Zb (cn h36 (fun _ h38 => ?_) (fun _ h39 => ?_)))
 refine Za ?_
 obtain ⟨c40,h41⟩ := Zq h38
 exact zc [2] 0 c40 (Zb (Zf (ZQ (Zk (rr h41 ⟨rfl,er0 _⟩)))))
 exact Zd (XO (Zb (zg [3,4] 0 (rn h39))))
 exact ZF (Xl (re h34 ⟨rfl,kq⟩))
 intro e44 s45 o46
 rcases y15 with g16 | y17
 have h47 := Ya h43
 exact zi o46 (Za (zg [2] 0 (Zb (Zf (er1 h47)))))
 have h48 := Yb h43
 obtain ⟨rfl,n50⟩ := o46
 refine ZQ (Zk ?_)
 obtain rfl := Option.some.inj h48
 exact n50
theorem Zgg (a0 : ZG) (r : Int) (h : M.Jv a0 = some r) : Fn Tryz.prog 83 [.agg (X6 a0)] (.pure (.int .i64 r)) := by
 let u1 : List Ob := [.box (X6 a0)]
 unfold M.Jv at h
 refine ZE Tryz.func83 rfl (by kernel_rfl) (Za (zg [1] 1 (Zb (Za (Za (zg [1,12] 1 (Zb (cn h (fun _ h2 => ?_) (fun _ h3 => ?_)))))))))
 exact Za (zg [2] 0 (Zb (Zf (Zk (er1 h2)))))
 refine Zd (Zb (Za (Za (zg [1,3] 1 (Zb (Zg ?_))))))
 obtain ⟨y20,q70,h71⟩ := bind_some h3
 refine zl (fun (p1 : Int) => ⟨86,[(1,.ref 0 0),(3,.int .i64 p1)],u1⟩) (Sum.elim (fun z => OutE 0 (fun z => ⟨86,[],[]⟩) z) (fun z => OutR Tryz.prog Tryz.f83 (.int .i64 z))) q70 ?_ ?_
 intro p1 y2 h4
 unfold M.JH at h4
 refine Za (Za (zg [1,3,17] 1 (Zb (cn h4 (fun _ h6 => ?_) (fun _ h7 => ?_)))))
 refine Zd (Zb (Za (Zg (Za (Za ?_)))))
 obtain ⟨r3,q8,h9⟩ := bind_some h6
 obtain ⟨c10,h11⟩ := Zq h9
 refine zr [1,3,4] 1 c10 (rq1 (ZbE _ _ q8) rqn) (Zb (Za (zg [1,3,4,27] 1 (Zb (cn h11 (fun _ h13 => ?_) (fun _ h14 => ?_))))))
 exact Za (zg [2] 0 (Zb (Zf (Zk (ZQ (Zk (rr h13 ⟨rfl,er0 _⟩)))))))
 refine Zd (Zb (Za (Za (zg [1,3,5] 1 (Zb (Zg ?_))))))
 obtain ⟨y6,q24,h25⟩ := bind_some h14
 refine zl (fun (p4 : Int) => ⟨86,[(1,.ref 0 0),(3,.int .i64 p1),(5,.int .i64 p4)],u1⟩) (Sum.elim (fun z => OutE 2 (fun z => ⟨86,[(1,.ref 0 0),(3,.int .i64 p1)],u1⟩) z) (fun z => OutR Tryz.prog Tryz.f83 (.int .i64 z))) q24 ?_ ?_
 intro p4 y5 h15
 unfold M.J1 at h15
 refine Za (Za (zg [1,3,5,31] 1 (Zb (cn h15 (fun _ h17 => ?_) (fun _ h18 => ?_)))))
 refine Zd (Zb (Za (Zg (Za ?_))))
 obtain ⟨c19,h20⟩ := Zq h17
 refine zc [1,3,5,46] 1 c19 (Zb (cn h20 (fun _ h22 => ?_) (fun _ h23 => ?_)))
 exact Za (zg [2] 0 (Zb (Zf (ZQ (Zk (rr h22 ⟨rfl,er0 _⟩))))))
 exact Zd (XO (Zb (zg [1,3,5] 1 (rn h23))))
 exact ZF (Xl (re h18 ⟨rfl,kq⟩))
 intro e26 s27 o28
 rcases y6 with g7 | y8
 have h29 := Ya h25
 refine zi o28 (Za (zg [1,3,6] 1 (Zb (Zg ?_))))
 obtain ⟨y17,q60,h61⟩ := bind_some h29
 refine zl (fun (p9 : Int) => ⟨86,[(1,.ref 0 0),(3,.int .i64 p1),(6,.int .i64 p9)],u1⟩) (Sum.elim (fun z => OutE 4 (fun z => ⟨86,[(1,.ref 0 0),(3,.int .i64 p1)],u1⟩) z) (fun z => OutR Tryz.prog Tryz.f83 (.int .i64 z))) q60 ?_ ?_
 intro p9 y10 h32
 unfold M.JG at h32
 refine Za (Za ?_)
 obtain ⟨c33,h34⟩ := Zq h32
 refine zc [1,3,6,55] 1 c33 (Zb (cn h34 (fun _ h36 => ?_) (fun _ h37 => ?_)))
 refine Zd (Zb (Za (Zg (Za ?_))))
 obtain ⟨c38,h39⟩ := Zq h36
 refine zc [1,3,6,7] 2 c38 (Zb (Za (zg [1,3,6,7,8] 2 (Zb (Zg ?_)))))
 obtain ⟨y14,q51,h52⟩ := bind_some h39
 refine zl (fun (p11 : Int) => ⟨86,[(1,.ref 0 0),(3,.int .i64 p1),(6,.int .i64 p9),(7,.ref 1 0),(8,.int .i64 p11)],[.box (X6 a0),.box (Zj (((a0.Ze.getD p1.toNat default).Zc).getD p9.toNat default))]⟩) (Sum.elim (fun z => OutE 6 (fun z => ⟨86,[(1,.ref 0 0),(3,.int .i64 p1),(6,.int .i64 p9)],u1⟩) z) (fun z => OutR Tryz.prog Tryz.f83 (.int .i64 z))) q51 ?_ ?_
 intro p11 y12 h40
 unfold M.JF at h40
 refine Za (Za (zg [1,3,6,7,8,69] 2 (Zb (cn h40 (fun _ h42 => ?_) (fun _ h43 => ?_)))))
 refine Zd (Zb (Za (Zg (Za ?_))))
 obtain ⟨r13,q44,h45⟩ := bind_some h42
 obtain ⟨c46,h47⟩ := Zq h45
 refine zr [1,3,6,7,8,85] 2 c46 (rq2 (fun hg => R7 _ _ _ (Xg q44 hg)) rqn) (Zb (cn h47 (fun _ h49 => ?_) (fun _ h50 => ?_)))
 exact Za (zg [2] 0 (Zb (Zf (ZQ (Zk (rr h49 ⟨rfl,er0 _⟩))))))
 exact Zd (XO (Zb (zg [1,3,6,7,8] 2 (rn h50))))
 exact ZF (Xl (re h43 ⟨rfl,kc⟩))
 intro e53 s54 o55
 rcases y14 with g15 | y16
 have h56 := Ya h52
 obtain ⟨rfl,l58⟩ := o55
 exact Y8 (XO (Xb (s' := ⟨86,[(1,.ref 0 0),(3,.int .i64 p1),(6,.int .i64 p9)],u1⟩) (l58) (zg [1,3,6] 1 (rn h56))))
 have h57 := Yb h52
 obtain ⟨rfl,n59⟩ := o55
 exact ZQ (ZQ (Zk (rr h57 ⟨rfl,n59⟩)))
 exact ZF (Xl (re h37 ⟨rfl,kq⟩))
 intro e62 s63 o64
 rcases y17 with g18 | y19
 have h65 := Ya h61
 obtain ⟨rfl,l67⟩ := o64
 exact Y8 (XO (Xb (s' := ⟨86,[(1,.ref 0 0),(3,.int .i64 p1)],u1⟩) (l67) (zg [1,3] 1 (rn h65))))
 have h66 := Yb h61
 obtain ⟨rfl,n68⟩ := o64
 exact ZQ (ZQ (Zk (rr h66 ⟨rfl,n68⟩)))
 have h30 := Yb h25
 obtain ⟨rfl,n69⟩ := o28
 exact ZQ (Zk (ZQ (Zk (rr h30 ⟨rfl,n69⟩))))
 exact ZF (Xl (re h7 ⟨rfl,kc⟩))
 intro e72 s73 o74
 rcases y20 with g21 | y22
 have h75 := Ya h71
 exact zi o74 (Za (zg [2] 0 (Zb (Zf (er1 h75)))))
 have h76 := Yb h71
 obtain ⟨rfl,n78⟩ := o74
 refine ZQ (Zk ?_)
 obtain rfl := Option.some.inj h76
 exact n78
theorem R8 (a0 : ZM) (a1 : ZM) (r : Int) (h : M.Vb a0 a1 = some r) : Fn Tryz.prog 29 [.agg (Xf a0),.agg (Xf a1)] (.pure (.int .i64 r)) := by
 unfold M.Vb at h
 refine ZE Tryz.func29 rfl (by kernel_rfl) (Za (zg [2,3] 2 (Zb (Za (Za (zg [2,3,23] 2 (Zb (cn h (fun _ h2 => ?_) (fun _ h3 => ?_)))))))))
 exact Za (zg [4] 0 (Zb (Zf (Zk (er1 h2)))))
 refine Zd (Zb (Za (Za (zg [26] 0 (Zb (cn h3 (fun _ h5 => ?_) (fun _ h6 => ?_)))))))
 exact Za (zg [4] 0 (Zb (Zf (Zk (er1 h5)))))
 exact Zd (Zb (Za (zg [4] 0 (Zb (Zf (er1 h6))))))
theorem ZfT (a0 : ZG) (r : JO × Int) (h : M.U0 a0 = some r) : Fn Tryz.prog 55 [.agg (X6 a0)] (.pure (.tup [.agg (KT r.1),.int .i64 r.2])) := by
 let u2 := X6 a0
 let u7 : List Ob := [.box u2,.box [.sl true 4 0 (fun _ => []),.sl true 1 0 (fun _ => [])]]
 let u8 : List Ob := [.box u2,.box [.sl true 4 0 (fun _ => []),.sl true 1 0 (fun _ => [])],.box [.sl true 4 0 (fun _ => []),.sl true 1 0 (fun _ => [])]]
 let u16 : List (Nat × D) := [(2,.ref 1 0),(5,.ref 2 0)]
 let u21 := (a0.Ze.length : Int)
 let u28 := List Zi
 unfold M.U0 at h
 refine ZE Tryz.func55 rfl (by kernel_rfl) ?_
 refine Za (rg0 [1,2] 2 ⟨186,[(1,.ref 0 0),(2,.ref 1 0)],u7⟩ ?_)
 refine Zb (Za (Za ?_))
 obtain ⟨r1,q1,h2⟩ := bind_some h
 refine rg [.pure (.int .i64 r1)] [1,2,4] 2 ⟨186,[(1,.ref 0 0),(2,.ref 1 0),(4,.int .i64 r1)],u7⟩ [] [⟨true,83,[.agg u2],.pure (.int .i64 r1)⟩] Zt ⟨fun _ => Zgg a0 r1 q1,trivial⟩ ?_
 refine Zb (Za (rg0 [1,2,4,16] 2 ⟨186,[(1,.ref 0 0),(2,.ref 1 0),(4,.int .i64 r1),(16,.bool (r1 != 0))],u7⟩ ?_))
 refine Zb ?_
 refine cnd (r1 != 0) (fun b3 => ?_) (fun b3 => ?_)
 have h4 := GD b3 h2
 refine Za (rg0 [2,3] 2 ⟨186,[(2,.ref 1 0),(3,.int .i64 r1)],u7⟩ ?_)
 refine Zb (Zf (Zk ?_))
 obtain rfl := Option.some.inj h4
 exact er (.tup [.agg [.sl false 4 0 (fun _ => []),.sl false 1 0 (fun _ => [])],.int .i64 r1]) (Zbr (.cons (Kw (.cons VV (.cons VV .nil))) (.cons ASub.rfl .nil)))
 have h5 := GE b3 h2
 refine Zd (Zb (Za (rg0 [1,2,5] 3 ⟨186,[(1,.ref 0 0),(2,.ref 1 0),(5,.ref 2 0)],u8⟩ ?_)))
 refine Zb (Za (Za (rg0 [1,2,5,6] 3 ⟨186,[(1,.ref 0 0),(2,.ref 1 0),(5,.ref 2 0),(6,.int .i64 0)],u8⟩ ?_)))
 refine Zb (Zg ?_)
 refine W6 (s' := ⟨186,[(1,.ref 0 0),(2,.ref 1 0),(5,.ref 2 0),(6,.int .i64 0)],[.box u2,.box [.sl true 4 0 (fun _ => []),.sl true 1 0 (fun _ => [])],.box [.asl 3 0 ([] : List Zi).length,.sl true 1 0 (fun _ => [])],rA 4 hdDom ([] : List Zi) (fun _ => nilV),rF 2 Xm Zi.ZR ([] : List Zi) (fun _ => nilV)]⟩) (Le.trans (s' := ⟨186,[(1,.ref 0 0),(2,.ref 1 0),(5,.ref 2 0),(6,.int .i64 0)],[.box u2,.box [.sl true 4 0 (fun _ => []),.sl true 1 0 (fun _ => [])],.box [.asl 3 0 0,.sl true 1 0 (fun _ => [])],.arr 4 0 (fun i => ZV (([] : List Zi).getD i default))]⟩) (Zie (nt := 186) (e := [(1,.ref 0 0),(2,.ref 1 0),(5,.ref 2 0),(6,.int .i64 0)]) (H := u8) (cells := [.sl true 4 0 (fun _ => []),.sl true 1 0 (fun _ => [])]) (wd := 4) (f := fun _ => []) 2 0 rfl rfl 4 (fun i => ZV (([] : List Zi).getD i default))) (Zid (H := [.box u2,.box [.sl true 4 0 (fun _ => []),.sl true 1 0 (fun _ => [])],.box [.asl 3 0 0,.sl true 1 0 (fun _ => [])]]) (wd := 4) (wi := 2) hdDom Xm Zi.ZR (fun i => ZV (([] : List Zi).getD i default)))) ?_
 obtain ⟨y26,q114,h115⟩ := bind_some h5
 let u9 : List Ob := [.box u2,.box [.sl true 4 0 (fun _ => []),.sl true 1 0 (fun _ => [])],.box [sL 4 ZV y26,.sl true 1 0 (fun _ => [])]]
 let u32 := (y26.length : Int)
 refine Kv (Zbs (f := M.WM a0) (S := fun (p14 : u28 × Int) (vs : Nat → Value) => ⟨186,[(1,.ref 0 0),(2,.ref 1 0),(5,.ref 2 0),(6,.int .i64 p14.2)],[.box u2,.box [.sl true 4 0 (fun _ => []),.sl true 1 0 (fun _ => [])],.box [.asl 3 0 p14.1.length,.sl true 1 0 (fun _ => [])],rA 4 hdDom p14.1 vs,rF 2 Xm Zi.ZR p14.1 vs]⟩) (O := (fun z => OutL 0 (fun (z : List Zi) (vs : Nat → Value) => ⟨186,u16,[.box u2,.box [.sl true 4 0 (fun _ => []),.sl true 1 0 (fun _ => [])],.box [.asl 3 0 z.length,.sl true 1 0 (fun _ => [])],rA 4 hdDom z vs,rF 2 Xm Zi.ZR z vs]⟩) z)) ?_ (g := (fun _ => nilV)) (x := (([] : List Zi),0)) (y := y26) (WG q114)) ?_
 intro p14 y15 v14 h62
 let u17 := (a0.Ze.getD p14.2.toNat default).Zc
 let u31 := (u17.length : Int)
 unfold M.WM at h62
 refine Za (Za (rg0 [1,2,5,6,24] 5 ⟨186,[(1,.ref 0 0),(2,.ref 1 0),(5,.ref 2 0),(6,.int .i64 p14.2),(24,.bool (decide (p14.2 < u21)))],[.box u2,.box [.sl true 4 0 (fun _ => []),.sl true 1 0 (fun _ => [])],.box [.asl 3 0 p14.1.length,.sl true 1 0 (fun _ => [])],rA 4 hdDom p14.1 v14,rF 2 Xm Zi.ZR p14.1 v14]⟩ ?_))
 refine Zb ?_
 refine cnd (decide (p14.2 < u21)) (fun b63 => ?_) (fun b63 => ?_)
 have h64 := GD b63 h62
 refine Zd (Zb (Za (Zg (Za (rg0 [1,2,5,6,7] 5 ⟨186,[(1,.ref 0 0),(2,.ref 1 0),(5,.ref 2 0),(6,.int .i64 p14.2),(7,.int .i64 0)],[.box u2,.box [.sl true 4 0 (fun _ => []),.sl true 1 0 (fun _ => [])],.box [.asl 3 0 p14.1.length,.sl true 1 0 (fun _ => [])],rA 4 hdDom p14.1 v14,rF 2 Xm Zi.ZR p14.1 v14]⟩ ?_)))))
 refine Zb (Zg ?_)
 obtain ⟨y25,q108,h109⟩ := bind_some h64
 refine Kv (Zbs (f := M.WL a0 p14) (S := fun (p16 : u28 × Int) (vs : Nat → Value) => ⟨186,[(1,.ref 0 0),(2,.ref 1 0),(5,.ref 2 0),(6,.int .i64 p14.2),(7,.int .i64 p16.2)],[.box u2,.box [.sl true 4 0 (fun _ => []),.sl true 1 0 (fun _ => [])],.box [.asl 3 0 p16.1.length,.sl true 1 0 (fun _ => [])],rA 4 hdDom p16.1 vs,rF 2 Xm Zi.ZR p16.1 vs]⟩) (O := (fun z => OutL 2 (fun (z : List Zi) (vs : Nat → Value) => ⟨186,[(1,.ref 0 0),(2,.ref 1 0),(5,.ref 2 0),(6,.int .i64 p14.2)],[.box u2,.box [.sl true 4 0 (fun _ => []),.sl true 1 0 (fun _ => [])],.box [.asl 3 0 z.length,.sl true 1 0 (fun _ => [])],rA 4 hdDom z vs,rF 2 Xm Zi.ZR z vs]⟩) z)) ?_ (g := v14) (x := (p14.1,0)) (y := y25) (WG q108)) ?_
 intro p16 y17 v16 h66
 let u1 := u17.getD p16.2.toNat default
 let u5 := (p16.1.length : Int)
 let u10 := Zj u1
 let u34 := ((u1.ZL) == 0) || (u1.Jp)
 unfold M.WL at h66
 refine Za (Za ?_)
 obtain ⟨c67,h68⟩ := Zq h66
 refine rgc [1,2,5,6,7,35] 5 ⟨186,[(1,.ref 0 0),(2,.ref 1 0),(5,.ref 2 0),(6,.int .i64 p14.2),(7,.int .i64 p16.2),(35,.bool (decide (p16.2 < u31)))],[.box u2,.box [.sl true 4 0 (fun _ => []),.sl true 1 0 (fun _ => [])],.box [.asl 3 0 p16.1.length,.sl true 1 0 (fun _ => [])],rA 4 hdDom p16.1 v16,rF 2 Xm Zi.ZR p16.1 v16]⟩ [decide (0 ≤ p14.2),decide (p14.2 < u21)] c67 ?_
 refine Zb ?_
 refine cnd (decide (p16.2 < u31)) (fun b69 => ?_) (fun b69 => ?_)
 have h70 := GD b69 h68
 refine Zd (Zb ?_)
 refine Vo (fun (p18 : u28 × (Nat → Value)) => ⟨186,[(1,.ref 0 0),(2,.ref 1 0),(5,.ref 2 0),(6,.int .i64 p14.2),(7,.int .i64 p16.2)],[.box u2,.box [.sl true 4 0 (fun _ => []),.sl true 1 0 (fun _ => [])],.box [.asl 3 0 p18.1.length,.sl true 1 0 (fun _ => [])],rA 4 hdDom p18.1 p18.2,rF 2 Xm Zi.ZR p18.1 p18.2]⟩) (fun p18 => M.Uj p16 p18.1 = some y17) ?_ ?_
 intro p18 h73
 unfold M.Uj at h73
 refine rg0 [1,2,5,6,7] 5 ⟨186,[(1,.ref 0 0),(2,.ref 1 0),(5,.ref 2 0),(6,.int .i64 p14.2),(7,.int .i64 (wr .i64 (p16.2 + 1)))],[.box u2,.box [.sl true 4 0 (fun _ => []),.sl true 1 0 (fun _ => [])],.box [.asl 3 0 p18.1.length,.sl true 1 0 (fun _ => [])],rA 4 hdDom p18.1 p18.2,rF 2 Xm Zi.ZR p18.1 p18.2]⟩ ?_
 obtain rfl := Option.some.inj h73
 exact ZaC p18.2 (UR)
 intro k72
 refine Zg (Za ?_)
 obtain ⟨c74,h75⟩ := Zq h70
 refine rgc [1,2,5,6,7,8] 6 ⟨186,[(1,.ref 0 0),(2,.ref 1 0),(5,.ref 2 0),(6,.int .i64 p14.2),(7,.int .i64 p16.2),(8,.ref 5 0)],[.box u2,.box [.sl true 4 0 (fun _ => []),.sl true 1 0 (fun _ => [])],.box [.asl 3 0 p16.1.length,.sl true 1 0 (fun _ => [])],rA 4 hdDom p16.1 v16,rF 2 Xm Zi.ZR p16.1 v16,.box u10]⟩ [decide (0 ≤ p14.2),decide (p14.2 < u21),decide (0 ≤ p16.2),decide (p16.2 < u31)] c74 ?_
 refine Zb (Za (Za (rg0 [1,2,5,6,7,8,53] 6 ⟨186,[(1,.ref 0 0),(2,.ref 1 0),(5,.ref 2 0),(6,.int .i64 p14.2),(7,.int .i64 p16.2),(8,.ref 5 0),(53,.bool u34)],[.box u2,.box [.sl true 4 0 (fun _ => []),.sl true 1 0 (fun _ => [])],.box [.asl 3 0 p16.1.length,.sl true 1 0 (fun _ => [])],rA 4 hdDom p16.1 v16,rF 2 Xm Zi.ZR p16.1 v16,.box u10]⟩ ?_)))
 refine Zb ?_
 refine cnd u34 (fun b76 => ?_) (fun b76 => ?_)
 have h77 := GD b76 h75
 refine ZF (Xl (Y8 ?_))
 exact Xb (Le.trans (s' := ⟨186,[(1,.ref 0 0),(2,.ref 1 0),(5,.ref 2 0),(6,.int .i64 p14.2),(7,.int .i64 p16.2)],[.box u2,.box [.sl true 4 0 (fun _ => []),.sl true 1 0 (fun _ => [])],.box [.asl 3 0 p16.1.length,.sl true 1 0 (fun _ => [])],rA 4 hdDom p16.1 v16,rF 2 Xm Zi.ZR p16.1 v16,.box u10]⟩) (kp [1,2,5,6,7]) (UQ (n := 5) (by kernel_rfl))) (k72 (p16.1,v16) h77)
 have h78 := GE b76 h75
 refine Zd (Zb (Za ?_))
 obtain ⟨r19,q79,h80⟩ := bind_some h78
 let u12 := Xf r19
 refine rg [.pure (.agg u12)] [1,2,5,6,7,8,9] 7 ⟨186,[(1,.ref 0 0),(2,.ref 1 0),(5,.ref 2 0),(6,.int .i64 p14.2),(7,.int .i64 p16.2),(8,.ref 5 0),(9,.ref 6 0)],[.box u2,.box [.sl true 4 0 (fun _ => []),.sl true 1 0 (fun _ => [])],.box [.asl 3 0 p16.1.length,.sl true 1 0 (fun _ => [])],rA 4 hdDom p16.1 v16,rF 2 Xm Zi.ZR p16.1 v16,.box u10,.box u12]⟩ [] [⟨true,84,[.int .u32 (u1.Zn),.int .i64 (u1.ZL)],.pure (.agg u12)⟩] Zt ⟨fun _ => Ki (u1.Zn) (u1.ZL) r19 q79,trivial⟩ ?_
 refine Zb (Za (rg0 [1,2,5,6,7,8,9,10] 7 ⟨186,[(1,.ref 0 0),(2,.ref 1 0),(5,.ref 2 0),(6,.int .i64 p14.2),(7,.int .i64 p16.2),(8,.ref 5 0),(9,.ref 6 0),(10,.int .i64 0)],[.box u2,.box [.sl true 4 0 (fun _ => []),.sl true 1 0 (fun _ => [])],.box [.asl 3 0 p16.1.length,.sl true 1 0 (fun _ => [])],rA 4 hdDom p16.1 v16,rF 2 Xm Zi.ZR p16.1 v16,.box u10,.box u12]⟩ ?_))
 refine Zb (Za (Zg ?_))
 obtain ⟨y23,q89,h90⟩ := bind_some h80
 let u19 := p16.1.getD (0 + y23.toNat) default
 let u3 := !((((u19.Zl).Zn) == r19.Zn) && ((((u19.Zl).ZL) == r19.ZL) && true))
 let u6 := p16.1.length - y23.toNat
 let u18 := y23.toNat - 0
 let u24 := (u18 + 1) + (0 + u6)
 let u30 := (y23 == u5) || u3
 let u26 := u30 || ((u19.XH) != (u1.XH))
 let u29 := (u18 + 1) * 48 ≤ 140737488355328
 let u35 := u24 * 48 ≤ 140737488355328
 refine W6 (s' := ⟨186,[(1,.ref 0 0),(2,.ref 1 0),(5,.ref 2 0),(6,.int .i64 p14.2),(7,.int .i64 p16.2),(8,.ref 5 0),(9,.ref 6 0),(10,.int .i64 0)],[.box u2,.box [.sl true 4 0 (fun _ => []),.sl true 1 0 (fun _ => [])],.box [.asl 3 0 p16.1.length,.sl true 1 0 (fun _ => [])],rA 4 hdDom p16.1 v16,rF 2 Xm Zi.ZR p16.1 v16,.box u10,.box u12]⟩) (UR) ?_
 refine Kv (Zfo (f := M.WK a0 p14 p16 r19) (S := fun (p20 : Int) => ⟨186,[(1,.ref 0 0),(2,.ref 1 0),(5,.ref 2 0),(6,.int .i64 p14.2),(7,.int .i64 p16.2),(8,.ref 5 0),(9,.ref 6 0),(10,.int .i64 p20)],[.box u2,.box [.sl true 4 0 (fun _ => []),.sl true 1 0 (fun _ => [])],.box [.asl 3 0 p16.1.length,.sl true 1 0 (fun _ => [])],rA 4 hdDom p16.1 v16,rF 2 Xm Zi.ZR p16.1 v16,.box u10,.box u12]⟩) (O := (fun z => OutE 4 (fun z => ⟨186,[(1,.ref 0 0),(2,.ref 1 0),(5,.ref 2 0),(6,.int .i64 p14.2),(7,.int .i64 p16.2),(8,.ref 5 0),(9,.ref 6 0),(10,.int .i64 z)],[.box u2,.box [.sl true 4 0 (fun _ => []),.sl true 1 0 (fun _ => [])],.box [.asl 3 0 p16.1.length,.sl true 1 0 (fun _ => [])],rA 4 hdDom p16.1 v16,rF 2 Xm Zi.ZR p16.1 v16,.box u10,.box u12]⟩) z)) ?_ (x := 0) (y := y23) (WG q89)) ?_
 intro p20 y21 h81
 let u13 := p16.1.getD (0 + p20.toNat) default
 let u4 := (((u13.Zl).Zn) == r19.Zn) && ((((u13.Zl).ZL) == r19.ZL) && true)
 let u15 := decide (p20 < u5)
 let u27 := decide (0 ≤ p20)
 unfold M.WK at h81
 refine Za (Za ?_)
 obtain ⟨r22,q82,h83⟩ := bind_some h81
 let u20 := decide (r22 < 0)
 let u22 := u15 && (u20 || (u4 && (decide ((u13.XH) < (u1.XH)))))
 obtain ⟨c84,h85⟩ := Zq h83
 refine rg [.pure (.int .i64 r22)] [1,2,5,6,7,8,9,10,95] 7 ⟨186,[(1,.ref 0 0),(2,.ref 1 0),(5,.ref 2 0),(6,.int .i64 p14.2),(7,.int .i64 p16.2),(8,.ref 5 0),(9,.ref 6 0),(10,.int .i64 p20),(95,.bool u22)],[.box u2,.box [.sl true 4 0 (fun _ => []),.sl true 1 0 (fun _ => [])],.box [.asl 3 0 p16.1.length,.sl true 1 0 (fun _ => [])],rA 4 hdDom p16.1 v16,rF 2 Xm Zi.ZR p16.1 v16,.box u10,.box u12]⟩ [guardB u15 u27,guardB u15 u15,guardB (u15 && !u20) u27,guardB (u15 && !u20) u15,guardB ((u15 && !u20) && u4) u27,guardB ((u15 && !u20) && u4) u15] [⟨decide (p20 < u5),29,[.agg (Xf (u13.Zl)),.agg u12],.pure (.int .i64 r22)⟩] c84 ⟨fun hg => R8 (u13.Zl) r19 r22 (Xg q82 hg),trivial⟩ ?_
 refine Zb ?_
 refine cnd u22 (fun b86 => ?_) (fun b86 => ?_)
 have h87 := GD b86 h85
 refine Zd (Zb (Zg (rg0 [1,2,5,6,7,8,9,10] 7 ⟨186,[(1,.ref 0 0),(2,.ref 1 0),(5,.ref 2 0),(6,.int .i64 p14.2),(7,.int .i64 p16.2),(8,.ref 5 0),(9,.ref 6 0),(10,.int .i64 (wr .i64 (p20 + 1)))],[.box u2,.box [.sl true 4 0 (fun _ => []),.sl true 1 0 (fun _ => [])],.box [.asl 3 0 p16.1.length,.sl true 1 0 (fun _ => [])],rA 4 hdDom p16.1 v16,rF 2 Xm Zi.ZR p16.1 v16,.box u10,.box u12]⟩ ?_)))
 refine XO ?_
 obtain rfl := Option.some.inj h87
 exact Zg0 (UR)
 have h88 := GE b86 h85
 refine ZF (Xl ?_)
 obtain rfl := Option.some.inj h88
 exact Zg1 ⟨rfl,kp [1,2,5,6,7,8,9,10]⟩
 intro e91 s92 o93
 obtain ⟨rfl,l94⟩ := o93
 refine Y8 ?_
 refine Xb (s' := ⟨186,[(1,.ref 0 0),(2,.ref 1 0),(5,.ref 2 0),(6,.int .i64 p14.2),(7,.int .i64 p16.2),(8,.ref 5 0),(9,.ref 6 0),(10,.int .i64 y23)],[.box u2,.box [.sl true 4 0 (fun _ => []),.sl true 1 0 (fun _ => [])],.box [.asl 3 0 p16.1.length,.sl true 1 0 (fun _ => [])],rA 4 hdDom p16.1 v16,rF 2 Xm Zi.ZR p16.1 v16,.box u10,.box u12]⟩) (l94) ?_
 refine Vo (fun (p24 : u28 × (Nat → Value)) => ⟨186,[(1,.ref 0 0),(2,.ref 1 0),(5,.ref 2 0),(6,.int .i64 p14.2),(7,.int .i64 p16.2),(10,.int .i64 y23)],[.box u2,.box [.sl true 4 0 (fun _ => []),.sl true 1 0 (fun _ => [])],.box [.asl 3 0 p24.1.length,.sl true 1 0 (fun _ => [])],rA 4 hdDom p24.1 p24.2,rF 2 Xm Zi.ZR p24.1 p24.2]⟩) (fun p24 => M.Uk p14 p16 y23 p24.1 = some y17) ?_ ?_
 intro p24 h96
 let u14 := p24.1.getD (0 + y23.toNat) default
 let u23 := u14.ZR.length + 1
 unfold M.Uk at h96
 obtain ⟨c97,h98⟩ := Zq h96
 have g1 : 0 ≤ y23 := of_decide_eq_true (c97 _ (by simp only [List.mem_cons,true_or]))
 have g2 : y23 < (p24.1.length : Int) := of_decide_eq_true (c97 _ (by simp only [List.mem_cons,true_or,or_true]))
 have g3 : (((p24.1.getD (0 + y23.toNat) default).ZR).length + 1) * 16 ≤ 140737488355328 := of_decide_eq_true (c97 _ (by simp only [List.mem_cons,true_or,or_true]))
 refine W6 (Zlh (idf := 4) (0 + y23.toNat) rfl) ?_
 refine rgvB [1] [.gone,.gone,.box [.asl 3 0 p24.1.length,.sl true 1 0 (fun _ => [])]] [[.box u2,.box [.sl true 4 0 (fun _ => []),.sl true 1 0 (fun _ => [])],.box [.asl 3 0 p24.1.length,.sl true 1 0 (fun _ => [])],rA 4 hdDom p24.1 p24.2,.fam (0 + y23.toNat) (fun v => pB (v = p24.2 (0 + y23.toNat))) p24.1.length 2 p24.2 (rls Xm Zi.ZR p24.1)],[.box u2,.box [.sl true 4 0 (fun _ => []),.sl true 1 0 (fun _ => [])],.box [.asl 3 0 p24.1.length,.sl true 1 0 (fun _ => [])],rA 4 hdDom p24.1 p24.2,.fam (0 + y23.toNat) (fun _ => false) p24.1.length 2 (updV p24.2 (0 + y23.toNat) nilV) (updL (rls Xm Zi.ZR p24.1) (0 + y23.toNat) (0,fun _ => [])),.arr 2 u23 (app (rls Xm Zi.ZR p24.1 (0 + y23.toNat)).2 (rls Xm Zi.ZR p24.1 (0 + y23.toNat)).1 (fun i => List.take 2 (List.drop (i * 2) [.int .i64 p14.2,.int .i64 p16.2])))]] 14 [] [1,2,5,6,7,144,145,156] 6 ⟨186,[(1,.ref 0 0),(2,.ref 1 0),(5,.ref 2 0),(6,.int .i64 p14.2),(7,.int .i64 p16.2),(144,.asl 3 0 p24.1.length),(145,.int .i64 y23),(156,.asl 5 0 u23)],[.box u2,.box [.sl true 4 0 (fun _ => []),.sl true 1 0 (fun _ => [])],.box [.asl 3 0 p24.1.length,.sl true 1 0 (fun _ => [])],rA 4 hdDom p24.1 p24.2,.fam (0 + y23.toNat) (fun _ => false) p24.1.length 2 (updV p24.2 (0 + y23.toNat) nilV) (updL (rls Xm Zi.ZR p24.1) (0 + y23.toNat) (0,fun _ => [])),.arr 2 u23 (app (rls Xm Zi.ZR p24.1 (0 + y23.toNat)).2 (rls Xm Zi.ZR p24.1 (0 + y23.toNat)).1 (fun i => List.take 2 (List.drop (i * 2) [.int .i64 p14.2,.int .i64 p16.2])))]⟩ [decide (0 ≤ y23),decide (y23 < (p24.1.length : Int)),pB (p24.2 (0 + y23.toNat) = p24.2 (0 + y23.toNat)),decide ((0 + y23.toNat) < p24.1.length),decide (u23 * 16 ≤ 140737488355328)] [] ?_ trivial ?_ _ (Zjw (idf := 4) 156 (0 + y23.toNat) rfl rfl rfl ?_ rfl) [] [1,2,5,6,7] 5 (fun w => ⟨186,[(1,.ref 0 0),(2,.ref 1 0),(5,.ref 2 0),(6,.int .i64 p14.2),(7,.int .i64 p16.2)],[.box u2,.box [.sl true 4 0 (fun _ => []),.sl true 1 0 (fun _ => [])],.box [.asl 3 0 p24.1.length,.sl true 1 0 (fun _ => [])],.arr 4 p24.1.length (fun j => bif Nat.beq j (0 + y23.toNat) then splice (hdDom u14 ++ [.val (p24.2 (0 + y23.toNat))]) [.val w] 3 else hdDom (p24.1.getD j default) ++ [.val (p24.2 j)]),.fam 0 (fun _ => false) p24.1.length 2 (updV (updV p24.2 (0 + y23.toNat) nilV) (0 + y23.toNat) w) (updL (updL (rls Xm Zi.ZR p24.1) (0 + y23.toNat) (0,fun _ => [])) (0 + y23.toNat) (u14.ZR.length + 1,(app (rls Xm Zi.ZR p24.1 (0 + y23.toNat)).2 (rls Xm Zi.ZR p24.1 (0 + y23.toNat)).1 (fun i => List.take 2 (List.drop (i * 2) [.int .i64 p14.2,.int .i64 p16.2])))))]⟩) (fun _ => [decide (0 ≤ y23),decide (y23 < (p24.1.length : Int))]) (fun _ => []) ?_ (fun _ => trivial) (fun w => ?_)
 · exact am (decide_eq_true g1) (am (decide_eq_true g2) (am (Zlg rfl) (am (decide_eq_true (by omega)) (am (decide_eq_true g3) Zt))))
 · intro x hx
   simp only [List.mem_cons,List.not_mem_nil,or_false] at hx
   rcases hx with rfl | rfl <;> exact ⟨rfl,trivial⟩
 · rw [Uf]; rfl
 · exact fun _ => am (decide_eq_true g1) (am (decide_eq_true g2) Zt)
 refine XO ?_
 exact Xb (Le.trans (ZjB 3 4 hdDom Xm Zi.ZR p24.1 (⟨(p24.1.getD (0 + y23.toNat) default).Zl,(p24.1.getD (0 + y23.toNat) default).XH,((p24.1.getD (0 + y23.toNat) default).ZR) ++ [(⟨p14.2,p16.2⟩ : Vz)]⟩ : Zi) p24.2 (0 + y23.toNat) w ((p24.1.getD (0 + y23.toNat) default).ZR.length + 1) (app (rls Xm Zi.ZR p24.1 (0 + y23.toNat)).2 (rls Xm Zi.ZR p24.1 (0 + y23.toNat)).1 (fun i => List.take 2 (List.drop (i * 2) [.int .i64 p14.2,.int .i64 p16.2]))) _ _ _ (by decide) rfl rfl (fun j _ hj => by rw [Zcg hj]; rfl) (fun _ => by rw [Nat.beq_refl]; rfl) (fun j hj => GA hj) (fun j hj => Zbo hj) (by simp) (fun i hi => Zaz Xm (p24.1.getD (0 + y23.toNat) default).ZR (⟨p14.2,p16.2⟩ : Vz) (fun i => List.take 2 (List.drop (i * 2) [.int .i64 p14.2,.int .i64 p16.2])) rfl i hi)) (JM (.cons Sub.rfl (.cons Sub.rfl (.cons Sub.rfl (.cons Sub.rfl (.cons Sub.rfl .nil))))) (.cons .rfl (.cons .rfl (.cons (.box (.cons (ZfG (by simp)) (.cons CSub.rfl .nil))) (.cons .rfl (.cons .rfl .nil))))))) (k72 (p24.1.set (0 + y23.toNat) (⟨(p24.1.getD (0 + y23.toNat) default).Zl,(p24.1.getD (0 + y23.toNat) default).XH,((p24.1.getD (0 + y23.toNat) default).ZR) ++ [(⟨p14.2,p16.2⟩ : Vz)]⟩ : Zi),updV p24.2 (0 + y23.toNat) w) h98)
 intro k95
 refine Za ?_
 obtain ⟨c99,h100⟩ := Zq h90
 refine rgc [1,2,5,6,7,8,9,10,123] 7 ⟨186,[(1,.ref 0 0),(2,.ref 1 0),(5,.ref 2 0),(6,.int .i64 p14.2),(7,.int .i64 p16.2),(8,.ref 5 0),(9,.ref 6 0),(10,.int .i64 y23),(123,.bool u26)],[.box u2,.box [.sl true 4 0 (fun _ => []),.sl true 1 0 (fun _ => [])],.box [.asl 3 0 p16.1.length,.sl true 1 0 (fun _ => [])],rA 4 hdDom p16.1 v16,rF 2 Xm Zi.ZR p16.1 v16,.box u10,.box u12]⟩ [guardB (!(y23 == u5)) (decide (0 ≤ y23)),guardB (!(y23 == u5)) (decide (y23 < u5)),guardB (!u30) (decide (0 ≤ y23)),guardB (!u30) (decide (y23 < u5))] c99 ?_
 refine Zb ?_
 refine cnd u26 (fun b101 => ?_) (fun b101 => ?_)
 have h102 := GD b101 h100
 refine Za ?_
 obtain ⟨c104,h105⟩ := Zq h102
 refine rgc [1,2,5,6,7,8,9,10,11] 8 ⟨186,[(1,.ref 0 0),(2,.ref 1 0),(5,.ref 2 0),(6,.int .i64 p14.2),(7,.int .i64 p16.2),(8,.ref 5 0),(9,.ref 6 0),(10,.int .i64 y23),(11,.asl 7 0 (0 + u6))],[.box u2,.box [.sl true 4 0 (fun _ => []),.sl true 1 0 (fun _ => [])],.box [.asl 3 0 p16.1.length,.sl true 1 0 (fun _ => [])],rA 4 hdDom p16.1 v16,rF 2 Xm Zi.ZR p16.1 v16,.box u10,.box u12,.arr 4 (0 + u6) (app (fun i => List.take 4 (List.drop (i * 4) [])) 0 (fun i => hdDom (p16.1.getD ((0 + y23.toNat) + i) default) ++ [.val (v16 ((0 + y23.toNat) + i))]))]⟩ [decide (0 ≤ y23),decide (y23 ≤ u5),decide (0 = 0) || decide (0 < u6),decide ((0 + u6) * 48 ≤ 140737488355328)] c104 ?_
 refine Zb ?_
 obtain ⟨c106,h107⟩ := Zq h105
 have g1 : 0 ≤ y23 := of_decide_eq_true (c106 _ (by simp only [List.mem_cons,true_or]))
 have g2 : y23 ≤ (p16.1.length : Int) := of_decide_eq_true (c106 _ (by simp only [List.mem_cons,true_or,or_true]))
 have g3 : ((y23.toNat - 0) + 1) * 48 ≤ 140737488355328 := of_decide_eq_true (c106 _ (by simp only [List.mem_cons,true_or,or_true]))
 have g4 : (((y23.toNat - 0) + 1) + (0 + (p16.1.length - y23.toNat))) * 48 ≤ 140737488355328 := of_decide_eq_true (c106 _ (by simp only [List.mem_cons,true_or,or_true]))
 refine rgp 9 [] [1,2,5,6,7,10,11,133,138] 8 ⟨186,[(1,.ref 0 0),(2,.ref 1 0),(5,.ref 2 0),(6,.int .i64 p14.2),(7,.int .i64 p16.2),(10,.int .i64 y23),(11,.asl 7 0 (0 + u6)),(133,.asl 3 0 u18),(138,.sl true 4 1 (fun i => List.take 4 (List.drop (i * 4) [.int .u32 r19.Zn,.int .i64 r19.ZL,.int .i64 u1.XH,.sl true 2 0 (fun _ => [])])))],[.box u2,.box [.sl true 4 0 (fun _ => []),.sl true 1 0 (fun _ => [])],.box [.asl 3 0 p16.1.length,.sl true 1 0 (fun _ => [])],rA 4 hdDom p16.1 v16,rF 2 Xm Zi.ZR p16.1 v16,.box u10,.box u12,.arr 4 (0 + u6) (app (fun i => List.take 4 (List.drop (i * 4) [])) 0 (fun i => hdDom (p16.1.getD ((0 + y23.toNat) + i) default) ++ [.val (v16 ((0 + y23.toNat) + i))]))]⟩ [1,2,5,6,7,10,133,138,140] 8 ⟨186,[(1,.ref 0 0),(2,.ref 1 0),(5,.ref 2 0),(6,.int .i64 p14.2),(7,.int .i64 p16.2),(10,.int .i64 y23),(133,.asl 3 0 u18),(138,.sl true 4 1 (fun i => List.take 4 (List.drop (i * 4) [.int .u32 r19.Zn,.int .i64 r19.ZL,.int .i64 u1.XH,.sl true 2 0 (fun _ => [])]))),(140,.asl 7 0 (0 + u6))],[.box u2,.box [.sl true 4 0 (fun _ => []),.sl true 1 0 (fun _ => [])],.box [.asl 3 0 p16.1.length,.sl true 1 0 (fun _ => [])],rA 4 hdDom p16.1 v16,rF 2 Xm Zi.ZR p16.1 v16,.box u10,.box u12,.arr 4 (0 + u6) (app (fun i => List.take 4 (List.drop (i * 4) [])) 0 (fun i => hdDom (p16.1.getD ((0 + y23.toNat) + i) default) ++ [.val (v16 ((0 + y23.toNat) + i))]))]⟩ [decide (0 ≤ y23),decide (y23 ≤ u5)] [] (am (decide_eq_true g1) (am (decide_eq_true g2) Zt)) trivial [] [1,2,5,6,7,10] 5 ⟨186,[(1,.ref 0 0),(2,.ref 1 0),(5,.ref 2 0),(6,.int .i64 p14.2),(7,.int .i64 p16.2),(10,.int .i64 y23)],[.box u2,.box [.sl true 4 0 (fun _ => []),.sl true 1 0 (fun _ => [])],.box [.asl 3 0 u24,.sl true 1 0 (fun _ => [])],.arr 4 u24 (app (app (fun j => hdDom (p16.1.getD j default) ++ [.val (v16 j)]) u18 (fun i => List.take 4 (List.drop (i * 4) [.int .u32 r19.Zn,.int .i64 r19.ZL,.int .i64 u1.XH,.sl true 2 0 (fun _ => [])]))) (u18 + 1) (fun i => (app (fun i => List.take 4 (List.drop (i * 4) [])) 0 (fun i => hdDom (p16.1.getD ((0 + y23.toNat) + i) default) ++ [.val (v16 ((0 + y23.toNat) + i))])) (0 + i))),rF 2 Xm Zi.ZR p16.1 v16]⟩ [decide u29,decide u35] [] (am (decide_eq_true g3) (am (decide_eq_true g4) Zt)) trivial [] [1,2,5,6,7,10,139,140] 8 ⟨186,[(1,.ref 0 0),(2,.ref 1 0),(5,.ref 2 0),(6,.int .i64 p14.2),(7,.int .i64 p16.2),(10,.int .i64 y23),(139,.asl 3 0 (u18 + 1)),(140,.asl 7 0 (0 + u6))],[.box u2,.box [.sl true 4 0 (fun _ => []),.sl true 1 0 (fun _ => [])],.box [.any,.sl true 1 0 (fun _ => [])],.arr 4 (u18 + 1) (app (fun j => hdDom (p16.1.getD j default) ++ [.val (v16 j)]) u18 (fun i => List.take 4 (List.drop (i * 4) [.int .u32 r19.Zn,.int .i64 r19.ZL,.int .i64 u1.XH,.sl true 2 0 (fun _ => [])]))),rF 2 Xm Zi.ZR p16.1 v16,.box u10,.box u12,.arr 4 (0 + u6) (app (fun i => List.take 4 (List.drop (i * 4) [])) 0 (fun i => hdDom (p16.1.getD ((0 + y23.toNat) + i) default) ++ [.val (v16 ((0 + y23.toNat) + i))]))]⟩ [decide u29] [] (am (decide_eq_true g3) Zt) trivial [] [1,2,5,6,7,10] 5 [decide u35] [] (am (decide_eq_true g4) Zt) trivial ?_
 refine Rf (ZlA (w1 := 2) (g := fun _ => []) 3 4 hdDom Xm Zi.ZR p16.1 y23.toNat (⟨r19,(((a0.Ze.getD p14.2.toNat default).Zc).getD p16.2.toNat default).XH,([] : List Vz)⟩ : Zi) v16 (by decide) (by omega) (by omega) rfl rfl rfl (fun j hj => ?_) ?_ (fun j hj hj2 => ?_)) fun w => ?_
 · exact (Ze8 (by omega)).trans (Ze8 (by omega))
 · exact (Ze8 (by omega)).trans ((congrArg (app _ (y23.toNat - 0) _) (show y23.toNat = y23.toNat - 0 by omega)).trans Zlz)
 · rw [Zly (by omega)]
   show app _ 0 _ (0 + (j - (y23.toNat - 0 + 1))) = _
   rw [Zly (Nat.zero_le _)]
   have e : (0 + y23.toNat) + ((0 + (j - (y23.toNat - 0 + 1))) - 0) = j - 1 := by omega
   simp only [e]
 exact W6 (JM (.cons Sub.rfl (.cons Sub.rfl (.cons Sub.rfl (.cons Sub.rfl (.cons Sub.rfl (.cons Sub.rfl .nil)))))) (.cons .rfl (.cons .rfl (.cons (.box (.cons (ZfG (by rw [Zc0 (by omega)]; omega)) (.cons CSub.rfl .nil))) (.cons .rfl (.cons .rfl .nil)))))) (k95 (insL p16.1 y23.toNat (⟨r19,(((a0.Ze.getD p14.2.toNat default).Zc).getD p16.2.toNat default).XH,([] : List Vz)⟩ : Zi),insV v16 y23.toNat w.1) h107)
 have h103 := GE b101 h100
 refine Zd ?_
 exact Xb (Le.trans (s' := ⟨186,[(1,.ref 0 0),(2,.ref 1 0),(5,.ref 2 0),(6,.int .i64 p14.2),(7,.int .i64 p16.2),(10,.int .i64 y23)],[.box u2,.box [.sl true 4 0 (fun _ => []),.sl true 1 0 (fun _ => [])],.box [.asl 3 0 p16.1.length,.sl true 1 0 (fun _ => [])],rA 4 hdDom p16.1 v16,rF 2 Xm Zi.ZR p16.1 v16,.box u10,.box u12]⟩) (kp [1,2,5,6,7,10]) (UQ (n := 5) (by kernel_rfl))) (k95 (p16.1,v16) h103)
 have h71 := GE b69 h68
 refine ZF (Xl ?_)
 obtain rfl := Option.some.inj h71
 exact ZcZ ⟨rfl,LeE.of v16 (kp [1,2,5,6])⟩
 intro e110 s111 o112
 obtain ⟨rfl,l113⟩ := o112
 refine Y8 (XO ?_)
 refine Rf l113 fun v25 => ?_
 refine rg0 [1,2,5,6] 5 ⟨186,[(1,.ref 0 0),(2,.ref 1 0),(5,.ref 2 0),(6,.int .i64 (wr .i64 (p14.2 + 1)))],[.box u2,.box [.sl true 4 0 (fun _ => []),.sl true 1 0 (fun _ => [])],.box [.asl 3 0 y25.length,.sl true 1 0 (fun _ => [])],rA 4 hdDom y25 v25,rF 2 Xm Zi.ZR y25 v25]⟩ ?_
 obtain rfl := Option.some.inj h109
 exact ZaC v25 (UR)
 have h65 := GE b63 h62
 refine ZF (Xl ?_)
 obtain rfl := Option.some.inj h65
 exact ZcZ ⟨rfl,LeE.of v14 (kp [2,5])⟩
 intro e116 s117 o118
 obtain ⟨rfl,l119⟩ := o118
 refine Y8 ?_
 refine Rf l119 fun v26 => ?_
 refine Za (Za ?_)
 refine W6 (s' := ⟨186,u16,[.box u2,.box [.sl true 4 0 (fun _ => []),.sl true 1 0 (fun _ => [])],.box [.sl false 4 y26.length (fun k => (fun i => ZV (y26.getD i default)) (0 + k)),.sl true 1 0 (fun _ => [])],aL 4 ZV ([] : List Zi),.fam 0 (fun _ => false) 0 2 v26 (rls Xm Zi.ZR y26)]⟩) (Le.trans (s' := ⟨186,u16,[.box u2,.box [.sl true 4 0 (fun _ => []),.sl true 1 0 (fun _ => [])],.box [.asl 3 0 y26.length,.sl true 1 0 (fun _ => [])],aL 4 ZV y26,.fam 0 (fun _ => false) 0 2 v26 (rls Xm Zi.ZR y26)]⟩) (ZjC 3 4 hdDom Xm Zi.ZR ZV y26 v26 rfl rfl (fun _ => rfl)) (Le.trans ((Zcd (s := ⟨186,u16,[.box u2,.box [.sl true 4 0 (fun _ => []),.sl true 1 0 (fun _ => [])],.box [.asl 3 0 y26.length,.sl true 1 0 (fun _ => [])],aL 4 ZV y26,.fam 0 (fun _ => false) 0 2 v26 (rls Xm Zi.ZR y26)]⟩) (s' := ⟨186,u16,[.box u2,.box [.sl true 4 0 (fun _ => []),.sl true 1 0 (fun _ => [])],.box [.sl false 4 y26.length (fun k => (fun i => ZV (y26.getD i default)) (0 + k)),.sl true 1 0 (fun _ => [])],aL 4 ZV ([] : List Zi),.fam 0 (fun _ => false) 0 2 v26 (rls Xm Zi.ZR y26)]⟩) 3 4 y26.length (fun i => ZV (y26.getD i default)) (fun i => ZV (([] : List Zi).getD i default)) (by kernel_rfl) (by kernel_rfl) (by kernel_rfl))) (kp [2,5]))) ?_
 refine rg0 [2,5,12] 3 ⟨186,[(2,.ref 1 0),(5,.ref 2 0),(12,.int .i64 0)],[.box u2,.box [.sl true 4 0 (fun _ => []),.sl true 1 0 (fun _ => [])],.box [.sl false 4 y26.length (fun k => (fun i => ZV (y26.getD i default)) (0 + k)),.sl true 1 0 (fun _ => [])]]⟩ ?_
 refine Xb (s' := ⟨186,[(2,.ref 1 0),(5,.ref 2 0),(12,.int .i64 0)],u9⟩) (JM (.cons Sub.rfl (.cons Sub.rfl (.cons Sub.rfl .nil))) (.cons .rfl (.cons .rfl (.cons (.box (.cons (Ko rfl (RA (f := fun i => ZV (y26.getD i default)) (fun _ _ => rfl))) (.cons CSub.rfl .nil))) .nil)))) ?_
 refine Zg ?_
 refine W6 (s' := ⟨186,[(2,.ref 1 0),(5,.ref 2 0),(12,.int .i64 0)],u9⟩) (UR) ?_
 refine W6 (s' := ⟨186,[(2,.ref 1 0),(5,.ref 2 0),(12,.int .i64 0)],[.box u2,.box [.sl true 4 0 (fun _ => []),.sl true 1 0 (fun _ => [])],.box [sL 4 ZV y26,.asl 3 0 (([] : List Int).length)],aL 1 (ci .i64) ([] : List Int)]⟩) (Zie (nt := 186) (e := [(2,.ref 1 0),(5,.ref 2 0),(12,.int .i64 0)]) (H := u9) (cells := [sL 4 ZV y26,.sl true 1 0 (fun _ => [])]) (wd := 1) (f := fun _ => []) 2 1 rfl rfl 1 (fun i => (ci .i64) (([] : List Int).getD i default))) ?_
 obtain ⟨y31,q136,h137⟩ := bind_some h115
 let u11 : List (Nat × D) := [(2,.ref 1 0),(5,.ref 2 0),(183,.bool (decide ((y31.length : Int) > 12)))]
 refine W6 (s' := ⟨186,[(2,.ref 1 0),(5,.ref 2 0),(12,.int .i64 0)],[.box u2,.box [.sl true 4 0 (fun _ => []),.sl true 1 0 (fun _ => [])],.box [sL 4 ZV y26,.asl 3 0 (([] : List Int).length)],aL 1 (ci .i64) ([] : List Int)]⟩) (UR) ?_
 refine Kv (Zfo (f := M.WN y26) (S := fun (p28 : (List Int) × Int) => ⟨186,[(2,.ref 1 0),(5,.ref 2 0),(12,.int .i64 p28.2)],[.box u2,.box [.sl true 4 0 (fun _ => []),.sl true 1 0 (fun _ => [])],.box [sL 4 ZV y26,.asl 3 0 p28.1.length],aL 1 (ci .i64) p28.1]⟩) (O := (fun z => OutE 6 (fun z => ⟨186,u16,[.box u2,.box [.sl true 4 0 (fun _ => []),.sl true 1 0 (fun _ => [])],.box [sL 4 ZV y26,.asl 3 0 z.length],aL 1 (ci .i64) z]⟩) z)) ?_ (x := (([] : List Int),0)) (y := y31) (WG q136)) ?_
 intro p28 y29 h123
 let u25 := (((y26.getD p28.2.toNat default).ZR).length : Int)
 let u33 := p28.1.length + 1
 unfold M.WN at h123
 refine Za (Za (rg0 [2,5,12,163] 4 ⟨186,[(2,.ref 1 0),(5,.ref 2 0),(12,.int .i64 p28.2),(163,.bool (decide (p28.2 < u32)))],[.box u2,.box [.sl true 4 0 (fun _ => []),.sl true 1 0 (fun _ => [])],.box [sL 4 ZV y26,.asl 3 0 p28.1.length],aL 1 (ci .i64) p28.1]⟩ ?_))
 refine Zb ?_
 refine cnd (decide (p28.2 < u32)) (fun b124 => ?_) (fun b124 => ?_)
 have h125 := GD b124 h123
 refine Zd (Zb ?_)
 refine Vo (fun (p30 : (List Int)) => ⟨186,[(2,.ref 1 0),(5,.ref 2 0),(12,.int .i64 p28.2)],[.box u2,.box [.sl true 4 0 (fun _ => []),.sl true 1 0 (fun _ => [])],.box [sL 4 ZV y26,.asl 3 0 p30.length],aL 1 (ci .i64) p30]⟩) (fun p30 => M.Ul p28 p30 = some y29) ?_ ?_
 intro p30 h128
 unfold M.Ul at h128
 refine rg0 [2,5,12] 4 ⟨186,[(2,.ref 1 0),(5,.ref 2 0),(12,.int .i64 (wr .i64 (p28.2 + 1)))],[.box u2,.box [.sl true 4 0 (fun _ => []),.sl true 1 0 (fun _ => [])],.box [sL 4 ZV y26,.asl 3 0 p30.length],aL 1 (ci .i64) p30]⟩ ?_
 obtain rfl := Option.some.inj h128
 exact Zg0 (UR)
 intro k127
 refine Zg (Za ?_)
 obtain ⟨c129,h130⟩ := Zq h125
 refine rgc [2,5,12,173] 4 ⟨186,[(2,.ref 1 0),(5,.ref 2 0),(12,.int .i64 p28.2),(173,.bool (decide (u25 > 1)))],[.box u2,.box [.sl true 4 0 (fun _ => []),.sl true 1 0 (fun _ => [])],.box [sL 4 ZV y26,.asl 3 0 p28.1.length],aL 1 (ci .i64) p28.1]⟩ [decide (0 ≤ p28.2),decide (p28.2 < u32)] c129 ?_
 refine Zb ?_
 refine cnd (decide (u25 > 1)) (fun b131 => ?_) (fun b131 => ?_)
 have h132 := GD b131 h130
 obtain ⟨c134,h135⟩ := Zq h132
 refine rgc [2,5,12] 4 ⟨186,[(2,.ref 1 0),(5,.ref 2 0),(12,.int .i64 p28.2)],[.box u2,.box [.sl true 4 0 (fun _ => []),.sl true 1 0 (fun _ => [])],.box [sL 4 ZV y26,.asl 3 0 u33],.arr 1 u33 (app (fun i => (ci .i64) (p28.1.getD i default)) p28.1.length (fun i => List.take 1 (List.drop (i * 1) [.int .i64 p28.2])))]⟩ [decide (u33 * 8 ≤ 140737488355328)] c134 ?_
 refine XO ?_
 exact Xb (JM (.cons Sub.rfl (.cons Sub.rfl (.cons Sub.rfl .nil))) (.cons .rfl (.cons .rfl (.cons (.box (.cons CSub.rfl (.cons (ZfG (Re _ _)) .nil))) (.cons (.arr (Re _ _) (Zaz (ci .i64) p28.1 p28.2 _ rfl)) .nil))))) (k127 (p28.1 ++ [p28.2]) h135)
 have h133 := GE b131 h130
 refine Zd (XO ?_)
 exact Xb (kp [2,5,12]) (k127 p28.1 h133)
 have h126 := GE b124 h123
 refine ZF (Xl ?_)
 obtain rfl := Option.some.inj h126
 exact Zg1 ⟨rfl,kp [2,5]⟩
 intro e138 s139 o140
 obtain ⟨rfl,l141⟩ := o140
 refine Y8 ?_
 refine Xb (s' := ⟨186,u16,[.box u2,.box [.sl true 4 0 (fun _ => []),.sl true 1 0 (fun _ => [])],.box [sL 4 ZV y26,.asl 3 0 y31.length],aL 1 (ci .i64) y31]⟩) (l141) ?_
 refine Za (Za (rg0 [2,5,183] 4 ⟨186,u11,[.box u2,.box [.sl true 4 0 (fun _ => []),.sl true 1 0 (fun _ => [])],.box [sL 4 ZV y26,.asl 3 0 y31.length],aL 1 (ci .i64) y31]⟩ ?_))
 refine Zb ?_
 refine cnd (decide ((y31.length : Int) > 12)) (fun b142 => ?_) (fun b142 => ?_)
 have h143 := GD b142 h137
 refine Za (rg0 [2,3] 2 ⟨186,[(2,.ref 1 0),(3,.int .i64 7)],u7⟩ ?_)
 refine Zb (Zf (Zk ?_))
 obtain rfl := Option.some.inj h143
 exact er (.tup [.agg [.sl false 4 0 (fun _ => []),.sl false 1 0 (fun _ => [])],.int .i64 7]) (Zbr (.cons (Kw (.cons VV (.cons VV .nil))) (.cons ASub.rfl .nil)))
 have h144 := GE b142 h137
 refine Zd (Zb (Za ?_))
 refine W6 (s' := ⟨186,u11,[.box u2,.box [.sl true 4 0 (fun _ => []),.sl true 1 0 (fun _ => [])],.box [sL 4 ZV y26,.sl false 1 y31.length (fun k => (fun i => (ci .i64) (y31.getD i default)) (0 + k))],aL 1 (ci .i64) ([] : List Int)]⟩) (Le.trans ((Zcd (s := ⟨186,u11,[.box u2,.box [.sl true 4 0 (fun _ => []),.sl true 1 0 (fun _ => [])],.box [sL 4 ZV y26,.asl 3 0 y31.length],aL 1 (ci .i64) y31]⟩) (s' := ⟨186,u11,[.box u2,.box [.sl true 4 0 (fun _ => []),.sl true 1 0 (fun _ => [])],.box [sL 4 ZV y26,.sl false 1 y31.length (fun k => (fun i => (ci .i64) (y31.getD i default)) (0 + k))],aL 1 (ci .i64) ([] : List Int)]⟩) 3 1 y31.length (fun i => (ci .i64) (y31.getD i default)) (fun i => (ci .i64) (([] : List Int).getD i default)) (by kernel_rfl) (by kernel_rfl) (by kernel_rfl))) (kp [2,5,183])) ?_
 refine rg0 [2,3] 2 ⟨186,[(2,.ref 1 0),(3,.int .i64 0)],[.box u2,.box [sL 4 ZV y26,.sl false 1 y31.length (fun k => (fun i => (ci .i64) (y31.getD i default)) (0 + k))]]⟩ ?_
 refine Xb (s' := ⟨186,[(2,.ref 1 0),(3,.int .i64 0)],[.box u2,.box [sL 4 ZV y26,sL 1 (ci .i64) y31]]⟩) (JM (.cons Sub.rfl (.cons Sub.rfl .nil)) (.cons .rfl (.cons (.box (.cons CSub.rfl (.cons (Ko rfl (RA (f := fun i => (ci .i64) (y31.getD i default)) (fun _ _ => rfl))) .nil))) .nil))) ?_
 refine Zf ?_
 obtain rfl := Option.some.inj h144
 exact er0 (.tup [.agg [sL 4 ZV y26,sL 1 (ci .i64) y31],.int .i64 0])
theorem Zcn (a0 : List Int) (a1 : Int) (r : Bool) (h : M.Q4 a0 a1 = some r) : Fn Tryz.prog 56 [sL 1 (ci .i64) a0,.int .i64 a1] (.pure (.bool r)) := by
 unfold M.Q4 at h
 refine ZE Tryz.func56 rfl (by kernel_rfl) (Za (zg [0,1] 0 (Zb (Za (Za (zg [0,1,8] 0 (Zb (cn h (fun _ h2 => ?_) (fun _ h3 => ?_)))))))))
 exact Za (zg [4] 0 (Zb (Zf (Zk (er1 h2)))))
 refine Zd (Zb (Za (Za (zg [0,1,5] 0 (Zb (Zg ?_))))))
 obtain ⟨y3,q13,h14⟩ := bind_some h3
 refine zl (fun (p1 : Int) => ⟨44,[(0,sL 1 (ci .i64) a0),(1,.int .i64 a1),(5,.int .i64 p1)],[]⟩) (Sum.elim (fun z => OutE 0 (fun z => ⟨44,[],[]⟩) z) (fun z => OutR Tryz.prog Tryz.f56 (.bool z))) q13 ?_ ?_
 intro p1 y2 h4
 unfold M.Yf at h4
 refine Za (Za (zg [0,1,5,12] 0 (Zb (cn h4 (fun _ h6 => ?_) (fun _ h7 => ?_)))))
 refine Zd (Zb (Za (Zg (Za ?_))))
 obtain ⟨c8,h9⟩ := Zq h6
 refine zc [0,1,5,43] 0 c8 (Zb (cn h9 (fun _ h11 => ?_) (fun _ h12 => ?_)))
 exact Za (zg [4] 0 (Zb (Zf (ZQ (Zk (rr h11 ⟨rfl,er0 _⟩))))))
 exact Zd (XO (Zb (zg [0,1,5] 0 (rn h12))))
 exact ZF (Xl (re h7 ⟨rfl,kq⟩))
 intro e15 s16 o17
 rcases y3 with g4 | y5
 have h18 := Ya h14
 exact zi o17 (Za (zg [4] 0 (Zb (Zf (er1 h18)))))
 have h19 := Yb h14
 obtain ⟨rfl,n21⟩ := o17
 refine ZQ (Zk ?_)
 obtain rfl := Option.some.inj h19
 exact n21
theorem Zgh (a0 : ZG) (a1 : List Int) (r : XU × Int) (h : M.RH a0 a1 = some r) : Fn Tryz.prog 27 [.agg (X6 a0),sL 1 (ci .i64) a1] (.pure (.tup [.agg (Ys r.1),.int .i64 r.2])) := by
 let u1 : List Bool := [decide (0 = 0) || decide (0 < a1.length),decide ((0 + a1.length) * 8 ≤ 140737488355328)]
 let u3 := X6 a0
 unfold M.RH at h
 refine ZE Tryz.func27 rfl (by kernel_rfl) (Za (zg [1,2,4] 2 (Zb (Za ?_))))
 obtain ⟨r1,q1,h2⟩ := bind_some h
 let u2 := KT r1.1
 refine zr [1,2,4,6,7] 3 Zt (rq1 (ZfT _ _ q1) rqn) (Zb (Za (Za (zg [1,2,4,6,7,14] 3 (Zb (cn h2 (fun _ h4 => ?_) (fun _ h5 => ?_)))))))
 refine Za (zg [4,5] 2 (Zb (Zf (Zk ?_))))
 obtain rfl := Option.some.inj h4
 exact er (.tup [.agg [.sl false 25 0 (fun _ => []),.sl false 4 0 (fun _ => []),.sl false 1 0 (fun _ => []),.sl false 1 0 (fun _ => [])],.int .i64 r1.2]) (Zbr (.cons (Kw (.cons VV (.cons VV (.cons VV (.cons VV .nil))))) (.cons ASub.rfl .nil)))
 refine Zd (Zb (Za (Za ?_)))
 obtain ⟨r2,q6,h7⟩ := bind_some h5
 refine rg [.pure (.bool r2)] [1,2,4,6,22] 3 ⟨30,[(1,sL 1 (ci .i64) a1),(2,.ref 0 0),(4,.ref 1 0),(6,.ref 2 0),(22,.bool (!r2))],[.box u3,.box [.sl true 25 0 (fun _ => []),.sl true 4 0 (fun _ => []),.sl true 1 0 (fun _ => []),.sl true 1 0 (fun _ => [])],.box u2]⟩ [] [⟨true,56,[sL 1 (ci .i64) a1,.int .i64 (r1.1.JP.length : Int)],.pure (.bool r2)⟩] Zt ⟨fun _ => Zcn a1 (r1.1.JP.length : Int) r2 q6,trivial⟩ (Zb (cn h7 (fun _ h9 => ?_) (fun _ h10 => ?_)))
 refine Za (zg [4,5] 2 (Zb (Zf (Zk ?_))))
 obtain rfl := Option.some.inj h9
 exact er (.tup [.agg [.sl false 25 0 (fun _ => []),.sl false 4 0 (fun _ => []),.sl false 1 0 (fun _ => []),.sl false 1 0 (fun _ => [])],.int .i64 1]) (Zbr (.cons (Kw (.cons VV (.cons VV (.cons VV (.cons VV .nil))))) (.cons ASub.rfl .nil)))
 refine Zd (Zb (Za ?_))
 obtain ⟨c11,h12⟩ := Zq h10
 refine rgu [1,2,4,5,6,22,24,25,26,27,28,29] [([],[],[]),([],[],[]),([],[],[]),([],[],[]),([],u1,[]),([],[],[]),([],[],[]),([],[],[])] [4,5] 4 ⟨30,[(4,.ref 1 0),(5,.int .i64 0)],[.box u3,.box [sL 25 Zs a0.Ze,sL 4 ZV r1.1.Xa,sL 1 (ci .i64) r1.1.JP,.asl 3 0 (0 + a1.length)],.box u2,.arr 1 (0 + a1.length) (app (fun i => List.take 1 (List.drop (i * 1) [])) 0 (fun i => (ci .i64) (a1.getD i default)))]⟩ u1 [] c11 trivial (Xb (s' := ⟨30,[(4,.ref 1 0),(5,.int .i64 0)],[.box u3,.box [sL 25 Zs a0.Ze,sL 4 ZV r1.1.Xa,sL 1 (ci .i64) r1.1.JP,sL 1 (ci .i64) (a1 : List Int)],.box u2,aL 1 (ci .i64) ([] : List Int)]⟩) (Le.trans (Zcd (s := ⟨30,[(4,.ref 1 0),(5,.int .i64 0)],[.box u3,.box [sL 25 Zs a0.Ze,sL 4 ZV r1.1.Xa,sL 1 (ci .i64) r1.1.JP,.asl 3 0 (0 + a1.length)],.box u2,.arr 1 (0 + a1.length) (app (fun i => List.take 1 (List.drop (i * 1) [])) 0 (fun i => (ci .i64) (a1.getD i default)))]⟩) (s' := ⟨30,[(4,.ref 1 0),(5,.int .i64 0)],[.box u3,.box [sL 25 Zs a0.Ze,sL 4 ZV r1.1.Xa,sL 1 (ci .i64) r1.1.JP,.sl false 1 (0 + a1.length) (fun k => (app (fun i => List.take 1 (List.drop (i * 1) [])) 0 (fun i => (ci .i64) (a1.getD i default))) (0 + k))],.box u2,aL 1 (ci .i64) ([] : List Int)]⟩) 3 1 (0 + a1.length) (app (fun i => List.take 1 (List.drop (i * 1) [])) 0 (fun i => (ci .i64) (a1.getD i default))) (fun i => (ci .i64) (([] : List Int).getD i default)) (by kernel_rfl) (by kernel_rfl) (by kernel_rfl)) (JM (.cons Sub.rfl (.cons Sub.rfl .nil)) (.cons .rfl (.cons (.box (.cons CSub.rfl (.cons CSub.rfl (.cons CSub.rfl (.cons (Ko (Nat.zero_add _) (RA (f := app (fun i => List.take 1 (List.drop (i * 1) [])) 0 (fun i => (ci .i64) (a1.getD i default))) (Uc (ci .i64) _ a1 _ (fun _ _ => rfl)))) .nil))))) (.cons .rfl (.cons .rfl .nil)))))) (Zf ?_))
 obtain rfl := Option.some.inj h12
 exact er0 (.tup [.agg [sL 25 Zs a0.Ze,sL 4 ZV r1.1.Xa,sL 1 (ci .i64) r1.1.JP,sL 1 (ci .i64) (a1 : List Int)],.int .i64 0])
theorem Zgi (a0 : ZG) (a1 : List Int) (r : XU × Bool) (h : M.Gn a0 a1 = some r) : Fn Tryz.prog 9 [.agg (X6 a0),sL 1 (ci .i64) a1] (.pure (.tup [.agg (Ys r.1),.bool r.2])) := by
 unfold M.Gn at h
 refine ZE Tryz.func9 rfl (by kernel_rfl) (Za (zg [1,2,4] 2 (Zb (Za (Za ?_)))))
 obtain ⟨r1,q1,h2⟩ := bind_some h
 refine zr [1,2,4,15] 2 Zt (rq1 (ZfS _ _ q1) rqn) (Zb (cn h2 (fun _ h4 => ?_) (fun _ h5 => ?_)))
 refine Za (zg [4,5] 2 (Zb (Zf (Zk ?_))))
 obtain rfl := Option.some.inj h4
 exact er (.tup [.agg [.sl false 25 0 (fun _ => []),.sl false 4 0 (fun _ => []),.sl false 1 0 (fun _ => []),.sl false 1 0 (fun _ => [])],.bool false]) (Zbr (.cons (Kw (.cons VV (.cons VV (.cons VV (.cons VV .nil))))) (.cons ASub.rfl .nil)))
 refine Zd (Zb (Za ?_))
 obtain ⟨r2,q6,h7⟩ := bind_some h5
 refine zr [4,6,7] 3 Zt (rq1 (Zgh _ _ _ q6) rqn) (Zb (Za (zg [4,5] 2 (Zb (Zf ?_)))))
 obtain rfl := Option.some.inj h7
 exact er0 (.tup [.agg (Ys r2.1),.bool (r2.2 == 0)])
theorem QF (a0 : Int) (a1 : Int) (a2 : Int) (r : Bool) (h : M.XR a0 a1 a2 = some r) : Fn Tryz.prog 57 [.int .i64 a0,.int .i64 a1,.int .i64 a2] (.pure (.bool r)) := by
 unfold M.XR at h
 exact ZE Tryz.func57 rfl (by kernel_rfl) (Za (zg [0,1,2] 0 (Zb (Za (zg [6] 0 (Zb (Zf (er1 h))))))))
theorem U1 (a0 : Z3) (a1 : Bool) (a2 : Bool) (a3 : Bool) (r : Bool) (h : M.QQ a0 a1 a2 a3 = some r) : Fn Tryz.prog 58 [.agg (Yn a0),.bool a1,.bool a2,.bool a3] (.pure (.bool r)) := by
 unfold M.QQ at h
 exact ZE Tryz.func58 rfl (by kernel_rfl) (Za (zg [1,2,3,4] 1 (Zb (Za (zg [8] 0 (Zb (Zf (er1 h))))))))
theorem Zd0 (a0 : ZY) (a1 : ZY) (r : Bool) (h : M.Wa a0 a1 = some r) : Fn Tryz.prog 85 [.agg (XL a0),.agg (XL a1)] (.pure (.bool r)) := by
 unfold M.Wa at h
 exact ZE Tryz.func85 rfl (by kernel_rfl) (Za (zg [2,3] 2 (Zb (Za (zg [4] 0 (Zb (Zf (er1 h))))))))
theorem UO (a0 : List ZY) (a1 : Bool) (r : Bool) (h : M.QV a0 a1 = some r) : Fn Tryz.prog 59 [sL 2 XL a0,.bool a1] (.pure (.bool r)) := by
 unfold M.QV at h
 refine ZE Tryz.func59 rfl (by kernel_rfl) (Za (zg [0,1] 0 (Zb (Za (Za (zg [0,1,5] 0 (Zb (Zg ?_))))))))
 obtain ⟨y4,q12,h13⟩ := bind_some h
 refine zl (fun (p1 : Int) => ⟨45,[(0,sL 2 XL a0),(1,.bool a1),(5,.int .i64 p1)],[]⟩) (Sum.elim (fun z => OutE 0 (fun z => ⟨45,[],[]⟩) z) (fun z => OutR Tryz.prog Tryz.f59 (.bool z))) q12 ?_ ?_
 intro p1 y2 h1
 unfold M.Wb at h1
 refine Za (Za (zg [0,1,5,9] 0 (Zb (cn h1 (fun _ h3 => ?_) (fun _ h4 => ?_)))))
 refine Zd (Zb (Za (Zg (Za ?_))))
 obtain ⟨r3,q5,h6⟩ := bind_some h3
 obtain ⟨c7,h8⟩ := Zq h6
 refine zr [0,1,5,44] 0 c7 (rq2 (fun hg => Zd0 _ _ _ (Xg q5 hg)) rqn) (Zb (cn h8 (fun _ h10 => ?_) (fun _ h11 => ?_)))
 exact Za (zg [4] 0 (Zb (Zf (ZQ (Zk (rr h10 ⟨rfl,er0 _⟩))))))
 exact Zd (XO (Zb (zg [0,1,5] 0 (rn h11))))
 exact ZF (Xl (re h4 ⟨rfl,kq⟩))
 intro e14 s15 o16
 rcases y4 with g5 | y6
 have h17 := Ya h13
 exact zi o16 (Za (zg [4] 0 (Zb (Zf (er1 h17)))))
 have h18 := Yb h13
 obtain ⟨rfl,n20⟩ := o16
 refine ZQ (Zk ?_)
 obtain rfl := Option.some.inj h18
 exact n20
theorem ZaW (a0 : Z3) (r : Bool) (h : M.Jl a0 = some r) : Fn Tryz.prog 60 [.agg (Yn a0)] (.pure (.bool r)) := by
 unfold M.Jl at h
 refine ZE Tryz.func60 rfl (by kernel_rfl) (Za (zg [1] 1 (Zb (Za (Za ?_)))))
 obtain ⟨r1,q1,h2⟩ := bind_some h
 obtain ⟨r2,q3,h4⟩ := bind_some h2
 refine zr [1,21] 1 Zt (rq2 (fun hg => QF _ _ _ _ (Xg q1 hg)) (rq2 (fun hg => U1 _ _ _ _ _ (Xg q3 hg)) rqn)) (Zb (cn h4 (fun _ h6 => ?_) (fun _ h7 => ?_)))
 exact Za (zg [2] 0 (Zb (Zf (Zk (er1 h6)))))
 refine Zd (Zb (Za (Zg (Za (zg [1,22] 1 (Zb (cn h7 (fun _ h9 => ?_) (fun _ h10 => ?_))))))))
 exact Za (zg [2] 0 (Zb (Zf (ZQ (Zk (er1 h9))))))
 refine Za (zg [1,35] 1 (Zb (cn h10 (fun _ h12 => ?_) (fun _ h13 => ?_))))
 exact Za (zg [2] 0 (Zb (Zf (ZQ (Zk (er1 h12))))))
 refine Zd (XO (Zb (Za ?_)))
 obtain ⟨r3,q14,h15⟩ := bind_some h13
 exact zr [2] 0 Zt (rq2 (fun hg => UO _ _ _ (Xg q14 hg)) rqn) (Zb (Zf (er1 h15)))
theorem Rp (a0 : Z3) (r : Bool) (h : M.Qm a0 = some r) : Fn Tryz.prog 61 [.agg (Yn a0)] (.pure (.bool r)) := by
 unfold M.Qm at h
 refine ZE Tryz.func61 rfl (by kernel_rfl) (Za (zg [1] 1 (Zb (Za (Za ?_)))))
 obtain ⟨r1,q1,h2⟩ := bind_some h
 obtain ⟨r2,q3,h4⟩ := bind_some h2
 obtain ⟨r3,q5,h6⟩ := bind_some h4
 obtain ⟨r4,q7,h8⟩ := bind_some h6
 refine zr [1,23] 1 Zt (rq1 (QF _ _ _ _ q1) (rq2 (fun hg => QF _ _ _ _ (Xg q3 hg)) (rq2 (fun hg => QF _ _ _ _ (Xg q5 hg)) (rq2 (fun hg => U1 _ _ _ _ _ (Xg q7 hg)) rqn)))) (Zb (cn h8 (fun _ h10 => ?_) (fun _ h11 => ?_)))
 exact Za (zg [2] 0 (Zb (Zf (Zk (er1 h10)))))
 refine Zd (Zb (Za (Za ?_)))
 obtain ⟨r5,q12,h13⟩ := bind_some h11
 refine zr [1,37] 1 Zt (rq1 (QF _ _ _ _ q12) rqn) (Zb (cn h13 (fun _ h15 => ?_) (fun _ h16 => ?_)))
 exact Za (zg [2] 0 (Zb (Zf (Zk (er1 h15)))))
 refine Zd (Zb (Za (Za (zg [1,39] 1 (Zb (cn h16 (fun _ h18 => ?_) (fun _ h19 => ?_)))))))
 exact Za (zg [2] 0 (Zb (Zf (Zk (er1 h18)))))
 refine Zd (Zb (Za ?_))
 obtain ⟨r6,q20,h21⟩ := bind_some h19
 exact zr [2] 0 Zt (rq2 (fun hg => UO _ _ _ (Xg q20 hg)) rqn) (Zb (Zf (er1 h21)))
theorem RP (a0 : Z3) (r : Bool) (h : M.QE a0 = some r) : Fn Tryz.prog 62 [.agg (Yn a0)] (.pure (.bool r)) := by
 unfold M.QE at h
 refine ZE Tryz.func62 rfl (by kernel_rfl) (Za (zg [1] 1 (Zb (Za (Za ?_)))))
 obtain ⟨r1,q1,h2⟩ := bind_some h
 obtain ⟨r2,q3,h4⟩ := bind_some h2
 obtain ⟨r3,q5,h6⟩ := bind_some h4
 refine zr [1,21] 1 Zt (rq1 (QF _ _ _ _ q1) (rq2 (fun hg => QF _ _ _ _ (Xg q3 hg)) (rq2 (fun hg => U1 _ _ _ _ _ (Xg q5 hg)) rqn))) (Zb (cn h6 (fun _ h8 => ?_) (fun _ h9 => ?_)))
 exact Za (zg [2] 0 (Zb (Zf (Zk (er1 h8)))))
 refine Zd (Zb (Za (Za (zg [1,23] 1 (Zb (Zg (Za (zg [1,23,24] 1 (Zb (cn h9 (fun _ h11 => ?_) (fun _ h12 => ?_)))))))))))
 refine Za ?_
 obtain ⟨r4,q13,h14⟩ := bind_some h11
 exact zr [2] 0 Zt (rq2 (fun hg => UO _ _ _ (Xg q13 hg)) rqn) (Zb (Zf (ZQ (Zk (er1 h14)))))
 refine Za (zg [1,23,45] 1 (Zb (cn h12 (fun _ h16 => ?_) (fun _ h17 => ?_))))
 exact Za (zg [2] 0 (Zb (Zf (ZQ (Zk (er1 h16))))))
 refine Za (zg [1,51] 1 (Zb (cn h17 (fun _ h19 => ?_) (fun _ h20 => ?_))))
 refine Za ?_
 obtain ⟨r5,q21,h22⟩ := bind_some h19
 exact zr [2] 0 Zt (rq2 (fun hg => UO _ _ _ (Xg q21 hg)) rqn) (Zb (Zf (ZQ (Zk (er1 h22)))))
 exact Zd (XO (Zb (Za (zg [2] 0 (Zb (Zf (er1 h20)))))))
theorem Zco (a0 : Z3) (r : Bool) (h : M.Vc a0 = some r) : Fn Tryz.prog 63 [.agg (Yn a0)] (.pure (.bool r)) := by
 let u1 : List Ob := [.box (Yn a0)]
 unfold M.Vc at h
 refine ZE Tryz.func63 rfl (by kernel_rfl) (Za (zg [1] 1 (Zb (Za (Za ?_)))))
 obtain ⟨r1,q1,h2⟩ := bind_some h
 obtain ⟨r2,q3,h4⟩ := bind_some h2
 obtain ⟨r3,q5,h6⟩ := bind_some h4
 obtain ⟨r4,q7,h8⟩ := bind_some h6
 refine zr [1,23] 1 Zt (rq1 (QF _ _ _ _ q1) (rq2 (fun hg => QF _ _ _ _ (Xg q3 hg)) (rq2 (fun hg => QF _ _ _ _ (Xg q5 hg)) (rq2 (fun hg => U1 _ _ _ _ _ (Xg q7 hg)) rqn)))) (Zb (cn h8 (fun _ h10 => ?_) (fun _ h11 => ?_)))
 exact Za (zg [2] 0 (Zb (Zf (Zk (er1 h10)))))
 refine Zd (Zb (Za (Za (rg0 [1,25] 1 ⟨95,[(1,.ref 0 0),(25,.int .i64 a0.Yi)],u1⟩ (Zb (Zg (Vo (fun (p5 : Bool) => ⟨95,[(1,.ref 0 0),(25,.int .i64 a0.Yi),(26,.bool p5)],u1⟩) (fun p5 => M.Y1 a0 p5 = some r) ?_ ?_)))))))
 intro p5 h13
 unfold M.Y1 at h13
 refine cn h13 (fun _ h15 => ?_) (fun _ h16 => ?_)
 exact Za (zg [2] 0 (Zb (Zf (ZQ (Zk (er1 h15))))))
 refine Vo (fun (p6 : Bool) => ⟨95,[(1,.ref 0 0),(52,.bool p6)],u1⟩) (fun p6 => M.Y0 a0 p6 = some r) ?_ ?_
 intro p6 h18
 unfold M.Y0 at h18
 refine cn h18 (fun _ h20 => ?_) (fun _ h21 => ?_)
 refine Za ?_
 obtain ⟨r7,q22,h23⟩ := bind_some h20
 obtain ⟨c24,h25⟩ := Zq h23
 exact zr [2] 0 c24 (rq2 (fun hg => UO _ _ _ (Xg q22 hg)) rqn) (Zb (Zf (ZQ (Zk (er1 h25)))))
 exact Zd (XO (Zb (Za (zg [2] 0 (Zb (Zf (er1 h21)))))))
 intro k17
 refine Za (zg [1,25,52] 1 (Zb (cn h16 (fun _ h27 => ?_) (fun _ h28 => ?_))))
 exact Zd (Xb kq (k17 (a0.Yi == 3) h27))
 exact zg [1,52] 1 (Xb lk (k17 (a0.Yi == 4) h28))
 intro k12
 refine Za (zg [1,25,26] 1 (Zb (cn h11 (fun _ h30 => ?_) (fun _ h31 => ?_))))
 exact Zd (Xb lk (k12 (a0.Yi == 1) h30))
 exact zg [1,25,26] 1 (Xb lk (k12 (a0.Yi == 2) h31))
theorem ZfU (a0 : Z3) (r : Bool) (h : M.WY a0 = some r) : Fn Tryz.prog 28 [.agg (Yn a0)] (.pure (.bool r)) := by
 unfold M.WY at h
 refine ZE Tryz.func28 rfl (by kernel_rfl) (Za (zg [1] 1 (Zb (Za (Za ?_)))))
 obtain ⟨r1,q1,h2⟩ := bind_some h
 obtain ⟨r2,q3,h4⟩ := bind_some h2
 refine zr [1,19] 1 Zt (rq1 (WE _ _ q1) (rq2 (fun hg => QF _ _ _ _ (Xg q3 hg)) rqn)) (Zb (cn h4 (fun _ h6 => ?_) (fun _ h7 => ?_)))
 exact Za (zg [2] 0 (Zb (Zf (Zk (er1 h6)))))
 refine Zd (Zb (Za (Za (zg [1,3] 1 (Zb (Zg ?_))))))
 obtain ⟨y6,q19,h20⟩ := bind_some h7
 refine zl (fun (p3 : Int) => ⟨92,[(1,.ref 0 0),(3,.int .i64 p3)],[.box (Yn a0)]⟩) (Sum.elim (fun z => OutE 0 (fun z => ⟨92,[(1,.ref 0 0)],[.box (Yn a0)]⟩) z) (fun z => OutR Tryz.prog Tryz.f28 (.bool z))) q19 ?_ ?_
 intro p3 y4 h8
 unfold M.VK at h8
 refine Za (Za (zg [1,3,24] 1 (Zb (cn h8 (fun _ h10 => ?_) (fun _ h11 => ?_)))))
 refine Zd (Zb (Za (Zg (Za ?_))))
 obtain ⟨r5,q12,h13⟩ := bind_some h10
 obtain ⟨c14,h15⟩ := Zq h13
 refine zr [1,3,33] 1 c14 (rq1 (QF _ _ _ _ q12) rqn) (Zb (cn h15 (fun _ h17 => ?_) (fun _ h18 => ?_)))
 exact Za (zg [2] 0 (Zb (Zf (ZQ (Zk (rr h17 ⟨rfl,er0 _⟩))))))
 exact Zd (XO (Zb (zg [1,3] 1 (rn h18))))
 exact ZF (Xl (re h11 ⟨rfl,kq⟩))
 intro e21 s22 o23
 rcases y6 with g7 | y8
 have h24 := Ya h20
 refine zi o23 (Za (Za (zg [1,35] 1 (Zb (Zg (Za (zg [1,35,36] 1 (Zb (cn h24 (fun _ h28 => ?_) (fun _ h29 => ?_))))))))))
 refine Za ?_
 obtain ⟨r9,q30,h31⟩ := bind_some h28
 obtain ⟨r10,q32,h33⟩ := bind_some h31
 exact zr [2] 0 Zt (rq2 (fun hg => U1 _ _ _ _ _ (Xg q30 hg)) (rq2 (fun hg => UO _ _ _ (Xg q32 hg)) rqn)) (Zb (Zf (ZQ (Zk (er1 h33)))))
 refine Za (zg [1,35,76] 1 (Zb (cn h29 (fun _ h35 => ?_) (fun _ h36 => ?_))))
 refine Za ?_
 obtain ⟨r11,q37,h38⟩ := bind_some h35
 exact zr [2] 0 Zt (rq1 (ZaW _ _ q37) rqn) (Zb (Zf (ZQ (Zk (er1 h38)))))
 refine Za (zg [1,35,80] 1 (Zb (cn h36 (fun _ h40 => ?_) (fun _ h41 => ?_))))
 refine Za ?_
 obtain ⟨r12,q42,h43⟩ := bind_some h40
 exact zr [2] 0 Zt (rq1 (Rp _ _ q42) rqn) (Zb (Zf (ZQ (Zk (er1 h43)))))
 refine Za (zg [1,35,84] 1 (Zb (cn h41 (fun _ h45 => ?_) (fun _ h46 => ?_))))
 refine Za ?_
 obtain ⟨r13,q47,h48⟩ := bind_some h45
 exact zr [2] 0 Zt (rq1 (RP _ _ q47) rqn) (Zb (Zf (ZQ (Zk (er1 h48)))))
 refine Za (zg [1,88] 1 (Zb (cn h46 (fun _ h50 => ?_) (fun _ h51 => ?_))))
 refine Za ?_
 obtain ⟨r14,q52,h53⟩ := bind_some h50
 exact zr [2] 0 Zt (rq1 (Zco _ _ q52) rqn) (Zb (Zf (ZQ (Zk (er1 h53)))))
 exact Zd (XO (Zb (Za (zg [2] 0 (Zb (Zf (er1 h51)))))))
 have h25 := Yb h20
 obtain ⟨rfl,n54⟩ := o23
 refine ZQ (Zk ?_)
 obtain rfl := Option.some.inj h25
 exact n54
theorem ZfV (a0 : List Z3) (a1 : Int) (r : Bool) (h : M.WZ a0 a1 = some r) : Fn Tryz.prog 10 [sL 14 Yn a0,.int .i64 a1] (.pure (.bool r)) := by
 unfold M.WZ at h
 refine ZE Tryz.func10 rfl (by kernel_rfl) (Za (zg [0,1] 0 (Zb (Za (Za (zg [0,1,5] 0 (Zb (Zg ?_))))))))
 obtain ⟨y5,q14,h15⟩ := bind_some h
 refine zl (fun (p1 : Int) => ⟨50,[(0,sL 14 Yn a0),(1,.int .i64 a1),(5,.int .i64 p1)],[]⟩) (Sum.elim (fun z => OutE 0 (fun z => ⟨50,[],[]⟩) z) (fun z => OutR Tryz.prog Tryz.f10 (.bool z))) q14 ?_ ?_
 intro p1 y2 h1
 unfold M.VL at h1
 refine Za (Za (zg [0,1,5,9] 0 (Zb (cn h1 (fun _ h3 => ?_) (fun _ h4 => ?_)))))
 refine Zd (Zb (Za (Zg (Za ?_))))
 obtain ⟨r3,q5,h6⟩ := bind_some h3
 obtain ⟨r4,q7,h8⟩ := bind_some h6
 obtain ⟨c9,h10⟩ := Zq h8
 refine zr [0,1,5,49] 0 c9 (rq1 (ZfU _ _ q5) (rq2 (fun hg => R8 _ _ _ (Xg q7 hg)) rqn)) (Zb (cn h10 (fun _ h12 => ?_) (fun _ h13 => ?_)))
 exact Za (zg [4] 0 (Zb (Zf (ZQ (Zk (rr h12 ⟨rfl,er0 _⟩))))))
 exact Zd (XO (Zb (zg [0,1,5] 0 (rn h13))))
 exact ZF (Xl (re h4 ⟨rfl,kq⟩))
 intro e16 s17 o18
 rcases y5 with g6 | y7
 have h19 := Ya h15
 exact zi o18 (Za (zg [4] 0 (Zb (Zf (er1 h19)))))
 have h20 := Yb h15
 obtain ⟨rfl,n22⟩ := o18
 refine ZQ (Zk ?_)
 obtain rfl := Option.some.inj h20
 exact n22
theorem Rq (a0 : Z3) (r : Bool) (h : M.JI a0 = some r) : Fn Tryz.prog 64 [.agg (Yn a0)] (.pure (.bool r)) := by
 unfold M.JI at h
 exact ZE Tryz.func64 rfl (by kernel_rfl) (Za (zg [1] 1 (Zb (Za (zg [2] 0 (Zb (Zf (er1 h))))))))
theorem ZbX (a0 : Int) (r : Int) (h : M.Jw a0 = some r) : Fn Tryz.prog 105 [.int .i64 a0] (.pure (.int .i64 r)) := by
 unfold M.Jw at h
 exact ZE Tryz.func105 rfl (by kernel_rfl) (Za (zg [0] 0 (Zb (Za (zg [2] 0 (Zb (Zf (er1 h))))))))
theorem RQ (a0 : Int) (r : Int) (h : M.JS a0 = some r) : Fn Tryz.prog 79 [.int .i64 a0] (.pure (.int .u32 r)) := by
 unfold M.JS at h
 refine ZE Tryz.func79 rfl (by kernel_rfl) (Za (zg [0] 0 (Zb (Za ?_))))
 obtain ⟨r1,q1,h2⟩ := bind_some h
 obtain ⟨c3,h4⟩ := Zq h2
 exact zr [2] 0 c3 (rq1 (ZbX _ _ q1) rqn) (Zb (Zf (er1 h4)))
theorem Rr (a0 : ZM) (a1 : Int) (r : Bool) (h : M.YQ a0 a1 = some r) : Fn Tryz.prog 45 [.agg (Xf a0),.int .u32 a1] (.pure (.bool r)) := by
 unfold M.YQ at h
 refine ZE Tryz.func45 rfl (by kernel_rfl) (Za (zg [1,2] 1 (Zb (Za ?_))))
 obtain ⟨r1,q1,h2⟩ := bind_some h
 exact zr [4] 0 Zt (rq1 (RQ _ _ q1) rqn) (Zb (Zf (er1 h2)))
theorem Zcp (a0 : List Z3) (a1 : ZM) (a2 : Int) (r : Int) (h : M.Qb a0 a1 a2 = some r) : Fn Tryz.prog 65 [sL 14 Yn a0,.agg (Xf a1),.int .u32 a2] (.pure (.int .i64 r)) := by
 let u3 : Nat × D := (10,sL 14 Yn a0)
 let u4 := (a0.length : Int)
 let u5 : Nat × D := (0,sL 14 Yn a0)
 let u6 := Xf a1
 unfold M.Qb at h
 refine ZE Tryz.func65 rfl (by kernel_rfl) (Za (zg [0,2,4] 1 (Zb (Za (zg [0,2,4,7] 1 (Zb (Za (Za (zg [0,2,4,7,10,11,12] 1 (Zb (Zg ?_)))))))))))
 obtain ⟨y5,q19,h20⟩ := bind_some h
 refine zl (fun (p1 : Int × Int) => ⟨45,[u5,(2,.int .u32 a2),(4,.ref 0 0),(7,.int .i64 p1.1),u3,(11,.int .i64 u4),(12,.int .i64 p1.2)],[.box u6]⟩) (fun z => OutE 0 (fun z => ⟨45,[(7,.int .i64 z)],[]⟩) z) q19 ?_ ?_
 intro p1 y2 h1
 let u1 := a0.getD p1.2.toNat default
 let u2 := (((u1.Zl).Zn) == a1.Zn) && ((((u1.Zl).ZL) == a1.ZL) && true)
 unfold M.Y2 at h1
 refine Za (rg0 [0,2,4,7,10,11,12,13] 1 ⟨45,[u5,(2,.int .u32 a2),(4,.ref 0 0),(7,.int .i64 p1.1),u3,(11,.int .i64 u4),(12,.int .i64 p1.2),(13,.bool (decide (p1.2 < u4)))],[.box u6]⟩ (Zb (Za (cn h1 (fun _ h3 => ?_) (fun _ h4 => ?_)))))
 refine Zd (Zb (Vo (fun (p3 : Int) => ⟨45,[u5,(2,.int .u32 a2),(4,.ref 0 0),(7,.int .i64 p3),u3,(11,.int .i64 u4),(12,.int .i64 p1.2)],[.box u6]⟩) (fun p3 => M.Yg p1 p3 = some y2) ?_ ?_))
 intro p3 h6
 unfold M.Yg at h6
 exact zg [0,2,4,7,10,11,12] 1 (rn h6)
 intro k5
 refine Zg (Za ?_)
 obtain ⟨c7,h8⟩ := Zq h3
 refine zc [0,2,4,7,8,9,10,11,12] 2 c7 (Zb (Za (Za ?_)))
 obtain ⟨r4,q9,h10⟩ := bind_some h8
 refine rg [.pure (.bool r4)] [0,2,4,7,8,9,10,11,12,27] 2 ⟨45,[u5,(2,.int .u32 a2),(4,.ref 0 0),(7,.int .i64 p1.1),(8,.int .i64 p1.2),(9,.ref 1 0),u3,(11,.int .i64 u4),(12,.int .i64 p1.2),(27,.bool (u2 || (!r4)))],[.box u6,.box (Yn u1)]⟩ [] [⟨(!u2),45,[.agg (Xf (u1.Zl)),.int .u32 a2],.pure (.bool r4)⟩] Zt ⟨fun hg => Rr (u1.Zl) a2 r4 (Xg q9 hg),trivial⟩ (Zb (cn h10 (fun _ h12 => ?_) (fun _ h13 => ?_)))
 exact ZF (Xl (Y8 (Xb (Le.trans (s' := ⟨45,[u5,(2,.int .u32 a2),(4,.ref 0 0),(7,.int .i64 p1.1),u3,(11,.int .i64 u4),(12,.int .i64 p1.2)],[.box u6,.box (Yn u1)]⟩) (kp [0,2,4,7,10,11,12]) (UQ (n := 1) (by kernel_rfl))) (k5 p1.1 h12))))
 refine Zd (Zb (Za ?_))
 obtain ⟨c14,h15⟩ := Zq h13
 refine zc [0,2,4,7,8,10,11,12,41] 1 c14 (Zb (cn h15 (fun _ h17 => ?_) (fun _ h18 => ?_)))
 exact zg [0,2,4,7,10,11,12] 1 (XO (Xb lk (k5 p1.2 h17)))
 exact Zd (XO (Xb kq (k5 p1.1 h18)))
 exact ZF (Xl (re h4 ⟨rfl,kc⟩))
 intro e21 s22 o23
 exact zi o23 (Za (zg [6] 0 (Zb (Zf (er1 h20)))))
theorem GO (a0 : List ZY) (r : List ZY) (h : M.XV a0 = some r) : Fn Tryz.prog 52 [sL 2 XL a0] (oL 2 XL r) := by
 unfold M.XV at h
 obtain ⟨hc,h1⟩ := Zq h
 obtain rfl := Option.some.inj h1
 refine Zca Tryz.func52 rfl (by kernel_rfl) (UX ?_)
 refine Za (rg0 [0] 0 ⟨8,[(0,sL 2 XL a0)],[]⟩ ?_)
 refine Zb (Za (Za (rg0 [0,4] 0 ⟨8,[(0,sL 2 XL a0),(4,.nilq a0.length)],[]⟩ ?_)))
 refine Zb (nq a0.length (fun hz => ?_) ?_)
 refine Za (rg0 [2] 0 ⟨8,[(2,.sl true 2 0 (fun _ => []))],[]⟩ ?_)
 refine Zb (Zf (Zk ?_))
 obtain rfl := List.eq_nil_of_length_eq_zero hz
 exact ⟨_,Kp (wd := 2) (f := fun _ => []) 2 (by kernel_rfl) 2 (fun i => XL (([] : List ZY).getD i default)),.inr rfl,2,0,_,rfl,rfl,rfl,fun _ _ => rfl⟩
 refine Zd (Zb (Za (rgc [2] 1 ⟨8,[(2,.asl 0 0 (0 + a0.length))],[.arr 2 (0 + a0.length) (app (fun i => List.take 2 (List.drop (i * 2) [])) 0 (fun i => XL (a0.getD i default)))]⟩ [decide (0 = 0) || decide (0 < a0.length),decide ((0 + a0.length) * 16 ≤ 140737488355328)] hc ?_)))
 refine Zb (Zf ?_)
 exact ⟨⟨8,[(2,.asl 0 0 a0.length)],[aL 2 XL a0]⟩,JM (.cons (Wu (Nat.zero_add _)) .nil) (.cons (.arr (Nat.zero_add _) (Uc XL _ a0 _ (fun _ _ => rfl))) .nil),.inr rfl,2,0,_,rfl,rfl,rfl,fun _ _ => rfl⟩
theorem ZfW (a0 : List ZY) (a1 : Int) (r : (List ZY)) (h : M.Wg a0 a1 = some r) : Fn Tryz.prog 66 [sL 2 XL a0,.int .u32 a1] (.pure (sL 2 XL r)) := by
 unfold M.Wg at h
 refine ZE Tryz.func66 rfl (by kernel_rfl) (Za (zg [0,1] 0 (Zb (Za ?_))))
 obtain ⟨r1,q1,h2⟩ := bind_some h
 let u1 := (r1.length : Int)
 refine rg [oL 2 XL r1] [1,5] 1 ⟨27,[(1,.int .u32 a1),(5,.asl 0 0 r1.length)],[aL 2 XL r1]⟩ [] [⟨true,52,[sL 2 XL a0],oL 2 XL r1⟩] Zt ⟨fun _ => GO a0 r1 q1,trivial⟩ (Zb (Za (Za (zg [1,5,10,11,12] 1 (Zb (Zg ?_))))))
 obtain ⟨y5,q16,h17⟩ := bind_some h2
 refine zl (fun (p2 : (List ZY) × Int) => ⟨27,[(1,.int .u32 a1),(5,.asl 0 0 p2.1.length),(10,.asl 0 0 p2.1.length),(11,.int .i64 u1),(12,.int .i64 p2.2)],[aL 2 XL p2.1]⟩) (fun z => OutE 0 (fun z => ⟨27,[(5,.asl 0 0 z.length)],[aL 2 XL z]⟩) z) q16 ?_ ?_
 intro p2 y3 h3
 unfold M.Q6 at h3
 refine Za (rg0 [1,5,10,11,12,13] 1 ⟨27,[(1,.int .u32 a1),(5,.asl 0 0 p2.1.length),(10,.asl 0 0 p2.1.length),(11,.int .i64 u1),(12,.int .i64 p2.2),(13,.bool (decide (p2.2 < u1)))],[aL 2 XL p2.1]⟩ (Zb (Za (cn h3 (fun _ h5 => ?_) (fun _ h6 => ?_)))))
 refine Zd (Zb (Vo (fun (p4 : (List ZY)) => ⟨27,[(1,.int .u32 a1),(5,.asl 0 0 p4.length),(10,.asl 0 0 p4.length),(11,.int .i64 u1),(12,.int .i64 p2.2)],[aL 2 XL p4]⟩) (fun p4 => M.Q5 p2 p4 = some y3) ?_ ?_))
 intro p4 h8
 unfold M.Q5 at h8
 exact zg [1,5,10,11,12] 1 (rn h8)
 intro k7
 refine Zg (Za ?_)
 obtain ⟨c9,h10⟩ := Zq h5
 refine zc [1,5,6,7,10,11,12] 2 c9 (Zb (Za (zg [1,5,6,10,11,12,19] 1 (Zb (cn h10 (fun _ h12 => ?_) (fun _ h13 => ?_))))))
 obtain ⟨c14,h15⟩ := Zq h12
 exact rgc [1,5,10,11,12] 1 ⟨27,[(1,.int .u32 a1),(5,.asl 0 0 p2.1.length),(10,.asl 0 0 p2.1.length),(11,.int .i64 (r1.length : Int)),(12,.int .i64 p2.2)],[.arr 2 p2.1.length (fun j => bif Nat.beq j (0 + p2.2.toNat) then splice (XL (p2.1.getD (0 + p2.2.toNat) default)) [.int .u32 a1] 1 else XL (p2.1.getD j default))]⟩ [decide (0 ≤ p2.2),decide (p2.2 < (p2.1.length : Int))] c14 (XO (Xb (JM (.cons Sub.rfl (.cons (Wu (by simp)) (.cons (Wu (by simp)) (.cons Sub.rfl (.cons Sub.rfl .nil))))) (.cons (.arr (by simp) (Ze5 XL p2.1 (0 + p2.2.toNat) (⟨(p2.1.getD (0 + p2.2.toNat) default).ZH,a1⟩ : ZY) _ rfl)) .nil)) (k7 (p2.1.set (0 + p2.2.toNat) (⟨(p2.1.getD (0 + p2.2.toNat) default).ZH,a1⟩ : ZY)) h15)))
 exact Zd (XO (Xb kq (k7 p2.1 h13)))
 exact ZF (Xl (re h6 ⟨rfl,kq⟩))
 intro e18 s19 o20
 refine zi o20 (Za (zg [4] 1 (Zb (Zf ?_))))
 obtain rfl := Option.some.inj h17
 exact er (.sl false 2 y5.length (fun i => XL (y5.getD (0 + i) default))) Zjr
theorem ZfX (a0 : List Z3) (a1 : Int) (r : (List ZY)) (h : M.Wh a0 a1 = some r) : Fn Tryz.prog 30 [sL 14 Yn a0,.int .i64 a1] (.pure (sL 2 XL r)) := by
 unfold M.Wh at h
 refine ZE Tryz.func30 rfl (by kernel_rfl) (Za (zg [0,1] 0 (Zb (Za ?_))))
 obtain ⟨c1,h2⟩ := Zq h
 refine rgc [0,1,5] 1 ⟨86,[(0,sL 14 Yn a0),(1,.int .i64 a1),(5,.asl 0 0 ((a0.length : Int).toNat))],[.arr 1 ((a0.length : Int).toNat) (fun _ => [.bool false])]⟩ [decide (0 ≤ (a0.length : Int)),decide ((a0.length : Int) ≤ (a0.length : Int)),decide ((a0.length : Int).toNat * 1 ≤ 140737488355328),decide ((a0.length : Int).toNat ≤ 140737488355328)] c1 (Xb (s' := ⟨86,[(0,sL 14 Yn a0),(1,.int .i64 a1),(5,.asl 0 0 ((List.replicate ((a0.length : Int).toNat) false).length))],[aL 1 cb (List.replicate ((a0.length : Int).toNat) false)]⟩) (JM (.cons Sub.rfl (.cons Sub.rfl (.cons (Wu (by simp)) .nil))) (.cons (.arr (by simp) (Zmg cb _ false _ rfl)) .nil)) (Za (Zg ?_)))
 obtain ⟨y7,q35,h36⟩ := bind_some h2
 refine zl (fun (p1 : (List Bool) × Int) => ⟨86,[(0,sL 14 Yn a0),(1,.int .i64 p1.2),(5,.asl 0 0 p1.1.length)],[aL 1 cb p1.1]⟩) (Sum.elim (fun z => OutE 0 (fun z => ⟨86,[(0,sL 14 Yn a0),(1,.int .i64 z)],[]⟩) z) (fun z => OutR Tryz.prog Tryz.f30 (sL 2 XL z))) q35 ?_ ?_
 intro p1 y2 h3
 unfold M.Jx at h3
 refine Za (Za ?_)
 obtain ⟨r3,q4,h5⟩ := bind_some h3
 obtain ⟨c6,h7⟩ := Zq h5
 refine zr [0,1,5,23] 1 c6 (rq2 (fun hg => Rq _ _ (Xg q4 hg)) rqn) (Zb (cn h7 (fun _ h9 => ?_) (fun _ h10 => ?_)))
 refine Zd (Zb (Zg (Za ?_)))
 obtain ⟨c11,h12⟩ := Zq h9
 refine rgc [0,1,5] 1 ⟨86,[(0,sL 14 Yn a0),(1,.int .i64 p1.2),(5,.asl 0 0 p1.1.length)],[.arr 1 p1.1.length (fun j => bif Nat.beq j (0 + p1.2.toNat) then splice (cb (p1.1.getD (0 + p1.2.toNat) default)) [.bool true] 0 else cb (p1.1.getD j default))]⟩ [decide (0 ≤ p1.2),decide (p1.2 < (p1.1.length : Int))] c11 (Xb (s' := ⟨86,[(0,sL 14 Yn a0),(1,.int .i64 p1.2),(5,.asl 0 0 ((p1.1.set (0 + p1.2.toNat) true).length))],[aL 1 cb (p1.1.set (0 + p1.2.toNat) true)]⟩) (JM (.cons Sub.rfl (.cons Sub.rfl (.cons (Wu (by simp)) .nil))) (.cons (.arr (by simp) (Ze5 cb p1.1 (0 + p1.2.toNat) true _ rfl)) .nil)) (Za ?_))
 obtain ⟨c13,h14⟩ := Zq h12
 refine zc [0,1,5,6] 1 c13 (Zb (Za ?_))
 obtain ⟨r4,q15,h16⟩ := bind_some h14
 obtain ⟨c17,h18⟩ := Zq h16
 refine zr [0,5,6,7] 1 c17 (rq1 (Zcp _ _ _ _ q15) rqn) (Zb (Za (Za ?_)))
 obtain ⟨c19,h20⟩ := Zq h18
 refine zc [0,5,6,7,53] 1 c19 (Zb (cn h20 (fun _ h22 => ?_) (fun _ h23 => ?_)))
 exact Za (rg0 [4] 0 ⟨86,[(4,.sl true 2 0 (fun _ => []))],[]⟩ (Zb (Zf (Zk (ZQ (rr h22 ⟨rfl,er (.sl false 2 0 (fun _ => [])) Ze3⟩))))))
 refine Zd (Zb (Za (Za ?_)))
 obtain ⟨r5,q24,h25⟩ := bind_some h23
 obtain ⟨c26,h27⟩ := Zq h25
 refine zr [0,5,6,7,67] 1 c26 (rq2 (fun hg => Rq _ _ (Xg q24 hg)) rqn) (Zb (cn h27 (fun _ h29 => ?_) (fun _ h30 => ?_)))
 refine Za ?_
 obtain ⟨r6,q31,h32⟩ := bind_some h29
 obtain ⟨c33,h34⟩ := Zq h32
 exact zr [4] 0 c33 (rq1 (ZfW _ _ _ q31) rqn) (Zb (Zf (Zk (ZQ (rr h34 ⟨rfl,er0 _⟩)))))
 exact Zd (Zb (zg [0,1,5] 1 (XO (rn h30))))
 exact ZF (Xl (re h10 ⟨rfl,kc⟩))
 intro e37 s38 o39
 rcases y7 with g8 | y9
 have h40 := Ya h36
 refine zi o39 (Za (Za ?_))
 obtain ⟨c43,h44⟩ := Zq h40
 refine zc [0,1,80] 0 c43 (Zb (cn h44 (fun _ h46 => ?_) (fun _ h47 => ?_)))
 refine Za (zg [4] 0 (Zb (Zf (Zk ?_))))
 obtain rfl := Option.some.inj h46
 exact er (.sl false 2 0 (fun _ => [])) Ze3
 refine Zd (Zb (Za ?_))
 obtain ⟨c48,h49⟩ := Zq h47
 exact zc [4] 0 c48 (Zb (Zf (er1 h49)))
 have h41 := Yb h36
 obtain ⟨rfl,n50⟩ := o39
 refine ZQ (Zk ?_)
 obtain rfl := Option.some.inj h41
 exact n50
theorem GU (a0 : List Vz) (a1 : Vz) (r : Int) (h : M.Z7 a0 a1 = some r) : Fn Tryz.prog 117 [sL 2 Xm a0,.agg (Xm a1)] (.pure (.int .i64 r)) := by
 unfold M.Z7 at h
 refine ZE Tryz.func117 rfl (by kernel_rfl) (Za (zg [0,3] 1 (Zb (Za (Za (zg [0,3,7,8] 1 (Zb (Zg ?_))))))))
 obtain ⟨y3,q10,h11⟩ := bind_some h
 refine zl (fun (p1 : Int) => ⟨19,[(0,sL 2 Xm a0),(3,.ref 0 0),(7,.int .i64 (a0.length : Int)),(8,.int .i64 p1)],[.box (Xm a1)]⟩) (Sum.elim (fun z => OutE 0 (fun z => ⟨19,[],[]⟩) z) (fun z => OutR Tryz.prog Tryz.f117 (.int .i64 z))) q10 ?_ ?_
 intro p1 y2 h1
 unfold M.Z0 at h1
 refine Za (zg [0,3,7,8,9] 1 (Zb (Za (cn h1 (fun _ h3 => ?_) (fun _ h4 => ?_)))))
 refine Zd (Zb (Za (Zg (Za (zg [0,3,5,7,8] 1 (Zb (Za ?_)))))))
 obtain ⟨c5,h6⟩ := Zq h3
 refine zc [0,3,5,7,8,16] 1 c5 (Zb (cn h6 (fun _ h8 => ?_) (fun _ h9 => ?_)))
 exact Za (zg [4] 0 (Zb (Zf (ZQ (Zk (rr h8 ⟨rfl,er0 _⟩))))))
 exact Zd (XO (Zb (zg [0,3,7,8] 1 (rn h9))))
 exact ZF (Xl (re h4 ⟨rfl,kc⟩))
 intro e12 s13 o14
 rcases y3 with g4 | y5
 have h15 := Ya h11
 exact zi o14 (Za (zg [4] 0 (Zb (Zf (er1 h15)))))
 have h16 := Yb h11
 obtain ⟨rfl,n18⟩ := o14
 refine ZQ (Zk ?_)
 obtain rfl := Option.some.inj h16
 exact n18
theorem Gq (a0 : List Vz) (a1 : Vz) (r : Bool) (h : M.ZP a0 a1 = some r) : Fn Tryz.prog 86 [sL 2 Xm a0,.agg (Xm a1)] (.pure (.bool r)) := by
 unfold M.ZP at h
 refine ZE Tryz.func86 rfl (by kernel_rfl) (Za (zg [0,3] 1 (Zb (Za ?_))))
 obtain ⟨r1,q1,h2⟩ := bind_some h
 exact zr [4] 0 Zt (rq1 (GU _ _ _ q1) rqn) (Zb (Zf (er1 h2)))
theorem ZaX (a0 : XU) (a1 : Int) (a2 : Int) (r : Int) (h : M.Y6 a0 a1 a2 = some r) : Fn Tryz.prog 67 [.agg (Ys a0),.int .i64 a1,.int .i64 a2] (.pure (.int .i64 r)) := by
 unfold M.Y6 at h
 refine ZE Tryz.func67 rfl (by kernel_rfl) (Za (zg [1,2,3] 1 (Zb (Za (zg [3,7] 2 (Zb (Za (Za (zg [7,15,16,17] 2 (Zb (Zg ?_)))))))))))
 obtain ⟨y4,q12,h13⟩ := bind_some h
 refine zl (fun (p1 : Int) => ⟨28,[(7,.ref 1 0),(15,sL 4 ZV a0.X9.Xa),(16,.int .i64 (a0.X9.Xa.length : Int)),(17,.int .i64 p1)],[.box (Ys a0),.box [.int .i64 a1,.int .i64 a2]]⟩) (Sum.elim (fun z => OutE 0 (fun z => ⟨28,[],[]⟩) z) (fun z => OutR Tryz.prog Tryz.f67 (.int .i64 z))) q12 ?_ ?_
 intro p1 y2 h1
 unfold M.YK at h1
 refine Za (zg [7,15,16,17,18] 2 (Zb (Za (cn h1 (fun _ h3 => ?_) (fun _ h4 => ?_)))))
 refine Zd (Zb (Za (Zg (Za ?_))))
 obtain ⟨c5,h6⟩ := Zq h3
 refine zc [7,8,9,15,16,17] 3 c5 (Zb (Za ?_))
 obtain ⟨r3,q7,h8⟩ := bind_some h6
 refine zr [7,8,15,16,17,25] 2 Zt (rq1 (Gq _ _ _ q7) rqn) (Zb (cn h8 (fun _ h10 => ?_) (fun _ h11 => ?_)))
 exact Za (zg [6] 0 (Zb (Zf (ZQ (Zk (rr h10 ⟨rfl,er0 _⟩))))))
 exact Zd (XO (Zb (zg [7,15,16,17] 2 (rn h11))))
 exact ZF (Xl (re h4 ⟨rfl,kc⟩))
 intro e14 s15 o16
 rcases y4 with g5 | y6
 have h17 := Ya h13
 exact zi o16 (Za (zg [6] 0 (Zb (Zf (er1 h17)))))
 have h18 := Yb h13
 obtain ⟨rfl,n20⟩ := o16
 refine ZQ (Zk ?_)
 obtain rfl := Option.some.inj h18
 exact n20
theorem Gu (a0 : List Int) (a1 : Int) (r : Int) (h : M.XK a0 a1 = some r) : Fn Tryz.prog 87 [sL 1 (ci .i64) a0,.int .i64 a1] (.pure (.int .i64 r)) := by
 unfold M.XK at h
 refine ZE Tryz.func87 rfl (by kernel_rfl) (Za (zg [0,1] 0 (Zb (Za (Za (zg [0,1,7,8] 0 (Zb (Zg ?_))))))))
 obtain ⟨y3,q10,h11⟩ := bind_some h
 refine zl (fun (p1 : Int) => ⟨19,[(0,sL 1 (ci .i64) a0),(1,.int .i64 a1),(7,.int .i64 (a0.length : Int)),(8,.int .i64 p1)],[]⟩) (Sum.elim (fun z => OutE 0 (fun z => ⟨19,[],[]⟩) z) (fun z => OutR Tryz.prog Tryz.f87 (.int .i64 z))) q10 ?_ ?_
 intro p1 y2 h1
 unfold M.XM at h1
 refine Za (zg [0,1,7,8,9] 0 (Zb (Za (cn h1 (fun _ h3 => ?_) (fun _ h4 => ?_)))))
 refine Zd (Zb (Za (Zg (Za (zg [0,1,5,7,8] 0 (Zb (Za ?_)))))))
 obtain ⟨c5,h6⟩ := Zq h3
 refine zc [0,1,5,7,8,16] 0 c5 (Zb (cn h6 (fun _ h8 => ?_) (fun _ h9 => ?_)))
 exact Za (zg [4] 0 (Zb (Zf (ZQ (Zk (rr h8 ⟨rfl,er0 _⟩))))))
 exact Zd (XO (Zb (zg [0,1,7,8] 0 (rn h9))))
 exact ZF (Xl (re h4 ⟨rfl,kq⟩))
 intro e12 s13 o14
 rcases y3 with g4 | y5
 have h15 := Ya h11
 exact zi o14 (Za (zg [4] 0 (Zb (Zf (er1 h15)))))
 have h16 := Yb h11
 obtain ⟨rfl,n18⟩ := o14
 refine ZQ (Zk ?_)
 obtain rfl := Option.some.inj h16
 exact n18
theorem Zhm (a0 : XU) (a1 : Int) (a2 : Int) (r : Int) (h : M.Vu a0 a1 a2 = some r) : Fn Tryz.prog 68 [.agg (Ys a0),.int .i64 a1,.int .i64 a2] (.pure (.int .i64 r)) := by
 unfold M.Vu at h
 refine ZE Tryz.func68 rfl (by kernel_rfl) (Za (zg [1,2,3] 1 (Zb (Za ?_))))
 obtain ⟨r1,q1,h2⟩ := bind_some h
 refine zr [3,7] 1 Zt (rq1 (ZaX _ _ _ _ q1) rqn) (Zb (Za (Za (zg [3,7,13] 1 (Zb (cn h2 (fun _ h4 => ?_) (fun _ h5 => ?_)))))))
 exact Za (zg [6] 0 (Zb (Zf (Zk (er1 h4)))))
 refine Zd (Zb (Za ?_))
 obtain ⟨r2,q6,h7⟩ := bind_some h5
 exact zr [6] 0 Zt (rq1 (Gu _ _ _ q6) rqn) (Zb (Zf (er1 h7)))
theorem KE (a0 : List Int) (a1 : Int) (r : Bool) (h : M.XC a0 a1 = some r) : Fn Tryz.prog 69 [sL 1 (ci .i64) a0,.int .i64 a1] (.pure (.bool r)) := by
 unfold M.XC at h
 refine ZE Tryz.func69 rfl (by kernel_rfl) (Za (zg [0,1] 0 (Zb (Za ?_))))
 obtain ⟨r1,q1,h2⟩ := bind_some h
 exact zr [4] 0 Zt (rq1 (Gu _ _ _ q1) rqn) (Zb (Zf (er1 h2)))
theorem Zi2 (a0 : XU) (a1 : Int) (a2 : Int) (r : Bool) (h : M.Ud a0 a1 a2 = some r) : Fn Tryz.prog 31 [.agg (Ys a0),.int .i64 a1,.int .i64 a2] (.pure (.bool r)) := by
 unfold M.Ud at h
 refine ZE Tryz.func31 rfl (by kernel_rfl) (Za (zg [1,2,3] 1 (Zb (Za (Za ?_)))))
 obtain ⟨r1,q1,h2⟩ := bind_some h
 refine zr [1,2,3,12] 1 Zt (rq1 (ZaX _ _ _ _ q1) rqn) (Zb (cn h2 (fun _ h4 => ?_) (fun _ h5 => ?_)))
 exact Za (zg [6] 0 (Zb (Zf (Zk (er1 h4)))))
 refine Zd (Zb (Za ?_))
 obtain ⟨r2,q6,h7⟩ := bind_some h5
 refine zr [3,7] 1 Zt (rq1 (Zhm _ _ _ _ q6) rqn) (Zb (Za ?_))
 obtain ⟨r3,q8,h9⟩ := bind_some h7
 exact zr [6] 0 Zt (rq2 (fun hg => KE _ _ _ (Xg q8 hg)) rqn) (Zb (Zf (er1 h9)))
theorem Rs (a0 : Int) (r : Bool) (h : M.Ja a0 = some r) : Fn Tryz.prog 72 [.int .i64 a0] (.pure (.bool r)) := by
 unfold M.Ja at h
 exact ZE Tryz.func72 rfl (by kernel_rfl) (Za (zg [0] 0 (Zb (Za (zg [2] 0 (Zb (Zf (er1 h))))))))
theorem Gr (a0 : Int) (a1 : Int) (r : Int) (h : M.YF a0 a1 = some r) : Fn Tryz.prog 35 [.int .i64 a0,.int .i64 a1] (.pure (.int .i64 r)) := by
 unfold M.YF at h
 refine ZE Tryz.func35 rfl (by kernel_rfl) (Za (zg [0,1] 0 (Zb (Za ?_))))
 obtain ⟨r1,q1,h2⟩ := bind_some h
 refine zr [0,1,5] 0 Zt (rq1 (Rs _ _ q1) rqn) (Zb (Za ?_))
 obtain ⟨r2,q3,h4⟩ := bind_some h2
 refine zr [0,1,5,6] 0 Zt (rq1 (Rs _ _ q3) rqn) (Zb (Za (Za (zg [0,1,6,11] 0 (Zb (cn h4 (fun _ h6 => ?_) (fun _ h7 => ?_)))))))
 refine Za (Za (zg [12] 0 (Zb (cn h6 (fun _ h9 => ?_) (fun _ h10 => ?_)))))
 exact Za (zg [4] 0 (Zb (Zf (Zk (Zk (er1 h9))))))
 exact Zd (Zb (Za (zg [4] 0 (Zb (Zf (Zk (er1 h10)))))))
 refine Zd (Zb (Za (Za (zg [0,1,13] 0 (Zb (cn h7 (fun _ h12 => ?_) (fun _ h13 => ?_)))))))
 exact Za (zg [4] 0 (Zb (Zf (Zk (er1 h12)))))
 refine Zd (Zb (Za (Za (zg [0,1,16] 0 (Zb (cn h13 (fun _ h15 => ?_) (fun _ h16 => ?_)))))))
 exact Za (zg [4] 0 (Zb (Zf (Zk (er1 h15)))))
 refine Zd (Zb (Za (Za (zg [19] 0 (Zb (cn h16 (fun _ h18 => ?_) (fun _ h19 => ?_)))))))
 exact Za (zg [4] 0 (Zb (Zf (Zk (er1 h18)))))
 exact Zd (Zb (Za (zg [4] 0 (Zb (Zf (er1 h19))))))
theorem Km (a0 : Int) (r : Bool) (h : M.YV a0 = some r) : Fn Tryz.prog 73 [.int .u32 a0] (.pure (.bool r)) := by
 unfold M.YV at h
 exact ZE Tryz.func73 rfl (by kernel_rfl) (Za (zg [0] 0 (Zb (Za (zg [2] 0 (Zb (Zf (er1 h))))))))
theorem GW (a0 : Int) (a1 : Int) (r : Int) (h : M.Ym a0 a1 = some r) : Fn Tryz.prog 36 [.int .u32 a0,.int .u32 a1] (.pure (.int .i64 r)) := by
 unfold M.Ym at h
 refine ZE Tryz.func36 rfl (by kernel_rfl) (Za (zg [0,1] 0 (Zb (Za ?_))))
 obtain ⟨r1,q1,h2⟩ := bind_some h
 refine zr [0,1,5] 0 Zt (rq1 (Km _ _ q1) rqn) (Zb (Za ?_))
 obtain ⟨r2,q3,h4⟩ := bind_some h2
 refine zr [0,1,5,6] 0 Zt (rq1 (Km _ _ q3) rqn) (Zb (Za (Za (zg [0,1,6,11] 0 (Zb (cn h4 (fun _ h6 => ?_) (fun _ h7 => ?_)))))))
 refine Za (Za (zg [12] 0 (Zb (cn h6 (fun _ h9 => ?_) (fun _ h10 => ?_)))))
 exact Za (zg [4] 0 (Zb (Zf (Zk (Zk (er1 h9))))))
 exact Zd (Zb (Za (zg [4] 0 (Zb (Zf (Zk (er1 h10)))))))
 refine Zd (Zb (Za (Za (zg [0,1,13] 0 (Zb (cn h7 (fun _ h12 => ?_) (fun _ h13 => ?_)))))))
 exact Za (zg [4] 0 (Zb (Zf (Zk (er1 h12)))))
 refine Zd (Zb (Za (Za (zg [0,1,16] 0 (Zb (cn h13 (fun _ h15 => ?_) (fun _ h16 => ?_)))))))
 exact Za (zg [4] 0 (Zb (Zf (Zk (er1 h15)))))
 refine Zd (Zb (Za (Za (zg [19] 0 (Zb (cn h16 (fun _ h18 => ?_) (fun _ h19 => ?_)))))))
 exact Za (zg [4] 0 (Zb (Zf (Zk (er1 h18)))))
 exact Zd (Zb (Za (zg [4] 0 (Zb (Zf (er1 h19))))))
theorem ZbY (a0 : List Int) (r : Int) (h : M.V4 a0 = some r) : Fn Tryz.prog 34 [sL 1 (ci .i64) a0] (.pure (.int .i64 r)) := by
 unfold M.V4 at h
 refine ZE Tryz.func34 rfl (by kernel_rfl) (Za (zg [0] 0 (Zb (Za (zg [0,3] 0 (Zb (Za (Za (zg [3,6,7,8] 0 (Zb (Zg ?_)))))))))))
 obtain ⟨y3,q10,h11⟩ := bind_some h
 refine zl (fun (p1 : Int) => ⟨18,[(3,.int .i64 0),(6,sL 1 (ci .i64) a0),(7,.int .i64 (a0.length : Int)),(8,.int .i64 p1)],[]⟩) (Sum.elim (fun z => OutE 0 (fun z => ⟨18,[(3,.int .i64 0)],[]⟩) z) (fun z => OutR Tryz.prog Tryz.f34 (.int .i64 z))) q10 ?_ ?_
 intro p1 y2 h1
 unfold M.QP at h1
 refine Za (zg [3,6,7,8,9] 0 (Zb (Za (cn h1 (fun _ h3 => ?_) (fun _ h4 => ?_)))))
 refine Zd (Zb (Za (Zg (Za ?_))))
 obtain ⟨c5,h6⟩ := Zq h3
 refine zc [3,5,6,7,8] 0 c5 (Zb (Za (zg [3,5,6,7,8,14] 0 (Zb (cn h6 (fun _ h8 => ?_) (fun _ h9 => ?_))))))
 exact Za (zg [2] 0 (Zb (Zf (ZQ (Zk (rr h8 ⟨rfl,er0 _⟩))))))
 exact Zd (XO (Zb (zg [3,6,7,8] 0 (rn h9))))
 exact ZF (Xl (re h4 ⟨rfl,kq⟩))
 intro e12 s13 o14
 rcases y3 with g4 | y5
 have h15 := Ya h11
 exact zi o14 (Za (zg [2] 0 (Zb (Zf (er1 h15)))))
 have h16 := Yb h11
 obtain ⟨rfl,n18⟩ := o14
 refine ZQ (Zk ?_)
 obtain rfl := Option.some.inj h16
 exact n18
theorem Zd1 (a0 : ZY) (a1 : ZY) (r : Int) (h : M.JJ a0 a1 = some r) : Fn Tryz.prog 33 [.agg (XL a0),.agg (XL a1)] (.pure (.int .i64 r)) := by
 unfold M.JJ at h
 refine ZE Tryz.func33 rfl (by kernel_rfl) (Za (zg [2,3] 2 (Zb (Za ?_))))
 obtain ⟨r1,q1,h2⟩ := bind_some h
 obtain ⟨r2,q3,h4⟩ := bind_some h2
 obtain ⟨r3,q5,h6⟩ := bind_some h4
 exact rg [.pure (.int .i64 r1),.pure (.int .i64 r2),.pure (.int .i64 r3)] [4] 0 ⟨17,[(4,.int .i64 r3)],[]⟩ [] [⟨true,35,[.int .i64 a0.ZH,.int .i64 a1.ZH],.pure (.int .i64 r1)⟩,⟨true,36,[.int .u32 a0.Zn,.int .u32 a1.Zn],.pure (.int .i64 r2)⟩,⟨true,34,[.sl false 1 2 (fun i => List.take 1 (List.drop (i * 1) [.int .i64 r1,.int .i64 r2]))],.pure (.int .i64 r3)⟩] Zt ⟨fun _ => Gr a0.ZH a1.ZH r1 q1,fun _ => GW a0.Zn a1.Zn r2 q3,fun _ => (ZbY ([r1,r2] : List Int) r3 q5).args (.cons (Zjp rfl (fun i hi => match i,hi with | 0,_ => rfl | 1,_ => rfl | n + 2,h => absurd h (by omega))) .nil),trivial⟩ (Zb (Zf (er1 h6)))
end Nv
namespace Go.Proofs
open Go.Shelf
shelf_lay_g SlLaysF0.n6 Slsf 6 at Tryz 32 as Tryz.sortL32
end Go.Proofs
namespace Nv
open Go Go.Proofs
theorem WQ (a0 : List ZY) (r : List ZY) (h : M.XD a0 = some r) : FnM Tryz.prog 32 [.asl 0 0 a0.length,.fn 33 []] 2 a0.length (fun i => XL (a0.getD i default)) (fun i => XL (r.getD i default)) (.tup []) := by
 obtain ⟨cf,h1,h2,h3,rfl⟩ := ZfB h
 exact sortF0 Tryz.sortL32 2 (fun w => by kernel_rfl) (fun w => by kernel_rfl) XL (fun _ => rfl) (fun _ => rfl) h2 33 (enters_of Tryz.func33 (by kernel_rfl) rfl) (fun x y => Zd1 x y _ (h1 x y)) a0 h3
theorem Gx (a0 : List ZY) (r : (List ZY) × Nat) (h : M.XN a0 = some r) : FnM Tryz.prog 37 [.asl 0 0 a0.length] 2 a0.length (fun i => XL (a0.getD i default)) (fun i => XL (r.1.getD i default)) (.asl 0 0 r.2) := by
 let u1 : St := ⟨61,[(2,.asl 0 0 a0.length)],[aL 2 XL a0,.gone]⟩
 unfold M.XN at h
 refine Zm3 Tryz.func37 rfl (by kernel_rfl) (Za (zg [0] 2 (Zb (Za (Za (zg [0,8] 2 (Zb (cn h (fun _ h2 => ?_) (fun _ h3 => ?_)))))))))
 refine Za (rg0 [2] 2 u1 (Zb (Zf (Zk ?_))))
 obtain rfl := Option.some.inj h2
 exact emr (s' := u1) (UR) rfl
 refine Zd (Zb (Za (Za (zg [0,3] 2 (Zb (Zg ?_))))))
 obtain ⟨y7,q40,h41⟩ := bind_some h3
 refine zl (fun (p1 : Int) => ⟨61,[(0,.asl 0 0 a0.length),(3,.int .i64 p1)],[aL 2 XL a0,.gone]⟩) (Sum.elim (fun z => OutE 0 (fun z => ⟨61,[(0,.asl 0 0 a0.length)],[aL 2 XL a0,.gone]⟩) z) (fun z => OutM Tryz.prog Tryz.f37 2 a0.length (fun i => XL (z.1.getD i default)) (.asl 0 0 z.2))) q40 ?_ ?_
 intro p1 y2 h4
 let u3 : Nat × D := (4,.asl 0 (0 + p1.toNat) (a0.length - p1.toNat))
 unfold M.ZZ at h4
 refine Za (Za (zg [0,3,13] 2 (Zb (cn h4 (fun _ h6 => ?_) (fun _ h7 => ?_)))))
 refine Zd (Zb (Za (Zg (Za ?_))))
 obtain ⟨c8,h9⟩ := Zq h6
 refine zc [0,3,25] 2 c8 (Zb (cn h9 (fun _ h11 => ?_) (fun _ h12 => ?_)))
 refine Za ?_
 obtain ⟨c13,h14⟩ := Zq h11
 refine zc [0,3,4] 2 c13 (Zb (Za (Za (zg [0,3,4,5] 2 (Zb (Zg ?_))))))
 obtain ⟨y6,q28,h29⟩ := bind_some h14
 let u2 := y6.2.length - y6.1.toNat
 let u4 : Nat × D := (2,.asl 0 (0 + 0) (y6.1.toNat - 0))
 refine zl (fun (p3 : (List ZY) × Int × Int) => ⟨61,[(0,.asl 0 0 p3.1.length),(3,.int .i64 p3.2.1),u3,(5,.int .i64 p3.2.2)],[aL 2 XL p3.1,.gone]⟩) (fun z => OutE 2 (fun z => ⟨61,[(0,.asl 0 0 z.2.length),(3,.int .i64 z.1)],[aL 2 XL z.2,.gone]⟩) z) q28 ?_ ?_
 intro p3 y4 h15
 unfold M.Xi at h15
 refine Za (Za (rg0 [0,3,4,5,32] 2 ⟨61,[(0,.asl 0 0 p3.1.length),(3,.int .i64 p3.2.1),u3,(5,.int .i64 p3.2.2),(32,.bool (decide (p3.2.2 < ((a0.length - p1.toNat : Nat) : Int))))],[aL 2 XL p3.1,.gone]⟩ (Zb (cn h15 (fun _ h17 => ?_) (fun _ h18 => ?_)))))
 refine Zd (Zb (Vo (fun (p5 : Int × (List ZY)) => ⟨61,[(0,.asl 0 0 p5.2.length),(3,.int .i64 p5.1),u3,(5,.int .i64 p3.2.2)],[aL 2 XL p5.2,.gone]⟩) (fun p5 => M.Xh p3 p5 = some y4) ?_ ?_))
 intro p5 h20
 unfold M.Xh at h20
 exact zg [0,3,4,5] 2 (rn h20)
 intro k19
 refine Zg (Za ?_)
 obtain ⟨c21,h22⟩ := Zq h17
 refine zc [0,3,4,5,44] 2 c21 (Zb (cn h22 (fun _ h24 => ?_) (fun _ h25 => ?_)))
 refine Za ?_
 obtain ⟨c26,h27⟩ := Zq h24
 exact rgc [0,3,4,5] 2 ⟨61,[(0,.asl 0 0 p3.1.length),(3,.int .i64 p3.2.1),(4,.asl 0 (0 + p1.toNat) (a0.length - p1.toNat)),(5,.int .i64 p3.2.2)],[.arr 2 p3.1.length (fun j => bif Nat.beq j (0 + p3.2.1.toNat) then splice (XL (p3.1.getD (0 + p3.2.1.toNat) default)) [.int .i64 ((p3.1.getD ((0 + p1.toNat) + p3.2.2.toNat) default).ZH),.int .u32 ((p3.1.getD ((0 + p1.toNat) + p3.2.2.toNat) default).Zn)] 0 else XL (p3.1.getD j default)),.gone]⟩ [decide (0 ≤ p3.2.2),decide (p3.2.2 < ((a0.length - p1.toNat : Nat) : Int)),decide (0 ≤ p3.2.1),decide (p3.2.1 < (p3.1.length : Int))] c26 (Xb (s' := ⟨61,[(0,.asl 0 0 ((p3.1.set (0 + p3.2.1.toNat) (p3.1.getD ((0 + p1.toNat) + p3.2.2.toNat) default)).length)),(3,.int .i64 p3.2.1),(4,.asl 0 (0 + p1.toNat) (a0.length - p1.toNat)),(5,.int .i64 p3.2.2)],[aL 2 XL (p3.1.set (0 + p3.2.1.toNat) (p3.1.getD ((0 + p1.toNat) + p3.2.2.toNat) default)),.gone]⟩) (JM (.cons (Wu (by simp)) (.cons Sub.rfl (.cons Sub.rfl (.cons Sub.rfl .nil)))) (.cons (.arr (by simp) (Ze5 XL p3.1 (0 + p3.2.1.toNat) (p3.1.getD ((0 + p1.toNat) + p3.2.2.toNat) default) _ rfl)) (.cons .rfl .nil))) (zg [0,3,4,5] 2 (XO (Xb lk (k19 (wr .i64 (p3.2.1 + 1),p3.1.set (0 + p3.2.1.toNat) (p3.1.getD ((0 + p1.toNat) + p3.2.2.toNat) default)) h27)))))
 exact Zd (XO (Xb kq (k19 (p3.2.1,p3.1) h25)))
 exact ZF (Xl (re h18 ⟨rfl,kq⟩))
 intro e30 s31 o32
 refine zi o32 (Za ?_)
 obtain ⟨c34,h35⟩ := Zq h29
 refine rgc [0,3] 2 ⟨61,[(0,.asl 0 0 y6.2.length),(3,.int .i64 y6.1)],[.arr 2 y6.2.length (clrR ([.int .i64 0,.int .u32 0]) (0 + y6.1.toNat) u2 (fun i => XL (y6.2.getD i default))),.gone]⟩ [decide (0 ≤ y6.1),decide (y6.1 ≤ (y6.2.length : Int))] c34 (Xb (s' := ⟨61,[(0,.asl 0 0 ((clrL y6.2 (0 + y6.1.toNat) u2 (⟨0,0⟩ : ZY)).length)),(3,.int .i64 y6.1)],[aL 2 XL (clrL y6.2 (0 + y6.1.toNat) u2 (⟨0,0⟩ : ZY)),.gone]⟩) (JM (.cons (Wu (ZaE _ _ _ _)) (.cons Sub.rfl .nil)) (.cons (.arr (ZaE _ _ _ _) (ZlB XL y6.2 (0 + y6.1.toNat) u2 (⟨0,0⟩ : ZY) _ rfl)) (.cons .rfl .nil))) (Za ?_))
 obtain ⟨c36,h37⟩ := Zq h35
 refine rgc [2] 2 ⟨61,[u4],[aL 2 XL (clrL y6.2 (0 + y6.1.toNat) u2 (⟨0,0⟩ : ZY)),.gone]⟩ [decide (0 ≤ y6.1),decide (y6.1 ≤ (((clrL y6.2 (0 + y6.1.toNat) u2 (⟨0,0⟩ : ZY)).length : Nat) : Int))] c36 (Zb (Zf (ZQ (Zk ?_))))
 obtain ⟨c38,h39⟩ := Zq h37
 exact rr h39 ⟨rfl,emr (s' := ⟨61,[u4],[aL 2 XL (clrL y6.2 (0 + y6.1.toNat) u2 (⟨0,0⟩ : ZY)),.gone]⟩) (UR) (Zm2 c38)⟩
 exact Zd (XO (Zb (zg [0,3] 2 (rn h12))))
 exact ZF (Xl (re h7 ⟨rfl,kq⟩))
 intro e42 s43 o44
 rcases y7 with g8 | y9
 have h45 := Ya h41
 refine zi o44 (Za (rg0 [2] 2 u1 (Zb (Zf ?_))))
 obtain rfl := Option.some.inj h45
 exact emr (s' := u1) (UR) rfl
 have h46 := Yb h41
 obtain ⟨rfl,n48⟩ := o44
 refine ZQ (Zk ?_)
 obtain rfl := Option.some.inj h46
 exact n48
theorem ZfY (a0 : XU) (a1 : List Z3) (a2 : Int) (a3 : Int) (r : (List ZY)) (h : M.Wi a0 a1 a2 a3 = some r) : Fn Tryz.prog 15 [.agg (Ys a0),sL 14 Yn a1,.int .i64 a2,.int .i64 a3] (.pure (sL 2 XL r)) := by
 let u4 : Nat × D := (9,.sl true 2 0 (fun _ => []))
 let u8 : List Ob := [.box (Ys a0)]
 unfold M.Wi at h
 refine ZE Tryz.func15 rfl (by kernel_rfl) (Za (zg [1,2,3,4] 1 (Zb (Za (Za (zg [1,2,3,4,19] 1 (Zb (cn h (fun _ h2 => ?_) (fun _ h3 => ?_)))))))))
 refine Za (zg [8] 0 (Zb (Zf (Zk ?_))))
 obtain rfl := Option.some.inj h2
 exact er (.sl false 2 0 (fun _ => [])) Ze3
 refine Zd (Zb (Za (zg [1,2,3,4,9] 1 (Zb (Za (Za ?_))))))
 obtain ⟨r1,q4,h5⟩ := bind_some h3
 let u2 : Nat × D := (22,sL 2 XL r1)
 let u3 := (r1.length : Int)
 refine rg [.pure (sL 2 XL r1)] [2,4,9,22,23,24] 1 ⟨42,[(2,.int .i64 a2),(4,.ref 0 0),u4,u2,(23,.int .i64 u3),(24,.int .i64 0)],u8⟩ [] [⟨true,30,[sL 14 Yn a1,.int .i64 a3],.pure (sL 2 XL r1)⟩] Zt ⟨fun _ => ZfX a1 a3 r1 q4,trivial⟩ (Zb (Zg (W6 (s' := ⟨42,[(2,.int .i64 a2),(4,.ref 0 0),u4,u2,(23,.int .i64 u3),(24,.int .i64 0)],u8⟩) (UR) (W6 (s' := ⟨42,[(2,.int .i64 a2),(4,.ref 0 0),(9,.asl 1 0 (([] : List ZY).length)),u2,(23,.int .i64 u3),(24,.int .i64 0)],[.box (Ys a0),aL 2 XL ([] : List ZY)]⟩) (Le.trans (s' := ⟨42,(9,.asl 1 0 0) :: [(2,.int .i64 a2),(4,.ref 0 0),u4,u2,(23,.int .i64 u3),(24,.int .i64 0)],u8 ++ [.arr 2 0 (fun i => XL (([] : List ZY).getD i default))]⟩) (Kp (wd := 2) (f := fun _ => []) 9 (by kernel_rfl) _ _) (kp [2,4,9,22,23,24])) ?_))))
 obtain ⟨y6,q21,h22⟩ := bind_some h5
 refine zl (fun (p2 : (List ZY) × Int) => ⟨42,[(2,.int .i64 a2),(4,.ref 0 0),(9,.asl 1 0 p2.1.length),u2,(23,.int .i64 u3),(24,.int .i64 p2.2)],[.box (Ys a0),aL 2 XL p2.1]⟩) (fun z => OutE 0 (fun z => ⟨42,[(9,.asl 1 0 z.length)],[.box (Ys a0),aL 2 XL z]⟩) z) q21 ?_ ?_
 intro p2 y3 h6
 let u1 := r1.getD p2.2.toNat default
 let u5 : List Ob := [.box (Ys a0),aL 2 XL p2.1,.box (XL u1)]
 let u6 : Nat × D := (9,.asl 1 0 p2.1.length)
 let u7 := p2.1.length + 1
 unfold M.Jy at h6
 refine Za (rg0 [2,4,9,22,23,24,25] 2 ⟨42,[(2,.int .i64 a2),(4,.ref 0 0),u6,u2,(23,.int .i64 u3),(24,.int .i64 p2.2),(25,.bool (decide (p2.2 < u3)))],[.box (Ys a0),aL 2 XL p2.1]⟩ (Zb (Za (cn h6 (fun _ h8 => ?_) (fun _ h9 => ?_)))))
 refine Zd (Zb (Vo (fun (p4 : (List ZY)) => ⟨42,[(2,.int .i64 a2),(4,.ref 0 0),(9,.asl 1 0 p4.length),u2,(23,.int .i64 u3),(24,.int .i64 p2.2)],[.box (Ys a0),aL 2 XL p4]⟩) (fun p4 => M.Q7 p2 p4 = some y3) ?_ ?_))
 intro p4 h11
 unfold M.Q7 at h11
 exact zg [2,4,9,22,23,24] 2 (rn h11)
 intro k10
 refine Zg (Za ?_)
 obtain ⟨c12,h13⟩ := Zq h8
 refine zc [2,4,9,11,22,23,24] 3 c12 (Zb (Za ?_))
 obtain ⟨r5,q14,h15⟩ := bind_some h13
 refine rg [.pure (.bool r5)] [2,4,9,11,22,23,24,32] 3 ⟨42,[(2,.int .i64 a2),(4,.ref 0 0),u6,(11,.ref 2 0),u2,(23,.int .i64 u3),(24,.int .i64 p2.2),(32,.bool r5)],u5⟩ [] [⟨true,31,[.agg (Ys a0),.int .i64 a2,.int .i64 (u1.ZH)],.pure (.bool r5)⟩] Zt ⟨fun _ => Zi2 a0 a2 (u1.ZH) r5 q14,trivial⟩ (Zb (cn h15 (fun _ h17 => ?_) (fun _ h18 => ?_)))
 obtain ⟨c19,h20⟩ := Zq h17
 exact rgc [2,4,9,22,23,24] 2 ⟨42,[(2,.int .i64 a2),(4,.ref 0 0),(9,.asl 1 0 u7),u2,(23,.int .i64 u3),(24,.int .i64 p2.2)],[.box (Ys a0),.arr 2 u7 (app (fun i => XL (p2.1.getD i default)) p2.1.length (fun i => List.take 2 (List.drop (i * 2) [.int .i64 (u1.ZH),.int .u32 (u1.Zn)])))]⟩ [decide (u7 * 16 ≤ 140737488355328)] c19 (XO (Xb (JM (.cons Sub.rfl (.cons Sub.rfl (.cons (Wu (Re _ _)) (.cons Sub.rfl (.cons Sub.rfl (.cons Sub.rfl .nil)))))) (.cons .rfl (.cons (.arr (Re _ _) (Zaz XL p2.1 u1 _ rfl)) .nil))) (k10 (p2.1 ++ [r1.getD p2.2.toNat default]) h20)))
 exact Zd (XO (Xb (Le.trans (s' := ⟨42,[(2,.int .i64 a2),(4,.ref 0 0),u6,u2,(23,.int .i64 u3),(24,.int .i64 p2.2)],u5⟩) (kp [2,4,9,22,23,24]) (UQ (n := 2) (by kernel_rfl))) (k10 p2.1 h18)))
 exact ZF (Xl (re h9 ⟨rfl,kq⟩))
 intro e23 s24 o25
 refine zi o25 (Za ?_)
 obtain ⟨r7,q27,h28⟩ := bind_some h22
 obtain ⟨c29,h30⟩ := Zq h28
 refine rg [.lnd 0 0 (fun _ => []) (fun i => XL (r7.getD i default)) (.tup [])] [9] 2 ⟨42,[(9,.asl 1 0 y6.length)],[.box (Ys a0),.arr 2 y6.length (fun i => XL (r7.getD i default))]⟩ [] [⟨true,32,[.asl 0 0 y6.length,.fn 33 []],.lnd 2 y6.length (fun i => XL (y6.getD i default)) (fun i => XL (r7.getD i default)) (.tup [])⟩] Zt ⟨fun _ => WQ y6 r7 q27,trivial⟩ (Xb (s' := ⟨42,[(9,.asl 1 0 r7.length)],[.box (Ys a0),aL 2 XL r7]⟩) (JM (.cons (Wu (Zfr (c29 _ List.mem_cons_self))) .nil) (.cons .rfl (.cons (.arr (Zfr (c29 _ List.mem_cons_self)) (fun _ _ => rfl)) .nil))) (Za ?_))
 obtain ⟨r8,q31,h32⟩ := bind_some h30
 obtain ⟨c33,h34⟩ := Zq h32
 refine rg [.lnd 0 0 (fun _ => []) (fun i => XL (r8.1.getD i default)) (.asl 0 0 r8.2)] [8] 2 ⟨42,[(8,.asl 1 0 r8.2)],[.box (Ys a0),.arr 2 r7.length (fun i => XL (r8.1.getD i default))]⟩ [] [⟨true,37,[.asl 0 0 r7.length],.lnd 2 r7.length (fun i => XL (r7.getD i default)) (fun i => XL (r8.1.getD i default)) (.asl 0 0 r8.2)⟩] Zt ⟨fun _ => Gx r7 r8 q31,trivial⟩ (Xb (s' := ⟨42,[(8,.asl 1 0 r8.2)],[.box (Ys a0),aL 2 XL r8.1]⟩) (JM (.cons Sub.rfl .nil) (.cons .rfl (.cons (.arr (Zfr (c33 _ List.mem_cons_self)) (fun _ _ => rfl)) .nil))) (Zf ?_))
 obtain ⟨c35,h36⟩ := Zq h34
 obtain rfl := Option.some.inj h36
 exact er (.sl false 2 r8.2 (fun i => XL (r8.1.getD (0 + i) default))) (Zml c35)
theorem Zdl (a0 : XU) (a1 : List Z3) (a2 : Int) (r : (List YJ)) (h : M.WT a0 a1 a2 = some r) : Fn Tryz.prog 12 [.agg (Ys a0),sL 14 Yn a1,.int .i64 a2] (.pure (sL 4 VE r)) := by
 let u2 : Nat × D := (10,sL 14 Yn a1)
 let u3 : Nat × D := (1,sL 14 Yn a1)
 let u4 := (a1.length : Int)
 let u5 : Nat × D := (7,.sl true 4 0 (fun _ => []))
 let u7 : List Ob := [.box (Ys a0)]
 unfold M.WT at h
 refine ZE Tryz.func12 rfl (by kernel_rfl) (Za (zg [1,2,3] 1 (Zb (Za (zg [1,2,3,7] 1 (Zb (Za (Za (rg0 [1,2,3,7,10,11,12] 1 ⟨32,[u3,(2,.int .i64 a2),(3,.ref 0 0),u5,u2,(11,.int .i64 u4),(12,.int .i64 0)],u7⟩ (Zb (Zg (W6 (s' := ⟨32,[u3,(2,.int .i64 a2),(3,.ref 0 0),u5,u2,(11,.int .i64 u4),(12,.int .i64 0)],u7⟩) (UR) (W6 (s' := ⟨32,[u3,(2,.int .i64 a2),(3,.ref 0 0),(7,.asl 1 0 (([] : List YJ).length)),u2,(11,.int .i64 u4),(12,.int .i64 0)],[.box (Ys a0),aL 4 VE ([] : List YJ)]⟩) (Le.trans (s' := ⟨32,(7,.asl 1 0 0) :: [u3,(2,.int .i64 a2),(3,.ref 0 0),u5,u2,(11,.int .i64 u4),(12,.int .i64 0)],u7 ++ [.arr 4 0 (fun i => VE (([] : List YJ).getD i default))]⟩) (Kp (wd := 4) (f := fun _ => []) 7 (by kernel_rfl) _ _) (kp [1,2,3,7,10,11,12])) ?_)))))))))))))
 obtain ⟨y4,q11,h12⟩ := bind_some h
 refine zl (fun (p1 : (List YJ) × Int) => ⟨32,[u3,(2,.int .i64 a2),(3,.ref 0 0),(7,.asl 1 0 p1.1.length),u2,(11,.int .i64 u4),(12,.int .i64 p1.2)],[.box (Ys a0),aL 4 VE p1.1]⟩) (fun z => OutE 0 (fun z => ⟨32,[(7,.asl 1 0 z.length)],[.box (Ys a0),aL 4 VE z]⟩) z) q11 ?_ ?_
 intro p1 y2 h1
 let u1 := a1.getD p1.2.toNat default
 let u6 := p1.1.length + 1
 unfold M.VM at h1
 refine Za (zg [1,2,3,7,10,11,12,13] 2 (Zb (Za (cn h1 (fun _ h3 => ?_) (fun _ h4 => ?_)))))
 refine Zd (Zb (Za (Zg (Za ?_))))
 obtain ⟨c5,h6⟩ := Zq h3
 refine rgc [1,2,3,7,8,9,10,11,12] 3 ⟨32,[u3,(2,.int .i64 a2),(3,.ref 0 0),(7,.asl 1 0 p1.1.length),(8,.int .i64 p1.2),(9,.ref 2 0),u2,(11,.int .i64 u4),(12,.int .i64 p1.2)],[.box (Ys a0),aL 4 VE p1.1,.box (Yn u1)]⟩ [decide (0 ≤ p1.2),decide (p1.2 < u4)] c5 (Zb ?_)
 obtain ⟨r3,q7,h8⟩ := bind_some h6
 obtain ⟨c9,h10⟩ := Zq h8
 exact rgb 12 [.pure (sL 2 XL r3)] [1,2,3,7,10,11,12] 2 ⟨32,[u3,(2,.int .i64 a2),(3,.ref 0 0),(7,.asl 1 0 u6),u2,(11,.int .i64 u4),(12,.int .i64 p1.2)],[.box (Ys a0),.arr 4 u6 (app (fun i => VE (p1.1.getD i default)) p1.1.length (fun i => List.take 4 (List.drop (i * 4) [.int .u32 ((u1.Zl).Zn),.int .i64 ((u1.Zl).ZL),sL 2 XL r3,.bool (u1.Z1)])))]⟩ [decide (u6 * 48 ≤ 140737488355328)] [⟨true,15,[.agg (Ys a0),sL 14 Yn a1,.int .i64 a2,.int .i64 p1.2],.pure (sL 2 XL r3)⟩] c9 ⟨fun _ => ZfY a0 a1 a2 p1.2 r3 q7,trivial⟩ (XO (Xb (s' := ⟨32,[u3,(2,.int .i64 a2),(3,.ref 0 0),(7,.asl 1 0 ((p1.1 ++ [(⟨u1.Zl,r3,u1.Z1⟩ : YJ)]).length)),u2,(11,.int .i64 u4),(12,.int .i64 p1.2)],[.box (Ys a0),aL 4 VE (p1.1 ++ [(⟨u1.Zl,r3,u1.Z1⟩ : YJ)])]⟩) (JM (.cons Sub.rfl (.cons Sub.rfl (.cons Sub.rfl (.cons (Wu (Re _ _)) (.cons Sub.rfl (.cons Sub.rfl (.cons Sub.rfl .nil))))))) (.cons .rfl (.cons (.arr (Re _ _) (Zaz VE p1.1 (⟨u1.Zl,r3,u1.Z1⟩ : YJ) _ rfl)) .nil))) (zg [1,2,3,7,10,11,12] 2 (rn h10))))
 exact ZF (Xl (re h4 ⟨rfl,kq⟩))
 intro e13 s14 o15
 refine zi o15 (Za (zg [6] 2 (Zb (Zf ?_))))
 obtain rfl := Option.some.inj h12
 exact er (.sl false 4 y4.length (fun i => VE (y4.getD (0 + i) default))) Zjr
theorem R9 (a0 : XU) (a1 : Int) (a2 : Int) (r : Int) (h : M.JT a0 a1 a2 = some r) : Fn Tryz.prog 42 [.agg (Ys a0),.int .i64 a1,.int .i64 a2] (.pure (.int .i64 r)) := by
 let u1 : List Ob := [.box (Ys a0)]
 unfold M.JT at h
 refine ZE Tryz.func42 rfl (by kernel_rfl) (Za (zg [1,2,3] 1 (Zb (Za (Za (zg [1,2,3,7] 1 (Zb (Zg ?_))))))))
 obtain ⟨y8,q25,h26⟩ := bind_some h
 refine zl (fun (p1 : Int) => ⟨44,[(1,.int .i64 a1),(2,.int .i64 a2),(3,.ref 0 0),(7,.int .i64 p1)],u1⟩) (Sum.elim (fun z => OutE 0 (fun z => ⟨44,[],[]⟩) z) (fun z => OutR Tryz.prog Tryz.f42 (.int .i64 z))) q25 ?_ ?_
 intro p1 y2 h1
 unfold M.JL at h1
 refine Za (Za (zg [1,2,3,7,14] 1 (Zb (cn h1 (fun _ h3 => ?_) (fun _ h4 => ?_)))))
 refine Zd (Zb (Za (Zg (Za (zg [1,2,3,7,8] 1 (Zb (Zg ?_)))))))
 obtain ⟨y5,q16,h17⟩ := bind_some h3
 refine zl (fun (p3 : Int) => ⟨44,[(1,.int .i64 a1),(2,.int .i64 a2),(3,.ref 0 0),(7,.int .i64 p1),(8,.int .i64 p3)],u1⟩) (Sum.elim (fun z => OutE 2 (fun z => ⟨44,[(1,.int .i64 a1),(2,.int .i64 a2),(3,.ref 0 0),(7,.int .i64 p1)],u1⟩) z) (fun z => OutR Tryz.prog Tryz.f42 (.int .i64 z))) q16 ?_ ?_
 intro p3 y4 h5
 unfold M.JK at h5
 refine Za (Za ?_)
 obtain ⟨c6,h7⟩ := Zq h5
 refine zc [1,2,3,7,8,26] 1 c6 (Zb (cn h7 (fun _ h9 => ?_) (fun _ h10 => ?_)))
 refine Zd (Zb (Za (Zg (Za ?_))))
 obtain ⟨c11,h12⟩ := Zq h9
 refine zc [1,2,3,7,8,42] 1 c11 (Zb (cn h12 (fun _ h14 => ?_) (fun _ h15 => ?_)))
 exact Za (zg [6] 0 (Zb (Zf (ZQ (Zk (rr h14 ⟨rfl,er0 _⟩))))))
 exact Zd (XO (Zb (zg [1,2,3,7,8] 1 (rn h15))))
 exact ZF (Xl (re h10 ⟨rfl,kq⟩))
 intro e18 s19 o20
 rcases y5 with g6 | y7
 have h21 := Ya h17
 obtain ⟨rfl,l23⟩ := o20
 exact Y8 (XO (Xb (s' := ⟨44,[(1,.int .i64 a1),(2,.int .i64 a2),(3,.ref 0 0),(7,.int .i64 p1)],u1⟩) (l23) (zg [1,2,3,7] 1 (rn h21))))
 have h22 := Yb h17
 obtain ⟨rfl,n24⟩ := o20
 exact ZQ (ZQ (Zk (rr h22 ⟨rfl,n24⟩)))
 exact ZF (Xl (re h4 ⟨rfl,kc⟩))
 intro e27 s28 o29
 rcases y8 with g9 | y10
 have h30 := Ya h26
 exact zi o29 (Za (zg [6] 0 (Zb (Zf (er1 h30)))))
 have h31 := Yb h26
 obtain ⟨rfl,n33⟩ := o29
 refine ZQ (Zk ?_)
 obtain rfl := Option.some.inj h31
 exact n33
theorem Zgj (a0 : XU) (a1 : Int) (a2 : Int) (r : Int) (h : M.WO a0 a1 a2 = some r) : Fn Tryz.prog 43 [.agg (Ys a0),.int .i64 a1,.int .i64 a2] (.pure (.int .i64 r)) := by
 unfold M.WO at h
 refine ZE Tryz.func43 rfl (by kernel_rfl) (Za (zg [1,2,3] 1 (Zb (Za ?_))))
 obtain ⟨r1,q1,h2⟩ := bind_some h
 refine zr [3,7] 1 Zt (rq1 (R9 _ _ _ _ q1) rqn) (Zb (Za (Za (zg [3,7,8] 1 (Zb (Zg ?_))))))
 obtain ⟨y4,q12,h13⟩ := bind_some h2
 refine zl (fun (p2 : Int) => ⟨34,[(3,.ref 0 0),(7,.int .i64 r1),(8,.int .i64 p2)],[.box (Ys a0)]⟩) (Sum.elim (fun z => OutE 0 (fun z => ⟨34,[],[]⟩) z) (fun z => OutR Tryz.prog Tryz.f43 (.int .i64 z))) q12 ?_ ?_
 intro p2 y3 h3
 unfold M.J2 at h3
 refine Za (Za (zg [3,7,8,18] 1 (Zb (cn h3 (fun _ h5 => ?_) (fun _ h6 => ?_)))))
 refine Zd (Zb (Za (Zg (Za ?_))))
 obtain ⟨c7,h8⟩ := Zq h5
 refine zc [3,7,8,32] 1 c7 (Zb (cn h8 (fun _ h10 => ?_) (fun _ h11 => ?_)))
 exact Za (zg [6] 0 (Zb (Zf (ZQ (Zk (rr h10 ⟨rfl,er0 _⟩))))))
 exact Zd (XO (Zb (zg [3,7,8] 1 (rn h11))))
 exact ZF (Xl (re h6 ⟨rfl,kc⟩))
 intro e14 s15 o16
 rcases y4 with g5 | y6
 have h17 := Ya h13
 exact zi o16 (Za (zg [6] 0 (Zb (Zf (er1 h17)))))
 have h18 := Yb h13
 obtain ⟨rfl,n20⟩ := o16
 refine ZQ (Zk ?_)
 obtain rfl := Option.some.inj h18
 exact n20
theorem Zim (a0 : XU) (a1 : Int) (a2 : Int) (r : Bool) (h : M.Gh a0 a1 a2 = some r) : Fn Tryz.prog 18 [.agg (Ys a0),.int .i64 a1,.int .i64 a2] (.pure (.bool r)) := by
 unfold M.Gh at h
 refine ZE Tryz.func18 rfl (by kernel_rfl) (Za (zg [1,2,3] 1 (Zb (Za (Za ?_)))))
 obtain ⟨r1,q1,h2⟩ := bind_some h
 refine zr [1,2,3,13] 1 Zt (rq1 (R9 _ _ _ _ q1) rqn) (Zb (cn h2 (fun _ h4 => ?_) (fun _ h5 => ?_)))
 exact Za (zg [6] 0 (Zb (Zf (Zk (er1 h4)))))
 refine Zd (Zb (Za ?_))
 obtain ⟨r2,q6,h7⟩ := bind_some h5
 refine zr [3,7] 1 Zt (rq1 (Zgj _ _ _ _ q6) rqn) (Zb (Za (Za (zg [3,7,8] 1 (Zb (Zg ?_))))))
 obtain ⟨y5,q17,h18⟩ := bind_some h7
 refine zl (fun (p3 : Int) => ⟨32,[(3,.ref 0 0),(7,.int .i64 r2),(8,.int .i64 p3)],[.box (Ys a0)]⟩) (Sum.elim (fun z => OutE 0 (fun z => ⟨32,[],[]⟩) z) (fun z => OutR Tryz.prog Tryz.f18 (.bool z))) q17 ?_ ?_
 intro p3 y4 h8
 unfold M.WB at h8
 refine Za (Za (zg [3,7,8,22] 1 (Zb (cn h8 (fun _ h10 => ?_) (fun _ h11 => ?_)))))
 refine Zd (Zb (Za (Zg (Za ?_))))
 obtain ⟨c12,h13⟩ := Zq h10
 refine zc [3,7,8,31] 1 c12 (Zb (cn h13 (fun _ h15 => ?_) (fun _ h16 => ?_)))
 exact Za (zg [6] 0 (Zb (Zf (ZQ (Zk (rr h15 ⟨rfl,er0 _⟩))))))
 exact Zd (XO (Zb (zg [3,7,8] 1 (rn h16))))
 exact ZF (Xl (re h11 ⟨rfl,kc⟩))
 intro e19 s20 o21
 rcases y5 with g6 | y7
 have h22 := Ya h18
 exact zi o21 (Za (zg [6] 0 (Zb (Zf (er1 h22)))))
 have h23 := Yb h18
 obtain ⟨rfl,n25⟩ := o21
 refine ZQ (Zk ?_)
 obtain rfl := Option.some.inj h23
 exact n25
theorem ZaY (a0 : Int) (r : Bool) (h : M.Wj a0 = some r) : Fn Tryz.prog 230 [.int .u8 a0] (.pure (.bool r)) := by
 unfold M.Wj at h
 exact ZE Tryz.func230 rfl (by kernel_rfl) (Za (zg [0] 0 (Zb (Za (zg [2] 0 (Zb (Zf (er1 h))))))))
theorem Zgk (a0 : Int) (r : Bool) (h : M.UD a0 = some r) : Fn Tryz.prog 231 [.int .u8 a0] (.pure (.bool r)) := by
 unfold M.UD at h
 exact ZE Tryz.func231 rfl (by kernel_rfl) (Za (zg [0] 0 (Zb (Za (zg [2] 0 (Zb (Zf (er1 h))))))))
theorem Zdm (a0 : ByteArray) (r : Bool) (h : M.Um a0 = some r) : Fn Tryz.prog 173 [.str a0] (.pure (.bool r)) := by
 unfold M.Um at h
 refine ZE Tryz.func173 rfl (by kernel_rfl) (Za (zg [0] 0 (Zb (Za (Za ?_)))))
 obtain ⟨r1,q1,h2⟩ := bind_some h
 obtain ⟨c3,h4⟩ := Zq h2
 refine zr [0,18] 0 c3 (rq2 (fun hg => ZaY _ _ (Xg q1 hg)) rqn) (Zb (cn h4 (fun _ h6 => ?_) (fun _ h7 => ?_)))
 refine Za ?_
 cases h6
 refine Zd (Zb (Za (Za (zg [0,3] 0 (Zb (Zg ?_))))))
 obtain ⟨y6,q21,h22⟩ := bind_some h7
 refine zl (fun (p2 : Int) => ⟨52,[(0,.str a0),(3,.int .i64 p2)],[]⟩) (fun z => OutE 0 (fun z => ⟨52,[],[]⟩) z) q21 ?_ ?_
 intro p2 y3 h8
 unfold M.W0 at h8
 refine Za (Za (zg [0,3,22] 0 (Zb (cn h8 (fun _ h10 => ?_) (fun _ h11 => ?_)))))
 refine Zd (Zb (Za (Zg (Za ?_))))
 obtain ⟨c12,h13⟩ := Zq h10
 refine zc [0,3,4] 0 c12 (Zb (Za ?_))
 obtain ⟨r4,q14,h15⟩ := bind_some h13
 obtain ⟨r5,q16,h17⟩ := bind_some h15
 refine zr [0,3,51] 0 Zt (rq1 (ZaY _ _ q14) (rq2 (fun hg => Zgk _ _ (Xg q16 hg)) rqn)) (Zb (cn h17 (fun _ h19 => ?_) (fun _ h20 => ?_)))
 refine Za ?_
 cases h19
 exact Zd (XO (Zb (zg [0,3] 0 (rn h20))))
 exact ZF (Xl (re h11 ⟨rfl,kq⟩))
 intro e23 s24 o25
 exact zi o25 (Za (zg [2] 0 (Zb (Zf (er1 h22)))))
theorem WU (a0 : Int) (a1 : Int) (a2 : Int) (r : Bool) (h : M.YN a0 a1 a2 = some r) : Fn Tryz.prog 174 [.int .i64 a0,.int .i64 a1,.int .i64 a2] (.pure (.bool r)) := by
 unfold M.YN at h
 exact ZE Tryz.func174 rfl (by kernel_rfl) (Za (zg [0,1,2] 0 (Zb (Za (zg [6] 0 (Zb (Zf (er1 h))))))))
theorem ZaZ (a0 : ZA) (b0 : ByteArray) (r : Bool) (h : M.Jm a0 b0 = some r) : Fn Tryz.prog 261 [.agg (Zj a0),.pp (cs b0)] (.pure (.bool r)) := by
 unfold M.Jm at h
 exact ZE Tryz.func261 rfl (by kernel_rfl) (Za (zg [1,2] 1 (Zb (Za (zg [3] 0 (Zb (Zf (er1 h))))))))
theorem Vm (a0 : List ZA) (a1c0 : ByteArray) (r : Int) (h : M.ZD a0 a1c0 = some r) : Fn Tryz.prog 247 [sL 12 Zj a0,.fn 261 [.pp (cs a1c0)]] (.pure (.int .i64 r)) := by
 unfold M.ZD at h
 refine ZE Tryz.func247 rfl (by kernel_rfl) (Za (zg [0,1] 0 (Zb (Za (Za (zg [0,1,7,8] 0 (Zb (Zg ?_))))))))
 obtain ⟨y4,q12,h13⟩ := bind_some h
 refine zl (fun (p1 : Int) => ⟨19,[(0,sL 12 Zj a0),(1,.fn 261 [.pp (cs a1c0)]),(7,.int .i64 (a0.length : Int)),(8,.int .i64 p1)],[]⟩) (Sum.elim (fun z => OutE 0 (fun z => ⟨19,[],[]⟩) z) (fun z => OutR Tryz.prog Tryz.f247 (.int .i64 z))) q12 ?_ ?_
 intro p1 y2 h1
 unfold M.ZJ at h1
 refine Za (zg [0,1,7,8,9] 0 (Zb (Za (cn h1 (fun _ h3 => ?_) (fun _ h4 => ?_)))))
 refine Zd (Zb (Za (Zg (Za (zg [0,1,5,7,8] 0 (Zb (Za ?_)))))))
 obtain ⟨r3,q5,h6⟩ := bind_some h3
 obtain ⟨c7,h8⟩ := Zq h6
 refine zr [0,1,5,7,8,16] 0 c7 (rq1 (ZaZ _ _ _ q5) rqn) (Zb (cn h8 (fun _ h10 => ?_) (fun _ h11 => ?_)))
 exact Za (zg [4] 0 (Zb (Zf (ZQ (Zk (rr h10 ⟨rfl,er0 _⟩))))))
 exact Zd (XO (Zb (zg [0,1,7,8] 0 (rn h11))))
 exact ZF (Xl (re h4 ⟨rfl,kq⟩))
 intro e14 s15 o16
 rcases y4 with g5 | y6
 have h17 := Ya h13
 exact zi o16 (Za (zg [4] 0 (Zb (Zf (er1 h17)))))
 have h18 := Yb h13
 obtain ⟨rfl,n20⟩ := o16
 refine ZQ (Zk ?_)
 obtain rfl := Option.some.inj h18
 exact n20
theorem Zcq (a0 : Zh) (a1 : ByteArray) (r : Int) (h : M.Vd a0 a1 = some r) : Fn Tryz.prog 232 [.agg (Zs a0),.str a1] (.pure (.int .i64 r)) := by
 unfold M.Vd at h
 refine ZE Tryz.func232 rfl (by kernel_rfl) (Za (zg [2,3] 2 (Zb (Za ?_))))
 obtain ⟨r1,q1,h2⟩ := bind_some h
 exact zr [4] 0 Zt (rq1 (Vm _ _ _ q1) rqn) (Zb (Zf (er1 h2)))
theorem Rt (a0 : ZA) (r : Bool) (h : M.Qn a0 = some r) : Fn Tryz.prog 233 [.agg (Zj a0)] (.pure (.bool r)) := by
 unfold M.Qn at h
 refine ZE Tryz.func233 rfl (by kernel_rfl) (Za (zg [1] 1 (Zb (Za (Za ?_)))))
 obtain ⟨r1,q1,h2⟩ := bind_some h
 obtain ⟨r2,q3,h4⟩ := bind_some h2
 obtain ⟨r3,q5,h6⟩ := bind_some h4
 refine zr [1,18] 1 Zt (rq1 (WU _ _ _ _ q1) (rq2 (fun hg => WU _ _ _ _ (Xg q3 hg)) (rq2 (fun hg => WU _ _ _ _ (Xg q5 hg)) rqn))) (Zb (cn h6 (fun _ h8 => ?_) (fun _ h9 => ?_)))
 refine Za ?_
 cases h8
 refine Zd (Zb (Za (Za (zg [1,54] 1 (Zb (cn h9 (fun _ h11 => ?_) (fun _ h12 => ?_)))))))
 refine Za ?_
 cases h11
 refine Zd (Zb (Za (Za (zg [1,62] 1 (Zb (cn h12 (fun _ h14 => ?_) (fun _ h15 => ?_)))))))
 refine Za ?_
 cases h14
 refine Zd (Zb (Za (Za (zg [1,64] 1 (Zb (cn h15 (fun _ h17 => ?_) (fun _ h18 => ?_)))))))
 refine Za ?_
 cases h17
 exact Zd (Zb (Za (zg [2] 0 (Zb (Zf (er1 h18))))))
theorem K4 (a0 : Zh) (r : Int) (h : M.Y3 a0 = some r) : Fn Tryz.prog 175 [.agg (Zs a0)] (.pure (.int .i64 r)) := by
 let u1 : Nat × D := (12,sL 12 Zj a0.Zc)
 let u2 := (a0.Zc.length : Int)
 let u5 := Zs a0
 unfold M.Y3 at h
 refine ZE Tryz.func175 rfl (by kernel_rfl) (Za (zg [1] 1 (Zb (Za (Za (zg [1,10] 1 (Zb (cn h (fun _ h2 => ?_) (fun _ h3 => ?_)))))))))
 refine Za ?_
 cases h2
 refine Zd (Zb (Za (Za (zg [1,12,13,14] 1 (Zb (Zg ?_))))))
 obtain ⟨y9,q37,h38⟩ := bind_some h3
 refine zl (fun (p1 : Int) => ⟨64,[(1,.ref 0 0),u1,(13,.int .i64 u2),(14,.int .i64 p1)],[.box u5]⟩) (fun z => OutE 0 (fun z => ⟨64,[],[]⟩) z) q37 ?_ ?_
 intro p1 y2 h4
 let u3 : List Ob := [.box u5,.box (Zj (a0.Zc.getD p1.toNat default))]
 let u4 : Nat × D := (35,sL 12 Zj ((a0.Zc.drop 0).take (p1.toNat - 0)))
 unfold M.YS at h4
 refine Za (zg [1,12,13,14,15] 1 (Zb (Za (cn h4 (fun _ h6 => ?_) (fun _ h7 => ?_)))))
 refine Zd (Zb (Za (Zg (Za ?_))))
 obtain ⟨c8,h9⟩ := Zq h6
 refine zc [1,3,4,12,13,14] 2 c8 (Zb (Za (Za ?_)))
 obtain ⟨r3,q10,h11⟩ := bind_some h9
 refine zr [1,3,4,12,13,14,22] 2 Zt (rq1 (Zdm _ _ q10) rqn) (Zb (cn h11 (fun _ h13 => ?_) (fun _ h14 => ?_)))
 refine Za ?_
 cases h13
 refine Zd (Zb (Za (Za ?_)))
 obtain ⟨r4,q15,h16⟩ := bind_some h14
 refine zr [1,3,4,12,13,14,28] 2 Zt (rq1 (Zcq _ _ _ q15) rqn) (Zb (cn h16 (fun _ h18 => ?_) (fun _ h19 => ?_)))
 refine Za ?_
 cases h18
 refine Zd (Zb (Za (Za ?_)))
 obtain ⟨r5,q20,h21⟩ := bind_some h19
 refine zr [1,3,4,12,13,14,31] 2 Zt (rq1 (Rt _ _ q20) rqn) (Zb (cn h21 (fun _ h23 => ?_) (fun _ h24 => ?_)))
 refine Za ?_
 cases h23
 refine Zd (Zb (Za ?_))
 obtain ⟨c25,h26⟩ := Zq h24
 refine rgc [1,4,12,13,14,35,36,37] 2 ⟨64,[(1,.ref 0 0),(4,.ref 1 0),u1,(13,.int .i64 u2),(14,.int .i64 p1),(35,.sl false 12 (p1.toNat - 0) (fun i => Zj (a0.Zc.getD (0 + i) default))),(36,.int .i64 ((p1.toNat - 0 : Nat) : Int)),(37,.int .i64 0)],u3⟩ [decide (0 ≤ p1),decide (p1 ≤ u2)] c25 (Xb (s' := ⟨64,[(1,.ref 0 0),(4,.ref 1 0),u1,(13,.int .i64 u2),(14,.int .i64 p1),u4,(36,.int .i64 ((p1.toNat - 0 : Nat) : Int)),(37,.int .i64 0)],u3⟩) (JM (.cons Sub.rfl (.cons Sub.rfl (.cons Sub.rfl (.cons Sub.rfl (.cons Sub.rfl (.cons (Gb (Zg3 _ _ _ (ZiM (c25 _ (List.mem_cons_of_mem _ List.mem_cons_self)))) (Zg2 _ _ _ _)) (.cons Sub.rfl (.cons Sub.rfl .nil)))))))) (.cons .rfl (.cons .rfl .nil))) (Zg ?_))
 obtain ⟨y8,q31,h32⟩ := bind_some h26
 refine zl (fun (p6 : Int) => ⟨64,[(1,.ref 0 0),(4,.ref 1 0),u1,(13,.int .i64 u2),(14,.int .i64 p1),u4,(36,.int .i64 ((p1.toNat - 0 : Nat) : Int)),(37,.int .i64 p6)],u3⟩) (fun z => OutE 2 (fun z => ⟨64,[(1,.ref 0 0),u1,(13,.int .i64 u2),(14,.int .i64 p1)],[.box u5]⟩) z) q31 ?_ ?_
 intro p6 y7 h27
 unfold M.YR at h27
 refine Za (zg [1,4,12,13,14,35,36,37,38] 2 (Zb (Za (cn h27 (fun _ h29 => ?_) (fun _ h30 => ?_)))))
 refine Zd (Zb (Za (Zg (Za ?_))))
 cases h29
 exact ZF (Xl (re h30 ⟨rfl,kc⟩))
 intro e33 s34 o35
 obtain ⟨rfl,l36⟩ := o35
 exact Y8 (XO (Xb (s' := ⟨64,[(1,.ref 0 0),u1,(13,.int .i64 u2),(14,.int .i64 p1)],[.box u5]⟩) (l36) (zg [1,12,13,14] 1 (rn h32))))
 exact ZF (Xl (re h7 ⟨rfl,kc⟩))
 intro e39 s40 o41
 exact zi o41 (Za (zg [2] 0 (Zb (Zf (er1 h38)))))
theorem KM (a0 : Zh) (r : Int) (h : M.YO a0 = some r) : Fn Tryz.prog 176 [.agg (Zs a0)] (.pure (.int .i64 r)) := by
 unfold M.YO at h
 refine ZE Tryz.func176 rfl (by kernel_rfl) (Za (zg [1] 1 (Zb (Za (Za (zg [1,11] 1 (Zb (cn h (fun _ h2 => ?_) (fun _ h3 => ?_)))))))))
 refine Za ?_
 cases h2
 refine Zd (Zb (Za (Za (zg [1,13,14,15] 1 (Zb (Zg ?_))))))
 obtain ⟨y3,q8,h9⟩ := bind_some h3
 refine zl (fun (p1 : Int) => ⟨67,[(1,.ref 0 0),(13,sL 2 Zx a0.YM),(14,.int .i64 (a0.YM.length : Int)),(15,.int .i64 p1)],[.box (Zs a0)]⟩) (fun z => OutE 0 (fun z => ⟨67,[],[]⟩) z) q8 ?_ ?_
 intro p1 y2 h4
 unfold M.YH at h4
 refine Za (zg [1,13,14,15,16] 1 (Zb (Za (cn h4 (fun _ h6 => ?_) (fun _ h7 => ?_)))))
 refine Zd (Zb (Za (Zg (Za ?_))))
 cases h6
 exact ZF (Xl (re h7 ⟨rfl,kc⟩))
 intro e10 s11 o12
 exact zi o12 (Za (zg [2] 0 (Zb (Zf (er1 h9)))))
theorem Ru (a0 : Zh) (r : Int) (h : M.Qo a0 = some r) : Fn Tryz.prog 177 [.agg (Zs a0)] (.pure (.int .i64 r)) := by
 unfold M.Qo at h
 refine ZE Tryz.func177 rfl (by kernel_rfl) (Za (zg [1] 1 (Zb (Za (Za (zg [1,11] 1 (Zb (cn h (fun _ h2 => ?_) (fun _ h3 => ?_)))))))))
 refine Za ?_
 cases h2
 refine Zd (Zb (Za (Za (zg [1,13,14,15] 1 (Zb (Zg ?_))))))
 obtain ⟨y3,q8,h9⟩ := bind_some h3
 refine zl (fun (p1 : Int) => ⟨56,[(1,.ref 0 0),(13,sL 2 ZS a0.XJ),(14,.int .i64 (a0.XJ.length : Int)),(15,.int .i64 p1)],[.box (Zs a0)]⟩) (fun z => OutE 0 (fun z => ⟨56,[],[]⟩) z) q8 ?_ ?_
 intro p1 y2 h4
 unfold M.Y7 at h4
 refine Za (zg [1,13,14,15,16] 1 (Zb (Za (cn h4 (fun _ h6 => ?_) (fun _ h7 => ?_)))))
 refine Zd (Zb (Za (Zg (Za ?_))))
 cases h6
 exact ZF (Xl (re h7 ⟨rfl,kc⟩))
 intro e10 s11 o12
 exact zi o12 (Za (zg [2] 0 (Zb (Zf (er1 h9)))))
theorem Zcr (a0 : Zh) (r : Int) (h : M.Ve a0 = some r) : Fn Tryz.prog 178 [.agg (Zs a0)] (.pure (.int .i64 r)) := by
 unfold M.Ve at h
 refine ZE Tryz.func178 rfl (by kernel_rfl) (Za (zg [1] 1 (Zb (Za (Za (zg [1,11] 1 (Zb (cn h (fun _ h2 => ?_) (fun _ h3 => ?_)))))))))
 refine Za ?_
 cases h2
 refine Zd (Zb (Za (Za (zg [1,13,14,15] 1 (Zb (Zg ?_))))))
 obtain ⟨y3,q8,h9⟩ := bind_some h3
 refine zl (fun (p1 : Int) => ⟨46,[(1,.ref 0 0),(13,sL 2 YL a0.YW),(14,.int .i64 (a0.YW.length : Int)),(15,.int .i64 p1)],[.box (Zs a0)]⟩) (fun z => OutE 0 (fun z => ⟨46,[],[]⟩) z) q8 ?_ ?_
 intro p1 y2 h4
 unfold M.Jz at h4
 refine Za (zg [1,13,14,15,16] 1 (Zb (Za (cn h4 (fun _ h6 => ?_) (fun _ h7 => ?_)))))
 refine Zd (Zb (Za (Zg (Za ?_))))
 cases h6
 exact ZF (Xl (re h7 ⟨rfl,kc⟩))
 intro e10 s11 o12
 exact zi o12 (Za (zg [2] 0 (Zb (Zf (er1 h9)))))
theorem Zdn (a0 : Zh) (r : Int) (h : M.VN a0 = some r) : Fn Tryz.prog 179 [.agg (Zs a0)] (.pure (.int .i64 r)) := by
 unfold M.VN at h
 refine ZE Tryz.func179 rfl (by kernel_rfl) (Za (zg [1] 1 (Zb (Za (Za (zg [1,8] 1 (Zb (cn h (fun _ h2 => ?_) (fun _ h3 => ?_)))))))))
 refine Za ?_
 cases h2
 refine Zd (Zb (Za (Za (zg [1,10,11,12] 1 (Zb (Zg ?_))))))
 obtain ⟨y3,q8,h9⟩ := bind_some h3
 refine zl (fun (p1 : Int) => ⟨30,[(1,.ref 0 0),(10,sL 9 ZX a0.Xc),(11,.int .i64 (a0.Xc.length : Int)),(12,.int .i64 p1)],[.box (Zs a0)]⟩) (fun z => OutE 0 (fun z => ⟨30,[],[]⟩) z) q8 ?_ ?_
 intro p1 y2 h4
 unfold M.JZ at h4
 refine Za (zg [1,10,11,12,13] 1 (Zb (Za (cn h4 (fun _ h6 => ?_) (fun _ h7 => ?_)))))
 refine Zd (Zb (Za (Zg (Za ?_))))
 cases h6
 exact ZF (Xl (re h7 ⟨rfl,kc⟩))
 intro e10 s11 o12
 exact zi o12 (Za (zg [2] 0 (Zb (Zf (er1 h9)))))
theorem Zdo (a0 : Zh) (a1 : ByteArray) (r : Int) (h : M.Un a0 a1 = some r) : Fn Tryz.prog 240 [.agg (Zs a0),.str a1] (.pure (.int .i64 r)) := by
 unfold M.Un at h
 refine ZE Tryz.func240 rfl (by kernel_rfl) (Za ?_)
 cases h
theorem Zad (a0 : Zh) (r : Int) (h : M.QW a0 = some r) : Fn Tryz.prog 180 [.agg (Zs a0)] (.pure (.int .i64 r)) := by
 unfold M.QW at h
 refine ZE Tryz.func180 rfl (by kernel_rfl) (Za (zg [1] 1 (Zb (Za (Za (zg [1,6,7,8] 1 (Zb (Zg ?_))))))))
 obtain ⟨y5,q14,h15⟩ := bind_some h
 refine zl (fun (p1 : Int) => ⟨35,[(1,.ref 0 0),(6,sL 12 Zj a0.Zc),(7,.int .i64 (a0.Zc.length : Int)),(8,.int .i64 p1)],[.box (Zs a0)]⟩) (fun z => OutE 0 (fun z => ⟨35,[],[]⟩) z) q14 ?_ ?_
 intro p1 y2 h1
 unfold M.Qu at h1
 refine Za (zg [1,6,7,8,9] 1 (Zb (Za (cn h1 (fun _ h3 => ?_) (fun _ h4 => ?_)))))
 refine Zd (Zb (Za (Zg (Za ?_))))
 obtain ⟨c5,h6⟩ := Zq h3
 refine zc [1,4,6,7,8] 2 c5 (Zb (Za ?_))
 obtain ⟨r3,q7,h8⟩ := bind_some h6
 obtain ⟨r4,q9,h10⟩ := bind_some h8
 refine zr [1,6,7,8,33] 1 Zt (rq2 (fun hg => Zdo _ _ _ (Xg q7 hg)) (rq2 (fun hg => Zdo _ _ _ (Xg q9 hg)) rqn)) (Zb (cn h10 (fun _ h12 => ?_) (fun _ h13 => ?_)))
 refine Za ?_
 cases h12
 exact Zd (XO (Zb (zg [1,6,7,8] 1 (rn h13))))
 exact ZF (Xl (re h4 ⟨rfl,kc⟩))
 intro e16 s17 o18
 exact zi o18 (Za (zg [2] 0 (Zb (Zf (er1 h15)))))
theorem Zgl (a0 : ZM) (r : Bool) (h : M.UE a0 = some r) : Fn Tryz.prog 237 [.agg (Xf a0)] (.pure (.bool r)) := by
 unfold M.UE at h
 refine ZE Tryz.func237 rfl (by kernel_rfl) (Za (zg [1] 1 (Zb (Za ?_))))
 obtain ⟨r1,q1,h2⟩ := bind_some h
 exact zr [2] 0 Zt (rq2 (fun hg => RQ _ _ (Xg q1 hg)) rqn) (Zb (Zf (er1 h2)))
theorem Zcs (a0 : ZA) (b0 : Int) (r : Bool) (h : M.Vf a0 b0 = some r) : Fn Tryz.prog 248 [.agg (Zj a0),.pp ((ci .u32) b0)] (.pure (.bool r)) := by
 unfold M.Vf at h
 exact ZE Tryz.func248 rfl (by kernel_rfl) (Za (zg [1,2] 1 (Zb (Za (zg [3] 0 (Zb (Zf (er1 h))))))))
theorem Vy (a0 : List ZA) (a1c0 : Int) (r : Int) (h : M.ZI a0 a1c0 = some r) : Fn Tryz.prog 247 [sL 12 Zj a0,.fn 248 [.pp ((ci .u32) a1c0)]] (.pure (.int .i64 r)) := by
 unfold M.ZI at h
 refine ZE Tryz.func247 rfl (by kernel_rfl) (Za (zg [0,1] 0 (Zb (Za (Za (zg [0,1,7,8] 0 (Zb (Zg ?_))))))))
 obtain ⟨y4,q12,h13⟩ := bind_some h
 refine zl (fun (p1 : Int) => ⟨19,[(0,sL 12 Zj a0),(1,.fn 248 [.pp ((ci .u32) a1c0)]),(7,.int .i64 (a0.length : Int)),(8,.int .i64 p1)],[]⟩) (Sum.elim (fun z => OutE 0 (fun z => ⟨19,[],[]⟩) z) (fun z => OutR Tryz.prog Tryz.f247 (.int .i64 z))) q12 ?_ ?_
 intro p1 y2 h1
 unfold M.ZK at h1
 refine Za (zg [0,1,7,8,9] 0 (Zb (Za (cn h1 (fun _ h3 => ?_) (fun _ h4 => ?_)))))
 refine Zd (Zb (Za (Zg (Za (zg [0,1,5,7,8] 0 (Zb (Za ?_)))))))
 obtain ⟨r3,q5,h6⟩ := bind_some h3
 obtain ⟨c7,h8⟩ := Zq h6
 refine zr [0,1,5,7,8,16] 0 c7 (rq1 (Zcs _ _ _ q5) rqn) (Zb (cn h8 (fun _ h10 => ?_) (fun _ h11 => ?_)))
 exact Za (zg [4] 0 (Zb (Zf (ZQ (Zk (rr h10 ⟨rfl,er0 _⟩))))))
 exact Zd (XO (Zb (zg [0,1,7,8] 0 (rn h11))))
 exact ZF (Xl (re h4 ⟨rfl,kq⟩))
 intro e14 s15 o16
 rcases y4 with g5 | y6
 have h17 := Ya h13
 exact zi o16 (Za (zg [4] 0 (Zb (Zf (er1 h17)))))
 have h18 := Yb h13
 obtain ⟨rfl,n20⟩ := o16
 refine ZQ (Zk ?_)
 obtain rfl := Option.some.inj h18
 exact n20
theorem Zd2 (a0 : Zh) (a1 : Int) (r : Int) (h : M.Wc a0 a1 = some r) : Fn Tryz.prog 187 [.agg (Zs a0),.int .u32 a1] (.pure (.int .i64 r)) := by
 unfold M.Wc at h
 refine ZE Tryz.func187 rfl (by kernel_rfl) (Za (zg [2,3] 2 (Zb (Za ?_))))
 obtain ⟨r1,q1,h2⟩ := bind_some h
 exact zr [4] 0 Zt (rq1 (Vy _ _ _ q1) rqn) (Zb (Zf (er1 h2)))
theorem Za0 (a0 : Zh) (a1 : X2) (r : Bool) (h : M.Jn a0 a1 = some r) : Fn Tryz.prog 243 [.agg (Zs a0),.agg (ZO a1)] (.pure (.bool r)) := by
 let u1 : Nat × D := (16,sL 1 cb ([a1.QI != 0,!strEq a1.ZH (⟨#[]⟩ : ByteArray),a1.Z1] : List Bool))
 let u2 : List Ob := [.box (Zs a0),.box (ZO a1)]
 unfold M.Jn at h
 refine ZE Tryz.func243 rfl (by kernel_rfl) (Za (zg [2,3] 2 (Zb (Za (zg [2,3,5] 2 (Zb (Za (Za (rg0 [2,3,5,16,17,18] 2 ⟨55,[(2,.ref 0 0),(3,.ref 1 0),(5,.int .i64 0),(16,.sl true 1 3 (fun i => List.take 1 (List.drop (i * 1) [.bool (a1.QI != 0),.bool (!strEq a1.ZH (⟨#[]⟩ : ByteArray)),.bool a1.Z1]))),(17,.int .i64 3),(18,.int .i64 0)],[.box (Zs a0),.box (ZO a1)]⟩ (Xb (s' := ⟨55,[(2,.ref 0 0),(3,.ref 1 0),(5,.int .i64 0),(16,sL 1 cb ([a1.QI != 0,!strEq a1.ZH (⟨#[]⟩ : ByteArray),a1.Z1] : List Bool)),(17,.int .i64 3),(18,.int .i64 0)],[.box (Zs a0),.box (ZO a1)]⟩) (JM (.cons Sub.rfl (.cons Sub.rfl (.cons Sub.rfl (.cons (Gb rfl (fun i hi => match i,hi with | 0,_ => rfl | 1,_ => rfl | 2,_ => rfl | n + 3,h => absurd h (by omega))) (.cons Sub.rfl (.cons Sub.rfl .nil)))))) (.cons .rfl (.cons .rfl .nil))) (Zg ?_)))))))))))
 obtain ⟨y4,q12,h13⟩ := bind_some h
 refine zl (fun (p1 : Int × Int) => ⟨55,[(2,.ref 0 0),(3,.ref 1 0),(5,.int .i64 p1.1),u1,(17,.int .i64 3),(18,.int .i64 p1.2)],u2⟩) (fun z => OutE 0 (fun z => ⟨55,[(2,.ref 0 0),(3,.ref 1 0),(5,.int .i64 z)],u2⟩) z) q12 ?_ ?_
 intro p1 y2 h1
 unfold M.QR at h1
 refine Za (rg0 [2,3,5,16,17,18,19] 2 ⟨55,[(2,.ref 0 0),(3,.ref 1 0),(5,.int .i64 p1.1),u1,(17,.int .i64 3),(18,.int .i64 p1.2),(19,.bool (decide (p1.2 < 3)))],u2⟩ (Zb (Za (cn h1 (fun _ h3 => ?_) (fun _ h4 => ?_)))))
 refine Zd (Zb (Vo (fun (p3 : Int) => ⟨55,[(2,.ref 0 0),(3,.ref 1 0),(5,.int .i64 p3),u1,(17,.int .i64 3),(18,.int .i64 p1.2)],u2⟩) (fun p3 => M.Yx p1 p3 = some y2) ?_ ?_))
 intro p3 h6
 unfold M.Yx at h6
 exact zg [2,3,5,16,17,18] 2 (rn h6)
 intro k5
 refine Zg (Za ?_)
 obtain ⟨c7,h8⟩ := Zq h3
 refine zc [2,3,5,7,16,17,18] 2 c7 (Zb (Za (zg [2,3,5,16,17,18,22] 2 (Zb (cn h8 (fun _ h10 => ?_) (fun _ h11 => ?_))))))
 exact zg [2,3,5,16,17,18] 2 (XO (Xb lk (k5 (wr .i64 (p1.1 + 1)) h10)))
 exact Zd (XO (Xb kq (k5 p1.1 h11)))
 exact ZF (Xl (re h4 ⟨rfl,kq⟩))
 intro e14 s15 o16
 refine zi o16 (Za ?_)
 obtain ⟨r5,q18,h19⟩ := bind_some h13
 obtain ⟨r6,q20,h21⟩ := bind_some h19
 obtain ⟨r7,q22,h23⟩ := bind_some h21
 obtain ⟨r8,q24,h25⟩ := bind_some h23
 exact zr [4] 0 Zt (rq1 (Zgl _ _ q18) (rq2 (fun hg => Zd2 _ _ _ (Xg q20 hg)) (rq2 (fun hg => WU _ _ _ _ (Xg q22 hg)) (rq2 (fun hg => WU _ _ _ _ (Xg q24 hg)) rqn)))) (Zb (Zf (er1 h25)))
theorem Zae (a0 : Zh) (r : Int) (h : M.QX a0 = some r) : Fn Tryz.prog 181 [.agg (Zs a0)] (.pure (.int .i64 r)) := by
 let u2 : Nat × D := (13,sL 7 ZO a0.Zp)
 let u3 := (a0.Zp.length : Int)
 let u6 := Zs a0
 unfold M.QX at h
 refine ZE Tryz.func181 rfl (by kernel_rfl) (Za (zg [1] 1 (Zb (Za (Za (zg [1,11] 1 (Zb (cn h (fun _ h2 => ?_) (fun _ h3 => ?_)))))))))
 refine Za ?_
 cases h2
 refine Zd (Zb (Za (Za (zg [1,13,14,15] 1 (Zb (Zg ?_))))))
 obtain ⟨y8,q32,h33⟩ := bind_some h3
 refine zl (fun (p1 : Int) => ⟨63,[(1,.ref 0 0),u2,(14,.int .i64 u3),(15,.int .i64 p1)],[.box u6]⟩) (fun z => OutE 0 (fun z => ⟨63,[],[]⟩) z) q32 ?_ ?_
 intro p1 y2 h4
 let u4 := a0.Zp.getD p1.toNat default
 let u1 : List Ob := [.box u6,.box (ZO u4)]
 let u5 : Nat × D := (43,sL 7 ZO ((a0.Zp.drop 0).take (p1.toNat - 0)))
 unfold M.Qw at h4
 refine Za (zg [1,13,14,15,16] 1 (Zb (Za (cn h4 (fun _ h6 => ?_) (fun _ h7 => ?_)))))
 refine Zd (Zb (Za (Zg (Za ?_))))
 obtain ⟨c8,h9⟩ := Zq h6
 refine zc [1,3,4,13,14,15] 2 c8 (Zb (Za (Za ?_)))
 obtain ⟨r3,q10,h11⟩ := bind_some h9
 refine rg [.pure (.bool r3)] [1,3,4,13,14,15,23] 2 ⟨63,[(1,.ref 0 0),(3,.int .i64 p1),(4,.ref 1 0),u2,(14,.int .i64 u3),(15,.int .i64 p1),(23,.bool (!r3))],u1⟩ [] [⟨true,243,[.agg u6,.agg (ZO u4)],.pure (.bool r3)⟩] Zt ⟨fun _ => Za0 a0 u4 r3 q10,trivial⟩ (Zb (cn h11 (fun _ h13 => ?_) (fun _ h14 => ?_)))
 refine Za ?_
 cases h13
 refine Zd (Zb (Vo (fun (p4 : Unit) => ⟨63,[(1,.ref 0 0),(3,.int .i64 p1),(4,.ref 1 0),u2,(14,.int .i64 u3),(15,.int .i64 p1)],u1⟩) (fun p4 => M.Y4 a0 p1 p4 = some y2) ?_ ?_))
 intro p4 h16
 unfold M.Y4 at h16
 refine Za ?_
 obtain ⟨c17,h18⟩ := Zq h16
 refine rgc [1,4,13,14,15,43,44,45] 2 ⟨63,[(1,.ref 0 0),(4,.ref 1 0),u2,(14,.int .i64 u3),(15,.int .i64 p1),(43,.sl false 7 (p1.toNat - 0) (fun i => ZO (a0.Zp.getD (0 + i) default))),(44,.int .i64 ((p1.toNat - 0 : Nat) : Int)),(45,.int .i64 0)],u1⟩ [decide (0 ≤ p1),decide (p1 ≤ u3)] c17 (Xb (s' := ⟨63,[(1,.ref 0 0),(4,.ref 1 0),u2,(14,.int .i64 u3),(15,.int .i64 p1),u5,(44,.int .i64 ((p1.toNat - 0 : Nat) : Int)),(45,.int .i64 0)],u1⟩) (JM (.cons Sub.rfl (.cons Sub.rfl (.cons Sub.rfl (.cons Sub.rfl (.cons Sub.rfl (.cons (Gb (Zg3 _ _ _ (ZiM (c17 _ (List.mem_cons_of_mem _ List.mem_cons_self)))) (Zg2 _ _ _ _)) (.cons Sub.rfl (.cons Sub.rfl .nil)))))))) (.cons .rfl (.cons .rfl .nil))) (Zg ?_))
 obtain ⟨y7,q23,h24⟩ := bind_some h18
 refine zl (fun (p5 : Int) => ⟨63,[(1,.ref 0 0),(4,.ref 1 0),u2,(14,.int .i64 u3),(15,.int .i64 p1),u5,(44,.int .i64 ((p1.toNat - 0 : Nat) : Int)),(45,.int .i64 p5)],u1⟩) (fun z => OutE 2 (fun z => ⟨63,[(1,.ref 0 0),u2,(14,.int .i64 u3),(15,.int .i64 p1)],[.box u6]⟩) z) q23 ?_ ?_
 intro p5 y6 h19
 unfold M.Qv at h19
 refine Za (zg [1,4,13,14,15,43,44,45,46] 2 (Zb (Za (cn h19 (fun _ h21 => ?_) (fun _ h22 => ?_)))))
 refine Zd (Zb (Za (Zg (Za ?_))))
 cases h21
 exact ZF (Xl (re h22 ⟨rfl,kc⟩))
 intro e25 s26 o27
 obtain ⟨rfl,l28⟩ := o27
 exact Y8 (XO (Xb (s' := ⟨63,[(1,.ref 0 0),u2,(14,.int .i64 u3),(15,.int .i64 p1)],[.box u6]⟩) (l28) (zg [1,13,14,15] 1 (rn h24))))
 intro k15
 refine Za (zg [1,3,4,13,14,15,26] 2 (Zb (cn h14 (fun _ h30 => ?_) (fun _ h31 => ?_))))
 refine Za ?_
 cases h30
 exact Zd (Xb kq (k15 () h31))
 exact ZF (Xl (re h7 ⟨rfl,kc⟩))
 intro e34 s35 o36
 exact zi o36 (Za (zg [2] 0 (Zb (Zf (er1 h33)))))
theorem Rv (a0 : Zh) (r : Int) (h : M.Qp a0 = some r) : Fn Tryz.prog 182 [.agg (Zs a0)] (.pure (.int .i64 r)) := by
 unfold M.Qp at h
 refine ZE Tryz.func182 rfl (by kernel_rfl) (Za (zg [1] 1 (Zb (Za (zg [1,3] 2 (Zb (Za (Za (zg [1,3,12] 2 (Zb (cn h (fun _ h2 => ?_) (fun _ h3 => ?_))))))))))))
 refine Za (Za (zg [27] 0 (Zb (cn h2 (fun _ h5 => ?_) (fun _ h6 => ?_)))))
 refine Za ?_
 cases h5
 exact Zd (Zb (Za (zg [2] 0 (Zb (Zf (Zk (er1 h6)))))))
 refine Zd (Zb (Za (Za ?_)))
 cases h3
theorem Kj (a0 : Zh) (r : Int) (h : M.Yk a0 = some r) : Fn Tryz.prog 183 [.agg (Zs a0)] (.pure (.int .i64 r)) := by
 unfold M.Yk at h
 refine ZE Tryz.func183 rfl (by kernel_rfl) (Za (zg [1] 1 (Zb (Za (zg [1,3] 2 (Zb (Za (Za (zg [1,3,8] 2 (Zb (cn h (fun _ h2 => ?_) (fun _ h3 => ?_))))))))))))
 refine Za (Za (zg [27] 0 (Zb (cn h2 (fun _ h5 => ?_) (fun _ h6 => ?_)))))
 refine Za ?_
 cases h5
 exact Zd (Zb (Za (zg [2] 0 (Zb (Zf (Zk (er1 h6)))))))
 refine Zd (Zb (Za (Za ?_)))
 cases h3
theorem K5 (a0 : Zh) (r : Int) (h : M.Y5 a0 = some r) : Fn Tryz.prog 184 [.agg (Zs a0)] (.pure (.int .i64 r)) := by
 unfold M.Y5 at h
 refine ZE Tryz.func184 rfl (by kernel_rfl) (Za (zg [1] 1 (Zb (Za (zg [1,3] 2 (Zb (Za (Za (zg [1,3,10] 2 (Zb (cn h (fun _ h2 => ?_) (fun _ h3 => ?_))))))))))))
 refine Za (Za (zg [48] 0 (Zb (cn h2 (fun _ h5 => ?_) (fun _ h6 => ?_)))))
 refine Za ?_
 cases h5
 exact Zd (Zb (Za (zg [2] 0 (Zb (Zf (Zk (er1 h6)))))))
 refine Zd (Zb (Za (Za ?_)))
 cases h3
theorem Za1 (a0 : Zh) (r : Int) (h : M.Jo a0 = some r) : Fn Tryz.prog 123 [.agg (Zs a0)] (.pure (.int .i64 r)) := by
 unfold M.Jo at h
 refine ZE Tryz.func123 rfl (by kernel_rfl) (Za (zg [1] 1 (Zb (Za (Za ?_)))))
 obtain ⟨r1,q1,h2⟩ := bind_some h
 refine zr [1,10] 1 Zt (rq1 (Zdm _ _ q1) rqn) (Zb (cn h2 (fun _ h4 => ?_) (fun _ h5 => ?_)))
 refine Za ?_
 cases h4
 refine Zd (Zb (Za (Za ?_)))
 obtain ⟨r2,q6,h7⟩ := bind_some h5
 refine zr [1,14] 1 Zt (rq1 (WU _ _ _ _ q6) rqn) (Zb (cn h7 (fun _ h9 => ?_) (fun _ h10 => ?_)))
 refine Za ?_
 cases h9
 refine Zd (Zb (Za (zg [1,3] 1 (Zb (Za (Za (zg [1,16,17,18] 1 (Zb (Zg (ZiL (Uh (Za (zg [1,16,17,18,19] 1 (Zb (Za (cnd true (fun _ => (Zd (Zb (Za (Zg (Za ?_)))))) (fun b11 => Bool.noConfusion b11)))))))))))))))))
 obtain ⟨c12,h13⟩ := Zq h10
 refine zc [1,5,16,17,18] 1 c12 (Zb (Za ?_))
 obtain ⟨r3,q14,h15⟩ := bind_some h13
 refine zr [1,6,16,17,18] 1 Zt (rq1 (K4 _ _ q14) rqn) (Zb (Za (zg [1,6,16,17,18,26] 1 (Zb (cn h15 (fun _ h17 => ?_) (fun _ h18 => ?_))))))
 refine Za ?_
 cases h17
 refine Zd (XO (Zb (zg [1,16,17,18] 1 (G4 (Uh (Za (zg [1,16,17,18,19] 1 (Zb (Za (cnd true (fun _ => (Zd (Zb (Za (Zg (Za ?_)))))) (fun b19 => Bool.noConfusion b19)))))))))))
 obtain ⟨c20,h21⟩ := Zq h18
 refine zc [1,5,16,17,18] 1 c20 (Zb (Za ?_))
 obtain ⟨r4,q22,h23⟩ := bind_some h21
 refine zr [1,6,16,17,18] 1 Zt (rq1 (KM _ _ q22) rqn) (Zb (Za (zg [1,6,16,17,18,26] 1 (Zb (cn h23 (fun _ h25 => ?_) (fun _ h26 => ?_))))))
 refine Za ?_
 cases h25
 refine Zd (XO (Zb (zg [1,16,17,18] 1 (G4 (Uh (Za (zg [1,16,17,18,19] 1 (Zb (Za (cnd true (fun _ => (Zd (Zb (Za (Zg (Za ?_)))))) (fun b27 => Bool.noConfusion b27)))))))))))
 obtain ⟨c28,h29⟩ := Zq h26
 refine zc [1,5,16,17,18] 1 c28 (Zb (Za ?_))
 obtain ⟨r5,q30,h31⟩ := bind_some h29
 refine zr [1,6,16,17,18] 1 Zt (rq1 (Ru _ _ q30) rqn) (Zb (Za (zg [1,6,16,17,18,26] 1 (Zb (cn h31 (fun _ h33 => ?_) (fun _ h34 => ?_))))))
 refine Za ?_
 cases h33
 refine Zd (XO (Zb (zg [1,16,17,18] 1 (G4 (Uh (Za (zg [1,16,17,18,19] 1 (Zb (Za (cnd true (fun _ => (Zd (Zb (Za (Zg (Za ?_)))))) (fun b35 => Bool.noConfusion b35)))))))))))
 obtain ⟨c36,h37⟩ := Zq h34
 refine zc [1,5,16,17,18] 1 c36 (Zb (Za ?_))
 obtain ⟨r6,q38,h39⟩ := bind_some h37
 refine zr [1,6,16,17,18] 1 Zt (rq1 (Zcr _ _ q38) rqn) (Zb (Za (zg [1,6,16,17,18,26] 1 (Zb (cn h39 (fun _ h41 => ?_) (fun _ h42 => ?_))))))
 refine Za ?_
 cases h41
 refine Zd (XO (Zb (zg [1,16,17,18] 1 (G4 (Uh (Za (zg [1,16,17,18,19] 1 (Zb (Za (cnd true (fun _ => (Zd (Zb (Za (Zg (Za ?_)))))) (fun b43 => Bool.noConfusion b43)))))))))))
 obtain ⟨c44,h45⟩ := Zq h42
 refine zc [1,5,16,17,18] 1 c44 (Zb (Za ?_))
 obtain ⟨r7,q46,h47⟩ := bind_some h45
 refine zr [1,6,16,17,18] 1 Zt (rq1 (Zdn _ _ q46) rqn) (Zb (Za (zg [1,6,16,17,18,26] 1 (Zb (cn h47 (fun _ h49 => ?_) (fun _ h50 => ?_))))))
 refine Za ?_
 cases h49
 refine Zd (XO (Zb (zg [1,16,17,18] 1 (G4 (Uh (Za (zg [1,16,17,18,19] 1 (Zb (Za (cnd true (fun _ => (Zd (Zb (Za (Zg (Za ?_)))))) (fun b51 => Bool.noConfusion b51)))))))))))
 obtain ⟨c52,h53⟩ := Zq h50
 refine zc [1,5,16,17,18] 1 c52 (Zb (Za ?_))
 obtain ⟨r8,q54,h55⟩ := bind_some h53
 refine zr [1,6,16,17,18] 1 Zt (rq1 (Zad _ _ q54) rqn) (Zb (Za (zg [1,6,16,17,18,26] 1 (Zb (cn h55 (fun _ h57 => ?_) (fun _ h58 => ?_))))))
 refine Za ?_
 cases h57
 refine Zd (XO (Zb (zg [1,16,17,18] 1 (G4 (Uh (Za (zg [1,16,17,18,19] 1 (Zb (Za (cnd true (fun _ => (Zd (Zb (Za (Zg (Za ?_)))))) (fun b59 => Bool.noConfusion b59)))))))))))
 obtain ⟨c60,h61⟩ := Zq h58
 refine zc [1,5,16,17,18] 1 c60 (Zb (Za ?_))
 obtain ⟨r9,q62,h63⟩ := bind_some h61
 refine zr [1,6,16,17,18] 1 Zt (rq1 (Zae _ _ q62) rqn) (Zb (Za (zg [1,6,16,17,18,26] 1 (Zb (cn h63 (fun _ h65 => ?_) (fun _ h66 => ?_))))))
 refine Za ?_
 cases h65
 refine Zd (XO (Zb (zg [1,16,17,18] 1 (G4 (Uh (Za (zg [1,16,17,18,19] 1 (Zb (Za (cnd true (fun _ => (Zd (Zb (Za (Zg (Za ?_)))))) (fun b67 => Bool.noConfusion b67)))))))))))
 obtain ⟨c68,h69⟩ := Zq h66
 refine zc [1,5,16,17,18] 1 c68 (Zb (Za ?_))
 obtain ⟨r10,q70,h71⟩ := bind_some h69
 refine zr [1,6,16,17,18] 1 Zt (rq1 (Rv _ _ q70) rqn) (Zb (Za (zg [1,6,16,17,18,26] 1 (Zb (cn h71 (fun _ h73 => ?_) (fun _ h74 => ?_))))))
 refine Za ?_
 cases h73
 refine Zd (XO (Zb (zg [1,16,17,18] 1 (G4 (Uh (Za (zg [1,16,17,18,19] 1 (Zb (Za (cnd true (fun _ => (Zd (Zb (Za (Zg (Za ?_)))))) (fun b75 => Bool.noConfusion b75)))))))))))
 obtain ⟨c76,h77⟩ := Zq h74
 refine zc [1,5,16,17,18] 1 c76 (Zb (Za ?_))
 obtain ⟨r11,q78,h79⟩ := bind_some h77
 refine zr [1,6,16,17,18] 1 Zt (rq1 (Kj _ _ q78) rqn) (Zb (Za (zg [1,6,16,17,18,26] 1 (Zb (cn h79 (fun _ h81 => ?_) (fun _ h82 => ?_))))))
 refine Za ?_
 cases h81
 refine Zd (XO (Zb (zg [1,16,17,18] 1 (G4 (Uh (Za (zg [1,16,17,18,19] 1 (Zb (Za (cnd true (fun _ => (Zd (Zb (Za (Zg (Za ?_)))))) (fun b83 => Bool.noConfusion b83)))))))))))
 obtain ⟨c84,h85⟩ := Zq h82
 refine zc [1,5,16,17,18] 1 c84 (Zb (Za ?_))
 obtain ⟨r12,q86,h87⟩ := bind_some h85
 refine zr [1,6,16,17,18] 1 Zt (rq1 (K5 _ _ q86) rqn) (Zb (Za (zg [1,6,16,17,18,26] 1 (Zb (cn h87 (fun _ h89 => ?_) (fun _ h90 => ?_))))))
 refine Za ?_
 cases h89
 exact Zd (XO (Zb (zg [1,16,17,18] 1 (G4 (Uh (Za (zg [1,16,17,18,19] 1 (Zb (Za (cnd false (fun b91 => Bool.noConfusion b91) (fun _ => (ZF (Xl (Zmd (Y8 (Zb (Za (zg [2] 0 (Zb (Zf (er1 h90)))))))))))))))))))))
theorem ZfZ (a0 : ZG) (r : Int) (h : M.W1 a0 = some r) : Fn Tryz.prog 98 [.agg (X6 a0)] (.pure (.int .i64 r)) := by
 let u1 : Nat × D := (13,sL 25 Zs a0.Ze)
 let u3 := (a0.Ze.length : Int)
 let u5 := X6 a0
 unfold M.W1 at h
 refine ZE Tryz.func98 rfl (by kernel_rfl) (Za (zg [1] 1 (Zb (Za (Za (zg [1,11] 1 (Zb (cn h (fun _ h2 => ?_) (fun _ h3 => ?_)))))))))
 refine Za ?_
 cases h2
 refine Zd (Zb (Za (Za (zg [1,13,14,15] 1 (Zb (Zg ?_))))))
 obtain ⟨y7,q27,h28⟩ := bind_some h3
 refine zl (fun (p1 : Int) => ⟨46,[(1,.ref 0 0),u1,(14,.int .i64 u3),(15,.int .i64 p1)],[.box u5]⟩) (fun z => OutE 0 (fun z => ⟨46,[],[]⟩) z) q27 ?_ ?_
 intro p1 y2 h4
 let u2 : List Ob := [.box u5,.box (Zs (a0.Ze.getD p1.toNat default))]
 let u4 : Nat × D := (28,sL 25 Zs ((a0.Ze.drop 0).take (p1.toNat - 0)))
 unfold M.Wl at h4
 refine Za (zg [1,13,14,15,16] 1 (Zb (Za (cn h4 (fun _ h6 => ?_) (fun _ h7 => ?_)))))
 refine Zd (Zb (Za (Zg (Za ?_))))
 obtain ⟨c8,h9⟩ := Zq h6
 refine zc [1,3,4,13,14,15] 2 c8 (Zb (Za (Za ?_)))
 obtain ⟨r3,q10,h11⟩ := bind_some h9
 refine zr [1,3,4,5,13,14,15] 2 Zt (rq1 (Za1 _ _ q10) rqn) (Zb (Za (zg [1,3,4,5,13,14,15,23] 2 (Zb (cn h11 (fun _ h13 => ?_) (fun _ h14 => ?_))))))
 refine Za ?_
 cases h13
 refine Zd (Zb (Za ?_))
 obtain ⟨c15,h16⟩ := Zq h14
 refine rgc [1,4,13,14,15,28,29,30] 2 ⟨46,[(1,.ref 0 0),(4,.ref 1 0),u1,(14,.int .i64 u3),(15,.int .i64 p1),(28,.sl false 25 (p1.toNat - 0) (fun i => Zs (a0.Ze.getD (0 + i) default))),(29,.int .i64 ((p1.toNat - 0 : Nat) : Int)),(30,.int .i64 0)],u2⟩ [decide (0 ≤ p1),decide (p1 ≤ u3)] c15 (Xb (s' := ⟨46,[(1,.ref 0 0),(4,.ref 1 0),u1,(14,.int .i64 u3),(15,.int .i64 p1),u4,(29,.int .i64 ((p1.toNat - 0 : Nat) : Int)),(30,.int .i64 0)],u2⟩) (JM (.cons Sub.rfl (.cons Sub.rfl (.cons Sub.rfl (.cons Sub.rfl (.cons Sub.rfl (.cons (Gb (Zg3 _ _ _ (ZiM (c15 _ (List.mem_cons_of_mem _ List.mem_cons_self)))) (Zg2 _ _ _ _)) (.cons Sub.rfl (.cons Sub.rfl .nil)))))))) (.cons .rfl (.cons .rfl .nil))) (Zg ?_))
 obtain ⟨y6,q21,h22⟩ := bind_some h16
 refine zl (fun (p4 : Int) => ⟨46,[(1,.ref 0 0),(4,.ref 1 0),u1,(14,.int .i64 u3),(15,.int .i64 p1),u4,(29,.int .i64 ((p1.toNat - 0 : Nat) : Int)),(30,.int .i64 p4)],u2⟩) (fun z => OutE 2 (fun z => ⟨46,[(1,.ref 0 0),u1,(14,.int .i64 u3),(15,.int .i64 p1)],[.box u5]⟩) z) q21 ?_ ?_
 intro p4 y5 h17
 unfold M.Wk at h17
 refine Za (zg [1,4,13,14,15,28,29,30,31] 2 (Zb (Za (cn h17 (fun _ h19 => ?_) (fun _ h20 => ?_)))))
 refine Zd (Zb (Za (Zg (Za ?_))))
 cases h19
 exact ZF (Xl (re h20 ⟨rfl,kc⟩))
 intro e23 s24 o25
 obtain ⟨rfl,l26⟩ := o25
 exact Y8 (XO (Xb (s' := ⟨46,[(1,.ref 0 0),u1,(14,.int .i64 u3),(15,.int .i64 p1)],[.box u5]⟩) (l26) (zg [1,13,14,15] 1 (rn h22))))
 exact ZF (Xl (re h7 ⟨rfl,kc⟩))
 intro e29 s30 o31
 exact zi o31 (Za (zg [2] 0 (Zb (Zf (er1 h28)))))
theorem ZeE (a0 : Int) (a1 : Int) (r : ZM) (h : M.Wy a0 a1 = some r) : Fn Tryz.prog 125 [.int .u32 a0,.int .i64 a1] (.pure (.agg (Xf r))) := by
 unfold M.Wy at h
 refine ZE Tryz.func125 rfl (by kernel_rfl) (Za (zg [0,1,4] 1 (Zb (Za ?_))))
 obtain ⟨r1,q1,h2⟩ := bind_some h
 obtain ⟨r2,q3,h4⟩ := bind_some h2
 refine zr [4] 1 Zt (rq1 (RQ _ _ q1) (rq1 (ZbX _ _ q3) rqn)) (Zb (Zf ?_))
 obtain rfl := Option.some.inj h4
 exact er0 (.agg [.int .u32 (bitD .and .u32 a0 r1),.int .i64 r2])
end Nv
