/- The walks: each function computes its mirror. -/
import Derived.Test.YtaienbkgekjdnaaGreatProg
import Derived.Test.YtaienbkgekjdnaaGreatNvD1
import Derived.Test.YtaienbkgekjdnaaGreatNvLibC
import Derived.Test.YtaienbkgekjdnaaGreatNvLibB
import Derived.KernelRfl
import Derived.Ground.SlsfProg
import Derived.Shelf.Lay
import Derived.Test.YtaienbkgekjdnaaGreatNvLibD
import Derived.Test.YtaienbkgekjdnaaGreatNvM1a
set_option maxRecDepth 100000
namespace Nv
open Go Go.Proofs
theorem ZaU (a0 : ZG) (a1 : List Int) (r : WG × Int) (h : M.WU a0 a1 = some r) : Fn Tryz.prog 16 [.agg (X3 a0),sL 1 (ci .i64) a1] (.pure (.tup [.agg (Gw r.1),.int .i64 r.2])) := by
 let u2 := X3 a0
 unfold M.WU at h
 refine ZL Tryz.func16 rfl (by kernel_rfl) (Za (zg [1,2,4] 2 (Zb (Za ?_))))
 obtain ⟨r1,q1,h2⟩ := bind_some h
 let u1 : List Ob := [.box u2,.box [.sl true 25 0 (fun _ => []),.sl true 4 0 (fun _ => []),.sl true 1 0 (fun _ => []),.sl true 1 0 (fun _ => [])],.box (Wr r1.1)]
 refine zr [1,2,4,6,7] 3 ZA (rq1 (Zg8 _ _ q1) rqn) (Zb (Za (Za (zg [1,2,4,6,7,16] 3 (Zb (cn h2 (fun _ h4 => ?_) (fun _ h5 => ?_)))))))
 refine Za (zg [4,5] 2 (Zb (Zg (Zh ?_))))
 obtain rfl := Option.some.inj h4
 exact er (.tup [.agg [.sl false 25 0 (fun _ => []),.sl false 4 0 (fun _ => []),.sl false 1 0 (fun _ => []),.sl false 1 0 (fun _ => [])],.int .i64 r1.2]) (Ra (.cons (Kr (.cons Q6 (.cons Q6 (.cons Q6 (.cons Q6 .nil))))) (.cons ASub.rfl .nil)))
 refine Zd (Zb (Za (Za (zg [1,2,4,6,21] 3 (Zb (cn h5 (fun _ h7 => ?_) (fun _ h8 => ?_)))))))
 refine Za (zg [4,5] 2 (Zb (Zg (Zh ?_))))
 obtain rfl := Option.some.inj h7
 exact er (.tup [.agg [.sl false 25 0 (fun _ => []),.sl false 4 0 (fun _ => []),.sl false 1 0 (fun _ => []),.sl false 1 0 (fun _ => [])],.int .i64 1]) (Ra (.cons (Kr (.cons Q6 (.cons Q6 (.cons Q6 (.cons Q6 .nil))))) (.cons ASub.rfl .nil)))
 refine Zd (Zb (Za (Za (zg [1,2,4,6,23,24,25] 3 (Zb (Zi ?_))))))
 obtain ⟨y4,q20,h21⟩ := bind_some h8
 refine zl (fun (p2 : Int) => ⟨60,[(1,sL 1 (ci .i64) a1),(2,.ref 0 0),(4,.ref 1 0),(6,.ref 2 0),(23,sL 1 (ci .i64) a1),(24,.int .i64 (a1.length : Int)),(25,.int .i64 p2)],u1⟩) (Sum.elim (fun z => OutE 0 (fun z => ⟨60,[(1,sL 1 (ci .i64) a1),(2,.ref 0 0),(4,.ref 1 0),(6,.ref 2 0)],u1⟩) z) (fun z => OutR Tryz.prog Tryz.f16 (.tup [.agg (Gw z.1),.int .i64 z.2]))) q20 ?_ ?_
 intro p2 y3 h9
 unfold M.J9 at h9
 refine Za (zg [1,2,4,6,23,24,25,26] 3 (Zb (Za (cn h9 (fun _ h11 => ?_) (fun _ h12 => ?_)))))
 refine Zd (Zb (Za (Zi (Za ?_))))
 obtain ⟨c13,h14⟩ := Zz h11
 refine zc [1,2,4,6,8,9,23,24,25] 3 c13 (Zb (Za ?_))
 obtain ⟨c15,h16⟩ := Zz h14
 refine zc [1,2,4,6,23,24,25,51] 3 c15 (Zb (cn h16 (fun _ h18 => ?_) (fun _ h19 => ?_)))
 exact Za (rg0 [4,5] 2 ⟨60,[(4,.ref 1 0),(5,.int .i64 1)],[.box u2,.box [.sl true 25 0 (fun _ => []),.sl true 4 0 (fun _ => []),.sl true 1 0 (fun _ => []),.sl true 1 0 (fun _ => [])]]⟩ (Zb (Zg (ZC (Zh (rr h18 ⟨rfl,er (.tup [.agg [.sl false 25 0 (fun _ => []),.sl false 4 0 (fun _ => []),.sl false 1 0 (fun _ => []),.sl false 1 0 (fun _ => [])],.int .i64 1]) (Ra (.cons (Kr (.cons Q6 (.cons Q6 (.cons Q6 (.cons Q6 .nil))))) (.cons ASub.rfl .nil)))⟩))))))
 exact Zd (XK (Zb (zg [1,2,4,6,23,24,25] 3 (rn h19))))
 exact ZH (Xn (re h12 ⟨rfl,kq⟩))
 intro e22 s23 o24
 rcases y4 with g5 | y6
 have h25 := XG h21
 refine zi o24 (Za ?_)
 obtain ⟨r7,q28,h29⟩ := bind_some h25
 let u3 := X3 r7
 obtain ⟨r8,q30,h31⟩ := bind_some h29
 refine rgU [1,2,4,5,6,54,55,56,57,58,59] [([],[],[]),([.pure (.agg u3)],[],[⟨true,48,[.agg u2],.pure (.agg u3)⟩]),([],[],[]),([],[],[]),([.pure (sL 1 (ci .i64) r8)],[],[⟨true,49,[sL 1 (ci .i64) a1],.pure (sL 1 (ci .i64) r8)⟩]),([],[],[]),([],[],[]),([],[],[])] [4,5] 2 ⟨60,[(4,.ref 1 0),(5,.int .i64 0)],[.box u2,.box [sL 25 Zu r7.Ze,sL 4 ZT r1.1.XQ,sL 1 (ci .i64) r1.1.Js,sL 1 (ci .i64) r8]]⟩ [] [⟨true,48,[.agg u2],.pure (.agg u3)⟩,⟨true,49,[sL 1 (ci .i64) a1],.pure (sL 1 (ci .i64) r8)⟩] ZA ⟨fun _ => ZcU a0 r7 q28,fun _ => Zaw a1 r8 q30,trivial⟩ (Zb (Zg ?_))
 obtain rfl := Option.some.inj h31
 exact er0 (.tup [.agg [sL 25 Zu r7.Ze,sL 4 ZT r1.1.XQ,sL 1 (ci .i64) r1.1.Js,sL 1 (ci .i64) r8],.int .i64 0])
 have h26 := XH h21
 obtain ⟨rfl,n32⟩ := o24
 refine ZC (Zh ?_)
 obtain rfl := Option.some.inj h26
 exact n32
theorem Zca (a0 : Int) (r : Bool) (h : M.VE a0 = some r) : Fn Tryz.prog 153 [.int .u8 a0] (.pure (.bool r)) := by
 unfold M.VE at h
 exact ZL Tryz.func153 rfl (by kernel_rfl) (Za (zg [0] 0 (Zb (Za (zg [2] 0 (Zb (Zg (er1 h))))))))
theorem KD (a0 : ByteArray) (r : Bool) (h : M.Jr a0 = some r) : Fn Tryz.prog 101 [.str a0] (.pure (.bool r)) := by
 unfold M.Jr at h
 refine ZL Tryz.func101 rfl (by kernel_rfl) (Za (zg [0] 0 (Zb (Za (Za ?_)))))
 obtain ⟨r1,q1,h2⟩ := bind_some h
 obtain ⟨c3,h4⟩ := Zz h2
 refine zr [0,18] 0 c3 (rq2 (fun hg => Zca _ _ (Xj q1 hg)) rqn) (Zb (cn h4 (fun _ h6 => ?_) (fun _ h7 => ?_)))
 exact Za (zg [2] 0 (Zb (Zg (Zh (er1 h6)))))
 refine Zd (Zb (Za (Za (zg [0,3] 0 (Zb (Zi ?_))))))
 obtain ⟨y5,q19,h20⟩ := bind_some h7
 refine zl (fun (p2 : Int) => ⟨56,[(0,.str a0),(3,.int .i64 p2)],[]⟩) (Sum.elim (fun z => OutE 0 (fun z => ⟨56,[],[]⟩) z) (fun z => OutR Tryz.prog Tryz.f101 (.bool z))) q19 ?_ ?_
 intro p2 y3 h8
 unfold M.Wk at h8
 refine Za (Za (zg [0,3,22] 0 (Zb (cn h8 (fun _ h10 => ?_) (fun _ h11 => ?_)))))
 refine Zd (Zb (Za (Zi (Za ?_))))
 obtain ⟨c12,h13⟩ := Zz h10
 refine zc [0,3,4] 0 c12 (Zb (Za ?_))
 obtain ⟨r4,q14,h15⟩ := bind_some h13
 refine zr [0,3,55] 0 ZA (rq1 (Zca _ _ q14) rqn) (Zb (cn h15 (fun _ h17 => ?_) (fun _ h18 => ?_)))
 exact Za (zg [2] 0 (Zb (Zg (ZC (Zh (rr h17 ⟨rfl,er0 _⟩))))))
 exact Zd (XK (Zb (zg [0,3] 0 (rn h18))))
 exact ZH (Xn (re h11 ⟨rfl,kq⟩))
 intro e21 s22 o23
 rcases y5 with g6 | y7
 have h24 := XG h20
 exact zi o23 (Za (zg [2] 0 (Zb (Zg (er1 h24)))))
 have h25 := XH h20
 obtain ⟨rfl,n27⟩ := o23
 refine ZC (Zh ?_)
 obtain rfl := Option.some.inj h25
 exact n27
theorem X7 (a0 : Int) (a1 : Int) (a2 : Int) (r : Bool) (h : M.ZD a0 a1 a2 = some r) : Fn Tryz.prog 102 [.int .i64 a0,.int .i64 a1,.int .i64 a2] (.pure (.bool r)) := by
 unfold M.ZD at h
 exact ZL Tryz.func102 rfl (by kernel_rfl) (Za (zg [0,1,2] 0 (Zb (Za (zg [6] 0 (Zb (Zg (er1 h))))))))
theorem ZaV (a0 : Int) (r : Int) (h : M.VI a0 = some r) : Fn Tryz.prog 67 [.int .i64 a0] (.pure (.int .u32 r)) := by
 unfold M.VI at h
 refine ZL Tryz.func67 rfl (by kernel_rfl) (Za (zg [0] 0 (Zb (Za (zg [0,3] 0 (Zb (Za (Za (zg [0,3,4] 0 (Zb (Zi ?_)))))))))))
 obtain ⟨y4,q12,h13⟩ := bind_some h
 refine zl (fun (p1 : Int × Int) => ⟨19,[(0,.int .i64 a0),(3,.int .u32 p1.1),(4,.int .i64 p1.2)],[]⟩) (fun z => OutE 0 (fun z => ⟨19,[(3,.int .u32 z)],[]⟩) z) q12 ?_ ?_
 intro p1 y2 h1
 unfold M.U9 at h1
 refine Za (Za (rg0 [0,3,4,6] 0 ⟨19,[(0,.int .i64 a0),(3,.int .u32 p1.1),(4,.int .i64 p1.2),(6,.bool (decide (p1.2 < 32)))],[]⟩ (Zb (cn h1 (fun _ h3 => ?_) (fun _ h4 => ?_)))))
 refine Zd (Zb (UT (fun (p3 : Int) => ⟨19,[(0,.int .i64 a0),(3,.int .u32 p3),(4,.int .i64 p1.2)],[]⟩) (fun p3 => M.Kw p1 p3 = some y2) ?_ ?_))
 intro p3 h6
 unfold M.Kw at h6
 exact zg [0,3,4] 0 (rn h6)
 intro k5
 refine Zi (Za (zg [0,3,4,11] 0 (Zb (cn h3 (fun _ h8 => ?_) (fun _ h9 => ?_)))))
 obtain ⟨c10,h11⟩ := Zz h8
 exact zc [0,3,4] 0 c10 (XK (XJ lk (k5 (bitD .or .u32 p1.1 (wr .u32 (1 * 2 ^ min (wr .u64 (wr .i64 (31 - p1.2))).toNat 32))) h11)))
 exact Zd (XK (XJ kq (k5 p1.1 h9)))
 exact ZH (Xn (re h4 ⟨rfl,kq⟩))
 intro e14 s15 o16
 exact zi o16 (Za (zg [2] 0 (Zb (Zg (er1 h13)))))
theorem K3 (a0 : Int) (a1 : Int) (r : ZS) (h : M.Jb a0 a1 = some r) : Fn Tryz.prog 45 [.int .u32 a0,.int .i64 a1] (.pure (.agg (Xc r))) := by
 unfold M.Jb at h
 refine ZL Tryz.func45 rfl (by kernel_rfl) (Za (zg [0,1,4] 1 (Zb (Za (zg [0,1,4] 1 (Zb (Za ?_)))))))
 obtain ⟨r1,q1,h2⟩ := bind_some h
 refine zr [4] 1 ZA (rq1 (ZaV _ _ q1) rqn) (Zb (Zg ?_))
 obtain rfl := Option.some.inj h2
 exact er0 (.agg [.int .u32 (bitD .and .u32 a0 r1),.int .i64 (if 0 > (if 32 < a1 then 32 else a1) then 0 else (if 32 < a1 then 32 else a1))])
theorem Ze2 (a0 : ZS) (a1 : Int) (r : Bool) (h : M.WL a0 a1 = some r) : Fn Tryz.prog 181 [.agg (Xc a0),.int .u32 a1] (.pure (.bool r)) := by
 unfold M.WL at h
 refine ZL Tryz.func181 rfl (by kernel_rfl) (Za (zg [1,2] 1 (Zb (Za ?_))))
 obtain ⟨r1,q1,h2⟩ := bind_some h
 exact zr [4] 0 ZA (rq1 (ZaV _ _ q1) rqn) (Zb (Zg (er1 h2)))
theorem Zcb (a0 : ZS) (a1 : ZS) (r : Bool) (h : M.WQ a0 a1 = some r) : Fn Tryz.prog 175 [.agg (Xc a0),.agg (Xc a1)] (.pure (.bool r)) := by
 unfold M.WQ at h
 refine ZL Tryz.func175 rfl (by kernel_rfl) (Za (zg [2,3] 2 (Zb (Za ?_))))
 obtain ⟨r1,q1,h2⟩ := bind_some h
 exact zr [4] 0 ZA (rq2 (fun hg => Ze2 _ _ _ (Xj q1 hg)) rqn) (Zb (Zg (er1 h2)))
theorem Zax (a0 : ZS) (a1 : ZS) (r : Bool) (h : M.Vo a0 a1 = some r) : Fn Tryz.prog 154 [.agg (Xc a0),.agg (Xc a1)] (.pure (.bool r)) := by
 unfold M.Vo at h
 refine ZL Tryz.func154 rfl (by kernel_rfl) (Za (zg [2,3] 2 (Zb (Za ?_))))
 obtain ⟨r1,q1,h2⟩ := bind_some h
 obtain ⟨r2,q3,h4⟩ := bind_some h2
 exact zr [4] 0 ZA (rq1 (Zcb _ _ _ q1) (rq2 (fun hg => Zcb _ _ _ (Xj q3 hg)) rqn)) (Zb (Zg (er1 h4)))
theorem ZdJ (a0 : List ZB) (r : Int) (h : M.Jw a0 = some r) : Fn Tryz.prog 103 [sL 12 Zn a0] (.pure (.int .i64 r)) := by
 let u1 : Nat × D := (0,sL 12 Zn a0)
 unfold M.Jw at h
 refine ZL Tryz.func103 rfl (by kernel_rfl) (Za (zg [0] 0 (Zb (Za (Za (zg [0,9] 0 (Zb (cn h (fun _ h2 => ?_) (fun _ h3 => ?_)))))))))
 exact Za (zg [2] 0 (Zb (Zg (Zh (er1 h2)))))
 refine Zd (Zb (Za (Za (zg [0,3] 0 (Zb (Zi ?_))))))
 obtain ⟨y22,q76,h77⟩ := bind_some h3
 refine zl (fun (p1 : Int) => ⟨163,[u1,(3,.int .i64 p1)],[]⟩) (Sum.elim (fun z => OutE 0 (fun z => ⟨163,[],[]⟩) z) (fun z => OutR Tryz.prog Tryz.f103 (.int .i64 z))) q76 ?_ ?_
 intro p1 y2 h4
 let u2 : List Ob := [.box (Zn (a0.getD p1.toNat default))]
 unfold M.QS at h4
 refine Za (Za (zg [0,3,13] 0 (Zb (cn h4 (fun _ h6 => ?_) (fun _ h7 => ?_)))))
 refine Zd (Zb (Za (Zi (Za ?_))))
 obtain ⟨c8,h9⟩ := Zz h6
 refine zc [0,3,4] 1 c8 (Zb (Za (Za ?_)))
 obtain ⟨r3,q10,h11⟩ := bind_some h9
 refine zr [0,3,4,23] 1 ZA (rq1 (KD _ _ q10) rqn) (Zb (cn h11 (fun _ h13 => ?_) (fun _ h14 => ?_)))
 exact Za (zg [2] 0 (Zb (Zg (Zh (ZC (Zh (rr h13 ⟨rfl,er0 _⟩)))))))
 refine Zd (Zb (Za (Za (zg [0,3,4,5] 1 (Zb (Zi ?_))))))
 obtain ⟨y6,q24,h25⟩ := bind_some h14
 refine zl (fun (p4 : Int) => ⟨163,[u1,(3,.int .i64 p1),(4,.ref 0 0),(5,.int .i64 p4)],u2⟩) (Sum.elim (fun z => OutE 2 (fun z => ⟨163,[u1,(3,.int .i64 p1),(4,.ref 0 0)],u2⟩) z) (fun z => OutR Tryz.prog Tryz.f103 (.int .i64 z))) q24 ?_ ?_
 intro p4 y5 h15
 unfold M.Jp at h15
 refine Za (Za (zg [0,3,4,5,26] 1 (Zb (cn h15 (fun _ h17 => ?_) (fun _ h18 => ?_)))))
 refine Zd (Zb (Za (Zi (Za ?_))))
 obtain ⟨c19,h20⟩ := Zz h17
 refine zc [0,3,4,5,36] 1 c19 (Zb (cn h20 (fun _ h22 => ?_) (fun _ h23 => ?_)))
 exact Za (zg [2] 0 (Zb (Zg (ZC (Zh (rr h22 ⟨rfl,er0 _⟩))))))
 exact Zd (XK (Zb (zg [0,3,4,5] 1 (rn h23))))
 exact ZH (Xn (re h18 ⟨rfl,kq⟩))
 intro e26 s27 o28
 rcases y6 with g7 | y8
 have h29 := XG h25
 refine zi o28 (Za (Za ?_))
 obtain ⟨r9,q32,h33⟩ := bind_some h29
 obtain ⟨r10,q34,h35⟩ := bind_some h33
 obtain ⟨r11,q36,h37⟩ := bind_some h35
 refine zr [0,3,4,52] 1 ZA (rq1 (X7 _ _ _ _ q32) (rq2 (fun hg => X7 _ _ _ _ (Xj q34 hg)) (rq2 (fun hg => X7 _ _ _ _ (Xj q36 hg)) rqn))) (Zb (cn h37 (fun _ h39 => ?_) (fun _ h40 => ?_)))
 exact Za (zg [2] 0 (Zb (Zg (Zh (ZC (Zh (rr h39 ⟨rfl,er0 _⟩)))))))
 refine Zd (Zb (Za (Za (zg [0,3,4,98] 1 (Zb (cn h40 (fun _ h42 => ?_) (fun _ h43 => ?_)))))))
 exact Za (zg [2] 0 (Zb (Zg (Zh (ZC (Zh (rr h42 ⟨rfl,er0 _⟩)))))))
 refine Zd (Zb (Za (Za ?_)))
 obtain ⟨r12,q44,h45⟩ := bind_some h43
 obtain ⟨r13,q46,h47⟩ := bind_some h45
 refine zr [0,3,4,127] 1 ZA (rq2 (fun hg => X7 _ _ _ _ (Xj q44 hg)) (rq2 (fun hg => X7 _ _ _ _ (Xj q46 hg)) rqn)) (Zb (cn h47 (fun _ h49 => ?_) (fun _ h50 => ?_)))
 exact Za (zg [2] 0 (Zb (Zg (Zh (ZC (Zh (rr h49 ⟨rfl,er0 _⟩)))))))
 refine Zd (Zb (Za (zg [0,3,4,6] 1 (Zb (Zi ?_)))))
 obtain ⟨y19,q66,h67⟩ := bind_some h50
 refine zl (fun (p14 : Int) => ⟨163,[u1,(3,.int .i64 p1),(4,.ref 0 0),(6,.int .i64 p14)],u2⟩) (Sum.elim (fun z => OutE 4 (fun z => ⟨163,[u1,(3,.int .i64 p1)],[]⟩) z) (fun z => OutR Tryz.prog Tryz.f103 (.int .i64 z))) q66 ?_ ?_
 intro p14 y15 h51
 unfold M.Qo at h51
 refine Za (Za (zg [0,3,4,6,130] 1 (Zb (cn h51 (fun _ h53 => ?_) (fun _ h54 => ?_)))))
 refine Zd (Zb (Za (Zi (Za ?_))))
 obtain ⟨r16,q55,h56⟩ := bind_some h53
 obtain ⟨r17,q57,h58⟩ := bind_some h56
 obtain ⟨r18,q59,h60⟩ := bind_some h58
 obtain ⟨c61,h62⟩ := Zz h60
 refine zr [0,3,4,6,162] 1 c61 (rq2 (fun hg => K3 _ _ _ (Xj q55 hg)) (rq2 (fun hg => K3 _ _ _ (Xj q57 hg)) (rq2 (fun hg => Zax _ _ _ (Xj q59 hg)) rqn))) (Zb (cn h62 (fun _ h64 => ?_) (fun _ h65 => ?_)))
 exact Za (zg [2] 0 (Zb (Zg (ZC (Zh (rr h64 ⟨rfl,er0 _⟩))))))
 exact Zd (XK (Zb (zg [0,3,4,6] 1 (rn h65))))
 exact ZH (Xn (re h54 ⟨rfl,kc⟩))
 intro e68 s69 o70
 rcases y19 with g20 | y21
 have h71 := XG h67
 obtain ⟨rfl,l73⟩ := o70
 exact YP (XK (XJ (s' := ⟨163,[u1,(3,.int .i64 p1)],[]⟩) (l73) (zg [0,3] 0 (rn h71))))
 have h72 := XH h67
 obtain ⟨rfl,n74⟩ := o70
 exact ZC (ZC (Zh (rr h72 ⟨rfl,n74⟩)))
 have h30 := XH h25
 obtain ⟨rfl,n75⟩ := o28
 exact ZC (Zh (ZC (Zh (rr h30 ⟨rfl,n75⟩))))
 exact ZH (Xn (re h7 ⟨rfl,kq⟩))
 intro e78 s79 o80
 rcases y22 with g23 | y24
 have h81 := XG h77
 exact zi o80 (Za (zg [2] 0 (Zb (Zg (er1 h81)))))
 have h82 := XH h77
 obtain ⟨rfl,n84⟩ := o80
 refine ZC (Zh ?_)
 obtain rfl := Option.some.inj h82
 exact n84
theorem UJ (a0 : ZS) (r : Bool) (h : M.YY a0 = some r) : Fn Tryz.prog 159 [.agg (Xc a0)] (.pure (.bool r)) := by
 unfold M.YY at h
 refine ZL Tryz.func159 rfl (by kernel_rfl) (Za (zg [1] 1 (Zb (Za ?_))))
 obtain ⟨r1,q1,h2⟩ := bind_some h
 exact zr [2] 0 ZA (rq2 (fun hg => ZaV _ _ (Xj q1 hg)) rqn) (Zb (Zg (er1 h2)))
theorem Zay (a0 : VC) (r : Bool) (h : M.QB a0 = some r) : Fn Tryz.prog 155 [.agg (Vk a0)] (.pure (.bool r)) := by
 unfold M.QB at h
 refine ZL Tryz.func155 rfl (by kernel_rfl) (Za (zg [1] 1 (Zb (Za ?_))))
 obtain ⟨r1,q1,h2⟩ := bind_some h
 exact zr [2] 0 ZA (rq1 (UJ _ _ q1) rqn) (Zb (Zg (er1 h2)))
theorem ZcV (a0 : List ZF) (r : Int) (h : M.Q3 a0 = some r) : Fn Tryz.prog 104 [sL 2 Zv a0] (.pure (.int .i64 r)) := by
 let u1 : Nat × D := (0,sL 2 Zv a0)
 unfold M.Q3 at h
 refine ZL Tryz.func104 rfl (by kernel_rfl) (Za (zg [0] 0 (Zb (Za (Za (zg [0,8] 0 (Zb (cn h (fun _ h2 => ?_) (fun _ h3 => ?_)))))))))
 exact Za (zg [2] 0 (Zb (Zg (Zh (er1 h2)))))
 refine Zd (Zb (Za (Za (zg [0,3] 0 (Zb (Zi ?_))))))
 obtain ⟨y15,q65,h66⟩ := bind_some h3
 refine zl (fun (p1 : Int) => ⟨72,[u1,(3,.int .i64 p1)],[]⟩) (Sum.elim (fun z => OutE 0 (fun z => ⟨72,[],[]⟩) z) (fun z => OutR Tryz.prog Tryz.f104 (.int .i64 z))) q65 ?_ ?_
 intro p1 y2 h4
 unfold M.Qt at h4
 refine Za (Za (zg [0,3,12] 0 (Zb (cn h4 (fun _ h6 => ?_) (fun _ h7 => ?_)))))
 refine Zd (Zb (Za (Zi (Za (Za ?_)))))
 obtain ⟨r3,q8,h9⟩ := bind_some h6
 obtain ⟨c10,h11⟩ := Zz h9
 refine zr [0,3,21] 0 c10 (rq1 (KD _ _ q8) rqn) (Zb (cn h11 (fun _ h13 => ?_) (fun _ h14 => ?_)))
 exact Za (zg [2] 0 (Zb (Zg (Zh (ZC (Zh (rr h13 ⟨rfl,er0 _⟩)))))))
 refine Zd (Zb (Za (Za (zg [0,3,4] 0 (Zb (Zi ?_))))))
 obtain ⟨y6,q24,h25⟩ := bind_some h14
 refine zl (fun (p4 : Int) => ⟨72,[u1,(3,.int .i64 p1),(4,.int .i64 p4)],[]⟩) (Sum.elim (fun z => OutE 2 (fun z => ⟨72,[u1,(3,.int .i64 p1)],[]⟩) z) (fun z => OutR Tryz.prog Tryz.f104 (.int .i64 z))) q24 ?_ ?_
 intro p4 y5 h15
 unfold M.QW at h15
 refine Za (Za (zg [0,3,4,24] 0 (Zb (cn h15 (fun _ h17 => ?_) (fun _ h18 => ?_)))))
 refine Zd (Zb (Za (Zi (Za ?_))))
 obtain ⟨c19,h20⟩ := Zz h17
 refine zc [0,3,4,37] 0 c19 (Zb (cn h20 (fun _ h22 => ?_) (fun _ h23 => ?_)))
 exact Za (zg [2] 0 (Zb (Zg (ZC (Zh (rr h22 ⟨rfl,er0 _⟩))))))
 exact Zd (XK (Zb (zg [0,3,4] 0 (rn h23))))
 exact ZH (Xn (re h18 ⟨rfl,kq⟩))
 intro e26 s27 o28
 rcases y6 with g7 | y8
 have h29 := XG h25
 refine zi o28 (Za (Za ?_))
 obtain ⟨c32,h33⟩ := Zz h29
 refine zc [0,3,44] 0 c32 (Zb (cn h33 (fun _ h35 => ?_) (fun _ h36 => ?_)))
 exact Za (zg [2] 0 (Zb (Zg (Zh (ZC (Zh (rr h35 ⟨rfl,er0 _⟩)))))))
 refine Zd (Zb (Za (Za ?_)))
 obtain ⟨c37,h38⟩ := Zz h36
 refine zc [0,3,51] 0 c37 (Zb (cn h38 (fun _ h40 => ?_) (fun _ h41 => ?_)))
 exact Za (zg [2] 0 (Zb (Zg (Zh (ZC (Zh (rr h40 ⟨rfl,er0 _⟩)))))))
 refine Zd (Zb (Za (zg [0,3,5] 0 (Zb (Zi ?_)))))
 obtain ⟨y12,q55,h56⟩ := bind_some h41
 refine zl (fun (p9 : Int) => ⟨72,[u1,(3,.int .i64 p1),(5,.int .i64 p9)],[]⟩) (Sum.elim (fun z => OutE 4 (fun z => ⟨72,[u1,(3,.int .i64 p1)],[]⟩) z) (fun z => OutR Tryz.prog Tryz.f104 (.int .i64 z))) q55 ?_ ?_
 intro p9 y10 h42
 unfold M.Qs at h42
 refine Za (Za ?_)
 obtain ⟨c43,h44⟩ := Zz h42
 refine zc [0,3,5,59] 0 c43 (Zb (cn h44 (fun _ h46 => ?_) (fun _ h47 => ?_)))
 refine Zd (Zb (Za (Zi (Za ?_))))
 obtain ⟨r11,q48,h49⟩ := bind_some h46
 obtain ⟨c50,h51⟩ := Zz h49
 refine zr [0,3,5,71] 0 c50 (rq1 (Zay _ _ q48) rqn) (Zb (cn h51 (fun _ h53 => ?_) (fun _ h54 => ?_)))
 exact Za (zg [2] 0 (Zb (Zg (ZC (Zh (rr h53 ⟨rfl,er0 _⟩))))))
 exact Zd (XK (Zb (zg [0,3,5] 0 (rn h54))))
 exact ZH (Xn (re h47 ⟨rfl,kq⟩))
 intro e57 s58 o59
 rcases y12 with g13 | y14
 have h60 := XG h56
 obtain ⟨rfl,l62⟩ := o59
 exact YP (XK (XJ (s' := ⟨72,[u1,(3,.int .i64 p1)],[]⟩) (l62) (zg [0,3] 0 (rn h60))))
 have h61 := XH h56
 obtain ⟨rfl,n63⟩ := o59
 exact ZC (ZC (Zh (rr h61 ⟨rfl,n63⟩)))
 have h30 := XH h25
 obtain ⟨rfl,n64⟩ := o28
 exact ZC (Zh (ZC (Zh (rr h30 ⟨rfl,n64⟩))))
 exact ZH (Xn (re h7 ⟨rfl,kq⟩))
 intro e67 s68 o69
 rcases y15 with g16 | y17
 have h70 := XG h66
 exact zi o69 (Za (zg [2] 0 (Zb (Zg (er1 h70)))))
 have h71 := XH h66
 obtain ⟨rfl,n73⟩ := o69
 refine ZC (Zh ?_)
 obtain rfl := Option.some.inj h71
 exact n73
theorem G9 (a0 : Zf) (a1 : ByteArray) (r : Int) (h : M.QH a0 a1 = some r) : Fn Tryz.prog 156 [.agg (Zu a0),.str a1] (.pure (.int .i64 r)) := by
 unfold M.QH at h
 refine ZL Tryz.func156 rfl (by kernel_rfl) (Za (zg [1,2] 1 (Zb (Za (Za (zg [1,2,5] 1 (Zb (Zi ?_))))))))
 obtain ⟨y3,q10,h11⟩ := bind_some h
 refine zl (fun (p1 : Int) => ⟨22,[(1,.str a1),(2,.ref 0 0),(5,.int .i64 p1)],[.box (Zu a0)]⟩) (Sum.elim (fun z => OutE 0 (fun z => ⟨22,[],[]⟩) z) (fun z => OutR Tryz.prog Tryz.f156 (.int .i64 z))) q10 ?_ ?_
 intro p1 y2 h1
 unfold M.JV at h1
 refine Za (Za (zg [1,2,5,10] 1 (Zb (cn h1 (fun _ h3 => ?_) (fun _ h4 => ?_)))))
 refine Zd (Zb (Za (Zi (Za ?_))))
 obtain ⟨c5,h6⟩ := Zz h3
 refine zc [1,2,5,20] 1 c5 (Zb (cn h6 (fun _ h8 => ?_) (fun _ h9 => ?_)))
 exact Za (zg [4] 0 (Zb (Zg (ZC (Zh (rr h8 ⟨rfl,er0 _⟩))))))
 exact Zd (XK (Zb (zg [1,2,5] 1 (rn h9))))
 exact ZH (Xn (re h4 ⟨rfl,kc⟩))
 intro e12 s13 o14
 rcases y3 with g4 | y5
 have h15 := XG h11
 exact zi o14 (Za (zg [4] 0 (Zb (Zg (er1 h15)))))
 have h16 := XH h11
 obtain ⟨rfl,n18⟩ := o14
 refine ZC (Zh ?_)
 obtain rfl := Option.some.inj h16
 exact n18
theorem Zeq (a0 : Zf) (r : Int) (h : M.J1 a0 = some r) : Fn Tryz.prog 105 [.agg (Zu a0)] (.pure (.int .i64 r)) := by
 let u1 : Nat × D := (3,sL 2 ZQ a0.ZR)
 let u2 : List Ob := [.box (Zu a0)]
 unfold M.J1 at h
 refine ZL Tryz.func105 rfl (by kernel_rfl) (Za (zg [1] 1 (Zb (Za (zg [1,3] 1 (Zb (Za (Za (zg [1,3,12] 1 (Zb (cn h (fun _ h2 => ?_) (fun _ h3 => ?_))))))))))))
 exact Za (zg [2] 0 (Zb (Zg (Zh (er1 h2)))))
 refine Zd (Zb (Za (Za (zg [1,3,4] 1 (Zb (Zi ?_))))))
 obtain ⟨y20,q78,h79⟩ := bind_some h3
 refine zl (fun (p1 : Int) => ⟨112,[(1,.ref 0 0),u1,(4,.int .i64 p1)],u2⟩) (Sum.elim (fun z => OutE 0 (fun z => ⟨112,[],[]⟩) z) (fun z => OutR Tryz.prog Tryz.f105 (.int .i64 z))) q78 ?_ ?_
 intro p1 y2 h4
 unfold M.Jd at h4
 refine Za (Za (zg [1,3,4,16] 1 (Zb (cn h4 (fun _ h6 => ?_) (fun _ h7 => ?_)))))
 refine Zd (Zb (Za (Zi (Za (Za ?_)))))
 obtain ⟨r3,q8,h9⟩ := bind_some h6
 obtain ⟨c10,h11⟩ := Zz h9
 refine zr [1,3,4,25] 1 c10 (rq1 (KD _ _ q8) rqn) (Zb (cn h11 (fun _ h13 => ?_) (fun _ h14 => ?_)))
 exact Za (zg [2] 0 (Zb (Zg (Zh (ZC (Zh (rr h13 ⟨rfl,er0 _⟩)))))))
 refine Zd (Zb (Za (Za (zg [1,3,4,5] 1 (Zb (Zi ?_))))))
 obtain ⟨y6,q24,h25⟩ := bind_some h14
 refine zl (fun (p4 : Int) => ⟨112,[(1,.ref 0 0),u1,(4,.int .i64 p1),(5,.int .i64 p4)],u2⟩) (Sum.elim (fun z => OutE 2 (fun z => ⟨112,[(1,.ref 0 0),u1,(4,.int .i64 p1)],u2⟩) z) (fun z => OutR Tryz.prog Tryz.f105 (.int .i64 z))) q24 ?_ ?_
 intro p4 y5 h15
 unfold M.JK at h15
 refine Za (Za (zg [1,3,4,5,28] 1 (Zb (cn h15 (fun _ h17 => ?_) (fun _ h18 => ?_)))))
 refine Zd (Zb (Za (Zi (Za ?_))))
 obtain ⟨c19,h20⟩ := Zz h17
 refine zc [1,3,4,5,41] 1 c19 (Zb (cn h20 (fun _ h22 => ?_) (fun _ h23 => ?_)))
 exact Za (zg [2] 0 (Zb (Zg (ZC (Zh (rr h22 ⟨rfl,er0 _⟩))))))
 exact Zd (XK (Zb (zg [1,3,4,5] 1 (rn h23))))
 exact ZH (Xn (re h18 ⟨rfl,kq⟩))
 intro e26 s27 o28
 rcases y6 with g7 | y8
 have h29 := XG h25
 refine zi o28 (Za (Za ?_))
 obtain ⟨c32,h33⟩ := Zz h29
 refine zc [1,3,4,48] 1 c32 (Zb (cn h33 (fun _ h35 => ?_) (fun _ h36 => ?_)))
 exact Za (zg [2] 0 (Zb (Zg (Zh (ZC (Zh (rr h35 ⟨rfl,er0 _⟩)))))))
 refine Zd (Zb (Za (Za ?_)))
 obtain ⟨c37,h38⟩ := Zz h36
 refine zc [1,3,4,55] 1 c37 (Zb (cn h38 (fun _ h40 => ?_) (fun _ h41 => ?_)))
 exact Za (zg [2] 0 (Zb (Zg (Zh (ZC (Zh (rr h40 ⟨rfl,er0 _⟩)))))))
 refine Zd (Zb (Za (zg [1,3,4,6] 1 (Zb (Zi ?_)))))
 obtain ⟨y17,q68,h69⟩ := bind_some h41
 refine zl (fun (p9 : Int) => ⟨112,[(1,.ref 0 0),u1,(4,.int .i64 p1),(6,.int .i64 p9)],u2⟩) (Sum.elim (fun z => OutE 4 (fun z => ⟨112,[(1,.ref 0 0),u1,(4,.int .i64 p1)],u2⟩) z) (fun z => OutR Tryz.prog Tryz.f105 (.int .i64 z))) q68 ?_ ?_
 intro p9 y10 h42
 unfold M.Jc at h42
 refine Za (Za ?_)
 obtain ⟨c43,h44⟩ := Zz h42
 refine zc [1,3,4,6,63] 1 c43 (Zb (cn h44 (fun _ h46 => ?_) (fun _ h47 => ?_)))
 refine Zd (Zb (Za (Zi (Za ?_))))
 obtain ⟨c48,h49⟩ := Zz h46
 refine zc [1,3,4,6,7] 2 c48 (Zb (Za (Za ?_)))
 obtain ⟨r11,q50,h51⟩ := bind_some h49
 refine zr [1,3,4,6,7,83] 2 ZA (rq2 (fun hg => G9 _ _ _ (Xj q50 hg)) rqn) (Zb (cn h51 (fun _ h53 => ?_) (fun _ h54 => ?_)))
 exact Za (zg [2] 0 (Zb (Zg (Zh (ZC (Zh (rr h53 ⟨rfl,er0 _⟩)))))))
 refine Zd (Zb (Za ?_))
 obtain ⟨r12,q55,h56⟩ := bind_some h54
 obtain ⟨r13,q57,h58⟩ := bind_some h56
 obtain ⟨r14,q59,h60⟩ := bind_some h58
 obtain ⟨r15,q61,h62⟩ := bind_some h60
 obtain ⟨r16,q63,h64⟩ := bind_some h62
 refine zr [1,3,4,6,111] 1 ZA (rq1 (X7 _ _ _ _ q55) (rq2 (fun hg => X7 _ _ _ _ (Xj q57 hg)) (rq2 (fun hg => X7 _ _ _ _ (Xj q59 hg)) (rq2 (fun hg => X7 _ _ _ _ (Xj q61 hg)) (rq2 (fun hg => X7 _ _ _ _ (Xj q63 hg)) rqn))))) (Zb (cn h64 (fun _ h66 => ?_) (fun _ h67 => ?_)))
 exact Za (zg [2] 0 (Zb (Zg (ZC (Zh (rr h66 ⟨rfl,er0 _⟩))))))
 exact Zd (XK (Zb (zg [1,3,4,6] 1 (rn h67))))
 exact ZH (Xn (re h47 ⟨rfl,kq⟩))
 intro e70 s71 o72
 rcases y17 with g18 | y19
 have h73 := XG h69
 obtain ⟨rfl,l75⟩ := o72
 exact YP (XK (XJ (s' := ⟨112,[(1,.ref 0 0),u1,(4,.int .i64 p1)],u2⟩) (l75) (zg [1,3,4] 1 (rn h73))))
 have h74 := XH h69
 obtain ⟨rfl,n76⟩ := o72
 exact ZC (ZC (Zh (rr h74 ⟨rfl,n76⟩)))
 have h30 := XH h25
 obtain ⟨rfl,n77⟩ := o28
 exact ZC (Zh (ZC (Zh (rr h30 ⟨rfl,n77⟩))))
 exact ZH (Xn (re h7 ⟨rfl,kc⟩))
 intro e80 s81 o82
 rcases y20 with g21 | y22
 have h83 := XG h79
 exact zi o82 (Za (zg [2] 0 (Zb (Zg (er1 h83)))))
 have h84 := XH h79
 obtain ⟨rfl,n86⟩ := o82
 refine ZC (Zh ?_)
 obtain rfl := Option.some.inj h84
 exact n86
theorem Zdk (a0 : Vd) (r : Bool) (h : M.Wl a0 = some r) : Fn Tryz.prog 176 [.agg (Re a0)] (.pure (.bool r)) := by
 unfold M.Wl at h
 exact ZL Tryz.func176 rfl (by kernel_rfl) (Za (zg [1] 1 (Zb (Za (zg [2] 0 (Zb (Zg (er1 h))))))))
theorem Zfr (a0 : Vd) (r : Bool) (h : M.Gm a0 = some r) : Fn Tryz.prog 177 [.agg (Re a0)] (.pure (.bool r)) := by
 unfold M.Gm at h
 exact ZL Tryz.func177 rfl (by kernel_rfl) (Za (zg [1] 1 (Zb (Za (zg [2] 0 (Zb (Zg (er1 h))))))))
theorem Zer (a0 : Ku) (r : Bool) (h : M.Vi a0 = some r) : Fn Tryz.prog 157 [.agg (GO a0)] (.pure (.bool r)) := by
 unfold M.Vi at h
 refine ZL Tryz.func157 rfl (by kernel_rfl) (Za (zg [1] 1 (Zb (Za (Za ?_)))))
 obtain ⟨r1,q1,h2⟩ := bind_some h
 obtain ⟨r2,q3,h4⟩ := bind_some h2
 obtain ⟨r3,q5,h6⟩ := bind_some h4
 refine zr [1,38] 1 ZA (rq1 (X7 _ _ _ _ q1) (rq2 (fun hg => Zdk _ _ (Xj q3 hg)) (rq2 (fun hg => Zdk _ _ (Xj q5 hg)) rqn))) (Zb (cn h6 (fun _ h8 => ?_) (fun _ h9 => ?_)))
 exact Za (zg [2] 0 (Zb (Zg (Zh (er1 h8)))))
 refine Zd (Zb (Za ?_))
 obtain ⟨r4,q10,h11⟩ := bind_some h9
 obtain ⟨r5,q12,h13⟩ := bind_some h11
 exact zr [2] 0 ZA (rq2 (fun hg => Zfr _ _ (Xj q10 hg)) (rq2 (fun hg => Zfr _ _ (Xj q12 hg)) rqn)) (Zb (Zg (er1 h13)))
theorem ZcW (a0 : List V2) (r : Int) (h : M.Q4 a0 = some r) : Fn Tryz.prog 106 [sL 2 Yq a0] (.pure (.int .i64 r)) := by
 let u1 : Nat × D := (0,sL 2 Yq a0)
 unfold M.Q4 at h
 refine ZL Tryz.func106 rfl (by kernel_rfl) (Za (zg [0] 0 (Zb (Za (Za (zg [0,8] 0 (Zb (cn h (fun _ h2 => ?_) (fun _ h3 => ?_)))))))))
 exact Za (zg [2] 0 (Zb (Zg (Zh (er1 h2)))))
 refine Zd (Zb (Za (Za (zg [0,3] 0 (Zb (Zi ?_))))))
 obtain ⟨y15,q65,h66⟩ := bind_some h3
 refine zl (fun (p1 : Int) => ⟨72,[u1,(3,.int .i64 p1)],[]⟩) (Sum.elim (fun z => OutE 0 (fun z => ⟨72,[],[]⟩) z) (fun z => OutR Tryz.prog Tryz.f106 (.int .i64 z))) q65 ?_ ?_
 intro p1 y2 h4
 unfold M.Qv at h4
 refine Za (Za (zg [0,3,12] 0 (Zb (cn h4 (fun _ h6 => ?_) (fun _ h7 => ?_)))))
 refine Zd (Zb (Za (Zi (Za (Za ?_)))))
 obtain ⟨r3,q8,h9⟩ := bind_some h6
 obtain ⟨c10,h11⟩ := Zz h9
 refine zr [0,3,21] 0 c10 (rq1 (KD _ _ q8) rqn) (Zb (cn h11 (fun _ h13 => ?_) (fun _ h14 => ?_)))
 exact Za (zg [2] 0 (Zb (Zg (Zh (ZC (Zh (rr h13 ⟨rfl,er0 _⟩)))))))
 refine Zd (Zb (Za (Za (zg [0,3,4] 0 (Zb (Zi ?_))))))
 obtain ⟨y6,q24,h25⟩ := bind_some h14
 refine zl (fun (p4 : Int) => ⟨72,[u1,(3,.int .i64 p1),(4,.int .i64 p4)],[]⟩) (Sum.elim (fun z => OutE 2 (fun z => ⟨72,[u1,(3,.int .i64 p1)],[]⟩) z) (fun z => OutR Tryz.prog Tryz.f106 (.int .i64 z))) q24 ?_ ?_
 intro p4 y5 h15
 unfold M.QX at h15
 refine Za (Za (zg [0,3,4,24] 0 (Zb (cn h15 (fun _ h17 => ?_) (fun _ h18 => ?_)))))
 refine Zd (Zb (Za (Zi (Za ?_))))
 obtain ⟨c19,h20⟩ := Zz h17
 refine zc [0,3,4,37] 0 c19 (Zb (cn h20 (fun _ h22 => ?_) (fun _ h23 => ?_)))
 exact Za (zg [2] 0 (Zb (Zg (ZC (Zh (rr h22 ⟨rfl,er0 _⟩))))))
 exact Zd (XK (Zb (zg [0,3,4] 0 (rn h23))))
 exact ZH (Xn (re h18 ⟨rfl,kq⟩))
 intro e26 s27 o28
 rcases y6 with g7 | y8
 have h29 := XG h25
 refine zi o28 (Za (Za ?_))
 obtain ⟨c32,h33⟩ := Zz h29
 refine zc [0,3,44] 0 c32 (Zb (cn h33 (fun _ h35 => ?_) (fun _ h36 => ?_)))
 exact Za (zg [2] 0 (Zb (Zg (Zh (ZC (Zh (rr h35 ⟨rfl,er0 _⟩)))))))
 refine Zd (Zb (Za (Za ?_)))
 obtain ⟨c37,h38⟩ := Zz h36
 refine zc [0,3,51] 0 c37 (Zb (cn h38 (fun _ h40 => ?_) (fun _ h41 => ?_)))
 exact Za (zg [2] 0 (Zb (Zg (Zh (ZC (Zh (rr h40 ⟨rfl,er0 _⟩)))))))
 refine Zd (Zb (Za (zg [0,3,5] 0 (Zb (Zi ?_)))))
 obtain ⟨y12,q55,h56⟩ := bind_some h41
 refine zl (fun (p9 : Int) => ⟨72,[u1,(3,.int .i64 p1),(5,.int .i64 p9)],[]⟩) (Sum.elim (fun z => OutE 4 (fun z => ⟨72,[u1,(3,.int .i64 p1)],[]⟩) z) (fun z => OutR Tryz.prog Tryz.f106 (.int .i64 z))) q55 ?_ ?_
 intro p9 y10 h42
 unfold M.Qu at h42
 refine Za (Za ?_)
 obtain ⟨c43,h44⟩ := Zz h42
 refine zc [0,3,5,59] 0 c43 (Zb (cn h44 (fun _ h46 => ?_) (fun _ h47 => ?_)))
 refine Zd (Zb (Za (Zi (Za ?_))))
 obtain ⟨r11,q48,h49⟩ := bind_some h46
 obtain ⟨c50,h51⟩ := Zz h49
 refine zr [0,3,5,71] 0 c50 (rq1 (Zer _ _ q48) rqn) (Zb (cn h51 (fun _ h53 => ?_) (fun _ h54 => ?_)))
 exact Za (zg [2] 0 (Zb (Zg (ZC (Zh (rr h53 ⟨rfl,er0 _⟩))))))
 exact Zd (XK (Zb (zg [0,3,5] 0 (rn h54))))
 exact ZH (Xn (re h47 ⟨rfl,kq⟩))
 intro e57 s58 o59
 rcases y12 with g13 | y14
 have h60 := XG h56
 obtain ⟨rfl,l62⟩ := o59
 exact YP (XK (XJ (s' := ⟨72,[u1,(3,.int .i64 p1)],[]⟩) (l62) (zg [0,3] 0 (rn h60))))
 have h61 := XH h56
 obtain ⟨rfl,n63⟩ := o59
 exact ZC (ZC (Zh (rr h61 ⟨rfl,n63⟩)))
 have h30 := XH h25
 obtain ⟨rfl,n64⟩ := o28
 exact ZC (Zh (ZC (Zh (rr h30 ⟨rfl,n64⟩))))
 exact ZH (Xn (re h7 ⟨rfl,kq⟩))
 intro e67 s68 o69
 rcases y15 with g16 | y17
 have h70 := XG h66
 exact zi o69 (Za (zg [2] 0 (Zb (Zg (er1 h70)))))
 have h71 := XH h66
 obtain ⟨rfl,n73⟩ := o69
 refine ZC (Zh ?_)
 obtain rfl := Option.some.inj h71
 exact n73
theorem Zcc (a0 : Zf) (a1 : ByteArray) (r : Int) (h : M.Ut a0 a1 = some r) : Fn Tryz.prog 158 [.agg (Zu a0),.str a1] (.pure (.int .i64 r)) := by
 unfold M.Ut at h
 refine ZL Tryz.func158 rfl (by kernel_rfl) (Za (zg [1,2] 1 (Zb (Za (Za (zg [1,2,5] 1 (Zb (Zi ?_))))))))
 obtain ⟨y3,q10,h11⟩ := bind_some h
 refine zl (fun (p1 : Int) => ⟨22,[(1,.str a1),(2,.ref 0 0),(5,.int .i64 p1)],[.box (Zu a0)]⟩) (Sum.elim (fun z => OutE 0 (fun z => ⟨22,[],[]⟩) z) (fun z => OutR Tryz.prog Tryz.f158 (.int .i64 z))) q10 ?_ ?_
 intro p1 y2 h1
 unfold M.Us at h1
 refine Za (Za (zg [1,2,5,10] 1 (Zb (cn h1 (fun _ h3 => ?_) (fun _ h4 => ?_)))))
 refine Zd (Zb (Za (Zi (Za ?_))))
 obtain ⟨c5,h6⟩ := Zz h3
 refine zc [1,2,5,20] 1 c5 (Zb (cn h6 (fun _ h8 => ?_) (fun _ h9 => ?_)))
 exact Za (zg [4] 0 (Zb (Zg (ZC (Zh (rr h8 ⟨rfl,er0 _⟩))))))
 exact Zd (XK (Zb (zg [1,2,5] 1 (rn h9))))
 exact ZH (Xn (re h4 ⟨rfl,kc⟩))
 intro e12 s13 o14
 rcases y3 with g4 | y5
 have h15 := XG h11
 exact zi o14 (Za (zg [4] 0 (Zb (Zg (er1 h15)))))
 have h16 := XH h11
 obtain ⟨rfl,n18⟩ := o14
 refine ZC (Zh ?_)
 obtain rfl := Option.some.inj h16
 exact n18
theorem Zcd (a0 : Zf) (r : Int) (h : M.QI a0 = some r) : Fn Tryz.prog 107 [.agg (Zu a0)] (.pure (.int .i64 r)) := by
 unfold M.QI at h
 refine ZL Tryz.func107 rfl (by kernel_rfl) (Za (zg [1] 1 (Zb (Za (Za (zg [1,9] 1 (Zb (cn h (fun _ h2 => ?_) (fun _ h3 => ?_)))))))))
 exact Za (zg [2] 0 (Zb (Zg (Zh (er1 h2)))))
 refine Zd (Zb (Za (Za (zg [1,3] 1 (Zb (Zi ?_))))))
 obtain ⟨y7,q33,h34⟩ := bind_some h3
 refine zl (fun (p1 : Int) => ⟨135,[(1,.ref 0 0),(3,.int .i64 p1)],[.box (Zu a0)]⟩) (Sum.elim (fun z => OutE 0 (fun z => ⟨135,[],[]⟩) z) (fun z => OutR Tryz.prog Tryz.f107 (.int .i64 z))) q33 ?_ ?_
 intro p1 y2 h4
 let u1 := a0.Xf.getD p1.toNat default
 let u2 := ((u1.Qj) != 0) && ((u1.Yv) != 0)
 let u3 : List Ob := [.box (Zu a0),.box (Z8 u1)]
 unfold M.Qc at h4
 refine Za (Za (zg [1,3,14] 1 (Zb (cn h4 (fun _ h6 => ?_) (fun _ h7 => ?_)))))
 refine Zd (Zb (Za (Zi (Za ?_))))
 obtain ⟨c8,h9⟩ := Zz h6
 refine zc [1,3,4] 2 c8 (Zb (Za (rg0 [1,3,4,5] 2 ⟨135,[(1,.ref 0 0),(3,.int .i64 p1),(4,.ref 1 0),(5,.bool false)],u3⟩ (Zb (UT (fun (p3 : Bool) => ⟨135,[(1,.ref 0 0),(3,.int .i64 p1),(4,.ref 1 0),(5,.bool p3)],u3⟩) (fun p3 => M.Yb a0 p1 p3 = some y2) ?_ ?_)))))
 intro p3 h11
 unfold M.Yb at h11
 refine Za (Za (zg [1,3,4,124] 2 (Zb (cn h11 (fun _ h13 => ?_) (fun _ h14 => ?_)))))
 exact Za (zg [2] 0 (Zb (Zg (Zh (ZC (Zh (rr h13 ⟨rfl,er0 _⟩)))))))
 refine Zd (Zb (Za ?_))
 obtain ⟨r4,q15,h16⟩ := bind_some h14
 refine zr [1,3,134] 1 ZA (rq2 (fun hg => Zcc _ _ _ (Xj q15 hg)) rqn) (Zb (cn h16 (fun _ h18 => ?_) (fun _ h19 => ?_)))
 exact Za (zg [2] 0 (Zb (Zg (ZC (Zh (rr h18 ⟨rfl,er0 _⟩))))))
 exact Zd (XK (Zb (zg [1,3] 1 (rn h19))))
 intro k10
 refine Za (zg [1,3,4,5,23] 2 (Zb (Zi (Za (zg [1,3,4,5,23,24] 2 (Zb (cn h9 (fun _ h21 => ?_) (fun _ h22 => ?_))))))))
 exact zg [1,3,4,5] 2 (XK (XJ lk (k10 (u2 && (((u1.JX) == (u1.JX)) && (((u1.Qj) == (u1.Qj)) && (((u1.Yv) == (u1.Yv)) && (((u1.Yc) == 0) && (((u1.Qp) == 0) && (((u1.YO) == 0) && (strEq (u1.QE) (⟨#[]⟩ : ByteArray) && (((u1.Gv) == 0) && (((u1.G4) == 0) && true)))))))))) h21)))
 refine Za (zg [1,3,4,5,23,45] 2 (Zb (cn h22 (fun _ h24 => ?_) (fun _ h25 => ?_))))
 exact zg [1,3,4,5] 2 (XK (XJ lk (k10 (((((u1.Gv) != 0) && (decide ((u1.Gv) ≤ (u1.G4)))) && (decide ((wr .u32 ((u1.G4) - (u1.Gv))) < 8))) && (((u1.JX) == (u1.JX)) && (((u1.Qj) == 0) && (((u1.Yv) == 0) && (((u1.Yc) == 0) && (((u1.Qp) == 0) && (((u1.YO) == 0) && (strEq (u1.QE) (u1.QE) && (((u1.Gv) == (u1.Gv)) && (((u1.G4) == (u1.G4)) && true)))))))))) h24)))
 refine Za (zg [1,3,4,5,78] 2 (Zb (cn h25 (fun _ h27 => ?_) (fun _ h28 => ?_))))
 obtain ⟨r5,q29,h30⟩ := bind_some h27
 obtain ⟨r6,q31,h32⟩ := bind_some h30
 exact zr [1,3,4,5] 2 ZA (rq2 (fun hg => X7 _ _ _ _ (Xj q29 hg)) (rq2 (fun hg => X7 _ _ _ _ (Xj q31 hg)) rqn)) (XK (XJ lk (k10 ((((((u2 && (((u1.Yc) == 6) || ((u1.Yc) == 17))) && r5) && r6) && (strEq (u1.QE) (⟨#[]⟩ : ByteArray))) && ((u1.Gv) == 0)) && ((u1.G4) == 0)) h32)))
 exact Zd (XK (XJ kq (k10 false h28)))
 exact ZH (Xn (re h7 ⟨rfl,kc⟩))
 intro e35 s36 o37
 rcases y7 with g8 | y9
 have h38 := XG h34
 exact zi o37 (Za (zg [2] 0 (Zb (Zg (er1 h38)))))
 have h39 := XH h34
 obtain ⟨rfl,n41⟩ := o37
 refine ZC (Zh ?_)
 obtain rfl := Option.some.inj h39
 exact n41
theorem Zfz (a0 : Zf) (r : Int) (h : M.Wm a0 = some r) : Fn Tryz.prog 108 [.agg (Zu a0)] (.pure (.int .i64 r)) := by
 unfold M.Wm at h
 refine ZL Tryz.func108 rfl (by kernel_rfl) (Za (zg [1] 1 (Zb (Za (Za (zg [1,3] 1 (Zb (Zi ?_))))))))
 obtain ⟨y5,q14,h15⟩ := bind_some h
 refine zl (fun (p1 : Int) => ⟨39,[(1,.ref 0 0),(3,.int .i64 p1)],[.box (Zu a0)]⟩) (Sum.elim (fun z => OutE 0 (fun z => ⟨39,[],[]⟩) z) (fun z => OutR Tryz.prog Tryz.f108 (.int .i64 z))) q14 ?_ ?_
 intro p1 y2 h1
 unfold M.VU at h1
 refine Za (Za (zg [1,3,9] 1 (Zb (cn h1 (fun _ h3 => ?_) (fun _ h4 => ?_)))))
 refine Zd (Zb (Za (Zi (Za ?_))))
 obtain ⟨c5,h6⟩ := Zz h3
 refine zc [1,3,4] 2 c5 (Zb (Za ?_))
 obtain ⟨r3,q7,h8⟩ := bind_some h6
 obtain ⟨r4,q9,h10⟩ := bind_some h8
 refine zr [1,3,38] 1 ZA (rq2 (fun hg => Zcc _ _ _ (Xj q7 hg)) (rq2 (fun hg => Zcc _ _ _ (Xj q9 hg)) rqn)) (Zb (cn h10 (fun _ h12 => ?_) (fun _ h13 => ?_)))
 exact Za (zg [2] 0 (Zb (Zg (ZC (Zh (rr h12 ⟨rfl,er0 _⟩))))))
 exact Zd (XK (Zb (zg [1,3] 1 (rn h13))))
 exact ZH (Xn (re h4 ⟨rfl,kc⟩))
 intro e16 s17 o18
 rcases y5 with g6 | y7
 have h19 := XG h15
 exact zi o18 (Za (zg [2] 0 (Zb (Zg (er1 h19)))))
 have h20 := XH h15
 obtain ⟨rfl,n22⟩ := o18
 refine ZC (Zh ?_)
 obtain rfl := Option.some.inj h20
 exact n22
theorem Zbi (a0 : Zf) (a1 : Int) (r : Int) (h : M.Je a0 a1 = some r) : Fn Tryz.prog 66 [.agg (Zu a0),.int .u32 a1] (.pure (.int .i64 r)) := by
 unfold M.Je at h
 refine ZL Tryz.func66 rfl (by kernel_rfl) (Za (zg [1,2] 1 (Zb (Za (Za (zg [1,2,5] 1 (Zb (Zi ?_))))))))
 obtain ⟨y3,q10,h11⟩ := bind_some h
 refine zl (fun (p1 : Int) => ⟨31,[(1,.int .u32 a1),(2,.ref 0 0),(5,.int .i64 p1)],[.box (Zu a0)]⟩) (Sum.elim (fun z => OutE 0 (fun z => ⟨31,[],[]⟩) z) (fun z => OutR Tryz.prog Tryz.f66 (.int .i64 z))) q10 ?_ ?_
 intro p1 y2 h1
 unfold M.VV at h1
 refine Za (Za (zg [1,2,5,10] 1 (Zb (cn h1 (fun _ h3 => ?_) (fun _ h4 => ?_)))))
 refine Zd (Zb (Za (Zi (Za ?_))))
 obtain ⟨c5,h6⟩ := Zz h3
 refine zc [1,2,5,29] 1 c5 (Zb (cn h6 (fun _ h8 => ?_) (fun _ h9 => ?_)))
 exact Za (zg [4] 0 (Zb (Zg (ZC (Zh (rr h8 ⟨rfl,er0 _⟩))))))
 exact Zd (XK (Zb (zg [1,2,5] 1 (rn h9))))
 exact ZH (Xn (re h4 ⟨rfl,kc⟩))
 intro e12 s13 o14
 rcases y3 with g4 | y5
 have h15 := XG h11
 exact zi o14 (Za (zg [4] 0 (Zb (Zg (er1 h15)))))
 have h16 := XH h11
 obtain ⟨rfl,n18⟩ := o14
 refine ZC (Zh ?_)
 obtain rfl := Option.some.inj h16
 exact n18
theorem Zes (a0 : Zf) (a1 : ByteArray) (r : Int) (h : M.J2 a0 a1 = some r) : Fn Tryz.prog 160 [.agg (Zu a0),.str a1] (.pure (.int .i64 r)) := by
 unfold M.J2 at h
 refine ZL Tryz.func160 rfl (by kernel_rfl) (Za (zg [1,2] 1 (Zb (Za (Za (zg [1,2,5] 1 (Zb (Zi ?_))))))))
 obtain ⟨y3,q10,h11⟩ := bind_some h
 refine zl (fun (p1 : Int) => ⟨22,[(1,.str a1),(2,.ref 0 0),(5,.int .i64 p1)],[.box (Zu a0)]⟩) (Sum.elim (fun z => OutE 0 (fun z => ⟨22,[],[]⟩) z) (fun z => OutR Tryz.prog Tryz.f160 (.int .i64 z))) q10 ?_ ?_
 intro p1 y2 h1
 unfold M.JL at h1
 refine Za (Za (zg [1,2,5,10] 1 (Zb (cn h1 (fun _ h3 => ?_) (fun _ h4 => ?_)))))
 refine Zd (Zb (Za (Zi (Za ?_))))
 obtain ⟨c5,h6⟩ := Zz h3
 refine zc [1,2,5,20] 1 c5 (Zb (cn h6 (fun _ h8 => ?_) (fun _ h9 => ?_)))
 exact Za (zg [4] 0 (Zb (Zg (ZC (Zh (rr h8 ⟨rfl,er0 _⟩))))))
 exact Zd (XK (Zb (zg [1,2,5] 1 (rn h9))))
 exact ZH (Xn (re h4 ⟨rfl,kc⟩))
 intro e12 s13 o14
 rcases y3 with g4 | y5
 have h15 := XG h11
 exact zi o14 (Za (zg [4] 0 (Zb (Zg (er1 h15)))))
 have h16 := XH h11
 obtain ⟨rfl,n18⟩ := o14
 refine ZC (Zh ?_)
 obtain rfl := Option.some.inj h16
 exact n18
theorem ZfA (a0 : Zf) (r : Int) (h : M.VW a0 = some r) : Fn Tryz.prog 109 [.agg (Zu a0)] (.pure (.int .i64 r)) := by
 let u4 := Zu a0
 unfold M.VW at h
 refine ZL Tryz.func109 rfl (by kernel_rfl) (Za (zg [1] 1 (Zb (Za (Za (zg [1,11] 1 (Zb (cn h (fun _ h2 => ?_) (fun _ h3 => ?_)))))))))
 exact Za (zg [2] 0 (Zb (Zg (Zh (er1 h2)))))
 refine Zd (Zb (Za (Za (zg [1,3] 1 (Zb (Zi ?_))))))
 obtain ⟨y17,q69,h70⟩ := bind_some h3
 refine zl (fun (p1 : Int) => ⟨111,[(1,.ref 0 0),(3,.int .i64 p1)],[.box u4]⟩) (Sum.elim (fun z => OutE 0 (fun z => ⟨111,[],[]⟩) z) (fun z => OutR Tryz.prog Tryz.f109 (.int .i64 z))) q69 ?_ ?_
 intro p1 y2 h4
 let u1 := a0.Zr.getD p1.toNat default
 let u2 : List Ob := [.box u4,.box (ZX u1)]
 unfold M.J3 at h4
 refine Za (Za (zg [1,3,16] 1 (Zb (cn h4 (fun _ h6 => ?_) (fun _ h7 => ?_)))))
 refine Zd (Zb (Za (Zi (Za ?_))))
 obtain ⟨c8,h9⟩ := Zz h6
 refine zc [1,3,4] 2 c8 (Zb (Za (rg0 [1,3,4,5] 2 ⟨111,[(1,.ref 0 0),(3,.int .i64 p1),(4,.ref 1 0),(5,.int .i64 0)],u2⟩ (Zb (UT (fun (p3 : Int) => ⟨111,[(1,.ref 0 0),(3,.int .i64 p1),(4,.ref 1 0),(5,.int .i64 p3)],u2⟩) (fun p3 => M.JB a0 p1 p3 = some y2) ?_ ?_)))))
 intro p3 h11
 unfold M.JB at h11
 refine UT (fun (p4 : Int) => ⟨111,[(1,.ref 0 0),(3,.int .i64 p1),(4,.ref 1 0),(5,.int .i64 p4)],u2⟩) (fun p4 => M.JA a0 p1 p4 = some y2) ?_ ?_
 intro p4 h13
 unfold M.JA at h13
 refine UT (fun (p5 : Int) => ⟨111,[(1,.ref 0 0),(3,.int .i64 p1),(4,.ref 1 0),(5,.int .i64 p5)],u2⟩) (fun p5 => M.Jz a0 p1 p5 = some y2) ?_ ?_
 intro p5 h15
 unfold M.Jz at h15
 refine Za (Za ?_)
 obtain ⟨r6,q16,h17⟩ := bind_some h15
 obtain ⟨r7,q18,h19⟩ := bind_some h17
 let u3 := ((!r6) || (p5 != 1)) || (((u1.Ve) != 0) && (decide (r7 ≥ 0)))
 obtain ⟨r8,q20,h21⟩ := bind_some h19
 obtain ⟨r9,q22,h23⟩ := bind_some h21
 refine rg [.pure (.bool r6),.pure (.int .i64 r7),.pure (.bool r8),.pure (.bool r9)] [1,3,4,69] 2 ⟨111,[(1,.ref 0 0),(3,.int .i64 p1),(4,.ref 1 0),(69,.bool ((u3 || (!r8)) || (!r9)))],u2⟩ [] [⟨true,159,[.agg (Xc (u1.Zp))],.pure (.bool r6)⟩,⟨((!((!r6) || (p5 != 1))) && ((u1.Ve) != 0)),66,[.agg u4,.int .u32 (u1.Ve)],.pure (.int .i64 r7)⟩,⟨(!u3),102,[.int .i64 (u1.Xd),.int .i64 1,.int .i64 255],.pure (.bool r8)⟩,⟨(!(u3 || (!r8))),102,[.int .i64 (u1.UK),.int .i64 0,.int .i64 65535],.pure (.bool r9)⟩] ZA ⟨fun _ => UJ (u1.Zp) r6 q16,fun hg => Zbi a0 (u1.Ve) r7 (Xj q18 hg),fun hg => X7 (u1.Xd) 1 255 r8 (Xj q20 hg),fun hg => X7 (u1.UK) 0 65535 r9 (Xj q22 hg),trivial⟩ (Zb (cn h23 (fun _ h25 => ?_) (fun _ h26 => ?_)))
 exact Za (zg [2] 0 (Zb (Zg (Zh (ZC (Zh (rr h25 ⟨rfl,er0 _⟩)))))))
 refine Zd (Zb (UT (fun (p10 : Unit) => ⟨111,[(1,.ref 0 0),(3,.int .i64 p1),(4,.ref 1 0)],u2⟩) (fun p10 => M.Jy a0 p1 p10 = some y2) ?_ ?_))
 intro p10 h28
 unfold M.Jy at h28
 refine Za (zg [1,3,4,7] 2 (Zb (Zi ?_)))
 obtain ⟨y13,q38,h39⟩ := bind_some h28
 refine zl (fun (p11 : Int) => ⟨111,[(1,.ref 0 0),(3,.int .i64 p1),(4,.ref 1 0),(7,.int .i64 p11)],u2⟩) (Sum.elim (fun z => OutE 2 (fun z => ⟨111,[(1,.ref 0 0),(3,.int .i64 p1)],[.box u4]⟩) z) (fun z => OutR Tryz.prog Tryz.f109 (.int .i64 z))) q38 ?_ ?_
 intro p11 y12 h29
 unfold M.Jx at h29
 refine Za (Za (zg [1,3,4,7,88] 2 (Zb (cn h29 (fun _ h31 => ?_) (fun _ h32 => ?_)))))
 refine Zd (Zb (Za (Zi (Za ?_))))
 obtain ⟨c33,h34⟩ := Zz h31
 refine zc [1,3,4,7,110] 2 c33 (Zb (cn h34 (fun _ h36 => ?_) (fun _ h37 => ?_)))
 exact Za (zg [2] 0 (Zb (Zg (ZC (Zh (rr h36 ⟨rfl,er0 _⟩))))))
 exact Zd (XK (Zb (zg [1,3,4,7] 2 (rn h37))))
 exact ZH (Xn (re h32 ⟨rfl,kc⟩))
 intro e40 s41 o42
 rcases y13 with g14 | y15
 have h43 := XG h39
 obtain ⟨rfl,l45⟩ := o42
 exact YP (XK (XJ (s' := ⟨111,[(1,.ref 0 0),(3,.int .i64 p1)],[.box u4]⟩) (l45) (zg [1,3] 1 (rn h43))))
 have h44 := XH h39
 obtain ⟨rfl,n46⟩ := o42
 exact ZC (ZC (Zh (rr h44 ⟨rfl,n46⟩)))
 intro k27
 refine Za (zg [1,3,4,72] 2 (Zb (cn h26 (fun _ h48 => ?_) (fun _ h49 => ?_))))
 refine Za ?_
 obtain ⟨r16,q50,h51⟩ := bind_some h48
 refine zr [1,3,4,6] 2 ZA (rq1 (Zes _ _ _ q50) rqn) (Zb (Za (Za (zg [1,3,4,6,78] 2 (Zb (cn h51 (fun _ h53 => ?_) (fun _ h54 => ?_)))))))
 exact Za (zg [2] 0 (Zb (Zg (Zh (Zh (ZC (Zh (rr h53 ⟨rfl,er0 _⟩))))))))
 refine Zd (Zb (Za ?_))
 obtain ⟨c55,h56⟩ := Zz h54
 refine zc [1,3,4,85] 2 c55 (Zb (cn h56 (fun _ h58 => ?_) (fun _ h59 => ?_)))
 exact Za (zg [2] 0 (Zb (Zg (Zh (ZC (Zh (rr h58 ⟨rfl,er0 _⟩)))))))
 exact Zd (XJ kq (k27 () h59))
 exact Zd (XJ kq (k27 () h49))
 intro k14
 refine Za (zg [1,3,4,5,35] 2 (Zb (cn h13 (fun _ h61 => ?_) (fun _ h62 => ?_))))
 exact zg [1,3,4,5] 2 (XJ lk (k14 (wr .i64 (p4 + 1)) h61))
 exact Zd (XJ kq (k14 p4 h62))
 intro k12
 refine Za (zg [1,3,4,5,31] 2 (Zb (cn h11 (fun _ h64 => ?_) (fun _ h65 => ?_))))
 exact zg [1,3,4,5] 2 (XJ lk (k12 (wr .i64 (p3 + 1)) h64))
 exact Zd (XJ kq (k12 p3 h65))
 intro k10
 refine Za (zg [1,3,4,5,26] 2 (Zb (cn h9 (fun _ h67 => ?_) (fun _ h68 => ?_))))
 exact zg [1,3,4,5] 2 (XJ lk (k10 1 h67))
 exact Zd (XJ kq (k10 0 h68))
 exact ZH (Xn (re h7 ⟨rfl,kc⟩))
 intro e71 s72 o73
 rcases y17 with g18 | y19
 have h74 := XG h70
 exact zi o73 (Za (zg [2] 0 (Zb (Zg (er1 h74)))))
 have h75 := XH h70
 obtain ⟨rfl,n77⟩ := o73
 refine ZC (Zh ?_)
 obtain rfl := Option.some.inj h75
 exact n77
theorem KM (a0 : Zf) (a1 : ByteArray) (r : Int) (h : M.JM a0 a1 = some r) : Fn Tryz.prog 178 [.agg (Zu a0),.str a1] (.pure (.int .i64 r)) := by
 unfold M.JM at h
 refine ZL Tryz.func178 rfl (by kernel_rfl) (Za (zg [1,2] 1 (Zb (Za (Za (zg [1,2,5] 1 (Zb (Zi ?_))))))))
 obtain ⟨y3,q10,h11⟩ := bind_some h
 refine zl (fun (p1 : Int) => ⟨22,[(1,.str a1),(2,.ref 0 0),(5,.int .i64 p1)],[.box (Zu a0)]⟩) (Sum.elim (fun z => OutE 0 (fun z => ⟨22,[],[]⟩) z) (fun z => OutR Tryz.prog Tryz.f178 (.int .i64 z))) q10 ?_ ?_
 intro p1 y2 h1
 unfold M.Vv at h1
 refine Za (Za (zg [1,2,5,10] 1 (Zb (cn h1 (fun _ h3 => ?_) (fun _ h4 => ?_)))))
 refine Zd (Zb (Za (Zi (Za ?_))))
 obtain ⟨c5,h6⟩ := Zz h3
 refine zc [1,2,5,20] 1 c5 (Zb (cn h6 (fun _ h8 => ?_) (fun _ h9 => ?_)))
 exact Za (zg [4] 0 (Zb (Zg (ZC (Zh (rr h8 ⟨rfl,er0 _⟩))))))
 exact Zd (XK (Zb (zg [1,2,5] 1 (rn h9))))
 exact ZH (Xn (re h4 ⟨rfl,kc⟩))
 intro e12 s13 o14
 rcases y3 with g4 | y5
 have h15 := XG h11
 exact zi o14 (Za (zg [4] 0 (Zb (Zg (er1 h15)))))
 have h16 := XH h11
 obtain ⟨rfl,n18⟩ := o14
 refine ZC (Zh ?_)
 obtain rfl := Option.some.inj h16
 exact n18
theorem U3 (a0 : Zf) (a1 : List Yi) (a2 : Int) (a3 : Int) (a4 : Int) (r : Int) (h : M.Yf a0 a1 a2 a3 a4 = some r) : Fn Tryz.prog 161 [.agg (Zu a0),sL 5 Zx a1,.int .i64 a2,.int .i64 a3,.int .i64 a4] (.pure (.int .i64 r)) := by
 let u1 : Nat × D := (1,sL 5 Zx a1)
 let u2 := Zu a0
 unfold M.Yf at h
 refine ZL Tryz.func161 rfl (by kernel_rfl) (Za (zg [1,2,3,4,5] 1 (Zb (Za (Za (zg [1,2,3,4,5,16] 1 (Zb (cn h (fun _ h2 => ?_) (fun _ h3 => ?_)))))))))
 exact Za (zg [10] 0 (Zb (Zg (Zh (er1 h2)))))
 refine Zd (Zb (Za (Za (zg [1,2,3,4,5,11] 1 (Zb (Zi ?_))))))
 obtain ⟨y12,q45,h46⟩ := bind_some h3
 refine zl (fun (p1 : Int) => ⟨95,[u1,(2,.int .i64 a2),(3,.int .i64 a3),(4,.int .i64 a4),(5,.ref 0 0),(11,.int .i64 p1)],[.box u2]⟩) (Sum.elim (fun z => OutE 0 (fun z => ⟨95,[],[]⟩) z) (fun z => OutR Tryz.prog Tryz.f161 (.int .i64 z))) q45 ?_ ?_
 intro p1 y2 h4
 unfold M.YC at h4
 refine Za (Za (zg [1,2,3,4,5,11,20] 1 (Zb (cn h4 (fun _ h6 => ?_) (fun _ h7 => ?_)))))
 refine Zd (Zb (Za (Zi (Za ?_))))
 obtain ⟨c8,h9⟩ := Zz h6
 refine zc [1,2,3,4,5,11,12] 2 c8 (Zb (Za (Za ?_)))
 obtain ⟨r3,q10,h11⟩ := bind_some h9
 obtain ⟨r4,q12,h13⟩ := bind_some h11
 obtain ⟨r5,q14,h15⟩ := bind_some h13
 refine zr [1,2,3,4,5,11,12,50] 2 ZA (rq1 (X7 _ _ _ _ q10) (rq2 (fun hg => X7 _ _ _ _ (Xj q12 hg)) (rq2 (fun hg => X7 _ _ _ _ (Xj q14 hg)) rqn))) (Zb (cn h15 (fun _ h17 => ?_) (fun _ h18 => ?_)))
 exact Za (zg [10] 0 (Zb (Zg (Zh (ZC (Zh (rr h17 ⟨rfl,er0 _⟩)))))))
 refine Zd (Zb (Za (Za (zg [1,2,3,4,5,11,12,71] 2 (Zb (cn h18 (fun _ h20 => ?_) (fun _ h21 => ?_)))))))
 exact Za (zg [10] 0 (Zb (Zg (Zh (ZC (Zh (rr h20 ⟨rfl,er0 _⟩)))))))
 refine Zd (Zb (Za (Za ?_)))
 obtain ⟨r6,q22,h23⟩ := bind_some h21
 refine zr [1,2,3,4,5,11,12,81] 2 ZA (rq2 (fun hg => KM _ _ _ (Xj q22 hg)) rqn) (Zb (cn h23 (fun _ h25 => ?_) (fun _ h26 => ?_)))
 exact Za (zg [10] 0 (Zb (Zg (Zh (ZC (Zh (rr h25 ⟨rfl,er0 _⟩)))))))
 refine Zd (Zb (Za (zg [1,2,3,4,5,11,12,13] 2 (Zb (Zi ?_)))))
 obtain ⟨y9,q36,h37⟩ := bind_some h26
 refine zl (fun (p7 : Int) => ⟨95,[u1,(2,.int .i64 a2),(3,.int .i64 a3),(4,.int .i64 a4),(5,.ref 0 0),(11,.int .i64 p1),(12,.ref 1 0),(13,.int .i64 p7)],[.box u2,.box (Zx (a1.getD p1.toNat default))]⟩) (Sum.elim (fun z => OutE 2 (fun z => ⟨95,[u1,(2,.int .i64 a2),(3,.int .i64 a3),(4,.int .i64 a4),(5,.ref 0 0),(11,.int .i64 p1)],[.box u2]⟩) z) (fun z => OutR Tryz.prog Tryz.f161 (.int .i64 z))) q36 ?_ ?_
 intro p7 y8 h27
 unfold M.Yo at h27
 refine Za (Za (zg [1,2,3,4,5,11,12,13,84] 2 (Zb (cn h27 (fun _ h29 => ?_) (fun _ h30 => ?_)))))
 refine Zd (Zb (Za (Zi (Za ?_))))
 obtain ⟨c31,h32⟩ := Zz h29
 refine zc [1,2,3,4,5,11,12,13,94] 2 c31 (Zb (cn h32 (fun _ h34 => ?_) (fun _ h35 => ?_)))
 exact Za (zg [10] 0 (Zb (Zg (ZC (Zh (rr h34 ⟨rfl,er0 _⟩))))))
 exact Zd (XK (Zb (zg [1,2,3,4,5,11,12,13] 2 (rn h35))))
 exact ZH (Xn (re h30 ⟨rfl,kc⟩))
 intro e38 s39 o40
 rcases y9 with g10 | y11
 have h41 := XG h37
 obtain ⟨rfl,l43⟩ := o40
 exact YP (XK (XJ (s' := ⟨95,[u1,(2,.int .i64 a2),(3,.int .i64 a3),(4,.int .i64 a4),(5,.ref 0 0),(11,.int .i64 p1)],[.box u2]⟩) (l43) (zg [1,2,3,4,5,11] 1 (rn h41))))
 have h42 := XH h37
 obtain ⟨rfl,n44⟩ := o40
 exact ZC (ZC (Zh (rr h42 ⟨rfl,n44⟩)))
 exact ZH (Xn (re h7 ⟨rfl,kc⟩))
 intro e47 s48 o49
 rcases y12 with g13 | y14
 have h50 := XG h46
 exact zi o49 (Za (zg [10] 0 (Zb (Zg (er1 h50)))))
 have h51 := XH h46
 obtain ⟨rfl,n53⟩ := o49
 refine ZC (Zh ?_)
 obtain rfl := Option.some.inj h51
 exact n53
theorem Zet (a0 : Zf) (r : Int) (h : M.J4 a0 = some r) : Fn Tryz.prog 110 [.agg (Zu a0)] (.pure (.int .i64 r)) := by
 let u1 : List Ob := [.box (Zu a0),.box (Rf a0.X0)]
 unfold M.J4 at h
 refine ZL Tryz.func110 rfl (by kernel_rfl) (Za (zg [1] 1 (Zb (Za (zg [1,3] 2 (Zb (Za (Za (zg [1,3,10] 2 (Zb (cn h (fun _ h2 => ?_) (fun _ h3 => ?_))))))))))))
 refine Za (Za (zg [25] 0 (Zb (cn h2 (fun _ h5 => ?_) (fun _ h6 => ?_)))))
 exact Za (zg [2] 0 (Zb (Zg (Zh (Zh (er1 h5))))))
 exact Zd (Zb (Za (zg [2] 0 (Zb (Zg (Zh (er1 h6)))))))
 refine Zd (Zb (Za (Za ?_)))
 obtain ⟨r1,q7,h8⟩ := bind_some h3
 refine zr [1,3,29] 2 ZA (rq1 (X7 _ _ _ _ q7) rqn) (Zb (cn h8 (fun _ h10 => ?_) (fun _ h11 => ?_)))
 exact Za (zg [2] 0 (Zb (Zg (Zh (er1 h10)))))
 refine Zd (Zb (Za (Za (zg [1,3,33] 2 (Zb (cn h11 (fun _ h13 => ?_) (fun _ h14 => ?_)))))))
 exact Za (zg [2] 0 (Zb (Zg (Zh (er1 h13)))))
 refine Zd (Zb (Za (Za (zg [1,3,4] 2 (Zb (Zi ?_))))))
 obtain ⟨y12,q48,h49⟩ := bind_some h14
 refine zl (fun (p2 : Int) => ⟨96,[(1,.ref 0 0),(3,.ref 1 0),(4,.int .i64 p2)],u1⟩) (Sum.elim (fun z => OutE 0 (fun z => ⟨96,[(1,.ref 0 0),(3,.ref 1 0)],u1⟩) z) (fun z => OutR Tryz.prog Tryz.f110 (.int .i64 z))) q48 ?_ ?_
 intro p2 y3 h15
 unfold M.Jg at h15
 refine Za (Za (zg [1,3,4,38] 2 (Zb (cn h15 (fun _ h17 => ?_) (fun _ h18 => ?_)))))
 refine Zd (Zb (Za (Zi (Za (Za ?_)))))
 obtain ⟨r4,q19,h20⟩ := bind_some h17
 obtain ⟨r5,q21,h22⟩ := bind_some h20
 obtain ⟨c23,h24⟩ := Zz h22
 refine zr [1,3,4,58] 2 c23 (rq1 (X7 _ _ _ _ q19) (rq2 (fun hg => UJ _ _ (Xj q21 hg)) rqn)) (Zb (cn h24 (fun _ h26 => ?_) (fun _ h27 => ?_)))
 exact Za (zg [2] 0 (Zb (Zg (Zh (ZC (Zh (rr h26 ⟨rfl,er0 _⟩)))))))
 refine Zd (Zb (Za (zg [1,3,4,5] 2 (Zb (Zi ?_)))))
 obtain ⟨y9,q39,h40⟩ := bind_some h27
 refine zl (fun (p6 : Int) => ⟨96,[(1,.ref 0 0),(3,.ref 1 0),(4,.int .i64 p2),(5,.int .i64 p6)],u1⟩) (Sum.elim (fun z => OutE 2 (fun z => ⟨96,[(1,.ref 0 0),(3,.ref 1 0),(4,.int .i64 p2)],u1⟩) z) (fun z => OutR Tryz.prog Tryz.f110 (.int .i64 z))) q39 ?_ ?_
 intro p6 y7 h28
 unfold M.Jf at h28
 refine Za (Za (zg [1,3,4,5,61] 2 (Zb (cn h28 (fun _ h30 => ?_) (fun _ h31 => ?_)))))
 refine Zd (Zb (Za (Zi (Za ?_))))
 obtain ⟨r8,q32,h33⟩ := bind_some h30
 obtain ⟨c34,h35⟩ := Zz h33
 refine zr [1,3,4,5,91] 2 c34 (rq2 (fun hg => Zax _ _ _ (Xj q32 hg)) rqn) (Zb (cn h35 (fun _ h37 => ?_) (fun _ h38 => ?_)))
 exact Za (zg [2] 0 (Zb (Zg (ZC (Zh (rr h37 ⟨rfl,er0 _⟩))))))
 exact Zd (XK (Zb (zg [1,3,4,5] 2 (rn h38))))
 exact ZH (Xn (re h31 ⟨rfl,kq⟩))
 intro e41 s42 o43
 rcases y9 with g10 | y11
 have h44 := XG h40
 obtain ⟨rfl,l46⟩ := o43
 exact YP (XK (XJ (s' := ⟨96,[(1,.ref 0 0),(3,.ref 1 0),(4,.int .i64 p2)],u1⟩) (l46) (zg [1,3,4] 2 (rn h44))))
 have h45 := XH h40
 obtain ⟨rfl,n47⟩ := o43
 exact ZC (ZC (Zh (rr h45 ⟨rfl,n47⟩)))
 exact ZH (Xn (re h18 ⟨rfl,kq⟩))
 intro e50 s51 o52
 rcases y12 with g13 | y14
 have h53 := XG h49
 refine zi o52 (Za ?_)
 obtain ⟨r15,q56,h57⟩ := bind_some h53
 exact zr [2] 0 ZA (rq1 (U3 _ _ _ _ _ _ q56) rqn) (Zb (Zg (er1 h57)))
 have h54 := XH h49
 obtain ⟨rfl,n58⟩ := o52
 refine ZC (Zh ?_)
 obtain rfl := Option.some.inj h54
 exact n58
theorem Ze3 (a0 : Zf) (r : Int) (h : M.Vp a0 = some r) : Fn Tryz.prog 111 [.agg (Zu a0)] (.pure (.int .i64 r)) := by
 unfold M.Vp at h
 refine ZL Tryz.func111 rfl (by kernel_rfl) (Za (zg [1] 1 (Zb (Za (zg [1,3] 2 (Zb (Za (Za (zg [1,3,8] 2 (Zb (cn h (fun _ h2 => ?_) (fun _ h3 => ?_))))))))))))
 refine Za (Za (zg [27] 0 (Zb (cn h2 (fun _ h5 => ?_) (fun _ h6 => ?_)))))
 exact Za (zg [2] 0 (Zb (Zg (Zh (Zh (er1 h5))))))
 exact Zd (Zb (Za (zg [2] 0 (Zb (Zg (Zh (er1 h6)))))))
 refine Zd (Zb (Za (Za ?_)))
 obtain ⟨r1,q7,h8⟩ := bind_some h3
 refine zr [1,3,31] 2 ZA (rq1 (X7 _ _ _ _ q7) rqn) (Zb (cn h8 (fun _ h10 => ?_) (fun _ h11 => ?_)))
 exact Za (zg [2] 0 (Zb (Zg (Zh (er1 h10)))))
 refine Zd (Zb (Za (Za ?_)))
 obtain ⟨r2,q12,h13⟩ := bind_some h11
 obtain ⟨r3,q14,h15⟩ := bind_some h13
 refine zr [1,3,53] 2 ZA (rq2 (fun hg => G9 _ _ _ (Xj q12 hg)) (rq2 (fun hg => G9 _ _ _ (Xj q14 hg)) rqn)) (Zb (cn h15 (fun _ h17 => ?_) (fun _ h18 => ?_)))
 exact Za (zg [2] 0 (Zb (Zg (Zh (er1 h17)))))
 refine Zd (Zb (Za ?_))
 obtain ⟨r4,q19,h20⟩ := bind_some h18
 exact zr [2] 0 ZA (rq1 (U3 _ _ _ _ _ _ q19) rqn) (Zb (Zg (er1 h20)))
theorem Zeu (a0 : Zf) (r : Int) (h : M.Vj a0 = some r) : Fn Tryz.prog 162 [.agg (Zu a0)] (.pure (.int .i64 r)) := by
 let u1 : Nat × D := (3,sL 4 Xu a0.ZW.Zk)
 let u2 : List Ob := [.box (Zu a0)]
 unfold M.Vj at h
 refine ZL Tryz.func162 rfl (by kernel_rfl) (Za (zg [1] 1 (Zb (Za (zg [1,3] 1 (Zb (Za (Za (zg [1,3,11] 1 (Zb (cn h (fun _ h2 => ?_) (fun _ h3 => ?_))))))))))))
 exact Za (zg [2] 0 (Zb (Zg (Zh (er1 h2)))))
 refine Zd (Zb (Za (Za (zg [1,3,4] 1 (Zb (Zi ?_))))))
 obtain ⟨y11,q42,h43⟩ := bind_some h3
 refine zl (fun (p1 : Int) => ⟨83,[(1,.ref 0 0),u1,(4,.int .i64 p1)],u2⟩) (Sum.elim (fun z => OutE 0 (fun z => ⟨83,[],[]⟩) z) (fun z => OutR Tryz.prog Tryz.f162 (.int .i64 z))) q42 ?_ ?_
 intro p1 y2 h4
 unfold M.Ji at h4
 refine Za (Za (zg [1,3,4,15] 1 (Zb (cn h4 (fun _ h6 => ?_) (fun _ h7 => ?_)))))
 refine Zd (Zb (Za (Zi (Za (Za ?_)))))
 obtain ⟨r3,q8,h9⟩ := bind_some h6
 obtain ⟨c10,h11⟩ := Zz h9
 refine zr [1,3,4,32] 1 c10 (rq2 (fun hg => X7 _ _ _ _ (Xj q8 hg)) rqn) (Zb (cn h11 (fun _ h13 => ?_) (fun _ h14 => ?_)))
 exact Za (zg [2] 0 (Zb (Zg (Zh (ZC (Zh (rr h13 ⟨rfl,er0 _⟩)))))))
 refine Zd (Zb (Za (Za ?_)))
 obtain ⟨r4,q15,h16⟩ := bind_some h14
 obtain ⟨r5,q17,h18⟩ := bind_some h16
 obtain ⟨c19,h20⟩ := Zz h18
 refine zr [1,3,4,66] 1 c19 (rq2 (fun hg => KM _ _ _ (Xj q15 hg)) (rq2 (fun hg => KM _ _ _ (Xj q17 hg)) rqn)) (Zb (cn h20 (fun _ h22 => ?_) (fun _ h23 => ?_)))
 exact Za (zg [2] 0 (Zb (Zg (Zh (ZC (Zh (rr h22 ⟨rfl,er0 _⟩)))))))
 refine Zd (Zb (Za (zg [1,3,4,5] 1 (Zb (Zi ?_)))))
 obtain ⟨y8,q33,h34⟩ := bind_some h23
 refine zl (fun (p6 : Int) => ⟨83,[(1,.ref 0 0),u1,(4,.int .i64 p1),(5,.int .i64 p6)],u2⟩) (Sum.elim (fun z => OutE 2 (fun z => ⟨83,[(1,.ref 0 0),u1,(4,.int .i64 p1)],u2⟩) z) (fun z => OutR Tryz.prog Tryz.f162 (.int .i64 z))) q33 ?_ ?_
 intro p6 y7 h24
 unfold M.Jh at h24
 refine Za (Za (zg [1,3,4,5,69] 1 (Zb (cn h24 (fun _ h26 => ?_) (fun _ h27 => ?_)))))
 refine Zd (Zb (Za (Zi (Za ?_))))
 obtain ⟨c28,h29⟩ := Zz h26
 refine zc [1,3,4,5,82] 1 c28 (Zb (cn h29 (fun _ h31 => ?_) (fun _ h32 => ?_)))
 exact Za (zg [2] 0 (Zb (Zg (ZC (Zh (rr h31 ⟨rfl,er0 _⟩))))))
 exact Zd (XK (Zb (zg [1,3,4,5] 1 (rn h32))))
 exact ZH (Xn (re h27 ⟨rfl,kq⟩))
 intro e35 s36 o37
 rcases y8 with g9 | y10
 have h38 := XG h34
 obtain ⟨rfl,l40⟩ := o37
 exact YP (XK (XJ (s' := ⟨83,[(1,.ref 0 0),u1,(4,.int .i64 p1)],u2⟩) (l40) (zg [1,3,4] 1 (rn h38))))
 have h39 := XH h34
 obtain ⟨rfl,n41⟩ := o37
 exact ZC (ZC (Zh (rr h39 ⟨rfl,n41⟩)))
 exact ZH (Xn (re h7 ⟨rfl,kc⟩))
 intro e44 s45 o46
 rcases y11 with g12 | y13
 have h47 := XG h43
 exact zi o46 (Za (zg [2] 0 (Zb (Zg (er1 h47)))))
 have h48 := XH h43
 obtain ⟨rfl,n50⟩ := o46
 refine ZC (Zh ?_)
 obtain rfl := Option.some.inj h48
 exact n50
theorem Zce (a0 : Xg) (r : Int) (h : M.Jj a0 = some r) : Fn Tryz.prog 163 [.agg (W4 a0)] (.pure (.int .i64 r)) := by
 let u1 : List Ob := [.box (W4 a0)]
 let u2 : St := ⟨126,[(1,.ref 0 0)],u1⟩
 unfold M.Jj at h
 refine ZL Tryz.func163 rfl (by kernel_rfl) (Za (zg [1] 1 (Zb (Za (Za (zg [1,13] 1 (Zb (cn h (fun _ h2 => ?_) (fun _ h3 => ?_)))))))))
 exact Za (zg [2] 0 (Zb (Zg (Zh (er1 h2)))))
 refine Zd (Zb (Za (Za (zg [1,3] 1 (Zb (Zi ?_))))))
 obtain ⟨y9,q33,h34⟩ := bind_some h3
 refine zl (fun (p1 : Int) => ⟨126,[(1,.ref 0 0),(3,.int .i64 p1)],u1⟩) (Sum.elim (fun z => OutE 0 (fun z => u2) z) (fun z => OutR Tryz.prog Tryz.f163 (.int .i64 z))) q33 ?_ ?_
 intro p1 y2 h4
 unfold M.Qd at h4
 refine Za (Za (zg [1,3,18] 1 (Zb (cn h4 (fun _ h6 => ?_) (fun _ h7 => ?_)))))
 refine Zd (Zb (Za (Zi (Za (Za ?_)))))
 obtain ⟨r3,q8,h9⟩ := bind_some h6
 obtain ⟨c10,h11⟩ := Zz h9
 refine zr [1,3,27] 1 c10 (rq1 (UJ _ _ q8) rqn) (Zb (cn h11 (fun _ h13 => ?_) (fun _ h14 => ?_)))
 exact Za (zg [2] 0 (Zb (Zg (Zh (ZC (Zh (rr h13 ⟨rfl,er0 _⟩)))))))
 refine Zd (Zb (Za (zg [1,3,4] 1 (Zb (Zi ?_)))))
 obtain ⟨y6,q24,h25⟩ := bind_some h14
 refine zl (fun (p4 : Int) => ⟨126,[(1,.ref 0 0),(3,.int .i64 p1),(4,.int .i64 p4)],u1⟩) (Sum.elim (fun z => OutE 2 (fun z => ⟨126,[(1,.ref 0 0),(3,.int .i64 p1)],u1⟩) z) (fun z => OutR Tryz.prog Tryz.f163 (.int .i64 z))) q24 ?_ ?_
 intro p4 y5 h15
 unfold M.QC at h15
 refine Za (Za (zg [1,3,4,30] 1 (Zb (cn h15 (fun _ h17 => ?_) (fun _ h18 => ?_)))))
 refine Zd (Zb (Za (Zi (Za ?_))))
 obtain ⟨c19,h20⟩ := Zz h17
 refine zc [1,3,4,43] 1 c19 (Zb (cn h20 (fun _ h22 => ?_) (fun _ h23 => ?_)))
 exact Za (zg [2] 0 (Zb (Zg (ZC (Zh (rr h22 ⟨rfl,er0 _⟩))))))
 exact Zd (XK (Zb (zg [1,3,4] 1 (rn h23))))
 exact ZH (Xn (re h18 ⟨rfl,kq⟩))
 intro e26 s27 o28
 rcases y6 with g7 | y8
 have h29 := XG h25
 obtain ⟨rfl,l31⟩ := o28
 exact YP (XK (XJ (s' := ⟨126,[(1,.ref 0 0),(3,.int .i64 p1)],u1⟩) (l31) (zg [1,3] 1 (rn h29))))
 have h30 := XH h25
 obtain ⟨rfl,n32⟩ := o28
 exact ZC (ZC (Zh (rr h30 ⟨rfl,n32⟩)))
 exact ZH (Xn (re h7 ⟨rfl,kq⟩))
 intro e35 s36 o37
 rcases y9 with g10 | y11
 have h38 := XG h34
 refine zi o37 (Za (Za (zg [1,47] 1 (Zb (cn h38 (fun _ h42 => ?_) (fun _ h43 => ?_))))))
 exact Za (zg [2] 0 (Zb (Zg (Zh (er1 h42)))))
 refine Zd (Zb (Za (Za (zg [1,5] 1 (Zb (Zi ?_))))))
 obtain ⟨y20,q73,h74⟩ := bind_some h43
 refine zl (fun (p12 : Int) => ⟨126,[(1,.ref 0 0),(5,.int .i64 p12)],u1⟩) (Sum.elim (fun z => OutE 4 (fun z => u2) z) (fun z => OutR Tryz.prog Tryz.f163 (.int .i64 z))) q73 ?_ ?_
 intro p12 y13 h44
 unfold M.Qf at h44
 refine Za (Za (zg [1,5,52] 1 (Zb (cn h44 (fun _ h46 => ?_) (fun _ h47 => ?_)))))
 refine Zd (Zb (Za (Zi (Za (Za ?_)))))
 obtain ⟨r14,q48,h49⟩ := bind_some h46
 obtain ⟨c50,h51⟩ := Zz h49
 refine zr [1,5,62] 1 c50 (rq1 (UJ _ _ q48) rqn) (Zb (cn h51 (fun _ h53 => ?_) (fun _ h54 => ?_)))
 exact Za (zg [2] 0 (Zb (Zg (Zh (ZC (Zh (rr h53 ⟨rfl,er0 _⟩)))))))
 refine Zd (Zb (Za (zg [1,5,6] 1 (Zb (Zi ?_)))))
 obtain ⟨y17,q64,h65⟩ := bind_some h54
 refine zl (fun (p15 : Int) => ⟨126,[(1,.ref 0 0),(5,.int .i64 p12),(6,.int .i64 p15)],u1⟩) (Sum.elim (fun z => OutE 6 (fun z => ⟨126,[(1,.ref 0 0),(5,.int .i64 p12)],u1⟩) z) (fun z => OutR Tryz.prog Tryz.f163 (.int .i64 z))) q64 ?_ ?_
 intro p15 y16 h55
 unfold M.Qe at h55
 refine Za (Za (zg [1,5,6,65] 1 (Zb (cn h55 (fun _ h57 => ?_) (fun _ h58 => ?_)))))
 refine Zd (Zb (Za (Zi (Za ?_))))
 obtain ⟨c59,h60⟩ := Zz h57
 refine zc [1,5,6,80] 1 c59 (Zb (cn h60 (fun _ h62 => ?_) (fun _ h63 => ?_)))
 exact Za (zg [2] 0 (Zb (Zg (ZC (Zh (rr h62 ⟨rfl,er0 _⟩))))))
 exact Zd (XK (Zb (zg [1,5,6] 1 (rn h63))))
 exact ZH (Xn (re h58 ⟨rfl,kq⟩))
 intro e66 s67 o68
 rcases y17 with g18 | y19
 have h69 := XG h65
 obtain ⟨rfl,l71⟩ := o68
 exact YP (XK (XJ (s' := ⟨126,[(1,.ref 0 0),(5,.int .i64 p12)],u1⟩) (l71) (zg [1,5] 1 (rn h69))))
 have h70 := XH h65
 obtain ⟨rfl,n72⟩ := o68
 exact ZC (ZC (Zh (rr h70 ⟨rfl,n72⟩)))
 exact ZH (Xn (re h47 ⟨rfl,kq⟩))
 intro e75 s76 o77
 rcases y20 with g21 | y22
 have h78 := XG h74
 refine zi o77 (Za (Za (zg [1,84] 1 (Zb (cn h78 (fun _ h82 => ?_) (fun _ h83 => ?_))))))
 exact Za (zg [2] 0 (Zb (Zg (Zh (er1 h82)))))
 refine Zd (Zb (Za (Za (zg [1,7] 1 (Zb (Zi ?_))))))
 obtain ⟨y32,q118,h119⟩ := bind_some h83
 refine zl (fun (p23 : Int) => ⟨126,[(1,.ref 0 0),(7,.int .i64 p23)],u1⟩) (Sum.elim (fun z => OutE 8 (fun z => ⟨126,[],[]⟩) z) (fun z => OutR Tryz.prog Tryz.f163 (.int .i64 z))) q118 ?_ ?_
 intro p23 y24 h84
 unfold M.Qh at h84
 refine Za (Za (zg [1,7,89] 1 (Zb (cn h84 (fun _ h86 => ?_) (fun _ h87 => ?_)))))
 refine Zd (Zb (Za (Zi (Za ?_))))
 obtain ⟨c88,h89⟩ := Zz h86
 refine zc [1,7,8] 2 c88 (Zb (Za (Za ?_)))
 obtain ⟨r25,q90,h91⟩ := bind_some h89
 obtain ⟨r26,q92,h93⟩ := bind_some h91
 refine zr [1,7,8,106] 2 ZA (rq1 (UJ _ _ q90) (rq2 (fun hg => UJ _ _ (Xj q92 hg)) rqn)) (Zb (cn h93 (fun _ h95 => ?_) (fun _ h96 => ?_)))
 exact Za (zg [2] 0 (Zb (Zg (Zh (ZC (Zh (rr h95 ⟨rfl,er0 _⟩)))))))
 refine Zd (Zb (Za (Za (zg [1,7,8,111] 2 (Zb (cn h96 (fun _ h98 => ?_) (fun _ h99 => ?_)))))))
 exact Za (zg [2] 0 (Zb (Zg (Zh (ZC (Zh (rr h98 ⟨rfl,er0 _⟩)))))))
 refine Zd (Zb (Za (zg [1,7,8,9] 2 (Zb (Zi ?_)))))
 obtain ⟨y29,q109,h110⟩ := bind_some h99
 refine zl (fun (p27 : Int) => ⟨126,[(1,.ref 0 0),(7,.int .i64 p23),(8,.ref 1 0),(9,.int .i64 p27)],[.box (W4 a0),.box (Xk (a0.Zm.getD p23.toNat default))]⟩) (Sum.elim (fun z => OutE 10 (fun z => ⟨126,[(1,.ref 0 0),(7,.int .i64 p23)],u1⟩) z) (fun z => OutR Tryz.prog Tryz.f163 (.int .i64 z))) q109 ?_ ?_
 intro p27 y28 h100
 unfold M.Qg at h100
 refine Za (Za (zg [1,7,8,9,114] 2 (Zb (cn h100 (fun _ h102 => ?_) (fun _ h103 => ?_)))))
 refine Zd (Zb (Za (Zi (Za ?_))))
 obtain ⟨c104,h105⟩ := Zz h102
 refine zc [1,7,8,9,125] 2 c104 (Zb (cn h105 (fun _ h107 => ?_) (fun _ h108 => ?_)))
 exact Za (zg [2] 0 (Zb (Zg (ZC (Zh (rr h107 ⟨rfl,er0 _⟩))))))
 exact Zd (XK (Zb (zg [1,7,8,9] 2 (rn h108))))
 exact ZH (Xn (re h103 ⟨rfl,kc⟩))
 intro e111 s112 o113
 rcases y29 with g30 | y31
 have h114 := XG h110
 obtain ⟨rfl,l116⟩ := o113
 exact YP (XK (XJ (s' := ⟨126,[(1,.ref 0 0),(7,.int .i64 p23)],u1⟩) (l116) (zg [1,7] 1 (rn h114))))
 have h115 := XH h110
 obtain ⟨rfl,n117⟩ := o113
 exact ZC (ZC (Zh (rr h115 ⟨rfl,n117⟩)))
 exact ZH (Xn (re h87 ⟨rfl,kc⟩))
 intro e120 s121 o122
 rcases y32 with g33 | y34
 have h123 := XG h119
 exact zi o122 (Za (zg [2] 0 (Zb (Zg (er1 h123)))))
 have h124 := XH h119
 obtain ⟨rfl,n126⟩ := o122
 refine ZC (Zh ?_)
 obtain rfl := Option.some.inj h124
 exact n126
 have h79 := XH h74
 obtain ⟨rfl,n127⟩ := o77
 refine ZC (Zh ?_)
 obtain rfl := Option.some.inj h79
 exact n127
 have h39 := XH h34
 obtain ⟨rfl,n128⟩ := o37
 refine ZC (Zh ?_)
 obtain rfl := Option.some.inj h39
 exact n128
theorem ZdK (a0 : Zf) (r : Int) (h : M.JC a0 = some r) : Fn Tryz.prog 112 [.agg (Zu a0)] (.pure (.int .i64 r)) := by
 unfold M.JC at h
 refine ZL Tryz.func112 rfl (by kernel_rfl) (Za (zg [1] 1 (Zb (Za (zg [1,3] 2 (Zb (Za (Za (zg [1,3,10] 2 (Zb (cn h (fun _ h2 => ?_) (fun _ h3 => ?_))))))))))))
 refine Za (Za (zg [40] 0 (Zb (cn h2 (fun _ h5 => ?_) (fun _ h6 => ?_)))))
 exact Za (zg [2] 0 (Zb (Zg (Zh (Zh (er1 h5))))))
 exact Zd (Zb (Za (zg [2] 0 (Zb (Zg (Zh (er1 h6)))))))
 refine Zd (Zb (Za (Za ?_)))
 obtain ⟨r1,q7,h8⟩ := bind_some h3
 obtain ⟨r2,q9,h10⟩ := bind_some h8
 refine zr [1,3,55] 2 ZA (rq2 (fun hg => X7 _ _ _ _ (Xj q7 hg)) (rq2 (fun hg => X7 _ _ _ _ (Xj q9 hg)) rqn)) (Zb (cn h10 (fun _ h12 => ?_) (fun _ h13 => ?_)))
 exact Za (zg [2] 0 (Zb (Zg (Zh (er1 h12)))))
 refine Zd (Zb (Za (Za ?_)))
 obtain ⟨r3,q14,h15⟩ := bind_some h13
 refine zr [1,3,4] 2 ZA (rq1 (Zeu _ _ q14) rqn) (Zb (Za (zg [1,3,4,59] 2 (Zb (cn h15 (fun _ h17 => ?_) (fun _ h18 => ?_))))))
 exact Za (zg [2] 0 (Zb (Zg (Zh (er1 h17)))))
 refine Zd (Zb (Za (Za ?_)))
 obtain ⟨r4,q19,h20⟩ := bind_some h18
 refine zr [1,3,5] 2 ZA (rq1 (Zce _ _ q19) rqn) (Zb (Za (zg [1,3,5,64] 2 (Zb (cn h20 (fun _ h22 => ?_) (fun _ h23 => ?_))))))
 exact Za (zg [2] 0 (Zb (Zg (Zh (er1 h22)))))
 refine Zd (Zb (Za ?_))
 obtain ⟨r5,q24,h25⟩ := bind_some h23
 exact zr [2] 0 ZA (rq1 (U3 _ _ _ _ _ _ q24) rqn) (Zb (Zg (er1 h25)))
theorem ZcX (a0 : Zf) (r : Int) (h : M.Q5 a0 = some r) : Fn Tryz.prog 65 [.agg (Zu a0)] (.pure (.int .i64 r)) := by
 unfold M.Q5 at h
 refine ZL Tryz.func65 rfl (by kernel_rfl) (Za (zg [1] 1 (Zb (Za (Za ?_)))))
 obtain ⟨r1,q1,h2⟩ := bind_some h
 refine zr [1,8] 1 ZA (rq1 (KD _ _ q1) rqn) (Zb (cn h2 (fun _ h4 => ?_) (fun _ h5 => ?_)))
 exact Za (zg [2] 0 (Zb (Zg (Zh (er1 h4)))))
 refine Zd (Zb (Za (Za ?_)))
 obtain ⟨r2,q6,h7⟩ := bind_some h5
 refine zr [1,12] 1 ZA (rq1 (X7 _ _ _ _ q6) rqn) (Zb (cn h7 (fun _ h9 => ?_) (fun _ h10 => ?_)))
 exact Za (zg [2] 0 (Zb (Zg (Zh (er1 h9)))))
 refine Zd (Zb (Za ?_))
 obtain ⟨r3,q11,h12⟩ := bind_some h10
 obtain ⟨r4,q13,h14⟩ := bind_some h12
 obtain ⟨r5,q15,h16⟩ := bind_some h14
 obtain ⟨r6,q17,h18⟩ := bind_some h16
 obtain ⟨r7,q19,h20⟩ := bind_some h18
 obtain ⟨r8,q21,h22⟩ := bind_some h20
 obtain ⟨r9,q23,h24⟩ := bind_some h22
 obtain ⟨r10,q25,h26⟩ := bind_some h24
 obtain ⟨r11,q27,h28⟩ := bind_some h26
 obtain ⟨r12,q29,h30⟩ := bind_some h28
 refine rg [.pure (.int .i64 r3),.pure (.int .i64 r4),.pure (.int .i64 r5),.pure (.int .i64 r6),.pure (.int .i64 r7),.pure (.int .i64 r8),.pure (.int .i64 r9),.pure (.int .i64 r10),.pure (.int .i64 r11),.pure (.int .i64 r12)] [3] 0 ⟨52,[(3,.sl true 1 10 (fun i => List.take 1 (List.drop (i * 1) [.int .i64 r3,.int .i64 r4,.int .i64 r5,.int .i64 r6,.int .i64 r7,.int .i64 r8,.int .i64 r9,.int .i64 r10,.int .i64 r11,.int .i64 r12])))],[]⟩ [] [⟨true,103,[sL 12 Zn a0.Zc],.pure (.int .i64 r3)⟩,⟨true,104,[sL 2 Zv a0.Z1],.pure (.int .i64 r4)⟩,⟨true,105,[.agg (Zu a0)],.pure (.int .i64 r5)⟩,⟨true,106,[sL 2 Yq a0.Xh],.pure (.int .i64 r6)⟩,⟨true,107,[.agg (Zu a0)],.pure (.int .i64 r7)⟩,⟨true,108,[.agg (Zu a0)],.pure (.int .i64 r8)⟩,⟨true,109,[.agg (Zu a0)],.pure (.int .i64 r9)⟩,⟨true,110,[.agg (Zu a0)],.pure (.int .i64 r10)⟩,⟨true,111,[.agg (Zu a0)],.pure (.int .i64 r11)⟩,⟨true,112,[.agg (Zu a0)],.pure (.int .i64 r12)⟩] ZA ⟨fun _ => ZdJ a0.Zc r3 q11,fun _ => ZcV a0.Z1 r4 q13,fun _ => Zeq a0 r5 q15,fun _ => ZcW a0.Xh r6 q17,fun _ => Zcd a0 r7 q19,fun _ => Zfz a0 r8 q21,fun _ => ZfA a0 r9 q23,fun _ => Zet a0 r10 q25,fun _ => Ze3 a0 r11 q27,fun _ => ZdK a0 r12 q29,trivial⟩ (XJ (s' := ⟨52,[(3,sL 1 (ci .i64) ([r3,r4,r5,r6,r7,r8,r9,r10,r11,r12] : List Int))],[]⟩) (VB (.cons (Un rfl (fun i hi => match i,hi with | 0,_ => rfl | 1,_ => rfl | 2,_ => rfl | 3,_ => rfl | 4,_ => rfl | 5,_ => rfl | 6,_ => rfl | 7,_ => rfl | 8,_ => rfl | 9,_ => rfl | n + 10,h => absurd h (by omega))) .nil) .nil) (Za (Za (zg [3,4] 0 (Zb (Zi ?_))))))
 obtain ⟨y15,q42,h43⟩ := bind_some h30
 refine zl (fun (p13 : Int) => ⟨52,[(3,sL 1 (ci .i64) ([r3,r4,r5,r6,r7,r8,r9,r10,r11,r12] : List Int)),(4,.int .i64 p13)],[]⟩) (Sum.elim (fun z => OutE 0 (fun z => ⟨52,[],[]⟩) z) (fun z => OutR Tryz.prog Tryz.f65 (.int .i64 z))) q42 ?_ ?_
 intro p13 y14 h31
 unfold M.Jt at h31
 refine Za (Za (zg [3,4,40] 0 (Zb (cn h31 (fun _ h33 => ?_) (fun _ h34 => ?_)))))
 refine Zd (Zb (Za (Zi (Za ?_))))
 obtain ⟨c35,h36⟩ := Zz h33
 refine zc [3,4,47] 0 c35 (Zb (cn h36 (fun _ h38 => ?_) (fun _ h39 => ?_)))
 refine Za ?_
 obtain ⟨c40,h41⟩ := Zz h38
 exact zc [2] 0 c40 (Zb (Zg (ZC (Zh (rr h41 ⟨rfl,er0 _⟩)))))
 exact Zd (XK (Zb (zg [3,4] 0 (rn h39))))
 exact ZH (Xn (re h34 ⟨rfl,kq⟩))
 intro e44 s45 o46
 rcases y15 with g16 | y17
 have h47 := XG h43
 exact zi o46 (Za (zg [2] 0 (Zb (Zg (er1 h47)))))
 have h48 := XH h43
 obtain ⟨rfl,n50⟩ := o46
 refine ZC (Zh ?_)
 obtain rfl := Option.some.inj h48
 exact n50
theorem Zg9 (a0 : ZG) (r : Int) (h : M.Wn a0 = some r) : Fn Tryz.prog 44 [.agg (X3 a0)] (.pure (.int .i64 r)) := by
 let u1 : List Ob := [.box (X3 a0)]
 unfold M.Wn at h
 refine ZL Tryz.func44 rfl (by kernel_rfl) (Za (zg [1] 1 (Zb (Za (Za (zg [1,12] 1 (Zb (cn h (fun _ h2 => ?_) (fun _ h3 => ?_)))))))))
 exact Za (zg [2] 0 (Zb (Zg (Zh (er1 h2)))))
 refine Zd (Zb (Za (Za (zg [1,3] 1 (Zb (Zi ?_))))))
 obtain ⟨y20,q70,h71⟩ := bind_some h3
 refine zl (fun (p1 : Int) => ⟨86,[(1,.ref 0 0),(3,.int .i64 p1)],u1⟩) (Sum.elim (fun z => OutE 0 (fun z => ⟨86,[],[]⟩) z) (fun z => OutR Tryz.prog Tryz.f44 (.int .i64 z))) q70 ?_ ?_
 intro p1 y2 h4
 unfold M.VO at h4
 refine Za (Za (zg [1,3,17] 1 (Zb (cn h4 (fun _ h6 => ?_) (fun _ h7 => ?_)))))
 refine Zd (Zb (Za (Zi (Za (Za ?_)))))
 obtain ⟨r3,q8,h9⟩ := bind_some h6
 obtain ⟨c10,h11⟩ := Zz h9
 refine zr [1,3,4] 1 c10 (rq1 (ZcX _ _ q8) rqn) (Zb (Za (zg [1,3,4,27] 1 (Zb (cn h11 (fun _ h13 => ?_) (fun _ h14 => ?_))))))
 exact Za (zg [2] 0 (Zb (Zg (Zh (ZC (Zh (rr h13 ⟨rfl,er0 _⟩)))))))
 refine Zd (Zb (Za (Za (zg [1,3,5] 1 (Zb (Zi ?_))))))
 obtain ⟨y6,q24,h25⟩ := bind_some h14
 refine zl (fun (p4 : Int) => ⟨86,[(1,.ref 0 0),(3,.int .i64 p1),(5,.int .i64 p4)],u1⟩) (Sum.elim (fun z => OutE 2 (fun z => ⟨86,[(1,.ref 0 0),(3,.int .i64 p1)],u1⟩) z) (fun z => OutR Tryz.prog Tryz.f44 (.int .i64 z))) q24 ?_ ?_
 intro p4 y5 h15
 unfold M.Wc at h15
 refine Za (Za (zg [1,3,5,31] 1 (Zb (cn h15 (fun _ h17 => ?_) (fun _ h18 => ?_)))))
 refine Zd (Zb (Za (Zi (Za ?_))))
 obtain ⟨c19,h20⟩ := Zz h17
 refine zc [1,3,5,46] 1 c19 (Zb (cn h20 (fun _ h22 => ?_) (fun _ h23 => ?_)))
 exact Za (zg [2] 0 (Zb (Zg (ZC (Zh (rr h22 ⟨rfl,er0 _⟩))))))
 exact Zd (XK (Zb (zg [1,3,5] 1 (rn h23))))
 exact ZH (Xn (re h18 ⟨rfl,kq⟩))
 intro e26 s27 o28
 rcases y6 with g7 | y8
 have h29 := XG h25
 refine zi o28 (Za (zg [1,3,6] 1 (Zb (Zi ?_))))
 obtain ⟨y17,q60,h61⟩ := bind_some h29
 refine zl (fun (p9 : Int) => ⟨86,[(1,.ref 0 0),(3,.int .i64 p1),(6,.int .i64 p9)],u1⟩) (Sum.elim (fun z => OutE 4 (fun z => ⟨86,[(1,.ref 0 0),(3,.int .i64 p1)],u1⟩) z) (fun z => OutR Tryz.prog Tryz.f44 (.int .i64 z))) q60 ?_ ?_
 intro p9 y10 h32
 unfold M.VN at h32
 refine Za (Za ?_)
 obtain ⟨c33,h34⟩ := Zz h32
 refine zc [1,3,6,55] 1 c33 (Zb (cn h34 (fun _ h36 => ?_) (fun _ h37 => ?_)))
 refine Zd (Zb (Za (Zi (Za ?_))))
 obtain ⟨c38,h39⟩ := Zz h36
 refine zc [1,3,6,7] 2 c38 (Zb (Za (zg [1,3,6,7,8] 2 (Zb (Zi ?_)))))
 obtain ⟨y14,q51,h52⟩ := bind_some h39
 refine zl (fun (p11 : Int) => ⟨86,[(1,.ref 0 0),(3,.int .i64 p1),(6,.int .i64 p9),(7,.ref 1 0),(8,.int .i64 p11)],[.box (X3 a0),.box (Zn (((a0.Ze.getD p1.toNat default).Zc).getD p9.toNat default))]⟩) (Sum.elim (fun z => OutE 6 (fun z => ⟨86,[(1,.ref 0 0),(3,.int .i64 p1),(6,.int .i64 p9)],u1⟩) z) (fun z => OutR Tryz.prog Tryz.f44 (.int .i64 z))) q51 ?_ ?_
 intro p11 y12 h40
 unfold M.VM at h40
 refine Za (Za (zg [1,3,6,7,8,69] 2 (Zb (cn h40 (fun _ h42 => ?_) (fun _ h43 => ?_)))))
 refine Zd (Zb (Za (Zi (Za ?_))))
 obtain ⟨r13,q44,h45⟩ := bind_some h42
 obtain ⟨c46,h47⟩ := Zz h45
 refine zr [1,3,6,7,8,85] 2 c46 (rq2 (fun hg => Zbi _ _ _ (Xj q44 hg)) rqn) (Zb (cn h47 (fun _ h49 => ?_) (fun _ h50 => ?_)))
 exact Za (zg [2] 0 (Zb (Zg (ZC (Zh (rr h49 ⟨rfl,er0 _⟩))))))
 exact Zd (XK (Zb (zg [1,3,6,7,8] 2 (rn h50))))
 exact ZH (Xn (re h43 ⟨rfl,kc⟩))
 intro e53 s54 o55
 rcases y14 with g15 | y16
 have h56 := XG h52
 obtain ⟨rfl,l58⟩ := o55
 exact YP (XK (XJ (s' := ⟨86,[(1,.ref 0 0),(3,.int .i64 p1),(6,.int .i64 p9)],u1⟩) (l58) (zg [1,3,6] 1 (rn h56))))
 have h57 := XH h52
 obtain ⟨rfl,n59⟩ := o55
 exact ZC (ZC (Zh (rr h57 ⟨rfl,n59⟩)))
 exact ZH (Xn (re h37 ⟨rfl,kq⟩))
 intro e62 s63 o64
 rcases y17 with g18 | y19
 have h65 := XG h61
 obtain ⟨rfl,l67⟩ := o64
 exact YP (XK (XJ (s' := ⟨86,[(1,.ref 0 0),(3,.int .i64 p1)],u1⟩) (l67) (zg [1,3] 1 (rn h65))))
 have h66 := XH h61
 obtain ⟨rfl,n68⟩ := o64
 exact ZC (ZC (Zh (rr h66 ⟨rfl,n68⟩)))
 have h30 := XH h25
 obtain ⟨rfl,n69⟩ := o28
 exact ZC (Zh (ZC (Zh (rr h30 ⟨rfl,n69⟩))))
 exact ZH (Xn (re h7 ⟨rfl,kc⟩))
 intro e72 s73 o74
 rcases y20 with g21 | y22
 have h75 := XG h71
 exact zi o74 (Za (zg [2] 0 (Zb (Zg (er1 h75)))))
 have h76 := XH h71
 obtain ⟨rfl,n78⟩ := o74
 refine ZC (Zh ?_)
 obtain rfl := Option.some.inj h76
 exact n78
theorem ZfB (a0 : ZS) (a1 : ZS) (r : Int) (h : M.WM a0 a1 = some r) : Fn Tryz.prog 46 [.agg (Xc a0),.agg (Xc a1)] (.pure (.int .i64 r)) := by
 unfold M.WM at h
 refine ZL Tryz.func46 rfl (by kernel_rfl) (Za (zg [2,3] 2 (Zb (Za (Za (zg [2,3,23] 2 (Zb (cn h (fun _ h2 => ?_) (fun _ h3 => ?_)))))))))
 exact Za (zg [4] 0 (Zb (Zg (Zh (er1 h2)))))
 refine Zd (Zb (Za (Za (zg [26] 0 (Zb (cn h3 (fun _ h5 => ?_) (fun _ h6 => ?_)))))))
 exact Za (zg [4] 0 (Zb (Zg (Zh (er1 h5)))))
 exact Zd (Zb (Za (zg [4] 0 (Zb (Zg (er1 h6))))))
theorem ZgL (a0 : ZG) (r : Yl × Int) (h : M.GG a0 = some r) : Fn Tryz.prog 13 [.agg (X3 a0)] (.pure (.tup [.agg (Wr r.1),.int .i64 r.2])) := by
 let u2 := X3 a0
 let u7 : List Ob := [.box u2,.box [.sl true 4 0 (fun _ => []),.sl true 1 0 (fun _ => [])]]
 let u8 : List Ob := [.box u2,.box [.sl true 4 0 (fun _ => []),.sl true 1 0 (fun _ => [])],.box [.sl true 4 0 (fun _ => []),.sl true 1 0 (fun _ => [])]]
 let u16 : List (Nat × D) := [(2,.ref 1 0),(5,.ref 2 0)]
 let u21 := (a0.Ze.length : Int)
 let u28 := List Zl
 unfold M.GG at h
 refine ZL Tryz.func13 rfl (by kernel_rfl) ?_
 refine Za (rg0 [1,2] 2 ⟨186,[(1,.ref 0 0),(2,.ref 1 0)],u7⟩ ?_)
 refine Zb (Za (Za ?_))
 obtain ⟨r1,q1,h2⟩ := bind_some h
 refine rg [.pure (.int .i64 r1)] [1,2,4] 2 ⟨186,[(1,.ref 0 0),(2,.ref 1 0),(4,.int .i64 r1)],u7⟩ [] [⟨true,44,[.agg u2],.pure (.int .i64 r1)⟩] ZA ⟨fun _ => Zg9 a0 r1 q1,trivial⟩ ?_
 refine Zb (Za (rg0 [1,2,4,16] 2 ⟨186,[(1,.ref 0 0),(2,.ref 1 0),(4,.int .i64 r1),(16,.bool (r1 != 0))],u7⟩ ?_))
 refine Zb ?_
 refine cnd (r1 != 0) (fun b3 => ?_) (fun b3 => ?_)
 have h4 := Kp b3 h2
 refine Za (rg0 [2,3] 2 ⟨186,[(2,.ref 1 0),(3,.int .i64 r1)],u7⟩ ?_)
 refine Zb (Zg (Zh ?_))
 obtain rfl := Option.some.inj h4
 exact er (.tup [.agg [.sl false 4 0 (fun _ => []),.sl false 1 0 (fun _ => [])],.int .i64 r1]) (Ra (.cons (Kr (.cons Q6 (.cons Q6 .nil))) (.cons ASub.rfl .nil)))
 have h5 := Kq b3 h2
 refine Zd (Zb (Za (rg0 [1,2,5] 3 ⟨186,[(1,.ref 0 0),(2,.ref 1 0),(5,.ref 2 0)],u8⟩ ?_)))
 refine Zb (Za (Za (rg0 [1,2,5,6] 3 ⟨186,[(1,.ref 0 0),(2,.ref 1 0),(5,.ref 2 0),(6,.int .i64 0)],u8⟩ ?_)))
 refine Zb (Zi ?_)
 refine UQ (s' := ⟨186,[(1,.ref 0 0),(2,.ref 1 0),(5,.ref 2 0),(6,.int .i64 0)],[.box u2,.box [.sl true 4 0 (fun _ => []),.sl true 1 0 (fun _ => [])],.box [.asl 3 0 ([] : List Zl).length,.sl true 1 0 (fun _ => [])],rA 4 hdDom ([] : List Zl) (fun _ => nilV),rF 2 XE Zl.Xo ([] : List Zl) (fun _ => nilV)]⟩) (Le.trans (s' := ⟨186,[(1,.ref 0 0),(2,.ref 1 0),(5,.ref 2 0),(6,.int .i64 0)],[.box u2,.box [.sl true 4 0 (fun _ => []),.sl true 1 0 (fun _ => [])],.box [.asl 3 0 0,.sl true 1 0 (fun _ => [])],.arr 4 0 (fun i => ZT (([] : List Zl).getD i default))]⟩) (ZgA (nt := 186) (e := [(1,.ref 0 0),(2,.ref 1 0),(5,.ref 2 0),(6,.int .i64 0)]) (H := u8) (cells := [.sl true 4 0 (fun _ => []),.sl true 1 0 (fun _ => [])]) (wd := 4) (f := fun _ => []) 2 0 rfl rfl 4 (fun i => ZT (([] : List Zl).getD i default))) (Zi6 (H := [.box u2,.box [.sl true 4 0 (fun _ => []),.sl true 1 0 (fun _ => [])],.box [.asl 3 0 0,.sl true 1 0 (fun _ => [])]]) (wd := 4) (wi := 2) hdDom XE Zl.Xo (fun i => ZT (([] : List Zl).getD i default)))) ?_
 obtain ⟨y26,q114,h115⟩ := bind_some h5
 let u9 : List Ob := [.box u2,.box [.sl true 4 0 (fun _ => []),.sl true 1 0 (fun _ => [])],.box [sL 4 ZT y26,.sl true 1 0 (fun _ => [])]]
 let u32 := (y26.length : Int)
 refine Rn (ZcM (f := M.Ud a0) (S := fun (p14 : u28 × Int) (vs : Nat → Value) => ⟨186,[(1,.ref 0 0),(2,.ref 1 0),(5,.ref 2 0),(6,.int .i64 p14.2)],[.box u2,.box [.sl true 4 0 (fun _ => []),.sl true 1 0 (fun _ => [])],.box [.asl 3 0 p14.1.length,.sl true 1 0 (fun _ => [])],rA 4 hdDom p14.1 vs,rF 2 XE Zl.Xo p14.1 vs]⟩) (O := (fun z => OutL 0 (fun (z : List Zl) (vs : Nat → Value) => ⟨186,u16,[.box u2,.box [.sl true 4 0 (fun _ => []),.sl true 1 0 (fun _ => [])],.box [.asl 3 0 z.length,.sl true 1 0 (fun _ => [])],rA 4 hdDom z vs,rF 2 XE Zl.Xo z vs]⟩) z)) ?_ (g := (fun _ => nilV)) (x := (([] : List Zl),0)) (y := y26) (UD q114)) ?_
 intro p14 y15 v14 h62
 let u17 := (a0.Ze.getD p14.2.toNat default).Zc
 let u31 := (u17.length : Int)
 unfold M.Ud at h62
 refine Za (Za (rg0 [1,2,5,6,24] 5 ⟨186,[(1,.ref 0 0),(2,.ref 1 0),(5,.ref 2 0),(6,.int .i64 p14.2),(24,.bool (decide (p14.2 < u21)))],[.box u2,.box [.sl true 4 0 (fun _ => []),.sl true 1 0 (fun _ => [])],.box [.asl 3 0 p14.1.length,.sl true 1 0 (fun _ => [])],rA 4 hdDom p14.1 v14,rF 2 XE Zl.Xo p14.1 v14]⟩ ?_))
 refine Zb ?_
 refine cnd (decide (p14.2 < u21)) (fun b63 => ?_) (fun b63 => ?_)
 have h64 := Kp b63 h62
 refine Zd (Zb (Za (Zi (Za (rg0 [1,2,5,6,7] 5 ⟨186,[(1,.ref 0 0),(2,.ref 1 0),(5,.ref 2 0),(6,.int .i64 p14.2),(7,.int .i64 0)],[.box u2,.box [.sl true 4 0 (fun _ => []),.sl true 1 0 (fun _ => [])],.box [.asl 3 0 p14.1.length,.sl true 1 0 (fun _ => [])],rA 4 hdDom p14.1 v14,rF 2 XE Zl.Xo p14.1 v14]⟩ ?_)))))
 refine Zb (Zi ?_)
 obtain ⟨y25,q108,h109⟩ := bind_some h64
 refine Rn (ZcM (f := M.Uc a0 p14) (S := fun (p16 : u28 × Int) (vs : Nat → Value) => ⟨186,[(1,.ref 0 0),(2,.ref 1 0),(5,.ref 2 0),(6,.int .i64 p14.2),(7,.int .i64 p16.2)],[.box u2,.box [.sl true 4 0 (fun _ => []),.sl true 1 0 (fun _ => [])],.box [.asl 3 0 p16.1.length,.sl true 1 0 (fun _ => [])],rA 4 hdDom p16.1 vs,rF 2 XE Zl.Xo p16.1 vs]⟩) (O := (fun z => OutL 2 (fun (z : List Zl) (vs : Nat → Value) => ⟨186,[(1,.ref 0 0),(2,.ref 1 0),(5,.ref 2 0),(6,.int .i64 p14.2)],[.box u2,.box [.sl true 4 0 (fun _ => []),.sl true 1 0 (fun _ => [])],.box [.asl 3 0 z.length,.sl true 1 0 (fun _ => [])],rA 4 hdDom z vs,rF 2 XE Zl.Xo z vs]⟩) z)) ?_ (g := v14) (x := (p14.1,0)) (y := y25) (UD q108)) ?_
 intro p16 y17 v16 h66
 let u1 := u17.getD p16.2.toNat default
 let u5 := (p16.1.length : Int)
 let u10 := Zn u1
 let u34 := ((u1.ZK) == 0) || (u1.Gu)
 unfold M.Uc at h66
 refine Za (Za ?_)
 obtain ⟨c67,h68⟩ := Zz h66
 refine rgc [1,2,5,6,7,35] 5 ⟨186,[(1,.ref 0 0),(2,.ref 1 0),(5,.ref 2 0),(6,.int .i64 p14.2),(7,.int .i64 p16.2),(35,.bool (decide (p16.2 < u31)))],[.box u2,.box [.sl true 4 0 (fun _ => []),.sl true 1 0 (fun _ => [])],.box [.asl 3 0 p16.1.length,.sl true 1 0 (fun _ => [])],rA 4 hdDom p16.1 v16,rF 2 XE Zl.Xo p16.1 v16]⟩ [decide (0 ≤ p14.2),decide (p14.2 < u21)] c67 ?_
 refine Zb ?_
 refine cnd (decide (p16.2 < u31)) (fun b69 => ?_) (fun b69 => ?_)
 have h70 := Kp b69 h68
 refine Zd (Zb ?_)
 refine UT (fun (p18 : u28 × (Nat → Value)) => ⟨186,[(1,.ref 0 0),(2,.ref 1 0),(5,.ref 2 0),(6,.int .i64 p14.2),(7,.int .i64 p16.2)],[.box u2,.box [.sl true 4 0 (fun _ => []),.sl true 1 0 (fun _ => [])],.box [.asl 3 0 p18.1.length,.sl true 1 0 (fun _ => [])],rA 4 hdDom p18.1 p18.2,rF 2 XE Zl.Xo p18.1 p18.2]⟩) (fun p18 => M.UW p16 p18.1 = some y17) ?_ ?_
 intro p18 h73
 unfold M.UW at h73
 refine rg0 [1,2,5,6,7] 5 ⟨186,[(1,.ref 0 0),(2,.ref 1 0),(5,.ref 2 0),(6,.int .i64 p14.2),(7,.int .i64 (wr .i64 (p16.2 + 1)))],[.box u2,.box [.sl true 4 0 (fun _ => []),.sl true 1 0 (fun _ => [])],.box [.asl 3 0 p18.1.length,.sl true 1 0 (fun _ => [])],rA 4 hdDom p18.1 p18.2,rF 2 XE Zl.Xo p18.1 p18.2]⟩ ?_
 obtain rfl := Option.some.inj h73
 exact ZbY p18.2 (Ko)
 intro k72
 refine Zi (Za ?_)
 obtain ⟨c74,h75⟩ := Zz h70
 refine rgc [1,2,5,6,7,8] 6 ⟨186,[(1,.ref 0 0),(2,.ref 1 0),(5,.ref 2 0),(6,.int .i64 p14.2),(7,.int .i64 p16.2),(8,.ref 5 0)],[.box u2,.box [.sl true 4 0 (fun _ => []),.sl true 1 0 (fun _ => [])],.box [.asl 3 0 p16.1.length,.sl true 1 0 (fun _ => [])],rA 4 hdDom p16.1 v16,rF 2 XE Zl.Xo p16.1 v16,.box u10]⟩ [decide (0 ≤ p14.2),decide (p14.2 < u21),decide (0 ≤ p16.2),decide (p16.2 < u31)] c74 ?_
 refine Zb (Za (Za (rg0 [1,2,5,6,7,8,53] 6 ⟨186,[(1,.ref 0 0),(2,.ref 1 0),(5,.ref 2 0),(6,.int .i64 p14.2),(7,.int .i64 p16.2),(8,.ref 5 0),(53,.bool u34)],[.box u2,.box [.sl true 4 0 (fun _ => []),.sl true 1 0 (fun _ => [])],.box [.asl 3 0 p16.1.length,.sl true 1 0 (fun _ => [])],rA 4 hdDom p16.1 v16,rF 2 XE Zl.Xo p16.1 v16,.box u10]⟩ ?_)))
 refine Zb ?_
 refine cnd u34 (fun b76 => ?_) (fun b76 => ?_)
 have h77 := Kp b76 h75
 refine ZH (Xn (YP ?_))
 exact XJ (Le.trans (s' := ⟨186,[(1,.ref 0 0),(2,.ref 1 0),(5,.ref 2 0),(6,.int .i64 p14.2),(7,.int .i64 p16.2)],[.box u2,.box [.sl true 4 0 (fun _ => []),.sl true 1 0 (fun _ => [])],.box [.asl 3 0 p16.1.length,.sl true 1 0 (fun _ => [])],rA 4 hdDom p16.1 v16,rF 2 XE Zl.Xo p16.1 v16,.box u10]⟩) (kp [1,2,5,6,7]) (G6 (n := 5) (by kernel_rfl))) (k72 (p16.1,v16) h77)
 have h78 := Kq b76 h75
 refine Zd (Zb (Za ?_))
 obtain ⟨r19,q79,h80⟩ := bind_some h78
 let u12 := Xc r19
 refine rg [.pure (.agg u12)] [1,2,5,6,7,8,9] 7 ⟨186,[(1,.ref 0 0),(2,.ref 1 0),(5,.ref 2 0),(6,.int .i64 p14.2),(7,.int .i64 p16.2),(8,.ref 5 0),(9,.ref 6 0)],[.box u2,.box [.sl true 4 0 (fun _ => []),.sl true 1 0 (fun _ => [])],.box [.asl 3 0 p16.1.length,.sl true 1 0 (fun _ => [])],rA 4 hdDom p16.1 v16,rF 2 XE Zl.Xo p16.1 v16,.box u10,.box u12]⟩ [] [⟨true,45,[.int .u32 (u1.Zy),.int .i64 (u1.ZK)],.pure (.agg u12)⟩] ZA ⟨fun _ => K3 (u1.Zy) (u1.ZK) r19 q79,trivial⟩ ?_
 refine Zb (Za (rg0 [1,2,5,6,7,8,9,10] 7 ⟨186,[(1,.ref 0 0),(2,.ref 1 0),(5,.ref 2 0),(6,.int .i64 p14.2),(7,.int .i64 p16.2),(8,.ref 5 0),(9,.ref 6 0),(10,.int .i64 0)],[.box u2,.box [.sl true 4 0 (fun _ => []),.sl true 1 0 (fun _ => [])],.box [.asl 3 0 p16.1.length,.sl true 1 0 (fun _ => [])],rA 4 hdDom p16.1 v16,rF 2 XE Zl.Xo p16.1 v16,.box u10,.box u12]⟩ ?_))
 refine Zb (Za (Zi ?_))
 obtain ⟨y23,q89,h90⟩ := bind_some h80
 let u19 := p16.1.getD (0 + y23.toNat) default
 let u3 := !((((u19.Zp).Zy) == r19.Zy) && ((((u19.Zp).ZK) == r19.ZK) && true))
 let u6 := p16.1.length - y23.toNat
 let u18 := y23.toNat - 0
 let u24 := (u18 + 1) + (0 + u6)
 let u30 := (y23 == u5) || u3
 let u26 := u30 || ((u19.XF) != (u1.XF))
 let u29 := (u18 + 1) * 48 ≤ 140737488355328
 let u35 := u24 * 48 ≤ 140737488355328
 refine UQ (s' := ⟨186,[(1,.ref 0 0),(2,.ref 1 0),(5,.ref 2 0),(6,.int .i64 p14.2),(7,.int .i64 p16.2),(8,.ref 5 0),(9,.ref 6 0),(10,.int .i64 0)],[.box u2,.box [.sl true 4 0 (fun _ => []),.sl true 1 0 (fun _ => [])],.box [.asl 3 0 p16.1.length,.sl true 1 0 (fun _ => [])],rA 4 hdDom p16.1 v16,rF 2 XE Zl.Xo p16.1 v16,.box u10,.box u12]⟩) (Ko) ?_
 refine Rn (Zgi (f := M.Ub a0 p14 p16 r19) (S := fun (p20 : Int) => ⟨186,[(1,.ref 0 0),(2,.ref 1 0),(5,.ref 2 0),(6,.int .i64 p14.2),(7,.int .i64 p16.2),(8,.ref 5 0),(9,.ref 6 0),(10,.int .i64 p20)],[.box u2,.box [.sl true 4 0 (fun _ => []),.sl true 1 0 (fun _ => [])],.box [.asl 3 0 p16.1.length,.sl true 1 0 (fun _ => [])],rA 4 hdDom p16.1 v16,rF 2 XE Zl.Xo p16.1 v16,.box u10,.box u12]⟩) (O := (fun z => OutE 4 (fun z => ⟨186,[(1,.ref 0 0),(2,.ref 1 0),(5,.ref 2 0),(6,.int .i64 p14.2),(7,.int .i64 p16.2),(8,.ref 5 0),(9,.ref 6 0),(10,.int .i64 z)],[.box u2,.box [.sl true 4 0 (fun _ => []),.sl true 1 0 (fun _ => [])],.box [.asl 3 0 p16.1.length,.sl true 1 0 (fun _ => [])],rA 4 hdDom p16.1 v16,rF 2 XE Zl.Xo p16.1 v16,.box u10,.box u12]⟩) z)) ?_ (x := 0) (y := y23) (UD q89)) ?_
 intro p20 y21 h81
 let u13 := p16.1.getD (0 + p20.toNat) default
 let u4 := (((u13.Zp).Zy) == r19.Zy) && ((((u13.Zp).ZK) == r19.ZK) && true)
 let u15 := decide (p20 < u5)
 let u27 := decide (0 ≤ p20)
 unfold M.Ub at h81
 refine Za (Za ?_)
 obtain ⟨r22,q82,h83⟩ := bind_some h81
 let u20 := decide (r22 < 0)
 let u22 := u15 && (u20 || (u4 && (decide ((u13.XF) < (u1.XF)))))
 obtain ⟨c84,h85⟩ := Zz h83
 refine rg [.pure (.int .i64 r22)] [1,2,5,6,7,8,9,10,95] 7 ⟨186,[(1,.ref 0 0),(2,.ref 1 0),(5,.ref 2 0),(6,.int .i64 p14.2),(7,.int .i64 p16.2),(8,.ref 5 0),(9,.ref 6 0),(10,.int .i64 p20),(95,.bool u22)],[.box u2,.box [.sl true 4 0 (fun _ => []),.sl true 1 0 (fun _ => [])],.box [.asl 3 0 p16.1.length,.sl true 1 0 (fun _ => [])],rA 4 hdDom p16.1 v16,rF 2 XE Zl.Xo p16.1 v16,.box u10,.box u12]⟩ [guardB u15 u27,guardB u15 u15,guardB (u15 && !u20) u27,guardB (u15 && !u20) u15,guardB ((u15 && !u20) && u4) u27,guardB ((u15 && !u20) && u4) u15] [⟨decide (p20 < u5),46,[.agg (Xc (u13.Zp)),.agg u12],.pure (.int .i64 r22)⟩] c84 ⟨fun hg => ZfB (u13.Zp) r19 r22 (Xj q82 hg),trivial⟩ ?_
 refine Zb ?_
 refine cnd u22 (fun b86 => ?_) (fun b86 => ?_)
 have h87 := Kp b86 h85
 refine Zd (Zb (Zi (rg0 [1,2,5,6,7,8,9,10] 7 ⟨186,[(1,.ref 0 0),(2,.ref 1 0),(5,.ref 2 0),(6,.int .i64 p14.2),(7,.int .i64 p16.2),(8,.ref 5 0),(9,.ref 6 0),(10,.int .i64 (wr .i64 (p20 + 1)))],[.box u2,.box [.sl true 4 0 (fun _ => []),.sl true 1 0 (fun _ => [])],.box [.asl 3 0 p16.1.length,.sl true 1 0 (fun _ => [])],rA 4 hdDom p16.1 v16,rF 2 XE Zl.Xo p16.1 v16,.box u10,.box u12]⟩ ?_)))
 refine XK ?_
 obtain rfl := Option.some.inj h87
 exact ZhV (Ko)
 have h88 := Kq b86 h85
 refine ZH (Xn ?_)
 obtain rfl := Option.some.inj h88
 exact ZhW ⟨rfl,kp [1,2,5,6,7,8,9,10]⟩
 intro e91 s92 o93
 obtain ⟨rfl,l94⟩ := o93
 refine YP ?_
 refine XJ (s' := ⟨186,[(1,.ref 0 0),(2,.ref 1 0),(5,.ref 2 0),(6,.int .i64 p14.2),(7,.int .i64 p16.2),(8,.ref 5 0),(9,.ref 6 0),(10,.int .i64 y23)],[.box u2,.box [.sl true 4 0 (fun _ => []),.sl true 1 0 (fun _ => [])],.box [.asl 3 0 p16.1.length,.sl true 1 0 (fun _ => [])],rA 4 hdDom p16.1 v16,rF 2 XE Zl.Xo p16.1 v16,.box u10,.box u12]⟩) (l94) ?_
 refine UT (fun (p24 : u28 × (Nat → Value)) => ⟨186,[(1,.ref 0 0),(2,.ref 1 0),(5,.ref 2 0),(6,.int .i64 p14.2),(7,.int .i64 p16.2),(10,.int .i64 y23)],[.box u2,.box [.sl true 4 0 (fun _ => []),.sl true 1 0 (fun _ => [])],.box [.asl 3 0 p24.1.length,.sl true 1 0 (fun _ => [])],rA 4 hdDom p24.1 p24.2,rF 2 XE Zl.Xo p24.1 p24.2]⟩) (fun p24 => M.UX p14 p16 y23 p24.1 = some y17) ?_ ?_
 intro p24 h96
 let u14 := p24.1.getD (0 + y23.toNat) default
 let u23 := u14.Xo.length + 1
 unfold M.UX at h96
 obtain ⟨c97,h98⟩ := Zz h96
 have g1 : 0 ≤ y23 := of_decide_eq_true (c97 _ (by simp only [List.mem_cons,true_or]))
 have g2 : y23 < (p24.1.length : Int) := of_decide_eq_true (c97 _ (by simp only [List.mem_cons,true_or,or_true]))
 have g3 : (((p24.1.getD (0 + y23.toNat) default).Xo).length + 1) * 16 ≤ 140737488355328 := of_decide_eq_true (c97 _ (by simp only [List.mem_cons,true_or,or_true]))
 refine UQ (Zl6 (idf := 4) (0 + y23.toNat) rfl) ?_
 refine rgvB [1] [.gone,.gone,.box [.asl 3 0 p24.1.length,.sl true 1 0 (fun _ => [])]] [[.box u2,.box [.sl true 4 0 (fun _ => []),.sl true 1 0 (fun _ => [])],.box [.asl 3 0 p24.1.length,.sl true 1 0 (fun _ => [])],rA 4 hdDom p24.1 p24.2,.fam (0 + y23.toNat) (fun v => pB (v = p24.2 (0 + y23.toNat))) p24.1.length 2 p24.2 (rls XE Zl.Xo p24.1)],[.box u2,.box [.sl true 4 0 (fun _ => []),.sl true 1 0 (fun _ => [])],.box [.asl 3 0 p24.1.length,.sl true 1 0 (fun _ => [])],rA 4 hdDom p24.1 p24.2,.fam (0 + y23.toNat) (fun _ => false) p24.1.length 2 (updV p24.2 (0 + y23.toNat) nilV) (updL (rls XE Zl.Xo p24.1) (0 + y23.toNat) (0,fun _ => [])),.arr 2 u23 (app (rls XE Zl.Xo p24.1 (0 + y23.toNat)).2 (rls XE Zl.Xo p24.1 (0 + y23.toNat)).1 (fun i => List.take 2 (List.drop (i * 2) [.int .i64 p14.2,.int .i64 p16.2])))]] 14 [] [1,2,5,6,7,144,145,156] 6 ⟨186,[(1,.ref 0 0),(2,.ref 1 0),(5,.ref 2 0),(6,.int .i64 p14.2),(7,.int .i64 p16.2),(144,.asl 3 0 p24.1.length),(145,.int .i64 y23),(156,.asl 5 0 u23)],[.box u2,.box [.sl true 4 0 (fun _ => []),.sl true 1 0 (fun _ => [])],.box [.asl 3 0 p24.1.length,.sl true 1 0 (fun _ => [])],rA 4 hdDom p24.1 p24.2,.fam (0 + y23.toNat) (fun _ => false) p24.1.length 2 (updV p24.2 (0 + y23.toNat) nilV) (updL (rls XE Zl.Xo p24.1) (0 + y23.toNat) (0,fun _ => [])),.arr 2 u23 (app (rls XE Zl.Xo p24.1 (0 + y23.toNat)).2 (rls XE Zl.Xo p24.1 (0 + y23.toNat)).1 (fun i => List.take 2 (List.drop (i * 2) [.int .i64 p14.2,.int .i64 p16.2])))]⟩ [decide (0 ≤ y23),decide (y23 < (p24.1.length : Int)),pB (p24.2 (0 + y23.toNat) = p24.2 (0 + y23.toNat)),decide ((0 + y23.toNat) < p24.1.length),decide (u23 * 16 ≤ 140737488355328)] [] ?_ trivial ?_ _ (Zki (idf := 4) 156 (0 + y23.toNat) rfl rfl rfl ?_ rfl) [] [1,2,5,6,7] 5 (fun w => ⟨186,[(1,.ref 0 0),(2,.ref 1 0),(5,.ref 2 0),(6,.int .i64 p14.2),(7,.int .i64 p16.2)],[.box u2,.box [.sl true 4 0 (fun _ => []),.sl true 1 0 (fun _ => [])],.box [.asl 3 0 p24.1.length,.sl true 1 0 (fun _ => [])],.arr 4 p24.1.length (fun j => bif Nat.beq j (0 + y23.toNat) then splice (hdDom u14 ++ [.val (p24.2 (0 + y23.toNat))]) [.val w] 3 else hdDom (p24.1.getD j default) ++ [.val (p24.2 j)]),.fam 0 (fun _ => false) p24.1.length 2 (updV (updV p24.2 (0 + y23.toNat) nilV) (0 + y23.toNat) w) (updL (updL (rls XE Zl.Xo p24.1) (0 + y23.toNat) (0,fun _ => [])) (0 + y23.toNat) (u14.Xo.length + 1,(app (rls XE Zl.Xo p24.1 (0 + y23.toNat)).2 (rls XE Zl.Xo p24.1 (0 + y23.toNat)).1 (fun i => List.take 2 (List.drop (i * 2) [.int .i64 p14.2,.int .i64 p16.2])))))]⟩) (fun _ => [decide (0 ≤ y23),decide (y23 < (p24.1.length : Int))]) (fun _ => []) ?_ (fun _ => trivial) (fun w => ?_)
 · exact am (decide_eq_true g1) (am (decide_eq_true g2) (am (Zl5 rfl) (am (decide_eq_true (by omega)) (am (decide_eq_true g3) ZA))))
 · intro x hx
   simp only [List.mem_cons,List.not_mem_nil,or_false] at hx
   rcases hx with rfl | rfl <;> exact ⟨rfl,trivial⟩
 · rw [UP]; rfl
 · exact fun _ => am (decide_eq_true g1) (am (decide_eq_true g2) ZA)
 refine XK ?_
 exact XJ (Le.trans (Zkl 3 4 hdDom XE Zl.Xo p24.1 (⟨(p24.1.getD (0 + y23.toNat) default).Zp,(p24.1.getD (0 + y23.toNat) default).XF,((p24.1.getD (0 + y23.toNat) default).Xo) ++ [(⟨p14.2,p16.2⟩ : V8)]⟩ : Zl) p24.2 (0 + y23.toNat) w ((p24.1.getD (0 + y23.toNat) default).Xo.length + 1) (app (rls XE Zl.Xo p24.1 (0 + y23.toNat)).2 (rls XE Zl.Xo p24.1 (0 + y23.toNat)).1 (fun i => List.take 2 (List.drop (i * 2) [.int .i64 p14.2,.int .i64 p16.2]))) _ _ _ (by decide) rfl rfl (fun j _ hj => by rw [ZdC hj]; rfl) (fun _ => by rw [Nat.beq_refl]; rfl) (fun j hj => Km hj) (fun j hj => ZcI hj) (by simp) (fun i hi => Zec XE (p24.1.getD (0 + y23.toNat) default).Xo (⟨p14.2,p16.2⟩ : V8) (fun i => List.take 2 (List.drop (i * 2) [.int .i64 p14.2,.int .i64 p16.2])) rfl i hi)) (VB (.cons Sub.rfl (.cons Sub.rfl (.cons Sub.rfl (.cons Sub.rfl (.cons Sub.rfl .nil))))) (.cons .rfl (.cons .rfl (.cons (.box (.cons (Rq (by simp)) (.cons CSub.rfl .nil))) (.cons .rfl (.cons .rfl .nil))))))) (k72 (p24.1.set (0 + y23.toNat) (⟨(p24.1.getD (0 + y23.toNat) default).Zp,(p24.1.getD (0 + y23.toNat) default).XF,((p24.1.getD (0 + y23.toNat) default).Xo) ++ [(⟨p14.2,p16.2⟩ : V8)]⟩ : Zl),updV p24.2 (0 + y23.toNat) w) h98)
 intro k95
 refine Za ?_
 obtain ⟨c99,h100⟩ := Zz h90
 refine rgc [1,2,5,6,7,8,9,10,123] 7 ⟨186,[(1,.ref 0 0),(2,.ref 1 0),(5,.ref 2 0),(6,.int .i64 p14.2),(7,.int .i64 p16.2),(8,.ref 5 0),(9,.ref 6 0),(10,.int .i64 y23),(123,.bool u26)],[.box u2,.box [.sl true 4 0 (fun _ => []),.sl true 1 0 (fun _ => [])],.box [.asl 3 0 p16.1.length,.sl true 1 0 (fun _ => [])],rA 4 hdDom p16.1 v16,rF 2 XE Zl.Xo p16.1 v16,.box u10,.box u12]⟩ [guardB (!(y23 == u5)) (decide (0 ≤ y23)),guardB (!(y23 == u5)) (decide (y23 < u5)),guardB (!u30) (decide (0 ≤ y23)),guardB (!u30) (decide (y23 < u5))] c99 ?_
 refine Zb ?_
 refine cnd u26 (fun b101 => ?_) (fun b101 => ?_)
 have h102 := Kp b101 h100
 refine Za ?_
 obtain ⟨c104,h105⟩ := Zz h102
 refine rgc [1,2,5,6,7,8,9,10,11] 8 ⟨186,[(1,.ref 0 0),(2,.ref 1 0),(5,.ref 2 0),(6,.int .i64 p14.2),(7,.int .i64 p16.2),(8,.ref 5 0),(9,.ref 6 0),(10,.int .i64 y23),(11,.asl 7 0 (0 + u6))],[.box u2,.box [.sl true 4 0 (fun _ => []),.sl true 1 0 (fun _ => [])],.box [.asl 3 0 p16.1.length,.sl true 1 0 (fun _ => [])],rA 4 hdDom p16.1 v16,rF 2 XE Zl.Xo p16.1 v16,.box u10,.box u12,.arr 4 (0 + u6) (app (fun i => List.take 4 (List.drop (i * 4) [])) 0 (fun i => hdDom (p16.1.getD ((0 + y23.toNat) + i) default) ++ [.val (v16 ((0 + y23.toNat) + i))]))]⟩ [decide (0 ≤ y23),decide (y23 ≤ u5),decide (0 = 0) || decide (0 < u6),decide ((0 + u6) * 48 ≤ 140737488355328)] c104 ?_
 refine Zb ?_
 obtain ⟨c106,h107⟩ := Zz h105
 have g1 : 0 ≤ y23 := of_decide_eq_true (c106 _ (by simp only [List.mem_cons,true_or]))
 have g2 : y23 ≤ (p16.1.length : Int) := of_decide_eq_true (c106 _ (by simp only [List.mem_cons,true_or,or_true]))
 have g3 : ((y23.toNat - 0) + 1) * 48 ≤ 140737488355328 := of_decide_eq_true (c106 _ (by simp only [List.mem_cons,true_or,or_true]))
 have g4 : (((y23.toNat - 0) + 1) + (0 + (p16.1.length - y23.toNat))) * 48 ≤ 140737488355328 := of_decide_eq_true (c106 _ (by simp only [List.mem_cons,true_or,or_true]))
 refine rgp 9 [] [1,2,5,6,7,10,11,133,138] 8 ⟨186,[(1,.ref 0 0),(2,.ref 1 0),(5,.ref 2 0),(6,.int .i64 p14.2),(7,.int .i64 p16.2),(10,.int .i64 y23),(11,.asl 7 0 (0 + u6)),(133,.asl 3 0 u18),(138,.sl true 4 1 (fun i => List.take 4 (List.drop (i * 4) [.int .u32 r19.Zy,.int .i64 r19.ZK,.int .i64 u1.XF,.sl true 2 0 (fun _ => [])])))],[.box u2,.box [.sl true 4 0 (fun _ => []),.sl true 1 0 (fun _ => [])],.box [.asl 3 0 p16.1.length,.sl true 1 0 (fun _ => [])],rA 4 hdDom p16.1 v16,rF 2 XE Zl.Xo p16.1 v16,.box u10,.box u12,.arr 4 (0 + u6) (app (fun i => List.take 4 (List.drop (i * 4) [])) 0 (fun i => hdDom (p16.1.getD ((0 + y23.toNat) + i) default) ++ [.val (v16 ((0 + y23.toNat) + i))]))]⟩ [1,2,5,6,7,10,133,138,140] 8 ⟨186,[(1,.ref 0 0),(2,.ref 1 0),(5,.ref 2 0),(6,.int .i64 p14.2),(7,.int .i64 p16.2),(10,.int .i64 y23),(133,.asl 3 0 u18),(138,.sl true 4 1 (fun i => List.take 4 (List.drop (i * 4) [.int .u32 r19.Zy,.int .i64 r19.ZK,.int .i64 u1.XF,.sl true 2 0 (fun _ => [])]))),(140,.asl 7 0 (0 + u6))],[.box u2,.box [.sl true 4 0 (fun _ => []),.sl true 1 0 (fun _ => [])],.box [.asl 3 0 p16.1.length,.sl true 1 0 (fun _ => [])],rA 4 hdDom p16.1 v16,rF 2 XE Zl.Xo p16.1 v16,.box u10,.box u12,.arr 4 (0 + u6) (app (fun i => List.take 4 (List.drop (i * 4) [])) 0 (fun i => hdDom (p16.1.getD ((0 + y23.toNat) + i) default) ++ [.val (v16 ((0 + y23.toNat) + i))]))]⟩ [decide (0 ≤ y23),decide (y23 ≤ u5)] [] (am (decide_eq_true g1) (am (decide_eq_true g2) ZA)) trivial [] [1,2,5,6,7,10] 5 ⟨186,[(1,.ref 0 0),(2,.ref 1 0),(5,.ref 2 0),(6,.int .i64 p14.2),(7,.int .i64 p16.2),(10,.int .i64 y23)],[.box u2,.box [.sl true 4 0 (fun _ => []),.sl true 1 0 (fun _ => [])],.box [.asl 3 0 u24,.sl true 1 0 (fun _ => [])],.arr 4 u24 (app (app (fun j => hdDom (p16.1.getD j default) ++ [.val (v16 j)]) u18 (fun i => List.take 4 (List.drop (i * 4) [.int .u32 r19.Zy,.int .i64 r19.ZK,.int .i64 u1.XF,.sl true 2 0 (fun _ => [])]))) (u18 + 1) (fun i => (app (fun i => List.take 4 (List.drop (i * 4) [])) 0 (fun i => hdDom (p16.1.getD ((0 + y23.toNat) + i) default) ++ [.val (v16 ((0 + y23.toNat) + i))])) (0 + i))),rF 2 XE Zl.Xo p16.1 v16]⟩ [decide u29,decide u35] [] (am (decide_eq_true g3) (am (decide_eq_true g4) ZA)) trivial [] [1,2,5,6,7,10,139,140] 8 ⟨186,[(1,.ref 0 0),(2,.ref 1 0),(5,.ref 2 0),(6,.int .i64 p14.2),(7,.int .i64 p16.2),(10,.int .i64 y23),(139,.asl 3 0 (u18 + 1)),(140,.asl 7 0 (0 + u6))],[.box u2,.box [.sl true 4 0 (fun _ => []),.sl true 1 0 (fun _ => [])],.box [.any,.sl true 1 0 (fun _ => [])],.arr 4 (u18 + 1) (app (fun j => hdDom (p16.1.getD j default) ++ [.val (v16 j)]) u18 (fun i => List.take 4 (List.drop (i * 4) [.int .u32 r19.Zy,.int .i64 r19.ZK,.int .i64 u1.XF,.sl true 2 0 (fun _ => [])]))),rF 2 XE Zl.Xo p16.1 v16,.box u10,.box u12,.arr 4 (0 + u6) (app (fun i => List.take 4 (List.drop (i * 4) [])) 0 (fun i => hdDom (p16.1.getD ((0 + y23.toNat) + i) default) ++ [.val (v16 ((0 + y23.toNat) + i))]))]⟩ [decide u29] [] (am (decide_eq_true g3) ZA) trivial [] [1,2,5,6,7,10] 5 [decide u35] [] (am (decide_eq_true g4) ZA) trivial ?_
 refine Zan (Zmq (w1 := 2) (g := fun _ => []) 3 4 hdDom XE Zl.Xo p16.1 y23.toNat (⟨r19,(((a0.Ze.getD p14.2.toNat default).Zc).getD p16.2.toNat default).XF,([] : List V8)⟩ : Zl) v16 (by decide) (by omega) (by omega) rfl rfl rfl (fun j hj => ?_) ?_ (fun j hj hj2 => ?_)) fun w => ?_
 · exact (Zf1 (by omega)).trans (Zf1 (by omega))
 · exact (Zf1 (by omega)).trans ((congrArg (app _ (y23.toNat - 0) _) (show y23.toNat = y23.toNat - 0 by omega)).trans Zmp)
 · rw [Zmo (by omega)]
   show app _ 0 _ (0 + (j - (y23.toNat - 0 + 1))) = _
   rw [Zmo (Nat.zero_le _)]
   have e : (0 + y23.toNat) + ((0 + (j - (y23.toNat - 0 + 1))) - 0) = j - 1 := by omega
   simp only [e]
 exact UQ (VB (.cons Sub.rfl (.cons Sub.rfl (.cons Sub.rfl (.cons Sub.rfl (.cons Sub.rfl (.cons Sub.rfl .nil)))))) (.cons .rfl (.cons .rfl (.cons (.box (.cons (Rq (by rw [Zei (by omega)]; omega)) (.cons CSub.rfl .nil))) (.cons .rfl (.cons .rfl .nil)))))) (k95 (insL p16.1 y23.toNat (⟨r19,(((a0.Ze.getD p14.2.toNat default).Zc).getD p16.2.toNat default).XF,([] : List V8)⟩ : Zl),insV v16 y23.toNat w.1) h107)
 have h103 := Kq b101 h100
 refine Zd ?_
 exact XJ (Le.trans (s' := ⟨186,[(1,.ref 0 0),(2,.ref 1 0),(5,.ref 2 0),(6,.int .i64 p14.2),(7,.int .i64 p16.2),(10,.int .i64 y23)],[.box u2,.box [.sl true 4 0 (fun _ => []),.sl true 1 0 (fun _ => [])],.box [.asl 3 0 p16.1.length,.sl true 1 0 (fun _ => [])],rA 4 hdDom p16.1 v16,rF 2 XE Zl.Xo p16.1 v16,.box u10,.box u12]⟩) (kp [1,2,5,6,7,10]) (G6 (n := 5) (by kernel_rfl))) (k95 (p16.1,v16) h103)
 have h71 := Kq b69 h68
 refine ZH (Xn ?_)
 obtain rfl := Option.some.inj h71
 exact Zeh ⟨rfl,LeE.of v16 (kp [1,2,5,6])⟩
 intro e110 s111 o112
 obtain ⟨rfl,l113⟩ := o112
 refine YP (XK ?_)
 refine Zan l113 fun v25 => ?_
 refine rg0 [1,2,5,6] 5 ⟨186,[(1,.ref 0 0),(2,.ref 1 0),(5,.ref 2 0),(6,.int .i64 (wr .i64 (p14.2 + 1)))],[.box u2,.box [.sl true 4 0 (fun _ => []),.sl true 1 0 (fun _ => [])],.box [.asl 3 0 y25.length,.sl true 1 0 (fun _ => [])],rA 4 hdDom y25 v25,rF 2 XE Zl.Xo y25 v25]⟩ ?_
 obtain rfl := Option.some.inj h109
 exact ZbY v25 (Ko)
 have h65 := Kq b63 h62
 refine ZH (Xn ?_)
 obtain rfl := Option.some.inj h65
 exact Zeh ⟨rfl,LeE.of v14 (kp [2,5])⟩
 intro e116 s117 o118
 obtain ⟨rfl,l119⟩ := o118
 refine YP ?_
 refine Zan l119 fun v26 => ?_
 refine Za (Za ?_)
 refine UQ (s' := ⟨186,u16,[.box u2,.box [.sl true 4 0 (fun _ => []),.sl true 1 0 (fun _ => [])],.box [.sl false 4 y26.length (fun k => (fun i => ZT (y26.getD i default)) (0 + k)),.sl true 1 0 (fun _ => [])],aL 4 ZT ([] : List Zl),.fam 0 (fun _ => false) 0 2 v26 (rls XE Zl.Xo y26)]⟩) (Le.trans (s' := ⟨186,u16,[.box u2,.box [.sl true 4 0 (fun _ => []),.sl true 1 0 (fun _ => [])],.box [.asl 3 0 y26.length,.sl true 1 0 (fun _ => [])],aL 4 ZT y26,.fam 0 (fun _ => false) 0 2 v26 (rls XE Zl.Xo y26)]⟩) (Zkm 3 4 hdDom XE Zl.Xo ZT y26 v26 rfl rfl (fun _ => rfl)) (Le.trans ((ZbV (s := ⟨186,u16,[.box u2,.box [.sl true 4 0 (fun _ => []),.sl true 1 0 (fun _ => [])],.box [.asl 3 0 y26.length,.sl true 1 0 (fun _ => [])],aL 4 ZT y26,.fam 0 (fun _ => false) 0 2 v26 (rls XE Zl.Xo y26)]⟩) (s' := ⟨186,u16,[.box u2,.box [.sl true 4 0 (fun _ => []),.sl true 1 0 (fun _ => [])],.box [.sl false 4 y26.length (fun k => (fun i => ZT (y26.getD i default)) (0 + k)),.sl true 1 0 (fun _ => [])],aL 4 ZT ([] : List Zl),.fam 0 (fun _ => false) 0 2 v26 (rls XE Zl.Xo y26)]⟩) 3 4 y26.length (fun i => ZT (y26.getD i default)) (fun i => ZT (([] : List Zl).getD i default)) (by kernel_rfl) (by kernel_rfl) (by kernel_rfl))) (kp [2,5]))) ?_
 refine rg0 [2,5,12] 3 ⟨186,[(2,.ref 1 0),(5,.ref 2 0),(12,.int .i64 0)],[.box u2,.box [.sl true 4 0 (fun _ => []),.sl true 1 0 (fun _ => [])],.box [.sl false 4 y26.length (fun k => (fun i => ZT (y26.getD i default)) (0 + k)),.sl true 1 0 (fun _ => [])]]⟩ ?_
 refine XJ (s' := ⟨186,[(2,.ref 1 0),(5,.ref 2 0),(12,.int .i64 0)],u9⟩) (VB (.cons Sub.rfl (.cons Sub.rfl (.cons Sub.rfl .nil))) (.cons .rfl (.cons .rfl (.cons (.box (.cons (KP rfl (RZ (f := fun i => ZT (y26.getD i default)) (fun _ _ => rfl))) (.cons CSub.rfl .nil))) .nil)))) ?_
 refine Zi ?_
 refine UQ (s' := ⟨186,[(2,.ref 1 0),(5,.ref 2 0),(12,.int .i64 0)],u9⟩) (Ko) ?_
 refine UQ (s' := ⟨186,[(2,.ref 1 0),(5,.ref 2 0),(12,.int .i64 0)],[.box u2,.box [.sl true 4 0 (fun _ => []),.sl true 1 0 (fun _ => [])],.box [sL 4 ZT y26,.asl 3 0 (([] : List Int).length)],aL 1 (ci .i64) ([] : List Int)]⟩) (ZgA (nt := 186) (e := [(2,.ref 1 0),(5,.ref 2 0),(12,.int .i64 0)]) (H := u9) (cells := [sL 4 ZT y26,.sl true 1 0 (fun _ => [])]) (wd := 1) (f := fun _ => []) 2 1 rfl rfl 1 (fun i => (ci .i64) (([] : List Int).getD i default))) ?_
 obtain ⟨y31,q136,h137⟩ := bind_some h115
 let u11 : List (Nat × D) := [(2,.ref 1 0),(5,.ref 2 0),(183,.bool (decide ((y31.length : Int) > 12)))]
 refine UQ (s' := ⟨186,[(2,.ref 1 0),(5,.ref 2 0),(12,.int .i64 0)],[.box u2,.box [.sl true 4 0 (fun _ => []),.sl true 1 0 (fun _ => [])],.box [sL 4 ZT y26,.asl 3 0 (([] : List Int).length)],aL 1 (ci .i64) ([] : List Int)]⟩) (Ko) ?_
 refine Rn (Zgi (f := M.Ue y26) (S := fun (p28 : (List Int) × Int) => ⟨186,[(2,.ref 1 0),(5,.ref 2 0),(12,.int .i64 p28.2)],[.box u2,.box [.sl true 4 0 (fun _ => []),.sl true 1 0 (fun _ => [])],.box [sL 4 ZT y26,.asl 3 0 p28.1.length],aL 1 (ci .i64) p28.1]⟩) (O := (fun z => OutE 6 (fun z => ⟨186,u16,[.box u2,.box [.sl true 4 0 (fun _ => []),.sl true 1 0 (fun _ => [])],.box [sL 4 ZT y26,.asl 3 0 z.length],aL 1 (ci .i64) z]⟩) z)) ?_ (x := (([] : List Int),0)) (y := y31) (UD q136)) ?_
 intro p28 y29 h123
 let u25 := (((y26.getD p28.2.toNat default).Xo).length : Int)
 let u33 := p28.1.length + 1
 unfold M.Ue at h123
 refine Za (Za (rg0 [2,5,12,163] 4 ⟨186,[(2,.ref 1 0),(5,.ref 2 0),(12,.int .i64 p28.2),(163,.bool (decide (p28.2 < u32)))],[.box u2,.box [.sl true 4 0 (fun _ => []),.sl true 1 0 (fun _ => [])],.box [sL 4 ZT y26,.asl 3 0 p28.1.length],aL 1 (ci .i64) p28.1]⟩ ?_))
 refine Zb ?_
 refine cnd (decide (p28.2 < u32)) (fun b124 => ?_) (fun b124 => ?_)
 have h125 := Kp b124 h123
 refine Zd (Zb ?_)
 refine UT (fun (p30 : (List Int)) => ⟨186,[(2,.ref 1 0),(5,.ref 2 0),(12,.int .i64 p28.2)],[.box u2,.box [.sl true 4 0 (fun _ => []),.sl true 1 0 (fun _ => [])],.box [sL 4 ZT y26,.asl 3 0 p30.length],aL 1 (ci .i64) p30]⟩) (fun p30 => M.UY p28 p30 = some y29) ?_ ?_
 intro p30 h128
 unfold M.UY at h128
 refine rg0 [2,5,12] 4 ⟨186,[(2,.ref 1 0),(5,.ref 2 0),(12,.int .i64 (wr .i64 (p28.2 + 1)))],[.box u2,.box [.sl true 4 0 (fun _ => []),.sl true 1 0 (fun _ => [])],.box [sL 4 ZT y26,.asl 3 0 p30.length],aL 1 (ci .i64) p30]⟩ ?_
 obtain rfl := Option.some.inj h128
 exact ZhV (Ko)
 intro k127
 refine Zi (Za ?_)
 obtain ⟨c129,h130⟩ := Zz h125
 refine rgc [2,5,12,173] 4 ⟨186,[(2,.ref 1 0),(5,.ref 2 0),(12,.int .i64 p28.2),(173,.bool (decide (u25 > 1)))],[.box u2,.box [.sl true 4 0 (fun _ => []),.sl true 1 0 (fun _ => [])],.box [sL 4 ZT y26,.asl 3 0 p28.1.length],aL 1 (ci .i64) p28.1]⟩ [decide (0 ≤ p28.2),decide (p28.2 < u32)] c129 ?_
 refine Zb ?_
 refine cnd (decide (u25 > 1)) (fun b131 => ?_) (fun b131 => ?_)
 have h132 := Kp b131 h130
 obtain ⟨c134,h135⟩ := Zz h132
 refine rgc [2,5,12] 4 ⟨186,[(2,.ref 1 0),(5,.ref 2 0),(12,.int .i64 p28.2)],[.box u2,.box [.sl true 4 0 (fun _ => []),.sl true 1 0 (fun _ => [])],.box [sL 4 ZT y26,.asl 3 0 u33],.arr 1 u33 (app (fun i => (ci .i64) (p28.1.getD i default)) p28.1.length (fun i => List.take 1 (List.drop (i * 1) [.int .i64 p28.2])))]⟩ [decide (u33 * 8 ≤ 140737488355328)] c134 ?_
 refine XK ?_
 exact XJ (VB (.cons Sub.rfl (.cons Sub.rfl (.cons Sub.rfl .nil))) (.cons .rfl (.cons .rfl (.cons (.box (.cons CSub.rfl (.cons (Rq (Zed _ _)) .nil))) (.cons (.arr (Zed _ _) (Zec (ci .i64) p28.1 p28.2 _ rfl)) .nil))))) (k127 (p28.1 ++ [p28.2]) h135)
 have h133 := Kq b131 h130
 refine Zd (XK ?_)
 exact XJ (kp [2,5,12]) (k127 p28.1 h133)
 have h126 := Kq b124 h123
 refine ZH (Xn ?_)
 obtain rfl := Option.some.inj h126
 exact ZhW ⟨rfl,kp [2,5]⟩
 intro e138 s139 o140
 obtain ⟨rfl,l141⟩ := o140
 refine YP ?_
 refine XJ (s' := ⟨186,u16,[.box u2,.box [.sl true 4 0 (fun _ => []),.sl true 1 0 (fun _ => [])],.box [sL 4 ZT y26,.asl 3 0 y31.length],aL 1 (ci .i64) y31]⟩) (l141) ?_
 refine Za (Za (rg0 [2,5,183] 4 ⟨186,u11,[.box u2,.box [.sl true 4 0 (fun _ => []),.sl true 1 0 (fun _ => [])],.box [sL 4 ZT y26,.asl 3 0 y31.length],aL 1 (ci .i64) y31]⟩ ?_))
 refine Zb ?_
 refine cnd (decide ((y31.length : Int) > 12)) (fun b142 => ?_) (fun b142 => ?_)
 have h143 := Kp b142 h137
 refine Za (rg0 [2,3] 2 ⟨186,[(2,.ref 1 0),(3,.int .i64 7)],u7⟩ ?_)
 refine Zb (Zg (Zh ?_))
 obtain rfl := Option.some.inj h143
 exact er (.tup [.agg [.sl false 4 0 (fun _ => []),.sl false 1 0 (fun _ => [])],.int .i64 7]) (Ra (.cons (Kr (.cons Q6 (.cons Q6 .nil))) (.cons ASub.rfl .nil)))
 have h144 := Kq b142 h137
 refine Zd (Zb (Za ?_))
 refine UQ (s' := ⟨186,u11,[.box u2,.box [.sl true 4 0 (fun _ => []),.sl true 1 0 (fun _ => [])],.box [sL 4 ZT y26,.sl false 1 y31.length (fun k => (fun i => (ci .i64) (y31.getD i default)) (0 + k))],aL 1 (ci .i64) ([] : List Int)]⟩) (Le.trans ((ZbV (s := ⟨186,u11,[.box u2,.box [.sl true 4 0 (fun _ => []),.sl true 1 0 (fun _ => [])],.box [sL 4 ZT y26,.asl 3 0 y31.length],aL 1 (ci .i64) y31]⟩) (s' := ⟨186,u11,[.box u2,.box [.sl true 4 0 (fun _ => []),.sl true 1 0 (fun _ => [])],.box [sL 4 ZT y26,.sl false 1 y31.length (fun k => (fun i => (ci .i64) (y31.getD i default)) (0 + k))],aL 1 (ci .i64) ([] : List Int)]⟩) 3 1 y31.length (fun i => (ci .i64) (y31.getD i default)) (fun i => (ci .i64) (([] : List Int).getD i default)) (by kernel_rfl) (by kernel_rfl) (by kernel_rfl))) (kp [2,5,183])) ?_
 refine rg0 [2,3] 2 ⟨186,[(2,.ref 1 0),(3,.int .i64 0)],[.box u2,.box [sL 4 ZT y26,.sl false 1 y31.length (fun k => (fun i => (ci .i64) (y31.getD i default)) (0 + k))]]⟩ ?_
 refine XJ (s' := ⟨186,[(2,.ref 1 0),(3,.int .i64 0)],[.box u2,.box [sL 4 ZT y26,sL 1 (ci .i64) y31]]⟩) (VB (.cons Sub.rfl (.cons Sub.rfl .nil)) (.cons .rfl (.cons (.box (.cons CSub.rfl (.cons (KP rfl (RZ (f := fun i => (ci .i64) (y31.getD i default)) (fun _ _ => rfl))) .nil))) .nil))) ?_
 refine Zg ?_
 obtain rfl := Option.some.inj h144
 exact er0 (.tup [.agg [sL 4 ZT y26,sL 1 (ci .i64) y31],.int .i64 0])
theorem ZdL (a0 : List Int) (a1 : Int) (r : Bool) (h : M.Vq a0 a1 = some r) : Fn Tryz.prog 50 [sL 1 (ci .i64) a0,.int .i64 a1] (.pure (.bool r)) := by
 unfold M.Vq at h
 refine ZL Tryz.func50 rfl (by kernel_rfl) (Za (zg [0,1] 0 (Zb (Za (Za (zg [0,1,8] 0 (Zb (cn h (fun _ h2 => ?_) (fun _ h3 => ?_)))))))))
 exact Za (zg [4] 0 (Zb (Zg (Zh (er1 h2)))))
 refine Zd (Zb (Za (Za (zg [0,1,5] 0 (Zb (Zi ?_))))))
 obtain ⟨y3,q13,h14⟩ := bind_some h3
 refine zl (fun (p1 : Int) => ⟨44,[(0,sL 1 (ci .i64) a0),(1,.int .i64 a1),(5,.int .i64 p1)],[]⟩) (Sum.elim (fun z => OutE 0 (fun z => ⟨44,[],[]⟩) z) (fun z => OutR Tryz.prog Tryz.f50 (.bool z))) q13 ?_ ?_
 intro p1 y2 h4
 unfold M.Jq at h4
 refine Za (Za (zg [0,1,5,12] 0 (Zb (cn h4 (fun _ h6 => ?_) (fun _ h7 => ?_)))))
 refine Zd (Zb (Za (Zi (Za ?_))))
 obtain ⟨c8,h9⟩ := Zz h6
 refine zc [0,1,5,43] 0 c8 (Zb (cn h9 (fun _ h11 => ?_) (fun _ h12 => ?_)))
 exact Za (zg [4] 0 (Zb (Zg (ZC (Zh (rr h11 ⟨rfl,er0 _⟩))))))
 exact Zd (XK (Zb (zg [0,1,5] 0 (rn h12))))
 exact ZH (Xn (re h7 ⟨rfl,kq⟩))
 intro e15 s16 o17
 rcases y3 with g4 | y5
 have h18 := XG h14
 exact zi o17 (Za (zg [4] 0 (Zb (Zg (er1 h18)))))
 have h19 := XH h14
 obtain ⟨rfl,n21⟩ := o17
 refine ZC (Zh ?_)
 obtain rfl := Option.some.inj h19
 exact n21
theorem Zha (a0 : ZG) (a1 : List Int) (r : WG × Int) (h : M.Rt a0 a1 = some r) : Fn Tryz.prog 17 [.agg (X3 a0),sL 1 (ci .i64) a1] (.pure (.tup [.agg (Gw r.1),.int .i64 r.2])) := by
 let u1 : List Bool := [decide (0 = 0) || decide (0 < a1.length),decide ((0 + a1.length) * 8 ≤ 140737488355328)]
 let u3 := X3 a0
 unfold M.Rt at h
 refine ZL Tryz.func17 rfl (by kernel_rfl) (Za (zg [1,2,4] 2 (Zb (Za ?_))))
 obtain ⟨r1,q1,h2⟩ := bind_some h
 let u2 := Wr r1.1
 refine zr [1,2,4,6,7] 3 ZA (rq1 (ZgL _ _ q1) rqn) (Zb (Za (Za (zg [1,2,4,6,7,14] 3 (Zb (cn h2 (fun _ h4 => ?_) (fun _ h5 => ?_)))))))
 refine Za (zg [4,5] 2 (Zb (Zg (Zh ?_))))
 obtain rfl := Option.some.inj h4
 exact er (.tup [.agg [.sl false 25 0 (fun _ => []),.sl false 4 0 (fun _ => []),.sl false 1 0 (fun _ => []),.sl false 1 0 (fun _ => [])],.int .i64 r1.2]) (Ra (.cons (Kr (.cons Q6 (.cons Q6 (.cons Q6 (.cons Q6 .nil))))) (.cons ASub.rfl .nil)))
 refine Zd (Zb (Za (Za ?_)))
 obtain ⟨r2,q6,h7⟩ := bind_some h5
 refine rg [.pure (.bool r2)] [1,2,4,6,22] 3 ⟨30,[(1,sL 1 (ci .i64) a1),(2,.ref 0 0),(4,.ref 1 0),(6,.ref 2 0),(22,.bool (!r2))],[.box u3,.box [.sl true 25 0 (fun _ => []),.sl true 4 0 (fun _ => []),.sl true 1 0 (fun _ => []),.sl true 1 0 (fun _ => [])],.box u2]⟩ [] [⟨true,50,[sL 1 (ci .i64) a1,.int .i64 (r1.1.Js.length : Int)],.pure (.bool r2)⟩] ZA ⟨fun _ => ZdL a1 (r1.1.Js.length : Int) r2 q6,trivial⟩ (Zb (cn h7 (fun _ h9 => ?_) (fun _ h10 => ?_)))
 refine Za (zg [4,5] 2 (Zb (Zg (Zh ?_))))
 obtain rfl := Option.some.inj h9
 exact er (.tup [.agg [.sl false 25 0 (fun _ => []),.sl false 4 0 (fun _ => []),.sl false 1 0 (fun _ => []),.sl false 1 0 (fun _ => [])],.int .i64 1]) (Ra (.cons (Kr (.cons Q6 (.cons Q6 (.cons Q6 (.cons Q6 .nil))))) (.cons ASub.rfl .nil)))
 refine Zd (Zb (Za ?_))
 obtain ⟨c11,h12⟩ := Zz h10
 refine rgU [1,2,4,5,6,22,24,25,26,27,28,29] [([],[],[]),([],[],[]),([],[],[]),([],[],[]),([],u1,[]),([],[],[]),([],[],[]),([],[],[])] [4,5] 4 ⟨30,[(4,.ref 1 0),(5,.int .i64 0)],[.box u3,.box [sL 25 Zu a0.Ze,sL 4 ZT r1.1.XQ,sL 1 (ci .i64) r1.1.Js,.asl 3 0 (0 + a1.length)],.box u2,.arr 1 (0 + a1.length) (app (fun i => List.take 1 (List.drop (i * 1) [])) 0 (fun i => (ci .i64) (a1.getD i default)))]⟩ u1 [] c11 trivial (XJ (s' := ⟨30,[(4,.ref 1 0),(5,.int .i64 0)],[.box u3,.box [sL 25 Zu a0.Ze,sL 4 ZT r1.1.XQ,sL 1 (ci .i64) r1.1.Js,sL 1 (ci .i64) (a1 : List Int)],.box u2,aL 1 (ci .i64) ([] : List Int)]⟩) (Le.trans (ZbV (s := ⟨30,[(4,.ref 1 0),(5,.int .i64 0)],[.box u3,.box [sL 25 Zu a0.Ze,sL 4 ZT r1.1.XQ,sL 1 (ci .i64) r1.1.Js,.asl 3 0 (0 + a1.length)],.box u2,.arr 1 (0 + a1.length) (app (fun i => List.take 1 (List.drop (i * 1) [])) 0 (fun i => (ci .i64) (a1.getD i default)))]⟩) (s' := ⟨30,[(4,.ref 1 0),(5,.int .i64 0)],[.box u3,.box [sL 25 Zu a0.Ze,sL 4 ZT r1.1.XQ,sL 1 (ci .i64) r1.1.Js,.sl false 1 (0 + a1.length) (fun k => (app (fun i => List.take 1 (List.drop (i * 1) [])) 0 (fun i => (ci .i64) (a1.getD i default))) (0 + k))],.box u2,aL 1 (ci .i64) ([] : List Int)]⟩) 3 1 (0 + a1.length) (app (fun i => List.take 1 (List.drop (i * 1) [])) 0 (fun i => (ci .i64) (a1.getD i default))) (fun i => (ci .i64) (([] : List Int).getD i default)) (by kernel_rfl) (by kernel_rfl) (by kernel_rfl)) (VB (.cons Sub.rfl (.cons Sub.rfl .nil)) (.cons .rfl (.cons (.box (.cons CSub.rfl (.cons CSub.rfl (.cons CSub.rfl (.cons (KP (Nat.zero_add _) (RZ (f := app (fun i => List.take 1 (List.drop (i * 1) [])) 0 (fun i => (ci .i64) (a1.getD i default))) (Uk (ci .i64) _ a1 _ (fun _ _ => rfl)))) .nil))))) (.cons .rfl (.cons .rfl .nil)))))) (Zg ?_))
 obtain rfl := Option.some.inj h12
 exact er0 (.tup [.agg [sL 25 Zu a0.Ze,sL 4 ZT r1.1.XQ,sL 1 (ci .i64) r1.1.Js,sL 1 (ci .i64) (a1 : List Int)],.int .i64 0])
theorem Zev (a0 : List Int) (a1 : List Int) (r : Bool) (h : M.UZ a0 a1 = some r) : Fn Tryz.prog 18 [sL 1 (ci .i64) a0,sL 1 (ci .i64) a1] (.pure (.bool r)) := by
 unfold M.UZ at h
 refine ZL Tryz.func18 rfl (by kernel_rfl) (Za (zg [0,1] 0 (Zb (Za (Za (zg [0,1,10] 0 (Zb (cn h (fun _ h2 => ?_) (fun _ h3 => ?_)))))))))
 exact Za (zg [4] 0 (Zb (Zg (Zh (er1 h2)))))
 refine Zd (Zb (Za (Za (zg [0,1,5] 0 (Zb (Zi ?_))))))
 obtain ⟨y3,q13,h14⟩ := bind_some h3
 refine zl (fun (p1 : Int) => ⟨26,[(0,sL 1 (ci .i64) a0),(1,sL 1 (ci .i64) a1),(5,.int .i64 p1)],[]⟩) (Sum.elim (fun z => OutE 0 (fun z => ⟨26,[],[]⟩) z) (fun z => OutR Tryz.prog Tryz.f18 (.bool z))) q13 ?_ ?_
 intro p1 y2 h4
 unfold M.WN at h4
 refine Za (Za (zg [0,1,5,14] 0 (Zb (cn h4 (fun _ h6 => ?_) (fun _ h7 => ?_)))))
 refine Zd (Zb (Za (Zi (Za ?_))))
 obtain ⟨c8,h9⟩ := Zz h6
 refine zc [0,1,5,25] 0 c8 (Zb (cn h9 (fun _ h11 => ?_) (fun _ h12 => ?_)))
 exact Za (zg [4] 0 (Zb (Zg (ZC (Zh (rr h11 ⟨rfl,er0 _⟩))))))
 exact Zd (XK (Zb (zg [0,1,5] 0 (rn h12))))
 exact ZH (Xn (re h7 ⟨rfl,kq⟩))
 intro e15 s16 o17
 rcases y3 with g4 | y5
 have h18 := XG h14
 exact zi o17 (Za (zg [4] 0 (Zb (Zg (er1 h18)))))
 have h19 := XH h14
 obtain ⟨rfl,n21⟩ := o17
 refine ZC (Zh ?_)
 obtain rfl := Option.some.inj h19
 exact n21
theorem Zig (a0 : List V8) (a1 : List V8) (r : Bool) (h : M.Gp a0 a1 = some r) : Fn Tryz.prog 31 [sL 2 XE a0,sL 2 XE a1] (.pure (.bool r)) := by
 unfold M.Gp at h
 refine ZL Tryz.func31 rfl (by kernel_rfl) (Za (zg [0,1] 0 (Zb (Za (Za (zg [0,1,10] 0 (Zb (cn h (fun _ h2 => ?_) (fun _ h3 => ?_)))))))))
 exact Za (zg [4] 0 (Zb (Zg (Zh (er1 h2)))))
 refine Zd (Zb (Za (Za (zg [0,1,5] 0 (Zb (Zi ?_))))))
 obtain ⟨y3,q13,h14⟩ := bind_some h3
 refine zl (fun (p1 : Int) => ⟨26,[(0,sL 2 XE a0),(1,sL 2 XE a1),(5,.int .i64 p1)],[]⟩) (Sum.elim (fun z => OutE 0 (fun z => ⟨26,[],[]⟩) z) (fun z => OutR Tryz.prog Tryz.f31 (.bool z))) q13 ?_ ?_
 intro p1 y2 h4
 unfold M.WO at h4
 refine Za (Za (zg [0,1,5,14] 0 (Zb (cn h4 (fun _ h6 => ?_) (fun _ h7 => ?_)))))
 refine Zd (Zb (Za (Zi (Za ?_))))
 obtain ⟨c8,h9⟩ := Zz h6
 refine zc [0,1,5,25] 0 c8 (Zb (cn h9 (fun _ h11 => ?_) (fun _ h12 => ?_)))
 exact Za (zg [4] 0 (Zb (Zg (ZC (Zh (rr h11 ⟨rfl,er0 _⟩))))))
 exact Zd (XK (Zb (zg [0,1,5] 0 (rn h12))))
 exact ZH (Xn (re h7 ⟨rfl,kq⟩))
 intro e15 s16 o17
 rcases y3 with g4 | y5
 have h18 := XG h14
 exact zi o17 (Za (zg [4] 0 (Zb (Zg (er1 h18)))))
 have h19 := XH h14
 obtain ⟨rfl,n21⟩ := o17
 refine ZC (Zh ?_)
 obtain rfl := Option.some.inj h19
 exact n21
theorem Zbv (a0 : Yl) (a1 : Yl) (r : Bool) (h : M.Uf a0 a1 = some r) : Fn Tryz.prog 14 [.agg (Wr a0),.agg (Wr a1)] (.pure (.bool r)) := by
 unfold M.Uf at h
 refine ZL Tryz.func14 rfl (by kernel_rfl) (Za (zg [2,3] 2 (Zb (Za (Za ?_)))))
 obtain ⟨r1,q1,h2⟩ := bind_some h
 refine zr [2,3,22] 2 ZA (rq2 (fun hg => Zev _ _ _ (Xj q1 hg)) rqn) (Zb (cn h2 (fun _ h4 => ?_) (fun _ h5 => ?_)))
 exact Za (zg [4] 0 (Zb (Zg (Zh (er1 h4)))))
 refine Zd (Zb (Za (Za (zg [2,3,5] 2 (Zb (Zi ?_))))))
 obtain ⟨y5,q17,h18⟩ := bind_some h5
 refine zl (fun (p2 : Int) => ⟨60,[(2,.ref 0 0),(3,.ref 1 0),(5,.int .i64 p2)],[.box (Wr a0),.box (Wr a1)]⟩) (Sum.elim (fun z => OutE 0 (fun z => ⟨60,[],[]⟩) z) (fun z => OutR Tryz.prog Tryz.f14 (.bool z))) q17 ?_ ?_
 intro p2 y3 h6
 unfold M.VJ at h6
 refine Za (Za (zg [2,3,5,27] 2 (Zb (cn h6 (fun _ h8 => ?_) (fun _ h9 => ?_)))))
 refine Zd (Zb (Za (Zi (Za ?_))))
 obtain ⟨c10,h11⟩ := Zz h8
 refine rgs 10 12 [] [2,3,5,6,7] 4 ⟨60,[(2,.ref 0 0),(3,.ref 1 0),(5,.int .i64 p2),(6,.ref 2 0),(7,.ref 3 0)],[.box (Wr a0),.box (Wr a1),.box (ZT (a0.XQ.getD p2.toNat default)),.box (ZT (a1.XQ.getD p2.toNat default))]⟩ [decide (0 ≤ p2),decide (p2 < (a0.XQ.length : Int)),decide (0 ≤ p2),decide (p2 < (a1.XQ.length : Int))] [] c10 trivial (Zb (Za ?_))
 obtain ⟨r4,q12,h13⟩ := bind_some h11
 refine zr [2,3,5,59] 2 ZA (rq2 (fun hg => Zig _ _ _ (Xj q12 hg)) rqn) (Zb (cn h13 (fun _ h15 => ?_) (fun _ h16 => ?_)))
 exact Za (zg [4] 0 (Zb (Zg (ZC (Zh (rr h15 ⟨rfl,er0 _⟩))))))
 exact Zd (XK (Zb (zg [2,3,5] 2 (rn h16))))
 exact ZH (Xn (re h9 ⟨rfl,kc⟩))
 intro e19 s20 o21
 rcases y5 with g6 | y7
 have h22 := XG h18
 exact zi o21 (Za (zg [4] 0 (Zb (Zg (er1 h22)))))
 have h23 := XH h18
 obtain ⟨rfl,n25⟩ := o21
 refine ZC (Zh ?_)
 obtain rfl := Option.some.inj h23
 exact n25
theorem Zew (a0 : Zf) (a1 : Zf) (r : Bool) (h : M.GH a0 a1 = some r) : Fn Tryz.prog 70 [.agg (Zu a0),.agg (Zu a1)] (.pure (.bool r)) := by
 let u6 := Zu a0
 let u7 := Zu a1
 let u1 : List Ob := [.box u6,.box u7]
 let u5 : St := ⟨189,[(2,.ref 0 0),(3,.ref 1 0)],u1⟩
 unfold M.GH at h
 refine ZL Tryz.func70 rfl (by kernel_rfl) (Za (zg [2,3] 2 (Zb (Za (Za (zg [2,3,41] 2 (Zb (cn h (fun _ h2 => ?_) (fun _ h3 => ?_)))))))))
 exact Za (zg [4] 0 (Zb (Zg (Zh (er1 h2)))))
 refine Zd (Zb (Za (Za (zg [2,3,5] 2 (Zb (Zi ?_))))))
 obtain ⟨y8,q31,h32⟩ := bind_some h3
 refine zl (fun (p1 : Int) => ⟨189,[(2,.ref 0 0),(3,.ref 1 0),(5,.int .i64 p1)],u1⟩) (Sum.elim (fun z => OutE 0 (fun z => u5) z) (fun z => OutR Tryz.prog Tryz.f70 (.bool z))) q31 ?_ ?_
 intro p1 y2 h4
 let u2 : List Ob := [.box u6,.box u7,.box (Zv (a0.Z1.getD p1.toNat default)),.box (Zv (a1.Z1.getD p1.toNat default))]
 unfold M.Uv at h4
 refine Za (Za (zg [2,3,5,46] 2 (Zb (cn h4 (fun _ h6 => ?_) (fun _ h7 => ?_)))))
 refine Zd (Zb (Za (Zi (Za ?_))))
 obtain ⟨c8,h9⟩ := Zz h6
 refine rgs 10 12 [] [2,3,5,6,7] 4 ⟨189,[(2,.ref 0 0),(3,.ref 1 0),(5,.int .i64 p1),(6,.ref 2 0),(7,.ref 3 0)],u2⟩ [decide (0 ≤ p1),decide (p1 < (a0.Z1.length : Int)),decide (0 ≤ p1),decide (p1 < (a1.Z1.length : Int))] [] c8 trivial (Zb (Za (Za (zg [2,3,5,6,7,72] 4 (Zb (cn h9 (fun _ h11 => ?_) (fun _ h12 => ?_)))))))
 exact Za (zg [4] 0 (Zb (Zg (Zh (ZC (Zh (rr h11 ⟨rfl,er0 _⟩)))))))
 refine Zd (Zb (Za (zg [2,3,5,6,7,8] 4 (Zb (Zi ?_)))))
 obtain ⟨y5,q22,h23⟩ := bind_some h12
 refine zl (fun (p3 : Int) => ⟨189,[(2,.ref 0 0),(3,.ref 1 0),(5,.int .i64 p1),(6,.ref 2 0),(7,.ref 3 0),(8,.int .i64 p3)],u2⟩) (Sum.elim (fun z => OutE 2 (fun z => ⟨189,[(2,.ref 0 0),(3,.ref 1 0),(5,.int .i64 p1)],u1⟩) z) (fun z => OutR Tryz.prog Tryz.f70 (.bool z))) q22 ?_ ?_
 intro p3 y4 h13
 unfold M.Uu at h13
 refine Za (Za (zg [2,3,5,6,7,8,77] 4 (Zb (cn h13 (fun _ h15 => ?_) (fun _ h16 => ?_)))))
 refine Zd (Zb (Za (Zi (Za ?_))))
 obtain ⟨c17,h18⟩ := Zz h15
 refine zc [2,3,5,6,7,8,90] 4 c17 (Zb (cn h18 (fun _ h20 => ?_) (fun _ h21 => ?_)))
 exact Za (zg [4] 0 (Zb (Zg (ZC (Zh (rr h20 ⟨rfl,er0 _⟩))))))
 exact Zd (XK (Zb (zg [2,3,5,6,7,8] 4 (rn h21))))
 exact ZH (Xn (re h16 ⟨rfl,kc⟩))
 intro e24 s25 o26
 rcases y5 with g6 | y7
 have h27 := XG h23
 obtain ⟨rfl,l29⟩ := o26
 exact YP (XK (XJ (s' := ⟨189,[(2,.ref 0 0),(3,.ref 1 0),(5,.int .i64 p1)],u1⟩) (l29) (zg [2,3,5] 2 (rn h27))))
 have h28 := XH h23
 obtain ⟨rfl,n30⟩ := o26
 exact ZC (ZC (Zh (rr h28 ⟨rfl,n30⟩)))
 exact ZH (Xn (re h7 ⟨rfl,kq⟩))
 intro e33 s34 o35
 rcases y8 with g9 | y10
 have h36 := XG h32
 refine zi o35 (Za (Za (zg [2,3,9] 2 (Zb (Zi ?_)))))
 obtain ⟨y18,q66,h67⟩ := bind_some h36
 refine zl (fun (p11 : Int) => ⟨189,[(2,.ref 0 0),(3,.ref 1 0),(9,.int .i64 p11)],u1⟩) (Sum.elim (fun z => OutE 4 (fun z => u5) z) (fun z => OutR Tryz.prog Tryz.f70 (.bool z))) q66 ?_ ?_
 intro p11 y12 h39
 let u3 : List Ob := [.box u6,.box u7,.box (ZQ (a0.ZR.getD p11.toNat default)),.box (ZQ (a1.ZR.getD p11.toNat default))]
 unfold M.Ux at h39
 refine Za (Za (zg [2,3,9,95] 2 (Zb (cn h39 (fun _ h41 => ?_) (fun _ h42 => ?_)))))
 refine Zd (Zb (Za (Zi (Za ?_))))
 obtain ⟨c43,h44⟩ := Zz h41
 refine rgs 10 12 [] [2,3,9,10,11] 4 ⟨189,[(2,.ref 0 0),(3,.ref 1 0),(9,.int .i64 p11),(10,.ref 2 0),(11,.ref 3 0)],u3⟩ [decide (0 ≤ p11),decide (p11 < (a0.ZR.length : Int)),decide (0 ≤ p11),decide (p11 < (a1.ZR.length : Int))] [] c43 trivial (Zb (Za (Za (zg [2,3,9,10,11,121] 4 (Zb (cn h44 (fun _ h46 => ?_) (fun _ h47 => ?_)))))))
 exact Za (zg [4] 0 (Zb (Zg (Zh (ZC (Zh (rr h46 ⟨rfl,er0 _⟩)))))))
 refine Zd (Zb (Za (zg [2,3,9,10,11,12] 4 (Zb (Zi ?_)))))
 obtain ⟨y15,q57,h58⟩ := bind_some h47
 refine zl (fun (p13 : Int) => ⟨189,[(2,.ref 0 0),(3,.ref 1 0),(9,.int .i64 p11),(10,.ref 2 0),(11,.ref 3 0),(12,.int .i64 p13)],u3⟩) (Sum.elim (fun z => OutE 6 (fun z => ⟨189,[(2,.ref 0 0),(3,.ref 1 0),(9,.int .i64 p11)],u1⟩) z) (fun z => OutR Tryz.prog Tryz.f70 (.bool z))) q57 ?_ ?_
 intro p13 y14 h48
 unfold M.Uw at h48
 refine Za (Za (zg [2,3,9,10,11,12,126] 4 (Zb (cn h48 (fun _ h50 => ?_) (fun _ h51 => ?_)))))
 refine Zd (Zb (Za (Zi (Za ?_))))
 obtain ⟨c52,h53⟩ := Zz h50
 refine zc [2,3,9,10,11,12,139] 4 c52 (Zb (cn h53 (fun _ h55 => ?_) (fun _ h56 => ?_)))
 exact Za (zg [4] 0 (Zb (Zg (ZC (Zh (rr h55 ⟨rfl,er0 _⟩))))))
 exact Zd (XK (Zb (zg [2,3,9,10,11,12] 4 (rn h56))))
 exact ZH (Xn (re h51 ⟨rfl,kc⟩))
 intro e59 s60 o61
 rcases y15 with g16 | y17
 have h62 := XG h58
 obtain ⟨rfl,l64⟩ := o61
 exact YP (XK (XJ (s' := ⟨189,[(2,.ref 0 0),(3,.ref 1 0),(9,.int .i64 p11)],u1⟩) (l64) (zg [2,3,9] 2 (rn h62))))
 have h63 := XH h58
 obtain ⟨rfl,n65⟩ := o61
 exact ZC (ZC (Zh (rr h63 ⟨rfl,n65⟩)))
 exact ZH (Xn (re h42 ⟨rfl,kq⟩))
 intro e68 s69 o70
 rcases y18 with g19 | y20
 have h71 := XG h67
 refine zi o70 (Za (Za (zg [2,3,13] 2 (Zb (Zi ?_)))))
 obtain ⟨y28,q101,h102⟩ := bind_some h71
 refine zl (fun (p21 : Int) => ⟨189,[(2,.ref 0 0),(3,.ref 1 0),(13,.int .i64 p21)],u1⟩) (Sum.elim (fun z => OutE 8 (fun z => ⟨189,[],[]⟩) z) (fun z => OutR Tryz.prog Tryz.f70 (.bool z))) q101 ?_ ?_
 intro p21 y22 h74
 let u4 : List Ob := [.box u6,.box u7,.box (Yq (a0.Xh.getD p21.toNat default)),.box (Yq (a1.Xh.getD p21.toNat default))]
 unfold M.Uz at h74
 refine Za (Za (zg [2,3,13,144] 2 (Zb (cn h74 (fun _ h76 => ?_) (fun _ h77 => ?_)))))
 refine Zd (Zb (Za (Zi (Za ?_))))
 obtain ⟨c78,h79⟩ := Zz h76
 refine rgs 10 12 [] [2,3,13,14,15] 4 ⟨189,[(2,.ref 0 0),(3,.ref 1 0),(13,.int .i64 p21),(14,.ref 2 0),(15,.ref 3 0)],u4⟩ [decide (0 ≤ p21),decide (p21 < (a0.Xh.length : Int)),decide (0 ≤ p21),decide (p21 < (a1.Xh.length : Int))] [] c78 trivial (Zb (Za (Za (zg [2,3,13,14,15,170] 4 (Zb (cn h79 (fun _ h81 => ?_) (fun _ h82 => ?_)))))))
 exact Za (zg [4] 0 (Zb (Zg (Zh (ZC (Zh (rr h81 ⟨rfl,er0 _⟩)))))))
 refine Zd (Zb (Za (zg [2,3,13,14,15,16] 4 (Zb (Zi ?_)))))
 obtain ⟨y25,q92,h93⟩ := bind_some h82
 refine zl (fun (p23 : Int) => ⟨189,[(2,.ref 0 0),(3,.ref 1 0),(13,.int .i64 p21),(14,.ref 2 0),(15,.ref 3 0),(16,.int .i64 p23)],u4⟩) (Sum.elim (fun z => OutE 10 (fun z => ⟨189,[(2,.ref 0 0),(3,.ref 1 0),(13,.int .i64 p21)],u1⟩) z) (fun z => OutR Tryz.prog Tryz.f70 (.bool z))) q92 ?_ ?_
 intro p23 y24 h83
 unfold M.Uy at h83
 refine Za (Za (zg [2,3,13,14,15,16,175] 4 (Zb (cn h83 (fun _ h85 => ?_) (fun _ h86 => ?_)))))
 refine Zd (Zb (Za (Zi (Za ?_))))
 obtain ⟨c87,h88⟩ := Zz h85
 refine zc [2,3,13,14,15,16,188] 4 c87 (Zb (cn h88 (fun _ h90 => ?_) (fun _ h91 => ?_)))
 exact Za (zg [4] 0 (Zb (Zg (ZC (Zh (rr h90 ⟨rfl,er0 _⟩))))))
 exact Zd (XK (Zb (zg [2,3,13,14,15,16] 4 (rn h91))))
 exact ZH (Xn (re h86 ⟨rfl,kc⟩))
 intro e94 s95 o96
 rcases y25 with g26 | y27
 have h97 := XG h93
 obtain ⟨rfl,l99⟩ := o96
 exact YP (XK (XJ (s' := ⟨189,[(2,.ref 0 0),(3,.ref 1 0),(13,.int .i64 p21)],u1⟩) (l99) (zg [2,3,13] 2 (rn h97))))
 have h98 := XH h93
 obtain ⟨rfl,n100⟩ := o96
 exact ZC (ZC (Zh (rr h98 ⟨rfl,n100⟩)))
 exact ZH (Xn (re h77 ⟨rfl,kc⟩))
 intro e103 s104 o105
 rcases y28 with g29 | y30
 have h106 := XG h102
 exact zi o105 (Za (zg [4] 0 (Zb (Zg (er1 h106)))))
 have h107 := XH h102
 obtain ⟨rfl,n109⟩ := o105
 refine ZC (Zh ?_)
 obtain rfl := Option.some.inj h107
 exact n109
 have h72 := XH h67
 obtain ⟨rfl,n110⟩ := o70
 refine ZC (Zh ?_)
 obtain rfl := Option.some.inj h72
 exact n110
 have h37 := XH h32
 obtain ⟨rfl,n111⟩ := o35
 refine ZC (Zh ?_)
 obtain rfl := Option.some.inj h37
 exact n111
theorem Ka (a0 : List Yi) (a1 : List Yi) (r : Bool) (h : M.WW a0 a1 = some r) : Fn Tryz.prog 128 [sL 5 Zx a0,sL 5 Zx a1] (.pure (.bool r)) := by
 unfold M.WW at h
 refine ZL Tryz.func128 rfl (by kernel_rfl) (Za (zg [0,1] 0 (Zb (Za (Za (zg [0,1,10] 0 (Zb (cn h (fun _ h2 => ?_) (fun _ h3 => ?_)))))))))
 exact Za (zg [4] 0 (Zb (Zg (Zh (er1 h2)))))
 refine Zd (Zb (Za (Za (zg [0,1,5] 0 (Zb (Zi ?_))))))
 obtain ⟨y3,q13,h14⟩ := bind_some h3
 refine zl (fun (p1 : Int) => ⟨26,[(0,sL 5 Zx a0),(1,sL 5 Zx a1),(5,.int .i64 p1)],[]⟩) (Sum.elim (fun z => OutE 0 (fun z => ⟨26,[],[]⟩) z) (fun z => OutR Tryz.prog Tryz.f128 (.bool z))) q13 ?_ ?_
 intro p1 y2 h4
 unfold M.Ug at h4
 refine Za (Za (zg [0,1,5,14] 0 (Zb (cn h4 (fun _ h6 => ?_) (fun _ h7 => ?_)))))
 refine Zd (Zb (Za (Zi (Za ?_))))
 obtain ⟨c8,h9⟩ := Zz h6
 refine zc [0,1,5,25] 0 c8 (Zb (cn h9 (fun _ h11 => ?_) (fun _ h12 => ?_)))
 exact Za (zg [4] 0 (Zb (Zg (ZC (Zh (rr h11 ⟨rfl,er0 _⟩))))))
 exact Zd (XK (Zb (zg [0,1,5] 0 (rn h12))))
 exact ZH (Xn (re h7 ⟨rfl,kq⟩))
 intro e15 s16 o17
 rcases y3 with g4 | y5
 have h18 := XG h14
 exact zi o17 (Za (zg [4] 0 (Zb (Zg (er1 h18)))))
 have h19 := XH h14
 obtain ⟨rfl,n21⟩ := o17
 refine ZC (Zh ?_)
 obtain rfl := Option.some.inj h19
 exact n21
theorem Zbw (a0 : Zf) (a1 : Zf) (r : Bool) (h : M.Uh a0 a1 = some r) : Fn Tryz.prog 71 [.agg (Zu a0),.agg (Zu a1)] (.pure (.bool r)) := by
 let u1 : List Ob := [.box (Zu a0),.box (Zu a1),.box (W4 a0.ZW),.box (W4 a1.ZW)]
 let u2 : St := ⟨253,[(6,.ref 2 0),(7,.ref 3 0)],u1⟩
 let u3 : List Ob := [.box (Zu a0),.box (Zu a1)]
 unfold M.Uh at h
 refine ZL Tryz.func71 rfl (by kernel_rfl) (Za (zg [2,3] 2 (Zb (Za (Za ?_)))))
 obtain ⟨r1,q1,h2⟩ := bind_some h
 refine zr [2,3,48] 2 ZA (rq2 (fun hg => Ka _ _ _ (Xj q1 hg)) rqn) (Zb (cn h2 (fun _ h4 => ?_) (fun _ h5 => ?_)))
 exact Za (zg [4] 0 (Zb (Zg (Zh (er1 h4)))))
 refine Zd (Zb (Za (Za (zg [2,3,5] 2 (Zb (Zi ?_))))))
 obtain ⟨y4,q15,h16⟩ := bind_some h5
 refine zl (fun (p2 : Int) => ⟨253,[(2,.ref 0 0),(3,.ref 1 0),(5,.int .i64 p2)],u3⟩) (Sum.elim (fun z => OutE 0 (fun z => ⟨253,[(2,.ref 0 0),(3,.ref 1 0)],u3⟩) z) (fun z => OutR Tryz.prog Tryz.f71 (.bool z))) q15 ?_ ?_
 intro p2 y3 h6
 unfold M.Wt at h6
 refine Za (Za (zg [2,3,5,54] 2 (Zb (cn h6 (fun _ h8 => ?_) (fun _ h9 => ?_)))))
 refine Zd (Zb (Za (Zi (Za ?_))))
 obtain ⟨c10,h11⟩ := Zz h8
 refine zc [2,3,5,69] 2 c10 (Zb (cn h11 (fun _ h13 => ?_) (fun _ h14 => ?_)))
 exact Za (zg [4] 0 (Zb (Zg (ZC (Zh (rr h13 ⟨rfl,er0 _⟩))))))
 exact Zd (XK (Zb (zg [2,3,5] 2 (rn h14))))
 exact ZH (Xn (re h9 ⟨rfl,kq⟩))
 intro e17 s18 o19
 rcases y4 with g5 | y6
 have h20 := XG h16
 refine zi o19 (Za (Za ?_))
 obtain ⟨r7,q23,h24⟩ := bind_some h20
 refine zr [2,3,113] 2 ZA (rq2 (fun hg => Ka _ _ _ (Xj q23 hg)) rqn) (Zb (cn h24 (fun _ h26 => ?_) (fun _ h27 => ?_)))
 exact Za (zg [4] 0 (Zb (Zg (Zh (er1 h26)))))
 refine Zd (Zb (Za (rgs 4 6 [] [6,7] 4 u2 [] [] ZA trivial (Zb (Za (Za ?_))))))
 obtain ⟨r8,q28,h29⟩ := bind_some h27
 refine zr [6,7,180] 4 ZA (rq2 (fun hg => Ka _ _ _ (Xj q28 hg)) rqn) (Zb (cn h29 (fun _ h31 => ?_) (fun _ h32 => ?_)))
 exact Za (zg [4] 0 (Zb (Zg (Zh (er1 h31)))))
 refine Zd (Zb (Za (Za (zg [6,7,8] 4 (Zb (Zi ?_))))))
 obtain ⟨y11,q42,h43⟩ := bind_some h32
 refine zl (fun (p9 : Int) => ⟨253,[(6,.ref 2 0),(7,.ref 3 0),(8,.int .i64 p9)],u1⟩) (Sum.elim (fun z => OutE 2 (fun z => u2) z) (fun z => OutR Tryz.prog Tryz.f71 (.bool z))) q42 ?_ ?_
 intro p9 y10 h33
 unfold M.Wu at h33
 refine Za (Za (zg [6,7,8,185] 4 (Zb (cn h33 (fun _ h35 => ?_) (fun _ h36 => ?_)))))
 refine Zd (Zb (Za (Zi (Za ?_))))
 obtain ⟨c37,h38⟩ := Zz h35
 refine zc [6,7,8,198] 4 c37 (Zb (cn h38 (fun _ h40 => ?_) (fun _ h41 => ?_)))
 exact Za (zg [4] 0 (Zb (Zg (ZC (Zh (rr h40 ⟨rfl,er0 _⟩))))))
 exact Zd (XK (Zb (zg [6,7,8] 4 (rn h41))))
 exact ZH (Xn (re h36 ⟨rfl,kq⟩))
 intro e44 s45 o46
 rcases y11 with g12 | y13
 have h47 := XG h43
 refine zi o46 (Za (Za (zg [6,7,9] 4 (Zb (Zi ?_)))))
 obtain ⟨y16,q59,h60⟩ := bind_some h47
 refine zl (fun (p14 : Int) => ⟨253,[(6,.ref 2 0),(7,.ref 3 0),(9,.int .i64 p14)],u1⟩) (Sum.elim (fun z => OutE 4 (fun z => u2) z) (fun z => OutR Tryz.prog Tryz.f71 (.bool z))) q59 ?_ ?_
 intro p14 y15 h50
 unfold M.Wv at h50
 refine Za (Za (zg [6,7,9,203] 4 (Zb (cn h50 (fun _ h52 => ?_) (fun _ h53 => ?_)))))
 refine Zd (Zb (Za (Zi (Za ?_))))
 obtain ⟨c54,h55⟩ := Zz h52
 refine zc [6,7,9,216] 4 c54 (Zb (cn h55 (fun _ h57 => ?_) (fun _ h58 => ?_)))
 exact Za (zg [4] 0 (Zb (Zg (ZC (Zh (rr h57 ⟨rfl,er0 _⟩))))))
 exact Zd (XK (Zb (zg [6,7,9] 4 (rn h58))))
 exact ZH (Xn (re h53 ⟨rfl,kq⟩))
 intro e61 s62 o63
 rcases y16 with g17 | y18
 have h64 := XG h60
 refine zi o63 (Za (Za (zg [6,7,10] 4 (Zb (Zi ?_)))))
 obtain ⟨y21,q76,h77⟩ := bind_some h64
 refine zl (fun (p19 : Int) => ⟨253,[(6,.ref 2 0),(7,.ref 3 0),(10,.int .i64 p19)],u1⟩) (Sum.elim (fun z => OutE 6 (fun z => u2) z) (fun z => OutR Tryz.prog Tryz.f71 (.bool z))) q76 ?_ ?_
 intro p19 y20 h67
 unfold M.Ww at h67
 refine Za (Za (zg [6,7,10,221] 4 (Zb (cn h67 (fun _ h69 => ?_) (fun _ h70 => ?_)))))
 refine Zd (Zb (Za (Zi (Za ?_))))
 obtain ⟨c71,h72⟩ := Zz h69
 refine zc [6,7,10,234] 4 c71 (Zb (cn h72 (fun _ h74 => ?_) (fun _ h75 => ?_)))
 exact Za (zg [4] 0 (Zb (Zg (ZC (Zh (rr h74 ⟨rfl,er0 _⟩))))))
 exact Zd (XK (Zb (zg [6,7,10] 4 (rn h75))))
 exact ZH (Xn (re h70 ⟨rfl,kq⟩))
 intro e78 s79 o80
 rcases y21 with g22 | y23
 have h81 := XG h77
 refine zi o80 (Za (Za (zg [6,7,11] 4 (Zb (Zi ?_)))))
 obtain ⟨y26,q93,h94⟩ := bind_some h81
 refine zl (fun (p24 : Int) => ⟨253,[(6,.ref 2 0),(7,.ref 3 0),(11,.int .i64 p24)],u1⟩) (Sum.elim (fun z => OutE 8 (fun z => ⟨253,[],[]⟩) z) (fun z => OutR Tryz.prog Tryz.f71 (.bool z))) q93 ?_ ?_
 intro p24 y25 h84
 unfold M.Wx at h84
 refine Za (Za (zg [6,7,11,239] 4 (Zb (cn h84 (fun _ h86 => ?_) (fun _ h87 => ?_)))))
 refine Zd (Zb (Za (Zi (Za ?_))))
 obtain ⟨c88,h89⟩ := Zz h86
 refine zc [6,7,11,252] 4 c88 (Zb (cn h89 (fun _ h91 => ?_) (fun _ h92 => ?_)))
 exact Za (zg [4] 0 (Zb (Zg (ZC (Zh (rr h91 ⟨rfl,er0 _⟩))))))
 exact Zd (XK (Zb (zg [6,7,11] 4 (rn h92))))
 exact ZH (Xn (re h87 ⟨rfl,kc⟩))
 intro e95 s96 o97
 rcases y26 with g27 | y28
 have h98 := XG h94
 exact zi o97 (Za (zg [4] 0 (Zb (Zg (er1 h98)))))
 have h99 := XH h94
 obtain ⟨rfl,n101⟩ := o97
 refine ZC (Zh ?_)
 obtain rfl := Option.some.inj h99
 exact n101
 have h82 := XH h77
 obtain ⟨rfl,n102⟩ := o80
 refine ZC (Zh ?_)
 obtain rfl := Option.some.inj h82
 exact n102
 have h65 := XH h60
 obtain ⟨rfl,n103⟩ := o63
 refine ZC (Zh ?_)
 obtain rfl := Option.some.inj h65
 exact n103
 have h48 := XH h43
 obtain ⟨rfl,n104⟩ := o46
 refine ZC (Zh ?_)
 obtain rfl := Option.some.inj h48
 exact n104
 have h21 := XH h16
 obtain ⟨rfl,n105⟩ := o19
 refine ZC (Zh ?_)
 obtain rfl := Option.some.inj h21
 exact n105
theorem Zih (a0 : Zf) (a1 : Zf) (r : Bool) (h : M.Rk a0 a1 = some r) : Fn Tryz.prog 51 [.agg (Zu a0),.agg (Zu a1)] (.pure (.bool r)) := by
 let u1 : List Ob := [.box (Zu a0),.box (Zu a1)]
 let u2 : St := ⟨109,[(2,.ref 0 0),(3,.ref 1 0)],u1⟩
 unfold M.Rk at h
 refine ZL Tryz.func51 rfl (by kernel_rfl) (Za (zg [2,3] 2 (Zb (Za (Za (zg [2,3,46] 2 (Zb (cn h (fun _ h2 => ?_) (fun _ h3 => ?_)))))))))
 exact Za (zg [4] 0 (Zb (Zg (Zh (er1 h2)))))
 refine Zd (Zb (Za (Za (zg [2,3,5] 2 (Zb (Zi ?_))))))
 obtain ⟨y3,q13,h14⟩ := bind_some h3
 refine zl (fun (p1 : Int) => ⟨109,[(2,.ref 0 0),(3,.ref 1 0),(5,.int .i64 p1)],u1⟩) (Sum.elim (fun z => OutE 0 (fun z => u2) z) (fun z => OutR Tryz.prog Tryz.f51 (.bool z))) q13 ?_ ?_
 intro p1 y2 h4
 unfold M.Kx at h4
 refine Za (Za (zg [2,3,5,51] 2 (Zb (cn h4 (fun _ h6 => ?_) (fun _ h7 => ?_)))))
 refine Zd (Zb (Za (Zi (Za ?_))))
 obtain ⟨c8,h9⟩ := Zz h6
 refine zc [2,3,5,64] 2 c8 (Zb (cn h9 (fun _ h11 => ?_) (fun _ h12 => ?_)))
 exact Za (zg [4] 0 (Zb (Zg (ZC (Zh (rr h11 ⟨rfl,er0 _⟩))))))
 exact Zd (XK (Zb (zg [2,3,5] 2 (rn h12))))
 exact ZH (Xn (re h7 ⟨rfl,kq⟩))
 intro e15 s16 o17
 rcases y3 with g4 | y5
 have h18 := XG h14
 refine zi o17 (Za (Za (zg [2,3,6] 2 (Zb (Zi ?_)))))
 obtain ⟨y8,q30,h31⟩ := bind_some h18
 refine zl (fun (p6 : Int) => ⟨109,[(2,.ref 0 0),(3,.ref 1 0),(6,.int .i64 p6)],u1⟩) (Sum.elim (fun z => OutE 2 (fun z => u2) z) (fun z => OutR Tryz.prog Tryz.f51 (.bool z))) q30 ?_ ?_
 intro p6 y7 h21
 unfold M.Ky at h21
 refine Za (Za (zg [2,3,6,69] 2 (Zb (cn h21 (fun _ h23 => ?_) (fun _ h24 => ?_)))))
 refine Zd (Zb (Za (Zi (Za ?_))))
 obtain ⟨c25,h26⟩ := Zz h23
 refine zc [2,3,6,82] 2 c25 (Zb (cn h26 (fun _ h28 => ?_) (fun _ h29 => ?_)))
 exact Za (zg [4] 0 (Zb (Zg (ZC (Zh (rr h28 ⟨rfl,er0 _⟩))))))
 exact Zd (XK (Zb (zg [2,3,6] 2 (rn h29))))
 exact ZH (Xn (re h24 ⟨rfl,kq⟩))
 intro e32 s33 o34
 rcases y8 with g9 | y10
 have h35 := XG h31
 refine zi o34 (Za (Za (zg [2,3,7] 2 (Zb (Zi ?_)))))
 obtain ⟨y13,q47,h48⟩ := bind_some h35
 refine zl (fun (p11 : Int) => ⟨109,[(2,.ref 0 0),(3,.ref 1 0),(7,.int .i64 p11)],u1⟩) (Sum.elim (fun z => OutE 4 (fun z => u2) z) (fun z => OutR Tryz.prog Tryz.f51 (.bool z))) q47 ?_ ?_
 intro p11 y12 h38
 unfold M.Kz at h38
 refine Za (Za (zg [2,3,7,87] 2 (Zb (cn h38 (fun _ h40 => ?_) (fun _ h41 => ?_)))))
 refine Zd (Zb (Za (Zi (Za ?_))))
 obtain ⟨c42,h43⟩ := Zz h40
 refine zc [2,3,7,100] 2 c42 (Zb (cn h43 (fun _ h45 => ?_) (fun _ h46 => ?_)))
 exact Za (zg [4] 0 (Zb (Zg (ZC (Zh (rr h45 ⟨rfl,er0 _⟩))))))
 exact Zd (XK (Zb (zg [2,3,7] 2 (rn h46))))
 exact ZH (Xn (re h41 ⟨rfl,kq⟩))
 intro e49 s50 o51
 rcases y13 with g14 | y15
 have h52 := XG h48
 refine zi o51 (Za ?_)
 obtain ⟨r16,q55,h56⟩ := bind_some h52
 obtain ⟨r17,q57,h58⟩ := bind_some h56
 exact zr [4] 0 ZA (rq1 (Zew _ _ _ q55) (rq2 (fun hg => Zbw _ _ _ (Xj q57 hg)) rqn)) (Zb (Zg (er1 h58)))
 have h53 := XH h48
 obtain ⟨rfl,n59⟩ := o51
 refine ZC (Zh ?_)
 obtain rfl := Option.some.inj h53
 exact n59
 have h36 := XH h31
 obtain ⟨rfl,n60⟩ := o34
 refine ZC (Zh ?_)
 obtain rfl := Option.some.inj h36
 exact n60
 have h19 := XH h14
 obtain ⟨rfl,n61⟩ := o17
 refine ZC (Zh ?_)
 obtain rfl := Option.some.inj h19
 exact n61
theorem ZcY (a0 : ZG) (a1 : ZG) (r : Bool) (h : M.W7 a0 a1 = some r) : Fn Tryz.prog 19 [.agg (X3 a0),.agg (X3 a1)] (.pure (.bool r)) := by
 unfold M.W7 at h
 refine ZL Tryz.func19 rfl (by kernel_rfl) (Za (zg [2,3] 2 (Zb (Za (Za (zg [2,3,12] 2 (Zb (cn h (fun _ h2 => ?_) (fun _ h3 => ?_)))))))))
 exact Za (zg [4] 0 (Zb (Zg (Zh (er1 h2)))))
 refine Zd (Zb (Za (Za (zg [2,3,5] 2 (Zb (Zi ?_))))))
 obtain ⟨y4,q15,h16⟩ := bind_some h3
 refine zl (fun (p1 : Int) => ⟨32,[(2,.ref 0 0),(3,.ref 1 0),(5,.int .i64 p1)],[.box (X3 a0),.box (X3 a1)]⟩) (Sum.elim (fun z => OutE 0 (fun z => ⟨32,[],[]⟩) z) (fun z => OutR Tryz.prog Tryz.f19 (.bool z))) q15 ?_ ?_
 intro p1 y2 h4
 unfold M.W0 at h4
 refine Za (Za (zg [2,3,5,17] 2 (Zb (cn h4 (fun _ h6 => ?_) (fun _ h7 => ?_)))))
 refine Zd (Zb (Za (Zi (Za ?_))))
 obtain ⟨r3,q8,h9⟩ := bind_some h6
 obtain ⟨c10,h11⟩ := Zz h9
 refine zr [2,3,5,31] 2 c10 (rq1 (Zih _ _ _ q8) rqn) (Zb (cn h11 (fun _ h13 => ?_) (fun _ h14 => ?_)))
 exact Za (zg [4] 0 (Zb (Zg (ZC (Zh (rr h13 ⟨rfl,er0 _⟩))))))
 exact Zd (XK (Zb (zg [2,3,5] 2 (rn h14))))
 exact ZH (Xn (re h7 ⟨rfl,kc⟩))
 intro e17 s18 o19
 rcases y4 with g5 | y6
 have h20 := XG h16
 exact zi o19 (Za (zg [4] 0 (Zb (Zg (er1 h20)))))
 have h21 := XH h16
 obtain ⟨rfl,n23⟩ := o19
 refine ZC (Zh ?_)
 obtain rfl := Option.some.inj h21
 exact n23
theorem Zdl  (r : ZG) (h : M.Ui  = some r) : Fn Tryz.prog 47 [] (.pure (.agg (X3 r))) := by
 unfold M.Ui at h
 refine ZL Tryz.func47 rfl (by kernel_rfl) (Za (zg [0] 1 (Zb (Za (zg [0] 1 (Zb (Zg ?_)))))))
 obtain rfl := Option.some.inj h
 exact er (.agg [.sl false 25 2 (fun i => List.take 25 (List.drop (i * 25) [.str (⟨#[97]⟩ : ByteArray),.int .i64 0,.sl true 12 1 (fun i => List.take 12 (List.drop (i * 12) [.str (⟨#[101,48]⟩ : ByteArray),.int .u32 167772161,.int .i64 24,.int .i64 0,.bool false,.bool false,.int .i64 0,.int .i64 0,.bool false,.str (⟨#[]⟩ : ByteArray),.str (⟨#[]⟩ : ByteArray),.int .i64 0])),.sl true 2 0 (fun _ => []),.sl true 2 0 (fun _ => []),.sl true 2 0 (fun _ => []),.sl true 9 0 (fun _ => []),.sl true 7 0 (fun _ => []),.bool false,.int .i64 0,.sl true 3 0 (fun _ => []),.sl true 5 0 (fun _ => []),.bool false,.int .i64 0,.str (⟨#[]⟩ : ByteArray),.str (⟨#[]⟩ : ByteArray),.sl true 5 0 (fun _ => []),.bool false,.int .i64 0,.int .i64 0,.sl true 4 0 (fun _ => []),.sl true 2 0 (fun _ => []),.sl true 3 0 (fun _ => []),.sl true 5 0 (fun _ => []),.sl true 5 0 (fun _ => []),.str (⟨#[98]⟩ : ByteArray),.int .i64 0,.sl true 12 2 (fun i => List.take 12 (List.drop (i * 12) [.str (⟨#[101,48]⟩ : ByteArray),.int .u32 167772162,.int .i64 24,.int .i64 0,.bool false,.bool false,.int .i64 0,.int .i64 0,.bool false,.str (⟨#[]⟩ : ByteArray),.str (⟨#[]⟩ : ByteArray),.int .i64 0,.str (⟨#[101,49]⟩ : ByteArray),.int .u32 167772418,.int .i64 24,.int .i64 0,.bool false,.bool false,.int .i64 0,.int .i64 0,.bool false,.str (⟨#[]⟩ : ByteArray),.str (⟨#[]⟩ : ByteArray),.int .i64 0])),.sl true 2 0 (fun _ => []),.sl true 2 0 (fun _ => []),.sl true 2 0 (fun _ => []),.sl true 9 0 (fun _ => []),.sl true 7 0 (fun _ => []),.bool false,.int .i64 0,.sl true 3 0 (fun _ => []),.sl true 5 0 (fun _ => []),.bool false,.int .i64 0,.str (⟨#[]⟩ : ByteArray),.str (⟨#[]⟩ : ByteArray),.sl true 5 0 (fun _ => []),.bool false,.int .i64 0,.int .i64 0,.sl true 4 0 (fun _ => []),.sl true 2 0 (fun _ => []),.sl true 3 0 (fun _ => []),.sl true 5 0 (fun _ => []),.sl true 5 0 (fun _ => [])]))]) (ZmX (.cons (ZlO rfl (fun i hi => match i,hi with | 0,_ => (.cons PSub.rfl (.cons PSub.rfl (.cons (ZhY rfl (fun i hi => match i,hi with | 0,_ => (.cons PSub.rfl (.cons PSub.rfl (.cons PSub.rfl (.cons PSub.rfl (.cons PSub.rfl (.cons PSub.rfl (.cons PSub.rfl (.cons PSub.rfl (.cons PSub.rfl (.cons PSub.rfl (.cons PSub.rfl (.cons PSub.rfl .nil)))))))))))) | n + 1,h => absurd h (by omega))) (.cons JN (.cons JN (.cons JN (.cons JN (.cons JN (.cons PSub.rfl (.cons PSub.rfl (.cons JN (.cons JN (.cons PSub.rfl (.cons PSub.rfl (.cons PSub.rfl (.cons PSub.rfl (.cons JN (.cons PSub.rfl (.cons PSub.rfl (.cons PSub.rfl (.cons JN (.cons JN (.cons JN (.cons JN (.cons JN .nil))))))))))))))))))))))))) | 1,_ => (.cons PSub.rfl (.cons PSub.rfl (.cons (ZhY rfl (fun i hi => match i,hi with | 0,_ => (.cons PSub.rfl (.cons PSub.rfl (.cons PSub.rfl (.cons PSub.rfl (.cons PSub.rfl (.cons PSub.rfl (.cons PSub.rfl (.cons PSub.rfl (.cons PSub.rfl (.cons PSub.rfl (.cons PSub.rfl (.cons PSub.rfl .nil)))))))))))) | 1,_ => (.cons PSub.rfl (.cons PSub.rfl (.cons PSub.rfl (.cons PSub.rfl (.cons PSub.rfl (.cons PSub.rfl (.cons PSub.rfl (.cons PSub.rfl (.cons PSub.rfl (.cons PSub.rfl (.cons PSub.rfl (.cons PSub.rfl .nil)))))))))))) | n + 2,h => absurd h (by omega))) (.cons JN (.cons JN (.cons JN (.cons JN (.cons JN (.cons PSub.rfl (.cons PSub.rfl (.cons JN (.cons JN (.cons PSub.rfl (.cons PSub.rfl (.cons PSub.rfl (.cons PSub.rfl (.cons JN (.cons PSub.rfl (.cons PSub.rfl (.cons PSub.rfl (.cons JN (.cons JN (.cons JN (.cons JN (.cons JN .nil))))))))))))))))))))))))) | n + 2,h => absurd h (by omega))) .nil))
theorem KI (a0 : List V8) (a1 : V8) (r : Int) (h : M.Yu a0 a1 = some r) : Fn Tryz.prog 72 [sL 2 XE a0,.agg (XE a1)] (.pure (.int .i64 r)) := by
 unfold M.Yu at h
 refine ZL Tryz.func72 rfl (by kernel_rfl) (Za (zg [0,3] 1 (Zb (Za (Za (zg [0,3,7,8] 1 (Zb (Zi ?_))))))))
 obtain ⟨y3,q10,h11⟩ := bind_some h
 refine zl (fun (p1 : Int) => ⟨19,[(0,sL 2 XE a0),(3,.ref 0 0),(7,.int .i64 (a0.length : Int)),(8,.int .i64 p1)],[.box (XE a1)]⟩) (Sum.elim (fun z => OutE 0 (fun z => ⟨19,[],[]⟩) z) (fun z => OutR Tryz.prog Tryz.f72 (.int .i64 z))) q10 ?_ ?_
 intro p1 y2 h1
 unfold M.Yt at h1
 refine Za (zg [0,3,7,8,9] 1 (Zb (Za (cn h1 (fun _ h3 => ?_) (fun _ h4 => ?_)))))
 refine Zd (Zb (Za (Zi (Za (zg [0,3,5,7,8] 1 (Zb (Za ?_)))))))
 obtain ⟨c5,h6⟩ := Zz h3
 refine zc [0,3,5,7,8,16] 1 c5 (Zb (cn h6 (fun _ h8 => ?_) (fun _ h9 => ?_)))
 exact Za (zg [4] 0 (Zb (Zg (ZC (Zh (rr h8 ⟨rfl,er0 _⟩))))))
 exact Zd (XK (Zb (zg [0,3,7,8] 1 (rn h9))))
 exact ZH (Xn (re h4 ⟨rfl,kc⟩))
 intro e12 s13 o14
 rcases y3 with g4 | y5
 have h15 := XG h11
 exact zi o14 (Za (zg [4] 0 (Zb (Zg (er1 h15)))))
 have h16 := XH h11
 obtain ⟨rfl,n18⟩ := o14
 refine ZC (Zh ?_)
 obtain rfl := Option.some.inj h16
 exact n18
theorem Kb (a0 : List V8) (a1 : V8) (r : Bool) (h : M.Ye a0 a1 = some r) : Fn Tryz.prog 54 [sL 2 XE a0,.agg (XE a1)] (.pure (.bool r)) := by
 unfold M.Ye at h
 refine ZL Tryz.func54 rfl (by kernel_rfl) (Za (zg [0,3] 1 (Zb (Za ?_))))
 obtain ⟨r1,q1,h2⟩ := bind_some h
 exact zr [4] 0 ZA (rq1 (KI _ _ _ q1) rqn) (Zb (Zg (er1 h2)))
theorem Zcf (a0 : WG) (a1 : Int) (a2 : Int) (r : Int) (h : M.WS a0 a1 a2 = some r) : Fn Tryz.prog 25 [.agg (Gw a0),.int .i64 a1,.int .i64 a2] (.pure (.int .i64 r)) := by
 unfold M.WS at h
 refine ZL Tryz.func25 rfl (by kernel_rfl) (Za (zg [1,2,3] 1 (Zb (Za (zg [3,7] 2 (Zb (Za (Za (zg [7,15,16,17] 2 (Zb (Zi ?_)))))))))))
 obtain ⟨y4,q12,h13⟩ := bind_some h
 refine zl (fun (p1 : Int) => ⟨28,[(7,.ref 1 0),(15,sL 4 ZT a0.Ws.XQ),(16,.int .i64 (a0.Ws.XQ.length : Int)),(17,.int .i64 p1)],[.box (Gw a0),.box [.int .i64 a1,.int .i64 a2]]⟩) (Sum.elim (fun z => OutE 0 (fun z => ⟨28,[],[]⟩) z) (fun z => OutR Tryz.prog Tryz.f25 (.int .i64 z))) q12 ?_ ?_
 intro p1 y2 h1
 unfold M.WR at h1
 refine Za (zg [7,15,16,17,18] 2 (Zb (Za (cn h1 (fun _ h3 => ?_) (fun _ h4 => ?_)))))
 refine Zd (Zb (Za (Zi (Za ?_))))
 obtain ⟨c5,h6⟩ := Zz h3
 refine zc [7,8,9,15,16,17] 3 c5 (Zb (Za ?_))
 obtain ⟨r3,q7,h8⟩ := bind_some h6
 refine zr [7,8,15,16,17,25] 2 ZA (rq1 (Kb _ _ _ q7) rqn) (Zb (cn h8 (fun _ h10 => ?_) (fun _ h11 => ?_)))
 exact Za (zg [6] 0 (Zb (Zg (ZC (Zh (rr h10 ⟨rfl,er0 _⟩))))))
 exact Zd (XK (Zb (zg [7,15,16,17] 2 (rn h11))))
 exact ZH (Xn (re h4 ⟨rfl,kc⟩))
 intro e14 s15 o16
 rcases y4 with g5 | y6
 have h17 := XG h13
 refine zi o16 (Za ?_)
 cases h17
 have h18 := XH h13
 obtain ⟨rfl,n20⟩ := o16
 refine ZC (Zh ?_)
 obtain rfl := Option.some.inj h18
 exact n20
theorem Kf (a0 : List Int) (a1 : Int) (r : Int) (h : M.Qi a0 a1 = some r) : Fn Tryz.prog 55 [sL 1 (ci .i64) a0,.int .i64 a1] (.pure (.int .i64 r)) := by
 unfold M.Qi at h
 refine ZL Tryz.func55 rfl (by kernel_rfl) (Za (zg [0,1] 0 (Zb (Za (Za (zg [0,1,7,8] 0 (Zb (Zi ?_))))))))
 obtain ⟨y3,q10,h11⟩ := bind_some h
 refine zl (fun (p1 : Int) => ⟨19,[(0,sL 1 (ci .i64) a0),(1,.int .i64 a1),(7,.int .i64 (a0.length : Int)),(8,.int .i64 p1)],[]⟩) (Sum.elim (fun z => OutE 0 (fun z => ⟨19,[],[]⟩) z) (fun z => OutR Tryz.prog Tryz.f55 (.int .i64 z))) q10 ?_ ?_
 intro p1 y2 h1
 unfold M.QV at h1
 refine Za (zg [0,1,7,8,9] 0 (Zb (Za (cn h1 (fun _ h3 => ?_) (fun _ h4 => ?_)))))
 refine Zd (Zb (Za (Zi (Za (zg [0,1,5,7,8] 0 (Zb (Za ?_)))))))
 obtain ⟨c5,h6⟩ := Zz h3
 refine zc [0,1,5,7,8,16] 0 c5 (Zb (cn h6 (fun _ h8 => ?_) (fun _ h9 => ?_)))
 exact Za (zg [4] 0 (Zb (Zg (ZC (Zh (rr h8 ⟨rfl,er0 _⟩))))))
 exact Zd (XK (Zb (zg [0,1,7,8] 0 (rn h9))))
 exact ZH (Xn (re h4 ⟨rfl,kq⟩))
 intro e12 s13 o14
 rcases y3 with g4 | y5
 have h15 := XG h11
 exact zi o14 (Za (zg [4] 0 (Zb (Zg (er1 h15)))))
 have h16 := XH h11
 obtain ⟨rfl,n18⟩ := o14
 refine ZC (Zh ?_)
 obtain rfl := Option.some.inj h16
 exact n18
theorem Zii (a0 : WG) (a1 : Int) (a2 : Int) (r : Int) (h : M.GP a0 a1 a2 = some r) : Fn Tryz.prog 27 [.agg (Gw a0),.int .i64 a1,.int .i64 a2] (.pure (.int .i64 r)) := by
 unfold M.GP at h
 refine ZL Tryz.func27 rfl (by kernel_rfl) (Za (zg [1,2,3] 1 (Zb (Za ?_))))
 obtain ⟨r1,q1,h2⟩ := bind_some h
 refine zr [3,7] 1 ZA (rq1 (Zcf _ _ _ _ q1) rqn) (Zb (Za (Za (zg [3,7,13] 1 (Zb (cn h2 (fun _ h4 => ?_) (fun _ h5 => ?_)))))))
 refine Za ?_
 cases h4
 refine Zd (Zb (Za ?_))
 obtain ⟨r2,q6,h7⟩ := bind_some h5
 exact zr [6] 0 ZA (rq1 (Kf _ _ _ q6) rqn) (Zb (Zg (er1 h7)))
theorem Rw (a0 : List Int) (a1 : Int) (r : Bool) (h : M.Ql a0 a1 = some r) : Fn Tryz.prog 56 [sL 1 (ci .i64) a0,.int .i64 a1] (.pure (.bool r)) := by
 unfold M.Ql at h
 refine ZL Tryz.func56 rfl (by kernel_rfl) (Za (zg [0,1] 0 (Zb (Za ?_))))
 obtain ⟨r1,q1,h2⟩ := bind_some h
 exact zr [4] 0 ZA (rq1 (Kf _ _ _ q1) rqn) (Zb (Zg (er1 h2)))
theorem ZdM (a0 : WG) (a1 : Int) (a2 : Int) (r : Bool) (h : M.GQ a0 a1 a2 = some r) : Fn Tryz.prog 29 [.agg (Gw a0),.int .i64 a1,.int .i64 a2] (.pure (.bool r)) := by
 unfold M.GQ at h
 refine ZL Tryz.func29 rfl (by kernel_rfl) (Za (zg [1,2,3] 1 (Zb (Za (Za ?_)))))
 obtain ⟨r1,q1,h2⟩ := bind_some h
 refine zr [1,2,3,12] 1 ZA (rq1 (Zcf _ _ _ _ q1) rqn) (Zb (cn h2 (fun _ h4 => ?_) (fun _ h5 => ?_)))
 refine Za ?_
 cases h4
 refine Zd (Zb (Za ?_))
 obtain ⟨r2,q6,h7⟩ := bind_some h5
 refine zr [3,7] 1 ZA (rq1 (Zii _ _ _ _ q6) rqn) (Zb (Za ?_))
 obtain ⟨r3,q8,h9⟩ := bind_some h7
 exact zr [6] 0 ZA (rq2 (fun hg => Rw _ _ _ (Xj q8 hg)) rqn) (Zb (Zg (er1 h9)))
theorem Zhb  (r : Bool) (h : M.Ga  = some r) : Fn Tryz.prog 15 [] (.pure (.bool r)) := by
 unfold M.Ga at h
 refine ZL Tryz.func15 rfl (by kernel_rfl) (Za (zg [] 0 (Zb (Za ?_))))
 obtain ⟨r1,q1,h2⟩ := bind_some h
 let u1 := X3 r1
 obtain ⟨r2,q3,h4⟩ := bind_some h2
 refine rg [.pure (.agg u1),.pure (.tup [.agg (Gw r2.1),.int .i64 r2.2])] [1,2] 1 ⟨49,[(1,.ref 0 0),(2,.int .i64 r2.2)],[.box (Gw r2.1)]⟩ [] [⟨true,47,[],.pure (.agg u1)⟩,⟨true,16,[.agg u1,.nils],.pure (.tup [.agg (Gw r2.1),.int .i64 r2.2])⟩] ZA ⟨fun _ => Zdl  r1 q1,fun _ => (ZaU r1 ([] : List Int) r2 q3).args (.cons ASub.rfl (.cons ZkK .nil)),trivial⟩ (Zb (Za ?_))
 obtain ⟨r3,q5,h6⟩ := bind_some h4
 obtain ⟨r4,q7,h8⟩ := bind_some h6
 refine rg [.pure (.agg (X3 r3)),.pure (.tup [.agg (Gw r4.1),.int .i64 r4.2])] [1,2,3,4] 2 ⟨49,[(1,.ref 0 0),(2,.int .i64 r2.2),(3,.ref 1 0),(4,.int .i64 r4.2)],[.box (Gw r2.1),.box (Gw r4.1)]⟩ [] [⟨true,47,[],.pure (.agg (X3 r3))⟩,⟨true,16,[.agg (X3 r3),.sl false 1 1 (fun i => List.take 1 (List.drop (i * 1) [.int .i64 0]))],.pure (.tup [.agg (Gw r4.1),.int .i64 r4.2])⟩] ZA ⟨fun _ => Zdl  r3 q5,fun _ => (ZaU r3 ([0] : List Int) r4 q7).args (.cons ASub.rfl (.cons (ZhX rfl (fun i hi => match i,hi with | 0,_ => rfl | n + 1,h => absurd h (by omega))) .nil)),trivial⟩ (Zb (Za ?_))
 obtain ⟨r5,q9,h10⟩ := bind_some h8
 obtain ⟨r6,q11,h12⟩ := bind_some h10
 obtain ⟨r7,q13,h14⟩ := bind_some h12
 exact zr [0] 0 ZA (rq2 (fun hg => ZdM _ _ _ _ (Xj q9 hg)) (rq2 (fun hg => ZdM _ _ _ _ (Xj q11 hg)) (rq2 (fun hg => ZdM _ _ _ _ (Xj q13 hg)) rqn))) (Zb (Zg (er1 h14)))
theorem ZdN (a0 : ZG) (a1 : List Int) (r : Bool) (h : M.G5 a0 a1 = some r) : Fn Tryz.prog 4 [.agg (X3 a0),sL 1 (ci .i64) a1] (.pure (.bool r)) := by
 unfold M.G5 at h
 refine ZL Tryz.func4 rfl (by kernel_rfl) (Za (zg [1,2] 1 (Zb (Za (Za ?_)))))
 obtain ⟨r1,q1,h2⟩ := bind_some h
 refine zr [1,2,16] 1 ZA (rq1 (ZgI _ _ q1) rqn) (Zb (cn h2 (fun _ h4 => ?_) (fun _ h5 => ?_)))
 exact Za (zg [4] 0 (Zb (Zg (Zh (er1 h4)))))
 refine Zd (Zb (Za ?_))
 obtain ⟨r2,q6,h7⟩ := bind_some h5
 refine zr [1,2,5,6] 2 ZA (rq1 (ZaU _ _ _ q6) rqn) (Zb (Za ?_))
 obtain ⟨r3,q8,h9⟩ := bind_some h7
 refine zr [5,6,7,8] 3 ZA (rq1 (Zha _ _ _ q8) rqn) (Zb (Za ?_))
 obtain ⟨r4,q10,h11⟩ := bind_some h9
 let u1 := (r2.2 == r3.2) && r4
 obtain ⟨r5,q12,h13⟩ := bind_some h11
 obtain ⟨r6,q14,h15⟩ := bind_some h13
 obtain ⟨r7,q16,h17⟩ := bind_some h15
 exact rg [.pure (.bool r4),.pure (.bool r5),.pure (.bool r6),.pure (.bool r7)] [4] 0 ⟨56,[(4,.bool (((u1 && r5) && r6) && r7))],[]⟩ [] [⟨r2.2 == r3.2,14,[.agg (Wr r2.1.Ws),.agg (Wr r3.1.Ws)],.pure (.bool r4)⟩,⟨(r2.2 == r3.2) && r4,18,[sL 1 (ci .i64) r2.1.Gu,sL 1 (ci .i64) r3.1.Gu],.pure (.bool r5)⟩,⟨u1 && r5,19,[.agg (X3 r2.1.Zfs),.agg (X3 r3.1.Zfs)],.pure (.bool r6)⟩,⟨(u1 && r5) && r6,15,[],.pure (.bool r7)⟩] ZA ⟨fun hg => Zbv r2.1.Ws r3.1.Ws r4 (Xj q10 hg),fun hg => Zev r2.1.Gu r3.1.Gu r5 (Xj q12 hg),fun hg => ZcY r2.1.Zfs r3.1.Zfs r6 (Xj q14 hg),fun hg => Zhb  r7 (Xj q16 hg),trivial⟩ (Zb (Zg (er1 h17)))
end Nv
