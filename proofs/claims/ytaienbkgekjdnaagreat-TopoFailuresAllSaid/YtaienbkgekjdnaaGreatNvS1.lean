/- The fixed example: reckoned. -/
import Derived.Test.YtaienbkgekjdnaaGreatNvD1
import Derived.Test.YtaienbkgekjdnaaGreatNvLibB
import Derived.Test.YtaienbkgekjdnaaGreatNvTs
import Derived.Test.YtaienbkgekjdnaaGreatNvTe
import Derived.KernelRfl
set_option maxRecDepth 100000
namespace Nv
open Go
noncomputable def K.Yl (a0:List Int):Option (List Int) :=
 gd [decide (0=0)||decide (0 < a0.length),decide ((0+a0.length)*8≤140737488355328)] (some a0)
theorem Kd (a0:List Int):Ref (K.Yl a0) (M.Yl a0):=by
 unfold K.Yl M.Yl
 with_reducible repeat' (first | exact XL | refine J9 ?_)
noncomputable def K.Q1 (a0:Int) (p1:(List (List Int)) × Int × Int) (p3:(List (List Int)) × Int) (p6:(List (List Int)) × Int):Option (((List (List Int)) × Int) ⊕ (List (List Int))) :=
 bif decide (p6.2 < a0) then ((K.Yl (((p1.1.drop p1.2.1.toNat).take (((p1.1.length:Int).toNat) - p1.2.1.toNat)).getD p3.2.toNat default)).bind fun r8=>gd [decide ((r8.length+1)*8≤140737488355328)] (gd [decide ((p6.1.length+1)*24≤140737488355328)] (some (.inl (p6.1++[r8++[p6.2]],wr .i64 (p6.2+1)))))) else (some (.inr p6.1))
theorem Zc9 (a0:Int) (p1:(List (List Int)) × Int × Int) (p3:(List (List Int)) × Int) (p6:(List (List Int)) × Int):Ref (K.Q1 a0 p1 p3 p6) (M.Q1 a0 p1 p3 p6):=by
 unfold K.Q1 M.Q1
 with_reducible repeat' (first | exact XL | exact Kd .. | refine QF ?_ (fun _=>?_) | refine J9 ?_ | refine Va ?_ ?_)
noncomputable def K.Qy (a0:Int) (p1:(List (List Int)) × Int × Int) (p3:(List (List Int)) × Int) (p5:Int):Option (((List (List Int)) × Int) ⊕ (List (List Int))) :=
 (loopN 1000 (K.Q1 a0 p1 p3) (p3.1,p5)).bind fun y9=>some (.inl (y9,wr .i64 (p3.2+1)))
theorem Zda (a0:Int) (p1:(List (List Int)) × Int × Int) (p3:(List (List Int)) × Int) (p5:Int):Ref (K.Qy a0 p1 p3 p5) (M.Qy a0 p1 p3 p5):=by
 unfold K.Qy M.Qy
 with_reducible repeat' (first | exact XL | exact Zc9 .. | refine QF ?_ (fun _=>?_) | refine Ui (fun _=>?_))
noncomputable def K.JB (a0:Int) (p1:(List (List Int)) × Int × Int) (p3:(List (List Int)) × Int):Option (((List (List Int)) × Int) ⊕ (List (List Int))) :=
 bif decide (p3.2 < ((((p1.1.length:Int).toNat) - p1.2.1.toNat:Nat):Int)) then (gd [decide (0≤p3.2),decide (p3.2 < (((p1.1.drop p1.2.1.toNat).take (((p1.1.length:Int).toNat) - p1.2.1.toNat)).length:Int))] (bif decide (((((p1.1.drop p1.2.1.toNat).take (((p1.1.length:Int).toNat) - p1.2.1.toNat)).getD p3.2.toNat default).length:Int) > 0) then (gd [decide (0≤(wr .i64 (((((p1.1.drop p1.2.1.toNat).take (((p1.1.length:Int).toNat) - p1.2.1.toNat)).getD p3.2.toNat default).length:Int) - 1))),decide ((wr .i64 (((((p1.1.drop p1.2.1.toNat).take (((p1.1.length:Int).toNat) - p1.2.1.toNat)).getD p3.2.toNat default).length:Int) - 1)) < ((((p1.1.drop p1.2.1.toNat).take (((p1.1.length:Int).toNat) - p1.2.1.toNat)).getD p3.2.toNat default).length:Int))] (K.Qy a0 p1 p3 (wr .i64 (((((p1.1.drop p1.2.1.toNat).take (((p1.1.length:Int).toNat) - p1.2.1.toNat)).getD p3.2.toNat default).getD (wr .i64 (((((p1.1.drop p1.2.1.toNat).take (((p1.1.length:Int).toNat) - p1.2.1.toNat)).getD p3.2.toNat default).length:Int) - 1)).toNat default)+1)))) else (K.Qy a0 p1 p3 0))) else (some (.inr p3.1))
theorem Zdb (a0:Int) (p1:(List (List Int)) × Int × Int) (p3:(List (List Int)) × Int):Ref (K.JB a0 p1 p3) (M.JB a0 p1 p3):=by
 unfold K.JB M.JB
 with_reducible repeat' (first | exact XL | exact Zda .. | refine J9 ?_ | refine Va ?_ ?_)
noncomputable def K.V4 (a0:Int) (a1:Int) (p1:(List (List Int)) × Int × Int):Option (((List (List Int)) × Int × Int) ⊕ (List (List Int))) :=
 bif decide (p1.2.2 < a1) then (gd [decide (0≤(p1.1.length:Int)),decide ((p1.1.length:Int)≤(p1.1.length:Int)),decide (0≤p1.2.1),decide (p1.2.1≤((p1.1.length:Int).toNat:Int))] ((loopN 1000 (K.JB a0 p1) (p1.1,0)).bind fun y10=>some (.inl (y10,(p1.1.length:Int),wr .i64 (p1.2.2+1))))) else (some (.inr p1.1))
theorem Zdc (a0:Int) (a1:Int) (p1:(List (List Int)) × Int × Int):Ref (K.V4 a0 a1 p1) (M.V4 a0 a1 p1):=by
 unfold K.V4 M.V4
 with_reducible repeat' (first | exact XL | exact Zdb .. | refine QF ?_ (fun _=>?_) | refine J9 ?_ | refine Va ?_ ?_ | refine Ui (fun _=>?_))
noncomputable def K.We (a0:Int) (a1:Int):Option ((List (List Int)) × Int) :=
 bif (((decide (a0 < 0))||(decide (a0 > 12)))||(decide (a1 < 0)))||(decide (a1 > 2)) then (some (([]:List (List Int)),1)) else ((loopN 1000 (K.V4 a0 a1) (([([]:List Int)]:List (List Int)),0,0)).bind fun y11=>some (y11,0))
theorem ZeT (a0:Int) (a1:Int):Ref (K.We a0 a1) (M.We a0 a1):=by
 unfold K.We M.We
 with_reducible repeat' (first | exact XL | exact Zdc .. | refine QF ?_ (fun _=>?_) | refine Va ?_ ?_ | refine Ui (fun _=>?_))
noncomputable def K.JO (a0:Int):Option Int :=
 some (if (if 32 < a0 then 32 else a0) > 0 then (if 32 < a0 then 32 else a0) else 0)
theorem ZdN (a0:Int):Ref (K.JO a0) (M.JO a0):=by
 unfold K.JO M.JO
 with_reducible repeat' (first | exact XL)
noncomputable def K.J7 (a0:Int):Option Int :=
 (K.JO a0).bind fun r1=>gd [decide (0≤(wr .i64 (32 - r1)))] (some (wr .u32 (4294967295*2 ^ min (wr .i64 (32 - r1)).toNat 32)))
theorem Ziq (a0:Int):Ref (K.J7 a0) (M.J7 a0):=by
 unfold K.J7 M.J7
 with_reducible repeat' (first | exact XL | exact ZdN .. | refine QF ?_ (fun _=>?_) | refine J9 ?_)
noncomputable def K.YY (a0:Int) (a1:Int):Option ZO :=
 (K.J7 a1).bind fun r1=>(K.JO a1).bind fun r2=>some (⟨bitD .and .u32 a0 r1,r2⟩:ZO)
theorem Zf3 (a0:Int) (a1:Int):Ref (K.YY a0 a1) (M.YY a0 a1):=by
 unfold K.YY M.YY
 with_reducible repeat' (first | exact XL | exact ZdN .. | exact Ziq .. | refine QF ?_ (fun _=>?_))
noncomputable def K.Jh (i:Int) (p:(List Zk) × (List (Xc × Int)) × Int) (q:(List Zk) × (List (Xc × Int)) × Int):Option (((List Zk) × (List (Xc × Int)) × Int) ⊕ ((List Zk) × (List (Xc × Int)))) :=
 gd [decide (0≤q.2.2),decide (q.2.2 < (q.1.length:Int)),decide (((q.1.getD (0+q.2.2.toNat) default).Xt.length+1)*16≤140737488355328)] (some (.inl (q.1.set (0+q.2.2.toNat) ⟨(q.1.getD (0+q.2.2.toNat) default).Zp,(q.1.getD (0+q.2.2.toNat) default).XI,(q.1.getD (0+q.2.2.toNat) default).Xt++[⟨i,p.2.2⟩]⟩,q.2.1,wr .i64 (p.2.2+1))))
theorem Zep (i:Int) (p:(List Zk) × (List (Xc × Int)) × Int) (q:(List Zk) × (List (Xc × Int)) × Int):Ref (K.Jh i p q) (M.Jh i p q):=by
 unfold K.Jh M.Jh
 with_reducible repeat' (first | exact XL | refine J9 ?_)
noncomputable def K.Q3 (a0:ZP) (i:Int) (p:(List Zk) × (List (Xc × Int)) × Int):Option (((List Zk) × (List (Xc × Int)) × Int) ⊕ ((List Zk) × (List (Xc × Int)))) :=
 bif decide (p.2.2 < (((a0.Zd.getD i.toNat default).Zc).length:Int)) then (gd [decide (0≤p.2.2),decide (p.2.2 < (((a0.Zd.getD i.toNat default).Zc).length:Int))] (bif (((a0.Zd.getD i.toNat default).Zc.getD p.2.2.toNat default).ZM==0)||((a0.Zd.getD i.toNat default).Zc.getD p.2.2.toNat default).RB then (some (.inl (p.1,p.2.1,wr .i64 (p.2.2+1)))) else ((K.YY ((a0.Zd.getD i.toNat default).Zc.getD p.2.2.toNat default).ZA ((a0.Zd.getD i.toNat default).Zc.getD p.2.2.toNat default).ZM).bind fun r=>bif !(lkM (topoKeyEq ⟨r,((a0.Zd.getD i.toNat default).Zc.getD p.2.2.toNat default).XI⟩) p.2.1).2 then (gd [decide ((p.1.length+1)*48≤140737488355328)] (K.Jh i p (p.1++[⟨r,((a0.Zd.getD i.toNat default).Zc.getD p.2.2.toNat default).XI,[]⟩],p.2.1++[(⟨r,((a0.Zd.getD i.toNat default).Zc.getD p.2.2.toNat default).XI⟩,(p.1.length:Int))],(p.1.length:Int)))) else (K.Jh i p (p.1,p.2.1,(lkM (topoKeyEq ⟨r,((a0.Zd.getD i.toNat default).Zc.getD p.2.2.toNat default).XI⟩) p.2.1).1))))) else (some (.inr (p.1,p.2.1)))
theorem ZdO (a0:ZP) (i:Int) (p:(List Zk) × (List (Xc × Int)) × Int):Ref (K.Q3 a0 i p) (M.Q3 a0 i p):=by
 unfold K.Q3 M.Q3
 with_reducible repeat' (first | exact XL | exact Zf3 .. | exact Zep .. | refine QF ?_ (fun _=>?_) | refine J9 ?_ | refine Va ?_ ?_)
noncomputable def K.Jz (a0:ZP) (p:(List Zk) × (List (Xc × Int)) × Int):Option (((List Zk) × (List (Xc × Int)) × Int) ⊕ (List Zk)) :=
 bif decide (p.2.2 < (a0.Zd.length:Int)) then (gd [decide (0≤p.2.2),decide (p.2.2 < (a0.Zd.length:Int))] ((loopN 1000 (K.Q3 a0 p.2.2) (p.1,p.2.1,0)).bind fun y=>some (.inl (y.1,y.2,wr .i64 (p.2.2+1))))) else (some (.inr p.1))
theorem ZdP (a0:ZP) (p:(List Zk) × (List (Xc × Int)) × Int):Ref (K.Jz a0 p) (M.Jz a0 p):=by
 unfold K.Jz M.Jz
 with_reducible repeat' (first | exact XL | exact ZdO .. | refine QF ?_ (fun _=>?_) | refine J9 ?_ | refine Va ?_ ?_ | refine Ui (fun _=>?_))
noncomputable def K.Wn (a0:ZP):Option (List Zk) :=
 (loopN 1000 (K.Jz a0) ([],[],0)).bind fun y=>some y
theorem Zf4 (a0:ZP):Ref (K.Wn a0) (M.Wn a0):=by
 unfold K.Wn M.Wn
 with_reducible repeat' (first | exact XL | exact ZdP .. | refine QF ?_ (fun _=>?_) | refine Ui (fun _=>?_))
noncomputable def K.Qz (a0:Int):Option Bool :=
 some (a0 != a0)
theorem Zdd (a0:Int):Ref (K.Qz a0) (M.Qz a0):=by
 unfold K.Qz M.Qz
 with_reducible repeat' (first | exact XL)
noncomputable def K.QM (a0:Int) (a1:Int):Option Int :=
 (K.Qz a0).bind fun r1=>(K.Qz a1).bind fun r2=>bif r1 then (bif r2 then (some 0) else (some (-1))) else (bif r2 then (some 1) else (bif decide (a0 < a1) then (some (-1)) else (bif decide (a0 > a1) then (some 1) else (some 0))))
theorem ZbA (a0:Int) (a1:Int):Ref (K.QM a0 a1) (M.QM a0 a1):=by
 unfold K.QM M.QM
 with_reducible repeat' (first | exact XL | exact Zdd .. | refine QF ?_ (fun _=>?_) | refine Va ?_ ?_)
noncomputable def K.J0 (a0:Int):Option Bool :=
 some (a0 != a0)
theorem ZeU (a0:Int):Ref (K.J0 a0) (M.J0 a0):=by
 unfold K.J0 M.J0
 with_reducible repeat' (first | exact XL)
noncomputable def K.Q4 (a0:Int) (a1:Int):Option Int :=
 (K.J0 a0).bind fun r1=>(K.J0 a1).bind fun r2=>bif r1 then (bif r2 then (some 0) else (some (-1))) else (bif r2 then (some 1) else (bif decide (a0 < a1) then (some (-1)) else (bif decide (a0 > a1) then (some 1) else (some 0))))
theorem RE (a0:Int) (a1:Int):Ref (K.Q4 a0 a1) (M.Q4 a0 a1):=by
 unfold K.Q4 M.Q4
 with_reducible repeat' (first | exact XL | exact ZeU .. | refine QF ?_ (fun _=>?_) | refine Va ?_ ?_)
noncomputable def K.Wo (a0:ZO) (a1:ZO):Option Int :=
 (K.QM a0.ZA a1.ZA).bind fun r1=>bif r1 != 0 then (some r1) else ((K.Q4 a0.ZM a1.ZM).bind fun r2=>some r2)
theorem Zf5 (a0:ZO) (a1:ZO):Ref (K.Wo a0 a1) (M.Wo a0 a1):=by
 unfold K.Wo M.Wo
 with_reducible repeat' (first | exact XL | exact ZbA .. | exact RE .. | refine QF ?_ (fun _=>?_) | refine Va ?_ ?_)
noncomputable def K.JJ (a0:List Int) (p1:Int):Option (Int ⊕ (Unit ⊕ Int)) :=
 bif decide (p1 < (a0.length:Int)) then (gd [decide (0≤p1),decide (p1 < (a0.length:Int))] (bif (a0.getD p1.toNat default) != 0 then (some (.inr (.inr (a0.getD p1.toNat default)))) else (some (.inl (wr .i64 (p1+1)))))) else (some (.inr (.inl ())))
theorem ZeV (a0:List Int) (p1:Int):Ref (K.JJ a0 p1) (M.JJ a0 p1):=by
 unfold K.JJ M.JJ
 with_reducible repeat' (first | exact XL | refine J9 ?_ | refine Va ?_ ?_)
noncomputable def K.W7 (a0:List Int):Option Int :=
 (loopN 1000 (K.JJ a0) 0).bind fun y3=>Sum.elim (fun _=>some 0) (fun y5=>some y5) y3
theorem Zht (a0:List Int):Ref (K.W7 a0) (M.W7 a0):=by
 unfold K.W7 M.W7
 with_reducible repeat' (first | exact XL | exact ZeV .. | refine QF ?_ (fun _=>?_) | refine Zbw (fun _=>?_) (fun _=>?_) | refine Ui (fun _=>?_))
noncomputable def K.VV (a0:Zk) (a1:Zk):Option Int :=
 (K.Wo a0.Zp a1.Zp).bind fun r1=>(K.Q4 a0.XI a1.XI).bind fun r2=>(K.W7 ([r1,r2]:List Int)).bind fun r3=>some r3
theorem Zf6 (a0:Zk) (a1:Zk):Ref (K.VV a0 a1) (M.VV a0 a1):=by
 unfold K.VV M.VV
 with_reducible repeat' (first | exact XL | exact RE .. | exact Zf5 .. | exact Zht .. | refine QF ?_ (fun _=>?_))
noncomputable def K.XJ (a0:List Zk):Option (List Zk) :=
 sortK K.VV a0
theorem WR (a0:List Zk):Ref (K.XJ a0) (M.XJ a0):=Zj5 Zf6 so_topo_Build_1
noncomputable def K.J1 (p5:(List Int) × Int) (p7:(List Int)):Option (((List Int) × Int) ⊕ (List Int)) :=
 some (.inl (p7,wr .i64 (p5.2+1)))
theorem ZeW (p5:(List Int) × Int) (p7:(List Int)):Ref (K.J1 p5 p7) (M.J1 p5 p7):=by
 unfold K.J1 M.J1
 with_reducible repeat' (first | exact XL)
noncomputable def K.Vm (r3:(List Zk)) (p5:(List Int) × Int):Option (((List Int) × Int) ⊕ (List Int)) :=
 bif decide (p5.2 < (r3.length:Int)) then (gd [decide (0≤p5.2),decide (p5.2 < (r3.length:Int))] (bif decide ((((r3.getD p5.2.toNat default).Xt).length:Int) ≥ 2) then (gd [decide ((p5.1.length+1)*8≤140737488355328)] (K.J1 p5 (p5.1++[p5.2]))) else (K.J1 p5 p5.1))) else (some (.inr p5.1))
theorem ZeX (r3:(List Zk)) (p5:(List Int) × Int):Ref (K.Vm r3 p5) (M.Vm r3 p5):=by
 unfold K.Vm M.Vm
 with_reducible repeat' (first | exact XL | exact ZeW .. | refine J9 ?_ | refine Va ?_ ?_)
noncomputable def K.Wx (a0:ZP):Option (Qs × Int) :=
 (K.QS a0).bind fun r1=>bif r1 != 0 then (some ((⟨([]:List Zk),([]:List Int)⟩:Qs),r1)) else ((K.Wn a0).bind fun r2=>(K.XJ r2).bind fun r3=>gd [decide (r3.length=r2.length)] ((loopN 1000 (K.Vm r3) (([]:List Int),0)).bind fun y8=>bif decide ((y8.length:Int) > 12) then (some ((⟨([]:List Zk),([]:List Int)⟩:Qs),7)) else (some ((⟨r3,y8⟩:Qs),0))))
theorem Zhu (a0:ZP):Ref (K.Wx a0) (M.Wx a0):=by
 unfold K.Wx M.Wx
 with_reducible repeat' (first | exact XL | exact k_model_Check .. | exact Zf4 .. | exact WR .. | exact ZeX .. | refine QF ?_ (fun _=>?_) | refine J9 ?_ | refine Va ?_ ?_ | refine Ui (fun _=>?_))
noncomputable def K.XR (a0:List Zf):Option (List Zf) :=
 gd [decide (0=0)||decide (0 < a0.length),decide ((0+a0.length)*448≤140737488355328)] (some a0)
theorem GD (a0:List Zf):Ref (K.XR a0) (M.XR a0):=by
 unfold K.XR M.XR
 with_reducible repeat' (first | exact XL | refine J9 ?_)
noncomputable def K.Xy (a0:List Zx):Option (List Zx) :=
 gd [decide (0=0)||decide (0 < a0.length),decide ((0+a0.length)*112≤140737488355328)] (some a0)
theorem US (a0:List Zx):Ref (K.Xy a0) (M.Xy a0):=by
 unfold K.Xy M.Xy
 with_reducible repeat' (first | exact XL | refine J9 ?_)
noncomputable def K.Xr (a0:List ZD):Option (List ZD) :=
 gd [decide (0=0)||decide (0 < a0.length),decide ((0+a0.length)*40≤140737488355328)] (some a0)
theorem UJ (a0:List ZD):Ref (K.Xr a0) (M.Xr a0):=by
 unfold K.Xr M.Xr
 with_reducible repeat' (first | exact XL | refine J9 ?_)
noncomputable def K.Xs (a0:List Vy):Option (List Vy) :=
 gd [decide (0=0)||decide (0 < a0.length),decide ((0+a0.length)*40≤140737488355328)] (some a0)
theorem UK (a0:List Vy):Ref (K.Xs a0) (M.Xs a0):=by
 unfold K.Xs M.Xs
 with_reducible repeat' (first | exact XL | refine J9 ?_)
noncomputable def K.XG (a0:List Xw):Option (List Xw) :=
 gd [decide (0=0)||decide (0 < a0.length),decide ((0+a0.length)*40≤140737488355328)] (some a0)
theorem U7 (a0:List Xw):Ref (K.XG a0) (M.XG a0):=by
 unfold K.XG M.XG
 with_reducible repeat' (first | exact XL | refine J9 ?_)
noncomputable def K.XS (a0:List Ub):Option (List Ub) :=
 gd [decide (0=0)||decide (0 < a0.length),decide ((0+a0.length)*64≤140737488355328)] (some a0)
theorem GE (a0:List Ub):Ref (K.XS a0) (M.XS a0):=by
 unfold K.XS M.XS
 with_reducible repeat' (first | exact XL | refine J9 ?_)
noncomputable def K.Yc (a0:List V2):Option (List V2) :=
 gd [decide (0=0)||decide (0 < a0.length),decide ((0+a0.length)*40≤140737488355328)] (some a0)
theorem Kq (a0:List V2):Ref (K.Yc a0) (M.Yc a0):=by
 unfold K.Yc M.Yc
 with_reducible repeat' (first | exact XL | refine J9 ?_)
noncomputable def K.X6 (a0:List Kb):Option (List Kb) :=
 gd [decide (0=0)||decide (0 < a0.length),decide ((0+a0.length)*64≤140737488355328)] (some a0)
theorem Ke (a0:List Kb):Ref (K.X6 a0) (M.X6 a0):=by
 unfold K.X6 M.X6
 with_reducible repeat' (first | exact XL | refine J9 ?_)
noncomputable def K.Xk (a0:List YX):Option (List YX) :=
 gd [decide (0=0)||decide (0 < a0.length),decide ((0+a0.length)*64≤140737488355328)] (some a0)
theorem Ut (a0:List YX):Ref (K.Xk a0) (M.Xk a0):=by
 unfold K.Xk M.Xk
 with_reducible repeat' (first | exact XL | refine J9 ?_)
noncomputable def K.Xl (a0:List Yh):Option (List Yh) :=
 gd [decide (0=0)||decide (0 < a0.length),decide ((0+a0.length)*64≤140737488355328)] (some a0)
theorem Uu (a0:List Yh):Ref (K.Xl a0) (M.Xl a0):=by
 unfold K.Xl M.Xl
 with_reducible repeat' (first | exact XL | refine J9 ?_)
noncomputable def K.Xz (a0:List Wf):Option (List Wf) :=
 gd [decide (0=0)||decide (0 < a0.length),decide ((0+a0.length)*24≤140737488355328)] (some a0)
theorem UT (a0:List Wf):Ref (K.Xz a0) (M.Xz a0):=by
 unfold K.Xz M.Xz
 with_reducible repeat' (first | exact XL | refine J9 ?_)
noncomputable def K.Xa (a0:List YB):Option (List YB) :=
 gd [decide (0=0)||decide (0 < a0.length),decide ((0+a0.length)*48≤140737488355328)] (some a0)
theorem GG (a0:List YB):Ref (K.Xa a0) (M.Xa a0):=by
 unfold K.Xa M.Xa
 with_reducible repeat' (first | exact XL | refine J9 ?_)
noncomputable def K.XH (a0:List VH):Option (List VH) :=
 gd [decide (0=0)||decide (0 < a0.length),decide ((0+a0.length)*48≤140737488355328)] (some a0)
theorem U8 (a0:List VH):Ref (K.XH a0) (M.XH a0):=by
 unfold K.XH M.XH
 with_reducible repeat' (first | exact XL | refine J9 ?_)
noncomputable def K.XT (a0:List ZO):Option (List ZO) :=
 gd [decide (0=0)||decide (0 < a0.length),decide ((0+a0.length)*16≤140737488355328)] (some a0)
theorem GH (a0:List ZO):Ref (K.XT a0) (M.XT a0):=by
 unfold K.XT M.XT
 with_reducible repeat' (first | exact XL | refine J9 ?_)
noncomputable def K.XA (a0:List Wg):Option (List Wg) :=
 gd [decide (0=0)||decide (0 < a0.length),decide ((0+a0.length)*24≤140737488355328)] (some a0)
theorem UU (a0:List Wg):Ref (K.XA a0) (M.XA a0):=by
 unfold K.XA M.XA
 with_reducible repeat' (first | exact XL | refine J9 ?_)
noncomputable def K.XB (a0:List Wh):Option (List Wh) :=
 gd [decide (0=0)||decide (0 < a0.length),decide ((0+a0.length)*40≤140737488355328)] (some a0)
theorem UV (a0:List Wh):Ref (K.XB a0) (M.XB a0):=by
 unfold K.XB M.XB
 with_reducible repeat' (first | exact XL | refine J9 ?_)
noncomputable def K.QN (r2:(List ZD)) (p3:(List ZD) × Int):Option (((List ZD) × Int) ⊕ (List ZD)) :=
 bif decide (p3.2 < (r2.length:Int)) then ((K.Xs ((p3.1.getD (0+p3.2.toNat) default).Xv)).bind fun r5=>gd [decide (0≤p3.2),decide (p3.2 < (p3.1.length:Int)),decide (0≤p3.2),decide (p3.2 < (p3.1.length:Int))] (some (.inl (p3.1.set (0+p3.2.toNat) (⟨(p3.1.getD (0+p3.2.toNat) default).ZH,r5⟩:ZD),wr .i64 (p3.2+1))))) else (some (.inr p3.1))
theorem ZbB (r2:(List ZD)) (p3:(List ZD) × Int):Ref (K.QN r2 p3) (M.QN r2 p3):=by
 unfold K.QN M.QN
 with_reducible repeat' (first | exact XL | exact UK .. | refine QF ?_ (fun _=>?_) | refine J9 ?_ | refine Va ?_ ?_)
noncomputable def K.QO (r7:(List Xw)) (p8:(List Xw) × Int):Option (((List Xw) × Int) ⊕ (List Xw)) :=
 bif decide (p8.2 < (r7.length:Int)) then ((K.XS ((p8.1.getD (0+p8.2.toNat) default).Xj)).bind fun r10=>gd [decide (0≤p8.2),decide (p8.2 < (p8.1.length:Int)),decide (0≤p8.2),decide (p8.2 < (p8.1.length:Int))] (some (.inl (p8.1.set (0+p8.2.toNat) (⟨(p8.1.getD (0+p8.2.toNat) default).ZH,r10⟩:Xw),wr .i64 (p8.2+1))))) else (some (.inr p8.1))
theorem ZbC (r7:(List Xw)) (p8:(List Xw) × Int):Ref (K.QO r7 p8) (M.QO r7 p8):=by
 unfold K.QO M.QO
 with_reducible repeat' (first | exact XL | exact GE .. | refine QF ?_ (fun _=>?_) | refine J9 ?_ | refine Va ?_ ?_)
noncomputable def K.QP (r12:(List V2)) (p13:(List V2) × Int):Option (((List V2) × Int) ⊕ (List V2)) :=
 bif decide (p13.2 < (r12.length:Int)) then ((K.X6 ((p13.1.getD (0+p13.2.toNat) default).Xv)).bind fun r15=>gd [decide (0≤p13.2),decide (p13.2 < (p13.1.length:Int)),decide (0≤p13.2),decide (p13.2 < (p13.1.length:Int))] (some (.inl (p13.1.set (0+p13.2.toNat) (⟨(p13.1.getD (0+p13.2.toNat) default).ZH,r15⟩:V2),wr .i64 (p13.2+1))))) else (some (.inr p13.1))
theorem ZbD (r12:(List V2)) (p13:(List V2) × Int):Ref (K.QP r12 p13) (M.QP r12 p13):=by
 unfold K.QP M.QP
 with_reducible repeat' (first | exact XL | exact Ke .. | refine QF ?_ (fun _=>?_) | refine J9 ?_ | refine Va ?_ ?_)
noncomputable def K.JX (a0:Zf):Option Zf :=
 (K.Xy a0.Zc).bind fun r1=>(K.Xr a0.Xi).bind fun r2=>(loopN 1000 (K.QN r2) (r2,0)).bind fun y6=>(K.XG a0.Z9).bind fun r7=>(loopN 1000 (K.QO r7) (r7,0)).bind fun y11=>(K.Yc a0.XK).bind fun r12=>(loopN 1000 (K.QP r12) (r12,0)).bind fun y16=>(K.Xk a0.Xf).bind fun r17=>(K.Xl a0.Zr).bind fun r18=>(K.Xz a0.X5.ZF).bind fun r19=>(K.Xa a0.X5.Zs).bind fun r20=>(K.Xa a0.Ye.Zs).bind fun r21=>(K.XH a0.Z8.Zl).bind fun r22=>(K.XT a0.Z8.Zt).bind fun r23=>(K.XA a0.Z8.Zq).bind fun r24=>(K.XB a0.Z8.Zn).bind fun r25=>(K.Xa a0.Z8.Zs).bind fun r26=>some (⟨a0.ZH,a0.GC,r1,y6,y11,y16,r17,r18,(⟨a0.X5.Vz,a0.X5.Xd,r19,r20⟩:Wv),(⟨a0.Ye.Vz,a0.Ye.Xd,a0.Ye.VE,a0.Ye.YH,r21⟩:QA),(⟨a0.Z8.Vz,a0.Z8.XM,a0.Z8.XN,r22,r23,r24,r25,r26⟩:Xb)⟩:Zf)
theorem ZdQ (a0:Zf):Ref (K.JX a0) (M.JX a0):=by
 unfold K.JX M.JX
 with_reducible repeat' (first | exact XL | exact US .. | exact UJ .. | exact U7 .. | exact Kq .. | exact Ut .. | exact Uu .. | exact UT .. | exact GG .. | exact U8 .. | exact GH .. | exact UU .. | exact UV .. | exact ZbB .. | exact ZbC .. | exact ZbD .. | refine QF ?_ (fun _=>?_) | refine Ui (fun _=>?_))
noncomputable def K.Qr (r1:(List Zf)) (p2:(List Zf) × Int):Option (((List Zf) × Int) ⊕ (List Zf)) :=
 bif decide (p2.2 < (r1.length:Int)) then ((K.JX (p2.1.getD (0+p2.2.toNat) default)).bind fun r4=>gd [decide (0≤p2.2),decide (p2.2 < (p2.1.length:Int)),decide (0≤p2.2),decide (p2.2 < (p2.1.length:Int))] (some (.inl (p2.1.set (0+p2.2.toNat) r4,wr .i64 (p2.2+1))))) else (some (.inr p2.1))
theorem Za5 (r1:(List Zf)) (p2:(List Zf) × Int):Ref (K.Qr r1 p2) (M.Qr r1 p2):=by
 unfold K.Qr M.Qr
 with_reducible repeat' (first | exact XL | exact ZdQ .. | refine QF ?_ (fun _=>?_) | refine J9 ?_ | refine Va ?_ ?_)
noncomputable def K.JC (a0:ZP):Option ZP :=
 (K.XR a0.Zd).bind fun r1=>(loopN 1000 (K.Qr r1) (r1,0)).bind fun y5=>some (⟨y5⟩:ZP)
theorem Zde (a0:ZP):Ref (K.JC a0) (M.JC a0):=by
 unfold K.JC M.JC
 with_reducible repeat' (first | exact XL | exact GD .. | exact Za5 .. | refine QF ?_ (fun _=>?_) | refine Ui (fun _=>?_))
noncomputable def K.J6 (a1:List Int) (r1:Qs × Int) (p2:Int):Option (Int ⊕ (Unit ⊕ (W2 × Int))) :=
 bif decide (p2 < (a1.length:Int)) then (gd [decide (0≤p2),decide (p2 < (a1.length:Int))] (gd [guardB ((!((decide ((a1.getD p2.toNat default) < 0))||(decide ((a1.getD p2.toNat default) ≥ (r1.1.Wr.length:Int)))))&&(decide (p2 > 0))) (decide (0≤(wr .i64 (p2 - 1)))),guardB ((!((decide ((a1.getD p2.toNat default) < 0))||(decide ((a1.getD p2.toNat default) ≥ (r1.1.Wr.length:Int)))))&&(decide (p2 > 0))) (decide ((wr .i64 (p2 - 1)) < (a1.length:Int)))] (bif ((decide ((a1.getD p2.toNat default) < 0))||(decide ((a1.getD p2.toNat default) ≥ (r1.1.Wr.length:Int))))||((decide (p2 > 0))&&(decide ((a1.getD p2.toNat default)≤(a1.getD (wr .i64 (p2 - 1)).toNat default)))) then (some (.inr (.inr ((⟨(⟨([]:List Zf)⟩:ZP),(⟨([]:List Zk),([]:List Int)⟩:Qs),([]:List Int)⟩:W2),1)))) else (some (.inl (wr .i64 (p2+1))))))) else (some (.inr (.inl ())))
theorem Zf7 (a1:List Int) (r1:Qs × Int) (p2:Int):Ref (K.J6 a1 r1 p2) (M.J6 a1 r1 p2):=by
 unfold K.J6 M.J6
 with_reducible repeat' (first | exact XL | refine J9 ?_ | refine Va ?_ ?_)
noncomputable def K.WM (a0:ZP) (a1:List Int):Option (W2 × Int) :=
 (K.Wx a0).bind fun r1=>bif r1.2 != 0 then (some ((⟨(⟨([]:List Zf)⟩:ZP),(⟨([]:List Zk),([]:List Int)⟩:Qs),([]:List Int)⟩:W2),r1.2)) else (bif decide ((a1.length:Int) > 2) then (some ((⟨(⟨([]:List Zf)⟩:ZP),(⟨([]:List Zk),([]:List Int)⟩:Qs),([]:List Int)⟩:W2),1)) else ((loopN 1000 (K.J6 a1 r1) 0).bind fun y4=>Sum.elim (fun _=>(K.JC a0).bind fun r7=>(K.Yl a1).bind fun r8=>some ((⟨r7,r1.1,r8⟩:W2),0)) (fun y6=>some y6) y4))
theorem Zir (a0:ZP) (a1:List Int):Ref (K.WM a0 a1) (M.WM a0 a1):=by
 unfold K.WM M.WM
 with_reducible repeat' (first | exact XL | exact Kd .. | exact Zhu .. | exact Zde .. | exact Zf7 .. | refine QF ?_ (fun _=>?_) | refine Va ?_ ?_ | refine Zbw (fun _=>?_) (fun _=>?_) | refine Ui (fun _=>?_))
noncomputable def K.W8 :Option ZP :=
 some (⟨([(⟨(⟨#[97]⟩:ByteArray),0,([(⟨(⟨#[101,48]⟩:ByteArray),167772161,24,0,false,false,0,0,false,(⟨#[]⟩:ByteArray),(⟨#[]⟩:ByteArray),0⟩:Zx)]:List Zx),([]:List ZD),([]:List Xw),([]:List V2),([]:List YX),([]:List Yh),(⟨false,0,([]:List Wf),([]:List YB)⟩:Wv),(⟨false,0,(⟨#[]⟩:ByteArray),(⟨#[]⟩:ByteArray),([]:List YB)⟩:QA),(⟨false,0,0,([]:List VH),([]:List ZO),([]:List Wg),([]:List Wh),([]:List YB)⟩:Xb)⟩:Zf),(⟨(⟨#[98]⟩:ByteArray),0,([(⟨(⟨#[101,48]⟩:ByteArray),167772162,24,0,false,false,0,0,false,(⟨#[]⟩:ByteArray),(⟨#[]⟩:ByteArray),0⟩:Zx),(⟨(⟨#[101,49]⟩:ByteArray),167772418,24,0,false,false,0,0,false,(⟨#[]⟩:ByteArray),(⟨#[]⟩:ByteArray),0⟩:Zx)]:List Zx),([]:List ZD),([]:List Xw),([]:List V2),([]:List YX),([]:List Yh),(⟨false,0,([]:List Wf),([]:List YB)⟩:Wv),(⟨false,0,(⟨#[]⟩:ByteArray),(⟨#[]⟩:ByteArray),([]:List YB)⟩:QA),(⟨false,0,0,([]:List VH),([]:List ZO),([]:List Wg),([]:List Wh),([]:List YB)⟩:Xb)⟩:Zf)]:List Zf)⟩:ZP)
theorem Zhv :Ref (K.W8) (M.W8):=by
 unfold K.W8 M.W8
 with_reducible repeat' (first | exact XL)
noncomputable def K.Yp (a0:List Ue) (a1:Ue) (p1:Int):Option (Int ⊕ (Unit ⊕ Int)) :=
 bif decide (p1 < (a0.length:Int)) then (gd [decide (0≤p1),decide (p1 < (a0.length:Int))] (bif ((a1.Zcl==((a0.getD p1.toNat default).Zcl))&&((a1.Jj==((a0.getD p1.toNat default).Jj))&&true)) then (some (.inr (.inr p1))) else (some (.inl (wr .i64 (p1+1)))))) else (some (.inr (.inl ())))
theorem G1 (a0:List Ue) (a1:Ue) (p1:Int):Ref (K.Yp a0 a1 p1) (M.Yp a0 a1 p1):=by
 unfold K.Yp M.Yp
 with_reducible repeat' (first | exact XL | refine J9 ?_ | refine Va ?_ ?_)
noncomputable def K.Yq (a0:List Ue) (a1:Ue):Option Int :=
 (loopN 1000 (K.Yp a0 a1) 0).bind fun y3=>Sum.elim (fun _=>some (-1)) (fun y5=>some y5) y3
theorem Kr (a0:List Ue) (a1:Ue):Ref (K.Yq a0 a1) (M.Yq a0 a1):=by
 unfold K.Yq M.Yq
 with_reducible repeat' (first | exact XL | exact G1 .. | refine QF ?_ (fun _=>?_) | refine Zbw (fun _=>?_) (fun _=>?_) | refine Ui (fun _=>?_))
noncomputable def K.Ya (a0:List Ue) (a1:Ue):Option Bool :=
 (K.Yq a0 a1).bind fun r1=>some (decide (r1 ≥ 0))
theorem G2 (a0:List Ue) (a1:Ue):Ref (K.Ya a0 a1) (M.Ya a0 a1):=by
 unfold K.Ya M.Ya
 with_reducible repeat' (first | exact XL | exact Kr .. | refine QF ?_ (fun _=>?_))
noncomputable def K.WK (a0:W2) (a1:Int) (a2:Int) (p1:Int):Option (Int ⊕ (Unit ⊕ Int)) :=
 bif decide (p1 < (a0.Uy.V3.length:Int)) then (gd [decide (0≤p1),decide (p1 < (a0.Uy.V3.length:Int))] ((K.Ya ((a0.Uy.V3.getD p1.toNat default).Xt) (⟨a1,a2⟩:Ue)).bind fun r3=>bif r3 then (some (.inr (.inr p1))) else (some (.inl (wr .i64 (p1+1)))))) else (some (.inr (.inl ())))
theorem Zeq (a0:W2) (a1:Int) (a2:Int) (p1:Int):Ref (K.WK a0 a1 a2 p1) (M.WK a0 a1 a2 p1):=by
 unfold K.WK M.WK
 with_reducible repeat' (first | exact XL | exact G2 .. | refine QF ?_ (fun _=>?_) | refine J9 ?_ | refine Va ?_ ?_)
noncomputable def K.WL (a0:W2) (a1:Int) (a2:Int):Option Int :=
 (loopN 1000 (K.WK a0 a1 a2) 0).bind fun y4=>Sum.elim (fun _=>none) (fun y6=>some y6) y4
theorem ZcP (a0:W2) (a1:Int) (a2:Int):Ref (K.WL a0 a1 a2) (M.WL a0 a1 a2):=by
 unfold K.WL M.WL
 with_reducible repeat' (first | exact XL | exact ZfN | exact Zeq .. | refine QF ?_ (fun _=>?_) | refine Zbw (fun _=>?_) (fun _=>?_) | refine Ui (fun _=>?_))
noncomputable def K.QT (a0:List Int) (a1:Int) (p1:Int):Option (Int ⊕ (Unit ⊕ Int)) :=
 bif decide (p1 < (a0.length:Int)) then (gd [decide (0≤p1),decide (p1 < (a0.length:Int))] (bif a1==(a0.getD p1.toNat default) then (some (.inr (.inr p1))) else (some (.inl (wr .i64 (p1+1)))))) else (some (.inr (.inl ())))
theorem Rk (a0:List Int) (a1:Int) (p1:Int):Ref (K.QT a0 a1 p1) (M.QT a0 a1 p1):=by
 unfold K.QT M.QT
 with_reducible repeat' (first | exact XL | refine J9 ?_ | refine Va ?_ ?_)
noncomputable def K.Qf (a0:List Int) (a1:Int):Option Int :=
 (loopN 1000 (K.QT a0 a1) 0).bind fun y3=>Sum.elim (fun _=>some (-1)) (fun y5=>some y5) y3
theorem Kf (a0:List Int) (a1:Int):Ref (K.Qf a0 a1) (M.Qf a0 a1):=by
 unfold K.Qf M.Qf
 with_reducible repeat' (first | exact XL | exact Rk .. | refine QF ?_ (fun _=>?_) | refine Zbw (fun _=>?_) (fun _=>?_) | refine Ui (fun _=>?_))
noncomputable def K.Gu (a0:W2) (a1:Int) (a2:Int):Option Int :=
 (K.WL a0 a1 a2).bind fun r1=>bif decide (r1 < 0) then none else ((K.Qf a0.Uy.Wr r1).bind fun r2=>some r2)
theorem Zis (a0:W2) (a1:Int) (a2:Int):Ref (K.Gu a0 a1 a2) (M.Gu a0 a1 a2):=by
 unfold K.Gu M.Gu
 with_reducible repeat' (first | exact XL | exact ZfN | exact ZcP .. | exact Kf .. | refine QF ?_ (fun _=>?_) | refine Va ?_ ?_)
noncomputable def K.Qi (a0:List Int) (a1:Int):Option Bool :=
 (K.Qf a0 a1).bind fun r1=>some (decide (r1 ≥ 0))
theorem Rl (a0:List Int) (a1:Int):Ref (K.Qi a0 a1) (M.Qi a0 a1):=by
 unfold K.Qi M.Qi
 with_reducible repeat' (first | exact XL | exact Kf .. | refine QF ?_ (fun _=>?_))
noncomputable def K.Gv (a0:W2) (a1:Int) (a2:Int):Option Bool :=
 (K.WL a0 a1 a2).bind fun r1=>bif decide (r1 < 0) then none else ((K.Gu a0 a1 a2).bind fun r2=>(gc (!(decide (r2 < 0))) (K.Qi a0.RB r2)).bind fun r3=>some ((decide (r2 < 0))||(!r3)))
theorem Zj9 (a0:W2) (a1:Int) (a2:Int):Ref (K.Gv a0 a1 a2) (M.Gv a0 a1 a2):=by
 unfold K.Gv M.Gv
 with_reducible repeat' (first | exact XL | exact ZfN | exact ZcP .. | exact Zis .. | exact Rl .. | refine QF ?_ (fun _=>?_) | refine Zk9 ?_ | refine Va ?_ ?_)
noncomputable def K.Wy :Option Bool :=
 (K.W8).bind fun r1=>(K.WM r1 ([]:List Int)).bind fun r2=>(K.W8).bind fun r3=>(K.WM r3 ([0]:List Int)).bind fun r4=>(gc ((((r2.2==0)&&(r4.2==0))&&((r2.1.Uy.V3.length:Int)==2))&&((r2.1.Uy.Wr.length:Int)==1)) (K.Gv r2.1 0 0)).bind fun r5=>(gc (((((r2.2==0)&&(r4.2==0))&&((r2.1.Uy.V3.length:Int)==2))&&((r2.1.Uy.Wr.length:Int)==1))&&r5) (K.Gv r4.1 0 0)).bind fun r6=>(gc ((((((r2.2==0)&&(r4.2==0))&&((r2.1.Uy.V3.length:Int)==2))&&((r2.1.Uy.Wr.length:Int)==1))&&r5)&&(!r6)) (K.Gv r4.1 1 1)).bind fun r7=>some (((((((r2.2==0)&&(r4.2==0))&&((r2.1.Uy.V3.length:Int)==2))&&((r2.1.Uy.Wr.length:Int)==1))&&r5)&&(!r6))&&r7)
theorem Zhw :Ref (K.Wy) (M.Wy):=by
 unfold K.Wy M.Wy
 with_reducible repeat' (first | exact XL | exact Zir .. | exact Zhv .. | exact Zj9 .. | refine QF ?_ (fun _=>?_) | refine Zk9 ?_)
theorem Zka:M.Wy=some true:=Zhw _ (by kernel_rfl)
end Nv
