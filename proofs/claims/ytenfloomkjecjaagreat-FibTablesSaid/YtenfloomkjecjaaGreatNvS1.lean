/- The fixed example: reckoned. -/
import Derived.Test.YtenfloomkjecjaaGreatNvD1
import Derived.Test.YtenfloomkjecjaaGreatNvLibB
import Derived.Test.YtenfloomkjecjaaGreatNvTs
import Derived.Test.YtenfloomkjecjaaGreatNvTf
import Derived.KernelRfl
set_option maxRecDepth 100000
namespace Nv
open Go
noncomputable def K.JT (a0:ZM):Option Bool :=
 some ((a0.XR==2)&&(a0.YF != 0))
theorem Zff (a0:ZM):Ref (K.JT a0) (M.JT a0):=by
 unfold K.JT M.JT
 with_reducible repeat' (first | exact Zw)
noncomputable def K.JG (a0:Int):Option Int :=
 some (if (if 32 < a0 then 32 else a0) > 0 then (if 32 < a0 then 32 else a0) else 0)
theorem ZdQ (a0:Int):Ref (K.JG a0) (M.JG a0):=by
 unfold K.JG M.JG
 with_reducible repeat' (first | exact Zw)
noncomputable def K.J3 (a0:Int):Option Int :=
 (K.JG a0).bind fun r1=>gd [decide (0≤(wr .i64 (32 - r1)))] (some (wr .u32 (4294967295*2 ^ min (wr .i64 (32 - r1)).toNat 32)))
theorem Zbm (a0:Int):Ref (K.J3 a0) (M.J3 a0):=by
 unfold K.J3 M.J3
 with_reducible repeat' (first | exact Zw | exact ZdQ .. | refine Xp ?_ (fun _=>?_) | refine Y3 ?_)
noncomputable def K.Yn (a0:ZL) (a1:Int):Option Bool :=
 (K.J3 a0.ZE).bind fun r1=>some ((bitD .and .u32 a1 r1)==a0.Zm)
theorem ZaG (a0:ZL) (a1:Int):Ref (K.Yn a0 a1) (M.Yn a0 a1):=by
 unfold K.Yn M.Yn
 with_reducible repeat' (first | exact Zw | exact Zbm .. | refine Xp ?_ (fun _=>?_))
noncomputable def K.Yi (p1:Int × Int) (p3:Int):Option ((Int × Int) ⊕ Int) :=
 some (.inl (p3,wr .i64 (p1.2+1)))
theorem Zbn (p1:Int × Int) (p3:Int):Ref (K.Yi p1 p3) (M.Yi p1 p3):=by
 unfold K.Yi M.Yi
 with_reducible repeat' (first | exact Zw)
noncomputable def K.Yp (a0:List ZM) (a1:ZL) (a2:Int) (p1:Int × Int):Option ((Int × Int) ⊕ Int) :=
 bif decide (p1.2 < (a0.length:Int)) then (gd [decide (0≤p1.2),decide (p1.2 < (a0.length:Int))] ((gc (!(((((a0.getD p1.2.toNat default).Zh).Zm)==a1.Zm)&&(((((a0.getD p1.2.toNat default).Zh).ZE)==a1.ZE)&&true))) (K.Yn ((a0.getD p1.2.toNat default).Zh) a2)).bind fun r4=>bif (((((a0.getD p1.2.toNat default).Zh).Zm)==a1.Zm)&&(((((a0.getD p1.2.toNat default).Zh).ZE)==a1.ZE)&&true))||(!r4) then (K.Yi p1 p1.1) else (gd [guardB (!(decide (p1.1 < 0))) (decide (0≤p1.1)),guardB (!(decide (p1.1 < 0))) (decide (p1.1 < (a0.length:Int)))] (bif (decide (p1.1 < 0))||(decide ((((a0.getD p1.2.toNat default).Zh).ZE) > (((a0.getD p1.1.toNat default).Zh).ZE))) then (K.Yi p1 p1.2) else (K.Yi p1 p1.1))))) else (some (.inr p1.1))
theorem Zbo (a0:List ZM) (a1:ZL) (a2:Int) (p1:Int × Int):Ref (K.Yp a0 a1 a2 p1) (M.Yp a0 a1 a2 p1):=by
 unfold K.Yp M.Yp
 with_reducible repeat' (first | exact Zw | exact ZaG .. | exact Zbn .. | refine Xp ?_ (fun _=>?_) | refine Y3 ?_ | refine Rt ?_ | refine XB ?_ ?_)
noncomputable def K.YN (a0:List ZM) (a1:ZL) (a2:Int):Option Int :=
 (loopN 1000 (K.Yp a0 a1 a2) ((-1),0)).bind fun y5=>some y5
theorem ZdR (a0:List ZM) (a1:ZL) (a2:Int):Ref (K.YN a0 a1 a2) (M.YN a0 a1 a2):=by
 unfold K.YN M.YN
 with_reducible repeat' (first | exact Zw | exact Zbo .. | refine Xp ?_ (fun _=>?_) | refine YG (fun _=>?_))
noncomputable def K.XY (a0:List ZF):Option (List ZF) :=
 gd [decide (0=0)||decide (0 < a0.length),decide ((0+a0.length)*16≤140737488355328)] (some a0)
theorem Kk (a0:List ZF):Ref (K.XY a0) (M.XY a0):=by
 unfold K.XY M.XY
 with_reducible repeat' (first | exact Zw | refine Y3 ?_)
noncomputable def K.Jb (p2:(List ZF) × Int) (p4:(List ZF)):Option (((List ZF) × Int) ⊕ (List ZF)) :=
 some (.inl (p4,wr .i64 (p2.2+1)))
theorem Zey (p2:(List ZF) × Int) (p4:(List ZF)):Ref (K.Jb p2 p4) (M.Jb p2 p4):=by
 unfold K.Jb M.Jb
 with_reducible repeat' (first | exact Zw)
noncomputable def K.Jc (a1:Int) (r1:(List ZF)) (p2:(List ZF) × Int):Option (((List ZF) × Int) ⊕ (List ZF)) :=
 bif decide (p2.2 < (r1.length:Int)) then (gd [decide (0≤p2.2),decide (p2.2 < (p2.1.length:Int))] (bif ((p2.1.getD (0+p2.2.toNat) default).Zm)==0 then (gd [decide (0≤p2.2),decide (p2.2 < (p2.1.length:Int))] (K.Jb p2 (p2.1.set (0+p2.2.toNat) (⟨(p2.1.getD (0+p2.2.toNat) default).ZP,a1⟩:ZF)))) else (K.Jb p2 p2.1))) else (some (.inr p2.1))
theorem Zez (a1:Int) (r1:(List ZF)) (p2:(List ZF) × Int):Ref (K.Jc a1 r1 p2) (M.Jc a1 r1 p2):=by
 unfold K.Jc M.Jc
 with_reducible repeat' (first | exact Zw | exact Zey .. | refine Y3 ?_ | refine XB ?_ ?_)
noncomputable def K.Wu (a0:List ZF) (a1:Int):Option (List ZF) :=
 (K.XY a0).bind fun r1=>(loopN 1000 (K.Jc a1 r1) (r1,0)).bind fun y5=>some y5
theorem ZgX (a0:List ZF) (a1:Int):Ref (K.Wu a0 a1) (M.Wu a0 a1):=by
 unfold K.Wu M.Wu
 with_reducible repeat' (first | exact Zw | exact Kk .. | exact Zez .. | refine Xp ?_ (fun _=>?_) | refine YG (fun _=>?_))
noncomputable def K.JH (a0:List ZM) (p1:(List Bool) × Int):Option (((List Bool) × Int) ⊕ (Int ⊕ (List ZF))) :=
 (gc (!((a0.getD p1.2.toNat default).ZS)) (K.JT (a0.getD p1.2.toNat default))).bind fun r3=>gd [decide (0≤p1.2),decide (p1.2 < (a0.length:Int)),guardB (!((a0.getD p1.2.toNat default).ZS)) (decide (0≤p1.2)),guardB (!((a0.getD p1.2.toNat default).ZS)) (decide (p1.2 < (a0.length:Int)))] (bif (!((a0.getD p1.2.toNat default).ZS))&&r3 then (gd [decide (0≤p1.2),decide (p1.2 < (p1.1.length:Int))] (gd [decide (0≤p1.2),decide (p1.2 < (a0.length:Int))] ((K.YN a0 ((a0.getD p1.2.toNat default).Zh) ((a0.getD p1.2.toNat default).YF)).bind fun r4=>gd [decide (0≤p1.2),decide (p1.2 < (a0.length:Int))] (gd [guardB (!((decide (r4 < 0))||(decide (r4 ≥ (a0.length:Int))))) (decide (0≤r4)),guardB (!((decide (r4 < 0))||(decide (r4 ≥ (a0.length:Int))))) (decide (r4 < (((p1.1.set (0+p1.2.toNat) true).length:Nat):Int)))] (bif ((decide (r4 < 0))||(decide (r4 ≥ (a0.length:Int))))||((p1.1.set (0+p1.2.toNat) true).getD (0+r4.toNat) default) then (some (.inr (.inr ([]:List ZF)))) else ((gc (!((a0.getD r4.toNat default).ZS)) (K.JT (a0.getD r4.toNat default))).bind fun r5=>gd [decide (0≤r4),decide (r4 < (a0.length:Int)),guardB (!((a0.getD r4.toNat default).ZS)) (decide (0≤r4)),guardB (!((a0.getD r4.toNat default).ZS)) (decide (r4 < (a0.length:Int)))] (bif (!((a0.getD r4.toNat default).ZS))&&(!r5) then ((K.Wu ((a0.getD r4.toNat default).ZQ) ((a0.getD p1.2.toNat default).YF)).bind fun r6=>gd [decide (0≤r4),decide (r4 < (a0.length:Int))] (some (.inr (.inr r6)))) else (some (.inl (p1.1.set (0+p1.2.toNat) true,r4)))))))))) else (some (.inr (.inl p1.2))))
theorem ZeA (a0:List ZM) (p1:(List Bool) × Int):Ref (K.JH a0 p1) (M.JH a0 p1):=by
 unfold K.JH M.JH
 with_reducible repeat' (first | exact Zw | exact Zff .. | exact ZdR .. | exact ZgX .. | refine Xp ?_ (fun _=>?_) | refine Y3 ?_ | refine Rt ?_ | refine XB ?_ ?_)
noncomputable def K.Wv (a0:List ZM) (a1:Int):Option (List ZF) :=
 gd [decide (0≤(a0.length:Int)),decide ((a0.length:Int)≤(a0.length:Int)),decide ((a0.length:Int).toNat*1≤140737488355328),decide ((a0.length:Int).toNat≤140737488355328)] ((loopN 1000 (K.JH a0) (List.replicate ((a0.length:Int).toNat) false,a1)).bind fun y7=>Sum.elim (fun g8=>gd [decide (0≤g8),decide (g8 < (a0.length:Int))] (bif (a0.getD g8.toNat default).ZS then (some ([]:List ZF)) else (gd [decide (0≤g8),decide (g8 < (a0.length:Int))] (some ((a0.getD g8.toNat default).ZQ))))) (fun y9=>some y9) y7)
theorem ZgY (a0:List ZM) (a1:Int):Ref (K.Wv a0 a1) (M.Wv a0 a1):=by
 unfold K.Wv M.Wv
 with_reducible repeat' (first | exact Zw | exact ZeA .. | refine Xp ?_ (fun _=>?_) | refine Y3 ?_ | refine XB ?_ ?_ | refine Kx (fun _=>?_) (fun _=>?_) | refine YG (fun _=>?_))
noncomputable def K.Z4 (a0:List VL) (a1:VL) (p1:Int):Option (Int ⊕ (Unit ⊕ Int)) :=
 bif decide (p1 < (a0.length:Int)) then (gd [decide (0≤p1),decide (p1 < (a0.length:Int))] (bif ((a1.UQ==((a0.getD p1.toNat default).UQ))&&((a1.ZP==((a0.getD p1.toNat default).ZP))&&true)) then (some (.inr (.inr p1))) else (some (.inl (wr .i64 (p1+1)))))) else (some (.inr (.inl ())))
theorem GP (a0:List VL) (a1:VL) (p1:Int):Ref (K.Z4 a0 a1 p1) (M.Z4 a0 a1 p1):=by
 unfold K.Z4 M.Z4
 with_reducible repeat' (first | exact Zw | refine Y3 ?_ | refine XB ?_ ?_)
noncomputable def K.Z9 (a0:List VL) (a1:VL):Option Int :=
 (loopN 1000 (K.Z4 a0 a1) 0).bind fun y3=>Sum.elim (fun _=>some (-1)) (fun y5=>some y5) y3
theorem Kl (a0:List VL) (a1:VL):Ref (K.Z9 a0 a1) (M.Z9 a0 a1):=by
 unfold K.Z9 M.Z9
 with_reducible repeat' (first | exact Zw | exact GP .. | refine Xp ?_ (fun _=>?_) | refine Kx (fun _=>?_) (fun _=>?_) | refine YG (fun _=>?_))
noncomputable def K.ZV (a0:List VL) (a1:VL):Option Bool :=
 (K.Z9 a0 a1).bind fun r1=>some (decide (r1 ≥ 0))
theorem GQ (a0:List VL) (a1:VL):Ref (K.ZV a0 a1) (M.ZV a0 a1):=by
 unfold K.ZV M.ZV
 with_reducible repeat' (first | exact Zw | exact Kl .. | refine Xp ?_ (fun _=>?_))
noncomputable def K.YT (a0:XL) (a1:Int) (a2:Int) (p1:Int):Option (Int ⊕ (Unit ⊕ Int)) :=
 bif decide (p1 < (a0.Yf.Xe.length:Int)) then (gd [decide (0≤p1),decide (p1 < (a0.Yf.Xe.length:Int))] ((K.ZV ((a0.Yf.Xe.getD p1.toNat default).ZW) (⟨a1,a2⟩:VL)).bind fun r3=>bif r3 then (some (.inr (.inr p1))) else (some (.inl (wr .i64 (p1+1)))))) else (some (.inr (.inl ())))
theorem ZeB (a0:XL) (a1:Int) (a2:Int) (p1:Int):Ref (K.YT a0 a1 a2 p1) (M.YT a0 a1 a2 p1):=by
 unfold K.YT M.YT
 with_reducible repeat' (first | exact Zw | exact GQ .. | refine Xp ?_ (fun _=>?_) | refine Y3 ?_ | refine XB ?_ ?_)
noncomputable def K.Qd (a0:XL) (a1:Int) (a2:Int):Option Int :=
 (loopN 1000 (K.YT a0 a1 a2) 0).bind fun y4=>Sum.elim (fun _=>some (-1)) (fun y6=>some y6) y4
theorem Zcy (a0:XL) (a1:Int) (a2:Int):Ref (K.Qd a0 a1 a2) (M.Qd a0 a1 a2):=by
 unfold K.Qd M.Qd
 with_reducible repeat' (first | exact Zw | exact ZeB .. | refine Xp ?_ (fun _=>?_) | refine Kx (fun _=>?_) (fun _=>?_) | refine YG (fun _=>?_))
noncomputable def K.XS (a0:List Int) (a1:Int) (p1:Int):Option (Int ⊕ (Unit ⊕ Int)) :=
 bif decide (p1 < (a0.length:Int)) then (gd [decide (0≤p1),decide (p1 < (a0.length:Int))] (bif a1==(a0.getD p1.toNat default) then (some (.inr (.inr p1))) else (some (.inl (wr .i64 (p1+1)))))) else (some (.inr (.inl ())))
theorem Rc (a0:List Int) (a1:Int) (p1:Int):Ref (K.XS a0 a1 p1) (M.XS a0 a1 p1):=by
 unfold K.XS M.XS
 with_reducible repeat' (first | exact Zw | refine Y3 ?_ | refine XB ?_ ?_)
noncomputable def K.XQ (a0:List Int) (a1:Int):Option Int :=
 (loopN 1000 (K.XS a0 a1) 0).bind fun y3=>Sum.elim (fun _=>some (-1)) (fun y5=>some y5) y3
theorem G6 (a0:List Int) (a1:Int):Ref (K.XQ a0 a1) (M.XQ a0 a1):=by
 unfold K.XQ M.XQ
 with_reducible repeat' (first | exact Zw | exact Rc .. | refine Xp ?_ (fun _=>?_) | refine Kx (fun _=>?_) (fun _=>?_) | refine YG (fun _=>?_))
noncomputable def K.VE (a0:XL) (a1:Int) (a2:Int):Option Int :=
 (K.Qd a0 a1 a2).bind fun r1=>bif decide (r1 < 0) then (some (-1)) else ((K.XQ a0.Yf.J0 r1).bind fun r2=>some r2)
theorem Zja (a0:XL) (a1:Int) (a2:Int):Ref (K.VE a0 a1 a2) (M.VE a0 a1 a2):=by
 unfold K.VE M.VE
 with_reducible repeat' (first | exact Zw | exact Zcy .. | exact G6 .. | refine Xp ?_ (fun _=>?_) | refine XB ?_ ?_)
noncomputable def K.XH (a0:List Int) (a1:Int):Option Bool :=
 (K.XQ a0 a1).bind fun r1=>some (decide (r1 ≥ 0))
theorem Rd (a0:List Int) (a1:Int):Ref (K.XH a0 a1) (M.XH a0 a1):=by
 unfold K.XH M.XH
 with_reducible repeat' (first | exact Zw | exact G6 .. | refine Xp ?_ (fun _=>?_))
noncomputable def K.Us (a0:XL) (a1:Int) (a2:Int):Option Bool :=
 (K.Qd a0 a1 a2).bind fun r1=>bif decide (r1 < 0) then (some false) else ((K.VE a0 a1 a2).bind fun r2=>(gc (!(decide (r2 < 0))) (K.XH a0.Jx r2)).bind fun r3=>some ((decide (r2 < 0))||(!r3)))
theorem Zk9 (a0:XL) (a1:Int) (a2:Int):Ref (K.Us a0 a1 a2) (M.Us a0 a1 a2):=by
 unfold K.Us M.Us
 with_reducible repeat' (first | exact Zw | exact Zcy .. | exact Zja .. | exact Rd .. | refine Xp ?_ (fun _=>?_) | refine Rt ?_ | refine XB ?_ ?_)
noncomputable def K.Jh (a0:Int):Option Bool :=
 some (a0 != a0)
theorem Zfg (a0:Int):Ref (K.Jh a0) (M.Jh a0):=by
 unfold K.Jh M.Jh
 with_reducible repeat' (first | exact Zw)
noncomputable def K.YO (a0:Int) (a1:Int):Option Int :=
 (K.Jh a0).bind fun r1=>(K.Jh a1).bind fun r2=>bif r1 then (bif r2 then (some 0) else (some (-1))) else (bif r2 then (some 1) else (bif decide (a0 < a1) then (some (-1)) else (bif decide (a0 > a1) then (some 1) else (some 0))))
theorem G7 (a0:Int) (a1:Int):Ref (K.YO a0 a1) (M.YO a0 a1):=by
 unfold K.YO M.YO
 with_reducible repeat' (first | exact Zw | exact Zfg .. | refine Xp ?_ (fun _=>?_) | refine XB ?_ ?_)
noncomputable def K.Y4 (a0:Int):Option Bool :=
 some (a0 != a0)
theorem ZcZ (a0:Int):Ref (K.Y4 a0) (M.Y4 a0):=by
 unfold K.Y4 M.Y4
 with_reducible repeat' (first | exact Zw)
noncomputable def K.Yw (a0:Int) (a1:Int):Option Int :=
 (K.Y4 a0).bind fun r1=>(K.Y4 a1).bind fun r2=>bif r1 then (bif r2 then (some 0) else (some (-1))) else (bif r2 then (some 1) else (bif decide (a0 < a1) then (some (-1)) else (bif decide (a0 > a1) then (some 1) else (some 0))))
theorem KD (a0:Int) (a1:Int):Ref (K.Yw a0 a1) (M.Yw a0 a1):=by
 unfold K.Yw M.Yw
 with_reducible repeat' (first | exact Zw | exact ZcZ .. | refine Xp ?_ (fun _=>?_) | refine XB ?_ ?_)
noncomputable def K.QT (a0:List Int) (p1:Int):Option (Int ⊕ (Unit ⊕ Int)) :=
 bif decide (p1 < (a0.length:Int)) then (gd [decide (0≤p1),decide (p1 < (a0.length:Int))] (bif (a0.getD p1.toNat default) != 0 then (some (.inr (.inr (a0.getD p1.toNat default)))) else (some (.inl (wr .i64 (p1+1)))))) else (some (.inr (.inl ())))
theorem Zfh (a0:List Int) (p1:Int):Ref (K.QT a0 p1) (M.QT a0 p1):=by
 unfold K.QT M.QT
 with_reducible repeat' (first | exact Zw | refine Y3 ?_ | refine XB ?_ ?_)
noncomputable def K.Wd (a0:List Int):Option Int :=
 (loopN 1000 (K.QT a0) 0).bind fun y3=>Sum.elim (fun _=>some 0) (fun y5=>some y5) y3
theorem ZdS (a0:List Int):Ref (K.Wd a0) (M.Wd a0):=by
 unfold K.Wd M.Wd
 with_reducible repeat' (first | exact Zw | exact Zfh .. | refine Xp ?_ (fun _=>?_) | refine Kx (fun _=>?_) (fun _=>?_) | refine YG (fun _=>?_))
noncomputable def K.JU (a0:ZF) (a1:ZF):Option Int :=
 (K.YO a0.ZP a1.ZP).bind fun r1=>(K.Yw a0.Zm a1.Zm).bind fun r2=>(K.Wd ([r1,r2]:List Int)).bind fun r3=>some r3
theorem Zfi (a0:ZF) (a1:ZF):Ref (K.JU a0 a1) (M.JU a0 a1):=by
 unfold K.JU M.JU
 with_reducible repeat' (first | exact Zw | exact G7 .. | exact KD .. | exact ZdS .. | refine Xp ?_ (fun _=>?_))
noncomputable def K.XI (a0:List ZF):Option (List ZF) :=
 sortK K.JU a0
theorem W4 (a0:List ZF):Ref (K.XI a0) (M.XI a0):=ZiY Zfi so_fib_Resolve_1
noncomputable def K.Xk (p3:(List ZF) × Int × Int) (p5:Int × (List ZF)):Option (((List ZF) × Int × Int) ⊕ (Int × (List ZF))) :=
 some (.inl (p5.2,p5.1,wr .i64 (p3.2.2+1)))
theorem GB (p3:(List ZF) × Int × Int) (p5:Int × (List ZF)):Ref (K.Xk p3 p5) (M.Xk p3 p5):=by
 unfold K.Xk M.Xk
 with_reducible repeat' (first | exact Zw)
noncomputable def K.Xl (a0:List ZF) (p1:Int) (p3:(List ZF) × Int × Int):Option (((List ZF) × Int × Int) ⊕ (Int × (List ZF))) :=
 bif decide (p3.2.2 < ((a0.length - p1.toNat:Nat):Int)) then (gd [decide (0≤p3.2.2),decide (p3.2.2 < ((a0.length - p1.toNat:Nat):Int)),decide (0≤(wr .i64 (p3.2.2 - 1))),decide ((wr .i64 (p3.2.2 - 1)) < ((a0.length - p1.toNat:Nat):Int))] (bif !((((p3.1.getD ((0+p1.toNat)+p3.2.2.toNat) default).ZP)==((p3.1.getD ((0+p1.toNat)+(wr .i64 (p3.2.2 - 1)).toNat) default).ZP))&&((((p3.1.getD ((0+p1.toNat)+p3.2.2.toNat) default).Zm)==((p3.1.getD ((0+p1.toNat)+(wr .i64 (p3.2.2 - 1)).toNat) default).Zm))&&true)) then (gd [decide (0≤p3.2.2),decide (p3.2.2 < ((a0.length - p1.toNat:Nat):Int)),decide (0≤p3.2.1),decide (p3.2.1 < (p3.1.length:Int))] (K.Xk p3 (wr .i64 (p3.2.1+1),p3.1.set (0+p3.2.1.toNat) (p3.1.getD ((0+p1.toNat)+p3.2.2.toNat) default)))) else (K.Xk p3 (p3.2.1,p3.1)))) else (some (.inr (p3.2.1,p3.1)))
theorem GC (a0:List ZF) (p1:Int) (p3:(List ZF) × Int × Int):Ref (K.Xl a0 p1 p3) (M.Xl a0 p1 p3):=by
 unfold K.Xl M.Xl
 with_reducible repeat' (first | exact Zw | exact GB .. | refine Y3 ?_ | refine XB ?_ ?_)
noncomputable def K.Z3 (a0:List ZF) (p1:Int):Option (Int ⊕ (Unit ⊕ ((List ZF) × Nat))) :=
 bif decide (p1 < (a0.length:Int)) then (gd [decide (0≤p1),decide (p1 < (a0.length:Int)),decide (0≤(wr .i64 (p1 - 1))),decide ((wr .i64 (p1 - 1)) < (a0.length:Int))] (bif ((((a0.getD (0+p1.toNat) default).ZP)==((a0.getD (0+(wr .i64 (p1 - 1)).toNat) default).ZP))&&((((a0.getD (0+p1.toNat) default).Zm)==((a0.getD (0+(wr .i64 (p1 - 1)).toNat) default).Zm))&&true)) then (gd [decide (0≤p1),decide (p1≤(a0.length:Int))] ((loopN 1000 (K.Xl a0 p1) (a0,p1,1)).bind fun y6=>gd [decide (0≤y6.1),decide (y6.1≤(y6.2.length:Int))] (gd [decide (0≤y6.1),decide (y6.1≤(((clrL y6.2 (0+y6.1.toNat) (y6.2.length - y6.1.toNat) (⟨0,0⟩:ZF)).length:Nat):Int))] (gd [decide ((clrL y6.2 (0+y6.1.toNat) (y6.2.length - y6.1.toNat) (⟨0,0⟩:ZF)).length=a0.length)] (some (.inr (.inr (clrL y6.2 (0+y6.1.toNat) (y6.2.length - y6.1.toNat) (⟨0,0⟩:ZF),y6.1.toNat - 0)))))))) else (some (.inl (wr .i64 (p1+1)))))) else (some (.inr (.inl ())))
theorem GD (a0:List ZF) (p1:Int):Ref (K.Z3 a0 p1) (M.Z3 a0 p1):=by
 unfold K.Z3 M.Z3
 with_reducible repeat' (first | exact Zw | exact GC .. | refine Xp ?_ (fun _=>?_) | refine Y3 ?_ | refine XB ?_ ?_ | refine YG (fun _=>?_))
noncomputable def K.XT (a0:List ZF):Option ((List ZF) × Nat) :=
 bif decide ((a0.length:Int) < 2) then (some (a0,a0.length)) else ((loopN 1000 (K.Z3 a0) 1).bind fun y7=>Sum.elim (fun _=>some (a0,a0.length)) (fun y9=>some y9) y7)
theorem G8 (a0:List ZF):Ref (K.XT a0) (M.XT a0):=by
 unfold K.XT M.XT
 with_reducible repeat' (first | exact Zw | exact GD .. | refine Xp ?_ (fun _=>?_) | refine XB ?_ ?_ | refine Kx (fun _=>?_) (fun _=>?_) | refine YG (fun _=>?_))
noncomputable def K.Jd (p2:(List ZF) × Int) (p4:(List ZF)):Option (((List ZF) × Int) ⊕ (List ZF)) :=
 some (.inl (p4,wr .i64 (p2.2+1)))
theorem ZeC (p2:(List ZF) × Int) (p4:(List ZF)):Ref (K.Jd p2 p4) (M.Jd p2 p4):=by
 unfold K.Jd M.Jd
 with_reducible repeat' (first | exact Zw)
noncomputable def K.JI (a0:XL) (a2:Int) (r1:(List ZF)) (p2:(List ZF) × Int):Option (((List ZF) × Int) ⊕ (List ZF)) :=
 bif decide (p2.2 < (r1.length:Int)) then (gd [decide (0≤p2.2),decide (p2.2 < (r1.length:Int))] ((K.Us a0 a2 ((r1.getD p2.2.toNat default).ZP)).bind fun r5=>bif r5 then (gd [decide ((p2.1.length+1)*16≤140737488355328)] (K.Jd p2 (p2.1++[r1.getD p2.2.toNat default]))) else (K.Jd p2 p2.1))) else (some (.inr p2.1))
theorem ZeD (a0:XL) (a2:Int) (r1:(List ZF)) (p2:(List ZF) × Int):Ref (K.JI a0 a2 r1 p2) (M.JI a0 a2 r1 p2):=by
 unfold K.JI M.JI
 with_reducible repeat' (first | exact Zw | exact Zk9 .. | exact ZeC .. | refine Xp ?_ (fun _=>?_) | refine Y3 ?_ | refine XB ?_ ?_)
noncomputable def K.JJ (a0:XL) (a1:List ZM) (a2:Int) (a3:Int):Option (List ZF) :=
 bif (decide (a3 < 0))||(decide (a3 ≥ (a1.length:Int))) then (some ([]:List ZF)) else ((K.Wv a1 a3).bind fun r1=>(loopN 1000 (K.JI a0 a2 r1) (([]:List ZF),0)).bind fun y6=>(K.XI y6).bind fun r7=>gd [decide (r7.length=y6.length)] ((K.XT r7).bind fun r8=>gd [decide (r8.1.length=r7.length),decide (r8.2≤r8.1.length)] (gd [decide (r8.2≤r8.1.length)] (some (r8.1.take r8.2)))))
theorem ZgZ (a0:XL) (a1:List ZM) (a2:Int) (a3:Int):Ref (K.JJ a0 a1 a2 a3) (M.JJ a0 a1 a2 a3):=by
 unfold K.JJ M.JJ
 with_reducible repeat' (first | exact Zw | exact ZgY .. | exact W4 .. | exact G8 .. | exact ZeD .. | refine Xp ?_ (fun _=>?_) | refine Y3 ?_ | refine XB ?_ ?_ | refine YG (fun _=>?_))
noncomputable def K.VT (a0:XL) (a1:List ZM) (a2:Int) (p1:(List Xx) × Int):Option (((List Xx) × Int) ⊕ (List Xx)) :=
 bif decide (p1.2 < (a1.length:Int)) then (gd [decide (0≤p1.2),decide (p1.2 < (a1.length:Int))] ((K.JJ a0 a1 a2 p1.2).bind fun r3=>gd [decide ((p1.1.length+1)*48≤140737488355328)] (some (.inl (p1.1++[(⟨(a1.getD p1.2.toNat default).Zh,r3,(a1.getD p1.2.toNat default).ZS⟩:Xx)],wr .i64 (p1.2+1)))))) else (some (.inr p1.1))
theorem Zgw (a0:XL) (a1:List ZM) (a2:Int) (p1:(List Xx) × Int):Ref (K.VT a0 a1 a2 p1) (M.VT a0 a1 a2 p1):=by
 unfold K.VT M.VT
 with_reducible repeat' (first | exact Zw | exact ZgZ .. | refine Xp ?_ (fun _=>?_) | refine Y3 ?_ | refine XB ?_ ?_)
noncomputable def K.W5 (a0:XL) (a1:List ZM) (a2:Int):Option (List Xx) :=
 (loopN 1000 (K.VT a0 a1 a2) (([]:List Xx),0)).bind fun y4=>some y4
theorem Zjb (a0:XL) (a1:List ZM) (a2:Int):Ref (K.W5 a0 a1 a2) (M.W5 a0 a1 a2):=by
 unfold K.W5 M.W5
 with_reducible repeat' (first | exact Zw | exact Zgw .. | refine Xp ?_ (fun _=>?_) | refine YG (fun _=>?_))
noncomputable def K.Ww (a0:Int):Option Bool :=
 some (((decide (65≤a0))&&(decide (a0≤90)))||((decide (97≤a0))&&(decide (a0≤122))))
theorem Zcz (a0:Int):Ref (K.Ww a0) (M.Ww a0):=by
 unfold K.Ww M.Ww
 with_reducible repeat' (first | exact Zw)
noncomputable def K.US (a0:Int):Option Bool :=
 some ((decide (48≤a0))&&(decide (a0≤57)))
theorem Zh2 (a0:Int):Ref (K.US a0) (M.US a0):=by
 unfold K.US M.US
 with_reducible repeat' (first | exact Zw)
noncomputable def K.Ue (a0:ByteArray) (p2:Int):Option (Int ⊕ Unit) :=
 bif decide (p2 < (a0.size:Int)) then (gd [decide (0≤p2),decide (p2 < (a0.size:Int))] ((K.Ww (byteAt a0 p2)).bind fun r4=>(gc (!r4) (K.US (byteAt a0 p2))).bind fun r5=>bif (((((!r4)&&(!r5))&&((byteAt a0 p2) != 45))&&((byteAt a0 p2) != 95))&&((byteAt a0 p2) != 47))&&((byteAt a0 p2) != 46) then none else (some (.inl (wr .i64 (p2+1)))))) else (some (.inr ()))
theorem Zgx (a0:ByteArray) (p2:Int):Ref (K.Ue a0 p2) (M.Ue a0 p2):=by
 unfold K.Ue M.Ue
 with_reducible repeat' (first | exact Zw | exact YR | exact Zcz .. | exact Zh2 .. | refine Xp ?_ (fun _=>?_) | refine Y3 ?_ | refine Rt ?_ | refine XB ?_ ?_)
noncomputable def K.UF (a0:ByteArray):Option Bool :=
 (gc (!((decide ((a0.size:Int) < 1))||(decide ((a0.size:Int) > 15)))) (K.Ww (byteAt a0 0))).bind fun r1=>gd [guardB (!((decide ((a0.size:Int) < 1))||(decide ((a0.size:Int) > 15)))) (decide (0≤0)),guardB (!((decide ((a0.size:Int) < 1))||(decide ((a0.size:Int) > 15)))) (decide (0 < (a0.size:Int)))] (bif ((decide ((a0.size:Int) < 1))||(decide ((a0.size:Int) > 15)))||(!r1) then none else ((loopN 1000 (K.Ue a0) 1).bind fun y6=>some true))
theorem Ze9 (a0:ByteArray):Ref (K.UF a0) (M.UF a0):=by
 unfold K.UF M.UF
 with_reducible repeat' (first | exact Zw | exact YR | exact Zcz .. | exact Zgx .. | refine Xp ?_ (fun _=>?_) | refine Y3 ?_ | refine Rt ?_ | refine XB ?_ ?_ | refine YG (fun _=>?_))
noncomputable def K.YW (a0:Int) (a1:Int) (a2:Int):Option Bool :=
 some ((decide (a1≤a0))&&(decide (a0≤a2)))
theorem K5 (a0:Int) (a1:Int) (a2:Int):Ref (K.YW a0 a1 a2) (M.YW a0 a1 a2):=by
 unfold K.YW M.YW
 with_reducible repeat' (first | exact Zw)
noncomputable def K.Jt (a0:ZA) (b0:ByteArray):Option Bool :=
 some (strEq a0.XG b0)
theorem Zcc (a0:ZA) (b0:ByteArray):Ref (K.Jt a0 b0) (M.Jt a0 b0):=by
 unfold K.Jt M.Jt
 with_reducible repeat' (first | exact Zw)
noncomputable def K.ZK (a0:List ZA) (a1c0:ByteArray) (p1:Int):Option (Int ⊕ (Unit ⊕ Int)) :=
 bif decide (p1 < (a0.length:Int)) then ((K.Jt (a0.getD p1.toNat default) a1c0).bind fun r3=>gd [decide (0≤p1),decide (p1 < (a0.length:Int))] (bif r3 then (some (.inr (.inr p1))) else (some (.inl (wr .i64 (p1+1)))))) else (some (.inr (.inl ())))
theorem Vh (a0:List ZA) (a1c0:ByteArray) (p1:Int):Ref (K.ZK a0 a1c0 p1) (M.ZK a0 a1c0 p1):=by
 unfold K.ZK M.ZK
 with_reducible repeat' (first | exact Zw | exact Zcc .. | refine Xp ?_ (fun _=>?_) | refine Y3 ?_ | refine XB ?_ ?_)
noncomputable def K.ZH (a0:List ZA) (a1c0:ByteArray):Option Int :=
 (loopN 1000 (K.ZK a0 a1c0) 0).bind fun y4=>Sum.elim (fun _=>some (-1)) (fun y6=>some y6) y4
theorem VG (a0:List ZA) (a1c0:ByteArray):Ref (K.ZH a0 a1c0) (M.ZH a0 a1c0):=by
 unfold K.ZH M.ZH
 with_reducible repeat' (first | exact Zw | exact Vh .. | refine Xp ?_ (fun _=>?_) | refine Kx (fun _=>?_) (fun _=>?_) | refine YG (fun _=>?_))
noncomputable def K.Vp (a0:Zi) (a1:ByteArray):Option Int :=
 (K.ZH a0.Zc a1).bind fun r1=>some r1
theorem ZdT (a0:Zi) (a1:ByteArray):Ref (K.Vp a0 a1) (M.Vp a0 a1):=by
 unfold K.Vp M.Vp
 with_reducible repeat' (first | exact Zw | exact VG .. | refine Xp ?_ (fun _=>?_))
noncomputable def K.Qv (a0:ZA):Option Bool :=
 (K.YW a0.ZE 0 32).bind fun r1=>(gc (!(!r1)) (K.YW a0.XN 0 4094)).bind fun r2=>(gc (!((!r1)||(!r2))) (K.YW a0.Zbj 0 2)).bind fun r3=>bif ((!r1)||(!r2))||(!r3) then none else (bif (a0.ZE==0)&&(((((((a0.Zm != 0)||(a0.XN != 0))||(a0.Zbj != 0))||a0.YC)||a0.YK)||(!strEq a0.WH (⟨#[]⟩:ByteArray)))||(!strEq a0.Qz (⟨#[]⟩:ByteArray))) then none else (bif (a0.ZE != 0)&&(a0.Zm==0) then none else (bif a0.YC then none else (some ((a0.WS==0)&&(a0.ZdL==0))))))
theorem Zai (a0:ZA):Ref (K.Qv a0) (M.Qv a0):=by
 unfold K.Qv M.Qv
 with_reducible repeat' (first | exact Zw | exact YR | exact K5 .. | refine Xp ?_ (fun _=>?_) | refine Rt ?_ | refine XB ?_ ?_)
noncomputable def K.YZ (p1:Int) (p6:Int):Option (Int ⊕ Unit) :=
 bif decide (p6 < ((p1.toNat - 0:Nat):Int)) then none else (some (.inr ()))
theorem K6 (p1:Int) (p6:Int):Ref (K.YZ p1 p6) (M.YZ p1 p6):=by
 unfold K.YZ M.YZ
 with_reducible repeat' (first | exact Zw | exact YR | refine XB ?_ ?_)
noncomputable def K.Y0 (a0:Zi) (p1:Int):Option (Int ⊕ Unit) :=
 bif decide (p1 < (a0.Zc.length:Int)) then (gd [decide (0≤p1),decide (p1 < (a0.Zc.length:Int))] ((K.UF ((a0.Zc.getD p1.toNat default).XG)).bind fun r3=>bif !r3 then none else ((K.Vp a0 ((a0.Zc.getD p1.toNat default).XG)).bind fun r4=>bif decide (r4 < p1) then none else ((K.Qv (a0.Zc.getD p1.toNat default)).bind fun r5=>bif !r5 then none else (gd [decide (0≤p1),decide (p1≤(a0.Zc.length:Int))] ((loopN 1000 (K.YZ p1) 0).bind fun y8=>some (.inl (wr .i64 (p1+1))))))))) else (some (.inr ()))
theorem K7 (a0:Zi) (p1:Int):Ref (K.Y0 a0 p1) (M.Y0 a0 p1):=by
 unfold K.Y0 M.Y0
 with_reducible repeat' (first | exact Zw | exact YR | exact Ze9 .. | exact ZdT .. | exact Zai .. | exact K6 .. | refine Xp ?_ (fun _=>?_) | refine Y3 ?_ | refine XB ?_ ?_ | refine YG (fun _=>?_))
noncomputable def K.Qa (a0:Zi):Option Int :=
 bif decide ((a0.Zc.length:Int) > 8) then none else ((loopN 1000 (K.Y0 a0) 0).bind fun y9=>some 0)
theorem RL (a0:Zi):Ref (K.Qa a0) (M.Qa a0):=by
 unfold K.Qa M.Qa
 with_reducible repeat' (first | exact Zw | exact YR | exact K7 .. | refine Xp ?_ (fun _=>?_) | refine XB ?_ ?_ | refine YG (fun _=>?_))
noncomputable def K.YQ (a0:Zi) (p1:Int):Option (Int ⊕ Unit) :=
 bif decide (p1 < (a0.YV.length:Int)) then none else (some (.inr ()))
theorem KR (a0:Zi) (p1:Int):Ref (K.YQ a0 p1) (M.YQ a0 p1):=by
 unfold K.YQ M.YQ
 with_reducible repeat' (first | exact Zw | exact YR | refine XB ?_ ?_)
noncomputable def K.YX (a0:Zi):Option Int :=
 bif decide ((a0.YV.length:Int) > 8) then none else ((loopN 1000 (K.YQ a0) 0).bind fun y3=>some 0)
theorem Rv (a0:Zi):Ref (K.YX a0) (M.YX a0):=by
 unfold K.YX M.YX
 with_reducible repeat' (first | exact Zw | exact YR | exact KR .. | refine Xp ?_ (fun _=>?_) | refine XB ?_ ?_ | refine YG (fun _=>?_))
noncomputable def K.Qe (a0:Zi) (p1:Int):Option (Int ⊕ Unit) :=
 bif decide (p1 < (a0.XP.length:Int)) then none else (some (.inr ()))
theorem Re (a0:Zi) (p1:Int):Ref (K.Qe a0 p1) (M.Qe a0 p1):=by
 unfold K.Qe M.Qe
 with_reducible repeat' (first | exact Zw | exact YR | refine XB ?_ ?_)
noncomputable def K.Qw (a0:Zi):Option Int :=
 bif decide ((a0.XP.length:Int) > 8) then none else ((loopN 1000 (K.Qe a0) 0).bind fun y3=>some 0)
theorem Zaj (a0:Zi):Ref (K.Qw a0) (M.Qw a0):=by
 unfold K.Qw M.Qw
 with_reducible repeat' (first | exact Zw | exact YR | exact Re .. | refine Xp ?_ (fun _=>?_) | refine XB ?_ ?_ | refine YG (fun _=>?_))
noncomputable def K.JK (a0:Zi) (p1:Int):Option (Int ⊕ Unit) :=
 bif decide (p1 < (a0.Y5.length:Int)) then none else (some (.inr ()))
theorem Zbp (a0:Zi) (p1:Int):Ref (K.JK a0 p1) (M.JK a0 p1):=by
 unfold K.JK M.JK
 with_reducible repeat' (first | exact Zw | exact YR | refine XB ?_ ?_)
noncomputable def K.Vq (a0:Zi):Option Int :=
 bif decide ((a0.Y5.length:Int) > 8) then none else ((loopN 1000 (K.JK a0) 0).bind fun y3=>some 0)
theorem ZdU (a0:Zi):Ref (K.Vq a0) (M.Vq a0):=by
 unfold K.Vq M.Vq
 with_reducible repeat' (first | exact Zw | exact YR | exact Zbp .. | refine Xp ?_ (fun _=>?_) | refine XB ?_ ?_ | refine YG (fun _=>?_))
noncomputable def K.J9 (a0:Zi) (p1:Int):Option (Int ⊕ Unit) :=
 bif decide (p1 < (a0.Xf.length:Int)) then none else (some (.inr ()))
theorem Zcd (a0:Zi) (p1:Int):Ref (K.J9 a0 p1) (M.J9 a0 p1):=by
 unfold K.J9 M.J9
 with_reducible repeat' (first | exact Zw | exact YR | refine XB ?_ ?_)
noncomputable def K.VU (a0:Zi):Option Int :=
 bif decide ((a0.Xf.length:Int) > 8) then none else ((loopN 1000 (K.J9 a0) 0).bind fun y3=>some 0)
theorem ZeE (a0:Zi):Ref (K.VU a0) (M.VU a0):=by
 unfold K.VU M.VU
 with_reducible repeat' (first | exact Zw | exact YR | exact Zcd .. | refine Xp ?_ (fun _=>?_) | refine XB ?_ ?_ | refine YG (fun _=>?_))
noncomputable def K.UG (_a0:Zi) (_a1:ByteArray):Option Int :=
 none
theorem Zjc (_a0:Zi) (_a1:ByteArray):Ref (K.UG _a0 _a1) (M.UG _a0 _a1):=by
 unfold K.UG M.UG
 with_reducible repeat' (first | exact Zw | exact YR)
noncomputable def K.QC (a0:Zi) (p1:Int):Option (Int ⊕ Unit) :=
 bif decide (p1 < (a0.Zc.length:Int)) then (gd [decide (0≤p1),decide (p1 < (a0.Zc.length:Int))] ((gc (!strEq ((a0.Zc.getD p1.toNat default).WH) (⟨#[]⟩:ByteArray)) (K.UG a0 ((a0.Zc.getD p1.toNat default).WH))).bind fun r3=>(gc ((!((!strEq ((a0.Zc.getD p1.toNat default).WH) (⟨#[]⟩:ByteArray))&&(decide (r3 < 0))))&&(!strEq ((a0.Zc.getD p1.toNat default).Qz) (⟨#[]⟩:ByteArray))) (K.UG a0 ((a0.Zc.getD p1.toNat default).Qz))).bind fun r4=>bif ((!strEq ((a0.Zc.getD p1.toNat default).WH) (⟨#[]⟩:ByteArray))&&(decide (r3 < 0)))||((!strEq ((a0.Zc.getD p1.toNat default).Qz) (⟨#[]⟩:ByteArray))&&(decide (r4 < 0))) then none else (some (.inl (wr .i64 (p1+1)))))) else (some (.inr ()))
theorem RM (a0:Zi) (p1:Int):Ref (K.QC a0 p1) (M.QC a0 p1):=by
 unfold K.QC M.QC
 with_reducible repeat' (first | exact Zw | exact YR | exact Zjc .. | refine Xp ?_ (fun _=>?_) | refine Y3 ?_ | refine Rt ?_ | refine XB ?_ ?_)
noncomputable def K.Q0 (a0:Zi):Option Int :=
 (loopN 1000 (K.QC a0) 0).bind fun y5=>some 0
theorem Zbq (a0:Zi):Ref (K.Q0 a0) (M.Q0 a0):=by
 unfold K.Q0 M.Q0
 with_reducible repeat' (first | exact Zw | exact RM .. | refine Xp ?_ (fun _=>?_) | refine YG (fun _=>?_))
noncomputable def K.UT (a0:ZL):Option Bool :=
 (gc ((decide (a0.ZE ≥ 0))&&(decide (a0.ZE≤32))) (K.J3 a0.ZE)).bind fun r1=>some (((decide (a0.ZE ≥ 0))&&(decide (a0.ZE≤32)))&&((bitD .andNot .u32 a0.Zm r1)==0))
theorem Zh3 (a0:ZL):Ref (K.UT a0) (M.UT a0):=by
 unfold K.UT M.UT
 with_reducible repeat' (first | exact Zw | exact Zbm .. | refine Xp ?_ (fun _=>?_) | refine Rt ?_)
noncomputable def K.Vr (a0:ZA) (b0:Int):Option Bool :=
 some ((a0.ZE != 0)&&(a0.Zm==b0))
theorem ZdV (a0:ZA) (b0:Int):Ref (K.Vr a0 b0) (M.Vr a0 b0):=by
 unfold K.Vr M.Vr
 with_reducible repeat' (first | exact Zw)
noncomputable def K.ZO (a0:List ZA) (a1c0:Int) (p1:Int):Option (Int ⊕ (Unit ⊕ Int)) :=
 bif decide (p1 < (a0.length:Int)) then ((K.Vr (a0.getD p1.toNat default) a1c0).bind fun r3=>gd [decide (0≤p1),decide (p1 < (a0.length:Int))] (bif r3 then (some (.inr (.inr p1))) else (some (.inl (wr .i64 (p1+1)))))) else (some (.inr (.inl ())))
theorem Vy (a0:List ZA) (a1c0:Int) (p1:Int):Ref (K.ZO a0 a1c0 p1) (M.ZO a0 a1c0 p1):=by
 unfold K.ZO M.ZO
 with_reducible repeat' (first | exact Zw | exact ZdV .. | refine Xp ?_ (fun _=>?_) | refine Y3 ?_ | refine XB ?_ ?_)
noncomputable def K.ZJ (a0:List ZA) (a1c0:Int):Option Int :=
 (loopN 1000 (K.ZO a0 a1c0) 0).bind fun y4=>Sum.elim (fun _=>some (-1)) (fun y6=>some y6) y4
theorem VM (a0:List ZA) (a1c0:Int):Ref (K.ZJ a0 a1c0) (M.ZJ a0 a1c0):=by
 unfold K.ZJ M.ZJ
 with_reducible repeat' (first | exact Zw | exact Vy .. | refine Xp ?_ (fun _=>?_) | refine Kx (fun _=>?_) (fun _=>?_) | refine YG (fun _=>?_))
noncomputable def K.Wn (a0:Zi) (a1:Int):Option Int :=
 (K.ZJ a0.Zc a1).bind fun r1=>some r1
theorem Zfj (a0:Zi) (a1:Int):Ref (K.Wn a0 a1) (M.Wn a0 a1):=by
 unfold K.Wn M.Wn
 with_reducible repeat' (first | exact Zw | exact VM .. | refine Xp ?_ (fun _=>?_))
noncomputable def K.YE (p1:Int × Int) (p3:Int):Option ((Int × Int) ⊕ Int) :=
 some (.inl (p3,wr .i64 (p1.2+1)))
theorem Zak (p1:Int × Int) (p3:Int):Ref (K.YE p1 p3) (M.YE p1 p3):=by
 unfold K.YE M.YE
 with_reducible repeat' (first | exact Zw)
noncomputable def K.QW (a1:X8) (p1:Int × Int):Option ((Int × Int) ⊕ Int) :=
 bif decide (p1.2 < 3) then (gd [decide (0≤p1.2),decide (p1.2 < (([a1.YF != 0,!strEq a1.ZP (⟨#[]⟩:ByteArray),a1.ZS]:List Bool).length:Int))] (bif ([a1.YF != 0,!strEq a1.ZP (⟨#[]⟩:ByteArray),a1.ZS]:List Bool).getD p1.2.toNat default then (K.YE p1 (wr .i64 (p1.1+1))) else (K.YE p1 p1.1))) else (some (.inr p1.1))
theorem Zal (a1:X8) (p1:Int × Int):Ref (K.QW a1 p1) (M.QW a1 p1):=by
 unfold K.QW M.QW
 with_reducible repeat' (first | exact Zw | exact Zak .. | refine Y3 ?_ | refine XB ?_ ?_)
noncomputable def K.Ju (a0:Zi) (a1:X8):Option Bool :=
 (loopN 1000 (K.QW a1) (0,0)).bind fun y4=>(K.UT a1.Zh).bind fun r5=>(gc ((r5&&(y4==1)) && !(a1.YF==0)) (K.Wn a0 a1.YF)).bind fun r6=>(gc ((r5&&(y4==1))&&((a1.YF==0)||(decide (r6 < 0)))) (K.YW a1.Z5 1 255)).bind fun r7=>(gc (((r5&&(y4==1))&&((a1.YF==0)||(decide (r6 < 0))))&&r7) (K.YW a1.UP 0 65535)).bind fun r8=>some ((((r5&&(y4==1))&&((a1.YF==0)||(decide (r6 < 0))))&&r7)&&r8)
theorem Zce (a0:Zi) (a1:X8):Ref (K.Ju a0 a1) (M.Ju a0 a1):=by
 unfold K.Ju M.Ju
 with_reducible repeat' (first | exact Zw | exact K5 .. | exact Zh3 .. | exact Zfj .. | exact Zal .. | refine Xp ?_ (fun _=>?_) | refine Rt ?_ | refine YG (fun _=>?_))
noncomputable def K.QD (p1:Int) (p5:Int):Option (Int ⊕ Unit) :=
 bif decide (p5 < ((p1.toNat - 0:Nat):Int)) then none else (some (.inr ()))
theorem RN (p1:Int) (p5:Int):Ref (K.QD p1 p5) (M.QD p1 p5):=by
 unfold K.QD M.QD
 with_reducible repeat' (first | exact Zw | exact YR | refine XB ?_ ?_)
noncomputable def K.Qb (a0:Zi) (p1:Int) (_p4:Unit):Option (Int ⊕ Unit) :=
 gd [decide (0≤p1),decide (p1≤(a0.Zq.length:Int))] ((loopN 1000 (K.QD p1) 0).bind fun y7=>some (.inl (wr .i64 (p1+1))))
theorem RO (a0:Zi) (p1:Int) (_p4:Unit):Ref (K.Qb a0 p1 _p4) (M.Qb a0 p1 _p4):=by
 unfold K.Qb M.Qb
 with_reducible repeat' (first | exact Zw | exact RN .. | refine Xp ?_ (fun _=>?_) | refine Y3 ?_ | refine YG (fun _=>?_))
noncomputable def K.QE (a0:Zi) (p1:Int):Option (Int ⊕ Unit) :=
 bif decide (p1 < (a0.Zq.length:Int)) then (gd [decide (0≤p1),decide (p1 < (a0.Zq.length:Int))] ((K.Ju a0 (a0.Zq.getD p1.toNat default)).bind fun r3=>bif !r3 then none else (bif !strEq ((a0.Zq.getD p1.toNat default).ZP) (⟨#[]⟩:ByteArray) then none else (K.Qb a0 p1 ())))) else (some (.inr ()))
theorem RP (a0:Zi) (p1:Int):Ref (K.QE a0 p1) (M.QE a0 p1):=by
 unfold K.QE M.QE
 with_reducible repeat' (first | exact Zw | exact YR | exact Zce .. | exact RO .. | refine Xp ?_ (fun _=>?_) | refine Y3 ?_ | refine XB ?_ ?_)
noncomputable def K.Q1 (a0:Zi):Option Int :=
 bif decide ((a0.Zq.length:Int) > 16) then none else ((loopN 1000 (K.QE a0) 0).bind fun y8=>some 0)
theorem Zbr (a0:Zi):Ref (K.Q1 a0) (M.Q1 a0):=by
 unfold K.Q1 M.Q1
 with_reducible repeat' (first | exact Zw | exact YR | exact RP .. | refine Xp ?_ (fun _=>?_) | refine XB ?_ ?_ | refine YG (fun _=>?_))
noncomputable def K.Qx (a0:Zi):Option Int :=
 bif !a0.YC.Wr then (bif ((a0.YC.Z5 != 0)||(decide ((a0.YC.Z6.length:Int) > 0)))||(decide ((a0.YC.Zu.length:Int) > 0)) then none else (some 0)) else none
theorem Zam (a0:Zi):Ref (K.Qx a0) (M.Qx a0):=by
 unfold K.Qx M.Qx
 with_reducible repeat' (first | exact Zw | exact YR | refine XB ?_ ?_)
noncomputable def K.Ys (a0:Zi):Option Int :=
 bif !a0.YK.Wr then (bif (((a0.YK.Z5 != 0)||(!strEq a0.YK.WH (⟨#[]⟩:ByteArray)))||(!strEq a0.YK.Qz (⟨#[]⟩:ByteArray)))||(decide ((a0.YK.Zu.length:Int) > 0)) then none else (some 0)) else none
theorem KS (a0:Zi):Ref (K.Ys a0) (M.Ys a0):=by
 unfold K.Ys M.Ys
 with_reducible repeat' (first | exact Zw | exact YR | refine XB ?_ ?_)
noncomputable def K.Qc (a0:Zi):Option Int :=
 bif !a0.Xz.Wr then (bif ((((((a0.Xz.X6 != 0)||(a0.Xz.X7 != 0))||(decide ((a0.Xz.Zp.length:Int) > 0)))||(decide ((a0.Xz.ZY.length:Int) > 0)))||(decide ((a0.Xz.ZG.length:Int) > 0)))||(decide ((a0.Xz.Zv.length:Int) > 0)))||(decide ((a0.Xz.Zu.length:Int) > 0)) then none else (some 0)) else none
theorem RQ (a0:Zi):Ref (K.Qc a0) (M.Qc a0):=by
 unfold K.Qc M.Qc
 with_reducible repeat' (first | exact Zw | exact YR | refine XB ?_ ?_)
noncomputable def K.Jv (a0:Zi):Option Int :=
 (K.UF a0.XG).bind fun r1=>bif !r1 then none else ((K.YW a0.KQ 0 65535).bind fun r2=>bif !r2 then none else (gd [decide (0≤0),decide (0 < (10:Int))] ((K.Qa a0).bind fun r3=>bif r3 != 0 then none else (gd [decide (0≤1),decide (1 < (10:Int))] ((K.YX a0).bind fun r4=>bif r4 != 0 then none else (gd [decide (0≤2),decide (2 < (10:Int))] ((K.Qw a0).bind fun r5=>bif r5 != 0 then none else (gd [decide (0≤3),decide (3 < (10:Int))] ((K.Vq a0).bind fun r6=>bif r6 != 0 then none else (gd [decide (0≤4),decide (4 < (10:Int))] ((K.VU a0).bind fun r7=>bif r7 != 0 then none else (gd [decide (0≤5),decide (5 < (10:Int))] ((K.Q0 a0).bind fun r8=>bif r8 != 0 then none else (gd [decide (0≤6),decide (6 < (10:Int))] ((K.Q1 a0).bind fun r9=>bif r9 != 0 then none else (gd [decide (0≤7),decide (7 < (10:Int))] ((K.Qx a0).bind fun r10=>bif r10 != 0 then none else (gd [decide (0≤8),decide (8 < (10:Int))] ((K.Ys a0).bind fun r11=>bif r11 != 0 then none else (gd [decide (0≤9),decide (9 < (10:Int))] ((K.Qc a0).bind fun r12=>bif r12 != 0 then none else (some 0))))))))))))))))))))))
theorem Zcf (a0:Zi):Ref (K.Jv a0) (M.Jv a0):=by
 unfold K.Jv M.Jv
 with_reducible repeat' (first | exact Zw | exact YR | exact Ze9 .. | exact K5 .. | exact RL .. | exact Rv .. | exact Zaj .. | exact ZdU .. | exact ZeE .. | exact Zbq .. | exact Zbr .. | exact Zam .. | exact KS .. | exact RQ .. | refine Xp ?_ (fun _=>?_) | refine Y3 ?_ | refine XB ?_ ?_)
noncomputable def K.Wx (p1:Int) (p4:Int):Option (Int ⊕ Unit) :=
 bif decide (p4 < ((p1.toNat - 0:Nat):Int)) then none else (some (.inr ()))
theorem ZeF (p1:Int) (p4:Int):Ref (K.Wx p1 p4) (M.Wx p1 p4):=by
 unfold K.Wx M.Wx
 with_reducible repeat' (first | exact Zw | exact YR | refine XB ?_ ?_)
noncomputable def K.Wy (a0:ZI) (p1:Int):Option (Int ⊕ Unit) :=
 bif decide (p1 < (a0.Ze.length:Int)) then (gd [decide (0≤p1),decide (p1 < (a0.Ze.length:Int))] ((K.Jv (a0.Ze.getD p1.toNat default)).bind fun r3=>bif r3 != 0 then none else (gd [decide (0≤p1),decide (p1≤(a0.Ze.length:Int))] ((loopN 1000 (K.Wx p1) 0).bind fun y6=>some (.inl (wr .i64 (p1+1))))))) else (some (.inr ()))
theorem ZeG (a0:ZI) (p1:Int):Ref (K.Wy a0 p1) (M.Wy a0 p1):=by
 unfold K.Wy M.Wy
 with_reducible repeat' (first | exact Zw | exact YR | exact Zcf .. | exact ZeF .. | refine Xp ?_ (fun _=>?_) | refine Y3 ?_ | refine XB ?_ ?_ | refine YG (fun _=>?_))
noncomputable def K.Uf (a0:ZI):Option Int :=
 bif decide ((a0.Ze.length:Int) > 8) then none else ((loopN 1000 (K.Wy a0) 0).bind fun y7=>some 0)
theorem Zg0 (a0:ZI):Ref (K.Uf a0) (M.Uf a0):=by
 unfold K.Uf M.Uf
 with_reducible repeat' (first | exact Zw | exact YR | exact ZeG .. | refine Xp ?_ (fun _=>?_) | refine XB ?_ ?_ | refine YG (fun _=>?_))
noncomputable def K.WJ (a0:Int) (a1:Int):Option ZL :=
 (K.J3 a1).bind fun r1=>(K.JG a1).bind fun r2=>some (⟨bitD .and .u32 a0 r1,r2⟩:ZL)
theorem Zgy (a0:Int) (a1:Int):Ref (K.WJ a0 a1) (M.WJ a0 a1):=by
 unfold K.WJ M.WJ
 with_reducible repeat' (first | exact Zw | exact ZdQ .. | exact Zbm .. | refine Xp ?_ (fun _=>?_))
noncomputable def K.JL (i:Int) (p:(List Zj) × (List (Xb × Int)) × Int) (q:(List Zj) × (List (Xb × Int)) × Int):Option (((List Zj) × (List (Xb × Int)) × Int) ⊕ ((List Zj) × (List (Xb × Int)))) :=
 gd [decide (0≤q.2.2),decide (q.2.2 < (q.1.length:Int)),decide (((q.1.getD (0+q.2.2.toNat) default).ZW.length+1)*16≤140737488355328)] (some (.inl (q.1.set (0+q.2.2.toNat) ⟨(q.1.getD (0+q.2.2.toNat) default).Zh,(q.1.getD (0+q.2.2.toNat) default).XN,(q.1.getD (0+q.2.2.toNat) default).ZW++[⟨i,p.2.2⟩]⟩,q.2.1,wr .i64 (p.2.2+1))))
theorem ZeH (i:Int) (p:(List Zj) × (List (Xb × Int)) × Int) (q:(List Zj) × (List (Xb × Int)) × Int):Ref (K.JL i p q) (M.JL i p q):=by
 unfold K.JL M.JL
 with_reducible repeat' (first | exact Zw | refine Y3 ?_)
noncomputable def K.Vt (a0:ZI) (i:Int) (p:(List Zj) × (List (Xb × Int)) × Int):Option (((List Zj) × (List (Xb × Int)) × Int) ⊕ ((List Zj) × (List (Xb × Int)))) :=
 bif decide (p.2.2 < (((a0.Ze.getD i.toNat default).Zc).length:Int)) then (gd [decide (0≤p.2.2),decide (p.2.2 < (((a0.Ze.getD i.toNat default).Zc).length:Int))] (bif (((a0.Ze.getD i.toNat default).Zc.getD p.2.2.toNat default).ZE==0)||((a0.Ze.getD i.toNat default).Zc.getD p.2.2.toNat default).Jx then (some (.inl (p.1,p.2.1,wr .i64 (p.2.2+1)))) else ((K.WJ ((a0.Ze.getD i.toNat default).Zc.getD p.2.2.toNat default).Zm ((a0.Ze.getD i.toNat default).Zc.getD p.2.2.toNat default).ZE).bind fun r=>bif !(lkM (topoKeyEq ⟨r,((a0.Ze.getD i.toNat default).Zc.getD p.2.2.toNat default).XN⟩) p.2.1).2 then (gd [decide ((p.1.length+1)*48≤140737488355328)] (K.JL i p (p.1++[⟨r,((a0.Ze.getD i.toNat default).Zc.getD p.2.2.toNat default).XN,[]⟩],p.2.1++[(⟨r,((a0.Ze.getD i.toNat default).Zc.getD p.2.2.toNat default).XN⟩,(p.1.length:Int))],(p.1.length:Int)))) else (K.JL i p (p.1,p.2.1,(lkM (topoKeyEq ⟨r,((a0.Ze.getD i.toNat default).Zc.getD p.2.2.toNat default).XN⟩) p.2.1).1))))) else (some (.inr (p.1,p.2.1)))
theorem ZdW (a0:ZI) (i:Int) (p:(List Zj) × (List (Xb × Int)) × Int):Ref (K.Vt a0 i p) (M.Vt a0 i p):=by
 unfold K.Vt M.Vt
 with_reducible repeat' (first | exact Zw | exact Zgy .. | exact ZeH .. | refine Xp ?_ (fun _=>?_) | refine Y3 ?_ | refine XB ?_ ?_)
noncomputable def K.Vu (a0:ZI) (p:(List Zj) × (List (Xb × Int)) × Int):Option (((List Zj) × (List (Xb × Int)) × Int) ⊕ (List Zj)) :=
 bif decide (p.2.2 < (a0.Ze.length:Int)) then (gd [decide (0≤p.2.2),decide (p.2.2 < (a0.Ze.length:Int))] ((loopN 1000 (K.Vt a0 p.2.2) (p.1,p.2.1,0)).bind fun y=>some (.inl (y.1,y.2,wr .i64 (p.2.2+1))))) else (some (.inr p.1))
theorem ZdX (a0:ZI) (p:(List Zj) × (List (Xb × Int)) × Int):Ref (K.Vu a0 p) (M.Vu a0 p):=by
 unfold K.Vu M.Vu
 with_reducible repeat' (first | exact Zw | exact ZdW .. | refine Xp ?_ (fun _=>?_) | refine Y3 ?_ | refine XB ?_ ?_ | refine YG (fun _=>?_))
noncomputable def K.WK (a0:ZI):Option (List Zj) :=
 (loopN 1000 (K.Vu a0) ([],[],0)).bind fun y=>some y
theorem Zgz (a0:ZI):Ref (K.WK a0) (M.WK a0):=by
 unfold K.WK M.WK
 with_reducible repeat' (first | exact Zw | exact ZdX .. | refine Xp ?_ (fun _=>?_) | refine YG (fun _=>?_))
noncomputable def K.VV (a0:ZL) (a1:ZL):Option Int :=
 (K.Yw a0.Zm a1.Zm).bind fun r1=>bif r1 != 0 then (some r1) else ((K.YO a0.ZE a1.ZE).bind fun r2=>some r2)
theorem ZgA (a0:ZL) (a1:ZL):Ref (K.VV a0 a1) (M.VV a0 a1):=by
 unfold K.VV M.VV
 with_reducible repeat' (first | exact Zw | exact G7 .. | exact KD .. | refine Xp ?_ (fun _=>?_) | refine XB ?_ ?_)
noncomputable def K.Vv (a0:Zj) (a1:Zj):Option Int :=
 (K.VV a0.Zh a1.Zh).bind fun r1=>(K.YO a0.XN a1.XN).bind fun r2=>(K.Wd ([r1,r2]:List Int)).bind fun r3=>some r3
theorem ZgB (a0:Zj) (a1:Zj):Ref (K.Vv a0 a1) (M.Vv a0 a1):=by
 unfold K.Vv M.Vv
 with_reducible repeat' (first | exact Zw | exact G7 .. | exact ZdS .. | exact ZgA .. | refine Xp ?_ (fun _=>?_))
noncomputable def K.XM (a0:List Zj):Option (List Zj) :=
 sortK K.Vv a0
theorem WF (a0:List Zj):Ref (K.XM a0) (M.XM a0):=Zk4 ZgB so_topo_Build_1
noncomputable def K.Wo (p4:Int) (_p6:Unit):Option (Int ⊕ Unit) :=
 some (.inl (wr .i64 (p4+1)))
theorem Zfk (p4:Int) (_p6:Unit):Ref (K.Wo p4 _p6) (M.Wo p4 _p6):=by
 unfold K.Wo M.Wo
 with_reducible repeat' (first | exact Zw)
noncomputable def K.WN (r3:(List Zj)) (p4:Int):Option (Int ⊕ Unit) :=
 bif decide (p4 < (r3.length:Int)) then (gd [decide (0≤p4),decide (p4 < (r3.length:Int))] (bif decide ((((r3.getD p4.toNat default).ZW).length:Int) ≥ 2) then none else (K.Wo p4 ()))) else (some (.inr ()))
theorem Zfl (r3:(List Zj)) (p4:Int):Ref (K.WN r3 p4) (M.WN r3 p4):=by
 unfold K.WN M.WN
 with_reducible repeat' (first | exact Zw | exact YR | exact Zfk .. | refine Y3 ?_ | refine XB ?_ ?_)
noncomputable def K.UU (a0:ZI):Option (JZ × Int) :=
 (K.Uf a0).bind fun r1=>bif r1 != 0 then none else ((K.WK a0).bind fun r2=>(K.XM r2).bind fun r3=>gd [decide (r3.length=r2.length)] ((loopN 1000 (K.WN r3) 0).bind fun y7=>some ((⟨r3,([]:List Int)⟩:JZ),0)))
theorem Zh4 (a0:ZI):Ref (K.UU a0) (M.UU a0):=by
 unfold K.UU M.UU
 with_reducible repeat' (first | exact Zw | exact YR | exact Zg0 .. | exact Zgz .. | exact WF .. | exact Zfl .. | refine Xp ?_ (fun _=>?_) | refine Y3 ?_ | refine XB ?_ ?_ | refine YG (fun _=>?_))
noncomputable def K.XW (a0:List Zi):Option (List Zi) :=
 gd [decide (0=0)||decide (0 < a0.length),decide ((0+a0.length)*448≤140737488355328)] (some a0)
theorem Gt (a0:List Zi):Ref (K.XW a0) (M.XW a0):=by
 unfold K.XW M.XW
 with_reducible repeat' (first | exact Zw | refine Y3 ?_)
noncomputable def K.Xs (a0:List ZA):Option (List ZA) :=
 gd [decide (0=0)||decide (0 < a0.length),decide ((0+a0.length)*112≤140737488355328)] (some a0)
theorem UW (a0:List ZA):Ref (K.Xs a0) (M.Xs a0):=by
 unfold K.Xs M.Xs
 with_reducible repeat' (first | exact Zw | refine Y3 ?_)
noncomputable def K.Xm (a0:List Z1):Option (List Z1) :=
 gd [decide (0=0)||decide (0 < a0.length),decide ((0+a0.length)*40≤140737488355328)] (some a0)
theorem UH (a0:List Z1):Ref (K.Xm a0) (M.Xm a0):=by
 unfold K.Xm M.Xm
 with_reducible repeat' (first | exact Zw | refine Y3 ?_)
noncomputable def K.XE (a0:List Yt):Option (List Yt) :=
 gd [decide (0=0)||decide (0 < a0.length),decide ((0+a0.length)*40≤140737488355328)] (some a0)
theorem U7 (a0:List Yt):Ref (K.XE a0) (M.XE a0):=by
 unfold K.XE M.XE
 with_reducible repeat' (first | exact Zw | refine Y3 ?_)
noncomputable def K.Ye (a0:List U6):Option (List U6) :=
 gd [decide (0=0)||decide (0 < a0.length),decide ((0+a0.length)*40≤140737488355328)] (some a0)
theorem Km (a0:List U6):Ref (K.Ye a0) (M.Ye a0):=by
 unfold K.Ye M.Ye
 with_reducible repeat' (first | exact Zw | refine Y3 ?_)
noncomputable def K.Xh (a0:List QF):Option (List QF) :=
 gd [decide (0=0)||decide (0 < a0.length),decide ((0+a0.length)*64≤140737488355328)] (some a0)
theorem Um (a0:List QF):Ref (K.Xh a0) (M.Xh a0):=by
 unfold K.Xh M.Xh
 with_reducible repeat' (first | exact Zw | refine Y3 ?_)
noncomputable def K.Xi (a0:List X8):Option (List X8) :=
 gd [decide (0=0)||decide (0 < a0.length),decide ((0+a0.length)*64≤140737488355328)] (some a0)
theorem Un (a0:List X8):Ref (K.Xi a0) (M.Xi a0):=by
 unfold K.Xi M.Xi
 with_reducible repeat' (first | exact Zw | refine Y3 ?_)
noncomputable def K.Xt (a0:List V9):Option (List V9) :=
 gd [decide (0=0)||decide (0 < a0.length),decide ((0+a0.length)*24≤140737488355328)] (some a0)
theorem UX (a0:List V9):Ref (K.Xt a0) (M.Xt a0):=by
 unfold K.Xt M.Xt
 with_reducible repeat' (first | exact Zw | refine Y3 ?_)
noncomputable def K.Z8 (a0:List QB):Option (List QB) :=
 gd [decide (0=0)||decide (0 < a0.length),decide ((0+a0.length)*48≤140737488355328)] (some a0)
theorem Gu (a0:List QB):Ref (K.Z8 a0) (M.Z8 a0):=by
 unfold K.Z8 M.Z8
 with_reducible repeat' (first | exact Zw | refine Y3 ?_)
noncomputable def K.XF (a0:List VB):Option (List VB) :=
 gd [decide (0=0)||decide (0 < a0.length),decide ((0+a0.length)*48≤140737488355328)] (some a0)
theorem U8 (a0:List VB):Ref (K.XF a0) (M.XF a0):=by
 unfold K.XF M.XF
 with_reducible repeat' (first | exact Zw | refine Y3 ?_)
noncomputable def K.XX (a0:List ZL):Option (List ZL) :=
 gd [decide (0=0)||decide (0 < a0.length),decide ((0+a0.length)*16≤140737488355328)] (some a0)
theorem Gv (a0:List ZL):Ref (K.XX a0) (M.XX a0):=by
 unfold K.XX M.XX
 with_reducible repeat' (first | exact Zw | refine Y3 ?_)
noncomputable def K.Xu (a0:List Wa):Option (List Wa) :=
 gd [decide (0=0)||decide (0 < a0.length),decide ((0+a0.length)*24≤140737488355328)] (some a0)
theorem UY (a0:List Wa):Ref (K.Xu a0) (M.Xu a0):=by
 unfold K.Xu M.Xu
 with_reducible repeat' (first | exact Zw | refine Y3 ?_)
noncomputable def K.Xv (a0:List Wb):Option (List Wb) :=
 gd [decide (0=0)||decide (0 < a0.length),decide ((0+a0.length)*40≤140737488355328)] (some a0)
theorem UZ (a0:List Wb):Ref (K.Xv a0) (M.Xv a0):=by
 unfold K.Xv M.Xv
 with_reducible repeat' (first | exact Zw | refine Y3 ?_)
noncomputable def K.JM (r2:(List Z1)) (p3:Int):Option (Int ⊕ Unit) :=
 bif decide (p3 < (r2.length:Int)) then none else (some (.inr ()))
theorem Zbs (r2:(List Z1)) (p3:Int):Ref (K.JM r2 p3) (M.JM r2 p3):=by
 unfold K.JM M.JM
 with_reducible repeat' (first | exact Zw | exact YR | refine XB ?_ ?_)
noncomputable def K.JN (r6:(List Yt)) (p7:Int):Option (Int ⊕ Unit) :=
 bif decide (p7 < (r6.length:Int)) then none else (some (.inr ()))
theorem Zbt (r6:(List Yt)) (p7:Int):Ref (K.JN r6 p7) (M.JN r6 p7):=by
 unfold K.JN M.JN
 with_reducible repeat' (first | exact Zw | exact YR | refine XB ?_ ?_)
noncomputable def K.JO (r10:(List U6)) (p11:Int):Option (Int ⊕ Unit) :=
 bif decide (p11 < (r10.length:Int)) then none else (some (.inr ()))
theorem Zbu (r10:(List U6)) (p11:Int):Ref (K.JO r10 p11) (M.JO r10 p11):=by
 unfold K.JO M.JO
 with_reducible repeat' (first | exact Zw | exact YR | refine XB ?_ ?_)
noncomputable def K.Vw (a0:Zi):Option Zi :=
 (K.Xs a0.Zc).bind fun r1=>(K.Xm a0.YV).bind fun r2=>(loopN 1000 (K.JM r2) 0).bind fun y5=>(K.XE a0.XP).bind fun r6=>(loopN 1000 (K.JN r6) 0).bind fun y9=>(K.Ye a0.Y5).bind fun r10=>(loopN 1000 (K.JO r10) 0).bind fun y13=>(K.Xh a0.Xf).bind fun r14=>(K.Xi a0.Zq).bind fun r15=>(K.Xt a0.YC.Z6).bind fun r16=>(K.Z8 a0.YC.Zu).bind fun r17=>(K.Z8 a0.YK.Zu).bind fun r18=>(K.XF a0.Xz.Zp).bind fun r19=>(K.XX a0.Xz.ZY).bind fun r20=>(K.Xu a0.Xz.ZG).bind fun r21=>(K.Xv a0.Xz.Zv).bind fun r22=>(K.Z8 a0.Xz.Zu).bind fun r23=>some (⟨a0.XG,a0.KQ,r1,r2,r6,r10,r14,r15,(⟨a0.YC.Wr,a0.YC.Z5,r16,r17⟩:WB),(⟨a0.YK.Wr,a0.YK.Z5,a0.YK.WH,a0.YK.Qz,r18⟩:Qi),(⟨a0.Xz.Wr,a0.Xz.X6,a0.Xz.X7,r19,r20,r21,r22,r23⟩:XO)⟩:Zi)
theorem ZdY (a0:Zi):Ref (K.Vw a0) (M.Vw a0):=by
 unfold K.Vw M.Vw
 with_reducible repeat' (first | exact Zw | exact UW .. | exact UH .. | exact U7 .. | exact Km .. | exact Um .. | exact Un .. | exact UX .. | exact Gu .. | exact U8 .. | exact Gv .. | exact UY .. | exact UZ .. | exact Zbs .. | exact Zbt .. | exact Zbu .. | refine Xp ?_ (fun _=>?_) | refine YG (fun _=>?_))
noncomputable def K.Jj (r1:(List Zi)) (p2:(List Zi) × Int):Option (((List Zi) × Int) ⊕ (List Zi)) :=
 bif decide (p2.2 < (r1.length:Int)) then ((K.Vw (p2.1.getD (0+p2.2.toNat) default)).bind fun r4=>gd [decide (0≤p2.2),decide (p2.2 < (p2.1.length:Int)),decide (0≤p2.2),decide (p2.2 < (p2.1.length:Int))] (some (.inl (p2.1.set (0+p2.2.toNat) r4,wr .i64 (p2.2+1))))) else (some (.inr p2.1))
theorem ZaO (r1:(List Zi)) (p2:(List Zi) × Int):Ref (K.Jj r1 p2) (M.Jj r1 p2):=by
 unfold K.Jj M.Jj
 with_reducible repeat' (first | exact Zw | exact ZdY .. | refine Xp ?_ (fun _=>?_) | refine Y3 ?_ | refine XB ?_ ?_)
noncomputable def K.J5 (a0:ZI):Option ZI :=
 (K.XW a0.Ze).bind fun r1=>(loopN 1000 (K.Jj r1) (r1,0)).bind fun y5=>some (⟨y5⟩:ZI)
theorem Zc0 (a0:ZI):Ref (K.J5 a0) (M.J5 a0):=by
 unfold K.J5 M.J5
 with_reducible repeat' (first | exact Zw | exact Gt .. | exact ZaO .. | refine Xp ?_ (fun _=>?_) | refine YG (fun _=>?_))
noncomputable def K.Qy (a0:List Int):Option (List Int) :=
 gd [decide (0=0)||decide (0 < a0.length),decide ((0+a0.length)*8≤140737488355328)] (some a0)
theorem Zan (a0:List Int):Ref (K.Qy a0) (M.Qy a0):=by
 unfold K.Qy M.Qy
 with_reducible repeat' (first | exact Zw | refine Y3 ?_)
noncomputable def K.Ug (a1:List Int) (p2:Int):Option (Int ⊕ Unit) :=
 bif decide (p2 < (a1.length:Int)) then none else (some (.inr ()))
theorem ZgC (a1:List Int) (p2:Int):Ref (K.Ug a1 p2) (M.Ug a1 p2):=by
 unfold K.Ug M.Ug
 with_reducible repeat' (first | exact Zw | exact YR | refine XB ?_ ?_)
noncomputable def K.Gm (a0:ZI) (a1:List Int):Option (XL × Int) :=
 (K.UU a0).bind fun r1=>bif r1.2 != 0 then none else (bif decide ((a1.length:Int) > 2) then none else ((loopN 1000 (K.Ug a1) 0).bind fun y4=>(K.J5 a0).bind fun r5=>(K.Qy a1).bind fun r6=>some ((⟨r5,r1.1,r6⟩:XL),0)))
theorem Zjd (a0:ZI) (a1:List Int):Ref (K.Gm a0 a1) (M.Gm a0 a1):=by
 unfold K.Gm M.Gm
 with_reducible repeat' (first | exact Zw | exact YR | exact Zh4 .. | exact Zc0 .. | exact Zan .. | exact ZgC .. | refine Xp ?_ (fun _=>?_) | refine XB ?_ ?_ | refine YG (fun _=>?_))
noncomputable def K.Vg (p1:Int × Int) (p3:Int):Option ((Int × Int) ⊕ Int) :=
 some (.inl (p3,wr .i64 (p1.2+1)))
theorem Zfm (p1:Int × Int) (p3:Int):Ref (K.Vg p1 p3) (M.Vg p1 p3):=by
 unfold K.Vg M.Vg
 with_reducible repeat' (first | exact Zw)
noncomputable def K.WO (a0:List Xx) (a1:Int) (p1:Int × Int):Option ((Int × Int) ⊕ Int) :=
 bif decide (p1.2 < (a0.length:Int)) then (gd [decide (0≤p1.2),decide (p1.2 < (a0.length:Int))] ((K.Yn ((a0.getD p1.2.toNat default).Zh) a1).bind fun r4=>gd [guardB (r4 && !(decide (p1.1 < 0))) (decide (0≤p1.1)),guardB (r4 && !(decide (p1.1 < 0))) (decide (p1.1 < (a0.length:Int)))] (bif r4&&((decide (p1.1 < 0))||(decide ((((a0.getD p1.2.toNat default).Zh).ZE) > (((a0.getD p1.1.toNat default).Zh).ZE)))) then (K.Vg p1 p1.2) else (K.Vg p1 p1.1)))) else (some (.inr p1.1))
theorem Zfn (a0:List Xx) (a1:Int) (p1:Int × Int):Ref (K.WO a0 a1 p1) (M.WO a0 a1 p1):=by
 unfold K.WO M.WO
 with_reducible repeat' (first | exact Zw | exact ZaG .. | exact Zfm .. | refine Xp ?_ (fun _=>?_) | refine Y3 ?_ | refine XB ?_ ?_)
noncomputable def K.WZ (a0:List Xx) (a1:Int):Option Int :=
 (loopN 1000 (K.WO a0 a1) ((-1),0)).bind fun y5=>some y5
theorem Zh5 (a0:List Xx) (a1:Int):Ref (K.WZ a0 a1) (M.WZ a0 a1):=by
 unfold K.WZ M.WZ
 with_reducible repeat' (first | exact Zw | exact Zfn .. | refine Xp ?_ (fun _=>?_) | refine YG (fun _=>?_))
noncomputable def K.UV :Option Bool :=
 (K.Gm (⟨([(⟨(⟨#[97]⟩:ByteArray),0,([(⟨(⟨#[101,48]⟩:ByteArray),167772161,24,0,false,false,0,0,false,(⟨#[]⟩:ByteArray),(⟨#[]⟩:ByteArray),0⟩:ZA)]:List ZA),([]:List Z1),([]:List Yt),([]:List U6),([]:List QF),([(⟨(⟨0,0⟩:ZL),167772169,(⟨#[]⟩:ByteArray),false,1,0⟩:X8)]:List X8),(⟨false,0,([]:List V9),([]:List QB)⟩:WB),(⟨false,0,(⟨#[]⟩:ByteArray),(⟨#[]⟩:ByteArray),([]:List QB)⟩:Qi),(⟨false,0,0,([]:List VB),([]:List ZL),([]:List Wa),([]:List Wb),([]:List QB)⟩:XO)⟩:Zi)]:List Zi)⟩:ZI) ([]:List Int)).bind fun r1=>bif r1.2 != 0 then (some false) else ((K.W5 r1.1 ([(⟨(⟨0,0⟩:ZL),2,0,1,0,0,0,0,([]:List Int),0,167772169,([]:List ZF),false⟩:ZM),(⟨(⟨167772160,24⟩:ZL),1,0,0,0,0,0,0,([]:List Int),0,0,([(⟨0,0⟩:ZF)]:List ZF),false⟩:ZM)]:List ZM) 0).bind fun r2=>(gc ((((r2.length:Int)==2)&&((((r2.getD (0:Int).toNat default).ZQ).length:Int)==1))&&((((((r2.getD (0:Int).toNat default).ZQ).getD (0:Int).toNat default).ZP)==0)&&((((((r2.getD (0:Int).toNat default).ZQ).getD (0:Int).toNat default).Zm)==167772169)&&true))) (K.WZ r2 5)).bind fun r3=>(gc (((((r2.length:Int)==2)&&((((r2.getD (0:Int).toNat default).ZQ).length:Int)==1))&&((((((r2.getD (0:Int).toNat default).ZQ).getD (0:Int).toNat default).ZP)==0)&&((((((r2.getD (0:Int).toNat default).ZQ).getD (0:Int).toNat default).Zm)==167772169)&&true)))&&(r3==0)) (K.WZ r2 167772165)).bind fun r4=>gd [guardB ((r2.length:Int)==2) (decide (0≤0)),guardB ((r2.length:Int)==2) (decide (0 < (r2.length:Int))),guardB (((r2.length:Int)==2)&&((((r2.getD (0:Int).toNat default).ZQ).length:Int)==1)) (decide (0≤0)),guardB (((r2.length:Int)==2)&&((((r2.getD (0:Int).toNat default).ZQ).length:Int)==1)) (decide (0 < (r2.length:Int))),guardB (((r2.length:Int)==2)&&((((r2.getD (0:Int).toNat default).ZQ).length:Int)==1)) (decide (0≤0)),guardB (((r2.length:Int)==2)&&((((r2.getD (0:Int).toNat default).ZQ).length:Int)==1)) (decide (0 < (((r2.getD (0:Int).toNat default).ZQ).length:Int)))] (some ((((((r2.length:Int)==2)&&((((r2.getD (0:Int).toNat default).ZQ).length:Int)==1))&&((((((r2.getD (0:Int).toNat default).ZQ).getD (0:Int).toNat default).ZP)==0)&&((((((r2.getD (0:Int).toNat default).ZQ).getD (0:Int).toNat default).Zm)==167772169)&&true)))&&(r3==0))&&(r4==1))))
theorem Zh6 :Ref (K.UV) (M.UV):=by
 unfold K.UV M.UV
 with_reducible repeat' (first | exact Zw | exact Zjb .. | exact Zjd .. | exact Zh5 .. | refine Xp ?_ (fun _=>?_) | refine Y3 ?_ | refine Rt ?_ | refine XB ?_ ?_)
theorem Zla:M.UV=some true:=Zh6 _ (by kernel_rfl)
end Nv
