/- The fixed example: reckoned. -/
import Derived.Test.YtaienbkgekjdnaaGreatNvD1
import Derived.Test.YtaienbkgekjdnaaGreatNvLibB
import Derived.Test.YtaienbkgekjdnaaGreatNvTs
import Derived.Test.YtaienbkgekjdnaaGreatNvTe
import Derived.KernelRfl
set_option maxRecDepth 100000
namespace Nv
open Go
noncomputable def K.JT (a0 : Int) : Option Int :=
 some (if (if 32 < a0 then 32 else a0) > 0 then (if 32 < a0 then 32 else a0) else 0)
theorem Zel (a0 : Int) : Ref (K.JT a0) (M.JT a0) := by
 unfold K.JT M.JT
 with_reducible repeat' (first | exact XZ)
noncomputable def K.Vb (a0 : Int) : Option Int :=
 (K.JT a0).bind fun r1 => gd [decide (0 ≤ (wr .i64 (32 - r1)))] (some (wr .u32 (4294967295 * 2 ^ min (wr .i64 (32 - r1)).toNat 32)))
theorem Zja (a0 : Int) : Ref (K.Vb a0) (M.Vb a0) := by
 unfold K.Vb M.Vb
 with_reducible repeat' (first | exact XZ | exact Zel .. | refine JD ?_ (fun _ => ?_) | refine VK ?_)
noncomputable def K.Y2 (a0 : Int) (a1 : Int) : Option ZS :=
 (K.Vb a1).bind fun r1 => (K.JT a1).bind fun r2 => some (⟨bitD .and .u32 a0 r1,r2⟩ : ZS)
theorem ZgD (a0 : Int) (a1 : Int) : Ref (K.Y2 a0 a1) (M.Y2 a0 a1) := by
 unfold K.Y2 M.Y2
 with_reducible repeat' (first | exact XZ | exact Zel .. | exact Zja .. | refine JD ?_ (fun _ => ?_))
noncomputable def K.Ja (i : Int) (p : (List Zl) × (List (Xi × Int)) × Int) (q : (List Zl) × (List (Xi × Int)) × Int) : Option (((List Zl) × (List (Xi × Int)) × Int) ⊕ ((List Zl) × (List (Xi × Int)))) :=
 gd [decide (0 ≤ q.2.2),decide (q.2.2 < (q.1.length : Int)),decide (((q.1.getD (0 + q.2.2.toNat) default).Xo.length + 1) * 16 ≤ 140737488355328)] (some (.inl (q.1.set (0 + q.2.2.toNat) ⟨(q.1.getD (0 + q.2.2.toNat) default).Zp,(q.1.getD (0 + q.2.2.toNat) default).XF,(q.1.getD (0 + q.2.2.toNat) default).Xo ++ [⟨i,p.2.2⟩]⟩,q.2.1,wr .i64 (p.2.2 + 1))))
theorem ZeY (i : Int) (p : (List Zl) × (List (Xi × Int)) × Int) (q : (List Zl) × (List (Xi × Int)) × Int) : Ref (K.Ja i p q) (M.Ja i p q) := by
 unfold K.Ja M.Ja
 with_reducible repeat' (first | exact XZ | refine VK ?_)
noncomputable def K.Q1 (a0 : ZG) (i : Int) (p : (List Zl) × (List (Xi × Int)) × Int) : Option (((List Zl) × (List (Xi × Int)) × Int) ⊕ ((List Zl) × (List (Xi × Int)))) :=
 bif decide (p.2.2 < (((a0.Ze.getD i.toNat default).Zc).length : Int)) then (gd [decide (0 ≤ p.2.2),decide (p.2.2 < (((a0.Ze.getD i.toNat default).Zc).length : Int))] (bif (((a0.Ze.getD i.toNat default).Zc.getD p.2.2.toNat default).ZK == 0) || ((a0.Ze.getD i.toNat default).Zc.getD p.2.2.toNat default).Gu then (some (.inl (p.1,p.2.1,wr .i64 (p.2.2 + 1)))) else ((K.Y2 ((a0.Ze.getD i.toNat default).Zc.getD p.2.2.toNat default).Zy ((a0.Ze.getD i.toNat default).Zc.getD p.2.2.toNat default).ZK).bind fun r => bif !(lkM (topoKeyEq ⟨r,((a0.Ze.getD i.toNat default).Zc.getD p.2.2.toNat default).XF⟩) p.2.1).2 then (gd [decide ((p.1.length + 1) * 48 ≤ 140737488355328)] (K.Ja i p (p.1 ++ [⟨r,((a0.Ze.getD i.toNat default).Zc.getD p.2.2.toNat default).XF,[]⟩],p.2.1 ++ [(⟨r,((a0.Ze.getD i.toNat default).Zc.getD p.2.2.toNat default).XF⟩,(p.1.length : Int))],(p.1.length : Int)))) else (K.Ja i p (p.1,p.2.1,(lkM (topoKeyEq ⟨r,((a0.Ze.getD i.toNat default).Zc.getD p.2.2.toNat default).XF⟩) p.2.1).1))))) else (some (.inr (p.1,p.2.1)))
theorem Zem (a0 : ZG) (i : Int) (p : (List Zl) × (List (Xi × Int)) × Int) : Ref (K.Q1 a0 i p) (M.Q1 a0 i p) := by
 unfold K.Q1 M.Q1
 with_reducible repeat' (first | exact XZ | exact ZgD .. | exact ZeY .. | refine JD ?_ (fun _ => ?_) | refine VK ?_ | refine Wd ?_ ?_)
noncomputable def K.Jv (a0 : ZG) (p : (List Zl) × (List (Xi × Int)) × Int) : Option (((List Zl) × (List (Xi × Int)) × Int) ⊕ (List Zl)) :=
 bif decide (p.2.2 < (a0.Ze.length : Int)) then (gd [decide (0 ≤ p.2.2),decide (p.2.2 < (a0.Ze.length : Int))] ((loopN 1000 (K.Q1 a0 p.2.2) (p.1,p.2.1,0)).bind fun y => some (.inl (y.1,y.2,wr .i64 (p.2.2 + 1))))) else (some (.inr p.1))
theorem Zen (a0 : ZG) (p : (List Zl) × (List (Xi × Int)) × Int) : Ref (K.Jv a0 p) (M.Jv a0 p) := by
 unfold K.Jv M.Jv
 with_reducible repeat' (first | exact XZ | exact Zem .. | refine JD ?_ (fun _ => ?_) | refine VK ?_ | refine Wd ?_ ?_ | refine GD (fun _ => ?_))
noncomputable def K.Wi (a0 : ZG) : Option (List Zl) :=
 (loopN 1000 (K.Jv a0) ([],[],0)).bind fun y => some y
theorem ZgE (a0 : ZG) : Ref (K.Wi a0) (M.Wi a0) := by
 unfold K.Wi M.Wi
 with_reducible repeat' (first | exact XZ | exact Zen .. | refine JD ?_ (fun _ => ?_) | refine GD (fun _ => ?_))
noncomputable def K.QD (a0 : Int) : Option Bool :=
 some (a0 != a0)
theorem ZdD (a0 : Int) : Ref (K.QD a0) (M.QD a0) := by
 unfold K.QD M.QD
 with_reducible repeat' (first | exact XZ)
noncomputable def K.QO (a0 : Int) (a1 : Int) : Option Int :=
 (K.QD a0).bind fun r1 => (K.QD a1).bind fun r2 => bif r1 then (bif r2 then (some 0) else (some (-1))) else (bif r2 then (some 1) else (bif decide (a0 < a1) then (some (-1)) else (bif decide (a0 > a1) then (some 1) else (some 0))))
theorem Zb0 (a0 : Int) (a1 : Int) : Ref (K.QO a0 a1) (M.QO a0 a1) := by
 unfold K.QO M.QO
 with_reducible repeat' (first | exact XZ | exact ZdD .. | refine JD ?_ (fun _ => ?_) | refine Wd ?_ ?_)
noncomputable def K.J5 (a0 : Int) : Option Bool :=
 some (a0 != a0)
theorem Zft (a0 : Int) : Ref (K.J5 a0) (M.J5 a0) := by
 unfold K.J5 M.J5
 with_reducible repeat' (first | exact XZ)
noncomputable def K.Q2 (a0 : Int) (a1 : Int) : Option Int :=
 (K.J5 a0).bind fun r1 => (K.J5 a1).bind fun r2 => bif r1 then (bif r2 then (some 0) else (some (-1))) else (bif r2 then (some 1) else (bif decide (a0 < a1) then (some (-1)) else (bif decide (a0 > a1) then (some 1) else (some 0))))
theorem R2 (a0 : Int) (a1 : Int) : Ref (K.Q2 a0 a1) (M.Q2 a0 a1) := by
 unfold K.Q2 M.Q2
 with_reducible repeat' (first | exact XZ | exact Zft .. | refine JD ?_ (fun _ => ?_) | refine Wd ?_ ?_)
noncomputable def K.Wj (a0 : ZS) (a1 : ZS) : Option Int :=
 (K.QO a0.Zy a1.Zy).bind fun r1 => bif r1 != 0 then (some r1) else ((K.Q2 a0.ZK a1.ZK).bind fun r2 => some r2)
theorem ZgF (a0 : ZS) (a1 : ZS) : Ref (K.Wj a0 a1) (M.Wj a0 a1) := by
 unfold K.Wj M.Wj
 with_reducible repeat' (first | exact XZ | exact Zb0 .. | exact R2 .. | refine JD ?_ (fun _ => ?_) | refine Wd ?_ ?_)
noncomputable def K.YN (a0 : List Int) (p1 : Int) : Option (Int ⊕ (Unit ⊕ Int)) :=
 bif decide (p1 < (a0.length : Int)) then (gd [decide (0 ≤ p1),decide (p1 < (a0.length : Int))] (bif (a0.getD p1.toNat default) != 0 then (some (.inr (.inr (a0.getD p1.toNat default)))) else (some (.inl (wr .i64 (p1 + 1)))))) else (some (.inr (.inl ())))
theorem Zfu (a0 : List Int) (p1 : Int) : Ref (K.YN a0 p1) (M.YN a0 p1) := by
 unfold K.YN M.YN
 with_reducible repeat' (first | exact XZ | refine VK ?_ | refine Wd ?_ ?_)
noncomputable def K.Ua (a0 : List Int) : Option Int :=
 (loopN 1000 (K.YN a0) 0).bind fun y3 => Sum.elim (fun _ => some 0) (fun y5 => some y5) y3
theorem Zic (a0 : List Int) : Ref (K.Ua a0) (M.Ua a0) := by
 unfold K.Ua M.Ua
 with_reducible repeat' (first | exact XZ | exact Zfu .. | refine JD ?_ (fun _ => ?_) | refine ZbU (fun _ => ?_) (fun _ => ?_) | refine GD (fun _ => ?_))
noncomputable def K.VT (a0 : Zl) (a1 : Zl) : Option Int :=
 (K.Wj a0.Zp a1.Zp).bind fun r1 => (K.Q2 a0.XF a1.XF).bind fun r2 => (K.Ua ([r1,r2] : List Int)).bind fun r3 => some r3
theorem ZgG (a0 : Zl) (a1 : Zl) : Ref (K.VT a0 a1) (M.VT a0 a1) := by
 unfold K.VT M.VT
 with_reducible repeat' (first | exact XZ | exact R2 .. | exact ZgF .. | exact Zic .. | refine JD ?_ (fun _ => ?_))
noncomputable def K.XP (a0 : List Zl) : Option (List Zl) :=
 sortK K.VT a0
theorem W1 (a0 : List Zl) : Ref (K.XP a0) (M.XP a0) := ZkQ ZgG so_topo_Build_1
noncomputable def K.J6 (p5 : (List Int) × Int) (p7 : (List Int)) : Option (((List Int) × Int) ⊕ (List Int)) :=
 some (.inl (p7,wr .i64 (p5.2 + 1)))
theorem Zfv (p5 : (List Int) × Int) (p7 : (List Int)) : Ref (K.J6 p5 p7) (M.J6 p5 p7) := by
 unfold K.J6 M.J6
 with_reducible repeat' (first | exact XZ)
noncomputable def K.Vn (r3 : (List Zl)) (p5 : (List Int) × Int) : Option (((List Int) × Int) ⊕ (List Int)) :=
 bif decide (p5.2 < (r3.length : Int)) then (gd [decide (0 ≤ p5.2),decide (p5.2 < (r3.length : Int))] (bif decide ((((r3.getD p5.2.toNat default).Xo).length : Int) ≥ 2) then (gd [decide ((p5.1.length + 1) * 8 ≤ 140737488355328)] (K.J6 p5 (p5.1 ++ [p5.2]))) else (K.J6 p5 p5.1))) else (some (.inr p5.1))
theorem Zfw (r3 : (List Zl)) (p5 : (List Int) × Int) : Ref (K.Vn r3 p5) (M.Vn r3 p5) := by
 unfold K.Vn M.Vn
 with_reducible repeat' (first | exact XZ | exact Zfv .. | refine VK ?_ | refine Wd ?_ ?_)
noncomputable def K.WE (a0 : ZG) : Option (Yl × Int) :=
 (K.QU a0).bind fun r1 => bif r1 != 0 then (some ((⟨([] : List Zl),([] : List Int)⟩ : Yl),r1)) else ((K.Wi a0).bind fun r2 => (K.XP r2).bind fun r3 => gd [decide (r3.length = r2.length)] ((loopN 1000 (K.Vn r3) (([] : List Int),0)).bind fun y8 => bif decide ((y8.length : Int) > 12) then (some ((⟨([] : List Zl),([] : List Int)⟩ : Yl),7)) else (some ((⟨r3,y8⟩ : Yl),0))))
theorem Zid (a0 : ZG) : Ref (K.WE a0) (M.WE a0) := by
 unfold K.WE M.WE
 with_reducible repeat' (first | exact XZ | exact k_model_Check .. | exact ZgE .. | exact W1 .. | exact Zfw .. | refine JD ?_ (fun _ => ?_) | refine VK ?_ | refine Wd ?_ ?_ | refine GD (fun _ => ?_))
noncomputable def K.XT (a0 : List Zf) : Option (List Zf) :=
 gd [decide (0 = 0) || decide (0 < a0.length),decide ((0 + a0.length) * 448 ≤ 140737488355328)] (some a0)
theorem GX (a0 : List Zf) : Ref (K.XT a0) (M.XT a0) := by
 unfold K.XT M.XT
 with_reducible repeat' (first | exact XZ | refine VK ?_)
noncomputable def K.XA (a0 : List ZB) : Option (List ZB) :=
 gd [decide (0 = 0) || decide (0 < a0.length),decide ((0 + a0.length) * 112 ≤ 140737488355328)] (some a0)
theorem Gb (a0 : List ZB) : Ref (K.XA a0) (M.XA a0) := by
 unfold K.XA M.XA
 with_reducible repeat' (first | exact XZ | refine VK ?_)
noncomputable def K.Xv (a0 : List ZF) : Option (List ZF) :=
 gd [decide (0 = 0) || decide (0 < a0.length),decide ((0 + a0.length) * 40 ≤ 140737488355328)] (some a0)
theorem U0 (a0 : List ZF) : Ref (K.Xv a0) (M.Xv a0) := by
 unfold K.Xv M.Xv
 with_reducible repeat' (first | exact XZ | refine VK ?_)
noncomputable def K.Xw (a0 : List VC) : Option (List VC) :=
 gd [decide (0 = 0) || decide (0 < a0.length),decide ((0 + a0.length) * 40 ≤ 140737488355328)] (some a0)
theorem U1 (a0 : List VC) : Ref (K.Xw a0) (M.Xw a0) := by
 unfold K.Xw M.Xw
 with_reducible repeat' (first | exact XZ | refine VK ?_)
noncomputable def K.XL (a0 : List Xy) : Option (List Xy) :=
 gd [decide (0 = 0) || decide (0 < a0.length),decide ((0 + a0.length) * 40 ≤ 140737488355328)] (some a0)
theorem Gq (a0 : List Xy) : Ref (K.XL a0) (M.XL a0) := by
 unfold K.XL M.XL
 with_reducible repeat' (first | exact XZ | refine VK ?_)
noncomputable def K.XU (a0 : List Ul) : Option (List Ul) :=
 gd [decide (0 = 0) || decide (0 < a0.length),decide ((0 + a0.length) * 64 ≤ 140737488355328)] (some a0)
theorem GY (a0 : List Ul) : Ref (K.XU a0) (M.XU a0) := by
 unfold K.XU M.XU
 with_reducible repeat' (first | exact XZ | refine VK ?_)
noncomputable def K.Yg (a0 : List V2) : Option (List V2) :=
 gd [decide (0 = 0) || decide (0 < a0.length),decide ((0 + a0.length) * 40 ≤ 140737488355328)] (some a0)
theorem KK (a0 : List V2) : Ref (K.Yg a0) (M.Yg a0) := by
 unfold K.Yg M.Yg
 with_reducible repeat' (first | exact XZ | refine VK ?_)
noncomputable def K.X8 (a0 : List Ku) : Option (List Ku) :=
 gd [decide (0 = 0) || decide (0 < a0.length),decide ((0 + a0.length) * 64 ≤ 140737488355328)] (some a0)
theorem KA (a0 : List Ku) : Ref (K.X8 a0) (M.X8 a0) := by
 unfold K.X8 M.X8
 with_reducible repeat' (first | exact XZ | refine VK ?_)
noncomputable def K.Xp (a0 : List Y1) : Option (List Y1) :=
 gd [decide (0 = 0) || decide (0 < a0.length),decide ((0 + a0.length) * 64 ≤ 140737488355328)] (some a0)
theorem UF (a0 : List Y1) : Ref (K.Xp a0) (M.Xp a0) := by
 unfold K.Xp M.Xp
 with_reducible repeat' (first | exact XZ | refine VK ?_)
noncomputable def K.Xq (a0 : List Yk) : Option (List Yk) :=
 gd [decide (0 = 0) || decide (0 < a0.length),decide ((0 + a0.length) * 64 ≤ 140737488355328)] (some a0)
theorem UG (a0 : List Yk) : Ref (K.Xq a0) (M.Xq a0) := by
 unfold K.Xq M.Xq
 with_reducible repeat' (first | exact XZ | refine VK ?_)
noncomputable def K.XB (a0 : List We) : Option (List We) :=
 gd [decide (0 = 0) || decide (0 < a0.length),decide ((0 + a0.length) * 24 ≤ 140737488355328)] (some a0)
theorem Gc (a0 : List We) : Ref (K.XB a0) (M.XB a0) := by
 unfold K.XB M.XB
 with_reducible repeat' (first | exact XZ | refine VK ?_)
noncomputable def K.Xe (a0 : List Yi) : Option (List Yi) :=
 gd [decide (0 = 0) || decide (0 < a0.length),decide ((0 + a0.length) * 48 ≤ 140737488355328)] (some a0)
theorem GZ (a0 : List Yi) : Ref (K.Xe a0) (M.Xe a0) := by
 unfold K.Xe M.Xe
 with_reducible repeat' (first | exact XZ | refine VK ?_)
noncomputable def K.XM (a0 : List VH) : Option (List VH) :=
 gd [decide (0 = 0) || decide (0 < a0.length),decide ((0 + a0.length) * 48 ≤ 140737488355328)] (some a0)
theorem Gr (a0 : List VH) : Ref (K.XM a0) (M.XM a0) := by
 unfold K.XM M.XM
 with_reducible repeat' (first | exact XZ | refine VK ?_)
noncomputable def K.XV (a0 : List ZS) : Option (List ZS) :=
 gd [decide (0 = 0) || decide (0 < a0.length),decide ((0 + a0.length) * 16 ≤ 140737488355328)] (some a0)
theorem G0 (a0 : List ZS) : Ref (K.XV a0) (M.XV a0) := by
 unfold K.XV M.XV
 with_reducible repeat' (first | exact XZ | refine VK ?_)
noncomputable def K.XC (a0 : List Wf) : Option (List Wf) :=
 gd [decide (0 = 0) || decide (0 < a0.length),decide ((0 + a0.length) * 24 ≤ 140737488355328)] (some a0)
theorem Gd (a0 : List Wf) : Ref (K.XC a0) (M.XC a0) := by
 unfold K.XC M.XC
 with_reducible repeat' (first | exact XZ | refine VK ?_)
noncomputable def K.XD (a0 : List Wg) : Option (List Wg) :=
 gd [decide (0 = 0) || decide (0 < a0.length),decide ((0 + a0.length) * 40 ≤ 140737488355328)] (some a0)
theorem Ge (a0 : List Wg) : Ref (K.XD a0) (M.XD a0) := by
 unfold K.XD M.XD
 with_reducible repeat' (first | exact XZ | refine VK ?_)
noncomputable def K.QP (r2 : (List ZF)) (p3 : (List ZF) × Int) : Option (((List ZF) × Int) ⊕ (List ZF)) :=
 bif decide (p3.2 < (r2.length : Int)) then ((K.Xw ((p3.1.getD (0 + p3.2.toNat) default).Z0)).bind fun r5 => gd [decide (0 ≤ p3.2),decide (p3.2 < (p3.1.length : Int)),decide (0 ≤ p3.2),decide (p3.2 < (p3.1.length : Int))] (some (.inl (p3.1.set (0 + p3.2.toNat) (⟨(p3.1.getD (0 + p3.2.toNat) default).ZJ,r5⟩ : ZF),wr .i64 (p3.2 + 1))))) else (some (.inr p3.1))
theorem Zb1 (r2 : (List ZF)) (p3 : (List ZF) × Int) : Ref (K.QP r2 p3) (M.QP r2 p3) := by
 unfold K.QP M.QP
 with_reducible repeat' (first | exact XZ | exact U1 .. | refine JD ?_ (fun _ => ?_) | refine VK ?_ | refine Wd ?_ ?_)
noncomputable def K.QQ (r7 : (List Xy)) (p8 : (List Xy) × Int) : Option (((List Xy) × Int) ⊕ (List Xy)) :=
 bif decide (p8.2 < (r7.length : Int)) then ((K.XU ((p8.1.getD (0 + p8.2.toNat) default).Z4)).bind fun r10 => gd [decide (0 ≤ p8.2),decide (p8.2 < (p8.1.length : Int)),decide (0 ≤ p8.2),decide (p8.2 < (p8.1.length : Int))] (some (.inl (p8.1.set (0 + p8.2.toNat) (⟨(p8.1.getD (0 + p8.2.toNat) default).ZJ,r10⟩ : Xy),wr .i64 (p8.2 + 1))))) else (some (.inr p8.1))
theorem Zb2 (r7 : (List Xy)) (p8 : (List Xy) × Int) : Ref (K.QQ r7 p8) (M.QQ r7 p8) := by
 unfold K.QQ M.QQ
 with_reducible repeat' (first | exact XZ | exact GY .. | refine JD ?_ (fun _ => ?_) | refine VK ?_ | refine Wd ?_ ?_)
noncomputable def K.QR (r12 : (List V2)) (p13 : (List V2) × Int) : Option (((List V2) × Int) ⊕ (List V2)) :=
 bif decide (p13.2 < (r12.length : Int)) then ((K.X8 ((p13.1.getD (0 + p13.2.toNat) default).Z0)).bind fun r15 => gd [decide (0 ≤ p13.2),decide (p13.2 < (p13.1.length : Int)),decide (0 ≤ p13.2),decide (p13.2 < (p13.1.length : Int))] (some (.inl (p13.1.set (0 + p13.2.toNat) (⟨(p13.1.getD (0 + p13.2.toNat) default).ZJ,r15⟩ : V2),wr .i64 (p13.2 + 1))))) else (some (.inr p13.1))
theorem Zb3 (r12 : (List V2)) (p13 : (List V2) × Int) : Ref (K.QR r12 p13) (M.QR r12 p13) := by
 unfold K.QR M.QR
 with_reducible repeat' (first | exact XZ | exact KA .. | refine JD ?_ (fun _ => ?_) | refine VK ?_ | refine Wd ?_ ?_)
noncomputable def K.J0 (a0 : Zf) : Option Zf :=
 (K.XA a0.Zc).bind fun r1 => (K.Xv a0.Z1).bind fun r2 => (loopN 1000 (K.QP r2) (r2,0)).bind fun y6 => (K.XL a0.ZR).bind fun r7 => (loopN 1000 (K.QQ r7) (r7,0)).bind fun y11 => (K.Yg a0.Xh).bind fun r12 => (loopN 1000 (K.QR r12) (r12,0)).bind fun y16 => (K.Xp a0.Xf).bind fun r17 => (K.Xq a0.Zr).bind fun r18 => (K.XB a0.X0.ZE).bind fun r19 => (K.Xe a0.X0.Zs).bind fun r20 => (K.Xe a0.Ya.Zs).bind fun r21 => (K.XM a0.ZW.Zk).bind fun r22 => (K.XV a0.ZW.Zt).bind fun r23 => (K.XC a0.ZW.Zq).bind fun r24 => (K.XD a0.ZW.Zm).bind fun r25 => (K.Xe a0.ZW.Zs).bind fun r26 => some (⟨a0.ZJ,a0.GA,r1,y6,y11,y16,r17,r18,(⟨a0.X0.Va,a0.X0.Xd,r19,r20⟩ : WC),(⟨a0.Ya.Va,a0.Ya.Xd,a0.Ya.Vr,a0.Ya.YD,r21⟩ : QF),(⟨a0.ZW.Va,a0.ZW.XN,a0.ZW.XO,r22,r23,r24,r25,r26⟩ : Xg)⟩ : Zf)
theorem Zeo (a0 : Zf) : Ref (K.J0 a0) (M.J0 a0) := by
 unfold K.J0 M.J0
 with_reducible repeat' (first | exact XZ | exact Gb .. | exact U0 .. | exact Gq .. | exact KK .. | exact UF .. | exact UG .. | exact Gc .. | exact GZ .. | exact Gr .. | exact G0 .. | exact Gd .. | exact Ge .. | exact Zb1 .. | exact Zb2 .. | exact Zb3 .. | refine JD ?_ (fun _ => ?_) | refine GD (fun _ => ?_))
noncomputable def K.Qr (r1 : (List Zf)) (p2 : (List Zf) × Int) : Option (((List Zf) × Int) ⊕ (List Zf)) :=
 bif decide (p2.2 < (r1.length : Int)) then ((K.J0 (p2.1.getD (0 + p2.2.toNat) default)).bind fun r4 => gd [decide (0 ≤ p2.2),decide (p2.2 < (p2.1.length : Int)),decide (0 ≤ p2.2),decide (p2.2 < (p2.1.length : Int))] (some (.inl (p2.1.set (0 + p2.2.toNat) r4,wr .i64 (p2.2 + 1))))) else (some (.inr p2.1))
theorem Zbo (r1 : (List Zf)) (p2 : (List Zf) × Int) : Ref (K.Qr r1 p2) (M.Qr r1 p2) := by
 unfold K.Qr M.Qr
 with_reducible repeat' (first | exact XZ | exact Zeo .. | refine JD ?_ (fun _ => ?_) | refine VK ?_ | refine Wd ?_ ?_)
noncomputable def K.JG (a0 : ZG) : Option ZG :=
 (K.XT a0.Ze).bind fun r1 => (loopN 1000 (K.Qr r1) (r1,0)).bind fun y5 => some (⟨y5⟩ : ZG)
theorem ZdE (a0 : ZG) : Ref (K.JG a0) (M.JG a0) := by
 unfold K.JG M.JG
 with_reducible repeat' (first | exact XZ | exact GX .. | exact Zbo .. | refine JD ?_ (fun _ => ?_) | refine GD (fun _ => ?_))
noncomputable def K.QA (a0 : List Int) : Option (List Int) :=
 gd [decide (0 = 0) || decide (0 < a0.length),decide ((0 + a0.length) * 8 ≤ 140737488355328)] (some a0)
theorem ZaR (a0 : List Int) : Ref (K.QA a0) (M.QA a0) := by
 unfold K.QA M.QA
 with_reducible repeat' (first | exact XZ | refine VK ?_)
noncomputable def K.J9 (a1 : List Int) (r1 : Yl × Int) (p2 : Int) : Option (Int ⊕ (Unit ⊕ (WG × Int))) :=
 bif decide (p2 < (a1.length : Int)) then (gd [decide (0 ≤ p2),decide (p2 < (a1.length : Int))] (gd [guardB ((!((decide ((a1.getD p2.toNat default) < 0)) || (decide ((a1.getD p2.toNat default) ≥ (r1.1.Js.length : Int))))) && (decide (p2 > 0))) (decide (0 ≤ (wr .i64 (p2 - 1)))),guardB ((!((decide ((a1.getD p2.toNat default) < 0)) || (decide ((a1.getD p2.toNat default) ≥ (r1.1.Js.length : Int))))) && (decide (p2 > 0))) (decide ((wr .i64 (p2 - 1)) < (a1.length : Int)))] (bif ((decide ((a1.getD p2.toNat default) < 0)) || (decide ((a1.getD p2.toNat default) ≥ (r1.1.Js.length : Int)))) || ((decide (p2 > 0)) && (decide ((a1.getD p2.toNat default) ≤ (a1.getD (wr .i64 (p2 - 1)).toNat default)))) then (some (.inr (.inr ((⟨(⟨([] : List Zf)⟩ : ZG),(⟨([] : List Zl),([] : List Int)⟩ : Yl),([] : List Int)⟩ : WG),1)))) else (some (.inl (wr .i64 (p2 + 1))))))) else (some (.inr (.inl ())))
theorem ZgH (a1 : List Int) (r1 : Yl × Int) (p2 : Int) : Ref (K.J9 a1 r1 p2) (M.J9 a1 r1 p2) := by
 unfold K.J9 M.J9
 with_reducible repeat' (first | exact XZ | refine VK ?_ | refine Wd ?_ ?_)
noncomputable def K.WU (a0 : ZG) (a1 : List Int) : Option (WG × Int) :=
 (K.WE a0).bind fun r1 => bif r1.2 != 0 then (some ((⟨(⟨([] : List Zf)⟩ : ZG),(⟨([] : List Zl),([] : List Int)⟩ : Yl),([] : List Int)⟩ : WG),r1.2)) else (bif decide ((a1.length : Int) > 2) then (some ((⟨(⟨([] : List Zf)⟩ : ZG),(⟨([] : List Zl),([] : List Int)⟩ : Yl),([] : List Int)⟩ : WG),1)) else ((loopN 1000 (K.J9 a1 r1) 0).bind fun y4 => Sum.elim (fun _ => (K.JG a0).bind fun r7 => (K.QA a1).bind fun r8 => some ((⟨r7,r1.1,r8⟩ : WG),0)) (fun y6 => some y6) y4))
theorem Zjb (a0 : ZG) (a1 : List Int) : Ref (K.WU a0 a1) (M.WU a0 a1) := by
 unfold K.WU M.WU
 with_reducible repeat' (first | exact XZ | exact Zid .. | exact ZdE .. | exact ZaR .. | exact ZgH .. | refine JD ?_ (fun _ => ?_) | refine Wd ?_ ?_ | refine ZbU (fun _ => ?_) (fun _ => ?_) | refine GD (fun _ => ?_))
noncomputable def K.Ui  : Option ZG :=
 some (⟨([(⟨(⟨#[97]⟩ : ByteArray),0,([(⟨(⟨#[101,48]⟩ : ByteArray),167772161,24,0,false,false,0,0,false,(⟨#[]⟩ : ByteArray),(⟨#[]⟩ : ByteArray),0⟩ : ZB)] : List ZB),([] : List ZF),([] : List Xy),([] : List V2),([] : List Y1),([] : List Yk),(⟨false,0,([] : List We),([] : List Yi)⟩ : WC),(⟨false,0,(⟨#[]⟩ : ByteArray),(⟨#[]⟩ : ByteArray),([] : List Yi)⟩ : QF),(⟨false,0,0,([] : List VH),([] : List ZS),([] : List Wf),([] : List Wg),([] : List Yi)⟩ : Xg)⟩ : Zf),(⟨(⟨#[98]⟩ : ByteArray),0,([(⟨(⟨#[101,48]⟩ : ByteArray),167772162,24,0,false,false,0,0,false,(⟨#[]⟩ : ByteArray),(⟨#[]⟩ : ByteArray),0⟩ : ZB),(⟨(⟨#[101,49]⟩ : ByteArray),167772418,24,0,false,false,0,0,false,(⟨#[]⟩ : ByteArray),(⟨#[]⟩ : ByteArray),0⟩ : ZB)] : List ZB),([] : List ZF),([] : List Xy),([] : List V2),([] : List Y1),([] : List Yk),(⟨false,0,([] : List We),([] : List Yi)⟩ : WC),(⟨false,0,(⟨#[]⟩ : ByteArray),(⟨#[]⟩ : ByteArray),([] : List Yi)⟩ : QF),(⟨false,0,0,([] : List VH),([] : List ZS),([] : List Wf),([] : List Wg),([] : List Yi)⟩ : Xg)⟩ : Zf)] : List Zf)⟩ : ZG)
theorem Zie  : Ref (K.Ui) (M.Ui) := by
 unfold K.Ui M.Ui
 with_reducible repeat' (first | exact XZ)
noncomputable def K.Yt (a0 : List V8) (a1 : V8) (p1 : Int) : Option (Int ⊕ (Unit ⊕ Int)) :=
 bif decide (p1 < (a0.length : Int)) then (gd [decide (0 ≤ p1),decide (p1 < (a0.length : Int))] (bif ((a1.KQ == ((a0.getD p1.toNat default).KQ)) && ((a1.Qx == ((a0.getD p1.toNat default).Qx)) && true)) then (some (.inr (.inr p1))) else (some (.inl (wr .i64 (p1 + 1)))))) else (some (.inr (.inl ())))
theorem Kj (a0 : List V8) (a1 : V8) (p1 : Int) : Ref (K.Yt a0 a1 p1) (M.Yt a0 a1 p1) := by
 unfold K.Yt M.Yt
 with_reducible repeat' (first | exact XZ | refine VK ?_ | refine Wd ?_ ?_)
noncomputable def K.Yu (a0 : List V8) (a1 : V8) : Option Int :=
 (loopN 1000 (K.Yt a0 a1) 0).bind fun y3 => Sum.elim (fun _ => some (-1)) (fun y5 => some y5) y3
theorem KL (a0 : List V8) (a1 : V8) : Ref (K.Yu a0 a1) (M.Yu a0 a1) := by
 unfold K.Yu M.Yu
 with_reducible repeat' (first | exact XZ | exact Kj .. | refine JD ?_ (fun _ => ?_) | refine ZbU (fun _ => ?_) (fun _ => ?_) | refine GD (fun _ => ?_))
noncomputable def K.Ye (a0 : List V8) (a1 : V8) : Option Bool :=
 (K.Yu a0 a1).bind fun r1 => some (decide (r1 ≥ 0))
theorem Kk (a0 : List V8) (a1 : V8) : Ref (K.Ye a0 a1) (M.Ye a0 a1) := by
 unfold K.Ye M.Ye
 with_reducible repeat' (first | exact XZ | exact KL .. | refine JD ?_ (fun _ => ?_))
noncomputable def K.WR (a0 : WG) (a1 : Int) (a2 : Int) (p1 : Int) : Option (Int ⊕ (Unit ⊕ Int)) :=
 bif decide (p1 < (a0.Ws.XQ.length : Int)) then (gd [decide (0 ≤ p1),decide (p1 < (a0.Ws.XQ.length : Int))] ((K.Ye ((a0.Ws.XQ.getD p1.toNat default).Xo) (⟨a1,a2⟩ : V8)).bind fun r3 => bif r3 then (some (.inr (.inr p1))) else (some (.inl (wr .i64 (p1 + 1)))))) else (some (.inr (.inl ())))
theorem ZeZ (a0 : WG) (a1 : Int) (a2 : Int) (p1 : Int) : Ref (K.WR a0 a1 a2 p1) (M.WR a0 a1 a2 p1) := by
 unfold K.WR M.WR
 with_reducible repeat' (first | exact XZ | exact Kk .. | refine JD ?_ (fun _ => ?_) | refine VK ?_ | refine Wd ?_ ?_)
noncomputable def K.WS (a0 : WG) (a1 : Int) (a2 : Int) : Option Int :=
 (loopN 1000 (K.WR a0 a1 a2) 0).bind fun y4 => Sum.elim (fun _ => none) (fun y6 => some y6) y4
theorem Zdi (a0 : WG) (a1 : Int) (a2 : Int) : Ref (K.WS a0 a1 a2) (M.WS a0 a1 a2) := by
 unfold K.WS M.WS
 with_reducible repeat' (first | exact XZ | exact Zgn | exact ZeZ .. | refine JD ?_ (fun _ => ?_) | refine ZbU (fun _ => ?_) (fun _ => ?_) | refine GD (fun _ => ?_))
noncomputable def K.QV (a0 : List Int) (a1 : Int) (p1 : Int) : Option (Int ⊕ (Unit ⊕ Int)) :=
 bif decide (p1 < (a0.length : Int)) then (gd [decide (0 ≤ p1),decide (p1 < (a0.length : Int))] (bif a1 == (a0.getD p1.toNat default) then (some (.inr (.inr p1))) else (some (.inl (wr .i64 (p1 + 1)))))) else (some (.inr (.inl ())))
theorem RG (a0 : List Int) (a1 : Int) (p1 : Int) : Ref (K.QV a0 a1 p1) (M.QV a0 a1 p1) := by
 unfold K.QV M.QV
 with_reducible repeat' (first | exact XZ | refine VK ?_ | refine Wd ?_ ?_)
noncomputable def K.Qi (a0 : List Int) (a1 : Int) : Option Int :=
 (loopN 1000 (K.QV a0 a1) 0).bind fun y3 => Sum.elim (fun _ => some (-1)) (fun y5 => some y5) y3
theorem KB (a0 : List Int) (a1 : Int) : Ref (K.Qi a0 a1) (M.Qi a0 a1) := by
 unfold K.Qi M.Qi
 with_reducible repeat' (first | exact XZ | exact RG .. | refine JD ?_ (fun _ => ?_) | refine ZbU (fun _ => ?_) (fun _ => ?_) | refine GD (fun _ => ?_))
noncomputable def K.GP (a0 : WG) (a1 : Int) (a2 : Int) : Option Int :=
 (K.WS a0 a1 a2).bind fun r1 => bif decide (r1 < 0) then none else ((K.Qi a0.Ws.Js r1).bind fun r2 => some r2)
theorem Zjc (a0 : WG) (a1 : Int) (a2 : Int) : Ref (K.GP a0 a1 a2) (M.GP a0 a1 a2) := by
 unfold K.GP M.GP
 with_reducible repeat' (first | exact XZ | exact Zgn | exact Zdi .. | exact KB .. | refine JD ?_ (fun _ => ?_) | refine Wd ?_ ?_)
noncomputable def K.Ql (a0 : List Int) (a1 : Int) : Option Bool :=
 (K.Qi a0 a1).bind fun r1 => some (decide (r1 ≥ 0))
theorem RH (a0 : List Int) (a1 : Int) : Ref (K.Ql a0 a1) (M.Ql a0 a1) := by
 unfold K.Ql M.Ql
 with_reducible repeat' (first | exact XZ | exact KB .. | refine JD ?_ (fun _ => ?_))
noncomputable def K.GQ (a0 : WG) (a1 : Int) (a2 : Int) : Option Bool :=
 (K.WS a0 a1 a2).bind fun r1 => bif decide (r1 < 0) then none else ((K.GP a0 a1 a2).bind fun r2 => (gc (!(decide (r2 < 0))) (K.Ql a0.Gu r2)).bind fun r3 => some ((decide (r2 < 0)) || (!r3)))
theorem ZkT (a0 : WG) (a1 : Int) (a2 : Int) : Ref (K.GQ a0 a1 a2) (M.GQ a0 a1 a2) := by
 unfold K.GQ M.GQ
 with_reducible repeat' (first | exact XZ | exact Zgn | exact Zdi .. | exact Zjc .. | exact RH .. | refine JD ?_ (fun _ => ?_) | refine ZlU ?_ | refine Wd ?_ ?_)
noncomputable def K.Ga  : Option Bool :=
 (K.Ui).bind fun r1 => (K.WU r1 ([] : List Int)).bind fun r2 => (K.Ui).bind fun r3 => (K.WU r3 ([0] : List Int)).bind fun r4 => (gc ((((r2.2 == 0) && (r4.2 == 0)) && ((r2.1.Ws.XQ.length : Int) == 2)) && ((r2.1.Ws.Js.length : Int) == 1)) (K.GQ r2.1 0 0)).bind fun r5 => (gc (((((r2.2 == 0) && (r4.2 == 0)) && ((r2.1.Ws.XQ.length : Int) == 2)) && ((r2.1.Ws.Js.length : Int) == 1)) && r5) (K.GQ r4.1 0 0)).bind fun r6 => (gc ((((((r2.2 == 0) && (r4.2 == 0)) && ((r2.1.Ws.XQ.length : Int) == 2)) && ((r2.1.Ws.Js.length : Int) == 1)) && r5) && (!r6)) (K.GQ r4.1 1 1)).bind fun r7 => some (((((((r2.2 == 0) && (r4.2 == 0)) && ((r2.1.Ws.XQ.length : Int) == 2)) && ((r2.1.Ws.Js.length : Int) == 1)) && r5) && (!r6)) && r7)
theorem Zif  : Ref (K.Ga) (M.Ga) := by
 unfold K.Ga M.Ga
 with_reducible repeat' (first | exact XZ | exact Zjb .. | exact Zie .. | exact ZkT .. | refine JD ?_ (fun _ => ?_) | refine ZlU ?_)
theorem ZkU : M.Ga = some true := Zif _ (by kernel_rfl)
end Nv
