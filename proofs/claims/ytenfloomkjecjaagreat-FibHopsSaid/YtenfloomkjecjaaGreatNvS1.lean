/- The fixed example: reckoned. -/
import Derived.Test.YtenfloomkjecjaaGreatNvD1
import Derived.Test.YtenfloomkjecjaaGreatNvLibB
import Derived.Test.YtenfloomkjecjaaGreatNvTs
import Derived.Test.YtenfloomkjecjaaGreatNvTf
import Derived.KernelRfl
set_option maxRecDepth 100000
namespace Nv
open Go
noncomputable def K.JI (a0 : Z3) : Option Bool :=
 some ((a0.X1 == 2) && (a0.QI != 0))
theorem Zet (a0 : Z3) : Ref (K.JI a0) (M.JI a0) := by
 unfold K.JI M.JI
 with_reducible repeat' (first | exact Zw)
noncomputable def K.Jw (a0 : Int) : Option Int :=
 some (if (if 32 < a0 then 32 else a0) > 0 then (if 32 < a0 then 32 else a0) else 0)
theorem Zc7 (a0 : Int) : Ref (K.Jw a0) (M.Jw a0) := by
 unfold K.Jw M.Jw
 with_reducible repeat' (first | exact Zw)
noncomputable def K.JS (a0 : Int) : Option Int :=
 (K.Jw a0).bind fun r1 => gd [decide (0 ≤ (wr .i64 (32 - r1)))] (some (wr .u32 (4294967295 * 2 ^ min (wr .i64 (32 - r1)).toNat 32)))
theorem ZaI (a0 : Int) : Ref (K.JS a0) (M.JS a0) := by
 unfold K.JS M.JS
 with_reducible repeat' (first | exact Zw | exact Zc7 .. | refine Xn ?_ (fun _ => ?_) | refine YU ?_)
noncomputable def K.YQ (a0 : ZM) (a1 : Int) : Option Bool :=
 (K.JS a0.ZL).bind fun r1 => some ((bitD .and .u32 a1 r1) == a0.Zn)
theorem R6 (a0 : ZM) (a1 : Int) : Ref (K.YQ a0 a1) (M.YQ a0 a1) := by
 unfold K.YQ M.YQ
 with_reducible repeat' (first | exact Zw | exact ZaI .. | refine Xn ?_ (fun _ => ?_))
noncomputable def K.Yg (p1 : Int × Int) (p3 : Int) : Option ((Int × Int) ⊕ Int) :=
 some (.inl (p3,wr .i64 (p1.2 + 1)))
theorem ZaJ (p1 : Int × Int) (p3 : Int) : Ref (K.Yg p1 p3) (M.Yg p1 p3) := by
 unfold K.Yg M.Yg
 with_reducible repeat' (first | exact Zw)
noncomputable def K.Y2 (a0 : List Z3) (a1 : ZM) (a2 : Int) (p1 : Int × Int) : Option ((Int × Int) ⊕ Int) :=
 bif decide (p1.2 < (a0.length : Int)) then (gd [decide (0 ≤ p1.2),decide (p1.2 < (a0.length : Int))] ((gc (!(((((a0.getD p1.2.toNat default).Zl).Zn) == a1.Zn) && (((((a0.getD p1.2.toNat default).Zl).ZL) == a1.ZL) && true))) (K.YQ ((a0.getD p1.2.toNat default).Zl) a2)).bind fun r4 => bif (((((a0.getD p1.2.toNat default).Zl).Zn) == a1.Zn) && (((((a0.getD p1.2.toNat default).Zl).ZL) == a1.ZL) && true)) || (!r4) then (K.Yg p1 p1.1) else (gd [guardB (!(decide (p1.1 < 0))) (decide (0 ≤ p1.1)),guardB (!(decide (p1.1 < 0))) (decide (p1.1 < (a0.length : Int)))] (bif (decide (p1.1 < 0)) || (decide ((((a0.getD p1.2.toNat default).Zl).ZL) > (((a0.getD p1.1.toNat default).Zl).ZL))) then (K.Yg p1 p1.2) else (K.Yg p1 p1.1))))) else (some (.inr p1.1))
theorem ZaK (a0 : List Z3) (a1 : ZM) (a2 : Int) (p1 : Int × Int) : Ref (K.Y2 a0 a1 a2 p1) (M.Y2 a0 a1 a2 p1) := by
 unfold K.Y2 M.Y2
 with_reducible repeat' (first | exact Zw | exact R6 .. | exact ZaJ .. | refine Xn ?_ (fun _ => ?_) | refine YU ?_ | refine KZ ?_ | refine Xx ?_ ?_)
noncomputable def K.Qb (a0 : List Z3) (a1 : ZM) (a2 : Int) : Option Int :=
 (loopN 1000 (K.Y2 a0 a1 a2) ((-1),0)).bind fun y5 => some y5
theorem Zc8 (a0 : List Z3) (a1 : ZM) (a2 : Int) : Ref (K.Qb a0 a1 a2) (M.Qb a0 a1 a2) := by
 unfold K.Qb M.Qb
 with_reducible repeat' (first | exact Zw | exact ZaK .. | refine Xn ?_ (fun _ => ?_) | refine Yy (fun _ => ?_))
noncomputable def K.XV (a0 : List ZY) : Option (List ZY) :=
 gd [decide (0 = 0) || decide (0 < a0.length),decide ((0 + a0.length) * 16 ≤ 140737488355328)] (some a0)
theorem GY (a0 : List ZY) : Ref (K.XV a0) (M.XV a0) := by
 unfold K.XV M.XV
 with_reducible repeat' (first | exact Zw | refine YU ?_)
noncomputable def K.Q5 (p2 : (List ZY) × Int) (p4 : (List ZY)) : Option (((List ZY) × Int) ⊕ (List ZY)) :=
 some (.inl (p4,wr .i64 (p2.2 + 1)))
theorem ZdO (p2 : (List ZY) × Int) (p4 : (List ZY)) : Ref (K.Q5 p2 p4) (M.Q5 p2 p4) := by
 unfold K.Q5 M.Q5
 with_reducible repeat' (first | exact Zw)
noncomputable def K.Q6 (a1 : Int) (r1 : (List ZY)) (p2 : (List ZY) × Int) : Option (((List ZY) × Int) ⊕ (List ZY)) :=
 bif decide (p2.2 < (r1.length : Int)) then (gd [decide (0 ≤ p2.2),decide (p2.2 < (p2.1.length : Int))] (bif ((p2.1.getD (0 + p2.2.toNat) default).Zn) == 0 then (gd [decide (0 ≤ p2.2),decide (p2.2 < (p2.1.length : Int))] (K.Q5 p2 (p2.1.set (0 + p2.2.toNat) (⟨(p2.1.getD (0 + p2.2.toNat) default).ZH,a1⟩ : ZY)))) else (K.Q5 p2 p2.1))) else (some (.inr p2.1))
theorem ZdP (a1 : Int) (r1 : (List ZY)) (p2 : (List ZY) × Int) : Ref (K.Q6 a1 r1 p2) (M.Q6 a1 r1 p2) := by
 unfold K.Q6 M.Q6
 with_reducible repeat' (first | exact Zw | exact ZdO .. | refine YU ?_ | refine Xx ?_ ?_)
noncomputable def K.Wg (a0 : List ZY) (a1 : Int) : Option (List ZY) :=
 (K.XV a0).bind fun r1 => (loopN 1000 (K.Q6 a1 r1) (r1,0)).bind fun y5 => some y5
theorem Zgb (a0 : List ZY) (a1 : Int) : Ref (K.Wg a0 a1) (M.Wg a0 a1) := by
 unfold K.Wg M.Wg
 with_reducible repeat' (first | exact Zw | exact GY .. | exact ZdP .. | refine Xn ?_ (fun _ => ?_) | refine Yy (fun _ => ?_))
noncomputable def K.Jx (a0 : List Z3) (p1 : (List Bool) × Int) : Option (((List Bool) × Int) ⊕ (Int ⊕ (List ZY))) :=
 (gc (!((a0.getD p1.2.toNat default).Z1)) (K.JI (a0.getD p1.2.toNat default))).bind fun r3 => gd [decide (0 ≤ p1.2),decide (p1.2 < (a0.length : Int)),guardB (!((a0.getD p1.2.toNat default).Z1)) (decide (0 ≤ p1.2)),guardB (!((a0.getD p1.2.toNat default).Z1)) (decide (p1.2 < (a0.length : Int)))] (bif (!((a0.getD p1.2.toNat default).Z1)) && r3 then (gd [decide (0 ≤ p1.2),decide (p1.2 < (p1.1.length : Int))] (gd [decide (0 ≤ p1.2),decide (p1.2 < (a0.length : Int))] ((K.Qb a0 ((a0.getD p1.2.toNat default).Zl) ((a0.getD p1.2.toNat default).QI)).bind fun r4 => gd [decide (0 ≤ p1.2),decide (p1.2 < (a0.length : Int))] (gd [guardB (!((decide (r4 < 0)) || (decide (r4 ≥ (a0.length : Int))))) (decide (0 ≤ r4)),guardB (!((decide (r4 < 0)) || (decide (r4 ≥ (a0.length : Int))))) (decide (r4 < (((p1.1.set (0 + p1.2.toNat) true).length : Nat) : Int)))] (bif ((decide (r4 < 0)) || (decide (r4 ≥ (a0.length : Int)))) || ((p1.1.set (0 + p1.2.toNat) true).getD (0 + r4.toNat) default) then (some (.inr (.inr ([] : List ZY)))) else ((gc (!((a0.getD r4.toNat default).Z1)) (K.JI (a0.getD r4.toNat default))).bind fun r5 => gd [decide (0 ≤ r4),decide (r4 < (a0.length : Int)),guardB (!((a0.getD r4.toNat default).Z1)) (decide (0 ≤ r4)),guardB (!((a0.getD r4.toNat default).Z1)) (decide (r4 < (a0.length : Int)))] (bif (!((a0.getD r4.toNat default).Z1)) && (!r5) then ((K.Wg ((a0.getD r4.toNat default).ZU) ((a0.getD p1.2.toNat default).QI)).bind fun r6 => gd [decide (0 ≤ r4),decide (r4 < (a0.length : Int))] (some (.inr (.inr r6)))) else (some (.inl (p1.1.set (0 + p1.2.toNat) true,r4)))))))))) else (some (.inr (.inl p1.2))))
theorem ZdQ (a0 : List Z3) (p1 : (List Bool) × Int) : Ref (K.Jx a0 p1) (M.Jx a0 p1) := by
 unfold K.Jx M.Jx
 with_reducible repeat' (first | exact Zw | exact Zet .. | exact Zc8 .. | exact Zgb .. | refine Xn ?_ (fun _ => ?_) | refine YU ?_ | refine KZ ?_ | refine Xx ?_ ?_)
noncomputable def K.Wh (a0 : List Z3) (a1 : Int) : Option (List ZY) :=
 gd [decide (0 ≤ (a0.length : Int)),decide ((a0.length : Int) ≤ (a0.length : Int)),decide ((a0.length : Int).toNat * 1 ≤ 140737488355328),decide ((a0.length : Int).toNat ≤ 140737488355328)] ((loopN 1000 (K.Jx a0) (List.replicate ((a0.length : Int).toNat) false,a1)).bind fun y7 => Sum.elim (fun g8 => gd [decide (0 ≤ g8),decide (g8 < (a0.length : Int))] (bif (a0.getD g8.toNat default).Z1 then (some ([] : List ZY)) else (gd [decide (0 ≤ g8),decide (g8 < (a0.length : Int))] (some ((a0.getD g8.toNat default).ZU))))) (fun y9 => some y9) y7)
theorem Zgc (a0 : List Z3) (a1 : Int) : Ref (K.Wh a0 a1) (M.Wh a0 a1) := by
 unfold K.Wh M.Wh
 with_reducible repeat' (first | exact Zw | exact ZdQ .. | refine Xn ?_ (fun _ => ?_) | refine YU ?_ | refine Xx ?_ ?_ | refine G9 (fun _ => ?_) (fun _ => ?_) | refine Yy (fun _ => ?_))
noncomputable def K.Z0 (a0 : List Vz) (a1 : Vz) (p1 : Int) : Option (Int ⊕ (Unit ⊕ Int)) :=
 bif decide (p1 < (a0.length : Int)) then (gd [decide (0 ≤ p1),decide (p1 < (a0.length : Int))] (bif ((a1.UB == ((a0.getD p1.toNat default).UB)) && ((a1.ZH == ((a0.getD p1.toNat default).ZH)) && true)) then (some (.inr (.inr p1))) else (some (.inl (wr .i64 (p1 + 1)))))) else (some (.inr (.inl ())))
theorem Gv (a0 : List Vz) (a1 : Vz) (p1 : Int) : Ref (K.Z0 a0 a1 p1) (M.Z0 a0 a1 p1) := by
 unfold K.Z0 M.Z0
 with_reducible repeat' (first | exact Zw | refine YU ?_ | refine Xx ?_ ?_)
noncomputable def K.Z7 (a0 : List Vz) (a1 : Vz) : Option Int :=
 (loopN 1000 (K.Z0 a0 a1) 0).bind fun y3 => Sum.elim (fun _ => some (-1)) (fun y5 => some y5) y3
theorem GZ (a0 : List Vz) (a1 : Vz) : Ref (K.Z7 a0 a1) (M.Z7 a0 a1) := by
 unfold K.Z7 M.Z7
 with_reducible repeat' (first | exact Zw | exact Gv .. | refine Xn ?_ (fun _ => ?_) | refine G9 (fun _ => ?_) (fun _ => ?_) | refine Yy (fun _ => ?_))
noncomputable def K.ZP (a0 : List Vz) (a1 : Vz) : Option Bool :=
 (K.Z7 a0 a1).bind fun r1 => some (decide (r1 ≥ 0))
theorem Gw (a0 : List Vz) (a1 : Vz) : Ref (K.ZP a0 a1) (M.ZP a0 a1) := by
 unfold K.ZP M.ZP
 with_reducible repeat' (first | exact Zw | exact GZ .. | refine Xn ?_ (fun _ => ?_))
noncomputable def K.YK (a0 : XU) (a1 : Int) (a2 : Int) (p1 : Int) : Option (Int ⊕ (Unit ⊕ Int)) :=
 bif decide (p1 < (a0.X9.Xa.length : Int)) then (gd [decide (0 ≤ p1),decide (p1 < (a0.X9.Xa.length : Int))] ((K.ZP ((a0.X9.Xa.getD p1.toNat default).ZR) (⟨a1,a2⟩ : Vz)).bind fun r3 => bif r3 then (some (.inr (.inr p1))) else (some (.inl (wr .i64 (p1 + 1)))))) else (some (.inr (.inl ())))
theorem ZdR (a0 : XU) (a1 : Int) (a2 : Int) (p1 : Int) : Ref (K.YK a0 a1 a2 p1) (M.YK a0 a1 a2 p1) := by
 unfold K.YK M.YK
 with_reducible repeat' (first | exact Zw | exact Gw .. | refine Xn ?_ (fun _ => ?_) | refine YU ?_ | refine Xx ?_ ?_)
noncomputable def K.Y6 (a0 : XU) (a1 : Int) (a2 : Int) : Option Int :=
 (loopN 1000 (K.YK a0 a1 a2) 0).bind fun y4 => Sum.elim (fun _ => some (-1)) (fun y6 => some y6) y4
theorem ZbU (a0 : XU) (a1 : Int) (a2 : Int) : Ref (K.Y6 a0 a1 a2) (M.Y6 a0 a1 a2) := by
 unfold K.Y6 M.Y6
 with_reducible repeat' (first | exact Zw | exact ZdR .. | refine Xn ?_ (fun _ => ?_) | refine G9 (fun _ => ?_) (fun _ => ?_) | refine Yy (fun _ => ?_))
noncomputable def K.XM (a0 : List Int) (a1 : Int) (p1 : Int) : Option (Int ⊕ (Unit ⊕ Int)) :=
 bif decide (p1 < (a0.length : Int)) then (gd [decide (0 ≤ p1),decide (p1 < (a0.length : Int))] (bif a1 == (a0.getD p1.toNat default) then (some (.inr (.inr p1))) else (some (.inl (wr .i64 (p1 + 1)))))) else (some (.inr (.inl ())))
theorem KJ (a0 : List Int) (a1 : Int) (p1 : Int) : Ref (K.XM a0 a1 p1) (M.XM a0 a1 p1) := by
 unfold K.XM M.XM
 with_reducible repeat' (first | exact Zw | refine YU ?_ | refine Xx ?_ ?_)
noncomputable def K.XK (a0 : List Int) (a1 : Int) : Option Int :=
 (loopN 1000 (K.XM a0 a1) 0).bind fun y3 => Sum.elim (fun _ => some (-1)) (fun y5 => some y5) y3
theorem GK (a0 : List Int) (a1 : Int) : Ref (K.XK a0 a1) (M.XK a0 a1) := by
 unfold K.XK M.XK
 with_reducible repeat' (first | exact Zw | exact KJ .. | refine Xn ?_ (fun _ => ?_) | refine G9 (fun _ => ?_) (fun _ => ?_) | refine Yy (fun _ => ?_))
noncomputable def K.Vu (a0 : XU) (a1 : Int) (a2 : Int) : Option Int :=
 (K.Y6 a0 a1 a2).bind fun r1 => bif decide (r1 < 0) then (some (-1)) else ((K.XK a0.X9.JP r1).bind fun r2 => some r2)
theorem Zii (a0 : XU) (a1 : Int) (a2 : Int) : Ref (K.Vu a0 a1 a2) (M.Vu a0 a1 a2) := by
 unfold K.Vu M.Vu
 with_reducible repeat' (first | exact Zw | exact ZbU .. | exact GK .. | refine Xn ?_ (fun _ => ?_) | refine Xx ?_ ?_)
noncomputable def K.XC (a0 : List Int) (a1 : Int) : Option Bool :=
 (K.XK a0 a1).bind fun r1 => some (decide (r1 ≥ 0))
theorem KK (a0 : List Int) (a1 : Int) : Ref (K.XC a0 a1) (M.XC a0 a1) := by
 unfold K.XC M.XC
 with_reducible repeat' (first | exact Zw | exact GK .. | refine Xn ?_ (fun _ => ?_))
noncomputable def K.Ud (a0 : XU) (a1 : Int) (a2 : Int) : Option Bool :=
 (K.Y6 a0 a1 a2).bind fun r1 => bif decide (r1 < 0) then (some false) else ((K.Vu a0 a1 a2).bind fun r2 => (gc (!(decide (r2 < 0))) (K.XC a0.Jp r2)).bind fun r3 => some ((decide (r2 < 0)) || (!r3)))
theorem Zka (a0 : XU) (a1 : Int) (a2 : Int) : Ref (K.Ud a0 a1 a2) (M.Ud a0 a1 a2) := by
 unfold K.Ud M.Ud
 with_reducible repeat' (first | exact Zw | exact ZbU .. | exact Zii .. | exact KK .. | refine Xn ?_ (fun _ => ?_) | refine KZ ?_ | refine Xx ?_ ?_)
noncomputable def K.Ja (a0 : Int) : Option Bool :=
 some (a0 != a0)
theorem Zeu (a0 : Int) : Ref (K.Ja a0) (M.Ja a0) := by
 unfold K.Ja M.Ja
 with_reducible repeat' (first | exact Zw)
noncomputable def K.YF (a0 : Int) (a1 : Int) : Option Int :=
 (K.Ja a0).bind fun r1 => (K.Ja a1).bind fun r2 => bif r1 then (bif r2 then (some 0) else (some (-1))) else (bif r2 then (some 1) else (bif decide (a0 < a1) then (some (-1)) else (bif decide (a0 > a1) then (some 1) else (some 0))))
theorem GL (a0 : Int) (a1 : Int) : Ref (K.YF a0 a1) (M.YF a0 a1) := by
 unfold K.YF M.YF
 with_reducible repeat' (first | exact Zw | exact Zeu .. | refine Xn ?_ (fun _ => ?_) | refine Xx ?_ ?_)
noncomputable def K.YV (a0 : Int) : Option Bool :=
 some (a0 != a0)
theorem Zcj (a0 : Int) : Ref (K.YV a0) (M.YV a0) := by
 unfold K.YV M.YV
 with_reducible repeat' (first | exact Zw)
noncomputable def K.Ym (a0 : Int) (a1 : Int) : Option Int :=
 (K.YV a0).bind fun r1 => (K.YV a1).bind fun r2 => bif r1 then (bif r2 then (some 0) else (some (-1))) else (bif r2 then (some 1) else (bif decide (a0 < a1) then (some (-1)) else (bif decide (a0 > a1) then (some 1) else (some 0))))
theorem Kc (a0 : Int) (a1 : Int) : Ref (K.Ym a0 a1) (M.Ym a0 a1) := by
 unfold K.Ym M.Ym
 with_reducible repeat' (first | exact Zw | exact Zcj .. | refine Xn ?_ (fun _ => ?_) | refine Xx ?_ ?_)
noncomputable def K.QP (a0 : List Int) (p1 : Int) : Option (Int ⊕ (Unit ⊕ Int)) :=
 bif decide (p1 < (a0.length : Int)) then (gd [decide (0 ≤ p1),decide (p1 < (a0.length : Int))] (bif (a0.getD p1.toNat default) != 0 then (some (.inr (.inr (a0.getD p1.toNat default)))) else (some (.inl (wr .i64 (p1 + 1)))))) else (some (.inr (.inl ())))
theorem Zev (a0 : List Int) (p1 : Int) : Ref (K.QP a0 p1) (M.QP a0 p1) := by
 unfold K.QP M.QP
 with_reducible repeat' (first | exact Zw | refine YU ?_ | refine Xx ?_ ?_)
noncomputable def K.V4 (a0 : List Int) : Option Int :=
 (loopN 1000 (K.QP a0) 0).bind fun y3 => Sum.elim (fun _ => some 0) (fun y5 => some y5) y3
theorem Zc9 (a0 : List Int) : Ref (K.V4 a0) (M.V4 a0) := by
 unfold K.V4 M.V4
 with_reducible repeat' (first | exact Zw | exact Zev .. | refine Xn ?_ (fun _ => ?_) | refine G9 (fun _ => ?_) (fun _ => ?_) | refine Yy (fun _ => ?_))
noncomputable def K.JJ (a0 : ZY) (a1 : ZY) : Option Int :=
 (K.YF a0.ZH a1.ZH).bind fun r1 => (K.Ym a0.Zn a1.Zn).bind fun r2 => (K.V4 ([r1,r2] : List Int)).bind fun r3 => some r3
theorem Zew (a0 : ZY) (a1 : ZY) : Ref (K.JJ a0 a1) (M.JJ a0 a1) := by
 unfold K.JJ M.JJ
 with_reducible repeat' (first | exact Zw | exact GL .. | exact Kc .. | exact Zc9 .. | refine Xn ?_ (fun _ => ?_))
noncomputable def K.XD (a0 : List ZY) : Option (List ZY) :=
 sortK K.JJ a0
theorem WS (a0 : List ZY) : Ref (K.XD a0) (M.XD a0) := Zh6 Zew so_fib_Resolve_1
noncomputable def K.Xh (p3 : (List ZY) × Int × Int) (p5 : Int × (List ZY)) : Option (((List ZY) × Int × Int) ⊕ (Int × (List ZY))) :=
 some (.inl (p5.2,p5.1,wr .i64 (p3.2.2 + 1)))
theorem Gi (p3 : (List ZY) × Int × Int) (p5 : Int × (List ZY)) : Ref (K.Xh p3 p5) (M.Xh p3 p5) := by
 unfold K.Xh M.Xh
 with_reducible repeat' (first | exact Zw)
noncomputable def K.Xi (a0 : List ZY) (p1 : Int) (p3 : (List ZY) × Int × Int) : Option (((List ZY) × Int × Int) ⊕ (Int × (List ZY))) :=
 bif decide (p3.2.2 < ((a0.length - p1.toNat : Nat) : Int)) then (gd [decide (0 ≤ p3.2.2),decide (p3.2.2 < ((a0.length - p1.toNat : Nat) : Int)),decide (0 ≤ (wr .i64 (p3.2.2 - 1))),decide ((wr .i64 (p3.2.2 - 1)) < ((a0.length - p1.toNat : Nat) : Int))] (bif !((((p3.1.getD ((0 + p1.toNat) + p3.2.2.toNat) default).ZH) == ((p3.1.getD ((0 + p1.toNat) + (wr .i64 (p3.2.2 - 1)).toNat) default).ZH)) && ((((p3.1.getD ((0 + p1.toNat) + p3.2.2.toNat) default).Zn) == ((p3.1.getD ((0 + p1.toNat) + (wr .i64 (p3.2.2 - 1)).toNat) default).Zn)) && true)) then (gd [decide (0 ≤ p3.2.2),decide (p3.2.2 < ((a0.length - p1.toNat : Nat) : Int)),decide (0 ≤ p3.2.1),decide (p3.2.1 < (p3.1.length : Int))] (K.Xh p3 (wr .i64 (p3.2.1 + 1),p3.1.set (0 + p3.2.1.toNat) (p3.1.getD ((0 + p1.toNat) + p3.2.2.toNat) default)))) else (K.Xh p3 (p3.2.1,p3.1)))) else (some (.inr (p3.2.1,p3.1)))
theorem Gj (a0 : List ZY) (p1 : Int) (p3 : (List ZY) × Int × Int) : Ref (K.Xi a0 p1 p3) (M.Xi a0 p1 p3) := by
 unfold K.Xi M.Xi
 with_reducible repeat' (first | exact Zw | exact Gi .. | refine YU ?_ | refine Xx ?_ ?_)
noncomputable def K.ZZ (a0 : List ZY) (p1 : Int) : Option (Int ⊕ (Unit ⊕ ((List ZY) × Nat))) :=
 bif decide (p1 < (a0.length : Int)) then (gd [decide (0 ≤ p1),decide (p1 < (a0.length : Int)),decide (0 ≤ (wr .i64 (p1 - 1))),decide ((wr .i64 (p1 - 1)) < (a0.length : Int))] (bif ((((a0.getD (0 + p1.toNat) default).ZH) == ((a0.getD (0 + (wr .i64 (p1 - 1)).toNat) default).ZH)) && ((((a0.getD (0 + p1.toNat) default).Zn) == ((a0.getD (0 + (wr .i64 (p1 - 1)).toNat) default).Zn)) && true)) then (gd [decide (0 ≤ p1),decide (p1 ≤ (a0.length : Int))] ((loopN 1000 (K.Xi a0 p1) (a0,p1,1)).bind fun y6 => gd [decide (0 ≤ y6.1),decide (y6.1 ≤ (y6.2.length : Int))] (gd [decide (0 ≤ y6.1),decide (y6.1 ≤ (((clrL y6.2 (0 + y6.1.toNat) (y6.2.length - y6.1.toNat) (⟨0,0⟩ : ZY)).length : Nat) : Int))] (gd [decide ((clrL y6.2 (0 + y6.1.toNat) (y6.2.length - y6.1.toNat) (⟨0,0⟩ : ZY)).length = a0.length)] (some (.inr (.inr (clrL y6.2 (0 + y6.1.toNat) (y6.2.length - y6.1.toNat) (⟨0,0⟩ : ZY),y6.1.toNat - 0)))))))) else (some (.inl (wr .i64 (p1 + 1)))))) else (some (.inr (.inl ())))
theorem Gk (a0 : List ZY) (p1 : Int) : Ref (K.ZZ a0 p1) (M.ZZ a0 p1) := by
 unfold K.ZZ M.ZZ
 with_reducible repeat' (first | exact Zw | exact Gj .. | refine Xn ?_ (fun _ => ?_) | refine YU ?_ | refine Xx ?_ ?_ | refine Yy (fun _ => ?_))
noncomputable def K.XN (a0 : List ZY) : Option ((List ZY) × Nat) :=
 bif decide ((a0.length : Int) < 2) then (some (a0,a0.length)) else ((loopN 1000 (K.ZZ a0) 1).bind fun y7 => Sum.elim (fun _ => some (a0,a0.length)) (fun y9 => some y9) y7)
theorem GM (a0 : List ZY) : Ref (K.XN a0) (M.XN a0) := by
 unfold K.XN M.XN
 with_reducible repeat' (first | exact Zw | exact Gk .. | refine Xn ?_ (fun _ => ?_) | refine Xx ?_ ?_ | refine G9 (fun _ => ?_) (fun _ => ?_) | refine Yy (fun _ => ?_))
noncomputable def K.Q7 (p2 : (List ZY) × Int) (p4 : (List ZY)) : Option (((List ZY) × Int) ⊕ (List ZY)) :=
 some (.inl (p4,wr .i64 (p2.2 + 1)))
theorem ZdS (p2 : (List ZY) × Int) (p4 : (List ZY)) : Ref (K.Q7 p2 p4) (M.Q7 p2 p4) := by
 unfold K.Q7 M.Q7
 with_reducible repeat' (first | exact Zw)
noncomputable def K.Jy (a0 : XU) (a2 : Int) (r1 : (List ZY)) (p2 : (List ZY) × Int) : Option (((List ZY) × Int) ⊕ (List ZY)) :=
 bif decide (p2.2 < (r1.length : Int)) then (gd [decide (0 ≤ p2.2),decide (p2.2 < (r1.length : Int))] ((K.Ud a0 a2 ((r1.getD p2.2.toNat default).ZH)).bind fun r5 => bif r5 then (gd [decide ((p2.1.length + 1) * 16 ≤ 140737488355328)] (K.Q7 p2 (p2.1 ++ [r1.getD p2.2.toNat default]))) else (K.Q7 p2 p2.1))) else (some (.inr p2.1))
theorem ZdT (a0 : XU) (a2 : Int) (r1 : (List ZY)) (p2 : (List ZY) × Int) : Ref (K.Jy a0 a2 r1 p2) (M.Jy a0 a2 r1 p2) := by
 unfold K.Jy M.Jy
 with_reducible repeat' (first | exact Zw | exact Zka .. | exact ZdS .. | refine Xn ?_ (fun _ => ?_) | refine YU ?_ | refine Xx ?_ ?_)
noncomputable def K.Wi (a0 : XU) (a1 : List Z3) (a2 : Int) (a3 : Int) : Option (List ZY) :=
 bif (decide (a3 < 0)) || (decide (a3 ≥ (a1.length : Int))) then (some ([] : List ZY)) else ((K.Wh a1 a3).bind fun r1 => (loopN 1000 (K.Jy a0 a2 r1) (([] : List ZY),0)).bind fun y6 => (K.XD y6).bind fun r7 => gd [decide (r7.length = y6.length)] ((K.XN r7).bind fun r8 => gd [decide (r8.1.length = r7.length),decide (r8.2 ≤ r8.1.length)] (gd [decide (r8.2 ≤ r8.1.length)] (some (r8.1.take r8.2)))))
theorem Zgd (a0 : XU) (a1 : List Z3) (a2 : Int) (a3 : Int) : Ref (K.Wi a0 a1 a2 a3) (M.Wi a0 a1 a2 a3) := by
 unfold K.Wi M.Wi
 with_reducible repeat' (first | exact Zw | exact Zgc .. | exact WS .. | exact GM .. | exact ZdT .. | refine Xn ?_ (fun _ => ?_) | refine YU ?_ | refine Xx ?_ ?_ | refine Yy (fun _ => ?_))
noncomputable def K.VM (a0 : XU) (a1 : List Z3) (a2 : Int) (p1 : (List YJ) × Int) : Option (((List YJ) × Int) ⊕ (List YJ)) :=
 bif decide (p1.2 < (a1.length : Int)) then (gd [decide (0 ≤ p1.2),decide (p1.2 < (a1.length : Int))] ((K.Wi a0 a1 a2 p1.2).bind fun r3 => gd [decide ((p1.1.length + 1) * 48 ≤ 140737488355328)] (some (.inl (p1.1 ++ [(⟨(a1.getD p1.2.toNat default).Zl,r3,(a1.getD p1.2.toNat default).Z1⟩ : YJ)],wr .i64 (p1.2 + 1)))))) else (some (.inr p1.1))
theorem ZfL (a0 : XU) (a1 : List Z3) (a2 : Int) (p1 : (List YJ) × Int) : Ref (K.VM a0 a1 a2 p1) (M.VM a0 a1 a2 p1) := by
 unfold K.VM M.VM
 with_reducible repeat' (first | exact Zw | exact Zgd .. | refine Xn ?_ (fun _ => ?_) | refine YU ?_ | refine Xx ?_ ?_)
noncomputable def K.WT (a0 : XU) (a1 : List Z3) (a2 : Int) : Option (List YJ) :=
 (loopN 1000 (K.VM a0 a1 a2) (([] : List YJ),0)).bind fun y4 => some y4
theorem Zij (a0 : XU) (a1 : List Z3) (a2 : Int) : Ref (K.WT a0 a1 a2) (M.WT a0 a1 a2) := by
 unfold K.WT M.WT
 with_reducible repeat' (first | exact Zw | exact ZfL .. | refine Xn ?_ (fun _ => ?_) | refine Yy (fun _ => ?_))
noncomputable def K.Wj (a0 : Int) : Option Bool :=
 some (((decide (65 ≤ a0)) && (decide (a0 ≤ 90))) || ((decide (97 ≤ a0)) && (decide (a0 ≤ 122))))
theorem ZbV (a0 : Int) : Ref (K.Wj a0) (M.Wj a0) := by
 unfold K.Wj M.Wj
 with_reducible repeat' (first | exact Zw)
noncomputable def K.UD (a0 : Int) : Option Bool :=
 some ((decide (48 ≤ a0)) && (decide (a0 ≤ 57)))
theorem Zhh (a0 : Int) : Ref (K.UD a0) (M.UD a0) := by
 unfold K.UD M.UD
 with_reducible repeat' (first | exact Zw)
noncomputable def K.W0 (a0 : ByteArray) (p2 : Int) : Option (Int ⊕ Unit) :=
 bif decide (p2 < (a0.size : Int)) then (gd [decide (0 ≤ p2),decide (p2 < (a0.size : Int))] ((K.Wj (byteAt a0 p2)).bind fun r4 => (gc (!r4) (K.UD (byteAt a0 p2))).bind fun r5 => bif (((((!r4) && (!r5)) && ((byteAt a0 p2) != 45)) && ((byteAt a0 p2) != 95)) && ((byteAt a0 p2) != 47)) && ((byteAt a0 p2) != 46) then none else (some (.inl (wr .i64 (p2 + 1)))))) else (some (.inr ()))
theorem ZfM (a0 : ByteArray) (p2 : Int) : Ref (K.W0 a0 p2) (M.W0 a0 p2) := by
 unfold K.W0 M.W0
 with_reducible repeat' (first | exact Zw | exact YI | exact ZbV .. | exact Zhh .. | refine Xn ?_ (fun _ => ?_) | refine YU ?_ | refine KZ ?_ | refine Xx ?_ ?_)
noncomputable def K.Um (a0 : ByteArray) : Option Bool :=
 (gc (!((decide ((a0.size : Int) < 1)) || (decide ((a0.size : Int) > 15)))) (K.Wj (byteAt a0 0))).bind fun r1 => gd [guardB (!((decide ((a0.size : Int) < 1)) || (decide ((a0.size : Int) > 15)))) (decide (0 ≤ 0)),guardB (!((decide ((a0.size : Int) < 1)) || (decide ((a0.size : Int) > 15)))) (decide (0 < (a0.size : Int)))] (bif ((decide ((a0.size : Int) < 1)) || (decide ((a0.size : Int) > 15))) || (!r1) then none else ((loopN 1000 (K.W0 a0) 1).bind fun y6 => some true))
theorem Zer (a0 : ByteArray) : Ref (K.Um a0) (M.Um a0) := by
 unfold K.Um M.Um
 with_reducible repeat' (first | exact Zw | exact YI | exact ZbV .. | exact ZfM .. | refine Xn ?_ (fun _ => ?_) | refine YU ?_ | refine KZ ?_ | refine Xx ?_ ?_ | refine Yy (fun _ => ?_))
noncomputable def K.YN (a0 : Int) (a1 : Int) (a2 : Int) : Option Bool :=
 some ((decide (a1 ≤ a0)) && (decide (a0 ≤ a2)))
theorem KB (a0 : Int) (a1 : Int) (a2 : Int) : Ref (K.YN a0 a1 a2) (M.YN a0 a1 a2) := by
 unfold K.YN M.YN
 with_reducible repeat' (first | exact Zw)
noncomputable def K.Jm (a0 : ZA) (b0 : ByteArray) : Option Bool :=
 some (strEq a0.XB b0)
theorem Zby (a0 : ZA) (b0 : ByteArray) : Ref (K.Jm a0 b0) (M.Jm a0 b0) := by
 unfold K.Jm M.Jm
 with_reducible repeat' (first | exact Zw)
noncomputable def K.ZJ (a0 : List ZA) (a1c0 : ByteArray) (p1 : Int) : Option (Int ⊕ (Unit ⊕ Int)) :=
 bif decide (p1 < (a0.length : Int)) then ((K.Jm (a0.getD p1.toNat default) a1c0).bind fun r3 => gd [decide (0 ≤ p1),decide (p1 < (a0.length : Int))] (bif r3 then (some (.inr (.inr p1))) else (some (.inl (wr .i64 (p1 + 1)))))) else (some (.inr (.inl ())))
theorem J4 (a0 : List ZA) (a1c0 : ByteArray) (p1 : Int) : Ref (K.ZJ a0 a1c0 p1) (M.ZJ a0 a1c0 p1) := by
 unfold K.ZJ M.ZJ
 with_reducible repeat' (first | exact Zw | exact Zby .. | refine Xn ?_ (fun _ => ?_) | refine YU ?_ | refine Xx ?_ ?_)
noncomputable def K.ZD (a0 : List ZA) (a1c0 : ByteArray) : Option Int :=
 (loopN 1000 (K.ZJ a0 a1c0) 0).bind fun y4 => Sum.elim (fun _ => some (-1)) (fun y6 => some y6) y4
theorem Vv (a0 : List ZA) (a1c0 : ByteArray) : Ref (K.ZD a0 a1c0) (M.ZD a0 a1c0) := by
 unfold K.ZD M.ZD
 with_reducible repeat' (first | exact Zw | exact J4 .. | refine Xn ?_ (fun _ => ?_) | refine G9 (fun _ => ?_) (fun _ => ?_) | refine Yy (fun _ => ?_))
noncomputable def K.Vd (a0 : Zh) (a1 : ByteArray) : Option Int :=
 (K.ZD a0.Zc a1).bind fun r1 => some r1
theorem Zda (a0 : Zh) (a1 : ByteArray) : Ref (K.Vd a0 a1) (M.Vd a0 a1) := by
 unfold K.Vd M.Vd
 with_reducible repeat' (first | exact Zw | exact Vv .. | refine Xn ?_ (fun _ => ?_))
noncomputable def K.Qn (a0 : ZA) : Option Bool :=
 (K.YN a0.ZL 0 32).bind fun r1 => (gc (!(!r1)) (K.YN a0.XH 0 4094)).bind fun r2 => (gc (!((!r1) || (!r2))) (K.YN a0.ZaF 0 2)).bind fun r3 => bif ((!r1) || (!r2)) || (!r3) then none else (bif (a0.ZL == 0) && (((((((a0.Zn != 0) || (a0.XH != 0)) || (a0.ZaF != 0)) || a0.Yw) || a0.YC) || (!strEq a0.Ww (⟨#[]⟩ : ByteArray))) || (!strEq a0.Qr (⟨#[]⟩ : ByteArray))) then none else (bif (a0.ZL != 0) && (a0.Zn == 0) then none else (bif a0.Yw then none else (some ((a0.WI == 0) && (a0.Zc2 == 0))))))
theorem RI (a0 : ZA) : Ref (K.Qn a0) (M.Qn a0) := by
 unfold K.Qn M.Qn
 with_reducible repeat' (first | exact Zw | exact YI | exact KB .. | refine Xn ?_ (fun _ => ?_) | refine KZ ?_ | refine Xx ?_ ?_)
noncomputable def K.YR (p1 : Int) (p6 : Int) : Option (Int ⊕ Unit) :=
 bif decide (p6 < ((p1.toNat - 0 : Nat) : Int)) then none else (some (.inr ()))
theorem KC (p1 : Int) (p6 : Int) : Ref (K.YR p1 p6) (M.YR p1 p6) := by
 unfold K.YR M.YR
 with_reducible repeat' (first | exact Zw | exact YI | refine Xx ?_ ?_)
noncomputable def K.YS (a0 : Zh) (p1 : Int) : Option (Int ⊕ Unit) :=
 bif decide (p1 < (a0.Zc.length : Int)) then (gd [decide (0 ≤ p1),decide (p1 < (a0.Zc.length : Int))] ((K.Um ((a0.Zc.getD p1.toNat default).XB)).bind fun r3 => bif !r3 then none else ((K.Vd a0 ((a0.Zc.getD p1.toNat default).XB)).bind fun r4 => bif decide (r4 < p1) then none else ((K.Qn (a0.Zc.getD p1.toNat default)).bind fun r5 => bif !r5 then none else (gd [decide (0 ≤ p1),decide (p1 ≤ (a0.Zc.length : Int))] ((loopN 1000 (K.YR p1) 0).bind fun y8 => some (.inl (wr .i64 (p1 + 1))))))))) else (some (.inr ()))
theorem KD (a0 : Zh) (p1 : Int) : Ref (K.YS a0 p1) (M.YS a0 p1) := by
 unfold K.YS M.YS
 with_reducible repeat' (first | exact Zw | exact YI | exact Zer .. | exact Zda .. | exact RI .. | exact KC .. | refine Xn ?_ (fun _ => ?_) | refine YU ?_ | refine Xx ?_ ?_ | refine Yy (fun _ => ?_))
noncomputable def K.Y3 (a0 : Zh) : Option Int :=
 bif decide ((a0.Zc.length : Int) > 8) then none else ((loopN 1000 (K.YS a0) 0).bind fun y9 => some 0)
theorem Rh (a0 : Zh) : Ref (K.Y3 a0) (M.Y3 a0) := by
 unfold K.Y3 M.Y3
 with_reducible repeat' (first | exact Zw | exact YI | exact KD .. | refine Xn ?_ (fun _ => ?_) | refine Xx ?_ ?_ | refine Yy (fun _ => ?_))
noncomputable def K.YH (a0 : Zh) (p1 : Int) : Option (Int ⊕ Unit) :=
 bif decide (p1 < (a0.YM.length : Int)) then none else (some (.inr ()))
theorem Kr (a0 : Zh) (p1 : Int) : Ref (K.YH a0 p1) (M.YH a0 p1) := by
 unfold K.YH M.YH
 with_reducible repeat' (first | exact Zw | exact YI | refine Xx ?_ ?_)
noncomputable def K.YO (a0 : Zh) : Option Int :=
 bif decide ((a0.YM.length : Int) > 8) then none else ((loopN 1000 (K.YH a0) 0).bind fun y3 => some 0)
theorem K3 (a0 : Zh) : Ref (K.YO a0) (M.YO a0) := by
 unfold K.YO M.YO
 with_reducible repeat' (first | exact Zw | exact YI | exact Kr .. | refine Xn ?_ (fun _ => ?_) | refine Xx ?_ ?_ | refine Yy (fun _ => ?_))
noncomputable def K.Y7 (a0 : Zh) (p1 : Int) : Option (Int ⊕ Unit) :=
 bif decide (p1 < (a0.XJ.length : Int)) then none else (some (.inr ()))
theorem KL (a0 : Zh) (p1 : Int) : Ref (K.Y7 a0 p1) (M.Y7 a0 p1) := by
 unfold K.Y7 M.Y7
 with_reducible repeat' (first | exact Zw | exact YI | refine Xx ?_ ?_)
noncomputable def K.Qo (a0 : Zh) : Option Int :=
 bif decide ((a0.XJ.length : Int) > 8) then none else ((loopN 1000 (K.Y7 a0) 0).bind fun y3 => some 0)
theorem RJ (a0 : Zh) : Ref (K.Qo a0) (M.Qo a0) := by
 unfold K.Qo M.Qo
 with_reducible repeat' (first | exact Zw | exact YI | exact KL .. | refine Xn ?_ (fun _ => ?_) | refine Xx ?_ ?_ | refine Yy (fun _ => ?_))
noncomputable def K.Jz (a0 : Zh) (p1 : Int) : Option (Int ⊕ Unit) :=
 bif decide (p1 < (a0.YW.length : Int)) then none else (some (.inr ()))
theorem ZaL (a0 : Zh) (p1 : Int) : Ref (K.Jz a0 p1) (M.Jz a0 p1) := by
 unfold K.Jz M.Jz
 with_reducible repeat' (first | exact Zw | exact YI | refine Xx ?_ ?_)
noncomputable def K.Ve (a0 : Zh) : Option Int :=
 bif decide ((a0.YW.length : Int) > 8) then none else ((loopN 1000 (K.Jz a0) 0).bind fun y3 => some 0)
theorem Zdb (a0 : Zh) : Ref (K.Ve a0) (M.Ve a0) := by
 unfold K.Ve M.Ve
 with_reducible repeat' (first | exact Zw | exact YI | exact ZaL .. | refine Xn ?_ (fun _ => ?_) | refine Xx ?_ ?_ | refine Yy (fun _ => ?_))
noncomputable def K.JZ (a0 : Zh) (p1 : Int) : Option (Int ⊕ Unit) :=
 bif decide (p1 < (a0.Xc.length : Int)) then none else (some (.inr ()))
theorem Zbz (a0 : Zh) (p1 : Int) : Ref (K.JZ a0 p1) (M.JZ a0 p1) := by
 unfold K.JZ M.JZ
 with_reducible repeat' (first | exact Zw | exact YI | refine Xx ?_ ?_)
noncomputable def K.VN (a0 : Zh) : Option Int :=
 bif decide ((a0.Xc.length : Int) > 8) then none else ((loopN 1000 (K.JZ a0) 0).bind fun y3 => some 0)
theorem ZdU (a0 : Zh) : Ref (K.VN a0) (M.VN a0) := by
 unfold K.VN M.VN
 with_reducible repeat' (first | exact Zw | exact YI | exact Zbz .. | refine Xn ?_ (fun _ => ?_) | refine Xx ?_ ?_ | refine Yy (fun _ => ?_))
noncomputable def K.Un (_a0 : Zh) (_a1 : ByteArray) : Option Int :=
 none
theorem Zik (_a0 : Zh) (_a1 : ByteArray) : Ref (K.Un _a0 _a1) (M.Un _a0 _a1) := by
 unfold K.Un M.Un
 with_reducible repeat' (first | exact Zw | exact YI)
noncomputable def K.Qu (a0 : Zh) (p1 : Int) : Option (Int ⊕ Unit) :=
 bif decide (p1 < (a0.Zc.length : Int)) then (gd [decide (0 ≤ p1),decide (p1 < (a0.Zc.length : Int))] ((gc (!strEq ((a0.Zc.getD p1.toNat default).Ww) (⟨#[]⟩ : ByteArray)) (K.Un a0 ((a0.Zc.getD p1.toNat default).Ww))).bind fun r3 => (gc ((!((!strEq ((a0.Zc.getD p1.toNat default).Ww) (⟨#[]⟩ : ByteArray)) && (decide (r3 < 0)))) && (!strEq ((a0.Zc.getD p1.toNat default).Qr) (⟨#[]⟩ : ByteArray))) (K.Un a0 ((a0.Zc.getD p1.toNat default).Qr))).bind fun r4 => bif ((!strEq ((a0.Zc.getD p1.toNat default).Ww) (⟨#[]⟩ : ByteArray)) && (decide (r3 < 0))) || ((!strEq ((a0.Zc.getD p1.toNat default).Qr) (⟨#[]⟩ : ByteArray)) && (decide (r4 < 0))) then none else (some (.inl (wr .i64 (p1 + 1)))))) else (some (.inr ()))
theorem Ri (a0 : Zh) (p1 : Int) : Ref (K.Qu a0 p1) (M.Qu a0 p1) := by
 unfold K.Qu M.Qu
 with_reducible repeat' (first | exact Zw | exact YI | exact Zik .. | refine Xn ?_ (fun _ => ?_) | refine YU ?_ | refine KZ ?_ | refine Xx ?_ ?_)
noncomputable def K.QW (a0 : Zh) : Option Int :=
 (loopN 1000 (K.Qu a0) 0).bind fun y5 => some 0
theorem ZaM (a0 : Zh) : Ref (K.QW a0) (M.QW a0) := by
 unfold K.QW M.QW
 with_reducible repeat' (first | exact Zw | exact Ri .. | refine Xn ?_ (fun _ => ?_) | refine Yy (fun _ => ?_))
noncomputable def K.UE (a0 : ZM) : Option Bool :=
 (gc ((decide (a0.ZL ≥ 0)) && (decide (a0.ZL ≤ 32))) (K.JS a0.ZL)).bind fun r1 => some (((decide (a0.ZL ≥ 0)) && (decide (a0.ZL ≤ 32))) && ((bitD .andNot .u32 a0.Zn r1) == 0))
theorem Zhi (a0 : ZM) : Ref (K.UE a0) (M.UE a0) := by
 unfold K.UE M.UE
 with_reducible repeat' (first | exact Zw | exact ZaI .. | refine Xn ?_ (fun _ => ?_) | refine KZ ?_)
noncomputable def K.Vf (a0 : ZA) (b0 : Int) : Option Bool :=
 some ((a0.ZL != 0) && (a0.Zn == b0))
theorem Zdc (a0 : ZA) (b0 : Int) : Ref (K.Vf a0 b0) (M.Vf a0 b0) := by
 unfold K.Vf M.Vf
 with_reducible repeat' (first | exact Zw)
noncomputable def K.ZK (a0 : List ZA) (a1c0 : Int) (p1 : Int) : Option (Int ⊕ (Unit ⊕ Int)) :=
 bif decide (p1 < (a0.length : Int)) then ((K.Vf (a0.getD p1.toNat default) a1c0).bind fun r3 => gd [decide (0 ≤ p1),decide (p1 < (a0.length : Int))] (bif r3 then (some (.inr (.inr p1))) else (some (.inl (wr .i64 (p1 + 1)))))) else (some (.inr (.inl ())))
theorem Vl (a0 : List ZA) (a1c0 : Int) (p1 : Int) : Ref (K.ZK a0 a1c0 p1) (M.ZK a0 a1c0 p1) := by
 unfold K.ZK M.ZK
 with_reducible repeat' (first | exact Zw | exact Zdc .. | refine Xn ?_ (fun _ => ?_) | refine YU ?_ | refine Xx ?_ ?_)
noncomputable def K.ZI (a0 : List ZA) (a1c0 : Int) : Option Int :=
 (loopN 1000 (K.ZK a0 a1c0) 0).bind fun y4 => Sum.elim (fun _ => some (-1)) (fun y6 => some y6) y4
theorem VA (a0 : List ZA) (a1c0 : Int) : Ref (K.ZI a0 a1c0) (M.ZI a0 a1c0) := by
 unfold K.ZI M.ZI
 with_reducible repeat' (first | exact Zw | exact Vl .. | refine Xn ?_ (fun _ => ?_) | refine G9 (fun _ => ?_) (fun _ => ?_) | refine Yy (fun _ => ?_))
noncomputable def K.Wc (a0 : Zh) (a1 : Int) : Option Int :=
 (K.ZI a0.Zc a1).bind fun r1 => some r1
theorem Zex (a0 : Zh) (a1 : Int) : Ref (K.Wc a0 a1) (M.Wc a0 a1) := by
 unfold K.Wc M.Wc
 with_reducible repeat' (first | exact Zw | exact VA .. | refine Xn ?_ (fun _ => ?_))
noncomputable def K.Yx (p1 : Int × Int) (p3 : Int) : Option ((Int × Int) ⊕ Int) :=
 some (.inl (p3,wr .i64 (p1.2 + 1)))
theorem RK (p1 : Int × Int) (p3 : Int) : Ref (K.Yx p1 p3) (M.Yx p1 p3) := by
 unfold K.Yx M.Yx
 with_reducible repeat' (first | exact Zw)
noncomputable def K.QR (a1 : X2) (p1 : Int × Int) : Option ((Int × Int) ⊕ Int) :=
 bif decide (p1.2 < 3) then (gd [decide (0 ≤ p1.2),decide (p1.2 < (([a1.QI != 0,!strEq a1.ZH (⟨#[]⟩ : ByteArray),a1.Z1] : List Bool).length : Int))] (bif ([a1.QI != 0,!strEq a1.ZH (⟨#[]⟩ : ByteArray),a1.Z1] : List Bool).getD p1.2.toNat default then (K.Yx p1 (wr .i64 (p1.1 + 1))) else (K.Yx p1 p1.1))) else (some (.inr p1.1))
theorem RL (a1 : X2) (p1 : Int × Int) : Ref (K.QR a1 p1) (M.QR a1 p1) := by
 unfold K.QR M.QR
 with_reducible repeat' (first | exact Zw | exact RK .. | refine YU ?_ | refine Xx ?_ ?_)
noncomputable def K.Jn (a0 : Zh) (a1 : X2) : Option Bool :=
 (loopN 1000 (K.QR a1) (0,0)).bind fun y4 => (K.UE a1.Zl).bind fun r5 => (gc ((r5 && (y4 == 1)) && !(a1.QI == 0)) (K.Wc a0 a1.QI)).bind fun r6 => (gc ((r5 && (y4 == 1)) && ((a1.QI == 0) || (decide (r6 < 0)))) (K.YN a1.Z2 1 255)).bind fun r7 => (gc (((r5 && (y4 == 1)) && ((a1.QI == 0) || (decide (r6 < 0)))) && r7) (K.YN a1.UA 0 65535)).bind fun r8 => some ((((r5 && (y4 == 1)) && ((a1.QI == 0) || (decide (r6 < 0)))) && r7) && r8)
theorem ZbA (a0 : Zh) (a1 : X2) : Ref (K.Jn a0 a1) (M.Jn a0 a1) := by
 unfold K.Jn M.Jn
 with_reducible repeat' (first | exact Zw | exact KB .. | exact Zhi .. | exact Zex .. | exact RL .. | refine Xn ?_ (fun _ => ?_) | refine KZ ?_ | refine Yy (fun _ => ?_))
noncomputable def K.Qv (p1 : Int) (p5 : Int) : Option (Int ⊕ Unit) :=
 bif decide (p5 < ((p1.toNat - 0 : Nat) : Int)) then none else (some (.inr ()))
theorem Rj (p1 : Int) (p5 : Int) : Ref (K.Qv p1 p5) (M.Qv p1 p5) := by
 unfold K.Qv M.Qv
 with_reducible repeat' (first | exact Zw | exact YI | refine Xx ?_ ?_)
noncomputable def K.Y4 (a0 : Zh) (p1 : Int) (_p4 : Unit) : Option (Int ⊕ Unit) :=
 gd [decide (0 ≤ p1),decide (p1 ≤ (a0.Zp.length : Int))] ((loopN 1000 (K.Qv p1) 0).bind fun y7 => some (.inl (wr .i64 (p1 + 1))))
theorem Rk (a0 : Zh) (p1 : Int) (_p4 : Unit) : Ref (K.Y4 a0 p1 _p4) (M.Y4 a0 p1 _p4) := by
 unfold K.Y4 M.Y4
 with_reducible repeat' (first | exact Zw | exact Rj .. | refine Xn ?_ (fun _ => ?_) | refine YU ?_ | refine Yy (fun _ => ?_))
noncomputable def K.Qw (a0 : Zh) (p1 : Int) : Option (Int ⊕ Unit) :=
 bif decide (p1 < (a0.Zp.length : Int)) then (gd [decide (0 ≤ p1),decide (p1 < (a0.Zp.length : Int))] ((K.Jn a0 (a0.Zp.getD p1.toNat default)).bind fun r3 => bif !r3 then none else (bif !strEq ((a0.Zp.getD p1.toNat default).ZH) (⟨#[]⟩ : ByteArray) then none else (K.Y4 a0 p1 ())))) else (some (.inr ()))
theorem Rl (a0 : Zh) (p1 : Int) : Ref (K.Qw a0 p1) (M.Qw a0 p1) := by
 unfold K.Qw M.Qw
 with_reducible repeat' (first | exact Zw | exact YI | exact ZbA .. | exact Rk .. | refine Xn ?_ (fun _ => ?_) | refine YU ?_ | refine Xx ?_ ?_)
noncomputable def K.QX (a0 : Zh) : Option Int :=
 bif decide ((a0.Zp.length : Int) > 16) then none else ((loopN 1000 (K.Qw a0) 0).bind fun y8 => some 0)
theorem ZaN (a0 : Zh) : Ref (K.QX a0) (M.QX a0) := by
 unfold K.QX M.QX
 with_reducible repeat' (first | exact Zw | exact YI | exact Rl .. | refine Xn ?_ (fun _ => ?_) | refine Xx ?_ ?_ | refine Yy (fun _ => ?_))
noncomputable def K.Qp (a0 : Zh) : Option Int :=
 bif !a0.Yw.We then (bif ((a0.Yw.Z2 != 0) || (decide ((a0.Yw.Z4.length : Int) > 0))) || (decide ((a0.Yw.Zu.length : Int) > 0)) then none else (some 0)) else none
theorem RM (a0 : Zh) : Ref (K.Qp a0) (M.Qp a0) := by
 unfold K.Qp M.Qp
 with_reducible repeat' (first | exact Zw | exact YI | refine Xx ?_ ?_)
noncomputable def K.Yk (a0 : Zh) : Option Int :=
 bif !a0.YC.We then (bif (((a0.YC.Z2 != 0) || (!strEq a0.YC.Ww (⟨#[]⟩ : ByteArray))) || (!strEq a0.YC.Qr (⟨#[]⟩ : ByteArray))) || (decide ((a0.YC.Zu.length : Int) > 0)) then none else (some 0)) else none
theorem Ks (a0 : Zh) : Ref (K.Yk a0) (M.Yk a0) := by
 unfold K.Yk M.Yk
 with_reducible repeat' (first | exact Zw | exact YI | refine Xx ?_ ?_)
noncomputable def K.Y5 (a0 : Zh) : Option Int :=
 bif !a0.Xv.We then (bif ((((((a0.Xv.XZ != 0) || (a0.Xv.X0 != 0)) || (decide ((a0.Xv.Zo.length : Int) > 0))) || (decide ((a0.Xv.ZT.length : Int) > 0))) || (decide ((a0.Xv.ZC.length : Int) > 0))) || (decide ((a0.Xv.Zv.length : Int) > 0))) || (decide ((a0.Xv.Zu.length : Int) > 0)) then none else (some 0)) else none
theorem Rm (a0 : Zh) : Ref (K.Y5 a0) (M.Y5 a0) := by
 unfold K.Y5 M.Y5
 with_reducible repeat' (first | exact Zw | exact YI | refine Xx ?_ ?_)
noncomputable def K.Jo (a0 : Zh) : Option Int :=
 (K.Um a0.XB).bind fun r1 => bif !r1 then none else ((K.YN a0.Kq 0 65535).bind fun r2 => bif !r2 then none else (gd [decide (0 ≤ 0),decide (0 < (10 : Int))] ((K.Y3 a0).bind fun r3 => bif r3 != 0 then none else (gd [decide (0 ≤ 1),decide (1 < (10 : Int))] ((K.YO a0).bind fun r4 => bif r4 != 0 then none else (gd [decide (0 ≤ 2),decide (2 < (10 : Int))] ((K.Qo a0).bind fun r5 => bif r5 != 0 then none else (gd [decide (0 ≤ 3),decide (3 < (10 : Int))] ((K.Ve a0).bind fun r6 => bif r6 != 0 then none else (gd [decide (0 ≤ 4),decide (4 < (10 : Int))] ((K.VN a0).bind fun r7 => bif r7 != 0 then none else (gd [decide (0 ≤ 5),decide (5 < (10 : Int))] ((K.QW a0).bind fun r8 => bif r8 != 0 then none else (gd [decide (0 ≤ 6),decide (6 < (10 : Int))] ((K.QX a0).bind fun r9 => bif r9 != 0 then none else (gd [decide (0 ≤ 7),decide (7 < (10 : Int))] ((K.Qp a0).bind fun r10 => bif r10 != 0 then none else (gd [decide (0 ≤ 8),decide (8 < (10 : Int))] ((K.Yk a0).bind fun r11 => bif r11 != 0 then none else (gd [decide (0 ≤ 9),decide (9 < (10 : Int))] ((K.Y5 a0).bind fun r12 => bif r12 != 0 then none else (some 0))))))))))))))))))))))
theorem ZbB (a0 : Zh) : Ref (K.Jo a0) (M.Jo a0) := by
 unfold K.Jo M.Jo
 with_reducible repeat' (first | exact Zw | exact YI | exact Zer .. | exact KB .. | exact Rh .. | exact K3 .. | exact RJ .. | exact Zdb .. | exact ZdU .. | exact ZaM .. | exact ZaN .. | exact RM .. | exact Ks .. | exact Rm .. | refine Xn ?_ (fun _ => ?_) | refine YU ?_ | refine Xx ?_ ?_)
noncomputable def K.Wk (p1 : Int) (p4 : Int) : Option (Int ⊕ Unit) :=
 bif decide (p4 < ((p1.toNat - 0 : Nat) : Int)) then none else (some (.inr ()))
theorem ZdV (p1 : Int) (p4 : Int) : Ref (K.Wk p1 p4) (M.Wk p1 p4) := by
 unfold K.Wk M.Wk
 with_reducible repeat' (first | exact Zw | exact YI | refine Xx ?_ ?_)
noncomputable def K.Wl (a0 : ZG) (p1 : Int) : Option (Int ⊕ Unit) :=
 bif decide (p1 < (a0.Ze.length : Int)) then (gd [decide (0 ≤ p1),decide (p1 < (a0.Ze.length : Int))] ((K.Jo (a0.Ze.getD p1.toNat default)).bind fun r3 => bif r3 != 0 then none else (gd [decide (0 ≤ p1),decide (p1 ≤ (a0.Ze.length : Int))] ((loopN 1000 (K.Wk p1) 0).bind fun y6 => some (.inl (wr .i64 (p1 + 1))))))) else (some (.inr ()))
theorem ZdW (a0 : ZG) (p1 : Int) : Ref (K.Wl a0 p1) (M.Wl a0 p1) := by
 unfold K.Wl M.Wl
 with_reducible repeat' (first | exact Zw | exact YI | exact ZbB .. | exact ZdV .. | refine Xn ?_ (fun _ => ?_) | refine YU ?_ | refine Xx ?_ ?_ | refine Yy (fun _ => ?_))
noncomputable def K.W1 (a0 : ZG) : Option Int :=
 bif decide ((a0.Ze.length : Int) > 8) then none else ((loopN 1000 (K.Wl a0) 0).bind fun y7 => some 0)
theorem Zge (a0 : ZG) : Ref (K.W1 a0) (M.W1 a0) := by
 unfold K.W1 M.W1
 with_reducible repeat' (first | exact Zw | exact YI | exact ZdW .. | refine Xn ?_ (fun _ => ?_) | refine Xx ?_ ?_ | refine Yy (fun _ => ?_))
noncomputable def K.Wy (a0 : Int) (a1 : Int) : Option ZM :=
 (K.JS a1).bind fun r1 => (K.Jw a1).bind fun r2 => some (⟨bitD .and .u32 a0 r1,r2⟩ : ZM)
theorem ZfN (a0 : Int) (a1 : Int) : Ref (K.Wy a0 a1) (M.Wy a0 a1) := by
 unfold K.Wy M.Wy
 with_reducible repeat' (first | exact Zw | exact Zc7 .. | exact ZaI .. | refine Xn ?_ (fun _ => ?_))
noncomputable def K.JA (i : Int) (p : (List Zi) × (List (Z9 × Int)) × Int) (q : (List Zi) × (List (Z9 × Int)) × Int) : Option (((List Zi) × (List (Z9 × Int)) × Int) ⊕ ((List Zi) × (List (Z9 × Int)))) :=
 gd [decide (0 ≤ q.2.2),decide (q.2.2 < (q.1.length : Int)),decide (((q.1.getD (0 + q.2.2.toNat) default).ZR.length + 1) * 16 ≤ 140737488355328)] (some (.inl (q.1.set (0 + q.2.2.toNat) ⟨(q.1.getD (0 + q.2.2.toNat) default).Zl,(q.1.getD (0 + q.2.2.toNat) default).XH,(q.1.getD (0 + q.2.2.toNat) default).ZR ++ [⟨i,p.2.2⟩]⟩,q.2.1,wr .i64 (p.2.2 + 1))))
theorem ZdX (i : Int) (p : (List Zi) × (List (Z9 × Int)) × Int) (q : (List Zi) × (List (Z9 × Int)) × Int) : Ref (K.JA i p q) (M.JA i p q) := by
 unfold K.JA M.JA
 with_reducible repeat' (first | exact Zw | refine YU ?_)
noncomputable def K.Vg (a0 : ZG) (i : Int) (p : (List Zi) × (List (Z9 × Int)) × Int) : Option (((List Zi) × (List (Z9 × Int)) × Int) ⊕ ((List Zi) × (List (Z9 × Int)))) :=
 bif decide (p.2.2 < (((a0.Ze.getD i.toNat default).Zc).length : Int)) then (gd [decide (0 ≤ p.2.2),decide (p.2.2 < (((a0.Ze.getD i.toNat default).Zc).length : Int))] (bif (((a0.Ze.getD i.toNat default).Zc.getD p.2.2.toNat default).ZL == 0) || ((a0.Ze.getD i.toNat default).Zc.getD p.2.2.toNat default).Jp then (some (.inl (p.1,p.2.1,wr .i64 (p.2.2 + 1)))) else ((K.Wy ((a0.Ze.getD i.toNat default).Zc.getD p.2.2.toNat default).Zn ((a0.Ze.getD i.toNat default).Zc.getD p.2.2.toNat default).ZL).bind fun r => bif !(lkM (topoKeyEq ⟨r,((a0.Ze.getD i.toNat default).Zc.getD p.2.2.toNat default).XH⟩) p.2.1).2 then (gd [decide ((p.1.length + 1) * 48 ≤ 140737488355328)] (K.JA i p (p.1 ++ [⟨r,((a0.Ze.getD i.toNat default).Zc.getD p.2.2.toNat default).XH,[]⟩],p.2.1 ++ [(⟨r,((a0.Ze.getD i.toNat default).Zc.getD p.2.2.toNat default).XH⟩,(p.1.length : Int))],(p.1.length : Int)))) else (K.JA i p (p.1,p.2.1,(lkM (topoKeyEq ⟨r,((a0.Ze.getD i.toNat default).Zc.getD p.2.2.toNat default).XH⟩) p.2.1).1))))) else (some (.inr (p.1,p.2.1)))
theorem Zdd (a0 : ZG) (i : Int) (p : (List Zi) × (List (Z9 × Int)) × Int) : Ref (K.Vg a0 i p) (M.Vg a0 i p) := by
 unfold K.Vg M.Vg
 with_reducible repeat' (first | exact Zw | exact ZfN .. | exact ZdX .. | refine Xn ?_ (fun _ => ?_) | refine YU ?_ | refine Xx ?_ ?_)
noncomputable def K.Vh (a0 : ZG) (p : (List Zi) × (List (Z9 × Int)) × Int) : Option (((List Zi) × (List (Z9 × Int)) × Int) ⊕ (List Zi)) :=
 bif decide (p.2.2 < (a0.Ze.length : Int)) then (gd [decide (0 ≤ p.2.2),decide (p.2.2 < (a0.Ze.length : Int))] ((loopN 1000 (K.Vg a0 p.2.2) (p.1,p.2.1,0)).bind fun y => some (.inl (y.1,y.2,wr .i64 (p.2.2 + 1))))) else (some (.inr p.1))
theorem Zde (a0 : ZG) (p : (List Zi) × (List (Z9 × Int)) × Int) : Ref (K.Vh a0 p) (M.Vh a0 p) := by
 unfold K.Vh M.Vh
 with_reducible repeat' (first | exact Zw | exact Zdd .. | refine Xn ?_ (fun _ => ?_) | refine YU ?_ | refine Xx ?_ ?_ | refine Yy (fun _ => ?_))
noncomputable def K.Wz (a0 : ZG) : Option (List Zi) :=
 (loopN 1000 (K.Vh a0) ([],[],0)).bind fun y => some y
theorem ZfO (a0 : ZG) : Ref (K.Wz a0) (M.Wz a0) := by
 unfold K.Wz M.Wz
 with_reducible repeat' (first | exact Zw | exact Zde .. | refine Xn ?_ (fun _ => ?_) | refine Yy (fun _ => ?_))
noncomputable def K.VO (a0 : ZM) (a1 : ZM) : Option Int :=
 (K.Ym a0.Zn a1.Zn).bind fun r1 => bif r1 != 0 then (some r1) else ((K.YF a0.ZL a1.ZL).bind fun r2 => some r2)
theorem ZfP (a0 : ZM) (a1 : ZM) : Ref (K.VO a0 a1) (M.VO a0 a1) := by
 unfold K.VO M.VO
 with_reducible repeat' (first | exact Zw | exact GL .. | exact Kc .. | refine Xn ?_ (fun _ => ?_) | refine Xx ?_ ?_)
noncomputable def K.Vi (a0 : Zi) (a1 : Zi) : Option Int :=
 (K.VO a0.Zl a1.Zl).bind fun r1 => (K.YF a0.XH a1.XH).bind fun r2 => (K.V4 ([r1,r2] : List Int)).bind fun r3 => some r3
theorem ZfQ (a0 : Zi) (a1 : Zi) : Ref (K.Vi a0 a1) (M.Vi a0 a1) := by
 unfold K.Vi M.Vi
 with_reducible repeat' (first | exact Zw | exact GL .. | exact Zc9 .. | exact ZfP .. | refine Xn ?_ (fun _ => ?_))
noncomputable def K.XG (a0 : List Zi) : Option (List Zi) :=
 sortK K.Vi a0
theorem Ws (a0 : List Zi) : Ref (K.XG a0) (M.XG a0) := Zj5 ZfQ so_topo_Build_1
noncomputable def K.Wd (p4 : Int) (_p6 : Unit) : Option (Int ⊕ Unit) :=
 some (.inl (wr .i64 (p4 + 1)))
theorem Zey (p4 : Int) (_p6 : Unit) : Ref (K.Wd p4 _p6) (M.Wd p4 _p6) := by
 unfold K.Wd M.Wd
 with_reducible repeat' (first | exact Zw)
noncomputable def K.WC (r3 : (List Zi)) (p4 : Int) : Option (Int ⊕ Unit) :=
 bif decide (p4 < (r3.length : Int)) then (gd [decide (0 ≤ p4),decide (p4 < (r3.length : Int))] (bif decide ((((r3.getD p4.toNat default).ZR).length : Int) ≥ 2) then none else (K.Wd p4 ()))) else (some (.inr ()))
theorem Zez (r3 : (List Zi)) (p4 : Int) : Ref (K.WC r3 p4) (M.WC r3 p4) := by
 unfold K.WC M.WC
 with_reducible repeat' (first | exact Zw | exact YI | exact Zey .. | refine YU ?_ | refine Xx ?_ ?_)
noncomputable def K.UF (a0 : ZG) : Option (JO × Int) :=
 (K.W1 a0).bind fun r1 => bif r1 != 0 then none else ((K.Wz a0).bind fun r2 => (K.XG r2).bind fun r3 => gd [decide (r3.length = r2.length)] ((loopN 1000 (K.WC r3) 0).bind fun y7 => some ((⟨r3,([] : List Int)⟩ : JO),0)))
theorem Zhj (a0 : ZG) : Ref (K.UF a0) (M.UF a0) := by
 unfold K.UF M.UF
 with_reducible repeat' (first | exact Zw | exact YI | exact Zge .. | exact ZfO .. | exact Ws .. | exact Zez .. | refine Xn ?_ (fun _ => ?_) | refine YU ?_ | refine Xx ?_ ?_ | refine Yy (fun _ => ?_))
noncomputable def K.XS (a0 : List Zh) : Option (List Zh) :=
 gd [decide (0 = 0) || decide (0 < a0.length),decide ((0 + a0.length) * 448 ≤ 140737488355328)] (some a0)
theorem Gc (a0 : List Zh) : Ref (K.XS a0) (M.XS a0) := by
 unfold K.XS M.XS
 with_reducible repeat' (first | exact Zw | refine YU ?_)
noncomputable def K.Xq (a0 : List ZA) : Option (List ZA) :=
 gd [decide (0 = 0) || decide (0 < a0.length),decide ((0 + a0.length) * 112 ≤ 140737488355328)] (some a0)
theorem UH (a0 : List ZA) : Ref (K.Xq a0) (M.Xq a0) := by
 unfold K.Xq M.Xq
 with_reducible repeat' (first | exact Zw | refine YU ?_)
noncomputable def K.Xj (a0 : List ZW) : Option (List ZW) :=
 gd [decide (0 = 0) || decide (0 < a0.length),decide ((0 + a0.length) * 40 ≤ 140737488355328)] (some a0)
theorem Ur (a0 : List ZW) : Ref (K.Xj a0) (M.Xj a0) := by
 unfold K.Xj M.Xj
 with_reducible repeat' (first | exact Zw | refine YU ?_)
noncomputable def K.Xz (a0 : List Yl) : Option (List Yl) :=
 gd [decide (0 = 0) || decide (0 < a0.length),decide ((0 + a0.length) * 40 ≤ 140737488355328)] (some a0)
theorem UT (a0 : List Yl) : Ref (K.Xz a0) (M.Xz a0) := by
 unfold K.Xz M.Xz
 with_reducible repeat' (first | exact Zw | refine YU ?_)
noncomputable def K.X8 (a0 : List US) : Option (List US) :=
 gd [decide (0 = 0) || decide (0 < a0.length),decide ((0 + a0.length) * 40 ≤ 140737488355328)] (some a0)
theorem G0 (a0 : List US) : Ref (K.X8 a0) (M.X8 a0) := by
 unfold K.X8 M.X8
 with_reducible repeat' (first | exact Zw | refine YU ?_)
noncomputable def K.Xd (a0 : List Qx) : Option (List Qx) :=
 gd [decide (0 = 0) || decide (0 < a0.length),decide ((0 + a0.length) * 64 ≤ 140737488355328)] (some a0)
theorem W7 (a0 : List Qx) : Ref (K.Xd a0) (M.Xd a0) := by
 unfold K.Xd M.Xd
 with_reducible repeat' (first | exact Zw | refine YU ?_)
noncomputable def K.Xe (a0 : List X2) : Option (List X2) :=
 gd [decide (0 = 0) || decide (0 < a0.length),decide ((0 + a0.length) * 64 ≤ 140737488355328)] (some a0)
theorem W8 (a0 : List X2) : Ref (K.Xe a0) (M.Xe a0) := by
 unfold K.Xe M.Xe
 with_reducible repeat' (first | exact Zw | refine YU ?_)
noncomputable def K.Xr (a0 : List VY) : Option (List VY) :=
 gd [decide (0 = 0) || decide (0 < a0.length),decide ((0 + a0.length) * 24 ≤ 140737488355328)] (some a0)
theorem UI (a0 : List VY) : Ref (K.Xr a0) (M.Xr a0) := by
 unfold K.Xr M.Xr
 with_reducible repeat' (first | exact Zw | refine YU ?_)
noncomputable def K.Z6 (a0 : List Qt) : Option (List Qt) :=
 gd [decide (0 = 0) || decide (0 < a0.length),decide ((0 + a0.length) * 48 ≤ 140737488355328)] (some a0)
theorem Gd (a0 : List Qt) : Ref (K.Z6 a0) (M.Z6 a0) := by
 unfold K.Z6 M.Z6
 with_reducible repeat' (first | exact Zw | refine YU ?_)
noncomputable def K.XA (a0 : List Vq) : Option (List Vq) :=
 gd [decide (0 = 0) || decide (0 < a0.length),decide ((0 + a0.length) * 48 ≤ 140737488355328)] (some a0)
theorem UU (a0 : List Vq) : Ref (K.XA a0) (M.XA a0) := by
 unfold K.XA M.XA
 with_reducible repeat' (first | exact Zw | refine YU ?_)
noncomputable def K.XT (a0 : List ZM) : Option (List ZM) :=
 gd [decide (0 = 0) || decide (0 < a0.length),decide ((0 + a0.length) * 16 ≤ 140737488355328)] (some a0)
theorem Ge (a0 : List ZM) : Ref (K.XT a0) (M.XT a0) := by
 unfold K.XT M.XT
 with_reducible repeat' (first | exact Zw | refine YU ?_)
noncomputable def K.Xs (a0 : List VZ) : Option (List VZ) :=
 gd [decide (0 = 0) || decide (0 < a0.length),decide ((0 + a0.length) * 24 ≤ 140737488355328)] (some a0)
theorem UJ (a0 : List VZ) : Ref (K.Xs a0) (M.Xs a0) := by
 unfold K.Xs M.Xs
 with_reducible repeat' (first | exact Zw | refine YU ?_)
noncomputable def K.Xt (a0 : List V0) : Option (List V0) :=
 gd [decide (0 = 0) || decide (0 < a0.length),decide ((0 + a0.length) * 40 ≤ 140737488355328)] (some a0)
theorem UK (a0 : List V0) : Ref (K.Xt a0) (M.Xt a0) := by
 unfold K.Xt M.Xt
 with_reducible repeat' (first | exact Zw | refine YU ?_)
noncomputable def K.JB (r2 : (List ZW)) (p3 : Int) : Option (Int ⊕ Unit) :=
 bif decide (p3 < (r2.length : Int)) then none else (some (.inr ()))
theorem ZaO (r2 : (List ZW)) (p3 : Int) : Ref (K.JB r2 p3) (M.JB r2 p3) := by
 unfold K.JB M.JB
 with_reducible repeat' (first | exact Zw | exact YI | refine Xx ?_ ?_)
noncomputable def K.JC (r6 : (List Yl)) (p7 : Int) : Option (Int ⊕ Unit) :=
 bif decide (p7 < (r6.length : Int)) then none else (some (.inr ()))
theorem ZaP (r6 : (List Yl)) (p7 : Int) : Ref (K.JC r6 p7) (M.JC r6 p7) := by
 unfold K.JC M.JC
 with_reducible repeat' (first | exact Zw | exact YI | refine Xx ?_ ?_)
noncomputable def K.JD (r10 : (List US)) (p11 : Int) : Option (Int ⊕ Unit) :=
 bif decide (p11 < (r10.length : Int)) then none else (some (.inr ()))
theorem ZaQ (r10 : (List US)) (p11 : Int) : Ref (K.JD r10 p11) (M.JD r10 p11) := by
 unfold K.JD M.JD
 with_reducible repeat' (first | exact Zw | exact YI | refine Xx ?_ ?_)
noncomputable def K.Vj (a0 : Zh) : Option Zh :=
 (K.Xq a0.Zc).bind fun r1 => (K.Xj a0.YM).bind fun r2 => (loopN 1000 (K.JB r2) 0).bind fun y5 => (K.Xz a0.XJ).bind fun r6 => (loopN 1000 (K.JC r6) 0).bind fun y9 => (K.X8 a0.YW).bind fun r10 => (loopN 1000 (K.JD r10) 0).bind fun y13 => (K.Xd a0.Xc).bind fun r14 => (K.Xe a0.Zp).bind fun r15 => (K.Xr a0.Yw.Z4).bind fun r16 => (K.Z6 a0.Yw.Zu).bind fun r17 => (K.Z6 a0.YC.Zu).bind fun r18 => (K.XA a0.Xv.Zo).bind fun r19 => (K.XT a0.Xv.ZT).bind fun r20 => (K.Xs a0.Xv.ZC).bind fun r21 => (K.Xt a0.Xv.Zv).bind fun r22 => (K.Z6 a0.Xv.Zu).bind fun r23 => some (⟨a0.XB,a0.Kq,r1,r2,r6,r10,r14,r15,(⟨a0.Yw.We,a0.Yw.Z2,r16,r17⟩ : Wo),(⟨a0.YC.We,a0.YC.Z2,a0.YC.Ww,a0.YC.Qr,r18⟩ : Y9),(⟨a0.Xv.We,a0.Xv.XZ,a0.Xv.X0,r19,r20,r21,r22,r23⟩ : XI)⟩ : Zh)
theorem Zdf (a0 : Zh) : Ref (K.Vj a0) (M.Vj a0) := by
 unfold K.Vj M.Vj
 with_reducible repeat' (first | exact Zw | exact UH .. | exact Ur .. | exact UT .. | exact G0 .. | exact W7 .. | exact W8 .. | exact UI .. | exact Gd .. | exact UU .. | exact Ge .. | exact UJ .. | exact UK .. | exact ZaO .. | exact ZaP .. | exact ZaQ .. | refine Xn ?_ (fun _ => ?_) | refine Yy (fun _ => ?_))
noncomputable def K.Jb (r1 : (List Zh)) (p2 : (List Zh) × Int) : Option (((List Zh) × Int) ⊕ (List Zh)) :=
 bif decide (p2.2 < (r1.length : Int)) then ((K.Vj (p2.1.getD (0 + p2.2.toNat) default)).bind fun r4 => gd [decide (0 ≤ p2.2),decide (p2.2 < (p2.1.length : Int)),decide (0 ≤ p2.2),decide (p2.2 < (p2.1.length : Int))] (some (.inl (p2.1.set (0 + p2.2.toNat) r4,wr .i64 (p2.2 + 1))))) else (some (.inr p2.1))
theorem Zac (r1 : (List Zh)) (p2 : (List Zh) × Int) : Ref (K.Jb r1 p2) (M.Jb r1 p2) := by
 unfold K.Jb M.Jb
 with_reducible repeat' (first | exact Zw | exact Zdf .. | refine Xn ?_ (fun _ => ?_) | refine YU ?_ | refine Xx ?_ ?_)
noncomputable def K.JU (a0 : ZG) : Option ZG :=
 (K.XS a0.Ze).bind fun r1 => (loopN 1000 (K.Jb r1) (r1,0)).bind fun y5 => some (⟨y5⟩ : ZG)
theorem Zck (a0 : ZG) : Ref (K.JU a0) (M.JU a0) := by
 unfold K.JU M.JU
 with_reducible repeat' (first | exact Zw | exact Gc .. | exact Zac .. | refine Xn ?_ (fun _ => ?_) | refine Yy (fun _ => ?_))
noncomputable def K.Qq (a0 : List Int) : Option (List Int) :=
 gd [decide (0 = 0) || decide (0 < a0.length),decide ((0 + a0.length) * 8 ≤ 140737488355328)] (some a0)
theorem RN (a0 : List Int) : Ref (K.Qq a0) (M.Qq a0) := by
 unfold K.Qq M.Qq
 with_reducible repeat' (first | exact Zw | refine YU ?_)
noncomputable def K.W2 (a1 : List Int) (p2 : Int) : Option (Int ⊕ Unit) :=
 bif decide (p2 < (a1.length : Int)) then none else (some (.inr ()))
theorem ZfR (a1 : List Int) (p2 : Int) : Ref (K.W2 a1 p2) (M.W2 a1 p2) := by
 unfold K.W2 M.W2
 with_reducible repeat' (first | exact Zw | exact YI | refine Xx ?_ ?_)
noncomputable def K.U6 (a0 : ZG) (a1 : List Int) : Option (XU × Int) :=
 (K.UF a0).bind fun r1 => bif r1.2 != 0 then none else (bif decide ((a1.length : Int) > 2) then none else ((loopN 1000 (K.W2 a1) 0).bind fun y4 => (K.JU a0).bind fun r5 => (K.Qq a1).bind fun r6 => some ((⟨r5,r1.1,r6⟩ : XU),0)))
theorem Zil (a0 : ZG) (a1 : List Int) : Ref (K.U6 a0 a1) (M.U6 a0 a1) := by
 unfold K.U6 M.U6
 with_reducible repeat' (first | exact Zw | exact YI | exact Zhj .. | exact Zck .. | exact RN .. | exact ZfR .. | refine Xn ?_ (fun _ => ?_) | refine Xx ?_ ?_ | refine Yy (fun _ => ?_))
noncomputable def K.J3 (p1 : Int × Int) (p3 : Int) : Option ((Int × Int) ⊕ Int) :=
 some (.inl (p3,wr .i64 (p1.2 + 1)))
theorem ZeA (p1 : Int × Int) (p3 : Int) : Ref (K.J3 p1 p3) (M.J3 p1 p3) := by
 unfold K.J3 M.J3
 with_reducible repeat' (first | exact Zw)
noncomputable def K.WD (a0 : List YJ) (a1 : Int) (p1 : Int × Int) : Option ((Int × Int) ⊕ Int) :=
 bif decide (p1.2 < (a0.length : Int)) then (gd [decide (0 ≤ p1.2),decide (p1.2 < (a0.length : Int))] ((K.YQ ((a0.getD p1.2.toNat default).Zl) a1).bind fun r4 => gd [guardB (r4 && !(decide (p1.1 < 0))) (decide (0 ≤ p1.1)),guardB (r4 && !(decide (p1.1 < 0))) (decide (p1.1 < (a0.length : Int)))] (bif r4 && ((decide (p1.1 < 0)) || (decide ((((a0.getD p1.2.toNat default).Zl).ZL) > (((a0.getD p1.1.toNat default).Zl).ZL)))) then (K.J3 p1 p1.2) else (K.J3 p1 p1.1)))) else (some (.inr p1.1))
theorem ZeB (a0 : List YJ) (a1 : Int) (p1 : Int × Int) : Ref (K.WD a0 a1 p1) (M.WD a0 a1 p1) := by
 unfold K.WD M.WD
 with_reducible repeat' (first | exact Zw | exact R6 .. | exact ZeA .. | refine Xn ?_ (fun _ => ?_) | refine YU ?_ | refine Xx ?_ ?_)
noncomputable def K.WP (a0 : List YJ) (a1 : Int) : Option Int :=
 (loopN 1000 (K.WD a0 a1) ((-1),0)).bind fun y5 => some y5
theorem Zhk (a0 : List YJ) (a1 : Int) : Ref (K.WP a0 a1) (M.WP a0 a1) := by
 unfold K.WP M.WP
 with_reducible repeat' (first | exact Zw | exact ZeB .. | refine Xn ?_ (fun _ => ?_) | refine Yy (fun _ => ?_))
noncomputable def K.UG  : Option Bool :=
 (K.U6 (⟨([(⟨(⟨#[97]⟩ : ByteArray),0,([(⟨(⟨#[101,48]⟩ : ByteArray),167772161,24,0,false,false,0,0,false,(⟨#[]⟩ : ByteArray),(⟨#[]⟩ : ByteArray),0⟩ : ZA)] : List ZA),([] : List ZW),([] : List Yl),([] : List US),([] : List Qx),([(⟨(⟨0,0⟩ : ZM),167772169,(⟨#[]⟩ : ByteArray),false,1,0⟩ : X2)] : List X2),(⟨false,0,([] : List VY),([] : List Qt)⟩ : Wo),(⟨false,0,(⟨#[]⟩ : ByteArray),(⟨#[]⟩ : ByteArray),([] : List Qt)⟩ : Y9),(⟨false,0,0,([] : List Vq),([] : List ZM),([] : List VZ),([] : List V0),([] : List Qt)⟩ : XI)⟩ : Zh)] : List Zh)⟩ : ZG) ([] : List Int)).bind fun r1 => bif r1.2 != 0 then (some false) else ((K.WT r1.1 ([(⟨(⟨0,0⟩ : ZM),2,0,1,0,0,0,0,([] : List Int),0,167772169,([] : List ZY),false⟩ : Z3),(⟨(⟨167772160,24⟩ : ZM),1,0,0,0,0,0,0,([] : List Int),0,0,([(⟨0,0⟩ : ZY)] : List ZY),false⟩ : Z3)] : List Z3) 0).bind fun r2 => (gc ((((r2.length : Int) == 2) && ((((r2.getD (0 : Int).toNat default).ZU).length : Int) == 1)) && ((((((r2.getD (0 : Int).toNat default).ZU).getD (0 : Int).toNat default).ZH) == 0) && ((((((r2.getD (0 : Int).toNat default).ZU).getD (0 : Int).toNat default).Zn) == 167772169) && true))) (K.WP r2 5)).bind fun r3 => (gc (((((r2.length : Int) == 2) && ((((r2.getD (0 : Int).toNat default).ZU).length : Int) == 1)) && ((((((r2.getD (0 : Int).toNat default).ZU).getD (0 : Int).toNat default).ZH) == 0) && ((((((r2.getD (0 : Int).toNat default).ZU).getD (0 : Int).toNat default).Zn) == 167772169) && true))) && (r3 == 0)) (K.WP r2 167772165)).bind fun r4 => gd [guardB ((r2.length : Int) == 2) (decide (0 ≤ 0)),guardB ((r2.length : Int) == 2) (decide (0 < (r2.length : Int))),guardB (((r2.length : Int) == 2) && ((((r2.getD (0 : Int).toNat default).ZU).length : Int) == 1)) (decide (0 ≤ 0)),guardB (((r2.length : Int) == 2) && ((((r2.getD (0 : Int).toNat default).ZU).length : Int) == 1)) (decide (0 < (r2.length : Int))),guardB (((r2.length : Int) == 2) && ((((r2.getD (0 : Int).toNat default).ZU).length : Int) == 1)) (decide (0 ≤ 0)),guardB (((r2.length : Int) == 2) && ((((r2.getD (0 : Int).toNat default).ZU).length : Int) == 1)) (decide (0 < (((r2.getD (0 : Int).toNat default).ZU).length : Int)))] (some ((((((r2.length : Int) == 2) && ((((r2.getD (0 : Int).toNat default).ZU).length : Int) == 1)) && ((((((r2.getD (0 : Int).toNat default).ZU).getD (0 : Int).toNat default).ZH) == 0) && ((((((r2.getD (0 : Int).toNat default).ZU).getD (0 : Int).toNat default).Zn) == 167772169) && true))) && (r3 == 0)) && (r4 == 1))))
theorem Zhl  : Ref (K.UG) (M.UG) := by
 unfold K.UG M.UG
 with_reducible repeat' (first | exact Zw | exact Zij .. | exact Zil .. | exact Zhk .. | refine Xn ?_ (fun _ => ?_) | refine YU ?_ | refine KZ ?_ | refine Xx ?_ ?_)
theorem Zkb : M.UG = some true := Zhl _ (by kernel_rfl)
end Nv
