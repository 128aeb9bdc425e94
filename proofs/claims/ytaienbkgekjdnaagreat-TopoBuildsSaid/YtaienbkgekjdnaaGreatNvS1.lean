/- The fixed example: reckoned. -/
import Derived.Test.YtaienbkgekjdnaaGreatNvD1
import Derived.Test.YtaienbkgekjdnaaGreatNvLibB
import Derived.Test.YtaienbkgekjdnaaGreatNvTs
import Derived.Test.YtaienbkgekjdnaaGreatNvTe
import Derived.KernelRfl
set_option maxRecDepth 100000
namespace Nv
open Go
noncomputable def K.JC (a0 : Int) : Option Int :=
  some (if (if 32 < a0 then 32 else a0) > 0 then (if 32 < a0 then 32 else a0) else 0)
theorem Zdp (a0 : Int) : Ref (K.JC a0) (M.JC a0) := by
  unfold K.JC M.JC
  with_reducible repeat' (first | exact XS)
noncomputable def K.JU (a0 : Int) : Option Int :=
  (K.JC a0).bind fun r1 => gd [decide (0 ≤ (wr .i64 (32 - r1)))] (some (wr .u32 (4294967295 * 2 ^ min (wr .i64 (32 - r1)).toNat 32)))
theorem Zh2 (a0 : Int) : Ref (K.JU a0) (M.JU a0) := by
  unfold K.JU M.JU
  with_reducible repeat' (first | exact XS | exact Zdp .. | refine JR ?_ (fun _ => ?_) | refine Wq ?_)
noncomputable def K.YT (a0 : Int) (a1 : Int) : Option ZL :=
  (K.JU a1).bind fun r1 => (K.JC a1).bind fun r2 => some (⟨bitD .and .u32 a0 r1, r2⟩ : ZL)
theorem Zfz (a0 : Int) (a1 : Int) : Ref (K.YT a0 a1) (M.YT a0 a1) := by
  unfold K.YT M.YT
  with_reducible repeat' (first | exact XS | exact Zdp .. | exact Zh2 .. | refine JR ?_ (fun _ => ?_))
noncomputable def K.QY (i : Int) (p : (List Zk) × (List (Z7 × Int)) × Int) (q : (List Zk) × (List (Z7 × Int)) × Int) : Option (((List Zk) × (List (Z7 × Int)) × Int) ⊕ ((List Zk) × (List (Z7 × Int)))) :=
  gd [decide (0 ≤ q.2.2), decide (q.2.2 < (q.1.length : Int)), decide (((q.1.getD (0 + q.2.2.toNat) default).Xf.length + 1) * 16 ≤ 140737488355328)] (some (.inl (q.1.set (0 + q.2.2.toNat) ⟨(q.1.getD (0 + q.2.2.toNat) default).Zp, (q.1.getD (0 + q.2.2.toNat) default).Xr, (q.1.getD (0 + q.2.2.toNat) default).Xf ++ [⟨i, p.2.2⟩]⟩, q.2.1, wr .i64 (p.2.2 + 1))))
theorem Zd0 (i : Int) (p : (List Zk) × (List (Z7 × Int)) × Int) (q : (List Zk) × (List (Z7 × Int)) × Int) : Ref (K.QY i p q) (M.QY i p q) := by
  unfold K.QY M.QY
  with_reducible repeat' (first | exact XS | refine Wq ?_)
noncomputable def K.QR (a0 : ZX) (i : Int) (p : (List Zk) × (List (Z7 × Int)) × Int) : Option (((List Zk) × (List (Z7 × Int)) × Int) ⊕ ((List Zk) × (List (Z7 × Int)))) :=
  bif decide (p.2.2 < (((a0.Zd.getD i.toNat default).Zc).length : Int)) then (gd [decide (0 ≤ p.2.2), decide (p.2.2 < (((a0.Zd.getD i.toNat default).Zc).length : Int))] (bif (((a0.Zd.getD i.toNat default).Zc.getD p.2.2.toNat default).ZJ == 0) || ((a0.Zd.getD i.toNat default).Zc.getD p.2.2.toNat default).K3 then (some (.inl (p.1, p.2.1, wr .i64 (p.2.2 + 1)))) else ((K.YT ((a0.Zd.getD i.toNat default).Zc.getD p.2.2.toNat default).Zu ((a0.Zd.getD i.toNat default).Zc.getD p.2.2.toNat default).ZJ).bind fun r => bif !(lkM (topoKeyEq ⟨r, ((a0.Zd.getD i.toNat default).Zc.getD p.2.2.toNat default).Xr⟩) p.2.1).2 then (gd [decide ((p.1.length + 1) * 48 ≤ 140737488355328)] (K.QY i p (p.1 ++ [⟨r, ((a0.Zd.getD i.toNat default).Zc.getD p.2.2.toNat default).Xr, []⟩], p.2.1 ++ [(⟨r, ((a0.Zd.getD i.toNat default).Zc.getD p.2.2.toNat default).Xr⟩, (p.1.length : Int))], (p.1.length : Int)))) else (K.QY i p (p.1, p.2.1, (lkM (topoKeyEq ⟨r, ((a0.Zd.getD i.toNat default).Zc.getD p.2.2.toNat default).Xr⟩) p.2.1).1))))) else (some (.inr (p.1, p.2.1)))
theorem Zdq (a0 : ZX) (i : Int) (p : (List Zk) × (List (Z7 × Int)) × Int) : Ref (K.QR a0 i p) (M.QR a0 i p) := by
  unfold K.QR M.QR
  with_reducible repeat' (first | exact XS | exact Zfz .. | exact Zd0 .. | refine JR ?_ (fun _ => ?_) | refine Wq ?_ | refine VY ?_ ?_)
noncomputable def K.Jj (a0 : ZX) (p : (List Zk) × (List (Z7 × Int)) × Int) : Option (((List Zk) × (List (Z7 × Int)) × Int) ⊕ (List Zk)) :=
  bif decide (p.2.2 < (a0.Zd.length : Int)) then (gd [decide (0 ≤ p.2.2), decide (p.2.2 < (a0.Zd.length : Int))] ((loopN 1000 (K.QR a0 p.2.2) (p.1, p.2.1, 0)).bind fun y => some (.inl (y.1, y.2, wr .i64 (p.2.2 + 1))))) else (some (.inr p.1))
theorem Zdr (a0 : ZX) (p : (List Zk) × (List (Z7 × Int)) × Int) : Ref (K.Jj a0 p) (M.Jj a0 p) := by
  unfold K.Jj M.Jj
  with_reducible repeat' (first | exact XS | exact Zdq .. | refine JR ?_ (fun _ => ?_) | refine Wq ?_ | refine VY ?_ ?_ | refine UX (fun _ => ?_))
noncomputable def K.V4 (a0 : ZX) : Option (List Zk) :=
  (loopN 1000 (K.Jj a0) ([], [], 0)).bind fun y => some y
theorem ZfA (a0 : ZX) : Ref (K.V4 a0) (M.V4 a0) := by
  unfold K.V4 M.V4
  with_reducible repeat' (first | exact XS | exact Zdr .. | refine JR ?_ (fun _ => ?_) | refine UX (fun _ => ?_))
noncomputable def K.Qv (a0 : Int) : Option Bool :=
  some (a0 != a0)
theorem ZcE (a0 : Int) : Ref (K.Qv a0) (M.Qv a0) := by
  unfold K.Qv M.Qv
  with_reducible repeat' (first | exact XS)
noncomputable def K.QF (a0 : Int) (a1 : Int) : Option Int :=
  (K.Qv a0).bind fun r1 => (K.Qv a1).bind fun r2 => bif r1 then (bif r2 then (some 0) else (some (-1))) else (bif r2 then (some 1) else (bif decide (a0 < a1) then (some (-1)) else (bif decide (a0 > a1) then (some 1) else (some 0))))
theorem Za0 (a0 : Int) (a1 : Int) : Ref (K.QF a0 a1) (M.QF a0 a1) := by
  unfold K.QF M.QF
  with_reducible repeat' (first | exact XS | exact ZcE .. | refine JR ?_ (fun _ => ?_) | refine VY ?_ ?_)
noncomputable def K.JN (a0 : Int) : Option Bool :=
  some (a0 != a0)
theorem Zet (a0 : Int) : Ref (K.JN a0) (M.JN a0) := by
  unfold K.JN M.JN
  with_reducible repeat' (first | exact XS)
noncomputable def K.QS (a0 : Int) (a1 : Int) : Option Int :=
  (K.JN a0).bind fun r1 => (K.JN a1).bind fun r2 => bif r1 then (bif r2 then (some 0) else (some (-1))) else (bif r2 then (some 1) else (bif decide (a0 < a1) then (some (-1)) else (bif decide (a0 > a1) then (some 1) else (some 0))))
theorem K6 (a0 : Int) (a1 : Int) : Ref (K.QS a0 a1) (M.QS a0 a1) := by
  unfold K.QS M.QS
  with_reducible repeat' (first | exact XS | exact Zet .. | refine JR ?_ (fun _ => ?_) | refine VY ?_ ?_)
noncomputable def K.V5 (a0 : ZL) (a1 : ZL) : Option Int :=
  (K.QF a0.Zu a1.Zu).bind fun r1 => bif r1 != 0 then (some r1) else ((K.QS a0.ZJ a1.ZJ).bind fun r2 => some r2)
theorem ZfB (a0 : ZL) (a1 : ZL) : Ref (K.V5 a0 a1) (M.V5 a0 a1) := by
  unfold K.V5 M.V5
  with_reducible repeat' (first | exact XS | exact Za0 .. | exact K6 .. | refine JR ?_ (fun _ => ?_) | refine VY ?_ ?_)
noncomputable def K.Jv (a0 : List Int) (p1 : Int) : Option (Int ⊕ (Unit ⊕ Int)) :=
  bif decide (p1 < (a0.length : Int)) then (gd [decide (0 ≤ p1), decide (p1 < (a0.length : Int))] (bif (a0.getD p1.toNat default) != 0 then (some (.inr (.inr (a0.getD p1.toNat default)))) else (some (.inl (wr .i64 (p1 + 1)))))) else (some (.inr (.inl ())))
theorem Zeu (a0 : List Int) (p1 : Int) : Ref (K.Jv a0 p1) (M.Jv a0 p1) := by
  unfold K.Jv M.Jv
  with_reducible repeat' (first | exact XS | refine Wq ?_ | refine VY ?_ ?_)
noncomputable def K.WM (a0 : List Int) : Option Int :=
  (loopN 1000 (K.Jv a0) 0).bind fun y3 => Sum.elim (fun _ => some 0) (fun y5 => some y5) y3
theorem Zg4 (a0 : List Int) : Ref (K.WM a0) (M.WM a0) := by
  unfold K.WM M.WM
  with_reducible repeat' (first | exact XS | exact Zeu .. | refine JR ?_ (fun _ => ?_) | refine Zde (fun _ => ?_) (fun _ => ?_) | refine UX (fun _ => ?_))
noncomputable def K.VC (a0 : Zk) (a1 : Zk) : Option Int :=
  (K.V5 a0.Zp a1.Zp).bind fun r1 => (K.QS a0.Xr a1.Xr).bind fun r2 => (K.WM ([r1, r2] : List Int)).bind fun r3 => some r3
theorem ZfC (a0 : Zk) (a1 : Zk) : Ref (K.VC a0 a1) (M.VC a0 a1) := by
  unfold K.VC M.VC
  with_reducible repeat' (first | exact XS | exact K6 .. | exact ZfB .. | exact Zg4 .. | refine JR ?_ (fun _ => ?_))
noncomputable def K.Xw (a0 : List Zk) : Option (List Zk) :=
  sortK K.VC a0
theorem WC (a0 : List Zk) : Ref (K.Xw a0) (M.Xw a0) := ZjH ZfC so_topo_Build_1
noncomputable def K.JO (p5 : (List Int) × Int) (p7 : (List Int)) : Option (((List Int) × Int) ⊕ (List Int)) :=
  some (.inl (p7, wr .i64 (p5.2 + 1)))
theorem Zev (p5 : (List Int) × Int) (p7 : (List Int)) : Ref (K.JO p5 p7) (M.JO p5 p7) := by
  unfold K.JO M.JO
  with_reducible repeat' (first | exact XS)
noncomputable def K.J6 (r3 : (List Zk)) (p5 : (List Int) × Int) : Option (((List Int) × Int) ⊕ (List Int)) :=
  bif decide (p5.2 < (r3.length : Int)) then (gd [decide (0 ≤ p5.2), decide (p5.2 < (r3.length : Int))] (bif decide ((((r3.getD p5.2.toNat default).Xf).length : Int) ≥ 2) then (gd [decide ((p5.1.length + 1) * 8 ≤ 140737488355328)] (K.JO p5 (p5.1 ++ [p5.2]))) else (K.JO p5 p5.1))) else (some (.inr p5.1))
theorem Zew (r3 : (List Zk)) (p5 : (List Int) × Int) : Ref (K.J6 r3 p5) (M.J6 r3 p5) := by
  unfold K.J6 M.J6
  with_reducible repeat' (first | exact XS | exact Zev .. | refine Wq ?_ | refine VY ?_ ?_)
noncomputable def K.Wg (a0 : ZX) : Option (Qu × Int) :=
  (K.QJ a0).bind fun r1 => bif r1 != 0 then (some ((⟨([] : List Zk), ([] : List Int)⟩ : Qu), r1)) else ((K.V4 a0).bind fun r2 => (K.Xw r2).bind fun r3 => gd [decide (r3.length = r2.length)] ((loopN 1000 (K.J6 r3) (([] : List Int), 0)).bind fun y8 => bif decide ((y8.length : Int) > 12) then (some ((⟨([] : List Zk), ([] : List Int)⟩ : Qu), 7)) else (some ((⟨r3, y8⟩ : Qu), 0))))
theorem Zg5 (a0 : ZX) : Ref (K.Wg a0) (M.Wg a0) := by
  unfold K.Wg M.Wg
  with_reducible repeat' (first | exact XS | exact k_model_Check .. | exact ZfA .. | exact WC .. | exact Zew .. | refine JR ?_ (fun _ => ?_) | refine Wq ?_ | refine VY ?_ ?_ | refine UX (fun _ => ?_))
noncomputable def K.WS  : Option ZX :=
  some (⟨([(⟨(⟨#[97]⟩ : ByteArray), 0, ([(⟨(⟨#[101, 48]⟩ : ByteArray), 167772161, 24, 0, false, false, 0, 0, false, (⟨#[]⟩ : ByteArray), (⟨#[]⟩ : ByteArray), 0⟩ : Zy)] : List Zy), ([] : List Z1), ([] : List X1), ([] : List WD), ([] : List YS), ([] : List Yc), (⟨false, 0, ([] : List VZ), ([] : List Yw)⟩ : We), (⟨false, 0, (⟨#[]⟩ : ByteArray), (⟨#[]⟩ : ByteArray), ([] : List Yw)⟩ : Qw), (⟨false, 0, 0, ([] : List Vo), ([] : List ZL), ([] : List V0), ([] : List V2), ([] : List Yw)⟩ : Z4)⟩ : Zf), (⟨(⟨#[98]⟩ : ByteArray), 0, ([(⟨(⟨#[101, 48]⟩ : ByteArray), 167772162, 24, 0, false, false, 0, 0, false, (⟨#[]⟩ : ByteArray), (⟨#[]⟩ : ByteArray), 0⟩ : Zy), (⟨(⟨#[101, 49]⟩ : ByteArray), 167772418, 24, 0, false, false, 0, 0, false, (⟨#[]⟩ : ByteArray), (⟨#[]⟩ : ByteArray), 0⟩ : Zy)] : List Zy), ([] : List Z1), ([] : List X1), ([] : List WD), ([] : List YS), ([] : List Yc), (⟨false, 0, ([] : List VZ), ([] : List Yw)⟩ : We), (⟨false, 0, (⟨#[]⟩ : ByteArray), (⟨#[]⟩ : ByteArray), ([] : List Yw)⟩ : Qw), (⟨false, 0, 0, ([] : List Vo), ([] : List ZL), ([] : List V0), ([] : List V2), ([] : List Yw)⟩ : Z4)⟩ : Zf)] : List Zf)⟩ : ZX)
theorem Zg6  : Ref (K.WS) (M.WS) := by
  unfold K.WS M.WS
  with_reducible repeat' (first | exact XS)
noncomputable def K.XX (a0 : List Zf) : Option (List Zf) :=
  gd [decide (0 = 0) || decide (0 < a0.length), decide ((0 + a0.length) * 448 ≤ 140737488355328)] (some a0)
theorem Gd (a0 : List Zf) : Ref (K.XX a0) (M.XX a0) := by
  unfold K.XX M.XX
  with_reducible repeat' (first | exact XS | refine Wq ?_)
noncomputable def K.XA (a0 : List Zy) : Option (List Zy) :=
  gd [decide (0 = 0) || decide (0 < a0.length), decide ((0 + a0.length) * 112 ≤ 140737488355328)] (some a0)
theorem Uy (a0 : List Zy) : Ref (K.XA a0) (M.XA a0) := by
  unfold K.XA M.XA
  with_reducible repeat' (first | exact XS | refine Wq ?_)
noncomputable def K.Xv (a0 : List Z1) : Option (List Z1) :=
  gd [decide (0 = 0) || decide (0 < a0.length), decide ((0 + a0.length) * 40 ≤ 140737488355328)] (some a0)
theorem Uo (a0 : List Z1) : Ref (K.Xv a0) (M.Xv a0) := by
  unfold K.Xv M.Xv
  with_reducible repeat' (first | exact XS | refine Wq ?_)
noncomputable def K.XH (a0 : List X1) : Option (List X1) :=
  gd [decide (0 = 0) || decide (0 < a0.length), decide ((0 + a0.length) * 40 ≤ 140737488355328)] (some a0)
theorem UM (a0 : List X1) : Ref (K.XH a0) (M.XH a0) := by
  unfold K.XH M.XH
  with_reducible repeat' (first | exact XS | refine Wq ?_)
noncomputable def K.Yl (a0 : List WD) : Option (List WD) :=
  gd [decide (0 = 0) || decide (0 < a0.length), decide ((0 + a0.length) * 40 ≤ 140737488355328)] (some a0)
theorem G2 (a0 : List WD) : Ref (K.Yl a0) (M.Yl a0) := by
  unfold K.Yl M.Yl
  with_reducible repeat' (first | exact XS | refine Wq ?_)
noncomputable def K.Xo (a0 : List YS) : Option (List YS) :=
  gd [decide (0 = 0) || decide (0 < a0.length), decide ((0 + a0.length) * 64 ≤ 140737488355328)] (some a0)
theorem W6 (a0 : List YS) : Ref (K.Xo a0) (M.Xo a0) := by
  unfold K.Xo M.Xo
  with_reducible repeat' (first | exact XS | refine Wq ?_)
noncomputable def K.Xp (a0 : List Yc) : Option (List Yc) :=
  gd [decide (0 = 0) || decide (0 < a0.length), decide ((0 + a0.length) * 64 ≤ 140737488355328)] (some a0)
theorem W7 (a0 : List Yc) : Ref (K.Xp a0) (M.Xp a0) := by
  unfold K.Xp M.Xp
  with_reducible repeat' (first | exact XS | refine Wq ?_)
noncomputable def K.XB (a0 : List VZ) : Option (List VZ) :=
  gd [decide (0 = 0) || decide (0 < a0.length), decide ((0 + a0.length) * 24 ≤ 140737488355328)] (some a0)
theorem Uz (a0 : List VZ) : Ref (K.XB a0) (M.XB a0) := by
  unfold K.XB M.XB
  with_reducible repeat' (first | exact XS | refine Wq ?_)
noncomputable def K.Xi (a0 : List Yw) : Option (List Yw) :=
  gd [decide (0 = 0) || decide (0 < a0.length), decide ((0 + a0.length) * 48 ≤ 140737488355328)] (some a0)
theorem Ge (a0 : List Yw) : Ref (K.Xi a0) (M.Xi a0) := by
  unfold K.Xi M.Xi
  with_reducible repeat' (first | exact XS | refine Wq ?_)
noncomputable def K.XI (a0 : List Vo) : Option (List Vo) :=
  gd [decide (0 = 0) || decide (0 < a0.length), decide ((0 + a0.length) * 48 ≤ 140737488355328)] (some a0)
theorem UN (a0 : List Vo) : Ref (K.XI a0) (M.XI a0) := by
  unfold K.XI M.XI
  with_reducible repeat' (first | exact XS | refine Wq ?_)
noncomputable def K.XY (a0 : List ZL) : Option (List ZL) :=
  gd [decide (0 = 0) || decide (0 < a0.length), decide ((0 + a0.length) * 16 ≤ 140737488355328)] (some a0)
theorem Gf (a0 : List ZL) : Ref (K.XY a0) (M.XY a0) := by
  unfold K.XY M.XY
  with_reducible repeat' (first | exact XS | refine Wq ?_)
noncomputable def K.XC (a0 : List V0) : Option (List V0) :=
  gd [decide (0 = 0) || decide (0 < a0.length), decide ((0 + a0.length) * 24 ≤ 140737488355328)] (some a0)
theorem UA (a0 : List V0) : Ref (K.XC a0) (M.XC a0) := by
  unfold K.XC M.XC
  with_reducible repeat' (first | exact XS | refine Wq ?_)
noncomputable def K.XD (a0 : List V2) : Option (List V2) :=
  gd [decide (0 = 0) || decide (0 < a0.length), decide ((0 + a0.length) * 40 ≤ 140737488355328)] (some a0)
theorem UB (a0 : List V2) : Ref (K.XD a0) (M.XD a0) := by
  unfold K.XD M.XD
  with_reducible repeat' (first | exact XS | refine Wq ?_)
noncomputable def K.J1 (r2 : (List Z1)) (p3 : Int) : Option (Int ⊕ Unit) :=
  bif decide (p3 < (r2.length : Int)) then none else (some (.inr ()))
theorem Za1 (r2 : (List Z1)) (p3 : Int) : Ref (K.J1 r2 p3) (M.J1 r2 p3) := by
  unfold K.J1 M.J1
  with_reducible repeat' (first | exact XS | exact Ka | refine VY ?_ ?_)
noncomputable def K.J2 (r6 : (List X1)) (p7 : Int) : Option (Int ⊕ Unit) :=
  bif decide (p7 < (r6.length : Int)) then none else (some (.inr ()))
theorem Za2 (r6 : (List X1)) (p7 : Int) : Ref (K.J2 r6 p7) (M.J2 r6 p7) := by
  unfold K.J2 M.J2
  with_reducible repeat' (first | exact XS | exact Ka | refine VY ?_ ?_)
noncomputable def K.J3 (r10 : (List WD)) (p11 : Int) : Option (Int ⊕ Unit) :=
  bif decide (p11 < (r10.length : Int)) then none else (some (.inr ()))
theorem Za3 (r10 : (List WD)) (p11 : Int) : Ref (K.J3 r10 p11) (M.J3 r10 p11) := by
  unfold K.J3 M.J3
  with_reducible repeat' (first | exact XS | exact Ka | refine VY ?_ ?_)
noncomputable def K.VG (a0 : Zf) : Option Zf :=
  (K.XA a0.Zc).bind fun r1 => (K.Xv a0.Xk).bind fun r2 => (loopN 1000 (K.J1 r2) 0).bind fun y5 => (K.XH a0.Z8).bind fun r6 => (loopN 1000 (K.J2 r6) 0).bind fun y9 => (K.Yl a0.XO).bind fun r10 => (loopN 1000 (K.J3 r10) 0).bind fun y13 => (K.Xo a0.Xd).bind fun r14 => (K.Xp a0.Zq).bind fun r15 => (K.XB a0.Yi.ZK).bind fun r16 => (K.Xi a0.Yi.Zv).bind fun r17 => (K.Xi a0.YC.Zv).bind fun r18 => (K.XI a0.Xb.Zl).bind fun r19 => (K.XY a0.Xb.Zt).bind fun r20 => (K.XC a0.Xb.Zr).bind fun r21 => (K.XD a0.Xb.Zo).bind fun r22 => (K.Xi a0.Xb.Zv).bind fun r23 => some (⟨a0.ZW, a0.GN, r1, r2, r6, r10, r14, r15, (⟨a0.Yi.Wr, a0.Yi.Xj, r16, r17⟩ : We), (⟨a0.YC.Wr, a0.YC.Xj, a0.YC.VQ, a0.YC.YV, r18⟩ : Qw), (⟨a0.Xb.Wr, a0.Xb.X4, a0.Xb.X5, r19, r20, r21, r22, r23⟩ : Z4)⟩ : Zf)
theorem Zds (a0 : Zf) : Ref (K.VG a0) (M.VG a0) := by
  unfold K.VG M.VG
  with_reducible repeat' (first | exact XS | exact Uy .. | exact Uo .. | exact UM .. | exact G2 .. | exact W6 .. | exact W7 .. | exact Uz .. | exact Ge .. | exact UN .. | exact Gf .. | exact UA .. | exact UB .. | exact Za1 .. | exact Za2 .. | exact Za3 .. | refine JR ?_ (fun _ => ?_) | refine UX (fun _ => ?_))
noncomputable def K.JQ (r1 : (List Zf)) (p2 : (List Zf) × Int) : Option (((List Zf) × Int) ⊕ (List Zf)) :=
  bif decide (p2.2 < (r1.length : Int)) then ((K.VG (p2.1.getD (0 + p2.2.toNat) default)).bind fun r4 => gd [decide (0 ≤ p2.2), decide (p2.2 < (p2.1.length : Int)), decide (0 ≤ p2.2), decide (p2.2 < (p2.1.length : Int))] (some (.inl (p2.1.set (0 + p2.2.toNat) r4, wr .i64 (p2.2 + 1))))) else (some (.inr p2.1))
theorem Zaw (r1 : (List Zf)) (p2 : (List Zf) × Int) : Ref (K.JQ r1 p2) (M.JQ r1 p2) := by
  unfold K.JQ M.JQ
  with_reducible repeat' (first | exact XS | exact Zds .. | refine JR ?_ (fun _ => ?_) | refine Wq ?_ | refine VY ?_ ?_)
noncomputable def K.Vc (a0 : ZX) : Option ZX :=
  (K.XX a0.Zd).bind fun r1 => (loopN 1000 (K.JQ r1) (r1, 0)).bind fun y5 => some (⟨y5⟩ : ZX)
theorem ZcF (a0 : ZX) : Ref (K.Vc a0) (M.Vc a0) := by
  unfold K.Vc M.Vc
  with_reducible repeat' (first | exact XS | exact Gd .. | exact Zaw .. | refine JR ?_ (fun _ => ?_) | refine UX (fun _ => ?_))
noncomputable def K.Q8 (a0 : List Int) : Option (List Int) :=
  gd [decide (0 = 0) || decide (0 < a0.length), decide ((0 + a0.length) * 8 ≤ 140737488355328)] (some a0)
theorem R2 (a0 : List Int) : Ref (K.Q8 a0) (M.Q8 a0) := by
  unfold K.Q8 M.Q8
  with_reducible repeat' (first | exact XS | refine Wq ?_)
noncomputable def K.W0 (a1 : List Int) (r1 : Qu × Int) (p2 : Int) : Option (Int ⊕ Unit) :=
  bif decide (p2 < (a1.length : Int)) then (gd [decide (0 ≤ p2), decide (p2 < (a1.length : Int))] (gd [guardB ((!((decide ((a1.getD p2.toNat default) < 0)) || (decide ((a1.getD p2.toNat default) ≥ (r1.1.Wy.length : Int))))) && (decide (p2 > 0))) (decide (0 ≤ (wr .i64 (p2 - 1)))), guardB ((!((decide ((a1.getD p2.toNat default) < 0)) || (decide ((a1.getD p2.toNat default) ≥ (r1.1.Wy.length : Int))))) && (decide (p2 > 0))) (decide ((wr .i64 (p2 - 1)) < (a1.length : Int)))] (bif ((decide ((a1.getD p2.toNat default) < 0)) || (decide ((a1.getD p2.toNat default) ≥ (r1.1.Wy.length : Int)))) || ((decide (p2 > 0)) && (decide ((a1.getD p2.toNat default) ≤ (a1.getD (wr .i64 (p2 - 1)).toNat default)))) then none else (some (.inl (wr .i64 (p2 + 1))))))) else (some (.inr ()))
theorem ZfD (a1 : List Int) (r1 : Qu × Int) (p2 : Int) : Ref (K.W0 a1 r1 p2) (M.W0 a1 r1 p2) := by
  unfold K.W0 M.W0
  with_reducible repeat' (first | exact XS | exact Ka | refine Wq ?_ | refine VY ?_ ?_)
noncomputable def K.Un (a0 : ZX) (a1 : List Int) : Option (Gj × Int) :=
  (K.Wg a0).bind fun r1 => bif r1.2 != 0 then none else (bif decide ((a1.length : Int) > 2) then none else ((loopN 1000 (K.W0 a1 r1) 0).bind fun y4 => (K.Vc a0).bind fun r5 => (K.Q8 a1).bind fun r6 => some ((⟨r5, r1.1, r6⟩ : Gj), 0)))
theorem Zh3 (a0 : ZX) (a1 : List Int) : Ref (K.Un a0 a1) (M.Un a0 a1) := by
  unfold K.Un M.Un
  with_reducible repeat' (first | exact XS | exact Ka | exact Zg5 .. | exact ZcF .. | exact R2 .. | exact ZfD .. | refine JR ?_ (fun _ => ?_) | refine VY ?_ ?_ | refine UX (fun _ => ?_))
noncomputable def K.Yk (a0 : List VS) (a1 : VS) (p1 : Int) : Option (Int ⊕ (Unit ⊕ Int)) :=
  bif decide (p1 < (a0.length : Int)) then (gd [decide (0 ≤ p1), decide (p1 < (a0.length : Int))] (bif ((a1.G8 == ((a0.getD p1.toNat default).G8)) && ((a1.QB == ((a0.getD p1.toNat default).QB)) && true)) then (some (.inr (.inr p1))) else (some (.inl (wr .i64 (p1 + 1)))))) else (some (.inr (.inl ())))
theorem Gw (a0 : List VS) (a1 : VS) (p1 : Int) : Ref (K.Yk a0 a1 p1) (M.Yk a0 a1 p1) := by
  unfold K.Yk M.Yk
  with_reducible repeat' (first | exact XS | refine Wq ?_ | refine VY ?_ ?_)
noncomputable def K.Ym (a0 : List VS) (a1 : VS) : Option Int :=
  (loopN 1000 (K.Yk a0 a1) 0).bind fun y3 => Sum.elim (fun _ => some (-1)) (fun y5 => some y5) y3
theorem G3 (a0 : List VS) (a1 : VS) : Ref (K.Ym a0 a1) (M.Ym a0 a1) := by
  unfold K.Ym M.Ym
  with_reducible repeat' (first | exact XS | exact Gw .. | refine JR ?_ (fun _ => ?_) | refine Zde (fun _ => ?_) (fun _ => ?_) | refine UX (fun _ => ?_))
noncomputable def K.X7 (a0 : List VS) (a1 : VS) : Option Bool :=
  (K.Ym a0 a1).bind fun r1 => some (decide (r1 ≥ 0))
theorem Gx (a0 : List VS) (a1 : VS) : Ref (K.X7 a0 a1) (M.X7 a0 a1) := by
  unfold K.X7 M.X7
  with_reducible repeat' (first | exact XS | exact G3 .. | refine JR ?_ (fun _ => ?_))
noncomputable def K.Wv (a0 : Gj) (a1 : Int) (a2 : Int) (p1 : Int) : Option (Int ⊕ (Unit ⊕ Int)) :=
  bif decide (p1 < (a0.Ub.XT.length : Int)) then (gd [decide (0 ≤ p1), decide (p1 < (a0.Ub.XT.length : Int))] ((K.X7 ((a0.Ub.XT.getD p1.toNat default).Xf) (⟨a1, a2⟩ : VS)).bind fun r3 => bif r3 then (some (.inr (.inr p1))) else (some (.inl (wr .i64 (p1 + 1)))))) else (some (.inr (.inl ())))
theorem Zd1 (a0 : Gj) (a1 : Int) (a2 : Int) (p1 : Int) : Ref (K.Wv a0 a1 a2 p1) (M.Wv a0 a1 a2 p1) := by
  unfold K.Wv M.Wv
  with_reducible repeat' (first | exact XS | exact Gx .. | refine JR ?_ (fun _ => ?_) | refine Wq ?_ | refine VY ?_ ?_)
noncomputable def K.Ww (a0 : Gj) (a1 : Int) (a2 : Int) : Option Int :=
  (loopN 1000 (K.Wv a0 a1 a2) 0).bind fun y4 => Sum.elim (fun _ => none) (fun y6 => some y6) y4
theorem Zci (a0 : Gj) (a1 : Int) (a2 : Int) : Ref (K.Ww a0 a1 a2) (M.Ww a0 a1 a2) := by
  unfold K.Ww M.Ww
  with_reducible repeat' (first | exact XS | exact Ka | exact Zd1 .. | refine JR ?_ (fun _ => ?_) | refine Zde (fun _ => ?_) (fun _ => ?_) | refine UX (fun _ => ?_))
noncomputable def K.QL (a0 : List Int) (a1 : Int) (p1 : Int) : Option (Int ⊕ (Unit ⊕ Int)) :=
  bif decide (p1 < (a0.length : Int)) then (gd [decide (0 ≤ p1), decide (p1 < (a0.length : Int))] (bif a1 == (a0.getD p1.toNat default) then (some (.inr (.inr p1))) else (some (.inl (wr .i64 (p1 + 1)))))) else (some (.inr (.inl ())))
theorem KO (a0 : List Int) (a1 : Int) (p1 : Int) : Ref (K.QL a0 a1 p1) (M.QL a0 a1 p1) := by
  unfold K.QL M.QL
  with_reducible repeat' (first | exact XS | refine Wq ?_ | refine VY ?_ ?_)
noncomputable def K.Qa (a0 : List Int) (a1 : Int) : Option Int :=
  (loopN 1000 (K.QL a0 a1) 0).bind fun y3 => Sum.elim (fun _ => some (-1)) (fun y5 => some y5) y3
theorem GP (a0 : List Int) (a1 : Int) : Ref (K.Qa a0 a1) (M.Qa a0 a1) := by
  unfold K.Qa M.Qa
  with_reducible repeat' (first | exact XS | exact KO .. | refine JR ?_ (fun _ => ?_) | refine Zde (fun _ => ?_) (fun _ => ?_) | refine UX (fun _ => ?_))
noncomputable def K.U5 (a0 : Gj) (a1 : Int) (a2 : Int) : Option Int :=
  (K.Ww a0 a1 a2).bind fun r1 => bif decide (r1 < 0) then none else ((K.Qa a0.Ub.Wy r1).bind fun r2 => some r2)
theorem Zh4 (a0 : Gj) (a1 : Int) (a2 : Int) : Ref (K.U5 a0 a1 a2) (M.U5 a0 a1 a2) := by
  unfold K.U5 M.U5
  with_reducible repeat' (first | exact XS | exact Ka | exact Zci .. | exact GP .. | refine JR ?_ (fun _ => ?_) | refine VY ?_ ?_)
noncomputable def K.Qf (a0 : List Int) (a1 : Int) : Option Bool :=
  (K.Qa a0 a1).bind fun r1 => some (decide (r1 ≥ 0))
theorem KP (a0 : List Int) (a1 : Int) : Ref (K.Qf a0 a1) (M.Qf a0 a1) := by
  unfold K.Qf M.Qf
  with_reducible repeat' (first | exact XS | exact GP .. | refine JR ?_ (fun _ => ?_))
noncomputable def K.U6 (a0 : Gj) (a1 : Int) (a2 : Int) : Option Bool :=
  (K.Ww a0 a1 a2).bind fun r1 => bif decide (r1 < 0) then none else ((K.U5 a0 a1 a2).bind fun r2 => (gc (!(decide (r2 < 0))) (K.Qf a0.K3 r2)).bind fun r3 => some ((decide (r2 < 0)) || (!r3)))
theorem ZjK (a0 : Gj) (a1 : Int) (a2 : Int) : Ref (K.U6 a0 a1 a2) (M.U6 a0 a1 a2) := by
  unfold K.U6 M.U6
  with_reducible repeat' (first | exact XS | exact Ka | exact Zci .. | exact Zh4 .. | exact KP .. | refine JR ?_ (fun _ => ?_) | refine ZkI ?_ | refine VY ?_ ?_)
noncomputable def K.Ux  : Option Bool :=
  (K.WS).bind fun r1 => (K.Un r1 ([] : List Int)).bind fun r2 => (K.WS).bind fun r3 => (K.Un r3 ([0] : List Int)).bind fun r4 => (gc ((((r2.2 == 0) && (r4.2 == 0)) && ((r2.1.Ub.XT.length : Int) == 2)) && ((r2.1.Ub.Wy.length : Int) == 1)) (K.U6 r2.1 0 0)).bind fun r5 => (gc (((((r2.2 == 0) && (r4.2 == 0)) && ((r2.1.Ub.XT.length : Int) == 2)) && ((r2.1.Ub.Wy.length : Int) == 1)) && r5) (K.U6 r4.1 0 0)).bind fun r6 => (gc ((((((r2.2 == 0) && (r4.2 == 0)) && ((r2.1.Ub.XT.length : Int) == 2)) && ((r2.1.Ub.Wy.length : Int) == 1)) && r5) && (!r6)) (K.U6 r4.1 1 1)).bind fun r7 => some (((((((r2.2 == 0) && (r4.2 == 0)) && ((r2.1.Ub.XT.length : Int) == 2)) && ((r2.1.Ub.Wy.length : Int) == 1)) && r5) && (!r6)) && r7)
theorem Zg7  : Ref (K.Ux) (M.Ux) := by
  unfold K.Ux M.Ux
  with_reducible repeat' (first | exact XS | exact Zg6 .. | exact Zh3 .. | exact ZjK .. | refine JR ?_ (fun _ => ?_) | refine ZkI ?_)
theorem Zgv : M.Ux = some true := Zg7 _ (by kernel_rfl)
end Nv
