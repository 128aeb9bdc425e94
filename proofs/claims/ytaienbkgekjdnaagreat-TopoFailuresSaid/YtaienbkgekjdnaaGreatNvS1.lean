/- The fixed example: reckoned. -/
import Derived.Test.YtaienbkgekjdnaaGreatNvD1
import Derived.Test.YtaienbkgekjdnaaGreatNvLibB
import Derived.Test.YtaienbkgekjdnaaGreatNvTs
import Derived.KernelRfl
set_option maxRecDepth 100000
namespace Nv
open Go
noncomputable def K.Xd (a0 : List Int) : Option (List Int) :=
  gd [decide (0 = 0) || decide (0 < a0.length), decide ((0 + a0.length) * 8 ≤ 140737488355328)] (some a0)
theorem JI (a0 : List Int) : Ref (K.Xd a0) (M.Xd a0) := by
  unfold K.Xd M.Xd
  with_reducible repeat' (first | exact Zj | refine XP ?_)
noncomputable def K.XH (a0 : Int) (p1 : (List (List Int)) × Int × Int) (p3 : (List (List Int)) × Int) (p6 : (List (List Int)) × Int) : Option (((List (List Int)) × Int) ⊕ (List (List Int))) :=
  bif decide (p6.2 < a0) then ((K.Xd (((p1.1.drop p1.2.1.toNat).take (((p1.1.length : Int).toNat) - p1.2.1.toNat)).getD p3.2.toNat default)).bind fun r8 => gd [decide ((r8.length + 1) * 8 ≤ 140737488355328)] (gd [decide ((p6.1.length + 1) * 24 ≤ 140737488355328)] (some (.inl (p6.1 ++ [r8 ++ [p6.2]], wr .i64 (p6.2 + 1)))))) else (some (.inr p6.1))
theorem W9 (a0 : Int) (p1 : (List (List Int)) × Int × Int) (p3 : (List (List Int)) × Int) (p6 : (List (List Int)) × Int) : Ref (K.XH a0 p1 p3 p6) (M.XH a0 p1 p3 p6) := by
  unfold K.XH M.XH
  with_reducible repeat' (first | exact Zj | exact JI .. | refine ZL ?_ (fun _ => ?_) | refine XP ?_ | refine ZS ?_ ?_)
noncomputable def K.Xv (a0 : Int) (p1 : (List (List Int)) × Int × Int) (p3 : (List (List Int)) × Int) (p5 : Int) : Option (((List (List Int)) × Int) ⊕ (List (List Int))) :=
  (loopN 1000 (K.XH a0 p1 p3) (p3.1, p5)).bind fun y9 => some (.inl (y9, wr .i64 (p3.2 + 1)))
theorem Ua (a0 : Int) (p1 : (List (List Int)) × Int × Int) (p3 : (List (List Int)) × Int) (p5 : Int) : Ref (K.Xv a0 p1 p3 p5) (M.Xv a0 p1 p3 p5) := by
  unfold K.Xv M.Xv
  with_reducible repeat' (first | exact Zj | exact W9 .. | refine ZL ?_ (fun _ => ?_) | refine XJ (fun _ => ?_))
noncomputable def K.XS (a0 : Int) (p1 : (List (List Int)) × Int × Int) (p3 : (List (List Int)) × Int) : Option (((List (List Int)) × Int) ⊕ (List (List Int))) :=
  bif decide (p3.2 < ((((p1.1.length : Int).toNat) - p1.2.1.toNat : Nat) : Int)) then (gd [decide (0 ≤ p3.2), decide (p3.2 < (((p1.1.drop p1.2.1.toNat).take (((p1.1.length : Int).toNat) - p1.2.1.toNat)).length : Int))] (bif decide (((((p1.1.drop p1.2.1.toNat).take (((p1.1.length : Int).toNat) - p1.2.1.toNat)).getD p3.2.toNat default).length : Int) > 0) then (gd [decide (0 ≤ (wr .i64 (((((p1.1.drop p1.2.1.toNat).take (((p1.1.length : Int).toNat) - p1.2.1.toNat)).getD p3.2.toNat default).length : Int) - 1))), decide ((wr .i64 (((((p1.1.drop p1.2.1.toNat).take (((p1.1.length : Int).toNat) - p1.2.1.toNat)).getD p3.2.toNat default).length : Int) - 1)) < ((((p1.1.drop p1.2.1.toNat).take (((p1.1.length : Int).toNat) - p1.2.1.toNat)).getD p3.2.toNat default).length : Int))] (K.Xv a0 p1 p3 (wr .i64 (((((p1.1.drop p1.2.1.toNat).take (((p1.1.length : Int).toNat) - p1.2.1.toNat)).getD p3.2.toNat default).getD (wr .i64 (((((p1.1.drop p1.2.1.toNat).take (((p1.1.length : Int).toNat) - p1.2.1.toNat)).getD p3.2.toNat default).length : Int) - 1)).toNat default) + 1)))) else (K.Xv a0 p1 p3 0))) else (some (.inr p3.1))
theorem Ub (a0 : Int) (p1 : (List (List Int)) × Int × Int) (p3 : (List (List Int)) × Int) : Ref (K.XS a0 p1 p3) (M.XS a0 p1 p3) := by
  unfold K.XS M.XS
  with_reducible repeat' (first | exact Zj | exact Ua .. | refine XP ?_ | refine ZS ?_ ?_)
noncomputable def K.YJ (a0 : Int) (a1 : Int) (p1 : (List (List Int)) × Int × Int) : Option (((List (List Int)) × Int × Int) ⊕ (List (List Int))) :=
  bif decide (p1.2.2 < a1) then (gd [decide (0 ≤ (p1.1.length : Int)), decide ((p1.1.length : Int) ≤ (p1.1.length : Int)), decide (0 ≤ p1.2.1), decide (p1.2.1 ≤ ((p1.1.length : Int).toNat : Int))] ((loopN 1000 (K.XS a0 p1) (p1.1, 0)).bind fun y10 => some (.inl (y10, (p1.1.length : Int), wr .i64 (p1.2.2 + 1))))) else (some (.inr p1.1))
theorem Uc (a0 : Int) (a1 : Int) (p1 : (List (List Int)) × Int × Int) : Ref (K.YJ a0 a1 p1) (M.YJ a0 a1 p1) := by
  unfold K.YJ M.YJ
  with_reducible repeat' (first | exact Zj | exact Ub .. | refine ZL ?_ (fun _ => ?_) | refine XP ?_ | refine ZS ?_ ?_ | refine XJ (fun _ => ?_))
noncomputable def K.Ye (a0 : Int) (a1 : Int) : Option ((List (List Int)) × Int) :=
  bif (((decide (a0 < 0)) || (decide (a0 > 12))) || (decide (a1 < 0))) || (decide (a1 > 2)) then (some (([] : List (List Int)), 1)) else ((loopN 1000 (K.YJ a0 a1) (([([] : List Int)] : List (List Int)), 0, 0)).bind fun y11 => some (y11, 0))
theorem Gm (a0 : Int) (a1 : Int) : Ref (K.Ye a0 a1) (M.Ye a0 a1) := by
  unfold K.Ye M.Ye
  with_reducible repeat' (first | exact Zj | exact Uc .. | refine ZL ?_ (fun _ => ?_) | refine ZS ?_ ?_ | refine XJ (fun _ => ?_))
noncomputable def K.Yo (a0 : Int) (a1 : Int) (p1 : (List (List Int)) × Int) : Option (((List (List Int)) × Int) ⊕ (List (List Int))) :=
  bif (decide (a1 ≥ 1)) && (decide (p1.2 < a0)) then (gd [decide ((p1.1.length + 1) * 24 ≤ 140737488355328)] (some (.inl (p1.1 ++ [([p1.2] : List Int)], wr .i64 (p1.2 + 1))))) else (some (.inr p1.1))
theorem WO (a0 : Int) (a1 : Int) (p1 : (List (List Int)) × Int) : Ref (K.Yo a0 a1 p1) (M.Yo a0 a1 p1) := by
  unfold K.Yo M.Yo
  with_reducible repeat' (first | exact Zj | refine XP ?_ | refine ZS ?_ ?_)
noncomputable def K.Yp (a0 : Int) (p4 : (List (List Int)) × Int) (p6 : (List (List Int)) × Int) : Option (((List (List Int)) × Int) ⊕ (List (List Int))) :=
  bif decide (p6.2 < a0) then (gd [decide ((p6.1.length + 1) * 24 ≤ 140737488355328)] (some (.inl (p6.1 ++ [([p4.2, p6.2] : List Int)], wr .i64 (p6.2 + 1))))) else (some (.inr p6.1))
theorem WP (a0 : Int) (p4 : (List (List Int)) × Int) (p6 : (List (List Int)) × Int) : Ref (K.Yp a0 p4 p6) (M.Yp a0 p4 p6) := by
  unfold K.Yp M.Yp
  with_reducible repeat' (first | exact Zj | refine XP ?_ | refine ZS ?_ ?_)
noncomputable def K.Yq (a0 : Int) (a1 : Int) (p4 : (List (List Int)) × Int) : Option (((List (List Int)) × Int) ⊕ (List (List Int))) :=
  bif (decide (a1 ≥ 2)) && (decide (p4.2 < a0)) then ((loopN 1000 (K.Yp a0 p4) (p4.1, wr .i64 (p4.2 + 1))).bind fun y8 => some (.inl (y8, wr .i64 (p4.2 + 1)))) else (some (.inr p4.1))
theorem WQ (a0 : Int) (a1 : Int) (p4 : (List (List Int)) × Int) : Ref (K.Yq a0 a1 p4) (M.Yq a0 a1 p4) := by
  unfold K.Yq M.Yq
  with_reducible repeat' (first | exact Zj | exact WP .. | refine ZL ?_ (fun _ => ?_) | refine ZS ?_ ?_ | refine XJ (fun _ => ?_))
noncomputable def K.X3 (a0 : Int) (a1 : Int) : Option ((List (List Int)) × Int) :=
  bif (((decide (a0 < 0)) || (decide (a0 > 12))) || (decide (a1 < 0))) || (decide (a1 > 2)) then (some (([] : List (List Int)), 1)) else ((loopN 1000 (K.Yo a0 a1) (([([] : List Int)] : List (List Int)), 0)).bind fun y3 => (loopN 1000 (K.Yq a0 a1) (y3, 0)).bind fun y9 => some (y9, 0))
theorem U1 (a0 : Int) (a1 : Int) : Ref (K.X3 a0 a1) (M.X3 a0 a1) := by
  unfold K.X3 M.X3
  with_reducible repeat' (first | exact Zj | exact WO .. | exact WQ .. | refine ZL ?_ (fun _ => ?_) | refine ZS ?_ ?_ | refine XJ (fun _ => ?_))
noncomputable def K.Qg  : Option Z7 :=
  some (⟨([(⟨(⟨#[97]⟩ : ByteArray), 0, ([(⟨(⟨#[101, 48]⟩ : ByteArray), 167772161, 24, 0, false, false, 0, 0, false, (⟨#[]⟩ : ByteArray), (⟨#[]⟩ : ByteArray), 0⟩ : Zk)] : List Zk), ([] : List ZZ), ([] : List Xu), ([] : List VI), ([] : List Yf), ([] : List Yg), (⟨false, 0, ([] : List YR), ([] : List YN)⟩ : Jw), (⟨false, 0, (⟨#[]⟩ : ByteArray), (⟨#[]⟩ : ByteArray), ([] : List YN)⟩ : Y6), (⟨false, 0, 0, ([] : List Qe), ([] : List Z4), ([] : List YS), ([] : List YT), ([] : List YN)⟩ : Jc)⟩ : Zg), (⟨(⟨#[98]⟩ : ByteArray), 0, ([(⟨(⟨#[101, 48]⟩ : ByteArray), 167772162, 24, 0, false, false, 0, 0, false, (⟨#[]⟩ : ByteArray), (⟨#[]⟩ : ByteArray), 0⟩ : Zk), (⟨(⟨#[101, 49]⟩ : ByteArray), 167772418, 24, 0, false, false, 0, 0, false, (⟨#[]⟩ : ByteArray), (⟨#[]⟩ : ByteArray), 0⟩ : Zk)] : List Zk), ([] : List ZZ), ([] : List Xu), ([] : List VI), ([] : List Yf), ([] : List Yg), (⟨false, 0, ([] : List YR), ([] : List YN)⟩ : Jw), (⟨false, 0, (⟨#[]⟩ : ByteArray), (⟨#[]⟩ : ByteArray), ([] : List YN)⟩ : Y6), (⟨false, 0, 0, ([] : List Qe), ([] : List Z4), ([] : List YS), ([] : List YT), ([] : List YN)⟩ : Jc)⟩ : Zg)] : List Zg)⟩ : Z7)
theorem Rb  : Ref (K.Qg) (M.Qg) := by
  unfold K.Qg M.Qg
  with_reducible repeat' (first | exact Zj)
noncomputable def K.YZ (a0 : Int) : Option Bool :=
  some (((decide (65 ≤ a0)) && (decide (a0 ≤ 90))) || ((decide (97 ≤ a0)) && (decide (a0 ≤ 122))))
theorem WY (a0 : Int) : Ref (K.YZ a0) (M.YZ a0) := by
  unfold K.YZ M.YZ
  with_reducible repeat' (first | exact Zj)
noncomputable def K.QR (a0 : Int) : Option Bool :=
  some ((decide (48 ≤ a0)) && (decide (a0 ≤ 57)))
theorem Rc (a0 : Int) : Ref (K.QR a0) (M.QR a0) := by
  unfold K.QR M.QR
  with_reducible repeat' (first | exact Zj)
noncomputable def K.Qm (a0 : ByteArray) (p2 : Int) : Option (Int ⊕ Unit) :=
  bif decide (p2 < (a0.size : Int)) then (gd [decide (0 ≤ p2), decide (p2 < (a0.size : Int))] ((K.YZ (byteAt a0 p2)).bind fun r4 => (gc (!r4) (K.QR (byteAt a0 p2))).bind fun r5 => bif (((((!r4) && (!r5)) && ((byteAt a0 p2) != 45)) && ((byteAt a0 p2) != 95)) && ((byteAt a0 p2) != 47)) && ((byteAt a0 p2) != 46) then none else (some (.inl (wr .i64 (p2 + 1)))))) else (some (.inr ()))
theorem Ka (a0 : ByteArray) (p2 : Int) : Ref (K.Qm a0 p2) (M.Qm a0 p2) := by
  unfold K.Qm M.Qm
  with_reducible repeat' (first | exact Zj | exact Xo | exact WY .. | exact Rc .. | refine ZL ?_ (fun _ => ?_) | refine XP ?_ | refine Vj ?_ | refine ZS ?_ ?_)
noncomputable def K.QD (a0 : ByteArray) : Option Bool :=
  (gc (!((decide ((a0.size : Int) < 1)) || (decide ((a0.size : Int) > 15)))) (K.YZ (byteAt a0 0))).bind fun r1 => gd [guardB (!((decide ((a0.size : Int) < 1)) || (decide ((a0.size : Int) > 15)))) (decide (0 ≤ 0)), guardB (!((decide ((a0.size : Int) < 1)) || (decide ((a0.size : Int) > 15)))) (decide (0 < (a0.size : Int)))] (bif ((decide ((a0.size : Int) < 1)) || (decide ((a0.size : Int) > 15))) || (!r1) then none else ((loopN 1000 (K.Qm a0) 1).bind fun y6 => some true))
theorem Gk (a0 : ByteArray) : Ref (K.QD a0) (M.QD a0) := by
  unfold K.QD M.QD
  with_reducible repeat' (first | exact Zj | exact Xo | exact WY .. | exact Ka .. | refine ZL ?_ (fun _ => ?_) | refine XP ?_ | refine Vj ?_ | refine ZS ?_ ?_ | refine XJ (fun _ => ?_))
noncomputable def K.XY (a0 : Int) (a1 : Int) (a2 : Int) : Option Bool :=
  some ((decide (a1 ≤ a0)) && (decide (a0 ≤ a2)))
theorem Wt (a0 : Int) (a1 : Int) (a2 : Int) : Ref (K.XY a0 a1 a2) (M.XY a0 a1 a2) := by
  unfold K.XY M.XY
  with_reducible repeat' (first | exact Zj)
noncomputable def K.X6 (a0 : Zk) (b0 : ByteArray) : Option Bool :=
  some (strEq a0.XT b0)
theorem WR (a0 : Zk) (b0 : ByteArray) : Ref (K.X6 a0 b0) (M.X6 a0 b0) := by
  unfold K.X6 M.X6
  with_reducible repeat' (first | exact Zj)
noncomputable def K.Zr (a0 : List Zk) (a1c0 : ByteArray) (p1 : Int) : Option (Int ⊕ (Unit ⊕ Int)) :=
  bif decide (p1 < (a0.length : Int)) then ((K.X6 (a0.getD p1.toNat default) a1c0).bind fun r3 => gd [decide (0 ≤ p1), decide (p1 < (a0.length : Int))] (bif r3 then (some (.inr (.inr p1))) else (some (.inl (wr .i64 (p1 + 1)))))) else (some (.inr (.inl ())))
theorem Yw (a0 : List Zk) (a1c0 : ByteArray) (p1 : Int) : Ref (K.Zr a0 a1c0 p1) (M.Zr a0 a1c0 p1) := by
  unfold K.Zr M.Zr
  with_reducible repeat' (first | exact Zj | exact WR .. | refine ZL ?_ (fun _ => ?_) | refine XP ?_ | refine ZS ?_ ?_)
noncomputable def K.Zn (a0 : List Zk) (a1c0 : ByteArray) : Option Int :=
  (loopN 1000 (K.Zr a0 a1c0) 0).bind fun y4 => Sum.elim (fun _ => some (-1)) (fun y6 => some y6) y4
theorem YK (a0 : List Zk) (a1c0 : ByteArray) : Ref (K.Zn a0 a1c0) (M.Zn a0 a1c0) := by
  unfold K.Zn M.Zn
  with_reducible repeat' (first | exact Zj | exact Yw .. | refine ZL ?_ (fun _ => ?_) | refine Vk (fun _ => ?_) (fun _ => ?_) | refine XJ (fun _ => ?_))
noncomputable def K.Yz (a0 : Zg) (a1 : ByteArray) : Option Int :=
  (K.Zn a0.Zc a1).bind fun r1 => some r1
theorem UG (a0 : Zg) (a1 : ByteArray) : Ref (K.Yz a0 a1) (M.Yz a0 a1) := by
  unfold K.Yz M.Yz
  with_reducible repeat' (first | exact Zj | exact YK .. | refine ZL ?_ (fun _ => ?_))
noncomputable def K.XK (a0 : Zk) : Option Bool :=
  (K.XY a0.X2 0 32).bind fun r1 => (gc (!(!r1)) (K.XY a0.Xj 0 4094)).bind fun r2 => (gc (!((!r1) || (!r2))) (K.XY a0.RU 0 2)).bind fun r3 => bif ((!r1) || (!r2)) || (!r3) then none else (bif (a0.X2 == 0) && (((((((a0.XO != 0) || (a0.Xj != 0)) || (a0.RU != 0)) || a0.Yt) || a0.XV) || (!strEq a0.Vp (⟨#[]⟩ : ByteArray))) || (!strEq a0.Ql (⟨#[]⟩ : ByteArray))) then none else (bif (a0.X2 != 0) && (a0.XO == 0) then none else (bif a0.Yt then none else (some ((a0.RT == 0) && (a0.Zci == 0))))))
theorem V2 (a0 : Zk) : Ref (K.XK a0) (M.XK a0) := by
  unfold K.XK M.XK
  with_reducible repeat' (first | exact Zj | exact Xo | exact Wt .. | refine ZL ?_ (fun _ => ?_) | refine Vj ?_ | refine ZS ?_ ?_)
noncomputable def K.Qh (a0 : Int) : Option Int :=
  some (if (if 32 < a0 then 32 else a0) > 0 then (if 32 < a0 then 32 else a0) else 0)
theorem UH (a0 : Int) : Ref (K.Qh a0) (M.Qh a0) := by
  unfold K.Qh M.Qh
  with_reducible repeat' (first | exact Zj)
noncomputable def K.QE (a0 : Int) : Option Int :=
  (K.Qh a0).bind fun r1 => gd [decide (0 ≤ (wr .i64 (32 - r1)))] (some (wr .u32 (4294967295 * 2 ^ min (wr .i64 (32 - r1)).toNat 32)))
theorem Gl (a0 : Int) : Ref (K.QE a0) (M.QE a0) := by
  unfold K.QE M.QE
  with_reducible repeat' (first | exact Zj | exact UH .. | refine ZL ?_ (fun _ => ?_) | refine XP ?_)
noncomputable def K.Yh (a0 : Int) (a1 : Int) : Option Z4 :=
  (K.QE a1).bind fun r1 => (K.Qh a1).bind fun r2 => some (⟨bitD .and .u32 a0 r1, r2⟩ : Z4)
theorem Wu (a0 : Int) (a1 : Int) : Ref (K.Yh a0 a1) (M.Yh a0 a1) := by
  unfold K.Yh M.Yh
  with_reducible repeat' (first | exact Zj | exact UH .. | exact Gl .. | refine ZL ?_ (fun _ => ?_))
noncomputable def K.YV (a0 : Z4) (a1 : Int) : Option Bool :=
  (K.QE a0.X2).bind fun r1 => some ((bitD .and .u32 a1 r1) == a0.XO)
theorem Gn (a0 : Z4) (a1 : Int) : Ref (K.YV a0 a1) (M.YV a0 a1) := by
  unfold K.YV M.YV
  with_reducible repeat' (first | exact Zj | exact Gl .. | refine ZL ?_ (fun _ => ?_))
noncomputable def K.Y0 (a0 : Z4) (a1 : Z4) : Option Bool :=
  (gc (decide (a0.X2 ≤ a1.X2)) (K.YV a0 a1.XO)).bind fun r1 => some ((decide (a0.X2 ≤ a1.X2)) && r1)
theorem Ki (a0 : Z4) (a1 : Z4) : Ref (K.Y0 a0 a1) (M.Y0 a0 a1) := by
  unfold K.Y0 M.Y0
  with_reducible repeat' (first | exact Zj | exact Gn .. | refine ZL ?_ (fun _ => ?_) | refine Vj ?_)
noncomputable def K.YW (a0 : Z4) (a1 : Z4) : Option Bool :=
  (K.Y0 a0 a1).bind fun r1 => (gc (!r1) (K.Y0 a1 a0)).bind fun r2 => some (r1 || r2)
theorem Gp (a0 : Z4) (a1 : Z4) : Ref (K.YW a0 a1) (M.YW a0 a1) := by
  unfold K.YW M.YW
  with_reducible repeat' (first | exact Zj | exact Ki .. | refine ZL ?_ (fun _ => ?_) | refine Vj ?_)
noncomputable def K.Xs (a0 : Zg) (p1 : Int) (p6 : Int) : Option (Int ⊕ Unit) :=
  bif decide (p6 < ((p1.toNat - 0 : Nat) : Int)) then (gd [decide (0 ≤ p6), decide (p6 < (((a0.Zc.drop 0).take (p1.toNat - 0)).length : Int))] ((gc ((((a0.Zc.getD p1.toNat default).X2) != 0) && (((((a0.Zc.drop 0).take (p1.toNat - 0)).getD p6.toNat default).X2) != 0)) (K.Yh ((a0.Zc.getD p1.toNat default).XO) ((a0.Zc.getD p1.toNat default).X2))).bind fun r8 => (gc ((((a0.Zc.getD p1.toNat default).X2) != 0) && (((((a0.Zc.drop 0).take (p1.toNat - 0)).getD p6.toNat default).X2) != 0)) (K.Yh ((((a0.Zc.drop 0).take (p1.toNat - 0)).getD p6.toNat default).XO) ((((a0.Zc.drop 0).take (p1.toNat - 0)).getD p6.toNat default).X2))).bind fun r9 => (gc ((((a0.Zc.getD p1.toNat default).X2) != 0) && (((((a0.Zc.drop 0).take (p1.toNat - 0)).getD p6.toNat default).X2) != 0)) (K.YW r8 r9)).bind fun r10 => bif ((((a0.Zc.getD p1.toNat default).X2) != 0) && (((((a0.Zc.drop 0).take (p1.toNat - 0)).getD p6.toNat default).X2) != 0)) && r10 then none else (some (.inl (wr .i64 (p6 + 1)))))) else (some (.inr ()))
theorem Vl (a0 : Zg) (p1 : Int) (p6 : Int) : Ref (K.Xs a0 p1 p6) (M.Xs a0 p1 p6) := by
  unfold K.Xs M.Xs
  with_reducible repeat' (first | exact Zj | exact Xo | exact Wu .. | exact Gp .. | refine ZL ?_ (fun _ => ?_) | refine XP ?_ | refine Vj ?_ | refine ZS ?_ ?_)
noncomputable def K.Xt (a0 : Zg) (p1 : Int) : Option (Int ⊕ Unit) :=
  bif decide (p1 < (a0.Zc.length : Int)) then (gd [decide (0 ≤ p1), decide (p1 < (a0.Zc.length : Int))] ((K.QD ((a0.Zc.getD p1.toNat default).XT)).bind fun r3 => bif !r3 then none else ((K.Yz a0 ((a0.Zc.getD p1.toNat default).XT)).bind fun r4 => bif decide (r4 < p1) then none else ((K.XK (a0.Zc.getD p1.toNat default)).bind fun r5 => bif !r5 then none else (gd [decide (0 ≤ p1), decide (p1 ≤ (a0.Zc.length : Int))] ((loopN 1000 (K.Xs a0 p1) 0).bind fun y11 => some (.inl (wr .i64 (p1 + 1))))))))) else (some (.inr ()))
theorem Vm (a0 : Zg) (p1 : Int) : Ref (K.Xt a0 p1) (M.Xt a0 p1) := by
  unfold K.Xt M.Xt
  with_reducible repeat' (first | exact Zj | exact Xo | exact Gk .. | exact UG .. | exact V2 .. | exact Vl .. | refine ZL ?_ (fun _ => ?_) | refine XP ?_ | refine ZS ?_ ?_ | refine XJ (fun _ => ?_))
noncomputable def K.XC (a0 : Zg) : Option Int :=
  bif decide ((a0.Zc.length : Int) > 8) then none else ((loopN 1000 (K.Xt a0) 0).bind fun y12 => some 0)
theorem VK (a0 : Zg) : Ref (K.XC a0) (M.XC a0) := by
  unfold K.XC M.XC
  with_reducible repeat' (first | exact Zj | exact Xo | exact Vm .. | refine ZL ?_ (fun _ => ?_) | refine ZS ?_ ?_ | refine XJ (fun _ => ?_))
noncomputable def K.Xq (a0 : Zg) (p1 : Int) : Option (Int ⊕ Unit) :=
  bif decide (p1 < (a0.JQ.length : Int)) then none else (some (.inr ()))
theorem J7 (a0 : Zg) (p1 : Int) : Ref (K.Xq a0 p1) (M.Xq a0 p1) := by
  unfold K.Xq M.Xq
  with_reducible repeat' (first | exact Zj | exact Xo | refine ZS ?_ ?_)
noncomputable def K.Xr (a0 : Zg) : Option Int :=
  bif decide ((a0.JQ.length : Int) > 8) then none else ((loopN 1000 (K.Xq a0) 0).bind fun y3 => some 0)
theorem VC (a0 : Zg) : Ref (K.Xr a0) (M.Xr a0) := by
  unfold K.Xr M.Xr
  with_reducible repeat' (first | exact Zj | exact Xo | exact J7 .. | refine ZL ?_ (fun _ => ?_) | refine ZS ?_ ?_ | refine XJ (fun _ => ?_))
noncomputable def K.XE (a0 : Zg) (p1 : Int) : Option (Int ⊕ Unit) :=
  bif decide (p1 < (a0.Jp.length : Int)) then none else (some (.inr ()))
theorem Vq (a0 : Zg) (p1 : Int) : Ref (K.XE a0 p1) (M.XE a0 p1) := by
  unfold K.XE M.XE
  with_reducible repeat' (first | exact Zj | exact Xo | refine ZS ?_ ?_)
noncomputable def K.XL (a0 : Zg) : Option Int :=
  bif decide ((a0.Jp.length : Int) > 8) then none else ((loopN 1000 (K.XE a0) 0).bind fun y3 => some 0)
theorem V3 (a0 : Zg) : Ref (K.XL a0) (M.XL a0) := by
  unfold K.XL M.XL
  with_reducible repeat' (first | exact Zj | exact Xo | exact Vq .. | refine ZL ?_ (fun _ => ?_) | refine ZS ?_ ?_ | refine XJ (fun _ => ?_))
noncomputable def K.X9 (a0 : Zg) (p1 : Int) : Option (Int ⊕ Unit) :=
  bif decide (p1 < (a0.Qw.length : Int)) then none else (some (.inr ()))
theorem Wv (a0 : Zg) (p1 : Int) : Ref (K.X9 a0 p1) (M.X9 a0 p1) := by
  unfold K.X9 M.X9
  with_reducible repeat' (first | exact Zj | exact Xo | refine ZS ?_ ?_)
noncomputable def K.YA (a0 : Zg) : Option Int :=
  bif decide ((a0.Qw.length : Int) > 8) then none else ((loopN 1000 (K.X9 a0) 0).bind fun y3 => some 0)
theorem UI (a0 : Zg) : Ref (K.YA a0) (M.YA a0) := by
  unfold K.YA M.YA
  with_reducible repeat' (first | exact Zj | exact Xo | exact Wv .. | refine ZL ?_ (fun _ => ?_) | refine ZS ?_ ?_ | refine XJ (fun _ => ?_))
noncomputable def K.Yr (a0 : Zg) (p1 : Int) : Option (Int ⊕ Unit) :=
  bif decide (p1 < (a0.Jd.length : Int)) then none else (some (.inr ()))
theorem WS (a0 : Zg) (p1 : Int) : Ref (K.Yr a0 p1) (M.Yr a0 p1) := by
  unfold K.Yr M.Yr
  with_reducible repeat' (first | exact Zj | exact Xo | refine ZS ?_ ?_)
noncomputable def K.YO (a0 : Zg) : Option Int :=
  bif decide ((a0.Jd.length : Int) > 8) then none else ((loopN 1000 (K.Yr a0) 0).bind fun y3 => some 0)
theorem U2 (a0 : Zg) : Ref (K.YO a0) (M.YO a0) := by
  unfold K.YO M.YO
  with_reducible repeat' (first | exact Zj | exact Xo | exact WS .. | refine ZL ?_ (fun _ => ?_) | refine ZS ?_ ?_ | refine XJ (fun _ => ?_))
noncomputable def K.QF (_a0 : Zg) (_a1 : ByteArray) : Option Int :=
  none
theorem RX (_a0 : Zg) (_a1 : ByteArray) : Ref (K.QF _a0 _a1) (M.QF _a0 _a1) := by
  unfold K.QF M.QF
  with_reducible repeat' (first | exact Zj | exact Xo)
noncomputable def K.XQ (a0 : Zg) (p1 : Int) : Option (Int ⊕ Unit) :=
  bif decide (p1 < (a0.Zc.length : Int)) then (gd [decide (0 ≤ p1), decide (p1 < (a0.Zc.length : Int))] ((gc (!strEq ((a0.Zc.getD p1.toNat default).Vp) (⟨#[]⟩ : ByteArray)) (K.QF a0 ((a0.Zc.getD p1.toNat default).Vp))).bind fun r3 => (gc ((!((!strEq ((a0.Zc.getD p1.toNat default).Vp) (⟨#[]⟩ : ByteArray)) && (decide (r3 < 0)))) && (!strEq ((a0.Zc.getD p1.toNat default).Ql) (⟨#[]⟩ : ByteArray))) (K.QF a0 ((a0.Zc.getD p1.toNat default).Ql))).bind fun r4 => bif ((!strEq ((a0.Zc.getD p1.toNat default).Vp) (⟨#[]⟩ : ByteArray)) && (decide (r3 < 0))) || ((!strEq ((a0.Zc.getD p1.toNat default).Ql) (⟨#[]⟩ : ByteArray)) && (decide (r4 < 0))) then none else (some (.inl (wr .i64 (p1 + 1)))))) else (some (.inr ()))
theorem VL (a0 : Zg) (p1 : Int) : Ref (K.XQ a0 p1) (M.XQ a0 p1) := by
  unfold K.XQ M.XQ
  with_reducible repeat' (first | exact Zj | exact Xo | exact RX .. | refine ZL ?_ (fun _ => ?_) | refine XP ?_ | refine Vj ?_ | refine ZS ?_ ?_)
noncomputable def K.XZ (a0 : Zg) : Option Int :=
  (loopN 1000 (K.XQ a0) 0).bind fun y5 => some 0
theorem Ww (a0 : Zg) : Ref (K.XZ a0) (M.XZ a0) := by
  unfold K.XZ M.XZ
  with_reducible repeat' (first | exact Zj | exact VL .. | refine ZL ?_ (fun _ => ?_) | refine XJ (fun _ => ?_))
noncomputable def K.XR (a0 : Zg) (p1 : Int) : Option (Int ⊕ Unit) :=
  bif decide (p1 < (a0.Xl.length : Int)) then none else (some (.inr ()))
theorem VM (a0 : Zg) (p1 : Int) : Ref (K.XR a0 p1) (M.XR a0 p1) := by
  unfold K.XR M.XR
  with_reducible repeat' (first | exact Zj | exact Xo | refine ZS ?_ ?_)
noncomputable def K.X0 (a0 : Zg) : Option Int :=
  bif decide ((a0.Xl.length : Int) > 16) then none else ((loopN 1000 (K.XR a0) 0).bind fun y3 => some 0)
theorem Wx (a0 : Zg) : Ref (K.X0 a0) (M.X0 a0) := by
  unfold K.X0 M.X0
  with_reducible repeat' (first | exact Zj | exact Xo | exact VM .. | refine ZL ?_ (fun _ => ?_) | refine ZS ?_ ?_ | refine XJ (fun _ => ?_))
noncomputable def K.XM (a0 : Zg) : Option Int :=
  bif !a0.Yt.Qc then (bif ((a0.Yt.Z6 != 0) || (decide ((a0.Yt.XX.length : Int) > 0))) || (decide ((a0.Yt.Zw.length : Int) > 0)) then none else (some 0)) else none
theorem V4 (a0 : Zg) : Ref (K.XM a0) (M.XM a0) := by
  unfold K.XM M.XM
  with_reducible repeat' (first | exact Zj | exact Xo | refine ZS ?_ ?_)
noncomputable def K.Xg (a0 : Zg) : Option Int :=
  bif !a0.XV.Qc then (bif (((a0.XV.Z6 != 0) || (!strEq a0.XV.Vp (⟨#[]⟩ : ByteArray))) || (!strEq a0.XV.Ql (⟨#[]⟩ : ByteArray))) || (decide ((a0.XV.Zw.length : Int) > 0)) then none else (some 0)) else none
theorem J8 (a0 : Zg) : Ref (K.Xg a0) (M.Xg a0) := by
  unfold K.Xg M.Xg
  with_reducible repeat' (first | exact Zj | exact Xo | refine ZS ?_ ?_)
noncomputable def K.XD (a0 : Zg) : Option Int :=
  bif !a0.Xc.Qc then (bif ((((((a0.Xc.Xe != 0) || (a0.Xc.Xf != 0)) || (decide ((a0.Xc.Xb.length : Int) > 0))) || (decide ((a0.Xc.Xh.length : Int) > 0))) || (decide ((a0.Xc.Z2.length : Int) > 0))) || (decide ((a0.Xc.Z3.length : Int) > 0))) || (decide ((a0.Xc.Zw.length : Int) > 0)) then none else (some 0)) else none
theorem VN (a0 : Zg) : Ref (K.XD a0) (M.XD a0) := by
  unfold K.XD M.XD
  with_reducible repeat' (first | exact Zj | exact Xo | refine ZS ?_ ?_)
noncomputable def K.X7 (a0 : Zg) : Option Int :=
  (K.QD a0.XT).bind fun r1 => bif !r1 then none else ((K.XY a0.WL 0 65535).bind fun r2 => bif !r2 then none else (gd [decide (0 ≤ 0), decide (0 < (10 : Int))] ((K.XC a0).bind fun r3 => bif r3 != 0 then none else (gd [decide (0 ≤ 1), decide (1 < (10 : Int))] ((K.Xr a0).bind fun r4 => bif r4 != 0 then none else (gd [decide (0 ≤ 2), decide (2 < (10 : Int))] ((K.XL a0).bind fun r5 => bif r5 != 0 then none else (gd [decide (0 ≤ 3), decide (3 < (10 : Int))] ((K.YA a0).bind fun r6 => bif r6 != 0 then none else (gd [decide (0 ≤ 4), decide (4 < (10 : Int))] ((K.YO a0).bind fun r7 => bif r7 != 0 then none else (gd [decide (0 ≤ 5), decide (5 < (10 : Int))] ((K.XZ a0).bind fun r8 => bif r8 != 0 then none else (gd [decide (0 ≤ 6), decide (6 < (10 : Int))] ((K.X0 a0).bind fun r9 => bif r9 != 0 then none else (gd [decide (0 ≤ 7), decide (7 < (10 : Int))] ((K.XM a0).bind fun r10 => bif r10 != 0 then none else (gd [decide (0 ≤ 8), decide (8 < (10 : Int))] ((K.Xg a0).bind fun r11 => bif r11 != 0 then none else (gd [decide (0 ≤ 9), decide (9 < (10 : Int))] ((K.XD a0).bind fun r12 => bif r12 != 0 then none else (some 0))))))))))))))))))))))
theorem WT (a0 : Zg) : Ref (K.X7 a0) (M.X7 a0) := by
  unfold K.X7 M.X7
  with_reducible repeat' (first | exact Zj | exact Xo | exact Gk .. | exact Wt .. | exact VK .. | exact VC .. | exact V3 .. | exact UI .. | exact U2 .. | exact Ww .. | exact Wx .. | exact V4 .. | exact J8 .. | exact VN .. | refine ZL ?_ (fun _ => ?_) | refine XP ?_ | refine ZS ?_ ?_)
noncomputable def K.YB (a0 : Zk) (b0 : Int) : Option Bool :=
  some ((a0.X2 != 0) && (a0.XO == b0))
theorem UJ (a0 : Zk) (b0 : Int) : Ref (K.YB a0 b0) (M.YB a0 b0) := by
  unfold K.YB M.YB
  with_reducible repeat' (first | exact Zj)
noncomputable def K.Zu (a0 : List Zk) (a1c0 : Int) (p1 : Int) : Option (Int ⊕ (Unit ⊕ Int)) :=
  bif decide (p1 < (a0.length : Int)) then ((K.YB (a0.getD p1.toNat default) a1c0).bind fun r3 => gd [decide (0 ≤ p1), decide (p1 < (a0.length : Int))] (bif r3 then (some (.inr (.inr p1))) else (some (.inl (wr .i64 (p1 + 1)))))) else (some (.inr (.inl ())))
theorem YG (a0 : List Zk) (a1c0 : Int) (p1 : Int) : Ref (K.Zu a0 a1c0 p1) (M.Zu a0 a1c0 p1) := by
  unfold K.Zu M.Zu
  with_reducible repeat' (first | exact Zj | exact UJ .. | refine ZL ?_ (fun _ => ?_) | refine XP ?_ | refine ZS ?_ ?_)
noncomputable def K.Zq (a0 : List Zk) (a1c0 : Int) : Option Int :=
  (loopN 1000 (K.Zu a0 a1c0) 0).bind fun y4 => Sum.elim (fun _ => some (-1)) (fun y6 => some y6) y4
theorem YM (a0 : List Zk) (a1c0 : Int) : Ref (K.Zq a0 a1c0) (M.Zq a0 a1c0) := by
  unfold K.Zq M.Zq
  with_reducible repeat' (first | exact Zj | exact YG .. | refine ZL ?_ (fun _ => ?_) | refine Vk (fun _ => ?_) (fun _ => ?_) | refine XJ (fun _ => ?_))
noncomputable def K.YX (a0 : Zg) (a1 : Int) : Option Int :=
  (K.Zq a0.Zc a1).bind fun r1 => some r1
theorem Gq (a0 : Zg) (a1 : Int) : Ref (K.YX a0 a1) (M.YX a0 a1) := by
  unfold K.YX M.YX
  with_reducible repeat' (first | exact Zj | exact YM .. | refine ZL ?_ (fun _ => ?_))
noncomputable def K.XN (a0 : Zk) (b0 : Zg) : Option Bool :=
  (gc (a0.X2 != 0) (K.YX b0 a0.XO)).bind fun r1 => some ((a0.X2 != 0) && (decide (r1 ≥ 0)))
theorem V5 (a0 : Zk) (b0 : Zg) : Ref (K.XN a0 b0) (M.XN a0 b0) := by
  unfold K.XN M.XN
  with_reducible repeat' (first | exact Zj | exact Gq .. | refine ZL ?_ (fun _ => ?_) | refine Vj ?_)
noncomputable def K.Zo (a0 : List Zk) (a1c0 : Zg) (p1 : Int) : Option (Int ⊕ (Unit ⊕ Int)) :=
  bif decide (p1 < (a0.length : Int)) then ((K.XN (a0.getD p1.toNat default) a1c0).bind fun r3 => gd [decide (0 ≤ p1), decide (p1 < (a0.length : Int))] (bif r3 then (some (.inr (.inr p1))) else (some (.inl (wr .i64 (p1 + 1)))))) else (some (.inr (.inl ())))
theorem Yl (a0 : List Zk) (a1c0 : Zg) (p1 : Int) : Ref (K.Zo a0 a1c0 p1) (M.Zo a0 a1c0 p1) := by
  unfold K.Zo M.Zo
  with_reducible repeat' (first | exact Zj | exact V5 .. | refine ZL ?_ (fun _ => ?_) | refine XP ?_ | refine ZS ?_ ?_)
noncomputable def K.Zl (a0 : List Zk) (a1c0 : Zg) : Option Int :=
  (loopN 1000 (K.Zo a0 a1c0) 0).bind fun y4 => Sum.elim (fun _ => some (-1)) (fun y6 => some y6) y4
theorem Yx (a0 : List Zk) (a1c0 : Zg) : Ref (K.Zl a0 a1c0) (M.Zl a0 a1c0) := by
  unfold K.Zl M.Zl
  with_reducible repeat' (first | exact Zj | exact Yl .. | refine ZL ?_ (fun _ => ?_) | refine Vk (fun _ => ?_) (fun _ => ?_) | refine XJ (fun _ => ?_))
noncomputable def K.Zh (a0 : List Zk) (a1c0 : Zg) : Option Bool :=
  (K.Zl a0 a1c0).bind fun r1 => some (decide (r1 ≥ 0))
theorem Ym (a0 : List Zk) (a1c0 : Zg) : Ref (K.Zh a0 a1c0) (M.Zh a0 a1c0) := by
  unfold K.Zh M.Zh
  with_reducible repeat' (first | exact Zj | exact Yx .. | refine ZL ?_ (fun _ => ?_))
noncomputable def K.X1 (a0 : Zg) (a1 : Zg) : Option Bool :=
  (K.Zh a1.Zc a0).bind fun r1 => some r1
theorem Wy (a0 : Zg) (a1 : Zg) : Ref (K.X1 a0 a1) (M.X1 a0 a1) := by
  unfold K.X1 M.X1
  with_reducible repeat' (first | exact Zj | exact Ym .. | refine ZL ?_ (fun _ => ?_))
noncomputable def K.Y1 (a0 : Z7) (p1 : Int) (p4 : Int) : Option (Int ⊕ Unit) :=
  bif decide (p4 < ((p1.toNat - 0 : Nat) : Int)) then (gd [decide (0 ≤ p4), decide (p4 < (((a0.Ze.drop 0).take (p1.toNat - 0)).length : Int))] ((gc (!(strEq ((((a0.Ze.drop 0).take (p1.toNat - 0)).getD p4.toNat default).XT) ((a0.Ze.getD p1.toNat default).XT))) (K.X1 (((a0.Ze.drop 0).take (p1.toNat - 0)).getD p4.toNat default) (a0.Ze.getD p1.toNat default))).bind fun r6 => bif (strEq ((((a0.Ze.drop 0).take (p1.toNat - 0)).getD p4.toNat default).XT) ((a0.Ze.getD p1.toNat default).XT)) || r6 then none else (some (.inl (wr .i64 (p4 + 1)))))) else (some (.inr ()))
theorem U3 (a0 : Z7) (p1 : Int) (p4 : Int) : Ref (K.Y1 a0 p1 p4) (M.Y1 a0 p1 p4) := by
  unfold K.Y1 M.Y1
  with_reducible repeat' (first | exact Zj | exact Xo | exact Wy .. | refine ZL ?_ (fun _ => ?_) | refine XP ?_ | refine Vj ?_ | refine ZS ?_ ?_)
noncomputable def K.Y2 (a0 : Z7) (p1 : Int) : Option (Int ⊕ Unit) :=
  bif decide (p1 < (a0.Ze.length : Int)) then (gd [decide (0 ≤ p1), decide (p1 < (a0.Ze.length : Int))] ((K.X7 (a0.Ze.getD p1.toNat default)).bind fun r3 => bif r3 != 0 then none else (gd [decide (0 ≤ p1), decide (p1 ≤ (a0.Ze.length : Int))] ((loopN 1000 (K.Y1 a0 p1) 0).bind fun y7 => some (.inl (wr .i64 (p1 + 1))))))) else (some (.inr ()))
theorem U4 (a0 : Z7) (p1 : Int) : Ref (K.Y2 a0 p1) (M.Y2 a0 p1) := by
  unfold K.Y2 M.Y2
  with_reducible repeat' (first | exact Zj | exact Xo | exact WT .. | exact U3 .. | refine ZL ?_ (fun _ => ?_) | refine XP ?_ | refine ZS ?_ ?_ | refine XJ (fun _ => ?_))
noncomputable def K.Qn (a0 : Z7) : Option Int :=
  bif decide ((a0.Ze.length : Int) > 8) then none else ((loopN 1000 (K.Y2 a0) 0).bind fun y8 => some 0)
theorem Kj (a0 : Z7) : Ref (K.Qn a0) (M.Qn a0) := by
  unfold K.Qn M.Qn
  with_reducible repeat' (first | exact Zj | exact Xo | exact U4 .. | refine ZL ?_ (fun _ => ?_) | refine ZS ?_ ?_ | refine XJ (fun _ => ?_))
noncomputable def K.Ya (i : Int) (p : (List Zp) × (List (ZC × Int)) × Int) (q : (List Zp) × (List (ZC × Int)) × Int) : Option (((List Zp) × (List (ZC × Int)) × Int) ⊕ ((List Zp) × (List (ZC × Int)))) :=
  gd [decide (0 ≤ q.2.2), decide (q.2.2 < (q.1.length : Int)), decide (((q.1.getD (0 + q.2.2.toNat) default).XA.length + 1) * 16 ≤ 140737488355328)] (some (.inl (q.1.set (0 + q.2.2.toNat) ⟨(q.1.getD (0 + q.2.2.toNat) default).Z5, (q.1.getD (0 + q.2.2.toNat) default).Xj, (q.1.getD (0 + q.2.2.toNat) default).XA ++ [⟨i, p.2.2⟩]⟩, q.2.1, wr .i64 (p.2.2 + 1))))
theorem U5 (i : Int) (p : (List Zp) × (List (ZC × Int)) × Int) (q : (List Zp) × (List (ZC × Int)) × Int) : Ref (K.Ya i p q) (M.Ya i p q) := by
  unfold K.Ya M.Ya
  with_reducible repeat' (first | exact Zj | refine XP ?_)
noncomputable def K.YC (a0 : Z7) (i : Int) (p : (List Zp) × (List (ZC × Int)) × Int) : Option (((List Zp) × (List (ZC × Int)) × Int) ⊕ ((List Zp) × (List (ZC × Int)))) :=
  bif decide (p.2.2 < (((a0.Ze.getD i.toNat default).Zc).length : Int)) then (gd [decide (0 ≤ p.2.2), decide (p.2.2 < (((a0.Ze.getD i.toNat default).Zc).length : Int))] (bif (((a0.Ze.getD i.toNat default).Zc.getD p.2.2.toNat default).X2 == 0) || ((a0.Ze.getD i.toNat default).Zc.getD p.2.2.toNat default).UE then (some (.inl (p.1, p.2.1, wr .i64 (p.2.2 + 1)))) else ((K.Yh ((a0.Ze.getD i.toNat default).Zc.getD p.2.2.toNat default).XO ((a0.Ze.getD i.toNat default).Zc.getD p.2.2.toNat default).X2).bind fun r => bif !(lkM (topoKeyEq ⟨r, ((a0.Ze.getD i.toNat default).Zc.getD p.2.2.toNat default).Xj⟩) p.2.1).2 then (gd [decide ((p.1.length + 1) * 48 ≤ 140737488355328)] (K.Ya i p (p.1 ++ [⟨r, ((a0.Ze.getD i.toNat default).Zc.getD p.2.2.toNat default).Xj, []⟩], p.2.1 ++ [(⟨r, ((a0.Ze.getD i.toNat default).Zc.getD p.2.2.toNat default).Xj⟩, (p.1.length : Int))], (p.1.length : Int)))) else (K.Ya i p (p.1, p.2.1, (lkM (topoKeyEq ⟨r, ((a0.Ze.getD i.toNat default).Zc.getD p.2.2.toNat default).Xj⟩) p.2.1).1))))) else (some (.inr (p.1, p.2.1)))
theorem UK (a0 : Z7) (i : Int) (p : (List Zp) × (List (ZC × Int)) × Int) : Ref (K.YC a0 i p) (M.YC a0 i p) := by
  unfold K.YC M.YC
  with_reducible repeat' (first | exact Zj | exact Wu .. | exact U5 .. | refine ZL ?_ (fun _ => ?_) | refine XP ?_ | refine ZS ?_ ?_)
noncomputable def K.YD (a0 : Z7) (p : (List Zp) × (List (ZC × Int)) × Int) : Option (((List Zp) × (List (ZC × Int)) × Int) ⊕ (List Zp)) :=
  bif decide (p.2.2 < (a0.Ze.length : Int)) then (gd [decide (0 ≤ p.2.2), decide (p.2.2 < (a0.Ze.length : Int))] ((loopN 1000 (K.YC a0 p.2.2) (p.1, p.2.1, 0)).bind fun y => some (.inl (y.1, y.2, wr .i64 (p.2.2 + 1))))) else (some (.inr p.1))
theorem UL (a0 : Z7) (p : (List Zp) × (List (ZC × Int)) × Int) : Ref (K.YD a0 p) (M.YD a0 p) := by
  unfold K.YD M.YD
  with_reducible repeat' (first | exact Zj | exact UK .. | refine ZL ?_ (fun _ => ?_) | refine XP ?_ | refine ZS ?_ ?_ | refine XJ (fun _ => ?_))
noncomputable def K.Qa (a0 : Z7) : Option (List Zp) :=
  (loopN 1000 (K.YD a0) ([], [], 0)).bind fun y => some y
theorem Kb (a0 : Z7) : Ref (K.Qa a0) (M.Qa a0) := by
  unfold K.Qa M.Qa
  with_reducible repeat' (first | exact Zj | exact UL .. | refine ZL ?_ (fun _ => ?_) | refine XJ (fun _ => ?_))
noncomputable def K.Xw (a0 : Int) : Option Bool :=
  some (a0 != a0)
theorem Ud (a0 : Int) : Ref (K.Xw a0) (M.Xw a0) := by
  unfold K.Xw M.Xw
  with_reducible repeat' (first | exact Zj)
noncomputable def K.XB (a0 : Int) (a1 : Int) : Option Int :=
  (K.Xw a0).bind fun r1 => (K.Xw a1).bind fun r2 => bif r1 then (bif r2 then (some 0) else (some (-1))) else (bif r2 then (some 1) else (bif decide (a0 < a1) then (some (-1)) else (bif decide (a0 > a1) then (some 1) else (some 0))))
theorem Wz (a0 : Int) (a1 : Int) : Ref (K.XB a0 a1) (M.XB a0 a1) := by
  unfold K.XB M.XB
  with_reducible repeat' (first | exact Zj | exact Ud .. | refine ZL ?_ (fun _ => ?_) | refine ZS ?_ ?_)
noncomputable def K.X4 (a0 : Int) : Option Bool :=
  some (a0 != a0)
theorem Gr (a0 : Int) : Ref (K.X4 a0) (M.X4 a0) := by
  unfold K.X4 M.X4
  with_reducible repeat' (first | exact Zj)
noncomputable def K.XI (a0 : Int) (a1 : Int) : Option Int :=
  (K.X4 a0).bind fun r1 => (K.X4 a1).bind fun r2 => bif r1 then (bif r2 then (some 0) else (some (-1))) else (bif r2 then (some 1) else (bif decide (a0 < a1) then (some (-1)) else (bif decide (a0 > a1) then (some 1) else (some 0))))
theorem VA (a0 : Int) (a1 : Int) : Ref (K.XI a0 a1) (M.XI a0 a1) := by
  unfold K.XI M.XI
  with_reducible repeat' (first | exact Zj | exact Gr .. | refine ZL ?_ (fun _ => ?_) | refine ZS ?_ ?_)
noncomputable def K.YP (a0 : Z4) (a1 : Z4) : Option Int :=
  (K.XB a0.XO a1.XO).bind fun r1 => bif r1 != 0 then (some r1) else ((K.XI a0.X2 a1.X2).bind fun r2 => some r2)
theorem Kc (a0 : Z4) (a1 : Z4) : Ref (K.YP a0 a1) (M.YP a0 a1) := by
  unfold K.YP M.YP
  with_reducible repeat' (first | exact Zj | exact Wz .. | exact VA .. | refine ZL ?_ (fun _ => ?_) | refine ZS ?_ ?_)
noncomputable def K.XU (a0 : List Int) (p1 : Int) : Option (Int ⊕ (Unit ⊕ Int)) :=
  bif decide (p1 < (a0.length : Int)) then (gd [decide (0 ≤ p1), decide (p1 < (a0.length : Int))] (bif (a0.getD p1.toNat default) != 0 then (some (.inr (.inr (a0.getD p1.toNat default)))) else (some (.inl (wr .i64 (p1 + 1)))))) else (some (.inr (.inl ())))
theorem Gs (a0 : List Int) (p1 : Int) : Ref (K.XU a0 p1) (M.XU a0 p1) := by
  unfold K.XU M.XU
  with_reducible repeat' (first | exact Zj | refine XP ?_ | refine ZS ?_ ?_)
noncomputable def K.Qi (a0 : List Int) : Option Int :=
  (loopN 1000 (K.XU a0) 0).bind fun y3 => Sum.elim (fun _ => some 0) (fun y5 => some y5) y3
theorem Rd (a0 : List Int) : Ref (K.Qi a0) (M.Qi a0) := by
  unfold K.Qi M.Qi
  with_reducible repeat' (first | exact Zj | exact Gs .. | refine ZL ?_ (fun _ => ?_) | refine Vk (fun _ => ?_) (fun _ => ?_) | refine XJ (fun _ => ?_))
noncomputable def K.YE (a0 : Zp) (a1 : Zp) : Option Int :=
  (K.YP a0.Z5 a1.Z5).bind fun r1 => (K.XI a0.Xj a1.Xj).bind fun r2 => (K.Qi ([r1, r2] : List Int)).bind fun r3 => some r3
theorem Kd (a0 : Zp) (a1 : Zp) : Ref (K.YE a0 a1) (M.YE a0 a1) := by
  unfold K.YE M.YE
  with_reducible repeat' (first | exact Zj | exact VA .. | exact Kc .. | exact Rd .. | refine ZL ?_ (fun _ => ?_))
noncomputable def K.ZQ (a0 : List Zp) : Option (List Zp) :=
  sortK K.YE a0
theorem Y9 (a0 : List Zp) : Ref (K.ZQ a0) (M.ZQ a0) := Zbd Kd so_topo_Build_1
noncomputable def K.Yv (p5 : (List Int) × Int) (p7 : (List Int)) : Option (((List Int) × Int) ⊕ (List Int)) :=
  some (.inl (p7, wr .i64 (p5.2 + 1)))
theorem Gt (p5 : (List Int) × Int) (p7 : (List Int)) : Ref (K.Yv p5 p7) (M.Yv p5 p7) := by
  unfold K.Yv M.Yv
  with_reducible repeat' (first | exact Zj)
noncomputable def K.Qd (r3 : (List Zp)) (p5 : (List Int) × Int) : Option (((List Int) × Int) ⊕ (List Int)) :=
  bif decide (p5.2 < (r3.length : Int)) then (gd [decide (0 ≤ p5.2), decide (p5.2 < (r3.length : Int))] (bif decide ((((r3.getD p5.2.toNat default).XA).length : Int) ≥ 2) then (gd [decide ((p5.1.length + 1) * 8 ≤ 140737488355328)] (K.Yv p5 (p5.1 ++ [p5.2]))) else (K.Yv p5 p5.1))) else (some (.inr p5.1))
theorem Gu (r3 : (List Zp)) (p5 : (List Int) × Int) : Ref (K.Qd r3 p5) (M.Qd r3 p5) := by
  unfold K.Qd M.Qd
  with_reducible repeat' (first | exact Zj | exact Gt .. | refine XP ?_ | refine ZS ?_ ?_)
noncomputable def K.QS (a0 : Z7) : Option (Q4 × Int) :=
  (K.Qn a0).bind fun r1 => bif r1 != 0 then none else ((K.Qa a0).bind fun r2 => (K.ZQ r2).bind fun r3 => gd [decide (r3.length = r2.length)] ((loopN 1000 (K.Qd r3) (([] : List Int), 0)).bind fun y8 => bif decide ((y8.length : Int) > 12) then none else (some ((⟨r3, y8⟩ : Q4), 0))))
theorem Re (a0 : Z7) : Ref (K.QS a0) (M.QS a0) := by
  unfold K.QS M.QS
  with_reducible repeat' (first | exact Zj | exact Xo | exact Kj .. | exact Kb .. | exact Y9 .. | exact Gu .. | refine ZL ?_ (fun _ => ?_) | refine XP ?_ | refine ZS ?_ ?_ | refine XJ (fun _ => ?_))
noncomputable def K.ZW (a0 : List Zg) : Option (List Zg) :=
  gd [decide (0 = 0) || decide (0 < a0.length), decide ((0 + a0.length) * 448 ≤ 140737488355328)] (some a0)
theorem Jk (a0 : List Zg) : Ref (K.ZW a0) (M.ZW a0) := by
  unfold K.ZW M.ZW
  with_reducible repeat' (first | exact Zj | refine XP ?_)
noncomputable def K.ZH (a0 : List Zk) : Option (List Zk) :=
  gd [decide (0 = 0) || decide (0 < a0.length), decide ((0 + a0.length) * 112 ≤ 140737488355328)] (some a0)
theorem QU (a0 : List Zk) : Ref (K.ZH a0) (M.ZH a0) := by
  unfold K.ZH M.ZH
  with_reducible repeat' (first | exact Zj | refine XP ?_)
noncomputable def K.ZG (a0 : List ZZ) : Option (List ZZ) :=
  gd [decide (0 = 0) || decide (0 < a0.length), decide ((0 + a0.length) * 40 ≤ 140737488355328)] (some a0)
theorem QH (a0 : List ZZ) : Ref (K.ZG a0) (M.ZG a0) := by
  unfold K.ZG M.ZG
  with_reducible repeat' (first | exact Zj | refine XP ?_)
noncomputable def K.ZN (a0 : List Xu) : Option (List Xu) :=
  gd [decide (0 = 0) || decide (0 < a0.length), decide ((0 + a0.length) * 40 ≤ 140737488355328)] (some a0)
theorem Q5 (a0 : List Xu) : Ref (K.ZN a0) (M.ZN a0) := by
  unfold K.ZN M.ZN
  with_reducible repeat' (first | exact Zj | refine XP ?_)
noncomputable def K.Z9 (a0 : List VI) : Option (List VI) :=
  gd [decide (0 = 0) || decide (0 < a0.length), decide ((0 + a0.length) * 40 ≤ 140737488355328)] (some a0)
theorem JR (a0 : List VI) : Ref (K.Z9 a0) (M.Z9 a0) := by
  unfold K.Z9 M.Z9
  with_reducible repeat' (first | exact Zj | refine XP ?_)
noncomputable def K.ZD (a0 : List Yf) : Option (List Yf) :=
  gd [decide (0 = 0) || decide (0 < a0.length), decide ((0 + a0.length) * 64 ≤ 140737488355328)] (some a0)
theorem Qt (a0 : List Yf) : Ref (K.ZD a0) (M.ZD a0) := by
  unfold K.ZD M.ZD
  with_reducible repeat' (first | exact Zj | refine XP ?_)
noncomputable def K.ZE (a0 : List Yg) : Option (List Yg) :=
  gd [decide (0 = 0) || decide (0 < a0.length), decide ((0 + a0.length) * 64 ≤ 140737488355328)] (some a0)
theorem Qu (a0 : List Yg) : Ref (K.ZE a0) (M.ZE a0) := by
  unfold K.ZE M.ZE
  with_reducible repeat' (first | exact Zj | refine XP ?_)
noncomputable def K.ZI (a0 : List YR) : Option (List YR) :=
  gd [decide (0 = 0) || decide (0 < a0.length), decide ((0 + a0.length) * 24 ≤ 140737488355328)] (some a0)
theorem QV (a0 : List YR) : Ref (K.ZI a0) (M.ZI a0) := by
  unfold K.ZI M.ZI
  with_reducible repeat' (first | exact Zj | refine XP ?_)
noncomputable def K.Zz (a0 : List YN) : Option (List YN) :=
  gd [decide (0 = 0) || decide (0 < a0.length), decide ((0 + a0.length) * 48 ≤ 140737488355328)] (some a0)
theorem Jl (a0 : List YN) : Ref (K.Zz a0) (M.Zz a0) := by
  unfold K.Zz M.Zz
  with_reducible repeat' (first | exact Zj | refine XP ?_)
noncomputable def K.ZO (a0 : List Qe) : Option (List Qe) :=
  gd [decide (0 = 0) || decide (0 < a0.length), decide ((0 + a0.length) * 48 ≤ 140737488355328)] (some a0)
theorem Q6 (a0 : List Qe) : Ref (K.ZO a0) (M.ZO a0) := by
  unfold K.ZO M.ZO
  with_reducible repeat' (first | exact Zj | refine XP ?_)
noncomputable def K.ZX (a0 : List Z4) : Option (List Z4) :=
  gd [decide (0 = 0) || decide (0 < a0.length), decide ((0 + a0.length) * 16 ≤ 140737488355328)] (some a0)
theorem Jm (a0 : List Z4) : Ref (K.ZX a0) (M.ZX a0) := by
  unfold K.ZX M.ZX
  with_reducible repeat' (first | exact Zj | refine XP ?_)
noncomputable def K.ZJ (a0 : List YS) : Option (List YS) :=
  gd [decide (0 = 0) || decide (0 < a0.length), decide ((0 + a0.length) * 24 ≤ 140737488355328)] (some a0)
theorem QW (a0 : List YS) : Ref (K.ZJ a0) (M.ZJ a0) := by
  unfold K.ZJ M.ZJ
  with_reducible repeat' (first | exact Zj | refine XP ?_)
noncomputable def K.ZK (a0 : List YT) : Option (List YT) :=
  gd [decide (0 = 0) || decide (0 < a0.length), decide ((0 + a0.length) * 40 ≤ 140737488355328)] (some a0)
theorem QX (a0 : List YT) : Ref (K.ZK a0) (M.ZK a0) := by
  unfold K.ZK M.ZK
  with_reducible repeat' (first | exact Zj | refine XP ?_)
noncomputable def K.Yb (r2 : (List ZZ)) (p3 : Int) : Option (Int ⊕ Unit) :=
  bif decide (p3 < (r2.length : Int)) then none else (some (.inr ()))
theorem WA (r2 : (List ZZ)) (p3 : Int) : Ref (K.Yb r2 p3) (M.Yb r2 p3) := by
  unfold K.Yb M.Yb
  with_reducible repeat' (first | exact Zj | exact Xo | refine ZS ?_ ?_)
noncomputable def K.Yc (r6 : (List Xu)) (p7 : Int) : Option (Int ⊕ Unit) :=
  bif decide (p7 < (r6.length : Int)) then none else (some (.inr ()))
theorem WB (r6 : (List Xu)) (p7 : Int) : Ref (K.Yc r6 p7) (M.Yc r6 p7) := by
  unfold K.Yc M.Yc
  with_reducible repeat' (first | exact Zj | exact Xo | refine ZS ?_ ?_)
noncomputable def K.Yd (r10 : (List VI)) (p11 : Int) : Option (Int ⊕ Unit) :=
  bif decide (p11 < (r10.length : Int)) then none else (some (.inr ()))
theorem WC (r10 : (List VI)) (p11 : Int) : Ref (K.Yd r10 p11) (M.Yd r10 p11) := by
  unfold K.Yd M.Yd
  with_reducible repeat' (first | exact Zj | exact Xo | refine ZS ?_ ?_)
noncomputable def K.YF (a0 : Zg) : Option Zg :=
  (K.ZH a0.Zc).bind fun r1 => (K.ZG a0.JQ).bind fun r2 => (loopN 1000 (K.Yb r2) 0).bind fun y5 => (K.ZN a0.Jp).bind fun r6 => (loopN 1000 (K.Yc r6) 0).bind fun y9 => (K.Z9 a0.Qw).bind fun r10 => (loopN 1000 (K.Yd r10) 0).bind fun y13 => (K.ZD a0.Jd).bind fun r14 => (K.ZE a0.Xl).bind fun r15 => (K.ZI a0.Yt.XX).bind fun r16 => (K.Zz a0.Yt.Zw).bind fun r17 => (K.Zz a0.XV.Zw).bind fun r18 => (K.ZO a0.Xc.Xb).bind fun r19 => (K.ZX a0.Xc.Xh).bind fun r20 => (K.ZJ a0.Xc.Z2).bind fun r21 => (K.ZK a0.Xc.Z3).bind fun r22 => (K.Zz a0.Xc.Zw).bind fun r23 => some (⟨a0.XT, a0.WL, r1, r2, r6, r10, r14, r15, (⟨a0.Yt.Qc, a0.Yt.Z6, r16, r17⟩ : Jw), (⟨a0.XV.Qc, a0.XV.Z6, a0.XV.Vp, a0.XV.Ql, r18⟩ : Y6), (⟨a0.Xc.Qc, a0.Xc.Xe, a0.Xc.Xf, r19, r20, r21, r22, r23⟩ : Jc)⟩ : Zg)
theorem UM (a0 : Zg) : Ref (K.YF a0) (M.YF a0) := by
  unfold K.YF M.YF
  with_reducible repeat' (first | exact Zj | exact QU .. | exact QH .. | exact Q5 .. | exact JR .. | exact Qt .. | exact Qu .. | exact QV .. | exact Jl .. | exact Q6 .. | exact Jm .. | exact QW .. | exact QX .. | exact WA .. | exact WB .. | exact WC .. | refine ZL ?_ (fun _ => ?_) | refine XJ (fun _ => ?_))
noncomputable def K.X5 (r1 : (List Zg)) (p2 : (List Zg) × Int) : Option (((List Zg) × Int) ⊕ (List Zg)) :=
  bif decide (p2.2 < (r1.length : Int)) then ((K.YF (p2.1.getD (0 + p2.2.toNat) default)).bind fun r4 => gd [decide (0 ≤ p2.2), decide (p2.2 < (p2.1.length : Int)), decide (0 ≤ p2.2), decide (p2.2 < (p2.1.length : Int))] (some (.inl (p2.1.set (0 + p2.2.toNat) r4, wr .i64 (p2.2 + 1))))) else (some (.inr p2.1))
theorem V6 (r1 : (List Zg)) (p2 : (List Zg) × Int) : Ref (K.X5 r1 p2) (M.X5 r1 p2) := by
  unfold K.X5 M.X5
  with_reducible repeat' (first | exact Zj | exact UM .. | refine ZL ?_ (fun _ => ?_) | refine XP ?_ | refine ZS ?_ ?_)
noncomputable def K.Yi (a0 : Z7) : Option Z7 :=
  (K.ZW a0.Ze).bind fun r1 => (loopN 1000 (K.X5 r1) (r1, 0)).bind fun y5 => some (⟨y5⟩ : Z7)
theorem Ue (a0 : Z7) : Ref (K.Yi a0) (M.Yi a0) := by
  unfold K.Yi M.Yi
  with_reducible repeat' (first | exact Zj | exact Jk .. | exact V6 .. | refine ZL ?_ (fun _ => ?_) | refine XJ (fun _ => ?_))
noncomputable def K.Qo (a1 : List Int) (r1 : Q4 × Int) (p2 : Int) : Option (Int ⊕ Unit) :=
  bif decide (p2 < (a1.length : Int)) then (gd [decide (0 ≤ p2), decide (p2 < (a1.length : Int))] (gd [guardB ((!((decide ((a1.getD p2.toNat default) < 0)) || (decide ((a1.getD p2.toNat default) ≥ (r1.1.QC.length : Int))))) && (decide (p2 > 0))) (decide (0 ≤ (wr .i64 (p2 - 1)))), guardB ((!((decide ((a1.getD p2.toNat default) < 0)) || (decide ((a1.getD p2.toNat default) ≥ (r1.1.QC.length : Int))))) && (decide (p2 > 0))) (decide ((wr .i64 (p2 - 1)) < (a1.length : Int)))] (bif ((decide ((a1.getD p2.toNat default) < 0)) || (decide ((a1.getD p2.toNat default) ≥ (r1.1.QC.length : Int)))) || ((decide (p2 > 0)) && (decide ((a1.getD p2.toNat default) ≤ (a1.getD (wr .i64 (p2 - 1)).toNat default)))) then none else (some (.inl (wr .i64 (p2 + 1))))))) else (some (.inr ()))
theorem Ke (a1 : List Int) (r1 : Q4 × Int) (p2 : Int) : Ref (K.Qo a1 r1 p2) (M.Qo a1 r1 p2) := by
  unfold K.Qo M.Qo
  with_reducible repeat' (first | exact Zj | exact Xo | refine XP ?_ | refine ZS ?_ ?_)
noncomputable def K.QG (a0 : Z7) (a1 : List Int) : Option (Jq × Int) :=
  (K.QS a0).bind fun r1 => bif r1.2 != 0 then none else (bif decide ((a1.length : Int) > 2) then none else ((loopN 1000 (K.Qo a1 r1) 0).bind fun y4 => (K.Yi a0).bind fun r5 => (K.Xd a1).bind fun r6 => some ((⟨r5, r1.1, r6⟩ : Jq), 0)))
theorem RY (a0 : Z7) (a1 : List Int) : Ref (K.QG a0 a1) (M.QG a0 a1) := by
  unfold K.QG M.QG
  with_reducible repeat' (first | exact Zj | exact Xo | exact JI .. | exact Re .. | exact Ue .. | exact Ke .. | refine ZL ?_ (fun _ => ?_) | refine ZS ?_ ?_ | refine XJ (fun _ => ?_))
noncomputable def K.Z8 (a0 : List Je) (a1 : Je) (p1 : Int) : Option (Int ⊕ (Unit ⊕ Int)) :=
  bif decide (p1 < (a0.length : Int)) then (gd [decide (0 ≤ p1), decide (p1 < (a0.length : Int))] (bif ((a1.WM == ((a0.getD p1.toNat default).WM)) && ((a1.Ws == ((a0.getD p1.toNat default).Ws)) && true)) then (some (.inr (.inr p1))) else (some (.inl (wr .i64 (p1 + 1)))))) else (some (.inr (.inl ())))
theorem JB (a0 : List Je) (a1 : Je) (p1 : Int) : Ref (K.Z8 a0 a1 p1) (M.Z8 a0 a1 p1) := by
  unfold K.Z8 M.Z8
  with_reducible repeat' (first | exact Zj | refine XP ?_ | refine ZS ?_ ?_)
noncomputable def K.Xa (a0 : List Je) (a1 : Je) : Option Int :=
  (loopN 1000 (K.Z8 a0 a1) 0).bind fun y3 => Sum.elim (fun _ => some (-1)) (fun y5 => some y5) y3
theorem JS (a0 : List Je) (a1 : Je) : Ref (K.Xa a0 a1) (M.Xa a0 a1) := by
  unfold K.Xa M.Xa
  with_reducible repeat' (first | exact Zj | exact JB .. | refine ZL ?_ (fun _ => ?_) | refine Vk (fun _ => ?_) (fun _ => ?_) | refine XJ (fun _ => ?_))
noncomputable def K.Z1 (a0 : List Je) (a1 : Je) : Option Bool :=
  (K.Xa a0 a1).bind fun r1 => some (decide (r1 ≥ 0))
theorem JC (a0 : List Je) (a1 : Je) : Ref (K.Z1 a0 a1) (M.Z1 a0 a1) := by
  unfold K.Z1 M.Z1
  with_reducible repeat' (first | exact Zj | exact JS .. | refine ZL ?_ (fun _ => ?_))
noncomputable def K.Y3 (a0 : Jq) (a1 : Int) (a2 : Int) (p1 : Int) : Option (Int ⊕ (Unit ⊕ Int)) :=
  bif decide (p1 < (a0.Qx.YI.length : Int)) then (gd [decide (0 ≤ p1), decide (p1 < (a0.Qx.YI.length : Int))] ((K.Z1 ((a0.Qx.YI.getD p1.toNat default).XA) (⟨a1, a2⟩ : Je)).bind fun r3 => bif r3 then (some (.inr (.inr p1))) else (some (.inl (wr .i64 (p1 + 1)))))) else (some (.inr (.inl ())))
theorem U6 (a0 : Jq) (a1 : Int) (a2 : Int) (p1 : Int) : Ref (K.Y3 a0 a1 a2 p1) (M.Y3 a0 a1 a2 p1) := by
  unfold K.Y3 M.Y3
  with_reducible repeat' (first | exact Zj | exact JC .. | refine ZL ?_ (fun _ => ?_) | refine XP ?_ | refine ZS ?_ ?_)
noncomputable def K.Y4 (a0 : Jq) (a1 : Int) (a2 : Int) : Option Int :=
  (loopN 1000 (K.Y3 a0 a1 a2) 0).bind fun y4 => Sum.elim (fun _ => none) (fun y6 => some y6) y4
theorem WZ (a0 : Jq) (a1 : Int) (a2 : Int) : Ref (K.Y4 a0 a1 a2) (M.Y4 a0 a1 a2) := by
  unfold K.Y4 M.Y4
  with_reducible repeat' (first | exact Zj | exact Xo | exact U6 .. | refine ZL ?_ (fun _ => ?_) | refine Vk (fun _ => ?_) (fun _ => ?_) | refine XJ (fun _ => ?_))
noncomputable def K.XF (a0 : List Int) (a1 : Int) (p1 : Int) : Option (Int ⊕ (Unit ⊕ Int)) :=
  bif decide (p1 < (a0.length : Int)) then (gd [decide (0 ≤ p1), decide (p1 < (a0.length : Int))] (bif a1 == (a0.getD p1.toNat default) then (some (.inr (.inr p1))) else (some (.inl (wr .i64 (p1 + 1)))))) else (some (.inr (.inl ())))
theorem Vr (a0 : List Int) (a1 : Int) (p1 : Int) : Ref (K.XF a0 a1 p1) (M.XF a0 a1 p1) := by
  unfold K.XF M.XF
  with_reducible repeat' (first | exact Zj | refine XP ?_ | refine ZS ?_ ?_)
noncomputable def K.Xm (a0 : List Int) (a1 : Int) : Option Int :=
  (loopN 1000 (K.XF a0 a1) 0).bind fun y3 => Sum.elim (fun _ => some (-1)) (fun y5 => some y5) y3
theorem JJ (a0 : List Int) (a1 : Int) : Ref (K.Xm a0 a1) (M.Xm a0 a1) := by
  unfold K.Xm M.Xm
  with_reducible repeat' (first | exact Zj | exact Vr .. | refine ZL ?_ (fun _ => ?_) | refine Vk (fun _ => ?_) (fun _ => ?_) | refine XJ (fun _ => ?_))
noncomputable def K.Jh (a0 : Jq) (a1 : Int) (a2 : Int) : Option Int :=
  (K.Y4 a0 a1 a2).bind fun r1 => bif decide (r1 < 0) then none else ((K.Xm a0.Qx.QC r1).bind fun r2 => some r2)
theorem RZ (a0 : Jq) (a1 : Int) (a2 : Int) : Ref (K.Jh a0 a1 a2) (M.Jh a0 a1 a2) := by
  unfold K.Jh M.Jh
  with_reducible repeat' (first | exact Zj | exact Xo | exact WZ .. | exact JJ .. | refine ZL ?_ (fun _ => ?_) | refine ZS ?_ ?_)
noncomputable def K.Xp (a0 : List Int) (a1 : Int) : Option Bool :=
  (K.Xm a0 a1).bind fun r1 => some (decide (r1 ≥ 0))
theorem Vt (a0 : List Int) (a1 : Int) : Ref (K.Xp a0 a1) (M.Xp a0 a1) := by
  unfold K.Xp M.Xp
  with_reducible repeat' (first | exact Zj | exact JJ .. | refine ZL ?_ (fun _ => ?_))
noncomputable def K.Ji (a0 : Jq) (a1 : Int) (a2 : Int) : Option Bool :=
  (K.Y4 a0 a1 a2).bind fun r1 => bif decide (r1 < 0) then none else ((K.Jh a0 a1 a2).bind fun r2 => (gc (!(decide (r2 < 0))) (K.Xp a0.UE r2)).bind fun r3 => some ((decide (r2 < 0)) || (!r3)))
theorem Zbh (a0 : Jq) (a1 : Int) (a2 : Int) : Ref (K.Ji a0 a1 a2) (M.Ji a0 a1 a2) := by
  unfold K.Ji M.Ji
  with_reducible repeat' (first | exact Zj | exact Xo | exact WZ .. | exact RZ .. | exact Vt .. | refine ZL ?_ (fun _ => ?_) | refine Vj ?_ | refine ZS ?_ ?_)
noncomputable def K.YU  : Option Bool :=
  (K.Qg).bind fun r1 => (K.QG r1 ([] : List Int)).bind fun r2 => (K.Qg).bind fun r3 => (K.QG r3 ([0] : List Int)).bind fun r4 => (gc ((((r2.2 == 0) && (r4.2 == 0)) && ((r2.1.Qx.YI.length : Int) == 2)) && ((r2.1.Qx.QC.length : Int) == 1)) (K.Ji r2.1 0 0)).bind fun r5 => (gc (((((r2.2 == 0) && (r4.2 == 0)) && ((r2.1.Qx.YI.length : Int) == 2)) && ((r2.1.Qx.QC.length : Int) == 1)) && r5) (K.Ji r4.1 0 0)).bind fun r6 => (gc ((((((r2.2 == 0) && (r4.2 == 0)) && ((r2.1.Qx.YI.length : Int) == 2)) && ((r2.1.Qx.QC.length : Int) == 1)) && r5) && (!r6)) (K.Ji r4.1 1 1)).bind fun r7 => some (((((((r2.2 == 0) && (r4.2 == 0)) && ((r2.1.Qx.YI.length : Int) == 2)) && ((r2.1.Qx.QC.length : Int) == 1)) && r5) && (!r6)) && r7)
theorem Rf  : Ref (K.YU) (M.YU) := by
  unfold K.YU M.YU
  with_reducible repeat' (first | exact Zj | exact Rb .. | exact RY .. | exact Zbh .. | refine ZL ?_ (fun _ => ?_) | refine Vj ?_)
theorem Zbi : M.YU = some true := Rf _ (by kernel_rfl)
end Nv
