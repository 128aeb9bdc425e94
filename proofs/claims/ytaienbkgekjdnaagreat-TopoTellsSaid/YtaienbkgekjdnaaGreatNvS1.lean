/- The fixed example: reckoned. -/
import Derived.Test.YtaienbkgekjdnaaGreatNvD1
import Derived.Test.YtaienbkgekjdnaaGreatNvLibB
import Derived.Test.YtaienbkgekjdnaaGreatNvTs
import Derived.KernelRfl
set_option maxRecDepth 100000
namespace Nv
open Go
noncomputable def K.Z4 (a0 : List XU) (a1 : XU) (p1 : Int) : Option (Int ⊕ (Unit ⊕ Int)) :=
  bif decide (p1 < (a0.length : Int)) then (gd [decide (0 ≤ p1), decide (p1 < (a0.length : Int))] (bif ((a1.XJ == ((a0.getD p1.toNat default).XJ)) && ((a1.XY == ((a0.getD p1.toNat default).XY)) && true)) then (some (.inr (.inr p1))) else (some (.inl (wr .i64 (p1 + 1)))))) else (some (.inr (.inl ())))
theorem UG (a0 : List XU) (a1 : XU) (p1 : Int) : Ref (K.Z4 a0 a1 p1) (M.Z4 a0 a1 p1) := by
  unfold K.Z4 M.Z4
  repeat' (first | with_reducible exact ZJ | with_reducible exact ZM | with_reducible refine ZN ?_ (fun _ => ?_) | with_reducible refine Xi ?_ | with_reducible refine Xj ?_ | with_reducible refine ZO ?_ ?_ | with_reducible refine ZP (fun _ => ?_) (fun _ => ?_) | with_reducible refine ZK (fun _ => ?_))
noncomputable def K.Z9 (a0 : List XU) (a1 : XU) : Option Int :=
  (loopN 1000 (K.Z4 a0 a1) 0).bind fun y3 => Sum.elim (fun _ => some (-1)) (fun y5 => some y5) y3
theorem U4 (a0 : List XU) (a1 : XU) : Ref (K.Z9 a0 a1) (M.Z9 a0 a1) := by
  unfold K.Z9 M.Z9
  repeat' (first | with_reducible exact ZJ | with_reducible exact ZM | with_reducible exact UG .. | with_reducible refine ZN ?_ (fun _ => ?_) | with_reducible refine Xi ?_ | with_reducible refine Xj ?_ | with_reducible refine ZO ?_ ?_ | with_reducible refine ZP (fun _ => ?_) (fun _ => ?_) | with_reducible refine ZK (fun _ => ?_))
noncomputable def K.ZY (a0 : List XU) (a1 : XU) : Option Bool :=
  (K.Z9 a0 a1).bind fun r1 => some (decide (r1 ≥ 0))
theorem UH (a0 : List XU) (a1 : XU) : Ref (K.ZY a0 a1) (M.ZY a0 a1) := by
  unfold K.ZY M.ZY
  repeat' (first | with_reducible exact ZJ | with_reducible exact ZM | with_reducible exact U4 .. | with_reducible refine ZN ?_ (fun _ => ?_) | with_reducible refine Xi ?_ | with_reducible refine Xj ?_ | with_reducible refine ZO ?_ ?_ | with_reducible refine ZP (fun _ => ?_) (fun _ => ?_) | with_reducible refine ZK (fun _ => ?_))
noncomputable def K.Yt (a0 : XM) (a1 : Int) (a2 : Int) (p1 : Int) : Option (Int ⊕ (Unit ⊕ Int)) :=
  bif decide (p1 < (a0.Xd.Zv.length : Int)) then (gd [decide (0 ≤ p1), decide (p1 < (a0.Xd.Zv.length : Int))] ((K.ZY ((a0.Xd.Zv.getD p1.toNat default).ZT) (⟨a1, a2⟩ : XU)).bind fun r3 => bif r3 then (some (.inr (.inr p1))) else (some (.inl (wr .i64 (p1 + 1)))))) else (some (.inr (.inl ())))
theorem ZcB (a0 : XM) (a1 : Int) (a2 : Int) (p1 : Int) : Ref (K.Yt a0 a1 a2 p1) (M.Yt a0 a1 a2 p1) := by
  unfold K.Yt M.Yt
  repeat' (first | with_reducible exact ZJ | with_reducible exact ZM | with_reducible exact UH .. | with_reducible refine ZN ?_ (fun _ => ?_) | with_reducible refine Xi ?_ | with_reducible refine Xj ?_ | with_reducible refine ZO ?_ ?_ | with_reducible refine ZP (fun _ => ?_) (fun _ => ?_) | with_reducible refine ZK (fun _ => ?_))
noncomputable def K.Yr (a0 : XM) (a1 : Int) (a2 : Int) : Option Int :=
  (loopN 1000 (K.Yt a0 a1 a2) 0).bind fun y4 => Sum.elim (fun _ => some (-1)) (fun y6 => some y6) y4
theorem ZaK (a0 : XM) (a1 : Int) (a2 : Int) : Ref (K.Yr a0 a1 a2) (M.Yr a0 a1 a2) := by
  unfold K.Yr M.Yr
  repeat' (first | with_reducible exact ZJ | with_reducible exact ZM | with_reducible exact ZcB .. | with_reducible refine ZN ?_ (fun _ => ?_) | with_reducible refine Xi ?_ | with_reducible refine Xj ?_ | with_reducible refine ZO ?_ ?_ | with_reducible refine ZP (fun _ => ?_) (fun _ => ?_) | with_reducible refine ZK (fun _ => ?_))
noncomputable def K.XI (a0 : List Int) (a1 : Int) (p1 : Int) : Option (Int ⊕ (Unit ⊕ Int)) :=
  bif decide (p1 < (a0.length : Int)) then (gd [decide (0 ≤ p1), decide (p1 < (a0.length : Int))] (bif a1 == (a0.getD p1.toNat default) then (some (.inr (.inr p1))) else (some (.inl (wr .i64 (p1 + 1)))))) else (some (.inr (.inl ())))
theorem GQ (a0 : List Int) (a1 : Int) (p1 : Int) : Ref (K.XI a0 a1 p1) (M.XI a0 a1 p1) := by
  unfold K.XI M.XI
  repeat' (first | with_reducible exact ZJ | with_reducible exact ZM | with_reducible refine ZN ?_ (fun _ => ?_) | with_reducible refine Xi ?_ | with_reducible refine Xj ?_ | with_reducible refine ZO ?_ ?_ | with_reducible refine ZP (fun _ => ?_) (fun _ => ?_) | with_reducible refine ZK (fun _ => ?_))
noncomputable def K.XG (a0 : List Int) (a1 : Int) : Option Int :=
  (loopN 1000 (K.XI a0 a1) 0).bind fun y3 => Sum.elim (fun _ => some (-1)) (fun y5 => some y5) y3
theorem UT (a0 : List Int) (a1 : Int) : Ref (K.XG a0 a1) (M.XG a0 a1) := by
  unfold K.XG M.XG
  repeat' (first | with_reducible exact ZJ | with_reducible exact ZM | with_reducible exact GQ .. | with_reducible refine ZN ?_ (fun _ => ?_) | with_reducible refine Xi ?_ | with_reducible refine Xj ?_ | with_reducible refine ZO ?_ ?_ | with_reducible refine ZP (fun _ => ?_) (fun _ => ?_) | with_reducible refine ZK (fun _ => ?_))
noncomputable def K.Jw (a0 : XM) (a1 : Int) (a2 : Int) : Option Int :=
  (K.Yr a0 a1 a2).bind fun r1 => bif decide (r1 < 0) then (some (-1)) else ((K.XG a0.Xd.YC r1).bind fun r2 => some r2)
theorem ZgF (a0 : XM) (a1 : Int) (a2 : Int) : Ref (K.Jw a0 a1 a2) (M.Jw a0 a1 a2) := by
  unfold K.Jw M.Jw
  repeat' (first | with_reducible exact ZJ | with_reducible exact ZM | with_reducible exact ZaK .. | with_reducible exact UT .. | with_reducible refine ZN ?_ (fun _ => ?_) | with_reducible refine Xi ?_ | with_reducible refine Xj ?_ | with_reducible refine ZO ?_ ?_ | with_reducible refine ZP (fun _ => ?_) (fun _ => ?_) | with_reducible refine ZK (fun _ => ?_))
noncomputable def K.Xw (a0 : List Int) (a1 : Int) : Option Bool :=
  (K.XG a0 a1).bind fun r1 => some (decide (r1 ≥ 0))
theorem GR (a0 : List Int) (a1 : Int) : Ref (K.Xw a0 a1) (M.Xw a0 a1) := by
  unfold K.Xw M.Xw
  repeat' (first | with_reducible exact ZJ | with_reducible exact ZM | with_reducible exact UT .. | with_reducible refine ZN ?_ (fun _ => ?_) | with_reducible refine Xi ?_ | with_reducible refine Xj ?_ | with_reducible refine ZO ?_ ?_ | with_reducible refine ZP (fun _ => ?_) (fun _ => ?_) | with_reducible refine ZK (fun _ => ?_))
noncomputable def K.Vg (a0 : XM) (a1 : Int) (a2 : Int) : Option Bool :=
  (K.Yr a0 a1 a2).bind fun r1 => bif decide (r1 < 0) then (some false) else ((K.Jw a0 a1 a2).bind fun r2 => (gc (!(decide (r2 < 0))) (K.Xw a0.QY r2)).bind fun r3 => some ((decide (r2 < 0)) || (!r3)))
theorem Zik (a0 : XM) (a1 : Int) (a2 : Int) : Ref (K.Vg a0 a1 a2) (M.Vg a0 a1 a2) := by
  unfold K.Vg M.Vg
  repeat' (first | with_reducible exact ZJ | with_reducible exact ZM | with_reducible exact ZaK .. | with_reducible exact ZgF .. | with_reducible exact GR .. | with_reducible refine ZN ?_ (fun _ => ?_) | with_reducible refine Xi ?_ | with_reducible refine Xj ?_ | with_reducible refine ZO ?_ ?_ | with_reducible refine ZP (fun _ => ?_) (fun _ => ?_) | with_reducible refine ZK (fun _ => ?_))
noncomputable def K.V8  : Option ZB :=
  some (⟨([(⟨(⟨#[97]⟩ : ByteArray), 0, ([(⟨(⟨#[101, 48]⟩ : ByteArray), 167772161, 24, 0, false, false, 0, 0, false, (⟨#[]⟩ : ByteArray), (⟨#[]⟩ : ByteArray), 0⟩ : Zl)] : List Zl), ([] : List Z2), ([] : List Ya), ([] : List W3), ([] : List YT), ([] : List YU), (⟨false, 0, ([] : List J4), ([] : List YK)⟩ : Vj), (⟨false, 0, (⟨#[]⟩ : ByteArray), (⟨#[]⟩ : ByteArray), ([] : List YK)⟩ : YE), (⟨false, 0, 0, ([] : List Jv), ([] : List ZZ), ([] : List J5), ([] : List J6), ([] : List YK)⟩ : Xy)⟩ : Zf), (⟨(⟨#[98]⟩ : ByteArray), 0, ([(⟨(⟨#[101, 48]⟩ : ByteArray), 167772162, 24, 0, false, false, 0, 0, false, (⟨#[]⟩ : ByteArray), (⟨#[]⟩ : ByteArray), 0⟩ : Zl), (⟨(⟨#[101, 49]⟩ : ByteArray), 167772418, 24, 0, false, false, 0, 0, false, (⟨#[]⟩ : ByteArray), (⟨#[]⟩ : ByteArray), 0⟩ : Zl)] : List Zl), ([] : List Z2), ([] : List Ya), ([] : List W3), ([] : List YT), ([] : List YU), (⟨false, 0, ([] : List J4), ([] : List YK)⟩ : Vj), (⟨false, 0, (⟨#[]⟩ : ByteArray), (⟨#[]⟩ : ByteArray), ([] : List YK)⟩ : YE), (⟨false, 0, 0, ([] : List Jv), ([] : List ZZ), ([] : List J5), ([] : List J6), ([] : List YK)⟩ : Xy)⟩ : Zf)] : List Zf)⟩ : ZB)
theorem ZfO  : Ref (K.V8) (M.V8) := by
  unfold K.V8 M.V8
  repeat' (first | with_reducible exact ZJ | with_reducible exact ZM | with_reducible refine ZN ?_ (fun _ => ?_) | with_reducible refine Xi ?_ | with_reducible refine Xj ?_ | with_reducible refine ZO ?_ ?_ | with_reducible refine ZP (fun _ => ?_) (fun _ => ?_) | with_reducible refine ZK (fun _ => ?_))
noncomputable def K.Vy (a0 : Int) : Option Bool :=
  some (((decide (65 ≤ a0)) && (decide (a0 ≤ 90))) || ((decide (97 ≤ a0)) && (decide (a0 ≤ 122))))
theorem ZaL (a0 : Int) : Ref (K.Vy a0) (M.Vy a0) := by
  unfold K.Vy M.Vy
  repeat' (first | with_reducible exact ZJ | with_reducible exact ZM | with_reducible refine ZN ?_ (fun _ => ?_) | with_reducible refine Xi ?_ | with_reducible refine Xj ?_ | with_reducible refine ZO ?_ ?_ | with_reducible refine ZP (fun _ => ?_) (fun _ => ?_) | with_reducible refine ZK (fun _ => ?_))
noncomputable def K.WS (a0 : Int) : Option Bool :=
  some ((decide (48 ≤ a0)) && (decide (a0 ≤ 57)))
theorem ZfP (a0 : Int) : Ref (K.WS a0) (M.WS a0) := by
  unfold K.WS M.WS
  repeat' (first | with_reducible exact ZJ | with_reducible exact ZM | with_reducible refine ZN ?_ (fun _ => ?_) | with_reducible refine Xi ?_ | with_reducible refine Xj ?_ | with_reducible refine ZO ?_ ?_ | with_reducible refine ZP (fun _ => ?_) (fun _ => ?_) | with_reducible refine ZK (fun _ => ?_))
noncomputable def K.Wf (a0 : ByteArray) (p2 : Int) : Option (Int ⊕ Unit) :=
  bif decide (p2 < (a0.size : Int)) then (gd [decide (0 ≤ p2), decide (p2 < (a0.size : Int))] ((K.Vy (byteAt a0 p2)).bind fun r4 => (gc (!r4) (K.WS (byteAt a0 p2))).bind fun r5 => bif (((((!r4) && (!r5)) && ((byteAt a0 p2) != 45)) && ((byteAt a0 p2) != 95)) && ((byteAt a0 p2) != 47)) && ((byteAt a0 p2) != 46) then none else (some (.inl (wr .i64 (p2 + 1)))))) else (some (.inr ()))
theorem Zep (a0 : ByteArray) (p2 : Int) : Ref (K.Wf a0 p2) (M.Wf a0 p2) := by
  unfold K.Wf M.Wf
  repeat' (first | with_reducible exact ZJ | with_reducible exact ZM | with_reducible exact ZaL .. | with_reducible exact ZfP .. | with_reducible refine ZN ?_ (fun _ => ?_) | with_reducible refine Xi ?_ | with_reducible refine Xj ?_ | with_reducible refine ZO ?_ ?_ | with_reducible refine ZP (fun _ => ?_) (fun _ => ?_) | with_reducible refine ZK (fun _ => ?_))
noncomputable def K.WC (a0 : ByteArray) : Option Bool :=
  (gc (!((decide ((a0.size : Int) < 1)) || (decide ((a0.size : Int) > 15)))) (K.Vy (byteAt a0 0))).bind fun r1 => gd [guardB (!((decide ((a0.size : Int) < 1)) || (decide ((a0.size : Int) > 15)))) (decide (0 ≤ 0)), guardB (!((decide ((a0.size : Int) < 1)) || (decide ((a0.size : Int) > 15)))) (decide (0 < (a0.size : Int)))] (bif ((decide ((a0.size : Int) < 1)) || (decide ((a0.size : Int) > 15))) || (!r1) then none else ((loopN 1000 (K.Wf a0) 1).bind fun y6 => some true))
theorem Zc5 (a0 : ByteArray) : Ref (K.WC a0) (M.WC a0) := by
  unfold K.WC M.WC
  repeat' (first | with_reducible exact ZJ | with_reducible exact ZM | with_reducible exact ZaL .. | with_reducible exact Zep .. | with_reducible refine ZN ?_ (fun _ => ?_) | with_reducible refine Xi ?_ | with_reducible refine Xj ?_ | with_reducible refine ZO ?_ ?_ | with_reducible refine ZP (fun _ => ?_) (fun _ => ?_) | with_reducible refine ZK (fun _ => ?_))
noncomputable def K.Qx (a0 : Int) (a1 : Int) (a2 : Int) : Option Bool :=
  some ((decide (a1 ≤ a0)) && (decide (a0 ≤ a2)))
theorem RE (a0 : Int) (a1 : Int) (a2 : Int) : Ref (K.Qx a0 a1 a2) (M.Qx a0 a1 a2) := by
  unfold K.Qx M.Qx
  repeat' (first | with_reducible exact ZJ | with_reducible exact ZM | with_reducible refine ZN ?_ (fun _ => ?_) | with_reducible refine Xi ?_ | with_reducible refine Xj ?_ | with_reducible refine ZO ?_ ?_ | with_reducible refine ZP (fun _ => ?_) (fun _ => ?_) | with_reducible refine ZK (fun _ => ?_))
noncomputable def K.QW (a0 : Zl) (b0 : ByteArray) : Option Bool :=
  some (strEq a0.Xm b0)
theorem Zap (a0 : Zl) (b0 : ByteArray) : Ref (K.QW a0 b0) (M.QW a0 b0) := by
  unfold K.QW M.QW
  repeat' (first | with_reducible exact ZJ | with_reducible exact ZM | with_reducible refine ZN ?_ (fun _ => ?_) | with_reducible refine Xi ?_ | with_reducible refine Xj ?_ | with_reducible refine ZO ?_ ?_ | with_reducible refine ZP (fun _ => ?_) (fun _ => ?_) | with_reducible refine ZK (fun _ => ?_))
noncomputable def K.ZR (a0 : List Zl) (a1c0 : ByteArray) (p1 : Int) : Option (Int ⊕ (Unit ⊕ Int)) :=
  bif decide (p1 < (a0.length : Int)) then ((K.QW (a0.getD p1.toNat default) a1c0).bind fun r3 => gd [decide (0 ≤ p1), decide (p1 < (a0.length : Int))] (bif r3 then (some (.inr (.inr p1))) else (some (.inl (wr .i64 (p1 + 1)))))) else (some (.inr (.inl ())))
theorem JB (a0 : List Zl) (a1c0 : ByteArray) (p1 : Int) : Ref (K.ZR a0 a1c0 p1) (M.ZR a0 a1c0 p1) := by
  unfold K.ZR M.ZR
  repeat' (first | with_reducible exact ZJ | with_reducible exact ZM | with_reducible exact Zap .. | with_reducible refine ZN ?_ (fun _ => ?_) | with_reducible refine Xi ?_ | with_reducible refine Xj ?_ | with_reducible refine ZO ?_ ?_ | with_reducible refine ZP (fun _ => ?_) (fun _ => ?_) | with_reducible refine ZK (fun _ => ?_))
noncomputable def K.ZH (a0 : List Zl) (a1c0 : ByteArray) : Option Int :=
  (loopN 1000 (K.ZR a0 a1c0) 0).bind fun y4 => Sum.elim (fun _ => some (-1)) (fun y6 => some y6) y4
theorem JW (a0 : List Zl) (a1c0 : ByteArray) : Ref (K.ZH a0 a1c0) (M.ZH a0 a1c0) := by
  unfold K.ZH M.ZH
  repeat' (first | with_reducible exact ZJ | with_reducible exact ZM | with_reducible exact JB .. | with_reducible refine ZN ?_ (fun _ => ?_) | with_reducible refine Xi ?_ | with_reducible refine Xj ?_ | with_reducible refine ZO ?_ ?_ | with_reducible refine ZP (fun _ => ?_) (fun _ => ?_) | with_reducible refine ZK (fun _ => ?_))
noncomputable def K.JJ (a0 : Zf) (a1 : ByteArray) : Option Int :=
  (K.ZH a0.Zc a1).bind fun r1 => some r1
theorem ZbT (a0 : Zf) (a1 : ByteArray) : Ref (K.JJ a0 a1) (M.JJ a0 a1) := by
  unfold K.JJ M.JJ
  repeat' (first | with_reducible exact ZJ | with_reducible exact ZM | with_reducible exact JW .. | with_reducible refine ZN ?_ (fun _ => ?_) | with_reducible refine Xi ?_ | with_reducible refine Xj ?_ | with_reducible refine ZO ?_ ?_ | with_reducible refine ZP (fun _ => ?_) (fun _ => ?_) | with_reducible refine ZK (fun _ => ?_))
noncomputable def K.Y5 (a0 : Zl) : Option Bool :=
  (K.Qx a0.ZV 0 32).bind fun r1 => (gc (!(!r1)) (K.Qx a0.XE 0 4094)).bind fun r2 => (gc (!((!r1) || (!r2))) (K.Qx a0.RA 0 2)).bind fun r3 => bif ((!r1) || (!r2)) || (!r3) then none else (bif (a0.ZV == 0) && (((((((a0.Zx != 0) || (a0.XE != 0)) || (a0.RA != 0)) || a0.Yh) || a0.Yo) || (!strEq a0.VQ (⟨#[]⟩ : ByteArray))) || (!strEq a0.Qa (⟨#[]⟩ : ByteArray))) then none else (bif (a0.ZV != 0) && (a0.Zx == 0) then none else (bif a0.Yh then none else (some ((a0.V0 == 0) && (a0.ZbN == 0))))))
theorem KL (a0 : Zl) : Ref (K.Y5 a0) (M.Y5 a0) := by
  unfold K.Y5 M.Y5
  repeat' (first | with_reducible exact ZJ | with_reducible exact ZM | with_reducible exact RE .. | with_reducible refine ZN ?_ (fun _ => ?_) | with_reducible refine Xi ?_ | with_reducible refine Xj ?_ | with_reducible refine ZO ?_ ?_ | with_reducible refine ZP (fun _ => ?_) (fun _ => ?_) | with_reducible refine ZK (fun _ => ?_))
noncomputable def K.V9 (a0 : Int) : Option Int :=
  some (if (if 32 < a0 then 32 else a0) > 0 then (if 32 < a0 then 32 else a0) else 0)
theorem ZbU (a0 : Int) : Ref (K.V9 a0) (M.V9 a0) := by
  unfold K.V9 M.V9
  repeat' (first | with_reducible exact ZJ | with_reducible exact ZM | with_reducible refine ZN ?_ (fun _ => ?_) | with_reducible refine Xi ?_ | with_reducible refine Xj ?_ | with_reducible refine ZO ?_ ?_ | with_reducible refine ZP (fun _ => ?_) (fun _ => ?_) | with_reducible refine ZK (fun _ => ?_))
noncomputable def K.WD (a0 : Int) : Option Int :=
  (K.V9 a0).bind fun r1 => gd [decide (0 ≤ (wr .i64 (32 - r1)))] (some (wr .u32 (4294967295 * 2 ^ min (wr .i64 (32 - r1)).toNat 32)))
theorem Zc6 (a0 : Int) : Ref (K.WD a0) (M.WD a0) := by
  unfold K.WD M.WD
  repeat' (first | with_reducible exact ZJ | with_reducible exact ZM | with_reducible exact ZbU .. | with_reducible refine ZN ?_ (fun _ => ?_) | with_reducible refine Xi ?_ | with_reducible refine Xj ?_ | with_reducible refine ZO ?_ ?_ | with_reducible refine ZP (fun _ => ?_) (fun _ => ?_) | with_reducible refine ZK (fun _ => ?_))
noncomputable def K.Jk (a0 : Int) (a1 : Int) : Option ZZ :=
  (K.WD a1).bind fun r1 => (K.V9 a1).bind fun r2 => some (⟨bitD .and .u32 a0 r1, r2⟩ : ZZ)
theorem RF (a0 : Int) (a1 : Int) : Ref (K.Jk a0 a1) (M.Jk a0 a1) := by
  unfold K.Jk M.Jk
  repeat' (first | with_reducible exact ZJ | with_reducible exact ZM | with_reducible exact ZbU .. | with_reducible exact Zc6 .. | with_reducible refine ZN ?_ (fun _ => ?_) | with_reducible refine Xi ?_ | with_reducible refine Xj ?_ | with_reducible refine ZO ?_ ?_ | with_reducible refine ZP (fun _ => ?_) (fun _ => ?_) | with_reducible refine ZK (fun _ => ?_))
noncomputable def K.Vr (a0 : ZZ) (a1 : Int) : Option Bool :=
  (K.WD a0.ZV).bind fun r1 => some ((bitD .and .u32 a1 r1) == a0.Zx)
theorem Zdb (a0 : ZZ) (a1 : Int) : Ref (K.Vr a0 a1) (M.Vr a0 a1) := by
  unfold K.Vr M.Vr
  repeat' (first | with_reducible exact ZJ | with_reducible exact ZM | with_reducible exact Zc6 .. | with_reducible refine ZN ?_ (fun _ => ?_) | with_reducible refine Xi ?_ | with_reducible refine Xj ?_ | with_reducible refine ZO ?_ ?_ | with_reducible refine ZP (fun _ => ?_) (fun _ => ?_) | with_reducible refine ZK (fun _ => ?_))
noncomputable def K.Vz (a0 : ZZ) (a1 : ZZ) : Option Bool :=
  (gc (decide (a0.ZV ≤ a1.ZV)) (K.Vr a0 a1.Zx)).bind fun r1 => some ((decide (a0.ZV ≤ a1.ZV)) && r1)
theorem ZeK (a0 : ZZ) (a1 : ZZ) : Ref (K.Vz a0 a1) (M.Vz a0 a1) := by
  unfold K.Vz M.Vz
  repeat' (first | with_reducible exact ZJ | with_reducible exact ZM | with_reducible exact Zdb .. | with_reducible refine ZN ?_ (fun _ => ?_) | with_reducible refine Xi ?_ | with_reducible refine Xj ?_ | with_reducible refine ZO ?_ ?_ | with_reducible refine ZP (fun _ => ?_) (fun _ => ?_) | with_reducible refine ZK (fun _ => ?_))
noncomputable def K.Vt (a0 : ZZ) (a1 : ZZ) : Option Bool :=
  (K.Vz a0 a1).bind fun r1 => (gc (!r1) (K.Vz a1 a0)).bind fun r2 => some (r1 || r2)
theorem Zdc (a0 : ZZ) (a1 : ZZ) : Ref (K.Vt a0 a1) (M.Vt a0 a1) := by
  unfold K.Vt M.Vt
  repeat' (first | with_reducible exact ZJ | with_reducible exact ZM | with_reducible exact ZeK .. | with_reducible refine ZN ?_ (fun _ => ?_) | with_reducible refine Xi ?_ | with_reducible refine Xj ?_ | with_reducible refine ZO ?_ ?_ | with_reducible refine ZP (fun _ => ?_) (fun _ => ?_) | with_reducible refine ZK (fun _ => ?_))
noncomputable def K.Yz (a0 : Zf) (p1 : Int) (p6 : Int) : Option (Int ⊕ Unit) :=
  bif decide (p6 < ((p1.toNat - 0 : Nat) : Int)) then (gd [decide (0 ≤ p6), decide (p6 < (((a0.Zc.drop 0).take (p1.toNat - 0)).length : Int))] ((gc ((((a0.Zc.getD p1.toNat default).ZV) != 0) && (((((a0.Zc.drop 0).take (p1.toNat - 0)).getD p6.toNat default).ZV) != 0)) (K.Jk ((a0.Zc.getD p1.toNat default).Zx) ((a0.Zc.getD p1.toNat default).ZV))).bind fun r8 => (gc ((((a0.Zc.getD p1.toNat default).ZV) != 0) && (((((a0.Zc.drop 0).take (p1.toNat - 0)).getD p6.toNat default).ZV) != 0)) (K.Jk ((((a0.Zc.drop 0).take (p1.toNat - 0)).getD p6.toNat default).Zx) ((((a0.Zc.drop 0).take (p1.toNat - 0)).getD p6.toNat default).ZV))).bind fun r9 => (gc ((((a0.Zc.getD p1.toNat default).ZV) != 0) && (((((a0.Zc.drop 0).take (p1.toNat - 0)).getD p6.toNat default).ZV) != 0)) (K.Vt r8 r9)).bind fun r10 => bif ((((a0.Zc.getD p1.toNat default).ZV) != 0) && (((((a0.Zc.drop 0).take (p1.toNat - 0)).getD p6.toNat default).ZV) != 0)) && r10 then none else (some (.inl (wr .i64 (p6 + 1)))))) else (some (.inr ()))
theorem GG (a0 : Zf) (p1 : Int) (p6 : Int) : Ref (K.Yz a0 p1 p6) (M.Yz a0 p1 p6) := by
  unfold K.Yz M.Yz
  repeat' (first | with_reducible exact ZJ | with_reducible exact ZM | with_reducible exact RF .. | with_reducible exact Zdc .. | with_reducible refine ZN ?_ (fun _ => ?_) | with_reducible refine Xi ?_ | with_reducible refine Xj ?_ | with_reducible refine ZO ?_ ?_ | with_reducible refine ZP (fun _ => ?_) (fun _ => ?_) | with_reducible refine ZK (fun _ => ?_))
noncomputable def K.YA (a0 : Zf) (p1 : Int) : Option (Int ⊕ Unit) :=
  bif decide (p1 < (a0.Zc.length : Int)) then (gd [decide (0 ≤ p1), decide (p1 < (a0.Zc.length : Int))] ((K.WC ((a0.Zc.getD p1.toNat default).Xm)).bind fun r3 => bif !r3 then none else ((K.JJ a0 ((a0.Zc.getD p1.toNat default).Xm)).bind fun r4 => bif decide (r4 < p1) then none else ((K.Y5 (a0.Zc.getD p1.toNat default)).bind fun r5 => bif !r5 then none else (gd [decide (0 ≤ p1), decide (p1 ≤ (a0.Zc.length : Int))] ((loopN 1000 (K.Yz a0 p1) 0).bind fun y11 => some (.inl (wr .i64 (p1 + 1))))))))) else (some (.inr ()))
theorem GH (a0 : Zf) (p1 : Int) : Ref (K.YA a0 p1) (M.YA a0 p1) := by
  unfold K.YA M.YA
  repeat' (first | with_reducible exact ZJ | with_reducible exact ZM | with_reducible exact Zc5 .. | with_reducible exact ZbT .. | with_reducible exact KL .. | with_reducible exact GG .. | with_reducible refine ZN ?_ (fun _ => ?_) | with_reducible refine Xi ?_ | with_reducible refine Xj ?_ | with_reducible refine ZO ?_ ?_ | with_reducible refine ZP (fun _ => ?_) (fun _ => ?_) | with_reducible refine ZK (fun _ => ?_))
noncomputable def K.YL (a0 : Zf) : Option Int :=
  bif decide ((a0.Zc.length : Int) > 8) then none else ((loopN 1000 (K.YA a0) 0).bind fun y12 => some 0)
theorem Kr (a0 : Zf) : Ref (K.YL a0) (M.YL a0) := by
  unfold K.YL M.YL
  repeat' (first | with_reducible exact ZJ | with_reducible exact ZM | with_reducible exact GH .. | with_reducible refine ZN ?_ (fun _ => ?_) | with_reducible refine Xi ?_ | with_reducible refine Xj ?_ | with_reducible refine ZO ?_ ?_ | with_reducible refine ZP (fun _ => ?_) (fun _ => ?_) | with_reducible refine ZK (fun _ => ?_))
noncomputable def K.Ys (a0 : Zf) (p1 : Int) : Option (Int ⊕ Unit) :=
  bif decide (p1 < (a0.Yw.length : Int)) then none else (some (.inr ()))
theorem Gu (a0 : Zf) (p1 : Int) : Ref (K.Ys a0 p1) (M.Ys a0 p1) := by
  unfold K.Ys M.Ys
  repeat' (first | with_reducible exact ZJ | with_reducible exact ZM | with_reducible refine ZN ?_ (fun _ => ?_) | with_reducible refine Xi ?_ | with_reducible refine Xj ?_ | with_reducible refine ZO ?_ ?_ | with_reducible refine ZP (fun _ => ?_) (fun _ => ?_) | with_reducible refine ZK (fun _ => ?_))
noncomputable def K.Yx (a0 : Zf) : Option Int :=
  bif decide ((a0.Yw.length : Int) > 8) then none else ((loopN 1000 (K.Ys a0) 0).bind fun y3 => some 0)
theorem Kc (a0 : Zf) : Ref (K.Yx a0) (M.Yx a0) := by
  unfold K.Yx M.Yx
  repeat' (first | with_reducible exact ZJ | with_reducible exact ZM | with_reducible exact Gu .. | with_reducible refine ZN ?_ (fun _ => ?_) | with_reducible refine Xi ?_ | with_reducible refine Xj ?_ | with_reducible refine ZO ?_ ?_ | with_reducible refine ZP (fun _ => ?_) (fun _ => ?_) | with_reducible refine ZK (fun _ => ?_))
noncomputable def K.YN (a0 : Zf) (p1 : Int) : Option (Int ⊕ Unit) :=
  bif decide (p1 < (a0.XF.length : Int)) then none else (some (.inr ()))
theorem GS (a0 : Zf) (p1 : Int) : Ref (K.YN a0 p1) (M.YN a0 p1) := by
  unfold K.YN M.YN
  repeat' (first | with_reducible exact ZJ | with_reducible exact ZM | with_reducible refine ZN ?_ (fun _ => ?_) | with_reducible refine Xi ?_ | with_reducible refine Xj ?_ | with_reducible refine ZO ?_ ?_ | with_reducible refine ZP (fun _ => ?_) (fun _ => ?_) | with_reducible refine ZK (fun _ => ?_))
noncomputable def K.Y6 (a0 : Zf) : Option Int :=
  bif decide ((a0.XF.length : Int) > 8) then none else ((loopN 1000 (K.YN a0) 0).bind fun y3 => some 0)
theorem KM (a0 : Zf) : Ref (K.Y6 a0) (M.Y6 a0) := by
  unfold K.Y6 M.Y6
  repeat' (first | with_reducible exact ZJ | with_reducible exact ZM | with_reducible exact GS .. | with_reducible refine ZN ?_ (fun _ => ?_) | with_reducible refine Xi ?_ | with_reducible refine Xj ?_ | with_reducible refine ZO ?_ ?_ | with_reducible refine ZP (fun _ => ?_) (fun _ => ?_) | with_reducible refine ZK (fun _ => ?_))
noncomputable def K.Q5 (a0 : Zf) (p1 : Int) : Option (Int ⊕ Unit) :=
  bif decide (p1 < (a0.YF.length : Int)) then none else (some (.inr ()))
theorem RG (a0 : Zf) (p1 : Int) : Ref (K.Q5 a0 p1) (M.Q5 a0 p1) := by
  unfold K.Q5 M.Q5
  repeat' (first | with_reducible exact ZJ | with_reducible exact ZM | with_reducible refine ZN ?_ (fun _ => ?_) | with_reducible refine Xi ?_ | with_reducible refine Xj ?_ | with_reducible refine ZO ?_ ?_ | with_reducible refine ZP (fun _ => ?_) (fun _ => ?_) | with_reducible refine ZK (fun _ => ?_))
noncomputable def K.JK (a0 : Zf) : Option Int :=
  bif decide ((a0.YF.length : Int) > 8) then none else ((loopN 1000 (K.Q5 a0) 0).bind fun y3 => some 0)
theorem ZbV (a0 : Zf) : Ref (K.JK a0) (M.JK a0) := by
  unfold K.JK M.JK
  repeat' (first | with_reducible exact ZJ | with_reducible exact ZM | with_reducible exact RG .. | with_reducible refine ZN ?_ (fun _ => ?_) | with_reducible refine Xi ?_ | with_reducible refine Xj ?_ | with_reducible refine ZO ?_ ?_ | with_reducible refine ZP (fun _ => ?_) (fun _ => ?_) | with_reducible refine ZK (fun _ => ?_))
noncomputable def K.Js (a0 : Zf) (p1 : Int) : Option (Int ⊕ Unit) :=
  bif decide (p1 < (a0.Xc.length : Int)) then none else (some (.inr ()))
theorem Zaq (a0 : Zf) (p1 : Int) : Ref (K.Js a0 p1) (M.Js a0 p1) := by
  unfold K.Js M.Js
  repeat' (first | with_reducible exact ZJ | with_reducible exact ZM | with_reducible refine ZN ?_ (fun _ => ?_) | with_reducible refine Xi ?_ | with_reducible refine Xj ?_ | with_reducible refine ZO ?_ ?_ | with_reducible refine ZP (fun _ => ?_) (fun _ => ?_) | with_reducible refine ZK (fun _ => ?_))
noncomputable def K.Vb (a0 : Zf) : Option Int :=
  bif decide ((a0.Xc.length : Int) > 8) then none else ((loopN 1000 (K.Js a0) 0).bind fun y3 => some 0)
theorem ZcC (a0 : Zf) : Ref (K.Vb a0) (M.Vb a0) := by
  unfold K.Vb M.Vb
  repeat' (first | with_reducible exact ZJ | with_reducible exact ZM | with_reducible exact Zaq .. | with_reducible refine ZN ?_ (fun _ => ?_) | with_reducible refine Xi ?_ | with_reducible refine Xj ?_ | with_reducible refine ZO ?_ ?_ | with_reducible refine ZP (fun _ => ?_) (fun _ => ?_) | with_reducible refine ZK (fun _ => ?_))
noncomputable def K.WE (_a0 : Zf) (_a1 : ByteArray) : Option Int :=
  none
theorem ZgG (_a0 : Zf) (_a1 : ByteArray) : Ref (K.WE _a0 _a1) (M.WE _a0 _a1) := by
  unfold K.WE M.WE
  repeat' (first | with_reducible exact ZJ | with_reducible exact ZM | with_reducible refine ZN ?_ (fun _ => ?_) | with_reducible refine Xi ?_ | with_reducible refine Xj ?_ | with_reducible refine ZO ?_ ?_ | with_reducible refine ZP (fun _ => ?_) (fun _ => ?_) | with_reducible refine ZK (fun _ => ?_))
noncomputable def K.Qc (a0 : Zf) (p1 : Int) : Option (Int ⊕ Unit) :=
  bif decide (p1 < (a0.Zc.length : Int)) then (gd [decide (0 ≤ p1), decide (p1 < (a0.Zc.length : Int))] ((gc (!strEq ((a0.Zc.getD p1.toNat default).VQ) (⟨#[]⟩ : ByteArray)) (K.WE a0 ((a0.Zc.getD p1.toNat default).VQ))).bind fun r3 => (gc ((!((!strEq ((a0.Zc.getD p1.toNat default).VQ) (⟨#[]⟩ : ByteArray)) && (decide (r3 < 0)))) && (!strEq ((a0.Zc.getD p1.toNat default).Qa) (⟨#[]⟩ : ByteArray))) (K.WE a0 ((a0.Zc.getD p1.toNat default).Qa))).bind fun r4 => bif ((!strEq ((a0.Zc.getD p1.toNat default).VQ) (⟨#[]⟩ : ByteArray)) && (decide (r3 < 0))) || ((!strEq ((a0.Zc.getD p1.toNat default).Qa) (⟨#[]⟩ : ByteArray)) && (decide (r4 < 0))) then none else (some (.inl (wr .i64 (p1 + 1)))))) else (some (.inr ()))
theorem Ks (a0 : Zf) (p1 : Int) : Ref (K.Qc a0 p1) (M.Qc a0 p1) := by
  unfold K.Qc M.Qc
  repeat' (first | with_reducible exact ZJ | with_reducible exact ZM | with_reducible exact ZgG .. | with_reducible refine ZN ?_ (fun _ => ?_) | with_reducible refine Xi ?_ | with_reducible refine Xj ?_ | with_reducible refine ZO ?_ ?_ | with_reducible refine ZP (fun _ => ?_) (fun _ => ?_) | with_reducible refine ZK (fun _ => ?_))
noncomputable def K.Qy (a0 : Zf) : Option Int :=
  (loopN 1000 (K.Qc a0) 0).bind fun y5 => some 0
theorem RH (a0 : Zf) : Ref (K.Qy a0) (M.Qy a0) := by
  unfold K.Qy M.Qy
  repeat' (first | with_reducible exact ZJ | with_reducible exact ZM | with_reducible exact Ks .. | with_reducible refine ZN ?_ (fun _ => ?_) | with_reducible refine Xi ?_ | with_reducible refine Xj ?_ | with_reducible refine ZO ?_ ?_ | with_reducible refine ZP (fun _ => ?_) (fun _ => ?_) | with_reducible refine ZK (fun _ => ?_))
noncomputable def K.Qd (a0 : Zf) (p1 : Int) : Option (Int ⊕ Unit) :=
  bif decide (p1 < (a0.Zr.length : Int)) then none else (some (.inr ()))
theorem Kt (a0 : Zf) (p1 : Int) : Ref (K.Qd a0 p1) (M.Qd a0 p1) := by
  unfold K.Qd M.Qd
  repeat' (first | with_reducible exact ZJ | with_reducible exact ZM | with_reducible refine ZN ?_ (fun _ => ?_) | with_reducible refine Xi ?_ | with_reducible refine Xj ?_ | with_reducible refine ZO ?_ ?_ | with_reducible refine ZP (fun _ => ?_) (fun _ => ?_) | with_reducible refine ZK (fun _ => ?_))
noncomputable def K.Qz (a0 : Zf) : Option Int :=
  bif decide ((a0.Zr.length : Int) > 16) then none else ((loopN 1000 (K.Qd a0) 0).bind fun y3 => some 0)
theorem RI (a0 : Zf) : Ref (K.Qz a0) (M.Qz a0) := by
  unfold K.Qz M.Qz
  repeat' (first | with_reducible exact ZJ | with_reducible exact ZM | with_reducible exact Kt .. | with_reducible refine ZN ?_ (fun _ => ?_) | with_reducible refine Xi ?_ | with_reducible refine Xj ?_ | with_reducible refine ZO ?_ ?_ | with_reducible refine ZP (fun _ => ?_) (fun _ => ?_) | with_reducible refine ZK (fun _ => ?_))
noncomputable def K.Y7 (a0 : Zf) : Option Int :=
  bif !a0.Yh.Vw then (bif ((a0.Yh.Xr != 0) || (decide ((a0.Yh.Z6.length : Int) > 0))) || (decide ((a0.Yh.Zs.length : Int) > 0)) then none else (some 0)) else none
theorem KN (a0 : Zf) : Ref (K.Y7 a0) (M.Y7 a0) := by
  unfold K.Y7 M.Y7
  repeat' (first | with_reducible exact ZJ | with_reducible exact ZM | with_reducible refine ZN ?_ (fun _ => ?_) | with_reducible refine Xi ?_ | with_reducible refine Xj ?_ | with_reducible refine ZO ?_ ?_ | with_reducible refine ZP (fun _ => ?_) (fun _ => ?_) | with_reducible refine ZK (fun _ => ?_))
noncomputable def K.Yb (a0 : Zf) : Option Int :=
  bif !a0.Yo.Vw then (bif (((a0.Yo.Xr != 0) || (!strEq a0.Yo.VQ (⟨#[]⟩ : ByteArray))) || (!strEq a0.Yo.Qa (⟨#[]⟩ : ByteArray))) || (decide ((a0.Yo.Zs.length : Int) > 0)) then none else (some 0)) else none
theorem Gv (a0 : Zf) : Ref (K.Yb a0) (M.Yb a0) := by
  unfold K.Yb M.Yb
  repeat' (first | with_reducible exact ZJ | with_reducible exact ZM | with_reducible refine ZN ?_ (fun _ => ?_) | with_reducible refine Xi ?_ | with_reducible refine Xj ?_ | with_reducible refine ZO ?_ ?_ | with_reducible refine ZP (fun _ => ?_) (fun _ => ?_) | with_reducible refine ZK (fun _ => ?_))
noncomputable def K.YM (a0 : Zf) : Option Int :=
  bif !a0.Xs.Vw then (bif ((((((a0.Xs.XZ != 0) || (a0.Xs.X0 != 0)) || (decide ((a0.Xs.Zm.length : Int) > 0))) || (decide ((a0.Xs.Z1.length : Int) > 0))) || (decide ((a0.Xs.ZE.length : Int) > 0))) || (decide ((a0.Xs.Zt.length : Int) > 0))) || (decide ((a0.Xs.Zs.length : Int) > 0)) then none else (some 0)) else none
theorem Ku (a0 : Zf) : Ref (K.YM a0) (M.YM a0) := by
  unfold K.YM M.YM
  repeat' (first | with_reducible exact ZJ | with_reducible exact ZM | with_reducible refine ZN ?_ (fun _ => ?_) | with_reducible refine Xi ?_ | with_reducible refine Xj ?_ | with_reducible refine ZO ?_ ?_ | with_reducible refine ZP (fun _ => ?_) (fun _ => ?_) | with_reducible refine ZK (fun _ => ?_))
noncomputable def K.QX (a0 : Zf) : Option Int :=
  (K.WC a0.Xm).bind fun r1 => bif !r1 then none else ((K.Qx a0.Gt 0 65535).bind fun r2 => bif !r2 then none else (gd [decide (0 ≤ 0), decide (0 < (10 : Int))] ((K.YL a0).bind fun r3 => bif r3 != 0 then none else (gd [decide (0 ≤ 1), decide (1 < (10 : Int))] ((K.Yx a0).bind fun r4 => bif r4 != 0 then none else (gd [decide (0 ≤ 2), decide (2 < (10 : Int))] ((K.Y6 a0).bind fun r5 => bif r5 != 0 then none else (gd [decide (0 ≤ 3), decide (3 < (10 : Int))] ((K.JK a0).bind fun r6 => bif r6 != 0 then none else (gd [decide (0 ≤ 4), decide (4 < (10 : Int))] ((K.Vb a0).bind fun r7 => bif r7 != 0 then none else (gd [decide (0 ≤ 5), decide (5 < (10 : Int))] ((K.Qy a0).bind fun r8 => bif r8 != 0 then none else (gd [decide (0 ≤ 6), decide (6 < (10 : Int))] ((K.Qz a0).bind fun r9 => bif r9 != 0 then none else (gd [decide (0 ≤ 7), decide (7 < (10 : Int))] ((K.Y7 a0).bind fun r10 => bif r10 != 0 then none else (gd [decide (0 ≤ 8), decide (8 < (10 : Int))] ((K.Yb a0).bind fun r11 => bif r11 != 0 then none else (gd [decide (0 ≤ 9), decide (9 < (10 : Int))] ((K.YM a0).bind fun r12 => bif r12 != 0 then none else (some 0))))))))))))))))))))))
theorem Zar (a0 : Zf) : Ref (K.QX a0) (M.QX a0) := by
  unfold K.QX M.QX
  repeat' (first | with_reducible exact ZJ | with_reducible exact ZM | with_reducible exact Zc5 .. | with_reducible exact RE .. | with_reducible exact Kr .. | with_reducible exact Kc .. | with_reducible exact KM .. | with_reducible exact ZbV .. | with_reducible exact ZcC .. | with_reducible exact RH .. | with_reducible exact RI .. | with_reducible exact KN .. | with_reducible exact Gv .. | with_reducible exact Ku .. | with_reducible refine ZN ?_ (fun _ => ?_) | with_reducible refine Xi ?_ | with_reducible refine Xj ?_ | with_reducible refine ZO ?_ ?_ | with_reducible refine ZP (fun _ => ?_) (fun _ => ?_) | with_reducible refine ZK (fun _ => ?_))
noncomputable def K.JL (a0 : Zl) (b0 : Int) : Option Bool :=
  some ((a0.ZV != 0) && (a0.Zx == b0))
theorem ZbW (a0 : Zl) (b0 : Int) : Ref (K.JL a0 b0) (M.JL a0 b0) := by
  unfold K.JL M.JL
  repeat' (first | with_reducible exact ZJ | with_reducible exact ZM | with_reducible refine ZN ?_ (fun _ => ?_) | with_reducible refine Xi ?_ | with_reducible refine Xj ?_ | with_reducible refine ZO ?_ ?_ | with_reducible refine ZP (fun _ => ?_) (fun _ => ?_) | with_reducible refine ZK (fun _ => ?_))
noncomputable def K.ZU (a0 : List Zl) (a1c0 : Int) (p1 : Int) : Option (Int ⊕ (Unit ⊕ Int)) :=
  bif decide (p1 < (a0.length : Int)) then ((K.JL (a0.getD p1.toNat default) a1c0).bind fun r3 => gd [decide (0 ≤ p1), decide (p1 < (a0.length : Int))] (bif r3 then (some (.inr (.inr p1))) else (some (.inl (wr .i64 (p1 + 1)))))) else (some (.inr (.inl ())))
theorem JQ (a0 : List Zl) (a1c0 : Int) (p1 : Int) : Ref (K.ZU a0 a1c0 p1) (M.ZU a0 a1c0 p1) := by
  unfold K.ZU M.ZU
  repeat' (first | with_reducible exact ZJ | with_reducible exact ZM | with_reducible exact ZbW .. | with_reducible refine ZN ?_ (fun _ => ?_) | with_reducible refine Xi ?_ | with_reducible refine Xj ?_ | with_reducible refine ZO ?_ ?_ | with_reducible refine ZP (fun _ => ?_) (fun _ => ?_) | with_reducible refine ZK (fun _ => ?_))
noncomputable def K.ZL (a0 : List Zl) (a1c0 : Int) : Option Int :=
  (loopN 1000 (K.ZU a0 a1c0) 0).bind fun y4 => Sum.elim (fun _ => some (-1)) (fun y6 => some y6) y4
theorem J0 (a0 : List Zl) (a1c0 : Int) : Ref (K.ZL a0 a1c0) (M.ZL a0 a1c0) := by
  unfold K.ZL M.ZL
  repeat' (first | with_reducible exact ZJ | with_reducible exact ZM | with_reducible exact JQ .. | with_reducible refine ZN ?_ (fun _ => ?_) | with_reducible refine Xi ?_ | with_reducible refine Xj ?_ | with_reducible refine ZO ?_ ?_ | with_reducible refine ZP (fun _ => ?_) (fun _ => ?_) | with_reducible refine ZK (fun _ => ?_))
noncomputable def K.Vu (a0 : Zf) (a1 : Int) : Option Int :=
  (K.ZL a0.Zc a1).bind fun r1 => some r1
theorem Zdd (a0 : Zf) (a1 : Int) : Ref (K.Vu a0 a1) (M.Vu a0 a1) := by
  unfold K.Vu M.Vu
  repeat' (first | with_reducible exact ZJ | with_reducible exact ZM | with_reducible exact J0 .. | with_reducible refine ZN ?_ (fun _ => ?_) | with_reducible refine Xi ?_ | with_reducible refine Xj ?_ | with_reducible refine ZO ?_ ?_ | with_reducible refine ZP (fun _ => ?_) (fun _ => ?_) | with_reducible refine ZK (fun _ => ?_))
noncomputable def K.Y8 (a0 : Zl) (b0 : Zf) : Option Bool :=
  (gc (a0.ZV != 0) (K.Vu b0 a0.Zx)).bind fun r1 => some ((a0.ZV != 0) && (decide (r1 ≥ 0)))
theorem KO (a0 : Zl) (b0 : Zf) : Ref (K.Y8 a0 b0) (M.Y8 a0 b0) := by
  unfold K.Y8 M.Y8
  repeat' (first | with_reducible exact ZJ | with_reducible exact ZM | with_reducible exact Zdd .. | with_reducible refine ZN ?_ (fun _ => ?_) | with_reducible refine Xi ?_ | with_reducible refine Xj ?_ | with_reducible refine ZO ?_ ?_ | with_reducible refine ZP (fun _ => ?_) (fun _ => ?_) | with_reducible refine ZK (fun _ => ?_))
noncomputable def K.ZI (a0 : List Zl) (a1c0 : Zf) (p1 : Int) : Option (Int ⊕ (Unit ⊕ Int)) :=
  bif decide (p1 < (a0.length : Int)) then ((K.Y8 (a0.getD p1.toNat default) a1c0).bind fun r3 => gd [decide (0 ≤ p1), decide (p1 < (a0.length : Int))] (bif r3 then (some (.inr (.inr p1))) else (some (.inl (wr .i64 (p1 + 1)))))) else (some (.inr (.inl ())))
theorem Jp (a0 : List Zl) (a1c0 : Zf) (p1 : Int) : Ref (K.ZI a0 a1c0 p1) (M.ZI a0 a1c0 p1) := by
  unfold K.ZI M.ZI
  repeat' (first | with_reducible exact ZJ | with_reducible exact ZM | with_reducible exact KO .. | with_reducible refine ZN ?_ (fun _ => ?_) | with_reducible refine Xi ?_ | with_reducible refine Xj ?_ | with_reducible refine ZO ?_ ?_ | with_reducible refine ZP (fun _ => ?_) (fun _ => ?_) | with_reducible refine ZK (fun _ => ?_))
noncomputable def K.ZD (a0 : List Zl) (a1c0 : Zf) : Option Int :=
  (loopN 1000 (K.ZI a0 a1c0) 0).bind fun y4 => Sum.elim (fun _ => some (-1)) (fun y6 => some y6) y4
theorem JC (a0 : List Zl) (a1c0 : Zf) : Ref (K.ZD a0 a1c0) (M.ZD a0 a1c0) := by
  unfold K.ZD M.ZD
  repeat' (first | with_reducible exact ZJ | with_reducible exact ZM | with_reducible exact Jp .. | with_reducible refine ZN ?_ (fun _ => ?_) | with_reducible refine Xi ?_ | with_reducible refine Xj ?_ | with_reducible refine ZO ?_ ?_ | with_reducible refine ZP (fun _ => ?_) (fun _ => ?_) | with_reducible refine ZK (fun _ => ?_))
noncomputable def K.ZA (a0 : List Zl) (a1c0 : Zf) : Option Bool :=
  (K.ZD a0 a1c0).bind fun r1 => some (decide (r1 ≥ 0))
theorem Jq (a0 : List Zl) (a1c0 : Zf) : Ref (K.ZA a0 a1c0) (M.ZA a0 a1c0) := by
  unfold K.ZA M.ZA
  repeat' (first | with_reducible exact ZJ | with_reducible exact ZM | with_reducible exact JC .. | with_reducible refine ZN ?_ (fun _ => ?_) | with_reducible refine Xi ?_ | with_reducible refine Xj ?_ | with_reducible refine ZO ?_ ?_ | with_reducible refine ZP (fun _ => ?_) (fun _ => ?_) | with_reducible refine ZK (fun _ => ?_))
noncomputable def K.QA (a0 : Zf) (a1 : Zf) : Option Bool :=
  (K.ZA a1.Zc a0).bind fun r1 => some r1
theorem RJ (a0 : Zf) (a1 : Zf) : Ref (K.QA a0 a1) (M.QA a0 a1) := by
  unfold K.QA M.QA
  repeat' (first | with_reducible exact ZJ | with_reducible exact ZM | with_reducible exact Jq .. | with_reducible refine ZN ?_ (fun _ => ?_) | with_reducible refine Xi ?_ | with_reducible refine Xj ?_ | with_reducible refine ZO ?_ ?_ | with_reducible refine ZP (fun _ => ?_) (fun _ => ?_) | with_reducible refine ZK (fun _ => ?_))
noncomputable def K.VA (a0 : ZB) (p1 : Int) (p4 : Int) : Option (Int ⊕ Unit) :=
  bif decide (p4 < ((p1.toNat - 0 : Nat) : Int)) then (gd [decide (0 ≤ p4), decide (p4 < (((a0.Zd.drop 0).take (p1.toNat - 0)).length : Int))] ((gc (!(strEq ((((a0.Zd.drop 0).take (p1.toNat - 0)).getD p4.toNat default).Xm) ((a0.Zd.getD p1.toNat default).Xm))) (K.QA (((a0.Zd.drop 0).take (p1.toNat - 0)).getD p4.toNat default) (a0.Zd.getD p1.toNat default))).bind fun r6 => bif (strEq ((((a0.Zd.drop 0).take (p1.toNat - 0)).getD p4.toNat default).Xm) ((a0.Zd.getD p1.toNat default).Xm)) || r6 then none else (some (.inl (wr .i64 (p4 + 1)))))) else (some (.inr ()))
theorem ZcD (a0 : ZB) (p1 : Int) (p4 : Int) : Ref (K.VA a0 p1 p4) (M.VA a0 p1 p4) := by
  unfold K.VA M.VA
  repeat' (first | with_reducible exact ZJ | with_reducible exact ZM | with_reducible exact RJ .. | with_reducible refine ZN ?_ (fun _ => ?_) | with_reducible refine Xi ?_ | with_reducible refine Xj ?_ | with_reducible refine ZO ?_ ?_ | with_reducible refine ZP (fun _ => ?_) (fun _ => ?_) | with_reducible refine ZK (fun _ => ?_))
noncomputable def K.VB (a0 : ZB) (p1 : Int) : Option (Int ⊕ Unit) :=
  bif decide (p1 < (a0.Zd.length : Int)) then (gd [decide (0 ≤ p1), decide (p1 < (a0.Zd.length : Int))] ((K.QX (a0.Zd.getD p1.toNat default)).bind fun r3 => bif r3 != 0 then none else (gd [decide (0 ≤ p1), decide (p1 ≤ (a0.Zd.length : Int))] ((loopN 1000 (K.VA a0 p1) 0).bind fun y7 => some (.inl (wr .i64 (p1 + 1))))))) else (some (.inr ()))
theorem ZcE (a0 : ZB) (p1 : Int) : Ref (K.VB a0 p1) (M.VB a0 p1) := by
  unfold K.VB M.VB
  repeat' (first | with_reducible exact ZJ | with_reducible exact ZM | with_reducible exact Zar .. | with_reducible exact ZcD .. | with_reducible refine ZN ?_ (fun _ => ?_) | with_reducible refine Xi ?_ | with_reducible refine Xj ?_ | with_reducible refine ZO ?_ ?_ | with_reducible refine ZP (fun _ => ?_) (fun _ => ?_) | with_reducible refine ZK (fun _ => ?_))
noncomputable def K.Wg (a0 : ZB) : Option Int :=
  bif decide ((a0.Zd.length : Int) > 8) then none else ((loopN 1000 (K.VB a0) 0).bind fun y8 => some 0)
theorem ZeL (a0 : ZB) : Ref (K.Wg a0) (M.Wg a0) := by
  unfold K.Wg M.Wg
  repeat' (first | with_reducible exact ZJ | with_reducible exact ZM | with_reducible exact ZcE .. | with_reducible refine ZN ?_ (fun _ => ?_) | with_reducible refine Xi ?_ | with_reducible refine Xj ?_ | with_reducible refine ZO ?_ ?_ | with_reducible refine ZP (fun _ => ?_) (fun _ => ?_) | with_reducible refine ZK (fun _ => ?_))
noncomputable def K.Q6 (i : Int) (p : (List Zh) × (List (Xa × Int)) × Int) (q : (List Zh) × (List (Xa × Int)) × Int) : Option (((List Zh) × (List (Xa × Int)) × Int) ⊕ ((List Zh) × (List (Xa × Int)))) :=
  gd [decide (0 ≤ q.2.2), decide (q.2.2 < (q.1.length : Int)), decide (((q.1.getD (0 + q.2.2.toNat) default).ZT.length + 1) * 16 ≤ 140737488355328)] (some (.inl (q.1.set (0 + q.2.2.toNat) ⟨(q.1.getD (0 + q.2.2.toNat) default).Zo, (q.1.getD (0 + q.2.2.toNat) default).XE, (q.1.getD (0 + q.2.2.toNat) default).ZT ++ [⟨i, p.2.2⟩]⟩, q.2.1, wr .i64 (p.2.2 + 1))))
theorem ZcF (i : Int) (p : (List Zh) × (List (Xa × Int)) × Int) (q : (List Zh) × (List (Xa × Int)) × Int) : Ref (K.Q6 i p q) (M.Q6 i p q) := by
  unfold K.Q6 M.Q6
  repeat' (first | with_reducible exact ZJ | with_reducible exact ZM | with_reducible refine ZN ?_ (fun _ => ?_) | with_reducible refine Xi ?_ | with_reducible refine Xj ?_ | with_reducible refine ZO ?_ ?_ | with_reducible refine ZP (fun _ => ?_) (fun _ => ?_) | with_reducible refine ZK (fun _ => ?_))
noncomputable def K.JM (a0 : ZB) (i : Int) (p : (List Zh) × (List (Xa × Int)) × Int) : Option (((List Zh) × (List (Xa × Int)) × Int) ⊕ ((List Zh) × (List (Xa × Int)))) :=
  bif decide (p.2.2 < (((a0.Zd.getD i.toNat default).Zc).length : Int)) then (gd [decide (0 ≤ p.2.2), decide (p.2.2 < (((a0.Zd.getD i.toNat default).Zc).length : Int))] (bif (((a0.Zd.getD i.toNat default).Zc.getD p.2.2.toNat default).ZV == 0) || ((a0.Zd.getD i.toNat default).Zc.getD p.2.2.toNat default).QY then (some (.inl (p.1, p.2.1, wr .i64 (p.2.2 + 1)))) else ((K.Jk ((a0.Zd.getD i.toNat default).Zc.getD p.2.2.toNat default).Zx ((a0.Zd.getD i.toNat default).Zc.getD p.2.2.toNat default).ZV).bind fun r => bif !(lkM (topoKeyEq ⟨r, ((a0.Zd.getD i.toNat default).Zc.getD p.2.2.toNat default).XE⟩) p.2.1).2 then (gd [decide ((p.1.length + 1) * 48 ≤ 140737488355328)] (K.Q6 i p (p.1 ++ [⟨r, ((a0.Zd.getD i.toNat default).Zc.getD p.2.2.toNat default).XE, []⟩], p.2.1 ++ [(⟨r, ((a0.Zd.getD i.toNat default).Zc.getD p.2.2.toNat default).XE⟩, (p.1.length : Int))], (p.1.length : Int)))) else (K.Q6 i p (p.1, p.2.1, (lkM (topoKeyEq ⟨r, ((a0.Zd.getD i.toNat default).Zc.getD p.2.2.toNat default).XE⟩) p.2.1).1))))) else (some (.inr (p.1, p.2.1)))
theorem ZbX (a0 : ZB) (i : Int) (p : (List Zh) × (List (Xa × Int)) × Int) : Ref (K.JM a0 i p) (M.JM a0 i p) := by
  unfold K.JM M.JM
  repeat' (first | with_reducible exact ZJ | with_reducible exact ZM | with_reducible exact RF .. | with_reducible exact ZcF .. | with_reducible refine ZN ?_ (fun _ => ?_) | with_reducible refine Xi ?_ | with_reducible refine Xj ?_ | with_reducible refine ZO ?_ ?_ | with_reducible refine ZP (fun _ => ?_) (fun _ => ?_) | with_reducible refine ZK (fun _ => ?_))
noncomputable def K.JN (a0 : ZB) (p : (List Zh) × (List (Xa × Int)) × Int) : Option (((List Zh) × (List (Xa × Int)) × Int) ⊕ (List Zh)) :=
  bif decide (p.2.2 < (a0.Zd.length : Int)) then (gd [decide (0 ≤ p.2.2), decide (p.2.2 < (a0.Zd.length : Int))] ((loopN 1000 (K.JM a0 p.2.2) (p.1, p.2.1, 0)).bind fun y => some (.inl (y.1, y.2, wr .i64 (p.2.2 + 1))))) else (some (.inr p.1))
theorem ZbY (a0 : ZB) (p : (List Zh) × (List (Xa × Int)) × Int) : Ref (K.JN a0 p) (M.JN a0 p) := by
  unfold K.JN M.JN
  repeat' (first | with_reducible exact ZJ | with_reducible exact ZM | with_reducible exact ZbX .. | with_reducible refine ZN ?_ (fun _ => ?_) | with_reducible refine Xi ?_ | with_reducible refine Xj ?_ | with_reducible refine ZO ?_ ?_ | with_reducible refine ZP (fun _ => ?_) (fun _ => ?_) | with_reducible refine ZK (fun _ => ?_))
noncomputable def K.VS (a0 : ZB) : Option (List Zh) :=
  (loopN 1000 (K.JN a0) ([], [], 0)).bind fun y => some y
theorem Zeq (a0 : ZB) : Ref (K.VS a0) (M.VS a0) := by
  unfold K.VS M.VS
  repeat' (first | with_reducible exact ZJ | with_reducible exact ZM | with_reducible exact ZbY .. | with_reducible refine ZN ?_ (fun _ => ?_) | with_reducible refine Xi ?_ | with_reducible refine Xj ?_ | with_reducible refine ZO ?_ ?_ | with_reducible refine ZP (fun _ => ?_) (fun _ => ?_) | with_reducible refine ZK (fun _ => ?_))
noncomputable def K.YD (a0 : Int) : Option Bool :=
  some (a0 != a0)
theorem Za5 (a0 : Int) : Ref (K.YD a0) (M.YD a0) := by
  unfold K.YD M.YD
  repeat' (first | with_reducible exact ZJ | with_reducible exact ZM | with_reducible refine ZN ?_ (fun _ => ?_) | with_reducible refine Xi ?_ | with_reducible refine Xj ?_ | with_reducible refine ZO ?_ ?_ | with_reducible refine ZP (fun _ => ?_) (fun _ => ?_) | with_reducible refine ZK (fun _ => ?_))
noncomputable def K.YJ (a0 : Int) (a1 : Int) : Option Int :=
  (K.YD a0).bind fun r1 => (K.YD a1).bind fun r2 => bif r1 then (bif r2 then (some 0) else (some (-1))) else (bif r2 then (some 1) else (bif decide (a0 < a1) then (some (-1)) else (bif decide (a0 > a1) then (some 1) else (some 0))))
theorem RK (a0 : Int) (a1 : Int) : Ref (K.YJ a0 a1) (M.YJ a0 a1) := by
  unfold K.YJ M.YJ
  repeat' (first | with_reducible exact ZJ | with_reducible exact ZM | with_reducible exact Za5 .. | with_reducible refine ZN ?_ (fun _ => ?_) | with_reducible refine Xi ?_ | with_reducible refine Xj ?_ | with_reducible refine ZO ?_ ?_ | with_reducible refine ZP (fun _ => ?_) (fun _ => ?_) | with_reducible refine ZK (fun _ => ?_))
noncomputable def K.QM (a0 : Int) : Option Bool :=
  some (a0 != a0)
theorem Zde (a0 : Int) : Ref (K.QM a0) (M.QM a0) := by
  unfold K.QM M.QM
  repeat' (first | with_reducible exact ZJ | with_reducible exact ZM | with_reducible refine ZN ?_ (fun _ => ?_) | with_reducible refine Xi ?_ | with_reducible refine Xj ?_ | with_reducible refine ZO ?_ ?_ | with_reducible refine ZP (fun _ => ?_) (fun _ => ?_) | with_reducible refine ZK (fun _ => ?_))
noncomputable def K.YQ (a0 : Int) (a1 : Int) : Option Int :=
  (K.QM a0).bind fun r1 => (K.QM a1).bind fun r2 => bif r1 then (bif r2 then (some 0) else (some (-1))) else (bif r2 then (some 1) else (bif decide (a0 < a1) then (some (-1)) else (bif decide (a0 > a1) then (some 1) else (some 0))))
theorem G4 (a0 : Int) (a1 : Int) : Ref (K.YQ a0 a1) (M.YQ a0 a1) := by
  unfold K.YQ M.YQ
  repeat' (first | with_reducible exact ZJ | with_reducible exact ZM | with_reducible exact Zde .. | with_reducible refine ZN ?_ (fun _ => ?_) | with_reducible refine Xi ?_ | with_reducible refine Xj ?_ | with_reducible refine ZO ?_ ?_ | with_reducible refine ZP (fun _ => ?_) (fun _ => ?_) | with_reducible refine ZK (fun _ => ?_))
noncomputable def K.Vc (a0 : ZZ) (a1 : ZZ) : Option Int :=
  (K.YJ a0.Zx a1.Zx).bind fun r1 => bif r1 != 0 then (some r1) else ((K.YQ a0.ZV a1.ZV).bind fun r2 => some r2)
theorem Zer (a0 : ZZ) (a1 : ZZ) : Ref (K.Vc a0 a1) (M.Vc a0 a1) := by
  unfold K.Vc M.Vc
  repeat' (first | with_reducible exact ZJ | with_reducible exact ZM | with_reducible exact RK .. | with_reducible exact G4 .. | with_reducible refine ZN ?_ (fun _ => ?_) | with_reducible refine Xi ?_ | with_reducible refine Xj ?_ | with_reducible refine ZO ?_ ?_ | with_reducible refine ZP (fun _ => ?_) (fun _ => ?_) | with_reducible refine ZK (fun _ => ?_))
noncomputable def K.Qp (a0 : List Int) (p1 : Int) : Option (Int ⊕ (Unit ⊕ Int)) :=
  bif decide (p1 < (a0.length : Int)) then (gd [decide (0 ≤ p1), decide (p1 < (a0.length : Int))] (bif (a0.getD p1.toNat default) != 0 then (some (.inr (.inr (a0.getD p1.toNat default)))) else (some (.inl (wr .i64 (p1 + 1)))))) else (some (.inr (.inl ())))
theorem Zdf (a0 : List Int) (p1 : Int) : Ref (K.Qp a0 p1) (M.Qp a0 p1) := by
  unfold K.Qp M.Qp
  repeat' (first | with_reducible exact ZJ | with_reducible exact ZM | with_reducible refine ZN ?_ (fun _ => ?_) | with_reducible refine Xi ?_ | with_reducible refine Xj ?_ | with_reducible refine ZO ?_ ?_ | with_reducible refine ZP (fun _ => ?_) (fun _ => ?_) | with_reducible refine ZK (fun _ => ?_))
noncomputable def K.Wa (a0 : List Int) : Option Int :=
  (loopN 1000 (K.Qp a0) 0).bind fun y3 => Sum.elim (fun _ => some 0) (fun y5 => some y5) y3
theorem ZfQ (a0 : List Int) : Ref (K.Wa a0) (M.Wa a0) := by
  unfold K.Wa M.Wa
  repeat' (first | with_reducible exact ZJ | with_reducible exact ZM | with_reducible exact Zdf .. | with_reducible refine ZN ?_ (fun _ => ?_) | with_reducible refine Xi ?_ | with_reducible refine Xj ?_ | with_reducible refine ZO ?_ ?_ | with_reducible refine ZP (fun _ => ?_) (fun _ => ?_) | with_reducible refine ZK (fun _ => ?_))
noncomputable def K.JO (a0 : Zh) (a1 : Zh) : Option Int :=
  (K.Vc a0.Zo a1.Zo).bind fun r1 => (K.YQ a0.XE a1.XE).bind fun r2 => (K.Wa ([r1, r2] : List Int)).bind fun r3 => some r3
theorem Zes (a0 : Zh) (a1 : Zh) : Ref (K.JO a0 a1) (M.JO a0 a1) := by
  unfold K.JO M.JO
  repeat' (first | with_reducible exact ZJ | with_reducible exact ZM | with_reducible exact G4 .. | with_reducible exact Zer .. | with_reducible exact ZfQ .. | with_reducible refine ZN ?_ (fun _ => ?_) | with_reducible refine Xi ?_ | with_reducible refine Xj ?_ | with_reducible refine ZO ?_ ?_ | with_reducible refine ZP (fun _ => ?_) (fun _ => ?_) | with_reducible refine ZK (fun _ => ?_))
noncomputable def K.XD (a0 : List Zh) : Option (List Zh) :=
  sortK K.JO a0
theorem VN (a0 : List Zh) : Ref (K.XD a0) (M.XD a0) := Zif Zes ZdA
noncomputable def K.JA (p5 : (List Int) × Int) (p7 : (List Int)) : Option (((List Int) × Int) ⊕ (List Int)) :=
  some (.inl (p7, wr .i64 (p5.2 + 1)))
theorem Zdg (p5 : (List Int) × Int) (p7 : (List Int)) : Ref (K.JA p5 p7) (M.JA p5 p7) := by
  unfold K.JA M.JA
  repeat' (first | with_reducible exact ZJ | with_reducible exact ZM | with_reducible refine ZN ?_ (fun _ => ?_) | with_reducible refine Xi ?_ | with_reducible refine Xj ?_ | with_reducible refine ZO ?_ ?_ | with_reducible refine ZP (fun _ => ?_) (fun _ => ?_) | with_reducible refine ZK (fun _ => ?_))
noncomputable def K.VW (r3 : (List Zh)) (p5 : (List Int) × Int) : Option (((List Int) × Int) ⊕ (List Int)) :=
  bif decide (p5.2 < (r3.length : Int)) then (gd [decide (0 ≤ p5.2), decide (p5.2 < (r3.length : Int))] (bif decide ((((r3.getD p5.2.toNat default).ZT).length : Int) ≥ 2) then (gd [decide ((p5.1.length + 1) * 8 ≤ 140737488355328)] (K.JA p5 (p5.1 ++ [p5.2]))) else (K.JA p5 p5.1))) else (some (.inr p5.1))
theorem Zdh (r3 : (List Zh)) (p5 : (List Int) × Int) : Ref (K.VW r3 p5) (M.VW r3 p5) := by
  unfold K.VW M.VW
  repeat' (first | with_reducible exact ZJ | with_reducible exact ZM | with_reducible exact Zdg .. | with_reducible refine ZN ?_ (fun _ => ?_) | with_reducible refine Xi ?_ | with_reducible refine Xj ?_ | with_reducible refine ZO ?_ ?_ | with_reducible refine ZP (fun _ => ?_) (fun _ => ?_) | with_reducible refine ZK (fun _ => ?_))
noncomputable def K.WT (a0 : ZB) : Option (Qt × Int) :=
  (K.Wg a0).bind fun r1 => bif r1 != 0 then none else ((K.VS a0).bind fun r2 => (K.XD r2).bind fun r3 => gd [decide (r3.length = r2.length)] ((loopN 1000 (K.VW r3) (([] : List Int), 0)).bind fun y8 => bif decide ((y8.length : Int) > 12) then none else (some ((⟨r3, y8⟩ : Qt), 0))))
theorem ZfR (a0 : ZB) : Ref (K.WT a0) (M.WT a0) := by
  unfold K.WT M.WT
  repeat' (first | with_reducible exact ZJ | with_reducible exact ZM | with_reducible exact ZeL .. | with_reducible exact Zeq .. | with_reducible exact VN .. | with_reducible exact Zdh .. | with_reducible refine ZN ?_ (fun _ => ?_) | with_reducible refine Xi ?_ | with_reducible refine Xj ?_ | with_reducible refine ZO ?_ ?_ | with_reducible refine ZP (fun _ => ?_) (fun _ => ?_) | with_reducible refine ZK (fun _ => ?_))
noncomputable def K.XO (a0 : List Zf) : Option (List Zf) :=
  gd [decide (0 = 0) || decide (0 < a0.length), decide ((0 + a0.length) * 448 ≤ 140737488355328)] (some a0)
theorem Uq (a0 : List Zf) : Ref (K.XO a0) (M.XO a0) := by
  unfold K.XO M.XO
  repeat' (first | with_reducible exact ZJ | with_reducible exact ZM | with_reducible refine ZN ?_ (fun _ => ?_) | with_reducible refine Xi ?_ | with_reducible refine Xj ?_ | with_reducible refine ZO ?_ ?_ | with_reducible refine ZP (fun _ => ?_) (fun _ => ?_) | with_reducible refine ZK (fun _ => ?_))
noncomputable def K.Xn (a0 : List Zl) : Option (List Zl) :=
  gd [decide (0 = 0) || decide (0 < a0.length), decide ((0 + a0.length) * 112 ≤ 140737488355328)] (some a0)
theorem WV (a0 : List Zl) : Ref (K.Xn a0) (M.Xn a0) := by
  unfold K.Xn M.Xn
  repeat' (first | with_reducible exact ZJ | with_reducible exact ZM | with_reducible refine ZN ?_ (fun _ => ?_) | with_reducible refine Xi ?_ | with_reducible refine Xj ?_ | with_reducible refine ZO ?_ ?_ | with_reducible refine ZP (fun _ => ?_) (fun _ => ?_) | with_reducible refine ZK (fun _ => ?_))
noncomputable def K.Xh (a0 : List Z2) : Option (List Z2) :=
  gd [decide (0 = 0) || decide (0 < a0.length), decide ((0 + a0.length) * 40 ≤ 140737488355328)] (some a0)
theorem WG (a0 : List Z2) : Ref (K.Xh a0) (M.Xh a0) := by
  unfold K.Xh M.Xh
  repeat' (first | with_reducible exact ZJ | with_reducible exact ZM | with_reducible refine ZN ?_ (fun _ => ?_) | with_reducible refine Xi ?_ | with_reducible refine Xj ?_ | with_reducible refine ZO ?_ ?_ | with_reducible refine ZP (fun _ => ?_) (fun _ => ?_) | with_reducible refine ZK (fun _ => ?_))
noncomputable def K.Xu (a0 : List Ya) : Option (List Ya) :=
  gd [decide (0 = 0) || decide (0 < a0.length), decide ((0 + a0.length) * 40 ≤ 140737488355328)] (some a0)
theorem W7 (a0 : List Ya) : Ref (K.Xu a0) (M.Xu a0) := by
  unfold K.Xu M.Xu
  repeat' (first | with_reducible exact ZJ | with_reducible exact ZM | with_reducible refine ZN ?_ (fun _ => ?_) | with_reducible refine Xi ?_ | with_reducible refine Xj ?_ | with_reducible refine ZO ?_ ?_ | with_reducible refine ZP (fun _ => ?_) (fun _ => ?_) | with_reducible refine ZK (fun _ => ?_))
noncomputable def K.X3 (a0 : List W3) : Option (List W3) :=
  gd [decide (0 = 0) || decide (0 < a0.length), decide ((0 + a0.length) * 40 ≤ 140737488355328)] (some a0)
theorem U5 (a0 : List W3) : Ref (K.X3 a0) (M.X3 a0) := by
  unfold K.X3 M.X3
  repeat' (first | with_reducible exact ZJ | with_reducible exact ZM | with_reducible refine ZN ?_ (fun _ => ?_) | with_reducible refine Xi ?_ | with_reducible refine Xj ?_ | with_reducible refine ZO ?_ ?_ | with_reducible refine ZP (fun _ => ?_) (fun _ => ?_) | with_reducible refine ZK (fun _ => ?_))
noncomputable def K.Xe (a0 : List YT) : Option (List YT) :=
  gd [decide (0 = 0) || decide (0 < a0.length), decide ((0 + a0.length) * 64 ≤ 140737488355328)] (some a0)
theorem Wn (a0 : List YT) : Ref (K.Xe a0) (M.Xe a0) := by
  unfold K.Xe M.Xe
  repeat' (first | with_reducible exact ZJ | with_reducible exact ZM | with_reducible refine ZN ?_ (fun _ => ?_) | with_reducible refine Xi ?_ | with_reducible refine Xj ?_ | with_reducible refine ZO ?_ ?_ | with_reducible refine ZP (fun _ => ?_) (fun _ => ?_) | with_reducible refine ZK (fun _ => ?_))
noncomputable def K.Xf (a0 : List YU) : Option (List YU) :=
  gd [decide (0 = 0) || decide (0 < a0.length), decide ((0 + a0.length) * 64 ≤ 140737488355328)] (some a0)
theorem Wo (a0 : List YU) : Ref (K.Xf a0) (M.Xf a0) := by
  unfold K.Xf M.Xf
  repeat' (first | with_reducible exact ZJ | with_reducible exact ZM | with_reducible refine ZN ?_ (fun _ => ?_) | with_reducible refine Xi ?_ | with_reducible refine Xj ?_ | with_reducible refine ZO ?_ ?_ | with_reducible refine ZP (fun _ => ?_) (fun _ => ?_) | with_reducible refine ZK (fun _ => ?_))
noncomputable def K.Xo (a0 : List J4) : Option (List J4) :=
  gd [decide (0 = 0) || decide (0 < a0.length), decide ((0 + a0.length) * 24 ≤ 140737488355328)] (some a0)
theorem WW (a0 : List J4) : Ref (K.Xo a0) (M.Xo a0) := by
  unfold K.Xo M.Xo
  repeat' (first | with_reducible exact ZJ | with_reducible exact ZM | with_reducible refine ZN ?_ (fun _ => ?_) | with_reducible refine Xi ?_ | with_reducible refine Xj ?_ | with_reducible refine ZO ?_ ?_ | with_reducible refine ZP (fun _ => ?_) (fun _ => ?_) | with_reducible refine ZK (fun _ => ?_))
noncomputable def K.Z8 (a0 : List YK) : Option (List YK) :=
  gd [decide (0 = 0) || decide (0 < a0.length), decide ((0 + a0.length) * 48 ≤ 140737488355328)] (some a0)
theorem Ur (a0 : List YK) : Ref (K.Z8 a0) (M.Z8 a0) := by
  unfold K.Z8 M.Z8
  repeat' (first | with_reducible exact ZJ | with_reducible exact ZM | with_reducible refine ZN ?_ (fun _ => ?_) | with_reducible refine Xi ?_ | with_reducible refine Xj ?_ | with_reducible refine ZO ?_ ?_ | with_reducible refine ZP (fun _ => ?_) (fun _ => ?_) | with_reducible refine ZK (fun _ => ?_))
noncomputable def K.Xv (a0 : List Jv) : Option (List Jv) :=
  gd [decide (0 = 0) || decide (0 < a0.length), decide ((0 + a0.length) * 48 ≤ 140737488355328)] (some a0)
theorem W8 (a0 : List Jv) : Ref (K.Xv a0) (M.Xv a0) := by
  unfold K.Xv M.Xv
  repeat' (first | with_reducible exact ZJ | with_reducible exact ZM | with_reducible refine ZN ?_ (fun _ => ?_) | with_reducible refine Xi ?_ | with_reducible refine Xj ?_ | with_reducible refine ZO ?_ ?_ | with_reducible refine ZP (fun _ => ?_) (fun _ => ?_) | with_reducible refine ZK (fun _ => ?_))
noncomputable def K.XP (a0 : List ZZ) : Option (List ZZ) :=
  gd [decide (0 = 0) || decide (0 < a0.length), decide ((0 + a0.length) * 16 ≤ 140737488355328)] (some a0)
theorem Us (a0 : List ZZ) : Ref (K.XP a0) (M.XP a0) := by
  unfold K.XP M.XP
  repeat' (first | with_reducible exact ZJ | with_reducible exact ZM | with_reducible refine ZN ?_ (fun _ => ?_) | with_reducible refine Xi ?_ | with_reducible refine Xj ?_ | with_reducible refine ZO ?_ ?_ | with_reducible refine ZP (fun _ => ?_) (fun _ => ?_) | with_reducible refine ZK (fun _ => ?_))
noncomputable def K.Xp (a0 : List J5) : Option (List J5) :=
  gd [decide (0 = 0) || decide (0 < a0.length), decide ((0 + a0.length) * 24 ≤ 140737488355328)] (some a0)
theorem WX (a0 : List J5) : Ref (K.Xp a0) (M.Xp a0) := by
  unfold K.Xp M.Xp
  repeat' (first | with_reducible exact ZJ | with_reducible exact ZM | with_reducible refine ZN ?_ (fun _ => ?_) | with_reducible refine Xi ?_ | with_reducible refine Xj ?_ | with_reducible refine ZO ?_ ?_ | with_reducible refine ZP (fun _ => ?_) (fun _ => ?_) | with_reducible refine ZK (fun _ => ?_))
noncomputable def K.Xq (a0 : List J6) : Option (List J6) :=
  gd [decide (0 = 0) || decide (0 < a0.length), decide ((0 + a0.length) * 40 ≤ 140737488355328)] (some a0)
theorem WY (a0 : List J6) : Ref (K.Xq a0) (M.Xq a0) := by
  unfold K.Xq M.Xq
  repeat' (first | with_reducible exact ZJ | with_reducible exact ZM | with_reducible refine ZN ?_ (fun _ => ?_) | with_reducible refine Xi ?_ | with_reducible refine Xj ?_ | with_reducible refine ZO ?_ ?_ | with_reducible refine ZP (fun _ => ?_) (fun _ => ?_) | with_reducible refine ZK (fun _ => ?_))
noncomputable def K.Q7 (r2 : (List Z2)) (p3 : Int) : Option (Int ⊕ Unit) :=
  bif decide (p3 < (r2.length : Int)) then none else (some (.inr ()))
theorem RL (r2 : (List Z2)) (p3 : Int) : Ref (K.Q7 r2 p3) (M.Q7 r2 p3) := by
  unfold K.Q7 M.Q7
  repeat' (first | with_reducible exact ZJ | with_reducible exact ZM | with_reducible refine ZN ?_ (fun _ => ?_) | with_reducible refine Xi ?_ | with_reducible refine Xj ?_ | with_reducible refine ZO ?_ ?_ | with_reducible refine ZP (fun _ => ?_) (fun _ => ?_) | with_reducible refine ZK (fun _ => ?_))
noncomputable def K.Q8 (r6 : (List Ya)) (p7 : Int) : Option (Int ⊕ Unit) :=
  bif decide (p7 < (r6.length : Int)) then none else (some (.inr ()))
theorem RM (r6 : (List Ya)) (p7 : Int) : Ref (K.Q8 r6 p7) (M.Q8 r6 p7) := by
  unfold K.Q8 M.Q8
  repeat' (first | with_reducible exact ZJ | with_reducible exact ZM | with_reducible refine ZN ?_ (fun _ => ?_) | with_reducible refine Xi ?_ | with_reducible refine Xj ?_ | with_reducible refine ZO ?_ ?_ | with_reducible refine ZP (fun _ => ?_) (fun _ => ?_) | with_reducible refine ZK (fun _ => ?_))
noncomputable def K.Q9 (r10 : (List W3)) (p11 : Int) : Option (Int ⊕ Unit) :=
  bif decide (p11 < (r10.length : Int)) then none else (some (.inr ()))
theorem RN (r10 : (List W3)) (p11 : Int) : Ref (K.Q9 r10 p11) (M.Q9 r10 p11) := by
  unfold K.Q9 M.Q9
  repeat' (first | with_reducible exact ZJ | with_reducible exact ZM | with_reducible refine ZN ?_ (fun _ => ?_) | with_reducible refine Xi ?_ | with_reducible refine Xj ?_ | with_reducible refine ZO ?_ ?_ | with_reducible refine ZP (fun _ => ?_) (fun _ => ?_) | with_reducible refine ZK (fun _ => ?_))
noncomputable def K.JP (a0 : Zf) : Option Zf :=
  (K.Xn a0.Zc).bind fun r1 => (K.Xh a0.Yw).bind fun r2 => (loopN 1000 (K.Q7 r2) 0).bind fun y5 => (K.Xu a0.XF).bind fun r6 => (loopN 1000 (K.Q8 r6) 0).bind fun y9 => (K.X3 a0.YF).bind fun r10 => (loopN 1000 (K.Q9 r10) 0).bind fun y13 => (K.Xe a0.Xc).bind fun r14 => (K.Xf a0.Zr).bind fun r15 => (K.Xo a0.Yh.Z6).bind fun r16 => (K.Z8 a0.Yh.Zs).bind fun r17 => (K.Z8 a0.Yo.Zs).bind fun r18 => (K.Xv a0.Xs.Zm).bind fun r19 => (K.XP a0.Xs.Z1).bind fun r20 => (K.Xp a0.Xs.ZE).bind fun r21 => (K.Xq a0.Xs.Zt).bind fun r22 => (K.Z8 a0.Xs.Zs).bind fun r23 => some (⟨a0.Xm, a0.Gt, r1, r2, r6, r10, r14, r15, (⟨a0.Yh.Vw, a0.Yh.Xr, r16, r17⟩ : Vj), (⟨a0.Yo.Vw, a0.Yo.Xr, a0.Yo.VQ, a0.Yo.Qa, r18⟩ : YE), (⟨a0.Xs.Vw, a0.Xs.XZ, a0.Xs.X0, r19, r20, r21, r22, r23⟩ : Xy)⟩ : Zf)
theorem ZbZ (a0 : Zf) : Ref (K.JP a0) (M.JP a0) := by
  unfold K.JP M.JP
  repeat' (first | with_reducible exact ZJ | with_reducible exact ZM | with_reducible exact WV .. | with_reducible exact WG .. | with_reducible exact W7 .. | with_reducible exact U5 .. | with_reducible exact Wn .. | with_reducible exact Wo .. | with_reducible exact WW .. | with_reducible exact Ur .. | with_reducible exact W8 .. | with_reducible exact Us .. | with_reducible exact WX .. | with_reducible exact WY .. | with_reducible exact RL .. | with_reducible exact RM .. | with_reducible exact RN .. | with_reducible refine ZN ?_ (fun _ => ?_) | with_reducible refine Xi ?_ | with_reducible refine Xj ?_ | with_reducible refine ZO ?_ ?_ | with_reducible refine ZP (fun _ => ?_) (fun _ => ?_) | with_reducible refine ZK (fun _ => ?_))
noncomputable def K.QN (r1 : (List Zf)) (p2 : (List Zf) × Int) : Option (((List Zf) × Int) ⊕ (List Zf)) :=
  bif decide (p2.2 < (r1.length : Int)) then ((K.JP (p2.1.getD (0 + p2.2.toNat) default)).bind fun r4 => gd [decide (0 ≤ p2.2), decide (p2.2 < (p2.1.length : Int)), decide (0 ≤ p2.2), decide (p2.2 < (p2.1.length : Int))] (some (.inl (p2.1.set (0 + p2.2.toNat) r4, wr .i64 (p2.2 + 1))))) else (some (.inr p2.1))
theorem K8 (r1 : (List Zf)) (p2 : (List Zf) × Int) : Ref (K.QN r1 p2) (M.QN r1 p2) := by
  unfold K.QN M.QN
  repeat' (first | with_reducible exact ZJ | with_reducible exact ZM | with_reducible exact ZbZ .. | with_reducible refine ZN ?_ (fun _ => ?_) | with_reducible refine Xi ?_ | with_reducible refine Xj ?_ | with_reducible refine ZO ?_ ?_ | with_reducible refine ZP (fun _ => ?_) (fun _ => ?_) | with_reducible refine ZK (fun _ => ?_))
noncomputable def K.Jl (a0 : ZB) : Option ZB :=
  (K.XO a0.Zd).bind fun r1 => (loopN 1000 (K.QN r1) (r1, 0)).bind fun y5 => some (⟨y5⟩ : ZB)
theorem Za6 (a0 : ZB) : Ref (K.Jl a0) (M.Jl a0) := by
  unfold K.Jl M.Jl
  repeat' (first | with_reducible exact ZJ | with_reducible exact ZM | with_reducible exact Uq .. | with_reducible exact K8 .. | with_reducible refine ZN ?_ (fun _ => ?_) | with_reducible refine Xi ?_ | with_reducible refine Xj ?_ | with_reducible refine ZO ?_ ?_ | with_reducible refine ZP (fun _ => ?_) (fun _ => ?_) | with_reducible refine ZK (fun _ => ?_))
noncomputable def K.Y9 (a0 : List Int) : Option (List Int) :=
  gd [decide (0 = 0) || decide (0 < a0.length), decide ((0 + a0.length) * 8 ≤ 140737488355328)] (some a0)
theorem KP (a0 : List Int) : Ref (K.Y9 a0) (M.Y9 a0) := by
  unfold K.Y9 M.Y9
  repeat' (first | with_reducible exact ZJ | with_reducible exact ZM | with_reducible refine ZN ?_ (fun _ => ?_) | with_reducible refine Xi ?_ | with_reducible refine Xj ?_ | with_reducible refine ZO ?_ ?_ | with_reducible refine ZP (fun _ => ?_) (fun _ => ?_) | with_reducible refine ZK (fun _ => ?_))
noncomputable def K.Wh (a1 : List Int) (r1 : Qt × Int) (p2 : Int) : Option (Int ⊕ Unit) :=
  bif decide (p2 < (a1.length : Int)) then (gd [decide (0 ≤ p2), decide (p2 < (a1.length : Int))] (gd [guardB ((!((decide ((a1.getD p2.toNat default) < 0)) || (decide ((a1.getD p2.toNat default) ≥ (r1.1.YC.length : Int))))) && (decide (p2 > 0))) (decide (0 ≤ (wr .i64 (p2 - 1)))), guardB ((!((decide ((a1.getD p2.toNat default) < 0)) || (decide ((a1.getD p2.toNat default) ≥ (r1.1.YC.length : Int))))) && (decide (p2 > 0))) (decide ((wr .i64 (p2 - 1)) < (a1.length : Int)))] (bif ((decide ((a1.getD p2.toNat default) < 0)) || (decide ((a1.getD p2.toNat default) ≥ (r1.1.YC.length : Int)))) || ((decide (p2 > 0)) && (decide ((a1.getD p2.toNat default) ≤ (a1.getD (wr .i64 (p2 - 1)).toNat default)))) then none else (some (.inl (wr .i64 (p2 + 1))))))) else (some (.inr ()))
theorem Zet (a1 : List Int) (r1 : Qt × Int) (p2 : Int) : Ref (K.Wh a1 r1 p2) (M.Wh a1 r1 p2) := by
  unfold K.Wh M.Wh
  repeat' (first | with_reducible exact ZJ | with_reducible exact ZM | with_reducible refine ZN ?_ (fun _ => ?_) | with_reducible refine Xi ?_ | with_reducible refine Xj ?_ | with_reducible refine ZO ?_ ?_ | with_reducible refine ZP (fun _ => ?_) (fun _ => ?_) | with_reducible refine ZK (fun _ => ?_))
noncomputable def K.WF (a0 : ZB) (a1 : List Int) : Option (XM × Int) :=
  (K.WT a0).bind fun r1 => bif r1.2 != 0 then none else (bif decide ((a1.length : Int) > 2) then none else ((loopN 1000 (K.Wh a1 r1) 0).bind fun y4 => (K.Jl a0).bind fun r5 => (K.Y9 a1).bind fun r6 => some ((⟨r5, r1.1, r6⟩ : XM), 0)))
theorem ZgH (a0 : ZB) (a1 : List Int) : Ref (K.WF a0 a1) (M.WF a0 a1) := by
  unfold K.WF M.WF
  repeat' (first | with_reducible exact ZJ | with_reducible exact ZM | with_reducible exact ZfR .. | with_reducible exact Za6 .. | with_reducible exact KP .. | with_reducible exact Zet .. | with_reducible refine ZN ?_ (fun _ => ?_) | with_reducible refine Xi ?_ | with_reducible refine Xj ?_ | with_reducible refine ZO ?_ ?_ | with_reducible refine ZP (fun _ => ?_) (fun _ => ?_) | with_reducible refine ZK (fun _ => ?_))
noncomputable def K.WU  : Option Bool :=
  (K.V8).bind fun r1 => (K.WF r1 ([] : List Int)).bind fun r2 => (K.V8).bind fun r3 => (K.WF r3 ([0] : List Int)).bind fun r4 => (gc ((((r2.2 == 0) && (r4.2 == 0)) && ((r2.1.Xd.Zv.length : Int) == 2)) && ((r2.1.Xd.YC.length : Int) == 1)) (K.Vg r2.1 0 0)).bind fun r5 => (gc (((((r2.2 == 0) && (r4.2 == 0)) && ((r2.1.Xd.Zv.length : Int) == 2)) && ((r2.1.Xd.YC.length : Int) == 1)) && r5) (K.Vg r4.1 0 0)).bind fun r6 => (gc ((((((r2.2 == 0) && (r4.2 == 0)) && ((r2.1.Xd.Zv.length : Int) == 2)) && ((r2.1.Xd.YC.length : Int) == 1)) && r5) && (!r6)) (K.Vg r4.1 1 1)).bind fun r7 => some (((((((r2.2 == 0) && (r4.2 == 0)) && ((r2.1.Xd.Zv.length : Int) == 2)) && ((r2.1.Xd.YC.length : Int) == 1)) && r5) && (!r6)) && r7)
theorem ZfS  : Ref (K.WU) (M.WU) := by
  unfold K.WU M.WU
  repeat' (first | with_reducible exact ZJ | with_reducible exact ZM | with_reducible exact Zik .. | with_reducible exact ZfO .. | with_reducible exact ZgH .. | with_reducible refine ZN ?_ (fun _ => ?_) | with_reducible refine Xi ?_ | with_reducible refine Xj ?_ | with_reducible refine ZO ?_ ?_ | with_reducible refine ZP (fun _ => ?_) (fun _ => ?_) | with_reducible refine ZK (fun _ => ?_))
theorem Zil : M.WU = some true := ZfS _ (by kernel_rfl)
end Nv
