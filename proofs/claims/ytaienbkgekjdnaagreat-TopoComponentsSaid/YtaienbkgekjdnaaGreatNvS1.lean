/- The fixed example: reckoned. -/
import Derived.Test.YtaienbkgekjdnaaGreatNvD1
import Derived.Test.YtaienbkgekjdnaaGreatNvLibB
import Derived.Test.YtaienbkgekjdnaaGreatNvTs
import Derived.KernelRfl
set_option maxRecDepth 100000
namespace Nv
open Go
noncomputable def K.XG (a0 : List Int) (a1 : Int) (p1 : Int) : Option (Int ⊕ (Unit ⊕ Int)) :=
  bif decide (p1 < (a0.length : Int)) then (gd [decide (0 ≤ p1), decide (p1 < (a0.length : Int))] (bif a1 == (a0.getD p1.toNat default) then (some (.inr (.inr p1))) else (some (.inl (wr .i64 (p1 + 1)))))) else (some (.inr (.inl ())))
theorem GW (a0 : List Int) (a1 : Int) (p1 : Int) : Ref (K.XG a0 a1 p1) (M.XG a0 a1 p1) := by
  unfold K.XG M.XG
  repeat' (first | with_reducible exact ZJ | with_reducible exact ZM | with_reducible refine ZN ?_ (fun _ => ?_) | with_reducible refine Xf ?_ | with_reducible refine Xg ?_ | with_reducible refine ZO ?_ ?_ | with_reducible refine ZP (fun _ => ?_) (fun _ => ?_) | with_reducible refine ZK (fun _ => ?_))
noncomputable def K.XL (a0 : List Int) (a1 : Int) : Option Int :=
  (loopN 1000 (K.XG a0 a1) 0).bind fun y3 => Sum.elim (fun _ => some (-1)) (fun y5 => some y5) y3
theorem U3 (a0 : List Int) (a1 : Int) : Ref (K.XL a0 a1) (M.XL a0 a1) := by
  unfold K.XL M.XL
  repeat' (first | with_reducible exact ZJ | with_reducible exact ZM | with_reducible exact GW .. | with_reducible refine ZN ?_ (fun _ => ?_) | with_reducible refine Xf ?_ | with_reducible refine Xg ?_ | with_reducible refine ZO ?_ ?_ | with_reducible refine ZP (fun _ => ?_) (fun _ => ?_) | with_reducible refine ZK (fun _ => ?_))
noncomputable def K.Xx (a0 : List Int) (a1 : Int) : Option Bool :=
  (K.XL a0 a1).bind fun r1 => some (decide (r1 ≥ 0))
theorem GX (a0 : List Int) (a1 : Int) : Ref (K.Xx a0 a1) (M.Xx a0 a1) := by
  unfold K.Xx M.Xx
  repeat' (first | with_reducible exact ZJ | with_reducible exact ZM | with_reducible exact U3 .. | with_reducible refine ZN ?_ (fun _ => ?_) | with_reducible refine Xf ?_ | with_reducible refine Xg ?_ | with_reducible refine ZO ?_ ?_ | with_reducible refine ZP (fun _ => ?_) (fun _ => ?_) | with_reducible refine ZK (fun _ => ?_))
noncomputable def K.Wg  : Option ZB :=
  some (⟨([(⟨(⟨#[97]⟩ : ByteArray), 0, ([(⟨(⟨#[101, 48]⟩ : ByteArray), 167772161, 24, 0, false, false, 0, 0, false, (⟨#[]⟩ : ByteArray), (⟨#[]⟩ : ByteArray), 0⟩ : Zl)] : List Zl), ([] : List Z2), ([] : List Ya), ([] : List Ud), ([] : List YR), ([] : List YS), (⟨false, 0, ([] : List J3), ([] : List YJ)⟩ : Vl), (⟨false, 0, (⟨#[]⟩ : ByteArray), (⟨#[]⟩ : ByteArray), ([] : List YJ)⟩ : YC), (⟨false, 0, 0, ([] : List Jr), ([] : List ZZ), ([] : List J4), ([] : List J5), ([] : List YJ)⟩ : Xy)⟩ : Zf), (⟨(⟨#[98]⟩ : ByteArray), 0, ([(⟨(⟨#[101, 48]⟩ : ByteArray), 167772162, 24, 0, false, false, 0, 0, false, (⟨#[]⟩ : ByteArray), (⟨#[]⟩ : ByteArray), 0⟩ : Zl), (⟨(⟨#[101, 49]⟩ : ByteArray), 167772418, 24, 0, false, false, 0, 0, false, (⟨#[]⟩ : ByteArray), (⟨#[]⟩ : ByteArray), 0⟩ : Zl)] : List Zl), ([] : List Z2), ([] : List Ya), ([] : List Ud), ([] : List YR), ([] : List YS), (⟨false, 0, ([] : List J3), ([] : List YJ)⟩ : Vl), (⟨false, 0, (⟨#[]⟩ : ByteArray), (⟨#[]⟩ : ByteArray), ([] : List YJ)⟩ : YC), (⟨false, 0, 0, ([] : List Jr), ([] : List ZZ), ([] : List J4), ([] : List J5), ([] : List YJ)⟩ : Xy)⟩ : Zf)] : List Zf)⟩ : ZB)
theorem ZfY  : Ref (K.Wg) (M.Wg) := by
  unfold K.Wg M.Wg
  repeat' (first | with_reducible exact ZJ | with_reducible exact ZM | with_reducible refine ZN ?_ (fun _ => ?_) | with_reducible refine Xf ?_ | with_reducible refine Xg ?_ | with_reducible refine ZO ?_ ?_ | with_reducible refine ZP (fun _ => ?_) (fun _ => ?_) | with_reducible refine ZK (fun _ => ?_))
noncomputable def K.VB (a0 : Int) : Option Bool :=
  some (((decide (65 ≤ a0)) && (decide (a0 ≤ 90))) || ((decide (97 ≤ a0)) && (decide (a0 ≤ 122))))
theorem ZaU (a0 : Int) : Ref (K.VB a0) (M.VB a0) := by
  unfold K.VB M.VB
  repeat' (first | with_reducible exact ZJ | with_reducible exact ZM | with_reducible refine ZN ?_ (fun _ => ?_) | with_reducible refine Xf ?_ | with_reducible refine Xg ?_ | with_reducible refine ZO ?_ ?_ | with_reducible refine ZP (fun _ => ?_) (fun _ => ?_) | with_reducible refine ZK (fun _ => ?_))
noncomputable def K.W3 (a0 : Int) : Option Bool :=
  some ((decide (48 ≤ a0)) && (decide (a0 ≤ 57)))
theorem ZfZ (a0 : Int) : Ref (K.W3 a0) (M.W3 a0) := by
  unfold K.W3 M.W3
  repeat' (first | with_reducible exact ZJ | with_reducible exact ZM | with_reducible refine ZN ?_ (fun _ => ?_) | with_reducible refine Xf ?_ | with_reducible refine Xg ?_ | with_reducible refine ZO ?_ ?_ | with_reducible refine ZP (fun _ => ?_) (fun _ => ?_) | with_reducible refine ZK (fun _ => ?_))
noncomputable def K.Wq (a0 : ByteArray) (p2 : Int) : Option (Int ⊕ Unit) :=
  bif decide (p2 < (a0.size : Int)) then (gd [decide (0 ≤ p2), decide (p2 < (a0.size : Int))] ((K.VB (byteAt a0 p2)).bind fun r4 => (gc (!r4) (K.W3 (byteAt a0 p2))).bind fun r5 => bif (((((!r4) && (!r5)) && ((byteAt a0 p2) != 45)) && ((byteAt a0 p2) != 95)) && ((byteAt a0 p2) != 47)) && ((byteAt a0 p2) != 46) then none else (some (.inl (wr .i64 (p2 + 1)))))) else (some (.inr ()))
theorem ZeA (a0 : ByteArray) (p2 : Int) : Ref (K.Wq a0 p2) (M.Wq a0 p2) := by
  unfold K.Wq M.Wq
  repeat' (first | with_reducible exact ZJ | with_reducible exact ZM | with_reducible exact ZaU .. | with_reducible exact ZfZ .. | with_reducible refine ZN ?_ (fun _ => ?_) | with_reducible refine Xf ?_ | with_reducible refine Xg ?_ | with_reducible refine ZO ?_ ?_ | with_reducible refine ZP (fun _ => ?_) (fun _ => ?_) | with_reducible refine ZK (fun _ => ?_))
noncomputable def K.WN (a0 : ByteArray) : Option Bool :=
  (gc (!((decide ((a0.size : Int) < 1)) || (decide ((a0.size : Int) > 15)))) (K.VB (byteAt a0 0))).bind fun r1 => gd [guardB (!((decide ((a0.size : Int) < 1)) || (decide ((a0.size : Int) > 15)))) (decide (0 ≤ 0)), guardB (!((decide ((a0.size : Int) < 1)) || (decide ((a0.size : Int) > 15)))) (decide (0 < (a0.size : Int)))] (bif ((decide ((a0.size : Int) < 1)) || (decide ((a0.size : Int) > 15))) || (!r1) then none else ((loopN 1000 (K.Wq a0) 1).bind fun y6 => some true))
theorem Zdh (a0 : ByteArray) : Ref (K.WN a0) (M.WN a0) := by
  unfold K.WN M.WN
  repeat' (first | with_reducible exact ZJ | with_reducible exact ZM | with_reducible exact ZaU .. | with_reducible exact ZeA .. | with_reducible refine ZN ?_ (fun _ => ?_) | with_reducible refine Xf ?_ | with_reducible refine Xg ?_ | with_reducible refine ZO ?_ ?_ | with_reducible refine ZP (fun _ => ?_) (fun _ => ?_) | with_reducible refine ZK (fun _ => ?_))
noncomputable def K.Qu (a0 : Int) (a1 : Int) (a2 : Int) : Option Bool :=
  some ((decide (a1 ≤ a0)) && (decide (a0 ≤ a2)))
theorem RM (a0 : Int) (a1 : Int) (a2 : Int) : Ref (K.Qu a0 a1 a2) (M.Qu a0 a1 a2) := by
  unfold K.Qu M.Qu
  repeat' (first | with_reducible exact ZJ | with_reducible exact ZM | with_reducible refine ZN ?_ (fun _ => ?_) | with_reducible refine Xf ?_ | with_reducible refine Xg ?_ | with_reducible refine ZO ?_ ?_ | with_reducible refine ZP (fun _ => ?_) (fun _ => ?_) | with_reducible refine ZK (fun _ => ?_))
noncomputable def K.QU (a0 : Zl) (b0 : ByteArray) : Option Bool :=
  some (strEq a0.Xj b0)
theorem ZaA (a0 : Zl) (b0 : ByteArray) : Ref (K.QU a0 b0) (M.QU a0 b0) := by
  unfold K.QU M.QU
  repeat' (first | with_reducible exact ZJ | with_reducible exact ZM | with_reducible refine ZN ?_ (fun _ => ?_) | with_reducible refine Xf ?_ | with_reducible refine Xg ?_ | with_reducible refine ZO ?_ ?_ | with_reducible refine ZP (fun _ => ?_) (fun _ => ?_) | with_reducible refine ZK (fun _ => ?_))
noncomputable def K.ZR (a0 : List Zl) (a1c0 : ByteArray) (p1 : Int) : Option (Int ⊕ (Unit ⊕ Int)) :=
  bif decide (p1 < (a0.length : Int)) then ((K.QU (a0.getD p1.toNat default) a1c0).bind fun r3 => gd [decide (0 ≤ p1), decide (p1 < (a0.length : Int))] (bif r3 then (some (.inr (.inr p1))) else (some (.inl (wr .i64 (p1 + 1)))))) else (some (.inr (.inl ())))
theorem Jw (a0 : List Zl) (a1c0 : ByteArray) (p1 : Int) : Ref (K.ZR a0 a1c0 p1) (M.ZR a0 a1c0 p1) := by
  unfold K.ZR M.ZR
  repeat' (first | with_reducible exact ZJ | with_reducible exact ZM | with_reducible exact ZaA .. | with_reducible refine ZN ?_ (fun _ => ?_) | with_reducible refine Xf ?_ | with_reducible refine Xg ?_ | with_reducible refine ZO ?_ ?_ | with_reducible refine ZP (fun _ => ?_) (fun _ => ?_) | with_reducible refine ZK (fun _ => ?_))
noncomputable def K.ZH (a0 : List Zl) (a1c0 : ByteArray) : Option Int :=
  (loopN 1000 (K.ZR a0 a1c0) 0).bind fun y4 => Sum.elim (fun _ => some (-1)) (fun y6 => some y6) y4
theorem JV (a0 : List Zl) (a1c0 : ByteArray) : Ref (K.ZH a0 a1c0) (M.ZH a0 a1c0) := by
  unfold K.ZH M.ZH
  repeat' (first | with_reducible exact ZJ | with_reducible exact ZM | with_reducible exact Jw .. | with_reducible refine ZN ?_ (fun _ => ?_) | with_reducible refine Xf ?_ | with_reducible refine Xg ?_ | with_reducible refine ZO ?_ ?_ | with_reducible refine ZP (fun _ => ?_) (fun _ => ?_) | with_reducible refine ZK (fun _ => ?_))
noncomputable def K.JE (a0 : Zf) (a1 : ByteArray) : Option Int :=
  (K.ZH a0.Zc a1).bind fun r1 => some r1
theorem Zb5 (a0 : Zf) (a1 : ByteArray) : Ref (K.JE a0 a1) (M.JE a0 a1) := by
  unfold K.JE M.JE
  repeat' (first | with_reducible exact ZJ | with_reducible exact ZM | with_reducible exact JV .. | with_reducible refine ZN ?_ (fun _ => ?_) | with_reducible refine Xf ?_ | with_reducible refine Xg ?_ | with_reducible refine ZO ?_ ?_ | with_reducible refine ZP (fun _ => ?_) (fun _ => ?_) | with_reducible refine ZK (fun _ => ?_))
noncomputable def K.Y2 (a0 : Zl) : Option Bool :=
  (K.Qu a0.ZW 0 32).bind fun r1 => (gc (!(!r1)) (K.Qu a0.XD 0 4094)).bind fun r2 => (gc (!((!r1) || (!r2))) (K.Qu a0.RJ 0 2)).bind fun r3 => bif ((!r1) || (!r2)) || (!r3) then none else (bif (a0.ZW == 0) && (((((((a0.Zy != 0) || (a0.XD != 0)) || (a0.RJ != 0)) || a0.Yi) || a0.Yn) || (!strEq a0.VS (⟨#[]⟩ : ByteArray))) || (!strEq a0.Y7 (⟨#[]⟩ : ByteArray))) then none else (bif (a0.ZW != 0) && (a0.Zy == 0) then none else (bif a0.Yi then none else (some ((a0.V8 == 0) && (a0.ZbZ == 0))))))
theorem KQ (a0 : Zl) : Ref (K.Y2 a0) (M.Y2 a0) := by
  unfold K.Y2 M.Y2
  repeat' (first | with_reducible exact ZJ | with_reducible exact ZM | with_reducible exact RM .. | with_reducible refine ZN ?_ (fun _ => ?_) | with_reducible refine Xf ?_ | with_reducible refine Xg ?_ | with_reducible refine ZO ?_ ?_ | with_reducible refine ZP (fun _ => ?_) (fun _ => ?_) | with_reducible refine ZK (fun _ => ?_))
noncomputable def K.Wh (a0 : Int) : Option Int :=
  some (if (if 32 < a0 then 32 else a0) > 0 then (if 32 < a0 then 32 else a0) else 0)
theorem Zb6 (a0 : Int) : Ref (K.Wh a0) (M.Wh a0) := by
  unfold K.Wh M.Wh
  repeat' (first | with_reducible exact ZJ | with_reducible exact ZM | with_reducible refine ZN ?_ (fun _ => ?_) | with_reducible refine Xf ?_ | with_reducible refine Xg ?_ | with_reducible refine ZO ?_ ?_ | with_reducible refine ZP (fun _ => ?_) (fun _ => ?_) | with_reducible refine ZK (fun _ => ?_))
noncomputable def K.WO (a0 : Int) : Option Int :=
  (K.Wh a0).bind fun r1 => gd [decide (0 ≤ (wr .i64 (32 - r1)))] (some (wr .u32 (4294967295 * 2 ^ min (wr .i64 (32 - r1)).toNat 32)))
theorem Zdi (a0 : Int) : Ref (K.WO a0) (M.WO a0) := by
  unfold K.WO M.WO
  repeat' (first | with_reducible exact ZJ | with_reducible exact ZM | with_reducible exact Zb6 .. | with_reducible refine ZN ?_ (fun _ => ?_) | with_reducible refine Xf ?_ | with_reducible refine Xg ?_ | with_reducible refine ZO ?_ ?_ | with_reducible refine ZP (fun _ => ?_) (fun _ => ?_) | with_reducible refine ZK (fun _ => ?_))
noncomputable def K.Ji (a0 : Int) (a1 : Int) : Option ZZ :=
  (K.WO a1).bind fun r1 => (K.Wh a1).bind fun r2 => some (⟨bitD .and .u32 a0 r1, r2⟩ : ZZ)
theorem RN (a0 : Int) (a1 : Int) : Ref (K.Ji a0 a1) (M.Ji a0 a1) := by
  unfold K.Ji M.Ji
  repeat' (first | with_reducible exact ZJ | with_reducible exact ZM | with_reducible exact Zb6 .. | with_reducible exact Zdi .. | with_reducible refine ZN ?_ (fun _ => ?_) | with_reducible refine Xf ?_ | with_reducible refine Xg ?_ | with_reducible refine ZO ?_ ?_ | with_reducible refine ZP (fun _ => ?_) (fun _ => ?_) | with_reducible refine ZK (fun _ => ?_))
noncomputable def K.Vv (a0 : ZZ) (a1 : Int) : Option Bool :=
  (K.WO a0.ZW).bind fun r1 => some ((bitD .and .u32 a1 r1) == a0.Zy)
theorem Zdk (a0 : ZZ) (a1 : Int) : Ref (K.Vv a0 a1) (M.Vv a0 a1) := by
  unfold K.Vv M.Vv
  repeat' (first | with_reducible exact ZJ | with_reducible exact ZM | with_reducible exact Zdi .. | with_reducible refine ZN ?_ (fun _ => ?_) | with_reducible refine Xf ?_ | with_reducible refine Xg ?_ | with_reducible refine ZO ?_ ?_ | with_reducible refine ZP (fun _ => ?_) (fun _ => ?_) | with_reducible refine ZK (fun _ => ?_))
noncomputable def K.VC (a0 : ZZ) (a1 : ZZ) : Option Bool :=
  (gc (decide (a0.ZW ≤ a1.ZW)) (K.Vv a0 a1.Zy)).bind fun r1 => some ((decide (a0.ZW ≤ a1.ZW)) && r1)
theorem ZeW (a0 : ZZ) (a1 : ZZ) : Ref (K.VC a0 a1) (M.VC a0 a1) := by
  unfold K.VC M.VC
  repeat' (first | with_reducible exact ZJ | with_reducible exact ZM | with_reducible exact Zdk .. | with_reducible refine ZN ?_ (fun _ => ?_) | with_reducible refine Xf ?_ | with_reducible refine Xg ?_ | with_reducible refine ZO ?_ ?_ | with_reducible refine ZP (fun _ => ?_) (fun _ => ?_) | with_reducible refine ZK (fun _ => ?_))
noncomputable def K.Vw (a0 : ZZ) (a1 : ZZ) : Option Bool :=
  (K.VC a0 a1).bind fun r1 => (gc (!r1) (K.VC a1 a0)).bind fun r2 => some (r1 || r2)
theorem Zdl (a0 : ZZ) (a1 : ZZ) : Ref (K.Vw a0 a1) (M.Vw a0 a1) := by
  unfold K.Vw M.Vw
  repeat' (first | with_reducible exact ZJ | with_reducible exact ZM | with_reducible exact ZeW .. | with_reducible refine ZN ?_ (fun _ => ?_) | with_reducible refine Xf ?_ | with_reducible refine Xg ?_ | with_reducible refine ZO ?_ ?_ | with_reducible refine ZP (fun _ => ?_) (fun _ => ?_) | with_reducible refine ZK (fun _ => ?_))
noncomputable def K.Yy (a0 : Zf) (p1 : Int) (p6 : Int) : Option (Int ⊕ Unit) :=
  bif decide (p6 < ((p1.toNat - 0 : Nat) : Int)) then (gd [decide (0 ≤ p6), decide (p6 < (((a0.Zc.drop 0).take (p1.toNat - 0)).length : Int))] ((gc ((((a0.Zc.getD p1.toNat default).ZW) != 0) && (((((a0.Zc.drop 0).take (p1.toNat - 0)).getD p6.toNat default).ZW) != 0)) (K.Ji ((a0.Zc.getD p1.toNat default).Zy) ((a0.Zc.getD p1.toNat default).ZW))).bind fun r8 => (gc ((((a0.Zc.getD p1.toNat default).ZW) != 0) && (((((a0.Zc.drop 0).take (p1.toNat - 0)).getD p6.toNat default).ZW) != 0)) (K.Ji ((((a0.Zc.drop 0).take (p1.toNat - 0)).getD p6.toNat default).Zy) ((((a0.Zc.drop 0).take (p1.toNat - 0)).getD p6.toNat default).ZW))).bind fun r9 => (gc ((((a0.Zc.getD p1.toNat default).ZW) != 0) && (((((a0.Zc.drop 0).take (p1.toNat - 0)).getD p6.toNat default).ZW) != 0)) (K.Vw r8 r9)).bind fun r10 => bif ((((a0.Zc.getD p1.toNat default).ZW) != 0) && (((((a0.Zc.drop 0).take (p1.toNat - 0)).getD p6.toNat default).ZW) != 0)) && r10 then none else (some (.inl (wr .i64 (p6 + 1)))))) else (some (.inr ()))
theorem GL (a0 : Zf) (p1 : Int) (p6 : Int) : Ref (K.Yy a0 p1 p6) (M.Yy a0 p1 p6) := by
  unfold K.Yy M.Yy
  repeat' (first | with_reducible exact ZJ | with_reducible exact ZM | with_reducible exact RN .. | with_reducible exact Zdl .. | with_reducible refine ZN ?_ (fun _ => ?_) | with_reducible refine Xf ?_ | with_reducible refine Xg ?_ | with_reducible refine ZO ?_ ?_ | with_reducible refine ZP (fun _ => ?_) (fun _ => ?_) | with_reducible refine ZK (fun _ => ?_))
noncomputable def K.Yz (a0 : Zf) (p1 : Int) : Option (Int ⊕ Unit) :=
  bif decide (p1 < (a0.Zc.length : Int)) then (gd [decide (0 ≤ p1), decide (p1 < (a0.Zc.length : Int))] ((K.WN ((a0.Zc.getD p1.toNat default).Xj)).bind fun r3 => bif !r3 then none else ((K.JE a0 ((a0.Zc.getD p1.toNat default).Xj)).bind fun r4 => bif decide (r4 < p1) then none else ((K.Y2 (a0.Zc.getD p1.toNat default)).bind fun r5 => bif !r5 then none else (gd [decide (0 ≤ p1), decide (p1 ≤ (a0.Zc.length : Int))] ((loopN 1000 (K.Yy a0 p1) 0).bind fun y11 => some (.inl (wr .i64 (p1 + 1))))))))) else (some (.inr ()))
theorem GM (a0 : Zf) (p1 : Int) : Ref (K.Yz a0 p1) (M.Yz a0 p1) := by
  unfold K.Yz M.Yz
  repeat' (first | with_reducible exact ZJ | with_reducible exact ZM | with_reducible exact Zdh .. | with_reducible exact Zb5 .. | with_reducible exact KQ .. | with_reducible exact GL .. | with_reducible refine ZN ?_ (fun _ => ?_) | with_reducible refine Xf ?_ | with_reducible refine Xg ?_ | with_reducible refine ZO ?_ ?_ | with_reducible refine ZP (fun _ => ?_) (fun _ => ?_) | with_reducible refine ZK (fun _ => ?_))
noncomputable def K.YK (a0 : Zf) : Option Int :=
  bif decide ((a0.Zc.length : Int) > 8) then none else ((loopN 1000 (K.Yz a0) 0).bind fun y12 => some 0)
theorem Kv (a0 : Zf) : Ref (K.YK a0) (M.YK a0) := by
  unfold K.YK M.YK
  repeat' (first | with_reducible exact ZJ | with_reducible exact ZM | with_reducible exact GM .. | with_reducible refine ZN ?_ (fun _ => ?_) | with_reducible refine Xf ?_ | with_reducible refine Xg ?_ | with_reducible refine ZO ?_ ?_ | with_reducible refine ZP (fun _ => ?_) (fun _ => ?_) | with_reducible refine ZK (fun _ => ?_))
noncomputable def K.Yq (a0 : Zf) (p1 : Int) : Option (Int ⊕ Unit) :=
  bif decide (p1 < (a0.Yv.length : Int)) then none else (some (.inr ()))
theorem GB (a0 : Zf) (p1 : Int) : Ref (K.Yq a0 p1) (M.Yq a0 p1) := by
  unfold K.Yq M.Yq
  repeat' (first | with_reducible exact ZJ | with_reducible exact ZM | with_reducible refine ZN ?_ (fun _ => ?_) | with_reducible refine Xf ?_ | with_reducible refine Xg ?_ | with_reducible refine ZO ?_ ?_ | with_reducible refine ZP (fun _ => ?_) (fun _ => ?_) | with_reducible refine ZK (fun _ => ?_))
noncomputable def K.Yw (a0 : Zf) : Option Int :=
  bif decide ((a0.Yv.length : Int) > 8) then none else ((loopN 1000 (K.Yq a0) 0).bind fun y3 => some 0)
theorem Kf (a0 : Zf) : Ref (K.Yw a0) (M.Yw a0) := by
  unfold K.Yw M.Yw
  repeat' (first | with_reducible exact ZJ | with_reducible exact ZM | with_reducible exact GB .. | with_reducible refine ZN ?_ (fun _ => ?_) | with_reducible refine Xf ?_ | with_reducible refine Xg ?_ | with_reducible refine ZO ?_ ?_ | with_reducible refine ZP (fun _ => ?_) (fun _ => ?_) | with_reducible refine ZK (fun _ => ?_))
noncomputable def K.YM (a0 : Zf) (p1 : Int) : Option (Int ⊕ Unit) :=
  bif decide (p1 < (a0.XE.length : Int)) then none else (some (.inr ()))
theorem GY (a0 : Zf) (p1 : Int) : Ref (K.YM a0 p1) (M.YM a0 p1) := by
  unfold K.YM M.YM
  repeat' (first | with_reducible exact ZJ | with_reducible exact ZM | with_reducible refine ZN ?_ (fun _ => ?_) | with_reducible refine Xf ?_ | with_reducible refine Xg ?_ | with_reducible refine ZO ?_ ?_ | with_reducible refine ZP (fun _ => ?_) (fun _ => ?_) | with_reducible refine ZK (fun _ => ?_))
noncomputable def K.Y3 (a0 : Zf) : Option Int :=
  bif decide ((a0.XE.length : Int) > 8) then none else ((loopN 1000 (K.YM a0) 0).bind fun y3 => some 0)
theorem KR (a0 : Zf) : Ref (K.Y3 a0) (M.Y3 a0) := by
  unfold K.Y3 M.Y3
  repeat' (first | with_reducible exact ZJ | with_reducible exact ZM | with_reducible exact GY .. | with_reducible refine ZN ?_ (fun _ => ?_) | with_reducible refine Xf ?_ | with_reducible refine Xg ?_ | with_reducible refine ZO ?_ ?_ | with_reducible refine ZP (fun _ => ?_) (fun _ => ?_) | with_reducible refine ZK (fun _ => ?_))
noncomputable def K.Q3 (a0 : Zf) (p1 : Int) : Option (Int ⊕ Unit) :=
  bif decide (p1 < (a0.YD.length : Int)) then none else (some (.inr ()))
theorem RO (a0 : Zf) (p1 : Int) : Ref (K.Q3 a0 p1) (M.Q3 a0 p1) := by
  unfold K.Q3 M.Q3
  repeat' (first | with_reducible exact ZJ | with_reducible exact ZM | with_reducible refine ZN ?_ (fun _ => ?_) | with_reducible refine Xf ?_ | with_reducible refine Xg ?_ | with_reducible refine ZO ?_ ?_ | with_reducible refine ZP (fun _ => ?_) (fun _ => ?_) | with_reducible refine ZK (fun _ => ?_))
noncomputable def K.JF (a0 : Zf) : Option Int :=
  bif decide ((a0.YD.length : Int) > 8) then none else ((loopN 1000 (K.Q3 a0) 0).bind fun y3 => some 0)
theorem Zb7 (a0 : Zf) : Ref (K.JF a0) (M.JF a0) := by
  unfold K.JF M.JF
  repeat' (first | with_reducible exact ZJ | with_reducible exact ZM | with_reducible exact RO .. | with_reducible refine ZN ?_ (fun _ => ?_) | with_reducible refine Xf ?_ | with_reducible refine Xg ?_ | with_reducible refine ZO ?_ ?_ | with_reducible refine ZP (fun _ => ?_) (fun _ => ?_) | with_reducible refine ZK (fun _ => ?_))
noncomputable def K.Jp (a0 : Zf) (p1 : Int) : Option (Int ⊕ Unit) :=
  bif decide (p1 < (a0.Xa.length : Int)) then none else (some (.inr ()))
theorem ZaB (a0 : Zf) (p1 : Int) : Ref (K.Jp a0 p1) (M.Jp a0 p1) := by
  unfold K.Jp M.Jp
  repeat' (first | with_reducible exact ZJ | with_reducible exact ZM | with_reducible refine ZN ?_ (fun _ => ?_) | with_reducible refine Xf ?_ | with_reducible refine Xg ?_ | with_reducible refine ZO ?_ ?_ | with_reducible refine ZP (fun _ => ?_) (fun _ => ?_) | with_reducible refine ZK (fun _ => ?_))
noncomputable def K.Va (a0 : Zf) : Option Int :=
  bif decide ((a0.Xa.length : Int) > 8) then none else ((loopN 1000 (K.Jp a0) 0).bind fun y3 => some 0)
theorem ZcN (a0 : Zf) : Ref (K.Va a0) (M.Va a0) := by
  unfold K.Va M.Va
  repeat' (first | with_reducible exact ZJ | with_reducible exact ZM | with_reducible exact ZaB .. | with_reducible refine ZN ?_ (fun _ => ?_) | with_reducible refine Xf ?_ | with_reducible refine Xg ?_ | with_reducible refine ZO ?_ ?_ | with_reducible refine ZP (fun _ => ?_) (fun _ => ?_) | with_reducible refine ZK (fun _ => ?_))
noncomputable def K.WP (_a0 : Zf) (_a1 : ByteArray) : Option Int :=
  none
theorem ZgS (_a0 : Zf) (_a1 : ByteArray) : Ref (K.WP _a0 _a1) (M.WP _a0 _a1) := by
  unfold K.WP M.WP
  repeat' (first | with_reducible exact ZJ | with_reducible exact ZM | with_reducible refine ZN ?_ (fun _ => ?_) | with_reducible refine Xf ?_ | with_reducible refine Xg ?_ | with_reducible refine ZO ?_ ?_ | with_reducible refine ZP (fun _ => ?_) (fun _ => ?_) | with_reducible refine ZK (fun _ => ?_))
noncomputable def K.Qa (a0 : Zf) (p1 : Int) : Option (Int ⊕ Unit) :=
  bif decide (p1 < (a0.Zc.length : Int)) then (gd [decide (0 ≤ p1), decide (p1 < (a0.Zc.length : Int))] ((gc (!strEq ((a0.Zc.getD p1.toNat default).VS) (⟨#[]⟩ : ByteArray)) (K.WP a0 ((a0.Zc.getD p1.toNat default).VS))).bind fun r3 => (gc ((!((!strEq ((a0.Zc.getD p1.toNat default).VS) (⟨#[]⟩ : ByteArray)) && (decide (r3 < 0)))) && (!strEq ((a0.Zc.getD p1.toNat default).Y7) (⟨#[]⟩ : ByteArray))) (K.WP a0 ((a0.Zc.getD p1.toNat default).Y7))).bind fun r4 => bif ((!strEq ((a0.Zc.getD p1.toNat default).VS) (⟨#[]⟩ : ByteArray)) && (decide (r3 < 0))) || ((!strEq ((a0.Zc.getD p1.toNat default).Y7) (⟨#[]⟩ : ByteArray)) && (decide (r4 < 0))) then none else (some (.inl (wr .i64 (p1 + 1)))))) else (some (.inr ()))
theorem Kw (a0 : Zf) (p1 : Int) : Ref (K.Qa a0 p1) (M.Qa a0 p1) := by
  unfold K.Qa M.Qa
  repeat' (first | with_reducible exact ZJ | with_reducible exact ZM | with_reducible exact ZgS .. | with_reducible refine ZN ?_ (fun _ => ?_) | with_reducible refine Xf ?_ | with_reducible refine Xg ?_ | with_reducible refine ZO ?_ ?_ | with_reducible refine ZP (fun _ => ?_) (fun _ => ?_) | with_reducible refine ZK (fun _ => ?_))
noncomputable def K.Qv (a0 : Zf) : Option Int :=
  (loopN 1000 (K.Qa a0) 0).bind fun y5 => some 0
theorem RP (a0 : Zf) : Ref (K.Qv a0) (M.Qv a0) := by
  unfold K.Qv M.Qv
  repeat' (first | with_reducible exact ZJ | with_reducible exact ZM | with_reducible exact Kw .. | with_reducible refine ZN ?_ (fun _ => ?_) | with_reducible refine Xf ?_ | with_reducible refine Xg ?_ | with_reducible refine ZO ?_ ?_ | with_reducible refine ZP (fun _ => ?_) (fun _ => ?_) | with_reducible refine ZK (fun _ => ?_))
noncomputable def K.Qb (a0 : Zf) (p1 : Int) : Option (Int ⊕ Unit) :=
  bif decide (p1 < (a0.Zq.length : Int)) then none else (some (.inr ()))
theorem Kx (a0 : Zf) (p1 : Int) : Ref (K.Qb a0 p1) (M.Qb a0 p1) := by
  unfold K.Qb M.Qb
  repeat' (first | with_reducible exact ZJ | with_reducible exact ZM | with_reducible refine ZN ?_ (fun _ => ?_) | with_reducible refine Xf ?_ | with_reducible refine Xg ?_ | with_reducible refine ZO ?_ ?_ | with_reducible refine ZP (fun _ => ?_) (fun _ => ?_) | with_reducible refine ZK (fun _ => ?_))
noncomputable def K.Qw (a0 : Zf) : Option Int :=
  bif decide ((a0.Zq.length : Int) > 16) then none else ((loopN 1000 (K.Qb a0) 0).bind fun y3 => some 0)
theorem RQ (a0 : Zf) : Ref (K.Qw a0) (M.Qw a0) := by
  unfold K.Qw M.Qw
  repeat' (first | with_reducible exact ZJ | with_reducible exact ZM | with_reducible exact Kx .. | with_reducible refine ZN ?_ (fun _ => ?_) | with_reducible refine Xf ?_ | with_reducible refine Xg ?_ | with_reducible refine ZO ?_ ?_ | with_reducible refine ZP (fun _ => ?_) (fun _ => ?_) | with_reducible refine ZK (fun _ => ?_))
noncomputable def K.Y4 (a0 : Zf) : Option Int :=
  bif !a0.Yi.Vz then (bif ((a0.Yi.Xr != 0) || (decide ((a0.Yi.Z4.length : Int) > 0))) || (decide ((a0.Yi.Zs.length : Int) > 0)) then none else (some 0)) else none
theorem KS (a0 : Zf) : Ref (K.Y4 a0) (M.Y4 a0) := by
  unfold K.Y4 M.Y4
  repeat' (first | with_reducible exact ZJ | with_reducible exact ZM | with_reducible refine ZN ?_ (fun _ => ?_) | with_reducible refine Xf ?_ | with_reducible refine Xg ?_ | with_reducible refine ZO ?_ ?_ | with_reducible refine ZP (fun _ => ?_) (fun _ => ?_) | with_reducible refine ZK (fun _ => ?_))
noncomputable def K.Yb (a0 : Zf) : Option Int :=
  bif !a0.Yn.Vz then (bif (((a0.Yn.Xr != 0) || (!strEq a0.Yn.VS (⟨#[]⟩ : ByteArray))) || (!strEq a0.Yn.Y7 (⟨#[]⟩ : ByteArray))) || (decide ((a0.Yn.Zs.length : Int) > 0)) then none else (some 0)) else none
theorem GC (a0 : Zf) : Ref (K.Yb a0) (M.Yb a0) := by
  unfold K.Yb M.Yb
  repeat' (first | with_reducible exact ZJ | with_reducible exact ZM | with_reducible refine ZN ?_ (fun _ => ?_) | with_reducible refine Xf ?_ | with_reducible refine Xg ?_ | with_reducible refine ZO ?_ ?_ | with_reducible refine ZP (fun _ => ?_) (fun _ => ?_) | with_reducible refine ZK (fun _ => ?_))
noncomputable def K.YL (a0 : Zf) : Option Int :=
  bif !a0.Xs.Vz then (bif ((((((a0.Xs.XX != 0) || (a0.Xs.XY != 0)) || (decide ((a0.Xs.Zm.length : Int) > 0))) || (decide ((a0.Xs.Z1.length : Int) > 0))) || (decide ((a0.Xs.ZE.length : Int) > 0))) || (decide ((a0.Xs.Zt.length : Int) > 0))) || (decide ((a0.Xs.Zs.length : Int) > 0)) then none else (some 0)) else none
theorem Ky (a0 : Zf) : Ref (K.YL a0) (M.YL a0) := by
  unfold K.YL M.YL
  repeat' (first | with_reducible exact ZJ | with_reducible exact ZM | with_reducible refine ZN ?_ (fun _ => ?_) | with_reducible refine Xf ?_ | with_reducible refine Xg ?_ | with_reducible refine ZO ?_ ?_ | with_reducible refine ZP (fun _ => ?_) (fun _ => ?_) | with_reducible refine ZK (fun _ => ?_))
noncomputable def K.QV (a0 : Zf) : Option Int :=
  (K.WN a0.Xj).bind fun r1 => bif !r1 then none else ((K.Qu a0.GA 0 65535).bind fun r2 => bif !r2 then none else (gd [decide (0 ≤ 0), decide (0 < (10 : Int))] ((K.YK a0).bind fun r3 => bif r3 != 0 then none else (gd [decide (0 ≤ 1), decide (1 < (10 : Int))] ((K.Yw a0).bind fun r4 => bif r4 != 0 then none else (gd [decide (0 ≤ 2), decide (2 < (10 : Int))] ((K.Y3 a0).bind fun r5 => bif r5 != 0 then none else (gd [decide (0 ≤ 3), decide (3 < (10 : Int))] ((K.JF a0).bind fun r6 => bif r6 != 0 then none else (gd [decide (0 ≤ 4), decide (4 < (10 : Int))] ((K.Va a0).bind fun r7 => bif r7 != 0 then none else (gd [decide (0 ≤ 5), decide (5 < (10 : Int))] ((K.Qv a0).bind fun r8 => bif r8 != 0 then none else (gd [decide (0 ≤ 6), decide (6 < (10 : Int))] ((K.Qw a0).bind fun r9 => bif r9 != 0 then none else (gd [decide (0 ≤ 7), decide (7 < (10 : Int))] ((K.Y4 a0).bind fun r10 => bif r10 != 0 then none else (gd [decide (0 ≤ 8), decide (8 < (10 : Int))] ((K.Yb a0).bind fun r11 => bif r11 != 0 then none else (gd [decide (0 ≤ 9), decide (9 < (10 : Int))] ((K.YL a0).bind fun r12 => bif r12 != 0 then none else (some 0))))))))))))))))))))))
theorem ZaC (a0 : Zf) : Ref (K.QV a0) (M.QV a0) := by
  unfold K.QV M.QV
  repeat' (first | with_reducible exact ZJ | with_reducible exact ZM | with_reducible exact Zdh .. | with_reducible exact RM .. | with_reducible exact Kv .. | with_reducible exact Kf .. | with_reducible exact KR .. | with_reducible exact Zb7 .. | with_reducible exact ZcN .. | with_reducible exact RP .. | with_reducible exact RQ .. | with_reducible exact KS .. | with_reducible exact GC .. | with_reducible exact Ky .. | with_reducible refine ZN ?_ (fun _ => ?_) | with_reducible refine Xf ?_ | with_reducible refine Xg ?_ | with_reducible refine ZO ?_ ?_ | with_reducible refine ZP (fun _ => ?_) (fun _ => ?_) | with_reducible refine ZK (fun _ => ?_))
noncomputable def K.JG (a0 : Zl) (b0 : Int) : Option Bool :=
  some ((a0.ZW != 0) && (a0.Zy == b0))
theorem Zb8 (a0 : Zl) (b0 : Int) : Ref (K.JG a0 b0) (M.JG a0 b0) := by
  unfold K.JG M.JG
  repeat' (first | with_reducible exact ZJ | with_reducible exact ZM | with_reducible refine ZN ?_ (fun _ => ?_) | with_reducible refine Xf ?_ | with_reducible refine Xg ?_ | with_reducible refine ZO ?_ ?_ | with_reducible refine ZP (fun _ => ?_) (fun _ => ?_) | with_reducible refine ZK (fun _ => ?_))
noncomputable def K.ZT (a0 : List Zl) (a1c0 : Int) (p1 : Int) : Option (Int ⊕ (Unit ⊕ Int)) :=
  bif decide (p1 < (a0.length : Int)) then ((K.JG (a0.getD p1.toNat default) a1c0).bind fun r3 => gd [decide (0 ≤ p1), decide (p1 < (a0.length : Int))] (bif r3 then (some (.inr (.inr p1))) else (some (.inl (wr .i64 (p1 + 1)))))) else (some (.inr (.inl ())))
theorem JP (a0 : List Zl) (a1c0 : Int) (p1 : Int) : Ref (K.ZT a0 a1c0 p1) (M.ZT a0 a1c0 p1) := by
  unfold K.ZT M.ZT
  repeat' (first | with_reducible exact ZJ | with_reducible exact ZM | with_reducible exact Zb8 .. | with_reducible refine ZN ?_ (fun _ => ?_) | with_reducible refine Xf ?_ | with_reducible refine Xg ?_ | with_reducible refine ZO ?_ ?_ | with_reducible refine ZP (fun _ => ?_) (fun _ => ?_) | with_reducible refine ZK (fun _ => ?_))
noncomputable def K.ZL (a0 : List Zl) (a1c0 : Int) : Option Int :=
  (loopN 1000 (K.ZT a0 a1c0) 0).bind fun y4 => Sum.elim (fun _ => some (-1)) (fun y6 => some y6) y4
theorem JY (a0 : List Zl) (a1c0 : Int) : Ref (K.ZL a0 a1c0) (M.ZL a0 a1c0) := by
  unfold K.ZL M.ZL
  repeat' (first | with_reducible exact ZJ | with_reducible exact ZM | with_reducible exact JP .. | with_reducible refine ZN ?_ (fun _ => ?_) | with_reducible refine Xf ?_ | with_reducible refine Xg ?_ | with_reducible refine ZO ?_ ?_ | with_reducible refine ZP (fun _ => ?_) (fun _ => ?_) | with_reducible refine ZK (fun _ => ?_))
noncomputable def K.Vx (a0 : Zf) (a1 : Int) : Option Int :=
  (K.ZL a0.Zc a1).bind fun r1 => some r1
theorem Zdm (a0 : Zf) (a1 : Int) : Ref (K.Vx a0 a1) (M.Vx a0 a1) := by
  unfold K.Vx M.Vx
  repeat' (first | with_reducible exact ZJ | with_reducible exact ZM | with_reducible exact JY .. | with_reducible refine ZN ?_ (fun _ => ?_) | with_reducible refine Xf ?_ | with_reducible refine Xg ?_ | with_reducible refine ZO ?_ ?_ | with_reducible refine ZP (fun _ => ?_) (fun _ => ?_) | with_reducible refine ZK (fun _ => ?_))
noncomputable def K.Y5 (a0 : Zl) (b0 : Zf) : Option Bool :=
  (gc (a0.ZW != 0) (K.Vx b0 a0.Zy)).bind fun r1 => some ((a0.ZW != 0) && (decide (r1 ≥ 0)))
theorem KT (a0 : Zl) (b0 : Zf) : Ref (K.Y5 a0 b0) (M.Y5 a0 b0) := by
  unfold K.Y5 M.Y5
  repeat' (first | with_reducible exact ZJ | with_reducible exact ZM | with_reducible exact Zdm .. | with_reducible refine ZN ?_ (fun _ => ?_) | with_reducible refine Xf ?_ | with_reducible refine Xg ?_ | with_reducible refine ZO ?_ ?_ | with_reducible refine ZP (fun _ => ?_) (fun _ => ?_) | with_reducible refine ZK (fun _ => ?_))
noncomputable def K.ZI (a0 : List Zl) (a1c0 : Zf) (p1 : Int) : Option (Int ⊕ (Unit ⊕ Int)) :=
  bif decide (p1 < (a0.length : Int)) then ((K.Y5 (a0.getD p1.toNat default) a1c0).bind fun r3 => gd [decide (0 ≤ p1), decide (p1 < (a0.length : Int))] (bif r3 then (some (.inr (.inr p1))) else (some (.inl (wr .i64 (p1 + 1)))))) else (some (.inr (.inl ())))
theorem Jn (a0 : List Zl) (a1c0 : Zf) (p1 : Int) : Ref (K.ZI a0 a1c0 p1) (M.ZI a0 a1c0 p1) := by
  unfold K.ZI M.ZI
  repeat' (first | with_reducible exact ZJ | with_reducible exact ZM | with_reducible exact KT .. | with_reducible refine ZN ?_ (fun _ => ?_) | with_reducible refine Xf ?_ | with_reducible refine Xg ?_ | with_reducible refine ZO ?_ ?_ | with_reducible refine ZP (fun _ => ?_) (fun _ => ?_) | with_reducible refine ZK (fun _ => ?_))
noncomputable def K.ZC (a0 : List Zl) (a1c0 : Zf) : Option Int :=
  (loopN 1000 (K.ZI a0 a1c0) 0).bind fun y4 => Sum.elim (fun _ => some (-1)) (fun y6 => some y6) y4
theorem Jx (a0 : List Zl) (a1c0 : Zf) : Ref (K.ZC a0 a1c0) (M.ZC a0 a1c0) := by
  unfold K.ZC M.ZC
  repeat' (first | with_reducible exact ZJ | with_reducible exact ZM | with_reducible exact Jn .. | with_reducible refine ZN ?_ (fun _ => ?_) | with_reducible refine Xf ?_ | with_reducible refine Xg ?_ | with_reducible refine ZO ?_ ?_ | with_reducible refine ZP (fun _ => ?_) (fun _ => ?_) | with_reducible refine ZK (fun _ => ?_))
noncomputable def K.ZA (a0 : List Zl) (a1c0 : Zf) : Option Bool :=
  (K.ZC a0 a1c0).bind fun r1 => some (decide (r1 ≥ 0))
theorem Jo (a0 : List Zl) (a1c0 : Zf) : Ref (K.ZA a0 a1c0) (M.ZA a0 a1c0) := by
  unfold K.ZA M.ZA
  repeat' (first | with_reducible exact ZJ | with_reducible exact ZM | with_reducible exact Jx .. | with_reducible refine ZN ?_ (fun _ => ?_) | with_reducible refine Xf ?_ | with_reducible refine Xg ?_ | with_reducible refine ZO ?_ ?_ | with_reducible refine ZP (fun _ => ?_) (fun _ => ?_) | with_reducible refine ZK (fun _ => ?_))
noncomputable def K.Qx (a0 : Zf) (a1 : Zf) : Option Bool :=
  (K.ZA a1.Zc a0).bind fun r1 => some r1
theorem RR (a0 : Zf) (a1 : Zf) : Ref (K.Qx a0 a1) (M.Qx a0 a1) := by
  unfold K.Qx M.Qx
  repeat' (first | with_reducible exact ZJ | with_reducible exact ZM | with_reducible exact Jo .. | with_reducible refine ZN ?_ (fun _ => ?_) | with_reducible refine Xf ?_ | with_reducible refine Xg ?_ | with_reducible refine ZO ?_ ?_ | with_reducible refine ZP (fun _ => ?_) (fun _ => ?_) | with_reducible refine ZK (fun _ => ?_))
noncomputable def K.VD (a0 : ZB) (p1 : Int) (p4 : Int) : Option (Int ⊕ Unit) :=
  bif decide (p4 < ((p1.toNat - 0 : Nat) : Int)) then (gd [decide (0 ≤ p4), decide (p4 < (((a0.Zd.drop 0).take (p1.toNat - 0)).length : Int))] ((gc (!(strEq ((((a0.Zd.drop 0).take (p1.toNat - 0)).getD p4.toNat default).Xj) ((a0.Zd.getD p1.toNat default).Xj))) (K.Qx (((a0.Zd.drop 0).take (p1.toNat - 0)).getD p4.toNat default) (a0.Zd.getD p1.toNat default))).bind fun r6 => bif (strEq ((((a0.Zd.drop 0).take (p1.toNat - 0)).getD p4.toNat default).Xj) ((a0.Zd.getD p1.toNat default).Xj)) || r6 then none else (some (.inl (wr .i64 (p4 + 1)))))) else (some (.inr ()))
theorem ZcO (a0 : ZB) (p1 : Int) (p4 : Int) : Ref (K.VD a0 p1 p4) (M.VD a0 p1 p4) := by
  unfold K.VD M.VD
  repeat' (first | with_reducible exact ZJ | with_reducible exact ZM | with_reducible exact RR .. | with_reducible refine ZN ?_ (fun _ => ?_) | with_reducible refine Xf ?_ | with_reducible refine Xg ?_ | with_reducible refine ZO ?_ ?_ | with_reducible refine ZP (fun _ => ?_) (fun _ => ?_) | with_reducible refine ZK (fun _ => ?_))
noncomputable def K.VE (a0 : ZB) (p1 : Int) : Option (Int ⊕ Unit) :=
  bif decide (p1 < (a0.Zd.length : Int)) then (gd [decide (0 ≤ p1), decide (p1 < (a0.Zd.length : Int))] ((K.QV (a0.Zd.getD p1.toNat default)).bind fun r3 => bif r3 != 0 then none else (gd [decide (0 ≤ p1), decide (p1 ≤ (a0.Zd.length : Int))] ((loopN 1000 (K.VD a0 p1) 0).bind fun y7 => some (.inl (wr .i64 (p1 + 1))))))) else (some (.inr ()))
theorem ZcP (a0 : ZB) (p1 : Int) : Ref (K.VE a0 p1) (M.VE a0 p1) := by
  unfold K.VE M.VE
  repeat' (first | with_reducible exact ZJ | with_reducible exact ZM | with_reducible exact ZaC .. | with_reducible exact ZcO .. | with_reducible refine ZN ?_ (fun _ => ?_) | with_reducible refine Xf ?_ | with_reducible refine Xg ?_ | with_reducible refine ZO ?_ ?_ | with_reducible refine ZP (fun _ => ?_) (fun _ => ?_) | with_reducible refine ZK (fun _ => ?_))
noncomputable def K.Wr (a0 : ZB) : Option Int :=
  bif decide ((a0.Zd.length : Int) > 8) then none else ((loopN 1000 (K.VE a0) 0).bind fun y8 => some 0)
theorem ZeX (a0 : ZB) : Ref (K.Wr a0) (M.Wr a0) := by
  unfold K.Wr M.Wr
  repeat' (first | with_reducible exact ZJ | with_reducible exact ZM | with_reducible exact ZcP .. | with_reducible refine ZN ?_ (fun _ => ?_) | with_reducible refine Xf ?_ | with_reducible refine Xg ?_ | with_reducible refine ZO ?_ ?_ | with_reducible refine ZP (fun _ => ?_) (fun _ => ?_) | with_reducible refine ZK (fun _ => ?_))
noncomputable def K.Q4 (i : Int) (p : (List Zh) × (List (Z8 × Int)) × Int) (q : (List Zh) × (List (Z8 × Int)) × Int) : Option (((List Zh) × (List (Z8 × Int)) × Int) ⊕ ((List Zh) × (List (Z8 × Int)))) :=
  gd [decide (0 ≤ q.2.2), decide (q.2.2 < (q.1.length : Int)), decide (((q.1.getD (0 + q.2.2.toNat) default).ZU.length + 1) * 16 ≤ 140737488355328)] (some (.inl (q.1.set (0 + q.2.2.toNat) ⟨(q.1.getD (0 + q.2.2.toNat) default).Zo, (q.1.getD (0 + q.2.2.toNat) default).XD, (q.1.getD (0 + q.2.2.toNat) default).ZU ++ [⟨i, p.2.2⟩]⟩, q.2.1, wr .i64 (p.2.2 + 1))))
theorem ZcQ (i : Int) (p : (List Zh) × (List (Z8 × Int)) × Int) (q : (List Zh) × (List (Z8 × Int)) × Int) : Ref (K.Q4 i p q) (M.Q4 i p q) := by
  unfold K.Q4 M.Q4
  repeat' (first | with_reducible exact ZJ | with_reducible exact ZM | with_reducible refine ZN ?_ (fun _ => ?_) | with_reducible refine Xf ?_ | with_reducible refine Xg ?_ | with_reducible refine ZO ?_ ?_ | with_reducible refine ZP (fun _ => ?_) (fun _ => ?_) | with_reducible refine ZK (fun _ => ?_))
noncomputable def K.JH (a0 : ZB) (i : Int) (p : (List Zh) × (List (Z8 × Int)) × Int) : Option (((List Zh) × (List (Z8 × Int)) × Int) ⊕ ((List Zh) × (List (Z8 × Int)))) :=
  bif decide (p.2.2 < (((a0.Zd.getD i.toNat default).Zc).length : Int)) then (gd [decide (0 ≤ p.2.2), decide (p.2.2 < (((a0.Zd.getD i.toNat default).Zc).length : Int))] (bif (((a0.Zd.getD i.toNat default).Zc.getD p.2.2.toNat default).ZW == 0) || ((a0.Zd.getD i.toNat default).Zc.getD p.2.2.toNat default).Qy then (some (.inl (p.1, p.2.1, wr .i64 (p.2.2 + 1)))) else ((K.Ji ((a0.Zd.getD i.toNat default).Zc.getD p.2.2.toNat default).Zy ((a0.Zd.getD i.toNat default).Zc.getD p.2.2.toNat default).ZW).bind fun r => bif !(lkM (topoKeyEq ⟨r, ((a0.Zd.getD i.toNat default).Zc.getD p.2.2.toNat default).XD⟩) p.2.1).2 then (gd [decide ((p.1.length + 1) * 48 ≤ 140737488355328)] (K.Q4 i p (p.1 ++ [⟨r, ((a0.Zd.getD i.toNat default).Zc.getD p.2.2.toNat default).XD, []⟩], p.2.1 ++ [(⟨r, ((a0.Zd.getD i.toNat default).Zc.getD p.2.2.toNat default).XD⟩, (p.1.length : Int))], (p.1.length : Int)))) else (K.Q4 i p (p.1, p.2.1, (lkM (topoKeyEq ⟨r, ((a0.Zd.getD i.toNat default).Zc.getD p.2.2.toNat default).XD⟩) p.2.1).1))))) else (some (.inr (p.1, p.2.1)))
theorem Zb9 (a0 : ZB) (i : Int) (p : (List Zh) × (List (Z8 × Int)) × Int) : Ref (K.JH a0 i p) (M.JH a0 i p) := by
  unfold K.JH M.JH
  repeat' (first | with_reducible exact ZJ | with_reducible exact ZM | with_reducible exact RN .. | with_reducible exact ZcQ .. | with_reducible refine ZN ?_ (fun _ => ?_) | with_reducible refine Xf ?_ | with_reducible refine Xg ?_ | with_reducible refine ZO ?_ ?_ | with_reducible refine ZP (fun _ => ?_) (fun _ => ?_) | with_reducible refine ZK (fun _ => ?_))
noncomputable def K.JI (a0 : ZB) (p : (List Zh) × (List (Z8 × Int)) × Int) : Option (((List Zh) × (List (Z8 × Int)) × Int) ⊕ (List Zh)) :=
  bif decide (p.2.2 < (a0.Zd.length : Int)) then (gd [decide (0 ≤ p.2.2), decide (p.2.2 < (a0.Zd.length : Int))] ((loopN 1000 (K.JH a0 p.2.2) (p.1, p.2.1, 0)).bind fun y => some (.inl (y.1, y.2, wr .i64 (p.2.2 + 1))))) else (some (.inr p.1))
theorem Zca (a0 : ZB) (p : (List Zh) × (List (Z8 × Int)) × Int) : Ref (K.JI a0 p) (M.JI a0 p) := by
  unfold K.JI M.JI
  repeat' (first | with_reducible exact ZJ | with_reducible exact ZM | with_reducible exact Zb9 .. | with_reducible refine ZN ?_ (fun _ => ?_) | with_reducible refine Xf ?_ | with_reducible refine Xg ?_ | with_reducible refine ZO ?_ ?_ | with_reducible refine ZP (fun _ => ?_) (fun _ => ?_) | with_reducible refine ZK (fun _ => ?_))
noncomputable def K.VU (a0 : ZB) : Option (List Zh) :=
  (loopN 1000 (K.JI a0) ([], [], 0)).bind fun y => some y
theorem ZeB (a0 : ZB) : Ref (K.VU a0) (M.VU a0) := by
  unfold K.VU M.VU
  repeat' (first | with_reducible exact ZJ | with_reducible exact ZM | with_reducible exact Zca .. | with_reducible refine ZN ?_ (fun _ => ?_) | with_reducible refine Xf ?_ | with_reducible refine Xg ?_ | with_reducible refine ZO ?_ ?_ | with_reducible refine ZP (fun _ => ?_) (fun _ => ?_) | with_reducible refine ZK (fun _ => ?_))
noncomputable def K.YB (a0 : Int) : Option Bool :=
  some (a0 != a0)
theorem Zbg (a0 : Int) : Ref (K.YB a0) (M.YB a0) := by
  unfold K.YB M.YB
  repeat' (first | with_reducible exact ZJ | with_reducible exact ZM | with_reducible refine ZN ?_ (fun _ => ?_) | with_reducible refine Xf ?_ | with_reducible refine Xg ?_ | with_reducible refine ZO ?_ ?_ | with_reducible refine ZP (fun _ => ?_) (fun _ => ?_) | with_reducible refine ZK (fun _ => ?_))
noncomputable def K.YI (a0 : Int) (a1 : Int) : Option Int :=
  (K.YB a0).bind fun r1 => (K.YB a1).bind fun r2 => bif r1 then (bif r2 then (some 0) else (some (-1))) else (bif r2 then (some 1) else (bif decide (a0 < a1) then (some (-1)) else (bif decide (a0 > a1) then (some 1) else (some 0))))
theorem RT (a0 : Int) (a1 : Int) : Ref (K.YI a0 a1) (M.YI a0 a1) := by
  unfold K.YI M.YI
  repeat' (first | with_reducible exact ZJ | with_reducible exact ZM | with_reducible exact Zbg .. | with_reducible refine ZN ?_ (fun _ => ?_) | with_reducible refine Xf ?_ | with_reducible refine Xg ?_ | with_reducible refine ZO ?_ ?_ | with_reducible refine ZP (fun _ => ?_) (fun _ => ?_) | with_reducible refine ZK (fun _ => ?_))
noncomputable def K.QH (a0 : Int) : Option Bool :=
  some (a0 != a0)
theorem Zdn (a0 : Int) : Ref (K.QH a0) (M.QH a0) := by
  unfold K.QH M.QH
  repeat' (first | with_reducible exact ZJ | with_reducible exact ZM | with_reducible refine ZN ?_ (fun _ => ?_) | with_reducible refine Xf ?_ | with_reducible refine Xg ?_ | with_reducible refine ZO ?_ ?_ | with_reducible refine ZP (fun _ => ?_) (fun _ => ?_) | with_reducible refine ZK (fun _ => ?_))
noncomputable def K.YP (a0 : Int) (a1 : Int) : Option Int :=
  (K.QH a0).bind fun r1 => (K.QH a1).bind fun r2 => bif r1 then (bif r2 then (some 0) else (some (-1))) else (bif r2 then (some 1) else (bif decide (a0 < a1) then (some (-1)) else (bif decide (a0 > a1) then (some 1) else (some 0))))
theorem G8 (a0 : Int) (a1 : Int) : Ref (K.YP a0 a1) (M.YP a0 a1) := by
  unfold K.YP M.YP
  repeat' (first | with_reducible exact ZJ | with_reducible exact ZM | with_reducible exact Zdn .. | with_reducible refine ZN ?_ (fun _ => ?_) | with_reducible refine Xf ?_ | with_reducible refine Xg ?_ | with_reducible refine ZO ?_ ?_ | with_reducible refine ZP (fun _ => ?_) (fun _ => ?_) | with_reducible refine ZK (fun _ => ?_))
noncomputable def K.Vb (a0 : ZZ) (a1 : ZZ) : Option Int :=
  (K.YI a0.Zy a1.Zy).bind fun r1 => bif r1 != 0 then (some r1) else ((K.YP a0.ZW a1.ZW).bind fun r2 => some r2)
theorem ZeC (a0 : ZZ) (a1 : ZZ) : Ref (K.Vb a0 a1) (M.Vb a0 a1) := by
  unfold K.Vb M.Vb
  repeat' (first | with_reducible exact ZJ | with_reducible exact ZM | with_reducible exact RT .. | with_reducible exact G8 .. | with_reducible refine ZN ?_ (fun _ => ?_) | with_reducible refine Xf ?_ | with_reducible refine Xg ?_ | with_reducible refine ZO ?_ ?_ | with_reducible refine ZP (fun _ => ?_) (fun _ => ?_) | with_reducible refine ZK (fun _ => ?_))
noncomputable def K.Qn (a0 : List Int) (p1 : Int) : Option (Int ⊕ (Unit ⊕ Int)) :=
  bif decide (p1 < (a0.length : Int)) then (gd [decide (0 ≤ p1), decide (p1 < (a0.length : Int))] (bif (a0.getD p1.toNat default) != 0 then (some (.inr (.inr (a0.getD p1.toNat default)))) else (some (.inl (wr .i64 (p1 + 1)))))) else (some (.inr (.inl ())))
theorem Zdo (a0 : List Int) (p1 : Int) : Ref (K.Qn a0 p1) (M.Qn a0 p1) := by
  unfold K.Qn M.Qn
  repeat' (first | with_reducible exact ZJ | with_reducible exact ZM | with_reducible refine ZN ?_ (fun _ => ?_) | with_reducible refine Xf ?_ | with_reducible refine Xg ?_ | with_reducible refine ZO ?_ ?_ | with_reducible refine ZP (fun _ => ?_) (fun _ => ?_) | with_reducible refine ZK (fun _ => ?_))
noncomputable def K.Wi (a0 : List Int) : Option Int :=
  (loopN 1000 (K.Qn a0) 0).bind fun y3 => Sum.elim (fun _ => some 0) (fun y5 => some y5) y3
theorem Zf0 (a0 : List Int) : Ref (K.Wi a0) (M.Wi a0) := by
  unfold K.Wi M.Wi
  repeat' (first | with_reducible exact ZJ | with_reducible exact ZM | with_reducible exact Zdo .. | with_reducible refine ZN ?_ (fun _ => ?_) | with_reducible refine Xf ?_ | with_reducible refine Xg ?_ | with_reducible refine ZO ?_ ?_ | with_reducible refine ZP (fun _ => ?_) (fun _ => ?_) | with_reducible refine ZK (fun _ => ?_))
noncomputable def K.JJ (a0 : Zh) (a1 : Zh) : Option Int :=
  (K.Vb a0.Zo a1.Zo).bind fun r1 => (K.YP a0.XD a1.XD).bind fun r2 => (K.Wi ([r1, r2] : List Int)).bind fun r3 => some r3
theorem ZeD (a0 : Zh) (a1 : Zh) : Ref (K.JJ a0 a1) (M.JJ a0 a1) := by
  unfold K.JJ M.JJ
  repeat' (first | with_reducible exact ZJ | with_reducible exact ZM | with_reducible exact G8 .. | with_reducible exact ZeC .. | with_reducible exact Zf0 .. | with_reducible refine ZN ?_ (fun _ => ?_) | with_reducible refine Xf ?_ | with_reducible refine Xg ?_ | with_reducible refine ZO ?_ ?_ | with_reducible refine ZP (fun _ => ?_) (fun _ => ?_) | with_reducible refine ZK (fun _ => ?_))
noncomputable def K.XC (a0 : List Zh) : Option (List Zh) :=
  sortK K.JJ a0
theorem VQ (a0 : List Zh) : Ref (K.XC a0) (M.XC a0) := Ziw ZeD so_topo_Build_1
noncomputable def K.Jv (p5 : (List Int) × Int) (p7 : (List Int)) : Option (((List Int) × Int) ⊕ (List Int)) :=
  some (.inl (p7, wr .i64 (p5.2 + 1)))
theorem Zdp (p5 : (List Int) × Int) (p7 : (List Int)) : Ref (K.Jv p5 p7) (M.Jv p5 p7) := by
  unfold K.Jv M.Jv
  repeat' (first | with_reducible exact ZJ | with_reducible exact ZM | with_reducible refine ZN ?_ (fun _ => ?_) | with_reducible refine Xf ?_ | with_reducible refine Xg ?_ | with_reducible refine ZO ?_ ?_ | with_reducible refine ZP (fun _ => ?_) (fun _ => ?_) | with_reducible refine ZK (fun _ => ?_))
noncomputable def K.VY (r3 : (List Zh)) (p5 : (List Int) × Int) : Option (((List Int) × Int) ⊕ (List Int)) :=
  bif decide (p5.2 < (r3.length : Int)) then (gd [decide (0 ≤ p5.2), decide (p5.2 < (r3.length : Int))] (bif decide ((((r3.getD p5.2.toNat default).ZU).length : Int) ≥ 2) then (gd [decide ((p5.1.length + 1) * 8 ≤ 140737488355328)] (K.Jv p5 (p5.1 ++ [p5.2]))) else (K.Jv p5 p5.1))) else (some (.inr p5.1))
theorem Zdq (r3 : (List Zh)) (p5 : (List Int) × Int) : Ref (K.VY r3 p5) (M.VY r3 p5) := by
  unfold K.VY M.VY
  repeat' (first | with_reducible exact ZJ | with_reducible exact ZM | with_reducible exact Zdp .. | with_reducible refine ZN ?_ (fun _ => ?_) | with_reducible refine Xf ?_ | with_reducible refine Xg ?_ | with_reducible refine ZO ?_ ?_ | with_reducible refine ZP (fun _ => ?_) (fun _ => ?_) | with_reducible refine ZK (fun _ => ?_))
noncomputable def K.W4 (a0 : ZB) : Option (Qr × Int) :=
  (K.Wr a0).bind fun r1 => bif r1 != 0 then none else ((K.VU a0).bind fun r2 => (K.XC r2).bind fun r3 => gd [decide (r3.length = r2.length)] ((loopN 1000 (K.VY r3) (([] : List Int), 0)).bind fun y8 => bif decide ((y8.length : Int) > 12) then none else (some ((⟨r3, y8⟩ : Qr), 0))))
theorem Zf1 (a0 : ZB) : Ref (K.W4 a0) (M.W4 a0) := by
  unfold K.W4 M.W4
  repeat' (first | with_reducible exact ZJ | with_reducible exact ZM | with_reducible exact ZeX .. | with_reducible exact ZeB .. | with_reducible exact VQ .. | with_reducible exact Zdq .. | with_reducible refine ZN ?_ (fun _ => ?_) | with_reducible refine Xf ?_ | with_reducible refine Xg ?_ | with_reducible refine ZO ?_ ?_ | with_reducible refine ZP (fun _ => ?_) (fun _ => ?_) | with_reducible refine ZK (fun _ => ?_))
noncomputable def K.XM (a0 : List Zf) : Option (List Zf) :=
  gd [decide (0 = 0) || decide (0 < a0.length), decide ((0 + a0.length) * 448 ≤ 140737488355328)] (some a0)
theorem UE (a0 : List Zf) : Ref (K.XM a0) (M.XM a0) := by
  unfold K.XM M.XM
  repeat' (first | with_reducible exact ZJ | with_reducible exact ZM | with_reducible refine ZN ?_ (fun _ => ?_) | with_reducible refine Xf ?_ | with_reducible refine Xg ?_ | with_reducible refine ZO ?_ ?_ | with_reducible refine ZP (fun _ => ?_) (fun _ => ?_) | with_reducible refine ZK (fun _ => ?_))
noncomputable def K.Xk (a0 : List Zl) : Option (List Zl) :=
  gd [decide (0 = 0) || decide (0 < a0.length), decide ((0 + a0.length) * 112 ≤ 140737488355328)] (some a0)
theorem W5 (a0 : List Zl) : Ref (K.Xk a0) (M.Xk a0) := by
  unfold K.Xk M.Xk
  repeat' (first | with_reducible exact ZJ | with_reducible exact ZM | with_reducible refine ZN ?_ (fun _ => ?_) | with_reducible refine Xf ?_ | with_reducible refine Xg ?_ | with_reducible refine ZO ?_ ?_ | with_reducible refine ZP (fun _ => ?_) (fun _ => ?_) | with_reducible refine ZK (fun _ => ?_))
noncomputable def K.Xe (a0 : List Z2) : Option (List Z2) :=
  gd [decide (0 = 0) || decide (0 < a0.length), decide ((0 + a0.length) * 40 ≤ 140737488355328)] (some a0)
theorem WR (a0 : List Z2) : Ref (K.Xe a0) (M.Xe a0) := by
  unfold K.Xe M.Xe
  repeat' (first | with_reducible exact ZJ | with_reducible exact ZM | with_reducible refine ZN ?_ (fun _ => ?_) | with_reducible refine Xf ?_ | with_reducible refine Xg ?_ | with_reducible refine ZO ?_ ?_ | with_reducible refine ZP (fun _ => ?_) (fun _ => ?_) | with_reducible refine ZK (fun _ => ?_))
noncomputable def K.Xu (a0 : List Ya) : Option (List Ya) :=
  gd [decide (0 = 0) || decide (0 < a0.length), decide ((0 + a0.length) * 40 ≤ 140737488355328)] (some a0)
theorem Ug (a0 : List Ya) : Ref (K.Xu a0) (M.Xu a0) := by
  unfold K.Xu M.Xu
  repeat' (first | with_reducible exact ZJ | with_reducible exact ZM | with_reducible refine ZN ?_ (fun _ => ?_) | with_reducible refine Xf ?_ | with_reducible refine Xg ?_ | with_reducible refine ZO ?_ ?_ | with_reducible refine ZP (fun _ => ?_) (fun _ => ?_) | with_reducible refine ZK (fun _ => ?_))
noncomputable def K.X1 (a0 : List Ud) : Option (List Ud) :=
  gd [decide (0 = 0) || decide (0 < a0.length), decide ((0 + a0.length) * 40 ≤ 140737488355328)] (some a0)
theorem Gc (a0 : List Ud) : Ref (K.X1 a0) (M.X1 a0) := by
  unfold K.X1 M.X1
  repeat' (first | with_reducible exact ZJ | with_reducible exact ZM | with_reducible refine ZN ?_ (fun _ => ?_) | with_reducible refine Xf ?_ | with_reducible refine Xg ?_ | with_reducible refine ZO ?_ ?_ | with_reducible refine ZP (fun _ => ?_) (fun _ => ?_) | with_reducible refine ZK (fun _ => ?_))
noncomputable def K.Xb (a0 : List YR) : Option (List YR) :=
  gd [decide (0 = 0) || decide (0 < a0.length), decide ((0 + a0.length) * 64 ≤ 140737488355328)] (some a0)
theorem Wy (a0 : List YR) : Ref (K.Xb a0) (M.Xb a0) := by
  unfold K.Xb M.Xb
  repeat' (first | with_reducible exact ZJ | with_reducible exact ZM | with_reducible refine ZN ?_ (fun _ => ?_) | with_reducible refine Xf ?_ | with_reducible refine Xg ?_ | with_reducible refine ZO ?_ ?_ | with_reducible refine ZP (fun _ => ?_) (fun _ => ?_) | with_reducible refine ZK (fun _ => ?_))
noncomputable def K.Xc (a0 : List YS) : Option (List YS) :=
  gd [decide (0 = 0) || decide (0 < a0.length), decide ((0 + a0.length) * 64 ≤ 140737488355328)] (some a0)
theorem Wz (a0 : List YS) : Ref (K.Xc a0) (M.Xc a0) := by
  unfold K.Xc M.Xc
  repeat' (first | with_reducible exact ZJ | with_reducible exact ZM | with_reducible refine ZN ?_ (fun _ => ?_) | with_reducible refine Xf ?_ | with_reducible refine Xg ?_ | with_reducible refine ZO ?_ ?_ | with_reducible refine ZP (fun _ => ?_) (fun _ => ?_) | with_reducible refine ZK (fun _ => ?_))
noncomputable def K.Xl (a0 : List J3) : Option (List J3) :=
  gd [decide (0 = 0) || decide (0 < a0.length), decide ((0 + a0.length) * 24 ≤ 140737488355328)] (some a0)
theorem W6 (a0 : List J3) : Ref (K.Xl a0) (M.Xl a0) := by
  unfold K.Xl M.Xl
  repeat' (first | with_reducible exact ZJ | with_reducible exact ZM | with_reducible refine ZN ?_ (fun _ => ?_) | with_reducible refine Xf ?_ | with_reducible refine Xg ?_ | with_reducible refine ZO ?_ ?_ | with_reducible refine ZP (fun _ => ?_) (fun _ => ?_) | with_reducible refine ZK (fun _ => ?_))
noncomputable def K.Z6 (a0 : List YJ) : Option (List YJ) :=
  gd [decide (0 = 0) || decide (0 < a0.length), decide ((0 + a0.length) * 48 ≤ 140737488355328)] (some a0)
theorem UF (a0 : List YJ) : Ref (K.Z6 a0) (M.Z6 a0) := by
  unfold K.Z6 M.Z6
  repeat' (first | with_reducible exact ZJ | with_reducible exact ZM | with_reducible refine ZN ?_ (fun _ => ?_) | with_reducible refine Xf ?_ | with_reducible refine Xg ?_ | with_reducible refine ZO ?_ ?_ | with_reducible refine ZP (fun _ => ?_) (fun _ => ?_) | with_reducible refine ZK (fun _ => ?_))
noncomputable def K.Xv (a0 : List Jr) : Option (List Jr) :=
  gd [decide (0 = 0) || decide (0 < a0.length), decide ((0 + a0.length) * 48 ≤ 140737488355328)] (some a0)
theorem Uh (a0 : List Jr) : Ref (K.Xv a0) (M.Xv a0) := by
  unfold K.Xv M.Xv
  repeat' (first | with_reducible exact ZJ | with_reducible exact ZM | with_reducible refine ZN ?_ (fun _ => ?_) | with_reducible refine Xf ?_ | with_reducible refine Xg ?_ | with_reducible refine ZO ?_ ?_ | with_reducible refine ZP (fun _ => ?_) (fun _ => ?_) | with_reducible refine ZK (fun _ => ?_))
noncomputable def K.XN (a0 : List ZZ) : Option (List ZZ) :=
  gd [decide (0 = 0) || decide (0 < a0.length), decide ((0 + a0.length) * 16 ≤ 140737488355328)] (some a0)
theorem UG (a0 : List ZZ) : Ref (K.XN a0) (M.XN a0) := by
  unfold K.XN M.XN
  repeat' (first | with_reducible exact ZJ | with_reducible exact ZM | with_reducible refine ZN ?_ (fun _ => ?_) | with_reducible refine Xf ?_ | with_reducible refine Xg ?_ | with_reducible refine ZO ?_ ?_ | with_reducible refine ZP (fun _ => ?_) (fun _ => ?_) | with_reducible refine ZK (fun _ => ?_))
noncomputable def K.Xm (a0 : List J4) : Option (List J4) :=
  gd [decide (0 = 0) || decide (0 < a0.length), decide ((0 + a0.length) * 24 ≤ 140737488355328)] (some a0)
theorem W7 (a0 : List J4) : Ref (K.Xm a0) (M.Xm a0) := by
  unfold K.Xm M.Xm
  repeat' (first | with_reducible exact ZJ | with_reducible exact ZM | with_reducible refine ZN ?_ (fun _ => ?_) | with_reducible refine Xf ?_ | with_reducible refine Xg ?_ | with_reducible refine ZO ?_ ?_ | with_reducible refine ZP (fun _ => ?_) (fun _ => ?_) | with_reducible refine ZK (fun _ => ?_))
noncomputable def K.Xn (a0 : List J5) : Option (List J5) :=
  gd [decide (0 = 0) || decide (0 < a0.length), decide ((0 + a0.length) * 40 ≤ 140737488355328)] (some a0)
theorem W8 (a0 : List J5) : Ref (K.Xn a0) (M.Xn a0) := by
  unfold K.Xn M.Xn
  repeat' (first | with_reducible exact ZJ | with_reducible exact ZM | with_reducible refine ZN ?_ (fun _ => ?_) | with_reducible refine Xf ?_ | with_reducible refine Xg ?_ | with_reducible refine ZO ?_ ?_ | with_reducible refine ZP (fun _ => ?_) (fun _ => ?_) | with_reducible refine ZK (fun _ => ?_))
noncomputable def K.Q5 (r2 : (List Z2)) (p3 : Int) : Option (Int ⊕ Unit) :=
  bif decide (p3 < (r2.length : Int)) then none else (some (.inr ()))
theorem RU (r2 : (List Z2)) (p3 : Int) : Ref (K.Q5 r2 p3) (M.Q5 r2 p3) := by
  unfold K.Q5 M.Q5
  repeat' (first | with_reducible exact ZJ | with_reducible exact ZM | with_reducible refine ZN ?_ (fun _ => ?_) | with_reducible refine Xf ?_ | with_reducible refine Xg ?_ | with_reducible refine ZO ?_ ?_ | with_reducible refine ZP (fun _ => ?_) (fun _ => ?_) | with_reducible refine ZK (fun _ => ?_))
noncomputable def K.Q6 (r6 : (List Ya)) (p7 : Int) : Option (Int ⊕ Unit) :=
  bif decide (p7 < (r6.length : Int)) then none else (some (.inr ()))
theorem RW (r6 : (List Ya)) (p7 : Int) : Ref (K.Q6 r6 p7) (M.Q6 r6 p7) := by
  unfold K.Q6 M.Q6
  repeat' (first | with_reducible exact ZJ | with_reducible exact ZM | with_reducible refine ZN ?_ (fun _ => ?_) | with_reducible refine Xf ?_ | with_reducible refine Xg ?_ | with_reducible refine ZO ?_ ?_ | with_reducible refine ZP (fun _ => ?_) (fun _ => ?_) | with_reducible refine ZK (fun _ => ?_))
noncomputable def K.Q7 (r10 : (List Ud)) (p11 : Int) : Option (Int ⊕ Unit) :=
  bif decide (p11 < (r10.length : Int)) then none else (some (.inr ()))
theorem RX (r10 : (List Ud)) (p11 : Int) : Ref (K.Q7 r10 p11) (M.Q7 r10 p11) := by
  unfold K.Q7 M.Q7
  repeat' (first | with_reducible exact ZJ | with_reducible exact ZM | with_reducible refine ZN ?_ (fun _ => ?_) | with_reducible refine Xf ?_ | with_reducible refine Xg ?_ | with_reducible refine ZO ?_ ?_ | with_reducible refine ZP (fun _ => ?_) (fun _ => ?_) | with_reducible refine ZK (fun _ => ?_))
noncomputable def K.JK (a0 : Zf) : Option Zf :=
  (K.Xk a0.Zc).bind fun r1 => (K.Xe a0.Yv).bind fun r2 => (loopN 1000 (K.Q5 r2) 0).bind fun y5 => (K.Xu a0.XE).bind fun r6 => (loopN 1000 (K.Q6 r6) 0).bind fun y9 => (K.X1 a0.YD).bind fun r10 => (loopN 1000 (K.Q7 r10) 0).bind fun y13 => (K.Xb a0.Xa).bind fun r14 => (K.Xc a0.Zq).bind fun r15 => (K.Xl a0.Yi.Z4).bind fun r16 => (K.Z6 a0.Yi.Zs).bind fun r17 => (K.Z6 a0.Yn.Zs).bind fun r18 => (K.Xv a0.Xs.Zm).bind fun r19 => (K.XN a0.Xs.Z1).bind fun r20 => (K.Xm a0.Xs.ZE).bind fun r21 => (K.Xn a0.Xs.Zt).bind fun r22 => (K.Z6 a0.Xs.Zs).bind fun r23 => some (⟨a0.Xj, a0.GA, r1, r2, r6, r10, r14, r15, (⟨a0.Yi.Vz, a0.Yi.Xr, r16, r17⟩ : Vl), (⟨a0.Yn.Vz, a0.Yn.Xr, a0.Yn.VS, a0.Yn.Y7, r18⟩ : YC), (⟨a0.Xs.Vz, a0.Xs.XX, a0.Xs.XY, r19, r20, r21, r22, r23⟩ : Xy)⟩ : Zf)
theorem Zcb (a0 : Zf) : Ref (K.JK a0) (M.JK a0) := by
  unfold K.JK M.JK
  repeat' (first | with_reducible exact ZJ | with_reducible exact ZM | with_reducible exact W5 .. | with_reducible exact WR .. | with_reducible exact Ug .. | with_reducible exact Gc .. | with_reducible exact Wy .. | with_reducible exact Wz .. | with_reducible exact W6 .. | with_reducible exact UF .. | with_reducible exact Uh .. | with_reducible exact UG .. | with_reducible exact W7 .. | with_reducible exact W8 .. | with_reducible exact RU .. | with_reducible exact RW .. | with_reducible exact RX .. | with_reducible refine ZN ?_ (fun _ => ?_) | with_reducible refine Xf ?_ | with_reducible refine Xg ?_ | with_reducible refine ZO ?_ ?_ | with_reducible refine ZP (fun _ => ?_) (fun _ => ?_) | with_reducible refine ZK (fun _ => ?_))
noncomputable def K.QI (r1 : (List Zf)) (p2 : (List Zf) × Int) : Option (((List Zf) × Int) ⊕ (List Zf)) :=
  bif decide (p2.2 < (r1.length : Int)) then ((K.JK (p2.1.getD (0 + p2.2.toNat) default)).bind fun r4 => gd [decide (0 ≤ p2.2), decide (p2.2 < (p2.1.length : Int)), decide (0 ≤ p2.2), decide (p2.2 < (p2.1.length : Int))] (some (.inl (p2.1.set (0 + p2.2.toNat) r4, wr .i64 (p2.2 + 1))))) else (some (.inr p2.1))
theorem Rf (r1 : (List Zf)) (p2 : (List Zf) × Int) : Ref (K.QI r1 p2) (M.QI r1 p2) := by
  unfold K.QI M.QI
  repeat' (first | with_reducible exact ZJ | with_reducible exact ZM | with_reducible exact Zcb .. | with_reducible refine ZN ?_ (fun _ => ?_) | with_reducible refine Xf ?_ | with_reducible refine Xg ?_ | with_reducible refine ZO ?_ ?_ | with_reducible refine ZP (fun _ => ?_) (fun _ => ?_) | with_reducible refine ZK (fun _ => ?_))
noncomputable def K.Jj (a0 : ZB) : Option ZB :=
  (K.XM a0.Zd).bind fun r1 => (loopN 1000 (K.QI r1) (r1, 0)).bind fun y5 => some (⟨y5⟩ : ZB)
theorem Zbh (a0 : ZB) : Ref (K.Jj a0) (M.Jj a0) := by
  unfold K.Jj M.Jj
  repeat' (first | with_reducible exact ZJ | with_reducible exact ZM | with_reducible exact UE .. | with_reducible exact Rf .. | with_reducible refine ZN ?_ (fun _ => ?_) | with_reducible refine Xf ?_ | with_reducible refine Xg ?_ | with_reducible refine ZO ?_ ?_ | with_reducible refine ZP (fun _ => ?_) (fun _ => ?_) | with_reducible refine ZK (fun _ => ?_))
noncomputable def K.Y6 (a0 : List Int) : Option (List Int) :=
  gd [decide (0 = 0) || decide (0 < a0.length), decide ((0 + a0.length) * 8 ≤ 140737488355328)] (some a0)
theorem KU (a0 : List Int) : Ref (K.Y6 a0) (M.Y6 a0) := by
  unfold K.Y6 M.Y6
  repeat' (first | with_reducible exact ZJ | with_reducible exact ZM | with_reducible refine ZN ?_ (fun _ => ?_) | with_reducible refine Xf ?_ | with_reducible refine Xg ?_ | with_reducible refine ZO ?_ ?_ | with_reducible refine ZP (fun _ => ?_) (fun _ => ?_) | with_reducible refine ZK (fun _ => ?_))
noncomputable def K.Ws (a1 : List Int) (r1 : Qr × Int) (p2 : Int) : Option (Int ⊕ Unit) :=
  bif decide (p2 < (a1.length : Int)) then (gd [decide (0 ≤ p2), decide (p2 < (a1.length : Int))] (gd [guardB ((!((decide ((a1.getD p2.toNat default) < 0)) || (decide ((a1.getD p2.toNat default) ≥ (r1.1.XB.length : Int))))) && (decide (p2 > 0))) (decide (0 ≤ (wr .i64 (p2 - 1)))), guardB ((!((decide ((a1.getD p2.toNat default) < 0)) || (decide ((a1.getD p2.toNat default) ≥ (r1.1.XB.length : Int))))) && (decide (p2 > 0))) (decide ((wr .i64 (p2 - 1)) < (a1.length : Int)))] (bif ((decide ((a1.getD p2.toNat default) < 0)) || (decide ((a1.getD p2.toNat default) ≥ (r1.1.XB.length : Int)))) || ((decide (p2 > 0)) && (decide ((a1.getD p2.toNat default) ≤ (a1.getD (wr .i64 (p2 - 1)).toNat default)))) then none else (some (.inl (wr .i64 (p2 + 1))))))) else (some (.inr ()))
theorem ZeE (a1 : List Int) (r1 : Qr × Int) (p2 : Int) : Ref (K.Ws a1 r1 p2) (M.Ws a1 r1 p2) := by
  unfold K.Ws M.Ws
  repeat' (first | with_reducible exact ZJ | with_reducible exact ZM | with_reducible refine ZN ?_ (fun _ => ?_) | with_reducible refine Xf ?_ | with_reducible refine Xg ?_ | with_reducible refine ZO ?_ ?_ | with_reducible refine ZP (fun _ => ?_) (fun _ => ?_) | with_reducible refine ZK (fun _ => ?_))
noncomputable def K.WQ (a0 : ZB) (a1 : List Int) : Option (Xq × Int) :=
  (K.W4 a0).bind fun r1 => bif r1.2 != 0 then none else (bif decide ((a1.length : Int) > 2) then none else ((loopN 1000 (K.Ws a1 r1) 0).bind fun y4 => (K.Jj a0).bind fun r5 => (K.Y6 a1).bind fun r6 => some ((⟨r5, r1.1, r6⟩ : Xq), 0)))
theorem ZgT (a0 : ZB) (a1 : List Int) : Ref (K.WQ a0 a1) (M.WQ a0 a1) := by
  unfold K.WQ M.WQ
  repeat' (first | with_reducible exact ZJ | with_reducible exact ZM | with_reducible exact Zf1 .. | with_reducible exact Zbh .. | with_reducible exact KU .. | with_reducible exact ZeE .. | with_reducible refine ZN ?_ (fun _ => ?_) | with_reducible refine Xf ?_ | with_reducible refine Xg ?_ | with_reducible refine ZO ?_ ?_ | with_reducible refine ZP (fun _ => ?_) (fun _ => ?_) | with_reducible refine ZK (fun _ => ?_))
noncomputable def K.X0 (a0 : List Qo) (a1 : Qo) (p1 : Int) : Option (Int ⊕ (Unit ⊕ Int)) :=
  bif decide (p1 < (a0.length : Int)) then (gd [decide (0 ≤ p1), decide (p1 < (a0.length : Int))] (bif ((a1.Xp == ((a0.getD p1.toNat default).Xp)) && ((a1.J2 == ((a0.getD p1.toNat default).J2)) && true)) then (some (.inr (.inr p1))) else (some (.inl (wr .i64 (p1 + 1)))))) else (some (.inr (.inl ())))
theorem US (a0 : List Qo) (a1 : Qo) (p1 : Int) : Ref (K.X0 a0 a1 p1) (M.X0 a0 a1 p1) := by
  unfold K.X0 M.X0
  repeat' (first | with_reducible exact ZJ | with_reducible exact ZM | with_reducible refine ZN ?_ (fun _ => ?_) | with_reducible refine Xf ?_ | with_reducible refine Xg ?_ | with_reducible refine ZO ?_ ?_ | with_reducible refine ZP (fun _ => ?_) (fun _ => ?_) | with_reducible refine ZK (fun _ => ?_))
noncomputable def K.X2 (a0 : List Qo) (a1 : Qo) : Option Int :=
  (loopN 1000 (K.X0 a0 a1) 0).bind fun y3 => Sum.elim (fun _ => some (-1)) (fun y5 => some y5) y3
theorem Gd (a0 : List Qo) (a1 : Qo) : Ref (K.X2 a0 a1) (M.X2 a0 a1) := by
  unfold K.X2 M.X2
  repeat' (first | with_reducible exact ZJ | with_reducible exact ZM | with_reducible exact US .. | with_reducible refine ZN ?_ (fun _ => ?_) | with_reducible refine Xf ?_ | with_reducible refine Xg ?_ | with_reducible refine ZO ?_ ?_ | with_reducible refine ZP (fun _ => ?_) (fun _ => ?_) | with_reducible refine ZK (fun _ => ?_))
noncomputable def K.XT (a0 : List Qo) (a1 : Qo) : Option Bool :=
  (K.X2 a0 a1).bind fun r1 => some (decide (r1 ≥ 0))
theorem UT (a0 : List Qo) (a1 : Qo) : Ref (K.XT a0 a1) (M.XT a0 a1) := by
  unfold K.XT M.XT
  repeat' (first | with_reducible exact ZJ | with_reducible exact ZM | with_reducible exact Gd .. | with_reducible refine ZN ?_ (fun _ => ?_) | with_reducible refine Xf ?_ | with_reducible refine Xg ?_ | with_reducible refine ZO ?_ ?_ | with_reducible refine ZP (fun _ => ?_) (fun _ => ?_) | with_reducible refine ZK (fun _ => ?_))
noncomputable def K.VG (a0 : Xq) (a1 : Int) (a2 : Int) (p1 : Int) : Option (Int ⊕ (Unit ⊕ Int)) :=
  bif decide (p1 < (a0.ZV.Zv.length : Int)) then (gd [decide (0 ≤ p1), decide (p1 < (a0.ZV.Zv.length : Int))] ((K.XT ((a0.ZV.Zv.getD p1.toNat default).ZU) (⟨a1, a2⟩ : Qo)).bind fun r3 => bif r3 then (some (.inr (.inr p1))) else (some (.inl (wr .i64 (p1 + 1)))))) else (some (.inr (.inl ())))
theorem ZcR (a0 : Xq) (a1 : Int) (a2 : Int) (p1 : Int) : Ref (K.VG a0 a1 a2 p1) (M.VG a0 a1 a2 p1) := by
  unfold K.VG M.VG
  repeat' (first | with_reducible exact ZJ | with_reducible exact ZM | with_reducible exact UT .. | with_reducible refine ZN ?_ (fun _ => ?_) | with_reducible refine Xf ?_ | with_reducible refine Xg ?_ | with_reducible refine ZO ?_ ?_ | with_reducible refine ZP (fun _ => ?_) (fun _ => ?_) | with_reducible refine ZK (fun _ => ?_))
noncomputable def K.VH (a0 : Xq) (a1 : Int) (a2 : Int) : Option Int :=
  (loopN 1000 (K.VG a0 a1 a2) 0).bind fun y4 => Sum.elim (fun _ => none) (fun y6 => some y6) y4
theorem ZaV (a0 : Xq) (a1 : Int) (a2 : Int) : Ref (K.VH a0 a1 a2) (M.VH a0 a1 a2) := by
  unfold K.VH M.VH
  repeat' (first | with_reducible exact ZJ | with_reducible exact ZM | with_reducible exact ZcR .. | with_reducible refine ZN ?_ (fun _ => ?_) | with_reducible refine Xf ?_ | with_reducible refine Xg ?_ | with_reducible refine ZO ?_ ?_ | with_reducible refine ZP (fun _ => ?_) (fun _ => ?_) | with_reducible refine ZK (fun _ => ?_))
noncomputable def K.Uz (a0 : Xq) (a1 : Int) (a2 : Int) : Option Int :=
  (K.VH a0 a1 a2).bind fun r1 => bif decide (r1 < 0) then none else ((K.XL a0.ZV.XB r1).bind fun r2 => some r2)
theorem ZgU (a0 : Xq) (a1 : Int) (a2 : Int) : Ref (K.Uz a0 a1 a2) (M.Uz a0 a1 a2) := by
  unfold K.Uz M.Uz
  repeat' (first | with_reducible exact ZJ | with_reducible exact ZM | with_reducible exact U3 .. | with_reducible exact ZaV .. | with_reducible refine ZN ?_ (fun _ => ?_) | with_reducible refine Xf ?_ | with_reducible refine Xg ?_ | with_reducible refine ZO ?_ ?_ | with_reducible refine ZP (fun _ => ?_) (fun _ => ?_) | with_reducible refine ZK (fun _ => ?_))
noncomputable def K.UA (a0 : Xq) (a1 : Int) (a2 : Int) : Option Bool :=
  (K.VH a0 a1 a2).bind fun r1 => bif decide (r1 < 0) then none else ((K.Uz a0 a1 a2).bind fun r2 => (gc (!(decide (r2 < 0))) (K.Xx a0.Qy r2)).bind fun r3 => some ((decide (r2 < 0)) || (!r3)))
theorem ZiB (a0 : Xq) (a1 : Int) (a2 : Int) : Ref (K.UA a0 a1 a2) (M.UA a0 a1 a2) := by
  unfold K.UA M.UA
  repeat' (first | with_reducible exact ZJ | with_reducible exact ZM | with_reducible exact GX .. | with_reducible exact ZaV .. | with_reducible exact ZgU .. | with_reducible refine ZN ?_ (fun _ => ?_) | with_reducible refine Xf ?_ | with_reducible refine Xg ?_ | with_reducible refine ZO ?_ ?_ | with_reducible refine ZP (fun _ => ?_) (fun _ => ?_) | with_reducible refine ZK (fun _ => ?_))
noncomputable def K.Wx  : Option Bool :=
  (K.Wg).bind fun r1 => (K.WQ r1 ([] : List Int)).bind fun r2 => (K.Wg).bind fun r3 => (K.WQ r3 ([0] : List Int)).bind fun r4 => (gc ((((r2.2 == 0) && (r4.2 == 0)) && ((r2.1.ZV.Zv.length : Int) == 2)) && ((r2.1.ZV.XB.length : Int) == 1)) (K.UA r2.1 0 0)).bind fun r5 => (gc (((((r2.2 == 0) && (r4.2 == 0)) && ((r2.1.ZV.Zv.length : Int) == 2)) && ((r2.1.ZV.XB.length : Int) == 1)) && r5) (K.UA r4.1 0 0)).bind fun r6 => (gc ((((((r2.2 == 0) && (r4.2 == 0)) && ((r2.1.ZV.Zv.length : Int) == 2)) && ((r2.1.ZV.XB.length : Int) == 1)) && r5) && (!r6)) (K.UA r4.1 1 1)).bind fun r7 => some (((((((r2.2 == 0) && (r4.2 == 0)) && ((r2.1.ZV.Zv.length : Int) == 2)) && ((r2.1.ZV.XB.length : Int) == 1)) && r5) && (!r6)) && r7)
theorem Zf2  : Ref (K.Wx) (M.Wx) := by
  unfold K.Wx M.Wx
  repeat' (first | with_reducible exact ZJ | with_reducible exact ZM | with_reducible exact ZfY .. | with_reducible exact ZgT .. | with_reducible exact ZiB .. | with_reducible refine ZN ?_ (fun _ => ?_) | with_reducible refine Xf ?_ | with_reducible refine Xg ?_ | with_reducible refine ZO ?_ ?_ | with_reducible refine ZP (fun _ => ?_) (fun _ => ?_) | with_reducible refine ZK (fun _ => ?_))
theorem Zfp : M.Wx = some true := Zf2 _ (by kernel_rfl)
end Nv
