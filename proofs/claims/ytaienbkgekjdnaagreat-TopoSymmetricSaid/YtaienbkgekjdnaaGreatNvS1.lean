/- The fixed example: reckoned. -/
import Derived.Test.YtaienbkgekjdnaaGreatNvD1
import Derived.Test.YtaienbkgekjdnaaGreatNvLibB
import Derived.Test.YtaienbkgekjdnaaGreatNvTs
import Derived.KernelRfl
set_option maxRecDepth 100000
namespace Nv
open Go
noncomputable def K.Z4 (a0 : List X8) (a1 : X8) (p1 : Int) : Option (Int ⊕ (Unit ⊕ Int)) :=
  bif decide (p1 < (a0.length : Int)) then (gd [decide (0 ≤ p1), decide (p1 < (a0.length : Int))] (bif ((a1.Z5 == ((a0.getD p1.toNat default).Z5)) && ((a1.XY == ((a0.getD p1.toNat default).XY)) && true)) then (some (.inr (.inr p1))) else (some (.inl (wr .i64 (p1 + 1)))))) else (some (.inr (.inl ())))
theorem Uw (a0 : List X8) (a1 : X8) (p1 : Int) : Ref (K.Z4 a0 a1 p1) (M.Z4 a0 a1 p1) := by
  unfold K.Z4 M.Z4
  repeat' (first | with_reducible exact ZH | with_reducible exact ZK | with_reducible refine ZL ?_ (fun _ => ?_) | with_reducible refine Xi ?_ | with_reducible refine Xj ?_ | with_reducible refine ZM ?_ ?_ | with_reducible refine ZN (fun _ => ?_) (fun _ => ?_) | with_reducible refine ZI (fun _ => ?_))
noncomputable def K.Z9 (a0 : List X8) (a1 : X8) : Option Int :=
  (loopN 1000 (K.Z4 a0 a1) 0).bind fun y3 => Sum.elim (fun _ => some (-1)) (fun y5 => some y5) y3
theorem US (a0 : List X8) (a1 : X8) : Ref (K.Z9 a0 a1) (M.Z9 a0 a1) := by
  unfold K.Z9 M.Z9
  repeat' (first | with_reducible exact ZH | with_reducible exact ZK | with_reducible exact Uw .. | with_reducible refine ZL ?_ (fun _ => ?_) | with_reducible refine Xi ?_ | with_reducible refine Xj ?_ | with_reducible refine ZM ?_ ?_ | with_reducible refine ZN (fun _ => ?_) (fun _ => ?_) | with_reducible refine ZI (fun _ => ?_))
noncomputable def K.ZU (a0 : List X8) (a1 : X8) : Option Bool :=
  (K.Z9 a0 a1).bind fun r1 => some (decide (r1 ≥ 0))
theorem Ux (a0 : List X8) (a1 : X8) : Ref (K.ZU a0 a1) (M.ZU a0 a1) := by
  unfold K.ZU M.ZU
  repeat' (first | with_reducible exact ZH | with_reducible exact ZK | with_reducible exact US .. | with_reducible refine ZL ?_ (fun _ => ?_) | with_reducible refine Xi ?_ | with_reducible refine Xj ?_ | with_reducible refine ZM ?_ ?_ | with_reducible refine ZN (fun _ => ?_) (fun _ => ?_) | with_reducible refine ZI (fun _ => ?_))
noncomputable def K.Yq (a0 : X3) (a1 : Int) (a2 : Int) (p1 : Int) : Option (Int ⊕ (Unit ⊕ Int)) :=
  bif decide (p1 < (a0.XW.Z1.length : Int)) then (gd [decide (0 ≤ p1), decide (p1 < (a0.XW.Z1.length : Int))] ((K.ZU ((a0.XW.Z1.getD p1.toNat default).ZZ) (⟨a1, a2⟩ : X8)).bind fun r3 => bif r3 then (some (.inr (.inr p1))) else (some (.inl (wr .i64 (p1 + 1)))))) else (some (.inr (.inl ())))
theorem Zck (a0 : X3) (a1 : Int) (a2 : Int) (p1 : Int) : Ref (K.Yq a0 a1 a2 p1) (M.Yq a0 a1 a2 p1) := by
  unfold K.Yq M.Yq
  repeat' (first | with_reducible exact ZH | with_reducible exact ZK | with_reducible exact Ux .. | with_reducible refine ZL ?_ (fun _ => ?_) | with_reducible refine Xi ?_ | with_reducible refine Xj ?_ | with_reducible refine ZM ?_ ?_ | with_reducible refine ZN (fun _ => ?_) (fun _ => ?_) | with_reducible refine ZI (fun _ => ?_))
noncomputable def K.Yw (a0 : X3) (a1 : Int) (a2 : Int) : Option Int :=
  (loopN 1000 (K.Yq a0 a1 a2) 0).bind fun y4 => Sum.elim (fun _ => some (-1)) (fun y6 => some y6) y4
theorem Zaw (a0 : X3) (a1 : Int) (a2 : Int) : Ref (K.Yw a0 a1 a2) (M.Yw a0 a1 a2) := by
  unfold K.Yw M.Yw
  repeat' (first | with_reducible exact ZH | with_reducible exact ZK | with_reducible exact Zck .. | with_reducible refine ZL ?_ (fun _ => ?_) | with_reducible refine Xi ?_ | with_reducible refine Xj ?_ | with_reducible refine ZM ?_ ?_ | with_reducible refine ZN (fun _ => ?_) (fun _ => ?_) | with_reducible refine ZI (fun _ => ?_))
noncomputable def K.XG (a0 : List Int) (a1 : Int) (p1 : Int) : Option (Int ⊕ (Unit ⊕ Int)) :=
  bif decide (p1 < (a0.length : Int)) then (gd [decide (0 ≤ p1), decide (p1 < (a0.length : Int))] (bif a1 == (a0.getD p1.toNat default) then (some (.inr (.inr p1))) else (some (.inl (wr .i64 (p1 + 1)))))) else (some (.inr (.inl ())))
theorem Gx (a0 : List Int) (a1 : Int) (p1 : Int) : Ref (K.XG a0 a1 p1) (M.XG a0 a1 p1) := by
  unfold K.XG M.XG
  repeat' (first | with_reducible exact ZH | with_reducible exact ZK | with_reducible refine ZL ?_ (fun _ => ?_) | with_reducible refine Xi ?_ | with_reducible refine Xj ?_ | with_reducible refine ZM ?_ ?_ | with_reducible refine ZN (fun _ => ?_) (fun _ => ?_) | with_reducible refine ZI (fun _ => ?_))
noncomputable def K.XD (a0 : List Int) (a1 : Int) : Option Int :=
  (loopN 1000 (K.XG a0 a1) 0).bind fun y3 => Sum.elim (fun _ => some (-1)) (fun y5 => some y5) y3
theorem UI (a0 : List Int) (a1 : Int) : Ref (K.XD a0 a1) (M.XD a0 a1) := by
  unfold K.XD M.XD
  repeat' (first | with_reducible exact ZH | with_reducible exact ZK | with_reducible exact Gx .. | with_reducible refine ZL ?_ (fun _ => ?_) | with_reducible refine Xi ?_ | with_reducible refine Xj ?_ | with_reducible refine ZM ?_ ?_ | with_reducible refine ZN (fun _ => ?_) (fun _ => ?_) | with_reducible refine ZI (fun _ => ?_))
noncomputable def K.JR (a0 : X3) (a1 : Int) (a2 : Int) : Option Int :=
  (K.Yw a0 a1 a2).bind fun r1 => bif decide (r1 < 0) then (some (-1)) else ((K.XD a0.XW.QA r1).bind fun r2 => some r2)
theorem Zgm (a0 : X3) (a1 : Int) (a2 : Int) : Ref (K.JR a0 a1 a2) (M.JR a0 a1 a2) := by
  unfold K.JR M.JR
  repeat' (first | with_reducible exact ZH | with_reducible exact ZK | with_reducible exact Zaw .. | with_reducible exact UI .. | with_reducible refine ZL ?_ (fun _ => ?_) | with_reducible refine Xi ?_ | with_reducible refine Xj ?_ | with_reducible refine ZM ?_ ?_ | with_reducible refine ZN (fun _ => ?_) (fun _ => ?_) | with_reducible refine ZI (fun _ => ?_))
noncomputable def K.Xv (a0 : List Int) (a1 : Int) : Option Bool :=
  (K.XD a0 a1).bind fun r1 => some (decide (r1 ≥ 0))
theorem Gy (a0 : List Int) (a1 : Int) : Ref (K.Xv a0 a1) (M.Xv a0 a1) := by
  unfold K.Xv M.Xv
  repeat' (first | with_reducible exact ZH | with_reducible exact ZK | with_reducible exact UI .. | with_reducible refine ZL ?_ (fun _ => ?_) | with_reducible refine Xi ?_ | with_reducible refine Xj ?_ | with_reducible refine ZM ?_ ?_ | with_reducible refine ZN (fun _ => ?_) (fun _ => ?_) | with_reducible refine ZI (fun _ => ?_))
noncomputable def K.Vl (a0 : X3) (a1 : Int) (a2 : Int) : Option Bool :=
  (K.Yw a0 a1 a2).bind fun r1 => bif decide (r1 < 0) then (some false) else ((K.JR a0 a1 a2).bind fun r2 => (gc (!(decide (r2 < 0))) (K.Xv a0.V0 r2)).bind fun r3 => some ((decide (r2 < 0)) || (!r3)))
theorem Zh4 (a0 : X3) (a1 : Int) (a2 : Int) : Ref (K.Vl a0 a1 a2) (M.Vl a0 a1 a2) := by
  unfold K.Vl M.Vl
  repeat' (first | with_reducible exact ZH | with_reducible exact ZK | with_reducible exact Zaw .. | with_reducible exact Zgm .. | with_reducible exact Gy .. | with_reducible refine ZL ?_ (fun _ => ?_) | with_reducible refine Xi ?_ | with_reducible refine Xj ?_ | with_reducible refine ZM ?_ ?_ | with_reducible refine ZN (fun _ => ?_) (fun _ => ?_) | with_reducible refine ZI (fun _ => ?_))
noncomputable def K.VW  : Option Zw :=
  some (⟨([(⟨(⟨#[97]⟩ : ByteArray), 0, ([(⟨(⟨#[101, 48]⟩ : ByteArray), 167772161, 24, 0, false, false, 0, 0, false, (⟨#[]⟩ : ByteArray), (⟨#[]⟩ : ByteArray), 0⟩ : Zl)] : List Zl), ([] : List Z2), ([] : List X6), ([] : List WV), ([] : List YR), ([] : List YS), (⟨false, 0, ([] : List J0), ([] : List YJ)⟩ : Vf), (⟨false, 0, (⟨#[]⟩ : ByteArray), (⟨#[]⟩ : ByteArray), ([] : List YJ)⟩ : YB), (⟨false, 0, 0, ([] : List Jt), ([] : List ZX), ([] : List J1), ([] : List J2), ([] : List YJ)⟩ : Xw)⟩ : Zf), (⟨(⟨#[98]⟩ : ByteArray), 0, ([(⟨(⟨#[101, 48]⟩ : ByteArray), 167772162, 24, 0, false, false, 0, 0, false, (⟨#[]⟩ : ByteArray), (⟨#[]⟩ : ByteArray), 0⟩ : Zl), (⟨(⟨#[101, 49]⟩ : ByteArray), 167772418, 24, 0, false, false, 0, 0, false, (⟨#[]⟩ : ByteArray), (⟨#[]⟩ : ByteArray), 0⟩ : Zl)] : List Zl), ([] : List Z2), ([] : List X6), ([] : List WV), ([] : List YR), ([] : List YS), (⟨false, 0, ([] : List J0), ([] : List YJ)⟩ : Vf), (⟨false, 0, (⟨#[]⟩ : ByteArray), (⟨#[]⟩ : ByteArray), ([] : List YJ)⟩ : YB), (⟨false, 0, 0, ([] : List Jt), ([] : List ZX), ([] : List J1), ([] : List J2), ([] : List YJ)⟩ : Xw)⟩ : Zf)] : List Zf)⟩ : Zw)
theorem Zfr  : Ref (K.VW) (M.VW) := by
  unfold K.VW M.VW
  repeat' (first | with_reducible exact ZH | with_reducible exact ZK | with_reducible refine ZL ?_ (fun _ => ?_) | with_reducible refine Xi ?_ | with_reducible refine Xj ?_ | with_reducible refine ZM ?_ ?_ | with_reducible refine ZN (fun _ => ?_) (fun _ => ?_) | with_reducible refine ZI (fun _ => ?_))
noncomputable def K.Vt (a0 : Int) : Option Bool :=
  some (((decide (65 ≤ a0)) && (decide (a0 ≤ 90))) || ((decide (97 ≤ a0)) && (decide (a0 ≤ 122))))
theorem Zax (a0 : Int) : Ref (K.Vt a0) (M.Vt a0) := by
  unfold K.Vt M.Vt
  repeat' (first | with_reducible exact ZH | with_reducible exact ZK | with_reducible refine ZL ?_ (fun _ => ?_) | with_reducible refine Xi ?_ | with_reducible refine Xj ?_ | with_reducible refine ZM ?_ ?_ | with_reducible refine ZN (fun _ => ?_) (fun _ => ?_) | with_reducible refine ZI (fun _ => ?_))
noncomputable def K.WI (a0 : Int) : Option Bool :=
  some ((decide (48 ≤ a0)) && (decide (a0 ≤ 57)))
theorem Zfs (a0 : Int) : Ref (K.WI a0) (M.WI a0) := by
  unfold K.WI M.WI
  repeat' (first | with_reducible exact ZH | with_reducible exact ZK | with_reducible refine ZL ?_ (fun _ => ?_) | with_reducible refine Xi ?_ | with_reducible refine Xj ?_ | with_reducible refine ZM ?_ ?_ | with_reducible refine ZN (fun _ => ?_) (fun _ => ?_) | with_reducible refine ZI (fun _ => ?_))
noncomputable def K.V6 (a0 : ByteArray) (p2 : Int) : Option (Int ⊕ Unit) :=
  bif decide (p2 < (a0.size : Int)) then (gd [decide (0 ≤ p2), decide (p2 < (a0.size : Int))] ((K.Vt (byteAt a0 p2)).bind fun r4 => (gc (!r4) (K.WI (byteAt a0 p2))).bind fun r5 => bif (((((!r4) && (!r5)) && ((byteAt a0 p2) != 45)) && ((byteAt a0 p2) != 95)) && ((byteAt a0 p2) != 47)) && ((byteAt a0 p2) != 46) then none else (some (.inl (wr .i64 (p2 + 1)))))) else (some (.inr ()))
theorem Zd6 (a0 : ByteArray) (p2 : Int) : Ref (K.V6 a0 p2) (M.V6 a0 p2) := by
  unfold K.V6 M.V6
  repeat' (first | with_reducible exact ZH | with_reducible exact ZK | with_reducible exact Zax .. | with_reducible exact Zfs .. | with_reducible refine ZL ?_ (fun _ => ?_) | with_reducible refine Xi ?_ | with_reducible refine Xj ?_ | with_reducible refine ZM ?_ ?_ | with_reducible refine ZN (fun _ => ?_) (fun _ => ?_) | with_reducible refine ZI (fun _ => ?_))
noncomputable def K.Wu (a0 : ByteArray) : Option Bool :=
  (gc (!((decide ((a0.size : Int) < 1)) || (decide ((a0.size : Int) > 15)))) (K.Vt (byteAt a0 0))).bind fun r1 => gd [guardB (!((decide ((a0.size : Int) < 1)) || (decide ((a0.size : Int) > 15)))) (decide (0 ≤ 0)), guardB (!((decide ((a0.size : Int) < 1)) || (decide ((a0.size : Int) > 15)))) (decide (0 < (a0.size : Int)))] (bif ((decide ((a0.size : Int) < 1)) || (decide ((a0.size : Int) > 15))) || (!r1) then none else ((loopN 1000 (K.V6 a0) 1).bind fun y6 => some true))
theorem ZcP (a0 : ByteArray) : Ref (K.Wu a0) (M.Wu a0) := by
  unfold K.Wu M.Wu
  repeat' (first | with_reducible exact ZH | with_reducible exact ZK | with_reducible exact Zax .. | with_reducible exact Zd6 .. | with_reducible refine ZL ?_ (fun _ => ?_) | with_reducible refine Xi ?_ | with_reducible refine Xj ?_ | with_reducible refine ZM ?_ ?_ | with_reducible refine ZN (fun _ => ?_) (fun _ => ?_) | with_reducible refine ZI (fun _ => ?_))
noncomputable def K.Qv (a0 : Int) (a1 : Int) (a2 : Int) : Option Bool :=
  some ((decide (a1 ≤ a0)) && (decide (a0 ≤ a2)))
theorem Ro (a0 : Int) (a1 : Int) (a2 : Int) : Ref (K.Qv a0 a1 a2) (M.Qv a0 a1 a2) := by
  unfold K.Qv M.Qv
  repeat' (first | with_reducible exact ZH | with_reducible exact ZK | with_reducible refine ZL ?_ (fun _ => ?_) | with_reducible refine Xi ?_ | with_reducible refine Xj ?_ | with_reducible refine ZM ?_ ?_ | with_reducible refine ZN (fun _ => ?_) (fun _ => ?_) | with_reducible refine ZI (fun _ => ?_))
noncomputable def K.QV (a0 : Zl) (b0 : ByteArray) : Option Bool :=
  some (strEq a0.Xl b0)
theorem Zaa (a0 : Zl) (b0 : ByteArray) : Ref (K.QV a0 b0) (M.QV a0 b0) := by
  unfold K.QV M.QV
  repeat' (first | with_reducible exact ZH | with_reducible exact ZK | with_reducible refine ZL ?_ (fun _ => ?_) | with_reducible refine Xi ?_ | with_reducible refine Xj ?_ | with_reducible refine ZM ?_ ?_ | with_reducible refine ZN (fun _ => ?_) (fun _ => ?_) | with_reducible refine ZI (fun _ => ?_))
noncomputable def K.ZP (a0 : List Zl) (a1c0 : ByteArray) (p1 : Int) : Option (Int ⊕ (Unit ⊕ Int)) :=
  bif decide (p1 < (a0.length : Int)) then ((K.QV (a0.getD p1.toNat default) a1c0).bind fun r3 => gd [decide (0 ≤ p1), decide (p1 < (a0.length : Int))] (bif r3 then (some (.inr (.inr p1))) else (some (.inl (wr .i64 (p1 + 1)))))) else (some (.inr (.inl ())))
theorem Jx (a0 : List Zl) (a1c0 : ByteArray) (p1 : Int) : Ref (K.ZP a0 a1c0 p1) (M.ZP a0 a1c0 p1) := by
  unfold K.ZP M.ZP
  repeat' (first | with_reducible exact ZH | with_reducible exact ZK | with_reducible exact Zaa .. | with_reducible refine ZL ?_ (fun _ => ?_) | with_reducible refine Xi ?_ | with_reducible refine Xj ?_ | with_reducible refine ZM ?_ ?_ | with_reducible refine ZN (fun _ => ?_) (fun _ => ?_) | with_reducible refine ZI (fun _ => ?_))
noncomputable def K.ZF (a0 : List Zl) (a1c0 : ByteArray) : Option Int :=
  (loopN 1000 (K.ZP a0 a1c0) 0).bind fun y4 => Sum.elim (fun _ => some (-1)) (fun y6 => some y6) y4
theorem JS (a0 : List Zl) (a1c0 : ByteArray) : Ref (K.ZF a0 a1c0) (M.ZF a0 a1c0) := by
  unfold K.ZF M.ZF
  repeat' (first | with_reducible exact ZH | with_reducible exact ZK | with_reducible exact Jx .. | with_reducible refine ZL ?_ (fun _ => ?_) | with_reducible refine Xi ?_ | with_reducible refine Xj ?_ | with_reducible refine ZM ?_ ?_ | with_reducible refine ZN (fun _ => ?_) (fun _ => ?_) | with_reducible refine ZI (fun _ => ?_))
noncomputable def K.JE (a0 : Zf) (a1 : ByteArray) : Option Int :=
  (K.ZF a0.Zc a1).bind fun r1 => some r1
theorem ZbF (a0 : Zf) (a1 : ByteArray) : Ref (K.JE a0 a1) (M.JE a0 a1) := by
  unfold K.JE M.JE
  repeat' (first | with_reducible exact ZH | with_reducible exact ZK | with_reducible exact JS .. | with_reducible refine ZL ?_ (fun _ => ?_) | with_reducible refine Xi ?_ | with_reducible refine Xj ?_ | with_reducible refine ZM ?_ ?_ | with_reducible refine ZN (fun _ => ?_) (fun _ => ?_) | with_reducible refine ZI (fun _ => ?_))
noncomputable def K.Y2 (a0 : Zl) : Option Bool :=
  (K.Qv a0.ZR 0 32).bind fun r1 => (gc (!(!r1)) (K.Qv a0.XB 0 4094)).bind fun r2 => (gc (!((!r1) || (!r2))) (K.Qv a0.Rl 0 2)).bind fun r3 => bif ((!r1) || (!r2)) || (!r3) then none else (bif (a0.ZR == 0) && (((((((a0.Zs != 0) || (a0.XB != 0)) || (a0.Rl != 0)) || a0.Yf) || a0.Ym) || (!strEq a0.VG (⟨#[]⟩ : ByteArray))) || (!strEq a0.Y7 (⟨#[]⟩ : ByteArray))) then none else (bif (a0.ZR != 0) && (a0.Zs == 0) then none else (bif a0.Yf then none else (some ((a0.VQ == 0) && (a0.Zbz == 0))))))
theorem Ku (a0 : Zl) : Ref (K.Y2 a0) (M.Y2 a0) := by
  unfold K.Y2 M.Y2
  repeat' (first | with_reducible exact ZH | with_reducible exact ZK | with_reducible exact Ro .. | with_reducible refine ZL ?_ (fun _ => ?_) | with_reducible refine Xi ?_ | with_reducible refine Xj ?_ | with_reducible refine ZM ?_ ?_ | with_reducible refine ZN (fun _ => ?_) (fun _ => ?_) | with_reducible refine ZI (fun _ => ?_))
noncomputable def K.VX (a0 : Int) : Option Int :=
  some (if (if 32 < a0 then 32 else a0) > 0 then (if 32 < a0 then 32 else a0) else 0)
theorem ZbG (a0 : Int) : Ref (K.VX a0) (M.VX a0) := by
  unfold K.VX M.VX
  repeat' (first | with_reducible exact ZH | with_reducible exact ZK | with_reducible refine ZL ?_ (fun _ => ?_) | with_reducible refine Xi ?_ | with_reducible refine Xj ?_ | with_reducible refine ZM ?_ ?_ | with_reducible refine ZN (fun _ => ?_) (fun _ => ?_) | with_reducible refine ZI (fun _ => ?_))
noncomputable def K.Wv (a0 : Int) : Option Int :=
  (K.VX a0).bind fun r1 => gd [decide (0 ≤ (wr .i64 (32 - r1)))] (some (wr .u32 (4294967295 * 2 ^ min (wr .i64 (32 - r1)).toNat 32)))
theorem ZcQ (a0 : Int) : Ref (K.Wv a0) (M.Wv a0) := by
  unfold K.Wv M.Wv
  repeat' (first | with_reducible exact ZH | with_reducible exact ZK | with_reducible exact ZbG .. | with_reducible refine ZL ?_ (fun _ => ?_) | with_reducible refine Xi ?_ | with_reducible refine Xj ?_ | with_reducible refine ZM ?_ ?_ | with_reducible refine ZN (fun _ => ?_) (fun _ => ?_) | with_reducible refine ZI (fun _ => ?_))
noncomputable def K.Jh (a0 : Int) (a1 : Int) : Option ZX :=
  (K.Wv a1).bind fun r1 => (K.VX a1).bind fun r2 => some (⟨bitD .and .u32 a0 r1, r2⟩ : ZX)
theorem Rp (a0 : Int) (a1 : Int) : Ref (K.Jh a0 a1) (M.Jh a0 a1) := by
  unfold K.Jh M.Jh
  repeat' (first | with_reducible exact ZH | with_reducible exact ZK | with_reducible exact ZbG .. | with_reducible exact ZcQ .. | with_reducible refine ZL ?_ (fun _ => ?_) | with_reducible refine Xi ?_ | with_reducible refine Xj ?_ | with_reducible refine ZM ?_ ?_ | with_reducible refine ZN (fun _ => ?_) (fun _ => ?_) | with_reducible refine ZI (fun _ => ?_))
noncomputable def K.Vm (a0 : ZX) (a1 : Int) : Option Bool :=
  (K.Wv a0.ZR).bind fun r1 => some ((bitD .and .u32 a1 r1) == a0.Zs)
theorem ZcS (a0 : ZX) (a1 : Int) : Ref (K.Vm a0 a1) (M.Vm a0 a1) := by
  unfold K.Vm M.Vm
  repeat' (first | with_reducible exact ZH | with_reducible exact ZK | with_reducible exact ZcQ .. | with_reducible refine ZL ?_ (fun _ => ?_) | with_reducible refine Xi ?_ | with_reducible refine Xj ?_ | with_reducible refine ZM ?_ ?_ | with_reducible refine ZN (fun _ => ?_) (fun _ => ?_) | with_reducible refine ZI (fun _ => ?_))
noncomputable def K.Vu (a0 : ZX) (a1 : ZX) : Option Bool :=
  (gc (decide (a0.ZR ≤ a1.ZR)) (K.Vm a0 a1.Zs)).bind fun r1 => some ((decide (a0.ZR ≤ a1.ZR)) && r1)
theorem Zeo (a0 : ZX) (a1 : ZX) : Ref (K.Vu a0 a1) (M.Vu a0 a1) := by
  unfold K.Vu M.Vu
  repeat' (first | with_reducible exact ZH | with_reducible exact ZK | with_reducible exact ZcS .. | with_reducible refine ZL ?_ (fun _ => ?_) | with_reducible refine Xi ?_ | with_reducible refine Xj ?_ | with_reducible refine ZM ?_ ?_ | with_reducible refine ZN (fun _ => ?_) (fun _ => ?_) | with_reducible refine ZI (fun _ => ?_))
noncomputable def K.Vn (a0 : ZX) (a1 : ZX) : Option Bool :=
  (K.Vu a0 a1).bind fun r1 => (gc (!r1) (K.Vu a1 a0)).bind fun r2 => some (r1 || r2)
theorem ZcT (a0 : ZX) (a1 : ZX) : Ref (K.Vn a0 a1) (M.Vn a0 a1) := by
  unfold K.Vn M.Vn
  repeat' (first | with_reducible exact ZH | with_reducible exact ZK | with_reducible exact Zeo .. | with_reducible refine ZL ?_ (fun _ => ?_) | with_reducible refine Xi ?_ | with_reducible refine Xj ?_ | with_reducible refine ZM ?_ ?_ | with_reducible refine ZN (fun _ => ?_) (fun _ => ?_) | with_reducible refine ZI (fun _ => ?_))
noncomputable def K.Yx (a0 : Zf) (p1 : Int) (p6 : Int) : Option (Int ⊕ Unit) :=
  bif decide (p6 < ((p1.toNat - 0 : Nat) : Int)) then (gd [decide (0 ≤ p6), decide (p6 < (((a0.Zc.drop 0).take (p1.toNat - 0)).length : Int))] ((gc ((((a0.Zc.getD p1.toNat default).ZR) != 0) && (((((a0.Zc.drop 0).take (p1.toNat - 0)).getD p6.toNat default).ZR) != 0)) (K.Jh ((a0.Zc.getD p1.toNat default).Zs) ((a0.Zc.getD p1.toNat default).ZR))).bind fun r8 => (gc ((((a0.Zc.getD p1.toNat default).ZR) != 0) && (((((a0.Zc.drop 0).take (p1.toNat - 0)).getD p6.toNat default).ZR) != 0)) (K.Jh ((((a0.Zc.drop 0).take (p1.toNat - 0)).getD p6.toNat default).Zs) ((((a0.Zc.drop 0).take (p1.toNat - 0)).getD p6.toNat default).ZR))).bind fun r9 => (gc ((((a0.Zc.getD p1.toNat default).ZR) != 0) && (((((a0.Zc.drop 0).take (p1.toNat - 0)).getD p6.toNat default).ZR) != 0)) (K.Vn r8 r9)).bind fun r10 => bif ((((a0.Zc.getD p1.toNat default).ZR) != 0) && (((((a0.Zc.drop 0).take (p1.toNat - 0)).getD p6.toNat default).ZR) != 0)) && r10 then none else (some (.inl (wr .i64 (p6 + 1)))))) else (some (.inr ()))
theorem Gn (a0 : Zf) (p1 : Int) (p6 : Int) : Ref (K.Yx a0 p1 p6) (M.Yx a0 p1 p6) := by
  unfold K.Yx M.Yx
  repeat' (first | with_reducible exact ZH | with_reducible exact ZK | with_reducible exact Rp .. | with_reducible exact ZcT .. | with_reducible refine ZL ?_ (fun _ => ?_) | with_reducible refine Xi ?_ | with_reducible refine Xj ?_ | with_reducible refine ZM ?_ ?_ | with_reducible refine ZN (fun _ => ?_) (fun _ => ?_) | with_reducible refine ZI (fun _ => ?_))
noncomputable def K.Yy (a0 : Zf) (p1 : Int) : Option (Int ⊕ Unit) :=
  bif decide (p1 < (a0.Zc.length : Int)) then (gd [decide (0 ≤ p1), decide (p1 < (a0.Zc.length : Int))] ((K.Wu ((a0.Zc.getD p1.toNat default).Xl)).bind fun r3 => bif !r3 then none else ((K.JE a0 ((a0.Zc.getD p1.toNat default).Xl)).bind fun r4 => bif decide (r4 < p1) then none else ((K.Y2 (a0.Zc.getD p1.toNat default)).bind fun r5 => bif !r5 then none else (gd [decide (0 ≤ p1), decide (p1 ≤ (a0.Zc.length : Int))] ((loopN 1000 (K.Yx a0 p1) 0).bind fun y11 => some (.inl (wr .i64 (p1 + 1))))))))) else (some (.inr ()))
theorem Gp (a0 : Zf) (p1 : Int) : Ref (K.Yy a0 p1) (M.Yy a0 p1) := by
  unfold K.Yy M.Yy
  repeat' (first | with_reducible exact ZH | with_reducible exact ZK | with_reducible exact ZcP .. | with_reducible exact ZbF .. | with_reducible exact Ku .. | with_reducible exact Gn .. | with_reducible refine ZL ?_ (fun _ => ?_) | with_reducible refine Xi ?_ | with_reducible refine Xj ?_ | with_reducible refine ZM ?_ ?_ | with_reducible refine ZN (fun _ => ?_) (fun _ => ?_) | with_reducible refine ZI (fun _ => ?_))
noncomputable def K.YK (a0 : Zf) : Option Int :=
  bif decide ((a0.Zc.length : Int) > 8) then none else ((loopN 1000 (K.Yy a0) 0).bind fun y12 => some 0)
theorem G9 (a0 : Zf) : Ref (K.YK a0) (M.YK a0) := by
  unfold K.YK M.YK
  repeat' (first | with_reducible exact ZH | with_reducible exact ZK | with_reducible exact Gp .. | with_reducible refine ZL ?_ (fun _ => ?_) | with_reducible refine Xi ?_ | with_reducible refine Xj ?_ | with_reducible refine ZM ?_ ?_ | with_reducible refine ZN (fun _ => ?_) (fun _ => ?_) | with_reducible refine ZI (fun _ => ?_))
noncomputable def K.Yp (a0 : Zf) (p1 : Int) : Option (Int ⊕ Unit) :=
  bif decide (p1 < (a0.Yt.length : Int)) then none else (some (.inr ()))
theorem Gf (a0 : Zf) (p1 : Int) : Ref (K.Yp a0 p1) (M.Yp a0 p1) := by
  unfold K.Yp M.Yp
  repeat' (first | with_reducible exact ZH | with_reducible exact ZK | with_reducible refine ZL ?_ (fun _ => ?_) | with_reducible refine Xi ?_ | with_reducible refine Xj ?_ | with_reducible refine ZM ?_ ?_ | with_reducible refine ZN (fun _ => ?_) (fun _ => ?_) | with_reducible refine ZI (fun _ => ?_))
noncomputable def K.Yu (a0 : Zf) : Option Int :=
  bif decide ((a0.Yt.length : Int) > 8) then none else ((loopN 1000 (K.Yp a0) 0).bind fun y3 => some 0)
theorem GR (a0 : Zf) : Ref (K.Yu a0) (M.Yu a0) := by
  unfold K.Yu M.Yu
  repeat' (first | with_reducible exact ZH | with_reducible exact ZK | with_reducible exact Gf .. | with_reducible refine ZL ?_ (fun _ => ?_) | with_reducible refine Xi ?_ | with_reducible refine Xj ?_ | with_reducible refine ZM ?_ ?_ | with_reducible refine ZN (fun _ => ?_) (fun _ => ?_) | with_reducible refine ZI (fun _ => ?_))
noncomputable def K.YM (a0 : Zf) (p1 : Int) : Option (Int ⊕ Unit) :=
  bif decide (p1 < (a0.XC.length : Int)) then none else (some (.inr ()))
theorem Gz (a0 : Zf) (p1 : Int) : Ref (K.YM a0 p1) (M.YM a0 p1) := by
  unfold K.YM M.YM
  repeat' (first | with_reducible exact ZH | with_reducible exact ZK | with_reducible refine ZL ?_ (fun _ => ?_) | with_reducible refine Xi ?_ | with_reducible refine Xj ?_ | with_reducible refine ZM ?_ ?_ | with_reducible refine ZN (fun _ => ?_) (fun _ => ?_) | with_reducible refine ZI (fun _ => ?_))
noncomputable def K.Y3 (a0 : Zf) : Option Int :=
  bif decide ((a0.XC.length : Int) > 8) then none else ((loopN 1000 (K.YM a0) 0).bind fun y3 => some 0)
theorem Kv (a0 : Zf) : Ref (K.Y3 a0) (M.Y3 a0) := by
  unfold K.Y3 M.Y3
  repeat' (first | with_reducible exact ZH | with_reducible exact ZK | with_reducible exact Gz .. | with_reducible refine ZL ?_ (fun _ => ?_) | with_reducible refine Xi ?_ | with_reducible refine Xj ?_ | with_reducible refine ZM ?_ ?_ | with_reducible refine ZN (fun _ => ?_) (fun _ => ?_) | with_reducible refine ZI (fun _ => ?_))
noncomputable def K.Q3 (a0 : Zf) (p1 : Int) : Option (Int ⊕ Unit) :=
  bif decide (p1 < (a0.YC.length : Int)) then none else (some (.inr ()))
theorem Rq (a0 : Zf) (p1 : Int) : Ref (K.Q3 a0 p1) (M.Q3 a0 p1) := by
  unfold K.Q3 M.Q3
  repeat' (first | with_reducible exact ZH | with_reducible exact ZK | with_reducible refine ZL ?_ (fun _ => ?_) | with_reducible refine Xi ?_ | with_reducible refine Xj ?_ | with_reducible refine ZM ?_ ?_ | with_reducible refine ZN (fun _ => ?_) (fun _ => ?_) | with_reducible refine ZI (fun _ => ?_))
noncomputable def K.JF (a0 : Zf) : Option Int :=
  bif decide ((a0.YC.length : Int) > 8) then none else ((loopN 1000 (K.Q3 a0) 0).bind fun y3 => some 0)
theorem ZbH (a0 : Zf) : Ref (K.JF a0) (M.JF a0) := by
  unfold K.JF M.JF
  repeat' (first | with_reducible exact ZH | with_reducible exact ZK | with_reducible exact Rq .. | with_reducible refine ZL ?_ (fun _ => ?_) | with_reducible refine Xi ?_ | with_reducible refine Xj ?_ | with_reducible refine ZM ?_ ?_ | with_reducible refine ZN (fun _ => ?_) (fun _ => ?_) | with_reducible refine ZI (fun _ => ?_))
noncomputable def K.Jr (a0 : Zf) (p1 : Int) : Option (Int ⊕ Unit) :=
  bif decide (p1 < (a0.Xd.length : Int)) then none else (some (.inr ()))
theorem Zab (a0 : Zf) (p1 : Int) : Ref (K.Jr a0 p1) (M.Jr a0 p1) := by
  unfold K.Jr M.Jr
  repeat' (first | with_reducible exact ZH | with_reducible exact ZK | with_reducible refine ZL ?_ (fun _ => ?_) | with_reducible refine Xi ?_ | with_reducible refine Xj ?_ | with_reducible refine ZM ?_ ?_ | with_reducible refine ZN (fun _ => ?_) (fun _ => ?_) | with_reducible refine ZI (fun _ => ?_))
noncomputable def K.J7 (a0 : Zf) : Option Int :=
  bif decide ((a0.Xd.length : Int) > 8) then none else ((loopN 1000 (K.Jr a0) 0).bind fun y3 => some 0)
theorem Zcl (a0 : Zf) : Ref (K.J7 a0) (M.J7 a0) := by
  unfold K.J7 M.J7
  repeat' (first | with_reducible exact ZH | with_reducible exact ZK | with_reducible exact Zab .. | with_reducible refine ZL ?_ (fun _ => ?_) | with_reducible refine Xi ?_ | with_reducible refine Xj ?_ | with_reducible refine ZM ?_ ?_ | with_reducible refine ZN (fun _ => ?_) (fun _ => ?_) | with_reducible refine ZI (fun _ => ?_))
noncomputable def K.Ww (_a0 : Zf) (_a1 : ByteArray) : Option Int :=
  none
theorem Zgn (_a0 : Zf) (_a1 : ByteArray) : Ref (K.Ww _a0 _a1) (M.Ww _a0 _a1) := by
  unfold K.Ww M.Ww
  repeat' (first | with_reducible exact ZH | with_reducible exact ZK | with_reducible refine ZL ?_ (fun _ => ?_) | with_reducible refine Xi ?_ | with_reducible refine Xj ?_ | with_reducible refine ZM ?_ ?_ | with_reducible refine ZN (fun _ => ?_) (fun _ => ?_) | with_reducible refine ZI (fun _ => ?_))
noncomputable def K.Qa (a0 : Zf) (p1 : Int) : Option (Int ⊕ Unit) :=
  bif decide (p1 < (a0.Zc.length : Int)) then (gd [decide (0 ≤ p1), decide (p1 < (a0.Zc.length : Int))] ((gc (!strEq ((a0.Zc.getD p1.toNat default).VG) (⟨#[]⟩ : ByteArray)) (K.Ww a0 ((a0.Zc.getD p1.toNat default).VG))).bind fun r3 => (gc ((!((!strEq ((a0.Zc.getD p1.toNat default).VG) (⟨#[]⟩ : ByteArray)) && (decide (r3 < 0)))) && (!strEq ((a0.Zc.getD p1.toNat default).Y7) (⟨#[]⟩ : ByteArray))) (K.Ww a0 ((a0.Zc.getD p1.toNat default).Y7))).bind fun r4 => bif ((!strEq ((a0.Zc.getD p1.toNat default).VG) (⟨#[]⟩ : ByteArray)) && (decide (r3 < 0))) || ((!strEq ((a0.Zc.getD p1.toNat default).Y7) (⟨#[]⟩ : ByteArray)) && (decide (r4 < 0))) then none else (some (.inl (wr .i64 (p1 + 1)))))) else (some (.inr ()))
theorem Ka (a0 : Zf) (p1 : Int) : Ref (K.Qa a0 p1) (M.Qa a0 p1) := by
  unfold K.Qa M.Qa
  repeat' (first | with_reducible exact ZH | with_reducible exact ZK | with_reducible exact Zgn .. | with_reducible refine ZL ?_ (fun _ => ?_) | with_reducible refine Xi ?_ | with_reducible refine Xj ?_ | with_reducible refine ZM ?_ ?_ | with_reducible refine ZN (fun _ => ?_) (fun _ => ?_) | with_reducible refine ZI (fun _ => ?_))
noncomputable def K.Qw (a0 : Zf) : Option Int :=
  (loopN 1000 (K.Qa a0) 0).bind fun y5 => some 0
theorem Rr (a0 : Zf) : Ref (K.Qw a0) (M.Qw a0) := by
  unfold K.Qw M.Qw
  repeat' (first | with_reducible exact ZH | with_reducible exact ZK | with_reducible exact Ka .. | with_reducible refine ZL ?_ (fun _ => ?_) | with_reducible refine Xi ?_ | with_reducible refine Xj ?_ | with_reducible refine ZM ?_ ?_ | with_reducible refine ZN (fun _ => ?_) (fun _ => ?_) | with_reducible refine ZI (fun _ => ?_))
noncomputable def K.Qb (a0 : Zf) (p1 : Int) : Option (Int ⊕ Unit) :=
  bif decide (p1 < (a0.Zq.length : Int)) then none else (some (.inr ()))
theorem Kb (a0 : Zf) (p1 : Int) : Ref (K.Qb a0 p1) (M.Qb a0 p1) := by
  unfold K.Qb M.Qb
  repeat' (first | with_reducible exact ZH | with_reducible exact ZK | with_reducible refine ZL ?_ (fun _ => ?_) | with_reducible refine Xi ?_ | with_reducible refine Xj ?_ | with_reducible refine ZM ?_ ?_ | with_reducible refine ZN (fun _ => ?_) (fun _ => ?_) | with_reducible refine ZI (fun _ => ?_))
noncomputable def K.Qx (a0 : Zf) : Option Int :=
  bif decide ((a0.Zq.length : Int) > 16) then none else ((loopN 1000 (K.Qb a0) 0).bind fun y3 => some 0)
theorem Rs (a0 : Zf) : Ref (K.Qx a0) (M.Qx a0) := by
  unfold K.Qx M.Qx
  repeat' (first | with_reducible exact ZH | with_reducible exact ZK | with_reducible exact Kb .. | with_reducible refine ZL ?_ (fun _ => ?_) | with_reducible refine Xi ?_ | with_reducible refine Xj ?_ | with_reducible refine ZM ?_ ?_ | with_reducible refine ZN (fun _ => ?_) (fun _ => ?_) | with_reducible refine ZI (fun _ => ?_))
noncomputable def K.Y4 (a0 : Zf) : Option Int :=
  bif !a0.Yf.Vq then (bif ((a0.Yf.Xq != 0) || (decide ((a0.Yf.Z6.length : Int) > 0))) || (decide ((a0.Yf.Zr.length : Int) > 0)) then none else (some 0)) else none
theorem Kw (a0 : Zf) : Ref (K.Y4 a0) (M.Y4 a0) := by
  unfold K.Y4 M.Y4
  repeat' (first | with_reducible exact ZH | with_reducible exact ZK | with_reducible refine ZL ?_ (fun _ => ?_) | with_reducible refine Xi ?_ | with_reducible refine Xj ?_ | with_reducible refine ZM ?_ ?_ | with_reducible refine ZN (fun _ => ?_) (fun _ => ?_) | with_reducible refine ZI (fun _ => ?_))
noncomputable def K.X7 (a0 : Zf) : Option Int :=
  bif !a0.Ym.Vq then (bif (((a0.Ym.Xq != 0) || (!strEq a0.Ym.VG (⟨#[]⟩ : ByteArray))) || (!strEq a0.Ym.Y7 (⟨#[]⟩ : ByteArray))) || (decide ((a0.Ym.Zr.length : Int) > 0)) then none else (some 0)) else none
theorem Gg (a0 : Zf) : Ref (K.X7 a0) (M.X7 a0) := by
  unfold K.X7 M.X7
  repeat' (first | with_reducible exact ZH | with_reducible exact ZK | with_reducible refine ZL ?_ (fun _ => ?_) | with_reducible refine Xi ?_ | with_reducible refine Xj ?_ | with_reducible refine ZM ?_ ?_ | with_reducible refine ZN (fun _ => ?_) (fun _ => ?_) | with_reducible refine ZI (fun _ => ?_))
noncomputable def K.YL (a0 : Zf) : Option Int :=
  bif !a0.Xr.Vq then (bif ((((((a0.Xr.XU != 0) || (a0.Xr.XV != 0)) || (decide ((a0.Xr.Zm.length : Int) > 0))) || (decide ((a0.Xr.Z0.length : Int) > 0))) || (decide ((a0.Xr.ZC.length : Int) > 0))) || (decide ((a0.Xr.Zt.length : Int) > 0))) || (decide ((a0.Xr.Zr.length : Int) > 0)) then none else (some 0)) else none
theorem Kc (a0 : Zf) : Ref (K.YL a0) (M.YL a0) := by
  unfold K.YL M.YL
  repeat' (first | with_reducible exact ZH | with_reducible exact ZK | with_reducible refine ZL ?_ (fun _ => ?_) | with_reducible refine Xi ?_ | with_reducible refine Xj ?_ | with_reducible refine ZM ?_ ?_ | with_reducible refine ZN (fun _ => ?_) (fun _ => ?_) | with_reducible refine ZI (fun _ => ?_))
noncomputable def K.QW (a0 : Zf) : Option Int :=
  (K.Wu a0.Xl).bind fun r1 => bif !r1 then none else ((K.Qv a0.Ge 0 65535).bind fun r2 => bif !r2 then none else (gd [decide (0 ≤ 0), decide (0 < (10 : Int))] ((K.YK a0).bind fun r3 => bif r3 != 0 then none else (gd [decide (0 ≤ 1), decide (1 < (10 : Int))] ((K.Yu a0).bind fun r4 => bif r4 != 0 then none else (gd [decide (0 ≤ 2), decide (2 < (10 : Int))] ((K.Y3 a0).bind fun r5 => bif r5 != 0 then none else (gd [decide (0 ≤ 3), decide (3 < (10 : Int))] ((K.JF a0).bind fun r6 => bif r6 != 0 then none else (gd [decide (0 ≤ 4), decide (4 < (10 : Int))] ((K.J7 a0).bind fun r7 => bif r7 != 0 then none else (gd [decide (0 ≤ 5), decide (5 < (10 : Int))] ((K.Qw a0).bind fun r8 => bif r8 != 0 then none else (gd [decide (0 ≤ 6), decide (6 < (10 : Int))] ((K.Qx a0).bind fun r9 => bif r9 != 0 then none else (gd [decide (0 ≤ 7), decide (7 < (10 : Int))] ((K.Y4 a0).bind fun r10 => bif r10 != 0 then none else (gd [decide (0 ≤ 8), decide (8 < (10 : Int))] ((K.X7 a0).bind fun r11 => bif r11 != 0 then none else (gd [decide (0 ≤ 9), decide (9 < (10 : Int))] ((K.YL a0).bind fun r12 => bif r12 != 0 then none else (some 0))))))))))))))))))))))
theorem Zac (a0 : Zf) : Ref (K.QW a0) (M.QW a0) := by
  unfold K.QW M.QW
  repeat' (first | with_reducible exact ZH | with_reducible exact ZK | with_reducible exact ZcP .. | with_reducible exact Ro .. | with_reducible exact G9 .. | with_reducible exact GR .. | with_reducible exact Kv .. | with_reducible exact ZbH .. | with_reducible exact Zcl .. | with_reducible exact Rr .. | with_reducible exact Rs .. | with_reducible exact Kw .. | with_reducible exact Gg .. | with_reducible exact Kc .. | with_reducible refine ZL ?_ (fun _ => ?_) | with_reducible refine Xi ?_ | with_reducible refine Xj ?_ | with_reducible refine ZM ?_ ?_ | with_reducible refine ZN (fun _ => ?_) (fun _ => ?_) | with_reducible refine ZI (fun _ => ?_))
noncomputable def K.JG (a0 : Zl) (b0 : Int) : Option Bool :=
  some ((a0.ZR != 0) && (a0.Zs == b0))
theorem ZbI (a0 : Zl) (b0 : Int) : Ref (K.JG a0 b0) (M.JG a0 b0) := by
  unfold K.JG M.JG
  repeat' (first | with_reducible exact ZH | with_reducible exact ZK | with_reducible refine ZL ?_ (fun _ => ?_) | with_reducible refine Xi ?_ | with_reducible refine Xj ?_ | with_reducible refine ZM ?_ ?_ | with_reducible refine ZN (fun _ => ?_) (fun _ => ?_) | with_reducible refine ZI (fun _ => ?_))
noncomputable def K.ZQ (a0 : List Zl) (a1c0 : Int) (p1 : Int) : Option (Int ⊕ (Unit ⊕ Int)) :=
  bif decide (p1 < (a0.length : Int)) then ((K.JG (a0.getD p1.toNat default) a1c0).bind fun r3 => gd [decide (0 ≤ p1), decide (p1 < (a0.length : Int))] (bif r3 then (some (.inr (.inr p1))) else (some (.inl (wr .i64 (p1 + 1)))))) else (some (.inr (.inl ())))
theorem JL (a0 : List Zl) (a1c0 : Int) (p1 : Int) : Ref (K.ZQ a0 a1c0 p1) (M.ZQ a0 a1c0 p1) := by
  unfold K.ZQ M.ZQ
  repeat' (first | with_reducible exact ZH | with_reducible exact ZK | with_reducible exact ZbI .. | with_reducible refine ZL ?_ (fun _ => ?_) | with_reducible refine Xi ?_ | with_reducible refine Xj ?_ | with_reducible refine ZM ?_ ?_ | with_reducible refine ZN (fun _ => ?_) (fun _ => ?_) | with_reducible refine ZI (fun _ => ?_))
noncomputable def K.ZJ (a0 : List Zl) (a1c0 : Int) : Option Int :=
  (loopN 1000 (K.ZQ a0 a1c0) 0).bind fun y4 => Sum.elim (fun _ => some (-1)) (fun y6 => some y6) y4
theorem JV (a0 : List Zl) (a1c0 : Int) : Ref (K.ZJ a0 a1c0) (M.ZJ a0 a1c0) := by
  unfold K.ZJ M.ZJ
  repeat' (first | with_reducible exact ZH | with_reducible exact ZK | with_reducible exact JL .. | with_reducible refine ZL ?_ (fun _ => ?_) | with_reducible refine Xi ?_ | with_reducible refine Xj ?_ | with_reducible refine ZM ?_ ?_ | with_reducible refine ZN (fun _ => ?_) (fun _ => ?_) | with_reducible refine ZI (fun _ => ?_))
noncomputable def K.Vo (a0 : Zf) (a1 : Int) : Option Int :=
  (K.ZJ a0.Zc a1).bind fun r1 => some r1
theorem ZcU (a0 : Zf) (a1 : Int) : Ref (K.Vo a0 a1) (M.Vo a0 a1) := by
  unfold K.Vo M.Vo
  repeat' (first | with_reducible exact ZH | with_reducible exact ZK | with_reducible exact JV .. | with_reducible refine ZL ?_ (fun _ => ?_) | with_reducible refine Xi ?_ | with_reducible refine Xj ?_ | with_reducible refine ZM ?_ ?_ | with_reducible refine ZN (fun _ => ?_) (fun _ => ?_) | with_reducible refine ZI (fun _ => ?_))
noncomputable def K.Y5 (a0 : Zl) (b0 : Zf) : Option Bool :=
  (gc (a0.ZR != 0) (K.Vo b0 a0.Zs)).bind fun r1 => some ((a0.ZR != 0) && (decide (r1 ≥ 0)))
theorem Kx (a0 : Zl) (b0 : Zf) : Ref (K.Y5 a0 b0) (M.Y5 a0 b0) := by
  unfold K.Y5 M.Y5
  repeat' (first | with_reducible exact ZH | with_reducible exact ZK | with_reducible exact ZcU .. | with_reducible refine ZL ?_ (fun _ => ?_) | with_reducible refine Xi ?_ | with_reducible refine Xj ?_ | with_reducible refine ZM ?_ ?_ | with_reducible refine ZN (fun _ => ?_) (fun _ => ?_) | with_reducible refine ZI (fun _ => ?_))
noncomputable def K.ZG (a0 : List Zl) (a1c0 : Zf) (p1 : Int) : Option (Int ⊕ (Unit ⊕ Int)) :=
  bif decide (p1 < (a0.length : Int)) then ((K.Y5 (a0.getD p1.toNat default) a1c0).bind fun r3 => gd [decide (0 ≤ p1), decide (p1 < (a0.length : Int))] (bif r3 then (some (.inr (.inr p1))) else (some (.inl (wr .i64 (p1 + 1)))))) else (some (.inr (.inl ())))
theorem Jp (a0 : List Zl) (a1c0 : Zf) (p1 : Int) : Ref (K.ZG a0 a1c0 p1) (M.ZG a0 a1c0 p1) := by
  unfold K.ZG M.ZG
  repeat' (first | with_reducible exact ZH | with_reducible exact ZK | with_reducible exact Kx .. | with_reducible refine ZL ?_ (fun _ => ?_) | with_reducible refine Xi ?_ | with_reducible refine Xj ?_ | with_reducible refine ZM ?_ ?_ | with_reducible refine ZN (fun _ => ?_) (fun _ => ?_) | with_reducible refine ZI (fun _ => ?_))
noncomputable def K.ZB (a0 : List Zl) (a1c0 : Zf) : Option Int :=
  (loopN 1000 (K.ZG a0 a1c0) 0).bind fun y4 => Sum.elim (fun _ => some (-1)) (fun y6 => some y6) y4
theorem Jy (a0 : List Zl) (a1c0 : Zf) : Ref (K.ZB a0 a1c0) (M.ZB a0 a1c0) := by
  unfold K.ZB M.ZB
  repeat' (first | with_reducible exact ZH | with_reducible exact ZK | with_reducible exact Jp .. | with_reducible refine ZL ?_ (fun _ => ?_) | with_reducible refine Xi ?_ | with_reducible refine Xj ?_ | with_reducible refine ZM ?_ ?_ | with_reducible refine ZN (fun _ => ?_) (fun _ => ?_) | with_reducible refine ZI (fun _ => ?_))
noncomputable def K.Zz (a0 : List Zl) (a1c0 : Zf) : Option Bool :=
  (K.ZB a0 a1c0).bind fun r1 => some (decide (r1 ≥ 0))
theorem Jq (a0 : List Zl) (a1c0 : Zf) : Ref (K.Zz a0 a1c0) (M.Zz a0 a1c0) := by
  unfold K.Zz M.Zz
  repeat' (first | with_reducible exact ZH | with_reducible exact ZK | with_reducible exact Jy .. | with_reducible refine ZL ?_ (fun _ => ?_) | with_reducible refine Xi ?_ | with_reducible refine Xj ?_ | with_reducible refine ZM ?_ ?_ | with_reducible refine ZN (fun _ => ?_) (fun _ => ?_) | with_reducible refine ZI (fun _ => ?_))
noncomputable def K.Qy (a0 : Zf) (a1 : Zf) : Option Bool :=
  (K.Zz a1.Zc a0).bind fun r1 => some r1
theorem Rt (a0 : Zf) (a1 : Zf) : Ref (K.Qy a0 a1) (M.Qy a0 a1) := by
  unfold K.Qy M.Qy
  repeat' (first | with_reducible exact ZH | with_reducible exact ZK | with_reducible exact Jq .. | with_reducible refine ZL ?_ (fun _ => ?_) | with_reducible refine Xi ?_ | with_reducible refine Xj ?_ | with_reducible refine ZM ?_ ?_ | with_reducible refine ZN (fun _ => ?_) (fun _ => ?_) | with_reducible refine ZI (fun _ => ?_))
noncomputable def K.Vv (a0 : Zw) (p1 : Int) (p4 : Int) : Option (Int ⊕ Unit) :=
  bif decide (p4 < ((p1.toNat - 0 : Nat) : Int)) then (gd [decide (0 ≤ p4), decide (p4 < (((a0.Zd.drop 0).take (p1.toNat - 0)).length : Int))] ((gc (!(strEq ((((a0.Zd.drop 0).take (p1.toNat - 0)).getD p4.toNat default).Xl) ((a0.Zd.getD p1.toNat default).Xl))) (K.Qy (((a0.Zd.drop 0).take (p1.toNat - 0)).getD p4.toNat default) (a0.Zd.getD p1.toNat default))).bind fun r6 => bif (strEq ((((a0.Zd.drop 0).take (p1.toNat - 0)).getD p4.toNat default).Xl) ((a0.Zd.getD p1.toNat default).Xl)) || r6 then none else (some (.inl (wr .i64 (p4 + 1)))))) else (some (.inr ()))
theorem Zcm (a0 : Zw) (p1 : Int) (p4 : Int) : Ref (K.Vv a0 p1 p4) (M.Vv a0 p1 p4) := by
  unfold K.Vv M.Vv
  repeat' (first | with_reducible exact ZH | with_reducible exact ZK | with_reducible exact Rt .. | with_reducible refine ZL ?_ (fun _ => ?_) | with_reducible refine Xi ?_ | with_reducible refine Xj ?_ | with_reducible refine ZM ?_ ?_ | with_reducible refine ZN (fun _ => ?_) (fun _ => ?_) | with_reducible refine ZI (fun _ => ?_))
noncomputable def K.Vw (a0 : Zw) (p1 : Int) : Option (Int ⊕ Unit) :=
  bif decide (p1 < (a0.Zd.length : Int)) then (gd [decide (0 ≤ p1), decide (p1 < (a0.Zd.length : Int))] ((K.QW (a0.Zd.getD p1.toNat default)).bind fun r3 => bif r3 != 0 then none else (gd [decide (0 ≤ p1), decide (p1 ≤ (a0.Zd.length : Int))] ((loopN 1000 (K.Vv a0 p1) 0).bind fun y7 => some (.inl (wr .i64 (p1 + 1))))))) else (some (.inr ()))
theorem Zcn (a0 : Zw) (p1 : Int) : Ref (K.Vw a0 p1) (M.Vw a0 p1) := by
  unfold K.Vw M.Vw
  repeat' (first | with_reducible exact ZH | with_reducible exact ZK | with_reducible exact Zac .. | with_reducible exact Zcm .. | with_reducible refine ZL ?_ (fun _ => ?_) | with_reducible refine Xi ?_ | with_reducible refine Xj ?_ | with_reducible refine ZM ?_ ?_ | with_reducible refine ZN (fun _ => ?_) (fun _ => ?_) | with_reducible refine ZI (fun _ => ?_))
noncomputable def K.V7 (a0 : Zw) : Option Int :=
  bif decide ((a0.Zd.length : Int) > 8) then none else ((loopN 1000 (K.Vw a0) 0).bind fun y8 => some 0)
theorem Zep (a0 : Zw) : Ref (K.V7 a0) (M.V7 a0) := by
  unfold K.V7 M.V7
  repeat' (first | with_reducible exact ZH | with_reducible exact ZK | with_reducible exact Zcn .. | with_reducible refine ZL ?_ (fun _ => ?_) | with_reducible refine Xi ?_ | with_reducible refine Xj ?_ | with_reducible refine ZM ?_ ?_ | with_reducible refine ZN (fun _ => ?_) (fun _ => ?_) | with_reducible refine ZI (fun _ => ?_))
noncomputable def K.Q4 (i : Int) (p : (List Zg) × (List (Xa × Int)) × Int) (q : (List Zg) × (List (Xa × Int)) × Int) : Option (((List Zg) × (List (Xa × Int)) × Int) ⊕ ((List Zg) × (List (Xa × Int)))) :=
  gd [decide (0 ≤ q.2.2), decide (q.2.2 < (q.1.length : Int)), decide (((q.1.getD (0 + q.2.2.toNat) default).ZZ.length + 1) * 16 ≤ 140737488355328)] (some (.inl (q.1.set (0 + q.2.2.toNat) ⟨(q.1.getD (0 + q.2.2.toNat) default).Zo, (q.1.getD (0 + q.2.2.toNat) default).XB, (q.1.getD (0 + q.2.2.toNat) default).ZZ ++ [⟨i, p.2.2⟩]⟩, q.2.1, wr .i64 (p.2.2 + 1))))
theorem Zco (i : Int) (p : (List Zg) × (List (Xa × Int)) × Int) (q : (List Zg) × (List (Xa × Int)) × Int) : Ref (K.Q4 i p q) (M.Q4 i p q) := by
  unfold K.Q4 M.Q4
  repeat' (first | with_reducible exact ZH | with_reducible exact ZK | with_reducible refine ZL ?_ (fun _ => ?_) | with_reducible refine Xi ?_ | with_reducible refine Xj ?_ | with_reducible refine ZM ?_ ?_ | with_reducible refine ZN (fun _ => ?_) (fun _ => ?_) | with_reducible refine ZI (fun _ => ?_))
noncomputable def K.JH (a0 : Zw) (i : Int) (p : (List Zg) × (List (Xa × Int)) × Int) : Option (((List Zg) × (List (Xa × Int)) × Int) ⊕ ((List Zg) × (List (Xa × Int)))) :=
  bif decide (p.2.2 < (((a0.Zd.getD i.toNat default).Zc).length : Int)) then (gd [decide (0 ≤ p.2.2), decide (p.2.2 < (((a0.Zd.getD i.toNat default).Zc).length : Int))] (bif (((a0.Zd.getD i.toNat default).Zc.getD p.2.2.toNat default).ZR == 0) || ((a0.Zd.getD i.toNat default).Zc.getD p.2.2.toNat default).V0 then (some (.inl (p.1, p.2.1, wr .i64 (p.2.2 + 1)))) else ((K.Jh ((a0.Zd.getD i.toNat default).Zc.getD p.2.2.toNat default).Zs ((a0.Zd.getD i.toNat default).Zc.getD p.2.2.toNat default).ZR).bind fun r => bif !(lkM (topoKeyEq ⟨r, ((a0.Zd.getD i.toNat default).Zc.getD p.2.2.toNat default).XB⟩) p.2.1).2 then (gd [decide ((p.1.length + 1) * 48 ≤ 140737488355328)] (K.Q4 i p (p.1 ++ [⟨r, ((a0.Zd.getD i.toNat default).Zc.getD p.2.2.toNat default).XB, []⟩], p.2.1 ++ [(⟨r, ((a0.Zd.getD i.toNat default).Zc.getD p.2.2.toNat default).XB⟩, (p.1.length : Int))], (p.1.length : Int)))) else (K.Q4 i p (p.1, p.2.1, (lkM (topoKeyEq ⟨r, ((a0.Zd.getD i.toNat default).Zc.getD p.2.2.toNat default).XB⟩) p.2.1).1))))) else (some (.inr (p.1, p.2.1)))
theorem ZbJ (a0 : Zw) (i : Int) (p : (List Zg) × (List (Xa × Int)) × Int) : Ref (K.JH a0 i p) (M.JH a0 i p) := by
  unfold K.JH M.JH
  repeat' (first | with_reducible exact ZH | with_reducible exact ZK | with_reducible exact Rp .. | with_reducible exact Zco .. | with_reducible refine ZL ?_ (fun _ => ?_) | with_reducible refine Xi ?_ | with_reducible refine Xj ?_ | with_reducible refine ZM ?_ ?_ | with_reducible refine ZN (fun _ => ?_) (fun _ => ?_) | with_reducible refine ZI (fun _ => ?_))
noncomputable def K.JI (a0 : Zw) (p : (List Zg) × (List (Xa × Int)) × Int) : Option (((List Zg) × (List (Xa × Int)) × Int) ⊕ (List Zg)) :=
  bif decide (p.2.2 < (a0.Zd.length : Int)) then (gd [decide (0 ≤ p.2.2), decide (p.2.2 < (a0.Zd.length : Int))] ((loopN 1000 (K.JH a0 p.2.2) (p.1, p.2.1, 0)).bind fun y => some (.inl (y.1, y.2, wr .i64 (p.2.2 + 1))))) else (some (.inr p.1))
theorem ZbK (a0 : Zw) (p : (List Zg) × (List (Xa × Int)) × Int) : Ref (K.JI a0 p) (M.JI a0 p) := by
  unfold K.JI M.JI
  repeat' (first | with_reducible exact ZH | with_reducible exact ZK | with_reducible exact ZbJ .. | with_reducible refine ZL ?_ (fun _ => ?_) | with_reducible refine Xi ?_ | with_reducible refine Xj ?_ | with_reducible refine ZM ?_ ?_ | with_reducible refine ZN (fun _ => ?_) (fun _ => ?_) | with_reducible refine ZI (fun _ => ?_))
noncomputable def K.VI (a0 : Zw) : Option (List Zg) :=
  (loopN 1000 (K.JI a0) ([], [], 0)).bind fun y => some y
theorem Zd7 (a0 : Zw) : Ref (K.VI a0) (M.VI a0) := by
  unfold K.VI M.VI
  repeat' (first | with_reducible exact ZH | with_reducible exact ZK | with_reducible exact ZbK .. | with_reducible refine ZL ?_ (fun _ => ?_) | with_reducible refine Xi ?_ | with_reducible refine Xj ?_ | with_reducible refine ZM ?_ ?_ | with_reducible refine ZN (fun _ => ?_) (fun _ => ?_) | with_reducible refine ZI (fun _ => ?_))
noncomputable def K.YA (a0 : Int) : Option Bool :=
  some (a0 != a0)
theorem ZaR (a0 : Int) : Ref (K.YA a0) (M.YA a0) := by
  unfold K.YA M.YA
  repeat' (first | with_reducible exact ZH | with_reducible exact ZK | with_reducible refine ZL ?_ (fun _ => ?_) | with_reducible refine Xi ?_ | with_reducible refine Xj ?_ | with_reducible refine ZM ?_ ?_ | with_reducible refine ZN (fun _ => ?_) (fun _ => ?_) | with_reducible refine ZI (fun _ => ?_))
noncomputable def K.YI (a0 : Int) (a1 : Int) : Option Int :=
  (K.YA a0).bind fun r1 => (K.YA a1).bind fun r2 => bif r1 then (bif r2 then (some 0) else (some (-1))) else (bif r2 then (some 1) else (bif decide (a0 < a1) then (some (-1)) else (bif decide (a0 > a1) then (some 1) else (some 0))))
theorem Ru (a0 : Int) (a1 : Int) : Ref (K.YI a0 a1) (M.YI a0 a1) := by
  unfold K.YI M.YI
  repeat' (first | with_reducible exact ZH | with_reducible exact ZK | with_reducible exact ZaR .. | with_reducible refine ZL ?_ (fun _ => ?_) | with_reducible refine Xi ?_ | with_reducible refine Xj ?_ | with_reducible refine ZM ?_ ?_ | with_reducible refine ZN (fun _ => ?_) (fun _ => ?_) | with_reducible refine ZI (fun _ => ?_))
noncomputable def K.QJ (a0 : Int) : Option Bool :=
  some (a0 != a0)
theorem ZcV (a0 : Int) : Ref (K.QJ a0) (M.QJ a0) := by
  unfold K.QJ M.QJ
  repeat' (first | with_reducible exact ZH | with_reducible exact ZK | with_reducible refine ZL ?_ (fun _ => ?_) | with_reducible refine Xi ?_ | with_reducible refine Xj ?_ | with_reducible refine ZM ?_ ?_ | with_reducible refine ZN (fun _ => ?_) (fun _ => ?_) | with_reducible refine ZI (fun _ => ?_))
noncomputable def K.YO (a0 : Int) (a1 : Int) : Option Int :=
  (K.QJ a0).bind fun r1 => (K.QJ a1).bind fun r2 => bif r1 then (bif r2 then (some 0) else (some (-1))) else (bif r2 then (some 1) else (bif decide (a0 < a1) then (some (-1)) else (bif decide (a0 > a1) then (some 1) else (some 0))))
theorem GJ (a0 : Int) (a1 : Int) : Ref (K.YO a0 a1) (M.YO a0 a1) := by
  unfold K.YO M.YO
  repeat' (first | with_reducible exact ZH | with_reducible exact ZK | with_reducible exact ZcV .. | with_reducible refine ZL ?_ (fun _ => ?_) | with_reducible refine Xi ?_ | with_reducible refine Xj ?_ | with_reducible refine ZM ?_ ?_ | with_reducible refine ZN (fun _ => ?_) (fun _ => ?_) | with_reducible refine ZI (fun _ => ?_))
noncomputable def K.J8 (a0 : ZX) (a1 : ZX) : Option Int :=
  (K.YI a0.Zs a1.Zs).bind fun r1 => bif r1 != 0 then (some r1) else ((K.YO a0.ZR a1.ZR).bind fun r2 => some r2)
theorem Zd8 (a0 : ZX) (a1 : ZX) : Ref (K.J8 a0 a1) (M.J8 a0 a1) := by
  unfold K.J8 M.J8
  repeat' (first | with_reducible exact ZH | with_reducible exact ZK | with_reducible exact Ru .. | with_reducible exact GJ .. | with_reducible refine ZL ?_ (fun _ => ?_) | with_reducible refine Xi ?_ | with_reducible refine Xj ?_ | with_reducible refine ZM ?_ ?_ | with_reducible refine ZN (fun _ => ?_) (fun _ => ?_) | with_reducible refine ZI (fun _ => ?_))
noncomputable def K.Qo (a0 : List Int) (p1 : Int) : Option (Int ⊕ (Unit ⊕ Int)) :=
  bif decide (p1 < (a0.length : Int)) then (gd [decide (0 ≤ p1), decide (p1 < (a0.length : Int))] (bif (a0.getD p1.toNat default) != 0 then (some (.inr (.inr (a0.getD p1.toNat default)))) else (some (.inl (wr .i64 (p1 + 1)))))) else (some (.inr (.inl ())))
theorem ZcW (a0 : List Int) (p1 : Int) : Ref (K.Qo a0 p1) (M.Qo a0 p1) := by
  unfold K.Qo M.Qo
  repeat' (first | with_reducible exact ZH | with_reducible exact ZK | with_reducible refine ZL ?_ (fun _ => ?_) | with_reducible refine Xi ?_ | with_reducible refine Xj ?_ | with_reducible refine ZM ?_ ?_ | with_reducible refine ZN (fun _ => ?_) (fun _ => ?_) | with_reducible refine ZI (fun _ => ?_))
noncomputable def K.VY (a0 : List Int) : Option Int :=
  (loopN 1000 (K.Qo a0) 0).bind fun y3 => Sum.elim (fun _ => some 0) (fun y5 => some y5) y3
theorem Zft (a0 : List Int) : Ref (K.VY a0) (M.VY a0) := by
  unfold K.VY M.VY
  repeat' (first | with_reducible exact ZH | with_reducible exact ZK | with_reducible exact ZcW .. | with_reducible refine ZL ?_ (fun _ => ?_) | with_reducible refine Xi ?_ | with_reducible refine Xj ?_ | with_reducible refine ZM ?_ ?_ | with_reducible refine ZN (fun _ => ?_) (fun _ => ?_) | with_reducible refine ZI (fun _ => ?_))
noncomputable def K.JJ (a0 : Zg) (a1 : Zg) : Option Int :=
  (K.J8 a0.Zo a1.Zo).bind fun r1 => (K.YO a0.XB a1.XB).bind fun r2 => (K.VY ([r1, r2] : List Int)).bind fun r3 => some r3
theorem Zd9 (a0 : Zg) (a1 : Zg) : Ref (K.JJ a0 a1) (M.JJ a0 a1) := by
  unfold K.JJ M.JJ
  repeat' (first | with_reducible exact ZH | with_reducible exact ZK | with_reducible exact GJ .. | with_reducible exact Zd8 .. | with_reducible exact Zft .. | with_reducible refine ZL ?_ (fun _ => ?_) | with_reducible refine Xi ?_ | with_reducible refine Xj ?_ | with_reducible refine ZM ?_ ?_ | with_reducible refine ZN (fun _ => ?_) (fun _ => ?_) | with_reducible refine ZI (fun _ => ?_))
noncomputable def K.XA (a0 : List Zg) : Option (List Zg) :=
  sortK K.JJ a0
theorem VD (a0 : List Zg) : Ref (K.XA a0) (M.XA a0) := ZhZ Zd9 so_topo_Build_1
noncomputable def K.Jw (p5 : (List Int) × Int) (p7 : (List Int)) : Option (((List Int) × Int) ⊕ (List Int)) :=
  some (.inl (p7, wr .i64 (p5.2 + 1)))
theorem ZcX (p5 : (List Int) × Int) (p7 : (List Int)) : Ref (K.Jw p5 p7) (M.Jw p5 p7) := by
  unfold K.Jw M.Jw
  repeat' (first | with_reducible exact ZH | with_reducible exact ZK | with_reducible refine ZL ?_ (fun _ => ?_) | with_reducible refine Xi ?_ | with_reducible refine Xj ?_ | with_reducible refine ZM ?_ ?_ | with_reducible refine ZN (fun _ => ?_) (fun _ => ?_) | with_reducible refine ZI (fun _ => ?_))
noncomputable def K.VL (r3 : (List Zg)) (p5 : (List Int) × Int) : Option (((List Int) × Int) ⊕ (List Int)) :=
  bif decide (p5.2 < (r3.length : Int)) then (gd [decide (0 ≤ p5.2), decide (p5.2 < (r3.length : Int))] (bif decide ((((r3.getD p5.2.toNat default).ZZ).length : Int) ≥ 2) then (gd [decide ((p5.1.length + 1) * 8 ≤ 140737488355328)] (K.Jw p5 (p5.1 ++ [p5.2]))) else (K.Jw p5 p5.1))) else (some (.inr p5.1))
theorem ZcY (r3 : (List Zg)) (p5 : (List Int) × Int) : Ref (K.VL r3 p5) (M.VL r3 p5) := by
  unfold K.VL M.VL
  repeat' (first | with_reducible exact ZH | with_reducible exact ZK | with_reducible exact ZcX .. | with_reducible refine ZL ?_ (fun _ => ?_) | with_reducible refine Xi ?_ | with_reducible refine Xj ?_ | with_reducible refine ZM ?_ ?_ | with_reducible refine ZN (fun _ => ?_) (fun _ => ?_) | with_reducible refine ZI (fun _ => ?_))
noncomputable def K.WJ (a0 : Zw) : Option (Qs × Int) :=
  (K.V7 a0).bind fun r1 => bif r1 != 0 then none else ((K.VI a0).bind fun r2 => (K.XA r2).bind fun r3 => gd [decide (r3.length = r2.length)] ((loopN 1000 (K.VL r3) (([] : List Int), 0)).bind fun y8 => bif decide ((y8.length : Int) > 12) then none else (some ((⟨r3, y8⟩ : Qs), 0))))
theorem Zfu (a0 : Zw) : Ref (K.WJ a0) (M.WJ a0) := by
  unfold K.WJ M.WJ
  repeat' (first | with_reducible exact ZH | with_reducible exact ZK | with_reducible exact Zep .. | with_reducible exact Zd7 .. | with_reducible exact VD .. | with_reducible exact ZcY .. | with_reducible refine ZL ?_ (fun _ => ?_) | with_reducible refine Xi ?_ | with_reducible refine Xj ?_ | with_reducible refine ZM ?_ ?_ | with_reducible refine ZN (fun _ => ?_) (fun _ => ?_) | with_reducible refine ZI (fun _ => ?_))
noncomputable def K.XJ (a0 : List Zf) : Option (List Zf) :=
  gd [decide (0 = 0) || decide (0 < a0.length), decide ((0 + a0.length) * 448 ≤ 140737488355328)] (some a0)
theorem Ui (a0 : List Zf) : Ref (K.XJ a0) (M.XJ a0) := by
  unfold K.XJ M.XJ
  repeat' (first | with_reducible exact ZH | with_reducible exact ZK | with_reducible refine ZL ?_ (fun _ => ?_) | with_reducible refine Xi ?_ | with_reducible refine Xj ?_ | with_reducible refine ZM ?_ ?_ | with_reducible refine ZN (fun _ => ?_) (fun _ => ?_) | with_reducible refine ZI (fun _ => ?_))
noncomputable def K.Xm (a0 : List Zl) : Option (List Zl) :=
  gd [decide (0 = 0) || decide (0 < a0.length), decide ((0 + a0.length) * 112 ≤ 140737488355328)] (some a0)
theorem WL (a0 : List Zl) : Ref (K.Xm a0) (M.Xm a0) := by
  unfold K.Xm M.Xm
  repeat' (first | with_reducible exact ZH | with_reducible exact ZK | with_reducible refine ZL ?_ (fun _ => ?_) | with_reducible refine Xi ?_ | with_reducible refine Xj ?_ | with_reducible refine ZM ?_ ?_ | with_reducible refine ZN (fun _ => ?_) (fun _ => ?_) | with_reducible refine ZI (fun _ => ?_))
noncomputable def K.Xh (a0 : List Z2) : Option (List Z2) :=
  gd [decide (0 = 0) || decide (0 < a0.length), decide ((0 + a0.length) * 40 ≤ 140737488355328)] (some a0)
theorem Wy (a0 : List Z2) : Ref (K.Xh a0) (M.Xh a0) := by
  unfold K.Xh M.Xh
  repeat' (first | with_reducible exact ZH | with_reducible exact ZK | with_reducible refine ZL ?_ (fun _ => ?_) | with_reducible refine Xi ?_ | with_reducible refine Xj ?_ | with_reducible refine ZM ?_ ?_ | with_reducible refine ZN (fun _ => ?_) (fun _ => ?_) | with_reducible refine ZI (fun _ => ?_))
noncomputable def K.Xt (a0 : List X6) : Option (List X6) :=
  gd [decide (0 = 0) || decide (0 < a0.length), decide ((0 + a0.length) * 40 ≤ 140737488355328)] (some a0)
theorem WX (a0 : List X6) : Ref (K.Xt a0) (M.Xt a0) := by
  unfold K.Xt M.Xt
  repeat' (first | with_reducible exact ZH | with_reducible exact ZK | with_reducible refine ZL ?_ (fun _ => ?_) | with_reducible refine Xi ?_ | with_reducible refine Xj ?_ | with_reducible refine ZM ?_ ?_ | with_reducible refine ZN (fun _ => ?_) (fun _ => ?_) | with_reducible refine ZI (fun _ => ?_))
noncomputable def K.X0 (a0 : List WV) : Option (List WV) :=
  gd [decide (0 = 0) || decide (0 < a0.length), decide ((0 + a0.length) * 40 ≤ 140737488355328)] (some a0)
theorem UT (a0 : List WV) : Ref (K.X0 a0) (M.X0 a0) := by
  unfold K.X0 M.X0
  repeat' (first | with_reducible exact ZH | with_reducible exact ZK | with_reducible refine ZL ?_ (fun _ => ?_) | with_reducible refine Xi ?_ | with_reducible refine Xj ?_ | with_reducible refine ZM ?_ ?_ | with_reducible refine ZN (fun _ => ?_) (fun _ => ?_) | with_reducible refine ZI (fun _ => ?_))
noncomputable def K.Xe (a0 : List YR) : Option (List YR) :=
  gd [decide (0 = 0) || decide (0 < a0.length), decide ((0 + a0.length) * 64 ≤ 140737488355328)] (some a0)
theorem Wf (a0 : List YR) : Ref (K.Xe a0) (M.Xe a0) := by
  unfold K.Xe M.Xe
  repeat' (first | with_reducible exact ZH | with_reducible exact ZK | with_reducible refine ZL ?_ (fun _ => ?_) | with_reducible refine Xi ?_ | with_reducible refine Xj ?_ | with_reducible refine ZM ?_ ?_ | with_reducible refine ZN (fun _ => ?_) (fun _ => ?_) | with_reducible refine ZI (fun _ => ?_))
noncomputable def K.Xf (a0 : List YS) : Option (List YS) :=
  gd [decide (0 = 0) || decide (0 < a0.length), decide ((0 + a0.length) * 64 ≤ 140737488355328)] (some a0)
theorem Wg (a0 : List YS) : Ref (K.Xf a0) (M.Xf a0) := by
  unfold K.Xf M.Xf
  repeat' (first | with_reducible exact ZH | with_reducible exact ZK | with_reducible refine ZL ?_ (fun _ => ?_) | with_reducible refine Xi ?_ | with_reducible refine Xj ?_ | with_reducible refine ZM ?_ ?_ | with_reducible refine ZN (fun _ => ?_) (fun _ => ?_) | with_reducible refine ZI (fun _ => ?_))
noncomputable def K.Xn (a0 : List J0) : Option (List J0) :=
  gd [decide (0 = 0) || decide (0 < a0.length), decide ((0 + a0.length) * 24 ≤ 140737488355328)] (some a0)
theorem WM (a0 : List J0) : Ref (K.Xn a0) (M.Xn a0) := by
  unfold K.Xn M.Xn
  repeat' (first | with_reducible exact ZH | with_reducible exact ZK | with_reducible refine ZL ?_ (fun _ => ?_) | with_reducible refine Xi ?_ | with_reducible refine Xj ?_ | with_reducible refine ZM ?_ ?_ | with_reducible refine ZN (fun _ => ?_) (fun _ => ?_) | with_reducible refine ZI (fun _ => ?_))
noncomputable def K.Z8 (a0 : List YJ) : Option (List YJ) :=
  gd [decide (0 = 0) || decide (0 < a0.length), decide ((0 + a0.length) * 48 ≤ 140737488355328)] (some a0)
theorem Uj (a0 : List YJ) : Ref (K.Z8 a0) (M.Z8 a0) := by
  unfold K.Z8 M.Z8
  repeat' (first | with_reducible exact ZH | with_reducible exact ZK | with_reducible refine ZL ?_ (fun _ => ?_) | with_reducible refine Xi ?_ | with_reducible refine Xj ?_ | with_reducible refine ZM ?_ ?_ | with_reducible refine ZN (fun _ => ?_) (fun _ => ?_) | with_reducible refine ZI (fun _ => ?_))
noncomputable def K.Xu (a0 : List Jt) : Option (List Jt) :=
  gd [decide (0 = 0) || decide (0 < a0.length), decide ((0 + a0.length) * 48 ≤ 140737488355328)] (some a0)
theorem WY (a0 : List Jt) : Ref (K.Xu a0) (M.Xu a0) := by
  unfold K.Xu M.Xu
  repeat' (first | with_reducible exact ZH | with_reducible exact ZK | with_reducible refine ZL ?_ (fun _ => ?_) | with_reducible refine Xi ?_ | with_reducible refine Xj ?_ | with_reducible refine ZM ?_ ?_ | with_reducible refine ZN (fun _ => ?_) (fun _ => ?_) | with_reducible refine ZI (fun _ => ?_))
noncomputable def K.XK (a0 : List ZX) : Option (List ZX) :=
  gd [decide (0 = 0) || decide (0 < a0.length), decide ((0 + a0.length) * 16 ≤ 140737488355328)] (some a0)
theorem Uk (a0 : List ZX) : Ref (K.XK a0) (M.XK a0) := by
  unfold K.XK M.XK
  repeat' (first | with_reducible exact ZH | with_reducible exact ZK | with_reducible refine ZL ?_ (fun _ => ?_) | with_reducible refine Xi ?_ | with_reducible refine Xj ?_ | with_reducible refine ZM ?_ ?_ | with_reducible refine ZN (fun _ => ?_) (fun _ => ?_) | with_reducible refine ZI (fun _ => ?_))
noncomputable def K.Xo (a0 : List J1) : Option (List J1) :=
  gd [decide (0 = 0) || decide (0 < a0.length), decide ((0 + a0.length) * 24 ≤ 140737488355328)] (some a0)
theorem WN (a0 : List J1) : Ref (K.Xo a0) (M.Xo a0) := by
  unfold K.Xo M.Xo
  repeat' (first | with_reducible exact ZH | with_reducible exact ZK | with_reducible refine ZL ?_ (fun _ => ?_) | with_reducible refine Xi ?_ | with_reducible refine Xj ?_ | with_reducible refine ZM ?_ ?_ | with_reducible refine ZN (fun _ => ?_) (fun _ => ?_) | with_reducible refine ZI (fun _ => ?_))
noncomputable def K.Xp (a0 : List J2) : Option (List J2) :=
  gd [decide (0 = 0) || decide (0 < a0.length), decide ((0 + a0.length) * 40 ≤ 140737488355328)] (some a0)
theorem WO (a0 : List J2) : Ref (K.Xp a0) (M.Xp a0) := by
  unfold K.Xp M.Xp
  repeat' (first | with_reducible exact ZH | with_reducible exact ZK | with_reducible refine ZL ?_ (fun _ => ?_) | with_reducible refine Xi ?_ | with_reducible refine Xj ?_ | with_reducible refine ZM ?_ ?_ | with_reducible refine ZN (fun _ => ?_) (fun _ => ?_) | with_reducible refine ZI (fun _ => ?_))
noncomputable def K.Q5 (r2 : (List Z2)) (p3 : Int) : Option (Int ⊕ Unit) :=
  bif decide (p3 < (r2.length : Int)) then none else (some (.inr ()))
theorem Rv (r2 : (List Z2)) (p3 : Int) : Ref (K.Q5 r2 p3) (M.Q5 r2 p3) := by
  unfold K.Q5 M.Q5
  repeat' (first | with_reducible exact ZH | with_reducible exact ZK | with_reducible refine ZL ?_ (fun _ => ?_) | with_reducible refine Xi ?_ | with_reducible refine Xj ?_ | with_reducible refine ZM ?_ ?_ | with_reducible refine ZN (fun _ => ?_) (fun _ => ?_) | with_reducible refine ZI (fun _ => ?_))
noncomputable def K.Q6 (r6 : (List X6)) (p7 : Int) : Option (Int ⊕ Unit) :=
  bif decide (p7 < (r6.length : Int)) then none else (some (.inr ()))
theorem Rw (r6 : (List X6)) (p7 : Int) : Ref (K.Q6 r6 p7) (M.Q6 r6 p7) := by
  unfold K.Q6 M.Q6
  repeat' (first | with_reducible exact ZH | with_reducible exact ZK | with_reducible refine ZL ?_ (fun _ => ?_) | with_reducible refine Xi ?_ | with_reducible refine Xj ?_ | with_reducible refine ZM ?_ ?_ | with_reducible refine ZN (fun _ => ?_) (fun _ => ?_) | with_reducible refine ZI (fun _ => ?_))
noncomputable def K.Q7 (r10 : (List WV)) (p11 : Int) : Option (Int ⊕ Unit) :=
  bif decide (p11 < (r10.length : Int)) then none else (some (.inr ()))
theorem Rx (r10 : (List WV)) (p11 : Int) : Ref (K.Q7 r10 p11) (M.Q7 r10 p11) := by
  unfold K.Q7 M.Q7
  repeat' (first | with_reducible exact ZH | with_reducible exact ZK | with_reducible refine ZL ?_ (fun _ => ?_) | with_reducible refine Xi ?_ | with_reducible refine Xj ?_ | with_reducible refine ZM ?_ ?_ | with_reducible refine ZN (fun _ => ?_) (fun _ => ?_) | with_reducible refine ZI (fun _ => ?_))
noncomputable def K.JK (a0 : Zf) : Option Zf :=
  (K.Xm a0.Zc).bind fun r1 => (K.Xh a0.Yt).bind fun r2 => (loopN 1000 (K.Q5 r2) 0).bind fun y5 => (K.Xt a0.XC).bind fun r6 => (loopN 1000 (K.Q6 r6) 0).bind fun y9 => (K.X0 a0.YC).bind fun r10 => (loopN 1000 (K.Q7 r10) 0).bind fun y13 => (K.Xe a0.Xd).bind fun r14 => (K.Xf a0.Zq).bind fun r15 => (K.Xn a0.Yf.Z6).bind fun r16 => (K.Z8 a0.Yf.Zr).bind fun r17 => (K.Z8 a0.Ym.Zr).bind fun r18 => (K.Xu a0.Xr.Zm).bind fun r19 => (K.XK a0.Xr.Z0).bind fun r20 => (K.Xo a0.Xr.ZC).bind fun r21 => (K.Xp a0.Xr.Zt).bind fun r22 => (K.Z8 a0.Xr.Zr).bind fun r23 => some (⟨a0.Xl, a0.Ge, r1, r2, r6, r10, r14, r15, (⟨a0.Yf.Vq, a0.Yf.Xq, r16, r17⟩ : Vf), (⟨a0.Ym.Vq, a0.Ym.Xq, a0.Ym.VG, a0.Ym.Y7, r18⟩ : YB), (⟨a0.Xr.Vq, a0.Xr.XU, a0.Xr.XV, r19, r20, r21, r22, r23⟩ : Xw)⟩ : Zf)
theorem ZbL (a0 : Zf) : Ref (K.JK a0) (M.JK a0) := by
  unfold K.JK M.JK
  repeat' (first | with_reducible exact ZH | with_reducible exact ZK | with_reducible exact WL .. | with_reducible exact Wy .. | with_reducible exact WX .. | with_reducible exact UT .. | with_reducible exact Wf .. | with_reducible exact Wg .. | with_reducible exact WM .. | with_reducible exact Uj .. | with_reducible exact WY .. | with_reducible exact Uk .. | with_reducible exact WN .. | with_reducible exact WO .. | with_reducible exact Rv .. | with_reducible exact Rw .. | with_reducible exact Rx .. | with_reducible refine ZL ?_ (fun _ => ?_) | with_reducible refine Xi ?_ | with_reducible refine Xj ?_ | with_reducible refine ZM ?_ ?_ | with_reducible refine ZN (fun _ => ?_) (fun _ => ?_) | with_reducible refine ZI (fun _ => ?_))
noncomputable def K.QL (r1 : (List Zf)) (p2 : (List Zf) × Int) : Option (((List Zf) × Int) ⊕ (List Zf)) :=
  bif decide (p2.2 < (r1.length : Int)) then ((K.JK (p2.1.getD (0 + p2.2.toNat) default)).bind fun r4 => gd [decide (0 ≤ p2.2), decide (p2.2 < (p2.1.length : Int)), decide (0 ≤ p2.2), decide (p2.2 < (p2.1.length : Int))] (some (.inl (p2.1.set (0 + p2.2.toNat) r4, wr .i64 (p2.2 + 1))))) else (some (.inr p2.1))
theorem KR (r1 : (List Zf)) (p2 : (List Zf) × Int) : Ref (K.QL r1 p2) (M.QL r1 p2) := by
  unfold K.QL M.QL
  repeat' (first | with_reducible exact ZH | with_reducible exact ZK | with_reducible exact ZbL .. | with_reducible refine ZL ?_ (fun _ => ?_) | with_reducible refine Xi ?_ | with_reducible refine Xj ?_ | with_reducible refine ZM ?_ ?_ | with_reducible refine ZN (fun _ => ?_) (fun _ => ?_) | with_reducible refine ZI (fun _ => ?_))
noncomputable def K.Ji (a0 : Zw) : Option Zw :=
  (K.XJ a0.Zd).bind fun r1 => (loopN 1000 (K.QL r1) (r1, 0)).bind fun y5 => some (⟨y5⟩ : Zw)
theorem ZaS (a0 : Zw) : Ref (K.Ji a0) (M.Ji a0) := by
  unfold K.Ji M.Ji
  repeat' (first | with_reducible exact ZH | with_reducible exact ZK | with_reducible exact Ui .. | with_reducible exact KR .. | with_reducible refine ZL ?_ (fun _ => ?_) | with_reducible refine Xi ?_ | with_reducible refine Xj ?_ | with_reducible refine ZM ?_ ?_ | with_reducible refine ZN (fun _ => ?_) (fun _ => ?_) | with_reducible refine ZI (fun _ => ?_))
noncomputable def K.Y6 (a0 : List Int) : Option (List Int) :=
  gd [decide (0 = 0) || decide (0 < a0.length), decide ((0 + a0.length) * 8 ≤ 140737488355328)] (some a0)
theorem Ky (a0 : List Int) : Ref (K.Y6 a0) (M.Y6 a0) := by
  unfold K.Y6 M.Y6
  repeat' (first | with_reducible exact ZH | with_reducible exact ZK | with_reducible refine ZL ?_ (fun _ => ?_) | with_reducible refine Xi ?_ | with_reducible refine Xj ?_ | with_reducible refine ZM ?_ ?_ | with_reducible refine ZN (fun _ => ?_) (fun _ => ?_) | with_reducible refine ZI (fun _ => ?_))
noncomputable def K.V8 (a1 : List Int) (r1 : Qs × Int) (p2 : Int) : Option (Int ⊕ Unit) :=
  bif decide (p2 < (a1.length : Int)) then (gd [decide (0 ≤ p2), decide (p2 < (a1.length : Int))] (gd [guardB ((!((decide ((a1.getD p2.toNat default) < 0)) || (decide ((a1.getD p2.toNat default) ≥ (r1.1.QA.length : Int))))) && (decide (p2 > 0))) (decide (0 ≤ (wr .i64 (p2 - 1)))), guardB ((!((decide ((a1.getD p2.toNat default) < 0)) || (decide ((a1.getD p2.toNat default) ≥ (r1.1.QA.length : Int))))) && (decide (p2 > 0))) (decide ((wr .i64 (p2 - 1)) < (a1.length : Int)))] (bif ((decide ((a1.getD p2.toNat default) < 0)) || (decide ((a1.getD p2.toNat default) ≥ (r1.1.QA.length : Int)))) || ((decide (p2 > 0)) && (decide ((a1.getD p2.toNat default) ≤ (a1.getD (wr .i64 (p2 - 1)).toNat default)))) then none else (some (.inl (wr .i64 (p2 + 1))))))) else (some (.inr ()))
theorem Zea (a1 : List Int) (r1 : Qs × Int) (p2 : Int) : Ref (K.V8 a1 r1 p2) (M.V8 a1 r1 p2) := by
  unfold K.V8 M.V8
  repeat' (first | with_reducible exact ZH | with_reducible exact ZK | with_reducible refine ZL ?_ (fun _ => ?_) | with_reducible refine Xi ?_ | with_reducible refine Xj ?_ | with_reducible refine ZM ?_ ?_ | with_reducible refine ZN (fun _ => ?_) (fun _ => ?_) | with_reducible refine ZI (fun _ => ?_))
noncomputable def K.Wx (a0 : Zw) (a1 : List Int) : Option (X3 × Int) :=
  (K.WJ a0).bind fun r1 => bif r1.2 != 0 then none else (bif decide ((a1.length : Int) > 2) then none else ((loopN 1000 (K.V8 a1 r1) 0).bind fun y4 => (K.Ji a0).bind fun r5 => (K.Y6 a1).bind fun r6 => some ((⟨r5, r1.1, r6⟩ : X3), 0)))
theorem Zgo (a0 : Zw) (a1 : List Int) : Ref (K.Wx a0 a1) (M.Wx a0 a1) := by
  unfold K.Wx M.Wx
  repeat' (first | with_reducible exact ZH | with_reducible exact ZK | with_reducible exact Zfu .. | with_reducible exact ZaS .. | with_reducible exact Ky .. | with_reducible exact Zea .. | with_reducible refine ZL ?_ (fun _ => ?_) | with_reducible refine Xi ?_ | with_reducible refine Xj ?_ | with_reducible refine ZM ?_ ?_ | with_reducible refine ZN (fun _ => ?_) (fun _ => ?_) | with_reducible refine ZI (fun _ => ?_))
noncomputable def K.WK  : Option Bool :=
  (K.VW).bind fun r1 => (K.Wx r1 ([] : List Int)).bind fun r2 => (K.VW).bind fun r3 => (K.Wx r3 ([0] : List Int)).bind fun r4 => (gc ((((r2.2 == 0) && (r4.2 == 0)) && ((r2.1.XW.Z1.length : Int) == 2)) && ((r2.1.XW.QA.length : Int) == 1)) (K.Vl r2.1 0 0)).bind fun r5 => (gc (((((r2.2 == 0) && (r4.2 == 0)) && ((r2.1.XW.Z1.length : Int) == 2)) && ((r2.1.XW.QA.length : Int) == 1)) && r5) (K.Vl r4.1 0 0)).bind fun r6 => (gc ((((((r2.2 == 0) && (r4.2 == 0)) && ((r2.1.XW.Z1.length : Int) == 2)) && ((r2.1.XW.QA.length : Int) == 1)) && r5) && (!r6)) (K.Vl r4.1 1 1)).bind fun r7 => some (((((((r2.2 == 0) && (r4.2 == 0)) && ((r2.1.XW.Z1.length : Int) == 2)) && ((r2.1.XW.QA.length : Int) == 1)) && r5) && (!r6)) && r7)
theorem Zfv  : Ref (K.WK) (M.WK) := by
  unfold K.WK M.WK
  repeat' (first | with_reducible exact ZH | with_reducible exact ZK | with_reducible exact Zh4 .. | with_reducible exact Zfr .. | with_reducible exact Zgo .. | with_reducible refine ZL ?_ (fun _ => ?_) | with_reducible refine Xi ?_ | with_reducible refine Xj ?_ | with_reducible refine ZM ?_ ?_ | with_reducible refine ZN (fun _ => ?_) (fun _ => ?_) | with_reducible refine ZI (fun _ => ?_))
theorem Zh5 : M.WK = some true := Zfv _ (by kernel_rfl)
end Nv
