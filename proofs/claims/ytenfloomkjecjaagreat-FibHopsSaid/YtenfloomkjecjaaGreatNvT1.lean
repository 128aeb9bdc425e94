/- Total forms of the mirrors. -/
import Derived.Test.YtenfloomkjecjaaGreatNvD1
import Derived.Test.YtenfloomkjecjaaGreatNvLibB
import Derived.Test.YtenfloomkjecjaaGreatNvQ0
set_option maxRecDepth 100000
namespace Nv
open Go
def Yt (x : ZA) : Prop := (x.XB.size ≤ maxLen) ∧ (x.Ww.size ≤ maxLen) ∧ (x.Qr.size ≤ maxLen)
theorem Yt.XB {x : ZA} (h : Yt x) : x.XB.size ≤ maxLen := h.1
theorem Yt.Ww {x : ZA} (h : Yt x) : x.Ww.size ≤ maxLen := h.2.1
theorem Yt.Qr {x : ZA} (h : Yt x) : x.Qr.size ≤ maxLen := h.2.2
theorem Yt.dflt : Yt default := ⟨(Nat.zero_le _),(Nat.zero_le _),(Nat.zero_le _)⟩
def YT (x : ZW) : Prop := (x.XB.size ≤ maxLen) ∧ (x.YX.length ≤ maxLen)
theorem YT.XB {x : ZW} (h : YT x) : x.XB.size ≤ maxLen := h.1
theorem YT.YX {x : ZW} (h : YT x) : x.YX.length ≤ maxLen := h.2
theorem YT.dflt : YT default := ⟨(Nat.zero_le _),(Nat.zero_le _)⟩
def U9 (x : Zbu) : Prop := (x.VD.size ≤ maxLen)
theorem U9.VD {x : Zbu} (h : U9 x) : x.VD.size ≤ maxLen := h
theorem U9.dflt : U9 default := (Nat.zero_le _)
def JE (x : Yl) : Prop := (x.XB.size ≤ maxLen) ∧ (LL U9 x.X5)
theorem JE.XB {x : Yl} (h : JE x) : x.XB.size ≤ maxLen := h.1
theorem JE.X5 {x : Yl} (h : JE x) : LL U9 x.X5 := h.2
theorem JE.dflt : JE default := ⟨(Nat.zero_le _),⟨Nat.zero_le _,fun _ h => absurd h List.not_mem_nil⟩⟩
def U3 (x : US) : Prop := (x.XB.size ≤ maxLen) ∧ (x.YX.length ≤ maxLen)
theorem U3.XB {x : US} (h : U3 x) : x.XB.size ≤ maxLen := h.1
theorem U3.YX {x : US} (h : U3 x) : x.YX.length ≤ maxLen := h.2
theorem U3.dflt : U3 default := ⟨(Nat.zero_le _),(Nat.zero_le _)⟩
def VP (x : Qx) : Prop := (x.VD.size ≤ maxLen)
theorem VP.VD {x : Qx} (h : VP x) : x.VD.size ≤ maxLen := h
theorem VP.dflt : VP default := (Nat.zero_le _)
def VQ (x : X2) : Prop := (x.ZH.size ≤ maxLen)
theorem VQ.ZH {x : X2} (h : VQ x) : x.ZH.size ≤ maxLen := h
theorem VQ.dflt : VQ default := (Nat.zero_le _)
def VS (x : Qt) : Prop := (x.ZdN.size ≤ maxLen)
theorem VS.ZdN {x : Qt} (h : VS x) : x.ZdN.size ≤ maxLen := h
theorem VS.dflt : VS default := (Nat.zero_le _)
def JW (x : Wo) : Prop := (x.Z4.length ≤ maxLen) ∧ (LL VS x.Zu)
theorem JW.Z4 {x : Wo} (h : JW x) : x.Z4.length ≤ maxLen := h.1
theorem JW.Zu {x : Wo} (h : JW x) : LL VS x.Zu := h.2
theorem JW.dflt : JW default := ⟨(Nat.zero_le _),⟨Nat.zero_le _,fun _ h => absurd h List.not_mem_nil⟩⟩
def Yh (x : Y9) : Prop := (x.Ww.size ≤ maxLen) ∧ (x.Qr.size ≤ maxLen) ∧ (LL VS x.Zu)
theorem Yh.Ww {x : Y9} (h : Yh x) : x.Ww.size ≤ maxLen := h.1
theorem Yh.Qr {x : Y9} (h : Yh x) : x.Qr.size ≤ maxLen := h.2.1
theorem Yh.Zu {x : Y9} (h : Yh x) : LL VS x.Zu := h.2.2
theorem Yh.dflt : Yh default := ⟨(Nat.zero_le _),(Nat.zero_le _),⟨Nat.zero_le _,fun _ h => absurd h List.not_mem_nil⟩⟩
def Vw (x : Vq) : Prop := (x.Ww.size ≤ maxLen) ∧ (x.Qr.size ≤ maxLen)
theorem Vw.Ww {x : Vq} (h : Vw x) : x.Ww.size ≤ maxLen := h.1
theorem Vw.Qr {x : Vq} (h : Vw x) : x.Qr.size ≤ maxLen := h.2
theorem Vw.dflt : Vw default := ⟨(Nat.zero_le _),(Nat.zero_le _)⟩
def Xp (x : XI) : Prop := (LL Vw x.Zo) ∧ (x.ZT.length ≤ maxLen) ∧ (x.ZC.length ≤ maxLen) ∧ (x.Zv.length ≤ maxLen) ∧ (LL VS x.Zu)
theorem Xp.Zo {x : XI} (h : Xp x) : LL Vw x.Zo := h.1
theorem Xp.ZT {x : XI} (h : Xp x) : x.ZT.length ≤ maxLen := h.2.1
theorem Xp.ZC {x : XI} (h : Xp x) : x.ZC.length ≤ maxLen := h.2.2.1
theorem Xp.Zv {x : XI} (h : Xp x) : x.Zv.length ≤ maxLen := h.2.2.2.1
theorem Xp.Zu {x : XI} (h : Xp x) : LL VS x.Zu := h.2.2.2.2
theorem Xp.dflt : Xp default := ⟨⟨Nat.zero_le _,fun _ h => absurd h List.not_mem_nil⟩,(Nat.zero_le _),(Nat.zero_le _),(Nat.zero_le _),⟨Nat.zero_le _,fun _ h => absurd h List.not_mem_nil⟩⟩
def Zr (x : Zh) : Prop := (x.XB.size ≤ maxLen) ∧ (LL Yt x.Zc) ∧ (LL YT x.YM) ∧ (LL JE x.XJ) ∧ (LL U3 x.YW) ∧ (LL VP x.Xc) ∧ (LL VQ x.Zp) ∧ (JW x.Yw) ∧ (Yh x.YC) ∧ (Xp x.Xv)
theorem Zr.XB {x : Zh} (h : Zr x) : x.XB.size ≤ maxLen := h.1
theorem Zr.Zc {x : Zh} (h : Zr x) : LL Yt x.Zc := h.2.1
theorem Zr.YM {x : Zh} (h : Zr x) : LL YT x.YM := h.2.2.1
theorem Zr.XJ {x : Zh} (h : Zr x) : LL JE x.XJ := h.2.2.2.1
theorem Zr.YW {x : Zh} (h : Zr x) : LL U3 x.YW := h.2.2.2.2.1
theorem Zr.Xc {x : Zh} (h : Zr x) : LL VP x.Xc := h.2.2.2.2.2.1
theorem Zr.Zp {x : Zh} (h : Zr x) : LL VQ x.Zp := h.2.2.2.2.2.2.1
theorem Zr.Yw {x : Zh} (h : Zr x) : JW x.Yw := h.2.2.2.2.2.2.2.1
theorem Zr.YC {x : Zh} (h : Zr x) : Yh x.YC := h.2.2.2.2.2.2.2.2.1
theorem Zr.Xv {x : Zh} (h : Zr x) : Xp x.Xv := h.2.2.2.2.2.2.2.2.2
theorem Zr.dflt : Zr default := ⟨(Nat.zero_le _),⟨Nat.zero_le _,fun _ h => absurd h List.not_mem_nil⟩,⟨Nat.zero_le _,fun _ h => absurd h List.not_mem_nil⟩,⟨Nat.zero_le _,fun _ h => absurd h List.not_mem_nil⟩,⟨Nat.zero_le _,fun _ h => absurd h List.not_mem_nil⟩,⟨Nat.zero_le _,fun _ h => absurd h List.not_mem_nil⟩,⟨Nat.zero_le _,fun _ h => absurd h List.not_mem_nil⟩,JW.dflt,Yh.dflt,Xp.dflt⟩
def YP (x : ZG) : Prop := (LL Zr x.Ze)
theorem YP.Ze {x : ZG} (h : YP x) : LL Zr x.Ze := h
def QS (x : Z3) : Prop := (x.WW.length ≤ maxLen) ∧ (x.ZU.length ≤ maxLen)
theorem QS.WW {x : Z3} (h : QS x) : x.WW.length ≤ maxLen := h.1
theorem QS.ZU {x : Z3} (h : QS x) : x.ZU.length ≤ maxLen := h.2
theorem QS.dflt : QS default := ⟨(Nat.zero_le _),(Nat.zero_le _)⟩
def UP (x : Zi) : Prop := (x.ZR.length ≤ maxLen)
theorem UP.ZR {x : Zi} (h : UP x) : x.ZR.length ≤ maxLen := h
theorem UP.dflt : UP default := (Nat.zero_le _)
def Vx (x : JO) : Prop := (LL UP x.Xa) ∧ (x.JP.length ≤ maxLen)
theorem Vx.Xa {x : JO} (h : Vx x) : LL UP x.Xa := h.1
theorem Vx.JP {x : JO} (h : Vx x) : x.JP.length ≤ maxLen := h.2
def JX (x : XU) : Prop := (YP x.Zbx) ∧ (Vx x.X9) ∧ (x.Jp.length ≤ maxLen)
theorem JX.X9 {x : XU} (h : JX x) : Vx x.X9 := h.2.1
theorem JX.Jp {x : XU} (h : JX x) : x.Jp.length ≤ maxLen := h.2.2
noncomputable def S.V7 (a0 : Zh) (i1 : Nat) : Option (Unit ⊕ Bool) :=
 bif decide ((((a0.YM.getD i1 default).YX).length : Int) > 20) then (some (.inr false)) else none
theorem ZeI (a0 : Zh) (ha0 : Zr a0) (i0 : Nat) : loopM (M.V7 a0) (i0 : Int) = some (runN (S.V7 a0) (.inl ()) i0 (a0.YM.length - i0)) := by
 have hM := Zm
 have hni1 : a0.YM.length ≤ maxLen := (Zr.YM ha0).1
 refine Xo (n := a0.YM.length) (fun i1 hi1 => ?_) (fun m hm => ?_) i0
 ·unfold M.V7 S.V7
  try simp only [Int.toNat_natCast]
  refine Yq (dt (by omega)) ?_
  refine Jc (Zz (dt (by omega)) (Zz (dt (by omega)) Ye)) ?_
  refine Yj (fun hb2 => ?_) (fun hb2 => ?_)
  ·exact X3
  ·exact V6 (by omega)
 ·unfold M.V7
  try simp only [Int.toNat_natCast]
  exact Yr (decide_eq_false (by omega)) rfl
noncomputable def S.V8 (a0 : Zh) (i6 : Nat) : Option (Unit ⊕ Bool) :=
 bif decide ((((a0.XJ.getD i6 default).X5).length : Int) > 12) then (some (.inr false)) else none
theorem ZeJ (a0 : Zh) (ha0 : Zr a0) (i0 : Nat) : loopM (M.V8 a0) (i0 : Int) = some (runN (S.V8 a0) (.inl ()) i0 (a0.XJ.length - i0)) := by
 have hM := Zm
 have hni6 : a0.XJ.length ≤ maxLen := (Zr.XJ ha0).1
 refine Xo (n := a0.XJ.length) (fun i6 hi6 => ?_) (fun m hm => ?_) i0
 ·unfold M.V8 S.V8
  try simp only [Int.toNat_natCast]
  refine Yq (dt (by omega)) ?_
  refine Jc (Zz (dt (by omega)) (Zz (dt (by omega)) Ye)) ?_
  refine Yj (fun hb3 => ?_) (fun hb3 => ?_)
  ·exact X3
  ·exact V6 (by omega)
 ·unfold M.V8
  try simp only [Int.toNat_natCast]
  exact Yr (decide_eq_false (by omega)) rfl
noncomputable def S.V9 (a0 : Zh) (i11 : Nat) : Option (Unit ⊕ Bool) :=
 bif decide ((((a0.YW.getD i11 default).YX).length : Int) > 20) then (some (.inr false)) else none
theorem ZeK (a0 : Zh) (ha0 : Zr a0) (i0 : Nat) : loopM (M.V9 a0) (i0 : Int) = some (runN (S.V9 a0) (.inl ()) i0 (a0.YW.length - i0)) := by
 have hM := Zm
 have hni11 : a0.YW.length ≤ maxLen := (Zr.YW ha0).1
 refine Xo (n := a0.YW.length) (fun i11 hi11 => ?_) (fun m hm => ?_) i0
 ·unfold M.V9 S.V9
  try simp only [Int.toNat_natCast]
  refine Yq (dt (by omega)) ?_
  refine Jc (Zz (dt (by omega)) (Zz (dt (by omega)) Ye)) ?_
  refine Yj (fun hb4 => ?_) (fun hb4 => ?_)
  ·exact X3
  ·exact V6 (by omega)
 ·unfold M.V9
  try simp only [Int.toNat_natCast]
  exact Yr (decide_eq_false (by omega)) rfl
noncomputable def S.V3 (a0 : Zh) : Bool :=
 bif (((((((((((((decide ((a0.Zc.length : Int) > 12)) || (decide ((a0.YM.length : Int) > 12))) || (decide ((a0.XJ.length : Int) > 12))) || (decide ((a0.YW.length : Int) > 12))) || (decide ((a0.Xc.length : Int) > 12))) || (decide ((a0.Zp.length : Int) > 20))) || (decide ((a0.Yw.Z4.length : Int) > 8))) || (decide ((a0.Yw.Zu.length : Int) > 8))) || (decide ((a0.YC.Zu.length : Int) > 8))) || (decide ((a0.Xv.Zu.length : Int) > 8))) || (decide ((a0.Xv.Zo.length : Int) > 12))) || (decide ((a0.Xv.ZT.length : Int) > 12))) || (decide ((a0.Xv.ZC.length : Int) > 12))) || (decide ((a0.Xv.Zv.length : Int) > 12)) then false else (letS (runN (S.V7 a0) (.inl ()) 0 a0.YM.length) (fun y3 => Sum.elim (fun _ => letS (runN (S.V8 a0) (.inl ()) 0 a0.XJ.length) (fun y8 => Sum.elim (fun _ => letS (runN (S.V9 a0) (.inl ()) 0 a0.YW.length) (fun y13 => Sum.elim (fun _ => true) (fun y15 => y15) y13)) (fun y10 => y10) y8)) (fun y5 => y5) y3))
theorem Zhp (a0 : Zh) (ha0 : Zr a0) : M.V3 a0 = some (S.V3 a0) := by
 have hM := Zm
 unfold M.V3 S.V3
 refine VT (fun hb1 => ?_) (fun hb1 => ?_)
 ·rfl
 ·refine Z8 (ZeI a0 ha0 0) (fun y3 hey3 => ?_)
  refine Jr (fun _ hl => ?_) (fun y5 hly5 => ?_)
  ·refine Z8 (ZeJ a0 ha0 0) (fun y8 hey8 => ?_)
   refine Jr (fun _ hl => ?_) (fun y10 hly10 => ?_)
   ·refine Z8 (ZeK a0 ha0 0) (fun y13 hey13 => ?_)
    refine Jr (fun _ hl => ?_) (fun y15 hly15 => ?_)
    ·rfl
    ·rfl
   ·rfl
  ·rfl
noncomputable def S.QJ (a0 : ZG) (i1 : Nat) : Option (Unit ⊕ Bool) :=
 letS (S.V3 (a0.Ze.getD i1 default)) (fun r3 => bif !r3 then (some (.inr false)) else none)
theorem Zd8 (a0 : ZG) (ha0 : YP a0) (i0 : Nat) : loopM (M.QJ a0) (i0 : Int) = some (runN (S.QJ a0) (.inl ()) i0 (a0.Ze.length - i0)) := by
 have hM := Zm
 have hni1 : a0.Ze.length ≤ maxLen := (YP.Ze ha0).1
 refine Xo (n := a0.Ze.length) (fun i1 hi1 => ?_) (fun m hm => ?_) i0
 ·unfold M.QJ S.QJ
  try simp only [Int.toNat_natCast]
  refine Yq (dt (by omega)) ?_
  refine Xu (Zhp (a0.Ze.getD i1 default) (LL.getD (YP.Ze ha0) Zr.dflt i1)) (fun r3 her3 => ?_)
  refine Jc (Zz (dt (by omega)) (Zz (dt (by omega)) Ye)) ?_
  refine Yj (fun hb2 => ?_) (fun hb2 => ?_)
  ·exact X3
  ·exact V6 (by omega)
 ·unfold M.QJ
  try simp only [Int.toNat_natCast]
  exact Yr (decide_eq_false (by omega)) rfl
noncomputable def S.Vr (a0 : ZG) : Bool :=
 bif decide ((a0.Ze.length : Int) > 9) then false else (letS (runN (S.QJ a0) (.inl ()) 0 a0.Ze.length) (fun y4 => Sum.elim (fun _ => true) (fun y6 => y6) y4))
theorem Zgo (a0 : ZG) (ha0 : YP a0) : M.Vr a0 = some (S.Vr a0) := by
 have hM := Zm
 unfold M.Vr S.Vr
 refine VT (fun hb1 => ?_) (fun hb1 => ?_)
 ·rfl
 ·refine Z8 (Zd8 a0 ha0 0) (fun y4 hey4 => ?_)
  refine Jr (fun _ hl => ?_) (fun y6 hly6 => ?_)
  ·rfl
  ·rfl
noncomputable def S.Wf (a0 : Int) : Bool :=
 ((decide (a0 ≥ 97)) && (decide (a0 ≤ 122))) || ((decide (a0 ≥ 65)) && (decide (a0 ≤ 90)))
theorem Zb1 (a0 : Int)  : M.Wf a0 = some (S.Wf a0) := by
 have hM := Zm
 unfold M.Wf S.Wf
 rfl
noncomputable def S.Wx (a0 : ByteArray) (i2 : Nat) : Option (Unit ⊕ Bool) :=
 letS (S.Wf (byteAt a0 (i2 : Int))) (fun r4 => bif (((((!r4) && (!((decide ((byteAt a0 (i2 : Int)) ≥ 48)) && (decide ((byteAt a0 (i2 : Int)) ≤ 57))))) && ((byteAt a0 (i2 : Int)) != 45)) && ((byteAt a0 (i2 : Int)) != 95)) && ((byteAt a0 (i2 : Int)) != 47)) && ((byteAt a0 (i2 : Int)) != 46) then (some (.inr false)) else none)
theorem Zf1 (a0 : ByteArray) (ha0 : a0.size ≤ maxLen) (i0 : Nat) : loopM (M.Wx a0) (i0 : Int) = some (runN (S.Wx a0) (.inl ()) i0 (a0.size - i0)) := by
 have hM := Zm
 have hni2 : a0.size ≤ maxLen := ha0
 refine Xo (n := a0.size) (fun i2 hi2 => ?_) (fun m hm => ?_) i0
 ·unfold M.Wx S.Wx
  try simp only [Int.toNat_natCast]
  refine Yq (dt (by omega)) ?_
  refine Jc (Zz (dt (by omega)) (Zz (dt (by omega)) Ye)) ?_
  refine Xu (Zb1 (byteAt a0 (i2 : Int))) (fun r4 her4 => ?_)
  refine Yj (fun hb2 => ?_) (fun hb2 => ?_)
  ·exact X3
  ·exact V6 (by omega)
 ·unfold M.Wx
  try simp only [Int.toNat_natCast]
  exact Yr (decide_eq_false (by omega)) rfl
noncomputable def S.Jq (a0 : ByteArray) : Bool :=
 letS (bif (!((decide ((a0.size : Int) < 1)) || (decide ((a0.size : Int) > 15)))) then S.Wf (byteAt a0 0) else default) (fun r1 => bif ((decide ((a0.size : Int) < 1)) || (decide ((a0.size : Int) > 15))) || (!r1) then false else (letS (runN (S.Wx a0) (.inl ()) 1 (a0.size - 1)) (fun y5 => Sum.elim (fun _ => true) (fun y7 => y7) y5)))
theorem Ke (a0 : ByteArray) (ha0 : a0.size ≤ maxLen) : M.Jq a0 = some (S.Jq a0) := by
 have hM := Zm
 unfold M.Jq S.Jq
 refine Z8 (Vk fun hg => (Zb1 (byteAt a0 0))) (fun r1 her1 => ?_)
 refine Jc (Zz (X4 fun hg => (dt (by first | omega | (simp; omega) | (simp at *; omega)))) (Zz (X4 fun hg => (dt (by first | omega | (simp; omega) | (simp at *; omega)))) Ye)) ?_
 refine VT (fun hb1 => ?_) (fun hb1 => ?_)
 ·rfl
 ·refine Z8 (Zf1 a0 ha0 1) (fun y5 hey5 => ?_)
  refine Jr (fun _ hl => ?_) (fun y7 hly7 => ?_)
  ·rfl
  ·rfl
noncomputable def S.ZN (a0 : Int) (a1 : Int) (a2 : Int) : Bool :=
 (decide (a1 ≤ a0)) && (decide (a0 ≤ a2))
theorem XY (a0 : Int) (a1 : Int) (a2 : Int)  : M.ZN a0 a1 a2 = some (S.ZN a0 a1 a2) := by
 have hM := Zm
 unfold M.ZN S.ZN
 rfl
noncomputable def S.QT (a0 : Int) (a1 : Int) : ZM :=
 letS (S.JQ (if 0 > (if 32 < a1 then 32 else a1) then 0 else (if 32 < a1 then 32 else a1))) (fun r1 => (⟨bitD .and .u32 a0 r1,if 0 > (if 32 < a1 then 32 else a1) then 0 else (if 32 < a1 then 32 else a1)⟩ : ZM))
theorem KH (a0 : Int) (a1 : Int)  : M.QT a0 a1 = some (S.QT a0 a1) := by
 have hM := Zm
 unfold M.QT S.QT
 refine Z8 (Za5 (if 0 > (if 32 < a1 then 32 else a1) then 0 else (if 32 < a1 then 32 else a1))) (fun r1 her1 => ?_)
 rfl
noncomputable def S.VC (a0 : ZM) (a1 : Int) : Bool :=
 letS (S.JQ a0.ZL) (fun r1 => (bitD .and .u32 a1 r1) == a0.Zn)
theorem ZeL (a0 : ZM) (a1 : Int)  : M.VC a0 a1 = some (S.VC a0 a1) := by
 have hM := Zm
 unfold M.VC S.VC
 refine Z8 (Za5 a0.ZL) (fun r1 her1 => ?_)
 rfl
noncomputable def S.Vt (a0 : ZM) (a1 : ZM) : Bool :=
 letS (bif (decide (a0.ZL ≤ a1.ZL)) then S.VC a0 a1.Zn else default) (fun r1 => (decide (a0.ZL ≤ a1.ZL)) && r1)
theorem Zb2 (a0 : ZM) (a1 : ZM)  : M.Vt a0 a1 = some (S.Vt a0 a1) := by
 have hM := Zm
 unfold M.Vt S.Vt
 refine Z8 (Vk fun hg => (ZeL a0 a1.Zn)) (fun r1 her1 => ?_)
 rfl
noncomputable def S.QN (a0 : ZM) (a1 : ZM) : Bool :=
 letS (S.Vt a0 a1) (fun r1 => letS (bif (!r1) then S.Vt a1 a0 else default) (fun r2 => r1 || r2))
theorem Zaa (a0 : ZM) (a1 : ZM)  : M.QN a0 a1 = some (S.QN a0 a1) := by
 have hM := Zm
 unfold M.QN S.QN
 refine Z8 (Zb2 a0 a1) (fun r1 her1 => ?_)
 refine Z8 (Vk fun hg => (Zb2 a1 a0)) (fun r2 her2 => ?_)
 rfl
noncomputable def S.YY (a0 : List ZA) (i1 : Nat) (i4 : Nat) : Option (Unit ⊕ Int) :=
 bif strEq ((a0.getD i4 default).XB) ((a0.getD i1 default).XB) then (some (.inr 4)) else none
theorem Za6 (a0 : List ZA) (i1 : Nat) (ha0 : LL Yt a0) (hi1 : i1 < a0.length) (i0 : Nat) : loopM (M.YY a0 (i1 : Int)) (i0 : Int) = some (runN (S.YY a0 i1) (.inl ()) i0 (i1 - i0)) := by
 have hM := Zm
 have hni1 : a0.length ≤ maxLen := ha0.1
 have hni4 : i1 ≤ maxLen := (by omega)
 refine Xo (n := i1) (fun i4 hi4 => ?_) (fun m hm => ?_) i0
 ·unfold M.YY S.YY
  try simp only [Int.toNat_natCast]
  refine Yq (dt (by omega)) ?_
  refine Jc (Zz (dt (by omega)) (Zz (dt (by omega)) Ye)) ?_
  refine Yj (fun hb3 => ?_) (fun hb3 => ?_)
  ·exact X3
  ·exact V6 (by omega)
 ·unfold M.YY
  try simp only [Int.toNat_natCast]
  exact Yr (decide_eq_false (by omega)) rfl
noncomputable def S.YD (a0 : List ZA) (i1 : Nat) (i14 : Nat) : Option (Unit ⊕ Int) :=
 letS (bif ((((a0.getD i1 default).ZL) != 0) && (((a0.getD i14 default).ZL) != 0)) then S.QT ((a0.getD i1 default).Zn) ((a0.getD i1 default).ZL) else default) (fun r16 => letS (bif ((((a0.getD i1 default).ZL) != 0) && (((a0.getD i14 default).ZL) != 0)) then S.QT ((a0.getD i14 default).Zn) ((a0.getD i14 default).ZL) else default) (fun r17 => letS (bif ((((a0.getD i1 default).ZL) != 0) && (((a0.getD i14 default).ZL) != 0)) then S.QN r16 r17 else default) (fun r18 => bif ((((a0.getD i1 default).ZL) != 0) && (((a0.getD i14 default).ZL) != 0)) && r18 then (some (.inr 6)) else none)))
theorem Za7 (a0 : List ZA) (i1 : Nat) (ha0 : LL Yt a0) (hi1 : i1 < a0.length) (i0 : Nat) : loopM (M.YD a0 (i1 : Int)) (i0 : Int) = some (runN (S.YD a0 i1) (.inl ()) i0 (i1 - i0)) := by
 have hM := Zm
 have hni1 : a0.length ≤ maxLen := ha0.1
 have hni14 : i1 ≤ maxLen := (by omega)
 refine Xo (n := i1) (fun i14 hi14 => ?_) (fun m hm => ?_) i0
 ·unfold M.YD S.YD
  try simp only [Int.toNat_natCast]
  refine Yq (dt (by omega)) ?_
  refine Xu (Vk fun hg => (KH ((a0.getD i1 default).Zn) ((a0.getD i1 default).ZL))) (fun r16 her16 => ?_)
  refine Xu (Vk fun hg => (KH ((a0.getD i14 default).Zn) ((a0.getD i14 default).ZL))) (fun r17 her17 => ?_)
  refine Xu (Vk fun hg => (Zaa r16 r17)) (fun r18 her18 => ?_)
  refine Jc (Zz (X4 fun hg => (dt (by first | omega | (simp; omega) | (simp at *; omega)))) (Zz (X4 fun hg => (dt (by first | omega | (simp; omega) | (simp at *; omega)))) (Zz (X4 fun hg => (dt (by first | omega | (simp; omega) | (simp at *; omega)))) (Zz (X4 fun hg => (dt (by first | omega | (simp; omega) | (simp at *; omega)))) (Zz (X4 fun hg => (dt (by first | omega | (simp; omega) | (simp at *; omega)))) (Zz (X4 fun hg => (dt (by first | omega | (simp; omega) | (simp at *; omega)))) Ye)))))) ?_
  refine Yj (fun hb7 => ?_) (fun hb7 => ?_)
  ·exact X3
  ·exact V6 (by omega)
 ·unfold M.YD
  try simp only [Int.toNat_natCast]
  exact Yr (decide_eq_false (by omega)) rfl
noncomputable def S.YE (a0 : List ZA) (i1 : Nat) : Option (Unit ⊕ Int) :=
 letS (S.Jq ((a0.getD i1 default).XB)) (fun r3 => bif !r3 then (some (.inr 3)) else (letS (runN (S.YY a0 i1) (.inl ()) 0 i1) (fun y6 => Sum.elim (fun _ => letS (S.ZN ((a0.getD i1 default).ZL) 0 32) (fun r9 => letS (bif (!(!r9)) then S.ZN ((a0.getD i1 default).XH) 0 4094 else default) (fun r10 => letS (bif (!((!r9) || (!r10))) then S.ZN ((a0.getD i1 default).ZaF) 0 2 else default) (fun r11 => bif ((!r9) || (!r10)) || (!r11) then (some (.inr 1)) else (bif ((((a0.getD i1 default).ZL) == 0) && (((((((((a0.getD i1 default).Zn) != 0) || (((a0.getD i1 default).XH) != 0)) || (((a0.getD i1 default).ZaF) != 0)) || ((a0.getD i1 default).Yw)) || ((a0.getD i1 default).YC)) || (!strEq ((a0.getD i1 default).Ww) (⟨#[]⟩ : ByteArray))) || (!strEq ((a0.getD i1 default).Qr) (⟨#[]⟩ : ByteArray)))) || ((((a0.getD i1 default).ZL) != 0) && (((a0.getD i1 default).Zn) == 0)) then (some (.inr 1)) else (letS (bif ((a0.getD i1 default).Yw) then S.ZN ((a0.getD i1 default).WI) 0 255 else default) (fun r12 => letS (bif (((a0.getD i1 default).Yw) && !(!r12)) then S.ZN ((a0.getD i1 default).Zc2) 1 65535 else default) (fun r13 => bif (((a0.getD i1 default).Yw) && ((!r12) || (!r13))) || ((!((a0.getD i1 default).Yw)) && ((((a0.getD i1 default).WI) != 0) || (((a0.getD i1 default).Zc2) != 0))) then (some (.inr 1)) else (letS (runN (S.YD a0 i1) (.inl ()) 0 i1) (fun y19 => Sum.elim (fun _ => none) (fun y21 => some (.inr y21)) y19)))))))))) (fun y8 => some (.inr y8)) y6)))
theorem Za8 (a0 : List ZA) (ha0 : LL Yt a0) (i0 : Nat) : loopM (M.YE a0) (i0 : Int) = some (runN (S.YE a0) (.inl ()) i0 (a0.length - i0)) := by
 have hM := Zm
 have hni1 : a0.length ≤ maxLen := ha0.1
 refine Xo (n := a0.length) (fun i1 hi1 => ?_) (fun m hm => ?_) i0
 ·unfold M.YE S.YE
  try simp only [Int.toNat_natCast]
  refine Yq (dt (by omega)) ?_
  refine Jc (Zz (dt (by omega)) (Zz (dt (by omega)) Ye)) ?_
  refine Xu (Ke ((a0.getD i1 default).XB) (Yt.XB (LL.getD ha0 Yt.dflt i1))) (fun r3 her3 => ?_)
  refine Yj (fun hb2 => ?_) (fun hb2 => ?_)
  ·exact X3
  ·refine Xu (Za6 a0 i1 ha0 hi1 0) (fun y6 hey6 => ?_)
   refine Wv (fun _ hl => ?_) (fun y8 hly8 => ?_)
   ·refine Xu (XY ((a0.getD i1 default).ZL) 0 32) (fun r9 her9 => ?_)
    refine Xu (Vk fun hg => (XY ((a0.getD i1 default).XH) 0 4094)) (fun r10 her10 => ?_)
    refine Xu (Vk fun hg => (XY ((a0.getD i1 default).ZaF) 0 2)) (fun r11 her11 => ?_)
    refine Yj (fun hb4 => ?_) (fun hb4 => ?_)
    ·exact X3
    ·refine Yj (fun hb5 => ?_) (fun hb5 => ?_)
     ·exact X3
     ·refine Xu (Vk fun hg => (XY ((a0.getD i1 default).WI) 0 255)) (fun r12 her12 => ?_)
      refine Xu (Vk fun hg => (XY ((a0.getD i1 default).Zc2) 1 65535)) (fun r13 her13 => ?_)
      refine Yj (fun hb6 => ?_) (fun hb6 => ?_)
      ·exact X3
      ·refine Xu (Za7 a0 i1 ha0 hi1 0) (fun y19 hey19 => ?_)
       refine Wv (fun _ hl => ?_) (fun y21 hly21 => ?_)
       ·exact V6 (by omega)
       ·exact X3
   ·exact X3
 ·unfold M.YE
  try simp only [Int.toNat_natCast]
  exact Yr (decide_eq_false (by omega)) rfl
noncomputable def S.Yo (a0 : List ZA) : Int :=
 bif decide ((a0.length : Int) > 8) then 7 else (letS (runN (S.YE a0) (.inl ()) 0 a0.length) (fun y22 => Sum.elim (fun _ => 0) (fun y24 => y24) y22))
theorem Zds (a0 : List ZA) (ha0 : LL Yt a0) : M.Yo a0 = some (S.Yo a0) := by
 have hM := Zm
 unfold M.Yo S.Yo
 refine VT (fun hb1 => ?_) (fun hb1 => ?_)
 ·rfl
 ·refine Z8 (Za8 a0 ha0 0) (fun y22 hey22 => ?_)
  refine Jr (fun _ hl => ?_) (fun y24 hly24 => ?_)
  ·rfl
  ·rfl
noncomputable def S.YZ (a0 : ZM) : Bool :=
 letS (bif ((decide (a0.ZL ≥ 0)) && (decide (a0.ZL ≤ 32))) then S.JQ a0.ZL else default) (fun r1 => ((decide (a0.ZL ≥ 0)) && (decide (a0.ZL ≤ 32))) && ((bitD .andNot .u32 a0.Zn r1) == 0))
theorem W5 (a0 : ZM)  : M.YZ a0 = some (S.YZ a0) := by
 have hM := Zm
 unfold M.YZ S.YZ
 refine Z8 (Vk fun hg => (Za5 a0.ZL)) (fun r1 her1 => ?_)
 rfl
noncomputable def S.Qd (a0 : UY) : Bool :=
 letS (S.YZ a0.Zl) (fun r1 => ((r1 && (decide (a0.Zl.ZL ≤ a0.Zj8))) && (decide (a0.Zj8 ≤ a0.Zj9))) && (decide (a0.Zj9 ≤ 32)))
theorem RW (a0 : UY)  : M.Qd a0 = some (S.Qd a0) := by
 have hM := Zm
 unfold M.Qd S.Qd
 refine Z8 (W5 a0.Zl) (fun r1 her1 => ?_)
 rfl
noncomputable def S.Qy (a0 : List ZW) (i1 : Nat) (i4 : Nat) : Option (Unit ⊕ Int) :=
 bif strEq ((a0.getD i4 default).XB) ((a0.getD i1 default).XB) then (some (.inr 4)) else none
theorem Zaf (a0 : List ZW) (i1 : Nat) (ha0 : LL YT a0) (hi1 : i1 < a0.length) (i0 : Nat) : loopM (M.Qy a0 (i1 : Int)) (i0 : Int) = some (runN (S.Qy a0 i1) (.inl ()) i0 (i1 - i0)) := by
 have hM := Zm
 have hni1 : a0.length ≤ maxLen := ha0.1
 have hni4 : i1 ≤ maxLen := (by omega)
 refine Xo (n := i1) (fun i4 hi4 => ?_) (fun m hm => ?_) i0
 ·unfold M.Qy S.Qy
  try simp only [Int.toNat_natCast]
  refine Yq (dt (by omega)) ?_
  refine Jc (Zz (dt (by omega)) (Zz (dt (by omega)) (Zz (dt (by omega)) (Zz (dt (by omega)) Ye)))) ?_
  refine Yj (fun hb3 => ?_) (fun hb3 => ?_)
  ·exact X3
  ·exact V6 (by omega)
 ·unfold M.Qy
  try simp only [Int.toNat_natCast]
  exact Yr (decide_eq_false (by omega)) rfl
noncomputable def S.Qz (a0 : List ZW) (i1 : Nat) (i9 : Nat) : Option (Unit ⊕ Int) :=
 letS (S.Qd (((a0.getD i1 default).YX).getD i9 default)) (fun r11 => bif !r11 then (some (.inr 1)) else none)
theorem Zag (a0 : List ZW) (i1 : Nat) (ha0 : LL YT a0) (hi1 : i1 < a0.length) (i0 : Nat) : loopM (M.Qz a0 (i1 : Int)) (i0 : Int) = some (runN (S.Qz a0 i1) (.inl ()) i0 (((a0.getD i1 default).YX).length - i0)) := by
 have hM := Zm
 have hni1 : a0.length ≤ maxLen := ha0.1
 have hni9 : ((a0.getD i1 default).YX).length ≤ maxLen := (YT.YX (LL.getD ha0 YT.dflt i1))
 refine Xo (n := ((a0.getD i1 default).YX).length) (fun i9 hi9 => ?_) (fun m hm => ?_) i0
 ·unfold M.Qz S.Qz
  try simp only [Int.toNat_natCast]
  refine Jc (Zz (dt (by omega)) (Zz (dt (by omega)) Ye))  ?_
  refine Yq (dt (by omega)) ?_
  refine Xu (RW (((a0.getD i1 default).YX).getD i9 default)) (fun r11 her11 => ?_)
  refine Jc (Zz (dt (by omega)) (Zz (dt (by omega)) (Zz (dt (by omega)) (Zz (dt (by omega)) Ye)))) ?_
  refine Yj (fun hb6 => ?_) (fun hb6 => ?_)
  ·exact X3
  ·exact V6 (by omega)
 ·unfold M.Qz
  try simp only [Int.toNat_natCast]
  refine Jc (Zz (dt (by omega)) (Zz (dt (by omega)) Ye))  ?_
  exact Yr (decide_eq_false (by omega)) rfl
noncomputable def S.QA (a0 : List ZW) (i1 : Nat) : Option (Unit ⊕ Int) :=
 letS (S.Jq ((a0.getD i1 default).XB)) (fun r3 => bif !r3 then (some (.inr 3)) else (letS (runN (S.Qy a0 i1) (.inl ()) 0 i1) (fun y6 => Sum.elim (fun _ => bif (((a0.getD i1 default).YX).length : Int) == 0 then (some (.inr 1)) else (bif decide ((((a0.getD i1 default).YX).length : Int) > 16) then (some (.inr 7)) else (letS (runN (S.Qz a0 i1) (.inl ()) 0 (((a0.getD i1 default).YX).length)) (fun y12 => Sum.elim (fun _ => none) (fun y14 => some (.inr y14)) y12)))) (fun y8 => some (.inr y8)) y6)))
theorem Zah (a0 : List ZW) (ha0 : LL YT a0) (i0 : Nat) : loopM (M.QA a0) (i0 : Int) = some (runN (S.QA a0) (.inl ()) i0 (a0.length - i0)) := by
 have hM := Zm
 have hni1 : a0.length ≤ maxLen := ha0.1
 refine Xo (n := a0.length) (fun i1 hi1 => ?_) (fun m hm => ?_) i0
 ·unfold M.QA S.QA
  try simp only [Int.toNat_natCast]
  refine Yq (dt (by omega)) ?_
  refine Xu (Ke ((a0.getD i1 default).XB) (YT.XB (LL.getD ha0 YT.dflt i1))) (fun r3 her3 => ?_)
  refine Jc (Zz (dt (by omega)) (Zz (dt (by omega)) Ye)) ?_
  refine Yj (fun hb2 => ?_) (fun hb2 => ?_)
  ·exact X3
  ·refine Xu (Zaf a0 i1 ha0 hi1 0) (fun y6 hey6 => ?_)
   refine Wv (fun _ hl => ?_) (fun y8 hly8 => ?_)
   ·refine Jc (Zz (dt (by omega)) (Zz (dt (by omega)) Ye)) ?_
    refine Yj (fun hb4 => ?_) (fun hb4 => ?_)
    ·exact X3
    ·refine Jc (Zz (dt (by omega)) (Zz (dt (by omega)) Ye)) ?_
     refine Yj (fun hb5 => ?_) (fun hb5 => ?_)
     ·exact X3
     ·refine Xu (Zag a0 i1 ha0 hi1 0) (fun y12 hey12 => ?_)
      refine Wv (fun _ hl => ?_) (fun y14 hly14 => ?_)
      ·exact V6 (by omega)
      ·exact X3
   ·exact X3
 ·unfold M.QA
  try simp only [Int.toNat_natCast]
  exact Yr (decide_eq_false (by omega)) rfl
noncomputable def S.QL (a0 : List ZW) : Int :=
 bif decide ((a0.length : Int) > 8) then 7 else (letS (runN (S.QA a0) (.inl ()) 0 a0.length) (fun y15 => Sum.elim (fun _ => 0) (fun y17 => y17) y15))
theorem Zcv (a0 : List ZW) (ha0 : LL YT a0) : M.QL a0 = some (S.QL a0) := by
 have hM := Zm
 unfold M.QL S.QL
 refine VT (fun hb1 => ?_) (fun hb1 => ?_)
 ·rfl
 ·refine Z8 (Zah a0 ha0 0) (fun y15 hey15 => ?_)
  refine Jr (fun _ hl => ?_) (fun y17 hly17 => ?_)
  ·rfl
  ·rfl
noncomputable def S.QU (a0 : Zh) (a1 : ByteArray) (i1 : Nat) : Option (Unit ⊕ Int) :=
 bif strEq ((a0.YM.getD i1 default).XB) a1 then (some (.inr (i1 : Int))) else none
theorem Za9 (a0 : Zh) (a1 : ByteArray) (ha0 : Zr a0) (ha1 : a1.size ≤ maxLen) (i0 : Nat) : loopM (M.QU a0 a1) (i0 : Int) = some (runN (S.QU a0 a1) (.inl ()) i0 (a0.YM.length - i0)) := by
 have hM := Zm
 have hni1 : a0.YM.length ≤ maxLen := (Zr.YM ha0).1
 refine Xo (n := a0.YM.length) (fun i1 hi1 => ?_) (fun m hm => ?_) i0
 ·unfold M.QU S.QU
  try simp only [Int.toNat_natCast]
  refine Yq (dt (by omega)) ?_
  refine Jc (Zz (dt (by omega)) (Zz (dt (by omega)) Ye)) ?_
  refine Yj (fun hb1 => ?_) (fun hb1 => ?_)
  ·exact X3
  ·exact V6 (by omega)
 ·unfold M.QU
  try simp only [Int.toNat_natCast]
  exact Yr (decide_eq_false (by omega)) rfl
noncomputable def S.Qa (a0 : Zh) (a1 : ByteArray) : Int :=
 letS (runN (S.QU a0 a1) (.inl ()) 0 a0.YM.length) (fun y3 => Sum.elim (fun _ => -1) (fun y5 => y5) y3)
theorem GR (a0 : Zh) (a1 : ByteArray) (ha0 : Zr a0) (ha1 : a1.size ≤ maxLen) : M.Qa a0 a1 = some (S.Qa a0 a1) := by
 have hM := Zm
 unfold M.Qa S.Qa
 refine Z8 (Za9 a0 a1 ha0 ha1 0) (fun y3 hey3 => ?_)
 refine Jr (fun _ hl => ?_) (fun y5 hly5 => ?_)
 ·rfl
 ·rfl
noncomputable def S.Jd (a0 : Zh) (i1 : Nat) (i4 : Nat) : Option (Unit ⊕ Int) :=
 bif strEq ((a0.XJ.getD i4 default).XB) ((a0.XJ.getD i1 default).XB) then (some (.inr 4)) else none
theorem ZbG (a0 : Zh) (i1 : Nat) (ha0 : Zr a0) (hi1 : i1 < a0.XJ.length) (i0 : Nat) : loopM (M.Jd a0 (i1 : Int)) (i0 : Int) = some (runN (S.Jd a0 i1) (.inl ()) i0 (i1 - i0)) := by
 have hM := Zm
 have hni1 : a0.XJ.length ≤ maxLen := (Zr.XJ ha0).1
 have hni4 : i1 ≤ maxLen := (by omega)
 refine Xo (n := i1) (fun i4 hi4 => ?_) (fun m hm => ?_) i0
 ·unfold M.Jd S.Jd
  try simp only [Int.toNat_natCast]
  refine Yq (dt (by omega)) ?_
  refine Jc (Zz (dt (by omega)) (Zz (dt (by omega)) (Zz (dt (by omega)) (Zz (dt (by omega)) Ye)))) ?_
  refine Yj (fun hb3 => ?_) (fun hb3 => ?_)
  ·exact X3
  ·exact V6 (by omega)
 ·unfold M.Jd
  try simp only [Int.toNat_natCast]
  exact Yr (decide_eq_false (by omega)) rfl
noncomputable def S.Je (a0 : Zh) (i1 : Nat) (i9 : Nat) : Option (Unit ⊕ Int) :=
 letS (bif (!strEq ((((a0.XJ.getD i1 default).X5).getD i9 default).VD) (⟨#[]⟩ : ByteArray)) then S.Qa a0 ((((a0.XJ.getD i1 default).X5).getD i9 default).VD) else default) (fun r11 => bif (!strEq ((((a0.XJ.getD i1 default).X5).getD i9 default).VD) (⟨#[]⟩ : ByteArray)) && (decide (r11 < 0)) then (some (.inr 5)) else (letS (S.ZN ((((a0.XJ.getD i1 default).X5).getD i9 default).UA) (-1) 65535) (fun r12 => letS (bif (!(!r12)) then S.ZN ((((a0.XJ.getD i1 default).X5).getD i9 default).Zc4) (-1) 65535 else default) (fun r13 => letS (bif (!((!r12) || (!r13))) then S.ZN ((((a0.XJ.getD i1 default).X5).getD i9 default).KA) (-1) 16777215 else default) (fun r14 => letS (bif (!(((!r12) || (!r13)) || (!r14))) then S.ZN ((((a0.XJ.getD i1 default).X5).getD i9 default).ZaG) (-1) 1000000 else default) (fun r15 => letS (bif (!((((!r12) || (!r13)) || (!r14)) || (!r15))) then S.ZN ((((a0.XJ.getD i1 default).X5).getD i9 default).ZaH) 0 8 else default) (fun r16 => bif ((((!r12) || (!r13)) || (!r14)) || (!r15)) || (!r16) then (some (.inr 1)) else none)))))))
theorem ZbH (a0 : Zh) (i1 : Nat) (ha0 : Zr a0) (hi1 : i1 < a0.XJ.length) (i0 : Nat) : loopM (M.Je a0 (i1 : Int)) (i0 : Int) = some (runN (S.Je a0 i1) (.inl ()) i0 (((a0.XJ.getD i1 default).X5).length - i0)) := by
 have hM := Zm
 have hni1 : a0.XJ.length ≤ maxLen := (Zr.XJ ha0).1
 have hni9 : ((a0.XJ.getD i1 default).X5).length ≤ maxLen := (JE.X5 (LL.getD (Zr.XJ ha0) JE.dflt i1)).1
 refine Xo (n := ((a0.XJ.getD i1 default).X5).length) (fun i9 hi9 => ?_) (fun m hm => ?_) i0
 ·unfold M.Je S.Je
  try simp only [Int.toNat_natCast]
  refine Jc (Zz (dt (by omega)) (Zz (dt (by omega)) Ye))  ?_
  refine Yq (dt (by omega)) ?_
  refine Jc (Zz (dt (by omega)) (Zz (dt (by omega)) (Zz (dt (by omega)) (Zz (dt (by omega)) Ye)))) ?_
  refine Xu (Vk fun hg => (GR a0 ((((a0.XJ.getD i1 default).X5).getD i9 default).VD) ha0 (U9.VD (LL.getD (JE.X5 (LL.getD (Zr.XJ ha0) JE.dflt i1)) U9.dflt i9)))) (fun r11 her11 => ?_)
  refine Yj (fun hb6 => ?_) (fun hb6 => ?_)
  ·exact X3
  ·refine Xu (XY ((((a0.XJ.getD i1 default).X5).getD i9 default).UA) (-1) 65535) (fun r12 her12 => ?_)
   refine Xu (Vk fun hg => (XY ((((a0.XJ.getD i1 default).X5).getD i9 default).Zc4) (-1) 65535)) (fun r13 her13 => ?_)
   refine Xu (Vk fun hg => (XY ((((a0.XJ.getD i1 default).X5).getD i9 default).KA) (-1) 16777215)) (fun r14 her14 => ?_)
   refine Xu (Vk fun hg => (XY ((((a0.XJ.getD i1 default).X5).getD i9 default).ZaG) (-1) 1000000)) (fun r15 her15 => ?_)
   refine Xu (Vk fun hg => (XY ((((a0.XJ.getD i1 default).X5).getD i9 default).ZaH) 0 8)) (fun r16 her16 => ?_)
   refine Yj (fun hb7 => ?_) (fun hb7 => ?_)
   ·exact X3
   ·exact V6 (by omega)
 ·unfold M.Je
  try simp only [Int.toNat_natCast]
  refine Jc (Zz (dt (by omega)) (Zz (dt (by omega)) Ye))  ?_
  exact Yr (decide_eq_false (by omega)) rfl
noncomputable def S.Jf (a0 : Zh) (i1 : Nat) : Option (Unit ⊕ Int) :=
 letS (S.Jq ((a0.XJ.getD i1 default).XB)) (fun r3 => bif !r3 then (some (.inr 3)) else (letS (runN (S.Jd a0 i1) (.inl ()) 0 i1) (fun y6 => Sum.elim (fun _ => bif (((a0.XJ.getD i1 default).X5).length : Int) == 0 then (some (.inr 1)) else (bif decide ((((a0.XJ.getD i1 default).X5).length : Int) > 8) then (some (.inr 7)) else (letS (runN (S.Je a0 i1) (.inl ()) 0 (((a0.XJ.getD i1 default).X5).length)) (fun y17 => Sum.elim (fun _ => none) (fun y19 => some (.inr y19)) y17)))) (fun y8 => some (.inr y8)) y6)))
theorem ZbI (a0 : Zh) (ha0 : Zr a0) (i0 : Nat) : loopM (M.Jf a0) (i0 : Int) = some (runN (S.Jf a0) (.inl ()) i0 (a0.XJ.length - i0)) := by
 have hM := Zm
 have hni1 : a0.XJ.length ≤ maxLen := (Zr.XJ ha0).1
 refine Xo (n := a0.XJ.length) (fun i1 hi1 => ?_) (fun m hm => ?_) i0
 ·unfold M.Jf S.Jf
  try simp only [Int.toNat_natCast]
  refine Yq (dt (by omega)) ?_
  refine Xu (Ke ((a0.XJ.getD i1 default).XB) (JE.XB (LL.getD (Zr.XJ ha0) JE.dflt i1))) (fun r3 her3 => ?_)
  refine Jc (Zz (dt (by omega)) (Zz (dt (by omega)) Ye)) ?_
  refine Yj (fun hb2 => ?_) (fun hb2 => ?_)
  ·exact X3
  ·refine Xu (ZbG a0 i1 ha0 hi1 0) (fun y6 hey6 => ?_)
   refine Wv (fun _ hl => ?_) (fun y8 hly8 => ?_)
   ·refine Jc (Zz (dt (by omega)) (Zz (dt (by omega)) Ye)) ?_
    refine Yj (fun hb4 => ?_) (fun hb4 => ?_)
    ·exact X3
    ·refine Jc (Zz (dt (by omega)) (Zz (dt (by omega)) Ye)) ?_
     refine Yj (fun hb5 => ?_) (fun hb5 => ?_)
     ·exact X3
     ·refine Xu (ZbH a0 i1 ha0 hi1 0) (fun y17 hey17 => ?_)
      refine Wv (fun _ hl => ?_) (fun y19 hly19 => ?_)
      ·exact V6 (by omega)
      ·exact X3
   ·exact X3
 ·unfold M.Jf
  try simp only [Int.toNat_natCast]
  exact Yr (decide_eq_false (by omega)) rfl
noncomputable def S.Js (a0 : Zh) : Int :=
 bif decide ((a0.XJ.length : Int) > 8) then 7 else (letS (runN (S.Jf a0) (.inl ()) 0 a0.XJ.length) (fun y20 => Sum.elim (fun _ => 0) (fun y22 => y22) y20))
theorem Zd9 (a0 : Zh) (ha0 : Zr a0) : M.Js a0 = some (S.Js a0) := by
 have hM := Zm
 unfold M.Js S.Js
 refine VT (fun hb1 => ?_) (fun hb1 => ?_)
 ·rfl
 ·refine Z8 (ZbI a0 ha0 0) (fun y20 hey20 => ?_)
  refine Jr (fun _ hl => ?_) (fun y22 hly22 => ?_)
  ·rfl
  ·rfl
noncomputable def S.WJ (a0 : Wn) : Bool :=
 ((decide (0 ≤ a0.Rg)) && (decide (a0.Rg ≤ a0.fHi))) && (decide (a0.fHi ≤ 65535))
theorem Zdt (a0 : Wn)  : M.WJ a0 = some (S.WJ a0) := by
 have hM := Zm
 unfold M.WJ S.WJ
 rfl
noncomputable def S.UZ (a0 : Wn) : Bool :=
 (a0.Rg == 0) && ((a0.fHi == 65535) && true)
theorem Zf2 (a0 : Wn)  : M.UZ a0 = some (S.UZ a0) := by
 have hM := Zm
 unfold M.UZ S.UZ
 rfl
noncomputable def S.VG (a0 : ZfJ) : Bool :=
 letS (S.ZN a0.X1 (-1) 255) (fun r1 => letS (bif (!(((!r1) || ((bitD .and .u32 a0.Zch.Zn a0.Zch.Kl) != 0)) || ((bitD .and .u32 a0.Zci.Zn a0.Zci.Kl) != 0))) then S.WJ a0.U4 else default) (fun r2 => letS (bif (!((((!r1) || ((bitD .and .u32 a0.Zch.Zn a0.Zch.Kl) != 0)) || ((bitD .and .u32 a0.Zci.Zn a0.Zci.Kl) != 0)) || (!r2))) then S.WJ a0.U5 else default) (fun r3 => bif ((((!r1) || ((bitD .and .u32 a0.Zch.Zn a0.Zch.Kl) != 0)) || ((bitD .and .u32 a0.Zci.Zn a0.Zci.Kl) != 0)) || (!r2)) || (!r3) then false else (letS (bif (!((a0.X1 == 6) || (a0.X1 == 17))) then S.UZ a0.U4 else default) (fun r4 => letS (bif ((!((a0.X1 == 6) || (a0.X1 == 17))) && r4) then S.UZ a0.U5 else default) (fun r5 => ((a0.X1 == 6) || (a0.X1 == 17)) || (r4 && r5)))))))
theorem Zea (a0 : ZfJ)  : M.VG a0 = some (S.VG a0) := by
 have hM := Zm
 unfold M.VG S.VG
 refine Z8 (XY a0.X1 (-1) 255) (fun r1 her1 => ?_)
 refine Z8 (Vk fun hg => (Zdt a0.U4)) (fun r2 her2 => ?_)
 refine Z8 (Vk fun hg => (Zdt a0.U5)) (fun r3 her3 => ?_)
 refine VT (fun hb1 => ?_) (fun hb1 => ?_)
 ·rfl
 ·refine Z8 (Vk fun hg => (Zf2 a0.U4)) (fun r4 her4 => ?_)
  refine Z8 (Vk fun hg => (Zf2 a0.U5)) (fun r5 her5 => ?_)
  rfl
noncomputable def S.QB (a0 : List US) (i1 : Nat) (i4 : Nat) : Option (Unit ⊕ Int) :=
 bif strEq ((a0.getD i4 default).XB) ((a0.getD i1 default).XB) then (some (.inr 4)) else none
theorem Zai (a0 : List US) (i1 : Nat) (ha0 : LL U3 a0) (hi1 : i1 < a0.length) (i0 : Nat) : loopM (M.QB a0 (i1 : Int)) (i0 : Int) = some (runN (S.QB a0 i1) (.inl ()) i0 (i1 - i0)) := by
 have hM := Zm
 have hni1 : a0.length ≤ maxLen := ha0.1
 have hni4 : i1 ≤ maxLen := (by omega)
 refine Xo (n := i1) (fun i4 hi4 => ?_) (fun m hm => ?_) i0
 ·unfold M.QB S.QB
  try simp only [Int.toNat_natCast]
  refine Yq (dt (by omega)) ?_
  refine Jc (Zz (dt (by omega)) (Zz (dt (by omega)) (Zz (dt (by omega)) (Zz (dt (by omega)) Ye)))) ?_
  refine Yj (fun hb3 => ?_) (fun hb3 => ?_)
  ·exact X3
  ·exact V6 (by omega)
 ·unfold M.QB
  try simp only [Int.toNat_natCast]
  exact Yr (decide_eq_false (by omega)) rfl
noncomputable def S.QC (a0 : List US) (i1 : Nat) (i9 : Nat) : Option (Unit ⊕ Int) :=
 letS (S.VG (((a0.getD i1 default).YX).getD i9 default)) (fun r11 => bif !r11 then (some (.inr 1)) else none)
theorem Zaj (a0 : List US) (i1 : Nat) (ha0 : LL U3 a0) (hi1 : i1 < a0.length) (i0 : Nat) : loopM (M.QC a0 (i1 : Int)) (i0 : Int) = some (runN (S.QC a0 i1) (.inl ()) i0 (((a0.getD i1 default).YX).length - i0)) := by
 have hM := Zm
 have hni1 : a0.length ≤ maxLen := ha0.1
 have hni9 : ((a0.getD i1 default).YX).length ≤ maxLen := (U3.YX (LL.getD ha0 U3.dflt i1))
 refine Xo (n := ((a0.getD i1 default).YX).length) (fun i9 hi9 => ?_) (fun m hm => ?_) i0
 ·unfold M.QC S.QC
  try simp only [Int.toNat_natCast]
  refine Jc (Zz (dt (by omega)) (Zz (dt (by omega)) Ye))  ?_
  refine Yq (dt (by omega)) ?_
  refine Xu (Zea (((a0.getD i1 default).YX).getD i9 default)) (fun r11 her11 => ?_)
  refine Jc (Zz (dt (by omega)) (Zz (dt (by omega)) (Zz (dt (by omega)) (Zz (dt (by omega)) Ye)))) ?_
  refine Yj (fun hb6 => ?_) (fun hb6 => ?_)
  ·exact X3
  ·exact V6 (by omega)
 ·unfold M.QC
  try simp only [Int.toNat_natCast]
  refine Jc (Zz (dt (by omega)) (Zz (dt (by omega)) Ye))  ?_
  exact Yr (decide_eq_false (by omega)) rfl
noncomputable def S.QD (a0 : List US) (i1 : Nat) : Option (Unit ⊕ Int) :=
 letS (S.Jq ((a0.getD i1 default).XB)) (fun r3 => bif !r3 then (some (.inr 3)) else (letS (runN (S.QB a0 i1) (.inl ()) 0 i1) (fun y6 => Sum.elim (fun _ => bif (((a0.getD i1 default).YX).length : Int) == 0 then (some (.inr 1)) else (bif decide ((((a0.getD i1 default).YX).length : Int) > 16) then (some (.inr 7)) else (letS (runN (S.QC a0 i1) (.inl ()) 0 (((a0.getD i1 default).YX).length)) (fun y12 => Sum.elim (fun _ => none) (fun y14 => some (.inr y14)) y12)))) (fun y8 => some (.inr y8)) y6)))
theorem Zak (a0 : List US) (ha0 : LL U3 a0) (i0 : Nat) : loopM (M.QD a0) (i0 : Int) = some (runN (S.QD a0) (.inl ()) i0 (a0.length - i0)) := by
 have hM := Zm
 have hni1 : a0.length ≤ maxLen := ha0.1
 refine Xo (n := a0.length) (fun i1 hi1 => ?_) (fun m hm => ?_) i0
 ·unfold M.QD S.QD
  try simp only [Int.toNat_natCast]
  refine Yq (dt (by omega)) ?_
  refine Xu (Ke ((a0.getD i1 default).XB) (U3.XB (LL.getD ha0 U3.dflt i1))) (fun r3 her3 => ?_)
  refine Jc (Zz (dt (by omega)) (Zz (dt (by omega)) Ye)) ?_
  refine Yj (fun hb2 => ?_) (fun hb2 => ?_)
  ·exact X3
  ·refine Xu (Zai a0 i1 ha0 hi1 0) (fun y6 hey6 => ?_)
   refine Wv (fun _ hl => ?_) (fun y8 hly8 => ?_)
   ·refine Jc (Zz (dt (by omega)) (Zz (dt (by omega)) Ye)) ?_
    refine Yj (fun hb4 => ?_) (fun hb4 => ?_)
    ·exact X3
    ·refine Jc (Zz (dt (by omega)) (Zz (dt (by omega)) Ye)) ?_
     refine Yj (fun hb5 => ?_) (fun hb5 => ?_)
     ·exact X3
     ·refine Xu (Zaj a0 i1 ha0 hi1 0) (fun y12 hey12 => ?_)
      refine Wv (fun _ hl => ?_) (fun y14 hly14 => ?_)
      ·exact V6 (by omega)
      ·exact X3
   ·exact X3
 ·unfold M.QD
  try simp only [Int.toNat_natCast]
  exact Yr (decide_eq_false (by omega)) rfl
noncomputable def S.QM (a0 : List US) : Int :=
 bif decide ((a0.length : Int) > 8) then 7 else (letS (runN (S.QD a0) (.inl ()) 0 a0.length) (fun y15 => Sum.elim (fun _ => 0) (fun y17 => y17) y15))
theorem Zcw (a0 : List US) (ha0 : LL U3 a0) : M.QM a0 = some (S.QM a0) := by
 have hM := Zm
 unfold M.QM S.QM
 refine VT (fun hb1 => ?_) (fun hb1 => ?_)
 ·rfl
 ·refine Z8 (Zak a0 ha0 0) (fun y15 hey15 => ?_)
  refine Jr (fun _ hl => ?_) (fun y17 hly17 => ?_)
  ·rfl
  ·rfl
noncomputable def S.WX (a0 : Zh) (a1 : ByteArray) (i1 : Nat) : Option (Unit ⊕ Int) :=
 bif strEq ((a0.YW.getD i1 default).XB) a1 then (some (.inr (i1 : Int))) else none
theorem Zgp (a0 : Zh) (a1 : ByteArray) (ha0 : Zr a0) (ha1 : a1.size ≤ maxLen) (i0 : Nat) : loopM (M.WX a0 a1) (i0 : Int) = some (runN (S.WX a0 a1) (.inl ()) i0 (a0.YW.length - i0)) := by
 have hM := Zm
 have hni1 : a0.YW.length ≤ maxLen := (Zr.YW ha0).1
 refine Xo (n := a0.YW.length) (fun i1 hi1 => ?_) (fun m hm => ?_) i0
 ·unfold M.WX S.WX
  try simp only [Int.toNat_natCast]
  refine Yq (dt (by omega)) ?_
  refine Jc (Zz (dt (by omega)) (Zz (dt (by omega)) Ye)) ?_
  refine Yj (fun hb1 => ?_) (fun hb1 => ?_)
  ·exact X3
  ·exact V6 (by omega)
 ·unfold M.WX
  try simp only [Int.toNat_natCast]
  exact Yr (decide_eq_false (by omega)) rfl
noncomputable def S.Ui (a0 : Zh) (a1 : ByteArray) : Int :=
 letS (runN (S.WX a0 a1) (.inl ()) 0 a0.YW.length) (fun y3 => Sum.elim (fun _ => -1) (fun y5 => y5) y3)
theorem Zcx (a0 : Zh) (a1 : ByteArray) (ha0 : Zr a0) (ha1 : a1.size ≤ maxLen) : M.Ui a0 a1 = some (S.Ui a0 a1) := by
 have hM := Zm
 unfold M.Ui S.Ui
 refine Z8 (Zgp a0 a1 ha0 ha1 0) (fun y3 hey3 => ?_)
 refine Jr (fun _ hl => ?_) (fun y5 hly5 => ?_)
 ·rfl
 ·rfl
noncomputable def S.XX (a0 : Zh) (i1 : Nat) (p3 : Bool) : Option (Unit ⊕ Int) :=
 bif !p3 then (some (.inr 1)) else (letS (bif (((a0.Xc.getD i1 default).Ua) == 2) then S.Ui a0 ((a0.Xc.getD i1 default).VD) else default) (fun r4 => bif (((a0.Xc.getD i1 default).Ua) == 2) && (decide (r4 < 0)) then (some (.inr 5)) else none))
theorem WA (a0 : Zh) (i1 : Nat) (p3 : Bool) (ha0 : Zr a0) (hi1 : i1 < a0.Xc.length) : M.XX a0 (i1 : Int) p3 = some (rdN (S.XX a0 i1 p3) i1) := by
 have hM := Zm
 have hni1 : a0.Xc.length ≤ maxLen := (Zr.Xc ha0).1
 unfold M.XX S.XX
 try simp only [Int.toNat_natCast]
 refine Yj (fun hb3 => ?_) (fun hb3 => ?_)
 ·exact X3
 ·refine Xu (Vk fun hg => (Zcx a0 ((a0.Xc.getD i1 default).VD) ha0 (VP.VD (LL.getD (Zr.Xc ha0) VP.dflt i1)))) (fun r4 her4 => ?_)
  refine Yj (fun hb4 => ?_) (fun hb4 => ?_)
  ·exact X3
  ·exact V6 (by omega)
noncomputable def S.Qe (a0 : Zh) (i1 : Nat) : Option (Unit ⊕ Int) :=
 bif ((a0.Xc.getD i1 default).Ua) == 1 then (S.XX a0 i1 (((((a0.Xc.getD i1 default).J5) != 0) && (((a0.Xc.getD i1 default).QY) != 0)) && ((((a0.Xc.getD i1 default).Ua) == ((a0.Xc.getD i1 default).Ua)) && ((((a0.Xc.getD i1 default).J5) == ((a0.Xc.getD i1 default).J5)) && ((((a0.Xc.getD i1 default).QY) == ((a0.Xc.getD i1 default).QY)) && ((((a0.Xc.getD i1 default).X1) == 0) && ((((a0.Xc.getD i1 default).Vp) == 0) && ((((a0.Xc.getD i1 default).JN) == 0) && (strEq ((a0.Xc.getD i1 default).VD) (⟨#[]⟩ : ByteArray) && ((((a0.Xc.getD i1 default).Rg) == 0) && ((((a0.Xc.getD i1 default).fHi) == 0) && true))))))))))) else (bif ((a0.Xc.getD i1 default).Ua) == 2 then (S.XX a0 i1 ((((((a0.Xc.getD i1 default).Rg) != 0) && (decide (((a0.Xc.getD i1 default).Rg) ≤ ((a0.Xc.getD i1 default).fHi)))) && (decide ((wr .u32 (((a0.Xc.getD i1 default).fHi) - ((a0.Xc.getD i1 default).Rg))) < 8))) && ((((a0.Xc.getD i1 default).Ua) == ((a0.Xc.getD i1 default).Ua)) && ((((a0.Xc.getD i1 default).J5) == 0) && ((((a0.Xc.getD i1 default).QY) == 0) && ((((a0.Xc.getD i1 default).X1) == 0) && ((((a0.Xc.getD i1 default).Vp) == 0) && ((((a0.Xc.getD i1 default).JN) == 0) && (strEq ((a0.Xc.getD i1 default).VD) ((a0.Xc.getD i1 default).VD) && ((((a0.Xc.getD i1 default).Rg) == ((a0.Xc.getD i1 default).Rg)) && ((((a0.Xc.getD i1 default).fHi) == ((a0.Xc.getD i1 default).fHi)) && true))))))))))) else (bif ((a0.Xc.getD i1 default).Ua) == 3 then (letS (bif (((((a0.Xc.getD i1 default).J5) != 0) && (((a0.Xc.getD i1 default).QY) != 0)) && ((((a0.Xc.getD i1 default).X1) == 6) || (((a0.Xc.getD i1 default).X1) == 17))) then S.ZN ((a0.Xc.getD i1 default).Vp) 0 65535 else default) (fun r5 => letS (bif ((((((a0.Xc.getD i1 default).J5) != 0) && (((a0.Xc.getD i1 default).QY) != 0)) && ((((a0.Xc.getD i1 default).X1) == 6) || (((a0.Xc.getD i1 default).X1) == 17))) && r5) then S.ZN ((a0.Xc.getD i1 default).JN) 0 65535 else default) (fun r6 => S.XX a0 i1 ((((((((((a0.Xc.getD i1 default).J5) != 0) && (((a0.Xc.getD i1 default).QY) != 0)) && ((((a0.Xc.getD i1 default).X1) == 6) || (((a0.Xc.getD i1 default).X1) == 17))) && r5) && r6) && (strEq ((a0.Xc.getD i1 default).VD) (⟨#[]⟩ : ByteArray))) && (((a0.Xc.getD i1 default).Rg) == 0)) && (((a0.Xc.getD i1 default).fHi) == 0))))) else (S.XX a0 i1 false)))
theorem RX (a0 : Zh) (ha0 : Zr a0) (i0 : Nat) : loopM (M.Qe a0) (i0 : Int) = some (runN (S.Qe a0) (.inl ()) i0 (a0.Xc.length - i0)) := by
 have hM := Zm
 have hni1 : a0.Xc.length ≤ maxLen := (Zr.Xc ha0).1
 refine Xo (n := a0.Xc.length) (fun i1 hi1 => ?_) (fun m hm => ?_) i0
 ·unfold M.Qe S.Qe
  try simp only [Int.toNat_natCast]
  refine Yq (dt (by omega)) ?_
  refine Jc (Zz (dt (by omega)) (Zz (dt (by omega)) Ye)) ?_
  refine Yj (fun hb2 => ?_) (fun hb2 => ?_)
  ·exact WA a0 i1 (((((a0.Xc.getD i1 default).J5) != 0) && (((a0.Xc.getD i1 default).QY) != 0)) && ((((a0.Xc.getD i1 default).Ua) == ((a0.Xc.getD i1 default).Ua)) && ((((a0.Xc.getD i1 default).J5) == ((a0.Xc.getD i1 default).J5)) && ((((a0.Xc.getD i1 default).QY) == ((a0.Xc.getD i1 default).QY)) && ((((a0.Xc.getD i1 default).X1) == 0) && ((((a0.Xc.getD i1 default).Vp) == 0) && ((((a0.Xc.getD i1 default).JN) == 0) && (strEq ((a0.Xc.getD i1 default).VD) (⟨#[]⟩ : ByteArray) && ((((a0.Xc.getD i1 default).Rg) == 0) && ((((a0.Xc.getD i1 default).fHi) == 0) && true)))))))))) ha0 hi1
  ·refine Yj (fun hb5 => ?_) (fun hb5 => ?_)
   ·exact WA a0 i1 ((((((a0.Xc.getD i1 default).Rg) != 0) && (decide (((a0.Xc.getD i1 default).Rg) ≤ ((a0.Xc.getD i1 default).fHi)))) && (decide ((wr .u32 (((a0.Xc.getD i1 default).fHi) - ((a0.Xc.getD i1 default).Rg))) < 8))) && ((((a0.Xc.getD i1 default).Ua) == ((a0.Xc.getD i1 default).Ua)) && ((((a0.Xc.getD i1 default).J5) == 0) && ((((a0.Xc.getD i1 default).QY) == 0) && ((((a0.Xc.getD i1 default).X1) == 0) && ((((a0.Xc.getD i1 default).Vp) == 0) && ((((a0.Xc.getD i1 default).JN) == 0) && (strEq ((a0.Xc.getD i1 default).VD) ((a0.Xc.getD i1 default).VD) && ((((a0.Xc.getD i1 default).Rg) == ((a0.Xc.getD i1 default).Rg)) && ((((a0.Xc.getD i1 default).fHi) == ((a0.Xc.getD i1 default).fHi)) && true)))))))))) ha0 hi1
   ·refine Yj (fun hb6 => ?_) (fun hb6 => ?_)
    ·refine Xu (Vk fun hg => (XY ((a0.Xc.getD i1 default).Vp) 0 65535)) (fun r5 her5 => ?_)
     refine Xu (Vk fun hg => (XY ((a0.Xc.getD i1 default).JN) 0 65535)) (fun r6 her6 => ?_)
     exact WA a0 i1 ((((((((((a0.Xc.getD i1 default).J5) != 0) && (((a0.Xc.getD i1 default).QY) != 0)) && ((((a0.Xc.getD i1 default).X1) == 6) || (((a0.Xc.getD i1 default).X1) == 17))) && r5) && r6) && (strEq ((a0.Xc.getD i1 default).VD) (⟨#[]⟩ : ByteArray))) && (((a0.Xc.getD i1 default).Rg) == 0)) && (((a0.Xc.getD i1 default).fHi) == 0)) ha0 hi1
    ·exact WA a0 i1 false ha0 hi1
 ·unfold M.Qe
  try simp only [Int.toNat_natCast]
  exact Yr (decide_eq_false (by omega)) rfl
noncomputable def S.Qf (a0 : Zh) : Int :=
 bif decide ((a0.Xc.length : Int) > 8) then 7 else (letS (runN (S.Qe a0) (.inl ()) 0 a0.Xc.length) (fun y7 => Sum.elim (fun _ => 0) (fun y9 => y9) y7))
theorem ZbJ (a0 : Zh) (ha0 : Zr a0) : M.Qf a0 = some (S.Qf a0) := by
 have hM := Zm
 unfold M.Qf S.Qf
 refine VT (fun hb1 => ?_) (fun hb1 => ?_)
 ·rfl
 ·refine Z8 (RX a0 ha0 0) (fun y7 hey7 => ?_)
  refine Jr (fun _ hl => ?_) (fun y9 hly9 => ?_)
  ·rfl
  ·rfl
noncomputable def S.J6 (a0 : Zh) (i1 : Nat) : Option (Unit ⊕ Int) :=
 letS (bif (!strEq ((a0.Zc.getD i1 default).Ww) (⟨#[]⟩ : ByteArray)) then S.Ui a0 ((a0.Zc.getD i1 default).Ww) else default) (fun r3 => letS (bif ((!((!strEq ((a0.Zc.getD i1 default).Ww) (⟨#[]⟩ : ByteArray)) && (decide (r3 < 0)))) && (!strEq ((a0.Zc.getD i1 default).Qr) (⟨#[]⟩ : ByteArray))) then S.Ui a0 ((a0.Zc.getD i1 default).Qr) else default) (fun r4 => bif ((!strEq ((a0.Zc.getD i1 default).Ww) (⟨#[]⟩ : ByteArray)) && (decide (r3 < 0))) || ((!strEq ((a0.Zc.getD i1 default).Qr) (⟨#[]⟩ : ByteArray)) && (decide (r4 < 0))) then (some (.inr 5)) else none))
theorem Zdu (a0 : Zh) (ha0 : Zr a0) (i0 : Nat) : loopM (M.J6 a0) (i0 : Int) = some (runN (S.J6 a0) (.inl ()) i0 (a0.Zc.length - i0)) := by
 have hM := Zm
 have hni1 : a0.Zc.length ≤ maxLen := (Zr.Zc ha0).1
 refine Xo (n := a0.Zc.length) (fun i1 hi1 => ?_) (fun m hm => ?_) i0
 ·unfold M.J6 S.J6
  try simp only [Int.toNat_natCast]
  refine Yq (dt (by omega)) ?_
  refine Jc (Zz (dt (by omega)) (Zz (dt (by omega)) Ye)) ?_
  refine Xu (Vk fun hg => (Zcx a0 ((a0.Zc.getD i1 default).Ww) ha0 (Yt.Ww (LL.getD (Zr.Zc ha0) Yt.dflt i1)))) (fun r3 her3 => ?_)
  refine Xu (Vk fun hg => (Zcx a0 ((a0.Zc.getD i1 default).Qr) ha0 (Yt.Qr (LL.getD (Zr.Zc ha0) Yt.dflt i1)))) (fun r4 her4 => ?_)
  refine Yj (fun hb1 => ?_) (fun hb1 => ?_)
  ·exact X3
  ·exact V6 (by omega)
 ·unfold M.J6
  try simp only [Int.toNat_natCast]
  exact Yr (decide_eq_false (by omega)) rfl
noncomputable def S.VH (a0 : Zh) : Int :=
 letS (runN (S.J6 a0) (.inl ()) 0 a0.Zc.length) (fun y5 => Sum.elim (fun _ => 0) (fun y7 => y7) y5)
theorem Zf3 (a0 : Zh) (ha0 : Zr a0) : M.VH a0 = some (S.VH a0) := by
 have hM := Zm
 unfold M.VH S.VH
 refine Z8 (Zdu a0 ha0 0) (fun y5 hey5 => ?_)
 refine Jr (fun _ hl => ?_) (fun y7 hly7 => ?_)
 ·rfl
 ·rfl
noncomputable def S.J7 (a0 : Zh) (a1 : Int) (i1 : Nat) : Option (Unit ⊕ Int) :=
 bif (((a0.Zc.getD i1 default).ZL) != 0) && (((a0.Zc.getD i1 default).Zn) == a1) then (some (.inr (i1 : Int))) else none
theorem Zdv (a0 : Zh) (a1 : Int) (ha0 : Zr a0) (i0 : Nat) : loopM (M.J7 a0 a1) (i0 : Int) = some (runN (S.J7 a0 a1) (.inl ()) i0 (a0.Zc.length - i0)) := by
 have hM := Zm
 have hni1 : a0.Zc.length ≤ maxLen := (Zr.Zc ha0).1
 refine Xo (n := a0.Zc.length) (fun i1 hi1 => ?_) (fun m hm => ?_) i0
 ·unfold M.J7 S.J7
  try simp only [Int.toNat_natCast]
  refine Yq (dt (by omega)) ?_
  refine Jc (Zz (dt (by omega)) (Zz (dt (by omega)) (Zz (X4 fun hg => (dt (by first | omega | (simp; omega) | (simp at *; omega)))) (Zz (X4 fun hg => (dt (by first | omega | (simp; omega) | (simp at *; omega)))) Ye)))) ?_
  refine Yj (fun hb1 => ?_) (fun hb1 => ?_)
  ·exact X3
  ·exact V6 (by omega)
 ·unfold M.J7
  try simp only [Int.toNat_natCast]
  exact Yr (decide_eq_false (by omega)) rfl
noncomputable def S.J8 (a0 : Zh) (a1 : Int) : Int :=
 letS (runN (S.J7 a0 a1) (.inl ()) 0 a0.Zc.length) (fun y3 => Sum.elim (fun _ => -1) (fun y5 => y5) y3)
theorem Zba (a0 : Zh) (a1 : Int) (ha0 : Zr a0) : M.J8 a0 a1 = some (S.J8 a0 a1) := by
 have hM := Zm
 unfold M.J8 S.J8
 refine Z8 (Zdv a0 a1 ha0 0) (fun y3 hey3 => ?_)
 refine Jr (fun _ hl => ?_) (fun y5 hly5 => ?_)
 ·rfl
 ·rfl
noncomputable def S.QO (a0 : Zh) (a1 : ByteArray) (i1 : Nat) : Option (Unit ⊕ Int) :=
 bif strEq ((a0.Zc.getD i1 default).XB) a1 then (some (.inr (i1 : Int))) else none
theorem ZbK (a0 : Zh) (a1 : ByteArray) (ha0 : Zr a0) (ha1 : a1.size ≤ maxLen) (i0 : Nat) : loopM (M.QO a0 a1) (i0 : Int) = some (runN (S.QO a0 a1) (.inl ()) i0 (a0.Zc.length - i0)) := by
 have hM := Zm
 have hni1 : a0.Zc.length ≤ maxLen := (Zr.Zc ha0).1
 refine Xo (n := a0.Zc.length) (fun i1 hi1 => ?_) (fun m hm => ?_) i0
 ·unfold M.QO S.QO
  try simp only [Int.toNat_natCast]
  refine Yq (dt (by omega)) ?_
  refine Jc (Zz (dt (by omega)) (Zz (dt (by omega)) Ye)) ?_
  refine Yj (fun hb1 => ?_) (fun hb1 => ?_)
  ·exact X3
  ·exact V6 (by omega)
 ·unfold M.QO
  try simp only [Int.toNat_natCast]
  exact Yr (decide_eq_false (by omega)) rfl
noncomputable def S.Jt (a0 : Zh) (a1 : ByteArray) : Int :=
 letS (runN (S.QO a0 a1) (.inl ()) 0 a0.Zc.length) (fun y3 => Sum.elim (fun _ => -1) (fun y5 => y5) y3)
theorem Zeb (a0 : Zh) (a1 : ByteArray) (ha0 : Zr a0) (ha1 : a1.size ≤ maxLen) : M.Jt a0 a1 = some (S.Jt a0 a1) := by
 have hM := Zm
 unfold M.Jt S.Jt
 refine Z8 (ZbK a0 a1 ha0 ha1 0) (fun y3 hey3 => ?_)
 refine Jr (fun _ hl => ?_) (fun y5 hly5 => ?_)
 ·rfl
 ·rfl
theorem Zcy (a0 : Zh) (a1 : ByteArray) : S.Jt a0 a1 < (a0.Zc.length : Int) := by
 unfold S.Jt
 simp only [letS]
 exact Zm5 (fun i => by unfold S.QO; cases strEq (a0.Zc.getD i default).XB a1 <;> simp) _
noncomputable def S.J9 (a0 : Zh) (i1 : Nat) (i11 : Nat) : Option (Unit ⊕ Int) :=
 bif (((((a0.Zp.getD i11 default).Zl).Zn) == (((a0.Zp.getD i1 default).Zl).Zn)) && (((((a0.Zp.getD i11 default).Zl).ZL) == (((a0.Zp.getD i1 default).Zl).ZL)) && true)) && (((a0.Zp.getD i11 default).Z2) == ((a0.Zp.getD i1 default).Z2)) then (some (.inr 6)) else none
theorem Zdw (a0 : Zh) (i1 : Nat) (ha0 : Zr a0) (hi1 : i1 < a0.Zp.length) (i0 : Nat) : loopM (M.J9 a0 (i1 : Int)) (i0 : Int) = some (runN (S.J9 a0 i1) (.inl ()) i0 (i1 - i0)) := by
 have hM := Zm
 have hni1 : a0.Zp.length ≤ maxLen := (Zr.Zp ha0).1
 have hni11 : i1 ≤ maxLen := (by omega)
 refine Xo (n := i1) (fun i11 hi11 => ?_) (fun m hm => ?_) i0
 ·unfold M.J9 S.J9
  try simp only [Int.toNat_natCast]
  refine Yq (dt (by omega)) ?_
  refine Jc (Zz (dt (by omega)) (Zz (dt (by omega)) (Zz (X4 fun hg => (dt (by first | omega | (simp; omega) | (simp at *; omega)))) (Zz (X4 fun hg => (dt (by first | omega | (simp; omega) | (simp at *; omega)))) Ye)))) ?_
  refine Yj (fun hb9 => ?_) (fun hb9 => ?_)
  ·exact X3
  ·exact V6 (by omega)
 ·unfold M.J9
  try simp only [Int.toNat_natCast]
  exact Yr (decide_eq_false (by omega)) rfl
noncomputable def S.QZ (a0 : Zh) (i1 : Nat) (_p10 : Unit) : Option (Unit ⊕ Int) :=
 letS (runN (S.J9 a0 i1) (.inl ()) 0 i1) (fun y13 => Sum.elim (fun _ => none) (fun y15 => some (.inr y15)) y13)
theorem KU (a0 : Zh) (i1 : Nat) (_p10 : Unit) (ha0 : Zr a0) (hi1 : i1 < a0.Zp.length) : M.QZ a0 (i1 : Int) _p10 = some (rdN (S.QZ a0 i1 _p10) i1) := by
 have hM := Zm
 have hni1 : a0.Zp.length ≤ maxLen := (Zr.Zp ha0).1
 unfold M.QZ S.QZ
 try simp only [Int.toNat_natCast]
 refine Xu (Zdw a0 i1 ha0 hi1 0) (fun y13 hey13 => ?_)
 refine Wv (fun _ hl => ?_) (fun y15 hly15 => ?_)
 ·exact V6 (by omega)
 ·exact X3
noncomputable def S.Q0 (a0 : Zh) (i1 : Nat) (p5 : Int) : Option (Unit ⊕ Int) :=
 letS (S.YZ ((a0.Zp.getD i1 default).Zl)) (fun r6 => letS (bif ((!((!r6) || (p5 != 1))) && (((a0.Zp.getD i1 default).QI) != 0)) then S.J8 a0 ((a0.Zp.getD i1 default).QI) else default) (fun r7 => letS (bif (!(((!r6) || (p5 != 1)) || ((((a0.Zp.getD i1 default).QI) != 0) && (decide (r7 ≥ 0))))) then S.ZN ((a0.Zp.getD i1 default).Z2) 1 255 else default) (fun r8 => letS (bif (!((((!r6) || (p5 != 1)) || ((((a0.Zp.getD i1 default).QI) != 0) && (decide (r7 ≥ 0)))) || (!r8))) then S.ZN ((a0.Zp.getD i1 default).UA) 0 65535 else default) (fun r9 => bif ((((!r6) || (p5 != 1)) || ((((a0.Zp.getD i1 default).QI) != 0) && (decide (r7 ≥ 0)))) || (!r8)) || (!r9) then (some (.inr 1)) else (bif !strEq ((a0.Zp.getD i1 default).ZH) (⟨#[]⟩ : ByteArray) then (letS (S.Jt a0 ((a0.Zp.getD i1 default).ZH)) (fun r16 => bif decide (r16 < 0) then (some (.inr 5)) else (bif ((a0.Zc.getD r16.toNat default).ZL) == 0 then (some (.inr 1)) else (S.QZ a0 i1 ())))) else (S.QZ a0 i1 ()))))))
theorem KV (a0 : Zh) (i1 : Nat) (p5 : Int) (ha0 : Zr a0) (hi1 : i1 < a0.Zp.length) : M.Q0 a0 (i1 : Int) p5 = some (rdN (S.Q0 a0 i1 p5) i1) := by
 have hM := Zm
 have hni1 : a0.Zp.length ≤ maxLen := (Zr.Zp ha0).1
 unfold M.Q0 S.Q0
 try simp only [Int.toNat_natCast]
 refine Xu (W5 ((a0.Zp.getD i1 default).Zl)) (fun r6 her6 => ?_)
 refine Xu (Vk fun hg => (Zba a0 ((a0.Zp.getD i1 default).QI) ha0)) (fun r7 her7 => ?_)
 refine Xu (Vk fun hg => (XY ((a0.Zp.getD i1 default).Z2) 1 255)) (fun r8 her8 => ?_)
 refine Xu (Vk fun hg => (XY ((a0.Zp.getD i1 default).UA) 0 65535)) (fun r9 her9 => ?_)
 refine Yj (fun hb5 => ?_) (fun hb5 => ?_)
 ·exact X3
 ·refine Yj (fun hb6 => ?_) (fun hb6 => ?_)
  ·refine Xu (Zeb a0 ((a0.Zp.getD i1 default).ZH) ha0 (VQ.ZH (LL.getD (Zr.Zp ha0) VQ.dflt i1))) (fun r16 her16 => ?_)
   have hrr16 := Zcy a0 ((a0.Zp.getD i1 default).ZH)
   refine Yj (fun hb7 => ?_) (fun hb7 => ?_)
   ·exact X3
   ·refine Jc (Zz (dt (by first | omega | (simp; omega) | (simp at *; omega))) (Zz (dt (by first | omega | (simp; omega) | (simp at *; omega))) Ye)) ?_
    refine Yj (fun hb8 => ?_) (fun hb8 => ?_)
    ·exact X3
    ·exact KU a0 i1 () ha0 hi1
  ·exact KU a0 i1 () ha0 hi1
noncomputable def S.Q1 (a0 : Zh) (i1 : Nat) (p4 : Int) : Option (Unit ⊕ Int) :=
 bif (a0.Zp.getD i1 default).Z1 then (S.Q0 a0 i1 (wr .i64 (p4 + 1))) else (S.Q0 a0 i1 p4)
theorem KW (a0 : Zh) (i1 : Nat) (p4 : Int) (ha0 : Zr a0) (hi1 : i1 < a0.Zp.length) : M.Q1 a0 (i1 : Int) p4 = some (rdN (S.Q1 a0 i1 p4) i1) := by
 have hM := Zm
 have hni1 : a0.Zp.length ≤ maxLen := (Zr.Zp ha0).1
 unfold M.Q1 S.Q1
 try simp only [Int.toNat_natCast]
 refine Yj (fun hb4 => ?_) (fun hb4 => ?_)
 ·exact KV a0 i1 (wr .i64 (p4 + 1)) ha0 hi1
 ·exact KV a0 i1 p4 ha0 hi1
noncomputable def S.Q2 (a0 : Zh) (i1 : Nat) (p3 : Int) : Option (Unit ⊕ Int) :=
 bif !strEq ((a0.Zp.getD i1 default).ZH) (⟨#[]⟩ : ByteArray) then (S.Q1 a0 i1 (wr .i64 (p3 + 1))) else (S.Q1 a0 i1 p3)
theorem KX (a0 : Zh) (i1 : Nat) (p3 : Int) (ha0 : Zr a0) (hi1 : i1 < a0.Zp.length) : M.Q2 a0 (i1 : Int) p3 = some (rdN (S.Q2 a0 i1 p3) i1) := by
 have hM := Zm
 have hni1 : a0.Zp.length ≤ maxLen := (Zr.Zp ha0).1
 unfold M.Q2 S.Q2
 try simp only [Int.toNat_natCast]
 refine Yj (fun hb3 => ?_) (fun hb3 => ?_)
 ·exact KW a0 i1 (wr .i64 (p3 + 1)) ha0 hi1
 ·exact KW a0 i1 p3 ha0 hi1
noncomputable def S.Va (a0 : Zh) (i1 : Nat) : Option (Unit ⊕ Int) :=
 bif ((a0.Zp.getD i1 default).QI) != 0 then (S.Q2 a0 i1 1) else (S.Q2 a0 i1 0)
theorem Zdx (a0 : Zh) (ha0 : Zr a0) (i0 : Nat) : loopM (M.Va a0) (i0 : Int) = some (runN (S.Va a0) (.inl ()) i0 (a0.Zp.length - i0)) := by
 have hM := Zm
 have hni1 : a0.Zp.length ≤ maxLen := (Zr.Zp ha0).1
 refine Xo (n := a0.Zp.length) (fun i1 hi1 => ?_) (fun m hm => ?_) i0
 ·unfold M.Va S.Va
  try simp only [Int.toNat_natCast]
  refine Yq (dt (by omega)) ?_
  refine Jc (Zz (dt (by omega)) (Zz (dt (by omega)) Ye)) ?_
  refine Yj (fun hb2 => ?_) (fun hb2 => ?_)
  ·exact KX a0 i1 1 ha0 hi1
  ·exact KX a0 i1 0 ha0 hi1
 ·unfold M.Va
  try simp only [Int.toNat_natCast]
  exact Yr (decide_eq_false (by omega)) rfl
noncomputable def S.VI (a0 : Zh) : Int :=
 bif decide ((a0.Zp.length : Int) > 16) then 7 else (letS (runN (S.Va a0) (.inl ()) 0 a0.Zp.length) (fun y17 => Sum.elim (fun _ => 0) (fun y19 => y19) y17))
theorem Zf4 (a0 : Zh) (ha0 : Zr a0) : M.VI a0 = some (S.VI a0) := by
 have hM := Zm
 unfold M.VI S.VI
 refine VT (fun hb1 => ?_) (fun hb1 => ?_)
 ·rfl
 ·refine Z8 (Zdx a0 ha0 0) (fun y17 hey17 => ?_)
  refine Jr (fun _ hl => ?_) (fun y19 hly19 => ?_)
  ·rfl
  ·rfl
noncomputable def S.JR (a0 : Zh) (a1 : ByteArray) (i1 : Nat) : Option (Unit ⊕ Int) :=
 bif strEq ((a0.XJ.getD i1 default).XB) a1 then (some (.inr (i1 : Int))) else none
theorem Zcz (a0 : Zh) (a1 : ByteArray) (ha0 : Zr a0) (ha1 : a1.size ≤ maxLen) (i0 : Nat) : loopM (M.JR a0 a1) (i0 : Int) = some (runN (S.JR a0 a1) (.inl ()) i0 (a0.XJ.length - i0)) := by
 have hM := Zm
 have hni1 : a0.XJ.length ≤ maxLen := (Zr.XJ ha0).1
 refine Xo (n := a0.XJ.length) (fun i1 hi1 => ?_) (fun m hm => ?_) i0
 ·unfold M.JR S.JR
  try simp only [Int.toNat_natCast]
  refine Yq (dt (by omega)) ?_
  refine Jc (Zz (dt (by omega)) (Zz (dt (by omega)) Ye)) ?_
  refine Yj (fun hb1 => ?_) (fun hb1 => ?_)
  ·exact X3
  ·exact V6 (by omega)
 ·unfold M.JR
  try simp only [Int.toNat_natCast]
  exact Yr (decide_eq_false (by omega)) rfl
noncomputable def S.Q9 (a0 : Zh) (a1 : ByteArray) : Int :=
 letS (runN (S.JR a0 a1) (.inl ()) 0 a0.XJ.length) (fun y3 => Sum.elim (fun _ => -1) (fun y5 => y5) y3)
theorem Kk (a0 : Zh) (a1 : ByteArray) (ha0 : Zr a0) (ha1 : a1.size ≤ maxLen) : M.Q9 a0 a1 = some (S.Q9 a0 a1) := by
 have hM := Zm
 unfold M.Q9 S.Q9
 refine Z8 (Zcz a0 a1 ha0 ha1 0) (fun y3 hey3 => ?_)
 refine Jr (fun _ hl => ?_) (fun y5 hly5 => ?_)
 ·rfl
 ·rfl
noncomputable def S.Yz (a1 : List Qt) (i1 : Nat) (i7 : Nat) : Option (Unit ⊕ Int) :=
 bif ((a1.getD i7 default).WR) == ((a1.getD i1 default).WR) then (some (.inr 4)) else none
theorem KN (a1 : List Qt) (i1 : Nat) (ha1 : LL VS a1) (hi1 : i1 < a1.length) (i0 : Nat) : loopM (M.Yz a1 (i1 : Int)) (i0 : Int) = some (runN (S.Yz a1 i1) (.inl ()) i0 (i1 - i0)) := by
 have hM := Zm
 have hni1 : a1.length ≤ maxLen := ha1.1
 have hni7 : i1 ≤ maxLen := (by omega)
 refine Xo (n := i1) (fun i7 hi7 => ?_) (fun m hm => ?_) i0
 ·unfold M.Yz S.Yz
  try simp only [Int.toNat_natCast]
  refine Yq (dt (by omega)) ?_
  refine Jc (Zz (dt (by omega)) (Zz (dt (by omega)) Ye)) ?_
  refine Yj (fun hb5 => ?_) (fun hb5 => ?_)
  ·exact X3
  ·exact V6 (by omega)
 ·unfold M.Yz
  try simp only [Int.toNat_natCast]
  exact Yr (decide_eq_false (by omega)) rfl
noncomputable def S.YA (a0 : Zh) (a1 : List Qt) (a2 : Int) (a3 : Int) (a4 : Int) (i1 : Nat) : Option (Unit ⊕ Int) :=
 letS (S.ZN ((a1.getD i1 default).WR) 1 5) (fun r3 => letS (bif (!((!r3) || (((a1.getD i1 default).WR) == a2))) then S.ZN ((a1.getD i1 default).Qc) a3 a4 else default) (fun r4 => letS (bif (!(((!r3) || (((a1.getD i1 default).WR) == a2)) || (!r4))) then S.ZN ((a1.getD i1 default).UA) 0 65535 else default) (fun r5 => bif (((!r3) || (((a1.getD i1 default).WR) == a2)) || (!r4)) || (!r5) then (some (.inr 1)) else (bif (((a2 == 3) && (((a1.getD i1 default).Zeq) != 1)) && (((a1.getD i1 default).Zeq) != 2)) || ((a2 != 3) && (((a1.getD i1 default).Zeq) != 0)) then (some (.inr 1)) else (letS (bif (!strEq ((a1.getD i1 default).ZdN) (⟨#[]⟩ : ByteArray)) then S.Q9 a0 ((a1.getD i1 default).ZdN) else default) (fun r6 => bif (!strEq ((a1.getD i1 default).ZdN) (⟨#[]⟩ : ByteArray)) && (decide (r6 < 0)) then (some (.inr 5)) else (letS (runN (S.Yz a1 i1) (.inl ()) 0 i1) (fun y9 => Sum.elim (fun _ => none) (fun y11 => some (.inr y11)) y9))))))))
theorem KO (a0 : Zh) (a1 : List Qt) (a2 : Int) (a3 : Int) (a4 : Int) (ha0 : Zr a0) (ha1 : LL VS a1) (i0 : Nat) : loopM (M.YA a0 a1 a2 a3 a4) (i0 : Int) = some (runN (S.YA a0 a1 a2 a3 a4) (.inl ()) i0 (a1.length - i0)) := by
 have hM := Zm
 have hni1 : a1.length ≤ maxLen := ha1.1
 refine Xo (n := a1.length) (fun i1 hi1 => ?_) (fun m hm => ?_) i0
 ·unfold M.YA S.YA
  try simp only [Int.toNat_natCast]
  refine Yq (dt (by omega)) ?_
  refine Jc (Zz (dt (by omega)) (Zz (dt (by omega)) Ye)) ?_
  refine Xu (XY ((a1.getD i1 default).WR) 1 5) (fun r3 her3 => ?_)
  refine Xu (Vk fun hg => (XY ((a1.getD i1 default).Qc) a3 a4)) (fun r4 her4 => ?_)
  refine Xu (Vk fun hg => (XY ((a1.getD i1 default).UA) 0 65535)) (fun r5 her5 => ?_)
  refine Yj (fun hb2 => ?_) (fun hb2 => ?_)
  ·exact X3
  ·refine Yj (fun hb3 => ?_) (fun hb3 => ?_)
   ·exact X3
   ·refine Xu (Vk fun hg => (Kk a0 ((a1.getD i1 default).ZdN) ha0 (VS.ZdN (LL.getD ha1 VS.dflt i1)))) (fun r6 her6 => ?_)
    refine Yj (fun hb4 => ?_) (fun hb4 => ?_)
    ·exact X3
    ·refine Xu (KN a1 i1 ha1 hi1 0) (fun y9 hey9 => ?_)
     refine Wv (fun _ hl => ?_) (fun y11 hly11 => ?_)
     ·exact V6 (by omega)
     ·exact X3
 ·unfold M.YA
  try simp only [Int.toNat_natCast]
  exact Yr (decide_eq_false (by omega)) rfl
noncomputable def S.Yc (a0 : Zh) (a1 : List Qt) (a2 : Int) (a3 : Int) (a4 : Int) : Int :=
 bif decide ((a1.length : Int) > 4) then 7 else (letS (runN (S.YA a0 a1 a2 a3 a4) (.inl ()) 0 a1.length) (fun y12 => Sum.elim (fun _ => 0) (fun y14 => y14) y12))
theorem UM (a0 : Zh) (a1 : List Qt) (a2 : Int) (a3 : Int) (a4 : Int) (ha0 : Zr a0) (ha1 : LL VS a1) : M.Yc a0 a1 a2 a3 a4 = some (S.Yc a0 a1 a2 a3 a4) := by
 have hM := Zm
 unfold M.Yc S.Yc
 refine VT (fun hb1 => ?_) (fun hb1 => ?_)
 ·rfl
 ·refine Z8 (KO a0 a1 a2 a3 a4 ha0 ha1 0) (fun y12 hey12 => ?_)
  refine Jr (fun _ hl => ?_) (fun y14 hly14 => ?_)
  ·rfl
  ·rfl
noncomputable def S.Jg (a0 : Zh) (i2 : Nat) (i6 : Nat) : Option (Unit ⊕ Int) :=
 letS (bif (((a0.Yw.Z4.getD i6 default).WI) == ((a0.Yw.Z4.getD i2 default).WI)) then S.QN ((a0.Yw.Z4.getD i6 default).Zl) ((a0.Yw.Z4.getD i2 default).Zl) else default) (fun r8 => bif (((a0.Yw.Z4.getD i6 default).WI) == ((a0.Yw.Z4.getD i2 default).WI)) && r8 then (some (.inr 6)) else none)
theorem ZbL (a0 : Zh) (i2 : Nat) (ha0 : Zr a0) (hi2 : i2 < a0.Yw.Z4.length) (i0 : Nat) : loopM (M.Jg a0 (i2 : Int)) (i0 : Int) = some (runN (S.Jg a0 i2) (.inl ()) i0 (i2 - i0)) := by
 have hM := Zm
 have hni2 : a0.Yw.Z4.length ≤ maxLen := (JW.Z4 (Zr.Yw ha0))
 have hni6 : i2 ≤ maxLen := (by omega)
 refine Xo (n := i2) (fun i6 hi6 => ?_) (fun m hm => ?_) i0
 ·unfold M.Jg S.Jg
  try simp only [Int.toNat_natCast]
  refine Yq (dt (by omega)) ?_
  refine Xu (Vk fun hg => (Zaa ((a0.Yw.Z4.getD i6 default).Zl) ((a0.Yw.Z4.getD i2 default).Zl))) (fun r8 her8 => ?_)
  refine Jc (Zz (dt (by omega)) (Zz (dt (by omega)) (Zz (dt (by omega)) (Zz (dt (by omega)) (Zz (X4 fun hg => (dt (by first | omega | (simp; omega) | (simp at *; omega)))) (Zz (X4 fun hg => (dt (by first | omega | (simp; omega) | (simp at *; omega)))) (Zz (X4 fun hg => (dt (by first | omega | (simp; omega) | (simp at *; omega)))) (Zz (X4 fun hg => (dt (by first | omega | (simp; omega) | (simp at *; omega)))) Ye)))))))) ?_
  refine Yj (fun hb6 => ?_) (fun hb6 => ?_)
  ·exact X3
  ·exact V6 (by omega)
 ·unfold M.Jg
  try simp only [Int.toNat_natCast]
  exact Yr (decide_eq_false (by omega)) rfl
noncomputable def S.Jh (a0 : Zh) (i2 : Nat) : Option (Unit ⊕ Int) :=
 letS (S.ZN ((a0.Yw.Z4.getD i2 default).WI) 0 255) (fun r4 => letS (bif (!(!r4)) then S.YZ ((a0.Yw.Z4.getD i2 default).Zl) else default) (fun r5 => bif (!r4) || (!r5) then (some (.inr 1)) else (letS (runN (S.Jg a0 i2) (.inl ()) 0 i2) (fun y9 => Sum.elim (fun _ => none) (fun y11 => some (.inr y11)) y9))))
theorem ZbM (a0 : Zh) (ha0 : Zr a0) (i0 : Nat) : loopM (M.Jh a0) (i0 : Int) = some (runN (S.Jh a0) (.inl ()) i0 (a0.Yw.Z4.length - i0)) := by
 have hM := Zm
 have hni2 : a0.Yw.Z4.length ≤ maxLen := (JW.Z4 (Zr.Yw ha0))
 refine Xo (n := a0.Yw.Z4.length) (fun i2 hi2 => ?_) (fun m hm => ?_) i0
 ·unfold M.Jh S.Jh
  try simp only [Int.toNat_natCast]
  refine Yq (dt (by omega)) ?_
  refine Xu (XY ((a0.Yw.Z4.getD i2 default).WI) 0 255) (fun r4 her4 => ?_)
  refine Xu (Vk fun hg => (W5 ((a0.Yw.Z4.getD i2 default).Zl))) (fun r5 her5 => ?_)
  refine Jc (Zz (dt (by omega)) (Zz (dt (by omega)) (Zz (X4 fun hg => (dt (by first | omega | (simp; omega) | (simp at *; omega)))) (Zz (X4 fun hg => (dt (by first | omega | (simp; omega) | (simp at *; omega)))) Ye)))) ?_
  refine Yj (fun hb5 => ?_) (fun hb5 => ?_)
  ·exact X3
  ·refine Xu (ZbL a0 i2 ha0 hi2 0) (fun y9 hey9 => ?_)
   refine Wv (fun _ hl => ?_) (fun y11 hly11 => ?_)
   ·exact V6 (by omega)
   ·exact X3
 ·unfold M.Jh
  try simp only [Int.toNat_natCast]
  exact Yr (decide_eq_false (by omega)) rfl
noncomputable def S.Ju (a0 : Zh) : Int :=
 bif !a0.Yw.We then (bif ((a0.Yw.Z2 != 0) || (decide ((a0.Yw.Z4.length : Int) > 0))) || (decide ((a0.Yw.Zu.length : Int) > 0)) then 1 else 0) else (letS (S.ZN a0.Yw.Z2 1 255) (fun r1 => bif !r1 then 1 else (bif decide ((a0.Yw.Z4.length : Int) > 4) then 7 else (letS (runN (S.Jh a0) (.inl ()) 0 a0.Yw.Z4.length) (fun y12 => Sum.elim (fun _ => letS (S.Yc a0 a0.Yw.Zu 3 0 16777215) (fun r15 => r15)) (fun y14 => y14) y12)))))
theorem Zec (a0 : Zh) (ha0 : Zr a0) : M.Ju a0 = some (S.Ju a0) := by
 have hM := Zm
 unfold M.Ju S.Ju
 refine VT (fun hb1 => ?_) (fun hb1 => ?_)
 ·refine VT (fun hb2 => ?_) (fun hb2 => ?_)
  ·rfl
  ·rfl
 ·refine Z8 (XY a0.Yw.Z2 1 255) (fun r1 her1 => ?_)
  refine VT (fun hb3 => ?_) (fun hb3 => ?_)
  ·rfl
  ·refine VT (fun hb4 => ?_) (fun hb4 => ?_)
   ·rfl
   ·refine Z8 (ZbM a0 ha0 0) (fun y12 hey12 => ?_)
    refine Jr (fun _ hl => ?_) (fun y14 hly14 => ?_)
    ·refine Z8 (UM a0 a0.Yw.Zu 3 0 16777215 ha0 (JW.Zu (Zr.Yw ha0))) (fun r15 her15 => ?_)
     rfl
    ·rfl
noncomputable def S.J0 (a0 : Zh) : Int :=
 bif !a0.YC.We then (bif (((a0.YC.Z2 != 0) || (!strEq a0.YC.Ww (⟨#[]⟩ : ByteArray))) || (!strEq a0.YC.Qr (⟨#[]⟩ : ByteArray))) || (decide ((a0.YC.Zu.length : Int) > 0)) then 1 else 0) else (letS (S.ZN a0.YC.Z2 1 255) (fun r1 => bif !r1 then 1 else (letS (bif (!strEq a0.YC.Ww (⟨#[]⟩ : ByteArray)) then S.Qa a0 a0.YC.Ww else default) (fun r2 => letS (bif ((!((!strEq a0.YC.Ww (⟨#[]⟩ : ByteArray)) && (decide (r2 < 0)))) && (!strEq a0.YC.Qr (⟨#[]⟩ : ByteArray))) then S.Qa a0 a0.YC.Qr else default) (fun r3 => bif ((!strEq a0.YC.Ww (⟨#[]⟩ : ByteArray)) && (decide (r2 < 0))) || ((!strEq a0.YC.Qr (⟨#[]⟩ : ByteArray)) && (decide (r3 < 0))) then 5 else (letS (S.Yc a0 a0.YC.Zu 4 1 15) (fun r4 => r4)))))))
theorem ZeM (a0 : Zh) (ha0 : Zr a0) : M.J0 a0 = some (S.J0 a0) := by
 have hM := Zm
 unfold M.J0 S.J0
 refine VT (fun hb1 => ?_) (fun hb1 => ?_)
 ·refine VT (fun hb2 => ?_) (fun hb2 => ?_)
  ·rfl
  ·rfl
 ·refine Z8 (XY a0.YC.Z2 1 255) (fun r1 her1 => ?_)
  refine VT (fun hb3 => ?_) (fun hb3 => ?_)
  ·rfl
  ·refine Z8 (Vk fun hg => (GR a0 a0.YC.Ww ha0 (Yh.Ww (Zr.YC ha0)))) (fun r2 her2 => ?_)
   refine Z8 (Vk fun hg => (GR a0 a0.YC.Qr ha0 (Yh.Qr (Zr.YC ha0)))) (fun r3 her3 => ?_)
   refine VT (fun hb4 => ?_) (fun hb4 => ?_)
   ·rfl
   ·refine Z8 (UM a0 a0.YC.Zu 4 1 15 ha0 (Yh.Zu (Zr.YC ha0))) (fun r4 her4 => ?_)
    rfl
noncomputable def S.Ji (a0 : Zh) (i1 : Nat) (i6 : Nat) : Option (Unit ⊕ Int) :=
 bif ((a0.Xv.Zo.getD i6 default).Zn) == ((a0.Xv.Zo.getD i1 default).Zn) then (some (.inr 4)) else none
theorem ZbN (a0 : Zh) (i1 : Nat) (ha0 : Zr a0) (hi1 : i1 < a0.Xv.Zo.length) (i0 : Nat) : loopM (M.Ji a0 (i1 : Int)) (i0 : Int) = some (runN (S.Ji a0 i1) (.inl ()) i0 (i1 - i0)) := by
 have hM := Zm
 have hni1 : a0.Xv.Zo.length ≤ maxLen := (Xp.Zo (Zr.Xv ha0)).1
 have hni6 : i1 ≤ maxLen := (by omega)
 refine Xo (n := i1) (fun i6 hi6 => ?_) (fun m hm => ?_) i0
 ·unfold M.Ji S.Ji
  try simp only [Int.toNat_natCast]
  refine Yq (dt (by omega)) ?_
  refine Jc (Zz (dt (by omega)) (Zz (dt (by omega)) (Zz (dt (by omega)) (Zz (dt (by omega)) Ye)))) ?_
  refine Yj (fun hb4 => ?_) (fun hb4 => ?_)
  ·exact X3
  ·exact V6 (by omega)
 ·unfold M.Ji
  try simp only [Int.toNat_natCast]
  exact Yr (decide_eq_false (by omega)) rfl
noncomputable def S.Jj (a0 : Zh) (i1 : Nat) : Option (Unit ⊕ Int) :=
 letS (bif (!(((a0.Xv.Zo.getD i1 default).Zn) == 0)) then S.ZN ((a0.Xv.Zo.getD i1 default).Kq) 1 65535 else default) (fun r3 => bif (((a0.Xv.Zo.getD i1 default).Zn) == 0) || (!r3) then (some (.inr 1)) else (letS (bif (!strEq ((a0.Xv.Zo.getD i1 default).Ww) (⟨#[]⟩ : ByteArray)) then S.Q9 a0 ((a0.Xv.Zo.getD i1 default).Ww) else default) (fun r4 => letS (bif ((!((!strEq ((a0.Xv.Zo.getD i1 default).Ww) (⟨#[]⟩ : ByteArray)) && (decide (r4 < 0)))) && (!strEq ((a0.Xv.Zo.getD i1 default).Qr) (⟨#[]⟩ : ByteArray))) then S.Q9 a0 ((a0.Xv.Zo.getD i1 default).Qr) else default) (fun r5 => bif ((!strEq ((a0.Xv.Zo.getD i1 default).Ww) (⟨#[]⟩ : ByteArray)) && (decide (r4 < 0))) || ((!strEq ((a0.Xv.Zo.getD i1 default).Qr) (⟨#[]⟩ : ByteArray)) && (decide (r5 < 0))) then (some (.inr 5)) else (letS (runN (S.Ji a0 i1) (.inl ()) 0 i1) (fun y8 => Sum.elim (fun _ => none) (fun y10 => some (.inr y10)) y8))))))
theorem ZbO (a0 : Zh) (ha0 : Zr a0) (i0 : Nat) : loopM (M.Jj a0) (i0 : Int) = some (runN (S.Jj a0) (.inl ()) i0 (a0.Xv.Zo.length - i0)) := by
 have hM := Zm
 have hni1 : a0.Xv.Zo.length ≤ maxLen := (Xp.Zo (Zr.Xv ha0)).1
 refine Xo (n := a0.Xv.Zo.length) (fun i1 hi1 => ?_) (fun m hm => ?_) i0
 ·unfold M.Jj S.Jj
  try simp only [Int.toNat_natCast]
  refine Yq (dt (by omega)) ?_
  refine Xu (Vk fun hg => (XY ((a0.Xv.Zo.getD i1 default).Kq) 1 65535)) (fun r3 her3 => ?_)
  refine Jc (Zz (dt (by omega)) (Zz (dt (by omega)) (Zz (X4 fun hg => (dt (by first | omega | (simp; omega) | (simp at *; omega)))) (Zz (X4 fun hg => (dt (by first | omega | (simp; omega) | (simp at *; omega)))) Ye)))) ?_
  refine Yj (fun hb2 => ?_) (fun hb2 => ?_)
  ·exact X3
  ·refine Xu (Vk fun hg => (Kk a0 ((a0.Xv.Zo.getD i1 default).Ww) ha0 (Vw.Ww (LL.getD (Xp.Zo (Zr.Xv ha0)) Vw.dflt i1)))) (fun r4 her4 => ?_)
   refine Xu (Vk fun hg => (Kk a0 ((a0.Xv.Zo.getD i1 default).Qr) ha0 (Vw.Qr (LL.getD (Xp.Zo (Zr.Xv ha0)) Vw.dflt i1)))) (fun r5 her5 => ?_)
   refine Jc (Zz (dt (by omega)) (Zz (dt (by omega)) (Zz (X4 fun hg => (dt (by first | omega | (simp; omega) | (simp at *; omega)))) (Zz (X4 fun hg => (dt (by first | omega | (simp; omega) | (simp at *; omega)))) (Zz (X4 fun hg => (dt (by first | omega | (simp; omega) | (simp at *; omega)))) (Zz (X4 fun hg => (dt (by first | omega | (simp; omega) | (simp at *; omega)))) (Zz (X4 fun hg => (dt (by first | omega | (simp; omega) | (simp at *; omega)))) (Zz (X4 fun hg => (dt (by first | omega | (simp; omega) | (simp at *; omega)))) Ye)))))))) ?_
   refine Yj (fun hb3 => ?_) (fun hb3 => ?_)
   ·exact X3
   ·refine Xu (ZbN a0 i1 ha0 hi1 0) (fun y8 hey8 => ?_)
    refine Wv (fun _ hl => ?_) (fun y10 hly10 => ?_)
    ·exact V6 (by omega)
    ·exact X3
 ·unfold M.Jj
  try simp only [Int.toNat_natCast]
  exact Yr (decide_eq_false (by omega)) rfl
noncomputable def S.VJ (a0 : Zh) : Int :=
 bif decide ((a0.Xv.Zo.length : Int) > 8) then 7 else (letS (runN (S.Jj a0) (.inl ()) 0 a0.Xv.Zo.length) (fun y11 => Sum.elim (fun _ => 0) (fun y13 => y13) y11))
theorem Zed (a0 : Zh) (ha0 : Zr a0) : M.VJ a0 = some (S.VJ a0) := by
 have hM := Zm
 unfold M.VJ S.VJ
 refine VT (fun hb1 => ?_) (fun hb1 => ?_)
 ·rfl
 ·refine Z8 (ZbO a0 ha0 0) (fun y11 hey11 => ?_)
  refine Jr (fun _ hl => ?_) (fun y13 hly13 => ?_)
  ·rfl
  ·rfl
noncomputable def S.Qg (a0 : XI) (i1 : Nat) (i4 : Nat) : Option (Unit ⊕ Int) :=
 bif ((((a0.ZT.getD i4 default).Zn) == ((a0.ZT.getD i1 default).Zn)) && ((((a0.ZT.getD i4 default).ZL) == ((a0.ZT.getD i1 default).ZL)) && true)) then (some (.inr 4)) else none
theorem RY (a0 : XI) (i1 : Nat) (ha0 : Xp a0) (hi1 : i1 < a0.ZT.length) (i0 : Nat) : loopM (M.Qg a0 (i1 : Int)) (i0 : Int) = some (runN (S.Qg a0 i1) (.inl ()) i0 (i1 - i0)) := by
 have hM := Zm
 have hni1 : a0.ZT.length ≤ maxLen := (Xp.ZT ha0)
 have hni4 : i1 ≤ maxLen := (by omega)
 refine Xo (n := i1) (fun i4 hi4 => ?_) (fun m hm => ?_) i0
 ·unfold M.Qg S.Qg
  try simp only [Int.toNat_natCast]
  refine Yq (dt (by omega)) ?_
  refine Jc (Zz (dt (by omega)) (Zz (dt (by omega)) (Zz (dt (by omega)) (Zz (dt (by omega)) Ye)))) ?_
  refine Yj (fun hb3 => ?_) (fun hb3 => ?_)
  ·exact X3
  ·exact V6 (by omega)
 ·unfold M.Qg
  try simp only [Int.toNat_natCast]
  exact Yr (decide_eq_false (by omega)) rfl
noncomputable def S.Qh (a0 : XI) (i1 : Nat) : Option (Unit ⊕ Int) :=
 letS (S.YZ (a0.ZT.getD i1 default)) (fun r3 => bif !r3 then (some (.inr 1)) else (letS (runN (S.Qg a0 i1) (.inl ()) 0 i1) (fun y6 => Sum.elim (fun _ => none) (fun y8 => some (.inr y8)) y6)))
theorem RZ (a0 : XI) (ha0 : Xp a0) (i0 : Nat) : loopM (M.Qh a0) (i0 : Int) = some (runN (S.Qh a0) (.inl ()) i0 (a0.ZT.length - i0)) := by
 have hM := Zm
 have hni1 : a0.ZT.length ≤ maxLen := (Xp.ZT ha0)
 refine Xo (n := a0.ZT.length) (fun i1 hi1 => ?_) (fun m hm => ?_) i0
 ·unfold M.Qh S.Qh
  try simp only [Int.toNat_natCast]
  refine Yq (dt (by omega)) ?_
  refine Xu (W5 (a0.ZT.getD i1 default)) (fun r3 her3 => ?_)
  refine Jc (Zz (dt (by omega)) (Zz (dt (by omega)) Ye)) ?_
  refine Yj (fun hb2 => ?_) (fun hb2 => ?_)
  ·exact X3
  ·refine Xu (RY a0 i1 ha0 hi1 0) (fun y6 hey6 => ?_)
   refine Wv (fun _ hl => ?_) (fun y8 hly8 => ?_)
   ·exact V6 (by omega)
   ·exact X3
 ·unfold M.Qh
  try simp only [Int.toNat_natCast]
  exact Yr (decide_eq_false (by omega)) rfl
noncomputable def S.Qi (a0 : XI) (i12 : Nat) (i15 : Nat) : Option (Unit ⊕ Int) :=
 bif (((((a0.ZC.getD i15 default).Zl).Zn) == (((a0.ZC.getD i12 default).Zl).Zn)) && (((((a0.ZC.getD i15 default).Zl).ZL) == (((a0.ZC.getD i12 default).Zl).ZL)) && true)) then (some (.inr 4)) else none
theorem R0 (a0 : XI) (i12 : Nat) (ha0 : Xp a0) (hi12 : i12 < a0.ZC.length) (i0 : Nat) : loopM (M.Qi a0 (i12 : Int)) (i0 : Int) = some (runN (S.Qi a0 i12) (.inl ()) i0 (i12 - i0)) := by
 have hM := Zm
 have hni12 : a0.ZC.length ≤ maxLen := (Xp.ZC ha0)
 have hni15 : i12 ≤ maxLen := (by omega)
 refine Xo (n := i12) (fun i15 hi15 => ?_) (fun m hm => ?_) i0
 ·unfold M.Qi S.Qi
  try simp only [Int.toNat_natCast]
  refine Yq (dt (by omega)) ?_
  refine Jc (Zz (dt (by omega)) (Zz (dt (by omega)) (Zz (dt (by omega)) (Zz (dt (by omega)) Ye)))) ?_
  refine Yj (fun hb6 => ?_) (fun hb6 => ?_)
  ·exact X3
  ·exact V6 (by omega)
 ·unfold M.Qi
  try simp only [Int.toNat_natCast]
  exact Yr (decide_eq_false (by omega)) rfl
noncomputable def S.Qj (a0 : XI) (i12 : Nat) : Option (Unit ⊕ Int) :=
 letS (S.YZ ((a0.ZC.getD i12 default).Zl)) (fun r14 => bif !r14 then (some (.inr 1)) else (letS (runN (S.Qi a0 i12) (.inl ()) 0 i12) (fun y17 => Sum.elim (fun _ => none) (fun y19 => some (.inr y19)) y17)))
theorem R1 (a0 : XI) (ha0 : Xp a0) (i0 : Nat) : loopM (M.Qj a0) (i0 : Int) = some (runN (S.Qj a0) (.inl ()) i0 (a0.ZC.length - i0)) := by
 have hM := Zm
 have hni12 : a0.ZC.length ≤ maxLen := (Xp.ZC ha0)
 refine Xo (n := a0.ZC.length) (fun i12 hi12 => ?_) (fun m hm => ?_) i0
 ·unfold M.Qj S.Qj
  try simp only [Int.toNat_natCast]
  refine Yq (dt (by omega)) ?_
  refine Xu (W5 ((a0.ZC.getD i12 default).Zl)) (fun r14 her14 => ?_)
  refine Jc (Zz (dt (by omega)) (Zz (dt (by omega)) Ye)) ?_
  refine Yj (fun hb5 => ?_) (fun hb5 => ?_)
  ·exact X3
  ·refine Xu (R0 a0 i12 ha0 hi12 0) (fun y17 hey17 => ?_)
   refine Wv (fun _ hl => ?_) (fun y19 hly19 => ?_)
   ·exact V6 (by omega)
   ·exact X3
 ·unfold M.Qj
  try simp only [Int.toNat_natCast]
  exact Yr (decide_eq_false (by omega)) rfl
noncomputable def S.Qk (a0 : XI) (i23 : Nat) (i27 : Nat) : Option (Unit ⊕ Int) :=
 bif (((((a0.Zv.getD i27 default).Zl).Zn) == (((a0.Zv.getD i23 default).Zl).Zn)) && (((((a0.Zv.getD i27 default).Zl).ZL) == (((a0.Zv.getD i23 default).Zl).ZL)) && true)) then (some (.inr 4)) else none
theorem R2 (a0 : XI) (i23 : Nat) (ha0 : Xp a0) (hi23 : i23 < a0.Zv.length) (i0 : Nat) : loopM (M.Qk a0 (i23 : Int)) (i0 : Int) = some (runN (S.Qk a0 i23) (.inl ()) i0 (i23 - i0)) := by
 have hM := Zm
 have hni23 : a0.Zv.length ≤ maxLen := (Xp.Zv ha0)
 have hni27 : i23 ≤ maxLen := (by omega)
 refine Xo (n := i23) (fun i27 hi27 => ?_) (fun m hm => ?_) i0
 ·unfold M.Qk S.Qk
  try simp only [Int.toNat_natCast]
  refine Yq (dt (by omega)) ?_
  refine Jc (Zz (dt (by omega)) (Zz (dt (by omega)) Ye)) ?_
  refine Yj (fun hb10 => ?_) (fun hb10 => ?_)
  ·exact X3
  ·exact V6 (by omega)
 ·unfold M.Qk
  try simp only [Int.toNat_natCast]
  exact Yr (decide_eq_false (by omega)) rfl
noncomputable def S.Ql (a0 : XI) (i23 : Nat) : Option (Unit ⊕ Int) :=
 letS (S.YZ ((a0.Zv.getD i23 default).Zl)) (fun r25 => letS (bif (!(!r25)) then S.YZ ((a0.Zv.getD i23 default).fIf) else default) (fun r26 => bif (!r25) || (!r26) then (some (.inr 1)) else (bif (((((a0.Zv.getD i23 default).Zl).Zn) == (((a0.Zv.getD i23 default).fIf).Zn)) && (((((a0.Zv.getD i23 default).Zl).ZL) == (((a0.Zv.getD i23 default).fIf).ZL)) && true)) then (some (.inr 6)) else (letS (runN (S.Qk a0 i23) (.inl ()) 0 i23) (fun y29 => Sum.elim (fun _ => none) (fun y31 => some (.inr y31)) y29)))))
theorem R3 (a0 : XI) (ha0 : Xp a0) (i0 : Nat) : loopM (M.Ql a0) (i0 : Int) = some (runN (S.Ql a0) (.inl ()) i0 (a0.Zv.length - i0)) := by
 have hM := Zm
 have hni23 : a0.Zv.length ≤ maxLen := (Xp.Zv ha0)
 refine Xo (n := a0.Zv.length) (fun i23 hi23 => ?_) (fun m hm => ?_) i0
 ·unfold M.Ql S.Ql
  try simp only [Int.toNat_natCast]
  refine Yq (dt (by omega)) ?_
  refine Jc (Zz (dt (by omega)) (Zz (dt (by omega)) Ye)) ?_
  refine Xu (W5 ((a0.Zv.getD i23 default).Zl)) (fun r25 her25 => ?_)
  refine Xu (Vk fun hg => (W5 ((a0.Zv.getD i23 default).fIf))) (fun r26 her26 => ?_)
  refine Yj (fun hb8 => ?_) (fun hb8 => ?_)
  ·exact X3
  ·refine Yj (fun hb9 => ?_) (fun hb9 => ?_)
   ·exact X3
   ·refine Xu (R2 a0 i23 ha0 hi23 0) (fun y29 hey29 => ?_)
    refine Wv (fun _ hl => ?_) (fun y31 hly31 => ?_)
    ·exact V6 (by omega)
    ·exact X3
 ·unfold M.Ql
  try simp only [Int.toNat_natCast]
  exact Yr (decide_eq_false (by omega)) rfl
noncomputable def S.Jk (a0 : XI) : Int :=
 bif decide ((a0.ZT.length : Int) > 8) then 7 else (letS (runN (S.Qh a0) (.inl ()) 0 a0.ZT.length) (fun y9 => Sum.elim (fun _ => bif decide ((a0.ZC.length : Int) > 8) then 7 else (letS (runN (S.Qj a0) (.inl ()) 0 a0.ZC.length) (fun y20 => Sum.elim (fun _ => bif decide ((a0.Zv.length : Int) > 8) then 7 else (letS (runN (S.Ql a0) (.inl ()) 0 a0.Zv.length) (fun y32 => Sum.elim (fun _ => 0) (fun y34 => y34) y32))) (fun y22 => y22) y20))) (fun y11 => y11) y9))
theorem ZbP (a0 : XI) (ha0 : Xp a0) : M.Jk a0 = some (S.Jk a0) := by
 have hM := Zm
 unfold M.Jk S.Jk
 refine VT (fun hb1 => ?_) (fun hb1 => ?_)
 ·rfl
 ·refine Z8 (RZ a0 ha0 0) (fun y9 hey9 => ?_)
  refine Jr (fun _ hl => ?_) (fun y11 hly11 => ?_)
  ·refine VT (fun hb4 => ?_) (fun hb4 => ?_)
   ·rfl
   ·refine Z8 (R1 a0 ha0 0) (fun y20 hey20 => ?_)
    refine Jr (fun _ hl => ?_) (fun y22 hly22 => ?_)
    ·refine VT (fun hb7 => ?_) (fun hb7 => ?_)
     ·rfl
     ·refine Z8 (R3 a0 ha0 0) (fun y32 hey32 => ?_)
      refine Jr (fun _ hl => ?_) (fun y34 hly34 => ?_)
      ·rfl
      ·rfl
    ·rfl
  ·rfl
noncomputable def S.Q3 (a0 : Zh) : Int :=
 bif !a0.Xv.We then (bif ((a0.Xv.XZ != 0) || (a0.Xv.X0 != 0)) || (decide ((wr .i64 ((wr .i64 ((wr .i64 ((wr .i64 ((a0.Xv.Zo.length : Int) + (a0.Xv.ZT.length : Int))) + (a0.Xv.ZC.length : Int))) + (a0.Xv.Zv.length : Int))) + (a0.Xv.Zu.length : Int))) > 0)) then 1 else 0) else (letS (bif (!(a0.Kq == 0)) then S.ZN a0.Xv.XZ 1 255 else default) (fun r1 => letS (bif (!((a0.Kq == 0) || (!r1))) then S.ZN a0.Xv.X0 1 255 else default) (fun r2 => bif ((a0.Kq == 0) || (!r1)) || (!r2) then 1 else (letS (S.VJ a0) (fun r3 => bif r3 != 0 then r3 else (letS (S.Jk a0.Xv) (fun r4 => bif r4 != 0 then r4 else (letS (S.Yc a0 a0.Xv.Zu 5 0 16777215) (fun r5 => r5)))))))))
theorem Zdy (a0 : Zh) (ha0 : Zr a0) : M.Q3 a0 = some (S.Q3 a0) := by
 have hM := Zm
 unfold M.Q3 S.Q3
 refine VT (fun hb1 => ?_) (fun hb1 => ?_)
 ·refine VT (fun hb2 => ?_) (fun hb2 => ?_)
  ·rfl
  ·rfl
 ·refine Z8 (Vk fun hg => (XY a0.Xv.XZ 1 255)) (fun r1 her1 => ?_)
  refine Z8 (Vk fun hg => (XY a0.Xv.X0 1 255)) (fun r2 her2 => ?_)
  refine VT (fun hb3 => ?_) (fun hb3 => ?_)
  ·rfl
  ·refine Z8 (Zed a0 ha0) (fun r3 her3 => ?_)
   refine VT (fun hb4 => ?_) (fun hb4 => ?_)
   ·rfl
   ·refine Z8 (ZbP a0.Xv (Zr.Xv ha0)) (fun r4 her4 => ?_)
    refine VT (fun hb5 => ?_) (fun hb5 => ?_)
    ·rfl
    ·refine Z8 (UM a0 a0.Xv.Zu 5 0 16777215 ha0 (Xp.Zu (Zr.Xv ha0))) (fun r5 her5 => ?_)
     rfl
noncomputable def S.Yp (r3 : Int) (r4 : Int) (r5 : Int) (r6 : Int) (r7 : Int) (r8 : Int) (r9 : Int) (r10 : Int) (r11 : Int) (r12 : Int) (i13 : Nat) : Option (Unit ⊕ Int) :=
 bif (([r3,r4,r5,r6,r7,r8,r9,r10,r11,r12] : List Int).getD i13 default) != 0 then (some (.inr (([r3,r4,r5,r6,r7,r8,r9,r10,r11,r12] : List Int).getD i13 default))) else none
theorem Zal (r3 : Int) (r4 : Int) (r5 : Int) (r6 : Int) (r7 : Int) (r8 : Int) (r9 : Int) (r10 : Int) (r11 : Int) (r12 : Int)  (i0 : Nat) : loopM (M.Yp r3 r4 r5 r6 r7 r8 r9 r10 r11 r12) (i0 : Int) = some (runN (S.Yp r3 r4 r5 r6 r7 r8 r9 r10 r11 r12) (.inl ()) i0 (([r3,r4,r5,r6,r7,r8,r9,r10,r11,r12] : List Int).length - i0)) := by
 have hM := Zm
 have hni13 : ([r3,r4,r5,r6,r7,r8,r9,r10,r11,r12] : List Int).length ≤ maxLen := (by simp [Zm])
 refine Xo (n := ([r3,r4,r5,r6,r7,r8,r9,r10,r11,r12] : List Int).length) (fun i13 hi13 => ?_) (fun m hm => ?_) i0
 ·unfold M.Yp S.Yp
  try simp only [Int.toNat_natCast]
  refine Yq (dt (by omega)) ?_
  refine Jc (Zz (dt (by omega)) (Zz (dt (by first | omega | (simp; omega) | (simp at *; omega))) Ye)) ?_
  refine Yj (fun hb3 => ?_) (fun hb3 => ?_)
  ·refine Jc (Zz (dt (by omega)) (Zz (dt (by first | omega | (simp; omega) | (simp at *; omega))) Ye)) ?_
   exact X3
  ·exact V6 (by omega)
 ·unfold M.Yp
  try simp only [Int.toNat_natCast]
  exact Yr (decide_eq_false (by omega)) rfl
noncomputable def S.YB (a0 : Zh) : Int :=
 letS (S.Jq a0.XB) (fun r1 => bif !r1 then 3 else (letS (S.ZN a0.Kq 0 65535) (fun r2 => bif !r2 then 1 else (letS (S.Yo a0.Zc) (fun r3 => letS (S.QL a0.YM) (fun r4 => letS (S.Js a0) (fun r5 => letS (S.QM a0.YW) (fun r6 => letS (S.Qf a0) (fun r7 => letS (S.VH a0) (fun r8 => letS (S.VI a0) (fun r9 => letS (S.Ju a0) (fun r10 => letS (S.J0 a0) (fun r11 => letS (S.Q3 a0) (fun r12 => letS (runN (S.Yp r3 r4 r5 r6 r7 r8 r9 r10 r11 r12) (.inl ()) 0 (([r3,r4,r5,r6,r7,r8,r9,r10,r11,r12] : List Int).length)) (fun y15 => Sum.elim (fun _ => 0) (fun y17 => y17) y15)))))))))))))))
theorem ZcA (a0 : Zh) (ha0 : Zr a0) : M.YB a0 = some (S.YB a0) := by
 have hM := Zm
 unfold M.YB S.YB
 refine Z8 (Ke a0.XB (Zr.XB ha0)) (fun r1 her1 => ?_)
 refine VT (fun hb1 => ?_) (fun hb1 => ?_)
 ·rfl
 ·refine Z8 (XY a0.Kq 0 65535) (fun r2 her2 => ?_)
  refine VT (fun hb2 => ?_) (fun hb2 => ?_)
  ·rfl
  ·refine Z8 (Zds a0.Zc (Zr.Zc ha0)) (fun r3 her3 => ?_)
   refine Z8 (Zcv a0.YM (Zr.YM ha0)) (fun r4 her4 => ?_)
   refine Z8 (Zd9 a0 ha0) (fun r5 her5 => ?_)
   refine Z8 (Zcw a0.YW (Zr.YW ha0)) (fun r6 her6 => ?_)
   refine Z8 (ZbJ a0 ha0) (fun r7 her7 => ?_)
   refine Z8 (Zf3 a0 ha0) (fun r8 her8 => ?_)
   refine Z8 (Zf4 a0 ha0) (fun r9 her9 => ?_)
   refine Z8 (Zec a0 ha0) (fun r10 her10 => ?_)
   refine Z8 (ZeM a0 ha0) (fun r11 her11 => ?_)
   refine Z8 (Zdy a0 ha0) (fun r12 her12 => ?_)
   refine Z8 (Zal r3 r4 r5 r6 r7 r8 r9 r10 r11 r12 0) (fun y15 hey15 => ?_)
   refine Jr (fun _ hl => ?_) (fun y17 hly17 => ?_)
   ·rfl
   ·rfl
noncomputable def S.J1 (a0 : ZG) (i1 : Nat) (i4 : Nat) : Option (Unit ⊕ Int) :=
 bif strEq ((a0.Ze.getD i4 default).XB) ((a0.Ze.getD i1 default).XB) then (some (.inr 4)) else none
theorem ZeN (a0 : ZG) (i1 : Nat) (ha0 : YP a0) (hi1 : i1 < a0.Ze.length) (i0 : Nat) : loopM (M.J1 a0 (i1 : Int)) (i0 : Int) = some (runN (S.J1 a0 i1) (.inl ()) i0 (i1 - i0)) := by
 have hM := Zm
 have hni1 : a0.Ze.length ≤ maxLen := (YP.Ze ha0).1
 have hni4 : i1 ≤ maxLen := (by omega)
 refine Xo (n := i1) (fun i4 hi4 => ?_) (fun m hm => ?_) i0
 ·unfold M.J1 S.J1
  try simp only [Int.toNat_natCast]
  refine Yq (dt (by omega)) ?_
  refine Jc (Zz (dt (by omega)) (Zz (dt (by omega)) (Zz (dt (by omega)) (Zz (dt (by omega)) Ye)))) ?_
  refine Yj (fun hb3 => ?_) (fun hb3 => ?_)
  ·exact X3
  ·exact V6 (by omega)
 ·unfold M.J1
  try simp only [Int.toNat_natCast]
  exact Yr (decide_eq_false (by omega)) rfl
noncomputable def S.JF (a0 : ZG) (i1 : Nat) (i9 : Nat) (i11 : Nat) : Option (Unit ⊕ Int) :=
 letS (bif (((((a0.Ze.getD i1 default).Zc).getD i9 default).ZL) != 0) then S.J8 (a0.Ze.getD i11 default) ((((a0.Ze.getD i1 default).Zc).getD i9 default).Zn) else default) (fun r13 => bif (((((a0.Ze.getD i1 default).Zc).getD i9 default).ZL) != 0) && (decide (r13 ≥ 0)) then (some (.inr 4)) else none)
theorem ZeO (a0 : ZG) (i1 : Nat) (i9 : Nat) (ha0 : YP a0) (hi1 : i1 < a0.Ze.length) (hi9 : i9 < ((a0.Ze.getD i1 default).Zc).length) (i0 : Nat) : loopM (M.JF a0 (i1 : Int) (i9 : Int)) (i0 : Int) = some (runN (S.JF a0 i1 i9) (.inl ()) i0 (i1 - i0)) := by
 have hM := Zm
 have hni1 : a0.Ze.length ≤ maxLen := (YP.Ze ha0).1
 have hni9 : ((a0.Ze.getD i1 default).Zc).length ≤ maxLen := (Zr.Zc (LL.getD (YP.Ze ha0) Zr.dflt i1)).1
 have hni11 : i1 ≤ maxLen := (by omega)
 refine Xo (n := i1) (fun i11 hi11 => ?_) (fun m hm => ?_) i0
 ·unfold M.JF S.JF
  try simp only [Int.toNat_natCast]
  refine Yq (dt (by omega)) ?_
  refine Xu (Vk fun hg => (Zba (a0.Ze.getD i11 default) ((((a0.Ze.getD i1 default).Zc).getD i9 default).Zn) (LL.getD (YP.Ze ha0) Zr.dflt i11))) (fun r13 her13 => ?_)
  refine Jc (Zz (X4 fun hg => (dt (by first | omega | (simp; omega) | (simp at *; omega)))) (Zz (X4 fun hg => (dt (by first | omega | (simp; omega) | (simp at *; omega)))) Ye)) ?_
  refine Yj (fun hb4 => ?_) (fun hb4 => ?_)
  ·exact X3
  ·exact V6 (by omega)
 ·unfold M.JF
  try simp only [Int.toNat_natCast]
  exact Yr (decide_eq_false (by omega)) rfl
noncomputable def S.JG (a0 : ZG) (i1 : Nat) (i9 : Nat) : Option (Unit ⊕ Int) :=
 letS (runN (S.JF a0 i1 i9) (.inl ()) 0 i1) (fun y14 => Sum.elim (fun _ => none) (fun y16 => some (.inr y16)) y14)
theorem ZeP (a0 : ZG) (i1 : Nat) (ha0 : YP a0) (hi1 : i1 < a0.Ze.length) (i0 : Nat) : loopM (M.JG a0 (i1 : Int)) (i0 : Int) = some (runN (S.JG a0 i1) (.inl ()) i0 (((a0.Ze.getD i1 default).Zc).length - i0)) := by
 have hM := Zm
 have hni1 : a0.Ze.length ≤ maxLen := (YP.Ze ha0).1
 have hni9 : ((a0.Ze.getD i1 default).Zc).length ≤ maxLen := (Zr.Zc (LL.getD (YP.Ze ha0) Zr.dflt i1)).1
 refine Xo (n := ((a0.Ze.getD i1 default).Zc).length) (fun i9 hi9 => ?_) (fun m hm => ?_) i0
 ·unfold M.JG S.JG
  try simp only [Int.toNat_natCast]
  refine Jc (Zz (dt (by omega)) (Zz (dt (by omega)) Ye))  ?_
  refine Yq (dt (by omega)) ?_
  refine Jc (Zz (dt (by omega)) (Zz (dt (by omega)) (Zz (dt (by omega)) (Zz (dt (by omega)) Ye)))) ?_
  refine Xu (ZeO a0 i1 i9 ha0 hi1 hi9 0) (fun y14 hey14 => ?_)
  refine Wv (fun _ hl => ?_) (fun y16 hly16 => ?_)
  ·exact V6 (by omega)
  ·exact X3
 ·unfold M.JG
  try simp only [Int.toNat_natCast]
  refine Jc (Zz (dt (by omega)) (Zz (dt (by omega)) Ye))  ?_
  exact Yr (decide_eq_false (by omega)) rfl
noncomputable def S.JH (a0 : ZG) (i1 : Nat) : Option (Unit ⊕ Int) :=
 letS (S.YB (a0.Ze.getD i1 default)) (fun r3 => bif r3 != 0 then (some (.inr r3)) else (letS (runN (S.J1 a0 i1) (.inl ()) 0 i1) (fun y6 => Sum.elim (fun _ => letS (runN (S.JG a0 i1) (.inl ()) 0 (((a0.Ze.getD i1 default).Zc).length)) (fun y17 => Sum.elim (fun _ => none) (fun y19 => some (.inr y19)) y17)) (fun y8 => some (.inr y8)) y6)))
theorem ZeQ (a0 : ZG) (ha0 : YP a0) (i0 : Nat) : loopM (M.JH a0) (i0 : Int) = some (runN (S.JH a0) (.inl ()) i0 (a0.Ze.length - i0)) := by
 have hM := Zm
 have hni1 : a0.Ze.length ≤ maxLen := (YP.Ze ha0).1
 refine Xo (n := a0.Ze.length) (fun i1 hi1 => ?_) (fun m hm => ?_) i0
 ·unfold M.JH S.JH
  try simp only [Int.toNat_natCast]
  refine Yq (dt (by omega)) ?_
  refine Xu (ZcA (a0.Ze.getD i1 default) (LL.getD (YP.Ze ha0) Zr.dflt i1)) (fun r3 her3 => ?_)
  refine Jc (Zz (dt (by omega)) (Zz (dt (by omega)) Ye)) ?_
  refine Yj (fun hb2 => ?_) (fun hb2 => ?_)
  ·exact X3
  ·refine Xu (ZeN a0 i1 ha0 hi1 0) (fun y6 hey6 => ?_)
   refine Wv (fun _ hl => ?_) (fun y8 hly8 => ?_)
   ·refine Xu (ZeP a0 i1 ha0 hi1 0) (fun y17 hey17 => ?_)
    refine Wv (fun _ hl => ?_) (fun y19 hly19 => ?_)
    ·exact V6 (by omega)
    ·exact X3
   ·exact X3
 ·unfold M.JH
  try simp only [Int.toNat_natCast]
  exact Yr (decide_eq_false (by omega)) rfl
noncomputable def S.Jv (a0 : ZG) : Int :=
 bif decide ((a0.Ze.length : Int) > 8) then 7 else (letS (runN (S.JH a0) (.inl ()) 0 a0.Ze.length) (fun y20 => Sum.elim (fun _ => 0) (fun y22 => y22) y20))
theorem Zhq (a0 : ZG) (ha0 : YP a0) : M.Jv a0 = some (S.Jv a0) := by
 have hM := Zm
 unfold M.Jv S.Jv
 refine VT (fun hb1 => ?_) (fun hb1 => ?_)
 ·rfl
 ·refine Z8 (ZeQ a0 ha0 0) (fun y20 hey20 => ?_)
  refine Jr (fun _ hl => ?_) (fun y22 hly22 => ?_)
  ·rfl
  ·rfl
noncomputable def S.Vb (a0 : ZM) (a1 : ZM) : Int :=
 bif (decide (a0.Zn < a1.Zn)) || ((a0.Zn == a1.Zn) && (decide (a0.ZL < a1.ZL))) then (-1) else (bif ((a0.Zn == a1.Zn) && ((a0.ZL == a1.ZL) && true)) then 0 else 1)
theorem Zbb (a0 : ZM) (a1 : ZM)  : M.Vb a0 a1 = some (S.Vb a0 a1) := by
 have hM := Zm
 unfold M.Vb S.Vb
 refine VT (fun hb1 => ?_) (fun hb1 => ?_)
 ·rfl
 ·refine VT (fun hb2 => ?_) (fun hb2 => ?_)
  ·rfl
  ·rfl
noncomputable def S.Yf (a0 : List Int) (a1 : Int) (i1 : Nat) : Option (Unit ⊕ Bool) :=
 bif ((decide ((a0.getD i1 default) < 0)) || (decide ((a0.getD i1 default) ≥ a1))) || ((decide ((i1 : Int) > 0)) && (decide ((a0.getD i1 default) ≤ (a0.getD (wr .i64 ((i1 : Int) - 1)).toNat default)))) then (some (.inr false)) else none
theorem Zbc (a0 : List Int) (a1 : Int) (ha0 : a0.length ≤ maxLen) (i0 : Nat) : loopM (M.Yf a0 a1) (i0 : Int) = some (runN (S.Yf a0 a1) (.inl ()) i0 (a0.length - i0)) := by
 have hM := Zm
 have hni1 : a0.length ≤ maxLen := ha0
 refine Xo (n := a0.length) (fun i1 hi1 => ?_) (fun m hm => ?_) i0
 ·unfold M.Yf S.Yf
  try simp only [Int.toNat_natCast]
  have hdi1 : wr .i64 ((i1 : Int) - 1) = (i1 : Int) - 1 := ZiO (by omega)
  refine Yq (dt (by omega)) ?_
  refine Jc (Zz (dt (by omega)) (Zz (dt (by omega)) (Zz (X4 fun hg => (dt (by first | omega | (simp; omega) | (simp at *; omega)))) (Zz (X4 fun hg => (dt (by first | omega | (simp; omega) | (simp at *; omega)))) (Zz (X4 fun hg => (dt (by first | omega | (simp; omega) | (simp at *; omega)))) (Zz (X4 fun hg => (dt (by first | omega | (simp; omega) | (simp at *; omega)))) (Zz (X4 fun hg => (dt (by first | omega | (simp; omega) | (simp at *; omega)))) (Zz (X4 fun hg => (dt (by first | omega | (simp; omega) | (simp at *; omega)))) Ye)))))))) ?_
  refine Yj (fun hb2 => ?_) (fun hb2 => ?_)
  ·exact X3
  ·exact V6 (by omega)
 ·unfold M.Yf
  try simp only [Int.toNat_natCast]
  exact Yr (decide_eq_false (by omega)) rfl
noncomputable def S.Q4 (a0 : List Int) (a1 : Int) : Bool :=
 bif decide ((a0.length : Int) > 2) then false else (letS (runN (S.Yf a0 a1) (.inl ()) 0 a0.length) (fun y3 => Sum.elim (fun _ => true) (fun y5 => y5) y3))
theorem Zdz (a0 : List Int) (a1 : Int) (ha0 : a0.length ≤ maxLen) : M.Q4 a0 a1 = some (S.Q4 a0 a1) := by
 have hM := Zm
 unfold M.Q4 S.Q4
 refine VT (fun hb1 => ?_) (fun hb1 => ?_)
 ·rfl
 ·refine Z8 (Zbc a0 a1 ha0 0) (fun y3 hey3 => ?_)
  refine Jr (fun _ hl => ?_) (fun y5 hly5 => ?_)
  ·rfl
  ·rfl
noncomputable def S.XR (a0 : Int) (a1 : Int) (a2 : Int) : Bool :=
 (decide (a1 ≤ a0)) && (decide (a0 ≤ a2))
theorem Q8 (a0 : Int) (a1 : Int) (a2 : Int)  : M.XR a0 a1 a2 = some (S.XR a0 a1 a2) := by
 have hM := Zm
 unfold M.XR S.XR
 rfl
noncomputable def S.QQ (a0 : Z3) (a1 : Bool) (a2 : Bool) (a3 : Bool) : Bool :=
 ((a1 || (a0.RG == 0)) && (a2 || (((a0.ZfK == 0) && ((a0.WW.length : Int) == 0)) && (a0.WR == 0)))) && (a3 || (a0.QI == 0))
theorem Gl (a0 : Z3) (a1 : Bool) (a2 : Bool) (a3 : Bool) (ha0 : QS a0) : M.QQ a0 a1 a2 a3 = some (S.QQ a0 a1 a2 a3) := by
 have hM := Zm
 unfold M.QQ S.QQ
 rfl
noncomputable def S.Wa (a0 : ZY) (a1 : ZY) : Bool :=
 (decide (a0.ZH < a1.ZH)) || ((a0.ZH == a1.ZH) && (decide (a0.Zn < a1.Zn)))
theorem ZeR (a0 : ZY) (a1 : ZY)  : M.Wa a0 a1 = some (S.Wa a0 a1) := by
 have hM := Zm
 unfold M.Wa S.Wa
 rfl
noncomputable def S.Wb (a0 : List ZY) (a1 : Bool) (i1 : Nat) : Option (Unit ⊕ Bool) :=
 letS (bif ((!(decide (((a0.getD i1 default).ZH) < 0))) && (decide ((i1 : Int) > 0))) then S.Wa (a0.getD (wr .i64 ((i1 : Int) - 1)).toNat default) (a0.getD i1 default) else default) (fun r3 => bif ((decide (((a0.getD i1 default).ZH) < 0)) || ((decide ((i1 : Int) > 0)) && (!r3))) || (!((((a0.getD i1 default).Zn) == 0) == a1)) then (some (.inr false)) else none)
theorem ZeS (a0 : List ZY) (a1 : Bool) (ha0 : a0.length ≤ maxLen) (i0 : Nat) : loopM (M.Wb a0 a1) (i0 : Int) = some (runN (S.Wb a0 a1) (.inl ()) i0 (a0.length - i0)) := by
 have hM := Zm
 have hni1 : a0.length ≤ maxLen := ha0
 refine Xo (n := a0.length) (fun i1 hi1 => ?_) (fun m hm => ?_) i0
 ·unfold M.Wb S.Wb
  try simp only [Int.toNat_natCast]
  have hdi1 : wr .i64 ((i1 : Int) - 1) = (i1 : Int) - 1 := ZiO (by omega)
  refine Yq (dt (by omega)) ?_
  refine Xu (Vk fun hg => (ZeR (a0.getD (wr .i64 ((i1 : Int) - 1)).toNat default) (a0.getD i1 default))) (fun r3 her3 => ?_)
  refine Jc (Zz (dt (by omega)) (Zz (dt (by omega)) (Zz (X4 fun hg => (dt (by first | omega | (simp; omega) | (simp at *; omega)))) (Zz (X4 fun hg => (dt (by first | omega | (simp; omega) | (simp at *; omega)))) (Zz (X4 fun hg => (dt (by first | omega | (simp; omega) | (simp at *; omega)))) (Zz (X4 fun hg => (dt (by first | omega | (simp; omega) | (simp at *; omega)))) (Zz (X4 fun hg => (dt (by first | omega | (simp; omega) | (simp at *; omega)))) (Zz (X4 fun hg => (dt (by first | omega | (simp; omega) | (simp at *; omega)))) Ye)))))))) ?_
  refine Yj (fun hb1 => ?_) (fun hb1 => ?_)
  ·exact X3
  ·exact V6 (by omega)
 ·unfold M.Wb
  try simp only [Int.toNat_natCast]
  exact Yr (decide_eq_false (by omega)) rfl
noncomputable def S.QV (a0 : List ZY) (a1 : Bool) : Bool :=
 letS (runN (S.Wb a0 a1) (.inl ()) 0 a0.length) (fun y4 => Sum.elim (fun _ => true) (fun y6 => y6) y4)
theorem Ga (a0 : List ZY) (a1 : Bool) (ha0 : a0.length ≤ maxLen) : M.QV a0 a1 = some (S.QV a0 a1) := by
 have hM := Zm
 unfold M.QV S.QV
 refine Z8 (ZeS a0 a1 ha0 0) (fun y4 hey4 => ?_)
 refine Jr (fun _ hl => ?_) (fun y6 hly6 => ?_)
 ·rfl
 ·rfl
noncomputable def S.Jl (a0 : Z3) : Bool :=
 letS (bif (!((a0.Yi != 0) || (a0.Qc != 0))) then S.XR a0.Z2 1 255 else default) (fun r1 => letS (bif (!(((a0.Yi != 0) || (a0.Qc != 0)) || (!r1))) then S.QQ a0 false false true else default) (fun r2 => bif (((a0.Yi != 0) || (a0.Qc != 0)) || (!r1)) || (!r2) then false else (bif a0.QI != 0 then (((a0.ZU.length : Int) == 0) && (!a0.Z1)) else (bif a0.Z1 then ((a0.ZU.length : Int) == 0) else (letS (bif ((a0.ZU.length : Int) == 1) then S.QV a0.ZU true else default) (fun r3 => ((a0.ZU.length : Int) == 1) && r3))))))
theorem ZbQ (a0 : Z3) (ha0 : QS a0) : M.Jl a0 = some (S.Jl a0) := by
 have hM := Zm
 unfold M.Jl S.Jl
 refine Z8 (Vk fun hg => (Q8 a0.Z2 1 255)) (fun r1 her1 => ?_)
 refine Z8 (Vk fun hg => (Gl a0 false false true ha0)) (fun r2 her2 => ?_)
 refine VT (fun hb1 => ?_) (fun hb1 => ?_)
 ·rfl
 ·refine VT (fun hb2 => ?_) (fun hb2 => ?_)
  ·rfl
  ·refine VT (fun hb3 => ?_) (fun hb3 => ?_)
   ·rfl
   ·refine Z8 (Vk fun hg => (Ga a0.ZU true (QS.ZU ha0))) (fun r3 her3 => ?_)
    rfl
noncomputable def S.Qm (a0 : Z3) : Bool :=
 letS (S.XR a0.Yi 1 4) (fun r1 => letS (bif (!(!r1)) then S.XR a0.Z2 1 255 else default) (fun r2 => letS (bif (!((!r1) || (!r2))) then S.XR a0.Qc 0 1073741824 else default) (fun r3 => letS (bif (!(((!r1) || (!r2)) || (!r3))) then S.QQ a0 true false false else default) (fun r4 => bif (((!r1) || (!r2)) || (!r3)) || (!r4) then false else (letS (S.XR a0.RG 0 1073741824) (fun r5 => bif (!r5) || ((a0.Yi != 4) && (a0.RG != 0)) then false else (bif a0.Z1 then ((((a0.Yi == 1) && (a0.Qc == 0)) && (a0.UA == 0)) && ((a0.ZU.length : Int) == 0)) else (letS (bif (decide ((a0.ZU.length : Int) > 0)) then S.QV a0.ZU false else default) (fun r6 => (decide ((a0.ZU.length : Int) > 0)) && r6)))))))))
theorem R4 (a0 : Z3) (ha0 : QS a0) : M.Qm a0 = some (S.Qm a0) := by
 have hM := Zm
 unfold M.Qm S.Qm
 refine Z8 (Q8 a0.Yi 1 4) (fun r1 her1 => ?_)
 refine Z8 (Vk fun hg => (Q8 a0.Z2 1 255)) (fun r2 her2 => ?_)
 refine Z8 (Vk fun hg => (Q8 a0.Qc 0 1073741824)) (fun r3 her3 => ?_)
 refine Z8 (Vk fun hg => (Gl a0 true false false ha0)) (fun r4 her4 => ?_)
 refine VT (fun hb1 => ?_) (fun hb1 => ?_)
 ·rfl
 ·refine Z8 (Q8 a0.RG 0 1073741824) (fun r5 her5 => ?_)
  refine VT (fun hb2 => ?_) (fun hb2 => ?_)
  ·rfl
  ·refine VT (fun hb3 => ?_) (fun hb3 => ?_)
   ·rfl
   ·refine Z8 (Vk fun hg => (Ga a0.ZU false (QS.ZU ha0))) (fun r6 her6 => ?_)
    rfl
noncomputable def S.QE (a0 : Z3) : Bool :=
 letS (S.XR a0.Z2 1 255) (fun r1 => letS (bif (!(!r1)) then S.XR a0.Qc 1 15 else default) (fun r2 => letS (bif (!((!r1) || (!r2))) then S.QQ a0 false false false else default) (fun r3 => bif (((!r1) || (!r2)) || (!r3)) || a0.Z1 then false else (bif a0.Yi == 1 then (letS (bif (((a0.Qc == 1) && (a0.UA == 0)) && ((a0.ZU.length : Int) == 1)) then S.QV a0.ZU true else default) (fun r4 => (((a0.Qc == 1) && (a0.UA == 0)) && ((a0.ZU.length : Int) == 1)) && r4)) else (bif a0.Yi == 2 then ((a0.ZU.length : Int) == 0) else (bif a0.Yi == 3 then (letS (bif (decide ((a0.ZU.length : Int) > 0)) then S.QV a0.ZU false else default) (fun r5 => (decide ((a0.ZU.length : Int) > 0)) && r5)) else false))))))
theorem Zam (a0 : Z3) (ha0 : QS a0) : M.QE a0 = some (S.QE a0) := by
 have hM := Zm
 unfold M.QE S.QE
 refine Z8 (Q8 a0.Z2 1 255) (fun r1 her1 => ?_)
 refine Z8 (Vk fun hg => (Q8 a0.Qc 1 15)) (fun r2 her2 => ?_)
 refine Z8 (Vk fun hg => (Gl a0 false false false ha0)) (fun r3 her3 => ?_)
 refine VT (fun hb1 => ?_) (fun hb1 => ?_)
 ·rfl
 ·refine VT (fun hb2 => ?_) (fun hb2 => ?_)
  ·refine Z8 (Vk fun hg => (Ga a0.ZU true (QS.ZU ha0))) (fun r4 her4 => ?_)
   rfl
  ·refine VT (fun hb3 => ?_) (fun hb3 => ?_)
   ·rfl
   ·refine VT (fun hb4 => ?_) (fun hb4 => ?_)
    ·refine Z8 (Vk fun hg => (Ga a0.ZU false (QS.ZU ha0))) (fun r5 her5 => ?_)
     rfl
    ·rfl
noncomputable def S.Y0 (a0 : Z3) (p6 : Bool) : Bool :=
 bif p6 then (letS (bif ((((a0.Yi == 4) || (decide ((a0.WW.length : Int) > 0))) && (a0.WR != 0)) && ((a0.ZU.length : Int) == 1)) then S.QV a0.ZU false else default) (fun r7 => ((((((a0.Yi == 4) || (decide ((a0.WW.length : Int) > 0))) && (a0.WR != 0)) && ((a0.ZU.length : Int) == 1)) && r7) && (((a0.ZU.getD (0 : Int).toNat default).Zn) == a0.WR)) && (!a0.Z1))) else false
theorem Kf (a0 : Z3) (p6 : Bool) (ha0 : QS a0) : M.Y0 a0 p6 = some (S.Y0 a0 p6) := by
 have hM := Zm
 unfold M.Y0 S.Y0
 refine VT (fun hb5 => ?_) (fun hb5 => ?_)
 ·refine Z8 (Vk fun hg => (Ga a0.ZU false (QS.ZU ha0))) (fun r7 her7 => ?_)
  refine Jc (Zz (X4 fun hg => (dt (by first | omega | (simp; omega) | (simp at *; omega)))) (Zz (X4 fun hg => (dt (by first | omega | (simp; omega) | (simp at *; omega)))) Ye)) ?_
  rfl
 ·rfl
noncomputable def S.Y1 (a0 : Z3) (p5 : Bool) : Bool :=
 bif p5 then (((((a0.WW.length : Int) == 0) && (a0.WR == 0)) && ((a0.ZU.length : Int) == 0)) && (a0.Z1 == (a0.Yi == 2))) else (bif a0.Yi == 3 then (S.Y0 a0 (a0.Yi == 3)) else (S.Y0 a0 (a0.Yi == 4)))
theorem Kg (a0 : Z3) (p5 : Bool) (ha0 : QS a0) : M.Y1 a0 p5 = some (S.Y1 a0 p5) := by
 have hM := Zm
 unfold M.Y1 S.Y1
 refine VT (fun hb3 => ?_) (fun hb3 => ?_)
 ·rfl
 ·refine VT (fun hb4 => ?_) (fun hb4 => ?_)
  ·exact Kf a0 (a0.Yi == 3) ha0
  ·exact Kf a0 (a0.Yi == 4) ha0
noncomputable def S.Vc (a0 : Z3) : Bool :=
 letS (S.XR a0.Z2 1 255) (fun r1 => letS (bif (!(!r1)) then S.XR a0.Qc 0 16777215 else default) (fun r2 => letS (bif (!((!r1) || (!r2))) then S.XR a0.ZfK 0 1000000 else default) (fun r3 => letS (bif (!(((!r1) || (!r2)) || (!r3))) then S.QQ a0 false true false else default) (fun r4 => bif (((!r1) || (!r2)) || (!r3)) || (!r4) then false else (bif a0.Yi == 1 then (S.Y1 a0 (a0.Yi == 1)) else (S.Y1 a0 (a0.Yi == 2)))))))
theorem ZdA (a0 : Z3) (ha0 : QS a0) : M.Vc a0 = some (S.Vc a0) := by
 have hM := Zm
 unfold M.Vc S.Vc
 refine Z8 (Q8 a0.Z2 1 255) (fun r1 her1 => ?_)
 refine Z8 (Vk fun hg => (Q8 a0.Qc 0 16777215)) (fun r2 her2 => ?_)
 refine Z8 (Vk fun hg => (Q8 a0.ZfK 0 1000000)) (fun r3 her3 => ?_)
 refine Z8 (Vk fun hg => (Gl a0 false true false ha0)) (fun r4 her4 => ?_)
 refine VT (fun hb1 => ?_) (fun hb1 => ?_)
 ·rfl
 ·refine VT (fun hb2 => ?_) (fun hb2 => ?_)
  ·exact Kg a0 (a0.Yi == 1) ha0
  ·exact Kg a0 (a0.Yi == 2) ha0
noncomputable def S.VK (a0 : Z3) (i3 : Nat) : Option (Unit ⊕ Bool) :=
 letS (S.XR (a0.WW.getD i3 default) 1 65535) (fun r5 => bif !r5 then (some (.inr false)) else none)
theorem Zee (a0 : Z3) (ha0 : QS a0) (i0 : Nat) : loopM (M.VK a0) (i0 : Int) = some (runN (S.VK a0) (.inl ()) i0 (a0.WW.length - i0)) := by
 have hM := Zm
 have hni3 : a0.WW.length ≤ maxLen := (QS.WW ha0)
 refine Xo (n := a0.WW.length) (fun i3 hi3 => ?_) (fun m hm => ?_) i0
 ·unfold M.VK S.VK
  try simp only [Int.toNat_natCast]
  refine Yq (dt (by omega)) ?_
  refine Xu (Q8 (a0.WW.getD i3 default) 1 65535) (fun r5 her5 => ?_)
  refine Jc (Zz (dt (by omega)) (Zz (dt (by omega)) Ye)) ?_
  refine Yj (fun hb2 => ?_) (fun hb2 => ?_)
  ·exact X3
  ·exact V6 (by omega)
 ·unfold M.VK
  try simp only [Int.toNat_natCast]
  exact Yr (decide_eq_false (by omega)) rfl
noncomputable def S.WY (a0 : Z3) : Bool :=
 letS (S.YZ a0.Zl) (fun r1 => letS (bif (!(!r1)) then S.XR a0.UA 0 65535 else default) (fun r2 => bif ((!r1) || (!r2)) || (decide ((a0.WW.length : Int) > 64)) then false else (letS (runN (S.VK a0) (.inl ()) 0 a0.WW.length) (fun y6 => Sum.elim (fun _ => bif a0.X1 == 1 then (letS (bif ((((a0.Yi == 0) && (a0.Z2 == 0)) && (a0.Qc == 0)) && (a0.UA == 0)) then S.QQ a0 false false false else default) (fun r9 => letS (bif (((((((a0.Yi == 0) && (a0.Z2 == 0)) && (a0.Qc == 0)) && (a0.UA == 0)) && r9) && (!a0.Z1)) && ((a0.ZU.length : Int) == 1)) then S.QV a0.ZU true else default) (fun r10 => (((((((a0.Yi == 0) && (a0.Z2 == 0)) && (a0.Qc == 0)) && (a0.UA == 0)) && r9) && (!a0.Z1)) && ((a0.ZU.length : Int) == 1)) && r10))) else (bif a0.X1 == 2 then (letS (S.Jl a0) (fun r11 => r11)) else (bif a0.X1 == 3 then (letS (S.Qm a0) (fun r12 => r12)) else (bif a0.X1 == 4 then (letS (S.QE a0) (fun r13 => r13)) else (bif a0.X1 == 5 then (letS (S.Vc a0) (fun r14 => r14)) else false))))) (fun y8 => y8) y6))))
theorem Zgq (a0 : Z3) (ha0 : QS a0) : M.WY a0 = some (S.WY a0) := by
 have hM := Zm
 unfold M.WY S.WY
 refine Z8 (W5 a0.Zl) (fun r1 her1 => ?_)
 refine Z8 (Vk fun hg => (Q8 a0.UA 0 65535)) (fun r2 her2 => ?_)
 refine VT (fun hb1 => ?_) (fun hb1 => ?_)
 ·rfl
 ·refine Z8 (Zee a0 ha0 0) (fun y6 hey6 => ?_)
  refine Jr (fun _ hl => ?_) (fun y8 hly8 => ?_)
  ·refine VT (fun hb3 => ?_) (fun hb3 => ?_)
   ·refine Z8 (Vk fun hg => (Gl a0 false false false ha0)) (fun r9 her9 => ?_)
    refine Z8 (Vk fun hg => (Ga a0.ZU true (QS.ZU ha0))) (fun r10 her10 => ?_)
    rfl
   ·refine VT (fun hb4 => ?_) (fun hb4 => ?_)
    ·refine Z8 (ZbQ a0 ha0) (fun r11 her11 => ?_)
     rfl
    ·refine VT (fun hb5 => ?_) (fun hb5 => ?_)
     ·refine Z8 (R4 a0 ha0) (fun r12 her12 => ?_)
      rfl
     ·refine VT (fun hb6 => ?_) (fun hb6 => ?_)
      ·refine Z8 (Zam a0 ha0) (fun r13 her13 => ?_)
       rfl
      ·refine VT (fun hb7 => ?_) (fun hb7 => ?_)
       ·refine Z8 (ZdA a0 ha0) (fun r14 her14 => ?_)
        rfl
       ·rfl
  ·rfl
noncomputable def S.VL (a0 : List Z3) (a1 : Int) (i1 : Nat) : Option (Unit ⊕ Bool) :=
 letS (S.WY (a0.getD i1 default)) (fun r3 => letS (bif ((!((!r3) || ((a1 != 0) && (((a0.getD i1 default).X1) != a1)))) && (decide ((i1 : Int) > 0))) then S.Vb ((a0.getD (wr .i64 ((i1 : Int) - 1)).toNat default).Zl) ((a0.getD i1 default).Zl) else default) (fun r4 => bif ((!r3) || ((a1 != 0) && (((a0.getD i1 default).X1) != a1))) || ((decide ((i1 : Int) > 0)) && (decide (r4 ≥ 0))) then (some (.inr false)) else none))
theorem Zef (a0 : List Z3) (a1 : Int) (ha0 : LL QS a0) (i0 : Nat) : loopM (M.VL a0 a1) (i0 : Int) = some (runN (S.VL a0 a1) (.inl ()) i0 (a0.length - i0)) := by
 have hM := Zm
 have hni1 : a0.length ≤ maxLen := ha0.1
 refine Xo (n := a0.length) (fun i1 hi1 => ?_) (fun m hm => ?_) i0
 ·unfold M.VL S.VL
  try simp only [Int.toNat_natCast]
  have hdi1 : wr .i64 ((i1 : Int) - 1) = (i1 : Int) - 1 := ZiO (by omega)
  refine Yq (dt (by omega)) ?_
  refine Xu (Zgq (a0.getD i1 default) (LL.getD ha0 QS.dflt i1)) (fun r3 her3 => ?_)
  refine Xu (Vk fun hg => (Zbb ((a0.getD (wr .i64 ((i1 : Int) - 1)).toNat default).Zl) ((a0.getD i1 default).Zl))) (fun r4 her4 => ?_)
  refine Jc (Zz (dt (by omega)) (Zz (dt (by omega)) (Zz (X4 fun hg => (dt (by first | omega | (simp; omega) | (simp at *; omega)))) (Zz (X4 fun hg => (dt (by first | omega | (simp; omega) | (simp at *; omega)))) (Zz (X4 fun hg => (dt (by first | omega | (simp; omega) | (simp at *; omega)))) (Zz (X4 fun hg => (dt (by first | omega | (simp; omega) | (simp at *; omega)))) (Zz (X4 fun hg => (dt (by first | omega | (simp; omega) | (simp at *; omega)))) (Zz (X4 fun hg => (dt (by first | omega | (simp; omega) | (simp at *; omega)))) Ye)))))))) ?_
  refine Yj (fun hb1 => ?_) (fun hb1 => ?_)
  ·exact X3
  ·exact V6 (by omega)
 ·unfold M.VL
  try simp only [Int.toNat_natCast]
  exact Yr (decide_eq_false (by omega)) rfl
noncomputable def S.WZ (a0 : List Z3) (a1 : Int) : Bool :=
 letS (runN (S.VL a0 a1) (.inl ()) 0 a0.length) (fun y5 => Sum.elim (fun _ => true) (fun y7 => y7) y5)
theorem Zgr (a0 : List Z3) (a1 : Int) (ha0 : LL QS a0) : M.WZ a0 a1 = some (S.WZ a0 a1) := by
 have hM := Zm
 unfold M.WZ S.WZ
 refine Z8 (Zef a0 a1 ha0 0) (fun y5 hey5 => ?_)
 refine Jr (fun _ hl => ?_) (fun y7 hly7 => ?_)
 ·rfl
 ·rfl
noncomputable def S.YQ (a0 : ZM) (a1 : Int) : Bool :=
 letS (S.JS a0.ZL) (fun r1 => (bitD .and .u32 a1 r1) == a0.Zn)
theorem ZeT (a0 : ZM) (a1 : Int)  : M.YQ a0 a1 = some (S.YQ a0 a1) := by
 have hM := Zm
 unfold M.YQ S.YQ
 refine Z8 (Zio a0.ZL) (fun r1 her1 => ?_)
 rfl
noncomputable def S.Z0 (a0 : List Vz) (a1 : Vz) (i1 : Nat) : Option (Unit ⊕ Int) :=
 bif ((a1.UB == ((a0.getD i1 default).UB)) && ((a1.ZH == ((a0.getD i1 default).ZH)) && true)) then (some (.inr (i1 : Int))) else none
theorem Gy (a0 : List Vz) (a1 : Vz) (ha0 : a0.length ≤ maxLen) (i0 : Nat) : loopM (M.Z0 a0 a1) (i0 : Int) = some (runN (S.Z0 a0 a1) (.inl ()) i0 (a0.length - i0)) := by
 have hM := Zm
 have hni1 : a0.length ≤ maxLen := ha0
 refine Xo (n := a0.length) (fun i1 hi1 => ?_) (fun m hm => ?_) i0
 ·unfold M.Z0 S.Z0
  try simp only [Int.toNat_natCast]
  refine Yq (dt (by omega)) ?_
  refine Jc (Zz (dt (by omega)) (Zz (dt (by omega)) Ye)) ?_
  refine Yj (fun hb1 => ?_) (fun hb1 => ?_)
  ·exact X3
  ·exact V6 (by omega)
 ·unfold M.Z0
  try simp only [Int.toNat_natCast]
  exact Yr (decide_eq_false (by omega)) rfl
noncomputable def S.Z7 (a0 : List Vz) (a1 : Vz) : Int :=
 letS (runN (S.Z0 a0 a1) (.inl ()) 0 a0.length) (fun y3 => Sum.elim (fun _ => -1) (fun y5 => y5) y3)
theorem G2 (a0 : List Vz) (a1 : Vz) (ha0 : a0.length ≤ maxLen) : M.Z7 a0 a1 = some (S.Z7 a0 a1) := by
 have hM := Zm
 unfold M.Z7 S.Z7
 refine Z8 (Gy a0 a1 ha0 0) (fun y3 hey3 => ?_)
 refine Jr (fun _ hl => ?_) (fun y5 hly5 => ?_)
 ·rfl
 ·rfl
noncomputable def S.ZP (a0 : List Vz) (a1 : Vz) : Bool :=
 letS (S.Z7 a0 a1) (fun r1 => decide (r1 ≥ 0))
theorem Gz (a0 : List Vz) (a1 : Vz) (ha0 : a0.length ≤ maxLen) : M.ZP a0 a1 = some (S.ZP a0 a1) := by
 have hM := Zm
 unfold M.ZP S.ZP
 refine Z8 (G2 a0 a1 ha0) (fun r1 her1 => ?_)
 rfl
noncomputable def S.YK (a0 : XU) (a1 : Int) (a2 : Int) (i1 : Nat) : Option (Unit ⊕ Int) :=
 letS (S.ZP ((a0.X9.Xa.getD i1 default).ZR) (⟨a1,a2⟩ : Vz)) (fun r3 => bif r3 then (some (.inr (i1 : Int))) else none)
theorem Zeg (a0 : XU) (a1 : Int) (a2 : Int) (ha0 : JX a0) (i0 : Nat) : loopM (M.YK a0 a1 a2) (i0 : Int) = some (runN (S.YK a0 a1 a2) (.inl ()) i0 (a0.X9.Xa.length - i0)) := by
 have hM := Zm
 have hni1 : a0.X9.Xa.length ≤ maxLen := (Vx.Xa (JX.X9 ha0)).1
 refine Xo (n := a0.X9.Xa.length) (fun i1 hi1 => ?_) (fun m hm => ?_) i0
 ·unfold M.YK S.YK
  try simp only [Int.toNat_natCast]
  refine Yq (dt (by omega)) ?_
  refine Jc (Zz (dt (by omega)) (Zz (dt (by omega)) Ye)) ?_
  refine Xu (Gz ((a0.X9.Xa.getD i1 default).ZR) (⟨a1,a2⟩ : Vz) (UP.ZR (LL.getD (Vx.Xa (JX.X9 ha0)) UP.dflt i1))) (fun r3 her3 => ?_)
  refine Yj (fun hb1 => ?_) (fun hb1 => ?_)
  ·exact X3
  ·exact V6 (by omega)
 ·unfold M.YK
  try simp only [Int.toNat_natCast]
  exact Yr (decide_eq_false (by omega)) rfl
noncomputable def S.Y6 (a0 : XU) (a1 : Int) (a2 : Int) : Int :=
 letS (runN (S.YK a0 a1 a2) (.inl ()) 0 a0.X9.Xa.length) (fun y4 => Sum.elim (fun _ => -1) (fun y6 => y6) y4)
theorem Zb3 (a0 : XU) (a1 : Int) (a2 : Int) (ha0 : JX a0) : M.Y6 a0 a1 a2 = some (S.Y6 a0 a1 a2) := by
 have hM := Zm
 unfold M.Y6 S.Y6
 refine Z8 (Zeg a0 a1 a2 ha0 0) (fun y4 hey4 => ?_)
 refine Jr (fun _ hl => ?_) (fun y6 hly6 => ?_)
 ·rfl
 ·rfl
noncomputable def S.XM (a0 : List Int) (a1 : Int) (i1 : Nat) : Option (Unit ⊕ Int) :=
 bif a1 == (a0.getD i1 default) then (some (.inr (i1 : Int))) else none
theorem KP (a0 : List Int) (a1 : Int) (ha0 : a0.length ≤ maxLen) (i0 : Nat) : loopM (M.XM a0 a1) (i0 : Int) = some (runN (S.XM a0 a1) (.inl ()) i0 (a0.length - i0)) := by
 have hM := Zm
 have hni1 : a0.length ≤ maxLen := ha0
 refine Xo (n := a0.length) (fun i1 hi1 => ?_) (fun m hm => ?_) i0
 ·unfold M.XM S.XM
  try simp only [Int.toNat_natCast]
  refine Yq (dt (by omega)) ?_
  refine Jc (Zz (dt (by omega)) (Zz (dt (by omega)) Ye)) ?_
  refine Yj (fun hb1 => ?_) (fun hb1 => ?_)
  ·exact X3
  ·exact V6 (by omega)
 ·unfold M.XM
  try simp only [Int.toNat_natCast]
  exact Yr (decide_eq_false (by omega)) rfl
noncomputable def S.XK (a0 : List Int) (a1 : Int) : Int :=
 letS (runN (S.XM a0 a1) (.inl ()) 0 a0.length) (fun y3 => Sum.elim (fun _ => -1) (fun y5 => y5) y3)
theorem GS (a0 : List Int) (a1 : Int) (ha0 : a0.length ≤ maxLen) : M.XK a0 a1 = some (S.XK a0 a1) := by
 have hM := Zm
 unfold M.XK S.XK
 refine Z8 (KP a0 a1 ha0 0) (fun y3 hey3 => ?_)
 refine Jr (fun _ hl => ?_) (fun y5 hly5 => ?_)
 ·rfl
 ·rfl
noncomputable def S.Vu (a0 : XU) (a1 : Int) (a2 : Int) : Int :=
 letS (S.Y6 a0 a1 a2) (fun r1 => bif decide (r1 < 0) then (-1) else (letS (S.XK a0.X9.JP r1) (fun r2 => r2)))
theorem Zip (a0 : XU) (a1 : Int) (a2 : Int) (ha0 : JX a0) : M.Vu a0 a1 a2 = some (S.Vu a0 a1 a2) := by
 have hM := Zm
 unfold M.Vu S.Vu
 refine Z8 (Zb3 a0 a1 a2 ha0) (fun r1 her1 => ?_)
 refine VT (fun hb1 => ?_) (fun hb1 => ?_)
 ·rfl
 ·refine Z8 (GS a0.X9.JP r1 (Vx.JP (JX.X9 ha0))) (fun r2 her2 => ?_)
  rfl
noncomputable def S.XC (a0 : List Int) (a1 : Int) : Bool :=
 letS (S.XK a0 a1) (fun r1 => decide (r1 ≥ 0))
theorem KQ (a0 : List Int) (a1 : Int) (ha0 : a0.length ≤ maxLen) : M.XC a0 a1 = some (S.XC a0 a1) := by
 have hM := Zm
 unfold M.XC S.XC
 refine Z8 (GS a0 a1 ha0) (fun r1 her1 => ?_)
 rfl
noncomputable def S.Ud (a0 : XU) (a1 : Int) (a2 : Int) : Bool :=
 letS (S.Y6 a0 a1 a2) (fun r1 => bif decide (r1 < 0) then false else (letS (S.Vu a0 a1 a2) (fun r2 => letS (bif (!(decide (r2 < 0))) then S.XC a0.Jp r2 else default) (fun r3 => (decide (r2 < 0)) || (!r3)))))
theorem Zkp (a0 : XU) (a1 : Int) (a2 : Int) (ha0 : JX a0) : M.Ud a0 a1 a2 = some (S.Ud a0 a1 a2) := by
 have hM := Zm
 unfold M.Ud S.Ud
 refine Z8 (Zb3 a0 a1 a2 ha0) (fun r1 her1 => ?_)
 refine VT (fun hb1 => ?_) (fun hb1 => ?_)
 ·rfl
 ·refine Z8 (Zip a0 a1 a2 ha0) (fun r2 her2 => ?_)
  refine Z8 (Vk fun hg => (KQ a0.Jp r2 (JX.Jp ha0))) (fun r3 her3 => ?_)
  rfl
noncomputable def S.JK (a0 : XU) (a1 : Int) (a2 : Int) (i1 : Nat) (i3 : Nat) : Option (Unit ⊕ Int) :=
 bif ((((((a0.X9.Xa.getD i1 default).ZR).getD i3 default).UB) == a1) && ((((((a0.X9.Xa.getD i1 default).ZR).getD i3 default).ZH) == a2) && true)) then (some (.inr (i1 : Int))) else none
theorem ZdB (a0 : XU) (a1 : Int) (a2 : Int) (i1 : Nat) (ha0 : JX a0) (hi1 : i1 < a0.X9.Xa.length) (i0 : Nat) : loopM (M.JK a0 a1 a2 (i1 : Int)) (i0 : Int) = some (runN (S.JK a0 a1 a2 i1) (.inl ()) i0 (((a0.X9.Xa.getD i1 default).ZR).length - i0)) := by
 have hM := Zm
 have hni1 : a0.X9.Xa.length ≤ maxLen := (Vx.Xa (JX.X9 ha0)).1
 have hni3 : ((a0.X9.Xa.getD i1 default).ZR).length ≤ maxLen := (UP.ZR (LL.getD (Vx.Xa (JX.X9 ha0)) UP.dflt i1))
 refine Xo (n := ((a0.X9.Xa.getD i1 default).ZR).length) (fun i3 hi3 => ?_) (fun m hm => ?_) i0
 ·unfold M.JK S.JK
  try simp only [Int.toNat_natCast]
  refine Jc (Zz (dt (by omega)) (Zz (dt (by omega)) Ye))  ?_
  refine Yq (dt (by omega)) ?_
  refine Jc (Zz (dt (by omega)) (Zz (dt (by omega)) (Zz (dt (by omega)) (Zz (dt (by omega)) Ye)))) ?_
  refine Yj (fun hb1 => ?_) (fun hb1 => ?_)
  ·exact X3
  ·exact V6 (by omega)
 ·unfold M.JK
  try simp only [Int.toNat_natCast]
  refine Jc (Zz (dt (by omega)) (Zz (dt (by omega)) Ye))  ?_
  exact Yr (decide_eq_false (by omega)) rfl
noncomputable def S.JL (a0 : XU) (a1 : Int) (a2 : Int) (i1 : Nat) : Option (Unit ⊕ Int) :=
 letS (runN (S.JK a0 a1 a2 i1) (.inl ()) 0 (((a0.X9.Xa.getD i1 default).ZR).length)) (fun y5 => Sum.elim (fun _ => none) (fun y7 => some (.inr y7)) y5)
theorem ZdC (a0 : XU) (a1 : Int) (a2 : Int) (ha0 : JX a0) (i0 : Nat) : loopM (M.JL a0 a1 a2) (i0 : Int) = some (runN (S.JL a0 a1 a2) (.inl ()) i0 (a0.X9.Xa.length - i0)) := by
 have hM := Zm
 have hni1 : a0.X9.Xa.length ≤ maxLen := (Vx.Xa (JX.X9 ha0)).1
 refine Xo (n := a0.X9.Xa.length) (fun i1 hi1 => ?_) (fun m hm => ?_) i0
 ·unfold M.JL S.JL
  try simp only [Int.toNat_natCast]
  refine Yq (dt (by omega)) ?_
  refine Xu (ZdB a0 a1 a2 i1 ha0 hi1 0) (fun y5 hey5 => ?_)
  refine Wv (fun _ hl => ?_) (fun y7 hly7 => ?_)
  ·exact V6 (by omega)
  ·exact X3
 ·unfold M.JL
  try simp only [Int.toNat_natCast]
  exact Yr (decide_eq_false (by omega)) rfl
noncomputable def S.JT (a0 : XU) (a1 : Int) (a2 : Int) : Int :=
 letS (runN (S.JL a0 a1 a2) (.inl ()) 0 a0.X9.Xa.length) (fun y8 => Sum.elim (fun _ => -1) (fun y10 => y10) y8)
theorem Zbd (a0 : XU) (a1 : Int) (a2 : Int) (ha0 : JX a0) : M.JT a0 a1 a2 = some (S.JT a0 a1 a2) := by
 have hM := Zm
 unfold M.JT S.JT
 refine Z8 (ZdC a0 a1 a2 ha0 0) (fun y8 hey8 => ?_)
 refine Jr (fun _ hl => ?_) (fun y10 hly10 => ?_)
 ·rfl
 ·rfl
noncomputable def S.J2 (a0 : XU) (r1 : Int) (i2 : Nat) : Option (Unit ⊕ Int) :=
 bif (decide (r1 ≥ 0)) && ((a0.X9.JP.getD i2 default) == r1) then (some (.inr (i2 : Int))) else none
theorem ZeU (a0 : XU) (r1 : Int) (ha0 : JX a0) (i0 : Nat) : loopM (M.J2 a0 r1) (i0 : Int) = some (runN (S.J2 a0 r1) (.inl ()) i0 (a0.X9.JP.length - i0)) := by
 have hM := Zm
 have hni2 : a0.X9.JP.length ≤ maxLen := (Vx.JP (JX.X9 ha0))
 refine Xo (n := a0.X9.JP.length) (fun i2 hi2 => ?_) (fun m hm => ?_) i0
 ·unfold M.J2 S.J2
  try simp only [Int.toNat_natCast]
  refine Yq (dt (by omega)) ?_
  refine Jc (Zz (X4 fun hg => (dt (by first | omega | (simp; omega) | (simp at *; omega)))) (Zz (X4 fun hg => (dt (by first | omega | (simp; omega) | (simp at *; omega)))) Ye)) ?_
  refine Yj (fun hb1 => ?_) (fun hb1 => ?_)
  ·exact X3
  ·exact V6 (by omega)
 ·unfold M.J2
  try simp only [Int.toNat_natCast]
  exact Yr (decide_eq_false (by omega)) rfl
noncomputable def S.WO (a0 : XU) (a1 : Int) (a2 : Int) : Int :=
 letS (S.JT a0 a1 a2) (fun r1 => letS (runN (S.J2 a0 r1) (.inl ()) 0 a0.X9.JP.length) (fun y4 => Sum.elim (fun _ => -1) (fun y6 => y6) y4))
theorem Zhr (a0 : XU) (a1 : Int) (a2 : Int) (ha0 : JX a0) : M.WO a0 a1 a2 = some (S.WO a0 a1 a2) := by
 have hM := Zm
 unfold M.WO S.WO
 refine Z8 (Zbd a0 a1 a2 ha0) (fun r1 her1 => ?_)
 refine Z8 (ZeU a0 r1 ha0 0) (fun y4 hey4 => ?_)
 refine Jr (fun _ hl => ?_) (fun y6 hly6 => ?_)
 ·rfl
 ·rfl
noncomputable def S.WB (a0 : XU) (r2 : Int) (i3 : Nat) : Option (Unit ⊕ Bool) :=
 bif (a0.Jp.getD i3 default) == r2 then (some (.inr false)) else none
theorem Zgs (a0 : XU) (r2 : Int) (ha0 : JX a0) (i0 : Nat) : loopM (M.WB a0 r2) (i0 : Int) = some (runN (S.WB a0 r2) (.inl ()) i0 (a0.Jp.length - i0)) := by
 have hM := Zm
 have hni3 : a0.Jp.length ≤ maxLen := (JX.Jp ha0)
 refine Xo (n := a0.Jp.length) (fun i3 hi3 => ?_) (fun m hm => ?_) i0
 ·unfold M.WB S.WB
  try simp only [Int.toNat_natCast]
  refine Yq (dt (by omega)) ?_
  refine Jc (Zz (dt (by omega)) (Zz (dt (by omega)) Ye)) ?_
  refine Yj (fun hb2 => ?_) (fun hb2 => ?_)
  ·exact X3
  ·exact V6 (by omega)
 ·unfold M.WB
  try simp only [Int.toNat_natCast]
  exact Yr (decide_eq_false (by omega)) rfl
noncomputable def S.Gh (a0 : XU) (a1 : Int) (a2 : Int) : Bool :=
 letS (S.JT a0 a1 a2) (fun r1 => bif decide (r1 < 0) then false else (letS (S.WO a0 a1 a2) (fun r2 => letS (runN (S.WB a0 r2) (.inl ()) 0 a0.Jp.length) (fun y5 => Sum.elim (fun _ => true) (fun y7 => y7) y5))))
theorem Zi4 (a0 : XU) (a1 : Int) (a2 : Int) (ha0 : JX a0) : M.Gh a0 a1 a2 = some (S.Gh a0 a1 a2) := by
 have hM := Zm
 unfold M.Gh S.Gh
 refine Z8 (Zbd a0 a1 a2 ha0) (fun r1 her1 => ?_)
 refine VT (fun hb1 => ?_) (fun hb1 => ?_)
 ·rfl
 ·refine Z8 (Zhr a0 a1 a2 ha0) (fun r2 her2 => ?_)
  refine Z8 (Zgs a0 r2 ha0 0) (fun y5 hey5 => ?_)
  refine Jr (fun _ hl => ?_) (fun y7 hly7 => ?_)
  ·rfl
  ·rfl
end Nv
