/- Total forms of the mirrors. -/
import Derived.Test.YtaienbkgekjdnaaGreatNvD1
import Derived.Test.YtaienbkgekjdnaaGreatNvLibB
import Derived.Test.YtaienbkgekjdnaaGreatNvQ0
set_option maxRecDepth 100000
namespace Nv
open Go
def Yg (x : Zl) : Prop := (x.Xj.size ≤ maxLen) ∧ (x.VS.size ≤ maxLen) ∧ (x.Y7.size ≤ maxLen)
theorem Yg.Xj {x : Zl} (h : Yg x) : x.Xj.size ≤ maxLen := h.1
theorem Yg.VS {x : Zl} (h : Yg x) : x.VS.size ≤ maxLen := h.2.1
theorem Yg.Y7 {x : Zl} (h : Yg x) : x.Y7.size ≤ maxLen := h.2.2
theorem Yg.dflt : Yg default := ⟨(Nat.zero_le _), (Nat.zero_le _), (Nat.zero_le _)⟩
def YA (x : Z2) : Prop := (x.Xj.size ≤ maxLen) ∧ (x.YG.length ≤ maxLen)
theorem YA.Xj {x : Z2} (h : YA x) : x.Xj.size ≤ maxLen := h.1
theorem YA.YG {x : Z2} (h : YA x) : x.YG.length ≤ maxLen := h.2
theorem YA.dflt : YA default := ⟨(Nat.zero_le _), (Nat.zero_le _)⟩
def UC (x : Zax) : Prop := (x.J1.size ≤ maxLen)
theorem UC.J1 {x : Zax} (h : UC x) : x.J1.size ≤ maxLen := h
theorem UC.dflt : UC default := (Nat.zero_le _)
def Q8 (x : Ya) : Prop := (x.Xj.size ≤ maxLen) ∧ (LL UC x.XZ)
theorem Q8.Xj {x : Ya} (h : Q8 x) : x.Xj.size ≤ maxLen := h.1
theorem Q8.XZ {x : Ya} (h : Q8 x) : LL UC x.XZ := h.2
theorem Q8.dflt : Q8 default := ⟨(Nat.zero_le _), ⟨Nat.zero_le _, fun _ h => absurd h List.not_mem_nil⟩⟩
def Ut (x : Ud) : Prop := (x.Xj.size ≤ maxLen) ∧ (x.YG.length ≤ maxLen)
theorem Ut.Xj {x : Ud} (h : Ut x) : x.Xj.size ≤ maxLen := h.1
theorem Ut.YG {x : Ud} (h : Ut x) : x.YG.length ≤ maxLen := h.2
theorem Ut.dflt : Ut default := ⟨(Nat.zero_le _), (Nat.zero_le _)⟩
def Vc (x : YR) : Prop := (x.J1.size ≤ maxLen)
theorem Vc.J1 {x : YR} (h : Vc x) : x.J1.size ≤ maxLen := h
theorem Vc.dflt : Vc default := (Nat.zero_le _)
def Vd (x : YS) : Prop := (x.J2.size ≤ maxLen)
theorem Vd.J2 {x : YS} (h : Vd x) : x.J2.size ≤ maxLen := h
theorem Vd.dflt : Vd default := (Nat.zero_le _)
def Vi (x : YJ) : Prop := (x.ZcM.size ≤ maxLen)
theorem Vi.ZcM {x : YJ} (h : Vi x) : x.ZcM.size ≤ maxLen := h
theorem Vi.dflt : Vi default := (Nat.zero_le _)
def Jm (x : Vl) : Prop := (x.Z4.length ≤ maxLen) ∧ (LL Vi x.Zs)
theorem Jm.Z4 {x : Vl} (h : Jm x) : x.Z4.length ≤ maxLen := h.1
theorem Jm.Zs {x : Vl} (h : Jm x) : LL Vi x.Zs := h.2
theorem Jm.dflt : Jm default := ⟨(Nat.zero_le _), ⟨Nat.zero_le _, fun _ h => absurd h List.not_mem_nil⟩⟩
def X7 (x : YC) : Prop := (x.VS.size ≤ maxLen) ∧ (x.Y7.size ≤ maxLen) ∧ (LL Vi x.Zs)
theorem X7.VS {x : YC} (h : X7 x) : x.VS.size ≤ maxLen := h.1
theorem X7.Y7 {x : YC} (h : X7 x) : x.Y7.size ≤ maxLen := h.2.1
theorem X7.Zs {x : YC} (h : X7 x) : LL Vi x.Zs := h.2.2
theorem X7.dflt : X7 default := ⟨(Nat.zero_le _), (Nat.zero_le _), ⟨Nat.zero_le _, fun _ h => absurd h List.not_mem_nil⟩⟩
def JW (x : Jr) : Prop := (x.VS.size ≤ maxLen) ∧ (x.Y7.size ≤ maxLen)
theorem JW.VS {x : Jr} (h : JW x) : x.VS.size ≤ maxLen := h.1
theorem JW.Y7 {x : Jr} (h : JW x) : x.Y7.size ≤ maxLen := h.2
theorem JW.dflt : JW default := ⟨(Nat.zero_le _), (Nat.zero_le _)⟩
def Xi (x : Xy) : Prop := (LL JW x.Zm) ∧ (x.Z1.length ≤ maxLen) ∧ (x.ZE.length ≤ maxLen) ∧ (x.Zt.length ≤ maxLen) ∧ (LL Vi x.Zs)
theorem Xi.Zm {x : Xy} (h : Xi x) : LL JW x.Zm := h.1
theorem Xi.Z1 {x : Xy} (h : Xi x) : x.Z1.length ≤ maxLen := h.2.1
theorem Xi.ZE {x : Xy} (h : Xi x) : x.ZE.length ≤ maxLen := h.2.2.1
theorem Xi.Zt {x : Xy} (h : Xi x) : x.Zt.length ≤ maxLen := h.2.2.2.1
theorem Xi.Zs {x : Xy} (h : Xi x) : LL Vi x.Zs := h.2.2.2.2
theorem Xi.dflt : Xi default := ⟨⟨Nat.zero_le _, fun _ h => absurd h List.not_mem_nil⟩, (Nat.zero_le _), (Nat.zero_le _), (Nat.zero_le _), ⟨Nat.zero_le _, fun _ h => absurd h List.not_mem_nil⟩⟩
def Zn (x : Zf) : Prop := (x.Xj.size ≤ maxLen) ∧ (LL Yg x.Zc) ∧ (LL YA x.Yv) ∧ (LL Q8 x.XE) ∧ (LL Ut x.YD) ∧ (LL Vc x.Xa) ∧ (LL Vd x.Zq) ∧ (Jm x.Yi) ∧ (X7 x.Yn) ∧ (Xi x.Xs)
theorem Zn.Xj {x : Zf} (h : Zn x) : x.Xj.size ≤ maxLen := h.1
theorem Zn.Zc {x : Zf} (h : Zn x) : LL Yg x.Zc := h.2.1
theorem Zn.Yv {x : Zf} (h : Zn x) : LL YA x.Yv := h.2.2.1
theorem Zn.XE {x : Zf} (h : Zn x) : LL Q8 x.XE := h.2.2.2.1
theorem Zn.YD {x : Zf} (h : Zn x) : LL Ut x.YD := h.2.2.2.2.1
theorem Zn.Xa {x : Zf} (h : Zn x) : LL Vc x.Xa := h.2.2.2.2.2.1
theorem Zn.Zq {x : Zf} (h : Zn x) : LL Vd x.Zq := h.2.2.2.2.2.2.1
theorem Zn.Yi {x : Zf} (h : Zn x) : Jm x.Yi := h.2.2.2.2.2.2.2.1
theorem Zn.Yn {x : Zf} (h : Zn x) : X7 x.Yn := h.2.2.2.2.2.2.2.2.1
theorem Zn.Xs {x : Zf} (h : Zn x) : Xi x.Xs := h.2.2.2.2.2.2.2.2.2
theorem Zn.dflt : Zn default := ⟨(Nat.zero_le _), ⟨Nat.zero_le _, fun _ h => absurd h List.not_mem_nil⟩, ⟨Nat.zero_le _, fun _ h => absurd h List.not_mem_nil⟩, ⟨Nat.zero_le _, fun _ h => absurd h List.not_mem_nil⟩, ⟨Nat.zero_le _, fun _ h => absurd h List.not_mem_nil⟩, ⟨Nat.zero_le _, fun _ h => absurd h List.not_mem_nil⟩, ⟨Nat.zero_le _, fun _ h => absurd h List.not_mem_nil⟩, Jm.dflt, X7.dflt, Xi.dflt⟩
def Yx (x : ZB) : Prop := (LL Zn x.Zd)
theorem Yx.Zd {x : ZB} (h : Yx x) : LL Zn x.Zd := h
def UR (x : Zh) : Prop := (x.ZU.length ≤ maxLen)
theorem UR.ZU {x : Zh} (h : UR x) : x.ZU.length ≤ maxLen := h
theorem UR.dflt : UR default := (Nat.zero_le _)
def VZ (x : Qr) : Prop := (LL UR x.Zv) ∧ (x.XB.length ≤ maxLen)
theorem VZ.Zv {x : Qr} (h : VZ x) : LL UR x.Zv := h.1
theorem VZ.XB {x : Qr} (h : VZ x) : x.XB.length ≤ maxLen := h.2
def Ww (x : Xq) : Prop := (Yx x.X5) ∧ (VZ x.ZV) ∧ (x.Qy.length ≤ maxLen)
theorem Ww.ZV {x : Xq} (h : Ww x) : VZ x.ZV := h.2.1
theorem Ww.Qy {x : Xq} (h : Ww x) : x.Qy.length ≤ maxLen := h.2.2
noncomputable def S.Vp (a0 : Zf) (i1 : Nat) : Option (Unit ⊕ Bool) :=
  bif decide ((((a0.Yv.getD i1 default).YG).length : Int) > 20) then (some (.inr false)) else none
theorem Zdx (a0 : Zf) (ha0 : Zn a0) (i0 : Nat) : loopM (M.Vp a0) (i0 : Int) = some (runN (S.Vp a0) (.inl ()) i0 (a0.Yv.length - i0)) := by
  have hM := Zu
  have hni1 : a0.Yv.length ≤ maxLen := (Zn.Yv ha0).1
  refine Xw (n := a0.Yv.length) (fun i1 hi1 => ?_) (fun m hm => ?_) i0
  · unfold M.Vp S.Vp
    try simp only [Int.toNat_natCast]
    refine Yr (dt (by omega)) ?_
    refine QJ (ZD (dt (by omega)) (ZD (dt (by omega)) Yc)) ?_
    refine Yh (fun hb2 => ?_) (fun hb2 => ?_)
    · exact X3
    · exact VO (by omega)
  · unfold M.Vp
    try simp only [Int.toNat_natCast]
    exact Ys (decide_eq_false (by omega)) rfl
noncomputable def S.Vq (a0 : Zf) (i6 : Nat) : Option (Unit ⊕ Bool) :=
  bif decide ((((a0.XE.getD i6 default).XZ).length : Int) > 12) then (some (.inr false)) else none
theorem Zdy (a0 : Zf) (ha0 : Zn a0) (i0 : Nat) : loopM (M.Vq a0) (i0 : Int) = some (runN (S.Vq a0) (.inl ()) i0 (a0.XE.length - i0)) := by
  have hM := Zu
  have hni6 : a0.XE.length ≤ maxLen := (Zn.XE ha0).1
  refine Xw (n := a0.XE.length) (fun i6 hi6 => ?_) (fun m hm => ?_) i0
  · unfold M.Vq S.Vq
    try simp only [Int.toNat_natCast]
    refine Yr (dt (by omega)) ?_
    refine QJ (ZD (dt (by omega)) (ZD (dt (by omega)) Yc)) ?_
    refine Yh (fun hb3 => ?_) (fun hb3 => ?_)
    · exact X3
    · exact VO (by omega)
  · unfold M.Vq
    try simp only [Int.toNat_natCast]
    exact Ys (decide_eq_false (by omega)) rfl
noncomputable def S.Vr (a0 : Zf) (i11 : Nat) : Option (Unit ⊕ Bool) :=
  bif decide ((((a0.YD.getD i11 default).YG).length : Int) > 20) then (some (.inr false)) else none
theorem Zdz (a0 : Zf) (ha0 : Zn a0) (i0 : Nat) : loopM (M.Vr a0) (i0 : Int) = some (runN (S.Vr a0) (.inl ()) i0 (a0.YD.length - i0)) := by
  have hM := Zu
  have hni11 : a0.YD.length ≤ maxLen := (Zn.YD ha0).1
  refine Xw (n := a0.YD.length) (fun i11 hi11 => ?_) (fun m hm => ?_) i0
  · unfold M.Vr S.Vr
    try simp only [Int.toNat_natCast]
    refine Yr (dt (by omega)) ?_
    refine QJ (ZD (dt (by omega)) (ZD (dt (by omega)) Yc)) ?_
    refine Yh (fun hb4 => ?_) (fun hb4 => ?_)
    · exact X3
    · exact VO (by omega)
  · unfold M.Vr
    try simp only [Int.toNat_natCast]
    exact Ys (decide_eq_false (by omega)) rfl
noncomputable def S.Vm (a0 : Zf) : Bool :=
  bif (((((((((((((decide ((a0.Zc.length : Int) > 12)) || (decide ((a0.Yv.length : Int) > 12))) || (decide ((a0.XE.length : Int) > 12))) || (decide ((a0.YD.length : Int) > 12))) || (decide ((a0.Xa.length : Int) > 12))) || (decide ((a0.Zq.length : Int) > 20))) || (decide ((a0.Yi.Z4.length : Int) > 8))) || (decide ((a0.Yi.Zs.length : Int) > 8))) || (decide ((a0.Yn.Zs.length : Int) > 8))) || (decide ((a0.Xs.Zs.length : Int) > 8))) || (decide ((a0.Xs.Zm.length : Int) > 12))) || (decide ((a0.Xs.Z1.length : Int) > 12))) || (decide ((a0.Xs.ZE.length : Int) > 12))) || (decide ((a0.Xs.Zt.length : Int) > 12)) then false else (letS (runN (S.Vp a0) (.inl ()) 0 a0.Yv.length) (fun y3 => Sum.elim (fun _ => letS (runN (S.Vq a0) (.inl ()) 0 a0.XE.length) (fun y8 => Sum.elim (fun _ => letS (runN (S.Vr a0) (.inl ()) 0 a0.YD.length) (fun y13 => Sum.elim (fun _ => true) (fun y15 => y15) y13)) (fun y10 => y10) y8)) (fun y5 => y5) y3))
theorem Zf5 (a0 : Zf) (ha0 : Zn a0) : M.Vm a0 = some (S.Vm a0) := by
  have hM := Zu
  unfold M.Vm S.Vm
  refine Uj (fun hb1 => ?_) (fun hb1 => ?_)
  · rfl
  · refine XU (Zdx a0 ha0 0) (fun y3 hey3 => ?_)
    refine JM (fun _ hl => ?_) (fun y5 hly5 => ?_)
    · refine XU (Zdy a0 ha0 0) (fun y8 hey8 => ?_)
      refine JM (fun _ hl => ?_) (fun y10 hly10 => ?_)
      · refine XU (Zdz a0 ha0 0) (fun y13 hey13 => ?_)
        refine JM (fun _ hl => ?_) (fun y15 hly15 => ?_)
        · rfl
        · rfl
      · rfl
    · rfl
noncomputable def S.Qi (a0 : ZB) (i1 : Nat) : Option (Unit ⊕ Bool) :=
  letS (S.Vm (a0.Zd.getD i1 default)) (fun r3 => bif !r3 then (some (.inr false)) else none)
theorem Zc1 (a0 : ZB) (ha0 : Yx a0) (i0 : Nat) : loopM (M.Qi a0) (i0 : Int) = some (runN (S.Qi a0) (.inl ()) i0 (a0.Zd.length - i0)) := by
  have hM := Zu
  have hni1 : a0.Zd.length ≤ maxLen := (Yx.Zd ha0).1
  refine Xw (n := a0.Zd.length) (fun i1 hi1 => ?_) (fun m hm => ?_) i0
  · unfold M.Qi S.Qi
    try simp only [Int.toNat_natCast]
    refine Yr (dt (by omega)) ?_
    refine XF (Zf5 (a0.Zd.getD i1 default) (LL.getD (Yx.Zd ha0) Zn.dflt i1)) (fun r3 her3 => ?_)
    refine QJ (ZD (dt (by omega)) (ZD (dt (by omega)) Yc)) ?_
    refine Yh (fun hb2 => ?_) (fun hb2 => ?_)
    · exact X3
    · exact VO (by omega)
  · unfold M.Qi
    try simp only [Int.toNat_natCast]
    exact Ys (decide_eq_false (by omega)) rfl
noncomputable def S.JT (a0 : ZB) : Bool :=
  bif decide ((a0.Zd.length : Int) > 9) then false else (letS (runN (S.Qi a0) (.inl ()) 0 a0.Zd.length) (fun y4 => Sum.elim (fun _ => true) (fun y6 => y6) y4))
theorem Ze5 (a0 : ZB) (ha0 : Yx a0) : M.JT a0 = some (S.JT a0) := by
  have hM := Zu
  unfold M.JT S.JT
  refine Uj (fun hb1 => ?_) (fun hb1 => ?_)
  · rfl
  · refine XU (Zc1 a0 ha0 0) (fun y4 hey4 => ?_)
    refine JM (fun _ hl => ?_) (fun y6 hly6 => ?_)
    · rfl
    · rfl
noncomputable def S.VA (a0 : Int) : Bool :=
  ((decide (a0 ≥ 97)) && (decide (a0 ≤ 122))) || ((decide (a0 ≥ 65)) && (decide (a0 ≤ 90)))
theorem Za2 (a0 : Int)  : M.VA a0 = some (S.VA a0) := by
  have hM := Zu
  unfold M.VA S.VA
  rfl
noncomputable def S.VT (a0 : ByteArray) (i2 : Nat) : Option (Unit ⊕ Bool) :=
  letS (S.VA (byteAt a0 (i2 : Int))) (fun r4 => bif (((((!r4) && (!((decide ((byteAt a0 (i2 : Int)) ≥ 48)) && (decide ((byteAt a0 (i2 : Int)) ≤ 57))))) && ((byteAt a0 (i2 : Int)) != 45)) && ((byteAt a0 (i2 : Int)) != 95)) && ((byteAt a0 (i2 : Int)) != 47)) && ((byteAt a0 (i2 : Int)) != 46) then (some (.inr false)) else none)
theorem ZeI (a0 : ByteArray) (ha0 : a0.size ≤ maxLen) (i0 : Nat) : loopM (M.VT a0) (i0 : Int) = some (runN (S.VT a0) (.inl ()) i0 (a0.size - i0)) := by
  have hM := Zu
  have hni2 : a0.size ≤ maxLen := ha0
  refine Xw (n := a0.size) (fun i2 hi2 => ?_) (fun m hm => ?_) i0
  · unfold M.VT S.VT
    try simp only [Int.toNat_natCast]
    refine Yr (dt (by omega)) ?_
    refine QJ (ZD (dt (by omega)) (ZD (dt (by omega)) Yc)) ?_
    refine XF (Za2 (byteAt a0 (i2 : Int))) (fun r4 her4 => ?_)
    refine Yh (fun hb2 => ?_) (fun hb2 => ?_)
    · exact X3
    · exact VO (by omega)
  · unfold M.VT
    try simp only [Int.toNat_natCast]
    exact Ys (decide_eq_false (by omega)) rfl
noncomputable def S.QW (a0 : ByteArray) : Bool :=
  letS (bif (!((decide ((a0.size : Int) < 1)) || (decide ((a0.size : Int) > 15)))) then S.VA (byteAt a0 0) else default) (fun r1 => bif ((decide ((a0.size : Int) < 1)) || (decide ((a0.size : Int) > 15))) || (!r1) then false else (letS (runN (S.VT a0) (.inl ()) 1 (a0.size - 1)) (fun y5 => Sum.elim (fun _ => true) (fun y7 => y7) y5)))
theorem Gn (a0 : ByteArray) (ha0 : a0.size ≤ maxLen) : M.QW a0 = some (S.QW a0) := by
  have hM := Zu
  unfold M.QW S.QW
  refine XU (WD fun hg => (Za2 (byteAt a0 0))) (fun r1 her1 => ?_)
  refine QJ (ZD (YN fun hg => (dt (by first | omega | (simp; omega) | (simp at *; omega)))) (ZD (YN fun hg => (dt (by first | omega | (simp; omega) | (simp at *; omega)))) Yc)) ?_
  refine Uj (fun hb1 => ?_) (fun hb1 => ?_)
  · rfl
  · refine XU (ZeI a0 ha0 1) (fun y5 hey5 => ?_)
    refine JM (fun _ hl => ?_) (fun y7 hly7 => ?_)
    · rfl
    · rfl
noncomputable def S.ZX (a0 : Int) (a1 : Int) (a2 : Int) : Bool :=
  (decide (a1 ≤ a0)) && (decide (a0 ≤ a2))
theorem XW (a0 : Int) (a1 : Int) (a2 : Int)  : M.ZX a0 a1 a2 = some (S.ZX a0 a1 a2) := by
  have hM := Zu
  unfold M.ZX S.ZX
  rfl
noncomputable def S.Qs (a0 : Int) (a1 : Int) : ZZ :=
  letS (S.Jg (if 0 > (if 32 < a1 then 32 else a1) then 0 else (if 32 < a1 then 32 else a1))) (fun r1 => (⟨bitD .and .u32 a0 r1, if 0 > (if 32 < a1 then 32 else a1) then 0 else (if 32 < a1 then 32 else a1)⟩ : ZZ))
theorem GS (a0 : Int) (a1 : Int)  : M.Qs a0 a1 = some (S.Qs a0 a1) := by
  have hM := Zu
  unfold M.Qs S.Qs
  refine XU (Zab (if 0 > (if 32 < a1 then 32 else a1) then 0 else (if 32 < a1 then 32 else a1))) (fun r1 her1 => ?_)
  rfl
noncomputable def S.J0 (a0 : ZZ) (a1 : Int) : Bool :=
  letS (S.Jg a0.ZW) (fun r1 => (bitD .and .u32 a1 r1) == a0.Zy)
theorem ZdA (a0 : ZZ) (a1 : Int)  : M.J0 a0 a1 = some (S.J0 a0 a1) := by
  have hM := Zu
  unfold M.J0 S.J0
  refine XU (Zab a0.ZW) (fun r1 her1 => ?_)
  rfl
noncomputable def S.JU (a0 : ZZ) (a1 : ZZ) : Bool :=
  letS (bif (decide (a0.ZW ≤ a1.ZW)) then S.J0 a0 a1.Zy else default) (fun r1 => (decide (a0.ZW ≤ a1.ZW)) && r1)
theorem Za3 (a0 : ZZ) (a1 : ZZ)  : M.JU a0 a1 = some (S.JU a0 a1) := by
  have hM := Zu
  unfold M.JU S.JU
  refine XU (WD fun hg => (ZdA a0 a1.Zy)) (fun r1 her1 => ?_)
  rfl
noncomputable def S.Ql (a0 : ZZ) (a1 : ZZ) : Bool :=
  letS (S.JU a0 a1) (fun r1 => letS (bif (!r1) then S.JU a1 a0 else default) (fun r2 => r1 || r2))
theorem Rd (a0 : ZZ) (a1 : ZZ)  : M.Ql a0 a1 = some (S.Ql a0 a1) := by
  have hM := Zu
  unfold M.Ql S.Ql
  refine XU (Za3 a0 a1) (fun r1 her1 => ?_)
  refine XU (WD fun hg => (Za3 a1 a0)) (fun r2 her2 => ?_)
  rfl
noncomputable def S.YH (a0 : List Zl) (i1 : Nat) (i4 : Nat) : Option (Unit ⊕ Int) :=
  bif strEq ((a0.getD i4 default).Xj) ((a0.getD i1 default).Xj) then (some (.inr 4)) else none
theorem Zac (a0 : List Zl) (i1 : Nat) (ha0 : LL Yg a0) (hi1 : i1 < a0.length) (i0 : Nat) : loopM (M.YH a0 (i1 : Int)) (i0 : Int) = some (runN (S.YH a0 i1) (.inl ()) i0 (i1 - i0)) := by
  have hM := Zu
  have hni1 : a0.length ≤ maxLen := ha0.1
  have hni4 : i1 ≤ maxLen := (by omega)
  refine Xw (n := i1) (fun i4 hi4 => ?_) (fun m hm => ?_) i0
  · unfold M.YH S.YH
    try simp only [Int.toNat_natCast]
    refine Yr (dt (by omega)) ?_
    refine QJ (ZD (dt (by omega)) (ZD (dt (by omega)) Yc)) ?_
    refine Yh (fun hb3 => ?_) (fun hb3 => ?_)
    · exact X3
    · exact VO (by omega)
  · unfold M.YH
    try simp only [Int.toNat_natCast]
    exact Ys (decide_eq_false (by omega)) rfl
noncomputable def S.Yo (a0 : List Zl) (i1 : Nat) (i14 : Nat) : Option (Unit ⊕ Int) :=
  letS (bif ((((a0.getD i1 default).ZW) != 0) && (((a0.getD i14 default).ZW) != 0)) then S.Qs ((a0.getD i1 default).Zy) ((a0.getD i1 default).ZW) else default) (fun r16 => letS (bif ((((a0.getD i1 default).ZW) != 0) && (((a0.getD i14 default).ZW) != 0)) then S.Qs ((a0.getD i14 default).Zy) ((a0.getD i14 default).ZW) else default) (fun r17 => letS (bif ((((a0.getD i1 default).ZW) != 0) && (((a0.getD i14 default).ZW) != 0)) then S.Ql r16 r17 else default) (fun r18 => bif ((((a0.getD i1 default).ZW) != 0) && (((a0.getD i14 default).ZW) != 0)) && r18 then (some (.inr 6)) else none)))
theorem Zad (a0 : List Zl) (i1 : Nat) (ha0 : LL Yg a0) (hi1 : i1 < a0.length) (i0 : Nat) : loopM (M.Yo a0 (i1 : Int)) (i0 : Int) = some (runN (S.Yo a0 i1) (.inl ()) i0 (i1 - i0)) := by
  have hM := Zu
  have hni1 : a0.length ≤ maxLen := ha0.1
  have hni14 : i1 ≤ maxLen := (by omega)
  refine Xw (n := i1) (fun i14 hi14 => ?_) (fun m hm => ?_) i0
  · unfold M.Yo S.Yo
    try simp only [Int.toNat_natCast]
    refine Yr (dt (by omega)) ?_
    refine XF (WD fun hg => (GS ((a0.getD i1 default).Zy) ((a0.getD i1 default).ZW))) (fun r16 her16 => ?_)
    refine XF (WD fun hg => (GS ((a0.getD i14 default).Zy) ((a0.getD i14 default).ZW))) (fun r17 her17 => ?_)
    refine XF (WD fun hg => (Rd r16 r17)) (fun r18 her18 => ?_)
    refine QJ (ZD (YN fun hg => (dt (by first | omega | (simp; omega) | (simp at *; omega)))) (ZD (YN fun hg => (dt (by first | omega | (simp; omega) | (simp at *; omega)))) (ZD (YN fun hg => (dt (by first | omega | (simp; omega) | (simp at *; omega)))) (ZD (YN fun hg => (dt (by first | omega | (simp; omega) | (simp at *; omega)))) (ZD (YN fun hg => (dt (by first | omega | (simp; omega) | (simp at *; omega)))) (ZD (YN fun hg => (dt (by first | omega | (simp; omega) | (simp at *; omega)))) Yc)))))) ?_
    refine Yh (fun hb7 => ?_) (fun hb7 => ?_)
    · exact X3
    · exact VO (by omega)
  · unfold M.Yo
    try simp only [Int.toNat_natCast]
    exact Ys (decide_eq_false (by omega)) rfl
noncomputable def S.Yp (a0 : List Zl) (i1 : Nat) : Option (Unit ⊕ Int) :=
  letS (S.QW ((a0.getD i1 default).Xj)) (fun r3 => bif !r3 then (some (.inr 3)) else (letS (runN (S.YH a0 i1) (.inl ()) 0 i1) (fun y6 => Sum.elim (fun _ => letS (S.ZX ((a0.getD i1 default).ZW) 0 32) (fun r9 => letS (bif (!(!r9)) then S.ZX ((a0.getD i1 default).XD) 0 4094 else default) (fun r10 => letS (bif (!((!r9) || (!r10))) then S.ZX ((a0.getD i1 default).RJ) 0 2 else default) (fun r11 => bif ((!r9) || (!r10)) || (!r11) then (some (.inr 1)) else (bif ((((a0.getD i1 default).ZW) == 0) && (((((((((a0.getD i1 default).Zy) != 0) || (((a0.getD i1 default).XD) != 0)) || (((a0.getD i1 default).RJ) != 0)) || ((a0.getD i1 default).Yi)) || ((a0.getD i1 default).Yn)) || (!strEq ((a0.getD i1 default).VS) (⟨#[]⟩ : ByteArray))) || (!strEq ((a0.getD i1 default).Y7) (⟨#[]⟩ : ByteArray)))) || ((((a0.getD i1 default).ZW) != 0) && (((a0.getD i1 default).Zy) == 0)) then (some (.inr 1)) else (letS (bif ((a0.getD i1 default).Yi) then S.ZX ((a0.getD i1 default).V8) 0 255 else default) (fun r12 => letS (bif (((a0.getD i1 default).Yi) && !(!r12)) then S.ZX ((a0.getD i1 default).ZbZ) 1 65535 else default) (fun r13 => bif (((a0.getD i1 default).Yi) && ((!r12) || (!r13))) || ((!((a0.getD i1 default).Yi)) && ((((a0.getD i1 default).V8) != 0) || (((a0.getD i1 default).ZbZ) != 0))) then (some (.inr 1)) else (letS (runN (S.Yo a0 i1) (.inl ()) 0 i1) (fun y19 => Sum.elim (fun _ => none) (fun y21 => some (.inr y21)) y19)))))))))) (fun y8 => some (.inr y8)) y6)))
theorem Zae (a0 : List Zl) (ha0 : LL Yg a0) (i0 : Nat) : loopM (M.Yp a0) (i0 : Int) = some (runN (S.Yp a0) (.inl ()) i0 (a0.length - i0)) := by
  have hM := Zu
  have hni1 : a0.length ≤ maxLen := ha0.1
  refine Xw (n := a0.length) (fun i1 hi1 => ?_) (fun m hm => ?_) i0
  · unfold M.Yp S.Yp
    try simp only [Int.toNat_natCast]
    refine Yr (dt (by omega)) ?_
    refine QJ (ZD (dt (by omega)) (ZD (dt (by omega)) Yc)) ?_
    refine XF (Gn ((a0.getD i1 default).Xj) (Yg.Xj (LL.getD ha0 Yg.dflt i1))) (fun r3 her3 => ?_)
    refine Yh (fun hb2 => ?_) (fun hb2 => ?_)
    · exact X3
    · refine XF (Zac a0 i1 ha0 hi1 0) (fun y6 hey6 => ?_)
      refine VR (fun _ hl => ?_) (fun y8 hly8 => ?_)
      · refine XF (XW ((a0.getD i1 default).ZW) 0 32) (fun r9 her9 => ?_)
        refine XF (WD fun hg => (XW ((a0.getD i1 default).XD) 0 4094)) (fun r10 her10 => ?_)
        refine XF (WD fun hg => (XW ((a0.getD i1 default).RJ) 0 2)) (fun r11 her11 => ?_)
        refine Yh (fun hb4 => ?_) (fun hb4 => ?_)
        · exact X3
        · refine Yh (fun hb5 => ?_) (fun hb5 => ?_)
          · exact X3
          · refine XF (WD fun hg => (XW ((a0.getD i1 default).V8) 0 255)) (fun r12 her12 => ?_)
            refine XF (WD fun hg => (XW ((a0.getD i1 default).ZbZ) 1 65535)) (fun r13 her13 => ?_)
            refine Yh (fun hb6 => ?_) (fun hb6 => ?_)
            · exact X3
            · refine XF (Zad a0 i1 ha0 hi1 0) (fun y19 hey19 => ?_)
              refine VR (fun _ hl => ?_) (fun y21 hly21 => ?_)
              · exact VO (by omega)
              · exact X3
      · exact X3
  · unfold M.Yp
    try simp only [Int.toNat_natCast]
    exact Ys (decide_eq_false (by omega)) rfl
noncomputable def S.Yd (a0 : List Zl) : Int :=
  bif decide ((a0.length : Int) > 8) then 7 else (letS (runN (S.Yp a0) (.inl ()) 0 a0.length) (fun y22 => Sum.elim (fun _ => 0) (fun y24 => y24) y22))
theorem Zcq (a0 : List Zl) (ha0 : LL Yg a0) : M.Yd a0 = some (S.Yd a0) := by
  have hM := Zu
  unfold M.Yd S.Yd
  refine Uj (fun hb1 => ?_) (fun hb1 => ?_)
  · rfl
  · refine XU (Zae a0 ha0 0) (fun y22 hey22 => ?_)
    refine JM (fun _ hl => ?_) (fun y24 hly24 => ?_)
    · rfl
    · rfl
noncomputable def S.Y8 (a0 : ZZ) : Bool :=
  letS (bif ((decide (a0.ZW ≥ 0)) && (decide (a0.ZW ≤ 32))) then S.Jg a0.ZW else default) (fun r1 => ((decide (a0.ZW ≥ 0)) && (decide (a0.ZW ≤ 32))) && ((bitD .andNot .u32 a0.Zy r1) == 0))
theorem Ua (a0 : ZZ)  : M.Y8 a0 = some (S.Y8 a0) := by
  have hM := Zu
  unfold M.Y8 S.Y8
  refine XU (WD fun hg => (Zab a0.ZW)) (fun r1 her1 => ?_)
  rfl
noncomputable def S.YT (a0 : Un) : Bool :=
  letS (S.Y8 a0.Zo) (fun r1 => ((r1 && (decide (a0.Zo.ZW ≤ a0.Ziz))) && (decide (a0.Ziz ≤ a0.ZiA))) && (decide (a0.ZiA ≤ 32)))
theorem KZ (a0 : Un)  : M.YT a0 = some (S.YT a0) := by
  have hM := Zu
  unfold M.YT S.YT
  refine XU (Ua a0.Zo) (fun r1 her1 => ?_)
  rfl
noncomputable def S.Qc (a0 : List Z2) (i1 : Nat) (i4 : Nat) : Option (Unit ⊕ Int) :=
  bif strEq ((a0.getD i4 default).Xj) ((a0.getD i1 default).Xj) then (some (.inr 4)) else none
theorem Rk (a0 : List Z2) (i1 : Nat) (ha0 : LL YA a0) (hi1 : i1 < a0.length) (i0 : Nat) : loopM (M.Qc a0 (i1 : Int)) (i0 : Int) = some (runN (S.Qc a0 i1) (.inl ()) i0 (i1 - i0)) := by
  have hM := Zu
  have hni1 : a0.length ≤ maxLen := ha0.1
  have hni4 : i1 ≤ maxLen := (by omega)
  refine Xw (n := i1) (fun i4 hi4 => ?_) (fun m hm => ?_) i0
  · unfold M.Qc S.Qc
    try simp only [Int.toNat_natCast]
    refine Yr (dt (by omega)) ?_
    refine QJ (ZD (dt (by omega)) (ZD (dt (by omega)) (ZD (dt (by omega)) (ZD (dt (by omega)) Yc)))) ?_
    refine Yh (fun hb3 => ?_) (fun hb3 => ?_)
    · exact X3
    · exact VO (by omega)
  · unfold M.Qc
    try simp only [Int.toNat_natCast]
    exact Ys (decide_eq_false (by omega)) rfl
noncomputable def S.Qd (a0 : List Z2) (i1 : Nat) (i9 : Nat) : Option (Unit ⊕ Int) :=
  letS (S.YT (((a0.getD i1 default).YG).getD i9 default)) (fun r11 => bif !r11 then (some (.inr 1)) else none)
theorem Rl (a0 : List Z2) (i1 : Nat) (ha0 : LL YA a0) (hi1 : i1 < a0.length) (i0 : Nat) : loopM (M.Qd a0 (i1 : Int)) (i0 : Int) = some (runN (S.Qd a0 i1) (.inl ()) i0 (((a0.getD i1 default).YG).length - i0)) := by
  have hM := Zu
  have hni1 : a0.length ≤ maxLen := ha0.1
  have hni9 : ((a0.getD i1 default).YG).length ≤ maxLen := (YA.YG (LL.getD ha0 YA.dflt i1))
  refine Xw (n := ((a0.getD i1 default).YG).length) (fun i9 hi9 => ?_) (fun m hm => ?_) i0
  · unfold M.Qd S.Qd
    try simp only [Int.toNat_natCast]
    refine QJ (ZD (dt (by omega)) (ZD (dt (by omega)) Yc))  ?_
    refine Yr (dt (by omega)) ?_
    refine XF (KZ (((a0.getD i1 default).YG).getD i9 default)) (fun r11 her11 => ?_)
    refine QJ (ZD (dt (by omega)) (ZD (dt (by omega)) (ZD (dt (by omega)) (ZD (dt (by omega)) Yc)))) ?_
    refine Yh (fun hb6 => ?_) (fun hb6 => ?_)
    · exact X3
    · exact VO (by omega)
  · unfold M.Qd
    try simp only [Int.toNat_natCast]
    refine QJ (ZD (dt (by omega)) (ZD (dt (by omega)) Yc))  ?_
    exact Ys (decide_eq_false (by omega)) rfl
noncomputable def S.Qe (a0 : List Z2) (i1 : Nat) : Option (Unit ⊕ Int) :=
  letS (S.QW ((a0.getD i1 default).Xj)) (fun r3 => bif !r3 then (some (.inr 3)) else (letS (runN (S.Qc a0 i1) (.inl ()) 0 i1) (fun y6 => Sum.elim (fun _ => bif (((a0.getD i1 default).YG).length : Int) == 0 then (some (.inr 1)) else (bif decide ((((a0.getD i1 default).YG).length : Int) > 16) then (some (.inr 7)) else (letS (runN (S.Qd a0 i1) (.inl ()) 0 (((a0.getD i1 default).YG).length)) (fun y12 => Sum.elim (fun _ => none) (fun y14 => some (.inr y14)) y12)))) (fun y8 => some (.inr y8)) y6)))
theorem Rm (a0 : List Z2) (ha0 : LL YA a0) (i0 : Nat) : loopM (M.Qe a0) (i0 : Int) = some (runN (S.Qe a0) (.inl ()) i0 (a0.length - i0)) := by
  have hM := Zu
  have hni1 : a0.length ≤ maxLen := ha0.1
  refine Xw (n := a0.length) (fun i1 hi1 => ?_) (fun m hm => ?_) i0
  · unfold M.Qe S.Qe
    try simp only [Int.toNat_natCast]
    refine Yr (dt (by omega)) ?_
    refine XF (Gn ((a0.getD i1 default).Xj) (YA.Xj (LL.getD ha0 YA.dflt i1))) (fun r3 her3 => ?_)
    refine QJ (ZD (dt (by omega)) (ZD (dt (by omega)) Yc)) ?_
    refine Yh (fun hb2 => ?_) (fun hb2 => ?_)
    · exact X3
    · refine XF (Rk a0 i1 ha0 hi1 0) (fun y6 hey6 => ?_)
      refine VR (fun _ hl => ?_) (fun y8 hly8 => ?_)
      · refine QJ (ZD (dt (by omega)) (ZD (dt (by omega)) Yc)) ?_
        refine Yh (fun hb4 => ?_) (fun hb4 => ?_)
        · exact X3
        · refine QJ (ZD (dt (by omega)) (ZD (dt (by omega)) Yc)) ?_
          refine Yh (fun hb5 => ?_) (fun hb5 => ?_)
          · exact X3
          · refine XF (Rl a0 i1 ha0 hi1 0) (fun y12 hey12 => ?_)
            refine VR (fun _ hl => ?_) (fun y14 hly14 => ?_)
            · exact VO (by omega)
            · exact X3
      · exact X3
  · unfold M.Qe
    try simp only [Int.toNat_natCast]
    exact Ys (decide_eq_false (by omega)) rfl
noncomputable def S.Qj (a0 : List Z2) : Int :=
  bif decide ((a0.length : Int) > 8) then 7 else (letS (runN (S.Qe a0) (.inl ()) 0 a0.length) (fun y15 => Sum.elim (fun _ => 0) (fun y17 => y17) y15))
theorem Zbs (a0 : List Z2) (ha0 : LL YA a0) : M.Qj a0 = some (S.Qj a0) := by
  have hM := Zu
  unfold M.Qj S.Qj
  refine Uj (fun hb1 => ?_) (fun hb1 => ?_)
  · rfl
  · refine XU (Rm a0 ha0 0) (fun y15 hey15 => ?_)
    refine JM (fun _ hl => ?_) (fun y17 hly17 => ?_)
    · rfl
    · rfl
noncomputable def S.Qt (a0 : Zf) (a1 : ByteArray) (i1 : Nat) : Option (Unit ⊕ Int) :=
  bif strEq ((a0.Yv.getD i1 default).Xj) a1 then (some (.inr (i1 : Int))) else none
theorem Zaf (a0 : Zf) (a1 : ByteArray) (ha0 : Zn a0) (ha1 : a1.size ≤ maxLen) (i0 : Nat) : loopM (M.Qt a0 a1) (i0 : Int) = some (runN (S.Qt a0 a1) (.inl ()) i0 (a0.Yv.length - i0)) := by
  have hM := Zu
  have hni1 : a0.Yv.length ≤ maxLen := (Zn.Yv ha0).1
  refine Xw (n := a0.Yv.length) (fun i1 hi1 => ?_) (fun m hm => ?_) i0
  · unfold M.Qt S.Qt
    try simp only [Int.toNat_natCast]
    refine Yr (dt (by omega)) ?_
    refine QJ (ZD (dt (by omega)) (ZD (dt (by omega)) Yc)) ?_
    refine Yh (fun hb1 => ?_) (fun hb1 => ?_)
    · exact X3
    · exact VO (by omega)
  · unfold M.Qt
    try simp only [Int.toNat_natCast]
    exact Ys (decide_eq_false (by omega)) rfl
noncomputable def S.YO (a0 : Zf) (a1 : ByteArray) : Int :=
  letS (runN (S.Qt a0 a1) (.inl ()) 0 a0.Yv.length) (fun y3 => Sum.elim (fun _ => -1) (fun y5 => y5) y3)
theorem U7 (a0 : Zf) (a1 : ByteArray) (ha0 : Zn a0) (ha1 : a1.size ≤ maxLen) : M.YO a0 a1 = some (S.YO a0 a1) := by
  have hM := Zu
  unfold M.YO S.YO
  refine XU (Zaf a0 a1 ha0 ha1 0) (fun y3 hey3 => ?_)
  refine JM (fun _ hl => ?_) (fun y5 hly5 => ?_)
  · rfl
  · rfl
noncomputable def S.QL (a0 : Zf) (i1 : Nat) (i4 : Nat) : Option (Unit ⊕ Int) :=
  bif strEq ((a0.XE.getD i4 default).Xj) ((a0.XE.getD i1 default).Xj) then (some (.inr 4)) else none
theorem ZaH (a0 : Zf) (i1 : Nat) (ha0 : Zn a0) (hi1 : i1 < a0.XE.length) (i0 : Nat) : loopM (M.QL a0 (i1 : Int)) (i0 : Int) = some (runN (S.QL a0 i1) (.inl ()) i0 (i1 - i0)) := by
  have hM := Zu
  have hni1 : a0.XE.length ≤ maxLen := (Zn.XE ha0).1
  have hni4 : i1 ≤ maxLen := (by omega)
  refine Xw (n := i1) (fun i4 hi4 => ?_) (fun m hm => ?_) i0
  · unfold M.QL S.QL
    try simp only [Int.toNat_natCast]
    refine Yr (dt (by omega)) ?_
    refine QJ (ZD (dt (by omega)) (ZD (dt (by omega)) (ZD (dt (by omega)) (ZD (dt (by omega)) Yc)))) ?_
    refine Yh (fun hb3 => ?_) (fun hb3 => ?_)
    · exact X3
    · exact VO (by omega)
  · unfold M.QL
    try simp only [Int.toNat_natCast]
    exact Ys (decide_eq_false (by omega)) rfl
noncomputable def S.QM (a0 : Zf) (i1 : Nat) (i9 : Nat) : Option (Unit ⊕ Int) :=
  letS (bif (!strEq ((((a0.XE.getD i1 default).XZ).getD i9 default).J1) (⟨#[]⟩ : ByteArray)) then S.YO a0 ((((a0.XE.getD i1 default).XZ).getD i9 default).J1) else default) (fun r11 => bif (!strEq ((((a0.XE.getD i1 default).XZ).getD i9 default).J1) (⟨#[]⟩ : ByteArray)) && (decide (r11 < 0)) then (some (.inr 5)) else (letS (S.ZX ((((a0.XE.getD i1 default).XZ).getD i9 default).KN) (-1) 65535) (fun r12 => letS (bif (!(!r12)) then S.ZX ((((a0.XE.getD i1 default).XZ).getD i9 default).Zb1) (-1) 65535 else default) (fun r13 => letS (bif (!((!r12) || (!r13))) then S.ZX ((((a0.XE.getD i1 default).XZ).getD i9 default).GJ) (-1) 16777215 else default) (fun r14 => letS (bif (!(((!r12) || (!r13)) || (!r14))) then S.ZX ((((a0.XE.getD i1 default).XZ).getD i9 default).RK) (-1) 1000000 else default) (fun r15 => letS (bif (!((((!r12) || (!r13)) || (!r14)) || (!r15))) then S.ZX ((((a0.XE.getD i1 default).XZ).getD i9 default).RL) 0 8 else default) (fun r16 => bif ((((!r12) || (!r13)) || (!r14)) || (!r15)) || (!r16) then (some (.inr 1)) else none)))))))
theorem ZaI (a0 : Zf) (i1 : Nat) (ha0 : Zn a0) (hi1 : i1 < a0.XE.length) (i0 : Nat) : loopM (M.QM a0 (i1 : Int)) (i0 : Int) = some (runN (S.QM a0 i1) (.inl ()) i0 (((a0.XE.getD i1 default).XZ).length - i0)) := by
  have hM := Zu
  have hni1 : a0.XE.length ≤ maxLen := (Zn.XE ha0).1
  have hni9 : ((a0.XE.getD i1 default).XZ).length ≤ maxLen := (Q8.XZ (LL.getD (Zn.XE ha0) Q8.dflt i1)).1
  refine Xw (n := ((a0.XE.getD i1 default).XZ).length) (fun i9 hi9 => ?_) (fun m hm => ?_) i0
  · unfold M.QM S.QM
    try simp only [Int.toNat_natCast]
    refine QJ (ZD (dt (by omega)) (ZD (dt (by omega)) Yc))  ?_
    refine Yr (dt (by omega)) ?_
    refine QJ (ZD (dt (by omega)) (ZD (dt (by omega)) (ZD (dt (by omega)) (ZD (dt (by omega)) Yc)))) ?_
    refine XF (WD fun hg => (U7 a0 ((((a0.XE.getD i1 default).XZ).getD i9 default).J1) ha0 (UC.J1 (LL.getD (Q8.XZ (LL.getD (Zn.XE ha0) Q8.dflt i1)) UC.dflt i9)))) (fun r11 her11 => ?_)
    refine Yh (fun hb6 => ?_) (fun hb6 => ?_)
    · exact X3
    · refine XF (XW ((((a0.XE.getD i1 default).XZ).getD i9 default).KN) (-1) 65535) (fun r12 her12 => ?_)
      refine XF (WD fun hg => (XW ((((a0.XE.getD i1 default).XZ).getD i9 default).Zb1) (-1) 65535)) (fun r13 her13 => ?_)
      refine XF (WD fun hg => (XW ((((a0.XE.getD i1 default).XZ).getD i9 default).GJ) (-1) 16777215)) (fun r14 her14 => ?_)
      refine XF (WD fun hg => (XW ((((a0.XE.getD i1 default).XZ).getD i9 default).RK) (-1) 1000000)) (fun r15 her15 => ?_)
      refine XF (WD fun hg => (XW ((((a0.XE.getD i1 default).XZ).getD i9 default).RL) 0 8)) (fun r16 her16 => ?_)
      refine Yh (fun hb7 => ?_) (fun hb7 => ?_)
      · exact X3
      · exact VO (by omega)
  · unfold M.QM
    try simp only [Int.toNat_natCast]
    refine QJ (ZD (dt (by omega)) (ZD (dt (by omega)) Yc))  ?_
    exact Ys (decide_eq_false (by omega)) rfl
noncomputable def S.QN (a0 : Zf) (i1 : Nat) : Option (Unit ⊕ Int) :=
  letS (S.QW ((a0.XE.getD i1 default).Xj)) (fun r3 => bif !r3 then (some (.inr 3)) else (letS (runN (S.QL a0 i1) (.inl ()) 0 i1) (fun y6 => Sum.elim (fun _ => bif (((a0.XE.getD i1 default).XZ).length : Int) == 0 then (some (.inr 1)) else (bif decide ((((a0.XE.getD i1 default).XZ).length : Int) > 8) then (some (.inr 7)) else (letS (runN (S.QM a0 i1) (.inl ()) 0 (((a0.XE.getD i1 default).XZ).length)) (fun y17 => Sum.elim (fun _ => none) (fun y19 => some (.inr y19)) y17)))) (fun y8 => some (.inr y8)) y6)))
theorem ZaJ (a0 : Zf) (ha0 : Zn a0) (i0 : Nat) : loopM (M.QN a0) (i0 : Int) = some (runN (S.QN a0) (.inl ()) i0 (a0.XE.length - i0)) := by
  have hM := Zu
  have hni1 : a0.XE.length ≤ maxLen := (Zn.XE ha0).1
  refine Xw (n := a0.XE.length) (fun i1 hi1 => ?_) (fun m hm => ?_) i0
  · unfold M.QN S.QN
    try simp only [Int.toNat_natCast]
    refine Yr (dt (by omega)) ?_
    refine XF (Gn ((a0.XE.getD i1 default).Xj) (Q8.Xj (LL.getD (Zn.XE ha0) Q8.dflt i1))) (fun r3 her3 => ?_)
    refine QJ (ZD (dt (by omega)) (ZD (dt (by omega)) Yc)) ?_
    refine Yh (fun hb2 => ?_) (fun hb2 => ?_)
    · exact X3
    · refine XF (ZaH a0 i1 ha0 hi1 0) (fun y6 hey6 => ?_)
      refine VR (fun _ hl => ?_) (fun y8 hly8 => ?_)
      · refine QJ (ZD (dt (by omega)) (ZD (dt (by omega)) Yc)) ?_
        refine Yh (fun hb4 => ?_) (fun hb4 => ?_)
        · exact X3
        · refine QJ (ZD (dt (by omega)) (ZD (dt (by omega)) Yc)) ?_
          refine Yh (fun hb5 => ?_) (fun hb5 => ?_)
          · exact X3
          · refine XF (ZaI a0 i1 ha0 hi1 0) (fun y17 hey17 => ?_)
            refine VR (fun _ hl => ?_) (fun y19 hly19 => ?_)
            · exact VO (by omega)
            · exact X3
      · exact X3
  · unfold M.QN
    try simp only [Int.toNat_natCast]
    exact Ys (decide_eq_false (by omega)) rfl
noncomputable def S.QZ (a0 : Zf) : Int :=
  bif decide ((a0.XE.length : Int) > 8) then 7 else (letS (runN (S.QN a0) (.inl ()) 0 a0.XE.length) (fun y20 => Sum.elim (fun _ => 0) (fun y22 => y22) y20))
theorem Zc2 (a0 : Zf) (ha0 : Zn a0) : M.QZ a0 = some (S.QZ a0) := by
  have hM := Zu
  unfold M.QZ S.QZ
  refine Uj (fun hb1 => ?_) (fun hb1 => ?_)
  · rfl
  · refine XU (ZaJ a0 ha0 0) (fun y20 hey20 => ?_)
    refine JM (fun _ hl => ?_) (fun y22 hly22 => ?_)
    · rfl
    · rfl
noncomputable def S.V9 (a0 : VK) : Bool :=
  ((decide (0 ≤ a0.Kt)) && (decide (a0.Kt ≤ a0.Re))) && (decide (a0.Re ≤ 65535))
theorem Zcr (a0 : VK)  : M.V9 a0 = some (S.V9 a0) := by
  have hM := Zu
  unfold M.V9 S.V9
  rfl
noncomputable def S.Uo (a0 : VK) : Bool :=
  (a0.Kt == 0) && ((a0.Re == 65535) && true)
theorem ZeJ (a0 : VK)  : M.Uo a0 = some (S.Uo a0) := by
  have hM := Zu
  unfold M.Uo S.Uo
  rfl
noncomputable def S.J6 (a0 : Zey) : Bool :=
  letS (S.ZX a0.YQ (-1) 255) (fun r1 => letS (bif (!(((!r1) || ((bitD .and .u32 a0.Zbe.Zy a0.Zbe.Gw) != 0)) || ((bitD .and .u32 a0.Zbf.Zy a0.Zbf.Gw) != 0))) then S.V9 a0.Uv else default) (fun r2 => letS (bif (!((((!r1) || ((bitD .and .u32 a0.Zbe.Zy a0.Zbe.Gw) != 0)) || ((bitD .and .u32 a0.Zbf.Zy a0.Zbf.Gw) != 0)) || (!r2))) then S.V9 a0.Uw else default) (fun r3 => bif ((((!r1) || ((bitD .and .u32 a0.Zbe.Zy a0.Zbe.Gw) != 0)) || ((bitD .and .u32 a0.Zbf.Zy a0.Zbf.Gw) != 0)) || (!r2)) || (!r3) then false else (letS (bif (!((a0.YQ == 6) || (a0.YQ == 17))) then S.Uo a0.Uv else default) (fun r4 => letS (bif ((!((a0.YQ == 6) || (a0.YQ == 17))) && r4) then S.Uo a0.Uw else default) (fun r5 => ((a0.YQ == 6) || (a0.YQ == 17)) || (r4 && r5)))))))
theorem Zc3 (a0 : Zey)  : M.J6 a0 = some (S.J6 a0) := by
  have hM := Zu
  unfold M.J6 S.J6
  refine XU (XW a0.YQ (-1) 255) (fun r1 her1 => ?_)
  refine XU (WD fun hg => (Zcr a0.Uv)) (fun r2 her2 => ?_)
  refine XU (WD fun hg => (Zcr a0.Uw)) (fun r3 her3 => ?_)
  refine Uj (fun hb1 => ?_) (fun hb1 => ?_)
  · rfl
  · refine XU (WD fun hg => (ZeJ a0.Uv)) (fun r4 her4 => ?_)
    refine XU (WD fun hg => (ZeJ a0.Uw)) (fun r5 her5 => ?_)
    rfl
noncomputable def S.Qf (a0 : List Ud) (i1 : Nat) (i4 : Nat) : Option (Unit ⊕ Int) :=
  bif strEq ((a0.getD i4 default).Xj) ((a0.getD i1 default).Xj) then (some (.inr 4)) else none
theorem Rn (a0 : List Ud) (i1 : Nat) (ha0 : LL Ut a0) (hi1 : i1 < a0.length) (i0 : Nat) : loopM (M.Qf a0 (i1 : Int)) (i0 : Int) = some (runN (S.Qf a0 i1) (.inl ()) i0 (i1 - i0)) := by
  have hM := Zu
  have hni1 : a0.length ≤ maxLen := ha0.1
  have hni4 : i1 ≤ maxLen := (by omega)
  refine Xw (n := i1) (fun i4 hi4 => ?_) (fun m hm => ?_) i0
  · unfold M.Qf S.Qf
    try simp only [Int.toNat_natCast]
    refine Yr (dt (by omega)) ?_
    refine QJ (ZD (dt (by omega)) (ZD (dt (by omega)) (ZD (dt (by omega)) (ZD (dt (by omega)) Yc)))) ?_
    refine Yh (fun hb3 => ?_) (fun hb3 => ?_)
    · exact X3
    · exact VO (by omega)
  · unfold M.Qf
    try simp only [Int.toNat_natCast]
    exact Ys (decide_eq_false (by omega)) rfl
noncomputable def S.Qg (a0 : List Ud) (i1 : Nat) (i9 : Nat) : Option (Unit ⊕ Int) :=
  letS (S.J6 (((a0.getD i1 default).YG).getD i9 default)) (fun r11 => bif !r11 then (some (.inr 1)) else none)
theorem Ro (a0 : List Ud) (i1 : Nat) (ha0 : LL Ut a0) (hi1 : i1 < a0.length) (i0 : Nat) : loopM (M.Qg a0 (i1 : Int)) (i0 : Int) = some (runN (S.Qg a0 i1) (.inl ()) i0 (((a0.getD i1 default).YG).length - i0)) := by
  have hM := Zu
  have hni1 : a0.length ≤ maxLen := ha0.1
  have hni9 : ((a0.getD i1 default).YG).length ≤ maxLen := (Ut.YG (LL.getD ha0 Ut.dflt i1))
  refine Xw (n := ((a0.getD i1 default).YG).length) (fun i9 hi9 => ?_) (fun m hm => ?_) i0
  · unfold M.Qg S.Qg
    try simp only [Int.toNat_natCast]
    refine QJ (ZD (dt (by omega)) (ZD (dt (by omega)) Yc))  ?_
    refine Yr (dt (by omega)) ?_
    refine XF (Zc3 (((a0.getD i1 default).YG).getD i9 default)) (fun r11 her11 => ?_)
    refine QJ (ZD (dt (by omega)) (ZD (dt (by omega)) (ZD (dt (by omega)) (ZD (dt (by omega)) Yc)))) ?_
    refine Yh (fun hb6 => ?_) (fun hb6 => ?_)
    · exact X3
    · exact VO (by omega)
  · unfold M.Qg
    try simp only [Int.toNat_natCast]
    refine QJ (ZD (dt (by omega)) (ZD (dt (by omega)) Yc))  ?_
    exact Ys (decide_eq_false (by omega)) rfl
noncomputable def S.Qh (a0 : List Ud) (i1 : Nat) : Option (Unit ⊕ Int) :=
  letS (S.QW ((a0.getD i1 default).Xj)) (fun r3 => bif !r3 then (some (.inr 3)) else (letS (runN (S.Qf a0 i1) (.inl ()) 0 i1) (fun y6 => Sum.elim (fun _ => bif (((a0.getD i1 default).YG).length : Int) == 0 then (some (.inr 1)) else (bif decide ((((a0.getD i1 default).YG).length : Int) > 16) then (some (.inr 7)) else (letS (runN (S.Qg a0 i1) (.inl ()) 0 (((a0.getD i1 default).YG).length)) (fun y12 => Sum.elim (fun _ => none) (fun y14 => some (.inr y14)) y12)))) (fun y8 => some (.inr y8)) y6)))
theorem Rp (a0 : List Ud) (ha0 : LL Ut a0) (i0 : Nat) : loopM (M.Qh a0) (i0 : Int) = some (runN (S.Qh a0) (.inl ()) i0 (a0.length - i0)) := by
  have hM := Zu
  have hni1 : a0.length ≤ maxLen := ha0.1
  refine Xw (n := a0.length) (fun i1 hi1 => ?_) (fun m hm => ?_) i0
  · unfold M.Qh S.Qh
    try simp only [Int.toNat_natCast]
    refine Yr (dt (by omega)) ?_
    refine XF (Gn ((a0.getD i1 default).Xj) (Ut.Xj (LL.getD ha0 Ut.dflt i1))) (fun r3 her3 => ?_)
    refine QJ (ZD (dt (by omega)) (ZD (dt (by omega)) Yc)) ?_
    refine Yh (fun hb2 => ?_) (fun hb2 => ?_)
    · exact X3
    · refine XF (Rn a0 i1 ha0 hi1 0) (fun y6 hey6 => ?_)
      refine VR (fun _ hl => ?_) (fun y8 hly8 => ?_)
      · refine QJ (ZD (dt (by omega)) (ZD (dt (by omega)) Yc)) ?_
        refine Yh (fun hb4 => ?_) (fun hb4 => ?_)
        · exact X3
        · refine QJ (ZD (dt (by omega)) (ZD (dt (by omega)) Yc)) ?_
          refine Yh (fun hb5 => ?_) (fun hb5 => ?_)
          · exact X3
          · refine XF (Ro a0 i1 ha0 hi1 0) (fun y12 hey12 => ?_)
            refine VR (fun _ hl => ?_) (fun y14 hly14 => ?_)
            · exact VO (by omega)
            · exact X3
      · exact X3
  · unfold M.Qh
    try simp only [Int.toNat_natCast]
    exact Ys (decide_eq_false (by omega)) rfl
noncomputable def S.Qk (a0 : List Ud) : Int :=
  bif decide ((a0.length : Int) > 8) then 7 else (letS (runN (S.Qh a0) (.inl ()) 0 a0.length) (fun y15 => Sum.elim (fun _ => 0) (fun y17 => y17) y15))
theorem Zbt (a0 : List Ud) (ha0 : LL Ut a0) : M.Qk a0 = some (S.Qk a0) := by
  have hM := Zu
  unfold M.Qk S.Qk
  refine Uj (fun hb1 => ?_) (fun hb1 => ?_)
  · rfl
  · refine XU (Rp a0 ha0 0) (fun y15 hey15 => ?_)
    refine JM (fun _ hl => ?_) (fun y17 hly17 => ?_)
    · rfl
    · rfl
noncomputable def S.Wp (a0 : Zf) (a1 : ByteArray) (i1 : Nat) : Option (Unit ⊕ Int) :=
  bif strEq ((a0.YD.getD i1 default).Xj) a1 then (some (.inr (i1 : Int))) else none
theorem Ze6 (a0 : Zf) (a1 : ByteArray) (ha0 : Zn a0) (ha1 : a1.size ≤ maxLen) (i0 : Nat) : loopM (M.Wp a0 a1) (i0 : Int) = some (runN (S.Wp a0 a1) (.inl ()) i0 (a0.YD.length - i0)) := by
  have hM := Zu
  have hni1 : a0.YD.length ≤ maxLen := (Zn.YD ha0).1
  refine Xw (n := a0.YD.length) (fun i1 hi1 => ?_) (fun m hm => ?_) i0
  · unfold M.Wp S.Wp
    try simp only [Int.toNat_natCast]
    refine Yr (dt (by omega)) ?_
    refine QJ (ZD (dt (by omega)) (ZD (dt (by omega)) Yc)) ?_
    refine Yh (fun hb1 => ?_) (fun hb1 => ?_)
    · exact X3
    · exact VO (by omega)
  · unfold M.Wp
    try simp only [Int.toNat_natCast]
    exact Ys (decide_eq_false (by omega)) rfl
noncomputable def S.WI (a0 : Zf) (a1 : ByteArray) : Int :=
  letS (runN (S.Wp a0 a1) (.inl ()) 0 a0.YD.length) (fun y3 => Sum.elim (fun _ => -1) (fun y5 => y5) y3)
theorem Zbu (a0 : Zf) (a1 : ByteArray) (ha0 : Zn a0) (ha1 : a1.size ≤ maxLen) : M.WI a0 a1 = some (S.WI a0 a1) := by
  have hM := Zu
  unfold M.WI S.WI
  refine XU (Ze6 a0 a1 ha0 ha1 0) (fun y3 hey3 => ?_)
  refine JM (fun _ hl => ?_) (fun y5 hly5 => ?_)
  · rfl
  · rfl
noncomputable def S.XV (a0 : Zf) (i1 : Nat) (p3 : Bool) : Option (Unit ⊕ Int) :=
  bif !p3 then (some (.inr 1)) else (letS (bif (((a0.Xa.getD i1 default).WC) == 2) then S.WI a0 ((a0.Xa.getD i1 default).J1) else default) (fun r4 => bif (((a0.Xa.getD i1 default).WC) == 2) && (decide (r4 < 0)) then (some (.inr 5)) else none))
theorem VV (a0 : Zf) (i1 : Nat) (p3 : Bool) (ha0 : Zn a0) (hi1 : i1 < a0.Xa.length) : M.XV a0 (i1 : Int) p3 = some (rdN (S.XV a0 i1 p3) i1) := by
  have hM := Zu
  have hni1 : a0.Xa.length ≤ maxLen := (Zn.Xa ha0).1
  unfold M.XV S.XV
  try simp only [Int.toNat_natCast]
  refine Yh (fun hb3 => ?_) (fun hb3 => ?_)
  · exact X3
  · refine XF (WD fun hg => (Zbu a0 ((a0.Xa.getD i1 default).J1) ha0 (Vc.J1 (LL.getD (Zn.Xa ha0) Vc.dflt i1)))) (fun r4 her4 => ?_)
    refine Yh (fun hb4 => ?_) (fun hb4 => ?_)
    · exact X3
    · exact VO (by omega)
noncomputable def S.YU (a0 : Zf) (i1 : Nat) : Option (Unit ⊕ Int) :=
  bif ((a0.Xa.getD i1 default).WC) == 1 then (S.XV a0 i1 (((((a0.Xa.getD i1 default).Jy) != 0) && (((a0.Xa.getD i1 default).Qz) != 0)) && ((((a0.Xa.getD i1 default).WC) == ((a0.Xa.getD i1 default).WC)) && ((((a0.Xa.getD i1 default).Jy) == ((a0.Xa.getD i1 default).Jy)) && ((((a0.Xa.getD i1 default).Qz) == ((a0.Xa.getD i1 default).Qz)) && ((((a0.Xa.getD i1 default).YQ) == 0) && ((((a0.Xa.getD i1 default).JS) == 0) && ((((a0.Xa.getD i1 default).Jf) == 0) && (strEq ((a0.Xa.getD i1 default).J1) (⟨#[]⟩ : ByteArray) && ((((a0.Xa.getD i1 default).Kt) == 0) && ((((a0.Xa.getD i1 default).Re) == 0) && true))))))))))) else (bif ((a0.Xa.getD i1 default).WC) == 2 then (S.XV a0 i1 ((((((a0.Xa.getD i1 default).Kt) != 0) && (decide (((a0.Xa.getD i1 default).Kt) ≤ ((a0.Xa.getD i1 default).Re)))) && (decide ((wr .u32 (((a0.Xa.getD i1 default).Re) - ((a0.Xa.getD i1 default).Kt))) < 8))) && ((((a0.Xa.getD i1 default).WC) == ((a0.Xa.getD i1 default).WC)) && ((((a0.Xa.getD i1 default).Jy) == 0) && ((((a0.Xa.getD i1 default).Qz) == 0) && ((((a0.Xa.getD i1 default).YQ) == 0) && ((((a0.Xa.getD i1 default).JS) == 0) && ((((a0.Xa.getD i1 default).Jf) == 0) && (strEq ((a0.Xa.getD i1 default).J1) ((a0.Xa.getD i1 default).J1) && ((((a0.Xa.getD i1 default).Kt) == ((a0.Xa.getD i1 default).Kt)) && ((((a0.Xa.getD i1 default).Re) == ((a0.Xa.getD i1 default).Re)) && true))))))))))) else (bif ((a0.Xa.getD i1 default).WC) == 3 then (letS (bif (((((a0.Xa.getD i1 default).Jy) != 0) && (((a0.Xa.getD i1 default).Qz) != 0)) && ((((a0.Xa.getD i1 default).YQ) == 6) || (((a0.Xa.getD i1 default).YQ) == 17))) then S.ZX ((a0.Xa.getD i1 default).JS) 0 65535 else default) (fun r5 => letS (bif ((((((a0.Xa.getD i1 default).Jy) != 0) && (((a0.Xa.getD i1 default).Qz) != 0)) && ((((a0.Xa.getD i1 default).YQ) == 6) || (((a0.Xa.getD i1 default).YQ) == 17))) && r5) then S.ZX ((a0.Xa.getD i1 default).Jf) 0 65535 else default) (fun r6 => S.XV a0 i1 ((((((((((a0.Xa.getD i1 default).Jy) != 0) && (((a0.Xa.getD i1 default).Qz) != 0)) && ((((a0.Xa.getD i1 default).YQ) == 6) || (((a0.Xa.getD i1 default).YQ) == 17))) && r5) && r6) && (strEq ((a0.Xa.getD i1 default).J1) (⟨#[]⟩ : ByteArray))) && (((a0.Xa.getD i1 default).Kt) == 0)) && (((a0.Xa.getD i1 default).Re) == 0))))) else (S.XV a0 i1 false)))
theorem K0 (a0 : Zf) (ha0 : Zn a0) (i0 : Nat) : loopM (M.YU a0) (i0 : Int) = some (runN (S.YU a0) (.inl ()) i0 (a0.Xa.length - i0)) := by
  have hM := Zu
  have hni1 : a0.Xa.length ≤ maxLen := (Zn.Xa ha0).1
  refine Xw (n := a0.Xa.length) (fun i1 hi1 => ?_) (fun m hm => ?_) i0
  · unfold M.YU S.YU
    try simp only [Int.toNat_natCast]
    refine Yr (dt (by omega)) ?_
    refine QJ (ZD (dt (by omega)) (ZD (dt (by omega)) Yc)) ?_
    refine Yh (fun hb2 => ?_) (fun hb2 => ?_)
    · exact VV a0 i1 (((((a0.Xa.getD i1 default).Jy) != 0) && (((a0.Xa.getD i1 default).Qz) != 0)) && ((((a0.Xa.getD i1 default).WC) == ((a0.Xa.getD i1 default).WC)) && ((((a0.Xa.getD i1 default).Jy) == ((a0.Xa.getD i1 default).Jy)) && ((((a0.Xa.getD i1 default).Qz) == ((a0.Xa.getD i1 default).Qz)) && ((((a0.Xa.getD i1 default).YQ) == 0) && ((((a0.Xa.getD i1 default).JS) == 0) && ((((a0.Xa.getD i1 default).Jf) == 0) && (strEq ((a0.Xa.getD i1 default).J1) (⟨#[]⟩ : ByteArray) && ((((a0.Xa.getD i1 default).Kt) == 0) && ((((a0.Xa.getD i1 default).Re) == 0) && true)))))))))) ha0 hi1
    · refine Yh (fun hb5 => ?_) (fun hb5 => ?_)
      · exact VV a0 i1 ((((((a0.Xa.getD i1 default).Kt) != 0) && (decide (((a0.Xa.getD i1 default).Kt) ≤ ((a0.Xa.getD i1 default).Re)))) && (decide ((wr .u32 (((a0.Xa.getD i1 default).Re) - ((a0.Xa.getD i1 default).Kt))) < 8))) && ((((a0.Xa.getD i1 default).WC) == ((a0.Xa.getD i1 default).WC)) && ((((a0.Xa.getD i1 default).Jy) == 0) && ((((a0.Xa.getD i1 default).Qz) == 0) && ((((a0.Xa.getD i1 default).YQ) == 0) && ((((a0.Xa.getD i1 default).JS) == 0) && ((((a0.Xa.getD i1 default).Jf) == 0) && (strEq ((a0.Xa.getD i1 default).J1) ((a0.Xa.getD i1 default).J1) && ((((a0.Xa.getD i1 default).Kt) == ((a0.Xa.getD i1 default).Kt)) && ((((a0.Xa.getD i1 default).Re) == ((a0.Xa.getD i1 default).Re)) && true)))))))))) ha0 hi1
      · refine Yh (fun hb6 => ?_) (fun hb6 => ?_)
        · refine XF (WD fun hg => (XW ((a0.Xa.getD i1 default).JS) 0 65535)) (fun r5 her5 => ?_)
          refine XF (WD fun hg => (XW ((a0.Xa.getD i1 default).Jf) 0 65535)) (fun r6 her6 => ?_)
          exact VV a0 i1 ((((((((((a0.Xa.getD i1 default).Jy) != 0) && (((a0.Xa.getD i1 default).Qz) != 0)) && ((((a0.Xa.getD i1 default).YQ) == 6) || (((a0.Xa.getD i1 default).YQ) == 17))) && r5) && r6) && (strEq ((a0.Xa.getD i1 default).J1) (⟨#[]⟩ : ByteArray))) && (((a0.Xa.getD i1 default).Kt) == 0)) && (((a0.Xa.getD i1 default).Re) == 0)) ha0 hi1
        · exact VV a0 i1 false ha0 hi1
  · unfold M.YU
    try simp only [Int.toNat_natCast]
    exact Ys (decide_eq_false (by omega)) rfl
noncomputable def S.YV (a0 : Zf) : Int :=
  bif decide ((a0.Xa.length : Int) > 8) then 7 else (letS (runN (S.YU a0) (.inl ()) 0 a0.Xa.length) (fun y7 => Sum.elim (fun _ => 0) (fun y9 => y9) y7))
theorem ZaK (a0 : Zf) (ha0 : Zn a0) : M.YV a0 = some (S.YV a0) := by
  have hM := Zu
  unfold M.YV S.YV
  refine Uj (fun hb1 => ?_) (fun hb1 => ?_)
  · rfl
  · refine XU (K0 a0 ha0 0) (fun y7 hey7 => ?_)
    refine JM (fun _ hl => ?_) (fun y9 hly9 => ?_)
    · rfl
    · rfl
noncomputable def S.Jz (a0 : Zf) (i1 : Nat) : Option (Unit ⊕ Int) :=
  letS (bif (!strEq ((a0.Zc.getD i1 default).VS) (⟨#[]⟩ : ByteArray)) then S.WI a0 ((a0.Zc.getD i1 default).VS) else default) (fun r3 => letS (bif ((!((!strEq ((a0.Zc.getD i1 default).VS) (⟨#[]⟩ : ByteArray)) && (decide (r3 < 0)))) && (!strEq ((a0.Zc.getD i1 default).Y7) (⟨#[]⟩ : ByteArray))) then S.WI a0 ((a0.Zc.getD i1 default).Y7) else default) (fun r4 => bif ((!strEq ((a0.Zc.getD i1 default).VS) (⟨#[]⟩ : ByteArray)) && (decide (r3 < 0))) || ((!strEq ((a0.Zc.getD i1 default).Y7) (⟨#[]⟩ : ByteArray)) && (decide (r4 < 0))) then (some (.inr 5)) else none))
theorem Zcs (a0 : Zf) (ha0 : Zn a0) (i0 : Nat) : loopM (M.Jz a0) (i0 : Int) = some (runN (S.Jz a0) (.inl ()) i0 (a0.Zc.length - i0)) := by
  have hM := Zu
  have hni1 : a0.Zc.length ≤ maxLen := (Zn.Zc ha0).1
  refine Xw (n := a0.Zc.length) (fun i1 hi1 => ?_) (fun m hm => ?_) i0
  · unfold M.Jz S.Jz
    try simp only [Int.toNat_natCast]
    refine Yr (dt (by omega)) ?_
    refine QJ (ZD (dt (by omega)) (ZD (dt (by omega)) Yc)) ?_
    refine XF (WD fun hg => (Zbu a0 ((a0.Zc.getD i1 default).VS) ha0 (Yg.VS (LL.getD (Zn.Zc ha0) Yg.dflt i1)))) (fun r3 her3 => ?_)
    refine XF (WD fun hg => (Zbu a0 ((a0.Zc.getD i1 default).Y7) ha0 (Yg.Y7 (LL.getD (Zn.Zc ha0) Yg.dflt i1)))) (fun r4 her4 => ?_)
    refine Yh (fun hb1 => ?_) (fun hb1 => ?_)
    · exact X3
    · exact VO (by omega)
  · unfold M.Jz
    try simp only [Int.toNat_natCast]
    exact Ys (decide_eq_false (by omega)) rfl
noncomputable def S.J7 (a0 : Zf) : Int :=
  letS (runN (S.Jz a0) (.inl ()) 0 a0.Zc.length) (fun y5 => Sum.elim (fun _ => 0) (fun y7 => y7) y5)
theorem ZeK (a0 : Zf) (ha0 : Zn a0) : M.J7 a0 = some (S.J7 a0) := by
  have hM := Zu
  unfold M.J7 S.J7
  refine XU (Zcs a0 ha0 0) (fun y5 hey5 => ?_)
  refine JM (fun _ hl => ?_) (fun y7 hly7 => ?_)
  · rfl
  · rfl
noncomputable def S.JA (a0 : Zf) (a1 : Int) (i1 : Nat) : Option (Unit ⊕ Int) :=
  bif (((a0.Zc.getD i1 default).ZW) != 0) && (((a0.Zc.getD i1 default).Zy) == a1) then (some (.inr (i1 : Int))) else none
theorem Zct (a0 : Zf) (a1 : Int) (ha0 : Zn a0) (i0 : Nat) : loopM (M.JA a0 a1) (i0 : Int) = some (runN (S.JA a0 a1) (.inl ()) i0 (a0.Zc.length - i0)) := by
  have hM := Zu
  have hni1 : a0.Zc.length ≤ maxLen := (Zn.Zc ha0).1
  refine Xw (n := a0.Zc.length) (fun i1 hi1 => ?_) (fun m hm => ?_) i0
  · unfold M.JA S.JA
    try simp only [Int.toNat_natCast]
    refine Yr (dt (by omega)) ?_
    refine QJ (ZD (dt (by omega)) (ZD (dt (by omega)) (ZD (YN fun hg => (dt (by first | omega | (simp; omega) | (simp at *; omega)))) (ZD (YN fun hg => (dt (by first | omega | (simp; omega) | (simp at *; omega)))) Yc)))) ?_
    refine Yh (fun hb1 => ?_) (fun hb1 => ?_)
    · exact X3
    · exact VO (by omega)
  · unfold M.JA
    try simp only [Int.toNat_natCast]
    exact Ys (decide_eq_false (by omega)) rfl
noncomputable def S.JB (a0 : Zf) (a1 : Int) : Int :=
  letS (runN (S.JA a0 a1) (.inl ()) 0 a0.Zc.length) (fun y3 => Sum.elim (fun _ => -1) (fun y5 => y5) y3)
theorem Zag (a0 : Zf) (a1 : Int) (ha0 : Zn a0) : M.JB a0 a1 = some (S.JB a0 a1) := by
  have hM := Zu
  unfold M.JB S.JB
  refine XU (Zct a0 a1 ha0 0) (fun y3 hey3 => ?_)
  refine JM (fun _ hl => ?_) (fun y5 hly5 => ?_)
  · rfl
  · rfl
noncomputable def S.Qm (a0 : Zf) (a1 : ByteArray) (i1 : Nat) : Option (Unit ⊕ Int) :=
  bif strEq ((a0.Zc.getD i1 default).Xj) a1 then (some (.inr (i1 : Int))) else none
theorem ZaL (a0 : Zf) (a1 : ByteArray) (ha0 : Zn a0) (ha1 : a1.size ≤ maxLen) (i0 : Nat) : loopM (M.Qm a0 a1) (i0 : Int) = some (runN (S.Qm a0 a1) (.inl ()) i0 (a0.Zc.length - i0)) := by
  have hM := Zu
  have hni1 : a0.Zc.length ≤ maxLen := (Zn.Zc ha0).1
  refine Xw (n := a0.Zc.length) (fun i1 hi1 => ?_) (fun m hm => ?_) i0
  · unfold M.Qm S.Qm
    try simp only [Int.toNat_natCast]
    refine Yr (dt (by omega)) ?_
    refine QJ (ZD (dt (by omega)) (ZD (dt (by omega)) Yc)) ?_
    refine Yh (fun hb1 => ?_) (fun hb1 => ?_)
    · exact X3
    · exact VO (by omega)
  · unfold M.Qm
    try simp only [Int.toNat_natCast]
    exact Ys (decide_eq_false (by omega)) rfl
noncomputable def S.Q0 (a0 : Zf) (a1 : ByteArray) : Int :=
  letS (runN (S.Qm a0 a1) (.inl ()) 0 a0.Zc.length) (fun y3 => Sum.elim (fun _ => -1) (fun y5 => y5) y3)
theorem Zc4 (a0 : Zf) (a1 : ByteArray) (ha0 : Zn a0) (ha1 : a1.size ≤ maxLen) : M.Q0 a0 a1 = some (S.Q0 a0 a1) := by
  have hM := Zu
  unfold M.Q0 S.Q0
  refine XU (ZaL a0 a1 ha0 ha1 0) (fun y3 hey3 => ?_)
  refine JM (fun _ hl => ?_) (fun y5 hly5 => ?_)
  · rfl
  · rfl
theorem Zbv (a0 : Zf) (a1 : ByteArray) : S.Q0 a0 a1 < (a0.Zc.length : Int) := by
  unfold S.Q0
  simp only [letS]
  exact Zln (fun i => by unfold S.Qm; cases strEq (a0.Zc.getD i default).Xj a1 <;> simp) _
noncomputable def S.JC (a0 : Zf) (i1 : Nat) (i11 : Nat) : Option (Unit ⊕ Int) :=
  bif (((((a0.Zq.getD i11 default).Zo).Zy) == (((a0.Zq.getD i1 default).Zo).Zy)) && (((((a0.Zq.getD i11 default).Zo).ZW) == (((a0.Zq.getD i1 default).Zo).ZW)) && true)) && (((a0.Zq.getD i11 default).Xr) == ((a0.Zq.getD i1 default).Xr)) then (some (.inr 6)) else none
theorem Zcu (a0 : Zf) (i1 : Nat) (ha0 : Zn a0) (hi1 : i1 < a0.Zq.length) (i0 : Nat) : loopM (M.JC a0 (i1 : Int)) (i0 : Int) = some (runN (S.JC a0 i1) (.inl ()) i0 (i1 - i0)) := by
  have hM := Zu
  have hni1 : a0.Zq.length ≤ maxLen := (Zn.Zq ha0).1
  have hni11 : i1 ≤ maxLen := (by omega)
  refine Xw (n := i1) (fun i11 hi11 => ?_) (fun m hm => ?_) i0
  · unfold M.JC S.JC
    try simp only [Int.toNat_natCast]
    refine Yr (dt (by omega)) ?_
    refine QJ (ZD (dt (by omega)) (ZD (dt (by omega)) (ZD (YN fun hg => (dt (by first | omega | (simp; omega) | (simp at *; omega)))) (ZD (YN fun hg => (dt (by first | omega | (simp; omega) | (simp at *; omega)))) Yc)))) ?_
    refine Yh (fun hb9 => ?_) (fun hb9 => ?_)
    · exact X3
    · exact VO (by omega)
  · unfold M.JC
    try simp only [Int.toNat_natCast]
    exact Ys (decide_eq_false (by omega)) rfl
noncomputable def S.QA (a0 : Zf) (i1 : Nat) (_p10 : Unit) : Option (Unit ⊕ Int) :=
  letS (runN (S.JC a0 i1) (.inl ()) 0 i1) (fun y13 => Sum.elim (fun _ => none) (fun y15 => some (.inr y15)) y13)
theorem G9 (a0 : Zf) (i1 : Nat) (_p10 : Unit) (ha0 : Zn a0) (hi1 : i1 < a0.Zq.length) : M.QA a0 (i1 : Int) _p10 = some (rdN (S.QA a0 i1 _p10) i1) := by
  have hM := Zu
  have hni1 : a0.Zq.length ≤ maxLen := (Zn.Zq ha0).1
  unfold M.QA S.QA
  try simp only [Int.toNat_natCast]
  refine XF (Zcu a0 i1 ha0 hi1 0) (fun y13 hey13 => ?_)
  refine VR (fun _ hl => ?_) (fun y15 hly15 => ?_)
  · exact VO (by omega)
  · exact X3
noncomputable def S.QB (a0 : Zf) (i1 : Nat) (p5 : Int) : Option (Unit ⊕ Int) :=
  letS (S.Y8 ((a0.Zq.getD i1 default).Zo)) (fun r6 => letS (bif ((!((!r6) || (p5 != 1))) && (((a0.Zq.getD i1 default).U0) != 0)) then S.JB a0 ((a0.Zq.getD i1 default).U0) else default) (fun r7 => letS (bif (!(((!r6) || (p5 != 1)) || ((((a0.Zq.getD i1 default).U0) != 0) && (decide (r7 ≥ 0))))) then S.ZX ((a0.Zq.getD i1 default).Xr) 1 255 else default) (fun r8 => letS (bif (!((((!r6) || (p5 != 1)) || ((((a0.Zq.getD i1 default).U0) != 0) && (decide (r7 ≥ 0)))) || (!r8))) then S.ZX ((a0.Zq.getD i1 default).KN) 0 65535 else default) (fun r9 => bif ((((!r6) || (p5 != 1)) || ((((a0.Zq.getD i1 default).U0) != 0) && (decide (r7 ≥ 0)))) || (!r8)) || (!r9) then (some (.inr 1)) else (bif !strEq ((a0.Zq.getD i1 default).J2) (⟨#[]⟩ : ByteArray) then (letS (S.Q0 a0 ((a0.Zq.getD i1 default).J2)) (fun r16 => bif decide (r16 < 0) then (some (.inr 5)) else (bif ((a0.Zc.getD r16.toNat default).ZW) == 0 then (some (.inr 1)) else (S.QA a0 i1 ())))) else (S.QA a0 i1 ()))))))
theorem Ka (a0 : Zf) (i1 : Nat) (p5 : Int) (ha0 : Zn a0) (hi1 : i1 < a0.Zq.length) : M.QB a0 (i1 : Int) p5 = some (rdN (S.QB a0 i1 p5) i1) := by
  have hM := Zu
  have hni1 : a0.Zq.length ≤ maxLen := (Zn.Zq ha0).1
  unfold M.QB S.QB
  try simp only [Int.toNat_natCast]
  refine XF (Ua ((a0.Zq.getD i1 default).Zo)) (fun r6 her6 => ?_)
  refine XF (WD fun hg => (Zag a0 ((a0.Zq.getD i1 default).U0) ha0)) (fun r7 her7 => ?_)
  refine XF (WD fun hg => (XW ((a0.Zq.getD i1 default).Xr) 1 255)) (fun r8 her8 => ?_)
  refine XF (WD fun hg => (XW ((a0.Zq.getD i1 default).KN) 0 65535)) (fun r9 her9 => ?_)
  refine Yh (fun hb5 => ?_) (fun hb5 => ?_)
  · exact X3
  · refine Yh (fun hb6 => ?_) (fun hb6 => ?_)
    · refine XF (Zc4 a0 ((a0.Zq.getD i1 default).J2) ha0 (Vd.J2 (LL.getD (Zn.Zq ha0) Vd.dflt i1))) (fun r16 her16 => ?_)
      have hrr16 := Zbv a0 ((a0.Zq.getD i1 default).J2)
      refine Yh (fun hb7 => ?_) (fun hb7 => ?_)
      · exact X3
      · refine QJ (ZD (dt (by first | omega | (simp; omega) | (simp at *; omega))) (ZD (dt (by first | omega | (simp; omega) | (simp at *; omega))) Yc)) ?_
        refine Yh (fun hb8 => ?_) (fun hb8 => ?_)
        · exact X3
        · exact G9 a0 i1 () ha0 hi1
    · exact G9 a0 i1 () ha0 hi1
noncomputable def S.QC (a0 : Zf) (i1 : Nat) (p4 : Int) : Option (Unit ⊕ Int) :=
  bif (a0.Zq.getD i1 default).Zez then (S.QB a0 i1 (wr .i64 (p4 + 1))) else (S.QB a0 i1 p4)
theorem Kb (a0 : Zf) (i1 : Nat) (p4 : Int) (ha0 : Zn a0) (hi1 : i1 < a0.Zq.length) : M.QC a0 (i1 : Int) p4 = some (rdN (S.QC a0 i1 p4) i1) := by
  have hM := Zu
  have hni1 : a0.Zq.length ≤ maxLen := (Zn.Zq ha0).1
  unfold M.QC S.QC
  try simp only [Int.toNat_natCast]
  refine Yh (fun hb4 => ?_) (fun hb4 => ?_)
  · exact Ka a0 i1 (wr .i64 (p4 + 1)) ha0 hi1
  · exact Ka a0 i1 p4 ha0 hi1
noncomputable def S.QD (a0 : Zf) (i1 : Nat) (p3 : Int) : Option (Unit ⊕ Int) :=
  bif !strEq ((a0.Zq.getD i1 default).J2) (⟨#[]⟩ : ByteArray) then (S.QC a0 i1 (wr .i64 (p3 + 1))) else (S.QC a0 i1 p3)
theorem Kc (a0 : Zf) (i1 : Nat) (p3 : Int) (ha0 : Zn a0) (hi1 : i1 < a0.Zq.length) : M.QD a0 (i1 : Int) p3 = some (rdN (S.QD a0 i1 p3) i1) := by
  have hM := Zu
  have hni1 : a0.Zq.length ≤ maxLen := (Zn.Zq ha0).1
  unfold M.QD S.QD
  try simp only [Int.toNat_natCast]
  refine Yh (fun hb3 => ?_) (fun hb3 => ?_)
  · exact Kb a0 i1 (wr .i64 (p3 + 1)) ha0 hi1
  · exact Kb a0 i1 p3 ha0 hi1
noncomputable def S.JD (a0 : Zf) (i1 : Nat) : Option (Unit ⊕ Int) :=
  bif ((a0.Zq.getD i1 default).U0) != 0 then (S.QD a0 i1 1) else (S.QD a0 i1 0)
theorem Zcv (a0 : Zf) (ha0 : Zn a0) (i0 : Nat) : loopM (M.JD a0) (i0 : Int) = some (runN (S.JD a0) (.inl ()) i0 (a0.Zq.length - i0)) := by
  have hM := Zu
  have hni1 : a0.Zq.length ≤ maxLen := (Zn.Zq ha0).1
  refine Xw (n := a0.Zq.length) (fun i1 hi1 => ?_) (fun m hm => ?_) i0
  · unfold M.JD S.JD
    try simp only [Int.toNat_natCast]
    refine Yr (dt (by omega)) ?_
    refine QJ (ZD (dt (by omega)) (ZD (dt (by omega)) Yc)) ?_
    refine Yh (fun hb2 => ?_) (fun hb2 => ?_)
    · exact Kc a0 i1 1 ha0 hi1
    · exact Kc a0 i1 0 ha0 hi1
  · unfold M.JD
    try simp only [Int.toNat_natCast]
    exact Ys (decide_eq_false (by omega)) rfl
noncomputable def S.J8 (a0 : Zf) : Int :=
  bif decide ((a0.Zq.length : Int) > 16) then 7 else (letS (runN (S.JD a0) (.inl ()) 0 a0.Zq.length) (fun y17 => Sum.elim (fun _ => 0) (fun y19 => y19) y17))
theorem ZeL (a0 : Zf) (ha0 : Zn a0) : M.J8 a0 = some (S.J8 a0) := by
  have hM := Zu
  unfold M.J8 S.J8
  refine Uj (fun hb1 => ?_) (fun hb1 => ?_)
  · rfl
  · refine XU (Zcv a0 ha0 0) (fun y17 hey17 => ?_)
    refine JM (fun _ hl => ?_) (fun y19 hly19 => ?_)
    · rfl
    · rfl
noncomputable def S.Jh (a0 : Zf) (a1 : ByteArray) (i1 : Nat) : Option (Unit ⊕ Int) :=
  bif strEq ((a0.XE.getD i1 default).Xj) a1 then (some (.inr (i1 : Int))) else none
theorem Zbw (a0 : Zf) (a1 : ByteArray) (ha0 : Zn a0) (ha1 : a1.size ≤ maxLen) (i0 : Nat) : loopM (M.Jh a0 a1) (i0 : Int) = some (runN (S.Jh a0 a1) (.inl ()) i0 (a0.XE.length - i0)) := by
  have hM := Zu
  have hni1 : a0.XE.length ≤ maxLen := (Zn.XE ha0).1
  refine Xw (n := a0.XE.length) (fun i1 hi1 => ?_) (fun m hm => ?_) i0
  · unfold M.Jh S.Jh
    try simp only [Int.toNat_natCast]
    refine Yr (dt (by omega)) ?_
    refine QJ (ZD (dt (by omega)) (ZD (dt (by omega)) Yc)) ?_
    refine Yh (fun hb1 => ?_) (fun hb1 => ?_)
    · exact X3
    · exact VO (by omega)
  · unfold M.Jh
    try simp only [Int.toNat_natCast]
    exact Ys (decide_eq_false (by omega)) rfl
noncomputable def S.QG (a0 : Zf) (a1 : ByteArray) : Int :=
  letS (runN (S.Jh a0 a1) (.inl ()) 0 a0.XE.length) (fun y3 => Sum.elim (fun _ => -1) (fun y5 => y5) y3)
theorem Gv (a0 : Zf) (a1 : ByteArray) (ha0 : Zn a0) (ha1 : a1.size ≤ maxLen) : M.QG a0 a1 = some (S.QG a0 a1) := by
  have hM := Zu
  unfold M.QG S.QG
  refine XU (Zbw a0 a1 ha0 ha1 0) (fun y3 hey3 => ?_)
  refine JM (fun _ hl => ?_) (fun y5 hly5 => ?_)
  · rfl
  · rfl
noncomputable def S.Yk (a1 : List YJ) (i1 : Nat) (i7 : Nat) : Option (Unit ⊕ Int) :=
  bif ((a1.getD i7 default).GK) == ((a1.getD i1 default).GK) then (some (.inr 4)) else none
theorem G0 (a1 : List YJ) (i1 : Nat) (ha1 : LL Vi a1) (hi1 : i1 < a1.length) (i0 : Nat) : loopM (M.Yk a1 (i1 : Int)) (i0 : Int) = some (runN (S.Yk a1 i1) (.inl ()) i0 (i1 - i0)) := by
  have hM := Zu
  have hni1 : a1.length ≤ maxLen := ha1.1
  have hni7 : i1 ≤ maxLen := (by omega)
  refine Xw (n := i1) (fun i7 hi7 => ?_) (fun m hm => ?_) i0
  · unfold M.Yk S.Yk
    try simp only [Int.toNat_natCast]
    refine Yr (dt (by omega)) ?_
    refine QJ (ZD (dt (by omega)) (ZD (dt (by omega)) Yc)) ?_
    refine Yh (fun hb5 => ?_) (fun hb5 => ?_)
    · exact X3
    · exact VO (by omega)
  · unfold M.Yk
    try simp only [Int.toNat_natCast]
    exact Ys (decide_eq_false (by omega)) rfl
noncomputable def S.Yl (a0 : Zf) (a1 : List YJ) (a2 : Int) (a3 : Int) (a4 : Int) (i1 : Nat) : Option (Unit ⊕ Int) :=
  letS (S.ZX ((a1.getD i1 default).GK) 1 5) (fun r3 => letS (bif (!((!r3) || (((a1.getD i1 default).GK) == a2))) then S.ZX ((a1.getD i1 default).Zb2) a3 a4 else default) (fun r4 => letS (bif (!(((!r3) || (((a1.getD i1 default).GK) == a2)) || (!r4))) then S.ZX ((a1.getD i1 default).KN) 0 65535 else default) (fun r5 => bif (((!r3) || (((a1.getD i1 default).GK) == a2)) || (!r4)) || (!r5) then (some (.inr 1)) else (bif (((a2 == 3) && (((a1.getD i1 default).Zdg) != 1)) && (((a1.getD i1 default).Zdg) != 2)) || ((a2 != 3) && (((a1.getD i1 default).Zdg) != 0)) then (some (.inr 1)) else (letS (bif (!strEq ((a1.getD i1 default).ZcM) (⟨#[]⟩ : ByteArray)) then S.QG a0 ((a1.getD i1 default).ZcM) else default) (fun r6 => bif (!strEq ((a1.getD i1 default).ZcM) (⟨#[]⟩ : ByteArray)) && (decide (r6 < 0)) then (some (.inr 5)) else (letS (runN (S.Yk a1 i1) (.inl ()) 0 i1) (fun y9 => Sum.elim (fun _ => none) (fun y11 => some (.inr y11)) y9))))))))
theorem G1 (a0 : Zf) (a1 : List YJ) (a2 : Int) (a3 : Int) (a4 : Int) (ha0 : Zn a0) (ha1 : LL Vi a1) (i0 : Nat) : loopM (M.Yl a0 a1 a2 a3 a4) (i0 : Int) = some (runN (S.Yl a0 a1 a2 a3 a4) (.inl ()) i0 (a1.length - i0)) := by
  have hM := Zu
  have hni1 : a1.length ≤ maxLen := ha1.1
  refine Xw (n := a1.length) (fun i1 hi1 => ?_) (fun m hm => ?_) i0
  · unfold M.Yl S.Yl
    try simp only [Int.toNat_natCast]
    refine Yr (dt (by omega)) ?_
    refine QJ (ZD (dt (by omega)) (ZD (dt (by omega)) Yc)) ?_
    refine XF (XW ((a1.getD i1 default).GK) 1 5) (fun r3 her3 => ?_)
    refine XF (WD fun hg => (XW ((a1.getD i1 default).Zb2) a3 a4)) (fun r4 her4 => ?_)
    refine XF (WD fun hg => (XW ((a1.getD i1 default).KN) 0 65535)) (fun r5 her5 => ?_)
    refine Yh (fun hb2 => ?_) (fun hb2 => ?_)
    · exact X3
    · refine Yh (fun hb3 => ?_) (fun hb3 => ?_)
      · exact X3
      · refine XF (WD fun hg => (Gv a0 ((a1.getD i1 default).ZcM) ha0 (Vi.ZcM (LL.getD ha1 Vi.dflt i1)))) (fun r6 her6 => ?_)
        refine Yh (fun hb4 => ?_) (fun hb4 => ?_)
        · exact X3
        · refine XF (G0 a1 i1 ha1 hi1 0) (fun y9 hey9 => ?_)
          refine VR (fun _ hl => ?_) (fun y11 hly11 => ?_)
          · exact VO (by omega)
          · exact X3
  · unfold M.Yl
    try simp only [Int.toNat_natCast]
    exact Ys (decide_eq_false (by omega)) rfl
noncomputable def S.X4 (a0 : Zf) (a1 : List YJ) (a2 : Int) (a3 : Int) (a4 : Int) : Int :=
  bif decide ((a1.length : Int) > 4) then 7 else (letS (runN (S.Yl a0 a1 a2 a3 a4) (.inl ()) 0 a1.length) (fun y12 => Sum.elim (fun _ => 0) (fun y14 => y14) y12))
theorem Ub (a0 : Zf) (a1 : List YJ) (a2 : Int) (a3 : Int) (a4 : Int) (ha0 : Zn a0) (ha1 : LL Vi a1) : M.X4 a0 a1 a2 a3 a4 = some (S.X4 a0 a1 a2 a3 a4) := by
  have hM := Zu
  unfold M.X4 S.X4
  refine Uj (fun hb1 => ?_) (fun hb1 => ?_)
  · rfl
  · refine XU (G1 a0 a1 a2 a3 a4 ha0 ha1 0) (fun y12 hey12 => ?_)
    refine JM (fun _ hl => ?_) (fun y14 hly14 => ?_)
    · rfl
    · rfl
noncomputable def S.QO (a0 : Zf) (i2 : Nat) (i6 : Nat) : Option (Unit ⊕ Int) :=
  letS (bif (((a0.Yi.Z4.getD i6 default).V8) == ((a0.Yi.Z4.getD i2 default).V8)) then S.Ql ((a0.Yi.Z4.getD i6 default).Zo) ((a0.Yi.Z4.getD i2 default).Zo) else default) (fun r8 => bif (((a0.Yi.Z4.getD i6 default).V8) == ((a0.Yi.Z4.getD i2 default).V8)) && r8 then (some (.inr 6)) else none)
theorem ZaM (a0 : Zf) (i2 : Nat) (ha0 : Zn a0) (hi2 : i2 < a0.Yi.Z4.length) (i0 : Nat) : loopM (M.QO a0 (i2 : Int)) (i0 : Int) = some (runN (S.QO a0 i2) (.inl ()) i0 (i2 - i0)) := by
  have hM := Zu
  have hni2 : a0.Yi.Z4.length ≤ maxLen := (Jm.Z4 (Zn.Yi ha0))
  have hni6 : i2 ≤ maxLen := (by omega)
  refine Xw (n := i2) (fun i6 hi6 => ?_) (fun m hm => ?_) i0
  · unfold M.QO S.QO
    try simp only [Int.toNat_natCast]
    refine Yr (dt (by omega)) ?_
    refine XF (WD fun hg => (Rd ((a0.Yi.Z4.getD i6 default).Zo) ((a0.Yi.Z4.getD i2 default).Zo))) (fun r8 her8 => ?_)
    refine QJ (ZD (dt (by omega)) (ZD (dt (by omega)) (ZD (dt (by omega)) (ZD (dt (by omega)) (ZD (YN fun hg => (dt (by first | omega | (simp; omega) | (simp at *; omega)))) (ZD (YN fun hg => (dt (by first | omega | (simp; omega) | (simp at *; omega)))) (ZD (YN fun hg => (dt (by first | omega | (simp; omega) | (simp at *; omega)))) (ZD (YN fun hg => (dt (by first | omega | (simp; omega) | (simp at *; omega)))) Yc)))))))) ?_
    refine Yh (fun hb6 => ?_) (fun hb6 => ?_)
    · exact X3
    · exact VO (by omega)
  · unfold M.QO
    try simp only [Int.toNat_natCast]
    exact Ys (decide_eq_false (by omega)) rfl
noncomputable def S.QP (a0 : Zf) (i2 : Nat) : Option (Unit ⊕ Int) :=
  letS (S.ZX ((a0.Yi.Z4.getD i2 default).V8) 0 255) (fun r4 => letS (bif (!(!r4)) then S.Y8 ((a0.Yi.Z4.getD i2 default).Zo) else default) (fun r5 => bif (!r4) || (!r5) then (some (.inr 1)) else (letS (runN (S.QO a0 i2) (.inl ()) 0 i2) (fun y9 => Sum.elim (fun _ => none) (fun y11 => some (.inr y11)) y9))))
theorem ZaN (a0 : Zf) (ha0 : Zn a0) (i0 : Nat) : loopM (M.QP a0) (i0 : Int) = some (runN (S.QP a0) (.inl ()) i0 (a0.Yi.Z4.length - i0)) := by
  have hM := Zu
  have hni2 : a0.Yi.Z4.length ≤ maxLen := (Jm.Z4 (Zn.Yi ha0))
  refine Xw (n := a0.Yi.Z4.length) (fun i2 hi2 => ?_) (fun m hm => ?_) i0
  · unfold M.QP S.QP
    try simp only [Int.toNat_natCast]
    refine Yr (dt (by omega)) ?_
    refine XF (XW ((a0.Yi.Z4.getD i2 default).V8) 0 255) (fun r4 her4 => ?_)
    refine XF (WD fun hg => (Ua ((a0.Yi.Z4.getD i2 default).Zo))) (fun r5 her5 => ?_)
    refine QJ (ZD (dt (by omega)) (ZD (dt (by omega)) (ZD (YN fun hg => (dt (by first | omega | (simp; omega) | (simp at *; omega)))) (ZD (YN fun hg => (dt (by first | omega | (simp; omega) | (simp at *; omega)))) Yc)))) ?_
    refine Yh (fun hb5 => ?_) (fun hb5 => ?_)
    · exact X3
    · refine XF (ZaM a0 i2 ha0 hi2 0) (fun y9 hey9 => ?_)
      refine VR (fun _ hl => ?_) (fun y11 hly11 => ?_)
      · exact VO (by omega)
      · exact X3
  · unfold M.QP
    try simp only [Int.toNat_natCast]
    exact Ys (decide_eq_false (by omega)) rfl
noncomputable def S.Q1 (a0 : Zf) : Int :=
  bif !a0.Yi.Vz then (bif ((a0.Yi.Xr != 0) || (decide ((a0.Yi.Z4.length : Int) > 0))) || (decide ((a0.Yi.Zs.length : Int) > 0)) then 1 else 0) else (letS (S.ZX a0.Yi.Xr 1 255) (fun r1 => bif !r1 then 1 else (bif decide ((a0.Yi.Z4.length : Int) > 4) then 7 else (letS (runN (S.QP a0) (.inl ()) 0 a0.Yi.Z4.length) (fun y12 => Sum.elim (fun _ => letS (S.X4 a0 a0.Yi.Zs 3 0 16777215) (fun r15 => r15)) (fun y14 => y14) y12)))))
theorem Zc5 (a0 : Zf) (ha0 : Zn a0) : M.Q1 a0 = some (S.Q1 a0) := by
  have hM := Zu
  unfold M.Q1 S.Q1
  refine Uj (fun hb1 => ?_) (fun hb1 => ?_)
  · refine Uj (fun hb2 => ?_) (fun hb2 => ?_)
    · rfl
    · rfl
  · refine XU (XW a0.Yi.Xr 1 255) (fun r1 her1 => ?_)
    refine Uj (fun hb3 => ?_) (fun hb3 => ?_)
    · rfl
    · refine Uj (fun hb4 => ?_) (fun hb4 => ?_)
      · rfl
      · refine XU (ZaN a0 ha0 0) (fun y12 hey12 => ?_)
        refine JM (fun _ hl => ?_) (fun y14 hly14 => ?_)
        · refine XU (Ub a0 a0.Yi.Zs 3 0 16777215 ha0 (Jm.Zs (Zn.Yi ha0))) (fun r15 her15 => ?_)
          rfl
        · rfl
noncomputable def S.Js (a0 : Zf) : Int :=
  bif !a0.Yn.Vz then (bif (((a0.Yn.Xr != 0) || (!strEq a0.Yn.VS (⟨#[]⟩ : ByteArray))) || (!strEq a0.Yn.Y7 (⟨#[]⟩ : ByteArray))) || (decide ((a0.Yn.Zs.length : Int) > 0)) then 1 else 0) else (letS (S.ZX a0.Yn.Xr 1 255) (fun r1 => bif !r1 then 1 else (letS (bif (!strEq a0.Yn.VS (⟨#[]⟩ : ByteArray)) then S.YO a0 a0.Yn.VS else default) (fun r2 => letS (bif ((!((!strEq a0.Yn.VS (⟨#[]⟩ : ByteArray)) && (decide (r2 < 0)))) && (!strEq a0.Yn.Y7 (⟨#[]⟩ : ByteArray))) then S.YO a0 a0.Yn.Y7 else default) (fun r3 => bif ((!strEq a0.Yn.VS (⟨#[]⟩ : ByteArray)) && (decide (r2 < 0))) || ((!strEq a0.Yn.Y7 (⟨#[]⟩ : ByteArray)) && (decide (r3 < 0))) then 5 else (letS (S.X4 a0 a0.Yn.Zs 4 1 15) (fun r4 => r4)))))))
theorem ZdB (a0 : Zf) (ha0 : Zn a0) : M.Js a0 = some (S.Js a0) := by
  have hM := Zu
  unfold M.Js S.Js
  refine Uj (fun hb1 => ?_) (fun hb1 => ?_)
  · refine Uj (fun hb2 => ?_) (fun hb2 => ?_)
    · rfl
    · rfl
  · refine XU (XW a0.Yn.Xr 1 255) (fun r1 her1 => ?_)
    refine Uj (fun hb3 => ?_) (fun hb3 => ?_)
    · rfl
    · refine XU (WD fun hg => (U7 a0 a0.Yn.VS ha0 (X7.VS (Zn.Yn ha0)))) (fun r2 her2 => ?_)
      refine XU (WD fun hg => (U7 a0 a0.Yn.Y7 ha0 (X7.Y7 (Zn.Yn ha0)))) (fun r3 her3 => ?_)
      refine Uj (fun hb4 => ?_) (fun hb4 => ?_)
      · rfl
      · refine XU (Ub a0 a0.Yn.Zs 4 1 15 ha0 (X7.Zs (Zn.Yn ha0))) (fun r4 her4 => ?_)
        rfl
noncomputable def S.QQ (a0 : Zf) (i1 : Nat) (i6 : Nat) : Option (Unit ⊕ Int) :=
  bif ((a0.Xs.Zm.getD i6 default).Zy) == ((a0.Xs.Zm.getD i1 default).Zy) then (some (.inr 4)) else none
theorem ZaO (a0 : Zf) (i1 : Nat) (ha0 : Zn a0) (hi1 : i1 < a0.Xs.Zm.length) (i0 : Nat) : loopM (M.QQ a0 (i1 : Int)) (i0 : Int) = some (runN (S.QQ a0 i1) (.inl ()) i0 (i1 - i0)) := by
  have hM := Zu
  have hni1 : a0.Xs.Zm.length ≤ maxLen := (Xi.Zm (Zn.Xs ha0)).1
  have hni6 : i1 ≤ maxLen := (by omega)
  refine Xw (n := i1) (fun i6 hi6 => ?_) (fun m hm => ?_) i0
  · unfold M.QQ S.QQ
    try simp only [Int.toNat_natCast]
    refine Yr (dt (by omega)) ?_
    refine QJ (ZD (dt (by omega)) (ZD (dt (by omega)) (ZD (dt (by omega)) (ZD (dt (by omega)) Yc)))) ?_
    refine Yh (fun hb4 => ?_) (fun hb4 => ?_)
    · exact X3
    · exact VO (by omega)
  · unfold M.QQ
    try simp only [Int.toNat_natCast]
    exact Ys (decide_eq_false (by omega)) rfl
noncomputable def S.QR (a0 : Zf) (i1 : Nat) : Option (Unit ⊕ Int) :=
  letS (bif (!(((a0.Xs.Zm.getD i1 default).Zy) == 0)) then S.ZX ((a0.Xs.Zm.getD i1 default).GA) 1 65535 else default) (fun r3 => bif (((a0.Xs.Zm.getD i1 default).Zy) == 0) || (!r3) then (some (.inr 1)) else (letS (bif (!strEq ((a0.Xs.Zm.getD i1 default).VS) (⟨#[]⟩ : ByteArray)) then S.QG a0 ((a0.Xs.Zm.getD i1 default).VS) else default) (fun r4 => letS (bif ((!((!strEq ((a0.Xs.Zm.getD i1 default).VS) (⟨#[]⟩ : ByteArray)) && (decide (r4 < 0)))) && (!strEq ((a0.Xs.Zm.getD i1 default).Y7) (⟨#[]⟩ : ByteArray))) then S.QG a0 ((a0.Xs.Zm.getD i1 default).Y7) else default) (fun r5 => bif ((!strEq ((a0.Xs.Zm.getD i1 default).VS) (⟨#[]⟩ : ByteArray)) && (decide (r4 < 0))) || ((!strEq ((a0.Xs.Zm.getD i1 default).Y7) (⟨#[]⟩ : ByteArray)) && (decide (r5 < 0))) then (some (.inr 5)) else (letS (runN (S.QQ a0 i1) (.inl ()) 0 i1) (fun y8 => Sum.elim (fun _ => none) (fun y10 => some (.inr y10)) y8))))))
theorem ZaP (a0 : Zf) (ha0 : Zn a0) (i0 : Nat) : loopM (M.QR a0) (i0 : Int) = some (runN (S.QR a0) (.inl ()) i0 (a0.Xs.Zm.length - i0)) := by
  have hM := Zu
  have hni1 : a0.Xs.Zm.length ≤ maxLen := (Xi.Zm (Zn.Xs ha0)).1
  refine Xw (n := a0.Xs.Zm.length) (fun i1 hi1 => ?_) (fun m hm => ?_) i0
  · unfold M.QR S.QR
    try simp only [Int.toNat_natCast]
    refine Yr (dt (by omega)) ?_
    refine XF (WD fun hg => (XW ((a0.Xs.Zm.getD i1 default).GA) 1 65535)) (fun r3 her3 => ?_)
    refine QJ (ZD (dt (by omega)) (ZD (dt (by omega)) (ZD (YN fun hg => (dt (by first | omega | (simp; omega) | (simp at *; omega)))) (ZD (YN fun hg => (dt (by first | omega | (simp; omega) | (simp at *; omega)))) Yc)))) ?_
    refine Yh (fun hb2 => ?_) (fun hb2 => ?_)
    · exact X3
    · refine XF (WD fun hg => (Gv a0 ((a0.Xs.Zm.getD i1 default).VS) ha0 (JW.VS (LL.getD (Xi.Zm (Zn.Xs ha0)) JW.dflt i1)))) (fun r4 her4 => ?_)
      refine XF (WD fun hg => (Gv a0 ((a0.Xs.Zm.getD i1 default).Y7) ha0 (JW.Y7 (LL.getD (Xi.Zm (Zn.Xs ha0)) JW.dflt i1)))) (fun r5 her5 => ?_)
      refine QJ (ZD (dt (by omega)) (ZD (dt (by omega)) (ZD (YN fun hg => (dt (by first | omega | (simp; omega) | (simp at *; omega)))) (ZD (YN fun hg => (dt (by first | omega | (simp; omega) | (simp at *; omega)))) (ZD (YN fun hg => (dt (by first | omega | (simp; omega) | (simp at *; omega)))) (ZD (YN fun hg => (dt (by first | omega | (simp; omega) | (simp at *; omega)))) (ZD (YN fun hg => (dt (by first | omega | (simp; omega) | (simp at *; omega)))) (ZD (YN fun hg => (dt (by first | omega | (simp; omega) | (simp at *; omega)))) Yc)))))))) ?_
      refine Yh (fun hb3 => ?_) (fun hb3 => ?_)
      · exact X3
      · refine XF (ZaO a0 i1 ha0 hi1 0) (fun y8 hey8 => ?_)
        refine VR (fun _ hl => ?_) (fun y10 hly10 => ?_)
        · exact VO (by omega)
        · exact X3
  · unfold M.QR
    try simp only [Int.toNat_natCast]
    exact Ys (decide_eq_false (by omega)) rfl
noncomputable def S.J9 (a0 : Zf) : Int :=
  bif decide ((a0.Xs.Zm.length : Int) > 8) then 7 else (letS (runN (S.QR a0) (.inl ()) 0 a0.Xs.Zm.length) (fun y11 => Sum.elim (fun _ => 0) (fun y13 => y13) y11))
theorem Zc6 (a0 : Zf) (ha0 : Zn a0) : M.J9 a0 = some (S.J9 a0) := by
  have hM := Zu
  unfold M.J9 S.J9
  refine Uj (fun hb1 => ?_) (fun hb1 => ?_)
  · rfl
  · refine XU (ZaP a0 ha0 0) (fun y11 hey11 => ?_)
    refine JM (fun _ hl => ?_) (fun y13 hly13 => ?_)
    · rfl
    · rfl
noncomputable def S.YW (a0 : Xy) (i1 : Nat) (i4 : Nat) : Option (Unit ⊕ Int) :=
  bif ((((a0.Z1.getD i4 default).Zy) == ((a0.Z1.getD i1 default).Zy)) && ((((a0.Z1.getD i4 default).ZW) == ((a0.Z1.getD i1 default).ZW)) && true)) then (some (.inr 4)) else none
theorem K3 (a0 : Xy) (i1 : Nat) (ha0 : Xi a0) (hi1 : i1 < a0.Z1.length) (i0 : Nat) : loopM (M.YW a0 (i1 : Int)) (i0 : Int) = some (runN (S.YW a0 i1) (.inl ()) i0 (i1 - i0)) := by
  have hM := Zu
  have hni1 : a0.Z1.length ≤ maxLen := (Xi.Z1 ha0)
  have hni4 : i1 ≤ maxLen := (by omega)
  refine Xw (n := i1) (fun i4 hi4 => ?_) (fun m hm => ?_) i0
  · unfold M.YW S.YW
    try simp only [Int.toNat_natCast]
    refine Yr (dt (by omega)) ?_
    refine QJ (ZD (dt (by omega)) (ZD (dt (by omega)) (ZD (dt (by omega)) (ZD (dt (by omega)) Yc)))) ?_
    refine Yh (fun hb3 => ?_) (fun hb3 => ?_)
    · exact X3
    · exact VO (by omega)
  · unfold M.YW
    try simp only [Int.toNat_natCast]
    exact Ys (decide_eq_false (by omega)) rfl
noncomputable def S.YX (a0 : Xy) (i1 : Nat) : Option (Unit ⊕ Int) :=
  letS (S.Y8 (a0.Z1.getD i1 default)) (fun r3 => bif !r3 then (some (.inr 1)) else (letS (runN (S.YW a0 i1) (.inl ()) 0 i1) (fun y6 => Sum.elim (fun _ => none) (fun y8 => some (.inr y8)) y6)))
theorem K4 (a0 : Xy) (ha0 : Xi a0) (i0 : Nat) : loopM (M.YX a0) (i0 : Int) = some (runN (S.YX a0) (.inl ()) i0 (a0.Z1.length - i0)) := by
  have hM := Zu
  have hni1 : a0.Z1.length ≤ maxLen := (Xi.Z1 ha0)
  refine Xw (n := a0.Z1.length) (fun i1 hi1 => ?_) (fun m hm => ?_) i0
  · unfold M.YX S.YX
    try simp only [Int.toNat_natCast]
    refine Yr (dt (by omega)) ?_
    refine XF (Ua (a0.Z1.getD i1 default)) (fun r3 her3 => ?_)
    refine QJ (ZD (dt (by omega)) (ZD (dt (by omega)) Yc)) ?_
    refine Yh (fun hb2 => ?_) (fun hb2 => ?_)
    · exact X3
    · refine XF (K3 a0 i1 ha0 hi1 0) (fun y6 hey6 => ?_)
      refine VR (fun _ hl => ?_) (fun y8 hly8 => ?_)
      · exact VO (by omega)
      · exact X3
  · unfold M.YX
    try simp only [Int.toNat_natCast]
    exact Ys (decide_eq_false (by omega)) rfl
noncomputable def S.YY (a0 : Xy) (i12 : Nat) (i15 : Nat) : Option (Unit ⊕ Int) :=
  bif (((((a0.ZE.getD i15 default).Zo).Zy) == (((a0.ZE.getD i12 default).Zo).Zy)) && (((((a0.ZE.getD i15 default).Zo).ZW) == (((a0.ZE.getD i12 default).Zo).ZW)) && true)) then (some (.inr 4)) else none
theorem K5 (a0 : Xy) (i12 : Nat) (ha0 : Xi a0) (hi12 : i12 < a0.ZE.length) (i0 : Nat) : loopM (M.YY a0 (i12 : Int)) (i0 : Int) = some (runN (S.YY a0 i12) (.inl ()) i0 (i12 - i0)) := by
  have hM := Zu
  have hni12 : a0.ZE.length ≤ maxLen := (Xi.ZE ha0)
  have hni15 : i12 ≤ maxLen := (by omega)
  refine Xw (n := i12) (fun i15 hi15 => ?_) (fun m hm => ?_) i0
  · unfold M.YY S.YY
    try simp only [Int.toNat_natCast]
    refine Yr (dt (by omega)) ?_
    refine QJ (ZD (dt (by omega)) (ZD (dt (by omega)) (ZD (dt (by omega)) (ZD (dt (by omega)) Yc)))) ?_
    refine Yh (fun hb6 => ?_) (fun hb6 => ?_)
    · exact X3
    · exact VO (by omega)
  · unfold M.YY
    try simp only [Int.toNat_natCast]
    exact Ys (decide_eq_false (by omega)) rfl
noncomputable def S.YZ (a0 : Xy) (i12 : Nat) : Option (Unit ⊕ Int) :=
  letS (S.Y8 ((a0.ZE.getD i12 default).Zo)) (fun r14 => bif !r14 then (some (.inr 1)) else (letS (runN (S.YY a0 i12) (.inl ()) 0 i12) (fun y17 => Sum.elim (fun _ => none) (fun y19 => some (.inr y19)) y17)))
theorem K6 (a0 : Xy) (ha0 : Xi a0) (i0 : Nat) : loopM (M.YZ a0) (i0 : Int) = some (runN (S.YZ a0) (.inl ()) i0 (a0.ZE.length - i0)) := by
  have hM := Zu
  have hni12 : a0.ZE.length ≤ maxLen := (Xi.ZE ha0)
  refine Xw (n := a0.ZE.length) (fun i12 hi12 => ?_) (fun m hm => ?_) i0
  · unfold M.YZ S.YZ
    try simp only [Int.toNat_natCast]
    refine Yr (dt (by omega)) ?_
    refine XF (Ua ((a0.ZE.getD i12 default).Zo)) (fun r14 her14 => ?_)
    refine QJ (ZD (dt (by omega)) (ZD (dt (by omega)) Yc)) ?_
    refine Yh (fun hb5 => ?_) (fun hb5 => ?_)
    · exact X3
    · refine XF (K5 a0 i12 ha0 hi12 0) (fun y17 hey17 => ?_)
      refine VR (fun _ hl => ?_) (fun y19 hly19 => ?_)
      · exact VO (by omega)
      · exact X3
  · unfold M.YZ
    try simp only [Int.toNat_natCast]
    exact Ys (decide_eq_false (by omega)) rfl
noncomputable def S.Y0 (a0 : Xy) (i23 : Nat) (i27 : Nat) : Option (Unit ⊕ Int) :=
  bif (((((a0.Zt.getD i27 default).Zo).Zy) == (((a0.Zt.getD i23 default).Zo).Zy)) && (((((a0.Zt.getD i27 default).Zo).ZW) == (((a0.Zt.getD i23 default).Zo).ZW)) && true)) then (some (.inr 4)) else none
theorem K7 (a0 : Xy) (i23 : Nat) (ha0 : Xi a0) (hi23 : i23 < a0.Zt.length) (i0 : Nat) : loopM (M.Y0 a0 (i23 : Int)) (i0 : Int) = some (runN (S.Y0 a0 i23) (.inl ()) i0 (i23 - i0)) := by
  have hM := Zu
  have hni23 : a0.Zt.length ≤ maxLen := (Xi.Zt ha0)
  have hni27 : i23 ≤ maxLen := (by omega)
  refine Xw (n := i23) (fun i27 hi27 => ?_) (fun m hm => ?_) i0
  · unfold M.Y0 S.Y0
    try simp only [Int.toNat_natCast]
    refine Yr (dt (by omega)) ?_
    refine QJ (ZD (dt (by omega)) (ZD (dt (by omega)) Yc)) ?_
    refine Yh (fun hb10 => ?_) (fun hb10 => ?_)
    · exact X3
    · exact VO (by omega)
  · unfold M.Y0
    try simp only [Int.toNat_natCast]
    exact Ys (decide_eq_false (by omega)) rfl
noncomputable def S.Y1 (a0 : Xy) (i23 : Nat) : Option (Unit ⊕ Int) :=
  letS (S.Y8 ((a0.Zt.getD i23 default).Zo)) (fun r25 => letS (bif (!(!r25)) then S.Y8 ((a0.Zt.getD i23 default).fIf) else default) (fun r26 => bif (!r25) || (!r26) then (some (.inr 1)) else (bif (((((a0.Zt.getD i23 default).Zo).Zy) == (((a0.Zt.getD i23 default).fIf).Zy)) && (((((a0.Zt.getD i23 default).Zo).ZW) == (((a0.Zt.getD i23 default).fIf).ZW)) && true)) then (some (.inr 6)) else (letS (runN (S.Y0 a0 i23) (.inl ()) 0 i23) (fun y29 => Sum.elim (fun _ => none) (fun y31 => some (.inr y31)) y29)))))
theorem K8 (a0 : Xy) (ha0 : Xi a0) (i0 : Nat) : loopM (M.Y1 a0) (i0 : Int) = some (runN (S.Y1 a0) (.inl ()) i0 (a0.Zt.length - i0)) := by
  have hM := Zu
  have hni23 : a0.Zt.length ≤ maxLen := (Xi.Zt ha0)
  refine Xw (n := a0.Zt.length) (fun i23 hi23 => ?_) (fun m hm => ?_) i0
  · unfold M.Y1 S.Y1
    try simp only [Int.toNat_natCast]
    refine Yr (dt (by omega)) ?_
    refine QJ (ZD (dt (by omega)) (ZD (dt (by omega)) Yc)) ?_
    refine XF (Ua ((a0.Zt.getD i23 default).Zo)) (fun r25 her25 => ?_)
    refine XF (WD fun hg => (Ua ((a0.Zt.getD i23 default).fIf))) (fun r26 her26 => ?_)
    refine Yh (fun hb8 => ?_) (fun hb8 => ?_)
    · exact X3
    · refine Yh (fun hb9 => ?_) (fun hb9 => ?_)
      · exact X3
      · refine XF (K7 a0 i23 ha0 hi23 0) (fun y29 hey29 => ?_)
        refine VR (fun _ hl => ?_) (fun y31 hly31 => ?_)
        · exact VO (by omega)
        · exact X3
  · unfold M.Y1
    try simp only [Int.toNat_natCast]
    exact Ys (decide_eq_false (by omega)) rfl
noncomputable def S.QS (a0 : Xy) : Int :=
  bif decide ((a0.Z1.length : Int) > 8) then 7 else (letS (runN (S.YX a0) (.inl ()) 0 a0.Z1.length) (fun y9 => Sum.elim (fun _ => bif decide ((a0.ZE.length : Int) > 8) then 7 else (letS (runN (S.YZ a0) (.inl ()) 0 a0.ZE.length) (fun y20 => Sum.elim (fun _ => bif decide ((a0.Zt.length : Int) > 8) then 7 else (letS (runN (S.Y1 a0) (.inl ()) 0 a0.Zt.length) (fun y32 => Sum.elim (fun _ => 0) (fun y34 => y34) y32))) (fun y22 => y22) y20))) (fun y11 => y11) y9))
theorem ZaQ (a0 : Xy) (ha0 : Xi a0) : M.QS a0 = some (S.QS a0) := by
  have hM := Zu
  unfold M.QS S.QS
  refine Uj (fun hb1 => ?_) (fun hb1 => ?_)
  · rfl
  · refine XU (K4 a0 ha0 0) (fun y9 hey9 => ?_)
    refine JM (fun _ hl => ?_) (fun y11 hly11 => ?_)
    · refine Uj (fun hb4 => ?_) (fun hb4 => ?_)
      · rfl
      · refine XU (K6 a0 ha0 0) (fun y20 hey20 => ?_)
        refine JM (fun _ hl => ?_) (fun y22 hly22 => ?_)
        · refine Uj (fun hb7 => ?_) (fun hb7 => ?_)
          · rfl
          · refine XU (K8 a0 ha0 0) (fun y32 hey32 => ?_)
            refine JM (fun _ hl => ?_) (fun y34 hly34 => ?_)
            · rfl
            · rfl
        · rfl
    · rfl
noncomputable def S.QE (a0 : Zf) : Int :=
  bif !a0.Xs.Vz then (bif ((a0.Xs.XX != 0) || (a0.Xs.XY != 0)) || (decide ((wr .i64 ((wr .i64 ((wr .i64 ((wr .i64 ((a0.Xs.Zm.length : Int) + (a0.Xs.Z1.length : Int))) + (a0.Xs.ZE.length : Int))) + (a0.Xs.Zt.length : Int))) + (a0.Xs.Zs.length : Int))) > 0)) then 1 else 0) else (letS (bif (!(a0.GA == 0)) then S.ZX a0.Xs.XX 1 255 else default) (fun r1 => letS (bif (!((a0.GA == 0) || (!r1))) then S.ZX a0.Xs.XY 1 255 else default) (fun r2 => bif ((a0.GA == 0) || (!r1)) || (!r2) then 1 else (letS (S.J9 a0) (fun r3 => bif r3 != 0 then r3 else (letS (S.QS a0.Xs) (fun r4 => bif r4 != 0 then r4 else (letS (S.X4 a0 a0.Xs.Zs 5 0 16777215) (fun r5 => r5)))))))))
theorem Zcw (a0 : Zf) (ha0 : Zn a0) : M.QE a0 = some (S.QE a0) := by
  have hM := Zu
  unfold M.QE S.QE
  refine Uj (fun hb1 => ?_) (fun hb1 => ?_)
  · refine Uj (fun hb2 => ?_) (fun hb2 => ?_)
    · rfl
    · rfl
  · refine XU (WD fun hg => (XW a0.Xs.XX 1 255)) (fun r1 her1 => ?_)
    refine XU (WD fun hg => (XW a0.Xs.XY 1 255)) (fun r2 her2 => ?_)
    refine Uj (fun hb3 => ?_) (fun hb3 => ?_)
    · rfl
    · refine XU (Zc6 a0 ha0) (fun r3 her3 => ?_)
      refine Uj (fun hb4 => ?_) (fun hb4 => ?_)
      · rfl
      · refine XU (ZaQ a0.Xs (Zn.Xs ha0)) (fun r4 her4 => ?_)
        refine Uj (fun hb5 => ?_) (fun hb5 => ?_)
        · rfl
        · refine XU (Ub a0 a0.Xs.Zs 5 0 16777215 ha0 (Xi.Zs (Zn.Xs ha0))) (fun r5 her5 => ?_)
          rfl
noncomputable def S.Ye (r3 : Int) (r4 : Int) (r5 : Int) (r6 : Int) (r7 : Int) (r8 : Int) (r9 : Int) (r10 : Int) (r11 : Int) (r12 : Int) (i13 : Nat) : Option (Unit ⊕ Int) :=
  bif (([r3, r4, r5, r6, r7, r8, r9, r10, r11, r12] : List Int).getD i13 default) != 0 then (some (.inr (([r3, r4, r5, r6, r7, r8, r9, r10, r11, r12] : List Int).getD i13 default))) else none
theorem Rq (r3 : Int) (r4 : Int) (r5 : Int) (r6 : Int) (r7 : Int) (r8 : Int) (r9 : Int) (r10 : Int) (r11 : Int) (r12 : Int)  (i0 : Nat) : loopM (M.Ye r3 r4 r5 r6 r7 r8 r9 r10 r11 r12) (i0 : Int) = some (runN (S.Ye r3 r4 r5 r6 r7 r8 r9 r10 r11 r12) (.inl ()) i0 (([r3, r4, r5, r6, r7, r8, r9, r10, r11, r12] : List Int).length - i0)) := by
  have hM := Zu
  have hni13 : ([r3, r4, r5, r6, r7, r8, r9, r10, r11, r12] : List Int).length ≤ maxLen := (by simp [Zu])
  refine Xw (n := ([r3, r4, r5, r6, r7, r8, r9, r10, r11, r12] : List Int).length) (fun i13 hi13 => ?_) (fun m hm => ?_) i0
  · unfold M.Ye S.Ye
    try simp only [Int.toNat_natCast]
    refine Yr (dt (by omega)) ?_
    refine QJ (ZD (dt (by omega)) (ZD (dt (by first | omega | (simp; omega) | (simp at *; omega))) Yc)) ?_
    refine Yh (fun hb3 => ?_) (fun hb3 => ?_)
    · refine QJ (ZD (dt (by omega)) (ZD (dt (by first | omega | (simp; omega) | (simp at *; omega))) Yc)) ?_
      exact X3
    · exact VO (by omega)
  · unfold M.Ye
    try simp only [Int.toNat_natCast]
    exact Ys (decide_eq_false (by omega)) rfl
noncomputable def S.Ym (a0 : Zf) : Int :=
  letS (S.QW a0.Xj) (fun r1 => bif !r1 then 3 else (letS (S.ZX a0.GA 0 65535) (fun r2 => bif !r2 then 1 else (letS (S.Yd a0.Zc) (fun r3 => letS (S.Qj a0.Yv) (fun r4 => letS (S.QZ a0) (fun r5 => letS (S.Qk a0.YD) (fun r6 => letS (S.YV a0) (fun r7 => letS (S.J7 a0) (fun r8 => letS (S.J8 a0) (fun r9 => letS (S.Q1 a0) (fun r10 => letS (S.Js a0) (fun r11 => letS (S.QE a0) (fun r12 => letS (runN (S.Ye r3 r4 r5 r6 r7 r8 r9 r10 r11 r12) (.inl ()) 0 (([r3, r4, r5, r6, r7, r8, r9, r10, r11, r12] : List Int).length)) (fun y15 => Sum.elim (fun _ => 0) (fun y17 => y17) y15)))))))))))))))
theorem Zbx (a0 : Zf) (ha0 : Zn a0) : M.Ym a0 = some (S.Ym a0) := by
  have hM := Zu
  unfold M.Ym S.Ym
  refine XU (Gn a0.Xj (Zn.Xj ha0)) (fun r1 her1 => ?_)
  refine Uj (fun hb1 => ?_) (fun hb1 => ?_)
  · rfl
  · refine XU (XW a0.GA 0 65535) (fun r2 her2 => ?_)
    refine Uj (fun hb2 => ?_) (fun hb2 => ?_)
    · rfl
    · refine XU (Zcq a0.Zc (Zn.Zc ha0)) (fun r3 her3 => ?_)
      refine XU (Zbs a0.Yv (Zn.Yv ha0)) (fun r4 her4 => ?_)
      refine XU (Zc2 a0 ha0) (fun r5 her5 => ?_)
      refine XU (Zbt a0.YD (Zn.YD ha0)) (fun r6 her6 => ?_)
      refine XU (ZaK a0 ha0) (fun r7 her7 => ?_)
      refine XU (ZeK a0 ha0) (fun r8 her8 => ?_)
      refine XU (ZeL a0 ha0) (fun r9 her9 => ?_)
      refine XU (Zc5 a0 ha0) (fun r10 her10 => ?_)
      refine XU (ZdB a0 ha0) (fun r11 her11 => ?_)
      refine XU (Zcw a0 ha0) (fun r12 her12 => ?_)
      refine XU (Rq r3 r4 r5 r6 r7 r8 r9 r10 r11 r12 0) (fun y15 hey15 => ?_)
      refine JM (fun _ hl => ?_) (fun y17 hly17 => ?_)
      · rfl
      · rfl
noncomputable def S.Jt (a0 : ZB) (i1 : Nat) (i4 : Nat) : Option (Unit ⊕ Int) :=
  bif strEq ((a0.Zd.getD i4 default).Xj) ((a0.Zd.getD i1 default).Xj) then (some (.inr 4)) else none
theorem ZdC (a0 : ZB) (i1 : Nat) (ha0 : Yx a0) (hi1 : i1 < a0.Zd.length) (i0 : Nat) : loopM (M.Jt a0 (i1 : Int)) (i0 : Int) = some (runN (S.Jt a0 i1) (.inl ()) i0 (i1 - i0)) := by
  have hM := Zu
  have hni1 : a0.Zd.length ≤ maxLen := (Yx.Zd ha0).1
  have hni4 : i1 ≤ maxLen := (by omega)
  refine Xw (n := i1) (fun i4 hi4 => ?_) (fun m hm => ?_) i0
  · unfold M.Jt S.Jt
    try simp only [Int.toNat_natCast]
    refine Yr (dt (by omega)) ?_
    refine QJ (ZD (dt (by omega)) (ZD (dt (by omega)) (ZD (dt (by omega)) (ZD (dt (by omega)) Yc)))) ?_
    refine Yh (fun hb3 => ?_) (fun hb3 => ?_)
    · exact X3
    · exact VO (by omega)
  · unfold M.Jt
    try simp only [Int.toNat_natCast]
    exact Ys (decide_eq_false (by omega)) rfl
noncomputable def S.Q9 (a0 : ZB) (i1 : Nat) (i9 : Nat) (i11 : Nat) : Option (Unit ⊕ Int) :=
  letS (bif (((((a0.Zd.getD i1 default).Zc).getD i9 default).ZW) != 0) then S.JB (a0.Zd.getD i11 default) ((((a0.Zd.getD i1 default).Zc).getD i9 default).Zy) else default) (fun r13 => bif (((((a0.Zd.getD i1 default).Zc).getD i9 default).ZW) != 0) && (decide (r13 ≥ 0)) then (some (.inr 4)) else none)
theorem ZdD (a0 : ZB) (i1 : Nat) (i9 : Nat) (ha0 : Yx a0) (hi1 : i1 < a0.Zd.length) (hi9 : i9 < ((a0.Zd.getD i1 default).Zc).length) (i0 : Nat) : loopM (M.Q9 a0 (i1 : Int) (i9 : Int)) (i0 : Int) = some (runN (S.Q9 a0 i1 i9) (.inl ()) i0 (i1 - i0)) := by
  have hM := Zu
  have hni1 : a0.Zd.length ≤ maxLen := (Yx.Zd ha0).1
  have hni9 : ((a0.Zd.getD i1 default).Zc).length ≤ maxLen := (Zn.Zc (LL.getD (Yx.Zd ha0) Zn.dflt i1)).1
  have hni11 : i1 ≤ maxLen := (by omega)
  refine Xw (n := i1) (fun i11 hi11 => ?_) (fun m hm => ?_) i0
  · unfold M.Q9 S.Q9
    try simp only [Int.toNat_natCast]
    refine Yr (dt (by omega)) ?_
    refine XF (WD fun hg => (Zag (a0.Zd.getD i11 default) ((((a0.Zd.getD i1 default).Zc).getD i9 default).Zy) (LL.getD (Yx.Zd ha0) Zn.dflt i11))) (fun r13 her13 => ?_)
    refine QJ (ZD (YN fun hg => (dt (by first | omega | (simp; omega) | (simp at *; omega)))) (ZD (YN fun hg => (dt (by first | omega | (simp; omega) | (simp at *; omega)))) Yc)) ?_
    refine Yh (fun hb4 => ?_) (fun hb4 => ?_)
    · exact X3
    · exact VO (by omega)
  · unfold M.Q9
    try simp only [Int.toNat_natCast]
    exact Ys (decide_eq_false (by omega)) rfl
noncomputable def S.Ja (a0 : ZB) (i1 : Nat) (i9 : Nat) : Option (Unit ⊕ Int) :=
  letS (runN (S.Q9 a0 i1 i9) (.inl ()) 0 i1) (fun y14 => Sum.elim (fun _ => none) (fun y16 => some (.inr y16)) y14)
theorem ZdE (a0 : ZB) (i1 : Nat) (ha0 : Yx a0) (hi1 : i1 < a0.Zd.length) (i0 : Nat) : loopM (M.Ja a0 (i1 : Int)) (i0 : Int) = some (runN (S.Ja a0 i1) (.inl ()) i0 (((a0.Zd.getD i1 default).Zc).length - i0)) := by
  have hM := Zu
  have hni1 : a0.Zd.length ≤ maxLen := (Yx.Zd ha0).1
  have hni9 : ((a0.Zd.getD i1 default).Zc).length ≤ maxLen := (Zn.Zc (LL.getD (Yx.Zd ha0) Zn.dflt i1)).1
  refine Xw (n := ((a0.Zd.getD i1 default).Zc).length) (fun i9 hi9 => ?_) (fun m hm => ?_) i0
  · unfold M.Ja S.Ja
    try simp only [Int.toNat_natCast]
    refine QJ (ZD (dt (by omega)) (ZD (dt (by omega)) Yc))  ?_
    refine Yr (dt (by omega)) ?_
    refine QJ (ZD (dt (by omega)) (ZD (dt (by omega)) (ZD (dt (by omega)) (ZD (dt (by omega)) Yc)))) ?_
    refine XF (ZdD a0 i1 i9 ha0 hi1 hi9 0) (fun y14 hey14 => ?_)
    refine VR (fun _ hl => ?_) (fun y16 hly16 => ?_)
    · exact VO (by omega)
    · exact X3
  · unfold M.Ja
    try simp only [Int.toNat_natCast]
    refine QJ (ZD (dt (by omega)) (ZD (dt (by omega)) Yc))  ?_
    exact Ys (decide_eq_false (by omega)) rfl
noncomputable def S.Jb (a0 : ZB) (i1 : Nat) : Option (Unit ⊕ Int) :=
  letS (S.Ym (a0.Zd.getD i1 default)) (fun r3 => bif r3 != 0 then (some (.inr r3)) else (letS (runN (S.Jt a0 i1) (.inl ()) 0 i1) (fun y6 => Sum.elim (fun _ => letS (runN (S.Ja a0 i1) (.inl ()) 0 (((a0.Zd.getD i1 default).Zc).length)) (fun y17 => Sum.elim (fun _ => none) (fun y19 => some (.inr y19)) y17)) (fun y8 => some (.inr y8)) y6)))
theorem ZdF (a0 : ZB) (ha0 : Yx a0) (i0 : Nat) : loopM (M.Jb a0) (i0 : Int) = some (runN (S.Jb a0) (.inl ()) i0 (a0.Zd.length - i0)) := by
  have hM := Zu
  have hni1 : a0.Zd.length ≤ maxLen := (Yx.Zd ha0).1
  refine Xw (n := a0.Zd.length) (fun i1 hi1 => ?_) (fun m hm => ?_) i0
  · unfold M.Jb S.Jb
    try simp only [Int.toNat_natCast]
    refine Yr (dt (by omega)) ?_
    refine XF (Zbx (a0.Zd.getD i1 default) (LL.getD (Yx.Zd ha0) Zn.dflt i1)) (fun r3 her3 => ?_)
    refine QJ (ZD (dt (by omega)) (ZD (dt (by omega)) Yc)) ?_
    refine Yh (fun hb2 => ?_) (fun hb2 => ?_)
    · exact X3
    · refine XF (ZdC a0 i1 ha0 hi1 0) (fun y6 hey6 => ?_)
      refine VR (fun _ hl => ?_) (fun y8 hly8 => ?_)
      · refine XF (ZdE a0 i1 ha0 hi1 0) (fun y17 hey17 => ?_)
        refine VR (fun _ hl => ?_) (fun y19 hly19 => ?_)
        · exact VO (by omega)
        · exact X3
      · exact X3
  · unfold M.Jb
    try simp only [Int.toNat_natCast]
    exact Ys (decide_eq_false (by omega)) rfl
noncomputable def S.Q2 (a0 : ZB) : Int :=
  bif decide ((a0.Zd.length : Int) > 8) then 7 else (letS (runN (S.Jb a0) (.inl ()) 0 a0.Zd.length) (fun y20 => Sum.elim (fun _ => 0) (fun y22 => y22) y20))
theorem Zf6 (a0 : ZB) (ha0 : Yx a0) : M.Q2 a0 = some (S.Q2 a0) := by
  have hM := Zu
  unfold M.Q2 S.Q2
  refine Uj (fun hb1 => ?_) (fun hb1 => ?_)
  · rfl
  · refine XU (ZdF a0 ha0 0) (fun y20 hey20 => ?_)
    refine JM (fun _ hl => ?_) (fun y22 hly22 => ?_)
    · rfl
    · rfl
noncomputable def S.Vt (a0 : ZZ) (a1 : ZZ) : Int :=
  bif (decide (a0.Zy < a1.Zy)) || ((a0.Zy == a1.Zy) && (decide (a0.ZW < a1.ZW))) then (-1) else (bif ((a0.Zy == a1.Zy) && ((a0.ZW == a1.ZW) && true)) then 0 else 1)
theorem ZeM (a0 : ZZ) (a1 : ZZ)  : M.Vt a0 a1 = some (S.Vt a0 a1) := by
  have hM := Zu
  unfold M.Vt S.Vt
  refine Uj (fun hb1 => ?_) (fun hb1 => ?_)
  · rfl
  · refine Uj (fun hb2 => ?_) (fun hb2 => ?_)
    · rfl
    · rfl
noncomputable def S.X6 (a0 : List Int) (a1 : Int) (i1 : Nat) : Option (Unit ⊕ Bool) :=
  bif ((decide ((a0.getD i1 default) < 0)) || (decide ((a0.getD i1 default) ≥ a1))) || ((decide ((i1 : Int) > 0)) && (decide ((a0.getD i1 default) ≤ (a0.getD (wr .i64 ((i1 : Int) - 1)).toNat default)))) then (some (.inr false)) else none
theorem Zah (a0 : List Int) (a1 : Int) (ha0 : a0.length ≤ maxLen) (i0 : Nat) : loopM (M.X6 a0 a1) (i0 : Int) = some (runN (S.X6 a0 a1) (.inl ()) i0 (a0.length - i0)) := by
  have hM := Zu
  have hni1 : a0.length ≤ maxLen := ha0
  refine Xw (n := a0.length) (fun i1 hi1 => ?_) (fun m hm => ?_) i0
  · unfold M.X6 S.X6
    try simp only [Int.toNat_natCast]
    have hdi1 : wr .i64 ((i1 : Int) - 1) = (i1 : Int) - 1 := Zlo (by omega)
    refine Yr (dt (by omega)) ?_
    refine QJ (ZD (dt (by omega)) (ZD (dt (by omega)) (ZD (YN fun hg => (dt (by first | omega | (simp; omega) | (simp at *; omega)))) (ZD (YN fun hg => (dt (by first | omega | (simp; omega) | (simp at *; omega)))) (ZD (YN fun hg => (dt (by first | omega | (simp; omega) | (simp at *; omega)))) (ZD (YN fun hg => (dt (by first | omega | (simp; omega) | (simp at *; omega)))) (ZD (YN fun hg => (dt (by first | omega | (simp; omega) | (simp at *; omega)))) (ZD (YN fun hg => (dt (by first | omega | (simp; omega) | (simp at *; omega)))) Yc)))))))) ?_
    refine Yh (fun hb2 => ?_) (fun hb2 => ?_)
    · exact X3
    · exact VO (by omega)
  · unfold M.X6
    try simp only [Int.toNat_natCast]
    exact Ys (decide_eq_false (by omega)) rfl
noncomputable def S.QF (a0 : List Int) (a1 : Int) : Bool :=
  bif decide ((a0.length : Int) > 2) then false else (letS (runN (S.X6 a0 a1) (.inl ()) 0 a0.length) (fun y3 => Sum.elim (fun _ => true) (fun y5 => y5) y3))
theorem Zcx (a0 : List Int) (a1 : Int) (ha0 : a0.length ≤ maxLen) : M.QF a0 a1 = some (S.QF a0 a1) := by
  have hM := Zu
  unfold M.QF S.QF
  refine Uj (fun hb1 => ?_) (fun hb1 => ?_)
  · rfl
  · refine XU (Zah a0 a1 ha0 0) (fun y3 hey3 => ?_)
    refine JM (fun _ hl => ?_) (fun y5 hly5 => ?_)
    · rfl
    · rfl
noncomputable def S.XG (a0 : List Int) (a1 : Int) (i1 : Nat) : Option (Unit ⊕ Int) :=
  bif a1 == (a0.getD i1 default) then (some (.inr (i1 : Int))) else none
theorem G2 (a0 : List Int) (a1 : Int) (ha0 : a0.length ≤ maxLen) (i0 : Nat) : loopM (M.XG a0 a1) (i0 : Int) = some (runN (S.XG a0 a1) (.inl ()) i0 (a0.length - i0)) := by
  have hM := Zu
  have hni1 : a0.length ≤ maxLen := ha0
  refine Xw (n := a0.length) (fun i1 hi1 => ?_) (fun m hm => ?_) i0
  · unfold M.XG S.XG
    try simp only [Int.toNat_natCast]
    refine Yr (dt (by omega)) ?_
    refine QJ (ZD (dt (by omega)) (ZD (dt (by omega)) Yc)) ?_
    refine Yh (fun hb1 => ?_) (fun hb1 => ?_)
    · exact X3
    · exact VO (by omega)
  · unfold M.XG
    try simp only [Int.toNat_natCast]
    exact Ys (decide_eq_false (by omega)) rfl
noncomputable def S.XL (a0 : List Int) (a1 : Int) : Int :=
  letS (runN (S.XG a0 a1) (.inl ()) 0 a0.length) (fun y3 => Sum.elim (fun _ => -1) (fun y5 => y5) y3)
theorem K9 (a0 : List Int) (a1 : Int) (ha0 : a0.length ≤ maxLen) : M.XL a0 a1 = some (S.XL a0 a1) := by
  have hM := Zu
  unfold M.XL S.XL
  refine XU (G2 a0 a1 ha0 0) (fun y3 hey3 => ?_)
  refine JM (fun _ hl => ?_) (fun y5 hly5 => ?_)
  · rfl
  · rfl
noncomputable def S.Xx (a0 : List Int) (a1 : Int) : Bool :=
  letS (S.XL a0 a1) (fun r1 => decide (r1 ≥ 0))
theorem G3 (a0 : List Int) (a1 : Int) (ha0 : a0.length ≤ maxLen) : M.Xx a0 a1 = some (S.Xx a0 a1) := by
  have hM := Zu
  unfold M.Xx S.Xx
  refine XU (K9 a0 a1 ha0) (fun r1 her1 => ?_)
  rfl
noncomputable def S.Jc (a0 : Xq) (a1 : Int) (a2 : Int) (i1 : Nat) (i3 : Nat) : Option (Unit ⊕ Int) :=
  bif ((((((a0.ZV.Zv.getD i1 default).ZU).getD i3 default).Xp) == a1) && ((((((a0.ZV.Zv.getD i1 default).ZU).getD i3 default).J2) == a2) && true)) then (some (.inr (i1 : Int))) else none
theorem Zcy (a0 : Xq) (a1 : Int) (a2 : Int) (i1 : Nat) (ha0 : Ww a0) (hi1 : i1 < a0.ZV.Zv.length) (i0 : Nat) : loopM (M.Jc a0 a1 a2 (i1 : Int)) (i0 : Int) = some (runN (S.Jc a0 a1 a2 i1) (.inl ()) i0 (((a0.ZV.Zv.getD i1 default).ZU).length - i0)) := by
  have hM := Zu
  have hni1 : a0.ZV.Zv.length ≤ maxLen := (VZ.Zv (Ww.ZV ha0)).1
  have hni3 : ((a0.ZV.Zv.getD i1 default).ZU).length ≤ maxLen := (UR.ZU (LL.getD (VZ.Zv (Ww.ZV ha0)) UR.dflt i1))
  refine Xw (n := ((a0.ZV.Zv.getD i1 default).ZU).length) (fun i3 hi3 => ?_) (fun m hm => ?_) i0
  · unfold M.Jc S.Jc
    try simp only [Int.toNat_natCast]
    refine QJ (ZD (dt (by omega)) (ZD (dt (by omega)) Yc))  ?_
    refine Yr (dt (by omega)) ?_
    refine QJ (ZD (dt (by omega)) (ZD (dt (by omega)) (ZD (dt (by omega)) (ZD (dt (by omega)) Yc)))) ?_
    refine Yh (fun hb1 => ?_) (fun hb1 => ?_)
    · exact X3
    · exact VO (by omega)
  · unfold M.Jc
    try simp only [Int.toNat_natCast]
    refine QJ (ZD (dt (by omega)) (ZD (dt (by omega)) Yc))  ?_
    exact Ys (decide_eq_false (by omega)) rfl
noncomputable def S.Jd (a0 : Xq) (a1 : Int) (a2 : Int) (i1 : Nat) : Option (Unit ⊕ Int) :=
  letS (runN (S.Jc a0 a1 a2 i1) (.inl ()) 0 (((a0.ZV.Zv.getD i1 default).ZU).length)) (fun y5 => Sum.elim (fun _ => none) (fun y7 => some (.inr y7)) y5)
theorem Zcz (a0 : Xq) (a1 : Int) (a2 : Int) (ha0 : Ww a0) (i0 : Nat) : loopM (M.Jd a0 a1 a2) (i0 : Int) = some (runN (S.Jd a0 a1 a2) (.inl ()) i0 (a0.ZV.Zv.length - i0)) := by
  have hM := Zu
  have hni1 : a0.ZV.Zv.length ≤ maxLen := (VZ.Zv (Ww.ZV ha0)).1
  refine Xw (n := a0.ZV.Zv.length) (fun i1 hi1 => ?_) (fun m hm => ?_) i0
  · unfold M.Jd S.Jd
    try simp only [Int.toNat_natCast]
    refine Yr (dt (by omega)) ?_
    refine XF (Zcy a0 a1 a2 i1 ha0 hi1 0) (fun y5 hey5 => ?_)
    refine VR (fun _ hl => ?_) (fun y7 hly7 => ?_)
    · exact VO (by omega)
    · exact X3
  · unfold M.Jd
    try simp only [Int.toNat_natCast]
    exact Ys (decide_eq_false (by omega)) rfl
noncomputable def S.QT (a0 : Xq) (a1 : Int) (a2 : Int) : Int :=
  letS (runN (S.Jd a0 a1 a2) (.inl ()) 0 a0.ZV.Zv.length) (fun y8 => Sum.elim (fun _ => -1) (fun y10 => y10) y8)
theorem GU (a0 : Xq) (a1 : Int) (a2 : Int) (ha0 : Ww a0) : M.QT a0 a1 a2 = some (S.QT a0 a1 a2) := by
  have hM := Zu
  unfold M.QT S.QT
  refine XU (Zcz a0 a1 a2 ha0 0) (fun y8 hey8 => ?_)
  refine JM (fun _ hl => ?_) (fun y10 hly10 => ?_)
  · rfl
  · rfl
noncomputable def S.Ju (a0 : Xq) (r1 : Int) (i2 : Nat) : Option (Unit ⊕ Int) :=
  bif (decide (r1 ≥ 0)) && ((a0.ZV.XB.getD i2 default) == r1) then (some (.inr (i2 : Int))) else none
theorem ZdG (a0 : Xq) (r1 : Int) (ha0 : Ww a0) (i0 : Nat) : loopM (M.Ju a0 r1) (i0 : Int) = some (runN (S.Ju a0 r1) (.inl ()) i0 (a0.ZV.XB.length - i0)) := by
  have hM := Zu
  have hni2 : a0.ZV.XB.length ≤ maxLen := (VZ.XB (Ww.ZV ha0))
  refine Xw (n := a0.ZV.XB.length) (fun i2 hi2 => ?_) (fun m hm => ?_) i0
  · unfold M.Ju S.Ju
    try simp only [Int.toNat_natCast]
    refine Yr (dt (by omega)) ?_
    refine QJ (ZD (YN fun hg => (dt (by first | omega | (simp; omega) | (simp at *; omega)))) (ZD (YN fun hg => (dt (by first | omega | (simp; omega) | (simp at *; omega)))) Yc)) ?_
    refine Yh (fun hb1 => ?_) (fun hb1 => ?_)
    · exact X3
    · exact VO (by omega)
  · unfold M.Ju
    try simp only [Int.toNat_natCast]
    exact Ys (decide_eq_false (by omega)) rfl
noncomputable def S.Wf (a0 : Xq) (a1 : Int) (a2 : Int) : Int :=
  letS (S.QT a0 a1 a2) (fun r1 => letS (runN (S.Ju a0 r1) (.inl ()) 0 a0.ZV.XB.length) (fun y4 => Sum.elim (fun _ => -1) (fun y6 => y6) y4))
theorem Zf7 (a0 : Xq) (a1 : Int) (a2 : Int) (ha0 : Ww a0) : M.Wf a0 a1 a2 = some (S.Wf a0 a1 a2) := by
  have hM := Zu
  unfold M.Wf S.Wf
  refine XU (GU a0 a1 a2 ha0) (fun r1 her1 => ?_)
  refine XU (ZdG a0 r1 ha0 0) (fun y4 hey4 => ?_)
  refine JM (fun _ hl => ?_) (fun y6 hly6 => ?_)
  · rfl
  · rfl
noncomputable def S.VX (a0 : Xq) (r2 : Int) (i3 : Nat) : Option (Unit ⊕ Bool) :=
  bif (a0.Qy.getD i3 default) == r2 then (some (.inr false)) else none
theorem Ze7 (a0 : Xq) (r2 : Int) (ha0 : Ww a0) (i0 : Nat) : loopM (M.VX a0 r2) (i0 : Int) = some (runN (S.VX a0 r2) (.inl ()) i0 (a0.Qy.length - i0)) := by
  have hM := Zu
  have hni3 : a0.Qy.length ≤ maxLen := (Ww.Qy ha0)
  refine Xw (n := a0.Qy.length) (fun i3 hi3 => ?_) (fun m hm => ?_) i0
  · unfold M.VX S.VX
    try simp only [Int.toNat_natCast]
    refine Yr (dt (by omega)) ?_
    refine QJ (ZD (dt (by omega)) (ZD (dt (by omega)) Yc)) ?_
    refine Yh (fun hb2 => ?_) (fun hb2 => ?_)
    · exact X3
    · exact VO (by omega)
  · unfold M.VX
    try simp only [Int.toNat_natCast]
    exact Ys (decide_eq_false (by omega)) rfl
noncomputable def S.UI (a0 : Xq) (a1 : Int) (a2 : Int) : Bool :=
  letS (S.QT a0 a1 a2) (fun r1 => bif decide (r1 < 0) then false else (letS (S.Wf a0 a1 a2) (fun r2 => letS (runN (S.VX a0 r2) (.inl ()) 0 a0.Qy.length) (fun y5 => Sum.elim (fun _ => true) (fun y7 => y7) y5))))
theorem Zhz (a0 : Xq) (a1 : Int) (a2 : Int) (ha0 : Ww a0) : M.UI a0 a1 a2 = some (S.UI a0 a1 a2) := by
  have hM := Zu
  unfold M.UI S.UI
  refine XU (GU a0 a1 a2 ha0) (fun r1 her1 => ?_)
  refine Uj (fun hb1 => ?_) (fun hb1 => ?_)
  · rfl
  · refine XU (Zf7 a0 a1 a2 ha0) (fun r2 her2 => ?_)
    refine XU (Ze7 a0 r2 ha0 0) (fun y5 hey5 => ?_)
    refine JM (fun _ hl => ?_) (fun y7 hly7 => ?_)
    · rfl
    · rfl
noncomputable def S.Vu (a0 : List Int) (a1 : List Int) (i1 : Nat) : Option (Unit ⊕ Bool) :=
  bif (a0.getD i1 default) != (a1.getD i1 default) then (some (.inr false)) else none
theorem ZeN (a0 : List Int) (a1 : List Int) (ha0 : a0.length ≤ maxLen) (ha1 : a1.length ≤ maxLen) (hlen : a0.length = a1.length) (i0 : Nat) : loopM (M.Vu a0 a1) (i0 : Int) = some (runN (S.Vu a0 a1) (.inl ()) i0 (a0.length - i0)) := by
  have hM := Zu
  have hni1 : a0.length ≤ maxLen := ha0
  refine Xw (n := a0.length) (fun i1 hi1 => ?_) (fun m hm => ?_) i0
  · unfold M.Vu S.Vu
    try simp only [Int.toNat_natCast]
    refine Yr (dt (by omega)) ?_
    refine QJ (ZD (dt (by omega)) (ZD (dt (by omega)) (ZD (dt (by omega)) (ZD (dt (by omega)) Yc)))) ?_
    refine Yh (fun hb2 => ?_) (fun hb2 => ?_)
    · exact X3
    · exact VO (by omega)
  · unfold M.Vu
    try simp only [Int.toNat_natCast]
    exact Ys (decide_eq_false (by omega)) rfl
noncomputable def S.WM (a0 : List Int) (a1 : List Int) : Bool :=
  bif (a0.length : Int) != (a1.length : Int) then false else (letS (runN (S.Vu a0 a1) (.inl ()) 0 a0.length) (fun y3 => Sum.elim (fun _ => true) (fun y5 => y5) y3))
theorem ZgX (a0 : List Int) (a1 : List Int) (ha0 : a0.length ≤ maxLen) (ha1 : a1.length ≤ maxLen) : M.WM a0 a1 = some (S.WM a0 a1) := by
  have hM := Zu
  unfold M.WM S.WM
  refine Uj (fun hb1 => ?_) (fun hb1 => ?_)
  · rfl
  · refine XU (ZeN a0 a1 ha0 ha1 (by simp at *; omega) 0) (fun y3 hey3 => ?_)
    refine JM (fun _ hl => ?_) (fun y5 hly5 => ?_)
    · rfl
    · rfl
end Nv
