/- Total forms of the mirrors. -/
import Derived.Test.YtaienbkgekjdnaaGreatNvD1
import Derived.Test.YtaienbkgekjdnaaGreatNvLibB
import Derived.Test.YtaienbkgekjdnaaGreatNvQ0
set_option maxRecDepth 100000
namespace Nv
open Go
def Xt (x : ZB) : Prop := (x.ZJ.size ≤ maxLen) ∧ (x.Vr.size ≤ maxLen) ∧ (x.YD.size ≤ maxLen)
theorem Xt.ZJ {x : ZB} (h : Xt x) : x.ZJ.size ≤ maxLen := h.1
theorem Xt.Vr {x : ZB} (h : Xt x) : x.Vr.size ≤ maxLen := h.2.1
theorem Xt.YD {x : ZB} (h : Xt x) : x.YD.size ≤ maxLen := h.2.2
theorem Xt.dflt : Xt default := ⟨(Nat.zero_le _),(Nat.zero_le _),(Nat.zero_le _)⟩
def X9 (x : ZF) : Prop := (x.ZJ.size ≤ maxLen) ∧ (x.Z0.length ≤ maxLen)
theorem X9.ZJ {x : ZF} (h : X9 x) : x.ZJ.size ≤ maxLen := h.1
theorem X9.Z0 {x : ZF} (h : X9 x) : x.Z0.length ≤ maxLen := h.2
theorem X9.dflt : X9 default := ⟨(Nat.zero_le _),(Nat.zero_le _)⟩
def W8 (x : Ul) : Prop := (x.QE.size ≤ maxLen)
theorem W8.QE {x : Ul} (h : W8 x) : x.QE.size ≤ maxLen := h
theorem W8.dflt : W8 default := (Nat.zero_le _)
def Yp (x : Xy) : Prop := (x.ZJ.size ≤ maxLen) ∧ (LL W8 x.Z4)
theorem Yp.ZJ {x : Xy} (h : Yp x) : x.ZJ.size ≤ maxLen := h.1
theorem Yp.Z4 {x : Xy} (h : Yp x) : LL W8 x.Z4 := h.2
theorem Yp.dflt : Yp default := ⟨(Nat.zero_le _),⟨Nat.zero_le _,fun _ h => absurd h List.not_mem_nil⟩⟩
def WF (x : V2) : Prop := (x.ZJ.size ≤ maxLen) ∧ (x.Z0.length ≤ maxLen)
theorem WF.ZJ {x : V2} (h : WF x) : x.ZJ.size ≤ maxLen := h.1
theorem WF.Z0 {x : V2} (h : WF x) : x.Z0.length ≤ maxLen := h.2
theorem WF.dflt : WF default := ⟨(Nat.zero_le _),(Nat.zero_le _)⟩
def JH (x : Y1) : Prop := (x.QE.size ≤ maxLen)
theorem JH.QE {x : Y1} (h : JH x) : x.QE.size ≤ maxLen := h
theorem JH.dflt : JH default := (Nat.zero_le _)
def Jk (x : Yk) : Prop := (x.Qx.size ≤ maxLen)
theorem Jk.Qx {x : Yk} (h : Jk x) : x.Qx.size ≤ maxLen := h
theorem Jk.dflt : Jk default := (Nat.zero_le _)
def J7 (x : Yi) : Prop := (x.Rs.size ≤ maxLen)
theorem J7.Rs {x : Yi} (h : J7 x) : x.Rs.size ≤ maxLen := h
theorem J7.dflt : J7 default := (Nat.zero_le _)
def Ju (x : WC) : Prop := (x.ZE.length ≤ maxLen) ∧ (LL J7 x.Zs)
theorem Ju.ZE {x : WC} (h : Ju x) : x.ZE.length ≤ maxLen := h.1
theorem Ju.Zs {x : WC} (h : Ju x) : LL J7 x.Zs := h.2
theorem Ju.dflt : Ju default := ⟨(Nat.zero_le _),⟨Nat.zero_le _,fun _ h => absurd h List.not_mem_nil⟩⟩
def Yj (x : QF) : Prop := (x.Vr.size ≤ maxLen) ∧ (x.YD.size ≤ maxLen) ∧ (LL J7 x.Zs)
theorem Yj.Vr {x : QF} (h : Yj x) : x.Vr.size ≤ maxLen := h.1
theorem Yj.YD {x : QF} (h : Yj x) : x.YD.size ≤ maxLen := h.2.1
theorem Yj.Zs {x : QF} (h : Yj x) : LL J7 x.Zs := h.2.2
theorem Yj.dflt : Yj default := ⟨(Nat.zero_le _),(Nat.zero_le _),⟨Nat.zero_le _,fun _ h => absurd h List.not_mem_nil⟩⟩
def JP (x : VH) : Prop := (x.Vr.size ≤ maxLen) ∧ (x.YD.size ≤ maxLen)
theorem JP.Vr {x : VH} (h : JP x) : x.Vr.size ≤ maxLen := h.1
theorem JP.YD {x : VH} (h : JP x) : x.YD.size ≤ maxLen := h.2
theorem JP.dflt : JP default := ⟨(Nat.zero_le _),(Nat.zero_le _)⟩
def Xb (x : Xg) : Prop := (LL JP x.Zk) ∧ (x.Zt.length ≤ maxLen) ∧ (x.Zq.length ≤ maxLen) ∧ (x.Zm.length ≤ maxLen) ∧ (LL J7 x.Zs)
theorem Xb.Zk {x : Xg} (h : Xb x) : LL JP x.Zk := h.1
theorem Xb.Zt {x : Xg} (h : Xb x) : x.Zt.length ≤ maxLen := h.2.1
theorem Xb.Zq {x : Xg} (h : Xb x) : x.Zq.length ≤ maxLen := h.2.2.1
theorem Xb.Zm {x : Xg} (h : Xb x) : x.Zm.length ≤ maxLen := h.2.2.2.1
theorem Xb.Zs {x : Xg} (h : Xb x) : LL J7 x.Zs := h.2.2.2.2
theorem Xb.dflt : Xb default := ⟨⟨Nat.zero_le _,fun _ h => absurd h List.not_mem_nil⟩,(Nat.zero_le _),(Nat.zero_le _),(Nat.zero_le _),⟨Nat.zero_le _,fun _ h => absurd h List.not_mem_nil⟩⟩
def Zj (x : Zf) : Prop := (x.ZJ.size ≤ maxLen) ∧ (LL Xt x.Zc) ∧ (LL X9 x.Z1) ∧ (LL Yp x.ZR) ∧ (LL WF x.Xh) ∧ (LL JH x.Xf) ∧ (LL Jk x.Zr) ∧ (Ju x.X0) ∧ (Yj x.Ya) ∧ (Xb x.ZW)
theorem Zj.ZJ {x : Zf} (h : Zj x) : x.ZJ.size ≤ maxLen := h.1
theorem Zj.Zc {x : Zf} (h : Zj x) : LL Xt x.Zc := h.2.1
theorem Zj.Z1 {x : Zf} (h : Zj x) : LL X9 x.Z1 := h.2.2.1
theorem Zj.ZR {x : Zf} (h : Zj x) : LL Yp x.ZR := h.2.2.2.1
theorem Zj.Xh {x : Zf} (h : Zj x) : LL WF x.Xh := h.2.2.2.2.1
theorem Zj.Xf {x : Zf} (h : Zj x) : LL JH x.Xf := h.2.2.2.2.2.1
theorem Zj.Zr {x : Zf} (h : Zj x) : LL Jk x.Zr := h.2.2.2.2.2.2.1
theorem Zj.X0 {x : Zf} (h : Zj x) : Ju x.X0 := h.2.2.2.2.2.2.2.1
theorem Zj.Ya {x : Zf} (h : Zj x) : Yj x.Ya := h.2.2.2.2.2.2.2.2.1
theorem Zj.ZW {x : Zf} (h : Zj x) : Xb x.ZW := h.2.2.2.2.2.2.2.2.2
theorem Zj.dflt : Zj default := ⟨(Nat.zero_le _),⟨Nat.zero_le _,fun _ h => absurd h List.not_mem_nil⟩,⟨Nat.zero_le _,fun _ h => absurd h List.not_mem_nil⟩,⟨Nat.zero_le _,fun _ h => absurd h List.not_mem_nil⟩,⟨Nat.zero_le _,fun _ h => absurd h List.not_mem_nil⟩,⟨Nat.zero_le _,fun _ h => absurd h List.not_mem_nil⟩,⟨Nat.zero_le _,fun _ h => absurd h List.not_mem_nil⟩,Ju.dflt,Yj.dflt,Xb.dflt⟩
def Ys (x : ZG) : Prop := (LL Zj x.Ze)
theorem Ys.Ze {x : ZG} (h : Ys x) : LL Zj x.Ze := h
noncomputable def S.WH (a0 : Zf) (i1 : Nat) : Option (Unit ⊕ Bool) :=
 bif decide ((((a0.Z1.getD i1 default).Z0).length : Int) > 20) then (some (.inr false)) else none
theorem ZfD (a0 : Zf) (ha0 : Zj a0) (i0 : Nat) : loopM (M.WH a0) (i0 : Int) = some (runN (S.WH a0) (.inl ()) i0 (a0.Z1.length - i0)) := by
 have hM := Zo
 have hni1 : a0.Z1.length ≤ maxLen := (Zj.Z1 ha0).1
 refine Xa (n := a0.Z1.length) (fun i1 hi1 => ?_) (fun m hm => ?_) i0
 ·unfold M.WH S.WH
  try simp only [Int.toNat_natCast]
  refine X1 (dt (by omega)) ?_
  refine Yx (Zw (dt (by omega)) (Zw (dt (by omega)) XR)) ?_
  refine XY (fun hb2 => ?_) (fun hb2 => ?_)
  ·exact XI
  ·exact JO (by omega)
 ·unfold M.WH
  try simp only [Int.toNat_natCast]
  exact X2 (decide_eq_false (by omega)) rfl
noncomputable def S.WI (a0 : Zf) (i6 : Nat) : Option (Unit ⊕ Bool) :=
 bif decide ((((a0.ZR.getD i6 default).Z4).length : Int) > 12) then (some (.inr false)) else none
theorem ZfE (a0 : Zf) (ha0 : Zj a0) (i0 : Nat) : loopM (M.WI a0) (i0 : Int) = some (runN (S.WI a0) (.inl ()) i0 (a0.ZR.length - i0)) := by
 have hM := Zo
 have hni6 : a0.ZR.length ≤ maxLen := (Zj.ZR ha0).1
 refine Xa (n := a0.ZR.length) (fun i6 hi6 => ?_) (fun m hm => ?_) i0
 ·unfold M.WI S.WI
  try simp only [Int.toNat_natCast]
  refine X1 (dt (by omega)) ?_
  refine Yx (Zw (dt (by omega)) (Zw (dt (by omega)) XR)) ?_
  refine XY (fun hb3 => ?_) (fun hb3 => ?_)
  ·exact XI
  ·exact JO (by omega)
 ·unfold M.WI
  try simp only [Int.toNat_natCast]
  exact X2 (decide_eq_false (by omega)) rfl
noncomputable def S.WJ (a0 : Zf) (i11 : Nat) : Option (Unit ⊕ Bool) :=
 bif decide ((((a0.Xh.getD i11 default).Z0).length : Int) > 20) then (some (.inr false)) else none
theorem ZfF (a0 : Zf) (ha0 : Zj a0) (i0 : Nat) : loopM (M.WJ a0) (i0 : Int) = some (runN (S.WJ a0) (.inl ()) i0 (a0.Xh.length - i0)) := by
 have hM := Zo
 have hni11 : a0.Xh.length ≤ maxLen := (Zj.Xh ha0).1
 refine Xa (n := a0.Xh.length) (fun i11 hi11 => ?_) (fun m hm => ?_) i0
 ·unfold M.WJ S.WJ
  try simp only [Int.toNat_natCast]
  refine X1 (dt (by omega)) ?_
  refine Yx (Zw (dt (by omega)) (Zw (dt (by omega)) XR)) ?_
  refine XY (fun hb4 => ?_) (fun hb4 => ?_)
  ·exact XI
  ·exact JO (by omega)
 ·unfold M.WJ
  try simp only [Int.toNat_natCast]
  exact X2 (decide_eq_false (by omega)) rfl
noncomputable def S.VX (a0 : Zf) : Bool :=
 bif (((((((((((((decide ((a0.Zc.length : Int) > 12)) || (decide ((a0.Z1.length : Int) > 12))) || (decide ((a0.ZR.length : Int) > 12))) || (decide ((a0.Xh.length : Int) > 12))) || (decide ((a0.Xf.length : Int) > 12))) || (decide ((a0.Zr.length : Int) > 20))) || (decide ((a0.X0.ZE.length : Int) > 8))) || (decide ((a0.X0.Zs.length : Int) > 8))) || (decide ((a0.Ya.Zs.length : Int) > 8))) || (decide ((a0.ZW.Zs.length : Int) > 8))) || (decide ((a0.ZW.Zk.length : Int) > 12))) || (decide ((a0.ZW.Zt.length : Int) > 12))) || (decide ((a0.ZW.Zq.length : Int) > 12))) || (decide ((a0.ZW.Zm.length : Int) > 12)) then false else (letS (runN (S.WH a0) (.inl ()) 0 a0.Z1.length) (fun y3 => Sum.elim (fun _ => letS (runN (S.WI a0) (.inl ()) 0 a0.ZR.length) (fun y8 => Sum.elim (fun _ => letS (runN (S.WJ a0) (.inl ()) 0 a0.Xh.length) (fun y13 => Sum.elim (fun _ => true) (fun y15 => y15) y13)) (fun y10 => y10) y8)) (fun y5 => y5) y3))
theorem Zij (a0 : Zf) (ha0 : Zj a0) : M.VX a0 = some (S.VX a0) := by
 have hM := Zo
 unfold M.VX S.VX
 refine Jl (fun hb1 => ?_) (fun hb1 => ?_)
 ·rfl
 ·refine Z6 (ZfD a0 ha0 0) (fun y3 hey3 => ?_)
  refine Qq (fun _ hl => ?_) (fun y5 hly5 => ?_)
  ·refine Z6 (ZfE a0 ha0 0) (fun y8 hey8 => ?_)
   refine Qq (fun _ hl => ?_) (fun y10 hly10 => ?_)
   ·refine Z6 (ZfF a0 ha0 0) (fun y13 hey13 => ?_)
    refine Qq (fun _ hl => ?_) (fun y15 hly15 => ?_)
    ·rfl
    ·rfl
   ·rfl
  ·rfl
noncomputable def S.Y4 (a0 : ZG) (i1 : Nat) : Option (Unit ⊕ Bool) :=
 letS (S.VX (a0.Ze.getD i1 default)) (fun r3 => bif !r3 then (some (.inr false)) else none)
theorem Ze6 (a0 : ZG) (ha0 : Ys a0) (i0 : Nat) : loopM (M.Y4 a0) (i0 : Int) = some (runN (S.Y4 a0) (.inl ()) i0 (a0.Ze.length - i0)) := by
 have hM := Zo
 have hni1 : a0.Ze.length ≤ maxLen := (Ys.Ze ha0).1
 refine Xa (n := a0.Ze.length) (fun i1 hi1 => ?_) (fun m hm => ?_) i0
 ·unfold M.Y4 S.Y4
  try simp only [Int.toNat_natCast]
  refine X1 (dt (by omega)) ?_
  refine ZY (Zij (a0.Ze.getD i1 default) (LL.getD (Ys.Ze ha0) Zj.dflt i1)) (fun r3 her3 => ?_)
  refine Yx (Zw (dt (by omega)) (Zw (dt (by omega)) XR)) ?_
  refine XY (fun hb2 => ?_) (fun hb2 => ?_)
  ·exact XI
  ·exact JO (by omega)
 ·unfold M.Y4
  try simp only [Int.toNat_natCast]
  exact X2 (decide_eq_false (by omega)) rfl
noncomputable def S.VD (a0 : ZG) : Bool :=
 bif decide ((a0.Ze.length : Int) > 9) then false else (letS (runN (S.Y4 a0) (.inl ()) 0 a0.Ze.length) (fun y4 => Sum.elim (fun _ => true) (fun y6 => y6) y4))
theorem Zhc (a0 : ZG) (ha0 : Ys a0) : M.VD a0 = some (S.VD a0) := by
 have hM := Zo
 unfold M.VD S.VD
 refine Jl (fun hb1 => ?_) (fun hb1 => ?_)
 ·rfl
 ·refine Z6 (Ze6 a0 ha0 0) (fun y4 hey4 => ?_)
  refine Qq (fun _ hl => ?_) (fun y6 hly6 => ?_)
  ·rfl
  ·rfl
noncomputable def S.V3 (a0 : Int) : Bool :=
 ((decide (65 ≤ a0)) && (decide (a0 ≤ 90))) || ((decide (97 ≤ a0)) && (decide (a0 ≤ 122)))
theorem Zdn (a0 : Int)  : M.V3 a0 = some (S.V3 a0) := by
 have hM := Zo
 unfold M.V3 S.V3
 rfl
noncomputable def S.UE (a0 : Int) : Bool :=
 (decide (48 ≤ a0)) && (decide (a0 ≤ 57))
theorem Zik (a0 : Int)  : M.UE a0 = some (S.UE a0) := by
 have hM := Zo
 unfold M.UE S.UE
 rfl
noncomputable def S.Wh (a0 : ByteArray) (i2 : Nat) : Option (Unit ⊕ Bool) :=
 letS (S.V3 (byteAt a0 (i2 : Int))) (fun r4 => letS (bif (!r4) then S.UE (byteAt a0 (i2 : Int)) else default) (fun r5 => bif (((((!r4) && (!r5)) && ((byteAt a0 (i2 : Int)) != 45)) && ((byteAt a0 (i2 : Int)) != 95)) && ((byteAt a0 (i2 : Int)) != 47)) && ((byteAt a0 (i2 : Int)) != 46) then (some (.inr false)) else none))
theorem ZgM (a0 : ByteArray) (ha0 : a0.size ≤ maxLen) (i0 : Nat) : loopM (M.Wh a0) (i0 : Int) = some (runN (S.Wh a0) (.inl ()) i0 (a0.size - i0)) := by
 have hM := Zo
 have hni2 : a0.size ≤ maxLen := ha0
 refine Xa (n := a0.size) (fun i2 hi2 => ?_) (fun m hm => ?_) i0
 ·unfold M.Wh S.Wh
  try simp only [Int.toNat_natCast]
  refine X1 (dt (by omega)) ?_
  refine Yx (Zw (dt (by omega)) (Zw (dt (by omega)) XR)) ?_
  refine ZY (Zdn (byteAt a0 (i2 : Int))) (fun r4 her4 => ?_)
  refine ZY (JE fun hg => (Zik (byteAt a0 (i2 : Int)))) (fun r5 her5 => ?_)
  refine XY (fun hb2 => ?_) (fun hb2 => ?_)
  ·exact XI
  ·exact JO (by omega)
 ·unfold M.Wh
  try simp only [Int.toNat_natCast]
  exact X2 (decide_eq_false (by omega)) rfl
noncomputable def S.WD (a0 : ByteArray) : Bool :=
 letS (bif (!((decide ((a0.size : Int) < 1)) || (decide ((a0.size : Int) > 15)))) then S.V3 (byteAt a0 0) else default) (fun r1 => bif ((decide ((a0.size : Int) < 1)) || (decide ((a0.size : Int) > 15))) || (!r1) then false else (letS (runN (S.Wh a0) (.inl ()) 1 (a0.size - 1)) (fun y6 => Sum.elim (fun _ => true) (fun y8 => y8) y6)))
theorem Zcl (a0 : ByteArray) (ha0 : a0.size ≤ maxLen) : M.WD a0 = some (S.WD a0) := by
 have hM := Zo
 unfold M.WD S.WD
 refine Z6 (JE fun hg => (Zdn (byteAt a0 0))) (fun r1 her1 => ?_)
 refine Yx (Zw (QY fun hg => (dt (by first | omega | (simp; omega) | (simp at *; omega)))) (Zw (QY fun hg => (dt (by first | omega | (simp; omega) | (simp at *; omega)))) XR)) ?_
 refine Jl (fun hb1 => ?_) (fun hb1 => ?_)
 ·rfl
 ·refine Z6 (ZgM a0 ha0 1) (fun y6 hey6 => ?_)
  refine Qq (fun _ hl => ?_) (fun y8 hly8 => ?_)
  ·rfl
  ·rfl
noncomputable def S.ZZ (a0 : Int) (a1 : Int) (a2 : Int) : Bool :=
 (decide (a1 ≤ a0)) && (decide (a0 ≤ a2))
theorem X5 (a0 : Int) (a1 : Int) (a2 : Int)  : M.ZZ a0 a1 a2 = some (S.ZZ a0 a1 a2) := by
 have hM := Zo
 unfold M.ZZ S.ZZ
 rfl
noncomputable def S.JI (a0 : ZB) (b0 : ByteArray) : Bool :=
 strEq a0.ZJ b0
theorem ZcZ (a0 : ZB) (b0 : ByteArray) (ha0 : Xt a0) (hb0 : b0.size ≤ maxLen) : M.JI a0 b0 = some (S.JI a0 b0) := by
 have hM := Zo
 unfold M.JI S.JI
 rfl
noncomputable def S.ZI (a0 : List ZB) (a1c0 : ByteArray) (i1 : Nat) : Option (Unit ⊕ Int) :=
 letS (S.JI (a0.getD i1 default) a1c0) (fun r3 => bif r3 then (some (.inr (i1 : Int))) else none)
theorem VP (a0 : List ZB) (a1c0 : ByteArray) (ha0 : LL Xt a0) (ha1c0 : a1c0.size ≤ maxLen) (i0 : Nat) : loopM (M.ZI a0 a1c0) (i0 : Int) = some (runN (S.ZI a0 a1c0) (.inl ()) i0 (a0.length - i0)) := by
 have hM := Zo
 have hni1 : a0.length ≤ maxLen := ha0.1
 refine Xa (n := a0.length) (fun i1 hi1 => ?_) (fun m hm => ?_) i0
 ·unfold M.ZI S.ZI
  try simp only [Int.toNat_natCast]
  refine X1 (dt (by omega)) ?_
  refine ZY (ZcZ (a0.getD i1 default) a1c0 (LL.getD ha0 Xt.dflt i1) ha1c0) (fun r3 her3 => ?_)
  refine Yx (Zw (dt (by omega)) (Zw (dt (by omega)) XR)) ?_
  refine XY (fun hb1 => ?_) (fun hb1 => ?_)
  ·exact XI
  ·exact JO (by omega)
 ·unfold M.ZI
  try simp only [Int.toNat_natCast]
  exact X2 (decide_eq_false (by omega)) rfl
noncomputable def S.ZM (a0 : List ZB) (a1c0 : ByteArray) : Int :=
 letS (runN (S.ZI a0 a1c0) (.inl ()) 0 a0.length) (fun y4 => Sum.elim (fun _ => -1) (fun y6 => y6) y4)
theorem V5 (a0 : List ZB) (a1c0 : ByteArray) (ha0 : LL Xt a0) (ha1c0 : a1c0.size ≤ maxLen) : M.ZM a0 a1c0 = some (S.ZM a0 a1c0) := by
 have hM := Zo
 unfold M.ZM S.ZM
 refine Z6 (VP a0 a1c0 ha0 ha1c0 0) (fun y4 hey4 => ?_)
 refine Qq (fun _ hl => ?_) (fun y6 hly6 => ?_)
 ·rfl
 ·rfl
noncomputable def S.Qn (a0 : Zf) (a1 : ByteArray) : Int :=
 letS (S.ZM a0.Zc a1) (fun r1 => r1)
theorem R3 (a0 : Zf) (a1 : ByteArray) (ha0 : Zj a0) (ha1 : a1.size ≤ maxLen) : M.Qn a0 a1 = some (S.Qn a0 a1) := by
 have hM := Zo
 unfold M.Qn S.Qn
 refine Z6 (V5 a0.Zc a1 (Zj.Zc ha0) ha1) (fun r1 her1 => ?_)
 rfl
theorem K8 (a0 : Zf) (a1 : ByteArray) : S.Qn a0 a1 < (a0.Zc.length : Int) := by
 unfold S.Qn S.ZM
 simp only [letS]
 exact ZlY (fun i => by unfold S.ZI; simp only [letS]; cases S.JI (a0.Zc.getD i default) a1 <;> simp) _
noncomputable def S.Qy (a0 : ZB) : Bool :=
 letS (S.ZZ a0.ZK 0 32) (fun r1 => letS (bif (!(!r1)) then S.ZZ a0.XF 0 4094 else default) (fun r2 => letS (bif (!((!r1) || (!r2))) then S.ZZ a0.Rr 0 2 else default) (fun r3 => bif ((!r1) || (!r2)) || (!r3) then false else (bif (a0.ZK == 0) && (((((((a0.Zy != 0) || (a0.XF != 0)) || (a0.Rr != 0)) || a0.X0) || a0.Ya) || (!strEq a0.Vr (⟨#[]⟩ : ByteArray))) || (!strEq a0.YD (⟨#[]⟩ : ByteArray))) then false else (bif (a0.ZK != 0) && (a0.Zy == 0) then false else (bif a0.X0 then (letS (S.ZZ a0.JW 0 255) (fun r4 => letS (bif r4 then S.ZZ a0.K5 1 65535 else default) (fun r5 => r4 && r5))) else ((a0.JW == 0) && (a0.K5 == 0))))))))
theorem ZaZ (a0 : ZB) (ha0 : Xt a0) : M.Qy a0 = some (S.Qy a0) := by
 have hM := Zo
 unfold M.Qy S.Qy
 refine Z6 (X5 a0.ZK 0 32) (fun r1 her1 => ?_)
 refine Z6 (JE fun hg => (X5 a0.XF 0 4094)) (fun r2 her2 => ?_)
 refine Z6 (JE fun hg => (X5 a0.Rr 0 2)) (fun r3 her3 => ?_)
 refine Jl (fun hb1 => ?_) (fun hb1 => ?_)
 ·rfl
 ·refine Jl (fun hb2 => ?_) (fun hb2 => ?_)
  ·rfl
  ·refine Jl (fun hb3 => ?_) (fun hb3 => ?_)
   ·rfl
   ·refine Jl (fun hb4 => ?_) (fun hb4 => ?_)
    ·refine Z6 (X5 a0.JW 0 255) (fun r4 her4 => ?_)
     refine Z6 (JE fun hg => (X5 a0.K5 1 65535)) (fun r5 her5 => ?_)
     rfl
    ·rfl
noncomputable def S.Y2 (a0 : Int) (a1 : Int) : ZS :=
 letS (S.Vb a1) (fun r1 => letS (S.JT a1) (fun r2 => (⟨bitD .and .u32 a0 r1,r2⟩ : ZS)))
theorem RB (a0 : Int) (a1 : Int)  : M.Y2 a0 a1 = some (S.Y2 a0 a1) := by
 have hM := Zo
 unfold M.Y2 S.Y2
 refine Z6 (Zcj a1) (fun r1 her1 => ?_)
 refine Z6 (ZeA a1) (fun r2 her2 => ?_)
 rfl
noncomputable def S.WK (a0 : ZS) (a1 : Int) : Bool :=
 letS (S.Vb a0.ZK) (fun r1 => (bitD .and .u32 a1 r1) == a0.Zy)
theorem ZfG (a0 : ZS) (a1 : Int)  : M.WK a0 a1 = some (S.WK a0 a1) := by
 have hM := Zo
 unfold M.WK S.WK
 refine Z6 (Zcj a0.ZK) (fun r1 her1 => ?_)
 rfl
noncomputable def S.WP (a0 : ZS) (a1 : ZS) : Bool :=
 letS (bif (decide (a0.ZK ≤ a1.ZK)) then S.WK a0 a1.Zy else default) (fun r1 => (decide (a0.ZK ≤ a1.ZK)) && r1)
theorem Zdo (a0 : ZS) (a1 : ZS)  : M.WP a0 a1 = some (S.WP a0 a1) := by
 have hM := Zo
 unfold M.WP S.WP
 refine Z6 (JE fun hg => (ZfG a0 a1.Zy)) (fun r1 her1 => ?_)
 rfl
noncomputable def S.Vl (a0 : ZS) (a1 : ZS) : Bool :=
 letS (S.WP a0 a1) (fun r1 => letS (bif (!r1) then S.WP a1 a0 else default) (fun r2 => r1 || r2))
theorem Zbj (a0 : ZS) (a1 : ZS)  : M.Vl a0 a1 = some (S.Vl a0 a1) := by
 have hM := Zo
 unfold M.Vl S.Vl
 refine Z6 (Zdo a0 a1) (fun r1 her1 => ?_)
 refine Z6 (JE fun hg => (Zdo a1 a0)) (fun r2 her2 => ?_)
 rfl
noncomputable def S.Yr (a0 : Zf) (i1 : Nat) (i6 : Nat) : Option (Unit ⊕ Int) :=
 letS (bif ((((a0.Zc.getD i1 default).ZK) != 0) && (((((a0.Zc.drop 0).take (i1 - 0)).getD i6 default).ZK) != 0)) then S.Y2 ((a0.Zc.getD i1 default).Zy) ((a0.Zc.getD i1 default).ZK) else default) (fun r8 => letS (bif ((((a0.Zc.getD i1 default).ZK) != 0) && (((((a0.Zc.drop 0).take (i1 - 0)).getD i6 default).ZK) != 0)) then S.Y2 ((((a0.Zc.drop 0).take (i1 - 0)).getD i6 default).Zy) ((((a0.Zc.drop 0).take (i1 - 0)).getD i6 default).ZK) else default) (fun r9 => letS (bif ((((a0.Zc.getD i1 default).ZK) != 0) && (((((a0.Zc.drop 0).take (i1 - 0)).getD i6 default).ZK) != 0)) then S.Vl r8 r9 else default) (fun r10 => bif ((((a0.Zc.getD i1 default).ZK) != 0) && (((((a0.Zc.drop 0).take (i1 - 0)).getD i6 default).ZK) != 0)) && r10 then (some (.inr 6)) else none)))
theorem RC (a0 : Zf) (i1 : Nat) (ha0 : Zj a0) (hi1 : i1 < a0.Zc.length) (i0 : Nat) : loopM (M.Yr a0 (i1 : Int)) (i0 : Int) = some (runN (S.Yr a0 i1) (.inl ()) i0 (i1 - i0)) := by
 have hM := Zo
 have hni1 : a0.Zc.length ≤ maxLen := (Zj.Zc ha0).1
 have hni6 : i1 ≤ maxLen := (by omega)
 refine Xa (n := i1) (fun i6 hi6 => ?_) (fun m hm => ?_) i0
 ·unfold M.Yr S.Yr
  try simp only [Int.toNat_natCast]
  refine X1 (dt (by omega)) ?_
  refine Yx (Zw (dt (by omega)) (Zw (dt (by simp; omega)) XR)) ?_
  refine ZY (JE fun hg => (RB ((a0.Zc.getD i1 default).Zy) ((a0.Zc.getD i1 default).ZK))) (fun r8 her8 => ?_)
  refine ZY (JE fun hg => (RB ((((a0.Zc.drop 0).take (i1 - 0)).getD i6 default).Zy) ((((a0.Zc.drop 0).take (i1 - 0)).getD i6 default).ZK))) (fun r9 her9 => ?_)
  refine ZY (JE fun hg => (Zbj r8 r9)) (fun r10 her10 => ?_)
  refine XY (fun hb5 => ?_) (fun hb5 => ?_)
  ·exact XI
  ·exact JO (by omega)
 ·unfold M.Yr
  try simp only [Int.toNat_natCast]
  exact X2 (decide_eq_false (by omega)) rfl
noncomputable def S.YG (a0 : Zf) (i1 : Nat) : Option (Unit ⊕ Int) :=
 letS (S.WD ((a0.Zc.getD i1 default).ZJ)) (fun r3 => bif !r3 then (some (.inr 3)) else (letS (S.Qn a0 ((a0.Zc.getD i1 default).ZJ)) (fun r4 => bif decide (r4 < (i1 : Int)) then (some (.inr 4)) else (letS (S.Qy (a0.Zc.getD i1 default)) (fun r5 => bif !r5 then (some (.inr 1)) else (letS (runN (S.Yr a0 i1) (.inl ()) 0 i1) (fun y11 => Sum.elim (fun _ => none) (fun y13 => some (.inr y13)) y11)))))))
theorem RD (a0 : Zf) (ha0 : Zj a0) (i0 : Nat) : loopM (M.YG a0) (i0 : Int) = some (runN (S.YG a0) (.inl ()) i0 (a0.Zc.length - i0)) := by
 have hM := Zo
 have hni1 : a0.Zc.length ≤ maxLen := (Zj.Zc ha0).1
 refine Xa (n := a0.Zc.length) (fun i1 hi1 => ?_) (fun m hm => ?_) i0
 ·unfold M.YG S.YG
  try simp only [Int.toNat_natCast]
  refine X1 (dt (by omega)) ?_
  refine Yx (Zw (dt (by omega)) (Zw (dt (by omega)) XR)) ?_
  refine ZY (Zcl ((a0.Zc.getD i1 default).ZJ) (Xt.ZJ (LL.getD (Zj.Zc ha0) Xt.dflt i1))) (fun r3 her3 => ?_)
  refine XY (fun hb2 => ?_) (fun hb2 => ?_)
  ·exact XI
  ·refine ZY (R3 a0 ((a0.Zc.getD i1 default).ZJ) ha0 (Xt.ZJ (LL.getD (Zj.Zc ha0) Xt.dflt i1))) (fun r4 her4 => ?_)
   have hrr4 := K8 a0 ((a0.Zc.getD i1 default).ZJ)
   refine XY (fun hb3 => ?_) (fun hb3 => ?_)
   ·exact XI
   ·refine ZY (ZaZ (a0.Zc.getD i1 default) (LL.getD (Zj.Zc ha0) Xt.dflt i1)) (fun r5 her5 => ?_)
    refine XY (fun hb4 => ?_) (fun hb4 => ?_)
    ·exact XI
    ·refine Yx (Zw (dt (by omega)) (Zw (dt (by omega)) XR)) ?_
     refine ZY (RC a0 i1 ha0 hi1 0) (fun y11 hey11 => ?_)
     refine J8 (fun _ hl => ?_) (fun y13 hly13 => ?_)
     ·exact JO (by omega)
     ·exact XI
 ·unfold M.YG
  try simp only [Int.toNat_natCast]
  exact X2 (decide_eq_false (by omega)) rfl
noncomputable def S.YQ (a0 : Zf) : Int :=
 bif decide ((a0.Zc.length : Int) > 8) then 7 else (letS (runN (S.YG a0) (.inl ()) 0 a0.Zc.length) (fun y14 => Sum.elim (fun _ => 0) (fun y16 => y16) y14))
theorem ZaA (a0 : Zf) (ha0 : Zj a0) : M.YQ a0 = some (S.YQ a0) := by
 have hM := Zo
 unfold M.YQ S.YQ
 refine Jl (fun hb1 => ?_) (fun hb1 => ?_)
 ·rfl
 ·refine Z6 (RD a0 ha0 0) (fun y14 hey14 => ?_)
  refine Qq (fun _ hl => ?_) (fun y16 hly16 => ?_)
  ·rfl
  ·rfl
noncomputable def S.JU (a0 : ZF) (b0 : ByteArray) : Bool :=
 strEq a0.ZJ b0
theorem Zcm (a0 : ZF) (b0 : ByteArray) (ha0 : X9 a0) (hb0 : b0.size ≤ maxLen) : M.JU a0 b0 = some (S.JU a0 b0) := by
 have hM := Zo
 unfold M.JU S.JU
 rfl
noncomputable def S.ZN (a0 : List ZF) (a1c0 : ByteArray) (i1 : Nat) : Option (Unit ⊕ Int) :=
 letS (S.JU (a0.getD i1 default) a1c0) (fun r3 => bif r3 then (some (.inr (i1 : Int))) else none)
theorem Vy (a0 : List ZF) (a1c0 : ByteArray) (ha0 : LL X9 a0) (ha1c0 : a1c0.size ≤ maxLen) (i0 : Nat) : loopM (M.ZN a0 a1c0) (i0 : Int) = some (runN (S.ZN a0 a1c0) (.inl ()) i0 (a0.length - i0)) := by
 have hM := Zo
 have hni1 : a0.length ≤ maxLen := ha0.1
 refine Xa (n := a0.length) (fun i1 hi1 => ?_) (fun m hm => ?_) i0
 ·unfold M.ZN S.ZN
  try simp only [Int.toNat_natCast]
  refine X1 (dt (by omega)) ?_
  refine ZY (Zcm (a0.getD i1 default) a1c0 (LL.getD ha0 X9.dflt i1) ha1c0) (fun r3 her3 => ?_)
  refine Yx (Zw (dt (by omega)) (Zw (dt (by omega)) XR)) ?_
  refine XY (fun hb1 => ?_) (fun hb1 => ?_)
  ·exact XI
  ·exact JO (by omega)
 ·unfold M.ZN
  try simp only [Int.toNat_natCast]
  exact X2 (decide_eq_false (by omega)) rfl
noncomputable def S.ZU (a0 : List ZF) (a1c0 : ByteArray) : Int :=
 letS (runN (S.ZN a0 a1c0) (.inl ()) 0 a0.length) (fun y4 => Sum.elim (fun _ => -1) (fun y6 => y6) y4)
theorem VQ (a0 : List ZF) (a1c0 : ByteArray) (ha0 : LL X9 a0) (ha1c0 : a1c0.size ≤ maxLen) : M.ZU a0 a1c0 = some (S.ZU a0 a1c0) := by
 have hM := Zo
 unfold M.ZU S.ZU
 refine Z6 (Vy a0 a1c0 ha0 ha1c0 0) (fun y4 hey4 => ?_)
 refine Qq (fun _ hl => ?_) (fun y6 hly6 => ?_)
 ·rfl
 ·rfl
noncomputable def S.Yy (a0 : Zf) (a1 : ByteArray) : Int :=
 letS (S.ZU a0.Z1 a1) (fun r1 => r1)
theorem Gg (a0 : Zf) (a1 : ByteArray) (ha0 : Zj a0) (ha1 : a1.size ≤ maxLen) : M.Yy a0 a1 = some (S.Yy a0 a1) := by
 have hM := Zo
 unfold M.Yy S.Yy
 refine Z6 (VQ a0.Z1 a1 (Zj.Z1 ha0) ha1) (fun r1 her1 => ?_)
 rfl
noncomputable def S.YZ (a0 : Int) (a1 : Int) (a2 : ByteArray) (a3 : Int) (a4 : Int) : Int :=
 letS (S.WD a2) (fun r1 => bif !r1 then 3 else (bif decide (a1 < a0) then 4 else (bif a3 == 0 then 1 else (bif decide (a3 > a4) then 7 else 0))))
theorem KF (a0 : Int) (a1 : Int) (a2 : ByteArray) (a3 : Int) (a4 : Int) (ha2 : a2.size ≤ maxLen) : M.YZ a0 a1 a2 a3 a4 = some (S.YZ a0 a1 a2 a3 a4) := by
 have hM := Zo
 unfold M.YZ S.YZ
 refine Z6 (Zcl a2 ha2) (fun r1 her1 => ?_)
 refine Jl (fun hb1 => ?_) (fun hb1 => ?_)
 ·rfl
 ·refine Jl (fun hb2 => ?_) (fun hb2 => ?_)
  ·rfl
  ·refine Jl (fun hb3 => ?_) (fun hb3 => ?_)
   ·rfl
   ·refine Jl (fun hb4 => ?_) (fun hb4 => ?_)
    ·rfl
    ·rfl
noncomputable def S.QZ (a0 : ZS) : Bool :=
 letS (bif ((decide (a0.ZK ≥ 0)) && (decide (a0.ZK ≤ 32))) then S.Vb a0.ZK else default) (fun r1 => ((decide (a0.ZK ≥ 0)) && (decide (a0.ZK ≤ 32))) && ((bitD .andNot .u32 a0.Zy r1) == 0))
theorem Gh (a0 : ZS)  : M.QZ a0 = some (S.QZ a0) := by
 have hM := Zo
 unfold M.QZ S.QZ
 refine Z6 (JE fun hg => (Zcj a0.ZK)) (fun r1 her1 => ?_)
 rfl
noncomputable def S.Ym (a0 : Zf) (i1 : Nat) (i5 : Nat) : Option (Unit ⊕ Int) :=
 letS (S.QZ ((((a0.Z1.getD i1 default).Z0).getD i5 default).Zp)) (fun r7 => bif (((!r7) || (decide (((((a0.Z1.getD i1 default).Z0).getD i5 default).Zbm) < (((((a0.Z1.getD i1 default).Z0).getD i5 default).Zp).ZK)))) || (decide (((((a0.Z1.getD i1 default).Z0).getD i5 default).Zbn) < ((((a0.Z1.getD i1 default).Z0).getD i5 default).Zbm)))) || (decide (((((a0.Z1.getD i1 default).Z0).getD i5 default).Zbn) > 32)) then (some (.inr 1)) else none)
theorem Rh (a0 : Zf) (i1 : Nat) (ha0 : Zj a0) (hi1 : i1 < a0.Z1.length) (i0 : Nat) : loopM (M.Ym a0 (i1 : Int)) (i0 : Int) = some (runN (S.Ym a0 i1) (.inl ()) i0 (((a0.Z1.getD i1 default).Z0).length - i0)) := by
 have hM := Zo
 have hni1 : a0.Z1.length ≤ maxLen := (Zj.Z1 ha0).1
 have hni5 : ((a0.Z1.getD i1 default).Z0).length ≤ maxLen := (X9.Z0 (LL.getD (Zj.Z1 ha0) X9.dflt i1))
 refine Xa (n := ((a0.Z1.getD i1 default).Z0).length) (fun i5 hi5 => ?_) (fun m hm => ?_) i0
 ·unfold M.Ym S.Ym
  try simp only [Int.toNat_natCast]
  refine X1 (dt (by omega)) ?_
  refine Yx (Zw (dt (by omega)) (Zw (dt (by omega)) XR)) ?_
  refine ZY (Gh ((((a0.Z1.getD i1 default).Z0).getD i5 default).Zp)) (fun r7 her7 => ?_)
  refine XY (fun hb3 => ?_) (fun hb3 => ?_)
  ·exact XI
  ·exact JO (by omega)
 ·unfold M.Ym
  try simp only [Int.toNat_natCast]
  exact X2 (decide_eq_false (by omega)) rfl
noncomputable def S.Yw (a0 : Zf) (i1 : Nat) : Option (Unit ⊕ Int) :=
 letS (S.Yy a0 ((a0.Z1.getD i1 default).ZJ)) (fun r3 => letS (S.YZ (i1 : Int) r3 ((a0.Z1.getD i1 default).ZJ) (((a0.Z1.getD i1 default).Z0).length : Int) 16) (fun r4 => bif r4 != 0 then (some (.inr r4)) else (letS (runN (S.Ym a0 i1) (.inl ()) 0 (((a0.Z1.getD i1 default).Z0).length)) (fun y8 => Sum.elim (fun _ => none) (fun y10 => some (.inr y10)) y8))))
theorem Ri (a0 : Zf) (ha0 : Zj a0) (i0 : Nat) : loopM (M.Yw a0) (i0 : Int) = some (runN (S.Yw a0) (.inl ()) i0 (a0.Z1.length - i0)) := by
 have hM := Zo
 have hni1 : a0.Z1.length ≤ maxLen := (Zj.Z1 ha0).1
 refine Xa (n := a0.Z1.length) (fun i1 hi1 => ?_) (fun m hm => ?_) i0
 ·unfold M.Yw S.Yw
  try simp only [Int.toNat_natCast]
  refine X1 (dt (by omega)) ?_
  refine Yx (Zw (dt (by omega)) (Zw (dt (by omega)) XR)) ?_
  refine ZY (Gg a0 ((a0.Z1.getD i1 default).ZJ) ha0 (X9.ZJ (LL.getD (Zj.Z1 ha0) X9.dflt i1))) (fun r3 her3 => ?_)
  refine ZY (KF (i1 : Int) r3 ((a0.Z1.getD i1 default).ZJ) (((a0.Z1.getD i1 default).Z0).length : Int) 16 (X9.ZJ (LL.getD (Zj.Z1 ha0) X9.dflt i1))) (fun r4 her4 => ?_)
  refine XY (fun hb2 => ?_) (fun hb2 => ?_)
  ·exact XI
  ·refine ZY (Rh a0 i1 ha0 hi1 0) (fun y8 hey8 => ?_)
   refine J8 (fun _ hl => ?_) (fun y10 hly10 => ?_)
   ·exact JO (by omega)
   ·exact XI
 ·unfold M.Yw
  try simp only [Int.toNat_natCast]
  exact X2 (decide_eq_false (by omega)) rfl
noncomputable def S.YH (a0 : Zf) : Int :=
 bif decide ((a0.Z1.length : Int) > 8) then 7 else (letS (runN (S.Yw a0) (.inl ()) 0 a0.Z1.length) (fun y11 => Sum.elim (fun _ => 0) (fun y13 => y13) y11))
theorem Zae (a0 : Zf) (ha0 : Zj a0) : M.YH a0 = some (S.YH a0) := by
 have hM := Zo
 unfold M.YH S.YH
 refine Jl (fun hb1 => ?_) (fun hb1 => ?_)
 ·rfl
 ·refine Z6 (Ri a0 ha0 0) (fun y11 hey11 => ?_)
  refine Qq (fun _ hl => ?_) (fun y13 hly13 => ?_)
  ·rfl
  ·rfl
noncomputable def S.Vu (a0 : Xy) (b0 : ByteArray) : Bool :=
 strEq a0.ZJ b0
theorem ZdO (a0 : Xy) (b0 : ByteArray) (ha0 : Yp a0) (hb0 : b0.size ≤ maxLen) : M.Vu a0 b0 = some (S.Vu a0 b0) := by
 have hM := Zo
 unfold M.Vu S.Vu
 rfl
noncomputable def S.Z5 (a0 : List Xy) (a1c0 : ByteArray) (i1 : Nat) : Option (Unit ⊕ Int) :=
 letS (S.Vu (a0.getD i1 default) a1c0) (fun r3 => bif r3 then (some (.inr (i1 : Int))) else none)
theorem V6 (a0 : List Xy) (a1c0 : ByteArray) (ha0 : LL Yp a0) (ha1c0 : a1c0.size ≤ maxLen) (i0 : Nat) : loopM (M.Z5 a0 a1c0) (i0 : Int) = some (runN (S.Z5 a0 a1c0) (.inl ()) i0 (a0.length - i0)) := by
 have hM := Zo
 have hni1 : a0.length ≤ maxLen := ha0.1
 refine Xa (n := a0.length) (fun i1 hi1 => ?_) (fun m hm => ?_) i0
 ·unfold M.Z5 S.Z5
  try simp only [Int.toNat_natCast]
  refine X1 (dt (by omega)) ?_
  refine ZY (ZdO (a0.getD i1 default) a1c0 (LL.getD ha0 Yp.dflt i1) ha1c0) (fun r3 her3 => ?_)
  refine Yx (Zw (dt (by omega)) (Zw (dt (by omega)) XR)) ?_
  refine XY (fun hb1 => ?_) (fun hb1 => ?_)
  ·exact XI
  ·exact JO (by omega)
 ·unfold M.Z5
  try simp only [Int.toNat_natCast]
  exact X2 (decide_eq_false (by omega)) rfl
noncomputable def S.Z9 (a0 : List Xy) (a1c0 : ByteArray) : Int :=
 letS (runN (S.Z5 a0 a1c0) (.inl ()) 0 a0.length) (fun y4 => Sum.elim (fun _ => -1) (fun y6 => y6) y4)
theorem Wo (a0 : List Xy) (a1c0 : ByteArray) (ha0 : LL Yp a0) (ha1c0 : a1c0.size ≤ maxLen) : M.Z9 a0 a1c0 = some (S.Z9 a0 a1c0) := by
 have hM := Zo
 unfold M.Z9 S.Z9
 refine Z6 (V6 a0 a1c0 ha0 ha1c0 0) (fun y4 hey4 => ?_)
 refine Qq (fun _ hl => ?_) (fun y6 hly6 => ?_)
 ·rfl
 ·rfl
noncomputable def S.Y5 (a0 : Zf) (a1 : ByteArray) : Int :=
 letS (S.Z9 a0.ZR a1) (fun r1 => r1)
theorem GW (a0 : Zf) (a1 : ByteArray) (ha0 : Zj a0) (ha1 : a1.size ≤ maxLen) : M.Y5 a0 a1 = some (S.Y5 a0 a1) := by
 have hM := Zo
 unfold M.Y5 S.Y5
 refine Z6 (Wo a0.ZR a1 (Zj.ZR ha0) ha1) (fun r1 her1 => ?_)
 rfl
noncomputable def S.Q8 (a0 : Ul) : Bool :=
 letS (S.ZZ a0.UK (-1) 65535) (fun r1 => letS (bif r1 then S.ZZ a0.WB (-1) 16777215 else default) (fun r2 => letS (bif (r1 && r2) then S.ZZ a0.GN (-1) 65535 else default) (fun r3 => letS (bif ((r1 && r2) && r3) then S.ZZ a0.UU (-1) 1000000 else default) (fun r4 => letS (bif (((r1 && r2) && r3) && r4) then S.ZZ a0.UV 0 8 else default) (fun r5 => (((r1 && r2) && r3) && r4) && r5)))))
theorem Zc0 (a0 : Ul) (ha0 : W8 a0) : M.Q8 a0 = some (S.Q8 a0) := by
 have hM := Zo
 unfold M.Q8 S.Q8
 refine Z6 (X5 a0.UK (-1) 65535) (fun r1 her1 => ?_)
 refine Z6 (JE fun hg => (X5 a0.WB (-1) 16777215)) (fun r2 her2 => ?_)
 refine Z6 (JE fun hg => (X5 a0.GN (-1) 65535)) (fun r3 her3 => ?_)
 refine Z6 (JE fun hg => (X5 a0.UU (-1) 1000000)) (fun r4 her4 => ?_)
 refine Z6 (JE fun hg => (X5 a0.UV 0 8)) (fun r5 her5 => ?_)
 rfl
noncomputable def S.Yz (a0 : Zf) (i1 : Nat) (i5 : Nat) : Option (Unit ⊕ Int) :=
 letS (bif (!strEq ((((a0.ZR.getD i1 default).Z4).getD i5 default).QE) (⟨#[]⟩ : ByteArray)) then S.Yy a0 ((((a0.ZR.getD i1 default).Z4).getD i5 default).QE) else default) (fun r7 => bif (!strEq ((((a0.ZR.getD i1 default).Z4).getD i5 default).QE) (⟨#[]⟩ : ByteArray)) && (decide (r7 < 0)) then (some (.inr 5)) else (letS (S.Q8 (((a0.ZR.getD i1 default).Z4).getD i5 default)) (fun r8 => bif !r8 then (some (.inr 1)) else none)))
theorem RK (a0 : Zf) (i1 : Nat) (ha0 : Zj a0) (hi1 : i1 < a0.ZR.length) (i0 : Nat) : loopM (M.Yz a0 (i1 : Int)) (i0 : Int) = some (runN (S.Yz a0 i1) (.inl ()) i0 (((a0.ZR.getD i1 default).Z4).length - i0)) := by
 have hM := Zo
 have hni1 : a0.ZR.length ≤ maxLen := (Zj.ZR ha0).1
 have hni5 : ((a0.ZR.getD i1 default).Z4).length ≤ maxLen := (Yp.Z4 (LL.getD (Zj.ZR ha0) Yp.dflt i1)).1
 refine Xa (n := ((a0.ZR.getD i1 default).Z4).length) (fun i5 hi5 => ?_) (fun m hm => ?_) i0
 ·unfold M.Yz S.Yz
  try simp only [Int.toNat_natCast]
  refine X1 (dt (by omega)) ?_
  refine Yx (Zw (dt (by omega)) (Zw (dt (by omega)) XR)) ?_
  refine ZY (JE fun hg => (Gg a0 ((((a0.ZR.getD i1 default).Z4).getD i5 default).QE) ha0 (W8.QE (LL.getD (Yp.Z4 (LL.getD (Zj.ZR ha0) Yp.dflt i1)) W8.dflt i5)))) (fun r7 her7 => ?_)
  refine XY (fun hb3 => ?_) (fun hb3 => ?_)
  ·exact XI
  ·refine ZY (Zc0 (((a0.ZR.getD i1 default).Z4).getD i5 default) (LL.getD (Yp.Z4 (LL.getD (Zj.ZR ha0) Yp.dflt i1)) W8.dflt i5)) (fun r8 her8 => ?_)
   refine XY (fun hb4 => ?_) (fun hb4 => ?_)
   ·exact XI
   ·exact JO (by omega)
 ·unfold M.Yz
  try simp only [Int.toNat_natCast]
  exact X2 (decide_eq_false (by omega)) rfl
noncomputable def S.YK (a0 : Zf) (i1 : Nat) : Option (Unit ⊕ Int) :=
 letS (S.Y5 a0 ((a0.ZR.getD i1 default).ZJ)) (fun r3 => letS (S.YZ (i1 : Int) r3 ((a0.ZR.getD i1 default).ZJ) (((a0.ZR.getD i1 default).Z4).length : Int) 8) (fun r4 => bif r4 != 0 then (some (.inr r4)) else (letS (runN (S.Yz a0 i1) (.inl ()) 0 (((a0.ZR.getD i1 default).Z4).length)) (fun y9 => Sum.elim (fun _ => none) (fun y11 => some (.inr y11)) y9))))
theorem RL (a0 : Zf) (ha0 : Zj a0) (i0 : Nat) : loopM (M.YK a0) (i0 : Int) = some (runN (S.YK a0) (.inl ()) i0 (a0.ZR.length - i0)) := by
 have hM := Zo
 have hni1 : a0.ZR.length ≤ maxLen := (Zj.ZR ha0).1
 refine Xa (n := a0.ZR.length) (fun i1 hi1 => ?_) (fun m hm => ?_) i0
 ·unfold M.YK S.YK
  try simp only [Int.toNat_natCast]
  refine X1 (dt (by omega)) ?_
  refine Yx (Zw (dt (by omega)) (Zw (dt (by omega)) XR)) ?_
  refine ZY (GW a0 ((a0.ZR.getD i1 default).ZJ) ha0 (Yp.ZJ (LL.getD (Zj.ZR ha0) Yp.dflt i1))) (fun r3 her3 => ?_)
  refine ZY (KF (i1 : Int) r3 ((a0.ZR.getD i1 default).ZJ) (((a0.ZR.getD i1 default).Z4).length : Int) 8 (Yp.ZJ (LL.getD (Zj.ZR ha0) Yp.dflt i1))) (fun r4 her4 => ?_)
  refine XY (fun hb2 => ?_) (fun hb2 => ?_)
  ·exact XI
  ·refine ZY (RK a0 i1 ha0 hi1 0) (fun y9 hey9 => ?_)
   refine J8 (fun _ hl => ?_) (fun y11 hly11 => ?_)
   ·exact JO (by omega)
   ·exact XI
 ·unfold M.YK
  try simp only [Int.toNat_natCast]
  exact X2 (decide_eq_false (by omega)) rfl
noncomputable def S.Y6 (a0 : Zf) : Int :=
 bif decide ((a0.ZR.length : Int) > 8) then 7 else (letS (runN (S.YK a0) (.inl ()) 0 a0.ZR.length) (fun y12 => Sum.elim (fun _ => 0) (fun y14 => y14) y12))
theorem Za0 (a0 : Zf) (ha0 : Zj a0) : M.Y6 a0 = some (S.Y6 a0) := by
 have hM := Zo
 unfold M.Y6 S.Y6
 refine Jl (fun hb1 => ?_) (fun hb1 => ?_)
 ·rfl
 ·refine Z6 (RL a0 ha0 0) (fun y12 hey12 => ?_)
  refine Qq (fun _ hl => ?_) (fun y14 hly14 => ?_)
  ·rfl
  ·rfl
noncomputable def S.Ur (a0 : V2) (b0 : ByteArray) : Bool :=
 strEq a0.ZJ b0
theorem Zhd (a0 : V2) (b0 : ByteArray) (ha0 : WF a0) (hb0 : b0.size ≤ maxLen) : M.Ur a0 b0 = some (S.Ur a0 b0) := by
 have hM := Zo
 unfold M.Ur S.Ur
 rfl
noncomputable def S.Xr (a0 : List V2) (a1c0 : ByteArray) (i1 : Nat) : Option (Unit ⊕ Int) :=
 letS (S.Ur (a0.getD i1 default) a1c0) (fun r3 => bif r3 then (some (.inr (i1 : Int))) else none)
theorem Uj (a0 : List V2) (a1c0 : ByteArray) (ha0 : LL WF a0) (ha1c0 : a1c0.size ≤ maxLen) (i0 : Nat) : loopM (M.Xr a0 a1c0) (i0 : Int) = some (runN (S.Xr a0 a1c0) (.inl ()) i0 (a0.length - i0)) := by
 have hM := Zo
 have hni1 : a0.length ≤ maxLen := ha0.1
 refine Xa (n := a0.length) (fun i1 hi1 => ?_) (fun m hm => ?_) i0
 ·unfold M.Xr S.Xr
  try simp only [Int.toNat_natCast]
  refine X1 (dt (by omega)) ?_
  refine ZY (Zhd (a0.getD i1 default) a1c0 (LL.getD ha0 WF.dflt i1) ha1c0) (fun r3 her3 => ?_)
  refine Yx (Zw (dt (by omega)) (Zw (dt (by omega)) XR)) ?_
  refine XY (fun hb1 => ?_) (fun hb1 => ?_)
  ·exact XI
  ·exact JO (by omega)
 ·unfold M.Xr
  try simp only [Int.toNat_natCast]
  exact X2 (decide_eq_false (by omega)) rfl
noncomputable def S.Xx (a0 : List V2) (a1c0 : ByteArray) : Int :=
 letS (runN (S.Xr a0 a1c0) (.inl ()) 0 a0.length) (fun y4 => Sum.elim (fun _ => -1) (fun y6 => y6) y4)
theorem UC (a0 : List V2) (a1c0 : ByteArray) (ha0 : LL WF a0) (ha1c0 : a1c0.size ≤ maxLen) : M.Xx a0 a1c0 = some (S.Xx a0 a1c0) := by
 have hM := Zo
 unfold M.Xx S.Xx
 refine Z6 (Uj a0 a1c0 ha0 ha1c0 0) (fun y4 hey4 => ?_)
 refine Qq (fun _ hl => ?_) (fun y6 hly6 => ?_)
 ·rfl
 ·rfl
noncomputable def S.V4 (a0 : Zf) (a1 : ByteArray) : Int :=
 letS (S.Xx a0.Xh a1) (fun r1 => r1)
theorem R4 (a0 : Zf) (a1 : ByteArray) (ha0 : Zj a0) (ha1 : a1.size ≤ maxLen) : M.V4 a0 a1 = some (S.V4 a0 a1) := by
 have hM := Zo
 unfold M.V4 S.V4
 refine Z6 (UC a0.Xh a1 (Zj.Xh ha0) ha1) (fun r1 her1 => ?_)
 rfl
noncomputable def S.Q0 (a0 : Vd) : Bool :=
 ((decide (0 ≤ a0.Gv)) && (decide (a0.Gv ≤ a0.G4))) && (decide (a0.G4 ≤ 65535))
theorem RE (a0 : Vd)  : M.Q0 a0 = some (S.Q0 a0) := by
 have hM := Zo
 unfold M.Q0 S.Q0
 rfl
noncomputable def S.JY (a0 : Ku) : Bool :=
 letS (S.ZZ a0.Yc (-1) 255) (fun r1 => bif ((!r1) || ((bitD .and .u32 a0.KX.Zy a0.KX.U7) != 0)) || ((bitD .and .u32 a0.KY.Zy a0.KY.U7) != 0) then false else (letS (S.Q0 a0.JR) (fun r2 => letS (bif (!(!r2)) then S.Q0 a0.JS else default) (fun r3 => bif (!r2) || (!r3) then false else (((a0.Yc == 6) || (a0.Yc == 17)) || (((a0.JR.Gv == 0) && ((a0.JR.G4 == 65535) && true)) && ((a0.JS.Gv == 0) && ((a0.JS.G4 == 65535) && true))))))))
theorem ZeB (a0 : Ku)  : M.JY a0 = some (S.JY a0) := by
 have hM := Zo
 unfold M.JY S.JY
 refine Z6 (X5 a0.Yc (-1) 255) (fun r1 her1 => ?_)
 refine Jl (fun hb1 => ?_) (fun hb1 => ?_)
 ·rfl
 ·refine Z6 (RE a0.JR) (fun r2 her2 => ?_)
  refine Z6 (JE fun hg => (RE a0.JS)) (fun r3 her3 => ?_)
  refine Jl (fun hb2 => ?_) (fun hb2 => ?_)
  ·rfl
  ·rfl
noncomputable def S.QL (a0 : Zf) (i1 : Nat) (i5 : Nat) : Option (Unit ⊕ Int) :=
 letS (S.JY (((a0.Xh.getD i1 default).Z0).getD i5 default)) (fun r7 => bif !r7 then (some (.inr 1)) else none)
theorem Zcn (a0 : Zf) (i1 : Nat) (ha0 : Zj a0) (hi1 : i1 < a0.Xh.length) (i0 : Nat) : loopM (M.QL a0 (i1 : Int)) (i0 : Int) = some (runN (S.QL a0 i1) (.inl ()) i0 (((a0.Xh.getD i1 default).Z0).length - i0)) := by
 have hM := Zo
 have hni1 : a0.Xh.length ≤ maxLen := (Zj.Xh ha0).1
 have hni5 : ((a0.Xh.getD i1 default).Z0).length ≤ maxLen := (WF.Z0 (LL.getD (Zj.Xh ha0) WF.dflt i1))
 refine Xa (n := ((a0.Xh.getD i1 default).Z0).length) (fun i5 hi5 => ?_) (fun m hm => ?_) i0
 ·unfold M.QL S.QL
  try simp only [Int.toNat_natCast]
  refine X1 (dt (by omega)) ?_
  refine Yx (Zw (dt (by omega)) (Zw (dt (by omega)) XR)) ?_
  refine ZY (ZeB (((a0.Xh.getD i1 default).Z0).getD i5 default)) (fun r7 her7 => ?_)
  refine XY (fun hb3 => ?_) (fun hb3 => ?_)
  ·exact XI
  ·exact JO (by omega)
 ·unfold M.QL
  try simp only [Int.toNat_natCast]
  exact X2 (decide_eq_false (by omega)) rfl
noncomputable def S.Jm (a0 : Zf) (i1 : Nat) : Option (Unit ⊕ Int) :=
 letS (S.V4 a0 ((a0.Xh.getD i1 default).ZJ)) (fun r3 => letS (S.YZ (i1 : Int) r3 ((a0.Xh.getD i1 default).ZJ) (((a0.Xh.getD i1 default).Z0).length : Int) 16) (fun r4 => bif r4 != 0 then (some (.inr r4)) else (letS (runN (S.QL a0 i1) (.inl ()) 0 (((a0.Xh.getD i1 default).Z0).length)) (fun y8 => Sum.elim (fun _ => none) (fun y10 => some (.inr y10)) y8))))
theorem Zco (a0 : Zf) (ha0 : Zj a0) (i0 : Nat) : loopM (M.Jm a0) (i0 : Int) = some (runN (S.Jm a0) (.inl ()) i0 (a0.Xh.length - i0)) := by
 have hM := Zo
 have hni1 : a0.Xh.length ≤ maxLen := (Zj.Xh ha0).1
 refine Xa (n := a0.Xh.length) (fun i1 hi1 => ?_) (fun m hm => ?_) i0
 ·unfold M.Jm S.Jm
  try simp only [Int.toNat_natCast]
  refine X1 (dt (by omega)) ?_
  refine Yx (Zw (dt (by omega)) (Zw (dt (by omega)) XR)) ?_
  refine ZY (R4 a0 ((a0.Xh.getD i1 default).ZJ) ha0 (WF.ZJ (LL.getD (Zj.Xh ha0) WF.dflt i1))) (fun r3 her3 => ?_)
  refine ZY (KF (i1 : Int) r3 ((a0.Xh.getD i1 default).ZJ) (((a0.Xh.getD i1 default).Z0).length : Int) 16 (WF.ZJ (LL.getD (Zj.Xh ha0) WF.dflt i1))) (fun r4 her4 => ?_)
  refine XY (fun hb2 => ?_) (fun hb2 => ?_)
  ·exact XI
  ·refine ZY (Zcn a0 i1 ha0 hi1 0) (fun y8 hey8 => ?_)
   refine J8 (fun _ hl => ?_) (fun y10 hly10 => ?_)
   ·exact JO (by omega)
   ·exact XI
 ·unfold M.Jm
  try simp only [Int.toNat_natCast]
  exact X2 (decide_eq_false (by omega)) rfl
noncomputable def S.JZ (a0 : Zf) : Int :=
 bif decide ((a0.Xh.length : Int) > 8) then 7 else (letS (runN (S.Jm a0) (.inl ()) 0 a0.Xh.length) (fun y11 => Sum.elim (fun _ => 0) (fun y13 => y13) y11))
theorem ZeC (a0 : Zf) (ha0 : Zj a0) : M.JZ a0 = some (S.JZ a0) := by
 have hM := Zo
 unfold M.JZ S.JZ
 refine Jl (fun hb1 => ?_) (fun hb1 => ?_)
 ·rfl
 ·refine Z6 (Zco a0 ha0 0) (fun y11 hey11 => ?_)
  refine Qq (fun _ hl => ?_) (fun y13 hly13 => ?_)
  ·rfl
  ·rfl
noncomputable def S.Y3 (a0 : Y1) : Bool :=
 bif a0.JX == 1 then ((((a0.JX == a0.JX) && ((a0.Qj == a0.Qj) && ((a0.Yv == a0.Yv) && ((a0.Yc == 0) && ((a0.Qp == 0) && ((a0.YO == 0) && (strEq a0.QE (⟨#[]⟩ : ByteArray) && ((a0.Gv == 0) && ((a0.G4 == 0) && true))))))))) && (a0.Qj != 0)) && (a0.Yv != 0)) else (bif a0.JX == 2 then (((((a0.JX == a0.JX) && ((a0.Qj == 0) && ((a0.Yv == 0) && ((a0.Yc == 0) && ((a0.Qp == 0) && ((a0.YO == 0) && (strEq a0.QE a0.QE && ((a0.Gv == a0.Gv) && ((a0.G4 == a0.G4) && true))))))))) && (a0.Gv != 0)) && (decide (a0.Gv ≤ a0.G4))) && (decide ((wr .u32 (a0.G4 - a0.Gv)) < 8))) else (bif a0.JX == 3 then (letS (bif (((a0.Qj != 0) && (a0.Yv != 0)) && ((a0.Yc == 6) || (a0.Yc == 17))) then S.ZZ a0.Qp 0 65535 else default) (fun r1 => letS (bif ((((a0.Qj != 0) && (a0.Yv != 0)) && ((a0.Yc == 6) || (a0.Yc == 17))) && r1) then S.ZZ a0.YO 0 65535 else default) (fun r2 => (((((((a0.Qj != 0) && (a0.Yv != 0)) && ((a0.Yc == 6) || (a0.Yc == 17))) && r1) && r2) && (strEq a0.QE (⟨#[]⟩ : ByteArray))) && (a0.Gv == 0)) && (a0.G4 == 0)))) else false))
theorem Zaf (a0 : Y1) (ha0 : JH a0) : M.Y3 a0 = some (S.Y3 a0) := by
 have hM := Zo
 unfold M.Y3 S.Y3
 refine Jl (fun hb1 => ?_) (fun hb1 => ?_)
 ·rfl
 ·refine Jl (fun hb2 => ?_) (fun hb2 => ?_)
  ·rfl
  ·refine Jl (fun hb3 => ?_) (fun hb3 => ?_)
   ·refine Z6 (JE fun hg => (X5 a0.Qp 0 65535)) (fun r1 her1 => ?_)
    refine Z6 (JE fun hg => (X5 a0.YO 0 65535)) (fun r2 her2 => ?_)
    rfl
   ·rfl
noncomputable def S.JJ (a0 : Zf) (i1 : Nat) : Option (Unit ⊕ Int) :=
 letS (S.Y3 (a0.Xf.getD i1 default)) (fun r3 => bif !r3 then (some (.inr 1)) else (letS (bif (((a0.Xf.getD i1 default).JX) == 2) then S.V4 a0 ((a0.Xf.getD i1 default).QE) else default) (fun r4 => bif (((a0.Xf.getD i1 default).JX) == 2) && (decide (r4 < 0)) then (some (.inr 5)) else none)))
theorem Zc1 (a0 : Zf) (ha0 : Zj a0) (i0 : Nat) : loopM (M.JJ a0) (i0 : Int) = some (runN (S.JJ a0) (.inl ()) i0 (a0.Xf.length - i0)) := by
 have hM := Zo
 have hni1 : a0.Xf.length ≤ maxLen := (Zj.Xf ha0).1
 refine Xa (n := a0.Xf.length) (fun i1 hi1 => ?_) (fun m hm => ?_) i0
 ·unfold M.JJ S.JJ
  try simp only [Int.toNat_natCast]
  refine X1 (dt (by omega)) ?_
  refine Yx (Zw (dt (by omega)) (Zw (dt (by omega)) XR)) ?_
  refine ZY (Zaf (a0.Xf.getD i1 default) (LL.getD (Zj.Xf ha0) JH.dflt i1)) (fun r3 her3 => ?_)
  refine XY (fun hb2 => ?_) (fun hb2 => ?_)
  ·exact XI
  ·refine ZY (JE fun hg => (R4 a0 ((a0.Xf.getD i1 default).QE) ha0 (JH.QE (LL.getD (Zj.Xf ha0) JH.dflt i1)))) (fun r4 her4 => ?_)
   refine XY (fun hb3 => ?_) (fun hb3 => ?_)
   ·exact XI
   ·exact JO (by omega)
 ·unfold M.JJ
  try simp only [Int.toNat_natCast]
  exact X2 (decide_eq_false (by omega)) rfl
noncomputable def S.Vg (a0 : Zf) : Int :=
 bif decide ((a0.Xf.length : Int) > 8) then 7 else (letS (runN (S.JJ a0) (.inl ()) 0 a0.Xf.length) (fun y5 => Sum.elim (fun _ => 0) (fun y7 => y7) y5))
theorem Ze7 (a0 : Zf) (ha0 : Zj a0) : M.Vg a0 = some (S.Vg a0) := by
 have hM := Zo
 unfold M.Vg S.Vg
 refine Jl (fun hb1 => ?_) (fun hb1 => ?_)
 ·rfl
 ·refine Z6 (Zc1 a0 ha0 0) (fun y5 hey5 => ?_)
  refine Qq (fun _ hl => ?_) (fun y7 hly7 => ?_)
  ·rfl
  ·rfl
noncomputable def S.QT (a0 : Zf) (i1 : Nat) : Option (Unit ⊕ Int) :=
 letS (bif (!strEq ((a0.Zc.getD i1 default).Vr) (⟨#[]⟩ : ByteArray)) then S.V4 a0 ((a0.Zc.getD i1 default).Vr) else default) (fun r3 => letS (bif ((!((!strEq ((a0.Zc.getD i1 default).Vr) (⟨#[]⟩ : ByteArray)) && (decide (r3 < 0)))) && (!strEq ((a0.Zc.getD i1 default).YD) (⟨#[]⟩ : ByteArray))) then S.V4 a0 ((a0.Zc.getD i1 default).YD) else default) (fun r4 => bif ((!strEq ((a0.Zc.getD i1 default).Vr) (⟨#[]⟩ : ByteArray)) && (decide (r3 < 0))) || ((!strEq ((a0.Zc.getD i1 default).YD) (⟨#[]⟩ : ByteArray)) && (decide (r4 < 0))) then (some (.inr 5)) else none))
theorem ZaB (a0 : Zf) (ha0 : Zj a0) (i0 : Nat) : loopM (M.QT a0) (i0 : Int) = some (runN (S.QT a0) (.inl ()) i0 (a0.Zc.length - i0)) := by
 have hM := Zo
 have hni1 : a0.Zc.length ≤ maxLen := (Zj.Zc ha0).1
 refine Xa (n := a0.Zc.length) (fun i1 hi1 => ?_) (fun m hm => ?_) i0
 ·unfold M.QT S.QT
  try simp only [Int.toNat_natCast]
  refine X1 (dt (by omega)) ?_
  refine Yx (Zw (dt (by omega)) (Zw (dt (by omega)) XR)) ?_
  refine ZY (JE fun hg => (R4 a0 ((a0.Zc.getD i1 default).Vr) ha0 (Xt.Vr (LL.getD (Zj.Zc ha0) Xt.dflt i1)))) (fun r3 her3 => ?_)
  refine ZY (JE fun hg => (R4 a0 ((a0.Zc.getD i1 default).YD) ha0 (Xt.YD (LL.getD (Zj.Zc ha0) Xt.dflt i1)))) (fun r4 her4 => ?_)
  refine XY (fun hb1 => ?_) (fun hb1 => ?_)
  ·exact XI
  ·exact JO (by omega)
 ·unfold M.QT
  try simp only [Int.toNat_natCast]
  exact X2 (decide_eq_false (by omega)) rfl
noncomputable def S.Jn (a0 : Zf) : Int :=
 letS (runN (S.QT a0) (.inl ()) 0 a0.Zc.length) (fun y5 => Sum.elim (fun _ => 0) (fun y7 => y7) y5)
theorem Zcp (a0 : Zf) (ha0 : Zj a0) : M.Jn a0 = some (S.Jn a0) := by
 have hM := Zo
 unfold M.Jn S.Jn
 refine Z6 (ZaB a0 ha0 0) (fun y5 hey5 => ?_)
 refine Qq (fun _ hl => ?_) (fun y7 hly7 => ?_)
 ·rfl
 ·rfl
noncomputable def S.VS (a0 : ZB) (b0 : Int) : Bool :=
 (a0.ZK != 0) && (a0.Zy == b0)
theorem ZeD (a0 : ZB) (b0 : Int) (ha0 : Xt a0) : M.VS a0 b0 = some (S.VS a0 b0) := by
 have hM := Zo
 unfold M.VS S.VS
 rfl
noncomputable def S.Z2 (a0 : List ZB) (a1c0 : Int) (i1 : Nat) : Option (Unit ⊕ Int) :=
 letS (S.VS (a0.getD i1 default) a1c0) (fun r3 => bif r3 then (some (.inr (i1 : Int))) else none)
theorem VZ (a0 : List ZB) (a1c0 : Int) (ha0 : LL Xt a0) (i0 : Nat) : loopM (M.Z2 a0 a1c0) (i0 : Int) = some (runN (S.Z2 a0 a1c0) (.inl ()) i0 (a0.length - i0)) := by
 have hM := Zo
 have hni1 : a0.length ≤ maxLen := ha0.1
 refine Xa (n := a0.length) (fun i1 hi1 => ?_) (fun m hm => ?_) i0
 ·unfold M.Z2 S.Z2
  try simp only [Int.toNat_natCast]
  refine X1 (dt (by omega)) ?_
  refine ZY (ZeD (a0.getD i1 default) a1c0 (LL.getD ha0 Xt.dflt i1)) (fun r3 her3 => ?_)
  refine Yx (Zw (dt (by omega)) (Zw (dt (by omega)) XR)) ?_
  refine XY (fun hb1 => ?_) (fun hb1 => ?_)
  ·exact XI
  ·exact JO (by omega)
 ·unfold M.Z2
  try simp only [Int.toNat_natCast]
  exact X2 (decide_eq_false (by omega)) rfl
noncomputable def S.Z7 (a0 : List ZB) (a1c0 : Int) : Int :=
 letS (runN (S.Z2 a0 a1c0) (.inl ()) 0 a0.length) (fun y4 => Sum.elim (fun _ => -1) (fun y6 => y6) y4)
theorem Wa (a0 : List ZB) (a1c0 : Int) (ha0 : LL Xt a0) : M.Z7 a0 a1c0 = some (S.Z7 a0 a1c0) := by
 have hM := Zo
 unfold M.Z7 S.Z7
 refine Z6 (VZ a0 a1c0 ha0 0) (fun y4 hey4 => ?_)
 refine Qq (fun _ hl => ?_) (fun y6 hly6 => ?_)
 ·rfl
 ·rfl
noncomputable def S.Vm (a0 : Zf) (a1 : Int) : Int :=
 letS (S.Z7 a0.Zc a1) (fun r1 => r1)
theorem Zbk (a0 : Zf) (a1 : Int) (ha0 : Zj a0) : M.Vm a0 a1 = some (S.Vm a0 a1) := by
 have hM := Zo
 unfold M.Vm S.Vm
 refine Z6 (Wa a0.Zc a1 (Zj.Zc ha0)) (fun r1 her1 => ?_)
 rfl
noncomputable def S.YJ (i1 : Nat) (s1 : Int) (p3 : Int) : Int ⊕ Int :=
 .inl (p3)
theorem KG (i1 : Nat) (s1 : Int) (p3 : Int) (hi1 : i1 < 3) : M.YJ (s1,(i1 : Int)) p3 = some (rdT (fun (i : Nat) (s1 : Int) => (s1,(i : Int))) (S.YJ i1 s1 p3) i1) := by
 have hM := Zo
 have hni1 : 3 ≤ maxLen := (by omega)
 unfold M.YJ S.YJ
 try simp only [Int.toNat_natCast]
 rw [ZlV (by omega)]
 rfl
noncomputable def S.Y7 (a1 : Yk) (i1 : Nat) (s1 : Int) : Int ⊕ Int :=
 bif ([a1.Ve != 0,!strEq a1.Qx (⟨#[]⟩ : ByteArray),a1.Vf] : List Bool).getD i1 default then (S.YJ i1 s1 (wr .i64 (s1 + 1))) else (S.YJ i1 s1 s1)
theorem Za1 (a1 : Yk) (ha1 : Jk a1) (i0 : Nat) (s0 : Int) : loopM (M.Y7 a1) ((fun (i : Nat) (s1 : Int) => (s1,(i : Int))) i0 s0) = some (runT (S.Y7 a1) (fun s1 => s1) i0 (3 - i0) s0) := by
 have hM := Zo
 have hni1 : 3 ≤ maxLen := (by omega)
 refine ZkN (n := 3) (mk := (fun (i : Nat) (s1 : Int) => (s1,(i : Int)))) (fun i1 s1 hi1 => ?_) (fun m s1 hm => ?_) i0 s0
 ·unfold M.Y7 S.Y7
  try simp only [Int.toNat_natCast]
  refine X1 (dt (by omega)) ?_
  refine Yx (Zw (dt (by omega)) (Zw (dt (by simp; omega)) XR)) ?_
  refine ZnZ (fun hb1 => ?_) (fun hb1 => ?_)
  ·exact KG i1 s1 (wr .i64 (s1 + 1)) hi1
  ·exact KG i1 s1 s1 hi1
 ·unfold M.Y7
  try simp only [Int.toNat_natCast]
  exact X2 (decide_eq_false (by omega)) rfl
noncomputable def S.QG (a0 : Zf) (a1 : Yk) : Bool :=
 letS (runT (S.Y7 a1) (fun s1 => s1) 0 3 (0)) (fun y4 => letS (S.QZ a1.Zp) (fun r5 => letS (bif ((r5 && (y4 == 1)) && !(a1.Ve == 0)) then S.Vm a0 a1.Ve else default) (fun r6 => letS (bif ((r5 && (y4 == 1)) && ((a1.Ve == 0) || (decide (r6 < 0)))) then S.ZZ a1.Xd 1 255 else default) (fun r7 => letS (bif (((r5 && (y4 == 1)) && ((a1.Ve == 0) || (decide (r6 < 0)))) && r7) then S.ZZ a1.UK 0 65535 else default) (fun r8 => (((r5 && (y4 == 1)) && ((a1.Ve == 0) || (decide (r6 < 0)))) && r7) && r8)))))
theorem Zc2 (a0 : Zf) (a1 : Yk) (ha0 : Zj a0) (ha1 : Jk a1) : M.QG a0 a1 = some (S.QG a0 a1) := by
 have hM := Zo
 unfold M.QG S.QG
 refine Z6 (Za1 a1 ha1 0 (0)) (fun y4 hey4 => ?_)
 refine Z6 (Gh a1.Zp) (fun r5 her5 => ?_)
 refine Z6 (JE fun hg => (Zbk a0 a1.Ve ha0)) (fun r6 her6 => ?_)
 refine Z6 (JE fun hg => (X5 a1.Xd 1 255)) (fun r7 her7 => ?_)
 refine Z6 (JE fun hg => (X5 a1.UK 0 65535)) (fun r8 her8 => ?_)
 rfl
noncomputable def S.YR (a0 : Zf) (i1 : Nat) (i5 : Nat) : Option (Unit ⊕ Int) :=
 bif (((((((a0.Zr.drop 0).take (i1 - 0)).getD i5 default).Zp).Zy) == (((a0.Zr.getD i1 default).Zp).Zy)) && (((((((a0.Zr.drop 0).take (i1 - 0)).getD i5 default).Zp).ZK) == (((a0.Zr.getD i1 default).Zp).ZK)) && true)) && (((((a0.Zr.drop 0).take (i1 - 0)).getD i5 default).Xd) == ((a0.Zr.getD i1 default).Xd)) then (some (.inr 6)) else none
theorem ZaC (a0 : Zf) (i1 : Nat) (ha0 : Zj a0) (hi1 : i1 < a0.Zr.length) (i0 : Nat) : loopM (M.YR a0 (i1 : Int)) (i0 : Int) = some (runN (S.YR a0 i1) (.inl ()) i0 (i1 - i0)) := by
 have hM := Zo
 have hni1 : a0.Zr.length ≤ maxLen := (Zj.Zr ha0).1
 have hni5 : i1 ≤ maxLen := (by omega)
 refine Xa (n := i1) (fun i5 hi5 => ?_) (fun m hm => ?_) i0
 ·unfold M.YR S.YR
  try simp only [Int.toNat_natCast]
  refine X1 (dt (by omega)) ?_
  refine Yx (Zw (dt (by omega)) (Zw (dt (by simp; omega)) XR)) ?_
  refine XY (fun hb6 => ?_) (fun hb6 => ?_)
  ·exact XI
  ·exact JO (by omega)
 ·unfold M.YR
  try simp only [Int.toNat_natCast]
  exact X2 (decide_eq_false (by omega)) rfl
noncomputable def S.YE (a0 : Zf) (i1 : Nat) (_p4 : Unit) : Option (Unit ⊕ Int) :=
 letS (runN (S.YR a0 i1) (.inl ()) 0 i1) (fun y7 => Sum.elim (fun _ => none) (fun y9 => some (.inr y9)) y7)
theorem Kh (a0 : Zf) (i1 : Nat) (_p4 : Unit) (ha0 : Zj a0) (hi1 : i1 < a0.Zr.length) : M.YE a0 (i1 : Int) _p4 = some (rdN (S.YE a0 i1 _p4) i1) := by
 have hM := Zo
 have hni1 : a0.Zr.length ≤ maxLen := (Zj.Zr ha0).1
 unfold M.YE S.YE
 try simp only [Int.toNat_natCast]
 refine Yx (Zw (dt (by omega)) (Zw (dt (by omega)) XR)) ?_
 refine ZY (ZaC a0 i1 ha0 hi1 0) (fun y7 hey7 => ?_)
 refine J8 (fun _ hl => ?_) (fun y9 hly9 => ?_)
 ·exact JO (by omega)
 ·exact XI
noncomputable def S.Qm (a0 : Zf) (i1 : Nat) : Option (Unit ⊕ Int) :=
 letS (S.QG a0 (a0.Zr.getD i1 default)) (fun r3 => bif !r3 then (some (.inr 1)) else (bif !strEq ((a0.Zr.getD i1 default).Qx) (⟨#[]⟩ : ByteArray) then (letS (S.Qn a0 ((a0.Zr.getD i1 default).Qx)) (fun r10 => bif decide (r10 < 0) then (some (.inr 5)) else (bif ((a0.Zc.getD r10.toNat default).ZK) == 0 then (some (.inr 1)) else (S.YE a0 i1 ())))) else (S.YE a0 i1 ())))
theorem ZaD (a0 : Zf) (ha0 : Zj a0) (i0 : Nat) : loopM (M.Qm a0) (i0 : Int) = some (runN (S.Qm a0) (.inl ()) i0 (a0.Zr.length - i0)) := by
 have hM := Zo
 have hni1 : a0.Zr.length ≤ maxLen := (Zj.Zr ha0).1
 refine Xa (n := a0.Zr.length) (fun i1 hi1 => ?_) (fun m hm => ?_) i0
 ·unfold M.Qm S.Qm
  try simp only [Int.toNat_natCast]
  refine X1 (dt (by omega)) ?_
  refine Yx (Zw (dt (by omega)) (Zw (dt (by omega)) XR)) ?_
  refine ZY (Zc2 a0 (a0.Zr.getD i1 default) ha0 (LL.getD (Zj.Zr ha0) Jk.dflt i1)) (fun r3 her3 => ?_)
  refine XY (fun hb2 => ?_) (fun hb2 => ?_)
  ·exact XI
  ·refine XY (fun hb3 => ?_) (fun hb3 => ?_)
   ·refine ZY (R3 a0 ((a0.Zr.getD i1 default).Qx) ha0 (Jk.Qx (LL.getD (Zj.Zr ha0) Jk.dflt i1))) (fun r10 her10 => ?_)
    have hrr10 := K8 a0 ((a0.Zr.getD i1 default).Qx)
    refine XY (fun hb4 => ?_) (fun hb4 => ?_)
    ·exact XI
    ·refine Yx (Zw (dt (by first | omega | (simp; omega) | (simp at *; omega))) (Zw (dt (by first | omega | (simp; omega) | (simp at *; omega))) XR)) ?_
     refine XY (fun hb5 => ?_) (fun hb5 => ?_)
     ·exact XI
     ·exact Kh a0 i1 () ha0 hi1
   ·exact Kh a0 i1 () ha0 hi1
 ·unfold M.Qm
  try simp only [Int.toNat_natCast]
  exact X2 (decide_eq_false (by omega)) rfl
noncomputable def S.QM (a0 : Zf) : Int :=
 bif decide ((a0.Zr.length : Int) > 16) then 7 else (letS (runN (S.Qm a0) (.inl ()) 0 a0.Zr.length) (fun y11 => Sum.elim (fun _ => 0) (fun y13 => y13) y11))
theorem Zcq (a0 : Zf) (ha0 : Zj a0) : M.QM a0 = some (S.QM a0) := by
 have hM := Zo
 unfold M.QM S.QM
 refine Jl (fun hb1 => ?_) (fun hb1 => ?_)
 ·rfl
 ·refine Z6 (ZaD a0 ha0 0) (fun y11 hey11 => ?_)
  refine Qq (fun _ hl => ?_) (fun y13 hly13 => ?_)
  ·rfl
  ·rfl
noncomputable def S.Y8 (a1 : List Yi) (i1 : Nat) (i8 : Nat) : Option (Unit ⊕ Int) :=
 bif ((((a1.drop 0).take (i1 - 0)).getD i8 default).WT) == ((a1.getD i1 default).WT) then (some (.inr 4)) else none
theorem Za2 (a1 : List Yi) (i1 : Nat) (ha1 : LL J7 a1) (hi1 : i1 < a1.length) (i0 : Nat) : loopM (M.Y8 a1 (i1 : Int)) (i0 : Int) = some (runN (S.Y8 a1 i1) (.inl ()) i0 (i1 - i0)) := by
 have hM := Zo
 have hni1 : a1.length ≤ maxLen := ha1.1
 have hni8 : i1 ≤ maxLen := (by omega)
 refine Xa (n := i1) (fun i8 hi8 => ?_) (fun m hm => ?_) i0
 ·unfold M.Y8 S.Y8
  try simp only [Int.toNat_natCast]
  refine X1 (dt (by omega)) ?_
  refine Yx (Zw (dt (by omega)) (Zw (dt (by simp; omega)) XR)) ?_
  refine XY (fun hb4 => ?_) (fun hb4 => ?_)
  ·exact XI
  ·exact JO (by omega)
 ·unfold M.Y8
  try simp only [Int.toNat_natCast]
  exact X2 (decide_eq_false (by omega)) rfl
noncomputable def S.Qz (a0 : Zf) (a1 : List Yi) (a2 : Int) (a3 : Int) (a4 : Int) (a5 : Int) (i1 : Nat) : Option (Unit ⊕ Int) :=
 letS (S.ZZ ((a1.getD i1 default).WT) 1 5) (fun r3 => letS (bif (!((!r3) || (((a1.getD i1 default).WT) == a2))) then S.ZZ ((a1.getD i1 default).Kv) a3 a4 else default) (fun r4 => letS (bif (!(((!r3) || (((a1.getD i1 default).WT) == a2)) || (!r4))) then S.ZZ ((a1.getD i1 default).UK) 0 65535 else default) (fun r5 => letS (bif (!((((!r3) || (((a1.getD i1 default).WT) == a2)) || (!r4)) || (!r5))) then S.ZZ ((a1.getD i1 default).Ke) (if a5 < 1 then a5 else 1) a5 else default) (fun r6 => bif ((((!r3) || (((a1.getD i1 default).WT) == a2)) || (!r4)) || (!r5)) || (!r6) then (some (.inr 1)) else (letS (bif (!strEq ((a1.getD i1 default).Rs) (⟨#[]⟩ : ByteArray)) then S.Y5 a0 ((a1.getD i1 default).Rs) else default) (fun r7 => bif (!strEq ((a1.getD i1 default).Rs) (⟨#[]⟩ : ByteArray)) && (decide (r7 < 0)) then (some (.inr 5)) else (letS (runN (S.Y8 a1 i1) (.inl ()) 0 i1) (fun y10 => Sum.elim (fun _ => none) (fun y12 => some (.inr y12)) y10))))))))
theorem Za3 (a0 : Zf) (a1 : List Yi) (a2 : Int) (a3 : Int) (a4 : Int) (a5 : Int) (ha0 : Zj a0) (ha1 : LL J7 a1) (i0 : Nat) : loopM (M.Qz a0 a1 a2 a3 a4 a5) (i0 : Int) = some (runN (S.Qz a0 a1 a2 a3 a4 a5) (.inl ()) i0 (a1.length - i0)) := by
 have hM := Zo
 have hni1 : a1.length ≤ maxLen := ha1.1
 refine Xa (n := a1.length) (fun i1 hi1 => ?_) (fun m hm => ?_) i0
 ·unfold M.Qz S.Qz
  try simp only [Int.toNat_natCast]
  refine X1 (dt (by omega)) ?_
  refine Yx (Zw (dt (by omega)) (Zw (dt (by omega)) XR)) ?_
  refine ZY (X5 ((a1.getD i1 default).WT) 1 5) (fun r3 her3 => ?_)
  refine ZY (JE fun hg => (X5 ((a1.getD i1 default).Kv) a3 a4)) (fun r4 her4 => ?_)
  refine ZY (JE fun hg => (X5 ((a1.getD i1 default).UK) 0 65535)) (fun r5 her5 => ?_)
  refine ZY (JE fun hg => (X5 ((a1.getD i1 default).Ke) (if a5 < 1 then a5 else 1) a5)) (fun r6 her6 => ?_)
  refine XY (fun hb2 => ?_) (fun hb2 => ?_)
  ·exact XI
  ·refine ZY (JE fun hg => (GW a0 ((a1.getD i1 default).Rs) ha0 (J7.Rs (LL.getD ha1 J7.dflt i1)))) (fun r7 her7 => ?_)
   refine XY (fun hb3 => ?_) (fun hb3 => ?_)
   ·exact XI
   ·refine Yx (Zw (dt (by omega)) (Zw (dt (by omega)) XR)) ?_
    refine ZY (Za2 a1 i1 ha1 hi1 0) (fun y10 hey10 => ?_)
    refine J8 (fun _ hl => ?_) (fun y12 hly12 => ?_)
    ·exact JO (by omega)
    ·exact XI
 ·unfold M.Qz
  try simp only [Int.toNat_natCast]
  exact X2 (decide_eq_false (by omega)) rfl
noncomputable def S.YI (a0 : Zf) (a1 : List Yi) (a2 : Int) (a3 : Int) (a4 : Int) (a5 : Int) : Int :=
 bif decide ((a1.length : Int) > 4) then 7 else (letS (runN (S.Qz a0 a1 a2 a3 a4 a5) (.inl ()) 0 a1.length) (fun y13 => Sum.elim (fun _ => 0) (fun y15 => y15) y13))
theorem G1 (a0 : Zf) (a1 : List Yi) (a2 : Int) (a3 : Int) (a4 : Int) (a5 : Int) (ha0 : Zj a0) (ha1 : LL J7 a1) : M.YI a0 a1 a2 a3 a4 a5 = some (S.YI a0 a1 a2 a3 a4 a5) := by
 have hM := Zo
 unfold M.YI S.YI
 refine Jl (fun hb1 => ?_) (fun hb1 => ?_)
 ·rfl
 ·refine Z6 (Za3 a0 a1 a2 a3 a4 a5 ha0 ha1 0) (fun y13 hey13 => ?_)
  refine Qq (fun _ hl => ?_) (fun y15 hly15 => ?_)
  ·rfl
  ·rfl
noncomputable def S.YA (a0 : Zf) (i2 : Nat) (i6 : Nat) : Option (Unit ⊕ Int) :=
 letS (bif (((((a0.X0.ZE.drop 0).take (i2 - 0)).getD i6 default).JW) == ((a0.X0.ZE.getD i2 default).JW)) then S.Vl ((((a0.X0.ZE.drop 0).take (i2 - 0)).getD i6 default).Zp) ((a0.X0.ZE.getD i2 default).Zp) else default) (fun r8 => bif (((((a0.X0.ZE.drop 0).take (i2 - 0)).getD i6 default).JW) == ((a0.X0.ZE.getD i2 default).JW)) && r8 then (some (.inr 6)) else none)
theorem RM (a0 : Zf) (i2 : Nat) (ha0 : Zj a0) (hi2 : i2 < a0.X0.ZE.length) (i0 : Nat) : loopM (M.YA a0 (i2 : Int)) (i0 : Int) = some (runN (S.YA a0 i2) (.inl ()) i0 (i2 - i0)) := by
 have hM := Zo
 have hni2 : a0.X0.ZE.length ≤ maxLen := (Ju.ZE (Zj.X0 ha0))
 have hni6 : i2 ≤ maxLen := (by omega)
 refine Xa (n := i2) (fun i6 hi6 => ?_) (fun m hm => ?_) i0
 ·unfold M.YA S.YA
  try simp only [Int.toNat_natCast]
  refine X1 (dt (by omega)) ?_
  refine Yx (Zw (dt (by omega)) (Zw (dt (by simp; omega)) XR)) ?_
  refine ZY (JE fun hg => (Zbj ((((a0.X0.ZE.drop 0).take (i2 - 0)).getD i6 default).Zp) ((a0.X0.ZE.getD i2 default).Zp))) (fun r8 her8 => ?_)
  refine XY (fun hb6 => ?_) (fun hb6 => ?_)
  ·exact XI
  ·exact JO (by omega)
 ·unfold M.YA
  try simp only [Int.toNat_natCast]
  exact X2 (decide_eq_false (by omega)) rfl
noncomputable def S.YL (a0 : Zf) (i2 : Nat) : Option (Unit ⊕ Int) :=
 letS (S.ZZ ((a0.X0.ZE.getD i2 default).JW) 0 255) (fun r4 => letS (bif (!(!r4)) then S.QZ ((a0.X0.ZE.getD i2 default).Zp) else default) (fun r5 => bif (!r4) || (!r5) then (some (.inr 1)) else (letS (runN (S.YA a0 i2) (.inl ()) 0 i2) (fun y9 => Sum.elim (fun _ => none) (fun y11 => some (.inr y11)) y9))))
theorem RN (a0 : Zf) (ha0 : Zj a0) (i0 : Nat) : loopM (M.YL a0) (i0 : Int) = some (runN (S.YL a0) (.inl ()) i0 (a0.X0.ZE.length - i0)) := by
 have hM := Zo
 have hni2 : a0.X0.ZE.length ≤ maxLen := (Ju.ZE (Zj.X0 ha0))
 refine Xa (n := a0.X0.ZE.length) (fun i2 hi2 => ?_) (fun m hm => ?_) i0
 ·unfold M.YL S.YL
  try simp only [Int.toNat_natCast]
  refine X1 (dt (by omega)) ?_
  refine Yx (Zw (dt (by omega)) (Zw (dt (by omega)) XR)) ?_
  refine ZY (X5 ((a0.X0.ZE.getD i2 default).JW) 0 255) (fun r4 her4 => ?_)
  refine ZY (JE fun hg => (Gh ((a0.X0.ZE.getD i2 default).Zp))) (fun r5 her5 => ?_)
  refine XY (fun hb5 => ?_) (fun hb5 => ?_)
  ·exact XI
  ·refine Yx (Zw (dt (by omega)) (Zw (dt (by omega)) XR)) ?_
   refine ZY (RM a0 i2 ha0 hi2 0) (fun y9 hey9 => ?_)
   refine J8 (fun _ hl => ?_) (fun y11 hly11 => ?_)
   ·exact JO (by omega)
   ·exact XI
 ·unfold M.YL
  try simp only [Int.toNat_natCast]
  exact X2 (decide_eq_false (by omega)) rfl
noncomputable def S.Y9 (a0 : Zf) : Int :=
 bif !a0.X0.Va then (bif ((a0.X0.Xd != 0) || (decide ((a0.X0.ZE.length : Int) > 0))) || (decide ((a0.X0.Zs.length : Int) > 0)) then 1 else 0) else (letS (S.ZZ a0.X0.Xd 1 255) (fun r1 => bif !r1 then 1 else (bif decide ((a0.X0.ZE.length : Int) > 4) then 7 else (letS (runN (S.YL a0) (.inl ()) 0 a0.X0.ZE.length) (fun y12 => Sum.elim (fun _ => letS (S.YI a0 a0.X0.Zs 3 0 16777215 2) (fun r15 => r15)) (fun y14 => y14) y12)))))
theorem Za4 (a0 : Zf) (ha0 : Zj a0) : M.Y9 a0 = some (S.Y9 a0) := by
 have hM := Zo
 unfold M.Y9 S.Y9
 refine Jl (fun hb1 => ?_) (fun hb1 => ?_)
 ·refine Jl (fun hb2 => ?_) (fun hb2 => ?_)
  ·rfl
  ·rfl
 ·refine Z6 (X5 a0.X0.Xd 1 255) (fun r1 her1 => ?_)
  refine Jl (fun hb3 => ?_) (fun hb3 => ?_)
  ·rfl
  ·refine Jl (fun hb4 => ?_) (fun hb4 => ?_)
   ·rfl
   ·refine Z6 (RN a0 ha0 0) (fun y12 hey12 => ?_)
    refine Qq (fun _ hl => ?_) (fun y14 hly14 => ?_)
    ·refine Z6 (G1 a0 a0.X0.Zs 3 0 16777215 2 ha0 (Ju.Zs (Zj.X0 ha0))) (fun r15 her15 => ?_)
     rfl
    ·rfl
noncomputable def S.Yn (a0 : Zf) : Int :=
 bif !a0.Ya.Va then (bif (((a0.Ya.Xd != 0) || (!strEq a0.Ya.Vr (⟨#[]⟩ : ByteArray))) || (!strEq a0.Ya.YD (⟨#[]⟩ : ByteArray))) || (decide ((a0.Ya.Zs.length : Int) > 0)) then 1 else 0) else (letS (S.ZZ a0.Ya.Xd 1 255) (fun r1 => bif !r1 then 1 else (letS (bif (!strEq a0.Ya.Vr (⟨#[]⟩ : ByteArray)) then S.Yy a0 a0.Ya.Vr else default) (fun r2 => letS (bif ((!((!strEq a0.Ya.Vr (⟨#[]⟩ : ByteArray)) && (decide (r2 < 0)))) && (!strEq a0.Ya.YD (⟨#[]⟩ : ByteArray))) then S.Yy a0 a0.Ya.YD else default) (fun r3 => bif ((!strEq a0.Ya.Vr (⟨#[]⟩ : ByteArray)) && (decide (r2 < 0))) || ((!strEq a0.Ya.YD (⟨#[]⟩ : ByteArray)) && (decide (r3 < 0))) then 5 else (letS (S.YI a0 a0.Ya.Zs 4 1 15 0) (fun r4 => r4)))))))
theorem Rj (a0 : Zf) (ha0 : Zj a0) : M.Yn a0 = some (S.Yn a0) := by
 have hM := Zo
 unfold M.Yn S.Yn
 refine Jl (fun hb1 => ?_) (fun hb1 => ?_)
 ·refine Jl (fun hb2 => ?_) (fun hb2 => ?_)
  ·rfl
  ·rfl
 ·refine Z6 (X5 a0.Ya.Xd 1 255) (fun r1 her1 => ?_)
  refine Jl (fun hb3 => ?_) (fun hb3 => ?_)
  ·rfl
  ·refine Z6 (JE fun hg => (Gg a0 a0.Ya.Vr ha0 (Yj.Vr (Zj.Ya ha0)))) (fun r2 her2 => ?_)
   refine Z6 (JE fun hg => (Gg a0 a0.Ya.YD ha0 (Yj.YD (Zj.Ya ha0)))) (fun r3 her3 => ?_)
   refine Jl (fun hb4 => ?_) (fun hb4 => ?_)
   ·rfl
   ·refine Z6 (G1 a0 a0.Ya.Zs 4 1 15 0 ha0 (Yj.Zs (Zj.Ya ha0))) (fun r4 her4 => ?_)
    rfl
noncomputable def S.YB (a0 : Zf) (i1 : Nat) (i6 : Nat) : Option (Unit ⊕ Int) :=
 bif ((((a0.ZW.Zk.drop 0).take (i1 - 0)).getD i6 default).Zy) == ((a0.ZW.Zk.getD i1 default).Zy) then (some (.inr 4)) else none
theorem RO (a0 : Zf) (i1 : Nat) (ha0 : Zj a0) (hi1 : i1 < a0.ZW.Zk.length) (i0 : Nat) : loopM (M.YB a0 (i1 : Int)) (i0 : Int) = some (runN (S.YB a0 i1) (.inl ()) i0 (i1 - i0)) := by
 have hM := Zo
 have hni1 : a0.ZW.Zk.length ≤ maxLen := (Xb.Zk (Zj.ZW ha0)).1
 have hni6 : i1 ≤ maxLen := (by omega)
 refine Xa (n := i1) (fun i6 hi6 => ?_) (fun m hm => ?_) i0
 ·unfold M.YB S.YB
  try simp only [Int.toNat_natCast]
  refine X1 (dt (by omega)) ?_
  refine Yx (Zw (dt (by omega)) (Zw (dt (by simp; omega)) XR)) ?_
  refine XY (fun hb4 => ?_) (fun hb4 => ?_)
  ·exact XI
  ·exact JO (by omega)
 ·unfold M.YB
  try simp only [Int.toNat_natCast]
  exact X2 (decide_eq_false (by omega)) rfl
noncomputable def S.YM (a0 : Zf) (i1 : Nat) : Option (Unit ⊕ Int) :=
 letS (bif (!(((a0.ZW.Zk.getD i1 default).Zy) == 0)) then S.ZZ ((a0.ZW.Zk.getD i1 default).GA) 1 65535 else default) (fun r3 => bif (((a0.ZW.Zk.getD i1 default).Zy) == 0) || (!r3) then (some (.inr 1)) else (letS (bif (!strEq ((a0.ZW.Zk.getD i1 default).Vr) (⟨#[]⟩ : ByteArray)) then S.Y5 a0 ((a0.ZW.Zk.getD i1 default).Vr) else default) (fun r4 => letS (bif ((!((!strEq ((a0.ZW.Zk.getD i1 default).Vr) (⟨#[]⟩ : ByteArray)) && (decide (r4 < 0)))) && (!strEq ((a0.ZW.Zk.getD i1 default).YD) (⟨#[]⟩ : ByteArray))) then S.Y5 a0 ((a0.ZW.Zk.getD i1 default).YD) else default) (fun r5 => bif ((!strEq ((a0.ZW.Zk.getD i1 default).Vr) (⟨#[]⟩ : ByteArray)) && (decide (r4 < 0))) || ((!strEq ((a0.ZW.Zk.getD i1 default).YD) (⟨#[]⟩ : ByteArray)) && (decide (r5 < 0))) then (some (.inr 5)) else (letS (runN (S.YB a0 i1) (.inl ()) 0 i1) (fun y8 => Sum.elim (fun _ => none) (fun y10 => some (.inr y10)) y8))))))
theorem RP (a0 : Zf) (ha0 : Zj a0) (i0 : Nat) : loopM (M.YM a0) (i0 : Int) = some (runN (S.YM a0) (.inl ()) i0 (a0.ZW.Zk.length - i0)) := by
 have hM := Zo
 have hni1 : a0.ZW.Zk.length ≤ maxLen := (Xb.Zk (Zj.ZW ha0)).1
 refine Xa (n := a0.ZW.Zk.length) (fun i1 hi1 => ?_) (fun m hm => ?_) i0
 ·unfold M.YM S.YM
  try simp only [Int.toNat_natCast]
  refine X1 (dt (by omega)) ?_
  refine Yx (Zw (dt (by omega)) (Zw (dt (by omega)) XR)) ?_
  refine ZY (JE fun hg => (X5 ((a0.ZW.Zk.getD i1 default).GA) 1 65535)) (fun r3 her3 => ?_)
  refine XY (fun hb2 => ?_) (fun hb2 => ?_)
  ·exact XI
  ·refine ZY (JE fun hg => (GW a0 ((a0.ZW.Zk.getD i1 default).Vr) ha0 (JP.Vr (LL.getD (Xb.Zk (Zj.ZW ha0)) JP.dflt i1)))) (fun r4 her4 => ?_)
   refine ZY (JE fun hg => (GW a0 ((a0.ZW.Zk.getD i1 default).YD) ha0 (JP.YD (LL.getD (Xb.Zk (Zj.ZW ha0)) JP.dflt i1)))) (fun r5 her5 => ?_)
   refine XY (fun hb3 => ?_) (fun hb3 => ?_)
   ·exact XI
   ·refine Yx (Zw (dt (by omega)) (Zw (dt (by omega)) XR)) ?_
    refine ZY (RO a0 i1 ha0 hi1 0) (fun y8 hey8 => ?_)
    refine J8 (fun _ hl => ?_) (fun y10 hly10 => ?_)
    ·exact JO (by omega)
    ·exact XI
 ·unfold M.YM
  try simp only [Int.toNat_natCast]
  exact X2 (decide_eq_false (by omega)) rfl
noncomputable def S.Qa (a0 : Zf) : Int :=
 bif decide ((a0.ZW.Zk.length : Int) > 8) then 7 else (letS (runN (S.YM a0) (.inl ()) 0 a0.ZW.Zk.length) (fun y11 => Sum.elim (fun _ => 0) (fun y13 => y13) y11))
theorem Za5 (a0 : Zf) (ha0 : Zj a0) : M.Qa a0 = some (S.Qa a0) := by
 have hM := Zo
 unfold M.Qa S.Qa
 refine Jl (fun hb1 => ?_) (fun hb1 => ?_)
 ·rfl
 ·refine Z6 (RP a0 ha0 0) (fun y11 hey11 => ?_)
  refine Qq (fun _ hl => ?_) (fun y13 hly13 => ?_)
  ·rfl
  ·rfl
noncomputable def S.XX (a0 : List ZS) (a1 : ZS) (i1 : Nat) : Option (Unit ⊕ Int) :=
 bif ((a1.Zy == ((a0.getD i1 default).Zy)) && ((a1.ZK == ((a0.getD i1 default).ZK)) && true)) then (some (.inr (i1 : Int))) else none
theorem Gy (a0 : List ZS) (a1 : ZS) (ha0 : a0.length ≤ maxLen) (i0 : Nat) : loopM (M.XX a0 a1) (i0 : Int) = some (runN (S.XX a0 a1) (.inl ()) i0 (a0.length - i0)) := by
 have hM := Zo
 have hni1 : a0.length ≤ maxLen := ha0
 refine Xa (n := a0.length) (fun i1 hi1 => ?_) (fun m hm => ?_) i0
 ·unfold M.XX S.XX
  try simp only [Int.toNat_natCast]
  refine X1 (dt (by omega)) ?_
  refine Yx (Zw (dt (by omega)) (Zw (dt (by omega)) XR)) ?_
  refine XY (fun hb1 => ?_) (fun hb1 => ?_)
  ·exact XI
  ·exact JO (by omega)
 ·unfold M.XX
  try simp only [Int.toNat_natCast]
  exact X2 (decide_eq_false (by omega)) rfl
noncomputable def S.XS (a0 : List ZS) (a1 : ZS) : Int :=
 letS (runN (S.XX a0 a1) (.inl ()) 0 a0.length) (fun y3 => Sum.elim (fun _ => -1) (fun y5 => y5) y3)
theorem G2 (a0 : List ZS) (a1 : ZS) (ha0 : a0.length ≤ maxLen) : M.XS a0 a1 = some (S.XS a0 a1) := by
 have hM := Zo
 unfold M.XS S.XS
 refine Z6 (Gy a0 a1 ha0 0) (fun y3 hey3 => ?_)
 refine Qq (fun _ hl => ?_) (fun y5 hly5 => ?_)
 ·rfl
 ·rfl
noncomputable def S.Xz (a0 : List ZS) (a1 : ZS) : Bool :=
 letS (S.XS a0 a1) (fun r1 => decide (r1 ≥ 0))
theorem Gz (a0 : List ZS) (a1 : ZS) (ha0 : a0.length ≤ maxLen) : M.Xz a0 a1 = some (S.Xz a0 a1) := by
 have hM := Zo
 unfold M.Xz S.Xz
 refine Z6 (G2 a0 a1 ha0) (fun r1 her1 => ?_)
 rfl
noncomputable def S.YS (a0 : Xg) (i1 : Nat) : Option (Unit ⊕ Int) :=
 letS (S.QZ (a0.Zt.getD i1 default)) (fun r3 => bif !r3 then (some (.inr 1)) else (letS (S.Xz ((a0.Zt.drop 0).take (i1 - 0)) (a0.Zt.getD i1 default)) (fun r4 => bif r4 then (some (.inr 4)) else none)))
theorem ZaE (a0 : Xg) (ha0 : Xb a0) (i0 : Nat) : loopM (M.YS a0) (i0 : Int) = some (runN (S.YS a0) (.inl ()) i0 (a0.Zt.length - i0)) := by
 have hM := Zo
 have hni1 : a0.Zt.length ≤ maxLen := (Xb.Zt ha0)
 refine Xa (n := a0.Zt.length) (fun i1 hi1 => ?_) (fun m hm => ?_) i0
 ·unfold M.YS S.YS
  try simp only [Int.toNat_natCast]
  refine X1 (dt (by omega)) ?_
  refine Yx (Zw (dt (by omega)) (Zw (dt (by omega)) XR)) ?_
  refine ZY (Gh (a0.Zt.getD i1 default)) (fun r3 her3 => ?_)
  refine XY (fun hb2 => ?_) (fun hb2 => ?_)
  ·exact XI
  ·refine ZY (Gz ((a0.Zt.drop 0).take (i1 - 0)) (a0.Zt.getD i1 default) (ZlW (ZlX (Xb.Zt ha0)))) (fun r4 her4 => ?_)
   refine Yx (Zw (dt (by omega)) (Zw (dt (by omega)) XR)) ?_
   refine XY (fun hb3 => ?_) (fun hb3 => ?_)
   ·exact XI
   ·exact JO (by omega)
 ·unfold M.YS
  try simp only [Int.toNat_natCast]
  exact X2 (decide_eq_false (by omega)) rfl
noncomputable def S.YT (a0 : Xg) (i8 : Nat) (i11 : Nat) : Option (Unit ⊕ Int) :=
 bif (((((((a0.Zq.drop 0).take (i8 - 0)).getD i11 default).Zp).Zy) == (((a0.Zq.getD i8 default).Zp).Zy)) && (((((((a0.Zq.drop 0).take (i8 - 0)).getD i11 default).Zp).ZK) == (((a0.Zq.getD i8 default).Zp).ZK)) && true)) then (some (.inr 4)) else none
theorem ZaF (a0 : Xg) (i8 : Nat) (ha0 : Xb a0) (hi8 : i8 < a0.Zq.length) (i0 : Nat) : loopM (M.YT a0 (i8 : Int)) (i0 : Int) = some (runN (S.YT a0 i8) (.inl ()) i0 (i8 - i0)) := by
 have hM := Zo
 have hni8 : a0.Zq.length ≤ maxLen := (Xb.Zq ha0)
 have hni11 : i8 ≤ maxLen := (by omega)
 refine Xa (n := i8) (fun i11 hi11 => ?_) (fun m hm => ?_) i0
 ·unfold M.YT S.YT
  try simp only [Int.toNat_natCast]
  refine X1 (dt (by omega)) ?_
  refine Yx (Zw (dt (by omega)) (Zw (dt (by simp; omega)) XR)) ?_
  refine XY (fun hb6 => ?_) (fun hb6 => ?_)
  ·exact XI
  ·exact JO (by omega)
 ·unfold M.YT
  try simp only [Int.toNat_natCast]
  exact X2 (decide_eq_false (by omega)) rfl
noncomputable def S.YU (a0 : Xg) (i8 : Nat) : Option (Unit ⊕ Int) :=
 letS (S.QZ ((a0.Zq.getD i8 default).Zp)) (fun r10 => bif !r10 then (some (.inr 1)) else (letS (runN (S.YT a0 i8) (.inl ()) 0 i8) (fun y13 => Sum.elim (fun _ => none) (fun y15 => some (.inr y15)) y13)))
theorem ZaG (a0 : Xg) (ha0 : Xb a0) (i0 : Nat) : loopM (M.YU a0) (i0 : Int) = some (runN (S.YU a0) (.inl ()) i0 (a0.Zq.length - i0)) := by
 have hM := Zo
 have hni8 : a0.Zq.length ≤ maxLen := (Xb.Zq ha0)
 refine Xa (n := a0.Zq.length) (fun i8 hi8 => ?_) (fun m hm => ?_) i0
 ·unfold M.YU S.YU
  try simp only [Int.toNat_natCast]
  refine X1 (dt (by omega)) ?_
  refine Yx (Zw (dt (by omega)) (Zw (dt (by omega)) XR)) ?_
  refine ZY (Gh ((a0.Zq.getD i8 default).Zp)) (fun r10 her10 => ?_)
  refine XY (fun hb5 => ?_) (fun hb5 => ?_)
  ·exact XI
  ·refine Yx (Zw (dt (by omega)) (Zw (dt (by omega)) XR)) ?_
   refine ZY (ZaF a0 i8 ha0 hi8 0) (fun y13 hey13 => ?_)
   refine J8 (fun _ hl => ?_) (fun y15 hly15 => ?_)
   ·exact JO (by omega)
   ·exact XI
 ·unfold M.YU
  try simp only [Int.toNat_natCast]
  exact X2 (decide_eq_false (by omega)) rfl
noncomputable def S.YV (a0 : Xg) (i19 : Nat) (i23 : Nat) : Option (Unit ⊕ Int) :=
 bif (((((((a0.Zm.drop 0).take (i19 - 0)).getD i23 default).Zp).Zy) == (((a0.Zm.getD i19 default).Zp).Zy)) && (((((((a0.Zm.drop 0).take (i19 - 0)).getD i23 default).Zp).ZK) == (((a0.Zm.getD i19 default).Zp).ZK)) && true)) then (some (.inr 4)) else none
theorem ZaH (a0 : Xg) (i19 : Nat) (ha0 : Xb a0) (hi19 : i19 < a0.Zm.length) (i0 : Nat) : loopM (M.YV a0 (i19 : Int)) (i0 : Int) = some (runN (S.YV a0 i19) (.inl ()) i0 (i19 - i0)) := by
 have hM := Zo
 have hni19 : a0.Zm.length ≤ maxLen := (Xb.Zm ha0)
 have hni23 : i19 ≤ maxLen := (by omega)
 refine Xa (n := i19) (fun i23 hi23 => ?_) (fun m hm => ?_) i0
 ·unfold M.YV S.YV
  try simp only [Int.toNat_natCast]
  refine X1 (dt (by omega)) ?_
  refine Yx (Zw (dt (by omega)) (Zw (dt (by simp; omega)) XR)) ?_
  refine XY (fun hb10 => ?_) (fun hb10 => ?_)
  ·exact XI
  ·exact JO (by omega)
 ·unfold M.YV
  try simp only [Int.toNat_natCast]
  exact X2 (decide_eq_false (by omega)) rfl
noncomputable def S.YW (a0 : Xg) (i19 : Nat) : Option (Unit ⊕ Int) :=
 letS (S.QZ ((a0.Zm.getD i19 default).Zp)) (fun r21 => letS (bif (!(!r21)) then S.QZ ((a0.Zm.getD i19 default).fIf) else default) (fun r22 => bif (!r21) || (!r22) then (some (.inr 1)) else (bif (((((a0.Zm.getD i19 default).Zp).Zy) == (((a0.Zm.getD i19 default).fIf).Zy)) && (((((a0.Zm.getD i19 default).Zp).ZK) == (((a0.Zm.getD i19 default).fIf).ZK)) && true)) then (some (.inr 6)) else (letS (runN (S.YV a0 i19) (.inl ()) 0 i19) (fun y25 => Sum.elim (fun _ => none) (fun y27 => some (.inr y27)) y25)))))
theorem ZaI (a0 : Xg) (ha0 : Xb a0) (i0 : Nat) : loopM (M.YW a0) (i0 : Int) = some (runN (S.YW a0) (.inl ()) i0 (a0.Zm.length - i0)) := by
 have hM := Zo
 have hni19 : a0.Zm.length ≤ maxLen := (Xb.Zm ha0)
 refine Xa (n := a0.Zm.length) (fun i19 hi19 => ?_) (fun m hm => ?_) i0
 ·unfold M.YW S.YW
  try simp only [Int.toNat_natCast]
  refine X1 (dt (by omega)) ?_
  refine Yx (Zw (dt (by omega)) (Zw (dt (by omega)) XR)) ?_
  refine ZY (Gh ((a0.Zm.getD i19 default).Zp)) (fun r21 her21 => ?_)
  refine ZY (JE fun hg => (Gh ((a0.Zm.getD i19 default).fIf))) (fun r22 her22 => ?_)
  refine XY (fun hb8 => ?_) (fun hb8 => ?_)
  ·exact XI
  ·refine XY (fun hb9 => ?_) (fun hb9 => ?_)
   ·exact XI
   ·refine Yx (Zw (dt (by omega)) (Zw (dt (by omega)) XR)) ?_
    refine ZY (ZaH a0 i19 ha0 hi19 0) (fun y25 hey25 => ?_)
    refine J8 (fun _ hl => ?_) (fun y27 hly27 => ?_)
    ·exact JO (by omega)
    ·exact XI
 ·unfold M.YW
  try simp only [Int.toNat_natCast]
  exact X2 (decide_eq_false (by omega)) rfl
noncomputable def S.QN (a0 : Xg) : Int :=
 bif decide ((a0.Zt.length : Int) > 8) then 7 else (letS (runN (S.YS a0) (.inl ()) 0 a0.Zt.length) (fun y5 => Sum.elim (fun _ => bif decide ((a0.Zq.length : Int) > 8) then 7 else (letS (runN (S.YU a0) (.inl ()) 0 a0.Zq.length) (fun y16 => Sum.elim (fun _ => bif decide ((a0.Zm.length : Int) > 8) then 7 else (letS (runN (S.YW a0) (.inl ()) 0 a0.Zm.length) (fun y28 => Sum.elim (fun _ => 0) (fun y30 => y30) y28))) (fun y18 => y18) y16))) (fun y7 => y7) y5))
theorem Zcr (a0 : Xg) (ha0 : Xb a0) : M.QN a0 = some (S.QN a0) := by
 have hM := Zo
 unfold M.QN S.QN
 refine Jl (fun hb1 => ?_) (fun hb1 => ?_)
 ·rfl
 ·refine Z6 (ZaE a0 ha0 0) (fun y5 hey5 => ?_)
  refine Qq (fun _ hl => ?_) (fun y7 hly7 => ?_)
  ·refine Jl (fun hb4 => ?_) (fun hb4 => ?_)
   ·rfl
   ·refine Z6 (ZaG a0 ha0 0) (fun y16 hey16 => ?_)
    refine Qq (fun _ hl => ?_) (fun y18 hly18 => ?_)
    ·refine Jl (fun hb7 => ?_) (fun hb7 => ?_)
     ·rfl
     ·refine Z6 (ZaI a0 ha0 0) (fun y28 hey28 => ?_)
      refine Qq (fun _ hl => ?_) (fun y30 hly30 => ?_)
      ·rfl
      ·rfl
    ·rfl
  ·rfl
noncomputable def S.YX (a0 : Zf) : Int :=
 bif !a0.ZW.Va then (bif ((((((a0.ZW.XN != 0) || (a0.ZW.XO != 0)) || (decide ((a0.ZW.Zk.length : Int) > 0))) || (decide ((a0.ZW.Zt.length : Int) > 0))) || (decide ((a0.ZW.Zq.length : Int) > 0))) || (decide ((a0.ZW.Zm.length : Int) > 0))) || (decide ((a0.ZW.Zs.length : Int) > 0)) then 1 else 0) else (letS (bif (!(a0.GA == 0)) then S.ZZ a0.ZW.XN 1 255 else default) (fun r1 => letS (bif (!((a0.GA == 0) || (!r1))) then S.ZZ a0.ZW.XO 1 255 else default) (fun r2 => bif ((a0.GA == 0) || (!r1)) || (!r2) then 1 else (letS (S.Qa a0) (fun r3 => bif r3 != 0 then r3 else (letS (S.QN a0.ZW) (fun r4 => bif r4 != 0 then r4 else (letS (S.YI a0 a0.ZW.Zs 5 0 16777215 0) (fun r5 => r5)))))))))
theorem ZaJ (a0 : Zf) (ha0 : Zj a0) : M.YX a0 = some (S.YX a0) := by
 have hM := Zo
 unfold M.YX S.YX
 refine Jl (fun hb1 => ?_) (fun hb1 => ?_)
 ·refine Jl (fun hb2 => ?_) (fun hb2 => ?_)
  ·rfl
  ·rfl
 ·refine Z6 (JE fun hg => (X5 a0.ZW.XN 1 255)) (fun r1 her1 => ?_)
  refine Z6 (JE fun hg => (X5 a0.ZW.XO 1 255)) (fun r2 her2 => ?_)
  refine Jl (fun hb3 => ?_) (fun hb3 => ?_)
  ·rfl
  ·refine Z6 (Za5 a0 ha0) (fun r3 her3 => ?_)
   refine Jl (fun hb4 => ?_) (fun hb4 => ?_)
   ·rfl
   ·refine Z6 (Zcr a0.ZW (Zj.ZW ha0)) (fun r4 her4 => ?_)
    refine Jl (fun hb5 => ?_) (fun hb5 => ?_)
    ·rfl
    ·refine Z6 (G1 a0 a0.ZW.Zs 5 0 16777215 0 ha0 (Xb.Zs (Zj.ZW ha0))) (fun r5 her5 => ?_)
     rfl
noncomputable def S.Q9 (a0 : Zf) : Int :=
 letS (S.WD a0.ZJ) (fun r1 => bif !r1 then 3 else (letS (S.ZZ a0.GA 0 65535) (fun r2 => bif !r2 then 1 else (letS (S.YQ a0) (fun r3 => bif r3 != 0 then r3 else (letS (S.YH a0) (fun r4 => bif r4 != 0 then r4 else (letS (S.Y6 a0) (fun r5 => bif r5 != 0 then r5 else (letS (S.JZ a0) (fun r6 => bif r6 != 0 then r6 else (letS (S.Vg a0) (fun r7 => bif r7 != 0 then r7 else (letS (S.Jn a0) (fun r8 => bif r8 != 0 then r8 else (letS (S.QM a0) (fun r9 => bif r9 != 0 then r9 else (letS (S.Y9 a0) (fun r10 => bif r10 != 0 then r10 else (letS (S.Yn a0) (fun r11 => bif r11 != 0 then r11 else (letS (S.YX a0) (fun r12 => bif r12 != 0 then r12 else 0)))))))))))))))))))))))
theorem Zc3 (a0 : Zf) (ha0 : Zj a0) : M.Q9 a0 = some (S.Q9 a0) := by
 have hM := Zo
 unfold M.Q9 S.Q9
 refine Z6 (Zcl a0.ZJ (Zj.ZJ ha0)) (fun r1 her1 => ?_)
 refine Jl (fun hb1 => ?_) (fun hb1 => ?_)
 ·rfl
 ·refine Z6 (X5 a0.GA 0 65535) (fun r2 her2 => ?_)
  refine Jl (fun hb2 => ?_) (fun hb2 => ?_)
  ·rfl
  ·refine Yx (Zw (dt (by first | omega | (simp; omega) | (simp at *; omega))) (Zw (dt (by first | omega | (simp; omega) | (simp at *; omega))) XR)) ?_
   refine Z6 (ZaA a0 ha0) (fun r3 her3 => ?_)
   refine Jl (fun hb3 => ?_) (fun hb3 => ?_)
   ·rfl
   ·refine Yx (Zw (dt (by first | omega | (simp; omega) | (simp at *; omega))) (Zw (dt (by first | omega | (simp; omega) | (simp at *; omega))) XR)) ?_
    refine Z6 (Zae a0 ha0) (fun r4 her4 => ?_)
    refine Jl (fun hb4 => ?_) (fun hb4 => ?_)
    ·rfl
    ·refine Yx (Zw (dt (by first | omega | (simp; omega) | (simp at *; omega))) (Zw (dt (by first | omega | (simp; omega) | (simp at *; omega))) XR)) ?_
     refine Z6 (Za0 a0 ha0) (fun r5 her5 => ?_)
     refine Jl (fun hb5 => ?_) (fun hb5 => ?_)
     ·rfl
     ·refine Yx (Zw (dt (by first | omega | (simp; omega) | (simp at *; omega))) (Zw (dt (by first | omega | (simp; omega) | (simp at *; omega))) XR)) ?_
      refine Z6 (ZeC a0 ha0) (fun r6 her6 => ?_)
      refine Jl (fun hb6 => ?_) (fun hb6 => ?_)
      ·rfl
      ·refine Yx (Zw (dt (by first | omega | (simp; omega) | (simp at *; omega))) (Zw (dt (by first | omega | (simp; omega) | (simp at *; omega))) XR)) ?_
       refine Z6 (Ze7 a0 ha0) (fun r7 her7 => ?_)
       refine Jl (fun hb7 => ?_) (fun hb7 => ?_)
       ·rfl
       ·refine Yx (Zw (dt (by first | omega | (simp; omega) | (simp at *; omega))) (Zw (dt (by first | omega | (simp; omega) | (simp at *; omega))) XR)) ?_
        refine Z6 (Zcp a0 ha0) (fun r8 her8 => ?_)
        refine Jl (fun hb8 => ?_) (fun hb8 => ?_)
        ·rfl
        ·refine Yx (Zw (dt (by first | omega | (simp; omega) | (simp at *; omega))) (Zw (dt (by first | omega | (simp; omega) | (simp at *; omega))) XR)) ?_
         refine Z6 (Zcq a0 ha0) (fun r9 her9 => ?_)
         refine Jl (fun hb9 => ?_) (fun hb9 => ?_)
         ·rfl
         ·refine Yx (Zw (dt (by first | omega | (simp; omega) | (simp at *; omega))) (Zw (dt (by first | omega | (simp; omega) | (simp at *; omega))) XR)) ?_
          refine Z6 (Za4 a0 ha0) (fun r10 her10 => ?_)
          refine Jl (fun hb10 => ?_) (fun hb10 => ?_)
          ·rfl
          ·refine Yx (Zw (dt (by first | omega | (simp; omega) | (simp at *; omega))) (Zw (dt (by first | omega | (simp; omega) | (simp at *; omega))) XR)) ?_
           refine Z6 (Rj a0 ha0) (fun r11 her11 => ?_)
           refine Jl (fun hb11 => ?_) (fun hb11 => ?_)
           ·rfl
           ·refine Yx (Zw (dt (by first | omega | (simp; omega) | (simp at *; omega))) (Zw (dt (by first | omega | (simp; omega) | (simp at *; omega))) XR)) ?_
            refine Z6 (ZaJ a0 ha0) (fun r12 her12 => ?_)
            refine Jl (fun hb12 => ?_) (fun hb12 => ?_)
            ·rfl
            ·rfl
noncomputable def S.Qb (a0 : ZB) (b0 : Zf) : Bool :=
 letS (bif (a0.ZK != 0) then S.Vm b0 a0.Zy else default) (fun r1 => (a0.ZK != 0) && (decide (r1 ≥ 0)))
theorem Za6 (a0 : ZB) (b0 : Zf) (ha0 : Xt a0) (hb0 : Zj b0) : M.Qb a0 b0 = some (S.Qb a0 b0) := by
 have hM := Zo
 unfold M.Qb S.Qb
 refine Z6 (JE fun hg => (Zbk b0 a0.Zy hb0)) (fun r1 her1 => ?_)
 rfl
noncomputable def S.ZO (a0 : List ZB) (a1c0 : Zf) (i1 : Nat) : Option (Unit ⊕ Int) :=
 letS (S.Qb (a0.getD i1 default) a1c0) (fun r3 => bif r3 then (some (.inr (i1 : Int))) else none)
theorem Vz (a0 : List ZB) (a1c0 : Zf) (ha0 : LL Xt a0) (ha1c0 : Zj a1c0) (i0 : Nat) : loopM (M.ZO a0 a1c0) (i0 : Int) = some (runN (S.ZO a0 a1c0) (.inl ()) i0 (a0.length - i0)) := by
 have hM := Zo
 have hni1 : a0.length ≤ maxLen := ha0.1
 refine Xa (n := a0.length) (fun i1 hi1 => ?_) (fun m hm => ?_) i0
 ·unfold M.ZO S.ZO
  try simp only [Int.toNat_natCast]
  refine X1 (dt (by omega)) ?_
  refine ZY (Za6 (a0.getD i1 default) a1c0 (LL.getD ha0 Xt.dflt i1) ha1c0) (fun r3 her3 => ?_)
  refine Yx (Zw (dt (by omega)) (Zw (dt (by omega)) XR)) ?_
  refine XY (fun hb1 => ?_) (fun hb1 => ?_)
  ·exact XI
  ·exact JO (by omega)
 ·unfold M.ZO
  try simp only [Int.toNat_natCast]
  exact X2 (decide_eq_false (by omega)) rfl
noncomputable def S.ZV (a0 : List ZB) (a1c0 : Zf) : Int :=
 letS (runN (S.ZO a0 a1c0) (.inl ()) 0 a0.length) (fun y4 => Sum.elim (fun _ => -1) (fun y6 => y6) y4)
theorem VR (a0 : List ZB) (a1c0 : Zf) (ha0 : LL Xt a0) (ha1c0 : Zj a1c0) : M.ZV a0 a1c0 = some (S.ZV a0 a1c0) := by
 have hM := Zo
 unfold M.ZV S.ZV
 refine Z6 (Vz a0 a1c0 ha0 ha1c0 0) (fun y4 hey4 => ?_)
 refine Qq (fun _ hl => ?_) (fun y6 hly6 => ?_)
 ·rfl
 ·rfl
noncomputable def S.ZP (a0 : List ZB) (a1c0 : Zf) : Bool :=
 letS (S.ZV a0 a1c0) (fun r1 => decide (r1 ≥ 0))
theorem VA (a0 : List ZB) (a1c0 : Zf) (ha0 : LL Xt a0) (ha1c0 : Zj a1c0) : M.ZP a0 a1c0 = some (S.ZP a0 a1c0) := by
 have hM := Zo
 unfold M.ZP S.ZP
 refine Z6 (VR a0 a1c0 ha0 ha1c0) (fun r1 her1 => ?_)
 rfl
noncomputable def S.Jo (a0 : Zf) (a1 : Zf) : Bool :=
 letS (S.ZP a1.Zc a0) (fun r1 => r1)
theorem Zcs (a0 : Zf) (a1 : Zf) (ha0 : Zj a0) (ha1 : Zj a1) : M.Jo a0 a1 = some (S.Jo a0 a1) := by
 have hM := Zo
 unfold M.Jo S.Jo
 refine Z6 (VA a1.Zc a0 (Zj.Zc ha1) ha0) (fun r1 her1 => ?_)
 rfl
noncomputable def S.Vh (a0 : ZG) (i1 : Nat) (i4 : Nat) : Option (Unit ⊕ Int) :=
 letS (bif (!(strEq ((((a0.Ze.drop 0).take (i1 - 0)).getD i4 default).ZJ) ((a0.Ze.getD i1 default).ZJ))) then S.Jo (((a0.Ze.drop 0).take (i1 - 0)).getD i4 default) (a0.Ze.getD i1 default) else default) (fun r6 => bif (strEq ((((a0.Ze.drop 0).take (i1 - 0)).getD i4 default).ZJ) ((a0.Ze.getD i1 default).ZJ)) || r6 then (some (.inr 4)) else none)
theorem Ze8 (a0 : ZG) (i1 : Nat) (ha0 : Ys a0) (hi1 : i1 < a0.Ze.length) (i0 : Nat) : loopM (M.Vh a0 (i1 : Int)) (i0 : Int) = some (runN (S.Vh a0 i1) (.inl ()) i0 (i1 - i0)) := by
 have hM := Zo
 have hni1 : a0.Ze.length ≤ maxLen := (Ys.Ze ha0).1
 have hni4 : i1 ≤ maxLen := (by omega)
 refine Xa (n := i1) (fun i4 hi4 => ?_) (fun m hm => ?_) i0
 ·unfold M.Vh S.Vh
  try simp only [Int.toNat_natCast]
  refine X1 (dt (by omega)) ?_
  refine Yx (Zw (dt (by omega)) (Zw (dt (by simp; omega)) XR)) ?_
  refine ZY (JE fun hg => (Zcs (((a0.Ze.drop 0).take (i1 - 0)).getD i4 default) (a0.Ze.getD i1 default) (LL.getD (LL.take (LL.drop (Ys.Ze ha0) _) _) Zj.dflt i4) (LL.getD (Ys.Ze ha0) Zj.dflt i1))) (fun r6 her6 => ?_)
  refine XY (fun hb3 => ?_) (fun hb3 => ?_)
  ·exact XI
  ·exact JO (by omega)
 ·unfold M.Vh
  try simp only [Int.toNat_natCast]
  exact X2 (decide_eq_false (by omega)) rfl
noncomputable def S.VL (a0 : ZG) (i1 : Nat) : Option (Unit ⊕ Int) :=
 letS (S.Q9 (a0.Ze.getD i1 default)) (fun r3 => bif r3 != 0 then (some (.inr r3)) else (letS (runN (S.Vh a0 i1) (.inl ()) 0 i1) (fun y7 => Sum.elim (fun _ => none) (fun y9 => some (.inr y9)) y7)))
theorem Ze9 (a0 : ZG) (ha0 : Ys a0) (i0 : Nat) : loopM (M.VL a0) (i0 : Int) = some (runN (S.VL a0) (.inl ()) i0 (a0.Ze.length - i0)) := by
 have hM := Zo
 have hni1 : a0.Ze.length ≤ maxLen := (Ys.Ze ha0).1
 refine Xa (n := a0.Ze.length) (fun i1 hi1 => ?_) (fun m hm => ?_) i0
 ·unfold M.VL S.VL
  try simp only [Int.toNat_natCast]
  refine X1 (dt (by omega)) ?_
  refine Yx (Zw (dt (by omega)) (Zw (dt (by omega)) XR)) ?_
  refine ZY (Zc3 (a0.Ze.getD i1 default) (LL.getD (Ys.Ze ha0) Zj.dflt i1)) (fun r3 her3 => ?_)
  refine XY (fun hb2 => ?_) (fun hb2 => ?_)
  ·exact XI
  ·refine Yx (Zw (dt (by omega)) (Zw (dt (by omega)) XR)) ?_
   refine ZY (Ze8 a0 i1 ha0 hi1 0) (fun y7 hey7 => ?_)
   refine J8 (fun _ hl => ?_) (fun y9 hly9 => ?_)
   ·exact JO (by omega)
   ·exact XI
 ·unfold M.VL
  try simp only [Int.toNat_natCast]
  exact X2 (decide_eq_false (by omega)) rfl
noncomputable def S.QU (a0 : ZG) : Int :=
 bif decide ((a0.Ze.length : Int) > 8) then 7 else (letS (runN (S.VL a0) (.inl ()) 0 a0.Ze.length) (fun y10 => Sum.elim (fun _ => 0) (fun y12 => y12) y10))
theorem Zdp (a0 : ZG) (ha0 : Ys a0) : M.QU a0 = some (S.QU a0) := by
 have hM := Zo
 unfold M.QU S.QU
 refine Jl (fun hb1 => ?_) (fun hb1 => ?_)
 ·rfl
 ·refine Z6 (Ze9 a0 ha0 0) (fun y10 hey10 => ?_)
  refine Qq (fun _ hl => ?_) (fun y12 hly12 => ?_)
  ·rfl
  ·rfl
noncomputable def S.YN (a0 : List Int) (i1 : Nat) : Option (Unit ⊕ Int) :=
 bif (a0.getD i1 default) != 0 then (some (.inr (a0.getD i1 default))) else none
theorem Zlm (a0 : List Int) (ha0 : a0.length ≤ maxLen) (i0 : Nat) : loopM (M.YN a0) (i0 : Int) = some (runN (S.YN a0) (.inl ()) i0 (a0.length - i0)) := by
 have hM := Zo
 have hni1 : a0.length ≤ maxLen := ha0
 refine Xa (n := a0.length) (fun i1 hi1 => ?_) (fun m hm => ?_) i0
 ·unfold M.YN S.YN
  try simp only [Int.toNat_natCast]
  refine X1 (dt (by omega)) ?_
  refine Yx (Zw (dt (by omega)) (Zw (dt (by omega)) XR)) ?_
  refine XY (fun hb1 => ?_) (fun hb1 => ?_)
  ·exact XI
  ·exact JO (by omega)
 ·unfold M.YN
  try simp only [Int.toNat_natCast]
  exact X2 (decide_eq_false (by omega)) rfl
noncomputable def S.VE (a0 : Int) : Bool :=
 ((decide (a0 ≥ 97)) && (decide (a0 ≤ 122))) || ((decide (a0 ≥ 65)) && (decide (a0 ≤ 90)))
theorem Zdq (a0 : Int)  : M.VE a0 = some (S.VE a0) := by
 have hM := Zo
 unfold M.VE S.VE
 rfl
noncomputable def S.Wk (a0 : ByteArray) (i2 : Nat) : Option (Unit ⊕ Bool) :=
 letS (S.VE (byteAt a0 (i2 : Int))) (fun r4 => bif (((((!r4) && (!((decide ((byteAt a0 (i2 : Int)) ≥ 48)) && (decide ((byteAt a0 (i2 : Int)) ≤ 57))))) && ((byteAt a0 (i2 : Int)) != 45)) && ((byteAt a0 (i2 : Int)) != 95)) && ((byteAt a0 (i2 : Int)) != 47)) && ((byteAt a0 (i2 : Int)) != 46) then (some (.inr false)) else none)
theorem ZgN (a0 : ByteArray) (ha0 : a0.size ≤ maxLen) (i0 : Nat) : loopM (M.Wk a0) (i0 : Int) = some (runN (S.Wk a0) (.inl ()) i0 (a0.size - i0)) := by
 have hM := Zo
 have hni2 : a0.size ≤ maxLen := ha0
 refine Xa (n := a0.size) (fun i2 hi2 => ?_) (fun m hm => ?_) i0
 ·unfold M.Wk S.Wk
  try simp only [Int.toNat_natCast]
  refine X1 (dt (by omega)) ?_
  refine Yx (Zw (dt (by omega)) (Zw (dt (by omega)) XR)) ?_
  refine ZY (Zdq (byteAt a0 (i2 : Int))) (fun r4 her4 => ?_)
  refine XY (fun hb2 => ?_) (fun hb2 => ?_)
  ·exact XI
  ·exact JO (by omega)
 ·unfold M.Wk
  try simp only [Int.toNat_natCast]
  exact X2 (decide_eq_false (by omega)) rfl
noncomputable def S.Jr (a0 : ByteArray) : Bool :=
 letS (bif (!((decide ((a0.size : Int) < 1)) || (decide ((a0.size : Int) > 15)))) then S.VE (byteAt a0 0) else default) (fun r1 => bif ((decide ((a0.size : Int) < 1)) || (decide ((a0.size : Int) > 15))) || (!r1) then false else (letS (runN (S.Wk a0) (.inl ()) 1 (a0.size - 1)) (fun y5 => Sum.elim (fun _ => true) (fun y7 => y7) y5)))
theorem KV (a0 : ByteArray) (ha0 : a0.size ≤ maxLen) : M.Jr a0 = some (S.Jr a0) := by
 have hM := Zo
 unfold M.Jr S.Jr
 refine Z6 (JE fun hg => (Zdq (byteAt a0 0))) (fun r1 her1 => ?_)
 refine Yx (Zw (QY fun hg => (dt (by first | omega | (simp; omega) | (simp at *; omega)))) (Zw (QY fun hg => (dt (by first | omega | (simp; omega) | (simp at *; omega)))) XR)) ?_
 refine Jl (fun hb1 => ?_) (fun hb1 => ?_)
 ·rfl
 ·refine Z6 (ZgN a0 ha0 1) (fun y5 hey5 => ?_)
  refine Qq (fun _ hl => ?_) (fun y7 hly7 => ?_)
  ·rfl
  ·rfl
noncomputable def S.ZD (a0 : Int) (a1 : Int) (a2 : Int) : Bool :=
 (decide (a1 ≤ a0)) && (decide (a0 ≤ a2))
theorem Yh (a0 : Int) (a1 : Int) (a2 : Int)  : M.ZD a0 a1 a2 = some (S.ZD a0 a1 a2) := by
 have hM := Zo
 unfold M.ZD S.ZD
 rfl
noncomputable def S.Jb (a0 : Int) (a1 : Int) : ZS :=
 letS (S.VI (if 0 > (if 32 < a1 then 32 else a1) then 0 else (if 32 < a1 then 32 else a1))) (fun r1 => (⟨bitD .and .u32 a0 r1,if 0 > (if 32 < a1 then 32 else a1) then 0 else (if 32 < a1 then 32 else a1)⟩ : ZS))
theorem RF (a0 : Int) (a1 : Int)  : M.Jb a0 a1 = some (S.Jb a0 a1) := by
 have hM := Zo
 unfold M.Jb S.Jb
 refine Z6 (Zck (if 0 > (if 32 < a1 then 32 else a1) then 0 else (if 32 < a1 then 32 else a1))) (fun r1 her1 => ?_)
 rfl
noncomputable def S.WL (a0 : ZS) (a1 : Int) : Bool :=
 letS (S.VI a0.ZK) (fun r1 => (bitD .and .u32 a1 r1) == a0.Zy)
theorem ZfH (a0 : ZS) (a1 : Int)  : M.WL a0 a1 = some (S.WL a0 a1) := by
 have hM := Zo
 unfold M.WL S.WL
 refine Z6 (Zck a0.ZK) (fun r1 her1 => ?_)
 rfl
noncomputable def S.WQ (a0 : ZS) (a1 : ZS) : Bool :=
 letS (bif (decide (a0.ZK ≤ a1.ZK)) then S.WL a0 a1.Zy else default) (fun r1 => (decide (a0.ZK ≤ a1.ZK)) && r1)
theorem Zdr (a0 : ZS) (a1 : ZS)  : M.WQ a0 a1 = some (S.WQ a0 a1) := by
 have hM := Zo
 unfold M.WQ S.WQ
 refine Z6 (JE fun hg => (ZfH a0 a1.Zy)) (fun r1 her1 => ?_)
 rfl
noncomputable def S.Vo (a0 : ZS) (a1 : ZS) : Bool :=
 letS (S.WQ a0 a1) (fun r1 => letS (bif (!r1) then S.WQ a1 a0 else default) (fun r2 => r1 || r2))
theorem Zbl (a0 : ZS) (a1 : ZS)  : M.Vo a0 a1 = some (S.Vo a0 a1) := by
 have hM := Zo
 unfold M.Vo S.Vo
 refine Z6 (Zdr a0 a1) (fun r1 her1 => ?_)
 refine Z6 (JE fun hg => (Zdr a1 a0)) (fun r2 her2 => ?_)
 rfl
noncomputable def S.Jp (a0 : List ZB) (i1 : Nat) (i4 : Nat) : Option (Unit ⊕ Int) :=
 bif strEq ((a0.getD i4 default).ZJ) ((a0.getD i1 default).ZJ) then (some (.inr 4)) else none
theorem Zct (a0 : List ZB) (i1 : Nat) (ha0 : LL Xt a0) (hi1 : i1 < a0.length) (i0 : Nat) : loopM (M.Jp a0 (i1 : Int)) (i0 : Int) = some (runN (S.Jp a0 i1) (.inl ()) i0 (i1 - i0)) := by
 have hM := Zo
 have hni1 : a0.length ≤ maxLen := ha0.1
 have hni4 : i1 ≤ maxLen := (by omega)
 refine Xa (n := i1) (fun i4 hi4 => ?_) (fun m hm => ?_) i0
 ·unfold M.Jp S.Jp
  try simp only [Int.toNat_natCast]
  refine X1 (dt (by omega)) ?_
  refine Yx (Zw (dt (by omega)) (Zw (dt (by omega)) XR)) ?_
  refine XY (fun hb3 => ?_) (fun hb3 => ?_)
  ·exact XI
  ·exact JO (by omega)
 ·unfold M.Jp
  try simp only [Int.toNat_natCast]
  exact X2 (decide_eq_false (by omega)) rfl
noncomputable def S.Qo (a0 : List ZB) (i1 : Nat) (i14 : Nat) : Option (Unit ⊕ Int) :=
 letS (bif ((((a0.getD i1 default).ZK) != 0) && (((a0.getD i14 default).ZK) != 0)) then S.Jb ((a0.getD i1 default).Zy) ((a0.getD i1 default).ZK) else default) (fun r16 => letS (bif ((((a0.getD i1 default).ZK) != 0) && (((a0.getD i14 default).ZK) != 0)) then S.Jb ((a0.getD i14 default).Zy) ((a0.getD i14 default).ZK) else default) (fun r17 => letS (bif ((((a0.getD i1 default).ZK) != 0) && (((a0.getD i14 default).ZK) != 0)) then S.Vo r16 r17 else default) (fun r18 => bif ((((a0.getD i1 default).ZK) != 0) && (((a0.getD i14 default).ZK) != 0)) && r18 then (some (.inr 6)) else none)))
theorem Zcu (a0 : List ZB) (i1 : Nat) (ha0 : LL Xt a0) (hi1 : i1 < a0.length) (i0 : Nat) : loopM (M.Qo a0 (i1 : Int)) (i0 : Int) = some (runN (S.Qo a0 i1) (.inl ()) i0 (i1 - i0)) := by
 have hM := Zo
 have hni1 : a0.length ≤ maxLen := ha0.1
 have hni14 : i1 ≤ maxLen := (by omega)
 refine Xa (n := i1) (fun i14 hi14 => ?_) (fun m hm => ?_) i0
 ·unfold M.Qo S.Qo
  try simp only [Int.toNat_natCast]
  refine X1 (dt (by omega)) ?_
  refine ZY (JE fun hg => (RF ((a0.getD i1 default).Zy) ((a0.getD i1 default).ZK))) (fun r16 her16 => ?_)
  refine ZY (JE fun hg => (RF ((a0.getD i14 default).Zy) ((a0.getD i14 default).ZK))) (fun r17 her17 => ?_)
  refine ZY (JE fun hg => (Zbl r16 r17)) (fun r18 her18 => ?_)
  refine Yx (Zw (QY fun hg => (dt (by first | omega | (simp; omega) | (simp at *; omega)))) (Zw (QY fun hg => (dt (by first | omega | (simp; omega) | (simp at *; omega)))) (Zw (QY fun hg => (dt (by first | omega | (simp; omega) | (simp at *; omega)))) (Zw (QY fun hg => (dt (by first | omega | (simp; omega) | (simp at *; omega)))) (Zw (QY fun hg => (dt (by first | omega | (simp; omega) | (simp at *; omega)))) (Zw (QY fun hg => (dt (by first | omega | (simp; omega) | (simp at *; omega)))) XR)))))) ?_
  refine XY (fun hb7 => ?_) (fun hb7 => ?_)
  ·exact XI
  ·exact JO (by omega)
 ·unfold M.Qo
  try simp only [Int.toNat_natCast]
  exact X2 (decide_eq_false (by omega)) rfl
noncomputable def S.QS (a0 : List ZB) (i1 : Nat) : Option (Unit ⊕ Int) :=
 letS (S.Jr ((a0.getD i1 default).ZJ)) (fun r3 => bif !r3 then (some (.inr 3)) else (letS (runN (S.Jp a0 i1) (.inl ()) 0 i1) (fun y6 => Sum.elim (fun _ => letS (S.ZD ((a0.getD i1 default).ZK) 0 32) (fun r9 => letS (bif (!(!r9)) then S.ZD ((a0.getD i1 default).XF) 0 4094 else default) (fun r10 => letS (bif (!((!r9) || (!r10))) then S.ZD ((a0.getD i1 default).Rr) 0 2 else default) (fun r11 => bif ((!r9) || (!r10)) || (!r11) then (some (.inr 1)) else (bif ((((a0.getD i1 default).ZK) == 0) && (((((((((a0.getD i1 default).Zy) != 0) || (((a0.getD i1 default).XF) != 0)) || (((a0.getD i1 default).Rr) != 0)) || ((a0.getD i1 default).X0)) || ((a0.getD i1 default).Ya)) || (!strEq ((a0.getD i1 default).Vr) (⟨#[]⟩ : ByteArray))) || (!strEq ((a0.getD i1 default).YD) (⟨#[]⟩ : ByteArray)))) || ((((a0.getD i1 default).ZK) != 0) && (((a0.getD i1 default).Zy) == 0)) then (some (.inr 1)) else (letS (bif ((a0.getD i1 default).X0) then S.ZD ((a0.getD i1 default).JW) 0 255 else default) (fun r12 => letS (bif (((a0.getD i1 default).X0) && !(!r12)) then S.ZD ((a0.getD i1 default).K5) 1 65535 else default) (fun r13 => bif (((a0.getD i1 default).X0) && ((!r12) || (!r13))) || ((!((a0.getD i1 default).X0)) && ((((a0.getD i1 default).JW) != 0) || (((a0.getD i1 default).K5) != 0))) then (some (.inr 1)) else (letS (runN (S.Qo a0 i1) (.inl ()) 0 i1) (fun y19 => Sum.elim (fun _ => none) (fun y21 => some (.inr y21)) y19)))))))))) (fun y8 => some (.inr y8)) y6)))
theorem Zcv (a0 : List ZB) (ha0 : LL Xt a0) (i0 : Nat) : loopM (M.QS a0) (i0 : Int) = some (runN (S.QS a0) (.inl ()) i0 (a0.length - i0)) := by
 have hM := Zo
 have hni1 : a0.length ≤ maxLen := ha0.1
 refine Xa (n := a0.length) (fun i1 hi1 => ?_) (fun m hm => ?_) i0
 ·unfold M.QS S.QS
  try simp only [Int.toNat_natCast]
  refine X1 (dt (by omega)) ?_
  refine Yx (Zw (dt (by omega)) (Zw (dt (by omega)) XR)) ?_
  refine ZY (KV ((a0.getD i1 default).ZJ) (Xt.ZJ (LL.getD ha0 Xt.dflt i1))) (fun r3 her3 => ?_)
  refine XY (fun hb2 => ?_) (fun hb2 => ?_)
  ·exact XI
  ·refine ZY (Zct a0 i1 ha0 hi1 0) (fun y6 hey6 => ?_)
   refine J8 (fun _ hl => ?_) (fun y8 hly8 => ?_)
   ·refine ZY (Yh ((a0.getD i1 default).ZK) 0 32) (fun r9 her9 => ?_)
    refine ZY (JE fun hg => (Yh ((a0.getD i1 default).XF) 0 4094)) (fun r10 her10 => ?_)
    refine ZY (JE fun hg => (Yh ((a0.getD i1 default).Rr) 0 2)) (fun r11 her11 => ?_)
    refine XY (fun hb4 => ?_) (fun hb4 => ?_)
    ·exact XI
    ·refine XY (fun hb5 => ?_) (fun hb5 => ?_)
     ·exact XI
     ·refine ZY (JE fun hg => (Yh ((a0.getD i1 default).JW) 0 255)) (fun r12 her12 => ?_)
      refine ZY (JE fun hg => (Yh ((a0.getD i1 default).K5) 1 65535)) (fun r13 her13 => ?_)
      refine XY (fun hb6 => ?_) (fun hb6 => ?_)
      ·exact XI
      ·refine ZY (Zcu a0 i1 ha0 hi1 0) (fun y19 hey19 => ?_)
       refine J8 (fun _ hl => ?_) (fun y21 hly21 => ?_)
       ·exact JO (by omega)
       ·exact XI
   ·exact XI
 ·unfold M.QS
  try simp only [Int.toNat_natCast]
  exact X2 (decide_eq_false (by omega)) rfl
noncomputable def S.Jw (a0 : List ZB) : Int :=
 bif decide ((a0.length : Int) > 8) then 7 else (letS (runN (S.QS a0) (.inl ()) 0 a0.length) (fun y22 => Sum.elim (fun _ => 0) (fun y24 => y24) y22))
theorem ZeE (a0 : List ZB) (ha0 : LL Xt a0) : M.Jw a0 = some (S.Jw a0) := by
 have hM := Zo
 unfold M.Jw S.Jw
 refine Jl (fun hb1 => ?_) (fun hb1 => ?_)
 ·rfl
 ·refine Z6 (Zcv a0 ha0 0) (fun y22 hey22 => ?_)
  refine Qq (fun _ hl => ?_) (fun y24 hly24 => ?_)
  ·rfl
  ·rfl
noncomputable def S.YY (a0 : ZS) : Bool :=
 letS (bif ((decide (a0.ZK ≥ 0)) && (decide (a0.ZK ≤ 32))) then S.VI a0.ZK else default) (fun r1 => ((decide (a0.ZK ≥ 0)) && (decide (a0.ZK ≤ 32))) && ((bitD .andNot .u32 a0.Zy r1) == 0))
theorem Gi (a0 : ZS)  : M.YY a0 = some (S.YY a0) := by
 have hM := Zo
 unfold M.YY S.YY
 refine Z6 (JE fun hg => (Zck a0.ZK)) (fun r1 her1 => ?_)
 rfl
noncomputable def S.QB (a0 : VC) : Bool :=
 letS (S.YY a0.Zp) (fun r1 => ((r1 && (decide (a0.Zp.ZK ≤ a0.Zbm))) && (decide (a0.Zbm ≤ a0.Zbn))) && (decide (a0.Zbn ≤ 32)))
theorem Za7 (a0 : VC)  : M.QB a0 = some (S.QB a0) := by
 have hM := Zo
 unfold M.QB S.QB
 refine Z6 (Gi a0.Zp) (fun r1 her1 => ?_)
 rfl
noncomputable def S.QW (a0 : List ZF) (i1 : Nat) (i4 : Nat) : Option (Unit ⊕ Int) :=
 bif strEq ((a0.getD i4 default).ZJ) ((a0.getD i1 default).ZJ) then (some (.inr 4)) else none
theorem Zbx (a0 : List ZF) (i1 : Nat) (ha0 : LL X9 a0) (hi1 : i1 < a0.length) (i0 : Nat) : loopM (M.QW a0 (i1 : Int)) (i0 : Int) = some (runN (S.QW a0 i1) (.inl ()) i0 (i1 - i0)) := by
 have hM := Zo
 have hni1 : a0.length ≤ maxLen := ha0.1
 have hni4 : i1 ≤ maxLen := (by omega)
 refine Xa (n := i1) (fun i4 hi4 => ?_) (fun m hm => ?_) i0
 ·unfold M.QW S.QW
  try simp only [Int.toNat_natCast]
  refine X1 (dt (by omega)) ?_
  refine Yx (Zw (dt (by omega)) (Zw (dt (by omega)) (Zw (dt (by omega)) (Zw (dt (by omega)) XR)))) ?_
  refine XY (fun hb3 => ?_) (fun hb3 => ?_)
  ·exact XI
  ·exact JO (by omega)
 ·unfold M.QW
  try simp only [Int.toNat_natCast]
  exact X2 (decide_eq_false (by omega)) rfl
noncomputable def S.Qs (a0 : List ZF) (i1 : Nat) (i9 : Nat) : Option (Unit ⊕ Int) :=
 letS (S.QB (((a0.getD i1 default).Z0).getD i9 default)) (fun r11 => bif !r11 then (some (.inr 1)) else none)
theorem Zby (a0 : List ZF) (i1 : Nat) (ha0 : LL X9 a0) (hi1 : i1 < a0.length) (i0 : Nat) : loopM (M.Qs a0 (i1 : Int)) (i0 : Int) = some (runN (S.Qs a0 i1) (.inl ()) i0 (((a0.getD i1 default).Z0).length - i0)) := by
 have hM := Zo
 have hni1 : a0.length ≤ maxLen := ha0.1
 have hni9 : ((a0.getD i1 default).Z0).length ≤ maxLen := (X9.Z0 (LL.getD ha0 X9.dflt i1))
 refine Xa (n := ((a0.getD i1 default).Z0).length) (fun i9 hi9 => ?_) (fun m hm => ?_) i0
 ·unfold M.Qs S.Qs
  try simp only [Int.toNat_natCast]
  refine Yx (Zw (dt (by omega)) (Zw (dt (by omega)) XR))  ?_
  refine X1 (dt (by omega)) ?_
  refine ZY (Za7 (((a0.getD i1 default).Z0).getD i9 default)) (fun r11 her11 => ?_)
  refine Yx (Zw (dt (by omega)) (Zw (dt (by omega)) (Zw (dt (by omega)) (Zw (dt (by omega)) XR)))) ?_
  refine XY (fun hb6 => ?_) (fun hb6 => ?_)
  ·exact XI
  ·exact JO (by omega)
 ·unfold M.Qs
  try simp only [Int.toNat_natCast]
  refine Yx (Zw (dt (by omega)) (Zw (dt (by omega)) XR))  ?_
  exact X2 (decide_eq_false (by omega)) rfl
noncomputable def S.Qt (a0 : List ZF) (i1 : Nat) : Option (Unit ⊕ Int) :=
 letS (S.Jr ((a0.getD i1 default).ZJ)) (fun r3 => bif !r3 then (some (.inr 3)) else (letS (runN (S.QW a0 i1) (.inl ()) 0 i1) (fun y6 => Sum.elim (fun _ => bif (((a0.getD i1 default).Z0).length : Int) == 0 then (some (.inr 1)) else (bif decide ((((a0.getD i1 default).Z0).length : Int) > 16) then (some (.inr 7)) else (letS (runN (S.Qs a0 i1) (.inl ()) 0 (((a0.getD i1 default).Z0).length)) (fun y12 => Sum.elim (fun _ => none) (fun y14 => some (.inr y14)) y12)))) (fun y8 => some (.inr y8)) y6)))
theorem Zbz (a0 : List ZF) (ha0 : LL X9 a0) (i0 : Nat) : loopM (M.Qt a0) (i0 : Int) = some (runN (S.Qt a0) (.inl ()) i0 (a0.length - i0)) := by
 have hM := Zo
 have hni1 : a0.length ≤ maxLen := ha0.1
 refine Xa (n := a0.length) (fun i1 hi1 => ?_) (fun m hm => ?_) i0
 ·unfold M.Qt S.Qt
  try simp only [Int.toNat_natCast]
  refine X1 (dt (by omega)) ?_
  refine ZY (KV ((a0.getD i1 default).ZJ) (X9.ZJ (LL.getD ha0 X9.dflt i1))) (fun r3 her3 => ?_)
  refine Yx (Zw (dt (by omega)) (Zw (dt (by omega)) XR)) ?_
  refine XY (fun hb2 => ?_) (fun hb2 => ?_)
  ·exact XI
  ·refine ZY (Zbx a0 i1 ha0 hi1 0) (fun y6 hey6 => ?_)
   refine J8 (fun _ hl => ?_) (fun y8 hly8 => ?_)
   ·refine Yx (Zw (dt (by omega)) (Zw (dt (by omega)) XR)) ?_
    refine XY (fun hb4 => ?_) (fun hb4 => ?_)
    ·exact XI
    ·refine Yx (Zw (dt (by omega)) (Zw (dt (by omega)) XR)) ?_
     refine XY (fun hb5 => ?_) (fun hb5 => ?_)
     ·exact XI
     ·refine ZY (Zby a0 i1 ha0 hi1 0) (fun y12 hey12 => ?_)
      refine J8 (fun _ hl => ?_) (fun y14 hly14 => ?_)
      ·exact JO (by omega)
      ·exact XI
   ·exact XI
 ·unfold M.Qt
  try simp only [Int.toNat_natCast]
  exact X2 (decide_eq_false (by omega)) rfl
noncomputable def S.Q3 (a0 : List ZF) : Int :=
 bif decide ((a0.length : Int) > 8) then 7 else (letS (runN (S.Qt a0) (.inl ()) 0 a0.length) (fun y15 => Sum.elim (fun _ => 0) (fun y17 => y17) y15))
theorem ZdP (a0 : List ZF) (ha0 : LL X9 a0) : M.Q3 a0 = some (S.Q3 a0) := by
 have hM := Zo
 unfold M.Q3 S.Q3
 refine Jl (fun hb1 => ?_) (fun hb1 => ?_)
 ·rfl
 ·refine Z6 (Zbz a0 ha0 0) (fun y15 hey15 => ?_)
  refine Qq (fun _ hl => ?_) (fun y17 hly17 => ?_)
  ·rfl
  ·rfl
noncomputable def S.JV (a0 : Zf) (a1 : ByteArray) (i1 : Nat) : Option (Unit ⊕ Int) :=
 bif strEq ((a0.Z1.getD i1 default).ZJ) a1 then (some (.inr (i1 : Int))) else none
theorem Zcw (a0 : Zf) (a1 : ByteArray) (ha0 : Zj a0) (ha1 : a1.size ≤ maxLen) (i0 : Nat) : loopM (M.JV a0 a1) (i0 : Int) = some (runN (S.JV a0 a1) (.inl ()) i0 (a0.Z1.length - i0)) := by
 have hM := Zo
 have hni1 : a0.Z1.length ≤ maxLen := (Zj.Z1 ha0).1
 refine Xa (n := a0.Z1.length) (fun i1 hi1 => ?_) (fun m hm => ?_) i0
 ·unfold M.JV S.JV
  try simp only [Int.toNat_natCast]
  refine X1 (dt (by omega)) ?_
  refine Yx (Zw (dt (by omega)) (Zw (dt (by omega)) XR)) ?_
  refine XY (fun hb1 => ?_) (fun hb1 => ?_)
  ·exact XI
  ·exact JO (by omega)
 ·unfold M.JV
  try simp only [Int.toNat_natCast]
  exact X2 (decide_eq_false (by omega)) rfl
noncomputable def S.QH (a0 : Zf) (a1 : ByteArray) : Int :=
 letS (runN (S.JV a0 a1) (.inl ()) 0 a0.Z1.length) (fun y3 => Sum.elim (fun _ => -1) (fun y5 => y5) y3)
theorem KH (a0 : Zf) (a1 : ByteArray) (ha0 : Zj a0) (ha1 : a1.size ≤ maxLen) : M.QH a0 a1 = some (S.QH a0 a1) := by
 have hM := Zo
 unfold M.QH S.QH
 refine Z6 (Zcw a0 a1 ha0 ha1 0) (fun y3 hey3 => ?_)
 refine Qq (fun _ hl => ?_) (fun y5 hly5 => ?_)
 ·rfl
 ·rfl
noncomputable def S.JK (a0 : Zf) (i1 : Nat) (i4 : Nat) : Option (Unit ⊕ Int) :=
 bif strEq ((a0.ZR.getD i4 default).ZJ) ((a0.ZR.getD i1 default).ZJ) then (some (.inr 4)) else none
theorem Zc4 (a0 : Zf) (i1 : Nat) (ha0 : Zj a0) (hi1 : i1 < a0.ZR.length) (i0 : Nat) : loopM (M.JK a0 (i1 : Int)) (i0 : Int) = some (runN (S.JK a0 i1) (.inl ()) i0 (i1 - i0)) := by
 have hM := Zo
 have hni1 : a0.ZR.length ≤ maxLen := (Zj.ZR ha0).1
 have hni4 : i1 ≤ maxLen := (by omega)
 refine Xa (n := i1) (fun i4 hi4 => ?_) (fun m hm => ?_) i0
 ·unfold M.JK S.JK
  try simp only [Int.toNat_natCast]
  refine X1 (dt (by omega)) ?_
  refine Yx (Zw (dt (by omega)) (Zw (dt (by omega)) (Zw (dt (by omega)) (Zw (dt (by omega)) XR)))) ?_
  refine XY (fun hb3 => ?_) (fun hb3 => ?_)
  ·exact XI
  ·exact JO (by omega)
 ·unfold M.JK
  try simp only [Int.toNat_natCast]
  exact X2 (decide_eq_false (by omega)) rfl
noncomputable def S.Jc (a0 : Zf) (i1 : Nat) (i9 : Nat) : Option (Unit ⊕ Int) :=
 letS (bif (!strEq ((((a0.ZR.getD i1 default).Z4).getD i9 default).QE) (⟨#[]⟩ : ByteArray)) then S.QH a0 ((((a0.ZR.getD i1 default).Z4).getD i9 default).QE) else default) (fun r11 => bif (!strEq ((((a0.ZR.getD i1 default).Z4).getD i9 default).QE) (⟨#[]⟩ : ByteArray)) && (decide (r11 < 0)) then (some (.inr 5)) else (letS (S.ZD ((((a0.ZR.getD i1 default).Z4).getD i9 default).UK) (-1) 65535) (fun r12 => letS (bif (!(!r12)) then S.ZD ((((a0.ZR.getD i1 default).Z4).getD i9 default).GN) (-1) 65535 else default) (fun r13 => letS (bif (!((!r12) || (!r13))) then S.ZD ((((a0.ZR.getD i1 default).Z4).getD i9 default).WB) (-1) 16777215 else default) (fun r14 => letS (bif (!(((!r12) || (!r13)) || (!r14))) then S.ZD ((((a0.ZR.getD i1 default).Z4).getD i9 default).UU) (-1) 1000000 else default) (fun r15 => letS (bif (!((((!r12) || (!r13)) || (!r14)) || (!r15))) then S.ZD ((((a0.ZR.getD i1 default).Z4).getD i9 default).UV) 0 8 else default) (fun r16 => bif ((((!r12) || (!r13)) || (!r14)) || (!r15)) || (!r16) then (some (.inr 1)) else none)))))))
theorem Zc5 (a0 : Zf) (i1 : Nat) (ha0 : Zj a0) (hi1 : i1 < a0.ZR.length) (i0 : Nat) : loopM (M.Jc a0 (i1 : Int)) (i0 : Int) = some (runN (S.Jc a0 i1) (.inl ()) i0 (((a0.ZR.getD i1 default).Z4).length - i0)) := by
 have hM := Zo
 have hni1 : a0.ZR.length ≤ maxLen := (Zj.ZR ha0).1
 have hni9 : ((a0.ZR.getD i1 default).Z4).length ≤ maxLen := (Yp.Z4 (LL.getD (Zj.ZR ha0) Yp.dflt i1)).1
 refine Xa (n := ((a0.ZR.getD i1 default).Z4).length) (fun i9 hi9 => ?_) (fun m hm => ?_) i0
 ·unfold M.Jc S.Jc
  try simp only [Int.toNat_natCast]
  refine Yx (Zw (dt (by omega)) (Zw (dt (by omega)) XR))  ?_
  refine X1 (dt (by omega)) ?_
  refine Yx (Zw (dt (by omega)) (Zw (dt (by omega)) (Zw (dt (by omega)) (Zw (dt (by omega)) XR)))) ?_
  refine ZY (JE fun hg => (KH a0 ((((a0.ZR.getD i1 default).Z4).getD i9 default).QE) ha0 (W8.QE (LL.getD (Yp.Z4 (LL.getD (Zj.ZR ha0) Yp.dflt i1)) W8.dflt i9)))) (fun r11 her11 => ?_)
  refine XY (fun hb6 => ?_) (fun hb6 => ?_)
  ·exact XI
  ·refine ZY (Yh ((((a0.ZR.getD i1 default).Z4).getD i9 default).UK) (-1) 65535) (fun r12 her12 => ?_)
   refine ZY (JE fun hg => (Yh ((((a0.ZR.getD i1 default).Z4).getD i9 default).GN) (-1) 65535)) (fun r13 her13 => ?_)
   refine ZY (JE fun hg => (Yh ((((a0.ZR.getD i1 default).Z4).getD i9 default).WB) (-1) 16777215)) (fun r14 her14 => ?_)
   refine ZY (JE fun hg => (Yh ((((a0.ZR.getD i1 default).Z4).getD i9 default).UU) (-1) 1000000)) (fun r15 her15 => ?_)
   refine ZY (JE fun hg => (Yh ((((a0.ZR.getD i1 default).Z4).getD i9 default).UV) 0 8)) (fun r16 her16 => ?_)
   refine XY (fun hb7 => ?_) (fun hb7 => ?_)
   ·exact XI
   ·exact JO (by omega)
 ·unfold M.Jc
  try simp only [Int.toNat_natCast]
  refine Yx (Zw (dt (by omega)) (Zw (dt (by omega)) XR))  ?_
  exact X2 (decide_eq_false (by omega)) rfl
noncomputable def S.Jd (a0 : Zf) (i1 : Nat) : Option (Unit ⊕ Int) :=
 letS (S.Jr ((a0.ZR.getD i1 default).ZJ)) (fun r3 => bif !r3 then (some (.inr 3)) else (letS (runN (S.JK a0 i1) (.inl ()) 0 i1) (fun y6 => Sum.elim (fun _ => bif (((a0.ZR.getD i1 default).Z4).length : Int) == 0 then (some (.inr 1)) else (bif decide ((((a0.ZR.getD i1 default).Z4).length : Int) > 8) then (some (.inr 7)) else (letS (runN (S.Jc a0 i1) (.inl ()) 0 (((a0.ZR.getD i1 default).Z4).length)) (fun y17 => Sum.elim (fun _ => none) (fun y19 => some (.inr y19)) y17)))) (fun y8 => some (.inr y8)) y6)))
theorem Zc6 (a0 : Zf) (ha0 : Zj a0) (i0 : Nat) : loopM (M.Jd a0) (i0 : Int) = some (runN (S.Jd a0) (.inl ()) i0 (a0.ZR.length - i0)) := by
 have hM := Zo
 have hni1 : a0.ZR.length ≤ maxLen := (Zj.ZR ha0).1
 refine Xa (n := a0.ZR.length) (fun i1 hi1 => ?_) (fun m hm => ?_) i0
 ·unfold M.Jd S.Jd
  try simp only [Int.toNat_natCast]
  refine X1 (dt (by omega)) ?_
  refine ZY (KV ((a0.ZR.getD i1 default).ZJ) (Yp.ZJ (LL.getD (Zj.ZR ha0) Yp.dflt i1))) (fun r3 her3 => ?_)
  refine Yx (Zw (dt (by omega)) (Zw (dt (by omega)) XR)) ?_
  refine XY (fun hb2 => ?_) (fun hb2 => ?_)
  ·exact XI
  ·refine ZY (Zc4 a0 i1 ha0 hi1 0) (fun y6 hey6 => ?_)
   refine J8 (fun _ hl => ?_) (fun y8 hly8 => ?_)
   ·refine Yx (Zw (dt (by omega)) (Zw (dt (by omega)) XR)) ?_
    refine XY (fun hb4 => ?_) (fun hb4 => ?_)
    ·exact XI
    ·refine Yx (Zw (dt (by omega)) (Zw (dt (by omega)) XR)) ?_
     refine XY (fun hb5 => ?_) (fun hb5 => ?_)
     ·exact XI
     ·refine ZY (Zc5 a0 i1 ha0 hi1 0) (fun y17 hey17 => ?_)
      refine J8 (fun _ hl => ?_) (fun y19 hly19 => ?_)
      ·exact JO (by omega)
      ·exact XI
   ·exact XI
 ·unfold M.Jd
  try simp only [Int.toNat_natCast]
  exact X2 (decide_eq_false (by omega)) rfl
noncomputable def S.J1 (a0 : Zf) : Int :=
 bif decide ((a0.ZR.length : Int) > 8) then 7 else (letS (runN (S.Jd a0) (.inl ()) 0 a0.ZR.length) (fun y20 => Sum.elim (fun _ => 0) (fun y22 => y22) y20))
theorem Zfa (a0 : Zf) (ha0 : Zj a0) : M.J1 a0 = some (S.J1 a0) := by
 have hM := Zo
 unfold M.J1 S.J1
 refine Jl (fun hb1 => ?_) (fun hb1 => ?_)
 ·rfl
 ·refine Z6 (Zc6 a0 ha0 0) (fun y20 hey20 => ?_)
  refine Qq (fun _ hl => ?_) (fun y22 hly22 => ?_)
  ·rfl
  ·rfl
noncomputable def S.Wl (a0 : Vd) : Bool :=
 ((decide (0 ≤ a0.Gv)) && (decide (a0.Gv ≤ a0.G4))) && (decide (a0.G4 ≤ 65535))
theorem ZeF (a0 : Vd)  : M.Wl a0 = some (S.Wl a0) := by
 have hM := Zo
 unfold M.Wl S.Wl
 rfl
noncomputable def S.Gm (a0 : Vd) : Bool :=
 (a0.Gv == 0) && ((a0.G4 == 65535) && true)
theorem ZgO (a0 : Vd)  : M.Gm a0 = some (S.Gm a0) := by
 have hM := Zo
 unfold M.Gm S.Gm
 rfl
noncomputable def S.Vi (a0 : Ku) : Bool :=
 letS (S.ZD a0.Yc (-1) 255) (fun r1 => letS (bif (!(((!r1) || ((bitD .and .u32 a0.KX.Zy a0.KX.U7) != 0)) || ((bitD .and .u32 a0.KY.Zy a0.KY.U7) != 0))) then S.Wl a0.JR else default) (fun r2 => letS (bif (!((((!r1) || ((bitD .and .u32 a0.KX.Zy a0.KX.U7) != 0)) || ((bitD .and .u32 a0.KY.Zy a0.KY.U7) != 0)) || (!r2))) then S.Wl a0.JS else default) (fun r3 => bif ((((!r1) || ((bitD .and .u32 a0.KX.Zy a0.KX.U7) != 0)) || ((bitD .and .u32 a0.KY.Zy a0.KY.U7) != 0)) || (!r2)) || (!r3) then false else (letS (bif (!((a0.Yc == 6) || (a0.Yc == 17))) then S.Gm a0.JR else default) (fun r4 => letS (bif ((!((a0.Yc == 6) || (a0.Yc == 17))) && r4) then S.Gm a0.JS else default) (fun r5 => ((a0.Yc == 6) || (a0.Yc == 17)) || (r4 && r5)))))))
theorem Zfb (a0 : Ku)  : M.Vi a0 = some (S.Vi a0) := by
 have hM := Zo
 unfold M.Vi S.Vi
 refine Z6 (Yh a0.Yc (-1) 255) (fun r1 her1 => ?_)
 refine Z6 (JE fun hg => (ZeF a0.JR)) (fun r2 her2 => ?_)
 refine Z6 (JE fun hg => (ZeF a0.JS)) (fun r3 her3 => ?_)
 refine Jl (fun hb1 => ?_) (fun hb1 => ?_)
 ·rfl
 ·refine Z6 (JE fun hg => (ZgO a0.JR)) (fun r4 her4 => ?_)
  refine Z6 (JE fun hg => (ZgO a0.JS)) (fun r5 her5 => ?_)
  rfl
noncomputable def S.QX (a0 : List V2) (i1 : Nat) (i4 : Nat) : Option (Unit ⊕ Int) :=
 bif strEq ((a0.getD i4 default).ZJ) ((a0.getD i1 default).ZJ) then (some (.inr 4)) else none
theorem ZbA (a0 : List V2) (i1 : Nat) (ha0 : LL WF a0) (hi1 : i1 < a0.length) (i0 : Nat) : loopM (M.QX a0 (i1 : Int)) (i0 : Int) = some (runN (S.QX a0 i1) (.inl ()) i0 (i1 - i0)) := by
 have hM := Zo
 have hni1 : a0.length ≤ maxLen := ha0.1
 have hni4 : i1 ≤ maxLen := (by omega)
 refine Xa (n := i1) (fun i4 hi4 => ?_) (fun m hm => ?_) i0
 ·unfold M.QX S.QX
  try simp only [Int.toNat_natCast]
  refine X1 (dt (by omega)) ?_
  refine Yx (Zw (dt (by omega)) (Zw (dt (by omega)) (Zw (dt (by omega)) (Zw (dt (by omega)) XR)))) ?_
  refine XY (fun hb3 => ?_) (fun hb3 => ?_)
  ·exact XI
  ·exact JO (by omega)
 ·unfold M.QX
  try simp only [Int.toNat_natCast]
  exact X2 (decide_eq_false (by omega)) rfl
noncomputable def S.Qu (a0 : List V2) (i1 : Nat) (i9 : Nat) : Option (Unit ⊕ Int) :=
 letS (S.Vi (((a0.getD i1 default).Z0).getD i9 default)) (fun r11 => bif !r11 then (some (.inr 1)) else none)
theorem ZbB (a0 : List V2) (i1 : Nat) (ha0 : LL WF a0) (hi1 : i1 < a0.length) (i0 : Nat) : loopM (M.Qu a0 (i1 : Int)) (i0 : Int) = some (runN (S.Qu a0 i1) (.inl ()) i0 (((a0.getD i1 default).Z0).length - i0)) := by
 have hM := Zo
 have hni1 : a0.length ≤ maxLen := ha0.1
 have hni9 : ((a0.getD i1 default).Z0).length ≤ maxLen := (WF.Z0 (LL.getD ha0 WF.dflt i1))
 refine Xa (n := ((a0.getD i1 default).Z0).length) (fun i9 hi9 => ?_) (fun m hm => ?_) i0
 ·unfold M.Qu S.Qu
  try simp only [Int.toNat_natCast]
  refine Yx (Zw (dt (by omega)) (Zw (dt (by omega)) XR))  ?_
  refine X1 (dt (by omega)) ?_
  refine ZY (Zfb (((a0.getD i1 default).Z0).getD i9 default)) (fun r11 her11 => ?_)
  refine Yx (Zw (dt (by omega)) (Zw (dt (by omega)) (Zw (dt (by omega)) (Zw (dt (by omega)) XR)))) ?_
  refine XY (fun hb6 => ?_) (fun hb6 => ?_)
  ·exact XI
  ·exact JO (by omega)
 ·unfold M.Qu
  try simp only [Int.toNat_natCast]
  refine Yx (Zw (dt (by omega)) (Zw (dt (by omega)) XR))  ?_
  exact X2 (decide_eq_false (by omega)) rfl
noncomputable def S.Qv (a0 : List V2) (i1 : Nat) : Option (Unit ⊕ Int) :=
 letS (S.Jr ((a0.getD i1 default).ZJ)) (fun r3 => bif !r3 then (some (.inr 3)) else (letS (runN (S.QX a0 i1) (.inl ()) 0 i1) (fun y6 => Sum.elim (fun _ => bif (((a0.getD i1 default).Z0).length : Int) == 0 then (some (.inr 1)) else (bif decide ((((a0.getD i1 default).Z0).length : Int) > 16) then (some (.inr 7)) else (letS (runN (S.Qu a0 i1) (.inl ()) 0 (((a0.getD i1 default).Z0).length)) (fun y12 => Sum.elim (fun _ => none) (fun y14 => some (.inr y14)) y12)))) (fun y8 => some (.inr y8)) y6)))
theorem ZbC (a0 : List V2) (ha0 : LL WF a0) (i0 : Nat) : loopM (M.Qv a0) (i0 : Int) = some (runN (S.Qv a0) (.inl ()) i0 (a0.length - i0)) := by
 have hM := Zo
 have hni1 : a0.length ≤ maxLen := ha0.1
 refine Xa (n := a0.length) (fun i1 hi1 => ?_) (fun m hm => ?_) i0
 ·unfold M.Qv S.Qv
  try simp only [Int.toNat_natCast]
  refine X1 (dt (by omega)) ?_
  refine ZY (KV ((a0.getD i1 default).ZJ) (WF.ZJ (LL.getD ha0 WF.dflt i1))) (fun r3 her3 => ?_)
  refine Yx (Zw (dt (by omega)) (Zw (dt (by omega)) XR)) ?_
  refine XY (fun hb2 => ?_) (fun hb2 => ?_)
  ·exact XI
  ·refine ZY (ZbA a0 i1 ha0 hi1 0) (fun y6 hey6 => ?_)
   refine J8 (fun _ hl => ?_) (fun y8 hly8 => ?_)
   ·refine Yx (Zw (dt (by omega)) (Zw (dt (by omega)) XR)) ?_
    refine XY (fun hb4 => ?_) (fun hb4 => ?_)
    ·exact XI
    ·refine Yx (Zw (dt (by omega)) (Zw (dt (by omega)) XR)) ?_
     refine XY (fun hb5 => ?_) (fun hb5 => ?_)
     ·exact XI
     ·refine ZY (ZbB a0 i1 ha0 hi1 0) (fun y12 hey12 => ?_)
      refine J8 (fun _ hl => ?_) (fun y14 hly14 => ?_)
      ·exact JO (by omega)
      ·exact XI
   ·exact XI
 ·unfold M.Qv
  try simp only [Int.toNat_natCast]
  exact X2 (decide_eq_false (by omega)) rfl
noncomputable def S.Q4 (a0 : List V2) : Int :=
 bif decide ((a0.length : Int) > 8) then 7 else (letS (runN (S.Qv a0) (.inl ()) 0 a0.length) (fun y15 => Sum.elim (fun _ => 0) (fun y17 => y17) y15))
theorem ZdQ (a0 : List V2) (ha0 : LL WF a0) : M.Q4 a0 = some (S.Q4 a0) := by
 have hM := Zo
 unfold M.Q4 S.Q4
 refine Jl (fun hb1 => ?_) (fun hb1 => ?_)
 ·rfl
 ·refine Z6 (ZbC a0 ha0 0) (fun y15 hey15 => ?_)
  refine Qq (fun _ hl => ?_) (fun y17 hly17 => ?_)
  ·rfl
  ·rfl
noncomputable def S.Us (a0 : Zf) (a1 : ByteArray) (i1 : Nat) : Option (Unit ⊕ Int) :=
 bif strEq ((a0.Xh.getD i1 default).ZJ) a1 then (some (.inr (i1 : Int))) else none
theorem Zhe (a0 : Zf) (a1 : ByteArray) (ha0 : Zj a0) (ha1 : a1.size ≤ maxLen) (i0 : Nat) : loopM (M.Us a0 a1) (i0 : Int) = some (runN (S.Us a0 a1) (.inl ()) i0 (a0.Xh.length - i0)) := by
 have hM := Zo
 have hni1 : a0.Xh.length ≤ maxLen := (Zj.Xh ha0).1
 refine Xa (n := a0.Xh.length) (fun i1 hi1 => ?_) (fun m hm => ?_) i0
 ·unfold M.Us S.Us
  try simp only [Int.toNat_natCast]
  refine X1 (dt (by omega)) ?_
  refine Yx (Zw (dt (by omega)) (Zw (dt (by omega)) XR)) ?_
  refine XY (fun hb1 => ?_) (fun hb1 => ?_)
  ·exact XI
  ·exact JO (by omega)
 ·unfold M.Us
  try simp only [Int.toNat_natCast]
  exact X2 (decide_eq_false (by omega)) rfl
noncomputable def S.Ut (a0 : Zf) (a1 : ByteArray) : Int :=
 letS (runN (S.Us a0 a1) (.inl ()) 0 a0.Xh.length) (fun y3 => Sum.elim (fun _ => -1) (fun y5 => y5) y3)
theorem ZdR (a0 : Zf) (a1 : ByteArray) (ha0 : Zj a0) (ha1 : a1.size ≤ maxLen) : M.Ut a0 a1 = some (S.Ut a0 a1) := by
 have hM := Zo
 unfold M.Ut S.Ut
 refine Z6 (Zhe a0 a1 ha0 ha1 0) (fun y3 hey3 => ?_)
 refine Qq (fun _ hl => ?_) (fun y5 hly5 => ?_)
 ·rfl
 ·rfl
noncomputable def S.Yb (a0 : Zf) (i1 : Nat) (p3 : Bool) : Option (Unit ⊕ Int) :=
 bif !p3 then (some (.inr 1)) else (letS (bif (((a0.Xf.getD i1 default).JX) == 2) then S.Ut a0 ((a0.Xf.getD i1 default).QE) else default) (fun r4 => bif (((a0.Xf.getD i1 default).JX) == 2) && (decide (r4 < 0)) then (some (.inr 5)) else none))
theorem W2 (a0 : Zf) (i1 : Nat) (p3 : Bool) (ha0 : Zj a0) (hi1 : i1 < a0.Xf.length) : M.Yb a0 (i1 : Int) p3 = some (rdN (S.Yb a0 i1 p3) i1) := by
 have hM := Zo
 have hni1 : a0.Xf.length ≤ maxLen := (Zj.Xf ha0).1
 unfold M.Yb S.Yb
 try simp only [Int.toNat_natCast]
 refine XY (fun hb3 => ?_) (fun hb3 => ?_)
 ·exact XI
 ·refine ZY (JE fun hg => (ZdR a0 ((a0.Xf.getD i1 default).QE) ha0 (JH.QE (LL.getD (Zj.Xf ha0) JH.dflt i1)))) (fun r4 her4 => ?_)
  refine XY (fun hb4 => ?_) (fun hb4 => ?_)
  ·exact XI
  ·exact JO (by omega)
noncomputable def S.Qc (a0 : Zf) (i1 : Nat) : Option (Unit ⊕ Int) :=
 bif ((a0.Xf.getD i1 default).JX) == 1 then (S.Yb a0 i1 (((((a0.Xf.getD i1 default).Qj) != 0) && (((a0.Xf.getD i1 default).Yv) != 0)) && ((((a0.Xf.getD i1 default).JX) == ((a0.Xf.getD i1 default).JX)) && ((((a0.Xf.getD i1 default).Qj) == ((a0.Xf.getD i1 default).Qj)) && ((((a0.Xf.getD i1 default).Yv) == ((a0.Xf.getD i1 default).Yv)) && ((((a0.Xf.getD i1 default).Yc) == 0) && ((((a0.Xf.getD i1 default).Qp) == 0) && ((((a0.Xf.getD i1 default).YO) == 0) && (strEq ((a0.Xf.getD i1 default).QE) (⟨#[]⟩ : ByteArray) && ((((a0.Xf.getD i1 default).Gv) == 0) && ((((a0.Xf.getD i1 default).G4) == 0) && true))))))))))) else (bif ((a0.Xf.getD i1 default).JX) == 2 then (S.Yb a0 i1 ((((((a0.Xf.getD i1 default).Gv) != 0) && (decide (((a0.Xf.getD i1 default).Gv) ≤ ((a0.Xf.getD i1 default).G4)))) && (decide ((wr .u32 (((a0.Xf.getD i1 default).G4) - ((a0.Xf.getD i1 default).Gv))) < 8))) && ((((a0.Xf.getD i1 default).JX) == ((a0.Xf.getD i1 default).JX)) && ((((a0.Xf.getD i1 default).Qj) == 0) && ((((a0.Xf.getD i1 default).Yv) == 0) && ((((a0.Xf.getD i1 default).Yc) == 0) && ((((a0.Xf.getD i1 default).Qp) == 0) && ((((a0.Xf.getD i1 default).YO) == 0) && (strEq ((a0.Xf.getD i1 default).QE) ((a0.Xf.getD i1 default).QE) && ((((a0.Xf.getD i1 default).Gv) == ((a0.Xf.getD i1 default).Gv)) && ((((a0.Xf.getD i1 default).G4) == ((a0.Xf.getD i1 default).G4)) && true))))))))))) else (bif ((a0.Xf.getD i1 default).JX) == 3 then (letS (bif (((((a0.Xf.getD i1 default).Qj) != 0) && (((a0.Xf.getD i1 default).Yv) != 0)) && ((((a0.Xf.getD i1 default).Yc) == 6) || (((a0.Xf.getD i1 default).Yc) == 17))) then S.ZD ((a0.Xf.getD i1 default).Qp) 0 65535 else default) (fun r5 => letS (bif ((((((a0.Xf.getD i1 default).Qj) != 0) && (((a0.Xf.getD i1 default).Yv) != 0)) && ((((a0.Xf.getD i1 default).Yc) == 6) || (((a0.Xf.getD i1 default).Yc) == 17))) && r5) then S.ZD ((a0.Xf.getD i1 default).YO) 0 65535 else default) (fun r6 => S.Yb a0 i1 ((((((((((a0.Xf.getD i1 default).Qj) != 0) && (((a0.Xf.getD i1 default).Yv) != 0)) && ((((a0.Xf.getD i1 default).Yc) == 6) || (((a0.Xf.getD i1 default).Yc) == 17))) && r5) && r6) && (strEq ((a0.Xf.getD i1 default).QE) (⟨#[]⟩ : ByteArray))) && (((a0.Xf.getD i1 default).Gv) == 0)) && (((a0.Xf.getD i1 default).G4) == 0))))) else (S.Yb a0 i1 false)))
theorem Za8 (a0 : Zf) (ha0 : Zj a0) (i0 : Nat) : loopM (M.Qc a0) (i0 : Int) = some (runN (S.Qc a0) (.inl ()) i0 (a0.Xf.length - i0)) := by
 have hM := Zo
 have hni1 : a0.Xf.length ≤ maxLen := (Zj.Xf ha0).1
 refine Xa (n := a0.Xf.length) (fun i1 hi1 => ?_) (fun m hm => ?_) i0
 ·unfold M.Qc S.Qc
  try simp only [Int.toNat_natCast]
  refine X1 (dt (by omega)) ?_
  refine Yx (Zw (dt (by omega)) (Zw (dt (by omega)) XR)) ?_
  refine XY (fun hb2 => ?_) (fun hb2 => ?_)
  ·exact W2 a0 i1 (((((a0.Xf.getD i1 default).Qj) != 0) && (((a0.Xf.getD i1 default).Yv) != 0)) && ((((a0.Xf.getD i1 default).JX) == ((a0.Xf.getD i1 default).JX)) && ((((a0.Xf.getD i1 default).Qj) == ((a0.Xf.getD i1 default).Qj)) && ((((a0.Xf.getD i1 default).Yv) == ((a0.Xf.getD i1 default).Yv)) && ((((a0.Xf.getD i1 default).Yc) == 0) && ((((a0.Xf.getD i1 default).Qp) == 0) && ((((a0.Xf.getD i1 default).YO) == 0) && (strEq ((a0.Xf.getD i1 default).QE) (⟨#[]⟩ : ByteArray) && ((((a0.Xf.getD i1 default).Gv) == 0) && ((((a0.Xf.getD i1 default).G4) == 0) && true)))))))))) ha0 hi1
  ·refine XY (fun hb5 => ?_) (fun hb5 => ?_)
   ·exact W2 a0 i1 ((((((a0.Xf.getD i1 default).Gv) != 0) && (decide (((a0.Xf.getD i1 default).Gv) ≤ ((a0.Xf.getD i1 default).G4)))) && (decide ((wr .u32 (((a0.Xf.getD i1 default).G4) - ((a0.Xf.getD i1 default).Gv))) < 8))) && ((((a0.Xf.getD i1 default).JX) == ((a0.Xf.getD i1 default).JX)) && ((((a0.Xf.getD i1 default).Qj) == 0) && ((((a0.Xf.getD i1 default).Yv) == 0) && ((((a0.Xf.getD i1 default).Yc) == 0) && ((((a0.Xf.getD i1 default).Qp) == 0) && ((((a0.Xf.getD i1 default).YO) == 0) && (strEq ((a0.Xf.getD i1 default).QE) ((a0.Xf.getD i1 default).QE) && ((((a0.Xf.getD i1 default).Gv) == ((a0.Xf.getD i1 default).Gv)) && ((((a0.Xf.getD i1 default).G4) == ((a0.Xf.getD i1 default).G4)) && true)))))))))) ha0 hi1
   ·refine XY (fun hb6 => ?_) (fun hb6 => ?_)
    ·refine ZY (JE fun hg => (Yh ((a0.Xf.getD i1 default).Qp) 0 65535)) (fun r5 her5 => ?_)
     refine ZY (JE fun hg => (Yh ((a0.Xf.getD i1 default).YO) 0 65535)) (fun r6 her6 => ?_)
     exact W2 a0 i1 ((((((((((a0.Xf.getD i1 default).Qj) != 0) && (((a0.Xf.getD i1 default).Yv) != 0)) && ((((a0.Xf.getD i1 default).Yc) == 6) || (((a0.Xf.getD i1 default).Yc) == 17))) && r5) && r6) && (strEq ((a0.Xf.getD i1 default).QE) (⟨#[]⟩ : ByteArray))) && (((a0.Xf.getD i1 default).Gv) == 0)) && (((a0.Xf.getD i1 default).G4) == 0)) ha0 hi1
    ·exact W2 a0 i1 false ha0 hi1
 ·unfold M.Qc
  try simp only [Int.toNat_natCast]
  exact X2 (decide_eq_false (by omega)) rfl
noncomputable def S.QI (a0 : Zf) : Int :=
 bif decide ((a0.Xf.length : Int) > 8) then 7 else (letS (runN (S.Qc a0) (.inl ()) 0 a0.Xf.length) (fun y7 => Sum.elim (fun _ => 0) (fun y9 => y9) y7))
theorem Zc7 (a0 : Zf) (ha0 : Zj a0) : M.QI a0 = some (S.QI a0) := by
 have hM := Zo
 unfold M.QI S.QI
 refine Jl (fun hb1 => ?_) (fun hb1 => ?_)
 ·rfl
 ·refine Z6 (Za8 a0 ha0 0) (fun y7 hey7 => ?_)
  refine Qq (fun _ hl => ?_) (fun y9 hly9 => ?_)
  ·rfl
  ·rfl
noncomputable def S.VU (a0 : Zf) (i1 : Nat) : Option (Unit ⊕ Int) :=
 letS (bif (!strEq ((a0.Zc.getD i1 default).Vr) (⟨#[]⟩ : ByteArray)) then S.Ut a0 ((a0.Zc.getD i1 default).Vr) else default) (fun r3 => letS (bif ((!((!strEq ((a0.Zc.getD i1 default).Vr) (⟨#[]⟩ : ByteArray)) && (decide (r3 < 0)))) && (!strEq ((a0.Zc.getD i1 default).YD) (⟨#[]⟩ : ByteArray))) then S.Ut a0 ((a0.Zc.getD i1 default).YD) else default) (fun r4 => bif ((!strEq ((a0.Zc.getD i1 default).Vr) (⟨#[]⟩ : ByteArray)) && (decide (r3 < 0))) || ((!strEq ((a0.Zc.getD i1 default).YD) (⟨#[]⟩ : ByteArray)) && (decide (r4 < 0))) then (some (.inr 5)) else none))
theorem ZeG (a0 : Zf) (ha0 : Zj a0) (i0 : Nat) : loopM (M.VU a0) (i0 : Int) = some (runN (S.VU a0) (.inl ()) i0 (a0.Zc.length - i0)) := by
 have hM := Zo
 have hni1 : a0.Zc.length ≤ maxLen := (Zj.Zc ha0).1
 refine Xa (n := a0.Zc.length) (fun i1 hi1 => ?_) (fun m hm => ?_) i0
 ·unfold M.VU S.VU
  try simp only [Int.toNat_natCast]
  refine X1 (dt (by omega)) ?_
  refine Yx (Zw (dt (by omega)) (Zw (dt (by omega)) XR)) ?_
  refine ZY (JE fun hg => (ZdR a0 ((a0.Zc.getD i1 default).Vr) ha0 (Xt.Vr (LL.getD (Zj.Zc ha0) Xt.dflt i1)))) (fun r3 her3 => ?_)
  refine ZY (JE fun hg => (ZdR a0 ((a0.Zc.getD i1 default).YD) ha0 (Xt.YD (LL.getD (Zj.Zc ha0) Xt.dflt i1)))) (fun r4 her4 => ?_)
  refine XY (fun hb1 => ?_) (fun hb1 => ?_)
  ·exact XI
  ·exact JO (by omega)
 ·unfold M.VU
  try simp only [Int.toNat_natCast]
  exact X2 (decide_eq_false (by omega)) rfl
noncomputable def S.Wm (a0 : Zf) : Int :=
 letS (runN (S.VU a0) (.inl ()) 0 a0.Zc.length) (fun y5 => Sum.elim (fun _ => 0) (fun y7 => y7) y5)
theorem ZgP (a0 : Zf) (ha0 : Zj a0) : M.Wm a0 = some (S.Wm a0) := by
 have hM := Zo
 unfold M.Wm S.Wm
 refine Z6 (ZeG a0 ha0 0) (fun y5 hey5 => ?_)
 refine Qq (fun _ hl => ?_) (fun y7 hly7 => ?_)
 ·rfl
 ·rfl
noncomputable def S.VV (a0 : Zf) (a1 : Int) (i1 : Nat) : Option (Unit ⊕ Int) :=
 bif (((a0.Zc.getD i1 default).ZK) != 0) && (((a0.Zc.getD i1 default).Zy) == a1) then (some (.inr (i1 : Int))) else none
theorem ZeH (a0 : Zf) (a1 : Int) (ha0 : Zj a0) (i0 : Nat) : loopM (M.VV a0 a1) (i0 : Int) = some (runN (S.VV a0 a1) (.inl ()) i0 (a0.Zc.length - i0)) := by
 have hM := Zo
 have hni1 : a0.Zc.length ≤ maxLen := (Zj.Zc ha0).1
 refine Xa (n := a0.Zc.length) (fun i1 hi1 => ?_) (fun m hm => ?_) i0
 ·unfold M.VV S.VV
  try simp only [Int.toNat_natCast]
  refine X1 (dt (by omega)) ?_
  refine Yx (Zw (dt (by omega)) (Zw (dt (by omega)) (Zw (QY fun hg => (dt (by first | omega | (simp; omega) | (simp at *; omega)))) (Zw (QY fun hg => (dt (by first | omega | (simp; omega) | (simp at *; omega)))) XR)))) ?_
  refine XY (fun hb1 => ?_) (fun hb1 => ?_)
  ·exact XI
  ·exact JO (by omega)
 ·unfold M.VV
  try simp only [Int.toNat_natCast]
  exact X2 (decide_eq_false (by omega)) rfl
noncomputable def S.Je (a0 : Zf) (a1 : Int) : Int :=
 letS (runN (S.VV a0 a1) (.inl ()) 0 a0.Zc.length) (fun y3 => Sum.elim (fun _ => -1) (fun y5 => y5) y3)
theorem Zcx (a0 : Zf) (a1 : Int) (ha0 : Zj a0) : M.Je a0 a1 = some (S.Je a0 a1) := by
 have hM := Zo
 unfold M.Je S.Je
 refine Z6 (ZeH a0 a1 ha0 0) (fun y3 hey3 => ?_)
 refine Qq (fun _ hl => ?_) (fun y5 hly5 => ?_)
 ·rfl
 ·rfl
noncomputable def S.JL (a0 : Zf) (a1 : ByteArray) (i1 : Nat) : Option (Unit ⊕ Int) :=
 bif strEq ((a0.Zc.getD i1 default).ZJ) a1 then (some (.inr (i1 : Int))) else none
theorem Zc8 (a0 : Zf) (a1 : ByteArray) (ha0 : Zj a0) (ha1 : a1.size ≤ maxLen) (i0 : Nat) : loopM (M.JL a0 a1) (i0 : Int) = some (runN (S.JL a0 a1) (.inl ()) i0 (a0.Zc.length - i0)) := by
 have hM := Zo
 have hni1 : a0.Zc.length ≤ maxLen := (Zj.Zc ha0).1
 refine Xa (n := a0.Zc.length) (fun i1 hi1 => ?_) (fun m hm => ?_) i0
 ·unfold M.JL S.JL
  try simp only [Int.toNat_natCast]
  refine X1 (dt (by omega)) ?_
  refine Yx (Zw (dt (by omega)) (Zw (dt (by omega)) XR)) ?_
  refine XY (fun hb1 => ?_) (fun hb1 => ?_)
  ·exact XI
  ·exact JO (by omega)
 ·unfold M.JL
  try simp only [Int.toNat_natCast]
  exact X2 (decide_eq_false (by omega)) rfl
noncomputable def S.J2 (a0 : Zf) (a1 : ByteArray) : Int :=
 letS (runN (S.JL a0 a1) (.inl ()) 0 a0.Zc.length) (fun y3 => Sum.elim (fun _ => -1) (fun y5 => y5) y3)
theorem Zfc (a0 : Zf) (a1 : ByteArray) (ha0 : Zj a0) (ha1 : a1.size ≤ maxLen) : M.J2 a0 a1 = some (S.J2 a0 a1) := by
 have hM := Zo
 unfold M.J2 S.J2
 refine Z6 (Zc8 a0 a1 ha0 ha1 0) (fun y3 hey3 => ?_)
 refine Qq (fun _ hl => ?_) (fun y5 hly5 => ?_)
 ·rfl
 ·rfl
theorem ZdS (a0 : Zf) (a1 : ByteArray) : S.J2 a0 a1 < (a0.Zc.length : Int) := by
 unfold S.J2
 simp only [letS]
 exact ZlY (fun i => by unfold S.JL; cases strEq (a0.Zc.getD i default).ZJ a1 <;> simp) _
noncomputable def S.Jx (a0 : Zf) (i1 : Nat) (i11 : Nat) : Option (Unit ⊕ Int) :=
 bif (((((a0.Zr.getD i11 default).Zp).Zy) == (((a0.Zr.getD i1 default).Zp).Zy)) && (((((a0.Zr.getD i11 default).Zp).ZK) == (((a0.Zr.getD i1 default).Zp).ZK)) && true)) && (((a0.Zr.getD i11 default).Xd) == ((a0.Zr.getD i1 default).Xd)) then (some (.inr 6)) else none
theorem ZeI (a0 : Zf) (i1 : Nat) (ha0 : Zj a0) (hi1 : i1 < a0.Zr.length) (i0 : Nat) : loopM (M.Jx a0 (i1 : Int)) (i0 : Int) = some (runN (S.Jx a0 i1) (.inl ()) i0 (i1 - i0)) := by
 have hM := Zo
 have hni1 : a0.Zr.length ≤ maxLen := (Zj.Zr ha0).1
 have hni11 : i1 ≤ maxLen := (by omega)
 refine Xa (n := i1) (fun i11 hi11 => ?_) (fun m hm => ?_) i0
 ·unfold M.Jx S.Jx
  try simp only [Int.toNat_natCast]
  refine X1 (dt (by omega)) ?_
  refine Yx (Zw (dt (by omega)) (Zw (dt (by omega)) (Zw (QY fun hg => (dt (by first | omega | (simp; omega) | (simp at *; omega)))) (Zw (QY fun hg => (dt (by first | omega | (simp; omega) | (simp at *; omega)))) XR)))) ?_
  refine XY (fun hb9 => ?_) (fun hb9 => ?_)
  ·exact XI
  ·exact JO (by omega)
 ·unfold M.Jx
  try simp only [Int.toNat_natCast]
  exact X2 (decide_eq_false (by omega)) rfl
noncomputable def S.Jy (a0 : Zf) (i1 : Nat) (_p10 : Unit) : Option (Unit ⊕ Int) :=
 letS (runN (S.Jx a0 i1) (.inl ()) 0 i1) (fun y13 => Sum.elim (fun _ => none) (fun y15 => some (.inr y15)) y13)
theorem R5 (a0 : Zf) (i1 : Nat) (_p10 : Unit) (ha0 : Zj a0) (hi1 : i1 < a0.Zr.length) : M.Jy a0 (i1 : Int) _p10 = some (rdN (S.Jy a0 i1 _p10) i1) := by
 have hM := Zo
 have hni1 : a0.Zr.length ≤ maxLen := (Zj.Zr ha0).1
 unfold M.Jy S.Jy
 try simp only [Int.toNat_natCast]
 refine ZY (ZeI a0 i1 ha0 hi1 0) (fun y13 hey13 => ?_)
 refine J8 (fun _ hl => ?_) (fun y15 hly15 => ?_)
 ·exact JO (by omega)
 ·exact XI
noncomputable def S.Jz (a0 : Zf) (i1 : Nat) (p5 : Int) : Option (Unit ⊕ Int) :=
 letS (S.YY ((a0.Zr.getD i1 default).Zp)) (fun r6 => letS (bif ((!((!r6) || (p5 != 1))) && (((a0.Zr.getD i1 default).Ve) != 0)) then S.Je a0 ((a0.Zr.getD i1 default).Ve) else default) (fun r7 => letS (bif (!(((!r6) || (p5 != 1)) || ((((a0.Zr.getD i1 default).Ve) != 0) && (decide (r7 ≥ 0))))) then S.ZD ((a0.Zr.getD i1 default).Xd) 1 255 else default) (fun r8 => letS (bif (!((((!r6) || (p5 != 1)) || ((((a0.Zr.getD i1 default).Ve) != 0) && (decide (r7 ≥ 0)))) || (!r8))) then S.ZD ((a0.Zr.getD i1 default).UK) 0 65535 else default) (fun r9 => bif ((((!r6) || (p5 != 1)) || ((((a0.Zr.getD i1 default).Ve) != 0) && (decide (r7 ≥ 0)))) || (!r8)) || (!r9) then (some (.inr 1)) else (bif !strEq ((a0.Zr.getD i1 default).Qx) (⟨#[]⟩ : ByteArray) then (letS (S.J2 a0 ((a0.Zr.getD i1 default).Qx)) (fun r16 => bif decide (r16 < 0) then (some (.inr 5)) else (bif ((a0.Zc.getD r16.toNat default).ZK) == 0 then (some (.inr 1)) else (S.Jy a0 i1 ())))) else (S.Jy a0 i1 ()))))))
theorem R6 (a0 : Zf) (i1 : Nat) (p5 : Int) (ha0 : Zj a0) (hi1 : i1 < a0.Zr.length) : M.Jz a0 (i1 : Int) p5 = some (rdN (S.Jz a0 i1 p5) i1) := by
 have hM := Zo
 have hni1 : a0.Zr.length ≤ maxLen := (Zj.Zr ha0).1
 unfold M.Jz S.Jz
 try simp only [Int.toNat_natCast]
 refine ZY (Gi ((a0.Zr.getD i1 default).Zp)) (fun r6 her6 => ?_)
 refine ZY (JE fun hg => (Zcx a0 ((a0.Zr.getD i1 default).Ve) ha0)) (fun r7 her7 => ?_)
 refine ZY (JE fun hg => (Yh ((a0.Zr.getD i1 default).Xd) 1 255)) (fun r8 her8 => ?_)
 refine ZY (JE fun hg => (Yh ((a0.Zr.getD i1 default).UK) 0 65535)) (fun r9 her9 => ?_)
 refine XY (fun hb5 => ?_) (fun hb5 => ?_)
 ·exact XI
 ·refine XY (fun hb6 => ?_) (fun hb6 => ?_)
  ·refine ZY (Zfc a0 ((a0.Zr.getD i1 default).Qx) ha0 (Jk.Qx (LL.getD (Zj.Zr ha0) Jk.dflt i1))) (fun r16 her16 => ?_)
   have hrr16 := ZdS a0 ((a0.Zr.getD i1 default).Qx)
   refine XY (fun hb7 => ?_) (fun hb7 => ?_)
   ·exact XI
   ·refine Yx (Zw (dt (by first | omega | (simp; omega) | (simp at *; omega))) (Zw (dt (by first | omega | (simp; omega) | (simp at *; omega))) XR)) ?_
    refine XY (fun hb8 => ?_) (fun hb8 => ?_)
    ·exact XI
    ·exact R5 a0 i1 () ha0 hi1
  ·exact R5 a0 i1 () ha0 hi1
noncomputable def S.JA (a0 : Zf) (i1 : Nat) (p4 : Int) : Option (Unit ⊕ Int) :=
 bif (a0.Zr.getD i1 default).Vf then (S.Jz a0 i1 (wr .i64 (p4 + 1))) else (S.Jz a0 i1 p4)
theorem R7 (a0 : Zf) (i1 : Nat) (p4 : Int) (ha0 : Zj a0) (hi1 : i1 < a0.Zr.length) : M.JA a0 (i1 : Int) p4 = some (rdN (S.JA a0 i1 p4) i1) := by
 have hM := Zo
 have hni1 : a0.Zr.length ≤ maxLen := (Zj.Zr ha0).1
 unfold M.JA S.JA
 try simp only [Int.toNat_natCast]
 refine XY (fun hb4 => ?_) (fun hb4 => ?_)
 ·exact R6 a0 i1 (wr .i64 (p4 + 1)) ha0 hi1
 ·exact R6 a0 i1 p4 ha0 hi1
noncomputable def S.JB (a0 : Zf) (i1 : Nat) (p3 : Int) : Option (Unit ⊕ Int) :=
 bif !strEq ((a0.Zr.getD i1 default).Qx) (⟨#[]⟩ : ByteArray) then (S.JA a0 i1 (wr .i64 (p3 + 1))) else (S.JA a0 i1 p3)
theorem R8 (a0 : Zf) (i1 : Nat) (p3 : Int) (ha0 : Zj a0) (hi1 : i1 < a0.Zr.length) : M.JB a0 (i1 : Int) p3 = some (rdN (S.JB a0 i1 p3) i1) := by
 have hM := Zo
 have hni1 : a0.Zr.length ≤ maxLen := (Zj.Zr ha0).1
 unfold M.JB S.JB
 try simp only [Int.toNat_natCast]
 refine XY (fun hb3 => ?_) (fun hb3 => ?_)
 ·exact R7 a0 i1 (wr .i64 (p3 + 1)) ha0 hi1
 ·exact R7 a0 i1 p3 ha0 hi1
noncomputable def S.J3 (a0 : Zf) (i1 : Nat) : Option (Unit ⊕ Int) :=
 bif ((a0.Zr.getD i1 default).Ve) != 0 then (S.JB a0 i1 1) else (S.JB a0 i1 0)
theorem ZeJ (a0 : Zf) (ha0 : Zj a0) (i0 : Nat) : loopM (M.J3 a0) (i0 : Int) = some (runN (S.J3 a0) (.inl ()) i0 (a0.Zr.length - i0)) := by
 have hM := Zo
 have hni1 : a0.Zr.length ≤ maxLen := (Zj.Zr ha0).1
 refine Xa (n := a0.Zr.length) (fun i1 hi1 => ?_) (fun m hm => ?_) i0
 ·unfold M.J3 S.J3
  try simp only [Int.toNat_natCast]
  refine X1 (dt (by omega)) ?_
  refine Yx (Zw (dt (by omega)) (Zw (dt (by omega)) XR)) ?_
  refine XY (fun hb2 => ?_) (fun hb2 => ?_)
  ·exact R8 a0 i1 1 ha0 hi1
  ·exact R8 a0 i1 0 ha0 hi1
 ·unfold M.J3
  try simp only [Int.toNat_natCast]
  exact X2 (decide_eq_false (by omega)) rfl
noncomputable def S.VW (a0 : Zf) : Int :=
 bif decide ((a0.Zr.length : Int) > 16) then 7 else (letS (runN (S.J3 a0) (.inl ()) 0 a0.Zr.length) (fun y17 => Sum.elim (fun _ => 0) (fun y19 => y19) y17))
theorem ZgQ (a0 : Zf) (ha0 : Zj a0) : M.VW a0 = some (S.VW a0) := by
 have hM := Zo
 unfold M.VW S.VW
 refine Jl (fun hb1 => ?_) (fun hb1 => ?_)
 ·rfl
 ·refine Z6 (ZeJ a0 ha0 0) (fun y17 hey17 => ?_)
  refine Qq (fun _ hl => ?_) (fun y19 hly19 => ?_)
  ·rfl
  ·rfl
noncomputable def S.Vv (a0 : Zf) (a1 : ByteArray) (i1 : Nat) : Option (Unit ⊕ Int) :=
 bif strEq ((a0.ZR.getD i1 default).ZJ) a1 then (some (.inr (i1 : Int))) else none
theorem ZdT (a0 : Zf) (a1 : ByteArray) (ha0 : Zj a0) (ha1 : a1.size ≤ maxLen) (i0 : Nat) : loopM (M.Vv a0 a1) (i0 : Int) = some (runN (S.Vv a0 a1) (.inl ()) i0 (a0.ZR.length - i0)) := by
 have hM := Zo
 have hni1 : a0.ZR.length ≤ maxLen := (Zj.ZR ha0).1
 refine Xa (n := a0.ZR.length) (fun i1 hi1 => ?_) (fun m hm => ?_) i0
 ·unfold M.Vv S.Vv
  try simp only [Int.toNat_natCast]
  refine X1 (dt (by omega)) ?_
  refine Yx (Zw (dt (by omega)) (Zw (dt (by omega)) XR)) ?_
  refine XY (fun hb1 => ?_) (fun hb1 => ?_)
  ·exact XI
  ·exact JO (by omega)
 ·unfold M.Vv
  try simp only [Int.toNat_natCast]
  exact X2 (decide_eq_false (by omega)) rfl
noncomputable def S.JM (a0 : Zf) (a1 : ByteArray) : Int :=
 letS (runN (S.Vv a0 a1) (.inl ()) 0 a0.ZR.length) (fun y3 => Sum.elim (fun _ => -1) (fun y5 => y5) y3)
theorem K4 (a0 : Zf) (a1 : ByteArray) (ha0 : Zj a0) (ha1 : a1.size ≤ maxLen) : M.JM a0 a1 = some (S.JM a0 a1) := by
 have hM := Zo
 unfold M.JM S.JM
 refine Z6 (ZdT a0 a1 ha0 ha1 0) (fun y3 hey3 => ?_)
 refine Qq (fun _ hl => ?_) (fun y5 hly5 => ?_)
 ·rfl
 ·rfl
noncomputable def S.Yo (a1 : List Yi) (i1 : Nat) (i7 : Nat) : Option (Unit ⊕ Int) :=
 bif ((a1.getD i7 default).WT) == ((a1.getD i1 default).WT) then (some (.inr 4)) else none
theorem RQ (a1 : List Yi) (i1 : Nat) (ha1 : LL J7 a1) (hi1 : i1 < a1.length) (i0 : Nat) : loopM (M.Yo a1 (i1 : Int)) (i0 : Int) = some (runN (S.Yo a1 i1) (.inl ()) i0 (i1 - i0)) := by
 have hM := Zo
 have hni1 : a1.length ≤ maxLen := ha1.1
 have hni7 : i1 ≤ maxLen := (by omega)
 refine Xa (n := i1) (fun i7 hi7 => ?_) (fun m hm => ?_) i0
 ·unfold M.Yo S.Yo
  try simp only [Int.toNat_natCast]
  refine X1 (dt (by omega)) ?_
  refine Yx (Zw (dt (by omega)) (Zw (dt (by omega)) XR)) ?_
  refine XY (fun hb5 => ?_) (fun hb5 => ?_)
  ·exact XI
  ·exact JO (by omega)
 ·unfold M.Yo
  try simp only [Int.toNat_natCast]
  exact X2 (decide_eq_false (by omega)) rfl
noncomputable def S.YC (a0 : Zf) (a1 : List Yi) (a2 : Int) (a3 : Int) (a4 : Int) (i1 : Nat) : Option (Unit ⊕ Int) :=
 letS (S.ZD ((a1.getD i1 default).WT) 1 5) (fun r3 => letS (bif (!((!r3) || (((a1.getD i1 default).WT) == a2))) then S.ZD ((a1.getD i1 default).Kv) a3 a4 else default) (fun r4 => letS (bif (!(((!r3) || (((a1.getD i1 default).WT) == a2)) || (!r4))) then S.ZD ((a1.getD i1 default).UK) 0 65535 else default) (fun r5 => bif (((!r3) || (((a1.getD i1 default).WT) == a2)) || (!r4)) || (!r5) then (some (.inr 1)) else (bif (((a2 == 3) && (((a1.getD i1 default).Ke) != 1)) && (((a1.getD i1 default).Ke) != 2)) || ((a2 != 3) && (((a1.getD i1 default).Ke) != 0)) then (some (.inr 1)) else (letS (bif (!strEq ((a1.getD i1 default).Rs) (⟨#[]⟩ : ByteArray)) then S.JM a0 ((a1.getD i1 default).Rs) else default) (fun r6 => bif (!strEq ((a1.getD i1 default).Rs) (⟨#[]⟩ : ByteArray)) && (decide (r6 < 0)) then (some (.inr 5)) else (letS (runN (S.Yo a1 i1) (.inl ()) 0 i1) (fun y9 => Sum.elim (fun _ => none) (fun y11 => some (.inr y11)) y9))))))))
theorem RR (a0 : Zf) (a1 : List Yi) (a2 : Int) (a3 : Int) (a4 : Int) (ha0 : Zj a0) (ha1 : LL J7 a1) (i0 : Nat) : loopM (M.YC a0 a1 a2 a3 a4) (i0 : Int) = some (runN (S.YC a0 a1 a2 a3 a4) (.inl ()) i0 (a1.length - i0)) := by
 have hM := Zo
 have hni1 : a1.length ≤ maxLen := ha1.1
 refine Xa (n := a1.length) (fun i1 hi1 => ?_) (fun m hm => ?_) i0
 ·unfold M.YC S.YC
  try simp only [Int.toNat_natCast]
  refine X1 (dt (by omega)) ?_
  refine Yx (Zw (dt (by omega)) (Zw (dt (by omega)) XR)) ?_
  refine ZY (Yh ((a1.getD i1 default).WT) 1 5) (fun r3 her3 => ?_)
  refine ZY (JE fun hg => (Yh ((a1.getD i1 default).Kv) a3 a4)) (fun r4 her4 => ?_)
  refine ZY (JE fun hg => (Yh ((a1.getD i1 default).UK) 0 65535)) (fun r5 her5 => ?_)
  refine XY (fun hb2 => ?_) (fun hb2 => ?_)
  ·exact XI
  ·refine XY (fun hb3 => ?_) (fun hb3 => ?_)
   ·exact XI
   ·refine ZY (JE fun hg => (K4 a0 ((a1.getD i1 default).Rs) ha0 (J7.Rs (LL.getD ha1 J7.dflt i1)))) (fun r6 her6 => ?_)
    refine XY (fun hb4 => ?_) (fun hb4 => ?_)
    ·exact XI
    ·refine ZY (RQ a1 i1 ha1 hi1 0) (fun y9 hey9 => ?_)
     refine J8 (fun _ hl => ?_) (fun y11 hly11 => ?_)
     ·exact JO (by omega)
     ·exact XI
 ·unfold M.YC
  try simp only [Int.toNat_natCast]
  exact X2 (decide_eq_false (by omega)) rfl
noncomputable def S.Yf (a0 : Zf) (a1 : List Yi) (a2 : Int) (a3 : Int) (a4 : Int) : Int :=
 bif decide ((a1.length : Int) > 4) then 7 else (letS (runN (S.YC a0 a1 a2 a3 a4) (.inl ()) 0 a1.length) (fun y12 => Sum.elim (fun _ => 0) (fun y14 => y14) y12))
theorem Gj (a0 : Zf) (a1 : List Yi) (a2 : Int) (a3 : Int) (a4 : Int) (ha0 : Zj a0) (ha1 : LL J7 a1) : M.Yf a0 a1 a2 a3 a4 = some (S.Yf a0 a1 a2 a3 a4) := by
 have hM := Zo
 unfold M.Yf S.Yf
 refine Jl (fun hb1 => ?_) (fun hb1 => ?_)
 ·rfl
 ·refine Z6 (RR a0 a1 a2 a3 a4 ha0 ha1 0) (fun y12 hey12 => ?_)
  refine Qq (fun _ hl => ?_) (fun y14 hly14 => ?_)
  ·rfl
  ·rfl
noncomputable def S.Jf (a0 : Zf) (i2 : Nat) (i6 : Nat) : Option (Unit ⊕ Int) :=
 letS (bif (((a0.X0.ZE.getD i6 default).JW) == ((a0.X0.ZE.getD i2 default).JW)) then S.Vo ((a0.X0.ZE.getD i6 default).Zp) ((a0.X0.ZE.getD i2 default).Zp) else default) (fun r8 => bif (((a0.X0.ZE.getD i6 default).JW) == ((a0.X0.ZE.getD i2 default).JW)) && r8 then (some (.inr 6)) else none)
theorem Zc9 (a0 : Zf) (i2 : Nat) (ha0 : Zj a0) (hi2 : i2 < a0.X0.ZE.length) (i0 : Nat) : loopM (M.Jf a0 (i2 : Int)) (i0 : Int) = some (runN (S.Jf a0 i2) (.inl ()) i0 (i2 - i0)) := by
 have hM := Zo
 have hni2 : a0.X0.ZE.length ≤ maxLen := (Ju.ZE (Zj.X0 ha0))
 have hni6 : i2 ≤ maxLen := (by omega)
 refine Xa (n := i2) (fun i6 hi6 => ?_) (fun m hm => ?_) i0
 ·unfold M.Jf S.Jf
  try simp only [Int.toNat_natCast]
  refine X1 (dt (by omega)) ?_
  refine ZY (JE fun hg => (Zbl ((a0.X0.ZE.getD i6 default).Zp) ((a0.X0.ZE.getD i2 default).Zp))) (fun r8 her8 => ?_)
  refine Yx (Zw (dt (by omega)) (Zw (dt (by omega)) (Zw (dt (by omega)) (Zw (dt (by omega)) (Zw (QY fun hg => (dt (by first | omega | (simp; omega) | (simp at *; omega)))) (Zw (QY fun hg => (dt (by first | omega | (simp; omega) | (simp at *; omega)))) (Zw (QY fun hg => (dt (by first | omega | (simp; omega) | (simp at *; omega)))) (Zw (QY fun hg => (dt (by first | omega | (simp; omega) | (simp at *; omega)))) XR)))))))) ?_
  refine XY (fun hb6 => ?_) (fun hb6 => ?_)
  ·exact XI
  ·exact JO (by omega)
 ·unfold M.Jf
  try simp only [Int.toNat_natCast]
  exact X2 (decide_eq_false (by omega)) rfl
noncomputable def S.Jg (a0 : Zf) (i2 : Nat) : Option (Unit ⊕ Int) :=
 letS (S.ZD ((a0.X0.ZE.getD i2 default).JW) 0 255) (fun r4 => letS (bif (!(!r4)) then S.YY ((a0.X0.ZE.getD i2 default).Zp) else default) (fun r5 => bif (!r4) || (!r5) then (some (.inr 1)) else (letS (runN (S.Jf a0 i2) (.inl ()) 0 i2) (fun y9 => Sum.elim (fun _ => none) (fun y11 => some (.inr y11)) y9))))
theorem Zda (a0 : Zf) (ha0 : Zj a0) (i0 : Nat) : loopM (M.Jg a0) (i0 : Int) = some (runN (S.Jg a0) (.inl ()) i0 (a0.X0.ZE.length - i0)) := by
 have hM := Zo
 have hni2 : a0.X0.ZE.length ≤ maxLen := (Ju.ZE (Zj.X0 ha0))
 refine Xa (n := a0.X0.ZE.length) (fun i2 hi2 => ?_) (fun m hm => ?_) i0
 ·unfold M.Jg S.Jg
  try simp only [Int.toNat_natCast]
  refine X1 (dt (by omega)) ?_
  refine ZY (Yh ((a0.X0.ZE.getD i2 default).JW) 0 255) (fun r4 her4 => ?_)
  refine ZY (JE fun hg => (Gi ((a0.X0.ZE.getD i2 default).Zp))) (fun r5 her5 => ?_)
  refine Yx (Zw (dt (by omega)) (Zw (dt (by omega)) (Zw (QY fun hg => (dt (by first | omega | (simp; omega) | (simp at *; omega)))) (Zw (QY fun hg => (dt (by first | omega | (simp; omega) | (simp at *; omega)))) XR)))) ?_
  refine XY (fun hb5 => ?_) (fun hb5 => ?_)
  ·exact XI
  ·refine ZY (Zc9 a0 i2 ha0 hi2 0) (fun y9 hey9 => ?_)
   refine J8 (fun _ hl => ?_) (fun y11 hly11 => ?_)
   ·exact JO (by omega)
   ·exact XI
 ·unfold M.Jg
  try simp only [Int.toNat_natCast]
  exact X2 (decide_eq_false (by omega)) rfl
noncomputable def S.J4 (a0 : Zf) : Int :=
 bif !a0.X0.Va then (bif ((a0.X0.Xd != 0) || (decide ((a0.X0.ZE.length : Int) > 0))) || (decide ((a0.X0.Zs.length : Int) > 0)) then 1 else 0) else (letS (S.ZD a0.X0.Xd 1 255) (fun r1 => bif !r1 then 1 else (bif decide ((a0.X0.ZE.length : Int) > 4) then 7 else (letS (runN (S.Jg a0) (.inl ()) 0 a0.X0.ZE.length) (fun y12 => Sum.elim (fun _ => letS (S.Yf a0 a0.X0.Zs 3 0 16777215) (fun r15 => r15)) (fun y14 => y14) y12)))))
theorem Zfd (a0 : Zf) (ha0 : Zj a0) : M.J4 a0 = some (S.J4 a0) := by
 have hM := Zo
 unfold M.J4 S.J4
 refine Jl (fun hb1 => ?_) (fun hb1 => ?_)
 ·refine Jl (fun hb2 => ?_) (fun hb2 => ?_)
  ·rfl
  ·rfl
 ·refine Z6 (Yh a0.X0.Xd 1 255) (fun r1 her1 => ?_)
  refine Jl (fun hb3 => ?_) (fun hb3 => ?_)
  ·rfl
  ·refine Jl (fun hb4 => ?_) (fun hb4 => ?_)
   ·rfl
   ·refine Z6 (Zda a0 ha0 0) (fun y12 hey12 => ?_)
    refine Qq (fun _ hl => ?_) (fun y14 hly14 => ?_)
    ·refine Z6 (Gj a0 a0.X0.Zs 3 0 16777215 ha0 (Ju.Zs (Zj.X0 ha0))) (fun r15 her15 => ?_)
     rfl
    ·rfl
noncomputable def S.Vp (a0 : Zf) : Int :=
 bif !a0.Ya.Va then (bif (((a0.Ya.Xd != 0) || (!strEq a0.Ya.Vr (⟨#[]⟩ : ByteArray))) || (!strEq a0.Ya.YD (⟨#[]⟩ : ByteArray))) || (decide ((a0.Ya.Zs.length : Int) > 0)) then 1 else 0) else (letS (S.ZD a0.Ya.Xd 1 255) (fun r1 => bif !r1 then 1 else (letS (bif (!strEq a0.Ya.Vr (⟨#[]⟩ : ByteArray)) then S.QH a0 a0.Ya.Vr else default) (fun r2 => letS (bif ((!((!strEq a0.Ya.Vr (⟨#[]⟩ : ByteArray)) && (decide (r2 < 0)))) && (!strEq a0.Ya.YD (⟨#[]⟩ : ByteArray))) then S.QH a0 a0.Ya.YD else default) (fun r3 => bif ((!strEq a0.Ya.Vr (⟨#[]⟩ : ByteArray)) && (decide (r2 < 0))) || ((!strEq a0.Ya.YD (⟨#[]⟩ : ByteArray)) && (decide (r3 < 0))) then 5 else (letS (S.Yf a0 a0.Ya.Zs 4 1 15) (fun r4 => r4)))))))
theorem ZfI (a0 : Zf) (ha0 : Zj a0) : M.Vp a0 = some (S.Vp a0) := by
 have hM := Zo
 unfold M.Vp S.Vp
 refine Jl (fun hb1 => ?_) (fun hb1 => ?_)
 ·refine Jl (fun hb2 => ?_) (fun hb2 => ?_)
  ·rfl
  ·rfl
 ·refine Z6 (Yh a0.Ya.Xd 1 255) (fun r1 her1 => ?_)
  refine Jl (fun hb3 => ?_) (fun hb3 => ?_)
  ·rfl
  ·refine Z6 (JE fun hg => (KH a0 a0.Ya.Vr ha0 (Yj.Vr (Zj.Ya ha0)))) (fun r2 her2 => ?_)
   refine Z6 (JE fun hg => (KH a0 a0.Ya.YD ha0 (Yj.YD (Zj.Ya ha0)))) (fun r3 her3 => ?_)
   refine Jl (fun hb4 => ?_) (fun hb4 => ?_)
   ·rfl
   ·refine Z6 (Gj a0 a0.Ya.Zs 4 1 15 ha0 (Yj.Zs (Zj.Ya ha0))) (fun r4 her4 => ?_)
    rfl
noncomputable def S.Jh (a0 : Zf) (i1 : Nat) (i6 : Nat) : Option (Unit ⊕ Int) :=
 bif ((a0.ZW.Zk.getD i6 default).Zy) == ((a0.ZW.Zk.getD i1 default).Zy) then (some (.inr 4)) else none
theorem Zdb (a0 : Zf) (i1 : Nat) (ha0 : Zj a0) (hi1 : i1 < a0.ZW.Zk.length) (i0 : Nat) : loopM (M.Jh a0 (i1 : Int)) (i0 : Int) = some (runN (S.Jh a0 i1) (.inl ()) i0 (i1 - i0)) := by
 have hM := Zo
 have hni1 : a0.ZW.Zk.length ≤ maxLen := (Xb.Zk (Zj.ZW ha0)).1
 have hni6 : i1 ≤ maxLen := (by omega)
 refine Xa (n := i1) (fun i6 hi6 => ?_) (fun m hm => ?_) i0
 ·unfold M.Jh S.Jh
  try simp only [Int.toNat_natCast]
  refine X1 (dt (by omega)) ?_
  refine Yx (Zw (dt (by omega)) (Zw (dt (by omega)) (Zw (dt (by omega)) (Zw (dt (by omega)) XR)))) ?_
  refine XY (fun hb4 => ?_) (fun hb4 => ?_)
  ·exact XI
  ·exact JO (by omega)
 ·unfold M.Jh
  try simp only [Int.toNat_natCast]
  exact X2 (decide_eq_false (by omega)) rfl
noncomputable def S.Ji (a0 : Zf) (i1 : Nat) : Option (Unit ⊕ Int) :=
 letS (bif (!(((a0.ZW.Zk.getD i1 default).Zy) == 0)) then S.ZD ((a0.ZW.Zk.getD i1 default).GA) 1 65535 else default) (fun r3 => bif (((a0.ZW.Zk.getD i1 default).Zy) == 0) || (!r3) then (some (.inr 1)) else (letS (bif (!strEq ((a0.ZW.Zk.getD i1 default).Vr) (⟨#[]⟩ : ByteArray)) then S.JM a0 ((a0.ZW.Zk.getD i1 default).Vr) else default) (fun r4 => letS (bif ((!((!strEq ((a0.ZW.Zk.getD i1 default).Vr) (⟨#[]⟩ : ByteArray)) && (decide (r4 < 0)))) && (!strEq ((a0.ZW.Zk.getD i1 default).YD) (⟨#[]⟩ : ByteArray))) then S.JM a0 ((a0.ZW.Zk.getD i1 default).YD) else default) (fun r5 => bif ((!strEq ((a0.ZW.Zk.getD i1 default).Vr) (⟨#[]⟩ : ByteArray)) && (decide (r4 < 0))) || ((!strEq ((a0.ZW.Zk.getD i1 default).YD) (⟨#[]⟩ : ByteArray)) && (decide (r5 < 0))) then (some (.inr 5)) else (letS (runN (S.Jh a0 i1) (.inl ()) 0 i1) (fun y8 => Sum.elim (fun _ => none) (fun y10 => some (.inr y10)) y8))))))
theorem Zdc (a0 : Zf) (ha0 : Zj a0) (i0 : Nat) : loopM (M.Ji a0) (i0 : Int) = some (runN (S.Ji a0) (.inl ()) i0 (a0.ZW.Zk.length - i0)) := by
 have hM := Zo
 have hni1 : a0.ZW.Zk.length ≤ maxLen := (Xb.Zk (Zj.ZW ha0)).1
 refine Xa (n := a0.ZW.Zk.length) (fun i1 hi1 => ?_) (fun m hm => ?_) i0
 ·unfold M.Ji S.Ji
  try simp only [Int.toNat_natCast]
  refine X1 (dt (by omega)) ?_
  refine ZY (JE fun hg => (Yh ((a0.ZW.Zk.getD i1 default).GA) 1 65535)) (fun r3 her3 => ?_)
  refine Yx (Zw (dt (by omega)) (Zw (dt (by omega)) (Zw (QY fun hg => (dt (by first | omega | (simp; omega) | (simp at *; omega)))) (Zw (QY fun hg => (dt (by first | omega | (simp; omega) | (simp at *; omega)))) XR)))) ?_
  refine XY (fun hb2 => ?_) (fun hb2 => ?_)
  ·exact XI
  ·refine ZY (JE fun hg => (K4 a0 ((a0.ZW.Zk.getD i1 default).Vr) ha0 (JP.Vr (LL.getD (Xb.Zk (Zj.ZW ha0)) JP.dflt i1)))) (fun r4 her4 => ?_)
   refine ZY (JE fun hg => (K4 a0 ((a0.ZW.Zk.getD i1 default).YD) ha0 (JP.YD (LL.getD (Xb.Zk (Zj.ZW ha0)) JP.dflt i1)))) (fun r5 her5 => ?_)
   refine Yx (Zw (dt (by omega)) (Zw (dt (by omega)) (Zw (QY fun hg => (dt (by first | omega | (simp; omega) | (simp at *; omega)))) (Zw (QY fun hg => (dt (by first | omega | (simp; omega) | (simp at *; omega)))) (Zw (QY fun hg => (dt (by first | omega | (simp; omega) | (simp at *; omega)))) (Zw (QY fun hg => (dt (by first | omega | (simp; omega) | (simp at *; omega)))) (Zw (QY fun hg => (dt (by first | omega | (simp; omega) | (simp at *; omega)))) (Zw (QY fun hg => (dt (by first | omega | (simp; omega) | (simp at *; omega)))) XR)))))))) ?_
   refine XY (fun hb3 => ?_) (fun hb3 => ?_)
   ·exact XI
   ·refine ZY (Zdb a0 i1 ha0 hi1 0) (fun y8 hey8 => ?_)
    refine J8 (fun _ hl => ?_) (fun y10 hly10 => ?_)
    ·exact JO (by omega)
    ·exact XI
 ·unfold M.Ji
  try simp only [Int.toNat_natCast]
  exact X2 (decide_eq_false (by omega)) rfl
noncomputable def S.Vj (a0 : Zf) : Int :=
 bif decide ((a0.ZW.Zk.length : Int) > 8) then 7 else (letS (runN (S.Ji a0) (.inl ()) 0 a0.ZW.Zk.length) (fun y11 => Sum.elim (fun _ => 0) (fun y13 => y13) y11))
theorem Zfe (a0 : Zf) (ha0 : Zj a0) : M.Vj a0 = some (S.Vj a0) := by
 have hM := Zo
 unfold M.Vj S.Vj
 refine Jl (fun hb1 => ?_) (fun hb1 => ?_)
 ·rfl
 ·refine Z6 (Zdc a0 ha0 0) (fun y11 hey11 => ?_)
  refine Qq (fun _ hl => ?_) (fun y13 hly13 => ?_)
  ·rfl
  ·rfl
noncomputable def S.QC (a0 : Xg) (i1 : Nat) (i4 : Nat) : Option (Unit ⊕ Int) :=
 bif ((((a0.Zt.getD i4 default).Zy) == ((a0.Zt.getD i1 default).Zy)) && ((((a0.Zt.getD i4 default).ZK) == ((a0.Zt.getD i1 default).ZK)) && true)) then (some (.inr 4)) else none
theorem Za9 (a0 : Xg) (i1 : Nat) (ha0 : Xb a0) (hi1 : i1 < a0.Zt.length) (i0 : Nat) : loopM (M.QC a0 (i1 : Int)) (i0 : Int) = some (runN (S.QC a0 i1) (.inl ()) i0 (i1 - i0)) := by
 have hM := Zo
 have hni1 : a0.Zt.length ≤ maxLen := (Xb.Zt ha0)
 have hni4 : i1 ≤ maxLen := (by omega)
 refine Xa (n := i1) (fun i4 hi4 => ?_) (fun m hm => ?_) i0
 ·unfold M.QC S.QC
  try simp only [Int.toNat_natCast]
  refine X1 (dt (by omega)) ?_
  refine Yx (Zw (dt (by omega)) (Zw (dt (by omega)) (Zw (dt (by omega)) (Zw (dt (by omega)) XR)))) ?_
  refine XY (fun hb3 => ?_) (fun hb3 => ?_)
  ·exact XI
  ·exact JO (by omega)
 ·unfold M.QC
  try simp only [Int.toNat_natCast]
  exact X2 (decide_eq_false (by omega)) rfl
noncomputable def S.Qd (a0 : Xg) (i1 : Nat) : Option (Unit ⊕ Int) :=
 letS (S.YY (a0.Zt.getD i1 default)) (fun r3 => bif !r3 then (some (.inr 1)) else (letS (runN (S.QC a0 i1) (.inl ()) 0 i1) (fun y6 => Sum.elim (fun _ => none) (fun y8 => some (.inr y8)) y6)))
theorem Zba (a0 : Xg) (ha0 : Xb a0) (i0 : Nat) : loopM (M.Qd a0) (i0 : Int) = some (runN (S.Qd a0) (.inl ()) i0 (a0.Zt.length - i0)) := by
 have hM := Zo
 have hni1 : a0.Zt.length ≤ maxLen := (Xb.Zt ha0)
 refine Xa (n := a0.Zt.length) (fun i1 hi1 => ?_) (fun m hm => ?_) i0
 ·unfold M.Qd S.Qd
  try simp only [Int.toNat_natCast]
  refine X1 (dt (by omega)) ?_
  refine ZY (Gi (a0.Zt.getD i1 default)) (fun r3 her3 => ?_)
  refine Yx (Zw (dt (by omega)) (Zw (dt (by omega)) XR)) ?_
  refine XY (fun hb2 => ?_) (fun hb2 => ?_)
  ·exact XI
  ·refine ZY (Za9 a0 i1 ha0 hi1 0) (fun y6 hey6 => ?_)
   refine J8 (fun _ hl => ?_) (fun y8 hly8 => ?_)
   ·exact JO (by omega)
   ·exact XI
 ·unfold M.Qd
  try simp only [Int.toNat_natCast]
  exact X2 (decide_eq_false (by omega)) rfl
noncomputable def S.Qe (a0 : Xg) (i12 : Nat) (i15 : Nat) : Option (Unit ⊕ Int) :=
 bif (((((a0.Zq.getD i15 default).Zp).Zy) == (((a0.Zq.getD i12 default).Zp).Zy)) && (((((a0.Zq.getD i15 default).Zp).ZK) == (((a0.Zq.getD i12 default).Zp).ZK)) && true)) then (some (.inr 4)) else none
theorem Zbb (a0 : Xg) (i12 : Nat) (ha0 : Xb a0) (hi12 : i12 < a0.Zq.length) (i0 : Nat) : loopM (M.Qe a0 (i12 : Int)) (i0 : Int) = some (runN (S.Qe a0 i12) (.inl ()) i0 (i12 - i0)) := by
 have hM := Zo
 have hni12 : a0.Zq.length ≤ maxLen := (Xb.Zq ha0)
 have hni15 : i12 ≤ maxLen := (by omega)
 refine Xa (n := i12) (fun i15 hi15 => ?_) (fun m hm => ?_) i0
 ·unfold M.Qe S.Qe
  try simp only [Int.toNat_natCast]
  refine X1 (dt (by omega)) ?_
  refine Yx (Zw (dt (by omega)) (Zw (dt (by omega)) (Zw (dt (by omega)) (Zw (dt (by omega)) XR)))) ?_
  refine XY (fun hb6 => ?_) (fun hb6 => ?_)
  ·exact XI
  ·exact JO (by omega)
 ·unfold M.Qe
  try simp only [Int.toNat_natCast]
  exact X2 (decide_eq_false (by omega)) rfl
noncomputable def S.Qf (a0 : Xg) (i12 : Nat) : Option (Unit ⊕ Int) :=
 letS (S.YY ((a0.Zq.getD i12 default).Zp)) (fun r14 => bif !r14 then (some (.inr 1)) else (letS (runN (S.Qe a0 i12) (.inl ()) 0 i12) (fun y17 => Sum.elim (fun _ => none) (fun y19 => some (.inr y19)) y17)))
theorem Zbc (a0 : Xg) (ha0 : Xb a0) (i0 : Nat) : loopM (M.Qf a0) (i0 : Int) = some (runN (S.Qf a0) (.inl ()) i0 (a0.Zq.length - i0)) := by
 have hM := Zo
 have hni12 : a0.Zq.length ≤ maxLen := (Xb.Zq ha0)
 refine Xa (n := a0.Zq.length) (fun i12 hi12 => ?_) (fun m hm => ?_) i0
 ·unfold M.Qf S.Qf
  try simp only [Int.toNat_natCast]
  refine X1 (dt (by omega)) ?_
  refine ZY (Gi ((a0.Zq.getD i12 default).Zp)) (fun r14 her14 => ?_)
  refine Yx (Zw (dt (by omega)) (Zw (dt (by omega)) XR)) ?_
  refine XY (fun hb5 => ?_) (fun hb5 => ?_)
  ·exact XI
  ·refine ZY (Zbb a0 i12 ha0 hi12 0) (fun y17 hey17 => ?_)
   refine J8 (fun _ hl => ?_) (fun y19 hly19 => ?_)
   ·exact JO (by omega)
   ·exact XI
 ·unfold M.Qf
  try simp only [Int.toNat_natCast]
  exact X2 (decide_eq_false (by omega)) rfl
noncomputable def S.Qg (a0 : Xg) (i23 : Nat) (i27 : Nat) : Option (Unit ⊕ Int) :=
 bif (((((a0.Zm.getD i27 default).Zp).Zy) == (((a0.Zm.getD i23 default).Zp).Zy)) && (((((a0.Zm.getD i27 default).Zp).ZK) == (((a0.Zm.getD i23 default).Zp).ZK)) && true)) then (some (.inr 4)) else none
theorem Zbd (a0 : Xg) (i23 : Nat) (ha0 : Xb a0) (hi23 : i23 < a0.Zm.length) (i0 : Nat) : loopM (M.Qg a0 (i23 : Int)) (i0 : Int) = some (runN (S.Qg a0 i23) (.inl ()) i0 (i23 - i0)) := by
 have hM := Zo
 have hni23 : a0.Zm.length ≤ maxLen := (Xb.Zm ha0)
 have hni27 : i23 ≤ maxLen := (by omega)
 refine Xa (n := i23) (fun i27 hi27 => ?_) (fun m hm => ?_) i0
 ·unfold M.Qg S.Qg
  try simp only [Int.toNat_natCast]
  refine X1 (dt (by omega)) ?_
  refine Yx (Zw (dt (by omega)) (Zw (dt (by omega)) XR)) ?_
  refine XY (fun hb10 => ?_) (fun hb10 => ?_)
  ·exact XI
  ·exact JO (by omega)
 ·unfold M.Qg
  try simp only [Int.toNat_natCast]
  exact X2 (decide_eq_false (by omega)) rfl
noncomputable def S.Qh (a0 : Xg) (i23 : Nat) : Option (Unit ⊕ Int) :=
 letS (S.YY ((a0.Zm.getD i23 default).Zp)) (fun r25 => letS (bif (!(!r25)) then S.YY ((a0.Zm.getD i23 default).fIf) else default) (fun r26 => bif (!r25) || (!r26) then (some (.inr 1)) else (bif (((((a0.Zm.getD i23 default).Zp).Zy) == (((a0.Zm.getD i23 default).fIf).Zy)) && (((((a0.Zm.getD i23 default).Zp).ZK) == (((a0.Zm.getD i23 default).fIf).ZK)) && true)) then (some (.inr 6)) else (letS (runN (S.Qg a0 i23) (.inl ()) 0 i23) (fun y29 => Sum.elim (fun _ => none) (fun y31 => some (.inr y31)) y29)))))
theorem Zbe (a0 : Xg) (ha0 : Xb a0) (i0 : Nat) : loopM (M.Qh a0) (i0 : Int) = some (runN (S.Qh a0) (.inl ()) i0 (a0.Zm.length - i0)) := by
 have hM := Zo
 have hni23 : a0.Zm.length ≤ maxLen := (Xb.Zm ha0)
 refine Xa (n := a0.Zm.length) (fun i23 hi23 => ?_) (fun m hm => ?_) i0
 ·unfold M.Qh S.Qh
  try simp only [Int.toNat_natCast]
  refine X1 (dt (by omega)) ?_
  refine Yx (Zw (dt (by omega)) (Zw (dt (by omega)) XR)) ?_
  refine ZY (Gi ((a0.Zm.getD i23 default).Zp)) (fun r25 her25 => ?_)
  refine ZY (JE fun hg => (Gi ((a0.Zm.getD i23 default).fIf))) (fun r26 her26 => ?_)
  refine XY (fun hb8 => ?_) (fun hb8 => ?_)
  ·exact XI
  ·refine XY (fun hb9 => ?_) (fun hb9 => ?_)
   ·exact XI
   ·refine ZY (Zbd a0 i23 ha0 hi23 0) (fun y29 hey29 => ?_)
    refine J8 (fun _ hl => ?_) (fun y31 hly31 => ?_)
    ·exact JO (by omega)
    ·exact XI
 ·unfold M.Qh
  try simp only [Int.toNat_natCast]
  exact X2 (decide_eq_false (by omega)) rfl
noncomputable def S.Jj (a0 : Xg) : Int :=
 bif decide ((a0.Zt.length : Int) > 8) then 7 else (letS (runN (S.Qd a0) (.inl ()) 0 a0.Zt.length) (fun y9 => Sum.elim (fun _ => bif decide ((a0.Zq.length : Int) > 8) then 7 else (letS (runN (S.Qf a0) (.inl ()) 0 a0.Zq.length) (fun y20 => Sum.elim (fun _ => bif decide ((a0.Zm.length : Int) > 8) then 7 else (letS (runN (S.Qh a0) (.inl ()) 0 a0.Zm.length) (fun y32 => Sum.elim (fun _ => 0) (fun y34 => y34) y32))) (fun y22 => y22) y20))) (fun y11 => y11) y9))
theorem Zdd (a0 : Xg) (ha0 : Xb a0) : M.Jj a0 = some (S.Jj a0) := by
 have hM := Zo
 unfold M.Jj S.Jj
 refine Jl (fun hb1 => ?_) (fun hb1 => ?_)
 ·rfl
 ·refine Z6 (Zba a0 ha0 0) (fun y9 hey9 => ?_)
  refine Qq (fun _ hl => ?_) (fun y11 hly11 => ?_)
  ·refine Jl (fun hb4 => ?_) (fun hb4 => ?_)
   ·rfl
   ·refine Z6 (Zbc a0 ha0 0) (fun y20 hey20 => ?_)
    refine Qq (fun _ hl => ?_) (fun y22 hly22 => ?_)
    ·refine Jl (fun hb7 => ?_) (fun hb7 => ?_)
     ·rfl
     ·refine Z6 (Zbe a0 ha0 0) (fun y32 hey32 => ?_)
      refine Qq (fun _ hl => ?_) (fun y34 hly34 => ?_)
      ·rfl
      ·rfl
    ·rfl
  ·rfl
noncomputable def S.JC (a0 : Zf) : Int :=
 bif !a0.ZW.Va then (bif ((a0.ZW.XN != 0) || (a0.ZW.XO != 0)) || (decide ((wr .i64 ((wr .i64 ((wr .i64 ((wr .i64 ((a0.ZW.Zk.length : Int) + (a0.ZW.Zt.length : Int))) + (a0.ZW.Zq.length : Int))) + (a0.ZW.Zm.length : Int))) + (a0.ZW.Zs.length : Int))) > 0)) then 1 else 0) else (letS (bif (!(a0.GA == 0)) then S.ZD a0.ZW.XN 1 255 else default) (fun r1 => letS (bif (!((a0.GA == 0) || (!r1))) then S.ZD a0.ZW.XO 1 255 else default) (fun r2 => bif ((a0.GA == 0) || (!r1)) || (!r2) then 1 else (letS (S.Vj a0) (fun r3 => bif r3 != 0 then r3 else (letS (S.Jj a0.ZW) (fun r4 => bif r4 != 0 then r4 else (letS (S.Yf a0 a0.ZW.Zs 5 0 16777215) (fun r5 => r5)))))))))
theorem ZeK (a0 : Zf) (ha0 : Zj a0) : M.JC a0 = some (S.JC a0) := by
 have hM := Zo
 unfold M.JC S.JC
 refine Jl (fun hb1 => ?_) (fun hb1 => ?_)
 ·refine Jl (fun hb2 => ?_) (fun hb2 => ?_)
  ·rfl
  ·rfl
 ·refine Z6 (JE fun hg => (Yh a0.ZW.XN 1 255)) (fun r1 her1 => ?_)
  refine Z6 (JE fun hg => (Yh a0.ZW.XO 1 255)) (fun r2 her2 => ?_)
  refine Jl (fun hb3 => ?_) (fun hb3 => ?_)
  ·rfl
  ·refine Z6 (Zfe a0 ha0) (fun r3 her3 => ?_)
   refine Jl (fun hb4 => ?_) (fun hb4 => ?_)
   ·rfl
   ·refine Z6 (Zdd a0.ZW (Zj.ZW ha0)) (fun r4 her4 => ?_)
    refine Jl (fun hb5 => ?_) (fun hb5 => ?_)
    ·rfl
    ·refine Z6 (Gj a0 a0.ZW.Zs 5 0 16777215 ha0 (Xb.Zs (Zj.ZW ha0))) (fun r5 her5 => ?_)
     rfl
noncomputable def S.Jt (r3 : Int) (r4 : Int) (r5 : Int) (r6 : Int) (r7 : Int) (r8 : Int) (r9 : Int) (r10 : Int) (r11 : Int) (r12 : Int) (i13 : Nat) : Option (Unit ⊕ Int) :=
 bif (([r3,r4,r5,r6,r7,r8,r9,r10,r11,r12] : List Int).getD i13 default) != 0 then (some (.inr (([r3,r4,r5,r6,r7,r8,r9,r10,r11,r12] : List Int).getD i13 default))) else none
theorem ZbD (r3 : Int) (r4 : Int) (r5 : Int) (r6 : Int) (r7 : Int) (r8 : Int) (r9 : Int) (r10 : Int) (r11 : Int) (r12 : Int)  (i0 : Nat) : loopM (M.Jt r3 r4 r5 r6 r7 r8 r9 r10 r11 r12) (i0 : Int) = some (runN (S.Jt r3 r4 r5 r6 r7 r8 r9 r10 r11 r12) (.inl ()) i0 (([r3,r4,r5,r6,r7,r8,r9,r10,r11,r12] : List Int).length - i0)) := by
 have hM := Zo
 have hni13 : ([r3,r4,r5,r6,r7,r8,r9,r10,r11,r12] : List Int).length ≤ maxLen := (by simp [Zo])
 refine Xa (n := ([r3,r4,r5,r6,r7,r8,r9,r10,r11,r12] : List Int).length) (fun i13 hi13 => ?_) (fun m hm => ?_) i0
 ·unfold M.Jt S.Jt
  try simp only [Int.toNat_natCast]
  refine X1 (dt (by omega)) ?_
  refine Yx (Zw (dt (by omega)) (Zw (dt (by first | omega | (simp; omega) | (simp at *; omega))) XR)) ?_
  refine XY (fun hb3 => ?_) (fun hb3 => ?_)
  ·refine Yx (Zw (dt (by omega)) (Zw (dt (by first | omega | (simp; omega) | (simp at *; omega))) XR)) ?_
   exact XI
  ·exact JO (by omega)
 ·unfold M.Jt
  try simp only [Int.toNat_natCast]
  exact X2 (decide_eq_false (by omega)) rfl
noncomputable def S.Q5 (a0 : Zf) : Int :=
 letS (S.Jr a0.ZJ) (fun r1 => bif !r1 then 3 else (letS (S.ZD a0.GA 0 65535) (fun r2 => bif !r2 then 1 else (letS (S.Jw a0.Zc) (fun r3 => letS (S.Q3 a0.Z1) (fun r4 => letS (S.J1 a0) (fun r5 => letS (S.Q4 a0.Xh) (fun r6 => letS (S.QI a0) (fun r7 => letS (S.Wm a0) (fun r8 => letS (S.VW a0) (fun r9 => letS (S.J4 a0) (fun r10 => letS (S.Vp a0) (fun r11 => letS (S.JC a0) (fun r12 => letS (runN (S.Jt r3 r4 r5 r6 r7 r8 r9 r10 r11 r12) (.inl ()) 0 (([r3,r4,r5,r6,r7,r8,r9,r10,r11,r12] : List Int).length)) (fun y15 => Sum.elim (fun _ => 0) (fun y17 => y17) y15)))))))))))))))
theorem ZdU (a0 : Zf) (ha0 : Zj a0) : M.Q5 a0 = some (S.Q5 a0) := by
 have hM := Zo
 unfold M.Q5 S.Q5
 refine Z6 (KV a0.ZJ (Zj.ZJ ha0)) (fun r1 her1 => ?_)
 refine Jl (fun hb1 => ?_) (fun hb1 => ?_)
 ·rfl
 ·refine Z6 (Yh a0.GA 0 65535) (fun r2 her2 => ?_)
  refine Jl (fun hb2 => ?_) (fun hb2 => ?_)
  ·rfl
  ·refine Z6 (ZeE a0.Zc (Zj.Zc ha0)) (fun r3 her3 => ?_)
   refine Z6 (ZdP a0.Z1 (Zj.Z1 ha0)) (fun r4 her4 => ?_)
   refine Z6 (Zfa a0 ha0) (fun r5 her5 => ?_)
   refine Z6 (ZdQ a0.Xh (Zj.Xh ha0)) (fun r6 her6 => ?_)
   refine Z6 (Zc7 a0 ha0) (fun r7 her7 => ?_)
   refine Z6 (ZgP a0 ha0) (fun r8 her8 => ?_)
   refine Z6 (ZgQ a0 ha0) (fun r9 her9 => ?_)
   refine Z6 (Zfd a0 ha0) (fun r10 her10 => ?_)
   refine Z6 (ZfI a0 ha0) (fun r11 her11 => ?_)
   refine Z6 (ZeK a0 ha0) (fun r12 her12 => ?_)
   refine Z6 (ZbD r3 r4 r5 r6 r7 r8 r9 r10 r11 r12 0) (fun y15 hey15 => ?_)
   refine Qq (fun _ hl => ?_) (fun y17 hly17 => ?_)
   ·rfl
   ·rfl
noncomputable def S.Wc (a0 : ZG) (i1 : Nat) (i4 : Nat) : Option (Unit ⊕ Int) :=
 bif strEq ((a0.Ze.getD i4 default).ZJ) ((a0.Ze.getD i1 default).ZJ) then (some (.inr 4)) else none
theorem ZfJ (a0 : ZG) (i1 : Nat) (ha0 : Ys a0) (hi1 : i1 < a0.Ze.length) (i0 : Nat) : loopM (M.Wc a0 (i1 : Int)) (i0 : Int) = some (runN (S.Wc a0 i1) (.inl ()) i0 (i1 - i0)) := by
 have hM := Zo
 have hni1 : a0.Ze.length ≤ maxLen := (Ys.Ze ha0).1
 have hni4 : i1 ≤ maxLen := (by omega)
 refine Xa (n := i1) (fun i4 hi4 => ?_) (fun m hm => ?_) i0
 ·unfold M.Wc S.Wc
  try simp only [Int.toNat_natCast]
  refine X1 (dt (by omega)) ?_
  refine Yx (Zw (dt (by omega)) (Zw (dt (by omega)) (Zw (dt (by omega)) (Zw (dt (by omega)) XR)))) ?_
  refine XY (fun hb3 => ?_) (fun hb3 => ?_)
  ·exact XI
  ·exact JO (by omega)
 ·unfold M.Wc
  try simp only [Int.toNat_natCast]
  exact X2 (decide_eq_false (by omega)) rfl
noncomputable def S.VM (a0 : ZG) (i1 : Nat) (i9 : Nat) (i11 : Nat) : Option (Unit ⊕ Int) :=
 letS (bif (((((a0.Ze.getD i1 default).Zc).getD i9 default).ZK) != 0) then S.Je (a0.Ze.getD i11 default) ((((a0.Ze.getD i1 default).Zc).getD i9 default).Zy) else default) (fun r13 => bif (((((a0.Ze.getD i1 default).Zc).getD i9 default).ZK) != 0) && (decide (r13 ≥ 0)) then (some (.inr 4)) else none)
theorem ZfK (a0 : ZG) (i1 : Nat) (i9 : Nat) (ha0 : Ys a0) (hi1 : i1 < a0.Ze.length) (hi9 : i9 < ((a0.Ze.getD i1 default).Zc).length) (i0 : Nat) : loopM (M.VM a0 (i1 : Int) (i9 : Int)) (i0 : Int) = some (runN (S.VM a0 i1 i9) (.inl ()) i0 (i1 - i0)) := by
 have hM := Zo
 have hni1 : a0.Ze.length ≤ maxLen := (Ys.Ze ha0).1
 have hni9 : ((a0.Ze.getD i1 default).Zc).length ≤ maxLen := (Zj.Zc (LL.getD (Ys.Ze ha0) Zj.dflt i1)).1
 have hni11 : i1 ≤ maxLen := (by omega)
 refine Xa (n := i1) (fun i11 hi11 => ?_) (fun m hm => ?_) i0
 ·unfold M.VM S.VM
  try simp only [Int.toNat_natCast]
  refine X1 (dt (by omega)) ?_
  refine ZY (JE fun hg => (Zcx (a0.Ze.getD i11 default) ((((a0.Ze.getD i1 default).Zc).getD i9 default).Zy) (LL.getD (Ys.Ze ha0) Zj.dflt i11))) (fun r13 her13 => ?_)
  refine Yx (Zw (QY fun hg => (dt (by first | omega | (simp; omega) | (simp at *; omega)))) (Zw (QY fun hg => (dt (by first | omega | (simp; omega) | (simp at *; omega)))) XR)) ?_
  refine XY (fun hb4 => ?_) (fun hb4 => ?_)
  ·exact XI
  ·exact JO (by omega)
 ·unfold M.VM
  try simp only [Int.toNat_natCast]
  exact X2 (decide_eq_false (by omega)) rfl
noncomputable def S.VN (a0 : ZG) (i1 : Nat) (i9 : Nat) : Option (Unit ⊕ Int) :=
 letS (runN (S.VM a0 i1 i9) (.inl ()) 0 i1) (fun y14 => Sum.elim (fun _ => none) (fun y16 => some (.inr y16)) y14)
theorem ZfL (a0 : ZG) (i1 : Nat) (ha0 : Ys a0) (hi1 : i1 < a0.Ze.length) (i0 : Nat) : loopM (M.VN a0 (i1 : Int)) (i0 : Int) = some (runN (S.VN a0 i1) (.inl ()) i0 (((a0.Ze.getD i1 default).Zc).length - i0)) := by
 have hM := Zo
 have hni1 : a0.Ze.length ≤ maxLen := (Ys.Ze ha0).1
 have hni9 : ((a0.Ze.getD i1 default).Zc).length ≤ maxLen := (Zj.Zc (LL.getD (Ys.Ze ha0) Zj.dflt i1)).1
 refine Xa (n := ((a0.Ze.getD i1 default).Zc).length) (fun i9 hi9 => ?_) (fun m hm => ?_) i0
 ·unfold M.VN S.VN
  try simp only [Int.toNat_natCast]
  refine Yx (Zw (dt (by omega)) (Zw (dt (by omega)) XR))  ?_
  refine X1 (dt (by omega)) ?_
  refine Yx (Zw (dt (by omega)) (Zw (dt (by omega)) (Zw (dt (by omega)) (Zw (dt (by omega)) XR)))) ?_
  refine ZY (ZfK a0 i1 i9 ha0 hi1 hi9 0) (fun y14 hey14 => ?_)
  refine J8 (fun _ hl => ?_) (fun y16 hly16 => ?_)
  ·exact JO (by omega)
  ·exact XI
 ·unfold M.VN
  try simp only [Int.toNat_natCast]
  refine Yx (Zw (dt (by omega)) (Zw (dt (by omega)) XR))  ?_
  exact X2 (decide_eq_false (by omega)) rfl
noncomputable def S.VO (a0 : ZG) (i1 : Nat) : Option (Unit ⊕ Int) :=
 letS (S.Q5 (a0.Ze.getD i1 default)) (fun r3 => bif r3 != 0 then (some (.inr r3)) else (letS (runN (S.Wc a0 i1) (.inl ()) 0 i1) (fun y6 => Sum.elim (fun _ => letS (runN (S.VN a0 i1) (.inl ()) 0 (((a0.Ze.getD i1 default).Zc).length)) (fun y17 => Sum.elim (fun _ => none) (fun y19 => some (.inr y19)) y17)) (fun y8 => some (.inr y8)) y6)))
theorem ZfM (a0 : ZG) (ha0 : Ys a0) (i0 : Nat) : loopM (M.VO a0) (i0 : Int) = some (runN (S.VO a0) (.inl ()) i0 (a0.Ze.length - i0)) := by
 have hM := Zo
 have hni1 : a0.Ze.length ≤ maxLen := (Ys.Ze ha0).1
 refine Xa (n := a0.Ze.length) (fun i1 hi1 => ?_) (fun m hm => ?_) i0
 ·unfold M.VO S.VO
  try simp only [Int.toNat_natCast]
  refine X1 (dt (by omega)) ?_
  refine ZY (ZdU (a0.Ze.getD i1 default) (LL.getD (Ys.Ze ha0) Zj.dflt i1)) (fun r3 her3 => ?_)
  refine Yx (Zw (dt (by omega)) (Zw (dt (by omega)) XR)) ?_
  refine XY (fun hb2 => ?_) (fun hb2 => ?_)
  ·exact XI
  ·refine ZY (ZfJ a0 i1 ha0 hi1 0) (fun y6 hey6 => ?_)
   refine J8 (fun _ hl => ?_) (fun y8 hly8 => ?_)
   ·refine ZY (ZfL a0 i1 ha0 hi1 0) (fun y17 hey17 => ?_)
    refine J8 (fun _ hl => ?_) (fun y19 hly19 => ?_)
    ·exact JO (by omega)
    ·exact XI
   ·exact XI
 ·unfold M.VO
  try simp only [Int.toNat_natCast]
  exact X2 (decide_eq_false (by omega)) rfl
noncomputable def S.Wn (a0 : ZG) : Int :=
 bif decide ((a0.Ze.length : Int) > 8) then 7 else (letS (runN (S.VO a0) (.inl ()) 0 a0.Ze.length) (fun y20 => Sum.elim (fun _ => 0) (fun y22 => y22) y20))
theorem Zil (a0 : ZG) (ha0 : Ys a0) : M.Wn a0 = some (S.Wn a0) := by
 have hM := Zo
 unfold M.Wn S.Wn
 refine Jl (fun hb1 => ?_) (fun hb1 => ?_)
 ·rfl
 ·refine Z6 (ZfM a0 ha0 0) (fun y20 hey20 => ?_)
  refine Qq (fun _ hl => ?_) (fun y22 hly22 => ?_)
  ·rfl
  ·rfl
noncomputable def S.WM (a0 : ZS) (a1 : ZS) : Int :=
 bif (decide (a0.Zy < a1.Zy)) || ((a0.Zy == a1.Zy) && (decide (a0.ZK < a1.ZK))) then (-1) else (bif ((a0.Zy == a1.Zy) && ((a0.ZK == a1.ZK) && true)) then 0 else 1)
theorem ZgR (a0 : ZS) (a1 : ZS)  : M.WM a0 a1 = some (S.WM a0 a1) := by
 have hM := Zo
 unfold M.WM S.WM
 refine Jl (fun hb1 => ?_) (fun hb1 => ?_)
 ·rfl
 ·refine Jl (fun hb2 => ?_) (fun hb2 => ?_)
  ·rfl
  ·rfl
noncomputable def S.Jq (a0 : List Int) (a1 : Int) (i1 : Nat) : Option (Unit ⊕ Bool) :=
 bif ((decide ((a0.getD i1 default) < 0)) || (decide ((a0.getD i1 default) ≥ a1))) || ((decide ((i1 : Int) > 0)) && (decide ((a0.getD i1 default) ≤ (a0.getD (wr .i64 ((i1 : Int) - 1)).toNat default)))) then (some (.inr false)) else none
theorem Zcy (a0 : List Int) (a1 : Int) (ha0 : a0.length ≤ maxLen) (i0 : Nat) : loopM (M.Jq a0 a1) (i0 : Int) = some (runN (S.Jq a0 a1) (.inl ()) i0 (a0.length - i0)) := by
 have hM := Zo
 have hni1 : a0.length ≤ maxLen := ha0
 refine Xa (n := a0.length) (fun i1 hi1 => ?_) (fun m hm => ?_) i0
 ·unfold M.Jq S.Jq
  try simp only [Int.toNat_natCast]
  have hdi1 : wr .i64 ((i1 : Int) - 1) = (i1 : Int) - 1 := ZnF (by omega)
  refine X1 (dt (by omega)) ?_
  refine Yx (Zw (dt (by omega)) (Zw (dt (by omega)) (Zw (QY fun hg => (dt (by first | omega | (simp; omega) | (simp at *; omega)))) (Zw (QY fun hg => (dt (by first | omega | (simp; omega) | (simp at *; omega)))) (Zw (QY fun hg => (dt (by first | omega | (simp; omega) | (simp at *; omega)))) (Zw (QY fun hg => (dt (by first | omega | (simp; omega) | (simp at *; omega)))) (Zw (QY fun hg => (dt (by first | omega | (simp; omega) | (simp at *; omega)))) (Zw (QY fun hg => (dt (by first | omega | (simp; omega) | (simp at *; omega)))) XR)))))))) ?_
  refine XY (fun hb2 => ?_) (fun hb2 => ?_)
  ·exact XI
  ·exact JO (by omega)
 ·unfold M.Jq
  try simp only [Int.toNat_natCast]
  exact X2 (decide_eq_false (by omega)) rfl
noncomputable def S.Vq (a0 : List Int) (a1 : Int) : Bool :=
 bif decide ((a0.length : Int) > 2) then false else (letS (runN (S.Jq a0 a1) (.inl ()) 0 a0.length) (fun y3 => Sum.elim (fun _ => true) (fun y5 => y5) y3))
theorem ZeL (a0 : List Int) (a1 : Int) (ha0 : a0.length ≤ maxLen) : M.Vq a0 a1 = some (S.Vq a0 a1) := by
 have hM := Zo
 unfold M.Vq S.Vq
 refine Jl (fun hb1 => ?_) (fun hb1 => ?_)
 ·rfl
 ·refine Z6 (Zcy a0 a1 ha0 0) (fun y3 hey3 => ?_)
  refine Qq (fun _ hl => ?_) (fun y5 hly5 => ?_)
  ·rfl
  ·rfl
noncomputable def S.WN (a0 : List Int) (a1 : List Int) (i1 : Nat) : Option (Unit ⊕ Bool) :=
 bif (a0.getD i1 default) != (a1.getD i1 default) then (some (.inr false)) else none
theorem ZgS (a0 : List Int) (a1 : List Int) (ha0 : a0.length ≤ maxLen) (ha1 : a1.length ≤ maxLen) (hlen : a0.length = a1.length) (i0 : Nat) : loopM (M.WN a0 a1) (i0 : Int) = some (runN (S.WN a0 a1) (.inl ()) i0 (a0.length - i0)) := by
 have hM := Zo
 have hni1 : a0.length ≤ maxLen := ha0
 refine Xa (n := a0.length) (fun i1 hi1 => ?_) (fun m hm => ?_) i0
 ·unfold M.WN S.WN
  try simp only [Int.toNat_natCast]
  refine X1 (dt (by omega)) ?_
  refine Yx (Zw (dt (by omega)) (Zw (dt (by omega)) (Zw (dt (by omega)) (Zw (dt (by omega)) XR)))) ?_
  refine XY (fun hb2 => ?_) (fun hb2 => ?_)
  ·exact XI
  ·exact JO (by omega)
 ·unfold M.WN
  try simp only [Int.toNat_natCast]
  exact X2 (decide_eq_false (by omega)) rfl
noncomputable def S.UZ (a0 : List Int) (a1 : List Int) : Bool :=
 bif (a0.length : Int) != (a1.length : Int) then false else (letS (runN (S.WN a0 a1) (.inl ()) 0 a0.length) (fun y3 => Sum.elim (fun _ => true) (fun y5 => y5) y3))
theorem Zje (a0 : List Int) (a1 : List Int) (ha0 : a0.length ≤ maxLen) (ha1 : a1.length ≤ maxLen) : M.UZ a0 a1 = some (S.UZ a0 a1) := by
 have hM := Zo
 unfold M.UZ S.UZ
 refine Jl (fun hb1 => ?_) (fun hb1 => ?_)
 ·rfl
 ·refine Z6 (ZgS a0 a1 ha0 ha1 (by simp at *; omega) 0) (fun y3 hey3 => ?_)
  refine Qq (fun _ hl => ?_) (fun y5 hly5 => ?_)
  ·rfl
  ·rfl
noncomputable def S.WO (a0 : List V8) (a1 : List V8) (i1 : Nat) : Option (Unit ⊕ Bool) :=
 bif !((((a0.getD i1 default).KQ) == ((a1.getD i1 default).KQ)) && ((((a0.getD i1 default).Qx) == ((a1.getD i1 default).Qx)) && true)) then (some (.inr false)) else none
theorem ZgT (a0 : List V8) (a1 : List V8) (ha0 : a0.length ≤ maxLen) (ha1 : a1.length ≤ maxLen) (hlen : a0.length = a1.length) (i0 : Nat) : loopM (M.WO a0 a1) (i0 : Int) = some (runN (S.WO a0 a1) (.inl ()) i0 (a0.length - i0)) := by
 have hM := Zo
 have hni1 : a0.length ≤ maxLen := ha0
 refine Xa (n := a0.length) (fun i1 hi1 => ?_) (fun m hm => ?_) i0
 ·unfold M.WO S.WO
  try simp only [Int.toNat_natCast]
  refine X1 (dt (by omega)) ?_
  refine Yx (Zw (dt (by omega)) (Zw (dt (by omega)) (Zw (dt (by omega)) (Zw (dt (by omega)) XR)))) ?_
  refine XY (fun hb2 => ?_) (fun hb2 => ?_)
  ·exact XI
  ·exact JO (by omega)
 ·unfold M.WO
  try simp only [Int.toNat_natCast]
  exact X2 (decide_eq_false (by omega)) rfl
noncomputable def S.Gp (a0 : List V8) (a1 : List V8) : Bool :=
 bif (a0.length : Int) != (a1.length : Int) then false else (letS (runN (S.WO a0 a1) (.inl ()) 0 a0.length) (fun y3 => Sum.elim (fun _ => true) (fun y5 => y5) y3))
theorem Zjf (a0 : List V8) (a1 : List V8) (ha0 : a0.length ≤ maxLen) (ha1 : a1.length ≤ maxLen) : M.Gp a0 a1 = some (S.Gp a0 a1) := by
 have hM := Zo
 unfold M.Gp S.Gp
 refine Jl (fun hb1 => ?_) (fun hb1 => ?_)
 ·rfl
 ·refine Z6 (ZgT a0 a1 ha0 ha1 (by simp at *; omega) 0) (fun y3 hey3 => ?_)
  refine Qq (fun _ hl => ?_) (fun y5 hly5 => ?_)
  ·rfl
  ·rfl
end Nv
