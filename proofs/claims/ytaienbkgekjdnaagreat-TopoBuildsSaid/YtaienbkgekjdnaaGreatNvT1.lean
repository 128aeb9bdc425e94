/- Total forms of the mirrors. -/
import Derived.Test.YtaienbkgekjdnaaGreatNvD1
import Derived.Test.YtaienbkgekjdnaaGreatNvLibB
import Derived.Test.YtaienbkgekjdnaaGreatNvQ0
set_option maxRecDepth 100000
namespace Nv
open Go
def Xj (x : Zy) : Prop := (x.ZX.size ≤ maxLen) ∧ (x.V7.size ≤ maxLen) ∧ (x.Y2.size ≤ maxLen)
theorem Xj.ZX {x : Zy} (h : Xj x) : x.ZX.size ≤ maxLen := h.1
theorem Xj.V7 {x : Zy} (h : Xj x) : x.V7.size ≤ maxLen := h.2.1
theorem Xj.Y2 {x : Zy} (h : Xj x) : x.Y2.size ≤ maxLen := h.2.2
theorem Xj.dflt : Xj default := ⟨(Nat.zero_le _), (Nat.zero_le _), (Nat.zero_le _)⟩
def X5 (x : Z3) : Prop := (x.ZX.size ≤ maxLen) ∧ (x.XC.length ≤ maxLen)
theorem X5.ZX {x : Z3} (h : X5 x) : x.ZX.size ≤ maxLen := h.1
theorem X5.XC {x : Z3} (h : X5 x) : x.XC.length ≤ maxLen := h.2
theorem X5.dflt : X5 default := ⟨(Nat.zero_le _), (Nat.zero_le _)⟩
def W0 (x : Kq) : Prop := (x.QX.size ≤ maxLen)
theorem W0.QX {x : Kq} (h : W0 x) : x.QX.size ≤ maxLen := h
theorem W0.dflt : W0 default := (Nat.zero_le _)
def Yk (x : X4) : Prop := (x.ZX.size ≤ maxLen) ∧ (LL W0 x.Xn)
theorem Yk.ZX {x : X4} (h : Yk x) : x.ZX.size ≤ maxLen := h.1
theorem Yk.Xn {x : X4} (h : Yk x) : LL W0 x.Xn := h.2
theorem Yk.dflt : Yk default := ⟨(Nat.zero_le _), ⟨Nat.zero_le _, fun _ h => absurd h List.not_mem_nil⟩⟩
def Wy (x : WU) : Prop := (x.ZX.size ≤ maxLen) ∧ (x.XC.length ≤ maxLen)
theorem Wy.ZX {x : WU} (h : Wy x) : x.ZX.size ≤ maxLen := h.1
theorem Wy.XC {x : WU} (h : Wy x) : x.XC.length ≤ maxLen := h.2
theorem Wy.dflt : Wy default := ⟨(Nat.zero_le _), (Nat.zero_le _)⟩
def JD (x : YZ) : Prop := (x.QX.size ≤ maxLen)
theorem JD.QX {x : YZ} (h : JD x) : x.QX.size ≤ maxLen := h
theorem JD.dflt : JD default := (Nat.zero_le _)
def Jh (x : Yf) : Prop := (x.QI.size ≤ maxLen)
theorem Jh.QI {x : Yf} (h : Jh x) : x.QI.size ≤ maxLen := h
theorem Jh.dflt : Jh default := (Nat.zero_le _)
def J1 (x : YB) : Prop := (x.Zad.size ≤ maxLen)
theorem J1.Zad {x : YB} (h : J1 x) : x.Zad.size ≤ maxLen := h
theorem J1.dflt : J1 default := (Nat.zero_le _)
def Js (x : Wv) : Prop := (x.ZK.length ≤ maxLen) ∧ (LL J1 x.Zv)
theorem Js.ZK {x : Wv} (h : Js x) : x.ZK.length ≤ maxLen := h.1
theorem Js.Zv {x : Wv} (h : Js x) : LL J1 x.Zv := h.2
theorem Js.dflt : Js default := ⟨(Nat.zero_le _), ⟨Nat.zero_le _, fun _ h => absurd h List.not_mem_nil⟩⟩
def Yd (x : QD) : Prop := (x.V7.size ≤ maxLen) ∧ (x.Y2.size ≤ maxLen) ∧ (LL J1 x.Zv)
theorem Yd.V7 {x : QD} (h : Yd x) : x.V7.size ≤ maxLen := h.1
theorem Yd.Y2 {x : QD} (h : Yd x) : x.Y2.size ≤ maxLen := h.2.1
theorem Yd.Zv {x : QD} (h : Yd x) : LL J1 x.Zv := h.2.2
theorem Yd.dflt : Yd default := ⟨(Nat.zero_le _), (Nat.zero_le _), ⟨Nat.zero_le _, fun _ h => absurd h List.not_mem_nil⟩⟩
def JL (x : VD) : Prop := (x.V7.size ≤ maxLen) ∧ (x.Y2.size ≤ maxLen)
theorem JL.V7 {x : VD} (h : JL x) : x.V7.size ≤ maxLen := h.1
theorem JL.Y2 {x : VD} (h : JL x) : x.Y2.size ≤ maxLen := h.2
theorem JL.dflt : JL default := ⟨(Nat.zero_le _), (Nat.zero_le _)⟩
def Z4 (x : Z6) : Prop := (LL JL x.Zl) ∧ (x.Zt.length ≤ maxLen) ∧ (x.Zr.length ≤ maxLen) ∧ (x.Zo.length ≤ maxLen) ∧ (LL J1 x.Zv)
theorem Z4.Zl {x : Z6} (h : Z4 x) : LL JL x.Zl := h.1
theorem Z4.Zt {x : Z6} (h : Z4 x) : x.Zt.length ≤ maxLen := h.2.1
theorem Z4.Zr {x : Z6} (h : Z4 x) : x.Zr.length ≤ maxLen := h.2.2.1
theorem Z4.Zo {x : Z6} (h : Z4 x) : x.Zo.length ≤ maxLen := h.2.2.2.1
theorem Z4.Zv {x : Z6} (h : Z4 x) : LL J1 x.Zv := h.2.2.2.2
theorem Z4.dflt : Z4 default := ⟨⟨Nat.zero_le _, fun _ h => absurd h List.not_mem_nil⟩, (Nat.zero_le _), (Nat.zero_le _), (Nat.zero_le _), ⟨Nat.zero_le _, fun _ h => absurd h List.not_mem_nil⟩⟩
def Zi (x : Zf) : Prop := (x.ZX.size ≤ maxLen) ∧ (LL Xj x.Zc) ∧ (LL X5 x.Xm) ∧ (LL Yk x.Xa) ∧ (LL Wy x.XR) ∧ (LL JD x.Xf) ∧ (LL Jh x.Zq) ∧ (Js x.Yl) ∧ (Yd x.YH) ∧ (Z4 x.Xd)
theorem Zi.ZX {x : Zf} (h : Zi x) : x.ZX.size ≤ maxLen := h.1
theorem Zi.Zc {x : Zf} (h : Zi x) : LL Xj x.Zc := h.2.1
theorem Zi.Xm {x : Zf} (h : Zi x) : LL X5 x.Xm := h.2.2.1
theorem Zi.Xa {x : Zf} (h : Zi x) : LL Yk x.Xa := h.2.2.2.1
theorem Zi.XR {x : Zf} (h : Zi x) : LL Wy x.XR := h.2.2.2.2.1
theorem Zi.Xf {x : Zf} (h : Zi x) : LL JD x.Xf := h.2.2.2.2.2.1
theorem Zi.Zq {x : Zf} (h : Zi x) : LL Jh x.Zq := h.2.2.2.2.2.2.1
theorem Zi.Yl {x : Zf} (h : Zi x) : Js x.Yl := h.2.2.2.2.2.2.2.1
theorem Zi.YH {x : Zf} (h : Zi x) : Yd x.YH := h.2.2.2.2.2.2.2.2.1
theorem Zi.Xd {x : Zf} (h : Zi x) : Z4 x.Xd := h.2.2.2.2.2.2.2.2.2
theorem Zi.dflt : Zi default := ⟨(Nat.zero_le _), ⟨Nat.zero_le _, fun _ h => absurd h List.not_mem_nil⟩, ⟨Nat.zero_le _, fun _ h => absurd h List.not_mem_nil⟩, ⟨Nat.zero_le _, fun _ h => absurd h List.not_mem_nil⟩, ⟨Nat.zero_le _, fun _ h => absurd h List.not_mem_nil⟩, ⟨Nat.zero_le _, fun _ h => absurd h List.not_mem_nil⟩, ⟨Nat.zero_le _, fun _ h => absurd h List.not_mem_nil⟩, Js.dflt, Yd.dflt, Z4.dflt⟩
def Yy (x : ZY) : Prop := (LL Zi x.Zd)
theorem Yy.Zd {x : ZY} (h : Yy x) : LL Zi x.Zd := h
noncomputable def S.Wz (a0 : Zf) (i1 : Nat) : Option (Unit ⊕ Bool) :=
  bif decide ((((a0.Xm.getD i1 default).XC).length : Int) > 20) then (some (.inr false)) else none
theorem Zgj (a0 : Zf) (ha0 : Zi a0) (i0 : Nat) : ZZ (M.Wz a0) (i0 : Int) = some (Xp (S.Wz a0) (.inl ()) i0 (a0.Xm.length - i0)) := by
  have hM := Zm
  have hni1 : a0.Xm.length ≤ maxLen := (Zi.Xm ha0).1
  refine Z5 (n := a0.Xm.length) (fun i1 hi1 => ?_) (fun m hm => ?_) i0
  · unfold M.Wz S.Wz
    try simp only [Int.toNat_natCast]
    refine XY (dt (by omega)) ?_
    refine YC (Zs (dt (by omega)) (Zs (dt (by omega)) XI)) ?_
    refine XQ (fun hb2 => ?_) (fun hb2 => ?_)
    · exact Xw
    · exact JR (by omega)
  · unfold M.Wz
    try simp only [Int.toNat_natCast]
    exact XZ (decide_eq_false (by omega)) rfl
noncomputable def S.WA (a0 : Zf) (i6 : Nat) : Option (Unit ⊕ Bool) :=
  bif decide ((((a0.Xa.getD i6 default).Xn).length : Int) > 12) then (some (.inr false)) else none
theorem Zgk (a0 : Zf) (ha0 : Zi a0) (i0 : Nat) : ZZ (M.WA a0) (i0 : Int) = some (Xp (S.WA a0) (.inl ()) i0 (a0.Xa.length - i0)) := by
  have hM := Zm
  have hni6 : a0.Xa.length ≤ maxLen := (Zi.Xa ha0).1
  refine Z5 (n := a0.Xa.length) (fun i6 hi6 => ?_) (fun m hm => ?_) i0
  · unfold M.WA S.WA
    try simp only [Int.toNat_natCast]
    refine XY (dt (by omega)) ?_
    refine YC (Zs (dt (by omega)) (Zs (dt (by omega)) XI)) ?_
    refine XQ (fun hb3 => ?_) (fun hb3 => ?_)
    · exact Xw
    · exact JR (by omega)
  · unfold M.WA
    try simp only [Int.toNat_natCast]
    exact XZ (decide_eq_false (by omega)) rfl
noncomputable def S.WB (a0 : Zf) (i11 : Nat) : Option (Unit ⊕ Bool) :=
  bif decide ((((a0.XR.getD i11 default).XC).length : Int) > 20) then (some (.inr false)) else none
theorem Zgl (a0 : Zf) (ha0 : Zi a0) (i0 : Nat) : ZZ (M.WB a0) (i0 : Int) = some (Xp (S.WB a0) (.inl ()) i0 (a0.XR.length - i0)) := by
  have hM := Zm
  have hni11 : a0.XR.length ≤ maxLen := (Zi.XR ha0).1
  refine Z5 (n := a0.XR.length) (fun i11 hi11 => ?_) (fun m hm => ?_) i0
  · unfold M.WB S.WB
    try simp only [Int.toNat_natCast]
    refine XY (dt (by omega)) ?_
    refine YC (Zs (dt (by omega)) (Zs (dt (by omega)) XI)) ?_
    refine XQ (fun hb4 => ?_) (fun hb4 => ?_)
    · exact Xw
    · exact JR (by omega)
  · unfold M.WB
    try simp only [Int.toNat_natCast]
    exact XZ (decide_eq_false (by omega)) rfl
noncomputable def S.VW (a0 : Zf) : Bool :=
  bif (((((((((((((decide ((a0.Zc.length : Int) > 12)) || (decide ((a0.Xm.length : Int) > 12))) || (decide ((a0.Xa.length : Int) > 12))) || (decide ((a0.XR.length : Int) > 12))) || (decide ((a0.Xf.length : Int) > 12))) || (decide ((a0.Zq.length : Int) > 20))) || (decide ((a0.Yl.ZK.length : Int) > 8))) || (decide ((a0.Yl.Zv.length : Int) > 8))) || (decide ((a0.YH.Zv.length : Int) > 8))) || (decide ((a0.Xd.Zv.length : Int) > 8))) || (decide ((a0.Xd.Zl.length : Int) > 12))) || (decide ((a0.Xd.Zt.length : Int) > 12))) || (decide ((a0.Xd.Zr.length : Int) > 12))) || (decide ((a0.Xd.Zo.length : Int) > 12)) then false else (ZS (Xp (S.Wz a0) (.inl ()) 0 a0.Xm.length) (fun y3 => Sum.elim (fun _ => ZS (Xp (S.WA a0) (.inl ()) 0 a0.Xa.length) (fun y8 => Sum.elim (fun _ => ZS (Xp (S.WB a0) (.inl ()) 0 a0.XR.length) (fun y13 => Sum.elim (fun _ => true) (fun y15 => y15) y13)) (fun y10 => y10) y8)) (fun y5 => y5) y3))
theorem Zjx (a0 : Zf) (ha0 : Zi a0) : M.VW a0 = some (S.VW a0) := by
  have hM := Zm
  unfold M.VW S.VW
  refine Jo (fun hb1 => ?_) (fun hb1 => ?_)
  · rfl
  · refine Z1 (Zgj a0 ha0 0) (fun y3 hey3 => ?_)
    refine Qw (fun _ hl => ?_) (fun y5 hly5 => ?_)
    · refine Z1 (Zgk a0 ha0 0) (fun y8 hey8 => ?_)
      refine Qw (fun _ hl => ?_) (fun y10 hly10 => ?_)
      · refine Z1 (Zgl a0 ha0 0) (fun y13 hey13 => ?_)
        refine Qw (fun _ hl => ?_) (fun y15 hly15 => ?_)
        · rfl
        · rfl
      · rfl
    · rfl
noncomputable def S.Y3 (a0 : ZY) (i1 : Nat) : Option (Unit ⊕ Bool) :=
  ZS (S.VW (a0.Zd.getD i1 default)) (fun r3 => bif !r3 then (some (.inr false)) else none)
theorem ZfE (a0 : ZY) (ha0 : Yy a0) (i0 : Nat) : ZZ (M.Y3 a0) (i0 : Int) = some (Xp (S.Y3 a0) (.inl ()) i0 (a0.Zd.length - i0)) := by
  have hM := Zm
  have hni1 : a0.Zd.length ≤ maxLen := (Yy.Zd ha0).1
  refine Z5 (n := a0.Zd.length) (fun i1 hi1 => ?_) (fun m hm => ?_) i0
  · unfold M.Y3 S.Y3
    try simp only [Int.toNat_natCast]
    refine XY (dt (by omega)) ?_
    refine ZO (Zjx (a0.Zd.getD i1 default) (LL.getD (Yy.Zd ha0) Zi.dflt i1)) (fun r3 her3 => ?_)
    refine YC (Zs (dt (by omega)) (Zs (dt (by omega)) XI)) ?_
    refine XQ (fun hb2 => ?_) (fun hb2 => ?_)
    · exact Xw
    · exact JR (by omega)
  · unfold M.Y3
    try simp only [Int.toNat_natCast]
    exact XZ (decide_eq_false (by omega)) rfl
noncomputable def S.V2 (a0 : ZY) : Bool :=
  bif decide ((a0.Zd.length : Int) > 9) then false else (ZS (Xp (S.Y3 a0) (.inl ()) 0 a0.Zd.length) (fun y4 => Sum.elim (fun _ => true) (fun y6 => y6) y4))
theorem Zia (a0 : ZY) (ha0 : Yy a0) : M.V2 a0 = some (S.V2 a0) := by
  have hM := Zm
  unfold M.V2 S.V2
  refine Jo (fun hb1 => ?_) (fun hb1 => ?_)
  · rfl
  · refine Z1 (ZfE a0 ha0 0) (fun y4 hey4 => ?_)
    refine Qw (fun _ hl => ?_) (fun y6 hly6 => ?_)
    · rfl
    · rfl
noncomputable def S.V3 (a0 : Int) : Bool :=
  ((decide (65 ≤ a0)) && (decide (a0 ≤ 90))) || ((decide (97 ≤ a0)) && (decide (a0 ≤ 122)))
theorem ZdE (a0 : Int)  : M.V3 a0 = some (S.V3 a0) := by
  have hM := Zm
  unfold M.V3 S.V3
  rfl
noncomputable def S.Uu (a0 : Int) : Bool :=
  (decide (48 ≤ a0)) && (decide (a0 ≤ 57))
theorem Zjy (a0 : Int)  : M.Uu a0 = some (S.Uu a0) := by
  have hM := Zm
  unfold M.Uu S.Uu
  rfl
noncomputable def S.Wj (a0 : ByteArray) (i2 : Nat) : Option (Unit ⊕ Bool) :=
  ZS (S.V3 (JN a0 (i2 : Int))) (fun r4 => ZS (bif (!r4) then S.Uu (JN a0 (i2 : Int)) else default) (fun r5 => bif (((((!r4) && (!r5)) && ((JN a0 (i2 : Int)) != 45)) && ((JN a0 (i2 : Int)) != 95)) && ((JN a0 (i2 : Int)) != 47)) && ((JN a0 (i2 : Int)) != 46) then (some (.inr false)) else none))
theorem ZhH (a0 : ByteArray) (ha0 : a0.size ≤ maxLen) (i0 : Nat) : ZZ (M.Wj a0) (i0 : Int) = some (Xp (S.Wj a0) (.inl ()) i0 (a0.size - i0)) := by
  have hM := Zm
  have hni2 : a0.size ≤ maxLen := ha0
  refine Z5 (n := a0.size) (fun i2 hi2 => ?_) (fun m hm => ?_) i0
  · unfold M.Wj S.Wj
    try simp only [Int.toNat_natCast]
    refine XY (dt (by omega)) ?_
    refine YC (Zs (dt (by omega)) (Zs (dt (by omega)) XI)) ?_
    refine ZO (ZdE (JN a0 (i2 : Int))) (fun r4 her4 => ?_)
    refine ZO (JC fun hg => (Zjy (JN a0 (i2 : Int)))) (fun r5 her5 => ?_)
    refine XQ (fun hb2 => ?_) (fun hb2 => ?_)
    · exact Xw
    · exact JR (by omega)
  · unfold M.Wj
    try simp only [Int.toNat_natCast]
    exact XZ (decide_eq_false (by omega)) rfl
noncomputable def S.Ww (a0 : ByteArray) : Bool :=
  ZS (bif (!((decide ((a0.size : Int) < 1)) || (decide ((a0.size : Int) > 15)))) then S.V3 (JN a0 0) else default) (fun r1 => bif ((decide ((a0.size : Int) < 1)) || (decide ((a0.size : Int) > 15))) || (!r1) then false else (ZS (Xp (S.Wj a0) (.inl ()) 1 (a0.size - 1)) (fun y6 => Sum.elim (fun _ => true) (fun y8 => y8) y6)))
theorem Zct (a0 : ByteArray) (ha0 : a0.size ≤ maxLen) : M.Ww a0 = some (S.Ww a0) := by
  have hM := Zm
  unfold M.Ww S.Ww
  refine Z1 (JC fun hg => (ZdE (JN a0 0))) (fun r1 her1 => ?_)
  refine YC (Zs (JY fun hg => (dt (by first | omega | (simp; omega) | (simp at *; omega)))) (Zs (JY fun hg => (dt (by first | omega | (simp; omega) | (simp at *; omega)))) XI)) ?_
  refine Jo (fun hb1 => ?_) (fun hb1 => ?_)
  · rfl
  · refine Z1 (ZhH a0 ha0 1) (fun y6 hey6 => ?_)
    refine Qw (fun _ hl => ?_) (fun y8 hly8 => ?_)
    · rfl
    · rfl
noncomputable def S.ZP (a0 : Int) (a1 : Int) (a2 : Int) : Bool :=
  (decide (a1 ≤ a0)) && (decide (a0 ≤ a2))
theorem XX (a0 : Int) (a1 : Int) (a2 : Int)  : M.ZP a0 a1 a2 = some (S.ZP a0 a1 a2) := by
  have hM := Zm
  unfold M.ZP S.ZP
  rfl
noncomputable def S.JE (a0 : Zy) (b0 : ByteArray) : Bool :=
  YJ a0.ZX b0
theorem Zdd (a0 : Zy) (b0 : ByteArray) (ha0 : Xj a0) (hb0 : b0.size ≤ maxLen) : M.JE a0 b0 = some (S.JE a0 b0) := by
  have hM := Zm
  unfold M.JE S.JE
  rfl
noncomputable def S.ZE (a0 : List Zy) (a1c0 : ByteArray) (i1 : Nat) : Option (Unit ⊕ Int) :=
  ZS (S.JE (a0.getD i1 default) a1c0) (fun r3 => bif r3 then (some (.inr (i1 : Int))) else none)
theorem VM (a0 : List Zy) (a1c0 : ByteArray) (ha0 : LL Xj a0) (ha1c0 : a1c0.size ≤ maxLen) (i0 : Nat) : ZZ (M.ZE a0 a1c0) (i0 : Int) = some (Xp (S.ZE a0 a1c0) (.inl ()) i0 (a0.length - i0)) := by
  have hM := Zm
  have hni1 : a0.length ≤ maxLen := ha0.1
  refine Z5 (n := a0.length) (fun i1 hi1 => ?_) (fun m hm => ?_) i0
  · unfold M.ZE S.ZE
    try simp only [Int.toNat_natCast]
    refine XY (dt (by omega)) ?_
    refine ZO (Zdd (a0.getD i1 default) a1c0 (LL.getD ha0 Xj.dflt i1) ha1c0) (fun r3 her3 => ?_)
    refine YC (Zs (dt (by omega)) (Zs (dt (by omega)) XI)) ?_
    refine XQ (fun hb1 => ?_) (fun hb1 => ?_)
    · exact Xw
    · exact JR (by omega)
  · unfold M.ZE
    try simp only [Int.toNat_natCast]
    exact XZ (decide_eq_false (by omega)) rfl
noncomputable def S.ZF (a0 : List Zy) (a1c0 : ByteArray) : Int :=
  ZS (Xp (S.ZE a0 a1c0) (.inl ()) 0 a0.length) (fun y4 => Sum.elim (fun _ => -1) (fun y6 => y6) y4)
theorem V5 (a0 : List Zy) (a1c0 : ByteArray) (ha0 : LL Xj a0) (ha1c0 : a1c0.size ≤ maxLen) : M.ZF a0 a1c0 = some (S.ZF a0 a1c0) := by
  have hM := Zm
  unfold M.ZF S.ZF
  refine Z1 (VM a0 a1c0 ha0 ha1c0 0) (fun y4 hey4 => ?_)
  refine Qw (fun _ hl => ?_) (fun y6 hly6 => ?_)
  · rfl
  · rfl
noncomputable def S.Qo (a0 : Zf) (a1 : ByteArray) : Int :=
  ZS (S.ZF a0.Zc a1) (fun r1 => r1)
theorem R4 (a0 : Zf) (a1 : ByteArray) (ha0 : Zi a0) (ha1 : a1.size ≤ maxLen) : M.Qo a0 a1 = some (S.Qo a0 a1) := by
  have hM := Zm
  unfold M.Qo S.Qo
  refine Z1 (V5 a0.Zc a1 (Zi.Zc ha0) ha1) (fun r1 her1 => ?_)
  rfl
theorem Rb (a0 : Zf) (a1 : ByteArray) : S.Qo a0 a1 < (a0.Zc.length : Int) := by
  unfold S.Qo S.ZF
  simp only [ZS]
  exact ZnV (fun i => by unfold S.ZE; simp only [ZS]; cases S.JE (a0.Zc.getD i default) a1 <;> simp) _
noncomputable def S.Qx (a0 : Zy) : Bool :=
  ZS (S.ZP a0.ZJ 0 32) (fun r1 => ZS (bif (!(!r1)) then S.ZP a0.Xu 0 4094 else default) (fun r2 => ZS (bif (!((!r1) || (!r2))) then S.ZP a0.Zau 0 2 else default) (fun r3 => bif ((!r1) || (!r2)) || (!r3) then false else (bif (a0.ZJ == 0) && (((((((a0.Zu != 0) || (a0.Xu != 0)) || (a0.Zau != 0)) || a0.Yl) || a0.YH) || (!strEq a0.V7 (⟨#[]⟩ : ByteArray))) || (!strEq a0.Y2 (⟨#[]⟩ : ByteArray))) then false else (bif (a0.ZJ != 0) && (a0.Zu == 0) then false else (bif a0.Yl then (ZS (S.ZP a0.J7 0 255) (fun r4 => ZS (bif r4 then S.ZP a0.R1 1 65535 else default) (fun r5 => r4 && r5))) else ((a0.J7 == 0) && (a0.R1 == 0))))))))
theorem Zba (a0 : Zy) (ha0 : Xj a0) : M.Qx a0 = some (S.Qx a0) := by
  have hM := Zm
  unfold M.Qx S.Qx
  refine Z1 (XX a0.ZJ 0 32) (fun r1 her1 => ?_)
  refine Z1 (JC fun hg => (XX a0.Xu 0 4094)) (fun r2 her2 => ?_)
  refine Z1 (JC fun hg => (XX a0.Zau 0 2)) (fun r3 her3 => ?_)
  refine Jo (fun hb1 => ?_) (fun hb1 => ?_)
  · rfl
  · refine Jo (fun hb2 => ?_) (fun hb2 => ?_)
    · rfl
    · refine Jo (fun hb3 => ?_) (fun hb3 => ?_)
      · rfl
      · refine Jo (fun hb4 => ?_) (fun hb4 => ?_)
        · refine Z1 (XX a0.J7 0 255) (fun r4 her4 => ?_)
          refine Z1 (JC fun hg => (XX a0.R1 1 65535)) (fun r5 her5 => ?_)
          rfl
        · rfl
noncomputable def S.Y0 (a0 : Int) (a1 : Int) : ZL :=
  ZS (S.J6 a1) (fun r1 => ZS (S.JO a1) (fun r2 => (⟨Uc .and .u32 a0 r1, r2⟩ : ZL)))
theorem RD (a0 : Int) (a1 : Int)  : M.Y0 a0 a1 = some (S.Y0 a0 a1) := by
  have hM := Zm
  unfold M.Y0 S.Y0
  refine Z1 (Zcr a1) (fun r1 her1 => ?_)
  refine Z1 (Ze2 a1) (fun r2 her2 => ?_)
  rfl
noncomputable def S.WC (a0 : ZL) (a1 : Int) : Bool :=
  ZS (S.J6 a0.ZJ) (fun r1 => (Uc .and .u32 a1 r1) == a0.Zu)
theorem Zgm (a0 : ZL) (a1 : Int)  : M.WC a0 a1 = some (S.WC a0 a1) := by
  have hM := Zm
  unfold M.WC S.WC
  refine Z1 (Zcr a0.ZJ) (fun r1 her1 => ?_)
  rfl
noncomputable def S.WK (a0 : ZL) (a1 : ZL) : Bool :=
  ZS (bif (decide (a0.ZJ ≤ a1.ZJ)) then S.WC a0 a1.Zu else default) (fun r1 => (decide (a0.ZJ ≤ a1.ZJ)) && r1)
theorem ZdF (a0 : ZL) (a1 : ZL)  : M.WK a0 a1 = some (S.WK a0 a1) := by
  have hM := Zm
  unfold M.WK S.WK
  refine Z1 (JC fun hg => (Zgm a0 a1.Zu)) (fun r1 her1 => ?_)
  rfl
noncomputable def S.Vh (a0 : ZL) (a1 : ZL) : Bool :=
  ZS (S.WK a0 a1) (fun r1 => ZS (bif (!r1) then S.WK a1 a0 else default) (fun r2 => r1 || r2))
theorem Zbv (a0 : ZL) (a1 : ZL)  : M.Vh a0 a1 = some (S.Vh a0 a1) := by
  have hM := Zm
  unfold M.Vh S.Vh
  refine Z1 (ZdF a0 a1) (fun r1 her1 => ?_)
  refine Z1 (JC fun hg => (ZdF a1 a0)) (fun r2 her2 => ?_)
  rfl
noncomputable def S.Ym (a0 : Zf) (i1 : Nat) (i6 : Nat) : Option (Unit ⊕ Int) :=
  ZS (bif ((((a0.Zc.getD i1 default).ZJ) != 0) && (((((a0.Zc.drop 0).take (i1 - 0)).getD i6 default).ZJ) != 0)) then S.Y0 ((a0.Zc.getD i1 default).Zu) ((a0.Zc.getD i1 default).ZJ) else default) (fun r8 => ZS (bif ((((a0.Zc.getD i1 default).ZJ) != 0) && (((((a0.Zc.drop 0).take (i1 - 0)).getD i6 default).ZJ) != 0)) then S.Y0 ((((a0.Zc.drop 0).take (i1 - 0)).getD i6 default).Zu) ((((a0.Zc.drop 0).take (i1 - 0)).getD i6 default).ZJ) else default) (fun r9 => ZS (bif ((((a0.Zc.getD i1 default).ZJ) != 0) && (((((a0.Zc.drop 0).take (i1 - 0)).getD i6 default).ZJ) != 0)) then S.Vh r8 r9 else default) (fun r10 => bif ((((a0.Zc.getD i1 default).ZJ) != 0) && (((((a0.Zc.drop 0).take (i1 - 0)).getD i6 default).ZJ) != 0)) && r10 then (some (.inr 6)) else none)))
theorem RE (a0 : Zf) (i1 : Nat) (ha0 : Zi a0) (hi1 : i1 < a0.Zc.length) (i0 : Nat) : ZZ (M.Ym a0 (i1 : Int)) (i0 : Int) = some (Xp (S.Ym a0 i1) (.inl ()) i0 (i1 - i0)) := by
  have hM := Zm
  have hni1 : a0.Zc.length ≤ maxLen := (Zi.Zc ha0).1
  have hni6 : i1 ≤ maxLen := (by omega)
  refine Z5 (n := i1) (fun i6 hi6 => ?_) (fun m hm => ?_) i0
  · unfold M.Ym S.Ym
    try simp only [Int.toNat_natCast]
    refine XY (dt (by omega)) ?_
    refine YC (Zs (dt (by omega)) (Zs (dt (by simp; omega)) XI)) ?_
    refine ZO (JC fun hg => (RD ((a0.Zc.getD i1 default).Zu) ((a0.Zc.getD i1 default).ZJ))) (fun r8 her8 => ?_)
    refine ZO (JC fun hg => (RD ((((a0.Zc.drop 0).take (i1 - 0)).getD i6 default).Zu) ((((a0.Zc.drop 0).take (i1 - 0)).getD i6 default).ZJ))) (fun r9 her9 => ?_)
    refine ZO (JC fun hg => (Zbv r8 r9)) (fun r10 her10 => ?_)
    refine XQ (fun hb5 => ?_) (fun hb5 => ?_)
    · exact Xw
    · exact JR (by omega)
  · unfold M.Ym
    try simp only [Int.toNat_natCast]
    exact XZ (decide_eq_false (by omega)) rfl
noncomputable def S.YE (a0 : Zf) (i1 : Nat) : Option (Unit ⊕ Int) :=
  ZS (S.Ww ((a0.Zc.getD i1 default).ZX)) (fun r3 => bif !r3 then (some (.inr 3)) else (ZS (S.Qo a0 ((a0.Zc.getD i1 default).ZX)) (fun r4 => bif decide (r4 < (i1 : Int)) then (some (.inr 4)) else (ZS (S.Qx (a0.Zc.getD i1 default)) (fun r5 => bif !r5 then (some (.inr 1)) else (ZS (Xp (S.Ym a0 i1) (.inl ()) 0 i1) (fun y11 => Sum.elim (fun _ => none) (fun y13 => some (.inr y13)) y11)))))))
theorem RF (a0 : Zf) (ha0 : Zi a0) (i0 : Nat) : ZZ (M.YE a0) (i0 : Int) = some (Xp (S.YE a0) (.inl ()) i0 (a0.Zc.length - i0)) := by
  have hM := Zm
  have hni1 : a0.Zc.length ≤ maxLen := (Zi.Zc ha0).1
  refine Z5 (n := a0.Zc.length) (fun i1 hi1 => ?_) (fun m hm => ?_) i0
  · unfold M.YE S.YE
    try simp only [Int.toNat_natCast]
    refine XY (dt (by omega)) ?_
    refine YC (Zs (dt (by omega)) (Zs (dt (by omega)) XI)) ?_
    refine ZO (Zct ((a0.Zc.getD i1 default).ZX) (Xj.ZX (LL.getD (Zi.Zc ha0) Xj.dflt i1))) (fun r3 her3 => ?_)
    refine XQ (fun hb2 => ?_) (fun hb2 => ?_)
    · exact Xw
    · refine ZO (R4 a0 ((a0.Zc.getD i1 default).ZX) ha0 (Xj.ZX (LL.getD (Zi.Zc ha0) Xj.dflt i1))) (fun r4 her4 => ?_)
      have hrr4 := Rb a0 ((a0.Zc.getD i1 default).ZX)
      refine XQ (fun hb3 => ?_) (fun hb3 => ?_)
      · exact Xw
      · refine ZO (Zba (a0.Zc.getD i1 default) (LL.getD (Zi.Zc ha0) Xj.dflt i1)) (fun r5 her5 => ?_)
        refine XQ (fun hb4 => ?_) (fun hb4 => ?_)
        · exact Xw
        · refine YC (Zs (dt (by omega)) (Zs (dt (by omega)) XI)) ?_
          refine ZO (RE a0 i1 ha0 hi1 0) (fun y11 hey11 => ?_)
          refine J4 (fun _ hl => ?_) (fun y13 hly13 => ?_)
          · exact JR (by omega)
          · exact Xw
  · unfold M.YE
    try simp only [Int.toNat_natCast]
    exact XZ (decide_eq_false (by omega)) rfl
noncomputable def S.YO (a0 : Zf) : Int :=
  bif decide ((a0.Zc.length : Int) > 8) then 7 else (ZS (Xp (S.YE a0) (.inl ()) 0 a0.Zc.length) (fun y14 => Sum.elim (fun _ => 0) (fun y16 => y16) y14))
theorem ZaH (a0 : Zf) (ha0 : Zi a0) : M.YO a0 = some (S.YO a0) := by
  have hM := Zm
  unfold M.YO S.YO
  refine Jo (fun hb1 => ?_) (fun hb1 => ?_)
  · rfl
  · refine Z1 (RF a0 ha0 0) (fun y14 hey14 => ?_)
    refine Qw (fun _ hl => ?_) (fun y16 hly16 => ?_)
    · rfl
    · rfl
noncomputable def S.JP (a0 : Z3) (b0 : ByteArray) : Bool :=
  YJ a0.ZX b0
theorem Zcu (a0 : Z3) (b0 : ByteArray) (ha0 : X5 a0) (hb0 : b0.size ≤ maxLen) : M.JP a0 b0 = some (S.JP a0 b0) := by
  have hM := Zm
  unfold M.JP S.JP
  rfl
noncomputable def S.ZG (a0 : List Z3) (a1c0 : ByteArray) (i1 : Nat) : Option (Unit ⊕ Int) :=
  ZS (S.JP (a0.getD i1 default) a1c0) (fun r3 => bif r3 then (some (.inr (i1 : Int))) else none)
theorem Vv (a0 : List Z3) (a1c0 : ByteArray) (ha0 : LL X5 a0) (ha1c0 : a1c0.size ≤ maxLen) (i0 : Nat) : ZZ (M.ZG a0 a1c0) (i0 : Int) = some (Xp (S.ZG a0 a1c0) (.inl ()) i0 (a0.length - i0)) := by
  have hM := Zm
  have hni1 : a0.length ≤ maxLen := ha0.1
  refine Z5 (n := a0.length) (fun i1 hi1 => ?_) (fun m hm => ?_) i0
  · unfold M.ZG S.ZG
    try simp only [Int.toNat_natCast]
    refine XY (dt (by omega)) ?_
    refine ZO (Zcu (a0.getD i1 default) a1c0 (LL.getD ha0 X5.dflt i1) ha1c0) (fun r3 her3 => ?_)
    refine YC (Zs (dt (by omega)) (Zs (dt (by omega)) XI)) ?_
    refine XQ (fun hb1 => ?_) (fun hb1 => ?_)
    · exact Xw
    · exact JR (by omega)
  · unfold M.ZG
    try simp only [Int.toNat_natCast]
    exact XZ (decide_eq_false (by omega)) rfl
noncomputable def S.ZM (a0 : List Z3) (a1c0 : ByteArray) : Int :=
  ZS (Xp (S.ZG a0 a1c0) (.inl ()) 0 a0.length) (fun y4 => Sum.elim (fun _ => -1) (fun y6 => y6) y4)
theorem VN (a0 : List Z3) (a1c0 : ByteArray) (ha0 : LL X5 a0) (ha1c0 : a1c0.size ≤ maxLen) : M.ZM a0 a1c0 = some (S.ZM a0 a1c0) := by
  have hM := Zm
  unfold M.ZM S.ZM
  refine Z1 (Vv a0 a1c0 ha0 ha1c0 0) (fun y4 hey4 => ?_)
  refine Qw (fun _ hl => ?_) (fun y6 hly6 => ?_)
  · rfl
  · rfl
noncomputable def S.Yt (a0 : Zf) (a1 : ByteArray) : Int :=
  ZS (S.ZM a0.Xm a1) (fun r1 => r1)
theorem U4 (a0 : Zf) (a1 : ByteArray) (ha0 : Zi a0) (ha1 : a1.size ≤ maxLen) : M.Yt a0 a1 = some (S.Yt a0 a1) := by
  have hM := Zm
  unfold M.Yt S.Yt
  refine Z1 (VN a0.Xm a1 (Zi.Xm ha0) ha1) (fun r1 her1 => ?_)
  rfl
noncomputable def S.YX (a0 : Int) (a1 : Int) (a2 : ByteArray) (a3 : Int) (a4 : Int) : Int :=
  ZS (S.Ww a2) (fun r1 => bif !r1 then 3 else (bif decide (a1 < a0) then 4 else (bif a3 == 0 then 1 else (bif decide (a3 > a4) then 7 else 0))))
theorem Kz (a0 : Int) (a1 : Int) (a2 : ByteArray) (a3 : Int) (a4 : Int) (ha2 : a2.size ≤ maxLen) : M.YX a0 a1 a2 a3 a4 = some (S.YX a0 a1 a2 a3 a4) := by
  have hM := Zm
  unfold M.YX S.YX
  refine Z1 (Zct a2 ha2) (fun r1 her1 => ?_)
  refine Jo (fun hb1 => ?_) (fun hb1 => ?_)
  · rfl
  · refine Jo (fun hb2 => ?_) (fun hb2 => ?_)
    · rfl
    · refine Jo (fun hb3 => ?_) (fun hb3 => ?_)
      · rfl
      · refine Jo (fun hb4 => ?_) (fun hb4 => ?_)
        · rfl
        · rfl
noncomputable def S.QW (a0 : ZL) : Bool :=
  ZS (bif ((decide (a0.ZJ ≥ 0)) && (decide (a0.ZJ ≤ 32))) then S.J6 a0.ZJ else default) (fun r1 => ((decide (a0.ZJ ≥ 0)) && (decide (a0.ZJ ≤ 32))) && ((Uc .andNot .u32 a0.Zu r1) == 0))
theorem U5 (a0 : ZL)  : M.QW a0 = some (S.QW a0) := by
  have hM := Zm
  unfold M.QW S.QW
  refine Z1 (JC fun hg => (Zcr a0.ZJ)) (fun r1 her1 => ?_)
  rfl
noncomputable def S.Yg (a0 : Zf) (i1 : Nat) (i5 : Nat) : Option (Unit ⊕ Int) :=
  ZS (S.QW ((((a0.Xm.getD i1 default).XC).getD i5 default).Zp)) (fun r7 => bif (((!r7) || (decide (((((a0.Xm.getD i1 default).XC).getD i5 default).Zc5) < (((((a0.Xm.getD i1 default).XC).getD i5 default).Zp).ZJ)))) || (decide (((((a0.Xm.getD i1 default).XC).getD i5 default).Zc6) < ((((a0.Xm.getD i1 default).XC).getD i5 default).Zc5)))) || (decide (((((a0.Xm.getD i1 default).XC).getD i5 default).Zc6) > 32)) then (some (.inr 1)) else none)
theorem Rm (a0 : Zf) (i1 : Nat) (ha0 : Zi a0) (hi1 : i1 < a0.Xm.length) (i0 : Nat) : ZZ (M.Yg a0 (i1 : Int)) (i0 : Int) = some (Xp (S.Yg a0 i1) (.inl ()) i0 (((a0.Xm.getD i1 default).XC).length - i0)) := by
  have hM := Zm
  have hni1 : a0.Xm.length ≤ maxLen := (Zi.Xm ha0).1
  have hni5 : ((a0.Xm.getD i1 default).XC).length ≤ maxLen := (X5.XC (LL.getD (Zi.Xm ha0) X5.dflt i1))
  refine Z5 (n := ((a0.Xm.getD i1 default).XC).length) (fun i5 hi5 => ?_) (fun m hm => ?_) i0
  · unfold M.Yg S.Yg
    try simp only [Int.toNat_natCast]
    refine XY (dt (by omega)) ?_
    refine YC (Zs (dt (by omega)) (Zs (dt (by omega)) XI)) ?_
    refine ZO (U5 ((((a0.Xm.getD i1 default).XC).getD i5 default).Zp)) (fun r7 her7 => ?_)
    refine XQ (fun hb3 => ?_) (fun hb3 => ?_)
    · exact Xw
    · exact JR (by omega)
  · unfold M.Yg
    try simp only [Int.toNat_natCast]
    exact XZ (decide_eq_false (by omega)) rfl
noncomputable def S.Yr (a0 : Zf) (i1 : Nat) : Option (Unit ⊕ Int) :=
  ZS (S.Yt a0 ((a0.Xm.getD i1 default).ZX)) (fun r3 => ZS (S.YX (i1 : Int) r3 ((a0.Xm.getD i1 default).ZX) (((a0.Xm.getD i1 default).XC).length : Int) 16) (fun r4 => bif r4 != 0 then (some (.inr r4)) else (ZS (Xp (S.Yg a0 i1) (.inl ()) 0 (((a0.Xm.getD i1 default).XC).length)) (fun y8 => Sum.elim (fun _ => none) (fun y10 => some (.inr y10)) y8))))
theorem Rn (a0 : Zf) (ha0 : Zi a0) (i0 : Nat) : ZZ (M.Yr a0) (i0 : Int) = some (Xp (S.Yr a0) (.inl ()) i0 (a0.Xm.length - i0)) := by
  have hM := Zm
  have hni1 : a0.Xm.length ≤ maxLen := (Zi.Xm ha0).1
  refine Z5 (n := a0.Xm.length) (fun i1 hi1 => ?_) (fun m hm => ?_) i0
  · unfold M.Yr S.Yr
    try simp only [Int.toNat_natCast]
    refine XY (dt (by omega)) ?_
    refine YC (Zs (dt (by omega)) (Zs (dt (by omega)) XI)) ?_
    refine ZO (U4 a0 ((a0.Xm.getD i1 default).ZX) ha0 (X5.ZX (LL.getD (Zi.Xm ha0) X5.dflt i1))) (fun r3 her3 => ?_)
    refine ZO (Kz (i1 : Int) r3 ((a0.Xm.getD i1 default).ZX) (((a0.Xm.getD i1 default).XC).length : Int) 16 (X5.ZX (LL.getD (Zi.Xm ha0) X5.dflt i1))) (fun r4 her4 => ?_)
    refine XQ (fun hb2 => ?_) (fun hb2 => ?_)
    · exact Xw
    · refine ZO (Rm a0 i1 ha0 hi1 0) (fun y8 hey8 => ?_)
      refine J4 (fun _ hl => ?_) (fun y10 hly10 => ?_)
      · exact JR (by omega)
      · exact Xw
  · unfold M.Yr
    try simp only [Int.toNat_natCast]
    exact XZ (decide_eq_false (by omega)) rfl
noncomputable def S.YF (a0 : Zf) : Int :=
  bif decide ((a0.Xm.length : Int) > 8) then 7 else (ZS (Xp (S.Yr a0) (.inl ()) 0 a0.Xm.length) (fun y11 => Sum.elim (fun _ => 0) (fun y13 => y13) y11))
theorem Zai (a0 : Zf) (ha0 : Zi a0) : M.YF a0 = some (S.YF a0) := by
  have hM := Zm
  unfold M.YF S.YF
  refine Jo (fun hb1 => ?_) (fun hb1 => ?_)
  · rfl
  · refine Z1 (Rn a0 ha0 0) (fun y11 hey11 => ?_)
    refine Qw (fun _ hl => ?_) (fun y13 hly13 => ?_)
    · rfl
    · rfl
noncomputable def S.Vo (a0 : X4) (b0 : ByteArray) : Bool :=
  YJ a0.ZX b0
theorem Zd6 (a0 : X4) (b0 : ByteArray) (ha0 : Yk a0) (hb0 : b0.size ≤ maxLen) : M.Vo a0 b0 = some (S.Vo a0 b0) := by
  have hM := Zm
  unfold M.Vo S.Vo
  rfl
noncomputable def S.ZU (a0 : List X4) (a1c0 : ByteArray) (i1 : Nat) : Option (Unit ⊕ Int) :=
  ZS (S.Vo (a0.getD i1 default) a1c0) (fun r3 => bif r3 then (some (.inr (i1 : Int))) else none)
theorem V6 (a0 : List X4) (a1c0 : ByteArray) (ha0 : LL Yk a0) (ha1c0 : a1c0.size ≤ maxLen) (i0 : Nat) : ZZ (M.ZU a0 a1c0) (i0 : Int) = some (Xp (S.ZU a0 a1c0) (.inl ()) i0 (a0.length - i0)) := by
  have hM := Zm
  have hni1 : a0.length ≤ maxLen := ha0.1
  refine Z5 (n := a0.length) (fun i1 hi1 => ?_) (fun m hm => ?_) i0
  · unfold M.ZU S.ZU
    try simp only [Int.toNat_natCast]
    refine XY (dt (by omega)) ?_
    refine ZO (Zd6 (a0.getD i1 default) a1c0 (LL.getD ha0 Yk.dflt i1) ha1c0) (fun r3 her3 => ?_)
    refine YC (Zs (dt (by omega)) (Zs (dt (by omega)) XI)) ?_
    refine XQ (fun hb1 => ?_) (fun hb1 => ?_)
    · exact Xw
    · exact JR (by omega)
  · unfold M.ZU
    try simp only [Int.toNat_natCast]
    exact XZ (decide_eq_false (by omega)) rfl
noncomputable def S.Z2 (a0 : List X4) (a1c0 : ByteArray) : Int :=
  ZS (Xp (S.ZU a0 a1c0) (.inl ()) 0 a0.length) (fun y4 => Sum.elim (fun _ => -1) (fun y6 => y6) y4)
theorem Wq (a0 : List X4) (a1c0 : ByteArray) (ha0 : LL Yk a0) (ha1c0 : a1c0.size ≤ maxLen) : M.Z2 a0 a1c0 = some (S.Z2 a0 a1c0) := by
  have hM := Zm
  unfold M.Z2 S.Z2
  refine Z1 (V6 a0 a1c0 ha0 ha1c0 0) (fun y4 hey4 => ?_)
  refine Qw (fun _ hl => ?_) (fun y6 hly6 => ?_)
  · rfl
  · rfl
noncomputable def S.Y4 (a0 : Zf) (a1 : ByteArray) : Int :=
  ZS (S.Z2 a0.Xa a1) (fun r1 => r1)
theorem GI (a0 : Zf) (a1 : ByteArray) (ha0 : Zi a0) (ha1 : a1.size ≤ maxLen) : M.Y4 a0 a1 = some (S.Y4 a0 a1) := by
  have hM := Zm
  unfold M.Y4 S.Y4
  refine Z1 (Wq a0.Xa a1 (Zi.Xa ha0) ha1) (fun r1 her1 => ?_)
  rfl
noncomputable def S.Q4 (a0 : Kq) : Bool :=
  ZS (S.ZP a0.Gk (-1) 65535) (fun r1 => ZS (bif r1 then S.ZP a0.W3 (-1) 16777215 else default) (fun r2 => ZS (bif (r1 && r2) then S.ZP a0.Kr (-1) 65535 else default) (fun r3 => ZS (bif ((r1 && r2) && r3) then S.ZP a0.Gu (-1) 1000000 else default) (fun r4 => ZS (bif (((r1 && r2) && r3) && r4) then S.ZP a0.Gv 0 8 else default) (fun r5 => (((r1 && r2) && r3) && r4) && r5)))))
theorem Zde (a0 : Kq) (ha0 : W0 a0) : M.Q4 a0 = some (S.Q4 a0) := by
  have hM := Zm
  unfold M.Q4 S.Q4
  refine Z1 (XX a0.Gk (-1) 65535) (fun r1 her1 => ?_)
  refine Z1 (JC fun hg => (XX a0.W3 (-1) 16777215)) (fun r2 her2 => ?_)
  refine Z1 (JC fun hg => (XX a0.Kr (-1) 65535)) (fun r3 her3 => ?_)
  refine Z1 (JC fun hg => (XX a0.Gu (-1) 1000000)) (fun r4 her4 => ?_)
  refine Z1 (JC fun hg => (XX a0.Gv 0 8)) (fun r5 her5 => ?_)
  rfl
noncomputable def S.Yu (a0 : Zf) (i1 : Nat) (i5 : Nat) : Option (Unit ⊕ Int) :=
  ZS (bif (!strEq ((((a0.Xa.getD i1 default).Xn).getD i5 default).QX) (⟨#[]⟩ : ByteArray)) then S.Yt a0 ((((a0.Xa.getD i1 default).Xn).getD i5 default).QX) else default) (fun r7 => bif (!strEq ((((a0.Xa.getD i1 default).Xn).getD i5 default).QX) (⟨#[]⟩ : ByteArray)) && (decide (r7 < 0)) then (some (.inr 5)) else (ZS (S.Q4 (((a0.Xa.getD i1 default).Xn).getD i5 default)) (fun r8 => bif !r8 then (some (.inr 1)) else none)))
theorem RM (a0 : Zf) (i1 : Nat) (ha0 : Zi a0) (hi1 : i1 < a0.Xa.length) (i0 : Nat) : ZZ (M.Yu a0 (i1 : Int)) (i0 : Int) = some (Xp (S.Yu a0 i1) (.inl ()) i0 (((a0.Xa.getD i1 default).Xn).length - i0)) := by
  have hM := Zm
  have hni1 : a0.Xa.length ≤ maxLen := (Zi.Xa ha0).1
  have hni5 : ((a0.Xa.getD i1 default).Xn).length ≤ maxLen := (Yk.Xn (LL.getD (Zi.Xa ha0) Yk.dflt i1)).1
  refine Z5 (n := ((a0.Xa.getD i1 default).Xn).length) (fun i5 hi5 => ?_) (fun m hm => ?_) i0
  · unfold M.Yu S.Yu
    try simp only [Int.toNat_natCast]
    refine XY (dt (by omega)) ?_
    refine YC (Zs (dt (by omega)) (Zs (dt (by omega)) XI)) ?_
    refine ZO (JC fun hg => (U4 a0 ((((a0.Xa.getD i1 default).Xn).getD i5 default).QX) ha0 (W0.QX (LL.getD (Yk.Xn (LL.getD (Zi.Xa ha0) Yk.dflt i1)) W0.dflt i5)))) (fun r7 her7 => ?_)
    refine XQ (fun hb3 => ?_) (fun hb3 => ?_)
    · exact Xw
    · refine ZO (Zde (((a0.Xa.getD i1 default).Xn).getD i5 default) (LL.getD (Yk.Xn (LL.getD (Zi.Xa ha0) Yk.dflt i1)) W0.dflt i5)) (fun r8 her8 => ?_)
      refine XQ (fun hb4 => ?_) (fun hb4 => ?_)
      · exact Xw
      · exact JR (by omega)
  · unfold M.Yu
    try simp only [Int.toNat_natCast]
    exact XZ (decide_eq_false (by omega)) rfl
noncomputable def S.YL (a0 : Zf) (i1 : Nat) : Option (Unit ⊕ Int) :=
  ZS (S.Y4 a0 ((a0.Xa.getD i1 default).ZX)) (fun r3 => ZS (S.YX (i1 : Int) r3 ((a0.Xa.getD i1 default).ZX) (((a0.Xa.getD i1 default).Xn).length : Int) 8) (fun r4 => bif r4 != 0 then (some (.inr r4)) else (ZS (Xp (S.Yu a0 i1) (.inl ()) 0 (((a0.Xa.getD i1 default).Xn).length)) (fun y9 => Sum.elim (fun _ => none) (fun y11 => some (.inr y11)) y9))))
theorem RN (a0 : Zf) (ha0 : Zi a0) (i0 : Nat) : ZZ (M.YL a0) (i0 : Int) = some (Xp (S.YL a0) (.inl ()) i0 (a0.Xa.length - i0)) := by
  have hM := Zm
  have hni1 : a0.Xa.length ≤ maxLen := (Zi.Xa ha0).1
  refine Z5 (n := a0.Xa.length) (fun i1 hi1 => ?_) (fun m hm => ?_) i0
  · unfold M.YL S.YL
    try simp only [Int.toNat_natCast]
    refine XY (dt (by omega)) ?_
    refine YC (Zs (dt (by omega)) (Zs (dt (by omega)) XI)) ?_
    refine ZO (GI a0 ((a0.Xa.getD i1 default).ZX) ha0 (Yk.ZX (LL.getD (Zi.Xa ha0) Yk.dflt i1))) (fun r3 her3 => ?_)
    refine ZO (Kz (i1 : Int) r3 ((a0.Xa.getD i1 default).ZX) (((a0.Xa.getD i1 default).Xn).length : Int) 8 (Yk.ZX (LL.getD (Zi.Xa ha0) Yk.dflt i1))) (fun r4 her4 => ?_)
    refine XQ (fun hb2 => ?_) (fun hb2 => ?_)
    · exact Xw
    · refine ZO (RM a0 i1 ha0 hi1 0) (fun y9 hey9 => ?_)
      refine J4 (fun _ hl => ?_) (fun y11 hly11 => ?_)
      · exact JR (by omega)
      · exact Xw
  · unfold M.YL
    try simp only [Int.toNat_natCast]
    exact XZ (decide_eq_false (by omega)) rfl
noncomputable def S.Y5 (a0 : Zf) : Int :=
  bif decide ((a0.Xa.length : Int) > 8) then 7 else (ZS (Xp (S.YL a0) (.inl ()) 0 a0.Xa.length) (fun y12 => Sum.elim (fun _ => 0) (fun y14 => y14) y12))
theorem Zbb (a0 : Zf) (ha0 : Zi a0) : M.Y5 a0 = some (S.Y5 a0) := by
  have hM := Zm
  unfold M.Y5 S.Y5
  refine Jo (fun hb1 => ?_) (fun hb1 => ?_)
  · rfl
  · refine Z1 (RN a0 ha0 0) (fun y12 hey12 => ?_)
    refine Qw (fun _ hl => ?_) (fun y14 hly14 => ?_)
    · rfl
    · rfl
noncomputable def S.Ul (a0 : WU) (b0 : ByteArray) : Bool :=
  YJ a0.ZX b0
theorem Zib (a0 : WU) (b0 : ByteArray) (ha0 : Wy a0) (hb0 : b0.size ≤ maxLen) : M.Ul a0 b0 = some (S.Ul a0 b0) := by
  have hM := Zm
  unfold M.Ul S.Ul
  rfl
noncomputable def S.Xg (a0 : List WU) (a1c0 : ByteArray) (i1 : Nat) : Option (Unit ⊕ Int) :=
  ZS (S.Ul (a0.getD i1 default) a1c0) (fun r3 => bif r3 then (some (.inr (i1 : Int))) else none)
theorem Ub (a0 : List WU) (a1c0 : ByteArray) (ha0 : LL Wy a0) (ha1c0 : a1c0.size ≤ maxLen) (i0 : Nat) : ZZ (M.Xg a0 a1c0) (i0 : Int) = some (Xp (S.Xg a0 a1c0) (.inl ()) i0 (a0.length - i0)) := by
  have hM := Zm
  have hni1 : a0.length ≤ maxLen := ha0.1
  refine Z5 (n := a0.length) (fun i1 hi1 => ?_) (fun m hm => ?_) i0
  · unfold M.Xg S.Xg
    try simp only [Int.toNat_natCast]
    refine XY (dt (by omega)) ?_
    refine ZO (Zib (a0.getD i1 default) a1c0 (LL.getD ha0 Wy.dflt i1) ha1c0) (fun r3 her3 => ?_)
    refine YC (Zs (dt (by omega)) (Zs (dt (by omega)) XI)) ?_
    refine XQ (fun hb1 => ?_) (fun hb1 => ?_)
    · exact Xw
    · exact JR (by omega)
  · unfold M.Xg
    try simp only [Int.toNat_natCast]
    exact XZ (decide_eq_false (by omega)) rfl
noncomputable def S.Xo (a0 : List WU) (a1c0 : ByteArray) : Int :=
  ZS (Xp (S.Xg a0 a1c0) (.inl ()) 0 a0.length) (fun y4 => Sum.elim (fun _ => -1) (fun y6 => y6) y4)
theorem Ur (a0 : List WU) (a1c0 : ByteArray) (ha0 : LL Wy a0) (ha1c0 : a1c0.size ≤ maxLen) : M.Xo a0 a1c0 = some (S.Xo a0 a1c0) := by
  have hM := Zm
  unfold M.Xo S.Xo
  refine Z1 (Ub a0 a1c0 ha0 ha1c0 0) (fun y4 hey4 => ?_)
  refine Qw (fun _ hl => ?_) (fun y6 hly6 => ?_)
  · rfl
  · rfl
noncomputable def S.V4 (a0 : Zf) (a1 : ByteArray) : Int :=
  ZS (S.Xo a0.XR a1) (fun r1 => r1)
theorem R5 (a0 : Zf) (a1 : ByteArray) (ha0 : Zi a0) (ha1 : a1.size ≤ maxLen) : M.V4 a0 a1 = some (S.V4 a0 a1) := by
  have hM := Zm
  unfold M.V4 S.V4
  refine Z1 (Ur a0.XR a1 (Zi.XR ha0) ha1) (fun r1 her1 => ?_)
  rfl
noncomputable def S.QY (a0 : J8) : Bool :=
  ((decide (0 ≤ a0.GK)) && (decide (a0.GK ≤ a0.Ks))) && (decide (a0.Ks ≤ 65535))
theorem RG (a0 : J8)  : M.QY a0 = some (S.QY a0) := by
  have hM := Zm
  unfold M.QY S.QY
  rfl
noncomputable def S.JS (a0 : Zbt) : Bool :=
  ZS (S.ZP a0.Ye (-1) 255) (fun r1 => bif ((!r1) || ((Uc .and .u32 a0.Zab.Zu a0.Zab.GJ) != 0)) || ((Uc .and .u32 a0.Zac.Zu a0.Zac.GJ) != 0) then false else (ZS (S.QY a0.VB) (fun r2 => ZS (bif (!(!r2)) then S.QY a0.VC else default) (fun r3 => bif (!r2) || (!r3) then false else (((a0.Ye == 6) || (a0.Ye == 17)) || (((a0.VB.GK == 0) && ((a0.VB.Ks == 65535) && true)) && ((a0.VC.GK == 0) && ((a0.VC.Ks == 65535) && true))))))))
theorem Ze3 (a0 : Zbt)  : M.JS a0 = some (S.JS a0) := by
  have hM := Zm
  unfold M.JS S.JS
  refine Z1 (XX a0.Ye (-1) 255) (fun r1 her1 => ?_)
  refine Jo (fun hb1 => ?_) (fun hb1 => ?_)
  · rfl
  · refine Z1 (RG a0.VB) (fun r2 her2 => ?_)
    refine Z1 (JC fun hg => (RG a0.VC)) (fun r3 her3 => ?_)
    refine Jo (fun hb2 => ?_) (fun hb2 => ?_)
    · rfl
    · rfl
noncomputable def S.QJ (a0 : Zf) (i1 : Nat) (i5 : Nat) : Option (Unit ⊕ Int) :=
  ZS (S.JS (((a0.XR.getD i1 default).XC).getD i5 default)) (fun r7 => bif !r7 then (some (.inr 1)) else none)
theorem Zcv (a0 : Zf) (i1 : Nat) (ha0 : Zi a0) (hi1 : i1 < a0.XR.length) (i0 : Nat) : ZZ (M.QJ a0 (i1 : Int)) (i0 : Int) = some (Xp (S.QJ a0 i1) (.inl ()) i0 (((a0.XR.getD i1 default).XC).length - i0)) := by
  have hM := Zm
  have hni1 : a0.XR.length ≤ maxLen := (Zi.XR ha0).1
  have hni5 : ((a0.XR.getD i1 default).XC).length ≤ maxLen := (Wy.XC (LL.getD (Zi.XR ha0) Wy.dflt i1))
  refine Z5 (n := ((a0.XR.getD i1 default).XC).length) (fun i5 hi5 => ?_) (fun m hm => ?_) i0
  · unfold M.QJ S.QJ
    try simp only [Int.toNat_natCast]
    refine XY (dt (by omega)) ?_
    refine YC (Zs (dt (by omega)) (Zs (dt (by omega)) XI)) ?_
    refine ZO (Ze3 (((a0.XR.getD i1 default).XC).getD i5 default)) (fun r7 her7 => ?_)
    refine XQ (fun hb3 => ?_) (fun hb3 => ?_)
    · exact Xw
    · exact JR (by omega)
  · unfold M.QJ
    try simp only [Int.toNat_natCast]
    exact XZ (decide_eq_false (by omega)) rfl
noncomputable def S.Jj (a0 : Zf) (i1 : Nat) : Option (Unit ⊕ Int) :=
  ZS (S.V4 a0 ((a0.XR.getD i1 default).ZX)) (fun r3 => ZS (S.YX (i1 : Int) r3 ((a0.XR.getD i1 default).ZX) (((a0.XR.getD i1 default).XC).length : Int) 16) (fun r4 => bif r4 != 0 then (some (.inr r4)) else (ZS (Xp (S.QJ a0 i1) (.inl ()) 0 (((a0.XR.getD i1 default).XC).length)) (fun y8 => Sum.elim (fun _ => none) (fun y10 => some (.inr y10)) y8))))
theorem Zcw (a0 : Zf) (ha0 : Zi a0) (i0 : Nat) : ZZ (M.Jj a0) (i0 : Int) = some (Xp (S.Jj a0) (.inl ()) i0 (a0.XR.length - i0)) := by
  have hM := Zm
  have hni1 : a0.XR.length ≤ maxLen := (Zi.XR ha0).1
  refine Z5 (n := a0.XR.length) (fun i1 hi1 => ?_) (fun m hm => ?_) i0
  · unfold M.Jj S.Jj
    try simp only [Int.toNat_natCast]
    refine XY (dt (by omega)) ?_
    refine YC (Zs (dt (by omega)) (Zs (dt (by omega)) XI)) ?_
    refine ZO (R5 a0 ((a0.XR.getD i1 default).ZX) ha0 (Wy.ZX (LL.getD (Zi.XR ha0) Wy.dflt i1))) (fun r3 her3 => ?_)
    refine ZO (Kz (i1 : Int) r3 ((a0.XR.getD i1 default).ZX) (((a0.XR.getD i1 default).XC).length : Int) 16 (Wy.ZX (LL.getD (Zi.XR ha0) Wy.dflt i1))) (fun r4 her4 => ?_)
    refine XQ (fun hb2 => ?_) (fun hb2 => ?_)
    · exact Xw
    · refine ZO (Zcv a0 i1 ha0 hi1 0) (fun y8 hey8 => ?_)
      refine J4 (fun _ hl => ?_) (fun y10 hly10 => ?_)
      · exact JR (by omega)
      · exact Xw
  · unfold M.Jj
    try simp only [Int.toNat_natCast]
    exact XZ (decide_eq_false (by omega)) rfl
noncomputable def S.JT (a0 : Zf) : Int :=
  bif decide ((a0.XR.length : Int) > 8) then 7 else (ZS (Xp (S.Jj a0) (.inl ()) 0 a0.XR.length) (fun y11 => Sum.elim (fun _ => 0) (fun y13 => y13) y11))
theorem Ze4 (a0 : Zf) (ha0 : Zi a0) : M.JT a0 = some (S.JT a0) := by
  have hM := Zm
  unfold M.JT S.JT
  refine Jo (fun hb1 => ?_) (fun hb1 => ?_)
  · rfl
  · refine Z1 (Zcw a0 ha0 0) (fun y11 hey11 => ?_)
    refine Qw (fun _ hl => ?_) (fun y13 hly13 => ?_)
    · rfl
    · rfl
noncomputable def S.Y1 (a0 : YZ) : Bool :=
  bif a0.J5 == 1 then ((((a0.J5 == a0.J5) && ((a0.Qq == a0.Qq) && ((a0.YA == a0.YA) && ((a0.Ye == 0) && ((a0.QR == 0) && ((a0.Ql == 0) && (YJ a0.QX (⟨#[]⟩ : ByteArray) && ((a0.GK == 0) && ((a0.Ks == 0) && true))))))))) && (a0.Qq != 0)) && (a0.YA != 0)) else (bif a0.J5 == 2 then (((((a0.J5 == a0.J5) && ((a0.Qq == 0) && ((a0.YA == 0) && ((a0.Ye == 0) && ((a0.QR == 0) && ((a0.Ql == 0) && (YJ a0.QX a0.QX && ((a0.GK == a0.GK) && ((a0.Ks == a0.Ks) && true))))))))) && (a0.GK != 0)) && (decide (a0.GK ≤ a0.Ks))) && (decide ((wr .u32 (a0.Ks - a0.GK)) < 8))) else (bif a0.J5 == 3 then (ZS (bif (((a0.Qq != 0) && (a0.YA != 0)) && ((a0.Ye == 6) || (a0.Ye == 17))) then S.ZP a0.QR 0 65535 else default) (fun r1 => ZS (bif ((((a0.Qq != 0) && (a0.YA != 0)) && ((a0.Ye == 6) || (a0.Ye == 17))) && r1) then S.ZP a0.Ql 0 65535 else default) (fun r2 => (((((((a0.Qq != 0) && (a0.YA != 0)) && ((a0.Ye == 6) || (a0.Ye == 17))) && r1) && r2) && (YJ a0.QX (⟨#[]⟩ : ByteArray))) && (a0.GK == 0)) && (a0.Ks == 0)))) else false))
theorem Zaj (a0 : YZ) (ha0 : JD a0) : M.Y1 a0 = some (S.Y1 a0) := by
  have hM := Zm
  unfold M.Y1 S.Y1
  refine Jo (fun hb1 => ?_) (fun hb1 => ?_)
  · rfl
  · refine Jo (fun hb2 => ?_) (fun hb2 => ?_)
    · rfl
    · refine Jo (fun hb3 => ?_) (fun hb3 => ?_)
      · refine Z1 (JC fun hg => (XX a0.QR 0 65535)) (fun r1 her1 => ?_)
        refine Z1 (JC fun hg => (XX a0.Ql 0 65535)) (fun r2 her2 => ?_)
        rfl
      · rfl
noncomputable def S.JF (a0 : Zf) (i1 : Nat) : Option (Unit ⊕ Int) :=
  ZS (S.Y1 (a0.Xf.getD i1 default)) (fun r3 => bif !r3 then (some (.inr 1)) else (ZS (bif (((a0.Xf.getD i1 default).J5) == 2) then S.V4 a0 ((a0.Xf.getD i1 default).QX) else default) (fun r4 => bif (((a0.Xf.getD i1 default).J5) == 2) && (decide (r4 < 0)) then (some (.inr 5)) else none)))
theorem Zdf (a0 : Zf) (ha0 : Zi a0) (i0 : Nat) : ZZ (M.JF a0) (i0 : Int) = some (Xp (S.JF a0) (.inl ()) i0 (a0.Xf.length - i0)) := by
  have hM := Zm
  have hni1 : a0.Xf.length ≤ maxLen := (Zi.Xf ha0).1
  refine Z5 (n := a0.Xf.length) (fun i1 hi1 => ?_) (fun m hm => ?_) i0
  · unfold M.JF S.JF
    try simp only [Int.toNat_natCast]
    refine XY (dt (by omega)) ?_
    refine YC (Zs (dt (by omega)) (Zs (dt (by omega)) XI)) ?_
    refine ZO (Zaj (a0.Xf.getD i1 default) (LL.getD (Zi.Xf ha0) JD.dflt i1)) (fun r3 her3 => ?_)
    refine XQ (fun hb2 => ?_) (fun hb2 => ?_)
    · exact Xw
    · refine ZO (JC fun hg => (R5 a0 ((a0.Xf.getD i1 default).QX) ha0 (JD.QX (LL.getD (Zi.Xf ha0) JD.dflt i1)))) (fun r4 her4 => ?_)
      refine XQ (fun hb3 => ?_) (fun hb3 => ?_)
      · exact Xw
      · exact JR (by omega)
  · unfold M.JF
    try simp only [Int.toNat_natCast]
    exact XZ (decide_eq_false (by omega)) rfl
noncomputable def S.J9 (a0 : Zf) : Int :=
  bif decide ((a0.Xf.length : Int) > 8) then 7 else (ZS (Xp (S.JF a0) (.inl ()) 0 a0.Xf.length) (fun y5 => Sum.elim (fun _ => 0) (fun y7 => y7) y5))
theorem ZfF (a0 : Zf) (ha0 : Zi a0) : M.J9 a0 = some (S.J9 a0) := by
  have hM := Zm
  unfold M.J9 S.J9
  refine Jo (fun hb1 => ?_) (fun hb1 => ?_)
  · rfl
  · refine Z1 (Zdf a0 ha0 0) (fun y5 hey5 => ?_)
    refine Qw (fun _ hl => ?_) (fun y7 hly7 => ?_)
    · rfl
    · rfl
noncomputable def S.QQ (a0 : Zf) (i1 : Nat) : Option (Unit ⊕ Int) :=
  ZS (bif (!strEq ((a0.Zc.getD i1 default).V7) (⟨#[]⟩ : ByteArray)) then S.V4 a0 ((a0.Zc.getD i1 default).V7) else default) (fun r3 => ZS (bif ((!((!strEq ((a0.Zc.getD i1 default).V7) (⟨#[]⟩ : ByteArray)) && (decide (r3 < 0)))) && (!strEq ((a0.Zc.getD i1 default).Y2) (⟨#[]⟩ : ByteArray))) then S.V4 a0 ((a0.Zc.getD i1 default).Y2) else default) (fun r4 => bif ((!strEq ((a0.Zc.getD i1 default).V7) (⟨#[]⟩ : ByteArray)) && (decide (r3 < 0))) || ((!strEq ((a0.Zc.getD i1 default).Y2) (⟨#[]⟩ : ByteArray)) && (decide (r4 < 0))) then (some (.inr 5)) else none))
theorem ZaI (a0 : Zf) (ha0 : Zi a0) (i0 : Nat) : ZZ (M.QQ a0) (i0 : Int) = some (Xp (S.QQ a0) (.inl ()) i0 (a0.Zc.length - i0)) := by
  have hM := Zm
  have hni1 : a0.Zc.length ≤ maxLen := (Zi.Zc ha0).1
  refine Z5 (n := a0.Zc.length) (fun i1 hi1 => ?_) (fun m hm => ?_) i0
  · unfold M.QQ S.QQ
    try simp only [Int.toNat_natCast]
    refine XY (dt (by omega)) ?_
    refine YC (Zs (dt (by omega)) (Zs (dt (by omega)) XI)) ?_
    refine ZO (JC fun hg => (R5 a0 ((a0.Zc.getD i1 default).V7) ha0 (Xj.V7 (LL.getD (Zi.Zc ha0) Xj.dflt i1)))) (fun r3 her3 => ?_)
    refine ZO (JC fun hg => (R5 a0 ((a0.Zc.getD i1 default).Y2) ha0 (Xj.Y2 (LL.getD (Zi.Zc ha0) Xj.dflt i1)))) (fun r4 her4 => ?_)
    refine XQ (fun hb1 => ?_) (fun hb1 => ?_)
    · exact Xw
    · exact JR (by omega)
  · unfold M.QQ
    try simp only [Int.toNat_natCast]
    exact XZ (decide_eq_false (by omega)) rfl
noncomputable def S.Jk (a0 : Zf) : Int :=
  ZS (Xp (S.QQ a0) (.inl ()) 0 a0.Zc.length) (fun y5 => Sum.elim (fun _ => 0) (fun y7 => y7) y5)
theorem Zcx (a0 : Zf) (ha0 : Zi a0) : M.Jk a0 = some (S.Jk a0) := by
  have hM := Zm
  unfold M.Jk S.Jk
  refine Z1 (ZaI a0 ha0 0) (fun y5 hey5 => ?_)
  refine Qw (fun _ hl => ?_) (fun y7 hly7 => ?_)
  · rfl
  · rfl
noncomputable def S.VQ (a0 : Zy) (b0 : Int) : Bool :=
  (a0.ZJ != 0) && (a0.Zu == b0)
theorem Ze5 (a0 : Zy) (b0 : Int) (ha0 : Xj a0) : M.VQ a0 b0 = some (S.VQ a0 b0) := by
  have hM := Zm
  unfold M.VQ S.VQ
  rfl
noncomputable def S.ZR (a0 : List Zy) (a1c0 : Int) (i1 : Nat) : Option (Unit ⊕ Int) :=
  ZS (S.VQ (a0.getD i1 default) a1c0) (fun r3 => bif r3 then (some (.inr (i1 : Int))) else none)
theorem VY (a0 : List Zy) (a1c0 : Int) (ha0 : LL Xj a0) (i0 : Nat) : ZZ (M.ZR a0 a1c0) (i0 : Int) = some (Xp (S.ZR a0 a1c0) (.inl ()) i0 (a0.length - i0)) := by
  have hM := Zm
  have hni1 : a0.length ≤ maxLen := ha0.1
  refine Z5 (n := a0.length) (fun i1 hi1 => ?_) (fun m hm => ?_) i0
  · unfold M.ZR S.ZR
    try simp only [Int.toNat_natCast]
    refine XY (dt (by omega)) ?_
    refine ZO (Ze5 (a0.getD i1 default) a1c0 (LL.getD ha0 Xj.dflt i1)) (fun r3 her3 => ?_)
    refine YC (Zs (dt (by omega)) (Zs (dt (by omega)) XI)) ?_
    refine XQ (fun hb1 => ?_) (fun hb1 => ?_)
    · exact Xw
    · exact JR (by omega)
  · unfold M.ZR
    try simp only [Int.toNat_natCast]
    exact XZ (decide_eq_false (by omega)) rfl
noncomputable def S.Z0 (a0 : List Zy) (a1c0 : Int) : Int :=
  ZS (Xp (S.ZR a0 a1c0) (.inl ()) 0 a0.length) (fun y4 => Sum.elim (fun _ => -1) (fun y6 => y6) y4)
theorem Wb (a0 : List Zy) (a1c0 : Int) (ha0 : LL Xj a0) : M.Z0 a0 a1c0 = some (S.Z0 a0 a1c0) := by
  have hM := Zm
  unfold M.Z0 S.Z0
  refine Z1 (VY a0 a1c0 ha0 0) (fun y4 hey4 => ?_)
  refine Qw (fun _ hl => ?_) (fun y6 hly6 => ?_)
  · rfl
  · rfl
noncomputable def S.Vi (a0 : Zf) (a1 : Int) : Int :=
  ZS (S.Z0 a0.Zc a1) (fun r1 => r1)
theorem Zbw (a0 : Zf) (a1 : Int) (ha0 : Zi a0) : M.Vi a0 a1 = some (S.Vi a0 a1) := by
  have hM := Zm
  unfold M.Vi S.Vi
  refine Z1 (Wb a0.Zc a1 (Zi.Zc ha0)) (fun r1 her1 => ?_)
  rfl
noncomputable def S.YK (i1 : Nat) (s1 : Int) (p3 : Int) : Int ⊕ Int :=
  .inl (p3)
theorem KA (i1 : Nat) (s1 : Int) (p3 : Int) (hi1 : i1 < 3) : M.YK (s1, (i1 : Int)) p3 = some (rdT (fun (i : Nat) (s1 : Int) => (s1, (i : Int))) (S.YK i1 s1 p3) i1) := by
  have hM := Zm
  have hni1 : 3 ≤ maxLen := (by omega)
  unfold M.YK S.YK
  try simp only [Int.toNat_natCast]
  rw [ZnS (by omega)]
  rfl
noncomputable def S.Y6 (a1 : Yf) (i1 : Nat) (s1 : Int) : Int ⊕ Int :=
  bif ([a1.Vu != 0, !strEq a1.QI (⟨#[]⟩ : ByteArray), a1.VH] : List Bool).getD i1 default then (S.YK i1 s1 (wr .i64 (s1 + 1))) else (S.YK i1 s1 s1)
theorem Zbc (a1 : Yf) (ha1 : Jh a1) (i0 : Nat) (s0 : Int) : ZZ (M.Y6 a1) ((fun (i : Nat) (s1 : Int) => (s1, (i : Int))) i0 s0) = some (Zjc (S.Y6 a1) (fun s1 => s1) i0 (3 - i0) s0) := by
  have hM := Zm
  have hni1 : 3 ≤ maxLen := (by omega)
  refine Zmz (n := 3) (mk := (fun (i : Nat) (s1 : Int) => (s1, (i : Int)))) (fun i1 s1 hi1 => ?_) (fun m s1 hm => ?_) i0 s0
  · unfold M.Y6 S.Y6
    try simp only [Int.toNat_natCast]
    refine XY (dt (by omega)) ?_
    refine YC (Zs (dt (by omega)) (Zs (dt (by simp; omega)) XI)) ?_
    refine Zqr (fun hb1 => ?_) (fun hb1 => ?_)
    · exact KA i1 s1 (wr .i64 (s1 + 1)) hi1
    · exact KA i1 s1 s1 hi1
  · unfold M.Y6
    try simp only [Int.toNat_natCast]
    exact XZ (decide_eq_false (by omega)) rfl
noncomputable def S.QE (a0 : Zf) (a1 : Yf) : Bool :=
  ZS (Zjc (S.Y6 a1) (fun s1 => s1) 0 3 (0)) (fun y4 => ZS (S.QW a1.Zp) (fun r5 => ZS (bif ((r5 && (y4 == 1)) && !(a1.Vu == 0)) then S.Vi a0 a1.Vu else default) (fun r6 => ZS (bif ((r5 && (y4 == 1)) && ((a1.Vu == 0) || (decide (r6 < 0)))) then S.ZP a1.Xl 1 255 else default) (fun r7 => ZS (bif (((r5 && (y4 == 1)) && ((a1.Vu == 0) || (decide (r6 < 0)))) && r7) then S.ZP a1.Gk 0 65535 else default) (fun r8 => (((r5 && (y4 == 1)) && ((a1.Vu == 0) || (decide (r6 < 0)))) && r7) && r8)))))
theorem Zdg (a0 : Zf) (a1 : Yf) (ha0 : Zi a0) (ha1 : Jh a1) : M.QE a0 a1 = some (S.QE a0 a1) := by
  have hM := Zm
  unfold M.QE S.QE
  refine Z1 (Zbc a1 ha1 0 (0)) (fun y4 hey4 => ?_)
  refine Z1 (U5 a1.Zp) (fun r5 her5 => ?_)
  refine Z1 (JC fun hg => (Zbw a0 a1.Vu ha0)) (fun r6 her6 => ?_)
  refine Z1 (JC fun hg => (XX a1.Xl 1 255)) (fun r7 her7 => ?_)
  refine Z1 (JC fun hg => (XX a1.Gk 0 65535)) (fun r8 her8 => ?_)
  rfl
noncomputable def S.YP (a0 : Zf) (i1 : Nat) (i5 : Nat) : Option (Unit ⊕ Int) :=
  bif (((((((a0.Zq.drop 0).take (i1 - 0)).getD i5 default).Zp).Zu) == (((a0.Zq.getD i1 default).Zp).Zu)) && (((((((a0.Zq.drop 0).take (i1 - 0)).getD i5 default).Zp).ZJ) == (((a0.Zq.getD i1 default).Zp).ZJ)) && true)) && (((((a0.Zq.drop 0).take (i1 - 0)).getD i5 default).Xl) == ((a0.Zq.getD i1 default).Xl)) then (some (.inr 6)) else none
theorem ZaJ (a0 : Zf) (i1 : Nat) (ha0 : Zi a0) (hi1 : i1 < a0.Zq.length) (i0 : Nat) : ZZ (M.YP a0 (i1 : Int)) (i0 : Int) = some (Xp (S.YP a0 i1) (.inl ()) i0 (i1 - i0)) := by
  have hM := Zm
  have hni1 : a0.Zq.length ≤ maxLen := (Zi.Zq ha0).1
  have hni5 : i1 ≤ maxLen := (by omega)
  refine Z5 (n := i1) (fun i5 hi5 => ?_) (fun m hm => ?_) i0
  · unfold M.YP S.YP
    try simp only [Int.toNat_natCast]
    refine XY (dt (by omega)) ?_
    refine YC (Zs (dt (by omega)) (Zs (dt (by simp; omega)) XI)) ?_
    refine XQ (fun hb6 => ?_) (fun hb6 => ?_)
    · exact Xw
    · exact JR (by omega)
  · unfold M.YP
    try simp only [Int.toNat_natCast]
    exact XZ (decide_eq_false (by omega)) rfl
noncomputable def S.Yz (a0 : Zf) (i1 : Nat) (_p4 : Unit) : Option (Unit ⊕ Int) :=
  ZS (Xp (S.YP a0 i1) (.inl ()) 0 i1) (fun y7 => Sum.elim (fun _ => none) (fun y9 => some (.inr y9)) y7)
theorem G7 (a0 : Zf) (i1 : Nat) (_p4 : Unit) (ha0 : Zi a0) (hi1 : i1 < a0.Zq.length) : M.Yz a0 (i1 : Int) _p4 = some (rdN (S.Yz a0 i1 _p4) i1) := by
  have hM := Zm
  have hni1 : a0.Zq.length ≤ maxLen := (Zi.Zq ha0).1
  unfold M.Yz S.Yz
  try simp only [Int.toNat_natCast]
  refine YC (Zs (dt (by omega)) (Zs (dt (by omega)) XI)) ?_
  refine ZO (ZaJ a0 i1 ha0 hi1 0) (fun y7 hey7 => ?_)
  refine J4 (fun _ hl => ?_) (fun y9 hly9 => ?_)
  · exact JR (by omega)
  · exact Xw
noncomputable def S.Qn (a0 : Zf) (i1 : Nat) : Option (Unit ⊕ Int) :=
  ZS (S.QE a0 (a0.Zq.getD i1 default)) (fun r3 => bif !r3 then (some (.inr 1)) else (bif !strEq ((a0.Zq.getD i1 default).QI) (⟨#[]⟩ : ByteArray) then (ZS (S.Qo a0 ((a0.Zq.getD i1 default).QI)) (fun r10 => bif decide (r10 < 0) then (some (.inr 5)) else (bif ((a0.Zc.getD r10.toNat default).ZJ) == 0 then (some (.inr 1)) else (S.Yz a0 i1 ())))) else (S.Yz a0 i1 ())))
theorem ZaK (a0 : Zf) (ha0 : Zi a0) (i0 : Nat) : ZZ (M.Qn a0) (i0 : Int) = some (Xp (S.Qn a0) (.inl ()) i0 (a0.Zq.length - i0)) := by
  have hM := Zm
  have hni1 : a0.Zq.length ≤ maxLen := (Zi.Zq ha0).1
  refine Z5 (n := a0.Zq.length) (fun i1 hi1 => ?_) (fun m hm => ?_) i0
  · unfold M.Qn S.Qn
    try simp only [Int.toNat_natCast]
    refine XY (dt (by omega)) ?_
    refine YC (Zs (dt (by omega)) (Zs (dt (by omega)) XI)) ?_
    refine ZO (Zdg a0 (a0.Zq.getD i1 default) ha0 (LL.getD (Zi.Zq ha0) Jh.dflt i1)) (fun r3 her3 => ?_)
    refine XQ (fun hb2 => ?_) (fun hb2 => ?_)
    · exact Xw
    · refine XQ (fun hb3 => ?_) (fun hb3 => ?_)
      · refine ZO (R4 a0 ((a0.Zq.getD i1 default).QI) ha0 (Jh.QI (LL.getD (Zi.Zq ha0) Jh.dflt i1))) (fun r10 her10 => ?_)
        have hrr10 := Rb a0 ((a0.Zq.getD i1 default).QI)
        refine XQ (fun hb4 => ?_) (fun hb4 => ?_)
        · exact Xw
        · refine YC (Zs (dt (by first | omega | (simp; omega) | (simp at *; omega))) (Zs (dt (by first | omega | (simp; omega) | (simp at *; omega))) XI)) ?_
          refine XQ (fun hb5 => ?_) (fun hb5 => ?_)
          · exact Xw
          · exact G7 a0 i1 () ha0 hi1
      · exact G7 a0 i1 () ha0 hi1
  · unfold M.Qn
    try simp only [Int.toNat_natCast]
    exact XZ (decide_eq_false (by omega)) rfl
noncomputable def S.QL (a0 : Zf) : Int :=
  bif decide ((a0.Zq.length : Int) > 16) then 7 else (ZS (Xp (S.Qn a0) (.inl ()) 0 a0.Zq.length) (fun y11 => Sum.elim (fun _ => 0) (fun y13 => y13) y11))
theorem Zcy (a0 : Zf) (ha0 : Zi a0) : M.QL a0 = some (S.QL a0) := by
  have hM := Zm
  unfold M.QL S.QL
  refine Jo (fun hb1 => ?_) (fun hb1 => ?_)
  · rfl
  · refine Z1 (ZaK a0 ha0 0) (fun y11 hey11 => ?_)
    refine Qw (fun _ hl => ?_) (fun y13 hly13 => ?_)
    · rfl
    · rfl
noncomputable def S.Y7 (a1 : List YB) (i1 : Nat) (i8 : Nat) : Option (Unit ⊕ Int) :=
  bif ((((a1.drop 0).take (i1 - 0)).getD i8 default).WX) == ((a1.getD i1 default).WX) then (some (.inr 4)) else none
theorem Zbd (a1 : List YB) (i1 : Nat) (ha1 : LL J1 a1) (hi1 : i1 < a1.length) (i0 : Nat) : ZZ (M.Y7 a1 (i1 : Int)) (i0 : Int) = some (Xp (S.Y7 a1 i1) (.inl ()) i0 (i1 - i0)) := by
  have hM := Zm
  have hni1 : a1.length ≤ maxLen := ha1.1
  have hni8 : i1 ≤ maxLen := (by omega)
  refine Z5 (n := i1) (fun i8 hi8 => ?_) (fun m hm => ?_) i0
  · unfold M.Y7 S.Y7
    try simp only [Int.toNat_natCast]
    refine XY (dt (by omega)) ?_
    refine YC (Zs (dt (by omega)) (Zs (dt (by simp; omega)) XI)) ?_
    refine XQ (fun hb4 => ?_) (fun hb4 => ?_)
    · exact Xw
    · exact JR (by omega)
  · unfold M.Y7
    try simp only [Int.toNat_natCast]
    exact XZ (decide_eq_false (by omega)) rfl
noncomputable def S.Qy (a0 : Zf) (a1 : List YB) (a2 : Int) (a3 : Int) (a4 : Int) (a5 : Int) (i1 : Nat) : Option (Unit ⊕ Int) :=
  ZS (S.ZP ((a1.getD i1 default).WX) 1 5) (fun r3 => ZS (bif (!((!r3) || (((a1.getD i1 default).WX) == a2))) then S.ZP ((a1.getD i1 default).Rj) a3 a4 else default) (fun r4 => ZS (bif (!(((!r3) || (((a1.getD i1 default).WX) == a2)) || (!r4))) then S.ZP ((a1.getD i1 default).Gk) 0 65535 else default) (fun r5 => ZS (bif (!((((!r3) || (((a1.getD i1 default).WX) == a2)) || (!r4)) || (!r5))) then S.ZP ((a1.getD i1 default).KG) (if a5 < 1 then a5 else 1) a5 else default) (fun r6 => bif ((((!r3) || (((a1.getD i1 default).WX) == a2)) || (!r4)) || (!r5)) || (!r6) then (some (.inr 1)) else (ZS (bif (!strEq ((a1.getD i1 default).Zad) (⟨#[]⟩ : ByteArray)) then S.Y4 a0 ((a1.getD i1 default).Zad) else default) (fun r7 => bif (!strEq ((a1.getD i1 default).Zad) (⟨#[]⟩ : ByteArray)) && (decide (r7 < 0)) then (some (.inr 5)) else (ZS (Xp (S.Y7 a1 i1) (.inl ()) 0 i1) (fun y10 => Sum.elim (fun _ => none) (fun y12 => some (.inr y12)) y10))))))))
theorem Zbe (a0 : Zf) (a1 : List YB) (a2 : Int) (a3 : Int) (a4 : Int) (a5 : Int) (ha0 : Zi a0) (ha1 : LL J1 a1) (i0 : Nat) : ZZ (M.Qy a0 a1 a2 a3 a4 a5) (i0 : Int) = some (Xp (S.Qy a0 a1 a2 a3 a4 a5) (.inl ()) i0 (a1.length - i0)) := by
  have hM := Zm
  have hni1 : a1.length ≤ maxLen := ha1.1
  refine Z5 (n := a1.length) (fun i1 hi1 => ?_) (fun m hm => ?_) i0
  · unfold M.Qy S.Qy
    try simp only [Int.toNat_natCast]
    refine XY (dt (by omega)) ?_
    refine YC (Zs (dt (by omega)) (Zs (dt (by omega)) XI)) ?_
    refine ZO (XX ((a1.getD i1 default).WX) 1 5) (fun r3 her3 => ?_)
    refine ZO (JC fun hg => (XX ((a1.getD i1 default).Rj) a3 a4)) (fun r4 her4 => ?_)
    refine ZO (JC fun hg => (XX ((a1.getD i1 default).Gk) 0 65535)) (fun r5 her5 => ?_)
    refine ZO (JC fun hg => (XX ((a1.getD i1 default).KG) (if a5 < 1 then a5 else 1) a5)) (fun r6 her6 => ?_)
    refine XQ (fun hb2 => ?_) (fun hb2 => ?_)
    · exact Xw
    · refine ZO (JC fun hg => (GI a0 ((a1.getD i1 default).Zad) ha0 (J1.Zad (LL.getD ha1 J1.dflt i1)))) (fun r7 her7 => ?_)
      refine XQ (fun hb3 => ?_) (fun hb3 => ?_)
      · exact Xw
      · refine YC (Zs (dt (by omega)) (Zs (dt (by omega)) XI)) ?_
        refine ZO (Zbd a1 i1 ha1 hi1 0) (fun y10 hey10 => ?_)
        refine J4 (fun _ hl => ?_) (fun y12 hly12 => ?_)
        · exact JR (by omega)
        · exact Xw
  · unfold M.Qy
    try simp only [Int.toNat_natCast]
    exact XZ (decide_eq_false (by omega)) rfl
noncomputable def S.YG (a0 : Zf) (a1 : List YB) (a2 : Int) (a3 : Int) (a4 : Int) (a5 : Int) : Int :=
  bif decide ((a1.length : Int) > 4) then 7 else (ZS (Xp (S.Qy a0 a1 a2 a3 a4 a5) (.inl ()) 0 a1.length) (fun y13 => Sum.elim (fun _ => 0) (fun y15 => y15) y13))
theorem GP (a0 : Zf) (a1 : List YB) (a2 : Int) (a3 : Int) (a4 : Int) (a5 : Int) (ha0 : Zi a0) (ha1 : LL J1 a1) : M.YG a0 a1 a2 a3 a4 a5 = some (S.YG a0 a1 a2 a3 a4 a5) := by
  have hM := Zm
  unfold M.YG S.YG
  refine Jo (fun hb1 => ?_) (fun hb1 => ?_)
  · rfl
  · refine Z1 (Zbe a0 a1 a2 a3 a4 a5 ha0 ha1 0) (fun y13 hey13 => ?_)
    refine Qw (fun _ hl => ?_) (fun y15 hly15 => ?_)
    · rfl
    · rfl
noncomputable def S.Yv (a0 : Zf) (i2 : Nat) (i6 : Nat) : Option (Unit ⊕ Int) :=
  ZS (bif (((((a0.Yl.ZK.drop 0).take (i2 - 0)).getD i6 default).J7) == ((a0.Yl.ZK.getD i2 default).J7)) then S.Vh ((((a0.Yl.ZK.drop 0).take (i2 - 0)).getD i6 default).Zp) ((a0.Yl.ZK.getD i2 default).Zp) else default) (fun r8 => bif (((((a0.Yl.ZK.drop 0).take (i2 - 0)).getD i6 default).J7) == ((a0.Yl.ZK.getD i2 default).J7)) && r8 then (some (.inr 6)) else none)
theorem RO (a0 : Zf) (i2 : Nat) (ha0 : Zi a0) (hi2 : i2 < a0.Yl.ZK.length) (i0 : Nat) : ZZ (M.Yv a0 (i2 : Int)) (i0 : Int) = some (Xp (S.Yv a0 i2) (.inl ()) i0 (i2 - i0)) := by
  have hM := Zm
  have hni2 : a0.Yl.ZK.length ≤ maxLen := (Js.ZK (Zi.Yl ha0))
  have hni6 : i2 ≤ maxLen := (by omega)
  refine Z5 (n := i2) (fun i6 hi6 => ?_) (fun m hm => ?_) i0
  · unfold M.Yv S.Yv
    try simp only [Int.toNat_natCast]
    refine XY (dt (by omega)) ?_
    refine YC (Zs (dt (by omega)) (Zs (dt (by simp; omega)) XI)) ?_
    refine ZO (JC fun hg => (Zbv ((((a0.Yl.ZK.drop 0).take (i2 - 0)).getD i6 default).Zp) ((a0.Yl.ZK.getD i2 default).Zp))) (fun r8 her8 => ?_)
    refine XQ (fun hb6 => ?_) (fun hb6 => ?_)
    · exact Xw
    · exact JR (by omega)
  · unfold M.Yv
    try simp only [Int.toNat_natCast]
    exact XZ (decide_eq_false (by omega)) rfl
noncomputable def S.YM (a0 : Zf) (i2 : Nat) : Option (Unit ⊕ Int) :=
  ZS (S.ZP ((a0.Yl.ZK.getD i2 default).J7) 0 255) (fun r4 => ZS (bif (!(!r4)) then S.QW ((a0.Yl.ZK.getD i2 default).Zp) else default) (fun r5 => bif (!r4) || (!r5) then (some (.inr 1)) else (ZS (Xp (S.Yv a0 i2) (.inl ()) 0 i2) (fun y9 => Sum.elim (fun _ => none) (fun y11 => some (.inr y11)) y9))))
theorem RP (a0 : Zf) (ha0 : Zi a0) (i0 : Nat) : ZZ (M.YM a0) (i0 : Int) = some (Xp (S.YM a0) (.inl ()) i0 (a0.Yl.ZK.length - i0)) := by
  have hM := Zm
  have hni2 : a0.Yl.ZK.length ≤ maxLen := (Js.ZK (Zi.Yl ha0))
  refine Z5 (n := a0.Yl.ZK.length) (fun i2 hi2 => ?_) (fun m hm => ?_) i0
  · unfold M.YM S.YM
    try simp only [Int.toNat_natCast]
    refine XY (dt (by omega)) ?_
    refine YC (Zs (dt (by omega)) (Zs (dt (by omega)) XI)) ?_
    refine ZO (XX ((a0.Yl.ZK.getD i2 default).J7) 0 255) (fun r4 her4 => ?_)
    refine ZO (JC fun hg => (U5 ((a0.Yl.ZK.getD i2 default).Zp))) (fun r5 her5 => ?_)
    refine XQ (fun hb5 => ?_) (fun hb5 => ?_)
    · exact Xw
    · refine YC (Zs (dt (by omega)) (Zs (dt (by omega)) XI)) ?_
      refine ZO (RO a0 i2 ha0 hi2 0) (fun y9 hey9 => ?_)
      refine J4 (fun _ hl => ?_) (fun y11 hly11 => ?_)
      · exact JR (by omega)
      · exact Xw
  · unfold M.YM
    try simp only [Int.toNat_natCast]
    exact XZ (decide_eq_false (by omega)) rfl
noncomputable def S.Y8 (a0 : Zf) : Int :=
  bif !a0.Yl.WI then (bif ((a0.Yl.Xl != 0) || (decide ((a0.Yl.ZK.length : Int) > 0))) || (decide ((a0.Yl.Zv.length : Int) > 0)) then 1 else 0) else (ZS (S.ZP a0.Yl.Xl 1 255) (fun r1 => bif !r1 then 1 else (bif decide ((a0.Yl.ZK.length : Int) > 4) then 7 else (ZS (Xp (S.YM a0) (.inl ()) 0 a0.Yl.ZK.length) (fun y12 => Sum.elim (fun _ => ZS (S.YG a0 a0.Yl.Zv 3 0 16777215 2) (fun r15 => r15)) (fun y14 => y14) y12)))))
theorem Zbf (a0 : Zf) (ha0 : Zi a0) : M.Y8 a0 = some (S.Y8 a0) := by
  have hM := Zm
  unfold M.Y8 S.Y8
  refine Jo (fun hb1 => ?_) (fun hb1 => ?_)
  · refine Jo (fun hb2 => ?_) (fun hb2 => ?_)
    · rfl
    · rfl
  · refine Z1 (XX a0.Yl.Xl 1 255) (fun r1 her1 => ?_)
    refine Jo (fun hb3 => ?_) (fun hb3 => ?_)
    · rfl
    · refine Jo (fun hb4 => ?_) (fun hb4 => ?_)
      · rfl
      · refine Z1 (RP a0 ha0 0) (fun y12 hey12 => ?_)
        refine Qw (fun _ hl => ?_) (fun y14 hly14 => ?_)
        · refine Z1 (GP a0 a0.Yl.Zv 3 0 16777215 2 ha0 (Js.Zv (Zi.Yl ha0))) (fun r15 her15 => ?_)
          rfl
        · rfl
noncomputable def S.Yh (a0 : Zf) : Int :=
  bif !a0.YH.WI then (bif (((a0.YH.Xl != 0) || (!strEq a0.YH.V7 (⟨#[]⟩ : ByteArray))) || (!strEq a0.YH.Y2 (⟨#[]⟩ : ByteArray))) || (decide ((a0.YH.Zv.length : Int) > 0)) then 1 else 0) else (ZS (S.ZP a0.YH.Xl 1 255) (fun r1 => bif !r1 then 1 else (ZS (bif (!strEq a0.YH.V7 (⟨#[]⟩ : ByteArray)) then S.Yt a0 a0.YH.V7 else default) (fun r2 => ZS (bif ((!((!strEq a0.YH.V7 (⟨#[]⟩ : ByteArray)) && (decide (r2 < 0)))) && (!strEq a0.YH.Y2 (⟨#[]⟩ : ByteArray))) then S.Yt a0 a0.YH.Y2 else default) (fun r3 => bif ((!strEq a0.YH.V7 (⟨#[]⟩ : ByteArray)) && (decide (r2 < 0))) || ((!strEq a0.YH.Y2 (⟨#[]⟩ : ByteArray)) && (decide (r3 < 0))) then 5 else (ZS (S.YG a0 a0.YH.Zv 4 1 15 0) (fun r4 => r4)))))))
theorem Ro (a0 : Zf) (ha0 : Zi a0) : M.Yh a0 = some (S.Yh a0) := by
  have hM := Zm
  unfold M.Yh S.Yh
  refine Jo (fun hb1 => ?_) (fun hb1 => ?_)
  · refine Jo (fun hb2 => ?_) (fun hb2 => ?_)
    · rfl
    · rfl
  · refine Z1 (XX a0.YH.Xl 1 255) (fun r1 her1 => ?_)
    refine Jo (fun hb3 => ?_) (fun hb3 => ?_)
    · rfl
    · refine Z1 (JC fun hg => (U4 a0 a0.YH.V7 ha0 (Yd.V7 (Zi.YH ha0)))) (fun r2 her2 => ?_)
      refine Z1 (JC fun hg => (U4 a0 a0.YH.Y2 ha0 (Yd.Y2 (Zi.YH ha0)))) (fun r3 her3 => ?_)
      refine Jo (fun hb4 => ?_) (fun hb4 => ?_)
      · rfl
      · refine Z1 (GP a0 a0.YH.Zv 4 1 15 0 ha0 (Yd.Zv (Zi.YH ha0))) (fun r4 her4 => ?_)
        rfl
noncomputable def S.Yw (a0 : Zf) (i1 : Nat) (i6 : Nat) : Option (Unit ⊕ Int) :=
  bif ((((a0.Xd.Zl.drop 0).take (i1 - 0)).getD i6 default).Zu) == ((a0.Xd.Zl.getD i1 default).Zu) then (some (.inr 4)) else none
theorem RQ (a0 : Zf) (i1 : Nat) (ha0 : Zi a0) (hi1 : i1 < a0.Xd.Zl.length) (i0 : Nat) : ZZ (M.Yw a0 (i1 : Int)) (i0 : Int) = some (Xp (S.Yw a0 i1) (.inl ()) i0 (i1 - i0)) := by
  have hM := Zm
  have hni1 : a0.Xd.Zl.length ≤ maxLen := (Z4.Zl (Zi.Xd ha0)).1
  have hni6 : i1 ≤ maxLen := (by omega)
  refine Z5 (n := i1) (fun i6 hi6 => ?_) (fun m hm => ?_) i0
  · unfold M.Yw S.Yw
    try simp only [Int.toNat_natCast]
    refine XY (dt (by omega)) ?_
    refine YC (Zs (dt (by omega)) (Zs (dt (by simp; omega)) XI)) ?_
    refine XQ (fun hb4 => ?_) (fun hb4 => ?_)
    · exact Xw
    · exact JR (by omega)
  · unfold M.Yw
    try simp only [Int.toNat_natCast]
    exact XZ (decide_eq_false (by omega)) rfl
noncomputable def S.YN (a0 : Zf) (i1 : Nat) : Option (Unit ⊕ Int) :=
  ZS (bif (!(((a0.Xd.Zl.getD i1 default).Zu) == 0)) then S.ZP ((a0.Xd.Zl.getD i1 default).Kt) 1 65535 else default) (fun r3 => bif (((a0.Xd.Zl.getD i1 default).Zu) == 0) || (!r3) then (some (.inr 1)) else (ZS (bif (!strEq ((a0.Xd.Zl.getD i1 default).V7) (⟨#[]⟩ : ByteArray)) then S.Y4 a0 ((a0.Xd.Zl.getD i1 default).V7) else default) (fun r4 => ZS (bif ((!((!strEq ((a0.Xd.Zl.getD i1 default).V7) (⟨#[]⟩ : ByteArray)) && (decide (r4 < 0)))) && (!strEq ((a0.Xd.Zl.getD i1 default).Y2) (⟨#[]⟩ : ByteArray))) then S.Y4 a0 ((a0.Xd.Zl.getD i1 default).Y2) else default) (fun r5 => bif ((!strEq ((a0.Xd.Zl.getD i1 default).V7) (⟨#[]⟩ : ByteArray)) && (decide (r4 < 0))) || ((!strEq ((a0.Xd.Zl.getD i1 default).Y2) (⟨#[]⟩ : ByteArray)) && (decide (r5 < 0))) then (some (.inr 5)) else (ZS (Xp (S.Yw a0 i1) (.inl ()) 0 i1) (fun y8 => Sum.elim (fun _ => none) (fun y10 => some (.inr y10)) y8))))))
theorem RR (a0 : Zf) (ha0 : Zi a0) (i0 : Nat) : ZZ (M.YN a0) (i0 : Int) = some (Xp (S.YN a0) (.inl ()) i0 (a0.Xd.Zl.length - i0)) := by
  have hM := Zm
  have hni1 : a0.Xd.Zl.length ≤ maxLen := (Z4.Zl (Zi.Xd ha0)).1
  refine Z5 (n := a0.Xd.Zl.length) (fun i1 hi1 => ?_) (fun m hm => ?_) i0
  · unfold M.YN S.YN
    try simp only [Int.toNat_natCast]
    refine XY (dt (by omega)) ?_
    refine YC (Zs (dt (by omega)) (Zs (dt (by omega)) XI)) ?_
    refine ZO (JC fun hg => (XX ((a0.Xd.Zl.getD i1 default).Kt) 1 65535)) (fun r3 her3 => ?_)
    refine XQ (fun hb2 => ?_) (fun hb2 => ?_)
    · exact Xw
    · refine ZO (JC fun hg => (GI a0 ((a0.Xd.Zl.getD i1 default).V7) ha0 (JL.V7 (LL.getD (Z4.Zl (Zi.Xd ha0)) JL.dflt i1)))) (fun r4 her4 => ?_)
      refine ZO (JC fun hg => (GI a0 ((a0.Xd.Zl.getD i1 default).Y2) ha0 (JL.Y2 (LL.getD (Z4.Zl (Zi.Xd ha0)) JL.dflt i1)))) (fun r5 her5 => ?_)
      refine XQ (fun hb3 => ?_) (fun hb3 => ?_)
      · exact Xw
      · refine YC (Zs (dt (by omega)) (Zs (dt (by omega)) XI)) ?_
        refine ZO (RQ a0 i1 ha0 hi1 0) (fun y8 hey8 => ?_)
        refine J4 (fun _ hl => ?_) (fun y10 hly10 => ?_)
        · exact JR (by omega)
        · exact Xw
  · unfold M.YN
    try simp only [Int.toNat_natCast]
    exact XZ (decide_eq_false (by omega)) rfl
noncomputable def S.Y9 (a0 : Zf) : Int :=
  bif decide ((a0.Xd.Zl.length : Int) > 8) then 7 else (ZS (Xp (S.YN a0) (.inl ()) 0 a0.Xd.Zl.length) (fun y11 => Sum.elim (fun _ => 0) (fun y13 => y13) y11))
theorem Zbg (a0 : Zf) (ha0 : Zi a0) : M.Y9 a0 = some (S.Y9 a0) := by
  have hM := Zm
  unfold M.Y9 S.Y9
  refine Jo (fun hb1 => ?_) (fun hb1 => ?_)
  · rfl
  · refine Z1 (RR a0 ha0 0) (fun y11 hey11 => ?_)
    refine Qw (fun _ hl => ?_) (fun y13 hly13 => ?_)
    · rfl
    · rfl
noncomputable def S.XO (a0 : List ZL) (a1 : ZL) (i1 : Nat) : Option (Unit ⊕ Int) :=
  bif ((a1.Zu == ((a0.getD i1 default).Zu)) && ((a1.ZJ == ((a0.getD i1 default).ZJ)) && true)) then (some (.inr (i1 : Int))) else none
theorem Gl (a0 : List ZL) (a1 : ZL) (ha0 : a0.length ≤ maxLen) (i0 : Nat) : ZZ (M.XO a0 a1) (i0 : Int) = some (Xp (S.XO a0 a1) (.inl ()) i0 (a0.length - i0)) := by
  have hM := Zm
  have hni1 : a0.length ≤ maxLen := ha0
  refine Z5 (n := a0.length) (fun i1 hi1 => ?_) (fun m hm => ?_) i0
  · unfold M.XO S.XO
    try simp only [Int.toNat_natCast]
    refine XY (dt (by omega)) ?_
    refine YC (Zs (dt (by omega)) (Zs (dt (by omega)) XI)) ?_
    refine XQ (fun hb1 => ?_) (fun hb1 => ?_)
    · exact Xw
    · exact JR (by omega)
  · unfold M.XO
    try simp only [Int.toNat_natCast]
    exact XZ (decide_eq_false (by omega)) rfl
noncomputable def S.XM (a0 : List ZL) (a1 : ZL) : Int :=
  ZS (Xp (S.XO a0 a1) (.inl ()) 0 a0.length) (fun y3 => Sum.elim (fun _ => -1) (fun y5 => y5) y3)
theorem GQ (a0 : List ZL) (a1 : ZL) (ha0 : a0.length ≤ maxLen) : M.XM a0 a1 = some (S.XM a0 a1) := by
  have hM := Zm
  unfold M.XM S.XM
  refine Z1 (Gl a0 a1 ha0 0) (fun y3 hey3 => ?_)
  refine Qw (fun _ hl => ?_) (fun y5 hly5 => ?_)
  · rfl
  · rfl
noncomputable def S.Xq (a0 : List ZL) (a1 : ZL) : Bool :=
  ZS (S.XM a0 a1) (fun r1 => decide (r1 ≥ 0))
theorem Gm (a0 : List ZL) (a1 : ZL) (ha0 : a0.length ≤ maxLen) : M.Xq a0 a1 = some (S.Xq a0 a1) := by
  have hM := Zm
  unfold M.Xq S.Xq
  refine Z1 (GQ a0 a1 ha0) (fun r1 her1 => ?_)
  rfl
noncomputable def S.YQ (a0 : Z6) (i1 : Nat) : Option (Unit ⊕ Int) :=
  ZS (S.QW (a0.Zt.getD i1 default)) (fun r3 => bif !r3 then (some (.inr 1)) else (ZS (S.Xq ((a0.Zt.drop 0).take (i1 - 0)) (a0.Zt.getD i1 default)) (fun r4 => bif r4 then (some (.inr 4)) else none)))
theorem ZaL (a0 : Z6) (ha0 : Z4 a0) (i0 : Nat) : ZZ (M.YQ a0) (i0 : Int) = some (Xp (S.YQ a0) (.inl ()) i0 (a0.Zt.length - i0)) := by
  have hM := Zm
  have hni1 : a0.Zt.length ≤ maxLen := (Z4.Zt ha0)
  refine Z5 (n := a0.Zt.length) (fun i1 hi1 => ?_) (fun m hm => ?_) i0
  · unfold M.YQ S.YQ
    try simp only [Int.toNat_natCast]
    refine XY (dt (by omega)) ?_
    refine YC (Zs (dt (by omega)) (Zs (dt (by omega)) XI)) ?_
    refine ZO (U5 (a0.Zt.getD i1 default)) (fun r3 her3 => ?_)
    refine XQ (fun hb2 => ?_) (fun hb2 => ?_)
    · exact Xw
    · refine ZO (Gm ((a0.Zt.drop 0).take (i1 - 0)) (a0.Zt.getD i1 default) (ZnT (ZnU (Z4.Zt ha0)))) (fun r4 her4 => ?_)
      refine YC (Zs (dt (by omega)) (Zs (dt (by omega)) XI)) ?_
      refine XQ (fun hb3 => ?_) (fun hb3 => ?_)
      · exact Xw
      · exact JR (by omega)
  · unfold M.YQ
    try simp only [Int.toNat_natCast]
    exact XZ (decide_eq_false (by omega)) rfl
noncomputable def S.YR (a0 : Z6) (i8 : Nat) (i11 : Nat) : Option (Unit ⊕ Int) :=
  bif (((((((a0.Zr.drop 0).take (i8 - 0)).getD i11 default).Zp).Zu) == (((a0.Zr.getD i8 default).Zp).Zu)) && (((((((a0.Zr.drop 0).take (i8 - 0)).getD i11 default).Zp).ZJ) == (((a0.Zr.getD i8 default).Zp).ZJ)) && true)) then (some (.inr 4)) else none
theorem ZaM (a0 : Z6) (i8 : Nat) (ha0 : Z4 a0) (hi8 : i8 < a0.Zr.length) (i0 : Nat) : ZZ (M.YR a0 (i8 : Int)) (i0 : Int) = some (Xp (S.YR a0 i8) (.inl ()) i0 (i8 - i0)) := by
  have hM := Zm
  have hni8 : a0.Zr.length ≤ maxLen := (Z4.Zr ha0)
  have hni11 : i8 ≤ maxLen := (by omega)
  refine Z5 (n := i8) (fun i11 hi11 => ?_) (fun m hm => ?_) i0
  · unfold M.YR S.YR
    try simp only [Int.toNat_natCast]
    refine XY (dt (by omega)) ?_
    refine YC (Zs (dt (by omega)) (Zs (dt (by simp; omega)) XI)) ?_
    refine XQ (fun hb6 => ?_) (fun hb6 => ?_)
    · exact Xw
    · exact JR (by omega)
  · unfold M.YR
    try simp only [Int.toNat_natCast]
    exact XZ (decide_eq_false (by omega)) rfl
noncomputable def S.YS (a0 : Z6) (i8 : Nat) : Option (Unit ⊕ Int) :=
  ZS (S.QW ((a0.Zr.getD i8 default).Zp)) (fun r10 => bif !r10 then (some (.inr 1)) else (ZS (Xp (S.YR a0 i8) (.inl ()) 0 i8) (fun y13 => Sum.elim (fun _ => none) (fun y15 => some (.inr y15)) y13)))
theorem ZaN (a0 : Z6) (ha0 : Z4 a0) (i0 : Nat) : ZZ (M.YS a0) (i0 : Int) = some (Xp (S.YS a0) (.inl ()) i0 (a0.Zr.length - i0)) := by
  have hM := Zm
  have hni8 : a0.Zr.length ≤ maxLen := (Z4.Zr ha0)
  refine Z5 (n := a0.Zr.length) (fun i8 hi8 => ?_) (fun m hm => ?_) i0
  · unfold M.YS S.YS
    try simp only [Int.toNat_natCast]
    refine XY (dt (by omega)) ?_
    refine YC (Zs (dt (by omega)) (Zs (dt (by omega)) XI)) ?_
    refine ZO (U5 ((a0.Zr.getD i8 default).Zp)) (fun r10 her10 => ?_)
    refine XQ (fun hb5 => ?_) (fun hb5 => ?_)
    · exact Xw
    · refine YC (Zs (dt (by omega)) (Zs (dt (by omega)) XI)) ?_
      refine ZO (ZaM a0 i8 ha0 hi8 0) (fun y13 hey13 => ?_)
      refine J4 (fun _ hl => ?_) (fun y15 hly15 => ?_)
      · exact JR (by omega)
      · exact Xw
  · unfold M.YS
    try simp only [Int.toNat_natCast]
    exact XZ (decide_eq_false (by omega)) rfl
noncomputable def S.YT (a0 : Z6) (i19 : Nat) (i23 : Nat) : Option (Unit ⊕ Int) :=
  bif (((((((a0.Zo.drop 0).take (i19 - 0)).getD i23 default).Zp).Zu) == (((a0.Zo.getD i19 default).Zp).Zu)) && (((((((a0.Zo.drop 0).take (i19 - 0)).getD i23 default).Zp).ZJ) == (((a0.Zo.getD i19 default).Zp).ZJ)) && true)) then (some (.inr 4)) else none
theorem ZaO (a0 : Z6) (i19 : Nat) (ha0 : Z4 a0) (hi19 : i19 < a0.Zo.length) (i0 : Nat) : ZZ (M.YT a0 (i19 : Int)) (i0 : Int) = some (Xp (S.YT a0 i19) (.inl ()) i0 (i19 - i0)) := by
  have hM := Zm
  have hni19 : a0.Zo.length ≤ maxLen := (Z4.Zo ha0)
  have hni23 : i19 ≤ maxLen := (by omega)
  refine Z5 (n := i19) (fun i23 hi23 => ?_) (fun m hm => ?_) i0
  · unfold M.YT S.YT
    try simp only [Int.toNat_natCast]
    refine XY (dt (by omega)) ?_
    refine YC (Zs (dt (by omega)) (Zs (dt (by simp; omega)) XI)) ?_
    refine XQ (fun hb10 => ?_) (fun hb10 => ?_)
    · exact Xw
    · exact JR (by omega)
  · unfold M.YT
    try simp only [Int.toNat_natCast]
    exact XZ (decide_eq_false (by omega)) rfl
noncomputable def S.YU (a0 : Z6) (i19 : Nat) : Option (Unit ⊕ Int) :=
  ZS (S.QW ((a0.Zo.getD i19 default).Zp)) (fun r21 => ZS (bif (!(!r21)) then S.QW ((a0.Zo.getD i19 default).fIf) else default) (fun r22 => bif (!r21) || (!r22) then (some (.inr 1)) else (bif (((((a0.Zo.getD i19 default).Zp).Zu) == (((a0.Zo.getD i19 default).fIf).Zu)) && (((((a0.Zo.getD i19 default).Zp).ZJ) == (((a0.Zo.getD i19 default).fIf).ZJ)) && true)) then (some (.inr 6)) else (ZS (Xp (S.YT a0 i19) (.inl ()) 0 i19) (fun y25 => Sum.elim (fun _ => none) (fun y27 => some (.inr y27)) y25)))))
theorem ZaP (a0 : Z6) (ha0 : Z4 a0) (i0 : Nat) : ZZ (M.YU a0) (i0 : Int) = some (Xp (S.YU a0) (.inl ()) i0 (a0.Zo.length - i0)) := by
  have hM := Zm
  have hni19 : a0.Zo.length ≤ maxLen := (Z4.Zo ha0)
  refine Z5 (n := a0.Zo.length) (fun i19 hi19 => ?_) (fun m hm => ?_) i0
  · unfold M.YU S.YU
    try simp only [Int.toNat_natCast]
    refine XY (dt (by omega)) ?_
    refine YC (Zs (dt (by omega)) (Zs (dt (by omega)) XI)) ?_
    refine ZO (U5 ((a0.Zo.getD i19 default).Zp)) (fun r21 her21 => ?_)
    refine ZO (JC fun hg => (U5 ((a0.Zo.getD i19 default).fIf))) (fun r22 her22 => ?_)
    refine XQ (fun hb8 => ?_) (fun hb8 => ?_)
    · exact Xw
    · refine XQ (fun hb9 => ?_) (fun hb9 => ?_)
      · exact Xw
      · refine YC (Zs (dt (by omega)) (Zs (dt (by omega)) XI)) ?_
        refine ZO (ZaO a0 i19 ha0 hi19 0) (fun y25 hey25 => ?_)
        refine J4 (fun _ hl => ?_) (fun y27 hly27 => ?_)
        · exact JR (by omega)
        · exact Xw
  · unfold M.YU
    try simp only [Int.toNat_natCast]
    exact XZ (decide_eq_false (by omega)) rfl
noncomputable def S.QM (a0 : Z6) : Int :=
  bif decide ((a0.Zt.length : Int) > 8) then 7 else (ZS (Xp (S.YQ a0) (.inl ()) 0 a0.Zt.length) (fun y5 => Sum.elim (fun _ => bif decide ((a0.Zr.length : Int) > 8) then 7 else (ZS (Xp (S.YS a0) (.inl ()) 0 a0.Zr.length) (fun y16 => Sum.elim (fun _ => bif decide ((a0.Zo.length : Int) > 8) then 7 else (ZS (Xp (S.YU a0) (.inl ()) 0 a0.Zo.length) (fun y28 => Sum.elim (fun _ => 0) (fun y30 => y30) y28))) (fun y18 => y18) y16))) (fun y7 => y7) y5))
theorem Zcz (a0 : Z6) (ha0 : Z4 a0) : M.QM a0 = some (S.QM a0) := by
  have hM := Zm
  unfold M.QM S.QM
  refine Jo (fun hb1 => ?_) (fun hb1 => ?_)
  · rfl
  · refine Z1 (ZaL a0 ha0 0) (fun y5 hey5 => ?_)
    refine Qw (fun _ hl => ?_) (fun y7 hly7 => ?_)
    · refine Jo (fun hb4 => ?_) (fun hb4 => ?_)
      · rfl
      · refine Z1 (ZaN a0 ha0 0) (fun y16 hey16 => ?_)
        refine Qw (fun _ hl => ?_) (fun y18 hly18 => ?_)
        · refine Jo (fun hb7 => ?_) (fun hb7 => ?_)
          · rfl
          · refine Z1 (ZaP a0 ha0 0) (fun y28 hey28 => ?_)
            refine Qw (fun _ hl => ?_) (fun y30 hly30 => ?_)
            · rfl
            · rfl
        · rfl
    · rfl
noncomputable def S.YV (a0 : Zf) : Int :=
  bif !a0.Xd.WI then (bif ((((((a0.Xd.X7 != 0) || (a0.Xd.X8 != 0)) || (decide ((a0.Xd.Zl.length : Int) > 0))) || (decide ((a0.Xd.Zt.length : Int) > 0))) || (decide ((a0.Xd.Zr.length : Int) > 0))) || (decide ((a0.Xd.Zo.length : Int) > 0))) || (decide ((a0.Xd.Zv.length : Int) > 0)) then 1 else 0) else (ZS (bif (!(a0.Kt == 0)) then S.ZP a0.Xd.X7 1 255 else default) (fun r1 => ZS (bif (!((a0.Kt == 0) || (!r1))) then S.ZP a0.Xd.X8 1 255 else default) (fun r2 => bif ((a0.Kt == 0) || (!r1)) || (!r2) then 1 else (ZS (S.Y9 a0) (fun r3 => bif r3 != 0 then r3 else (ZS (S.QM a0.Xd) (fun r4 => bif r4 != 0 then r4 else (ZS (S.YG a0 a0.Xd.Zv 5 0 16777215 0) (fun r5 => r5)))))))))
theorem ZaQ (a0 : Zf) (ha0 : Zi a0) : M.YV a0 = some (S.YV a0) := by
  have hM := Zm
  unfold M.YV S.YV
  refine Jo (fun hb1 => ?_) (fun hb1 => ?_)
  · refine Jo (fun hb2 => ?_) (fun hb2 => ?_)
    · rfl
    · rfl
  · refine Z1 (JC fun hg => (XX a0.Xd.X7 1 255)) (fun r1 her1 => ?_)
    refine Z1 (JC fun hg => (XX a0.Xd.X8 1 255)) (fun r2 her2 => ?_)
    refine Jo (fun hb3 => ?_) (fun hb3 => ?_)
    · rfl
    · refine Z1 (Zbg a0 ha0) (fun r3 her3 => ?_)
      refine Jo (fun hb4 => ?_) (fun hb4 => ?_)
      · rfl
      · refine Z1 (Zcz a0.Xd (Zi.Xd ha0)) (fun r4 her4 => ?_)
        refine Jo (fun hb5 => ?_) (fun hb5 => ?_)
        · rfl
        · refine Z1 (GP a0 a0.Xd.Zv 5 0 16777215 0 ha0 (Z4.Zv (Zi.Xd ha0))) (fun r5 her5 => ?_)
          rfl
noncomputable def S.Q5 (a0 : Zf) : Int :=
  ZS (S.Ww a0.ZX) (fun r1 => bif !r1 then 3 else (ZS (S.ZP a0.Kt 0 65535) (fun r2 => bif !r2 then 1 else (ZS (S.YO a0) (fun r3 => bif r3 != 0 then r3 else (ZS (S.YF a0) (fun r4 => bif r4 != 0 then r4 else (ZS (S.Y5 a0) (fun r5 => bif r5 != 0 then r5 else (ZS (S.JT a0) (fun r6 => bif r6 != 0 then r6 else (ZS (S.J9 a0) (fun r7 => bif r7 != 0 then r7 else (ZS (S.Jk a0) (fun r8 => bif r8 != 0 then r8 else (ZS (S.QL a0) (fun r9 => bif r9 != 0 then r9 else (ZS (S.Y8 a0) (fun r10 => bif r10 != 0 then r10 else (ZS (S.Yh a0) (fun r11 => bif r11 != 0 then r11 else (ZS (S.YV a0) (fun r12 => bif r12 != 0 then r12 else 0)))))))))))))))))))))))
theorem Zdh (a0 : Zf) (ha0 : Zi a0) : M.Q5 a0 = some (S.Q5 a0) := by
  have hM := Zm
  unfold M.Q5 S.Q5
  refine Z1 (Zct a0.ZX (Zi.ZX ha0)) (fun r1 her1 => ?_)
  refine Jo (fun hb1 => ?_) (fun hb1 => ?_)
  · rfl
  · refine Z1 (XX a0.Kt 0 65535) (fun r2 her2 => ?_)
    refine Jo (fun hb2 => ?_) (fun hb2 => ?_)
    · rfl
    · refine YC (Zs (dt (by first | omega | (simp; omega) | (simp at *; omega))) (Zs (dt (by first | omega | (simp; omega) | (simp at *; omega))) XI)) ?_
      refine Z1 (ZaH a0 ha0) (fun r3 her3 => ?_)
      refine Jo (fun hb3 => ?_) (fun hb3 => ?_)
      · rfl
      · refine YC (Zs (dt (by first | omega | (simp; omega) | (simp at *; omega))) (Zs (dt (by first | omega | (simp; omega) | (simp at *; omega))) XI)) ?_
        refine Z1 (Zai a0 ha0) (fun r4 her4 => ?_)
        refine Jo (fun hb4 => ?_) (fun hb4 => ?_)
        · rfl
        · refine YC (Zs (dt (by first | omega | (simp; omega) | (simp at *; omega))) (Zs (dt (by first | omega | (simp; omega) | (simp at *; omega))) XI)) ?_
          refine Z1 (Zbb a0 ha0) (fun r5 her5 => ?_)
          refine Jo (fun hb5 => ?_) (fun hb5 => ?_)
          · rfl
          · refine YC (Zs (dt (by first | omega | (simp; omega) | (simp at *; omega))) (Zs (dt (by first | omega | (simp; omega) | (simp at *; omega))) XI)) ?_
            refine Z1 (Ze4 a0 ha0) (fun r6 her6 => ?_)
            refine Jo (fun hb6 => ?_) (fun hb6 => ?_)
            · rfl
            · refine YC (Zs (dt (by first | omega | (simp; omega) | (simp at *; omega))) (Zs (dt (by first | omega | (simp; omega) | (simp at *; omega))) XI)) ?_
              refine Z1 (ZfF a0 ha0) (fun r7 her7 => ?_)
              refine Jo (fun hb7 => ?_) (fun hb7 => ?_)
              · rfl
              · refine YC (Zs (dt (by first | omega | (simp; omega) | (simp at *; omega))) (Zs (dt (by first | omega | (simp; omega) | (simp at *; omega))) XI)) ?_
                refine Z1 (Zcx a0 ha0) (fun r8 her8 => ?_)
                refine Jo (fun hb8 => ?_) (fun hb8 => ?_)
                · rfl
                · refine YC (Zs (dt (by first | omega | (simp; omega) | (simp at *; omega))) (Zs (dt (by first | omega | (simp; omega) | (simp at *; omega))) XI)) ?_
                  refine Z1 (Zcy a0 ha0) (fun r9 her9 => ?_)
                  refine Jo (fun hb9 => ?_) (fun hb9 => ?_)
                  · rfl
                  · refine YC (Zs (dt (by first | omega | (simp; omega) | (simp at *; omega))) (Zs (dt (by first | omega | (simp; omega) | (simp at *; omega))) XI)) ?_
                    refine Z1 (Zbf a0 ha0) (fun r10 her10 => ?_)
                    refine Jo (fun hb10 => ?_) (fun hb10 => ?_)
                    · rfl
                    · refine YC (Zs (dt (by first | omega | (simp; omega) | (simp at *; omega))) (Zs (dt (by first | omega | (simp; omega) | (simp at *; omega))) XI)) ?_
                      refine Z1 (Ro a0 ha0) (fun r11 her11 => ?_)
                      refine Jo (fun hb11 => ?_) (fun hb11 => ?_)
                      · rfl
                      · refine YC (Zs (dt (by first | omega | (simp; omega) | (simp at *; omega))) (Zs (dt (by first | omega | (simp; omega) | (simp at *; omega))) XI)) ?_
                        refine Z1 (ZaQ a0 ha0) (fun r12 her12 => ?_)
                        refine Jo (fun hb12 => ?_) (fun hb12 => ?_)
                        · rfl
                        · rfl
noncomputable def S.Qa (a0 : Zy) (b0 : Zf) : Bool :=
  ZS (bif (a0.ZJ != 0) then S.Vi b0 a0.Zu else default) (fun r1 => (a0.ZJ != 0) && (decide (r1 ≥ 0)))
theorem Zbh (a0 : Zy) (b0 : Zf) (ha0 : Xj a0) (hb0 : Zi b0) : M.Qa a0 b0 = some (S.Qa a0 b0) := by
  have hM := Zm
  unfold M.Qa S.Qa
  refine Z1 (JC fun hg => (Zbw b0 a0.Zu hb0)) (fun r1 her1 => ?_)
  rfl
noncomputable def S.ZH (a0 : List Zy) (a1c0 : Zf) (i1 : Nat) : Option (Unit ⊕ Int) :=
  ZS (S.Qa (a0.getD i1 default) a1c0) (fun r3 => bif r3 then (some (.inr (i1 : Int))) else none)
theorem Vw (a0 : List Zy) (a1c0 : Zf) (ha0 : LL Xj a0) (ha1c0 : Zi a1c0) (i0 : Nat) : ZZ (M.ZH a0 a1c0) (i0 : Int) = some (Xp (S.ZH a0 a1c0) (.inl ()) i0 (a0.length - i0)) := by
  have hM := Zm
  have hni1 : a0.length ≤ maxLen := ha0.1
  refine Z5 (n := a0.length) (fun i1 hi1 => ?_) (fun m hm => ?_) i0
  · unfold M.ZH S.ZH
    try simp only [Int.toNat_natCast]
    refine XY (dt (by omega)) ?_
    refine ZO (Zbh (a0.getD i1 default) a1c0 (LL.getD ha0 Xj.dflt i1) ha1c0) (fun r3 her3 => ?_)
    refine YC (Zs (dt (by omega)) (Zs (dt (by omega)) XI)) ?_
    refine XQ (fun hb1 => ?_) (fun hb1 => ?_)
    · exact Xw
    · exact JR (by omega)
  · unfold M.ZH
    try simp only [Int.toNat_natCast]
    exact XZ (decide_eq_false (by omega)) rfl
noncomputable def S.ZN (a0 : List Zy) (a1c0 : Zf) : Int :=
  ZS (Xp (S.ZH a0 a1c0) (.inl ()) 0 a0.length) (fun y4 => Sum.elim (fun _ => -1) (fun y6 => y6) y4)
theorem VO (a0 : List Zy) (a1c0 : Zf) (ha0 : LL Xj a0) (ha1c0 : Zi a1c0) : M.ZN a0 a1c0 = some (S.ZN a0 a1c0) := by
  have hM := Zm
  unfold M.ZN S.ZN
  refine Z1 (Vw a0 a1c0 ha0 ha1c0 0) (fun y4 hey4 => ?_)
  refine Qw (fun _ hl => ?_) (fun y6 hly6 => ?_)
  · rfl
  · rfl
noncomputable def S.ZI (a0 : List Zy) (a1c0 : Zf) : Bool :=
  ZS (S.ZN a0 a1c0) (fun r1 => decide (r1 ≥ 0))
theorem Vx (a0 : List Zy) (a1c0 : Zf) (ha0 : LL Xj a0) (ha1c0 : Zi a1c0) : M.ZI a0 a1c0 = some (S.ZI a0 a1c0) := by
  have hM := Zm
  unfold M.ZI S.ZI
  refine Z1 (VO a0 a1c0 ha0 ha1c0) (fun r1 her1 => ?_)
  rfl
noncomputable def S.Jl (a0 : Zf) (a1 : Zf) : Bool :=
  ZS (S.ZI a1.Zc a0) (fun r1 => r1)
theorem ZcA (a0 : Zf) (a1 : Zf) (ha0 : Zi a0) (ha1 : Zi a1) : M.Jl a0 a1 = some (S.Jl a0 a1) := by
  have hM := Zm
  unfold M.Jl S.Jl
  refine Z1 (Vx a1.Zc a0 (Zi.Zc ha1) ha0) (fun r1 her1 => ?_)
  rfl
noncomputable def S.Va (a0 : ZY) (i1 : Nat) (i4 : Nat) : Option (Unit ⊕ Int) :=
  ZS (bif (!(YJ ((((a0.Zd.drop 0).take (i1 - 0)).getD i4 default).ZX) ((a0.Zd.getD i1 default).ZX))) then S.Jl (((a0.Zd.drop 0).take (i1 - 0)).getD i4 default) (a0.Zd.getD i1 default) else default) (fun r6 => bif (YJ ((((a0.Zd.drop 0).take (i1 - 0)).getD i4 default).ZX) ((a0.Zd.getD i1 default).ZX)) || r6 then (some (.inr 4)) else none)
theorem ZfG (a0 : ZY) (i1 : Nat) (ha0 : Yy a0) (hi1 : i1 < a0.Zd.length) (i0 : Nat) : ZZ (M.Va a0 (i1 : Int)) (i0 : Int) = some (Xp (S.Va a0 i1) (.inl ()) i0 (i1 - i0)) := by
  have hM := Zm
  have hni1 : a0.Zd.length ≤ maxLen := (Yy.Zd ha0).1
  have hni4 : i1 ≤ maxLen := (by omega)
  refine Z5 (n := i1) (fun i4 hi4 => ?_) (fun m hm => ?_) i0
  · unfold M.Va S.Va
    try simp only [Int.toNat_natCast]
    refine XY (dt (by omega)) ?_
    refine YC (Zs (dt (by omega)) (Zs (dt (by simp; omega)) XI)) ?_
    refine ZO (JC fun hg => (ZcA (((a0.Zd.drop 0).take (i1 - 0)).getD i4 default) (a0.Zd.getD i1 default) (LL.getD (LL.take (LL.drop (Yy.Zd ha0) _) _) Zi.dflt i4) (LL.getD (Yy.Zd ha0) Zi.dflt i1))) (fun r6 her6 => ?_)
    refine XQ (fun hb3 => ?_) (fun hb3 => ?_)
    · exact Xw
    · exact JR (by omega)
  · unfold M.Va
    try simp only [Int.toNat_natCast]
    exact XZ (decide_eq_false (by omega)) rfl
noncomputable def S.VI (a0 : ZY) (i1 : Nat) : Option (Unit ⊕ Int) :=
  ZS (S.Q5 (a0.Zd.getD i1 default)) (fun r3 => bif r3 != 0 then (some (.inr r3)) else (ZS (Xp (S.Va a0 i1) (.inl ()) 0 i1) (fun y7 => Sum.elim (fun _ => none) (fun y9 => some (.inr y9)) y7)))
theorem ZfH (a0 : ZY) (ha0 : Yy a0) (i0 : Nat) : ZZ (M.VI a0) (i0 : Int) = some (Xp (S.VI a0) (.inl ()) i0 (a0.Zd.length - i0)) := by
  have hM := Zm
  have hni1 : a0.Zd.length ≤ maxLen := (Yy.Zd ha0).1
  refine Z5 (n := a0.Zd.length) (fun i1 hi1 => ?_) (fun m hm => ?_) i0
  · unfold M.VI S.VI
    try simp only [Int.toNat_natCast]
    refine XY (dt (by omega)) ?_
    refine YC (Zs (dt (by omega)) (Zs (dt (by omega)) XI)) ?_
    refine ZO (Zdh (a0.Zd.getD i1 default) (LL.getD (Yy.Zd ha0) Zi.dflt i1)) (fun r3 her3 => ?_)
    refine XQ (fun hb2 => ?_) (fun hb2 => ?_)
    · exact Xw
    · refine YC (Zs (dt (by omega)) (Zs (dt (by omega)) XI)) ?_
      refine ZO (ZfG a0 i1 ha0 hi1 0) (fun y7 hey7 => ?_)
      refine J4 (fun _ hl => ?_) (fun y9 hly9 => ?_)
      · exact JR (by omega)
      · exact Xw
  · unfold M.VI
    try simp only [Int.toNat_natCast]
    exact XZ (decide_eq_false (by omega)) rfl
noncomputable def S.QS (a0 : ZY) : Int :=
  bif decide ((a0.Zd.length : Int) > 8) then 7 else (ZS (Xp (S.VI a0) (.inl ()) 0 a0.Zd.length) (fun y10 => Sum.elim (fun _ => 0) (fun y12 => y12) y10))
theorem ZdG (a0 : ZY) (ha0 : Yy a0) : M.QS a0 = some (S.QS a0) := by
  have hM := Zm
  unfold M.QS S.QS
  refine Jo (fun hb1 => ?_) (fun hb1 => ?_)
  · rfl
  · refine Z1 (ZfH a0 ha0 0) (fun y10 hey10 => ?_)
    refine Qw (fun _ hl => ?_) (fun y12 hly12 => ?_)
    · rfl
    · rfl
noncomputable def S.Vy (a0 : Int) : Bool :=
  ((decide (a0 ≥ 97)) && (decide (a0 ≤ 122))) || ((decide (a0 ≥ 65)) && (decide (a0 ≤ 90)))
theorem ZdH (a0 : Int)  : M.Vy a0 = some (S.Vy a0) := by
  have hM := Zm
  unfold M.Vy S.Vy
  rfl
noncomputable def S.Wm (a0 : ByteArray) (i2 : Nat) : Option (Unit ⊕ Bool) :=
  ZS (S.Vy (JN a0 (i2 : Int))) (fun r4 => bif (((((!r4) && (!((decide ((JN a0 (i2 : Int)) ≥ 48)) && (decide ((JN a0 (i2 : Int)) ≤ 57))))) && ((JN a0 (i2 : Int)) != 45)) && ((JN a0 (i2 : Int)) != 95)) && ((JN a0 (i2 : Int)) != 47)) && ((JN a0 (i2 : Int)) != 46) then (some (.inr false)) else none)
theorem ZhI (a0 : ByteArray) (ha0 : a0.size ≤ maxLen) (i0 : Nat) : ZZ (M.Wm a0) (i0 : Int) = some (Xp (S.Wm a0) (.inl ()) i0 (a0.size - i0)) := by
  have hM := Zm
  have hni2 : a0.size ≤ maxLen := ha0
  refine Z5 (n := a0.size) (fun i2 hi2 => ?_) (fun m hm => ?_) i0
  · unfold M.Wm S.Wm
    try simp only [Int.toNat_natCast]
    refine XY (dt (by omega)) ?_
    refine YC (Zs (dt (by omega)) (Zs (dt (by omega)) XI)) ?_
    refine ZO (ZdH (JN a0 (i2 : Int))) (fun r4 her4 => ?_)
    refine XQ (fun hb2 => ?_) (fun hb2 => ?_)
    · exact Xw
    · exact JR (by omega)
  · unfold M.Wm
    try simp only [Int.toNat_natCast]
    exact XZ (decide_eq_false (by omega)) rfl
noncomputable def S.Jn (a0 : ByteArray) : Bool :=
  ZS (bif (!((decide ((a0.size : Int) < 1)) || (decide ((a0.size : Int) > 15)))) then S.Vy (JN a0 0) else default) (fun r1 => bif ((decide ((a0.size : Int) < 1)) || (decide ((a0.size : Int) > 15))) || (!r1) then false else (ZS (Xp (S.Wm a0) (.inl ()) 1 (a0.size - 1)) (fun y5 => Sum.elim (fun _ => true) (fun y7 => y7) y5)))
theorem KV (a0 : ByteArray) (ha0 : a0.size ≤ maxLen) : M.Jn a0 = some (S.Jn a0) := by
  have hM := Zm
  unfold M.Jn S.Jn
  refine Z1 (JC fun hg => (ZdH (JN a0 0))) (fun r1 her1 => ?_)
  refine YC (Zs (JY fun hg => (dt (by first | omega | (simp; omega) | (simp at *; omega)))) (Zs (JY fun hg => (dt (by first | omega | (simp; omega) | (simp at *; omega)))) XI)) ?_
  refine Jo (fun hb1 => ?_) (fun hb1 => ?_)
  · rfl
  · refine Z1 (ZhI a0 ha0 1) (fun y5 hey5 => ?_)
    refine Qw (fun _ hl => ?_) (fun y7 hly7 => ?_)
    · rfl
    · rfl
noncomputable def S.Zz (a0 : Int) (a1 : Int) (a2 : Int) : Bool :=
  (decide (a1 ≤ a0)) && (decide (a0 ≤ a2))
theorem Yc (a0 : Int) (a1 : Int) (a2 : Int)  : M.Zz a0 a1 a2 = some (S.Zz a0 a1 a2) := by
  have hM := Zm
  unfold M.Zz S.Zz
  rfl
noncomputable def S.Q7 (a0 : Int) (a1 : Int) : ZL :=
  ZS (S.VE (if 0 > (if 32 < a1 then 32 else a1) then 0 else (if 32 < a1 then 32 else a1))) (fun r1 => (⟨Uc .and .u32 a0 r1, if 0 > (if 32 < a1 then 32 else a1) then 0 else (if 32 < a1 then 32 else a1)⟩ : ZL))
theorem RH (a0 : Int) (a1 : Int)  : M.Q7 a0 a1 = some (S.Q7 a0 a1) := by
  have hM := Zm
  unfold M.Q7 S.Q7
  refine Z1 (Zcs (if 0 > (if 32 < a1 then 32 else a1) then 0 else (if 32 < a1 then 32 else a1))) (fun r1 her1 => ?_)
  rfl
noncomputable def S.WD (a0 : ZL) (a1 : Int) : Bool :=
  ZS (S.VE a0.ZJ) (fun r1 => (Uc .and .u32 a1 r1) == a0.Zu)
theorem Zgn (a0 : ZL) (a1 : Int)  : M.WD a0 a1 = some (S.WD a0 a1) := by
  have hM := Zm
  unfold M.WD S.WD
  refine Z1 (Zcs a0.ZJ) (fun r1 her1 => ?_)
  rfl
noncomputable def S.WL (a0 : ZL) (a1 : ZL) : Bool :=
  ZS (bif (decide (a0.ZJ ≤ a1.ZJ)) then S.WD a0 a1.Zu else default) (fun r1 => (decide (a0.ZJ ≤ a1.ZJ)) && r1)
theorem ZdI (a0 : ZL) (a1 : ZL)  : M.WL a0 a1 = some (S.WL a0 a1) := by
  have hM := Zm
  unfold M.WL S.WL
  refine Z1 (JC fun hg => (Zgn a0 a1.Zu)) (fun r1 her1 => ?_)
  rfl
noncomputable def S.Vk (a0 : ZL) (a1 : ZL) : Bool :=
  ZS (S.WL a0 a1) (fun r1 => ZS (bif (!r1) then S.WL a1 a0 else default) (fun r2 => r1 || r2))
theorem Zbx (a0 : ZL) (a1 : ZL)  : M.Vk a0 a1 = some (S.Vk a0 a1) := by
  have hM := Zm
  unfold M.Vk S.Vk
  refine Z1 (ZdI a0 a1) (fun r1 her1 => ?_)
  refine Z1 (JC fun hg => (ZdI a1 a0)) (fun r2 her2 => ?_)
  rfl
noncomputable def S.Jm (a0 : List Zy) (i1 : Nat) (i4 : Nat) : Option (Unit ⊕ Int) :=
  bif YJ ((a0.getD i4 default).ZX) ((a0.getD i1 default).ZX) then (some (.inr 4)) else none
theorem ZcB (a0 : List Zy) (i1 : Nat) (ha0 : LL Xj a0) (hi1 : i1 < a0.length) (i0 : Nat) : ZZ (M.Jm a0 (i1 : Int)) (i0 : Int) = some (Xp (S.Jm a0 i1) (.inl ()) i0 (i1 - i0)) := by
  have hM := Zm
  have hni1 : a0.length ≤ maxLen := ha0.1
  have hni4 : i1 ≤ maxLen := (by omega)
  refine Z5 (n := i1) (fun i4 hi4 => ?_) (fun m hm => ?_) i0
  · unfold M.Jm S.Jm
    try simp only [Int.toNat_natCast]
    refine XY (dt (by omega)) ?_
    refine YC (Zs (dt (by omega)) (Zs (dt (by omega)) XI)) ?_
    refine XQ (fun hb3 => ?_) (fun hb3 => ?_)
    · exact Xw
    · exact JR (by omega)
  · unfold M.Jm
    try simp only [Int.toNat_natCast]
    exact XZ (decide_eq_false (by omega)) rfl
noncomputable def S.Qp (a0 : List Zy) (i1 : Nat) (i14 : Nat) : Option (Unit ⊕ Int) :=
  ZS (bif ((((a0.getD i1 default).ZJ) != 0) && (((a0.getD i14 default).ZJ) != 0)) then S.Q7 ((a0.getD i1 default).Zu) ((a0.getD i1 default).ZJ) else default) (fun r16 => ZS (bif ((((a0.getD i1 default).ZJ) != 0) && (((a0.getD i14 default).ZJ) != 0)) then S.Q7 ((a0.getD i14 default).Zu) ((a0.getD i14 default).ZJ) else default) (fun r17 => ZS (bif ((((a0.getD i1 default).ZJ) != 0) && (((a0.getD i14 default).ZJ) != 0)) then S.Vk r16 r17 else default) (fun r18 => bif ((((a0.getD i1 default).ZJ) != 0) && (((a0.getD i14 default).ZJ) != 0)) && r18 then (some (.inr 6)) else none)))
theorem ZcC (a0 : List Zy) (i1 : Nat) (ha0 : LL Xj a0) (hi1 : i1 < a0.length) (i0 : Nat) : ZZ (M.Qp a0 (i1 : Int)) (i0 : Int) = some (Xp (S.Qp a0 i1) (.inl ()) i0 (i1 - i0)) := by
  have hM := Zm
  have hni1 : a0.length ≤ maxLen := ha0.1
  have hni14 : i1 ≤ maxLen := (by omega)
  refine Z5 (n := i1) (fun i14 hi14 => ?_) (fun m hm => ?_) i0
  · unfold M.Qp S.Qp
    try simp only [Int.toNat_natCast]
    refine XY (dt (by omega)) ?_
    refine ZO (JC fun hg => (RH ((a0.getD i1 default).Zu) ((a0.getD i1 default).ZJ))) (fun r16 her16 => ?_)
    refine ZO (JC fun hg => (RH ((a0.getD i14 default).Zu) ((a0.getD i14 default).ZJ))) (fun r17 her17 => ?_)
    refine ZO (JC fun hg => (Zbx r16 r17)) (fun r18 her18 => ?_)
    refine YC (Zs (JY fun hg => (dt (by first | omega | (simp; omega) | (simp at *; omega)))) (Zs (JY fun hg => (dt (by first | omega | (simp; omega) | (simp at *; omega)))) (Zs (JY fun hg => (dt (by first | omega | (simp; omega) | (simp at *; omega)))) (Zs (JY fun hg => (dt (by first | omega | (simp; omega) | (simp at *; omega)))) (Zs (JY fun hg => (dt (by first | omega | (simp; omega) | (simp at *; omega)))) (Zs (JY fun hg => (dt (by first | omega | (simp; omega) | (simp at *; omega)))) XI)))))) ?_
    refine XQ (fun hb7 => ?_) (fun hb7 => ?_)
    · exact Xw
    · exact JR (by omega)
  · unfold M.Qp
    try simp only [Int.toNat_natCast]
    exact XZ (decide_eq_false (by omega)) rfl
noncomputable def S.QO (a0 : List Zy) (i1 : Nat) : Option (Unit ⊕ Int) :=
  ZS (S.Jn ((a0.getD i1 default).ZX)) (fun r3 => bif !r3 then (some (.inr 3)) else (ZS (Xp (S.Jm a0 i1) (.inl ()) 0 i1) (fun y6 => Sum.elim (fun _ => ZS (S.Zz ((a0.getD i1 default).ZJ) 0 32) (fun r9 => ZS (bif (!(!r9)) then S.Zz ((a0.getD i1 default).Xu) 0 4094 else default) (fun r10 => ZS (bif (!((!r9) || (!r10))) then S.Zz ((a0.getD i1 default).Zau) 0 2 else default) (fun r11 => bif ((!r9) || (!r10)) || (!r11) then (some (.inr 1)) else (bif ((((a0.getD i1 default).ZJ) == 0) && (((((((((a0.getD i1 default).Zu) != 0) || (((a0.getD i1 default).Xu) != 0)) || (((a0.getD i1 default).Zau) != 0)) || ((a0.getD i1 default).Yl)) || ((a0.getD i1 default).YH)) || (!strEq ((a0.getD i1 default).V7) (⟨#[]⟩ : ByteArray))) || (!strEq ((a0.getD i1 default).Y2) (⟨#[]⟩ : ByteArray)))) || ((((a0.getD i1 default).ZJ) != 0) && (((a0.getD i1 default).Zu) == 0)) then (some (.inr 1)) else (ZS (bif ((a0.getD i1 default).Yl) then S.Zz ((a0.getD i1 default).J7) 0 255 else default) (fun r12 => ZS (bif (((a0.getD i1 default).Yl) && !(!r12)) then S.Zz ((a0.getD i1 default).R1) 1 65535 else default) (fun r13 => bif (((a0.getD i1 default).Yl) && ((!r12) || (!r13))) || ((!((a0.getD i1 default).Yl)) && ((((a0.getD i1 default).J7) != 0) || (((a0.getD i1 default).R1) != 0))) then (some (.inr 1)) else (ZS (Xp (S.Qp a0 i1) (.inl ()) 0 i1) (fun y19 => Sum.elim (fun _ => none) (fun y21 => some (.inr y21)) y19)))))))))) (fun y8 => some (.inr y8)) y6)))
theorem ZcD (a0 : List Zy) (ha0 : LL Xj a0) (i0 : Nat) : ZZ (M.QO a0) (i0 : Int) = some (Xp (S.QO a0) (.inl ()) i0 (a0.length - i0)) := by
  have hM := Zm
  have hni1 : a0.length ≤ maxLen := ha0.1
  refine Z5 (n := a0.length) (fun i1 hi1 => ?_) (fun m hm => ?_) i0
  · unfold M.QO S.QO
    try simp only [Int.toNat_natCast]
    refine XY (dt (by omega)) ?_
    refine YC (Zs (dt (by omega)) (Zs (dt (by omega)) XI)) ?_
    refine ZO (KV ((a0.getD i1 default).ZX) (Xj.ZX (LL.getD ha0 Xj.dflt i1))) (fun r3 her3 => ?_)
    refine XQ (fun hb2 => ?_) (fun hb2 => ?_)
    · exact Xw
    · refine ZO (ZcB a0 i1 ha0 hi1 0) (fun y6 hey6 => ?_)
      refine J4 (fun _ hl => ?_) (fun y8 hly8 => ?_)
      · refine ZO (Yc ((a0.getD i1 default).ZJ) 0 32) (fun r9 her9 => ?_)
        refine ZO (JC fun hg => (Yc ((a0.getD i1 default).Xu) 0 4094)) (fun r10 her10 => ?_)
        refine ZO (JC fun hg => (Yc ((a0.getD i1 default).Zau) 0 2)) (fun r11 her11 => ?_)
        refine XQ (fun hb4 => ?_) (fun hb4 => ?_)
        · exact Xw
        · refine XQ (fun hb5 => ?_) (fun hb5 => ?_)
          · exact Xw
          · refine ZO (JC fun hg => (Yc ((a0.getD i1 default).J7) 0 255)) (fun r12 her12 => ?_)
            refine ZO (JC fun hg => (Yc ((a0.getD i1 default).R1) 1 65535)) (fun r13 her13 => ?_)
            refine XQ (fun hb6 => ?_) (fun hb6 => ?_)
            · exact Xw
            · refine ZO (ZcC a0 i1 ha0 hi1 0) (fun y19 hey19 => ?_)
              refine J4 (fun _ hl => ?_) (fun y21 hly21 => ?_)
              · exact JR (by omega)
              · exact Xw
      · exact Xw
  · unfold M.QO
    try simp only [Int.toNat_natCast]
    exact XZ (decide_eq_false (by omega)) rfl
noncomputable def S.Ju (a0 : List Zy) : Int :=
  bif decide ((a0.length : Int) > 8) then 7 else (ZS (Xp (S.QO a0) (.inl ()) 0 a0.length) (fun y22 => Sum.elim (fun _ => 0) (fun y24 => y24) y22))
theorem Ze6 (a0 : List Zy) (ha0 : LL Xj a0) : M.Ju a0 = some (S.Ju a0) := by
  have hM := Zm
  unfold M.Ju S.Ju
  refine Jo (fun hb1 => ?_) (fun hb1 => ?_)
  · rfl
  · refine Z1 (ZcD a0 ha0 0) (fun y22 hey22 => ?_)
    refine Qw (fun _ hl => ?_) (fun y24 hly24 => ?_)
    · rfl
    · rfl
noncomputable def S.YW (a0 : ZL) : Bool :=
  ZS (bif ((decide (a0.ZJ ≥ 0)) && (decide (a0.ZJ ≤ 32))) then S.VE a0.ZJ else default) (fun r1 => ((decide (a0.ZJ ≥ 0)) && (decide (a0.ZJ ≤ 32))) && ((Uc .andNot .u32 a0.Zu r1) == 0))
theorem U6 (a0 : ZL)  : M.YW a0 = some (S.YW a0) := by
  have hM := Zm
  unfold M.YW S.YW
  refine Z1 (JC fun hg => (Zcs a0.ZJ)) (fun r1 her1 => ?_)
  rfl
noncomputable def S.Qz (a0 : Gt) : Bool :=
  ZS (S.YW a0.Zp) (fun r1 => ((r1 && (decide (a0.Zp.ZJ ≤ a0.Zc5))) && (decide (a0.Zc5 ≤ a0.Zc6))) && (decide (a0.Zc6 ≤ 32)))
theorem Zbi (a0 : Gt)  : M.Qz a0 = some (S.Qz a0) := by
  have hM := Zm
  unfold M.Qz S.Qz
  refine Z1 (U6 a0.Zp) (fun r1 her1 => ?_)
  rfl
noncomputable def S.QU (a0 : List Z3) (i1 : Nat) (i4 : Nat) : Option (Unit ⊕ Int) :=
  bif YJ ((a0.getD i4 default).ZX) ((a0.getD i1 default).ZX) then (some (.inr 4)) else none
theorem ZbI (a0 : List Z3) (i1 : Nat) (ha0 : LL X5 a0) (hi1 : i1 < a0.length) (i0 : Nat) : ZZ (M.QU a0 (i1 : Int)) (i0 : Int) = some (Xp (S.QU a0 i1) (.inl ()) i0 (i1 - i0)) := by
  have hM := Zm
  have hni1 : a0.length ≤ maxLen := ha0.1
  have hni4 : i1 ≤ maxLen := (by omega)
  refine Z5 (n := i1) (fun i4 hi4 => ?_) (fun m hm => ?_) i0
  · unfold M.QU S.QU
    try simp only [Int.toNat_natCast]
    refine XY (dt (by omega)) ?_
    refine YC (Zs (dt (by omega)) (Zs (dt (by omega)) (Zs (dt (by omega)) (Zs (dt (by omega)) XI)))) ?_
    refine XQ (fun hb3 => ?_) (fun hb3 => ?_)
    · exact Xw
    · exact JR (by omega)
  · unfold M.QU
    try simp only [Int.toNat_natCast]
    exact XZ (decide_eq_false (by omega)) rfl
noncomputable def S.Qr (a0 : List Z3) (i1 : Nat) (i9 : Nat) : Option (Unit ⊕ Int) :=
  ZS (S.Qz (((a0.getD i1 default).XC).getD i9 default)) (fun r11 => bif !r11 then (some (.inr 1)) else none)
theorem ZbJ (a0 : List Z3) (i1 : Nat) (ha0 : LL X5 a0) (hi1 : i1 < a0.length) (i0 : Nat) : ZZ (M.Qr a0 (i1 : Int)) (i0 : Int) = some (Xp (S.Qr a0 i1) (.inl ()) i0 (((a0.getD i1 default).XC).length - i0)) := by
  have hM := Zm
  have hni1 : a0.length ≤ maxLen := ha0.1
  have hni9 : ((a0.getD i1 default).XC).length ≤ maxLen := (X5.XC (LL.getD ha0 X5.dflt i1))
  refine Z5 (n := ((a0.getD i1 default).XC).length) (fun i9 hi9 => ?_) (fun m hm => ?_) i0
  · unfold M.Qr S.Qr
    try simp only [Int.toNat_natCast]
    refine YC (Zs (dt (by omega)) (Zs (dt (by omega)) XI))  ?_
    refine XY (dt (by omega)) ?_
    refine ZO (Zbi (((a0.getD i1 default).XC).getD i9 default)) (fun r11 her11 => ?_)
    refine YC (Zs (dt (by omega)) (Zs (dt (by omega)) (Zs (dt (by omega)) (Zs (dt (by omega)) XI)))) ?_
    refine XQ (fun hb6 => ?_) (fun hb6 => ?_)
    · exact Xw
    · exact JR (by omega)
  · unfold M.Qr
    try simp only [Int.toNat_natCast]
    refine YC (Zs (dt (by omega)) (Zs (dt (by omega)) XI))  ?_
    exact XZ (decide_eq_false (by omega)) rfl
noncomputable def S.Qs (a0 : List Z3) (i1 : Nat) : Option (Unit ⊕ Int) :=
  ZS (S.Jn ((a0.getD i1 default).ZX)) (fun r3 => bif !r3 then (some (.inr 3)) else (ZS (Xp (S.QU a0 i1) (.inl ()) 0 i1) (fun y6 => Sum.elim (fun _ => bif (((a0.getD i1 default).XC).length : Int) == 0 then (some (.inr 1)) else (bif decide ((((a0.getD i1 default).XC).length : Int) > 16) then (some (.inr 7)) else (ZS (Xp (S.Qr a0 i1) (.inl ()) 0 (((a0.getD i1 default).XC).length)) (fun y12 => Sum.elim (fun _ => none) (fun y14 => some (.inr y14)) y12)))) (fun y8 => some (.inr y8)) y6)))
theorem ZbK (a0 : List Z3) (ha0 : LL X5 a0) (i0 : Nat) : ZZ (M.Qs a0) (i0 : Int) = some (Xp (S.Qs a0) (.inl ()) i0 (a0.length - i0)) := by
  have hM := Zm
  have hni1 : a0.length ≤ maxLen := ha0.1
  refine Z5 (n := a0.length) (fun i1 hi1 => ?_) (fun m hm => ?_) i0
  · unfold M.Qs S.Qs
    try simp only [Int.toNat_natCast]
    refine XY (dt (by omega)) ?_
    refine ZO (KV ((a0.getD i1 default).ZX) (X5.ZX (LL.getD ha0 X5.dflt i1))) (fun r3 her3 => ?_)
    refine YC (Zs (dt (by omega)) (Zs (dt (by omega)) XI)) ?_
    refine XQ (fun hb2 => ?_) (fun hb2 => ?_)
    · exact Xw
    · refine ZO (ZbI a0 i1 ha0 hi1 0) (fun y6 hey6 => ?_)
      refine J4 (fun _ hl => ?_) (fun y8 hly8 => ?_)
      · refine YC (Zs (dt (by omega)) (Zs (dt (by omega)) XI)) ?_
        refine XQ (fun hb4 => ?_) (fun hb4 => ?_)
        · exact Xw
        · refine YC (Zs (dt (by omega)) (Zs (dt (by omega)) XI)) ?_
          refine XQ (fun hb5 => ?_) (fun hb5 => ?_)
          · exact Xw
          · refine ZO (ZbJ a0 i1 ha0 hi1 0) (fun y12 hey12 => ?_)
            refine J4 (fun _ hl => ?_) (fun y14 hly14 => ?_)
            · exact JR (by omega)
            · exact Xw
      · exact Xw
  · unfold M.Qs
    try simp only [Int.toNat_natCast]
    exact XZ (decide_eq_false (by omega)) rfl
noncomputable def S.Q1 (a0 : List Z3) : Int :=
  bif decide ((a0.length : Int) > 8) then 7 else (ZS (Xp (S.Qs a0) (.inl ()) 0 a0.length) (fun y15 => Sum.elim (fun _ => 0) (fun y17 => y17) y15))
theorem Zd7 (a0 : List Z3) (ha0 : LL X5 a0) : M.Q1 a0 = some (S.Q1 a0) := by
  have hM := Zm
  unfold M.Q1 S.Q1
  refine Jo (fun hb1 => ?_) (fun hb1 => ?_)
  · rfl
  · refine Z1 (ZbK a0 ha0 0) (fun y15 hey15 => ?_)
    refine Qw (fun _ hl => ?_) (fun y17 hly17 => ?_)
    · rfl
    · rfl
noncomputable def S.JQ (a0 : Zf) (a1 : ByteArray) (i1 : Nat) : Option (Unit ⊕ Int) :=
  bif YJ ((a0.Xm.getD i1 default).ZX) a1 then (some (.inr (i1 : Int))) else none
theorem ZcE (a0 : Zf) (a1 : ByteArray) (ha0 : Zi a0) (ha1 : a1.size ≤ maxLen) (i0 : Nat) : ZZ (M.JQ a0 a1) (i0 : Int) = some (Xp (S.JQ a0 a1) (.inl ()) i0 (a0.Xm.length - i0)) := by
  have hM := Zm
  have hni1 : a0.Xm.length ≤ maxLen := (Zi.Xm ha0).1
  refine Z5 (n := a0.Xm.length) (fun i1 hi1 => ?_) (fun m hm => ?_) i0
  · unfold M.JQ S.JQ
    try simp only [Int.toNat_natCast]
    refine XY (dt (by omega)) ?_
    refine YC (Zs (dt (by omega)) (Zs (dt (by omega)) XI)) ?_
    refine XQ (fun hb1 => ?_) (fun hb1 => ?_)
    · exact Xw
    · exact JR (by omega)
  · unfold M.JQ
    try simp only [Int.toNat_natCast]
    exact XZ (decide_eq_false (by omega)) rfl
noncomputable def S.QF (a0 : Zf) (a1 : ByteArray) : Int :=
  ZS (Xp (S.JQ a0 a1) (.inl ()) 0 a0.Xm.length) (fun y3 => Sum.elim (fun _ => -1) (fun y5 => y5) y3)
theorem KB (a0 : Zf) (a1 : ByteArray) (ha0 : Zi a0) (ha1 : a1.size ≤ maxLen) : M.QF a0 a1 = some (S.QF a0 a1) := by
  have hM := Zm
  unfold M.QF S.QF
  refine Z1 (ZcE a0 a1 ha0 ha1 0) (fun y3 hey3 => ?_)
  refine Qw (fun _ hl => ?_) (fun y5 hly5 => ?_)
  · rfl
  · rfl
noncomputable def S.JH (a0 : Zf) (i1 : Nat) (i4 : Nat) : Option (Unit ⊕ Int) :=
  bif YJ ((a0.Xa.getD i4 default).ZX) ((a0.Xa.getD i1 default).ZX) then (some (.inr 4)) else none
theorem Zdi (a0 : Zf) (i1 : Nat) (ha0 : Zi a0) (hi1 : i1 < a0.Xa.length) (i0 : Nat) : ZZ (M.JH a0 (i1 : Int)) (i0 : Int) = some (Xp (S.JH a0 i1) (.inl ()) i0 (i1 - i0)) := by
  have hM := Zm
  have hni1 : a0.Xa.length ≤ maxLen := (Zi.Xa ha0).1
  have hni4 : i1 ≤ maxLen := (by omega)
  refine Z5 (n := i1) (fun i4 hi4 => ?_) (fun m hm => ?_) i0
  · unfold M.JH S.JH
    try simp only [Int.toNat_natCast]
    refine XY (dt (by omega)) ?_
    refine YC (Zs (dt (by omega)) (Zs (dt (by omega)) (Zs (dt (by omega)) (Zs (dt (by omega)) XI)))) ?_
    refine XQ (fun hb3 => ?_) (fun hb3 => ?_)
    · exact Xw
    · exact JR (by omega)
  · unfold M.JH
    try simp only [Int.toNat_natCast]
    exact XZ (decide_eq_false (by omega)) rfl
noncomputable def S.Q8 (a0 : Zf) (i1 : Nat) (i9 : Nat) : Option (Unit ⊕ Int) :=
  ZS (bif (!strEq ((((a0.Xa.getD i1 default).Xn).getD i9 default).QX) (⟨#[]⟩ : ByteArray)) then S.QF a0 ((((a0.Xa.getD i1 default).Xn).getD i9 default).QX) else default) (fun r11 => bif (!strEq ((((a0.Xa.getD i1 default).Xn).getD i9 default).QX) (⟨#[]⟩ : ByteArray)) && (decide (r11 < 0)) then (some (.inr 5)) else (ZS (S.Zz ((((a0.Xa.getD i1 default).Xn).getD i9 default).Gk) (-1) 65535) (fun r12 => ZS (bif (!(!r12)) then S.Zz ((((a0.Xa.getD i1 default).Xn).getD i9 default).Kr) (-1) 65535 else default) (fun r13 => ZS (bif (!((!r12) || (!r13))) then S.Zz ((((a0.Xa.getD i1 default).Xn).getD i9 default).W3) (-1) 16777215 else default) (fun r14 => ZS (bif (!(((!r12) || (!r13)) || (!r14))) then S.Zz ((((a0.Xa.getD i1 default).Xn).getD i9 default).Gu) (-1) 1000000 else default) (fun r15 => ZS (bif (!((((!r12) || (!r13)) || (!r14)) || (!r15))) then S.Zz ((((a0.Xa.getD i1 default).Xn).getD i9 default).Gv) 0 8 else default) (fun r16 => bif ((((!r12) || (!r13)) || (!r14)) || (!r15)) || (!r16) then (some (.inr 1)) else none)))))))
theorem Zdj (a0 : Zf) (i1 : Nat) (ha0 : Zi a0) (hi1 : i1 < a0.Xa.length) (i0 : Nat) : ZZ (M.Q8 a0 (i1 : Int)) (i0 : Int) = some (Xp (S.Q8 a0 i1) (.inl ()) i0 (((a0.Xa.getD i1 default).Xn).length - i0)) := by
  have hM := Zm
  have hni1 : a0.Xa.length ≤ maxLen := (Zi.Xa ha0).1
  have hni9 : ((a0.Xa.getD i1 default).Xn).length ≤ maxLen := (Yk.Xn (LL.getD (Zi.Xa ha0) Yk.dflt i1)).1
  refine Z5 (n := ((a0.Xa.getD i1 default).Xn).length) (fun i9 hi9 => ?_) (fun m hm => ?_) i0
  · unfold M.Q8 S.Q8
    try simp only [Int.toNat_natCast]
    refine YC (Zs (dt (by omega)) (Zs (dt (by omega)) XI))  ?_
    refine XY (dt (by omega)) ?_
    refine YC (Zs (dt (by omega)) (Zs (dt (by omega)) (Zs (dt (by omega)) (Zs (dt (by omega)) XI)))) ?_
    refine ZO (JC fun hg => (KB a0 ((((a0.Xa.getD i1 default).Xn).getD i9 default).QX) ha0 (W0.QX (LL.getD (Yk.Xn (LL.getD (Zi.Xa ha0) Yk.dflt i1)) W0.dflt i9)))) (fun r11 her11 => ?_)
    refine XQ (fun hb6 => ?_) (fun hb6 => ?_)
    · exact Xw
    · refine ZO (Yc ((((a0.Xa.getD i1 default).Xn).getD i9 default).Gk) (-1) 65535) (fun r12 her12 => ?_)
      refine ZO (JC fun hg => (Yc ((((a0.Xa.getD i1 default).Xn).getD i9 default).Kr) (-1) 65535)) (fun r13 her13 => ?_)
      refine ZO (JC fun hg => (Yc ((((a0.Xa.getD i1 default).Xn).getD i9 default).W3) (-1) 16777215)) (fun r14 her14 => ?_)
      refine ZO (JC fun hg => (Yc ((((a0.Xa.getD i1 default).Xn).getD i9 default).Gu) (-1) 1000000)) (fun r15 her15 => ?_)
      refine ZO (JC fun hg => (Yc ((((a0.Xa.getD i1 default).Xn).getD i9 default).Gv) 0 8)) (fun r16 her16 => ?_)
      refine XQ (fun hb7 => ?_) (fun hb7 => ?_)
      · exact Xw
      · exact JR (by omega)
  · unfold M.Q8
    try simp only [Int.toNat_natCast]
    refine YC (Zs (dt (by omega)) (Zs (dt (by omega)) XI))  ?_
    exact XZ (decide_eq_false (by omega)) rfl
noncomputable def S.Q9 (a0 : Zf) (i1 : Nat) : Option (Unit ⊕ Int) :=
  ZS (S.Jn ((a0.Xa.getD i1 default).ZX)) (fun r3 => bif !r3 then (some (.inr 3)) else (ZS (Xp (S.JH a0 i1) (.inl ()) 0 i1) (fun y6 => Sum.elim (fun _ => bif (((a0.Xa.getD i1 default).Xn).length : Int) == 0 then (some (.inr 1)) else (bif decide ((((a0.Xa.getD i1 default).Xn).length : Int) > 8) then (some (.inr 7)) else (ZS (Xp (S.Q8 a0 i1) (.inl ()) 0 (((a0.Xa.getD i1 default).Xn).length)) (fun y17 => Sum.elim (fun _ => none) (fun y19 => some (.inr y19)) y17)))) (fun y8 => some (.inr y8)) y6)))
theorem Zdk (a0 : Zf) (ha0 : Zi a0) (i0 : Nat) : ZZ (M.Q9 a0) (i0 : Int) = some (Xp (S.Q9 a0) (.inl ()) i0 (a0.Xa.length - i0)) := by
  have hM := Zm
  have hni1 : a0.Xa.length ≤ maxLen := (Zi.Xa ha0).1
  refine Z5 (n := a0.Xa.length) (fun i1 hi1 => ?_) (fun m hm => ?_) i0
  · unfold M.Q9 S.Q9
    try simp only [Int.toNat_natCast]
    refine XY (dt (by omega)) ?_
    refine ZO (KV ((a0.Xa.getD i1 default).ZX) (Yk.ZX (LL.getD (Zi.Xa ha0) Yk.dflt i1))) (fun r3 her3 => ?_)
    refine YC (Zs (dt (by omega)) (Zs (dt (by omega)) XI)) ?_
    refine XQ (fun hb2 => ?_) (fun hb2 => ?_)
    · exact Xw
    · refine ZO (Zdi a0 i1 ha0 hi1 0) (fun y6 hey6 => ?_)
      refine J4 (fun _ hl => ?_) (fun y8 hly8 => ?_)
      · refine YC (Zs (dt (by omega)) (Zs (dt (by omega)) XI)) ?_
        refine XQ (fun hb4 => ?_) (fun hb4 => ?_)
        · exact Xw
        · refine YC (Zs (dt (by omega)) (Zs (dt (by omega)) XI)) ?_
          refine XQ (fun hb5 => ?_) (fun hb5 => ?_)
          · exact Xw
          · refine ZO (Zdj a0 i1 ha0 hi1 0) (fun y17 hey17 => ?_)
            refine J4 (fun _ hl => ?_) (fun y19 hly19 => ?_)
            · exact JR (by omega)
            · exact Xw
      · exact Xw
  · unfold M.Q9
    try simp only [Int.toNat_natCast]
    exact XZ (decide_eq_false (by omega)) rfl
noncomputable def S.JU (a0 : Zf) : Int :=
  bif decide ((a0.Xa.length : Int) > 8) then 7 else (ZS (Xp (S.Q9 a0) (.inl ()) 0 a0.Xa.length) (fun y20 => Sum.elim (fun _ => 0) (fun y22 => y22) y20))
theorem ZfI (a0 : Zf) (ha0 : Zi a0) : M.JU a0 = some (S.JU a0) := by
  have hM := Zm
  unfold M.JU S.JU
  refine Jo (fun hb1 => ?_) (fun hb1 => ?_)
  · rfl
  · refine Z1 (Zdk a0 ha0 0) (fun y20 hey20 => ?_)
    refine Qw (fun _ hl => ?_) (fun y22 hly22 => ?_)
    · rfl
    · rfl
noncomputable def S.Wn (a0 : J8) : Bool :=
  ((decide (0 ≤ a0.GK)) && (decide (a0.GK ≤ a0.Ks))) && (decide (a0.Ks ≤ 65535))
theorem Ze7 (a0 : J8)  : M.Wn a0 = some (S.Wn a0) := by
  have hM := Zm
  unfold M.Wn S.Wn
  rfl
noncomputable def S.U8 (a0 : J8) : Bool :=
  (a0.GK == 0) && ((a0.Ks == 65535) && true)
theorem ZhJ (a0 : J8)  : M.U8 a0 = some (S.U8 a0) := by
  have hM := Zm
  unfold M.U8 S.U8
  rfl
noncomputable def S.Vb (a0 : Zbt) : Bool :=
  ZS (S.Zz a0.Ye (-1) 255) (fun r1 => ZS (bif (!(((!r1) || ((Uc .and .u32 a0.Zab.Zu a0.Zab.GJ) != 0)) || ((Uc .and .u32 a0.Zac.Zu a0.Zac.GJ) != 0))) then S.Wn a0.VB else default) (fun r2 => ZS (bif (!((((!r1) || ((Uc .and .u32 a0.Zab.Zu a0.Zab.GJ) != 0)) || ((Uc .and .u32 a0.Zac.Zu a0.Zac.GJ) != 0)) || (!r2))) then S.Wn a0.VC else default) (fun r3 => bif ((((!r1) || ((Uc .and .u32 a0.Zab.Zu a0.Zab.GJ) != 0)) || ((Uc .and .u32 a0.Zac.Zu a0.Zac.GJ) != 0)) || (!r2)) || (!r3) then false else (ZS (bif (!((a0.Ye == 6) || (a0.Ye == 17))) then S.U8 a0.VB else default) (fun r4 => ZS (bif ((!((a0.Ye == 6) || (a0.Ye == 17))) && r4) then S.U8 a0.VC else default) (fun r5 => ((a0.Ye == 6) || (a0.Ye == 17)) || (r4 && r5)))))))
theorem ZfJ (a0 : Zbt)  : M.Vb a0 = some (S.Vb a0) := by
  have hM := Zm
  unfold M.Vb S.Vb
  refine Z1 (Yc a0.Ye (-1) 255) (fun r1 her1 => ?_)
  refine Z1 (JC fun hg => (Ze7 a0.VB)) (fun r2 her2 => ?_)
  refine Z1 (JC fun hg => (Ze7 a0.VC)) (fun r3 her3 => ?_)
  refine Jo (fun hb1 => ?_) (fun hb1 => ?_)
  · rfl
  · refine Z1 (JC fun hg => (ZhJ a0.VB)) (fun r4 her4 => ?_)
    refine Z1 (JC fun hg => (ZhJ a0.VC)) (fun r5 her5 => ?_)
    rfl
noncomputable def S.QV (a0 : List WU) (i1 : Nat) (i4 : Nat) : Option (Unit ⊕ Int) :=
  bif YJ ((a0.getD i4 default).ZX) ((a0.getD i1 default).ZX) then (some (.inr 4)) else none
theorem ZbL (a0 : List WU) (i1 : Nat) (ha0 : LL Wy a0) (hi1 : i1 < a0.length) (i0 : Nat) : ZZ (M.QV a0 (i1 : Int)) (i0 : Int) = some (Xp (S.QV a0 i1) (.inl ()) i0 (i1 - i0)) := by
  have hM := Zm
  have hni1 : a0.length ≤ maxLen := ha0.1
  have hni4 : i1 ≤ maxLen := (by omega)
  refine Z5 (n := i1) (fun i4 hi4 => ?_) (fun m hm => ?_) i0
  · unfold M.QV S.QV
    try simp only [Int.toNat_natCast]
    refine XY (dt (by omega)) ?_
    refine YC (Zs (dt (by omega)) (Zs (dt (by omega)) (Zs (dt (by omega)) (Zs (dt (by omega)) XI)))) ?_
    refine XQ (fun hb3 => ?_) (fun hb3 => ?_)
    · exact Xw
    · exact JR (by omega)
  · unfold M.QV
    try simp only [Int.toNat_natCast]
    exact XZ (decide_eq_false (by omega)) rfl
noncomputable def S.Qt (a0 : List WU) (i1 : Nat) (i9 : Nat) : Option (Unit ⊕ Int) :=
  ZS (S.Vb (((a0.getD i1 default).XC).getD i9 default)) (fun r11 => bif !r11 then (some (.inr 1)) else none)
theorem ZbM (a0 : List WU) (i1 : Nat) (ha0 : LL Wy a0) (hi1 : i1 < a0.length) (i0 : Nat) : ZZ (M.Qt a0 (i1 : Int)) (i0 : Int) = some (Xp (S.Qt a0 i1) (.inl ()) i0 (((a0.getD i1 default).XC).length - i0)) := by
  have hM := Zm
  have hni1 : a0.length ≤ maxLen := ha0.1
  have hni9 : ((a0.getD i1 default).XC).length ≤ maxLen := (Wy.XC (LL.getD ha0 Wy.dflt i1))
  refine Z5 (n := ((a0.getD i1 default).XC).length) (fun i9 hi9 => ?_) (fun m hm => ?_) i0
  · unfold M.Qt S.Qt
    try simp only [Int.toNat_natCast]
    refine YC (Zs (dt (by omega)) (Zs (dt (by omega)) XI))  ?_
    refine XY (dt (by omega)) ?_
    refine ZO (ZfJ (((a0.getD i1 default).XC).getD i9 default)) (fun r11 her11 => ?_)
    refine YC (Zs (dt (by omega)) (Zs (dt (by omega)) (Zs (dt (by omega)) (Zs (dt (by omega)) XI)))) ?_
    refine XQ (fun hb6 => ?_) (fun hb6 => ?_)
    · exact Xw
    · exact JR (by omega)
  · unfold M.Qt
    try simp only [Int.toNat_natCast]
    refine YC (Zs (dt (by omega)) (Zs (dt (by omega)) XI))  ?_
    exact XZ (decide_eq_false (by omega)) rfl
noncomputable def S.Qu (a0 : List WU) (i1 : Nat) : Option (Unit ⊕ Int) :=
  ZS (S.Jn ((a0.getD i1 default).ZX)) (fun r3 => bif !r3 then (some (.inr 3)) else (ZS (Xp (S.QV a0 i1) (.inl ()) 0 i1) (fun y6 => Sum.elim (fun _ => bif (((a0.getD i1 default).XC).length : Int) == 0 then (some (.inr 1)) else (bif decide ((((a0.getD i1 default).XC).length : Int) > 16) then (some (.inr 7)) else (ZS (Xp (S.Qt a0 i1) (.inl ()) 0 (((a0.getD i1 default).XC).length)) (fun y12 => Sum.elim (fun _ => none) (fun y14 => some (.inr y14)) y12)))) (fun y8 => some (.inr y8)) y6)))
theorem ZbN (a0 : List WU) (ha0 : LL Wy a0) (i0 : Nat) : ZZ (M.Qu a0) (i0 : Int) = some (Xp (S.Qu a0) (.inl ()) i0 (a0.length - i0)) := by
  have hM := Zm
  have hni1 : a0.length ≤ maxLen := ha0.1
  refine Z5 (n := a0.length) (fun i1 hi1 => ?_) (fun m hm => ?_) i0
  · unfold M.Qu S.Qu
    try simp only [Int.toNat_natCast]
    refine XY (dt (by omega)) ?_
    refine ZO (KV ((a0.getD i1 default).ZX) (Wy.ZX (LL.getD ha0 Wy.dflt i1))) (fun r3 her3 => ?_)
    refine YC (Zs (dt (by omega)) (Zs (dt (by omega)) XI)) ?_
    refine XQ (fun hb2 => ?_) (fun hb2 => ?_)
    · exact Xw
    · refine ZO (ZbL a0 i1 ha0 hi1 0) (fun y6 hey6 => ?_)
      refine J4 (fun _ hl => ?_) (fun y8 hly8 => ?_)
      · refine YC (Zs (dt (by omega)) (Zs (dt (by omega)) XI)) ?_
        refine XQ (fun hb4 => ?_) (fun hb4 => ?_)
        · exact Xw
        · refine YC (Zs (dt (by omega)) (Zs (dt (by omega)) XI)) ?_
          refine XQ (fun hb5 => ?_) (fun hb5 => ?_)
          · exact Xw
          · refine ZO (ZbM a0 i1 ha0 hi1 0) (fun y12 hey12 => ?_)
            refine J4 (fun _ hl => ?_) (fun y14 hly14 => ?_)
            · exact JR (by omega)
            · exact Xw
      · exact Xw
  · unfold M.Qu
    try simp only [Int.toNat_natCast]
    exact XZ (decide_eq_false (by omega)) rfl
noncomputable def S.Q2 (a0 : List WU) : Int :=
  bif decide ((a0.length : Int) > 8) then 7 else (ZS (Xp (S.Qu a0) (.inl ()) 0 a0.length) (fun y15 => Sum.elim (fun _ => 0) (fun y17 => y17) y15))
theorem Zd8 (a0 : List WU) (ha0 : LL Wy a0) : M.Q2 a0 = some (S.Q2 a0) := by
  have hM := Zm
  unfold M.Q2 S.Q2
  refine Jo (fun hb1 => ?_) (fun hb1 => ?_)
  · rfl
  · refine Z1 (ZbN a0 ha0 0) (fun y15 hey15 => ?_)
    refine Qw (fun _ hl => ?_) (fun y17 hly17 => ?_)
    · rfl
    · rfl
noncomputable def S.Um (a0 : Zf) (a1 : ByteArray) (i1 : Nat) : Option (Unit ⊕ Int) :=
  bif YJ ((a0.XR.getD i1 default).ZX) a1 then (some (.inr (i1 : Int))) else none
theorem Zic (a0 : Zf) (a1 : ByteArray) (ha0 : Zi a0) (ha1 : a1.size ≤ maxLen) (i0 : Nat) : ZZ (M.Um a0 a1) (i0 : Int) = some (Xp (S.Um a0 a1) (.inl ()) i0 (a0.XR.length - i0)) := by
  have hM := Zm
  have hni1 : a0.XR.length ≤ maxLen := (Zi.XR ha0).1
  refine Z5 (n := a0.XR.length) (fun i1 hi1 => ?_) (fun m hm => ?_) i0
  · unfold M.Um S.Um
    try simp only [Int.toNat_natCast]
    refine XY (dt (by omega)) ?_
    refine YC (Zs (dt (by omega)) (Zs (dt (by omega)) XI)) ?_
    refine XQ (fun hb1 => ?_) (fun hb1 => ?_)
    · exact Xw
    · exact JR (by omega)
  · unfold M.Um
    try simp only [Int.toNat_natCast]
    exact XZ (decide_eq_false (by omega)) rfl
noncomputable def S.Un (a0 : Zf) (a1 : ByteArray) : Int :=
  ZS (Xp (S.Um a0 a1) (.inl ()) 0 a0.XR.length) (fun y3 => Sum.elim (fun _ => -1) (fun y5 => y5) y3)
theorem Zd9 (a0 : Zf) (a1 : ByteArray) (ha0 : Zi a0) (ha1 : a1.size ≤ maxLen) : M.Un a0 a1 = some (S.Un a0 a1) := by
  have hM := Zm
  unfold M.Un S.Un
  refine Z1 (Zic a0 a1 ha0 ha1 0) (fun y3 hey3 => ?_)
  refine Qw (fun _ hl => ?_) (fun y5 hly5 => ?_)
  · rfl
  · rfl
noncomputable def S.X6 (a0 : Zf) (i1 : Nat) (p3 : Bool) : Option (Unit ⊕ Int) :=
  bif !p3 then (some (.inr 1)) else (ZS (bif (((a0.Xf.getD i1 default).J5) == 2) then S.Un a0 ((a0.Xf.getD i1 default).QX) else default) (fun r4 => bif (((a0.Xf.getD i1 default).J5) == 2) && (decide (r4 < 0)) then (some (.inr 5)) else none))
theorem WV (a0 : Zf) (i1 : Nat) (p3 : Bool) (ha0 : Zi a0) (hi1 : i1 < a0.Xf.length) : M.X6 a0 (i1 : Int) p3 = some (rdN (S.X6 a0 i1 p3) i1) := by
  have hM := Zm
  have hni1 : a0.Xf.length ≤ maxLen := (Zi.Xf ha0).1
  unfold M.X6 S.X6
  try simp only [Int.toNat_natCast]
  refine XQ (fun hb3 => ?_) (fun hb3 => ?_)
  · exact Xw
  · refine ZO (JC fun hg => (Zd9 a0 ((a0.Xf.getD i1 default).QX) ha0 (JD.QX (LL.getD (Zi.Xf ha0) JD.dflt i1)))) (fun r4 her4 => ?_)
    refine XQ (fun hb4 => ?_) (fun hb4 => ?_)
    · exact Xw
    · exact JR (by omega)
noncomputable def S.Qb (a0 : Zf) (i1 : Nat) : Option (Unit ⊕ Int) :=
  bif ((a0.Xf.getD i1 default).J5) == 1 then (S.X6 a0 i1 (((((a0.Xf.getD i1 default).Qq) != 0) && (((a0.Xf.getD i1 default).YA) != 0)) && ((((a0.Xf.getD i1 default).J5) == ((a0.Xf.getD i1 default).J5)) && ((((a0.Xf.getD i1 default).Qq) == ((a0.Xf.getD i1 default).Qq)) && ((((a0.Xf.getD i1 default).YA) == ((a0.Xf.getD i1 default).YA)) && ((((a0.Xf.getD i1 default).Ye) == 0) && ((((a0.Xf.getD i1 default).QR) == 0) && ((((a0.Xf.getD i1 default).Ql) == 0) && (YJ ((a0.Xf.getD i1 default).QX) (⟨#[]⟩ : ByteArray) && ((((a0.Xf.getD i1 default).GK) == 0) && ((((a0.Xf.getD i1 default).Ks) == 0) && true))))))))))) else (bif ((a0.Xf.getD i1 default).J5) == 2 then (S.X6 a0 i1 ((((((a0.Xf.getD i1 default).GK) != 0) && (decide (((a0.Xf.getD i1 default).GK) ≤ ((a0.Xf.getD i1 default).Ks)))) && (decide ((wr .u32 (((a0.Xf.getD i1 default).Ks) - ((a0.Xf.getD i1 default).GK))) < 8))) && ((((a0.Xf.getD i1 default).J5) == ((a0.Xf.getD i1 default).J5)) && ((((a0.Xf.getD i1 default).Qq) == 0) && ((((a0.Xf.getD i1 default).YA) == 0) && ((((a0.Xf.getD i1 default).Ye) == 0) && ((((a0.Xf.getD i1 default).QR) == 0) && ((((a0.Xf.getD i1 default).Ql) == 0) && (YJ ((a0.Xf.getD i1 default).QX) ((a0.Xf.getD i1 default).QX) && ((((a0.Xf.getD i1 default).GK) == ((a0.Xf.getD i1 default).GK)) && ((((a0.Xf.getD i1 default).Ks) == ((a0.Xf.getD i1 default).Ks)) && true))))))))))) else (bif ((a0.Xf.getD i1 default).J5) == 3 then (ZS (bif (((((a0.Xf.getD i1 default).Qq) != 0) && (((a0.Xf.getD i1 default).YA) != 0)) && ((((a0.Xf.getD i1 default).Ye) == 6) || (((a0.Xf.getD i1 default).Ye) == 17))) then S.Zz ((a0.Xf.getD i1 default).QR) 0 65535 else default) (fun r5 => ZS (bif ((((((a0.Xf.getD i1 default).Qq) != 0) && (((a0.Xf.getD i1 default).YA) != 0)) && ((((a0.Xf.getD i1 default).Ye) == 6) || (((a0.Xf.getD i1 default).Ye) == 17))) && r5) then S.Zz ((a0.Xf.getD i1 default).Ql) 0 65535 else default) (fun r6 => S.X6 a0 i1 ((((((((((a0.Xf.getD i1 default).Qq) != 0) && (((a0.Xf.getD i1 default).YA) != 0)) && ((((a0.Xf.getD i1 default).Ye) == 6) || (((a0.Xf.getD i1 default).Ye) == 17))) && r5) && r6) && (YJ ((a0.Xf.getD i1 default).QX) (⟨#[]⟩ : ByteArray))) && (((a0.Xf.getD i1 default).GK) == 0)) && (((a0.Xf.getD i1 default).Ks) == 0))))) else (S.X6 a0 i1 false)))
theorem Zbj (a0 : Zf) (ha0 : Zi a0) (i0 : Nat) : ZZ (M.Qb a0) (i0 : Int) = some (Xp (S.Qb a0) (.inl ()) i0 (a0.Xf.length - i0)) := by
  have hM := Zm
  have hni1 : a0.Xf.length ≤ maxLen := (Zi.Xf ha0).1
  refine Z5 (n := a0.Xf.length) (fun i1 hi1 => ?_) (fun m hm => ?_) i0
  · unfold M.Qb S.Qb
    try simp only [Int.toNat_natCast]
    refine XY (dt (by omega)) ?_
    refine YC (Zs (dt (by omega)) (Zs (dt (by omega)) XI)) ?_
    refine XQ (fun hb2 => ?_) (fun hb2 => ?_)
    · exact WV a0 i1 (((((a0.Xf.getD i1 default).Qq) != 0) && (((a0.Xf.getD i1 default).YA) != 0)) && ((((a0.Xf.getD i1 default).J5) == ((a0.Xf.getD i1 default).J5)) && ((((a0.Xf.getD i1 default).Qq) == ((a0.Xf.getD i1 default).Qq)) && ((((a0.Xf.getD i1 default).YA) == ((a0.Xf.getD i1 default).YA)) && ((((a0.Xf.getD i1 default).Ye) == 0) && ((((a0.Xf.getD i1 default).QR) == 0) && ((((a0.Xf.getD i1 default).Ql) == 0) && (YJ ((a0.Xf.getD i1 default).QX) (⟨#[]⟩ : ByteArray) && ((((a0.Xf.getD i1 default).GK) == 0) && ((((a0.Xf.getD i1 default).Ks) == 0) && true)))))))))) ha0 hi1
    · refine XQ (fun hb5 => ?_) (fun hb5 => ?_)
      · exact WV a0 i1 ((((((a0.Xf.getD i1 default).GK) != 0) && (decide (((a0.Xf.getD i1 default).GK) ≤ ((a0.Xf.getD i1 default).Ks)))) && (decide ((wr .u32 (((a0.Xf.getD i1 default).Ks) - ((a0.Xf.getD i1 default).GK))) < 8))) && ((((a0.Xf.getD i1 default).J5) == ((a0.Xf.getD i1 default).J5)) && ((((a0.Xf.getD i1 default).Qq) == 0) && ((((a0.Xf.getD i1 default).YA) == 0) && ((((a0.Xf.getD i1 default).Ye) == 0) && ((((a0.Xf.getD i1 default).QR) == 0) && ((((a0.Xf.getD i1 default).Ql) == 0) && (YJ ((a0.Xf.getD i1 default).QX) ((a0.Xf.getD i1 default).QX) && ((((a0.Xf.getD i1 default).GK) == ((a0.Xf.getD i1 default).GK)) && ((((a0.Xf.getD i1 default).Ks) == ((a0.Xf.getD i1 default).Ks)) && true)))))))))) ha0 hi1
      · refine XQ (fun hb6 => ?_) (fun hb6 => ?_)
        · refine ZO (JC fun hg => (Yc ((a0.Xf.getD i1 default).QR) 0 65535)) (fun r5 her5 => ?_)
          refine ZO (JC fun hg => (Yc ((a0.Xf.getD i1 default).Ql) 0 65535)) (fun r6 her6 => ?_)
          exact WV a0 i1 ((((((((((a0.Xf.getD i1 default).Qq) != 0) && (((a0.Xf.getD i1 default).YA) != 0)) && ((((a0.Xf.getD i1 default).Ye) == 6) || (((a0.Xf.getD i1 default).Ye) == 17))) && r5) && r6) && (YJ ((a0.Xf.getD i1 default).QX) (⟨#[]⟩ : ByteArray))) && (((a0.Xf.getD i1 default).GK) == 0)) && (((a0.Xf.getD i1 default).Ks) == 0)) ha0 hi1
        · exact WV a0 i1 false ha0 hi1
  · unfold M.Qb
    try simp only [Int.toNat_natCast]
    exact XZ (decide_eq_false (by omega)) rfl
noncomputable def S.QG (a0 : Zf) : Int :=
  bif decide ((a0.Xf.length : Int) > 8) then 7 else (ZS (Xp (S.Qb a0) (.inl ()) 0 a0.Xf.length) (fun y7 => Sum.elim (fun _ => 0) (fun y9 => y9) y7))
theorem Zdl (a0 : Zf) (ha0 : Zi a0) : M.QG a0 = some (S.QG a0) := by
  have hM := Zm
  unfold M.QG S.QG
  refine Jo (fun hb1 => ?_) (fun hb1 => ?_)
  · rfl
  · refine Z1 (Zbj a0 ha0 0) (fun y7 hey7 => ?_)
    refine Qw (fun _ hl => ?_) (fun y9 hly9 => ?_)
    · rfl
    · rfl
noncomputable def S.VS (a0 : Zf) (i1 : Nat) : Option (Unit ⊕ Int) :=
  ZS (bif (!strEq ((a0.Zc.getD i1 default).V7) (⟨#[]⟩ : ByteArray)) then S.Un a0 ((a0.Zc.getD i1 default).V7) else default) (fun r3 => ZS (bif ((!((!strEq ((a0.Zc.getD i1 default).V7) (⟨#[]⟩ : ByteArray)) && (decide (r3 < 0)))) && (!strEq ((a0.Zc.getD i1 default).Y2) (⟨#[]⟩ : ByteArray))) then S.Un a0 ((a0.Zc.getD i1 default).Y2) else default) (fun r4 => bif ((!strEq ((a0.Zc.getD i1 default).V7) (⟨#[]⟩ : ByteArray)) && (decide (r3 < 0))) || ((!strEq ((a0.Zc.getD i1 default).Y2) (⟨#[]⟩ : ByteArray)) && (decide (r4 < 0))) then (some (.inr 5)) else none))
theorem Ze8 (a0 : Zf) (ha0 : Zi a0) (i0 : Nat) : ZZ (M.VS a0) (i0 : Int) = some (Xp (S.VS a0) (.inl ()) i0 (a0.Zc.length - i0)) := by
  have hM := Zm
  have hni1 : a0.Zc.length ≤ maxLen := (Zi.Zc ha0).1
  refine Z5 (n := a0.Zc.length) (fun i1 hi1 => ?_) (fun m hm => ?_) i0
  · unfold M.VS S.VS
    try simp only [Int.toNat_natCast]
    refine XY (dt (by omega)) ?_
    refine YC (Zs (dt (by omega)) (Zs (dt (by omega)) XI)) ?_
    refine ZO (JC fun hg => (Zd9 a0 ((a0.Zc.getD i1 default).V7) ha0 (Xj.V7 (LL.getD (Zi.Zc ha0) Xj.dflt i1)))) (fun r3 her3 => ?_)
    refine ZO (JC fun hg => (Zd9 a0 ((a0.Zc.getD i1 default).Y2) ha0 (Xj.Y2 (LL.getD (Zi.Zc ha0) Xj.dflt i1)))) (fun r4 her4 => ?_)
    refine XQ (fun hb1 => ?_) (fun hb1 => ?_)
    · exact Xw
    · exact JR (by omega)
  · unfold M.VS
    try simp only [Int.toNat_natCast]
    exact XZ (decide_eq_false (by omega)) rfl
noncomputable def S.Wo (a0 : Zf) : Int :=
  ZS (Xp (S.VS a0) (.inl ()) 0 a0.Zc.length) (fun y5 => Sum.elim (fun _ => 0) (fun y7 => y7) y5)
theorem ZhK (a0 : Zf) (ha0 : Zi a0) : M.Wo a0 = some (S.Wo a0) := by
  have hM := Zm
  unfold M.Wo S.Wo
  refine Z1 (Ze8 a0 ha0 0) (fun y5 hey5 => ?_)
  refine Qw (fun _ hl => ?_) (fun y7 hly7 => ?_)
  · rfl
  · rfl
noncomputable def S.VT (a0 : Zf) (a1 : Int) (i1 : Nat) : Option (Unit ⊕ Int) :=
  bif (((a0.Zc.getD i1 default).ZJ) != 0) && (((a0.Zc.getD i1 default).Zu) == a1) then (some (.inr (i1 : Int))) else none
theorem Ze9 (a0 : Zf) (a1 : Int) (ha0 : Zi a0) (i0 : Nat) : ZZ (M.VT a0 a1) (i0 : Int) = some (Xp (S.VT a0 a1) (.inl ()) i0 (a0.Zc.length - i0)) := by
  have hM := Zm
  have hni1 : a0.Zc.length ≤ maxLen := (Zi.Zc ha0).1
  refine Z5 (n := a0.Zc.length) (fun i1 hi1 => ?_) (fun m hm => ?_) i0
  · unfold M.VT S.VT
    try simp only [Int.toNat_natCast]
    refine XY (dt (by omega)) ?_
    refine YC (Zs (dt (by omega)) (Zs (dt (by omega)) (Zs (JY fun hg => (dt (by first | omega | (simp; omega) | (simp at *; omega)))) (Zs (JY fun hg => (dt (by first | omega | (simp; omega) | (simp at *; omega)))) XI)))) ?_
    refine XQ (fun hb1 => ?_) (fun hb1 => ?_)
    · exact Xw
    · exact JR (by omega)
  · unfold M.VT
    try simp only [Int.toNat_natCast]
    exact XZ (decide_eq_false (by omega)) rfl
noncomputable def S.Ja (a0 : Zf) (a1 : Int) : Int :=
  ZS (Xp (S.VT a0 a1) (.inl ()) 0 a0.Zc.length) (fun y3 => Sum.elim (fun _ => -1) (fun y5 => y5) y3)
theorem ZcF (a0 : Zf) (a1 : Int) (ha0 : Zi a0) : M.Ja a0 a1 = some (S.Ja a0 a1) := by
  have hM := Zm
  unfold M.Ja S.Ja
  refine Z1 (Ze9 a0 a1 ha0 0) (fun y3 hey3 => ?_)
  refine Qw (fun _ hl => ?_) (fun y5 hly5 => ?_)
  · rfl
  · rfl
noncomputable def S.JI (a0 : Zf) (a1 : ByteArray) (i1 : Nat) : Option (Unit ⊕ Int) :=
  bif YJ ((a0.Zc.getD i1 default).ZX) a1 then (some (.inr (i1 : Int))) else none
theorem Zdm (a0 : Zf) (a1 : ByteArray) (ha0 : Zi a0) (ha1 : a1.size ≤ maxLen) (i0 : Nat) : ZZ (M.JI a0 a1) (i0 : Int) = some (Xp (S.JI a0 a1) (.inl ()) i0 (a0.Zc.length - i0)) := by
  have hM := Zm
  have hni1 : a0.Zc.length ≤ maxLen := (Zi.Zc ha0).1
  refine Z5 (n := a0.Zc.length) (fun i1 hi1 => ?_) (fun m hm => ?_) i0
  · unfold M.JI S.JI
    try simp only [Int.toNat_natCast]
    refine XY (dt (by omega)) ?_
    refine YC (Zs (dt (by omega)) (Zs (dt (by omega)) XI)) ?_
    refine XQ (fun hb1 => ?_) (fun hb1 => ?_)
    · exact Xw
    · exact JR (by omega)
  · unfold M.JI
    try simp only [Int.toNat_natCast]
    exact XZ (decide_eq_false (by omega)) rfl
noncomputable def S.JV (a0 : Zf) (a1 : ByteArray) : Int :=
  ZS (Xp (S.JI a0 a1) (.inl ()) 0 a0.Zc.length) (fun y3 => Sum.elim (fun _ => -1) (fun y5 => y5) y3)
theorem ZfK (a0 : Zf) (a1 : ByteArray) (ha0 : Zi a0) (ha1 : a1.size ≤ maxLen) : M.JV a0 a1 = some (S.JV a0 a1) := by
  have hM := Zm
  unfold M.JV S.JV
  refine Z1 (Zdm a0 a1 ha0 ha1 0) (fun y3 hey3 => ?_)
  refine Qw (fun _ hl => ?_) (fun y5 hly5 => ?_)
  · rfl
  · rfl
theorem Zea (a0 : Zf) (a1 : ByteArray) : S.JV a0 a1 < (a0.Zc.length : Int) := by
  unfold S.JV
  simp only [ZS]
  exact ZnV (fun i => by unfold S.JI; cases YJ (a0.Zc.getD i default).ZX a1 <;> simp) _
noncomputable def S.Jv (a0 : Zf) (i1 : Nat) (i11 : Nat) : Option (Unit ⊕ Int) :=
  bif (((((a0.Zq.getD i11 default).Zp).Zu) == (((a0.Zq.getD i1 default).Zp).Zu)) && (((((a0.Zq.getD i11 default).Zp).ZJ) == (((a0.Zq.getD i1 default).Zp).ZJ)) && true)) && (((a0.Zq.getD i11 default).Xl) == ((a0.Zq.getD i1 default).Xl)) then (some (.inr 6)) else none
theorem Zfa (a0 : Zf) (i1 : Nat) (ha0 : Zi a0) (hi1 : i1 < a0.Zq.length) (i0 : Nat) : ZZ (M.Jv a0 (i1 : Int)) (i0 : Int) = some (Xp (S.Jv a0 i1) (.inl ()) i0 (i1 - i0)) := by
  have hM := Zm
  have hni1 : a0.Zq.length ≤ maxLen := (Zi.Zq ha0).1
  have hni11 : i1 ≤ maxLen := (by omega)
  refine Z5 (n := i1) (fun i11 hi11 => ?_) (fun m hm => ?_) i0
  · unfold M.Jv S.Jv
    try simp only [Int.toNat_natCast]
    refine XY (dt (by omega)) ?_
    refine YC (Zs (dt (by omega)) (Zs (dt (by omega)) (Zs (JY fun hg => (dt (by first | omega | (simp; omega) | (simp at *; omega)))) (Zs (JY fun hg => (dt (by first | omega | (simp; omega) | (simp at *; omega)))) XI)))) ?_
    refine XQ (fun hb9 => ?_) (fun hb9 => ?_)
    · exact Xw
    · exact JR (by omega)
  · unfold M.Jv
    try simp only [Int.toNat_natCast]
    exact XZ (decide_eq_false (by omega)) rfl
noncomputable def S.Jw (a0 : Zf) (i1 : Nat) (_p10 : Unit) : Option (Unit ⊕ Int) :=
  ZS (Xp (S.Jv a0 i1) (.inl ()) 0 i1) (fun y13 => Sum.elim (fun _ => none) (fun y15 => some (.inr y15)) y13)
theorem R6 (a0 : Zf) (i1 : Nat) (_p10 : Unit) (ha0 : Zi a0) (hi1 : i1 < a0.Zq.length) : M.Jw a0 (i1 : Int) _p10 = some (rdN (S.Jw a0 i1 _p10) i1) := by
  have hM := Zm
  have hni1 : a0.Zq.length ≤ maxLen := (Zi.Zq ha0).1
  unfold M.Jw S.Jw
  try simp only [Int.toNat_natCast]
  refine ZO (Zfa a0 i1 ha0 hi1 0) (fun y13 hey13 => ?_)
  refine J4 (fun _ hl => ?_) (fun y15 hly15 => ?_)
  · exact JR (by omega)
  · exact Xw
noncomputable def S.Jx (a0 : Zf) (i1 : Nat) (p5 : Int) : Option (Unit ⊕ Int) :=
  ZS (S.YW ((a0.Zq.getD i1 default).Zp)) (fun r6 => ZS (bif ((!((!r6) || (p5 != 1))) && (((a0.Zq.getD i1 default).Vu) != 0)) then S.Ja a0 ((a0.Zq.getD i1 default).Vu) else default) (fun r7 => ZS (bif (!(((!r6) || (p5 != 1)) || ((((a0.Zq.getD i1 default).Vu) != 0) && (decide (r7 ≥ 0))))) then S.Zz ((a0.Zq.getD i1 default).Xl) 1 255 else default) (fun r8 => ZS (bif (!((((!r6) || (p5 != 1)) || ((((a0.Zq.getD i1 default).Vu) != 0) && (decide (r7 ≥ 0)))) || (!r8))) then S.Zz ((a0.Zq.getD i1 default).Gk) 0 65535 else default) (fun r9 => bif ((((!r6) || (p5 != 1)) || ((((a0.Zq.getD i1 default).Vu) != 0) && (decide (r7 ≥ 0)))) || (!r8)) || (!r9) then (some (.inr 1)) else (bif !strEq ((a0.Zq.getD i1 default).QI) (⟨#[]⟩ : ByteArray) then (ZS (S.JV a0 ((a0.Zq.getD i1 default).QI)) (fun r16 => bif decide (r16 < 0) then (some (.inr 5)) else (bif ((a0.Zc.getD r16.toNat default).ZJ) == 0 then (some (.inr 1)) else (S.Jw a0 i1 ())))) else (S.Jw a0 i1 ()))))))
theorem R7 (a0 : Zf) (i1 : Nat) (p5 : Int) (ha0 : Zi a0) (hi1 : i1 < a0.Zq.length) : M.Jx a0 (i1 : Int) p5 = some (rdN (S.Jx a0 i1 p5) i1) := by
  have hM := Zm
  have hni1 : a0.Zq.length ≤ maxLen := (Zi.Zq ha0).1
  unfold M.Jx S.Jx
  try simp only [Int.toNat_natCast]
  refine ZO (U6 ((a0.Zq.getD i1 default).Zp)) (fun r6 her6 => ?_)
  refine ZO (JC fun hg => (ZcF a0 ((a0.Zq.getD i1 default).Vu) ha0)) (fun r7 her7 => ?_)
  refine ZO (JC fun hg => (Yc ((a0.Zq.getD i1 default).Xl) 1 255)) (fun r8 her8 => ?_)
  refine ZO (JC fun hg => (Yc ((a0.Zq.getD i1 default).Gk) 0 65535)) (fun r9 her9 => ?_)
  refine XQ (fun hb5 => ?_) (fun hb5 => ?_)
  · exact Xw
  · refine XQ (fun hb6 => ?_) (fun hb6 => ?_)
    · refine ZO (ZfK a0 ((a0.Zq.getD i1 default).QI) ha0 (Jh.QI (LL.getD (Zi.Zq ha0) Jh.dflt i1))) (fun r16 her16 => ?_)
      have hrr16 := Zea a0 ((a0.Zq.getD i1 default).QI)
      refine XQ (fun hb7 => ?_) (fun hb7 => ?_)
      · exact Xw
      · refine YC (Zs (dt (by first | omega | (simp; omega) | (simp at *; omega))) (Zs (dt (by first | omega | (simp; omega) | (simp at *; omega))) XI)) ?_
        refine XQ (fun hb8 => ?_) (fun hb8 => ?_)
        · exact Xw
        · exact R6 a0 i1 () ha0 hi1
    · exact R6 a0 i1 () ha0 hi1
noncomputable def S.Jy (a0 : Zf) (i1 : Nat) (p4 : Int) : Option (Unit ⊕ Int) :=
  bif (a0.Zq.getD i1 default).VH then (S.Jx a0 i1 (wr .i64 (p4 + 1))) else (S.Jx a0 i1 p4)
theorem R8 (a0 : Zf) (i1 : Nat) (p4 : Int) (ha0 : Zi a0) (hi1 : i1 < a0.Zq.length) : M.Jy a0 (i1 : Int) p4 = some (rdN (S.Jy a0 i1 p4) i1) := by
  have hM := Zm
  have hni1 : a0.Zq.length ≤ maxLen := (Zi.Zq ha0).1
  unfold M.Jy S.Jy
  try simp only [Int.toNat_natCast]
  refine XQ (fun hb4 => ?_) (fun hb4 => ?_)
  · exact R7 a0 i1 (wr .i64 (p4 + 1)) ha0 hi1
  · exact R7 a0 i1 p4 ha0 hi1
noncomputable def S.Jz (a0 : Zf) (i1 : Nat) (p3 : Int) : Option (Unit ⊕ Int) :=
  bif !strEq ((a0.Zq.getD i1 default).QI) (⟨#[]⟩ : ByteArray) then (S.Jy a0 i1 (wr .i64 (p3 + 1))) else (S.Jy a0 i1 p3)
theorem R9 (a0 : Zf) (i1 : Nat) (p3 : Int) (ha0 : Zi a0) (hi1 : i1 < a0.Zq.length) : M.Jz a0 (i1 : Int) p3 = some (rdN (S.Jz a0 i1 p3) i1) := by
  have hM := Zm
  have hni1 : a0.Zq.length ≤ maxLen := (Zi.Zq ha0).1
  unfold M.Jz S.Jz
  try simp only [Int.toNat_natCast]
  refine XQ (fun hb3 => ?_) (fun hb3 => ?_)
  · exact R8 a0 i1 (wr .i64 (p3 + 1)) ha0 hi1
  · exact R8 a0 i1 p3 ha0 hi1
noncomputable def S.JW (a0 : Zf) (i1 : Nat) : Option (Unit ⊕ Int) :=
  bif ((a0.Zq.getD i1 default).Vu) != 0 then (S.Jz a0 i1 1) else (S.Jz a0 i1 0)
theorem Zfb (a0 : Zf) (ha0 : Zi a0) (i0 : Nat) : ZZ (M.JW a0) (i0 : Int) = some (Xp (S.JW a0) (.inl ()) i0 (a0.Zq.length - i0)) := by
  have hM := Zm
  have hni1 : a0.Zq.length ≤ maxLen := (Zi.Zq ha0).1
  refine Z5 (n := a0.Zq.length) (fun i1 hi1 => ?_) (fun m hm => ?_) i0
  · unfold M.JW S.JW
    try simp only [Int.toNat_natCast]
    refine XY (dt (by omega)) ?_
    refine YC (Zs (dt (by omega)) (Zs (dt (by omega)) XI)) ?_
    refine XQ (fun hb2 => ?_) (fun hb2 => ?_)
    · exact R9 a0 i1 1 ha0 hi1
    · exact R9 a0 i1 0 ha0 hi1
  · unfold M.JW
    try simp only [Int.toNat_natCast]
    exact XZ (decide_eq_false (by omega)) rfl
noncomputable def S.VU (a0 : Zf) : Int :=
  bif decide ((a0.Zq.length : Int) > 16) then 7 else (ZS (Xp (S.JW a0) (.inl ()) 0 a0.Zq.length) (fun y17 => Sum.elim (fun _ => 0) (fun y19 => y19) y17))
theorem ZhL (a0 : Zf) (ha0 : Zi a0) : M.VU a0 = some (S.VU a0) := by
  have hM := Zm
  unfold M.VU S.VU
  refine Jo (fun hb1 => ?_) (fun hb1 => ?_)
  · rfl
  · refine Z1 (Zfb a0 ha0 0) (fun y17 hey17 => ?_)
    refine Qw (fun _ hl => ?_) (fun y19 hly19 => ?_)
    · rfl
    · rfl
noncomputable def S.Vp (a0 : Zf) (a1 : ByteArray) (i1 : Nat) : Option (Unit ⊕ Int) :=
  bif YJ ((a0.Xa.getD i1 default).ZX) a1 then (some (.inr (i1 : Int))) else none
theorem Zeb (a0 : Zf) (a1 : ByteArray) (ha0 : Zi a0) (ha1 : a1.size ≤ maxLen) (i0 : Nat) : ZZ (M.Vp a0 a1) (i0 : Int) = some (Xp (S.Vp a0 a1) (.inl ()) i0 (a0.Xa.length - i0)) := by
  have hM := Zm
  have hni1 : a0.Xa.length ≤ maxLen := (Zi.Xa ha0).1
  refine Z5 (n := a0.Xa.length) (fun i1 hi1 => ?_) (fun m hm => ?_) i0
  · unfold M.Vp S.Vp
    try simp only [Int.toNat_natCast]
    refine XY (dt (by omega)) ?_
    refine YC (Zs (dt (by omega)) (Zs (dt (by omega)) XI)) ?_
    refine XQ (fun hb1 => ?_) (fun hb1 => ?_)
    · exact Xw
    · exact JR (by omega)
  · unfold M.Vp
    try simp only [Int.toNat_natCast]
    exact XZ (decide_eq_false (by omega)) rfl
noncomputable def S.JJ (a0 : Zf) (a1 : ByteArray) : Int :=
  ZS (Xp (S.Vp a0 a1) (.inl ()) 0 a0.Xa.length) (fun y3 => Sum.elim (fun _ => -1) (fun y5 => y5) y3)
theorem K6 (a0 : Zf) (a1 : ByteArray) (ha0 : Zi a0) (ha1 : a1.size ≤ maxLen) : M.JJ a0 a1 = some (S.JJ a0 a1) := by
  have hM := Zm
  unfold M.JJ S.JJ
  refine Z1 (Zeb a0 a1 ha0 ha1 0) (fun y3 hey3 => ?_)
  refine Qw (fun _ hl => ?_) (fun y5 hly5 => ?_)
  · rfl
  · rfl
noncomputable def S.Yi (a1 : List YB) (i1 : Nat) (i7 : Nat) : Option (Unit ⊕ Int) :=
  bif ((a1.getD i7 default).WX) == ((a1.getD i1 default).WX) then (some (.inr 4)) else none
theorem RT (a1 : List YB) (i1 : Nat) (ha1 : LL J1 a1) (hi1 : i1 < a1.length) (i0 : Nat) : ZZ (M.Yi a1 (i1 : Int)) (i0 : Int) = some (Xp (S.Yi a1 i1) (.inl ()) i0 (i1 - i0)) := by
  have hM := Zm
  have hni1 : a1.length ≤ maxLen := ha1.1
  have hni7 : i1 ≤ maxLen := (by omega)
  refine Z5 (n := i1) (fun i7 hi7 => ?_) (fun m hm => ?_) i0
  · unfold M.Yi S.Yi
    try simp only [Int.toNat_natCast]
    refine XY (dt (by omega)) ?_
    refine YC (Zs (dt (by omega)) (Zs (dt (by omega)) XI)) ?_
    refine XQ (fun hb5 => ?_) (fun hb5 => ?_)
    · exact Xw
    · exact JR (by omega)
  · unfold M.Yi
    try simp only [Int.toNat_natCast]
    exact XZ (decide_eq_false (by omega)) rfl
noncomputable def S.Yx (a0 : Zf) (a1 : List YB) (a2 : Int) (a3 : Int) (a4 : Int) (i1 : Nat) : Option (Unit ⊕ Int) :=
  ZS (S.Zz ((a1.getD i1 default).WX) 1 5) (fun r3 => ZS (bif (!((!r3) || (((a1.getD i1 default).WX) == a2))) then S.Zz ((a1.getD i1 default).Rj) a3 a4 else default) (fun r4 => ZS (bif (!(((!r3) || (((a1.getD i1 default).WX) == a2)) || (!r4))) then S.Zz ((a1.getD i1 default).Gk) 0 65535 else default) (fun r5 => bif (((!r3) || (((a1.getD i1 default).WX) == a2)) || (!r4)) || (!r5) then (some (.inr 1)) else (bif (((a2 == 3) && (((a1.getD i1 default).KG) != 1)) && (((a1.getD i1 default).KG) != 2)) || ((a2 != 3) && (((a1.getD i1 default).KG) != 0)) then (some (.inr 1)) else (ZS (bif (!strEq ((a1.getD i1 default).Zad) (⟨#[]⟩ : ByteArray)) then S.JJ a0 ((a1.getD i1 default).Zad) else default) (fun r6 => bif (!strEq ((a1.getD i1 default).Zad) (⟨#[]⟩ : ByteArray)) && (decide (r6 < 0)) then (some (.inr 5)) else (ZS (Xp (S.Yi a1 i1) (.inl ()) 0 i1) (fun y9 => Sum.elim (fun _ => none) (fun y11 => some (.inr y11)) y9))))))))
theorem RU (a0 : Zf) (a1 : List YB) (a2 : Int) (a3 : Int) (a4 : Int) (ha0 : Zi a0) (ha1 : LL J1 a1) (i0 : Nat) : ZZ (M.Yx a0 a1 a2 a3 a4) (i0 : Int) = some (Xp (S.Yx a0 a1 a2 a3 a4) (.inl ()) i0 (a1.length - i0)) := by
  have hM := Zm
  have hni1 : a1.length ≤ maxLen := ha1.1
  refine Z5 (n := a1.length) (fun i1 hi1 => ?_) (fun m hm => ?_) i0
  · unfold M.Yx S.Yx
    try simp only [Int.toNat_natCast]
    refine XY (dt (by omega)) ?_
    refine YC (Zs (dt (by omega)) (Zs (dt (by omega)) XI)) ?_
    refine ZO (Yc ((a1.getD i1 default).WX) 1 5) (fun r3 her3 => ?_)
    refine ZO (JC fun hg => (Yc ((a1.getD i1 default).Rj) a3 a4)) (fun r4 her4 => ?_)
    refine ZO (JC fun hg => (Yc ((a1.getD i1 default).Gk) 0 65535)) (fun r5 her5 => ?_)
    refine XQ (fun hb2 => ?_) (fun hb2 => ?_)
    · exact Xw
    · refine XQ (fun hb3 => ?_) (fun hb3 => ?_)
      · exact Xw
      · refine ZO (JC fun hg => (K6 a0 ((a1.getD i1 default).Zad) ha0 (J1.Zad (LL.getD ha1 J1.dflt i1)))) (fun r6 her6 => ?_)
        refine XQ (fun hb4 => ?_) (fun hb4 => ?_)
        · exact Xw
        · refine ZO (RT a1 i1 ha1 hi1 0) (fun y9 hey9 => ?_)
          refine J4 (fun _ hl => ?_) (fun y11 hly11 => ?_)
          · exact JR (by omega)
          · exact Xw
  · unfold M.Yx
    try simp only [Int.toNat_natCast]
    exact XZ (decide_eq_false (by omega)) rfl
noncomputable def S.Yb (a0 : Zf) (a1 : List YB) (a2 : Int) (a3 : Int) (a4 : Int) : Int :=
  bif decide ((a1.length : Int) > 4) then 7 else (ZS (Xp (S.Yx a0 a1 a2 a3 a4) (.inl ()) 0 a1.length) (fun y12 => Sum.elim (fun _ => 0) (fun y14 => y14) y12))
theorem U7 (a0 : Zf) (a1 : List YB) (a2 : Int) (a3 : Int) (a4 : Int) (ha0 : Zi a0) (ha1 : LL J1 a1) : M.Yb a0 a1 a2 a3 a4 = some (S.Yb a0 a1 a2 a3 a4) := by
  have hM := Zm
  unfold M.Yb S.Yb
  refine Jo (fun hb1 => ?_) (fun hb1 => ?_)
  · rfl
  · refine Z1 (RU a0 a1 a2 a3 a4 ha0 ha1 0) (fun y12 hey12 => ?_)
    refine Qw (fun _ hl => ?_) (fun y14 hly14 => ?_)
    · rfl
    · rfl
noncomputable def S.Jb (a0 : Zf) (i2 : Nat) (i6 : Nat) : Option (Unit ⊕ Int) :=
  ZS (bif (((a0.Yl.ZK.getD i6 default).J7) == ((a0.Yl.ZK.getD i2 default).J7)) then S.Vk ((a0.Yl.ZK.getD i6 default).Zp) ((a0.Yl.ZK.getD i2 default).Zp) else default) (fun r8 => bif (((a0.Yl.ZK.getD i6 default).J7) == ((a0.Yl.ZK.getD i2 default).J7)) && r8 then (some (.inr 6)) else none)
theorem Zdn (a0 : Zf) (i2 : Nat) (ha0 : Zi a0) (hi2 : i2 < a0.Yl.ZK.length) (i0 : Nat) : ZZ (M.Jb a0 (i2 : Int)) (i0 : Int) = some (Xp (S.Jb a0 i2) (.inl ()) i0 (i2 - i0)) := by
  have hM := Zm
  have hni2 : a0.Yl.ZK.length ≤ maxLen := (Js.ZK (Zi.Yl ha0))
  have hni6 : i2 ≤ maxLen := (by omega)
  refine Z5 (n := i2) (fun i6 hi6 => ?_) (fun m hm => ?_) i0
  · unfold M.Jb S.Jb
    try simp only [Int.toNat_natCast]
    refine XY (dt (by omega)) ?_
    refine ZO (JC fun hg => (Zbx ((a0.Yl.ZK.getD i6 default).Zp) ((a0.Yl.ZK.getD i2 default).Zp))) (fun r8 her8 => ?_)
    refine YC (Zs (dt (by omega)) (Zs (dt (by omega)) (Zs (dt (by omega)) (Zs (dt (by omega)) (Zs (JY fun hg => (dt (by first | omega | (simp; omega) | (simp at *; omega)))) (Zs (JY fun hg => (dt (by first | omega | (simp; omega) | (simp at *; omega)))) (Zs (JY fun hg => (dt (by first | omega | (simp; omega) | (simp at *; omega)))) (Zs (JY fun hg => (dt (by first | omega | (simp; omega) | (simp at *; omega)))) XI)))))))) ?_
    refine XQ (fun hb6 => ?_) (fun hb6 => ?_)
    · exact Xw
    · exact JR (by omega)
  · unfold M.Jb
    try simp only [Int.toNat_natCast]
    exact XZ (decide_eq_false (by omega)) rfl
noncomputable def S.Jc (a0 : Zf) (i2 : Nat) : Option (Unit ⊕ Int) :=
  ZS (S.Zz ((a0.Yl.ZK.getD i2 default).J7) 0 255) (fun r4 => ZS (bif (!(!r4)) then S.YW ((a0.Yl.ZK.getD i2 default).Zp) else default) (fun r5 => bif (!r4) || (!r5) then (some (.inr 1)) else (ZS (Xp (S.Jb a0 i2) (.inl ()) 0 i2) (fun y9 => Sum.elim (fun _ => none) (fun y11 => some (.inr y11)) y9))))
theorem Zdo (a0 : Zf) (ha0 : Zi a0) (i0 : Nat) : ZZ (M.Jc a0) (i0 : Int) = some (Xp (S.Jc a0) (.inl ()) i0 (a0.Yl.ZK.length - i0)) := by
  have hM := Zm
  have hni2 : a0.Yl.ZK.length ≤ maxLen := (Js.ZK (Zi.Yl ha0))
  refine Z5 (n := a0.Yl.ZK.length) (fun i2 hi2 => ?_) (fun m hm => ?_) i0
  · unfold M.Jc S.Jc
    try simp only [Int.toNat_natCast]
    refine XY (dt (by omega)) ?_
    refine ZO (Yc ((a0.Yl.ZK.getD i2 default).J7) 0 255) (fun r4 her4 => ?_)
    refine ZO (JC fun hg => (U6 ((a0.Yl.ZK.getD i2 default).Zp))) (fun r5 her5 => ?_)
    refine YC (Zs (dt (by omega)) (Zs (dt (by omega)) (Zs (JY fun hg => (dt (by first | omega | (simp; omega) | (simp at *; omega)))) (Zs (JY fun hg => (dt (by first | omega | (simp; omega) | (simp at *; omega)))) XI)))) ?_
    refine XQ (fun hb5 => ?_) (fun hb5 => ?_)
    · exact Xw
    · refine ZO (Zdn a0 i2 ha0 hi2 0) (fun y9 hey9 => ?_)
      refine J4 (fun _ hl => ?_) (fun y11 hly11 => ?_)
      · exact JR (by omega)
      · exact Xw
  · unfold M.Jc
    try simp only [Int.toNat_natCast]
    exact XZ (decide_eq_false (by omega)) rfl
noncomputable def S.JX (a0 : Zf) : Int :=
  bif !a0.Yl.WI then (bif ((a0.Yl.Xl != 0) || (decide ((a0.Yl.ZK.length : Int) > 0))) || (decide ((a0.Yl.Zv.length : Int) > 0)) then 1 else 0) else (ZS (S.Zz a0.Yl.Xl 1 255) (fun r1 => bif !r1 then 1 else (bif decide ((a0.Yl.ZK.length : Int) > 4) then 7 else (ZS (Xp (S.Jc a0) (.inl ()) 0 a0.Yl.ZK.length) (fun y12 => Sum.elim (fun _ => ZS (S.Yb a0 a0.Yl.Zv 3 0 16777215) (fun r15 => r15)) (fun y14 => y14) y12)))))
theorem ZfL (a0 : Zf) (ha0 : Zi a0) : M.JX a0 = some (S.JX a0) := by
  have hM := Zm
  unfold M.JX S.JX
  refine Jo (fun hb1 => ?_) (fun hb1 => ?_)
  · refine Jo (fun hb2 => ?_) (fun hb2 => ?_)
    · rfl
    · rfl
  · refine Z1 (Yc a0.Yl.Xl 1 255) (fun r1 her1 => ?_)
    refine Jo (fun hb3 => ?_) (fun hb3 => ?_)
    · rfl
    · refine Jo (fun hb4 => ?_) (fun hb4 => ?_)
      · rfl
      · refine Z1 (Zdo a0 ha0 0) (fun y12 hey12 => ?_)
        refine Qw (fun _ hl => ?_) (fun y14 hly14 => ?_)
        · refine Z1 (U7 a0 a0.Yl.Zv 3 0 16777215 ha0 (Js.Zv (Zi.Yl ha0))) (fun r15 her15 => ?_)
          rfl
        · rfl
noncomputable def S.Vl (a0 : Zf) : Int :=
  bif !a0.YH.WI then (bif (((a0.YH.Xl != 0) || (!strEq a0.YH.V7 (⟨#[]⟩ : ByteArray))) || (!strEq a0.YH.Y2 (⟨#[]⟩ : ByteArray))) || (decide ((a0.YH.Zv.length : Int) > 0)) then 1 else 0) else (ZS (S.Zz a0.YH.Xl 1 255) (fun r1 => bif !r1 then 1 else (ZS (bif (!strEq a0.YH.V7 (⟨#[]⟩ : ByteArray)) then S.QF a0 a0.YH.V7 else default) (fun r2 => ZS (bif ((!((!strEq a0.YH.V7 (⟨#[]⟩ : ByteArray)) && (decide (r2 < 0)))) && (!strEq a0.YH.Y2 (⟨#[]⟩ : ByteArray))) then S.QF a0 a0.YH.Y2 else default) (fun r3 => bif ((!strEq a0.YH.V7 (⟨#[]⟩ : ByteArray)) && (decide (r2 < 0))) || ((!strEq a0.YH.Y2 (⟨#[]⟩ : ByteArray)) && (decide (r3 < 0))) then 5 else (ZS (S.Yb a0 a0.YH.Zv 4 1 15) (fun r4 => r4)))))))
theorem Zgo (a0 : Zf) (ha0 : Zi a0) : M.Vl a0 = some (S.Vl a0) := by
  have hM := Zm
  unfold M.Vl S.Vl
  refine Jo (fun hb1 => ?_) (fun hb1 => ?_)
  · refine Jo (fun hb2 => ?_) (fun hb2 => ?_)
    · rfl
    · rfl
  · refine Z1 (Yc a0.YH.Xl 1 255) (fun r1 her1 => ?_)
    refine Jo (fun hb3 => ?_) (fun hb3 => ?_)
    · rfl
    · refine Z1 (JC fun hg => (KB a0 a0.YH.V7 ha0 (Yd.V7 (Zi.YH ha0)))) (fun r2 her2 => ?_)
      refine Z1 (JC fun hg => (KB a0 a0.YH.Y2 ha0 (Yd.Y2 (Zi.YH ha0)))) (fun r3 her3 => ?_)
      refine Jo (fun hb4 => ?_) (fun hb4 => ?_)
      · rfl
      · refine Z1 (U7 a0 a0.YH.Zv 4 1 15 ha0 (Yd.Zv (Zi.YH ha0))) (fun r4 her4 => ?_)
        rfl
noncomputable def S.Jd (a0 : Zf) (i1 : Nat) (i6 : Nat) : Option (Unit ⊕ Int) :=
  bif ((a0.Xd.Zl.getD i6 default).Zu) == ((a0.Xd.Zl.getD i1 default).Zu) then (some (.inr 4)) else none
theorem Zdp (a0 : Zf) (i1 : Nat) (ha0 : Zi a0) (hi1 : i1 < a0.Xd.Zl.length) (i0 : Nat) : ZZ (M.Jd a0 (i1 : Int)) (i0 : Int) = some (Xp (S.Jd a0 i1) (.inl ()) i0 (i1 - i0)) := by
  have hM := Zm
  have hni1 : a0.Xd.Zl.length ≤ maxLen := (Z4.Zl (Zi.Xd ha0)).1
  have hni6 : i1 ≤ maxLen := (by omega)
  refine Z5 (n := i1) (fun i6 hi6 => ?_) (fun m hm => ?_) i0
  · unfold M.Jd S.Jd
    try simp only [Int.toNat_natCast]
    refine XY (dt (by omega)) ?_
    refine YC (Zs (dt (by omega)) (Zs (dt (by omega)) (Zs (dt (by omega)) (Zs (dt (by omega)) XI)))) ?_
    refine XQ (fun hb4 => ?_) (fun hb4 => ?_)
    · exact Xw
    · exact JR (by omega)
  · unfold M.Jd
    try simp only [Int.toNat_natCast]
    exact XZ (decide_eq_false (by omega)) rfl
noncomputable def S.Je (a0 : Zf) (i1 : Nat) : Option (Unit ⊕ Int) :=
  ZS (bif (!(((a0.Xd.Zl.getD i1 default).Zu) == 0)) then S.Zz ((a0.Xd.Zl.getD i1 default).Kt) 1 65535 else default) (fun r3 => bif (((a0.Xd.Zl.getD i1 default).Zu) == 0) || (!r3) then (some (.inr 1)) else (ZS (bif (!strEq ((a0.Xd.Zl.getD i1 default).V7) (⟨#[]⟩ : ByteArray)) then S.JJ a0 ((a0.Xd.Zl.getD i1 default).V7) else default) (fun r4 => ZS (bif ((!((!strEq ((a0.Xd.Zl.getD i1 default).V7) (⟨#[]⟩ : ByteArray)) && (decide (r4 < 0)))) && (!strEq ((a0.Xd.Zl.getD i1 default).Y2) (⟨#[]⟩ : ByteArray))) then S.JJ a0 ((a0.Xd.Zl.getD i1 default).Y2) else default) (fun r5 => bif ((!strEq ((a0.Xd.Zl.getD i1 default).V7) (⟨#[]⟩ : ByteArray)) && (decide (r4 < 0))) || ((!strEq ((a0.Xd.Zl.getD i1 default).Y2) (⟨#[]⟩ : ByteArray)) && (decide (r5 < 0))) then (some (.inr 5)) else (ZS (Xp (S.Jd a0 i1) (.inl ()) 0 i1) (fun y8 => Sum.elim (fun _ => none) (fun y10 => some (.inr y10)) y8))))))
theorem Zdq (a0 : Zf) (ha0 : Zi a0) (i0 : Nat) : ZZ (M.Je a0) (i0 : Int) = some (Xp (S.Je a0) (.inl ()) i0 (a0.Xd.Zl.length - i0)) := by
  have hM := Zm
  have hni1 : a0.Xd.Zl.length ≤ maxLen := (Z4.Zl (Zi.Xd ha0)).1
  refine Z5 (n := a0.Xd.Zl.length) (fun i1 hi1 => ?_) (fun m hm => ?_) i0
  · unfold M.Je S.Je
    try simp only [Int.toNat_natCast]
    refine XY (dt (by omega)) ?_
    refine ZO (JC fun hg => (Yc ((a0.Xd.Zl.getD i1 default).Kt) 1 65535)) (fun r3 her3 => ?_)
    refine YC (Zs (dt (by omega)) (Zs (dt (by omega)) (Zs (JY fun hg => (dt (by first | omega | (simp; omega) | (simp at *; omega)))) (Zs (JY fun hg => (dt (by first | omega | (simp; omega) | (simp at *; omega)))) XI)))) ?_
    refine XQ (fun hb2 => ?_) (fun hb2 => ?_)
    · exact Xw
    · refine ZO (JC fun hg => (K6 a0 ((a0.Xd.Zl.getD i1 default).V7) ha0 (JL.V7 (LL.getD (Z4.Zl (Zi.Xd ha0)) JL.dflt i1)))) (fun r4 her4 => ?_)
      refine ZO (JC fun hg => (K6 a0 ((a0.Xd.Zl.getD i1 default).Y2) ha0 (JL.Y2 (LL.getD (Z4.Zl (Zi.Xd ha0)) JL.dflt i1)))) (fun r5 her5 => ?_)
      refine YC (Zs (dt (by omega)) (Zs (dt (by omega)) (Zs (JY fun hg => (dt (by first | omega | (simp; omega) | (simp at *; omega)))) (Zs (JY fun hg => (dt (by first | omega | (simp; omega) | (simp at *; omega)))) (Zs (JY fun hg => (dt (by first | omega | (simp; omega) | (simp at *; omega)))) (Zs (JY fun hg => (dt (by first | omega | (simp; omega) | (simp at *; omega)))) (Zs (JY fun hg => (dt (by first | omega | (simp; omega) | (simp at *; omega)))) (Zs (JY fun hg => (dt (by first | omega | (simp; omega) | (simp at *; omega)))) XI)))))))) ?_
      refine XQ (fun hb3 => ?_) (fun hb3 => ?_)
      · exact Xw
      · refine ZO (Zdp a0 i1 ha0 hi1 0) (fun y8 hey8 => ?_)
        refine J4 (fun _ hl => ?_) (fun y10 hly10 => ?_)
        · exact JR (by omega)
        · exact Xw
  · unfold M.Je
    try simp only [Int.toNat_natCast]
    exact XZ (decide_eq_false (by omega)) rfl
noncomputable def S.Vc (a0 : Zf) : Int :=
  bif decide ((a0.Xd.Zl.length : Int) > 8) then 7 else (ZS (Xp (S.Je a0) (.inl ()) 0 a0.Xd.Zl.length) (fun y11 => Sum.elim (fun _ => 0) (fun y13 => y13) y11))
theorem ZfM (a0 : Zf) (ha0 : Zi a0) : M.Vc a0 = some (S.Vc a0) := by
  have hM := Zm
  unfold M.Vc S.Vc
  refine Jo (fun hb1 => ?_) (fun hb1 => ?_)
  · rfl
  · refine Z1 (Zdq a0 ha0 0) (fun y11 hey11 => ?_)
    refine Qw (fun _ hl => ?_) (fun y13 hly13 => ?_)
    · rfl
    · rfl
noncomputable def S.QA (a0 : Z6) (i1 : Nat) (i4 : Nat) : Option (Unit ⊕ Int) :=
  bif ((((a0.Zt.getD i4 default).Zu) == ((a0.Zt.getD i1 default).Zu)) && ((((a0.Zt.getD i4 default).ZJ) == ((a0.Zt.getD i1 default).ZJ)) && true)) then (some (.inr 4)) else none
theorem Zbk (a0 : Z6) (i1 : Nat) (ha0 : Z4 a0) (hi1 : i1 < a0.Zt.length) (i0 : Nat) : ZZ (M.QA a0 (i1 : Int)) (i0 : Int) = some (Xp (S.QA a0 i1) (.inl ()) i0 (i1 - i0)) := by
  have hM := Zm
  have hni1 : a0.Zt.length ≤ maxLen := (Z4.Zt ha0)
  have hni4 : i1 ≤ maxLen := (by omega)
  refine Z5 (n := i1) (fun i4 hi4 => ?_) (fun m hm => ?_) i0
  · unfold M.QA S.QA
    try simp only [Int.toNat_natCast]
    refine XY (dt (by omega)) ?_
    refine YC (Zs (dt (by omega)) (Zs (dt (by omega)) (Zs (dt (by omega)) (Zs (dt (by omega)) XI)))) ?_
    refine XQ (fun hb3 => ?_) (fun hb3 => ?_)
    · exact Xw
    · exact JR (by omega)
  · unfold M.QA
    try simp only [Int.toNat_natCast]
    exact XZ (decide_eq_false (by omega)) rfl
noncomputable def S.Qc (a0 : Z6) (i1 : Nat) : Option (Unit ⊕ Int) :=
  ZS (S.YW (a0.Zt.getD i1 default)) (fun r3 => bif !r3 then (some (.inr 1)) else (ZS (Xp (S.QA a0 i1) (.inl ()) 0 i1) (fun y6 => Sum.elim (fun _ => none) (fun y8 => some (.inr y8)) y6)))
theorem Zbl (a0 : Z6) (ha0 : Z4 a0) (i0 : Nat) : ZZ (M.Qc a0) (i0 : Int) = some (Xp (S.Qc a0) (.inl ()) i0 (a0.Zt.length - i0)) := by
  have hM := Zm
  have hni1 : a0.Zt.length ≤ maxLen := (Z4.Zt ha0)
  refine Z5 (n := a0.Zt.length) (fun i1 hi1 => ?_) (fun m hm => ?_) i0
  · unfold M.Qc S.Qc
    try simp only [Int.toNat_natCast]
    refine XY (dt (by omega)) ?_
    refine ZO (U6 (a0.Zt.getD i1 default)) (fun r3 her3 => ?_)
    refine YC (Zs (dt (by omega)) (Zs (dt (by omega)) XI)) ?_
    refine XQ (fun hb2 => ?_) (fun hb2 => ?_)
    · exact Xw
    · refine ZO (Zbk a0 i1 ha0 hi1 0) (fun y6 hey6 => ?_)
      refine J4 (fun _ hl => ?_) (fun y8 hly8 => ?_)
      · exact JR (by omega)
      · exact Xw
  · unfold M.Qc
    try simp only [Int.toNat_natCast]
    exact XZ (decide_eq_false (by omega)) rfl
noncomputable def S.Qd (a0 : Z6) (i12 : Nat) (i15 : Nat) : Option (Unit ⊕ Int) :=
  bif (((((a0.Zr.getD i15 default).Zp).Zu) == (((a0.Zr.getD i12 default).Zp).Zu)) && (((((a0.Zr.getD i15 default).Zp).ZJ) == (((a0.Zr.getD i12 default).Zp).ZJ)) && true)) then (some (.inr 4)) else none
theorem Zbm (a0 : Z6) (i12 : Nat) (ha0 : Z4 a0) (hi12 : i12 < a0.Zr.length) (i0 : Nat) : ZZ (M.Qd a0 (i12 : Int)) (i0 : Int) = some (Xp (S.Qd a0 i12) (.inl ()) i0 (i12 - i0)) := by
  have hM := Zm
  have hni12 : a0.Zr.length ≤ maxLen := (Z4.Zr ha0)
  have hni15 : i12 ≤ maxLen := (by omega)
  refine Z5 (n := i12) (fun i15 hi15 => ?_) (fun m hm => ?_) i0
  · unfold M.Qd S.Qd
    try simp only [Int.toNat_natCast]
    refine XY (dt (by omega)) ?_
    refine YC (Zs (dt (by omega)) (Zs (dt (by omega)) (Zs (dt (by omega)) (Zs (dt (by omega)) XI)))) ?_
    refine XQ (fun hb6 => ?_) (fun hb6 => ?_)
    · exact Xw
    · exact JR (by omega)
  · unfold M.Qd
    try simp only [Int.toNat_natCast]
    exact XZ (decide_eq_false (by omega)) rfl
noncomputable def S.Qe (a0 : Z6) (i12 : Nat) : Option (Unit ⊕ Int) :=
  ZS (S.YW ((a0.Zr.getD i12 default).Zp)) (fun r14 => bif !r14 then (some (.inr 1)) else (ZS (Xp (S.Qd a0 i12) (.inl ()) 0 i12) (fun y17 => Sum.elim (fun _ => none) (fun y19 => some (.inr y19)) y17)))
theorem Zbn (a0 : Z6) (ha0 : Z4 a0) (i0 : Nat) : ZZ (M.Qe a0) (i0 : Int) = some (Xp (S.Qe a0) (.inl ()) i0 (a0.Zr.length - i0)) := by
  have hM := Zm
  have hni12 : a0.Zr.length ≤ maxLen := (Z4.Zr ha0)
  refine Z5 (n := a0.Zr.length) (fun i12 hi12 => ?_) (fun m hm => ?_) i0
  · unfold M.Qe S.Qe
    try simp only [Int.toNat_natCast]
    refine XY (dt (by omega)) ?_
    refine ZO (U6 ((a0.Zr.getD i12 default).Zp)) (fun r14 her14 => ?_)
    refine YC (Zs (dt (by omega)) (Zs (dt (by omega)) XI)) ?_
    refine XQ (fun hb5 => ?_) (fun hb5 => ?_)
    · exact Xw
    · refine ZO (Zbm a0 i12 ha0 hi12 0) (fun y17 hey17 => ?_)
      refine J4 (fun _ hl => ?_) (fun y19 hly19 => ?_)
      · exact JR (by omega)
      · exact Xw
  · unfold M.Qe
    try simp only [Int.toNat_natCast]
    exact XZ (decide_eq_false (by omega)) rfl
noncomputable def S.Qf (a0 : Z6) (i23 : Nat) (i27 : Nat) : Option (Unit ⊕ Int) :=
  bif (((((a0.Zo.getD i27 default).Zp).Zu) == (((a0.Zo.getD i23 default).Zp).Zu)) && (((((a0.Zo.getD i27 default).Zp).ZJ) == (((a0.Zo.getD i23 default).Zp).ZJ)) && true)) then (some (.inr 4)) else none
theorem Zbo (a0 : Z6) (i23 : Nat) (ha0 : Z4 a0) (hi23 : i23 < a0.Zo.length) (i0 : Nat) : ZZ (M.Qf a0 (i23 : Int)) (i0 : Int) = some (Xp (S.Qf a0 i23) (.inl ()) i0 (i23 - i0)) := by
  have hM := Zm
  have hni23 : a0.Zo.length ≤ maxLen := (Z4.Zo ha0)
  have hni27 : i23 ≤ maxLen := (by omega)
  refine Z5 (n := i23) (fun i27 hi27 => ?_) (fun m hm => ?_) i0
  · unfold M.Qf S.Qf
    try simp only [Int.toNat_natCast]
    refine XY (dt (by omega)) ?_
    refine YC (Zs (dt (by omega)) (Zs (dt (by omega)) XI)) ?_
    refine XQ (fun hb10 => ?_) (fun hb10 => ?_)
    · exact Xw
    · exact JR (by omega)
  · unfold M.Qf
    try simp only [Int.toNat_natCast]
    exact XZ (decide_eq_false (by omega)) rfl
noncomputable def S.Qg (a0 : Z6) (i23 : Nat) : Option (Unit ⊕ Int) :=
  ZS (S.YW ((a0.Zo.getD i23 default).Zp)) (fun r25 => ZS (bif (!(!r25)) then S.YW ((a0.Zo.getD i23 default).fIf) else default) (fun r26 => bif (!r25) || (!r26) then (some (.inr 1)) else (bif (((((a0.Zo.getD i23 default).Zp).Zu) == (((a0.Zo.getD i23 default).fIf).Zu)) && (((((a0.Zo.getD i23 default).Zp).ZJ) == (((a0.Zo.getD i23 default).fIf).ZJ)) && true)) then (some (.inr 6)) else (ZS (Xp (S.Qf a0 i23) (.inl ()) 0 i23) (fun y29 => Sum.elim (fun _ => none) (fun y31 => some (.inr y31)) y29)))))
theorem Zbp (a0 : Z6) (ha0 : Z4 a0) (i0 : Nat) : ZZ (M.Qg a0) (i0 : Int) = some (Xp (S.Qg a0) (.inl ()) i0 (a0.Zo.length - i0)) := by
  have hM := Zm
  have hni23 : a0.Zo.length ≤ maxLen := (Z4.Zo ha0)
  refine Z5 (n := a0.Zo.length) (fun i23 hi23 => ?_) (fun m hm => ?_) i0
  · unfold M.Qg S.Qg
    try simp only [Int.toNat_natCast]
    refine XY (dt (by omega)) ?_
    refine YC (Zs (dt (by omega)) (Zs (dt (by omega)) XI)) ?_
    refine ZO (U6 ((a0.Zo.getD i23 default).Zp)) (fun r25 her25 => ?_)
    refine ZO (JC fun hg => (U6 ((a0.Zo.getD i23 default).fIf))) (fun r26 her26 => ?_)
    refine XQ (fun hb8 => ?_) (fun hb8 => ?_)
    · exact Xw
    · refine XQ (fun hb9 => ?_) (fun hb9 => ?_)
      · exact Xw
      · refine ZO (Zbo a0 i23 ha0 hi23 0) (fun y29 hey29 => ?_)
        refine J4 (fun _ hl => ?_) (fun y31 hly31 => ?_)
        · exact JR (by omega)
        · exact Xw
  · unfold M.Qg
    try simp only [Int.toNat_natCast]
    exact XZ (decide_eq_false (by omega)) rfl
noncomputable def S.Jf (a0 : Z6) : Int :=
  bif decide ((a0.Zt.length : Int) > 8) then 7 else (ZS (Xp (S.Qc a0) (.inl ()) 0 a0.Zt.length) (fun y9 => Sum.elim (fun _ => bif decide ((a0.Zr.length : Int) > 8) then 7 else (ZS (Xp (S.Qe a0) (.inl ()) 0 a0.Zr.length) (fun y20 => Sum.elim (fun _ => bif decide ((a0.Zo.length : Int) > 8) then 7 else (ZS (Xp (S.Qg a0) (.inl ()) 0 a0.Zo.length) (fun y32 => Sum.elim (fun _ => 0) (fun y34 => y34) y32))) (fun y22 => y22) y20))) (fun y11 => y11) y9))
theorem Zdr (a0 : Z6) (ha0 : Z4 a0) : M.Jf a0 = some (S.Jf a0) := by
  have hM := Zm
  unfold M.Jf S.Jf
  refine Jo (fun hb1 => ?_) (fun hb1 => ?_)
  · rfl
  · refine Z1 (Zbl a0 ha0 0) (fun y9 hey9 => ?_)
    refine Qw (fun _ hl => ?_) (fun y11 hly11 => ?_)
    · refine Jo (fun hb4 => ?_) (fun hb4 => ?_)
      · rfl
      · refine Z1 (Zbn a0 ha0 0) (fun y20 hey20 => ?_)
        refine Qw (fun _ hl => ?_) (fun y22 hly22 => ?_)
        · refine Jo (fun hb7 => ?_) (fun hb7 => ?_)
          · rfl
          · refine Z1 (Zbp a0 ha0 0) (fun y32 hey32 => ?_)
            refine Qw (fun _ hl => ?_) (fun y34 hly34 => ?_)
            · rfl
            · rfl
        · rfl
    · rfl
noncomputable def S.JA (a0 : Zf) : Int :=
  bif !a0.Xd.WI then (bif ((a0.Xd.X7 != 0) || (a0.Xd.X8 != 0)) || (decide ((wr .i64 ((wr .i64 ((wr .i64 ((wr .i64 ((a0.Xd.Zl.length : Int) + (a0.Xd.Zt.length : Int))) + (a0.Xd.Zr.length : Int))) + (a0.Xd.Zo.length : Int))) + (a0.Xd.Zv.length : Int))) > 0)) then 1 else 0) else (ZS (bif (!(a0.Kt == 0)) then S.Zz a0.Xd.X7 1 255 else default) (fun r1 => ZS (bif (!((a0.Kt == 0) || (!r1))) then S.Zz a0.Xd.X8 1 255 else default) (fun r2 => bif ((a0.Kt == 0) || (!r1)) || (!r2) then 1 else (ZS (S.Vc a0) (fun r3 => bif r3 != 0 then r3 else (ZS (S.Jf a0.Xd) (fun r4 => bif r4 != 0 then r4 else (ZS (S.Yb a0 a0.Xd.Zv 5 0 16777215) (fun r5 => r5)))))))))
theorem Zfc (a0 : Zf) (ha0 : Zi a0) : M.JA a0 = some (S.JA a0) := by
  have hM := Zm
  unfold M.JA S.JA
  refine Jo (fun hb1 => ?_) (fun hb1 => ?_)
  · refine Jo (fun hb2 => ?_) (fun hb2 => ?_)
    · rfl
    · rfl
  · refine Z1 (JC fun hg => (Yc a0.Xd.X7 1 255)) (fun r1 her1 => ?_)
    refine Z1 (JC fun hg => (Yc a0.Xd.X8 1 255)) (fun r2 her2 => ?_)
    refine Jo (fun hb3 => ?_) (fun hb3 => ?_)
    · rfl
    · refine Z1 (ZfM a0 ha0) (fun r3 her3 => ?_)
      refine Jo (fun hb4 => ?_) (fun hb4 => ?_)
      · rfl
      · refine Z1 (Zdr a0.Xd (Zi.Xd ha0)) (fun r4 her4 => ?_)
        refine Jo (fun hb5 => ?_) (fun hb5 => ?_)
        · rfl
        · refine Z1 (U7 a0 a0.Xd.Zv 5 0 16777215 ha0 (Z4.Zv (Zi.Xd ha0))) (fun r5 her5 => ?_)
          rfl
noncomputable def S.Jr (r3 : Int) (r4 : Int) (r5 : Int) (r6 : Int) (r7 : Int) (r8 : Int) (r9 : Int) (r10 : Int) (r11 : Int) (r12 : Int) (i13 : Nat) : Option (Unit ⊕ Int) :=
  bif (([r3, r4, r5, r6, r7, r8, r9, r10, r11, r12] : List Int).getD i13 default) != 0 then (some (.inr (([r3, r4, r5, r6, r7, r8, r9, r10, r11, r12] : List Int).getD i13 default))) else none
theorem ZbO (r3 : Int) (r4 : Int) (r5 : Int) (r6 : Int) (r7 : Int) (r8 : Int) (r9 : Int) (r10 : Int) (r11 : Int) (r12 : Int)  (i0 : Nat) : ZZ (M.Jr r3 r4 r5 r6 r7 r8 r9 r10 r11 r12) (i0 : Int) = some (Xp (S.Jr r3 r4 r5 r6 r7 r8 r9 r10 r11 r12) (.inl ()) i0 (([r3, r4, r5, r6, r7, r8, r9, r10, r11, r12] : List Int).length - i0)) := by
  have hM := Zm
  have hni13 : ([r3, r4, r5, r6, r7, r8, r9, r10, r11, r12] : List Int).length ≤ maxLen := (by simp [Zm])
  refine Z5 (n := ([r3, r4, r5, r6, r7, r8, r9, r10, r11, r12] : List Int).length) (fun i13 hi13 => ?_) (fun m hm => ?_) i0
  · unfold M.Jr S.Jr
    try simp only [Int.toNat_natCast]
    refine XY (dt (by omega)) ?_
    refine YC (Zs (dt (by omega)) (Zs (dt (by first | omega | (simp; omega) | (simp at *; omega))) XI)) ?_
    refine XQ (fun hb3 => ?_) (fun hb3 => ?_)
    · refine YC (Zs (dt (by omega)) (Zs (dt (by first | omega | (simp; omega) | (simp at *; omega))) XI)) ?_
      exact Xw
    · exact JR (by omega)
  · unfold M.Jr
    try simp only [Int.toNat_natCast]
    exact XZ (decide_eq_false (by omega)) rfl
noncomputable def S.Q3 (a0 : Zf) : Int :=
  ZS (S.Jn a0.ZX) (fun r1 => bif !r1 then 3 else (ZS (S.Zz a0.Kt 0 65535) (fun r2 => bif !r2 then 1 else (ZS (S.Ju a0.Zc) (fun r3 => ZS (S.Q1 a0.Xm) (fun r4 => ZS (S.JU a0) (fun r5 => ZS (S.Q2 a0.XR) (fun r6 => ZS (S.QG a0) (fun r7 => ZS (S.Wo a0) (fun r8 => ZS (S.VU a0) (fun r9 => ZS (S.JX a0) (fun r10 => ZS (S.Vl a0) (fun r11 => ZS (S.JA a0) (fun r12 => ZS (Xp (S.Jr r3 r4 r5 r6 r7 r8 r9 r10 r11 r12) (.inl ()) 0 (([r3, r4, r5, r6, r7, r8, r9, r10, r11, r12] : List Int).length)) (fun y15 => Sum.elim (fun _ => 0) (fun y17 => y17) y15)))))))))))))))
theorem Zec (a0 : Zf) (ha0 : Zi a0) : M.Q3 a0 = some (S.Q3 a0) := by
  have hM := Zm
  unfold M.Q3 S.Q3
  refine Z1 (KV a0.ZX (Zi.ZX ha0)) (fun r1 her1 => ?_)
  refine Jo (fun hb1 => ?_) (fun hb1 => ?_)
  · rfl
  · refine Z1 (Yc a0.Kt 0 65535) (fun r2 her2 => ?_)
    refine Jo (fun hb2 => ?_) (fun hb2 => ?_)
    · rfl
    · refine Z1 (Ze6 a0.Zc (Zi.Zc ha0)) (fun r3 her3 => ?_)
      refine Z1 (Zd7 a0.Xm (Zi.Xm ha0)) (fun r4 her4 => ?_)
      refine Z1 (ZfI a0 ha0) (fun r5 her5 => ?_)
      refine Z1 (Zd8 a0.XR (Zi.XR ha0)) (fun r6 her6 => ?_)
      refine Z1 (Zdl a0 ha0) (fun r7 her7 => ?_)
      refine Z1 (ZhK a0 ha0) (fun r8 her8 => ?_)
      refine Z1 (ZhL a0 ha0) (fun r9 her9 => ?_)
      refine Z1 (ZfL a0 ha0) (fun r10 her10 => ?_)
      refine Z1 (Zgo a0 ha0) (fun r11 her11 => ?_)
      refine Z1 (Zfc a0 ha0) (fun r12 her12 => ?_)
      refine Z1 (ZbO r3 r4 r5 r6 r7 r8 r9 r10 r11 r12 0) (fun y15 hey15 => ?_)
      refine Qw (fun _ hl => ?_) (fun y17 hly17 => ?_)
      · rfl
      · rfl
noncomputable def S.Wd (a0 : ZY) (i1 : Nat) (i4 : Nat) : Option (Unit ⊕ Int) :=
  bif YJ ((a0.Zd.getD i4 default).ZX) ((a0.Zd.getD i1 default).ZX) then (some (.inr 4)) else none
theorem Zgp (a0 : ZY) (i1 : Nat) (ha0 : Yy a0) (hi1 : i1 < a0.Zd.length) (i0 : Nat) : ZZ (M.Wd a0 (i1 : Int)) (i0 : Int) = some (Xp (S.Wd a0 i1) (.inl ()) i0 (i1 - i0)) := by
  have hM := Zm
  have hni1 : a0.Zd.length ≤ maxLen := (Yy.Zd ha0).1
  have hni4 : i1 ≤ maxLen := (by omega)
  refine Z5 (n := i1) (fun i4 hi4 => ?_) (fun m hm => ?_) i0
  · unfold M.Wd S.Wd
    try simp only [Int.toNat_natCast]
    refine XY (dt (by omega)) ?_
    refine YC (Zs (dt (by omega)) (Zs (dt (by omega)) (Zs (dt (by omega)) (Zs (dt (by omega)) XI)))) ?_
    refine XQ (fun hb3 => ?_) (fun hb3 => ?_)
    · exact Xw
    · exact JR (by omega)
  · unfold M.Wd
    try simp only [Int.toNat_natCast]
    exact XZ (decide_eq_false (by omega)) rfl
noncomputable def S.VJ (a0 : ZY) (i1 : Nat) (i9 : Nat) (i11 : Nat) : Option (Unit ⊕ Int) :=
  ZS (bif (((((a0.Zd.getD i1 default).Zc).getD i9 default).ZJ) != 0) then S.Ja (a0.Zd.getD i11 default) ((((a0.Zd.getD i1 default).Zc).getD i9 default).Zu) else default) (fun r13 => bif (((((a0.Zd.getD i1 default).Zc).getD i9 default).ZJ) != 0) && (decide (r13 ≥ 0)) then (some (.inr 4)) else none)
theorem Zgq (a0 : ZY) (i1 : Nat) (i9 : Nat) (ha0 : Yy a0) (hi1 : i1 < a0.Zd.length) (hi9 : i9 < ((a0.Zd.getD i1 default).Zc).length) (i0 : Nat) : ZZ (M.VJ a0 (i1 : Int) (i9 : Int)) (i0 : Int) = some (Xp (S.VJ a0 i1 i9) (.inl ()) i0 (i1 - i0)) := by
  have hM := Zm
  have hni1 : a0.Zd.length ≤ maxLen := (Yy.Zd ha0).1
  have hni9 : ((a0.Zd.getD i1 default).Zc).length ≤ maxLen := (Zi.Zc (LL.getD (Yy.Zd ha0) Zi.dflt i1)).1
  have hni11 : i1 ≤ maxLen := (by omega)
  refine Z5 (n := i1) (fun i11 hi11 => ?_) (fun m hm => ?_) i0
  · unfold M.VJ S.VJ
    try simp only [Int.toNat_natCast]
    refine XY (dt (by omega)) ?_
    refine ZO (JC fun hg => (ZcF (a0.Zd.getD i11 default) ((((a0.Zd.getD i1 default).Zc).getD i9 default).Zu) (LL.getD (Yy.Zd ha0) Zi.dflt i11))) (fun r13 her13 => ?_)
    refine YC (Zs (JY fun hg => (dt (by first | omega | (simp; omega) | (simp at *; omega)))) (Zs (JY fun hg => (dt (by first | omega | (simp; omega) | (simp at *; omega)))) XI)) ?_
    refine XQ (fun hb4 => ?_) (fun hb4 => ?_)
    · exact Xw
    · exact JR (by omega)
  · unfold M.VJ
    try simp only [Int.toNat_natCast]
    exact XZ (decide_eq_false (by omega)) rfl
noncomputable def S.VK (a0 : ZY) (i1 : Nat) (i9 : Nat) : Option (Unit ⊕ Int) :=
  ZS (Xp (S.VJ a0 i1 i9) (.inl ()) 0 i1) (fun y14 => Sum.elim (fun _ => none) (fun y16 => some (.inr y16)) y14)
theorem Zgr (a0 : ZY) (i1 : Nat) (ha0 : Yy a0) (hi1 : i1 < a0.Zd.length) (i0 : Nat) : ZZ (M.VK a0 (i1 : Int)) (i0 : Int) = some (Xp (S.VK a0 i1) (.inl ()) i0 (((a0.Zd.getD i1 default).Zc).length - i0)) := by
  have hM := Zm
  have hni1 : a0.Zd.length ≤ maxLen := (Yy.Zd ha0).1
  have hni9 : ((a0.Zd.getD i1 default).Zc).length ≤ maxLen := (Zi.Zc (LL.getD (Yy.Zd ha0) Zi.dflt i1)).1
  refine Z5 (n := ((a0.Zd.getD i1 default).Zc).length) (fun i9 hi9 => ?_) (fun m hm => ?_) i0
  · unfold M.VK S.VK
    try simp only [Int.toNat_natCast]
    refine YC (Zs (dt (by omega)) (Zs (dt (by omega)) XI))  ?_
    refine XY (dt (by omega)) ?_
    refine YC (Zs (dt (by omega)) (Zs (dt (by omega)) (Zs (dt (by omega)) (Zs (dt (by omega)) XI)))) ?_
    refine ZO (Zgq a0 i1 i9 ha0 hi1 hi9 0) (fun y14 hey14 => ?_)
    refine J4 (fun _ hl => ?_) (fun y16 hly16 => ?_)
    · exact JR (by omega)
    · exact Xw
  · unfold M.VK
    try simp only [Int.toNat_natCast]
    refine YC (Zs (dt (by omega)) (Zs (dt (by omega)) XI))  ?_
    exact XZ (decide_eq_false (by omega)) rfl
noncomputable def S.VL (a0 : ZY) (i1 : Nat) : Option (Unit ⊕ Int) :=
  ZS (S.Q3 (a0.Zd.getD i1 default)) (fun r3 => bif r3 != 0 then (some (.inr r3)) else (ZS (Xp (S.Wd a0 i1) (.inl ()) 0 i1) (fun y6 => Sum.elim (fun _ => ZS (Xp (S.VK a0 i1) (.inl ()) 0 (((a0.Zd.getD i1 default).Zc).length)) (fun y17 => Sum.elim (fun _ => none) (fun y19 => some (.inr y19)) y17)) (fun y8 => some (.inr y8)) y6)))
theorem Zgs (a0 : ZY) (ha0 : Yy a0) (i0 : Nat) : ZZ (M.VL a0) (i0 : Int) = some (Xp (S.VL a0) (.inl ()) i0 (a0.Zd.length - i0)) := by
  have hM := Zm
  have hni1 : a0.Zd.length ≤ maxLen := (Yy.Zd ha0).1
  refine Z5 (n := a0.Zd.length) (fun i1 hi1 => ?_) (fun m hm => ?_) i0
  · unfold M.VL S.VL
    try simp only [Int.toNat_natCast]
    refine XY (dt (by omega)) ?_
    refine ZO (Zec (a0.Zd.getD i1 default) (LL.getD (Yy.Zd ha0) Zi.dflt i1)) (fun r3 her3 => ?_)
    refine YC (Zs (dt (by omega)) (Zs (dt (by omega)) XI)) ?_
    refine XQ (fun hb2 => ?_) (fun hb2 => ?_)
    · exact Xw
    · refine ZO (Zgp a0 i1 ha0 hi1 0) (fun y6 hey6 => ?_)
      refine J4 (fun _ hl => ?_) (fun y8 hly8 => ?_)
      · refine ZO (Zgr a0 i1 ha0 hi1 0) (fun y17 hey17 => ?_)
        refine J4 (fun _ hl => ?_) (fun y19 hly19 => ?_)
        · exact JR (by omega)
        · exact Xw
      · exact Xw
  · unfold M.VL
    try simp only [Int.toNat_natCast]
    exact XZ (decide_eq_false (by omega)) rfl
noncomputable def S.Wp (a0 : ZY) : Int :=
  bif decide ((a0.Zd.length : Int) > 8) then 7 else (ZS (Xp (S.VL a0) (.inl ()) 0 a0.Zd.length) (fun y20 => Sum.elim (fun _ => 0) (fun y22 => y22) y20))
theorem Zjz (a0 : ZY) (ha0 : Yy a0) : M.Wp a0 = some (S.Wp a0) := by
  have hM := Zm
  unfold M.Wp S.Wp
  refine Jo (fun hb1 => ?_) (fun hb1 => ?_)
  · rfl
  · refine Z1 (Zgs a0 ha0 0) (fun y20 hey20 => ?_)
    refine Qw (fun _ hl => ?_) (fun y22 hly22 => ?_)
    · rfl
    · rfl
noncomputable def S.WE (a0 : ZL) (a1 : ZL) : Int :=
  bif (decide (a0.Zu < a1.Zu)) || ((a0.Zu == a1.Zu) && (decide (a0.ZJ < a1.ZJ))) then (-1) else (bif ((a0.Zu == a1.Zu) && ((a0.ZJ == a1.ZJ) && true)) then 0 else 1)
theorem ZhM (a0 : ZL) (a1 : ZL)  : M.WE a0 a1 = some (S.WE a0 a1) := by
  have hM := Zm
  unfold M.WE S.WE
  refine Jo (fun hb1 => ?_) (fun hb1 => ?_)
  · rfl
  · refine Jo (fun hb2 => ?_) (fun hb2 => ?_)
    · rfl
    · rfl
noncomputable def S.WF (a0 : List Int) (a1 : List Int) (i1 : Nat) : Option (Unit ⊕ Bool) :=
  bif (a0.getD i1 default) != (a1.getD i1 default) then (some (.inr false)) else none
theorem ZhN (a0 : List Int) (a1 : List Int) (ha0 : a0.length ≤ maxLen) (ha1 : a1.length ≤ maxLen) (hlen : a0.length = a1.length) (i0 : Nat) : ZZ (M.WF a0 a1) (i0 : Int) = some (Xp (S.WF a0 a1) (.inl ()) i0 (a0.length - i0)) := by
  have hM := Zm
  have hni1 : a0.length ≤ maxLen := ha0
  refine Z5 (n := a0.length) (fun i1 hi1 => ?_) (fun m hm => ?_) i0
  · unfold M.WF S.WF
    try simp only [Int.toNat_natCast]
    refine XY (dt (by omega)) ?_
    refine YC (Zs (dt (by omega)) (Zs (dt (by omega)) (Zs (dt (by omega)) (Zs (dt (by omega)) XI)))) ?_
    refine XQ (fun hb2 => ?_) (fun hb2 => ?_)
    · exact Xw
    · exact JR (by omega)
  · unfold M.WF
    try simp only [Int.toNat_natCast]
    exact XZ (decide_eq_false (by omega)) rfl
noncomputable def S.Gb (a0 : List Int) (a1 : List Int) : Bool :=
  bif (a0.length : Int) != (a1.length : Int) then false else (ZS (Xp (S.WF a0 a1) (.inl ()) 0 a0.length) (fun y3 => Sum.elim (fun _ => true) (fun y5 => y5) y3))
theorem ZkD (a0 : List Int) (a1 : List Int) (ha0 : a0.length ≤ maxLen) (ha1 : a1.length ≤ maxLen) : M.Gb a0 a1 = some (S.Gb a0 a1) := by
  have hM := Zm
  unfold M.Gb S.Gb
  refine Jo (fun hb1 => ?_) (fun hb1 => ?_)
  · rfl
  · refine Z1 (ZhN a0 a1 ha0 ha1 (by simp at *; omega) 0) (fun y3 hey3 => ?_)
    refine Qw (fun _ hl => ?_) (fun y5 hly5 => ?_)
    · rfl
    · rfl
noncomputable def S.WG (a0 : List V9) (a1 : List V9) (i1 : Nat) : Option (Unit ⊕ Bool) :=
  bif !((((a0.getD i1 default).KO) == ((a1.getD i1 default).KO)) && ((((a0.getD i1 default).QI) == ((a1.getD i1 default).QI)) && true)) then (some (.inr false)) else none
theorem ZhO (a0 : List V9) (a1 : List V9) (ha0 : a0.length ≤ maxLen) (ha1 : a1.length ≤ maxLen) (hlen : a0.length = a1.length) (i0 : Nat) : ZZ (M.WG a0 a1) (i0 : Int) = some (Xp (S.WG a0 a1) (.inl ()) i0 (a0.length - i0)) := by
  have hM := Zm
  have hni1 : a0.length ≤ maxLen := ha0
  refine Z5 (n := a0.length) (fun i1 hi1 => ?_) (fun m hm => ?_) i0
  · unfold M.WG S.WG
    try simp only [Int.toNat_natCast]
    refine XY (dt (by omega)) ?_
    refine YC (Zs (dt (by omega)) (Zs (dt (by omega)) (Zs (dt (by omega)) (Zs (dt (by omega)) XI)))) ?_
    refine XQ (fun hb2 => ?_) (fun hb2 => ?_)
    · exact Xw
    · exact JR (by omega)
  · unfold M.WG
    try simp only [Int.toNat_natCast]
    exact XZ (decide_eq_false (by omega)) rfl
noncomputable def S.Gc (a0 : List V9) (a1 : List V9) : Bool :=
  bif (a0.length : Int) != (a1.length : Int) then false else (ZS (Xp (S.WG a0 a1) (.inl ()) 0 a0.length) (fun y3 => Sum.elim (fun _ => true) (fun y5 => y5) y3))
theorem ZkE (a0 : List V9) (a1 : List V9) (ha0 : a0.length ≤ maxLen) (ha1 : a1.length ≤ maxLen) : M.Gc a0 a1 = some (S.Gc a0 a1) := by
  have hM := Zm
  unfold M.Gc S.Gc
  refine Jo (fun hb1 => ?_) (fun hb1 => ?_)
  · rfl
  · refine Z1 (ZhO a0 a1 ha0 ha1 (by simp at *; omega) 0) (fun y3 hey3 => ?_)
    refine Qw (fun _ hl => ?_) (fun y5 hly5 => ?_)
    · rfl
    · rfl
end Nv
