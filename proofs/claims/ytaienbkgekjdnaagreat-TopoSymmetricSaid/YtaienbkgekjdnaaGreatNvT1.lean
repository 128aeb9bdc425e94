/- Total forms of the mirrors. -/
import Derived.Test.YtaienbkgekjdnaaGreatNvD1
import Derived.Test.YtaienbkgekjdnaaGreatNvLibB
import Derived.Test.YtaienbkgekjdnaaGreatNvQ0
set_option maxRecDepth 100000
namespace Nv
open Go
def Ye (x : Zl) : Prop := (x.Xl.size ≤ maxLen) ∧ (x.VG.size ≤ maxLen) ∧ (x.Y7.size ≤ maxLen)
theorem Ye.Xl {x : Zl} (h : Ye x) : x.Xl.size ≤ maxLen := h.1
theorem Ye.VG {x : Zl} (h : Ye x) : x.VG.size ≤ maxLen := h.2.1
theorem Ye.Y7 {x : Zl} (h : Ye x) : x.Y7.size ≤ maxLen := h.2.2
theorem Ye.dflt : Ye default := ⟨(Nat.zero_le _), (Nat.zero_le _), (Nat.zero_le _)⟩
def Yz (x : Z2) : Prop := (x.Xl.size ≤ maxLen) ∧ (x.YG.length ≤ maxLen)
theorem Yz.Xl {x : Z2} (h : Yz x) : x.Xl.size ≤ maxLen := h.1
theorem Yz.YG {x : Z2} (h : Yz x) : x.YG.length ≤ maxLen := h.2
theorem Yz.dflt : Yz default := ⟨(Nat.zero_le _), (Nat.zero_le _)⟩
def Ug (x : R6) : Prop := (x.JZ.size ≤ maxLen)
theorem Ug.JZ {x : R6} (h : Ug x) : x.JZ.size ≤ maxLen := h
theorem Ug.dflt : Ug default := (Nat.zero_le _)
def Q8 (x : X6) : Prop := (x.Xl.size ≤ maxLen) ∧ (LL Ug x.XZ)
theorem Q8.Xl {x : X6} (h : Q8 x) : x.Xl.size ≤ maxLen := h.1
theorem Q8.XZ {x : X6} (h : Q8 x) : LL Ug x.XZ := h.2
theorem Q8.dflt : Q8 default := ⟨(Nat.zero_le _), ⟨Nat.zero_le _, fun _ h => absurd h List.not_mem_nil⟩⟩
def Ub (x : WV) : Prop := (x.Xl.size ≤ maxLen) ∧ (x.YG.length ≤ maxLen)
theorem Ub.Xl {x : WV} (h : Ub x) : x.Xl.size ≤ maxLen := h.1
theorem Ub.YG {x : WV} (h : Ub x) : x.YG.length ≤ maxLen := h.2
theorem Ub.dflt : Ub default := ⟨(Nat.zero_le _), (Nat.zero_le _)⟩
def J9 (x : YR) : Prop := (x.JZ.size ≤ maxLen)
theorem J9.JZ {x : YR} (h : J9 x) : x.JZ.size ≤ maxLen := h
theorem J9.dflt : J9 default := (Nat.zero_le _)
def Va (x : YS) : Prop := (x.XY.size ≤ maxLen)
theorem Va.XY {x : YS} (h : Va x) : x.XY.size ≤ maxLen := h
theorem Va.dflt : Va default := (Nat.zero_le _)
def Vb (x : YJ) : Prop := (x.Zcj.size ≤ maxLen)
theorem Vb.Zcj {x : YJ} (h : Vb x) : x.Zcj.size ≤ maxLen := h
theorem Vb.dflt : Vb default := (Nat.zero_le _)
def Jo (x : Vf) : Prop := (x.Z6.length ≤ maxLen) ∧ (LL Vb x.Zr)
theorem Jo.Z6 {x : Vf} (h : Jo x) : x.Z6.length ≤ maxLen := h.1
theorem Jo.Zr {x : Vf} (h : Jo x) : LL Vb x.Zr := h.2
theorem Jo.dflt : Jo default := ⟨(Nat.zero_le _), ⟨Nat.zero_le _, fun _ h => absurd h List.not_mem_nil⟩⟩
def X5 (x : YB) : Prop := (x.VG.size ≤ maxLen) ∧ (x.Y7.size ≤ maxLen) ∧ (LL Vb x.Zr)
theorem X5.VG {x : YB} (h : X5 x) : x.VG.size ≤ maxLen := h.1
theorem X5.Y7 {x : YB} (h : X5 x) : x.Y7.size ≤ maxLen := h.2.1
theorem X5.Zr {x : YB} (h : X5 x) : LL Vb x.Zr := h.2.2
theorem X5.dflt : X5 default := ⟨(Nat.zero_le _), (Nat.zero_le _), ⟨Nat.zero_le _, fun _ h => absurd h List.not_mem_nil⟩⟩
def JT (x : Jt) : Prop := (x.VG.size ≤ maxLen) ∧ (x.Y7.size ≤ maxLen)
theorem JT.VG {x : Jt} (h : JT x) : x.VG.size ≤ maxLen := h.1
theorem JT.Y7 {x : Jt} (h : JT x) : x.Y7.size ≤ maxLen := h.2
theorem JT.dflt : JT default := ⟨(Nat.zero_le _), (Nat.zero_le _)⟩
def Xk (x : Xw) : Prop := (LL JT x.Zm) ∧ (x.Z0.length ≤ maxLen) ∧ (x.ZC.length ≤ maxLen) ∧ (x.Zt.length ≤ maxLen) ∧ (LL Vb x.Zr)
theorem Xk.Zm {x : Xw} (h : Xk x) : LL JT x.Zm := h.1
theorem Xk.Z0 {x : Xw} (h : Xk x) : x.Z0.length ≤ maxLen := h.2.1
theorem Xk.ZC {x : Xw} (h : Xk x) : x.ZC.length ≤ maxLen := h.2.2.1
theorem Xk.Zt {x : Xw} (h : Xk x) : x.Zt.length ≤ maxLen := h.2.2.2.1
theorem Xk.Zr {x : Xw} (h : Xk x) : LL Vb x.Zr := h.2.2.2.2
theorem Xk.dflt : Xk default := ⟨⟨Nat.zero_le _, fun _ h => absurd h List.not_mem_nil⟩, (Nat.zero_le _), (Nat.zero_le _), (Nat.zero_le _), ⟨Nat.zero_le _, fun _ h => absurd h List.not_mem_nil⟩⟩
def Zn (x : Zf) : Prop := (x.Xl.size ≤ maxLen) ∧ (LL Ye x.Zc) ∧ (LL Yz x.Yt) ∧ (LL Q8 x.XC) ∧ (LL Ub x.YC) ∧ (LL J9 x.Xd) ∧ (LL Va x.Zq) ∧ (Jo x.Yf) ∧ (X5 x.Ym) ∧ (Xk x.Xr)
theorem Zn.Xl {x : Zf} (h : Zn x) : x.Xl.size ≤ maxLen := h.1
theorem Zn.Zc {x : Zf} (h : Zn x) : LL Ye x.Zc := h.2.1
theorem Zn.Yt {x : Zf} (h : Zn x) : LL Yz x.Yt := h.2.2.1
theorem Zn.XC {x : Zf} (h : Zn x) : LL Q8 x.XC := h.2.2.2.1
theorem Zn.YC {x : Zf} (h : Zn x) : LL Ub x.YC := h.2.2.2.2.1
theorem Zn.Xd {x : Zf} (h : Zn x) : LL J9 x.Xd := h.2.2.2.2.2.1
theorem Zn.Zq {x : Zf} (h : Zn x) : LL Va x.Zq := h.2.2.2.2.2.2.1
theorem Zn.Yf {x : Zf} (h : Zn x) : Jo x.Yf := h.2.2.2.2.2.2.2.1
theorem Zn.Ym {x : Zf} (h : Zn x) : X5 x.Ym := h.2.2.2.2.2.2.2.2.1
theorem Zn.Xr {x : Zf} (h : Zn x) : Xk x.Xr := h.2.2.2.2.2.2.2.2.2
theorem Zn.dflt : Zn default := ⟨(Nat.zero_le _), ⟨Nat.zero_le _, fun _ h => absurd h List.not_mem_nil⟩, ⟨Nat.zero_le _, fun _ h => absurd h List.not_mem_nil⟩, ⟨Nat.zero_le _, fun _ h => absurd h List.not_mem_nil⟩, ⟨Nat.zero_le _, fun _ h => absurd h List.not_mem_nil⟩, ⟨Nat.zero_le _, fun _ h => absurd h List.not_mem_nil⟩, ⟨Nat.zero_le _, fun _ h => absurd h List.not_mem_nil⟩, Jo.dflt, X5.dflt, Xk.dflt⟩
def Yv (x : Zw) : Prop := (LL Zn x.Zd)
theorem Yv.Zd {x : Zw} (h : Yv x) : LL Zn x.Zd := h
def Uv (x : Zg) : Prop := (x.ZZ.length ≤ maxLen)
theorem Uv.ZZ {x : Zg} (h : Uv x) : x.ZZ.length ≤ maxLen := h
theorem Uv.dflt : Uv default := (Nat.zero_le _)
def Wb (x : Qs) : Prop := (LL Uv x.Z1) ∧ (x.QA.length ≤ maxLen)
theorem Wb.Z1 {x : Qs} (h : Wb x) : LL Uv x.Z1 := h.1
theorem Wb.QA {x : Qs} (h : Wb x) : x.QA.length ≤ maxLen := h.2
def W1 (x : X3) : Prop := (Yv x.Qq) ∧ (Wb x.XW) ∧ (x.V0.length ≤ maxLen)
theorem W1.XW {x : X3} (h : W1 x) : Wb x.XW := h.2.1
theorem W1.V0 {x : X3} (h : W1 x) : x.V0.length ≤ maxLen := h.2.2
noncomputable def S.Vh (a0 : Zf) (i1 : Nat) : Option (Unit ⊕ Bool) :=
  bif decide ((((a0.Yt.getD i1 default).YG).length : Int) > 20) then (some (.inr false)) else none
theorem Zc5 (a0 : Zf) (ha0 : Zn a0) (i0 : Nat) : loopM (M.Vh a0) (i0 : Int) = some (runN (S.Vh a0) (.inl ()) i0 (a0.Yt.length - i0)) := by
  have hM := Zv
  have hni1 : a0.Yt.length ≤ maxLen := (Zn.Yt ha0).1
  refine Xz (n := a0.Yt.length) (fun i1 hi1 => ?_) (fun m hm => ?_) i0
  · unfold M.Vh S.Vh
    try simp only [Int.toNat_natCast]
    refine YE (dt (by omega)) ?_
    refine Jd (ZO (dt (by omega)) (ZO (dt (by omega)) Yi)) ?_
    refine Yg (fun hb2 => ?_) (fun hb2 => ?_)
    · exact X2
    · exact VP (by omega)
  · unfold M.Vh
    try simp only [Int.toNat_natCast]
    exact YF (decide_eq_false (by omega)) rfl
noncomputable def S.Vi (a0 : Zf) (i6 : Nat) : Option (Unit ⊕ Bool) :=
  bif decide ((((a0.XC.getD i6 default).XZ).length : Int) > 12) then (some (.inr false)) else none
theorem Zc6 (a0 : Zf) (ha0 : Zn a0) (i0 : Nat) : loopM (M.Vi a0) (i0 : Int) = some (runN (S.Vi a0) (.inl ()) i0 (a0.XC.length - i0)) := by
  have hM := Zv
  have hni6 : a0.XC.length ≤ maxLen := (Zn.XC ha0).1
  refine Xz (n := a0.XC.length) (fun i6 hi6 => ?_) (fun m hm => ?_) i0
  · unfold M.Vi S.Vi
    try simp only [Int.toNat_natCast]
    refine YE (dt (by omega)) ?_
    refine Jd (ZO (dt (by omega)) (ZO (dt (by omega)) Yi)) ?_
    refine Yg (fun hb3 => ?_) (fun hb3 => ?_)
    · exact X2
    · exact VP (by omega)
  · unfold M.Vi
    try simp only [Int.toNat_natCast]
    exact YF (decide_eq_false (by omega)) rfl
noncomputable def S.Vj (a0 : Zf) (i11 : Nat) : Option (Unit ⊕ Bool) :=
  bif decide ((((a0.YC.getD i11 default).YG).length : Int) > 20) then (some (.inr false)) else none
theorem Zc7 (a0 : Zf) (ha0 : Zn a0) (i0 : Nat) : loopM (M.Vj a0) (i0 : Int) = some (runN (S.Vj a0) (.inl ()) i0 (a0.YC.length - i0)) := by
  have hM := Zv
  have hni11 : a0.YC.length ≤ maxLen := (Zn.YC ha0).1
  refine Xz (n := a0.YC.length) (fun i11 hi11 => ?_) (fun m hm => ?_) i0
  · unfold M.Vj S.Vj
    try simp only [Int.toNat_natCast]
    refine YE (dt (by omega)) ?_
    refine Jd (ZO (dt (by omega)) (ZO (dt (by omega)) Yi)) ?_
    refine Yg (fun hb4 => ?_) (fun hb4 => ?_)
    · exact X2
    · exact VP (by omega)
  · unfold M.Vj
    try simp only [Int.toNat_natCast]
    exact YF (decide_eq_false (by omega)) rfl
noncomputable def S.Vg (a0 : Zf) : Bool :=
  bif (((((((((((((decide ((a0.Zc.length : Int) > 12)) || (decide ((a0.Yt.length : Int) > 12))) || (decide ((a0.XC.length : Int) > 12))) || (decide ((a0.YC.length : Int) > 12))) || (decide ((a0.Xd.length : Int) > 12))) || (decide ((a0.Zq.length : Int) > 20))) || (decide ((a0.Yf.Z6.length : Int) > 8))) || (decide ((a0.Yf.Zr.length : Int) > 8))) || (decide ((a0.Ym.Zr.length : Int) > 8))) || (decide ((a0.Xr.Zr.length : Int) > 8))) || (decide ((a0.Xr.Zm.length : Int) > 12))) || (decide ((a0.Xr.Z0.length : Int) > 12))) || (decide ((a0.Xr.ZC.length : Int) > 12))) || (decide ((a0.Xr.Zt.length : Int) > 12)) then false else (letS (runN (S.Vh a0) (.inl ()) 0 a0.Yt.length) (fun y3 => Sum.elim (fun _ => letS (runN (S.Vi a0) (.inl ()) 0 a0.XC.length) (fun y8 => Sum.elim (fun _ => letS (runN (S.Vj a0) (.inl ()) 0 a0.YC.length) (fun y13 => Sum.elim (fun _ => true) (fun y15 => y15) y13)) (fun y10 => y10) y8)) (fun y5 => y5) y3))
theorem Zfx (a0 : Zf) (ha0 : Zn a0) : M.Vg a0 = some (S.Vg a0) := by
  have hM := Zv
  unfold M.Vg S.Vg
  refine WU (fun hb1 => ?_) (fun hb1 => ?_)
  · rfl
  · refine XR (Zc5 a0 ha0 0) (fun y3 hey3 => ?_)
    refine JY (fun _ hl => ?_) (fun y5 hly5 => ?_)
    · refine XR (Zc6 a0 ha0 0) (fun y8 hey8 => ?_)
      refine JY (fun _ hl => ?_) (fun y10 hly10 => ?_)
      · refine XR (Zc7 a0 ha0 0) (fun y13 hey13 => ?_)
        refine JY (fun _ hl => ?_) (fun y15 hly15 => ?_)
        · rfl
        · rfl
      · rfl
    · rfl
noncomputable def S.Qj (a0 : Zw) (i1 : Nat) : Option (Unit ⊕ Bool) :=
  letS (S.Vg (a0.Zd.getD i1 default)) (fun r3 => bif !r3 then (some (.inr false)) else none)
theorem Zcy (a0 : Zw) (ha0 : Yv a0) (i0 : Nat) : loopM (M.Qj a0) (i0 : Int) = some (runN (S.Qj a0) (.inl ()) i0 (a0.Zd.length - i0)) := by
  have hM := Zv
  have hni1 : a0.Zd.length ≤ maxLen := (Yv.Zd ha0).1
  refine Xz (n := a0.Zd.length) (fun i1 hi1 => ?_) (fun m hm => ?_) i0
  · unfold M.Qj S.Qj
    try simp only [Int.toNat_natCast]
    refine YE (dt (by omega)) ?_
    refine XE (Zfx (a0.Zd.getD i1 default) (LL.getD (Yv.Zd ha0) Zn.dflt i1)) (fun r3 her3 => ?_)
    refine Jd (ZO (dt (by omega)) (ZO (dt (by omega)) Yi)) ?_
    refine Yg (fun hb2 => ?_) (fun hb2 => ?_)
    · exact X2
    · exact VP (by omega)
  · unfold M.Qj
    try simp only [Int.toNat_natCast]
    exact YF (decide_eq_false (by omega)) rfl
noncomputable def S.JP (a0 : Zw) : Bool :=
  bif decide ((a0.Zd.length : Int) > 9) then false else (letS (runN (S.Qj a0) (.inl ()) 0 a0.Zd.length) (fun y4 => Sum.elim (fun _ => true) (fun y6 => y6) y4))
theorem Zey (a0 : Zw) (ha0 : Yv a0) : M.JP a0 = some (S.JP a0) := by
  have hM := Zv
  unfold M.JP S.JP
  refine WU (fun hb1 => ?_) (fun hb1 => ?_)
  · rfl
  · refine XR (Zcy a0 ha0 0) (fun y4 hey4 => ?_)
    refine JY (fun _ hl => ?_) (fun y6 hly6 => ?_)
    · rfl
    · rfl
noncomputable def S.Vr (a0 : Int) : Bool :=
  ((decide (a0 ≥ 97)) && (decide (a0 ≤ 122))) || ((decide (a0 ≥ 65)) && (decide (a0 ≤ 90)))
theorem ZaD (a0 : Int)  : M.Vr a0 = some (S.Vr a0) := by
  have hM := Zv
  unfold M.Vr S.Vr
  rfl
noncomputable def S.VH (a0 : ByteArray) (i2 : Nat) : Option (Unit ⊕ Bool) :=
  letS (S.Vr (byteAt a0 (i2 : Int))) (fun r4 => bif (((((!r4) && (!((decide ((byteAt a0 (i2 : Int)) ≥ 48)) && (decide ((byteAt a0 (i2 : Int)) ≤ 57))))) && ((byteAt a0 (i2 : Int)) != 45)) && ((byteAt a0 (i2 : Int)) != 95)) && ((byteAt a0 (i2 : Int)) != 47)) && ((byteAt a0 (i2 : Int)) != 46) then (some (.inr false)) else none)
theorem Zee (a0 : ByteArray) (ha0 : a0.size ≤ maxLen) (i0 : Nat) : loopM (M.VH a0) (i0 : Int) = some (runN (S.VH a0) (.inl ()) i0 (a0.size - i0)) := by
  have hM := Zv
  have hni2 : a0.size ≤ maxLen := ha0
  refine Xz (n := a0.size) (fun i2 hi2 => ?_) (fun m hm => ?_) i0
  · unfold M.VH S.VH
    try simp only [Int.toNat_natCast]
    refine YE (dt (by omega)) ?_
    refine Jd (ZO (dt (by omega)) (ZO (dt (by omega)) Yi)) ?_
    refine XE (ZaD (byteAt a0 (i2 : Int))) (fun r4 her4 => ?_)
    refine Yg (fun hb2 => ?_) (fun hb2 => ?_)
    · exact X2
    · exact VP (by omega)
  · unfold M.VH
    try simp only [Int.toNat_natCast]
    exact YF (decide_eq_false (by omega)) rfl
noncomputable def S.QX (a0 : ByteArray) : Bool :=
  letS (bif (!((decide ((a0.size : Int) < 1)) || (decide ((a0.size : Int) > 15)))) then S.Vr (byteAt a0 0) else default) (fun r1 => bif ((decide ((a0.size : Int) < 1)) || (decide ((a0.size : Int) > 15))) || (!r1) then false else (letS (runN (S.VH a0) (.inl ()) 1 (a0.size - 1)) (fun y5 => Sum.elim (fun _ => true) (fun y7 => y7) y5)))
theorem U5 (a0 : ByteArray) (ha0 : a0.size ≤ maxLen) : M.QX a0 = some (S.QX a0) := by
  have hM := Zv
  unfold M.QX S.QX
  refine XR (Wd fun hg => (ZaD (byteAt a0 0))) (fun r1 her1 => ?_)
  refine Jd (ZO (Y9 fun hg => (dt (by first | omega | (simp; omega) | (simp at *; omega)))) (ZO (Y9 fun hg => (dt (by first | omega | (simp; omega) | (simp at *; omega)))) Yi)) ?_
  refine WU (fun hb1 => ?_) (fun hb1 => ?_)
  · rfl
  · refine XR (Zee a0 ha0 1) (fun y5 hey5 => ?_)
    refine JY (fun _ hl => ?_) (fun y7 hly7 => ?_)
    · rfl
    · rfl
noncomputable def S.ZT (a0 : Int) (a1 : Int) (a2 : Int) : Bool :=
  (decide (a1 ≤ a0)) && (decide (a0 ≤ a2))
theorem XT (a0 : Int) (a1 : Int) (a2 : Int)  : M.ZT a0 a1 a2 = some (S.ZT a0 a1 a2) := by
  have hM := Zv
  unfold M.ZT S.ZT
  rfl
noncomputable def S.Qt (a0 : Int) (a1 : Int) : ZX :=
  letS (S.Jf (if 0 > (if 32 < a1 then 32 else a1) then 0 else (if 32 < a1 then 32 else a1))) (fun r1 => (⟨bitD .and .u32 a0 r1, if 0 > (if 32 < a1 then 32 else a1) then 0 else (if 32 < a1 then 32 else a1)⟩ : ZX))
theorem Gw (a0 : Int) (a1 : Int)  : M.Qt a0 a1 = some (S.Qt a0 a1) := by
  have hM := Zv
  unfold M.Qt S.Qt
  refine XR (RK (if 0 > (if 32 < a1 then 32 else a1) then 0 else (if 32 < a1 then 32 else a1))) (fun r1 her1 => ?_)
  rfl
noncomputable def S.JX (a0 : ZX) (a1 : Int) : Bool :=
  letS (S.Jf a0.ZR) (fun r1 => (bitD .and .u32 a1 r1) == a0.Zs)
theorem Zc8 (a0 : ZX) (a1 : Int)  : M.JX a0 a1 = some (S.JX a0 a1) := by
  have hM := Zv
  unfold M.JX S.JX
  refine XR (RK a0.ZR) (fun r1 her1 => ?_)
  rfl
noncomputable def S.JQ (a0 : ZX) (a1 : ZX) : Bool :=
  letS (bif (decide (a0.ZR ≤ a1.ZR)) then S.JX a0 a1.Zs else default) (fun r1 => (decide (a0.ZR ≤ a1.ZR)) && r1)
theorem ZaE (a0 : ZX) (a1 : ZX)  : M.JQ a0 a1 = some (S.JQ a0 a1) := by
  have hM := Zv
  unfold M.JQ S.JQ
  refine XR (Wd fun hg => (Zc8 a0 a1.Zs)) (fun r1 her1 => ?_)
  rfl
noncomputable def S.Qm (a0 : ZX) (a1 : ZX) : Bool :=
  letS (S.JQ a0 a1) (fun r1 => letS (bif (!r1) then S.JQ a1 a0 else default) (fun r2 => r1 || r2))
theorem KP (a0 : ZX) (a1 : ZX)  : M.Qm a0 a1 = some (S.Qm a0 a1) := by
  have hM := Zv
  unfold M.Qm S.Qm
  refine XR (ZaE a0 a1) (fun r1 her1 => ?_)
  refine XR (Wd fun hg => (ZaE a1 a0)) (fun r2 her2 => ?_)
  rfl
noncomputable def S.YH (a0 : List Zl) (i1 : Nat) (i4 : Nat) : Option (Unit ⊕ Int) :=
  bif strEq ((a0.getD i4 default).Xl) ((a0.getD i1 default).Xl) then (some (.inr 4)) else none
theorem RL (a0 : List Zl) (i1 : Nat) (ha0 : LL Ye a0) (hi1 : i1 < a0.length) (i0 : Nat) : loopM (M.YH a0 (i1 : Int)) (i0 : Int) = some (runN (S.YH a0 i1) (.inl ()) i0 (i1 - i0)) := by
  have hM := Zv
  have hni1 : a0.length ≤ maxLen := ha0.1
  have hni4 : i1 ≤ maxLen := (by omega)
  refine Xz (n := i1) (fun i4 hi4 => ?_) (fun m hm => ?_) i0
  · unfold M.YH S.YH
    try simp only [Int.toNat_natCast]
    refine YE (dt (by omega)) ?_
    refine Jd (ZO (dt (by omega)) (ZO (dt (by omega)) Yi)) ?_
    refine Yg (fun hb3 => ?_) (fun hb3 => ?_)
    · exact X2
    · exact VP (by omega)
  · unfold M.YH
    try simp only [Int.toNat_natCast]
    exact YF (decide_eq_false (by omega)) rfl
noncomputable def S.Yn (a0 : List Zl) (i1 : Nat) (i14 : Nat) : Option (Unit ⊕ Int) :=
  letS (bif ((((a0.getD i1 default).ZR) != 0) && (((a0.getD i14 default).ZR) != 0)) then S.Qt ((a0.getD i1 default).Zs) ((a0.getD i1 default).ZR) else default) (fun r16 => letS (bif ((((a0.getD i1 default).ZR) != 0) && (((a0.getD i14 default).ZR) != 0)) then S.Qt ((a0.getD i14 default).Zs) ((a0.getD i14 default).ZR) else default) (fun r17 => letS (bif ((((a0.getD i1 default).ZR) != 0) && (((a0.getD i14 default).ZR) != 0)) then S.Qm r16 r17 else default) (fun r18 => bif ((((a0.getD i1 default).ZR) != 0) && (((a0.getD i14 default).ZR) != 0)) && r18 then (some (.inr 6)) else none)))
theorem RM (a0 : List Zl) (i1 : Nat) (ha0 : LL Ye a0) (hi1 : i1 < a0.length) (i0 : Nat) : loopM (M.Yn a0 (i1 : Int)) (i0 : Int) = some (runN (S.Yn a0 i1) (.inl ()) i0 (i1 - i0)) := by
  have hM := Zv
  have hni1 : a0.length ≤ maxLen := ha0.1
  have hni14 : i1 ≤ maxLen := (by omega)
  refine Xz (n := i1) (fun i14 hi14 => ?_) (fun m hm => ?_) i0
  · unfold M.Yn S.Yn
    try simp only [Int.toNat_natCast]
    refine YE (dt (by omega)) ?_
    refine XE (Wd fun hg => (Gw ((a0.getD i1 default).Zs) ((a0.getD i1 default).ZR))) (fun r16 her16 => ?_)
    refine XE (Wd fun hg => (Gw ((a0.getD i14 default).Zs) ((a0.getD i14 default).ZR))) (fun r17 her17 => ?_)
    refine XE (Wd fun hg => (KP r16 r17)) (fun r18 her18 => ?_)
    refine Jd (ZO (Y9 fun hg => (dt (by first | omega | (simp; omega) | (simp at *; omega)))) (ZO (Y9 fun hg => (dt (by first | omega | (simp; omega) | (simp at *; omega)))) (ZO (Y9 fun hg => (dt (by first | omega | (simp; omega) | (simp at *; omega)))) (ZO (Y9 fun hg => (dt (by first | omega | (simp; omega) | (simp at *; omega)))) (ZO (Y9 fun hg => (dt (by first | omega | (simp; omega) | (simp at *; omega)))) (ZO (Y9 fun hg => (dt (by first | omega | (simp; omega) | (simp at *; omega)))) Yi)))))) ?_
    refine Yg (fun hb7 => ?_) (fun hb7 => ?_)
    · exact X2
    · exact VP (by omega)
  · unfold M.Yn
    try simp only [Int.toNat_natCast]
    exact YF (decide_eq_false (by omega)) rfl
noncomputable def S.Yo (a0 : List Zl) (i1 : Nat) : Option (Unit ⊕ Int) :=
  letS (S.QX ((a0.getD i1 default).Xl)) (fun r3 => bif !r3 then (some (.inr 3)) else (letS (runN (S.YH a0 i1) (.inl ()) 0 i1) (fun y6 => Sum.elim (fun _ => letS (S.ZT ((a0.getD i1 default).ZR) 0 32) (fun r9 => letS (bif (!(!r9)) then S.ZT ((a0.getD i1 default).XB) 0 4094 else default) (fun r10 => letS (bif (!((!r9) || (!r10))) then S.ZT ((a0.getD i1 default).Rl) 0 2 else default) (fun r11 => bif ((!r9) || (!r10)) || (!r11) then (some (.inr 1)) else (bif ((((a0.getD i1 default).ZR) == 0) && (((((((((a0.getD i1 default).Zs) != 0) || (((a0.getD i1 default).XB) != 0)) || (((a0.getD i1 default).Rl) != 0)) || ((a0.getD i1 default).Yf)) || ((a0.getD i1 default).Ym)) || (!strEq ((a0.getD i1 default).VG) (⟨#[]⟩ : ByteArray))) || (!strEq ((a0.getD i1 default).Y7) (⟨#[]⟩ : ByteArray)))) || ((((a0.getD i1 default).ZR) != 0) && (((a0.getD i1 default).Zs) == 0)) then (some (.inr 1)) else (letS (bif ((a0.getD i1 default).Yf) then S.ZT ((a0.getD i1 default).VQ) 0 255 else default) (fun r12 => letS (bif (((a0.getD i1 default).Yf) && !(!r12)) then S.ZT ((a0.getD i1 default).Zbz) 1 65535 else default) (fun r13 => bif (((a0.getD i1 default).Yf) && ((!r12) || (!r13))) || ((!((a0.getD i1 default).Yf)) && ((((a0.getD i1 default).VQ) != 0) || (((a0.getD i1 default).Zbz) != 0))) then (some (.inr 1)) else (letS (runN (S.Yn a0 i1) (.inl ()) 0 i1) (fun y19 => Sum.elim (fun _ => none) (fun y21 => some (.inr y21)) y19)))))))))) (fun y8 => some (.inr y8)) y6)))
theorem RN (a0 : List Zl) (ha0 : LL Ye a0) (i0 : Nat) : loopM (M.Yo a0) (i0 : Int) = some (runN (S.Yo a0) (.inl ()) i0 (a0.length - i0)) := by
  have hM := Zv
  have hni1 : a0.length ≤ maxLen := ha0.1
  refine Xz (n := a0.length) (fun i1 hi1 => ?_) (fun m hm => ?_) i0
  · unfold M.Yo S.Yo
    try simp only [Int.toNat_natCast]
    refine YE (dt (by omega)) ?_
    refine Jd (ZO (dt (by omega)) (ZO (dt (by omega)) Yi)) ?_
    refine XE (U5 ((a0.getD i1 default).Xl) (Ye.Xl (LL.getD ha0 Ye.dflt i1))) (fun r3 her3 => ?_)
    refine Yg (fun hb2 => ?_) (fun hb2 => ?_)
    · exact X2
    · refine XE (RL a0 i1 ha0 hi1 0) (fun y6 hey6 => ?_)
      refine VZ (fun _ hl => ?_) (fun y8 hly8 => ?_)
      · refine XE (XT ((a0.getD i1 default).ZR) 0 32) (fun r9 her9 => ?_)
        refine XE (Wd fun hg => (XT ((a0.getD i1 default).XB) 0 4094)) (fun r10 her10 => ?_)
        refine XE (Wd fun hg => (XT ((a0.getD i1 default).Rl) 0 2)) (fun r11 her11 => ?_)
        refine Yg (fun hb4 => ?_) (fun hb4 => ?_)
        · exact X2
        · refine Yg (fun hb5 => ?_) (fun hb5 => ?_)
          · exact X2
          · refine XE (Wd fun hg => (XT ((a0.getD i1 default).VQ) 0 255)) (fun r12 her12 => ?_)
            refine XE (Wd fun hg => (XT ((a0.getD i1 default).Zbz) 1 65535)) (fun r13 her13 => ?_)
            refine Yg (fun hb6 => ?_) (fun hb6 => ?_)
            · exact X2
            · refine XE (RM a0 i1 ha0 hi1 0) (fun y19 hey19 => ?_)
              refine VZ (fun _ hl => ?_) (fun y21 hly21 => ?_)
              · exact VP (by omega)
              · exact X2
      · exact X2
  · unfold M.Yo
    try simp only [Int.toNat_natCast]
    exact YF (decide_eq_false (by omega)) rfl
noncomputable def S.Yb (a0 : List Zl) : Int :=
  bif decide ((a0.length : Int) > 8) then 7 else (letS (runN (S.Yo a0) (.inl ()) 0 a0.length) (fun y22 => Sum.elim (fun _ => 0) (fun y24 => y24) y22))
theorem ZbZ (a0 : List Zl) (ha0 : LL Ye a0) : M.Yb a0 = some (S.Yb a0) := by
  have hM := Zv
  unfold M.Yb S.Yb
  refine WU (fun hb1 => ?_) (fun hb1 => ?_)
  · rfl
  · refine XR (RN a0 ha0 0) (fun y22 hey22 => ?_)
    refine JY (fun _ hl => ?_) (fun y24 hly24 => ?_)
    · rfl
    · rfl
noncomputable def S.Y8 (a0 : ZX) : Bool :=
  letS (bif ((decide (a0.ZR ≥ 0)) && (decide (a0.ZR ≤ 32))) then S.Jf a0.ZR else default) (fun r1 => ((decide (a0.ZR ≥ 0)) && (decide (a0.ZR ≤ 32))) && ((bitD .andNot .u32 a0.Zs r1) == 0))
theorem WQ (a0 : ZX)  : M.Y8 a0 = some (S.Y8 a0) := by
  have hM := Zv
  unfold M.Y8 S.Y8
  refine XR (Wd fun hg => (RK a0.ZR)) (fun r1 her1 => ?_)
  rfl
noncomputable def S.YT (a0 : W6) : Bool :=
  letS (S.Y8 a0.Zo) (fun r1 => ((r1 && (decide (a0.Zo.ZR ≤ a0.Zh2))) && (decide (a0.Zh2 ≤ a0.Zh3))) && (decide (a0.Zh3 ≤ 32)))
theorem KF (a0 : W6)  : M.YT a0 = some (S.YT a0) := by
  have hM := Zv
  unfold M.YT S.YT
  refine XR (WQ a0.Zo) (fun r1 her1 => ?_)
  rfl
noncomputable def S.Qc (a0 : List Z2) (i1 : Nat) (i4 : Nat) : Option (Unit ⊕ Int) :=
  bif strEq ((a0.getD i4 default).Xl) ((a0.getD i1 default).Xl) then (some (.inr 4)) else none
theorem KW (a0 : List Z2) (i1 : Nat) (ha0 : LL Yz a0) (hi1 : i1 < a0.length) (i0 : Nat) : loopM (M.Qc a0 (i1 : Int)) (i0 : Int) = some (runN (S.Qc a0 i1) (.inl ()) i0 (i1 - i0)) := by
  have hM := Zv
  have hni1 : a0.length ≤ maxLen := ha0.1
  have hni4 : i1 ≤ maxLen := (by omega)
  refine Xz (n := i1) (fun i4 hi4 => ?_) (fun m hm => ?_) i0
  · unfold M.Qc S.Qc
    try simp only [Int.toNat_natCast]
    refine YE (dt (by omega)) ?_
    refine Jd (ZO (dt (by omega)) (ZO (dt (by omega)) (ZO (dt (by omega)) (ZO (dt (by omega)) Yi)))) ?_
    refine Yg (fun hb3 => ?_) (fun hb3 => ?_)
    · exact X2
    · exact VP (by omega)
  · unfold M.Qc
    try simp only [Int.toNat_natCast]
    exact YF (decide_eq_false (by omega)) rfl
noncomputable def S.Qd (a0 : List Z2) (i1 : Nat) (i9 : Nat) : Option (Unit ⊕ Int) :=
  letS (S.YT (((a0.getD i1 default).YG).getD i9 default)) (fun r11 => bif !r11 then (some (.inr 1)) else none)
theorem KX (a0 : List Z2) (i1 : Nat) (ha0 : LL Yz a0) (hi1 : i1 < a0.length) (i0 : Nat) : loopM (M.Qd a0 (i1 : Int)) (i0 : Int) = some (runN (S.Qd a0 i1) (.inl ()) i0 (((a0.getD i1 default).YG).length - i0)) := by
  have hM := Zv
  have hni1 : a0.length ≤ maxLen := ha0.1
  have hni9 : ((a0.getD i1 default).YG).length ≤ maxLen := (Yz.YG (LL.getD ha0 Yz.dflt i1))
  refine Xz (n := ((a0.getD i1 default).YG).length) (fun i9 hi9 => ?_) (fun m hm => ?_) i0
  · unfold M.Qd S.Qd
    try simp only [Int.toNat_natCast]
    refine Jd (ZO (dt (by omega)) (ZO (dt (by omega)) Yi))  ?_
    refine YE (dt (by omega)) ?_
    refine XE (KF (((a0.getD i1 default).YG).getD i9 default)) (fun r11 her11 => ?_)
    refine Jd (ZO (dt (by omega)) (ZO (dt (by omega)) (ZO (dt (by omega)) (ZO (dt (by omega)) Yi)))) ?_
    refine Yg (fun hb6 => ?_) (fun hb6 => ?_)
    · exact X2
    · exact VP (by omega)
  · unfold M.Qd
    try simp only [Int.toNat_natCast]
    refine Jd (ZO (dt (by omega)) (ZO (dt (by omega)) Yi))  ?_
    exact YF (decide_eq_false (by omega)) rfl
noncomputable def S.Qe (a0 : List Z2) (i1 : Nat) : Option (Unit ⊕ Int) :=
  letS (S.QX ((a0.getD i1 default).Xl)) (fun r3 => bif !r3 then (some (.inr 3)) else (letS (runN (S.Qc a0 i1) (.inl ()) 0 i1) (fun y6 => Sum.elim (fun _ => bif (((a0.getD i1 default).YG).length : Int) == 0 then (some (.inr 1)) else (bif decide ((((a0.getD i1 default).YG).length : Int) > 16) then (some (.inr 7)) else (letS (runN (S.Qd a0 i1) (.inl ()) 0 (((a0.getD i1 default).YG).length)) (fun y12 => Sum.elim (fun _ => none) (fun y14 => some (.inr y14)) y12)))) (fun y8 => some (.inr y8)) y6)))
theorem KY (a0 : List Z2) (ha0 : LL Yz a0) (i0 : Nat) : loopM (M.Qe a0) (i0 : Int) = some (runN (S.Qe a0) (.inl ()) i0 (a0.length - i0)) := by
  have hM := Zv
  have hni1 : a0.length ≤ maxLen := ha0.1
  refine Xz (n := a0.length) (fun i1 hi1 => ?_) (fun m hm => ?_) i0
  · unfold M.Qe S.Qe
    try simp only [Int.toNat_natCast]
    refine YE (dt (by omega)) ?_
    refine XE (U5 ((a0.getD i1 default).Xl) (Yz.Xl (LL.getD ha0 Yz.dflt i1))) (fun r3 her3 => ?_)
    refine Jd (ZO (dt (by omega)) (ZO (dt (by omega)) Yi)) ?_
    refine Yg (fun hb2 => ?_) (fun hb2 => ?_)
    · exact X2
    · refine XE (KW a0 i1 ha0 hi1 0) (fun y6 hey6 => ?_)
      refine VZ (fun _ hl => ?_) (fun y8 hly8 => ?_)
      · refine Jd (ZO (dt (by omega)) (ZO (dt (by omega)) Yi)) ?_
        refine Yg (fun hb4 => ?_) (fun hb4 => ?_)
        · exact X2
        · refine Jd (ZO (dt (by omega)) (ZO (dt (by omega)) Yi)) ?_
          refine Yg (fun hb5 => ?_) (fun hb5 => ?_)
          · exact X2
          · refine XE (KX a0 i1 ha0 hi1 0) (fun y12 hey12 => ?_)
            refine VZ (fun _ hl => ?_) (fun y14 hly14 => ?_)
            · exact VP (by omega)
            · exact X2
      · exact X2
  · unfold M.Qe
    try simp only [Int.toNat_natCast]
    exact YF (decide_eq_false (by omega)) rfl
noncomputable def S.Qk (a0 : List Z2) : Int :=
  bif decide ((a0.length : Int) > 8) then 7 else (letS (runN (S.Qe a0) (.inl ()) 0 a0.length) (fun y15 => Sum.elim (fun _ => 0) (fun y17 => y17) y15))
theorem Za1 (a0 : List Z2) (ha0 : LL Yz a0) : M.Qk a0 = some (S.Qk a0) := by
  have hM := Zv
  unfold M.Qk S.Qk
  refine WU (fun hb1 => ?_) (fun hb1 => ?_)
  · rfl
  · refine XR (KY a0 ha0 0) (fun y15 hey15 => ?_)
    refine JY (fun _ hl => ?_) (fun y17 hly17 => ?_)
    · rfl
    · rfl
noncomputable def S.Qu (a0 : Zf) (a1 : ByteArray) (i1 : Nat) : Option (Unit ⊕ Int) :=
  bif strEq ((a0.Yt.getD i1 default).Xl) a1 then (some (.inr (i1 : Int))) else none
theorem RO (a0 : Zf) (a1 : ByteArray) (ha0 : Zn a0) (ha1 : a1.size ≤ maxLen) (i0 : Nat) : loopM (M.Qu a0 a1) (i0 : Int) = some (runN (S.Qu a0 a1) (.inl ()) i0 (a0.Yt.length - i0)) := by
  have hM := Zv
  have hni1 : a0.Yt.length ≤ maxLen := (Zn.Yt ha0).1
  refine Xz (n := a0.Yt.length) (fun i1 hi1 => ?_) (fun m hm => ?_) i0
  · unfold M.Qu S.Qu
    try simp only [Int.toNat_natCast]
    refine YE (dt (by omega)) ?_
    refine Jd (ZO (dt (by omega)) (ZO (dt (by omega)) Yi)) ?_
    refine Yg (fun hb1 => ?_) (fun hb1 => ?_)
    · exact X2
    · exact VP (by omega)
  · unfold M.Qu
    try simp only [Int.toNat_natCast]
    exact YF (decide_eq_false (by omega)) rfl
noncomputable def S.YN (a0 : Zf) (a1 : ByteArray) : Int :=
  letS (runN (S.Qu a0 a1) (.inl ()) 0 a0.Yt.length) (fun y3 => Sum.elim (fun _ => -1) (fun y5 => y5) y3)
theorem UM (a0 : Zf) (a1 : ByteArray) (ha0 : Zn a0) (ha1 : a1.size ≤ maxLen) : M.YN a0 a1 = some (S.YN a0 a1) := by
  have hM := Zv
  unfold M.YN S.YN
  refine XR (RO a0 a1 ha0 ha1 0) (fun y3 hey3 => ?_)
  refine JY (fun _ hl => ?_) (fun y5 hly5 => ?_)
  · rfl
  · rfl
noncomputable def S.QM (a0 : Zf) (i1 : Nat) (i4 : Nat) : Option (Unit ⊕ Int) :=
  bif strEq ((a0.XC.getD i4 default).Xl) ((a0.XC.getD i1 default).Xl) then (some (.inr 4)) else none
theorem Zai (a0 : Zf) (i1 : Nat) (ha0 : Zn a0) (hi1 : i1 < a0.XC.length) (i0 : Nat) : loopM (M.QM a0 (i1 : Int)) (i0 : Int) = some (runN (S.QM a0 i1) (.inl ()) i0 (i1 - i0)) := by
  have hM := Zv
  have hni1 : a0.XC.length ≤ maxLen := (Zn.XC ha0).1
  have hni4 : i1 ≤ maxLen := (by omega)
  refine Xz (n := i1) (fun i4 hi4 => ?_) (fun m hm => ?_) i0
  · unfold M.QM S.QM
    try simp only [Int.toNat_natCast]
    refine YE (dt (by omega)) ?_
    refine Jd (ZO (dt (by omega)) (ZO (dt (by omega)) (ZO (dt (by omega)) (ZO (dt (by omega)) Yi)))) ?_
    refine Yg (fun hb3 => ?_) (fun hb3 => ?_)
    · exact X2
    · exact VP (by omega)
  · unfold M.QM
    try simp only [Int.toNat_natCast]
    exact YF (decide_eq_false (by omega)) rfl
noncomputable def S.QN (a0 : Zf) (i1 : Nat) (i9 : Nat) : Option (Unit ⊕ Int) :=
  letS (bif (!strEq ((((a0.XC.getD i1 default).XZ).getD i9 default).JZ) (⟨#[]⟩ : ByteArray)) then S.YN a0 ((((a0.XC.getD i1 default).XZ).getD i9 default).JZ) else default) (fun r11 => bif (!strEq ((((a0.XC.getD i1 default).XZ).getD i9 default).JZ) (⟨#[]⟩ : ByteArray)) && (decide (r11 < 0)) then (some (.inr 5)) else (letS (S.ZT ((((a0.XC.getD i1 default).XZ).getD i9 default).Kr) (-1) 65535) (fun r12 => letS (bif (!(!r12)) then S.ZT ((((a0.XC.getD i1 default).XZ).getD i9 default).ZbB) (-1) 65535 else default) (fun r13 => letS (bif (!((!r12) || (!r13))) then S.ZT ((((a0.XC.getD i1 default).XZ).getD i9 default).Gl) (-1) 16777215 else default) (fun r14 => letS (bif (!(((!r12) || (!r13)) || (!r14))) then S.ZT ((((a0.XC.getD i1 default).XZ).getD i9 default).Rm) (-1) 1000000 else default) (fun r15 => letS (bif (!((((!r12) || (!r13)) || (!r14)) || (!r15))) then S.ZT ((((a0.XC.getD i1 default).XZ).getD i9 default).Rn) 0 8 else default) (fun r16 => bif ((((!r12) || (!r13)) || (!r14)) || (!r15)) || (!r16) then (some (.inr 1)) else none)))))))
theorem Zaj (a0 : Zf) (i1 : Nat) (ha0 : Zn a0) (hi1 : i1 < a0.XC.length) (i0 : Nat) : loopM (M.QN a0 (i1 : Int)) (i0 : Int) = some (runN (S.QN a0 i1) (.inl ()) i0 (((a0.XC.getD i1 default).XZ).length - i0)) := by
  have hM := Zv
  have hni1 : a0.XC.length ≤ maxLen := (Zn.XC ha0).1
  have hni9 : ((a0.XC.getD i1 default).XZ).length ≤ maxLen := (Q8.XZ (LL.getD (Zn.XC ha0) Q8.dflt i1)).1
  refine Xz (n := ((a0.XC.getD i1 default).XZ).length) (fun i9 hi9 => ?_) (fun m hm => ?_) i0
  · unfold M.QN S.QN
    try simp only [Int.toNat_natCast]
    refine Jd (ZO (dt (by omega)) (ZO (dt (by omega)) Yi))  ?_
    refine YE (dt (by omega)) ?_
    refine Jd (ZO (dt (by omega)) (ZO (dt (by omega)) (ZO (dt (by omega)) (ZO (dt (by omega)) Yi)))) ?_
    refine XE (Wd fun hg => (UM a0 ((((a0.XC.getD i1 default).XZ).getD i9 default).JZ) ha0 (Ug.JZ (LL.getD (Q8.XZ (LL.getD (Zn.XC ha0) Q8.dflt i1)) Ug.dflt i9)))) (fun r11 her11 => ?_)
    refine Yg (fun hb6 => ?_) (fun hb6 => ?_)
    · exact X2
    · refine XE (XT ((((a0.XC.getD i1 default).XZ).getD i9 default).Kr) (-1) 65535) (fun r12 her12 => ?_)
      refine XE (Wd fun hg => (XT ((((a0.XC.getD i1 default).XZ).getD i9 default).ZbB) (-1) 65535)) (fun r13 her13 => ?_)
      refine XE (Wd fun hg => (XT ((((a0.XC.getD i1 default).XZ).getD i9 default).Gl) (-1) 16777215)) (fun r14 her14 => ?_)
      refine XE (Wd fun hg => (XT ((((a0.XC.getD i1 default).XZ).getD i9 default).Rm) (-1) 1000000)) (fun r15 her15 => ?_)
      refine XE (Wd fun hg => (XT ((((a0.XC.getD i1 default).XZ).getD i9 default).Rn) 0 8)) (fun r16 her16 => ?_)
      refine Yg (fun hb7 => ?_) (fun hb7 => ?_)
      · exact X2
      · exact VP (by omega)
  · unfold M.QN
    try simp only [Int.toNat_natCast]
    refine Jd (ZO (dt (by omega)) (ZO (dt (by omega)) Yi))  ?_
    exact YF (decide_eq_false (by omega)) rfl
noncomputable def S.QO (a0 : Zf) (i1 : Nat) : Option (Unit ⊕ Int) :=
  letS (S.QX ((a0.XC.getD i1 default).Xl)) (fun r3 => bif !r3 then (some (.inr 3)) else (letS (runN (S.QM a0 i1) (.inl ()) 0 i1) (fun y6 => Sum.elim (fun _ => bif (((a0.XC.getD i1 default).XZ).length : Int) == 0 then (some (.inr 1)) else (bif decide ((((a0.XC.getD i1 default).XZ).length : Int) > 8) then (some (.inr 7)) else (letS (runN (S.QN a0 i1) (.inl ()) 0 (((a0.XC.getD i1 default).XZ).length)) (fun y17 => Sum.elim (fun _ => none) (fun y19 => some (.inr y19)) y17)))) (fun y8 => some (.inr y8)) y6)))
theorem Zak (a0 : Zf) (ha0 : Zn a0) (i0 : Nat) : loopM (M.QO a0) (i0 : Int) = some (runN (S.QO a0) (.inl ()) i0 (a0.XC.length - i0)) := by
  have hM := Zv
  have hni1 : a0.XC.length ≤ maxLen := (Zn.XC ha0).1
  refine Xz (n := a0.XC.length) (fun i1 hi1 => ?_) (fun m hm => ?_) i0
  · unfold M.QO S.QO
    try simp only [Int.toNat_natCast]
    refine YE (dt (by omega)) ?_
    refine XE (U5 ((a0.XC.getD i1 default).Xl) (Q8.Xl (LL.getD (Zn.XC ha0) Q8.dflt i1))) (fun r3 her3 => ?_)
    refine Jd (ZO (dt (by omega)) (ZO (dt (by omega)) Yi)) ?_
    refine Yg (fun hb2 => ?_) (fun hb2 => ?_)
    · exact X2
    · refine XE (Zai a0 i1 ha0 hi1 0) (fun y6 hey6 => ?_)
      refine VZ (fun _ hl => ?_) (fun y8 hly8 => ?_)
      · refine Jd (ZO (dt (by omega)) (ZO (dt (by omega)) Yi)) ?_
        refine Yg (fun hb4 => ?_) (fun hb4 => ?_)
        · exact X2
        · refine Jd (ZO (dt (by omega)) (ZO (dt (by omega)) Yi)) ?_
          refine Yg (fun hb5 => ?_) (fun hb5 => ?_)
          · exact X2
          · refine XE (Zaj a0 i1 ha0 hi1 0) (fun y17 hey17 => ?_)
            refine VZ (fun _ hl => ?_) (fun y19 hly19 => ?_)
            · exact VP (by omega)
            · exact X2
      · exact X2
  · unfold M.QO
    try simp only [Int.toNat_natCast]
    exact YF (decide_eq_false (by omega)) rfl
noncomputable def S.QZ (a0 : Zf) : Int :=
  bif decide ((a0.XC.length : Int) > 8) then 7 else (letS (runN (S.QO a0) (.inl ()) 0 a0.XC.length) (fun y20 => Sum.elim (fun _ => 0) (fun y22 => y22) y20))
theorem Zcz (a0 : Zf) (ha0 : Zn a0) : M.QZ a0 = some (S.QZ a0) := by
  have hM := Zv
  unfold M.QZ S.QZ
  refine WU (fun hb1 => ?_) (fun hb1 => ?_)
  · rfl
  · refine XR (Zak a0 ha0 0) (fun y20 hey20 => ?_)
    refine JY (fun _ hl => ?_) (fun y22 hly22 => ?_)
    · rfl
    · rfl
noncomputable def S.VR (a0 : Vz) : Bool :=
  ((decide (0 ≤ a0.G8)) && (decide (a0.G8 ≤ a0.KQ))) && (decide (a0.KQ ≤ 65535))
theorem Zb0 (a0 : Vz)  : M.VR a0 = some (S.VR a0) := by
  have hM := Zv
  unfold M.VR S.VR
  rfl
noncomputable def S.W7 (a0 : Vz) : Bool :=
  (a0.G8 == 0) && ((a0.KQ == 65535) && true)
theorem Zef (a0 : Vz)  : M.W7 a0 = some (S.W7 a0) := by
  have hM := Zv
  unfold M.W7 S.W7
  rfl
noncomputable def S.J3 (a0 : Zd4) : Bool :=
  letS (S.ZT a0.YQ (-1) 255) (fun r1 => letS (bif (!(((!r1) || ((bitD .and .u32 a0.ZaP.Zs a0.ZaP.Gb) != 0)) || ((bitD .and .u32 a0.ZaQ.Zs a0.ZaQ.Gb) != 0))) then S.VR a0.Ud else default) (fun r2 => letS (bif (!((((!r1) || ((bitD .and .u32 a0.ZaP.Zs a0.ZaP.Gb) != 0)) || ((bitD .and .u32 a0.ZaQ.Zs a0.ZaQ.Gb) != 0)) || (!r2))) then S.VR a0.Ue else default) (fun r3 => bif ((((!r1) || ((bitD .and .u32 a0.ZaP.Zs a0.ZaP.Gb) != 0)) || ((bitD .and .u32 a0.ZaQ.Zs a0.ZaQ.Gb) != 0)) || (!r2)) || (!r3) then false else (letS (bif (!((a0.YQ == 6) || (a0.YQ == 17))) then S.W7 a0.Ud else default) (fun r4 => letS (bif ((!((a0.YQ == 6) || (a0.YQ == 17))) && r4) then S.W7 a0.Ue else default) (fun r5 => ((a0.YQ == 6) || (a0.YQ == 17)) || (r4 && r5)))))))
theorem ZcA (a0 : Zd4)  : M.J3 a0 = some (S.J3 a0) := by
  have hM := Zv
  unfold M.J3 S.J3
  refine XR (XT a0.YQ (-1) 255) (fun r1 her1 => ?_)
  refine XR (Wd fun hg => (Zb0 a0.Ud)) (fun r2 her2 => ?_)
  refine XR (Wd fun hg => (Zb0 a0.Ue)) (fun r3 her3 => ?_)
  refine WU (fun hb1 => ?_) (fun hb1 => ?_)
  · rfl
  · refine XR (Wd fun hg => (Zef a0.Ud)) (fun r4 her4 => ?_)
    refine XR (Wd fun hg => (Zef a0.Ue)) (fun r5 her5 => ?_)
    rfl
noncomputable def S.Qf (a0 : List WV) (i1 : Nat) (i4 : Nat) : Option (Unit ⊕ Int) :=
  bif strEq ((a0.getD i4 default).Xl) ((a0.getD i1 default).Xl) then (some (.inr 4)) else none
theorem KZ (a0 : List WV) (i1 : Nat) (ha0 : LL Ub a0) (hi1 : i1 < a0.length) (i0 : Nat) : loopM (M.Qf a0 (i1 : Int)) (i0 : Int) = some (runN (S.Qf a0 i1) (.inl ()) i0 (i1 - i0)) := by
  have hM := Zv
  have hni1 : a0.length ≤ maxLen := ha0.1
  have hni4 : i1 ≤ maxLen := (by omega)
  refine Xz (n := i1) (fun i4 hi4 => ?_) (fun m hm => ?_) i0
  · unfold M.Qf S.Qf
    try simp only [Int.toNat_natCast]
    refine YE (dt (by omega)) ?_
    refine Jd (ZO (dt (by omega)) (ZO (dt (by omega)) (ZO (dt (by omega)) (ZO (dt (by omega)) Yi)))) ?_
    refine Yg (fun hb3 => ?_) (fun hb3 => ?_)
    · exact X2
    · exact VP (by omega)
  · unfold M.Qf
    try simp only [Int.toNat_natCast]
    exact YF (decide_eq_false (by omega)) rfl
noncomputable def S.Qg (a0 : List WV) (i1 : Nat) (i9 : Nat) : Option (Unit ⊕ Int) :=
  letS (S.J3 (((a0.getD i1 default).YG).getD i9 default)) (fun r11 => bif !r11 then (some (.inr 1)) else none)
theorem K0 (a0 : List WV) (i1 : Nat) (ha0 : LL Ub a0) (hi1 : i1 < a0.length) (i0 : Nat) : loopM (M.Qg a0 (i1 : Int)) (i0 : Int) = some (runN (S.Qg a0 i1) (.inl ()) i0 (((a0.getD i1 default).YG).length - i0)) := by
  have hM := Zv
  have hni1 : a0.length ≤ maxLen := ha0.1
  have hni9 : ((a0.getD i1 default).YG).length ≤ maxLen := (Ub.YG (LL.getD ha0 Ub.dflt i1))
  refine Xz (n := ((a0.getD i1 default).YG).length) (fun i9 hi9 => ?_) (fun m hm => ?_) i0
  · unfold M.Qg S.Qg
    try simp only [Int.toNat_natCast]
    refine Jd (ZO (dt (by omega)) (ZO (dt (by omega)) Yi))  ?_
    refine YE (dt (by omega)) ?_
    refine XE (ZcA (((a0.getD i1 default).YG).getD i9 default)) (fun r11 her11 => ?_)
    refine Jd (ZO (dt (by omega)) (ZO (dt (by omega)) (ZO (dt (by omega)) (ZO (dt (by omega)) Yi)))) ?_
    refine Yg (fun hb6 => ?_) (fun hb6 => ?_)
    · exact X2
    · exact VP (by omega)
  · unfold M.Qg
    try simp only [Int.toNat_natCast]
    refine Jd (ZO (dt (by omega)) (ZO (dt (by omega)) Yi))  ?_
    exact YF (decide_eq_false (by omega)) rfl
noncomputable def S.Qh (a0 : List WV) (i1 : Nat) : Option (Unit ⊕ Int) :=
  letS (S.QX ((a0.getD i1 default).Xl)) (fun r3 => bif !r3 then (some (.inr 3)) else (letS (runN (S.Qf a0 i1) (.inl ()) 0 i1) (fun y6 => Sum.elim (fun _ => bif (((a0.getD i1 default).YG).length : Int) == 0 then (some (.inr 1)) else (bif decide ((((a0.getD i1 default).YG).length : Int) > 16) then (some (.inr 7)) else (letS (runN (S.Qg a0 i1) (.inl ()) 0 (((a0.getD i1 default).YG).length)) (fun y12 => Sum.elim (fun _ => none) (fun y14 => some (.inr y14)) y12)))) (fun y8 => some (.inr y8)) y6)))
theorem K3 (a0 : List WV) (ha0 : LL Ub a0) (i0 : Nat) : loopM (M.Qh a0) (i0 : Int) = some (runN (S.Qh a0) (.inl ()) i0 (a0.length - i0)) := by
  have hM := Zv
  have hni1 : a0.length ≤ maxLen := ha0.1
  refine Xz (n := a0.length) (fun i1 hi1 => ?_) (fun m hm => ?_) i0
  · unfold M.Qh S.Qh
    try simp only [Int.toNat_natCast]
    refine YE (dt (by omega)) ?_
    refine XE (U5 ((a0.getD i1 default).Xl) (Ub.Xl (LL.getD ha0 Ub.dflt i1))) (fun r3 her3 => ?_)
    refine Jd (ZO (dt (by omega)) (ZO (dt (by omega)) Yi)) ?_
    refine Yg (fun hb2 => ?_) (fun hb2 => ?_)
    · exact X2
    · refine XE (KZ a0 i1 ha0 hi1 0) (fun y6 hey6 => ?_)
      refine VZ (fun _ hl => ?_) (fun y8 hly8 => ?_)
      · refine Jd (ZO (dt (by omega)) (ZO (dt (by omega)) Yi)) ?_
        refine Yg (fun hb4 => ?_) (fun hb4 => ?_)
        · exact X2
        · refine Jd (ZO (dt (by omega)) (ZO (dt (by omega)) Yi)) ?_
          refine Yg (fun hb5 => ?_) (fun hb5 => ?_)
          · exact X2
          · refine XE (K0 a0 i1 ha0 hi1 0) (fun y12 hey12 => ?_)
            refine VZ (fun _ hl => ?_) (fun y14 hly14 => ?_)
            · exact VP (by omega)
            · exact X2
      · exact X2
  · unfold M.Qh
    try simp only [Int.toNat_natCast]
    exact YF (decide_eq_false (by omega)) rfl
noncomputable def S.Ql (a0 : List WV) : Int :=
  bif decide ((a0.length : Int) > 8) then 7 else (letS (runN (S.Qh a0) (.inl ()) 0 a0.length) (fun y15 => Sum.elim (fun _ => 0) (fun y17 => y17) y15))
theorem Za2 (a0 : List WV) (ha0 : LL Ub a0) : M.Ql a0 = some (S.Ql a0) := by
  have hM := Zv
  unfold M.Ql S.Ql
  refine WU (fun hb1 => ?_) (fun hb1 => ?_)
  · rfl
  · refine XR (K3 a0 ha0 0) (fun y15 hey15 => ?_)
    refine JY (fun _ hl => ?_) (fun y17 hly17 => ?_)
    · rfl
    · rfl
noncomputable def S.V5 (a0 : Zf) (a1 : ByteArray) (i1 : Nat) : Option (Unit ⊕ Int) :=
  bif strEq ((a0.YC.getD i1 default).Xl) a1 then (some (.inr (i1 : Int))) else none
theorem Zez (a0 : Zf) (a1 : ByteArray) (ha0 : Zn a0) (ha1 : a1.size ≤ maxLen) (i0 : Nat) : loopM (M.V5 a0 a1) (i0 : Int) = some (runN (S.V5 a0 a1) (.inl ()) i0 (a0.YC.length - i0)) := by
  have hM := Zv
  have hni1 : a0.YC.length ≤ maxLen := (Zn.YC ha0).1
  refine Xz (n := a0.YC.length) (fun i1 hi1 => ?_) (fun m hm => ?_) i0
  · unfold M.V5 S.V5
    try simp only [Int.toNat_natCast]
    refine YE (dt (by omega)) ?_
    refine Jd (ZO (dt (by omega)) (ZO (dt (by omega)) Yi)) ?_
    refine Yg (fun hb1 => ?_) (fun hb1 => ?_)
    · exact X2
    · exact VP (by omega)
  · unfold M.V5
    try simp only [Int.toNat_natCast]
    exact YF (decide_eq_false (by omega)) rfl
noncomputable def S.Wp (a0 : Zf) (a1 : ByteArray) : Int :=
  letS (runN (S.V5 a0 a1) (.inl ()) 0 a0.YC.length) (fun y3 => Sum.elim (fun _ => -1) (fun y5 => y5) y3)
theorem Za3 (a0 : Zf) (a1 : ByteArray) (ha0 : Zn a0) (ha1 : a1.size ≤ maxLen) : M.Wp a0 a1 = some (S.Wp a0 a1) := by
  have hM := Zv
  unfold M.Wp S.Wp
  refine XR (Zez a0 a1 ha0 ha1 0) (fun y3 hey3 => ?_)
  refine JY (fun _ hl => ?_) (fun y5 hly5 => ?_)
  · rfl
  · rfl
noncomputable def S.XS (a0 : Zf) (i1 : Nat) (p3 : Bool) : Option (Unit ⊕ Int) :=
  bif !p3 then (some (.inr 1)) else (letS (bif (((a0.Xd.getD i1 default).Wj) == 2) then S.Wp a0 ((a0.Xd.getD i1 default).JZ) else default) (fun r4 => bif (((a0.Xd.getD i1 default).Wj) == 2) && (decide (r4 < 0)) then (some (.inr 5)) else none))
theorem VJ (a0 : Zf) (i1 : Nat) (p3 : Bool) (ha0 : Zn a0) (hi1 : i1 < a0.Xd.length) : M.XS a0 (i1 : Int) p3 = some (rdN (S.XS a0 i1 p3) i1) := by
  have hM := Zv
  have hni1 : a0.Xd.length ≤ maxLen := (Zn.Xd ha0).1
  unfold M.XS S.XS
  try simp only [Int.toNat_natCast]
  refine Yg (fun hb3 => ?_) (fun hb3 => ?_)
  · exact X2
  · refine XE (Wd fun hg => (Za3 a0 ((a0.Xd.getD i1 default).JZ) ha0 (J9.JZ (LL.getD (Zn.Xd ha0) J9.dflt i1)))) (fun r4 her4 => ?_)
    refine Yg (fun hb4 => ?_) (fun hb4 => ?_)
    · exact X2
    · exact VP (by omega)
noncomputable def S.YU (a0 : Zf) (i1 : Nat) : Option (Unit ⊕ Int) :=
  bif ((a0.Xd.getD i1 default).Wj) == 1 then (S.XS a0 i1 (((((a0.Xd.getD i1 default).Jz) != 0) && (((a0.Xd.getD i1 default).Qz) != 0)) && ((((a0.Xd.getD i1 default).Wj) == ((a0.Xd.getD i1 default).Wj)) && ((((a0.Xd.getD i1 default).Jz) == ((a0.Xd.getD i1 default).Jz)) && ((((a0.Xd.getD i1 default).Qz) == ((a0.Xd.getD i1 default).Qz)) && ((((a0.Xd.getD i1 default).YQ) == 0) && ((((a0.Xd.getD i1 default).JO) == 0) && ((((a0.Xd.getD i1 default).Je) == 0) && (strEq ((a0.Xd.getD i1 default).JZ) (⟨#[]⟩ : ByteArray) && ((((a0.Xd.getD i1 default).G8) == 0) && ((((a0.Xd.getD i1 default).KQ) == 0) && true))))))))))) else (bif ((a0.Xd.getD i1 default).Wj) == 2 then (S.XS a0 i1 ((((((a0.Xd.getD i1 default).G8) != 0) && (decide (((a0.Xd.getD i1 default).G8) ≤ ((a0.Xd.getD i1 default).KQ)))) && (decide ((wr .u32 (((a0.Xd.getD i1 default).KQ) - ((a0.Xd.getD i1 default).G8))) < 8))) && ((((a0.Xd.getD i1 default).Wj) == ((a0.Xd.getD i1 default).Wj)) && ((((a0.Xd.getD i1 default).Jz) == 0) && ((((a0.Xd.getD i1 default).Qz) == 0) && ((((a0.Xd.getD i1 default).YQ) == 0) && ((((a0.Xd.getD i1 default).JO) == 0) && ((((a0.Xd.getD i1 default).Je) == 0) && (strEq ((a0.Xd.getD i1 default).JZ) ((a0.Xd.getD i1 default).JZ) && ((((a0.Xd.getD i1 default).G8) == ((a0.Xd.getD i1 default).G8)) && ((((a0.Xd.getD i1 default).KQ) == ((a0.Xd.getD i1 default).KQ)) && true))))))))))) else (bif ((a0.Xd.getD i1 default).Wj) == 3 then (letS (bif (((((a0.Xd.getD i1 default).Jz) != 0) && (((a0.Xd.getD i1 default).Qz) != 0)) && ((((a0.Xd.getD i1 default).YQ) == 6) || (((a0.Xd.getD i1 default).YQ) == 17))) then S.ZT ((a0.Xd.getD i1 default).JO) 0 65535 else default) (fun r5 => letS (bif ((((((a0.Xd.getD i1 default).Jz) != 0) && (((a0.Xd.getD i1 default).Qz) != 0)) && ((((a0.Xd.getD i1 default).YQ) == 6) || (((a0.Xd.getD i1 default).YQ) == 17))) && r5) then S.ZT ((a0.Xd.getD i1 default).Je) 0 65535 else default) (fun r6 => S.XS a0 i1 ((((((((((a0.Xd.getD i1 default).Jz) != 0) && (((a0.Xd.getD i1 default).Qz) != 0)) && ((((a0.Xd.getD i1 default).YQ) == 6) || (((a0.Xd.getD i1 default).YQ) == 17))) && r5) && r6) && (strEq ((a0.Xd.getD i1 default).JZ) (⟨#[]⟩ : ByteArray))) && (((a0.Xd.getD i1 default).G8) == 0)) && (((a0.Xd.getD i1 default).KQ) == 0))))) else (S.XS a0 i1 false)))
theorem KG (a0 : Zf) (ha0 : Zn a0) (i0 : Nat) : loopM (M.YU a0) (i0 : Int) = some (runN (S.YU a0) (.inl ()) i0 (a0.Xd.length - i0)) := by
  have hM := Zv
  have hni1 : a0.Xd.length ≤ maxLen := (Zn.Xd ha0).1
  refine Xz (n := a0.Xd.length) (fun i1 hi1 => ?_) (fun m hm => ?_) i0
  · unfold M.YU S.YU
    try simp only [Int.toNat_natCast]
    refine YE (dt (by omega)) ?_
    refine Jd (ZO (dt (by omega)) (ZO (dt (by omega)) Yi)) ?_
    refine Yg (fun hb2 => ?_) (fun hb2 => ?_)
    · exact VJ a0 i1 (((((a0.Xd.getD i1 default).Jz) != 0) && (((a0.Xd.getD i1 default).Qz) != 0)) && ((((a0.Xd.getD i1 default).Wj) == ((a0.Xd.getD i1 default).Wj)) && ((((a0.Xd.getD i1 default).Jz) == ((a0.Xd.getD i1 default).Jz)) && ((((a0.Xd.getD i1 default).Qz) == ((a0.Xd.getD i1 default).Qz)) && ((((a0.Xd.getD i1 default).YQ) == 0) && ((((a0.Xd.getD i1 default).JO) == 0) && ((((a0.Xd.getD i1 default).Je) == 0) && (strEq ((a0.Xd.getD i1 default).JZ) (⟨#[]⟩ : ByteArray) && ((((a0.Xd.getD i1 default).G8) == 0) && ((((a0.Xd.getD i1 default).KQ) == 0) && true)))))))))) ha0 hi1
    · refine Yg (fun hb5 => ?_) (fun hb5 => ?_)
      · exact VJ a0 i1 ((((((a0.Xd.getD i1 default).G8) != 0) && (decide (((a0.Xd.getD i1 default).G8) ≤ ((a0.Xd.getD i1 default).KQ)))) && (decide ((wr .u32 (((a0.Xd.getD i1 default).KQ) - ((a0.Xd.getD i1 default).G8))) < 8))) && ((((a0.Xd.getD i1 default).Wj) == ((a0.Xd.getD i1 default).Wj)) && ((((a0.Xd.getD i1 default).Jz) == 0) && ((((a0.Xd.getD i1 default).Qz) == 0) && ((((a0.Xd.getD i1 default).YQ) == 0) && ((((a0.Xd.getD i1 default).JO) == 0) && ((((a0.Xd.getD i1 default).Je) == 0) && (strEq ((a0.Xd.getD i1 default).JZ) ((a0.Xd.getD i1 default).JZ) && ((((a0.Xd.getD i1 default).G8) == ((a0.Xd.getD i1 default).G8)) && ((((a0.Xd.getD i1 default).KQ) == ((a0.Xd.getD i1 default).KQ)) && true)))))))))) ha0 hi1
      · refine Yg (fun hb6 => ?_) (fun hb6 => ?_)
        · refine XE (Wd fun hg => (XT ((a0.Xd.getD i1 default).JO) 0 65535)) (fun r5 her5 => ?_)
          refine XE (Wd fun hg => (XT ((a0.Xd.getD i1 default).Je) 0 65535)) (fun r6 her6 => ?_)
          exact VJ a0 i1 ((((((((((a0.Xd.getD i1 default).Jz) != 0) && (((a0.Xd.getD i1 default).Qz) != 0)) && ((((a0.Xd.getD i1 default).YQ) == 6) || (((a0.Xd.getD i1 default).YQ) == 17))) && r5) && r6) && (strEq ((a0.Xd.getD i1 default).JZ) (⟨#[]⟩ : ByteArray))) && (((a0.Xd.getD i1 default).G8) == 0)) && (((a0.Xd.getD i1 default).KQ) == 0)) ha0 hi1
        · exact VJ a0 i1 false ha0 hi1
  · unfold M.YU
    try simp only [Int.toNat_natCast]
    exact YF (decide_eq_false (by omega)) rfl
noncomputable def S.YV (a0 : Zf) : Int :=
  bif decide ((a0.Xd.length : Int) > 8) then 7 else (letS (runN (S.YU a0) (.inl ()) 0 a0.Xd.length) (fun y7 => Sum.elim (fun _ => 0) (fun y9 => y9) y7))
theorem Zal (a0 : Zf) (ha0 : Zn a0) : M.YV a0 = some (S.YV a0) := by
  have hM := Zv
  unfold M.YV S.YV
  refine WU (fun hb1 => ?_) (fun hb1 => ?_)
  · rfl
  · refine XR (KG a0 ha0 0) (fun y7 hey7 => ?_)
    refine JY (fun _ hl => ?_) (fun y9 hly9 => ?_)
    · rfl
    · rfl
noncomputable def S.JA (a0 : Zf) (i1 : Nat) : Option (Unit ⊕ Int) :=
  letS (bif (!strEq ((a0.Zc.getD i1 default).VG) (⟨#[]⟩ : ByteArray)) then S.Wp a0 ((a0.Zc.getD i1 default).VG) else default) (fun r3 => letS (bif ((!((!strEq ((a0.Zc.getD i1 default).VG) (⟨#[]⟩ : ByteArray)) && (decide (r3 < 0)))) && (!strEq ((a0.Zc.getD i1 default).Y7) (⟨#[]⟩ : ByteArray))) then S.Wp a0 ((a0.Zc.getD i1 default).Y7) else default) (fun r4 => bif ((!strEq ((a0.Zc.getD i1 default).VG) (⟨#[]⟩ : ByteArray)) && (decide (r3 < 0))) || ((!strEq ((a0.Zc.getD i1 default).Y7) (⟨#[]⟩ : ByteArray)) && (decide (r4 < 0))) then (some (.inr 5)) else none))
theorem Zb1 (a0 : Zf) (ha0 : Zn a0) (i0 : Nat) : loopM (M.JA a0) (i0 : Int) = some (runN (S.JA a0) (.inl ()) i0 (a0.Zc.length - i0)) := by
  have hM := Zv
  have hni1 : a0.Zc.length ≤ maxLen := (Zn.Zc ha0).1
  refine Xz (n := a0.Zc.length) (fun i1 hi1 => ?_) (fun m hm => ?_) i0
  · unfold M.JA S.JA
    try simp only [Int.toNat_natCast]
    refine YE (dt (by omega)) ?_
    refine Jd (ZO (dt (by omega)) (ZO (dt (by omega)) Yi)) ?_
    refine XE (Wd fun hg => (Za3 a0 ((a0.Zc.getD i1 default).VG) ha0 (Ye.VG (LL.getD (Zn.Zc ha0) Ye.dflt i1)))) (fun r3 her3 => ?_)
    refine XE (Wd fun hg => (Za3 a0 ((a0.Zc.getD i1 default).Y7) ha0 (Ye.Y7 (LL.getD (Zn.Zc ha0) Ye.dflt i1)))) (fun r4 her4 => ?_)
    refine Yg (fun hb1 => ?_) (fun hb1 => ?_)
    · exact X2
    · exact VP (by omega)
  · unfold M.JA
    try simp only [Int.toNat_natCast]
    exact YF (decide_eq_false (by omega)) rfl
noncomputable def S.J4 (a0 : Zf) : Int :=
  letS (runN (S.JA a0) (.inl ()) 0 a0.Zc.length) (fun y5 => Sum.elim (fun _ => 0) (fun y7 => y7) y5)
theorem Zeg (a0 : Zf) (ha0 : Zn a0) : M.J4 a0 = some (S.J4 a0) := by
  have hM := Zv
  unfold M.J4 S.J4
  refine XR (Zb1 a0 ha0 0) (fun y5 hey5 => ?_)
  refine JY (fun _ hl => ?_) (fun y7 hly7 => ?_)
  · rfl
  · rfl
noncomputable def S.JB (a0 : Zf) (a1 : Int) (i1 : Nat) : Option (Unit ⊕ Int) :=
  bif (((a0.Zc.getD i1 default).ZR) != 0) && (((a0.Zc.getD i1 default).Zs) == a1) then (some (.inr (i1 : Int))) else none
theorem Zb2 (a0 : Zf) (a1 : Int) (ha0 : Zn a0) (i0 : Nat) : loopM (M.JB a0 a1) (i0 : Int) = some (runN (S.JB a0 a1) (.inl ()) i0 (a0.Zc.length - i0)) := by
  have hM := Zv
  have hni1 : a0.Zc.length ≤ maxLen := (Zn.Zc ha0).1
  refine Xz (n := a0.Zc.length) (fun i1 hi1 => ?_) (fun m hm => ?_) i0
  · unfold M.JB S.JB
    try simp only [Int.toNat_natCast]
    refine YE (dt (by omega)) ?_
    refine Jd (ZO (dt (by omega)) (ZO (dt (by omega)) (ZO (Y9 fun hg => (dt (by first | omega | (simp; omega) | (simp at *; omega)))) (ZO (Y9 fun hg => (dt (by first | omega | (simp; omega) | (simp at *; omega)))) Yi)))) ?_
    refine Yg (fun hb1 => ?_) (fun hb1 => ?_)
    · exact X2
    · exact VP (by omega)
  · unfold M.JB
    try simp only [Int.toNat_natCast]
    exact YF (decide_eq_false (by omega)) rfl
noncomputable def S.QP (a0 : Zf) (a1 : Int) : Int :=
  letS (runN (S.JB a0 a1) (.inl ()) 0 a0.Zc.length) (fun y3 => Sum.elim (fun _ => -1) (fun y5 => y5) y3)
theorem RP (a0 : Zf) (a1 : Int) (ha0 : Zn a0) : M.QP a0 a1 = some (S.QP a0 a1) := by
  have hM := Zv
  unfold M.QP S.QP
  refine XR (Zb2 a0 a1 ha0 0) (fun y3 hey3 => ?_)
  refine JY (fun _ hl => ?_) (fun y5 hly5 => ?_)
  · rfl
  · rfl
noncomputable def S.Qn (a0 : Zf) (a1 : ByteArray) (i1 : Nat) : Option (Unit ⊕ Int) :=
  bif strEq ((a0.Zc.getD i1 default).Xl) a1 then (some (.inr (i1 : Int))) else none
theorem Zam (a0 : Zf) (a1 : ByteArray) (ha0 : Zn a0) (ha1 : a1.size ≤ maxLen) (i0 : Nat) : loopM (M.Qn a0 a1) (i0 : Int) = some (runN (S.Qn a0 a1) (.inl ()) i0 (a0.Zc.length - i0)) := by
  have hM := Zv
  have hni1 : a0.Zc.length ≤ maxLen := (Zn.Zc ha0).1
  refine Xz (n := a0.Zc.length) (fun i1 hi1 => ?_) (fun m hm => ?_) i0
  · unfold M.Qn S.Qn
    try simp only [Int.toNat_natCast]
    refine YE (dt (by omega)) ?_
    refine Jd (ZO (dt (by omega)) (ZO (dt (by omega)) Yi)) ?_
    refine Yg (fun hb1 => ?_) (fun hb1 => ?_)
    · exact X2
    · exact VP (by omega)
  · unfold M.Qn
    try simp only [Int.toNat_natCast]
    exact YF (decide_eq_false (by omega)) rfl
noncomputable def S.Q0 (a0 : Zf) (a1 : ByteArray) : Int :=
  letS (runN (S.Qn a0 a1) (.inl ()) 0 a0.Zc.length) (fun y3 => Sum.elim (fun _ => -1) (fun y5 => y5) y3)
theorem ZcB (a0 : Zf) (a1 : ByteArray) (ha0 : Zn a0) (ha1 : a1.size ≤ maxLen) : M.Q0 a0 a1 = some (S.Q0 a0 a1) := by
  have hM := Zv
  unfold M.Q0 S.Q0
  refine XR (Zam a0 a1 ha0 ha1 0) (fun y3 hey3 => ?_)
  refine JY (fun _ hl => ?_) (fun y5 hly5 => ?_)
  · rfl
  · rfl
theorem Za4 (a0 : Zf) (a1 : ByteArray) : S.Q0 a0 a1 < (a0.Zc.length : Int) := by
  unfold S.Q0
  simp only [letS]
  exact ZkP (fun i => by unfold S.Qn; cases strEq (a0.Zc.getD i default).Xl a1 <;> simp) _
noncomputable def S.JC (a0 : Zf) (i1 : Nat) (i11 : Nat) : Option (Unit ⊕ Int) :=
  bif (((((a0.Zq.getD i11 default).Zo).Zs) == (((a0.Zq.getD i1 default).Zo).Zs)) && (((((a0.Zq.getD i11 default).Zo).ZR) == (((a0.Zq.getD i1 default).Zo).ZR)) && true)) && (((a0.Zq.getD i11 default).Xq) == ((a0.Zq.getD i1 default).Xq)) then (some (.inr 6)) else none
theorem Zb3 (a0 : Zf) (i1 : Nat) (ha0 : Zn a0) (hi1 : i1 < a0.Zq.length) (i0 : Nat) : loopM (M.JC a0 (i1 : Int)) (i0 : Int) = some (runN (S.JC a0 i1) (.inl ()) i0 (i1 - i0)) := by
  have hM := Zv
  have hni1 : a0.Zq.length ≤ maxLen := (Zn.Zq ha0).1
  have hni11 : i1 ≤ maxLen := (by omega)
  refine Xz (n := i1) (fun i11 hi11 => ?_) (fun m hm => ?_) i0
  · unfold M.JC S.JC
    try simp only [Int.toNat_natCast]
    refine YE (dt (by omega)) ?_
    refine Jd (ZO (dt (by omega)) (ZO (dt (by omega)) (ZO (Y9 fun hg => (dt (by first | omega | (simp; omega) | (simp at *; omega)))) (ZO (Y9 fun hg => (dt (by first | omega | (simp; omega) | (simp at *; omega)))) Yi)))) ?_
    refine Yg (fun hb9 => ?_) (fun hb9 => ?_)
    · exact X2
    · exact VP (by omega)
  · unfold M.JC
    try simp only [Int.toNat_natCast]
    exact YF (decide_eq_false (by omega)) rfl
noncomputable def S.QB (a0 : Zf) (i1 : Nat) (_p10 : Unit) : Option (Unit ⊕ Int) :=
  letS (runN (S.JC a0 i1) (.inl ()) 0 i1) (fun y13 => Sum.elim (fun _ => none) (fun y15 => some (.inr y15)) y13)
theorem GL (a0 : Zf) (i1 : Nat) (_p10 : Unit) (ha0 : Zn a0) (hi1 : i1 < a0.Zq.length) : M.QB a0 (i1 : Int) _p10 = some (rdN (S.QB a0 i1 _p10) i1) := by
  have hM := Zv
  have hni1 : a0.Zq.length ≤ maxLen := (Zn.Zq ha0).1
  unfold M.QB S.QB
  try simp only [Int.toNat_natCast]
  refine XE (Zb3 a0 i1 ha0 hi1 0) (fun y13 hey13 => ?_)
  refine VZ (fun _ hl => ?_) (fun y15 hly15 => ?_)
  · exact VP (by omega)
  · exact X2
noncomputable def S.QC (a0 : Zf) (i1 : Nat) (p5 : Int) : Option (Unit ⊕ Int) :=
  letS (S.Y8 ((a0.Zq.getD i1 default).Zo)) (fun r6 => letS (bif ((!((!r6) || (p5 != 1))) && (((a0.Zq.getD i1 default).UG) != 0)) then S.QP a0 ((a0.Zq.getD i1 default).UG) else default) (fun r7 => letS (bif (!(((!r6) || (p5 != 1)) || ((((a0.Zq.getD i1 default).UG) != 0) && (decide (r7 ≥ 0))))) then S.ZT ((a0.Zq.getD i1 default).Xq) 1 255 else default) (fun r8 => letS (bif (!((((!r6) || (p5 != 1)) || ((((a0.Zq.getD i1 default).UG) != 0) && (decide (r7 ≥ 0)))) || (!r8))) then S.ZT ((a0.Zq.getD i1 default).Kr) 0 65535 else default) (fun r9 => bif ((((!r6) || (p5 != 1)) || ((((a0.Zq.getD i1 default).UG) != 0) && (decide (r7 ≥ 0)))) || (!r8)) || (!r9) then (some (.inr 1)) else (bif !strEq ((a0.Zq.getD i1 default).XY) (⟨#[]⟩ : ByteArray) then (letS (S.Q0 a0 ((a0.Zq.getD i1 default).XY)) (fun r16 => bif decide (r16 < 0) then (some (.inr 5)) else (bif ((a0.Zc.getD r16.toNat default).ZR) == 0 then (some (.inr 1)) else (S.QB a0 i1 ())))) else (S.QB a0 i1 ()))))))
theorem GM (a0 : Zf) (i1 : Nat) (p5 : Int) (ha0 : Zn a0) (hi1 : i1 < a0.Zq.length) : M.QC a0 (i1 : Int) p5 = some (rdN (S.QC a0 i1 p5) i1) := by
  have hM := Zv
  have hni1 : a0.Zq.length ≤ maxLen := (Zn.Zq ha0).1
  unfold M.QC S.QC
  try simp only [Int.toNat_natCast]
  refine XE (WQ ((a0.Zq.getD i1 default).Zo)) (fun r6 her6 => ?_)
  refine XE (Wd fun hg => (RP a0 ((a0.Zq.getD i1 default).UG) ha0)) (fun r7 her7 => ?_)
  refine XE (Wd fun hg => (XT ((a0.Zq.getD i1 default).Xq) 1 255)) (fun r8 her8 => ?_)
  refine XE (Wd fun hg => (XT ((a0.Zq.getD i1 default).Kr) 0 65535)) (fun r9 her9 => ?_)
  refine Yg (fun hb5 => ?_) (fun hb5 => ?_)
  · exact X2
  · refine Yg (fun hb6 => ?_) (fun hb6 => ?_)
    · refine XE (ZcB a0 ((a0.Zq.getD i1 default).XY) ha0 (Va.XY (LL.getD (Zn.Zq ha0) Va.dflt i1))) (fun r16 her16 => ?_)
      have hrr16 := Za4 a0 ((a0.Zq.getD i1 default).XY)
      refine Yg (fun hb7 => ?_) (fun hb7 => ?_)
      · exact X2
      · refine Jd (ZO (dt (by first | omega | (simp; omega) | (simp at *; omega))) (ZO (dt (by first | omega | (simp; omega) | (simp at *; omega))) Yi)) ?_
        refine Yg (fun hb8 => ?_) (fun hb8 => ?_)
        · exact X2
        · exact GL a0 i1 () ha0 hi1
    · exact GL a0 i1 () ha0 hi1
noncomputable def S.QD (a0 : Zf) (i1 : Nat) (p4 : Int) : Option (Unit ⊕ Int) :=
  bif (a0.Zq.getD i1 default).Zd5 then (S.QC a0 i1 (wr .i64 (p4 + 1))) else (S.QC a0 i1 p4)
theorem GN (a0 : Zf) (i1 : Nat) (p4 : Int) (ha0 : Zn a0) (hi1 : i1 < a0.Zq.length) : M.QD a0 (i1 : Int) p4 = some (rdN (S.QD a0 i1 p4) i1) := by
  have hM := Zv
  have hni1 : a0.Zq.length ≤ maxLen := (Zn.Zq ha0).1
  unfold M.QD S.QD
  try simp only [Int.toNat_natCast]
  refine Yg (fun hb4 => ?_) (fun hb4 => ?_)
  · exact GM a0 i1 (wr .i64 (p4 + 1)) ha0 hi1
  · exact GM a0 i1 p4 ha0 hi1
noncomputable def S.QE (a0 : Zf) (i1 : Nat) (p3 : Int) : Option (Unit ⊕ Int) :=
  bif !strEq ((a0.Zq.getD i1 default).XY) (⟨#[]⟩ : ByteArray) then (S.QD a0 i1 (wr .i64 (p3 + 1))) else (S.QD a0 i1 p3)
theorem GO (a0 : Zf) (i1 : Nat) (p3 : Int) (ha0 : Zn a0) (hi1 : i1 < a0.Zq.length) : M.QE a0 (i1 : Int) p3 = some (rdN (S.QE a0 i1 p3) i1) := by
  have hM := Zv
  have hni1 : a0.Zq.length ≤ maxLen := (Zn.Zq ha0).1
  unfold M.QE S.QE
  try simp only [Int.toNat_natCast]
  refine Yg (fun hb3 => ?_) (fun hb3 => ?_)
  · exact GN a0 i1 (wr .i64 (p3 + 1)) ha0 hi1
  · exact GN a0 i1 p3 ha0 hi1
noncomputable def S.JD (a0 : Zf) (i1 : Nat) : Option (Unit ⊕ Int) :=
  bif ((a0.Zq.getD i1 default).UG) != 0 then (S.QE a0 i1 1) else (S.QE a0 i1 0)
theorem Zb4 (a0 : Zf) (ha0 : Zn a0) (i0 : Nat) : loopM (M.JD a0) (i0 : Int) = some (runN (S.JD a0) (.inl ()) i0 (a0.Zq.length - i0)) := by
  have hM := Zv
  have hni1 : a0.Zq.length ≤ maxLen := (Zn.Zq ha0).1
  refine Xz (n := a0.Zq.length) (fun i1 hi1 => ?_) (fun m hm => ?_) i0
  · unfold M.JD S.JD
    try simp only [Int.toNat_natCast]
    refine YE (dt (by omega)) ?_
    refine Jd (ZO (dt (by omega)) (ZO (dt (by omega)) Yi)) ?_
    refine Yg (fun hb2 => ?_) (fun hb2 => ?_)
    · exact GO a0 i1 1 ha0 hi1
    · exact GO a0 i1 0 ha0 hi1
  · unfold M.JD
    try simp only [Int.toNat_natCast]
    exact YF (decide_eq_false (by omega)) rfl
noncomputable def S.J5 (a0 : Zf) : Int :=
  bif decide ((a0.Zq.length : Int) > 16) then 7 else (letS (runN (S.JD a0) (.inl ()) 0 a0.Zq.length) (fun y17 => Sum.elim (fun _ => 0) (fun y19 => y19) y17))
theorem Zeh (a0 : Zf) (ha0 : Zn a0) : M.J5 a0 = some (S.J5 a0) := by
  have hM := Zv
  unfold M.J5 S.J5
  refine WU (fun hb1 => ?_) (fun hb1 => ?_)
  · rfl
  · refine XR (Zb4 a0 ha0 0) (fun y17 hey17 => ?_)
    refine JY (fun _ hl => ?_) (fun y19 hly19 => ?_)
    · rfl
    · rfl
noncomputable def S.Jg (a0 : Zf) (a1 : ByteArray) (i1 : Nat) : Option (Unit ⊕ Int) :=
  bif strEq ((a0.XC.getD i1 default).Xl) a1 then (some (.inr (i1 : Int))) else none
theorem Za5 (a0 : Zf) (a1 : ByteArray) (ha0 : Zn a0) (ha1 : a1.size ≤ maxLen) (i0 : Nat) : loopM (M.Jg a0 a1) (i0 : Int) = some (runN (S.Jg a0 a1) (.inl ()) i0 (a0.XC.length - i0)) := by
  have hM := Zv
  have hni1 : a0.XC.length ≤ maxLen := (Zn.XC ha0).1
  refine Xz (n := a0.XC.length) (fun i1 hi1 => ?_) (fun m hm => ?_) i0
  · unfold M.Jg S.Jg
    try simp only [Int.toNat_natCast]
    refine YE (dt (by omega)) ?_
    refine Jd (ZO (dt (by omega)) (ZO (dt (by omega)) Yi)) ?_
    refine Yg (fun hb1 => ?_) (fun hb1 => ?_)
    · exact X2
    · exact VP (by omega)
  · unfold M.Jg
    try simp only [Int.toNat_natCast]
    exact YF (decide_eq_false (by omega)) rfl
noncomputable def S.QH (a0 : Zf) (a1 : ByteArray) : Int :=
  letS (runN (S.Jg a0 a1) (.inl ()) 0 a0.XC.length) (fun y3 => Sum.elim (fun _ => -1) (fun y5 => y5) y3)
theorem Ga (a0 : Zf) (a1 : ByteArray) (ha0 : Zn a0) (ha1 : a1.size ≤ maxLen) : M.QH a0 a1 = some (S.QH a0 a1) := by
  have hM := Zv
  unfold M.QH S.QH
  refine XR (Za5 a0 a1 ha0 ha1 0) (fun y3 hey3 => ?_)
  refine JY (fun _ hl => ?_) (fun y5 hly5 => ?_)
  · rfl
  · rfl
noncomputable def S.Yj (a1 : List YJ) (i1 : Nat) (i7 : Nat) : Option (Unit ⊕ Int) :=
  bif ((a1.getD i7 default).Gm) == ((a1.getD i1 default).Gm) then (some (.inr 4)) else none
theorem GB (a1 : List YJ) (i1 : Nat) (ha1 : LL Vb a1) (hi1 : i1 < a1.length) (i0 : Nat) : loopM (M.Yj a1 (i1 : Int)) (i0 : Int) = some (runN (S.Yj a1 i1) (.inl ()) i0 (i1 - i0)) := by
  have hM := Zv
  have hni1 : a1.length ≤ maxLen := ha1.1
  have hni7 : i1 ≤ maxLen := (by omega)
  refine Xz (n := i1) (fun i7 hi7 => ?_) (fun m hm => ?_) i0
  · unfold M.Yj S.Yj
    try simp only [Int.toNat_natCast]
    refine YE (dt (by omega)) ?_
    refine Jd (ZO (dt (by omega)) (ZO (dt (by omega)) Yi)) ?_
    refine Yg (fun hb5 => ?_) (fun hb5 => ?_)
    · exact X2
    · exact VP (by omega)
  · unfold M.Yj
    try simp only [Int.toNat_natCast]
    exact YF (decide_eq_false (by omega)) rfl
noncomputable def S.Yk (a0 : Zf) (a1 : List YJ) (a2 : Int) (a3 : Int) (a4 : Int) (i1 : Nat) : Option (Unit ⊕ Int) :=
  letS (S.ZT ((a1.getD i1 default).Gm) 1 5) (fun r3 => letS (bif (!((!r3) || (((a1.getD i1 default).Gm) == a2))) then S.ZT ((a1.getD i1 default).ZbC) a3 a4 else default) (fun r4 => letS (bif (!(((!r3) || (((a1.getD i1 default).Gm) == a2)) || (!r4))) then S.ZT ((a1.getD i1 default).Kr) 0 65535 else default) (fun r5 => bif (((!r3) || (((a1.getD i1 default).Gm) == a2)) || (!r4)) || (!r5) then (some (.inr 1)) else (bif (((a2 == 3) && (((a1.getD i1 default).ZcO) != 1)) && (((a1.getD i1 default).ZcO) != 2)) || ((a2 != 3) && (((a1.getD i1 default).ZcO) != 0)) then (some (.inr 1)) else (letS (bif (!strEq ((a1.getD i1 default).Zcj) (⟨#[]⟩ : ByteArray)) then S.QH a0 ((a1.getD i1 default).Zcj) else default) (fun r6 => bif (!strEq ((a1.getD i1 default).Zcj) (⟨#[]⟩ : ByteArray)) && (decide (r6 < 0)) then (some (.inr 5)) else (letS (runN (S.Yj a1 i1) (.inl ()) 0 i1) (fun y9 => Sum.elim (fun _ => none) (fun y11 => some (.inr y11)) y9))))))))
theorem GC (a0 : Zf) (a1 : List YJ) (a2 : Int) (a3 : Int) (a4 : Int) (ha0 : Zn a0) (ha1 : LL Vb a1) (i0 : Nat) : loopM (M.Yk a0 a1 a2 a3 a4) (i0 : Int) = some (runN (S.Yk a0 a1 a2 a3 a4) (.inl ()) i0 (a1.length - i0)) := by
  have hM := Zv
  have hni1 : a1.length ≤ maxLen := ha1.1
  refine Xz (n := a1.length) (fun i1 hi1 => ?_) (fun m hm => ?_) i0
  · unfold M.Yk S.Yk
    try simp only [Int.toNat_natCast]
    refine YE (dt (by omega)) ?_
    refine Jd (ZO (dt (by omega)) (ZO (dt (by omega)) Yi)) ?_
    refine XE (XT ((a1.getD i1 default).Gm) 1 5) (fun r3 her3 => ?_)
    refine XE (Wd fun hg => (XT ((a1.getD i1 default).ZbC) a3 a4)) (fun r4 her4 => ?_)
    refine XE (Wd fun hg => (XT ((a1.getD i1 default).Kr) 0 65535)) (fun r5 her5 => ?_)
    refine Yg (fun hb2 => ?_) (fun hb2 => ?_)
    · exact X2
    · refine Yg (fun hb3 => ?_) (fun hb3 => ?_)
      · exact X2
      · refine XE (Wd fun hg => (Ga a0 ((a1.getD i1 default).Zcj) ha0 (Vb.Zcj (LL.getD ha1 Vb.dflt i1)))) (fun r6 her6 => ?_)
        refine Yg (fun hb4 => ?_) (fun hb4 => ?_)
        · exact X2
        · refine XE (GB a1 i1 ha1 hi1 0) (fun y9 hey9 => ?_)
          refine VZ (fun _ hl => ?_) (fun y11 hly11 => ?_)
          · exact VP (by omega)
          · exact X2
  · unfold M.Yk
    try simp only [Int.toNat_natCast]
    exact YF (decide_eq_false (by omega)) rfl
noncomputable def S.X1 (a0 : Zf) (a1 : List YJ) (a2 : Int) (a3 : Int) (a4 : Int) : Int :=
  bif decide ((a1.length : Int) > 4) then 7 else (letS (runN (S.Yk a0 a1 a2 a3 a4) (.inl ()) 0 a1.length) (fun y12 => Sum.elim (fun _ => 0) (fun y14 => y14) y12))
theorem WR (a0 : Zf) (a1 : List YJ) (a2 : Int) (a3 : Int) (a4 : Int) (ha0 : Zn a0) (ha1 : LL Vb a1) : M.X1 a0 a1 a2 a3 a4 = some (S.X1 a0 a1 a2 a3 a4) := by
  have hM := Zv
  unfold M.X1 S.X1
  refine WU (fun hb1 => ?_) (fun hb1 => ?_)
  · rfl
  · refine XR (GC a0 a1 a2 a3 a4 ha0 ha1 0) (fun y12 hey12 => ?_)
    refine JY (fun _ hl => ?_) (fun y14 hly14 => ?_)
    · rfl
    · rfl
noncomputable def S.QQ (a0 : Zf) (i2 : Nat) (i6 : Nat) : Option (Unit ⊕ Int) :=
  letS (bif (((a0.Yf.Z6.getD i6 default).VQ) == ((a0.Yf.Z6.getD i2 default).VQ)) then S.Qm ((a0.Yf.Z6.getD i6 default).Zo) ((a0.Yf.Z6.getD i2 default).Zo) else default) (fun r8 => bif (((a0.Yf.Z6.getD i6 default).VQ) == ((a0.Yf.Z6.getD i2 default).VQ)) && r8 then (some (.inr 6)) else none)
theorem Zan (a0 : Zf) (i2 : Nat) (ha0 : Zn a0) (hi2 : i2 < a0.Yf.Z6.length) (i0 : Nat) : loopM (M.QQ a0 (i2 : Int)) (i0 : Int) = some (runN (S.QQ a0 i2) (.inl ()) i0 (i2 - i0)) := by
  have hM := Zv
  have hni2 : a0.Yf.Z6.length ≤ maxLen := (Jo.Z6 (Zn.Yf ha0))
  have hni6 : i2 ≤ maxLen := (by omega)
  refine Xz (n := i2) (fun i6 hi6 => ?_) (fun m hm => ?_) i0
  · unfold M.QQ S.QQ
    try simp only [Int.toNat_natCast]
    refine YE (dt (by omega)) ?_
    refine XE (Wd fun hg => (KP ((a0.Yf.Z6.getD i6 default).Zo) ((a0.Yf.Z6.getD i2 default).Zo))) (fun r8 her8 => ?_)
    refine Jd (ZO (dt (by omega)) (ZO (dt (by omega)) (ZO (dt (by omega)) (ZO (dt (by omega)) (ZO (Y9 fun hg => (dt (by first | omega | (simp; omega) | (simp at *; omega)))) (ZO (Y9 fun hg => (dt (by first | omega | (simp; omega) | (simp at *; omega)))) (ZO (Y9 fun hg => (dt (by first | omega | (simp; omega) | (simp at *; omega)))) (ZO (Y9 fun hg => (dt (by first | omega | (simp; omega) | (simp at *; omega)))) Yi)))))))) ?_
    refine Yg (fun hb6 => ?_) (fun hb6 => ?_)
    · exact X2
    · exact VP (by omega)
  · unfold M.QQ
    try simp only [Int.toNat_natCast]
    exact YF (decide_eq_false (by omega)) rfl
noncomputable def S.QR (a0 : Zf) (i2 : Nat) : Option (Unit ⊕ Int) :=
  letS (S.ZT ((a0.Yf.Z6.getD i2 default).VQ) 0 255) (fun r4 => letS (bif (!(!r4)) then S.Y8 ((a0.Yf.Z6.getD i2 default).Zo) else default) (fun r5 => bif (!r4) || (!r5) then (some (.inr 1)) else (letS (runN (S.QQ a0 i2) (.inl ()) 0 i2) (fun y9 => Sum.elim (fun _ => none) (fun y11 => some (.inr y11)) y9))))
theorem Zao (a0 : Zf) (ha0 : Zn a0) (i0 : Nat) : loopM (M.QR a0) (i0 : Int) = some (runN (S.QR a0) (.inl ()) i0 (a0.Yf.Z6.length - i0)) := by
  have hM := Zv
  have hni2 : a0.Yf.Z6.length ≤ maxLen := (Jo.Z6 (Zn.Yf ha0))
  refine Xz (n := a0.Yf.Z6.length) (fun i2 hi2 => ?_) (fun m hm => ?_) i0
  · unfold M.QR S.QR
    try simp only [Int.toNat_natCast]
    refine YE (dt (by omega)) ?_
    refine XE (XT ((a0.Yf.Z6.getD i2 default).VQ) 0 255) (fun r4 her4 => ?_)
    refine XE (Wd fun hg => (WQ ((a0.Yf.Z6.getD i2 default).Zo))) (fun r5 her5 => ?_)
    refine Jd (ZO (dt (by omega)) (ZO (dt (by omega)) (ZO (Y9 fun hg => (dt (by first | omega | (simp; omega) | (simp at *; omega)))) (ZO (Y9 fun hg => (dt (by first | omega | (simp; omega) | (simp at *; omega)))) Yi)))) ?_
    refine Yg (fun hb5 => ?_) (fun hb5 => ?_)
    · exact X2
    · refine XE (Zan a0 i2 ha0 hi2 0) (fun y9 hey9 => ?_)
      refine VZ (fun _ hl => ?_) (fun y11 hly11 => ?_)
      · exact VP (by omega)
      · exact X2
  · unfold M.QR
    try simp only [Int.toNat_natCast]
    exact YF (decide_eq_false (by omega)) rfl
noncomputable def S.Q1 (a0 : Zf) : Int :=
  bif !a0.Yf.Vq then (bif ((a0.Yf.Xq != 0) || (decide ((a0.Yf.Z6.length : Int) > 0))) || (decide ((a0.Yf.Zr.length : Int) > 0)) then 1 else 0) else (letS (S.ZT a0.Yf.Xq 1 255) (fun r1 => bif !r1 then 1 else (bif decide ((a0.Yf.Z6.length : Int) > 4) then 7 else (letS (runN (S.QR a0) (.inl ()) 0 a0.Yf.Z6.length) (fun y12 => Sum.elim (fun _ => letS (S.X1 a0 a0.Yf.Zr 3 0 16777215) (fun r15 => r15)) (fun y14 => y14) y12)))))
theorem ZcC (a0 : Zf) (ha0 : Zn a0) : M.Q1 a0 = some (S.Q1 a0) := by
  have hM := Zv
  unfold M.Q1 S.Q1
  refine WU (fun hb1 => ?_) (fun hb1 => ?_)
  · refine WU (fun hb2 => ?_) (fun hb2 => ?_)
    · rfl
    · rfl
  · refine XR (XT a0.Yf.Xq 1 255) (fun r1 her1 => ?_)
    refine WU (fun hb3 => ?_) (fun hb3 => ?_)
    · rfl
    · refine WU (fun hb4 => ?_) (fun hb4 => ?_)
      · rfl
      · refine XR (Zao a0 ha0 0) (fun y12 hey12 => ?_)
        refine JY (fun _ hl => ?_) (fun y14 hly14 => ?_)
        · refine XR (WR a0 a0.Yf.Zr 3 0 16777215 ha0 (Jo.Zr (Zn.Yf ha0))) (fun r15 her15 => ?_)
          rfl
        · rfl
noncomputable def S.Ju (a0 : Zf) : Int :=
  bif !a0.Ym.Vq then (bif (((a0.Ym.Xq != 0) || (!strEq a0.Ym.VG (⟨#[]⟩ : ByteArray))) || (!strEq a0.Ym.Y7 (⟨#[]⟩ : ByteArray))) || (decide ((a0.Ym.Zr.length : Int) > 0)) then 1 else 0) else (letS (S.ZT a0.Ym.Xq 1 255) (fun r1 => bif !r1 then 1 else (letS (bif (!strEq a0.Ym.VG (⟨#[]⟩ : ByteArray)) then S.YN a0 a0.Ym.VG else default) (fun r2 => letS (bif ((!((!strEq a0.Ym.VG (⟨#[]⟩ : ByteArray)) && (decide (r2 < 0)))) && (!strEq a0.Ym.Y7 (⟨#[]⟩ : ByteArray))) then S.YN a0 a0.Ym.Y7 else default) (fun r3 => bif ((!strEq a0.Ym.VG (⟨#[]⟩ : ByteArray)) && (decide (r2 < 0))) || ((!strEq a0.Ym.Y7 (⟨#[]⟩ : ByteArray)) && (decide (r3 < 0))) then 5 else (letS (S.X1 a0 a0.Ym.Zr 4 1 15) (fun r4 => r4)))))))
theorem Zc9 (a0 : Zf) (ha0 : Zn a0) : M.Ju a0 = some (S.Ju a0) := by
  have hM := Zv
  unfold M.Ju S.Ju
  refine WU (fun hb1 => ?_) (fun hb1 => ?_)
  · refine WU (fun hb2 => ?_) (fun hb2 => ?_)
    · rfl
    · rfl
  · refine XR (XT a0.Ym.Xq 1 255) (fun r1 her1 => ?_)
    refine WU (fun hb3 => ?_) (fun hb3 => ?_)
    · rfl
    · refine XR (Wd fun hg => (UM a0 a0.Ym.VG ha0 (X5.VG (Zn.Ym ha0)))) (fun r2 her2 => ?_)
      refine XR (Wd fun hg => (UM a0 a0.Ym.Y7 ha0 (X5.Y7 (Zn.Ym ha0)))) (fun r3 her3 => ?_)
      refine WU (fun hb4 => ?_) (fun hb4 => ?_)
      · rfl
      · refine XR (WR a0 a0.Ym.Zr 4 1 15 ha0 (X5.Zr (Zn.Ym ha0))) (fun r4 her4 => ?_)
        rfl
noncomputable def S.QS (a0 : Zf) (i1 : Nat) (i6 : Nat) : Option (Unit ⊕ Int) :=
  bif ((a0.Xr.Zm.getD i6 default).Zs) == ((a0.Xr.Zm.getD i1 default).Zs) then (some (.inr 4)) else none
theorem Zap (a0 : Zf) (i1 : Nat) (ha0 : Zn a0) (hi1 : i1 < a0.Xr.Zm.length) (i0 : Nat) : loopM (M.QS a0 (i1 : Int)) (i0 : Int) = some (runN (S.QS a0 i1) (.inl ()) i0 (i1 - i0)) := by
  have hM := Zv
  have hni1 : a0.Xr.Zm.length ≤ maxLen := (Xk.Zm (Zn.Xr ha0)).1
  have hni6 : i1 ≤ maxLen := (by omega)
  refine Xz (n := i1) (fun i6 hi6 => ?_) (fun m hm => ?_) i0
  · unfold M.QS S.QS
    try simp only [Int.toNat_natCast]
    refine YE (dt (by omega)) ?_
    refine Jd (ZO (dt (by omega)) (ZO (dt (by omega)) (ZO (dt (by omega)) (ZO (dt (by omega)) Yi)))) ?_
    refine Yg (fun hb4 => ?_) (fun hb4 => ?_)
    · exact X2
    · exact VP (by omega)
  · unfold M.QS
    try simp only [Int.toNat_natCast]
    exact YF (decide_eq_false (by omega)) rfl
noncomputable def S.QT (a0 : Zf) (i1 : Nat) : Option (Unit ⊕ Int) :=
  letS (bif (!(((a0.Xr.Zm.getD i1 default).Zs) == 0)) then S.ZT ((a0.Xr.Zm.getD i1 default).Ge) 1 65535 else default) (fun r3 => bif (((a0.Xr.Zm.getD i1 default).Zs) == 0) || (!r3) then (some (.inr 1)) else (letS (bif (!strEq ((a0.Xr.Zm.getD i1 default).VG) (⟨#[]⟩ : ByteArray)) then S.QH a0 ((a0.Xr.Zm.getD i1 default).VG) else default) (fun r4 => letS (bif ((!((!strEq ((a0.Xr.Zm.getD i1 default).VG) (⟨#[]⟩ : ByteArray)) && (decide (r4 < 0)))) && (!strEq ((a0.Xr.Zm.getD i1 default).Y7) (⟨#[]⟩ : ByteArray))) then S.QH a0 ((a0.Xr.Zm.getD i1 default).Y7) else default) (fun r5 => bif ((!strEq ((a0.Xr.Zm.getD i1 default).VG) (⟨#[]⟩ : ByteArray)) && (decide (r4 < 0))) || ((!strEq ((a0.Xr.Zm.getD i1 default).Y7) (⟨#[]⟩ : ByteArray)) && (decide (r5 < 0))) then (some (.inr 5)) else (letS (runN (S.QS a0 i1) (.inl ()) 0 i1) (fun y8 => Sum.elim (fun _ => none) (fun y10 => some (.inr y10)) y8))))))
theorem Zaq (a0 : Zf) (ha0 : Zn a0) (i0 : Nat) : loopM (M.QT a0) (i0 : Int) = some (runN (S.QT a0) (.inl ()) i0 (a0.Xr.Zm.length - i0)) := by
  have hM := Zv
  have hni1 : a0.Xr.Zm.length ≤ maxLen := (Xk.Zm (Zn.Xr ha0)).1
  refine Xz (n := a0.Xr.Zm.length) (fun i1 hi1 => ?_) (fun m hm => ?_) i0
  · unfold M.QT S.QT
    try simp only [Int.toNat_natCast]
    refine YE (dt (by omega)) ?_
    refine XE (Wd fun hg => (XT ((a0.Xr.Zm.getD i1 default).Ge) 1 65535)) (fun r3 her3 => ?_)
    refine Jd (ZO (dt (by omega)) (ZO (dt (by omega)) (ZO (Y9 fun hg => (dt (by first | omega | (simp; omega) | (simp at *; omega)))) (ZO (Y9 fun hg => (dt (by first | omega | (simp; omega) | (simp at *; omega)))) Yi)))) ?_
    refine Yg (fun hb2 => ?_) (fun hb2 => ?_)
    · exact X2
    · refine XE (Wd fun hg => (Ga a0 ((a0.Xr.Zm.getD i1 default).VG) ha0 (JT.VG (LL.getD (Xk.Zm (Zn.Xr ha0)) JT.dflt i1)))) (fun r4 her4 => ?_)
      refine XE (Wd fun hg => (Ga a0 ((a0.Xr.Zm.getD i1 default).Y7) ha0 (JT.Y7 (LL.getD (Xk.Zm (Zn.Xr ha0)) JT.dflt i1)))) (fun r5 her5 => ?_)
      refine Jd (ZO (dt (by omega)) (ZO (dt (by omega)) (ZO (Y9 fun hg => (dt (by first | omega | (simp; omega) | (simp at *; omega)))) (ZO (Y9 fun hg => (dt (by first | omega | (simp; omega) | (simp at *; omega)))) (ZO (Y9 fun hg => (dt (by first | omega | (simp; omega) | (simp at *; omega)))) (ZO (Y9 fun hg => (dt (by first | omega | (simp; omega) | (simp at *; omega)))) (ZO (Y9 fun hg => (dt (by first | omega | (simp; omega) | (simp at *; omega)))) (ZO (Y9 fun hg => (dt (by first | omega | (simp; omega) | (simp at *; omega)))) Yi)))))))) ?_
      refine Yg (fun hb3 => ?_) (fun hb3 => ?_)
      · exact X2
      · refine XE (Zap a0 i1 ha0 hi1 0) (fun y8 hey8 => ?_)
        refine VZ (fun _ hl => ?_) (fun y10 hly10 => ?_)
        · exact VP (by omega)
        · exact X2
  · unfold M.QT
    try simp only [Int.toNat_natCast]
    exact YF (decide_eq_false (by omega)) rfl
noncomputable def S.J6 (a0 : Zf) : Int :=
  bif decide ((a0.Xr.Zm.length : Int) > 8) then 7 else (letS (runN (S.QT a0) (.inl ()) 0 a0.Xr.Zm.length) (fun y11 => Sum.elim (fun _ => 0) (fun y13 => y13) y11))
theorem ZcD (a0 : Zf) (ha0 : Zn a0) : M.J6 a0 = some (S.J6 a0) := by
  have hM := Zv
  unfold M.J6 S.J6
  refine WU (fun hb1 => ?_) (fun hb1 => ?_)
  · rfl
  · refine XR (Zaq a0 ha0 0) (fun y11 hey11 => ?_)
    refine JY (fun _ hl => ?_) (fun y13 hly13 => ?_)
    · rfl
    · rfl
noncomputable def S.YW (a0 : Xw) (i1 : Nat) (i4 : Nat) : Option (Unit ⊕ Int) :=
  bif ((((a0.Z0.getD i4 default).Zs) == ((a0.Z0.getD i1 default).Zs)) && ((((a0.Z0.getD i4 default).ZR) == ((a0.Z0.getD i1 default).ZR)) && true)) then (some (.inr 4)) else none
theorem KH (a0 : Xw) (i1 : Nat) (ha0 : Xk a0) (hi1 : i1 < a0.Z0.length) (i0 : Nat) : loopM (M.YW a0 (i1 : Int)) (i0 : Int) = some (runN (S.YW a0 i1) (.inl ()) i0 (i1 - i0)) := by
  have hM := Zv
  have hni1 : a0.Z0.length ≤ maxLen := (Xk.Z0 ha0)
  have hni4 : i1 ≤ maxLen := (by omega)
  refine Xz (n := i1) (fun i4 hi4 => ?_) (fun m hm => ?_) i0
  · unfold M.YW S.YW
    try simp only [Int.toNat_natCast]
    refine YE (dt (by omega)) ?_
    refine Jd (ZO (dt (by omega)) (ZO (dt (by omega)) (ZO (dt (by omega)) (ZO (dt (by omega)) Yi)))) ?_
    refine Yg (fun hb3 => ?_) (fun hb3 => ?_)
    · exact X2
    · exact VP (by omega)
  · unfold M.YW
    try simp only [Int.toNat_natCast]
    exact YF (decide_eq_false (by omega)) rfl
noncomputable def S.YX (a0 : Xw) (i1 : Nat) : Option (Unit ⊕ Int) :=
  letS (S.Y8 (a0.Z0.getD i1 default)) (fun r3 => bif !r3 then (some (.inr 1)) else (letS (runN (S.YW a0 i1) (.inl ()) 0 i1) (fun y6 => Sum.elim (fun _ => none) (fun y8 => some (.inr y8)) y6)))
theorem KI (a0 : Xw) (ha0 : Xk a0) (i0 : Nat) : loopM (M.YX a0) (i0 : Int) = some (runN (S.YX a0) (.inl ()) i0 (a0.Z0.length - i0)) := by
  have hM := Zv
  have hni1 : a0.Z0.length ≤ maxLen := (Xk.Z0 ha0)
  refine Xz (n := a0.Z0.length) (fun i1 hi1 => ?_) (fun m hm => ?_) i0
  · unfold M.YX S.YX
    try simp only [Int.toNat_natCast]
    refine YE (dt (by omega)) ?_
    refine XE (WQ (a0.Z0.getD i1 default)) (fun r3 her3 => ?_)
    refine Jd (ZO (dt (by omega)) (ZO (dt (by omega)) Yi)) ?_
    refine Yg (fun hb2 => ?_) (fun hb2 => ?_)
    · exact X2
    · refine XE (KH a0 i1 ha0 hi1 0) (fun y6 hey6 => ?_)
      refine VZ (fun _ hl => ?_) (fun y8 hly8 => ?_)
      · exact VP (by omega)
      · exact X2
  · unfold M.YX
    try simp only [Int.toNat_natCast]
    exact YF (decide_eq_false (by omega)) rfl
noncomputable def S.YY (a0 : Xw) (i12 : Nat) (i15 : Nat) : Option (Unit ⊕ Int) :=
  bif (((((a0.ZC.getD i15 default).Zo).Zs) == (((a0.ZC.getD i12 default).Zo).Zs)) && (((((a0.ZC.getD i15 default).Zo).ZR) == (((a0.ZC.getD i12 default).Zo).ZR)) && true)) then (some (.inr 4)) else none
theorem KJ (a0 : Xw) (i12 : Nat) (ha0 : Xk a0) (hi12 : i12 < a0.ZC.length) (i0 : Nat) : loopM (M.YY a0 (i12 : Int)) (i0 : Int) = some (runN (S.YY a0 i12) (.inl ()) i0 (i12 - i0)) := by
  have hM := Zv
  have hni12 : a0.ZC.length ≤ maxLen := (Xk.ZC ha0)
  have hni15 : i12 ≤ maxLen := (by omega)
  refine Xz (n := i12) (fun i15 hi15 => ?_) (fun m hm => ?_) i0
  · unfold M.YY S.YY
    try simp only [Int.toNat_natCast]
    refine YE (dt (by omega)) ?_
    refine Jd (ZO (dt (by omega)) (ZO (dt (by omega)) (ZO (dt (by omega)) (ZO (dt (by omega)) Yi)))) ?_
    refine Yg (fun hb6 => ?_) (fun hb6 => ?_)
    · exact X2
    · exact VP (by omega)
  · unfold M.YY
    try simp only [Int.toNat_natCast]
    exact YF (decide_eq_false (by omega)) rfl
noncomputable def S.YZ (a0 : Xw) (i12 : Nat) : Option (Unit ⊕ Int) :=
  letS (S.Y8 ((a0.ZC.getD i12 default).Zo)) (fun r14 => bif !r14 then (some (.inr 1)) else (letS (runN (S.YY a0 i12) (.inl ()) 0 i12) (fun y17 => Sum.elim (fun _ => none) (fun y19 => some (.inr y19)) y17)))
theorem KK (a0 : Xw) (ha0 : Xk a0) (i0 : Nat) : loopM (M.YZ a0) (i0 : Int) = some (runN (S.YZ a0) (.inl ()) i0 (a0.ZC.length - i0)) := by
  have hM := Zv
  have hni12 : a0.ZC.length ≤ maxLen := (Xk.ZC ha0)
  refine Xz (n := a0.ZC.length) (fun i12 hi12 => ?_) (fun m hm => ?_) i0
  · unfold M.YZ S.YZ
    try simp only [Int.toNat_natCast]
    refine YE (dt (by omega)) ?_
    refine XE (WQ ((a0.ZC.getD i12 default).Zo)) (fun r14 her14 => ?_)
    refine Jd (ZO (dt (by omega)) (ZO (dt (by omega)) Yi)) ?_
    refine Yg (fun hb5 => ?_) (fun hb5 => ?_)
    · exact X2
    · refine XE (KJ a0 i12 ha0 hi12 0) (fun y17 hey17 => ?_)
      refine VZ (fun _ hl => ?_) (fun y19 hly19 => ?_)
      · exact VP (by omega)
      · exact X2
  · unfold M.YZ
    try simp only [Int.toNat_natCast]
    exact YF (decide_eq_false (by omega)) rfl
noncomputable def S.Y0 (a0 : Xw) (i23 : Nat) (i27 : Nat) : Option (Unit ⊕ Int) :=
  bif (((((a0.Zt.getD i27 default).Zo).Zs) == (((a0.Zt.getD i23 default).Zo).Zs)) && (((((a0.Zt.getD i27 default).Zo).ZR) == (((a0.Zt.getD i23 default).Zo).ZR)) && true)) then (some (.inr 4)) else none
theorem KL (a0 : Xw) (i23 : Nat) (ha0 : Xk a0) (hi23 : i23 < a0.Zt.length) (i0 : Nat) : loopM (M.Y0 a0 (i23 : Int)) (i0 : Int) = some (runN (S.Y0 a0 i23) (.inl ()) i0 (i23 - i0)) := by
  have hM := Zv
  have hni23 : a0.Zt.length ≤ maxLen := (Xk.Zt ha0)
  have hni27 : i23 ≤ maxLen := (by omega)
  refine Xz (n := i23) (fun i27 hi27 => ?_) (fun m hm => ?_) i0
  · unfold M.Y0 S.Y0
    try simp only [Int.toNat_natCast]
    refine YE (dt (by omega)) ?_
    refine Jd (ZO (dt (by omega)) (ZO (dt (by omega)) Yi)) ?_
    refine Yg (fun hb10 => ?_) (fun hb10 => ?_)
    · exact X2
    · exact VP (by omega)
  · unfold M.Y0
    try simp only [Int.toNat_natCast]
    exact YF (decide_eq_false (by omega)) rfl
noncomputable def S.Y1 (a0 : Xw) (i23 : Nat) : Option (Unit ⊕ Int) :=
  letS (S.Y8 ((a0.Zt.getD i23 default).Zo)) (fun r25 => letS (bif (!(!r25)) then S.Y8 ((a0.Zt.getD i23 default).fIf) else default) (fun r26 => bif (!r25) || (!r26) then (some (.inr 1)) else (bif (((((a0.Zt.getD i23 default).Zo).Zs) == (((a0.Zt.getD i23 default).fIf).Zs)) && (((((a0.Zt.getD i23 default).Zo).ZR) == (((a0.Zt.getD i23 default).fIf).ZR)) && true)) then (some (.inr 6)) else (letS (runN (S.Y0 a0 i23) (.inl ()) 0 i23) (fun y29 => Sum.elim (fun _ => none) (fun y31 => some (.inr y31)) y29)))))
theorem KM (a0 : Xw) (ha0 : Xk a0) (i0 : Nat) : loopM (M.Y1 a0) (i0 : Int) = some (runN (S.Y1 a0) (.inl ()) i0 (a0.Zt.length - i0)) := by
  have hM := Zv
  have hni23 : a0.Zt.length ≤ maxLen := (Xk.Zt ha0)
  refine Xz (n := a0.Zt.length) (fun i23 hi23 => ?_) (fun m hm => ?_) i0
  · unfold M.Y1 S.Y1
    try simp only [Int.toNat_natCast]
    refine YE (dt (by omega)) ?_
    refine Jd (ZO (dt (by omega)) (ZO (dt (by omega)) Yi)) ?_
    refine XE (WQ ((a0.Zt.getD i23 default).Zo)) (fun r25 her25 => ?_)
    refine XE (Wd fun hg => (WQ ((a0.Zt.getD i23 default).fIf))) (fun r26 her26 => ?_)
    refine Yg (fun hb8 => ?_) (fun hb8 => ?_)
    · exact X2
    · refine Yg (fun hb9 => ?_) (fun hb9 => ?_)
      · exact X2
      · refine XE (KL a0 i23 ha0 hi23 0) (fun y29 hey29 => ?_)
        refine VZ (fun _ hl => ?_) (fun y31 hly31 => ?_)
        · exact VP (by omega)
        · exact X2
  · unfold M.Y1
    try simp only [Int.toNat_natCast]
    exact YF (decide_eq_false (by omega)) rfl
noncomputable def S.QU (a0 : Xw) : Int :=
  bif decide ((a0.Z0.length : Int) > 8) then 7 else (letS (runN (S.YX a0) (.inl ()) 0 a0.Z0.length) (fun y9 => Sum.elim (fun _ => bif decide ((a0.ZC.length : Int) > 8) then 7 else (letS (runN (S.YZ a0) (.inl ()) 0 a0.ZC.length) (fun y20 => Sum.elim (fun _ => bif decide ((a0.Zt.length : Int) > 8) then 7 else (letS (runN (S.Y1 a0) (.inl ()) 0 a0.Zt.length) (fun y32 => Sum.elim (fun _ => 0) (fun y34 => y34) y32))) (fun y22 => y22) y20))) (fun y11 => y11) y9))
theorem Zar (a0 : Xw) (ha0 : Xk a0) : M.QU a0 = some (S.QU a0) := by
  have hM := Zv
  unfold M.QU S.QU
  refine WU (fun hb1 => ?_) (fun hb1 => ?_)
  · rfl
  · refine XR (KI a0 ha0 0) (fun y9 hey9 => ?_)
    refine JY (fun _ hl => ?_) (fun y11 hly11 => ?_)
    · refine WU (fun hb4 => ?_) (fun hb4 => ?_)
      · rfl
      · refine XR (KK a0 ha0 0) (fun y20 hey20 => ?_)
        refine JY (fun _ hl => ?_) (fun y22 hly22 => ?_)
        · refine WU (fun hb7 => ?_) (fun hb7 => ?_)
          · rfl
          · refine XR (KM a0 ha0 0) (fun y32 hey32 => ?_)
            refine JY (fun _ hl => ?_) (fun y34 hly34 => ?_)
            · rfl
            · rfl
        · rfl
    · rfl
noncomputable def S.QF (a0 : Zf) : Int :=
  bif !a0.Xr.Vq then (bif ((a0.Xr.XU != 0) || (a0.Xr.XV != 0)) || (decide ((wr .i64 ((wr .i64 ((wr .i64 ((wr .i64 ((a0.Xr.Zm.length : Int) + (a0.Xr.Z0.length : Int))) + (a0.Xr.ZC.length : Int))) + (a0.Xr.Zt.length : Int))) + (a0.Xr.Zr.length : Int))) > 0)) then 1 else 0) else (letS (bif (!(a0.Ge == 0)) then S.ZT a0.Xr.XU 1 255 else default) (fun r1 => letS (bif (!((a0.Ge == 0) || (!r1))) then S.ZT a0.Xr.XV 1 255 else default) (fun r2 => bif ((a0.Ge == 0) || (!r1)) || (!r2) then 1 else (letS (S.J6 a0) (fun r3 => bif r3 != 0 then r3 else (letS (S.QU a0.Xr) (fun r4 => bif r4 != 0 then r4 else (letS (S.X1 a0 a0.Xr.Zr 5 0 16777215) (fun r5 => r5)))))))))
theorem Zb5 (a0 : Zf) (ha0 : Zn a0) : M.QF a0 = some (S.QF a0) := by
  have hM := Zv
  unfold M.QF S.QF
  refine WU (fun hb1 => ?_) (fun hb1 => ?_)
  · refine WU (fun hb2 => ?_) (fun hb2 => ?_)
    · rfl
    · rfl
  · refine XR (Wd fun hg => (XT a0.Xr.XU 1 255)) (fun r1 her1 => ?_)
    refine XR (Wd fun hg => (XT a0.Xr.XV 1 255)) (fun r2 her2 => ?_)
    refine WU (fun hb3 => ?_) (fun hb3 => ?_)
    · rfl
    · refine XR (ZcD a0 ha0) (fun r3 her3 => ?_)
      refine WU (fun hb4 => ?_) (fun hb4 => ?_)
      · rfl
      · refine XR (Zar a0.Xr (Zn.Xr ha0)) (fun r4 her4 => ?_)
        refine WU (fun hb5 => ?_) (fun hb5 => ?_)
        · rfl
        · refine XR (WR a0 a0.Xr.Zr 5 0 16777215 ha0 (Xk.Zr (Zn.Xr ha0))) (fun r5 her5 => ?_)
          rfl
noncomputable def S.Yc (r3 : Int) (r4 : Int) (r5 : Int) (r6 : Int) (r7 : Int) (r8 : Int) (r9 : Int) (r10 : Int) (r11 : Int) (r12 : Int) (i13 : Nat) : Option (Unit ⊕ Int) :=
  bif (([r3, r4, r5, r6, r7, r8, r9, r10, r11, r12] : List Int).getD i13 default) != 0 then (some (.inr (([r3, r4, r5, r6, r7, r8, r9, r10, r11, r12] : List Int).getD i13 default))) else none
theorem K4 (r3 : Int) (r4 : Int) (r5 : Int) (r6 : Int) (r7 : Int) (r8 : Int) (r9 : Int) (r10 : Int) (r11 : Int) (r12 : Int)  (i0 : Nat) : loopM (M.Yc r3 r4 r5 r6 r7 r8 r9 r10 r11 r12) (i0 : Int) = some (runN (S.Yc r3 r4 r5 r6 r7 r8 r9 r10 r11 r12) (.inl ()) i0 (([r3, r4, r5, r6, r7, r8, r9, r10, r11, r12] : List Int).length - i0)) := by
  have hM := Zv
  have hni13 : ([r3, r4, r5, r6, r7, r8, r9, r10, r11, r12] : List Int).length ≤ maxLen := (by simp [Zv])
  refine Xz (n := ([r3, r4, r5, r6, r7, r8, r9, r10, r11, r12] : List Int).length) (fun i13 hi13 => ?_) (fun m hm => ?_) i0
  · unfold M.Yc S.Yc
    try simp only [Int.toNat_natCast]
    refine YE (dt (by omega)) ?_
    refine Jd (ZO (dt (by omega)) (ZO (dt (by first | omega | (simp; omega) | (simp at *; omega))) Yi)) ?_
    refine Yg (fun hb3 => ?_) (fun hb3 => ?_)
    · refine Jd (ZO (dt (by omega)) (ZO (dt (by first | omega | (simp; omega) | (simp at *; omega))) Yi)) ?_
      exact X2
    · exact VP (by omega)
  · unfold M.Yc
    try simp only [Int.toNat_natCast]
    exact YF (decide_eq_false (by omega)) rfl
noncomputable def S.Yl (a0 : Zf) : Int :=
  letS (S.QX a0.Xl) (fun r1 => bif !r1 then 3 else (letS (S.ZT a0.Ge 0 65535) (fun r2 => bif !r2 then 1 else (letS (S.Yb a0.Zc) (fun r3 => letS (S.Qk a0.Yt) (fun r4 => letS (S.QZ a0) (fun r5 => letS (S.Ql a0.YC) (fun r6 => letS (S.YV a0) (fun r7 => letS (S.J4 a0) (fun r8 => letS (S.J5 a0) (fun r9 => letS (S.Q1 a0) (fun r10 => letS (S.Ju a0) (fun r11 => letS (S.QF a0) (fun r12 => letS (runN (S.Yc r3 r4 r5 r6 r7 r8 r9 r10 r11 r12) (.inl ()) 0 (([r3, r4, r5, r6, r7, r8, r9, r10, r11, r12] : List Int).length)) (fun y15 => Sum.elim (fun _ => 0) (fun y17 => y17) y15)))))))))))))))
theorem Za6 (a0 : Zf) (ha0 : Zn a0) : M.Yl a0 = some (S.Yl a0) := by
  have hM := Zv
  unfold M.Yl S.Yl
  refine XR (U5 a0.Xl (Zn.Xl ha0)) (fun r1 her1 => ?_)
  refine WU (fun hb1 => ?_) (fun hb1 => ?_)
  · rfl
  · refine XR (XT a0.Ge 0 65535) (fun r2 her2 => ?_)
    refine WU (fun hb2 => ?_) (fun hb2 => ?_)
    · rfl
    · refine XR (ZbZ a0.Zc (Zn.Zc ha0)) (fun r3 her3 => ?_)
      refine XR (Za1 a0.Yt (Zn.Yt ha0)) (fun r4 her4 => ?_)
      refine XR (Zcz a0 ha0) (fun r5 her5 => ?_)
      refine XR (Za2 a0.YC (Zn.YC ha0)) (fun r6 her6 => ?_)
      refine XR (Zal a0 ha0) (fun r7 her7 => ?_)
      refine XR (Zeg a0 ha0) (fun r8 her8 => ?_)
      refine XR (Zeh a0 ha0) (fun r9 her9 => ?_)
      refine XR (ZcC a0 ha0) (fun r10 her10 => ?_)
      refine XR (Zc9 a0 ha0) (fun r11 her11 => ?_)
      refine XR (Zb5 a0 ha0) (fun r12 her12 => ?_)
      refine XR (K4 r3 r4 r5 r6 r7 r8 r9 r10 r11 r12 0) (fun y15 hey15 => ?_)
      refine JY (fun _ hl => ?_) (fun y17 hly17 => ?_)
      · rfl
      · rfl
noncomputable def S.Jv (a0 : Zw) (i1 : Nat) (i4 : Nat) : Option (Unit ⊕ Int) :=
  bif strEq ((a0.Zd.getD i4 default).Xl) ((a0.Zd.getD i1 default).Xl) then (some (.inr 4)) else none
theorem Zda (a0 : Zw) (i1 : Nat) (ha0 : Yv a0) (hi1 : i1 < a0.Zd.length) (i0 : Nat) : loopM (M.Jv a0 (i1 : Int)) (i0 : Int) = some (runN (S.Jv a0 i1) (.inl ()) i0 (i1 - i0)) := by
  have hM := Zv
  have hni1 : a0.Zd.length ≤ maxLen := (Yv.Zd ha0).1
  have hni4 : i1 ≤ maxLen := (by omega)
  refine Xz (n := i1) (fun i4 hi4 => ?_) (fun m hm => ?_) i0
  · unfold M.Jv S.Jv
    try simp only [Int.toNat_natCast]
    refine YE (dt (by omega)) ?_
    refine Jd (ZO (dt (by omega)) (ZO (dt (by omega)) (ZO (dt (by omega)) (ZO (dt (by omega)) Yi)))) ?_
    refine Yg (fun hb3 => ?_) (fun hb3 => ?_)
    · exact X2
    · exact VP (by omega)
  · unfold M.Jv
    try simp only [Int.toNat_natCast]
    exact YF (decide_eq_false (by omega)) rfl
noncomputable def S.Q9 (a0 : Zw) (i1 : Nat) (i9 : Nat) (i11 : Nat) : Option (Unit ⊕ Int) :=
  letS (bif (((((a0.Zd.getD i1 default).Zc).getD i9 default).ZR) != 0) then S.QP (a0.Zd.getD i11 default) ((((a0.Zd.getD i1 default).Zc).getD i9 default).Zs) else default) (fun r13 => bif (((((a0.Zd.getD i1 default).Zc).getD i9 default).ZR) != 0) && (decide (r13 ≥ 0)) then (some (.inr 4)) else none)
theorem Zdb (a0 : Zw) (i1 : Nat) (i9 : Nat) (ha0 : Yv a0) (hi1 : i1 < a0.Zd.length) (hi9 : i9 < ((a0.Zd.getD i1 default).Zc).length) (i0 : Nat) : loopM (M.Q9 a0 (i1 : Int) (i9 : Int)) (i0 : Int) = some (runN (S.Q9 a0 i1 i9) (.inl ()) i0 (i1 - i0)) := by
  have hM := Zv
  have hni1 : a0.Zd.length ≤ maxLen := (Yv.Zd ha0).1
  have hni9 : ((a0.Zd.getD i1 default).Zc).length ≤ maxLen := (Zn.Zc (LL.getD (Yv.Zd ha0) Zn.dflt i1)).1
  have hni11 : i1 ≤ maxLen := (by omega)
  refine Xz (n := i1) (fun i11 hi11 => ?_) (fun m hm => ?_) i0
  · unfold M.Q9 S.Q9
    try simp only [Int.toNat_natCast]
    refine YE (dt (by omega)) ?_
    refine XE (Wd fun hg => (RP (a0.Zd.getD i11 default) ((((a0.Zd.getD i1 default).Zc).getD i9 default).Zs) (LL.getD (Yv.Zd ha0) Zn.dflt i11))) (fun r13 her13 => ?_)
    refine Jd (ZO (Y9 fun hg => (dt (by first | omega | (simp; omega) | (simp at *; omega)))) (ZO (Y9 fun hg => (dt (by first | omega | (simp; omega) | (simp at *; omega)))) Yi)) ?_
    refine Yg (fun hb4 => ?_) (fun hb4 => ?_)
    · exact X2
    · exact VP (by omega)
  · unfold M.Q9
    try simp only [Int.toNat_natCast]
    exact YF (decide_eq_false (by omega)) rfl
noncomputable def S.Ja (a0 : Zw) (i1 : Nat) (i9 : Nat) : Option (Unit ⊕ Int) :=
  letS (runN (S.Q9 a0 i1 i9) (.inl ()) 0 i1) (fun y14 => Sum.elim (fun _ => none) (fun y16 => some (.inr y16)) y14)
theorem Zdc (a0 : Zw) (i1 : Nat) (ha0 : Yv a0) (hi1 : i1 < a0.Zd.length) (i0 : Nat) : loopM (M.Ja a0 (i1 : Int)) (i0 : Int) = some (runN (S.Ja a0 i1) (.inl ()) i0 (((a0.Zd.getD i1 default).Zc).length - i0)) := by
  have hM := Zv
  have hni1 : a0.Zd.length ≤ maxLen := (Yv.Zd ha0).1
  have hni9 : ((a0.Zd.getD i1 default).Zc).length ≤ maxLen := (Zn.Zc (LL.getD (Yv.Zd ha0) Zn.dflt i1)).1
  refine Xz (n := ((a0.Zd.getD i1 default).Zc).length) (fun i9 hi9 => ?_) (fun m hm => ?_) i0
  · unfold M.Ja S.Ja
    try simp only [Int.toNat_natCast]
    refine Jd (ZO (dt (by omega)) (ZO (dt (by omega)) Yi))  ?_
    refine YE (dt (by omega)) ?_
    refine Jd (ZO (dt (by omega)) (ZO (dt (by omega)) (ZO (dt (by omega)) (ZO (dt (by omega)) Yi)))) ?_
    refine XE (Zdb a0 i1 i9 ha0 hi1 hi9 0) (fun y14 hey14 => ?_)
    refine VZ (fun _ hl => ?_) (fun y16 hly16 => ?_)
    · exact VP (by omega)
    · exact X2
  · unfold M.Ja
    try simp only [Int.toNat_natCast]
    refine Jd (ZO (dt (by omega)) (ZO (dt (by omega)) Yi))  ?_
    exact YF (decide_eq_false (by omega)) rfl
noncomputable def S.Jb (a0 : Zw) (i1 : Nat) : Option (Unit ⊕ Int) :=
  letS (S.Yl (a0.Zd.getD i1 default)) (fun r3 => bif r3 != 0 then (some (.inr r3)) else (letS (runN (S.Jv a0 i1) (.inl ()) 0 i1) (fun y6 => Sum.elim (fun _ => letS (runN (S.Ja a0 i1) (.inl ()) 0 (((a0.Zd.getD i1 default).Zc).length)) (fun y17 => Sum.elim (fun _ => none) (fun y19 => some (.inr y19)) y17)) (fun y8 => some (.inr y8)) y6)))
theorem Zdd (a0 : Zw) (ha0 : Yv a0) (i0 : Nat) : loopM (M.Jb a0) (i0 : Int) = some (runN (S.Jb a0) (.inl ()) i0 (a0.Zd.length - i0)) := by
  have hM := Zv
  have hni1 : a0.Zd.length ≤ maxLen := (Yv.Zd ha0).1
  refine Xz (n := a0.Zd.length) (fun i1 hi1 => ?_) (fun m hm => ?_) i0
  · unfold M.Jb S.Jb
    try simp only [Int.toNat_natCast]
    refine YE (dt (by omega)) ?_
    refine XE (Za6 (a0.Zd.getD i1 default) (LL.getD (Yv.Zd ha0) Zn.dflt i1)) (fun r3 her3 => ?_)
    refine Jd (ZO (dt (by omega)) (ZO (dt (by omega)) Yi)) ?_
    refine Yg (fun hb2 => ?_) (fun hb2 => ?_)
    · exact X2
    · refine XE (Zda a0 i1 ha0 hi1 0) (fun y6 hey6 => ?_)
      refine VZ (fun _ hl => ?_) (fun y8 hly8 => ?_)
      · refine XE (Zdc a0 i1 ha0 hi1 0) (fun y17 hey17 => ?_)
        refine VZ (fun _ hl => ?_) (fun y19 hly19 => ?_)
        · exact VP (by omega)
        · exact X2
      · exact X2
  · unfold M.Jb
    try simp only [Int.toNat_natCast]
    exact YF (decide_eq_false (by omega)) rfl
noncomputable def S.Q2 (a0 : Zw) : Int :=
  bif decide ((a0.Zd.length : Int) > 8) then 7 else (letS (runN (S.Jb a0) (.inl ()) 0 a0.Zd.length) (fun y20 => Sum.elim (fun _ => 0) (fun y22 => y22) y20))
theorem Zfy (a0 : Zw) (ha0 : Yv a0) : M.Q2 a0 = some (S.Q2 a0) := by
  have hM := Zv
  unfold M.Q2 S.Q2
  refine WU (fun hb1 => ?_) (fun hb1 => ?_)
  · rfl
  · refine XR (Zdd a0 ha0 0) (fun y20 hey20 => ?_)
    refine JY (fun _ hl => ?_) (fun y22 hly22 => ?_)
    · rfl
    · rfl
noncomputable def S.Vk (a0 : ZX) (a1 : ZX) : Int :=
  bif (decide (a0.Zs < a1.Zs)) || ((a0.Zs == a1.Zs) && (decide (a0.ZR < a1.ZR))) then (-1) else (bif ((a0.Zs == a1.Zs) && ((a0.ZR == a1.ZR) && true)) then 0 else 1)
theorem Zei (a0 : ZX) (a1 : ZX)  : M.Vk a0 a1 = some (S.Vk a0 a1) := by
  have hM := Zv
  unfold M.Vk S.Vk
  refine WU (fun hb1 => ?_) (fun hb1 => ?_)
  · rfl
  · refine WU (fun hb2 => ?_) (fun hb2 => ?_)
    · rfl
    · rfl
noncomputable def S.X4 (a0 : List Int) (a1 : Int) (i1 : Nat) : Option (Unit ⊕ Bool) :=
  bif ((decide ((a0.getD i1 default) < 0)) || (decide ((a0.getD i1 default) ≥ a1))) || ((decide ((i1 : Int) > 0)) && (decide ((a0.getD i1 default) ≤ (a0.getD (wr .i64 ((i1 : Int) - 1)).toNat default)))) then (some (.inr false)) else none
theorem RQ (a0 : List Int) (a1 : Int) (ha0 : a0.length ≤ maxLen) (i0 : Nat) : loopM (M.X4 a0 a1) (i0 : Int) = some (runN (S.X4 a0 a1) (.inl ()) i0 (a0.length - i0)) := by
  have hM := Zv
  have hni1 : a0.length ≤ maxLen := ha0
  refine Xz (n := a0.length) (fun i1 hi1 => ?_) (fun m hm => ?_) i0
  · unfold M.X4 S.X4
    try simp only [Int.toNat_natCast]
    have hdi1 : wr .i64 ((i1 : Int) - 1) = (i1 : Int) - 1 := ZkQ (by omega)
    refine YE (dt (by omega)) ?_
    refine Jd (ZO (dt (by omega)) (ZO (dt (by omega)) (ZO (Y9 fun hg => (dt (by first | omega | (simp; omega) | (simp at *; omega)))) (ZO (Y9 fun hg => (dt (by first | omega | (simp; omega) | (simp at *; omega)))) (ZO (Y9 fun hg => (dt (by first | omega | (simp; omega) | (simp at *; omega)))) (ZO (Y9 fun hg => (dt (by first | omega | (simp; omega) | (simp at *; omega)))) (ZO (Y9 fun hg => (dt (by first | omega | (simp; omega) | (simp at *; omega)))) (ZO (Y9 fun hg => (dt (by first | omega | (simp; omega) | (simp at *; omega)))) Yi)))))))) ?_
    refine Yg (fun hb2 => ?_) (fun hb2 => ?_)
    · exact X2
    · exact VP (by omega)
  · unfold M.X4
    try simp only [Int.toNat_natCast]
    exact YF (decide_eq_false (by omega)) rfl
noncomputable def S.QG (a0 : List Int) (a1 : Int) : Bool :=
  bif decide ((a0.length : Int) > 2) then false else (letS (runN (S.X4 a0 a1) (.inl ()) 0 a0.length) (fun y3 => Sum.elim (fun _ => true) (fun y5 => y5) y3))
theorem Zb6 (a0 : List Int) (a1 : Int) (ha0 : a0.length ≤ maxLen) : M.QG a0 a1 = some (S.QG a0 a1) := by
  have hM := Zv
  unfold M.QG S.QG
  refine WU (fun hb1 => ?_) (fun hb1 => ?_)
  · rfl
  · refine XR (RQ a0 a1 ha0 0) (fun y3 hey3 => ?_)
    refine JY (fun _ hl => ?_) (fun y5 hly5 => ?_)
    · rfl
    · rfl
noncomputable def S.Z4 (a0 : List X8) (a1 : X8) (i1 : Nat) : Option (Unit ⊕ Int) :=
  bif ((a1.Z5 == ((a0.getD i1 default).Z5)) && ((a1.XY == ((a0.getD i1 default).XY)) && true)) then (some (.inr (i1 : Int))) else none
theorem Uy (a0 : List X8) (a1 : X8) (ha0 : a0.length ≤ maxLen) (i0 : Nat) : loopM (M.Z4 a0 a1) (i0 : Int) = some (runN (S.Z4 a0 a1) (.inl ()) i0 (a0.length - i0)) := by
  have hM := Zv
  have hni1 : a0.length ≤ maxLen := ha0
  refine Xz (n := a0.length) (fun i1 hi1 => ?_) (fun m hm => ?_) i0
  · unfold M.Z4 S.Z4
    try simp only [Int.toNat_natCast]
    refine YE (dt (by omega)) ?_
    refine Jd (ZO (dt (by omega)) (ZO (dt (by omega)) Yi)) ?_
    refine Yg (fun hb1 => ?_) (fun hb1 => ?_)
    · exact X2
    · exact VP (by omega)
  · unfold M.Z4
    try simp only [Int.toNat_natCast]
    exact YF (decide_eq_false (by omega)) rfl
noncomputable def S.Z9 (a0 : List X8) (a1 : X8) : Int :=
  letS (runN (S.Z4 a0 a1) (.inl ()) 0 a0.length) (fun y3 => Sum.elim (fun _ => -1) (fun y5 => y5) y3)
theorem UV (a0 : List X8) (a1 : X8) (ha0 : a0.length ≤ maxLen) : M.Z9 a0 a1 = some (S.Z9 a0 a1) := by
  have hM := Zv
  unfold M.Z9 S.Z9
  refine XR (Uy a0 a1 ha0 0) (fun y3 hey3 => ?_)
  refine JY (fun _ hl => ?_) (fun y5 hly5 => ?_)
  · rfl
  · rfl
noncomputable def S.ZU (a0 : List X8) (a1 : X8) : Bool :=
  letS (S.Z9 a0 a1) (fun r1 => decide (r1 ≥ 0))
theorem Uz (a0 : List X8) (a1 : X8) (ha0 : a0.length ≤ maxLen) : M.ZU a0 a1 = some (S.ZU a0 a1) := by
  have hM := Zv
  unfold M.ZU S.ZU
  refine XR (UV a0 a1 ha0) (fun r1 her1 => ?_)
  rfl
noncomputable def S.Yq (a0 : X3) (a1 : Int) (a2 : Int) (i1 : Nat) : Option (Unit ⊕ Int) :=
  letS (S.ZU ((a0.XW.Z1.getD i1 default).ZZ) (⟨a1, a2⟩ : X8)) (fun r3 => bif r3 then (some (.inr (i1 : Int))) else none)
theorem ZcE (a0 : X3) (a1 : Int) (a2 : Int) (ha0 : W1 a0) (i0 : Nat) : loopM (M.Yq a0 a1 a2) (i0 : Int) = some (runN (S.Yq a0 a1 a2) (.inl ()) i0 (a0.XW.Z1.length - i0)) := by
  have hM := Zv
  have hni1 : a0.XW.Z1.length ≤ maxLen := (Wb.Z1 (W1.XW ha0)).1
  refine Xz (n := a0.XW.Z1.length) (fun i1 hi1 => ?_) (fun m hm => ?_) i0
  · unfold M.Yq S.Yq
    try simp only [Int.toNat_natCast]
    refine YE (dt (by omega)) ?_
    refine Jd (ZO (dt (by omega)) (ZO (dt (by omega)) Yi)) ?_
    refine XE (Uz ((a0.XW.Z1.getD i1 default).ZZ) (⟨a1, a2⟩ : X8) (Uv.ZZ (LL.getD (Wb.Z1 (W1.XW ha0)) Uv.dflt i1))) (fun r3 her3 => ?_)
    refine Yg (fun hb1 => ?_) (fun hb1 => ?_)
    · exact X2
    · exact VP (by omega)
  · unfold M.Yq
    try simp only [Int.toNat_natCast]
    exact YF (decide_eq_false (by omega)) rfl
noncomputable def S.Yw (a0 : X3) (a1 : Int) (a2 : Int) : Int :=
  letS (runN (S.Yq a0 a1 a2) (.inl ()) 0 a0.XW.Z1.length) (fun y4 => Sum.elim (fun _ => -1) (fun y6 => y6) y4)
theorem GY (a0 : X3) (a1 : Int) (a2 : Int) (ha0 : W1 a0) : M.Yw a0 a1 a2 = some (S.Yw a0 a1 a2) := by
  have hM := Zv
  unfold M.Yw S.Yw
  refine XR (ZcE a0 a1 a2 ha0 0) (fun y4 hey4 => ?_)
  refine JY (fun _ hl => ?_) (fun y6 hly6 => ?_)
  · rfl
  · rfl
noncomputable def S.XG (a0 : List Int) (a1 : Int) (i1 : Nat) : Option (Unit ⊕ Int) :=
  bif a1 == (a0.getD i1 default) then (some (.inr (i1 : Int))) else none
theorem GD (a0 : List Int) (a1 : Int) (ha0 : a0.length ≤ maxLen) (i0 : Nat) : loopM (M.XG a0 a1) (i0 : Int) = some (runN (S.XG a0 a1) (.inl ()) i0 (a0.length - i0)) := by
  have hM := Zv
  have hni1 : a0.length ≤ maxLen := ha0
  refine Xz (n := a0.length) (fun i1 hi1 => ?_) (fun m hm => ?_) i0
  · unfold M.XG S.XG
    try simp only [Int.toNat_natCast]
    refine YE (dt (by omega)) ?_
    refine Jd (ZO (dt (by omega)) (ZO (dt (by omega)) Yi)) ?_
    refine Yg (fun hb1 => ?_) (fun hb1 => ?_)
    · exact X2
    · exact VP (by omega)
  · unfold M.XG
    try simp only [Int.toNat_natCast]
    exact YF (decide_eq_false (by omega)) rfl
noncomputable def S.XD (a0 : List Int) (a1 : Int) : Int :=
  letS (runN (S.XG a0 a1) (.inl ()) 0 a0.length) (fun y3 => Sum.elim (fun _ => -1) (fun y5 => y5) y3)
theorem UN (a0 : List Int) (a1 : Int) (ha0 : a0.length ≤ maxLen) : M.XD a0 a1 = some (S.XD a0 a1) := by
  have hM := Zv
  unfold M.XD S.XD
  refine XR (GD a0 a1 ha0 0) (fun y3 hey3 => ?_)
  refine JY (fun _ hl => ?_) (fun y5 hly5 => ?_)
  · rfl
  · rfl
noncomputable def S.JR (a0 : X3) (a1 : Int) (a2 : Int) : Int :=
  letS (S.Yw a0 a1 a2) (fun r1 => bif decide (r1 < 0) then (-1) else (letS (S.XD a0.XW.QA r1) (fun r2 => r2)))
theorem Zgq (a0 : X3) (a1 : Int) (a2 : Int) (ha0 : W1 a0) : M.JR a0 a1 a2 = some (S.JR a0 a1 a2) := by
  have hM := Zv
  unfold M.JR S.JR
  refine XR (GY a0 a1 a2 ha0) (fun r1 her1 => ?_)
  refine WU (fun hb1 => ?_) (fun hb1 => ?_)
  · rfl
  · refine XR (UN a0.XW.QA r1 (Wb.QA (W1.XW ha0))) (fun r2 her2 => ?_)
    rfl
noncomputable def S.Xv (a0 : List Int) (a1 : Int) : Bool :=
  letS (S.XD a0 a1) (fun r1 => decide (r1 ≥ 0))
theorem GE (a0 : List Int) (a1 : Int) (ha0 : a0.length ≤ maxLen) : M.Xv a0 a1 = some (S.Xv a0 a1) := by
  have hM := Zv
  unfold M.Xv S.Xv
  refine XR (UN a0 a1 ha0) (fun r1 her1 => ?_)
  rfl
noncomputable def S.Vl (a0 : X3) (a1 : Int) (a2 : Int) : Bool :=
  letS (S.Yw a0 a1 a2) (fun r1 => bif decide (r1 < 0) then false else (letS (S.JR a0 a1 a2) (fun r2 => letS (bif (!(decide (r2 < 0))) then S.Xv a0.V0 r2 else default) (fun r3 => (decide (r2 < 0)) || (!r3)))))
theorem Zii (a0 : X3) (a1 : Int) (a2 : Int) (ha0 : W1 a0) : M.Vl a0 a1 a2 = some (S.Vl a0 a1 a2) := by
  have hM := Zv
  unfold M.Vl S.Vl
  refine XR (GY a0 a1 a2 ha0) (fun r1 her1 => ?_)
  refine WU (fun hb1 => ?_) (fun hb1 => ?_)
  · rfl
  · refine XR (Zgq a0 a1 a2 ha0) (fun r2 her2 => ?_)
    refine XR (Wd fun hg => (GE a0.V0 r2 (W1.V0 ha0))) (fun r3 her3 => ?_)
    rfl
noncomputable def S.QI (a0 : X3) (a1 : X8) : Zl × Bool :=
  bif (decide (a1.Z5 < 0)) || (decide (a1.Z5 ≥ (a0.Qq.Zd.length : Int))) then ((⟨(⟨#[]⟩ : ByteArray), 0, 0, 0, false, false, 0, 0, false, (⟨#[]⟩ : ByteArray), (⟨#[]⟩ : ByteArray), 0⟩ : Zl), false) else (bif (decide (a1.XY < 0)) || (decide (a1.XY ≥ (((a0.Qq.Zd.getD a1.Z5.toNat default).Zc).length : Int))) then ((⟨(⟨#[]⟩ : ByteArray), 0, 0, 0, false, false, 0, 0, false, (⟨#[]⟩ : ByteArray), (⟨#[]⟩ : ByteArray), 0⟩ : Zl), false) else (((a0.Qq.Zd.getD a1.Z5.toNat default).Zc).getD a1.XY.toNat default, true))
theorem Za7 (a0 : X3) (a1 : X8) (ha0 : W1 a0) : M.QI a0 a1 = some (S.QI a0 a1) := by
  have hM := Zv
  unfold M.QI S.QI
  refine WU (fun hb1 => ?_) (fun hb1 => ?_)
  · rfl
  · refine Jd (ZO (dt (by first | omega | (simp; omega) | (simp at *; omega))) (ZO (dt (by first | omega | (simp; omega) | (simp at *; omega))) Yi)) ?_
    refine WU (fun hb2 => ?_) (fun hb2 => ?_)
    · rfl
    · refine Jd (ZO (dt (by first | omega | (simp; omega) | (simp at *; omega))) (ZO (dt (by first | omega | (simp; omega) | (simp at *; omega))) Yi)) ?_
      rfl
end Nv
