/- Total forms of the mirrors. -/
import Derived.Test.YtaienbkgekjdnaaGreatNvD1
import Derived.Test.YtaienbkgekjdnaaGreatNvLibB
import Derived.Test.YtaienbkgekjdnaaGreatNvQ0
set_option maxRecDepth 100000
namespace Nv
open Go
def Yg (x : Zl) : Prop := (x.Xm.size ≤ maxLen) ∧ (x.VQ.size ≤ maxLen) ∧ (x.Qa.size ≤ maxLen)
theorem Yg.Xm {x : Zl} (h : Yg x) : x.Xm.size ≤ maxLen := h.1
theorem Yg.VQ {x : Zl} (h : Yg x) : x.VQ.size ≤ maxLen := h.2.1
theorem Yg.Qa {x : Zl} (h : Yg x) : x.Qa.size ≤ maxLen := h.2.2
theorem Yg.dflt : Yg default := ⟨(Nat.zero_le _), (Nat.zero_le _), (Nat.zero_le _)⟩
def YB (x : Z2) : Prop := (x.Xm.size ≤ maxLen) ∧ (x.YH.length ≤ maxLen)
theorem YB.Xm {x : Z2} (h : YB x) : x.Xm.size ≤ maxLen := h.1
theorem YB.YH {x : Z2} (h : YB x) : x.YH.length ≤ maxLen := h.2
theorem YB.dflt : YB default := ⟨(Nat.zero_le _), (Nat.zero_le _)⟩
def Un (x : Zam) : Prop := (x.J3.size ≤ maxLen)
theorem Un.J3 {x : Zam} (h : Un x) : x.J3.size ≤ maxLen := h
theorem Un.dflt : Un default := (Nat.zero_le _)
def Ja (x : Ya) : Prop := (x.Xm.size ≤ maxLen) ∧ (LL Un x.X1)
theorem Ja.Xm {x : Ya} (h : Ja x) : x.Xm.size ≤ maxLen := h.1
theorem Ja.X1 {x : Ya} (h : Ja x) : LL Un x.X1 := h.2
theorem Ja.dflt : Ja default := ⟨(Nat.zero_le _), ⟨Nat.zero_le _, fun _ h => absurd h List.not_mem_nil⟩⟩
def Uj (x : W3) : Prop := (x.Xm.size ≤ maxLen) ∧ (x.YH.length ≤ maxLen)
theorem Uj.Xm {x : W3} (h : Uj x) : x.Xm.size ≤ maxLen := h.1
theorem Uj.YH {x : W3} (h : Uj x) : x.YH.length ≤ maxLen := h.2
theorem Uj.dflt : Uj default := ⟨(Nat.zero_le _), (Nat.zero_le _)⟩
def Vd (x : YT) : Prop := (x.J3.size ≤ maxLen)
theorem Vd.J3 {x : YT} (h : Vd x) : x.J3.size ≤ maxLen := h
theorem Vd.dflt : Vd default := (Nat.zero_le _)
def Ve (x : YU) : Prop := (x.XY.size ≤ maxLen)
theorem Ve.XY {x : YU} (h : Ve x) : x.XY.size ≤ maxLen := h
theorem Ve.dflt : Ve default := (Nat.zero_le _)
def Vf (x : YK) : Prop := (x.ZcA.size ≤ maxLen)
theorem Vf.ZcA {x : YK} (h : Vf x) : x.ZcA.size ≤ maxLen := h
theorem Vf.dflt : Vf default := (Nat.zero_le _)
def Jo (x : Vj) : Prop := (x.Z6.length ≤ maxLen) ∧ (LL Vf x.Zs)
theorem Jo.Z6 {x : Vj} (h : Jo x) : x.Z6.length ≤ maxLen := h.1
theorem Jo.Zs {x : Vj} (h : Jo x) : LL Vf x.Zs := h.2
theorem Jo.dflt : Jo default := ⟨(Nat.zero_le _), ⟨Nat.zero_le _, fun _ h => absurd h List.not_mem_nil⟩⟩
def X6 (x : YE) : Prop := (x.VQ.size ≤ maxLen) ∧ (x.Qa.size ≤ maxLen) ∧ (LL Vf x.Zs)
theorem X6.VQ {x : YE} (h : X6 x) : x.VQ.size ≤ maxLen := h.1
theorem X6.Qa {x : YE} (h : X6 x) : x.Qa.size ≤ maxLen := h.2.1
theorem X6.Zs {x : YE} (h : X6 x) : LL Vf x.Zs := h.2.2
theorem X6.dflt : X6 default := ⟨(Nat.zero_le _), (Nat.zero_le _), ⟨Nat.zero_le _, fun _ h => absurd h List.not_mem_nil⟩⟩
def JX (x : Jv) : Prop := (x.VQ.size ≤ maxLen) ∧ (x.Qa.size ≤ maxLen)
theorem JX.VQ {x : Jv} (h : JX x) : x.VQ.size ≤ maxLen := h.1
theorem JX.Qa {x : Jv} (h : JX x) : x.Qa.size ≤ maxLen := h.2
theorem JX.dflt : JX default := ⟨(Nat.zero_le _), (Nat.zero_le _)⟩
def Xl (x : Xy) : Prop := (LL JX x.Zm) ∧ (x.Z1.length ≤ maxLen) ∧ (x.ZE.length ≤ maxLen) ∧ (x.Zt.length ≤ maxLen) ∧ (LL Vf x.Zs)
theorem Xl.Zm {x : Xy} (h : Xl x) : LL JX x.Zm := h.1
theorem Xl.Z1 {x : Xy} (h : Xl x) : x.Z1.length ≤ maxLen := h.2.1
theorem Xl.ZE {x : Xy} (h : Xl x) : x.ZE.length ≤ maxLen := h.2.2.1
theorem Xl.Zt {x : Xy} (h : Xl x) : x.Zt.length ≤ maxLen := h.2.2.2.1
theorem Xl.Zs {x : Xy} (h : Xl x) : LL Vf x.Zs := h.2.2.2.2
theorem Xl.dflt : Xl default := ⟨⟨Nat.zero_le _, fun _ h => absurd h List.not_mem_nil⟩, (Nat.zero_le _), (Nat.zero_le _), (Nat.zero_le _), ⟨Nat.zero_le _, fun _ h => absurd h List.not_mem_nil⟩⟩
def Zn (x : Zf) : Prop := (x.Xm.size ≤ maxLen) ∧ (LL Yg x.Zc) ∧ (LL YB x.Yw) ∧ (LL Ja x.XF) ∧ (LL Uj x.YF) ∧ (LL Vd x.Xc) ∧ (LL Ve x.Zr) ∧ (Jo x.Yh) ∧ (X6 x.Yo) ∧ (Xl x.Xs)
theorem Zn.Xm {x : Zf} (h : Zn x) : x.Xm.size ≤ maxLen := h.1
theorem Zn.Zc {x : Zf} (h : Zn x) : LL Yg x.Zc := h.2.1
theorem Zn.Yw {x : Zf} (h : Zn x) : LL YB x.Yw := h.2.2.1
theorem Zn.XF {x : Zf} (h : Zn x) : LL Ja x.XF := h.2.2.2.1
theorem Zn.YF {x : Zf} (h : Zn x) : LL Uj x.YF := h.2.2.2.2.1
theorem Zn.Xc {x : Zf} (h : Zn x) : LL Vd x.Xc := h.2.2.2.2.2.1
theorem Zn.Zr {x : Zf} (h : Zn x) : LL Ve x.Zr := h.2.2.2.2.2.2.1
theorem Zn.Yh {x : Zf} (h : Zn x) : Jo x.Yh := h.2.2.2.2.2.2.2.1
theorem Zn.Yo {x : Zf} (h : Zn x) : X6 x.Yo := h.2.2.2.2.2.2.2.2.1
theorem Zn.Xs {x : Zf} (h : Zn x) : Xl x.Xs := h.2.2.2.2.2.2.2.2.2
theorem Zn.dflt : Zn default := ⟨(Nat.zero_le _), ⟨Nat.zero_le _, fun _ h => absurd h List.not_mem_nil⟩, ⟨Nat.zero_le _, fun _ h => absurd h List.not_mem_nil⟩, ⟨Nat.zero_le _, fun _ h => absurd h List.not_mem_nil⟩, ⟨Nat.zero_le _, fun _ h => absurd h List.not_mem_nil⟩, ⟨Nat.zero_le _, fun _ h => absurd h List.not_mem_nil⟩, ⟨Nat.zero_le _, fun _ h => absurd h List.not_mem_nil⟩, Jo.dflt, X6.dflt, Xl.dflt⟩
def Yy (x : ZB) : Prop := (LL Zn x.Zd)
theorem Yy.Zd {x : ZB} (h : Yy x) : LL Zn x.Zd := h
def W6 (x : Zh) : Prop := (x.ZT.length ≤ maxLen)
theorem W6.ZT {x : Zh} (h : W6 x) : x.ZT.length ≤ maxLen := h
theorem W6.dflt : W6 default := (Nat.zero_le _)
def JY (x : Qt) : Prop := (LL W6 x.Zv) ∧ (x.YC.length ≤ maxLen)
theorem JY.Zv {x : Qt} (h : JY x) : LL W6 x.Zv := h.1
theorem JY.YC {x : Qt} (h : JY x) : x.YC.length ≤ maxLen := h.2
def Jt (x : XM) : Prop := (Yy x.VD) ∧ (JY x.Xd) ∧ (x.QY.length ≤ maxLen)
theorem Jt.Xd {x : XM} (h : Jt x) : JY x.Xd := h.2.1
theorem Jt.QY {x : XM} (h : Jt x) : x.QY.length ≤ maxLen := h.2.2
noncomputable def S.Vm (a0 : Zf) (i1 : Nat) : Option (Unit ⊕ Bool) :=
  bif decide ((((a0.Yw.getD i1 default).YH).length : Int) > 20) then (some (.inr false)) else none
theorem Zdo (a0 : Zf) (ha0 : Zn a0) (i0 : Nat) : loopM (M.Vm a0) (i0 : Int) = some (runN (S.Vm a0) (.inl ()) i0 (a0.Yw.length - i0)) := by
  have hM := Zq
  have hni1 : a0.Yw.length ≤ maxLen := (Zn.Yw ha0).1
  refine Xk (n := a0.Yw.length) (fun i1 hi1 => ?_) (fun m hm => ?_) i0
  · unfold M.Vm S.Vm
    try simp only [Int.toNat_natCast]
    refine Yi (dt (by omega)) ?_
    refine QB (ZC (dt (by omega)) (ZC (dt (by omega)) X9)) ?_
    refine Yc (fun hb2 => ?_) (fun hb2 => ?_)
    · exact X2
    · exact VC (by omega)
  · unfold M.Vm
    try simp only [Int.toNat_natCast]
    exact Yj (decide_eq_false (by omega)) rfl
noncomputable def S.Vn (a0 : Zf) (i6 : Nat) : Option (Unit ⊕ Bool) :=
  bif decide ((((a0.XF.getD i6 default).X1).length : Int) > 12) then (some (.inr false)) else none
theorem Zdp (a0 : Zf) (ha0 : Zn a0) (i0 : Nat) : loopM (M.Vn a0) (i0 : Int) = some (runN (S.Vn a0) (.inl ()) i0 (a0.XF.length - i0)) := by
  have hM := Zq
  have hni6 : a0.XF.length ≤ maxLen := (Zn.XF ha0).1
  refine Xk (n := a0.XF.length) (fun i6 hi6 => ?_) (fun m hm => ?_) i0
  · unfold M.Vn S.Vn
    try simp only [Int.toNat_natCast]
    refine Yi (dt (by omega)) ?_
    refine QB (ZC (dt (by omega)) (ZC (dt (by omega)) X9)) ?_
    refine Yc (fun hb3 => ?_) (fun hb3 => ?_)
    · exact X2
    · exact VC (by omega)
  · unfold M.Vn
    try simp only [Int.toNat_natCast]
    exact Yj (decide_eq_false (by omega)) rfl
noncomputable def S.Vo (a0 : Zf) (i11 : Nat) : Option (Unit ⊕ Bool) :=
  bif decide ((((a0.YF.getD i11 default).YH).length : Int) > 20) then (some (.inr false)) else none
theorem Zdq (a0 : Zf) (ha0 : Zn a0) (i0 : Nat) : loopM (M.Vo a0) (i0 : Int) = some (runN (S.Vo a0) (.inl ()) i0 (a0.YF.length - i0)) := by
  have hM := Zq
  have hni11 : a0.YF.length ≤ maxLen := (Zn.YF ha0).1
  refine Xk (n := a0.YF.length) (fun i11 hi11 => ?_) (fun m hm => ?_) i0
  · unfold M.Vo S.Vo
    try simp only [Int.toNat_natCast]
    refine Yi (dt (by omega)) ?_
    refine QB (ZC (dt (by omega)) (ZC (dt (by omega)) X9)) ?_
    refine Yc (fun hb4 => ?_) (fun hb4 => ?_)
    · exact X2
    · exact VC (by omega)
  · unfold M.Vo
    try simp only [Int.toNat_natCast]
    exact Yj (decide_eq_false (by omega)) rfl
noncomputable def S.Vk (a0 : Zf) : Bool :=
  bif (((((((((((((decide ((a0.Zc.length : Int) > 12)) || (decide ((a0.Yw.length : Int) > 12))) || (decide ((a0.XF.length : Int) > 12))) || (decide ((a0.YF.length : Int) > 12))) || (decide ((a0.Xc.length : Int) > 12))) || (decide ((a0.Zr.length : Int) > 20))) || (decide ((a0.Yh.Z6.length : Int) > 8))) || (decide ((a0.Yh.Zs.length : Int) > 8))) || (decide ((a0.Yo.Zs.length : Int) > 8))) || (decide ((a0.Xs.Zs.length : Int) > 8))) || (decide ((a0.Xs.Zm.length : Int) > 12))) || (decide ((a0.Xs.Z1.length : Int) > 12))) || (decide ((a0.Xs.ZE.length : Int) > 12))) || (decide ((a0.Xs.Zt.length : Int) > 12)) then false else (letS (runN (S.Vm a0) (.inl ()) 0 a0.Yw.length) (fun y3 => Sum.elim (fun _ => letS (runN (S.Vn a0) (.inl ()) 0 a0.XF.length) (fun y8 => Sum.elim (fun _ => letS (runN (S.Vo a0) (.inl ()) 0 a0.YF.length) (fun y13 => Sum.elim (fun _ => true) (fun y15 => y15) y13)) (fun y10 => y10) y8)) (fun y5 => y5) y3))
theorem ZfU (a0 : Zf) (ha0 : Zn a0) : M.Vk a0 = some (S.Vk a0) := by
  have hM := Zq
  unfold M.Vk S.Vk
  refine WJ (fun hb1 => ?_) (fun hb1 => ?_)
  · rfl
  · refine XN (Zdo a0 ha0 0) (fun y3 hey3 => ?_)
    refine Jr (fun _ hl => ?_) (fun y5 hly5 => ?_)
    · refine XN (Zdp a0 ha0 0) (fun y8 hey8 => ?_)
      refine Jr (fun _ hl => ?_) (fun y10 hly10 => ?_)
      · refine XN (Zdq a0 ha0 0) (fun y13 hey13 => ?_)
        refine Jr (fun _ hl => ?_) (fun y15 hly15 => ?_)
        · rfl
        · rfl
      · rfl
    · rfl
noncomputable def S.Qk (a0 : ZB) (i1 : Nat) : Option (Unit ⊕ Bool) :=
  letS (S.Vk (a0.Zd.getD i1 default)) (fun r3 => bif !r3 then (some (.inr false)) else none)
theorem ZcP (a0 : ZB) (ha0 : Yy a0) (i0 : Nat) : loopM (M.Qk a0) (i0 : Int) = some (runN (S.Qk a0) (.inl ()) i0 (a0.Zd.length - i0)) := by
  have hM := Zq
  have hni1 : a0.Zd.length ≤ maxLen := (Yy.Zd ha0).1
  refine Xk (n := a0.Zd.length) (fun i1 hi1 => ?_) (fun m hm => ?_) i0
  · unfold M.Qk S.Qk
    try simp only [Int.toNat_natCast]
    refine Yi (dt (by omega)) ?_
    refine XC (ZfU (a0.Zd.getD i1 default) (LL.getD (Yy.Zd ha0) Zn.dflt i1)) (fun r3 her3 => ?_)
    refine QB (ZC (dt (by omega)) (ZC (dt (by omega)) X9)) ?_
    refine Yc (fun hb2 => ?_) (fun hb2 => ?_)
    · exact X2
    · exact VC (by omega)
  · unfold M.Qk
    try simp only [Int.toNat_natCast]
    exact Yj (decide_eq_false (by omega)) rfl
noncomputable def S.JU (a0 : ZB) : Bool :=
  bif decide ((a0.Zd.length : Int) > 9) then false else (letS (runN (S.Qk a0) (.inl ()) 0 a0.Zd.length) (fun y4 => Sum.elim (fun _ => true) (fun y6 => y6) y4))
theorem ZeV (a0 : ZB) (ha0 : Yy a0) : M.JU a0 = some (S.JU a0) := by
  have hM := Zq
  unfold M.JU S.JU
  refine WJ (fun hb1 => ?_) (fun hb1 => ?_)
  · rfl
  · refine XN (ZcP a0 ha0 0) (fun y4 hey4 => ?_)
    refine Jr (fun _ hl => ?_) (fun y6 hly6 => ?_)
    · rfl
    · rfl
noncomputable def S.Vx (a0 : Int) : Bool :=
  ((decide (a0 ≥ 97)) && (decide (a0 ≤ 122))) || ((decide (a0 ≥ 65)) && (decide (a0 ≤ 90)))
theorem ZaR (a0 : Int)  : M.Vx a0 = some (S.Vx a0) := by
  have hM := Zq
  unfold M.Vx S.Vx
  rfl
noncomputable def S.VR (a0 : ByteArray) (i2 : Nat) : Option (Unit ⊕ Bool) :=
  letS (S.Vx (byteAt a0 (i2 : Int))) (fun r4 => bif (((((!r4) && (!((decide ((byteAt a0 (i2 : Int)) ≥ 48)) && (decide ((byteAt a0 (i2 : Int)) ≤ 57))))) && ((byteAt a0 (i2 : Int)) != 45)) && ((byteAt a0 (i2 : Int)) != 95)) && ((byteAt a0 (i2 : Int)) != 47)) && ((byteAt a0 (i2 : Int)) != 46) then (some (.inr false)) else none)
theorem Zey (a0 : ByteArray) (ha0 : a0.size ≤ maxLen) (i0 : Nat) : loopM (M.VR a0) (i0 : Int) = some (runN (S.VR a0) (.inl ()) i0 (a0.size - i0)) := by
  have hM := Zq
  have hni2 : a0.size ≤ maxLen := ha0
  refine Xk (n := a0.size) (fun i2 hi2 => ?_) (fun m hm => ?_) i0
  · unfold M.VR S.VR
    try simp only [Int.toNat_natCast]
    refine Yi (dt (by omega)) ?_
    refine QB (ZC (dt (by omega)) (ZC (dt (by omega)) X9)) ?_
    refine XC (ZaR (byteAt a0 (i2 : Int))) (fun r4 her4 => ?_)
    refine Yc (fun hb2 => ?_) (fun hb2 => ?_)
    · exact X2
    · exact VC (by omega)
  · unfold M.VR
    try simp only [Int.toNat_natCast]
    exact Yj (decide_eq_false (by omega)) rfl
noncomputable def S.QZ (a0 : ByteArray) : Bool :=
  letS (bif (!((decide ((a0.size : Int) < 1)) || (decide ((a0.size : Int) > 15)))) then S.Vx (byteAt a0 0) else default) (fun r1 => bif ((decide ((a0.size : Int) < 1)) || (decide ((a0.size : Int) > 15))) || (!r1) then false else (letS (runN (S.VR a0) (.inl ()) 1 (a0.size - 1)) (fun y5 => Sum.elim (fun _ => true) (fun y7 => y7) y5)))
theorem Gj (a0 : ByteArray) (ha0 : a0.size ≤ maxLen) : M.QZ a0 = some (S.QZ a0) := by
  have hM := Zq
  unfold M.QZ S.QZ
  refine XN (Wl fun hg => (ZaR (byteAt a0 0))) (fun r1 her1 => ?_)
  refine QB (ZC (YO fun hg => (dt (by first | omega | (simp; omega) | (simp at *; omega)))) (ZC (YO fun hg => (dt (by first | omega | (simp; omega) | (simp at *; omega)))) X9)) ?_
  refine WJ (fun hb1 => ?_) (fun hb1 => ?_)
  · rfl
  · refine XN (Zey a0 ha0 1) (fun y5 hey5 => ?_)
    refine Jr (fun _ hl => ?_) (fun y7 hly7 => ?_)
    · rfl
    · rfl
noncomputable def S.ZW (a0 : Int) (a1 : Int) (a2 : Int) : Bool :=
  (decide (a1 ≤ a0)) && (decide (a0 ≤ a2))
theorem XX (a0 : Int) (a1 : Int) (a2 : Int)  : M.ZW a0 a1 a2 = some (S.ZW a0 a1 a2) := by
  have hM := Zq
  unfold M.ZW S.ZW
  rfl
noncomputable def S.Qu (a0 : Int) (a1 : Int) : ZZ :=
  letS (S.Ji (if 0 > (if 32 < a1 then 32 else a1) then 0 else (if 32 < a1 then 32 else a1))) (fun r1 => (⟨bitD .and .u32 a0 r1, if 0 > (if 32 < a1 then 32 else a1) then 0 else (if 32 < a1 then 32 else a1)⟩ : ZZ))
theorem GP (a0 : Int) (a1 : Int)  : M.Qu a0 a1 = some (S.Qu a0 a1) := by
  have hM := Zq
  unfold M.Qu S.Qu
  refine XN (R2 (if 0 > (if 32 < a1 then 32 else a1) then 0 else (if 32 < a1 then 32 else a1))) (fun r1 her1 => ?_)
  rfl
noncomputable def S.J2 (a0 : ZZ) (a1 : Int) : Bool :=
  letS (S.Ji a0.ZV) (fun r1 => (bitD .and .u32 a1 r1) == a0.Zx)
theorem Zdr (a0 : ZZ) (a1 : Int)  : M.J2 a0 a1 = some (S.J2 a0 a1) := by
  have hM := Zq
  unfold M.J2 S.J2
  refine XN (R2 a0.ZV) (fun r1 her1 => ?_)
  rfl
noncomputable def S.JV (a0 : ZZ) (a1 : ZZ) : Bool :=
  letS (bif (decide (a0.ZV ≤ a1.ZV)) then S.J2 a0 a1.Zx else default) (fun r1 => (decide (a0.ZV ≤ a1.ZV)) && r1)
theorem ZaS (a0 : ZZ) (a1 : ZZ)  : M.JV a0 a1 = some (S.JV a0 a1) := by
  have hM := Zq
  unfold M.JV S.JV
  refine XN (Wl fun hg => (Zdr a0 a1.Zx)) (fun r1 her1 => ?_)
  rfl
noncomputable def S.Qn (a0 : ZZ) (a1 : ZZ) : Bool :=
  letS (S.JV a0 a1) (fun r1 => letS (bif (!r1) then S.JV a1 a0 else default) (fun r2 => r1 || r2))
theorem K6 (a0 : ZZ) (a1 : ZZ)  : M.Qn a0 a1 = some (S.Qn a0 a1) := by
  have hM := Zq
  unfold M.Qn S.Qn
  refine XN (ZaS a0 a1) (fun r1 her1 => ?_)
  refine XN (Wl fun hg => (ZaS a1 a0)) (fun r2 her2 => ?_)
  rfl
noncomputable def S.YI (a0 : List Zl) (i1 : Nat) (i4 : Nat) : Option (Unit ⊕ Int) :=
  bif strEq ((a0.getD i4 default).Xm) ((a0.getD i1 default).Xm) then (some (.inr 4)) else none
theorem R3 (a0 : List Zl) (i1 : Nat) (ha0 : LL Yg a0) (hi1 : i1 < a0.length) (i0 : Nat) : loopM (M.YI a0 (i1 : Int)) (i0 : Int) = some (runN (S.YI a0 i1) (.inl ()) i0 (i1 - i0)) := by
  have hM := Zq
  have hni1 : a0.length ≤ maxLen := ha0.1
  have hni4 : i1 ≤ maxLen := (by omega)
  refine Xk (n := i1) (fun i4 hi4 => ?_) (fun m hm => ?_) i0
  · unfold M.YI S.YI
    try simp only [Int.toNat_natCast]
    refine Yi (dt (by omega)) ?_
    refine QB (ZC (dt (by omega)) (ZC (dt (by omega)) X9)) ?_
    refine Yc (fun hb3 => ?_) (fun hb3 => ?_)
    · exact X2
    · exact VC (by omega)
  · unfold M.YI
    try simp only [Int.toNat_natCast]
    exact Yj (decide_eq_false (by omega)) rfl
noncomputable def S.Yp (a0 : List Zl) (i1 : Nat) (i14 : Nat) : Option (Unit ⊕ Int) :=
  letS (bif ((((a0.getD i1 default).ZV) != 0) && (((a0.getD i14 default).ZV) != 0)) then S.Qu ((a0.getD i1 default).Zx) ((a0.getD i1 default).ZV) else default) (fun r16 => letS (bif ((((a0.getD i1 default).ZV) != 0) && (((a0.getD i14 default).ZV) != 0)) then S.Qu ((a0.getD i14 default).Zx) ((a0.getD i14 default).ZV) else default) (fun r17 => letS (bif ((((a0.getD i1 default).ZV) != 0) && (((a0.getD i14 default).ZV) != 0)) then S.Qn r16 r17 else default) (fun r18 => bif ((((a0.getD i1 default).ZV) != 0) && (((a0.getD i14 default).ZV) != 0)) && r18 then (some (.inr 6)) else none)))
theorem R4 (a0 : List Zl) (i1 : Nat) (ha0 : LL Yg a0) (hi1 : i1 < a0.length) (i0 : Nat) : loopM (M.Yp a0 (i1 : Int)) (i0 : Int) = some (runN (S.Yp a0 i1) (.inl ()) i0 (i1 - i0)) := by
  have hM := Zq
  have hni1 : a0.length ≤ maxLen := ha0.1
  have hni14 : i1 ≤ maxLen := (by omega)
  refine Xk (n := i1) (fun i14 hi14 => ?_) (fun m hm => ?_) i0
  · unfold M.Yp S.Yp
    try simp only [Int.toNat_natCast]
    refine Yi (dt (by omega)) ?_
    refine XC (Wl fun hg => (GP ((a0.getD i1 default).Zx) ((a0.getD i1 default).ZV))) (fun r16 her16 => ?_)
    refine XC (Wl fun hg => (GP ((a0.getD i14 default).Zx) ((a0.getD i14 default).ZV))) (fun r17 her17 => ?_)
    refine XC (Wl fun hg => (K6 r16 r17)) (fun r18 her18 => ?_)
    refine QB (ZC (YO fun hg => (dt (by first | omega | (simp; omega) | (simp at *; omega)))) (ZC (YO fun hg => (dt (by first | omega | (simp; omega) | (simp at *; omega)))) (ZC (YO fun hg => (dt (by first | omega | (simp; omega) | (simp at *; omega)))) (ZC (YO fun hg => (dt (by first | omega | (simp; omega) | (simp at *; omega)))) (ZC (YO fun hg => (dt (by first | omega | (simp; omega) | (simp at *; omega)))) (ZC (YO fun hg => (dt (by first | omega | (simp; omega) | (simp at *; omega)))) X9)))))) ?_
    refine Yc (fun hb7 => ?_) (fun hb7 => ?_)
    · exact X2
    · exact VC (by omega)
  · unfold M.Yp
    try simp only [Int.toNat_natCast]
    exact Yj (decide_eq_false (by omega)) rfl
noncomputable def S.Yq (a0 : List Zl) (i1 : Nat) : Option (Unit ⊕ Int) :=
  letS (S.QZ ((a0.getD i1 default).Xm)) (fun r3 => bif !r3 then (some (.inr 3)) else (letS (runN (S.YI a0 i1) (.inl ()) 0 i1) (fun y6 => Sum.elim (fun _ => letS (S.ZW ((a0.getD i1 default).ZV) 0 32) (fun r9 => letS (bif (!(!r9)) then S.ZW ((a0.getD i1 default).XE) 0 4094 else default) (fun r10 => letS (bif (!((!r9) || (!r10))) then S.ZW ((a0.getD i1 default).RA) 0 2 else default) (fun r11 => bif ((!r9) || (!r10)) || (!r11) then (some (.inr 1)) else (bif ((((a0.getD i1 default).ZV) == 0) && (((((((((a0.getD i1 default).Zx) != 0) || (((a0.getD i1 default).XE) != 0)) || (((a0.getD i1 default).RA) != 0)) || ((a0.getD i1 default).Yh)) || ((a0.getD i1 default).Yo)) || (!strEq ((a0.getD i1 default).VQ) (⟨#[]⟩ : ByteArray))) || (!strEq ((a0.getD i1 default).Qa) (⟨#[]⟩ : ByteArray)))) || ((((a0.getD i1 default).ZV) != 0) && (((a0.getD i1 default).Zx) == 0)) then (some (.inr 1)) else (letS (bif ((a0.getD i1 default).Yh) then S.ZW ((a0.getD i1 default).V0) 0 255 else default) (fun r12 => letS (bif (((a0.getD i1 default).Yh) && !(!r12)) then S.ZW ((a0.getD i1 default).ZbN) 1 65535 else default) (fun r13 => bif (((a0.getD i1 default).Yh) && ((!r12) || (!r13))) || ((!((a0.getD i1 default).Yh)) && ((((a0.getD i1 default).V0) != 0) || (((a0.getD i1 default).ZbN) != 0))) then (some (.inr 1)) else (letS (runN (S.Yp a0 i1) (.inl ()) 0 i1) (fun y19 => Sum.elim (fun _ => none) (fun y21 => some (.inr y21)) y19)))))))))) (fun y8 => some (.inr y8)) y6)))
theorem R5 (a0 : List Zl) (ha0 : LL Yg a0) (i0 : Nat) : loopM (M.Yq a0) (i0 : Int) = some (runN (S.Yq a0) (.inl ()) i0 (a0.length - i0)) := by
  have hM := Zq
  have hni1 : a0.length ≤ maxLen := ha0.1
  refine Xk (n := a0.length) (fun i1 hi1 => ?_) (fun m hm => ?_) i0
  · unfold M.Yq S.Yq
    try simp only [Int.toNat_natCast]
    refine Yi (dt (by omega)) ?_
    refine QB (ZC (dt (by omega)) (ZC (dt (by omega)) X9)) ?_
    refine XC (Gj ((a0.getD i1 default).Xm) (Yg.Xm (LL.getD ha0 Yg.dflt i1))) (fun r3 her3 => ?_)
    refine Yc (fun hb2 => ?_) (fun hb2 => ?_)
    · exact X2
    · refine XC (R3 a0 i1 ha0 hi1 0) (fun y6 hey6 => ?_)
      refine VP (fun _ hl => ?_) (fun y8 hly8 => ?_)
      · refine XC (XX ((a0.getD i1 default).ZV) 0 32) (fun r9 her9 => ?_)
        refine XC (Wl fun hg => (XX ((a0.getD i1 default).XE) 0 4094)) (fun r10 her10 => ?_)
        refine XC (Wl fun hg => (XX ((a0.getD i1 default).RA) 0 2)) (fun r11 her11 => ?_)
        refine Yc (fun hb4 => ?_) (fun hb4 => ?_)
        · exact X2
        · refine Yc (fun hb5 => ?_) (fun hb5 => ?_)
          · exact X2
          · refine XC (Wl fun hg => (XX ((a0.getD i1 default).V0) 0 255)) (fun r12 her12 => ?_)
            refine XC (Wl fun hg => (XX ((a0.getD i1 default).ZbN) 1 65535)) (fun r13 her13 => ?_)
            refine Yc (fun hb6 => ?_) (fun hb6 => ?_)
            · exact X2
            · refine XC (R4 a0 i1 ha0 hi1 0) (fun y19 hey19 => ?_)
              refine VP (fun _ hl => ?_) (fun y21 hly21 => ?_)
              · exact VC (by omega)
              · exact X2
      · exact X2
  · unfold M.Yq
    try simp only [Int.toNat_natCast]
    exact Yj (decide_eq_false (by omega)) rfl
noncomputable def S.Yd (a0 : List Zl) : Int :=
  bif decide ((a0.length : Int) > 8) then 7 else (letS (runN (S.Yq a0) (.inl ()) 0 a0.length) (fun y22 => Sum.elim (fun _ => 0) (fun y24 => y24) y22))
theorem Zce (a0 : List Zl) (ha0 : LL Yg a0) : M.Yd a0 = some (S.Yd a0) := by
  have hM := Zq
  unfold M.Yd S.Yd
  refine WJ (fun hb1 => ?_) (fun hb1 => ?_)
  · rfl
  · refine XN (R5 a0 ha0 0) (fun y22 hey22 => ?_)
    refine Jr (fun _ hl => ?_) (fun y24 hly24 => ?_)
    · rfl
    · rfl
noncomputable def S.Qb (a0 : ZZ) : Bool :=
  letS (bif ((decide (a0.ZV ≥ 0)) && (decide (a0.ZV ≤ 32))) then S.Ji a0.ZV else default) (fun r1 => ((decide (a0.ZV ≥ 0)) && (decide (a0.ZV ≤ 32))) && ((bitD .andNot .u32 a0.Zx r1) == 0))
theorem W0 (a0 : ZZ)  : M.Qb a0 = some (S.Qb a0) := by
  have hM := Zq
  unfold M.Qb S.Qb
  refine XN (Wl fun hg => (R2 a0.ZV)) (fun r1 her1 => ?_)
  rfl
noncomputable def S.YW (a0 : Ue) : Bool :=
  letS (S.Qb a0.Zo) (fun r1 => ((r1 && (decide (a0.Zo.ZV ≤ a0.Zii))) && (decide (a0.Zii ≤ a0.Zij))) && (decide (a0.Zij ≤ 32)))
theorem KU (a0 : Ue)  : M.YW a0 = some (S.YW a0) := by
  have hM := Zq
  unfold M.YW S.YW
  refine XN (W0 a0.Zo) (fun r1 her1 => ?_)
  rfl
noncomputable def S.Qe (a0 : List Z2) (i1 : Nat) (i4 : Nat) : Option (Unit ⊕ Int) :=
  bif strEq ((a0.getD i4 default).Xm) ((a0.getD i1 default).Xm) then (some (.inr 4)) else none
theorem Rd (a0 : List Z2) (i1 : Nat) (ha0 : LL YB a0) (hi1 : i1 < a0.length) (i0 : Nat) : loopM (M.Qe a0 (i1 : Int)) (i0 : Int) = some (runN (S.Qe a0 i1) (.inl ()) i0 (i1 - i0)) := by
  have hM := Zq
  have hni1 : a0.length ≤ maxLen := ha0.1
  have hni4 : i1 ≤ maxLen := (by omega)
  refine Xk (n := i1) (fun i4 hi4 => ?_) (fun m hm => ?_) i0
  · unfold M.Qe S.Qe
    try simp only [Int.toNat_natCast]
    refine Yi (dt (by omega)) ?_
    refine QB (ZC (dt (by omega)) (ZC (dt (by omega)) (ZC (dt (by omega)) (ZC (dt (by omega)) X9)))) ?_
    refine Yc (fun hb3 => ?_) (fun hb3 => ?_)
    · exact X2
    · exact VC (by omega)
  · unfold M.Qe
    try simp only [Int.toNat_natCast]
    exact Yj (decide_eq_false (by omega)) rfl
noncomputable def S.Qf (a0 : List Z2) (i1 : Nat) (i9 : Nat) : Option (Unit ⊕ Int) :=
  letS (S.YW (((a0.getD i1 default).YH).getD i9 default)) (fun r11 => bif !r11 then (some (.inr 1)) else none)
theorem Re (a0 : List Z2) (i1 : Nat) (ha0 : LL YB a0) (hi1 : i1 < a0.length) (i0 : Nat) : loopM (M.Qf a0 (i1 : Int)) (i0 : Int) = some (runN (S.Qf a0 i1) (.inl ()) i0 (((a0.getD i1 default).YH).length - i0)) := by
  have hM := Zq
  have hni1 : a0.length ≤ maxLen := ha0.1
  have hni9 : ((a0.getD i1 default).YH).length ≤ maxLen := (YB.YH (LL.getD ha0 YB.dflt i1))
  refine Xk (n := ((a0.getD i1 default).YH).length) (fun i9 hi9 => ?_) (fun m hm => ?_) i0
  · unfold M.Qf S.Qf
    try simp only [Int.toNat_natCast]
    refine QB (ZC (dt (by omega)) (ZC (dt (by omega)) X9))  ?_
    refine Yi (dt (by omega)) ?_
    refine XC (KU (((a0.getD i1 default).YH).getD i9 default)) (fun r11 her11 => ?_)
    refine QB (ZC (dt (by omega)) (ZC (dt (by omega)) (ZC (dt (by omega)) (ZC (dt (by omega)) X9)))) ?_
    refine Yc (fun hb6 => ?_) (fun hb6 => ?_)
    · exact X2
    · exact VC (by omega)
  · unfold M.Qf
    try simp only [Int.toNat_natCast]
    refine QB (ZC (dt (by omega)) (ZC (dt (by omega)) X9))  ?_
    exact Yj (decide_eq_false (by omega)) rfl
noncomputable def S.Qg (a0 : List Z2) (i1 : Nat) : Option (Unit ⊕ Int) :=
  letS (S.QZ ((a0.getD i1 default).Xm)) (fun r3 => bif !r3 then (some (.inr 3)) else (letS (runN (S.Qe a0 i1) (.inl ()) 0 i1) (fun y6 => Sum.elim (fun _ => bif (((a0.getD i1 default).YH).length : Int) == 0 then (some (.inr 1)) else (bif decide ((((a0.getD i1 default).YH).length : Int) > 16) then (some (.inr 7)) else (letS (runN (S.Qf a0 i1) (.inl ()) 0 (((a0.getD i1 default).YH).length)) (fun y12 => Sum.elim (fun _ => none) (fun y14 => some (.inr y14)) y12)))) (fun y8 => some (.inr y8)) y6)))
theorem Rf (a0 : List Z2) (ha0 : LL YB a0) (i0 : Nat) : loopM (M.Qg a0) (i0 : Int) = some (runN (S.Qg a0) (.inl ()) i0 (a0.length - i0)) := by
  have hM := Zq
  have hni1 : a0.length ≤ maxLen := ha0.1
  refine Xk (n := a0.length) (fun i1 hi1 => ?_) (fun m hm => ?_) i0
  · unfold M.Qg S.Qg
    try simp only [Int.toNat_natCast]
    refine Yi (dt (by omega)) ?_
    refine XC (Gj ((a0.getD i1 default).Xm) (YB.Xm (LL.getD ha0 YB.dflt i1))) (fun r3 her3 => ?_)
    refine QB (ZC (dt (by omega)) (ZC (dt (by omega)) X9)) ?_
    refine Yc (fun hb2 => ?_) (fun hb2 => ?_)
    · exact X2
    · refine XC (Rd a0 i1 ha0 hi1 0) (fun y6 hey6 => ?_)
      refine VP (fun _ hl => ?_) (fun y8 hly8 => ?_)
      · refine QB (ZC (dt (by omega)) (ZC (dt (by omega)) X9)) ?_
        refine Yc (fun hb4 => ?_) (fun hb4 => ?_)
        · exact X2
        · refine QB (ZC (dt (by omega)) (ZC (dt (by omega)) X9)) ?_
          refine Yc (fun hb5 => ?_) (fun hb5 => ?_)
          · exact X2
          · refine XC (Re a0 i1 ha0 hi1 0) (fun y12 hey12 => ?_)
            refine VP (fun _ hl => ?_) (fun y14 hly14 => ?_)
            · exact VC (by omega)
            · exact X2
      · exact X2
  · unfold M.Qg
    try simp only [Int.toNat_natCast]
    exact Yj (decide_eq_false (by omega)) rfl
noncomputable def S.Ql (a0 : List Z2) : Int :=
  bif decide ((a0.length : Int) > 8) then 7 else (letS (runN (S.Qg a0) (.inl ()) 0 a0.length) (fun y15 => Sum.elim (fun _ => 0) (fun y17 => y17) y15))
theorem Zbg (a0 : List Z2) (ha0 : LL YB a0) : M.Ql a0 = some (S.Ql a0) := by
  have hM := Zq
  unfold M.Ql S.Ql
  refine WJ (fun hb1 => ?_) (fun hb1 => ?_)
  · rfl
  · refine XN (Rf a0 ha0 0) (fun y15 hey15 => ?_)
    refine Jr (fun _ hl => ?_) (fun y17 hly17 => ?_)
    · rfl
    · rfl
noncomputable def S.Qv (a0 : Zf) (a1 : ByteArray) (i1 : Nat) : Option (Unit ⊕ Int) :=
  bif strEq ((a0.Yw.getD i1 default).Xm) a1 then (some (.inr (i1 : Int))) else none
theorem R6 (a0 : Zf) (a1 : ByteArray) (ha0 : Zn a0) (ha1 : a1.size ≤ maxLen) (i0 : Nat) : loopM (M.Qv a0 a1) (i0 : Int) = some (runN (S.Qv a0 a1) (.inl ()) i0 (a0.Yw.length - i0)) := by
  have hM := Zq
  have hni1 : a0.Yw.length ≤ maxLen := (Zn.Yw ha0).1
  refine Xk (n := a0.Yw.length) (fun i1 hi1 => ?_) (fun m hm => ?_) i0
  · unfold M.Qv S.Qv
    try simp only [Int.toNat_natCast]
    refine Yi (dt (by omega)) ?_
    refine QB (ZC (dt (by omega)) (ZC (dt (by omega)) X9)) ?_
    refine Yc (fun hb1 => ?_) (fun hb1 => ?_)
    · exact X2
    · exact VC (by omega)
  · unfold M.Qv
    try simp only [Int.toNat_natCast]
    exact Yj (decide_eq_false (by omega)) rfl
noncomputable def S.YP (a0 : Zf) (a1 : ByteArray) : Int :=
  letS (runN (S.Qv a0 a1) (.inl ()) 0 a0.Yw.length) (fun y3 => Sum.elim (fun _ => -1) (fun y5 => y5) y3)
theorem UY (a0 : Zf) (a1 : ByteArray) (ha0 : Zn a0) (ha1 : a1.size ≤ maxLen) : M.YP a0 a1 = some (S.YP a0 a1) := by
  have hM := Zq
  unfold M.YP S.YP
  refine XN (R6 a0 a1 ha0 ha1 0) (fun y3 hey3 => ?_)
  refine Jr (fun _ hl => ?_) (fun y5 hly5 => ?_)
  · rfl
  · rfl
noncomputable def S.QO (a0 : Zf) (i1 : Nat) (i4 : Nat) : Option (Unit ⊕ Int) :=
  bif strEq ((a0.XF.getD i4 default).Xm) ((a0.XF.getD i1 default).Xm) then (some (.inr 4)) else none
theorem Zax (a0 : Zf) (i1 : Nat) (ha0 : Zn a0) (hi1 : i1 < a0.XF.length) (i0 : Nat) : loopM (M.QO a0 (i1 : Int)) (i0 : Int) = some (runN (S.QO a0 i1) (.inl ()) i0 (i1 - i0)) := by
  have hM := Zq
  have hni1 : a0.XF.length ≤ maxLen := (Zn.XF ha0).1
  have hni4 : i1 ≤ maxLen := (by omega)
  refine Xk (n := i1) (fun i4 hi4 => ?_) (fun m hm => ?_) i0
  · unfold M.QO S.QO
    try simp only [Int.toNat_natCast]
    refine Yi (dt (by omega)) ?_
    refine QB (ZC (dt (by omega)) (ZC (dt (by omega)) (ZC (dt (by omega)) (ZC (dt (by omega)) X9)))) ?_
    refine Yc (fun hb3 => ?_) (fun hb3 => ?_)
    · exact X2
    · exact VC (by omega)
  · unfold M.QO
    try simp only [Int.toNat_natCast]
    exact Yj (decide_eq_false (by omega)) rfl
noncomputable def S.QP (a0 : Zf) (i1 : Nat) (i9 : Nat) : Option (Unit ⊕ Int) :=
  letS (bif (!strEq ((((a0.XF.getD i1 default).X1).getD i9 default).J3) (⟨#[]⟩ : ByteArray)) then S.YP a0 ((((a0.XF.getD i1 default).X1).getD i9 default).J3) else default) (fun r11 => bif (!strEq ((((a0.XF.getD i1 default).X1).getD i9 default).J3) (⟨#[]⟩ : ByteArray)) && (decide (r11 < 0)) then (some (.inr 5)) else (letS (S.ZW ((((a0.XF.getD i1 default).X1).getD i9 default).KI) (-1) 65535) (fun r12 => letS (bif (!(!r12)) then S.ZW ((((a0.XF.getD i1 default).X1).getD i9 default).ZbP) (-1) 65535 else default) (fun r13 => letS (bif (!((!r12) || (!r13))) then S.ZW ((((a0.XF.getD i1 default).X1).getD i9 default).GC) (-1) 16777215 else default) (fun r14 => letS (bif (!(((!r12) || (!r13)) || (!r14))) then S.ZW ((((a0.XF.getD i1 default).X1).getD i9 default).RB) (-1) 1000000 else default) (fun r15 => letS (bif (!((((!r12) || (!r13)) || (!r14)) || (!r15))) then S.ZW ((((a0.XF.getD i1 default).X1).getD i9 default).RC) 0 8 else default) (fun r16 => bif ((((!r12) || (!r13)) || (!r14)) || (!r15)) || (!r16) then (some (.inr 1)) else none)))))))
theorem Zay (a0 : Zf) (i1 : Nat) (ha0 : Zn a0) (hi1 : i1 < a0.XF.length) (i0 : Nat) : loopM (M.QP a0 (i1 : Int)) (i0 : Int) = some (runN (S.QP a0 i1) (.inl ()) i0 (((a0.XF.getD i1 default).X1).length - i0)) := by
  have hM := Zq
  have hni1 : a0.XF.length ≤ maxLen := (Zn.XF ha0).1
  have hni9 : ((a0.XF.getD i1 default).X1).length ≤ maxLen := (Ja.X1 (LL.getD (Zn.XF ha0) Ja.dflt i1)).1
  refine Xk (n := ((a0.XF.getD i1 default).X1).length) (fun i9 hi9 => ?_) (fun m hm => ?_) i0
  · unfold M.QP S.QP
    try simp only [Int.toNat_natCast]
    refine QB (ZC (dt (by omega)) (ZC (dt (by omega)) X9))  ?_
    refine Yi (dt (by omega)) ?_
    refine QB (ZC (dt (by omega)) (ZC (dt (by omega)) (ZC (dt (by omega)) (ZC (dt (by omega)) X9)))) ?_
    refine XC (Wl fun hg => (UY a0 ((((a0.XF.getD i1 default).X1).getD i9 default).J3) ha0 (Un.J3 (LL.getD (Ja.X1 (LL.getD (Zn.XF ha0) Ja.dflt i1)) Un.dflt i9)))) (fun r11 her11 => ?_)
    refine Yc (fun hb6 => ?_) (fun hb6 => ?_)
    · exact X2
    · refine XC (XX ((((a0.XF.getD i1 default).X1).getD i9 default).KI) (-1) 65535) (fun r12 her12 => ?_)
      refine XC (Wl fun hg => (XX ((((a0.XF.getD i1 default).X1).getD i9 default).ZbP) (-1) 65535)) (fun r13 her13 => ?_)
      refine XC (Wl fun hg => (XX ((((a0.XF.getD i1 default).X1).getD i9 default).GC) (-1) 16777215)) (fun r14 her14 => ?_)
      refine XC (Wl fun hg => (XX ((((a0.XF.getD i1 default).X1).getD i9 default).RB) (-1) 1000000)) (fun r15 her15 => ?_)
      refine XC (Wl fun hg => (XX ((((a0.XF.getD i1 default).X1).getD i9 default).RC) 0 8)) (fun r16 her16 => ?_)
      refine Yc (fun hb7 => ?_) (fun hb7 => ?_)
      · exact X2
      · exact VC (by omega)
  · unfold M.QP
    try simp only [Int.toNat_natCast]
    refine QB (ZC (dt (by omega)) (ZC (dt (by omega)) X9))  ?_
    exact Yj (decide_eq_false (by omega)) rfl
noncomputable def S.QQ (a0 : Zf) (i1 : Nat) : Option (Unit ⊕ Int) :=
  letS (S.QZ ((a0.XF.getD i1 default).Xm)) (fun r3 => bif !r3 then (some (.inr 3)) else (letS (runN (S.QO a0 i1) (.inl ()) 0 i1) (fun y6 => Sum.elim (fun _ => bif (((a0.XF.getD i1 default).X1).length : Int) == 0 then (some (.inr 1)) else (bif decide ((((a0.XF.getD i1 default).X1).length : Int) > 8) then (some (.inr 7)) else (letS (runN (S.QP a0 i1) (.inl ()) 0 (((a0.XF.getD i1 default).X1).length)) (fun y17 => Sum.elim (fun _ => none) (fun y19 => some (.inr y19)) y17)))) (fun y8 => some (.inr y8)) y6)))
theorem Zaz (a0 : Zf) (ha0 : Zn a0) (i0 : Nat) : loopM (M.QQ a0) (i0 : Int) = some (runN (S.QQ a0) (.inl ()) i0 (a0.XF.length - i0)) := by
  have hM := Zq
  have hni1 : a0.XF.length ≤ maxLen := (Zn.XF ha0).1
  refine Xk (n := a0.XF.length) (fun i1 hi1 => ?_) (fun m hm => ?_) i0
  · unfold M.QQ S.QQ
    try simp only [Int.toNat_natCast]
    refine Yi (dt (by omega)) ?_
    refine XC (Gj ((a0.XF.getD i1 default).Xm) (Ja.Xm (LL.getD (Zn.XF ha0) Ja.dflt i1))) (fun r3 her3 => ?_)
    refine QB (ZC (dt (by omega)) (ZC (dt (by omega)) X9)) ?_
    refine Yc (fun hb2 => ?_) (fun hb2 => ?_)
    · exact X2
    · refine XC (Zax a0 i1 ha0 hi1 0) (fun y6 hey6 => ?_)
      refine VP (fun _ hl => ?_) (fun y8 hly8 => ?_)
      · refine QB (ZC (dt (by omega)) (ZC (dt (by omega)) X9)) ?_
        refine Yc (fun hb4 => ?_) (fun hb4 => ?_)
        · exact X2
        · refine QB (ZC (dt (by omega)) (ZC (dt (by omega)) X9)) ?_
          refine Yc (fun hb5 => ?_) (fun hb5 => ?_)
          · exact X2
          · refine XC (Zay a0 i1 ha0 hi1 0) (fun y17 hey17 => ?_)
            refine VP (fun _ hl => ?_) (fun y19 hly19 => ?_)
            · exact VC (by omega)
            · exact X2
      · exact X2
  · unfold M.QQ
    try simp only [Int.toNat_natCast]
    exact Yj (decide_eq_false (by omega)) rfl
noncomputable def S.Q1 (a0 : Zf) : Int :=
  bif decide ((a0.XF.length : Int) > 8) then 7 else (letS (runN (S.QQ a0) (.inl ()) 0 a0.XF.length) (fun y20 => Sum.elim (fun _ => 0) (fun y22 => y22) y20))
theorem ZcQ (a0 : Zf) (ha0 : Zn a0) : M.Q1 a0 = some (S.Q1 a0) := by
  have hM := Zq
  unfold M.Q1 S.Q1
  refine WJ (fun hb1 => ?_) (fun hb1 => ?_)
  · rfl
  · refine XN (Zaz a0 ha0 0) (fun y20 hey20 => ?_)
    refine Jr (fun _ hl => ?_) (fun y22 hly22 => ?_)
    · rfl
    · rfl
noncomputable def S.V2 (a0 : VI) : Bool :=
  ((decide (0 ≤ a0.Kq)) && (decide (a0.Kq ≤ a0.K7))) && (decide (a0.K7 ≤ 65535))
theorem Zcf (a0 : VI)  : M.V2 a0 = some (S.V2 a0) := by
  have hM := Zq
  unfold M.V2 S.V2
  rfl
noncomputable def S.Uf (a0 : VI) : Bool :=
  (a0.Kq == 0) && ((a0.K7 == 65535) && true)
theorem Zez (a0 : VI)  : M.Uf a0 = some (S.Uf a0) := by
  have hM := Zq
  unfold M.Uf S.Uf
  rfl
noncomputable def S.J7 (a0 : Zen) : Bool :=
  letS (S.ZW a0.YS (-1) 255) (fun r1 => letS (bif (!(((!r1) || ((bitD .and .u32 a0.Za3.Zx a0.Za3.Gq) != 0)) || ((bitD .and .u32 a0.Za4.Zx a0.Za4.Gq) != 0))) then S.V2 a0.Uk else default) (fun r2 => letS (bif (!((((!r1) || ((bitD .and .u32 a0.Za3.Zx a0.Za3.Gq) != 0)) || ((bitD .and .u32 a0.Za4.Zx a0.Za4.Gq) != 0)) || (!r2))) then S.V2 a0.Ul else default) (fun r3 => bif ((((!r1) || ((bitD .and .u32 a0.Za3.Zx a0.Za3.Gq) != 0)) || ((bitD .and .u32 a0.Za4.Zx a0.Za4.Gq) != 0)) || (!r2)) || (!r3) then false else (letS (bif (!((a0.YS == 6) || (a0.YS == 17))) then S.Uf a0.Uk else default) (fun r4 => letS (bif ((!((a0.YS == 6) || (a0.YS == 17))) && r4) then S.Uf a0.Ul else default) (fun r5 => ((a0.YS == 6) || (a0.YS == 17)) || (r4 && r5)))))))
theorem ZcR (a0 : Zen)  : M.J7 a0 = some (S.J7 a0) := by
  have hM := Zq
  unfold M.J7 S.J7
  refine XN (XX a0.YS (-1) 255) (fun r1 her1 => ?_)
  refine XN (Wl fun hg => (Zcf a0.Uk)) (fun r2 her2 => ?_)
  refine XN (Wl fun hg => (Zcf a0.Ul)) (fun r3 her3 => ?_)
  refine WJ (fun hb1 => ?_) (fun hb1 => ?_)
  · rfl
  · refine XN (Wl fun hg => (Zez a0.Uk)) (fun r4 her4 => ?_)
    refine XN (Wl fun hg => (Zez a0.Ul)) (fun r5 her5 => ?_)
    rfl
noncomputable def S.Qh (a0 : List W3) (i1 : Nat) (i4 : Nat) : Option (Unit ⊕ Int) :=
  bif strEq ((a0.getD i4 default).Xm) ((a0.getD i1 default).Xm) then (some (.inr 4)) else none
theorem Rg (a0 : List W3) (i1 : Nat) (ha0 : LL Uj a0) (hi1 : i1 < a0.length) (i0 : Nat) : loopM (M.Qh a0 (i1 : Int)) (i0 : Int) = some (runN (S.Qh a0 i1) (.inl ()) i0 (i1 - i0)) := by
  have hM := Zq
  have hni1 : a0.length ≤ maxLen := ha0.1
  have hni4 : i1 ≤ maxLen := (by omega)
  refine Xk (n := i1) (fun i4 hi4 => ?_) (fun m hm => ?_) i0
  · unfold M.Qh S.Qh
    try simp only [Int.toNat_natCast]
    refine Yi (dt (by omega)) ?_
    refine QB (ZC (dt (by omega)) (ZC (dt (by omega)) (ZC (dt (by omega)) (ZC (dt (by omega)) X9)))) ?_
    refine Yc (fun hb3 => ?_) (fun hb3 => ?_)
    · exact X2
    · exact VC (by omega)
  · unfold M.Qh
    try simp only [Int.toNat_natCast]
    exact Yj (decide_eq_false (by omega)) rfl
noncomputable def S.Qi (a0 : List W3) (i1 : Nat) (i9 : Nat) : Option (Unit ⊕ Int) :=
  letS (S.J7 (((a0.getD i1 default).YH).getD i9 default)) (fun r11 => bif !r11 then (some (.inr 1)) else none)
theorem Rh (a0 : List W3) (i1 : Nat) (ha0 : LL Uj a0) (hi1 : i1 < a0.length) (i0 : Nat) : loopM (M.Qi a0 (i1 : Int)) (i0 : Int) = some (runN (S.Qi a0 i1) (.inl ()) i0 (((a0.getD i1 default).YH).length - i0)) := by
  have hM := Zq
  have hni1 : a0.length ≤ maxLen := ha0.1
  have hni9 : ((a0.getD i1 default).YH).length ≤ maxLen := (Uj.YH (LL.getD ha0 Uj.dflt i1))
  refine Xk (n := ((a0.getD i1 default).YH).length) (fun i9 hi9 => ?_) (fun m hm => ?_) i0
  · unfold M.Qi S.Qi
    try simp only [Int.toNat_natCast]
    refine QB (ZC (dt (by omega)) (ZC (dt (by omega)) X9))  ?_
    refine Yi (dt (by omega)) ?_
    refine XC (ZcR (((a0.getD i1 default).YH).getD i9 default)) (fun r11 her11 => ?_)
    refine QB (ZC (dt (by omega)) (ZC (dt (by omega)) (ZC (dt (by omega)) (ZC (dt (by omega)) X9)))) ?_
    refine Yc (fun hb6 => ?_) (fun hb6 => ?_)
    · exact X2
    · exact VC (by omega)
  · unfold M.Qi
    try simp only [Int.toNat_natCast]
    refine QB (ZC (dt (by omega)) (ZC (dt (by omega)) X9))  ?_
    exact Yj (decide_eq_false (by omega)) rfl
noncomputable def S.Qj (a0 : List W3) (i1 : Nat) : Option (Unit ⊕ Int) :=
  letS (S.QZ ((a0.getD i1 default).Xm)) (fun r3 => bif !r3 then (some (.inr 3)) else (letS (runN (S.Qh a0 i1) (.inl ()) 0 i1) (fun y6 => Sum.elim (fun _ => bif (((a0.getD i1 default).YH).length : Int) == 0 then (some (.inr 1)) else (bif decide ((((a0.getD i1 default).YH).length : Int) > 16) then (some (.inr 7)) else (letS (runN (S.Qi a0 i1) (.inl ()) 0 (((a0.getD i1 default).YH).length)) (fun y12 => Sum.elim (fun _ => none) (fun y14 => some (.inr y14)) y12)))) (fun y8 => some (.inr y8)) y6)))
theorem Ri (a0 : List W3) (ha0 : LL Uj a0) (i0 : Nat) : loopM (M.Qj a0) (i0 : Int) = some (runN (S.Qj a0) (.inl ()) i0 (a0.length - i0)) := by
  have hM := Zq
  have hni1 : a0.length ≤ maxLen := ha0.1
  refine Xk (n := a0.length) (fun i1 hi1 => ?_) (fun m hm => ?_) i0
  · unfold M.Qj S.Qj
    try simp only [Int.toNat_natCast]
    refine Yi (dt (by omega)) ?_
    refine XC (Gj ((a0.getD i1 default).Xm) (Uj.Xm (LL.getD ha0 Uj.dflt i1))) (fun r3 her3 => ?_)
    refine QB (ZC (dt (by omega)) (ZC (dt (by omega)) X9)) ?_
    refine Yc (fun hb2 => ?_) (fun hb2 => ?_)
    · exact X2
    · refine XC (Rg a0 i1 ha0 hi1 0) (fun y6 hey6 => ?_)
      refine VP (fun _ hl => ?_) (fun y8 hly8 => ?_)
      · refine QB (ZC (dt (by omega)) (ZC (dt (by omega)) X9)) ?_
        refine Yc (fun hb4 => ?_) (fun hb4 => ?_)
        · exact X2
        · refine QB (ZC (dt (by omega)) (ZC (dt (by omega)) X9)) ?_
          refine Yc (fun hb5 => ?_) (fun hb5 => ?_)
          · exact X2
          · refine XC (Rh a0 i1 ha0 hi1 0) (fun y12 hey12 => ?_)
            refine VP (fun _ hl => ?_) (fun y14 hly14 => ?_)
            · exact VC (by omega)
            · exact X2
      · exact X2
  · unfold M.Qj
    try simp only [Int.toNat_natCast]
    exact Yj (decide_eq_false (by omega)) rfl
noncomputable def S.Qm (a0 : List W3) : Int :=
  bif decide ((a0.length : Int) > 8) then 7 else (letS (runN (S.Qj a0) (.inl ()) 0 a0.length) (fun y15 => Sum.elim (fun _ => 0) (fun y17 => y17) y15))
theorem Zbh (a0 : List W3) (ha0 : LL Uj a0) : M.Qm a0 = some (S.Qm a0) := by
  have hM := Zq
  unfold M.Qm S.Qm
  refine WJ (fun hb1 => ?_) (fun hb1 => ?_)
  · rfl
  · refine XN (Ri a0 ha0 0) (fun y15 hey15 => ?_)
    refine Jr (fun _ hl => ?_) (fun y17 hly17 => ?_)
    · rfl
    · rfl
noncomputable def S.We (a0 : Zf) (a1 : ByteArray) (i1 : Nat) : Option (Unit ⊕ Int) :=
  bif strEq ((a0.YF.getD i1 default).Xm) a1 then (some (.inr (i1 : Int))) else none
theorem ZeW (a0 : Zf) (a1 : ByteArray) (ha0 : Zn a0) (ha1 : a1.size ≤ maxLen) (i0 : Nat) : loopM (M.We a0 a1) (i0 : Int) = some (runN (S.We a0 a1) (.inl ()) i0 (a0.YF.length - i0)) := by
  have hM := Zq
  have hni1 : a0.YF.length ≤ maxLen := (Zn.YF ha0).1
  refine Xk (n := a0.YF.length) (fun i1 hi1 => ?_) (fun m hm => ?_) i0
  · unfold M.We S.We
    try simp only [Int.toNat_natCast]
    refine Yi (dt (by omega)) ?_
    refine QB (ZC (dt (by omega)) (ZC (dt (by omega)) X9)) ?_
    refine Yc (fun hb1 => ?_) (fun hb1 => ?_)
    · exact X2
    · exact VC (by omega)
  · unfold M.We
    try simp only [Int.toNat_natCast]
    exact Yj (decide_eq_false (by omega)) rfl
noncomputable def S.Wx (a0 : Zf) (a1 : ByteArray) : Int :=
  letS (runN (S.We a0 a1) (.inl ()) 0 a0.YF.length) (fun y3 => Sum.elim (fun _ => -1) (fun y5 => y5) y3)
theorem Zbi (a0 : Zf) (a1 : ByteArray) (ha0 : Zn a0) (ha1 : a1.size ≤ maxLen) : M.Wx a0 a1 = some (S.Wx a0 a1) := by
  have hM := Zq
  unfold M.Wx S.Wx
  refine XN (ZeW a0 a1 ha0 ha1 0) (fun y3 hey3 => ?_)
  refine Jr (fun _ hl => ?_) (fun y5 hly5 => ?_)
  · rfl
  · rfl
noncomputable def S.XW (a0 : Zf) (i1 : Nat) (p3 : Bool) : Option (Unit ⊕ Int) :=
  bif !p3 then (some (.inr 1)) else (letS (bif (((a0.Xc.getD i1 default).Wr) == 2) then S.Wx a0 ((a0.Xc.getD i1 default).J3) else default) (fun r4 => bif (((a0.Xc.getD i1 default).Wr) == 2) && (decide (r4 < 0)) then (some (.inr 5)) else none))
theorem VT (a0 : Zf) (i1 : Nat) (p3 : Bool) (ha0 : Zn a0) (hi1 : i1 < a0.Xc.length) : M.XW a0 (i1 : Int) p3 = some (rdN (S.XW a0 i1 p3) i1) := by
  have hM := Zq
  have hni1 : a0.Xc.length ≤ maxLen := (Zn.Xc ha0).1
  unfold M.XW S.XW
  try simp only [Int.toNat_natCast]
  refine Yc (fun hb3 => ?_) (fun hb3 => ?_)
  · exact X2
  · refine XC (Wl fun hg => (Zbi a0 ((a0.Xc.getD i1 default).J3) ha0 (Vd.J3 (LL.getD (Zn.Xc ha0) Vd.dflt i1)))) (fun r4 her4 => ?_)
    refine Yc (fun hb4 => ?_) (fun hb4 => ?_)
    · exact X2
    · exact VC (by omega)
noncomputable def S.YX (a0 : Zf) (i1 : Nat) : Option (Unit ⊕ Int) :=
  bif ((a0.Xc.getD i1 default).Wr) == 1 then (S.XW a0 i1 (((((a0.Xc.getD i1 default).JD) != 0) && (((a0.Xc.getD i1 default).QC) != 0)) && ((((a0.Xc.getD i1 default).Wr) == ((a0.Xc.getD i1 default).Wr)) && ((((a0.Xc.getD i1 default).JD) == ((a0.Xc.getD i1 default).JD)) && ((((a0.Xc.getD i1 default).QC) == ((a0.Xc.getD i1 default).QC)) && ((((a0.Xc.getD i1 default).YS) == 0) && ((((a0.Xc.getD i1 default).JT) == 0) && ((((a0.Xc.getD i1 default).Jh) == 0) && (strEq ((a0.Xc.getD i1 default).J3) (⟨#[]⟩ : ByteArray) && ((((a0.Xc.getD i1 default).Kq) == 0) && ((((a0.Xc.getD i1 default).K7) == 0) && true))))))))))) else (bif ((a0.Xc.getD i1 default).Wr) == 2 then (S.XW a0 i1 ((((((a0.Xc.getD i1 default).Kq) != 0) && (decide (((a0.Xc.getD i1 default).Kq) ≤ ((a0.Xc.getD i1 default).K7)))) && (decide ((wr .u32 (((a0.Xc.getD i1 default).K7) - ((a0.Xc.getD i1 default).Kq))) < 8))) && ((((a0.Xc.getD i1 default).Wr) == ((a0.Xc.getD i1 default).Wr)) && ((((a0.Xc.getD i1 default).JD) == 0) && ((((a0.Xc.getD i1 default).QC) == 0) && ((((a0.Xc.getD i1 default).YS) == 0) && ((((a0.Xc.getD i1 default).JT) == 0) && ((((a0.Xc.getD i1 default).Jh) == 0) && (strEq ((a0.Xc.getD i1 default).J3) ((a0.Xc.getD i1 default).J3) && ((((a0.Xc.getD i1 default).Kq) == ((a0.Xc.getD i1 default).Kq)) && ((((a0.Xc.getD i1 default).K7) == ((a0.Xc.getD i1 default).K7)) && true))))))))))) else (bif ((a0.Xc.getD i1 default).Wr) == 3 then (letS (bif (((((a0.Xc.getD i1 default).JD) != 0) && (((a0.Xc.getD i1 default).QC) != 0)) && ((((a0.Xc.getD i1 default).YS) == 6) || (((a0.Xc.getD i1 default).YS) == 17))) then S.ZW ((a0.Xc.getD i1 default).JT) 0 65535 else default) (fun r5 => letS (bif ((((((a0.Xc.getD i1 default).JD) != 0) && (((a0.Xc.getD i1 default).QC) != 0)) && ((((a0.Xc.getD i1 default).YS) == 6) || (((a0.Xc.getD i1 default).YS) == 17))) && r5) then S.ZW ((a0.Xc.getD i1 default).Jh) 0 65535 else default) (fun r6 => S.XW a0 i1 ((((((((((a0.Xc.getD i1 default).JD) != 0) && (((a0.Xc.getD i1 default).QC) != 0)) && ((((a0.Xc.getD i1 default).YS) == 6) || (((a0.Xc.getD i1 default).YS) == 17))) && r5) && r6) && (strEq ((a0.Xc.getD i1 default).J3) (⟨#[]⟩ : ByteArray))) && (((a0.Xc.getD i1 default).Kq) == 0)) && (((a0.Xc.getD i1 default).K7) == 0))))) else (S.XW a0 i1 false)))
theorem KV (a0 : Zf) (ha0 : Zn a0) (i0 : Nat) : loopM (M.YX a0) (i0 : Int) = some (runN (S.YX a0) (.inl ()) i0 (a0.Xc.length - i0)) := by
  have hM := Zq
  have hni1 : a0.Xc.length ≤ maxLen := (Zn.Xc ha0).1
  refine Xk (n := a0.Xc.length) (fun i1 hi1 => ?_) (fun m hm => ?_) i0
  · unfold M.YX S.YX
    try simp only [Int.toNat_natCast]
    refine Yi (dt (by omega)) ?_
    refine QB (ZC (dt (by omega)) (ZC (dt (by omega)) X9)) ?_
    refine Yc (fun hb2 => ?_) (fun hb2 => ?_)
    · exact VT a0 i1 (((((a0.Xc.getD i1 default).JD) != 0) && (((a0.Xc.getD i1 default).QC) != 0)) && ((((a0.Xc.getD i1 default).Wr) == ((a0.Xc.getD i1 default).Wr)) && ((((a0.Xc.getD i1 default).JD) == ((a0.Xc.getD i1 default).JD)) && ((((a0.Xc.getD i1 default).QC) == ((a0.Xc.getD i1 default).QC)) && ((((a0.Xc.getD i1 default).YS) == 0) && ((((a0.Xc.getD i1 default).JT) == 0) && ((((a0.Xc.getD i1 default).Jh) == 0) && (strEq ((a0.Xc.getD i1 default).J3) (⟨#[]⟩ : ByteArray) && ((((a0.Xc.getD i1 default).Kq) == 0) && ((((a0.Xc.getD i1 default).K7) == 0) && true)))))))))) ha0 hi1
    · refine Yc (fun hb5 => ?_) (fun hb5 => ?_)
      · exact VT a0 i1 ((((((a0.Xc.getD i1 default).Kq) != 0) && (decide (((a0.Xc.getD i1 default).Kq) ≤ ((a0.Xc.getD i1 default).K7)))) && (decide ((wr .u32 (((a0.Xc.getD i1 default).K7) - ((a0.Xc.getD i1 default).Kq))) < 8))) && ((((a0.Xc.getD i1 default).Wr) == ((a0.Xc.getD i1 default).Wr)) && ((((a0.Xc.getD i1 default).JD) == 0) && ((((a0.Xc.getD i1 default).QC) == 0) && ((((a0.Xc.getD i1 default).YS) == 0) && ((((a0.Xc.getD i1 default).JT) == 0) && ((((a0.Xc.getD i1 default).Jh) == 0) && (strEq ((a0.Xc.getD i1 default).J3) ((a0.Xc.getD i1 default).J3) && ((((a0.Xc.getD i1 default).Kq) == ((a0.Xc.getD i1 default).Kq)) && ((((a0.Xc.getD i1 default).K7) == ((a0.Xc.getD i1 default).K7)) && true)))))))))) ha0 hi1
      · refine Yc (fun hb6 => ?_) (fun hb6 => ?_)
        · refine XC (Wl fun hg => (XX ((a0.Xc.getD i1 default).JT) 0 65535)) (fun r5 her5 => ?_)
          refine XC (Wl fun hg => (XX ((a0.Xc.getD i1 default).Jh) 0 65535)) (fun r6 her6 => ?_)
          exact VT a0 i1 ((((((((((a0.Xc.getD i1 default).JD) != 0) && (((a0.Xc.getD i1 default).QC) != 0)) && ((((a0.Xc.getD i1 default).YS) == 6) || (((a0.Xc.getD i1 default).YS) == 17))) && r5) && r6) && (strEq ((a0.Xc.getD i1 default).J3) (⟨#[]⟩ : ByteArray))) && (((a0.Xc.getD i1 default).Kq) == 0)) && (((a0.Xc.getD i1 default).K7) == 0)) ha0 hi1
        · exact VT a0 i1 false ha0 hi1
  · unfold M.YX
    try simp only [Int.toNat_natCast]
    exact Yj (decide_eq_false (by omega)) rfl
noncomputable def S.YY (a0 : Zf) : Int :=
  bif decide ((a0.Xc.length : Int) > 8) then 7 else (letS (runN (S.YX a0) (.inl ()) 0 a0.Xc.length) (fun y7 => Sum.elim (fun _ => 0) (fun y9 => y9) y7))
theorem ZaA (a0 : Zf) (ha0 : Zn a0) : M.YY a0 = some (S.YY a0) := by
  have hM := Zq
  unfold M.YY S.YY
  refine WJ (fun hb1 => ?_) (fun hb1 => ?_)
  · rfl
  · refine XN (KV a0 ha0 0) (fun y7 hey7 => ?_)
    refine Jr (fun _ hl => ?_) (fun y9 hly9 => ?_)
    · rfl
    · rfl
noncomputable def S.JE (a0 : Zf) (i1 : Nat) : Option (Unit ⊕ Int) :=
  letS (bif (!strEq ((a0.Zc.getD i1 default).VQ) (⟨#[]⟩ : ByteArray)) then S.Wx a0 ((a0.Zc.getD i1 default).VQ) else default) (fun r3 => letS (bif ((!((!strEq ((a0.Zc.getD i1 default).VQ) (⟨#[]⟩ : ByteArray)) && (decide (r3 < 0)))) && (!strEq ((a0.Zc.getD i1 default).Qa) (⟨#[]⟩ : ByteArray))) then S.Wx a0 ((a0.Zc.getD i1 default).Qa) else default) (fun r4 => bif ((!strEq ((a0.Zc.getD i1 default).VQ) (⟨#[]⟩ : ByteArray)) && (decide (r3 < 0))) || ((!strEq ((a0.Zc.getD i1 default).Qa) (⟨#[]⟩ : ByteArray)) && (decide (r4 < 0))) then (some (.inr 5)) else none))
theorem Zcg (a0 : Zf) (ha0 : Zn a0) (i0 : Nat) : loopM (M.JE a0) (i0 : Int) = some (runN (S.JE a0) (.inl ()) i0 (a0.Zc.length - i0)) := by
  have hM := Zq
  have hni1 : a0.Zc.length ≤ maxLen := (Zn.Zc ha0).1
  refine Xk (n := a0.Zc.length) (fun i1 hi1 => ?_) (fun m hm => ?_) i0
  · unfold M.JE S.JE
    try simp only [Int.toNat_natCast]
    refine Yi (dt (by omega)) ?_
    refine QB (ZC (dt (by omega)) (ZC (dt (by omega)) X9)) ?_
    refine XC (Wl fun hg => (Zbi a0 ((a0.Zc.getD i1 default).VQ) ha0 (Yg.VQ (LL.getD (Zn.Zc ha0) Yg.dflt i1)))) (fun r3 her3 => ?_)
    refine XC (Wl fun hg => (Zbi a0 ((a0.Zc.getD i1 default).Qa) ha0 (Yg.Qa (LL.getD (Zn.Zc ha0) Yg.dflt i1)))) (fun r4 her4 => ?_)
    refine Yc (fun hb1 => ?_) (fun hb1 => ?_)
    · exact X2
    · exact VC (by omega)
  · unfold M.JE
    try simp only [Int.toNat_natCast]
    exact Yj (decide_eq_false (by omega)) rfl
noncomputable def S.J8 (a0 : Zf) : Int :=
  letS (runN (S.JE a0) (.inl ()) 0 a0.Zc.length) (fun y5 => Sum.elim (fun _ => 0) (fun y7 => y7) y5)
theorem ZeA (a0 : Zf) (ha0 : Zn a0) : M.J8 a0 = some (S.J8 a0) := by
  have hM := Zq
  unfold M.J8 S.J8
  refine XN (Zcg a0 ha0 0) (fun y5 hey5 => ?_)
  refine Jr (fun _ hl => ?_) (fun y7 hly7 => ?_)
  · rfl
  · rfl
noncomputable def S.JF (a0 : Zf) (a1 : Int) (i1 : Nat) : Option (Unit ⊕ Int) :=
  bif (((a0.Zc.getD i1 default).ZV) != 0) && (((a0.Zc.getD i1 default).Zx) == a1) then (some (.inr (i1 : Int))) else none
theorem Zch (a0 : Zf) (a1 : Int) (ha0 : Zn a0) (i0 : Nat) : loopM (M.JF a0 a1) (i0 : Int) = some (runN (S.JF a0 a1) (.inl ()) i0 (a0.Zc.length - i0)) := by
  have hM := Zq
  have hni1 : a0.Zc.length ≤ maxLen := (Zn.Zc ha0).1
  refine Xk (n := a0.Zc.length) (fun i1 hi1 => ?_) (fun m hm => ?_) i0
  · unfold M.JF S.JF
    try simp only [Int.toNat_natCast]
    refine Yi (dt (by omega)) ?_
    refine QB (ZC (dt (by omega)) (ZC (dt (by omega)) (ZC (YO fun hg => (dt (by first | omega | (simp; omega) | (simp at *; omega)))) (ZC (YO fun hg => (dt (by first | omega | (simp; omega) | (simp at *; omega)))) X9)))) ?_
    refine Yc (fun hb1 => ?_) (fun hb1 => ?_)
    · exact X2
    · exact VC (by omega)
  · unfold M.JF
    try simp only [Int.toNat_natCast]
    exact Yj (decide_eq_false (by omega)) rfl
noncomputable def S.JG (a0 : Zf) (a1 : Int) : Int :=
  letS (runN (S.JF a0 a1) (.inl ()) 0 a0.Zc.length) (fun y3 => Sum.elim (fun _ => -1) (fun y5 => y5) y3)
theorem R7 (a0 : Zf) (a1 : Int) (ha0 : Zn a0) : M.JG a0 a1 = some (S.JG a0 a1) := by
  have hM := Zq
  unfold M.JG S.JG
  refine XN (Zch a0 a1 ha0 0) (fun y3 hey3 => ?_)
  refine Jr (fun _ hl => ?_) (fun y5 hly5 => ?_)
  · rfl
  · rfl
noncomputable def S.Qo (a0 : Zf) (a1 : ByteArray) (i1 : Nat) : Option (Unit ⊕ Int) :=
  bif strEq ((a0.Zc.getD i1 default).Xm) a1 then (some (.inr (i1 : Int))) else none
theorem ZaB (a0 : Zf) (a1 : ByteArray) (ha0 : Zn a0) (ha1 : a1.size ≤ maxLen) (i0 : Nat) : loopM (M.Qo a0 a1) (i0 : Int) = some (runN (S.Qo a0 a1) (.inl ()) i0 (a0.Zc.length - i0)) := by
  have hM := Zq
  have hni1 : a0.Zc.length ≤ maxLen := (Zn.Zc ha0).1
  refine Xk (n := a0.Zc.length) (fun i1 hi1 => ?_) (fun m hm => ?_) i0
  · unfold M.Qo S.Qo
    try simp only [Int.toNat_natCast]
    refine Yi (dt (by omega)) ?_
    refine QB (ZC (dt (by omega)) (ZC (dt (by omega)) X9)) ?_
    refine Yc (fun hb1 => ?_) (fun hb1 => ?_)
    · exact X2
    · exact VC (by omega)
  · unfold M.Qo
    try simp only [Int.toNat_natCast]
    exact Yj (decide_eq_false (by omega)) rfl
noncomputable def S.Q2 (a0 : Zf) (a1 : ByteArray) : Int :=
  letS (runN (S.Qo a0 a1) (.inl ()) 0 a0.Zc.length) (fun y3 => Sum.elim (fun _ => -1) (fun y5 => y5) y3)
theorem ZcS (a0 : Zf) (a1 : ByteArray) (ha0 : Zn a0) (ha1 : a1.size ≤ maxLen) : M.Q2 a0 a1 = some (S.Q2 a0 a1) := by
  have hM := Zq
  unfold M.Q2 S.Q2
  refine XN (ZaB a0 a1 ha0 ha1 0) (fun y3 hey3 => ?_)
  refine Jr (fun _ hl => ?_) (fun y5 hly5 => ?_)
  · rfl
  · rfl
theorem Zbj (a0 : Zf) (a1 : ByteArray) : S.Q2 a0 a1 < (a0.Zc.length : Int) := by
  unfold S.Q2
  simp only [letS]
  exact ZkZ (fun i => by unfold S.Qo; cases strEq (a0.Zc.getD i default).Xm a1 <;> simp) _
noncomputable def S.JH (a0 : Zf) (i1 : Nat) (i11 : Nat) : Option (Unit ⊕ Int) :=
  bif (((((a0.Zr.getD i11 default).Zo).Zx) == (((a0.Zr.getD i1 default).Zo).Zx)) && (((((a0.Zr.getD i11 default).Zo).ZV) == (((a0.Zr.getD i1 default).Zo).ZV)) && true)) && (((a0.Zr.getD i11 default).Xr) == ((a0.Zr.getD i1 default).Xr)) then (some (.inr 6)) else none
theorem Zci (a0 : Zf) (i1 : Nat) (ha0 : Zn a0) (hi1 : i1 < a0.Zr.length) (i0 : Nat) : loopM (M.JH a0 (i1 : Int)) (i0 : Int) = some (runN (S.JH a0 i1) (.inl ()) i0 (i1 - i0)) := by
  have hM := Zq
  have hni1 : a0.Zr.length ≤ maxLen := (Zn.Zr ha0).1
  have hni11 : i1 ≤ maxLen := (by omega)
  refine Xk (n := i1) (fun i11 hi11 => ?_) (fun m hm => ?_) i0
  · unfold M.JH S.JH
    try simp only [Int.toNat_natCast]
    refine Yi (dt (by omega)) ?_
    refine QB (ZC (dt (by omega)) (ZC (dt (by omega)) (ZC (YO fun hg => (dt (by first | omega | (simp; omega) | (simp at *; omega)))) (ZC (YO fun hg => (dt (by first | omega | (simp; omega) | (simp at *; omega)))) X9)))) ?_
    refine Yc (fun hb9 => ?_) (fun hb9 => ?_)
    · exact X2
    · exact VC (by omega)
  · unfold M.JH
    try simp only [Int.toNat_natCast]
    exact Yj (decide_eq_false (by omega)) rfl
noncomputable def S.QD (a0 : Zf) (i1 : Nat) (_p10 : Unit) : Option (Unit ⊕ Int) :=
  letS (runN (S.JH a0 i1) (.inl ()) 0 i1) (fun y13 => Sum.elim (fun _ => none) (fun y15 => some (.inr y15)) y13)
theorem G6 (a0 : Zf) (i1 : Nat) (_p10 : Unit) (ha0 : Zn a0) (hi1 : i1 < a0.Zr.length) : M.QD a0 (i1 : Int) _p10 = some (rdN (S.QD a0 i1 _p10) i1) := by
  have hM := Zq
  have hni1 : a0.Zr.length ≤ maxLen := (Zn.Zr ha0).1
  unfold M.QD S.QD
  try simp only [Int.toNat_natCast]
  refine XC (Zci a0 i1 ha0 hi1 0) (fun y13 hey13 => ?_)
  refine VP (fun _ hl => ?_) (fun y15 hly15 => ?_)
  · exact VC (by omega)
  · exact X2
noncomputable def S.QE (a0 : Zf) (i1 : Nat) (p5 : Int) : Option (Unit ⊕ Int) :=
  letS (S.Qb ((a0.Zr.getD i1 default).Zo)) (fun r6 => letS (bif ((!((!r6) || (p5 != 1))) && (((a0.Zr.getD i1 default).UR) != 0)) then S.JG a0 ((a0.Zr.getD i1 default).UR) else default) (fun r7 => letS (bif (!(((!r6) || (p5 != 1)) || ((((a0.Zr.getD i1 default).UR) != 0) && (decide (r7 ≥ 0))))) then S.ZW ((a0.Zr.getD i1 default).Xr) 1 255 else default) (fun r8 => letS (bif (!((((!r6) || (p5 != 1)) || ((((a0.Zr.getD i1 default).UR) != 0) && (decide (r7 ≥ 0)))) || (!r8))) then S.ZW ((a0.Zr.getD i1 default).KI) 0 65535 else default) (fun r9 => bif ((((!r6) || (p5 != 1)) || ((((a0.Zr.getD i1 default).UR) != 0) && (decide (r7 ≥ 0)))) || (!r8)) || (!r9) then (some (.inr 1)) else (bif !strEq ((a0.Zr.getD i1 default).XY) (⟨#[]⟩ : ByteArray) then (letS (S.Q2 a0 ((a0.Zr.getD i1 default).XY)) (fun r16 => bif decide (r16 < 0) then (some (.inr 5)) else (bif ((a0.Zc.getD r16.toNat default).ZV) == 0 then (some (.inr 1)) else (S.QD a0 i1 ())))) else (S.QD a0 i1 ()))))))
theorem G7 (a0 : Zf) (i1 : Nat) (p5 : Int) (ha0 : Zn a0) (hi1 : i1 < a0.Zr.length) : M.QE a0 (i1 : Int) p5 = some (rdN (S.QE a0 i1 p5) i1) := by
  have hM := Zq
  have hni1 : a0.Zr.length ≤ maxLen := (Zn.Zr ha0).1
  unfold M.QE S.QE
  try simp only [Int.toNat_natCast]
  refine XC (W0 ((a0.Zr.getD i1 default).Zo)) (fun r6 her6 => ?_)
  refine XC (Wl fun hg => (R7 a0 ((a0.Zr.getD i1 default).UR) ha0)) (fun r7 her7 => ?_)
  refine XC (Wl fun hg => (XX ((a0.Zr.getD i1 default).Xr) 1 255)) (fun r8 her8 => ?_)
  refine XC (Wl fun hg => (XX ((a0.Zr.getD i1 default).KI) 0 65535)) (fun r9 her9 => ?_)
  refine Yc (fun hb5 => ?_) (fun hb5 => ?_)
  · exact X2
  · refine Yc (fun hb6 => ?_) (fun hb6 => ?_)
    · refine XC (ZcS a0 ((a0.Zr.getD i1 default).XY) ha0 (Ve.XY (LL.getD (Zn.Zr ha0) Ve.dflt i1))) (fun r16 her16 => ?_)
      have hrr16 := Zbj a0 ((a0.Zr.getD i1 default).XY)
      refine Yc (fun hb7 => ?_) (fun hb7 => ?_)
      · exact X2
      · refine QB (ZC (dt (by first | omega | (simp; omega) | (simp at *; omega))) (ZC (dt (by first | omega | (simp; omega) | (simp at *; omega))) X9)) ?_
        refine Yc (fun hb8 => ?_) (fun hb8 => ?_)
        · exact X2
        · exact G6 a0 i1 () ha0 hi1
    · exact G6 a0 i1 () ha0 hi1
noncomputable def S.QF (a0 : Zf) (i1 : Nat) (p4 : Int) : Option (Unit ⊕ Int) :=
  bif (a0.Zr.getD i1 default).Zeo then (S.QE a0 i1 (wr .i64 (p4 + 1))) else (S.QE a0 i1 p4)
theorem G8 (a0 : Zf) (i1 : Nat) (p4 : Int) (ha0 : Zn a0) (hi1 : i1 < a0.Zr.length) : M.QF a0 (i1 : Int) p4 = some (rdN (S.QF a0 i1 p4) i1) := by
  have hM := Zq
  have hni1 : a0.Zr.length ≤ maxLen := (Zn.Zr ha0).1
  unfold M.QF S.QF
  try simp only [Int.toNat_natCast]
  refine Yc (fun hb4 => ?_) (fun hb4 => ?_)
  · exact G7 a0 i1 (wr .i64 (p4 + 1)) ha0 hi1
  · exact G7 a0 i1 p4 ha0 hi1
noncomputable def S.QG (a0 : Zf) (i1 : Nat) (p3 : Int) : Option (Unit ⊕ Int) :=
  bif !strEq ((a0.Zr.getD i1 default).XY) (⟨#[]⟩ : ByteArray) then (S.QF a0 i1 (wr .i64 (p3 + 1))) else (S.QF a0 i1 p3)
theorem G9 (a0 : Zf) (i1 : Nat) (p3 : Int) (ha0 : Zn a0) (hi1 : i1 < a0.Zr.length) : M.QG a0 (i1 : Int) p3 = some (rdN (S.QG a0 i1 p3) i1) := by
  have hM := Zq
  have hni1 : a0.Zr.length ≤ maxLen := (Zn.Zr ha0).1
  unfold M.QG S.QG
  try simp only [Int.toNat_natCast]
  refine Yc (fun hb3 => ?_) (fun hb3 => ?_)
  · exact G8 a0 i1 (wr .i64 (p3 + 1)) ha0 hi1
  · exact G8 a0 i1 p3 ha0 hi1
noncomputable def S.JI (a0 : Zf) (i1 : Nat) : Option (Unit ⊕ Int) :=
  bif ((a0.Zr.getD i1 default).UR) != 0 then (S.QG a0 i1 1) else (S.QG a0 i1 0)
theorem Zcj (a0 : Zf) (ha0 : Zn a0) (i0 : Nat) : loopM (M.JI a0) (i0 : Int) = some (runN (S.JI a0) (.inl ()) i0 (a0.Zr.length - i0)) := by
  have hM := Zq
  have hni1 : a0.Zr.length ≤ maxLen := (Zn.Zr ha0).1
  refine Xk (n := a0.Zr.length) (fun i1 hi1 => ?_) (fun m hm => ?_) i0
  · unfold M.JI S.JI
    try simp only [Int.toNat_natCast]
    refine Yi (dt (by omega)) ?_
    refine QB (ZC (dt (by omega)) (ZC (dt (by omega)) X9)) ?_
    refine Yc (fun hb2 => ?_) (fun hb2 => ?_)
    · exact G9 a0 i1 1 ha0 hi1
    · exact G9 a0 i1 0 ha0 hi1
  · unfold M.JI
    try simp only [Int.toNat_natCast]
    exact Yj (decide_eq_false (by omega)) rfl
noncomputable def S.J9 (a0 : Zf) : Int :=
  bif decide ((a0.Zr.length : Int) > 16) then 7 else (letS (runN (S.JI a0) (.inl ()) 0 a0.Zr.length) (fun y17 => Sum.elim (fun _ => 0) (fun y19 => y19) y17))
theorem ZeB (a0 : Zf) (ha0 : Zn a0) : M.J9 a0 = some (S.J9 a0) := by
  have hM := Zq
  unfold M.J9 S.J9
  refine WJ (fun hb1 => ?_) (fun hb1 => ?_)
  · rfl
  · refine XN (Zcj a0 ha0 0) (fun y17 hey17 => ?_)
    refine Jr (fun _ hl => ?_) (fun y19 hly19 => ?_)
    · rfl
    · rfl
noncomputable def S.Jj (a0 : Zf) (a1 : ByteArray) (i1 : Nat) : Option (Unit ⊕ Int) :=
  bif strEq ((a0.XF.getD i1 default).Xm) a1 then (some (.inr (i1 : Int))) else none
theorem Zbk (a0 : Zf) (a1 : ByteArray) (ha0 : Zn a0) (ha1 : a1.size ≤ maxLen) (i0 : Nat) : loopM (M.Jj a0 a1) (i0 : Int) = some (runN (S.Jj a0 a1) (.inl ()) i0 (a0.XF.length - i0)) := by
  have hM := Zq
  have hni1 : a0.XF.length ≤ maxLen := (Zn.XF ha0).1
  refine Xk (n := a0.XF.length) (fun i1 hi1 => ?_) (fun m hm => ?_) i0
  · unfold M.Jj S.Jj
    try simp only [Int.toNat_natCast]
    refine Yi (dt (by omega)) ?_
    refine QB (ZC (dt (by omega)) (ZC (dt (by omega)) X9)) ?_
    refine Yc (fun hb1 => ?_) (fun hb1 => ?_)
    · exact X2
    · exact VC (by omega)
  · unfold M.Jj
    try simp only [Int.toNat_natCast]
    exact Yj (decide_eq_false (by omega)) rfl
noncomputable def S.QJ (a0 : Zf) (a1 : ByteArray) : Int :=
  letS (runN (S.Jj a0 a1) (.inl ()) 0 a0.XF.length) (fun y3 => Sum.elim (fun _ => -1) (fun y5 => y5) y3)
theorem Gp (a0 : Zf) (a1 : ByteArray) (ha0 : Zn a0) (ha1 : a1.size ≤ maxLen) : M.QJ a0 a1 = some (S.QJ a0 a1) := by
  have hM := Zq
  unfold M.QJ S.QJ
  refine XN (Zbk a0 a1 ha0 ha1 0) (fun y3 hey3 => ?_)
  refine Jr (fun _ hl => ?_) (fun y5 hly5 => ?_)
  · rfl
  · rfl
noncomputable def S.Yl (a1 : List YK) (i1 : Nat) (i7 : Nat) : Option (Unit ⊕ Int) :=
  bif ((a1.getD i7 default).GD) == ((a1.getD i1 default).GD) then (some (.inr 4)) else none
theorem GW (a1 : List YK) (i1 : Nat) (ha1 : LL Vf a1) (hi1 : i1 < a1.length) (i0 : Nat) : loopM (M.Yl a1 (i1 : Int)) (i0 : Int) = some (runN (S.Yl a1 i1) (.inl ()) i0 (i1 - i0)) := by
  have hM := Zq
  have hni1 : a1.length ≤ maxLen := ha1.1
  have hni7 : i1 ≤ maxLen := (by omega)
  refine Xk (n := i1) (fun i7 hi7 => ?_) (fun m hm => ?_) i0
  · unfold M.Yl S.Yl
    try simp only [Int.toNat_natCast]
    refine Yi (dt (by omega)) ?_
    refine QB (ZC (dt (by omega)) (ZC (dt (by omega)) X9)) ?_
    refine Yc (fun hb5 => ?_) (fun hb5 => ?_)
    · exact X2
    · exact VC (by omega)
  · unfold M.Yl
    try simp only [Int.toNat_natCast]
    exact Yj (decide_eq_false (by omega)) rfl
noncomputable def S.Ym (a0 : Zf) (a1 : List YK) (a2 : Int) (a3 : Int) (a4 : Int) (i1 : Nat) : Option (Unit ⊕ Int) :=
  letS (S.ZW ((a1.getD i1 default).GD) 1 5) (fun r3 => letS (bif (!((!r3) || (((a1.getD i1 default).GD) == a2))) then S.ZW ((a1.getD i1 default).ZbQ) a3 a4 else default) (fun r4 => letS (bif (!(((!r3) || (((a1.getD i1 default).GD) == a2)) || (!r4))) then S.ZW ((a1.getD i1 default).KI) 0 65535 else default) (fun r5 => bif (((!r3) || (((a1.getD i1 default).GD) == a2)) || (!r4)) || (!r5) then (some (.inr 1)) else (bif (((a2 == 3) && (((a1.getD i1 default).Zc4) != 1)) && (((a1.getD i1 default).Zc4) != 2)) || ((a2 != 3) && (((a1.getD i1 default).Zc4) != 0)) then (some (.inr 1)) else (letS (bif (!strEq ((a1.getD i1 default).ZcA) (⟨#[]⟩ : ByteArray)) then S.QJ a0 ((a1.getD i1 default).ZcA) else default) (fun r6 => bif (!strEq ((a1.getD i1 default).ZcA) (⟨#[]⟩ : ByteArray)) && (decide (r6 < 0)) then (some (.inr 5)) else (letS (runN (S.Yl a1 i1) (.inl ()) 0 i1) (fun y9 => Sum.elim (fun _ => none) (fun y11 => some (.inr y11)) y9))))))))
theorem GX (a0 : Zf) (a1 : List YK) (a2 : Int) (a3 : Int) (a4 : Int) (ha0 : Zn a0) (ha1 : LL Vf a1) (i0 : Nat) : loopM (M.Ym a0 a1 a2 a3 a4) (i0 : Int) = some (runN (S.Ym a0 a1 a2 a3 a4) (.inl ()) i0 (a1.length - i0)) := by
  have hM := Zq
  have hni1 : a1.length ≤ maxLen := ha1.1
  refine Xk (n := a1.length) (fun i1 hi1 => ?_) (fun m hm => ?_) i0
  · unfold M.Ym S.Ym
    try simp only [Int.toNat_natCast]
    refine Yi (dt (by omega)) ?_
    refine QB (ZC (dt (by omega)) (ZC (dt (by omega)) X9)) ?_
    refine XC (XX ((a1.getD i1 default).GD) 1 5) (fun r3 her3 => ?_)
    refine XC (Wl fun hg => (XX ((a1.getD i1 default).ZbQ) a3 a4)) (fun r4 her4 => ?_)
    refine XC (Wl fun hg => (XX ((a1.getD i1 default).KI) 0 65535)) (fun r5 her5 => ?_)
    refine Yc (fun hb2 => ?_) (fun hb2 => ?_)
    · exact X2
    · refine Yc (fun hb3 => ?_) (fun hb3 => ?_)
      · exact X2
      · refine XC (Wl fun hg => (Gp a0 ((a1.getD i1 default).ZcA) ha0 (Vf.ZcA (LL.getD ha1 Vf.dflt i1)))) (fun r6 her6 => ?_)
        refine Yc (fun hb4 => ?_) (fun hb4 => ?_)
        · exact X2
        · refine XC (GW a1 i1 ha1 hi1 0) (fun y9 hey9 => ?_)
          refine VP (fun _ hl => ?_) (fun y11 hly11 => ?_)
          · exact VC (by omega)
          · exact X2
  · unfold M.Ym
    try simp only [Int.toNat_natCast]
    exact Yj (decide_eq_false (by omega)) rfl
noncomputable def S.X4 (a0 : Zf) (a1 : List YK) (a2 : Int) (a3 : Int) (a4 : Int) : Int :=
  bif decide ((a1.length : Int) > 4) then 7 else (letS (runN (S.Ym a0 a1 a2 a3 a4) (.inl ()) 0 a1.length) (fun y12 => Sum.elim (fun _ => 0) (fun y14 => y14) y12))
theorem W1 (a0 : Zf) (a1 : List YK) (a2 : Int) (a3 : Int) (a4 : Int) (ha0 : Zn a0) (ha1 : LL Vf a1) : M.X4 a0 a1 a2 a3 a4 = some (S.X4 a0 a1 a2 a3 a4) := by
  have hM := Zq
  unfold M.X4 S.X4
  refine WJ (fun hb1 => ?_) (fun hb1 => ?_)
  · rfl
  · refine XN (GX a0 a1 a2 a3 a4 ha0 ha1 0) (fun y12 hey12 => ?_)
    refine Jr (fun _ hl => ?_) (fun y14 hly14 => ?_)
    · rfl
    · rfl
noncomputable def S.QR (a0 : Zf) (i2 : Nat) (i6 : Nat) : Option (Unit ⊕ Int) :=
  letS (bif (((a0.Yh.Z6.getD i6 default).V0) == ((a0.Yh.Z6.getD i2 default).V0)) then S.Qn ((a0.Yh.Z6.getD i6 default).Zo) ((a0.Yh.Z6.getD i2 default).Zo) else default) (fun r8 => bif (((a0.Yh.Z6.getD i6 default).V0) == ((a0.Yh.Z6.getD i2 default).V0)) && r8 then (some (.inr 6)) else none)
theorem ZaC (a0 : Zf) (i2 : Nat) (ha0 : Zn a0) (hi2 : i2 < a0.Yh.Z6.length) (i0 : Nat) : loopM (M.QR a0 (i2 : Int)) (i0 : Int) = some (runN (S.QR a0 i2) (.inl ()) i0 (i2 - i0)) := by
  have hM := Zq
  have hni2 : a0.Yh.Z6.length ≤ maxLen := (Jo.Z6 (Zn.Yh ha0))
  have hni6 : i2 ≤ maxLen := (by omega)
  refine Xk (n := i2) (fun i6 hi6 => ?_) (fun m hm => ?_) i0
  · unfold M.QR S.QR
    try simp only [Int.toNat_natCast]
    refine Yi (dt (by omega)) ?_
    refine XC (Wl fun hg => (K6 ((a0.Yh.Z6.getD i6 default).Zo) ((a0.Yh.Z6.getD i2 default).Zo))) (fun r8 her8 => ?_)
    refine QB (ZC (dt (by omega)) (ZC (dt (by omega)) (ZC (dt (by omega)) (ZC (dt (by omega)) (ZC (YO fun hg => (dt (by first | omega | (simp; omega) | (simp at *; omega)))) (ZC (YO fun hg => (dt (by first | omega | (simp; omega) | (simp at *; omega)))) (ZC (YO fun hg => (dt (by first | omega | (simp; omega) | (simp at *; omega)))) (ZC (YO fun hg => (dt (by first | omega | (simp; omega) | (simp at *; omega)))) X9)))))))) ?_
    refine Yc (fun hb6 => ?_) (fun hb6 => ?_)
    · exact X2
    · exact VC (by omega)
  · unfold M.QR
    try simp only [Int.toNat_natCast]
    exact Yj (decide_eq_false (by omega)) rfl
noncomputable def S.QS (a0 : Zf) (i2 : Nat) : Option (Unit ⊕ Int) :=
  letS (S.ZW ((a0.Yh.Z6.getD i2 default).V0) 0 255) (fun r4 => letS (bif (!(!r4)) then S.Qb ((a0.Yh.Z6.getD i2 default).Zo) else default) (fun r5 => bif (!r4) || (!r5) then (some (.inr 1)) else (letS (runN (S.QR a0 i2) (.inl ()) 0 i2) (fun y9 => Sum.elim (fun _ => none) (fun y11 => some (.inr y11)) y9))))
theorem ZaD (a0 : Zf) (ha0 : Zn a0) (i0 : Nat) : loopM (M.QS a0) (i0 : Int) = some (runN (S.QS a0) (.inl ()) i0 (a0.Yh.Z6.length - i0)) := by
  have hM := Zq
  have hni2 : a0.Yh.Z6.length ≤ maxLen := (Jo.Z6 (Zn.Yh ha0))
  refine Xk (n := a0.Yh.Z6.length) (fun i2 hi2 => ?_) (fun m hm => ?_) i0
  · unfold M.QS S.QS
    try simp only [Int.toNat_natCast]
    refine Yi (dt (by omega)) ?_
    refine XC (XX ((a0.Yh.Z6.getD i2 default).V0) 0 255) (fun r4 her4 => ?_)
    refine XC (Wl fun hg => (W0 ((a0.Yh.Z6.getD i2 default).Zo))) (fun r5 her5 => ?_)
    refine QB (ZC (dt (by omega)) (ZC (dt (by omega)) (ZC (YO fun hg => (dt (by first | omega | (simp; omega) | (simp at *; omega)))) (ZC (YO fun hg => (dt (by first | omega | (simp; omega) | (simp at *; omega)))) X9)))) ?_
    refine Yc (fun hb5 => ?_) (fun hb5 => ?_)
    · exact X2
    · refine XC (ZaC a0 i2 ha0 hi2 0) (fun y9 hey9 => ?_)
      refine VP (fun _ hl => ?_) (fun y11 hly11 => ?_)
      · exact VC (by omega)
      · exact X2
  · unfold M.QS
    try simp only [Int.toNat_natCast]
    exact Yj (decide_eq_false (by omega)) rfl
noncomputable def S.Q3 (a0 : Zf) : Int :=
  bif !a0.Yh.Vw then (bif ((a0.Yh.Xr != 0) || (decide ((a0.Yh.Z6.length : Int) > 0))) || (decide ((a0.Yh.Zs.length : Int) > 0)) then 1 else 0) else (letS (S.ZW a0.Yh.Xr 1 255) (fun r1 => bif !r1 then 1 else (bif decide ((a0.Yh.Z6.length : Int) > 4) then 7 else (letS (runN (S.QS a0) (.inl ()) 0 a0.Yh.Z6.length) (fun y12 => Sum.elim (fun _ => letS (S.X4 a0 a0.Yh.Zs 3 0 16777215) (fun r15 => r15)) (fun y14 => y14) y12)))))
theorem ZcT (a0 : Zf) (ha0 : Zn a0) : M.Q3 a0 = some (S.Q3 a0) := by
  have hM := Zq
  unfold M.Q3 S.Q3
  refine WJ (fun hb1 => ?_) (fun hb1 => ?_)
  · refine WJ (fun hb2 => ?_) (fun hb2 => ?_)
    · rfl
    · rfl
  · refine XN (XX a0.Yh.Xr 1 255) (fun r1 her1 => ?_)
    refine WJ (fun hb3 => ?_) (fun hb3 => ?_)
    · rfl
    · refine WJ (fun hb4 => ?_) (fun hb4 => ?_)
      · rfl
      · refine XN (ZaD a0 ha0 0) (fun y12 hey12 => ?_)
        refine Jr (fun _ hl => ?_) (fun y14 hly14 => ?_)
        · refine XN (W1 a0 a0.Yh.Zs 3 0 16777215 ha0 (Jo.Zs (Zn.Yh ha0))) (fun r15 her15 => ?_)
          rfl
        · rfl
noncomputable def S.Jx (a0 : Zf) : Int :=
  bif !a0.Yo.Vw then (bif (((a0.Yo.Xr != 0) || (!strEq a0.Yo.VQ (⟨#[]⟩ : ByteArray))) || (!strEq a0.Yo.Qa (⟨#[]⟩ : ByteArray))) || (decide ((a0.Yo.Zs.length : Int) > 0)) then 1 else 0) else (letS (S.ZW a0.Yo.Xr 1 255) (fun r1 => bif !r1 then 1 else (letS (bif (!strEq a0.Yo.VQ (⟨#[]⟩ : ByteArray)) then S.YP a0 a0.Yo.VQ else default) (fun r2 => letS (bif ((!((!strEq a0.Yo.VQ (⟨#[]⟩ : ByteArray)) && (decide (r2 < 0)))) && (!strEq a0.Yo.Qa (⟨#[]⟩ : ByteArray))) then S.YP a0 a0.Yo.Qa else default) (fun r3 => bif ((!strEq a0.Yo.VQ (⟨#[]⟩ : ByteArray)) && (decide (r2 < 0))) || ((!strEq a0.Yo.Qa (⟨#[]⟩ : ByteArray)) && (decide (r3 < 0))) then 5 else (letS (S.X4 a0 a0.Yo.Zs 4 1 15) (fun r4 => r4)))))))
theorem Zds (a0 : Zf) (ha0 : Zn a0) : M.Jx a0 = some (S.Jx a0) := by
  have hM := Zq
  unfold M.Jx S.Jx
  refine WJ (fun hb1 => ?_) (fun hb1 => ?_)
  · refine WJ (fun hb2 => ?_) (fun hb2 => ?_)
    · rfl
    · rfl
  · refine XN (XX a0.Yo.Xr 1 255) (fun r1 her1 => ?_)
    refine WJ (fun hb3 => ?_) (fun hb3 => ?_)
    · rfl
    · refine XN (Wl fun hg => (UY a0 a0.Yo.VQ ha0 (X6.VQ (Zn.Yo ha0)))) (fun r2 her2 => ?_)
      refine XN (Wl fun hg => (UY a0 a0.Yo.Qa ha0 (X6.Qa (Zn.Yo ha0)))) (fun r3 her3 => ?_)
      refine WJ (fun hb4 => ?_) (fun hb4 => ?_)
      · rfl
      · refine XN (W1 a0 a0.Yo.Zs 4 1 15 ha0 (X6.Zs (Zn.Yo ha0))) (fun r4 her4 => ?_)
        rfl
noncomputable def S.QT (a0 : Zf) (i1 : Nat) (i6 : Nat) : Option (Unit ⊕ Int) :=
  bif ((a0.Xs.Zm.getD i6 default).Zx) == ((a0.Xs.Zm.getD i1 default).Zx) then (some (.inr 4)) else none
theorem ZaE (a0 : Zf) (i1 : Nat) (ha0 : Zn a0) (hi1 : i1 < a0.Xs.Zm.length) (i0 : Nat) : loopM (M.QT a0 (i1 : Int)) (i0 : Int) = some (runN (S.QT a0 i1) (.inl ()) i0 (i1 - i0)) := by
  have hM := Zq
  have hni1 : a0.Xs.Zm.length ≤ maxLen := (Xl.Zm (Zn.Xs ha0)).1
  have hni6 : i1 ≤ maxLen := (by omega)
  refine Xk (n := i1) (fun i6 hi6 => ?_) (fun m hm => ?_) i0
  · unfold M.QT S.QT
    try simp only [Int.toNat_natCast]
    refine Yi (dt (by omega)) ?_
    refine QB (ZC (dt (by omega)) (ZC (dt (by omega)) (ZC (dt (by omega)) (ZC (dt (by omega)) X9)))) ?_
    refine Yc (fun hb4 => ?_) (fun hb4 => ?_)
    · exact X2
    · exact VC (by omega)
  · unfold M.QT
    try simp only [Int.toNat_natCast]
    exact Yj (decide_eq_false (by omega)) rfl
noncomputable def S.QU (a0 : Zf) (i1 : Nat) : Option (Unit ⊕ Int) :=
  letS (bif (!(((a0.Xs.Zm.getD i1 default).Zx) == 0)) then S.ZW ((a0.Xs.Zm.getD i1 default).Gt) 1 65535 else default) (fun r3 => bif (((a0.Xs.Zm.getD i1 default).Zx) == 0) || (!r3) then (some (.inr 1)) else (letS (bif (!strEq ((a0.Xs.Zm.getD i1 default).VQ) (⟨#[]⟩ : ByteArray)) then S.QJ a0 ((a0.Xs.Zm.getD i1 default).VQ) else default) (fun r4 => letS (bif ((!((!strEq ((a0.Xs.Zm.getD i1 default).VQ) (⟨#[]⟩ : ByteArray)) && (decide (r4 < 0)))) && (!strEq ((a0.Xs.Zm.getD i1 default).Qa) (⟨#[]⟩ : ByteArray))) then S.QJ a0 ((a0.Xs.Zm.getD i1 default).Qa) else default) (fun r5 => bif ((!strEq ((a0.Xs.Zm.getD i1 default).VQ) (⟨#[]⟩ : ByteArray)) && (decide (r4 < 0))) || ((!strEq ((a0.Xs.Zm.getD i1 default).Qa) (⟨#[]⟩ : ByteArray)) && (decide (r5 < 0))) then (some (.inr 5)) else (letS (runN (S.QT a0 i1) (.inl ()) 0 i1) (fun y8 => Sum.elim (fun _ => none) (fun y10 => some (.inr y10)) y8))))))
theorem ZaF (a0 : Zf) (ha0 : Zn a0) (i0 : Nat) : loopM (M.QU a0) (i0 : Int) = some (runN (S.QU a0) (.inl ()) i0 (a0.Xs.Zm.length - i0)) := by
  have hM := Zq
  have hni1 : a0.Xs.Zm.length ≤ maxLen := (Xl.Zm (Zn.Xs ha0)).1
  refine Xk (n := a0.Xs.Zm.length) (fun i1 hi1 => ?_) (fun m hm => ?_) i0
  · unfold M.QU S.QU
    try simp only [Int.toNat_natCast]
    refine Yi (dt (by omega)) ?_
    refine XC (Wl fun hg => (XX ((a0.Xs.Zm.getD i1 default).Gt) 1 65535)) (fun r3 her3 => ?_)
    refine QB (ZC (dt (by omega)) (ZC (dt (by omega)) (ZC (YO fun hg => (dt (by first | omega | (simp; omega) | (simp at *; omega)))) (ZC (YO fun hg => (dt (by first | omega | (simp; omega) | (simp at *; omega)))) X9)))) ?_
    refine Yc (fun hb2 => ?_) (fun hb2 => ?_)
    · exact X2
    · refine XC (Wl fun hg => (Gp a0 ((a0.Xs.Zm.getD i1 default).VQ) ha0 (JX.VQ (LL.getD (Xl.Zm (Zn.Xs ha0)) JX.dflt i1)))) (fun r4 her4 => ?_)
      refine XC (Wl fun hg => (Gp a0 ((a0.Xs.Zm.getD i1 default).Qa) ha0 (JX.Qa (LL.getD (Xl.Zm (Zn.Xs ha0)) JX.dflt i1)))) (fun r5 her5 => ?_)
      refine QB (ZC (dt (by omega)) (ZC (dt (by omega)) (ZC (YO fun hg => (dt (by first | omega | (simp; omega) | (simp at *; omega)))) (ZC (YO fun hg => (dt (by first | omega | (simp; omega) | (simp at *; omega)))) (ZC (YO fun hg => (dt (by first | omega | (simp; omega) | (simp at *; omega)))) (ZC (YO fun hg => (dt (by first | omega | (simp; omega) | (simp at *; omega)))) (ZC (YO fun hg => (dt (by first | omega | (simp; omega) | (simp at *; omega)))) (ZC (YO fun hg => (dt (by first | omega | (simp; omega) | (simp at *; omega)))) X9)))))))) ?_
      refine Yc (fun hb3 => ?_) (fun hb3 => ?_)
      · exact X2
      · refine XC (ZaE a0 i1 ha0 hi1 0) (fun y8 hey8 => ?_)
        refine VP (fun _ hl => ?_) (fun y10 hly10 => ?_)
        · exact VC (by omega)
        · exact X2
  · unfold M.QU
    try simp only [Int.toNat_natCast]
    exact Yj (decide_eq_false (by omega)) rfl
noncomputable def S.Va (a0 : Zf) : Int :=
  bif decide ((a0.Xs.Zm.length : Int) > 8) then 7 else (letS (runN (S.QU a0) (.inl ()) 0 a0.Xs.Zm.length) (fun y11 => Sum.elim (fun _ => 0) (fun y13 => y13) y11))
theorem ZcU (a0 : Zf) (ha0 : Zn a0) : M.Va a0 = some (S.Va a0) := by
  have hM := Zq
  unfold M.Va S.Va
  refine WJ (fun hb1 => ?_) (fun hb1 => ?_)
  · rfl
  · refine XN (ZaF a0 ha0 0) (fun y11 hey11 => ?_)
    refine Jr (fun _ hl => ?_) (fun y13 hly13 => ?_)
    · rfl
    · rfl
noncomputable def S.YZ (a0 : Xy) (i1 : Nat) (i4 : Nat) : Option (Unit ⊕ Int) :=
  bif ((((a0.Z1.getD i4 default).Zx) == ((a0.Z1.getD i1 default).Zx)) && ((((a0.Z1.getD i4 default).ZV) == ((a0.Z1.getD i1 default).ZV)) && true)) then (some (.inr 4)) else none
theorem KW (a0 : Xy) (i1 : Nat) (ha0 : Xl a0) (hi1 : i1 < a0.Z1.length) (i0 : Nat) : loopM (M.YZ a0 (i1 : Int)) (i0 : Int) = some (runN (S.YZ a0 i1) (.inl ()) i0 (i1 - i0)) := by
  have hM := Zq
  have hni1 : a0.Z1.length ≤ maxLen := (Xl.Z1 ha0)
  have hni4 : i1 ≤ maxLen := (by omega)
  refine Xk (n := i1) (fun i4 hi4 => ?_) (fun m hm => ?_) i0
  · unfold M.YZ S.YZ
    try simp only [Int.toNat_natCast]
    refine Yi (dt (by omega)) ?_
    refine QB (ZC (dt (by omega)) (ZC (dt (by omega)) (ZC (dt (by omega)) (ZC (dt (by omega)) X9)))) ?_
    refine Yc (fun hb3 => ?_) (fun hb3 => ?_)
    · exact X2
    · exact VC (by omega)
  · unfold M.YZ
    try simp only [Int.toNat_natCast]
    exact Yj (decide_eq_false (by omega)) rfl
noncomputable def S.Y0 (a0 : Xy) (i1 : Nat) : Option (Unit ⊕ Int) :=
  letS (S.Qb (a0.Z1.getD i1 default)) (fun r3 => bif !r3 then (some (.inr 1)) else (letS (runN (S.YZ a0 i1) (.inl ()) 0 i1) (fun y6 => Sum.elim (fun _ => none) (fun y8 => some (.inr y8)) y6)))
theorem KX (a0 : Xy) (ha0 : Xl a0) (i0 : Nat) : loopM (M.Y0 a0) (i0 : Int) = some (runN (S.Y0 a0) (.inl ()) i0 (a0.Z1.length - i0)) := by
  have hM := Zq
  have hni1 : a0.Z1.length ≤ maxLen := (Xl.Z1 ha0)
  refine Xk (n := a0.Z1.length) (fun i1 hi1 => ?_) (fun m hm => ?_) i0
  · unfold M.Y0 S.Y0
    try simp only [Int.toNat_natCast]
    refine Yi (dt (by omega)) ?_
    refine XC (W0 (a0.Z1.getD i1 default)) (fun r3 her3 => ?_)
    refine QB (ZC (dt (by omega)) (ZC (dt (by omega)) X9)) ?_
    refine Yc (fun hb2 => ?_) (fun hb2 => ?_)
    · exact X2
    · refine XC (KW a0 i1 ha0 hi1 0) (fun y6 hey6 => ?_)
      refine VP (fun _ hl => ?_) (fun y8 hly8 => ?_)
      · exact VC (by omega)
      · exact X2
  · unfold M.Y0
    try simp only [Int.toNat_natCast]
    exact Yj (decide_eq_false (by omega)) rfl
noncomputable def S.Y1 (a0 : Xy) (i12 : Nat) (i15 : Nat) : Option (Unit ⊕ Int) :=
  bif (((((a0.ZE.getD i15 default).Zo).Zx) == (((a0.ZE.getD i12 default).Zo).Zx)) && (((((a0.ZE.getD i15 default).Zo).ZV) == (((a0.ZE.getD i12 default).Zo).ZV)) && true)) then (some (.inr 4)) else none
theorem KY (a0 : Xy) (i12 : Nat) (ha0 : Xl a0) (hi12 : i12 < a0.ZE.length) (i0 : Nat) : loopM (M.Y1 a0 (i12 : Int)) (i0 : Int) = some (runN (S.Y1 a0 i12) (.inl ()) i0 (i12 - i0)) := by
  have hM := Zq
  have hni12 : a0.ZE.length ≤ maxLen := (Xl.ZE ha0)
  have hni15 : i12 ≤ maxLen := (by omega)
  refine Xk (n := i12) (fun i15 hi15 => ?_) (fun m hm => ?_) i0
  · unfold M.Y1 S.Y1
    try simp only [Int.toNat_natCast]
    refine Yi (dt (by omega)) ?_
    refine QB (ZC (dt (by omega)) (ZC (dt (by omega)) (ZC (dt (by omega)) (ZC (dt (by omega)) X9)))) ?_
    refine Yc (fun hb6 => ?_) (fun hb6 => ?_)
    · exact X2
    · exact VC (by omega)
  · unfold M.Y1
    try simp only [Int.toNat_natCast]
    exact Yj (decide_eq_false (by omega)) rfl
noncomputable def S.Y2 (a0 : Xy) (i12 : Nat) : Option (Unit ⊕ Int) :=
  letS (S.Qb ((a0.ZE.getD i12 default).Zo)) (fun r14 => bif !r14 then (some (.inr 1)) else (letS (runN (S.Y1 a0 i12) (.inl ()) 0 i12) (fun y17 => Sum.elim (fun _ => none) (fun y19 => some (.inr y19)) y17)))
theorem KZ (a0 : Xy) (ha0 : Xl a0) (i0 : Nat) : loopM (M.Y2 a0) (i0 : Int) = some (runN (S.Y2 a0) (.inl ()) i0 (a0.ZE.length - i0)) := by
  have hM := Zq
  have hni12 : a0.ZE.length ≤ maxLen := (Xl.ZE ha0)
  refine Xk (n := a0.ZE.length) (fun i12 hi12 => ?_) (fun m hm => ?_) i0
  · unfold M.Y2 S.Y2
    try simp only [Int.toNat_natCast]
    refine Yi (dt (by omega)) ?_
    refine XC (W0 ((a0.ZE.getD i12 default).Zo)) (fun r14 her14 => ?_)
    refine QB (ZC (dt (by omega)) (ZC (dt (by omega)) X9)) ?_
    refine Yc (fun hb5 => ?_) (fun hb5 => ?_)
    · exact X2
    · refine XC (KY a0 i12 ha0 hi12 0) (fun y17 hey17 => ?_)
      refine VP (fun _ hl => ?_) (fun y19 hly19 => ?_)
      · exact VC (by omega)
      · exact X2
  · unfold M.Y2
    try simp only [Int.toNat_natCast]
    exact Yj (decide_eq_false (by omega)) rfl
noncomputable def S.Y3 (a0 : Xy) (i23 : Nat) (i27 : Nat) : Option (Unit ⊕ Int) :=
  bif (((((a0.Zt.getD i27 default).Zo).Zx) == (((a0.Zt.getD i23 default).Zo).Zx)) && (((((a0.Zt.getD i27 default).Zo).ZV) == (((a0.Zt.getD i23 default).Zo).ZV)) && true)) then (some (.inr 4)) else none
theorem K0 (a0 : Xy) (i23 : Nat) (ha0 : Xl a0) (hi23 : i23 < a0.Zt.length) (i0 : Nat) : loopM (M.Y3 a0 (i23 : Int)) (i0 : Int) = some (runN (S.Y3 a0 i23) (.inl ()) i0 (i23 - i0)) := by
  have hM := Zq
  have hni23 : a0.Zt.length ≤ maxLen := (Xl.Zt ha0)
  have hni27 : i23 ≤ maxLen := (by omega)
  refine Xk (n := i23) (fun i27 hi27 => ?_) (fun m hm => ?_) i0
  · unfold M.Y3 S.Y3
    try simp only [Int.toNat_natCast]
    refine Yi (dt (by omega)) ?_
    refine QB (ZC (dt (by omega)) (ZC (dt (by omega)) X9)) ?_
    refine Yc (fun hb10 => ?_) (fun hb10 => ?_)
    · exact X2
    · exact VC (by omega)
  · unfold M.Y3
    try simp only [Int.toNat_natCast]
    exact Yj (decide_eq_false (by omega)) rfl
noncomputable def S.Y4 (a0 : Xy) (i23 : Nat) : Option (Unit ⊕ Int) :=
  letS (S.Qb ((a0.Zt.getD i23 default).Zo)) (fun r25 => letS (bif (!(!r25)) then S.Qb ((a0.Zt.getD i23 default).fIf) else default) (fun r26 => bif (!r25) || (!r26) then (some (.inr 1)) else (bif (((((a0.Zt.getD i23 default).Zo).Zx) == (((a0.Zt.getD i23 default).fIf).Zx)) && (((((a0.Zt.getD i23 default).Zo).ZV) == (((a0.Zt.getD i23 default).fIf).ZV)) && true)) then (some (.inr 6)) else (letS (runN (S.Y3 a0 i23) (.inl ()) 0 i23) (fun y29 => Sum.elim (fun _ => none) (fun y31 => some (.inr y31)) y29)))))
theorem K3 (a0 : Xy) (ha0 : Xl a0) (i0 : Nat) : loopM (M.Y4 a0) (i0 : Int) = some (runN (S.Y4 a0) (.inl ()) i0 (a0.Zt.length - i0)) := by
  have hM := Zq
  have hni23 : a0.Zt.length ≤ maxLen := (Xl.Zt ha0)
  refine Xk (n := a0.Zt.length) (fun i23 hi23 => ?_) (fun m hm => ?_) i0
  · unfold M.Y4 S.Y4
    try simp only [Int.toNat_natCast]
    refine Yi (dt (by omega)) ?_
    refine QB (ZC (dt (by omega)) (ZC (dt (by omega)) X9)) ?_
    refine XC (W0 ((a0.Zt.getD i23 default).Zo)) (fun r25 her25 => ?_)
    refine XC (Wl fun hg => (W0 ((a0.Zt.getD i23 default).fIf))) (fun r26 her26 => ?_)
    refine Yc (fun hb8 => ?_) (fun hb8 => ?_)
    · exact X2
    · refine Yc (fun hb9 => ?_) (fun hb9 => ?_)
      · exact X2
      · refine XC (K0 a0 i23 ha0 hi23 0) (fun y29 hey29 => ?_)
        refine VP (fun _ hl => ?_) (fun y31 hly31 => ?_)
        · exact VC (by omega)
        · exact X2
  · unfold M.Y4
    try simp only [Int.toNat_natCast]
    exact Yj (decide_eq_false (by omega)) rfl
noncomputable def S.QV (a0 : Xy) : Int :=
  bif decide ((a0.Z1.length : Int) > 8) then 7 else (letS (runN (S.Y0 a0) (.inl ()) 0 a0.Z1.length) (fun y9 => Sum.elim (fun _ => bif decide ((a0.ZE.length : Int) > 8) then 7 else (letS (runN (S.Y2 a0) (.inl ()) 0 a0.ZE.length) (fun y20 => Sum.elim (fun _ => bif decide ((a0.Zt.length : Int) > 8) then 7 else (letS (runN (S.Y4 a0) (.inl ()) 0 a0.Zt.length) (fun y32 => Sum.elim (fun _ => 0) (fun y34 => y34) y32))) (fun y22 => y22) y20))) (fun y11 => y11) y9))
theorem ZaG (a0 : Xy) (ha0 : Xl a0) : M.QV a0 = some (S.QV a0) := by
  have hM := Zq
  unfold M.QV S.QV
  refine WJ (fun hb1 => ?_) (fun hb1 => ?_)
  · rfl
  · refine XN (KX a0 ha0 0) (fun y9 hey9 => ?_)
    refine Jr (fun _ hl => ?_) (fun y11 hly11 => ?_)
    · refine WJ (fun hb4 => ?_) (fun hb4 => ?_)
      · rfl
      · refine XN (KZ a0 ha0 0) (fun y20 hey20 => ?_)
        refine Jr (fun _ hl => ?_) (fun y22 hly22 => ?_)
        · refine WJ (fun hb7 => ?_) (fun hb7 => ?_)
          · rfl
          · refine XN (K3 a0 ha0 0) (fun y32 hey32 => ?_)
            refine Jr (fun _ hl => ?_) (fun y34 hly34 => ?_)
            · rfl
            · rfl
        · rfl
    · rfl
noncomputable def S.QH (a0 : Zf) : Int :=
  bif !a0.Xs.Vw then (bif ((a0.Xs.XZ != 0) || (a0.Xs.X0 != 0)) || (decide ((wr .i64 ((wr .i64 ((wr .i64 ((wr .i64 ((a0.Xs.Zm.length : Int) + (a0.Xs.Z1.length : Int))) + (a0.Xs.ZE.length : Int))) + (a0.Xs.Zt.length : Int))) + (a0.Xs.Zs.length : Int))) > 0)) then 1 else 0) else (letS (bif (!(a0.Gt == 0)) then S.ZW a0.Xs.XZ 1 255 else default) (fun r1 => letS (bif (!((a0.Gt == 0) || (!r1))) then S.ZW a0.Xs.X0 1 255 else default) (fun r2 => bif ((a0.Gt == 0) || (!r1)) || (!r2) then 1 else (letS (S.Va a0) (fun r3 => bif r3 != 0 then r3 else (letS (S.QV a0.Xs) (fun r4 => bif r4 != 0 then r4 else (letS (S.X4 a0 a0.Xs.Zs 5 0 16777215) (fun r5 => r5)))))))))
theorem Zck (a0 : Zf) (ha0 : Zn a0) : M.QH a0 = some (S.QH a0) := by
  have hM := Zq
  unfold M.QH S.QH
  refine WJ (fun hb1 => ?_) (fun hb1 => ?_)
  · refine WJ (fun hb2 => ?_) (fun hb2 => ?_)
    · rfl
    · rfl
  · refine XN (Wl fun hg => (XX a0.Xs.XZ 1 255)) (fun r1 her1 => ?_)
    refine XN (Wl fun hg => (XX a0.Xs.X0 1 255)) (fun r2 her2 => ?_)
    refine WJ (fun hb3 => ?_) (fun hb3 => ?_)
    · rfl
    · refine XN (ZcU a0 ha0) (fun r3 her3 => ?_)
      refine WJ (fun hb4 => ?_) (fun hb4 => ?_)
      · rfl
      · refine XN (ZaG a0.Xs (Zn.Xs ha0)) (fun r4 her4 => ?_)
        refine WJ (fun hb5 => ?_) (fun hb5 => ?_)
        · rfl
        · refine XN (W1 a0 a0.Xs.Zs 5 0 16777215 ha0 (Xl.Zs (Zn.Xs ha0))) (fun r5 her5 => ?_)
          rfl
noncomputable def S.Ye (r3 : Int) (r4 : Int) (r5 : Int) (r6 : Int) (r7 : Int) (r8 : Int) (r9 : Int) (r10 : Int) (r11 : Int) (r12 : Int) (i13 : Nat) : Option (Unit ⊕ Int) :=
  bif (([r3, r4, r5, r6, r7, r8, r9, r10, r11, r12] : List Int).getD i13 default) != 0 then (some (.inr (([r3, r4, r5, r6, r7, r8, r9, r10, r11, r12] : List Int).getD i13 default))) else none
theorem Rj (r3 : Int) (r4 : Int) (r5 : Int) (r6 : Int) (r7 : Int) (r8 : Int) (r9 : Int) (r10 : Int) (r11 : Int) (r12 : Int)  (i0 : Nat) : loopM (M.Ye r3 r4 r5 r6 r7 r8 r9 r10 r11 r12) (i0 : Int) = some (runN (S.Ye r3 r4 r5 r6 r7 r8 r9 r10 r11 r12) (.inl ()) i0 (([r3, r4, r5, r6, r7, r8, r9, r10, r11, r12] : List Int).length - i0)) := by
  have hM := Zq
  have hni13 : ([r3, r4, r5, r6, r7, r8, r9, r10, r11, r12] : List Int).length ≤ maxLen := (by simp [Zq])
  refine Xk (n := ([r3, r4, r5, r6, r7, r8, r9, r10, r11, r12] : List Int).length) (fun i13 hi13 => ?_) (fun m hm => ?_) i0
  · unfold M.Ye S.Ye
    try simp only [Int.toNat_natCast]
    refine Yi (dt (by omega)) ?_
    refine QB (ZC (dt (by omega)) (ZC (dt (by first | omega | (simp; omega) | (simp at *; omega))) X9)) ?_
    refine Yc (fun hb3 => ?_) (fun hb3 => ?_)
    · refine QB (ZC (dt (by omega)) (ZC (dt (by first | omega | (simp; omega) | (simp at *; omega))) X9)) ?_
      exact X2
    · exact VC (by omega)
  · unfold M.Ye
    try simp only [Int.toNat_natCast]
    exact Yj (decide_eq_false (by omega)) rfl
noncomputable def S.Yn (a0 : Zf) : Int :=
  letS (S.QZ a0.Xm) (fun r1 => bif !r1 then 3 else (letS (S.ZW a0.Gt 0 65535) (fun r2 => bif !r2 then 1 else (letS (S.Yd a0.Zc) (fun r3 => letS (S.Ql a0.Yw) (fun r4 => letS (S.Q1 a0) (fun r5 => letS (S.Qm a0.YF) (fun r6 => letS (S.YY a0) (fun r7 => letS (S.J8 a0) (fun r8 => letS (S.J9 a0) (fun r9 => letS (S.Q3 a0) (fun r10 => letS (S.Jx a0) (fun r11 => letS (S.QH a0) (fun r12 => letS (runN (S.Ye r3 r4 r5 r6 r7 r8 r9 r10 r11 r12) (.inl ()) 0 (([r3, r4, r5, r6, r7, r8, r9, r10, r11, r12] : List Int).length)) (fun y15 => Sum.elim (fun _ => 0) (fun y17 => y17) y15)))))))))))))))
theorem Zbl (a0 : Zf) (ha0 : Zn a0) : M.Yn a0 = some (S.Yn a0) := by
  have hM := Zq
  unfold M.Yn S.Yn
  refine XN (Gj a0.Xm (Zn.Xm ha0)) (fun r1 her1 => ?_)
  refine WJ (fun hb1 => ?_) (fun hb1 => ?_)
  · rfl
  · refine XN (XX a0.Gt 0 65535) (fun r2 her2 => ?_)
    refine WJ (fun hb2 => ?_) (fun hb2 => ?_)
    · rfl
    · refine XN (Zce a0.Zc (Zn.Zc ha0)) (fun r3 her3 => ?_)
      refine XN (Zbg a0.Yw (Zn.Yw ha0)) (fun r4 her4 => ?_)
      refine XN (ZcQ a0 ha0) (fun r5 her5 => ?_)
      refine XN (Zbh a0.YF (Zn.YF ha0)) (fun r6 her6 => ?_)
      refine XN (ZaA a0 ha0) (fun r7 her7 => ?_)
      refine XN (ZeA a0 ha0) (fun r8 her8 => ?_)
      refine XN (ZeB a0 ha0) (fun r9 her9 => ?_)
      refine XN (ZcT a0 ha0) (fun r10 her10 => ?_)
      refine XN (Zds a0 ha0) (fun r11 her11 => ?_)
      refine XN (Zck a0 ha0) (fun r12 her12 => ?_)
      refine XN (Rj r3 r4 r5 r6 r7 r8 r9 r10 r11 r12 0) (fun y15 hey15 => ?_)
      refine Jr (fun _ hl => ?_) (fun y17 hly17 => ?_)
      · rfl
      · rfl
noncomputable def S.Jy (a0 : ZB) (i1 : Nat) (i4 : Nat) : Option (Unit ⊕ Int) :=
  bif strEq ((a0.Zd.getD i4 default).Xm) ((a0.Zd.getD i1 default).Xm) then (some (.inr 4)) else none
theorem Zdt (a0 : ZB) (i1 : Nat) (ha0 : Yy a0) (hi1 : i1 < a0.Zd.length) (i0 : Nat) : loopM (M.Jy a0 (i1 : Int)) (i0 : Int) = some (runN (S.Jy a0 i1) (.inl ()) i0 (i1 - i0)) := by
  have hM := Zq
  have hni1 : a0.Zd.length ≤ maxLen := (Yy.Zd ha0).1
  have hni4 : i1 ≤ maxLen := (by omega)
  refine Xk (n := i1) (fun i4 hi4 => ?_) (fun m hm => ?_) i0
  · unfold M.Jy S.Jy
    try simp only [Int.toNat_natCast]
    refine Yi (dt (by omega)) ?_
    refine QB (ZC (dt (by omega)) (ZC (dt (by omega)) (ZC (dt (by omega)) (ZC (dt (by omega)) X9)))) ?_
    refine Yc (fun hb3 => ?_) (fun hb3 => ?_)
    · exact X2
    · exact VC (by omega)
  · unfold M.Jy
    try simp only [Int.toNat_natCast]
    exact Yj (decide_eq_false (by omega)) rfl
noncomputable def S.Jb (a0 : ZB) (i1 : Nat) (i9 : Nat) (i11 : Nat) : Option (Unit ⊕ Int) :=
  letS (bif (((((a0.Zd.getD i1 default).Zc).getD i9 default).ZV) != 0) then S.JG (a0.Zd.getD i11 default) ((((a0.Zd.getD i1 default).Zc).getD i9 default).Zx) else default) (fun r13 => bif (((((a0.Zd.getD i1 default).Zc).getD i9 default).ZV) != 0) && (decide (r13 ≥ 0)) then (some (.inr 4)) else none)
theorem Zdu (a0 : ZB) (i1 : Nat) (i9 : Nat) (ha0 : Yy a0) (hi1 : i1 < a0.Zd.length) (hi9 : i9 < ((a0.Zd.getD i1 default).Zc).length) (i0 : Nat) : loopM (M.Jb a0 (i1 : Int) (i9 : Int)) (i0 : Int) = some (runN (S.Jb a0 i1 i9) (.inl ()) i0 (i1 - i0)) := by
  have hM := Zq
  have hni1 : a0.Zd.length ≤ maxLen := (Yy.Zd ha0).1
  have hni9 : ((a0.Zd.getD i1 default).Zc).length ≤ maxLen := (Zn.Zc (LL.getD (Yy.Zd ha0) Zn.dflt i1)).1
  have hni11 : i1 ≤ maxLen := (by omega)
  refine Xk (n := i1) (fun i11 hi11 => ?_) (fun m hm => ?_) i0
  · unfold M.Jb S.Jb
    try simp only [Int.toNat_natCast]
    refine Yi (dt (by omega)) ?_
    refine XC (Wl fun hg => (R7 (a0.Zd.getD i11 default) ((((a0.Zd.getD i1 default).Zc).getD i9 default).Zx) (LL.getD (Yy.Zd ha0) Zn.dflt i11))) (fun r13 her13 => ?_)
    refine QB (ZC (YO fun hg => (dt (by first | omega | (simp; omega) | (simp at *; omega)))) (ZC (YO fun hg => (dt (by first | omega | (simp; omega) | (simp at *; omega)))) X9)) ?_
    refine Yc (fun hb4 => ?_) (fun hb4 => ?_)
    · exact X2
    · exact VC (by omega)
  · unfold M.Jb
    try simp only [Int.toNat_natCast]
    exact Yj (decide_eq_false (by omega)) rfl
noncomputable def S.Jc (a0 : ZB) (i1 : Nat) (i9 : Nat) : Option (Unit ⊕ Int) :=
  letS (runN (S.Jb a0 i1 i9) (.inl ()) 0 i1) (fun y14 => Sum.elim (fun _ => none) (fun y16 => some (.inr y16)) y14)
theorem Zdv (a0 : ZB) (i1 : Nat) (ha0 : Yy a0) (hi1 : i1 < a0.Zd.length) (i0 : Nat) : loopM (M.Jc a0 (i1 : Int)) (i0 : Int) = some (runN (S.Jc a0 i1) (.inl ()) i0 (((a0.Zd.getD i1 default).Zc).length - i0)) := by
  have hM := Zq
  have hni1 : a0.Zd.length ≤ maxLen := (Yy.Zd ha0).1
  have hni9 : ((a0.Zd.getD i1 default).Zc).length ≤ maxLen := (Zn.Zc (LL.getD (Yy.Zd ha0) Zn.dflt i1)).1
  refine Xk (n := ((a0.Zd.getD i1 default).Zc).length) (fun i9 hi9 => ?_) (fun m hm => ?_) i0
  · unfold M.Jc S.Jc
    try simp only [Int.toNat_natCast]
    refine QB (ZC (dt (by omega)) (ZC (dt (by omega)) X9))  ?_
    refine Yi (dt (by omega)) ?_
    refine QB (ZC (dt (by omega)) (ZC (dt (by omega)) (ZC (dt (by omega)) (ZC (dt (by omega)) X9)))) ?_
    refine XC (Zdu a0 i1 i9 ha0 hi1 hi9 0) (fun y14 hey14 => ?_)
    refine VP (fun _ hl => ?_) (fun y16 hly16 => ?_)
    · exact VC (by omega)
    · exact X2
  · unfold M.Jc
    try simp only [Int.toNat_natCast]
    refine QB (ZC (dt (by omega)) (ZC (dt (by omega)) X9))  ?_
    exact Yj (decide_eq_false (by omega)) rfl
noncomputable def S.Jd (a0 : ZB) (i1 : Nat) : Option (Unit ⊕ Int) :=
  letS (S.Yn (a0.Zd.getD i1 default)) (fun r3 => bif r3 != 0 then (some (.inr r3)) else (letS (runN (S.Jy a0 i1) (.inl ()) 0 i1) (fun y6 => Sum.elim (fun _ => letS (runN (S.Jc a0 i1) (.inl ()) 0 (((a0.Zd.getD i1 default).Zc).length)) (fun y17 => Sum.elim (fun _ => none) (fun y19 => some (.inr y19)) y17)) (fun y8 => some (.inr y8)) y6)))
theorem Zdw (a0 : ZB) (ha0 : Yy a0) (i0 : Nat) : loopM (M.Jd a0) (i0 : Int) = some (runN (S.Jd a0) (.inl ()) i0 (a0.Zd.length - i0)) := by
  have hM := Zq
  have hni1 : a0.Zd.length ≤ maxLen := (Yy.Zd ha0).1
  refine Xk (n := a0.Zd.length) (fun i1 hi1 => ?_) (fun m hm => ?_) i0
  · unfold M.Jd S.Jd
    try simp only [Int.toNat_natCast]
    refine Yi (dt (by omega)) ?_
    refine XC (Zbl (a0.Zd.getD i1 default) (LL.getD (Yy.Zd ha0) Zn.dflt i1)) (fun r3 her3 => ?_)
    refine QB (ZC (dt (by omega)) (ZC (dt (by omega)) X9)) ?_
    refine Yc (fun hb2 => ?_) (fun hb2 => ?_)
    · exact X2
    · refine XC (Zdt a0 i1 ha0 hi1 0) (fun y6 hey6 => ?_)
      refine VP (fun _ hl => ?_) (fun y8 hly8 => ?_)
      · refine XC (Zdv a0 i1 ha0 hi1 0) (fun y17 hey17 => ?_)
        refine VP (fun _ hl => ?_) (fun y19 hly19 => ?_)
        · exact VC (by omega)
        · exact X2
      · exact X2
  · unfold M.Jd
    try simp only [Int.toNat_natCast]
    exact Yj (decide_eq_false (by omega)) rfl
noncomputable def S.Q4 (a0 : ZB) : Int :=
  bif decide ((a0.Zd.length : Int) > 8) then 7 else (letS (runN (S.Jd a0) (.inl ()) 0 a0.Zd.length) (fun y20 => Sum.elim (fun _ => 0) (fun y22 => y22) y20))
theorem ZfV (a0 : ZB) (ha0 : Yy a0) : M.Q4 a0 = some (S.Q4 a0) := by
  have hM := Zq
  unfold M.Q4 S.Q4
  refine WJ (fun hb1 => ?_) (fun hb1 => ?_)
  · rfl
  · refine XN (Zdw a0 ha0 0) (fun y20 hey20 => ?_)
    refine Jr (fun _ hl => ?_) (fun y22 hly22 => ?_)
    · rfl
    · rfl
noncomputable def S.Vp (a0 : ZZ) (a1 : ZZ) : Int :=
  bif (decide (a0.Zx < a1.Zx)) || ((a0.Zx == a1.Zx) && (decide (a0.ZV < a1.ZV))) then (-1) else (bif ((a0.Zx == a1.Zx) && ((a0.ZV == a1.ZV) && true)) then 0 else 1)
theorem ZeC (a0 : ZZ) (a1 : ZZ)  : M.Vp a0 a1 = some (S.Vp a0 a1) := by
  have hM := Zq
  unfold M.Vp S.Vp
  refine WJ (fun hb1 => ?_) (fun hb1 => ?_)
  · rfl
  · refine WJ (fun hb2 => ?_) (fun hb2 => ?_)
    · rfl
    · rfl
noncomputable def S.X5 (a0 : List Int) (a1 : Int) (i1 : Nat) : Option (Unit ⊕ Bool) :=
  bif ((decide ((a0.getD i1 default) < 0)) || (decide ((a0.getD i1 default) ≥ a1))) || ((decide ((i1 : Int) > 0)) && (decide ((a0.getD i1 default) ≤ (a0.getD (wr .i64 ((i1 : Int) - 1)).toNat default)))) then (some (.inr false)) else none
theorem R8 (a0 : List Int) (a1 : Int) (ha0 : a0.length ≤ maxLen) (i0 : Nat) : loopM (M.X5 a0 a1) (i0 : Int) = some (runN (S.X5 a0 a1) (.inl ()) i0 (a0.length - i0)) := by
  have hM := Zq
  have hni1 : a0.length ≤ maxLen := ha0
  refine Xk (n := a0.length) (fun i1 hi1 => ?_) (fun m hm => ?_) i0
  · unfold M.X5 S.X5
    try simp only [Int.toNat_natCast]
    have hdi1 : wr .i64 ((i1 : Int) - 1) = (i1 : Int) - 1 := Zk0 (by omega)
    refine Yi (dt (by omega)) ?_
    refine QB (ZC (dt (by omega)) (ZC (dt (by omega)) (ZC (YO fun hg => (dt (by first | omega | (simp; omega) | (simp at *; omega)))) (ZC (YO fun hg => (dt (by first | omega | (simp; omega) | (simp at *; omega)))) (ZC (YO fun hg => (dt (by first | omega | (simp; omega) | (simp at *; omega)))) (ZC (YO fun hg => (dt (by first | omega | (simp; omega) | (simp at *; omega)))) (ZC (YO fun hg => (dt (by first | omega | (simp; omega) | (simp at *; omega)))) (ZC (YO fun hg => (dt (by first | omega | (simp; omega) | (simp at *; omega)))) X9)))))))) ?_
    refine Yc (fun hb2 => ?_) (fun hb2 => ?_)
    · exact X2
    · exact VC (by omega)
  · unfold M.X5
    try simp only [Int.toNat_natCast]
    exact Yj (decide_eq_false (by omega)) rfl
noncomputable def S.QI (a0 : List Int) (a1 : Int) : Bool :=
  bif decide ((a0.length : Int) > 2) then false else (letS (runN (S.X5 a0 a1) (.inl ()) 0 a0.length) (fun y3 => Sum.elim (fun _ => true) (fun y5 => y5) y3))
theorem Zcl (a0 : List Int) (a1 : Int) (ha0 : a0.length ≤ maxLen) : M.QI a0 a1 = some (S.QI a0 a1) := by
  have hM := Zq
  unfold M.QI S.QI
  refine WJ (fun hb1 => ?_) (fun hb1 => ?_)
  · rfl
  · refine XN (R8 a0 a1 ha0 0) (fun y3 hey3 => ?_)
    refine Jr (fun _ hl => ?_) (fun y5 hly5 => ?_)
    · rfl
    · rfl
noncomputable def S.Z4 (a0 : List XU) (a1 : XU) (i1 : Nat) : Option (Unit ⊕ Int) :=
  bif ((a1.XJ == ((a0.getD i1 default).XJ)) && ((a1.XY == ((a0.getD i1 default).XY)) && true)) then (some (.inr (i1 : Int))) else none
theorem UI (a0 : List XU) (a1 : XU) (ha0 : a0.length ≤ maxLen) (i0 : Nat) : loopM (M.Z4 a0 a1) (i0 : Int) = some (runN (S.Z4 a0 a1) (.inl ()) i0 (a0.length - i0)) := by
  have hM := Zq
  have hni1 : a0.length ≤ maxLen := ha0
  refine Xk (n := a0.length) (fun i1 hi1 => ?_) (fun m hm => ?_) i0
  · unfold M.Z4 S.Z4
    try simp only [Int.toNat_natCast]
    refine Yi (dt (by omega)) ?_
    refine QB (ZC (dt (by omega)) (ZC (dt (by omega)) X9)) ?_
    refine Yc (fun hb1 => ?_) (fun hb1 => ?_)
    · exact X2
    · exact VC (by omega)
  · unfold M.Z4
    try simp only [Int.toNat_natCast]
    exact Yj (decide_eq_false (by omega)) rfl
noncomputable def S.Z9 (a0 : List XU) (a1 : XU) : Int :=
  letS (runN (S.Z4 a0 a1) (.inl ()) 0 a0.length) (fun y3 => Sum.elim (fun _ => -1) (fun y5 => y5) y3)
theorem U7 (a0 : List XU) (a1 : XU) (ha0 : a0.length ≤ maxLen) : M.Z9 a0 a1 = some (S.Z9 a0 a1) := by
  have hM := Zq
  unfold M.Z9 S.Z9
  refine XN (UI a0 a1 ha0 0) (fun y3 hey3 => ?_)
  refine Jr (fun _ hl => ?_) (fun y5 hly5 => ?_)
  · rfl
  · rfl
noncomputable def S.ZY (a0 : List XU) (a1 : XU) : Bool :=
  letS (S.Z9 a0 a1) (fun r1 => decide (r1 ≥ 0))
theorem UJ (a0 : List XU) (a1 : XU) (ha0 : a0.length ≤ maxLen) : M.ZY a0 a1 = some (S.ZY a0 a1) := by
  have hM := Zq
  unfold M.ZY S.ZY
  refine XN (U7 a0 a1 ha0) (fun r1 her1 => ?_)
  rfl
noncomputable def S.Yt (a0 : XM) (a1 : Int) (a2 : Int) (i1 : Nat) : Option (Unit ⊕ Int) :=
  letS (S.ZY ((a0.Xd.Zv.getD i1 default).ZT) (⟨a1, a2⟩ : XU)) (fun r3 => bif r3 then (some (.inr (i1 : Int))) else none)
theorem ZcV (a0 : XM) (a1 : Int) (a2 : Int) (ha0 : Jt a0) (i0 : Nat) : loopM (M.Yt a0 a1 a2) (i0 : Int) = some (runN (S.Yt a0 a1 a2) (.inl ()) i0 (a0.Xd.Zv.length - i0)) := by
  have hM := Zq
  have hni1 : a0.Xd.Zv.length ≤ maxLen := (JY.Zv (Jt.Xd ha0)).1
  refine Xk (n := a0.Xd.Zv.length) (fun i1 hi1 => ?_) (fun m hm => ?_) i0
  · unfold M.Yt S.Yt
    try simp only [Int.toNat_natCast]
    refine Yi (dt (by omega)) ?_
    refine QB (ZC (dt (by omega)) (ZC (dt (by omega)) X9)) ?_
    refine XC (UJ ((a0.Xd.Zv.getD i1 default).ZT) (⟨a1, a2⟩ : XU) (W6.ZT (LL.getD (JY.Zv (Jt.Xd ha0)) W6.dflt i1))) (fun r3 her3 => ?_)
    refine Yc (fun hb1 => ?_) (fun hb1 => ?_)
    · exact X2
    · exact VC (by omega)
  · unfold M.Yt
    try simp only [Int.toNat_natCast]
    exact Yj (decide_eq_false (by omega)) rfl
noncomputable def S.Yr (a0 : XM) (a1 : Int) (a2 : Int) : Int :=
  letS (runN (S.Yt a0 a1 a2) (.inl ()) 0 a0.Xd.Zv.length) (fun y4 => Sum.elim (fun _ => -1) (fun y6 => y6) y4)
theorem Gb (a0 : XM) (a1 : Int) (a2 : Int) (ha0 : Jt a0) : M.Yr a0 a1 a2 = some (S.Yr a0 a1 a2) := by
  have hM := Zq
  unfold M.Yr S.Yr
  refine XN (ZcV a0 a1 a2 ha0 0) (fun y4 hey4 => ?_)
  refine Jr (fun _ hl => ?_) (fun y6 hly6 => ?_)
  · rfl
  · rfl
noncomputable def S.XI (a0 : List Int) (a1 : Int) (i1 : Nat) : Option (Unit ⊕ Int) :=
  bif a1 == (a0.getD i1 default) then (some (.inr (i1 : Int))) else none
theorem GY (a0 : List Int) (a1 : Int) (ha0 : a0.length ≤ maxLen) (i0 : Nat) : loopM (M.XI a0 a1) (i0 : Int) = some (runN (S.XI a0 a1) (.inl ()) i0 (a0.length - i0)) := by
  have hM := Zq
  have hni1 : a0.length ≤ maxLen := ha0
  refine Xk (n := a0.length) (fun i1 hi1 => ?_) (fun m hm => ?_) i0
  · unfold M.XI S.XI
    try simp only [Int.toNat_natCast]
    refine Yi (dt (by omega)) ?_
    refine QB (ZC (dt (by omega)) (ZC (dt (by omega)) X9)) ?_
    refine Yc (fun hb1 => ?_) (fun hb1 => ?_)
    · exact X2
    · exact VC (by omega)
  · unfold M.XI
    try simp only [Int.toNat_natCast]
    exact Yj (decide_eq_false (by omega)) rfl
noncomputable def S.XG (a0 : List Int) (a1 : Int) : Int :=
  letS (runN (S.XI a0 a1) (.inl ()) 0 a0.length) (fun y3 => Sum.elim (fun _ => -1) (fun y5 => y5) y3)
theorem UZ (a0 : List Int) (a1 : Int) (ha0 : a0.length ≤ maxLen) : M.XG a0 a1 = some (S.XG a0 a1) := by
  have hM := Zq
  unfold M.XG S.XG
  refine XN (GY a0 a1 ha0 0) (fun y3 hey3 => ?_)
  refine Jr (fun _ hl => ?_) (fun y5 hly5 => ?_)
  · rfl
  · rfl
noncomputable def S.Jw (a0 : XM) (a1 : Int) (a2 : Int) : Int :=
  letS (S.Yr a0 a1 a2) (fun r1 => bif decide (r1 < 0) then (-1) else (letS (S.XG a0.Xd.YC r1) (fun r2 => r2)))
theorem Zc9 (a0 : XM) (a1 : Int) (a2 : Int) (ha0 : Jt a0) : M.Jw a0 a1 a2 = some (S.Jw a0 a1 a2) := by
  have hM := Zq
  unfold M.Jw S.Jw
  refine XN (Gb a0 a1 a2 ha0) (fun r1 her1 => ?_)
  refine WJ (fun hb1 => ?_) (fun hb1 => ?_)
  · rfl
  · refine XN (UZ a0.Xd.YC r1 (JY.YC (Jt.Xd ha0))) (fun r2 her2 => ?_)
    rfl
noncomputable def S.Xw (a0 : List Int) (a1 : Int) : Bool :=
  letS (S.XG a0 a1) (fun r1 => decide (r1 ≥ 0))
theorem GZ (a0 : List Int) (a1 : Int) (ha0 : a0.length ≤ maxLen) : M.Xw a0 a1 = some (S.Xw a0 a1) := by
  have hM := Zq
  unfold M.Xw S.Xw
  refine XN (UZ a0 a1 ha0) (fun r1 her1 => ?_)
  rfl
noncomputable def S.Vg (a0 : XM) (a1 : Int) (a2 : Int) : Bool :=
  letS (S.Yr a0 a1 a2) (fun r1 => bif decide (r1 < 0) then false else (letS (S.Jw a0 a1 a2) (fun r2 => letS (bif (!(decide (r2 < 0))) then S.Xw a0.QY r2 else default) (fun r3 => (decide (r2 < 0)) || (!r3)))))
theorem Zfi (a0 : XM) (a1 : Int) (a2 : Int) (ha0 : Jt a0) : M.Vg a0 a1 a2 = some (S.Vg a0 a1 a2) := by
  have hM := Zq
  unfold M.Vg S.Vg
  refine XN (Gb a0 a1 a2 ha0) (fun r1 her1 => ?_)
  refine WJ (fun hb1 => ?_) (fun hb1 => ?_)
  · rfl
  · refine XN (Zc9 a0 a1 a2 ha0) (fun r2 her2 => ?_)
    refine XN (Wl fun hg => (GZ a0.QY r2 (Jt.QY ha0))) (fun r3 her3 => ?_)
    rfl
noncomputable def S.QL (a0 : XM) (a1 : XU) : Zl × Bool :=
  bif (decide (a1.XJ < 0)) || (decide (a1.XJ ≥ (a0.VD.Zd.length : Int))) then ((⟨(⟨#[]⟩ : ByteArray), 0, 0, 0, false, false, 0, 0, false, (⟨#[]⟩ : ByteArray), (⟨#[]⟩ : ByteArray), 0⟩ : Zl), false) else (bif (decide (a1.XY < 0)) || (decide (a1.XY ≥ (((a0.VD.Zd.getD a1.XJ.toNat default).Zc).length : Int))) then ((⟨(⟨#[]⟩ : ByteArray), 0, 0, 0, false, false, 0, 0, false, (⟨#[]⟩ : ByteArray), (⟨#[]⟩ : ByteArray), 0⟩ : Zl), false) else (((a0.VD.Zd.getD a1.XJ.toNat default).Zc).getD a1.XY.toNat default, true))
theorem Zbm (a0 : XM) (a1 : XU) (ha0 : Jt a0) : M.QL a0 a1 = some (S.QL a0 a1) := by
  have hM := Zq
  unfold M.QL S.QL
  refine WJ (fun hb1 => ?_) (fun hb1 => ?_)
  · rfl
  · refine QB (ZC (dt (by first | omega | (simp; omega) | (simp at *; omega))) (ZC (dt (by first | omega | (simp; omega) | (simp at *; omega))) X9)) ?_
    refine WJ (fun hb2 => ?_) (fun hb2 => ?_)
    · rfl
    · refine QB (ZC (dt (by first | omega | (simp; omega) | (simp at *; omega))) (ZC (dt (by first | omega | (simp; omega) | (simp at *; omega))) X9)) ?_
      rfl
noncomputable def S.Je (a0 : XM) (a1 : Int) (a2 : Int) (i1 : Nat) (i3 : Nat) : Option (Unit ⊕ Int) :=
  bif ((((((a0.Xd.Zv.getD i1 default).ZT).getD i3 default).XJ) == a1) && ((((((a0.Xd.Zv.getD i1 default).ZT).getD i3 default).XY) == a2) && true)) then (some (.inr (i1 : Int))) else none
theorem Zcm (a0 : XM) (a1 : Int) (a2 : Int) (i1 : Nat) (ha0 : Jt a0) (hi1 : i1 < a0.Xd.Zv.length) (i0 : Nat) : loopM (M.Je a0 a1 a2 (i1 : Int)) (i0 : Int) = some (runN (S.Je a0 a1 a2 i1) (.inl ()) i0 (((a0.Xd.Zv.getD i1 default).ZT).length - i0)) := by
  have hM := Zq
  have hni1 : a0.Xd.Zv.length ≤ maxLen := (JY.Zv (Jt.Xd ha0)).1
  have hni3 : ((a0.Xd.Zv.getD i1 default).ZT).length ≤ maxLen := (W6.ZT (LL.getD (JY.Zv (Jt.Xd ha0)) W6.dflt i1))
  refine Xk (n := ((a0.Xd.Zv.getD i1 default).ZT).length) (fun i3 hi3 => ?_) (fun m hm => ?_) i0
  · unfold M.Je S.Je
    try simp only [Int.toNat_natCast]
    refine QB (ZC (dt (by omega)) (ZC (dt (by omega)) X9))  ?_
    refine Yi (dt (by omega)) ?_
    refine QB (ZC (dt (by omega)) (ZC (dt (by omega)) (ZC (dt (by omega)) (ZC (dt (by omega)) X9)))) ?_
    refine Yc (fun hb1 => ?_) (fun hb1 => ?_)
    · exact X2
    · exact VC (by omega)
  · unfold M.Je
    try simp only [Int.toNat_natCast]
    refine QB (ZC (dt (by omega)) (ZC (dt (by omega)) X9))  ?_
    exact Yj (decide_eq_false (by omega)) rfl
noncomputable def S.Jf (a0 : XM) (a1 : Int) (a2 : Int) (i1 : Nat) : Option (Unit ⊕ Int) :=
  letS (runN (S.Je a0 a1 a2 i1) (.inl ()) 0 (((a0.Xd.Zv.getD i1 default).ZT).length)) (fun y5 => Sum.elim (fun _ => none) (fun y7 => some (.inr y7)) y5)
theorem Zcn (a0 : XM) (a1 : Int) (a2 : Int) (ha0 : Jt a0) (i0 : Nat) : loopM (M.Jf a0 a1 a2) (i0 : Int) = some (runN (S.Jf a0 a1 a2) (.inl ()) i0 (a0.Xd.Zv.length - i0)) := by
  have hM := Zq
  have hni1 : a0.Xd.Zv.length ≤ maxLen := (JY.Zv (Jt.Xd ha0)).1
  refine Xk (n := a0.Xd.Zv.length) (fun i1 hi1 => ?_) (fun m hm => ?_) i0
  · unfold M.Jf S.Jf
    try simp only [Int.toNat_natCast]
    refine Yi (dt (by omega)) ?_
    refine XC (Zcm a0 a1 a2 i1 ha0 hi1 0) (fun y5 hey5 => ?_)
    refine VP (fun _ hl => ?_) (fun y7 hly7 => ?_)
    · exact VC (by omega)
    · exact X2
  · unfold M.Jf
    try simp only [Int.toNat_natCast]
    exact Yj (decide_eq_false (by omega)) rfl
noncomputable def S.Qw (a0 : XM) (a1 : Int) (a2 : Int) : Int :=
  letS (runN (S.Jf a0 a1 a2) (.inl ()) 0 a0.Xd.Zv.length) (fun y8 => Sum.elim (fun _ => -1) (fun y10 => y10) y8)
theorem U0 (a0 : XM) (a1 : Int) (a2 : Int) (ha0 : Jt a0) : M.Qw a0 a1 a2 = some (S.Qw a0 a1 a2) := by
  have hM := Zq
  unfold M.Qw S.Qw
  refine XN (Zcn a0 a1 a2 ha0 0) (fun y8 hey8 => ?_)
  refine Jr (fun _ hl => ?_) (fun y10 hly10 => ?_)
  · rfl
  · rfl
noncomputable def S.Jz (a0 : XM) (r1 : Int) (i2 : Nat) : Option (Unit ⊕ Int) :=
  bif (decide (r1 ≥ 0)) && ((a0.Xd.YC.getD i2 default) == r1) then (some (.inr (i2 : Int))) else none
theorem Zdx (a0 : XM) (r1 : Int) (ha0 : Jt a0) (i0 : Nat) : loopM (M.Jz a0 r1) (i0 : Int) = some (runN (S.Jz a0 r1) (.inl ()) i0 (a0.Xd.YC.length - i0)) := by
  have hM := Zq
  have hni2 : a0.Xd.YC.length ≤ maxLen := (JY.YC (Jt.Xd ha0))
  refine Xk (n := a0.Xd.YC.length) (fun i2 hi2 => ?_) (fun m hm => ?_) i0
  · unfold M.Jz S.Jz
    try simp only [Int.toNat_natCast]
    refine Yi (dt (by omega)) ?_
    refine QB (ZC (YO fun hg => (dt (by first | omega | (simp; omega) | (simp at *; omega)))) (ZC (YO fun hg => (dt (by first | omega | (simp; omega) | (simp at *; omega)))) X9)) ?_
    refine Yc (fun hb1 => ?_) (fun hb1 => ?_)
    · exact X2
    · exact VC (by omega)
  · unfold M.Jz
    try simp only [Int.toNat_natCast]
    exact Yj (decide_eq_false (by omega)) rfl
noncomputable def S.VJ (a0 : XM) (a1 : Int) (a2 : Int) : Int :=
  letS (S.Qw a0 a1 a2) (fun r1 => letS (runN (S.Jz a0 r1) (.inl ()) 0 a0.Xd.YC.length) (fun y4 => Sum.elim (fun _ => -1) (fun y6 => y6) y4))
theorem Zco (a0 : XM) (a1 : Int) (a2 : Int) (ha0 : Jt a0) : M.VJ a0 a1 a2 = some (S.VJ a0 a1 a2) := by
  have hM := Zq
  unfold M.VJ S.VJ
  refine XN (U0 a0 a1 a2 ha0) (fun r1 her1 => ?_)
  refine XN (Zdx a0 r1 ha0 0) (fun y4 hey4 => ?_)
  refine Jr (fun _ hl => ?_) (fun y6 hly6 => ?_)
  · rfl
  · rfl
noncomputable def S.VV (a0 : XM) (r2 : Int) (i3 : Nat) : Option (Unit ⊕ Bool) :=
  bif (a0.QY.getD i3 default) == r2 then (some (.inr false)) else none
theorem ZeX (a0 : XM) (r2 : Int) (ha0 : Jt a0) (i0 : Nat) : loopM (M.VV a0 r2) (i0 : Int) = some (runN (S.VV a0 r2) (.inl ()) i0 (a0.QY.length - i0)) := by
  have hM := Zq
  have hni3 : a0.QY.length ≤ maxLen := (Jt.QY ha0)
  refine Xk (n := a0.QY.length) (fun i3 hi3 => ?_) (fun m hm => ?_) i0
  · unfold M.VV S.VV
    try simp only [Int.toNat_natCast]
    refine Yi (dt (by omega)) ?_
    refine QB (ZC (dt (by omega)) (ZC (dt (by omega)) X9)) ?_
    refine Yc (fun hb2 => ?_) (fun hb2 => ?_)
    · exact X2
    · exact VC (by omega)
  · unfold M.VV
    try simp only [Int.toNat_natCast]
    exact Yj (decide_eq_false (by omega)) rfl
noncomputable def S.Uh (a0 : XM) (a1 : Int) (a2 : Int) : Bool :=
  letS (S.Qw a0 a1 a2) (fun r1 => bif decide (r1 < 0) then false else (letS (S.VJ a0 a1 a2) (fun r2 => letS (runN (S.VV a0 r2) (.inl ()) 0 a0.QY.length) (fun y5 => Sum.elim (fun _ => true) (fun y7 => y7) y5))))
theorem ZeD (a0 : XM) (a1 : Int) (a2 : Int) (ha0 : Jt a0) : M.Uh a0 a1 a2 = some (S.Uh a0 a1 a2) := by
  have hM := Zq
  unfold M.Uh S.Uh
  refine XN (U0 a0 a1 a2 ha0) (fun r1 her1 => ?_)
  refine WJ (fun hb1 => ?_) (fun hb1 => ?_)
  · rfl
  · refine XN (Zco a0 a1 a2 ha0) (fun r2 her2 => ?_)
    refine XN (ZeX a0 r2 ha0 0) (fun y5 hey5 => ?_)
    refine Jr (fun _ hl => ?_) (fun y7 hly7 => ?_)
    · rfl
    · rfl
noncomputable def S.Vq (a0 : List XU) (a1 : List XU) (i1 : Nat) : Option (Unit ⊕ Bool) :=
  bif !((((a0.getD i1 default).XJ) == ((a1.getD i1 default).XJ)) && ((((a0.getD i1 default).XY) == ((a1.getD i1 default).XY)) && true)) then (some (.inr false)) else none
theorem ZeE (a0 : List XU) (a1 : List XU) (ha0 : a0.length ≤ maxLen) (ha1 : a1.length ≤ maxLen) (hlen : a0.length = a1.length) (i0 : Nat) : loopM (M.Vq a0 a1) (i0 : Int) = some (runN (S.Vq a0 a1) (.inl ()) i0 (a0.length - i0)) := by
  have hM := Zq
  have hni1 : a0.length ≤ maxLen := ha0
  refine Xk (n := a0.length) (fun i1 hi1 => ?_) (fun m hm => ?_) i0
  · unfold M.Vq S.Vq
    try simp only [Int.toNat_natCast]
    refine Yi (dt (by omega)) ?_
    refine QB (ZC (dt (by omega)) (ZC (dt (by omega)) (ZC (dt (by omega)) (ZC (dt (by omega)) X9)))) ?_
    refine Yc (fun hb2 => ?_) (fun hb2 => ?_)
    · exact X2
    · exact VC (by omega)
  · unfold M.Vq
    try simp only [Int.toNat_natCast]
    exact Yj (decide_eq_false (by omega)) rfl
noncomputable def S.W5 (a0 : List XU) (a1 : List XU) : Bool :=
  bif (a0.length : Int) != (a1.length : Int) then false else (letS (runN (S.Vq a0 a1) (.inl ()) 0 a0.length) (fun y3 => Sum.elim (fun _ => true) (fun y5 => y5) y3))
theorem ZgK (a0 : List XU) (a1 : List XU) (ha0 : a0.length ≤ maxLen) (ha1 : a1.length ≤ maxLen) : M.W5 a0 a1 = some (S.W5 a0 a1) := by
  have hM := Zq
  unfold M.W5 S.W5
  refine WJ (fun hb1 => ?_) (fun hb1 => ?_)
  · rfl
  · refine XN (ZeE a0 a1 ha0 ha1 (by simp at *; omega) 0) (fun y3 hey3 => ?_)
    refine Jr (fun _ hl => ?_) (fun y5 hly5 => ?_)
    · rfl
    · rfl
end Nv
