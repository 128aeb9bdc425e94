/- Total forms of the mirrors. -/
import Derived.Test.YtaienbkgekjdnaaGreatNvD1
import Derived.Test.YtaienbkgekjdnaaGreatNvLibB
import Derived.Test.YtaienbkgekjdnaaGreatNvQ0
set_option maxRecDepth 100000
namespace Nv
open Go
def Ye (x : Zl) : Prop := (x.Xl.size ≤ maxLen) ∧ (x.VH.size ≤ maxLen) ∧ (x.Y8.size ≤ maxLen)
theorem Ye.Xl {x : Zl} (h : Ye x) : x.Xl.size ≤ maxLen := h.1
theorem Ye.VH {x : Zl} (h : Ye x) : x.VH.size ≤ maxLen := h.2.1
theorem Ye.Y8 {x : Zl} (h : Ye x) : x.Y8.size ≤ maxLen := h.2.2
theorem Ye.dflt : Ye default := ⟨(Nat.zero_le _), (Nat.zero_le _), (Nat.zero_le _)⟩
def Yz (x : Z2) : Prop := (x.Xl.size ≤ maxLen) ∧ (x.YG.length ≤ maxLen)
theorem Yz.Xl {x : Z2} (h : Yz x) : x.Xl.size ≤ maxLen := h.1
theorem Yz.YG {x : Z2} (h : Yz x) : x.YG.length ≤ maxLen := h.2
theorem Yz.dflt : Yz default := ⟨(Nat.zero_le _), (Nat.zero_le _)⟩
def Uh (x : R7) : Prop := (x.J0.size ≤ maxLen)
theorem Uh.J0 {x : R7} (h : Uh x) : x.J0.size ≤ maxLen := h
theorem Uh.dflt : Uh default := (Nat.zero_le _)
def Q9 (x : X6) : Prop := (x.Xl.size ≤ maxLen) ∧ (LL Uh x.XZ)
theorem Q9.Xl {x : X6} (h : Q9 x) : x.Xl.size ≤ maxLen := h.1
theorem Q9.XZ {x : X6} (h : Q9 x) : LL Uh x.XZ := h.2
theorem Q9.dflt : Q9 default := ⟨(Nat.zero_le _), ⟨Nat.zero_le _, fun _ h => absurd h List.not_mem_nil⟩⟩
def Uc (x : WW) : Prop := (x.Xl.size ≤ maxLen) ∧ (x.YG.length ≤ maxLen)
theorem Uc.Xl {x : WW} (h : Uc x) : x.Xl.size ≤ maxLen := h.1
theorem Uc.YG {x : WW} (h : Uc x) : x.YG.length ≤ maxLen := h.2
theorem Uc.dflt : Uc default := ⟨(Nat.zero_le _), (Nat.zero_le _)⟩
def Va (x : YS) : Prop := (x.J0.size ≤ maxLen)
theorem Va.J0 {x : YS} (h : Va x) : x.J0.size ≤ maxLen := h
theorem Va.dflt : Va default := (Nat.zero_le _)
def Vb (x : YT) : Prop := (x.XY.size ≤ maxLen)
theorem Vb.XY {x : YT} (h : Vb x) : x.XY.size ≤ maxLen := h
theorem Vb.dflt : Vb default := (Nat.zero_le _)
def Vc (x : YJ) : Prop := (x.Zcj.size ≤ maxLen)
theorem Vc.Zcj {x : YJ} (h : Vc x) : x.Zcj.size ≤ maxLen := h
theorem Vc.dflt : Vc default := (Nat.zero_le _)
def Jp (x : Vg) : Prop := (x.Z6.length ≤ maxLen) ∧ (LL Vc x.Zr)
theorem Jp.Z6 {x : Vg} (h : Jp x) : x.Z6.length ≤ maxLen := h.1
theorem Jp.Zr {x : Vg} (h : Jp x) : LL Vc x.Zr := h.2
theorem Jp.dflt : Jp default := ⟨(Nat.zero_le _), ⟨Nat.zero_le _, fun _ h => absurd h List.not_mem_nil⟩⟩
def X5 (x : YB) : Prop := (x.VH.size ≤ maxLen) ∧ (x.Y8.size ≤ maxLen) ∧ (LL Vc x.Zr)
theorem X5.VH {x : YB} (h : X5 x) : x.VH.size ≤ maxLen := h.1
theorem X5.Y8 {x : YB} (h : X5 x) : x.Y8.size ≤ maxLen := h.2.1
theorem X5.Zr {x : YB} (h : X5 x) : LL Vc x.Zr := h.2.2
theorem X5.dflt : X5 default := ⟨(Nat.zero_le _), (Nat.zero_le _), ⟨Nat.zero_le _, fun _ h => absurd h List.not_mem_nil⟩⟩
def JU (x : Ju) : Prop := (x.VH.size ≤ maxLen) ∧ (x.Y8.size ≤ maxLen)
theorem JU.VH {x : Ju} (h : JU x) : x.VH.size ≤ maxLen := h.1
theorem JU.Y8 {x : Ju} (h : JU x) : x.Y8.size ≤ maxLen := h.2
theorem JU.dflt : JU default := ⟨(Nat.zero_le _), (Nat.zero_le _)⟩
def Xk (x : Xw) : Prop := (LL JU x.Zm) ∧ (x.Z0.length ≤ maxLen) ∧ (x.ZC.length ≤ maxLen) ∧ (x.Zt.length ≤ maxLen) ∧ (LL Vc x.Zr)
theorem Xk.Zm {x : Xw} (h : Xk x) : LL JU x.Zm := h.1
theorem Xk.Z0 {x : Xw} (h : Xk x) : x.Z0.length ≤ maxLen := h.2.1
theorem Xk.ZC {x : Xw} (h : Xk x) : x.ZC.length ≤ maxLen := h.2.2.1
theorem Xk.Zt {x : Xw} (h : Xk x) : x.Zt.length ≤ maxLen := h.2.2.2.1
theorem Xk.Zr {x : Xw} (h : Xk x) : LL Vc x.Zr := h.2.2.2.2
theorem Xk.dflt : Xk default := ⟨⟨Nat.zero_le _, fun _ h => absurd h List.not_mem_nil⟩, (Nat.zero_le _), (Nat.zero_le _), (Nat.zero_le _), ⟨Nat.zero_le _, fun _ h => absurd h List.not_mem_nil⟩⟩
def Zn (x : Zf) : Prop := (x.Xl.size ≤ maxLen) ∧ (LL Ye x.Zc) ∧ (LL Yz x.Yt) ∧ (LL Q9 x.XC) ∧ (LL Uc x.YC) ∧ (LL Va x.Xd) ∧ (LL Vb x.Zq) ∧ (Jp x.Yf) ∧ (X5 x.Ym) ∧ (Xk x.Xr)
theorem Zn.Xl {x : Zf} (h : Zn x) : x.Xl.size ≤ maxLen := h.1
theorem Zn.Zc {x : Zf} (h : Zn x) : LL Ye x.Zc := h.2.1
theorem Zn.Yt {x : Zf} (h : Zn x) : LL Yz x.Yt := h.2.2.1
theorem Zn.XC {x : Zf} (h : Zn x) : LL Q9 x.XC := h.2.2.2.1
theorem Zn.YC {x : Zf} (h : Zn x) : LL Uc x.YC := h.2.2.2.2.1
theorem Zn.Xd {x : Zf} (h : Zn x) : LL Va x.Xd := h.2.2.2.2.2.1
theorem Zn.Zq {x : Zf} (h : Zn x) : LL Vb x.Zq := h.2.2.2.2.2.2.1
theorem Zn.Yf {x : Zf} (h : Zn x) : Jp x.Yf := h.2.2.2.2.2.2.2.1
theorem Zn.Ym {x : Zf} (h : Zn x) : X5 x.Ym := h.2.2.2.2.2.2.2.2.1
theorem Zn.Xr {x : Zf} (h : Zn x) : Xk x.Xr := h.2.2.2.2.2.2.2.2.2
theorem Zn.dflt : Zn default := ⟨(Nat.zero_le _), ⟨Nat.zero_le _, fun _ h => absurd h List.not_mem_nil⟩, ⟨Nat.zero_le _, fun _ h => absurd h List.not_mem_nil⟩, ⟨Nat.zero_le _, fun _ h => absurd h List.not_mem_nil⟩, ⟨Nat.zero_le _, fun _ h => absurd h List.not_mem_nil⟩, ⟨Nat.zero_le _, fun _ h => absurd h List.not_mem_nil⟩, ⟨Nat.zero_le _, fun _ h => absurd h List.not_mem_nil⟩, Jp.dflt, X5.dflt, Xk.dflt⟩
def Yv (x : Zw) : Prop := (LL Zn x.Zd)
theorem Yv.Zd {x : Zw} (h : Yv x) : LL Zn x.Zd := h
def Uw (x : Zg) : Prop := (x.ZZ.length ≤ maxLen)
theorem Uw.ZZ {x : Zg} (h : Uw x) : x.ZZ.length ≤ maxLen := h
theorem Uw.dflt : Uw default := (Nat.zero_le _)
def Wc (x : Qt) : Prop := (LL Uw x.Z1) ∧ (x.QB.length ≤ maxLen)
theorem Wc.Z1 {x : Qt} (h : Wc x) : LL Uw x.Z1 := h.1
theorem Wc.QB {x : Qt} (h : Wc x) : x.QB.length ≤ maxLen := h.2
def W2 (x : X3) : Prop := (Yv x.Qr) ∧ (Wc x.XW) ∧ (x.V2.length ≤ maxLen)
theorem W2.XW {x : X3} (h : W2 x) : Wc x.XW := h.2.1
theorem W2.V2 {x : X3} (h : W2 x) : x.V2.length ≤ maxLen := h.2.2
noncomputable def S.Vi (a0 : Zf) (i1 : Nat) : Option (Unit ⊕ Bool) :=
  bif decide ((((a0.Yt.getD i1 default).YG).length : Int) > 20) then (some (.inr false)) else none
theorem Zc5 (a0 : Zf) (ha0 : Zn a0) (i0 : Nat) : loopM (M.Vi a0) (i0 : Int) = some (runN (S.Vi a0) (.inl ()) i0 (a0.Yt.length - i0)) := by
  have hM := Zv
  have hni1 : a0.Yt.length ≤ maxLen := (Zn.Yt ha0).1
  refine Xz (n := a0.Yt.length) (fun i1 hi1 => ?_) (fun m hm => ?_) i0
  · unfold M.Vi S.Vi
    try simp only [Int.toNat_natCast]
    refine YE (dt (by omega)) ?_
    refine Je (ZO (dt (by omega)) (ZO (dt (by omega)) Yi)) ?_
    refine Yg (fun hb2 => ?_) (fun hb2 => ?_)
    · exact X2
    · exact VQ (by omega)
  · unfold M.Vi
    try simp only [Int.toNat_natCast]
    exact YF (decide_eq_false (by omega)) rfl
noncomputable def S.Vj (a0 : Zf) (i6 : Nat) : Option (Unit ⊕ Bool) :=
  bif decide ((((a0.XC.getD i6 default).XZ).length : Int) > 12) then (some (.inr false)) else none
theorem Zc6 (a0 : Zf) (ha0 : Zn a0) (i0 : Nat) : loopM (M.Vj a0) (i0 : Int) = some (runN (S.Vj a0) (.inl ()) i0 (a0.XC.length - i0)) := by
  have hM := Zv
  have hni6 : a0.XC.length ≤ maxLen := (Zn.XC ha0).1
  refine Xz (n := a0.XC.length) (fun i6 hi6 => ?_) (fun m hm => ?_) i0
  · unfold M.Vj S.Vj
    try simp only [Int.toNat_natCast]
    refine YE (dt (by omega)) ?_
    refine Je (ZO (dt (by omega)) (ZO (dt (by omega)) Yi)) ?_
    refine Yg (fun hb3 => ?_) (fun hb3 => ?_)
    · exact X2
    · exact VQ (by omega)
  · unfold M.Vj
    try simp only [Int.toNat_natCast]
    exact YF (decide_eq_false (by omega)) rfl
noncomputable def S.Vk (a0 : Zf) (i11 : Nat) : Option (Unit ⊕ Bool) :=
  bif decide ((((a0.YC.getD i11 default).YG).length : Int) > 20) then (some (.inr false)) else none
theorem Zc7 (a0 : Zf) (ha0 : Zn a0) (i0 : Nat) : loopM (M.Vk a0) (i0 : Int) = some (runN (S.Vk a0) (.inl ()) i0 (a0.YC.length - i0)) := by
  have hM := Zv
  have hni11 : a0.YC.length ≤ maxLen := (Zn.YC ha0).1
  refine Xz (n := a0.YC.length) (fun i11 hi11 => ?_) (fun m hm => ?_) i0
  · unfold M.Vk S.Vk
    try simp only [Int.toNat_natCast]
    refine YE (dt (by omega)) ?_
    refine Je (ZO (dt (by omega)) (ZO (dt (by omega)) Yi)) ?_
    refine Yg (fun hb4 => ?_) (fun hb4 => ?_)
    · exact X2
    · exact VQ (by omega)
  · unfold M.Vk
    try simp only [Int.toNat_natCast]
    exact YF (decide_eq_false (by omega)) rfl
noncomputable def S.Vh (a0 : Zf) : Bool :=
  bif (((((((((((((decide ((a0.Zc.length : Int) > 12)) || (decide ((a0.Yt.length : Int) > 12))) || (decide ((a0.XC.length : Int) > 12))) || (decide ((a0.YC.length : Int) > 12))) || (decide ((a0.Xd.length : Int) > 12))) || (decide ((a0.Zq.length : Int) > 20))) || (decide ((a0.Yf.Z6.length : Int) > 8))) || (decide ((a0.Yf.Zr.length : Int) > 8))) || (decide ((a0.Ym.Zr.length : Int) > 8))) || (decide ((a0.Xr.Zr.length : Int) > 8))) || (decide ((a0.Xr.Zm.length : Int) > 12))) || (decide ((a0.Xr.Z0.length : Int) > 12))) || (decide ((a0.Xr.ZC.length : Int) > 12))) || (decide ((a0.Xr.Zt.length : Int) > 12)) then false else (letS (runN (S.Vi a0) (.inl ()) 0 a0.Yt.length) (fun y3 => Sum.elim (fun _ => letS (runN (S.Vj a0) (.inl ()) 0 a0.XC.length) (fun y8 => Sum.elim (fun _ => letS (runN (S.Vk a0) (.inl ()) 0 a0.YC.length) (fun y13 => Sum.elim (fun _ => true) (fun y15 => y15) y13)) (fun y10 => y10) y8)) (fun y5 => y5) y3))
theorem Zfy (a0 : Zf) (ha0 : Zn a0) : M.Vh a0 = some (S.Vh a0) := by
  have hM := Zv
  unfold M.Vh S.Vh
  refine WV (fun hb1 => ?_) (fun hb1 => ?_)
  · rfl
  · refine XR (Zc5 a0 ha0 0) (fun y3 hey3 => ?_)
    refine JZ (fun _ hl => ?_) (fun y5 hly5 => ?_)
    · refine XR (Zc6 a0 ha0 0) (fun y8 hey8 => ?_)
      refine JZ (fun _ hl => ?_) (fun y10 hly10 => ?_)
      · refine XR (Zc7 a0 ha0 0) (fun y13 hey13 => ?_)
        refine JZ (fun _ hl => ?_) (fun y15 hly15 => ?_)
        · rfl
        · rfl
      · rfl
    · rfl
noncomputable def S.Qk (a0 : Zw) (i1 : Nat) : Option (Unit ⊕ Bool) :=
  letS (S.Vh (a0.Zd.getD i1 default)) (fun r3 => bif !r3 then (some (.inr false)) else none)
theorem Zcy (a0 : Zw) (ha0 : Yv a0) (i0 : Nat) : loopM (M.Qk a0) (i0 : Int) = some (runN (S.Qk a0) (.inl ()) i0 (a0.Zd.length - i0)) := by
  have hM := Zv
  have hni1 : a0.Zd.length ≤ maxLen := (Yv.Zd ha0).1
  refine Xz (n := a0.Zd.length) (fun i1 hi1 => ?_) (fun m hm => ?_) i0
  · unfold M.Qk S.Qk
    try simp only [Int.toNat_natCast]
    refine YE (dt (by omega)) ?_
    refine XE (Zfy (a0.Zd.getD i1 default) (LL.getD (Yv.Zd ha0) Zn.dflt i1)) (fun r3 her3 => ?_)
    refine Je (ZO (dt (by omega)) (ZO (dt (by omega)) Yi)) ?_
    refine Yg (fun hb2 => ?_) (fun hb2 => ?_)
    · exact X2
    · exact VQ (by omega)
  · unfold M.Qk
    try simp only [Int.toNat_natCast]
    exact YF (decide_eq_false (by omega)) rfl
noncomputable def S.JQ (a0 : Zw) : Bool :=
  bif decide ((a0.Zd.length : Int) > 9) then false else (letS (runN (S.Qk a0) (.inl ()) 0 a0.Zd.length) (fun y4 => Sum.elim (fun _ => true) (fun y6 => y6) y4))
theorem Zez (a0 : Zw) (ha0 : Yv a0) : M.JQ a0 = some (S.JQ a0) := by
  have hM := Zv
  unfold M.JQ S.JQ
  refine WV (fun hb1 => ?_) (fun hb1 => ?_)
  · rfl
  · refine XR (Zcy a0 ha0 0) (fun y4 hey4 => ?_)
    refine JZ (fun _ hl => ?_) (fun y6 hly6 => ?_)
    · rfl
    · rfl
noncomputable def S.Vt (a0 : Int) : Bool :=
  ((decide (a0 ≥ 97)) && (decide (a0 ≤ 122))) || ((decide (a0 ≥ 65)) && (decide (a0 ≤ 90)))
theorem ZaE (a0 : Int)  : M.Vt a0 = some (S.Vt a0) := by
  have hM := Zv
  unfold M.Vt S.Vt
  rfl
noncomputable def S.VI (a0 : ByteArray) (i2 : Nat) : Option (Unit ⊕ Bool) :=
  letS (S.Vt (byteAt a0 (i2 : Int))) (fun r4 => bif (((((!r4) && (!((decide ((byteAt a0 (i2 : Int)) ≥ 48)) && (decide ((byteAt a0 (i2 : Int)) ≤ 57))))) && ((byteAt a0 (i2 : Int)) != 45)) && ((byteAt a0 (i2 : Int)) != 95)) && ((byteAt a0 (i2 : Int)) != 47)) && ((byteAt a0 (i2 : Int)) != 46) then (some (.inr false)) else none)
theorem Zef (a0 : ByteArray) (ha0 : a0.size ≤ maxLen) (i0 : Nat) : loopM (M.VI a0) (i0 : Int) = some (runN (S.VI a0) (.inl ()) i0 (a0.size - i0)) := by
  have hM := Zv
  have hni2 : a0.size ≤ maxLen := ha0
  refine Xz (n := a0.size) (fun i2 hi2 => ?_) (fun m hm => ?_) i0
  · unfold M.VI S.VI
    try simp only [Int.toNat_natCast]
    refine YE (dt (by omega)) ?_
    refine Je (ZO (dt (by omega)) (ZO (dt (by omega)) Yi)) ?_
    refine XE (ZaE (byteAt a0 (i2 : Int))) (fun r4 her4 => ?_)
    refine Yg (fun hb2 => ?_) (fun hb2 => ?_)
    · exact X2
    · exact VQ (by omega)
  · unfold M.VI
    try simp only [Int.toNat_natCast]
    exact YF (decide_eq_false (by omega)) rfl
noncomputable def S.QY (a0 : ByteArray) : Bool :=
  letS (bif (!((decide ((a0.size : Int) < 1)) || (decide ((a0.size : Int) > 15)))) then S.Vt (byteAt a0 0) else default) (fun r1 => bif ((decide ((a0.size : Int) < 1)) || (decide ((a0.size : Int) > 15))) || (!r1) then false else (letS (runN (S.VI a0) (.inl ()) 1 (a0.size - 1)) (fun y5 => Sum.elim (fun _ => true) (fun y7 => y7) y5)))
theorem U6 (a0 : ByteArray) (ha0 : a0.size ≤ maxLen) : M.QY a0 = some (S.QY a0) := by
  have hM := Zv
  unfold M.QY S.QY
  refine XR (We fun hg => (ZaE (byteAt a0 0))) (fun r1 her1 => ?_)
  refine Je (ZO (Qa fun hg => (dt (by first | omega | (simp; omega) | (simp at *; omega)))) (ZO (Qa fun hg => (dt (by first | omega | (simp; omega) | (simp at *; omega)))) Yi)) ?_
  refine WV (fun hb1 => ?_) (fun hb1 => ?_)
  · rfl
  · refine XR (Zef a0 ha0 1) (fun y5 hey5 => ?_)
    refine JZ (fun _ hl => ?_) (fun y7 hly7 => ?_)
    · rfl
    · rfl
noncomputable def S.ZT (a0 : Int) (a1 : Int) (a2 : Int) : Bool :=
  (decide (a1 ≤ a0)) && (decide (a0 ≤ a2))
theorem XT (a0 : Int) (a1 : Int) (a2 : Int)  : M.ZT a0 a1 a2 = some (S.ZT a0 a1 a2) := by
  have hM := Zv
  unfold M.ZT S.ZT
  rfl
noncomputable def S.Qu (a0 : Int) (a1 : Int) : ZX :=
  letS (S.Jg (if 0 > (if 32 < a1 then 32 else a1) then 0 else (if 32 < a1 then 32 else a1))) (fun r1 => (⟨bitD .and .u32 a0 r1, if 0 > (if 32 < a1 then 32 else a1) then 0 else (if 32 < a1 then 32 else a1)⟩ : ZX))
theorem Gx (a0 : Int) (a1 : Int)  : M.Qu a0 a1 = some (S.Qu a0 a1) := by
  have hM := Zv
  unfold M.Qu S.Qu
  refine XR (RL (if 0 > (if 32 < a1 then 32 else a1) then 0 else (if 32 < a1 then 32 else a1))) (fun r1 her1 => ?_)
  rfl
noncomputable def S.JY (a0 : ZX) (a1 : Int) : Bool :=
  letS (S.Jg a0.ZR) (fun r1 => (bitD .and .u32 a1 r1) == a0.Zs)
theorem Zc8 (a0 : ZX) (a1 : Int)  : M.JY a0 a1 = some (S.JY a0 a1) := by
  have hM := Zv
  unfold M.JY S.JY
  refine XR (RL a0.ZR) (fun r1 her1 => ?_)
  rfl
noncomputable def S.JR (a0 : ZX) (a1 : ZX) : Bool :=
  letS (bif (decide (a0.ZR ≤ a1.ZR)) then S.JY a0 a1.Zs else default) (fun r1 => (decide (a0.ZR ≤ a1.ZR)) && r1)
theorem ZaF (a0 : ZX) (a1 : ZX)  : M.JR a0 a1 = some (S.JR a0 a1) := by
  have hM := Zv
  unfold M.JR S.JR
  refine XR (We fun hg => (Zc8 a0 a1.Zs)) (fun r1 her1 => ?_)
  rfl
noncomputable def S.Qn (a0 : ZX) (a1 : ZX) : Bool :=
  letS (S.JR a0 a1) (fun r1 => letS (bif (!r1) then S.JR a1 a0 else default) (fun r2 => r1 || r2))
theorem KQ (a0 : ZX) (a1 : ZX)  : M.Qn a0 a1 = some (S.Qn a0 a1) := by
  have hM := Zv
  unfold M.Qn S.Qn
  refine XR (ZaF a0 a1) (fun r1 her1 => ?_)
  refine XR (We fun hg => (ZaF a1 a0)) (fun r2 her2 => ?_)
  rfl
noncomputable def S.YH (a0 : List Zl) (i1 : Nat) (i4 : Nat) : Option (Unit ⊕ Int) :=
  bif strEq ((a0.getD i4 default).Xl) ((a0.getD i1 default).Xl) then (some (.inr 4)) else none
theorem RM (a0 : List Zl) (i1 : Nat) (ha0 : LL Ye a0) (hi1 : i1 < a0.length) (i0 : Nat) : loopM (M.YH a0 (i1 : Int)) (i0 : Int) = some (runN (S.YH a0 i1) (.inl ()) i0 (i1 - i0)) := by
  have hM := Zv
  have hni1 : a0.length ≤ maxLen := ha0.1
  have hni4 : i1 ≤ maxLen := (by omega)
  refine Xz (n := i1) (fun i4 hi4 => ?_) (fun m hm => ?_) i0
  · unfold M.YH S.YH
    try simp only [Int.toNat_natCast]
    refine YE (dt (by omega)) ?_
    refine Je (ZO (dt (by omega)) (ZO (dt (by omega)) Yi)) ?_
    refine Yg (fun hb3 => ?_) (fun hb3 => ?_)
    · exact X2
    · exact VQ (by omega)
  · unfold M.YH
    try simp only [Int.toNat_natCast]
    exact YF (decide_eq_false (by omega)) rfl
noncomputable def S.Yn (a0 : List Zl) (i1 : Nat) (i14 : Nat) : Option (Unit ⊕ Int) :=
  letS (bif ((((a0.getD i1 default).ZR) != 0) && (((a0.getD i14 default).ZR) != 0)) then S.Qu ((a0.getD i1 default).Zs) ((a0.getD i1 default).ZR) else default) (fun r16 => letS (bif ((((a0.getD i1 default).ZR) != 0) && (((a0.getD i14 default).ZR) != 0)) then S.Qu ((a0.getD i14 default).Zs) ((a0.getD i14 default).ZR) else default) (fun r17 => letS (bif ((((a0.getD i1 default).ZR) != 0) && (((a0.getD i14 default).ZR) != 0)) then S.Qn r16 r17 else default) (fun r18 => bif ((((a0.getD i1 default).ZR) != 0) && (((a0.getD i14 default).ZR) != 0)) && r18 then (some (.inr 6)) else none)))
theorem RN (a0 : List Zl) (i1 : Nat) (ha0 : LL Ye a0) (hi1 : i1 < a0.length) (i0 : Nat) : loopM (M.Yn a0 (i1 : Int)) (i0 : Int) = some (runN (S.Yn a0 i1) (.inl ()) i0 (i1 - i0)) := by
  have hM := Zv
  have hni1 : a0.length ≤ maxLen := ha0.1
  have hni14 : i1 ≤ maxLen := (by omega)
  refine Xz (n := i1) (fun i14 hi14 => ?_) (fun m hm => ?_) i0
  · unfold M.Yn S.Yn
    try simp only [Int.toNat_natCast]
    refine YE (dt (by omega)) ?_
    refine XE (We fun hg => (Gx ((a0.getD i1 default).Zs) ((a0.getD i1 default).ZR))) (fun r16 her16 => ?_)
    refine XE (We fun hg => (Gx ((a0.getD i14 default).Zs) ((a0.getD i14 default).ZR))) (fun r17 her17 => ?_)
    refine XE (We fun hg => (KQ r16 r17)) (fun r18 her18 => ?_)
    refine Je (ZO (Qa fun hg => (dt (by first | omega | (simp; omega) | (simp at *; omega)))) (ZO (Qa fun hg => (dt (by first | omega | (simp; omega) | (simp at *; omega)))) (ZO (Qa fun hg => (dt (by first | omega | (simp; omega) | (simp at *; omega)))) (ZO (Qa fun hg => (dt (by first | omega | (simp; omega) | (simp at *; omega)))) (ZO (Qa fun hg => (dt (by first | omega | (simp; omega) | (simp at *; omega)))) (ZO (Qa fun hg => (dt (by first | omega | (simp; omega) | (simp at *; omega)))) Yi)))))) ?_
    refine Yg (fun hb7 => ?_) (fun hb7 => ?_)
    · exact X2
    · exact VQ (by omega)
  · unfold M.Yn
    try simp only [Int.toNat_natCast]
    exact YF (decide_eq_false (by omega)) rfl
noncomputable def S.Yo (a0 : List Zl) (i1 : Nat) : Option (Unit ⊕ Int) :=
  letS (S.QY ((a0.getD i1 default).Xl)) (fun r3 => bif !r3 then (some (.inr 3)) else (letS (runN (S.YH a0 i1) (.inl ()) 0 i1) (fun y6 => Sum.elim (fun _ => letS (S.ZT ((a0.getD i1 default).ZR) 0 32) (fun r9 => letS (bif (!(!r9)) then S.ZT ((a0.getD i1 default).XB) 0 4094 else default) (fun r10 => letS (bif (!((!r9) || (!r10))) then S.ZT ((a0.getD i1 default).Rm) 0 2 else default) (fun r11 => bif ((!r9) || (!r10)) || (!r11) then (some (.inr 1)) else (bif ((((a0.getD i1 default).ZR) == 0) && (((((((((a0.getD i1 default).Zs) != 0) || (((a0.getD i1 default).XB) != 0)) || (((a0.getD i1 default).Rm) != 0)) || ((a0.getD i1 default).Yf)) || ((a0.getD i1 default).Ym)) || (!strEq ((a0.getD i1 default).VH) (⟨#[]⟩ : ByteArray))) || (!strEq ((a0.getD i1 default).Y8) (⟨#[]⟩ : ByteArray)))) || ((((a0.getD i1 default).ZR) != 0) && (((a0.getD i1 default).Zs) == 0)) then (some (.inr 1)) else (letS (bif ((a0.getD i1 default).Yf) then S.ZT ((a0.getD i1 default).VR) 0 255 else default) (fun r12 => letS (bif (((a0.getD i1 default).Yf) && !(!r12)) then S.ZT ((a0.getD i1 default).Zbz) 1 65535 else default) (fun r13 => bif (((a0.getD i1 default).Yf) && ((!r12) || (!r13))) || ((!((a0.getD i1 default).Yf)) && ((((a0.getD i1 default).VR) != 0) || (((a0.getD i1 default).Zbz) != 0))) then (some (.inr 1)) else (letS (runN (S.Yn a0 i1) (.inl ()) 0 i1) (fun y19 => Sum.elim (fun _ => none) (fun y21 => some (.inr y21)) y19)))))))))) (fun y8 => some (.inr y8)) y6)))
theorem RO (a0 : List Zl) (ha0 : LL Ye a0) (i0 : Nat) : loopM (M.Yo a0) (i0 : Int) = some (runN (S.Yo a0) (.inl ()) i0 (a0.length - i0)) := by
  have hM := Zv
  have hni1 : a0.length ≤ maxLen := ha0.1
  refine Xz (n := a0.length) (fun i1 hi1 => ?_) (fun m hm => ?_) i0
  · unfold M.Yo S.Yo
    try simp only [Int.toNat_natCast]
    refine YE (dt (by omega)) ?_
    refine Je (ZO (dt (by omega)) (ZO (dt (by omega)) Yi)) ?_
    refine XE (U6 ((a0.getD i1 default).Xl) (Ye.Xl (LL.getD ha0 Ye.dflt i1))) (fun r3 her3 => ?_)
    refine Yg (fun hb2 => ?_) (fun hb2 => ?_)
    · exact X2
    · refine XE (RM a0 i1 ha0 hi1 0) (fun y6 hey6 => ?_)
      refine V0 (fun _ hl => ?_) (fun y8 hly8 => ?_)
      · refine XE (XT ((a0.getD i1 default).ZR) 0 32) (fun r9 her9 => ?_)
        refine XE (We fun hg => (XT ((a0.getD i1 default).XB) 0 4094)) (fun r10 her10 => ?_)
        refine XE (We fun hg => (XT ((a0.getD i1 default).Rm) 0 2)) (fun r11 her11 => ?_)
        refine Yg (fun hb4 => ?_) (fun hb4 => ?_)
        · exact X2
        · refine Yg (fun hb5 => ?_) (fun hb5 => ?_)
          · exact X2
          · refine XE (We fun hg => (XT ((a0.getD i1 default).VR) 0 255)) (fun r12 her12 => ?_)
            refine XE (We fun hg => (XT ((a0.getD i1 default).Zbz) 1 65535)) (fun r13 her13 => ?_)
            refine Yg (fun hb6 => ?_) (fun hb6 => ?_)
            · exact X2
            · refine XE (RN a0 i1 ha0 hi1 0) (fun y19 hey19 => ?_)
              refine V0 (fun _ hl => ?_) (fun y21 hly21 => ?_)
              · exact VQ (by omega)
              · exact X2
      · exact X2
  · unfold M.Yo
    try simp only [Int.toNat_natCast]
    exact YF (decide_eq_false (by omega)) rfl
noncomputable def S.Yb (a0 : List Zl) : Int :=
  bif decide ((a0.length : Int) > 8) then 7 else (letS (runN (S.Yo a0) (.inl ()) 0 a0.length) (fun y22 => Sum.elim (fun _ => 0) (fun y24 => y24) y22))
theorem ZbZ (a0 : List Zl) (ha0 : LL Ye a0) : M.Yb a0 = some (S.Yb a0) := by
  have hM := Zv
  unfold M.Yb S.Yb
  refine WV (fun hb1 => ?_) (fun hb1 => ?_)
  · rfl
  · refine XR (RO a0 ha0 0) (fun y22 hey22 => ?_)
    refine JZ (fun _ hl => ?_) (fun y24 hly24 => ?_)
    · rfl
    · rfl
noncomputable def S.Y9 (a0 : ZX) : Bool :=
  letS (bif ((decide (a0.ZR ≥ 0)) && (decide (a0.ZR ≤ 32))) then S.Jg a0.ZR else default) (fun r1 => ((decide (a0.ZR ≥ 0)) && (decide (a0.ZR ≤ 32))) && ((bitD .andNot .u32 a0.Zs r1) == 0))
theorem WR (a0 : ZX)  : M.Y9 a0 = some (S.Y9 a0) := by
  have hM := Zv
  unfold M.Y9 S.Y9
  refine XR (We fun hg => (RL a0.ZR)) (fun r1 her1 => ?_)
  rfl
noncomputable def S.YU (a0 : W7) : Bool :=
  letS (S.Y9 a0.Zo) (fun r1 => ((r1 && (decide (a0.Zo.ZR ≤ a0.Zh3))) && (decide (a0.Zh3 ≤ a0.Zh4))) && (decide (a0.Zh4 ≤ 32)))
theorem KG (a0 : W7)  : M.YU a0 = some (S.YU a0) := by
  have hM := Zv
  unfold M.YU S.YU
  refine XR (WR a0.Zo) (fun r1 her1 => ?_)
  rfl
noncomputable def S.Qd (a0 : List Z2) (i1 : Nat) (i4 : Nat) : Option (Unit ⊕ Int) :=
  bif strEq ((a0.getD i4 default).Xl) ((a0.getD i1 default).Xl) then (some (.inr 4)) else none
theorem KX (a0 : List Z2) (i1 : Nat) (ha0 : LL Yz a0) (hi1 : i1 < a0.length) (i0 : Nat) : loopM (M.Qd a0 (i1 : Int)) (i0 : Int) = some (runN (S.Qd a0 i1) (.inl ()) i0 (i1 - i0)) := by
  have hM := Zv
  have hni1 : a0.length ≤ maxLen := ha0.1
  have hni4 : i1 ≤ maxLen := (by omega)
  refine Xz (n := i1) (fun i4 hi4 => ?_) (fun m hm => ?_) i0
  · unfold M.Qd S.Qd
    try simp only [Int.toNat_natCast]
    refine YE (dt (by omega)) ?_
    refine Je (ZO (dt (by omega)) (ZO (dt (by omega)) (ZO (dt (by omega)) (ZO (dt (by omega)) Yi)))) ?_
    refine Yg (fun hb3 => ?_) (fun hb3 => ?_)
    · exact X2
    · exact VQ (by omega)
  · unfold M.Qd
    try simp only [Int.toNat_natCast]
    exact YF (decide_eq_false (by omega)) rfl
noncomputable def S.Qe (a0 : List Z2) (i1 : Nat) (i9 : Nat) : Option (Unit ⊕ Int) :=
  letS (S.YU (((a0.getD i1 default).YG).getD i9 default)) (fun r11 => bif !r11 then (some (.inr 1)) else none)
theorem KY (a0 : List Z2) (i1 : Nat) (ha0 : LL Yz a0) (hi1 : i1 < a0.length) (i0 : Nat) : loopM (M.Qe a0 (i1 : Int)) (i0 : Int) = some (runN (S.Qe a0 i1) (.inl ()) i0 (((a0.getD i1 default).YG).length - i0)) := by
  have hM := Zv
  have hni1 : a0.length ≤ maxLen := ha0.1
  have hni9 : ((a0.getD i1 default).YG).length ≤ maxLen := (Yz.YG (LL.getD ha0 Yz.dflt i1))
  refine Xz (n := ((a0.getD i1 default).YG).length) (fun i9 hi9 => ?_) (fun m hm => ?_) i0
  · unfold M.Qe S.Qe
    try simp only [Int.toNat_natCast]
    refine Je (ZO (dt (by omega)) (ZO (dt (by omega)) Yi))  ?_
    refine YE (dt (by omega)) ?_
    refine XE (KG (((a0.getD i1 default).YG).getD i9 default)) (fun r11 her11 => ?_)
    refine Je (ZO (dt (by omega)) (ZO (dt (by omega)) (ZO (dt (by omega)) (ZO (dt (by omega)) Yi)))) ?_
    refine Yg (fun hb6 => ?_) (fun hb6 => ?_)
    · exact X2
    · exact VQ (by omega)
  · unfold M.Qe
    try simp only [Int.toNat_natCast]
    refine Je (ZO (dt (by omega)) (ZO (dt (by omega)) Yi))  ?_
    exact YF (decide_eq_false (by omega)) rfl
noncomputable def S.Qf (a0 : List Z2) (i1 : Nat) : Option (Unit ⊕ Int) :=
  letS (S.QY ((a0.getD i1 default).Xl)) (fun r3 => bif !r3 then (some (.inr 3)) else (letS (runN (S.Qd a0 i1) (.inl ()) 0 i1) (fun y6 => Sum.elim (fun _ => bif (((a0.getD i1 default).YG).length : Int) == 0 then (some (.inr 1)) else (bif decide ((((a0.getD i1 default).YG).length : Int) > 16) then (some (.inr 7)) else (letS (runN (S.Qe a0 i1) (.inl ()) 0 (((a0.getD i1 default).YG).length)) (fun y12 => Sum.elim (fun _ => none) (fun y14 => some (.inr y14)) y12)))) (fun y8 => some (.inr y8)) y6)))
theorem KZ (a0 : List Z2) (ha0 : LL Yz a0) (i0 : Nat) : loopM (M.Qf a0) (i0 : Int) = some (runN (S.Qf a0) (.inl ()) i0 (a0.length - i0)) := by
  have hM := Zv
  have hni1 : a0.length ≤ maxLen := ha0.1
  refine Xz (n := a0.length) (fun i1 hi1 => ?_) (fun m hm => ?_) i0
  · unfold M.Qf S.Qf
    try simp only [Int.toNat_natCast]
    refine YE (dt (by omega)) ?_
    refine XE (U6 ((a0.getD i1 default).Xl) (Yz.Xl (LL.getD ha0 Yz.dflt i1))) (fun r3 her3 => ?_)
    refine Je (ZO (dt (by omega)) (ZO (dt (by omega)) Yi)) ?_
    refine Yg (fun hb2 => ?_) (fun hb2 => ?_)
    · exact X2
    · refine XE (KX a0 i1 ha0 hi1 0) (fun y6 hey6 => ?_)
      refine V0 (fun _ hl => ?_) (fun y8 hly8 => ?_)
      · refine Je (ZO (dt (by omega)) (ZO (dt (by omega)) Yi)) ?_
        refine Yg (fun hb4 => ?_) (fun hb4 => ?_)
        · exact X2
        · refine Je (ZO (dt (by omega)) (ZO (dt (by omega)) Yi)) ?_
          refine Yg (fun hb5 => ?_) (fun hb5 => ?_)
          · exact X2
          · refine XE (KY a0 i1 ha0 hi1 0) (fun y12 hey12 => ?_)
            refine V0 (fun _ hl => ?_) (fun y14 hly14 => ?_)
            · exact VQ (by omega)
            · exact X2
      · exact X2
  · unfold M.Qf
    try simp only [Int.toNat_natCast]
    exact YF (decide_eq_false (by omega)) rfl
noncomputable def S.Ql (a0 : List Z2) : Int :=
  bif decide ((a0.length : Int) > 8) then 7 else (letS (runN (S.Qf a0) (.inl ()) 0 a0.length) (fun y15 => Sum.elim (fun _ => 0) (fun y17 => y17) y15))
theorem Za2 (a0 : List Z2) (ha0 : LL Yz a0) : M.Ql a0 = some (S.Ql a0) := by
  have hM := Zv
  unfold M.Ql S.Ql
  refine WV (fun hb1 => ?_) (fun hb1 => ?_)
  · rfl
  · refine XR (KZ a0 ha0 0) (fun y15 hey15 => ?_)
    refine JZ (fun _ hl => ?_) (fun y17 hly17 => ?_)
    · rfl
    · rfl
noncomputable def S.Qv (a0 : Zf) (a1 : ByteArray) (i1 : Nat) : Option (Unit ⊕ Int) :=
  bif strEq ((a0.Yt.getD i1 default).Xl) a1 then (some (.inr (i1 : Int))) else none
theorem RP (a0 : Zf) (a1 : ByteArray) (ha0 : Zn a0) (ha1 : a1.size ≤ maxLen) (i0 : Nat) : loopM (M.Qv a0 a1) (i0 : Int) = some (runN (S.Qv a0 a1) (.inl ()) i0 (a0.Yt.length - i0)) := by
  have hM := Zv
  have hni1 : a0.Yt.length ≤ maxLen := (Zn.Yt ha0).1
  refine Xz (n := a0.Yt.length) (fun i1 hi1 => ?_) (fun m hm => ?_) i0
  · unfold M.Qv S.Qv
    try simp only [Int.toNat_natCast]
    refine YE (dt (by omega)) ?_
    refine Je (ZO (dt (by omega)) (ZO (dt (by omega)) Yi)) ?_
    refine Yg (fun hb1 => ?_) (fun hb1 => ?_)
    · exact X2
    · exact VQ (by omega)
  · unfold M.Qv
    try simp only [Int.toNat_natCast]
    exact YF (decide_eq_false (by omega)) rfl
noncomputable def S.YO (a0 : Zf) (a1 : ByteArray) : Int :=
  letS (runN (S.Qv a0 a1) (.inl ()) 0 a0.Yt.length) (fun y3 => Sum.elim (fun _ => -1) (fun y5 => y5) y3)
theorem UN (a0 : Zf) (a1 : ByteArray) (ha0 : Zn a0) (ha1 : a1.size ≤ maxLen) : M.YO a0 a1 = some (S.YO a0 a1) := by
  have hM := Zv
  unfold M.YO S.YO
  refine XR (RP a0 a1 ha0 ha1 0) (fun y3 hey3 => ?_)
  refine JZ (fun _ hl => ?_) (fun y5 hly5 => ?_)
  · rfl
  · rfl
noncomputable def S.QN (a0 : Zf) (i1 : Nat) (i4 : Nat) : Option (Unit ⊕ Int) :=
  bif strEq ((a0.XC.getD i4 default).Xl) ((a0.XC.getD i1 default).Xl) then (some (.inr 4)) else none
theorem Zaj (a0 : Zf) (i1 : Nat) (ha0 : Zn a0) (hi1 : i1 < a0.XC.length) (i0 : Nat) : loopM (M.QN a0 (i1 : Int)) (i0 : Int) = some (runN (S.QN a0 i1) (.inl ()) i0 (i1 - i0)) := by
  have hM := Zv
  have hni1 : a0.XC.length ≤ maxLen := (Zn.XC ha0).1
  have hni4 : i1 ≤ maxLen := (by omega)
  refine Xz (n := i1) (fun i4 hi4 => ?_) (fun m hm => ?_) i0
  · unfold M.QN S.QN
    try simp only [Int.toNat_natCast]
    refine YE (dt (by omega)) ?_
    refine Je (ZO (dt (by omega)) (ZO (dt (by omega)) (ZO (dt (by omega)) (ZO (dt (by omega)) Yi)))) ?_
    refine Yg (fun hb3 => ?_) (fun hb3 => ?_)
    · exact X2
    · exact VQ (by omega)
  · unfold M.QN
    try simp only [Int.toNat_natCast]
    exact YF (decide_eq_false (by omega)) rfl
noncomputable def S.QO (a0 : Zf) (i1 : Nat) (i9 : Nat) : Option (Unit ⊕ Int) :=
  letS (bif (!strEq ((((a0.XC.getD i1 default).XZ).getD i9 default).J0) (⟨#[]⟩ : ByteArray)) then S.YO a0 ((((a0.XC.getD i1 default).XZ).getD i9 default).J0) else default) (fun r11 => bif (!strEq ((((a0.XC.getD i1 default).XZ).getD i9 default).J0) (⟨#[]⟩ : ByteArray)) && (decide (r11 < 0)) then (some (.inr 5)) else (letS (S.ZT ((((a0.XC.getD i1 default).XZ).getD i9 default).Ks) (-1) 65535) (fun r12 => letS (bif (!(!r12)) then S.ZT ((((a0.XC.getD i1 default).XZ).getD i9 default).ZbB) (-1) 65535 else default) (fun r13 => letS (bif (!((!r12) || (!r13))) then S.ZT ((((a0.XC.getD i1 default).XZ).getD i9 default).Gm) (-1) 16777215 else default) (fun r14 => letS (bif (!(((!r12) || (!r13)) || (!r14))) then S.ZT ((((a0.XC.getD i1 default).XZ).getD i9 default).Rn) (-1) 1000000 else default) (fun r15 => letS (bif (!((((!r12) || (!r13)) || (!r14)) || (!r15))) then S.ZT ((((a0.XC.getD i1 default).XZ).getD i9 default).Ro) 0 8 else default) (fun r16 => bif ((((!r12) || (!r13)) || (!r14)) || (!r15)) || (!r16) then (some (.inr 1)) else none)))))))
theorem Zak (a0 : Zf) (i1 : Nat) (ha0 : Zn a0) (hi1 : i1 < a0.XC.length) (i0 : Nat) : loopM (M.QO a0 (i1 : Int)) (i0 : Int) = some (runN (S.QO a0 i1) (.inl ()) i0 (((a0.XC.getD i1 default).XZ).length - i0)) := by
  have hM := Zv
  have hni1 : a0.XC.length ≤ maxLen := (Zn.XC ha0).1
  have hni9 : ((a0.XC.getD i1 default).XZ).length ≤ maxLen := (Q9.XZ (LL.getD (Zn.XC ha0) Q9.dflt i1)).1
  refine Xz (n := ((a0.XC.getD i1 default).XZ).length) (fun i9 hi9 => ?_) (fun m hm => ?_) i0
  · unfold M.QO S.QO
    try simp only [Int.toNat_natCast]
    refine Je (ZO (dt (by omega)) (ZO (dt (by omega)) Yi))  ?_
    refine YE (dt (by omega)) ?_
    refine Je (ZO (dt (by omega)) (ZO (dt (by omega)) (ZO (dt (by omega)) (ZO (dt (by omega)) Yi)))) ?_
    refine XE (We fun hg => (UN a0 ((((a0.XC.getD i1 default).XZ).getD i9 default).J0) ha0 (Uh.J0 (LL.getD (Q9.XZ (LL.getD (Zn.XC ha0) Q9.dflt i1)) Uh.dflt i9)))) (fun r11 her11 => ?_)
    refine Yg (fun hb6 => ?_) (fun hb6 => ?_)
    · exact X2
    · refine XE (XT ((((a0.XC.getD i1 default).XZ).getD i9 default).Ks) (-1) 65535) (fun r12 her12 => ?_)
      refine XE (We fun hg => (XT ((((a0.XC.getD i1 default).XZ).getD i9 default).ZbB) (-1) 65535)) (fun r13 her13 => ?_)
      refine XE (We fun hg => (XT ((((a0.XC.getD i1 default).XZ).getD i9 default).Gm) (-1) 16777215)) (fun r14 her14 => ?_)
      refine XE (We fun hg => (XT ((((a0.XC.getD i1 default).XZ).getD i9 default).Rn) (-1) 1000000)) (fun r15 her15 => ?_)
      refine XE (We fun hg => (XT ((((a0.XC.getD i1 default).XZ).getD i9 default).Ro) 0 8)) (fun r16 her16 => ?_)
      refine Yg (fun hb7 => ?_) (fun hb7 => ?_)
      · exact X2
      · exact VQ (by omega)
  · unfold M.QO
    try simp only [Int.toNat_natCast]
    refine Je (ZO (dt (by omega)) (ZO (dt (by omega)) Yi))  ?_
    exact YF (decide_eq_false (by omega)) rfl
noncomputable def S.QP (a0 : Zf) (i1 : Nat) : Option (Unit ⊕ Int) :=
  letS (S.QY ((a0.XC.getD i1 default).Xl)) (fun r3 => bif !r3 then (some (.inr 3)) else (letS (runN (S.QN a0 i1) (.inl ()) 0 i1) (fun y6 => Sum.elim (fun _ => bif (((a0.XC.getD i1 default).XZ).length : Int) == 0 then (some (.inr 1)) else (bif decide ((((a0.XC.getD i1 default).XZ).length : Int) > 8) then (some (.inr 7)) else (letS (runN (S.QO a0 i1) (.inl ()) 0 (((a0.XC.getD i1 default).XZ).length)) (fun y17 => Sum.elim (fun _ => none) (fun y19 => some (.inr y19)) y17)))) (fun y8 => some (.inr y8)) y6)))
theorem Zal (a0 : Zf) (ha0 : Zn a0) (i0 : Nat) : loopM (M.QP a0) (i0 : Int) = some (runN (S.QP a0) (.inl ()) i0 (a0.XC.length - i0)) := by
  have hM := Zv
  have hni1 : a0.XC.length ≤ maxLen := (Zn.XC ha0).1
  refine Xz (n := a0.XC.length) (fun i1 hi1 => ?_) (fun m hm => ?_) i0
  · unfold M.QP S.QP
    try simp only [Int.toNat_natCast]
    refine YE (dt (by omega)) ?_
    refine XE (U6 ((a0.XC.getD i1 default).Xl) (Q9.Xl (LL.getD (Zn.XC ha0) Q9.dflt i1))) (fun r3 her3 => ?_)
    refine Je (ZO (dt (by omega)) (ZO (dt (by omega)) Yi)) ?_
    refine Yg (fun hb2 => ?_) (fun hb2 => ?_)
    · exact X2
    · refine XE (Zaj a0 i1 ha0 hi1 0) (fun y6 hey6 => ?_)
      refine V0 (fun _ hl => ?_) (fun y8 hly8 => ?_)
      · refine Je (ZO (dt (by omega)) (ZO (dt (by omega)) Yi)) ?_
        refine Yg (fun hb4 => ?_) (fun hb4 => ?_)
        · exact X2
        · refine Je (ZO (dt (by omega)) (ZO (dt (by omega)) Yi)) ?_
          refine Yg (fun hb5 => ?_) (fun hb5 => ?_)
          · exact X2
          · refine XE (Zak a0 i1 ha0 hi1 0) (fun y17 hey17 => ?_)
            refine V0 (fun _ hl => ?_) (fun y19 hly19 => ?_)
            · exact VQ (by omega)
            · exact X2
      · exact X2
  · unfold M.QP
    try simp only [Int.toNat_natCast]
    exact YF (decide_eq_false (by omega)) rfl
noncomputable def S.Q0 (a0 : Zf) : Int :=
  bif decide ((a0.XC.length : Int) > 8) then 7 else (letS (runN (S.QP a0) (.inl ()) 0 a0.XC.length) (fun y20 => Sum.elim (fun _ => 0) (fun y22 => y22) y20))
theorem Zcz (a0 : Zf) (ha0 : Zn a0) : M.Q0 a0 = some (S.Q0 a0) := by
  have hM := Zv
  unfold M.Q0 S.Q0
  refine WV (fun hb1 => ?_) (fun hb1 => ?_)
  · rfl
  · refine XR (Zal a0 ha0 0) (fun y20 hey20 => ?_)
    refine JZ (fun _ hl => ?_) (fun y22 hly22 => ?_)
    · rfl
    · rfl
noncomputable def S.VS (a0 : VA) : Bool :=
  ((decide (0 ≤ a0.G9)) && (decide (a0.G9 ≤ a0.KR))) && (decide (a0.KR ≤ 65535))
theorem Zb0 (a0 : VA)  : M.VS a0 = some (S.VS a0) := by
  have hM := Zv
  unfold M.VS S.VS
  rfl
noncomputable def S.W8 (a0 : VA) : Bool :=
  (a0.G9 == 0) && ((a0.KR == 65535) && true)
theorem Zeg (a0 : VA)  : M.W8 a0 = some (S.W8 a0) := by
  have hM := Zv
  unfold M.W8 S.W8
  rfl
noncomputable def S.J4 (a0 : Zd5) : Bool :=
  letS (S.ZT a0.YR (-1) 255) (fun r1 => letS (bif (!(((!r1) || ((bitD .and .u32 a0.ZaQ.Zs a0.ZaQ.Gc) != 0)) || ((bitD .and .u32 a0.ZaR.Zs a0.ZaR.Gc) != 0))) then S.VS a0.Ue else default) (fun r2 => letS (bif (!((((!r1) || ((bitD .and .u32 a0.ZaQ.Zs a0.ZaQ.Gc) != 0)) || ((bitD .and .u32 a0.ZaR.Zs a0.ZaR.Gc) != 0)) || (!r2))) then S.VS a0.Uf else default) (fun r3 => bif ((((!r1) || ((bitD .and .u32 a0.ZaQ.Zs a0.ZaQ.Gc) != 0)) || ((bitD .and .u32 a0.ZaR.Zs a0.ZaR.Gc) != 0)) || (!r2)) || (!r3) then false else (letS (bif (!((a0.YR == 6) || (a0.YR == 17))) then S.W8 a0.Ue else default) (fun r4 => letS (bif ((!((a0.YR == 6) || (a0.YR == 17))) && r4) then S.W8 a0.Uf else default) (fun r5 => ((a0.YR == 6) || (a0.YR == 17)) || (r4 && r5)))))))
theorem ZcA (a0 : Zd5)  : M.J4 a0 = some (S.J4 a0) := by
  have hM := Zv
  unfold M.J4 S.J4
  refine XR (XT a0.YR (-1) 255) (fun r1 her1 => ?_)
  refine XR (We fun hg => (Zb0 a0.Ue)) (fun r2 her2 => ?_)
  refine XR (We fun hg => (Zb0 a0.Uf)) (fun r3 her3 => ?_)
  refine WV (fun hb1 => ?_) (fun hb1 => ?_)
  · rfl
  · refine XR (We fun hg => (Zeg a0.Ue)) (fun r4 her4 => ?_)
    refine XR (We fun hg => (Zeg a0.Uf)) (fun r5 her5 => ?_)
    rfl
noncomputable def S.Qg (a0 : List WW) (i1 : Nat) (i4 : Nat) : Option (Unit ⊕ Int) :=
  bif strEq ((a0.getD i4 default).Xl) ((a0.getD i1 default).Xl) then (some (.inr 4)) else none
theorem K0 (a0 : List WW) (i1 : Nat) (ha0 : LL Uc a0) (hi1 : i1 < a0.length) (i0 : Nat) : loopM (M.Qg a0 (i1 : Int)) (i0 : Int) = some (runN (S.Qg a0 i1) (.inl ()) i0 (i1 - i0)) := by
  have hM := Zv
  have hni1 : a0.length ≤ maxLen := ha0.1
  have hni4 : i1 ≤ maxLen := (by omega)
  refine Xz (n := i1) (fun i4 hi4 => ?_) (fun m hm => ?_) i0
  · unfold M.Qg S.Qg
    try simp only [Int.toNat_natCast]
    refine YE (dt (by omega)) ?_
    refine Je (ZO (dt (by omega)) (ZO (dt (by omega)) (ZO (dt (by omega)) (ZO (dt (by omega)) Yi)))) ?_
    refine Yg (fun hb3 => ?_) (fun hb3 => ?_)
    · exact X2
    · exact VQ (by omega)
  · unfold M.Qg
    try simp only [Int.toNat_natCast]
    exact YF (decide_eq_false (by omega)) rfl
noncomputable def S.Qh (a0 : List WW) (i1 : Nat) (i9 : Nat) : Option (Unit ⊕ Int) :=
  letS (S.J4 (((a0.getD i1 default).YG).getD i9 default)) (fun r11 => bif !r11 then (some (.inr 1)) else none)
theorem K3 (a0 : List WW) (i1 : Nat) (ha0 : LL Uc a0) (hi1 : i1 < a0.length) (i0 : Nat) : loopM (M.Qh a0 (i1 : Int)) (i0 : Int) = some (runN (S.Qh a0 i1) (.inl ()) i0 (((a0.getD i1 default).YG).length - i0)) := by
  have hM := Zv
  have hni1 : a0.length ≤ maxLen := ha0.1
  have hni9 : ((a0.getD i1 default).YG).length ≤ maxLen := (Uc.YG (LL.getD ha0 Uc.dflt i1))
  refine Xz (n := ((a0.getD i1 default).YG).length) (fun i9 hi9 => ?_) (fun m hm => ?_) i0
  · unfold M.Qh S.Qh
    try simp only [Int.toNat_natCast]
    refine Je (ZO (dt (by omega)) (ZO (dt (by omega)) Yi))  ?_
    refine YE (dt (by omega)) ?_
    refine XE (ZcA (((a0.getD i1 default).YG).getD i9 default)) (fun r11 her11 => ?_)
    refine Je (ZO (dt (by omega)) (ZO (dt (by omega)) (ZO (dt (by omega)) (ZO (dt (by omega)) Yi)))) ?_
    refine Yg (fun hb6 => ?_) (fun hb6 => ?_)
    · exact X2
    · exact VQ (by omega)
  · unfold M.Qh
    try simp only [Int.toNat_natCast]
    refine Je (ZO (dt (by omega)) (ZO (dt (by omega)) Yi))  ?_
    exact YF (decide_eq_false (by omega)) rfl
noncomputable def S.Qi (a0 : List WW) (i1 : Nat) : Option (Unit ⊕ Int) :=
  letS (S.QY ((a0.getD i1 default).Xl)) (fun r3 => bif !r3 then (some (.inr 3)) else (letS (runN (S.Qg a0 i1) (.inl ()) 0 i1) (fun y6 => Sum.elim (fun _ => bif (((a0.getD i1 default).YG).length : Int) == 0 then (some (.inr 1)) else (bif decide ((((a0.getD i1 default).YG).length : Int) > 16) then (some (.inr 7)) else (letS (runN (S.Qh a0 i1) (.inl ()) 0 (((a0.getD i1 default).YG).length)) (fun y12 => Sum.elim (fun _ => none) (fun y14 => some (.inr y14)) y12)))) (fun y8 => some (.inr y8)) y6)))
theorem K4 (a0 : List WW) (ha0 : LL Uc a0) (i0 : Nat) : loopM (M.Qi a0) (i0 : Int) = some (runN (S.Qi a0) (.inl ()) i0 (a0.length - i0)) := by
  have hM := Zv
  have hni1 : a0.length ≤ maxLen := ha0.1
  refine Xz (n := a0.length) (fun i1 hi1 => ?_) (fun m hm => ?_) i0
  · unfold M.Qi S.Qi
    try simp only [Int.toNat_natCast]
    refine YE (dt (by omega)) ?_
    refine XE (U6 ((a0.getD i1 default).Xl) (Uc.Xl (LL.getD ha0 Uc.dflt i1))) (fun r3 her3 => ?_)
    refine Je (ZO (dt (by omega)) (ZO (dt (by omega)) Yi)) ?_
    refine Yg (fun hb2 => ?_) (fun hb2 => ?_)
    · exact X2
    · refine XE (K0 a0 i1 ha0 hi1 0) (fun y6 hey6 => ?_)
      refine V0 (fun _ hl => ?_) (fun y8 hly8 => ?_)
      · refine Je (ZO (dt (by omega)) (ZO (dt (by omega)) Yi)) ?_
        refine Yg (fun hb4 => ?_) (fun hb4 => ?_)
        · exact X2
        · refine Je (ZO (dt (by omega)) (ZO (dt (by omega)) Yi)) ?_
          refine Yg (fun hb5 => ?_) (fun hb5 => ?_)
          · exact X2
          · refine XE (K3 a0 i1 ha0 hi1 0) (fun y12 hey12 => ?_)
            refine V0 (fun _ hl => ?_) (fun y14 hly14 => ?_)
            · exact VQ (by omega)
            · exact X2
      · exact X2
  · unfold M.Qi
    try simp only [Int.toNat_natCast]
    exact YF (decide_eq_false (by omega)) rfl
noncomputable def S.Qm (a0 : List WW) : Int :=
  bif decide ((a0.length : Int) > 8) then 7 else (letS (runN (S.Qi a0) (.inl ()) 0 a0.length) (fun y15 => Sum.elim (fun _ => 0) (fun y17 => y17) y15))
theorem Za3 (a0 : List WW) (ha0 : LL Uc a0) : M.Qm a0 = some (S.Qm a0) := by
  have hM := Zv
  unfold M.Qm S.Qm
  refine WV (fun hb1 => ?_) (fun hb1 => ?_)
  · rfl
  · refine XR (K4 a0 ha0 0) (fun y15 hey15 => ?_)
    refine JZ (fun _ hl => ?_) (fun y17 hly17 => ?_)
    · rfl
    · rfl
noncomputable def S.V6 (a0 : Zf) (a1 : ByteArray) (i1 : Nat) : Option (Unit ⊕ Int) :=
  bif strEq ((a0.YC.getD i1 default).Xl) a1 then (some (.inr (i1 : Int))) else none
theorem ZeA (a0 : Zf) (a1 : ByteArray) (ha0 : Zn a0) (ha1 : a1.size ≤ maxLen) (i0 : Nat) : loopM (M.V6 a0 a1) (i0 : Int) = some (runN (S.V6 a0 a1) (.inl ()) i0 (a0.YC.length - i0)) := by
  have hM := Zv
  have hni1 : a0.YC.length ≤ maxLen := (Zn.YC ha0).1
  refine Xz (n := a0.YC.length) (fun i1 hi1 => ?_) (fun m hm => ?_) i0
  · unfold M.V6 S.V6
    try simp only [Int.toNat_natCast]
    refine YE (dt (by omega)) ?_
    refine Je (ZO (dt (by omega)) (ZO (dt (by omega)) Yi)) ?_
    refine Yg (fun hb1 => ?_) (fun hb1 => ?_)
    · exact X2
    · exact VQ (by omega)
  · unfold M.V6
    try simp only [Int.toNat_natCast]
    exact YF (decide_eq_false (by omega)) rfl
noncomputable def S.Wq (a0 : Zf) (a1 : ByteArray) : Int :=
  letS (runN (S.V6 a0 a1) (.inl ()) 0 a0.YC.length) (fun y3 => Sum.elim (fun _ => -1) (fun y5 => y5) y3)
theorem Za4 (a0 : Zf) (a1 : ByteArray) (ha0 : Zn a0) (ha1 : a1.size ≤ maxLen) : M.Wq a0 a1 = some (S.Wq a0 a1) := by
  have hM := Zv
  unfold M.Wq S.Wq
  refine XR (ZeA a0 a1 ha0 ha1 0) (fun y3 hey3 => ?_)
  refine JZ (fun _ hl => ?_) (fun y5 hly5 => ?_)
  · rfl
  · rfl
noncomputable def S.XS (a0 : Zf) (i1 : Nat) (p3 : Bool) : Option (Unit ⊕ Int) :=
  bif !p3 then (some (.inr 1)) else (letS (bif (((a0.Xd.getD i1 default).Wk) == 2) then S.Wq a0 ((a0.Xd.getD i1 default).J0) else default) (fun r4 => bif (((a0.Xd.getD i1 default).Wk) == 2) && (decide (r4 < 0)) then (some (.inr 5)) else none))
theorem VK (a0 : Zf) (i1 : Nat) (p3 : Bool) (ha0 : Zn a0) (hi1 : i1 < a0.Xd.length) : M.XS a0 (i1 : Int) p3 = some (rdN (S.XS a0 i1 p3) i1) := by
  have hM := Zv
  have hni1 : a0.Xd.length ≤ maxLen := (Zn.Xd ha0).1
  unfold M.XS S.XS
  try simp only [Int.toNat_natCast]
  refine Yg (fun hb3 => ?_) (fun hb3 => ?_)
  · exact X2
  · refine XE (We fun hg => (Za4 a0 ((a0.Xd.getD i1 default).J0) ha0 (Va.J0 (LL.getD (Zn.Xd ha0) Va.dflt i1)))) (fun r4 her4 => ?_)
    refine Yg (fun hb4 => ?_) (fun hb4 => ?_)
    · exact X2
    · exact VQ (by omega)
noncomputable def S.YV (a0 : Zf) (i1 : Nat) : Option (Unit ⊕ Int) :=
  bif ((a0.Xd.getD i1 default).Wk) == 1 then (S.XS a0 i1 (((((a0.Xd.getD i1 default).JA) != 0) && (((a0.Xd.getD i1 default).QA) != 0)) && ((((a0.Xd.getD i1 default).Wk) == ((a0.Xd.getD i1 default).Wk)) && ((((a0.Xd.getD i1 default).JA) == ((a0.Xd.getD i1 default).JA)) && ((((a0.Xd.getD i1 default).QA) == ((a0.Xd.getD i1 default).QA)) && ((((a0.Xd.getD i1 default).YR) == 0) && ((((a0.Xd.getD i1 default).JP) == 0) && ((((a0.Xd.getD i1 default).Jf) == 0) && (strEq ((a0.Xd.getD i1 default).J0) (⟨#[]⟩ : ByteArray) && ((((a0.Xd.getD i1 default).G9) == 0) && ((((a0.Xd.getD i1 default).KR) == 0) && true))))))))))) else (bif ((a0.Xd.getD i1 default).Wk) == 2 then (S.XS a0 i1 ((((((a0.Xd.getD i1 default).G9) != 0) && (decide (((a0.Xd.getD i1 default).G9) ≤ ((a0.Xd.getD i1 default).KR)))) && (decide ((wr .u32 (((a0.Xd.getD i1 default).KR) - ((a0.Xd.getD i1 default).G9))) < 8))) && ((((a0.Xd.getD i1 default).Wk) == ((a0.Xd.getD i1 default).Wk)) && ((((a0.Xd.getD i1 default).JA) == 0) && ((((a0.Xd.getD i1 default).QA) == 0) && ((((a0.Xd.getD i1 default).YR) == 0) && ((((a0.Xd.getD i1 default).JP) == 0) && ((((a0.Xd.getD i1 default).Jf) == 0) && (strEq ((a0.Xd.getD i1 default).J0) ((a0.Xd.getD i1 default).J0) && ((((a0.Xd.getD i1 default).G9) == ((a0.Xd.getD i1 default).G9)) && ((((a0.Xd.getD i1 default).KR) == ((a0.Xd.getD i1 default).KR)) && true))))))))))) else (bif ((a0.Xd.getD i1 default).Wk) == 3 then (letS (bif (((((a0.Xd.getD i1 default).JA) != 0) && (((a0.Xd.getD i1 default).QA) != 0)) && ((((a0.Xd.getD i1 default).YR) == 6) || (((a0.Xd.getD i1 default).YR) == 17))) then S.ZT ((a0.Xd.getD i1 default).JP) 0 65535 else default) (fun r5 => letS (bif ((((((a0.Xd.getD i1 default).JA) != 0) && (((a0.Xd.getD i1 default).QA) != 0)) && ((((a0.Xd.getD i1 default).YR) == 6) || (((a0.Xd.getD i1 default).YR) == 17))) && r5) then S.ZT ((a0.Xd.getD i1 default).Jf) 0 65535 else default) (fun r6 => S.XS a0 i1 ((((((((((a0.Xd.getD i1 default).JA) != 0) && (((a0.Xd.getD i1 default).QA) != 0)) && ((((a0.Xd.getD i1 default).YR) == 6) || (((a0.Xd.getD i1 default).YR) == 17))) && r5) && r6) && (strEq ((a0.Xd.getD i1 default).J0) (⟨#[]⟩ : ByteArray))) && (((a0.Xd.getD i1 default).G9) == 0)) && (((a0.Xd.getD i1 default).KR) == 0))))) else (S.XS a0 i1 false)))
theorem KH (a0 : Zf) (ha0 : Zn a0) (i0 : Nat) : loopM (M.YV a0) (i0 : Int) = some (runN (S.YV a0) (.inl ()) i0 (a0.Xd.length - i0)) := by
  have hM := Zv
  have hni1 : a0.Xd.length ≤ maxLen := (Zn.Xd ha0).1
  refine Xz (n := a0.Xd.length) (fun i1 hi1 => ?_) (fun m hm => ?_) i0
  · unfold M.YV S.YV
    try simp only [Int.toNat_natCast]
    refine YE (dt (by omega)) ?_
    refine Je (ZO (dt (by omega)) (ZO (dt (by omega)) Yi)) ?_
    refine Yg (fun hb2 => ?_) (fun hb2 => ?_)
    · exact VK a0 i1 (((((a0.Xd.getD i1 default).JA) != 0) && (((a0.Xd.getD i1 default).QA) != 0)) && ((((a0.Xd.getD i1 default).Wk) == ((a0.Xd.getD i1 default).Wk)) && ((((a0.Xd.getD i1 default).JA) == ((a0.Xd.getD i1 default).JA)) && ((((a0.Xd.getD i1 default).QA) == ((a0.Xd.getD i1 default).QA)) && ((((a0.Xd.getD i1 default).YR) == 0) && ((((a0.Xd.getD i1 default).JP) == 0) && ((((a0.Xd.getD i1 default).Jf) == 0) && (strEq ((a0.Xd.getD i1 default).J0) (⟨#[]⟩ : ByteArray) && ((((a0.Xd.getD i1 default).G9) == 0) && ((((a0.Xd.getD i1 default).KR) == 0) && true)))))))))) ha0 hi1
    · refine Yg (fun hb5 => ?_) (fun hb5 => ?_)
      · exact VK a0 i1 ((((((a0.Xd.getD i1 default).G9) != 0) && (decide (((a0.Xd.getD i1 default).G9) ≤ ((a0.Xd.getD i1 default).KR)))) && (decide ((wr .u32 (((a0.Xd.getD i1 default).KR) - ((a0.Xd.getD i1 default).G9))) < 8))) && ((((a0.Xd.getD i1 default).Wk) == ((a0.Xd.getD i1 default).Wk)) && ((((a0.Xd.getD i1 default).JA) == 0) && ((((a0.Xd.getD i1 default).QA) == 0) && ((((a0.Xd.getD i1 default).YR) == 0) && ((((a0.Xd.getD i1 default).JP) == 0) && ((((a0.Xd.getD i1 default).Jf) == 0) && (strEq ((a0.Xd.getD i1 default).J0) ((a0.Xd.getD i1 default).J0) && ((((a0.Xd.getD i1 default).G9) == ((a0.Xd.getD i1 default).G9)) && ((((a0.Xd.getD i1 default).KR) == ((a0.Xd.getD i1 default).KR)) && true)))))))))) ha0 hi1
      · refine Yg (fun hb6 => ?_) (fun hb6 => ?_)
        · refine XE (We fun hg => (XT ((a0.Xd.getD i1 default).JP) 0 65535)) (fun r5 her5 => ?_)
          refine XE (We fun hg => (XT ((a0.Xd.getD i1 default).Jf) 0 65535)) (fun r6 her6 => ?_)
          exact VK a0 i1 ((((((((((a0.Xd.getD i1 default).JA) != 0) && (((a0.Xd.getD i1 default).QA) != 0)) && ((((a0.Xd.getD i1 default).YR) == 6) || (((a0.Xd.getD i1 default).YR) == 17))) && r5) && r6) && (strEq ((a0.Xd.getD i1 default).J0) (⟨#[]⟩ : ByteArray))) && (((a0.Xd.getD i1 default).G9) == 0)) && (((a0.Xd.getD i1 default).KR) == 0)) ha0 hi1
        · exact VK a0 i1 false ha0 hi1
  · unfold M.YV
    try simp only [Int.toNat_natCast]
    exact YF (decide_eq_false (by omega)) rfl
noncomputable def S.YW (a0 : Zf) : Int :=
  bif decide ((a0.Xd.length : Int) > 8) then 7 else (letS (runN (S.YV a0) (.inl ()) 0 a0.Xd.length) (fun y7 => Sum.elim (fun _ => 0) (fun y9 => y9) y7))
theorem Zam (a0 : Zf) (ha0 : Zn a0) : M.YW a0 = some (S.YW a0) := by
  have hM := Zv
  unfold M.YW S.YW
  refine WV (fun hb1 => ?_) (fun hb1 => ?_)
  · rfl
  · refine XR (KH a0 ha0 0) (fun y7 hey7 => ?_)
    refine JZ (fun _ hl => ?_) (fun y9 hly9 => ?_)
    · rfl
    · rfl
noncomputable def S.JB (a0 : Zf) (i1 : Nat) : Option (Unit ⊕ Int) :=
  letS (bif (!strEq ((a0.Zc.getD i1 default).VH) (⟨#[]⟩ : ByteArray)) then S.Wq a0 ((a0.Zc.getD i1 default).VH) else default) (fun r3 => letS (bif ((!((!strEq ((a0.Zc.getD i1 default).VH) (⟨#[]⟩ : ByteArray)) && (decide (r3 < 0)))) && (!strEq ((a0.Zc.getD i1 default).Y8) (⟨#[]⟩ : ByteArray))) then S.Wq a0 ((a0.Zc.getD i1 default).Y8) else default) (fun r4 => bif ((!strEq ((a0.Zc.getD i1 default).VH) (⟨#[]⟩ : ByteArray)) && (decide (r3 < 0))) || ((!strEq ((a0.Zc.getD i1 default).Y8) (⟨#[]⟩ : ByteArray)) && (decide (r4 < 0))) then (some (.inr 5)) else none))
theorem Zb1 (a0 : Zf) (ha0 : Zn a0) (i0 : Nat) : loopM (M.JB a0) (i0 : Int) = some (runN (S.JB a0) (.inl ()) i0 (a0.Zc.length - i0)) := by
  have hM := Zv
  have hni1 : a0.Zc.length ≤ maxLen := (Zn.Zc ha0).1
  refine Xz (n := a0.Zc.length) (fun i1 hi1 => ?_) (fun m hm => ?_) i0
  · unfold M.JB S.JB
    try simp only [Int.toNat_natCast]
    refine YE (dt (by omega)) ?_
    refine Je (ZO (dt (by omega)) (ZO (dt (by omega)) Yi)) ?_
    refine XE (We fun hg => (Za4 a0 ((a0.Zc.getD i1 default).VH) ha0 (Ye.VH (LL.getD (Zn.Zc ha0) Ye.dflt i1)))) (fun r3 her3 => ?_)
    refine XE (We fun hg => (Za4 a0 ((a0.Zc.getD i1 default).Y8) ha0 (Ye.Y8 (LL.getD (Zn.Zc ha0) Ye.dflt i1)))) (fun r4 her4 => ?_)
    refine Yg (fun hb1 => ?_) (fun hb1 => ?_)
    · exact X2
    · exact VQ (by omega)
  · unfold M.JB
    try simp only [Int.toNat_natCast]
    exact YF (decide_eq_false (by omega)) rfl
noncomputable def S.J5 (a0 : Zf) : Int :=
  letS (runN (S.JB a0) (.inl ()) 0 a0.Zc.length) (fun y5 => Sum.elim (fun _ => 0) (fun y7 => y7) y5)
theorem Zeh (a0 : Zf) (ha0 : Zn a0) : M.J5 a0 = some (S.J5 a0) := by
  have hM := Zv
  unfold M.J5 S.J5
  refine XR (Zb1 a0 ha0 0) (fun y5 hey5 => ?_)
  refine JZ (fun _ hl => ?_) (fun y7 hly7 => ?_)
  · rfl
  · rfl
noncomputable def S.JC (a0 : Zf) (a1 : Int) (i1 : Nat) : Option (Unit ⊕ Int) :=
  bif (((a0.Zc.getD i1 default).ZR) != 0) && (((a0.Zc.getD i1 default).Zs) == a1) then (some (.inr (i1 : Int))) else none
theorem Zb2 (a0 : Zf) (a1 : Int) (ha0 : Zn a0) (i0 : Nat) : loopM (M.JC a0 a1) (i0 : Int) = some (runN (S.JC a0 a1) (.inl ()) i0 (a0.Zc.length - i0)) := by
  have hM := Zv
  have hni1 : a0.Zc.length ≤ maxLen := (Zn.Zc ha0).1
  refine Xz (n := a0.Zc.length) (fun i1 hi1 => ?_) (fun m hm => ?_) i0
  · unfold M.JC S.JC
    try simp only [Int.toNat_natCast]
    refine YE (dt (by omega)) ?_
    refine Je (ZO (dt (by omega)) (ZO (dt (by omega)) (ZO (Qa fun hg => (dt (by first | omega | (simp; omega) | (simp at *; omega)))) (ZO (Qa fun hg => (dt (by first | omega | (simp; omega) | (simp at *; omega)))) Yi)))) ?_
    refine Yg (fun hb1 => ?_) (fun hb1 => ?_)
    · exact X2
    · exact VQ (by omega)
  · unfold M.JC
    try simp only [Int.toNat_natCast]
    exact YF (decide_eq_false (by omega)) rfl
noncomputable def S.QQ (a0 : Zf) (a1 : Int) : Int :=
  letS (runN (S.JC a0 a1) (.inl ()) 0 a0.Zc.length) (fun y3 => Sum.elim (fun _ => -1) (fun y5 => y5) y3)
theorem RQ (a0 : Zf) (a1 : Int) (ha0 : Zn a0) : M.QQ a0 a1 = some (S.QQ a0 a1) := by
  have hM := Zv
  unfold M.QQ S.QQ
  refine XR (Zb2 a0 a1 ha0 0) (fun y3 hey3 => ?_)
  refine JZ (fun _ hl => ?_) (fun y5 hly5 => ?_)
  · rfl
  · rfl
noncomputable def S.Qo (a0 : Zf) (a1 : ByteArray) (i1 : Nat) : Option (Unit ⊕ Int) :=
  bif strEq ((a0.Zc.getD i1 default).Xl) a1 then (some (.inr (i1 : Int))) else none
theorem Zan (a0 : Zf) (a1 : ByteArray) (ha0 : Zn a0) (ha1 : a1.size ≤ maxLen) (i0 : Nat) : loopM (M.Qo a0 a1) (i0 : Int) = some (runN (S.Qo a0 a1) (.inl ()) i0 (a0.Zc.length - i0)) := by
  have hM := Zv
  have hni1 : a0.Zc.length ≤ maxLen := (Zn.Zc ha0).1
  refine Xz (n := a0.Zc.length) (fun i1 hi1 => ?_) (fun m hm => ?_) i0
  · unfold M.Qo S.Qo
    try simp only [Int.toNat_natCast]
    refine YE (dt (by omega)) ?_
    refine Je (ZO (dt (by omega)) (ZO (dt (by omega)) Yi)) ?_
    refine Yg (fun hb1 => ?_) (fun hb1 => ?_)
    · exact X2
    · exact VQ (by omega)
  · unfold M.Qo
    try simp only [Int.toNat_natCast]
    exact YF (decide_eq_false (by omega)) rfl
noncomputable def S.Q1 (a0 : Zf) (a1 : ByteArray) : Int :=
  letS (runN (S.Qo a0 a1) (.inl ()) 0 a0.Zc.length) (fun y3 => Sum.elim (fun _ => -1) (fun y5 => y5) y3)
theorem ZcB (a0 : Zf) (a1 : ByteArray) (ha0 : Zn a0) (ha1 : a1.size ≤ maxLen) : M.Q1 a0 a1 = some (S.Q1 a0 a1) := by
  have hM := Zv
  unfold M.Q1 S.Q1
  refine XR (Zan a0 a1 ha0 ha1 0) (fun y3 hey3 => ?_)
  refine JZ (fun _ hl => ?_) (fun y5 hly5 => ?_)
  · rfl
  · rfl
theorem Za5 (a0 : Zf) (a1 : ByteArray) : S.Q1 a0 a1 < (a0.Zc.length : Int) := by
  unfold S.Q1
  simp only [letS]
  exact ZkQ (fun i => by unfold S.Qo; cases strEq (a0.Zc.getD i default).Xl a1 <;> simp) _
noncomputable def S.JD (a0 : Zf) (i1 : Nat) (i11 : Nat) : Option (Unit ⊕ Int) :=
  bif (((((a0.Zq.getD i11 default).Zo).Zs) == (((a0.Zq.getD i1 default).Zo).Zs)) && (((((a0.Zq.getD i11 default).Zo).ZR) == (((a0.Zq.getD i1 default).Zo).ZR)) && true)) && (((a0.Zq.getD i11 default).Xq) == ((a0.Zq.getD i1 default).Xq)) then (some (.inr 6)) else none
theorem Zb3 (a0 : Zf) (i1 : Nat) (ha0 : Zn a0) (hi1 : i1 < a0.Zq.length) (i0 : Nat) : loopM (M.JD a0 (i1 : Int)) (i0 : Int) = some (runN (S.JD a0 i1) (.inl ()) i0 (i1 - i0)) := by
  have hM := Zv
  have hni1 : a0.Zq.length ≤ maxLen := (Zn.Zq ha0).1
  have hni11 : i1 ≤ maxLen := (by omega)
  refine Xz (n := i1) (fun i11 hi11 => ?_) (fun m hm => ?_) i0
  · unfold M.JD S.JD
    try simp only [Int.toNat_natCast]
    refine YE (dt (by omega)) ?_
    refine Je (ZO (dt (by omega)) (ZO (dt (by omega)) (ZO (Qa fun hg => (dt (by first | omega | (simp; omega) | (simp at *; omega)))) (ZO (Qa fun hg => (dt (by first | omega | (simp; omega) | (simp at *; omega)))) Yi)))) ?_
    refine Yg (fun hb9 => ?_) (fun hb9 => ?_)
    · exact X2
    · exact VQ (by omega)
  · unfold M.JD
    try simp only [Int.toNat_natCast]
    exact YF (decide_eq_false (by omega)) rfl
noncomputable def S.QC (a0 : Zf) (i1 : Nat) (_p10 : Unit) : Option (Unit ⊕ Int) :=
  letS (runN (S.JD a0 i1) (.inl ()) 0 i1) (fun y13 => Sum.elim (fun _ => none) (fun y15 => some (.inr y15)) y13)
theorem GM (a0 : Zf) (i1 : Nat) (_p10 : Unit) (ha0 : Zn a0) (hi1 : i1 < a0.Zq.length) : M.QC a0 (i1 : Int) _p10 = some (rdN (S.QC a0 i1 _p10) i1) := by
  have hM := Zv
  have hni1 : a0.Zq.length ≤ maxLen := (Zn.Zq ha0).1
  unfold M.QC S.QC
  try simp only [Int.toNat_natCast]
  refine XE (Zb3 a0 i1 ha0 hi1 0) (fun y13 hey13 => ?_)
  refine V0 (fun _ hl => ?_) (fun y15 hly15 => ?_)
  · exact VQ (by omega)
  · exact X2
noncomputable def S.QD (a0 : Zf) (i1 : Nat) (p5 : Int) : Option (Unit ⊕ Int) :=
  letS (S.Y9 ((a0.Zq.getD i1 default).Zo)) (fun r6 => letS (bif ((!((!r6) || (p5 != 1))) && (((a0.Zq.getD i1 default).UH) != 0)) then S.QQ a0 ((a0.Zq.getD i1 default).UH) else default) (fun r7 => letS (bif (!(((!r6) || (p5 != 1)) || ((((a0.Zq.getD i1 default).UH) != 0) && (decide (r7 ≥ 0))))) then S.ZT ((a0.Zq.getD i1 default).Xq) 1 255 else default) (fun r8 => letS (bif (!((((!r6) || (p5 != 1)) || ((((a0.Zq.getD i1 default).UH) != 0) && (decide (r7 ≥ 0)))) || (!r8))) then S.ZT ((a0.Zq.getD i1 default).Ks) 0 65535 else default) (fun r9 => bif ((((!r6) || (p5 != 1)) || ((((a0.Zq.getD i1 default).UH) != 0) && (decide (r7 ≥ 0)))) || (!r8)) || (!r9) then (some (.inr 1)) else (bif !strEq ((a0.Zq.getD i1 default).XY) (⟨#[]⟩ : ByteArray) then (letS (S.Q1 a0 ((a0.Zq.getD i1 default).XY)) (fun r16 => bif decide (r16 < 0) then (some (.inr 5)) else (bif ((a0.Zc.getD r16.toNat default).ZR) == 0 then (some (.inr 1)) else (S.QC a0 i1 ())))) else (S.QC a0 i1 ()))))))
theorem GN (a0 : Zf) (i1 : Nat) (p5 : Int) (ha0 : Zn a0) (hi1 : i1 < a0.Zq.length) : M.QD a0 (i1 : Int) p5 = some (rdN (S.QD a0 i1 p5) i1) := by
  have hM := Zv
  have hni1 : a0.Zq.length ≤ maxLen := (Zn.Zq ha0).1
  unfold M.QD S.QD
  try simp only [Int.toNat_natCast]
  refine XE (WR ((a0.Zq.getD i1 default).Zo)) (fun r6 her6 => ?_)
  refine XE (We fun hg => (RQ a0 ((a0.Zq.getD i1 default).UH) ha0)) (fun r7 her7 => ?_)
  refine XE (We fun hg => (XT ((a0.Zq.getD i1 default).Xq) 1 255)) (fun r8 her8 => ?_)
  refine XE (We fun hg => (XT ((a0.Zq.getD i1 default).Ks) 0 65535)) (fun r9 her9 => ?_)
  refine Yg (fun hb5 => ?_) (fun hb5 => ?_)
  · exact X2
  · refine Yg (fun hb6 => ?_) (fun hb6 => ?_)
    · refine XE (ZcB a0 ((a0.Zq.getD i1 default).XY) ha0 (Vb.XY (LL.getD (Zn.Zq ha0) Vb.dflt i1))) (fun r16 her16 => ?_)
      have hrr16 := Za5 a0 ((a0.Zq.getD i1 default).XY)
      refine Yg (fun hb7 => ?_) (fun hb7 => ?_)
      · exact X2
      · refine Je (ZO (dt (by first | omega | (simp; omega) | (simp at *; omega))) (ZO (dt (by first | omega | (simp; omega) | (simp at *; omega))) Yi)) ?_
        refine Yg (fun hb8 => ?_) (fun hb8 => ?_)
        · exact X2
        · exact GM a0 i1 () ha0 hi1
    · exact GM a0 i1 () ha0 hi1
noncomputable def S.QE (a0 : Zf) (i1 : Nat) (p4 : Int) : Option (Unit ⊕ Int) :=
  bif (a0.Zq.getD i1 default).Zd6 then (S.QD a0 i1 (wr .i64 (p4 + 1))) else (S.QD a0 i1 p4)
theorem GO (a0 : Zf) (i1 : Nat) (p4 : Int) (ha0 : Zn a0) (hi1 : i1 < a0.Zq.length) : M.QE a0 (i1 : Int) p4 = some (rdN (S.QE a0 i1 p4) i1) := by
  have hM := Zv
  have hni1 : a0.Zq.length ≤ maxLen := (Zn.Zq ha0).1
  unfold M.QE S.QE
  try simp only [Int.toNat_natCast]
  refine Yg (fun hb4 => ?_) (fun hb4 => ?_)
  · exact GN a0 i1 (wr .i64 (p4 + 1)) ha0 hi1
  · exact GN a0 i1 p4 ha0 hi1
noncomputable def S.QF (a0 : Zf) (i1 : Nat) (p3 : Int) : Option (Unit ⊕ Int) :=
  bif !strEq ((a0.Zq.getD i1 default).XY) (⟨#[]⟩ : ByteArray) then (S.QE a0 i1 (wr .i64 (p3 + 1))) else (S.QE a0 i1 p3)
theorem GP (a0 : Zf) (i1 : Nat) (p3 : Int) (ha0 : Zn a0) (hi1 : i1 < a0.Zq.length) : M.QF a0 (i1 : Int) p3 = some (rdN (S.QF a0 i1 p3) i1) := by
  have hM := Zv
  have hni1 : a0.Zq.length ≤ maxLen := (Zn.Zq ha0).1
  unfold M.QF S.QF
  try simp only [Int.toNat_natCast]
  refine Yg (fun hb3 => ?_) (fun hb3 => ?_)
  · exact GO a0 i1 (wr .i64 (p3 + 1)) ha0 hi1
  · exact GO a0 i1 p3 ha0 hi1
noncomputable def S.JE (a0 : Zf) (i1 : Nat) : Option (Unit ⊕ Int) :=
  bif ((a0.Zq.getD i1 default).UH) != 0 then (S.QF a0 i1 1) else (S.QF a0 i1 0)
theorem Zb4 (a0 : Zf) (ha0 : Zn a0) (i0 : Nat) : loopM (M.JE a0) (i0 : Int) = some (runN (S.JE a0) (.inl ()) i0 (a0.Zq.length - i0)) := by
  have hM := Zv
  have hni1 : a0.Zq.length ≤ maxLen := (Zn.Zq ha0).1
  refine Xz (n := a0.Zq.length) (fun i1 hi1 => ?_) (fun m hm => ?_) i0
  · unfold M.JE S.JE
    try simp only [Int.toNat_natCast]
    refine YE (dt (by omega)) ?_
    refine Je (ZO (dt (by omega)) (ZO (dt (by omega)) Yi)) ?_
    refine Yg (fun hb2 => ?_) (fun hb2 => ?_)
    · exact GP a0 i1 1 ha0 hi1
    · exact GP a0 i1 0 ha0 hi1
  · unfold M.JE
    try simp only [Int.toNat_natCast]
    exact YF (decide_eq_false (by omega)) rfl
noncomputable def S.J6 (a0 : Zf) : Int :=
  bif decide ((a0.Zq.length : Int) > 16) then 7 else (letS (runN (S.JE a0) (.inl ()) 0 a0.Zq.length) (fun y17 => Sum.elim (fun _ => 0) (fun y19 => y19) y17))
theorem Zei (a0 : Zf) (ha0 : Zn a0) : M.J6 a0 = some (S.J6 a0) := by
  have hM := Zv
  unfold M.J6 S.J6
  refine WV (fun hb1 => ?_) (fun hb1 => ?_)
  · rfl
  · refine XR (Zb4 a0 ha0 0) (fun y17 hey17 => ?_)
    refine JZ (fun _ hl => ?_) (fun y19 hly19 => ?_)
    · rfl
    · rfl
noncomputable def S.Jh (a0 : Zf) (a1 : ByteArray) (i1 : Nat) : Option (Unit ⊕ Int) :=
  bif strEq ((a0.XC.getD i1 default).Xl) a1 then (some (.inr (i1 : Int))) else none
theorem Za6 (a0 : Zf) (a1 : ByteArray) (ha0 : Zn a0) (ha1 : a1.size ≤ maxLen) (i0 : Nat) : loopM (M.Jh a0 a1) (i0 : Int) = some (runN (S.Jh a0 a1) (.inl ()) i0 (a0.XC.length - i0)) := by
  have hM := Zv
  have hni1 : a0.XC.length ≤ maxLen := (Zn.XC ha0).1
  refine Xz (n := a0.XC.length) (fun i1 hi1 => ?_) (fun m hm => ?_) i0
  · unfold M.Jh S.Jh
    try simp only [Int.toNat_natCast]
    refine YE (dt (by omega)) ?_
    refine Je (ZO (dt (by omega)) (ZO (dt (by omega)) Yi)) ?_
    refine Yg (fun hb1 => ?_) (fun hb1 => ?_)
    · exact X2
    · exact VQ (by omega)
  · unfold M.Jh
    try simp only [Int.toNat_natCast]
    exact YF (decide_eq_false (by omega)) rfl
noncomputable def S.QI (a0 : Zf) (a1 : ByteArray) : Int :=
  letS (runN (S.Jh a0 a1) (.inl ()) 0 a0.XC.length) (fun y3 => Sum.elim (fun _ => -1) (fun y5 => y5) y3)
theorem Gb (a0 : Zf) (a1 : ByteArray) (ha0 : Zn a0) (ha1 : a1.size ≤ maxLen) : M.QI a0 a1 = some (S.QI a0 a1) := by
  have hM := Zv
  unfold M.QI S.QI
  refine XR (Za6 a0 a1 ha0 ha1 0) (fun y3 hey3 => ?_)
  refine JZ (fun _ hl => ?_) (fun y5 hly5 => ?_)
  · rfl
  · rfl
noncomputable def S.Yj (a1 : List YJ) (i1 : Nat) (i7 : Nat) : Option (Unit ⊕ Int) :=
  bif ((a1.getD i7 default).Gn) == ((a1.getD i1 default).Gn) then (some (.inr 4)) else none
theorem GC (a1 : List YJ) (i1 : Nat) (ha1 : LL Vc a1) (hi1 : i1 < a1.length) (i0 : Nat) : loopM (M.Yj a1 (i1 : Int)) (i0 : Int) = some (runN (S.Yj a1 i1) (.inl ()) i0 (i1 - i0)) := by
  have hM := Zv
  have hni1 : a1.length ≤ maxLen := ha1.1
  have hni7 : i1 ≤ maxLen := (by omega)
  refine Xz (n := i1) (fun i7 hi7 => ?_) (fun m hm => ?_) i0
  · unfold M.Yj S.Yj
    try simp only [Int.toNat_natCast]
    refine YE (dt (by omega)) ?_
    refine Je (ZO (dt (by omega)) (ZO (dt (by omega)) Yi)) ?_
    refine Yg (fun hb5 => ?_) (fun hb5 => ?_)
    · exact X2
    · exact VQ (by omega)
  · unfold M.Yj
    try simp only [Int.toNat_natCast]
    exact YF (decide_eq_false (by omega)) rfl
noncomputable def S.Yk (a0 : Zf) (a1 : List YJ) (a2 : Int) (a3 : Int) (a4 : Int) (i1 : Nat) : Option (Unit ⊕ Int) :=
  letS (S.ZT ((a1.getD i1 default).Gn) 1 5) (fun r3 => letS (bif (!((!r3) || (((a1.getD i1 default).Gn) == a2))) then S.ZT ((a1.getD i1 default).ZbC) a3 a4 else default) (fun r4 => letS (bif (!(((!r3) || (((a1.getD i1 default).Gn) == a2)) || (!r4))) then S.ZT ((a1.getD i1 default).Ks) 0 65535 else default) (fun r5 => bif (((!r3) || (((a1.getD i1 default).Gn) == a2)) || (!r4)) || (!r5) then (some (.inr 1)) else (bif (((a2 == 3) && (((a1.getD i1 default).ZcO) != 1)) && (((a1.getD i1 default).ZcO) != 2)) || ((a2 != 3) && (((a1.getD i1 default).ZcO) != 0)) then (some (.inr 1)) else (letS (bif (!strEq ((a1.getD i1 default).Zcj) (⟨#[]⟩ : ByteArray)) then S.QI a0 ((a1.getD i1 default).Zcj) else default) (fun r6 => bif (!strEq ((a1.getD i1 default).Zcj) (⟨#[]⟩ : ByteArray)) && (decide (r6 < 0)) then (some (.inr 5)) else (letS (runN (S.Yj a1 i1) (.inl ()) 0 i1) (fun y9 => Sum.elim (fun _ => none) (fun y11 => some (.inr y11)) y9))))))))
theorem GD (a0 : Zf) (a1 : List YJ) (a2 : Int) (a3 : Int) (a4 : Int) (ha0 : Zn a0) (ha1 : LL Vc a1) (i0 : Nat) : loopM (M.Yk a0 a1 a2 a3 a4) (i0 : Int) = some (runN (S.Yk a0 a1 a2 a3 a4) (.inl ()) i0 (a1.length - i0)) := by
  have hM := Zv
  have hni1 : a1.length ≤ maxLen := ha1.1
  refine Xz (n := a1.length) (fun i1 hi1 => ?_) (fun m hm => ?_) i0
  · unfold M.Yk S.Yk
    try simp only [Int.toNat_natCast]
    refine YE (dt (by omega)) ?_
    refine Je (ZO (dt (by omega)) (ZO (dt (by omega)) Yi)) ?_
    refine XE (XT ((a1.getD i1 default).Gn) 1 5) (fun r3 her3 => ?_)
    refine XE (We fun hg => (XT ((a1.getD i1 default).ZbC) a3 a4)) (fun r4 her4 => ?_)
    refine XE (We fun hg => (XT ((a1.getD i1 default).Ks) 0 65535)) (fun r5 her5 => ?_)
    refine Yg (fun hb2 => ?_) (fun hb2 => ?_)
    · exact X2
    · refine Yg (fun hb3 => ?_) (fun hb3 => ?_)
      · exact X2
      · refine XE (We fun hg => (Gb a0 ((a1.getD i1 default).Zcj) ha0 (Vc.Zcj (LL.getD ha1 Vc.dflt i1)))) (fun r6 her6 => ?_)
        refine Yg (fun hb4 => ?_) (fun hb4 => ?_)
        · exact X2
        · refine XE (GC a1 i1 ha1 hi1 0) (fun y9 hey9 => ?_)
          refine V0 (fun _ hl => ?_) (fun y11 hly11 => ?_)
          · exact VQ (by omega)
          · exact X2
  · unfold M.Yk
    try simp only [Int.toNat_natCast]
    exact YF (decide_eq_false (by omega)) rfl
noncomputable def S.X1 (a0 : Zf) (a1 : List YJ) (a2 : Int) (a3 : Int) (a4 : Int) : Int :=
  bif decide ((a1.length : Int) > 4) then 7 else (letS (runN (S.Yk a0 a1 a2 a3 a4) (.inl ()) 0 a1.length) (fun y12 => Sum.elim (fun _ => 0) (fun y14 => y14) y12))
theorem WS (a0 : Zf) (a1 : List YJ) (a2 : Int) (a3 : Int) (a4 : Int) (ha0 : Zn a0) (ha1 : LL Vc a1) : M.X1 a0 a1 a2 a3 a4 = some (S.X1 a0 a1 a2 a3 a4) := by
  have hM := Zv
  unfold M.X1 S.X1
  refine WV (fun hb1 => ?_) (fun hb1 => ?_)
  · rfl
  · refine XR (GD a0 a1 a2 a3 a4 ha0 ha1 0) (fun y12 hey12 => ?_)
    refine JZ (fun _ hl => ?_) (fun y14 hly14 => ?_)
    · rfl
    · rfl
noncomputable def S.QR (a0 : Zf) (i2 : Nat) (i6 : Nat) : Option (Unit ⊕ Int) :=
  letS (bif (((a0.Yf.Z6.getD i6 default).VR) == ((a0.Yf.Z6.getD i2 default).VR)) then S.Qn ((a0.Yf.Z6.getD i6 default).Zo) ((a0.Yf.Z6.getD i2 default).Zo) else default) (fun r8 => bif (((a0.Yf.Z6.getD i6 default).VR) == ((a0.Yf.Z6.getD i2 default).VR)) && r8 then (some (.inr 6)) else none)
theorem Zao (a0 : Zf) (i2 : Nat) (ha0 : Zn a0) (hi2 : i2 < a0.Yf.Z6.length) (i0 : Nat) : loopM (M.QR a0 (i2 : Int)) (i0 : Int) = some (runN (S.QR a0 i2) (.inl ()) i0 (i2 - i0)) := by
  have hM := Zv
  have hni2 : a0.Yf.Z6.length ≤ maxLen := (Jp.Z6 (Zn.Yf ha0))
  have hni6 : i2 ≤ maxLen := (by omega)
  refine Xz (n := i2) (fun i6 hi6 => ?_) (fun m hm => ?_) i0
  · unfold M.QR S.QR
    try simp only [Int.toNat_natCast]
    refine YE (dt (by omega)) ?_
    refine XE (We fun hg => (KQ ((a0.Yf.Z6.getD i6 default).Zo) ((a0.Yf.Z6.getD i2 default).Zo))) (fun r8 her8 => ?_)
    refine Je (ZO (dt (by omega)) (ZO (dt (by omega)) (ZO (dt (by omega)) (ZO (dt (by omega)) (ZO (Qa fun hg => (dt (by first | omega | (simp; omega) | (simp at *; omega)))) (ZO (Qa fun hg => (dt (by first | omega | (simp; omega) | (simp at *; omega)))) (ZO (Qa fun hg => (dt (by first | omega | (simp; omega) | (simp at *; omega)))) (ZO (Qa fun hg => (dt (by first | omega | (simp; omega) | (simp at *; omega)))) Yi)))))))) ?_
    refine Yg (fun hb6 => ?_) (fun hb6 => ?_)
    · exact X2
    · exact VQ (by omega)
  · unfold M.QR
    try simp only [Int.toNat_natCast]
    exact YF (decide_eq_false (by omega)) rfl
noncomputable def S.QS (a0 : Zf) (i2 : Nat) : Option (Unit ⊕ Int) :=
  letS (S.ZT ((a0.Yf.Z6.getD i2 default).VR) 0 255) (fun r4 => letS (bif (!(!r4)) then S.Y9 ((a0.Yf.Z6.getD i2 default).Zo) else default) (fun r5 => bif (!r4) || (!r5) then (some (.inr 1)) else (letS (runN (S.QR a0 i2) (.inl ()) 0 i2) (fun y9 => Sum.elim (fun _ => none) (fun y11 => some (.inr y11)) y9))))
theorem Zap (a0 : Zf) (ha0 : Zn a0) (i0 : Nat) : loopM (M.QS a0) (i0 : Int) = some (runN (S.QS a0) (.inl ()) i0 (a0.Yf.Z6.length - i0)) := by
  have hM := Zv
  have hni2 : a0.Yf.Z6.length ≤ maxLen := (Jp.Z6 (Zn.Yf ha0))
  refine Xz (n := a0.Yf.Z6.length) (fun i2 hi2 => ?_) (fun m hm => ?_) i0
  · unfold M.QS S.QS
    try simp only [Int.toNat_natCast]
    refine YE (dt (by omega)) ?_
    refine XE (XT ((a0.Yf.Z6.getD i2 default).VR) 0 255) (fun r4 her4 => ?_)
    refine XE (We fun hg => (WR ((a0.Yf.Z6.getD i2 default).Zo))) (fun r5 her5 => ?_)
    refine Je (ZO (dt (by omega)) (ZO (dt (by omega)) (ZO (Qa fun hg => (dt (by first | omega | (simp; omega) | (simp at *; omega)))) (ZO (Qa fun hg => (dt (by first | omega | (simp; omega) | (simp at *; omega)))) Yi)))) ?_
    refine Yg (fun hb5 => ?_) (fun hb5 => ?_)
    · exact X2
    · refine XE (Zao a0 i2 ha0 hi2 0) (fun y9 hey9 => ?_)
      refine V0 (fun _ hl => ?_) (fun y11 hly11 => ?_)
      · exact VQ (by omega)
      · exact X2
  · unfold M.QS
    try simp only [Int.toNat_natCast]
    exact YF (decide_eq_false (by omega)) rfl
noncomputable def S.Q2 (a0 : Zf) : Int :=
  bif !a0.Yf.Vr then (bif ((a0.Yf.Xq != 0) || (decide ((a0.Yf.Z6.length : Int) > 0))) || (decide ((a0.Yf.Zr.length : Int) > 0)) then 1 else 0) else (letS (S.ZT a0.Yf.Xq 1 255) (fun r1 => bif !r1 then 1 else (bif decide ((a0.Yf.Z6.length : Int) > 4) then 7 else (letS (runN (S.QS a0) (.inl ()) 0 a0.Yf.Z6.length) (fun y12 => Sum.elim (fun _ => letS (S.X1 a0 a0.Yf.Zr 3 0 16777215) (fun r15 => r15)) (fun y14 => y14) y12)))))
theorem ZcC (a0 : Zf) (ha0 : Zn a0) : M.Q2 a0 = some (S.Q2 a0) := by
  have hM := Zv
  unfold M.Q2 S.Q2
  refine WV (fun hb1 => ?_) (fun hb1 => ?_)
  · refine WV (fun hb2 => ?_) (fun hb2 => ?_)
    · rfl
    · rfl
  · refine XR (XT a0.Yf.Xq 1 255) (fun r1 her1 => ?_)
    refine WV (fun hb3 => ?_) (fun hb3 => ?_)
    · rfl
    · refine WV (fun hb4 => ?_) (fun hb4 => ?_)
      · rfl
      · refine XR (Zap a0 ha0 0) (fun y12 hey12 => ?_)
        refine JZ (fun _ hl => ?_) (fun y14 hly14 => ?_)
        · refine XR (WS a0 a0.Yf.Zr 3 0 16777215 ha0 (Jp.Zr (Zn.Yf ha0))) (fun r15 her15 => ?_)
          rfl
        · rfl
noncomputable def S.Jv (a0 : Zf) : Int :=
  bif !a0.Ym.Vr then (bif (((a0.Ym.Xq != 0) || (!strEq a0.Ym.VH (⟨#[]⟩ : ByteArray))) || (!strEq a0.Ym.Y8 (⟨#[]⟩ : ByteArray))) || (decide ((a0.Ym.Zr.length : Int) > 0)) then 1 else 0) else (letS (S.ZT a0.Ym.Xq 1 255) (fun r1 => bif !r1 then 1 else (letS (bif (!strEq a0.Ym.VH (⟨#[]⟩ : ByteArray)) then S.YO a0 a0.Ym.VH else default) (fun r2 => letS (bif ((!((!strEq a0.Ym.VH (⟨#[]⟩ : ByteArray)) && (decide (r2 < 0)))) && (!strEq a0.Ym.Y8 (⟨#[]⟩ : ByteArray))) then S.YO a0 a0.Ym.Y8 else default) (fun r3 => bif ((!strEq a0.Ym.VH (⟨#[]⟩ : ByteArray)) && (decide (r2 < 0))) || ((!strEq a0.Ym.Y8 (⟨#[]⟩ : ByteArray)) && (decide (r3 < 0))) then 5 else (letS (S.X1 a0 a0.Ym.Zr 4 1 15) (fun r4 => r4)))))))
theorem Zc9 (a0 : Zf) (ha0 : Zn a0) : M.Jv a0 = some (S.Jv a0) := by
  have hM := Zv
  unfold M.Jv S.Jv
  refine WV (fun hb1 => ?_) (fun hb1 => ?_)
  · refine WV (fun hb2 => ?_) (fun hb2 => ?_)
    · rfl
    · rfl
  · refine XR (XT a0.Ym.Xq 1 255) (fun r1 her1 => ?_)
    refine WV (fun hb3 => ?_) (fun hb3 => ?_)
    · rfl
    · refine XR (We fun hg => (UN a0 a0.Ym.VH ha0 (X5.VH (Zn.Ym ha0)))) (fun r2 her2 => ?_)
      refine XR (We fun hg => (UN a0 a0.Ym.Y8 ha0 (X5.Y8 (Zn.Ym ha0)))) (fun r3 her3 => ?_)
      refine WV (fun hb4 => ?_) (fun hb4 => ?_)
      · rfl
      · refine XR (WS a0 a0.Ym.Zr 4 1 15 ha0 (X5.Zr (Zn.Ym ha0))) (fun r4 her4 => ?_)
        rfl
noncomputable def S.QT (a0 : Zf) (i1 : Nat) (i6 : Nat) : Option (Unit ⊕ Int) :=
  bif ((a0.Xr.Zm.getD i6 default).Zs) == ((a0.Xr.Zm.getD i1 default).Zs) then (some (.inr 4)) else none
theorem Zaq (a0 : Zf) (i1 : Nat) (ha0 : Zn a0) (hi1 : i1 < a0.Xr.Zm.length) (i0 : Nat) : loopM (M.QT a0 (i1 : Int)) (i0 : Int) = some (runN (S.QT a0 i1) (.inl ()) i0 (i1 - i0)) := by
  have hM := Zv
  have hni1 : a0.Xr.Zm.length ≤ maxLen := (Xk.Zm (Zn.Xr ha0)).1
  have hni6 : i1 ≤ maxLen := (by omega)
  refine Xz (n := i1) (fun i6 hi6 => ?_) (fun m hm => ?_) i0
  · unfold M.QT S.QT
    try simp only [Int.toNat_natCast]
    refine YE (dt (by omega)) ?_
    refine Je (ZO (dt (by omega)) (ZO (dt (by omega)) (ZO (dt (by omega)) (ZO (dt (by omega)) Yi)))) ?_
    refine Yg (fun hb4 => ?_) (fun hb4 => ?_)
    · exact X2
    · exact VQ (by omega)
  · unfold M.QT
    try simp only [Int.toNat_natCast]
    exact YF (decide_eq_false (by omega)) rfl
noncomputable def S.QU (a0 : Zf) (i1 : Nat) : Option (Unit ⊕ Int) :=
  letS (bif (!(((a0.Xr.Zm.getD i1 default).Zs) == 0)) then S.ZT ((a0.Xr.Zm.getD i1 default).Gf) 1 65535 else default) (fun r3 => bif (((a0.Xr.Zm.getD i1 default).Zs) == 0) || (!r3) then (some (.inr 1)) else (letS (bif (!strEq ((a0.Xr.Zm.getD i1 default).VH) (⟨#[]⟩ : ByteArray)) then S.QI a0 ((a0.Xr.Zm.getD i1 default).VH) else default) (fun r4 => letS (bif ((!((!strEq ((a0.Xr.Zm.getD i1 default).VH) (⟨#[]⟩ : ByteArray)) && (decide (r4 < 0)))) && (!strEq ((a0.Xr.Zm.getD i1 default).Y8) (⟨#[]⟩ : ByteArray))) then S.QI a0 ((a0.Xr.Zm.getD i1 default).Y8) else default) (fun r5 => bif ((!strEq ((a0.Xr.Zm.getD i1 default).VH) (⟨#[]⟩ : ByteArray)) && (decide (r4 < 0))) || ((!strEq ((a0.Xr.Zm.getD i1 default).Y8) (⟨#[]⟩ : ByteArray)) && (decide (r5 < 0))) then (some (.inr 5)) else (letS (runN (S.QT a0 i1) (.inl ()) 0 i1) (fun y8 => Sum.elim (fun _ => none) (fun y10 => some (.inr y10)) y8))))))
theorem Zar (a0 : Zf) (ha0 : Zn a0) (i0 : Nat) : loopM (M.QU a0) (i0 : Int) = some (runN (S.QU a0) (.inl ()) i0 (a0.Xr.Zm.length - i0)) := by
  have hM := Zv
  have hni1 : a0.Xr.Zm.length ≤ maxLen := (Xk.Zm (Zn.Xr ha0)).1
  refine Xz (n := a0.Xr.Zm.length) (fun i1 hi1 => ?_) (fun m hm => ?_) i0
  · unfold M.QU S.QU
    try simp only [Int.toNat_natCast]
    refine YE (dt (by omega)) ?_
    refine XE (We fun hg => (XT ((a0.Xr.Zm.getD i1 default).Gf) 1 65535)) (fun r3 her3 => ?_)
    refine Je (ZO (dt (by omega)) (ZO (dt (by omega)) (ZO (Qa fun hg => (dt (by first | omega | (simp; omega) | (simp at *; omega)))) (ZO (Qa fun hg => (dt (by first | omega | (simp; omega) | (simp at *; omega)))) Yi)))) ?_
    refine Yg (fun hb2 => ?_) (fun hb2 => ?_)
    · exact X2
    · refine XE (We fun hg => (Gb a0 ((a0.Xr.Zm.getD i1 default).VH) ha0 (JU.VH (LL.getD (Xk.Zm (Zn.Xr ha0)) JU.dflt i1)))) (fun r4 her4 => ?_)
      refine XE (We fun hg => (Gb a0 ((a0.Xr.Zm.getD i1 default).Y8) ha0 (JU.Y8 (LL.getD (Xk.Zm (Zn.Xr ha0)) JU.dflt i1)))) (fun r5 her5 => ?_)
      refine Je (ZO (dt (by omega)) (ZO (dt (by omega)) (ZO (Qa fun hg => (dt (by first | omega | (simp; omega) | (simp at *; omega)))) (ZO (Qa fun hg => (dt (by first | omega | (simp; omega) | (simp at *; omega)))) (ZO (Qa fun hg => (dt (by first | omega | (simp; omega) | (simp at *; omega)))) (ZO (Qa fun hg => (dt (by first | omega | (simp; omega) | (simp at *; omega)))) (ZO (Qa fun hg => (dt (by first | omega | (simp; omega) | (simp at *; omega)))) (ZO (Qa fun hg => (dt (by first | omega | (simp; omega) | (simp at *; omega)))) Yi)))))))) ?_
      refine Yg (fun hb3 => ?_) (fun hb3 => ?_)
      · exact X2
      · refine XE (Zaq a0 i1 ha0 hi1 0) (fun y8 hey8 => ?_)
        refine V0 (fun _ hl => ?_) (fun y10 hly10 => ?_)
        · exact VQ (by omega)
        · exact X2
  · unfold M.QU
    try simp only [Int.toNat_natCast]
    exact YF (decide_eq_false (by omega)) rfl
noncomputable def S.J7 (a0 : Zf) : Int :=
  bif decide ((a0.Xr.Zm.length : Int) > 8) then 7 else (letS (runN (S.QU a0) (.inl ()) 0 a0.Xr.Zm.length) (fun y11 => Sum.elim (fun _ => 0) (fun y13 => y13) y11))
theorem ZcD (a0 : Zf) (ha0 : Zn a0) : M.J7 a0 = some (S.J7 a0) := by
  have hM := Zv
  unfold M.J7 S.J7
  refine WV (fun hb1 => ?_) (fun hb1 => ?_)
  · rfl
  · refine XR (Zar a0 ha0 0) (fun y11 hey11 => ?_)
    refine JZ (fun _ hl => ?_) (fun y13 hly13 => ?_)
    · rfl
    · rfl
noncomputable def S.YX (a0 : Xw) (i1 : Nat) (i4 : Nat) : Option (Unit ⊕ Int) :=
  bif ((((a0.Z0.getD i4 default).Zs) == ((a0.Z0.getD i1 default).Zs)) && ((((a0.Z0.getD i4 default).ZR) == ((a0.Z0.getD i1 default).ZR)) && true)) then (some (.inr 4)) else none
theorem KI (a0 : Xw) (i1 : Nat) (ha0 : Xk a0) (hi1 : i1 < a0.Z0.length) (i0 : Nat) : loopM (M.YX a0 (i1 : Int)) (i0 : Int) = some (runN (S.YX a0 i1) (.inl ()) i0 (i1 - i0)) := by
  have hM := Zv
  have hni1 : a0.Z0.length ≤ maxLen := (Xk.Z0 ha0)
  have hni4 : i1 ≤ maxLen := (by omega)
  refine Xz (n := i1) (fun i4 hi4 => ?_) (fun m hm => ?_) i0
  · unfold M.YX S.YX
    try simp only [Int.toNat_natCast]
    refine YE (dt (by omega)) ?_
    refine Je (ZO (dt (by omega)) (ZO (dt (by omega)) (ZO (dt (by omega)) (ZO (dt (by omega)) Yi)))) ?_
    refine Yg (fun hb3 => ?_) (fun hb3 => ?_)
    · exact X2
    · exact VQ (by omega)
  · unfold M.YX
    try simp only [Int.toNat_natCast]
    exact YF (decide_eq_false (by omega)) rfl
noncomputable def S.YY (a0 : Xw) (i1 : Nat) : Option (Unit ⊕ Int) :=
  letS (S.Y9 (a0.Z0.getD i1 default)) (fun r3 => bif !r3 then (some (.inr 1)) else (letS (runN (S.YX a0 i1) (.inl ()) 0 i1) (fun y6 => Sum.elim (fun _ => none) (fun y8 => some (.inr y8)) y6)))
theorem KJ (a0 : Xw) (ha0 : Xk a0) (i0 : Nat) : loopM (M.YY a0) (i0 : Int) = some (runN (S.YY a0) (.inl ()) i0 (a0.Z0.length - i0)) := by
  have hM := Zv
  have hni1 : a0.Z0.length ≤ maxLen := (Xk.Z0 ha0)
  refine Xz (n := a0.Z0.length) (fun i1 hi1 => ?_) (fun m hm => ?_) i0
  · unfold M.YY S.YY
    try simp only [Int.toNat_natCast]
    refine YE (dt (by omega)) ?_
    refine XE (WR (a0.Z0.getD i1 default)) (fun r3 her3 => ?_)
    refine Je (ZO (dt (by omega)) (ZO (dt (by omega)) Yi)) ?_
    refine Yg (fun hb2 => ?_) (fun hb2 => ?_)
    · exact X2
    · refine XE (KI a0 i1 ha0 hi1 0) (fun y6 hey6 => ?_)
      refine V0 (fun _ hl => ?_) (fun y8 hly8 => ?_)
      · exact VQ (by omega)
      · exact X2
  · unfold M.YY
    try simp only [Int.toNat_natCast]
    exact YF (decide_eq_false (by omega)) rfl
noncomputable def S.YZ (a0 : Xw) (i12 : Nat) (i15 : Nat) : Option (Unit ⊕ Int) :=
  bif (((((a0.ZC.getD i15 default).Zo).Zs) == (((a0.ZC.getD i12 default).Zo).Zs)) && (((((a0.ZC.getD i15 default).Zo).ZR) == (((a0.ZC.getD i12 default).Zo).ZR)) && true)) then (some (.inr 4)) else none
theorem KK (a0 : Xw) (i12 : Nat) (ha0 : Xk a0) (hi12 : i12 < a0.ZC.length) (i0 : Nat) : loopM (M.YZ a0 (i12 : Int)) (i0 : Int) = some (runN (S.YZ a0 i12) (.inl ()) i0 (i12 - i0)) := by
  have hM := Zv
  have hni12 : a0.ZC.length ≤ maxLen := (Xk.ZC ha0)
  have hni15 : i12 ≤ maxLen := (by omega)
  refine Xz (n := i12) (fun i15 hi15 => ?_) (fun m hm => ?_) i0
  · unfold M.YZ S.YZ
    try simp only [Int.toNat_natCast]
    refine YE (dt (by omega)) ?_
    refine Je (ZO (dt (by omega)) (ZO (dt (by omega)) (ZO (dt (by omega)) (ZO (dt (by omega)) Yi)))) ?_
    refine Yg (fun hb6 => ?_) (fun hb6 => ?_)
    · exact X2
    · exact VQ (by omega)
  · unfold M.YZ
    try simp only [Int.toNat_natCast]
    exact YF (decide_eq_false (by omega)) rfl
noncomputable def S.Y0 (a0 : Xw) (i12 : Nat) : Option (Unit ⊕ Int) :=
  letS (S.Y9 ((a0.ZC.getD i12 default).Zo)) (fun r14 => bif !r14 then (some (.inr 1)) else (letS (runN (S.YZ a0 i12) (.inl ()) 0 i12) (fun y17 => Sum.elim (fun _ => none) (fun y19 => some (.inr y19)) y17)))
theorem KL (a0 : Xw) (ha0 : Xk a0) (i0 : Nat) : loopM (M.Y0 a0) (i0 : Int) = some (runN (S.Y0 a0) (.inl ()) i0 (a0.ZC.length - i0)) := by
  have hM := Zv
  have hni12 : a0.ZC.length ≤ maxLen := (Xk.ZC ha0)
  refine Xz (n := a0.ZC.length) (fun i12 hi12 => ?_) (fun m hm => ?_) i0
  · unfold M.Y0 S.Y0
    try simp only [Int.toNat_natCast]
    refine YE (dt (by omega)) ?_
    refine XE (WR ((a0.ZC.getD i12 default).Zo)) (fun r14 her14 => ?_)
    refine Je (ZO (dt (by omega)) (ZO (dt (by omega)) Yi)) ?_
    refine Yg (fun hb5 => ?_) (fun hb5 => ?_)
    · exact X2
    · refine XE (KK a0 i12 ha0 hi12 0) (fun y17 hey17 => ?_)
      refine V0 (fun _ hl => ?_) (fun y19 hly19 => ?_)
      · exact VQ (by omega)
      · exact X2
  · unfold M.Y0
    try simp only [Int.toNat_natCast]
    exact YF (decide_eq_false (by omega)) rfl
noncomputable def S.Y1 (a0 : Xw) (i23 : Nat) (i27 : Nat) : Option (Unit ⊕ Int) :=
  bif (((((a0.Zt.getD i27 default).Zo).Zs) == (((a0.Zt.getD i23 default).Zo).Zs)) && (((((a0.Zt.getD i27 default).Zo).ZR) == (((a0.Zt.getD i23 default).Zo).ZR)) && true)) then (some (.inr 4)) else none
theorem KM (a0 : Xw) (i23 : Nat) (ha0 : Xk a0) (hi23 : i23 < a0.Zt.length) (i0 : Nat) : loopM (M.Y1 a0 (i23 : Int)) (i0 : Int) = some (runN (S.Y1 a0 i23) (.inl ()) i0 (i23 - i0)) := by
  have hM := Zv
  have hni23 : a0.Zt.length ≤ maxLen := (Xk.Zt ha0)
  have hni27 : i23 ≤ maxLen := (by omega)
  refine Xz (n := i23) (fun i27 hi27 => ?_) (fun m hm => ?_) i0
  · unfold M.Y1 S.Y1
    try simp only [Int.toNat_natCast]
    refine YE (dt (by omega)) ?_
    refine Je (ZO (dt (by omega)) (ZO (dt (by omega)) Yi)) ?_
    refine Yg (fun hb10 => ?_) (fun hb10 => ?_)
    · exact X2
    · exact VQ (by omega)
  · unfold M.Y1
    try simp only [Int.toNat_natCast]
    exact YF (decide_eq_false (by omega)) rfl
noncomputable def S.Y2 (a0 : Xw) (i23 : Nat) : Option (Unit ⊕ Int) :=
  letS (S.Y9 ((a0.Zt.getD i23 default).Zo)) (fun r25 => letS (bif (!(!r25)) then S.Y9 ((a0.Zt.getD i23 default).fIf) else default) (fun r26 => bif (!r25) || (!r26) then (some (.inr 1)) else (bif (((((a0.Zt.getD i23 default).Zo).Zs) == (((a0.Zt.getD i23 default).fIf).Zs)) && (((((a0.Zt.getD i23 default).Zo).ZR) == (((a0.Zt.getD i23 default).fIf).ZR)) && true)) then (some (.inr 6)) else (letS (runN (S.Y1 a0 i23) (.inl ()) 0 i23) (fun y29 => Sum.elim (fun _ => none) (fun y31 => some (.inr y31)) y29)))))
theorem KN (a0 : Xw) (ha0 : Xk a0) (i0 : Nat) : loopM (M.Y2 a0) (i0 : Int) = some (runN (S.Y2 a0) (.inl ()) i0 (a0.Zt.length - i0)) := by
  have hM := Zv
  have hni23 : a0.Zt.length ≤ maxLen := (Xk.Zt ha0)
  refine Xz (n := a0.Zt.length) (fun i23 hi23 => ?_) (fun m hm => ?_) i0
  · unfold M.Y2 S.Y2
    try simp only [Int.toNat_natCast]
    refine YE (dt (by omega)) ?_
    refine Je (ZO (dt (by omega)) (ZO (dt (by omega)) Yi)) ?_
    refine XE (WR ((a0.Zt.getD i23 default).Zo)) (fun r25 her25 => ?_)
    refine XE (We fun hg => (WR ((a0.Zt.getD i23 default).fIf))) (fun r26 her26 => ?_)
    refine Yg (fun hb8 => ?_) (fun hb8 => ?_)
    · exact X2
    · refine Yg (fun hb9 => ?_) (fun hb9 => ?_)
      · exact X2
      · refine XE (KM a0 i23 ha0 hi23 0) (fun y29 hey29 => ?_)
        refine V0 (fun _ hl => ?_) (fun y31 hly31 => ?_)
        · exact VQ (by omega)
        · exact X2
  · unfold M.Y2
    try simp only [Int.toNat_natCast]
    exact YF (decide_eq_false (by omega)) rfl
noncomputable def S.QV (a0 : Xw) : Int :=
  bif decide ((a0.Z0.length : Int) > 8) then 7 else (letS (runN (S.YY a0) (.inl ()) 0 a0.Z0.length) (fun y9 => Sum.elim (fun _ => bif decide ((a0.ZC.length : Int) > 8) then 7 else (letS (runN (S.Y0 a0) (.inl ()) 0 a0.ZC.length) (fun y20 => Sum.elim (fun _ => bif decide ((a0.Zt.length : Int) > 8) then 7 else (letS (runN (S.Y2 a0) (.inl ()) 0 a0.Zt.length) (fun y32 => Sum.elim (fun _ => 0) (fun y34 => y34) y32))) (fun y22 => y22) y20))) (fun y11 => y11) y9))
theorem Zas (a0 : Xw) (ha0 : Xk a0) : M.QV a0 = some (S.QV a0) := by
  have hM := Zv
  unfold M.QV S.QV
  refine WV (fun hb1 => ?_) (fun hb1 => ?_)
  · rfl
  · refine XR (KJ a0 ha0 0) (fun y9 hey9 => ?_)
    refine JZ (fun _ hl => ?_) (fun y11 hly11 => ?_)
    · refine WV (fun hb4 => ?_) (fun hb4 => ?_)
      · rfl
      · refine XR (KL a0 ha0 0) (fun y20 hey20 => ?_)
        refine JZ (fun _ hl => ?_) (fun y22 hly22 => ?_)
        · refine WV (fun hb7 => ?_) (fun hb7 => ?_)
          · rfl
          · refine XR (KN a0 ha0 0) (fun y32 hey32 => ?_)
            refine JZ (fun _ hl => ?_) (fun y34 hly34 => ?_)
            · rfl
            · rfl
        · rfl
    · rfl
noncomputable def S.QG (a0 : Zf) : Int :=
  bif !a0.Xr.Vr then (bif ((a0.Xr.XU != 0) || (a0.Xr.XV != 0)) || (decide ((wr .i64 ((wr .i64 ((wr .i64 ((wr .i64 ((a0.Xr.Zm.length : Int) + (a0.Xr.Z0.length : Int))) + (a0.Xr.ZC.length : Int))) + (a0.Xr.Zt.length : Int))) + (a0.Xr.Zr.length : Int))) > 0)) then 1 else 0) else (letS (bif (!(a0.Gf == 0)) then S.ZT a0.Xr.XU 1 255 else default) (fun r1 => letS (bif (!((a0.Gf == 0) || (!r1))) then S.ZT a0.Xr.XV 1 255 else default) (fun r2 => bif ((a0.Gf == 0) || (!r1)) || (!r2) then 1 else (letS (S.J7 a0) (fun r3 => bif r3 != 0 then r3 else (letS (S.QV a0.Xr) (fun r4 => bif r4 != 0 then r4 else (letS (S.X1 a0 a0.Xr.Zr 5 0 16777215) (fun r5 => r5)))))))))
theorem Zb5 (a0 : Zf) (ha0 : Zn a0) : M.QG a0 = some (S.QG a0) := by
  have hM := Zv
  unfold M.QG S.QG
  refine WV (fun hb1 => ?_) (fun hb1 => ?_)
  · refine WV (fun hb2 => ?_) (fun hb2 => ?_)
    · rfl
    · rfl
  · refine XR (We fun hg => (XT a0.Xr.XU 1 255)) (fun r1 her1 => ?_)
    refine XR (We fun hg => (XT a0.Xr.XV 1 255)) (fun r2 her2 => ?_)
    refine WV (fun hb3 => ?_) (fun hb3 => ?_)
    · rfl
    · refine XR (ZcD a0 ha0) (fun r3 her3 => ?_)
      refine WV (fun hb4 => ?_) (fun hb4 => ?_)
      · rfl
      · refine XR (Zas a0.Xr (Zn.Xr ha0)) (fun r4 her4 => ?_)
        refine WV (fun hb5 => ?_) (fun hb5 => ?_)
        · rfl
        · refine XR (WS a0 a0.Xr.Zr 5 0 16777215 ha0 (Xk.Zr (Zn.Xr ha0))) (fun r5 her5 => ?_)
          rfl
noncomputable def S.Yc (r3 : Int) (r4 : Int) (r5 : Int) (r6 : Int) (r7 : Int) (r8 : Int) (r9 : Int) (r10 : Int) (r11 : Int) (r12 : Int) (i13 : Nat) : Option (Unit ⊕ Int) :=
  bif (([r3, r4, r5, r6, r7, r8, r9, r10, r11, r12] : List Int).getD i13 default) != 0 then (some (.inr (([r3, r4, r5, r6, r7, r8, r9, r10, r11, r12] : List Int).getD i13 default))) else none
theorem K5 (r3 : Int) (r4 : Int) (r5 : Int) (r6 : Int) (r7 : Int) (r8 : Int) (r9 : Int) (r10 : Int) (r11 : Int) (r12 : Int)  (i0 : Nat) : loopM (M.Yc r3 r4 r5 r6 r7 r8 r9 r10 r11 r12) (i0 : Int) = some (runN (S.Yc r3 r4 r5 r6 r7 r8 r9 r10 r11 r12) (.inl ()) i0 (([r3, r4, r5, r6, r7, r8, r9, r10, r11, r12] : List Int).length - i0)) := by
  have hM := Zv
  have hni13 : ([r3, r4, r5, r6, r7, r8, r9, r10, r11, r12] : List Int).length ≤ maxLen := (by simp [Zv])
  refine Xz (n := ([r3, r4, r5, r6, r7, r8, r9, r10, r11, r12] : List Int).length) (fun i13 hi13 => ?_) (fun m hm => ?_) i0
  · unfold M.Yc S.Yc
    try simp only [Int.toNat_natCast]
    refine YE (dt (by omega)) ?_
    refine Je (ZO (dt (by omega)) (ZO (dt (by first | omega | (simp; omega) | (simp at *; omega))) Yi)) ?_
    refine Yg (fun hb3 => ?_) (fun hb3 => ?_)
    · refine Je (ZO (dt (by omega)) (ZO (dt (by first | omega | (simp; omega) | (simp at *; omega))) Yi)) ?_
      exact X2
    · exact VQ (by omega)
  · unfold M.Yc
    try simp only [Int.toNat_natCast]
    exact YF (decide_eq_false (by omega)) rfl
noncomputable def S.Yl (a0 : Zf) : Int :=
  letS (S.QY a0.Xl) (fun r1 => bif !r1 then 3 else (letS (S.ZT a0.Gf 0 65535) (fun r2 => bif !r2 then 1 else (letS (S.Yb a0.Zc) (fun r3 => letS (S.Ql a0.Yt) (fun r4 => letS (S.Q0 a0) (fun r5 => letS (S.Qm a0.YC) (fun r6 => letS (S.YW a0) (fun r7 => letS (S.J5 a0) (fun r8 => letS (S.J6 a0) (fun r9 => letS (S.Q2 a0) (fun r10 => letS (S.Jv a0) (fun r11 => letS (S.QG a0) (fun r12 => letS (runN (S.Yc r3 r4 r5 r6 r7 r8 r9 r10 r11 r12) (.inl ()) 0 (([r3, r4, r5, r6, r7, r8, r9, r10, r11, r12] : List Int).length)) (fun y15 => Sum.elim (fun _ => 0) (fun y17 => y17) y15)))))))))))))))
theorem Za7 (a0 : Zf) (ha0 : Zn a0) : M.Yl a0 = some (S.Yl a0) := by
  have hM := Zv
  unfold M.Yl S.Yl
  refine XR (U6 a0.Xl (Zn.Xl ha0)) (fun r1 her1 => ?_)
  refine WV (fun hb1 => ?_) (fun hb1 => ?_)
  · rfl
  · refine XR (XT a0.Gf 0 65535) (fun r2 her2 => ?_)
    refine WV (fun hb2 => ?_) (fun hb2 => ?_)
    · rfl
    · refine XR (ZbZ a0.Zc (Zn.Zc ha0)) (fun r3 her3 => ?_)
      refine XR (Za2 a0.Yt (Zn.Yt ha0)) (fun r4 her4 => ?_)
      refine XR (Zcz a0 ha0) (fun r5 her5 => ?_)
      refine XR (Za3 a0.YC (Zn.YC ha0)) (fun r6 her6 => ?_)
      refine XR (Zam a0 ha0) (fun r7 her7 => ?_)
      refine XR (Zeh a0 ha0) (fun r8 her8 => ?_)
      refine XR (Zei a0 ha0) (fun r9 her9 => ?_)
      refine XR (ZcC a0 ha0) (fun r10 her10 => ?_)
      refine XR (Zc9 a0 ha0) (fun r11 her11 => ?_)
      refine XR (Zb5 a0 ha0) (fun r12 her12 => ?_)
      refine XR (K5 r3 r4 r5 r6 r7 r8 r9 r10 r11 r12 0) (fun y15 hey15 => ?_)
      refine JZ (fun _ hl => ?_) (fun y17 hly17 => ?_)
      · rfl
      · rfl
noncomputable def S.Jw (a0 : Zw) (i1 : Nat) (i4 : Nat) : Option (Unit ⊕ Int) :=
  bif strEq ((a0.Zd.getD i4 default).Xl) ((a0.Zd.getD i1 default).Xl) then (some (.inr 4)) else none
theorem Zda (a0 : Zw) (i1 : Nat) (ha0 : Yv a0) (hi1 : i1 < a0.Zd.length) (i0 : Nat) : loopM (M.Jw a0 (i1 : Int)) (i0 : Int) = some (runN (S.Jw a0 i1) (.inl ()) i0 (i1 - i0)) := by
  have hM := Zv
  have hni1 : a0.Zd.length ≤ maxLen := (Yv.Zd ha0).1
  have hni4 : i1 ≤ maxLen := (by omega)
  refine Xz (n := i1) (fun i4 hi4 => ?_) (fun m hm => ?_) i0
  · unfold M.Jw S.Jw
    try simp only [Int.toNat_natCast]
    refine YE (dt (by omega)) ?_
    refine Je (ZO (dt (by omega)) (ZO (dt (by omega)) (ZO (dt (by omega)) (ZO (dt (by omega)) Yi)))) ?_
    refine Yg (fun hb3 => ?_) (fun hb3 => ?_)
    · exact X2
    · exact VQ (by omega)
  · unfold M.Jw
    try simp only [Int.toNat_natCast]
    exact YF (decide_eq_false (by omega)) rfl
noncomputable def S.Ja (a0 : Zw) (i1 : Nat) (i9 : Nat) (i11 : Nat) : Option (Unit ⊕ Int) :=
  letS (bif (((((a0.Zd.getD i1 default).Zc).getD i9 default).ZR) != 0) then S.QQ (a0.Zd.getD i11 default) ((((a0.Zd.getD i1 default).Zc).getD i9 default).Zs) else default) (fun r13 => bif (((((a0.Zd.getD i1 default).Zc).getD i9 default).ZR) != 0) && (decide (r13 ≥ 0)) then (some (.inr 4)) else none)
theorem Zdb (a0 : Zw) (i1 : Nat) (i9 : Nat) (ha0 : Yv a0) (hi1 : i1 < a0.Zd.length) (hi9 : i9 < ((a0.Zd.getD i1 default).Zc).length) (i0 : Nat) : loopM (M.Ja a0 (i1 : Int) (i9 : Int)) (i0 : Int) = some (runN (S.Ja a0 i1 i9) (.inl ()) i0 (i1 - i0)) := by
  have hM := Zv
  have hni1 : a0.Zd.length ≤ maxLen := (Yv.Zd ha0).1
  have hni9 : ((a0.Zd.getD i1 default).Zc).length ≤ maxLen := (Zn.Zc (LL.getD (Yv.Zd ha0) Zn.dflt i1)).1
  have hni11 : i1 ≤ maxLen := (by omega)
  refine Xz (n := i1) (fun i11 hi11 => ?_) (fun m hm => ?_) i0
  · unfold M.Ja S.Ja
    try simp only [Int.toNat_natCast]
    refine YE (dt (by omega)) ?_
    refine XE (We fun hg => (RQ (a0.Zd.getD i11 default) ((((a0.Zd.getD i1 default).Zc).getD i9 default).Zs) (LL.getD (Yv.Zd ha0) Zn.dflt i11))) (fun r13 her13 => ?_)
    refine Je (ZO (Qa fun hg => (dt (by first | omega | (simp; omega) | (simp at *; omega)))) (ZO (Qa fun hg => (dt (by first | omega | (simp; omega) | (simp at *; omega)))) Yi)) ?_
    refine Yg (fun hb4 => ?_) (fun hb4 => ?_)
    · exact X2
    · exact VQ (by omega)
  · unfold M.Ja
    try simp only [Int.toNat_natCast]
    exact YF (decide_eq_false (by omega)) rfl
noncomputable def S.Jb (a0 : Zw) (i1 : Nat) (i9 : Nat) : Option (Unit ⊕ Int) :=
  letS (runN (S.Ja a0 i1 i9) (.inl ()) 0 i1) (fun y14 => Sum.elim (fun _ => none) (fun y16 => some (.inr y16)) y14)
theorem Zdc (a0 : Zw) (i1 : Nat) (ha0 : Yv a0) (hi1 : i1 < a0.Zd.length) (i0 : Nat) : loopM (M.Jb a0 (i1 : Int)) (i0 : Int) = some (runN (S.Jb a0 i1) (.inl ()) i0 (((a0.Zd.getD i1 default).Zc).length - i0)) := by
  have hM := Zv
  have hni1 : a0.Zd.length ≤ maxLen := (Yv.Zd ha0).1
  have hni9 : ((a0.Zd.getD i1 default).Zc).length ≤ maxLen := (Zn.Zc (LL.getD (Yv.Zd ha0) Zn.dflt i1)).1
  refine Xz (n := ((a0.Zd.getD i1 default).Zc).length) (fun i9 hi9 => ?_) (fun m hm => ?_) i0
  · unfold M.Jb S.Jb
    try simp only [Int.toNat_natCast]
    refine Je (ZO (dt (by omega)) (ZO (dt (by omega)) Yi))  ?_
    refine YE (dt (by omega)) ?_
    refine Je (ZO (dt (by omega)) (ZO (dt (by omega)) (ZO (dt (by omega)) (ZO (dt (by omega)) Yi)))) ?_
    refine XE (Zdb a0 i1 i9 ha0 hi1 hi9 0) (fun y14 hey14 => ?_)
    refine V0 (fun _ hl => ?_) (fun y16 hly16 => ?_)
    · exact VQ (by omega)
    · exact X2
  · unfold M.Jb
    try simp only [Int.toNat_natCast]
    refine Je (ZO (dt (by omega)) (ZO (dt (by omega)) Yi))  ?_
    exact YF (decide_eq_false (by omega)) rfl
noncomputable def S.Jc (a0 : Zw) (i1 : Nat) : Option (Unit ⊕ Int) :=
  letS (S.Yl (a0.Zd.getD i1 default)) (fun r3 => bif r3 != 0 then (some (.inr r3)) else (letS (runN (S.Jw a0 i1) (.inl ()) 0 i1) (fun y6 => Sum.elim (fun _ => letS (runN (S.Jb a0 i1) (.inl ()) 0 (((a0.Zd.getD i1 default).Zc).length)) (fun y17 => Sum.elim (fun _ => none) (fun y19 => some (.inr y19)) y17)) (fun y8 => some (.inr y8)) y6)))
theorem Zdd (a0 : Zw) (ha0 : Yv a0) (i0 : Nat) : loopM (M.Jc a0) (i0 : Int) = some (runN (S.Jc a0) (.inl ()) i0 (a0.Zd.length - i0)) := by
  have hM := Zv
  have hni1 : a0.Zd.length ≤ maxLen := (Yv.Zd ha0).1
  refine Xz (n := a0.Zd.length) (fun i1 hi1 => ?_) (fun m hm => ?_) i0
  · unfold M.Jc S.Jc
    try simp only [Int.toNat_natCast]
    refine YE (dt (by omega)) ?_
    refine XE (Za7 (a0.Zd.getD i1 default) (LL.getD (Yv.Zd ha0) Zn.dflt i1)) (fun r3 her3 => ?_)
    refine Je (ZO (dt (by omega)) (ZO (dt (by omega)) Yi)) ?_
    refine Yg (fun hb2 => ?_) (fun hb2 => ?_)
    · exact X2
    · refine XE (Zda a0 i1 ha0 hi1 0) (fun y6 hey6 => ?_)
      refine V0 (fun _ hl => ?_) (fun y8 hly8 => ?_)
      · refine XE (Zdc a0 i1 ha0 hi1 0) (fun y17 hey17 => ?_)
        refine V0 (fun _ hl => ?_) (fun y19 hly19 => ?_)
        · exact VQ (by omega)
        · exact X2
      · exact X2
  · unfold M.Jc
    try simp only [Int.toNat_natCast]
    exact YF (decide_eq_false (by omega)) rfl
noncomputable def S.Q3 (a0 : Zw) : Int :=
  bif decide ((a0.Zd.length : Int) > 8) then 7 else (letS (runN (S.Jc a0) (.inl ()) 0 a0.Zd.length) (fun y20 => Sum.elim (fun _ => 0) (fun y22 => y22) y20))
theorem Zfz (a0 : Zw) (ha0 : Yv a0) : M.Q3 a0 = some (S.Q3 a0) := by
  have hM := Zv
  unfold M.Q3 S.Q3
  refine WV (fun hb1 => ?_) (fun hb1 => ?_)
  · rfl
  · refine XR (Zdd a0 ha0 0) (fun y20 hey20 => ?_)
    refine JZ (fun _ hl => ?_) (fun y22 hly22 => ?_)
    · rfl
    · rfl
noncomputable def S.Vl (a0 : ZX) (a1 : ZX) : Int :=
  bif (decide (a0.Zs < a1.Zs)) || ((a0.Zs == a1.Zs) && (decide (a0.ZR < a1.ZR))) then (-1) else (bif ((a0.Zs == a1.Zs) && ((a0.ZR == a1.ZR) && true)) then 0 else 1)
theorem Zej (a0 : ZX) (a1 : ZX)  : M.Vl a0 a1 = some (S.Vl a0 a1) := by
  have hM := Zv
  unfold M.Vl S.Vl
  refine WV (fun hb1 => ?_) (fun hb1 => ?_)
  · rfl
  · refine WV (fun hb2 => ?_) (fun hb2 => ?_)
    · rfl
    · rfl
noncomputable def S.X4 (a0 : List Int) (a1 : Int) (i1 : Nat) : Option (Unit ⊕ Bool) :=
  bif ((decide ((a0.getD i1 default) < 0)) || (decide ((a0.getD i1 default) ≥ a1))) || ((decide ((i1 : Int) > 0)) && (decide ((a0.getD i1 default) ≤ (a0.getD (wr .i64 ((i1 : Int) - 1)).toNat default)))) then (some (.inr false)) else none
theorem RR (a0 : List Int) (a1 : Int) (ha0 : a0.length ≤ maxLen) (i0 : Nat) : loopM (M.X4 a0 a1) (i0 : Int) = some (runN (S.X4 a0 a1) (.inl ()) i0 (a0.length - i0)) := by
  have hM := Zv
  have hni1 : a0.length ≤ maxLen := ha0
  refine Xz (n := a0.length) (fun i1 hi1 => ?_) (fun m hm => ?_) i0
  · unfold M.X4 S.X4
    try simp only [Int.toNat_natCast]
    have hdi1 : wr .i64 ((i1 : Int) - 1) = (i1 : Int) - 1 := ZkR (by omega)
    refine YE (dt (by omega)) ?_
    refine Je (ZO (dt (by omega)) (ZO (dt (by omega)) (ZO (Qa fun hg => (dt (by first | omega | (simp; omega) | (simp at *; omega)))) (ZO (Qa fun hg => (dt (by first | omega | (simp; omega) | (simp at *; omega)))) (ZO (Qa fun hg => (dt (by first | omega | (simp; omega) | (simp at *; omega)))) (ZO (Qa fun hg => (dt (by first | omega | (simp; omega) | (simp at *; omega)))) (ZO (Qa fun hg => (dt (by first | omega | (simp; omega) | (simp at *; omega)))) (ZO (Qa fun hg => (dt (by first | omega | (simp; omega) | (simp at *; omega)))) Yi)))))))) ?_
    refine Yg (fun hb2 => ?_) (fun hb2 => ?_)
    · exact X2
    · exact VQ (by omega)
  · unfold M.X4
    try simp only [Int.toNat_natCast]
    exact YF (decide_eq_false (by omega)) rfl
noncomputable def S.QH (a0 : List Int) (a1 : Int) : Bool :=
  bif decide ((a0.length : Int) > 2) then false else (letS (runN (S.X4 a0 a1) (.inl ()) 0 a0.length) (fun y3 => Sum.elim (fun _ => true) (fun y5 => y5) y3))
theorem Zb6 (a0 : List Int) (a1 : Int) (ha0 : a0.length ≤ maxLen) : M.QH a0 a1 = some (S.QH a0 a1) := by
  have hM := Zv
  unfold M.QH S.QH
  refine WV (fun hb1 => ?_) (fun hb1 => ?_)
  · rfl
  · refine XR (RR a0 a1 ha0 0) (fun y3 hey3 => ?_)
    refine JZ (fun _ hl => ?_) (fun y5 hly5 => ?_)
    · rfl
    · rfl
noncomputable def S.Z4 (a0 : List X8) (a1 : X8) (i1 : Nat) : Option (Unit ⊕ Int) :=
  bif ((a1.Z5 == ((a0.getD i1 default).Z5)) && ((a1.XY == ((a0.getD i1 default).XY)) && true)) then (some (.inr (i1 : Int))) else none
theorem Uz (a0 : List X8) (a1 : X8) (ha0 : a0.length ≤ maxLen) (i0 : Nat) : loopM (M.Z4 a0 a1) (i0 : Int) = some (runN (S.Z4 a0 a1) (.inl ()) i0 (a0.length - i0)) := by
  have hM := Zv
  have hni1 : a0.length ≤ maxLen := ha0
  refine Xz (n := a0.length) (fun i1 hi1 => ?_) (fun m hm => ?_) i0
  · unfold M.Z4 S.Z4
    try simp only [Int.toNat_natCast]
    refine YE (dt (by omega)) ?_
    refine Je (ZO (dt (by omega)) (ZO (dt (by omega)) Yi)) ?_
    refine Yg (fun hb1 => ?_) (fun hb1 => ?_)
    · exact X2
    · exact VQ (by omega)
  · unfold M.Z4
    try simp only [Int.toNat_natCast]
    exact YF (decide_eq_false (by omega)) rfl
noncomputable def S.Z9 (a0 : List X8) (a1 : X8) : Int :=
  letS (runN (S.Z4 a0 a1) (.inl ()) 0 a0.length) (fun y3 => Sum.elim (fun _ => -1) (fun y5 => y5) y3)
theorem UW (a0 : List X8) (a1 : X8) (ha0 : a0.length ≤ maxLen) : M.Z9 a0 a1 = some (S.Z9 a0 a1) := by
  have hM := Zv
  unfold M.Z9 S.Z9
  refine XR (Uz a0 a1 ha0 0) (fun y3 hey3 => ?_)
  refine JZ (fun _ hl => ?_) (fun y5 hly5 => ?_)
  · rfl
  · rfl
noncomputable def S.ZU (a0 : List X8) (a1 : X8) : Bool :=
  letS (S.Z9 a0 a1) (fun r1 => decide (r1 ≥ 0))
theorem UA (a0 : List X8) (a1 : X8) (ha0 : a0.length ≤ maxLen) : M.ZU a0 a1 = some (S.ZU a0 a1) := by
  have hM := Zv
  unfold M.ZU S.ZU
  refine XR (UW a0 a1 ha0) (fun r1 her1 => ?_)
  rfl
noncomputable def S.Yq (a0 : X3) (a1 : Int) (a2 : Int) (i1 : Nat) : Option (Unit ⊕ Int) :=
  letS (S.ZU ((a0.XW.Z1.getD i1 default).ZZ) (⟨a1, a2⟩ : X8)) (fun r3 => bif r3 then (some (.inr (i1 : Int))) else none)
theorem ZcE (a0 : X3) (a1 : Int) (a2 : Int) (ha0 : W2 a0) (i0 : Nat) : loopM (M.Yq a0 a1 a2) (i0 : Int) = some (runN (S.Yq a0 a1 a2) (.inl ()) i0 (a0.XW.Z1.length - i0)) := by
  have hM := Zv
  have hni1 : a0.XW.Z1.length ≤ maxLen := (Wc.Z1 (W2.XW ha0)).1
  refine Xz (n := a0.XW.Z1.length) (fun i1 hi1 => ?_) (fun m hm => ?_) i0
  · unfold M.Yq S.Yq
    try simp only [Int.toNat_natCast]
    refine YE (dt (by omega)) ?_
    refine Je (ZO (dt (by omega)) (ZO (dt (by omega)) Yi)) ?_
    refine XE (UA ((a0.XW.Z1.getD i1 default).ZZ) (⟨a1, a2⟩ : X8) (Uw.ZZ (LL.getD (Wc.Z1 (W2.XW ha0)) Uw.dflt i1))) (fun r3 her3 => ?_)
    refine Yg (fun hb1 => ?_) (fun hb1 => ?_)
    · exact X2
    · exact VQ (by omega)
  · unfold M.Yq
    try simp only [Int.toNat_natCast]
    exact YF (decide_eq_false (by omega)) rfl
noncomputable def S.Yw (a0 : X3) (a1 : Int) (a2 : Int) : Int :=
  letS (runN (S.Yq a0 a1 a2) (.inl ()) 0 a0.XW.Z1.length) (fun y4 => Sum.elim (fun _ => -1) (fun y6 => y6) y4)
theorem GZ (a0 : X3) (a1 : Int) (a2 : Int) (ha0 : W2 a0) : M.Yw a0 a1 a2 = some (S.Yw a0 a1 a2) := by
  have hM := Zv
  unfold M.Yw S.Yw
  refine XR (ZcE a0 a1 a2 ha0 0) (fun y4 hey4 => ?_)
  refine JZ (fun _ hl => ?_) (fun y6 hly6 => ?_)
  · rfl
  · rfl
noncomputable def S.XG (a0 : List Int) (a1 : Int) (i1 : Nat) : Option (Unit ⊕ Int) :=
  bif a1 == (a0.getD i1 default) then (some (.inr (i1 : Int))) else none
theorem GE (a0 : List Int) (a1 : Int) (ha0 : a0.length ≤ maxLen) (i0 : Nat) : loopM (M.XG a0 a1) (i0 : Int) = some (runN (S.XG a0 a1) (.inl ()) i0 (a0.length - i0)) := by
  have hM := Zv
  have hni1 : a0.length ≤ maxLen := ha0
  refine Xz (n := a0.length) (fun i1 hi1 => ?_) (fun m hm => ?_) i0
  · unfold M.XG S.XG
    try simp only [Int.toNat_natCast]
    refine YE (dt (by omega)) ?_
    refine Je (ZO (dt (by omega)) (ZO (dt (by omega)) Yi)) ?_
    refine Yg (fun hb1 => ?_) (fun hb1 => ?_)
    · exact X2
    · exact VQ (by omega)
  · unfold M.XG
    try simp only [Int.toNat_natCast]
    exact YF (decide_eq_false (by omega)) rfl
noncomputable def S.XD (a0 : List Int) (a1 : Int) : Int :=
  letS (runN (S.XG a0 a1) (.inl ()) 0 a0.length) (fun y3 => Sum.elim (fun _ => -1) (fun y5 => y5) y3)
theorem UO (a0 : List Int) (a1 : Int) (ha0 : a0.length ≤ maxLen) : M.XD a0 a1 = some (S.XD a0 a1) := by
  have hM := Zv
  unfold M.XD S.XD
  refine XR (GE a0 a1 ha0 0) (fun y3 hey3 => ?_)
  refine JZ (fun _ hl => ?_) (fun y5 hly5 => ?_)
  · rfl
  · rfl
noncomputable def S.JS (a0 : X3) (a1 : Int) (a2 : Int) : Int :=
  letS (S.Yw a0 a1 a2) (fun r1 => bif decide (r1 < 0) then (-1) else (letS (S.XD a0.XW.QB r1) (fun r2 => r2)))
theorem Zgr (a0 : X3) (a1 : Int) (a2 : Int) (ha0 : W2 a0) : M.JS a0 a1 a2 = some (S.JS a0 a1 a2) := by
  have hM := Zv
  unfold M.JS S.JS
  refine XR (GZ a0 a1 a2 ha0) (fun r1 her1 => ?_)
  refine WV (fun hb1 => ?_) (fun hb1 => ?_)
  · rfl
  · refine XR (UO a0.XW.QB r1 (Wc.QB (W2.XW ha0))) (fun r2 her2 => ?_)
    rfl
noncomputable def S.Xv (a0 : List Int) (a1 : Int) : Bool :=
  letS (S.XD a0 a1) (fun r1 => decide (r1 ≥ 0))
theorem GG (a0 : List Int) (a1 : Int) (ha0 : a0.length ≤ maxLen) : M.Xv a0 a1 = some (S.Xv a0 a1) := by
  have hM := Zv
  unfold M.Xv S.Xv
  refine XR (UO a0 a1 ha0) (fun r1 her1 => ?_)
  rfl
noncomputable def S.Vm (a0 : X3) (a1 : Int) (a2 : Int) : Bool :=
  letS (S.Yw a0 a1 a2) (fun r1 => bif decide (r1 < 0) then false else (letS (S.JS a0 a1 a2) (fun r2 => letS (bif (!(decide (r2 < 0))) then S.Xv a0.V2 r2 else default) (fun r3 => (decide (r2 < 0)) || (!r3)))))
theorem Zij (a0 : X3) (a1 : Int) (a2 : Int) (ha0 : W2 a0) : M.Vm a0 a1 a2 = some (S.Vm a0 a1 a2) := by
  have hM := Zv
  unfold M.Vm S.Vm
  refine XR (GZ a0 a1 a2 ha0) (fun r1 her1 => ?_)
  refine WV (fun hb1 => ?_) (fun hb1 => ?_)
  · rfl
  · refine XR (Zgr a0 a1 a2 ha0) (fun r2 her2 => ?_)
    refine XR (We fun hg => (GG a0.V2 r2 (W2.V2 ha0))) (fun r3 her3 => ?_)
    rfl
noncomputable def S.QJ (a0 : X3) (a1 : X8) : Zl × Bool :=
  bif (decide (a1.Z5 < 0)) || (decide (a1.Z5 ≥ (a0.Qr.Zd.length : Int))) then ((⟨(⟨#[]⟩ : ByteArray), 0, 0, 0, false, false, 0, 0, false, (⟨#[]⟩ : ByteArray), (⟨#[]⟩ : ByteArray), 0⟩ : Zl), false) else (bif (decide (a1.XY < 0)) || (decide (a1.XY ≥ (((a0.Qr.Zd.getD a1.Z5.toNat default).Zc).length : Int))) then ((⟨(⟨#[]⟩ : ByteArray), 0, 0, 0, false, false, 0, 0, false, (⟨#[]⟩ : ByteArray), (⟨#[]⟩ : ByteArray), 0⟩ : Zl), false) else (((a0.Qr.Zd.getD a1.Z5.toNat default).Zc).getD a1.XY.toNat default, true))
theorem Za8 (a0 : X3) (a1 : X8) (ha0 : W2 a0) : M.QJ a0 a1 = some (S.QJ a0 a1) := by
  have hM := Zv
  unfold M.QJ S.QJ
  refine WV (fun hb1 => ?_) (fun hb1 => ?_)
  · rfl
  · refine Je (ZO (dt (by first | omega | (simp; omega) | (simp at *; omega))) (ZO (dt (by first | omega | (simp; omega) | (simp at *; omega))) Yi)) ?_
    refine WV (fun hb2 => ?_) (fun hb2 => ?_)
    · rfl
    · refine Je (ZO (dt (by first | omega | (simp; omega) | (simp at *; omega))) (ZO (dt (by first | omega | (simp; omega) | (simp at *; omega))) Yi)) ?_
      rfl
end Nv
