/- Total forms of the mirrors. -/
import Derived.Test.YtaienbkgekjdnaaGreatNvD1
import Derived.Test.YtaienbkgekjdnaaGreatNvLibB
import Derived.Test.YtaienbkgekjdnaaGreatNvQ0
set_option maxRecDepth 100000
namespace Nv
open Go
def Xh (x : Zy) : Prop := (x.ZW.size ≤ maxLen) ∧ (x.VQ.size ≤ maxLen) ∧ (x.YV.size ≤ maxLen)
theorem Xh.ZW {x : Zy} (h : Xh x) : x.ZW.size ≤ maxLen := h.1
theorem Xh.VQ {x : Zy} (h : Xh x) : x.VQ.size ≤ maxLen := h.2.1
theorem Xh.YV {x : Zy} (h : Xh x) : x.YV.size ≤ maxLen := h.2.2
theorem Xh.dflt : Xh default := ⟨(Nat.zero_le _), (Nat.zero_le _), (Nat.zero_le _)⟩
def X2 (x : Z1) : Prop := (x.ZW.size ≤ maxLen) ∧ (x.Xz.length ≤ maxLen)
theorem X2.ZW {x : Z1} (h : X2 x) : x.ZW.size ≤ maxLen := h.1
theorem X2.Xz {x : Z1} (h : X2 x) : x.Xz.length ≤ maxLen := h.2
theorem X2.dflt : X2 default := ⟨(Nat.zero_le _), (Nat.zero_le _)⟩
def WJ (x : GK) : Prop := (x.QP.size ≤ maxLen)
theorem WJ.QP {x : GK} (h : WJ x) : x.QP.size ≤ maxLen := h
theorem WJ.dflt : WJ default := (Nat.zero_le _)
def Yh (x : X1) : Prop := (x.ZW.size ≤ maxLen) ∧ (LL WJ x.Xl)
theorem Yh.ZW {x : X1} (h : Yh x) : x.ZW.size ≤ maxLen := h.1
theorem Yh.Xl {x : X1} (h : Yh x) : LL WJ x.Xl := h.2
theorem Yh.dflt : Yh default := ⟨(Nat.zero_le _), ⟨Nat.zero_le _, fun _ h => absurd h List.not_mem_nil⟩⟩
def Wh (x : WD) : Prop := (x.ZW.size ≤ maxLen) ∧ (x.Xz.length ≤ maxLen)
theorem Wh.ZW {x : WD} (h : Wh x) : x.ZW.size ≤ maxLen := h.1
theorem Wh.Xz {x : WD} (h : Wh x) : x.Xz.length ≤ maxLen := h.2
theorem Wh.dflt : Wh default := ⟨(Nat.zero_le _), (Nat.zero_le _)⟩
def Js (x : YS) : Prop := (x.QP.size ≤ maxLen)
theorem Js.QP {x : YS} (h : Js x) : x.QP.size ≤ maxLen := h
theorem Js.dflt : Js default := (Nat.zero_le _)
def Q9 (x : Yc) : Prop := (x.QB.size ≤ maxLen)
theorem Q9.QB {x : Yc} (h : Q9 x) : x.QB.size ≤ maxLen := h
theorem Q9.dflt : Q9 default := (Nat.zero_le _)
def JP (x : Yw) : Prop := (x.Rg.size ≤ maxLen)
theorem JP.Rg {x : Yw} (h : JP x) : x.Rg.size ≤ maxLen := h
theorem JP.dflt : JP default := (Nat.zero_le _)
def Ji (x : We) : Prop := (x.ZK.length ≤ maxLen) ∧ (LL JP x.Zv)
theorem Ji.ZK {x : We} (h : Ji x) : x.ZK.length ≤ maxLen := h.1
theorem Ji.Zv {x : We} (h : Ji x) : LL JP x.Zv := h.2
theorem Ji.dflt : Ji default := ⟨(Nat.zero_le _), ⟨Nat.zero_le _, fun _ h => absurd h List.not_mem_nil⟩⟩
def Ya (x : Qw) : Prop := (x.VQ.size ≤ maxLen) ∧ (x.YV.size ≤ maxLen) ∧ (LL JP x.Zv)
theorem Ya.VQ {x : Qw} (h : Ya x) : x.VQ.size ≤ maxLen := h.1
theorem Ya.YV {x : Qw} (h : Ya x) : x.YV.size ≤ maxLen := h.2.1
theorem Ya.Zv {x : Qw} (h : Ya x) : LL JP x.Zv := h.2.2
theorem Ya.dflt : Ya default := ⟨(Nat.zero_le _), (Nat.zero_le _), ⟨Nat.zero_le _, fun _ h => absurd h List.not_mem_nil⟩⟩
def JA (x : Vo) : Prop := (x.VQ.size ≤ maxLen) ∧ (x.YV.size ≤ maxLen)
theorem JA.VQ {x : Vo} (h : JA x) : x.VQ.size ≤ maxLen := h.1
theorem JA.YV {x : Vo} (h : JA x) : x.YV.size ≤ maxLen := h.2
theorem JA.dflt : JA default := ⟨(Nat.zero_le _), (Nat.zero_le _)⟩
def Z2 (x : Z4) : Prop := (LL JA x.Zl) ∧ (x.Zt.length ≤ maxLen) ∧ (x.Zr.length ≤ maxLen) ∧ (x.Zo.length ≤ maxLen) ∧ (LL JP x.Zv)
theorem Z2.Zl {x : Z4} (h : Z2 x) : LL JA x.Zl := h.1
theorem Z2.Zt {x : Z4} (h : Z2 x) : x.Zt.length ≤ maxLen := h.2.1
theorem Z2.Zr {x : Z4} (h : Z2 x) : x.Zr.length ≤ maxLen := h.2.2.1
theorem Z2.Zo {x : Z4} (h : Z2 x) : x.Zo.length ≤ maxLen := h.2.2.2.1
theorem Z2.Zv {x : Z4} (h : Z2 x) : LL JP x.Zv := h.2.2.2.2
theorem Z2.dflt : Z2 default := ⟨⟨Nat.zero_le _, fun _ h => absurd h List.not_mem_nil⟩, (Nat.zero_le _), (Nat.zero_le _), (Nat.zero_le _), ⟨Nat.zero_le _, fun _ h => absurd h List.not_mem_nil⟩⟩
def Zi (x : Zf) : Prop := (x.ZW.size ≤ maxLen) ∧ (LL Xh x.Zc) ∧ (LL X2 x.Xk) ∧ (LL Yh x.Z8) ∧ (LL Wh x.XO) ∧ (LL Js x.Xd) ∧ (LL Q9 x.Zq) ∧ (Ji x.Yi) ∧ (Ya x.YC) ∧ (Z2 x.Xb)
theorem Zi.ZW {x : Zf} (h : Zi x) : x.ZW.size ≤ maxLen := h.1
theorem Zi.Zc {x : Zf} (h : Zi x) : LL Xh x.Zc := h.2.1
theorem Zi.Xk {x : Zf} (h : Zi x) : LL X2 x.Xk := h.2.2.1
theorem Zi.Z8 {x : Zf} (h : Zi x) : LL Yh x.Z8 := h.2.2.2.1
theorem Zi.XO {x : Zf} (h : Zi x) : LL Wh x.XO := h.2.2.2.2.1
theorem Zi.Xd {x : Zf} (h : Zi x) : LL Js x.Xd := h.2.2.2.2.2.1
theorem Zi.Zq {x : Zf} (h : Zi x) : LL Q9 x.Zq := h.2.2.2.2.2.2.1
theorem Zi.Yi {x : Zf} (h : Zi x) : Ji x.Yi := h.2.2.2.2.2.2.2.1
theorem Zi.YC {x : Zf} (h : Zi x) : Ya x.YC := h.2.2.2.2.2.2.2.2.1
theorem Zi.Xb {x : Zf} (h : Zi x) : Z2 x.Xb := h.2.2.2.2.2.2.2.2.2
theorem Zi.dflt : Zi default := ⟨(Nat.zero_le _), ⟨Nat.zero_le _, fun _ h => absurd h List.not_mem_nil⟩, ⟨Nat.zero_le _, fun _ h => absurd h List.not_mem_nil⟩, ⟨Nat.zero_le _, fun _ h => absurd h List.not_mem_nil⟩, ⟨Nat.zero_le _, fun _ h => absurd h List.not_mem_nil⟩, ⟨Nat.zero_le _, fun _ h => absurd h List.not_mem_nil⟩, ⟨Nat.zero_le _, fun _ h => absurd h List.not_mem_nil⟩, Ji.dflt, Ya.dflt, Z2.dflt⟩
def Yt (x : ZX) : Prop := (LL Zi x.Zd)
theorem Yt.Zd {x : ZX} (h : Yt x) : LL Zi x.Zd := h
noncomputable def S.Wi (a0 : Zf) (i1 : Nat) : Option (Unit ⊕ Bool) :=
  bif decide ((((a0.Xk.getD i1 default).Xz).length : Int) > 20) then (some (.inr false)) else none
theorem ZeD (a0 : Zf) (ha0 : Zi a0) (i0 : Nat) : loopM (M.Wi a0) (i0 : Int) = some (runN (S.Wi a0) (.inl ()) i0 (a0.Xk.length - i0)) := by
  have hM := Zm
  have hni1 : a0.Xk.length ≤ maxLen := (Zi.Xk ha0).1
  refine Z3 (n := a0.Xk.length) (fun i1 hi1 => ?_) (fun m hm => ?_) i0
  · unfold M.Wi S.Wi
    try simp only [Int.toNat_natCast]
    refine XV (dt (by omega)) ?_
    refine Yx (Zs (dt (by omega)) (Zs (dt (by omega)) XF)) ?_
    refine XN (fun hb2 => ?_) (fun hb2 => ?_)
    · exact Xt
    · exact JF (by omega)
  · unfold M.Wi
    try simp only [Int.toNat_natCast]
    exact XW (decide_eq_false (by omega)) rfl
noncomputable def S.Wj (a0 : Zf) (i6 : Nat) : Option (Unit ⊕ Bool) :=
  bif decide ((((a0.Z8.getD i6 default).Xl).length : Int) > 12) then (some (.inr false)) else none
theorem ZeE (a0 : Zf) (ha0 : Zi a0) (i0 : Nat) : loopM (M.Wj a0) (i0 : Int) = some (runN (S.Wj a0) (.inl ()) i0 (a0.Z8.length - i0)) := by
  have hM := Zm
  have hni6 : a0.Z8.length ≤ maxLen := (Zi.Z8 ha0).1
  refine Z3 (n := a0.Z8.length) (fun i6 hi6 => ?_) (fun m hm => ?_) i0
  · unfold M.Wj S.Wj
    try simp only [Int.toNat_natCast]
    refine XV (dt (by omega)) ?_
    refine Yx (Zs (dt (by omega)) (Zs (dt (by omega)) XF)) ?_
    refine XN (fun hb3 => ?_) (fun hb3 => ?_)
    · exact Xt
    · exact JF (by omega)
  · unfold M.Wj
    try simp only [Int.toNat_natCast]
    exact XW (decide_eq_false (by omega)) rfl
noncomputable def S.Wk (a0 : Zf) (i11 : Nat) : Option (Unit ⊕ Bool) :=
  bif decide ((((a0.XO.getD i11 default).Xz).length : Int) > 20) then (some (.inr false)) else none
theorem ZeF (a0 : Zf) (ha0 : Zi a0) (i0 : Nat) : loopM (M.Wk a0) (i0 : Int) = some (runN (S.Wk a0) (.inl ()) i0 (a0.XO.length - i0)) := by
  have hM := Zm
  have hni11 : a0.XO.length ≤ maxLen := (Zi.XO ha0).1
  refine Z3 (n := a0.XO.length) (fun i11 hi11 => ?_) (fun m hm => ?_) i0
  · unfold M.Wk S.Wk
    try simp only [Int.toNat_natCast]
    refine XV (dt (by omega)) ?_
    refine Yx (Zs (dt (by omega)) (Zs (dt (by omega)) XF)) ?_
    refine XN (fun hb4 => ?_) (fun hb4 => ?_)
    · exact Xt
    · exact JF (by omega)
  · unfold M.Wk
    try simp only [Int.toNat_natCast]
    exact XW (decide_eq_false (by omega)) rfl
noncomputable def S.VH (a0 : Zf) : Bool :=
  bif (((((((((((((decide ((a0.Zc.length : Int) > 12)) || (decide ((a0.Xk.length : Int) > 12))) || (decide ((a0.Z8.length : Int) > 12))) || (decide ((a0.XO.length : Int) > 12))) || (decide ((a0.Xd.length : Int) > 12))) || (decide ((a0.Zq.length : Int) > 20))) || (decide ((a0.Yi.ZK.length : Int) > 8))) || (decide ((a0.Yi.Zv.length : Int) > 8))) || (decide ((a0.YC.Zv.length : Int) > 8))) || (decide ((a0.Xb.Zv.length : Int) > 8))) || (decide ((a0.Xb.Zl.length : Int) > 12))) || (decide ((a0.Xb.Zt.length : Int) > 12))) || (decide ((a0.Xb.Zr.length : Int) > 12))) || (decide ((a0.Xb.Zo.length : Int) > 12)) then false else (letS (runN (S.Wi a0) (.inl ()) 0 a0.Xk.length) (fun y3 => Sum.elim (fun _ => letS (runN (S.Wj a0) (.inl ()) 0 a0.Z8.length) (fun y8 => Sum.elim (fun _ => letS (runN (S.Wk a0) (.inl ()) 0 a0.XO.length) (fun y13 => Sum.elim (fun _ => true) (fun y15 => y15) y13)) (fun y10 => y10) y8)) (fun y5 => y5) y3))
theorem Zhb (a0 : Zf) (ha0 : Zi a0) : M.VH a0 = some (S.VH a0) := by
  have hM := Zm
  unfold M.VH S.VH
  refine Jf (fun hb1 => ?_) (fun hb1 => ?_)
  · rfl
  · refine ZZ (ZeD a0 ha0 0) (fun y3 hey3 => ?_)
    refine Qp (fun _ hl => ?_) (fun y5 hly5 => ?_)
    · refine ZZ (ZeE a0 ha0 0) (fun y8 hey8 => ?_)
      refine Qp (fun _ hl => ?_) (fun y10 hly10 => ?_)
      · refine ZZ (ZeF a0 ha0 0) (fun y13 hey13 => ?_)
        refine Qp (fun _ hl => ?_) (fun y15 hly15 => ?_)
        · rfl
        · rfl
      · rfl
    · rfl
noncomputable def S.YW (a0 : ZX) (i1 : Nat) : Option (Unit ⊕ Bool) :=
  letS (S.VH (a0.Zd.getD i1 default)) (fun r3 => bif !r3 then (some (.inr false)) else none)
theorem Zd9 (a0 : ZX) (ha0 : Yt a0) (i0 : Nat) : loopM (M.YW a0) (i0 : Int) = some (runN (S.YW a0) (.inl ()) i0 (a0.Zd.length - i0)) := by
  have hM := Zm
  have hni1 : a0.Zd.length ≤ maxLen := (Yt.Zd ha0).1
  refine Z3 (n := a0.Zd.length) (fun i1 hi1 => ?_) (fun m hm => ?_) i0
  · unfold M.YW S.YW
    try simp only [Int.toNat_natCast]
    refine XV (dt (by omega)) ?_
    refine ZO (Zhb (a0.Zd.getD i1 default) (LL.getD (Yt.Zd ha0) Zi.dflt i1)) (fun r3 her3 => ?_)
    refine Yx (Zs (dt (by omega)) (Zs (dt (by omega)) XF)) ?_
    refine XN (fun hb2 => ?_) (fun hb2 => ?_)
    · exact Xt
    · exact JF (by omega)
  · unfold M.YW
    try simp only [Int.toNat_natCast]
    exact XW (decide_eq_false (by omega)) rfl
noncomputable def S.VL (a0 : ZX) : Bool :=
  bif decide ((a0.Zd.length : Int) > 9) then false else (letS (runN (S.YW a0) (.inl ()) 0 a0.Zd.length) (fun y4 => Sum.elim (fun _ => true) (fun y6 => y6) y4))
theorem Zf5 (a0 : ZX) (ha0 : Yt a0) : M.VL a0 = some (S.VL a0) := by
  have hM := Zm
  unfold M.VL S.VL
  refine Jf (fun hb1 => ?_) (fun hb1 => ?_)
  · rfl
  · refine ZZ (Zd9 a0 ha0 0) (fun y4 hey4 => ?_)
    refine Qp (fun _ hl => ?_) (fun y6 hly6 => ?_)
    · rfl
    · rfl
noncomputable def S.VM (a0 : Int) : Bool :=
  ((decide (65 ≤ a0)) && (decide (a0 ≤ 90))) || ((decide (97 ≤ a0)) && (decide (a0 ≤ 122)))
theorem Zco (a0 : Int)  : M.VM a0 = some (S.VM a0) := by
  have hM := Zm
  unfold M.VM S.VM
  rfl
noncomputable def S.W5 (a0 : Int) : Bool :=
  (decide (48 ≤ a0)) && (decide (a0 ≤ 57))
theorem Zhc (a0 : Int)  : M.W5 a0 = some (S.W5 a0) := by
  have hM := Zm
  unfold M.W5 S.W5
  rfl
noncomputable def S.V3 (a0 : ByteArray) (i2 : Nat) : Option (Unit ⊕ Bool) :=
  letS (S.VM (byteAt a0 (i2 : Int))) (fun r4 => letS (bif (!r4) then S.W5 (byteAt a0 (i2 : Int)) else default) (fun r5 => bif (((((!r4) && (!r5)) && ((byteAt a0 (i2 : Int)) != 45)) && ((byteAt a0 (i2 : Int)) != 95)) && ((byteAt a0 (i2 : Int)) != 47)) && ((byteAt a0 (i2 : Int)) != 46) then (some (.inr false)) else none))
theorem ZfI (a0 : ByteArray) (ha0 : a0.size ≤ maxLen) (i0 : Nat) : loopM (M.V3 a0) (i0 : Int) = some (runN (S.V3 a0) (.inl ()) i0 (a0.size - i0)) := by
  have hM := Zm
  have hni2 : a0.size ≤ maxLen := ha0
  refine Z3 (n := a0.size) (fun i2 hi2 => ?_) (fun m hm => ?_) i0
  · unfold M.V3 S.V3
    try simp only [Int.toNat_natCast]
    refine XV (dt (by omega)) ?_
    refine Yx (Zs (dt (by omega)) (Zs (dt (by omega)) XF)) ?_
    refine ZO (Zco (byteAt a0 (i2 : Int))) (fun r4 her4 => ?_)
    refine ZO (Jr fun hg => (Zhc (byteAt a0 (i2 : Int)))) (fun r5 her5 => ?_)
    refine XN (fun hb2 => ?_) (fun hb2 => ?_)
    · exact Xt
    · exact JF (by omega)
  · unfold M.V3
    try simp only [Int.toNat_natCast]
    exact XW (decide_eq_false (by omega)) rfl
noncomputable def S.Wf (a0 : ByteArray) : Bool :=
  letS (bif (!((decide ((a0.size : Int) < 1)) || (decide ((a0.size : Int) > 15)))) then S.VM (byteAt a0 0) else default) (fun r1 => bif ((decide ((a0.size : Int) < 1)) || (decide ((a0.size : Int) > 15))) || (!r1) then false else (letS (runN (S.V3 a0) (.inl ()) 1 (a0.size - 1)) (fun y6 => Sum.elim (fun _ => true) (fun y8 => y8) y6)))
theorem Zbl (a0 : ByteArray) (ha0 : a0.size ≤ maxLen) : M.Wf a0 = some (S.Wf a0) := by
  have hM := Zm
  unfold M.Wf S.Wf
  refine ZZ (Jr fun hg => (Zco (byteAt a0 0))) (fun r1 her1 => ?_)
  refine Yx (Zs (JM fun hg => (dt (by first | omega | (simp; omega) | (simp at *; omega)))) (Zs (JM fun hg => (dt (by first | omega | (simp; omega) | (simp at *; omega)))) XF)) ?_
  refine Jf (fun hb1 => ?_) (fun hb1 => ?_)
  · rfl
  · refine ZZ (ZfI a0 ha0 1) (fun y6 hey6 => ?_)
    refine Qp (fun _ hl => ?_) (fun y8 hly8 => ?_)
    · rfl
    · rfl
noncomputable def S.ZP (a0 : Int) (a1 : Int) (a2 : Int) : Bool :=
  (decide (a1 ≤ a0)) && (decide (a0 ≤ a2))
theorem XU (a0 : Int) (a1 : Int) (a2 : Int)  : M.ZP a0 a1 a2 = some (S.ZP a0 a1 a2) := by
  have hM := Zm
  unfold M.ZP S.ZP
  rfl
noncomputable def S.Jt (a0 : Zy) (b0 : ByteArray) : Bool :=
  strEq a0.ZW b0
theorem ZbZ (a0 : Zy) (b0 : ByteArray) (ha0 : Xh a0) (hb0 : b0.size ≤ maxLen) : M.Jt a0 b0 = some (S.Jt a0 b0) := by
  have hM := Zm
  unfold M.Jt S.Jt
  rfl
noncomputable def S.ZE (a0 : List Zy) (a1c0 : ByteArray) (i1 : Nat) : Option (Unit ⊕ Int) :=
  letS (S.Jt (a0.getD i1 default) a1c0) (fun r3 => bif r3 then (some (.inr (i1 : Int))) else none)
theorem Vy (a0 : List Zy) (a1c0 : ByteArray) (ha0 : LL Xh a0) (ha1c0 : a1c0.size ≤ maxLen) (i0 : Nat) : loopM (M.ZE a0 a1c0) (i0 : Int) = some (runN (S.ZE a0 a1c0) (.inl ()) i0 (a0.length - i0)) := by
  have hM := Zm
  have hni1 : a0.length ≤ maxLen := ha0.1
  refine Z3 (n := a0.length) (fun i1 hi1 => ?_) (fun m hm => ?_) i0
  · unfold M.ZE S.ZE
    try simp only [Int.toNat_natCast]
    refine XV (dt (by omega)) ?_
    refine ZO (ZbZ (a0.getD i1 default) a1c0 (LL.getD ha0 Xh.dflt i1) ha1c0) (fun r3 her3 => ?_)
    refine Yx (Zs (dt (by omega)) (Zs (dt (by omega)) XF)) ?_
    refine XN (fun hb1 => ?_) (fun hb1 => ?_)
    · exact Xt
    · exact JF (by omega)
  · unfold M.ZE
    try simp only [Int.toNat_natCast]
    exact XW (decide_eq_false (by omega)) rfl
noncomputable def S.ZF (a0 : List Zy) (a1c0 : ByteArray) : Int :=
  letS (runN (S.ZE a0 a1c0) (.inl ()) 0 a0.length) (fun y4 => Sum.elim (fun _ => -1) (fun y6 => y6) y4)
theorem VO (a0 : List Zy) (a1c0 : ByteArray) (ha0 : LL Xh a0) (ha1c0 : a1c0.size ≤ maxLen) : M.ZF a0 a1c0 = some (S.ZF a0 a1c0) := by
  have hM := Zm
  unfold M.ZF S.ZF
  refine ZZ (Vy a0 a1c0 ha0 ha1c0 0) (fun y4 hey4 => ?_)
  refine Qp (fun _ hl => ?_) (fun y6 hly6 => ?_)
  · rfl
  · rfl
noncomputable def S.Qh (a0 : Zf) (a1 : ByteArray) : Int :=
  letS (S.ZF a0.Zc a1) (fun r1 => r1)
theorem K7 (a0 : Zf) (a1 : ByteArray) (ha0 : Zi a0) (ha1 : a1.size ≤ maxLen) : M.Qh a0 a1 = some (S.Qh a0 a1) := by
  have hM := Zm
  unfold M.Qh S.Qh
  refine ZZ (VO a0.Zc a1 (Zi.Zc ha0) ha1) (fun r1 her1 => ?_)
  rfl
theorem Kl (a0 : Zf) (a1 : ByteArray) : S.Qh a0 a1 < (a0.Zc.length : Int) := by
  unfold S.Qh S.ZF
  simp only [letS]
  exact ZkM (fun i => by unfold S.ZE; simp only [letS]; cases S.Jt (a0.Zc.getD i default) a1 <;> simp) _
noncomputable def S.Qq (a0 : Zy) : Bool :=
  letS (S.ZP a0.ZJ 0 32) (fun r1 => letS (bif (!(!r1)) then S.ZP a0.Xr 0 4094 else default) (fun r2 => letS (bif (!((!r1) || (!r2))) then S.ZP a0.Rw 0 2 else default) (fun r3 => bif ((!r1) || (!r2)) || (!r3) then false else (bif (a0.ZJ == 0) && (((((((a0.Zu != 0) || (a0.Xr != 0)) || (a0.Rw != 0)) || a0.Yi) || a0.YC) || (!strEq a0.VQ (⟨#[]⟩ : ByteArray))) || (!strEq a0.YV (⟨#[]⟩ : ByteArray))) then false else (bif (a0.ZJ != 0) && (a0.Zu == 0) then false else (bif a0.Yi then (letS (S.ZP a0.JV 0 255) (fun r4 => letS (bif r4 then S.ZP a0.K4 1 65535 else default) (fun r5 => r4 && r5))) else ((a0.JV == 0) && (a0.K4 == 0))))))))
theorem R9 (a0 : Zy) (ha0 : Xh a0) : M.Qq a0 = some (S.Qq a0) := by
  have hM := Zm
  unfold M.Qq S.Qq
  refine ZZ (XU a0.ZJ 0 32) (fun r1 her1 => ?_)
  refine ZZ (Jr fun hg => (XU a0.Xr 0 4094)) (fun r2 her2 => ?_)
  refine ZZ (Jr fun hg => (XU a0.Rw 0 2)) (fun r3 her3 => ?_)
  refine Jf (fun hb1 => ?_) (fun hb1 => ?_)
  · rfl
  · refine Jf (fun hb2 => ?_) (fun hb2 => ?_)
    · rfl
    · refine Jf (fun hb3 => ?_) (fun hb3 => ?_)
      · rfl
      · refine Jf (fun hb4 => ?_) (fun hb4 => ?_)
        · refine ZZ (XU a0.JV 0 255) (fun r4 her4 => ?_)
          refine ZZ (Jr fun hg => (XU a0.K4 1 65535)) (fun r5 her5 => ?_)
          rfl
        · rfl
noncomputable def S.YT (a0 : Int) (a1 : Int) : ZL :=
  letS (S.JU a1) (fun r1 => letS (S.JC a1) (fun r2 => (⟨bitD .and .u32 a0 r1, r2⟩ : ZL)))
theorem KJ (a0 : Int) (a1 : Int)  : M.YT a0 a1 = some (S.YT a0 a1) := by
  have hM := Zm
  unfold M.YT S.YT
  refine ZZ (Zbj a1) (fun r1 her1 => ?_)
  refine ZZ (ZdD a1) (fun r2 her2 => ?_)
  rfl
noncomputable def S.Wl (a0 : ZL) (a1 : Int) : Bool :=
  letS (S.JU a0.ZJ) (fun r1 => (bitD .and .u32 a1 r1) == a0.Zu)
theorem ZeG (a0 : ZL) (a1 : Int)  : M.Wl a0 a1 = some (S.Wl a0 a1) := by
  have hM := Zm
  unfold M.Wl S.Wl
  refine ZZ (Zbj a0.ZJ) (fun r1 her1 => ?_)
  rfl
noncomputable def S.Wt (a0 : ZL) (a1 : ZL) : Bool :=
  letS (bif (decide (a0.ZJ ≤ a1.ZJ)) then S.Wl a0 a1.Zu else default) (fun r1 => (decide (a0.ZJ ≤ a1.ZJ)) && r1)
theorem Zcp (a0 : ZL) (a1 : ZL)  : M.Wt a0 a1 = some (S.Wt a0 a1) := by
  have hM := Zm
  unfold M.Wt S.Wt
  refine ZZ (Jr fun hg => (ZeG a0 a1.Zu)) (fun r1 her1 => ?_)
  rfl
noncomputable def S.J4 (a0 : ZL) (a1 : ZL) : Bool :=
  letS (S.Wt a0 a1) (fun r1 => letS (bif (!r1) then S.Wt a1 a0 else default) (fun r2 => r1 || r2))
theorem Zat (a0 : ZL) (a1 : ZL)  : M.J4 a0 a1 = some (S.J4 a0 a1) := by
  have hM := Zm
  unfold M.J4 S.J4
  refine ZZ (Zcp a0 a1) (fun r1 her1 => ?_)
  refine ZZ (Jr fun hg => (Zcp a1 a0)) (fun r2 her2 => ?_)
  rfl
noncomputable def S.Yj (a0 : Zf) (i1 : Nat) (i6 : Nat) : Option (Unit ⊕ Int) :=
  letS (bif ((((a0.Zc.getD i1 default).ZJ) != 0) && (((((a0.Zc.drop 0).take (i1 - 0)).getD i6 default).ZJ) != 0)) then S.YT ((a0.Zc.getD i1 default).Zu) ((a0.Zc.getD i1 default).ZJ) else default) (fun r8 => letS (bif ((((a0.Zc.getD i1 default).ZJ) != 0) && (((((a0.Zc.drop 0).take (i1 - 0)).getD i6 default).ZJ) != 0)) then S.YT ((((a0.Zc.drop 0).take (i1 - 0)).getD i6 default).Zu) ((((a0.Zc.drop 0).take (i1 - 0)).getD i6 default).ZJ) else default) (fun r9 => letS (bif ((((a0.Zc.getD i1 default).ZJ) != 0) && (((((a0.Zc.drop 0).take (i1 - 0)).getD i6 default).ZJ) != 0)) then S.J4 r8 r9 else default) (fun r10 => bif ((((a0.Zc.getD i1 default).ZJ) != 0) && (((((a0.Zc.drop 0).take (i1 - 0)).getD i6 default).ZJ) != 0)) && r10 then (some (.inr 6)) else none)))
theorem KK (a0 : Zf) (i1 : Nat) (ha0 : Zi a0) (hi1 : i1 < a0.Zc.length) (i0 : Nat) : loopM (M.Yj a0 (i1 : Int)) (i0 : Int) = some (runN (S.Yj a0 i1) (.inl ()) i0 (i1 - i0)) := by
  have hM := Zm
  have hni1 : a0.Zc.length ≤ maxLen := (Zi.Zc ha0).1
  have hni6 : i1 ≤ maxLen := (by omega)
  refine Z3 (n := i1) (fun i6 hi6 => ?_) (fun m hm => ?_) i0
  · unfold M.Yj S.Yj
    try simp only [Int.toNat_natCast]
    refine XV (dt (by omega)) ?_
    refine Yx (Zs (dt (by omega)) (Zs (dt (by simp; omega)) XF)) ?_
    refine ZO (Jr fun hg => (KJ ((a0.Zc.getD i1 default).Zu) ((a0.Zc.getD i1 default).ZJ))) (fun r8 her8 => ?_)
    refine ZO (Jr fun hg => (KJ ((((a0.Zc.drop 0).take (i1 - 0)).getD i6 default).Zu) ((((a0.Zc.drop 0).take (i1 - 0)).getD i6 default).ZJ))) (fun r9 her9 => ?_)
    refine ZO (Jr fun hg => (Zat r8 r9)) (fun r10 her10 => ?_)
    refine XN (fun hb5 => ?_) (fun hb5 => ?_)
    · exact Xt
    · exact JF (by omega)
  · unfold M.Yj
    try simp only [Int.toNat_natCast]
    exact XW (decide_eq_false (by omega)) rfl
noncomputable def S.Yz (a0 : Zf) (i1 : Nat) : Option (Unit ⊕ Int) :=
  letS (S.Wf ((a0.Zc.getD i1 default).ZW)) (fun r3 => bif !r3 then (some (.inr 3)) else (letS (S.Qh a0 ((a0.Zc.getD i1 default).ZW)) (fun r4 => bif decide (r4 < (i1 : Int)) then (some (.inr 4)) else (letS (S.Qq (a0.Zc.getD i1 default)) (fun r5 => bif !r5 then (some (.inr 1)) else (letS (runN (S.Yj a0 i1) (.inl ()) 0 i1) (fun y11 => Sum.elim (fun _ => none) (fun y13 => some (.inr y13)) y11)))))))
theorem KL (a0 : Zf) (ha0 : Zi a0) (i0 : Nat) : loopM (M.Yz a0) (i0 : Int) = some (runN (S.Yz a0) (.inl ()) i0 (a0.Zc.length - i0)) := by
  have hM := Zm
  have hni1 : a0.Zc.length ≤ maxLen := (Zi.Zc ha0).1
  refine Z3 (n := a0.Zc.length) (fun i1 hi1 => ?_) (fun m hm => ?_) i0
  · unfold M.Yz S.Yz
    try simp only [Int.toNat_natCast]
    refine XV (dt (by omega)) ?_
    refine Yx (Zs (dt (by omega)) (Zs (dt (by omega)) XF)) ?_
    refine ZO (Zbl ((a0.Zc.getD i1 default).ZW) (Xh.ZW (LL.getD (Zi.Zc ha0) Xh.dflt i1))) (fun r3 her3 => ?_)
    refine XN (fun hb2 => ?_) (fun hb2 => ?_)
    · exact Xt
    · refine ZO (K7 a0 ((a0.Zc.getD i1 default).ZW) ha0 (Xh.ZW (LL.getD (Zi.Zc ha0) Xh.dflt i1))) (fun r4 her4 => ?_)
      have hrr4 := Kl a0 ((a0.Zc.getD i1 default).ZW)
      refine XN (fun hb3 => ?_) (fun hb3 => ?_)
      · exact Xt
      · refine ZO (R9 (a0.Zc.getD i1 default) (LL.getD (Zi.Zc ha0) Xh.dflt i1)) (fun r5 her5 => ?_)
        refine XN (fun hb4 => ?_) (fun hb4 => ?_)
        · exact Xt
        · refine Yx (Zs (dt (by omega)) (Zs (dt (by omega)) XF)) ?_
          refine ZO (KK a0 i1 ha0 hi1 0) (fun y11 hey11 => ?_)
          refine JS (fun _ hl => ?_) (fun y13 hly13 => ?_)
          · exact JF (by omega)
          · exact Xt
  · unfold M.Yz
    try simp only [Int.toNat_natCast]
    exact XW (decide_eq_false (by omega)) rfl
noncomputable def S.YH (a0 : Zf) : Int :=
  bif decide ((a0.Zc.length : Int) > 8) then 7 else (letS (runN (S.Yz a0) (.inl ()) 0 a0.Zc.length) (fun y14 => Sum.elim (fun _ => 0) (fun y16 => y16) y14))
theorem RJ (a0 : Zf) (ha0 : Zi a0) : M.YH a0 = some (S.YH a0) := by
  have hM := Zm
  unfold M.YH S.YH
  refine Jf (fun hb1 => ?_) (fun hb1 => ?_)
  · rfl
  · refine ZZ (KL a0 ha0 0) (fun y14 hey14 => ?_)
    refine Qp (fun _ hl => ?_) (fun y16 hly16 => ?_)
    · rfl
    · rfl
noncomputable def S.JD (a0 : Z1) (b0 : ByteArray) : Bool :=
  strEq a0.ZW b0
theorem Zbm (a0 : Z1) (b0 : ByteArray) (ha0 : X2 a0) (hb0 : b0.size ≤ maxLen) : M.JD a0 b0 = some (S.JD a0 b0) := by
  have hM := Zm
  unfold M.JD S.JD
  rfl
noncomputable def S.ZG (a0 : List Z1) (a1c0 : ByteArray) (i1 : Nat) : Option (Unit ⊕ Int) :=
  letS (S.JD (a0.getD i1 default) a1c0) (fun r3 => bif r3 then (some (.inr (i1 : Int))) else none)
theorem Vg (a0 : List Z1) (a1c0 : ByteArray) (ha0 : LL X2 a0) (ha1c0 : a1c0.size ≤ maxLen) (i0 : Nat) : loopM (M.ZG a0 a1c0) (i0 : Int) = some (runN (S.ZG a0 a1c0) (.inl ()) i0 (a0.length - i0)) := by
  have hM := Zm
  have hni1 : a0.length ≤ maxLen := ha0.1
  refine Z3 (n := a0.length) (fun i1 hi1 => ?_) (fun m hm => ?_) i0
  · unfold M.ZG S.ZG
    try simp only [Int.toNat_natCast]
    refine XV (dt (by omega)) ?_
    refine ZO (Zbm (a0.getD i1 default) a1c0 (LL.getD ha0 X2.dflt i1) ha1c0) (fun r3 her3 => ?_)
    refine Yx (Zs (dt (by omega)) (Zs (dt (by omega)) XF)) ?_
    refine XN (fun hb1 => ?_) (fun hb1 => ?_)
    · exact Xt
    · exact JF (by omega)
  · unfold M.ZG
    try simp only [Int.toNat_natCast]
    exact XW (decide_eq_false (by omega)) rfl
noncomputable def S.ZM (a0 : List Z1) (a1c0 : ByteArray) : Int :=
  letS (runN (S.ZG a0 a1c0) (.inl ()) 0 a0.length) (fun y4 => Sum.elim (fun _ => -1) (fun y6 => y6) y4)
theorem Vz (a0 : List Z1) (a1c0 : ByteArray) (ha0 : LL X2 a0) (ha1c0 : a1c0.size ≤ maxLen) : M.ZM a0 a1c0 = some (S.ZM a0 a1c0) := by
  have hM := Zm
  unfold M.ZM S.ZM
  refine ZZ (Vg a0 a1c0 ha0 ha1c0 0) (fun y4 hey4 => ?_)
  refine Qp (fun _ hl => ?_) (fun y6 hly6 => ?_)
  · rfl
  · rfl
noncomputable def S.Yo (a0 : Zf) (a1 : ByteArray) : Int :=
  letS (S.ZM a0.Xk a1) (fun r1 => r1)
theorem UD (a0 : Zf) (a1 : ByteArray) (ha0 : Zi a0) (ha1 : a1.size ≤ maxLen) : M.Yo a0 a1 = some (S.Yo a0 a1) := by
  have hM := Zm
  unfold M.Yo S.Yo
  refine ZZ (Vz a0.Xk a1 (Zi.Xk ha0) ha1) (fun r1 her1 => ?_)
  rfl
noncomputable def S.YQ (a0 : Int) (a1 : Int) (a2 : ByteArray) (a3 : Int) (a4 : Int) : Int :=
  letS (S.Wf a2) (fun r1 => bif !r1 then 3 else (bif decide (a1 < a0) then 4 else (bif a3 == 0 then 1 else (bif decide (a3 > a4) then 7 else 0))))
theorem GU (a0 : Int) (a1 : Int) (a2 : ByteArray) (a3 : Int) (a4 : Int) (ha2 : a2.size ≤ maxLen) : M.YQ a0 a1 a2 a3 a4 = some (S.YQ a0 a1 a2 a3 a4) := by
  have hM := Zm
  unfold M.YQ S.YQ
  refine ZZ (Zbl a2 ha2) (fun r1 her1 => ?_)
  refine Jf (fun hb1 => ?_) (fun hb1 => ?_)
  · rfl
  · refine Jf (fun hb2 => ?_) (fun hb2 => ?_)
    · rfl
    · refine Jf (fun hb3 => ?_) (fun hb3 => ?_)
      · rfl
      · refine Jf (fun hb4 => ?_) (fun hb4 => ?_)
        · rfl
        · rfl
noncomputable def S.QO (a0 : ZL) : Bool :=
  letS (bif ((decide (a0.ZJ ≥ 0)) && (decide (a0.ZJ ≤ 32))) then S.JU a0.ZJ else default) (fun r1 => ((decide (a0.ZJ ≥ 0)) && (decide (a0.ZJ ≤ 32))) && ((bitD .andNot .u32 a0.Zu r1) == 0))
theorem UE (a0 : ZL)  : M.QO a0 = some (S.QO a0) := by
  have hM := Zm
  unfold M.QO S.QO
  refine ZZ (Jr fun hg => (Zbj a0.ZJ)) (fun r1 her1 => ?_)
  rfl
noncomputable def S.Yd (a0 : Zf) (i1 : Nat) (i5 : Nat) : Option (Unit ⊕ Int) :=
  letS (S.QO ((((a0.Xk.getD i1 default).Xz).getD i5 default).Zp)) (fun r7 => bif (((!r7) || (decide (((((a0.Xk.getD i1 default).Xz).getD i5 default).ZbR) < (((((a0.Xk.getD i1 default).Xz).getD i5 default).Zp).ZJ)))) || (decide (((((a0.Xk.getD i1 default).Xz).getD i5 default).ZbS) < ((((a0.Xk.getD i1 default).Xz).getD i5 default).ZbR)))) || (decide (((((a0.Xk.getD i1 default).Xz).getD i5 default).ZbS) > 32)) then (some (.inr 1)) else none)
theorem Kv (a0 : Zf) (i1 : Nat) (ha0 : Zi a0) (hi1 : i1 < a0.Xk.length) (i0 : Nat) : loopM (M.Yd a0 (i1 : Int)) (i0 : Int) = some (runN (S.Yd a0 i1) (.inl ()) i0 (((a0.Xk.getD i1 default).Xz).length - i0)) := by
  have hM := Zm
  have hni1 : a0.Xk.length ≤ maxLen := (Zi.Xk ha0).1
  have hni5 : ((a0.Xk.getD i1 default).Xz).length ≤ maxLen := (X2.Xz (LL.getD (Zi.Xk ha0) X2.dflt i1))
  refine Z3 (n := ((a0.Xk.getD i1 default).Xz).length) (fun i5 hi5 => ?_) (fun m hm => ?_) i0
  · unfold M.Yd S.Yd
    try simp only [Int.toNat_natCast]
    refine XV (dt (by omega)) ?_
    refine Yx (Zs (dt (by omega)) (Zs (dt (by omega)) XF)) ?_
    refine ZO (UE ((((a0.Xk.getD i1 default).Xz).getD i5 default).Zp)) (fun r7 her7 => ?_)
    refine XN (fun hb3 => ?_) (fun hb3 => ?_)
    · exact Xt
    · exact JF (by omega)
  · unfold M.Yd
    try simp only [Int.toNat_natCast]
    exact XW (decide_eq_false (by omega)) rfl
noncomputable def S.Yn (a0 : Zf) (i1 : Nat) : Option (Unit ⊕ Int) :=
  letS (S.Yo a0 ((a0.Xk.getD i1 default).ZW)) (fun r3 => letS (S.YQ (i1 : Int) r3 ((a0.Xk.getD i1 default).ZW) (((a0.Xk.getD i1 default).Xz).length : Int) 16) (fun r4 => bif r4 != 0 then (some (.inr r4)) else (letS (runN (S.Yd a0 i1) (.inl ()) 0 (((a0.Xk.getD i1 default).Xz).length)) (fun y8 => Sum.elim (fun _ => none) (fun y10 => some (.inr y10)) y8))))
theorem Kw (a0 : Zf) (ha0 : Zi a0) (i0 : Nat) : loopM (M.Yn a0) (i0 : Int) = some (runN (S.Yn a0) (.inl ()) i0 (a0.Xk.length - i0)) := by
  have hM := Zm
  have hni1 : a0.Xk.length ≤ maxLen := (Zi.Xk ha0).1
  refine Z3 (n := a0.Xk.length) (fun i1 hi1 => ?_) (fun m hm => ?_) i0
  · unfold M.Yn S.Yn
    try simp only [Int.toNat_natCast]
    refine XV (dt (by omega)) ?_
    refine Yx (Zs (dt (by omega)) (Zs (dt (by omega)) XF)) ?_
    refine ZO (UD a0 ((a0.Xk.getD i1 default).ZW) ha0 (X2.ZW (LL.getD (Zi.Xk ha0) X2.dflt i1))) (fun r3 her3 => ?_)
    refine ZO (GU (i1 : Int) r3 ((a0.Xk.getD i1 default).ZW) (((a0.Xk.getD i1 default).Xz).length : Int) 16 (X2.ZW (LL.getD (Zi.Xk ha0) X2.dflt i1))) (fun r4 her4 => ?_)
    refine XN (fun hb2 => ?_) (fun hb2 => ?_)
    · exact Xt
    · refine ZO (Kv a0 i1 ha0 hi1 0) (fun y8 hey8 => ?_)
      refine JS (fun _ hl => ?_) (fun y10 hly10 => ?_)
      · exact JF (by omega)
      · exact Xt
  · unfold M.Yn
    try simp only [Int.toNat_natCast]
    exact XW (decide_eq_false (by omega)) rfl
noncomputable def S.YA (a0 : Zf) : Int :=
  bif decide ((a0.Xk.length : Int) > 8) then 7 else (letS (runN (S.Yn a0) (.inl ()) 0 a0.Xk.length) (fun y11 => Sum.elim (fun _ => 0) (fun y13 => y13) y11))
theorem Rl (a0 : Zf) (ha0 : Zi a0) : M.YA a0 = some (S.YA a0) := by
  have hM := Zm
  unfold M.YA S.YA
  refine Jf (fun hb1 => ?_) (fun hb1 => ?_)
  · rfl
  · refine ZZ (Kw a0 ha0 0) (fun y11 hey11 => ?_)
    refine Qp (fun _ hl => ?_) (fun y13 hly13 => ?_)
    · rfl
    · rfl
noncomputable def S.Va (a0 : X1) (b0 : ByteArray) : Bool :=
  strEq a0.ZW b0
theorem ZcO (a0 : X1) (b0 : ByteArray) (ha0 : Yh a0) (hb0 : b0.size ≤ maxLen) : M.Va a0 b0 = some (S.Va a0 b0) := by
  have hM := Zm
  unfold M.Va S.Va
  rfl
noncomputable def S.ZT (a0 : List X1) (a1c0 : ByteArray) (i1 : Nat) : Option (Unit ⊕ Int) :=
  letS (S.Va (a0.getD i1 default) a1c0) (fun r3 => bif r3 then (some (.inr (i1 : Int))) else none)
theorem VP (a0 : List X1) (a1c0 : ByteArray) (ha0 : LL Yh a0) (ha1c0 : a1c0.size ≤ maxLen) (i0 : Nat) : loopM (M.ZT a0 a1c0) (i0 : Int) = some (runN (S.ZT a0 a1c0) (.inl ()) i0 (a0.length - i0)) := by
  have hM := Zm
  have hni1 : a0.length ≤ maxLen := ha0.1
  refine Z3 (n := a0.length) (fun i1 hi1 => ?_) (fun m hm => ?_) i0
  · unfold M.ZT S.ZT
    try simp only [Int.toNat_natCast]
    refine XV (dt (by omega)) ?_
    refine ZO (ZcO (a0.getD i1 default) a1c0 (LL.getD ha0 Yh.dflt i1) ha1c0) (fun r3 her3 => ?_)
    refine Yx (Zs (dt (by omega)) (Zs (dt (by omega)) XF)) ?_
    refine XN (fun hb1 => ?_) (fun hb1 => ?_)
    · exact Xt
    · exact JF (by omega)
  · unfold M.ZT
    try simp only [Int.toNat_natCast]
    exact XW (decide_eq_false (by omega)) rfl
noncomputable def S.Z0 (a0 : List X1) (a1c0 : ByteArray) : Int :=
  letS (runN (S.ZT a0 a1c0) (.inl ()) 0 a0.length) (fun y4 => Sum.elim (fun _ => -1) (fun y6 => y6) y4)
theorem Wa (a0 : List X1) (a1c0 : ByteArray) (ha0 : LL Yh a0) (ha1c0 : a1c0.size ≤ maxLen) : M.Z0 a0 a1c0 = some (S.Z0 a0 a1c0) := by
  have hM := Zm
  unfold M.Z0 S.Z0
  refine ZZ (VP a0 a1c0 ha0 ha1c0 0) (fun y4 hey4 => ?_)
  refine Qp (fun _ hl => ?_) (fun y6 hly6 => ?_)
  · rfl
  · rfl
noncomputable def S.YX (a0 : Zf) (a1 : ByteArray) : Int :=
  letS (S.Z0 a0.Z8 a1) (fun r1 => r1)
theorem Ga (a0 : Zf) (a1 : ByteArray) (ha0 : Zi a0) (ha1 : a1.size ≤ maxLen) : M.YX a0 a1 = some (S.YX a0 a1) := by
  have hM := Zm
  unfold M.YX S.YX
  refine ZZ (Wa a0.Z8 a1 (Zi.Z8 ha0) ha1) (fun r1 her1 => ?_)
  rfl
noncomputable def S.QW (a0 : GK) : Bool :=
  letS (S.ZP a0.US (-1) 65535) (fun r1 => letS (bif r1 then S.ZP a0.WL (-1) 16777215 else default) (fun r2 => letS (bif (r1 && r2) then S.ZP a0.GL (-1) 65535 else default) (fun r3 => letS (bif ((r1 && r2) && r3) then S.ZP a0.UZ (-1) 1000000 else default) (fun r4 => letS (bif (((r1 && r2) && r3) && r4) then S.ZP a0.U0 0 8 else default) (fun r5 => (((r1 && r2) && r3) && r4) && r5)))))
theorem Zb0 (a0 : GK) (ha0 : WJ a0) : M.QW a0 = some (S.QW a0) := by
  have hM := Zm
  unfold M.QW S.QW
  refine ZZ (XU a0.US (-1) 65535) (fun r1 her1 => ?_)
  refine ZZ (Jr fun hg => (XU a0.WL (-1) 16777215)) (fun r2 her2 => ?_)
  refine ZZ (Jr fun hg => (XU a0.GL (-1) 65535)) (fun r3 her3 => ?_)
  refine ZZ (Jr fun hg => (XU a0.UZ (-1) 1000000)) (fun r4 her4 => ?_)
  refine ZZ (Jr fun hg => (XU a0.U0 0 8)) (fun r5 her5 => ?_)
  rfl
noncomputable def S.Yp (a0 : Zf) (i1 : Nat) (i5 : Nat) : Option (Unit ⊕ Int) :=
  letS (bif (!strEq ((((a0.Z8.getD i1 default).Xl).getD i5 default).QP) (⟨#[]⟩ : ByteArray)) then S.Yo a0 ((((a0.Z8.getD i1 default).Xl).getD i5 default).QP) else default) (fun r7 => bif (!strEq ((((a0.Z8.getD i1 default).Xl).getD i5 default).QP) (⟨#[]⟩ : ByteArray)) && (decide (r7 < 0)) then (some (.inr 5)) else (letS (S.QW (((a0.Z8.getD i1 default).Xl).getD i5 default)) (fun r8 => bif !r8 then (some (.inr 1)) else none)))
theorem KS (a0 : Zf) (i1 : Nat) (ha0 : Zi a0) (hi1 : i1 < a0.Z8.length) (i0 : Nat) : loopM (M.Yp a0 (i1 : Int)) (i0 : Int) = some (runN (S.Yp a0 i1) (.inl ()) i0 (((a0.Z8.getD i1 default).Xl).length - i0)) := by
  have hM := Zm
  have hni1 : a0.Z8.length ≤ maxLen := (Zi.Z8 ha0).1
  have hni5 : ((a0.Z8.getD i1 default).Xl).length ≤ maxLen := (Yh.Xl (LL.getD (Zi.Z8 ha0) Yh.dflt i1)).1
  refine Z3 (n := ((a0.Z8.getD i1 default).Xl).length) (fun i5 hi5 => ?_) (fun m hm => ?_) i0
  · unfold M.Yp S.Yp
    try simp only [Int.toNat_natCast]
    refine XV (dt (by omega)) ?_
    refine Yx (Zs (dt (by omega)) (Zs (dt (by omega)) XF)) ?_
    refine ZO (Jr fun hg => (UD a0 ((((a0.Z8.getD i1 default).Xl).getD i5 default).QP) ha0 (WJ.QP (LL.getD (Yh.Xl (LL.getD (Zi.Z8 ha0) Yh.dflt i1)) WJ.dflt i5)))) (fun r7 her7 => ?_)
    refine XN (fun hb3 => ?_) (fun hb3 => ?_)
    · exact Xt
    · refine ZO (Zb0 (((a0.Z8.getD i1 default).Xl).getD i5 default) (LL.getD (Yh.Xl (LL.getD (Zi.Z8 ha0) Yh.dflt i1)) WJ.dflt i5)) (fun r8 her8 => ?_)
      refine XN (fun hb4 => ?_) (fun hb4 => ?_)
      · exact Xt
      · exact JF (by omega)
  · unfold M.Yp
    try simp only [Int.toNat_natCast]
    exact XW (decide_eq_false (by omega)) rfl
noncomputable def S.YE (a0 : Zf) (i1 : Nat) : Option (Unit ⊕ Int) :=
  letS (S.YX a0 ((a0.Z8.getD i1 default).ZW)) (fun r3 => letS (S.YQ (i1 : Int) r3 ((a0.Z8.getD i1 default).ZW) (((a0.Z8.getD i1 default).Xl).length : Int) 8) (fun r4 => bif r4 != 0 then (some (.inr r4)) else (letS (runN (S.Yp a0 i1) (.inl ()) 0 (((a0.Z8.getD i1 default).Xl).length)) (fun y9 => Sum.elim (fun _ => none) (fun y11 => some (.inr y11)) y9))))
theorem KT (a0 : Zf) (ha0 : Zi a0) (i0 : Nat) : loopM (M.YE a0) (i0 : Int) = some (runN (S.YE a0) (.inl ()) i0 (a0.Z8.length - i0)) := by
  have hM := Zm
  have hni1 : a0.Z8.length ≤ maxLen := (Zi.Z8 ha0).1
  refine Z3 (n := a0.Z8.length) (fun i1 hi1 => ?_) (fun m hm => ?_) i0
  · unfold M.YE S.YE
    try simp only [Int.toNat_natCast]
    refine XV (dt (by omega)) ?_
    refine Yx (Zs (dt (by omega)) (Zs (dt (by omega)) XF)) ?_
    refine ZO (Ga a0 ((a0.Z8.getD i1 default).ZW) ha0 (Yh.ZW (LL.getD (Zi.Z8 ha0) Yh.dflt i1))) (fun r3 her3 => ?_)
    refine ZO (GU (i1 : Int) r3 ((a0.Z8.getD i1 default).ZW) (((a0.Z8.getD i1 default).Xl).length : Int) 8 (Yh.ZW (LL.getD (Zi.Z8 ha0) Yh.dflt i1))) (fun r4 her4 => ?_)
    refine XN (fun hb2 => ?_) (fun hb2 => ?_)
    · exact Xt
    · refine ZO (KS a0 i1 ha0 hi1 0) (fun y9 hey9 => ?_)
      refine JS (fun _ hl => ?_) (fun y11 hly11 => ?_)
      · exact JF (by omega)
      · exact Xt
  · unfold M.YE
    try simp only [Int.toNat_natCast]
    exact XW (decide_eq_false (by omega)) rfl
noncomputable def S.YY (a0 : Zf) : Int :=
  bif decide ((a0.Z8.length : Int) > 8) then 7 else (letS (runN (S.YE a0) (.inl ()) 0 a0.Z8.length) (fun y12 => Sum.elim (fun _ => 0) (fun y14 => y14) y12))
theorem Zaa (a0 : Zf) (ha0 : Zi a0) : M.YY a0 = some (S.YY a0) := by
  have hM := Zm
  unfold M.YY S.YY
  refine Jf (fun hb1 => ?_) (fun hb1 => ?_)
  · rfl
  · refine ZZ (KT a0 ha0 0) (fun y12 hey12 => ?_)
    refine Qp (fun _ hl => ?_) (fun y14 hly14 => ?_)
    · rfl
    · rfl
noncomputable def S.WX (a0 : WD) (b0 : ByteArray) : Bool :=
  strEq a0.ZW b0
theorem Zf6 (a0 : WD) (b0 : ByteArray) (ha0 : Wh a0) (hb0 : b0.size ≤ maxLen) : M.WX a0 b0 = some (S.WX a0 b0) := by
  have hM := Zm
  unfold M.WX S.WX
  rfl
noncomputable def S.Xe (a0 : List WD) (a1c0 : ByteArray) (i1 : Nat) : Option (Unit ⊕ Int) :=
  letS (S.WX (a0.getD i1 default) a1c0) (fun r3 => bif r3 then (some (.inr (i1 : Int))) else none)
theorem WT (a0 : List WD) (a1c0 : ByteArray) (ha0 : LL Wh a0) (ha1c0 : a1c0.size ≤ maxLen) (i0 : Nat) : loopM (M.Xe a0 a1c0) (i0 : Int) = some (runN (S.Xe a0 a1c0) (.inl ()) i0 (a0.length - i0)) := by
  have hM := Zm
  have hni1 : a0.length ≤ maxLen := ha0.1
  refine Z3 (n := a0.length) (fun i1 hi1 => ?_) (fun m hm => ?_) i0
  · unfold M.Xe S.Xe
    try simp only [Int.toNat_natCast]
    refine XV (dt (by omega)) ?_
    refine ZO (Zf6 (a0.getD i1 default) a1c0 (LL.getD ha0 Wh.dflt i1) ha1c0) (fun r3 her3 => ?_)
    refine Yx (Zs (dt (by omega)) (Zs (dt (by omega)) XF)) ?_
    refine XN (fun hb1 => ?_) (fun hb1 => ?_)
    · exact Xt
    · exact JF (by omega)
  · unfold M.Xe
    try simp only [Int.toNat_natCast]
    exact XW (decide_eq_false (by omega)) rfl
noncomputable def S.Xm (a0 : List WD) (a1c0 : ByteArray) : Int :=
  letS (runN (S.Xe a0 a1c0) (.inl ()) 0 a0.length) (fun y4 => Sum.elim (fun _ => -1) (fun y6 => y6) y4)
theorem W3 (a0 : List WD) (a1c0 : ByteArray) (ha0 : LL Wh a0) (ha1c0 : a1c0.size ≤ maxLen) : M.Xm a0 a1c0 = some (S.Xm a0 a1c0) := by
  have hM := Zm
  unfold M.Xm S.Xm
  refine ZZ (WT a0 a1c0 ha0 ha1c0 0) (fun y4 hey4 => ?_)
  refine Qp (fun _ hl => ?_) (fun y6 hly6 => ?_)
  · rfl
  · rfl
noncomputable def S.VN (a0 : Zf) (a1 : ByteArray) : Int :=
  letS (S.Xm a0.XO a1) (fun r1 => r1)
theorem K8 (a0 : Zf) (a1 : ByteArray) (ha0 : Zi a0) (ha1 : a1.size ≤ maxLen) : M.VN a0 a1 = some (S.VN a0 a1) := by
  have hM := Zm
  unfold M.VN S.VN
  refine ZZ (W3 a0.XO a1 (Zi.XO ha0) ha1) (fun r1 her1 => ?_)
  rfl
noncomputable def S.QQ (a0 : JW) : Bool :=
  ((decide (0 ≤ a0.Gc)) && (decide (a0.Gc ≤ a0.GM))) && (decide (a0.GM ≤ 65535))
theorem KM (a0 : JW)  : M.QQ a0 = some (S.QQ a0) := by
  have hM := Zm
  unfold M.QQ S.QQ
  rfl
noncomputable def S.JG (a0 : Zar) : Bool :=
  letS (S.ZP a0.Yb (-1) 255) (fun r1 => bif ((!r1) || ((bitD .and .u32 a0.Re.Zu a0.Re.Gb) != 0)) || ((bitD .and .u32 a0.Rf.Zu a0.Rf.Gb) != 0) then false else (letS (S.QQ a0.Vm) (fun r2 => letS (bif (!(!r2)) then S.QQ a0.Vn else default) (fun r3 => bif (!r2) || (!r3) then false else (((a0.Yb == 6) || (a0.Yb == 17)) || (((a0.Vm.Gc == 0) && ((a0.Vm.GM == 65535) && true)) && ((a0.Vn.Gc == 0) && ((a0.Vn.GM == 65535) && true))))))))
theorem ZdE (a0 : Zar)  : M.JG a0 = some (S.JG a0) := by
  have hM := Zm
  unfold M.JG S.JG
  refine ZZ (XU a0.Yb (-1) 255) (fun r1 her1 => ?_)
  refine Jf (fun hb1 => ?_) (fun hb1 => ?_)
  · rfl
  · refine ZZ (KM a0.Vm) (fun r2 her2 => ?_)
    refine ZZ (Jr fun hg => (KM a0.Vn)) (fun r3 her3 => ?_)
    refine Jf (fun hb2 => ?_) (fun hb2 => ?_)
    · rfl
    · rfl
noncomputable def S.QC (a0 : Zf) (i1 : Nat) (i5 : Nat) : Option (Unit ⊕ Int) :=
  letS (S.JG (((a0.XO.getD i1 default).Xz).getD i5 default)) (fun r7 => bif !r7 then (some (.inr 1)) else none)
theorem Zbn (a0 : Zf) (i1 : Nat) (ha0 : Zi a0) (hi1 : i1 < a0.XO.length) (i0 : Nat) : loopM (M.QC a0 (i1 : Int)) (i0 : Int) = some (runN (S.QC a0 i1) (.inl ()) i0 (((a0.XO.getD i1 default).Xz).length - i0)) := by
  have hM := Zm
  have hni1 : a0.XO.length ≤ maxLen := (Zi.XO ha0).1
  have hni5 : ((a0.XO.getD i1 default).Xz).length ≤ maxLen := (Wh.Xz (LL.getD (Zi.XO ha0) Wh.dflt i1))
  refine Z3 (n := ((a0.XO.getD i1 default).Xz).length) (fun i5 hi5 => ?_) (fun m hm => ?_) i0
  · unfold M.QC S.QC
    try simp only [Int.toNat_natCast]
    refine XV (dt (by omega)) ?_
    refine Yx (Zs (dt (by omega)) (Zs (dt (by omega)) XF)) ?_
    refine ZO (ZdE (((a0.XO.getD i1 default).Xz).getD i5 default)) (fun r7 her7 => ?_)
    refine XN (fun hb3 => ?_) (fun hb3 => ?_)
    · exact Xt
    · exact JF (by omega)
  · unfold M.QC
    try simp only [Int.toNat_natCast]
    exact XW (decide_eq_false (by omega)) rfl
noncomputable def S.Ja (a0 : Zf) (i1 : Nat) : Option (Unit ⊕ Int) :=
  letS (S.VN a0 ((a0.XO.getD i1 default).ZW)) (fun r3 => letS (S.YQ (i1 : Int) r3 ((a0.XO.getD i1 default).ZW) (((a0.XO.getD i1 default).Xz).length : Int) 16) (fun r4 => bif r4 != 0 then (some (.inr r4)) else (letS (runN (S.QC a0 i1) (.inl ()) 0 (((a0.XO.getD i1 default).Xz).length)) (fun y8 => Sum.elim (fun _ => none) (fun y10 => some (.inr y10)) y8))))
theorem Zbo (a0 : Zf) (ha0 : Zi a0) (i0 : Nat) : loopM (M.Ja a0) (i0 : Int) = some (runN (S.Ja a0) (.inl ()) i0 (a0.XO.length - i0)) := by
  have hM := Zm
  have hni1 : a0.XO.length ≤ maxLen := (Zi.XO ha0).1
  refine Z3 (n := a0.XO.length) (fun i1 hi1 => ?_) (fun m hm => ?_) i0
  · unfold M.Ja S.Ja
    try simp only [Int.toNat_natCast]
    refine XV (dt (by omega)) ?_
    refine Yx (Zs (dt (by omega)) (Zs (dt (by omega)) XF)) ?_
    refine ZO (K8 a0 ((a0.XO.getD i1 default).ZW) ha0 (Wh.ZW (LL.getD (Zi.XO ha0) Wh.dflt i1))) (fun r3 her3 => ?_)
    refine ZO (GU (i1 : Int) r3 ((a0.XO.getD i1 default).ZW) (((a0.XO.getD i1 default).Xz).length : Int) 16 (Wh.ZW (LL.getD (Zi.XO ha0) Wh.dflt i1))) (fun r4 her4 => ?_)
    refine XN (fun hb2 => ?_) (fun hb2 => ?_)
    · exact Xt
    · refine ZO (Zbn a0 i1 ha0 hi1 0) (fun y8 hey8 => ?_)
      refine JS (fun _ hl => ?_) (fun y10 hly10 => ?_)
      · exact JF (by omega)
      · exact Xt
  · unfold M.Ja
    try simp only [Int.toNat_natCast]
    exact XW (decide_eq_false (by omega)) rfl
noncomputable def S.JH (a0 : Zf) : Int :=
  bif decide ((a0.XO.length : Int) > 8) then 7 else (letS (runN (S.Ja a0) (.inl ()) 0 a0.XO.length) (fun y11 => Sum.elim (fun _ => 0) (fun y13 => y13) y11))
theorem ZdF (a0 : Zf) (ha0 : Zi a0) : M.JH a0 = some (S.JH a0) := by
  have hM := Zm
  unfold M.JH S.JH
  refine Jf (fun hb1 => ?_) (fun hb1 => ?_)
  · rfl
  · refine ZZ (Zbo a0 ha0 0) (fun y11 hey11 => ?_)
    refine Qp (fun _ hl => ?_) (fun y13 hly13 => ?_)
    · rfl
    · rfl
noncomputable def S.YU (a0 : YS) : Bool :=
  bif a0.JT == 1 then ((((a0.JT == a0.JT) && ((a0.Qj == a0.Qj) && ((a0.Yv == a0.Yv) && ((a0.Yb == 0) && ((a0.QI == 0) && ((a0.Qe == 0) && (strEq a0.QP (⟨#[]⟩ : ByteArray) && ((a0.Gc == 0) && ((a0.GM == 0) && true))))))))) && (a0.Qj != 0)) && (a0.Yv != 0)) else (bif a0.JT == 2 then (((((a0.JT == a0.JT) && ((a0.Qj == 0) && ((a0.Yv == 0) && ((a0.Yb == 0) && ((a0.QI == 0) && ((a0.Qe == 0) && (strEq a0.QP a0.QP && ((a0.Gc == a0.Gc) && ((a0.GM == a0.GM) && true))))))))) && (a0.Gc != 0)) && (decide (a0.Gc ≤ a0.GM))) && (decide ((wr .u32 (a0.GM - a0.Gc)) < 8))) else (bif a0.JT == 3 then (letS (bif (((a0.Qj != 0) && (a0.Yv != 0)) && ((a0.Yb == 6) || (a0.Yb == 17))) then S.ZP a0.QI 0 65535 else default) (fun r1 => letS (bif ((((a0.Qj != 0) && (a0.Yv != 0)) && ((a0.Yb == 6) || (a0.Yb == 17))) && r1) then S.ZP a0.Qe 0 65535 else default) (fun r2 => (((((((a0.Qj != 0) && (a0.Yv != 0)) && ((a0.Yb == 6) || (a0.Yb == 17))) && r1) && r2) && (strEq a0.QP (⟨#[]⟩ : ByteArray))) && (a0.Gc == 0)) && (a0.GM == 0)))) else false))
theorem Rm (a0 : YS) (ha0 : Js a0) : M.YU a0 = some (S.YU a0) := by
  have hM := Zm
  unfold M.YU S.YU
  refine Jf (fun hb1 => ?_) (fun hb1 => ?_)
  · rfl
  · refine Jf (fun hb2 => ?_) (fun hb2 => ?_)
    · rfl
    · refine Jf (fun hb3 => ?_) (fun hb3 => ?_)
      · refine ZZ (Jr fun hg => (XU a0.QI 0 65535)) (fun r1 her1 => ?_)
        refine ZZ (Jr fun hg => (XU a0.Qe 0 65535)) (fun r2 her2 => ?_)
        rfl
      · rfl
noncomputable def S.Ju (a0 : Zf) (i1 : Nat) : Option (Unit ⊕ Int) :=
  letS (S.YU (a0.Xd.getD i1 default)) (fun r3 => bif !r3 then (some (.inr 1)) else (letS (bif (((a0.Xd.getD i1 default).JT) == 2) then S.VN a0 ((a0.Xd.getD i1 default).QP) else default) (fun r4 => bif (((a0.Xd.getD i1 default).JT) == 2) && (decide (r4 < 0)) then (some (.inr 5)) else none)))
theorem Zb1 (a0 : Zf) (ha0 : Zi a0) (i0 : Nat) : loopM (M.Ju a0) (i0 : Int) = some (runN (S.Ju a0) (.inl ()) i0 (a0.Xd.length - i0)) := by
  have hM := Zm
  have hni1 : a0.Xd.length ≤ maxLen := (Zi.Xd ha0).1
  refine Z3 (n := a0.Xd.length) (fun i1 hi1 => ?_) (fun m hm => ?_) i0
  · unfold M.Ju S.Ju
    try simp only [Int.toNat_natCast]
    refine XV (dt (by omega)) ?_
    refine Yx (Zs (dt (by omega)) (Zs (dt (by omega)) XF)) ?_
    refine ZO (Rm (a0.Xd.getD i1 default) (LL.getD (Zi.Xd ha0) Js.dflt i1)) (fun r3 her3 => ?_)
    refine XN (fun hb2 => ?_) (fun hb2 => ?_)
    · exact Xt
    · refine ZO (Jr fun hg => (K8 a0 ((a0.Xd.getD i1 default).QP) ha0 (Js.QP (LL.getD (Zi.Xd ha0) Js.dflt i1)))) (fun r4 her4 => ?_)
      refine XN (fun hb3 => ?_) (fun hb3 => ?_)
      · exact Xt
      · exact JF (by omega)
  · unfold M.Ju
    try simp only [Int.toNat_natCast]
    exact XW (decide_eq_false (by omega)) rfl
noncomputable def S.JX (a0 : Zf) : Int :=
  bif decide ((a0.Xd.length : Int) > 8) then 7 else (letS (runN (S.Ju a0) (.inl ()) 0 a0.Xd.length) (fun y5 => Sum.elim (fun _ => 0) (fun y7 => y7) y5))
theorem Zea (a0 : Zf) (ha0 : Zi a0) : M.JX a0 = some (S.JX a0) := by
  have hM := Zm
  unfold M.JX S.JX
  refine Jf (fun hb1 => ?_) (fun hb1 => ?_)
  · rfl
  · refine ZZ (Zb1 a0 ha0 0) (fun y5 hey5 => ?_)
    refine Qp (fun _ hl => ?_) (fun y7 hly7 => ?_)
    · rfl
    · rfl
noncomputable def S.QH (a0 : Zf) (i1 : Nat) : Option (Unit ⊕ Int) :=
  letS (bif (!strEq ((a0.Zc.getD i1 default).VQ) (⟨#[]⟩ : ByteArray)) then S.VN a0 ((a0.Zc.getD i1 default).VQ) else default) (fun r3 => letS (bif ((!((!strEq ((a0.Zc.getD i1 default).VQ) (⟨#[]⟩ : ByteArray)) && (decide (r3 < 0)))) && (!strEq ((a0.Zc.getD i1 default).YV) (⟨#[]⟩ : ByteArray))) then S.VN a0 ((a0.Zc.getD i1 default).YV) else default) (fun r4 => bif ((!strEq ((a0.Zc.getD i1 default).VQ) (⟨#[]⟩ : ByteArray)) && (decide (r3 < 0))) || ((!strEq ((a0.Zc.getD i1 default).YV) (⟨#[]⟩ : ByteArray)) && (decide (r4 < 0))) then (some (.inr 5)) else none))
theorem RK (a0 : Zf) (ha0 : Zi a0) (i0 : Nat) : loopM (M.QH a0) (i0 : Int) = some (runN (S.QH a0) (.inl ()) i0 (a0.Zc.length - i0)) := by
  have hM := Zm
  have hni1 : a0.Zc.length ≤ maxLen := (Zi.Zc ha0).1
  refine Z3 (n := a0.Zc.length) (fun i1 hi1 => ?_) (fun m hm => ?_) i0
  · unfold M.QH S.QH
    try simp only [Int.toNat_natCast]
    refine XV (dt (by omega)) ?_
    refine Yx (Zs (dt (by omega)) (Zs (dt (by omega)) XF)) ?_
    refine ZO (Jr fun hg => (K8 a0 ((a0.Zc.getD i1 default).VQ) ha0 (Xh.VQ (LL.getD (Zi.Zc ha0) Xh.dflt i1)))) (fun r3 her3 => ?_)
    refine ZO (Jr fun hg => (K8 a0 ((a0.Zc.getD i1 default).YV) ha0 (Xh.YV (LL.getD (Zi.Zc ha0) Xh.dflt i1)))) (fun r4 her4 => ?_)
    refine XN (fun hb1 => ?_) (fun hb1 => ?_)
    · exact Xt
    · exact JF (by omega)
  · unfold M.QH
    try simp only [Int.toNat_natCast]
    exact XW (decide_eq_false (by omega)) rfl
noncomputable def S.Jb (a0 : Zf) : Int :=
  letS (runN (S.QH a0) (.inl ()) 0 a0.Zc.length) (fun y5 => Sum.elim (fun _ => 0) (fun y7 => y7) y5)
theorem Zbp (a0 : Zf) (ha0 : Zi a0) : M.Jb a0 = some (S.Jb a0) := by
  have hM := Zm
  unfold M.Jb S.Jb
  refine ZZ (RK a0 ha0 0) (fun y5 hey5 => ?_)
  refine Qp (fun _ hl => ?_) (fun y7 hly7 => ?_)
  · rfl
  · rfl
noncomputable def S.VB (a0 : Zy) (b0 : Int) : Bool :=
  (a0.ZJ != 0) && (a0.Zu == b0)
theorem ZdG (a0 : Zy) (b0 : Int) (ha0 : Xh a0) : M.VB a0 b0 = some (S.VB a0 b0) := by
  have hM := Zm
  unfold M.VB S.VB
  rfl
noncomputable def S.ZR (a0 : List Zy) (a1c0 : Int) (i1 : Nat) : Option (Unit ⊕ Int) :=
  letS (S.VB (a0.getD i1 default) a1c0) (fun r3 => bif r3 then (some (.inr (i1 : Int))) else none)
theorem VJ (a0 : List Zy) (a1c0 : Int) (ha0 : LL Xh a0) (i0 : Nat) : loopM (M.ZR a0 a1c0) (i0 : Int) = some (runN (S.ZR a0 a1c0) (.inl ()) i0 (a0.length - i0)) := by
  have hM := Zm
  have hni1 : a0.length ≤ maxLen := ha0.1
  refine Z3 (n := a0.length) (fun i1 hi1 => ?_) (fun m hm => ?_) i0
  · unfold M.ZR S.ZR
    try simp only [Int.toNat_natCast]
    refine XV (dt (by omega)) ?_
    refine ZO (ZdG (a0.getD i1 default) a1c0 (LL.getD ha0 Xh.dflt i1)) (fun r3 her3 => ?_)
    refine Yx (Zs (dt (by omega)) (Zs (dt (by omega)) XF)) ?_
    refine XN (fun hb1 => ?_) (fun hb1 => ?_)
    · exact Xt
    · exact JF (by omega)
  · unfold M.ZR
    try simp only [Int.toNat_natCast]
    exact XW (decide_eq_false (by omega)) rfl
noncomputable def S.ZY (a0 : List Zy) (a1c0 : Int) : Int :=
  letS (runN (S.ZR a0 a1c0) (.inl ()) 0 a0.length) (fun y4 => Sum.elim (fun _ => -1) (fun y6 => y6) y4)
theorem VU (a0 : List Zy) (a1c0 : Int) (ha0 : LL Xh a0) : M.ZY a0 a1c0 = some (S.ZY a0 a1c0) := by
  have hM := Zm
  unfold M.ZY S.ZY
  refine ZZ (VJ a0 a1c0 ha0 0) (fun y4 hey4 => ?_)
  refine Qp (fun _ hl => ?_) (fun y6 hly6 => ?_)
  · rfl
  · rfl
noncomputable def S.J5 (a0 : Zf) (a1 : Int) : Int :=
  letS (S.ZY a0.Zc a1) (fun r1 => r1)
theorem Zau (a0 : Zf) (a1 : Int) (ha0 : Zi a0) : M.J5 a0 a1 = some (S.J5 a0 a1) := by
  have hM := Zm
  unfold M.J5 S.J5
  refine ZZ (VU a0.Zc a1 (Zi.Zc ha0)) (fun r1 her1 => ?_)
  rfl
noncomputable def S.YD (i1 : Nat) (s1 : Int) (p3 : Int) : Int ⊕ Int :=
  .inl (p3)
theorem GW (i1 : Nat) (s1 : Int) (p3 : Int) (hi1 : i1 < 3) : M.YD (s1, (i1 : Int)) p3 = some (rdT (fun (i : Nat) (s1 : Int) => (s1, (i : Int))) (S.YD i1 s1 p3) i1) := by
  have hM := Zm
  have hni1 : 3 ≤ maxLen := (by omega)
  unfold M.YD S.YD
  try simp only [Int.toNat_natCast]
  rw [ZkJ (by omega)]
  rfl
noncomputable def S.YZ (a1 : Yc) (i1 : Nat) (s1 : Int) : Int ⊕ Int :=
  bif ([a1.Vf != 0, !strEq a1.QB (⟨#[]⟩ : ByteArray), a1.Vt] : List Bool).getD i1 default then (S.YD i1 s1 (wr .i64 (s1 + 1))) else (S.YD i1 s1 s1)
theorem Zab (a1 : Yc) (ha1 : Q9 a1) (i0 : Nat) (s0 : Int) : loopM (M.YZ a1) ((fun (i : Nat) (s1 : Int) => (s1, (i : Int))) i0 s0) = some (runT (S.YZ a1) (fun s1 => s1) i0 (3 - i0) s0) := by
  have hM := Zm
  have hni1 : 3 ≤ maxLen := (by omega)
  refine ZjE (n := 3) (mk := (fun (i : Nat) (s1 : Int) => (s1, (i : Int)))) (fun i1 s1 hi1 => ?_) (fun m s1 hm => ?_) i0 s0
  · unfold M.YZ S.YZ
    try simp only [Int.toNat_natCast]
    refine XV (dt (by omega)) ?_
    refine Yx (Zs (dt (by omega)) (Zs (dt (by simp; omega)) XF)) ?_
    refine ZmB (fun hb1 => ?_) (fun hb1 => ?_)
    · exact GW i1 s1 (wr .i64 (s1 + 1)) hi1
    · exact GW i1 s1 s1 hi1
  · unfold M.YZ
    try simp only [Int.toNat_natCast]
    exact XW (decide_eq_false (by omega)) rfl
noncomputable def S.Qx (a0 : Zf) (a1 : Yc) : Bool :=
  letS (runT (S.YZ a1) (fun s1 => s1) 0 3 (0)) (fun y4 => letS (S.QO a1.Zp) (fun r5 => letS (bif ((r5 && (y4 == 1)) && !(a1.Vf == 0)) then S.J5 a0 a1.Vf else default) (fun r6 => letS (bif ((r5 && (y4 == 1)) && ((a1.Vf == 0) || (decide (r6 < 0)))) then S.ZP a1.Xj 1 255 else default) (fun r7 => letS (bif (((r5 && (y4 == 1)) && ((a1.Vf == 0) || (decide (r6 < 0)))) && r7) then S.ZP a1.US 0 65535 else default) (fun r8 => (((r5 && (y4 == 1)) && ((a1.Vf == 0) || (decide (r6 < 0)))) && r7) && r8)))))
theorem Zb2 (a0 : Zf) (a1 : Yc) (ha0 : Zi a0) (ha1 : Q9 a1) : M.Qx a0 a1 = some (S.Qx a0 a1) := by
  have hM := Zm
  unfold M.Qx S.Qx
  refine ZZ (Zab a1 ha1 0 (0)) (fun y4 hey4 => ?_)
  refine ZZ (UE a1.Zp) (fun r5 her5 => ?_)
  refine ZZ (Jr fun hg => (Zau a0 a1.Vf ha0)) (fun r6 her6 => ?_)
  refine ZZ (Jr fun hg => (XU a1.Xj 1 255)) (fun r7 her7 => ?_)
  refine ZZ (Jr fun hg => (XU a1.US 0 65535)) (fun r8 her8 => ?_)
  rfl
noncomputable def S.YI (a0 : Zf) (i1 : Nat) (i5 : Nat) : Option (Unit ⊕ Int) :=
  bif (((((((a0.Zq.drop 0).take (i1 - 0)).getD i5 default).Zp).Zu) == (((a0.Zq.getD i1 default).Zp).Zu)) && (((((((a0.Zq.drop 0).take (i1 - 0)).getD i5 default).Zp).ZJ) == (((a0.Zq.getD i1 default).Zp).ZJ)) && true)) && (((((a0.Zq.drop 0).take (i1 - 0)).getD i5 default).Xj) == ((a0.Zq.getD i1 default).Xj)) then (some (.inr 6)) else none
theorem RL (a0 : Zf) (i1 : Nat) (ha0 : Zi a0) (hi1 : i1 < a0.Zq.length) (i0 : Nat) : loopM (M.YI a0 (i1 : Int)) (i0 : Int) = some (runN (S.YI a0 i1) (.inl ()) i0 (i1 - i0)) := by
  have hM := Zm
  have hni1 : a0.Zq.length ≤ maxLen := (Zi.Zq ha0).1
  have hni5 : i1 ≤ maxLen := (by omega)
  refine Z3 (n := i1) (fun i5 hi5 => ?_) (fun m hm => ?_) i0
  · unfold M.YI S.YI
    try simp only [Int.toNat_natCast]
    refine XV (dt (by omega)) ?_
    refine Yx (Zs (dt (by omega)) (Zs (dt (by simp; omega)) XF)) ?_
    refine XN (fun hb6 => ?_) (fun hb6 => ?_)
    · exact Xt
    · exact JF (by omega)
  · unfold M.YI
    try simp only [Int.toNat_natCast]
    exact XW (decide_eq_false (by omega)) rfl
noncomputable def S.Yu (a0 : Zf) (i1 : Nat) (_p4 : Unit) : Option (Unit ⊕ Int) :=
  letS (runN (S.YI a0 i1) (.inl ()) 0 i1) (fun y7 => Sum.elim (fun _ => none) (fun y9 => some (.inr y9)) y7)
theorem Gu (a0 : Zf) (i1 : Nat) (_p4 : Unit) (ha0 : Zi a0) (hi1 : i1 < a0.Zq.length) : M.Yu a0 (i1 : Int) _p4 = some (rdN (S.Yu a0 i1 _p4) i1) := by
  have hM := Zm
  have hni1 : a0.Zq.length ≤ maxLen := (Zi.Zq ha0).1
  unfold M.Yu S.Yu
  try simp only [Int.toNat_natCast]
  refine Yx (Zs (dt (by omega)) (Zs (dt (by omega)) XF)) ?_
  refine ZO (RL a0 i1 ha0 hi1 0) (fun y7 hey7 => ?_)
  refine JS (fun _ hl => ?_) (fun y9 hly9 => ?_)
  · exact JF (by omega)
  · exact Xt
noncomputable def S.Qg (a0 : Zf) (i1 : Nat) : Option (Unit ⊕ Int) :=
  letS (S.Qx a0 (a0.Zq.getD i1 default)) (fun r3 => bif !r3 then (some (.inr 1)) else (bif !strEq ((a0.Zq.getD i1 default).QB) (⟨#[]⟩ : ByteArray) then (letS (S.Qh a0 ((a0.Zq.getD i1 default).QB)) (fun r10 => bif decide (r10 < 0) then (some (.inr 5)) else (bif ((a0.Zc.getD r10.toNat default).ZJ) == 0 then (some (.inr 1)) else (S.Yu a0 i1 ())))) else (S.Yu a0 i1 ())))
theorem RM (a0 : Zf) (ha0 : Zi a0) (i0 : Nat) : loopM (M.Qg a0) (i0 : Int) = some (runN (S.Qg a0) (.inl ()) i0 (a0.Zq.length - i0)) := by
  have hM := Zm
  have hni1 : a0.Zq.length ≤ maxLen := (Zi.Zq ha0).1
  refine Z3 (n := a0.Zq.length) (fun i1 hi1 => ?_) (fun m hm => ?_) i0
  · unfold M.Qg S.Qg
    try simp only [Int.toNat_natCast]
    refine XV (dt (by omega)) ?_
    refine Yx (Zs (dt (by omega)) (Zs (dt (by omega)) XF)) ?_
    refine ZO (Zb2 a0 (a0.Zq.getD i1 default) ha0 (LL.getD (Zi.Zq ha0) Q9.dflt i1)) (fun r3 her3 => ?_)
    refine XN (fun hb2 => ?_) (fun hb2 => ?_)
    · exact Xt
    · refine XN (fun hb3 => ?_) (fun hb3 => ?_)
      · refine ZO (K7 a0 ((a0.Zq.getD i1 default).QB) ha0 (Q9.QB (LL.getD (Zi.Zq ha0) Q9.dflt i1))) (fun r10 her10 => ?_)
        have hrr10 := Kl a0 ((a0.Zq.getD i1 default).QB)
        refine XN (fun hb4 => ?_) (fun hb4 => ?_)
        · exact Xt
        · refine Yx (Zs (dt (by first | omega | (simp; omega) | (simp at *; omega))) (Zs (dt (by first | omega | (simp; omega) | (simp at *; omega))) XF)) ?_
          refine XN (fun hb5 => ?_) (fun hb5 => ?_)
          · exact Xt
          · exact Gu a0 i1 () ha0 hi1
      · exact Gu a0 i1 () ha0 hi1
  · unfold M.Qg
    try simp only [Int.toNat_natCast]
    exact XW (decide_eq_false (by omega)) rfl
noncomputable def S.QD (a0 : Zf) : Int :=
  bif decide ((a0.Zq.length : Int) > 16) then 7 else (letS (runN (S.Qg a0) (.inl ()) 0 a0.Zq.length) (fun y11 => Sum.elim (fun _ => 0) (fun y13 => y13) y11))
theorem Zbq (a0 : Zf) (ha0 : Zi a0) : M.QD a0 = some (S.QD a0) := by
  have hM := Zm
  unfold M.QD S.QD
  refine Jf (fun hb1 => ?_) (fun hb1 => ?_)
  · rfl
  · refine ZZ (RM a0 ha0 0) (fun y11 hey11 => ?_)
    refine Qp (fun _ hl => ?_) (fun y13 hly13 => ?_)
    · rfl
    · rfl
noncomputable def S.Y0 (a1 : List Yw) (i1 : Nat) (i8 : Nat) : Option (Unit ⊕ Int) :=
  bif ((((a1.drop 0).take (i1 - 0)).getD i8 default).WG) == ((a1.getD i1 default).WG) then (some (.inr 4)) else none
theorem Zac (a1 : List Yw) (i1 : Nat) (ha1 : LL JP a1) (hi1 : i1 < a1.length) (i0 : Nat) : loopM (M.Y0 a1 (i1 : Int)) (i0 : Int) = some (runN (S.Y0 a1 i1) (.inl ()) i0 (i1 - i0)) := by
  have hM := Zm
  have hni1 : a1.length ≤ maxLen := ha1.1
  have hni8 : i1 ≤ maxLen := (by omega)
  refine Z3 (n := i1) (fun i8 hi8 => ?_) (fun m hm => ?_) i0
  · unfold M.Y0 S.Y0
    try simp only [Int.toNat_natCast]
    refine XV (dt (by omega)) ?_
    refine Yx (Zs (dt (by omega)) (Zs (dt (by simp; omega)) XF)) ?_
    refine XN (fun hb4 => ?_) (fun hb4 => ?_)
    · exact Xt
    · exact JF (by omega)
  · unfold M.Y0
    try simp only [Int.toNat_natCast]
    exact XW (decide_eq_false (by omega)) rfl
noncomputable def S.Qr (a0 : Zf) (a1 : List Yw) (a2 : Int) (a3 : Int) (a4 : Int) (a5 : Int) (i1 : Nat) : Option (Unit ⊕ Int) :=
  letS (S.ZP ((a1.getD i1 default).WG) 1 5) (fun r3 => letS (bif (!((!r3) || (((a1.getD i1 default).WG) == a2))) then S.ZP ((a1.getD i1 default).Ks) a3 a4 else default) (fun r4 => letS (bif (!(((!r3) || (((a1.getD i1 default).WG) == a2)) || (!r4))) then S.ZP ((a1.getD i1 default).US) 0 65535 else default) (fun r5 => letS (bif (!((((!r3) || (((a1.getD i1 default).WG) == a2)) || (!r4)) || (!r5))) then S.ZP ((a1.getD i1 default).G0) (if a5 < 1 then a5 else 1) a5 else default) (fun r6 => bif ((((!r3) || (((a1.getD i1 default).WG) == a2)) || (!r4)) || (!r5)) || (!r6) then (some (.inr 1)) else (letS (bif (!strEq ((a1.getD i1 default).Rg) (⟨#[]⟩ : ByteArray)) then S.YX a0 ((a1.getD i1 default).Rg) else default) (fun r7 => bif (!strEq ((a1.getD i1 default).Rg) (⟨#[]⟩ : ByteArray)) && (decide (r7 < 0)) then (some (.inr 5)) else (letS (runN (S.Y0 a1 i1) (.inl ()) 0 i1) (fun y10 => Sum.elim (fun _ => none) (fun y12 => some (.inr y12)) y10))))))))
theorem Zad (a0 : Zf) (a1 : List Yw) (a2 : Int) (a3 : Int) (a4 : Int) (a5 : Int) (ha0 : Zi a0) (ha1 : LL JP a1) (i0 : Nat) : loopM (M.Qr a0 a1 a2 a3 a4 a5) (i0 : Int) = some (runN (S.Qr a0 a1 a2 a3 a4 a5) (.inl ()) i0 (a1.length - i0)) := by
  have hM := Zm
  have hni1 : a1.length ≤ maxLen := ha1.1
  refine Z3 (n := a1.length) (fun i1 hi1 => ?_) (fun m hm => ?_) i0
  · unfold M.Qr S.Qr
    try simp only [Int.toNat_natCast]
    refine XV (dt (by omega)) ?_
    refine Yx (Zs (dt (by omega)) (Zs (dt (by omega)) XF)) ?_
    refine ZO (XU ((a1.getD i1 default).WG) 1 5) (fun r3 her3 => ?_)
    refine ZO (Jr fun hg => (XU ((a1.getD i1 default).Ks) a3 a4)) (fun r4 her4 => ?_)
    refine ZO (Jr fun hg => (XU ((a1.getD i1 default).US) 0 65535)) (fun r5 her5 => ?_)
    refine ZO (Jr fun hg => (XU ((a1.getD i1 default).G0) (if a5 < 1 then a5 else 1) a5)) (fun r6 her6 => ?_)
    refine XN (fun hb2 => ?_) (fun hb2 => ?_)
    · exact Xt
    · refine ZO (Jr fun hg => (Ga a0 ((a1.getD i1 default).Rg) ha0 (JP.Rg (LL.getD ha1 JP.dflt i1)))) (fun r7 her7 => ?_)
      refine XN (fun hb3 => ?_) (fun hb3 => ?_)
      · exact Xt
      · refine Yx (Zs (dt (by omega)) (Zs (dt (by omega)) XF)) ?_
        refine ZO (Zac a1 i1 ha1 hi1 0) (fun y10 hey10 => ?_)
        refine JS (fun _ hl => ?_) (fun y12 hly12 => ?_)
        · exact JF (by omega)
        · exact Xt
  · unfold M.Qr
    try simp only [Int.toNat_natCast]
    exact XW (decide_eq_false (by omega)) rfl
noncomputable def S.YB (a0 : Zf) (a1 : List Yw) (a2 : Int) (a3 : Int) (a4 : Int) (a5 : Int) : Int :=
  bif decide ((a1.length : Int) > 4) then 7 else (letS (runN (S.Qr a0 a1 a2 a3 a4 a5) (.inl ()) 0 a1.length) (fun y13 => Sum.elim (fun _ => 0) (fun y15 => y15) y13))
theorem Gg (a0 : Zf) (a1 : List Yw) (a2 : Int) (a3 : Int) (a4 : Int) (a5 : Int) (ha0 : Zi a0) (ha1 : LL JP a1) : M.YB a0 a1 a2 a3 a4 a5 = some (S.YB a0 a1 a2 a3 a4 a5) := by
  have hM := Zm
  unfold M.YB S.YB
  refine Jf (fun hb1 => ?_) (fun hb1 => ?_)
  · rfl
  · refine ZZ (Zad a0 a1 a2 a3 a4 a5 ha0 ha1 0) (fun y13 hey13 => ?_)
    refine Qp (fun _ hl => ?_) (fun y15 hly15 => ?_)
    · rfl
    · rfl
noncomputable def S.Yq (a0 : Zf) (i2 : Nat) (i6 : Nat) : Option (Unit ⊕ Int) :=
  letS (bif (((((a0.Yi.ZK.drop 0).take (i2 - 0)).getD i6 default).JV) == ((a0.Yi.ZK.getD i2 default).JV)) then S.J4 ((((a0.Yi.ZK.drop 0).take (i2 - 0)).getD i6 default).Zp) ((a0.Yi.ZK.getD i2 default).Zp) else default) (fun r8 => bif (((((a0.Yi.ZK.drop 0).take (i2 - 0)).getD i6 default).JV) == ((a0.Yi.ZK.getD i2 default).JV)) && r8 then (some (.inr 6)) else none)
theorem KU (a0 : Zf) (i2 : Nat) (ha0 : Zi a0) (hi2 : i2 < a0.Yi.ZK.length) (i0 : Nat) : loopM (M.Yq a0 (i2 : Int)) (i0 : Int) = some (runN (S.Yq a0 i2) (.inl ()) i0 (i2 - i0)) := by
  have hM := Zm
  have hni2 : a0.Yi.ZK.length ≤ maxLen := (Ji.ZK (Zi.Yi ha0))
  have hni6 : i2 ≤ maxLen := (by omega)
  refine Z3 (n := i2) (fun i6 hi6 => ?_) (fun m hm => ?_) i0
  · unfold M.Yq S.Yq
    try simp only [Int.toNat_natCast]
    refine XV (dt (by omega)) ?_
    refine Yx (Zs (dt (by omega)) (Zs (dt (by simp; omega)) XF)) ?_
    refine ZO (Jr fun hg => (Zat ((((a0.Yi.ZK.drop 0).take (i2 - 0)).getD i6 default).Zp) ((a0.Yi.ZK.getD i2 default).Zp))) (fun r8 her8 => ?_)
    refine XN (fun hb6 => ?_) (fun hb6 => ?_)
    · exact Xt
    · exact JF (by omega)
  · unfold M.Yq
    try simp only [Int.toNat_natCast]
    exact XW (decide_eq_false (by omega)) rfl
noncomputable def S.YF (a0 : Zf) (i2 : Nat) : Option (Unit ⊕ Int) :=
  letS (S.ZP ((a0.Yi.ZK.getD i2 default).JV) 0 255) (fun r4 => letS (bif (!(!r4)) then S.QO ((a0.Yi.ZK.getD i2 default).Zp) else default) (fun r5 => bif (!r4) || (!r5) then (some (.inr 1)) else (letS (runN (S.Yq a0 i2) (.inl ()) 0 i2) (fun y9 => Sum.elim (fun _ => none) (fun y11 => some (.inr y11)) y9))))
theorem KV (a0 : Zf) (ha0 : Zi a0) (i0 : Nat) : loopM (M.YF a0) (i0 : Int) = some (runN (S.YF a0) (.inl ()) i0 (a0.Yi.ZK.length - i0)) := by
  have hM := Zm
  have hni2 : a0.Yi.ZK.length ≤ maxLen := (Ji.ZK (Zi.Yi ha0))
  refine Z3 (n := a0.Yi.ZK.length) (fun i2 hi2 => ?_) (fun m hm => ?_) i0
  · unfold M.YF S.YF
    try simp only [Int.toNat_natCast]
    refine XV (dt (by omega)) ?_
    refine Yx (Zs (dt (by omega)) (Zs (dt (by omega)) XF)) ?_
    refine ZO (XU ((a0.Yi.ZK.getD i2 default).JV) 0 255) (fun r4 her4 => ?_)
    refine ZO (Jr fun hg => (UE ((a0.Yi.ZK.getD i2 default).Zp))) (fun r5 her5 => ?_)
    refine XN (fun hb5 => ?_) (fun hb5 => ?_)
    · exact Xt
    · refine Yx (Zs (dt (by omega)) (Zs (dt (by omega)) XF)) ?_
      refine ZO (KU a0 i2 ha0 hi2 0) (fun y9 hey9 => ?_)
      refine JS (fun _ hl => ?_) (fun y11 hly11 => ?_)
      · exact JF (by omega)
      · exact Xt
  · unfold M.YF
    try simp only [Int.toNat_natCast]
    exact XW (decide_eq_false (by omega)) rfl
noncomputable def S.Y1 (a0 : Zf) : Int :=
  bif !a0.Yi.Wr then (bif ((a0.Yi.Xj != 0) || (decide ((a0.Yi.ZK.length : Int) > 0))) || (decide ((a0.Yi.Zv.length : Int) > 0)) then 1 else 0) else (letS (S.ZP a0.Yi.Xj 1 255) (fun r1 => bif !r1 then 1 else (bif decide ((a0.Yi.ZK.length : Int) > 4) then 7 else (letS (runN (S.YF a0) (.inl ()) 0 a0.Yi.ZK.length) (fun y12 => Sum.elim (fun _ => letS (S.YB a0 a0.Yi.Zv 3 0 16777215 2) (fun r15 => r15)) (fun y14 => y14) y12)))))
theorem Zae (a0 : Zf) (ha0 : Zi a0) : M.Y1 a0 = some (S.Y1 a0) := by
  have hM := Zm
  unfold M.Y1 S.Y1
  refine Jf (fun hb1 => ?_) (fun hb1 => ?_)
  · refine Jf (fun hb2 => ?_) (fun hb2 => ?_)
    · rfl
    · rfl
  · refine ZZ (XU a0.Yi.Xj 1 255) (fun r1 her1 => ?_)
    refine Jf (fun hb3 => ?_) (fun hb3 => ?_)
    · rfl
    · refine Jf (fun hb4 => ?_) (fun hb4 => ?_)
      · rfl
      · refine ZZ (KV a0 ha0 0) (fun y12 hey12 => ?_)
        refine Qp (fun _ hl => ?_) (fun y14 hly14 => ?_)
        · refine ZZ (Gg a0 a0.Yi.Zv 3 0 16777215 2 ha0 (Ji.Zv (Zi.Yi ha0))) (fun r15 her15 => ?_)
          rfl
        · rfl
noncomputable def S.Ye (a0 : Zf) : Int :=
  bif !a0.YC.Wr then (bif (((a0.YC.Xj != 0) || (!strEq a0.YC.VQ (⟨#[]⟩ : ByteArray))) || (!strEq a0.YC.YV (⟨#[]⟩ : ByteArray))) || (decide ((a0.YC.Zv.length : Int) > 0)) then 1 else 0) else (letS (S.ZP a0.YC.Xj 1 255) (fun r1 => bif !r1 then 1 else (letS (bif (!strEq a0.YC.VQ (⟨#[]⟩ : ByteArray)) then S.Yo a0 a0.YC.VQ else default) (fun r2 => letS (bif ((!((!strEq a0.YC.VQ (⟨#[]⟩ : ByteArray)) && (decide (r2 < 0)))) && (!strEq a0.YC.YV (⟨#[]⟩ : ByteArray))) then S.Yo a0 a0.YC.YV else default) (fun r3 => bif ((!strEq a0.YC.VQ (⟨#[]⟩ : ByteArray)) && (decide (r2 < 0))) || ((!strEq a0.YC.YV (⟨#[]⟩ : ByteArray)) && (decide (r3 < 0))) then 5 else (letS (S.YB a0 a0.YC.Zv 4 1 15 0) (fun r4 => r4)))))))
theorem Kx (a0 : Zf) (ha0 : Zi a0) : M.Ye a0 = some (S.Ye a0) := by
  have hM := Zm
  unfold M.Ye S.Ye
  refine Jf (fun hb1 => ?_) (fun hb1 => ?_)
  · refine Jf (fun hb2 => ?_) (fun hb2 => ?_)
    · rfl
    · rfl
  · refine ZZ (XU a0.YC.Xj 1 255) (fun r1 her1 => ?_)
    refine Jf (fun hb3 => ?_) (fun hb3 => ?_)
    · rfl
    · refine ZZ (Jr fun hg => (UD a0 a0.YC.VQ ha0 (Ya.VQ (Zi.YC ha0)))) (fun r2 her2 => ?_)
      refine ZZ (Jr fun hg => (UD a0 a0.YC.YV ha0 (Ya.YV (Zi.YC ha0)))) (fun r3 her3 => ?_)
      refine Jf (fun hb4 => ?_) (fun hb4 => ?_)
      · rfl
      · refine ZZ (Gg a0 a0.YC.Zv 4 1 15 0 ha0 (Ya.Zv (Zi.YC ha0))) (fun r4 her4 => ?_)
        rfl
noncomputable def S.Yr (a0 : Zf) (i1 : Nat) (i6 : Nat) : Option (Unit ⊕ Int) :=
  bif ((((a0.Xb.Zl.drop 0).take (i1 - 0)).getD i6 default).Zu) == ((a0.Xb.Zl.getD i1 default).Zu) then (some (.inr 4)) else none
theorem KW (a0 : Zf) (i1 : Nat) (ha0 : Zi a0) (hi1 : i1 < a0.Xb.Zl.length) (i0 : Nat) : loopM (M.Yr a0 (i1 : Int)) (i0 : Int) = some (runN (S.Yr a0 i1) (.inl ()) i0 (i1 - i0)) := by
  have hM := Zm
  have hni1 : a0.Xb.Zl.length ≤ maxLen := (Z2.Zl (Zi.Xb ha0)).1
  have hni6 : i1 ≤ maxLen := (by omega)
  refine Z3 (n := i1) (fun i6 hi6 => ?_) (fun m hm => ?_) i0
  · unfold M.Yr S.Yr
    try simp only [Int.toNat_natCast]
    refine XV (dt (by omega)) ?_
    refine Yx (Zs (dt (by omega)) (Zs (dt (by simp; omega)) XF)) ?_
    refine XN (fun hb4 => ?_) (fun hb4 => ?_)
    · exact Xt
    · exact JF (by omega)
  · unfold M.Yr
    try simp only [Int.toNat_natCast]
    exact XW (decide_eq_false (by omega)) rfl
noncomputable def S.YG (a0 : Zf) (i1 : Nat) : Option (Unit ⊕ Int) :=
  letS (bif (!(((a0.Xb.Zl.getD i1 default).Zu) == 0)) then S.ZP ((a0.Xb.Zl.getD i1 default).GN) 1 65535 else default) (fun r3 => bif (((a0.Xb.Zl.getD i1 default).Zu) == 0) || (!r3) then (some (.inr 1)) else (letS (bif (!strEq ((a0.Xb.Zl.getD i1 default).VQ) (⟨#[]⟩ : ByteArray)) then S.YX a0 ((a0.Xb.Zl.getD i1 default).VQ) else default) (fun r4 => letS (bif ((!((!strEq ((a0.Xb.Zl.getD i1 default).VQ) (⟨#[]⟩ : ByteArray)) && (decide (r4 < 0)))) && (!strEq ((a0.Xb.Zl.getD i1 default).YV) (⟨#[]⟩ : ByteArray))) then S.YX a0 ((a0.Xb.Zl.getD i1 default).YV) else default) (fun r5 => bif ((!strEq ((a0.Xb.Zl.getD i1 default).VQ) (⟨#[]⟩ : ByteArray)) && (decide (r4 < 0))) || ((!strEq ((a0.Xb.Zl.getD i1 default).YV) (⟨#[]⟩ : ByteArray)) && (decide (r5 < 0))) then (some (.inr 5)) else (letS (runN (S.Yr a0 i1) (.inl ()) 0 i1) (fun y8 => Sum.elim (fun _ => none) (fun y10 => some (.inr y10)) y8))))))
theorem KX (a0 : Zf) (ha0 : Zi a0) (i0 : Nat) : loopM (M.YG a0) (i0 : Int) = some (runN (S.YG a0) (.inl ()) i0 (a0.Xb.Zl.length - i0)) := by
  have hM := Zm
  have hni1 : a0.Xb.Zl.length ≤ maxLen := (Z2.Zl (Zi.Xb ha0)).1
  refine Z3 (n := a0.Xb.Zl.length) (fun i1 hi1 => ?_) (fun m hm => ?_) i0
  · unfold M.YG S.YG
    try simp only [Int.toNat_natCast]
    refine XV (dt (by omega)) ?_
    refine Yx (Zs (dt (by omega)) (Zs (dt (by omega)) XF)) ?_
    refine ZO (Jr fun hg => (XU ((a0.Xb.Zl.getD i1 default).GN) 1 65535)) (fun r3 her3 => ?_)
    refine XN (fun hb2 => ?_) (fun hb2 => ?_)
    · exact Xt
    · refine ZO (Jr fun hg => (Ga a0 ((a0.Xb.Zl.getD i1 default).VQ) ha0 (JA.VQ (LL.getD (Z2.Zl (Zi.Xb ha0)) JA.dflt i1)))) (fun r4 her4 => ?_)
      refine ZO (Jr fun hg => (Ga a0 ((a0.Xb.Zl.getD i1 default).YV) ha0 (JA.YV (LL.getD (Z2.Zl (Zi.Xb ha0)) JA.dflt i1)))) (fun r5 her5 => ?_)
      refine XN (fun hb3 => ?_) (fun hb3 => ?_)
      · exact Xt
      · refine Yx (Zs (dt (by omega)) (Zs (dt (by omega)) XF)) ?_
        refine ZO (KW a0 i1 ha0 hi1 0) (fun y8 hey8 => ?_)
        refine JS (fun _ hl => ?_) (fun y10 hly10 => ?_)
        · exact JF (by omega)
        · exact Xt
  · unfold M.YG
    try simp only [Int.toNat_natCast]
    exact XW (decide_eq_false (by omega)) rfl
noncomputable def S.Y2 (a0 : Zf) : Int :=
  bif decide ((a0.Xb.Zl.length : Int) > 8) then 7 else (letS (runN (S.YG a0) (.inl ()) 0 a0.Xb.Zl.length) (fun y11 => Sum.elim (fun _ => 0) (fun y13 => y13) y11))
theorem Zaf (a0 : Zf) (ha0 : Zi a0) : M.Y2 a0 = some (S.Y2 a0) := by
  have hM := Zm
  unfold M.Y2 S.Y2
  refine Jf (fun hb1 => ?_) (fun hb1 => ?_)
  · rfl
  · refine ZZ (KX a0 ha0 0) (fun y11 hey11 => ?_)
    refine Qp (fun _ hl => ?_) (fun y13 hly13 => ?_)
    · rfl
    · rfl
noncomputable def S.XL (a0 : List ZL) (a1 : ZL) (i1 : Nat) : Option (Unit ⊕ Int) :=
  bif ((a1.Zu == ((a0.getD i1 default).Zu)) && ((a1.ZJ == ((a0.getD i1 default).ZJ)) && true)) then (some (.inr (i1 : Int))) else none
theorem UT (a0 : List ZL) (a1 : ZL) (ha0 : a0.length ≤ maxLen) (i0 : Nat) : loopM (M.XL a0 a1) (i0 : Int) = some (runN (S.XL a0 a1) (.inl ()) i0 (a0.length - i0)) := by
  have hM := Zm
  have hni1 : a0.length ≤ maxLen := ha0
  refine Z3 (n := a0.length) (fun i1 hi1 => ?_) (fun m hm => ?_) i0
  · unfold M.XL S.XL
    try simp only [Int.toNat_natCast]
    refine XV (dt (by omega)) ?_
    refine Yx (Zs (dt (by omega)) (Zs (dt (by omega)) XF)) ?_
    refine XN (fun hb1 => ?_) (fun hb1 => ?_)
    · exact Xt
    · exact JF (by omega)
  · unfold M.XL
    try simp only [Int.toNat_natCast]
    exact XW (decide_eq_false (by omega)) rfl
noncomputable def S.XJ (a0 : List ZL) (a1 : ZL) : Int :=
  letS (runN (S.XL a0 a1) (.inl ()) 0 a0.length) (fun y3 => Sum.elim (fun _ => -1) (fun y5 => y5) y3)
theorem Gh (a0 : List ZL) (a1 : ZL) (ha0 : a0.length ≤ maxLen) : M.XJ a0 a1 = some (S.XJ a0 a1) := by
  have hM := Zm
  unfold M.XJ S.XJ
  refine ZZ (UT a0 a1 ha0 0) (fun y3 hey3 => ?_)
  refine Qp (fun _ hl => ?_) (fun y5 hly5 => ?_)
  · rfl
  · rfl
noncomputable def S.Xn (a0 : List ZL) (a1 : ZL) : Bool :=
  letS (S.XJ a0 a1) (fun r1 => decide (r1 ≥ 0))
theorem UU (a0 : List ZL) (a1 : ZL) (ha0 : a0.length ≤ maxLen) : M.Xn a0 a1 = some (S.Xn a0 a1) := by
  have hM := Zm
  unfold M.Xn S.Xn
  refine ZZ (Gh a0 a1 ha0) (fun r1 her1 => ?_)
  rfl
noncomputable def S.YJ (a0 : Z4) (i1 : Nat) : Option (Unit ⊕ Int) :=
  letS (S.QO (a0.Zt.getD i1 default)) (fun r3 => bif !r3 then (some (.inr 1)) else (letS (S.Xn ((a0.Zt.drop 0).take (i1 - 0)) (a0.Zt.getD i1 default)) (fun r4 => bif r4 then (some (.inr 4)) else none)))
theorem RN (a0 : Z4) (ha0 : Z2 a0) (i0 : Nat) : loopM (M.YJ a0) (i0 : Int) = some (runN (S.YJ a0) (.inl ()) i0 (a0.Zt.length - i0)) := by
  have hM := Zm
  have hni1 : a0.Zt.length ≤ maxLen := (Z2.Zt ha0)
  refine Z3 (n := a0.Zt.length) (fun i1 hi1 => ?_) (fun m hm => ?_) i0
  · unfold M.YJ S.YJ
    try simp only [Int.toNat_natCast]
    refine XV (dt (by omega)) ?_
    refine Yx (Zs (dt (by omega)) (Zs (dt (by omega)) XF)) ?_
    refine ZO (UE (a0.Zt.getD i1 default)) (fun r3 her3 => ?_)
    refine XN (fun hb2 => ?_) (fun hb2 => ?_)
    · exact Xt
    · refine ZO (UU ((a0.Zt.drop 0).take (i1 - 0)) (a0.Zt.getD i1 default) (ZkK (ZkL (Z2.Zt ha0)))) (fun r4 her4 => ?_)
      refine Yx (Zs (dt (by omega)) (Zs (dt (by omega)) XF)) ?_
      refine XN (fun hb3 => ?_) (fun hb3 => ?_)
      · exact Xt
      · exact JF (by omega)
  · unfold M.YJ
    try simp only [Int.toNat_natCast]
    exact XW (decide_eq_false (by omega)) rfl
noncomputable def S.YK (a0 : Z4) (i8 : Nat) (i11 : Nat) : Option (Unit ⊕ Int) :=
  bif (((((((a0.Zr.drop 0).take (i8 - 0)).getD i11 default).Zp).Zu) == (((a0.Zr.getD i8 default).Zp).Zu)) && (((((((a0.Zr.drop 0).take (i8 - 0)).getD i11 default).Zp).ZJ) == (((a0.Zr.getD i8 default).Zp).ZJ)) && true)) then (some (.inr 4)) else none
theorem RO (a0 : Z4) (i8 : Nat) (ha0 : Z2 a0) (hi8 : i8 < a0.Zr.length) (i0 : Nat) : loopM (M.YK a0 (i8 : Int)) (i0 : Int) = some (runN (S.YK a0 i8) (.inl ()) i0 (i8 - i0)) := by
  have hM := Zm
  have hni8 : a0.Zr.length ≤ maxLen := (Z2.Zr ha0)
  have hni11 : i8 ≤ maxLen := (by omega)
  refine Z3 (n := i8) (fun i11 hi11 => ?_) (fun m hm => ?_) i0
  · unfold M.YK S.YK
    try simp only [Int.toNat_natCast]
    refine XV (dt (by omega)) ?_
    refine Yx (Zs (dt (by omega)) (Zs (dt (by simp; omega)) XF)) ?_
    refine XN (fun hb6 => ?_) (fun hb6 => ?_)
    · exact Xt
    · exact JF (by omega)
  · unfold M.YK
    try simp only [Int.toNat_natCast]
    exact XW (decide_eq_false (by omega)) rfl
noncomputable def S.YL (a0 : Z4) (i8 : Nat) : Option (Unit ⊕ Int) :=
  letS (S.QO ((a0.Zr.getD i8 default).Zp)) (fun r10 => bif !r10 then (some (.inr 1)) else (letS (runN (S.YK a0 i8) (.inl ()) 0 i8) (fun y13 => Sum.elim (fun _ => none) (fun y15 => some (.inr y15)) y13)))
theorem RP (a0 : Z4) (ha0 : Z2 a0) (i0 : Nat) : loopM (M.YL a0) (i0 : Int) = some (runN (S.YL a0) (.inl ()) i0 (a0.Zr.length - i0)) := by
  have hM := Zm
  have hni8 : a0.Zr.length ≤ maxLen := (Z2.Zr ha0)
  refine Z3 (n := a0.Zr.length) (fun i8 hi8 => ?_) (fun m hm => ?_) i0
  · unfold M.YL S.YL
    try simp only [Int.toNat_natCast]
    refine XV (dt (by omega)) ?_
    refine Yx (Zs (dt (by omega)) (Zs (dt (by omega)) XF)) ?_
    refine ZO (UE ((a0.Zr.getD i8 default).Zp)) (fun r10 her10 => ?_)
    refine XN (fun hb5 => ?_) (fun hb5 => ?_)
    · exact Xt
    · refine Yx (Zs (dt (by omega)) (Zs (dt (by omega)) XF)) ?_
      refine ZO (RO a0 i8 ha0 hi8 0) (fun y13 hey13 => ?_)
      refine JS (fun _ hl => ?_) (fun y15 hly15 => ?_)
      · exact JF (by omega)
      · exact Xt
  · unfold M.YL
    try simp only [Int.toNat_natCast]
    exact XW (decide_eq_false (by omega)) rfl
noncomputable def S.YM (a0 : Z4) (i19 : Nat) (i23 : Nat) : Option (Unit ⊕ Int) :=
  bif (((((((a0.Zo.drop 0).take (i19 - 0)).getD i23 default).Zp).Zu) == (((a0.Zo.getD i19 default).Zp).Zu)) && (((((((a0.Zo.drop 0).take (i19 - 0)).getD i23 default).Zp).ZJ) == (((a0.Zo.getD i19 default).Zp).ZJ)) && true)) then (some (.inr 4)) else none
theorem RQ (a0 : Z4) (i19 : Nat) (ha0 : Z2 a0) (hi19 : i19 < a0.Zo.length) (i0 : Nat) : loopM (M.YM a0 (i19 : Int)) (i0 : Int) = some (runN (S.YM a0 i19) (.inl ()) i0 (i19 - i0)) := by
  have hM := Zm
  have hni19 : a0.Zo.length ≤ maxLen := (Z2.Zo ha0)
  have hni23 : i19 ≤ maxLen := (by omega)
  refine Z3 (n := i19) (fun i23 hi23 => ?_) (fun m hm => ?_) i0
  · unfold M.YM S.YM
    try simp only [Int.toNat_natCast]
    refine XV (dt (by omega)) ?_
    refine Yx (Zs (dt (by omega)) (Zs (dt (by simp; omega)) XF)) ?_
    refine XN (fun hb10 => ?_) (fun hb10 => ?_)
    · exact Xt
    · exact JF (by omega)
  · unfold M.YM
    try simp only [Int.toNat_natCast]
    exact XW (decide_eq_false (by omega)) rfl
noncomputable def S.YN (a0 : Z4) (i19 : Nat) : Option (Unit ⊕ Int) :=
  letS (S.QO ((a0.Zo.getD i19 default).Zp)) (fun r21 => letS (bif (!(!r21)) then S.QO ((a0.Zo.getD i19 default).fIf) else default) (fun r22 => bif (!r21) || (!r22) then (some (.inr 1)) else (bif (((((a0.Zo.getD i19 default).Zp).Zu) == (((a0.Zo.getD i19 default).fIf).Zu)) && (((((a0.Zo.getD i19 default).Zp).ZJ) == (((a0.Zo.getD i19 default).fIf).ZJ)) && true)) then (some (.inr 6)) else (letS (runN (S.YM a0 i19) (.inl ()) 0 i19) (fun y25 => Sum.elim (fun _ => none) (fun y27 => some (.inr y27)) y25)))))
theorem RR (a0 : Z4) (ha0 : Z2 a0) (i0 : Nat) : loopM (M.YN a0) (i0 : Int) = some (runN (S.YN a0) (.inl ()) i0 (a0.Zo.length - i0)) := by
  have hM := Zm
  have hni19 : a0.Zo.length ≤ maxLen := (Z2.Zo ha0)
  refine Z3 (n := a0.Zo.length) (fun i19 hi19 => ?_) (fun m hm => ?_) i0
  · unfold M.YN S.YN
    try simp only [Int.toNat_natCast]
    refine XV (dt (by omega)) ?_
    refine Yx (Zs (dt (by omega)) (Zs (dt (by omega)) XF)) ?_
    refine ZO (UE ((a0.Zo.getD i19 default).Zp)) (fun r21 her21 => ?_)
    refine ZO (Jr fun hg => (UE ((a0.Zo.getD i19 default).fIf))) (fun r22 her22 => ?_)
    refine XN (fun hb8 => ?_) (fun hb8 => ?_)
    · exact Xt
    · refine XN (fun hb9 => ?_) (fun hb9 => ?_)
      · exact Xt
      · refine Yx (Zs (dt (by omega)) (Zs (dt (by omega)) XF)) ?_
        refine ZO (RQ a0 i19 ha0 hi19 0) (fun y25 hey25 => ?_)
        refine JS (fun _ hl => ?_) (fun y27 hly27 => ?_)
        · exact JF (by omega)
        · exact Xt
  · unfold M.YN
    try simp only [Int.toNat_natCast]
    exact XW (decide_eq_false (by omega)) rfl
noncomputable def S.QE (a0 : Z4) : Int :=
  bif decide ((a0.Zt.length : Int) > 8) then 7 else (letS (runN (S.YJ a0) (.inl ()) 0 a0.Zt.length) (fun y5 => Sum.elim (fun _ => bif decide ((a0.Zr.length : Int) > 8) then 7 else (letS (runN (S.YL a0) (.inl ()) 0 a0.Zr.length) (fun y16 => Sum.elim (fun _ => bif decide ((a0.Zo.length : Int) > 8) then 7 else (letS (runN (S.YN a0) (.inl ()) 0 a0.Zo.length) (fun y28 => Sum.elim (fun _ => 0) (fun y30 => y30) y28))) (fun y18 => y18) y16))) (fun y7 => y7) y5))
theorem Zbr (a0 : Z4) (ha0 : Z2 a0) : M.QE a0 = some (S.QE a0) := by
  have hM := Zm
  unfold M.QE S.QE
  refine Jf (fun hb1 => ?_) (fun hb1 => ?_)
  · rfl
  · refine ZZ (RN a0 ha0 0) (fun y5 hey5 => ?_)
    refine Qp (fun _ hl => ?_) (fun y7 hly7 => ?_)
    · refine Jf (fun hb4 => ?_) (fun hb4 => ?_)
      · rfl
      · refine ZZ (RP a0 ha0 0) (fun y16 hey16 => ?_)
        refine Qp (fun _ hl => ?_) (fun y18 hly18 => ?_)
        · refine Jf (fun hb7 => ?_) (fun hb7 => ?_)
          · rfl
          · refine ZZ (RR a0 ha0 0) (fun y28 hey28 => ?_)
            refine Qp (fun _ hl => ?_) (fun y30 hly30 => ?_)
            · rfl
            · rfl
        · rfl
    · rfl
noncomputable def S.YO (a0 : Zf) : Int :=
  bif !a0.Xb.Wr then (bif ((((((a0.Xb.X4 != 0) || (a0.Xb.X5 != 0)) || (decide ((a0.Xb.Zl.length : Int) > 0))) || (decide ((a0.Xb.Zt.length : Int) > 0))) || (decide ((a0.Xb.Zr.length : Int) > 0))) || (decide ((a0.Xb.Zo.length : Int) > 0))) || (decide ((a0.Xb.Zv.length : Int) > 0)) then 1 else 0) else (letS (bif (!(a0.GN == 0)) then S.ZP a0.Xb.X4 1 255 else default) (fun r1 => letS (bif (!((a0.GN == 0) || (!r1))) then S.ZP a0.Xb.X5 1 255 else default) (fun r2 => bif ((a0.GN == 0) || (!r1)) || (!r2) then 1 else (letS (S.Y2 a0) (fun r3 => bif r3 != 0 then r3 else (letS (S.QE a0.Xb) (fun r4 => bif r4 != 0 then r4 else (letS (S.YB a0 a0.Xb.Zv 5 0 16777215 0) (fun r5 => r5)))))))))
theorem RT (a0 : Zf) (ha0 : Zi a0) : M.YO a0 = some (S.YO a0) := by
  have hM := Zm
  unfold M.YO S.YO
  refine Jf (fun hb1 => ?_) (fun hb1 => ?_)
  · refine Jf (fun hb2 => ?_) (fun hb2 => ?_)
    · rfl
    · rfl
  · refine ZZ (Jr fun hg => (XU a0.Xb.X4 1 255)) (fun r1 her1 => ?_)
    refine ZZ (Jr fun hg => (XU a0.Xb.X5 1 255)) (fun r2 her2 => ?_)
    refine Jf (fun hb3 => ?_) (fun hb3 => ?_)
    · rfl
    · refine ZZ (Zaf a0 ha0) (fun r3 her3 => ?_)
      refine Jf (fun hb4 => ?_) (fun hb4 => ?_)
      · rfl
      · refine ZZ (Zbr a0.Xb (Zi.Xb ha0)) (fun r4 her4 => ?_)
        refine Jf (fun hb5 => ?_) (fun hb5 => ?_)
        · rfl
        · refine ZZ (Gg a0 a0.Xb.Zv 5 0 16777215 0 ha0 (Z2.Zv (Zi.Xb ha0))) (fun r5 her5 => ?_)
          rfl
noncomputable def S.QX (a0 : Zf) : Int :=
  letS (S.Wf a0.ZW) (fun r1 => bif !r1 then 3 else (letS (S.ZP a0.GN 0 65535) (fun r2 => bif !r2 then 1 else (letS (S.YH a0) (fun r3 => bif r3 != 0 then r3 else (letS (S.YA a0) (fun r4 => bif r4 != 0 then r4 else (letS (S.YY a0) (fun r5 => bif r5 != 0 then r5 else (letS (S.JH a0) (fun r6 => bif r6 != 0 then r6 else (letS (S.JX a0) (fun r7 => bif r7 != 0 then r7 else (letS (S.Jb a0) (fun r8 => bif r8 != 0 then r8 else (letS (S.QD a0) (fun r9 => bif r9 != 0 then r9 else (letS (S.Y1 a0) (fun r10 => bif r10 != 0 then r10 else (letS (S.Ye a0) (fun r11 => bif r11 != 0 then r11 else (letS (S.YO a0) (fun r12 => bif r12 != 0 then r12 else 0)))))))))))))))))))))))
theorem Zb3 (a0 : Zf) (ha0 : Zi a0) : M.QX a0 = some (S.QX a0) := by
  have hM := Zm
  unfold M.QX S.QX
  refine ZZ (Zbl a0.ZW (Zi.ZW ha0)) (fun r1 her1 => ?_)
  refine Jf (fun hb1 => ?_) (fun hb1 => ?_)
  · rfl
  · refine ZZ (XU a0.GN 0 65535) (fun r2 her2 => ?_)
    refine Jf (fun hb2 => ?_) (fun hb2 => ?_)
    · rfl
    · refine Yx (Zs (dt (by first | omega | (simp; omega) | (simp at *; omega))) (Zs (dt (by first | omega | (simp; omega) | (simp at *; omega))) XF)) ?_
      refine ZZ (RJ a0 ha0) (fun r3 her3 => ?_)
      refine Jf (fun hb3 => ?_) (fun hb3 => ?_)
      · rfl
      · refine Yx (Zs (dt (by first | omega | (simp; omega) | (simp at *; omega))) (Zs (dt (by first | omega | (simp; omega) | (simp at *; omega))) XF)) ?_
        refine ZZ (Rl a0 ha0) (fun r4 her4 => ?_)
        refine Jf (fun hb4 => ?_) (fun hb4 => ?_)
        · rfl
        · refine Yx (Zs (dt (by first | omega | (simp; omega) | (simp at *; omega))) (Zs (dt (by first | omega | (simp; omega) | (simp at *; omega))) XF)) ?_
          refine ZZ (Zaa a0 ha0) (fun r5 her5 => ?_)
          refine Jf (fun hb5 => ?_) (fun hb5 => ?_)
          · rfl
          · refine Yx (Zs (dt (by first | omega | (simp; omega) | (simp at *; omega))) (Zs (dt (by first | omega | (simp; omega) | (simp at *; omega))) XF)) ?_
            refine ZZ (ZdF a0 ha0) (fun r6 her6 => ?_)
            refine Jf (fun hb6 => ?_) (fun hb6 => ?_)
            · rfl
            · refine Yx (Zs (dt (by first | omega | (simp; omega) | (simp at *; omega))) (Zs (dt (by first | omega | (simp; omega) | (simp at *; omega))) XF)) ?_
              refine ZZ (Zea a0 ha0) (fun r7 her7 => ?_)
              refine Jf (fun hb7 => ?_) (fun hb7 => ?_)
              · rfl
              · refine Yx (Zs (dt (by first | omega | (simp; omega) | (simp at *; omega))) (Zs (dt (by first | omega | (simp; omega) | (simp at *; omega))) XF)) ?_
                refine ZZ (Zbp a0 ha0) (fun r8 her8 => ?_)
                refine Jf (fun hb8 => ?_) (fun hb8 => ?_)
                · rfl
                · refine Yx (Zs (dt (by first | omega | (simp; omega) | (simp at *; omega))) (Zs (dt (by first | omega | (simp; omega) | (simp at *; omega))) XF)) ?_
                  refine ZZ (Zbq a0 ha0) (fun r9 her9 => ?_)
                  refine Jf (fun hb9 => ?_) (fun hb9 => ?_)
                  · rfl
                  · refine Yx (Zs (dt (by first | omega | (simp; omega) | (simp at *; omega))) (Zs (dt (by first | omega | (simp; omega) | (simp at *; omega))) XF)) ?_
                    refine ZZ (Zae a0 ha0) (fun r10 her10 => ?_)
                    refine Jf (fun hb10 => ?_) (fun hb10 => ?_)
                    · rfl
                    · refine Yx (Zs (dt (by first | omega | (simp; omega) | (simp at *; omega))) (Zs (dt (by first | omega | (simp; omega) | (simp at *; omega))) XF)) ?_
                      refine ZZ (Kx a0 ha0) (fun r11 her11 => ?_)
                      refine Jf (fun hb11 => ?_) (fun hb11 => ?_)
                      · rfl
                      · refine Yx (Zs (dt (by first | omega | (simp; omega) | (simp at *; omega))) (Zs (dt (by first | omega | (simp; omega) | (simp at *; omega))) XF)) ?_
                        refine ZZ (RT a0 ha0) (fun r12 her12 => ?_)
                        refine Jf (fun hb12 => ?_) (fun hb12 => ?_)
                        · rfl
                        · rfl
noncomputable def S.Y3 (a0 : Zy) (b0 : Zf) : Bool :=
  letS (bif (a0.ZJ != 0) then S.J5 b0 a0.Zu else default) (fun r1 => (a0.ZJ != 0) && (decide (r1 ≥ 0)))
theorem Zag (a0 : Zy) (b0 : Zf) (ha0 : Xh a0) (hb0 : Zi b0) : M.Y3 a0 b0 = some (S.Y3 a0 b0) := by
  have hM := Zm
  unfold M.Y3 S.Y3
  refine ZZ (Jr fun hg => (Zau b0 a0.Zu hb0)) (fun r1 her1 => ?_)
  rfl
noncomputable def S.ZH (a0 : List Zy) (a1c0 : Zf) (i1 : Nat) : Option (Unit ⊕ Int) :=
  letS (S.Y3 (a0.getD i1 default) a1c0) (fun r3 => bif r3 then (some (.inr (i1 : Int))) else none)
theorem Vh (a0 : List Zy) (a1c0 : Zf) (ha0 : LL Xh a0) (ha1c0 : Zi a1c0) (i0 : Nat) : loopM (M.ZH a0 a1c0) (i0 : Int) = some (runN (S.ZH a0 a1c0) (.inl ()) i0 (a0.length - i0)) := by
  have hM := Zm
  have hni1 : a0.length ≤ maxLen := ha0.1
  refine Z3 (n := a0.length) (fun i1 hi1 => ?_) (fun m hm => ?_) i0
  · unfold M.ZH S.ZH
    try simp only [Int.toNat_natCast]
    refine XV (dt (by omega)) ?_
    refine ZO (Zag (a0.getD i1 default) a1c0 (LL.getD ha0 Xh.dflt i1) ha1c0) (fun r3 her3 => ?_)
    refine Yx (Zs (dt (by omega)) (Zs (dt (by omega)) XF)) ?_
    refine XN (fun hb1 => ?_) (fun hb1 => ?_)
    · exact Xt
    · exact JF (by omega)
  · unfold M.ZH
    try simp only [Int.toNat_natCast]
    exact XW (decide_eq_false (by omega)) rfl
noncomputable def S.ZN (a0 : List Zy) (a1c0 : Zf) : Int :=
  letS (runN (S.ZH a0 a1c0) (.inl ()) 0 a0.length) (fun y4 => Sum.elim (fun _ => -1) (fun y6 => y6) y4)
theorem VA (a0 : List Zy) (a1c0 : Zf) (ha0 : LL Xh a0) (ha1c0 : Zi a1c0) : M.ZN a0 a1c0 = some (S.ZN a0 a1c0) := by
  have hM := Zm
  unfold M.ZN S.ZN
  refine ZZ (Vh a0 a1c0 ha0 ha1c0 0) (fun y4 hey4 => ?_)
  refine Qp (fun _ hl => ?_) (fun y6 hly6 => ?_)
  · rfl
  · rfl
noncomputable def S.ZI (a0 : List Zy) (a1c0 : Zf) : Bool :=
  letS (S.ZN a0 a1c0) (fun r1 => decide (r1 ≥ 0))
theorem Vi (a0 : List Zy) (a1c0 : Zf) (ha0 : LL Xh a0) (ha1c0 : Zi a1c0) : M.ZI a0 a1c0 = some (S.ZI a0 a1c0) := by
  have hM := Zm
  unfold M.ZI S.ZI
  refine ZZ (VA a0 a1c0 ha0 ha1c0) (fun r1 her1 => ?_)
  rfl
noncomputable def S.Jc (a0 : Zf) (a1 : Zf) : Bool :=
  letS (S.ZI a1.Zc a0) (fun r1 => r1)
theorem Zbs (a0 : Zf) (a1 : Zf) (ha0 : Zi a0) (ha1 : Zi a1) : M.Jc a0 a1 = some (S.Jc a0 a1) := by
  have hM := Zm
  unfold M.Jc S.Jc
  refine ZZ (Vi a1.Zc a0 (Zi.Zc ha1) ha0) (fun r1 her1 => ?_)
  rfl
noncomputable def S.JY (a0 : ZX) (i1 : Nat) (i4 : Nat) : Option (Unit ⊕ Int) :=
  letS (bif (!(strEq ((((a0.Zd.drop 0).take (i1 - 0)).getD i4 default).ZW) ((a0.Zd.getD i1 default).ZW))) then S.Jc (((a0.Zd.drop 0).take (i1 - 0)).getD i4 default) (a0.Zd.getD i1 default) else default) (fun r6 => bif (strEq ((((a0.Zd.drop 0).take (i1 - 0)).getD i4 default).ZW) ((a0.Zd.getD i1 default).ZW)) || r6 then (some (.inr 4)) else none)
theorem Zeb (a0 : ZX) (i1 : Nat) (ha0 : Yt a0) (hi1 : i1 < a0.Zd.length) (i0 : Nat) : loopM (M.JY a0 (i1 : Int)) (i0 : Int) = some (runN (S.JY a0 i1) (.inl ()) i0 (i1 - i0)) := by
  have hM := Zm
  have hni1 : a0.Zd.length ≤ maxLen := (Yt.Zd ha0).1
  have hni4 : i1 ≤ maxLen := (by omega)
  refine Z3 (n := i1) (fun i4 hi4 => ?_) (fun m hm => ?_) i0
  · unfold M.JY S.JY
    try simp only [Int.toNat_natCast]
    refine XV (dt (by omega)) ?_
    refine Yx (Zs (dt (by omega)) (Zs (dt (by simp; omega)) XF)) ?_
    refine ZO (Jr fun hg => (Zbs (((a0.Zd.drop 0).take (i1 - 0)).getD i4 default) (a0.Zd.getD i1 default) (LL.getD (LL.take (LL.drop (Yt.Zd ha0) _) _) Zi.dflt i4) (LL.getD (Yt.Zd ha0) Zi.dflt i1))) (fun r6 her6 => ?_)
    refine XN (fun hb3 => ?_) (fun hb3 => ?_)
    · exact Xt
    · exact JF (by omega)
  · unfold M.JY
    try simp only [Int.toNat_natCast]
    exact XW (decide_eq_false (by omega)) rfl
noncomputable def S.Vu (a0 : ZX) (i1 : Nat) : Option (Unit ⊕ Int) :=
  letS (S.QX (a0.Zd.getD i1 default)) (fun r3 => bif r3 != 0 then (some (.inr r3)) else (letS (runN (S.JY a0 i1) (.inl ()) 0 i1) (fun y7 => Sum.elim (fun _ => none) (fun y9 => some (.inr y9)) y7)))
theorem Zec (a0 : ZX) (ha0 : Yt a0) (i0 : Nat) : loopM (M.Vu a0) (i0 : Int) = some (runN (S.Vu a0) (.inl ()) i0 (a0.Zd.length - i0)) := by
  have hM := Zm
  have hni1 : a0.Zd.length ≤ maxLen := (Yt.Zd ha0).1
  refine Z3 (n := a0.Zd.length) (fun i1 hi1 => ?_) (fun m hm => ?_) i0
  · unfold M.Vu S.Vu
    try simp only [Int.toNat_natCast]
    refine XV (dt (by omega)) ?_
    refine Yx (Zs (dt (by omega)) (Zs (dt (by omega)) XF)) ?_
    refine ZO (Zb3 (a0.Zd.getD i1 default) (LL.getD (Yt.Zd ha0) Zi.dflt i1)) (fun r3 her3 => ?_)
    refine XN (fun hb2 => ?_) (fun hb2 => ?_)
    · exact Xt
    · refine Yx (Zs (dt (by omega)) (Zs (dt (by omega)) XF)) ?_
      refine ZO (Zeb a0 i1 ha0 hi1 0) (fun y7 hey7 => ?_)
      refine JS (fun _ hl => ?_) (fun y9 hly9 => ?_)
      · exact JF (by omega)
      · exact Xt
  · unfold M.Vu
    try simp only [Int.toNat_natCast]
    exact XW (decide_eq_false (by omega)) rfl
noncomputable def S.QJ (a0 : ZX) : Int :=
  bif decide ((a0.Zd.length : Int) > 8) then 7 else (letS (runN (S.Vu a0) (.inl ()) 0 a0.Zd.length) (fun y10 => Sum.elim (fun _ => 0) (fun y12 => y12) y10))
theorem Zcq (a0 : ZX) (ha0 : Yt a0) : M.QJ a0 = some (S.QJ a0) := by
  have hM := Zm
  unfold M.QJ S.QJ
  refine Jf (fun hb1 => ?_) (fun hb1 => ?_)
  · rfl
  · refine ZZ (Zec a0 ha0 0) (fun y10 hey10 => ?_)
    refine Qp (fun _ hl => ?_) (fun y12 hly12 => ?_)
    · rfl
    · rfl
noncomputable def S.Vj (a0 : Int) : Bool :=
  ((decide (a0 ≥ 97)) && (decide (a0 ≤ 122))) || ((decide (a0 ≥ 65)) && (decide (a0 ≤ 90)))
theorem Zcr (a0 : Int)  : M.Vj a0 = some (S.Vj a0) := by
  have hM := Zm
  unfold M.Vj S.Vj
  rfl
noncomputable def S.V6 (a0 : ByteArray) (i2 : Nat) : Option (Unit ⊕ Bool) :=
  letS (S.Vj (byteAt a0 (i2 : Int))) (fun r4 => bif (((((!r4) && (!((decide ((byteAt a0 (i2 : Int)) ≥ 48)) && (decide ((byteAt a0 (i2 : Int)) ≤ 57))))) && ((byteAt a0 (i2 : Int)) != 45)) && ((byteAt a0 (i2 : Int)) != 95)) && ((byteAt a0 (i2 : Int)) != 47)) && ((byteAt a0 (i2 : Int)) != 46) then (some (.inr false)) else none)
theorem ZfJ (a0 : ByteArray) (ha0 : a0.size ≤ maxLen) (i0 : Nat) : loopM (M.V6 a0) (i0 : Int) = some (runN (S.V6 a0) (.inl ()) i0 (a0.size - i0)) := by
  have hM := Zm
  have hni2 : a0.size ≤ maxLen := ha0
  refine Z3 (n := a0.size) (fun i2 hi2 => ?_) (fun m hm => ?_) i0
  · unfold M.V6 S.V6
    try simp only [Int.toNat_natCast]
    refine XV (dt (by omega)) ?_
    refine Yx (Zs (dt (by omega)) (Zs (dt (by omega)) XF)) ?_
    refine ZO (Zcr (byteAt a0 (i2 : Int))) (fun r4 her4 => ?_)
    refine XN (fun hb2 => ?_) (fun hb2 => ?_)
    · exact Xt
    · exact JF (by omega)
  · unfold M.V6
    try simp only [Int.toNat_natCast]
    exact XW (decide_eq_false (by omega)) rfl
noncomputable def S.Je (a0 : ByteArray) : Bool :=
  letS (bif (!((decide ((a0.size : Int) < 1)) || (decide ((a0.size : Int) > 15)))) then S.Vj (byteAt a0 0) else default) (fun r1 => bif ((decide ((a0.size : Int) < 1)) || (decide ((a0.size : Int) > 15))) || (!r1) then false else (letS (runN (S.V6 a0) (.inl ()) 1 (a0.size - 1)) (fun y5 => Sum.elim (fun _ => true) (fun y7 => y7) y5)))
theorem Kd (a0 : ByteArray) (ha0 : a0.size ≤ maxLen) : M.Je a0 = some (S.Je a0) := by
  have hM := Zm
  unfold M.Je S.Je
  refine ZZ (Jr fun hg => (Zcr (byteAt a0 0))) (fun r1 her1 => ?_)
  refine Yx (Zs (JM fun hg => (dt (by first | omega | (simp; omega) | (simp at *; omega)))) (Zs (JM fun hg => (dt (by first | omega | (simp; omega) | (simp at *; omega)))) XF)) ?_
  refine Jf (fun hb1 => ?_) (fun hb1 => ?_)
  · rfl
  · refine ZZ (ZfJ a0 ha0 1) (fun y5 hey5 => ?_)
    refine Qp (fun _ hl => ?_) (fun y7 hly7 => ?_)
    · rfl
    · rfl
noncomputable def S.Zz (a0 : Int) (a1 : Int) (a2 : Int) : Bool :=
  (decide (a1 ≤ a0)) && (decide (a0 ≤ a2))
theorem X9 (a0 : Int) (a1 : Int) (a2 : Int)  : M.Zz a0 a1 a2 = some (S.Zz a0 a1 a2) := by
  have hM := Zm
  unfold M.Zz S.Zz
  rfl
noncomputable def S.QZ (a0 : Int) (a1 : Int) : ZL :=
  letS (S.Vp (if 0 > (if 32 < a1 then 32 else a1) then 0 else (if 32 < a1 then 32 else a1))) (fun r1 => (⟨bitD .and .u32 a0 r1, if 0 > (if 32 < a1 then 32 else a1) then 0 else (if 32 < a1 then 32 else a1)⟩ : ZL))
theorem KN (a0 : Int) (a1 : Int)  : M.QZ a0 a1 = some (S.QZ a0 a1) := by
  have hM := Zm
  unfold M.QZ S.QZ
  refine ZZ (Zbk (if 0 > (if 32 < a1 then 32 else a1) then 0 else (if 32 < a1 then 32 else a1))) (fun r1 her1 => ?_)
  rfl
noncomputable def S.Wm (a0 : ZL) (a1 : Int) : Bool :=
  letS (S.Vp a0.ZJ) (fun r1 => (bitD .and .u32 a1 r1) == a0.Zu)
theorem ZeH (a0 : ZL) (a1 : Int)  : M.Wm a0 a1 = some (S.Wm a0 a1) := by
  have hM := Zm
  unfold M.Wm S.Wm
  refine ZZ (Zbk a0.ZJ) (fun r1 her1 => ?_)
  rfl
noncomputable def S.Wu (a0 : ZL) (a1 : ZL) : Bool :=
  letS (bif (decide (a0.ZJ ≤ a1.ZJ)) then S.Wm a0 a1.Zu else default) (fun r1 => (decide (a0.ZJ ≤ a1.ZJ)) && r1)
theorem Zcs (a0 : ZL) (a1 : ZL)  : M.Wu a0 a1 = some (S.Wu a0 a1) := by
  have hM := Zm
  unfold M.Wu S.Wu
  refine ZZ (Jr fun hg => (ZeH a0 a1.Zu)) (fun r1 her1 => ?_)
  rfl
noncomputable def S.J7 (a0 : ZL) (a1 : ZL) : Bool :=
  letS (S.Wu a0 a1) (fun r1 => letS (bif (!r1) then S.Wu a1 a0 else default) (fun r2 => r1 || r2))
theorem Zav (a0 : ZL) (a1 : ZL)  : M.J7 a0 a1 = some (S.J7 a0 a1) := by
  have hM := Zm
  unfold M.J7 S.J7
  refine ZZ (Zcs a0 a1) (fun r1 her1 => ?_)
  refine ZZ (Jr fun hg => (Zcs a1 a0)) (fun r2 her2 => ?_)
  rfl
noncomputable def S.Jd (a0 : List Zy) (i1 : Nat) (i4 : Nat) : Option (Unit ⊕ Int) :=
  bif strEq ((a0.getD i4 default).ZW) ((a0.getD i1 default).ZW) then (some (.inr 4)) else none
theorem Zbt (a0 : List Zy) (i1 : Nat) (ha0 : LL Xh a0) (hi1 : i1 < a0.length) (i0 : Nat) : loopM (M.Jd a0 (i1 : Int)) (i0 : Int) = some (runN (S.Jd a0 i1) (.inl ()) i0 (i1 - i0)) := by
  have hM := Zm
  have hni1 : a0.length ≤ maxLen := ha0.1
  have hni4 : i1 ≤ maxLen := (by omega)
  refine Z3 (n := i1) (fun i4 hi4 => ?_) (fun m hm => ?_) i0
  · unfold M.Jd S.Jd
    try simp only [Int.toNat_natCast]
    refine XV (dt (by omega)) ?_
    refine Yx (Zs (dt (by omega)) (Zs (dt (by omega)) XF)) ?_
    refine XN (fun hb3 => ?_) (fun hb3 => ?_)
    · exact Xt
    · exact JF (by omega)
  · unfold M.Jd
    try simp only [Int.toNat_natCast]
    exact XW (decide_eq_false (by omega)) rfl
noncomputable def S.Qi (a0 : List Zy) (i1 : Nat) (i14 : Nat) : Option (Unit ⊕ Int) :=
  letS (bif ((((a0.getD i1 default).ZJ) != 0) && (((a0.getD i14 default).ZJ) != 0)) then S.QZ ((a0.getD i1 default).Zu) ((a0.getD i1 default).ZJ) else default) (fun r16 => letS (bif ((((a0.getD i1 default).ZJ) != 0) && (((a0.getD i14 default).ZJ) != 0)) then S.QZ ((a0.getD i14 default).Zu) ((a0.getD i14 default).ZJ) else default) (fun r17 => letS (bif ((((a0.getD i1 default).ZJ) != 0) && (((a0.getD i14 default).ZJ) != 0)) then S.J7 r16 r17 else default) (fun r18 => bif ((((a0.getD i1 default).ZJ) != 0) && (((a0.getD i14 default).ZJ) != 0)) && r18 then (some (.inr 6)) else none)))
theorem Zbu (a0 : List Zy) (i1 : Nat) (ha0 : LL Xh a0) (hi1 : i1 < a0.length) (i0 : Nat) : loopM (M.Qi a0 (i1 : Int)) (i0 : Int) = some (runN (S.Qi a0 i1) (.inl ()) i0 (i1 - i0)) := by
  have hM := Zm
  have hni1 : a0.length ≤ maxLen := ha0.1
  have hni14 : i1 ≤ maxLen := (by omega)
  refine Z3 (n := i1) (fun i14 hi14 => ?_) (fun m hm => ?_) i0
  · unfold M.Qi S.Qi
    try simp only [Int.toNat_natCast]
    refine XV (dt (by omega)) ?_
    refine ZO (Jr fun hg => (KN ((a0.getD i1 default).Zu) ((a0.getD i1 default).ZJ))) (fun r16 her16 => ?_)
    refine ZO (Jr fun hg => (KN ((a0.getD i14 default).Zu) ((a0.getD i14 default).ZJ))) (fun r17 her17 => ?_)
    refine ZO (Jr fun hg => (Zav r16 r17)) (fun r18 her18 => ?_)
    refine Yx (Zs (JM fun hg => (dt (by first | omega | (simp; omega) | (simp at *; omega)))) (Zs (JM fun hg => (dt (by first | omega | (simp; omega) | (simp at *; omega)))) (Zs (JM fun hg => (dt (by first | omega | (simp; omega) | (simp at *; omega)))) (Zs (JM fun hg => (dt (by first | omega | (simp; omega) | (simp at *; omega)))) (Zs (JM fun hg => (dt (by first | omega | (simp; omega) | (simp at *; omega)))) (Zs (JM fun hg => (dt (by first | omega | (simp; omega) | (simp at *; omega)))) XF)))))) ?_
    refine XN (fun hb7 => ?_) (fun hb7 => ?_)
    · exact Xt
    · exact JF (by omega)
  · unfold M.Qi
    try simp only [Int.toNat_natCast]
    exact XW (decide_eq_false (by omega)) rfl
noncomputable def S.QG (a0 : List Zy) (i1 : Nat) : Option (Unit ⊕ Int) :=
  letS (S.Je ((a0.getD i1 default).ZW)) (fun r3 => bif !r3 then (some (.inr 3)) else (letS (runN (S.Jd a0 i1) (.inl ()) 0 i1) (fun y6 => Sum.elim (fun _ => letS (S.Zz ((a0.getD i1 default).ZJ) 0 32) (fun r9 => letS (bif (!(!r9)) then S.Zz ((a0.getD i1 default).Xr) 0 4094 else default) (fun r10 => letS (bif (!((!r9) || (!r10))) then S.Zz ((a0.getD i1 default).Rw) 0 2 else default) (fun r11 => bif ((!r9) || (!r10)) || (!r11) then (some (.inr 1)) else (bif ((((a0.getD i1 default).ZJ) == 0) && (((((((((a0.getD i1 default).Zu) != 0) || (((a0.getD i1 default).Xr) != 0)) || (((a0.getD i1 default).Rw) != 0)) || ((a0.getD i1 default).Yi)) || ((a0.getD i1 default).YC)) || (!strEq ((a0.getD i1 default).VQ) (⟨#[]⟩ : ByteArray))) || (!strEq ((a0.getD i1 default).YV) (⟨#[]⟩ : ByteArray)))) || ((((a0.getD i1 default).ZJ) != 0) && (((a0.getD i1 default).Zu) == 0)) then (some (.inr 1)) else (letS (bif ((a0.getD i1 default).Yi) then S.Zz ((a0.getD i1 default).JV) 0 255 else default) (fun r12 => letS (bif (((a0.getD i1 default).Yi) && !(!r12)) then S.Zz ((a0.getD i1 default).K4) 1 65535 else default) (fun r13 => bif (((a0.getD i1 default).Yi) && ((!r12) || (!r13))) || ((!((a0.getD i1 default).Yi)) && ((((a0.getD i1 default).JV) != 0) || (((a0.getD i1 default).K4) != 0))) then (some (.inr 1)) else (letS (runN (S.Qi a0 i1) (.inl ()) 0 i1) (fun y19 => Sum.elim (fun _ => none) (fun y21 => some (.inr y21)) y19)))))))))) (fun y8 => some (.inr y8)) y6)))
theorem Zbv (a0 : List Zy) (ha0 : LL Xh a0) (i0 : Nat) : loopM (M.QG a0) (i0 : Int) = some (runN (S.QG a0) (.inl ()) i0 (a0.length - i0)) := by
  have hM := Zm
  have hni1 : a0.length ≤ maxLen := ha0.1
  refine Z3 (n := a0.length) (fun i1 hi1 => ?_) (fun m hm => ?_) i0
  · unfold M.QG S.QG
    try simp only [Int.toNat_natCast]
    refine XV (dt (by omega)) ?_
    refine Yx (Zs (dt (by omega)) (Zs (dt (by omega)) XF)) ?_
    refine ZO (Kd ((a0.getD i1 default).ZW) (Xh.ZW (LL.getD ha0 Xh.dflt i1))) (fun r3 her3 => ?_)
    refine XN (fun hb2 => ?_) (fun hb2 => ?_)
    · exact Xt
    · refine ZO (Zbt a0 i1 ha0 hi1 0) (fun y6 hey6 => ?_)
      refine JS (fun _ hl => ?_) (fun y8 hly8 => ?_)
      · refine ZO (X9 ((a0.getD i1 default).ZJ) 0 32) (fun r9 her9 => ?_)
        refine ZO (Jr fun hg => (X9 ((a0.getD i1 default).Xr) 0 4094)) (fun r10 her10 => ?_)
        refine ZO (Jr fun hg => (X9 ((a0.getD i1 default).Rw) 0 2)) (fun r11 her11 => ?_)
        refine XN (fun hb4 => ?_) (fun hb4 => ?_)
        · exact Xt
        · refine XN (fun hb5 => ?_) (fun hb5 => ?_)
          · exact Xt
          · refine ZO (Jr fun hg => (X9 ((a0.getD i1 default).JV) 0 255)) (fun r12 her12 => ?_)
            refine ZO (Jr fun hg => (X9 ((a0.getD i1 default).K4) 1 65535)) (fun r13 her13 => ?_)
            refine XN (fun hb6 => ?_) (fun hb6 => ?_)
            · exact Xt
            · refine ZO (Zbu a0 i1 ha0 hi1 0) (fun y19 hey19 => ?_)
              refine JS (fun _ hl => ?_) (fun y21 hly21 => ?_)
              · exact JF (by omega)
              · exact Xt
      · exact Xt
  · unfold M.QG
    try simp only [Int.toNat_natCast]
    exact XW (decide_eq_false (by omega)) rfl
noncomputable def S.Jk (a0 : List Zy) : Int :=
  bif decide ((a0.length : Int) > 8) then 7 else (letS (runN (S.QG a0) (.inl ()) 0 a0.length) (fun y22 => Sum.elim (fun _ => 0) (fun y24 => y24) y22))
theorem ZdH (a0 : List Zy) (ha0 : LL Xh a0) : M.Jk a0 = some (S.Jk a0) := by
  have hM := Zm
  unfold M.Jk S.Jk
  refine Jf (fun hb1 => ?_) (fun hb1 => ?_)
  · rfl
  · refine ZZ (Zbv a0 ha0 0) (fun y22 hey22 => ?_)
    refine Qp (fun _ hl => ?_) (fun y24 hly24 => ?_)
    · rfl
    · rfl
noncomputable def S.YP (a0 : ZL) : Bool :=
  letS (bif ((decide (a0.ZJ ≥ 0)) && (decide (a0.ZJ ≤ 32))) then S.Vp a0.ZJ else default) (fun r1 => ((decide (a0.ZJ ≥ 0)) && (decide (a0.ZJ ≤ 32))) && ((bitD .andNot .u32 a0.Zu r1) == 0))
theorem UF (a0 : ZL)  : M.YP a0 = some (S.YP a0) := by
  have hM := Zm
  unfold M.YP S.YP
  refine ZZ (Jr fun hg => (Zbk a0.ZJ)) (fun r1 her1 => ?_)
  rfl
noncomputable def S.Qs (a0 : UY) : Bool :=
  letS (S.YP a0.Zp) (fun r1 => ((r1 && (decide (a0.Zp.ZJ ≤ a0.ZbR))) && (decide (a0.ZbR ≤ a0.ZbS))) && (decide (a0.ZbS ≤ 32)))
theorem Zah (a0 : UY)  : M.Qs a0 = some (S.Qs a0) := by
  have hM := Zm
  unfold M.Qs S.Qs
  refine ZZ (UF a0.Zp) (fun r1 her1 => ?_)
  rfl
noncomputable def S.QM (a0 : List Z1) (i1 : Nat) (i4 : Nat) : Option (Unit ⊕ Int) :=
  bif strEq ((a0.getD i4 default).ZW) ((a0.getD i1 default).ZW) then (some (.inr 4)) else none
theorem ZaE (a0 : List Z1) (i1 : Nat) (ha0 : LL X2 a0) (hi1 : i1 < a0.length) (i0 : Nat) : loopM (M.QM a0 (i1 : Int)) (i0 : Int) = some (runN (S.QM a0 i1) (.inl ()) i0 (i1 - i0)) := by
  have hM := Zm
  have hni1 : a0.length ≤ maxLen := ha0.1
  have hni4 : i1 ≤ maxLen := (by omega)
  refine Z3 (n := i1) (fun i4 hi4 => ?_) (fun m hm => ?_) i0
  · unfold M.QM S.QM
    try simp only [Int.toNat_natCast]
    refine XV (dt (by omega)) ?_
    refine Yx (Zs (dt (by omega)) (Zs (dt (by omega)) (Zs (dt (by omega)) (Zs (dt (by omega)) XF)))) ?_
    refine XN (fun hb3 => ?_) (fun hb3 => ?_)
    · exact Xt
    · exact JF (by omega)
  · unfold M.QM
    try simp only [Int.toNat_natCast]
    exact XW (decide_eq_false (by omega)) rfl
noncomputable def S.Qk (a0 : List Z1) (i1 : Nat) (i9 : Nat) : Option (Unit ⊕ Int) :=
  letS (S.Qs (((a0.getD i1 default).Xz).getD i9 default)) (fun r11 => bif !r11 then (some (.inr 1)) else none)
theorem ZaF (a0 : List Z1) (i1 : Nat) (ha0 : LL X2 a0) (hi1 : i1 < a0.length) (i0 : Nat) : loopM (M.Qk a0 (i1 : Int)) (i0 : Int) = some (runN (S.Qk a0 i1) (.inl ()) i0 (((a0.getD i1 default).Xz).length - i0)) := by
  have hM := Zm
  have hni1 : a0.length ≤ maxLen := ha0.1
  have hni9 : ((a0.getD i1 default).Xz).length ≤ maxLen := (X2.Xz (LL.getD ha0 X2.dflt i1))
  refine Z3 (n := ((a0.getD i1 default).Xz).length) (fun i9 hi9 => ?_) (fun m hm => ?_) i0
  · unfold M.Qk S.Qk
    try simp only [Int.toNat_natCast]
    refine Yx (Zs (dt (by omega)) (Zs (dt (by omega)) XF))  ?_
    refine XV (dt (by omega)) ?_
    refine ZO (Zah (((a0.getD i1 default).Xz).getD i9 default)) (fun r11 her11 => ?_)
    refine Yx (Zs (dt (by omega)) (Zs (dt (by omega)) (Zs (dt (by omega)) (Zs (dt (by omega)) XF)))) ?_
    refine XN (fun hb6 => ?_) (fun hb6 => ?_)
    · exact Xt
    · exact JF (by omega)
  · unfold M.Qk
    try simp only [Int.toNat_natCast]
    refine Yx (Zs (dt (by omega)) (Zs (dt (by omega)) XF))  ?_
    exact XW (decide_eq_false (by omega)) rfl
noncomputable def S.Ql (a0 : List Z1) (i1 : Nat) : Option (Unit ⊕ Int) :=
  letS (S.Je ((a0.getD i1 default).ZW)) (fun r3 => bif !r3 then (some (.inr 3)) else (letS (runN (S.QM a0 i1) (.inl ()) 0 i1) (fun y6 => Sum.elim (fun _ => bif (((a0.getD i1 default).Xz).length : Int) == 0 then (some (.inr 1)) else (bif decide ((((a0.getD i1 default).Xz).length : Int) > 16) then (some (.inr 7)) else (letS (runN (S.Qk a0 i1) (.inl ()) 0 (((a0.getD i1 default).Xz).length)) (fun y12 => Sum.elim (fun _ => none) (fun y14 => some (.inr y14)) y12)))) (fun y8 => some (.inr y8)) y6)))
theorem ZaG (a0 : List Z1) (ha0 : LL X2 a0) (i0 : Nat) : loopM (M.Ql a0) (i0 : Int) = some (runN (S.Ql a0) (.inl ()) i0 (a0.length - i0)) := by
  have hM := Zm
  have hni1 : a0.length ≤ maxLen := ha0.1
  refine Z3 (n := a0.length) (fun i1 hi1 => ?_) (fun m hm => ?_) i0
  · unfold M.Ql S.Ql
    try simp only [Int.toNat_natCast]
    refine XV (dt (by omega)) ?_
    refine ZO (Kd ((a0.getD i1 default).ZW) (X2.ZW (LL.getD ha0 X2.dflt i1))) (fun r3 her3 => ?_)
    refine Yx (Zs (dt (by omega)) (Zs (dt (by omega)) XF)) ?_
    refine XN (fun hb2 => ?_) (fun hb2 => ?_)
    · exact Xt
    · refine ZO (ZaE a0 i1 ha0 hi1 0) (fun y6 hey6 => ?_)
      refine JS (fun _ hl => ?_) (fun y8 hly8 => ?_)
      · refine Yx (Zs (dt (by omega)) (Zs (dt (by omega)) XF)) ?_
        refine XN (fun hb4 => ?_) (fun hb4 => ?_)
        · exact Xt
        · refine Yx (Zs (dt (by omega)) (Zs (dt (by omega)) XF)) ?_
          refine XN (fun hb5 => ?_) (fun hb5 => ?_)
          · exact Xt
          · refine ZO (ZaF a0 i1 ha0 hi1 0) (fun y12 hey12 => ?_)
            refine JS (fun _ hl => ?_) (fun y14 hly14 => ?_)
            · exact JF (by omega)
            · exact Xt
      · exact Xt
  · unfold M.Ql
    try simp only [Int.toNat_natCast]
    exact XW (decide_eq_false (by omega)) rfl
noncomputable def S.QT (a0 : List Z1) : Int :=
  bif decide ((a0.length : Int) > 8) then 7 else (letS (runN (S.Ql a0) (.inl ()) 0 a0.length) (fun y15 => Sum.elim (fun _ => 0) (fun y17 => y17) y15))
theorem ZcP (a0 : List Z1) (ha0 : LL X2 a0) : M.QT a0 = some (S.QT a0) := by
  have hM := Zm
  unfold M.QT S.QT
  refine Jf (fun hb1 => ?_) (fun hb1 => ?_)
  · rfl
  · refine ZZ (ZaG a0 ha0 0) (fun y15 hey15 => ?_)
    refine Qp (fun _ hl => ?_) (fun y17 hly17 => ?_)
    · rfl
    · rfl
noncomputable def S.JE (a0 : Zf) (a1 : ByteArray) (i1 : Nat) : Option (Unit ⊕ Int) :=
  bif strEq ((a0.Xk.getD i1 default).ZW) a1 then (some (.inr (i1 : Int))) else none
theorem Zbw (a0 : Zf) (a1 : ByteArray) (ha0 : Zi a0) (ha1 : a1.size ≤ maxLen) (i0 : Nat) : loopM (M.JE a0 a1) (i0 : Int) = some (runN (S.JE a0 a1) (.inl ()) i0 (a0.Xk.length - i0)) := by
  have hM := Zm
  have hni1 : a0.Xk.length ≤ maxLen := (Zi.Xk ha0).1
  refine Z3 (n := a0.Xk.length) (fun i1 hi1 => ?_) (fun m hm => ?_) i0
  · unfold M.JE S.JE
    try simp only [Int.toNat_natCast]
    refine XV (dt (by omega)) ?_
    refine Yx (Zs (dt (by omega)) (Zs (dt (by omega)) XF)) ?_
    refine XN (fun hb1 => ?_) (fun hb1 => ?_)
    · exact Xt
    · exact JF (by omega)
  · unfold M.JE
    try simp only [Int.toNat_natCast]
    exact XW (decide_eq_false (by omega)) rfl
noncomputable def S.Qy (a0 : Zf) (a1 : ByteArray) : Int :=
  letS (runN (S.JE a0 a1) (.inl ()) 0 a0.Xk.length) (fun y3 => Sum.elim (fun _ => -1) (fun y5 => y5) y3)
theorem GX (a0 : Zf) (a1 : ByteArray) (ha0 : Zi a0) (ha1 : a1.size ≤ maxLen) : M.Qy a0 a1 = some (S.Qy a0 a1) := by
  have hM := Zm
  unfold M.Qy S.Qy
  refine ZZ (Zbw a0 a1 ha0 ha1 0) (fun y3 hey3 => ?_)
  refine Qp (fun _ hl => ?_) (fun y5 hly5 => ?_)
  · rfl
  · rfl
noncomputable def S.Jw (a0 : Zf) (i1 : Nat) (i4 : Nat) : Option (Unit ⊕ Int) :=
  bif strEq ((a0.Z8.getD i4 default).ZW) ((a0.Z8.getD i1 default).ZW) then (some (.inr 4)) else none
theorem Zb4 (a0 : Zf) (i1 : Nat) (ha0 : Zi a0) (hi1 : i1 < a0.Z8.length) (i0 : Nat) : loopM (M.Jw a0 (i1 : Int)) (i0 : Int) = some (runN (S.Jw a0 i1) (.inl ()) i0 (i1 - i0)) := by
  have hM := Zm
  have hni1 : a0.Z8.length ≤ maxLen := (Zi.Z8 ha0).1
  have hni4 : i1 ≤ maxLen := (by omega)
  refine Z3 (n := i1) (fun i4 hi4 => ?_) (fun m hm => ?_) i0
  · unfold M.Jw S.Jw
    try simp only [Int.toNat_natCast]
    refine XV (dt (by omega)) ?_
    refine Yx (Zs (dt (by omega)) (Zs (dt (by omega)) (Zs (dt (by omega)) (Zs (dt (by omega)) XF)))) ?_
    refine XN (fun hb3 => ?_) (fun hb3 => ?_)
    · exact Xt
    · exact JF (by omega)
  · unfold M.Jw
    try simp only [Int.toNat_natCast]
    exact XW (decide_eq_false (by omega)) rfl
noncomputable def S.Q0 (a0 : Zf) (i1 : Nat) (i9 : Nat) : Option (Unit ⊕ Int) :=
  letS (bif (!strEq ((((a0.Z8.getD i1 default).Xl).getD i9 default).QP) (⟨#[]⟩ : ByteArray)) then S.Qy a0 ((((a0.Z8.getD i1 default).Xl).getD i9 default).QP) else default) (fun r11 => bif (!strEq ((((a0.Z8.getD i1 default).Xl).getD i9 default).QP) (⟨#[]⟩ : ByteArray)) && (decide (r11 < 0)) then (some (.inr 5)) else (letS (S.Zz ((((a0.Z8.getD i1 default).Xl).getD i9 default).US) (-1) 65535) (fun r12 => letS (bif (!(!r12)) then S.Zz ((((a0.Z8.getD i1 default).Xl).getD i9 default).GL) (-1) 65535 else default) (fun r13 => letS (bif (!((!r12) || (!r13))) then S.Zz ((((a0.Z8.getD i1 default).Xl).getD i9 default).WL) (-1) 16777215 else default) (fun r14 => letS (bif (!(((!r12) || (!r13)) || (!r14))) then S.Zz ((((a0.Z8.getD i1 default).Xl).getD i9 default).UZ) (-1) 1000000 else default) (fun r15 => letS (bif (!((((!r12) || (!r13)) || (!r14)) || (!r15))) then S.Zz ((((a0.Z8.getD i1 default).Xl).getD i9 default).U0) 0 8 else default) (fun r16 => bif ((((!r12) || (!r13)) || (!r14)) || (!r15)) || (!r16) then (some (.inr 1)) else none)))))))
theorem Zb5 (a0 : Zf) (i1 : Nat) (ha0 : Zi a0) (hi1 : i1 < a0.Z8.length) (i0 : Nat) : loopM (M.Q0 a0 (i1 : Int)) (i0 : Int) = some (runN (S.Q0 a0 i1) (.inl ()) i0 (((a0.Z8.getD i1 default).Xl).length - i0)) := by
  have hM := Zm
  have hni1 : a0.Z8.length ≤ maxLen := (Zi.Z8 ha0).1
  have hni9 : ((a0.Z8.getD i1 default).Xl).length ≤ maxLen := (Yh.Xl (LL.getD (Zi.Z8 ha0) Yh.dflt i1)).1
  refine Z3 (n := ((a0.Z8.getD i1 default).Xl).length) (fun i9 hi9 => ?_) (fun m hm => ?_) i0
  · unfold M.Q0 S.Q0
    try simp only [Int.toNat_natCast]
    refine Yx (Zs (dt (by omega)) (Zs (dt (by omega)) XF))  ?_
    refine XV (dt (by omega)) ?_
    refine Yx (Zs (dt (by omega)) (Zs (dt (by omega)) (Zs (dt (by omega)) (Zs (dt (by omega)) XF)))) ?_
    refine ZO (Jr fun hg => (GX a0 ((((a0.Z8.getD i1 default).Xl).getD i9 default).QP) ha0 (WJ.QP (LL.getD (Yh.Xl (LL.getD (Zi.Z8 ha0) Yh.dflt i1)) WJ.dflt i9)))) (fun r11 her11 => ?_)
    refine XN (fun hb6 => ?_) (fun hb6 => ?_)
    · exact Xt
    · refine ZO (X9 ((((a0.Z8.getD i1 default).Xl).getD i9 default).US) (-1) 65535) (fun r12 her12 => ?_)
      refine ZO (Jr fun hg => (X9 ((((a0.Z8.getD i1 default).Xl).getD i9 default).GL) (-1) 65535)) (fun r13 her13 => ?_)
      refine ZO (Jr fun hg => (X9 ((((a0.Z8.getD i1 default).Xl).getD i9 default).WL) (-1) 16777215)) (fun r14 her14 => ?_)
      refine ZO (Jr fun hg => (X9 ((((a0.Z8.getD i1 default).Xl).getD i9 default).UZ) (-1) 1000000)) (fun r15 her15 => ?_)
      refine ZO (Jr fun hg => (X9 ((((a0.Z8.getD i1 default).Xl).getD i9 default).U0) 0 8)) (fun r16 her16 => ?_)
      refine XN (fun hb7 => ?_) (fun hb7 => ?_)
      · exact Xt
      · exact JF (by omega)
  · unfold M.Q0
    try simp only [Int.toNat_natCast]
    refine Yx (Zs (dt (by omega)) (Zs (dt (by omega)) XF))  ?_
    exact XW (decide_eq_false (by omega)) rfl
noncomputable def S.Q1 (a0 : Zf) (i1 : Nat) : Option (Unit ⊕ Int) :=
  letS (S.Je ((a0.Z8.getD i1 default).ZW)) (fun r3 => bif !r3 then (some (.inr 3)) else (letS (runN (S.Jw a0 i1) (.inl ()) 0 i1) (fun y6 => Sum.elim (fun _ => bif (((a0.Z8.getD i1 default).Xl).length : Int) == 0 then (some (.inr 1)) else (bif decide ((((a0.Z8.getD i1 default).Xl).length : Int) > 8) then (some (.inr 7)) else (letS (runN (S.Q0 a0 i1) (.inl ()) 0 (((a0.Z8.getD i1 default).Xl).length)) (fun y17 => Sum.elim (fun _ => none) (fun y19 => some (.inr y19)) y17)))) (fun y8 => some (.inr y8)) y6)))
theorem Zb6 (a0 : Zf) (ha0 : Zi a0) (i0 : Nat) : loopM (M.Q1 a0) (i0 : Int) = some (runN (S.Q1 a0) (.inl ()) i0 (a0.Z8.length - i0)) := by
  have hM := Zm
  have hni1 : a0.Z8.length ≤ maxLen := (Zi.Z8 ha0).1
  refine Z3 (n := a0.Z8.length) (fun i1 hi1 => ?_) (fun m hm => ?_) i0
  · unfold M.Q1 S.Q1
    try simp only [Int.toNat_natCast]
    refine XV (dt (by omega)) ?_
    refine ZO (Kd ((a0.Z8.getD i1 default).ZW) (Yh.ZW (LL.getD (Zi.Z8 ha0) Yh.dflt i1))) (fun r3 her3 => ?_)
    refine Yx (Zs (dt (by omega)) (Zs (dt (by omega)) XF)) ?_
    refine XN (fun hb2 => ?_) (fun hb2 => ?_)
    · exact Xt
    · refine ZO (Zb4 a0 i1 ha0 hi1 0) (fun y6 hey6 => ?_)
      refine JS (fun _ hl => ?_) (fun y8 hly8 => ?_)
      · refine Yx (Zs (dt (by omega)) (Zs (dt (by omega)) XF)) ?_
        refine XN (fun hb4 => ?_) (fun hb4 => ?_)
        · exact Xt
        · refine Yx (Zs (dt (by omega)) (Zs (dt (by omega)) XF)) ?_
          refine XN (fun hb5 => ?_) (fun hb5 => ?_)
          · exact Xt
          · refine ZO (Zb5 a0 i1 ha0 hi1 0) (fun y17 hey17 => ?_)
            refine JS (fun _ hl => ?_) (fun y19 hly19 => ?_)
            · exact JF (by omega)
            · exact Xt
      · exact Xt
  · unfold M.Q1
    try simp only [Int.toNat_natCast]
    exact XW (decide_eq_false (by omega)) rfl
noncomputable def S.JI (a0 : Zf) : Int :=
  bif decide ((a0.Z8.length : Int) > 8) then 7 else (letS (runN (S.Q1 a0) (.inl ()) 0 a0.Z8.length) (fun y20 => Sum.elim (fun _ => 0) (fun y22 => y22) y20))
theorem Zed (a0 : Zf) (ha0 : Zi a0) : M.JI a0 = some (S.JI a0) := by
  have hM := Zm
  unfold M.JI S.JI
  refine Jf (fun hb1 => ?_) (fun hb1 => ?_)
  · rfl
  · refine ZZ (Zb6 a0 ha0 0) (fun y20 hey20 => ?_)
    refine Qp (fun _ hl => ?_) (fun y22 hly22 => ?_)
    · rfl
    · rfl
noncomputable def S.V7 (a0 : JW) : Bool :=
  ((decide (0 ≤ a0.Gc)) && (decide (a0.Gc ≤ a0.GM))) && (decide (a0.GM ≤ 65535))
theorem ZdI (a0 : JW)  : M.V7 a0 = some (S.V7 a0) := by
  have hM := Zm
  unfold M.V7 S.V7
  rfl
noncomputable def S.UH (a0 : JW) : Bool :=
  (a0.Gc == 0) && ((a0.GM == 65535) && true)
theorem ZfK (a0 : JW)  : M.UH a0 = some (S.UH a0) := by
  have hM := Zm
  unfold M.UH S.UH
  rfl
noncomputable def S.JZ (a0 : Zar) : Bool :=
  letS (S.Zz a0.Yb (-1) 255) (fun r1 => letS (bif (!(((!r1) || ((bitD .and .u32 a0.Re.Zu a0.Re.Gb) != 0)) || ((bitD .and .u32 a0.Rf.Zu a0.Rf.Gb) != 0))) then S.V7 a0.Vm else default) (fun r2 => letS (bif (!((((!r1) || ((bitD .and .u32 a0.Re.Zu a0.Re.Gb) != 0)) || ((bitD .and .u32 a0.Rf.Zu a0.Rf.Gb) != 0)) || (!r2))) then S.V7 a0.Vn else default) (fun r3 => bif ((((!r1) || ((bitD .and .u32 a0.Re.Zu a0.Re.Gb) != 0)) || ((bitD .and .u32 a0.Rf.Zu a0.Rf.Gb) != 0)) || (!r2)) || (!r3) then false else (letS (bif (!((a0.Yb == 6) || (a0.Yb == 17))) then S.UH a0.Vm else default) (fun r4 => letS (bif ((!((a0.Yb == 6) || (a0.Yb == 17))) && r4) then S.UH a0.Vn else default) (fun r5 => ((a0.Yb == 6) || (a0.Yb == 17)) || (r4 && r5)))))))
theorem Zee (a0 : Zar)  : M.JZ a0 = some (S.JZ a0) := by
  have hM := Zm
  unfold M.JZ S.JZ
  refine ZZ (X9 a0.Yb (-1) 255) (fun r1 her1 => ?_)
  refine ZZ (Jr fun hg => (ZdI a0.Vm)) (fun r2 her2 => ?_)
  refine ZZ (Jr fun hg => (ZdI a0.Vn)) (fun r3 her3 => ?_)
  refine Jf (fun hb1 => ?_) (fun hb1 => ?_)
  · rfl
  · refine ZZ (Jr fun hg => (ZfK a0.Vm)) (fun r4 her4 => ?_)
    refine ZZ (Jr fun hg => (ZfK a0.Vn)) (fun r5 her5 => ?_)
    rfl
noncomputable def S.QN (a0 : List WD) (i1 : Nat) (i4 : Nat) : Option (Unit ⊕ Int) :=
  bif strEq ((a0.getD i4 default).ZW) ((a0.getD i1 default).ZW) then (some (.inr 4)) else none
theorem ZaH (a0 : List WD) (i1 : Nat) (ha0 : LL Wh a0) (hi1 : i1 < a0.length) (i0 : Nat) : loopM (M.QN a0 (i1 : Int)) (i0 : Int) = some (runN (S.QN a0 i1) (.inl ()) i0 (i1 - i0)) := by
  have hM := Zm
  have hni1 : a0.length ≤ maxLen := ha0.1
  have hni4 : i1 ≤ maxLen := (by omega)
  refine Z3 (n := i1) (fun i4 hi4 => ?_) (fun m hm => ?_) i0
  · unfold M.QN S.QN
    try simp only [Int.toNat_natCast]
    refine XV (dt (by omega)) ?_
    refine Yx (Zs (dt (by omega)) (Zs (dt (by omega)) (Zs (dt (by omega)) (Zs (dt (by omega)) XF)))) ?_
    refine XN (fun hb3 => ?_) (fun hb3 => ?_)
    · exact Xt
    · exact JF (by omega)
  · unfold M.QN
    try simp only [Int.toNat_natCast]
    exact XW (decide_eq_false (by omega)) rfl
noncomputable def S.Qm (a0 : List WD) (i1 : Nat) (i9 : Nat) : Option (Unit ⊕ Int) :=
  letS (S.JZ (((a0.getD i1 default).Xz).getD i9 default)) (fun r11 => bif !r11 then (some (.inr 1)) else none)
theorem ZaI (a0 : List WD) (i1 : Nat) (ha0 : LL Wh a0) (hi1 : i1 < a0.length) (i0 : Nat) : loopM (M.Qm a0 (i1 : Int)) (i0 : Int) = some (runN (S.Qm a0 i1) (.inl ()) i0 (((a0.getD i1 default).Xz).length - i0)) := by
  have hM := Zm
  have hni1 : a0.length ≤ maxLen := ha0.1
  have hni9 : ((a0.getD i1 default).Xz).length ≤ maxLen := (Wh.Xz (LL.getD ha0 Wh.dflt i1))
  refine Z3 (n := ((a0.getD i1 default).Xz).length) (fun i9 hi9 => ?_) (fun m hm => ?_) i0
  · unfold M.Qm S.Qm
    try simp only [Int.toNat_natCast]
    refine Yx (Zs (dt (by omega)) (Zs (dt (by omega)) XF))  ?_
    refine XV (dt (by omega)) ?_
    refine ZO (Zee (((a0.getD i1 default).Xz).getD i9 default)) (fun r11 her11 => ?_)
    refine Yx (Zs (dt (by omega)) (Zs (dt (by omega)) (Zs (dt (by omega)) (Zs (dt (by omega)) XF)))) ?_
    refine XN (fun hb6 => ?_) (fun hb6 => ?_)
    · exact Xt
    · exact JF (by omega)
  · unfold M.Qm
    try simp only [Int.toNat_natCast]
    refine Yx (Zs (dt (by omega)) (Zs (dt (by omega)) XF))  ?_
    exact XW (decide_eq_false (by omega)) rfl
noncomputable def S.Qn (a0 : List WD) (i1 : Nat) : Option (Unit ⊕ Int) :=
  letS (S.Je ((a0.getD i1 default).ZW)) (fun r3 => bif !r3 then (some (.inr 3)) else (letS (runN (S.QN a0 i1) (.inl ()) 0 i1) (fun y6 => Sum.elim (fun _ => bif (((a0.getD i1 default).Xz).length : Int) == 0 then (some (.inr 1)) else (bif decide ((((a0.getD i1 default).Xz).length : Int) > 16) then (some (.inr 7)) else (letS (runN (S.Qm a0 i1) (.inl ()) 0 (((a0.getD i1 default).Xz).length)) (fun y12 => Sum.elim (fun _ => none) (fun y14 => some (.inr y14)) y12)))) (fun y8 => some (.inr y8)) y6)))
theorem ZaJ (a0 : List WD) (ha0 : LL Wh a0) (i0 : Nat) : loopM (M.Qn a0) (i0 : Int) = some (runN (S.Qn a0) (.inl ()) i0 (a0.length - i0)) := by
  have hM := Zm
  have hni1 : a0.length ≤ maxLen := ha0.1
  refine Z3 (n := a0.length) (fun i1 hi1 => ?_) (fun m hm => ?_) i0
  · unfold M.Qn S.Qn
    try simp only [Int.toNat_natCast]
    refine XV (dt (by omega)) ?_
    refine ZO (Kd ((a0.getD i1 default).ZW) (Wh.ZW (LL.getD ha0 Wh.dflt i1))) (fun r3 her3 => ?_)
    refine Yx (Zs (dt (by omega)) (Zs (dt (by omega)) XF)) ?_
    refine XN (fun hb2 => ?_) (fun hb2 => ?_)
    · exact Xt
    · refine ZO (ZaH a0 i1 ha0 hi1 0) (fun y6 hey6 => ?_)
      refine JS (fun _ hl => ?_) (fun y8 hly8 => ?_)
      · refine Yx (Zs (dt (by omega)) (Zs (dt (by omega)) XF)) ?_
        refine XN (fun hb4 => ?_) (fun hb4 => ?_)
        · exact Xt
        · refine Yx (Zs (dt (by omega)) (Zs (dt (by omega)) XF)) ?_
          refine XN (fun hb5 => ?_) (fun hb5 => ?_)
          · exact Xt
          · refine ZO (ZaI a0 i1 ha0 hi1 0) (fun y12 hey12 => ?_)
            refine JS (fun _ hl => ?_) (fun y14 hly14 => ?_)
            · exact JF (by omega)
            · exact Xt
      · exact Xt
  · unfold M.Qn
    try simp only [Int.toNat_natCast]
    exact XW (decide_eq_false (by omega)) rfl
noncomputable def S.QU (a0 : List WD) : Int :=
  bif decide ((a0.length : Int) > 8) then 7 else (letS (runN (S.Qn a0) (.inl ()) 0 a0.length) (fun y15 => Sum.elim (fun _ => 0) (fun y17 => y17) y15))
theorem ZcQ (a0 : List WD) (ha0 : LL Wh a0) : M.QU a0 = some (S.QU a0) := by
  have hM := Zm
  unfold M.QU S.QU
  refine Jf (fun hb1 => ?_) (fun hb1 => ?_)
  · rfl
  · refine ZZ (ZaJ a0 ha0 0) (fun y15 hey15 => ?_)
    refine Qp (fun _ hl => ?_) (fun y17 hly17 => ?_)
    · rfl
    · rfl
noncomputable def S.WY (a0 : Zf) (a1 : ByteArray) (i1 : Nat) : Option (Unit ⊕ Int) :=
  bif strEq ((a0.XO.getD i1 default).ZW) a1 then (some (.inr (i1 : Int))) else none
theorem Zf7 (a0 : Zf) (a1 : ByteArray) (ha0 : Zi a0) (ha1 : a1.size ≤ maxLen) (i0 : Nat) : loopM (M.WY a0 a1) (i0 : Int) = some (runN (S.WY a0 a1) (.inl ()) i0 (a0.XO.length - i0)) := by
  have hM := Zm
  have hni1 : a0.XO.length ≤ maxLen := (Zi.XO ha0).1
  refine Z3 (n := a0.XO.length) (fun i1 hi1 => ?_) (fun m hm => ?_) i0
  · unfold M.WY S.WY
    try simp only [Int.toNat_natCast]
    refine XV (dt (by omega)) ?_
    refine Yx (Zs (dt (by omega)) (Zs (dt (by omega)) XF)) ?_
    refine XN (fun hb1 => ?_) (fun hb1 => ?_)
    · exact Xt
    · exact JF (by omega)
  · unfold M.WY
    try simp only [Int.toNat_natCast]
    exact XW (decide_eq_false (by omega)) rfl
noncomputable def S.WZ (a0 : Zf) (a1 : ByteArray) : Int :=
  letS (runN (S.WY a0 a1) (.inl ()) 0 a0.XO.length) (fun y3 => Sum.elim (fun _ => -1) (fun y5 => y5) y3)
theorem ZcR (a0 : Zf) (a1 : ByteArray) (ha0 : Zi a0) (ha1 : a1.size ≤ maxLen) : M.WZ a0 a1 = some (S.WZ a0 a1) := by
  have hM := Zm
  unfold M.WZ S.WZ
  refine ZZ (Zf7 a0 a1 ha0 ha1 0) (fun y3 hey3 => ?_)
  refine Qp (fun _ hl => ?_) (fun y5 hly5 => ?_)
  · rfl
  · rfl
noncomputable def S.X3 (a0 : Zf) (i1 : Nat) (p3 : Bool) : Option (Unit ⊕ Int) :=
  bif !p3 then (some (.inr 1)) else (letS (bif (((a0.Xd.getD i1 default).JT) == 2) then S.WZ a0 ((a0.Xd.getD i1 default).QP) else default) (fun r4 => bif (((a0.Xd.getD i1 default).JT) == 2) && (decide (r4 < 0)) then (some (.inr 5)) else none))
theorem WE (a0 : Zf) (i1 : Nat) (p3 : Bool) (ha0 : Zi a0) (hi1 : i1 < a0.Xd.length) : M.X3 a0 (i1 : Int) p3 = some (rdN (S.X3 a0 i1 p3) i1) := by
  have hM := Zm
  have hni1 : a0.Xd.length ≤ maxLen := (Zi.Xd ha0).1
  unfold M.X3 S.X3
  try simp only [Int.toNat_natCast]
  refine XN (fun hb3 => ?_) (fun hb3 => ?_)
  · exact Xt
  · refine ZO (Jr fun hg => (ZcR a0 ((a0.Xd.getD i1 default).QP) ha0 (Js.QP (LL.getD (Zi.Xd ha0) Js.dflt i1)))) (fun r4 her4 => ?_)
    refine XN (fun hb4 => ?_) (fun hb4 => ?_)
    · exact Xt
    · exact JF (by omega)
noncomputable def S.Y4 (a0 : Zf) (i1 : Nat) : Option (Unit ⊕ Int) :=
  bif ((a0.Xd.getD i1 default).JT) == 1 then (S.X3 a0 i1 (((((a0.Xd.getD i1 default).Qj) != 0) && (((a0.Xd.getD i1 default).Yv) != 0)) && ((((a0.Xd.getD i1 default).JT) == ((a0.Xd.getD i1 default).JT)) && ((((a0.Xd.getD i1 default).Qj) == ((a0.Xd.getD i1 default).Qj)) && ((((a0.Xd.getD i1 default).Yv) == ((a0.Xd.getD i1 default).Yv)) && ((((a0.Xd.getD i1 default).Yb) == 0) && ((((a0.Xd.getD i1 default).QI) == 0) && ((((a0.Xd.getD i1 default).Qe) == 0) && (strEq ((a0.Xd.getD i1 default).QP) (⟨#[]⟩ : ByteArray) && ((((a0.Xd.getD i1 default).Gc) == 0) && ((((a0.Xd.getD i1 default).GM) == 0) && true))))))))))) else (bif ((a0.Xd.getD i1 default).JT) == 2 then (S.X3 a0 i1 ((((((a0.Xd.getD i1 default).Gc) != 0) && (decide (((a0.Xd.getD i1 default).Gc) ≤ ((a0.Xd.getD i1 default).GM)))) && (decide ((wr .u32 (((a0.Xd.getD i1 default).GM) - ((a0.Xd.getD i1 default).Gc))) < 8))) && ((((a0.Xd.getD i1 default).JT) == ((a0.Xd.getD i1 default).JT)) && ((((a0.Xd.getD i1 default).Qj) == 0) && ((((a0.Xd.getD i1 default).Yv) == 0) && ((((a0.Xd.getD i1 default).Yb) == 0) && ((((a0.Xd.getD i1 default).QI) == 0) && ((((a0.Xd.getD i1 default).Qe) == 0) && (strEq ((a0.Xd.getD i1 default).QP) ((a0.Xd.getD i1 default).QP) && ((((a0.Xd.getD i1 default).Gc) == ((a0.Xd.getD i1 default).Gc)) && ((((a0.Xd.getD i1 default).GM) == ((a0.Xd.getD i1 default).GM)) && true))))))))))) else (bif ((a0.Xd.getD i1 default).JT) == 3 then (letS (bif (((((a0.Xd.getD i1 default).Qj) != 0) && (((a0.Xd.getD i1 default).Yv) != 0)) && ((((a0.Xd.getD i1 default).Yb) == 6) || (((a0.Xd.getD i1 default).Yb) == 17))) then S.Zz ((a0.Xd.getD i1 default).QI) 0 65535 else default) (fun r5 => letS (bif ((((((a0.Xd.getD i1 default).Qj) != 0) && (((a0.Xd.getD i1 default).Yv) != 0)) && ((((a0.Xd.getD i1 default).Yb) == 6) || (((a0.Xd.getD i1 default).Yb) == 17))) && r5) then S.Zz ((a0.Xd.getD i1 default).Qe) 0 65535 else default) (fun r6 => S.X3 a0 i1 ((((((((((a0.Xd.getD i1 default).Qj) != 0) && (((a0.Xd.getD i1 default).Yv) != 0)) && ((((a0.Xd.getD i1 default).Yb) == 6) || (((a0.Xd.getD i1 default).Yb) == 17))) && r5) && r6) && (strEq ((a0.Xd.getD i1 default).QP) (⟨#[]⟩ : ByteArray))) && (((a0.Xd.getD i1 default).Gc) == 0)) && (((a0.Xd.getD i1 default).GM) == 0))))) else (S.X3 a0 i1 false)))
theorem Zai (a0 : Zf) (ha0 : Zi a0) (i0 : Nat) : loopM (M.Y4 a0) (i0 : Int) = some (runN (S.Y4 a0) (.inl ()) i0 (a0.Xd.length - i0)) := by
  have hM := Zm
  have hni1 : a0.Xd.length ≤ maxLen := (Zi.Xd ha0).1
  refine Z3 (n := a0.Xd.length) (fun i1 hi1 => ?_) (fun m hm => ?_) i0
  · unfold M.Y4 S.Y4
    try simp only [Int.toNat_natCast]
    refine XV (dt (by omega)) ?_
    refine Yx (Zs (dt (by omega)) (Zs (dt (by omega)) XF)) ?_
    refine XN (fun hb2 => ?_) (fun hb2 => ?_)
    · exact WE a0 i1 (((((a0.Xd.getD i1 default).Qj) != 0) && (((a0.Xd.getD i1 default).Yv) != 0)) && ((((a0.Xd.getD i1 default).JT) == ((a0.Xd.getD i1 default).JT)) && ((((a0.Xd.getD i1 default).Qj) == ((a0.Xd.getD i1 default).Qj)) && ((((a0.Xd.getD i1 default).Yv) == ((a0.Xd.getD i1 default).Yv)) && ((((a0.Xd.getD i1 default).Yb) == 0) && ((((a0.Xd.getD i1 default).QI) == 0) && ((((a0.Xd.getD i1 default).Qe) == 0) && (strEq ((a0.Xd.getD i1 default).QP) (⟨#[]⟩ : ByteArray) && ((((a0.Xd.getD i1 default).Gc) == 0) && ((((a0.Xd.getD i1 default).GM) == 0) && true)))))))))) ha0 hi1
    · refine XN (fun hb5 => ?_) (fun hb5 => ?_)
      · exact WE a0 i1 ((((((a0.Xd.getD i1 default).Gc) != 0) && (decide (((a0.Xd.getD i1 default).Gc) ≤ ((a0.Xd.getD i1 default).GM)))) && (decide ((wr .u32 (((a0.Xd.getD i1 default).GM) - ((a0.Xd.getD i1 default).Gc))) < 8))) && ((((a0.Xd.getD i1 default).JT) == ((a0.Xd.getD i1 default).JT)) && ((((a0.Xd.getD i1 default).Qj) == 0) && ((((a0.Xd.getD i1 default).Yv) == 0) && ((((a0.Xd.getD i1 default).Yb) == 0) && ((((a0.Xd.getD i1 default).QI) == 0) && ((((a0.Xd.getD i1 default).Qe) == 0) && (strEq ((a0.Xd.getD i1 default).QP) ((a0.Xd.getD i1 default).QP) && ((((a0.Xd.getD i1 default).Gc) == ((a0.Xd.getD i1 default).Gc)) && ((((a0.Xd.getD i1 default).GM) == ((a0.Xd.getD i1 default).GM)) && true)))))))))) ha0 hi1
      · refine XN (fun hb6 => ?_) (fun hb6 => ?_)
        · refine ZO (Jr fun hg => (X9 ((a0.Xd.getD i1 default).QI) 0 65535)) (fun r5 her5 => ?_)
          refine ZO (Jr fun hg => (X9 ((a0.Xd.getD i1 default).Qe) 0 65535)) (fun r6 her6 => ?_)
          exact WE a0 i1 ((((((((((a0.Xd.getD i1 default).Qj) != 0) && (((a0.Xd.getD i1 default).Yv) != 0)) && ((((a0.Xd.getD i1 default).Yb) == 6) || (((a0.Xd.getD i1 default).Yb) == 17))) && r5) && r6) && (strEq ((a0.Xd.getD i1 default).QP) (⟨#[]⟩ : ByteArray))) && (((a0.Xd.getD i1 default).Gc) == 0)) && (((a0.Xd.getD i1 default).GM) == 0)) ha0 hi1
        · exact WE a0 i1 false ha0 hi1
  · unfold M.Y4
    try simp only [Int.toNat_natCast]
    exact XW (decide_eq_false (by omega)) rfl
noncomputable def S.Qz (a0 : Zf) : Int :=
  bif decide ((a0.Xd.length : Int) > 8) then 7 else (letS (runN (S.Y4 a0) (.inl ()) 0 a0.Xd.length) (fun y7 => Sum.elim (fun _ => 0) (fun y9 => y9) y7))
theorem Zb7 (a0 : Zf) (ha0 : Zi a0) : M.Qz a0 = some (S.Qz a0) := by
  have hM := Zm
  unfold M.Qz S.Qz
  refine Jf (fun hb1 => ?_) (fun hb1 => ?_)
  · rfl
  · refine ZZ (Zai a0 ha0 0) (fun y7 hey7 => ?_)
    refine Qp (fun _ hl => ?_) (fun y9 hly9 => ?_)
    · rfl
    · rfl
noncomputable def S.VD (a0 : Zf) (i1 : Nat) : Option (Unit ⊕ Int) :=
  letS (bif (!strEq ((a0.Zc.getD i1 default).VQ) (⟨#[]⟩ : ByteArray)) then S.WZ a0 ((a0.Zc.getD i1 default).VQ) else default) (fun r3 => letS (bif ((!((!strEq ((a0.Zc.getD i1 default).VQ) (⟨#[]⟩ : ByteArray)) && (decide (r3 < 0)))) && (!strEq ((a0.Zc.getD i1 default).YV) (⟨#[]⟩ : ByteArray))) then S.WZ a0 ((a0.Zc.getD i1 default).YV) else default) (fun r4 => bif ((!strEq ((a0.Zc.getD i1 default).VQ) (⟨#[]⟩ : ByteArray)) && (decide (r3 < 0))) || ((!strEq ((a0.Zc.getD i1 default).YV) (⟨#[]⟩ : ByteArray)) && (decide (r4 < 0))) then (some (.inr 5)) else none))
theorem ZdJ (a0 : Zf) (ha0 : Zi a0) (i0 : Nat) : loopM (M.VD a0) (i0 : Int) = some (runN (S.VD a0) (.inl ()) i0 (a0.Zc.length - i0)) := by
  have hM := Zm
  have hni1 : a0.Zc.length ≤ maxLen := (Zi.Zc ha0).1
  refine Z3 (n := a0.Zc.length) (fun i1 hi1 => ?_) (fun m hm => ?_) i0
  · unfold M.VD S.VD
    try simp only [Int.toNat_natCast]
    refine XV (dt (by omega)) ?_
    refine Yx (Zs (dt (by omega)) (Zs (dt (by omega)) XF)) ?_
    refine ZO (Jr fun hg => (ZcR a0 ((a0.Zc.getD i1 default).VQ) ha0 (Xh.VQ (LL.getD (Zi.Zc ha0) Xh.dflt i1)))) (fun r3 her3 => ?_)
    refine ZO (Jr fun hg => (ZcR a0 ((a0.Zc.getD i1 default).YV) ha0 (Xh.YV (LL.getD (Zi.Zc ha0) Xh.dflt i1)))) (fun r4 her4 => ?_)
    refine XN (fun hb1 => ?_) (fun hb1 => ?_)
    · exact Xt
    · exact JF (by omega)
  · unfold M.VD
    try simp only [Int.toNat_natCast]
    exact XW (decide_eq_false (by omega)) rfl
noncomputable def S.V8 (a0 : Zf) : Int :=
  letS (runN (S.VD a0) (.inl ()) 0 a0.Zc.length) (fun y5 => Sum.elim (fun _ => 0) (fun y7 => y7) y5)
theorem ZfL (a0 : Zf) (ha0 : Zi a0) : M.V8 a0 = some (S.V8 a0) := by
  have hM := Zm
  unfold M.V8 S.V8
  refine ZZ (ZdJ a0 ha0 0) (fun y5 hey5 => ?_)
  refine Qp (fun _ hl => ?_) (fun y7 hly7 => ?_)
  · rfl
  · rfl
noncomputable def S.VE (a0 : Zf) (a1 : Int) (i1 : Nat) : Option (Unit ⊕ Int) :=
  bif (((a0.Zc.getD i1 default).ZJ) != 0) && (((a0.Zc.getD i1 default).Zu) == a1) then (some (.inr (i1 : Int))) else none
theorem ZdK (a0 : Zf) (a1 : Int) (ha0 : Zi a0) (i0 : Nat) : loopM (M.VE a0 a1) (i0 : Int) = some (runN (S.VE a0 a1) (.inl ()) i0 (a0.Zc.length - i0)) := by
  have hM := Zm
  have hni1 : a0.Zc.length ≤ maxLen := (Zi.Zc ha0).1
  refine Z3 (n := a0.Zc.length) (fun i1 hi1 => ?_) (fun m hm => ?_) i0
  · unfold M.VE S.VE
    try simp only [Int.toNat_natCast]
    refine XV (dt (by omega)) ?_
    refine Yx (Zs (dt (by omega)) (Zs (dt (by omega)) (Zs (JM fun hg => (dt (by first | omega | (simp; omega) | (simp at *; omega)))) (Zs (JM fun hg => (dt (by first | omega | (simp; omega) | (simp at *; omega)))) XF)))) ?_
    refine XN (fun hb1 => ?_) (fun hb1 => ?_)
    · exact Xt
    · exact JF (by omega)
  · unfold M.VE
    try simp only [Int.toNat_natCast]
    exact XW (decide_eq_false (by omega)) rfl
noncomputable def S.Q2 (a0 : Zf) (a1 : Int) : Int :=
  letS (runN (S.VE a0 a1) (.inl ()) 0 a0.Zc.length) (fun y3 => Sum.elim (fun _ => -1) (fun y5 => y5) y3)
theorem Zbx (a0 : Zf) (a1 : Int) (ha0 : Zi a0) : M.Q2 a0 a1 = some (S.Q2 a0 a1) := by
  have hM := Zm
  unfold M.Q2 S.Q2
  refine ZZ (ZdK a0 a1 ha0 0) (fun y3 hey3 => ?_)
  refine Qp (fun _ hl => ?_) (fun y5 hly5 => ?_)
  · rfl
  · rfl
noncomputable def S.Jx (a0 : Zf) (a1 : ByteArray) (i1 : Nat) : Option (Unit ⊕ Int) :=
  bif strEq ((a0.Zc.getD i1 default).ZW) a1 then (some (.inr (i1 : Int))) else none
theorem Zb8 (a0 : Zf) (a1 : ByteArray) (ha0 : Zi a0) (ha1 : a1.size ≤ maxLen) (i0 : Nat) : loopM (M.Jx a0 a1) (i0 : Int) = some (runN (S.Jx a0 a1) (.inl ()) i0 (a0.Zc.length - i0)) := by
  have hM := Zm
  have hni1 : a0.Zc.length ≤ maxLen := (Zi.Zc ha0).1
  refine Z3 (n := a0.Zc.length) (fun i1 hi1 => ?_) (fun m hm => ?_) i0
  · unfold M.Jx S.Jx
    try simp only [Int.toNat_natCast]
    refine XV (dt (by omega)) ?_
    refine Yx (Zs (dt (by omega)) (Zs (dt (by omega)) XF)) ?_
    refine XN (fun hb1 => ?_) (fun hb1 => ?_)
    · exact Xt
    · exact JF (by omega)
  · unfold M.Jx
    try simp only [Int.toNat_natCast]
    exact XW (decide_eq_false (by omega)) rfl
noncomputable def S.JJ (a0 : Zf) (a1 : ByteArray) : Int :=
  letS (runN (S.Jx a0 a1) (.inl ()) 0 a0.Zc.length) (fun y3 => Sum.elim (fun _ => -1) (fun y5 => y5) y3)
theorem Zef (a0 : Zf) (a1 : ByteArray) (ha0 : Zi a0) (ha1 : a1.size ≤ maxLen) : M.JJ a0 a1 = some (S.JJ a0 a1) := by
  have hM := Zm
  unfold M.JJ S.JJ
  refine ZZ (Zb8 a0 a1 ha0 ha1 0) (fun y3 hey3 => ?_)
  refine Qp (fun _ hl => ?_) (fun y5 hly5 => ?_)
  · rfl
  · rfl
theorem ZcS (a0 : Zf) (a1 : ByteArray) : S.JJ a0 a1 < (a0.Zc.length : Int) := by
  unfold S.JJ
  simp only [letS]
  exact ZkM (fun i => by unfold S.Jx; cases strEq (a0.Zc.getD i default).ZW a1 <;> simp) _
noncomputable def S.Jl (a0 : Zf) (i1 : Nat) (i11 : Nat) : Option (Unit ⊕ Int) :=
  bif (((((a0.Zq.getD i11 default).Zp).Zu) == (((a0.Zq.getD i1 default).Zp).Zu)) && (((((a0.Zq.getD i11 default).Zp).ZJ) == (((a0.Zq.getD i1 default).Zp).ZJ)) && true)) && (((a0.Zq.getD i11 default).Xj) == ((a0.Zq.getD i1 default).Xj)) then (some (.inr 6)) else none
theorem ZdL (a0 : Zf) (i1 : Nat) (ha0 : Zi a0) (hi1 : i1 < a0.Zq.length) (i0 : Nat) : loopM (M.Jl a0 (i1 : Int)) (i0 : Int) = some (runN (S.Jl a0 i1) (.inl ()) i0 (i1 - i0)) := by
  have hM := Zm
  have hni1 : a0.Zq.length ≤ maxLen := (Zi.Zq ha0).1
  have hni11 : i1 ≤ maxLen := (by omega)
  refine Z3 (n := i1) (fun i11 hi11 => ?_) (fun m hm => ?_) i0
  · unfold M.Jl S.Jl
    try simp only [Int.toNat_natCast]
    refine XV (dt (by omega)) ?_
    refine Yx (Zs (dt (by omega)) (Zs (dt (by omega)) (Zs (JM fun hg => (dt (by first | omega | (simp; omega) | (simp at *; omega)))) (Zs (JM fun hg => (dt (by first | omega | (simp; omega) | (simp at *; omega)))) XF)))) ?_
    refine XN (fun hb9 => ?_) (fun hb9 => ?_)
    · exact Xt
    · exact JF (by omega)
  · unfold M.Jl
    try simp only [Int.toNat_natCast]
    exact XW (decide_eq_false (by omega)) rfl
noncomputable def S.Jm (a0 : Zf) (i1 : Nat) (_p10 : Unit) : Option (Unit ⊕ Int) :=
  letS (runN (S.Jl a0 i1) (.inl ()) 0 i1) (fun y13 => Sum.elim (fun _ => none) (fun y15 => some (.inr y15)) y13)
theorem K9 (a0 : Zf) (i1 : Nat) (_p10 : Unit) (ha0 : Zi a0) (hi1 : i1 < a0.Zq.length) : M.Jm a0 (i1 : Int) _p10 = some (rdN (S.Jm a0 i1 _p10) i1) := by
  have hM := Zm
  have hni1 : a0.Zq.length ≤ maxLen := (Zi.Zq ha0).1
  unfold M.Jm S.Jm
  try simp only [Int.toNat_natCast]
  refine ZO (ZdL a0 i1 ha0 hi1 0) (fun y13 hey13 => ?_)
  refine JS (fun _ hl => ?_) (fun y15 hly15 => ?_)
  · exact JF (by omega)
  · exact Xt
noncomputable def S.Jn (a0 : Zf) (i1 : Nat) (p5 : Int) : Option (Unit ⊕ Int) :=
  letS (S.YP ((a0.Zq.getD i1 default).Zp)) (fun r6 => letS (bif ((!((!r6) || (p5 != 1))) && (((a0.Zq.getD i1 default).Vf) != 0)) then S.Q2 a0 ((a0.Zq.getD i1 default).Vf) else default) (fun r7 => letS (bif (!(((!r6) || (p5 != 1)) || ((((a0.Zq.getD i1 default).Vf) != 0) && (decide (r7 ≥ 0))))) then S.Zz ((a0.Zq.getD i1 default).Xj) 1 255 else default) (fun r8 => letS (bif (!((((!r6) || (p5 != 1)) || ((((a0.Zq.getD i1 default).Vf) != 0) && (decide (r7 ≥ 0)))) || (!r8))) then S.Zz ((a0.Zq.getD i1 default).US) 0 65535 else default) (fun r9 => bif ((((!r6) || (p5 != 1)) || ((((a0.Zq.getD i1 default).Vf) != 0) && (decide (r7 ≥ 0)))) || (!r8)) || (!r9) then (some (.inr 1)) else (bif !strEq ((a0.Zq.getD i1 default).QB) (⟨#[]⟩ : ByteArray) then (letS (S.JJ a0 ((a0.Zq.getD i1 default).QB)) (fun r16 => bif decide (r16 < 0) then (some (.inr 5)) else (bif ((a0.Zc.getD r16.toNat default).ZJ) == 0 then (some (.inr 1)) else (S.Jm a0 i1 ())))) else (S.Jm a0 i1 ()))))))
theorem Ra (a0 : Zf) (i1 : Nat) (p5 : Int) (ha0 : Zi a0) (hi1 : i1 < a0.Zq.length) : M.Jn a0 (i1 : Int) p5 = some (rdN (S.Jn a0 i1 p5) i1) := by
  have hM := Zm
  have hni1 : a0.Zq.length ≤ maxLen := (Zi.Zq ha0).1
  unfold M.Jn S.Jn
  try simp only [Int.toNat_natCast]
  refine ZO (UF ((a0.Zq.getD i1 default).Zp)) (fun r6 her6 => ?_)
  refine ZO (Jr fun hg => (Zbx a0 ((a0.Zq.getD i1 default).Vf) ha0)) (fun r7 her7 => ?_)
  refine ZO (Jr fun hg => (X9 ((a0.Zq.getD i1 default).Xj) 1 255)) (fun r8 her8 => ?_)
  refine ZO (Jr fun hg => (X9 ((a0.Zq.getD i1 default).US) 0 65535)) (fun r9 her9 => ?_)
  refine XN (fun hb5 => ?_) (fun hb5 => ?_)
  · exact Xt
  · refine XN (fun hb6 => ?_) (fun hb6 => ?_)
    · refine ZO (Zef a0 ((a0.Zq.getD i1 default).QB) ha0 (Q9.QB (LL.getD (Zi.Zq ha0) Q9.dflt i1))) (fun r16 her16 => ?_)
      have hrr16 := ZcS a0 ((a0.Zq.getD i1 default).QB)
      refine XN (fun hb7 => ?_) (fun hb7 => ?_)
      · exact Xt
      · refine Yx (Zs (dt (by first | omega | (simp; omega) | (simp at *; omega))) (Zs (dt (by first | omega | (simp; omega) | (simp at *; omega))) XF)) ?_
        refine XN (fun hb8 => ?_) (fun hb8 => ?_)
        · exact Xt
        · exact K9 a0 i1 () ha0 hi1
    · exact K9 a0 i1 () ha0 hi1
noncomputable def S.Jo (a0 : Zf) (i1 : Nat) (p4 : Int) : Option (Unit ⊕ Int) :=
  bif (a0.Zq.getD i1 default).Vt then (S.Jn a0 i1 (wr .i64 (p4 + 1))) else (S.Jn a0 i1 p4)
theorem Rb (a0 : Zf) (i1 : Nat) (p4 : Int) (ha0 : Zi a0) (hi1 : i1 < a0.Zq.length) : M.Jo a0 (i1 : Int) p4 = some (rdN (S.Jo a0 i1 p4) i1) := by
  have hM := Zm
  have hni1 : a0.Zq.length ≤ maxLen := (Zi.Zq ha0).1
  unfold M.Jo S.Jo
  try simp only [Int.toNat_natCast]
  refine XN (fun hb4 => ?_) (fun hb4 => ?_)
  · exact Ra a0 i1 (wr .i64 (p4 + 1)) ha0 hi1
  · exact Ra a0 i1 p4 ha0 hi1
noncomputable def S.Jp (a0 : Zf) (i1 : Nat) (p3 : Int) : Option (Unit ⊕ Int) :=
  bif !strEq ((a0.Zq.getD i1 default).QB) (⟨#[]⟩ : ByteArray) then (S.Jo a0 i1 (wr .i64 (p3 + 1))) else (S.Jo a0 i1 p3)
theorem Rc (a0 : Zf) (i1 : Nat) (p3 : Int) (ha0 : Zi a0) (hi1 : i1 < a0.Zq.length) : M.Jp a0 (i1 : Int) p3 = some (rdN (S.Jp a0 i1 p3) i1) := by
  have hM := Zm
  have hni1 : a0.Zq.length ≤ maxLen := (Zi.Zq ha0).1
  unfold M.Jp S.Jp
  try simp only [Int.toNat_natCast]
  refine XN (fun hb3 => ?_) (fun hb3 => ?_)
  · exact Rb a0 i1 (wr .i64 (p3 + 1)) ha0 hi1
  · exact Rb a0 i1 p3 ha0 hi1
noncomputable def S.JK (a0 : Zf) (i1 : Nat) : Option (Unit ⊕ Int) :=
  bif ((a0.Zq.getD i1 default).Vf) != 0 then (S.Jp a0 i1 1) else (S.Jp a0 i1 0)
theorem ZdM (a0 : Zf) (ha0 : Zi a0) (i0 : Nat) : loopM (M.JK a0) (i0 : Int) = some (runN (S.JK a0) (.inl ()) i0 (a0.Zq.length - i0)) := by
  have hM := Zm
  have hni1 : a0.Zq.length ≤ maxLen := (Zi.Zq ha0).1
  refine Z3 (n := a0.Zq.length) (fun i1 hi1 => ?_) (fun m hm => ?_) i0
  · unfold M.JK S.JK
    try simp only [Int.toNat_natCast]
    refine XV (dt (by omega)) ?_
    refine Yx (Zs (dt (by omega)) (Zs (dt (by omega)) XF)) ?_
    refine XN (fun hb2 => ?_) (fun hb2 => ?_)
    · exact Rc a0 i1 1 ha0 hi1
    · exact Rc a0 i1 0 ha0 hi1
  · unfold M.JK
    try simp only [Int.toNat_natCast]
    exact XW (decide_eq_false (by omega)) rfl
noncomputable def S.VF (a0 : Zf) : Int :=
  bif decide ((a0.Zq.length : Int) > 16) then 7 else (letS (runN (S.JK a0) (.inl ()) 0 a0.Zq.length) (fun y17 => Sum.elim (fun _ => 0) (fun y19 => y19) y17))
theorem ZfM (a0 : Zf) (ha0 : Zi a0) : M.VF a0 = some (S.VF a0) := by
  have hM := Zm
  unfold M.VF S.VF
  refine Jf (fun hb1 => ?_) (fun hb1 => ?_)
  · rfl
  · refine ZZ (ZdM a0 ha0 0) (fun y17 hey17 => ?_)
    refine Qp (fun _ hl => ?_) (fun y19 hly19 => ?_)
    · rfl
    · rfl
noncomputable def S.Vb (a0 : Zf) (a1 : ByteArray) (i1 : Nat) : Option (Unit ⊕ Int) :=
  bif strEq ((a0.Z8.getD i1 default).ZW) a1 then (some (.inr (i1 : Int))) else none
theorem ZcT (a0 : Zf) (a1 : ByteArray) (ha0 : Zi a0) (ha1 : a1.size ≤ maxLen) (i0 : Nat) : loopM (M.Vb a0 a1) (i0 : Int) = some (runN (S.Vb a0 a1) (.inl ()) i0 (a0.Z8.length - i0)) := by
  have hM := Zm
  have hni1 : a0.Z8.length ≤ maxLen := (Zi.Z8 ha0).1
  refine Z3 (n := a0.Z8.length) (fun i1 hi1 => ?_) (fun m hm => ?_) i0
  · unfold M.Vb S.Vb
    try simp only [Int.toNat_natCast]
    refine XV (dt (by omega)) ?_
    refine Yx (Zs (dt (by omega)) (Zs (dt (by omega)) XF)) ?_
    refine XN (fun hb1 => ?_) (fun hb1 => ?_)
    · exact Xt
    · exact JF (by omega)
  · unfold M.Vb
    try simp only [Int.toNat_natCast]
    exact XW (decide_eq_false (by omega)) rfl
noncomputable def S.Jy (a0 : Zf) (a1 : ByteArray) : Int :=
  letS (runN (S.Vb a0 a1) (.inl ()) 0 a0.Z8.length) (fun y3 => Sum.elim (fun _ => -1) (fun y5 => y5) y3)
theorem Ki (a0 : Zf) (a1 : ByteArray) (ha0 : Zi a0) (ha1 : a1.size ≤ maxLen) : M.Jy a0 a1 = some (S.Jy a0 a1) := by
  have hM := Zm
  unfold M.Jy S.Jy
  refine ZZ (ZcT a0 a1 ha0 ha1 0) (fun y3 hey3 => ?_)
  refine Qp (fun _ hl => ?_) (fun y5 hly5 => ?_)
  · rfl
  · rfl
noncomputable def S.Yf (a1 : List Yw) (i1 : Nat) (i7 : Nat) : Option (Unit ⊕ Int) :=
  bif ((a1.getD i7 default).WG) == ((a1.getD i1 default).WG) then (some (.inr 4)) else none
theorem KY (a1 : List Yw) (i1 : Nat) (ha1 : LL JP a1) (hi1 : i1 < a1.length) (i0 : Nat) : loopM (M.Yf a1 (i1 : Int)) (i0 : Int) = some (runN (S.Yf a1 i1) (.inl ()) i0 (i1 - i0)) := by
  have hM := Zm
  have hni1 : a1.length ≤ maxLen := ha1.1
  have hni7 : i1 ≤ maxLen := (by omega)
  refine Z3 (n := i1) (fun i7 hi7 => ?_) (fun m hm => ?_) i0
  · unfold M.Yf S.Yf
    try simp only [Int.toNat_natCast]
    refine XV (dt (by omega)) ?_
    refine Yx (Zs (dt (by omega)) (Zs (dt (by omega)) XF)) ?_
    refine XN (fun hb5 => ?_) (fun hb5 => ?_)
    · exact Xt
    · exact JF (by omega)
  · unfold M.Yf
    try simp only [Int.toNat_natCast]
    exact XW (decide_eq_false (by omega)) rfl
noncomputable def S.Ys (a0 : Zf) (a1 : List Yw) (a2 : Int) (a3 : Int) (a4 : Int) (i1 : Nat) : Option (Unit ⊕ Int) :=
  letS (S.Zz ((a1.getD i1 default).WG) 1 5) (fun r3 => letS (bif (!((!r3) || (((a1.getD i1 default).WG) == a2))) then S.Zz ((a1.getD i1 default).Ks) a3 a4 else default) (fun r4 => letS (bif (!(((!r3) || (((a1.getD i1 default).WG) == a2)) || (!r4))) then S.Zz ((a1.getD i1 default).US) 0 65535 else default) (fun r5 => bif (((!r3) || (((a1.getD i1 default).WG) == a2)) || (!r4)) || (!r5) then (some (.inr 1)) else (bif (((a2 == 3) && (((a1.getD i1 default).G0) != 1)) && (((a1.getD i1 default).G0) != 2)) || ((a2 != 3) && (((a1.getD i1 default).G0) != 0)) then (some (.inr 1)) else (letS (bif (!strEq ((a1.getD i1 default).Rg) (⟨#[]⟩ : ByteArray)) then S.Jy a0 ((a1.getD i1 default).Rg) else default) (fun r6 => bif (!strEq ((a1.getD i1 default).Rg) (⟨#[]⟩ : ByteArray)) && (decide (r6 < 0)) then (some (.inr 5)) else (letS (runN (S.Yf a1 i1) (.inl ()) 0 i1) (fun y9 => Sum.elim (fun _ => none) (fun y11 => some (.inr y11)) y9))))))))
theorem KZ (a0 : Zf) (a1 : List Yw) (a2 : Int) (a3 : Int) (a4 : Int) (ha0 : Zi a0) (ha1 : LL JP a1) (i0 : Nat) : loopM (M.Ys a0 a1 a2 a3 a4) (i0 : Int) = some (runN (S.Ys a0 a1 a2 a3 a4) (.inl ()) i0 (a1.length - i0)) := by
  have hM := Zm
  have hni1 : a1.length ≤ maxLen := ha1.1
  refine Z3 (n := a1.length) (fun i1 hi1 => ?_) (fun m hm => ?_) i0
  · unfold M.Ys S.Ys
    try simp only [Int.toNat_natCast]
    refine XV (dt (by omega)) ?_
    refine Yx (Zs (dt (by omega)) (Zs (dt (by omega)) XF)) ?_
    refine ZO (X9 ((a1.getD i1 default).WG) 1 5) (fun r3 her3 => ?_)
    refine ZO (Jr fun hg => (X9 ((a1.getD i1 default).Ks) a3 a4)) (fun r4 her4 => ?_)
    refine ZO (Jr fun hg => (X9 ((a1.getD i1 default).US) 0 65535)) (fun r5 her5 => ?_)
    refine XN (fun hb2 => ?_) (fun hb2 => ?_)
    · exact Xt
    · refine XN (fun hb3 => ?_) (fun hb3 => ?_)
      · exact Xt
      · refine ZO (Jr fun hg => (Ki a0 ((a1.getD i1 default).Rg) ha0 (JP.Rg (LL.getD ha1 JP.dflt i1)))) (fun r6 her6 => ?_)
        refine XN (fun hb4 => ?_) (fun hb4 => ?_)
        · exact Xt
        · refine ZO (KY a1 i1 ha1 hi1 0) (fun y9 hey9 => ?_)
          refine JS (fun _ hl => ?_) (fun y11 hly11 => ?_)
          · exact JF (by omega)
          · exact Xt
  · unfold M.Ys
    try simp only [Int.toNat_natCast]
    exact XW (decide_eq_false (by omega)) rfl
noncomputable def S.X8 (a0 : Zf) (a1 : List Yw) (a2 : Int) (a3 : Int) (a4 : Int) : Int :=
  bif decide ((a1.length : Int) > 4) then 7 else (letS (runN (S.Ys a0 a1 a2 a3 a4) (.inl ()) 0 a1.length) (fun y12 => Sum.elim (fun _ => 0) (fun y14 => y14) y12))
theorem UG (a0 : Zf) (a1 : List Yw) (a2 : Int) (a3 : Int) (a4 : Int) (ha0 : Zi a0) (ha1 : LL JP a1) : M.X8 a0 a1 a2 a3 a4 = some (S.X8 a0 a1 a2 a3 a4) := by
  have hM := Zm
  unfold M.X8 S.X8
  refine Jf (fun hb1 => ?_) (fun hb1 => ?_)
  · rfl
  · refine ZZ (KZ a0 a1 a2 a3 a4 ha0 ha1 0) (fun y12 hey12 => ?_)
    refine Qp (fun _ hl => ?_) (fun y14 hly14 => ?_)
    · rfl
    · rfl
noncomputable def S.Q3 (a0 : Zf) (i2 : Nat) (i6 : Nat) : Option (Unit ⊕ Int) :=
  letS (bif (((a0.Yi.ZK.getD i6 default).JV) == ((a0.Yi.ZK.getD i2 default).JV)) then S.J7 ((a0.Yi.ZK.getD i6 default).Zp) ((a0.Yi.ZK.getD i2 default).Zp) else default) (fun r8 => bif (((a0.Yi.ZK.getD i6 default).JV) == ((a0.Yi.ZK.getD i2 default).JV)) && r8 then (some (.inr 6)) else none)
theorem Zb9 (a0 : Zf) (i2 : Nat) (ha0 : Zi a0) (hi2 : i2 < a0.Yi.ZK.length) (i0 : Nat) : loopM (M.Q3 a0 (i2 : Int)) (i0 : Int) = some (runN (S.Q3 a0 i2) (.inl ()) i0 (i2 - i0)) := by
  have hM := Zm
  have hni2 : a0.Yi.ZK.length ≤ maxLen := (Ji.ZK (Zi.Yi ha0))
  have hni6 : i2 ≤ maxLen := (by omega)
  refine Z3 (n := i2) (fun i6 hi6 => ?_) (fun m hm => ?_) i0
  · unfold M.Q3 S.Q3
    try simp only [Int.toNat_natCast]
    refine XV (dt (by omega)) ?_
    refine ZO (Jr fun hg => (Zav ((a0.Yi.ZK.getD i6 default).Zp) ((a0.Yi.ZK.getD i2 default).Zp))) (fun r8 her8 => ?_)
    refine Yx (Zs (dt (by omega)) (Zs (dt (by omega)) (Zs (dt (by omega)) (Zs (dt (by omega)) (Zs (JM fun hg => (dt (by first | omega | (simp; omega) | (simp at *; omega)))) (Zs (JM fun hg => (dt (by first | omega | (simp; omega) | (simp at *; omega)))) (Zs (JM fun hg => (dt (by first | omega | (simp; omega) | (simp at *; omega)))) (Zs (JM fun hg => (dt (by first | omega | (simp; omega) | (simp at *; omega)))) XF)))))))) ?_
    refine XN (fun hb6 => ?_) (fun hb6 => ?_)
    · exact Xt
    · exact JF (by omega)
  · unfold M.Q3
    try simp only [Int.toNat_natCast]
    exact XW (decide_eq_false (by omega)) rfl
noncomputable def S.Q4 (a0 : Zf) (i2 : Nat) : Option (Unit ⊕ Int) :=
  letS (S.Zz ((a0.Yi.ZK.getD i2 default).JV) 0 255) (fun r4 => letS (bif (!(!r4)) then S.YP ((a0.Yi.ZK.getD i2 default).Zp) else default) (fun r5 => bif (!r4) || (!r5) then (some (.inr 1)) else (letS (runN (S.Q3 a0 i2) (.inl ()) 0 i2) (fun y9 => Sum.elim (fun _ => none) (fun y11 => some (.inr y11)) y9))))
theorem Zca (a0 : Zf) (ha0 : Zi a0) (i0 : Nat) : loopM (M.Q4 a0) (i0 : Int) = some (runN (S.Q4 a0) (.inl ()) i0 (a0.Yi.ZK.length - i0)) := by
  have hM := Zm
  have hni2 : a0.Yi.ZK.length ≤ maxLen := (Ji.ZK (Zi.Yi ha0))
  refine Z3 (n := a0.Yi.ZK.length) (fun i2 hi2 => ?_) (fun m hm => ?_) i0
  · unfold M.Q4 S.Q4
    try simp only [Int.toNat_natCast]
    refine XV (dt (by omega)) ?_
    refine ZO (X9 ((a0.Yi.ZK.getD i2 default).JV) 0 255) (fun r4 her4 => ?_)
    refine ZO (Jr fun hg => (UF ((a0.Yi.ZK.getD i2 default).Zp))) (fun r5 her5 => ?_)
    refine Yx (Zs (dt (by omega)) (Zs (dt (by omega)) (Zs (JM fun hg => (dt (by first | omega | (simp; omega) | (simp at *; omega)))) (Zs (JM fun hg => (dt (by first | omega | (simp; omega) | (simp at *; omega)))) XF)))) ?_
    refine XN (fun hb5 => ?_) (fun hb5 => ?_)
    · exact Xt
    · refine ZO (Zb9 a0 i2 ha0 hi2 0) (fun y9 hey9 => ?_)
      refine JS (fun _ hl => ?_) (fun y11 hly11 => ?_)
      · exact JF (by omega)
      · exact Xt
  · unfold M.Q4
    try simp only [Int.toNat_natCast]
    exact XW (decide_eq_false (by omega)) rfl
noncomputable def S.JL (a0 : Zf) : Int :=
  bif !a0.Yi.Wr then (bif ((a0.Yi.Xj != 0) || (decide ((a0.Yi.ZK.length : Int) > 0))) || (decide ((a0.Yi.Zv.length : Int) > 0)) then 1 else 0) else (letS (S.Zz a0.Yi.Xj 1 255) (fun r1 => bif !r1 then 1 else (bif decide ((a0.Yi.ZK.length : Int) > 4) then 7 else (letS (runN (S.Q4 a0) (.inl ()) 0 a0.Yi.ZK.length) (fun y12 => Sum.elim (fun _ => letS (S.X8 a0 a0.Yi.Zv 3 0 16777215) (fun r15 => r15)) (fun y14 => y14) y12)))))
theorem Zeg (a0 : Zf) (ha0 : Zi a0) : M.JL a0 = some (S.JL a0) := by
  have hM := Zm
  unfold M.JL S.JL
  refine Jf (fun hb1 => ?_) (fun hb1 => ?_)
  · refine Jf (fun hb2 => ?_) (fun hb2 => ?_)
    · rfl
    · rfl
  · refine ZZ (X9 a0.Yi.Xj 1 255) (fun r1 her1 => ?_)
    refine Jf (fun hb3 => ?_) (fun hb3 => ?_)
    · rfl
    · refine Jf (fun hb4 => ?_) (fun hb4 => ?_)
      · rfl
      · refine ZZ (Zca a0 ha0 0) (fun y12 hey12 => ?_)
        refine Qp (fun _ hl => ?_) (fun y14 hly14 => ?_)
        · refine ZZ (UG a0 a0.Yi.Zv 3 0 16777215 ha0 (Ji.Zv (Zi.Yi ha0))) (fun r15 her15 => ?_)
          rfl
        · rfl
noncomputable def S.J8 (a0 : Zf) : Int :=
  bif !a0.YC.Wr then (bif (((a0.YC.Xj != 0) || (!strEq a0.YC.VQ (⟨#[]⟩ : ByteArray))) || (!strEq a0.YC.YV (⟨#[]⟩ : ByteArray))) || (decide ((a0.YC.Zv.length : Int) > 0)) then 1 else 0) else (letS (S.Zz a0.YC.Xj 1 255) (fun r1 => bif !r1 then 1 else (letS (bif (!strEq a0.YC.VQ (⟨#[]⟩ : ByteArray)) then S.Qy a0 a0.YC.VQ else default) (fun r2 => letS (bif ((!((!strEq a0.YC.VQ (⟨#[]⟩ : ByteArray)) && (decide (r2 < 0)))) && (!strEq a0.YC.YV (⟨#[]⟩ : ByteArray))) then S.Qy a0 a0.YC.YV else default) (fun r3 => bif ((!strEq a0.YC.VQ (⟨#[]⟩ : ByteArray)) && (decide (r2 < 0))) || ((!strEq a0.YC.YV (⟨#[]⟩ : ByteArray)) && (decide (r3 < 0))) then 5 else (letS (S.X8 a0 a0.YC.Zv 4 1 15) (fun r4 => r4)))))))
theorem ZeI (a0 : Zf) (ha0 : Zi a0) : M.J8 a0 = some (S.J8 a0) := by
  have hM := Zm
  unfold M.J8 S.J8
  refine Jf (fun hb1 => ?_) (fun hb1 => ?_)
  · refine Jf (fun hb2 => ?_) (fun hb2 => ?_)
    · rfl
    · rfl
  · refine ZZ (X9 a0.YC.Xj 1 255) (fun r1 her1 => ?_)
    refine Jf (fun hb3 => ?_) (fun hb3 => ?_)
    · rfl
    · refine ZZ (Jr fun hg => (GX a0 a0.YC.VQ ha0 (Ya.VQ (Zi.YC ha0)))) (fun r2 her2 => ?_)
      refine ZZ (Jr fun hg => (GX a0 a0.YC.YV ha0 (Ya.YV (Zi.YC ha0)))) (fun r3 her3 => ?_)
      refine Jf (fun hb4 => ?_) (fun hb4 => ?_)
      · rfl
      · refine ZZ (UG a0 a0.YC.Zv 4 1 15 ha0 (Ya.Zv (Zi.YC ha0))) (fun r4 her4 => ?_)
        rfl
noncomputable def S.Q5 (a0 : Zf) (i1 : Nat) (i6 : Nat) : Option (Unit ⊕ Int) :=
  bif ((a0.Xb.Zl.getD i6 default).Zu) == ((a0.Xb.Zl.getD i1 default).Zu) then (some (.inr 4)) else none
theorem Zcb (a0 : Zf) (i1 : Nat) (ha0 : Zi a0) (hi1 : i1 < a0.Xb.Zl.length) (i0 : Nat) : loopM (M.Q5 a0 (i1 : Int)) (i0 : Int) = some (runN (S.Q5 a0 i1) (.inl ()) i0 (i1 - i0)) := by
  have hM := Zm
  have hni1 : a0.Xb.Zl.length ≤ maxLen := (Z2.Zl (Zi.Xb ha0)).1
  have hni6 : i1 ≤ maxLen := (by omega)
  refine Z3 (n := i1) (fun i6 hi6 => ?_) (fun m hm => ?_) i0
  · unfold M.Q5 S.Q5
    try simp only [Int.toNat_natCast]
    refine XV (dt (by omega)) ?_
    refine Yx (Zs (dt (by omega)) (Zs (dt (by omega)) (Zs (dt (by omega)) (Zs (dt (by omega)) XF)))) ?_
    refine XN (fun hb4 => ?_) (fun hb4 => ?_)
    · exact Xt
    · exact JF (by omega)
  · unfold M.Q5
    try simp only [Int.toNat_natCast]
    exact XW (decide_eq_false (by omega)) rfl
noncomputable def S.Q6 (a0 : Zf) (i1 : Nat) : Option (Unit ⊕ Int) :=
  letS (bif (!(((a0.Xb.Zl.getD i1 default).Zu) == 0)) then S.Zz ((a0.Xb.Zl.getD i1 default).GN) 1 65535 else default) (fun r3 => bif (((a0.Xb.Zl.getD i1 default).Zu) == 0) || (!r3) then (some (.inr 1)) else (letS (bif (!strEq ((a0.Xb.Zl.getD i1 default).VQ) (⟨#[]⟩ : ByteArray)) then S.Jy a0 ((a0.Xb.Zl.getD i1 default).VQ) else default) (fun r4 => letS (bif ((!((!strEq ((a0.Xb.Zl.getD i1 default).VQ) (⟨#[]⟩ : ByteArray)) && (decide (r4 < 0)))) && (!strEq ((a0.Xb.Zl.getD i1 default).YV) (⟨#[]⟩ : ByteArray))) then S.Jy a0 ((a0.Xb.Zl.getD i1 default).YV) else default) (fun r5 => bif ((!strEq ((a0.Xb.Zl.getD i1 default).VQ) (⟨#[]⟩ : ByteArray)) && (decide (r4 < 0))) || ((!strEq ((a0.Xb.Zl.getD i1 default).YV) (⟨#[]⟩ : ByteArray)) && (decide (r5 < 0))) then (some (.inr 5)) else (letS (runN (S.Q5 a0 i1) (.inl ()) 0 i1) (fun y8 => Sum.elim (fun _ => none) (fun y10 => some (.inr y10)) y8))))))
theorem Zcc (a0 : Zf) (ha0 : Zi a0) (i0 : Nat) : loopM (M.Q6 a0) (i0 : Int) = some (runN (S.Q6 a0) (.inl ()) i0 (a0.Xb.Zl.length - i0)) := by
  have hM := Zm
  have hni1 : a0.Xb.Zl.length ≤ maxLen := (Z2.Zl (Zi.Xb ha0)).1
  refine Z3 (n := a0.Xb.Zl.length) (fun i1 hi1 => ?_) (fun m hm => ?_) i0
  · unfold M.Q6 S.Q6
    try simp only [Int.toNat_natCast]
    refine XV (dt (by omega)) ?_
    refine ZO (Jr fun hg => (X9 ((a0.Xb.Zl.getD i1 default).GN) 1 65535)) (fun r3 her3 => ?_)
    refine Yx (Zs (dt (by omega)) (Zs (dt (by omega)) (Zs (JM fun hg => (dt (by first | omega | (simp; omega) | (simp at *; omega)))) (Zs (JM fun hg => (dt (by first | omega | (simp; omega) | (simp at *; omega)))) XF)))) ?_
    refine XN (fun hb2 => ?_) (fun hb2 => ?_)
    · exact Xt
    · refine ZO (Jr fun hg => (Ki a0 ((a0.Xb.Zl.getD i1 default).VQ) ha0 (JA.VQ (LL.getD (Z2.Zl (Zi.Xb ha0)) JA.dflt i1)))) (fun r4 her4 => ?_)
      refine ZO (Jr fun hg => (Ki a0 ((a0.Xb.Zl.getD i1 default).YV) ha0 (JA.YV (LL.getD (Z2.Zl (Zi.Xb ha0)) JA.dflt i1)))) (fun r5 her5 => ?_)
      refine Yx (Zs (dt (by omega)) (Zs (dt (by omega)) (Zs (JM fun hg => (dt (by first | omega | (simp; omega) | (simp at *; omega)))) (Zs (JM fun hg => (dt (by first | omega | (simp; omega) | (simp at *; omega)))) (Zs (JM fun hg => (dt (by first | omega | (simp; omega) | (simp at *; omega)))) (Zs (JM fun hg => (dt (by first | omega | (simp; omega) | (simp at *; omega)))) (Zs (JM fun hg => (dt (by first | omega | (simp; omega) | (simp at *; omega)))) (Zs (JM fun hg => (dt (by first | omega | (simp; omega) | (simp at *; omega)))) XF)))))))) ?_
      refine XN (fun hb3 => ?_) (fun hb3 => ?_)
      · exact Xt
      · refine ZO (Zcb a0 i1 ha0 hi1 0) (fun y8 hey8 => ?_)
        refine JS (fun _ hl => ?_) (fun y10 hly10 => ?_)
        · exact JF (by omega)
        · exact Xt
  · unfold M.Q6
    try simp only [Int.toNat_natCast]
    exact XW (decide_eq_false (by omega)) rfl
noncomputable def S.J0 (a0 : Zf) : Int :=
  bif decide ((a0.Xb.Zl.length : Int) > 8) then 7 else (letS (runN (S.Q6 a0) (.inl ()) 0 a0.Xb.Zl.length) (fun y11 => Sum.elim (fun _ => 0) (fun y13 => y13) y11))
theorem Zeh (a0 : Zf) (ha0 : Zi a0) : M.J0 a0 = some (S.J0 a0) := by
  have hM := Zm
  unfold M.J0 S.J0
  refine Jf (fun hb1 => ?_) (fun hb1 => ?_)
  · rfl
  · refine ZZ (Zcc a0 ha0 0) (fun y11 hey11 => ?_)
    refine Qp (fun _ hl => ?_) (fun y13 hly13 => ?_)
    · rfl
    · rfl
noncomputable def S.Qt (a0 : Z4) (i1 : Nat) (i4 : Nat) : Option (Unit ⊕ Int) :=
  bif ((((a0.Zt.getD i4 default).Zu) == ((a0.Zt.getD i1 default).Zu)) && ((((a0.Zt.getD i4 default).ZJ) == ((a0.Zt.getD i1 default).ZJ)) && true)) then (some (.inr 4)) else none
theorem Zaj (a0 : Z4) (i1 : Nat) (ha0 : Z2 a0) (hi1 : i1 < a0.Zt.length) (i0 : Nat) : loopM (M.Qt a0 (i1 : Int)) (i0 : Int) = some (runN (S.Qt a0 i1) (.inl ()) i0 (i1 - i0)) := by
  have hM := Zm
  have hni1 : a0.Zt.length ≤ maxLen := (Z2.Zt ha0)
  have hni4 : i1 ≤ maxLen := (by omega)
  refine Z3 (n := i1) (fun i4 hi4 => ?_) (fun m hm => ?_) i0
  · unfold M.Qt S.Qt
    try simp only [Int.toNat_natCast]
    refine XV (dt (by omega)) ?_
    refine Yx (Zs (dt (by omega)) (Zs (dt (by omega)) (Zs (dt (by omega)) (Zs (dt (by omega)) XF)))) ?_
    refine XN (fun hb3 => ?_) (fun hb3 => ?_)
    · exact Xt
    · exact JF (by omega)
  · unfold M.Qt
    try simp only [Int.toNat_natCast]
    exact XW (decide_eq_false (by omega)) rfl
noncomputable def S.Y5 (a0 : Z4) (i1 : Nat) : Option (Unit ⊕ Int) :=
  letS (S.YP (a0.Zt.getD i1 default)) (fun r3 => bif !r3 then (some (.inr 1)) else (letS (runN (S.Qt a0 i1) (.inl ()) 0 i1) (fun y6 => Sum.elim (fun _ => none) (fun y8 => some (.inr y8)) y6)))
theorem Zak (a0 : Z4) (ha0 : Z2 a0) (i0 : Nat) : loopM (M.Y5 a0) (i0 : Int) = some (runN (S.Y5 a0) (.inl ()) i0 (a0.Zt.length - i0)) := by
  have hM := Zm
  have hni1 : a0.Zt.length ≤ maxLen := (Z2.Zt ha0)
  refine Z3 (n := a0.Zt.length) (fun i1 hi1 => ?_) (fun m hm => ?_) i0
  · unfold M.Y5 S.Y5
    try simp only [Int.toNat_natCast]
    refine XV (dt (by omega)) ?_
    refine ZO (UF (a0.Zt.getD i1 default)) (fun r3 her3 => ?_)
    refine Yx (Zs (dt (by omega)) (Zs (dt (by omega)) XF)) ?_
    refine XN (fun hb2 => ?_) (fun hb2 => ?_)
    · exact Xt
    · refine ZO (Zaj a0 i1 ha0 hi1 0) (fun y6 hey6 => ?_)
      refine JS (fun _ hl => ?_) (fun y8 hly8 => ?_)
      · exact JF (by omega)
      · exact Xt
  · unfold M.Y5
    try simp only [Int.toNat_natCast]
    exact XW (decide_eq_false (by omega)) rfl
noncomputable def S.Y6 (a0 : Z4) (i12 : Nat) (i15 : Nat) : Option (Unit ⊕ Int) :=
  bif (((((a0.Zr.getD i15 default).Zp).Zu) == (((a0.Zr.getD i12 default).Zp).Zu)) && (((((a0.Zr.getD i15 default).Zp).ZJ) == (((a0.Zr.getD i12 default).Zp).ZJ)) && true)) then (some (.inr 4)) else none
theorem Zal (a0 : Z4) (i12 : Nat) (ha0 : Z2 a0) (hi12 : i12 < a0.Zr.length) (i0 : Nat) : loopM (M.Y6 a0 (i12 : Int)) (i0 : Int) = some (runN (S.Y6 a0 i12) (.inl ()) i0 (i12 - i0)) := by
  have hM := Zm
  have hni12 : a0.Zr.length ≤ maxLen := (Z2.Zr ha0)
  have hni15 : i12 ≤ maxLen := (by omega)
  refine Z3 (n := i12) (fun i15 hi15 => ?_) (fun m hm => ?_) i0
  · unfold M.Y6 S.Y6
    try simp only [Int.toNat_natCast]
    refine XV (dt (by omega)) ?_
    refine Yx (Zs (dt (by omega)) (Zs (dt (by omega)) (Zs (dt (by omega)) (Zs (dt (by omega)) XF)))) ?_
    refine XN (fun hb6 => ?_) (fun hb6 => ?_)
    · exact Xt
    · exact JF (by omega)
  · unfold M.Y6
    try simp only [Int.toNat_natCast]
    exact XW (decide_eq_false (by omega)) rfl
noncomputable def S.Y7 (a0 : Z4) (i12 : Nat) : Option (Unit ⊕ Int) :=
  letS (S.YP ((a0.Zr.getD i12 default).Zp)) (fun r14 => bif !r14 then (some (.inr 1)) else (letS (runN (S.Y6 a0 i12) (.inl ()) 0 i12) (fun y17 => Sum.elim (fun _ => none) (fun y19 => some (.inr y19)) y17)))
theorem Zam (a0 : Z4) (ha0 : Z2 a0) (i0 : Nat) : loopM (M.Y7 a0) (i0 : Int) = some (runN (S.Y7 a0) (.inl ()) i0 (a0.Zr.length - i0)) := by
  have hM := Zm
  have hni12 : a0.Zr.length ≤ maxLen := (Z2.Zr ha0)
  refine Z3 (n := a0.Zr.length) (fun i12 hi12 => ?_) (fun m hm => ?_) i0
  · unfold M.Y7 S.Y7
    try simp only [Int.toNat_natCast]
    refine XV (dt (by omega)) ?_
    refine ZO (UF ((a0.Zr.getD i12 default).Zp)) (fun r14 her14 => ?_)
    refine Yx (Zs (dt (by omega)) (Zs (dt (by omega)) XF)) ?_
    refine XN (fun hb5 => ?_) (fun hb5 => ?_)
    · exact Xt
    · refine ZO (Zal a0 i12 ha0 hi12 0) (fun y17 hey17 => ?_)
      refine JS (fun _ hl => ?_) (fun y19 hly19 => ?_)
      · exact JF (by omega)
      · exact Xt
  · unfold M.Y7
    try simp only [Int.toNat_natCast]
    exact XW (decide_eq_false (by omega)) rfl
noncomputable def S.Y8 (a0 : Z4) (i23 : Nat) (i27 : Nat) : Option (Unit ⊕ Int) :=
  bif (((((a0.Zo.getD i27 default).Zp).Zu) == (((a0.Zo.getD i23 default).Zp).Zu)) && (((((a0.Zo.getD i27 default).Zp).ZJ) == (((a0.Zo.getD i23 default).Zp).ZJ)) && true)) then (some (.inr 4)) else none
theorem Zan (a0 : Z4) (i23 : Nat) (ha0 : Z2 a0) (hi23 : i23 < a0.Zo.length) (i0 : Nat) : loopM (M.Y8 a0 (i23 : Int)) (i0 : Int) = some (runN (S.Y8 a0 i23) (.inl ()) i0 (i23 - i0)) := by
  have hM := Zm
  have hni23 : a0.Zo.length ≤ maxLen := (Z2.Zo ha0)
  have hni27 : i23 ≤ maxLen := (by omega)
  refine Z3 (n := i23) (fun i27 hi27 => ?_) (fun m hm => ?_) i0
  · unfold M.Y8 S.Y8
    try simp only [Int.toNat_natCast]
    refine XV (dt (by omega)) ?_
    refine Yx (Zs (dt (by omega)) (Zs (dt (by omega)) XF)) ?_
    refine XN (fun hb10 => ?_) (fun hb10 => ?_)
    · exact Xt
    · exact JF (by omega)
  · unfold M.Y8
    try simp only [Int.toNat_natCast]
    exact XW (decide_eq_false (by omega)) rfl
noncomputable def S.Y9 (a0 : Z4) (i23 : Nat) : Option (Unit ⊕ Int) :=
  letS (S.YP ((a0.Zo.getD i23 default).Zp)) (fun r25 => letS (bif (!(!r25)) then S.YP ((a0.Zo.getD i23 default).fIf) else default) (fun r26 => bif (!r25) || (!r26) then (some (.inr 1)) else (bif (((((a0.Zo.getD i23 default).Zp).Zu) == (((a0.Zo.getD i23 default).fIf).Zu)) && (((((a0.Zo.getD i23 default).Zp).ZJ) == (((a0.Zo.getD i23 default).fIf).ZJ)) && true)) then (some (.inr 6)) else (letS (runN (S.Y8 a0 i23) (.inl ()) 0 i23) (fun y29 => Sum.elim (fun _ => none) (fun y31 => some (.inr y31)) y29)))))
theorem Zao (a0 : Z4) (ha0 : Z2 a0) (i0 : Nat) : loopM (M.Y9 a0) (i0 : Int) = some (runN (S.Y9 a0) (.inl ()) i0 (a0.Zo.length - i0)) := by
  have hM := Zm
  have hni23 : a0.Zo.length ≤ maxLen := (Z2.Zo ha0)
  refine Z3 (n := a0.Zo.length) (fun i23 hi23 => ?_) (fun m hm => ?_) i0
  · unfold M.Y9 S.Y9
    try simp only [Int.toNat_natCast]
    refine XV (dt (by omega)) ?_
    refine Yx (Zs (dt (by omega)) (Zs (dt (by omega)) XF)) ?_
    refine ZO (UF ((a0.Zo.getD i23 default).Zp)) (fun r25 her25 => ?_)
    refine ZO (Jr fun hg => (UF ((a0.Zo.getD i23 default).fIf))) (fun r26 her26 => ?_)
    refine XN (fun hb8 => ?_) (fun hb8 => ?_)
    · exact Xt
    · refine XN (fun hb9 => ?_) (fun hb9 => ?_)
      · exact Xt
      · refine ZO (Zan a0 i23 ha0 hi23 0) (fun y29 hey29 => ?_)
        refine JS (fun _ hl => ?_) (fun y31 hly31 => ?_)
        · exact JF (by omega)
        · exact Xt
  · unfold M.Y9
    try simp only [Int.toNat_natCast]
    exact XW (decide_eq_false (by omega)) rfl
noncomputable def S.Q7 (a0 : Z4) : Int :=
  bif decide ((a0.Zt.length : Int) > 8) then 7 else (letS (runN (S.Y5 a0) (.inl ()) 0 a0.Zt.length) (fun y9 => Sum.elim (fun _ => bif decide ((a0.Zr.length : Int) > 8) then 7 else (letS (runN (S.Y7 a0) (.inl ()) 0 a0.Zr.length) (fun y20 => Sum.elim (fun _ => bif decide ((a0.Zo.length : Int) > 8) then 7 else (letS (runN (S.Y9 a0) (.inl ()) 0 a0.Zo.length) (fun y32 => Sum.elim (fun _ => 0) (fun y34 => y34) y32))) (fun y22 => y22) y20))) (fun y11 => y11) y9))
theorem Zcd (a0 : Z4) (ha0 : Z2 a0) : M.Q7 a0 = some (S.Q7 a0) := by
  have hM := Zm
  unfold M.Q7 S.Q7
  refine Jf (fun hb1 => ?_) (fun hb1 => ?_)
  · rfl
  · refine ZZ (Zak a0 ha0 0) (fun y9 hey9 => ?_)
    refine Qp (fun _ hl => ?_) (fun y11 hly11 => ?_)
    · refine Jf (fun hb4 => ?_) (fun hb4 => ?_)
      · rfl
      · refine ZZ (Zam a0 ha0 0) (fun y20 hey20 => ?_)
        refine Qp (fun _ hl => ?_) (fun y22 hly22 => ?_)
        · refine Jf (fun hb7 => ?_) (fun hb7 => ?_)
          · rfl
          · refine ZZ (Zao a0 ha0 0) (fun y32 hey32 => ?_)
            refine Qp (fun _ hl => ?_) (fun y34 hly34 => ?_)
            · rfl
            · rfl
        · rfl
    · rfl
noncomputable def S.Jq (a0 : Zf) : Int :=
  bif !a0.Xb.Wr then (bif ((a0.Xb.X4 != 0) || (a0.Xb.X5 != 0)) || (decide ((wr .i64 ((wr .i64 ((wr .i64 ((wr .i64 ((a0.Xb.Zl.length : Int) + (a0.Xb.Zt.length : Int))) + (a0.Xb.Zr.length : Int))) + (a0.Xb.Zo.length : Int))) + (a0.Xb.Zv.length : Int))) > 0)) then 1 else 0) else (letS (bif (!(a0.GN == 0)) then S.Zz a0.Xb.X4 1 255 else default) (fun r1 => letS (bif (!((a0.GN == 0) || (!r1))) then S.Zz a0.Xb.X5 1 255 else default) (fun r2 => bif ((a0.GN == 0) || (!r1)) || (!r2) then 1 else (letS (S.J0 a0) (fun r3 => bif r3 != 0 then r3 else (letS (S.Q7 a0.Xb) (fun r4 => bif r4 != 0 then r4 else (letS (S.X8 a0 a0.Xb.Zv 5 0 16777215) (fun r5 => r5)))))))))
theorem ZdN (a0 : Zf) (ha0 : Zi a0) : M.Jq a0 = some (S.Jq a0) := by
  have hM := Zm
  unfold M.Jq S.Jq
  refine Jf (fun hb1 => ?_) (fun hb1 => ?_)
  · refine Jf (fun hb2 => ?_) (fun hb2 => ?_)
    · rfl
    · rfl
  · refine ZZ (Jr fun hg => (X9 a0.Xb.X4 1 255)) (fun r1 her1 => ?_)
    refine ZZ (Jr fun hg => (X9 a0.Xb.X5 1 255)) (fun r2 her2 => ?_)
    refine Jf (fun hb3 => ?_) (fun hb3 => ?_)
    · rfl
    · refine ZZ (Zeh a0 ha0) (fun r3 her3 => ?_)
      refine Jf (fun hb4 => ?_) (fun hb4 => ?_)
      · rfl
      · refine ZZ (Zcd a0.Xb (Zi.Xb ha0)) (fun r4 her4 => ?_)
        refine Jf (fun hb5 => ?_) (fun hb5 => ?_)
        · rfl
        · refine ZZ (UG a0 a0.Xb.Zv 5 0 16777215 ha0 (Z2.Zv (Zi.Xb ha0))) (fun r5 her5 => ?_)
          rfl
noncomputable def S.Jh (r3 : Int) (r4 : Int) (r5 : Int) (r6 : Int) (r7 : Int) (r8 : Int) (r9 : Int) (r10 : Int) (r11 : Int) (r12 : Int) (i13 : Nat) : Option (Unit ⊕ Int) :=
  bif (([r3, r4, r5, r6, r7, r8, r9, r10, r11, r12] : List Int).getD i13 default) != 0 then (some (.inr (([r3, r4, r5, r6, r7, r8, r9, r10, r11, r12] : List Int).getD i13 default))) else none
theorem ZaK (r3 : Int) (r4 : Int) (r5 : Int) (r6 : Int) (r7 : Int) (r8 : Int) (r9 : Int) (r10 : Int) (r11 : Int) (r12 : Int)  (i0 : Nat) : loopM (M.Jh r3 r4 r5 r6 r7 r8 r9 r10 r11 r12) (i0 : Int) = some (runN (S.Jh r3 r4 r5 r6 r7 r8 r9 r10 r11 r12) (.inl ()) i0 (([r3, r4, r5, r6, r7, r8, r9, r10, r11, r12] : List Int).length - i0)) := by
  have hM := Zm
  have hni13 : ([r3, r4, r5, r6, r7, r8, r9, r10, r11, r12] : List Int).length ≤ maxLen := (by simp [Zm])
  refine Z3 (n := ([r3, r4, r5, r6, r7, r8, r9, r10, r11, r12] : List Int).length) (fun i13 hi13 => ?_) (fun m hm => ?_) i0
  · unfold M.Jh S.Jh
    try simp only [Int.toNat_natCast]
    refine XV (dt (by omega)) ?_
    refine Yx (Zs (dt (by omega)) (Zs (dt (by first | omega | (simp; omega) | (simp at *; omega))) XF)) ?_
    refine XN (fun hb3 => ?_) (fun hb3 => ?_)
    · refine Yx (Zs (dt (by omega)) (Zs (dt (by first | omega | (simp; omega) | (simp at *; omega))) XF)) ?_
      exact Xt
    · exact JF (by omega)
  · unfold M.Jh
    try simp only [Int.toNat_natCast]
    exact XW (decide_eq_false (by omega)) rfl
noncomputable def S.QV (a0 : Zf) : Int :=
  letS (S.Je a0.ZW) (fun r1 => bif !r1 then 3 else (letS (S.Zz a0.GN 0 65535) (fun r2 => bif !r2 then 1 else (letS (S.Jk a0.Zc) (fun r3 => letS (S.QT a0.Xk) (fun r4 => letS (S.JI a0) (fun r5 => letS (S.QU a0.XO) (fun r6 => letS (S.Qz a0) (fun r7 => letS (S.V8 a0) (fun r8 => letS (S.VF a0) (fun r9 => letS (S.JL a0) (fun r10 => letS (S.J8 a0) (fun r11 => letS (S.Jq a0) (fun r12 => letS (runN (S.Jh r3 r4 r5 r6 r7 r8 r9 r10 r11 r12) (.inl ()) 0 (([r3, r4, r5, r6, r7, r8, r9, r10, r11, r12] : List Int).length)) (fun y15 => Sum.elim (fun _ => 0) (fun y17 => y17) y15)))))))))))))))
theorem ZcU (a0 : Zf) (ha0 : Zi a0) : M.QV a0 = some (S.QV a0) := by
  have hM := Zm
  unfold M.QV S.QV
  refine ZZ (Kd a0.ZW (Zi.ZW ha0)) (fun r1 her1 => ?_)
  refine Jf (fun hb1 => ?_) (fun hb1 => ?_)
  · rfl
  · refine ZZ (X9 a0.GN 0 65535) (fun r2 her2 => ?_)
    refine Jf (fun hb2 => ?_) (fun hb2 => ?_)
    · rfl
    · refine ZZ (ZdH a0.Zc (Zi.Zc ha0)) (fun r3 her3 => ?_)
      refine ZZ (ZcP a0.Xk (Zi.Xk ha0)) (fun r4 her4 => ?_)
      refine ZZ (Zed a0 ha0) (fun r5 her5 => ?_)
      refine ZZ (ZcQ a0.XO (Zi.XO ha0)) (fun r6 her6 => ?_)
      refine ZZ (Zb7 a0 ha0) (fun r7 her7 => ?_)
      refine ZZ (ZfL a0 ha0) (fun r8 her8 => ?_)
      refine ZZ (ZfM a0 ha0) (fun r9 her9 => ?_)
      refine ZZ (Zeg a0 ha0) (fun r10 her10 => ?_)
      refine ZZ (ZeI a0 ha0) (fun r11 her11 => ?_)
      refine ZZ (ZdN a0 ha0) (fun r12 her12 => ?_)
      refine ZZ (ZaK r3 r4 r5 r6 r7 r8 r9 r10 r11 r12 0) (fun y15 hey15 => ?_)
      refine Qp (fun _ hl => ?_) (fun y17 hly17 => ?_)
      · rfl
      · rfl
noncomputable def S.VW (a0 : ZX) (i1 : Nat) (i4 : Nat) : Option (Unit ⊕ Int) :=
  bif strEq ((a0.Zd.getD i4 default).ZW) ((a0.Zd.getD i1 default).ZW) then (some (.inr 4)) else none
theorem ZeJ (a0 : ZX) (i1 : Nat) (ha0 : Yt a0) (hi1 : i1 < a0.Zd.length) (i0 : Nat) : loopM (M.VW a0 (i1 : Int)) (i0 : Int) = some (runN (S.VW a0 i1) (.inl ()) i0 (i1 - i0)) := by
  have hM := Zm
  have hni1 : a0.Zd.length ≤ maxLen := (Yt.Zd ha0).1
  have hni4 : i1 ≤ maxLen := (by omega)
  refine Z3 (n := i1) (fun i4 hi4 => ?_) (fun m hm => ?_) i0
  · unfold M.VW S.VW
    try simp only [Int.toNat_natCast]
    refine XV (dt (by omega)) ?_
    refine Yx (Zs (dt (by omega)) (Zs (dt (by omega)) (Zs (dt (by omega)) (Zs (dt (by omega)) XF)))) ?_
    refine XN (fun hb3 => ?_) (fun hb3 => ?_)
    · exact Xt
    · exact JF (by omega)
  · unfold M.VW
    try simp only [Int.toNat_natCast]
    exact XW (decide_eq_false (by omega)) rfl
noncomputable def S.Vv (a0 : ZX) (i1 : Nat) (i9 : Nat) (i11 : Nat) : Option (Unit ⊕ Int) :=
  letS (bif (((((a0.Zd.getD i1 default).Zc).getD i9 default).ZJ) != 0) then S.Q2 (a0.Zd.getD i11 default) ((((a0.Zd.getD i1 default).Zc).getD i9 default).Zu) else default) (fun r13 => bif (((((a0.Zd.getD i1 default).Zc).getD i9 default).ZJ) != 0) && (decide (r13 ≥ 0)) then (some (.inr 4)) else none)
theorem ZeK (a0 : ZX) (i1 : Nat) (i9 : Nat) (ha0 : Yt a0) (hi1 : i1 < a0.Zd.length) (hi9 : i9 < ((a0.Zd.getD i1 default).Zc).length) (i0 : Nat) : loopM (M.Vv a0 (i1 : Int) (i9 : Int)) (i0 : Int) = some (runN (S.Vv a0 i1 i9) (.inl ()) i0 (i1 - i0)) := by
  have hM := Zm
  have hni1 : a0.Zd.length ≤ maxLen := (Yt.Zd ha0).1
  have hni9 : ((a0.Zd.getD i1 default).Zc).length ≤ maxLen := (Zi.Zc (LL.getD (Yt.Zd ha0) Zi.dflt i1)).1
  have hni11 : i1 ≤ maxLen := (by omega)
  refine Z3 (n := i1) (fun i11 hi11 => ?_) (fun m hm => ?_) i0
  · unfold M.Vv S.Vv
    try simp only [Int.toNat_natCast]
    refine XV (dt (by omega)) ?_
    refine ZO (Jr fun hg => (Zbx (a0.Zd.getD i11 default) ((((a0.Zd.getD i1 default).Zc).getD i9 default).Zu) (LL.getD (Yt.Zd ha0) Zi.dflt i11))) (fun r13 her13 => ?_)
    refine Yx (Zs (JM fun hg => (dt (by first | omega | (simp; omega) | (simp at *; omega)))) (Zs (JM fun hg => (dt (by first | omega | (simp; omega) | (simp at *; omega)))) XF)) ?_
    refine XN (fun hb4 => ?_) (fun hb4 => ?_)
    · exact Xt
    · exact JF (by omega)
  · unfold M.Vv
    try simp only [Int.toNat_natCast]
    exact XW (decide_eq_false (by omega)) rfl
noncomputable def S.Vw (a0 : ZX) (i1 : Nat) (i9 : Nat) : Option (Unit ⊕ Int) :=
  letS (runN (S.Vv a0 i1 i9) (.inl ()) 0 i1) (fun y14 => Sum.elim (fun _ => none) (fun y16 => some (.inr y16)) y14)
theorem ZeL (a0 : ZX) (i1 : Nat) (ha0 : Yt a0) (hi1 : i1 < a0.Zd.length) (i0 : Nat) : loopM (M.Vw a0 (i1 : Int)) (i0 : Int) = some (runN (S.Vw a0 i1) (.inl ()) i0 (((a0.Zd.getD i1 default).Zc).length - i0)) := by
  have hM := Zm
  have hni1 : a0.Zd.length ≤ maxLen := (Yt.Zd ha0).1
  have hni9 : ((a0.Zd.getD i1 default).Zc).length ≤ maxLen := (Zi.Zc (LL.getD (Yt.Zd ha0) Zi.dflt i1)).1
  refine Z3 (n := ((a0.Zd.getD i1 default).Zc).length) (fun i9 hi9 => ?_) (fun m hm => ?_) i0
  · unfold M.Vw S.Vw
    try simp only [Int.toNat_natCast]
    refine Yx (Zs (dt (by omega)) (Zs (dt (by omega)) XF))  ?_
    refine XV (dt (by omega)) ?_
    refine Yx (Zs (dt (by omega)) (Zs (dt (by omega)) (Zs (dt (by omega)) (Zs (dt (by omega)) XF)))) ?_
    refine ZO (ZeK a0 i1 i9 ha0 hi1 hi9 0) (fun y14 hey14 => ?_)
    refine JS (fun _ hl => ?_) (fun y16 hly16 => ?_)
    · exact JF (by omega)
    · exact Xt
  · unfold M.Vw
    try simp only [Int.toNat_natCast]
    refine Yx (Zs (dt (by omega)) (Zs (dt (by omega)) XF))  ?_
    exact XW (decide_eq_false (by omega)) rfl
noncomputable def S.Vx (a0 : ZX) (i1 : Nat) : Option (Unit ⊕ Int) :=
  letS (S.QV (a0.Zd.getD i1 default)) (fun r3 => bif r3 != 0 then (some (.inr r3)) else (letS (runN (S.VW a0 i1) (.inl ()) 0 i1) (fun y6 => Sum.elim (fun _ => letS (runN (S.Vw a0 i1) (.inl ()) 0 (((a0.Zd.getD i1 default).Zc).length)) (fun y17 => Sum.elim (fun _ => none) (fun y19 => some (.inr y19)) y17)) (fun y8 => some (.inr y8)) y6)))
theorem ZeM (a0 : ZX) (ha0 : Yt a0) (i0 : Nat) : loopM (M.Vx a0) (i0 : Int) = some (runN (S.Vx a0) (.inl ()) i0 (a0.Zd.length - i0)) := by
  have hM := Zm
  have hni1 : a0.Zd.length ≤ maxLen := (Yt.Zd ha0).1
  refine Z3 (n := a0.Zd.length) (fun i1 hi1 => ?_) (fun m hm => ?_) i0
  · unfold M.Vx S.Vx
    try simp only [Int.toNat_natCast]
    refine XV (dt (by omega)) ?_
    refine ZO (ZcU (a0.Zd.getD i1 default) (LL.getD (Yt.Zd ha0) Zi.dflt i1)) (fun r3 her3 => ?_)
    refine Yx (Zs (dt (by omega)) (Zs (dt (by omega)) XF)) ?_
    refine XN (fun hb2 => ?_) (fun hb2 => ?_)
    · exact Xt
    · refine ZO (ZeJ a0 i1 ha0 hi1 0) (fun y6 hey6 => ?_)
      refine JS (fun _ hl => ?_) (fun y8 hly8 => ?_)
      · refine ZO (ZeL a0 i1 ha0 hi1 0) (fun y17 hey17 => ?_)
        refine JS (fun _ hl => ?_) (fun y19 hly19 => ?_)
        · exact JF (by omega)
        · exact Xt
      · exact Xt
  · unfold M.Vx
    try simp only [Int.toNat_natCast]
    exact XW (decide_eq_false (by omega)) rfl
noncomputable def S.V9 (a0 : ZX) : Int :=
  bif decide ((a0.Zd.length : Int) > 8) then 7 else (letS (runN (S.Vx a0) (.inl ()) 0 a0.Zd.length) (fun y20 => Sum.elim (fun _ => 0) (fun y22 => y22) y20))
theorem Zhd (a0 : ZX) (ha0 : Yt a0) : M.V9 a0 = some (S.V9 a0) := by
  have hM := Zm
  unfold M.V9 S.V9
  refine Jf (fun hb1 => ?_) (fun hb1 => ?_)
  · rfl
  · refine ZZ (ZeM a0 ha0 0) (fun y20 hey20 => ?_)
    refine Qp (fun _ hl => ?_) (fun y22 hly22 => ?_)
    · rfl
    · rfl
noncomputable def S.Wn (a0 : ZL) (a1 : ZL) : Int :=
  bif (decide (a0.Zu < a1.Zu)) || ((a0.Zu == a1.Zu) && (decide (a0.ZJ < a1.ZJ))) then (-1) else (bif ((a0.Zu == a1.Zu) && ((a0.ZJ == a1.ZJ) && true)) then 0 else 1)
theorem ZfN (a0 : ZL) (a1 : ZL)  : M.Wn a0 a1 = some (S.Wn a0 a1) := by
  have hM := Zm
  unfold M.Wn S.Wn
  refine Jf (fun hb1 => ?_) (fun hb1 => ?_)
  · rfl
  · refine Jf (fun hb2 => ?_) (fun hb2 => ?_)
    · rfl
    · rfl
noncomputable def S.Wo (a0 : List Int) (a1 : List Int) (i1 : Nat) : Option (Unit ⊕ Bool) :=
  bif (a0.getD i1 default) != (a1.getD i1 default) then (some (.inr false)) else none
theorem ZfO (a0 : List Int) (a1 : List Int) (ha0 : a0.length ≤ maxLen) (ha1 : a1.length ≤ maxLen) (hlen : a0.length = a1.length) (i0 : Nat) : loopM (M.Wo a0 a1) (i0 : Int) = some (runN (S.Wo a0 a1) (.inl ()) i0 (a0.length - i0)) := by
  have hM := Zm
  have hni1 : a0.length ≤ maxLen := ha0
  refine Z3 (n := a0.length) (fun i1 hi1 => ?_) (fun m hm => ?_) i0
  · unfold M.Wo S.Wo
    try simp only [Int.toNat_natCast]
    refine XV (dt (by omega)) ?_
    refine Yx (Zs (dt (by omega)) (Zs (dt (by omega)) (Zs (dt (by omega)) (Zs (dt (by omega)) XF)))) ?_
    refine XN (fun hb2 => ?_) (fun hb2 => ?_)
    · exact Xt
    · exact JF (by omega)
  · unfold M.Wo
    try simp only [Int.toNat_natCast]
    exact XW (decide_eq_false (by omega)) rfl
noncomputable def S.UK (a0 : List Int) (a1 : List Int) : Bool :=
  bif (a0.length : Int) != (a1.length : Int) then false else (letS (runN (S.Wo a0 a1) (.inl ()) 0 a0.length) (fun y3 => Sum.elim (fun _ => true) (fun y5 => y5) y3))
theorem Zh6 (a0 : List Int) (a1 : List Int) (ha0 : a0.length ≤ maxLen) (ha1 : a1.length ≤ maxLen) : M.UK a0 a1 = some (S.UK a0 a1) := by
  have hM := Zm
  unfold M.UK S.UK
  refine Jf (fun hb1 => ?_) (fun hb1 => ?_)
  · rfl
  · refine ZZ (ZfO a0 a1 ha0 ha1 (by simp at *; omega) 0) (fun y3 hey3 => ?_)
    refine Qp (fun _ hl => ?_) (fun y5 hly5 => ?_)
    · rfl
    · rfl
noncomputable def S.Wp (a0 : List VS) (a1 : List VS) (i1 : Nat) : Option (Unit ⊕ Bool) :=
  bif !((((a0.getD i1 default).G8) == ((a1.getD i1 default).G8)) && ((((a0.getD i1 default).QB) == ((a1.getD i1 default).QB)) && true)) then (some (.inr false)) else none
theorem ZfP (a0 : List VS) (a1 : List VS) (ha0 : a0.length ≤ maxLen) (ha1 : a1.length ≤ maxLen) (hlen : a0.length = a1.length) (i0 : Nat) : loopM (M.Wp a0 a1) (i0 : Int) = some (runN (S.Wp a0 a1) (.inl ()) i0 (a0.length - i0)) := by
  have hM := Zm
  have hni1 : a0.length ≤ maxLen := ha0
  refine Z3 (n := a0.length) (fun i1 hi1 => ?_) (fun m hm => ?_) i0
  · unfold M.Wp S.Wp
    try simp only [Int.toNat_natCast]
    refine XV (dt (by omega)) ?_
    refine Yx (Zs (dt (by omega)) (Zs (dt (by omega)) (Zs (dt (by omega)) (Zs (dt (by omega)) XF)))) ?_
    refine XN (fun hb2 => ?_) (fun hb2 => ?_)
    · exact Xt
    · exact JF (by omega)
  · unfold M.Wp
    try simp only [Int.toNat_natCast]
    exact XW (decide_eq_false (by omega)) rfl
noncomputable def S.UL (a0 : List VS) (a1 : List VS) : Bool :=
  bif (a0.length : Int) != (a1.length : Int) then false else (letS (runN (S.Wp a0 a1) (.inl ()) 0 a0.length) (fun y3 => Sum.elim (fun _ => true) (fun y5 => y5) y3))
theorem Zh7 (a0 : List VS) (a1 : List VS) (ha0 : a0.length ≤ maxLen) (ha1 : a1.length ≤ maxLen) : M.UL a0 a1 = some (S.UL a0 a1) := by
  have hM := Zm
  unfold M.UL S.UL
  refine Jf (fun hb1 => ?_) (fun hb1 => ?_)
  · rfl
  · refine ZZ (ZfP a0 a1 ha0 ha1 (by simp at *; omega) 0) (fun y3 hey3 => ?_)
    refine Qp (fun _ hl => ?_) (fun y5 hly5 => ?_)
    · rfl
    · rfl
end Nv
