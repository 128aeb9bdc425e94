/- The program's check of a router is the reference's. -/
import Derived.Test.YtaienbkgekjdnaaGreatNvT1
import Derived.Test.YtaienbkgekjdnaaGreatNvLibB
namespace Nv
open Go
theorem Gv : (default : Bool) = false := rfl
theorem Zh8 (c : Int) : S.VM c = S.Vj c := by
  unfold S.VM S.Vj
  rw [Bool.or_comm]
theorem ZfS (s : ByteArray) : S.Wf s = S.Je s := by
  have e : S.V3 s = S.V6 s := by
    funext i
    unfold S.V3 S.V6
    simp only [letS, Zh8, S.W5]
    cases S.Vj (byteAt s (i : Int)) <;> rfl
  unfold S.Wf S.Je
  rw [e, Zh8]
theorem ZjY (a n : Int) : S.YT a n = S.QZ a n := by
  unfold S.YT S.QZ
  simp only [letS, S.JU, S.JC, S.Vp]
  have e : (if 0 > (if 32 < n then 32 else n) then 0 else (if 32 < n then 32 else n)) = cl32 n := by unfold cl32; split <;> split <;> (try split) <;> omega
  rw [e, ZgU]
theorem ZfT (p q : ZL) : S.J4 p q = S.J7 p q := rfl
theorem Zhg (p : ZL) : S.QO p = S.YP p := rfl
theorem U3 (a b c : Int) : S.ZP a b c = S.Zz a b c := rfl
theorem Zh9 (a : Zf) (n : ByteArray) : S.Qh a n = S.JJ a n := rfl
theorem Zhh (a : Zf) (n : ByteArray) : S.Yo a n = S.Qy a n := rfl
theorem ZiN (a : Zf) (n : ByteArray) : S.YX a n = S.Jy a n := rfl
theorem ZmF (a : Zf) (n : ByteArray) : S.VN a n = S.WZ a n := rfl
theorem Zgy (a : Zf) (n : Int) : S.J5 a n = S.Q2 a n := rfl
theorem ZdQ (a : Zf) : S.YH a = S.Jk a.Zc := by
  unfold S.YH S.Jk
  rw [Yy (g' := S.QG a.Zc)]
  intro i hi
  unfold S.Yz S.QG
  have hd : runN (S.Jd a.Zc i) (.inl ()) 0 i = _ := GI (β := Unit ⊕ Int) (fun k => strEq (a.Zc.getD k default).ZW (a.Zc.getD i default).ZW) (.inr 4) (.inl ()) i
  have ho : runN (S.Yj a i) (.inl ()) 0 i = runN (S.Qi a.Zc i) (.inl ()) 0 i := by
    refine Yy fun j hj => ?_
    unfold S.Yj S.Qi
    simp only [U4 _ hj, ZjY, ZfT]
  rw [hd, ho]
  have hx : decide (S.Qh a (a.Zc.getD i default).ZW < (i : Int)) = _ := RY (c := fun j => strEq (a.Zc.getD j default).ZW (a.Zc.getD i default).ZW) hi (Ru _)
  simp only [letS]
  rw [hx, ZfS]
  cases S.Je (a.Zc.getD i default).ZW with
  | false => rfl
  | true =>
    cases anyN _ i with
    | true => rfl
    | false =>
      simp only [Bool.not_true, cond_false, Sum.elim_inl, S.Qq, letS, U3]
      generalize runN (S.Qi a.Zc i) _ 0 i = z
      generalize a.Zc.getD i default = x
      simp only [Gv, bne]
      cases S.Zz x.ZJ 0 32 <;> cases S.Zz x.Xr 0 4094 <;> cases S.Zz x.Rw 0 2 <;> simp only [Bool.not_true, Bool.not_false, Bool.or_true, Bool.or_false, Bool.true_or, Bool.false_or, cond_true, cond_false]
      generalize (x.ZJ == 0 && _) = b1
      generalize (!(x.ZJ == 0) && _) = b2
      cases b1 <;> cases b2 <;> cases x.Yi <;> cases S.Zz x.JV 0 255 <;> cases S.Zz x.K4 1 65535 <;> cases x.JV == 0 <;> cases x.K4 == 0 <;> rfl
theorem Zf9 (a : Zf) : S.YA a = S.QT a.Xk := by
  unfold S.YA S.QT
  rw [Yy (g' := S.Ql a.Xk)]
  intro i hi
  unfold S.Yn S.Ql
  have hd : runN (S.QM a.Xk i) (.inl ()) 0 i = _ := GI (β := Unit ⊕ Int) (fun k => strEq (a.Xk.getD k default).ZW (a.Xk.getD i default).ZW) (.inr 4) (.inl ()) i
  have ho : runN (S.Yd a i) (.inl ()) 0 ((a.Xk.getD i default).Xz).length = runN (S.Qk a.Xk i) (.inl ()) 0 ((a.Xk.getD i default).Xz).length := by
    refine Yy fun j hj => ?_
    unfold S.Yd S.Qk S.Qs
    generalize ((a.Xk.getD i default).Xz).getD j default = x
    simp only [letS, Zhg]
    have e1 : decide (x.Zp.ZJ ≤ x.ZbR) = !decide (x.ZbR < x.Zp.ZJ) := by simp [← Int.not_lt]
    have e2 : decide (x.ZbR ≤ x.ZbS) = !decide (x.ZbS < x.ZbR) := by simp [← Int.not_lt]
    have e3 : decide (x.ZbS ≤ 32) = !decide (x.ZbS > 32) := by simp [← Int.not_lt]
    rw [e1, e2, e3]
    cases S.YP x.Zp <;> cases decide (x.ZbR < x.Zp.ZJ) <;> cases decide (x.ZbS < x.ZbR) <;> cases decide (x.ZbS > 32) <;> rfl
  rw [hd, ho]
  have hx : decide (S.Yo a (a.Xk.getD i default).ZW < (i : Int)) = _ := RY (c := fun j => strEq (a.Xk.getD j default).ZW (a.Xk.getD i default).ZW) hi (Ru _)
  simp only [letS, S.YQ]
  rw [hx, ZfS]
  cases S.Je (a.Xk.getD i default).ZW with
  | false => rfl
  | true =>
    cases anyN _ i with
    | true => rfl
    | false =>
      simp only [Bool.not_true, cond_false, Sum.elim_inl]
      cases ((((a.Xk.getD i default).Xz).length : Int) == 0) with
      | true => rfl
      | false =>
        cases (decide ((((a.Xk.getD i default).Xz).length : Int) > 16)) <;> rfl
theorem Zga (x : GK) : S.QW x = ((((S.Zz x.US (-1) 65535 && S.Zz x.WL (-1) 16777215) && S.Zz x.GL (-1) 65535) && S.Zz x.UZ (-1) 1000000) && S.Zz x.U0 0 8) := by
  unfold S.QW
  simp only [letS, U3, Gv]
  cases S.Zz x.US (-1) 65535 <;> cases S.Zz x.WL (-1) 16777215 <;> cases S.Zz x.GL (-1) 65535 <;> cases S.Zz x.UZ (-1) 1000000 <;> cases S.Zz x.U0 0 8 <;> rfl
theorem Zia (a : Zf) : S.YY a = S.JI a := by
  unfold S.YY S.JI
  rw [Yy (g' := S.Q1 a)]
  intro i hi
  unfold S.YE S.Q1
  have hd : runN (S.Jw a i) (.inl ()) 0 i = _ := GI (β := Unit ⊕ Int) (fun k => strEq (a.Z8.getD k default).ZW (a.Z8.getD i default).ZW) (.inr 4) (.inl ()) i
  have ho : runN (S.Yp a i) (.inl ()) 0 ((a.Z8.getD i default).Xl).length = runN (S.Q0 a i) (.inl ()) 0 ((a.Z8.getD i default).Xl).length := by
    refine Yy fun j hj => ?_
    unfold S.Yp S.Q0
    generalize ((a.Z8.getD i default).Xl).getD j default = x
    simp only [letS, Gv]
    rw [Zhh, Zga]
    generalize (!strEq x.QP (⟨#[]⟩ : ByteArray) && _ : Bool) = b
    cases b <;> cases S.Zz x.US (-1) 65535 <;> cases S.Zz x.WL (-1) 16777215 <;> cases S.Zz x.GL (-1) 65535 <;> cases S.Zz x.UZ (-1) 1000000 <;> cases S.Zz x.U0 0 8 <;> rfl
  rw [hd, ho]
  have hx : decide (S.YX a (a.Z8.getD i default).ZW < (i : Int)) = _ := RY (c := fun j => strEq (a.Z8.getD j default).ZW (a.Z8.getD i default).ZW) hi (Ru _)
  simp only [letS, S.YQ]
  rw [hx, ZfS]
  cases S.Je (a.Z8.getD i default).ZW with
  | false => rfl
  | true =>
    cases anyN _ i with
    | true => rfl
    | false =>
      simp only [Bool.not_true, cond_false, Sum.elim_inl]
      cases ((((a.Z8.getD i default).Xl).length : Int) == 0) with
      | true => rfl
      | false =>
        cases (decide ((((a.Z8.getD i default).Xl).length : Int) > 8)) <;> rfl
theorem Zms (x : Zar) : S.JG x = S.JZ x := by
  unfold S.JG S.JZ
  have e (p : JW) : S.QQ p = S.V7 p := rfl
  simp only [letS, U3, Gv, e, S.UH]
  generalize (bitD .and .u32 x.Re.Zu x.Re.Gb != 0) = b1
  generalize (bitD .and .u32 x.Rf.Zu x.Rf.Gb != 0) = b2
  generalize (x.Yb == 6 || x.Yb == 17) = b3
  generalize ((x.Vm.Gc == 0) && _) = b4
  generalize ((x.Vn.Gc == 0) && _) = b5
  cases S.Zz x.Yb (-1) 255 <;> cases b1 <;> cases b2 <;> cases S.V7 x.Vm <;> cases S.V7 x.Vn <;> cases b3 <;> cases b4 <;> cases b5 <;> rfl
theorem Zgb (a : Zf) : S.JH a = S.QU a.XO := by
  unfold S.JH S.QU
  rw [Yy (g' := S.Qn a.XO)]
  intro i hi
  unfold S.Ja S.Qn
  have hd : runN (S.QN a.XO i) (.inl ()) 0 i = _ := GI (β := Unit ⊕ Int) (fun k => strEq (a.XO.getD k default).ZW (a.XO.getD i default).ZW) (.inr 4) (.inl ()) i
  have ho : runN (S.QC a i) (.inl ()) 0 ((a.XO.getD i default).Xz).length = runN (S.Qm a.XO i) (.inl ()) 0 ((a.XO.getD i default).Xz).length := by
    refine Yy fun j hj => ?_
    unfold S.QC S.Qm
    simp only [letS, Zms]
  rw [hd, ho]
  have hx : decide (S.VN a (a.XO.getD i default).ZW < (i : Int)) = _ := RY (c := fun j => strEq (a.XO.getD j default).ZW (a.XO.getD i default).ZW) hi (Ru _)
  simp only [letS, S.YQ]
  rw [hx, ZfS]
  cases S.Je (a.XO.getD i default).ZW with
  | false => rfl
  | true =>
    cases anyN _ i with
    | true => rfl
    | false =>
      simp only [Bool.not_true, cond_false, Sum.elim_inl]
      cases ((((a.XO.getD i default).Xz).length : Int) == 0) with
      | true => rfl
      | false =>
        cases (decide ((((a.XO.getD i default).Xz).length : Int) > 16)) <;> rfl
theorem ZfU (a : Zf) : S.JX a = S.Qz a := by
  unfold S.JX S.Qz
  rw [Yy (g' := S.Y4 a)]
  intro i hi
  unfold S.Ju S.Y4 S.X3 S.YU
  generalize a.Xd.getD i default = x
  simp only [letS, Gv, beq_self_eq_true, Ru, Bool.true_and, Bool.and_true, bne]
  rw [ZmF, U3, U3]
  cases x.JT == 1 with
  | true =>
    simp only [cond_true]
    cases x.Qj == 0 <;> cases x.Yv == 0 <;> simp only [Bool.not_true, Bool.not_false, Bool.true_and, Bool.false_and, Bool.and_true, Bool.and_false]
  | false =>
    simp only [cond_false]
    cases h2 : x.JT == 2 with
    | true =>
      simp only [cond_true]
      cases x.Gc == 0 <;> cases decide (x.Gc ≤ x.GM) <;> cases decide (wr .u32 (x.GM - x.Gc) < 8) <;> simp only [Bool.not_true, Bool.not_false, Bool.true_and, Bool.false_and, Bool.and_true, Bool.and_false]
    | false =>
      simp only [cond_false]
      cases x.JT == 3 with
      | true => rfl
      | false => rfl
theorem ZjZ (a : Zf) : S.Jb a = S.V8 a := rfl
theorem Zib : (default : Int) = 0 := rfl
theorem Zj0 (x : Int) : decide (x ≥ 0) = !decide (x < 0) := by
  by_cases h : x < 0
  · have : ¬ x ≥ 0 := by omega
    simp [h, this]
  · have : x ≥ 0 := by omega
    simp [h, this]
theorem Zmt (x : Yc) : (runT (S.YZ x) (fun s1 => s1) 0 3 (0) == 1) = (bif x.Vf == 0 then (bif strEq x.QB (⟨#[]⟩ : ByteArray) then x.Vt else !x.Vt) else (strEq x.QB (⟨#[]⟩ : ByteArray) && !x.Vt)) := by
  simp only [runT, S.YZ, S.YD, List.getD_cons_zero, List.getD_cons_succ, bne]
  cases x.Vf == 0 <;> cases strEq x.QB (⟨#[]⟩ : ByteArray) <;> cases x.Vt <;> rfl
theorem Zgc (a : Zf) (x : Yc) : S.Qx a x = ((((S.YP x.Zp && (bif x.Vf == 0 then (bif strEq x.QB (⟨#[]⟩ : ByteArray) then x.Vt else !x.Vt) else (strEq x.QB (⟨#[]⟩ : ByteArray) && !x.Vt))) && ((x.Vf == 0) || decide (S.Q2 a x.Vf < 0))) && S.Zz x.Xj 1 255) && S.Zz x.US 0 65535) := by
  unfold S.Qx
  simp only [letS, Gv, Zib]
  rw [Zmt, Zgy, Zhg, U3, U3]
  generalize (bif x.Vf == 0 then (bif strEq x.QB (⟨#[]⟩ : ByteArray) then x.Vt else !x.Vt) else (strEq x.QB (⟨#[]⟩ : ByteArray) && !x.Vt)) = w
  cases S.YP x.Zp <;> cases w <;> cases x.Vf == 0 <;> cases S.Zz x.Xj 1 255 <;> cases S.Zz x.US 0 65535 <;> simp
theorem Zj1 (a : Zf) : S.QD a = S.VF a := by
  unfold S.QD S.VF
  rw [Yy (g' := S.JK a)]
  intro i hi
  have ho : runN (S.YI a i) (.inl ()) 0 i = runN (S.Jl a i) (.inl ()) 0 i := Yy fun j hj => by
    unfold S.YI S.Jl
    simp only [U4 _ hj]
  unfold S.Qg S.JK S.Jp S.Jo S.Jn S.Jm S.Yu
  rw [ho]
  generalize runN (S.Jl a i) (.inl ()) 0 i = z
  generalize a.Zq.getD i default = x
  have er : S.Qx a (⟨x.Zp, x.Vf, x.QB, x.Vt, x.Xj, x.US⟩ : Yc) = _ := Zgc a x
  simp only [letS, Gv, Zib]
  rw [er, Zh9]
  simp only [Zj0, bne]
  have w1 : wr .i64 1 = 1 := rfl
  have w2 : wr .i64 2 = 2 := rfl
  have w3 : wr .i64 3 = 3 := rfl
  cases x.Vf == 0 <;> cases strEq x.QB (⟨#[]⟩ : ByteArray) <;> cases x.Vt <;> cases S.YP x.Zp <;> cases S.Zz x.Xj 1 255 <;> cases S.Zz x.US 0 65535 <;> simp [w1, w2, w3]
theorem ZfV (a : Zf) (l : List Yw) (into least most types : Int) (ht : types = bif into == 3 then 2 else 0) : S.YB a l into least most types = S.X8 a l into least most := by
  unfold S.YB S.X8
  rw [Yy (g' := S.Ys a l into least most)]
  intro i hi
  have ho : runN (S.Y0 l i) (.inl ()) 0 i = runN (S.Yf l i) (.inl ()) 0 i := Yy fun j hj => by
    unfold S.Y0 S.Yf
    simp only [U4 _ hj]
  unfold S.Qr S.Ys
  rw [ho]
  generalize runN (S.Yf l i) (.inl ()) 0 i = z
  generalize l.getD i default = x
  have ew : S.ZP x.G0 (if types < 1 then types else 1) types = !((((into == 3) && (x.G0 != 1)) && (x.G0 != 2)) || ((into != 3) && (x.G0 != 0))) := by
    subst ht
    unfold S.ZP
    rw [Bool.eq_iff_iff]
    cases h : into == 3 <;> simp [bne, h] <;> omega
  simp only [letS, Gv]
  rw [ZiN, ew, U3, U3, U3]
  generalize ((((into == 3) && (x.G0 != 1)) && (x.G0 != 2)) || ((into != 3) && (x.G0 != 0))) = t
  cases S.Zz x.WG 1 5 <;> cases x.WG == into <;> cases S.Zz x.Ks least most <;> cases S.Zz x.US 0 65535 <;> cases t <;> rfl
theorem Zic (a : Zf) : S.Y1 a = S.JL a := by
  unfold S.Y1 S.JL
  rw [ZfV a a.Yi.Zv 3 0 16777215 2 rfl, Yy (g' := S.Q4 a)]
  · rfl
  intro i hi
  have ho : runN (S.Yq a i) (.inl ()) 0 i = runN (S.Q3 a i) (.inl ()) 0 i := Yy fun j hj => by
    unfold S.Yq S.Q3
    simp only [U4 _ hj, ZfT]
  unfold S.YF S.Q4
  rw [ho]
  rfl
theorem ZiO (a : Zf) : S.Ye a = S.J8 a := by
  unfold S.Ye S.J8
  rw [ZfV a a.YC.Zv 4 1 15 0 rfl]
  rfl
theorem Zid (a : Zf) : S.Y2 a = S.J0 a := by
  unfold S.Y2 S.J0
  rw [Yy (g' := S.Q6 a)]
  intro i hi
  have ho : runN (S.Yr a i) (.inl ()) 0 i = runN (S.Q5 a i) (.inl ()) 0 i := Yy fun j hj => by
    unfold S.Yr S.Q5
    simp only [U4 _ hj]
  unfold S.YG S.Q6
  rw [ho]
  rfl
theorem Zj2 (a : Z4) : S.QE a = S.Q7 a := by
  unfold S.QE S.Q7
  rw [Yy (g := S.YJ a) (g' := S.Y5 a), Yy (g := S.YL a) (g' := S.Y7 a), Yy (g := S.YN a) (g' := S.Y9 a)]
  · intro i hi
    have ho : runN (S.YM a i) (.inl ()) 0 i = runN (S.Y8 a i) (.inl ()) 0 i := Yy fun j hj => by
      unfold S.YM S.Y8
      simp only [U4 _ hj]
    unfold S.YN S.Y9
    rw [ho]
    rfl
  · intro i hi
    have ho : runN (S.YK a i) (.inl ()) 0 i = runN (S.Y6 a i) (.inl ()) 0 i := Yy fun j hj => by
      unfold S.YK S.Y6
      simp only [U4 _ hj]
    unfold S.YL S.Y7
    rw [ho]
    rfl
  · intro i hi
    have hd : runN (S.Qt a i) (.inl ()) 0 i = _ := GI (β := Unit ⊕ Int) (fun k => ((a.Zt.getD k default).Zu == (a.Zt.getD i default).Zu) && (((a.Zt.getD k default).ZJ == (a.Zt.getD i default).ZJ) && true)) (.inr 4) (.inl ()) i
    have hc : S.Xn ((a.Zt.drop 0).take (i - 0)) (a.Zt.getD i default) = anyN (fun k => ((a.Zt.getD k default).Zu == (a.Zt.getD i default).Zu) && (((a.Zt.getD k default).ZJ == (a.Zt.getD i default).ZJ) && true)) i := by
      have hl : ((a.Zt.drop 0).take (i - 0)).length = i := by simp; omega
      have h1 := ZkN (fun k => ((a.Zt.getD i default).Zu == (((a.Zt.drop 0).take (i - 0)).getD k default).Zu) && (((a.Zt.getD i default).ZJ == (((a.Zt.drop 0).take (i - 0)).getD k default).ZJ) && true)) i
      refine Eq.trans ?_ (h1.trans (Zfm fun j hj => ?_))
      · unfold S.Xn S.XJ
        rw [hl]
        rfl
      · rw [U4 _ hj, BEq.comm (a := (a.Zt.getD i default).Zu), BEq.comm (a := (a.Zt.getD i default).ZJ)]
    unfold S.YJ S.Y5
    rw [hd, hc]
    simp only [letS, Zhg]
    cases S.YP (a.Zt.getD i default) with
    | false => rfl
    | true =>
      cases anyN _ i <;> rfl
theorem Zhi (a : Zf) (hs : a.Xb.Zl.length ≤ 100 ∧ a.Xb.Zt.length ≤ 100 ∧ a.Xb.Zr.length ≤ 100 ∧ a.Xb.Zo.length ≤ 100 ∧ a.Xb.Zv.length ≤ 100) : S.YO a = S.Jq a := by
  unfold S.YO S.Jq
  rw [Zid, Zj2, ZfV a a.Xb.Zv 5 0 16777215 0 rfl]
  have w (x : Int) (h1 : 0 ≤ x) (h2 : x ≤ 1000) : wr .i64 x = x := by unfold wr; exact IntWalk.i64_in _ (by omega)
  rw [w ((a.Xb.Zl.length : Int) + (a.Xb.Zt.length : Int)) (by omega) (by omega)]
  rw [w ((a.Xb.Zl.length : Int) + (a.Xb.Zt.length : Int) + (a.Xb.Zr.length : Int)) (by omega) (by omega)]
  rw [w ((a.Xb.Zl.length : Int) + (a.Xb.Zt.length : Int) + (a.Xb.Zr.length : Int) + (a.Xb.Zo.length : Int)) (by omega) (by omega)]
  rw [w ((a.Xb.Zl.length : Int) + (a.Xb.Zt.length : Int) + (a.Xb.Zr.length : Int) + (a.Xb.Zo.length : Int) + (a.Xb.Zv.length : Int)) (by omega) (by omega)]
  have e : (decide ((((a.Xb.Zl.length : Int) + (a.Xb.Zt.length : Int) + (a.Xb.Zr.length : Int)) + (a.Xb.Zo.length : Int)) + (a.Xb.Zv.length : Int) > 0)) =
      ((((decide ((a.Xb.Zl.length : Int) > 0) || decide ((a.Xb.Zt.length : Int) > 0)) || decide ((a.Xb.Zr.length : Int) > 0)) || decide ((a.Xb.Zo.length : Int) > 0)) || decide ((a.Xb.Zv.length : Int) > 0)) := by
    simp only [← Bool.decide_or]
    congr 1
    simp only [eq_iff_iff]
    omega
  rw [e]
  simp only [Bool.or_assoc]
  rfl
theorem Zgd (a : Zf) (hs : a.Xb.Zl.length ≤ 100 ∧ a.Xb.Zt.length ≤ 100 ∧ a.Xb.Zr.length ≤ 100 ∧ a.Xb.Zo.length ≤ 100 ∧ a.Xb.Zv.length ≤ 100) : S.QX a = S.QV a := by
  unfold S.QX S.QV
  simp only [letS]
  rw [ZfS, U3, ZdQ, Zf9, Zia, Zgb, ZfU, ZjZ, Zj1, Zic, ZiO, Zhi a hs]
  have h := ZkO [S.Jk a.Zc, S.QT a.Xk, S.JI a, S.QU a.XO, S.Qz a, S.V8 a, S.VF a, S.JL a, S.J8 a, S.Jq a]
  cases S.Je a.ZW with
  | false => rfl
  | true =>
    cases S.Zz a.GN 0 65535 with
    | false => rfl
    | true => exact h.symm
end Nv
