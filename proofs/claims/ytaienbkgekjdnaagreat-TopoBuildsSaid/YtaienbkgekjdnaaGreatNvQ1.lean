/- The program's check of a router is the reference's. -/
import Derived.Test.YtaienbkgekjdnaaGreatNvT1
import Derived.Test.YtaienbkgekjdnaaGreatNvLibB
namespace Nv
open Go
theorem G8 : (default : Bool) = false := rfl
theorem ZkF (c : Int) : S.V3 c = S.Vy c := by
  unfold S.V3 S.Vy
  rw [Bool.or_comm]
theorem ZhR (s : ByteArray) : S.Ww s = S.Jn s := by
  have e : S.Wj s = S.Wm s := by
    funext i
    unfold S.Wj S.Wm
    simp only [ZS, ZkF, S.Uu]
    cases S.Vy (JN s (i : Int)) <;> rfl
  unfold S.Ww S.Jn
  rw [e, ZkF]
theorem ZmX (a n : Int) : S.Y0 a n = S.Q7 a n := by
  unfold S.Y0 S.Q7
  simp only [ZS, S.J6, S.JO, S.VE]
  have e : (if 0 > (if 32 < n then 32 else n) then 0 else (if 32 < n then 32 else n)) = Ka n := by unfold Ka; split <;> split <;> (try split) <;> omega
  rw [e, Zje]
theorem ZhS (p q : ZL) : S.Vh p q = S.Vk p q := rfl
theorem ZjC (p : ZL) : S.QW p = S.YW p := rfl
theorem Gy (a b c : Int) : S.ZP a b c = S.Zz a b c := rfl
theorem ZkG (a : Zf) (n : ByteArray) : S.Qo a n = S.JV a n := rfl
theorem ZjD (a : Zf) (n : ByteArray) : S.Yt a n = S.QF a n := rfl
theorem Zly (a : Zf) (n : ByteArray) : S.Y4 a n = S.JJ a n := rfl
theorem ZqB (a : Zf) (n : ByteArray) : S.V4 a n = S.Un a n := rfl
theorem ZiK (a : Zf) (n : Int) : S.Vi a n = S.Ja a n := rfl
theorem Zff (a : Zf) : S.YO a = S.Ju a.Zc := by
  unfold S.YO S.Ju
  rw [YD (g' := S.QO a.Zc)]
  intro i hi
  unfold S.YE S.QO
  have hd : Xp (S.Jm a.Zc i) (.inl ()) 0 i = _ := Ko (β := Unit ⊕ Int) (fun k => YJ (a.Zc.getD k default).ZX (a.Zc.getD i default).ZX) (.inr 4) (.inl ()) i
  have ho : Xp (S.Ym a i) (.inl ()) 0 i = Xp (S.Qp a.Zc i) (.inl ()) 0 i := by
    refine YD fun j hj => ?_
    unfold S.Ym S.Qp
    simp only [GB _ hj, ZmX, ZhS]
  rw [hd, ho]
  have hx : decide (S.Qo a (a.Zc.getD i default).ZX < (i : Int)) = _ := ZaY (c := fun j => YJ (a.Zc.getD j default).ZX (a.Zc.getD i default).ZX) hi (Zas _)
  simp only [ZS]
  rw [hx, ZhR]
  cases S.Jn (a.Zc.getD i default).ZX with
  | false => rfl
  | true =>
    cases G9 _ i with
    | true => rfl
    | false =>
      simp only [Bool.not_true, cond_false, Sum.elim_inl, S.Qx, ZS, Gy]
      generalize Xp (S.Qp a.Zc i) _ 0 i = z
      generalize a.Zc.getD i default = x
      simp only [G8, bne]
      cases S.Zz x.ZJ 0 32 <;> cases S.Zz x.Xu 0 4094 <;> cases S.Zz x.Zau 0 2 <;> simp only [Bool.not_true, Bool.not_false, Bool.or_true, Bool.or_false, Bool.true_or, Bool.false_or, cond_true, cond_false]
      generalize (x.ZJ == 0 && _) = b1
      generalize (!(x.ZJ == 0) && _) = b2
      cases b1 <;> cases b2 <;> cases x.Yl <;> cases S.Zz x.J7 0 255 <;> cases S.Zz x.R1 1 65535 <;> cases x.J7 == 0 <;> cases x.R1 == 0 <;> rfl
theorem Zie (a : Zf) : S.YF a = S.Q1 a.Xm := by
  unfold S.YF S.Q1
  rw [YD (g' := S.Qs a.Xm)]
  intro i hi
  unfold S.Yr S.Qs
  have hd : Xp (S.QU a.Xm i) (.inl ()) 0 i = _ := Ko (β := Unit ⊕ Int) (fun k => YJ (a.Xm.getD k default).ZX (a.Xm.getD i default).ZX) (.inr 4) (.inl ()) i
  have ho : Xp (S.Yg a i) (.inl ()) 0 ((a.Xm.getD i default).XC).length = Xp (S.Qr a.Xm i) (.inl ()) 0 ((a.Xm.getD i default).XC).length := by
    refine YD fun j hj => ?_
    unfold S.Yg S.Qr S.Qz
    generalize ((a.Xm.getD i default).XC).getD j default = x
    simp only [ZS, ZjC]
    have e1 : decide (x.Zp.ZJ ≤ x.Zc5) = !decide (x.Zc5 < x.Zp.ZJ) := by simp [← Int.not_lt]
    have e2 : decide (x.Zc5 ≤ x.Zc6) = !decide (x.Zc6 < x.Zc5) := by simp [← Int.not_lt]
    have e3 : decide (x.Zc6 ≤ 32) = !decide (x.Zc6 > 32) := by simp [← Int.not_lt]
    rw [e1, e2, e3]
    cases S.YW x.Zp <;> cases decide (x.Zc5 < x.Zp.ZJ) <;> cases decide (x.Zc6 < x.Zc5) <;> cases decide (x.Zc6 > 32) <;> rfl
  rw [hd, ho]
  have hx : decide (S.Yt a (a.Xm.getD i default).ZX < (i : Int)) = _ := ZaY (c := fun j => YJ (a.Xm.getD j default).ZX (a.Xm.getD i default).ZX) hi (Zas _)
  simp only [ZS, S.YX]
  rw [hx, ZhR]
  cases S.Jn (a.Xm.getD i default).ZX with
  | false => rfl
  | true =>
    cases G9 _ i with
    | true => rfl
    | false =>
      simp only [Bool.not_true, cond_false, Sum.elim_inl]
      cases ((((a.Xm.getD i default).XC).length : Int) == 0) with
      | true => rfl
      | false =>
        cases (decide ((((a.Xm.getD i default).XC).length : Int) > 16)) <;> rfl
theorem Zif (x : Kq) : S.Q4 x = ((((S.Zz x.Gk (-1) 65535 && S.Zz x.W3 (-1) 16777215) && S.Zz x.Kr (-1) 65535) && S.Zz x.Gu (-1) 1000000) && S.Zz x.Gv 0 8) := by
  unfold S.Q4
  simp only [ZS, Gy, G8]
  cases S.Zz x.Gk (-1) 65535 <;> cases S.Zz x.W3 (-1) 16777215 <;> cases S.Zz x.Kr (-1) 65535 <;> cases S.Zz x.Gu (-1) 1000000 <;> cases S.Zz x.Gv 0 8 <;> rfl
theorem ZkH (a : Zf) : S.Y5 a = S.JU a := by
  unfold S.Y5 S.JU
  rw [YD (g' := S.Q9 a)]
  intro i hi
  unfold S.YL S.Q9
  have hd : Xp (S.JH a i) (.inl ()) 0 i = _ := Ko (β := Unit ⊕ Int) (fun k => YJ (a.Xa.getD k default).ZX (a.Xa.getD i default).ZX) (.inr 4) (.inl ()) i
  have ho : Xp (S.Yu a i) (.inl ()) 0 ((a.Xa.getD i default).Xn).length = Xp (S.Q8 a i) (.inl ()) 0 ((a.Xa.getD i default).Xn).length := by
    refine YD fun j hj => ?_
    unfold S.Yu S.Q8
    generalize ((a.Xa.getD i default).Xn).getD j default = x
    simp only [ZS, G8]
    rw [ZjD, Zif]
    generalize (!strEq x.QX (⟨#[]⟩ : ByteArray) && _ : Bool) = b
    cases b <;> cases S.Zz x.Gk (-1) 65535 <;> cases S.Zz x.W3 (-1) 16777215 <;> cases S.Zz x.Kr (-1) 65535 <;> cases S.Zz x.Gu (-1) 1000000 <;> cases S.Zz x.Gv 0 8 <;> rfl
  rw [hd, ho]
  have hx : decide (S.Y4 a (a.Xa.getD i default).ZX < (i : Int)) = _ := ZaY (c := fun j => YJ (a.Xa.getD j default).ZX (a.Xa.getD i default).ZX) hi (Zas _)
  simp only [ZS, S.YX]
  rw [hx, ZhR]
  cases S.Jn (a.Xa.getD i default).ZX with
  | false => rfl
  | true =>
    cases G9 _ i with
    | true => rfl
    | false =>
      simp only [Bool.not_true, cond_false, Sum.elim_inl]
      cases ((((a.Xa.getD i default).Xn).length : Int) == 0) with
      | true => rfl
      | false =>
        cases (decide ((((a.Xa.getD i default).Xn).length : Int) > 8)) <;> rfl
theorem Zqh (x : Zbt) : S.JS x = S.Vb x := by
  unfold S.JS S.Vb
  have e (p : J8) : S.QY p = S.Wn p := rfl
  simp only [ZS, Gy, G8, e, S.U8]
  generalize (Uc .and .u32 x.Zab.Zu x.Zab.GJ != 0) = b1
  generalize (Uc .and .u32 x.Zac.Zu x.Zac.GJ != 0) = b2
  generalize (x.Ye == 6 || x.Ye == 17) = b3
  generalize ((x.VB.GK == 0) && _) = b4
  generalize ((x.VC.GK == 0) && _) = b5
  cases S.Zz x.Ye (-1) 255 <;> cases b1 <;> cases b2 <;> cases S.Wn x.VB <;> cases S.Wn x.VC <;> cases b3 <;> cases b4 <;> cases b5 <;> rfl
theorem Zig (a : Zf) : S.JT a = S.Q2 a.XR := by
  unfold S.JT S.Q2
  rw [YD (g' := S.Qu a.XR)]
  intro i hi
  unfold S.Jj S.Qu
  have hd : Xp (S.QV a.XR i) (.inl ()) 0 i = _ := Ko (β := Unit ⊕ Int) (fun k => YJ (a.XR.getD k default).ZX (a.XR.getD i default).ZX) (.inr 4) (.inl ()) i
  have ho : Xp (S.QJ a i) (.inl ()) 0 ((a.XR.getD i default).XC).length = Xp (S.Qt a.XR i) (.inl ()) 0 ((a.XR.getD i default).XC).length := by
    refine YD fun j hj => ?_
    unfold S.QJ S.Qt
    simp only [ZS, Zqh]
  rw [hd, ho]
  have hx : decide (S.V4 a (a.XR.getD i default).ZX < (i : Int)) = _ := ZaY (c := fun j => YJ (a.XR.getD j default).ZX (a.XR.getD i default).ZX) hi (Zas _)
  simp only [ZS, S.YX]
  rw [hx, ZhR]
  cases S.Jn (a.XR.getD i default).ZX with
  | false => rfl
  | true =>
    cases G9 _ i with
    | true => rfl
    | false =>
      simp only [Bool.not_true, cond_false, Sum.elim_inl]
      cases ((((a.XR.getD i default).XC).length : Int) == 0) with
      | true => rfl
      | false =>
        cases (decide ((((a.XR.getD i default).XC).length : Int) > 16)) <;> rfl
theorem ZhT (a : Zf) : S.J9 a = S.QG a := by
  unfold S.J9 S.QG
  rw [YD (g' := S.Qb a)]
  intro i hi
  unfold S.JF S.Qb S.X6 S.Y1
  generalize a.Xf.getD i default = x
  simp only [ZS, G8, beq_self_eq_true, Zas, Bool.true_and, Bool.and_true, bne]
  rw [ZqB, Gy, Gy]
  cases x.J5 == 1 with
  | true =>
    simp only [cond_true]
    cases x.Qq == 0 <;> cases x.YA == 0 <;> simp only [Bool.not_true, Bool.not_false, Bool.true_and, Bool.false_and, Bool.and_true, Bool.and_false]
  | false =>
    simp only [cond_false]
    cases h2 : x.J5 == 2 with
    | true =>
      simp only [cond_true]
      cases x.GK == 0 <;> cases decide (x.GK ≤ x.Ks) <;> cases decide (wr .u32 (x.Ks - x.GK) < 8) <;> simp only [Bool.not_true, Bool.not_false, Bool.true_and, Bool.false_and, Bool.and_true, Bool.and_false]
    | false =>
      simp only [cond_false]
      cases x.J5 == 3 with
      | true => rfl
      | false => rfl
theorem ZmY (a : Zf) : S.Jk a = S.Wo a := rfl
theorem ZkI : (default : Int) = 0 := rfl
theorem ZmZ (x : Int) : decide (x ≥ 0) = !decide (x < 0) := by
  by_cases h : x < 0
  · have : ¬ x ≥ 0 := by omega
    simp [h, this]
  · have : x ≥ 0 := by omega
    simp [h, this]
theorem Zqi (x : Yf) : (Zjc (S.Y6 x) (fun s1 => s1) 0 3 (0) == 1) = (bif x.Vu == 0 then (bif YJ x.QI (⟨#[]⟩ : ByteArray) then x.VH else !x.VH) else (YJ x.QI (⟨#[]⟩ : ByteArray) && !x.VH)) := by
  simp only [Zjc, S.Y6, S.YK, List.getD_cons_zero, List.getD_cons_succ, bne]
  cases x.Vu == 0 <;> cases YJ x.QI (⟨#[]⟩ : ByteArray) <;> cases x.VH <;> rfl
theorem Zih (a : Zf) (x : Yf) : S.QE a x = ((((S.YW x.Zp && (bif x.Vu == 0 then (bif YJ x.QI (⟨#[]⟩ : ByteArray) then x.VH else !x.VH) else (YJ x.QI (⟨#[]⟩ : ByteArray) && !x.VH))) && ((x.Vu == 0) || decide (S.Ja a x.Vu < 0))) && S.Zz x.Xl 1 255) && S.Zz x.Gk 0 65535) := by
  unfold S.QE
  simp only [ZS, G8, ZkI]
  rw [Zqi, ZiK, ZjC, Gy, Gy]
  generalize (bif x.Vu == 0 then (bif YJ x.QI (⟨#[]⟩ : ByteArray) then x.VH else !x.VH) else (YJ x.QI (⟨#[]⟩ : ByteArray) && !x.VH)) = w
  cases S.YW x.Zp <;> cases w <;> cases x.Vu == 0 <;> cases S.Zz x.Xl 1 255 <;> cases S.Zz x.Gk 0 65535 <;> simp
theorem Zm0 (a : Zf) : S.QL a = S.VU a := by
  unfold S.QL S.VU
  rw [YD (g' := S.JW a)]
  intro i hi
  have ho : Xp (S.YP a i) (.inl ()) 0 i = Xp (S.Jv a i) (.inl ()) 0 i := YD fun j hj => by
    unfold S.YP S.Jv
    simp only [GB _ hj]
  unfold S.Qn S.JW S.Jz S.Jy S.Jx S.Jw S.Yz
  rw [ho]
  generalize Xp (S.Jv a i) (.inl ()) 0 i = z
  generalize a.Zq.getD i default = x
  have er : S.QE a (⟨x.Zp, x.Vu, x.QI, x.VH, x.Xl, x.Gk⟩ : Yf) = _ := Zih a x
  simp only [ZS, G8, ZkI]
  rw [er, ZkG]
  simp only [ZmZ, bne]
  have w1 : wr .i64 1 = 1 := rfl
  have w2 : wr .i64 2 = 2 := rfl
  have w3 : wr .i64 3 = 3 := rfl
  cases x.Vu == 0 <;> cases YJ x.QI (⟨#[]⟩ : ByteArray) <;> cases x.VH <;> cases S.YW x.Zp <;> cases S.Zz x.Xl 1 255 <;> cases S.Zz x.Gk 0 65535 <;> simp [w1, w2, w3]
theorem ZhU (a : Zf) (l : List YB) (into least most types : Int) (ht : types = bif into == 3 then 2 else 0) : S.YG a l into least most types = S.Yb a l into least most := by
  unfold S.YG S.Yb
  rw [YD (g' := S.Yx a l into least most)]
  intro i hi
  have ho : Xp (S.Y7 l i) (.inl ()) 0 i = Xp (S.Yi l i) (.inl ()) 0 i := YD fun j hj => by
    unfold S.Y7 S.Yi
    simp only [GB _ hj]
  unfold S.Qy S.Yx
  rw [ho]
  generalize Xp (S.Yi l i) (.inl ()) 0 i = z
  generalize l.getD i default = x
  have ew : S.ZP x.KG (if types < 1 then types else 1) types = !((((into == 3) && (x.KG != 1)) && (x.KG != 2)) || ((into != 3) && (x.KG != 0))) := by
    subst ht
    unfold S.ZP
    rw [Bool.eq_iff_iff]
    cases h : into == 3 <;> simp [bne, h] <;> omega
  simp only [ZS, G8]
  rw [Zly, ew, Gy, Gy, Gy]
  generalize ((((into == 3) && (x.KG != 1)) && (x.KG != 2)) || ((into != 3) && (x.KG != 0))) = t
  cases S.Zz x.WX 1 5 <;> cases x.WX == into <;> cases S.Zz x.Rj least most <;> cases S.Zz x.Gk 0 65535 <;> cases t <;> rfl
theorem ZkJ (a : Zf) : S.Y8 a = S.JX a := by
  unfold S.Y8 S.JX
  rw [ZhU a a.Yl.Zv 3 0 16777215 2 rfl, YD (g' := S.Jc a)]
  · rfl
  intro i hi
  have ho : Xp (S.Yv a i) (.inl ()) 0 i = Xp (S.Jb a i) (.inl ()) 0 i := YD fun j hj => by
    unfold S.Yv S.Jb
    simp only [GB _ hj, ZhS]
  unfold S.YM S.Jc
  rw [ho]
  rfl
theorem Zlz (a : Zf) : S.Yh a = S.Vl a := by
  unfold S.Yh S.Vl
  rw [ZhU a a.YH.Zv 4 1 15 0 rfl]
  rfl
theorem ZkK (a : Zf) : S.Y9 a = S.Vc a := by
  unfold S.Y9 S.Vc
  rw [YD (g' := S.Je a)]
  intro i hi
  have ho : Xp (S.Yw a i) (.inl ()) 0 i = Xp (S.Jd a i) (.inl ()) 0 i := YD fun j hj => by
    unfold S.Yw S.Jd
    simp only [GB _ hj]
  unfold S.YN S.Je
  rw [ho]
  rfl
theorem Zm1 (a : Z6) : S.QM a = S.Jf a := by
  unfold S.QM S.Jf
  rw [YD (g := S.YQ a) (g' := S.Qc a), YD (g := S.YS a) (g' := S.Qe a), YD (g := S.YU a) (g' := S.Qg a)]
  · intro i hi
    have ho : Xp (S.YT a i) (.inl ()) 0 i = Xp (S.Qf a i) (.inl ()) 0 i := YD fun j hj => by
      unfold S.YT S.Qf
      simp only [GB _ hj]
    unfold S.YU S.Qg
    rw [ho]
    rfl
  · intro i hi
    have ho : Xp (S.YR a i) (.inl ()) 0 i = Xp (S.Qd a i) (.inl ()) 0 i := YD fun j hj => by
      unfold S.YR S.Qd
      simp only [GB _ hj]
    unfold S.YS S.Qe
    rw [ho]
    rfl
  · intro i hi
    have hd : Xp (S.QA a i) (.inl ()) 0 i = _ := Ko (β := Unit ⊕ Int) (fun k => ((a.Zt.getD k default).Zu == (a.Zt.getD i default).Zu) && (((a.Zt.getD k default).ZJ == (a.Zt.getD i default).ZJ) && true)) (.inr 4) (.inl ()) i
    have hc : S.Xq ((a.Zt.drop 0).take (i - 0)) (a.Zt.getD i default) = G9 (fun k => ((a.Zt.getD k default).Zu == (a.Zt.getD i default).Zu) && (((a.Zt.getD k default).ZJ == (a.Zt.getD i default).ZJ) && true)) i := by
      have hl : ((a.Zt.drop 0).take (i - 0)).length = i := by simp; omega
      have h1 := ZnX (fun k => ((a.Zt.getD i default).Zu == (((a.Zt.drop 0).take (i - 0)).getD k default).Zu) && (((a.Zt.getD i default).ZJ == (((a.Zt.drop 0).take (i - 0)).getD k default).ZJ) && true)) i
      refine Eq.trans ?_ (h1.trans (Zhf fun j hj => ?_))
      · unfold S.Xq S.XM
        rw [hl]
        rfl
      · rw [GB _ hj, BEq.comm (a := (a.Zt.getD i default).Zu), BEq.comm (a := (a.Zt.getD i default).ZJ)]
    unfold S.YQ S.Qc
    rw [hd, hc]
    simp only [ZS, ZjC]
    cases S.YW (a.Zt.getD i default) with
    | false => rfl
    | true =>
      cases G9 _ i <;> rfl
theorem ZjE (a : Zf) (hs : a.Xd.Zl.length ≤ 100 ∧ a.Xd.Zt.length ≤ 100 ∧ a.Xd.Zr.length ≤ 100 ∧ a.Xd.Zo.length ≤ 100 ∧ a.Xd.Zv.length ≤ 100) : S.YV a = S.JA a := by
  unfold S.YV S.JA
  rw [ZkK, Zm1, ZhU a a.Xd.Zv 5 0 16777215 0 rfl]
  have w (x : Int) (h1 : 0 ≤ x) (h2 : x ≤ 1000) : wr .i64 x = x := by unfold wr; exact IntWalk.i64_in _ (by omega)
  rw [w ((a.Xd.Zl.length : Int) + (a.Xd.Zt.length : Int)) (by omega) (by omega)]
  rw [w ((a.Xd.Zl.length : Int) + (a.Xd.Zt.length : Int) + (a.Xd.Zr.length : Int)) (by omega) (by omega)]
  rw [w ((a.Xd.Zl.length : Int) + (a.Xd.Zt.length : Int) + (a.Xd.Zr.length : Int) + (a.Xd.Zo.length : Int)) (by omega) (by omega)]
  rw [w ((a.Xd.Zl.length : Int) + (a.Xd.Zt.length : Int) + (a.Xd.Zr.length : Int) + (a.Xd.Zo.length : Int) + (a.Xd.Zv.length : Int)) (by omega) (by omega)]
  have e : (decide ((((a.Xd.Zl.length : Int) + (a.Xd.Zt.length : Int) + (a.Xd.Zr.length : Int)) + (a.Xd.Zo.length : Int)) + (a.Xd.Zv.length : Int) > 0)) =
      ((((decide ((a.Xd.Zl.length : Int) > 0) || decide ((a.Xd.Zt.length : Int) > 0)) || decide ((a.Xd.Zr.length : Int) > 0)) || decide ((a.Xd.Zo.length : Int) > 0)) || decide ((a.Xd.Zv.length : Int) > 0)) := by
    simp only [← Bool.decide_or]
    congr 1
    simp only [eq_iff_iff]
    omega
  rw [e]
  simp only [Bool.or_assoc]
  rfl
theorem Zii (a : Zf) (hs : a.Xd.Zl.length ≤ 100 ∧ a.Xd.Zt.length ≤ 100 ∧ a.Xd.Zr.length ≤ 100 ∧ a.Xd.Zo.length ≤ 100 ∧ a.Xd.Zv.length ≤ 100) : S.Q5 a = S.Q3 a := by
  unfold S.Q5 S.Q3
  simp only [ZS]
  rw [ZhR, Gy, Zff, Zie, ZkH, Zig, ZhT, ZmY, Zm0, ZkJ, Zlz, ZjE a hs]
  have h := ZnY [S.Ju a.Zc, S.Q1 a.Xm, S.JU a, S.Q2 a.XR, S.QG a, S.Wo a, S.VU a, S.JX a, S.Vl a, S.JA a]
  cases S.Jn a.ZX with
  | false => rfl
  | true =>
    cases S.Zz a.Kt 0 65535 with
    | false => rfl
    | true => exact h.symm
end Nv
