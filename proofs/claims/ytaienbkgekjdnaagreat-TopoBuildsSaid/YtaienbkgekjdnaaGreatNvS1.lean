/- The fixed example: reckoned. -/
import Derived.Test.YtaienbkgekjdnaaGreatNvD1
import Derived.Test.YtaienbkgekjdnaaGreatNvLibB
import Derived.Test.YtaienbkgekjdnaaGreatNvTs
import Derived.Test.YtaienbkgekjdnaaGreatNvTe
import Derived.KernelRfl
set_option maxRecDepth 100000
namespace Nv
open Go
noncomputable def K.JO (a0 : Int) : Option Int :=
  some (if (if 32 < a0 then 32 else a0) > 0 then (if 32 < a0 then 32 else a0) else 0)
theorem ZeO (a0 : Int) : Ref (K.JO a0) (M.JO a0) := by
  unfold K.JO M.JO
  with_reducible repeat' (first | exact XV)
noncomputable def K.J6 (a0 : Int) : Option Int :=
  (K.JO a0).bind fun r1 => gd [decide (0 ≤ (wr .i64 (32 - r1)))] (some (wr .u32 (4294967295 * 2 ^ min (wr .i64 (32 - r1)).toNat 32)))
theorem Zkz (a0 : Int) : Ref (K.J6 a0) (M.J6 a0) := by
  unfold K.J6 M.J6
  with_reducible repeat' (first | exact XV | exact ZeO .. | refine J3 ?_ (fun _ => ?_) | refine WH ?_)
noncomputable def K.Y0 (a0 : Int) (a1 : Int) : Option ZL :=
  (K.J6 a1).bind fun r1 => (K.JO a1).bind fun r2 => some (⟨Uc .and .u32 a0 r1, r2⟩ : ZL)
theorem Zhy (a0 : Int) (a1 : Int) : Ref (K.Y0 a0 a1) (M.Y0 a0 a1) := by
  unfold K.Y0 M.Y0
  with_reducible repeat' (first | exact XV | exact ZeO .. | exact Zkz .. | refine J3 ?_ (fun _ => ?_))
noncomputable def K.Q6 (i : Int) (p : (List Zk) × (List (Z9 × Int)) × Int) (q : (List Zk) × (List (Z9 × Int)) × Int) : Option (((List Zk) × (List (Z9 × Int)) × Int) ⊕ ((List Zk) × (List (Z9 × Int)))) :=
  gd [decide (0 ≤ q.2.2), decide (q.2.2 < (q.1.length : Int)), decide (((q.1.getD (0 + q.2.2.toNat) default).Xh.length + 1) * 16 ≤ 140737488355328)] (some (.inl (q.1.set (0 + q.2.2.toNat) ⟨(q.1.getD (0 + q.2.2.toNat) default).Zp, (q.1.getD (0 + q.2.2.toNat) default).Xu, (q.1.getD (0 + q.2.2.toNat) default).Xh ++ [⟨i, p.2.2⟩]⟩, q.2.1, wr .i64 (p.2.2 + 1))))
theorem Zfv (i : Int) (p : (List Zk) × (List (Z9 × Int)) × Int) (q : (List Zk) × (List (Z9 × Int)) × Int) : Ref (K.Q6 i p q) (M.Q6 i p q) := by
  unfold K.Q6 M.Q6
  with_reducible repeat' (first | exact XV | refine WH ?_)
noncomputable def K.QZ (a0 : ZY) (i : Int) (p : (List Zk) × (List (Z9 × Int)) × Int) : Option (((List Zk) × (List (Z9 × Int)) × Int) ⊕ ((List Zk) × (List (Z9 × Int)))) :=
  bif decide (p.2.2 < (((a0.Zd.getD i.toNat default).Zc).length : Int)) then (gd [decide (0 ≤ p.2.2), decide (p.2.2 < (((a0.Zd.getD i.toNat default).Zc).length : Int))] (bif (((a0.Zd.getD i.toNat default).Zc.getD p.2.2.toNat default).ZJ == 0) || ((a0.Zd.getD i.toNat default).Zc.getD p.2.2.toNat default).R0 then (some (.inl (p.1, p.2.1, wr .i64 (p.2.2 + 1)))) else ((K.Y0 ((a0.Zd.getD i.toNat default).Zc.getD p.2.2.toNat default).Zu ((a0.Zd.getD i.toNat default).Zc.getD p.2.2.toNat default).ZJ).bind fun r => bif !(lkM (Vn ⟨r, ((a0.Zd.getD i.toNat default).Zc.getD p.2.2.toNat default).Xu⟩) p.2.1).2 then (gd [decide ((p.1.length + 1) * 48 ≤ 140737488355328)] (K.Q6 i p (p.1 ++ [⟨r, ((a0.Zd.getD i.toNat default).Zc.getD p.2.2.toNat default).Xu, []⟩], p.2.1 ++ [(⟨r, ((a0.Zd.getD i.toNat default).Zc.getD p.2.2.toNat default).Xu⟩, (p.1.length : Int))], (p.1.length : Int)))) else (K.Q6 i p (p.1, p.2.1, (lkM (Vn ⟨r, ((a0.Zd.getD i.toNat default).Zc.getD p.2.2.toNat default).Xu⟩) p.2.1).1))))) else (some (.inr (p.1, p.2.1)))
theorem ZeP (a0 : ZY) (i : Int) (p : (List Zk) × (List (Z9 × Int)) × Int) : Ref (K.QZ a0 i p) (M.QZ a0 i p) := by
  unfold K.QZ M.QZ
  with_reducible repeat' (first | exact XV | exact Zhy .. | exact Zfv .. | refine J3 ?_ (fun _ => ?_) | refine WH ?_ | refine Wf ?_ ?_)
noncomputable def K.Jt (a0 : ZY) (p : (List Zk) × (List (Z9 × Int)) × Int) : Option (((List Zk) × (List (Z9 × Int)) × Int) ⊕ (List Zk)) :=
  bif decide (p.2.2 < (a0.Zd.length : Int)) then (gd [decide (0 ≤ p.2.2), decide (p.2.2 < (a0.Zd.length : Int))] ((K8 1000 (K.QZ a0 p.2.2) (p.1, p.2.1, 0)).bind fun y => some (.inl (y.1, y.2, wr .i64 (p.2.2 + 1))))) else (some (.inr p.1))
theorem ZeQ (a0 : ZY) (p : (List Zk) × (List (Z9 × Int)) × Int) : Ref (K.Jt a0 p) (M.Jt a0 p) := by
  unfold K.Jt M.Jt
  with_reducible repeat' (first | exact XV | exact ZeP .. | refine J3 ?_ (fun _ => ?_) | refine WH ?_ | refine Wf ?_ ?_ | refine Gs (fun _ => ?_))
noncomputable def K.Wk (a0 : ZY) : Option (List Zk) :=
  (K8 1000 (K.Jt a0) ([], [], 0)).bind fun y => some y
theorem Zhz (a0 : ZY) : Ref (K.Wk a0) (M.Wk a0) := by
  unfold K.Wk M.Wk
  with_reducible repeat' (first | exact XV | exact ZeQ .. | refine J3 ?_ (fun _ => ?_) | refine Gs (fun _ => ?_))
noncomputable def K.QC (a0 : Int) : Option Bool :=
  some (a0 != a0)
theorem ZdW (a0 : Int) : Ref (K.QC a0) (M.QC a0) := by
  unfold K.QC M.QC
  with_reducible repeat' (first | exact XV)
noncomputable def K.QN (a0 : Int) (a1 : Int) : Option Int :=
  (K.QC a0).bind fun r1 => (K.QC a1).bind fun r2 => bif r1 then (bif r2 then (some 0) else (some (-1))) else (bif r2 then (some 1) else (bif decide (a0 < a1) then (some (-1)) else (bif decide (a0 > a1) then (some 1) else (some 0))))
theorem Zb8 (a0 : Int) (a1 : Int) : Ref (K.QN a0 a1) (M.QN a0 a1) := by
  unfold K.QN M.QN
  with_reducible repeat' (first | exact XV | exact ZdW .. | refine J3 ?_ (fun _ => ?_) | refine Wf ?_ ?_)
noncomputable def K.JZ (a0 : Int) : Option Bool :=
  some (a0 != a0)
theorem Zf9 (a0 : Int) : Ref (K.JZ a0) (M.JZ a0) := by
  unfold K.JZ M.JZ
  with_reducible repeat' (first | exact XV)
noncomputable def K.Q0 (a0 : Int) (a1 : Int) : Option Int :=
  (K.JZ a0).bind fun r1 => (K.JZ a1).bind fun r2 => bif r1 then (bif r2 then (some 0) else (some (-1))) else (bif r2 then (some 1) else (bif decide (a0 < a1) then (some (-1)) else (bif decide (a0 > a1) then (some 1) else (some 0))))
theorem R3 (a0 : Int) (a1 : Int) : Ref (K.Q0 a0 a1) (M.Q0 a0 a1) := by
  unfold K.Q0 M.Q0
  with_reducible repeat' (first | exact XV | exact Zf9 .. | refine J3 ?_ (fun _ => ?_) | refine Wf ?_ ?_)
noncomputable def K.Wl (a0 : ZL) (a1 : ZL) : Option Int :=
  (K.QN a0.Zu a1.Zu).bind fun r1 => bif r1 != 0 then (some r1) else ((K.Q0 a0.ZJ a1.ZJ).bind fun r2 => some r2)
theorem ZhA (a0 : ZL) (a1 : ZL) : Ref (K.Wl a0 a1) (M.Wl a0 a1) := by
  unfold K.Wl M.Wl
  with_reducible repeat' (first | exact XV | exact Zb8 .. | exact R3 .. | refine J3 ?_ (fun _ => ?_) | refine Wf ?_ ?_)
noncomputable def K.JG (a0 : List Int) (p1 : Int) : Option (Int ⊕ (Unit ⊕ Int)) :=
  bif decide (p1 < (a0.length : Int)) then (gd [decide (0 ≤ p1), decide (p1 < (a0.length : Int))] (bif (a0.getD p1.toNat default) != 0 then (some (.inr (.inr (a0.getD p1.toNat default)))) else (some (.inl (wr .i64 (p1 + 1)))))) else (some (.inr (.inl ())))
theorem Zga (a0 : List Int) (p1 : Int) : Ref (K.JG a0 p1) (M.JG a0 p1) := by
  unfold K.JG M.JG
  with_reducible repeat' (first | exact XV | refine WH ?_ | refine Wf ?_ ?_)
noncomputable def K.W4 (a0 : List Int) : Option Int :=
  (K8 1000 (K.JG a0) 0).bind fun y3 => Sum.elim (fun _ => some 0) (fun y5 => some y5) y3
theorem Zjq (a0 : List Int) : Ref (K.W4 a0) (M.W4 a0) := by
  unfold K.W4 M.W4
  with_reducible repeat' (first | exact XV | exact Zga .. | refine J3 ?_ (fun _ => ?_) | refine ZeB (fun _ => ?_) (fun _ => ?_) | refine Gs (fun _ => ?_))
noncomputable def K.VR (a0 : Zk) (a1 : Zk) : Option Int :=
  (K.Wl a0.Zp a1.Zp).bind fun r1 => (K.Q0 a0.Xu a1.Xu).bind fun r2 => (K.W4 ([r1, r2] : List Int)).bind fun r3 => some r3
theorem ZhB (a0 : Zk) (a1 : Zk) : Ref (K.VR a0 a1) (M.VR a0 a1) := by
  unfold K.VR M.VR
  with_reducible repeat' (first | exact XV | exact R3 .. | exact ZhA .. | exact Zjq .. | refine J3 ?_ (fun _ => ?_))
noncomputable def K.Xz (a0 : List Zk) : Option (List Zk) :=
  Zko K.VR a0
theorem WT (a0 : List Zk) : Ref (K.Xz a0) (M.Xz a0) := ZmE ZhB so_topo_Build_1
noncomputable def K.J0 (p5 : (List Int) × Int) (p7 : (List Int)) : Option (((List Int) × Int) ⊕ (List Int)) :=
  some (.inl (p7, wr .i64 (p5.2 + 1)))
theorem Zgb (p5 : (List Int) × Int) (p7 : (List Int)) : Ref (K.J0 p5 p7) (M.J0 p5 p7) := by
  unfold K.J0 M.J0
  with_reducible repeat' (first | exact XV)
noncomputable def K.Vj (r3 : (List Zk)) (p5 : (List Int) × Int) : Option (((List Int) × Int) ⊕ (List Int)) :=
  bif decide (p5.2 < (r3.length : Int)) then (gd [decide (0 ≤ p5.2), decide (p5.2 < (r3.length : Int))] (bif decide ((((r3.getD p5.2.toNat default).Xh).length : Int) ≥ 2) then (gd [decide ((p5.1.length + 1) * 8 ≤ 140737488355328)] (K.J0 p5 (p5.1 ++ [p5.2]))) else (K.J0 p5 p5.1))) else (some (.inr p5.1))
theorem Zgc (r3 : (List Zk)) (p5 : (List Int) × Int) : Ref (K.Vj r3 p5) (M.Vj r3 p5) := by
  unfold K.Vj M.Vj
  with_reducible repeat' (first | exact XV | exact Zgb .. | refine WH ?_ | refine Wf ?_ ?_)
noncomputable def K.Wx (a0 : ZY) : Option (QB × Int) :=
  (K.QS a0).bind fun r1 => bif r1 != 0 then (some ((⟨([] : List Zk), ([] : List Int)⟩ : QB), r1)) else ((K.Wk a0).bind fun r2 => (K.Xz r2).bind fun r3 => gd [decide (r3.length = r2.length)] ((K8 1000 (K.Vj r3) (([] : List Int), 0)).bind fun y8 => bif decide ((y8.length : Int) > 12) then (some ((⟨([] : List Zk), ([] : List Int)⟩ : QB), 7)) else (some ((⟨r3, y8⟩ : QB), 0))))
theorem Zjr (a0 : ZY) : Ref (K.Wx a0) (M.Wx a0) := by
  unfold K.Wx M.Wx
  with_reducible repeat' (first | exact XV | exact k_model_Check .. | exact Zhz .. | exact WT .. | exact Zgc .. | refine J3 ?_ (fun _ => ?_) | refine WH ?_ | refine Wf ?_ ?_ | refine Gs (fun _ => ?_))
noncomputable def K.Ua  : Option ZY :=
  some (⟨([(⟨(⟨#[97]⟩ : ByteArray), 0, ([(⟨(⟨#[101, 48]⟩ : ByteArray), 167772161, 24, 0, false, false, 0, 0, false, (⟨#[]⟩ : ByteArray), (⟨#[]⟩ : ByteArray), 0⟩ : Zy)] : List Zy), ([] : List Z3), ([] : List X4), ([] : List WU), ([] : List YZ), ([] : List Yf), (⟨false, 0, ([] : List Wg), ([] : List YB)⟩ : Wv), (⟨false, 0, (⟨#[]⟩ : ByteArray), (⟨#[]⟩ : ByteArray), ([] : List YB)⟩ : QD), (⟨false, 0, 0, ([] : List VD), ([] : List ZL), ([] : List Wh), ([] : List Wi), ([] : List YB)⟩ : Z6)⟩ : Zf), (⟨(⟨#[98]⟩ : ByteArray), 0, ([(⟨(⟨#[101, 48]⟩ : ByteArray), 167772162, 24, 0, false, false, 0, 0, false, (⟨#[]⟩ : ByteArray), (⟨#[]⟩ : ByteArray), 0⟩ : Zy), (⟨(⟨#[101, 49]⟩ : ByteArray), 167772418, 24, 0, false, false, 0, 0, false, (⟨#[]⟩ : ByteArray), (⟨#[]⟩ : ByteArray), 0⟩ : Zy)] : List Zy), ([] : List Z3), ([] : List X4), ([] : List WU), ([] : List YZ), ([] : List Yf), (⟨false, 0, ([] : List Wg), ([] : List YB)⟩ : Wv), (⟨false, 0, (⟨#[]⟩ : ByteArray), (⟨#[]⟩ : ByteArray), ([] : List YB)⟩ : QD), (⟨false, 0, 0, ([] : List VD), ([] : List ZL), ([] : List Wh), ([] : List Wi), ([] : List YB)⟩ : Z6)⟩ : Zf)] : List Zf)⟩ : ZY)
theorem Zjs  : Ref (K.Ua) (M.Ua) := by
  unfold K.Ua M.Ua
  with_reducible repeat' (first | exact XV)
noncomputable def K.X0 (a0 : List Zf) : Option (List Zf) :=
  gd [decide (0 = 0) || decide (0 < a0.length), decide ((0 + a0.length) * 448 ≤ 140737488355328)] (some a0)
theorem GM (a0 : List Zf) : Ref (K.X0 a0) (M.X0 a0) := by
  unfold K.X0 M.X0
  with_reducible repeat' (first | exact XV | refine WH ?_)
noncomputable def K.XD (a0 : List Zy) : Option (List Zy) :=
  gd [decide (0 = 0) || decide (0 < a0.length), decide ((0 + a0.length) * 112 ≤ 140737488355328)] (some a0)
theorem UZ (a0 : List Zy) : Ref (K.XD a0) (M.XD a0) := by
  unfold K.XD M.XD
  with_reducible repeat' (first | exact XV | refine WH ?_)
noncomputable def K.Xy (a0 : List Z3) : Option (List Z3) :=
  gd [decide (0 = 0) || decide (0 < a0.length), decide ((0 + a0.length) * 40 ≤ 140737488355328)] (some a0)
theorem UO (a0 : List Z3) : Ref (K.Xy a0) (M.Xy a0) := by
  unfold K.Xy M.Xy
  with_reducible repeat' (first | exact XV | refine WH ?_)
noncomputable def K.XK (a0 : List X4) : Option (List X4) :=
  gd [decide (0 = 0) || decide (0 < a0.length), decide ((0 + a0.length) * 40 ≤ 140737488355328)] (some a0)
theorem Gd (a0 : List X4) : Ref (K.XK a0) (M.XK a0) := by
  unfold K.XK M.XK
  with_reducible repeat' (first | exact XV | refine WH ?_)
noncomputable def K.Yp (a0 : List WU) : Option (List WU) :=
  gd [decide (0 = 0) || decide (0 < a0.length), decide ((0 + a0.length) * 40 ≤ 140737488355328)] (some a0)
theorem KI (a0 : List WU) : Ref (K.Yp a0) (M.Yp a0) := by
  unfold K.Yp M.Yp
  with_reducible repeat' (first | exact XV | refine WH ?_)
noncomputable def K.Xr (a0 : List YZ) : Option (List YZ) :=
  gd [decide (0 = 0) || decide (0 < a0.length), decide ((0 + a0.length) * 64 ≤ 140737488355328)] (some a0)
theorem Uv (a0 : List YZ) : Ref (K.Xr a0) (M.Xr a0) := by
  unfold K.Xr M.Xr
  with_reducible repeat' (first | exact XV | refine WH ?_)
noncomputable def K.Xs (a0 : List Yf) : Option (List Yf) :=
  gd [decide (0 = 0) || decide (0 < a0.length), decide ((0 + a0.length) * 64 ≤ 140737488355328)] (some a0)
theorem Uw (a0 : List Yf) : Ref (K.Xs a0) (M.Xs a0) := by
  unfold K.Xs M.Xs
  with_reducible repeat' (first | exact XV | refine WH ?_)
noncomputable def K.XE (a0 : List Wg) : Option (List Wg) :=
  gd [decide (0 = 0) || decide (0 < a0.length), decide ((0 + a0.length) * 24 ≤ 140737488355328)] (some a0)
theorem U0 (a0 : List Wg) : Ref (K.XE a0) (M.XE a0) := by
  unfold K.XE M.XE
  with_reducible repeat' (first | exact XV | refine WH ?_)
noncomputable def K.Xk (a0 : List YB) : Option (List YB) :=
  gd [decide (0 = 0) || decide (0 < a0.length), decide ((0 + a0.length) * 48 ≤ 140737488355328)] (some a0)
theorem GN (a0 : List YB) : Ref (K.Xk a0) (M.Xk a0) := by
  unfold K.Xk M.Xk
  with_reducible repeat' (first | exact XV | refine WH ?_)
noncomputable def K.XL (a0 : List VD) : Option (List VD) :=
  gd [decide (0 = 0) || decide (0 < a0.length), decide ((0 + a0.length) * 48 ≤ 140737488355328)] (some a0)
theorem Ge (a0 : List VD) : Ref (K.XL a0) (M.XL a0) := by
  unfold K.XL M.XL
  with_reducible repeat' (first | exact XV | refine WH ?_)
noncomputable def K.X1 (a0 : List ZL) : Option (List ZL) :=
  gd [decide (0 = 0) || decide (0 < a0.length), decide ((0 + a0.length) * 16 ≤ 140737488355328)] (some a0)
theorem GO (a0 : List ZL) : Ref (K.X1 a0) (M.X1 a0) := by
  unfold K.X1 M.X1
  with_reducible repeat' (first | exact XV | refine WH ?_)
noncomputable def K.XF (a0 : List Wh) : Option (List Wh) :=
  gd [decide (0 = 0) || decide (0 < a0.length), decide ((0 + a0.length) * 24 ≤ 140737488355328)] (some a0)
theorem U1 (a0 : List Wh) : Ref (K.XF a0) (M.XF a0) := by
  unfold K.XF M.XF
  with_reducible repeat' (first | exact XV | refine WH ?_)
noncomputable def K.XG (a0 : List Wi) : Option (List Wi) :=
  gd [decide (0 = 0) || decide (0 < a0.length), decide ((0 + a0.length) * 40 ≤ 140737488355328)] (some a0)
theorem U2 (a0 : List Wi) : Ref (K.XG a0) (M.XG a0) := by
  unfold K.XG M.XG
  with_reducible repeat' (first | exact XV | refine WH ?_)
noncomputable def K.Vd (r2 : (List Z3)) (p3 : Int) : Option (Int ⊕ Unit) :=
  bif decide (p3 < (r2.length : Int)) then none else (some (.inr ()))
theorem Zb9 (r2 : (List Z3)) (p3 : Int) : Ref (K.Vd r2 p3) (M.Vd r2 p3) := by
  unfold K.Vd M.Vd
  with_reducible repeat' (first | exact XV | exact KS | refine Wf ?_ ?_)
noncomputable def K.Ve (r6 : (List X4)) (p7 : Int) : Option (Int ⊕ Unit) :=
  bif decide (p7 < (r6.length : Int)) then none else (some (.inr ()))
theorem Zca (r6 : (List X4)) (p7 : Int) : Ref (K.Ve r6 p7) (M.Ve r6 p7) := by
  unfold K.Ve M.Ve
  with_reducible repeat' (first | exact XV | exact KS | refine Wf ?_ ?_)
noncomputable def K.Vf (r10 : (List WU)) (p11 : Int) : Option (Int ⊕ Unit) :=
  bif decide (p11 < (r10.length : Int)) then none else (some (.inr ()))
theorem Zcb (r10 : (List WU)) (p11 : Int) : Ref (K.Vf r10 p11) (M.Vf r10 p11) := by
  unfold K.Vf M.Vf
  with_reducible repeat' (first | exact XV | exact KS | refine Wf ?_ ?_)
noncomputable def K.VV (a0 : Zf) : Option Zf :=
  (K.XD a0.Zc).bind fun r1 => (K.Xy a0.Xm).bind fun r2 => (K8 1000 (K.Vd r2) 0).bind fun y5 => (K.XK a0.Xa).bind fun r6 => (K8 1000 (K.Ve r6) 0).bind fun y9 => (K.Yp a0.XR).bind fun r10 => (K8 1000 (K.Vf r10) 0).bind fun y13 => (K.Xr a0.Xf).bind fun r14 => (K.Xs a0.Zq).bind fun r15 => (K.XE a0.Yl.ZK).bind fun r16 => (K.Xk a0.Yl.Zv).bind fun r17 => (K.Xk a0.YH.Zv).bind fun r18 => (K.XL a0.Xd.Zl).bind fun r19 => (K.X1 a0.Xd.Zt).bind fun r20 => (K.XF a0.Xd.Zr).bind fun r21 => (K.XG a0.Xd.Zo).bind fun r22 => (K.Xk a0.Xd.Zv).bind fun r23 => some (⟨a0.ZX, a0.Kt, r1, r2, r6, r10, r14, r15, (⟨a0.Yl.WI, a0.Yl.Xl, r16, r17⟩ : Wv), (⟨a0.YH.WI, a0.YH.Xl, a0.YH.V7, a0.YH.Y2, r18⟩ : QD), (⟨a0.Xd.WI, a0.Xd.X7, a0.Xd.X8, r19, r20, r21, r22, r23⟩ : Z6)⟩ : Zf)
theorem ZeR (a0 : Zf) : Ref (K.VV a0) (M.VV a0) := by
  unfold K.VV M.VV
  with_reducible repeat' (first | exact XV | exact UZ .. | exact UO .. | exact Gd .. | exact KI .. | exact Uv .. | exact Uw .. | exact U0 .. | exact GN .. | exact Ge .. | exact GO .. | exact U1 .. | exact U2 .. | exact Zb9 .. | exact Zca .. | exact Zcb .. | refine J3 ?_ (fun _ => ?_) | refine Gs (fun _ => ?_))
noncomputable def K.J2 (r1 : (List Zf)) (p2 : (List Zf) × Int) : Option (((List Zf) × Int) ⊕ (List Zf)) :=
  bif decide (p2.2 < (r1.length : Int)) then ((K.VV (p2.1.getD (0 + p2.2.toNat) default)).bind fun r4 => gd [decide (0 ≤ p2.2), decide (p2.2 < (p2.1.length : Int)), decide (0 ≤ p2.2), decide (p2.2 < (p2.1.length : Int))] (some (.inl (p2.1.set (0 + p2.2.toNat) r4, wr .i64 (p2.2 + 1))))) else (some (.inr p2.1))
theorem ZbA (r1 : (List Zf)) (p2 : (List Zf) × Int) : Ref (K.J2 r1 p2) (M.J2 r1 p2) := by
  unfold K.J2 M.J2
  with_reducible repeat' (first | exact XV | exact ZeR .. | refine J3 ?_ (fun _ => ?_) | refine WH ?_ | refine Wf ?_ ?_)
noncomputable def K.Vq (a0 : ZY) : Option ZY :=
  (K.X0 a0.Zd).bind fun r1 => (K8 1000 (K.J2 r1) (r1, 0)).bind fun y5 => some (⟨y5⟩ : ZY)
theorem ZdX (a0 : ZY) : Ref (K.Vq a0) (M.Vq a0) := by
  unfold K.Vq M.Vq
  with_reducible repeat' (first | exact XV | exact GM .. | exact ZbA .. | refine J3 ?_ (fun _ => ?_) | refine Gs (fun _ => ?_))
noncomputable def K.Jg (a0 : List Int) : Option (List Int) :=
  gd [decide (0 = 0) || decide (0 < a0.length), decide ((0 + a0.length) * 8 ≤ 140737488355328)] (some a0)
theorem Za3 (a0 : List Int) : Ref (K.Jg a0) (M.Jg a0) := by
  unfold K.Jg M.Jg
  with_reducible repeat' (first | exact XV | refine WH ?_)
noncomputable def K.Uo (a1 : List Int) (r1 : QB × Int) (p2 : Int) : Option (Int ⊕ Unit) :=
  bif decide (p2 < (a1.length : Int)) then (gd [decide (0 ≤ p2), decide (p2 < (a1.length : Int))] (gd [Ys ((!((decide ((a1.getD p2.toNat default) < 0)) || (decide ((a1.getD p2.toNat default) ≥ (r1.1.WP.length : Int))))) && (decide (p2 > 0))) (decide (0 ≤ (wr .i64 (p2 - 1)))), Ys ((!((decide ((a1.getD p2.toNat default) < 0)) || (decide ((a1.getD p2.toNat default) ≥ (r1.1.WP.length : Int))))) && (decide (p2 > 0))) (decide ((wr .i64 (p2 - 1)) < (a1.length : Int)))] (bif ((decide ((a1.getD p2.toNat default) < 0)) || (decide ((a1.getD p2.toNat default) ≥ (r1.1.WP.length : Int)))) || ((decide (p2 > 0)) && (decide ((a1.getD p2.toNat default) ≤ (a1.getD (wr .i64 (p2 - 1)).toNat default)))) then none else (some (.inl (wr .i64 (p2 + 1))))))) else (some (.inr ()))
theorem ZhC (a1 : List Int) (r1 : QB × Int) (p2 : Int) : Ref (K.Uo a1 r1 p2) (M.Uo a1 r1 p2) := by
  unfold K.Uo M.Uo
  with_reducible repeat' (first | exact XV | exact KS | refine WH ?_ | refine Wf ?_ ?_)
noncomputable def K.UN (a0 : ZY) (a1 : List Int) : Option (GS × Int) :=
  (K.Wx a0).bind fun r1 => bif r1.2 != 0 then none else (bif decide ((a1.length : Int) > 2) then none else ((K8 1000 (K.Uo a1 r1) 0).bind fun y4 => (K.Vq a0).bind fun r5 => (K.Jg a1).bind fun r6 => some ((⟨r5, r1.1, r6⟩ : GS), 0)))
theorem ZkA (a0 : ZY) (a1 : List Int) : Ref (K.UN a0 a1) (M.UN a0 a1) := by
  unfold K.UN M.UN
  with_reducible repeat' (first | exact XV | exact KS | exact Zjr .. | exact ZdX .. | exact Za3 .. | exact ZhC .. | refine J3 ?_ (fun _ => ?_) | refine Wf ?_ ?_ | refine Gs (fun _ => ?_))
noncomputable def K.Yo (a0 : List V9) (a1 : V9) (p1 : Int) : Option (Int ⊕ (Unit ⊕ Int)) :=
  bif decide (p1 < (a0.length : Int)) then (gd [decide (0 ≤ p1), decide (p1 < (a0.length : Int))] (bif ((a1.KO == ((a0.getD p1.toNat default).KO)) && ((a1.QI == ((a0.getD p1.toNat default).QI)) && true)) then (some (.inr (.inr p1))) else (some (.inl (wr .i64 (p1 + 1)))))) else (some (.inr (.inl ())))
theorem Kb (a0 : List V9) (a1 : V9) (p1 : Int) : Ref (K.Yo a0 a1 p1) (M.Yo a0 a1 p1) := by
  unfold K.Yo M.Yo
  with_reducible repeat' (first | exact XV | refine WH ?_ | refine Wf ?_ ?_)
noncomputable def K.Yq (a0 : List V9) (a1 : V9) : Option Int :=
  (K8 1000 (K.Yo a0 a1) 0).bind fun y3 => Sum.elim (fun _ => some (-1)) (fun y5 => some y5) y3
theorem KJ (a0 : List V9) (a1 : V9) : Ref (K.Yq a0 a1) (M.Yq a0 a1) := by
  unfold K.Yq M.Yq
  with_reducible repeat' (first | exact XV | exact Kb .. | refine J3 ?_ (fun _ => ?_) | refine ZeB (fun _ => ?_) (fun _ => ?_) | refine Gs (fun _ => ?_))
noncomputable def K.Ya (a0 : List V9) (a1 : V9) : Option Bool :=
  (K.Yq a0 a1).bind fun r1 => some (decide (r1 ≥ 0))
theorem Kc (a0 : List V9) (a1 : V9) : Ref (K.Ya a0 a1) (M.Ya a0 a1) := by
  unfold K.Ya M.Ya
  with_reducible repeat' (first | exact XV | exact KJ .. | refine J3 ?_ (fun _ => ?_))
noncomputable def K.WM (a0 : GS) (a1 : Int) (a2 : Int) (p1 : Int) : Option (Int ⊕ (Unit ⊕ Int)) :=
  bif decide (p1 < (a0.UA.XW.length : Int)) then (gd [decide (0 ≤ p1), decide (p1 < (a0.UA.XW.length : Int))] ((K.Ya ((a0.UA.XW.getD p1.toNat default).Xh) (⟨a1, a2⟩ : V9)).bind fun r3 => bif r3 then (some (.inr (.inr p1))) else (some (.inl (wr .i64 (p1 + 1)))))) else (some (.inr (.inl ())))
theorem Zfw (a0 : GS) (a1 : Int) (a2 : Int) (p1 : Int) : Ref (K.WM a0 a1 a2 p1) (M.WM a0 a1 a2 p1) := by
  unfold K.WM M.WM
  with_reducible repeat' (first | exact XV | exact Kc .. | refine J3 ?_ (fun _ => ?_) | refine WH ?_ | refine Wf ?_ ?_)
noncomputable def K.WN (a0 : GS) (a1 : Int) (a2 : Int) : Option Int :=
  (K8 1000 (K.WM a0 a1 a2) 0).bind fun y4 => Sum.elim (fun _ => none) (fun y6 => some y6) y4
theorem Zdy (a0 : GS) (a1 : Int) (a2 : Int) : Ref (K.WN a0 a1 a2) (M.WN a0 a1 a2) := by
  unfold K.WN M.WN
  with_reducible repeat' (first | exact XV | exact KS | exact Zfw .. | refine J3 ?_ (fun _ => ?_) | refine ZeB (fun _ => ?_) (fun _ => ?_) | refine Gs (fun _ => ?_))
noncomputable def K.QT (a0 : List Int) (a1 : Int) (p1 : Int) : Option (Int ⊕ (Unit ⊕ Int)) :=
  bif decide (p1 < (a0.length : Int)) then (gd [decide (0 ≤ p1), decide (p1 < (a0.length : Int))] (bif a1 == (a0.getD p1.toNat default) then (some (.inr (.inr p1))) else (some (.inl (wr .i64 (p1 + 1)))))) else (some (.inr (.inl ())))
theorem RI (a0 : List Int) (a1 : Int) (p1 : Int) : Ref (K.QT a0 a1 p1) (M.QT a0 a1 p1) := by
  unfold K.QT M.QT
  with_reducible repeat' (first | exact XV | refine WH ?_ | refine Wf ?_ ?_)
noncomputable def K.Qh (a0 : List Int) (a1 : Int) : Option Int :=
  (K8 1000 (K.QT a0 a1) 0).bind fun y3 => Sum.elim (fun _ => some (-1)) (fun y5 => some y5) y3
theorem Kv (a0 : List Int) (a1 : Int) : Ref (K.Qh a0 a1) (M.Qh a0 a1) := by
  unfold K.Qh M.Qh
  with_reducible repeat' (first | exact XV | exact RI .. | refine J3 ?_ (fun _ => ?_) | refine ZeB (fun _ => ?_) (fun _ => ?_) | refine Gs (fun _ => ?_))
noncomputable def K.GC (a0 : GS) (a1 : Int) (a2 : Int) : Option Int :=
  (K.WN a0 a1 a2).bind fun r1 => bif decide (r1 < 0) then none else ((K.Qh a0.UA.WP r1).bind fun r2 => some r2)
theorem ZkB (a0 : GS) (a1 : Int) (a2 : Int) : Ref (K.GC a0 a1 a2) (M.GC a0 a1 a2) := by
  unfold K.GC M.GC
  with_reducible repeat' (first | exact XV | exact KS | exact Zdy .. | exact Kv .. | refine J3 ?_ (fun _ => ?_) | refine Wf ?_ ?_)
noncomputable def K.Qm (a0 : List Int) (a1 : Int) : Option Bool :=
  (K.Qh a0 a1).bind fun r1 => some (decide (r1 ≥ 0))
theorem RJ (a0 : List Int) (a1 : Int) : Ref (K.Qm a0 a1) (M.Qm a0 a1) := by
  unfold K.Qm M.Qm
  with_reducible repeat' (first | exact XV | exact Kv .. | refine J3 ?_ (fun _ => ?_))
noncomputable def K.GD (a0 : GS) (a1 : Int) (a2 : Int) : Option Bool :=
  (K.WN a0 a1 a2).bind fun r1 => bif decide (r1 < 0) then none else ((K.GC a0 a1 a2).bind fun r2 => (gc (!(decide (r2 < 0))) (K.Qm a0.R0 r2)).bind fun r3 => some ((decide (r2 < 0)) || (!r3)))
theorem ZmJ (a0 : GS) (a1 : Int) (a2 : Int) : Ref (K.GD a0 a1 a2) (M.GD a0 a1 a2) := by
  unfold K.GD M.GD
  with_reducible repeat' (first | exact XV | exact KS | exact Zdy .. | exact ZkB .. | exact RJ .. | refine J3 ?_ (fun _ => ?_) | refine ZnR ?_ | refine Wf ?_ ?_)
noncomputable def K.UY  : Option Bool :=
  (K.Ua).bind fun r1 => (K.UN r1 ([] : List Int)).bind fun r2 => (K.Ua).bind fun r3 => (K.UN r3 ([0] : List Int)).bind fun r4 => (gc ((((r2.2 == 0) && (r4.2 == 0)) && ((r2.1.UA.XW.length : Int) == 2)) && ((r2.1.UA.WP.length : Int) == 1)) (K.GD r2.1 0 0)).bind fun r5 => (gc (((((r2.2 == 0) && (r4.2 == 0)) && ((r2.1.UA.XW.length : Int) == 2)) && ((r2.1.UA.WP.length : Int) == 1)) && r5) (K.GD r4.1 0 0)).bind fun r6 => (gc ((((((r2.2 == 0) && (r4.2 == 0)) && ((r2.1.UA.XW.length : Int) == 2)) && ((r2.1.UA.WP.length : Int) == 1)) && r5) && (!r6)) (K.GD r4.1 1 1)).bind fun r7 => some (((((((r2.2 == 0) && (r4.2 == 0)) && ((r2.1.UA.XW.length : Int) == 2)) && ((r2.1.UA.WP.length : Int) == 1)) && r5) && (!r6)) && r7)
theorem Zjt  : Ref (K.UY) (M.UY) := by
  unfold K.UY M.UY
  with_reducible repeat' (first | exact XV | exact Zjs .. | exact ZkA .. | exact ZmJ .. | refine J3 ?_ (fun _ => ?_) | refine ZnR ?_)
theorem ZiH : M.UY = some true := Zjt _ (by kernel_rfl)
end Nv
