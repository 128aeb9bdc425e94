/- The plain law of TopoMakes. No condition but the bounds of what comes in. -/
import Derived.Test.YtaienbkgekjdnaaGreatNvToB
import Derived.Test.YtaienbkgekjdnaaGreatNvT2
import Derived.Test.YtaienbkgekjdnaaGreatNvLW
set_option maxRecDepth 100000
namespace Nv
open Go Go.Sort Go.Proofs
theorem ZmI {α : Type} [Inhabited α] (l : List α) (i : Nat) : l.set i (l.getD i default) = l := by
 apply List.ext_getElem (by simp)
 intro j h1 h2
 rw [List.getElem_set]
 split
 ·rename_i h; subst h
  rw [List.getD_eq_getElem?_getD,List.getElem?_eq_getElem h2]; rfl
 ·rfl
theorem ZcS {α : Type} [Inhabited α] {f : List α × Int → Option ((List α × Int) ⊕ List α)} {l : List α} (hl : l.length ≤ 1000000000) (step : ∀ i : Nat,i < l.length → f (l,(i : Int)) = some (.inl (l.set i (l.getD i default),((i + 1 : Nat) : Int)))) (out : f (l,(l.length : Int)) = some (.inr l)) : loopM f (l,0) = some l := by
 obtain ⟨y,h1,h2⟩ := GL (f := f) (σ := Unit) (fun i _ => (l,(i : Int))) l.length (fun _ _ => True) (fun y => y = l) (fun i _ hi _ => .inl ⟨(),by rw [step i hi,ZmI],trivial⟩) (fun _ _ => ⟨l,out,rfl⟩) l.length 0 () (by omega) trivial
 rw [← h2]
 rw [← h2] at h1
 exact h1
theorem Wp {α : Type} {l : List α} {b : Nat} (h : l.length * b ≤ 140737488355328) : gd [decide (0 = 0) || decide (0 < l.length),decide ((0 + l.length) * b ≤ 140737488355328)] (some l) = some l :=
 Yx (Zw (by simp) (Zw (dt (by rw [Nat.zero_add]; exact h)) XR)) rfl
theorem rb {n : Nat} (h : n ≤ reachBytes) : n ≤ 140737488355328 := Nat.le_trans h (by decide)
theorem Zjo {r : Zf} (w : ZcQ r) (s : SmallR r) : M.J0 r = some r := by
 obtain ⟨wn,wa,wi,wl,wm,wc,wt,ws,wls,wdv,wpv⟩ := w
 have c1 : M.XA r.Zc = some r.Zc := Wp (rb wi.2.1)
 have c2 : M.Xv r.Z1 = some r.Z1 := Wp (rb wl.2.1)
 have c3 : M.XL r.ZR = some r.ZR := Wp (rb wm.2.1)
 have c4 : M.Yg r.Xh = some r.Xh := Wp (rb wc.2.1)
 have c5 : M.Xp r.Xf = some r.Xf := Wp (rb wt.2.1)
 have c6 : M.Xq r.Zr = some r.Zr := Wp (rb ws.2.1)
 have c7 : M.XB r.X0.ZE = some r.X0.ZE := Wp (rb wls.2.2.1.2.1)
 have c8 : M.Xe r.X0.Zs = some r.X0.Zs := Wp (rb wls.2.2.2.2.1)
 have c9 : M.Xe r.Ya.Zs = some r.Ya.Zs := Wp (rb wdv.2.2.2.2.2.1)
 have d1 : M.XM r.ZW.Zk = some r.ZW.Zk := Wp (rb wpv.2.2.2.1.2.1)
 have d2 : M.XV r.ZW.Zt = some r.ZW.Zt := Wp (rb wpv.2.2.2.2.1.2.1)
 have d3 : M.XC r.ZW.Zq = some r.ZW.Zq := Wp (rb wpv.2.2.2.2.2.1.2.1)
 have d4 : M.XD r.ZW.Zm = some r.ZW.Zm := Wp (rb wpv.2.2.2.2.2.2.1.2.1)
 have d5 : M.Xe r.ZW.Zs = some r.ZW.Zs := Wp (rb wpv.2.2.2.2.2.2.2.2.1)
 have l1 : loopM (M.QP r.Z1) (r.Z1,0) = some r.Z1 := ZcS (by have := s.lists; omega) (fun i hi => by
  have hm : r.Z1.getD i default ∈ r.Z1 := by rw [List.getD_eq_getElem?_getD,List.getElem?_eq_getElem hi]; exact List.getElem_mem hi
  have hc : M.Xw (r.Z1.getD i default).Z0 = some (r.Z1.getD i default).Z0 := Wp (rb (wl.2.2 _ hm).2.2.1)
  have q1 : decide ((0 : Int) ≤ (i : Int)) = true := dt (by omega)
  have q2 : decide ((i : Int) < (r.Z1.length : Int)) = true := dt (by omega)
  have := s.lists
  unfold M.QP
  simp only [Int.toNat_natCast,Nat.zero_add,hc,q1,q2,Option.bind_some,gd,List.all_cons,List.all_nil,id,Bool.and_self,cond_true]
  rw [up64 (n := 2000) (by omega) (by omega)]) (by
  unfold M.QP
  simp only [Int.toNat_natCast,Int.lt_irrefl,decide_false,cond_false])
 have l2 : loopM (M.QQ r.ZR) (r.ZR,0) = some r.ZR := ZcS (by have := s.maps; omega) (fun i hi => by
  have hm : r.ZR.getD i default ∈ r.ZR := by rw [List.getD_eq_getElem?_getD,List.getElem?_eq_getElem hi]; exact List.getElem_mem hi
  have hc : M.XU (r.ZR.getD i default).Z4 = some (r.ZR.getD i default).Z4 := Wp (rb (wm.2.2 _ hm).2.2.1)
  have q1 : decide ((0 : Int) ≤ (i : Int)) = true := dt (by omega)
  have q2 : decide ((i : Int) < (r.ZR.length : Int)) = true := dt (by omega)
  have := s.maps
  unfold M.QQ
  simp only [Int.toNat_natCast,Nat.zero_add,hc,q1,q2,Option.bind_some,gd,List.all_cons,List.all_nil,id,Bool.and_self,cond_true]
  rw [up64 (n := 2000) (by omega) (by omega)]) (by
  unfold M.QQ
  simp only [Int.toNat_natCast,Int.lt_irrefl,decide_false,cond_false])
 have l3 : loopM (M.QR r.Xh) (r.Xh,0) = some r.Xh := ZcS (by have := s.acls; omega) (fun i hi => by
  have hm : r.Xh.getD i default ∈ r.Xh := by rw [List.getD_eq_getElem?_getD,List.getElem?_eq_getElem hi]; exact List.getElem_mem hi
  have hc : M.X8 (r.Xh.getD i default).Z0 = some (r.Xh.getD i default).Z0 := Wp (rb (wc.2.2 _ hm).2.2.1)
  have q1 : decide ((0 : Int) ≤ (i : Int)) = true := dt (by omega)
  have q2 : decide ((i : Int) < (r.Xh.length : Int)) = true := dt (by omega)
  have := s.acls
  unfold M.QR
  simp only [Int.toNat_natCast,Nat.zero_add,hc,q1,q2,Option.bind_some,gd,List.all_cons,List.all_nil,id,Bool.and_self,cond_true]
  rw [up64 (n := 2000) (by omega) (by omega)]) (by
  unfold M.QR
  simp only [Int.toNat_natCast,Int.lt_irrefl,decide_false,cond_false])
 unfold M.J0
 simp only [c1,c2,c3,c4,c5,c6,c7,c8,c9,d1,d2,d3,d4,d5,l1,l2,l3,Option.bind_some]
theorem Ziv {a : ZG} (w : Rz a) (hR : a.Ze.length ≤ 9) (hs : ∀ i,i < a.Ze.length → SmallR (a.Ze.getD i default)) : M.JG a = some a := by
 have c1 : M.XT a.Ze = some a.Ze := Wp (rb w.2.1)
 have l1 : loopM (M.Qr a.Ze) (a.Ze,0) = some a.Ze := ZcS (by omega) (fun i hi => by
  have hm : a.Ze.getD i default ∈ a.Ze := by rw [List.getD_eq_getElem?_getD,List.getElem?_eq_getElem hi]; exact List.getElem_mem hi
  have q1 : decide ((0 : Int) ≤ (i : Int)) = true := dt (by omega)
  have q2 : decide ((i : Int) < (a.Ze.length : Int)) = true := dt (by omega)
  unfold M.Qr
  simp only [Int.toNat_natCast,Nat.zero_add,Zjo (w.2.2 _ hm) (hs i hi),q1,q2,Option.bind_some,gd,List.all_cons,List.all_nil,id,Bool.and_self,cond_true]
  rw [up64 (n := 2000) (by omega) (by omega)]) (by
  unfold M.Qr
  simp only [Int.toNat_natCast,Int.lt_irrefl,decide_false,cond_false])
 unfold M.JG
 simp only [c1,l1,Option.bind_some]
def ascC (l : List Int) (n : Int) (i : Nat) : Bool := ((decide ((l.getD i default) < 0)) || (decide ((l.getD i default) ≥ n))) || ((decide ((i : Int) > 0)) && (decide ((l.getD i default) ≤ (l.getD (wr .i64 ((i : Int) - 1)).toNat default))))
theorem Zns (l : List Int) (n : Int) : S.Vq l n = bif decide ((l.length : Int) > 2) then false else !anyN (ascC l n) l.length := by
 unfold S.Vq
 have h : runN (S.Jq l n) (.inl ()) 0 l.length = _ := GE (β := Unit ⊕ Bool) (ascC l n) (.inr false) (.inl ()) _
 simp only [letS]
 rw [h]
 cases decide ((l.length : Int) > 2) with
 | true => rfl
 | false => cases anyN (ascC l n) l.length <;> rfl
def eView : WG := ⟨⟨[]⟩,⟨[],[]⟩,[]⟩
theorem Znt (l : List Int) (hl : l.length ≤ 10) (t : Yl) : loopM (M.J9 l (t,0)) 0 = some (bif anyN (ascC l (t.Js.length : Int)) l.length then .inr (eView,1) else .inl ()) := by
 have h := Xa (f := M.J9 l (t,0)) (g := fun i => bif ascC l (t.Js.length : Int) i then some (.inr (eView,1)) else none) (e := (.inl () : Unit ⊕ (WG × Int))) (n := l.length) (fun i hi => ?_) (fun m hm => ?_) 0
 ·rw [show loopM (M.J9 l (t,0)) 0 = loopM (M.J9 l (t,0)) ((0 : Nat) : Int) from rfl,h,Nat.sub_zero,GE]
 ·have q1 : decide ((0 : Int) ≤ (i : Int)) = true := dt (by omega)
  have q2 : decide ((i : Int) < (l.length : Int)) = true := dt (by omega)
  have hg1 : ∀ c : Bool,guardB (c && decide ((i : Int) > 0)) (decide (0 ≤ (wr .i64 ((i : Int) - 1)))) = true := fun c => by
   rcases i with _ | i
   ·cases c <;> rfl
   ·have hw : wr .i64 (((i + 1 : Nat) : Int) - 1) = (i : Int) := by
     rw [show ((i + 1 : Nat) : Int) - 1 = (i : Int) by omega]
     rcases i with _ | i
     ·rfl
     ·rw [show ((i + 1 : Nat) : Int) = (i : Int) + 1 by omega,up64 (n := 2000) (by omega) (by omega)]; omega
    rw [hw,dt (show (0 : Int) ≤ (i : Int) by omega)]
    cases c && decide (((i + 1 : Nat) : Int) > 0) <;> rfl
  have hg2 : ∀ c : Bool,guardB (c && decide ((i : Int) > 0)) (decide ((wr .i64 ((i : Int) - 1)) < (l.length : Int))) = true := fun c => by
   rcases i with _ | i
   ·cases c <;> rfl
   ·have hw : wr .i64 (((i + 1 : Nat) : Int) - 1) = (i : Int) := by
     rw [show ((i + 1 : Nat) : Int) - 1 = (i : Int) by omega]
     rcases i with _ | i
     ·rfl
     ·rw [show ((i + 1 : Nat) : Int) = (i : Int) + 1 by omega,up64 (n := 2000) (by omega) (by omega)]; omega
    rw [hw,dt (show (i : Int) < (l.length : Int) by omega)]
    cases c && decide (((i + 1 : Nat) : Int) > 0) <;> rfl
  unfold M.J9
  simp only [Int.toNat_natCast,q1,q2,hg1,hg2,gd,List.all_cons,List.all_nil,id,Bool.and_self,cond_true]
  show (bif ascC l (t.Js.length : Int) i then some (.inr (.inr (eView,1))) else some (.inl (wr .i64 ((i : Int) + 1)))) = some (rdN (bif ascC l (t.Js.length : Int) i then some (Sum.inr (eView,1)) else none) i)
  cases ascC l (t.Js.length : Int) i with
  | true => rfl
  | false => rw [cond_false,up64 (n := 2000) (by omega) (by omega)]; rfl
 ·unfold M.J9
  rw [decide_eq_false (show ¬ ((m : Int) < (l.length : Int)) by omega)]
  rfl
theorem Znu {a : ZG} (w : Rz a) (hs : S.VD a = true) {l : List Int} (hl : l.length ≤ 10) : ∃ v e,M.WU a l = some (v,e) ∧ M.Rt a l = some (v,e) ∧ v.Ws.XQ.length ≤ 1000 ∧ v.Ws.Js.length ≤ 1000 ∧ (∀ d ∈ v.Ws.XQ,d.Xo.length ≤ 1000) ∧ v.Gu.length ≤ 10 ∧ (v.Zfs = a ∨ v.Zfs = ⟨[]⟩) := by
 have ha := Zds w
 have hM := Zo
 obtain ⟨hR,hI⟩ := ZmD hs
 have hq := Znl a (ZhH hs)
 have hz : (⟨[],[]⟩ : Yl).XQ.length ≤ 1000 ∧ (⟨[],[]⟩ : Yl).Js.length ≤ 1000 ∧ ∀ d ∈ (⟨[],[]⟩ : Yl).XQ,d.Xo.length ≤ 1000 := ⟨Nat.zero_le _,Nat.zero_le _,fun d hd => absurd hd List.not_mem_nil⟩
 have key : ∃ t e,M.WE a = some (t,e) ∧ M.GG a = some (t,e) ∧ t.XQ.length ≤ 1000 ∧ t.Js.length ≤ 1000 ∧ ∀ d ∈ t.XQ,d.Xo.length ≤ 1000 := by
  rcases Zli ha hR hI with ⟨h1,h2⟩ | ⟨h1,D,h2,h3,h4⟩
  ·rcases ZhG ha hR hI with ⟨g1,g2⟩ | ⟨g1,_⟩
   ·exact ⟨_,_,h2,by rw [g2,hq],hz⟩
   ·exact absurd (hq.trans g1) h1
  ·rcases ZhG ha hR hI with ⟨g1,_⟩ | ⟨_,E,g2,g3,g4,_⟩
   ·exact absurd (hq.symm.trans h1) g1
   ·obtain rfl := ZjY h3 g3 h4 g4
    exact ⟨_,_,h2,g2,Ziu h3 hR hI⟩
 obtain ⟨t,e,h1,h2,h3⟩ := key
 unfold M.WU M.Rt
 rw [h1,h2]
 simp only [Option.bind_some]
 cases he : e != 0 with
 | true => exact ⟨eView,e,rfl,rfl,hz.1,hz.2.1,hz.2.2,Nat.zero_le _,.inr rfl⟩
 | false =>
  obtain rfl : e = 0 := by simpa using he
  simp only [cond_false]
  rw [ZeL l _ (by omega),Zns]
  cases h5 : decide ((l.length : Int) > 2) with
  | true => exact ⟨eView,1,rfl,rfl,hz.1,hz.2.1,hz.2.2,Nat.zero_le _,.inr rfl⟩
  | false =>
   simp only [cond_false,Znt l hl t,Option.bind_some]
   cases anyN (ascC l (t.Js.length : Int)) l.length with
   | true => exact ⟨eView,1,rfl,rfl,hz.1,hz.2.1,hz.2.2,Nat.zero_le _,.inr rfl⟩
   | false =>
    have c1 : M.QA l = some l := Wp (by omega)
    refine ⟨⟨a,t,l⟩,0,?_,?_,h3.1,h3.2.1,h3.2.2,hl,.inl rfl⟩
    ·simp only [cond_false,Sum.elim_inl,Ziv w hR (ZhH hs),c1,Option.bind_some]
    ·simp only [Bool.not_false,Bool.not_true,cond_false]
     exact Yx (Zw (by simp) (Zw (dt (by omega)) XR)) rfl
theorem Wq {f : Int → Option (Int ⊕ (Unit ⊕ Bool))} {n : Nat} (hn : n ≤ maxLen) (step : ∀ i : Nat,i < n → f (i : Int) = some (.inl (wr .i64 ((i : Int) + 1)))) (out : f (n : Int) = some (.inr (.inl ()))) : loopM f 0 = some (.inl ()) := by
 have hM := Zo
 obtain ⟨y,h1,h2⟩ := GL (f := f) (σ := Unit) (fun i _ => (i : Int)) n (fun _ _ => True) (fun y => y = .inl ()) (fun i _ hi _ => .inl ⟨(),by rw [step i hi,ZlT (n := n) hi (by omega)],trivial⟩) (fun _ _ => ⟨_,out,rfl⟩) n 0 () (by omega) trivial
 rw [← h2]
 exact h1
theorem Zbh (l : List Yi) (h : l.length ≤ maxLen) : loopM (M.Ug l l) 0 = some (.inl ()) := Wq (n := l.length) (h) (fun i hi => by
  have q1 : decide ((0 : Int) ≤ (i : Int)) = true := dt (by omega)
  have q2 : decide ((i : Int) < (l.length : Int)) = true := dt (by omega)
  unfold M.Ug
  simp only [Int.toNat_natCast,q1,q2,gd,List.all_cons,List.all_nil,id,JF,BEq.rfl,bne_self_eq_false,Bool.not_true,Bool.or_self,Bool.and_self,cond_true,cond_false]) (by
  unfold M.Ug
  simp only [Int.toNat_natCast,Int.lt_irrefl,decide_false,cond_false])
theorem ZdV {l : List Yi} (h : l.length ≤ maxLen) : M.WW l l = some true := by
 unfold M.WW
 simp only [bne_self_eq_false,cond_false,Zbh l h,Option.bind_some,Sum.elim_inl]
theorem ZbE {r : Zf} (p : Nat) (h : (r.Z1.getD p default).Z0.length ≤ maxLen) : loopM (M.Uu r r (p : Int)) 0 = some (.inl ()) := Wq (n := (r.Z1.getD p default).Z0.length) (h) (fun i hi => by
  have q1 : decide ((0 : Int) ≤ (i : Int)) = true := dt (by omega)
  have q2 : decide ((i : Int) < ((r.Z1.getD p default).Z0.length : Int)) = true := dt (by omega)
  unfold M.Uu
  simp only [Int.toNat_natCast,q1,q2,gd,List.all_cons,List.all_nil,id,JF,BEq.rfl,bne_self_eq_false,Bool.not_true,Bool.or_self,Bool.and_self,cond_true,cond_false]) (by
  unfold M.Uu
  simp only [Int.toNat_natCast,Int.lt_irrefl,decide_false,cond_false])
theorem ZbF {r : Zf} (h : r.Z1.length ≤ maxLen) (h2 : ∀ i,i < r.Z1.length → (r.Z1.getD i default).Z0.length ≤ maxLen) : loopM (M.Uv r r) 0 = some (.inl ()) := Wq (n := r.Z1.length) (h) (fun i hi => by
  have q1 : decide ((0 : Int) ≤ (i : Int)) = true := dt (by omega)
  have q2 : decide ((i : Int) < (r.Z1.length : Int)) = true := dt (by omega)
  unfold M.Uv
  simp only [Int.toNat_natCast,q1,q2,gd,List.all_cons,List.all_nil,id,JF,BEq.rfl,bne_self_eq_false,Bool.not_true,Bool.or_self,Bool.and_self,cond_true,cond_false,ZbE i (h2 i hi),Option.bind_some,Sum.elim_inl]) (by
  unfold M.Uv
  simp only [Int.toNat_natCast,Int.lt_irrefl,decide_false,cond_false])
theorem ZbG {r : Zf} (p : Nat) (h : (r.ZR.getD p default).Z4.length ≤ maxLen) : loopM (M.Uw r r (p : Int)) 0 = some (.inl ()) := Wq (n := (r.ZR.getD p default).Z4.length) (h) (fun i hi => by
  have q1 : decide ((0 : Int) ≤ (i : Int)) = true := dt (by omega)
  have q2 : decide ((i : Int) < ((r.ZR.getD p default).Z4.length : Int)) = true := dt (by omega)
  unfold M.Uw
  simp only [Int.toNat_natCast,q1,q2,gd,List.all_cons,List.all_nil,id,JF,BEq.rfl,bne_self_eq_false,Bool.not_true,Bool.or_self,Bool.and_self,cond_true,cond_false]) (by
  unfold M.Uw
  simp only [Int.toNat_natCast,Int.lt_irrefl,decide_false,cond_false])
theorem ZbH {r : Zf} (h : r.ZR.length ≤ maxLen) (h2 : ∀ i,i < r.ZR.length → (r.ZR.getD i default).Z4.length ≤ maxLen) : loopM (M.Ux r r) 0 = some (.inl ()) := Wq (n := r.ZR.length) (h) (fun i hi => by
  have q1 : decide ((0 : Int) ≤ (i : Int)) = true := dt (by omega)
  have q2 : decide ((i : Int) < (r.ZR.length : Int)) = true := dt (by omega)
  unfold M.Ux
  simp only [Int.toNat_natCast,q1,q2,gd,List.all_cons,List.all_nil,id,JF,BEq.rfl,bne_self_eq_false,Bool.not_true,Bool.or_self,Bool.and_self,cond_true,cond_false,ZbG i (h2 i hi),Option.bind_some,Sum.elim_inl]) (by
  unfold M.Ux
  simp only [Int.toNat_natCast,Int.lt_irrefl,decide_false,cond_false])
theorem ZbI {r : Zf} (p : Nat) (h : (r.Xh.getD p default).Z0.length ≤ maxLen) : loopM (M.Uy r r (p : Int)) 0 = some (.inl ()) := Wq (n := (r.Xh.getD p default).Z0.length) (h) (fun i hi => by
  have q1 : decide ((0 : Int) ≤ (i : Int)) = true := dt (by omega)
  have q2 : decide ((i : Int) < ((r.Xh.getD p default).Z0.length : Int)) = true := dt (by omega)
  unfold M.Uy
  simp only [Int.toNat_natCast,q1,q2,gd,List.all_cons,List.all_nil,id,JF,BEq.rfl,bne_self_eq_false,Bool.not_true,Bool.or_self,Bool.and_self,cond_true,cond_false]) (by
  unfold M.Uy
  simp only [Int.toNat_natCast,Int.lt_irrefl,decide_false,cond_false])
theorem ZbJ {r : Zf} (h : r.Xh.length ≤ maxLen) (h2 : ∀ i,i < r.Xh.length → (r.Xh.getD i default).Z0.length ≤ maxLen) : loopM (M.Uz r r) 0 = some (.inl ()) := Wq (n := r.Xh.length) (h) (fun i hi => by
  have q1 : decide ((0 : Int) ≤ (i : Int)) = true := dt (by omega)
  have q2 : decide ((i : Int) < (r.Xh.length : Int)) = true := dt (by omega)
  unfold M.Uz
  simp only [Int.toNat_natCast,q1,q2,gd,List.all_cons,List.all_nil,id,JF,BEq.rfl,bne_self_eq_false,Bool.not_true,Bool.or_self,Bool.and_self,cond_true,cond_false,ZbI i (h2 i hi),Option.bind_some,Sum.elim_inl]) (by
  unfold M.Uz
  simp only [Int.toNat_natCast,Int.lt_irrefl,decide_false,cond_false])
theorem RT {r : Zf} (h : r.X0.ZE.length ≤ maxLen) : loopM (M.Wt r r) 0 = some (.inl ()) := Wq (n := r.X0.ZE.length) (h) (fun i hi => by
  have q1 : decide ((0 : Int) ≤ (i : Int)) = true := dt (by omega)
  have q2 : decide ((i : Int) < (r.X0.ZE.length : Int)) = true := dt (by omega)
  unfold M.Wt
  simp only [Int.toNat_natCast,q1,q2,gd,List.all_cons,List.all_nil,id,JF,BEq.rfl,bne_self_eq_false,Bool.not_true,Bool.or_self,Bool.and_self,cond_true,cond_false]) (by
  unfold M.Wt
  simp only [Int.toNat_natCast,Int.lt_irrefl,decide_false,cond_false])
theorem RU {r : Zf} (h : r.ZW.Zk.length ≤ maxLen) : loopM (M.Wu r r) 0 = some (.inl ()) := Wq (n := r.ZW.Zk.length) (h) (fun i hi => by
  have q1 : decide ((0 : Int) ≤ (i : Int)) = true := dt (by omega)
  have q2 : decide ((i : Int) < (r.ZW.Zk.length : Int)) = true := dt (by omega)
  unfold M.Wu
  simp only [Int.toNat_natCast,q1,q2,gd,List.all_cons,List.all_nil,id,JF,BEq.rfl,bne_self_eq_false,Bool.not_true,Bool.or_self,Bool.and_self,cond_true,cond_false]) (by
  unfold M.Wu
  simp only [Int.toNat_natCast,Int.lt_irrefl,decide_false,cond_false])
theorem RW {r : Zf} (h : r.ZW.Zt.length ≤ maxLen) : loopM (M.Wv r r) 0 = some (.inl ()) := Wq (n := r.ZW.Zt.length) (h) (fun i hi => by
  have q1 : decide ((0 : Int) ≤ (i : Int)) = true := dt (by omega)
  have q2 : decide ((i : Int) < (r.ZW.Zt.length : Int)) = true := dt (by omega)
  unfold M.Wv
  simp only [Int.toNat_natCast,q1,q2,gd,List.all_cons,List.all_nil,id,JF,BEq.rfl,bne_self_eq_false,Bool.not_true,Bool.or_self,Bool.and_self,cond_true,cond_false]) (by
  unfold M.Wv
  simp only [Int.toNat_natCast,Int.lt_irrefl,decide_false,cond_false])
theorem RX {r : Zf} (h : r.ZW.Zq.length ≤ maxLen) : loopM (M.Ww r r) 0 = some (.inl ()) := Wq (n := r.ZW.Zq.length) (h) (fun i hi => by
  have q1 : decide ((0 : Int) ≤ (i : Int)) = true := dt (by omega)
  have q2 : decide ((i : Int) < (r.ZW.Zq.length : Int)) = true := dt (by omega)
  unfold M.Ww
  simp only [Int.toNat_natCast,q1,q2,gd,List.all_cons,List.all_nil,id,JF,BEq.rfl,bne_self_eq_false,Bool.not_true,Bool.or_self,Bool.and_self,cond_true,cond_false]) (by
  unfold M.Ww
  simp only [Int.toNat_natCast,Int.lt_irrefl,decide_false,cond_false])
theorem RY {r : Zf} (h : r.ZW.Zm.length ≤ maxLen) : loopM (M.Wx r r) 0 = some (.inl ()) := Wq (n := r.ZW.Zm.length) (h) (fun i hi => by
  have q1 : decide ((0 : Int) ≤ (i : Int)) = true := dt (by omega)
  have q2 : decide ((i : Int) < (r.ZW.Zm.length : Int)) = true := dt (by omega)
  unfold M.Wx
  simp only [Int.toNat_natCast,q1,q2,gd,List.all_cons,List.all_nil,id,JF,BEq.rfl,bne_self_eq_false,Bool.not_true,Bool.or_self,Bool.and_self,cond_true,cond_false]) (by
  unfold M.Wx
  simp only [Int.toNat_natCast,Int.lt_irrefl,decide_false,cond_false])
theorem Zfj {r : Zf} (h : r.Zc.length ≤ maxLen) : loopM (M.Kx r r) 0 = some (.inl ()) := Wq (n := r.Zc.length) (h) (fun i hi => by
  have q1 : decide ((0 : Int) ≤ (i : Int)) = true := dt (by omega)
  have q2 : decide ((i : Int) < (r.Zc.length : Int)) = true := dt (by omega)
  unfold M.Kx
  simp only [Int.toNat_natCast,q1,q2,gd,List.all_cons,List.all_nil,id,JF,BEq.rfl,bne_self_eq_false,Bool.not_true,Bool.or_self,Bool.and_self,cond_true,cond_false]) (by
  unfold M.Kx
  simp only [Int.toNat_natCast,Int.lt_irrefl,decide_false,cond_false])
theorem Zfk {r : Zf} (h : r.Xf.length ≤ maxLen) : loopM (M.Ky r r) 0 = some (.inl ()) := Wq (n := r.Xf.length) (h) (fun i hi => by
  have q1 : decide ((0 : Int) ≤ (i : Int)) = true := dt (by omega)
  have q2 : decide ((i : Int) < (r.Xf.length : Int)) = true := dt (by omega)
  unfold M.Ky
  simp only [Int.toNat_natCast,q1,q2,gd,List.all_cons,List.all_nil,id,JF,BEq.rfl,bne_self_eq_false,Bool.not_true,Bool.or_self,Bool.and_self,cond_true,cond_false]) (by
  unfold M.Ky
  simp only [Int.toNat_natCast,Int.lt_irrefl,decide_false,cond_false])
theorem Zfl {r : Zf} (h : r.Zr.length ≤ maxLen) : loopM (M.Kz r r) 0 = some (.inl ()) := Wq (n := r.Zr.length) (h) (fun i hi => by
  have q1 : decide ((0 : Int) ≤ (i : Int)) = true := dt (by omega)
  have q2 : decide ((i : Int) < (r.Zr.length : Int)) = true := dt (by omega)
  unfold M.Kz
  simp only [Int.toNat_natCast,q1,q2,gd,List.all_cons,List.all_nil,id,JF,BEq.rfl,bne_self_eq_false,Bool.not_true,Bool.or_self,Bool.and_self,cond_true,cond_false]) (by
  unfold M.Kz
  simp only [Int.toNat_natCast,Int.lt_irrefl,decide_false,cond_false])
theorem Zll {r : Zf} (h : Zj r) : M.GH r r = some true := by
 have d : ∀ {α : Type} [Inhabited α] {P : α → Prop} {l : List α},LL P l → ∀ i,i < l.length → P (l.getD i default) := fun {α} _ {P l} hl i hi => hl.2 _ (by rw [List.getD_eq_getElem?_getD,List.getElem?_eq_getElem hi]; exact List.getElem_mem hi)
 unfold M.GH
 simp only [bne_self_eq_false,Bool.or_self,cond_false,ZbF h.Z1.1 (fun i hi => (d h.Z1 i hi).Z0),ZbH h.ZR.1 (fun i hi => (d h.ZR i hi).Z4.1),ZbJ h.Xh.1 (fun i hi => (d h.Xh i hi).Z0),Option.bind_some,Sum.elim_inl]
theorem Zj0 {r : Zf} (h : Zj r) : M.Uh r r = some true := by
 unfold M.Uh
 simp only [gc,ZdV h.X0.Zs.1,ZdV h.Ya.Zs.1,ZdV h.ZW.Zs.1,JF,BEq.rfl,bne_self_eq_false,Bool.not_true,Bool.not_false,Bool.or_self,cond_true,cond_false,RT h.X0.ZE,RU h.ZW.Zk.1,RW h.ZW.Zt,RX h.ZW.Zq,RY h.ZW.Zm,Option.bind_some,Sum.elim_inl]
theorem ZmJ {r : Zf} (h : Zj r) : M.Rk r r = some true := by
 unfold M.Rk
 simp only [gc,Zll h,Zj0 h,JF,bne_self_eq_false,Bool.not_true,Bool.or_self,Bool.and_self,cond_true,cond_false,Zfj h.Zc.1,Zfk h.Xf.1,Zfl h.Zr.1,Option.bind_some,Sum.elim_inl]
theorem ZaL {n : ZG} (h : LL Zj n.Ze) : loopM (M.W0 n n) 0 = some (.inl ()) := Wq (n := n.Ze.length) (h.1) (fun i hi => by
  have q1 : decide ((0 : Int) ≤ (i : Int)) = true := dt (by omega)
  have q2 : decide ((i : Int) < (n.Ze.length : Int)) = true := dt (by omega)
  have e : M.Rk (n.Ze.getD i default) (n.Ze.getD i default) = some true := ZmJ (h.2 _ (by rw [List.getD_eq_getElem?_getD,List.getElem?_eq_getElem hi]; exact List.getElem_mem hi))
  unfold M.W0
  simp only [Int.toNat_natCast,q1,q2,gd,List.all_cons,List.all_nil,id,JF,BEq.rfl,bne_self_eq_false,Bool.not_true,Bool.or_self,Bool.and_self,cond_true,cond_false,e,Option.bind_some]) (by
  unfold M.W0
  simp only [Int.toNat_natCast,Int.lt_irrefl,decide_false,cond_false])
theorem Znv {n : ZG} (h : Ys n) : M.W7 n n = some true := by
 unfold M.W7
 simp only [bne_self_eq_false,cond_false,ZaL h,Option.bind_some,Sum.elim_inl]
theorem ZfP (a0 : ZG) (a1 : List Int) (w0 : Rz a0) (_w1 : (a1.length ≤ maxLen ∧ a1.length * 8 ≤ reachBytes ∧ ∀ y ∈ a1,(Lit.int .i64 y).wf = true)) : M.G5 a0 a1 = some true := by
 have ha := Zds w0
 have hM := Zo
 unfold M.G5
 rw [Zhc a0 ha]
 simp only [Option.bind_some]
 cases hs : S.VD a0 with
 | false => rfl
 | true =>
  cases hl : decide ((a1.length : Int) > 10) with
  | true => rfl
  | false =>
   have hl2 := of_decide_eq_false hl
   obtain ⟨v,e,h1,h2,h3,h4,h5,h6,h7⟩ := Znu w0 hs (l := a1) (by omega)
   have hn : M.W7 v.Zfs v.Zfs = some true := by
    have hL : Ys v.Zfs := by
     rcases h7 with h | h
     ·rw [h]; exact ha
     ·rw [h]; exact ⟨Nat.zero_le _,fun x hx => absurd hx List.not_mem_nil⟩
    exact Znv hL
   simp only [Bool.not_true,Bool.or_self,cond_false,h1,h2,Option.bind_some,BEq.rfl,gc,cond_true,Zlk v.Ws h3 h4 h5,ZhI v.Gu (by omega),hn,Bool.and_self,ZkU]
end Nv
