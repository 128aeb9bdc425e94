/- A network copied is itself; what topo.Make says of failed links. No condition but the bounds of what comes in. -/
import Derived.Test.YtaienbkgekjdnaaGreatNvToA
import Derived.Test.YtaienbkgekjdnaaGreatNvV1
import Derived.Test.YtaienbkgekjdnaaGreatNvLW
set_option maxRecDepth 100000
namespace Nv
open Go Go.Sort Go.Proofs
theorem ZlW {α:Type} [Inhabited α] (l:List α) (i:Nat):l.set i (l.getD i default)=l:=by
 apply List.ext_getElem (by simp)
 intro j h1 h2
 rw [List.getElem_set]
 split
 ·rename_i h; subst h
  rw [List.getD_eq_getElem?_getD,List.getElem?_eq_getElem h2]; rfl
 ·rfl
theorem Zco {α:Type} [Inhabited α] {f:List α × Int→Option ((List α × Int) ⊕ List α)} {l:List α} (hl:l.length≤1000000000) (step:∀ i:Nat,i < l.length→f (l,(i:Int))=some (.inl (l.set i (l.getD i default),((i+1:Nat):Int)))) (out:f (l,(l.length:Int))=some (.inr l)):loopM f (l,0)=some l:=by
 obtain ⟨y,h1,h2⟩:=GO (f:=f) (σ:=Unit) (fun i _=>(l,(i:Int))) l.length (fun _ _=>True) (fun y=>y=l) (fun i _ hi _=>.inl ⟨(),by rw [step i hi,ZlW],trivial⟩) (fun _ _=>⟨l,out,rfl⟩) l.length 0 () (by omega) trivial
 rw [← h2]
 rw [← h2] at h1
 exact h1
theorem Wq {α:Type} {l:List α} {b:Nat} (h:l.length*b≤140737488355328):gd [decide (0=0)||decide (0 < l.length),decide ((0+l.length)*b≤140737488355328)] (some l)=some l :=
 YD (Zw (by simp) (Zw (dt (by rw [Nat.zero_add]; exact h)) XP)) rfl
theorem rb {n:Nat} (h:n≤reachBytes):n≤140737488355328:=Nat.le_trans h (by decide)
theorem ZiC {r:Zf} (w:Zcm r) (s:SmallR r):M.JX r=some r:=by
 obtain ⟨wn,wa,wi,wl,wm,wc,wt,ws,wls,wdv,wpv⟩:=w
 have c1:M.Xy r.Zc=some r.Zc:=Wq (rb wi.2.1)
 have c2:M.Xr r.Xi=some r.Xi:=Wq (rb wl.2.1)
 have c3:M.XG r.Z9=some r.Z9:=Wq (rb wm.2.1)
 have c4:M.Yc r.XK=some r.XK:=Wq (rb wc.2.1)
 have c5:M.Xk r.Xf=some r.Xf:=Wq (rb wt.2.1)
 have c6:M.Xl r.Zr=some r.Zr:=Wq (rb ws.2.1)
 have c7:M.Xz r.X5.ZF=some r.X5.ZF:=Wq (rb wls.2.2.1.2.1)
 have c8:M.Xa r.X5.Zs=some r.X5.Zs:=Wq (rb wls.2.2.2.2.1)
 have c9:M.Xa r.Ye.Zs=some r.Ye.Zs:=Wq (rb wdv.2.2.2.2.2.1)
 have d1:M.XH r.Z8.Zl=some r.Z8.Zl:=Wq (rb wpv.2.2.2.1.2.1)
 have d2:M.XT r.Z8.Zt=some r.Z8.Zt:=Wq (rb wpv.2.2.2.2.1.2.1)
 have d3:M.XA r.Z8.Zq=some r.Z8.Zq:=Wq (rb wpv.2.2.2.2.2.1.2.1)
 have d4:M.XB r.Z8.Zn=some r.Z8.Zn:=Wq (rb wpv.2.2.2.2.2.2.1.2.1)
 have d5:M.Xa r.Z8.Zs=some r.Z8.Zs:=Wq (rb wpv.2.2.2.2.2.2.2.2.1)
 have l1:loopM (M.QN r.Xi) (r.Xi,0)=some r.Xi:=Zco (by have:=s.lists; omega) (fun i hi=>by
  have hm:r.Xi.getD i default∈r.Xi:=by rw [List.getD_eq_getElem?_getD,List.getElem?_eq_getElem hi]; exact List.getElem_mem hi
  have hc:M.Xs (r.Xi.getD i default).Xv=some (r.Xi.getD i default).Xv:=Wq (rb (wl.2.2 _ hm).2.2.1)
  have q1:decide ((0:Int)≤(i:Int))=true:=dt (by omega)
  have q2:decide ((i:Int) < (r.Xi.length:Int))=true:=dt (by omega)
  have:=s.lists
  unfold M.QN
  simp only [Int.toNat_natCast,Nat.zero_add,hc,q1,q2,Option.bind_some,gd,List.all_cons,List.all_nil,id,Bool.and_self,cond_true]
  rw [up64 (n:=2000) (by omega) (by omega)]) (by
  unfold M.QN
  simp only [Int.toNat_natCast,Int.lt_irrefl,decide_false,cond_false])
 have l2:loopM (M.QO r.Z9) (r.Z9,0)=some r.Z9:=Zco (by have:=s.maps; omega) (fun i hi=>by
  have hm:r.Z9.getD i default∈r.Z9:=by rw [List.getD_eq_getElem?_getD,List.getElem?_eq_getElem hi]; exact List.getElem_mem hi
  have hc:M.XS (r.Z9.getD i default).Xj=some (r.Z9.getD i default).Xj:=Wq (rb (wm.2.2 _ hm).2.2.1)
  have q1:decide ((0:Int)≤(i:Int))=true:=dt (by omega)
  have q2:decide ((i:Int) < (r.Z9.length:Int))=true:=dt (by omega)
  have:=s.maps
  unfold M.QO
  simp only [Int.toNat_natCast,Nat.zero_add,hc,q1,q2,Option.bind_some,gd,List.all_cons,List.all_nil,id,Bool.and_self,cond_true]
  rw [up64 (n:=2000) (by omega) (by omega)]) (by
  unfold M.QO
  simp only [Int.toNat_natCast,Int.lt_irrefl,decide_false,cond_false])
 have l3:loopM (M.QP r.XK) (r.XK,0)=some r.XK:=Zco (by have:=s.acls; omega) (fun i hi=>by
  have hm:r.XK.getD i default∈r.XK:=by rw [List.getD_eq_getElem?_getD,List.getElem?_eq_getElem hi]; exact List.getElem_mem hi
  have hc:M.X6 (r.XK.getD i default).Xv=some (r.XK.getD i default).Xv:=Wq (rb (wc.2.2 _ hm).2.2.1)
  have q1:decide ((0:Int)≤(i:Int))=true:=dt (by omega)
  have q2:decide ((i:Int) < (r.XK.length:Int))=true:=dt (by omega)
  have:=s.acls
  unfold M.QP
  simp only [Int.toNat_natCast,Nat.zero_add,hc,q1,q2,Option.bind_some,gd,List.all_cons,List.all_nil,id,Bool.and_self,cond_true]
  rw [up64 (n:=2000) (by omega) (by omega)]) (by
  unfold M.QP
  simp only [Int.toNat_natCast,Int.lt_irrefl,decide_false,cond_false])
 unfold M.JX
 simp only [c1,c2,c3,c4,c5,c6,c7,c8,c9,d1,d2,d3,d4,d5,l1,l2,l3,Option.bind_some]
theorem ZhL {a:ZP} (w:Rd a) (hR:a.Zd.length≤9) (hs:∀ i,i < a.Zd.length→SmallR (a.Zd.getD i default)):M.JC a=some a:=by
 have c1:M.XR a.Zd=some a.Zd:=Wq (rb w.2.1)
 have l1:loopM (M.Qr a.Zd) (a.Zd,0)=some a.Zd:=Zco (by omega) (fun i hi=>by
  have hm:a.Zd.getD i default∈a.Zd:=by rw [List.getD_eq_getElem?_getD,List.getElem?_eq_getElem hi]; exact List.getElem_mem hi
  have q1:decide ((0:Int)≤(i:Int))=true:=dt (by omega)
  have q2:decide ((i:Int) < (a.Zd.length:Int))=true:=dt (by omega)
  unfold M.Qr
  simp only [Int.toNat_natCast,Nat.zero_add,ZiC (w.2.2 _ hm) (hs i hi),q1,q2,Option.bind_some,gd,List.all_cons,List.all_nil,id,Bool.and_self,cond_true]
  rw [up64 (n:=2000) (by omega) (by omega)]) (by
  unfold M.Qr
  simp only [Int.toNat_natCast,Int.lt_irrefl,decide_false,cond_false])
 unfold M.JC
 simp only [c1,l1,Option.bind_some]
def ascC (l:List Int) (n:Int) (i:Nat):Bool:=((decide ((l.getD i default) < 0))||(decide ((l.getD i default) ≥ n)))||((decide ((i:Int) > 0))&&(decide ((l.getD i default)≤(l.getD (wr .i64 ((i:Int) - 1)).toNat default))))
def eView:W2:=⟨⟨[]⟩,⟨[],[]⟩,[]⟩
theorem ZmN (l:List Int) (hl:l.length≤10) (t:Qs):loopM (M.J6 l (t,0)) 0=some (bif anyN (ascC l (t.Wr.length:Int)) l.length then .inr (eView,1) else .inl ()):=by
 have h:=Z6 (f:=M.J6 l (t,0)) (g:=fun i=>bif ascC l (t.Wr.length:Int) i then some (.inr (eView,1)) else none) (e:=(.inl ():Unit ⊕ (W2 × Int))) (n:=l.length) (fun i hi=>?_) (fun m hm=>?_) 0
 ·rw [show loopM (M.J6 l (t,0)) 0=loopM (M.J6 l (t,0)) ((0:Nat):Int) from rfl,h,Nat.sub_zero,Gj]
 ·have q1:decide ((0:Int)≤(i:Int))=true:=dt (by omega)
  have q2:decide ((i:Int) < (l.length:Int))=true:=dt (by omega)
  have hg1:∀ c:Bool,guardB (c&&decide ((i:Int) > 0)) (decide (0≤(wr .i64 ((i:Int) - 1))))=true:=fun c=>by
   rcases i with _ | i
   ·cases c <;> rfl
   ·have hw:wr .i64 (((i+1:Nat):Int) - 1)=(i:Int):=by
     rw [show ((i+1:Nat):Int) - 1=(i:Int) by omega]
     rcases i with _ | i
     ·rfl
     ·rw [show ((i+1:Nat):Int)=(i:Int)+1 by omega,up64 (n:=2000) (by omega) (by omega)]; omega
    rw [hw,dt (show (0:Int)≤(i:Int) by omega)]
    cases c&&decide (((i+1:Nat):Int) > 0) <;> rfl
  have hg2:∀ c:Bool,guardB (c&&decide ((i:Int) > 0)) (decide ((wr .i64 ((i:Int) - 1)) < (l.length:Int)))=true:=fun c=>by
   rcases i with _ | i
   ·cases c <;> rfl
   ·have hw:wr .i64 (((i+1:Nat):Int) - 1)=(i:Int):=by
     rw [show ((i+1:Nat):Int) - 1=(i:Int) by omega]
     rcases i with _ | i
     ·rfl
     ·rw [show ((i+1:Nat):Int)=(i:Int)+1 by omega,up64 (n:=2000) (by omega) (by omega)]; omega
    rw [hw,dt (show (i:Int) < (l.length:Int) by omega)]
    cases c&&decide (((i+1:Nat):Int) > 0) <;> rfl
  unfold M.J6
  simp only [Int.toNat_natCast,q1,q2,hg1,hg2,gd,List.all_cons,List.all_nil,id,Bool.and_self,cond_true]
  show (bif ascC l (t.Wr.length:Int) i then some (.inr (.inr (eView,1))) else some (.inl (wr .i64 ((i:Int)+1))))=some (rdN (bif ascC l (t.Wr.length:Int) i then some (Sum.inr (eView,1)) else none) i)
  cases ascC l (t.Wr.length:Int) i with
  | true=>rfl
  | false=>rw [cond_false,up64 (n:=2000) (by omega) (by omega)]; rfl
 ·unfold M.J6
  rw [decide_eq_false (show ¬ ((m:Int) < (l.length:Int)) by omega)]
  rfl
theorem ZlX {a:ZP} (w:Rd a) (hs:S.VA a=true) {t:Qs} (hb:M.Wx a=some (t,0)) {l:List Int} (hl:l.length≤10) :
  ∃ v,M.WM a l=some (v,bif decide ((l.length:Int) > 2)||anyN (ascC l (t.Wr.length:Int)) l.length then 1 else 0):=by
 obtain ⟨hR,hI⟩:=ZiB hs
 unfold M.WM
 rw [hb]
 simp only [Option.bind_some,bne_self_eq_false,cond_false]
 cases h5:decide ((l.length:Int) > 2) with
 | true=>exact ⟨eView,rfl⟩
 | false =>
  simp only [cond_false,ZmN l hl t,Option.bind_some,Bool.false_or]
  cases anyN (ascC l (t.Wr.length:Int)) l.length with
  | true=>exact ⟨eView,rfl⟩
  | false =>
   have c1:M.Yl l=some l:=Wq (by omega)
   refine ⟨⟨a,t,l⟩,?_⟩
   simp only [cond_false,Sum.elim_inl,ZhL w hR (Zg0 hs),c1,Option.bind_some]
end Nv
