/- The plain law of TopoFailuresAll. No condition but the bounds of what comes in. -/
import Derived.Test.YtaienbkgekjdnaaGreatNvToC
import Derived.Test.YtaienbkgekjdnaaGreatNvFl
import Derived.Test.YtaienbkgekjdnaaGreatNvT2
set_option maxRecDepth 100000
namespace Nv
open Go Go.Sort Go.Proofs
theorem ZhM (l m:List Int) (h:l.length=m.length) (hl:l.length≤1000):loopM (M.Un l m) 0=some (bif anyN (fun i=>l.getD i default != m.getD i default) l.length then .inr false else .inl ()):=by
 have hr:=Z6 (f:=M.Un l m) (g:=fun i=>bif l.getD i default != m.getD i default then some (.inr false) else none) (e:=(.inl ():Unit ⊕ Bool)) (n:=l.length) (fun i hi=>?_) (fun k hk=>?_) 0
 ·rw [show loopM (M.Un l m) 0=loopM (M.Un l m) ((0:Nat):Int) from rfl,hr,Nat.sub_zero,Gj]
 ·have q1:decide ((0:Int)≤(i:Int))=true:=dt (by omega)
  have q2:decide ((i:Int) < (l.length:Int))=true:=dt (by omega)
  have q3:decide ((i:Int) < (m.length:Int))=true:=dt (by omega)
  unfold M.Un
  simp only [Int.toNat_natCast,q1,q2,q3,gd,List.all_cons,List.all_nil,id,Bool.and_self,cond_true]
  cases l.getD i default != m.getD i default with
  | true=>rfl
  | false=>rw [cond_false,up64 (n:=2000) (by omega) (by omega)]; rfl
 ·unfold M.Un
  rw [decide_eq_false (show ¬ ((k:Int) < (l.length:Int)) by omega)]
  rfl
theorem ZmO (l m:List Int) (hl:l.length≤1000):M.R7 l m=some (decide (l=m)):=by
 unfold M.R7
 by_cases h:l.length=m.length
 ·have hb:((l.length:Int) != (m.length:Int))=false:=by rw [h]; exact bne_self_eq_false _
  rw [hb]
  simp only [cond_false,ZhM l m h hl,Option.bind_some]
  cases ha:anyN (fun i=>l.getD i default != m.getD i default) l.length with
  | true =>
   obtain ⟨j,_,h2⟩:=V0.1 ha
   have:l ≠ m:=fun e=>by subst e; simp at h2
   simp [this]
  | false =>
   have:l=m:=by
    refine List.ext_getElem h fun i h1 h2=>?_
    cases hc:(l.getD i default != m.getD i default) with
    | true=>rw [V0.2 ⟨i,h1,hc⟩] at ha; cases ha
    | false =>
     simpa [List.getElem?_eq_getElem h1,List.getElem?_eq_getElem h2] using hc
   simp [this]
 ·have hb:((l.length:Int) != (m.length:Int))=true:=by simp only [bne_iff_ne]; omega
  rw [hb]
  have:l ≠ m:=fun e=>h (by rw [e])
  simp [this]
theorem Zl0 (m:List Int) (L:List (List Int)) (e:Int) (hL:L.length≤1000) (hl:∀ l∈L,l.length≤2):loopM (M.J2 m (L,e)) (false,0)=some (decide (m∈L)):=by
 have hM:=Zo
 have key:=GO (f:=M.J2 m (L,e)) (σ:=Bool) (fun i b=>(b,(i:Int))) L.length (fun i b=>b=decide (m∈L.take i)) (fun y=>y=decide (m∈L)) (fun i b hi hb=>?_) (fun b hb=>?_) L.length 0 false (by omega) (by simp)
 ·obtain ⟨y,h1,h2⟩:=key
  rw [← h2]; exact h1
 ·left
  have q1:decide ((0:Int)≤(i:Int))=true:=dt (by omega)
  have q2:decide ((i:Int) < (L.length:Int))=true:=dt (by omega)
  have q0:∀ c:Bool,guardB c true=true:=fun c=>by cases c <;> rfl
  have hm:L.getD i default∈L:=by rw [List.getD_eq_getElem?_getD,List.getElem?_eq_getElem hi]; exact List.getElem_mem hi
  have hk:=ZmO (L.getD i default) m (by have:=hl _ hm; omega)
  refine ⟨decide (m∈L.take (i+1)),?_,rfl⟩
  have ht:decide (m∈L.take (i+1))=(b||decide (L.getD i default=m)):=by
   have e:L.take (i+1)=L.take i++[L[i]]:=by rw [List.take_add_one,List.getElem?_eq_getElem hi]; rfl
   have hmem:m∈L.take (i+1)↔m∈L.take i∨m=L[i]:=by rw [e,List.mem_append,List.mem_singleton]
   have:L.getD i default=L[i]:=by rw [List.getD_eq_getElem?_getD,List.getElem?_eq_getElem hi]; rfl
   rw [this,hb]
   by_cases h3:m∈L.take i
   ·rw [decide_eq_true h3,decide_eq_true (hmem.2 (.inl h3))]; rfl
   ·by_cases h4:L[i]=m
    ·rw [decide_eq_true h4,decide_eq_true (hmem.2 (.inr h4.symm)),Bool.or_true]
    ·rw [decide_eq_false h3,decide_eq_false h4,decide_eq_false fun h=>(hmem.1 h).elim h3 fun h=>h4 h.symm]; rfl
  rw [ht]
  unfold M.J2
  simp only [Int.toNat_natCast,q1,q2,q0,hk,cond_true,gd,List.all_cons,List.all_nil,id,Bool.and_self,gc]
  rw [show wr .i64 ((i:Int)+1)=((i+1:Nat):Int) from Zk8 (n:=L.length) hi (by omega)]
  cases b with
  | true=>rfl
  | false=>rfl
 ·refine ⟨b,?_,by rw [hb,List.take_length]⟩
  unfold M.J2
  simp only [Int.lt_irrefl,decide_false,cond_false]
theorem rng {n:Nat} {a:Int}:(∃ x:Nat,x < n∧(x:Int)=a)↔0≤a∧a < (n:Int) :=
 ⟨fun ⟨x,h1,h2⟩=>by omega,fun ⟨h1,h2⟩=>⟨a.toNat,by omega,by omega⟩⟩
theorem Znj (n:Nat) (l:List Int):l∈FL n 2↔¬ (decide ((l.length:Int) > 2)||anyN (ascC l (n:Int)) l.length)=true:=by
 have e0:(wr .i64 (((1:Nat):Int) - 1)).toNat=0:=by decide
 rcases l with _ | ⟨a,_ | ⟨b,_ | ⟨c,r⟩⟩⟩
 ·simp [FL,anyN]
 ·have h1:([a]:List Int)∈FL n 2↔∃ x:Nat,x < n∧(x:Int)=a:=by simp [FL]
  rw [h1,rng]
  simp [anyN,ascC]
 ·have h1:([a,b]:List Int)∈FL n 2↔∃ x:Nat,x < n∧∃ y:Nat,(y < n∧x < y)∧(x:Int)=a∧(y:Int)=b:=by simp [FL]
  rw [h1]
  have h2:(∃ x:Nat,x < n∧∃ y:Nat,(y < n∧x < y)∧(x:Int)=a∧(y:Int)=b)↔0≤a∧a < b∧b < (n:Int) :=
   ⟨fun ⟨x,h1,y,h2,h3,h4⟩=>by omega,fun ⟨h1,h2,h3⟩=>⟨a.toNat,by omega,b.toNat,by omega,by omega,by omega⟩⟩
  rw [h2]
  have h3:anyN (ascC [a,b] (n:Int)) 2=((decide (a < 0)||decide (a ≥ (n:Int)))||((decide (b < 0)||decide (b ≥ (n:Int)))||decide (b≤a))):=by
   show ((false||ascC [a,b] (n:Int) 0)||ascC [a,b] (n:Int) 1)=_
   unfold ascC
   rw [e0]
   simp
  rw [show ([a,b]:List Int).length=2 from rfl,h3]
  simp
  omega
 ·refine ⟨fun h=>?_,fun h=>?_⟩
  ·have:=ZlZ h; simp at this
  ·exact absurd (by simp; left; omega) h
theorem Zbj (a0:ZP) (a1:List Int) (w0:Rd a0) (_w1:(a1.length≤maxLen∧a1.length*8≤reachBytes∧∀ y∈a1,(Lit.int .i64 y).wf=true)):M.Uc a0 a1=some true:=by
 have ha:=ZgB w0
 unfold M.Uc
 rw [Zgy a0 ha]
 simp only [Option.bind_some]
 cases hs:S.VA a0 with
 | false=>rfl
 | true =>
  simp only [Bool.not_true,Bool.false_or]
  cases hd:decide ((a1.length:Int) > 6) with
  | true=>rfl
  | false =>
   have hlen:a1.length≤6:=by have:=of_decide_eq_false hd; omega
   obtain ⟨hR,hI⟩:=ZiB hs
   have hq:=ZmG a0 (Zg0 hs)
   simp only [cond_false]
   rcases Zkz ha hR hI with ⟨g1,g2⟩ | ⟨g1,E,g2,g3,g4,_⟩
   ·rw [g2]
    simp only [Option.bind_some]
    rw [bne_iff_ne.2 g1]
    rfl
   ·rcases ZkA ha hR hI with ⟨h1,_⟩ | ⟨h1,D,h2,h3,h4⟩
    ·exact absurd (hq.trans g1) h1
    ·obtain rfl:=Zje h3 g3 h4 g4
     rw [g2]
     simp only [Option.bind_some]
     cases ht:decide (((rlks D D.length).length:Int) > 12) with
     | true =>
      have:topoOf D=(⟨[],[]⟩,7):=by unfold topoOf; rw [ht]; rfl
      rw [this]; rfl
     | false =>
      have htp:topoOf D=(⟨D,rlks D D.length⟩,0):=by unfold topoOf; rw [ht]; rfl
      have h12:((rlks D D.length).length:Int)≤12:=by have:=of_decide_eq_false ht; omega
      rw [htp] at h2
      obtain ⟨v,hv⟩:=ZlX w0 hs h2 (l:=a1) (by omega)
      obtain ⟨f1,f2⟩:=Znq (a:=((rlks D D.length).length:Int)) (b:=2) (by omega) h12 (by omega) (by omega)
      have f3:=Zl0 a1 (FL ((rlks D D.length).length:Int).toNat (2:Int).toNat) 0 f2 (fun l hl=>ZlZ hl)
      rw [htp]
      simp only [bne_self_eq_false,cond_false,f1,hv,Option.bind_some,ZhC,Zkn]
      rw [f3]
      have hm:=Znj (rlks D D.length).length a1
      simp only [Option.bind_some,Int.toNat_natCast,show (2:Int).toNat=2 from rfl,hm]
      cases decide ((a1.length:Int) > 2)||anyN (ascC a1 ((rlks D D.length).length:Int)) a1.length <;> rfl
end Nv
