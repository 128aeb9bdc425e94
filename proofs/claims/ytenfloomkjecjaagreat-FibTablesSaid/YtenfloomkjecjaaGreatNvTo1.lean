/- Broadcast domains as groups of ends with one key: what a list of domains must be. No condition. -/
import Derived.Test.YtenfloomkjecjaaGreatNvD1
import Derived.Test.YtenfloomkjecjaaGreatNvLibB
namespace Nv
open Go
theorem W1 {σ τ β:Type} {f:τ→Option (τ ⊕ β)} (mk:Nat→σ→τ) (n:Nat) (J:Nat→σ→Prop) (R:β→Prop)
  (step:∀ i s,i < n→J i s→(∃ s',f (mk i s)=some (.inl (mk (i+1) s'))∧J (i+1) s')∨∃ y,f (mk i s)=some (.inr y)∧R y)
  (out:∀ s,J n s→∃ y,f (mk n s)=some (.inr y)∧R y):∀ (k i:Nat) (s:σ),i+k=n→J i s→∃ y,loopM f (mk i s)=some y∧R y
 | 0,i,s,h,hJ=>by
  obtain rfl:i=n:=by omega
  obtain ⟨y,h1,h2⟩:=out s hJ
  exact ⟨y,Q2 (.out h1),h2⟩
 | k+1,i,s,h,hJ=>by
  rcases step i s (by omega) hJ with ⟨s',h1,h2⟩ | ⟨y,h1,h2⟩
  ·obtain ⟨y,h3,h4⟩:=W1 mk n J R step out k (i+1) s' (by omega) h2
   exact ⟨y,Q2 (.next h1 (Wz h3)),h4⟩
  ·exact ⟨y,Q2 (.out h1),h2⟩
theorem up64 {i n:Nat} (h:i < n) (hn:n≤4611686018427387904):wr .i64 ((i:Int)+1)=((i+1:Nat):Int):=ZaF (n:=n) h (by have:=Zn; omega)
abbrev DKey:=Int × Int × Int
abbrev DEnd:=Int × Int
abbrev DItem:=DKey × DEnd
def dkey (d:Zj):DKey:=(d.Zh.Zm,d.Zh.ZE,d.XN)
def dend (e:VL):DEnd:=(e.UQ,e.ZP)
def dends (d:Zj):List DEnd:=d.ZW.map dend
def sel (its:List DItem) (k:DKey):List DEnd:=(its.filter fun x=>decide (x.1=k)).map (·.2)
theorem ZkF (its:List DItem) (x:DItem) (k:DKey):sel (its++[x]) k=sel its k++(if x.1=k then [x.2] else []):=by
 unfold sel
 rw [List.filter_append,List.map_append]
 congr 1
 by_cases h:x.1=k <;> simp [h]
theorem ZnV {its:List DItem} {k:DKey} {e:DEnd}:e∈sel its k↔(k,e)∈its:=by
 unfold sel
 simp only [List.mem_map,List.mem_filter,decide_eq_true_eq]
 constructor
 ·rintro ⟨⟨k',e'⟩,⟨h1,h2⟩,h3⟩
  simp only at h2 h3
  rw [← h2,← h3]; exact h1
 ·exact fun h=>⟨(k,e),⟨h,rfl⟩,rfl⟩
structure Grp (its:List DItem) (D:List Zj):Prop where
 nd:(D.map dkey).Nodup
 ends:∀ d∈D,dends d=sel its (dkey d)
 ne:∀ d∈D,dends d ≠ []
 cov:∀ x∈its,∃ d∈D,dkey d=x.1
 len:D.length≤its.length
theorem ZnW:Grp [] []:=⟨List.nodup_nil,fun _ h=>absurd h List.not_mem_nil,fun _ h=>absurd h List.not_mem_nil,fun _ h=>absurd h List.not_mem_nil,Nat.le_refl _⟩
theorem Grp.perm {its:List DItem} {D D':List Zj} (h:Grp its D) (p:D.Perm D'):Grp its D' :=
 ⟨(p.map dkey).nodup_iff.1 h.nd,fun d hd=>h.ends d (p.mem_iff.2 hd),fun d hd=>h.ne d (p.mem_iff.2 hd),fun x hx=>by obtain ⟨d,h1,h2⟩:=h.cov x hx; exact ⟨d,p.mem_iff.1 h1,h2⟩,by rw [← p.length_eq]; exact h.len⟩
theorem ZmU {its:List DItem} {D:List Zj} (h:Grp its D) {k:DKey} (hk:∀ d∈D,dkey d ≠ k):sel its k=[]:=by
 rcases hs:sel its k with _ | ⟨e,l⟩
 ·rfl
 ·have h1:(k,e)∈its:=ZnV.1 (by rw [hs]; exact List.mem_cons_self)
  obtain ⟨d,h2,h3⟩:=h.cov _ h1
  exact absurd h3 (hk d h2)
theorem Grp.add {its:List DItem} {D:List Zj} (h:Grp its D) (d:Zj) (e:DEnd) (hk:∀ c∈D,dkey c ≠ dkey d) (he:dends d=[e]):Grp (its++[(dkey d,e)]) (D++[d]) where
 nd:=by
  rw [List.map_append,List.nodup_append]
  refine ⟨h.nd,by simp,fun a ha b hb=>?_⟩
  simp only [List.map_cons,List.map_nil,List.mem_singleton] at hb
  obtain ⟨c,h1,h2⟩:=List.mem_map.1 ha
  rw [← h2,hb]
  exact hk c h1
 ends c hc:=by
  rw [ZkF]
  rcases List.mem_append.1 hc with h1 | h1
  ·rw [h.ends c h1,if_neg (fun hh=>hk c h1 hh.symm),List.append_nil]
  ·obtain rfl:=List.mem_singleton.1 h1
   rw [ZmU h hk,he]; simp
 ne c hc:=by
  rcases List.mem_append.1 hc with h1 | h1
  ·exact h.ne c h1
  ·rw [List.mem_singleton.1 h1,he]; simp
 cov x hx:=by
  rcases List.mem_append.1 hx with h1 | h1
  ·obtain ⟨c,h2,h3⟩:=h.cov x h1
   exact ⟨c,List.mem_append_left _ h2,h3⟩
  ·rw [List.mem_singleton.1 h1]; exact ⟨d,by simp,rfl⟩
 len:=by have:=h.len; simp; omega
theorem Ze1 {D:List Zj} {j:Nat} (hj:j < D.length):D.getD j default∈D:=by
 rw [List.getD_eq_getElem?_getD,List.getElem?_eq_getElem hj]; exact List.getElem_mem hj
theorem ZbW {D:List Zj} {j:Nat} {d:Zj} (hj:j < D.length) (hd:dkey d=dkey (D.getD j default)):(D.set j d).map dkey=D.map dkey:=by
 rw [List.map_set]
 apply List.ext_getElem (by simp)
 intro i h1 h2
 rw [List.getElem_set]
 split
 ·rename_i hi; subst hi
  rw [hd,List.getD_eq_getElem?_getD,List.getElem?_eq_getElem hj]; simp
 ·rfl
theorem Grp.grow {its:List DItem} {D:List Zj} (h:Grp its D) {j:Nat} (hj:j < D.length) (d:Zj) (e:DEnd) (hk:dkey d=dkey (D.getD j default)) (he:dends d=dends (D.getD j default)++[e]):Grp (its++[(dkey d,e)]) (D.set j d) where
 nd:=by rw [ZbW hj hk]; exact h.nd
 ends c hc:=by
  rw [ZkF]
  obtain ⟨i,hi,hci⟩:=List.getElem_of_mem hc
  rw [List.getElem_set] at hci
  rw [List.length_set] at hi
  have hgj:=Ze1 hj
  split at hci
  ·subst hci
   rw [if_pos rfl,he,h.ends _ hgj,hk]
  ·rename_i hne
   have hcD:c∈D:=hci ▸ List.getElem_mem hi
   have hcj:dkey c ≠ dkey d:=fun hh=>by
    have:(D.map dkey)[i]'(by simpa using hi)=(D.map dkey)[j]'(by simpa using hj):=by
     simp only [List.getElem_map]
     rw [hci,hh,hk,List.getD_eq_getElem?_getD,List.getElem?_eq_getElem hj]; rfl
    exact hne ((List.getElem_inj h.nd).1 this).symm
   rw [if_neg (fun hh=>hcj hh.symm),List.append_nil]
   exact h.ends c hcD
 ne c hc:=by
  rcases List.mem_or_eq_of_mem_set hc with h1 | h1
  ·exact h.ne c h1
  ·rw [h1,he]; simp
 cov x hx:=by
  have key:∀ k,(∃ c∈D,dkey c=k)→∃ c∈D.set j d,dkey c=k:=fun k ⟨c,h1,h2⟩=>by
   have:k∈(D.set j d).map dkey:=by rw [ZbW hj hk]; exact List.mem_map.2 ⟨c,h1,h2⟩
   obtain ⟨c',h3,h4⟩:=List.mem_map.1 this
   exact ⟨c',h3,h4⟩
  rcases List.mem_append.1 hx with h1 | h1
  ·exact key _ (h.cov x h1)
  ·rw [List.mem_singleton.1 h1]
   exact key _ ⟨_,Ze1 hj,hk.symm⟩
 len:=by have:=h.len; simp; omega
def klt (x y:DKey):Prop:=x.1 < y.1∨(x.1=y.1∧(x.2.1 < y.2.1∨(x.2.1=y.2.1∧x.2.2 < y.2.2)))
theorem ZkG (x:DKey):¬ klt x x:=by unfold klt; omega
theorem ZhA {x y z:DKey} (h:klt x y) (k:klt y z):klt x z:=by unfold klt at *; omega
theorem Zlt (x y:DKey):klt x y∨x=y∨klt y x:=by
 obtain ⟨a,b,c⟩:=x
 obtain ⟨a',b',c'⟩:=y
 unfold klt
 simp only [Prod.mk.injEq]
 omega
def Asc (D:List Zj):Prop:=D.Pairwise fun x y=>klt (dkey x) (dkey y)
def netP (a n:Int):ZL:=⟨bitD .and .u32 a (mk32 n),cl32 n⟩
def ifc (n:ZI) (r i:Nat):ZA:=(n.Ze.getD r default).Zc.getD i default
def nif (n:ZI) (r:Nat):Nat:=(n.Ze.getD r default).Zc.length
def elig (x:ZA):Bool:=!((x.ZE==0)||x.Jx)
def ikey (x:ZA):DKey:=((netP x.Zm x.ZE).Zm,(netP x.Zm x.ZE).ZE,x.XN)
def itI (n:ZI) (r i:Nat):List DItem:=bif elig (ifc n r i) then [(ikey (ifc n r i),((r:Int),(i:Int)))] else []
def itR (n:ZI) (r m:Nat):List DItem:=(List.range m).flatMap (itI n r)
def itN (n:ZI) (m:Nat):List DItem:=(List.range m).flatMap fun r=>itR n r (nif n r)
theorem ZgT (n:ZI) (r m:Nat):itR n r (m+1)=itR n r m++itI n r m:=by simp [itR,List.range_succ]
theorem Zjn (n:ZI) (m:Nat):itN n (m+1)=itN n m++itR n m (nif n m):=by simp [itN,List.range_succ]
theorem Zil (n:ZI) (r:Nat):∀ m,(itR n r m).length≤m
 | 0=>by simp [itR]
 | m+1=>by
  rw [ZgT,List.length_append]
  have:=Zil n r m
  have h:(itI n r m).length≤1:=by unfold itI; cases elig (ifc n r m) <;> simp
  omega
theorem ZfW (n:ZI) {b:Nat} (hb:∀ r,nif n r≤b):∀ m,(itN n m).length≤m*b
 | 0=>by simp [itN]
 | m+1=>by
  rw [Zjn,List.length_append,Nat.succ_mul]
  have:=ZfW n hb m
  have h1:=Zil n m (nif n m)
  have h2:=hb m
  omega
def ApartN (n:ZI):Prop:=∀ r,r < n.Ze.length→∀ i,i < nif n r→∀ k,k < i→elig (ifc n r i)=true→elig (ifc n r k)=true→ikey (ifc n r k) ≠ ikey (ifc n r i)
end Nv
