/- Broadcast domains as groups of ends with one key: what a list of domains must be. No condition. -/
import Derived.Test.YtaienbkgekjdnaaGreatNvD1
import Derived.Test.YtaienbkgekjdnaaGreatNvLibB
namespace Nv
open Go
theorem GO {σ τ β:Type} {f:τ→Option (τ ⊕ β)} (mk:Nat→σ→τ) (n:Nat) (J:Nat→σ→Prop) (R:β→Prop)
  (step:∀ i s,i < n→J i s→(∃ s',f (mk i s)=some (.inl (mk (i+1) s'))∧J (i+1) s')∨∃ y,f (mk i s)=some (.inr y)∧R y)
  (out:∀ s,J n s→∃ y,f (mk n s)=some (.inr y)∧R y):∀ (k i:Nat) (s:σ),i+k=n→J i s→∃ y,loopM f (mk i s)=some y∧R y
 | 0,i,s,h,hJ=>by
  obtain rfl:i=n:=by omega
  obtain ⟨y,h1,h2⟩:=out s hJ
  exact ⟨y,UE (.out h1),h2⟩
 | k+1,i,s,h,hJ=>by
  rcases step i s (by omega) hJ with ⟨s',h1,h2⟩ | ⟨y,h1,h2⟩
  ·obtain ⟨y,h3,h4⟩:=GO mk n J R step out k (i+1) s' (by omega) h2
   exact ⟨y,UE (.next h1 (Wt h3)),h4⟩
  ·exact ⟨y,UE (.out h1),h2⟩
theorem up64 {i n:Nat} (h:i < n) (hn:n≤4611686018427387904):wr .i64 ((i:Int)+1)=((i+1:Nat):Int):=Zk8 (n:=n) h (by have:=Zo; omega)
abbrev DKey:=Int × Int × Int
abbrev DEnd:=Int × Int
abbrev DItem:=DKey × DEnd
def dkey (d:Zk):DKey:=(d.Zp.ZA,d.Zp.ZM,d.XI)
def dend (e:Ue):DEnd:=(e.Zcl,e.Jj)
def dends (d:Zk):List DEnd:=d.Xt.map dend
theorem ZlM {a b:Ue} (h:dend a=dend b):a=b:=by
 cases a; cases b
 simp only [dend,Prod.mk.injEq] at h
 simp [h.1,h.2]
theorem Zee:∀ {l m:List Ue},l.map dend=m.map dend→l=m
 | [],[],_=>rfl
 | [],_ :: _,h=>by cases h
 | _ :: _,[],h=>by cases h
 | a :: l,b :: m,h=>by
  simp only [List.map_cons,List.cons.injEq] at h
  rw [ZlM h.1,Zee h.2]
theorem ZmI {d e:Zk} (h:dkey d=dkey e) (h2:dends d=dends e):d=e:=by
 obtain ⟨⟨a,l⟩,v,es⟩:=d
 obtain ⟨⟨a',l'⟩,v',es'⟩:=e
 simp only [dkey,Prod.mk.injEq] at h
 have:=Zee h2
 simp only at this
 simp [h.1,h.2.1,h.2.2,this]
def sel (its:List DItem) (k:DKey):List DEnd:=(its.filter fun x=>decide (x.1=k)).map (·.2)
theorem ZjH (its:List DItem) (x:DItem) (k:DKey):sel (its++[x]) k=sel its k++(if x.1=k then [x.2] else []):=by
 unfold sel
 rw [List.filter_append,List.map_append]
 congr 1
 by_cases h:x.1=k <;> simp [h]
theorem ZjI {its:List DItem} {k:DKey} {e:DEnd}:e∈sel its k↔(k,e)∈its:=by
 unfold sel
 simp only [List.mem_map,List.mem_filter,decide_eq_true_eq]
 constructor
 ·rintro ⟨⟨k',e'⟩,⟨h1,h2⟩,h3⟩
  simp only at h2 h3
  rw [← h2,← h3]; exact h1
 ·exact fun h=>⟨(k,e),⟨h,rfl⟩,rfl⟩
structure Grp (its:List DItem) (D:List Zk):Prop where
 nd:(D.map dkey).Nodup
 ends:∀ d∈D,dends d=sel its (dkey d)
 ne:∀ d∈D,dends d ≠ []
 cov:∀ x∈its,∃ d∈D,dkey d=x.1
 len:D.length≤its.length
theorem ZjJ:Grp [] []:=⟨List.nodup_nil,fun _ h=>absurd h List.not_mem_nil,fun _ h=>absurd h List.not_mem_nil,fun _ h=>absurd h List.not_mem_nil,Nat.le_refl _⟩
theorem Grp.perm {its:List DItem} {D D':List Zk} (h:Grp its D) (p:D.Perm D'):Grp its D' :=
 ⟨(p.map dkey).nodup_iff.1 h.nd,fun d hd=>h.ends d (p.mem_iff.2 hd),fun d hd=>h.ne d (p.mem_iff.2 hd),fun x hx=>by obtain ⟨d,h1,h2⟩:=h.cov x hx; exact ⟨d,p.mem_iff.1 h1,h2⟩,by rw [← p.length_eq]; exact h.len⟩
theorem ZlN {its:List DItem} {D:List Zk} (h:Grp its D) {k:DKey} (hk:∀ d∈D,dkey d ≠ k):sel its k=[]:=by
 rcases hs:sel its k with _ | ⟨e,l⟩
 ·rfl
 ·have h1:(k,e)∈its:=ZjI.1 (by rw [hs]; exact List.mem_cons_self)
  obtain ⟨d,h2,h3⟩:=h.cov _ h1
  exact absurd h3 (hk d h2)
theorem Grp.add {its:List DItem} {D:List Zk} (h:Grp its D) (d:Zk) (e:DEnd) (hk:∀ c∈D,dkey c ≠ dkey d) (he:dends d=[e]):Grp (its++[(dkey d,e)]) (D++[d]) where
 nd:=by
  rw [List.map_append,List.nodup_append]
  refine ⟨h.nd,by simp,fun a ha b hb=>?_⟩
  simp only [List.map_cons,List.map_nil,List.mem_singleton] at hb
  obtain ⟨c,h1,h2⟩:=List.mem_map.1 ha
  rw [← h2,hb]
  exact hk c h1
 ends c hc:=by
  rw [ZjH]
  rcases List.mem_append.1 hc with h1 | h1
  ·rw [h.ends c h1,if_neg (fun hh=>hk c h1 hh.symm),List.append_nil]
  ·obtain rfl:=List.mem_singleton.1 h1
   rw [ZlN h hk,he]; simp
 ne c hc:=by
  rcases List.mem_append.1 hc with h1 | h1
  ·exact h.ne c h1
  ·rw [List.mem_singleton.1 h1,he]; simp
 cov x hx:=by
  rcases List.mem_append.1 hx with h1 | h1
  ·obtain ⟨c,h2,h3⟩:=h.cov x h1
   exact ⟨c,List.mem_append_left _ h2,h3⟩
  ·rw [List.mem_singleton.1 h1]; exact ⟨d,by simp,rfl⟩
 len:=by have:=h.len; simp; omega
theorem Zcn {D:List Zk} {j:Nat} (hj:j < D.length):D.getD j default∈D:=by
 rw [List.getD_eq_getElem?_getD,List.getElem?_eq_getElem hj]; exact List.getElem_mem hj
theorem Zca {D:List Zk} {j:Nat} {d:Zk} (hj:j < D.length) (hd:dkey d=dkey (D.getD j default)):(D.set j d).map dkey=D.map dkey:=by
 rw [List.map_set]
 apply List.ext_getElem (by simp)
 intro i h1 h2
 rw [List.getElem_set]
 split
 ·rename_i hi; subst hi
  rw [hd,List.getD_eq_getElem?_getD,List.getElem?_eq_getElem hj]; simp
 ·rfl
theorem Grp.grow {its:List DItem} {D:List Zk} (h:Grp its D) {j:Nat} (hj:j < D.length) (d:Zk) (e:DEnd) (hk:dkey d=dkey (D.getD j default)) (he:dends d=dends (D.getD j default)++[e]):Grp (its++[(dkey d,e)]) (D.set j d) where
 nd:=by rw [Zca hj hk]; exact h.nd
 ends c hc:=by
  rw [ZjH]
  obtain ⟨i,hi,hci⟩:=List.getElem_of_mem hc
  rw [List.getElem_set] at hci
  rw [List.length_set] at hi
  have hgj:=Zcn hj
  split at hci
  ·subst hci
   rw [if_pos rfl,he,h.ends _ hgj,hk]
  ·rename_i hne
   have hcD:c∈D:=hci ▸ List.getElem_mem hi
   have hcj:dkey c ≠ dkey d:=fun hh=>by
    have:(D.map dkey)[i]'(by simpa using hi)=(D.map dkey)[j]'(by simpa using hj):=by
     simp only [List.getElem_map]
     rw [hci,hh,hk,List.getD_eq_getElem?_getD,List.getElem?_eq_getElem hj]; rfl
    exact hne ((List.getElem_inj h.nd).1 this).symm
   rw [if_neg (fun hh=>hcj hh.symm),List.append_nil]
   exact h.ends c hcD
 ne c hc:=by
  rcases List.mem_or_eq_of_mem_set hc with h1 | h1
  ·exact h.ne c h1
  ·rw [h1,he]; simp
 cov x hx:=by
  have key:∀ k,(∃ c∈D,dkey c=k)→∃ c∈D.set j d,dkey c=k:=fun k ⟨c,h1,h2⟩=>by
   have:k∈(D.set j d).map dkey:=by rw [Zca hj hk]; exact List.mem_map.2 ⟨c,h1,h2⟩
   obtain ⟨c',h3,h4⟩:=List.mem_map.1 this
   exact ⟨c',h3,h4⟩
  rcases List.mem_append.1 hx with h1 | h1
  ·exact key _ (h.cov x h1)
  ·rw [List.mem_singleton.1 h1]
   exact key _ ⟨_,Zcn hj,hk.symm⟩
 len:=by have:=h.len; simp; omega
theorem ZgY {α:Type} {lt:α→α→Prop} (irr:∀ x,¬ lt x x) (tr:∀ x y z,lt x y→lt y z→lt x z):∀ {l m:List α},l.Pairwise lt→m.Pairwise lt→(∀ x,x∈l↔x∈m)→l=m
 | [],[],_,_,_=>rfl
 | [],b :: m,_,_,h=>absurd ((h b).2 List.mem_cons_self) List.not_mem_nil
 | a :: l,[],_,_,h=>absurd ((h a).1 List.mem_cons_self) List.not_mem_nil
 | a :: l,b :: m,hl,hm,h=>by
  obtain ⟨hl1,hl2⟩:=List.pairwise_cons.1 hl
  obtain ⟨hm1,hm2⟩:=List.pairwise_cons.1 hm
  have hab:a=b:=by
   rcases List.mem_cons.1 ((h a).1 List.mem_cons_self) with e | h1
   ·exact e
   ·rcases List.mem_cons.1 ((h b).2 List.mem_cons_self) with e | h2
    ·exact e.symm
    ·exact absurd (tr _ _ _ (hm1 a h1) (hl1 b h2)) (irr b)
  subst hab
  congr 1
  refine ZgY irr tr hl2 hm2 fun x=>⟨fun hx=>?_,fun hx=>?_⟩
  ·rcases List.mem_cons.1 ((h x).1 (List.mem_cons_of_mem _ hx)) with e | h1
   ·subst e; exact absurd (hl1 x hx) (irr x)
   ·exact h1
  ·rcases List.mem_cons.1 ((h x).2 (List.mem_cons_of_mem _ hx)) with e | h1
   ·subst e; exact absurd (hm1 x hx) (irr x)
   ·exact h1
def klt (x y:DKey):Prop:=x.1 < y.1∨(x.1=y.1∧(x.2.1 < y.2.1∨(x.2.1=y.2.1∧x.2.2 < y.2.2)))
theorem ZhJ (x:DKey):¬ klt x x:=by unfold klt; omega
theorem ZeK {x y z:DKey} (h:klt x y) (k:klt y z):klt x z:=by unfold klt at *; omega
theorem ZgZ (x y:DKey):klt x y∨x=y∨klt y x:=by
 obtain ⟨a,b,c⟩:=x
 obtain ⟨a',b',c'⟩:=y
 unfold klt
 simp only [Prod.mk.injEq]
 omega
def Asc (D:List Zk):Prop:=D.Pairwise fun x y=>klt (dkey x) (dkey y)
theorem ZjK {its:List DItem} {D D':List Zk} (h:Grp its D) (h':Grp its D') {d:Zk} (hd:d∈D):d∈D':=by
 have h1:=h.ends d hd
 have h2:=h.ne d hd
 rcases hs:sel its (dkey d) with _ | ⟨e,l⟩
 ·rw [h1,hs] at h2; exact absurd rfl h2
 ·have h3:(dkey d,e)∈its:=ZjI.1 (by rw [hs]; exact List.mem_cons_self)
  obtain ⟨d',h4,h5⟩:=h'.cov _ h3
  have:d=d':=ZmI h5.symm (by rw [h1,h'.ends d' h4,h5])
  rw [this]; exact h4
theorem Zje {its:List DItem} {D D':List Zk} (h:Grp its D) (h':Grp its D') (s:Asc D) (s':Asc D'):D=D' :=
 ZgY (lt:=fun x y=>klt (dkey x) (dkey y)) (fun _=>ZhJ _) (fun _ _ _ h k=>ZeK h k) s s' fun _=>⟨ZjK h h',ZjK h' h⟩
def netP (a n:Int):ZO:=⟨bitD .and .u32 a (mk32 n),cl32 n⟩
def ifc (n:ZP) (r i:Nat):Zx:=(n.Zd.getD r default).Zc.getD i default
def nif (n:ZP) (r:Nat):Nat:=(n.Zd.getD r default).Zc.length
def elig (x:Zx):Bool:=!((x.ZM==0)||x.RB)
def ikey (x:Zx):DKey:=((netP x.ZA x.ZM).ZA,(netP x.ZA x.ZM).ZM,x.XI)
def itI (n:ZP) (r i:Nat):List DItem:=bif elig (ifc n r i) then [(ikey (ifc n r i),((r:Int),(i:Int)))] else []
def itR (n:ZP) (r m:Nat):List DItem:=(List.range m).flatMap (itI n r)
def itN (n:ZP) (m:Nat):List DItem:=(List.range m).flatMap fun r=>itR n r (nif n r)
theorem Zcb (n:ZP) (r m:Nat):itR n r (m+1)=itR n r m++itI n r m:=by simp [itR,List.range_succ]
theorem Zgq (n:ZP) (m:Nat):itN n (m+1)=itN n m++itR n m (nif n m):=by simp [itN,List.range_succ]
theorem Zfu (n:ZP) (r:Nat):∀ m,(itR n r m).length≤m
 | 0=>by simp [itR]
 | m+1=>by
  rw [Zcb,List.length_append]
  have:=Zfu n r m
  have h:(itI n r m).length≤1:=by unfold itI; cases elig (ifc n r m) <;> simp
  omega
theorem Zef (n:ZP) {b:Nat} (hb:∀ r,nif n r≤b):∀ m,(itN n m).length≤m*b
 | 0=>by simp [itN]
 | m+1=>by
  rw [Zgq,List.length_append,Nat.succ_mul]
  have:=Zef n hb m
  have h1:=Zfu n m (nif n m)
  have h2:=hb m
  omega
end Nv
