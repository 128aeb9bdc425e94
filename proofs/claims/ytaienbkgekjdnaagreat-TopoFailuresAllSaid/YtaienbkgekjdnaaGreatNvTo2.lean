/- The program's topology: collected, sorted, with its links. No condition but the bounds of what comes in. -/
import Derived.Test.YtaienbkgekjdnaaGreatNvTo1
import Derived.Test.YtaienbkgekjdnaaGreatNvTs
import Derived.Test.YtaienbkgekjdnaaGreatNvT1
import Derived.Test.YtaienbkgekjdnaaGreatNvLibC
set_option maxRecDepth 100000
namespace Nv
open Go Go.Sort Go.Proofs
theorem Znp (a n:Int):M.YY a n=some (netP a n):=by
 rw [Rg]
 rfl
def tkey (d:Zk):Xc:=⟨d.Zp,d.XI⟩
def kof (k:Xc):DKey:=(k.RD.ZA,k.RD.ZM,k.ZjD)
theorem ZgH (a b:Xc):topoKeyEq a b=decide (kof a=kof b):=by
 rw [Bool.eq_iff_iff,decide_eq_true_eq]
 unfold topoKeyEq kof
 simp only [Bool.and_true,Bool.and_eq_true,beq_iff_eq,Prod.mk.injEq]
 exact ⟨fun ⟨⟨h1,h2⟩,h3⟩=>⟨h1,h2,h3⟩,fun ⟨h1,h2,h3⟩=>⟨⟨h1,h2⟩,h3⟩⟩
def ix:Nat→List Zk→List (Xc × Int)
 | _,[]=>[]
 | o,d :: l=>(tkey d,(o:Int)) :: ix (o+1) l
theorem ZhK:∀ (o:Nat) (l:List Zk) (d:Zk),ix o (l++[d])=ix o l++[(tkey d,((o+l.length:Nat):Int))]
 | o,[],d=>by simp [ix]
 | o,c :: l,d=>by
  simp only [List.cons_append,ix,ZhK (o+1) l d,List.length_cons]
  rw [show o+1+l.length=o+(l.length+1) by omega]
theorem ZlO:∀ (o:Nat) (l m:List Zk),l.map tkey=m.map tkey→ix o l=ix o m
 | _,[],[],_=>rfl
 | _,[],_ :: _,h=>by cases h
 | _,_ :: _,[],h=>by cases h
 | o,c :: l,d :: m,h=>by
  simp only [List.map_cons,List.cons.injEq] at h
  simp only [ix,h.1,ZlO (o+1) l m h.2]
theorem Zne (o:Nat) (D:List Zk) (j:Nat) (d:Zk) (hd:tkey d=tkey (D.getD j default)):ix o (D.set j d)=ix o D:=by
 apply ZlO
 rw [List.map_set]
 apply List.ext_getElem (by simp)
 intro i h1 h2
 rw [List.getElem_set]
 split
 ·rename_i hi; subst hi
  have hj:j < D.length:=by simpa using h2
  rw [hd,List.getD_eq_getElem?_getD,List.getElem?_eq_getElem hj]; simp
 ·rfl
theorem ZmR (k:Xc):∀ (D:List Zk) (o:Nat),((∀ d∈D,dkey d ≠ kof k)∧(lkM (topoKeyEq k) (ix o D)).2=false)∨∃ j,j < D.length∧dkey (D.getD j default)=kof k∧lkM (topoKeyEq k) (ix o D)=(((o+j:Nat):Int),true)
 | [],o=>.inl ⟨fun _ h=>absurd h List.not_mem_nil,rfl⟩
 | d :: l,o=>by
  have hq:topoKeyEq k (tkey d)=decide (kof k=dkey d):=ZgH _ _
  by_cases h:kof k=dkey d
  ·right
   refine ⟨0,by simp,h.symm,?_⟩
   simp only [ix,lkM,hq,h,decide_true,cond_true]
   rfl
  ·simp only [ix,lkM,hq,decide_eq_false h,cond_false]
   rcases ZmR k l (o+1) with ⟨h1,h2⟩ | ⟨j,h1,h2,h3⟩
   ·left
    refine ⟨fun c hc=>?_,h2⟩
    rcases List.mem_cons.1 hc with rfl | hc
    ·exact fun hh=>h hh.symm
    ·exact h1 c hc
   ·right
    refine ⟨j+1,by simp; omega,by simpa using h2,?_⟩
    rw [h3,show o+1+j=o+(j+1) by omega]
section
variable {a0:ZP}
theorem Zku {r i:Nat} {D:List Zk} {its:List DItem} (hD:Grp its D) {j:Nat} (hj:j < D.length) (hb:its.length≤1000) (hi:i≤1000) (p:List Zk × List (Xc × Int)) (ixs:List (Xc × Int)) :
  M.Jh (r:Int) (p.1,p.2,(i:Int)) (D,ixs,(j:Int))=some (.inl (D.set j ⟨(D.getD j default).Zp,(D.getD j default).XI,(D.getD j default).Xt++[⟨(r:Int),(i:Int)⟩]⟩,ixs,((i+1:Nat):Int))):=by
 have hl:(D.getD j default).Xt.length≤its.length:=by
  have h1:=congrArg List.length (hD.ends _ (Zcn hj))
  unfold dends sel at h1
  rw [List.length_map,List.length_map] at h1
  rw [h1]
  exact List.length_filter_le _ _
 unfold M.Jh
 simp only [Int.toNat_natCast,Nat.zero_add]
 refine YD (Zw (dt (by omega)) (Zw (dt (by omega)) (Zw (dt (by omega)) XP))) ?_
 rw [up64 (n:=2000) (by omega) (by omega)]
theorem Zkv {r:Nat} (hr:r < a0.Zd.length) (hI:nif a0 r≤12) {its:List DItem} (hb:its.length≤900) {D:List Zk} (hD:Grp its D) :
  ∃ D',loopM (M.Q3 a0 (r:Int)) (D,ix 0 D,0)=some (D',ix 0 D')∧Grp (its++itR a0 r (nif a0 r)) D':=by
 have h:=GO (f:=M.Q3 a0 (r:Int)) (σ:=List Zk) (fun i D=>(D,ix 0 D,(i:Int))) (nif a0 r) (fun i D=>Grp (its++itR a0 r i) D) (fun y=>∃ D',y=(D',ix 0 D')∧Grp (its++itR a0 r (nif a0 r)) D')
  (fun i D hi hJ=>?_) (fun D hJ=>?_) (nif a0 r) 0 D (by omega) (by simpa [itR] using hD)
 ·obtain ⟨y,h1,D',rfl,h3⟩:=h
  exact ⟨D',h1,h3⟩
 ·left
  have hlen:(its++itR a0 r i).length≤1000:=by
   have:=Zfu a0 r i
   rw [List.length_append]; omega
  unfold M.Q3
  simp only [Int.toNat_natCast]
  rw [show (a0.Zd.getD r default).Zc.getD i default=ifc a0 r i from rfl]
  have hi':(i:Int) < (((a0.Zd.getD r default).Zc).length:Int):=Int.ofNat_lt.2 hi
  rw [dt hi',cond_true]
  simp only [gd,List.all_cons,List.all_nil,dt hi',dt (show (0:Int)≤(i:Int) by omega),id,Bool.and_self,cond_true,Bool.true_and,Znp,Option.bind_some]
  cases he:(((ifc a0 r i).ZM==0)||(ifc a0 r i).RB) with
  | true =>
   refine ⟨D,?_,?_⟩
   ·rw [cond_true,up64 (n:=2000) (by omega) (by omega)]
   ·rw [Zcb]
    have:elig (ifc a0 r i)=false:=by unfold elig; rw [he]; rfl
    rw [show itI a0 r i=[] by unfold itI; rw [this]; rfl,List.append_nil]
    exact hJ
  | false =>
   have hel:elig (ifc a0 r i)=true:=by unfold elig; rw [he]; rfl
   have hit:its++itR a0 r (i+1)=(its++itR a0 r i)++[(ikey (ifc a0 r i),((r:Int),(i:Int)))]:=by
    rw [Zcb,show itI a0 r i=[(ikey (ifc a0 r i),((r:Int),(i:Int)))] by unfold itI; rw [hel]; rfl,List.append_assoc]
   rw [cond_false]
   have hl2:=hJ.len
   rcases ZmR ⟨netP (ifc a0 r i).ZA (ifc a0 r i).ZM,(ifc a0 r i).XI⟩ D 0 with ⟨h1,h2⟩ | ⟨j,h1,h2,h3⟩
   ·rw [h2]
    simp only [Bool.not_false,cond_true]
    rw [dt (show (D.length+1)*48≤140737488355328 by omega),Bool.and_self,cond_true]
    have hx:ix 0 D++[((⟨netP (ifc a0 r i).ZA (ifc a0 r i).ZM,(ifc a0 r i).XI⟩:Xc),(D.length:Int))]=ix 0 (D++[⟨netP (ifc a0 r i).ZA (ifc a0 r i).ZM,(ifc a0 r i).XI,[]⟩]):=by
     rw [ZhK,Nat.zero_add]; rfl
    have hg:(D++[(⟨netP (ifc a0 r i).ZA (ifc a0 r i).ZM,(ifc a0 r i).XI,[]⟩:Zk)]).getD D.length default=⟨netP (ifc a0 r i).ZA (ifc a0 r i).ZM,(ifc a0 r i).XI,[]⟩:=by simp
    refine ⟨D++[⟨netP (ifc a0 r i).ZA (ifc a0 r i).ZM,(ifc a0 r i).XI,[⟨(r:Int),(i:Int)⟩]⟩],?_,?_⟩
    ·rw [hx]
     unfold M.Jh
     simp only [Int.toNat_natCast,Nat.zero_add,hg]
     refine YD (Zw (dt (by omega)) (Zw (dt (by simp; omega)) (Zw (dt (by simp)) XP))) ?_
     have hs:(D++[(⟨netP (ifc a0 r i).ZA (ifc a0 r i).ZM,(ifc a0 r i).XI,[]⟩:Zk)]).set D.length ⟨netP (ifc a0 r i).ZA (ifc a0 r i).ZM,(ifc a0 r i).XI,[]++[⟨(r:Int),(i:Int)⟩]⟩=D++[⟨netP (ifc a0 r i).ZA (ifc a0 r i).ZM,(ifc a0 r i).XI,[⟨(r:Int),(i:Int)⟩]⟩]:=by
      rw [List.set_append_right _ _ (Nat.le_refl _)]; simp
     rw [hs,up64 (n:=2000) (by omega) (by omega),ZhK,ZhK]
     rfl
    ·rw [hit]
     exact hJ.add ⟨netP (ifc a0 r i).ZA (ifc a0 r i).ZM,(ifc a0 r i).XI,[⟨(r:Int),(i:Int)⟩]⟩ _ h1 rfl
   ·rw [h3]
    simp only [Bool.not_true,cond_false,Nat.zero_add]
    refine ⟨D.set j ⟨(D.getD j default).Zp,(D.getD j default).XI,(D.getD j default).Xt++[⟨(r:Int),(i:Int)⟩]⟩,?_,?_⟩
    ·have hix:ix 0 (D.set j ⟨(D.getD j default).Zp,(D.getD j default).XI,(D.getD j default).Xt++[⟨(r:Int),(i:Int)⟩]⟩)=ix 0 D:=Zne 0 D j _ rfl
     rw [Zku hJ h1 hlen (by omega) (D,ix 0 D),hix]
    ·rw [hit]
     have hk:ikey (ifc a0 r i)=dkey (⟨(D.getD j default).Zp,(D.getD j default).XI,(D.getD j default).Xt++[⟨(r:Int),(i:Int)⟩]⟩:Zk):=h2.symm
     rw [hk]
     exact hJ.grow h1 _ _ rfl (by simp [dends,dend])
 ·unfold M.Q3
  simp only [Int.toNat_natCast]
  rw [decide_eq_false (show ¬ ((nif a0 r:Int) < (((a0.Zd.getD r default).Zc).length:Int)) from fun h=>Nat.lt_irrefl _ (Int.ofNat_lt.1 h)),cond_false]
  exact ⟨_,rfl,D,rfl,hJ⟩
theorem Zjf (hR:a0.Zd.length≤9) (hI:∀ r,nif a0 r≤12):∃ D,M.Wn a0=some D∧Grp (itN a0 a0.Zd.length) D:=by
 have h:=GO (f:=M.Jz a0) (σ:=List Zk) (fun i D=>(D,ix 0 D,(i:Int))) a0.Zd.length (fun i D=>Grp (itN a0 i) D) (fun y=>Grp (itN a0 a0.Zd.length) y)
  (fun i D hi hJ=>?_) (fun D hJ=>?_) a0.Zd.length 0 [] (by omega) (by simpa [itN] using ZjJ)
 ·obtain ⟨y,h1,h3⟩:=h
  refine ⟨y,?_,h3⟩
  unfold M.Wn
  rw [show (([]:List Zk),([]:List (Xc × Int)),(0:Int))=(([]:List Zk),ix 0 [],((0:Nat):Int)) from rfl,h1]
  rfl
 ·left
  unfold M.Jz
  have hi':(i:Int) < (a0.Zd.length:Int):=Int.ofNat_lt.2 hi
  simp only [dt hi',cond_true,gd,List.all_cons,List.all_nil,dt (show (0:Int)≤(i:Int) by omega),id,Bool.and_self]
  have hl:=Zef a0 hI i
  obtain ⟨D',h1,h2⟩:=Zkv (a0:=a0) hi (hI i) (its:=itN a0 i) (by have:i*12≤9*12:=Nat.mul_le_mul_right _ (by omega); omega) hJ
  refine ⟨D',?_,by rw [Zgq]; exact h2⟩
  rw [h1]
  simp only [Option.bind_some]
  rw [up64 (n:=2000) (by omega) (by omega)]
 ·unfold M.Jz
  simp only [Int.lt_irrefl,decide_false,cond_false]
  exact ⟨D,rfl,hJ⟩
end
theorem ZjL (x y:Zk):dlt x y↔klt (dkey x) (dkey y):=Iff.rfl
theorem ZmJ {its:List DItem} {D:List Zk} (h:Grp its D) (hb:its.length≤1000):∃ E,M.XJ D=some E∧E.length=D.length∧Grp its E∧Asc E:=by
 have hl:=h.len
 have hap:Apart (ltOf dcf) D:=by
  have hn:=h.nd
  unfold List.Nodup at hn
  rw [List.pairwise_map] at hn
  refine hn.imp fun {x y} hne=>?_
  rw [ZeJ,ZeJ,decide_eq_true_eq,decide_eq_true_eq,ZjL,ZjL]
  rcases ZgZ (dkey x) (dkey y) with h1 | h1 | h1
  ·exact .inl h1
  ·exact absurd h1 hne
  ·exact .inr h1
 obtain ⟨h1,h2,h3⟩:=Zbx ZhI D
 refine ⟨sortP dcf D,Zls ZjG ZhI (by omega) hap,h1,h.perm h2.symm,?_⟩
 refine (ZdH h2 hap h3).imp fun {x y} hh=>?_
 rw [ZeJ,decide_eq_true_eq] at hh
 exact hh
def lks (D:List Zk) (m:Nat):List Int:=((List.range m).filter fun i=>decide (2≤(D.getD i default).Xt.length)).map fun (i:Nat)=>(i:Int)
theorem ZlP (D:List Zk) (m:Nat):lks D (m+1)=lks D m++(if 2≤(D.getD m default).Xt.length then [(m:Int)] else []):=by
 unfold lks
 rw [List.range_succ,List.filter_append,List.map_append]
 congr 1
 by_cases h:2≤(D.getD m default).Xt.length
 ·rw [if_pos h,List.filter_cons,if_pos (decide_eq_true h)]; rfl
 ·rw [if_neg h,List.filter_cons,if_neg (by rw [decide_eq_true_eq]; exact h)]; rfl
theorem ZmK (D:List Zk) (m:Nat):(lks D m).length≤m:=by
 unfold lks
 rw [List.length_map]
 exact Nat.le_trans (List.length_filter_le _ _) (by simp)
theorem ZlQ (D:List Zk) (hb:D.length≤1000):loopM (M.Vm D) (([]:List Int),0)=some (lks D D.length):=by
 have h:=GO (f:=M.Vm D) (σ:=List Int) (fun i l=>(l,(i:Int))) D.length (fun i l=>l=lks D i) (fun y=>y=lks D D.length)
  (fun i l hi hJ=>?_) (fun l hJ=>?_) D.length 0 [] (by omega) rfl
 ·obtain ⟨y,h1,rfl⟩:=h
  exact h1
 ·left
  subst hJ
  have hl:=ZmK D i
  unfold M.Vm
  have hi':(i:Int) < (D.length:Int):=Int.ofNat_lt.2 hi
  simp only [dt hi',cond_true,gd,List.all_cons,List.all_nil,dt (show (0:Int)≤(i:Int) by omega),id,Bool.and_self,Int.toNat_natCast,Bool.and_true]
  refine ⟨lks D (i+1),?_,rfl⟩
  rw [ZlP]
  by_cases h2:2≤(D.getD i default).Xt.length
  ·rw [dt (show (((D.getD i default).Xt.length:Int) ≥ 2) by omega),cond_true,dt (show ((lks D i).length+1)*8≤140737488355328 by omega),cond_true,if_pos h2]
   unfold M.J1
   rw [up64 (n:=2000) (by omega) (by omega)]
  ·rw [decide_eq_false (show ¬ (((D.getD i default).Xt.length:Int) ≥ 2) by omega),cond_false,if_neg h2,List.append_nil]
   unfold M.J1
   rw [up64 (n:=2000) (by omega) (by omega)]
 ·subst hJ
  unfold M.Vm
  simp only [Int.lt_irrefl,decide_false,cond_false]
  exact ⟨_,rfl,rfl⟩
end Nv
