/- The reference's topology: ends put into sorted groups one by one. No condition but the bounds of what comes in. -/
import Derived.Test.YtaienbkgekjdnaaGreatNvTo4
import Derived.Test.YtaienbkgekjdnaaGreatNvLibD
set_option maxRecDepth 100000
namespace Nv
open Go
theorem ZmL {D:List Zk} (h:Asc D) {i j:Nat} (hij:i < j) (hj:j < D.length):klt (dkey (D.getD i default)) (dkey (D.getD j default)):=by
 have:=List.pairwise_iff_getElem.1 h i j (by omega) hj hij
 rw [List.getD_eq_getElem?_getD,List.getD_eq_getElem?_getD,List.getElem?_eq_getElem hj,List.getElem?_eq_getElem (show i < D.length by omega)]
 exact this
structure Place (D:List Zk) (key:DKey) (k:Nat):Prop where
 le:k≤D.length
 lo:∀ j,j < k→klt (dkey (D.getD j default)) key
 hi:k < D.length→¬ klt (dkey (D.getD k default)) key
theorem Place.after {D:List Zk} {key:DKey} {k:Nat} (h:Place D key k) (ha:Asc D) (hne:k < D.length→dkey (D.getD k default) ≠ key) {j:Nat} (hk:k≤j) (hj:j < D.length):klt key (dkey (D.getD j default)):=by
 have h1:klt key (dkey (D.getD k default)):=by
  rcases ZgZ (dkey (D.getD k default)) key with g | g | g
  ·exact absurd g (h.hi (by omega))
  ·exact absurd g (hne (by omega))
  ·exact g
 rcases Nat.lt_or_ge k j with g | g
 ·exact ZeK h1 (ZmL ha g hj)
 ·obtain rfl:j=k:=by omega
  exact h1
theorem Zgr {D:List Zk} {d:Zk} (h:d∈D):∃ j,j < D.length∧D.getD j default=d:=by
 obtain ⟨j,hj,hd⟩:=List.getElem_of_mem h
 exact ⟨j,hj,by rw [List.getD_eq_getElem?_getD,List.getElem?_eq_getElem hj]; exact hd⟩
theorem Place.fresh {D:List Zk} {key:DKey} {k:Nat} (h:Place D key k) (ha:Asc D) (hne:k < D.length→dkey (D.getD k default) ≠ key) {d:Zk} (hd:d∈D):dkey d ≠ key:=by
 obtain ⟨j,hj,rfl⟩:=Zgr hd
 intro e
 rcases Nat.lt_or_ge j k with g | g
 ·exact ZhJ _ (e ▸ h.lo j g)
 ·exact ZhJ _ (e ▸ h.after ha hne g hj)
theorem Zkw (D:List Zk) (k:Nat) (d:Zk):(D++[d]).Perm (insL D k d):=by
 unfold insL
 have h:D++[d]=D.take k++(D.drop k++[d]):=by rw [← List.append_assoc,List.take_append_drop]
 rw [h,List.append_assoc]
 exact List.Perm.append_left _ List.perm_append_comm
theorem ZlR {D:List Zk} {k:Nat} (d:Zk) (h:Place D (dkey d) k) (ha:Asc D) (hne:k < D.length→dkey (D.getD k default) ≠ dkey d):Asc (insL D k d):=by
 have hlo:∀ c∈D.take k,klt (dkey c) (dkey d):=fun c hc=>by
  obtain ⟨j,hj,rfl⟩:=Zgr hc
  have hj2:j < k:=by rw [List.length_take] at hj; omega
  have:=h.lo j hj2
  rw [List.getD_eq_getElem?_getD,List.getElem?_take_of_lt hj2,← List.getD_eq_getElem?_getD]
  exact this
 have hhi:∀ c∈D.drop k,klt (dkey d) (dkey c):=fun c hc=>by
  obtain ⟨j,hj,rfl⟩:=Zgr hc
  rw [List.length_drop] at hj
  have:=h.after ha hne (j:=k+j) (by omega) (by omega)
  rw [List.getD_eq_getElem?_getD,List.getElem?_drop,← List.getD_eq_getElem?_getD]
  exact this
 unfold Asc insL
 rw [List.pairwise_append,List.pairwise_append]
 refine ⟨⟨List.Pairwise.sublist (List.take_sublist _ _) ha,List.pairwise_singleton _ _,fun c hc x hx=>?_⟩,List.Pairwise.sublist (List.drop_sublist _ _) ha,fun c hc x hx=>?_⟩
 ·rw [List.mem_singleton.1 hx]; exact hlo c hc
 ·rcases List.mem_append.1 hc with h1 | h1
  ·exact ZeK (hlo c h1) (hhi x hx)
  ·rw [List.mem_singleton.1 h1]; exact hhi x hx
theorem ZlS (D:List Zk) {k:Nat} (hk:k≤D.length) (d e:Zk):(insL D k d).set k e=insL D k e:=by
 unfold insL
 have h1:(D.take k).length=k:=by simp; omega
 rw [List.append_assoc,List.append_assoc,List.set_append_right _ _ (by omega),h1,Nat.sub_self]
 rfl
theorem ZmM {D:List Zk} (h:Asc D) {k:Nat} (hk:k < D.length) (d:Zk) (hd:dkey d=dkey (D.getD k default)):Asc (D.set k d):=by
 have h1:(D.map dkey).Pairwise klt:=List.pairwise_map.2 h
 rw [← Zca hk hd] at h1
 exact List.pairwise_map.1 h1
section
variable {a0:ZP}
theorem Zng (p q:ZO):decide (S.WF p q < 0)=decide (p.ZA < q.ZA∨(p.ZA=q.ZA∧p.ZM < q.ZM)):=by
 unfold S.WF
 by_cases h:p.ZA < q.ZA∨(p.ZA=q.ZA∧p.ZM < q.ZM)
 ·have:((decide (p.ZA < q.ZA))||((p.ZA==q.ZA)&&(decide (p.ZM < q.ZM))))=true:=by
   simpa using h
  rw [this,decide_eq_true h]; rfl
 ·have:((decide (p.ZA < q.ZA))||((p.ZA==q.ZA)&&(decide (p.ZM < q.ZM))))=false:=by
   rw [← Bool.not_eq_true]; simpa using h
  rw [this,decide_eq_false h]
  cases (p.ZA==q.ZA)&&((p.ZM==q.ZM)&&true) <;> rfl
theorem ZlT (r i:Nat) (D0 D:List Zk) (hb:D.length≤1000) (p:ZO) :
  ∃ k:Nat,loopM (M.W3 a0 (D0,(r:Int)) (D,(i:Int)) p) 0=some (k:Int)∧Place D (p.ZA,p.ZM,(ifc a0 r i).XI) k:=by
 have h:=GO (f:=M.W3 a0 (D0,(r:Int)) (D,(i:Int)) p) (σ:=Unit) (fun k _=>(k:Int)) D.length (fun k _=>∀ j,j < k→klt (dkey (D.getD j default)) (p.ZA,p.ZM,(ifc a0 r i).XI)) (fun y=>∃ k:Nat,y=(k:Int)∧Place D (p.ZA,p.ZM,(ifc a0 r i).XI) k)
  (fun k _ hk hJ=>?_) (fun _ hJ=>?_) D.length 0 () (by omega) (fun j hj=>by omega)
 ·obtain ⟨y,h1,k,rfl,h2⟩:=h
  exact ⟨k,h1,h2⟩
 ·have hk1:decide ((0:Int)≤(k:Int))=true:=dt (by omega)
  have hk2:decide ((k:Int) < (D.length:Int))=true:=dt (by omega)
  have hv:((a0.Zd.getD r default).Zc.getD i default)=ifc a0 r i:=rfl
  unfold M.W3
  simp only [Zgg,gc,hk1,hk2,cond_true,Option.bind_some,Int.toNat_natCast,Nat.zero_add,hv,Bool.true_and,Zng]
  generalize hd:D.getD k default=d
  have hg:∀ g,guardB g true=true:=fun g=>by cases g <;> rfl
  simp only [gd,List.all_cons,List.all_nil,id,hg,Bool.and_self,cond_true,Bool.and_true]
  by_cases hlt:klt (dkey d) (p.ZA,p.ZM,(ifc a0 r i).XI)
  ·left
   have:((decide (d.Zp.ZA < p.ZA∨(d.Zp.ZA=p.ZA∧d.Zp.ZM < p.ZM)))||(((d.Zp.ZA==p.ZA)&&(d.Zp.ZM==p.ZM))&&(decide (d.XI < (ifc a0 r i).XI))))=true:=by
    unfold klt dkey at hlt
    simp only at hlt
    simp only [Bool.or_eq_true,decide_eq_true_eq,Bool.and_eq_true,beq_iff_eq]
    omega
   refine ⟨(),?_,fun j hj=>?_⟩
   ·rw [this,cond_true,up64 (n:=2000) (by omega) (by omega)]
   ·rcases Nat.lt_or_ge j k with g | g
    ·exact hJ j g
    ·obtain rfl:j=k:=by omega
     rw [hd]; exact hlt
  ·right
   have:((decide (d.Zp.ZA < p.ZA∨(d.Zp.ZA=p.ZA∧d.Zp.ZM < p.ZM)))||(((d.Zp.ZA==p.ZA)&&(d.Zp.ZM==p.ZM))&&(decide (d.XI < (ifc a0 r i).XI))))=false:=by
    unfold klt dkey at hlt
    simp only at hlt
    rw [← Bool.not_eq_true]
    simp only [Bool.or_eq_true,decide_eq_true_eq,Bool.and_eq_true,beq_iff_eq]
    omega
   refine ⟨(k:Int),by rw [this,cond_false],k,rfl,by omega,hJ,fun _=>by rw [hd]; exact hlt⟩
 ·unfold M.W3
  simp only [Int.lt_irrefl,decide_false,gc,cond_false,Option.bind_some,Bool.false_and]
  exact ⟨_,rfl,D.length,rfl,Nat.le_refl _,hJ,fun h=>absurd h (Nat.lt_irrefl _)⟩
theorem ZlU {its:List DItem} {r i:Nat} (hi:i≤1000) (D0 D:List Zk) {E:List Zk} {k:Nat} (hk:k < E.length) (he:(E.getD k default).Xt.length≤1000) :
  M.UH (D0,(r:Int)) (D,(i:Int)) (k:Int) E=some (.inl (E.set k ⟨(E.getD k default).Zp,(E.getD k default).XI,(E.getD k default).Xt++[⟨(r:Int),(i:Int)⟩]⟩,((i+1:Nat):Int))):=by
 unfold M.UH M.UG
 simp only [Int.toNat_natCast,Nat.zero_add]
 refine YD (Zw (dt (by omega)) (Zw (dt (by omega)) (Zw (dt (by omega)) (Zw (dt (by omega)) (Zw (dt (by omega)) XP))))) ?_
 rw [up64 (n:=2000) (by omega) (by omega)]
theorem Znh {r:Nat} (hr:r < a0.Zd.length) (hI:nif a0 r≤12) {its:List DItem} (hb:its.length≤900) {D:List Zk} (hD:Grp its D) (hA:Asc D) :
  ∃ D',loopM (M.W4 a0 (D,(r:Int))) (D,0)=some D'∧Grp (its++itR a0 r (nif a0 r)) D'∧Asc D':=by
 have hr1:decide ((0:Int)≤(r:Int))=true:=dt (by omega)
 have hr2:decide ((r:Int) < (a0.Zd.length:Int))=true:=dt (by omega)
 have hD0:D.length≤900:=by have:=hD.len; omega
 refine GO (f:=M.W4 a0 (D,(r:Int))) (σ:=List Zk) (fun i E=>(E,(i:Int))) (nif a0 r) (fun i E=>Grp (its++itR a0 r i) E∧Asc E) (fun E=>Grp (its++itR a0 r (nif a0 r)) E∧Asc E)
  (fun i E hi hJ=>?_) (fun E hJ=>?_) (nif a0 r) 0 D (by omega) ⟨by simpa [itR] using hD,hA⟩
 ·left
  obtain ⟨hG,hAs⟩:=hJ
  have hi1:decide ((0:Int)≤(i:Int))=true:=dt (by omega)
  have hi2:decide ((i:Int) < (((a0.Zd.getD r default).Zc).length:Int))=true:=dt (Int.ofNat_lt.2 hi)
  have hlen:(its++itR a0 r i).length≤1000:=by
   have:=Zfu a0 r i
   rw [List.length_append]; omega
  have hEl:=hG.len
  have hv:((a0.Zd.getD r default).Zc.getD i default)=ifc a0 r i:=rfl
  have hends:∀ d∈E,d.Xt.length≤1000:=fun d hd=>by
   have:=congrArg List.length (hG.ends d hd)
   unfold dends sel at this
   rw [List.length_map,List.length_map] at this
   have h9:=List.length_filter_le (fun x=>decide (x.1=dkey d)) (its++itR a0 r i)
   omega
  unfold M.W4
  simp only [gd,List.all_cons,List.all_nil,id,Bool.and_self,Bool.and_true,cond_true,hr1,hr2,Int.toNat_natCast,hi1,hi2,hv,Znf,Option.bind_some]
  cases he:(((ifc a0 r i).ZM==0)||(ifc a0 r i).RB) with
  | true =>
   refine ⟨E,?_,?_⟩
   ·rw [cond_true]
    unfold M.UG
    rw [up64 (n:=2000) (by omega) (by omega)]
   ·rw [Zcb]
    have:elig (ifc a0 r i)=false:=by unfold elig; rw [he]; rfl
    rw [show itI a0 r i=[] by unfold itI; rw [this]; rfl,List.append_nil]
    exact ⟨hG,hAs⟩
  | false =>
   have hel:elig (ifc a0 r i)=true:=by unfold elig; rw [he]; rfl
   have hit:its++itR a0 r (i+1)=(its++itR a0 r i)++[(ikey (ifc a0 r i),((r:Int),(i:Int)))]:=by
    rw [Zcb,show itI a0 r i=[(ikey (ifc a0 r i),((r:Int),(i:Int)))] by unfold itI; rw [hel]; rfl,List.append_assoc]
   rw [cond_false]
   obtain ⟨k,h1,hP⟩:=ZlT (a0:=a0) r i D E (by omega) (netP (ifc a0 r i).ZA (ifc a0 r i).ZM)
   have hkey:((netP (ifc a0 r i).ZA (ifc a0 r i).ZM).ZA,(netP (ifc a0 r i).ZA (ifc a0 r i).ZM).ZM,(ifc a0 r i).XI)=ikey (ifc a0 r i):=rfl
   rw [hkey] at hP
   have hk0:=hP.le
   rw [h1]
   simp only [Option.bind_some,Int.toNat_natCast,Nat.zero_add]
   have hg:∀ g,guardB g true=true:=fun g=>by cases g <;> rfl
   have hk1:decide ((0:Int)≤(k:Int))=true:=dt (by omega)
   by_cases hsame:k < E.length∧dkey (E.getD k default)=ikey (ifc a0 r i)
   ·obtain ⟨hk2,hk3⟩:=hsame
    have hk4:decide ((k:Int) < (E.length:Int))=true:=dt (by omega)
    have hne:((k:Int)==(E.length:Int))=false:=by simp; omega
    have hk5:=hk3
    unfold dkey ikey at hk5
    simp only [Prod.mk.injEq] at hk5
    simp only [hk1,hk4,hg,hne,Bool.and_self,cond_true,hk5.1,hk5.2.1,hk5.2.2,BEq.rfl,Bool.not_true,Bool.false_or,bne_self_eq_false,cond_false]
    rw [ZlU (its:=its) (by omega) D E hk2 (hends _ (Zcn hk2))]
    refine ⟨_,rfl,?_,?_⟩
    ·rw [hit]
     have hk:ikey (ifc a0 r i)=dkey (⟨(E.getD k default).Zp,(E.getD k default).XI,(E.getD k default).Xt++[⟨(r:Int),(i:Int)⟩]⟩:Zk):=hk3.symm
     rw [hk]
     exact hG.grow hk2 _ _ rfl (by simp [dends,dend])
    ·exact ZmM hAs hk2 _ rfl
   ·have hne:k < E.length→dkey (E.getD k default) ≠ ikey (ifc a0 r i):=fun h hh=>hsame ⟨h,hh⟩
    have hcond:((((k:Int)==(E.length:Int))||(!(((E.getD k default).Zp.ZA==(netP (ifc a0 r i).ZA (ifc a0 r i).ZM).ZA)&&((E.getD k default).Zp.ZM==(netP (ifc a0 r i).ZA (ifc a0 r i).ZM).ZM))))||((E.getD k default).XI != (ifc a0 r i).XI))=true:=by
     rcases Nat.lt_or_ge k E.length with g | g
     ·have h2:=hne g
      rw [← Bool.not_eq_false]
      intro h3
      apply h2
      simp only [Bool.or_eq_false_iff,Bool.not_eq_false',Bool.and_eq_true,beq_iff_eq,bne_eq_false_iff_eq] at h3
      unfold dkey ikey
      rw [h3.1.2.1,h3.1.2.2,h3.2]
     ·rw [show ((k:Int)==(E.length:Int))=true by simp; omega]
      rfl
    have hgd:∀ g:Bool,(g=true→k < E.length)→guardB g (decide ((k:Int) < (E.length:Int)))=true:=fun g hgg=>by
     cases g
     ·rfl
     ·exact dt (Int.ofNat_lt.2 (hgg rfl))
    have hg1:=hgd (!((k:Int)==(E.length:Int))) (fun h=>by simp at h; omega)
    have hg2:=hgd (!(((k:Int)==(E.length:Int))||(!(((E.getD k default).Zp.ZA==(netP (ifc a0 r i).ZA (ifc a0 r i).ZM).ZA)&&((E.getD k default).Zp.ZM==(netP (ifc a0 r i).ZA (ifc a0 r i).ZM).ZM))))) (fun h=>by
     simp only [Bool.not_eq_true',Bool.or_eq_false_iff] at h
     have:=h.1
     simp at this; omega)
    have hd1:decide ((k:Int)≤(E.length:Int))=true:=dt (by omega)
    have hd2:decide ((0+(E.length - k))*48≤140737488355328)=true:=dt (by omega)
    have hd3:decide (((k - 0)+1)*48≤140737488355328)=true:=dt (by omega)
    have hd4:decide ((((k - 0)+1)+(0+(E.length - k)))*48≤140737488355328)=true:=dt (by omega)
    simp only [Bool.and_true,Nat.zero_add,Nat.sub_zero] at hd2 hd3 hd4
    simp only [hk1,hg,hg1,hg2,hd1,hd2,hd3,hd4,hcond,Bool.and_self,Bool.and_true,cond_true,decide_true,Bool.true_or,Nat.zero_add,Nat.sub_zero]
    have hil:k < (insL E k (⟨netP (ifc a0 r i).ZA (ifc a0 r i).ZM,(ifc a0 r i).XI,([]:List Ue)⟩:Zk)).length:=by rw [ZdJ hk0]; omega
    rw [ZlU (its:=its) (by omega) D E hil (by rw [Zfs hk0]; simp)]
    rw [Zfs hk0,ZlS _ hk0]
    refine ⟨_,rfl,?_,?_⟩
    ·rw [hit]
     exact (hG.add ⟨netP (ifc a0 r i).ZA (ifc a0 r i).ZM,(ifc a0 r i).XI,[⟨(r:Int),(i:Int)⟩]⟩ ((r:Int),(i:Int)) (fun d hd=>hP.fresh hAs hne hd) rfl).perm (Zkw _ _ _)
    ·exact ZlR ⟨netP (ifc a0 r i).ZA (ifc a0 r i).ZM,(ifc a0 r i).XI,[⟨(r:Int),(i:Int)⟩]⟩ hP hAs hne
 ·unfold M.W4
  simp only [gd,List.all_cons,List.all_nil,id,Bool.and_self,Bool.and_true,cond_true,hr1,hr2,Int.toNat_natCast]
  rw [decide_eq_false (show ¬ ((nif a0 r:Int) < (((a0.Zd.getD r default).Zc).length:Int)) from fun h=>Nat.lt_irrefl _ (Int.ofNat_lt.1 h)),cond_false]
  exact ⟨_,rfl,hJ⟩
theorem Zni (hR:a0.Zd.length≤9) (hI:∀ r,nif a0 r≤12):∃ D,loopM (M.W5 a0) (([]:List Zk),0)=some D∧Grp (itN a0 a0.Zd.length) D∧Asc D:=by
 refine GO (f:=M.W5 a0) (σ:=List Zk) (fun i D=>(D,(i:Int))) a0.Zd.length (fun i D=>Grp (itN a0 i) D∧Asc D) (fun y=>Grp (itN a0 a0.Zd.length) y∧Asc y)
  (fun i D hi hJ=>?_) (fun D hJ=>?_) a0.Zd.length 0 [] (by omega) ⟨by simpa [itN] using ZjJ,List.Pairwise.nil⟩
 ·left
  unfold M.W5
  have hi':decide ((i:Int) < (a0.Zd.length:Int))=true:=dt (by omega)
  have hl:=Zef a0 hI i
  obtain ⟨D',h1,h2⟩:=Znh (a0:=a0) hi (hI i) (its:=itN a0 i) (by have:i*12≤9*12:=Nat.mul_le_mul_right _ (by omega); omega) hJ.1 hJ.2
  refine ⟨D',?_,by rw [Zgq]; exact h2⟩
  simp only [hi',cond_true,h1,Option.bind_some]
  rw [up64 (n:=2000) (by omega) (by omega)]
 ·unfold M.W5
  simp only [Int.lt_irrefl,decide_false,cond_false]
  exact ⟨D,rfl,hJ⟩
end
def rlks (D:List Zk) (m:Nat):List Int:=((List.range m).filter fun i=>decide (2≤(D.getD i default).Xt.length)).map fun (i:Nat)=>(i:Int)
theorem Zkx (D:List Zk) (m:Nat):rlks D (m+1)=rlks D m++(if 2≤(D.getD m default).Xt.length then [(m:Int)] else []):=by
 unfold rlks
 rw [List.range_succ,List.filter_append,List.map_append]
 congr 1
 by_cases h:2≤(D.getD m default).Xt.length
 ·rw [if_pos h,List.filter_cons,if_pos (decide_eq_true h)]; rfl
 ·rw [if_neg h,List.filter_cons,if_neg (by rw [decide_eq_true_eq]; exact h)]; rfl
theorem ZlV (D:List Zk) (m:Nat):(rlks D m).length≤m:=by
 unfold rlks
 rw [List.length_map]
 exact Nat.le_trans (List.length_filter_le _ _) (by simp)
theorem Zky (D:List Zk) (hb:D.length≤1000):loopM (M.W6 D) (([]:List Int),0)=some (rlks D D.length):=by
 have h:=GO (f:=M.W6 D) (σ:=List Int) (fun i l=>(l,(i:Int))) D.length (fun i l=>l=rlks D i) (fun y=>y=rlks D D.length)
  (fun i l hi hJ=>?_) (fun l hJ=>?_) D.length 0 [] (by omega) rfl
 ·obtain ⟨y,h1,rfl⟩:=h
  exact h1
 ·left
  subst hJ
  have hl:=ZlV D i
  unfold M.W6
  have hi':(i:Int) < (D.length:Int):=Int.ofNat_lt.2 hi
  simp only [dt hi',cond_true,gd,List.all_cons,List.all_nil,dt (show (0:Int)≤(i:Int) by omega),id,Bool.and_self,Int.toNat_natCast,Bool.and_true]
  refine ⟨rlks D (i+1),?_,rfl⟩
  rw [Zkx]
  by_cases h2:2≤(D.getD i default).Xt.length
  ·rw [dt (show (((D.getD i default).Xt.length:Int) > 1) by omega),cond_true,dt (show ((rlks D i).length+1)*8≤140737488355328 by omega),cond_true,if_pos h2]
   unfold M.UI
   rw [up64 (n:=2000) (by omega) (by omega)]
  ·rw [decide_eq_false (show ¬ (((D.getD i default).Xt.length:Int) > 1) by omega),cond_false,if_neg h2,List.append_nil]
   unfold M.UI
   rw [up64 (n:=2000) (by omega) (by omega)]
 ·subst hJ
  unfold M.W6
  simp only [Int.lt_irrefl,decide_false,cond_false]
  exact ⟨_,rfl,rfl⟩
def topoOf (D:List Zk):Qs × Int:=bif decide (((rlks D D.length).length:Int) > 12) then (⟨[],[]⟩,7) else (⟨D,rlks D D.length⟩,0)
theorem Zkz {a:ZP} (ha:Yy a) (hR:a.Zd.length≤9) (hI:∀ r,nif a r≤12) :
  (S.Wl a ≠ 0∧M.GW a=some (⟨[],[]⟩,S.Wl a))∨(S.Wl a=0∧∃ D,M.GW a=some (topoOf D)∧Grp (itN a a.Zd.length) D∧Asc D∧D.length≤108):=by
 unfold M.GW
 rw [ZhA a ha]
 simp only [Option.bind_some]
 cases hc:S.Wl a != 0 with
 | true=>exact .inl ⟨by simpa using hc,rfl⟩
 | false =>
  right
  refine ⟨by simpa using hc,?_⟩
  have hl:=Zef a hI a.Zd.length
  have hl2:a.Zd.length*12≤9*12:=Nat.mul_le_mul_right _ hR
  obtain ⟨D,h1,h2,h3⟩:=Zni hR hI
  have hE:=h2.len
  refine ⟨D,?_,h2,h3,by omega⟩
  simp only [cond_false,h1,Option.bind_some,Zky D (by omega)]
  unfold topoOf
  cases decide (((rlks D D.length).length:Int) > 12) <;> rfl
end Nv
