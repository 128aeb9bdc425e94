/- The reference's topology: ends put into sorted groups one by one. No condition but the bounds of what comes in. -/
import Derived.Test.YtenfloomkjecjaaGreatNvTo4
import Derived.Test.YtenfloomkjecjaaGreatNvLibD
set_option maxRecDepth 100000
namespace Nv
open Go
theorem ZnX {D:List Zj} (h:Asc D) {i j:Nat} (hij:i < j) (hj:j < D.length):klt (dkey (D.getD i default)) (dkey (D.getD j default)):=by
 have:=List.pairwise_iff_getElem.1 h i j (by omega) hj hij
 rw [List.getD_eq_getElem?_getD,List.getD_eq_getElem?_getD,List.getElem?_eq_getElem hj,List.getElem?_eq_getElem (show i < D.length by omega)]
 exact this
structure Place (D:List Zj) (key:DKey) (k:Nat):Prop where
 le:k≤D.length
 lo:∀ j,j < k→klt (dkey (D.getD j default)) key
 hi:k < D.length→¬ klt (dkey (D.getD k default)) key
theorem Place.after {D:List Zj} {key:DKey} {k:Nat} (h:Place D key k) (ha:Asc D) (hne:k < D.length→dkey (D.getD k default) ≠ key) {j:Nat} (hk:k≤j) (hj:j < D.length):klt key (dkey (D.getD j default)):=by
 have h1:klt key (dkey (D.getD k default)):=by
  rcases Zlt (dkey (D.getD k default)) key with g | g | g
  ·exact absurd g (h.hi (by omega))
  ·exact absurd g (hne (by omega))
  ·exact g
 rcases Nat.lt_or_ge k j with g | g
 ·exact ZhA h1 (ZnX ha g hj)
 ·obtain rfl:j=k:=by omega
  exact h1
theorem ZgU {D:List Zj} {d:Zj} (h:d∈D):∃ j,j < D.length∧D.getD j default=d:=by
 obtain ⟨j,hj,hd⟩:=List.getElem_of_mem h
 exact ⟨j,hj,by rw [List.getD_eq_getElem?_getD,List.getElem?_eq_getElem hj]; exact hd⟩
theorem Place.fresh {D:List Zj} {key:DKey} {k:Nat} (h:Place D key k) (ha:Asc D) (hne:k < D.length→dkey (D.getD k default) ≠ key) {d:Zj} (hd:d∈D):dkey d ≠ key:=by
 obtain ⟨j,hj,rfl⟩:=ZgU hd
 intro e
 rcases Nat.lt_or_ge j k with g | g
 ·exact ZkG _ (e ▸ h.lo j g)
 ·exact ZkG _ (e ▸ h.after ha hne g hj)
theorem Zlw (D:List Zj) (k:Nat) (d:Zj):(D++[d]).Perm (insL D k d):=by
 unfold insL
 have h:D++[d]=D.take k++(D.drop k++[d]):=by rw [← List.append_assoc,List.take_append_drop]
 rw [h,List.append_assoc]
 exact List.Perm.append_left _ List.perm_append_comm
theorem ZmW {D:List Zj} {k:Nat} (d:Zj) (h:Place D (dkey d) k) (ha:Asc D) (hne:k < D.length→dkey (D.getD k default) ≠ dkey d):Asc (insL D k d):=by
 have hlo:∀ c∈D.take k,klt (dkey c) (dkey d):=fun c hc=>by
  obtain ⟨j,hj,rfl⟩:=ZgU hc
  have hj2:j < k:=by rw [List.length_take] at hj; omega
  have:=h.lo j hj2
  rw [List.getD_eq_getElem?_getD,List.getElem?_take_of_lt hj2,← List.getD_eq_getElem?_getD]
  exact this
 have hhi:∀ c∈D.drop k,klt (dkey d) (dkey c):=fun c hc=>by
  obtain ⟨j,hj,rfl⟩:=ZgU hc
  rw [List.length_drop] at hj
  have:=h.after ha hne (j:=k+j) (by omega) (by omega)
  rw [List.getD_eq_getElem?_getD,List.getElem?_drop,← List.getD_eq_getElem?_getD]
  exact this
 unfold Asc insL
 rw [List.pairwise_append,List.pairwise_append]
 refine ⟨⟨List.Pairwise.sublist (List.take_sublist _ _) ha,List.pairwise_singleton _ _,fun c hc x hx=>?_⟩,List.Pairwise.sublist (List.drop_sublist _ _) ha,fun c hc x hx=>?_⟩
 ·rw [List.mem_singleton.1 hx]; exact hlo c hc
 ·rcases List.mem_append.1 hc with h1 | h1
  ·exact ZhA (hlo c h1) (hhi x hx)
  ·rw [List.mem_singleton.1 h1]; exact hhi x hx
theorem ZmX (D:List Zj) {k:Nat} (hk:k≤D.length) (d e:Zj):(insL D k d).set k e=insL D k e:=by
 unfold insL
 have h1:(D.take k).length=k:=by simp; omega
 rw [List.append_assoc,List.append_assoc,List.set_append_right _ _ (by omega),h1,Nat.sub_self]
 rfl
theorem ZnY {D:List Zj} (h:Asc D) {k:Nat} (hk:k < D.length) (d:Zj) (hd:dkey d=dkey (D.getD k default)):Asc (D.set k d):=by
 have h1:(D.map dkey).Pairwise klt:=List.pairwise_map.2 h
 rw [← ZbW hk hd] at h1
 exact List.pairwise_map.1 h1
section
variable {a0:ZI}
theorem Zox (p q:ZL):decide (S.Vo p q < 0)=decide (p.Zm < q.Zm∨(p.Zm=q.Zm∧p.ZE < q.ZE)):=by
 unfold S.Vo
 by_cases h:p.Zm < q.Zm∨(p.Zm=q.Zm∧p.ZE < q.ZE)
 ·have:((decide (p.Zm < q.Zm))||((p.Zm==q.Zm)&&(decide (p.ZE < q.ZE))))=true:=by
   simpa using h
  rw [this,decide_eq_true h]; rfl
 ·have:((decide (p.Zm < q.Zm))||((p.Zm==q.Zm)&&(decide (p.ZE < q.ZE))))=false:=by
   rw [← Bool.not_eq_true]; simpa using h
  rw [this,decide_eq_false h]
  cases (p.Zm==q.Zm)&&((p.ZE==q.ZE)&&true) <;> rfl
theorem ZmY (r i:Nat) (D0 D:List Zj) (hb:D.length≤1000) (p:ZL) :
  ∃ k:Nat,loopM (M.WU a0 (D0,(r:Int)) (D,(i:Int)) p) 0=some (k:Int)∧Place D (p.Zm,p.ZE,(ifc a0 r i).XN) k:=by
 have h:=W1 (f:=M.WU a0 (D0,(r:Int)) (D,(i:Int)) p) (σ:=Unit) (fun k _=>(k:Int)) D.length (fun k _=>∀ j,j < k→klt (dkey (D.getD j default)) (p.Zm,p.ZE,(ifc a0 r i).XN)) (fun y=>∃ k:Nat,y=(k:Int)∧Place D (p.Zm,p.ZE,(ifc a0 r i).XN) k)
  (fun k _ hk hJ=>?_) (fun _ hJ=>?_) D.length 0 () (by omega) (fun j hj=>by omega)
 ·obtain ⟨y,h1,k,rfl,h2⟩:=h
  exact ⟨k,h1,h2⟩
 ·have hk1:decide ((0:Int)≤(k:Int))=true:=dt (by omega)
  have hk2:decide ((k:Int) < (D.length:Int))=true:=dt (by omega)
  have hv:((a0.Ze.getD r default).Zc.getD i default)=ifc a0 r i:=rfl
  unfold M.WU
  simp only [ZbQ,gc,hk1,hk2,cond_true,Option.bind_some,Int.toNat_natCast,Nat.zero_add,hv,Bool.true_and,Zox]
  generalize hd:D.getD k default=d
  have hg:∀ g,guardB g true=true:=fun g=>by cases g <;> rfl
  simp only [gd,List.all_cons,List.all_nil,id,hg,Bool.and_self,cond_true,Bool.and_true]
  by_cases hlt:klt (dkey d) (p.Zm,p.ZE,(ifc a0 r i).XN)
  ·left
   have:((decide (d.Zh.Zm < p.Zm∨(d.Zh.Zm=p.Zm∧d.Zh.ZE < p.ZE)))||(((d.Zh.Zm==p.Zm)&&(d.Zh.ZE==p.ZE))&&(decide (d.XN < (ifc a0 r i).XN))))=true:=by
    unfold klt dkey at hlt
    simp only at hlt
    simp only [Bool.or_eq_true,decide_eq_true_eq,Bool.and_eq_true,beq_iff_eq]
    omega
   refine ⟨(),?_,fun j hj=>?_⟩
   ·rw [this,cond_true,up64 (n:=2000) (by omega) (by omega)]
   ·rcases Nat.lt_or_ge j k with g | g
    ·exact hJ j g
    ·obtain rfl:j=k:=by omega
     rw [hd]; exact hlt
  ·right
   have:((decide (d.Zh.Zm < p.Zm∨(d.Zh.Zm=p.Zm∧d.Zh.ZE < p.ZE)))||(((d.Zh.Zm==p.Zm)&&(d.Zh.ZE==p.ZE))&&(decide (d.XN < (ifc a0 r i).XN))))=false:=by
    unfold klt dkey at hlt
    simp only at hlt
    rw [← Bool.not_eq_true]
    simp only [Bool.or_eq_true,decide_eq_true_eq,Bool.and_eq_true,beq_iff_eq]
    omega
   refine ⟨(k:Int),by rw [this,cond_false],k,rfl,by omega,hJ,fun _=>by rw [hd]; exact hlt⟩
 ·unfold M.WU
  simp only [Int.lt_irrefl,decide_false,gc,cond_false,Option.bind_some,Bool.false_and]
  exact ⟨_,rfl,D.length,rfl,Nat.le_refl _,hJ,fun h=>absurd h (Nat.lt_irrefl _)⟩
theorem ZmZ {its:List DItem} {r i:Nat} (hi:i≤1000) (D0 D:List Zj) {E:List Zj} {k:Nat} (hk:k < E.length) (he:(E.getD k default).ZW.length≤1000) :
  M.Uz (D0,(r:Int)) (D,(i:Int)) (k:Int) E=some (.inl (E.set k ⟨(E.getD k default).Zh,(E.getD k default).XN,(E.getD k default).ZW++[⟨(r:Int),(i:Int)⟩]⟩,((i+1:Nat):Int))):=by
 unfold M.Uz M.Uy
 simp only [Int.toNat_natCast,Nat.zero_add]
 refine Jk (Zz (dt (by omega)) (Zz (dt (by omega)) (Zz (dt (by omega)) (Zz (dt (by omega)) (Zz (dt (by omega)) Ym))))) ?_
 rw [up64 (n:=2000) (by omega) (by omega)]
theorem Zoy {r:Nat} (hr:r < a0.Ze.length) (hI:nif a0 r≤12) {its:List DItem} (hb:its.length≤900) {D:List Zj} (hD:Grp its D) (hA:Asc D) :
  ∃ D',loopM (M.WV a0 (D,(r:Int))) (D,0)=some D'∧Grp (its++itR a0 r (nif a0 r)) D'∧Asc D':=by
 have hr1:decide ((0:Int)≤(r:Int))=true:=dt (by omega)
 have hr2:decide ((r:Int) < (a0.Ze.length:Int))=true:=dt (by omega)
 have hD0:D.length≤900:=by have:=hD.len; omega
 refine W1 (f:=M.WV a0 (D,(r:Int))) (σ:=List Zj) (fun i E=>(E,(i:Int))) (nif a0 r) (fun i E=>Grp (its++itR a0 r i) E∧Asc E) (fun E=>Grp (its++itR a0 r (nif a0 r)) E∧Asc E)
  (fun i E hi hJ=>?_) (fun E hJ=>?_) (nif a0 r) 0 D (by omega) ⟨by simpa [itR] using hD,hA⟩
 ·left
  obtain ⟨hG,hAs⟩:=hJ
  have hi1:decide ((0:Int)≤(i:Int))=true:=dt (by omega)
  have hi2:decide ((i:Int) < (((a0.Ze.getD r default).Zc).length:Int))=true:=dt (Int.ofNat_lt.2 hi)
  have hlen:(its++itR a0 r i).length≤1000:=by
   have:=Zil a0 r i
   rw [List.length_append]; omega
  have hEl:=hG.len
  have hv:((a0.Ze.getD r default).Zc.getD i default)=ifc a0 r i:=rfl
  have hends:∀ d∈E,d.ZW.length≤1000:=fun d hd=>by
   have:=congrArg List.length (hG.ends d hd)
   unfold dends sel at this
   rw [List.length_map,List.length_map] at this
   have h9:=List.length_filter_le (fun x=>decide (x.1=dkey d)) (its++itR a0 r i)
   omega
  unfold M.WV
  simp only [gd,List.all_cons,List.all_nil,id,Bool.and_self,Bool.and_true,cond_true,hr1,hr2,Int.toNat_natCast,hi1,hi2,hv,Zow,Option.bind_some]
  cases he:(((ifc a0 r i).ZE==0)||(ifc a0 r i).Jx) with
  | true =>
   refine ⟨E,?_,?_⟩
   ·rw [cond_true]
    unfold M.Uy
    rw [up64 (n:=2000) (by omega) (by omega)]
   ·rw [ZgT]
    have:elig (ifc a0 r i)=false:=by unfold elig; rw [he]; rfl
    rw [show itI a0 r i=[] by unfold itI; rw [this]; rfl,List.append_nil]
    exact ⟨hG,hAs⟩
  | false =>
   have hel:elig (ifc a0 r i)=true:=by unfold elig; rw [he]; rfl
   have hit:its++itR a0 r (i+1)=(its++itR a0 r i)++[(ikey (ifc a0 r i),((r:Int),(i:Int)))]:=by
    rw [ZgT,show itI a0 r i=[(ikey (ifc a0 r i),((r:Int),(i:Int)))] by unfold itI; rw [hel]; rfl,List.append_assoc]
   rw [cond_false]
   obtain ⟨k,h1,hP⟩:=ZmY (a0:=a0) r i D E (by omega) (netP (ifc a0 r i).Zm (ifc a0 r i).ZE)
   have hkey:((netP (ifc a0 r i).Zm (ifc a0 r i).ZE).Zm,(netP (ifc a0 r i).Zm (ifc a0 r i).ZE).ZE,(ifc a0 r i).XN)=ikey (ifc a0 r i):=rfl
   rw [hkey] at hP
   have hk0:=hP.le
   rw [h1]
   simp only [Option.bind_some,Int.toNat_natCast,Nat.zero_add]
   have hg:∀ g,guardB g true=true:=fun g=>by cases g <;> rfl
   have hk1:decide ((0:Int)≤(k:Int))=true:=dt (by omega)
   by_cases hsame:k < E.length∧dkey (E.getD k default)=ikey (ifc a0 r i)
   ·obtain ⟨hk2,hk3⟩:=hsame
    have hk4:decide ((k:Int) < (E.length:Int))=true:=dt (by omega)
    have hne:((k:Int)==(E.length:Int))=false:=by simp; omega
    have hk5:=hk3
    unfold dkey ikey at hk5
    simp only [Prod.mk.injEq] at hk5
    simp only [hk1,hk4,hg,hne,Bool.and_self,cond_true,hk5.1,hk5.2.1,hk5.2.2,BEq.rfl,Bool.not_true,Bool.false_or,bne_self_eq_false,cond_false]
    rw [ZmZ (its:=its) (by omega) D E hk2 (hends _ (Ze1 hk2))]
    refine ⟨_,rfl,?_,?_⟩
    ·rw [hit]
     have hk:ikey (ifc a0 r i)=dkey (⟨(E.getD k default).Zh,(E.getD k default).XN,(E.getD k default).ZW++[⟨(r:Int),(i:Int)⟩]⟩:Zj):=hk3.symm
     rw [hk]
     exact hG.grow hk2 _ _ rfl (by simp [dends,dend])
    ·exact ZnY hAs hk2 _ rfl
   ·have hne:k < E.length→dkey (E.getD k default) ≠ ikey (ifc a0 r i):=fun h hh=>hsame ⟨h,hh⟩
    have hcond:((((k:Int)==(E.length:Int))||(!(((E.getD k default).Zh.Zm==(netP (ifc a0 r i).Zm (ifc a0 r i).ZE).Zm)&&((E.getD k default).Zh.ZE==(netP (ifc a0 r i).Zm (ifc a0 r i).ZE).ZE))))||((E.getD k default).XN != (ifc a0 r i).XN))=true:=by
     rcases Nat.lt_or_ge k E.length with g | g
     ·have h2:=hne g
      rw [← Bool.not_eq_false]
      intro h3
      apply h2
      simp only [Bool.or_eq_false_iff,Bool.not_eq_false',Bool.and_eq_true,beq_iff_eq,bne_eq_false_iff_eq] at h3
      unfold dkey ikey
      rw [h3.1.2.1,h3.1.2.2,h3.2]
     ·rw [show ((k:Int)==(E.length:Int))=true by simp; omega]
      rfl
    have hgd:∀ g:Bool,(g=true→k < E.length)→guardB g (decide ((k:Int) < (E.length:Int)))=true:=fun g hgg=>by
     cases g
     ·rfl
     ·exact dt (Int.ofNat_lt.2 (hgg rfl))
    have hg1:=hgd (!((k:Int)==(E.length:Int))) (fun h=>by simp at h; omega)
    have hg2:=hgd (!(((k:Int)==(E.length:Int))||(!(((E.getD k default).Zh.Zm==(netP (ifc a0 r i).Zm (ifc a0 r i).ZE).Zm)&&((E.getD k default).Zh.ZE==(netP (ifc a0 r i).Zm (ifc a0 r i).ZE).ZE))))) (fun h=>by
     simp only [Bool.not_eq_true',Bool.or_eq_false_iff] at h
     have:=h.1
     simp at this; omega)
    have hd1:decide ((k:Int)≤(E.length:Int))=true:=dt (by omega)
    have hd2:decide ((0+(E.length - k))*48≤140737488355328)=true:=dt (by omega)
    have hd3:decide (((k - 0)+1)*48≤140737488355328)=true:=dt (by omega)
    have hd4:decide ((((k - 0)+1)+(0+(E.length - k)))*48≤140737488355328)=true:=dt (by omega)
    simp only [Bool.and_true,Nat.zero_add,Nat.sub_zero] at hd2 hd3 hd4
    simp only [hk1,hg,hg1,hg2,hd1,hd2,hd3,hd4,hcond,Bool.and_self,Bool.and_true,cond_true,decide_true,Bool.true_or,Nat.zero_add,Nat.sub_zero]
    have hil:k < (insL E k (⟨netP (ifc a0 r i).Zm (ifc a0 r i).ZE,(ifc a0 r i).XN,([]:List VL)⟩:Zj)).length:=by rw [ZdJ hk0]; omega
    rw [ZmZ (its:=its) (by omega) D E hil (by rw [ZfU hk0]; simp)]
    rw [ZfU hk0,ZmX _ hk0]
    refine ⟨_,rfl,?_,?_⟩
    ·rw [hit]
     exact (hG.add ⟨netP (ifc a0 r i).Zm (ifc a0 r i).ZE,(ifc a0 r i).XN,[⟨(r:Int),(i:Int)⟩]⟩ ((r:Int),(i:Int)) (fun d hd=>hP.fresh hAs hne hd) rfl).perm (Zlw _ _ _)
    ·exact ZmW ⟨netP (ifc a0 r i).Zm (ifc a0 r i).ZE,(ifc a0 r i).XN,[⟨(r:Int),(i:Int)⟩]⟩ hP hAs hne
 ·unfold M.WV
  simp only [gd,List.all_cons,List.all_nil,id,Bool.and_self,Bool.and_true,cond_true,hr1,hr2,Int.toNat_natCast]
  rw [decide_eq_false (show ¬ ((nif a0 r:Int) < (((a0.Ze.getD r default).Zc).length:Int)) from fun h=>Nat.lt_irrefl _ (Int.ofNat_lt.1 h)),cond_false]
  exact ⟨_,rfl,hJ⟩
theorem Zoz (hR:a0.Ze.length≤9) (hI:∀ r,nif a0 r≤12):∃ D,loopM (M.WW a0) (([]:List Zj),0)=some D∧Grp (itN a0 a0.Ze.length) D∧Asc D:=by
 refine W1 (f:=M.WW a0) (σ:=List Zj) (fun i D=>(D,(i:Int))) a0.Ze.length (fun i D=>Grp (itN a0 i) D∧Asc D) (fun y=>Grp (itN a0 a0.Ze.length) y∧Asc y)
  (fun i D hi hJ=>?_) (fun D hJ=>?_) a0.Ze.length 0 [] (by omega) ⟨by simpa [itN] using ZnW,List.Pairwise.nil⟩
 ·left
  unfold M.WW
  have hi':decide ((i:Int) < (a0.Ze.length:Int))=true:=dt (by omega)
  have hl:=ZfW a0 hI i
  obtain ⟨D',h1,h2⟩:=Zoy (a0:=a0) hi (hI i) (its:=itN a0 i) (by have:i*12≤9*12:=Nat.mul_le_mul_right _ (by omega); omega) hJ.1 hJ.2
  refine ⟨D',?_,by rw [Zjn]; exact h2⟩
  simp only [hi',cond_true,h1,Option.bind_some]
  rw [up64 (n:=2000) (by omega) (by omega)]
 ·unfold M.WW
  simp only [Int.lt_irrefl,decide_false,cond_false]
  exact ⟨D,rfl,hJ⟩
end
def rlks (D:List Zj) (m:Nat):List Int:=((List.range m).filter fun i=>decide (2≤(D.getD i default).ZW.length)).map fun (i:Nat)=>(i:Int)
theorem Zlx (D:List Zj) (m:Nat):rlks D (m+1)=rlks D m++(if 2≤(D.getD m default).ZW.length then [(m:Int)] else []):=by
 unfold rlks
 rw [List.range_succ,List.filter_append,List.map_append]
 congr 1
 by_cases h:2≤(D.getD m default).ZW.length
 ·rw [if_pos h,List.filter_cons,if_pos (decide_eq_true h)]; rfl
 ·rw [if_neg h,List.filter_cons,if_neg (by rw [decide_eq_true_eq]; exact h)]; rfl
theorem Zjp (D:List Zj) (m:Nat):(rlks D m).length≤m:=by
 unfold rlks
 rw [List.length_map]
 exact Nat.le_trans (List.length_filter_le _ _) (by simp)
theorem Zly (D:List Zj) (hb:D.length≤1000):loopM (M.WX D) (([]:List Int),0)=some (rlks D D.length):=by
 have h:=W1 (f:=M.WX D) (σ:=List Int) (fun i l=>(l,(i:Int))) D.length (fun i l=>l=rlks D i) (fun y=>y=rlks D D.length)
  (fun i l hi hJ=>?_) (fun l hJ=>?_) D.length 0 [] (by omega) rfl
 ·obtain ⟨y,h1,rfl⟩:=h
  exact h1
 ·left
  subst hJ
  have hl:=Zjp D i
  unfold M.WX
  have hi':(i:Int) < (D.length:Int):=Int.ofNat_lt.2 hi
  simp only [dt hi',cond_true,gd,List.all_cons,List.all_nil,dt (show (0:Int)≤(i:Int) by omega),id,Bool.and_self,Int.toNat_natCast,Bool.and_true]
  refine ⟨rlks D (i+1),?_,rfl⟩
  rw [Zlx]
  by_cases h2:2≤(D.getD i default).ZW.length
  ·rw [dt (show (((D.getD i default).ZW.length:Int) > 1) by omega),cond_true,dt (show ((rlks D i).length+1)*8≤140737488355328 by omega),cond_true,if_pos h2]
   unfold M.UA
   rw [up64 (n:=2000) (by omega) (by omega)]
  ·rw [decide_eq_false (show ¬ (((D.getD i default).ZW.length:Int) > 1) by omega),cond_false,if_neg h2,List.append_nil]
   unfold M.UA
   rw [up64 (n:=2000) (by omega) (by omega)]
 ·subst hJ
  unfold M.WX
  simp only [Int.lt_irrefl,decide_false,cond_false]
  exact ⟨_,rfl,rfl⟩
def topoOf (D:List Zj):JZ × Int:=bif decide (((rlks D D.length).length:Int) > 12) then (⟨[],[]⟩,7) else (⟨D,rlks D D.length⟩,0)
theorem Zlz {a:ZI} (ha:YY a) (hR:a.Ze.length≤9) (hI:∀ r,nif a r≤12) :
  (S.JE a ≠ 0∧M.Ge a=some (⟨[],[]⟩,S.JE a))∨(S.JE a=0∧∃ D,M.Ge a=some (topoOf D)∧Grp (itN a a.Ze.length) D∧Asc D∧D.length≤108):=by
 unfold M.Ge
 rw [Zic a ha]
 simp only [Option.bind_some]
 cases hc:S.JE a != 0 with
 | true=>exact .inl ⟨by simpa using hc,rfl⟩
 | false =>
  right
  refine ⟨by simpa using hc,?_⟩
  have hl:=ZfW a hI a.Ze.length
  have hl2:a.Ze.length*12≤9*12:=Nat.mul_le_mul_right _ hR
  obtain ⟨D,h1,h2,h3⟩:=Zoz hR hI
  have hE:=h2.len
  refine ⟨D,?_,h2,h3,by omega⟩
  simp only [cond_false,h1,Option.bind_some,Zly D (by omega)]
  unfold topoOf
  cases decide (((rlks D D.length).length:Int) > 12) <;> rfl
end Nv
