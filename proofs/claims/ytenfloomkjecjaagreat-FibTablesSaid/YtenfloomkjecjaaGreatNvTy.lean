/- Forwarding: which hops the reference gives, beside the program's. No condition but the bounds of what comes in. -/
import Derived.Test.YtenfloomkjecjaaGreatNvTr
set_option maxRecDepth 100000
namespace Nv
open Go Go.Sort Go.Proofs
theorem Zj9 (p:ZL) (a:Int):S.Yn p a=S.Jf p a:=rfl
noncomputable def bst (rs:List ZM) (p:ZL) (x:Int):Nat→Int
 | 0=>-1
 | i+1=>bif (!((rs.getD i default).Zh.Zm==p.Zm&&((rs.getD i default).Zh.ZE==p.ZE&&true))&&S.Yn (rs.getD i default).Zh x)&&(decide (bst rs p x i < 0)||decide ((rs.getD i default).Zh.ZE > (rs.getD (bst rs p x i).toNat default).Zh.ZE)) then (i:Int) else bst rs p x i
theorem ZkJ (rs:List ZM) (p:ZL) (x:Int):∀ i,-1≤bst rs p x i∧bst rs p x i < (i:Int):=fun i=>by
 induction i with
 | zero=>exact ⟨Int.le_refl _,by show (-1:Int) < ((0:Nat):Int); omega⟩
 | succ i ih =>
  unfold bst
  cases (!((rs.getD i default).Zh.Zm==p.Zm&&((rs.getD i default).Zh.ZE==p.ZE&&true))&&S.Yn (rs.getD i default).Zh x)&&(decide (bst rs p x i < 0)||decide ((rs.getD i default).Zh.ZE > (rs.getD (bst rs p x i).toNat default).Zh.ZE)) with
  | true=>rw [cond_true]; omega
  | false=>rw [cond_false]; omega
theorem Zm7 (rs:List ZM) (hL:rs.length≤maxLen) (p:ZL) (x:Int):M.YN rs p x=some (bst rs p x rs.length):=by
 have hM:=Zn
 have h:=W1 (f:=M.Yp rs p x) (σ:=Int) (fun i s=>(s,(i:Int))) rs.length (fun i s=>s=bst rs p x i) (fun y=>y=bst rs p x rs.length) (fun i s hi hJ=>?_) (fun s hJ=>?_) rs.length 0 (-1) (by omega) rfl
 ·obtain ⟨y,h1,h2⟩:=h
  unfold M.YN
  rw [show ((0:Int))=((0:Nat):Int) from rfl,h1,h2]
  rfl
 ·left
  obtain ⟨g1,g2⟩:=ZkJ rs p x i
  rw [← hJ] at g1 g2
  have q1:decide ((i:Int) < (rs.length:Int))=true:=dt (by omega)
  have q2:decide ((0:Int)≤(i:Int))=true:=dt (by omega)
  have hg1:guardB (!decide (s < 0)) (decide (0≤s))=true:=X5 fun h=>dt (by simpa using h)
  have hg2:guardB (!decide (s < 0)) (decide (s < (rs.length:Int)))=true:=X5 fun _=>dt (by omega)
  refine ⟨bst rs p x (i+1),?_,rfl⟩
  unfold bst
  rw [← hJ]
  unfold M.Yp M.Yi
  simp only [Int.toNat_natCast,q1,q2,hg1,hg2,gd,List.all_cons,List.all_nil,id,Bool.and_self,cond_true,ZaF (n:=rs.length) hi (by omega)]
  generalize ((rs.getD i default).Zh.Zm==p.Zm&&((rs.getD i default).Zh.ZE==p.ZE&&true))=b
  generalize (decide (s < 0)||decide ((rs.getD i default).Zh.ZE > (rs.getD s.toNat default).Zh.ZE))=c
  cases b with
  | true=>rfl
  | false =>
   simp only [Bool.not_false,gc,cond_true,ZaM,Option.bind_some,Bool.false_or,Bool.true_and]
   cases S.Yn (rs.getD i default).Zh x <;> cases c <;> rfl
 ·refine ⟨s,?_,hJ⟩
  unfold M.Yp
  simp only [Int.lt_irrefl,decide_false,cond_false]
theorem Zm8 (rs:List ZM) (hL:rs.length≤maxLen) (p:ZL) (x:Int):M.UB rs p x=some (bst rs p x rs.length):=by
 have hM:=Zn
 have h:=W1 (f:=M.Ud rs p x) (σ:=Int) (fun i s=>(s,(i:Int))) rs.length (fun i s=>s=bst rs p x i) (fun y=>y=bst rs p x rs.length) (fun i s hi hJ=>?_) (fun s hJ=>?_) rs.length 0 (-1) (by omega) rfl
 ·obtain ⟨y,h1,h2⟩:=h
  unfold M.UB
  rw [show ((0:Int))=((0:Nat):Int) from rfl,h1,h2]
  rfl
 ·left
  obtain ⟨g1,g2⟩:=ZkJ rs p x i
  rw [← hJ] at g1 g2
  have q1:decide ((i:Int) < (rs.length:Int))=true:=dt (by omega)
  have q2:decide ((0:Int)≤(i:Int))=true:=dt (by omega)
  have hg1:∀ g,guardB (g && !decide (s < 0)) (decide (0≤s))=true:=fun g=>X5 fun h=>dt (by simp at h; omega)
  have hg2:∀ g,guardB (g && !decide (s < 0)) (decide (s < (rs.length:Int)))=true:=fun g=>X5 fun _=>dt (by omega)
  have hgn:∀ g,guardB g true=true:=fun g=>by cases g <;> rfl
  refine ⟨bst rs p x (i+1),?_,rfl⟩
  unfold bst
  rw [← hJ]
  unfold M.Ud M.Uc
  simp only [Int.toNat_natCast,q1,q2,hg1,hg2,hgn,gd,List.all_cons,List.all_nil,id,Bool.and_self,cond_true,ZaF (n:=rs.length) hi (by omega),Zj9]
  generalize ((rs.getD i default).Zh.Zm==p.Zm&&((rs.getD i default).Zh.ZE==p.ZE&&true))=b
  generalize (decide (s < 0)||decide ((rs.getD i default).Zh.ZE > (rs.getD s.toNat default).Zh.ZE))=c
  cases b with
  | true=>rfl
  | false =>
   simp only [Bool.not_false,gc,cond_true,ZaK,Option.bind_some,Bool.true_and]
   cases S.Jf (rs.getD i default).Zh x <;> cases c <;> rfl
 ·refine ⟨s,?_,hJ⟩
  unfold M.Ud
  simp only [Int.lt_irrefl,decide_false,cond_false]
theorem Zn2 (rs:List ZM) (hL:rs.length≤maxLen) (r:ZM):M.UB rs r.Zh r.YF=some (srs rs r):=by
 rw [Zm8 rs hL]
 have h:=(Zj6 rs hL r).1
 rw [Zm7 rs hL] at h
 exact h
theorem Zm9 {v:XL} (h:VF v) (d:Int) {hs:List ZF} (hl:hs.length≤8796093022207):M.K4 v d hs=some (hs.filter fun x=>upV v (d,x.ZP)):=by
 have hM:=Zn
 have hf:loopM (M.KB v d hs) (([]:List ZF),0)=some (hs.filter fun x=>upV v (d,x.ZP)):=ZcI _ (fun l k hk hkl=>by
  have q1:decide ((0:Int)≤(k:Int))=true:=dt (by omega)
  have q2:decide ((k:Int) < (hs.length:Int))=true:=dt (by omega)
  have q3:decide ((l.length+1)*16≤140737488355328)=true:=dt (by omega)
  unfold M.KB M.KA
  simp only [Int.toNat_natCast,q1,q2,q3,gd,List.all_cons,List.all_nil,id,Bool.and_self,cond_true,ZjZ v _ _ h.L,ZoO h,Option.bind_some,ZaF (n:=hs.length) hk (by omega)]
  cases upV v (d,(hs.getD k default).ZP) <;> rfl) (fun l=>by
  unfold M.KB
  simp only [Int.lt_irrefl,decide_false,cond_false])
 unfold M.K4
 simp only [hf,Option.bind_some]
theorem addHops1 {l:List ZF} (hl:l.length≤8796093022207) (ha:HAsc l) (h:ZF):∃ r,M.GA l [h]=some r∧HAsc r∧(∀ x,x∈r↔x∈l∨x=h)∧r.length≤l.length+1:=by
 obtain ⟨r,q1,q2,q3,q4⟩:=Zls hl ha h
 have e0:([h]:List ZF).getD (0:Int).toNat default=h:=rfl
 have s0:M.UC [h] (l,0)=some (.inl (r,1)):=by
  unfold M.UC
  simp only [e0,q1,Option.bind_some]
  rfl
 have s1:M.UC [h] (r,1)=some (.inr r):=rfl
 refine ⟨r,?_,q2,q3,q4⟩
 unfold M.GA
 rw [Q2 (.next s0 (.out s1))]
 rfl
theorem ZlB {rs:List ZM} (hb:∀ r∈rs,r.ZQ.length≤8796093022207) (seen:List Bool) {i j:Nat} (hj:j < rs.length):∃ r,loopM (M.We rs (seen,(i:Int)) (j:Int)) (([]:List ZF),0)=some r∧HAsc r∧(∀ x,x∈r↔x∈(rs.getD j default).ZQ.map (thr (rs.getD i default).YF))∧r.length≤(rs.getD j default).ZQ.length:=by
 have hM:=Zn
 have hl:=hb _ (GL hj)
 have q1:decide ((0:Int)≤(j:Int))=true:=dt (by omega)
 have q2:decide ((j:Int) < (rs.length:Int))=true:=dt (by omega)
 have hh:=W1 (f:=M.We rs (seen,(i:Int)) (j:Int)) (σ:=List ZF) (fun k l=>(l,(k:Int))) (rs.getD j default).ZQ.length
  (fun k l=>HAsc l∧(∀ x,x∈l↔x∈((rs.getD j default).ZQ.take k).map (thr (rs.getD i default).YF))∧l.length≤k)
  (fun r=>HAsc r∧(∀ x,x∈r↔x∈(rs.getD j default).ZQ.map (thr (rs.getD i default).YF))∧r.length≤(rs.getD j default).ZQ.length) (fun k l hk hJ=>?_) (fun l hJ=>?_) (rs.getD j default).ZQ.length 0 [] (by omega) ⟨List.Pairwise.nil,fun x=>by simp,Nat.le_refl _⟩
 ·obtain ⟨y,h1,h2⟩:=hh
  exact ⟨y,h1,h2⟩
 ·left
  obtain ⟨g1,g2,g3⟩:=hJ
  have q3:decide ((0:Int)≤(k:Int))=true:=dt (by omega)
  have q4:decide ((k:Int) < ((rs.getD j default).ZQ.length:Int))=true:=dt (by omega)
  obtain ⟨r,p1,p2,p3,p4⟩:=addHops1 (l:=l) (by omega) g1 (thr (rs.getD i default).YF ((rs.getD j default).ZQ.getD k default))
  refine ⟨r,?_,p2,fun x=>?_,by omega⟩
  ·unfold M.We M.UD
   simp only [Int.toNat_natCast,q1,q2,q3,q4,gd,List.all_cons,List.all_nil,id,Bool.and_self,cond_true,ZaF (n:=(rs.getD j default).ZQ.length) hk (by omega)]
   unfold thr at p1
   cases h0:((rs.getD j default).ZQ.getD k default).Zm==0 with
   | true =>
    rw [h0,cond_true] at p1
    rw [cond_true,p1]
    rfl
   | false =>
    rw [h0,cond_false] at p1
    rw [cond_false,show (⟨((rs.getD j default).ZQ.getD k default).ZP,((rs.getD j default).ZQ.getD k default).Zm⟩:ZF)=(rs.getD j default).ZQ.getD k default from rfl,p1]
    rfl
  ·rw [p3,g2,Kp hk,List.map_append,List.mem_append]
   simp only [List.map_cons,List.map_nil,List.mem_singleton]
 ·obtain ⟨g1,g2,g3⟩:=hJ
  rw [List.take_length] at g2
  refine ⟨l,?_,g1,g2,g3⟩
  unfold M.We
  simp only [Int.toNat_natCast,q1,q2,gd,List.all_cons,List.all_nil,id,Bool.and_self,cond_true,Int.lt_irrefl,decide_false,cond_false]
theorem Zna {rs:List ZM} {j:Nat} (h:(rs.getD j default).ZS=true):∀ f seen,rsv rs f seen j=[]:=fun f seen=>by
 cases f with
 | zero=>rfl
 | succ f =>
  unfold rsv
  simp only [h,Bool.not_true,Bool.false_and,cond_false,cond_true]
theorem Zfd {l r:List ZF} {p:ZF→Bool} (h:HAsc r) (k:∀ x,x∈r↔x∈l):r.filter p=hset (l.filter p) :=
 Zhz (List.Pairwise.filter p h) fun x=>by rw [List.mem_filter,List.mem_filter,k x]
theorem ZgV:hset []=[]:=(Zhz (r:=[]) List.Pairwise.nil fun _=>Iff.rfl).symm
theorem ZlC {v:XL} (hv:VF v) (d:Int) {rs:List ZM} (hL:rs.length≤maxLen) (hb:∀ r∈rs,r.ZQ.length≤8796093022207):∀ (f:Nat) (seen:List Bool) (i:Nat),i < rs.length→seen.length=rs.length→seen.getD i default=false→seen.count false≤f →
  (!(rs.getD i default).ZS&&recr (rs.getD i default))=true→loopM (M.Wf v rs d) (seen,(i:Int))=some (hset ((rsv rs f seen i).filter fun x=>upV v (d,x.ZP))):=by
 intro f
 induction f with
 | zero =>
  intro seen i hi hs hf hc
  exfalso
  have:=Kf (i:=i) (l:=seen) (by omega) hf
  omega
 | succ f ih =>
  intro seen i hi hs hf hc hR
  have hcs:=Kf (i:=i) (l:=seen) (by omega) hf
  have q1:decide ((0:Int)≤(i:Int))=true:=dt (by omega)
  have q2:decide ((i:Int) < (rs.length:Int))=true:=dt (by omega)
  have q3:decide ((i:Int) < (seen.length:Int))=true:=dt (by omega)
  obtain ⟨_,s2,s3⟩:=Zj6 rs hL (rs.getD i default)
  have s1:=Zn2 rs hL (rs.getD i default)
  have hgn:∀ g,guardB g true=true:=fun g=>by cases g <;> rfl
  have hg0:∀ b,guardB false b=true:=fun b=>by cases b <;> rfl
  unfold rsv
  rw [hR,cond_true]
  cases hj:decide (srs rs (rs.getD i default) < 0) with
  | true =>
   have step:M.Wf v rs d (seen,(i:Int))=some (.inr []):=by
    unfold M.Wf
    simp only [Int.toNat_natCast,Nat.zero_add,q1,q2,q3,s1,hj,hg0,gd,List.all_cons,List.all_nil,id,Bool.and_self,cond_true,Option.bind_some,Bool.not_true,Bool.true_or]
   rw [Q2 (.out step),Bool.true_or,cond_true]
   show some []=some (hset [])
   rw [ZgV]
  | false =>
   have hj':=of_decide_eq_false hj
   obtain ⟨j,hje⟩:∃ j:Nat,srs rs (rs.getD i default)=(j:Int):=⟨(srs rs (rs.getD i default)).toNat,by omega⟩
   rw [hje] at s1 s3 hj ⊢
   rw [Int.toNat_natCast,Bool.false_or]
   have hjn:j < rs.length:=by omega
   have p1:decide ((0:Int)≤(j:Int))=true:=dt (by omega)
   have p2:decide ((j:Int) < (rs.length:Int))=true:=dt (by omega)
   have p3:decide ((j:Int) < (seen.length:Int))=true:=dt (by omega)
   have un:M.Wf v rs d (seen,(i:Int))=bif (rs.getD j default).ZS||(seen.set i true).getD j default then some (.inr []) else bif recr (rs.getD j default) then some (.inl (seen.set i true,(j:Int))) else (loopM (M.We rs (seen,(i:Int)) (j:Int)) (([]:List ZF),0)).bind fun y9=>(M.K4 v d y9).bind fun r10=>some (.inr r10):=by
    unfold M.Wf
    simp only [Int.toNat_natCast,Nat.zero_add,q1,q2,q3,p1,p2,p3,s1,hj,hgn,gd,List.all_cons,List.all_nil,id,Bool.and_self,cond_true,Option.bind_some,Bool.false_or,List.length_set]
    rfl
   cases hd:(rs.getD j default).ZS with
   | true =>
    rw [hd,Bool.true_or,cond_true] at un
    rw [Q2 (.out un),Bool.not_true,Bool.false_and,cond_false,Zna hd]
    cases (seen.set i true).getD j default <;> (show some []=some (hset []); rw [ZgV])
   | false =>
    cases hsn:(seen.set i true).getD j default with
    | true =>
     rw [hd,hsn,Bool.false_or,cond_true] at un
     rw [Q2 (.out un),cond_true]
     show some []=some (hset [])
     rw [ZgV]
    | false =>
     rw [hd,hsn,Bool.false_or,cond_false] at un
     rw [cond_false,Bool.not_false,Bool.true_and]
     cases hr:recr (rs.getD j default) with
     | true =>
      rw [hr,cond_true] at un
      rw [Bool.not_true,cond_false]
      exact Q2 (.next un (Wz (ih (seen.set i true) j hjn (by rw [List.length_set]; exact hs) hsn (by omega) (by rw [hd,hr]; rfl))))
     | false =>
      rw [hr,cond_false] at un
      obtain ⟨y,g1,g2,g3,g4⟩:=ZlB hb seen (i:=i) hjn
      have hly:=hb _ (GL hjn)
      rw [g1,Option.bind_some,Zm9 hv d (by omega),Option.bind_some,Zfd g2 g3] at un
      rw [Bool.not_false,cond_true]
      exact Q2 (.out un)
theorem Zfe {v:XL} (hv:VF v) (d:Int) {rs:List ZM} (hL:rs.length≤1000) (hb:∀ r∈rs,r.ZQ.length≤8796093022207) (hA:∀ i,i < rs.length→HAsc (rs.getD i default).ZQ) {i:Nat} (hi:i < rs.length):M.Wm v rs d (i:Int)=some (hopsOf v rs d i):=by
 have hM:=Zn
 have q1:decide ((0:Int)≤(i:Int))=true:=dt (by omega)
 have q2:decide ((i:Int) < (rs.length:Int))=true:=dt (by omega)
 have n1:decide ((i:Int) < 0)=false:=decide_eq_false (by omega)
 have n2:decide ((i:Int) ≥ (rs.length:Int))=false:=decide_eq_false (by omega)
 have hgn:∀ g,guardB g true=true:=fun g=>by cases g <;> rfl
 have m1:decide ((0:Int)≤(rs.length:Int))=true:=dt (by omega)
 have m2:decide ((rs.length:Int)≤(rs.length:Int))=true:=dt (by omega)
 have m3:decide (rs.length*1≤140737488355328)=true:=dt (by omega)
 have m4:decide (rs.length≤140737488355328)=true:=dt (by omega)
 unfold M.Wm
 simp only [Int.toNat_natCast,q1,q2,n1,n2,m1,m2,m3,m4,hgn,gd,List.all_cons,List.all_nil,id,Bool.and_self,cond_true,Bool.or_self,Bool.false_or]
 cases hd:(rs.getD i default).ZS with
 | true=>rw [cond_true,ZlA hd]
 | false =>
  rw [cond_false]
  have hlh:=hb _ (GL hi)
  cases hr:recr (rs.getD i default) with
  | false =>
   have hc:(((rs.getD i default).XR != 2)||((rs.getD i default).YF==0))=true:=by
    unfold recr at hr
    simp at hr ⊢
    by_cases h2:(rs.getD i default).XR=2
    ·exact .inr (hr h2)
    ·exact .inl h2
   rw [hc,cond_true,Zm9 hv d (by omega),Option.bind_some]
   unfold hopsOf
   have:rsvA rs i=(rs.getD i default).ZQ:=by
    unfold rsvA
    cases hn:rs.length with
    | zero=>omega
    | succ n =>
     unfold rsv
     simp only [hd,hr,Bool.not_false,Bool.and_false,cond_false]
   rw [this]
   exact congrArg some (Zfd (hA i hi) fun _=>Iff.rfl)
  | true =>
   have hc:(((rs.getD i default).XR != 2)||((rs.getD i default).YF==0))=false:=by
    unfold recr at hr
    simp at hr ⊢
    exact hr
   rw [hc,cond_false,ZlC hv d (by omega) hb rs.length (List.replicate rs.length false) i hi (by simp) (by simp [hi]) (by simp) (by rw [hd,hr]; rfl)]
   rfl
theorem Zin (v:XL) (rs:List ZM) (d i:Int) (h:i < 0∨(rs.length:Int)≤i):M.Wm v rs d i=some []:=by
 have:(decide (i < 0)||decide (i ≥ (rs.length:Int)))=true:=by simp; omega
 have hg0:∀ b,guardB false b=true:=fun b=>by cases b <;> rfl
 unfold M.Wm
 simp only [this,Bool.not_true,hg0,gd,List.all_cons,List.all_nil,id,Bool.and_self,cond_true,Bool.true_or]
theorem ZlD {v:XL} (hv:VF v) {rs:List ZM} (hL:rs.length≤1000) (hb:∀ r∈rs,r.ZQ.length≤8796093022207) (hA:∀ i,i < rs.length→HAsc (rs.getD i default).ZQ) (d:Int):M.KC v rs d=some ((List.range rs.length).map (fwdOf v rs d)):=by
 have hM:=Zn
 have h:=W1 (f:=M.Gf v rs d) (σ:=List Xx) (fun i l=>(l,(i:Int))) rs.length (fun i l=>l=(List.range i).map (fwdOf v rs d)) (fun y=>y=(List.range rs.length).map (fwdOf v rs d)) (fun i l hi hJ=>?_) (fun l hJ=>?_) rs.length 0 [] (by omega) rfl
 ·obtain ⟨y,h1,h2⟩:=h
  unfold M.KC
  rw [show ((0:Int))=((0:Nat):Int) from rfl,h1,h2]
  rfl
 ·left
  subst hJ
  have q1:decide ((0:Int)≤(i:Int))=true:=dt (by omega)
  have q2:decide ((i:Int) < (rs.length:Int))=true:=dt (by omega)
  have q4:decide ((((List.range i).map (fwdOf v rs d)).length+1)*48≤140737488355328)=true:=dt (by rw [List.length_map,List.length_range]; omega)
  unfold M.Gf
  simp only [Int.toNat_natCast,q1,q2,q4,gd,List.all_cons,List.all_nil,id,Bool.and_self,cond_true,Zfe hv d hL hb hA hi,Option.bind_some,ZaF (n:=rs.length) hi (by omega)]
  refine ⟨_,rfl,?_⟩
  rw [List.range_succ,List.map_append]
  rfl
 ·subst hJ
  refine ⟨_,?_,rfl⟩
  unfold M.Gf
  simp only [Int.lt_irrefl,decide_false,cond_false]
end Nv
