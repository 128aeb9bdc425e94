/- The plain law of FibTables. No condition but the bounds of what comes in. -/
import Derived.Test.YtenfloomkjecjaaGreatNvTy
import Derived.Test.YtenfloomkjecjaaGreatNvT2
import Derived.Test.YtenfloomkjecjaaGreatNvLW
set_option maxRecDepth 100000
namespace Nv
open Go Go.Proofs
theorem Znb {l:List ZF} (hl:l.length≤8796093022208):M.RK l l=some true:=by
 have hM:=Zn
 have h:loopM (M.G5 l l) 0=some (.inl ()):=ZaE (n:=l.length) (by omega) (fun i hi=>by
  have q1:decide ((0:Int)≤(i:Int))=true:=dt (by omega)
  have q2:decide ((i:Int) < (l.length:Int))=true:=dt (by omega)
  unfold M.G5
  simp only [Int.toNat_natCast,q1,q2,gd,List.all_cons,List.all_nil,id,BEq.rfl,bne_self_eq_false,Bool.not_true,Bool.and_self,cond_true,cond_false]) (by
  unfold M.G5
  simp only [Int.lt_irrefl,decide_false,cond_false])
 unfold M.RK
 simp only [bne_self_eq_false,cond_false,h,Option.bind_some,Sum.elim_inl]
theorem Zn3 {f:Xx} (hl:f.ZQ.length≤8796093022208):M.UE f f=some true:=by
 have hM:=Zn
 have h:loopM (M.WE f f) 0=some (.inl ()):=ZaE (n:=f.ZQ.length) (by omega) (fun i hi=>by
  have q1:decide ((0:Int)≤(i:Int))=true:=dt (by omega)
  have q2:decide ((i:Int) < (f.ZQ.length:Int))=true:=dt (by omega)
  unfold M.WE
  simp only [Int.toNat_natCast,q1,q2,gd,List.all_cons,List.all_nil,id,BEq.rfl,Bool.not_true,Bool.and_self,cond_true,cond_false]) (by
  unfold M.WE
  simp only [Int.lt_irrefl,decide_false,cond_false])
 unfold M.UE
 simp only [BEq.rfl,bne_self_eq_false,Bool.not_true,Bool.or_self,cond_false,h,Option.bind_some,Sum.elim_inl]
theorem Zn4 {l:List Xx} (hn:l.length≤1000) (hl:∀ f∈l,f.ZQ.length≤8796093022208):M.Wg l l=some true:=by
 have hM:=Zn
 have hgn:∀ g,guardB g true=true:=fun g=>by cases g <;> rfl
 have h:loopM (M.V5 l l) 0=some (.inl ()):=ZaE (n:=l.length) (by omega) (fun i hi=>by
  have q1:decide ((0:Int)≤(i:Int))=true:=dt (by omega)
  have q2:decide ((i:Int) < (l.length:Int))=true:=dt (by omega)
  unfold M.V5
  simp only [Int.toNat_natCast,q1,q2,hgn,gc,gd,List.all_cons,List.all_nil,id,BEq.rfl,Bool.not_true,Bool.not_false,Bool.or_self,Bool.and_self,cond_true,cond_false,Zn3 (hl _ (GL hi)),Option.bind_some]) (by
  unfold M.V5
  simp only [Int.lt_irrefl,decide_false,cond_false])
 unfold M.Wg
 simp only [bne_self_eq_false,cond_false,h,Option.bind_some,Sum.elim_inl]
theorem Zn5 {v:XL} (hv:VF v) (d:Int) {rs:List ZM} (hL:rs.length≤1000) (hb:∀ r∈rs,r.ZQ.length≤8796093022207) (hA:∀ i,i < rs.length→HAsc (rs.getD i default).ZQ) (z:Int):∃ l,M.JJ v rs d z=some l∧M.Wm v rs d z=some l∧l.length≤8796093022208:=by
 have hb':∀ r∈rs,r.ZQ.length≤8796093022208:=fun r hr=>by have:=hb r hr; omega
 by_cases h:z < 0∨(rs.length:Int)≤z
 ·exact ⟨[],Zim v rs d z h,Zin v rs d z h,Nat.zero_le _⟩
 ·obtain ⟨i,rfl⟩:∃ i:Nat,z=(i:Int):=⟨z.toNat,by omega⟩
  exact ⟨_,Zfc hv.L hL hb' d (by omega),Zfe hv d hL hb hA (by omega),Zjq hb' d i⟩
theorem ZoM {v:XL} (hv:VF v) (d:Int) {rs:List ZM} (hL:rs.length≤1000) (hb:∀ r∈rs,r.ZQ.length≤8796093022207) (hA:∀ i,i < rs.length→HAsc (rs.getD i default).ZQ) (ok:Bool):loopM (M.Wh rs (v,ok) d) (-1)=some (.inl ()):=by
 have hM:=Zn
 obtain ⟨y,h1,h2⟩:=W1 (f:=M.Wh rs (v,ok) d) (σ:=Unit) (fun i _=>(i:Int) - 1) (rs.length+2) (fun _ _=>True) (fun y=>y = .inl ()) (fun i _ hi _=>.inl ⟨(),by
  obtain ⟨l,g1,g2,g3⟩:=Zn5 hv d hL hb hA ((i:Int) - 1)
  unfold M.Wh
  simp only [dt (show (i:Int) - 1≤(rs.length:Int) by omega),cond_true,g1,g2,Znb g3,Option.bind_some,Bool.not_true,cond_false]
  rw [show wr .i64 ((i:Int) - 1+1)=((i+1:Nat):Int) - 1 by unfold wr; rw [IntWalk.i64_in _ (by omega)]; omega],trivial⟩) (fun _ _=>⟨.inl (),by
  unfold M.Wh
  rw [decide_eq_false (show ¬ (((rs.length+2:Nat):Int) - 1≤(rs.length:Int)) by omega)]
  rfl,rfl⟩) (rs.length+2) 0 () (by omega) trivial
 rw [← h2]
 exact h1
theorem ZfI (a0:ZI) (a1:List Int) (a2:List ZM) (w0:Zdb a0) (w1:(a1.length≤maxLen∧a1.length*8≤reachBytes∧∀ y∈a1,(Lit.int .i64 y).wf=true)) (w2:(a2.length≤maxLen∧a2.length*136≤reachBytes∧∀ y∈a2,ZgL y)):M.GG a0 a1 a2=some true:=by
 have hM:=Zn
 have ha:=Zhf w0
 have hr:reachBytes≤140737488355300:=by decide
 have hb:∀ r∈a2,r.ZQ.length≤8796093022207:=fun r hr'=>by
  have:=(w2.2.2 r hr').2.2.2.2.2.2.2.2.2.2.2.1.2.1
  omega
 have hb':∀ r∈a2,r.ZQ.length≤8796093022208:=fun r hr=>by have:=hb r hr; omega
 obtain ⟨v,ok,h1,h2⟩:=ZnZ ha a1 w1.1
 unfold M.GG
 rw [h1]
 simp only [Option.bind_some]
 cases hok:ok with
 | false=>simp only [Bool.not_false,Bool.true_or,Bool.not_true,gc,cond_false,Option.bind_some,cond_true]
 | true =>
  obtain ⟨hv,hn,_⟩:=h2 hok
  cases hl:decide ((a2.length:Int) > 20) with
  | true=>simp only [Bool.or_true,Bool.true_or,Bool.not_true,gc,cond_false,Option.bind_some,cond_true]
  | false =>
   have hl2:=of_decide_eq_false hl
   simp only [Bool.not_true,Bool.or_self,Bool.not_false,gc,cond_true,Zhd a2 0 ⟨w2.1,fun y hy=>Zji (w2.2.2 y hy)⟩,Option.bind_some,Bool.false_or]
   cases ht:S.Wt a2 0 with
   | false=>rfl
   | true =>
    have hA:∀ i,i < a2.length→HAsc (a2.getD i default).ZQ:=fun i hi=>Zjs hb' ht hi
    have hloop:loopM (M.W0 a0 a2 (v,true)) 0=some (.inl ()):=by
     have hnr:=hv.nr
     rw [hn] at hnr
     refine ZaE (n:=a0.Ze.length) (by omega) (fun i hi=>?_) ?_
     ·have q2:decide ((i:Int) < (a0.Ze.length:Int))=true:=dt (by omega)
      have hs:M.Wg ((List.range a2.length).map (fwdOf v a2 (i:Int))) ((List.range a2.length).map (fwdOf v a2 (i:Int)))=some true:=Zn4 (by rw [List.length_map,List.length_range]; omega) fun f hf=>by
       obtain ⟨k,_,rfl⟩:=List.mem_map.1 hf
       exact Zjq hb' _ _
      unfold M.W0
      simp only [q2,cond_true,Zm3 hv.L (show a2.length≤1000 by omega) hb',ZlD hv (show a2.length≤1000 by omega) hb hA,hs,ZoM hv _ (show a2.length≤1000 by omega) hb hA,Option.bind_some,Sum.elim_inl,Bool.not_true,cond_false]
     ·unfold M.W0
      simp only [Int.lt_irrefl,decide_false,cond_false]
    simp only [Bool.not_true,cond_false,hloop,Option.bind_some,Sum.elim_inl,Zla]
end Nv
