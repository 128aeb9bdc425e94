/- Part of the proof of TopoFailuresAll: the library of walks. No condition. -/
import Derived.Test.YtaienbkgekjdnaaGreatNvLibC
import Derived.Test.YtaienbkgekjdnaaGreatNvLibB
import Derived.KernelRfl
namespace Nv
open Go Go.RowKit
def cutAt (ops:Array Oper) (k:Nat):Bool :=
 let M:=Region.before ops
 (List.range ops.size).all fun q=>Nat.blt q k||(List.range k).all fun p=>(M.getD q 0).testBit p
theorem Zi1 {ops:Array Oper} {k p q:Nat} (h:cutAt ops k=true) (hq:q < ops.size) (hk:k≤q) (hp:p < k):((Region.before ops).getD q 0).testBit p=true:=by
 have h1:=List.all_eq_true.1 h q (List.mem_range.2 hq)
 rw [show Nat.blt q k=false by (cases hb:Nat.blt q k with | false=>rfl | true=>have:=XW hb; omega),Bool.false_or] at h1
 exact List.all_eq_true.1 h1 p (List.mem_range.2 hp)
def QK (Q:Exit→Act→World→Prop) (K:Act→World→Prop):Exit→Act→World→Prop
 | .normal,a,w=>K a w
 | e,a,w=>Q e a w
theorem ZmQ {P:Program} {o:Oper} {a:Act} {w:World} {Q:Exit→Act→World→Prop} {K K1 K2:Act→World→Prop} (h:∀ a w,K1 a w→K2 a w) (hh:o.wp P a w K1 (QK Q K)):o.wp P a w K2 Q:=by
 unfold Oper.wp at *
 generalize (execOp a.eval o).run P w=r at *
 cases r with
 | ok n w' =>
  cases n <;> simp only [Oper.upon] at hh ⊢ <;>
   first
    | exact h _ _ hh
    | exact Calls.mono hh (fun e w'' he=>by cases e <;> first | exact h _ _ he | exact he)
    | exact Rows.mono hh (fun _ _ he=>h _ _ he)
 | halt x w'=>cases x <;> simp only [Oper.upon] at hh ⊢ <;> exact hh
theorem Zhm {ops:Array Oper} {k i:Nat} (hk:k≤ops.size) (hi:i < k):(ops.extract 0 k)[i]? = ops[i]? := by
 rw [Array.getElem?_extract]
 simp only [Nat.sub_zero,Nat.zero_add]
 rw [if_pos (by omega)]
theorem Zi2 {P:Program} {ops:Array Oper} {k:Nat} (hk:k≤ops.size) (hfl:flowB ops=true) (hcut:cutAt ops k=true) {Q:Exit→Act→World→Prop} {K:Act→World→Prop}
  (hn:∀ a w,K a w→∀ listed:Array Bool,listed.size=ops.size→(∀ i,listed.getD i false=true↔i < k)→wpAny P .any ops Q (ops.size - k) listed a w) :
  ∀ (fuel:Nat) (la listed:Array Bool) (a:Act) (w:World),la.size=k→listed.size=ops.size→(∀ i,listed.getD i false=true↔la.getD i false=true)→(∀ i j,Waits ops i j→listed.getD i false=true→listed.getD j false=true)→cnt la+fuel=k →
   wpAny P .any (ops.extract 0 k) (QK Q K) fuel la a w→wpAny P .any ops Q (fuel+(ops.size - k)) listed a w:=by
 have flow:=Zfp hfl
 have esz:(ops.extract 0 k).size=k:=by rw [Array.size_extract]; omega
 have onlt:∀ i o,ops[i]? = some o→∀ e∈o.after,Region.binds .any e=true→e.on < i:=fun i o ho e he hb=>by
  have h1:=flow i o ho
  simp only [flowAt,Bool.and_eq_true] at h1
  have h2:=Array.all_eq_true'.1 h1.1.1 e he
  simp only [hb,Bool.not_true,Bool.false_or] at h2
  exact XW h2
 intro fuel
 induction fuel with
 | zero =>
  intro la listed a w hla hls hle hcl hcnt hw
  have hall:=R1 (listed:=la) (by rw [hla]; omega)
  rw [Nat.zero_add]
  refine hn a w hw.2 listed hls fun i=>?_
  rw [hle]
  refine ⟨fun h=>?_,fun h=>hall i (by omega)⟩
  rcases Nat.lt_or_ge i la.size with h1 | h1
  ·omega
  ·simp [Array.getElem?_eq_none h1] at h
 | succ fuel ih =>
  intro la listed a w hla hls hle hcl hcnt hw
  rw [show fuel+1+(ops.size - k)=(fuel+(ops.size - k))+1 by omega]
  have lan:∀ i,k≤i→listed.getD i false=false:=fun i hi=>by
   cases hl:listed.getD i false with
   | false=>rfl
   | true =>
    have:=(hle i).1 hl
    simp [Array.getElem?_eq_none (show la.size≤i by omega)] at this
  -- one is not listed yet
  have ex:∃ i,i < k∧la.getD i false=false:=by
   apply Classical.byContradiction
   intro h
   have hall:∀ i,i < la.size→la.getD i false=true:=fun i hi=>by
    cases hl:la.getD i false with
    | true=>rfl
    | false=>exact absurd ⟨i,by omega,hl⟩ h
   have:cnt la=la.size:=by
    unfold cnt
    rw [← Array.length_toList]
    refine List.countP_eq_length.2 fun x hx=>?_
    obtain ⟨i,hi,rfl⟩:=List.getElem_of_mem hx
    have:=hall i (by simpa using hi)
    simp only [Array.length_toList] at hi
    simp [hi] at this
    simpa using this
   omega
  have rdy:∀ i,i∈Region.ready .any ops listed→i < k∧i∈Region.ready .any (ops.extract 0 k) la:=fun i hi=>by
   obtain ⟨h1,o,ho,h2⟩:=mem_ready.1 hi
   have hilt:=(Array.getElem?_eq_some_iff.1 ho).1
   have hik:i < k:=by
    apply Classical.byContradiction
    intro hge
    obtain ⟨j,hj,hj2⟩:=ex
    have hr:=YW ops i j hilt (Zi1 hcut hilt (by omega) hj)
    have:=Qg hcl hr fun q ⟨o',ho',e,he,hb,hon⟩=>by
     rw [ho] at ho'; cases ho'
     rw [← hon]; exact h2 e he hb
    rw [hle,hj2] at this
    cases this
   refine ⟨hik,mem_ready.2 ⟨?_,o,by rw [Zhm hk hik]; exact ho,fun e he hb=>(hle _).1 (h2 e he hb)⟩⟩
   have h3:listed.getD i false=false:=by simp [hls,hilt] at h1 ⊢; exact h1
   have h4:la.getD i false=false:=by
    cases hl:la.getD i false with
    | false=>rfl
    | true=>rw [(hle i).2 hl] at h3; cases h3
   simp [hla,hik] at h4 ⊢; exact h4
  have ne:Region.ready .any ops listed ≠ []:=by
   obtain ⟨j,hj,hj2⟩:=ex
   have key:∀ i,i < k→la.getD i false=false→∃ q,q∈Region.ready .any ops listed:=by
    intro i
    induction i using Nat.strongRecOn with
    | _ i ihi =>
     intro hi hil
     by_cases hx:∃ e∈(ops[i]'(by omega)).after,Region.binds .any e=true∧listed.getD e.on false=false
     ·obtain ⟨e,he,hb,hl⟩:=hx
      have h1:=onlt i _ (by simp) e he hb
      refine ihi e.on h1 (by omega) ?_
      cases hq:la.getD e.on false with
      | false=>rfl
      | true=>rw [(hle _).2 hq] at hl; cases hl
     ·refine ⟨i,mem_ready.2 ⟨?_,ops[i]'(by omega),by simp,fun e he hb=>?_⟩⟩
      ·have:listed.getD i false=false:=by
        cases hq:listed.getD i false with
        | false=>rfl
        | true=>rw [(hle i).1 hq] at hil; cases hil
       simp [hls,show i < ops.size by omega] at this ⊢; exact this
      ·cases hq:listed.getD e.on false with
       | true=>rfl
       | false=>exact absurd ⟨e,he,hb,hq⟩ hx
   obtain ⟨q,hq⟩:=key j hj hj2
   intro h; rw [h] at hq; cases hq
  refine ⟨fun h=>absurd h ne,fun i hi=>?_⟩
  obtain ⟨hik,hiA⟩:=rdy i hi
  obtain ⟨hun,o,ho,hall⟩:=mem_ready.1 hi
  have hilt:=(Array.getElem?_eq_some_iff.1 ho).1
  have hunA:la.getD i false=false:=by
   cases hl:la.getD i false with
   | false=>rfl
   | true =>
    have:=(hle i).2 hl
    simp [hls,hilt] at hun this
    rw [hun] at this; cases this
  have hop:=hw.2 i hiA
  have next:∀ a' w',wpAny P .any (ops.extract 0 k) (QK Q K) fuel (la.setIfInBounds i true) a' w'→wpAny P .any ops Q (fuel+(ops.size - k)) (listed.setIfInBounds i true) a' w':=fun a' w' h =>
   ih (la.setIfInBounds i true) (listed.setIfInBounds i true) a' w' (by simp [hla]) (by simp [hls])
    (fun j=>by rw [Zci (by omega) j,Zci (by omega) j,hle j])
    (fun p q hpq hp=>by
     rw [Zci (by omega)] at hp ⊢
     rcases hp with rfl | hp
     ·right
      obtain ⟨o',ho',e,he,hb,hon⟩:=hpq
      rw [ho] at ho'; cases ho'
      rw [← hon]; exact hall e he hb
     ·exact .inr (hcl p q hpq hp))
    (by rw [Zcg (by omega) hunA]; omega) h
  have hA:(ops.extract 0 k)[i]? = some o:=by rw [Zhm hk hik]; exact ho
  unfold wpOp at hop ⊢
  rw [hA] at hop
  rw [ho]
  simp only at hop ⊢
  have hwant:Region.wanted o (yielded (ops.extract 0 k) a.tmps)=Region.wanted o (yielded ops a.tmps):=by
   unfold Region.wanted
   cases hg:o.guard with
   | none=>rfl
   | some p =>
    obtain ⟨j,want⟩:=p
    have h1:=flow i o ho
    simp only [flowAt,Bool.and_eq_true,hg] at h1
    obtain ⟨e,he,h2⟩:=Array.any_eq_true'.1 h1.1.2
    simp only [Bool.and_eq_true] at h2
    have h3:=onlt i o ho e he h2.1
    rw [Nat.eq_of_beq_eq_true h2.2] at h3
    simp only [yielded,Zhm hk (show j < k by omega)]
  rw [hwant] at hop
  split
  ·rename_i hw'
   rw [if_pos hw'] at hop
   exact hop.imp (ZmQ next) (fun h=>h)
  ·rename_i hw'
   rw [if_neg hw'] at hop
   exact next _ _ hop
end Nv
namespace Nv
open Go Go.RowKit
end Nv
namespace Nv
open Go Go.RowKit
def lkB:Op→Bool
 | .load _ _ | .indexAddr _ _ _=>true
 | _=>false
def elemN (k:Nat):List Nat→Bool
 | []=>false
 | x :: l=>Nat.beq x k||elemN k l
def frk (fr:List Nat) (k:Nat) (op:Op):Bool:=elemN k fr&&lkB op
theorem Zi3 {fr:List Nat} {k:Nat} {op:Op} (h:wrB op=true):frk fr k op=false:=by
 have:lkB op=false:=by
  unfold wrB at h
  split at h <;> first | rfl | cases h
 unfold frk; rw [this,Bool.and_false]
def stepDf (fr:List Nat) (P:Program) (ops:Array Oper) (k:Nat) (H:List Ob) (env:List (Nat × D)) (orc:List Res) (o:Oper):Option (D × List Ob × List Bool × List Req × List Res) :=
 match wrB o.op with
 | true=>match o.guard,heapF P H (fun x=>unwrap [] (evD env x)) o.op with
  | none,some (d,H',none,bs)=>some (d,H',bs,[],orc)
  | _,_=>none
 | false=>match stepDr P ops k (bif frk fr k o.op then [] else H) env orc o with
  | some (d,bs,rq,orc')=>some (d,H,bs,rq,orc')
  | none=>none
structure TraceF (fr:List Nat) (P:Program) (nt:Nat) (ops:Array Oper) (bs:List Bool) (rq:List Req) (k n:Nat) (E:Nat→List (Nat × D)) (HH:Nat→List Ob) (V:Nat→D):Prop where
 step:∀ i,k≤i→i < n→∃ o orc b r orc',ops[i]? = some o∧stepDf fr P ops i (HH i) (E i) orc o=some (V i,HH (i+1),b,r,orc')∧(∀ x∈b,x∈bs)∧(∀ x∈r,x∈rq)
 put:∀ i,k≤i→i < n→∃ o,ops[i]? = some o∧putE nt o.dst (V i) (E i)=some (E (i+1))
def cmpF (fr:List Nat) (ops:Array Oper):Bool :=
 let M:=Region.before ops
 ops.toList.zipIdx.all fun p=>!wrB p.1.op||ops.toList.zipIdx.all fun q=>stillB q.1.op||frk fr q.2 q.1.op||Nat.beq p.2 q.2||bif Nat.blt q.2 p.2 then (M.getD p.2 0).testBit q.2 else (M.getD q.2 0).testBit p.2
theorem Zcj {fr:List Nat} {ops:Array Oper} (h:cmpF fr ops=true) {w i:Nat} {ow oi:Oper} (hw:ops[w]? = some ow) (hi:ops[i]? = some oi) (h1:wrB ow.op=true) (h2:(stillB oi.op||frk fr i oi.op)=false) (hne:w ≠ i) :
  (i < w∧((Region.before ops).getD w 0).testBit i=true)∨(w < i∧((Region.before ops).getD i 0).testBit w=true):=by
 have a1:=List.all_eq_true.1 h (ow,w) (by rw [List.mem_zipIdx_iff_getElem?]; simpa using hw)
 simp only [h1,Bool.not_true,Bool.false_or] at a1
 have a2:=List.all_eq_true.1 a1 (oi,i) (by rw [List.mem_zipIdx_iff_getElem?]; simpa using hi)
 have e:Nat.beq w i=false:=by
  cases hb:Nat.beq w i with
  | false=>rfl
  | true=>exact absurd (Nat.eq_of_beq_eq_true hb) hne
 simp only [h2,e,Bool.false_or] at a2
 cases hlt:Nat.blt i w with
 | true=>rw [hlt] at a2; exact .inl ⟨XW hlt,a2⟩
 | false =>
  rw [hlt] at a2
  refine .inr ⟨?_,a2⟩
  rcases Nat.lt_or_ge i w with h3 | h3
  ·have:Nat.blt i w=true:=Nat.ble_eq_true_of_le h3
   rw [this] at hlt; cases hlt
  ·omega
end Nv
namespace Nv
open Go Go.RowKit
theorem Gk {P:Program} {F:Fr} [GF P F] {nt:Nat} {ops:Array Oper} (hnd:dstsB ops=true) {Q:Exit→Act→World→Prop} {rest:List Nat}:∀ (l:List Oper) (k:Nat) (s s':RS) (bs:List Bool) (rq:List Req),(∀ (j:Nat),l[j]? = ops[k+j]? ∨ l.length≤j) →
  runS P nt ops k l s=some (s',bs,rq)→(∀ b∈bs,b=true)→(∀ q∈rq,q.ok P)→∀ (a:Act) (c:Ctx),RInv F nt ops k s a c →
  (∀ a' c',RInv F nt ops (k+l.length) s' a' c'→wpOps P ops Q rest a' c'.w)→wpOps P ops Q (List.range' k l.length++rest) a c.w
 | [],k,s,s',bs,rq,_,h,_,_,a,c,hR,hQ=>by
  simp only [runS,Option.some.injEq,Prod.mk.injEq] at h
  obtain ⟨rfl,rfl,rfl⟩:=h
  exact hQ a c hR
 | o :: l,k,s,s',bs,rq,hl,h,hb,hq,a,c,hR,hQ=>by
  have ho:ops[k]? = some o:=by
   rcases hl 0 with h1 | h1
   ·simpa using h1.symm
   ·simp at h1
  simp only [runS] at h
  split at h <;> try cases h
  rename_i s1 b1 r1 hstep
  split at h <;> try cases h
  rename_i s2 b2 r2 hrun
  simp only [List.length_cons,List.range'_succ,List.cons_append,wpOps,ho]
  have next:∀ a' c',RInv F nt ops (k+1) s1 a' c'→wpOps P ops Q (List.range' (k+1) l.length++rest) a' c'.w:=fun a' c' hR' =>
   Gk hnd l (k+1) s1 s' b2 r2 (fun j=>by
    rcases hl (j+1) with h1 | h1
    ·left; simpa [Nat.add_assoc,Nat.add_comm 1 j] using h1
    ·right; simp at h1; exact h1) hrun (fun b hb'=>hb b (List.mem_append_right _ hb')) (fun q hq'=>hq q (List.mem_append_right _ hq')) a' c' hR'
    (fun a'' c'' h''=>hQ a'' c'' (by rw [List.length_cons,show k+(l.length+1)=k+1+l.length by omega]; exact h''))
  have hb1:∀ b∈b1,b=true:=fun b hb'=>hb b (List.mem_append_left _ hb')
  have hq1:∀ q∈r1,q.ok P:=fun q hq'=>hq q (List.mem_append_left _ hq')
  have hidx0:∀ t j w d,find s.env t = .opt j w d→j < k:=hR.idx
  unfold stepS at hstep
  split at hstep <;> try cases hstep
  rename_i g hg
  have hgf:GuardFacts ops a c s.env (gch ops 20 o.guard):=fun p _ t _=>hR.env t
  split at hstep
  ·rename_i d bs0 rq0 orc0 j want hop hgd
   cases hlt:Nat.blt j k with
   | false=>simp [hlt] at hstep
   | true =>
    simp only [hlt,cond_true] at hstep
    obtain ⟨e,he,heq⟩:=Option.map_eq_some_iff.1 hstep
    simp only [Prod.mk.injEq] at heq
    obtain ⟨rfl,rfl,rfl⟩:=heq
    have hjk:=XW hlt
    have hyj:∀ v,yielded ops (a.put o.dst v).tmps j=yielded ops a.tmps j:=fun v=>VZ fun t ht e=>by
     have:=Ws hnd (show (ops[k]?).bind (·.dst)=some t by rw [ho]; exact ht) e
     omega
    have hwant:Region.wanted o (yielded ops a.tmps)=(yielded ops a.tmps j==some want):=by simp [Region.wanted,hgd]
    cases hw:Region.wanted o (yielded ops a.tmps) with
    | true =>
     simp only [if_true]
     refine .inl (WP hR.inv (fun x _=>Ga hR x) hgf hg hw (by rw [hR.H]; exact hop) hb1 hq1 fun v c' hI' haf=>?_)
     obtain ⟨hgo,_,htv⟩:=haf
     refine next _ c' (WQ hnd hR ho hI' (fun t v hv=>hgo.gv hv) hidx0 he (by rw [hgo.H]; exact hR.H) (.inl ⟨?_,htv⟩) (fun j' w' d' e=>by cases e; exact hjk))
     rw [hyj]
     rw [hw] at hwant
     simpa using hwant.symm
    | false =>
     simp only [Bool.false_eq_true,if_false]
     refine next _ c (WQ hnd hR ho hR.inv (fun t v hv=>hv) hidx0 he hR.H (.inr ⟨?_,rfl⟩) (fun j' w' d' e=>by cases e; exact hjk))
     rw [hyj]
     rw [hw] at hwant
     simpa using hwant.symm
  ·rename_i d bs0 rq0 orc0 hop hgd
   obtain ⟨e,he,heq⟩:=Option.map_eq_some_iff.1 hstep
   simp only [Prod.mk.injEq] at heq
   obtain ⟨rfl,rfl,rfl⟩:=heq
   have hw:Region.wanted o (yielded ops a.tmps)=true:=by simp [Region.wanted,hgd]
   simp only [hw,if_true]
   refine .inl (WP hR.inv (fun x _=>Ga hR x) hgf hg hw (by rw [hR.H]; exact hop) hb1 hq1 fun v c' hI' haf=>?_)
   obtain ⟨hgo,_,htv⟩:=haf
   refine next _ c' (WQ hnd hR ho hI' (fun t v hv=>hgo.gv hv) hidx0 he (by rw [hgo.H]; exact hR.H) (X9 htv) (fun j' w' d' e=>?_))
   subst e
   simp only [TV,AV] at htv
   exact absurd htv Qt
  ·rename_i wd n f bs0 rq0 orc0 hop hgd
   obtain ⟨e,he,heq⟩:=Option.map_eq_some_iff.1 hstep
   simp only [Prod.mk.injEq] at heq
   obtain ⟨rfl,rfl,rfl⟩:=heq
   have hw:Region.wanted o (yielded ops a.tmps)=true:=by simp [Region.wanted,hgd]
   simp only [hw,if_true]
   refine .inl (WP hR.inv (fun x _=>Ga hR x) hgf hg hw (by rw [hR.H]; exact hop) hb1 hq1 fun v c' hI' haf=>?_)
   obtain ⟨hH',htr,htv⟩:=haf
   refine next _ c' (WQ hnd hR ho hI' (fun t v hv=>GL htr hv) hidx0 he (by rw [hH',hR.H]) (X9 (by rw [← hR.H]; exact htv)) (fun j' w' d' e=>by cases e))
  ·rename_i hop hgd
   split at hstep
   ·rename_i d bs0 hap
    obtain ⟨e,he,heq⟩:=Option.map_eq_some_iff.1 hstep
    simp only [Prod.mk.injEq] at heq
    obtain ⟨rfl,rfl,rfl⟩:=heq
    have hw:Region.wanted o (yielded ops a.tmps)=true:=by simp [Region.wanted,hgd]
    simp only [hw,if_true]
    have hρ:∀ x∈o.op.operands.toList,TV c (a.eval x) (unwrap [] (evD s.env x)):=fun x _=>WV (a:=a) (ops:=ops) (by simp) (Ga hR x)
    obtain ⟨v,c',hrun',hI',hgo,_,htv⟩:=ZhX (ρc:=a.eval) hR.inv hρ (by rw [hR.H]; exact hap) hb1
    refine .inl ?_
    unfold Oper.wp
    rw [hrun']
    refine next _ c' (WQ hnd hR ho hI' (fun t v hv=>hgo.gv hv) hidx0 he (by rw [hgo.H]; exact hR.H) (X9 htv) (fun j' w' d' e=>?_))
    subst e
    simp only [TV,AV] at htv
    exact absurd htv Qt
   split at hstep
   ·rename_i H' hcl
    obtain ⟨e,he,heq⟩:=Option.map_eq_some_iff.1 hstep
    simp only [Prod.mk.injEq] at heq
    obtain ⟨rfl,rfl,rfl⟩:=heq
    have hw:Region.wanted o (yielded ops a.tmps)=true:=by simp [Region.wanted,hgd]
    simp only [hw,if_true]
    have hρ:∀ x∈o.op.operands.toList,TV c (a.eval x) (unwrap [] (evD s.env x)):=fun x _=>WV (a:=a) (ops:=ops) (by simp) (Ga hR x)
    obtain ⟨v,c',hrun',hI',hH',htr,htv⟩:=Zjn (ρc:=a.eval) hR.inv hρ (by rw [hR.H]; exact hcl)
    have hfin0:=next (a.put o.dst v) c' (WQ hnd hR ho hI' (fun t v hv=>GL htr hv) hidx0 he hH' (X9 htv) (fun j' w' d' e=>by cases e))
    refine .inl ?_
    unfold Oper.wp
    rcases hrun' with h1 | ⟨h1,rfl⟩
    ·rw [h1]; exact hfin0
    ·rw [h1]; exact hfin0
   split at hstep
   case h_2 =>
    split at hstep <;> try cases hstep
    rename_i d H' rq0 orc0 hlend
    obtain ⟨e,he,heq⟩:=Option.map_eq_some_iff.1 hstep
    simp only [Prod.mk.injEq] at heq
    obtain ⟨rfl,rfl,rfl⟩:=heq
    have hw:Region.wanted o (yielded ops a.tmps)=true:=by simp [Region.wanted,hgd]
    simp only [hw,if_true]
    have hρ:∀ x∈o.op.operands.toList,TV c (a.eval x) (unwrap [] (evD s.env x)):=fun x _=>WV (a:=a) (ops:=ops) (by simp) (Ga hR x)
    refine .inl (Zjr hR.inv hρ (by rw [hR.H]; exact hlend) hq1 fun v c' hI' hH' htr htv=>?_)
    refine next _ c' (WQ hnd hR ho hI' (fun t v hv=>GL htr hv) hidx0 he hH' (X9 htv) (fun j' w' d' e=>?_))
    subst e
    simp only [TV,AV] at htv
    exact absurd htv Qt
   rename_i d H' pid bs0 hheap
   obtain ⟨e,he,heq⟩:=Option.map_eq_some_iff.1 hstep
   simp only [Prod.mk.injEq] at heq
   obtain ⟨rfl,rfl,rfl⟩:=heq
   have hw:Region.wanted o (yielded ops a.tmps)=true:=by simp [Region.wanted,hgd]
   simp only [hw,if_true]
   have hρ:∀ x∈o.op.operands.toList,TV c (a.eval x) (unwrap [] (evD s.env x)):=fun x _=>WV (a:=a) (ops:=ops) (by simp) (Ga hR x)
   obtain ⟨v,c',hrun',hI',hH',htr,htv⟩:=ZdB (ρc:=a.eval) hR.inv hρ (by rw [hR.H]; exact hheap) hb1
   have hfin:wpOps P ops Q (List.range' (k+1) l.length++rest) (a.put o.dst v) c'.w:=by
    refine next _ c' (WQ hnd hR ho hI' (fun t v hv=>?_) (fun t j w d hf=>?_) he hH' (X9 htv) (fun j' w' d' e=>?_))
    ·rw [Kx]
     exact Zh2 htr hv
    ·rw [Kx] at hf
     exact hidx0 t j w d (ZcN hf).2
    ·subst e
     simp only [TV,AV] at htv
     exact absurd htv Qt
   refine .inl ?_
   unfold Oper.wp
   rcases hrun' with h1 | ⟨h1,rfl⟩
   ·rw [h1]; exact hfin
   ·rw [h1]; exact hfin
  ·cases hstep
def regTo (P:Program) (ops:Array Oper) (k:Nat) (orc:List Res) (keep:List Nat) (hn:Nat) (s:St):Option (St × List Bool × List Req) :=
 bif dstsB ops&&Nat.ble k ops.size then
  (match runS P s.nt ops 0 (ops.toList.take k) ⟨s.env,s.H,orc⟩ with
  | some (r,bs,rq)=>(cutS hn ⟨s.nt,fin r.env keep,r.H⟩).map fun s'=>(s',bs,rq)
  | none=>none) else none
def regFrom (P:Program) (ops:Array Oper) (k:Nat) (orc:List Res) (keep:List Nat) (hn:Nat) (s:St):Option (St × List Bool × List Req) :=
 match runS P s.nt ops k (ops.toList.drop k) ⟨s.env,s.H,orc⟩ with
 | some (r,bs,rq)=>(cutS hn ⟨s.nt,fin r.env keep,r.H⟩).map fun s'=>(s',bs,rq)
 | none=>none
theorem Uj {F:Fr} {nt:Nat} {ops:Array Oper} {k:Nat} {s:St} {a:Act} {w:World} {orc:List Res} (h:Rel F s a w) (hn:s.nt=nt):∃ c:Ctx,c.w=w∧RInv F nt ops k ⟨s.env,s.H,orc⟩ a c:=by
 obtain ⟨c,rfl,hH,hI,henv,hsz,hd⟩:=h
 refine ⟨c,rfl,hH,hI,fun t=>X9 (henv t),hsz.trans hn,hd,fun t j w d hf=>?_⟩
 have:=henv t
 have hf:find s.env t = .opt j w d:=hf
 rw [hf] at this
 simp only [TV,AV] at this
 exact absurd this Qt
theorem rgx {P:Program} {Q:Exit→St→Prop} {s:St} {id:Nat} {ops:Array Oper} (k:Nat) (orc1:List Res) (keep1:List Nat) (hn1:Nat) (s1:St) (bs1:List Bool) (rq1:List Req) (hb1:∀ b∈bs1,b=true) (hq1:Reqs P rq1)
  (s2:St) (hle:Le s1 s2) (hnt:s2.nt=s.nt) (orc2:List Res) (keep2:List Nat) (hn2:Nat) (s3:St) (bs2:List Bool) (rq2:List Req) (hb2:∀ b∈bs2,b=true) (hq2:Reqs P rq2) (kk:Q .normal s3)
  (h1:regTo P ops k orc1 keep1 hn1 s=some (s1,bs1,rq1):=by kernel_rfl) (h2:regFrom P ops k orc2 keep2 hn2 s2=some (s3,bs2,rq2):=by kernel_rfl):AWP P (.region id ops false) Q s:=by
 rintro F a w hG hR0
 unfold regTo at h1
 cases hc:(dstsB ops&&Nat.ble k ops.size) with
 | false=>rw [hc] at h1; cases h1
 | true =>
  rw [hc] at h1
  simp only [cond_true] at h1
  simp only [Bool.and_eq_true] at hc
  have hkl:=Nat.le_of_ble_eq_true hc.2
  split at h1 <;> try cases h1
  rename_i r bs rq hrun
  obtain ⟨q1,hcut,heq⟩:=Option.map_eq_some_iff.1 h1
  simp only [Prod.mk.injEq] at heq
  obtain ⟨rfl,rfl,rfl⟩:=heq
  unfold regFrom at h2
  split at h2 <;> try cases h2
  rename_i r' bs' rq' hrun'
  obtain ⟨q3,hcut',heq'⟩:=Option.map_eq_some_iff.1 h2
  simp only [Prod.mk.injEq] at heq'
  obtain ⟨rfl,rfl,rfl⟩:=heq'
  refine wp_region ?_
  obtain ⟨c,rfl,h0⟩:=Uj (ops:=ops) (k:=0) (orc:=orc1) hR0 rfl
  have l1:(ops.toList.take k).length=k:=by rw [List.length_take,Array.length_toList]; omega
  have l2:(ops.toList.drop k).length=ops.size - k:=by rw [List.length_drop,Array.length_toList]
  have e:List.range ops.size=List.range' 0 (ops.toList.take k).length++List.range' k (ops.toList.drop k).length:=by
   rw [l1,l2,List.range_eq_range']
   have:=List.range'_append_1 (s:=0) (m:=k) (n:=ops.size - k)
   rw [Nat.zero_add,Nat.add_sub_cancel' hkl] at this
   exact this.symm
  rw [e]
  refine Gk hc.1 (Q:=fun e a' w'=>∃ s',Q e s'∧Rel F s' a' w') (rest:=List.range' k (ops.toList.drop k).length) (ops.toList.take k) 0 _ r bs rq (fun j=>by
   rcases Nat.lt_or_ge j k with h | h
   ·left; rw [List.getElem?_take_of_lt h]; simp
   ·right; rw [l1]; exact h) hrun hb1 hq1.all a c h0 fun a' c' hR=>?_
  have hrel:=hle F a' c'.w (U5 hcut F a' c'.w (WZ hR keep1))
  obtain ⟨c2,hw2,h3⟩:=Uj (ops:=ops) (k:=k) (orc:=orc2) hrel hnt
  rw [← hw2]
  have:=Gk hc.1 (Q:=fun e a' w'=>∃ s',Q e s'∧Rel F s' a' w') (rest:=[]) (ops.toList.drop k) k _ r' bs' rq' (fun j=>.inl (by rw [List.getElem?_drop]; simp)) (by rw [← hnt]; exact hrun') hb2 hq2.all a' c2 h3 fun a'' c'' hR''=>⟨q3,kk,U5 hcut' F a'' c''.w (WZ (by rw [hnt]; exact hR'') keep2)⟩
  simpa using this
end Nv
namespace Nv
open Go Go.RowKit
theorem Zij {ops:Array Oper} {i j k:Nat} (h:Reach ops i j) (r:Reach ops j k):Reach ops i k:=by
 induction h with
 | one h=>exact .step h r
 | step h _ ih=>exact .step h (ih r)
def chainB (ops:Array Oper) (k:Nat):Bool :=
 let M:=Region.before ops
 (List.range ops.size).all fun q=>Nat.ble q k||(M.getD q 0).testBit (q - 1)
theorem ZeQ {ops:Array Oper} {k q:Nat} (h:chainB ops k=true) (hq:q < ops.size) (hk:k < q):((Region.before ops).getD q 0).testBit (q - 1)=true:=by
 have h1:=List.all_eq_true.1 h q (List.mem_range.2 hq)
 rw [show Nat.ble q k=false by (cases hb:Nat.ble q k with | false=>rfl | true=>have:=Nat.le_of_ble_eq_true hb; omega),Bool.false_or] at h1
 exact h1
theorem ZgR {P:Program} {ops:Array Oper} (hfl:flowB ops=true) {k:Nat} (hch:chainB ops k=true) {Q:Exit→Act→World→Prop} :
  ∀ (m j:Nat) (listed:Array Bool) (a:Act) (w:World),j+m=ops.size→k≤j→listed.size=ops.size→(∀ i,listed.getD i false=true↔i < j)→wpOps P ops Q (List.range' j m) a w→wpAny P .any ops Q m listed a w:=by
 have flow:=Zfp hfl
 have onlt:∀ i o,ops[i]? = some o→∀ e∈o.after,Region.binds .any e=true→e.on < i:=fun i o ho e he hb=>by
  have h1:=flow i o ho
  simp only [flowAt,Bool.and_eq_true] at h1
  have h2:=Array.all_eq_true'.1 h1.1.1 e he
  simp only [hb,Bool.not_true,Bool.false_or] at h2
  exact XW h2
 intro m
 induction m with
 | zero =>
  intro j listed a w hj _ hls hl hw
  refine ⟨?_,hw⟩
  cases hr:Region.ready .any ops listed with
  | nil=>rfl
  | cons i r =>
   exfalso
   have hi:i∈Region.ready .any ops listed:=by rw [hr]; exact List.mem_cons_self
   obtain ⟨h1,o,ho,_⟩:=mem_ready.1 hi
   have hil:=(Array.getElem?_eq_some_iff.1 ho).1
   have h2:=(hl i).2 (by omega)
   simp [hls,hil] at h1 h2
   rw [h1] at h2; cases h2
 | succ m ih =>
  intro j listed a w hj hkj hls hl hw
  have hjl:j < ops.size:=by omega
  obtain ⟨oj,hoj⟩:∃ o,ops[j]? = some o:=⟨ops[j],by simp [hjl]⟩
  have hin:j∈Region.ready .any ops listed:=mem_ready.2 ⟨by
   have:listed.getD j false=false:=by
    cases hq:listed.getD j false with
    | false=>rfl
    | true=>have:=(hl j).1 hq; omega
   simp [hls,hjl] at this ⊢; exact this,oj,hoj,fun e he hb=>(hl _).2 (onlt j oj hoj e he hb)⟩
  refine ⟨fun h=>(by rw [h] at hin; cases hin),fun i hi=>?_⟩
  obtain ⟨hun,o,ho,hall⟩:=mem_ready.1 hi
  have hil:=(Array.getElem?_eq_some_iff.1 ho).1
  have hij:i=j:=by
   rcases Nat.lt_trichotomy i j with h | h | h
   ·have h1:=(hl i).2 h
    simp [hls,hil] at hun h1
    rw [hun] at h1; cases h1
   ·exact h
   ·exfalso
    have key:∀ d i,i=j+1+d→i < ops.size→Reach ops i j:=by
     intro d
     induction d with
     | zero =>
      intro i e hi
      subst e
      have:=YW ops (j+1+0) (j+1+0 - 1) hi (ZeQ hch hi (by omega))
      rwa [show j+1+0 - 1=j by omega] at this
     | succ d ihd =>
      intro i e hi
      have h1:=YW ops i (i - 1) hi (ZeQ hch hi (by omega))
      have h2:=ihd (i - 1) (by omega) (by omega)
      exact Zij h1 h2
    have hR:=key (i - j - 1) i (by omega) hil
    have hc:∀ x y,Waits ops x y→listed.getD x false=true→listed.getD y false=true:=fun x y ⟨o',ho',e,he,hb,hon⟩ hx=>by
     have:=onlt x o' ho' e he hb
     have:=(hl x).1 hx
     exact (hl y).2 (by omega)
    have:=Qg hc hR fun y ⟨o',ho',e,he,hb,hon⟩=>by
     rw [ho] at ho'; cases ho'
     rw [← hon]; exact hall e he hb
    have:=(hl j).1 this
    omega
  subst hij
  rw [List.range'_succ,wpOps_cons] at hw
  have step:∀ a w,wpOps P ops Q (List.range' (i+1) m) a w→wpAny P .any ops Q m (listed.setIfInBounds i true) a w:=fun a w h =>
   ih (i+1) _ a w (by omega) (by omega) (by simp [hls]) (fun x=>by rw [Zci (by omega),hl]; omega) h
  unfold wpOp at hw ⊢
  simp only [ho] at hw ⊢
  split
  ·rename_i hwn
   rw [if_pos hwn] at hw
   exact hw.imp (fun h=>Oper.wp_mono step h) fun h=>h
  ·rename_i hwn
   rw [if_neg hwn] at hw
   exact step _ _ hw
theorem K4 {P:Program} {F:Fr} [GF P F] {ops:Array Oper} {k:Nat} (hnd:dstsB ops=true) {s s3:St} {orc:List Res} {keep:List Nat} {hn:Nat} {bs:List Bool} {rq:List Req} (h:regFrom P ops k orc keep hn s=some (s3,bs,rq)) (hb:∀ b∈bs,b=true) (hq:∀ q∈rq,q.ok P)
  {Q:Exit→Act→World→Prop} (hQ:∀ a w,Rel F s3 a w→Q .normal a w) {a:Act} {w:World} (hR:Rel F s a w):wpOps P ops Q (List.range' k (ops.size - k)) a w:=by
 unfold regFrom at h
 split at h <;> try cases h
 rename_i r bs' rq' hrun
 obtain ⟨q3,hcut,heq⟩:=Option.map_eq_some_iff.1 h
 simp only [Prod.mk.injEq] at heq
 obtain ⟨rfl,rfl,rfl⟩:=heq
 obtain ⟨c,rfl,h0⟩:=Uj (ops:=ops) (k:=k) (orc:=orc) hR rfl
 have hlen:(ops.toList.drop k).length=ops.size - k:=by simp
 have:=Gk hnd (Q:=Q) (rest:=[]) (ops.toList.drop k) k ⟨s.env,s.H,orc⟩ r bs' rq' (fun j=>.inl (by rw [List.getElem?_drop]; simp)) hrun hb hq a c h0 (fun a' c' hR'=>hQ _ _ (U5 hcut F a' c'.w (WZ hR' keep)))
 rw [hlen,List.append_nil] at this
 exact this
theorem Zi4 {P:Program} {F:Fr} [GF P F] {ops:Array Oper} {k:Nat} {s s1:St} {orc:List Res} {keep:List Nat} {hn:Nat} {bs:List Bool} {rq:List Req} (h:regTo P ops k orc keep hn s=some (s1,bs,rq)) (hb:∀ b∈bs,b=true) (hq:∀ q∈rq,q.ok P)
  {Q:Exit→Act→World→Prop} (hQ:∀ a w,Rel F s1 a w→wpOps P ops Q (List.range' k (ops.size - k)) a w) {a:Act} {w:World} (hR:Rel F s a w):dstsB ops=true∧wpOps P ops Q (List.range ops.size) a w:=by
 unfold regTo at h
 cases hc:(dstsB ops&&Nat.ble k ops.size) with
 | false=>rw [hc] at h; cases h
 | true =>
  rw [hc] at h
  simp only [cond_true] at h
  simp only [Bool.and_eq_true] at hc
  have hkl:=Nat.le_of_ble_eq_true hc.2
  split at h <;> try cases h
  rename_i r bs rq hrun
  obtain ⟨q1,hcut,heq⟩:=Option.map_eq_some_iff.1 h
  simp only [Prod.mk.injEq] at heq
  obtain ⟨rfl,rfl,rfl⟩:=heq
  obtain ⟨c,rfl,h0⟩:=Uj (ops:=ops) (k:=0) (orc:=orc) hR rfl
  have hlen:(ops.toList.take k).length=k:=by simp; omega
  have:=Gk hc.1 (Q:=Q) (rest:=List.range' k (ops.size - k)) (ops.toList.take k) 0 ⟨s.env,s.H,orc⟩ r bs rq (fun j=>by
   rcases Nat.lt_or_ge j k with h | h
   ·left; rw [List.getElem?_take_of_lt h]; simp
   ·right; rw [hlen]; exact h) hrun hb hq a c h0 (fun a' c' hR'=>hQ _ _ (U5 hcut F a' c'.w (WZ hR' keep)))
  rw [hlen] at this
  refine ⟨hc.1,?_⟩
  have e:List.range ops.size=List.range' 0 k++List.range' k (ops.size - k):=by
   rw [List.range_eq_range',show List.range' k (ops.size - k)=List.range' (0+1*k) (ops.size - k) by simp,List.range'_append,show k+(ops.size - k)=ops.size by omega]
  rw [e]
  exact this
theorem rgxe {P:Program} {Q:Exit→St→Prop} {s:St} {id:Nat} {ops:Array Oper} (k:Nat) (orc1:List Res) (keep1:List Nat) (hn1:Nat) (s1:St) (bs1:List Bool) (rq1:List Req) (hb1:∀ b∈bs1,b=true) (hq1:Reqs P rq1)
  {α:Type} (S2:α→St) (hle:LeE s1 S2) (orcB:List Res) (keepB:List Nat) (hnB:Nat) (s3:α→St) (bsB:α→List Bool) (rqB:α→List Req) (hbB:∀ x,∀ b∈bsB x,b=true) (hqB:∀ x,Reqs P (rqB x)) (kk:∀ x,Q .normal (s3 x))
  (h1:regTo P ops k orc1 keep1 hn1 s=some (s1,bs1,rq1):=by kernel_rfl) (hB:∀ x,regFrom P ops k orcB keepB hnB (S2 x)=some (s3 x,bsB x,rqB x):=by intro _; kernel_rfl):AWP P (.region id ops false) Q s:=by
 intro F a w hG hR
 refine wp_region ?_
 have hnd:dstsB ops=true:=by
  unfold regTo at h1
  cases hc:(dstsB ops&&Nat.ble k ops.size) with
  | false=>rw [hc] at h1; cases h1
  | true=>simp only [Bool.and_eq_true] at hc; exact hc.1
 refine (Zi4 h1 hb1 hq1.all (fun a w hR1=>?_) hR).2
 obtain ⟨x,hR2⟩:=hle F a w hR1
 exact K4 hnd (hB x) (hbB x) (hqB x).all (fun a w h=>⟨_,kk x,h⟩) hR2
def regMid (P:Program) (ops:Array Oper) (k l:Nat) (orc:List Res) (keep:List Nat) (hn:Nat) (s:St):Option (St × List Bool × List Req) :=
 bif Nat.ble k l&&Nat.ble l ops.size then
  (match runS P s.nt ops k ((ops.toList.drop k).take (l - k)) ⟨s.env,s.H,orc⟩ with
  | some (r,bs,rq)=>(cutS hn ⟨s.nt,fin r.env keep,r.H⟩).map fun s'=>(s',bs,rq)
  | none=>none) else none
theorem Zmt {P:Program} {F:Fr} [GF P F] {ops:Array Oper} {k l:Nat} (hnd:dstsB ops=true) {s s3:St} {orc:List Res} {keep:List Nat} {hn:Nat} {bs:List Bool} {rq:List Req} (h:regMid P ops k l orc keep hn s=some (s3,bs,rq)) (hb:∀ b∈bs,b=true) (hq:∀ q∈rq,q.ok P)
  {Q:Exit→Act→World→Prop} (hQ:∀ a w,Rel F s3 a w→wpOps P ops Q (List.range' l (ops.size - l)) a w) {a:Act} {w:World} (hR:Rel F s a w):wpOps P ops Q (List.range' k (ops.size - k)) a w:=by
 unfold regMid at h
 cases hc:(Nat.ble k l&&Nat.ble l ops.size) with
 | false=>rw [hc] at h; cases h
 | true =>
  rw [hc] at h
  simp only [cond_true] at h
  simp only [Bool.and_eq_true] at hc
  have hk:=Nat.le_of_ble_eq_true hc.1
  have hl:=Nat.le_of_ble_eq_true hc.2
  split at h <;> try cases h
  rename_i r bs' rq' hrun
  obtain ⟨q3,hcut,heq⟩:=Option.map_eq_some_iff.1 h
  simp only [Prod.mk.injEq] at heq
  obtain ⟨rfl,rfl,rfl⟩:=heq
  obtain ⟨c,rfl,h0⟩:=Uj (ops:=ops) (k:=k) (orc:=orc) hR rfl
  have hlen:((ops.toList.drop k).take (l - k)).length=l - k:=by simp; omega
  have:=Gk hnd (Q:=Q) (rest:=List.range' l (ops.size - l)) ((ops.toList.drop k).take (l - k)) k ⟨s.env,s.H,orc⟩ r bs' rq' (fun j=>by
   rcases Nat.lt_or_ge j (l - k) with h | h
   ·left; rw [List.getElem?_take_of_lt h,List.getElem?_drop]; simp
   ·right; rw [hlen]; exact h) hrun hb hq a c h0 (fun a' c' hR'=>hQ _ _ (U5 hcut F a' c'.w (WZ hR' keep)))
  rw [hlen] at this
  have e:List.range' k (ops.size - k)=List.range' k (l - k)++List.range' l (ops.size - l):=by
   have h1:List.range' l (ops.size - l)=List.range' (k+1*(l - k)) (ops.size - l):=by congr 1; omega
   rw [h1,List.range'_append]; congr 1; omega
  rw [e]
  exact this
theorem Zmu {nt:Nat} {e:List (Nat × D)} {H:List Ob} (id wd n:Nat) (f f':Nat→List D) (ho:H[id]? = some (.arr wd n f)) (hl:∀ i,i < n→(f' i).length=(f i).length)
  (hp:∀ i,i < n→∀ (j:Nat) (d':D),(f' i)[j]? = some d'→∃ d,(f i)[j]? = some d∧∀ I w v,PV I w v d→PV I w v d'):Le ⟨nt,e,H⟩ ⟨nt,e,H.set id (.arr wd n f')⟩:=by
 rintro F a w ⟨c,rfl,hH,hI,henv,hsz,hd⟩
 obtain rfl:c.H=H:=hH
 have hs:∀ wd' n' f0,Ob.arr wd n f = .arr wd' n' f0→∃ f1,Ob.arr wd n f' = .arr wd' n' f1:=fun wd' n' f0 h=>by cases h; exact ⟨f',rfl⟩
 refine ⟨c.seen id (.arr wd n f'),rfl,rfl,Ky hI ho (by simp) hs (fun h=>⟨fun i hi=>(hl i hi).trans (h.1 i hi),h.2.imp (fun x=>x) ?_⟩) (hI.fam.mono (fun i o j b h1 h2=>Gg (fun _=>rfl) h1 h2) (Nat.le_refl _) (fun b _ h=>.inl h) fun i b h=>.inl ⟨i,h⟩),fun t=>RA ho hs (henv t),hsz,hd⟩
 rintro ⟨b,cs,T,h1,h2,h3,h4⟩
 refine ⟨b,cs,T,h1,h2,h3,fun i hi j d' hd'=>?_⟩
 obtain ⟨d,h5,h6⟩:=hp i hi j d' hd'
 obtain ⟨v,h7,h8,h9⟩:=h4 i hi j d h5
 exact ⟨v,h7,h8,h6 _ _ _ h9⟩
theorem Zmv {nt:Nat} {e:List (Nat × D)} {H:List Ob} (n wd:Nat) (g:Nat→List D):Le ⟨nt,e,H⟩ ⟨nt,e,H++[.fam 0 (fun _=>false) n wd (fun _=>nilV) (fun _=>(0,g))]⟩:=by
 rintro F a w ⟨c,rfl,hH,hI,henv,hsz,hd⟩
 obtain rfl:c.H=H:=hH
 have hfb:∀ j,fblk (.fam 0 (fun _=>false) n wd (fun _=>nilV) (fun _=>(0,g))) j=none:=fun j=>by simp only [fblk]; split <;> rfl
 refine ⟨c.made0 (.fam 0 (fun _=>false) n wd (fun _=>nilV) (fun _=>(0,g))),rfl,rfl,⟨hI.below,hI.imm,hI.loc,hI.inj,fun id o' h=>?_,fun id hid=>hI.dom id (by simp [Ctx.made0] at hid; omega),hI.lent,fun hl=>Zfh _ _ (hI.mark hl),hI.fam.mono (fun id o' j b h1 h2=>KV hfb h1 h2) (Nat.le_refl _) (fun b _ h=>.inl h) fun i b h=>.inl ⟨i,h⟩⟩,fun t=>Zbr _ (henv t),hsz,hd⟩
 by_cases hid:id=c.H.length
 ·subst hid
  have:o' = .fam 0 (fun _=>false) n wd (fun _=>nilV) (fun _=>(0,g)):=by simp [Ctx.made0] at h; exact h.symm
  subst this
  exact ⟨⟨hI.dom _ (Nat.le_refl _),fun _ h=>by cases h⟩,fun j _=>ZgK _ _ _⟩
 ·have hH:c.H[id]? = some o':=by
   have hlt:=(List.getElem?_eq_some_iff.1 h).1
   simp only [Ctx.made0,List.length_append,List.length_singleton] at hlt
   simp only [Ctx.made0] at h
   rw [List.getElem?_append_left (by omega)] at h
   exact h
  have hv:=hI.obj id o' hH
  cases o' with
  | fam foc is n wd vs ls=>exact RL hv (fun _ _ h=>h) fun _ _ _=>rfl
  | box cells=>obtain ⟨b,cs',T',hb,h1,h2⟩:=hv; exact ⟨b,cs',T',hb,h1,h2.mono fun _ _=>Zbq _⟩
  | arr wd n f=>exact hv
  | mp _ _=>exact hv
  | gone=>exact hv
theorem ZdI {nt:Nat} {e:List (Nat × D)} {H:List Ob} {idf foc n wd:Nat} {is:Value→Bool} {vs:Nat→Value} {ls:Nat→Nat × (Nat→List D)} (ho:H[idf]? = some (.fam foc is n wd vs ls)) (n':Nat) (vs':Nat→Value) (ls':Nat→Nat × (Nat→List D)) (ρ:Nat→Nat)
  (h:∀ j,j < n'→((∃ ad,vs' j = .slice ad 0 0)∧(ls' j).1=0)∨(ρ j < n∧vs' j=vs (ρ j)∧(ls' j).1=(ls (ρ j)).1∧∀ i,i < (ls' j).1→(ls' j).2 i=(ls (ρ j)).2 i))
  (hinj:∀ i j,i < n'→j < n'→blkOf (vs' i) ≠ none→blkOf (vs' j) ≠ none→ρ i=ρ j→i=j):Le ⟨nt,e,H⟩ ⟨nt,e,H.set idf (.fam 0 (fun _=>false) n' wd vs' ls')⟩:=by
 rintro F a w ⟨c,rfl,hH,hI,henv,hsz,hd⟩
 obtain rfl:c.H=H:=hH
 have hidf:=(List.getElem?_eq_some_iff.1 ho).1
 have hold:∀ (i:Nat) (q:Ob) (jj b:Nat),(c.seen idf (.fam 0 (fun _=>false) n' wd vs' ls')).H[i]? = some q→fblk q jj=some b →
   (i=idf∧jj < n'∧blkOf (vs' jj)=some b∧fblk (.fam foc is n wd vs ls) (ρ jj)=some b)∨(i ≠ idf∧c.H[i]? = some q):=by
  intro i q jj b h2 h3
  by_cases e2:i=idf
  ·subst e2
   simp only [Ctx.seen] at h2
   rw [List.getElem?_set_self hidf] at h2
   cases h2
   simp only [fblk] at h3
   split at h3
   ·rename_i hin
    refine .inl ⟨rfl,hin,h3,?_⟩
    rcases h jj hin with ⟨⟨ad,h4⟩,_⟩ | ⟨h4,h5,_⟩
    ·rw [h4] at h3; cases ad <;> simp [blkOf] at h3
    ·simp only [fblk]; rw [if_pos h4,← h5]; exact h3
   ·cases h3
  ·simp only [Ctx.seen] at h2
   rw [List.getElem?_set_ne (Ne.symm e2)] at h2
   exact .inr ⟨e2,h2⟩
 refine ⟨c.seen idf _,rfl,rfl,Ky hI ho (by simp) (by simp) (fun hv=>⟨⟨hv.1.1,fun _ h=>by cases h⟩,fun j hj=>?_⟩) (fun i q jj b h2 h3=>?_),fun t=>RA ho (by simp) (henv t),hsz,hd⟩
 ·rcases h j hj with ⟨h1,h2⟩ | ⟨h1,h2,h3,h4⟩
  ·obtain ⟨ad,h1⟩:=h1
   rw [h1,h2]; exact ⟨ad,0,rfl,Nat.le_refl _,fun i hi=>by omega,.inl rfl⟩
  ·obtain ⟨ad,cap,e1,e2,e3,e4⟩:=hv.2 (ρ j) h1
   rw [h2,h3]
   refine ⟨ad,cap,e1,e2,fun i hi=>by rw [h4 i (by omega)]; exact e3 i hi,e4.imp (fun x=>x) ?_⟩
   rintro ⟨b,cs,T,g1,g2,g3,g4⟩
   exact ⟨b,cs,T,g1,g2,g3,fun i hi j' d hd=>g4 i hi j' d (by rw [← h4 i (by omega)]; exact hd)⟩
 ·rcases hold i q jj b h2 h3 with ⟨rfl,h4,h5,h6⟩ | ⟨h4,h5⟩
  ·obtain ⟨h7,h8⟩:=hI.fam i _ (ρ jj) b ho h6
   refine ⟨h7,fun id' q' j' h9 h10=>?_⟩
   rcases hold id' q' j' b h9 h10 with ⟨rfl,g1,g2,g3⟩ | ⟨g1,g2⟩
   ·exact ⟨rfl,hinj j' jj g1 h4 (by rw [g2]; simp) (by rw [h5]; simp) (h8 _ _ _ ho g3).2⟩
   ·exact absurd (h8 id' q' j' g2 h10).1 g1
  ·obtain ⟨h7,h8⟩:=hI.fam i q jj b h5 h3
   refine ⟨h7,fun id' q' j' h9 h10=>?_⟩
   rcases hold id' q' j' b h9 h10 with ⟨rfl,_,_,g3⟩ | ⟨_,g2⟩
   ·exact absurd (h8 _ _ _ ho g3).1.symm h4
   ·exact h8 id' q' j' g2 h10
theorem ZmY {nt:Nat} {e:List (Nat × D)} {H:List Ob} {idf foc n wd:Nat} {is:Value→Bool} {vs:Nat→Value} {ls:Nat→Nat × (Nat→List D)} (ho:H[idf]? = some (.fam foc is n wd vs ls)) (ida wda na:Nat) (f f':Nat→List D) (ha:H[ida]? = some (.arr wda na f)) (hl:∀ i,i < na→(f' i).length=(f i).length)
  (hp:∀ i,i < na→∀ (j:Nat) (d':D),(f' i)[j]? = some d'→∃ d,(f i)[j]? = some d∧(d'=d∨∃ k,k < n∧d = .val (vs k)∧d' = .sl false wd (ls k).1 (ls k).2)) :
  Le ⟨nt,e,H⟩ ⟨nt,e,(H.set idf (.fam 0 (fun _=>false) 0 wd vs ls)).set ida (.arr wda na f')⟩:=by
 rintro F a w ⟨c,rfl,hH,hI,henv,hsz,hd⟩
 obtain rfl:c.H=H:=hH
 have hidf:=(List.getElem?_eq_some_iff.1 ho).1
 have hne:ida ≠ idf:=fun e=>by rw [e,ho] at ha; cases ha
 have hovf:=hI.obj idf _ ho
 let I1:Nat→Prop:=fun b=>∃ j,fblk (.fam foc is n wd vs ls) j=some b
 have hfe:∀ j,fblk (.fam 0 (fun _=>false) 0 wd vs ls) j=none:=fun j=>by simp [fblk]
 have hI1:Inv F (c.seen idf (.fam 0 (fun _=>false) 0 wd vs ls)):=Ky hI ho (by simp) (by simp) (fun h=>⟨⟨h.1.1,fun _ h=>by cases h⟩,fun j hj=>by omega⟩) (hI.fam.mono (fun i o j b h1 h2=>Gg hfe h1 h2) (Nat.le_refl _) (fun b _ h=>.inl h) fun i b h=>.inl ⟨i,h⟩)
 have hI2:Inv F ((c.seen idf (.fam 0 (fun _=>false) 0 wd vs ls)).more I1):=ZdF hI1 (fun b ⟨j,hj⟩=>by
  obtain ⟨⟨h1,h2,h3,h4⟩,_⟩:=hI.fam idf _ j b ho hj
  exact ⟨h2,h1,h4⟩) (fun b ⟨j,hj⟩ id o jj h1 h2=>by
  obtain ⟨_,h5⟩:=hI.fam idf _ j b ho hj
  obtain ⟨o1,h6,h7⟩:=Gg hfe h1 h2
  have:=(h5 id o1 jj h6 h7).1
  subst this
  simp only [Ctx.seen] at h1
  rw [List.getElem?_set_self hidf] at h1
  cases h1
  rw [hfe] at h2; cases h2)
 have ha1:((c.seen idf (.fam 0 (fun _=>false) 0 wd vs ls)).more I1).H[ida]? = some (.arr wda na f):=by
  simp only [Ctx.more,Ctx.seen]
  rw [List.getElem?_set_ne (Ne.symm hne)]; exact ha
 have hs:∀ wd' n' f0,Ob.arr wda na f = .arr wd' n' f0→∃ f1,Ob.arr wda na f' = .arr wd' n' f1:=fun wd' n' f0 h=>by cases h; exact ⟨f',rfl⟩
 have hsl:∀ k,k < n→PV (fun b=>c.I b∨I1 b) c.w (vs k) (.sl false wd (ls k).1 (ls k).2):=fun k hk=>by
  obtain ⟨ad,cap,hv,hle,hlen,hor⟩:=hovf.2 k hk
  rw [hv]
  rcases Nat.eq_zero_or_pos cap with h0 | h0
  ·have hz:(ls k).1=0:=by omega
   rw [hz]
   exact .sl ad 0 cap wd false _ (fun _ _=>undef) (fun h=>by cases h) (by omega) (fun h=>by omega) (fun i hi=>by omega) (fun i hi=>by omega) (fun i hi=>by omega)
  ·rcases hor with hor | ⟨b,cs,T,rfl,h4,h5,h6⟩
   ·omega
   ·have hix:∀ i,i < (ls k).1→∀ j,j < wd→∃ v,cs[i*wd+j]? = some v∧v.oneCell'=true:=fun i hi j hj=>by
     have hj':j < ((ls k).2 i).length:=by rw [hlen i hi]; exact hj
     obtain ⟨v,e1,e2,_⟩:=h6 i hi j ((ls k).2 i)[j] (by simp [hj'])
     exact ⟨v,e1,e2⟩
    refine .sl _ (ls k).1 cap wd false _ (fun i j=>cs.getD (i*wd+j) undef) (fun h=>by cases h) hle (fun _=>⟨b,0,rfl,.inr ⟨k,by simp only [fblk]; rw [if_pos hk,hv]; simp only [blkOf]; rw [if_neg (by omega)]⟩,fun i hi j hj=>?_⟩) hlen (fun i hi j hj=>?_) (fun i hi j d hd=>?_)
    ·obtain ⟨v,e1,_⟩:=hix i hi j hj
     simp [World.cell?,h4,e1]
    ·obtain ⟨v,e1,e2⟩:=hix i hi j hj
     simp [e1,e2]
    ·obtain ⟨v,e1,e2,e3⟩:=h6 i hi j d hd
     have:cs.getD (i*wd+j) undef=v:=by simp [e1]
     rw [this]
     exact e3.mono (fun _ h=>.inl h) fun _ _=>rfl
 refine ⟨((c.seen idf (.fam 0 (fun _=>false) 0 wd vs ls)).more I1).seen ida (.arr wda na f'),rfl,rfl,Ky hI2 ha1 (by simp) hs (fun h=>⟨fun i hi=>(hl i hi).trans (h.1 i hi),h.2.imp (fun x=>x) ?_⟩) (hI2.fam.mono (fun i o j b h1 h2=>Gg (fun _=>rfl) h1 h2) (Nat.le_refl _) (fun b _ h=>.inl h) fun i b h=>.inl ⟨i,h⟩),fun t=>RA ha1 hs (Zfo (RA ho (by simp) (henv t))),hsz,hd⟩
 rintro ⟨b,cs,T,h1,h2,h3,h4⟩
 refine ⟨b,cs,T,h1,h2,h3,fun i hi j d' hd'=>?_⟩
 obtain ⟨d,h5,h6⟩:=hp i hi j d' hd'
 obtain ⟨v,h7,h8,h9⟩:=h4 i hi j d h5
 rcases h6 with rfl | ⟨k,h10,rfl,rfl⟩
 ·exact ⟨v,h7,h8,h9⟩
 ·cases h9
  exact ⟨_,h7,h8,hsl k h10⟩
end Nv
namespace Nv
open Go Go.RowKit
theorem Zmw {P:Program} {F:Fr} {c:Ctx} (hI:Inv F c) {t ty:TypeId} {s x d:D} {H':List Ob} {id:Nat} {bs:List Bool} (h:appD P c.H t s x=some (d,H',some id,bs)) (hb:∀ b∈bs,b=true)
  {vs vx:Value} (hs:TV c vs s) (hx:TV c vx x) :
  ∃ v c' N,(do pure (.value (← Builtin.append_ #[t,t] ty #[vs,vx])):Sem Next).run P c.w = .ok (.value v) c'.w∧Inv F c'∧c'.H=H'∧(∀ u e,TV c u e→TV c' u (purge (some id) e))∧TV c' v d∧d = .asl id 0 N ∧
   ∀ wd n f,c.H[id]? = some (.arr wd n f)→∀ u off len,off+len≤N→TV c u (.asl id off len)→TV c' u (.asl id off len)∨TV c' u (.sl false wd len fun i=>f (off+i)):=by
 unfold appD at h
 split at h <;> try cases h
 rename_i sz by_ wd m g hel hsrc
 obtain ⟨hsz,hbp,e,ti,z,hE⟩:=ZfD hel
 have hx':=KW (P:=P) (t:=t) hx
 have hs':=KW (P:=P) (t:=t) hs
 obtain ⟨xa,xc,hv,hX⟩:=KY hI hsrc hx'
 cases hw:Nat.beq wd sz with
 | false=>simp [hw] at h
 | true =>
  obtain rfl:=Nat.eq_of_beq_eq_true hw
  simp only [hw,cond_true] at h
  split at h
  ·rename_i wd' n f hadj
   cases hw':Nat.beq wd' wd with
   | false=>simp [hw'] at h
   | true=>simp [hw'] at h
  ·rename_i id' off len hadj
   split at h <;> try cases h
   rename_i wd' n f ho
   cases hc:(Nat.beq wd' wd&&Nat.beq off 0&&freeB c.H id') with
   | false=>rw [hc] at h; cases h
   | true =>
    simp only [hc,cond_true,Option.some.injEq,Prod.mk.injEq] at h
    obtain ⟨rfl,rfl,rfl,rfl⟩:=h
    simp only [Bool.and_eq_true] at hc
    obtain rfl:=Nat.eq_of_beq_eq_true hc.1.1
    obtain rfl:=Nat.eq_of_beq_eq_true hc.1.2
    have hown:=Zbs hI ho (by simp) hc.2
    have b2:(len+m)*by_≤140737488355328:=by simpa using hb _ (List.mem_singleton.2 rfl)
    rw [hadj] at hs'
    obtain ⟨a,cap,gv,hS0⟩:=KY hI (x:=.asl id' 0 len) (by simp only [srcD,ho]; rfl) hs'
    have hS:Src c vs wd' len f a cap gv:=hS0.congr fun i _=>by rw [Nat.zero_add]
    have hid:id' < c.H.length:=(List.getElem?_eq_some_iff.1 ho).1
    obtain ⟨hwl,hob⟩:=hI.obj id' _ ho
    have hlen:len≤n∧(cap=0∨∃ b,c.mu id'=some b∧a=some ⟨b,0,none⟩∧Room c.w b (cap*wd')):=by
     have h1:=hs'
     simp only [TV,AV,CV] at h1
     obtain ⟨wd2,n2,f2,a2,cap2,ho2,hl2,hv2,hc2,hor⟩:=h1
     rw [ho] at ho2
     cases ho2
     have h2:=hS.val
     rw [hv2] at h2
     cases h2
     refine ⟨by omega,hor.imp (fun x=>x) ?_⟩
     rintro ⟨b,h3,h4,h5⟩
     exact ⟨b,h3,by simpa using h4,by simpa using h5⟩
    rcases Nat.eq_zero_or_pos m with hm | hm
    ·subst hm
     obtain rfl:=hS.val
     obtain rfl:=hX.val
     have hr:=Rx (ty:=ty) hE c.w a len cap hS.le xa xc
     have hredo:Redo c id' (c.mu id') c.w:=⟨rfl,rfl,rfl,Nat.le_refl _,Nat.le_refl _,fun _ _ _=>rfl,fun b hb=>⟨(hI.loc id' b hb).2.1,.inl hb⟩⟩
     refine ⟨.slice a len cap,c.redo id' (.arr wd' (len+0) (app f len g)) (c.mu id') c.w,len+0,by simp [hr,Ctx.redo],G4 hI hown hredo hid _ _ _ ?_,rfl,fun u e h=>Rw hI hredo h,?_,rfl,?_⟩
     ·refine ⟨Rz hS.len hX.len,?_⟩
      rcases hob with ⟨h0,hn0⟩ | ⟨b,cs,T,hbm,hh,hn,hvs⟩
      ·exact .inl ⟨h0,by omega⟩
      ·refine .inr ⟨b,cs,T,hbm,hh,Nat.le_trans (Nat.mul_le_mul_right _ (by omega)) hn,fun i hi j d hd=>?_⟩
       have hlt:Nat.blt i len=true:=Nat.ble_eq_true_of_le (by omega)
       simp only [app,hlt,cond_true] at hd
       exact hvs i (by omega) j d hd
     ·simp only [TV,AV,CV]
      refine ⟨wd',len+0,app f len g,a,cap,by simp [Ctx.redo,hid,purgeO],by omega,rfl,hS.le,hlen.2.imp (fun x=>x) ?_⟩
      rintro ⟨b,h3,h4,h5⟩
      exact ⟨b,by simp [Ctx.redo,h3],by simpa using h4,by rw [Nat.zero_add]; exact h5⟩
     ·intro wd1 n1 f1 ho1 u off1 len1 hl1 hu
      rw [ho] at ho1
      cases ho1
      left
      simp only [TV,AV,CV] at hu ⊢
      obtain ⟨wd2,n2,f2,a2,cap2,ho2,hl2,hv2,hc2,hor⟩:=hu
      rw [ho] at ho2
      cases ho2
      refine ⟨wd',len+0,app f len g,a2,cap2,by simp [Ctx.redo,hid,purgeO],hl1,hv2,hc2,hor.imp (fun x=>x) ?_⟩
      rintro ⟨b,h3,h4,h5⟩
      exact ⟨b,by simp [Ctx.redo,h3],h4,h5⟩
    ·have h63:len+m≤9223372036854775807:=by
      have:=Nat.le_mul_of_pos_right (len+m) hbp
      omega
     by_cases hroom:len+m≤cap
     ·rcases hlen.2 with h0 | ⟨b,hmu,rfl,cs,T,hh,hcs⟩
      ·omega
      obtain ⟨bx,ox,rfl,hxc⟩:=hX.cell hm
      obtain rfl:=hS.val
      obtain rfl:=hX.val
      rcases hob with ⟨h0,_⟩ | ⟨b',cs',T',hb',hh',hn,hvs⟩
      ·rw [hmu] at h0; cases h0
      rw [hmu] at hb'
      cases hb'
      rw [hh] at hh'
      cases hh'
      have hnews:=Zau hxc
      have hone:=ZhW hX.one
      have hfit:len*wd'+(flat wd' m hv).length≤cs.size:=by
       rw [WH,← Nat.add_mul]
       exact Nat.le_trans (Nat.mul_le_mul_right _ hroom) hcs
      have hr:=ZeM (ty:=ty) hE c.w b len cap cs T hh ⟨bx,ox,none⟩ m xc (flat wd' m hv) (WH _ _ _) hnews hone hroom hfit
      have hredo:Redo c id' (some b) (c.w.setRow b (splV cs (flat wd' m hv) (len*wd'))) :=
       ⟨rfl,rfl,rfl,Nat.le_refl _,by simp,fun k _ hne=>setRow_other _ _ _ _ fun e=>hne (by rw [e]; exact hmu),fun k hk=>by cases hk; exact ⟨by simpa using (hI.loc id' b hmu).2.1,.inl hmu⟩⟩
      refine ⟨.slice (some ⟨b,0,none⟩) (len+m) cap,c.redo id' (.arr wd' (len+m) (app f len g)) (some b) _,len+m,by simp [hr,Ctx.redo],G4 hI hown hredo hid _ _ _ ?_,rfl,fun u e h=>Rw hI hredo h,?_,rfl,?_⟩
      ·refine ⟨Rz hS.len hX.len,.inr ⟨b,_,T,rfl,setRow_heap _ _ _ _ _ _ hh,by rw [GU hfit]; exact Nat.le_trans (Nat.mul_le_mul_right _ hroom) hcs,fun i hi j d hd=>?_⟩⟩
       rw [Zbp hfit,WH]
       unfold app at hd
       cases hlt:Nat.blt i len with
       | true =>
        have hlt':=XW hlt
        simp only [hlt,cond_true] at hd
        have hj:j < wd':=by rw [← hwl i (by omega)]; exact (List.getElem?_eq_some_iff.1 hd).1
        have hb1:=ZeL hlt' hj
        rw [if_neg (by omega)]
        obtain ⟨u,h1,h2,h3⟩:=hvs i (by omega) j d hd
        exact ⟨u,h1,h2,KJ hI hredo h3⟩
       | false =>
        have hge:=R0 hlt
        simp only [hlt,cond_false] at hd
        have hlt':i - len < m:=by omega
        have hj:j < wd':=by rw [← hX.len _ hlt']; exact (List.getElem?_eq_some_iff.1 hd).1
        have hb1:=ZeL hlt' hj
        have e1:i*wd'=len*wd'+(i - len)*wd':=by rw [← Nat.add_mul]; congr 1; omega
        rw [if_pos (by omega)]
        refine ⟨hv (i - len) j,?_,hX.one _ hlt' j hj,KJ hI hredo (hX.pv _ hlt' j d hd)⟩
        rw [show i*wd'+j - len*wd'=(i - len)*wd'+j by omega]
        exact Zdy hlt' hj
      ·simp only [TV,AV,CV]
       refine ⟨wd',len+m,app f len g,_,cap,by simp [Ctx.redo,hid,purgeO],by omega,rfl,hroom,.inr ⟨b,by simp [Ctx.redo],by simp,_,T,setRow_heap _ _ _ _ _ _ hh,?_⟩⟩
       rw [GU hfit,Nat.zero_add]
       exact hcs
      ·intro wd1 n1 f1 ho1 u off1 len1 hl1 hu
       rw [ho] at ho1
       cases ho1
       left
       simp only [TV,AV,CV] at hu ⊢
       obtain ⟨wd2,n2,f2,a2,cap2,ho2,hl2,hv2,hc2,hor⟩:=hu
       rw [ho] at ho2
       cases ho2
       refine ⟨wd',len+m,app f len g,a2,cap2,by simp [Ctx.redo,hid,purgeO],hl1,hv2,hc2,hor.imp (fun x=>x) ?_⟩
       rintro ⟨b1,h3,h4,cs1,T1,h6,h7⟩
       rw [hmu] at h3
       cases h3
       rw [hh] at h6
       cases h6
       exact ⟨b,by simp [Ctx.redo],h4,_,T,setRow_heap _ _ _ _ _ _ hh,by rw [GU hfit]; exact h7⟩
     ·obtain ⟨cs,w',cap',hr,hm',hc1,hc2,hcells⟩:=Ry (ty:=ty) hE hS hX hm (by omega) (fun ha=>by
       rcases hlen.2 with h0 | ⟨b,_,h4,_⟩
       ·exact h0
       ·rw [ha] at h4; cases h4) b2 h63
      have hredo:Redo c id' (some c.w.heap.size) w':=⟨hm'.below.os,hm'.below.tape,hm'.below.output,hm'.below.drawn,hm'.below.size,fun k hk _=>hm'.below.block k hk,fun b hb=>by cases hb; exact ⟨by rw [hm'.size]; omega,.inr (Nat.le_refl _)⟩⟩
      have hI1:Inv F (c.redo id' (.arr wd' (len+m) (app f len g)) (some c.w.heap.size) w'):=G4 hI hown hredo hid _ _ _ ⟨Rz hS.len hX.len,.inr ⟨_,cs,e,rfl,hm'.new,Nat.le_trans (Nat.mul_le_mul_right _ hc1) hc2,fun i hi j d hd=>by
       obtain ⟨u,h1,h2,h3⟩:=hcells i hi j d hd
       exact ⟨u,h1,h2,KJ hI hredo h3⟩⟩⟩
      have hnl:∀ k,c.mu id'=some k→¬ F.lent k:=fun k hk hl=>by
       obtain ⟨i,hi⟩:=List.getElem?_of_mem hl
       have h1:=hI.lent i _ hi
       have h2:=hI.inj i id' k h1 hk
       have h3:=(List.getElem?_eq_some_iff.1 hi).1
       rcases hown with h4 | h4
       ·rw [h4] at h3; simp at h3
       ·omega
      have hI2:=ZdF (I1:=fun b=>c.mu id'=some b) hI1 (fun b hb=>⟨Nat.lt_of_lt_of_le (hI.loc id' b hb).2.1 hm'.below.size,((hI.loc id' b hb).1).resolve_right (hnl b hb),fun i hi=>by
       have hlt:=(hI.loc id' b hb).2.1
       simp only [Ctx.redo] at hi
       split at hi
       ·cases hi; omega
       ·rename_i hne
        exact hne (hI.inj i id' b hi hb)⟩) (fun b hb i o j h1 h2=>by
       obtain ⟨o1,h3,h4⟩:=RZ h1 h2
       exact (hI.fb h3 h4).2 id' hb)
      refine ⟨.slice (some ⟨c.w.heap.size,0,none⟩) (len+m) cap',(c.redo id' (.arr wd' (len+m) (app f len g)) (some c.w.heap.size) w').more fun b=>c.mu id'=some b,len+m,by simp [hr,Ctx.redo,Ctx.more],hI2,rfl,fun u e h=>Zfo (Rw hI hredo h),Zfo ?_,rfl,?_⟩
      ·simp only [TV,AV,CV]
       exact ⟨wd',len+m,app f len g,_,cap',by simp [Ctx.redo,hid,purgeO],by omega,rfl,hc1,.inr ⟨c.w.heap.size,by simp [Ctx.redo],by simp,cs,e,hm'.new,by simpa using hc2⟩⟩
      ·intro wd1 n1 f1 ho1 u off1 len1 hl1 hu
       rw [ho] at ho1
       cases ho1
       right
       have hu2:=hu
       simp only [TV,AV,CV] at hu2
       obtain ⟨wd2,n2,f2,a2,cap2,ho2,hl2,hv2,hc2',hor⟩:=hu2
       rw [ho] at ho2
       cases ho2
       obtain ⟨a0,cap0,gv0,hS1⟩:=KY hI (x:=.asl id' off1 len1) (wd:=wd') (m:=len1) (g:=fun i=>f (off1+i)) (by simp only [srcD,ho]) hu
       have hval:=hS1.val
       rw [hv2] at hval
       cases hval
       subst hv2
       have hkeep:∀ b,c.I b→w'.heap[b]? = c.w.heap[b]? := fun b hb=>hm'.below.block b (hI.imm b hb).1
       simp only [TV,AV,CV]
       refine .sl a2 len1 cap2 wd' false _ gv0 (fun h=>by cases h) hS1.le (fun hn=>?_) hS1.len hS1.one fun i hi j d hd=>?_
       ·obtain ⟨b,o,ha,hc⟩:=hS1.cell hn
        rcases hor with h0 | ⟨b',hb',ha',_⟩
        ·omega
        ·rw [ha] at ha'
         cases ha'
         refine ⟨_,_,ha,.inr hb',fun i hi j hj=>?_⟩
         show w'.cell? _=_
         rw [Zeg (hm'.below.block _ (hI.loc id' _ hb').2.1)]
         exact hc i hi j hj
       ·exact (hS1.pv i hi j d hd).mono (fun _ h=>.inl h) hkeep
  ·cases h
def twoD (P:Program) (ops:Array Oper) (k t0:Nat) (s:St):Option (St × St × List Bool) :=
 match ops[k]? with
 | some ⟨some dst,.call { callee:=.builtin .append,args:=⟨[sx,xx]⟩,argTypes:=⟨[t,u]⟩ },_,_,_,none⟩ =>
  bif Nat.beq t u&&Nat.blt dst s.nt then
   match appD P s.H t (evD s.env sx) (evD s.env xx),find s.env t0 with
   | some (.asl id0 o0 N,H',some id,bs),.asl id' off len=>match s.H[id]? with
    | some (.arr wd _ f)=>bif Nat.beq id id' then
      some (⟨s.nt,(dst,.asl id0 o0 N) :: (t0,.asl id off len) :: s.env.map fun p=>(p.1,purge (some id) p.2),H'⟩,⟨s.nt,(dst,.asl id0 o0 N) :: (t0,.sl false wd len fun i=>f (off+i)) :: s.env.map fun p=>(p.1,purge (some id) p.2),H'⟩,decide (off+len≤N) :: bs) else none
    | _=>none
   | _,_=>none
  else none
 | _=>none
theorem Zlu {F:Fr} {s:St} {a:Act} {c:Ctx} (henv:∀ t,TV c (a.tmps.getD t undef) (find s.env t)) (x:Operand):TV c (a.eval x) (evD s.env x):=by
 cases x with
 | tmp t=>exact henv t
 | const v=>exact Zbk c v
 | global g=>exact WS
 | func f=>exact ⟨#[],rfl,rfl,fun i v d h1 _=>by simp at h1⟩
theorem ZmZ {P:Program} {F:Fr} {ops:Array Oper} {k t0:Nat} {s sA sB:St} {bs:List Bool} (h:twoD P ops k t0 s=some (sA,sB,bs)) (hb:∀ b∈bs,b=true) {Q:Exit→Act→World→Prop} {rest:List Nat}
  (hQ:∀ g a w,Rel F (bif g then sB else sA) a w→wpOps P ops Q rest a w) {a:Act} {w:World} (hR:Rel F s a w):wpOps P ops Q (k :: rest) a w:=by
 unfold twoD at h
 split at h <;> try cases h
 rename_i dst sx xx t u type pos after ho
 cases hc:(Nat.beq t u&&Nat.blt dst s.nt) with
 | false=>simp [hc] at h
 | true =>
  simp only [hc,cond_true] at h
  simp only [Bool.and_eq_true] at hc
  obtain rfl:=Nat.eq_of_beq_eq_true hc.1
  have hlt:=XW hc.2
  split at h <;> try cases h
  rename_i id0 o0 N H' id bs0 id' off len happ hf0
  split at h <;> try cases h
  rename_i wd n f ho1
  cases hid:Nat.beq id id' with
  | false=>simp [hid] at h
  | true =>
   simp only [hid,cond_true,Option.some.injEq,Prod.mk.injEq] at h
   obtain ⟨rfl,rfl,rfl⟩:=h
   have ei:=Nat.eq_of_beq_eq_true hid
   subst ei
   obtain ⟨c,rfl,hH,hI,henv,hsz,hd⟩:=hR
   rw [← hH] at happ ho1
   obtain ⟨v,c',N',hrun,hI',hH',htr,htv,hdN,hstay⟩:=Zmw (ty:=type) hI happ (fun b hb'=>hb b (List.mem_cons_of_mem _ hb')) (Zlu (F:=F) henv sx) (Zlu (F:=F) henv xx)
   obtain ⟨e1,e2,e3⟩:id=id0∧0=o0∧N'=N:=by cases hdN; exact ⟨rfl,rfl,rfl⟩
   subst e1
   subst e2
   subst e3
   have hle:off+len≤N':=by simpa using hb _ (List.mem_cons_self ..)
   have h0:=henv t0
   have h0':TV c (a.tmps.getD t0 undef) (.asl id off len):=by rw [← hf0]; exact h0
   simp only [wpOps,ho]
   have hw:Region.wanted (⟨some dst,.call { callee:=.builtin .append,args:=⟨[sx,xx]⟩,argTypes:=⟨[t,t]⟩ },type,pos,after,none⟩:Oper) (yielded ops a.tmps)=true:=by simp [Region.wanted]
   simp only [hw,if_true]
   have hput:∀ e0:D,TV c' (a.tmps.getD t0 undef) e0→Rel F ⟨s.nt,(dst,.asl id 0 N') :: (t0,e0) :: s.env.map (fun p=>(p.1,purge (some id) p.2)),H'⟩ (a.put (some dst) v) c'.w:=fun e0 he0=>by
    refine ⟨c',rfl,hH',hI',fun q=>?_,by rw [G6]; exact hsz,by rw [UQ]; exact hd⟩
    show TV c' _ (find ((dst,.asl id 0 N') :: (t0,e0) :: s.env.map (fun p=>(p.1,purge (some id) p.2))) q)
    simp only [find]
    cases hq:Nat.beq dst q with
    | true =>
     obtain rfl:=Nat.eq_of_beq_eq_true hq
     simp only [cond_true]
     rw [WA (by rw [hsz]; exact hlt)]
     exact htv
    | false =>
     simp only [cond_false]
     rw [GK (by simpa using Nat.ne_of_beq_eq_false hq)]
     cases hq0:Nat.beq t0 q with
     | true =>
      obtain rfl:=Nat.eq_of_beq_eq_true hq0
      simp only [cond_true]
      exact he0
     | false =>
      simp only [cond_false]
      rw [Kx]
      exact htr _ _ (henv q)
   have hfin:wpOps P ops Q rest (a.put (some dst) v) c'.w:=by
    rcases hstay wd n f ho1 _ off len hle h0' with h1 | h1
    ·exact hQ false _ _ (hput _ h1)
    ·exact hQ true _ _ (hput _ h1)
   refine .inl ?_
   unfold Oper.wp
   have hrun':(execOp a.eval ⟨some dst,.call { callee:=.builtin .append,args:=⟨[sx,xx]⟩,argTypes:=⟨[t,t]⟩ },type,pos,after,none⟩).run P c.w = .ok (.value v) c'.w:=by
    simpa [execOp,resolve,invoke,builtin] using hrun
   rw [hrun']
   exact hfin
def twA (r:Option (St × St × List Bool)):St:=match r with | some x=>x.1 | none=>⟨0,[],[]⟩
def twB (r:Option (St × St × List Bool)):St:=match r with | some x=>x.2.1 | none=>⟨0,[],[]⟩
def twC (r:Option (St × St × List Bool)):Option (List Bool):=r.map fun x=>x.2.2
theorem Zmx {r:Option (St × St × List Bool)} {bs:List Bool} (h:twC r=some bs):r=some (twA r,twB r,bs):=by
 cases r with
 | none=>cases h
 | some x=>obtain ⟨a,b,c⟩:=x; cases h; rfl
theorem rgT {P:Program} {Q:Exit→St→Prop} {s:St} {id:Nat} {ops:Array Oper} (k l t0:Nat) (orc1:List Res) (keep1:List Nat) (hn1:Nat) (s1:St) (bs1:List Bool) (rq1:List Req) (hb1:∀ b∈bs1,b=true) (hq1:Reqs P rq1)
  (s2:St) (hle:Le s1 s2) (keep2:List Nat) (hn2:Nat) (bs3:List Bool) (hb3:∀ b∈bs3,b=true) (keepB:List Nat) (hnB:Nat) (s5 s6:St) (kA:Q .normal s5) (kB:Q .normal s6)
  (h1:regTo P ops k orc1 keep1 hn1 s=some (s1,bs1,rq1):=by kernel_rfl) (h2:n0 (regMid P ops k l [] keep2 hn2 s2)=true:=by kernel_rfl) (h3:twC (twoD P ops l t0 (nxS (regMid P ops k l [] keep2 hn2 s2)))=some bs3:=by kernel_rfl)
  (hA:regFrom P ops (l+1) [] keepB hnB (twA (twoD P ops l t0 (nxS (regMid P ops k l [] keep2 hn2 s2))))=some (s5,[],[]):=by kernel_rfl) (hB:regFrom P ops (l+1) [] keepB hnB (twB (twoD P ops l t0 (nxS (regMid P ops k l [] keep2 hn2 s2))))=some (s6,[],[]):=by kernel_rfl)
  (hl:Nat.blt l ops.size=true:=by kernel_rfl):AWP P (.region id ops false) Q s:=by
 intro F a w hG hR
 refine wp_region ?_
 have hnd:dstsB ops=true:=by
  unfold regTo at h1
  cases hc:(dstsB ops&&Nat.ble k ops.size) with
  | false=>rw [hc] at h1; cases h1
  | true=>simp only [Bool.and_eq_true] at hc; exact hc.1
 have hl':=XW hl
 refine (Zi4 h1 hb1 hq1.all (fun a w hR1=>Zmt hnd (Zju h2) Zz (fun _ h=>by cases h) (fun a w hR2=>?_) (hle F a w hR1)) hR).2
 rw [show ops.size - l=(ops.size - (l+1))+1 by omega,List.range'_succ]
 refine ZmZ (Zmx h3) hb3 (fun g a w hR3=>?_) hR2
 cases g with
 | false=>exact K4 hnd hA Zz (fun _ h=>by cases h) (fun a w h=>⟨_,kA,h⟩) hR3
 | true=>exact K4 hnd hB Zz (fun _ h=>by cases h) (fun a w h=>⟨_,kB,h⟩) hR3
theorem two {P:Program} {c:Code} {Q:Exit→St→Prop} {s:Bool→St} {s':Bool→St} (g:Bool) (h0:Q .normal (s' false)→AWP P c Q (s false)) (h1:Q .normal (s' true)→AWP P c Q (s true)) (k:Q .normal (s' g)):AWP P c Q (s g):=by
 cases g
 ·exact h0 k
 ·exact h1 k
theorem twoE {P:Program} {c:Code} {Q:Exit→St→Prop} {s:Bool→St} {s':Bool→St} (g:Bool) (h0:(∀ g2,Q .normal (s' g2))→AWP P c Q (s false)) (h1:(∀ g2,Q .normal (s' g2))→AWP P c Q (s true)) (k:∀ g2,Q .normal (s' g2)):AWP P c Q (s g):=by
 cases g
 ·exact h0 k
 ·exact h1 k
theorem ZgS {P:Program} {c:Code} {α β γ:Type} {f:α→Option (α ⊕ β)} (J:α→Prop) (S:α→γ→St) (O:β→Exit→St→Prop) (pres:∀ x x',J x→f x=some (.inl x')→J x') (round:∀ x r g,J x→f x=some r→AWP P c (RoundE S O r) (S x g)) {x:α} {y:β} (h:Iter f x y) (hx:J x) (g:γ) :
  AWP P (.loop c) (O y) (S x g):=by
 intro F a w hG hR
 refine Zav (f:=f) (fun x a w=>J x∧∃ g,Rel F (S x g) a w) (fun y e a w=>∃ s',O y e s'∧Rel F s' a w) (fun x r a w hx hI=>?_) h ⟨hx,g,hR⟩
 obtain ⟨hJ,g,hI⟩:=hI
 refine wp_mono (round x r g hJ hx F a w hG hI) ?_
 rintro e a' w' ⟨s',h1,h2⟩
 cases r with
 | inl x'=>exact ⟨h1.1,pres _ _ hJ hx,h1.2 _ _ _ h2⟩
 | inr y=>exact ⟨h1.1,s',h1.2,h2⟩
theorem Zlv {α β:Type} {f:α→Option (α ⊕ β)} (J:α→Prop) (O:β→Prop) (hl:∀ x x',J x→f x=some (.inl x')→J x') (hr:∀ x y,J x→f x=some (.inr y)→O y) {x:α} {y:β} (h:Iter f x y):J x→O y:=by
 induction h with
 | out h=>exact fun hx=>hr _ _ hx h
 | next h _ ih=>exact fun hx=>ih (hl _ _ hx h)
end Nv
namespace Nv
open Go Go.RowKit
theorem Zlw {F:Fr} {s:St} {a:Act} {w:World} (h:Rel F s a w):Rel F s a w.drew:=by
 obtain ⟨c,rfl,hH,hI,henv,hsz,hd⟩:=h
 let c':Ctx:={ c with w:=c.w.drew }
 have hgo:Goes c c':=⟨rfl,rfl,fun _ h=>h,fun _ _=>rfl,fun b hb=>(hI.imm b hb).1,fun id b hb=>(hI.loc id b hb).2.1⟩
 exact ⟨c',rfl,hH,hI.goes hgo (Bw.refl _ _).drew (fun _ h=>.inl h),fun t=>hgo.tv (henv t),hsz,hd⟩
theorem Zm0 {P:Program} {F:Fr} [GF P F] {nt:Nat} {ops:Array Oper} (hnd:dstsB ops=true) {i:Nat} {o:Oper} (ho:ops[i]? = some o) {s:St} (hnt:s.nt=nt) {orc:List Res} {r:RS} {bs:List Bool} {rq:List Req} (h:stepS P nt ops i ⟨s.env,s.H,orc⟩ o=some (r,bs,rq))
  (hb:∀ b∈bs,b=true) (hq:∀ q∈rq,q.ok P) {Q:Exit→Act→World→Prop} {K:Act→World→Prop} (keys:List Nat) (hK:∀ a w,Rel F ⟨nt,fin r.env keys,r.H⟩ a w→K a w) {a:Act} {w:World} (hR:Rel F s a w):wpOp P ops Q i K a w:=by
 obtain ⟨c,rfl,h0⟩:=Uj (ops:=ops) (k:=i) (orc:=orc) hR hnt
 have hw:=Gk hnd (Q:=QK Q K) (rest:=[]) [o] i ⟨s.env,s.H,orc⟩ r bs rq (fun j=>by
   cases j with
   | zero=>left; rw [Nat.add_zero,ho]; rfl
   | succ j=>right; simp) (by simp only [runS,h,List.append_nil]) hb hq a c h0 (fun a' c' hR'=>hK _ _ (WZ hR' keys))
 rw [show List.range' i [o].length++[]=[i] from rfl,wpOps_cons] at hw
 unfold wpOp at hw ⊢
 simp only [ho] at hw ⊢
 split
 ·rename_i hwn
  rw [if_pos hwn] at hw
  exact hw.imp (fun h=>ZmQ (fun _ _ h=>h) h) fun h=>h
 ·rename_i hwn
  rw [if_neg hwn] at hw
  exact hw
abbrev UDat:=List (List Res × List Bool × List Req)
section
variable (P:Program) (nt:Nat) (ops:Array Oper) (keys:List Nat) (dat:UDat)
def tStep (k:Nat) (s:St):Option (St × List Bool × List Req) :=
 match ops[k]? with
 | some o=>match stepS P nt ops k ⟨s.env,s.H,(dat.getD k ([],[],[])).1⟩ o with
  | some (r,bs,rq)=>some (⟨nt,fin r.env keys,r.H⟩,bs,rq)
  | none=>none
 | none=>none
def tRun (s:St) (listed:Array Bool):Nat→Option St
 | 0=>some ⟨nt,fin s.env keys,s.H⟩
 | k+1=>match tRun s listed k with
  | some st=>match listed.getD k false with
   | true=>match tStep P nt ops keys dat k st with
    | some (st',_,_)=>some st'
    | none=>none
   | false=>some st
  | none=>none
end
theorem ZaA {α β:Type} {f g:α→β}:∀ {l:List α},l.map f=l.map g→∀ x∈l,f x=g x
 | [],_,x,hx=>by cases hx
 | y :: l,h,x,hx=>by
  simp only [List.map_cons,List.cons.injEq] at h
  rcases List.mem_cons.1 hx with rfl | hx
  ·exact h.1
  ·exact ZaA h.2 x hx
theorem Zm1 {dat:UDat} {i:Nat} {b:Bool} (h:b∈(dat.getD i ([],[],[])).2.1):b∈dat.flatMap (·.2.1):=by
 rcases Nat.lt_or_ge i dat.length with h1 | h1
 ·rw [List.getD_eq_getElem?_getD,List.getElem?_eq_getElem h1,Option.getD_some] at h
  exact List.mem_flatMap.2 ⟨_,List.getElem_mem h1,h⟩
 ·rw [List.getD_eq_getElem?_getD,List.getElem?_eq_none h1,Option.getD_none] at h
  cases h
theorem Zm2 {dat:UDat} {i:Nat} {b:Req} (h:b∈(dat.getD i ([],[],[])).2.2):b∈dat.flatMap (·.2.2):=by
 rcases Nat.lt_or_ge i dat.length with h1 | h1
 ·rw [List.getD_eq_getElem?_getD,List.getElem?_eq_getElem h1,Option.getD_some] at h
  exact List.mem_flatMap.2 ⟨_,List.getElem_mem h1,h⟩
 ·rw [List.getD_eq_getElem?_getD,List.getElem?_eq_none h1,Option.getD_none] at h
  cases h
theorem Zhn {P:Program} {nt:Nat} {ops:Array Oper} {keys:List Nat} {dat:UDat} {s:St} {listed:Array Bool}:∀ {k:Nat} {st:St},tRun P nt ops keys dat s listed k=some st→st.nt=nt
 | 0,st,h=>by simp only [tRun,Option.some.injEq] at h; rw [← h]
 | k+1,st,h=>by
  simp only [tRun] at h
  split at h <;> try cases h
  rename_i st0 h0
  split at h
  ·split at h <;> try cases h
   rename_i st' b q hs
   unfold tStep at hs
   split at hs <;> try cases hs
   split at hs <;> try cases hs
   rfl
  ·cases h; exact Zhn h0
def regU (P:Program) (ops:Array Oper) (keys:List Nat) (dat:UDat) (keep:List Nat) (hn:Nat) (s:St):Option St :=
 match tRun P s.nt ops keys dat s (Array.replicate ops.size true) ops.size with
 | some sF=>cutS hn ⟨s.nt,fin sF.env keep,sF.H⟩
 | none=>none
end Nv
namespace Nv
open Go Go.RowKit
def arrOf (n m:Nat):Array Bool:=((List.range n).map fun i=>m.testBit i).toArray
def ddp:List Nat→List Nat
 | []=>[]
 | x :: l=>bif (ddp l).any (Nat.beq x) then ddp l else x :: ddp l
theorem Zho {x:Nat}:∀ {l:List Nat},x∈l→x∈ddp l
 | y :: l,h=>by
  unfold ddp
  cases hb:(ddp l).any (Nat.beq y) with
  | true =>
   rw [cond_true]
   rcases List.mem_cons.1 h with rfl | h
   ·obtain ⟨z,h1,h2⟩:=List.any_eq_true.1 hb
    rw [Nat.eq_of_beq_eq_true h2]; exact h1
   ·exact Zho h
  | false =>
   rw [cond_false]
   rcases List.mem_cons.1 h with rfl | h
   ·exact List.mem_cons_self
   ·exact List.mem_cons_of_mem _ (Zho h)
section
variable (P:Program) (nt:Nat) (ops:Array Oper) (keys:List Nat) (dat:UDat)
def lev:Nat→List Nat
 | 0=>[0]
 | k+1=>ddp ((lev k).flatMap fun m=>(Region.ready .any ops (arrOf ops.size m)).map fun i=>m ||| 2 ^ i)
def sPairs (s:St):List (Option (St × List Bool × List Req) × Option (St × List Bool × List Req)) :=
 (List.range ops.size).flatMap fun k=>(lev ops k).flatMap fun m=>(Region.ready .any ops (arrOf ops.size m)).map fun i =>
  ((tRun P nt ops keys dat s (arrOf ops.size m) ops.size).bind fun st=>tStep P nt ops keys dat i st,(tRun P nt ops keys dat s (arrOf ops.size (m ||| 2 ^ i)) ops.size).bind fun st=>some (st,(dat.getD i ([],[],[])).2.1,(dat.getD i ([],[],[])).2.2))
def sArrs:List (List Bool × List Bool) :=
 (List.range ops.size).flatMap fun k=>(lev ops k).flatMap fun m=>(Region.ready .any ops (arrOf ops.size m)).map fun i=>((arrOf ops.size m).toList.set i true,(arrOf ops.size (m ||| 2 ^ i)).toList)
def sEnds (s:St):List (Option St × Option St):=(lev ops ops.size).map fun m=>(tRun P nt ops keys dat s (arrOf ops.size m) ops.size,tRun P nt ops keys dat s (Array.replicate ops.size true) ops.size)
def sShape:Bool:=((List.range ops.size).all fun k=>(lev ops k).all fun m=>!(Region.ready .any ops (arrOf ops.size m)).isEmpty)&&(lev ops ops.size).all fun m=>(Region.ready .any ops (arrOf ops.size m)).isEmpty
end
theorem Zlx {P:Program} {F:Fr} [GF P F] {nt:Nat} {ops:Array Oper} {keys:List Nat} {dat:UDat} {s sF:St} (hnd:dstsB ops=true) (hb:∀ b∈dat.flatMap (·.2.1),b=true) (hq:∀ q∈dat.flatMap (·.2.2),q.ok P)
  (hp:∀ p∈sPairs P nt ops keys dat s,p.1=p.2) (hm:∀ p∈sPairs P nt ops keys dat s,p.1.isSome=true) (ha:∀ p∈sArrs ops,p.1=p.2) (he:∀ p∈sEnds P nt ops keys dat s,p.1=p.2) (hsh:sShape ops=true)
  (hF:tRun P nt ops keys dat s (Array.replicate ops.size true) ops.size=some sF) {Q:Exit→Act→World→Prop} (hQ:∀ a w,Rel F sF a w→Q .normal a w) :
  ∀ (fuel k m:Nat) (a:Act) (w:World) (st:St),k+fuel=ops.size→m∈lev ops k→tRun P nt ops keys dat s (arrOf ops.size m) ops.size=some st→Rel F st a w→wpAny P .any ops Q fuel (arrOf ops.size m) a w
 | 0,k,m,a,w,st,hk,hl,ht,hR=>by
  obtain rfl:k=ops.size:=by omega
  unfold sShape at hsh
  simp only [Bool.and_eq_true] at hsh
  have h1:=List.all_eq_true.1 hsh.2 m hl
  refine ⟨by simpa using h1,?_⟩
  have:=he _ (List.mem_map.2 ⟨m,hl,rfl⟩)
  simp only [ht,hF,Option.some.injEq] at this
  exact hQ _ _ (this ▸ hR)
 | f+1,k,m,a,w,st,hk,hl,ht,hR=>by
  have hkn:k < ops.size:=by omega
  have hsh':=hsh
  unfold sShape at hsh'
  simp only [Bool.and_eq_true] at hsh'
  have h1:=List.all_eq_true.1 (List.all_eq_true.1 hsh'.1 k (List.mem_range.2 hkn)) m hl
  refine ⟨fun h=>by rw [h] at h1; simp at h1,fun i hi=>?_⟩
  have hin:((tRun P nt ops keys dat s (arrOf ops.size m) ops.size).bind fun st=>tStep P nt ops keys dat i st,(tRun P nt ops keys dat s (arrOf ops.size (m ||| 2 ^ i)) ops.size).bind fun st=>some (st,(dat.getD i ([],[],[])).2.1,(dat.getD i ([],[],[])).2.2))∈sPairs P nt ops keys dat s :=
   List.mem_flatMap.2 ⟨k,List.mem_range.2 hkn,List.mem_flatMap.2 ⟨m,hl,List.mem_map.2 ⟨i,hi,rfl⟩⟩⟩
  have hina:((arrOf ops.size m).toList.set i true,(arrOf ops.size (m ||| 2 ^ i)).toList)∈sArrs ops :=
   List.mem_flatMap.2 ⟨k,List.mem_range.2 hkn,List.mem_flatMap.2 ⟨m,hl,List.mem_map.2 ⟨i,hi,rfl⟩⟩⟩
  have hset:(arrOf ops.size m).setIfInBounds i true=arrOf ops.size (m ||| 2 ^ i):=by
   apply Array.ext'
   rw [Array.toList_setIfInBounds]
   exact ha _ hina
  have hlev:m ||| 2 ^ i∈lev ops (k+1):=Zho (List.mem_flatMap.2 ⟨m,hl,List.mem_map.2 ⟨i,hi,rfl⟩⟩)
  have e:=hp _ hin
  have e2:=hm _ hin
  simp only [ht,Option.bind_some] at e e2
  obtain ⟨⟨st1,b1,q1⟩,hs1⟩:=Option.isSome_iff_exists.1 e2
  rw [hs1] at e
  cases ht2:tRun P nt ops keys dat s (arrOf ops.size (m ||| 2 ^ i)) ops.size with
  | none=>rw [ht2] at e; cases e
  | some st2 =>
   rw [ht2] at e
   simp only [Option.bind_some,Option.some.injEq,Prod.mk.injEq] at e
   obtain ⟨rfl,rfl,rfl⟩:=e
   unfold tStep at hs1
   split at hs1 <;> try cases hs1
   rename_i o ho
   split at hs1 <;> try cases hs1
   rename_i r hst
   exact Zm0 hnd ho (Zhn ht) hst (fun b h=>hb b (Zm1 h)) (fun q h=>hq q (Zm2 h)) keys (fun a w hR'=>by
    rw [hset]
    exact Zlx hnd hb hq hp hm ha he hsh hF hQ f (k+1) _ a w _ (by omega) hlev ht2 hR') hR
theorem rgU {P:Program} {Q:Exit→St→Prop} {s:St} {id:Nat} {ops:Array Oper} (keys:List Nat) (dat:UDat) (keep:List Nat) (hn:Nat) (s':St) (bs:List Bool) (rq:List Req) (hb:∀ b∈bs,b=true) (hq:Reqs P rq) (k:Q .normal s')
  (h1:dat.flatMap (·.2.1)=bs:=by rfl) (h2:dat.flatMap (·.2.2)=rq:=by rfl) (h3:regU P ops keys dat keep hn s=some s':=by kernel_rfl)
  (h4:(sPairs P s.nt ops keys dat s).map (·.1)=(sPairs P s.nt ops keys dat s).map (·.2):=by kernel_rfl)
  (h5:(P.follows .mixedOrders&&dstsB ops&&sShape ops&&(sPairs P s.nt ops keys dat s).all fun p=>p.1.isSome)=true:=by kernel_rfl)
  (h6:(sArrs ops).map (·.1)=(sArrs ops).map (·.2):=by kernel_rfl) (h7:(sEnds P s.nt ops keys dat s).map (·.1)=(sEnds P s.nt ops keys dat s).map (·.2):=by kernel_rfl)
  (h8:(arrOf ops.size 0).toList=(Array.replicate ops.size false).toList:=by kernel_rfl):AWP P (.region id ops true) Q s:=by
 subst h1; subst h2
 intro F a w hG hR
 simp only [Bool.and_eq_true] at h5
 obtain ⟨⟨⟨hmo,hnd⟩,hsh⟩,hsm⟩:=h5
 unfold regU at h3
 split at h3 <;> try cases h3
 rename_i sF hF
 have h9:arrOf ops.size 0=Array.replicate ops.size false:=Array.ext' h8
 have hst:∀ m,tRun P s.nt ops keys dat s (Array.replicate ops.size false) m=some ⟨s.nt,fin s.env keys,s.H⟩:=fun m=>by
  induction m with
  | zero=>rfl
  | succ m ih=>simp only [tRun,ih,J8]
 refine wp_region_any hmo ?_
 rw [← h9]
 refine Zlx (F:=F) (sF:=sF) hnd hb hq.all (ZaA h4) (fun p hp=>List.all_eq_true.1 hsm p hp) (ZaA h6) (ZaA h7) hsh hF (fun a' w' hR'=>⟨s',k,?_⟩) ops.size 0 0 a w.drew _ (by omega) (by simp [lev]) (by rw [h9]; exact hst _) ?_
 ·obtain ⟨c,hc,h0⟩:=Uj (ops:=ops) (k:=0) (orc:=[]) (Zlw hR) rfl
  rw [← hc]
  exact WZ h0 keys
 ·obtain ⟨c,rfl,h0⟩:=Uj (ops:=ops) (k:=0) (orc:=[]) hR' (Zhn hF)
  exact U5 h3 F _ c.w (WZ h0 keep)
end Nv
namespace Nv
open Go Go.RowKit
section
variable {α:Type} [Inhabited α]
end
theorem am {a:Bool} {l:List Bool} (h:a=true) (k:∀ b∈l,b=true):∀ b∈a :: l,b=true:=fun b hb=>(List.mem_cons.1 hb).elim (fun e=>e ▸ h) (k b)
theorem K5 {P:Program} {y:Code} {Q:Exit→St→Prop} {α:Type} {s:St} {S:α→St} (h:LeE s S) (k:∀ x,AWP P y Q (S x)):Then P y Q .normal s:=Zmp h k
theorem K6 {α β γ:Type} {S:α→γ→St} {O:β→Exit→St→Prop} {x:α} {s:St} (g:γ) (h:Le s (S x g)):RoundE S O (.inl x) .normal s:=⟨rfl,LeE.of g h⟩
theorem R5 {α β γ:Type} {S:α→γ→St} {O:β→Exit→St→Prop} {y:β} {s:St} {id:Nat} (h:O y (.exit id) s):RoundE S O (.inr y) (.exit id) s:=⟨by simp,h⟩
def OutL {α γ:Type} (id:Nat) (S:α→γ→St) (x:α) (e:Exit) (s:St):Prop:=e = .exit id∧LeE s (S x)
end Nv
namespace Nv
open Go Go.RowKit
def exV:D→Value
 | .int k n=>.int k n
 | .bool b=>.bool b
 | .str s=>.string s
 | _=>undef
def exB:D→Bool
 | .int _ _ | .bool _ | .str _=>true
 | _=>false
theorem Zm3 {c:Ctx} {d:D} (h:exB d=true):CV c (exV d) d:=by
 cases d <;> first | (simp [exB] at h; done) | skip
 ·exact .int _ _
 ·exact .bool _
 ·exact .str _
theorem Zm4 {c:Ctx} {d:D} {v:Value} (h:exB d=true) (hv:CV c v d):v=exV d:=by
 cases d <;> first | (simp [exB] at h; done) | skip
 ·cases hv; rfl
 ·cases hv; rfl
 ·cases hv; rfl
def exA (cs:List D):Value:=.agg (cs.map exV).toArray
theorem Zm5 (c:Ctx) {cs:List D} (h:cs.all exB=true):Vs (CV c) (cs.map exV).toArray cs:=by
 refine ⟨by simp,fun i v d h1 h2=>?_⟩
 simp only [List.getElem?_toArray,List.getElem?_map,h2,Option.map_some,Option.some.injEq] at h1
 subst h1
 exact Zm3 (List.all_eq_true.1 h d (List.mem_of_getElem? h2))
theorem Zm6 {c:Ctx} {cs:List D} {vs:Array Value} (h:cs.all exB=true) (hv:Vs (CV c) vs cs):Value.agg vs=exA cs:=by
 unfold exA
 congr 1
 apply Array.ext
 ·simpa using hv.1
 ·intro i h1 h2
  have hi:i < cs.length:=by rw [← hv.1]; exact h1
  have:=Zm4 (List.all_eq_true.1 h cs[i] (by simp)) (hv.2 i vs[i] cs[i] (by simp [h1]) (by simp [hi]))
  rw [this]
  simp
section
variable {P:Program}
def findV (p:Value→Bool):List (Value × Value)→Option Value
 | []=>none
 | e :: es=>bif p e.1 then some e.2 else findV p es
theorem Zby {w:World} {kt:TypeId} {k:Value} {p:Value→Bool}:∀ (es:List MapEntry) (i:Nat),(∀ e∈es,(Op.equal kt k e.key).run P w = .ok (p e.key) w) →
  ∃ r,(Instr.findAsking kt k es i).run P w = .ok r w∧r.map (·.2)=findV p (es.map fun e=>(e.key,e.val))
 | [],i,_=>⟨none,rfl,rfl⟩
 | e :: es,i,h=>by
  have h1:=h e List.mem_cons_self
  obtain ⟨r,h2,h3⟩:=Zby es (i+1) fun e he=>h e (List.mem_cons_of_mem _ he)
  cases hp:p e.key with
  | true =>
   refine ⟨some (i,e.val),by simp [Instr.findAsking,h1,hp,Result.andThen],by simp [findV,hp]⟩
  | false =>
   refine ⟨r,by simp [Instr.findAsking,h1,hp,Result.andThen,h2],by simp [findV,hp,h3]⟩
theorem ZeR {w:World} {kt:TypeId} {fs:Array Field} {k:Value} {p:Value→Bool} (hk:P.underlying kt=some (.struct fs)) (es:List MapEntry) (h:∀ e∈es,(Op.equal kt k e.key).run P w = .ok (p e.key) w) :
  ∃ r,(Instr.findKey kt k es).run P w = .ok r w∧r.map (·.2)=findV p (es.map fun e=>(e.key,e.val)):=by
 cases es with
 | nil=>exact ⟨none,by simp [Instr.findKey,run_underlying hk,Instr.findNow,Result.andThen],rfl⟩
 | cons e es =>
  obtain ⟨r,h1,h2⟩:=Zby (P:=P) (e :: es) 0 h
  refine ⟨r,?_,h2⟩
  have hn:Instr.findNow (.struct fs) k (e :: es) 0=none:=by simp [Instr.findNow,Instr.sameNow]
  simp [Instr.findKey,run_underlying hk,hn,Result.andThen,h1]
theorem Zly {w:World} {t kt et:TypeId} {fs:Array Field} {k z:Value} {p:Value→Bool} {b ck:Nat} {arr:Array MapEntry} (hu:P.underlying t=some (.map kt et)) (hk:P.underlying kt=some (.struct fs)) (hb:w.heap[b]? = some (.map arr ck))
  (hchk:∀ em,(Instr.checkKey em 10000 kt k).run P w = .ok () w) (hz:(zeroValue et).run P w = .ok z w) (h:∀ e∈arr.toList,(Op.equal kt k e.key).run P w = .ok (p e.key) w) :
  (Instr.lookup t (.map (some b)) k true).run P w = .ok (.tuple #[(findV p (arr.toList.map fun e=>(e.key,e.val))).getD z,.bool (findV p (arr.toList.map fun e=>(e.key,e.val))).isSome]) w:=by
 obtain ⟨r,h1,h2⟩:=ZeR hk arr.toList h
 rw [← h2]
 cases r with
 | none=>simp [Instr.lookup,run_underlying hu,MapKept.run_getObj_map hb,hchk,h1,hz,Result.andThen]
 | some r=>simp [Instr.lookup,run_underlying hu,MapKept.run_getObj_map hb,hchk,h1,Result.andThen]
theorem Zi5 {w:World} {t kt et:TypeId} {fs:Array Field} {k v:Value} {p:Value→Bool} {b ck:Nat} {arr:Array MapEntry} (hu:P.underlying t=some (.map kt et)) (hk:P.underlying kt=some (.struct fs)) (hb:w.heap[b]? = some (.map arr ck))
  (hchk:∀ em,(Instr.checkKey em 10000 kt k).run P w = .ok () w) (h:∀ e∈arr.toList,(Op.equal kt k e.key).run P w = .ok (p e.key) w) (hno:findV p (arr.toList.map fun e=>(e.key,e.val))=none) :
  (Instr.mapUpdate t (.map (some b)) k v).run P w = .ok () (ChangeMaps.setBlock w b (.map (arr.push ⟨k,v,ck⟩) (ck+1))):=by
 obtain ⟨r,h1,h2⟩:=ZeR hk arr.toList h
 rw [hno] at h2
 cases r with
 | some r=>cases h2
 | none=>simp [Instr.mapUpdate,run_underlying hu,MapKept.run_getObj_map hb,hchk,h1,MapKept.run_setObj_map _ hb,Result.andThen,ChangeMaps.setBlock]
end
section
variable {F:Fr} {c:Ctx} {id:Nat} {u:Value} {es es':List (Value × Value)}
def Ctx.mput (c:Ctx) (id:Nat) (o':Ob) (w':World):Ctx:={ c with H:=c.H.set id o',w:=w' }
structure MPut (c:Ctx) (id b:Nat) (w':World):Prop where
 os:w'.os=c.w.os
 tape:w'.tape=c.w.tape
 output:w'.output=c.w.output
 drawn:w'.drawn=c.w.drawn
 size:w'.heap.size=c.w.heap.size
 blk:∀ k,k ≠ b→w'.heap[k]? = c.w.heap[k]?
theorem Zi6 (ho:c.H[id]? = some (.mp u es)) {w':World} {i:Nat} {q:Ob} (h:c.H[i]? = some q) (hq:∀ x y,q ≠ .mp x y):(c.mput id (.mp u es') w').H[i]? = some q:=by
 have hne:i ≠ id:=fun e=>by subst e; rw [ho] at h; cases h; exact hq _ _ rfl
 simp only [Ctx.mput]
 rw [List.getElem?_set_ne (Ne.symm hne)]
 exact h
theorem Zhp (hI:Inv F c) {b:Nat} (hb:c.mu id=some b) {w':World} (hp:MPut c id b w') {v:Value} {d:D} (h:PV c.I c.w v d):PV c.I w' v d :=
 h.mono (fun _ h=>h) fun k hk=>hp.blk k fun e=>(hI.loc id b hb).2.2 (by rw [← e]; exact hk)
theorem Zj6 {b:Nat} {w':World} (hp:MPut c id b w') {arr:Array MapEntry} {ck:Nat} (hh:c.w.heap[b]? = some (.map arr ck)) {k n:Nat} (h:Room c.w k n):Room w' k n:=by
 obtain ⟨cs,T,h1,h2⟩:=h
 exact ⟨cs,T,by rw [hp.blk k fun e=>by subst e; rw [hh] at h1; cases h1]; exact h1,h2⟩
theorem Zfq (hI:Inv F c) (ho:c.H[id]? = some (.mp u es)) {b:Nat} (hb:c.mu id=some b) {w':World} (hp:MPut c id b w') {arr:Array MapEntry} {ck:Nat} (hh:c.w.heap[b]? = some (.map arr ck)) {v:Value} {d:D} (h:CV c v d):CV (c.mput id (.mp u es') w') v d:=by
 cases d <;> simp only [CV] at h ⊢ <;> try exact Zhp hI hb hp h
 ·exact h
 ·obtain ⟨b',wd,n,f,h1,h2,h3,h4⟩:=h
  exact ⟨b',wd,n,f,h1,Zi6 ho h2 (by simp),h3,h4⟩
 ·obtain ⟨wd,n,f,a,cap,h1,h2,h3,h4,h5⟩:=h
  refine ⟨wd,n,f,a,cap,Zi6 ho h1 (by simp),h2,h3,h4,h5.imp (fun x=>x) ?_⟩
  rintro ⟨b',h6,h7,h8⟩
  exact ⟨b',h6,h7,Zj6 hp hh h8⟩
theorem Zjy (hI:Inv F c) (ho:c.H[id]? = some (.mp u es)) {b:Nat} (hb:c.mu id=some b) {w':World} (hp:MPut c id b w') {arr:Array MapEntry} {ck:Nat} (hh:c.w.heap[b]? = some (.map arr ck)) {v:Value} {d:D} (h:AV c v d):AV (c.mput id (.mp u es') w') v d:=by
 cases d <;> simp only [AV] at h ⊢ <;> try exact Zfq hI ho hb hp hh h
 ·obtain ⟨vs,h1,h2⟩:=h; exact ⟨vs,h1,h2.mono fun _ _=>Zfq hI ho hb hp hh⟩
 ·obtain ⟨vs,h1,h2⟩:=h; exact ⟨vs,h1,h2.mono fun _ _=>Zfq hI ho hb hp hh⟩
theorem Zmy (hI:Inv F c) (ho:c.H[id]? = some (.mp u es)) {b:Nat} (hb:c.mu id=some b) {w':World} (hp:MPut c id b w') {arr:Array MapEntry} {ck:Nat} (hh:c.w.heap[b]? = some (.map arr ck)) {v:Value} {d:D} (h:TV c v d):TV (c.mput id (.mp u es') w') v d:=by
 cases d <;> simp only [TV] at h ⊢ <;> try exact Zjy hI ho hb hp hh h
 obtain ⟨vs,h1,h2⟩:=h; exact ⟨vs,h1,h2.mono fun _ _=>Zjy hI ho hb hp hh⟩
theorem Zlz (hI:Inv F c) (ho:c.H[id]? = some (.mp u es)) {b:Nat} (hb:c.mu id=some b) {w':World} (hp:MPut c id b w') {arr:Array MapEntry} {ck:Nat} (hh:c.w.heap[b]? = some (.map arr ck))
  (hov:OV (c.mput id (.mp u es') w') (some b) (.mp u es')):Inv F (c.mput id (.mp u es') w'):=by
 have hbl:¬ F.lent b:=fun hl=>by
  obtain ⟨_,cs',T,_,h1,_⟩:=hI.below.shape b hl
  rw [hh] at h1; cases h1
 have hb0:F.w0.heap.size≤b:=(hI.loc id b hb).1.elim (fun h=>h) fun h=>absurd h hbl
 have hidl:=(List.getElem?_eq_some_iff.1 ho).1
 refine ⟨?_,fun k hk=>⟨by show k < w'.heap.size; rw [hp.size]; exact (hI.imm k hk).1,(hI.imm k hk).2⟩,fun i k hk=>?_,hI.inj,fun i q h=>?_,fun i hi=>hI.dom i (by simpa [Ctx.mput] using hi),hI.lent,fun hl=>Zi6 ho (hI.mark hl) (by simp),
  hI.fam.mono (fun i q j k h1 h2=>Gg (fun _=>rfl) h1 h2) (by show _≤w'.heap.size; rw [hp.size]; exact Nat.le_refl _) (fun b _ h=>.inl h) fun i b h=>.inl ⟨i,h⟩⟩
 ·refine ⟨hp.os.trans hI.below.os,hp.tape.trans hI.below.tape,hp.output.trans hI.below.output,by show _≤w'.drawn; rw [hp.drawn]; exact hI.below.drawn,by show _≤w'.heap.size; rw [hp.size]; exact hI.below.size,fun k hk hl=>?_,fun k hl=>?_⟩
  ·show w'.heap[k]? = _
   rw [hp.blk k (by omega)]
   exact hI.below.block k hk hl
  ·obtain ⟨cs0,cs1,T1,h1,h2,h3⟩:=hI.below.shape k hl
   refine ⟨cs0,cs1,T1,h1,?_,h3⟩
   show w'.heap[k]? = _
   rw [hp.blk k fun e=>hbl (e ▸ hl)]
   exact h2
 ·obtain ⟨h1,h2,h3⟩:=hI.loc i k hk
  exact ⟨h1,by show k < w'.heap.size; rw [hp.size]; exact h2,h3⟩
 ·by_cases e:i=id
  ·subst e
   have:q = .mp u es':=by
    simp only [Ctx.mput] at h
    rw [List.getElem?_set_self hidl] at h
    cases h; rfl
   subst this
   have e2:(c.mput i (.mp u es') w').mu i=some b:=hb
   rw [e2]
   exact hov
  ·have hH:c.H[i]? = some q:=by simp only [Ctx.mput] at h; rw [List.getElem?_set_ne (Ne.symm e)] at h; exact h
   have hv:=hI.obj i q hH
   have hne:∀ k,c.mu i=some k→k ≠ b:=fun k hk hkb=>e (hI.inj i id b (hkb ▸ hk) hb)
   show OV (c.mput id (.mp u es') w') (c.mu i) q
   cases q with
   | fam foc is n wd vs ls=>exact RL hv (fun _ _=>Zhp hI hb hp) fun j k e=>hp.blk k fun h=>(hI.fb hH e).2 id (by rw [h]; exact hb)
   | box cells =>
    obtain ⟨k,cs',T',hk,h1,h2⟩:=hv
    exact ⟨k,cs',T',hk,by show w'.heap[k]? = _; rw [hp.blk k (hne k hk)]; exact h1,h2.mono fun _ _=>Zfq hI ho hb hp hh⟩
   | arr wd n f =>
    refine ⟨hv.1,hv.2.imp (fun x=>x) ?_⟩
    rintro ⟨k,cs',T',hk,h1,h2,h3⟩
    exact ⟨k,cs',T',hk,by show w'.heap[k]? = _; rw [hp.blk k (hne k hk)]; exact h1,h2,fun i hi j d hd=>let ⟨v,hv,ho,hp1⟩:=h3 i hi j d hd; ⟨v,hv,ho,Zhp hI hb hp hp1⟩⟩
   | mp x y =>
    obtain ⟨k,a1,ck1,hk,h1,h2⟩:=hv
    exact ⟨k,a1,ck1,hk,by show w'.heap[k]? = _; rw [hp.blk k (hne k hk)]; exact h1,h2⟩
   | gone=>exact hv
end
def OpS (P:Program) (ops:Array Oper) (k:Nat) (s:St) {α:Type} (S:α→St):Prop :=
 ∀ F a w,GF P F→Rel F s a w→∀ (Q:Exit→Act→World→Prop) (l:List Nat),(∀ x a' w',Rel F (S x) a' w'→wpOps P ops Q l a' w')→wpOps P ops Q (k :: l) a w
theorem rgo {P:Program} {Q:Exit→St→Prop} {s:St} {id:Nat} {ops:Array Oper} (k:Nat) (orc1:List Res) (keep1:List Nat) (hn1:Nat) (s1:St) (bs1:List Bool) (rq1:List Req) (hb1:∀ b∈bs1,b=true) (hq1:Reqs P rq1)
  {α:Type} (S2:α→St) (hop:OpS P ops k s1 S2) (orcB:List Res) (keepB:List Nat) (hnB:Nat) (s3:α→St) (bsB:α→List Bool) (rqB:α→List Req) (hbB:∀ x,∀ b∈bsB x,b=true) (hqB:∀ x,Reqs P (rqB x)) (kk:∀ x,Q .normal (s3 x))
  (h1:regTo P ops k orc1 keep1 hn1 s=some (s1,bs1,rq1):=by kernel_rfl) (hB:∀ x,regFrom P ops (k+1) orcB keepB hnB (S2 x)=some (s3 x,bsB x,rqB x):=by intro _; kernel_rfl) (hk:Nat.blt k ops.size=true:=by kernel_rfl):AWP P (.region id ops false) Q s:=by
 intro F a w hG hR
 refine wp_region ?_
 have hk:=XW hk
 have hnd:dstsB ops=true:=by
  unfold regTo at h1
  cases hc:(dstsB ops&&Nat.ble k ops.size) with
  | false=>rw [hc] at h1; cases h1
  | true=>simp only [Bool.and_eq_true] at hc; exact hc.1
 refine (Zi4 h1 hb1 hq1.all (fun a w hR1=>?_) hR).2
 rw [show ops.size - k=(ops.size - (k+1))+1 by omega,List.range'_succ]
 exact hop F a w hG hR1 _ _ fun x a' w' hR2=>K4 hnd (hB x) (hbB x) (hqB x).all (fun a w h=>⟨_,kk x,h⟩) hR2
theorem ZfX {F:Fr} {nt:Nat} {e:List (Nat × D)} {H':List Ob} {a:Act} {c':Ctx} (henv:∀ t,TV c' (a.tmps.getD t undef) (find e t)) (hsz:a.tmps.size=nt) (hd:a.defers=[]) (hI:Inv F c') (hH:c'.H=H') {t:Nat} (ht:t < nt) {v:Value} {d:D} (hv:TV c' v d) :
  Rel F ⟨nt,(t,d) :: e,H'⟩ (a.put (some t) v) c'.w:=by
 refine ⟨c',rfl,hH,hI,fun u=>?_,by rw [G6]; exact hsz,by rw [UQ]; exact hd⟩
 show TV c' _ (find ((t,d) :: e) u)
 simp only [find]
 cases hb:Nat.beq t u with
 | true =>
  obtain rfl:=Nat.eq_of_beq_eq_true hb
  simp only [cond_true]
  rw [WA (by rw [hsz]; exact ht)]
  exact hv
 | false =>
  simp only [cond_false]
  rw [GK (by simpa using Nat.ne_of_beq_eq_false hb)]
  exact henv u
theorem ZlA {P:Program} {ops:Array Oper} {k nt:Nat} {e:List (Nat × D)} {H:List Ob} {t:Nat} {T:TypeId} {o:Oper} (hk:ops[k]? = some o) (hop:o.op = .makeMap T none) (hdst:o.dst=some t) (hg:o.guard=none) (ht:Nat.blt t nt=true) :
  OpS P ops k ⟨nt,e,H⟩ (fun u:Value=>⟨nt,(t,.val u) :: e,H++[.mp u []]⟩):=by
 rintro F a w hG ⟨c,rfl,hH,hI,henv,hsz,hd⟩ Q l hK
 obtain rfl:c.H=H:=hH
 have hw:Region.wanted o (yielded ops a.tmps)=true:=by simp [Region.wanted,hg]
 simp only [wpOps,hk,hw,if_true]
 have hm:More0 c.w (c.w.alloc (.map #[] 0)):=⟨(Bw.refl _ _).alloc (Nat.le_refl _) _,by simp⟩
 refine .inl ?_
 have hrun:(execOp (fun x=>a.eval x) o).run P c.w = .ok (.value (.map (some c.w.heap.size))) (c.w.alloc (.map #[] 0)):=by
  simp [execOp,hop,run_makeMap,Result.andThen]
 unfold Oper.wp
 rw [hrun]
 show wpOps P ops Q l (a.put o.dst _) _
 rw [hdst]
 refine hK (.map (some c.w.heap.size)) _ _ (ZfX (c':=c.made (c.w.alloc (.map #[] 0)) (.mp (.map (some c.w.heap.size)) [])) (fun t=>Zdx hI hm _ (henv t)) hsz hd (Zbn hI hm _ ⟨_,#[],0,rfl,heap_alloc_new _ _,rfl,rfl⟩) rfl (XW ht) ?_)
 simp only [TV,AV,CV]
 exact .val _ rfl
def mpO {α:Type} (u:Value) (cK:α→List D) (l:List (α × Int)):Ob:=.mp u (l.map fun e=>(exA (cK e.1),.int .i64 e.2))
def lkM {α:Type} (q:α→Bool):List (α × Int)→Int × Bool
 | []=>(0,false)
 | e :: l=>bif q e.1 then (e.2,true) else lkM q l
theorem ZfY {α:Type} {cK:α→List D} {q:α→Bool} {p:Value→Bool} (h:∀ x,p (exA (cK x))=q x):∀ l:List (α × Int),findV p (l.map fun e=>(exA (cK e.1),.int .i64 e.2))=bif (lkM q l).2 then some (.int .i64 (lkM q l).1) else none
 | []=>rfl
 | e :: l=>by
  simp only [List.map_cons,findV,lkM,h]
  cases q e.1 with
  | true=>rfl
  | false=>exact ZfY h l
theorem Zjz {α:Type} {cK:α→List D} {l:List (α × Int)} {arr:Array MapEntry} (h:arr.toList.map (fun e=>(e.key,e.val))=l.map fun e=>(exA (cK e.1),Value.int .i64 e.2)) {e:MapEntry} (he:e∈arr.toList):∃ x,e.key=exA (cK x):=by
 have h1:(e.key,e.val)∈l.map fun e=>(exA (cK e.1),Value.int .i64 e.2):=by rw [← h]; exact List.mem_map.2 ⟨e,he,rfl⟩
 obtain ⟨x,_,hx⟩:=List.mem_map.1 h1
 exact ⟨x.1,by have:=congrArg Prod.fst hx; exact this.symm⟩
theorem Zik {α:Type} {q:α→Bool}:∀ l:List (α × Int),(lkM q l).2=false→(lkM q l).1=0
 | [],_=>rfl
 | e :: l,h=>by
  simp only [lkM] at h ⊢
  cases hq:q e.1 with
  | true=>rw [hq] at h; cases h
  | false=>rw [hq] at h; simp only [cond_false] at h ⊢; exact Zik l h
structure KeyT (P:Program) (T kt et:TypeId) {α:Type} (cK:α→List D) (eq:α→α→Bool):Prop where
 map:P.underlying T=some (.map kt et)
 str:∃ fs,P.underlying kt=some (.struct fs)
 size:∃ n,szO P kt=some n∧∀ y,(cK y).length=n
 exB:∀ y,(cK y).all exB=true
 check:∀ em y w,(Instr.checkKey em 10000 kt (exA (cK y))).run P w = .ok () w
 zero:∀ w,(zeroValue et).run P w = .ok (.int .i64 0) w
 eq:∀ x y,typeEq P 40 kt (cK x) (cK y)=some (eq x y)
theorem KeyT.laid {P:Program} {T kt et:TypeId} {α:Type} {cK:α→List D} {eq:α→α→Bool} (K:KeyT P T kt et cK eq) (c:Ctx) (y:α):Laid P c kt (exA (cK y)) (cK y):=by
 obtain ⟨fs,hs⟩:=K.str
 obtain ⟨n,hn,hl⟩:=K.size
 exact .inl ⟨fs,n,_,hs,hn,by rw [hl]; exact Nat.le_refl _,rfl,by rw [← hl y,List.take_length]; exact Zm5 c (K.exB y)⟩
theorem KeyT.equal {P:Program} {T kt et:TypeId} {α:Type} {cK:α→List D} {eq:α→α→Bool} (K:KeyT P T kt et cK eq) (c:Ctx) (x y:α):(Op.equal kt (exA (cK x)) (exA (cK y))).run P c.w = .ok (eq x y) c.w:=by
 have:=(ZkC P c 40).1 _ _ _ _ (K.eq x y) 10000 (by omega) _ _ (K.laid c x) (K.laid c y)
 simpa [Op.equal,Op.maxDepth] using this
noncomputable def keyP {α:Type} (cK:α→List D) (eq:α→α→Bool) (x:α) (v:Value):Bool:=pB (∃ y,v=exA (cK y)∧eq x y=true)
theorem KeyT.keyP_eq {P:Program} {T kt et:TypeId} {α:Type} {cK:α→List D} {eq:α→α→Bool} (K:KeyT P T kt et cK eq) (c:Ctx) (x y:α):keyP cK eq x (exA (cK y))=eq x y:=by
 cases h:eq x y with
 | true=>exact Zlj ⟨y,rfl,h⟩
 | false =>
  cases hp:keyP cK eq x (exA (cK y)) with
  | false=>rfl
  | true =>
   obtain ⟨y',h1,h2⟩:=Zhj.1 hp
   have h3:=K.equal c x y
   have h4:=K.equal c x y'
   rw [← h1,h3,h,h2] at h4
   cases h4
theorem ZgT {c:Ctx} {v:Value} {cs:List D} (hb:cs.all exB=true) (h:TV c v (.agg cs)):v=exA cs:=by
 simp only [TV,AV] at h
 obtain ⟨vs,rfl,h2⟩:=h
 exact Zm6 hb h2
theorem ZlB {c:Ctx} {v u:Value} (h:TV c v (.val u)):v=u:=by
 simp only [TV,AV,CV] at h
 cases h; rfl
theorem ZlC {P:Program} {ops:Array Oper} {k nt:Nat} {e:List (Nat × D)} {H:List Ob} {t tm tx:Nat} {T kt et:TypeId} {o:Oper} {α:Type} {u:Value} {cK:α→List D} {eq:α→α→Bool} {l:List (α × Int)} {id:Nat} (K:KeyT P T kt et cK eq) (key:α)
  (hk:ops[k]? = some o) (hop:o.op = .lookup T (.tmp tm) (.tmp tx) true) (hdst:o.dst=some t) (hg:o.guard=none) (ht:Nat.blt t nt=true) (hm:find e tm = .val u) (hx:find e tx = .agg (cK key)) (hi:H[id]? = some (mpO u cK l)) :
  OpS P ops k ⟨nt,e,H⟩ (fun _:Unit=>⟨nt,(t,.tup [.int .i64 (lkM (eq key) l).1,.bool (lkM (eq key) l).2]) :: e,H⟩):=by
 rintro F a w hG ⟨c,rfl,hH,hI,henv,hsz,hd⟩ Q l' hK
 obtain rfl:c.H=H:=hH
 have hw:Region.wanted o (yielded ops a.tmps)=true:=by simp [Region.wanted,hg]
 have h1:a.eval (.tmp tm)=u:=ZlB (c:=c) (by have:=henv tm; rw [hm] at this; exact this)
 have h2:a.eval (.tmp tx)=exA (cK key):=ZgT (c:=c) (K.exB key) (by have:=henv tx; rw [hx] at this; exact this)
 obtain ⟨b,arr,ck,hb,h3,h4,rfl⟩:=hI.obj id _ hi
 obtain ⟨fs,hs⟩:=K.str
 have hrun:=Zly (p:=keyP cK eq key) (w:=c.w) K.map hs h3 (fun em=>K.check em key c.w) (K.zero c.w) fun en hen=>by
  obtain ⟨y,hy⟩:=Zjz h4 hen
  rw [hy,K.keyP_eq c]
  exact K.equal c key y
 have hfv:findV (keyP cK eq key) (arr.toList.map fun e=>(e.key,e.val))=bif (lkM (eq key) l).2 then some (.int .i64 (lkM (eq key) l).1) else none:=by
  rw [h4]
  exact ZfY (K.keyP_eq c key) l
 rw [hfv] at hrun
 have hres:(Value.tuple #[(bif (lkM (eq key) l).2 then some (Value.int .i64 (lkM (eq key) l).1) else none).getD (.int .i64 0),.bool (bif (lkM (eq key) l).2 then some (Value.int .i64 (lkM (eq key) l).1) else none).isSome]) = .tuple #[.int .i64 (lkM (eq key) l).1,.bool (lkM (eq key) l).2]:=by
  cases hq:(lkM (eq key) l).2 with
  | true=>rfl
  | false=>rw [Zik l hq]; rfl
 rw [hres] at hrun
 simp only [wpOps,hk,hw,if_true]
 refine .inl ?_
 have hex:(execOp (fun x=>a.eval x) o).run P c.w = .ok (.value (.tuple #[.int .i64 (lkM (eq key) l).1,.bool (lkM (eq key) l).2])) c.w:=by
  simp [execOp,hop,h1,h2,hrun,Result.andThen]
 unfold Oper.wp
 rw [hex]
 show wpOps P ops Q l' (a.put o.dst _) _
 rw [hdst]
 refine hK () _ _ (ZfX (c':=c) henv hsz hd hI rfl (XW ht) ⟨_,rfl,rfl,fun i v d g1 g2=>?_⟩)
 match i with
 | 0=>simp at g1 g2; subst g1; subst g2; exact .int _ _
 | 1=>simp at g1 g2; subst g1; subst g2; exact .bool _
 | n+2=>simp at g1
theorem Zmz {P:Program} {ops:Array Oper} {k nt:Nat} {e:List (Nat × D)} {H:List Ob} {tm tx tv:Nat} {T kt et:TypeId} {o:Oper} {α:Type} {u:Value} {cK:α→List D} {eq:α→α→Bool} {l:List (α × Int)} {id:Nat} (K:KeyT P T kt et cK eq) (key:α) (n:Int)
  (hk:ops[k]? = some o) (hop:o.op = .mapUpdate T (.tmp tm) (.tmp tx) (.tmp tv)) (hdst:o.dst=none) (hg:o.guard=none) (hm:find e tm = .val u) (hx:find e tx = .agg (cK key)) (hv:find e tv = .int .i64 n) (hi:H[id]? = some (mpO u cK l)) (hno:(lkM (eq key) l).2=false) :
  OpS P ops k ⟨nt,e,H⟩ (fun _:Unit=>⟨nt,e,H.set id (mpO u cK (l++[(key,n)]))⟩):=by
 rintro F a w hG ⟨c,rfl,hH,hI,henv,hsz,hd⟩ Q l' hK
 obtain rfl:c.H=H:=hH
 have hw:Region.wanted o (yielded ops a.tmps)=true:=by simp [Region.wanted,hg]
 have h1:a.eval (.tmp tm)=u:=ZlB (c:=c) (by have:=henv tm; rw [hm] at this; exact this)
 have h2:a.eval (.tmp tx)=exA (cK key):=ZgT (c:=c) (K.exB key) (by have:=henv tx; rw [hx] at this; exact this)
 have h2v:a.eval (.tmp tv) = .int .i64 n:=by have:=henv tv; rw [hv] at this; exact this.int_inv
 obtain ⟨b,arr,ck,hb,h3,h4,rfl⟩:=hI.obj id _ hi
 obtain ⟨fs,hs⟩:=K.str
 have hfv:findV (keyP cK eq key) (arr.toList.map fun e=>(e.key,e.val))=none:=by
  rw [h4,ZfY (K.keyP_eq c key) l,hno]
  rfl
 have hrun:=Zi5 (p:=keyP cK eq key) (w:=c.w) (v:=.int .i64 n) K.map hs h3 (fun em=>K.check em key c.w) (fun en hen=>by
  obtain ⟨y,hy⟩:=Zjz h4 hen
  rw [hy,K.keyP_eq c]
  exact K.equal c key y) hfv
 have hp:MPut c id b (ChangeMaps.setBlock c.w b (.map (arr.push ⟨exA (cK key),.int .i64 n,ck⟩) (ck+1))) :=
  ⟨rfl,rfl,rfl,rfl,by simp [ChangeMaps.setBlock],fun k hk=>ChangeMaps.heap_setBlock_other h3 _ hk⟩
 have hI':=Zlz (es':=(l++[(key,n)]).map fun e=>(exA (cK e.1),Value.int .i64 e.2)) hI hi hb hp h3 ⟨b,_,_,rfl,ChangeMaps.heap_setBlock_same h3 _,by simp [h4],rfl⟩
 simp only [wpOps,hk,hw,if_true]
 refine .inl ?_
 have hex:(execOp (fun x=>a.eval x) o).run P c.w = .ok .skip (ChangeMaps.setBlock c.w b (.map (arr.push ⟨exA (cK key),.int .i64 n,ck⟩) (ck+1))):=by
  simp [execOp,hop,h1,h2,h2v,hrun,Result.andThen]
 unfold Oper.wp
 rw [hex]
 show wpOps P ops Q l' (a.put o.dst _) _
 rw [hdst]
 exact hK () _ _ ⟨_,rfl,rfl,hI',fun t=>Zmy hI hi hb hp h3 (henv t),hsz,hd⟩
end Nv
namespace Nv
open Go Go.RowKit
theorem Znm {α:Type} [Inhabited α] {c:α→List D} {f:Nat→List D} {x:α} (h:f 0=c x):∀ i,i < 1→f i=c (([x]:List α).getD i default):=fun i hi=>by
 obtain rfl:i=0:=by omega
 exact h
theorem Zj7 {α:Type} [Inhabited α] {c:α→List D} {f:Nat→List D} {x:α} (h:PsSub (f 0) (c x)):∀ i,i < 1→PsSub (f i) (c (([x]:List α).getD i default)):=fun i hi=>by
 obtain rfl:i=0:=by omega
 exact h
theorem Zi7 {full:Bool} {wd wd':Nat} {f g:Nat→List D}:PSub (.sl full wd 0 f) (.sl false wd' 0 g):=fun I w v h=>by
 cases h with
 | sl a n cap wd full f g hfull hcap hb hw hone hv=>exact .sl a 0 cap wd' false _ (fun _ _=>undef) (fun h=>by cases h) hcap (fun hn=>by omega) (fun i hi=>by omega) (fun i hi=>by omega) fun i hi=>by omega
theorem Zm7 {c:Ctx} {a:Act} {e:List (Nat × D)} (henv:∀ t,TV c (a.tmps.getD t undef) (find e t)) (x:Operand):TV c (a.eval x) (evD e x):=by
 cases x with
 | tmp t=>exact henv t
 | const v=>exact Zbk c v
 | global g=>exact WS
 | func f=>exact ⟨#[],rfl,rfl,fun i v d h1 _=>by simp at h1⟩
theorem ZmA {P:Program} {ops:Array Oper} {k nt:Nat} {e:List (Nat × D)} {H:List Ob} {t:Nat} {T:TypeId} {len:Nat} {ps:Array (Nat × Operand)} {o:Oper} {sz:Nat} {f:Nat→List D} (hk:ops[k]? = some o) (hop:o.op = .buildSlice T len ps) (hdst:o.dst=some t) (hg:o.guard=none) (ht:Nat.blt t nt=true)
  (h:buildSliceD P T len (ps.toList.map fun p=>(p.1,evD e p.2))=some (.sl true sz len f)) :
  OpS P ops k ⟨nt,e,H⟩ (fun _:Unit=>⟨nt,(t,.asl H.length 0 len) :: e,H++[.arr sz len f]⟩):=by
 rintro F a w hG ⟨c,rfl,hH,hI,henv,hsz0,hd⟩ Q l hK
 obtain rfl:c.H=H:=hH
 have hw:Region.wanted o (yielded ops a.tmps)=true:=by simp [Region.wanted,hg]
 simp only [wpOps,hk,hw,if_true]
 refine .inl ?_
 have hρ:∀ p∈ps.toList,TV c (a.eval p.2) (evD e p.2):=fun p _=>Zm7 henv p.2
 unfold buildSliceD at h
 split at h <;> try cases h
 rename_i te hu
 split at h <;> try cases h
 rename_i sz' zs hs hz
 cases hszb:(Nat.ble (len*sz') 16777216&&Nat.beq zs.length sz') with
 | false=>rw [hszb] at h; cases h
 | true =>
  simp only [hszb,cond_true] at h
  simp at hszb
  obtain ⟨hle,hzl⟩:=hszb
  split at h <;> try cases h
  rename_i out ho
  cases hp:out.all (fun d=>persB d&&cellB d) with
  | false=>simp [hp] at h
  | true =>
   simp only [hp,cond_true,Option.some.injEq,D.sl.injEq,true_and] at h
   obtain ⟨rfl,rfl⟩:=h
   obtain ⟨z,hz1,hz2⟩:=KX hz c
   have hzs:z.cells.size=sz':=by rw [hz2.1,hzl]
   let base:Array Value:=(Array.range (len*sz')).map fun i=>(if len*sz'=0 then (#[]:Array Value) else z.cells)[i % (if len*sz'=0 then (#[]:Array Value) else z.cells).size]!
   have hbase:Vs (CV c) base (List.replicate (len*sz') .any):=by
    refine ⟨by simp [base],fun i v d _ h2=>?_⟩
    rw [List.getElem?_replicate] at h2
    split at h2 <;> simp only [Option.some.injEq,reduceCtorEq] at h2
    subst h2
    simp only [CV]
    exact .any v
   obtain ⟨vs',h1,h2⟩:=Zdu (fun i=>some (i*sz',sz')) (fun x=>a.eval x) (fun x=>evD e x) ps.toList _ base out hρ hbase ho
   have hol:out.length=len*sz':=by rw [Zei _ _ _ _ ho]; simp
   have hvl:vs'.size=len*sz':=by rw [h2.1,hol]
   have hm:More c.w (c.w.alloc (.cells vs' te)) vs' te:=⟨⟨(Bw.refl _ _).alloc (Nat.le_refl _) _,by simp⟩,heap_alloc_new _ _⟩
   have hrun:(execOp (fun x=>a.eval x) o).run P c.w = .ok (.value (.slice (some ⟨c.w.heap.size,0,none⟩) len len)) (c.w.alloc (.cells vs' te)):=by
    have hn:¬ len*sz' > 2 ^ 24:=by omega
    have hff:Instr.fill (fun i=>some (i*sz',sz')) base (ps.map fun p=>(p.1,a.eval p.2)).toList=some vs':=by rw [Array.toList_map]; exact h1
    have hi:(Instr.buildSlice T len (ps.map fun p=>(p.1,a.eval p.2))).run P c.w = .ok (.slice (some ⟨c.w.heap.size,0,none⟩) len len) (c.w.alloc (.cells vs' te)):=by
     by_cases h0:len*sz'=0
     ·simp only [base,if_pos h0] at hff
      simp only [Instr.buildSlice,Sem.run_bind,run_underlying hu,Result.andThen_ok,Ur hs,if_neg hn,if_pos h0,Sem.run_pure,hff,newRow,run_newObj]
      rfl
     ·simp only [base,if_neg h0] at hff
      simp only [Instr.buildSlice,Sem.run_bind,run_underlying hu,Result.andThen_ok,Ur hs,if_neg hn,if_neg h0,Sem.run_pure,hz1,hff,newRow,run_newObj]
      rfl
    simp [execOp,hop,hi]
   unfold Oper.wp
   rw [hrun]
   show wpOps P ops Q l (a.put o.dst _) _
   rw [hdst]
   have hlen:∀ i,i < len→((out.drop (i*sz')).take sz').length=sz':=fun i hi=>by
    have:=Nat.mul_le_mul_right sz' hi
    rw [Nat.succ_mul] at this
    simp [hol]; omega
   have hOV:OV (c.made (c.w.alloc (.cells vs' te)) (.arr sz' len fun i=>(out.drop (i*sz')).take sz')) (some c.w.heap.size) (.arr sz' len fun i=>(out.drop (i*sz')).take sz'):=by
    refine ⟨hlen,.inr ⟨_,vs',te,rfl,hm.new,by omega,fun i hi j d hd=>?_⟩⟩
    have hlt:=(List.getElem?_eq_some_iff.1 hd).1
    simp at hlt
    rw [List.getElem?_take_of_lt (by omega),List.getElem?_drop] at hd
    have hlt2:i*sz'+j < vs'.size:=by rw [h2.1]; omega
    have h3:=h2.2 (i*sz'+j) (vs'.getD (i*sz'+j) undef) d (by simp [hlt2]) hd
    have hmem:=List.all_eq_true.1 hp d (List.mem_of_getElem? hd)
    simp only [Bool.and_eq_true] at hmem
    refine ⟨vs'.getD (i*sz'+j) undef,by simp [hlt2],Zbm hmem.2 h3,(Kt hmem.1 h3).mono (fun _ h=>h) fun b hb=>?_⟩
    exact Below.heap_alloc _ _ _ (hI.imm b hb).1
   refine hK () _ _ (ZfX (c':=c.made (c.w.alloc (.cells vs' te)) (.arr sz' len fun i=>(out.drop (i*sz')).take sz')) (fun t=>Zdx hI hm.toMore0 _ (henv t)) hsz0 hd (Zbn hI hm.toMore0 _ hOV) rfl (XW ht) ?_)
   simp only [TV,AV,CV]
   refine ⟨sz',len,fun i=>(out.drop (i*sz')).take sz',some ⟨c.w.heap.size,0,none⟩,len,by simp [Ctx.made],by omega,rfl,Nat.le_refl _,.inr ⟨c.w.heap.size,by simp [Ctx.made],by simp,vs',te,hm.new,by rw [Nat.zero_add]; omega⟩⟩
end Nv
namespace Nv
open Go Go.RowKit
theorem Zc8 {j k:Nat} (h:j ≠ k):Nat.beq j k=false:=by
 cases hb:Nat.beq j k with
 | false=>rfl
 | true=>exact absurd (Nat.eq_of_beq_eq_true hb) h
def NilS:Type:={ u:Value // ∃ ad,u=Value.slice ad 0 0 }
theorem ZfZ {nt:Nat} {e:List (Nat × D)} {H:List Ob} (id k j:Nat) {wd n w1:Nat} {f g:Nat→List D} (ho:H[id]? = some (.arr wd n f)) (hk:k < n) (hd:(f k)[j]? = some (.sl true w1 0 g)) :
  LeE ⟨nt,e,H⟩ fun u:NilS=>⟨nt,e,H.set id (.arr wd n fun i=>bif Nat.beq i k then (f k).set j (.val u.1) else f i)⟩:=by
 rintro F a w ⟨c,rfl,hH,hI,henv,hsz,hdf⟩
 obtain rfl:c.H=H:=hH
 have hov:=hI.obj id _ ho
 obtain ⟨b,cs,T,h1,h2,h3,h4⟩:=hov.2.resolve_left fun h=>by omega
 obtain ⟨v,h5,h6,h7⟩:=h4 k hk j _ hd
 obtain ⟨ad,rfl⟩:∃ ad,v = .slice ad 0 0:=by
  cases h7 with
  | sl ad _ cap _ _ _ _ hfull=>rw [hfull rfl]; exact ⟨ad,rfl⟩
 have hs:∀ wd' n' f0,Ob.arr wd n f = .arr wd' n' f0→∃ f1,Ob.arr wd n (fun i=>bif Nat.beq i k then (f k).set j (.val (.slice ad 0 0)) else f i) = .arr wd' n' f1:=fun wd' n' f0 h=>by cases h; exact ⟨_,rfl⟩
 refine ⟨⟨.slice ad 0 0,ad,rfl⟩,c.seen id _,rfl,rfl,Ky hI ho (by simp) hs (fun h=>⟨fun i hi=>?_,.inr ⟨b,cs,T,h1,h2,h3,fun i hi q d hq=>?_⟩⟩) (hI.fam.mono (fun i o jj b h1 h2=>Gg (fun _=>rfl) h1 h2) (Nat.le_refl _) (fun b _ h=>.inl h) fun i b h=>.inl ⟨i,h⟩),fun t=>RA ho hs (henv t),hsz,hdf⟩
 ·show (bif Nat.beq i k then (f k).set j (.val (.slice ad 0 0)) else f i).length=wd
  by_cases e:i=k
  ·subst e; rw [Nat.beq_refl]; simp only [cond_true,List.length_set]; exact h.1 i hi
  ·rw [Zc8 e]; exact h.1 i hi
 ·have hq:(bif Nat.beq i k then (f k).set j (.val (.slice ad 0 0)) else f i)[q]? = some d:=hq
  by_cases e:i=k
  ·subst e
   rw [Nat.beq_refl] at hq
   simp only [cond_true] at hq
   by_cases e:q=j
   ·subst e
    rw [List.getElem?_set_self (List.getElem?_eq_some_iff.1 hd).1] at hq
    cases hq
    exact ⟨_,h5,h6,.val _ h6⟩
   ·rw [List.getElem?_set_ne (Ne.symm e)] at hq
    exact h4 i hi q d hq
  ·rw [Zc8 e] at hq; exact h4 i hi q d hq
theorem Zfr {f g:Nat→List D} {n j:Nat} (h:j < n):app f n g j=f j:=by
 unfold app
 rw [show Nat.blt j n=true from Nat.ble_eq_true_of_le h]
 rfl
theorem ZlD {f g:Nat→List D} {n j:Nat} (h:n≤j):app f n g j=g (j - n):=by
 unfold app
 rw [show Nat.blt j n=false by (cases hb:Nat.blt j n with | false=>rfl | true=>exact absurd (XW hb) (by omega))]
 rfl
theorem ZlE {f g:Nat→List D} {n:Nat}:app f n g n=g 0:=by
 unfold app
 rw [show Nat.blt n n=false by (cases hb:Nat.blt n n with | false=>rfl | true=>exact absurd (XW hb) (Nat.lt_irrefl _)),Nat.sub_self]
 rfl
section
variable {α β:Type} [Inhabited α] [Inhabited β]
def rA (wd:Nat) (hd:α→List D) (l:List α) (vs:Nat→Value):Ob:=.arr wd l.length fun j=>hd (l.getD j default)++[.val (vs j)]
def rls (c:β→List D) (tl:α→List β) (l:List α) (j:Nat):Nat × (Nat→List D):=((tl (l.getD j default)).length,fun i=>c ((tl (l.getD j default)).getD i default))
def rF (wd:Nat) (c:β→List D) (tl:α→List β) (l:List α) (vs:Nat→Value):Ob:=.fam 0 (fun _=>false) l.length wd vs (rls c tl l)
theorem Zhq {nt:Nat} {e:List (Nat × D)} {H:List Ob} (id wd n n':Nat) (f f':Nat→List D) (ho:H[id]? = some (.arr wd n f)) (hn:n=n') (h:∀ i,i < n→f i=f' i):Le ⟨nt,e,H⟩ ⟨nt,e,H.set id (.arr wd n' f')⟩:=by
 subst hn
 exact Zmu id wd n f f' ho (fun i hi=>by rw [h i hi]) fun i hi j d' hd=>⟨d',by rw [h i hi]; exact hd,fun _ _ _ h=>h⟩
theorem Zj8 {nt:Nat} {e:List (Nat × D)} {H:List Ob} (ida idf:Nat) {wd wi w1:Nat} (hd:α→List D) (c:β→List D) (tl:α→List β) (l:List α) (x:α) (vs:Nat→Value) {f g:Nat→List D} (hne:ida ≠ idf) (hx:tl x=[])
  (ha:H[ida]? = some (.arr wd (l.length+1) f)) (hf:H[idf]? = some (rF wi c tl l vs)) (hold:∀ j,j < l.length→f j=hd (l.getD j default)++[.val (vs j)]) (hnew:f l.length=hd x++[.sl true w1 0 g]) :
  LeE ⟨nt,e,H⟩ fun u:NilS=>⟨nt,e,(H.set ida (rA wd hd (l++[x]) (updV vs l.length u.1))).set idf (rF wi c tl (l++[x]) (updV vs l.length u.1))⟩:=by
 refine LeE.then (ZfZ (w1:=w1) (g:=g) ida l.length (hd x).length ha (by omega) (by rw [hnew]; simp)) fun u=>LeE.of u ?_
 have hia:=(List.getElem?_eq_some_iff.1 ha).1
 have hold1:∀ j,j < l.length→(l++[x]).getD j default=l.getD j default:=fun j hj=>by simp [List.getElem?_append_left hj]
 refine Le.trans (Zhq ida wd (l.length+1) (l++[x]).length _ (fun j=>hd ((l++[x]).getD j default)++[.val (updV vs l.length u.1 j)]) (List.getElem?_set_self hia) (by simp) fun j hj=>?_) ?_
 ·by_cases h:j=l.length
  ·subst h
   rw [Nat.beq_refl,UD,hnew]
   simp
  ·rw [Zc8 h,G5 h,hold1 j (by omega)]
   exact hold j (by omega)
 rw [List.set_set]
 refine ZdI (idf:=idf) (H:=H.set ida (rA wd hd (l++[x]) (updV vs l.length u.1))) (by rw [List.getElem?_set_ne hne]; exact hf) (l++[x]).length (updV vs l.length u.1) (rls c tl (l++[x])) (fun j=>j) (fun j hj=>?_) (fun i j _ _ _ _ h=>h)
 rw [List.length_append,List.length_singleton] at hj
 by_cases h:j=l.length
 ·subst h
  refine .inl ⟨?_,?_⟩
  ·rw [UD]; exact u.2
  ·simp [rls,hx]
 ·have hj':j < l.length:=by omega
  refine .inr ⟨hj',G5 h,?_,fun i hi=>?_⟩
  ·simp only [rls,hold1 j hj']
  ·simp only [rls,hold1 j hj']
theorem ZjA {nt:Nat} {e:List (Nat × D)} {H:List Ob} (ida idf:Nat) {wd wi:Nat} (hd:α→List D) (c:β→List D) (tl:α→List β) (l:List α) (x:α) (vs:Nat→Value) (k:Nat) (u:Value) (m:Nat) (g:Nat→List D) (ls1:Nat→Nat × (Nat→List D)) (vs1:Nat→Value) (f:Nat→List D) (hne:ida ≠ idf)
  (ha:H[ida]? = some (.arr wd l.length f)) (hf:H[idf]? = some (.fam 0 (fun _=>false) l.length wi (updV vs1 k u) (updL ls1 k (m,g)))) (hfo:∀ j,j < l.length→j ≠ k→f j=hd (l.getD j default)++[.val (vs j)]) (hfk:k < l.length→f k=hd x++[.val u])
  (hvs:∀ j,j ≠ k→vs1 j=vs j) (hls:∀ j,j ≠ k→ls1 j=rls c tl l j) (hm:m=(tl x).length) (hg:∀ i,i < m→g i=c ((tl x).getD i default)) :
  Le ⟨nt,e,H⟩ ⟨nt,e,(H.set ida (rA wd hd (l.set k x) (updV vs k u))).set idf (rF wi c tl (l.set k x) (updV vs k u))⟩:=by
 have hia:=(List.getElem?_eq_some_iff.1 ha).1
 have hk:∀ j,j < l.length→j=k→(l.set k x).getD j default=x:=fun j hj h=>by subst h; simp [hj]
 have hnk:∀ j,j ≠ k→(l.set k x).getD j default=l.getD j default:=fun j h=>by simp [List.getElem?_set_ne (Ne.symm h)]
 refine Le.trans (Zhq ida wd l.length (l.set k x).length f (fun j=>hd ((l.set k x).getD j default)++[.val (updV vs k u j)]) ha (by simp) fun j hj=>?_) ?_
 ·by_cases h:j=k
  ·rw [hk j hj h,h,UD]; exact hfk (h ▸ hj)
  ·rw [hnk j h,G5 h]; exact hfo j hj h
 refine ZdI (idf:=idf) (H:=H.set ida (rA wd hd (l.set k x) (updV vs k u))) (by rw [List.getElem?_set_ne hne]; exact hf) (l.set k x).length (updV vs k u) (rls c tl (l.set k x)) (fun j=>j) (fun j hj=>.inr ?_) (fun i j _ _ _ _ h=>h)
 rw [List.length_set] at hj
 refine ⟨hj,?_,?_,fun i hi=>?_⟩
 ·by_cases h:j=k
  ·subst h; rw [UD,UD]
  ·rw [G5 h,G5 h,hvs j h]
 ·by_cases h:j=k
  ·simp only [rls,hk j hj h]; rw [h,Zcd]; exact hm.symm
  ·rw [Zce h,hls j h]; simp only [rls,hnk j h]
 ·by_cases h:j=k
  ·simp only [rls,hk j hj h] at hi ⊢; rw [h,Zcd]; exact (hg i (by omega)).symm
  ·rw [Zce h,hls j h]; simp only [rls,hnk j h]
theorem ZjB {nt:Nat} {e:List (Nat × D)} {H:List Ob} (ida idf:Nat) {wd wi:Nat} (hd:α→List D) (c:β→List D) (tl:α→List β) (cr:α→List D) (l:List α) (vs:Nat→Value) (ha:H[ida]? = some (rA wd hd l vs)) (hf:H[idf]? = some (rF wi c tl l vs)) (hcr:∀ x,cr x=hd x++[sL wi c (tl x)]) :
  Le ⟨nt,e,H⟩ ⟨nt,e,(H.set idf (.fam 0 (fun _=>false) 0 wi vs (rls c tl l))).set ida (aL wd cr l)⟩ :=
 ZmY (idf:=idf) hf ida wd l.length _ (fun i=>cr (l.getD i default)) ha (fun i _=>by rw [hcr]; simp) fun i hi j d' hd'=>by
  rw [hcr] at hd'
  rcases Nat.lt_trichotomy j (hd (l.getD i default)).length with h | h | h
  ·rw [List.getElem?_append_left h] at hd'
   exact ⟨d',by rw [List.getElem?_append_left h]; exact hd',.inl rfl⟩
  ·subst h
   rw [List.getElem?_append_right (Nat.le_refl _),Nat.sub_self] at hd'
   simp at hd'
   subst hd'
   exact ⟨.val (vs i),by rw [List.getElem?_append_right (Nat.le_refl _),Nat.sub_self]; rfl,.inr ⟨i,hi,rfl,rfl⟩⟩
  ·rw [List.getElem?_append_right (by omega)] at hd'
   have:j - (hd (l.getD i default)).length=(j - (hd (l.getD i default)).length - 1)+1:=by omega
   rw [this] at hd'
   simp at hd'
theorem Zil {nt:Nat} {e:List (Nat × D)} {H:List Ob} {wd wi:Nat} (hd:α→List D) (c:β→List D) (tl:α→List β) (f:Nat→List D) :
  Le ⟨nt,e,H++[.arr wd 0 f]⟩ ⟨nt,e,H++[rA wd hd ([]:List α) (fun _=>nilV),rF wi c tl ([]:List α) (fun _=>nilV)]⟩:=by
 refine Le.trans (Zhq H.length wd 0 ([]:List α).length f (fun j=>hd (([]:List α).getD j default)++[.val nilV]) (by simp) rfl fun j hj=>by omega) ?_
 have e1:(H++[Ob.arr wd 0 f]).set H.length (Ob.arr wd ([]:List α).length fun j=>hd (([]:List α).getD j default)++[D.val nilV])=H++[rA wd hd ([]:List α) (fun _=>nilV)]:=by
  rw [List.set_append_right _ _ (Nat.le_refl _),Nat.sub_self]; rfl
 rw [e1]
 refine Le.trans (Zmv 0 wi fun _=>[]) ?_
 refine Le.trans (ZdI (idf:=H.length+1) (n:=0) (foc:=0) (is:=fun _=>false) (wd:=wi) (vs:=fun _=>nilV) (ls:=fun _=>(0,fun _=>[])) (by simp) 0 (fun _=>nilV) (rls c tl ([]:List α)) (fun j=>j) (fun j hj=>by omega) (fun i j hi=>by omega)) ?_
 have e2:((H++[rA wd hd ([]:List α) (fun _=>nilV)]++[Ob.fam 0 (fun _=>false) 0 wi (fun _=>nilV) fun _=>(0,fun _=>[])]).set (H.length+1) (.fam 0 (fun _=>false) 0 wi (fun _=>nilV) (rls c tl ([]:List α))))=H++[rA wd hd ([]:List α) (fun _=>nilV),rF wi c tl ([]:List α) (fun _=>nilV)]:=by
  rw [List.set_append_right _ _ (by simp)]
  simp [rF]
 rw [e2]
 exact U6
def insL (l:List α) (k:Nat) (x:α):List α:=(l.take k++[x])++l.drop k
def insV (vs:Nat→Value) (k:Nat) (u:Value) (j:Nat):Value:=if j < k then vs j else if j=k then u else vs (j - 1)
omit [Inhabited α] in
theorem ZdJ {l:List α} {k:Nat} {x:α} (hk:k≤l.length):(insL l k x).length=l.length+1:=by
 simp [insL,List.length_take]; omega
theorem Zhr {l:List α} {k:Nat} {x:α} (hk:k≤l.length) {j:Nat} (h:j < k):(insL l k x).getD j default=l.getD j default:=by
 have h1:(l.take k).length=k:=by simp; omega
 simp only [insL,List.getD_eq_getElem?_getD]
 rw [List.getElem?_append_left (by simp; omega),List.getElem?_append_left (by omega),List.getElem?_take_of_lt h]
theorem Zfs {l:List α} {k:Nat} {x:α} (hk:k≤l.length):(insL l k x).getD k default=x:=by
 have h1:(l.take k).length=k:=by simp; omega
 simp only [insL,List.getD_eq_getElem?_getD]
 rw [List.getElem?_append_left (by simp; omega),List.getElem?_append_right (by omega),h1,Nat.sub_self]
 rfl
theorem Zhs {l:List α} {k:Nat} {x:α} (hk:k≤l.length) {j:Nat} (h:k < j):(insL l k x).getD j default=l.getD (j - 1) default:=by
 have h1:(l.take k++[x]).length=k+1:=by simp; omega
 simp only [insL,List.getD_eq_getElem?_getD]
 rw [List.getElem?_append_right (by omega),h1,List.getElem?_drop]
 congr 2; omega
theorem ZlF {nt:Nat} {e:List (Nat × D)} {H:List Ob} (ida idf:Nat) {wd wi w1 n:Nat} (hd:α→List D) (c:β→List D) (tl:α→List β) (l:List α) (k:Nat) (x:α) (vs:Nat→Value) {f g:Nat→List D} (hne:ida ≠ idf) (hk:k≤l.length) (hn:n=l.length+1) (hx:tl x=[])
  (ha:H[ida]? = some (.arr wd n f)) (hf:H[idf]? = some (rF wi c tl l vs)) (hlo:∀ j,j < k→f j=hd (l.getD j default)++[.val (vs j)]) (hat:f k=hd x++[.sl true w1 0 g]) (hhi:∀ j,k < j→j < l.length+1→f j=hd (l.getD (j - 1) default)++[.val (vs (j - 1))]) :
  LeE ⟨nt,e,H⟩ fun u:NilS=>⟨nt,e,(H.set ida (rA wd hd (insL l k x) (insV vs k u.1))).set idf (rF wi c tl (insL l k x) (insV vs k u.1))⟩:=by
 subst hn
 refine LeE.then (ZfZ (w1:=w1) (g:=g) ida k (hd x).length ha (by omega) (by rw [hat]; simp)) fun u=>LeE.of u ?_
 have hia:=(List.getElem?_eq_some_iff.1 ha).1
 refine Le.trans (Zhq ida wd (l.length+1) (insL l k x).length _ (fun j=>hd ((insL l k x).getD j default)++[.val (insV vs k u.1 j)]) (List.getElem?_set_self hia) (ZdJ hk).symm fun j hj=>?_) ?_
 ·rcases Nat.lt_trichotomy j k with h | h | h
  ·rw [Zc8 (by omega),Zhr hk h]
   unfold insV
   rw [if_pos h]
   exact hlo j h
  ·subst h
   rw [Nat.beq_refl,Zfs hk,hat]
   unfold insV
   rw [if_neg (Nat.lt_irrefl _),if_pos rfl]
   simp
  ·rw [Zc8 (by omega),Zhs hk h]
   unfold insV
   rw [if_neg (by omega),if_neg (by omega)]
   exact hhi j h hj
 rw [List.set_set]
 refine ZdI (idf:=idf) (H:=H.set ida (rA wd hd (insL l k x) (insV vs k u.1))) (by rw [List.getElem?_set_ne hne]; exact hf) (insL l k x).length (insV vs k u.1) (rls c tl (insL l k x)) (fun j=>if j < k then j else j - 1) (fun j hj=>?_) (fun i j hi hj hbi hbj h=>?_)
 ·rw [ZdJ hk] at hj
  rcases Nat.lt_trichotomy j k with h | h | h
  ·refine .inr ⟨?_,?_,?_,fun i hi=>?_⟩
   ·rw [if_pos h]; omega
   ·unfold insV; rw [if_pos h,if_pos h]
   ·rw [if_pos h]; simp only [rls,Zhr hk h]
   ·rw [if_pos h]; simp only [rls,Zhr hk h]
  ·subst h
   refine .inl ⟨?_,?_⟩
   ·unfold insV; rw [if_neg (Nat.lt_irrefl _),if_pos rfl]; exact u.2
   ·simp only [rls,Zfs hk,hx]; rfl
  ·have h':¬ j < k:=by omega
   refine .inr ⟨?_,?_,?_,fun i hi=>?_⟩
   ·rw [if_neg h']; omega
   ·unfold insV; rw [if_neg h',if_neg h',if_neg (by omega)]
   ·rw [if_neg h']; simp only [rls,Zhs hk h]
   ·rw [if_neg h']; simp only [rls,Zhs hk h]
 ·have nk:∀ q,blkOf (insV vs k u.1 q) ≠ none→q ≠ k:=fun q hq e=>by
   subst e
   obtain ⟨ad,hu⟩:=u.2
   apply hq
   unfold insV
   rw [if_neg (Nat.lt_irrefl _),if_pos rfl,hu]
   cases ad <;> simp [blkOf]
  have:=nk i hbi
  have:=nk j hbj
  split at h <;> split at h <;> omega
end
end Nv
namespace Nv
open Go Go.RowKit
theorem K7 {i o n n':Nat} (h:n=n'):CSub (.asl i o n) (.asl i o n'):=h ▸ CSub.rfl
theorem Zf0 {nt:Nat} {e:List (Nat × D)} {H:List Ob} (id q:Nat) {cells:List D} {wd:Nat} {f:Nat→List D} (ho:H[id]? = some (.box cells)) (hq:cells[q]? = some (.sl true wd 0 f)) (wd':Nat) (g:Nat→List D) :
  Le ⟨nt,e,H⟩ ⟨nt,e,(H++[Ob.arr wd' 0 g]).set id (Ob.box (cells.set q (D.asl H.length 0 0)))⟩:=by
 rintro F a w ⟨c,rfl,hH,hI,henv,hsz,hd⟩
 obtain rfl:c.H=H:=hH
 have hI1:Inv F (c.made0 (.arr wd' 0 g)):=Zcc hI wd' g
 have hid:=(List.getElem?_eq_some_iff.1 ho).1
 have ho1:(c.made0 (.arr wd' 0 g)).H[id]? = some (.box cells):=by
  show (c.H++[Ob.arr wd' 0 g])[id]? = _
  rw [List.getElem?_append_left hid]; exact ho
 refine ⟨(c.made0 (.arr wd' 0 g)).seen id (.box (cells.set q (.asl c.H.length 0 0))),rfl,rfl,Ky hI1 ho1 (by simp) (by simp) (fun h=>?_) (hI1.fam.mono (fun i o jj b h1 h2=>Gg (fun _=>rfl) h1 h2) (Nat.le_refl _) (fun b _ h=>.inl h) fun i b h=>.inl ⟨i,h⟩),fun t=>RA ho1 (by simp) (Zbr _ (henv t)),hsz,hd⟩
 obtain ⟨b,cs,T,h1,h2,h3⟩:=h
 refine ⟨b,cs,T,h1,h2,by rw [h3.1]; simp,fun i v d g1 g2=>?_⟩
 by_cases e:i=q
 ·subst e
  rw [List.getElem?_set_self (List.getElem?_eq_some_iff.1 hq).1] at g2
  cases g2
  have h4:=h3.2 i v _ g1 hq
  simp only [CV] at h4 ⊢
  cases h4 with
  | sl x n cap wd full f g0 hfull =>
   refine ⟨wd',0,g,x,0,?_,Nat.le_refl _,by rw [hfull rfl],Nat.le_refl _,.inl rfl⟩
   show ((c.H++[Ob.arr wd' 0 g]).set id _)[c.H.length]? = _
   rw [List.getElem?_set_ne (by omega),List.getElem?_append_right (Nat.le_refl _),Nat.sub_self]
   rfl
 ·rw [List.getElem?_set_ne (Ne.symm e)] at g2
  exact ZdG ho1 (by simp) (h3.2 i v d g1 g2)
end Nv
namespace Nv
open Go Go.RowKit
def subB:List Ob→List Ob→Prop
 | [],_=>True
 | .gone :: B,_ :: H=>subB B H
 | o :: B,o' :: H=>o=o'∧subB B H
 | _ :: _,[]=>False
theorem ZdK:∀ {B H:List Ob},subB B H→∀ {i:Nat} {o:Ob},B[i]? = some o→o ≠ .gone→H[i]? = some o
 | [],_,_,i,o,h,_=>by simp at h
 | b :: B,[],h,i,o,hi,hg=>by cases b <;> exact h.elim
 | b :: B,a :: H,h,i,o,hi,hg=>by
  cases i with
  | zero =>
   simp only [List.getElem?_cons_zero,Option.some.injEq] at hi
   subst hi
   cases b with
   | gone=>exact absurd rfl hg
   | _=>simp only [subB] at h; rw [h.1]; rfl
  | succ i =>
   simp only [List.getElem?_cons_succ] at hi ⊢
   have h2:subB B H:=by
    cases b with
    | gone=>exact h
    | _=>exact h.2
   exact ZdK h2 hi hg
theorem Zi8 {B H:List Ob} (hs:subB B H) {d:D} {cs:List D} (h:cellsAt B d=some cs):cellsAt H d=some cs:=by
 cases d <;> first | exact h | skip
 ·rename_i id off
  simp only [cellsAt] at h ⊢
  cases hb:B[id]? with
  | none=>rw [hb] at h; cases h
  | some o=>rw [hb] at h; cases o <;> first | (rw [ZdK hs hb (fun e=>Ob.noConfusion e)]; exact h) | cases h
 ·rename_i id k off
  simp only [cellsAt] at h ⊢
  cases hb:B[id]? with
  | none=>rw [hb] at h; cases h
  | some o=>rw [hb] at h; cases o <;> first | (rw [ZdK hs hb (fun e=>Ob.noConfusion e)]; exact h) | cases h
theorem ZmB {P:Program} {B H:List Ob} (hs:subB B H) {t:TypeId} {x i:D} {r:D × List Bool} (h:idxD P B t x i=some r):idxD P H t x i=some r:=by
 unfold idxD at h ⊢
 cases hu:P.underlying t with
 | none=>rw [hu] at h; cases h
 | some u =>
  rw [hu] at h
  cases u with
  | slice e =>
   simp only at h ⊢
   cases hz:szO P e with
   | none=>rw [hz] at h; cases h
   | some sz =>
    rw [hz] at h
    simp only at h ⊢
    cases x <;> cases i <;> first | exact h | skip
    rename_i id off len k n
    simp only at h ⊢
    cases hb:B[id]? with
    | none=>rw [hb] at h; cases h
    | some o=>rw [hb] at h; cases o <;> first | (rw [ZdK hs hb (fun e=>Ob.noConfusion e)]; exact h) | cases h
  | _=>exact h
theorem Zm8 {P:Program} {B H:List Ob} (hs:subB B H) {ops:Array Oper} {env:List (Nat × D)} {al:List (Nat × Bool)} {orc:List Res} {g:Bool} {o:Oper} {fr:List Nat} {k:Nat} (hf:frk fr k o.op=true) {x:Res × List Bool × List Req × List Res}
  (h:opD P B ops env al orc g o=some x):opD P H ops env al orc g o=some x:=by
 unfold frk at hf
 simp only [Bool.and_eq_true] at hf
 have hl:=hf.2
 unfold lkB at hl
 split at hl
 ·rename_i t a hop
  unfold opD at h ⊢
  simp only [hop,pureOp] at h ⊢
  cases hc:cellsAt B (unwrap al (evD env a)) with
  | none=>rw [hc] at h; cases h
  | some cs=>rw [hc] at h; rw [Zi8 hs hc]; exact h
 ·rename_i t a b hop
  unfold opD at h ⊢
  simp only [hop,pureOp] at h ⊢
  cases hc:idxD P B t (unwrap al (evD env a)) (unwrap al (evD env b)) with
  | none=>rw [hc] at h; cases h
  | some cs=>rw [hc] at h; rw [ZmB hs hc]; exact h
 ·cases hl
def stepDg (fr:List Nat) (B:List Ob) (P:Program) (ops:Array Oper) (k:Nat) (H:List Ob) (env:List (Nat × D)) (orc:List Res) (o:Oper):Option (D × List Ob × List Bool × List Req × List Res) :=
 match wrB o.op with
 | true=>match o.guard,heapF P H (fun x=>unwrap [] (evD env x)) o.op with
  | none,some (d,H',none,bs)=>some (d,H',bs,[],orc)
  | _,_=>none
 | false=>match stepDr P ops k (bif frk fr k o.op then B else H) env orc o with
  | some (d,bs,rq,orc')=>some (d,H,bs,rq,orc')
  | none=>none
def runDg (fr:List Nat) (B:List Ob) (P:Program) (nt:Nat) (ops:Array Oper):Nat→List Oper→List (Nat × D)→List Ob→List Res→Option (List (Nat × D) × List Ob × List Bool × List Req × List Res)
 | _,[],env,H,orc=>some (env,H,[],[],orc)
 | k,o :: l,env,H,orc=>match stepDg fr B P ops k H env orc o with
  | some (d,H1,bs,rq,orc1)=>match putE nt o.dst d env with
   | some e=>match runDg fr B P nt ops (k+1) l e H1 orc1 with
    | some (e',H',bs',rq',orc')=>some (e',H',bs++bs',rq++rq',orc')
    | none=>none
   | none=>none
  | none=>none
def heapsG (fr:List Nat) (B:List Ob) (P:Program) (nt:Nat) (ops:Array Oper):Nat→List Oper→List (Nat × D)→List Ob→List Res→List (List Ob)
 | _,[],_,_,_=>[]
 | k,o :: l,env,H,orc=>match stepDg fr B P ops k H env orc o with
  | some (d,H1,_,_,orc1)=>match putE nt o.dst d env with
   | some e=>bif wrB o.op then H1 :: heapsG fr B P nt ops (k+1) l e H1 orc1 else heapsG fr B P nt ops (k+1) l e H1 orc1
   | none=>[]
  | none=>[]
structure TraceG (fr:List Nat) (B:List Ob) (P:Program) (nt:Nat) (ops:Array Oper) (bs:List Bool) (rq:List Req) (k n:Nat) (E:Nat→List (Nat × D)) (HH:Nat→List Ob) (V:Nat→D):Prop where
 step:∀ i,k≤i→i < n→∃ o orc b r orc',ops[i]? = some o∧stepDg fr B P ops i (HH i) (E i) orc o=some (V i,HH (i+1),b,r,orc')∧(∀ x∈b,x∈bs)∧(∀ x∈r,x∈rq)
 put:∀ i,k≤i→i < n→∃ o,ops[i]? = some o∧putE nt o.dst (V i) (E i)=some (E (i+1))
theorem ZgU {fr:List Nat} {B:List Ob} {P:Program} {nt:Nat} {ops:Array Oper}:∀ (l:List Oper) (k:Nat) (env env':List (Nat × D)) (H H':List Ob) (orc orc':List Res) (bs:List Bool) (rq:List Req),(∀ (j:Nat),l[j]? = ops[k+j]? ∨ l.length≤j) →
  runDg fr B P nt ops k l env H orc=some (env',H',bs,rq,orc')→∃ E HH V,E k=env∧HH k=H∧E (k+l.length)=env'∧HH (k+l.length)=H'∧TraceG fr B P nt ops bs rq k (k+l.length) E HH V∧∀ q,k≤q→q≤k+l.length→HH q=H∨HH q∈heapsG fr B P nt ops k l env H orc
 | [],k,env,env',H,H',orc,orc',bs,rq,_,h=>by
  simp only [runDg,Option.some.injEq,Prod.mk.injEq] at h
  obtain ⟨rfl,rfl,rfl,rfl,rfl⟩:=h
  exact ⟨fun _=>env,fun _=>H,fun _=>.any,rfl,rfl,rfl,rfl,⟨fun i h1 h2=>by simp at h2; omega,fun i h1 h2=>by simp at h2; omega⟩,fun q _ _=>.inl rfl⟩
 | o :: l,k,env,env',H,H',orc,orc',bs,rq,hl,h=>by
  simp only [runDg] at h
  split at h <;> try cases h
  rename_i d H1 b1 r1 orc1 hs
  split at h <;> try cases h
  rename_i e he
  split at h <;> try cases h
  rename_i b2 r2 hr
  have ho:ops[k]? = some o:=by
   rcases hl 0 with h1 | h1
   ·simpa using h1.symm
   ·simp at h1
  obtain ⟨E,HH,V,hE,hH,hE',hH',hT,hU⟩:=ZgU l (k+1) e env' H1 H' orc1 orc' b2 r2 (fun j=>by
   rcases hl (j+1) with h1 | h1
   ·left; simpa [Nat.add_assoc,Nat.add_comm 1 j] using h1
   ·right; simp at h1; exact h1) hr
  refine ⟨fun i=>if i=k then env else E i,fun i=>if i=k then H else HH i,fun i=>if i=k then d else V i,by simp,by simp,?_,?_,⟨fun i h1 h2=>?_,fun i h1 h2=>?_⟩,fun q h1 h2=>?_⟩
  ·simp only [List.length_cons]
   rw [if_neg (by omega),show k+(l.length+1)=k+1+l.length by omega]
   exact hE'
  ·simp only [List.length_cons]
   rw [if_neg (by omega),show k+(l.length+1)=k+1+l.length by omega]
   exact hH'
  ·by_cases hik:i=k
   ·subst hik
    simp only [if_true]
    rw [if_neg (by omega),hH]
    exact ⟨o,orc,b1,r1,orc1,ho,hs,fun x hx=>List.mem_append_left _ hx,fun x hx=>List.mem_append_left _ hx⟩
   ·simp only [if_neg hik]
    rw [if_neg (by omega)]
    obtain ⟨o',orc',b,r,orc'',h3,h4,h5,h6⟩:=hT.step i (by omega) (by simp at h2; omega)
    exact ⟨o',orc',b,r,orc'',h3,h4,fun x hx=>List.mem_append_right _ (h5 x hx),fun x hx=>List.mem_append_right _ (h6 x hx)⟩
  ·by_cases hik:i=k
   ·subst hik
    simp only [if_true]
    rw [if_neg (by omega)]
    exact ⟨o,ho,by rw [hE]; exact he⟩
   ·simp only [if_neg hik]
    rw [if_neg (by omega)]
    exact hT.put i (by omega) (by simp at h2; omega)
  ·by_cases hik:q=k
   ·exact .inl (if_pos hik)
   ·have h3:=hU q (by omega) (by simp at h2; omega)
    show (if q=k then H else HH q)=H∨(if q=k then H else HH q)∈_
    rw [if_neg hik]
    simp only [heapsG,hs,he]
    cases hw:wrB o.op with
    | true =>
     simp only [cond_true]
     exact .inr (h3.elim (fun e=>e ▸ List.mem_cons_self) fun e=>List.mem_cons_of_mem _ e)
    | false =>
     simp only [cond_false]
     have h4:H1=H:=by
      unfold stepDg at hs
      rw [hw] at hs
      simp only at hs
      split at hs
      ·simp only [Option.some.injEq,Prod.mk.injEq] at hs; exact hs.2.1.symm
      ·cases hs
     rw [h4] at h3
     rw [h4]
     exact h3
theorem Zf1 {fr:List Nat} {B:List Ob} {P:Program} {nt:Nat} {ops:Array Oper} {bs:List Bool} {rq:List Req} {n:Nat} {E:Nat→List (Nat × D)} {HH:Nat→List Ob} {V:Nat→D} (hnd:dstsB ops=true) (hT:TraceG fr B P nt ops bs rq 0 n E HH V) :
  ∀ k,k≤n→∀ t,find (E k) t=valL ops V (E 0) (· < k) t
 | 0,_,t=>by rw [WW]; intro i _ h; omega
 | k+1,hk,t=>by
  have ih:=Zf1 hnd hT k (by omega) t
  obtain ⟨o,ho,hp⟩:=hT.put k (by omega) (by omega)
  unfold putE at hp
  split at hp
  ·rename_i hd
   simp only [Option.some.injEq] at hp
   rw [← hp,ih]
   refine QE hnd fun i hi=>⟨fun h=>by omega,fun h=>?_⟩
   rcases Nat.lt_or_ge i k with h1 | h1
   ·exact h1
   ·have:i=k:=by omega
    subst this
    rw [ho] at hi
    simp [hd] at hi
  ·rename_i u hd
   cases hlt:Nat.blt u nt with
   | false=>simp [hlt] at hp
   | true =>
    simp only [hlt,cond_true,Option.some.injEq] at hp
    rw [← hp]
    simp only [find]
    have hdk:(ops[k]?).bind (·.dst)=some u:=by rw [ho]; exact hd
    cases hut:Nat.beq u t with
    | true =>
     obtain rfl:=Nat.eq_of_beq_eq_true hut
     simp only [cond_true]
     rw [Vn hnd hdk (by omega)]
    | false =>
     simp only [cond_false]
     rw [ih]
     have hne:u ≠ t:=Nat.ne_of_beq_eq_false hut
     refine QE hnd fun i hi=>⟨fun h=>by omega,fun h=>?_⟩
     rcases Nat.lt_or_ge i k with h1 | h1
     ·exact h1
     ·have:i=k:=by omega
      subst this
      rw [hdk] at hi
      simp at hi
      exact absurd hi hne
theorem ZaB {fr:List Nat} {B:List Ob} {P:Program} {nt:Nat} {ops:Array Oper} {bs:List Bool} {rq:List Req} {n:Nat} {E:Nat→List (Nat × D)} {HH:Nat→List Ob} {V:Nat→D} (hT:TraceG fr B P nt ops bs rq 0 n E HH V) {p:Nat} :
  ∀ (m:Nat),p+m≤n→(∀ w o,p≤w→w < p+m→ops[w]? = some o→wrB o.op=false)→HH (p+m)=HH p
 | 0,_,_=>rfl
 | m+1,hn,h=>by
  have ih:=ZaB hT (p:=p) m (by omega) fun w o h1 h2=>h w o h1 (by omega)
  obtain ⟨o,orc,b,r,orc',ho,hs,_⟩:=hT.step (p+m) (Nat.zero_le _) (by omega)
  have hw:=h (p+m) o (by omega) (by omega) ho
  unfold stepDg at hs
  rw [hw] at hs
  simp only at hs
  split at hs
  ·simp only [Option.some.injEq,Prod.mk.injEq] at hs
   exact hs.2.1.symm.trans ih
  ·cases hs
theorem Zim {fr:List Nat} {B:List Ob} {P:Program} {F:Fr} [GF P F] {nt:Nat} {ops:Array Oper} {bs:List Bool} {rq:List Req} {E:Nat→List (Nat × D)} {HH:Nat→List Ob} {V:Nat→D} (hfl:flowB ops=true) (hcm:cmpF fr ops=true)
  (hT:TraceG fr B P nt ops bs rq 0 ops.size E HH V) (hbg:∀ q,q≤ops.size→subB B (HH q)) (hb:∀ b∈bs,b=true) (hq:∀ q∈rq,q.ok P) {Q:Exit→Act→World→Prop} (orc:List Res)
  (hQ:∀ a c,RInv F nt ops ops.size ⟨E ops.size,HH ops.size,orc⟩ a c→Q .normal a c.w) :
  ∀ (fuel:Nat) (listed:Array Bool) (a:Act) (c:Ctx),DWInv F nt ops HH V (E 0) listed a c→cnt listed+fuel=ops.size→wpAny P .any ops Q fuel listed a c.w:=by
 simp only [flowB,Bool.and_eq_true,List.all_eq_true] at hfl
 obtain ⟨hnd,hfl⟩:=hfl
 have flow:∀ i o,ops[i]? = some o→flowAt ops (Region.before ops) i o=true:=fun i o ho=>by
  have hlt:=(Array.getElem?_eq_some_iff.1 ho).1
  refine hfl (o,i) ?_
  rw [List.mem_zipIdx_iff_getElem?]
  simpa using ho
 have fin:∀ (listed:Array Bool) a c,DWInv F nt ops HH V (E 0) listed a c→(∀ i,i < ops.size→listed.getD i false=true)→Q .normal a c.w:=fun listed a c hD hall=>by
  have hval:∀ t,find (E ops.size) t=valL ops V (E 0) (fun i=>listed.getD i false=true) t:=fun t=>by
   rw [Zf1 hnd hT ops.size (Nat.le_refl _) t]
   refine QE hnd fun i hi=>⟨fun h=>hall i h,fun _=>?_⟩
   obtain ⟨o,ho,_⟩:=Option.bind_eq_some_iff.1 hi
   exact (Array.getElem?_eq_some_iff.1 ho).1
  have hHf:c.H=HH ops.size:=by
   obtain ⟨q,hq1,hq2,hq3,hq4⟩:=hD.H
   rw [hq2]
   have:=ZaB hT (p:=q) (ops.size - q) (by omega) fun w o h1 h2 ho=>by
    cases hw:wrB o.op with
    | false=>rfl
    | true =>
     have h3:=hq4 w o ho hw h1
     rw [hall w (by omega)] at h3; cases h3
   rw [show q+(ops.size - q)=ops.size by omega] at this
   exact this.symm
  refine hQ a c ⟨hHf,hD.inv,fun t=>?_,hD.size,hD.defers,fun t j w d hf=>?_⟩
  ·show GV _ _ _ (find (E ops.size) t)
   rw [hval]; exact hD.env t
  ·have hf:find (E ops.size) t = .opt j w d:=hf
   rw [hval] at hf
   have:=hD.opt t j w d hf
   rcases Nat.lt_or_ge j listed.size with h | h
   ·rw [hD.lsize] at h; exact h
   ·simp [Array.getElem?_eq_none h] at this
 -- nothing is ready: all are listed
 have stuckAll:∀ (listed:Array Bool),listed.size=ops.size→Region.ready .any ops listed=[]→∀ i,i < ops.size→listed.getD i false=true:=by
  intro listed hls hr i
  induction i using Nat.strongRecOn with
  | _ i ih =>
   intro hi
   cases hl:listed.getD i false with
   | true=>rfl
   | false =>
    exfalso
    have:i∈Region.ready .any ops listed:=by
     rw [mem_ready]
     refine ⟨by simp [hls,hi] at hl ⊢; exact hl,ops[i],by simp [hi],fun e he hbi=>?_⟩
     have h1:=flow i ops[i] (by simp [hi])
     simp only [flowAt,Bool.and_eq_true] at h1
     have h2:=Array.all_eq_true'.1 h1.1.1 e he
     simp only [hbi,Bool.not_true,Bool.false_or] at h2
     have h3:=XW h2
     exact ih e.on h3 (by omega)
    rw [hr] at this
    cases this
 intro fuel
 induction fuel with
 | zero =>
  intro listed a c hD hcnt
  have hall:∀ i,i < ops.size→listed.getD i false=true:=by
   have:=R1 (listed:=listed) (by rw [hD.lsize]; omega)
   rw [hD.lsize] at this
   exact this
  refine ⟨?_,fin listed a c hD hall⟩
  cases hr:Region.ready .any ops listed with
  | nil=>rfl
  | cons i r =>
   exfalso
   have:i∈Region.ready .any ops listed:=by rw [hr]; exact List.mem_cons_self
   obtain ⟨h1,o,ho,_⟩:=mem_ready.1 this
   have hi:=(Array.getElem?_eq_some_iff.1 ho).1
   have h2:=hall i hi
   simp [hD.lsize,hi] at h1 h2
   rw [h1] at h2
   cases h2
 | succ fuel ih =>
  intro listed a c hD hcnt
  refine ⟨fun hr=>fin listed a c hD (stuckAll listed hD.lsize hr),fun i hi=>?_⟩
  obtain ⟨hun,o,ho,hall⟩:=mem_ready.1 hi
  have hilt:=(Array.getElem?_eq_some_iff.1 ho).1
  have hunf:listed.getD i false=false:=by simp [hD.lsize,hilt] at hun ⊢; exact hun
  have hwaits:∀ j,Waits ops i j→listed.getD j false=true:=fun j ⟨o',ho',e,he,hbi,hon⟩=>by
   rw [ho] at ho'
   cases ho'
   rw [← hon]
   exact hall e he hbi
  obtain ⟨o',orc0,b,r,orc1,ho',hstep,hb1,hr1⟩:=hT.step i (Nat.zero_le _) hilt
  rw [ho] at ho'
  cases ho'
  have reach:∀ k l,k < ops.size→((Region.before ops).getD k 0).testBit l=true→listed.getD k false=true→listed.getD l false=true:=fun k l hk hb2 hl =>
   Qg hD.closed (YW ops k l hk hb2) (fun j hj=>hD.closed _ _ hj hl)
  have reachI:∀ l,((Region.before ops).getD i 0).testBit l=true→listed.getD l false=true:=fun l hb2=>Qg hD.closed (YW ops i l hilt hb2) hwaits
  -- the objects are those of the text's order, where they are looked at
  have hHi:(stillB o.op||frk fr i o.op)=false→c.H=HH i:=fun hst=>by
   obtain ⟨q,hq1,hq2,hq3,hq4⟩:=hD.H
   rw [hq2]
   rcases Nat.lt_or_ge i q with hiq | hiq
   ·have:=ZaB hT (p:=i) (q - i) (by omega) fun w ow h1 h2 how=>by
     cases hw:wrB ow.op with
     | false=>rfl
     | true =>
      have hwl:=(Array.getElem?_eq_some_iff.1 how).1
      have h3:=hq3 w ow how hw (by omega)
      have hne:w ≠ i:=fun e=>by subst e; rw [hunf] at h3; cases h3
      rcases Zcj hcm how ho hw hst hne with ⟨_,h5⟩ | ⟨h4,_⟩
      ·rw [reach w i hwl h5 h3] at hunf; cases hunf
      ·omega
    rw [show i+(q - i)=q by omega] at this
    exact this
   ·have:=ZaB hT (p:=q) (i - q) (by omega) fun w ow h1 h2 how=>by
     cases hw:wrB ow.op with
     | false=>rfl
     | true =>
      have h3:=hq4 w ow how hw h1
      have hne:w ≠ i:=by omega
      rcases Zcj hcm how ho hw hst hne with ⟨h4,_⟩ | ⟨_,h5⟩
      ·omega
      ·rw [reachI w h5] at h3; cases h3
    rw [show q+(i - q)=i by omega] at this
    exact this.symm
  have hfa:=flow i o ho
  simp only [flowAt,Bool.and_eq_true] at hfa
  obtain ⟨⟨hf1,hf2⟩,hf3⟩:=hfa
  -- what the operation looks at has its value of the text's order
  have same:∀ t∈needs ops o,valL ops V (E 0) (fun i=>listed.getD i false=true) t=find (E i) t:=fun t ht=>by
   rw [Zf1 hnd hT i (by omega) t]
   refine QE hnd fun k hk=>?_
   have h1:=List.all_eq_true.1 hf3 t ht
   obtain ⟨ok,hok,hdk⟩:=Option.bind_eq_some_iff.1 hk
   have hklt:=(Array.getElem?_eq_some_iff.1 hok).1
   have h2:=List.all_eq_true.1 h1 (ok,k) (by rw [List.mem_zipIdx_iff_getElem?]; simpa using hok)
   simp only [hdk] at h2
   have e1:Nat.beq t t=true:=Nat.beq_refl t
   rw [e1] at h2
   simp only [Bool.not_true,Bool.false_or,Bool.or_eq_true,Bool.and_eq_true] at h2
   rcases h2 with (h2 | ⟨h2,h3⟩) | ⟨h2,h3⟩
   ·obtain rfl:=Nat.eq_of_beq_eq_true h2
    exact ⟨fun h=>(by rw [hunf] at h; cases h),fun h=>by omega⟩
   ·exact ⟨fun _=>XW h2,fun _=>Qg hD.closed (YW ops i k hilt h3) hwaits⟩
   ·have hik:=XW h2
    refine ⟨fun h=>?_,fun h=>by omega⟩
    have:=Qg hD.closed (YW ops k i hklt h3) (fun j hj=>hD.closed _ _ hj h)
    rw [hunf] at this
    cases this
  have hops:∀ x∈o.op.operands.toList,GV (yielded ops a.tmps) c (a.eval x) (evD (E i) x):=fun x hx=>by
   cases x with
   | tmp t =>
    show GV _ _ _ (find (E i) t)
    rw [← same t (by simp only [needs,List.mem_append,List.mem_filterMap]; exact .inl ⟨.tmp t,hx,rfl⟩)]
    exact hD.env t
   | const v=>exact X9 (Zbk c v)
   | global g=>exact X9 WS
   | func f=>exact X9 ⟨#[],rfl,rfl,fun i v d h1 _=>by simp at h1⟩
  have hgf:GuardFacts ops a c (E i) (gch ops 20 o.guard):=fun p hp t ht=>by
   rw [← same t (by simp only [needs,List.mem_append,List.mem_filterMap]; exact .inr ⟨p,hp,ht⟩)]
   exact hD.env t
  -- the new state
  have newH:wrB o.op=false→∀ c':Ctx,c'.H=c.H→∃ q,q≤ops.size∧c'.H=HH q∧(∀ w ow,ops[w]? = some ow→wrB ow.op=true→w < q→(listed.setIfInBounds i true).getD w false=true)∧(∀ w ow,ops[w]? = some ow→wrB ow.op=true→q≤w→(listed.setIfInBounds i true).getD w false=false):=fun hwo c' hc'=>by
   obtain ⟨q,hq1,hq2,hq3,hq4⟩:=hD.H
   have hne:∀ w ow,ops[w]? = some ow→wrB ow.op=true→i ≠ w:=fun w ow how hw e=>by subst e; rw [ho] at how; cases how; rw [hwo] at hw; cases hw
   exact ⟨q,hq1,hc'.trans hq2,fun w ow how hw hwq=>by rw [getD_set_ne false (hne w ow how hw)]; exact hq3 w ow how hw hwq,fun w ow how hw hwq=>by rw [getD_set_ne false (hne w ow how hw)]; exact hq4 w ow how hw hwq⟩
  have new:∀ v c',Inv F c'→(∃ q,q≤ops.size∧c'.H=HH q∧(∀ w ow,ops[w]? = some ow→wrB ow.op=true→w < q→(listed.setIfInBounds i true).getD w false=true)∧(∀ w ow,ops[w]? = some ow→wrB ow.op=true→q≤w→(listed.setIfInBounds i true).getD w false=false)) →
    (∀ u e,TV c u e→TV c' u e)→(∀ d,V i=d→GV (yielded ops (a.put o.dst v).tmps) c' v d)→(∀ j w d,V i = .opt j w d→listed.getD j false=true) →
    wpAny P .any ops Q fuel (listed.setIfInBounds i true) (a.put o.dst v) c'.w:=fun v c' hI' hHn htr hv hvo=>by
   have hL:∀ j,(listed.setIfInBounds i true).getD j false=true↔j=i∨listed.getD j false=true:=fun j=>by
    by_cases hji:j=i
    ·subst hji; simp [hD.lsize,hilt]
    ·rw [getD_set_ne false (Ne.symm hji)]; simp [hji]
   have hvalo:∀ t,(∀ u,o.dst=some u→u ≠ t)→valL ops V (E 0) (fun j=>(listed.setIfInBounds i true).getD j false=true) t=valL ops V (E 0) (fun j=>listed.getD j false=true) t:=fun t ht=>by
    refine QE hnd fun k hk=>?_
    show (listed.setIfInBounds i true).getD k false=true↔_
    rw [hL]
    refine ⟨fun h=>?_,.inr⟩
    rcases h with rfl | h
    ·rw [ho] at hk
     exact absurd rfl (ht t hk)
    ·exact h
   have hyj:∀ j,listed.getD j false=true→yielded ops (a.put o.dst v).tmps j=yielded ops a.tmps j:=fun j hj=>VZ fun t ht e=>by
    have:=Ws hnd (show (ops[i]?).bind (·.dst)=some t by rw [ho]; exact ht) e
    subst this
    rw [hunf] at hj
    cases hj
   have keep:∀ t,GV (yielded ops (a.put o.dst v).tmps) c' (a.tmps.getD t undef) (valL ops V (E 0) (fun j=>listed.getD j false=true) t):=fun t=>by
    have h1:=GL htr (hD.env t)
    cases hf:valL ops V (E 0) (fun j=>listed.getD j false=true) t <;> rw [hf] at h1 <;> try exact h1
    rename_i j w d
    simp only [GV] at h1 ⊢
    rw [hyj j (hD.opt t j w d hf)]
    exact h1
   refine ih _ _ c' ⟨hHn,hI',fun t=>?_,by rw [G6]; exact hD.size,by rw [UQ]; exact hD.defers,fun t j w d hf=>?_,by simp [hD.lsize],fun p q hpq hp=>?_⟩ ?_
   ·by_cases hdt:o.dst=some t
    ·have hit:(ops[i]?).bind (·.dst)=some t:=by rw [ho]; exact hdt
     rw [Vn hnd hit ((hL i).2 (.inl rfl))]
     have htl:t < a.tmps.size:=by
      obtain ⟨o2,ho2,hp⟩:=hT.put i (Nat.zero_le _) hilt
      rw [ho] at ho2
      cases ho2
      rw [hdt] at hp
      simp only [putE] at hp
      cases hlt:Nat.blt t nt with
      | false=>simp [hlt] at hp
      | true=>rw [hD.size]; exact XW hlt
     have e:(a.put o.dst v).tmps.getD t undef=v:=by rw [hdt]; exact WA htl
     rw [e]
     exact hv _ rfl
    ·rw [hvalo t (fun u hu e=>hdt (by rw [hu,e])),GK hdt]
     exact keep t
   ·rw [hL]
    right
    by_cases hdt:o.dst=some t
    ·have hit:(ops[i]?).bind (·.dst)=some t:=by rw [ho]; exact hdt
     rw [Vn hnd hit ((hL i).2 (.inl rfl))] at hf
     exact hvo j w d hf
    ·rw [hvalo t (fun u hu e=>hdt (by rw [hu,e]))] at hf
     exact hD.opt t j w d hf
   ·rw [hL] at hp ⊢
    right
    rcases hp with rfl | hp
    ·exact hwaits q hpq
    ·exact hD.closed p q hpq hp
   ·rw [Zcg (by rw [hD.lsize]; exact hilt) hunf]
    omega
  unfold wpOp
  simp only [ho]
  unfold stepDg at hstep
  cases hwr:wrB o.op with
  | true =>
   rw [hwr] at hstep
   simp only at hstep
   split at hstep <;> try cases hstep
   rename_i hgd hheap
   have hw:Region.wanted o (yielded ops a.tmps)=true:=by simp [Region.wanted,hgd]
   simp only [hw,if_true]
   have hst:(stillB o.op||frk fr i o.op)=false:=by rw [ZdC hwr,Zi3 hwr]; rfl
   have hρ:∀ x∈o.op.operands.toList,TV c (a.eval x) (unwrap [] (evD (E i) x)):=fun x hx=>WV (a:=a) (ops:=ops) (by simp) (hops x hx)
   obtain ⟨v,c',hrun',hI',hH',htr,htv⟩:=ZdB (ρc:=a.eval) hD.inv hρ (by rw [hHi hst]; exact hheap) (fun b hb'=>hb b (hb1 b hb'))
   have hnew:=new v c' hI' ⟨i+1,by omega,hH',fun w ow how hw hwq=>by
     rcases Nat.lt_or_ge w i with h1 | h1
     ·rw [getD_set_ne false (by omega)]
      rcases Zcj hcm how ho hw hst (by omega) with ⟨h4,_⟩ | ⟨_,h5⟩
      ·omega
      ·exact reachI w h5
     ·have:w=i:=by omega
      subst this
      simp [hD.lsize,hilt],fun w ow how hw hwq=>by
     rw [getD_set_ne false (by omega)]
     cases hl:listed.getD w false with
     | false=>rfl
     | true =>
      have hwl:=(Array.getElem?_eq_some_iff.1 how).1
      rcases Zcj hcm how ho hw hst (by omega) with ⟨_,h5⟩ | ⟨h4,_⟩
      ·rw [reach w i hwl h5 hl] at hunf; cases hunf
      ·omega⟩ (fun u e h=>htr u e h) (fun d' hd'=>by rw [← hd']; exact X9 htv) (fun j w d' h=>by
     rw [h] at htv
     simp only [TV,AV] at htv
     exact absurd htv Qt)
   refine .inl ?_
   unfold Oper.wp
   rcases hrun' with h1 | ⟨h1,rfl⟩
   ·rw [h1]; exact hnew
   ·rw [h1]; exact hnew
  | false =>
  rw [hwr] at hstep
  simp only at hstep
  split at hstep
  case h_2=>cases hstep
  rename_i d0 b0 r0 o0 hstep0
  simp only [Option.some.injEq,Prod.mk.injEq] at hstep
  obtain ⟨hV0,_,rfl,rfl,rfl⟩:=hstep
  rw [hV0] at hstep0
  rename_i hstep
  have hstep:=hstep0
  unfold stepDr at hstep
  split at hstep <;> try cases hstep
  rename_i g hg
  have hopc:∀ {x},opD P (bif frk fr i o.op then B else HH i) ops (E i) (gch ops 20 o.guard) orc0 g o=some x→opD P c.H ops (E i) (gch ops 20 o.guard) orc0 g o=some x:=fun {x} h=>by
   cases hfr:frk fr i o.op with
   | true=>rw [hfr] at h; exact Zm8 (by obtain ⟨q,hq1,hq2,_⟩:=hD.H; rw [hq2]; exact hbg q hq1) hfr h
   | false =>
    rw [hfr] at h
    cases hst:stillB o.op with
    | true=>rw [ZgO (HH i) hst]; exact h
    | false=>rw [hHi (by rw [hst,hfr]; rfl)]; exact h
  split at hstep
  ·rename_i d bs0 rq0 orc2 j want hop hgd
   cases hlt:Nat.blt j i with
   | false=>simp [hlt] at hstep
   | true =>
    simp only [hlt,cond_true,Option.some.injEq,Prod.mk.injEq] at hstep
    obtain ⟨hV,rfl,rfl,rfl⟩:=hstep
    have hji:=XW hlt
    have hyj:∀ v,yielded ops (a.put o.dst v).tmps j=yielded ops a.tmps j:=fun v=>VZ fun t ht e=>by
     have:=Ws hnd (show (ops[i]?).bind (·.dst)=some t by rw [ho]; exact ht) e
     omega
    have hjl:listed.getD j false=true:=by
     rw [hgd] at hf2
     simp only at hf2
     obtain ⟨e,he,h1⟩:=Array.any_eq_true'.1 hf2
     simp only [Bool.and_eq_true] at h1
     rw [← Nat.eq_of_beq_eq_true h1.2]
     exact hall e he h1.1
    have hwant:Region.wanted o (yielded ops a.tmps)=(yielded ops a.tmps j==some want):=by simp [Region.wanted,hgd]
    have hvo:∀ j' w d',V i = .opt j' w d'→listed.getD j' false=true:=fun j' w d' h=>by rw [← hV] at h; cases h; exact hjl
    cases hw:Region.wanted o (yielded ops a.tmps) with
    | true =>
     simp only [if_true]
     refine .inl (WP hD.inv hops hgf hg hw (hopc hop) (fun b hb'=>hb b (hb1 b hb')) (fun q hq'=>hq q (hr1 q hq')) fun v c' hI' haf=>?_)
     obtain ⟨hgo,_,htv⟩:=haf
     refine new v c' hI' (newH hwr c' hgo.H) (fun _ _=>hgo.tv) (fun d' hd'=>?_) hvo
     rw [← hd',← hV]
     refine .inl ⟨?_,htv⟩
     rw [hyj]
     rw [hw] at hwant
     simpa using hwant.symm
    | false =>
     simp only [Bool.false_eq_true,if_false]
     refine new undef c hD.inv (newH hwr c rfl) (fun _ _ h=>h) (fun d' hd'=>?_) hvo
     rw [← hd',← hV]
     refine .inr ⟨?_,rfl⟩
     rw [hyj]
     rw [hw] at hwant
     simpa using hwant.symm
  ·rename_i d bs0 rq0 orc2 hop hgd
   simp only [Option.some.injEq,Prod.mk.injEq] at hstep
   obtain ⟨hV,rfl,rfl,rfl⟩:=hstep
   have hw:Region.wanted o (yielded ops a.tmps)=true:=by simp [Region.wanted,hgd]
   simp only [hw,if_true]
   refine .inl (WP hD.inv hops hgf hg hw (hopc hop) (fun b hb'=>hb b (hb1 b hb')) (fun q hq'=>hq q (hr1 q hq')) fun v c' hI' haf=>?_)
   obtain ⟨hgo,_,htv⟩:=haf
   refine new v c' hI' (newH hwr c' hgo.H) (fun _ _=>hgo.tv) (fun d' hd'=>?_) (fun j w d' h=>?_)
   ·rw [← hd',← hV]; exact X9 htv
   ·rw [← hV] at h
    subst h
    simp only [TV,AV] at htv
    exact absurd htv Qt
  ·cases hstep
def regGb (fr:List Nat) (B:List Ob) (P:Program) (ops:Array Oper) (orc:List Res) (keep:List Nat) (hn:Nat) (s:St):Option (St × List Bool × List Req) :=
 bif flowB ops&&P.follows .mixedOrders&&cmpF fr ops then
  (match runDg fr B P s.nt ops 0 ops.toList s.env s.H orc with
  | some (env',H',bs,rq,_)=>(cutS hn ⟨s.nt,fin env' keep,H'⟩).map fun s'=>(s',bs,rq)
  | none=>none) else none
def heapsR (fr:List Nat) (B:List Ob) (P:Program) (ops:Array Oper) (orc:List Res) (s:St):List (List Ob):=s.H :: heapsG fr B P s.nt ops 0 ops.toList s.env s.H orc
theorem Zin {P:Program} {s:St} {ops:Array Oper} (fr:List Nat) (B:List Ob) (orc:List Res) (keep:List Nat) (hn:Nat) {s':St} {bs:List Bool} {rq:List Req}
  (h:regGb fr B P ops orc keep hn s=some (s',bs,rq)) (hbg:∀ x∈heapsR fr B P ops orc s,subB B x) (hb:∀ b∈bs,b=true) (hq:∀ q∈rq,q.ok P) {F:Fr} {a:Act} {w:World} (hG:GF P F) (hR:Rel F s a w) {K:Act→World→Prop} {Q':Exit→Act→World→Prop} (hK:∀ a w,Rel F s' a w→K a w) :
  P.follows .mixedOrders=true∧wpAny P .any ops (QK Q' K) ops.size (Array.replicate ops.size false) a w.drew:=by
 obtain ⟨c,rfl,hH,hI,henv,hsz,hd⟩:=hR
 unfold regGb at h
 cases hc:(flowB ops&&P.follows .mixedOrders&&cmpF fr ops) with
 | false=>rw [hc] at h; cases h
 | true =>
  rw [hc] at h
  simp only [cond_true] at h
  simp only [Bool.and_eq_true] at hc
  split at h <;> try cases h
  rename_i env' H' bs0 rq0 orc0 hrun
  obtain ⟨s1,hcut,heq⟩:=Option.map_eq_some_iff.1 h
  simp only [Prod.mk.injEq] at heq
  obtain ⟨rfl,rfl,rfl⟩:=heq
  refine ⟨hc.1.2,?_⟩
  obtain ⟨E,HH,V,hE0,hH0,hE1,hH1,hT,hU⟩:=ZgU ops.toList 0 s.env env' s.H H' orc orc0 bs0 rq0 (fun j=>.inl (by simp)) hrun
  simp only [Array.length_toList,Nat.zero_add] at hE1 hH1 hT hU
  let c':Ctx:={ c with w:=c.w.drew }
  have hgo:Goes c c':=⟨rfl,rfl,fun _ h=>h,fun _ _=>rfl,fun b hb=>(hI.imm b hb).1,fun id b hb=>(hI.loc id b hb).2.1⟩
  have hI':Inv F c':=hI.goes hgo (Bw.refl _ _).drew (fun _ h=>.inl h)
  have hnone:∀ i,¬ (Array.replicate ops.size false).getD i false=true:=fun i h=>by rw [J8] at h; cases h
  have hval:∀ t,valL ops V (E 0) (fun i=>(Array.replicate ops.size false).getD i false=true) t=find s.env t:=fun t=>by rw [WW (fun i _=>hnone i),hE0]
  have hD:DWInv F s.nt ops HH V (E 0) (Array.replicate ops.size false) a c':=by
   refine ⟨⟨0,Nat.zero_le _,hH.trans hH0.symm,fun w o _ _ h=>by omega,fun w o _ _ _=>by rw [J8]⟩,hI',fun t=>?_,hsz,hd,fun t j w d hf=>?_,by simp,fun i j _ h=>absurd h (hnone i)⟩
   ·rw [hval]; exact X9 (hgo.tv (henv t))
   ·rw [hval] at hf
    have:=henv t
    rw [hf] at this
    simp only [TV,AV] at this
    exact absurd this Qt
  refine Zim hc.1.1 hc.2 hT (fun q hq=>hbg _ ((hU q (Nat.zero_le _) hq).elim (fun e=>e ▸ List.mem_cons_self) fun e=>List.mem_cons_of_mem _ e)) hb hq [] (fun a' c'' hR=>?_) ops.size _ a c' hD (by simp [cnt,List.countP_replicate])
  have hR':=WZ hR keep
  have e1:E ops.size=env':=hE1
  have e2:HH ops.size=H':=hH1
  simp only [e1,e2] at hR'
  exact hK _ _ (U5 hcut F a' c''.w hR')
theorem rgvB {P:Program} {Q:Exit→St→Prop} {s:St} {id:Nat} {ops:Array Oper} (fr:List Nat) (B:List Ob) (hs:List (List Ob)) (k:Nat) (orcA:List Res) (keepA:List Nat) (hnA:Nat) (s1:St) (bsA:List Bool) (rqA:List Req) (hbA:∀ b∈bsA,b=true) (hqA:Reqs P rqA) (hbg:∀ x∈hs,subB B x)
  {α:Type} (S2:α→St) (hle:LeE s1 S2) (orcB:List Res) (keepB:List Nat) (hnB:Nat) (s3:α→St) (bsB:α→List Bool) (rqB:α→List Req) (hbB:∀ x,∀ b∈bsB x,b=true) (hqB:∀ x,Reqs P (rqB x)) (kk:∀ x,Q .normal (s3 x))
  (hh:heapsR fr B P (ops.extract 0 k) orcA s=hs:=by kernel_rfl) (hA:regGb fr B P (ops.extract 0 k) orcA keepA hnA s=some (s1,bsA,rqA):=by kernel_rfl) (hB:∀ x,regFrom P ops k orcB keepB hnB (S2 x)=some (s3 x,bsB x,rqB x):=by intro _; kernel_rfl)
  (hc:(flowB ops&&cutAt ops k&&chainB ops k&&Nat.ble k ops.size)=true:=by kernel_rfl):AWP P (.region id ops true) Q s:=by
 intro F a w hG hR
 simp only [Bool.and_eq_true] at hc
 obtain ⟨⟨⟨hfl,hct⟩,hch⟩,hk⟩:=hc
 have hk:=Nat.le_of_ble_eq_true hk
 have hnd:dstsB ops=true:=by simp only [flowB,Bool.and_eq_true] at hfl; exact hfl.1
 obtain ⟨hmo,hany⟩:=Zin fr B orcA keepA hnA hA (by rw [hh]; exact hbg) hbA hqA.all (Q':=fun e a' w'=>∃ s',Q e s'∧Rel F s' a' w') hG hR (K:=fun a w=>∃ x,Rel F (S2 x) a w) (fun a w h=>hle F a w h)
 have esz:(ops.extract 0 k).size=k:=by rw [Array.size_extract]; omega
 rw [esz] at hany
 refine wp_region_any hmo ?_
 have hfin:=Zi2 (P:=P) (Q:=fun e a' w'=>∃ s',Q e s'∧Rel F s' a' w') (K:=fun a w=>∃ x,Rel F (S2 x) a w) hk hfl hct (fun a w ⟨x,hR2⟩ listed hls hl =>
   ZgR hfl hch (ops.size - k) k listed a w (by omega) (Nat.le_refl _) hls hl (K4 hnd (hB x) (hbB x) (hqB x).all (fun a w h=>⟨_,kk x,h⟩) hR2))
  k (Array.replicate k false) (Array.replicate ops.size false) a w.drew (by simp) (by simp) (fun i=>by rw [J8,J8]) (fun i j _ h=>by rw [J8] at h; cases h) (by simp [cnt,List.countP_replicate]) hany
 rw [show k+(ops.size - k)=ops.size by omega] at hfin
 exact hfin
end Nv
