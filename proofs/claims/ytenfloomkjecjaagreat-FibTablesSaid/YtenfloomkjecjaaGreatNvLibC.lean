/- Part of the proof of FibTables: the library of walks. No condition. -/
import Derived.Test.YtenfloomkjecjaaGreatNvLibB
import Derived.KernelRfl
import Derived.Shelf.SlSortCmp.WholeK
import Derived.Lib.QuietBelow
import Derived.Shelf.SlSortCmp.NoneTotal
namespace Nv
open Go Go.RowKit
def okT (n:Nat):D→Bool
 | .opt _ _ _=>false
 | d=>blT n d
def ngone:Ob→Bool
 | .gone=>false
 | _=>true
def V1 (p0:Nat) (V:Nat→D) (i:Nat):D:=if i < p0 then V i else .any
structure FInv (F:Fr) (nt:Nat) (ops:Array Oper) (H0:List Ob) (p0 p:Nat) (zs:Nat→List D) (V:Nat→D) (env0:List (Nat × D)) (listed:Array Bool) (a:Act) (c:Ctx):Prop where
 H:∃ X,c.H=H0++X∧X.all ngone=true
 inv:Inv F c
 env:∀ t,GV (yielded ops a.tmps) c (a.tmps.getD t undef) (valL ops (V1 p0 V) env0 (fun i=>listed.getD i false=true) t)
 fl:∃ fid:Nat→Nat,(∀ k,p0≤k→k < p→listed.getD k false=true→H0.length≤fid k∧c.H[fid k]? = some (.box (zs k))∧∀ t,(ops[k]?).bind (·.dst)=some t→TV c (a.tmps.getD t undef) (.ref (fid k) 0)) ∧
  ∀ k l,p0≤k→k < p→p0≤l→l < p→listed.getD k false=true→listed.getD l false=true→fid k=fid l→k=l
 size:a.tmps.size=nt
 defers:a.defers=[]
 opt:∀ t j w d,valL ops (V1 p0 V) env0 (fun i=>listed.getD i false=true) t = .opt j w d→listed.getD j false=true
 lsize:listed.size=ops.size
 closed:∀ i j,Waits ops i j→listed.getD i false=true→listed.getD j false=true
 low:∀ j,p≤j→listed.getD j false=false
theorem Zmp {HH:Nat→List Ob} {H0:List Ob} {p0 p:Nat} {zs:Nat→List D} (hH0:HH p0=H0) (hHs:∀ k,p0≤k→k < p→HH (k+1)=HH k++[.box (zs k)]):∀ (j:Nat),p0+j≤p→∀ (id:Nat) (o:Ob) (jj b:Nat),(HH (p0+j))[id]? = some o→fblk o jj=some b→H0[id]? = some o
 | 0,_,id,o,jj,b,h,hb=>by rw [Nat.add_zero,hH0] at h; exact h
 | j+1,hj,id,o,jj,b,h,hb=>by
  rw [← Nat.add_assoc,hHs _ (by omega) (by omega)] at h
  rcases Nat.lt_or_ge id (HH (p0+j)).length with h1 | h1
  ·rw [List.getElem?_append_left h1] at h; exact Zmp hH0 hHs j (by omega) id o jj b h hb
  ·rw [List.getElem?_append_right h1] at h
   cases hk:id - (HH (p0+j)).length with
   | zero=>rw [hk] at h; simp at h; subst h; cases hb
   | succ k=>rw [hk] at h; simp at h
end Nv
namespace Nv
open Go Go.RowKit
theorem ZcV {ops:Array Oper} (hnd:dstsB ops=true) {V:Nat→D} {p0 i:Nat} (hi:i≤p0) {env:List (Nat × D)} {L:Nat→Prop} {t:Nat} (h:∀ k,(ops[k]?).bind (·.dst)=some t→(L k↔k < i)) :
  valL ops (V1 p0 V) env L t=valL ops V env (· < i) t:=by
 by_cases hx:∃ k,(ops[k]?).bind (·.dst)=some t∧k < i
 ·obtain ⟨k,h1,h2⟩:=hx
  rw [Y2 hnd h1 ((h k h1).2 h2),Y2 hnd h1 (show k < i from h2)]
  simp [V1,show k < p0 by omega]
 ·rw [Jw (fun k hk hl=>hx ⟨k,hk,(h k hk).1 hl⟩),Jw (fun k hk hl=>hx ⟨k,hk,hl⟩)]
end Nv
namespace Nv
open Go Go.RowKit
def allocB (P:Program) (n:Nat) (o:Oper):Bool :=
 match o.op,o.guard with
 | .alloc t,none=>match zeroD P t with
  | some z=>z.all (blC n)
  | none=>false
 | _,_=>false
def zsOf (P:Program) (ops:Array Oper) (k:Nat):List D :=
 match ops[k]? with
 | some o=>match o.op with
  | .alloc t=>(zeroD P t).getD []
  | _=>[]
 | none=>[]
theorem ZiO {P:Program} {n k:Nat} {ops:Array Oper} {o:Oper} (ho:ops[k]? = some o) (h:allocB P n o=true):∃ t,o.op = .alloc t∧o.guard=none∧zeroD P t=some (zsOf P ops k)∧(zsOf P ops k).all (blC n)=true:=by
 unfold allocB at h
 split at h
 ·rename_i t hop hg
  split at h
  ·rename_i z hz
   have e:zsOf P ops k=z:=by simp [zsOf,ho,hop,hz]
   exact ⟨t,hop,hg,by rw [e]; exact hz,by rw [e]; exact h⟩
  ·cases h
 ·cases h
theorem ZiP {n:Nat}:∀ {e:List (Nat × D)},e.all (fun q=>okT n q.2)=true→∀ t,okT n (find e t)=true
 | [],_,t=>rfl
 | q :: e,h,t=>by
  simp only [List.all_cons,Bool.and_eq_true] at h
  simp only [find]
  cases Nat.beq q.1 t with
  | true=>exact h.1
  | false=>exact ZiP h.2 t
def AnyW (P:Program) (ops:Array Oper) (Q:Exit→St→Prop) (s:St):Prop :=
 ∀ F a w,GF P F→Rel F s a w→wpAny P .any ops (fun e a w=>∃ s',Q e s'∧Rel F s' a w) ops.size (Array.replicate ops.size false) a { w with drawn:=w.drawn+1 }
end Nv
namespace Nv
open Go Go.RowKit
theorem Zgh {F:Fr} {ops:Array Oper} {H0:List Ob} {p0 p:Nat} {zs:Nat→List D} {V:Nat→D} {listed:Array Bool} {a:Act} {c:Ctx} {HH:Nat→List Ob}
  (hDH:∃ X,c.H=H0++X∧X.all ngone=true) (hDI:Inv F c) (hall:∀ j,j < p→listed.getD j false=true) (hH0:HH p0=H0) (hHs:∀ k,p0≤k→k < p→HH (k+1)=HH k++[.box (zs k)])
  (hV:∀ k,p0≤k→k < p→V k = .ref (H0.length+(k - p0)) 0) (hbl:H0.all (blO H0.length)=true) (hzs:∀ k,p0≤k→k < p→(zs k).all (blC H0.length)=true)
  (fid:Nat→Nat) (hf1:∀ k,p0≤k→k < p→listed.getD k false=true→H0.length≤fid k∧c.H[fid k]? = some (.box (zs k))∧∀ t,(ops[k]?).bind (·.dst)=some t→TV c (a.tmps.getD t undef) (.ref (fid k) 0))
  (hf2:∀ k l,p0≤k→k < p→p0≤l→l < p→listed.getD k false=true→listed.getD l false=true→fid k=fid l→k=l) :
  ∀ j,p0+j≤p→∃ d:Ctx,d.w=c.w∧d.I=c.I∧Inv F d∧d.H=HH (p0+j)∧d.H.length=H0.length+j∧(∀ v e,TV c v e→blT H0.length e=true→TV d v e)∧(∀ v e,CV c v e→blC H0.length e=true→CV d v e) ∧
   (∀ k,p0≤k→k < p0+j→∀ t,(ops[k]?).bind (·.dst)=some t→TV d (a.tmps.getD t undef) (V k)) ∧
   (∀ id b,d.mu id=some b→(id < H0.length∧c.mu id=some b)∨∃ k,p0≤k∧k < p0+j∧c.mu (fid k)=some b)
 | 0,_=>by
  obtain ⟨X,hX,hXg⟩:=hDH
  refine ⟨c.cut H0.length,rfl,rfl,Zkm hDI ?_ ?_,?_,?_,fun v e h hb=>Zl3 h hb,fun v e h hb=>Zga h hb,fun k h1 h2=>by omega,fun id b h=>?_⟩
  ·rw [hX,List.take_left]; exact hbl
  ·rw [hX,List.drop_left]; exact hXg
  ·show c.H.take H0.length=_
   rw [hX,List.take_left,Nat.add_zero,hH0]
  ·show (c.H.take H0.length).length=_
   rw [hX,List.take_left]; rfl
  ·have h:(if id < H0.length then c.mu id else none)=some b:=h
   split at h
   ·exact .inl ⟨by assumption,h⟩
   ·cases h
 | j+1,hj=>by
  obtain ⟨d,hw,hIe,hI,hH,hlen,htv,hcv,hfl,hmu⟩:=Zgh hDH hDI hall hH0 hHs hV hbl hzs fid hf1 hf2 j (by omega)
  have hk1:p0≤p0+j:=by omega
  have hk2:p0+j < p:=by omega
  obtain ⟨g1,g2,g3⟩:=hf1 (p0+j) hk1 hk2 (hall _ hk2)
  obtain ⟨b,cs,T,hb,hcs,hvs⟩:=hDI.obj _ _ g2
  obtain ⟨l1,l2,l3⟩:=hDI.loc _ b hb
  have hne:∀ id,d.mu id ≠ some b:=fun id h=>by
   rcases hmu id b h with ⟨h1,h2⟩ | ⟨k,h1,h2,h3⟩
   ·have:=hDI.inj id _ b h2 hb
    omega
   ·have:=hf2 k (p0+j) h1 (by omega) hk1 hk2 (hall _ (by omega)) (hall _ hk2) (hDI.inj _ _ b h3 hb)
    omega
  have hz:=hzs (p0+j) hk1 hk2
  have hI':Inv F (d.add (.box (zs (p0+j))) b):=ZnF hI (by rw [hw]; exact l2) l1 (by rw [hIe]; exact l3) hne (fun id o jj h1 h2=>by
   have h3:=Zmp hH0 hHs j (by omega) id o jj b (by rw [← hH]; exact h1) h2
   obtain ⟨X,hX,_⟩:=hDH
   have h4:c.H[id]? = some o:=by rw [hX,List.getElem?_append_left (List.getElem?_eq_some_iff.1 h3).1]; exact h3
   exact (hDI.fb h4 h2).2 _ hb) ⟨cs,T,by rw [hw]; exact hcs,hvs.1,fun i v e h1 h2=>hcv v e (hvs.2 i v e h1 h2) (List.all_eq_true.1 hz e (List.mem_of_getElem? h2))⟩
  refine ⟨d.add (.box (zs (p0+j))) b,hw,hIe,hI',?_,?_,fun v e h hb'=>Zmo hI (htv v e h hb'),fun v e h hb'=>Zev hI (hcv v e h hb'),fun k h1 h2 t ht=>?_,fun id b' h=>?_⟩
  ·show d.H++[_]=_
   rw [hH,← Nat.add_assoc,hHs _ hk1 hk2]
  ·show (d.H++[_]).length=_
   simp [hlen]; omega
  ·rcases Nat.lt_or_ge k (p0+j) with h3 | h3
   ·exact Zmo hI (hfl k h1 h3 t ht)
   ·have:k=p0+j:=by omega
    subst this
    have h4:=g3 t ht
    rw [hV _ hk1 hk2]
    simp only [TV,AV,CV] at h4 ⊢
    obtain ⟨b',h5,h6⟩:=h4
    rw [hb] at h5
    cases h5
    refine ⟨b,?_,h6⟩
    show (if H0.length+(p0+j - p0)=d.H.length then some b else _)=some b
    rw [if_pos (by omega)]
  ·have h:(if id=d.H.length then some b else d.mu id)=some b':=h
   split at h
   ·cases h
    exact .inr ⟨p0+j,hk1,by omega,hb⟩
   ·rcases hmu id b' h with h1 | ⟨k,h1,h2,h3⟩
    ·exact .inl h1
    ·exact .inr ⟨k,h1,by omega,h3⟩
def ct (p0 p:Nat) (zs fs:Nat→List D) (listed:Array Bool) (k:Nat):List D:=bif listed.getD (k+(p - p0)) false then fs k else zs k
theorem Zmq {p0 p:Nat} {zs fs:Nat→List D} {listed:Array Bool} {i k:Nat} (h:i ≠ k+(p - p0)):ct p0 p zs fs (listed.setIfInBounds i true) k=ct p0 p zs fs listed k:=by
 simp only [ct,getD_set_ne false h]
def isTmp (u:Nat):Operand→Bool
 | .tmp t=>Nat.beq t u
 | _=>false
theorem ZiQ {u:Nat} {y:Operand} (h:isTmp u y=true):y = .tmp u:=by
 unfold isTmp at h
 split at h
 ·rw [Nat.eq_of_beq_eq_true h]
 ·cases h
theorem ZnG {X:List Ob} (h:X.all ngone=true) {i:Nat} {o:Ob} (ho:ngone o=true):(X.set i o).all ngone=true:=by
 rw [List.all_eq_true] at h ⊢
 intro x hx
 rcases List.mem_or_eq_of_mem_set hx with h1 | h1
 ·exact h x h1
 ·rw [h1]; exact ho
end Nv
namespace Nv
open Go Go.RowKit
structure GInv (F:Fr) (nt:Nat) (ops:Array Oper) (H0:List Ob) (p0 p:Nat) (zs fs:Nat→List D) (V:Nat→D) (env0:List (Nat × D)) (listed:Array Bool) (a:Act) (c:Ctx):Prop where
 H:∃ X,c.H=H0++X∧X.all ngone=true
 inv:Inv F c
 env:∀ t,GV (yielded ops a.tmps) c (a.tmps.getD t undef) (valL ops (V1 p0 V) env0 (fun i=>listed.getD i false=true) t)
 fl:∃ fid:Nat→Nat,(∀ k,p0≤k→k < p→listed.getD k false=true→H0.length≤fid k∧c.H[fid k]? = some (.box (ct p0 p zs fs listed k))∧∀ t,(ops[k]?).bind (·.dst)=some t→TV c (a.tmps.getD t undef) (.ref (fid k) 0)) ∧
  ∀ k l,p0≤k→k < p→p0≤l→l < p→listed.getD k false=true→listed.getD l false=true→fid k=fid l→k=l
 size:a.tmps.size=nt
 defers:a.defers=[]
 opt:∀ t j w d,valL ops (V1 p0 V) env0 (fun i=>listed.getD i false=true) t = .opt j w d→listed.getD j false=true
 lsize:listed.size=ops.size
 closed:∀ i j,Waits ops i j→listed.getD i false=true→listed.getD j false=true
theorem ZhS {P:Program} {F:Fr} [GF P F] {nt:Nat} {ops:Array Oper} {bs:List Bool} {rq:List Req} {E:Nat→List (Nat × D)} {HH:Nat→List Ob} {V:Nat→D} {H0:List Ob} {p0 p:Nat} {zs fs:Nat→List D} (hfl:flowB ops=true)
  (hp:p0≤p) (hpn:p+(p - p0)=ops.size) (hH0:HH 0=H0)
  (hbl:H0.all (blO H0.length)=true) (hfs:∀ k,p0≤k→k < p→(fs k).all (blC H0.length)=true)
  (hnw:∀ k o,ops[k]? = some o→k < p0→wrB o.op=false) (hok:∀ t,okT H0.length (find (E p0) t)=true)
  (hdst:∀ (k t:Nat),(ops[k]?).bind (·.dst)=some t→t < nt)
  (hal:∀ k,p0≤k→k < p→∃ o t,ops[k]? = some o∧o.op = .alloc t∧o.guard=none∧zeroD P t=some (zs k))
  (hst:∀ k,p0≤k→k < p→∃ o t u x,ops[k+(p - p0)]? = some o∧o.op = .store t (.tmp u) x∧o.guard=none∧o.dst=none∧(ops[k]?).bind (·.dst)=some u ∧
   (∀ t',x = .tmp t'→∀ l,(ops[l]?).bind (·.dst)=some t'→l < p0)∧∀ (H:List Ob) id,H[id]? = some (.box (zs k))→storeD P H t (.ref id 0) (adj P t (evD (E p0) x))=some (H.set id (.box (fs k))))
  (hT:TraceW P nt ops bs rq 0 p0 E HH V) (hb:∀ b∈bs,b=true) (hq:∀ q∈rq,q.ok P) {Q:Exit→Act→World→Prop}
  (hQ:∀ a c,Inv F c→c.H=H0++(List.range (p - p0)).map (fun q=>Ob.box (fs (p0+q)))→a.tmps.size=nt→a.defers=[] →
   (∀ k,p0≤k→k < p→∀ t,(ops[k]?).bind (·.dst)=some t→TV c (a.tmps.getD t undef) (.ref (H0.length+(k - p0)) 0)) →
   (∀ t,(∀ k,p0≤k→k < p→(ops[k]?).bind (·.dst) ≠ some t)→TV c (a.tmps.getD t undef) (find (E p0) t))→Q .normal a c.w) :
  ∀ (fuel:Nat) (listed:Array Bool) (a:Act) (c:Ctx),GInv F nt ops H0 p0 p zs fs V (E 0) listed a c→cnt listed+fuel=ops.size→wpAny P .any ops Q fuel listed a c.w:=by
 simp only [flowB,Bool.and_eq_true,List.all_eq_true] at hfl
 obtain ⟨hnd,hfl⟩:=hfl
 have flow:∀ i o,ops[i]? = some o→flowAt ops (Region.before ops) i o=true:=fun i o ho=>by
  have hlt:=(Array.getElem?_eq_some_iff.1 ho).1
  refine hfl (o,i) ?_
  rw [List.mem_zipIdx_iff_getElem?]
  simpa using ho
 -- nothing is ready: all are listed
 have stuckAll:∀ (listed:Array Bool),listed.size=ops.size→Region.ready .any ops listed=[]→∀ i,i < ops.size→listed.getD i false=true:=by
  intro listed hls hr i
  induction i using Nat.strongRecOn with
  | _ i ih =>
   intro hi
   cases hl:listed.getD i false with
   | true=>rfl
   | false =>
    exfalso
    have:i∈Region.ready .any ops listed:=by
     rw [mem_ready]
     refine ⟨by simp [hls,hi] at hl ⊢; exact hl,ops[i],by simp [hi],fun e he hbi=>?_⟩
     have h1:=flow i ops[i] (by simp [hi])
     simp only [flowAt,Bool.and_eq_true] at h1
     have h2:=Array.all_eq_true'.1 h1.1.1 e he
     simp only [hbi,Bool.not_true,Bool.false_or] at h2
     have h3:=Xj h2
     exact ih e.on h3 (by omega)
    rw [hr] at this
    cases this
 have nodst:∀ l t,(ops[l]?).bind (·.dst)=some t→l < p:=fun l t hl=>by
  rcases Nat.lt_or_ge l p with h | h
  ·exact h
  ·exfalso
   have hlt:l < ops.size:=by
    obtain ⟨o,ho,_⟩:=Option.bind_eq_some_iff.1 hl
    exact (Array.getElem?_eq_some_iff.1 ho).1
   obtain ⟨o,t2,u,x,ho,_,_,hdn,_⟩:=hst (l - (p - p0)) (by omega) (by omega)
   rw [show l - (p - p0)+(p - p0)=l by omega] at ho
   rw [ho] at hl
   simp [hdn] at hl
 have fin:∀ (listed:Array Bool) a c,GInv F nt ops H0 p0 p zs fs V (E 0) listed a c→(∀ i,i < ops.size→listed.getD i false=true)→Q .normal a c.w:=fun listed a c hD hall=>by
  obtain ⟨fid,f1,f2⟩:=hD.fl
  have hct:∀ k,p0≤k→k < p→ct p0 p zs fs listed k=fs k:=fun k h1 h2=>by simp only [ct,hall (k+(p - p0)) (by omega)]; rfl
  obtain ⟨d,hw,_,hI,hH,_,htv,_,hfl',_⟩:=Zgh (ops:=ops) (p0:=p0) (p:=p) (zs:=fs) (V:=fun k=>.ref (H0.length+(k - p0)) 0) (listed:=listed) (a:=a) (HH:=fun k=>H0++(List.range (k - p0)).map (fun q=>Ob.box (fs (p0+q)))) hD.H hD.inv (fun j hj=>hall j (by omega)) (by simp) (fun k h1 h2=>by
    show H0++_=(H0++_)++_
    rw [show k+1 - p0=(k - p0)+1 by omega,List.range_succ,List.map_append,List.append_assoc]
    simp only [List.map_cons,List.map_nil]
    rw [show p0+(k - p0)=k by omega]) (fun k h1 h2=>rfl) hbl hfs fid (fun k h1 h2 h3=>by have:=f1 k h1 h2 h3; rw [hct k h1 h2] at this; exact this) f2 (p - p0) (by omega)
  rw [← hw]
  refine hQ a d hI (by rw [hH]; simp only [show p0+(p - p0) - p0=p - p0 by omega]) hD.size hD.defers (fun k h1 h2 t ht=>hfl' k h1 (by omega) t ht) fun t ht=>?_
  have hv:=hD.env t
  have hval:valL ops (V1 p0 V) (E 0) (fun i=>listed.getD i false=true) t=find (E p0) t:=by
   rw [RF hnd hT p0 (Nat.le_refl _) t]
   refine ZcV hnd (Nat.le_refl _) fun k hk=>⟨fun _=>?_,fun h=>hall k (by omega)⟩
   rcases Nat.lt_or_ge k p0 with h | h
   ·exact h
   ·exact absurd hk (ht k h (nodst k t hk))
  rw [hval] at hv
  have h4:=hok t
  generalize find (E p0) t=e at hv h4
  cases e <;> simp only [okT] at h4 <;> first | (cases h4; done) | exact htv _ _ hv h4
 intro fuel
 induction fuel with
 | zero =>
  intro listed a c hD hcnt
  have hall:∀ i,i < ops.size→listed.getD i false=true:=by
   have:=Kw (listed:=listed) (by rw [hD.lsize]; omega)
   rw [hD.lsize] at this
   exact this
  refine ⟨?_,fin listed a c hD hall⟩
  cases hr:Region.ready .any ops listed with
  | nil=>rfl
  | cons i r =>
   exfalso
   have:i∈Region.ready .any ops listed:=by rw [hr]; exact List.mem_cons_self
   obtain ⟨h1,o,ho,_⟩:=mem_ready.1 this
   have hi:=(Array.getElem?_eq_some_iff.1 ho).1
   have h2:=hall i hi
   simp [hD.lsize,hi] at h1 h2
   rw [h1] at h2
   cases h2
 | succ fuel ih =>
  intro listed a c hD hcnt
  refine ⟨fun hr=>fin listed a c hD (stuckAll listed hD.lsize hr),fun i hi=>?_⟩
  obtain ⟨hun,o,ho,hall⟩:=mem_ready.1 hi
  have hilt:=(Array.getElem?_eq_some_iff.1 ho).1
  have hunf:listed.getD i false=false:=by simp [hD.lsize,hilt] at hun ⊢; exact hun
  have hwaits:∀ j,Waits ops i j→listed.getD j false=true:=fun j ⟨o',ho',e,he,hbi,hon⟩=>by
   rw [ho] at ho'
   cases ho'
   rw [← hon]
   exact hall e he hbi
  have reachI:∀ l,((Region.before ops).getD i 0).testBit l=true→listed.getD l false=true:=fun l hb2=>X2 hD.closed (X0 ops i l hilt hb2) hwaits
  -- a store stands behind its allocation
  have hsa:∀ k,p0≤k→k < p→listed.getD (k+(p - p0)) false=true→listed.getD k false=true:=fun k h1 h2 hl=>by
   obtain ⟨o2,t2,u,x,ho2,hop2,_,_,hdu,_⟩:=hst k h1 h2
   have hf:=flow _ _ ho2
   simp only [flowAt,Bool.and_eq_true] at hf
   have h3:=List.all_eq_true.1 hf.2 u (by simp only [needs,List.mem_append,List.mem_filterMap]; exact .inl ⟨.tmp u,by rw [hop2]; simp [Op.operands],rfl⟩)
   obtain ⟨ok,hok1,hdk⟩:=Option.bind_eq_some_iff.1 hdu
   have h4:=List.all_eq_true.1 h3 (ok,k) (by rw [List.mem_zipIdx_iff_getElem?]; simpa using hok1)
   simp only [hdk,Nat.beq_refl,Bool.not_true,Bool.false_or,Bool.or_eq_true,Bool.and_eq_true] at h4
   rcases h4 with (h4 | ⟨_,h5⟩) | ⟨h4,_⟩
   ·have:=Nat.eq_of_beq_eq_true h4; omega
   ·exact X2 hD.closed (X0 ops _ k (by omega) h5) (fun j hj=>hD.closed _ _ hj hl)
   ·have:=Xj h4; omega
  have new:∀ v c',Inv F c'→(∃ X,c'.H=H0++X∧X.all ngone=true)→(∀ u e,TV c u e→TV c' u e)→GV (yielded ops (a.put o.dst v).tmps) c' v (V1 p0 V i)→(∀ j w d,V1 p0 V i = .opt j w d→listed.getD j false=true) →
    (∃ fid:Nat→Nat,(∀ k,p0≤k→k < p→(listed.setIfInBounds i true).getD k false=true→H0.length≤fid k∧c'.H[fid k]? = some (.box (ct p0 p zs fs (listed.setIfInBounds i true) k))∧∀ t,(ops[k]?).bind (·.dst)=some t→TV c' ((a.put o.dst v).tmps.getD t undef) (.ref (fid k) 0)) ∧
     ∀ k l,p0≤k→k < p→p0≤l→l < p→(listed.setIfInBounds i true).getD k false=true→(listed.setIfInBounds i true).getD l false=true→fid k=fid l→k=l) →
    wpAny P .any ops Q fuel (listed.setIfInBounds i true) (a.put o.dst v) c'.w:=fun v c' hI' hHn htr hv hvo hfl'=>by
   have hL:∀ j,(listed.setIfInBounds i true).getD j false=true↔j=i∨listed.getD j false=true:=fun j=>by
    by_cases hji:j=i
    ·subst hji; simp [hD.lsize,hilt]
    ·rw [getD_set_ne false (Ne.symm hji)]; simp [hji]
   have hvalo:∀ t,(∀ u,o.dst=some u→u ≠ t)→valL ops (V1 p0 V) (E 0) (fun j=>(listed.setIfInBounds i true).getD j false=true) t=valL ops (V1 p0 V) (E 0) (fun j=>listed.getD j false=true) t:=fun t ht=>by
    refine Yg hnd fun k hk=>?_
    show (listed.setIfInBounds i true).getD k false=true↔_
    rw [hL]
    refine ⟨fun h=>?_,.inr⟩
    rcases h with rfl | h
    ·rw [ho] at hk
     exact absurd rfl (ht t hk)
    ·exact h
   have hyj:∀ j,listed.getD j false=true→yielded ops (a.put o.dst v).tmps j=yielded ops a.tmps j:=fun j hj=>Ji fun t ht e=>by
    have:=JX hnd (show (ops[i]?).bind (·.dst)=some t by rw [ho]; exact ht) e
    subst this
    rw [hunf] at hj
    cases hj
   have keep:∀ t,GV (yielded ops (a.put o.dst v).tmps) c' (a.tmps.getD t undef) (valL ops (V1 p0 V) (E 0) (fun j=>listed.getD j false=true) t):=fun t=>by
    have h1:=Gx htr (hD.env t)
    cases hf:valL ops (V1 p0 V) (E 0) (fun j=>listed.getD j false=true) t <;> rw [hf] at h1 <;> try exact h1
    rename_i j w d
    simp only [GV] at h1 ⊢
    rw [hyj j (hD.opt t j w d hf)]
    exact h1
   refine ih _ _ c' ⟨hHn,hI',fun t=>?_,hfl',by rw [Gw]; exact hD.size,by rw [Uk]; exact hD.defers,fun t j w d hf=>?_,by simp [hD.lsize],fun p q hpq hp=>?_⟩ ?_
   ·by_cases hdt:o.dst=some t
    ·have hit:(ops[i]?).bind (·.dst)=some t:=by rw [ho]; exact hdt
     rw [Y2 hnd hit ((hL i).2 (.inl rfl))]
     have htl:t < a.tmps.size:=by rw [hD.size]; exact hdst i t hit
     have e:(a.put o.dst v).tmps.getD t undef=v:=by rw [hdt]; exact Va htl
     rw [e]
     exact hv
    ·rw [hvalo t (fun u hu e=>hdt (by rw [hu,e])),U2 hdt]
     exact keep t
   ·rw [hL]
    right
    by_cases hdt:o.dst=some t
    ·have hit:(ops[i]?).bind (·.dst)=some t:=by rw [ho]; exact hdt
     rw [Y2 hnd hit ((hL i).2 (.inl rfl))] at hf
     exact hvo j w d hf
    ·rw [hvalo t (fun u hu e=>hdt (by rw [hu,e]))] at hf
     exact hD.opt t j w d hf
   ·rw [hL] at hp ⊢
    right
    rcases hp with rfl | hp
    ·exact hwaits q hpq
    ·exact hD.closed p q hpq hp
   ·rw [Rk (by rw [hD.lsize]; exact hilt) hunf]
    omega
  have fput:∀ v c',(∀ u e,TV c u e→TV c' u e)→∀ k t,k ≠ i→(ops[k]?).bind (·.dst)=some t→∀ e,TV c (a.tmps.getD t undef) e→TV c' ((a.put o.dst v).tmps.getD t undef) e:=fun v c' htr k t hki hk e h=>by
   rw [U2 (fun hdt=>hki (JX hnd hk (by rw [ho]; exact hdt)))]
   exact htr _ _ h
  rcases Nat.lt_or_ge i p0 with hi0 | hi0
  ·have hwr:=hnw i o ho hi0
   obtain ⟨o',orc0,b,r,orc1,ho',hstep,hb1,hr1⟩:=hT.step i (Nat.zero_le _) hi0
   rw [ho] at ho'
   cases ho'
   have hHi:HH i=H0:=by
    have:=RG hT (p:=0) i (by omega) fun w ow h1 h2 how=>hnw w ow how (by omega)
    rw [Nat.zero_add] at this
    rw [this,hH0]
   have e1:V1 p0 V i=V i:=by simp [V1,hi0]
   have newP:∀ v c',Inv F c'→c'.H=c.H→(∀ u e,TV c u e→TV c' u e)→GV (yielded ops (a.put o.dst v).tmps) c' v (V i)→(∀ j w d,V i = .opt j w d→listed.getD j false=true) →
     wpAny P .any ops Q fuel (listed.setIfInBounds i true) (a.put o.dst v) c'.w:=fun v c' hI' hH' htr hv hvo=>by
    obtain ⟨fid,f1,f2⟩:=hD.fl
    refine new v c' hI' (by rw [hH']; exact hD.H) htr (by rw [e1]; exact hv) (by rw [e1]; exact hvo) ⟨fid,fun k h1 h2 h3=>?_,fun k l h1 h2 h3 h4 h5 h6 h7=>?_⟩
    ·rw [getD_set_ne false (by omega)] at h3
     obtain ⟨g1,g2,g3⟩:=f1 k h1 h2 h3
     exact ⟨g1,by rw [hH',Zmq (by omega)]; exact g2,fun t ht=>fput v c' htr k t (by omega) ht _ (g3 t ht)⟩
    ·rw [getD_set_ne false (by omega)] at h5 h6
     exact f2 k l h1 h2 h3 h4 h5 h6 h7
   have reachI:∀ l,((Region.before ops).getD i 0).testBit l=true→listed.getD l false=true:=fun l hb2=>X2 hD.closed (X0 ops i l hilt hb2) hwaits
   have hfa:=flow i o ho
   simp only [flowAt,Bool.and_eq_true] at hfa
   obtain ⟨⟨hf1,hf2⟩,hf3⟩:=hfa
   -- what the operation looks at has its value of the text's order
   have same:∀ t∈needs ops o,valL ops (V1 p0 V) (E 0) (fun i=>listed.getD i false=true) t=find (E i) t:=fun t ht=>by
    rw [RF hnd hT i (by omega) t]
    refine ZcV hnd (Nat.le_of_lt hi0) fun k hk=>?_
    have h1:=List.all_eq_true.1 hf3 t ht
    obtain ⟨ok,hok,hdk⟩:=Option.bind_eq_some_iff.1 hk
    have hklt:=(Array.getElem?_eq_some_iff.1 hok).1
    have h2:=List.all_eq_true.1 h1 (ok,k) (by rw [List.mem_zipIdx_iff_getElem?]; simpa using hok)
    simp only [hdk] at h2
    have e1:Nat.beq t t=true:=Nat.beq_refl t
    rw [e1] at h2
    simp only [Bool.not_true,Bool.false_or,Bool.or_eq_true,Bool.and_eq_true] at h2
    rcases h2 with (h2 | ⟨h2,h3⟩) | ⟨h2,h3⟩
    ·obtain rfl:=Nat.eq_of_beq_eq_true h2
     exact ⟨fun h=>(by rw [hunf] at h; cases h),fun h=>by omega⟩
    ·exact ⟨fun _=>Xj h2,fun _=>X2 hD.closed (X0 ops i k hilt h3) hwaits⟩
    ·have hik:=Xj h2
     refine ⟨fun h=>?_,fun h=>by omega⟩
     have:=X2 hD.closed (X0 ops k i hklt h3) (fun j hj=>hD.closed _ _ hj h)
     rw [hunf] at this
     cases this
   have hops:∀ x∈o.op.operands.toList,GV (yielded ops a.tmps) c (a.eval x) (evD (E i) x):=fun x hx=>by
    cases x with
    | tmp t =>
     show GV _ _ _ (find (E i) t)
     rw [← same t (by simp only [needs,List.mem_append,List.mem_filterMap]; exact .inl ⟨.tmp t,hx,rfl⟩)]
     exact hD.env t
    | const v=>exact Xw (Za1 c v)
    | global g=>exact Xw Wp
    | func f=>exact Xw ⟨#[],rfl,rfl,fun i v d h1 _=>by simp at h1⟩
   have hgf:GuardFacts ops a c (E i) (gch ops 20 o.guard):=fun p hp t ht=>by
    rw [← same t (by simp only [needs,List.mem_append,List.mem_filterMap]; exact .inr ⟨p,hp,ht⟩)]
    exact hD.env t
   unfold wpOp
   simp only [ho]
   unfold stepDw at hstep
   rw [hwr] at hstep
   simp only at hstep
   split at hstep
   case h_2=>cases hstep
   rename_i d0 b0 r0 o0 hstep0
   simp only [Option.some.injEq,Prod.mk.injEq] at hstep
   obtain ⟨hV0,_,rfl,rfl,rfl⟩:=hstep
   rw [hV0] at hstep0
   rename_i hstep
   have hstep:=hstep0
   unfold stepDr at hstep
   split at hstep <;> try cases hstep
   rename_i g hg
   have hopc:∀ {x},opD P (HH i) ops (E i) (gch ops 20 o.guard) orc0 g o=some x→opD P c.H ops (E i) (gch ops 20 o.guard) orc0 g o=some x:=fun {x} h=>by
    obtain ⟨X,hX,_⟩:=hD.H
    rw [hX,← hHi]
    exact ZiN X h
   split at hstep
   ·rename_i d bs0 rq0 orc2 j want hop hgd
    cases hlt:Nat.blt j i with
    | false=>simp [hlt] at hstep
    | true =>
     simp only [hlt,cond_true,Option.some.injEq,Prod.mk.injEq] at hstep
     obtain ⟨hV,rfl,rfl,rfl⟩:=hstep
     have hji:=Xj hlt
     have hyj:∀ v,yielded ops (a.put o.dst v).tmps j=yielded ops a.tmps j:=fun v=>Ji fun t ht e=>by
      have:=JX hnd (show (ops[i]?).bind (·.dst)=some t by rw [ho]; exact ht) e
      omega
     have hjl:listed.getD j false=true:=by
      rw [hgd] at hf2
      simp only at hf2
      obtain ⟨e,he,h1⟩:=Array.any_eq_true'.1 hf2
      simp only [Bool.and_eq_true] at h1
      rw [← Nat.eq_of_beq_eq_true h1.2]
      exact hall e he h1.1
     have hwant:Region.wanted o (yielded ops a.tmps)=(yielded ops a.tmps j==some want):=by simp [Region.wanted,hgd]
     have hvo:∀ j' w d',V i = .opt j' w d'→listed.getD j' false=true:=fun j' w d' h=>by rw [← hV] at h; cases h; exact hjl
     cases hw:Region.wanted o (yielded ops a.tmps) with
     | true =>
      simp only [if_true]
      refine .inl (V3 hD.inv hops hgf hg hw (hopc hop) (fun b hb'=>hb b (hb1 b hb')) (fun q hq'=>hq q (hr1 q hq')) fun v c' hI' haf=>?_)
      obtain ⟨hgo,_,htv⟩:=haf
      refine newP v c' hI' hgo.H (fun _ _=>hgo.tv) ?_ hvo
      rw [← hV]
      refine .inl ⟨?_,htv⟩
      rw [hyj]
      rw [hw] at hwant
      simpa using hwant.symm
     | false =>
      simp only [Bool.false_eq_true,if_false]
      refine newP undef c hD.inv rfl (fun _ _ h=>h) ?_ hvo
      rw [← hV]
      refine .inr ⟨?_,rfl⟩
      rw [hyj]
      rw [hw] at hwant
      simpa using hwant.symm
   ·rename_i d bs0 rq0 orc2 hop hgd
    simp only [Option.some.injEq,Prod.mk.injEq] at hstep
    obtain ⟨hV,rfl,rfl,rfl⟩:=hstep
    have hw:Region.wanted o (yielded ops a.tmps)=true:=by simp [Region.wanted,hgd]
    simp only [hw,if_true]
    refine .inl (V3 hD.inv hops hgf hg hw (hopc hop) (fun b hb'=>hb b (hb1 b hb')) (fun q hq'=>hq q (hr1 q hq')) fun v c' hI' haf=>?_)
    obtain ⟨hgo,_,htv⟩:=haf
    refine newP v c' hI' hgo.H (fun _ _=>hgo.tv) ?_ (fun j w d' h=>?_)
    ·rw [← hV]; exact Xw htv
    ·rw [← hV] at h
     subst h
     simp only [TV,AV] at htv
     exact absurd htv Yl
   ·cases hstep
  rcases Nat.lt_or_ge i p with hip | hip
  ·obtain ⟨o2,t2,ho2,hop2,hgd,hz⟩:=hal i hi0 hip
   rw [ho] at ho2
   cases ho2
   unfold wpOp
   simp only [ho]
   have hw:Region.wanted o (yielded ops a.tmps)=true:=by simp [Region.wanted,hgd]
   simp only [hw,if_true]
   obtain ⟨v,c',hrun',hI',hH',htr,htv⟩:=Zbb (P:=P) (ρc:=a.eval) (ρd:=fun _=>.any) hD.inv (o:=o) (fun x hx=>by rw [hop2] at hx; simp [Op.operands] at hx) (d:=.ref c.H.length 0) (H':=c.H++[.box (zs i)]) (pid:=none) (bs:=[]) (by rw [hop2]; simp [heapD,allocD,hz]) (by simp)
   have htr:∀ u e,TV c u e→TV c' u e:=fun u e h=>htr u e h
   have e1:V1 p0 V i = .any:=by simp [V1,show ¬ i < p0 by omega]
   obtain ⟨X,hX,hXg⟩:=hD.H
   obtain ⟨fid,f1,f2⟩:=hD.fl
   have hset:∀ k,k ≠ i→(listed.setIfInBounds i true).getD k false=true→listed.getD k false=true:=fun k hk h=>by rwa [getD_set_ne false (Ne.symm hk)] at h
   have hltf:∀ k,p0≤k→k < p→listed.getD k false=true→fid k < c.H.length:=fun k h1 h2 h3=>(List.getElem?_eq_some_iff.1 (f1 k h1 h2 h3).2.1).1
   have hnew:=new v c' hI' ⟨X++[.box (zs i)],by rw [hH',hX,List.append_assoc],by simp [hXg,ngone]⟩ htr (by rw [e1]; exact Xw Wp) (fun j w d h=>by rw [e1] at h; cases h)
    ⟨fun k=>if k=i then c.H.length else fid k,fun k h1 h2 h3=>?_,fun k l h1 h2 h3 h4 h5 h6 h7=>?_⟩
   ·refine .inl ?_
    unfold Oper.wp
    rcases hrun' with h1 | ⟨h1,rfl⟩
    ·rw [h1]; exact hnew
    ·rw [h1]; exact hnew
   ·by_cases hki:k=i
    ·subst hki
     simp only [if_true]
     refine ⟨by rw [hX]; simp,?_,fun t ht=>?_⟩
     ·have hun2:listed.getD (k+(p - p0)) false=false:=by
       cases hl:listed.getD (k+(p - p0)) false with
       | false=>rfl
       | true=>rw [hsa k h1 h2 hl] at hunf; cases hunf
      rw [hH']; simp [ct,getD_set_ne false (show k ≠ k+(p - p0) by omega),hun2]
     rw [ho] at ht
     have htl:t < a.tmps.size:=by rw [hD.size]; exact hdst k t (by rw [ho]; exact ht)
     have e:(a.put o.dst v).tmps.getD t undef=v:=by
      have ht:o.dst=some t:=ht
      rw [ht]; exact Va htl
     rw [e]
     exact htv
    ·simp only [if_neg hki]
     obtain ⟨g1,g2,g3⟩:=f1 k h1 h2 (hset k hki h3)
     exact ⟨g1,by rw [hH',Zmq (by omega)]; exact Kz _ g2,fun t ht=>fput v c' htr k t hki ht _ (g3 t ht)⟩
   ·have h7:(if k=i then c.H.length else fid k)=(if l=i then c.H.length else fid l):=h7
    by_cases hki:k=i <;> by_cases hli:l=i
    ·omega
    ·rw [if_pos hki,if_neg hli] at h7
     have:=hltf l h3 h4 (hset l hli h6); omega
    ·rw [if_neg hki,if_pos hli] at h7
     have:=hltf k h1 h2 (hset k hki h5); omega
    ·rw [if_neg hki,if_neg hli] at h7
     exact f2 k l h1 h2 h3 h4 (hset k hki h5) (hset l hli h6) h7
  ·-- a store into a floating variable
   have hm:p - p0+p=ops.size:=by omega
   have hk1:p0≤i - (p - p0):=by omega
   have hk2:i - (p - p0) < p:=by omega
   obtain ⟨o2,t2,u,x,ho2,hop2,hgd,hdn,hdu,hx,hsto⟩:=hst (i - (p - p0)) hk1 hk2
   rw [show i - (p - p0)+(p - p0)=i by omega,ho] at ho2
   cases ho2
   generalize hkk:i - (p - p0)=k at *
   have hik:i=k+(p - p0):=by omega
   have need:∀ t',t'∈needs ops o→∀ l,(ops[l]?).bind (·.dst)=some t'→l < i→listed.getD l false=true:=fun t' ht' l hl hli=>by
    have hf:=flow _ _ ho
    simp only [flowAt,Bool.and_eq_true] at hf
    have h3:=List.all_eq_true.1 hf.2 t' ht'
    obtain ⟨ok,hok1,hdk⟩:=Option.bind_eq_some_iff.1 hl
    have h4:=List.all_eq_true.1 h3 (ok,l) (by rw [List.mem_zipIdx_iff_getElem?]; simpa using hok1)
    simp only [hdk,Nat.beq_refl,Bool.not_true,Bool.false_or,Bool.or_eq_true,Bool.and_eq_true] at h4
    rcases h4 with (h4 | ⟨_,h5⟩) | ⟨h4,_⟩
    ·have:=Nat.eq_of_beq_eq_true h4; omega
    ·exact reachI l h5
    ·have:=Xj h4; omega
   have hkl:listed.getD k false=true:=need u (by simp only [needs,List.mem_append,List.mem_filterMap]; exact .inl ⟨.tmp u,by rw [hop2]; simp [Op.operands],rfl⟩) k hdu (by omega)
   have hxv:TV c (a.eval x) (evD (E p0) x):=by
    cases x with
    | tmp t' =>
     show TV c _ (find (E p0) t')
     have hv:=hD.env t'
     have hval:valL ops (V1 p0 V) (E 0) (fun i=>listed.getD i false=true) t'=find (E p0) t':=by
      rw [RF hnd hT p0 (Nat.le_refl _) t']
      refine ZcV hnd (Nat.le_refl _) fun l hl=>⟨fun _=>hx t' rfl l hl,fun h=>need t' (by simp only [needs,List.mem_append,List.mem_filterMap]; exact .inl ⟨.tmp t',by rw [hop2]; simp [Op.operands],rfl⟩) l hl (by omega)⟩
     rw [hval] at hv
     have h4:=hok t'
     show TV c (a.tmps.getD t' undef) _
     generalize find (E p0) t'=e at hv h4
     cases e <;> simp only [okT] at h4 <;> first | (cases h4; done) | exact hv
    | const v=>exact Za1 c v
    | global g=>exact Wp
    | func f=>exact ⟨#[],rfl,rfl,fun i v d h1 _=>by simp at h1⟩
   obtain ⟨fid,f1,f2⟩:=hD.fl
   obtain ⟨g1,g2,g3⟩:=f1 k hk1 hk2 hkl
   have hct:ct p0 p zs fs listed k=zs k:=by simp only [ct,← hik,hunf]; rfl
   rw [hct] at g2
   unfold wpOp
   simp only [ho]
   have hw:Region.wanted o (yielded ops a.tmps)=true:=by simp [Region.wanted,hgd]
   simp only [hw,if_true]
   have hA:∀ y∈o.op.operands.toList,TV c (a.eval y) ((fun y=>bif isTmp u y then .ref (fid k) 0 else evD (E p0) y) y):=fun y hy=>by
    show TV c (a.eval y) (bif isTmp u y then .ref (fid k) 0 else evD (E p0) y)
    rw [hop2] at hy
    simp only [Op.operands] at hy
    cases hb2:isTmp u y with
    | true =>
     obtain rfl:=ZiQ hb2
     simp only [cond_true]
     exact g3 u hdu
    | false =>
     simp only [cond_false]
     have hyx:y=x:=by
      simp at hy
      rcases hy with rfl | rfl
      ·simp [isTmp,Nat.beq_refl] at hb2
      ·rfl
     subst hyx
     exact hxv
   have hB:heapD P c.H (fun y=>bif isTmp u y then .ref (fid k) 0 else evD (E p0) y) o.op=some (.any,c.H.set (fid k) (.box (fs k)),none,[]):=by
    rw [hop2]
    have hxu:isTmp u x=false:=by
     cases h:isTmp u x with
     | false=>rfl
     | true=>have:=hx u (ZiQ h) k hdu; omega
    have hu:isTmp u (.tmp u)=true:=by simp [isTmp,Nat.beq_refl]
    simp only [heapD,hu,hxu,cond_true,cond_false]
    rw [hsto _ _ g2]
    rfl
   obtain ⟨v,c',hrun',hI',hH',htr,htv⟩:=Zbb (P:=P) (ρc:=a.eval) hD.inv (o:=o) hA hB (by simp)
   have htr:∀ y e,TV c y e→TV c' y e:=fun y e h=>htr y e h
   have e1:V1 p0 V i = .any:=by simp [V1,show ¬ i < p0 by omega]
   obtain ⟨X,hX,hXg⟩:=hD.H
   have hset:∀ j,j ≠ i→(listed.setIfInBounds i true).getD j false=true→listed.getD j false=true:=fun j hj h=>by rwa [getD_set_ne false (Ne.symm hj)] at h
   have hnew:=new v c' hI' ⟨X.set (fid k - H0.length) (.box (fs k)),by rw [hH',hX,List.set_append_right _ _ g1],ZnG hXg rfl⟩ htr (by rw [e1]; exact Xw Wp) (fun j w d h=>by rw [e1] at h; cases h)
    ⟨fid,fun j h1 h2 h3=>?_,fun j l h1 h2 h3 h4 h5 h6 h7=>f2 j l h1 h2 h3 h4 (hset j (by omega) h5) (hset l (by omega) h6) h7⟩
   ·refine .inl ?_
    unfold Oper.wp
    rcases hrun' with h1 | ⟨h1,rfl⟩
    ·rw [h1]; exact hnew
    ·rw [h1]; exact hnew
   ·have h3':=hset j (by omega) h3
    obtain ⟨q1,q2,q3⟩:=f1 j h1 h2 h3'
    refine ⟨q1,?_,fun t ht=>fput v c' htr j t (by omega) ht _ (q3 t ht)⟩
    rw [hH']
    by_cases hjk:j=k
    ·subst hjk
     have hlt:=(List.getElem?_eq_some_iff.1 g2).1
     have hc2:ct p0 p zs fs (listed.setIfInBounds i true) j=fs j:=by
      simp only [ct,← hik]
      rw [show (listed.setIfInBounds i true).getD i false=true by simp [hD.lsize,hilt]]; rfl
     rw [hc2,List.getElem?_set_self hlt]
    ·have hne:fid j ≠ fid k:=fun e=>hjk (f2 j k h1 h2 hk1 hk2 h3' hkl e)
     rw [List.getElem?_set_ne (Ne.symm hne),Zmq (by omega)]
     exact q2
end Nv
namespace Nv
open Go Go.RowKit
def fsOf (P:Program) (ops:Array Oper) (p0 p:Nat) (e1:List (Nat × D)) (k:Nat):List D :=
 match ops[k+(p - p0)]? with
 | some o=>match o.op with
  | .store t _ x=>match cellsOfD (adj P t (evD e1 x)) with
   | some cs=>splice (zsOf P ops k) cs 0
   | none=>[]
  | _=>[]
 | none=>[]
def srcB (ops:Array Oper) (p0:Nat):Operand→Bool
 | .tmp t=>ops.toList.zipIdx.all fun q=>match q.1.dst with | some d=>!Nat.beq d t||Nat.blt q.2 p0 | none=>true
 | _=>true
def stB (P:Program) (n:Nat) (ops:Array Oper) (p0 p:Nat) (e1:List (Nat × D)) (k:Nat):Bool :=
 match ops[k+(p - p0)]?,(ops[k]?).bind (·.dst) with
 | some o,some u=>match o.op,o.guard,o.dst with
  | .store t (.tmp u') x,none,none=>Nat.beq u' u&&srcB ops p0 x&&(match szO P t,cellsOfD (adj P t (evD e1 x)) with
   | some kk,some cs=>Nat.beq cs.length kk&&cs.all cellB&&Nat.ble (0+kk) (zsOf P ops k).length&&(splice (zsOf P ops k) cs 0).all (blC n)
   | _,_=>false)
  | _,_,_=>false
 | _,_=>false
theorem Zgi {P:Program} {n:Nat} {ops:Array Oper} {p0 p:Nat} {e1:List (Nat × D)} {k:Nat} (h:stB P n ops p0 p e1 k=true) :
  (∃ o t u x,ops[k+(p - p0)]? = some o∧o.op = .store t (.tmp u) x∧o.guard=none∧o.dst=none∧(ops[k]?).bind (·.dst)=some u ∧
   (∀ t',x = .tmp t'→∀ l,(ops[l]?).bind (·.dst)=some t'→l < p0)∧∀ (H:List Ob) id,H[id]? = some (.box (zsOf P ops k))→storeD P H t (.ref id 0) (adj P t (evD e1 x))=some (H.set id (.box (fsOf P ops p0 p e1 k))))∧(fsOf P ops p0 p e1 k).all (blC n)=true:=by
 unfold stB at h
 split at h
 ·rename_i o u ho hu
  split at h
  ·rename_i t u' x hop hg hd
   simp only [Bool.and_eq_true] at h
   obtain ⟨⟨h1,h2⟩,h3⟩:=h
   obtain rfl:=Nat.eq_of_beq_eq_true h1
   split at h3
   ·rename_i kk cs hk hcs
    simp only [Bool.and_eq_true] at h3
    obtain ⟨⟨⟨h4,h5⟩,h6⟩,h7⟩:=h3
    have e:fsOf P ops p0 p e1 k=splice (zsOf P ops k) cs 0:=by simp only [fsOf,ho,hop,hcs]
    refine ⟨⟨o,t,u',x,ho,hop,hg,hd,hu,fun t' hx l hl=>?_,fun H id hH=>?_⟩,by rw [e]; exact h7⟩
    ·subst hx
     obtain ⟨ol,hol,hdl⟩:=Option.bind_eq_some_iff.1 hl
     have:=List.all_eq_true.1 h2 (ol,l) (by rw [List.mem_zipIdx_iff_getElem?]; simpa using hol)
     simp only [hdl,Nat.beq_refl,Bool.not_true,Bool.false_or] at this
     exact Xj this
    ·simp only [storeD,hk,hcs,h4,h5,Bool.and_self,cond_true,hH,h6,e]
   ·cases h3
  ·cases h
 ·cases h
def regG (P:Program) (ops:Array Oper) (p0 p:Nat) (orc:List Res) (keep:List Nat) (hn:Nat) (s:St):Option (St × List Bool × List Req) :=
 bif flowB ops&&P.follows .mixedOrders&&Nat.ble p0 p&&Nat.beq (p+(p - p0)) ops.size&&(ops.toList.take p0).all (fun o=>!wrB o.op)&&((ops.toList.drop p0).take (p - p0)).all (allocB P s.H.length)&&s.H.all (blO s.H.length) &&
   ops.toList.all (fun o=>match o.dst with | some t=>Nat.blt t s.nt | none=>true) then
  match runDw P s.nt ops 0 (ops.toList.take p0) s.env s.H orc with
  | some (e1,_,bs1,rq1,_)=>bif e1.all (fun q=>okT s.H.length q.2)&&(List.range (p - p0)).all (fun j=>stB P s.H.length ops p0 p e1 (p0+j)) then
    (cutS hn ⟨s.nt,fin ((List.range (p - p0)).map (fun j=>(((ops[p0+j]?).bind (·.dst)).getD 0,D.ref (s.H.length+j) 0))++e1) keep,s.H++(List.range (p - p0)).map (fun q=>Ob.box (fsOf P ops p0 p e1 (p0+q)))⟩).map fun s'=>(s',bs1,rq1)
   else none
  | none=>none
 else none
theorem ZiR {c:Ctx} {a:Act} {e:List (Nat × D)} {t:Nat}:∀ {L:List (Nat × D)},(∀ q∈L,TV c (a.tmps.getD q.1 undef) q.2)→((∀ q∈L,q.1 ≠ t)→TV c (a.tmps.getD t undef) (find e t))→TV c (a.tmps.getD t undef) (find (L++e) t)
 | [],_,h2=>h2 (by simp)
 | q :: L,h1,h2=>by
  simp only [List.cons_append,find]
  cases hb:Nat.beq q.1 t with
  | true =>
   obtain rfl:=Nat.eq_of_beq_eq_true hb
   exact h1 q (by simp)
  | false =>
   refine ZiR (fun x hx=>h1 x (List.mem_cons_of_mem _ hx)) fun h3=>h2 fun x hx=>?_
   ·rcases List.mem_cons.1 hx with rfl | hx
    ·exact Nat.ne_of_beq_eq_false hb
    ·exact h3 x hx
theorem ZiS {P:Program} {Q:Exit→St→Prop} {s:St} {ops:Array Oper} (p0 p:Nat) (orc:List Res) (keep:List Nat) (hn:Nat) {s':St} {bs:List Bool} {rq:List Req}
  (h:regG P ops p0 p orc keep hn s=some (s',bs,rq)) (hb:∀ b∈bs,b=true) (hq:∀ q∈rq,q.ok P) (k:Q .normal s'):AnyW P ops Q s:=by
 rintro F a w hG ⟨c,rfl,hH,hI,henv,hsz,hd⟩
 unfold regG at h
 generalize hc:(flowB ops&&_&&_&&_&&_&&_&&_&&_)=bb at h
 cases bb with
 | false=>cases h
 | true =>
  simp only [cond_true] at h
  simp only [Bool.and_eq_true] at hc
  obtain ⟨⟨⟨⟨⟨⟨⟨c1,c2⟩,c5⟩,c6⟩,c7⟩,c8⟩,c9⟩,c10⟩:=hc
  have hp:p0≤p:=Nat.le_of_ble_eq_true c5
  have hpn:p+(p - p0)=ops.size:=Nat.eq_of_beq_eq_true c6
  split at h <;> try cases h
  rename_i e1 H1 bs1 rq1 orc1 hrun1
  cases hok:(e1.all (fun q=>okT s.H.length q.2)&&(List.range (p - p0)).all (fun j=>stB P s.H.length ops p0 p e1 (p0+j))) with
  | false=>rw [hok] at h; cases h
  | true =>
  rw [hok] at h
  simp only [cond_true] at h
  simp only [Bool.and_eq_true] at hok
  obtain ⟨hok,hst⟩:=hok
  obtain ⟨s1,hcut,heq⟩:=Option.map_eq_some_iff.1 h
  simp only [Prod.mk.injEq] at heq
  obtain ⟨rfl,rfl,rfl⟩:=heq
  have hl1:(ops.toList.take p0).length=p0:=by simp; omega
  obtain ⟨E,HH,V,hE0,hH0,hE1,hH1,hT⟩:=Zet (ops.toList.take p0) 0 s.env e1 s.H H1 orc orc1 bs1 rq1 (fun j=>by
   rcases Nat.lt_or_ge j p0 with h | h
   ·left; rw [List.getElem?_take_of_lt h]; simp
   ·right; omega) hrun1
  rw [hl1,Nat.zero_add] at hE1 hH1 hT
  have hstS:∀ k,p0≤k→k < p→stB P s.H.length ops p0 p e1 k=true:=fun k h1 h2=>by
   have:=List.all_eq_true.1 hst (k - p0) (List.mem_range.2 (by omega))
   rwa [show p0+(k - p0)=k by omega] at this
  have hnw:∀ k o,ops[k]? = some o→k < p0→wrB o.op=false:=fun k o ho hk=>by
   have:=List.all_eq_true.1 c7 o (List.mem_of_getElem? (i:=k) (by rw [List.getElem?_take_of_lt hk]; simpa using ho))
   simpa using this
  have hal:∀ k,p0≤k→k < p→∃ o t,ops[k]? = some o∧o.op = .alloc t∧o.guard=none∧zeroD P t=some (zsOf P ops k):=fun k h1 h2=>by
   have hlt:k < ops.size:=by omega
   have ho:ops[k]? = some ops[k]:=by simp [hlt]
   have:=List.all_eq_true.1 c8 ops[k] (List.mem_of_getElem? (i:=k - p0) (by rw [List.getElem?_take_of_lt (by omega),List.getElem?_drop,show p0+(k - p0)=k by omega]; simp [hlt]))
   obtain ⟨t,h3,h4,h5,_⟩:=ZiO ho this
   exact ⟨_,t,ho,h3,h4,h5⟩
  have hdst:∀ (k t:Nat),(ops[k]?).bind (·.dst)=some t→t < s.nt:=fun k t hk=>by
   obtain ⟨o,ho,hdo⟩:=Option.bind_eq_some_iff.1 hk
   have:=List.all_eq_true.1 c10 o (List.mem_of_getElem? (i:=k) (by simpa using ho))
   simp only [hdo] at this
   exact Xj this
  let c':Ctx:={ c with w:=c.w.drew }
  have hgo:Goes c c':=⟨rfl,rfl,fun _ h=>h,fun _ _=>rfl,fun b hb=>(hI.imm b hb).1,fun id b hb=>(hI.loc id b hb).2.1⟩
  have hI':Inv F c':=hI.goes hgo (Bw.refl _ _).drew (fun _ h=>.inl h)
  have hnone:∀ i,¬ (Array.replicate ops.size false).getD i false=true:=fun i h=>by rw [Y6] at h; cases h
  have hval:∀ t,valL ops (V1 p0 V) (E 0) (fun i=>(Array.replicate ops.size false).getD i false=true) t=find s.env t:=fun t=>by rw [Jw (fun i _=>hnone i),hE0]
  have hD:GInv F s.nt ops s.H p0 p (zsOf P ops) (fsOf P ops p0 p e1) V (E 0) (Array.replicate ops.size false) a c':=by
   refine ⟨⟨[],by rw [List.append_nil]; exact hH,rfl⟩,hI',fun t=>?_,⟨fun _=>0,fun k _ _ h=>absurd h (hnone k),fun k l _ _ _ _ h=>absurd h (hnone k)⟩,hsz,hd,fun t j w d hf=>?_,by simp,fun i j _ h=>absurd h (hnone i)⟩
   ·rw [hval]; exact Xw (hgo.tv (henv t))
   ·rw [hval] at hf
    have:=henv t
    rw [hf] at this
    simp only [TV,AV] at this
    exact absurd this Yl
  refine ZhS c1 hp hpn hH0 c9 (fun k h1 h2=>(Zgi (hstS k h1 h2)).2) hnw (fun t=>by rw [hE1]; exact ZiP hok t) hdst hal (fun k h1 h2=>by rw [hE1]; exact (Zgi (hstS k h1 h2)).1) hT hb hq (fun a' c'' hI2 hH2 hs2 hd2 hf hr=>⟨s1,k,?_⟩) ops.size _ a c' hD (by simp [cnt,List.countP_replicate])
  refine UO hcut F a' c''.w (ZfQ keep F a' c''.w ⟨c'',rfl,hH2,hI2,fun t=>?_,hs2,hd2⟩)
  refine ZiR (fun q hq'=>?_) fun h3=>?_
  ·obtain ⟨j,hj,rfl⟩:=List.mem_map.1 hq'
   have hj:=List.mem_range.1 hj
   obtain ⟨⟨_,_,u,_,_,_,_,_,hu,_⟩,_⟩:=Zgi (hstS (p0+j) (by omega) (by omega))
   have:=hf (p0+j) (by omega) (by omega) u hu
   simp only [hu,Option.getD_some]
   rwa [show p0+j - p0=j by omega] at this
  ·rw [← hE1]
   refine hr t fun kk h1 h2 h4=>?_
   refine h3 (((ops[p0+(kk - p0)]?).bind (·.dst)).getD 0,D.ref (s.H.length+(kk - p0)) 0) (List.mem_map.2 ⟨kk - p0,List.mem_range.2 (by omega),rfl⟩) ?_
   rw [show p0+(kk - p0)=kk by omega,h4]; rfl
theorem ZiT {P:Program} {Q:Exit→St→Prop} {s:St} {id:Nat} {ops:Array Oper} (p0 p:Nat) (orc:List Res) (keep:List Nat) (hn:Nat) {s':St} {bs:List Bool} {rq:List Req}
  (h:regG P ops p0 p orc keep hn s=some (s',bs,rq)) (hb:∀ b∈bs,b=true) (hq:∀ q∈rq,q.ok P) (k:Q .normal s'):AWP P (.region id ops true) Q s:=fun F a w hG hR=>by
 have c2:P.follows .mixedOrders=true:=by
  cases hc:P.follows .mixedOrders with
  | true=>rfl
  | false=>unfold regG at h; simp [hc] at h
 exact wp_region_any c2 (ZiS p0 p orc keep hn h hb hq k F a w hG hR)
theorem rgs {P:Program} {Q:Exit→St→Prop} {s:St} {id:Nat} {ops:Array Oper} (p0 p:Nat) (orc:List Res) (keep:List Nat) (hn:Nat) (s':St) (bs:List Bool) (rq:List Req)
  (hb:∀ b∈bs,b=true) (hq:Reqs P rq) (k:Q .normal s') (h:regG P ops p0 p orc keep hn s=some (s',bs,rq):=by kernel_rfl):AWP P (.region id ops true) Q s:=ZiT p0 p orc keep hn h hb hq.all k
end Nv
namespace Nv
open Go Go.RowKit
def cleanO (id:Nat):Ob→Bool
 | .box cells=>cells.all fun d=>!mc id d
 | _=>true
theorem ZhT {id:Nat} {o:Ob} (h:cleanO id o=true):purgeO id o=o:=by
 cases o with
 | box cells =>
  simp only [cleanO,List.all_eq_true,Bool.not_eq_true'] at h
  simp only [purgeO,Ob.box.injEq]
  conv=>rhs; rw [← List.map_id cells]
  apply List.map_congr_left
  intro d hd
  rw [h d hd]; rfl
 | _=>rfl
theorem Zmr {P:Program} {H:List Ob} {t:TypeId} {s x d:D} {H':List Ob} {bs:List Bool} (h:appD P H t s x=some (d,H',none,bs)):∃ n o,d = .asl H.length 0 n∧H'=H++[o]:=by
 unfold appD at h
 split at h <;> try cases h
 rename_i sz by_ wd m g _ _
 cases h1:Nat.beq wd sz with
 | false=>rw [h1] at h; cases h
 | true =>
  rw [h1] at h
  simp only [cond_true] at h
  split at h
  ·rename_i wd' n f _
   cases h2:Nat.beq wd' sz with
   | false=>rw [h2] at h; cases h
   | true =>
    rw [h2] at h
    simp only [cond_true,Option.some.injEq,Prod.mk.injEq] at h
    exact ⟨_,_,h.1.symm,h.2.1.symm⟩
  ·split at h <;> try cases h
   rename_i wd' n' f _
   generalize (Nat.beq wd' sz&&_&&_)=b at h
   cases b <;> simp at h
  ·cases h
theorem Zms {P:Program} {H0:List Ob} {o0:Ob} {t:TypeId} {p:Nat} {s x d:D} {H':List Ob} {bs:List Bool} (hc:H0.all (cleanO H0.length)=true) (hp:p=H0.length)
  (h:appD P (H0++[o0]) t s x=some (d,H',some p,bs)):∃ n o,d = .asl H0.length 0 n∧H'=H0++[o]:=by
 unfold appD at h
 split at h <;> try cases h
 rename_i sz by_ wd m g _ _
 cases h1:Nat.beq wd sz with
 | false=>rw [h1] at h; cases h
 | true =>
  rw [h1] at h
  simp only [cond_true] at h
  split at h
  ·rename_i wd' n f _
   cases h2:Nat.beq wd' sz with
   | false=>rw [h2] at h; cases h
   | true=>rw [h2] at h; simp at h
  ·split at h <;> try cases h
   rename_i wd' n' f _
   generalize (Nat.beq wd' sz&&_&&_)=b at h
   cases b with
   | false=>cases h
   | true =>
    simp only [cond_true,Option.some.injEq,Prod.mk.injEq] at h
    obtain ⟨h2,h3,h4,_⟩:=h
    subst h4
    subst hp
    have e:∀ o',((H0++[o0]).set H0.length o').map (purgeO H0.length)=H0++[purgeO H0.length o']:=fun o'=>by
     rw [List.set_append_right _ _ (Nat.le_refl _),Nat.sub_self,List.set_cons_zero,List.map_append]
     congr 1
     conv=>rhs; rw [← List.map_id H0]
     apply List.map_congr_left
     intro o ho
     exact ZhT (List.all_eq_true.1 hc o ho)
    exact ⟨_,_,h2.symm,h3.symm.trans (e _)⟩
  ·cases h
def isApp:Op→Bool
 | .call { callee:=.builtin .append,args:=⟨[_,_]⟩,argTypes:=⟨[_,_]⟩ }=>true
 | _=>false
theorem Zk3 {P:Program} {H:List Ob} {ρ:Operand→D} {op:Op} {r:D × List Ob × Option Nat × List Bool} (ha:isApp op=true) (h:heapD P H ρ op=some r):∃ t s x,appD P H t s x=some r:=by
 unfold isApp at ha
 split at ha
 ·rename_i s x t u
  simp only [heapD] at h
  cases hb:Nat.beq t u with
  | false=>rw [hb] at h; cases h
  | true=>rw [hb] at h; exact ⟨_,_,_,h⟩
 ·cases ha
def chE (ch:Option (Nat × D)) (env:List (Nat × D)) (x:Operand):D :=
 match ch,x with
 | some (t0,d0),.tmp t=>bif Nat.beq t t0 then d0 else unwrap [] (evD env x)
 | _,_=>unwrap [] (evD env x)
def pidOk (n:Nat) (ch:Option (Nat × D)) (pid:Option Nat):Bool :=
 match ch,pid with
 | none,none=>true
 | some _,some p=>Nat.beq p n
 | _,_=>false
def lastW (ws:List Nat):Nat:=ws.getLastD 0
def hkA (ops:Array Oper) (ws:List Nat) (H0 HH:List Ob) (k:Nat):List Ob:=bif ((Region.before ops).getD k 0).testBit (lastW ws) then HH else H0
def stepA (P:Program) (ops:Array Oper) (ws:List Nat) (H0:List Ob) (k:Nat) (HH:List Ob) (ch:Option (Nat × D)) (env:List (Nat × D)) (orc:List Res) (o:Oper):Option (D × List Ob × Option (Nat × D) × List Bool × List Req × List Res) :=
 match ws.contains k with
 | true=>match o.guard,o.dst,isApp o.op,heapD P HH (chE ch env) o.op with
  | none,some t,true,some (d,H',pid,bs)=>bif pidOk H0.length ch pid then some (bif Nat.beq k (lastW ws) then d else .any,H',some (t,d),bs,[],orc) else none
  | _,_,_,_=>none
 | false=>match stepDr P ops k (hkA ops ws H0 HH k) env orc o with
  | some (d,bs,rq,orc')=>bif mt H0.length d && !((Region.before ops).getD k 0).testBit (lastW ws) then none else some (d,HH,ch,bs,rq,orc')
  | none=>none
def runA (P:Program) (nt:Nat) (ops:Array Oper) (ws:List Nat) (H0:List Ob):Nat→List Oper→List (Nat × D)→List Ob→Option (Nat × D)→List Res→Option (List (Nat × D) × List Ob × Option (Nat × D) × List Bool × List Req × List Res)
 | _,[],env,HH,ch,orc=>some (env,HH,ch,[],[],orc)
 | k,o :: l,env,HH,ch,orc=>match stepA P ops ws H0 k HH ch env orc o with
  | some (d,H1,c1,bs,rq,orc1)=>match putE nt o.dst d env with
   | some e=>match runA P nt ops ws H0 (k+1) l e H1 c1 orc1 with
    | some (e',H',c',bs',rq',orc')=>some (e',H',c',bs++bs',rq++rq',orc')
    | none=>none
   | none=>none
  | none=>none
structure TraceA (P:Program) (nt:Nat) (ops:Array Oper) (ws:List Nat) (H0:List Ob) (bs:List Bool) (rq:List Req) (k n:Nat) (E:Nat→List (Nat × D)) (HH:Nat→List Ob) (CH:Nat→Option (Nat × D)) (V:Nat→D):Prop where
 step:∀ i,k≤i→i < n→∃ o orc b r orc',ops[i]? = some o∧stepA P ops ws H0 i (HH i) (CH i) (E i) orc o=some (V i,HH (i+1),CH (i+1),b,r,orc')∧(∀ x∈b,x∈bs)∧(∀ x∈r,x∈rq)
 put:∀ i,k≤i→i < n→∃ o,ops[i]? = some o∧putE nt o.dst (V i) (E i)=some (E (i+1))
theorem Zhp {P:Program} {nt:Nat} {ops:Array Oper} {ws:List Nat} {H0:List Ob}:∀ (l:List Oper) (k:Nat) (env env':List (Nat × D)) (H H':List Ob) (ch ch':Option (Nat × D)) (orc orc':List Res) (bs:List Bool) (rq:List Req),(∀ (j:Nat),l[j]? = ops[k+j]? ∨ l.length≤j) →
  runA P nt ops ws H0 k l env H ch orc=some (env',H',ch',bs,rq,orc')→∃ E HH CH V,E k=env∧HH k=H∧CH k=ch∧E (k+l.length)=env'∧HH (k+l.length)=H'∧CH (k+l.length)=ch'∧TraceA P nt ops ws H0 bs rq k (k+l.length) E HH CH V
 | [],k,env,env',H,H',ch,ch',orc,orc',bs,rq,_,h=>by
  simp only [runA,Option.some.injEq,Prod.mk.injEq] at h
  obtain ⟨rfl,rfl,rfl,rfl,rfl,rfl⟩:=h
  exact ⟨fun _=>env,fun _=>H,fun _=>ch,fun _=>.any,rfl,rfl,rfl,rfl,rfl,rfl,⟨fun i h1 h2=>by simp at h2; omega,fun i h1 h2=>by simp at h2; omega⟩⟩
 | o :: l,k,env,env',H,H',ch,ch',orc,orc',bs,rq,hl,h=>by
  simp only [runA] at h
  split at h <;> try cases h
  rename_i d H1 c1 b1 r1 orc1 hs
  split at h <;> try cases h
  rename_i e he
  split at h <;> try cases h
  rename_i b2 r2 hr
  have ho:ops[k]? = some o:=by
   rcases hl 0 with h1 | h1
   ·simpa using h1.symm
   ·simp at h1
  obtain ⟨E,HH,CH,V,hE,hH,hC,hE',hH',hC',hT⟩:=Zhp l (k+1) e env' H1 H' c1 ch' orc1 orc' b2 r2 (fun j=>by
   rcases hl (j+1) with h1 | h1
   ·left; simpa [Nat.add_assoc,Nat.add_comm 1 j] using h1
   ·right; simp at h1; exact h1) hr
  have en:k+(o :: l).length=k+1+l.length:=by simp only [List.length_cons]; omega
  refine ⟨fun i=>if i=k then env else E i,fun i=>if i=k then H else HH i,fun i=>if i=k then ch else CH i,fun i=>if i=k then d else V i,by simp,by simp,by simp,?_,?_,?_,⟨fun i h1 h2=>?_,fun i h1 h2=>?_⟩⟩
  ·show (if k+(o :: l).length=k then env else E (k+(o :: l).length))=env'
   rw [if_neg (by simp),en]; exact hE'
  ·show (if k+(o :: l).length=k then H else HH (k+(o :: l).length))=H'
   rw [if_neg (by simp),en]; exact hH'
  ·show (if k+(o :: l).length=k then ch else CH (k+(o :: l).length))=ch'
   rw [if_neg (by simp),en]; exact hC'
  ·by_cases hik:i=k
   ·subst hik
    simp only [if_true]
    rw [if_neg (by omega),if_neg (by omega),hH,hC]
    exact ⟨o,orc,b1,r1,orc1,ho,hs,fun x hx=>List.mem_append_left _ hx,fun x hx=>List.mem_append_left _ hx⟩
   ·simp only [if_neg hik]
    rw [if_neg (by omega),if_neg (by omega)]
    obtain ⟨o',orc',b,r,orc'',h3,h4,h5,h6⟩:=hT.step i (by omega) (by simp at h2; omega)
    exact ⟨o',orc',b,r,orc'',h3,h4,fun x hx=>List.mem_append_right _ (h5 x hx),fun x hx=>List.mem_append_right _ (h6 x hx)⟩
  ·by_cases hik:i=k
   ·subst hik
    simp only [if_true]
    rw [if_neg (by omega)]
    exact ⟨o,ho,by rw [hE]; exact he⟩
   ·simp only [if_neg hik]
    rw [if_neg (by omega)]
    exact hT.put i (by omega) (by simp at h2; omega)
section
variable {P:Program} {nt:Nat} {ops:Array Oper} {ws:List Nat} {H0:List Ob} {bs:List Bool} {rq:List Req} {n:Nat} {E:Nat→List (Nat × D)} {HH:Nat→List Ob} {CH:Nat→Option (Nat × D)} {V:Nat→D}
theorem Zgj (hnd:dstsB ops=true) (hT:TraceA P nt ops ws H0 bs rq 0 n E HH CH V):∀ k,k≤n→∀ t,find (E k) t=valL ops V (E 0) (· < k) t
 | 0,_,t=>by rw [Jw]; intro i _ h; omega
 | k+1,hk,t=>by
  have ih:=Zgj hnd hT k (by omega) t
  obtain ⟨o,ho,hp⟩:=hT.put k (by omega) (by omega)
  unfold putE at hp
  split at hp
  ·rename_i hd
   simp only [Option.some.injEq] at hp
   rw [← hp,ih]
   refine Yg hnd fun i hi=>⟨fun h=>by omega,fun h=>?_⟩
   rcases Nat.lt_or_ge i k with h1 | h1
   ·exact h1
   ·have:i=k:=by omega
    subst this
    rw [ho] at hi
    simp [hd] at hi
  ·rename_i u hd
   cases hlt:Nat.blt u nt with
   | false=>rw [hlt] at hp; cases hp
   | true =>
    rw [hlt] at hp
    simp only [cond_true,Option.some.injEq] at hp
    rw [← hp]
    simp only [find]
    have hku:(ops[k]?).bind (·.dst)=some u:=by rw [ho]; exact hd
    cases hb:Nat.beq u t with
    | true =>
     obtain rfl:=Nat.eq_of_beq_eq_true hb
     simp only [cond_true]
     exact (Y2 hnd hku (Nat.lt_succ_self k)).symm
    | false =>
     simp only [cond_false]
     rw [ih]
     refine Yg hnd fun i hi=>⟨fun h=>by omega,fun h=>?_⟩
     rcases Nat.lt_or_ge i k with h1 | h1
     ·exact h1
     ·have:i=k:=by omega
      subst this
      rw [hku] at hi
      cases hi
      rw [Nat.beq_refl] at hb; cases hb
theorem chA (hcl:H0.all (cleanO H0.length)=true) (hT:TraceA P nt ops ws H0 bs rq 0 n E HH CH V) (h0:HH 0=H0) (hc0:CH 0=none) :
  ∀ k,k≤n→(CH k=none∧HH k=H0)∨∃ t0 m o,CH k=some (t0,.asl H0.length 0 m)∧HH k=H0++[o]∧∃ w,w < k∧ws.contains w=true∧(ops[w]?).bind (·.dst)=some t0
 | 0,_=>.inl ⟨hc0,h0⟩
 | k+1,hk=>by
  have ih:=chA hcl hT h0 hc0 k (by omega)
  obtain ⟨o,orc,b,r,orc',ho,hs,_⟩:=hT.step k (Nat.zero_le _) (by omega)
  unfold stepA at hs
  cases hw:ws.contains k with
  | false =>
   rw [hw] at hs
   simp only at hs
   split at hs <;> try cases hs
   rename_i d0 bs0 rq0 orc0 _
   cases hm:(mt H0.length d0 && !((Region.before ops).getD k 0).testBit (lastW ws)) with
   | true=>rw [hm] at hs; cases hs
   | false =>
    rw [hm] at hs
    simp only [cond_false,Option.some.injEq,Prod.mk.injEq] at hs
    rw [← hs.2.1,← hs.2.2.1]
    rcases ih with h | ⟨t0,m,o0,h1,h2,w,h3,h4⟩
    ·exact .inl h
    ·exact .inr ⟨t0,m,o0,h1,h2,w,by omega,h4⟩
  | true =>
   rw [hw] at hs
   simp only at hs
   split at hs <;> try cases hs
   rename_i t d0 H1 pid bs0 hgd hdst happ hheap
   cases hp:pidOk H0.length (CH k) pid with
   | false=>rw [hp] at hs; cases hs
   | true =>
    rw [hp] at hs
    simp only [cond_true,Option.some.injEq,Prod.mk.injEq] at hs
    obtain ⟨_,h2,h3,_⟩:=hs
    obtain ⟨tt,s,x,hap⟩:=Zk3 happ hheap
    rw [← h2,← h3]
    right
    have hkd:(ops[k]?).bind (·.dst)=some t:=by rw [ho]; exact hdst
    rcases ih with ⟨hc,hH⟩ | ⟨t0,m,o0,hc,hH,_⟩
    ·rw [hc] at hp
     cases pid with
     | some p=>cases hp
     | none =>
      rw [hH] at hap
      obtain ⟨m,o1,rfl,rfl⟩:=Zmr hap
      exact ⟨t,m,o1,rfl,rfl,k,Nat.lt_succ_self k,hw,hkd⟩
    ·rw [hc] at hp
     cases pid with
     | none=>cases hp
     | some p =>
      rw [hH] at hap
      obtain ⟨m,o1,rfl,rfl⟩:=Zms hcl (Nat.eq_of_beq_eq_true hp) hap
      exact ⟨t,m,o1,rfl,rfl,k,Nat.lt_succ_self k,hw,hkd⟩
theorem KZ (hT:TraceA P nt ops ws H0 bs rq 0 n E HH CH V) {p:Nat}:∀ (m:Nat),p+m≤n→(∀ w,p≤w→w < p+m→ws.contains w=false)→HH (p+m)=HH p∧CH (p+m)=CH p
 | 0,_,_=>⟨rfl,rfl⟩
 | m+1,hn,h=>by
  have ih:=KZ hT (p:=p) m (by omega) fun w h1 h2=>h w h1 (by omega)
  obtain ⟨o,orc,b,r,orc',ho,hs,_⟩:=hT.step (p+m) (Nat.zero_le _) (by omega)
  have hw:=h (p+m) (by omega) (by omega)
  unfold stepA at hs
  rw [hw] at hs
  simp only at hs
  split at hs <;> try cases hs
  rename_i d0 bs0 rq0 orc0 _
  cases hm:(mt H0.length d0 && !((Region.before ops).getD (p+m) 0).testBit (lastW ws)) with
  | true=>rw [hm] at hs; cases hs
  | false =>
   rw [hm] at hs
   simp only [cond_false,Option.some.injEq,Prod.mk.injEq] at hs
   exact ⟨hs.2.1.symm.trans ih.1,hs.2.2.1.symm.trans ih.2⟩
theorem cleanV (hT:TraceA P nt ops ws H0 bs rq 0 n E HH CH V):∀ i,i < n→mt H0.length (V i)=true→i=lastW ws∨((Region.before ops).getD i 0).testBit (lastW ws)=true:=by
 intro i hi hmt
 obtain ⟨o,orc,b,r,orc',ho,hs,_⟩:=hT.step i (Nat.zero_le _) hi
 unfold stepA at hs
 cases hw:ws.contains i with
 | false =>
  rw [hw] at hs
  simp only at hs
  split at hs <;> try cases hs
  rename_i d0 bs0 rq0 orc0 _
  cases hm:(mt H0.length d0 && !((Region.before ops).getD i 0).testBit (lastW ws)) with
  | true=>rw [hm] at hs; cases hs
  | false =>
   rw [hm] at hs
   simp only [cond_false,Option.some.injEq,Prod.mk.injEq] at hs
   rw [← hs.1] at hmt
   rw [hmt] at hm
   simp only [Bool.true_and,Bool.not_eq_false'] at hm
   exact .inr hm
 | true =>
  rw [hw] at hs
  simp only at hs
  split at hs <;> try cases hs
  rename_i t d0 H1 pid bs0 hgd hdst happ hheap
  cases hp:pidOk H0.length (CH i) pid with
  | false=>rw [hp] at hs; cases hs
  | true =>
   rw [hp] at hs
   simp only [cond_true,Option.some.injEq,Prod.mk.injEq] at hs
   cases hl:Nat.beq i (lastW ws) with
   | true=>exact .inl (Nat.eq_of_beq_eq_true hl)
   | false =>
    rw [hl] at hs
    rw [← hs.1] at hmt
    cases hmt
end
def cordB (ops:Array Oper) (ws:List Nat):Bool :=
 let M:=Region.before ops
 ws.all fun w=>ws.all fun v=>!Nat.blt v w||(M.getD w 0).testBit v
theorem RH {ops:Array Oper} {ws:List Nat} (h:cordB ops ws=true) {v w:Nat} (hv:ws.contains v=true) (hw:ws.contains w=true) (hlt:v < w):((Region.before ops).getD w 0).testBit v=true:=by
 have h1:=List.all_eq_true.1 (List.all_eq_true.1 h w (by simpa using hw)) v (by simpa using hv)
 have:Nat.blt v w=true:=Nat.ble_eq_true_of_le hlt
 rw [this] at h1
 simpa using h1
structure AInv (F:Fr) (nt:Nat) (ops:Array Oper) (ws:List Nat) (HH:Nat→List Ob) (CH:Nat→Option (Nat × D)) (V:Nat→D) (env0:List (Nat × D)) (listed:Array Bool) (a:Act) (c:Ctx):Prop where
 H:∃ q,q≤ops.size∧c.H=HH q∧(∀ w,ws.contains w=true→w < q→listed.getD w false=true)∧(∀ w,ws.contains w=true→q≤w→listed.getD w false=false) ∧
  ∀ t0 d0,CH q=some (t0,d0)→TV c (a.tmps.getD t0 undef) d0
 inv:Inv F c
 env:∀ t,GV (yielded ops a.tmps) c (a.tmps.getD t undef) (valL ops V env0 (fun i=>listed.getD i false=true) t)
 size:a.tmps.size=nt
 defers:a.defers=[]
 opt:∀ t j w d,valL ops V env0 (fun i=>listed.getD i false=true) t = .opt j w d→listed.getD j false=true
 lsize:listed.size=ops.size
 closed:∀ i j,Waits ops i j→listed.getD i false=true→listed.getD j false=true
end Nv
namespace Nv
open Go Go.RowKit
theorem Zhq {ws:List Nat} (h:ws ≠ []):lastW ws∈ws:=by
 unfold lastW
 rw [List.getLastD_eq_getLast?,List.getLast?_eq_some_getLast h]
 exact List.getLast_mem h
theorem Zmt {ops:Array Oper} (h:∀ i o,ops[i]? = some o→∀ e∈o.after,Region.binds .any e=true→e.on < i) {i k:Nat} (r:Reach ops i k):k < i:=by
 have one:∀ {i k},Waits ops i k→k < i:=fun {i k} ⟨o,ho,e,he,hb,hk⟩=>by rw [← hk]; exact h i o ho e he hb
 induction r with
 | one hw=>exact one hw
 | step hw _ ih=>exact Nat.lt_trans ih (one hw)
theorem ZiU {P:Program} {F:Fr} [GF P F] {nt:Nat} {ops:Array Oper} {ws:List Nat} {H0:List Ob} {bs:List Bool} {rq:List Req} {E:Nat→List (Nat × D)} {HH:Nat→List Ob} {CH:Nat→Option (Nat × D)} {V:Nat→D} (hfl:flowB ops=true) (hcm:cordB ops ws=true)
  (hcl:H0.all (cleanO H0.length)=true) (hlast:∀ w∈ws,w≤lastW ws) (hce:∀ t,mt H0.length (find (E 0) t)=false) (hT:TraceA P nt ops ws H0 bs rq 0 ops.size E HH CH V) (h00:HH 0=H0) (hc0:CH 0=none) (hb:∀ b∈bs,b=true) (hq:∀ q∈rq,q.ok P)
  {Q:Exit→Act→World→Prop} (orc:List Res) {tk:Nat} {dk:D} (hck:CH ops.size=some (tk,dk))
  (hQ:∀ a c,RInv F nt ops ops.size ⟨(tk,dk) :: E ops.size,HH ops.size,orc⟩ a c→Q .normal a c.w) :
  ∀ (fuel:Nat) (listed:Array Bool) (a:Act) (c:Ctx),AInv F nt ops ws HH CH V (E 0) listed a c→cnt listed+fuel=ops.size→wpAny P .any ops Q fuel listed a c.w:=by
 simp only [flowB,Bool.and_eq_true,List.all_eq_true] at hfl
 obtain ⟨hnd,hfl⟩:=hfl
 have flow:∀ i o,ops[i]? = some o→flowAt ops (Region.before ops) i o=true:=fun i o ho=>by
  have hlt:=(Array.getElem?_eq_some_iff.1 ho).1
  refine hfl (o,i) ?_
  rw [List.mem_zipIdx_iff_getElem?]
  simpa using ho
 have hmore:∀ k,k≤ops.size→∃ X,HH k=H0++X:=fun k hk=>by
  rcases chA hcl hT h00 hc0 k hk with ⟨_,h⟩ | ⟨_,_,o,_,h,_⟩
  ·exact ⟨[],by rw [h,List.append_nil]⟩
  ·exact ⟨[o],h⟩
 have fin:∀ (listed:Array Bool) a c,AInv F nt ops ws HH CH V (E 0) listed a c→(∀ i,i < ops.size→listed.getD i false=true)→Q .normal a c.w:=fun listed a c hD hall=>by
  have hval:∀ t,find (E ops.size) t=valL ops V (E 0) (fun i=>listed.getD i false=true) t:=fun t=>by
   rw [Zgj hnd hT ops.size (Nat.le_refl _) t]
   refine Yg hnd fun i hi=>⟨fun h=>hall i h,fun _=>?_⟩
   obtain ⟨o,ho,_⟩:=Option.bind_eq_some_iff.1 hi
   exact (Array.getElem?_eq_some_iff.1 ho).1
  obtain ⟨q,hq1,hq2,hq3,hq4,hq5⟩:=hD.H
  have hsc:=KZ hT (p:=q) (ops.size - q) (by omega) fun w h1 h2=>by
   cases hw:ws.contains w with
   | false=>rfl
   | true =>
    have h3:=hq4 w hw h1
    rw [hall w (by omega)] at h3; cases h3
  rw [show q+(ops.size - q)=ops.size by omega] at hsc
  have htk:=hq5 tk dk (hsc.2.symm.trans hck)
  refine hQ a c ⟨hq2.trans hsc.1.symm,hD.inv,fun t=>?_,hD.size,hD.defers,fun t j w d hf=>?_⟩
  ·show GV _ _ _ (find ((tk,dk) :: E ops.size) t)
   simp only [find]
   cases hbt:Nat.beq tk t with
   | true=>obtain rfl:=Nat.eq_of_beq_eq_true hbt; exact Xw htk
   | false=>simp only [cond_false]; rw [hval]; exact hD.env t
  ·have hf:find ((tk,dk) :: E ops.size) t = .opt j w d:=hf
   simp only [find] at hf
   cases hbt:Nat.beq tk t with
   | true =>
    rw [hbt] at hf
    simp only [cond_true] at hf
    rw [hf] at htk
    simp only [TV,AV] at htk
    exact absurd htk Yl
   | false =>
    rw [hbt] at hf
    simp only [cond_false] at hf
    rw [hval] at hf
    have:=hD.opt t j w d hf
    rcases Nat.lt_or_ge j listed.size with h | h
    ·rw [hD.lsize] at h; exact h
    ·simp [Array.getElem?_eq_none h] at this
 -- nothing is ready: all are listed
 have stuckAll:∀ (listed:Array Bool),listed.size=ops.size→Region.ready .any ops listed=[]→∀ i,i < ops.size→listed.getD i false=true:=by
  intro listed hls hr i
  induction i using Nat.strongRecOn with
  | _ i ih =>
   intro hi
   cases hl:listed.getD i false with
   | true=>rfl
   | false =>
    exfalso
    have:i∈Region.ready .any ops listed:=by
     rw [mem_ready]
     refine ⟨by simp [hls,hi] at hl ⊢; exact hl,ops[i],by simp [hi],fun e he hbi=>?_⟩
     have h1:=flow i ops[i] (by simp [hi])
     simp only [flowAt,Bool.and_eq_true] at h1
     have h2:=Array.all_eq_true'.1 h1.1.1 e he
     simp only [hbi,Bool.not_true,Bool.false_or] at h2
     have h3:=Xj h2
     exact ih e.on h3 (by omega)
    rw [hr] at this
    cases this
 intro fuel
 induction fuel with
 | zero =>
  intro listed a c hD hcnt
  have hall:∀ i,i < ops.size→listed.getD i false=true:=by
   have:=Kw (listed:=listed) (by rw [hD.lsize]; omega)
   rw [hD.lsize] at this
   exact this
  refine ⟨?_,fin listed a c hD hall⟩
  cases hr:Region.ready .any ops listed with
  | nil=>rfl
  | cons i r =>
   exfalso
   have:i∈Region.ready .any ops listed:=by rw [hr]; exact List.mem_cons_self
   obtain ⟨h1,o,ho,_⟩:=mem_ready.1 this
   have hi:=(Array.getElem?_eq_some_iff.1 ho).1
   have h2:=hall i hi
   simp [hD.lsize,hi] at h1 h2
   rw [h1] at h2
   cases h2
 | succ fuel ih =>
  intro listed a c hD hcnt
  refine ⟨fun hr=>fin listed a c hD (stuckAll listed hD.lsize hr),fun i hi=>?_⟩
  obtain ⟨hun,o,ho,hall⟩:=mem_ready.1 hi
  have hilt:=(Array.getElem?_eq_some_iff.1 ho).1
  have hunf:listed.getD i false=false:=by simp [hD.lsize,hilt] at hun ⊢; exact hun
  have hwaits:∀ j,Waits ops i j→listed.getD j false=true:=fun j ⟨o',ho',e,he,hbi,hon⟩=>by
   rw [ho] at ho'
   cases ho'
   rw [← hon]
   exact hall e he hbi
  obtain ⟨o',orc0,b,r,orc1,ho',hstep,hb1,hr1⟩:=hT.step i (Nat.zero_le _) hilt
  rw [ho] at ho'
  cases ho'
  have reach:∀ k l,k < ops.size→((Region.before ops).getD k 0).testBit l=true→listed.getD k false=true→listed.getD l false=true:=fun k l hk hb2 hl =>
   X2 hD.closed (X0 ops k l hk hb2) (fun j hj=>hD.closed _ _ hj hl)
  have reachI:∀ l,((Region.before ops).getD i 0).testBit l=true→listed.getD l false=true:=fun l hb2=>X2 hD.closed (X0 ops i l hilt hb2) hwaits
  have hfa:=flow i o ho
  simp only [flowAt,Bool.and_eq_true] at hfa
  obtain ⟨⟨hf1,hf2⟩,hf3⟩:=hfa
  -- what the operation looks at has its value of the text's order
  have same:∀ t∈needs ops o,valL ops V (E 0) (fun i=>listed.getD i false=true) t=find (E i) t:=fun t ht=>by
   rw [Zgj hnd hT i (by omega) t]
   refine Yg hnd fun k hk=>?_
   have h1:=List.all_eq_true.1 hf3 t ht
   obtain ⟨ok,hok,hdk⟩:=Option.bind_eq_some_iff.1 hk
   have hklt:=(Array.getElem?_eq_some_iff.1 hok).1
   have h2:=List.all_eq_true.1 h1 (ok,k) (by rw [List.mem_zipIdx_iff_getElem?]; simpa using hok)
   simp only [hdk] at h2
   have e1:Nat.beq t t=true:=Nat.beq_refl t
   rw [e1] at h2
   simp only [Bool.not_true,Bool.false_or,Bool.or_eq_true,Bool.and_eq_true] at h2
   rcases h2 with (h2 | ⟨h2,h3⟩) | ⟨h2,h3⟩
   ·obtain rfl:=Nat.eq_of_beq_eq_true h2
    exact ⟨fun h=>(by rw [hunf] at h; cases h),fun h=>by omega⟩
   ·exact ⟨fun _=>Xj h2,fun _=>X2 hD.closed (X0 ops i k hilt h3) hwaits⟩
   ·have hik:=Xj h2
    refine ⟨fun h=>?_,fun h=>by omega⟩
    have:=X2 hD.closed (X0 ops k i hklt h3) (fun j hj=>hD.closed _ _ hj h)
    rw [hunf] at this
    cases this
  have hops:∀ x∈o.op.operands.toList,GV (yielded ops a.tmps) c (a.eval x) (evD (E i) x):=fun x hx=>by
   cases x with
   | tmp t =>
    show GV _ _ _ (find (E i) t)
    rw [← same t (by simp only [needs,List.mem_append,List.mem_filterMap]; exact .inl ⟨.tmp t,hx,rfl⟩)]
    exact hD.env t
   | const v=>exact Xw (Za1 c v)
   | global g=>exact Xw Wp
   | func f=>exact Xw ⟨#[],rfl,rfl,fun i v d h1 _=>by simp at h1⟩
  have hgf:GuardFacts ops a c (E i) (gch ops 20 o.guard):=fun p hp t ht=>by
   rw [← same t (by simp only [needs,List.mem_append,List.mem_filterMap]; exact .inr ⟨p,hp,ht⟩)]
   exact hD.env t
  have htl:∀ t,o.dst=some t→t < a.tmps.size:=fun t hdt=>by
   obtain ⟨o2,ho2,hp⟩:=hT.put i (Nat.zero_le _) hilt
   rw [ho] at ho2
   cases ho2
   rw [hdt] at hp
   simp only [putE] at hp
   cases hlt:Nat.blt t nt with
   | false=>simp [hlt] at hp
   | true=>rw [hD.size]; exact Xj hlt
  -- the new state
  have new:∀ v c',Inv F c'→(∃ q,q≤ops.size∧c'.H=HH q∧(∀ w,ws.contains w=true→w < q→(listed.setIfInBounds i true).getD w false=true)∧(∀ w,ws.contains w=true→q≤w→(listed.setIfInBounds i true).getD w false=false) ∧
     ∀ t0 d0,CH q=some (t0,d0)→TV c' ((a.put o.dst v).tmps.getD t0 undef) d0) →
    (∀ t,GV (yielded ops a.tmps) c' (a.tmps.getD t undef) (valL ops V (E 0) (fun j=>listed.getD j false=true) t))→(∀ d,V i=d→GV (yielded ops (a.put o.dst v).tmps) c' v d)→(∀ j w d,V i = .opt j w d→listed.getD j false=true) →
    wpAny P .any ops Q fuel (listed.setIfInBounds i true) (a.put o.dst v) c'.w:=fun v c' hI' hHn htr hv hvo=>by
   have hL:∀ j,(listed.setIfInBounds i true).getD j false=true↔j=i∨listed.getD j false=true:=fun j=>by
    by_cases hji:j=i
    ·subst hji; simp [hD.lsize,hilt]
    ·rw [getD_set_ne false (Ne.symm hji)]; simp [hji]
   have hvalo:∀ t,(∀ u,o.dst=some u→u ≠ t)→valL ops V (E 0) (fun j=>(listed.setIfInBounds i true).getD j false=true) t=valL ops V (E 0) (fun j=>listed.getD j false=true) t:=fun t ht=>by
    refine Yg hnd fun k hk=>?_
    show (listed.setIfInBounds i true).getD k false=true↔_
    rw [hL]
    refine ⟨fun h=>?_,.inr⟩
    rcases h with rfl | h
    ·rw [ho] at hk
     exact absurd rfl (ht t hk)
    ·exact h
   have hyj:∀ j,listed.getD j false=true→yielded ops (a.put o.dst v).tmps j=yielded ops a.tmps j:=fun j hj=>Ji fun t ht e=>by
    have:=JX hnd (show (ops[i]?).bind (·.dst)=some t by rw [ho]; exact ht) e
    subst this
    rw [hunf] at hj
    cases hj
   have keep:∀ t,GV (yielded ops (a.put o.dst v).tmps) c' (a.tmps.getD t undef) (valL ops V (E 0) (fun j=>listed.getD j false=true) t):=fun t=>by
    have h1:=htr t
    cases hf:valL ops V (E 0) (fun j=>listed.getD j false=true) t <;> rw [hf] at h1 <;> try exact h1
    rename_i j w d
    simp only [GV] at h1 ⊢
    rw [hyj j (hD.opt t j w d hf)]
    exact h1
   refine ih _ _ c' ⟨hHn,hI',fun t=>?_,by rw [Gw]; exact hD.size,by rw [Uk]; exact hD.defers,fun t j w d hf=>?_,by simp [hD.lsize],fun p q hpq hp=>?_⟩ ?_
   ·by_cases hdt:o.dst=some t
    ·have hit:(ops[i]?).bind (·.dst)=some t:=by rw [ho]; exact hdt
     rw [Y2 hnd hit ((hL i).2 (.inl rfl))]
     have e:(a.put o.dst v).tmps.getD t undef=v:=by rw [hdt]; exact Va (htl t hdt)
     rw [e]
     exact hv _ rfl
    ·rw [hvalo t (fun u hu e=>hdt (by rw [hu,e])),U2 hdt]
     exact keep t
   ·rw [hL]
    right
    by_cases hdt:o.dst=some t
    ·have hit:(ops[i]?).bind (·.dst)=some t:=by rw [ho]; exact hdt
     rw [Y2 hnd hit ((hL i).2 (.inl rfl))] at hf
     exact hvo j w d hf
    ·rw [hvalo t (fun u hu e=>hdt (by rw [hu,e]))] at hf
     exact hD.opt t j w d hf
   ·rw [hL] at hp ⊢
    right
    rcases hp with rfl | hp
    ·exact hwaits q hpq
    ·exact hD.closed p q hpq hp
   ·rw [Rk (by rw [hD.lsize]; exact hilt) hunf]
    omega
  obtain ⟨q,hq1,hq2,hq3,hq4,hq5⟩:=hD.H
  unfold wpOp
  simp only [ho]
  unfold stepA at hstep
  cases hwr:ws.contains i with
  | true =>
   rw [hwr] at hstep
   simp only at hstep
   split at hstep <;> try cases hstep
   rename_i t d0 H1 pid bs0 hgd hdst happ hheap
   cases hpk:pidOk H0.length (CH i) pid with
   | false=>rw [hpk] at hstep; cases hstep
   | true =>
   rw [hpk] at hstep
   simp only [cond_true,Option.some.injEq,Prod.mk.injEq] at hstep
   obtain ⟨hVi,hHi1,hCi1,rfl,rfl,rfl⟩:=hstep
   have hw:Region.wanted o (yielded ops a.tmps)=true:=by simp [Region.wanted,hgd]
   simp only [hw,if_true]
   -- the chain stands where the text's order has it
   have hqi:HH q=HH i∧CH q=CH i:=by
    rcases Nat.lt_or_ge i q with hiq | hiq
    ·have:=hq3 i hwr hiq
     rw [hunf] at this; cases this
    ·have:=KZ hT (p:=q) (i - q) (by omega) fun w h1 h2=>by
      cases hw':ws.contains w with
      | false=>rfl
      | true =>
       have h3:=hq4 w hw' h1
       rw [reachI w (RH hcm hw' hwr (by omega))] at h3; cases h3
     rw [show q+(i - q)=i by omega] at this
     exact ⟨this.1.symm,this.2.symm⟩
   have hρ:∀ x∈o.op.operands.toList,TV c (a.eval x) (chE (CH i) (E i) x):=fun x hx=>by
    have hu:TV c (a.eval x) (unwrap [] (evD (E i) x)):=V6 (a:=a) (ops:=ops) (by simp) (hops x hx)
    unfold chE
    split
    ·rename_i t0 d1 t1 hch
     cases hbt:Nat.beq t1 t0 with
     | true =>
      obtain rfl:=Nat.eq_of_beq_eq_true hbt
      exact hq5 t1 d1 (hqi.2.trans hch)
     | false=>exact hu
    ·exact hu
   obtain ⟨v,c',hrun',hI',hH',htr,htv⟩:=Zbb (ρc:=a.eval) hD.inv hρ (by rw [hq2,hqi.1]; exact hheap) (fun b hb'=>hb b (hb1 b hb'))
   have hpu:∀ e,mt H0.length e=false→purge pid e=e:=fun e he=>by
    unfold pidOk at hpk
    split at hpk
    ·rfl
    ·rename_i p _
     obtain rfl:=Nat.eq_of_beq_eq_true hpk
     simp only [purge,he,cond_false]
    ·cases hpk
   have hA:∀ w,ws.contains w=true→w < i+1→(listed.setIfInBounds i true).getD w false=true:=fun w hw' hwq=>by
    rcases Nat.lt_or_ge w i with h1 | h1
    ·rw [getD_set_ne false (by omega)]
     exact reachI w (RH hcm hw' hwr h1)
    ·have:w=i:=by omega
     subst this
     simp [hD.lsize,hilt]
   have hB:∀ w,ws.contains w=true→i+1≤w→(listed.setIfInBounds i true).getD w false=false:=fun w hw' hwq=>by
    rw [getD_set_ne false (by omega)]
    cases hl:listed.getD w false with
    | false=>rfl
    | true =>
     have hwl:w < ops.size:=by
      rcases Nat.lt_or_ge w listed.size with h | h
      ·rw [hD.lsize] at h; exact h
      ·simp [Array.getElem?_eq_none h] at hl
     rw [reach w i hwl (RH hcm hwr hw' (by omega)) hl] at hunf
     cases hunf
   have hC:∀ t0 d1,CH (i+1)=some (t0,d1)→TV c' ((a.put o.dst v).tmps.getD t0 undef) d1:=fun t0 d1 h=>by
    rw [← hCi1] at h
    cases h
    have e:(a.put o.dst v).tmps.getD t undef=v:=by rw [hdst]; exact Va (htl t hdst)
    rw [e]
    exact htv
   -- nothing that is there names the slice that grows
   have hlastU:∀ k,listed.getD k false=true→mt H0.length (V k)=false:=fun k hk=>by
    cases hmk:mt H0.length (V k) with
    | false=>rfl
    | true =>
     exfalso
     have hkl:k < ops.size:=by
      rcases Nat.lt_or_ge k listed.size with h | h
      ·rw [hD.lsize] at h; exact h
      ·simp [Array.getElem?_eq_none h] at hk
     have hll:listed.getD (lastW ws) false=true:=by
      rcases cleanV hT k hkl hmk with rfl | h
      ·exact hk
      ·exact reach k _ hkl h hk
     have hlw:ws.contains (lastW ws)=true:=by
      have hne:ws ≠ []:=fun e=>by rw [e] at hwr; simp at hwr
      simpa using Zhq hne
     rcases Nat.lt_or_ge (lastW ws) i with h1 | h1
     ·have hiw:i∈ws:=by simpa using hwr
      have:=hlast i hiw
      omega
     ·by_cases e:lastW ws=i
      ·rw [e,hunf] at hll; cases hll
      ·have hll2:lastW ws < ops.size:=by
        rcases Nat.lt_or_ge (lastW ws) listed.size with h | h
        ·rw [hD.lsize] at h; exact h
        ·simp [Array.getElem?_eq_none h] at hll
       rw [reach _ i hll2 (RH hcm hwr hlw (by omega)) hll] at hunf
       cases hunf
   have hclean:∀ t,mt H0.length (valL ops V (E 0) (fun j=>listed.getD j false=true) t)=false:=fun t=>by
    by_cases hx:∃ k,(ops[k]?).bind (·.dst)=some t∧listed.getD k false=true
    ·obtain ⟨k,h1,h2⟩:=hx
     rw [Y2 hnd h1 h2]
     exact hlastU k h2
    ·rw [Jw fun k h1 h2=>hx ⟨k,h1,h2⟩]
     exact hce t
   have hkeep:∀ t,GV (yielded ops a.tmps) c' (a.tmps.getD t undef) (valL ops V (E 0) (fun j=>listed.getD j false=true) t):=fun t=>by
    have h1:=Zds htr (hD.env t)
    rwa [hpu _ (hclean t)] at h1
   have hVv:∀ d',V i=d'→GV (yielded ops (a.put o.dst v).tmps) c' v d':=fun d' hd'=>by
    rw [← hd',← hVi]
    cases Nat.beq i (lastW ws) with
    | true=>exact Xw htv
    | false=>exact Xw Wp
   have hVo:∀ j w d',V i = .opt j w d'→listed.getD j false=true:=fun j w d' h=>by
    rw [← hVi] at h
    cases hbl:Nat.beq i (lastW ws) with
    | true =>
     rw [hbl] at h
     simp only [cond_true] at h
     rw [h] at htv
     simp only [TV,AV] at htv
     exact absurd htv Yl
    | false=>rw [hbl] at h; cases h
   have hnew:=new v c' hI' ⟨i+1,by omega,hH'.trans hHi1,hA,hB,hC⟩ hkeep hVv hVo
   refine .inl ?_
   unfold Oper.wp
   rcases hrun' with h1 | ⟨h1,rfl⟩
   ·rw [h1]; exact hnew
   ·rw [h1]; exact hnew
  | false =>
  rw [hwr] at hstep
  simp only at hstep
  split at hstep <;> try cases hstep
  rename_i d0 b0 r0 o0 hstep0
  cases hmt:(mt H0.length d0 && !((Region.before ops).getD i 0).testBit (lastW ws)) with
  | true=>rw [hmt] at hstep; cases hstep
  | false =>
  rw [hmt] at hstep
  simp only [cond_false,Option.some.injEq,Prod.mk.injEq] at hstep
  obtain ⟨hV0,_,_,rfl,rfl,rfl⟩:=hstep
  rw [hV0] at hstep0
  have hstep:=hstep0
  unfold stepDr at hstep
  split at hstep <;> try cases hstep
  rename_i g hg
  obtain ⟨X,hX⟩:=hmore q hq1
  have hopc:∀ {x},opD P (hkA ops ws H0 (HH i) i) ops (E i) (gch ops 20 o.guard) orc0 g o=some x→opD P c.H ops (E i) (gch ops 20 o.guard) orc0 g o=some x:=fun {x} h=>by
   unfold hkA at h
   cases hbit:((Region.before ops).getD i 0).testBit (lastW ws) with
   | false=>rw [hbit] at h; rw [hq2,hX]; exact ZiN X h
   | true =>
    rw [hbit] at h
    simp only [cond_true] at h
    have hll:=reachI _ hbit
    have hli:lastW ws < i:=Zmt (fun i o ho e he hbi=>by
     have h1:=flow i o ho
     simp only [flowAt,Bool.and_eq_true] at h1
     have h2:=Array.all_eq_true'.1 h1.1.1 e he
     simp only [hbi,Bool.not_true,Bool.false_or] at h2
     exact Xj h2) (X0 ops i _ hilt hbit)
    have e1:=KZ hT (p:=i) (ops.size - i) (by omega) fun w h1 h2=>by
     cases hw':ws.contains w with
     | false=>rfl
     | true=>have:=hlast w (by simpa using hw'); omega
    have e2:=KZ hT (p:=q) (ops.size - q) (by omega) fun w h1 h2=>by
     cases hw':ws.contains w with
     | false=>rfl
     | true =>
      have h3:=hq4 w hw' h1
      have h4:=hlast w (by simpa using hw')
      have hne:ws ≠ []:=fun e=>by rw [e] at hw'; simp at hw'
      have hlw:ws.contains (lastW ws)=true:=by simpa using Zhq hne
      have h5:listed.getD w false=true:=by
       by_cases e:w=lastW ws
       ·rw [e]; exact hll
       ·exact reach _ w (by omega) (RH hcm hw' hlw (by omega)) hll
      rw [h5] at h3; cases h3
    rw [show i+(ops.size - i)=ops.size by omega] at e1
    rw [show q+(ops.size - q)=ops.size by omega] at e2
    rw [hq2,← e2.1,e1.1]
    exact h
  -- what is not an append leaves the chain where it is
  have newH:∀ v c',Goes c c'→∃ q,q≤ops.size∧c'.H=HH q∧(∀ w,ws.contains w=true→w < q→(listed.setIfInBounds i true).getD w false=true)∧(∀ w,ws.contains w=true→q≤w→(listed.setIfInBounds i true).getD w false=false) ∧
     ∀ t0 d0,CH q=some (t0,d0)→TV c' ((a.put o.dst v).tmps.getD t0 undef) d0:=fun v c' hgo=>by
   have hne:∀ w,ws.contains w=true→i ≠ w:=fun w hw e=>by subst e; rw [hwr] at hw; cases hw
   refine ⟨q,hq1,hgo.H.trans hq2,fun w hw hwq=>by rw [getD_set_ne false (hne w hw)]; exact hq3 w hw hwq,fun w hw hwq=>by rw [getD_set_ne false (hne w hw)]; exact hq4 w hw hwq,fun t0 d1 h=>?_⟩
   have hdt:o.dst ≠ some t0:=fun hd=>by
    rcases chA hcl hT h00 hc0 q hq1 with ⟨h1,_⟩ | ⟨t1,m,o1,h1,_,w,_,hw1,hw2⟩
    ·rw [h1] at h; cases h
    ·rw [h1] at h
     cases h
     have:=JX hnd (show (ops[i]?).bind (·.dst)=some t0 by rw [ho]; exact hd) hw2
     exact hne w hw1 this
   rw [U2 hdt]
   exact hgo.tv (hq5 t0 d1 h)
  split at hstep
  ·rename_i d bs0 rq0 orc2 j want hop hgd
   cases hlt:Nat.blt j i with
   | false=>simp [hlt] at hstep
   | true =>
    simp only [hlt,cond_true,Option.some.injEq,Prod.mk.injEq] at hstep
    obtain ⟨hV,rfl,rfl,rfl⟩:=hstep
    have hji:=Xj hlt
    have hyj:∀ v,yielded ops (a.put o.dst v).tmps j=yielded ops a.tmps j:=fun v=>Ji fun t ht e=>by
     have:=JX hnd (show (ops[i]?).bind (·.dst)=some t by rw [ho]; exact ht) e
     omega
    have hjl:listed.getD j false=true:=by
     rw [hgd] at hf2
     simp only at hf2
     obtain ⟨e,he,h1⟩:=Array.any_eq_true'.1 hf2
     simp only [Bool.and_eq_true] at h1
     rw [← Nat.eq_of_beq_eq_true h1.2]
     exact hall e he h1.1
    have hwant:Region.wanted o (yielded ops a.tmps)=(yielded ops a.tmps j==some want):=by simp [Region.wanted,hgd]
    have hvo:∀ j' w d',V i = .opt j' w d'→listed.getD j' false=true:=fun j' w d' h=>by rw [← hV] at h; cases h; exact hjl
    cases hw:Region.wanted o (yielded ops a.tmps) with
    | true =>
     simp only [if_true]
     refine .inl (V3 hD.inv hops hgf hg hw (hopc hop) (fun b hb'=>hb b (hb1 b hb')) (fun q hq'=>hq q (hr1 q hq')) fun v c' hI' haf=>?_)
     obtain ⟨hgo,_,htv⟩:=haf
     refine new v c' hI' (newH v c' hgo) (fun t=>hgo.gv (hD.env t)) (fun d' hd'=>?_) hvo
     rw [← hd',← hV]
     refine .inl ⟨?_,htv⟩
     rw [hyj]
     rw [hw] at hwant
     simpa using hwant.symm
    | false =>
     simp only [Bool.false_eq_true,if_false]
     refine new undef c hD.inv (newH undef c (Goes.refl hD.inv)) hD.env (fun d' hd'=>?_) hvo
     rw [← hd',← hV]
     refine .inr ⟨?_,rfl⟩
     rw [hyj]
     rw [hw] at hwant
     simpa using hwant.symm
  ·rename_i d bs0 rq0 orc2 hop hgd
   simp only [Option.some.injEq,Prod.mk.injEq] at hstep
   obtain ⟨hV,rfl,rfl,rfl⟩:=hstep
   have hw:Region.wanted o (yielded ops a.tmps)=true:=by simp [Region.wanted,hgd]
   simp only [hw,if_true]
   refine .inl (V3 hD.inv hops hgf hg hw (hopc hop) (fun b hb'=>hb b (hb1 b hb')) (fun q hq'=>hq q (hr1 q hq')) fun v c' hI' haf=>?_)
   obtain ⟨hgo,_,htv⟩:=haf
   refine new v c' hI' (newH v c' hgo) (fun t=>hgo.gv (hD.env t)) (fun d' hd'=>?_) (fun j w d' h=>?_)
   ·rw [← hd',← hV]; exact Xw htv
   ·rw [← hV] at h
    subst h
    simp only [TV,AV] at htv
    exact absurd htv Yl
  ·cases hstep
def regA (P:Program) (ops:Array Oper) (ws:List Nat) (orc:List Res) (keep:List Nat) (hn:Nat) (s:St):Option (St × List Bool × List Req) :=
 bif flowB ops&&P.follows .mixedOrders&&cordB ops ws&&s.H.all (cleanO s.H.length)&&s.env.all (fun p=>!mt s.H.length p.2)&&ws.all (fun w=>Nat.ble w (lastW ws)) then
  (match runA P s.nt ops ws s.H 0 ops.toList s.env s.H none orc with
  | some (env',H',some (t,d),bs,rq,_)=>(cutS hn ⟨s.nt,fin ((t,d) :: env') keep,H'⟩).map fun s'=>(s',bs,rq)
  | _=>none) else none
theorem Zgk {id:Nat}:∀ {env:List (Nat × D)},env.all (fun p=>!mt id p.2)=true→∀ t,mt id (find env t)=false
 | [],_,_=>rfl
 | (u,d) :: env,h,t=>by
  simp only [List.all_cons,Bool.and_eq_true,Bool.not_eq_true'] at h
  simp only [find]
  cases Nat.beq u t with
  | true=>exact h.1
  | false=>exact Zgk h.2 t
theorem ZiV {P:Program} {Q:Exit→St→Prop} {s:St} {id:Nat} {ops:Array Oper} (ws:List Nat) (orc:List Res) (keep:List Nat) (hn:Nat) {s':St} {bs:List Bool} {rq:List Req}
  (h:regA P ops ws orc keep hn s=some (s',bs,rq)) (hb:∀ b∈bs,b=true) (hq:∀ q∈rq,q.ok P) (k:Q .normal s'):AWP P (.region id ops true) Q s:=by
 rintro F a w hG ⟨c,rfl,hH,hI,henv,hsz,hd⟩
 unfold regA at h
 cases hc:(flowB ops&&P.follows .mixedOrders&&cordB ops ws&&s.H.all (cleanO s.H.length)&&s.env.all (fun p=>!mt s.H.length p.2)&&ws.all (fun w=>Nat.ble w (lastW ws))) with
 | false=>rw [hc] at h; cases h
 | true =>
  rw [hc] at h
  simp only [cond_true] at h
  simp only [Bool.and_eq_true] at hc
  obtain ⟨⟨⟨⟨⟨hc1,hc2⟩,hc3⟩,hc4⟩,hc5⟩,hc6⟩:=hc
  split at h <;> try cases h
  rename_i env' H' t d bs0 rq0 orc0 hrun
  obtain ⟨s1,hcut,heq⟩:=Option.map_eq_some_iff.1 h
  simp only [Prod.mk.injEq] at heq
  obtain ⟨rfl,rfl,rfl⟩:=heq
  refine wp_region_any hc2 ?_
  obtain ⟨E,HH,CH,V,hE0,hH0,hC0,hE1,hH1,hC1,hT⟩:=Zhp ops.toList 0 s.env env' s.H H' none (some (t,d)) orc orc0 bs0 rq0 (fun j=>.inl (by simp)) hrun
  simp only [Array.length_toList,Nat.zero_add] at hE1 hH1 hC1 hT
  let c':Ctx:={ c with w:=c.w.drew }
  have hgo:Goes c c':=⟨rfl,rfl,fun _ h=>h,fun _ _=>rfl,fun b hb=>(hI.imm b hb).1,fun id b hb=>(hI.loc id b hb).2.1⟩
  have hI':Inv F c':=hI.goes hgo (Bw.refl _ _).drew (fun _ h=>.inl h)
  have hnone:∀ i,¬ (Array.replicate ops.size false).getD i false=true:=fun i h=>by rw [Y6] at h; cases h
  have hval:∀ t,valL ops V (E 0) (fun i=>(Array.replicate ops.size false).getD i false=true) t=find s.env t:=fun t=>by rw [Jw (fun i _=>hnone i),hE0]
  have hD:AInv F s.nt ops ws HH CH V (E 0) (Array.replicate ops.size false) a c':=by
   refine ⟨⟨0,Nat.zero_le _,hH.trans hH0.symm,fun w _ h=>by omega,fun w _ _=>by rw [Y6],fun t0 d0 h=>by rw [hC0] at h; cases h⟩,hI',fun t=>?_,hsz,hd,fun t j w d hf=>?_,by simp,fun i j _ h=>absurd h (hnone i)⟩
   ·rw [hval]; exact Xw (hgo.tv (henv t))
   ·rw [hval] at hf
    have:=henv t
    rw [hf] at this
    simp only [TV,AV] at this
    exact absurd this Yl
  refine ZiU (H0:=s.H) hc1 hc3 hc4 (fun w hw=>Nat.le_of_ble_eq_true (List.all_eq_true.1 hc6 w hw)) (by rw [hE0]; exact Zgk hc5) hT hH0 hC0 hb hq [] hC1 (fun a' c'' hR=>⟨s1,k,?_⟩) ops.size _ a c' hD (by simp [cnt,List.countP_replicate])
  have hR':=W9 hR keep
  simp only [hE1,hH1] at hR'
  exact UO hcut F a' c''.w hR'
theorem rga {P:Program} {Q:Exit→St→Prop} {s:St} {id:Nat} {ops:Array Oper} (ws:List Nat) (orc:List Res) (keep:List Nat) (hn:Nat) (s':St) (bs:List Bool) (rq:List Req)
  (hb:∀ b∈bs,b=true) (hq:Reqs P rq) (k:Q .normal s') (h:regA P ops ws orc keep hn s=some (s',bs,rq):=by kernel_rfl):AWP P (.region id ops true) Q s:=ZiV ws orc keep hn h hb hq.all k
end Nv
namespace Nv
open Go Go.RowKit
section
variable {α:Type} [Inhabited α] (c:α→List D)
theorem Zku {l m:List α} {n k:Nat} {f g:Nat→List D} (hn:n=l.length) (hf:∀ i,i < n→f i=c (l.getD i default)) (hk:k=m.length) (hg:∀ i,i < k→g i=c (m.getD i default)) :
  ∀ i,i < n+k→app f n g i=c ((l++m).getD i default):=by
 subst hn
 subst hk
 intro i hi
 rw [← Zl8 c l m g hg i hi]
 unfold app
 cases hlt:Nat.blt i l.length with
 | true=>have h:=Xj hlt; simp only [cond_true]; exact hf i h
 | false=>rfl
theorem ZnH {x:α} {g:Nat→List D} (hg:g 0=c x):∀ i,i < 1→g i=c (([x]:List α).getD i default):=by
 intro i hi
 obtain rfl:i=0:=by omega
 simpa using hg
end
theorem ZdE {α:Type} {l m:List α} {n k:Nat} (hn:n=l.length) (hk:k=m.length):n+k=(l++m).length:=by simp [hn,hk]
section
variable {F:Fr} {c:Ctx} {i0 i1:Nat} {o:Ob}
end
end Nv
namespace Nv
open Go Go.RowKit Go.Shelf Go.Sort Go.Proofs
def encD:D→Value
 | .int k n=>.int k n
 | .bool b=>.bool b
 | .str s=>.string s
 | _=>undef
def scB:D→Bool
 | .int _ _ | .bool _ | .str _=>true
 | _=>false
theorem ZiW {d:D} (h:scB d=true):(encD d).oneCell'=true:=by cases d <;> first | rfl | cases h
theorem Zkv {d:D} (h:scB d=true) (I:Nat→Prop) (w:World):PV I w (encD d) d:=by cases d <;> first | exact .int _ _ | exact .bool _ | exact .str _ | cases h
theorem Zmu {d:D} (h:scB d=true) {I:Nat→Prop} {w:World} {u:Value} (k:PV I w u d):u=encD d:=by
 cases d <;> first | (cases k; rfl) | cases h
def sortP {T:Type} [Inhabited T] (cf:T→T→Int) (l:List T):List T:=(pdq (ltOf cf) l.toArray 0 l.length (Lib.bitLen l.length) true true).toList
section
variable {T:Type} [Inhabited T] {cf:T→T→Int}
theorem Zab (a:Array T) (q:Nat) (h:q < a.size):a[q]! = a.toList.getD q default:=by
 rw [getElem!_pos a q h]; simp [h]
theorem G2 (hO:SWO (ltOf cf)) (l:List T):(sortP cf l).length=l.length∧(sortP cf l).Perm l∧(sortP cf l).Pairwise (fun x y=>ltOf cf y x=false):=by
 have h:=pdq_sorts (ltOf cf) hO l.toArray 0 l.length (Lib.bitLen l.length) true true (Nat.zero_le _) (by simp) (Or.inl rfl)
 obtain ⟨⟨h1,_,h3⟩,h4⟩:=h
 have hsz:(sortP cf l).length=l.length:=by unfold sortP; simpa using h1
 refine ⟨hsz,?_,?_⟩
 ·unfold sortP
  have q1:∀ (a:Array T),a.size=l.length→a.extract 0 l.length=a:=fun a ha=>by rw [← ha]; simp
  rw [q1 _ (by simpa using h1),q1 _ (by simp)] at h3
  simpa using h3
 ·rw [List.pairwise_iff_getElem]
  intro i j hi hj hij
  have:=h4 i j (Nat.zero_le _) hij (by rw [← hsz]; exact hj)
  unfold sortP at hi hj ⊢
  simp only [Array.length_toList] at hi hj
  rw [getElem!_pos _ j hj,getElem!_pos _ i hi] at this
  simpa using this
theorem Zkw {P:Program} {enc:T→List Value} {k:Nat} {w:World} {b off m:Nat} {d:Array T} {os:Array Obj} (h:GT P w) (hb:∀ g,tabG P g=true→b ≠ g):GT P (sortWorldK enc k w b off m d os) :=
 h.of_block fun g hg=>by
  have hlt:=h.lt hg
  have hne:=hb g hg
  simp only [sortWorldK,grow,putRowK,putRow,mapBlock,Go.Sort.ahead]
  rw [Array.getElem?_append_left (by simpa using hlt),Array.getElem?_modify,if_neg hne]
theorem Zgl {w w':World} (h:Bw w.heap.size w w'):∃ q os,w'=grow (w.drewN q) os:=by
 obtain ⟨p,hp⟩:=regrown_of_below h.toBelow
 refine ⟨w'.drawn - w.drawn,p.os,?_⟩
 have hd:=h.drawn
 have e:w'.drawn=p.d:=by rw [hp]; rfl
 have:w.drewN (w'.drawn - w.drawn)=redrawn w p.d:=by
  unfold World.drewN redrawn
  rw [← e,show w.drawn+(w'.drawn - w.drawn)=w'.drawn by omega]
 rw [this]; exact hp
theorem sortF {P : Program} {ρ : Ren} (L : SlLaysF0.n6 P ρ) (k : Nat) (aE : ∀ w, (isAgg (ρ.t 24)).run P w = .ok true w) (zE : ∀ w, (Go.sizeOf (ρ.t 24)).run P w = .ok k w) (c : T → List D) (hk : ∀ x, (c x).length = k) (hs : ∀ x, (c x).all scB = true)
    (hO : SWO (ltOf cf)) (g : Nat) (eg : ∀ args w, (callFunc g args).run P w = .ok (.enter g args) w) (hF : ∀ x y, Fn P g [.agg (c x), .agg (c y)] (.pure (.int .i64 (cf x y)))) (l : List T) (hl : l.length < 4611686018427387904) (hne : 0 < l.length) :
    FnM P (ρ.f 6) [.asl 0 0 l.length, .fn g []] k l.length (fun i => c (l.getD i default)) (fun i => c ((sortP cf l).getD i default)) (.tup []) := by
  intro I0 w m vs hGT hgm hI0 hm hov hvs
  -- the arguments
  have hsz : vs.size = 2 := hvs.1
  have hv0 := hvs.2 0 vs[0] (.asl 0 0 l.length) (by simp [hsz]) rfl
  have hv1 := hvs.2 1 vs[1] (.fn g []) (by simp [hsz]) rfl
  simp only [AV, CV] at hv0
  obtain ⟨wd1, n1, f1, a, cap, hH, hle, hv0, hcap, hor⟩ := hv0
  simp only [Lctx, List.getElem?_cons_zero, Option.some.injEq, Ob.arr.injEq] at hH
  obtain ⟨rfl, rfl, rfl⟩ := hH
  obtain ⟨cb, hv1, hcb⟩ := hv1
  have hcb0 : cb = #[] := by
    have := hcb.1
    simp at this
    exact this
  subst hcb0
  rcases hor with h0 | ⟨b, hmu, rfl, hroom⟩
  · omega
  simp only [Lctx, if_true] at hmu
  subst hmu
  have hvs' : vs = #[.slice (some ⟨b, 0, none⟩) l.length cap, .func (.func g) #[] #[]] := by
    apply Array.ext (by simp [hsz])
    intro i h1 h2
    rcases i with _ | _ | i
    · simpa using hv0
    · simpa using hv1
    · simp at h2; omega
  subst hvs'
  obtain ⟨hlen, hov⟩ := hov
  rcases hov with ⟨h1, _⟩ | ⟨b', cs, TT, hb', hheap, hsize, hcell⟩
  · cases h1
  cases hb'
  have hheap : w.heap[b]? = some (.cells cs TT (0, 0)) := hheap
  let enc : T → List Value := fun x => (c x).map encD
  have hek : ∀ x, (enc x).length = k := fun x => by simp [enc, hk]
  have he1 : ∀ x, ∀ v ∈ enc x, v.oneCell' = true := fun x v hv => by
    simp only [enc, List.mem_map] at hv
    obtain ⟨d, hd, rfl⟩ := hv
    exact ZiW (List.all_eq_true.1 (hs x) d hd)
  have hblt : b < w.heap.size := (hm b rfl).1
  have hsd : l.toArray.size = l.length := by simp
  have hH : HoldsK enc k w b 0 l.toArray := by
    intro j hj
    rw [size_flatK, hsd] at hj
    have k0 : 0 < k := by rcases Nat.eq_zero_or_pos k with h | h; · subst h; simp at hj
                          · exact h
    have hi : j / k < l.length := by rw [Nat.div_lt_iff_lt_mul k0]; exact hj
    have hmod : j % k < k := Nat.mod_lt _ k0
    have hx : l.toArray[j / k]! = l.getD (j / k) default := Zab _ _ (by simpa using hi)
    obtain ⟨d, hd⟩ : ∃ d, (c (l.getD (j / k) default))[j % k]? = some d := ⟨_, List.getElem?_eq_getElem (by rw [hk]; exact hmod)⟩
    obtain ⟨v, hv, _, hpv⟩ := hcell (j / k) hi (j % k) d hd
    have hsc := List.all_eq_true.1 (hs (l.getD (j / k) default)) d (List.mem_of_getElem? hd)
    have hve := Zmu hsc hpv
    rw [Nat.mul_comm, Nat.div_add_mod] at hv
    refine ⟨?_, ?_⟩
    · rw [get_flatK _ _ _ _ (by rw [hsd]; exact hj), hx]
      have e2 : (enc (l.getD (j / k) default))[j % k]! = v := by
        have : (enc (l.getD (j / k) default))[j % k]? = some (encD d) := by simp only [enc, List.getElem?_map, hd, Option.map_some]
        rw [List.getElem!_of_getElem? this, hve]
      rw [e2]
      simp only [World.cell?, hheap, Nat.zero_add]
      simpa using hv
    · simp [World.frozen?, hheap]
  have hcmp : CmpLays P g #[] enc k cf b 0 l.toArray.size w := by
    intro q os dk _ x y
    have hW : GT P (sortWorldK enc k w b 0 q dk os) := Zkw hGT fun gg hg e => hgm gg hg (by rw [e])
    have hargs : Vs (AV (NoCtx (fun _ => False) (sortWorldK enc k w b 0 q dk os))) #[.agg (enc x).toArray, .agg (enc y).toArray] [.agg (c x), .agg (c y)] := by
      have one : ∀ z, AV (NoCtx (fun _ => False) (sortWorldK enc k w b 0 q dk os)) (.agg (enc z).toArray) (.agg (c z)) := fun z => by
        refine ⟨_, rfl, by simp [enc], fun i v d h1 h2 => ?_⟩
        have hsc := List.all_eq_true.1 (hs z) d (List.mem_of_getElem? h2)
        have hv : v = encD d := by
          simp only [enc, List.getElem?_toArray, List.getElem?_map, h2, Option.map_some, Option.some.injEq] at h1
          exact h1.symm
        rw [hv]
        exact Ze3 (Zkv hsc _ _)
      refine ⟨rfl, fun i v d h1 h2 => ?_⟩
      rcases i with _ | _ | i
      · simp at h1 h2; subst h1; subst h2; exact one x
      · simp at h1 h2; subst h1; subst h2; exact one y
      · simp at h2
    refine (hF x y (fun _ => False) _ _ hW (fun _ h => h.elim) hargs).mono ?_
    rintro e w' ⟨v, I1, rfl, hbw, _, hrv⟩
    have hv : v = .int .i64 (cf x y) := by
      have : PV I1 w' v (.int .i64 (cf x y)) := hrv
      cases this; rfl
    subst hv
    obtain ⟨q2, os2, h2⟩ := Zgl hbw
    exact ⟨rfl, q2, os2, h2⟩
  have hmain := AnyQ.slices_SortFunc_eq L k aE zE enc hek he1 cf hO g #[] b 0 cap l.toArray w eg hcmp hH hblt (by simpa using hl)
  rw [hsd] at hmain
  refine hmain.mono ?_
  rintro e w' ⟨rfl, q, os, rfl⟩
  obtain ⟨hsl, _, _⟩ := G2 hO l
  have hps : (pdq (ltOf cf) l.toArray 0 l.length (Lib.bitLen l.length) true true).size = l.length := by
    have := hsl; unfold sortP at this; simpa using this
  generalize hd' : pdq (ltOf cf) l.toArray 0 l.length (Lib.bitLen l.length) true true = d' at *
  have hw'b : (sortWorldK enc k w b 0 q d' os).heap[b]? = some (.cells (putCells id 0 (flatK enc k d') cs) TT (0, 0)) := by
    simp only [sortWorldK, grow, putRowK, putRow, mapBlock, Go.Sort.ahead]
    rw [Array.getElem?_append_left (by simpa using hblt), Array.getElem?_modify, if_pos rfl, hheap]
    rfl
  have hother : ∀ j, j < w.heap.size → j ≠ b → (sortWorldK enc k w b 0 q d' os).heap[j]? = w.heap[j]? := fun j hj hne => by
    simp only [sortWorldK, grow, putRowK, putRow, mapBlock, Go.Sort.ahead]
    rw [Array.getElem?_append_left (by simpa using hj), Array.getElem?_modify, if_neg (Ne.symm hne)]
  refine ⟨.tuple #[], I0, rfl, ⟨rfl, rfl, rfl, ?_, ?_, fun j hj hnl => ?_, fun j hj => ?_⟩, fun _ h => .inl h, ⟨fun i hi => hk _, .inr ⟨b, _, TT, rfl, hw'b, ?_, fun i hi j d hd => ?_⟩⟩, ⟨#[], rfl, rfl, fun i v d h1 _ => by simp at h1⟩⟩
  · simp [sortWorldK, grow, putRowK, putRow, mapBlock, Go.Sort.ahead]
  · simp [sortWorldK, grow, putRowK, putRow, mapBlock, Go.Sort.ahead]
  · exact hother j hj fun e => hnl (by simp [Fr.lent, e])
  · simp only [Fr.lent, List.mem_singleton, Option.some.injEq] at hj
    subst hj
    exact ⟨cs, _, TT, hheap, hw'b, by simp [putCells]⟩
  · simpa [putCells] using hsize
  · have hi' : i < d'.size := by rw [hps]; exact hi
    have hx : (sortP cf l).getD i default = d'[i]! := by unfold sortP; rw [hd', Zab _ _ hi']
    have hd : (c ((sortP cf l).getD i default))[j]? = some d := hd
    rw [hx] at hd
    have hjk : j < k := by have := (List.getElem?_eq_some_iff.1 hd).1; rwa [hk] at this
    have hsc := List.all_eq_true.1 (hs d'[i]!) d (List.mem_of_getElem? hd)
    refine ⟨encD d, ?_, ZiW hsc, Zkv hsc _ _⟩
    have hlt : i * k + j < d'.size * k := by
      have := Nat.mul_le_mul_right k (show i + 1 ≤ d'.size from hi'); rw [Nat.add_mul, Nat.one_mul] at this; omega
    have hcs : i * k + j < cs.size := by rw [hps] at hlt; omega
    have e1 : (i * k + j) / k = i := (blk_iff k i _ (by omega)).1 ⟨by omega, by omega⟩
    have e2 : (i * k + j) % k = j := by rw [Nat.mod_eq_sub_div_mul, e1]; omega
    simp only [putCells, Array.getElem?_mapIdx, Nat.zero_add, Nat.sub_zero, Nat.zero_le, true_and, size_flatK, id]
    rw [Array.getElem?_eq_getElem hcs, Option.map_some, if_pos hlt, get_flatK _ _ _ _ hlt, e1, e2]
    congr 1
    have : (enc d'[i]!)[j]? = some (encD d) := by simp only [enc, List.getElem?_map, hd, Option.map_some]
    rw [List.getElem!_of_getElem? this]
end
end Nv
namespace Nv
open Go Go.RowKit Go.Shelf Go.Sort Go.Proofs
section
variable {T:Type} [Inhabited T]
def SortOK (cmp:T→T→Option Int):Prop:=∃ cf:T→T→Int,(∀ x y,cmp x y=some (cf x y))∧SWO (ltOf cf)
open Classical in
noncomputable def sortM (cmp:T→T→Option Int) (l:List T):Option (List T):=if h:SortOK cmp∧l.length < 4611686018427387904 then some (sortP h.1.choose l) else none
theorem Zgm {cmp:T→T→Option Int} {l r:List T} (h:sortM cmp l=some r):∃ cf:T→T→Int,(∀ x y,cmp x y=some (cf x y))∧SWO (ltOf cf)∧l.length < 4611686018427387904∧r=sortP cf l:=by
 unfold sortM at h
 split at h
 ·rename_i hx
  exact ⟨hx.1.choose,hx.1.choose_spec.1,hx.1.choose_spec.2,hx.2,(Option.some.inj h).symm⟩
 ·cases h
theorem ZiX {cmp:T→T→Option Int} {cf:T→T→Int} (hc:∀ x y,cmp x y=some (cf x y)) (hO:SWO (ltOf cf)) {l:List T} (hl:l.length < 4611686018427387904):sortM cmp l=some (sortP cf l):=by
 have hx:SortOK cmp∧l.length < 4611686018427387904:=⟨⟨cf,hc,hO⟩,hl⟩
 unfold sortM
 rw [dif_pos hx]
 have:hx.1.choose=cf:=by
  funext x y
  have h1:=hx.1.choose_spec.1 x y
  rw [hc x y] at h1
  exact (Option.some.inj h1).symm
 rw [this]
end
section
variable {T:Type}
theorem G3 {lt:T→T→Bool} (hO:SWO lt):∀ {s t:List T},s.Perm t→s.Pairwise (fun x y=>lt y x=false)→t.Pairwise (fun x y=>lt x y=true)→s=t
 | [],t,hp,_,_=>(List.nil_perm.1 hp).symm
 | x :: s,[],hp,_,_=>by have:=hp.length_eq; simp at this
 | x :: s,y :: t,hp,h1,h2=>by
  rw [List.pairwise_cons] at h1 h2
  have hy:y∈x :: s:=hp.symm.subset List.mem_cons_self
  have hx:x∈y :: t:=hp.subset List.mem_cons_self
  have e:x=y:=by
   rcases List.mem_cons.1 hx with e | hx
   ·exact e
   ·rcases List.mem_cons.1 hy with e | hy
    ·exact e.symm
    ·have a1:=h1.1 y hy
     have a2:=h2.1 x hx
     rw [a2] at a1; cases a1
  subst e
  rw [G3 hO (List.Perm.cons_inv hp) h1.2 h2.2]
def insK (cmp:T→T→Option Int) (x:T):List T→Option (List T)
 | []=>some [x]
 | y :: t=>match cmp x y with
  | none=>none
  | some c=>bif decide (c < 0) then some (x :: y :: t) else match insK cmp x t with
   | none=>none
   | some r=>some (y :: r)
def isoK (cmp:T→T→Option Int):List T→Option (List T)
 | []=>some []
 | x :: l=>match isoK cmp l with
  | none=>none
  | some r=>insK cmp x r
def ascK (cmp:T→T→Option Int):List T→Bool
 | x :: y :: t=>(match cmp x y with | some c=>decide (c < 0) | none=>false)&&ascK cmp (y :: t)
 | _=>true
def sortK (cmp:T→T→Option Int) (l:List T):Option (List T):=match isoK cmp l with
 | none=>none
 | some r=>bif ascK cmp r&&Nat.ble l.length 1000 then some r else none
theorem Zhr {cmp:T→T→Option Int} {x:T}:∀ {l r:List T},insK cmp x l=some r→r.Perm (x :: l)
 | [],r,h=>by simp only [insK,Option.some.injEq] at h; subst h; exact List.Perm.refl _
 | y :: t,r,h=>by
  simp only [insK] at h
  split at h <;> try cases h
  rename_i c _
  cases hb:decide (c < 0) with
  | true=>rw [hb] at h; simp only [cond_true,Option.some.injEq] at h; subst h; exact List.Perm.refl _
  | false =>
   rw [hb] at h
   simp only [cond_false] at h
   split at h <;> try cases h
   rename_i r' hr
   exact ((Zhr hr).cons y).trans (List.Perm.swap x y t)
theorem Zew {cmp:T→T→Option Int}:∀ {l r:List T},isoK cmp l=some r→r.Perm l
 | [],r,h=>by simp only [isoK,Option.some.injEq] at h; subst h; exact List.Perm.refl _
 | x :: l,r,h=>by
  simp only [isoK] at h
  split at h <;> try cases h
  rename_i r' hr
  exact (Zhr h).trans ((Zew hr).cons x)
theorem Zgn {kc mc:T→T→Option Int} (hk:∀ x y,Ref (kc x y) (mc x y)) {cf:T→T→Int} (hc:∀ x y,mc x y=some (cf x y)) (hO:SWO (ltOf cf)):∀ {l:List T},ascK kc l=true→l.Pairwise (fun x y=>ltOf cf x y=true)
 | [],_=>List.Pairwise.nil
 | [x],_=>by simp
 | x :: y :: t,h=>by
  simp only [ascK,Bool.and_eq_true] at h
  have ih:=Zgn hk hc hO (l:=y :: t) h.2
  have h1:ltOf cf x y=true:=by
   have h3:=h.1
   split at h3
   ·rename_i c hcx
    have:=hk x y c hcx
    rw [hc] at this
    cases this
    exact h3
   ·cases h3
  rw [List.pairwise_cons]
  refine ⟨fun z hz=>?_,ih⟩
  rcases List.mem_cons.1 hz with rfl | hz
  ·exact h1
  ·exact hO.trans _ _ _ h1 ((List.pairwise_cons.1 ih).1 z hz)
end
section
variable {T:Type} [Inhabited T]
theorem ZiY {kc mc:T→T→Option Int} (hk:∀ x y,Ref (kc x y) (mc x y)) (ok:SortOK mc) {l:List T}:Ref (sortK kc l) (sortM mc l):=by
 intro r hr
 unfold sortK at hr
 split at hr <;> try cases hr
 rename_i r' hi
 cases hb:(ascK kc r'&&Nat.ble l.length 1000) with
 | false=>rw [hb] at hr; cases hr
 | true =>
  rw [hb] at hr
  simp only [cond_true,Option.some.injEq] at hr
  subst hr
  simp only [Bool.and_eq_true] at hb
  have hlen:=Nat.le_of_ble_eq_true hb.2
  obtain ⟨cf,hc,hO⟩:=ok
  rw [ZiX hc hO (by omega)]
  obtain ⟨_,h2,h3⟩:=G2 hO l
  rw [G3 hO (h2.trans (Zew hi).symm) h3 (Zgn hk hc hO hb.1)]
end
end Nv
namespace Nv
open Go Go.RowKit Go.Shelf Go.Sort Go.Proofs
def Apart {T:Type} (lt:T→T→Bool) (l:List T):Prop:=l.Pairwise fun x y=>lt x y=true∨lt y x=true
theorem ZhU {T:Type} {lt:T→T→Bool} {l t:List T} (hp:t.Perm l) (ha:Apart lt l) (hs:t.Pairwise (fun x y=>lt y x=false)):t.Pairwise (fun x y=>lt x y=true):=by
 have h1:t.Pairwise fun x y=>lt x y=true∨lt y x=true:=(hp.symm.pairwise_iff (fun {a b} h=>h.symm)).1 ha
 exact (h1.and hs).imp fun {a b} h=>h.1.elim (fun x=>x) fun x=>by rw [h.2] at x; cases x
section
variable {T:Type} [Inhabited T]
def ApartM (cmp:T→T→Option Int) (l:List T):Prop:=l.Pairwise fun x y=>(∃ c,cmp x y=some c∧c < 0)∨∃ c,cmp y x=some c∧c < 0
open Classical in
noncomputable def sortU (cmp:T→T→Option Int) (l:List T):Option (List T):=if ApartM cmp l then sortM cmp l else none
omit [Inhabited T] in
theorem Zhs {cmp:T→T→Option Int} {cf:T→T→Int} (hc:∀ x y,cmp x y=some (cf x y)) {l:List T}:ApartM cmp l↔Apart (ltOf cf) l:=by
 unfold ApartM Apart
 have key:∀ x y,(∃ c,cmp x y=some c∧c < 0)↔ltOf cf x y=true:=fun x y=>by
  rw [hc]
  unfold ltOf
  simp
 simp only [key]
theorem ZjP {cmp:T→T→Option Int} {l r:List T} (h:sortU cmp l=some r):∃ cf:T→T→Int,(∀ x y,cmp x y=some (cf x y))∧SWO (ltOf cf)∧l.length < 4611686018427387904∧Apart (ltOf cf) l∧r=sortP cf l:=by
 unfold sortU at h
 split at h
 ·rename_i hx
  obtain ⟨cf,h1,h2,h3,h4⟩:=Zgm h
  exact ⟨cf,h1,h2,h3,(Zhs h1).1 hx,h4⟩
 ·cases h
theorem Zk4 {kc mc:T→T→Option Int} (hk:∀ x y,Ref (kc x y) (mc x y)) (ok:SortOK mc) {l:List T}:Ref (sortK kc l) (sortU mc l):=by
 intro r hr
 have h1:=ZiY hk ok r hr
 obtain ⟨cf,hc,hO⟩:=ok
 unfold sortU
 rw [if_pos]
 ·exact h1
 rw [Zhs hc]
 unfold sortK at hr
 split at hr <;> try cases hr
 rename_i r' hi
 cases hb:(ascK kc r'&&Nat.ble l.length 1000) with
 | false=>rw [hb] at hr; cases hr
 | true =>
  simp only [Bool.and_eq_true] at hb
  have h2:=Zgn hk hc hO hb.1
  have h3:Apart (ltOf cf) r':=h2.imp fun h=>.inl h
  exact ((Zew hi).pairwise_iff (fun {a b} h=>h.symm)).1 h3
end
end Nv
namespace Nv
open Go Go.RowKit Go.Shelf Go.Sort Go.Proofs
section
variable {T:Type} [Inhabited T]
theorem sortF0 {P:Program} {ρ:Ren} (L:SlLaysF0.n6 P ρ) (k:Nat) (aE:∀ w,(isAgg (ρ.t 24)).run P w = .ok true w) (zE:∀ w,(Go.sizeOf (ρ.t 24)).run P w = .ok k w) (c:T→List D) (hk:∀ x,(c x).length=k) (hs:∀ x,(c x).all scB=true)
  {cf:T→T→Int} (hO:SWO (ltOf cf)) (g:Nat) (eg:∀ args w,(callFunc g args).run P w = .ok (.enter g args) w) (hF:∀ x y,Fn P g [.agg (c x),.agg (c y)] (.pure (.int .i64 (cf x y)))) (l:List T) (hl:l.length < 4611686018427387904) :
  FnM P (ρ.f 6) [.asl 0 0 l.length,.fn g []] k l.length (fun i=>c (l.getD i default)) (fun i=>c ((sortP cf l).getD i default)) (.tup []):=by
 rcases Nat.eq_zero_or_pos l.length with h0 | h0
 ·obtain rfl:=List.eq_nil_of_length_eq_zero h0
  have hp:sortP cf ([]:List T)=[]:=List.eq_nil_of_length_eq_zero (by rw [(G2 hO []).1]; rfl)
  rw [hp]
  intro I0 w m vs hGT hgm hI0 hm hov hvs
  have hsz:vs.size=2:=hvs.1
  have hv0:=hvs.2 0 vs[0] (.asl 0 0 0) (by simp [hsz]) rfl
  have hv1:=hvs.2 1 vs[1] (.fn g []) (by simp [hsz]) rfl
  simp only [AV,CV] at hv0
  obtain ⟨wd1,n1,f1,a,cap,hH,hle,hv0,hcap,hor⟩:=hv0
  have hvs':vs = #[.slice a 0 cap,vs[1]]:=by
   apply Array.ext (by simp [hsz])
   intro i h1 h2
   rcases i with _ | _ | i
   ·simpa using hv0
   ·simp
   ·simp at h2; omega
  rw [hvs']
  refine (AnyF.slices_SortFunc_none L a cap _ w).mono ?_
  rintro e w' ⟨rfl,rfl⟩
  refine ⟨.tuple #[],I0,rfl,⟨rfl,rfl,rfl,Nat.le_refl _,Nat.le_refl _,fun _ _ _=>rfl,fun j hj=>?_⟩,fun _ h=>.inl h,hov,⟨#[],rfl,rfl,fun i v d h1 _=>by simp at h1⟩⟩
  simp only [Fr.lent,List.mem_singleton] at hj
  subst hj
  obtain ⟨_,hov⟩:=hov
  rcases hov with ⟨h1,_⟩ | ⟨b',cs,TT,hb',hheap,_⟩
  ·cases h1
  ·cases hb'
   exact ⟨cs,cs,TT,hheap,hheap,rfl⟩
 ·exact sortF L k aE zE c hk hs hO g eg hF l hl h0
end
end Nv
namespace Nv
open Go Go.RowKit Go.Shelf Go.Sort Go.Proofs
def refB (d:D):Bool:=persB d&&cellB d
theorem Zmv {d:D} (h:refB d=true) {I:Nat→Prop} {w:World} {v:Value} (k:PV I w v d):v.oneCell'=true:=by
 simp only [refB,Bool.and_eq_true] at h
 exact ZcK (c:=NoCtx I w) h.2 (Ze3 k)
section
variable {T:Type} [Inhabited T] {cf:T→T→Int}
def Row (c:T→List D) (k:Nat) (I:Nat→Prop) (w:World):Type:={ p:T × List Value // p.2.length=k∧∀ (j:Nat) (v:Value) (d:D),p.2[j]? = some v→(c p.1)[j]? = some d→PV I w v d }
theorem sortFR {P : Program} {ρ : Ren} (L : SlLaysF0.n6 P ρ) (k : Nat) (aE : ∀ w, (isAgg (ρ.t 24)).run P w = .ok true w) (zE : ∀ w, (Go.sizeOf (ρ.t 24)).run P w = .ok k w) (c : T → List D) (hk : ∀ x, (c x).length = k) (hs : ∀ x, (c x).all refB = true)
    (hO : SWO (ltOf cf)) (g : Nat) (eg : ∀ args w, (callFunc g args).run P w = .ok (.enter g args) w) (hF : ∀ x y, Fn P g [.agg (c x), .agg (c y)] (.pure (.int .i64 (cf x y)))) (l : List T) (hl : l.length < 4611686018427387904) (hne : 0 < l.length) (hap : Apart (ltOf cf) l) :
    FnM P (ρ.f 6) [.asl 0 0 l.length, .fn g []] k l.length (fun i => c (l.getD i default)) (fun i => c ((sortP cf l).getD i default)) (.tup []) := by
  intro I0 w m vs hGT hgm hI0 hm hov hvs
  have hsz : vs.size = 2 := hvs.1
  have hv0 := hvs.2 0 vs[0] (.asl 0 0 l.length) (by simp [hsz]) rfl
  have hv1 := hvs.2 1 vs[1] (.fn g []) (by simp [hsz]) rfl
  simp only [AV, CV] at hv0
  obtain ⟨wd1, n1, f1, a, cap, hH, hle, hv0, hcap, hor⟩ := hv0
  simp only [Lctx, List.getElem?_cons_zero, Option.some.injEq, Ob.arr.injEq] at hH
  obtain ⟨rfl, rfl, rfl⟩ := hH
  obtain ⟨cb, hv1, hcb⟩ := hv1
  have hcb0 : cb = #[] := by
    have := hcb.1
    simp at this
    exact this
  subst hcb0
  rcases hor with h0 | ⟨b, hmu, rfl, hroom⟩
  · omega
  simp only [Lctx, if_true] at hmu
  subst hmu
  have hvs' : vs = #[.slice (some ⟨b, 0, none⟩) l.length cap, .func (.func g) #[] #[]] := by
    apply Array.ext (by simp [hsz])
    intro i h1 h2
    rcases i with _ | _ | i
    · simpa using hv0
    · simpa using hv1
    · simp at h2; omega
  subst hvs'
  obtain ⟨hlen, hov⟩ := hov
  rcases hov with ⟨h1, _⟩ | ⟨b', cs, TT, hb', hheap, hsize, hcell⟩
  · cases h1
  cases hb'
  have hheap : w.heap[b]? = some (.cells cs TT (0, 0)) := hheap
  have hcell : ∀ i, i < l.length → ∀ (j : Nat) (d : D), (c (l.getD i default))[j]? = some d → ∃ v, cs[i * k + j]? = some v ∧ v.oneCell' = true ∧ PV I0 w v d := hcell
  have hbI : ¬ I0 b := (hm b rfl).2
  -- the rows
  let R := Row c k I0 w
  have hrow : ∀ i, i < l.length → ((List.range k).map fun j => cs.getD (i * k + j) undef).length = k ∧ ∀ (j : Nat) (v : Value) (d : D), ((List.range k).map fun j => cs.getD (i * k + j) undef)[j]? = some v → (c (l.getD i default))[j]? = some d → PV I0 w v d := fun i hi => by
    refine ⟨by simp, fun j v d h1 h2 => ?_⟩
    obtain ⟨u, h3, _, h4⟩ := hcell i hi j d h2
    have hj : j < k := by have := (List.getElem?_eq_some_iff.1 h2).1; rwa [hk] at this
    have h5 : v = u := by
      simp only [List.getElem?_map, List.getElem?_range hj, Option.map_some, Option.some.injEq] at h1
      rw [← h1, Array.getD_eq_getD_getElem?, h3]; rfl
    rw [h5]; exact h4
  let r0 : R := ⟨(l.getD 0 default, (List.range k).map fun j => cs.getD (0 * k + j) undef), hrow 0 hne⟩
  letI : Inhabited R := ⟨r0⟩
  let mk : Fin l.length → R := fun i => ⟨(l.getD i.1 default, (List.range k).map fun j => cs.getD (i.1 * k + j) undef), hrow i.1 i.2⟩
  let l' : List R := List.ofFn mk
  have hl'len : l'.length = l.length := List.length_ofFn
  have hl'get : ∀ i (hi : i < l.length), l'.getD i default = ⟨(l.getD i default, (List.range k).map fun j => cs.getD (i * k + j) undef), hrow i hi⟩ := fun i hi => by
    rw [List.getD_eq_getElem?_getD, List.getElem?_eq_getElem (by rw [hl'len]; exact hi), Option.getD_some]
    show (List.ofFn mk)[i]'(by rw [List.length_ofFn]; exact hi) = _
    rw [List.getElem_ofFn]
  have hfst : l'.map (fun p => p.1.1) = l := by
    apply List.ext_getElem (by rw [List.length_map, hl'len])
    intro i h1 h2
    rw [List.getElem_map]
    show ((List.ofFn mk)[i]'(by rw [List.length_ofFn]; exact h2)).1.1 = _
    rw [List.getElem_ofFn]
    simp [mk, h2]
  let cf' : R → R → Int := fun p q => cf p.1.1 q.1.1
  have hO' : SWO (ltOf cf') := ⟨fun x => hO.irrefl x.1.1, fun x y z => hO.trans x.1.1 y.1.1 z.1.1, fun x y z => hO.ntrans x.1.1 y.1.1 z.1.1⟩
  obtain ⟨hsl', hsp', hsw'⟩ := G2 hO' l'
  obtain ⟨hsl, hsp, hsw⟩ := G2 hO l
  have hsame : (sortP cf' l').map (fun p => p.1.1) = sortP cf l := by
    refine G3 hO ?_ ?_ (ZhU hsp hap hsw)
    · have := hsp'.map (fun p : R => p.1.1)
      rw [hfst] at this
      exact this.trans hsp.symm
    · rw [List.pairwise_map]
      exact hsw'
  let enc : R → List Value := fun p => p.1.2
  have hek : ∀ x, (enc x).length = k := fun x => x.2.1
  have hpv : ∀ (x : R) (j : Nat) (v : Value), (enc x)[j]? = some v → ∃ d, (c x.1.1)[j]? = some d ∧ PV I0 w v d ∧ v.oneCell' = true := fun x j v h => by
    have hj : j < k := by have := (List.getElem?_eq_some_iff.1 h).1; rwa [hek] at this
    have hd : (c x.1.1)[j]? = some ((c x.1.1)[j]'(by rw [hk]; exact hj)) := List.getElem?_eq_getElem _
    exact ⟨_, hd, x.2.2 j v _ h hd, Zmv (List.all_eq_true.1 (hs x.1.1) _ (List.mem_of_getElem? hd)) (x.2.2 j v _ h hd)⟩
  have he1 : ∀ x, ∀ v ∈ enc x, v.oneCell' = true := fun x v hv => by
    obtain ⟨j, hj⟩ := List.getElem?_of_mem hv
    obtain ⟨_, _, _, h⟩ := hpv x j v hj
    exact h
  have hblt : b < w.heap.size := (hm b rfl).1
  have hsd : l'.toArray.size = l.length := by simp [hl'len]
  have hH : HoldsK enc k w b 0 l'.toArray := by
    intro j hj
    rw [size_flatK, hsd] at hj
    have k0 : 0 < k := by rcases Nat.eq_zero_or_pos k with h | h; · subst h; simp at hj
                          · exact h
    have hi : j / k < l.length := by rw [Nat.div_lt_iff_lt_mul k0]; exact hj
    have hmod : j % k < k := Nat.mod_lt _ k0
    have hx : l'.toArray[j / k]! = l'.getD (j / k) default := Zab _ _ (by simpa [hl'len] using hi)
    obtain ⟨d, hd⟩ : ∃ d, (c (l.getD (j / k) default))[j % k]? = some d := ⟨_, List.getElem?_eq_getElem (by rw [hk]; exact hmod)⟩
    obtain ⟨v, hv, _, _⟩ := hcell (j / k) hi (j % k) d hd
    have e0 : j / k * k + j % k = j := by rw [Nat.mul_comm]; exact Nat.div_add_mod j k
    refine ⟨?_, ?_⟩
    · rw [get_flatK _ _ _ _ (by rw [hsd]; exact hj), hx, hl'get _ hi]
      have e2 : (enc (⟨(l.getD (j / k) default, (List.range k).map fun q => cs.getD (j / k * k + q) undef), hrow _ hi⟩ : R))[j % k]! = v := by
        have : (enc (⟨(l.getD (j / k) default, (List.range k).map fun q => cs.getD (j / k * k + q) undef), hrow _ hi⟩ : R))[j % k]? = some v := by
          simp only [enc, List.getElem?_map, List.getElem?_range hmod, Option.map_some, Option.some.injEq]
          rw [Array.getD_eq_getD_getElem?, hv]; rfl
        rw [List.getElem!_of_getElem? this]
      rw [e2]
      rw [e0] at hv
      simp only [World.cell?, hheap, Nat.zero_add]
      simpa using hv
    · simp [World.frozen?, hheap]
  have hkeep : ∀ (q : Nat) (dk : Array R) (os : Array Obj) (j : Nat), j < w.heap.size → j ≠ b → (sortWorldK enc k w b 0 q dk os).heap[j]? = w.heap[j]? := fun q dk os j hj hne => by
    simp only [sortWorldK, grow, putRowK, putRow, mapBlock, Go.Sort.ahead]
    rw [Array.getElem?_append_left (by simpa using hj), Array.getElem?_modify, if_neg (Ne.symm hne)]
  have hsizeW : ∀ (q : Nat) (dk : Array R) (os : Array Obj), w.heap.size ≤ (sortWorldK enc k w b 0 q dk os).heap.size := fun q dk os => by
    simp [sortWorldK, grow, putRowK, putRow, mapBlock, Go.Sort.ahead]
  have hpvW : ∀ (q : Nat) (dk : Array R) (os : Array Obj) {v : Value} {d : D}, PV I0 w v d → PV I0 (sortWorldK enc k w b 0 q dk os) v d := fun q dk os v d h =>
    h.mono (fun _ h => h) fun j hj => hkeep q dk os j (hI0 j hj) fun e => hbI (e ▸ hj)
  have hcmp : CmpLays P g #[] enc k cf' b 0 l'.toArray.size w := by
    intro q os dk _ x y
    have hW : GT P (sortWorldK enc k w b 0 q dk os) := Zkw hGT fun gg hg e => hgm gg hg (by rw [e])
    have hargs : Vs (AV (NoCtx I0 (sortWorldK enc k w b 0 q dk os))) #[.agg (enc x).toArray, .agg (enc y).toArray] [.agg (c x.1.1), .agg (c y.1.1)] := by
      have one : ∀ z : R, AV (NoCtx I0 (sortWorldK enc k w b 0 q dk os)) (.agg (enc z).toArray) (.agg (c z.1.1)) := fun z => by
        refine ⟨_, rfl, by simp [hek, hk], fun i v d h1 h2 => ?_⟩
        have h3 : (enc z)[i]? = some v := by simpa using h1
        obtain ⟨d', h4, h5, _⟩ := hpv z i v h3
        rw [h2] at h4
        cases h4
        exact Ze3 (hpvW q dk os h5)
      refine ⟨rfl, fun i v d h1 h2 => ?_⟩
      rcases i with _ | _ | i
      · simp at h1 h2; subst h1; subst h2; exact one x
      · simp at h1 h2; subst h1; subst h2; exact one y
      · simp at h2
    refine (hF x.1.1 y.1.1 I0 _ _ hW (fun j hj => Nat.lt_of_lt_of_le (hI0 j hj) (hsizeW q dk os)) hargs).mono ?_
    rintro e w' ⟨v, I1, rfl, hbw, _, hrv⟩
    have hv : v = .int .i64 (cf x.1.1 y.1.1) := by
      have : PV I1 w' v (.int .i64 (cf x.1.1 y.1.1)) := hrv
      cases this; rfl
    subst hv
    obtain ⟨q2, os2, h2⟩ := Zgl hbw
    exact ⟨rfl, q2, os2, h2⟩
  have hmain := AnyQ.slices_SortFunc_eq L k aE zE enc hek he1 cf' hO' g #[] b 0 cap l'.toArray w eg hcmp hH hblt (by rw [hsd]; exact hl)
  rw [hsd] at hmain
  refine hmain.mono ?_
  rintro e w' ⟨rfl, q, os, rfl⟩
  have hps : (pdq (ltOf cf') l'.toArray 0 l.length (Lib.bitLen l.length) true true).size = l.length := by
    have := hsl'; unfold sortP at this; rw [hl'len] at this; simpa using this
  have hsort : ∀ i, i < l.length → (sortP cf l).getD i default = (pdq (ltOf cf') l'.toArray 0 l.length (Lib.bitLen l.length) true true)[i]!.1.1 := fun i hi => by
    rw [Zab _ _ (by rw [hps]; exact hi), ← hsame]
    have : (sortP cf' l') = (pdq (ltOf cf') l'.toArray 0 l.length (Lib.bitLen l.length) true true).toList := by unfold sortP; rw [hl'len]
    rw [← this]
    have hi' : i < (sortP cf' l').length := by rw [hsl', hl'len]; exact hi
    simp [hi']
  generalize hd' : pdq (ltOf cf') l'.toArray 0 l.length (Lib.bitLen l.length) true true = d' at *
  have hw'b : (sortWorldK enc k w b 0 q d' os).heap[b]? = some (.cells (putCells id 0 (flatK enc k d') cs) TT (0, 0)) := by
    simp only [sortWorldK, grow, putRowK, putRow, mapBlock, Go.Sort.ahead]
    rw [Array.getElem?_append_left (by simpa using hblt), Array.getElem?_modify, if_pos rfl, hheap]
    rfl
  refine ⟨.tuple #[], I0, rfl, ⟨rfl, rfl, rfl, ?_, ?_, fun j hj hnl => ?_, fun j hj => ?_⟩, fun _ h => .inl h, ⟨fun i hi => hk _, .inr ⟨b, _, TT, rfl, hw'b, ?_, fun i hi j d hd => ?_⟩⟩, ⟨#[], rfl, rfl, fun i v d h1 _ => by simp at h1⟩⟩
  · simp [sortWorldK, grow, putRowK, putRow, mapBlock, Go.Sort.ahead]
  · simp [sortWorldK, grow, putRowK, putRow, mapBlock, Go.Sort.ahead]
  · exact hkeep q d' os j hj fun e => hnl (by simp [Fr.lent, e])
  · simp only [Fr.lent, List.mem_singleton, Option.some.injEq] at hj
    subst hj
    exact ⟨cs, _, TT, hheap, hw'b, by simp [putCells]⟩
  · simpa [putCells] using hsize
  · have hi' : i < d'.size := by rw [hps]; exact hi
    have hd : (c ((sortP cf l).getD i default))[j]? = some d := hd
    rw [hsort i hi] at hd
    have hjk : j < k := by have := (List.getElem?_eq_some_iff.1 hd).1; rwa [hk] at this
    obtain ⟨v, hv⟩ : ∃ v, (enc d'[i]!)[j]? = some v := ⟨_, List.getElem?_eq_getElem (by rw [hek]; exact hjk)⟩
    obtain ⟨d2, h4, h5, h6⟩ := hpv _ j v hv
    rw [hd] at h4
    cases h4
    refine ⟨v, ?_, h6, hpvW q d' os h5⟩
    have hlt : i * k + j < d'.size * k := by
      have := Nat.mul_le_mul_right k (show i + 1 ≤ d'.size from hi'); rw [Nat.add_mul, Nat.one_mul] at this; omega
    have hcs : i * k + j < cs.size := by rw [hps] at hlt; omega
    have e1 : (i * k + j) / k = i := (blk_iff k i _ (by omega)).1 ⟨by omega, by omega⟩
    have e2 : (i * k + j) % k = j := by rw [Nat.mod_eq_sub_div_mul, e1]; omega
    simp only [putCells, Array.getElem?_mapIdx, Nat.zero_add, Nat.sub_zero, Nat.zero_le, true_and, size_flatK, id]
    rw [Array.getElem?_eq_getElem hcs, Option.map_some, if_pos hlt, get_flatK _ _ _ _ hlt, e1, e2]
    congr 1
    rw [List.getElem!_of_getElem? hv]
end
section
variable {T:Type} [Inhabited T]
theorem sortFR0 {P:Program} {ρ:Ren} (L:SlLaysF0.n6 P ρ) (k:Nat) (aE:∀ w,(isAgg (ρ.t 24)).run P w = .ok true w) (zE:∀ w,(Go.sizeOf (ρ.t 24)).run P w = .ok k w) (c:T→List D) (hk:∀ x,(c x).length=k) (hs:∀ x,(c x).all refB=true)
  {cf:T→T→Int} (hO:SWO (ltOf cf)) (g:Nat) (eg:∀ args w,(callFunc g args).run P w = .ok (.enter g args) w) (hF:∀ x y,Fn P g [.agg (c x),.agg (c y)] (.pure (.int .i64 (cf x y)))) (l:List T) (hl:l.length < 4611686018427387904) (ha:Apart (ltOf cf) l) :
  FnM P (ρ.f 6) [.asl 0 0 l.length,.fn g []] k l.length (fun i=>c (l.getD i default)) (fun i=>c ((sortP cf l).getD i default)) (.tup []):=by
 rcases Nat.eq_zero_or_pos l.length with h0 | h0
 ·obtain rfl:=List.eq_nil_of_length_eq_zero h0
  have hp:sortP cf ([]:List T)=[]:=List.eq_nil_of_length_eq_zero (by rw [(G2 hO []).1]; rfl)
  rw [hp]
  intro I0 w m vs hGT hgm hI0 hm hov hvs
  have hsz:vs.size=2:=hvs.1
  have hv0:=hvs.2 0 vs[0] (.asl 0 0 0) (by simp [hsz]) rfl
  have hv1:=hvs.2 1 vs[1] (.fn g []) (by simp [hsz]) rfl
  simp only [AV,CV] at hv0
  obtain ⟨wd1,n1,f1,a,cap,hH,hle,hv0,hcap,hor⟩:=hv0
  have hvs':vs = #[.slice a 0 cap,vs[1]]:=by
   apply Array.ext (by simp [hsz])
   intro i h1 h2
   rcases i with _ | _ | i
   ·simpa using hv0
   ·simp
   ·simp at h2; omega
  rw [hvs']
  refine (AnyF.slices_SortFunc_none L a cap _ w).mono ?_
  rintro e w' ⟨rfl,rfl⟩
  refine ⟨.tuple #[],I0,rfl,⟨rfl,rfl,rfl,Nat.le_refl _,Nat.le_refl _,fun _ _ _=>rfl,fun j hj=>?_⟩,fun _ h=>.inl h,hov,⟨#[],rfl,rfl,fun i v d h1 _=>by simp at h1⟩⟩
  simp only [Fr.lent,List.mem_singleton] at hj
  subst hj
  obtain ⟨_,hov⟩:=hov
  rcases hov with ⟨h1,_⟩ | ⟨b',cs,TT,hb',hheap,_⟩
  ·cases h1
  ·cases hb'
   exact ⟨cs,cs,TT,hheap,hheap,rfl⟩
 ·exact sortFR L k aE zE c hk hs hO g eg hF l hl h0 ha
end
end Nv
namespace Nv
open Go
section
variable {α:Type} [Inhabited α] (cmp:α→α→Option Int)
end
end Nv
namespace Nv
open Go
section
variable {α:Type} [Inhabited α]
theorem wrN {n:Int} (h0:0≤n) (h1:n≤9223372036854775807):wr .i64 n=n:=by
 unfold wr
 rw [IntWalk.i64_in _ (by omega)]
abbrev at' (l:List α) (k:Nat):α:=l.getD k default
def swp (l:List α) (i j:Nat):List α:=(l.set i (at' l j)).set j (at' l i)
@[simp] theorem swp_len (l:List α) (i j:Nat):(swp l i j).length=l.length:=by simp [swp]
end
section
variable {α:Type}
structure SW (lt:α→α→Bool):Prop where
 irr:∀ x,lt x x=false
 tr:∀ x y z,lt x y=true→lt y z=true→lt x z=true
 ntr:∀ x y z,lt x y=false→lt y z=false→lt x z=false
variable {lt:α→α→Bool}
def eqv (lt:α→α→Bool) (e x:α):Bool:=!lt e x && !lt x e
end
section
variable {α:Type} [Inhabited α] {lt:α→α→Bool}
structure Rng (lt:α→α→Bool) (a b:Nat) (l l':List α):Prop where
 len:l'.length=l.length
 out:∀ k,k < a∨b≤k→at' l' k=at' l k
 stab:∀ e,l'.filter (eqv lt e)=l.filter (eqv lt e)
 src:∀ k,a≤k→k < b→∃ k',a≤k'∧k' < b∧at' l' k=at' l k'
end
section
variable {α:Type} {lt:α→α→Bool}
end
section
variable {α:Type} [Inhabited α] {lt:α→α→Bool}
end
end Nv
namespace Nv
open Go
section
variable {α:Type} [Inhabited α]
variable {cmp:α→α→Option Int} {c:α→α→Int}
theorem gdT {β:Type} {l:List Bool} {k:Option β} (h:l.all id=true):gd l k=k:=by unfold gd; rw [h]; rfl
end
end Nv
namespace Nv
open Go Go.RowKit
theorem ZdF {ops:Array Oper} (hnd:dstsB ops=true) {nt k0 n:Nat} {E:Nat→List (Nat × D)} {V:Nat→D} {env0:List (Nat × D)} (hbase:∀ t,find (E k0) t=valL ops V env0 (· < k0) t)
  (hput:∀ i,k0≤i→i < n→∃ o,ops[i]? = some o∧putE nt o.dst (V i) (E i)=some (E (i+1))):∀ m,k0+m≤n→∀ t,find (E (k0+m)) t=valL ops V env0 (· < k0+m) t
 | 0,_,t=>hbase t
 | m+1,hk,t=>by
  have ih:=ZdF hnd hbase hput m (by omega) t
  obtain ⟨o,ho,hp⟩:=hput (k0+m) (by omega) (by omega)
  rw [← Nat.add_assoc]
  generalize k0+m=k at *
  unfold putE at hp
  split at hp
  ·rename_i hd
   simp only [Option.some.injEq] at hp
   rw [← hp,ih]
   refine Yg hnd fun i hi=>⟨fun h=>by omega,fun h=>?_⟩
   rcases Nat.lt_or_ge i k with h1 | h1
   ·exact h1
   ·have:i=k:=by omega
    subst this
    rw [ho] at hi
    simp [hd] at hi
  ·rename_i u hd
   cases hlt:Nat.blt u nt with
   | false=>rw [hlt] at hp; cases hp
   | true =>
    rw [hlt] at hp
    simp only [cond_true,Option.some.injEq] at hp
    rw [← hp]
    simp only [find]
    have hku:(ops[k]?).bind (·.dst)=some u:=by rw [ho]; exact hd
    cases hb:Nat.beq u t with
    | true =>
     obtain rfl:=Nat.eq_of_beq_eq_true hb
     simp only [cond_true]
     exact (Y2 hnd hku (Nat.lt_succ_self k)).symm
    | false =>
     simp only [cond_false]
     rw [ih]
     refine Yg hnd fun i hi=>⟨fun h=>by omega,fun h=>?_⟩
     rcases Nat.lt_or_ge i k with h1 | h1
     ·exact h1
     ·have:i=k:=by omega
      subst this
      rw [hku] at hi
      cases hi
      rw [Nat.beq_refl] at hb; cases hb
theorem ZdG {ops:Array Oper} (hfl:flowB ops=true):∀ i o,ops[i]? = some o→flowAt ops (Region.before ops) i o=true:=by
 simp only [flowB,Bool.and_eq_true,List.all_eq_true] at hfl
 intro i o ho
 refine hfl.2 (o,i) ?_
 rw [List.mem_zipIdx_iff_getElem?]
 simpa using ho
theorem Zac {listed:Array Bool} {i:Nat} (hi:i < listed.size) (j:Nat):(listed.setIfInBounds i true).getD j false=true↔j=i∨listed.getD j false=true:=by
 by_cases hji:j=i
 ·subst hji; simp [hi]
 ·rw [getD_set_ne false (Ne.symm hji)]; simp [hji]
theorem dstep {P:Program} {F:Fr} [GF P F] {nt:Nat} {ops:Array Oper} {H:List Ob} {V:Nat→D} {env0 Ei:List (Nat × D)} (hfl:flowB ops=true) {listed:Array Bool} {a:Act} {c:Ctx} (hD:DInv F nt ops H V env0 listed a c)
  {i:Nat} {o:Oper} (ho:ops[i]? = some o) (hunf:listed.getD i false=false) (hall:∀ e∈o.after,Region.binds .any e=true→listed.getD e.on false=true)
  (hval:∀ t,find Ei t=valL ops V env0 (· < i) t) {orc orc1:List Res} {b:List Bool} {r:List Req} (hstep:stepDr P ops i H Ei orc o=some (V i,b,r,orc1)) (hb:∀ x∈b,x=true) (hq:∀ q∈r,q.ok P) (hnt:∀ t,o.dst=some t→t < nt)
  {Q:Exit→Act→World→Prop} {K:Act→World→Prop} (hK:∀ a' c',DInv F nt ops H V env0 (listed.setIfInBounds i true) a' c'→K a' c'.w):wpOp P ops Q i K a c.w:=by
 have hnd:dstsB ops=true:=by simp only [flowB,Bool.and_eq_true] at hfl; exact hfl.1
 have hilt:=(Array.getElem?_eq_some_iff.1 ho).1
 have hwaits:∀ j,Waits ops i j→listed.getD j false=true:=fun j ⟨o',ho',e,he,hbi,hon⟩=>by
  rw [ho] at ho'
  cases ho'
  rw [← hon]
  exact hall e he hbi
 have hfa:=ZdG hfl i o ho
 simp only [flowAt,Bool.and_eq_true] at hfa
 obtain ⟨⟨hf1,hf2⟩,hf3⟩:=hfa
 have same:∀ t∈needs ops o,valL ops V env0 (fun i=>listed.getD i false=true) t=find Ei t:=fun t ht=>by
  rw [hval t]
  refine Yg hnd fun k hk=>?_
  have h1:=List.all_eq_true.1 hf3 t ht
  obtain ⟨ok,hok,hdk⟩:=Option.bind_eq_some_iff.1 hk
  have hklt:=(Array.getElem?_eq_some_iff.1 hok).1
  have h2:=List.all_eq_true.1 h1 (ok,k) (by rw [List.mem_zipIdx_iff_getElem?]; simpa using hok)
  simp only [hdk] at h2
  have e1:Nat.beq t t=true:=Nat.beq_refl t
  rw [e1] at h2
  simp only [Bool.not_true,Bool.false_or,Bool.or_eq_true,Bool.and_eq_true] at h2
  rcases h2 with (h2 | ⟨h2,h3⟩) | ⟨h2,h3⟩
  ·obtain rfl:=Nat.eq_of_beq_eq_true h2
   exact ⟨fun h=>(by rw [hunf] at h; cases h),fun h=>by omega⟩
  ·exact ⟨fun _=>Xj h2,fun _=>X2 hD.closed (X0 ops i k hilt h3) hwaits⟩
  ·have hik:=Xj h2
   refine ⟨fun h=>?_,fun h=>by omega⟩
   have:=X2 hD.closed (X0 ops k i hklt h3) (fun j hj=>hD.closed _ _ hj h)
   rw [hunf] at this
   cases this
 have hops:∀ x∈o.op.operands.toList,GV (yielded ops a.tmps) c (a.eval x) (evD Ei x):=fun x hx=>by
  cases x with
  | tmp t =>
   show GV _ _ _ (find Ei t)
   rw [← same t (by simp only [needs,List.mem_append,List.mem_filterMap]; exact .inl ⟨.tmp t,hx,rfl⟩)]
   exact hD.env t
  | const v=>exact Xw (Za1 c v)
  | global g=>exact Xw Wp
  | func f=>exact Xw ⟨#[],rfl,rfl,fun i v d h1 _=>by simp at h1⟩
 have hgf:GuardFacts ops a c Ei (gch ops 20 o.guard):=fun p hp t ht=>by
  rw [← same t (by simp only [needs,List.mem_append,List.mem_filterMap]; exact .inr ⟨p,hp,ht⟩)]
  exact hD.env t
 have hL:=Zac (listed:=listed) (i:=i) (by rw [hD.lsize]; exact hilt)
 have new:∀ v c',Inv F c'→Goes c c'→(∀ d,V i=d→GV (yielded ops (a.put o.dst v).tmps) c' v d)→(∀ j w d,V i = .opt j w d→listed.getD j false=true)→K (a.put o.dst v) c'.w:=fun v c' hI' hgo hv hvo=>by
  have hvalo:∀ t,(∀ u,o.dst=some u→u ≠ t)→valL ops V env0 (fun j=>(listed.setIfInBounds i true).getD j false=true) t=valL ops V env0 (fun j=>listed.getD j false=true) t:=fun t ht=>by
   refine Yg hnd fun k hk=>?_
   show (listed.setIfInBounds i true).getD k false=true↔_
   rw [hL]
   refine ⟨fun h=>?_,.inr⟩
   rcases h with rfl | h
   ·rw [ho] at hk
    exact absurd rfl (ht t hk)
   ·exact h
  have hyj:∀ j,listed.getD j false=true→yielded ops (a.put o.dst v).tmps j=yielded ops a.tmps j:=fun j hj=>Ji fun t ht e=>by
   have:=JX hnd (show (ops[i]?).bind (·.dst)=some t by rw [ho]; exact ht) e
   subst this
   rw [hunf] at hj
   cases hj
  have keep:∀ t,GV (yielded ops (a.put o.dst v).tmps) c' (a.tmps.getD t undef) (valL ops V env0 (fun j=>listed.getD j false=true) t):=fun t=>by
   have h1:=hgo.gv (hD.env t)
   cases hf:valL ops V env0 (fun j=>listed.getD j false=true) t <;> rw [hf] at h1 <;> try exact h1
   rename_i j w d
   simp only [GV] at h1 ⊢
   rw [hyj j (hD.opt t j w d hf)]
   exact h1
  refine hK _ c' ⟨by rw [hgo.H]; exact hD.H,hI',fun t=>?_,by rw [Gw]; exact hD.size,by rw [Uk]; exact hD.defers,fun t j w d hf=>?_,by simp [hD.lsize],fun p q hpq hp=>?_⟩
  ·by_cases hdt:o.dst=some t
   ·have hit:(ops[i]?).bind (·.dst)=some t:=by rw [ho]; exact hdt
    rw [Y2 hnd hit ((hL i).2 (.inl rfl))]
    have e:(a.put o.dst v).tmps.getD t undef=v:=by rw [hdt]; exact Va (by rw [hD.size]; exact hnt t hdt)
    rw [e]
    exact hv _ rfl
   ·rw [hvalo t (fun u hu e=>hdt (by rw [hu,e])),U2 hdt]
    exact keep t
  ·rw [hL]
   right
   by_cases hdt:o.dst=some t
   ·have hit:(ops[i]?).bind (·.dst)=some t:=by rw [ho]; exact hdt
    rw [Y2 hnd hit ((hL i).2 (.inl rfl))] at hf
    exact hvo j w d hf
   ·rw [hvalo t (fun u hu e=>hdt (by rw [hu,e]))] at hf
    exact hD.opt t j w d hf
  ·rw [hL] at hp ⊢
   right
   rcases hp with rfl | hp
   ·exact hwaits q hpq
   ·exact hD.closed p q hpq hp
 unfold stepDr at hstep
 split at hstep <;> try cases hstep
 rename_i g hg
 unfold wpOp
 simp only [ho]
 split at hstep
 ·rename_i d bs0 rq0 orc2 j want hop hgd
  cases hlt:Nat.blt j i with
  | false=>simp [hlt] at hstep
  | true =>
   simp only [hlt,cond_true,Option.some.injEq,Prod.mk.injEq] at hstep
   obtain ⟨hV,rfl,rfl,rfl⟩:=hstep
   have hji:=Xj hlt
   have hyj:∀ v,yielded ops (a.put o.dst v).tmps j=yielded ops a.tmps j:=fun v=>Ji fun t ht e=>by
    have:=JX hnd (show (ops[i]?).bind (·.dst)=some t by rw [ho]; exact ht) e
    omega
   have hjl:listed.getD j false=true:=by
    rw [hgd] at hf2
    simp only at hf2
    obtain ⟨e,he,h1⟩:=Array.any_eq_true'.1 hf2
    simp only [Bool.and_eq_true] at h1
    rw [← Nat.eq_of_beq_eq_true h1.2]
    exact hall e he h1.1
   have hwant:Region.wanted o (yielded ops a.tmps)=(yielded ops a.tmps j==some want):=by simp [Region.wanted,hgd]
   have hvo:∀ j' w d',V i = .opt j' w d'→listed.getD j' false=true:=fun j' w d' h=>by rw [← hV] at h; cases h; exact hjl
   cases hw:Region.wanted o (yielded ops a.tmps) with
   | true =>
    simp only [if_true]
    refine .inl (V3 hD.inv hops hgf hg hw (by rw [hD.H]; exact hop) hb hq fun v c' hI' haf=>?_)
    obtain ⟨hgo,_,htv⟩:=haf
    refine new v c' hI' hgo (fun d' hd'=>?_) hvo
    rw [← hd',← hV]
    refine .inl ⟨?_,htv⟩
    rw [hyj]
    rw [hw] at hwant
    simpa using hwant.symm
   | false =>
    simp only [Bool.false_eq_true,if_false]
    refine new undef c hD.inv (Goes.refl hD.inv) (fun d' hd'=>?_) hvo
    rw [← hd',← hV]
    refine .inr ⟨?_,rfl⟩
    rw [hyj]
    rw [hw] at hwant
    simpa using hwant.symm
 ·rename_i d bs0 rq0 orc2 hop hgd
  simp only [Option.some.injEq,Prod.mk.injEq] at hstep
  obtain ⟨hV,rfl,rfl,rfl⟩:=hstep
  have hw:Region.wanted o (yielded ops a.tmps)=true:=by simp [Region.wanted,hgd]
  simp only [hw,if_true]
  refine .inl (V3 hD.inv hops hgf hg hw (by rw [hD.H]; exact hop) hb hq fun v c' hI' haf=>?_)
  obtain ⟨hgo,_,htv⟩:=haf
  refine new v c' hI' hgo (fun d' hd'=>?_) (fun j w d' h=>?_)
  ·rw [← hd',← hV]; exact Xw htv
  ·rw [← hV] at h
   subst h
   simp only [TV,AV] at htv
   exact absurd htv Yl
 ·cases hstep
def barAp (ops:Array Oper) (p:Nat):Bool :=
 let M:=Region.before ops
 (List.range ops.size).all fun q=>Nat.beq q p||(bif Nat.blt q p then (M.getD p 0).testBit q else (M.getD q 0).testBit p)
theorem Zad {ops:Array Oper} {p q:Nat} (h:barAp ops p=true) (hq:q < ops.size):(q < p→((Region.before ops).getD p 0).testBit q=true)∧(p < q→((Region.before ops).getD q 0).testBit p=true):=by
 have h1:=List.all_eq_true.1 h q (List.mem_range.2 hq)
 refine ⟨fun hlt=>?_,fun hlt=>?_⟩
 ·rw [show Nat.beq q p=false by (cases hb:Nat.beq q p with | false=>rfl | true=>have:=Nat.eq_of_beq_eq_true hb; omega),show Nat.blt q p=true from Nat.ble_eq_true_of_le hlt] at h1
  simpa using h1
 ·rw [show Nat.beq q p=false by (cases hb:Nat.beq q p with | false=>rfl | true=>have:=Nat.eq_of_beq_eq_true hb; omega),show Nat.blt q p=false by (cases hb:Nat.blt q p with | false=>rfl | true=>have:=Xj hb; omega)] at h1
  simpa using h1
def barV (p:Nat) (pid:Option Nat) (d:D) (V1 V2:Nat→D) (i:Nat):D:=if i < p then purge pid (V1 i) else if i=p then d else V2 i
theorem ZiZ {ops:Array Oper} (hnd:dstsB ops=true) {p:Nat} {pid:Option Nat} {d:D} {V1 V2:Nat→D} {env0:List (Nat × D)} {L:Nat→Prop} (hL:∀ i,L i→i < p) (t:Nat) :
  valL ops (barV p pid d V1 V2) (env0.map fun q=>(q.1,purge pid q.2)) L t=purge pid (valL ops V1 env0 L t):=by
 by_cases hx:∃ i,(ops[i]?).bind (·.dst)=some t∧L i
 ·obtain ⟨i,h1,h2⟩:=hx
  rw [Y2 hnd h1 h2,Y2 hnd h1 h2]
  simp [barV,hL i h2]
 ·rw [Jw fun i h1 h2=>hx ⟨i,h1,h2⟩,Jw fun i h1 h2=>hx ⟨i,h1,h2⟩,GX]
theorem Zi0 {P:Program} {F:Fr} [GF P F] {nt p:Nat} {ops:Array Oper} {H0 H1:List Ob} {bs1 bs2 bs3:List Bool} {rq1 rq3:List Req} {E1 E2:Nat→List (Nat × D)} {V1 V2:Nat→D} {d:D} {pid:Option Nat} {op:Oper} (hfl:flowB ops=true) (hbar:barAp ops p=true)
  (hT1:Trace P nt ops H0 bs1 rq1 0 p E1 V1) (hT2:Trace P nt ops H1 bs3 rq3 (p+1) ops.size E2 V2) (hop:ops[p]? = some op) (hgd:op.guard=none) (hheap:heapD P H0 (fun x=>unwrap [] (evD (E1 p) x)) op.op=some (d,H1,pid,bs2))
  (hput:putE nt op.dst d ((E1 p).map fun q=>(q.1,purge pid q.2))=some (E2 (p+1))) (hb1:∀ b∈bs1,b=true) (hb2:∀ b∈bs2,b=true) (hb3:∀ b∈bs3,b=true) (hq1:∀ q∈rq1,q.ok P) (hq3:∀ q∈rq3,q.ok P)
  {Q:Exit→Act→World→Prop} (orc:List Res) (hQ:∀ a c,RInv F nt ops ops.size ⟨E2 ops.size,H1,orc⟩ a c→Q .normal a c.w) :
  ∀ (fuel:Nat) (listed:Array Bool) (a:Act) (c:Ctx),((listed.getD p false=false∧DInv F nt ops H0 V1 (E1 0) listed a c)∨(listed.getD p false=true∧DInv F nt ops H1 (barV p pid d V1 V2) ((E1 0).map fun q=>(q.1,purge pid q.2)) listed a c)) →
   cnt listed+fuel=ops.size→wpAny P .any ops Q fuel listed a c.w:=by
 have hnd:dstsB ops=true:=by simp only [flowB,Bool.and_eq_true] at hfl; exact hfl.1
 have flow:=ZdG hfl
 have hpl:=(Array.getElem?_eq_some_iff.1 hop).1
 have val1:∀ k,k≤p→∀ t,find (E1 k) t=valL ops V1 (E1 0) (· < k) t:=fun k hk t=>by
  have:=ZdF hnd (E:=E1) (V:=V1) (env0:=E1 0) (nt:=nt) (k0:=0) (n:=p) (fun t=>by rw [Jw]; intro i _ h; omega) (fun i h1 h2=>hT1.put i h1 h2) k (by omega) t
  simpa using this
 have val2:∀ k,p < k→k≤ops.size→∀ t,find (E2 k) t=valL ops (barV p pid d V1 V2) ((E1 0).map fun q=>(q.1,purge pid q.2)) (· < k) t:=fun k hk hk2 t=>by
  have:=ZdF hnd (E:=fun i=>if i=p then (E1 p).map fun q=>(q.1,purge pid q.2) else E2 i) (V:=barV p pid d V1 V2) (env0:=(E1 0).map fun q=>(q.1,purge pid q.2)) (nt:=nt) (k0:=p) (n:=ops.size)
   (fun t=>by simp only [if_true]; rw [GX,val1 p (Nat.le_refl _),ZiZ hnd (fun i h=>h)])
   (fun i h1 h2=>by
    by_cases hip:i=p
    ·subst hip
     exact ⟨op,hop,by simp only [if_true,barV,Nat.lt_irrefl,if_false]; rw [if_neg (by omega)]; exact hput⟩
    ·obtain ⟨o,ho,h3⟩:=hT2.put i (by omega) h2
     refine ⟨o,ho,?_⟩
     simp only [if_neg hip]
     rw [if_neg (by omega)]
     simp only [barV,if_neg hip]
     rw [if_neg (by omega)]
     exact h3) (k - p) (by omega) t
  rw [show p+(k - p)=k by omega,if_neg (by omega)] at this
  exact this
 have notP1:∀ (listed:Array Bool) a c,DInv F nt ops H0 V1 (E1 0) listed a c→listed.getD p false=false→∀ q,p≤q→listed.getD q false=false:=fun listed a c hD hp q hq=>by
  by_cases e:q=p
  ·rw [e]; exact hp
  ·cases hl:listed.getD q false with
   | false=>rfl
   | true =>
    have hql:q < ops.size:=by
     rcases Nat.lt_or_ge q listed.size with h | h
     ·rw [hD.lsize] at h; exact h
     ·simp [Array.getElem?_eq_none h] at hl
    have:=X2 hD.closed (X0 ops q p hql ((Zad hbar hql).2 (by omega))) (fun j hj=>hD.closed _ _ hj hl)
    rw [hp] at this; cases this
 have fin:∀ (listed:Array Bool) a c,((listed.getD p false=false∧DInv F nt ops H0 V1 (E1 0) listed a c)∨(listed.getD p false=true∧DInv F nt ops H1 (barV p pid d V1 V2) ((E1 0).map fun q=>(q.1,purge pid q.2)) listed a c))→(∀ i,i < ops.size→listed.getD i false=true)→Q .normal a c.w:=fun listed a c hB hall=>by
  rcases hB with ⟨h1,_⟩ | ⟨_,hD⟩
  ·rw [hall p hpl] at h1; cases h1
  ·have hval:∀ t,find (E2 ops.size) t=valL ops (barV p pid d V1 V2) ((E1 0).map fun q=>(q.1,purge pid q.2)) (fun i=>listed.getD i false=true) t:=fun t=>by
    rw [val2 ops.size hpl (Nat.le_refl _) t]
    refine Yg hnd fun i hi=>⟨fun h=>hall i h,fun _=>?_⟩
    obtain ⟨o,ho,_⟩:=Option.bind_eq_some_iff.1 hi
    exact (Array.getElem?_eq_some_iff.1 ho).1
   refine hQ a c ⟨hD.H,hD.inv,fun t=>?_,hD.size,hD.defers,fun t j w d hf=>?_⟩
   ·show GV _ _ _ (find (E2 ops.size) t)
    rw [hval]; exact hD.env t
   ·have hf:find (E2 ops.size) t = .opt j w d:=hf
    rw [hval] at hf
    have:=hD.opt t j w d hf
    rcases Nat.lt_or_ge j listed.size with h | h
    ·rw [hD.lsize] at h; exact h
    ·simp [Array.getElem?_eq_none h] at this
 have lsz:∀ (listed:Array Bool) a c,((listed.getD p false=false∧DInv F nt ops H0 V1 (E1 0) listed a c)∨(listed.getD p false=true∧DInv F nt ops H1 (barV p pid d V1 V2) ((E1 0).map fun q=>(q.1,purge pid q.2)) listed a c))→listed.size=ops.size:=fun listed a c hB=>hB.elim (fun h=>h.2.lsize) (fun h=>h.2.lsize)
 have stuckAll:∀ (listed:Array Bool),listed.size=ops.size→Region.ready .any ops listed=[]→∀ i,i < ops.size→listed.getD i false=true:=by
  intro listed hls hr i
  induction i using Nat.strongRecOn with
  | _ i ih =>
   intro hi
   cases hl:listed.getD i false with
   | true=>rfl
   | false =>
    exfalso
    have:i∈Region.ready .any ops listed:=by
     rw [mem_ready]
     refine ⟨by simp [hls,hi] at hl ⊢; exact hl,ops[i],by simp [hi],fun e he hbi=>?_⟩
     have h1:=flow i ops[i] (by simp [hi])
     simp only [flowAt,Bool.and_eq_true] at h1
     have h2:=Array.all_eq_true'.1 h1.1.1 e he
     simp only [hbi,Bool.not_true,Bool.false_or] at h2
     have h3:=Xj h2
     exact ih e.on h3 (by omega)
    rw [hr] at this
    cases this
 intro fuel
 induction fuel with
 | zero =>
  intro listed a c hB hcnt
  have hls:=lsz listed a c hB
  have hall:∀ i,i < ops.size→listed.getD i false=true:=by
   have:=Kw (listed:=listed) (by rw [hls]; omega)
   rw [hls] at this
   exact this
  refine ⟨?_,fin listed a c hB hall⟩
  cases hr:Region.ready .any ops listed with
  | nil=>rfl
  | cons i r =>
   exfalso
   have:i∈Region.ready .any ops listed:=by rw [hr]; exact List.mem_cons_self
   obtain ⟨h1,o,ho,_⟩:=mem_ready.1 this
   have hi:=(Array.getElem?_eq_some_iff.1 ho).1
   have h2:=hall i hi
   simp [hls,hi] at h1 h2
   rw [h1] at h2
   cases h2
 | succ fuel ih =>
  intro listed a c hB hcnt
  have hls:=lsz listed a c hB
  refine ⟨fun hr=>fin listed a c hB (stuckAll listed hls hr),fun i hi=>?_⟩
  obtain ⟨hun,o,ho,hall⟩:=mem_ready.1 hi
  have hilt:=(Array.getElem?_eq_some_iff.1 ho).1
  have hunf:listed.getD i false=false:=by simp [hls,hilt] at hun ⊢; exact hun
  have hwaits:∀ j,Waits ops i j→listed.getD j false=true:=fun j ⟨o',ho',e,he,hbi,hon⟩=>by
   rw [ho] at ho'
   cases ho'
   rw [← hon]
   exact hall e he hbi
  have hcn:cnt (listed.setIfInBounds i true)+fuel=ops.size:=by
   rw [Rk (by rw [hls]; exact hilt) hunf]; omega
  have hL:=Zac (listed:=listed) (i:=i) (by rw [hls]; exact hilt)
  rcases Nat.lt_trichotomy i p with hip | hip | hip
  ·rcases hB with ⟨hp,hD⟩ | ⟨hp,hD⟩
   ·obtain ⟨o',orc0,b,r,orc1,ho',hstep,hbb,hrr⟩:=hT1.step i (Nat.zero_le _) hip
    rw [ho] at ho'
    cases ho'
    refine dstep hfl hD ho hunf hall (val1 i (by omega)) hstep (fun x hx=>hb1 x (hbb x hx)) (fun q hq=>hq1 q (hrr q hq)) (fun t ht=>?_) fun a' c' hD'=>ih _ _ c' (.inl ⟨?_,hD'⟩) hcn
    ·obtain ⟨o2,ho2,h3⟩:=hT1.put i (Nat.zero_le _) hip
     rw [ho] at ho2
     cases ho2
     rw [ht] at h3
     simp only [putE] at h3
     cases hlt:Nat.blt t nt with
     | false=>simp [hlt] at h3
     | true=>exact Xj hlt
    ·rw [getD_set_ne false (by omega)]; exact hp
   ·exfalso
    have:=X2 hD.closed (X0 ops p i hpl ((Zad hbar hilt).1 hip)) (fun j hj=>hD.closed _ _ hj hp)
    rw [hunf] at this; cases this
  ·subst hip
   rw [hop] at ho
   cases ho
   rcases hB with ⟨hp,hD⟩ | ⟨hp,_⟩
   ·have hlist:∀ k,(listed.getD k false=true)↔k < i:=fun k=>by
     constructor
     ·intro h
      rcases Nat.lt_or_ge k i with h1 | h1
      ·exact h1
      ·rw [notP1 listed a c hD hp k h1] at h; cases h
     ·intro h
      exact X2 hD.closed (X0 ops i k hilt ((Zad hbar (by omega)).1 h)) hwaits
    have hvalE:∀ t,valL ops V1 (E1 0) (fun j=>listed.getD j false=true) t=find (E1 i) t:=fun t=>by
     rw [val1 i (Nat.le_refl _) t]
     exact Yg hnd fun k _=>hlist k
    have hρ:∀ x∈op.op.operands.toList,TV c (a.eval x) (unwrap [] (evD (E1 i) x)):=fun x hx=>by
     refine V6 (a:=a) (ops:=ops) (by simp) ?_
     cases x with
     | tmp t=>show GV _ _ _ (find (E1 i) t); rw [← hvalE]; exact hD.env t
     | const v=>exact Xw (Za1 c v)
     | global g=>exact Xw Wp
     | func f=>exact Xw ⟨#[],rfl,rfl,fun i v d h1 _=>by simp at h1⟩
    obtain ⟨v,c',hrun',hI',hH',htr,htv⟩:=Zbb (ρc:=a.eval) hD.inv hρ (by rw [hD.H]; exact hheap) hb2
    have htl:∀ t,op.dst=some t→t < a.tmps.size:=fun t ht=>by
     rw [ht] at hput
     simp only [putE] at hput
     cases hlt:Nat.blt t nt with
     | false=>simp [hlt] at hput
     | true=>rw [hD.size]; exact Xj hlt
    have hyj:∀ j,listed.getD j false=true→yielded ops (a.put op.dst v).tmps j=yielded ops a.tmps j:=fun j hj=>Ji fun t ht e=>by
     have:=JX hnd (show (ops[i]?).bind (·.dst)=some t by rw [hop]; exact ht) e
     subst this
     rw [hunf] at hj
     cases hj
    have hbV:barV i pid d V1 V2 i=d:=by simp [barV]
    have hvalo:∀ t,(∀ u,op.dst=some u→u ≠ t)→valL ops (barV i pid d V1 V2) ((E1 0).map fun q=>(q.1,purge pid q.2)) (fun j=>(listed.setIfInBounds i true).getD j false=true) t=purge pid (valL ops V1 (E1 0) (fun j=>listed.getD j false=true) t):=fun t ht=>by
     rw [← ZiZ hnd (d:=d) (V2:=V2) (fun k h=>(hlist k).1 h)]
     refine Yg hnd fun k hk=>?_
     show (listed.setIfInBounds i true).getD k false=true↔_
     rw [hL]
     refine ⟨fun h=>?_,.inr⟩
     rcases h with rfl | h
     ·rw [hop] at hk
      exact absurd rfl (ht t hk)
     ·exact h
    have hnew:wpAny P .any ops Q fuel (listed.setIfInBounds i true) (a.put op.dst v) c'.w:=by
     refine ih _ _ c' (.inr ⟨(hL i).2 (.inl rfl),hH',hI',fun t=>?_,by rw [Gw]; exact hD.size,by rw [Uk]; exact hD.defers,fun t j w d' hf=>?_,by simp [hls],fun q r hqr hq=>?_⟩) hcn
     ·by_cases hdt:op.dst=some t
      ·have hit:(ops[i]?).bind (·.dst)=some t:=by rw [hop]; exact hdt
       rw [Y2 hnd hit ((hL i).2 (.inl rfl)),hbV]
       have e:(a.put op.dst v).tmps.getD t undef=v:=by rw [hdt]; exact Va (htl t hdt)
       rw [e]
       exact Xw htv
      ·rw [hvalo t (fun u hu e=>hdt (by rw [hu,e])),U2 hdt]
       have h1:=Zds htr (hD.env t)
       cases hf:purge pid (valL ops V1 (E1 0) (fun j=>listed.getD j false=true) t) <;> rw [hf] at h1 <;> try exact h1
       rename_i j w d'
       simp only [GV] at h1 ⊢
       rw [hyj j (hD.opt t j w d' (Kq hf).2)]
       exact h1
     ·rw [hL]
      right
      by_cases hdt:op.dst=some t
      ·have hit:(ops[i]?).bind (·.dst)=some t:=by rw [hop]; exact hdt
       rw [Y2 hnd hit ((hL i).2 (.inl rfl)),hbV] at hf
       subst hf
       simp only [TV,AV] at htv
       exact absurd htv Yl
      ·rw [hvalo t (fun u hu e=>hdt (by rw [hu,e]))] at hf
       exact hD.opt t j w d' (Kq hf).2
     ·rw [hL] at hq ⊢
      right
      rcases hq with rfl | hq
      ·exact hwaits r hqr
      ·exact hD.closed q r hqr hq
    have hw:Region.wanted op (yielded ops a.tmps)=true:=by simp [Region.wanted,hgd]
    unfold wpOp
    simp only [hop,hw,if_true]
    refine .inl ?_
    unfold Oper.wp
    rcases hrun' with h1 | ⟨h1,rfl⟩
    ·rw [h1]; exact hnew
    ·rw [h1]; exact hnew
   ·rw [hp] at hunf; cases hunf
  ·have hpt:listed.getD p false=true:=by
    rcases hB with ⟨_,hD⟩ | ⟨h,_⟩
    ·exact X2 hD.closed (X0 ops i p hilt ((Zad hbar hilt).2 hip)) hwaits
    ·exact h
   rcases hB with ⟨hp,_⟩ | ⟨hp,hD⟩
   ·rw [hpt] at hp; cases hp
   ·obtain ⟨o',orc0,b,r,orc1,ho',hstep,hbb,hrr⟩:=hT2.step i (by omega) hilt
    rw [ho] at ho'
    cases ho'
    have hbV:barV p pid d V1 V2 i=V2 i:=by simp only [barV]; rw [if_neg (by omega),if_neg (by omega)]
    rw [← hbV] at hstep
    refine dstep hfl hD ho hunf hall (val2 i hip (by omega)) hstep (fun x hx=>hb3 x (hbb x hx)) (fun q hq=>hq3 q (hrr q hq)) (fun t ht=>?_) fun a' c' hD'=>ih _ _ c' (.inr ⟨?_,hD'⟩) hcn
    ·obtain ⟨o2,ho2,h3⟩:=hT2.put i (by omega) hilt
     rw [ho] at ho2
     cases ho2
     rw [ht] at h3
     simp only [putE] at h3
     cases hlt:Nat.blt t nt with
     | false=>simp [hlt] at h3
     | true=>exact Xj hlt
    ·rw [getD_set_ne false (by omega)]; exact hpt
def regB (P:Program) (ops:Array Oper) (p:Nat) (orc:List Res) (keep:List Nat) (hn:Nat) (s:St):Option (St × List Bool × List Req) :=
 bif flowB ops&&P.follows .mixedOrders&&barAp ops p&&Nat.blt p ops.size then
  match runDr P s.nt ops s.H 0 (ops.toList.take p) s.env orc,ops[p]? with
  | some (e1,bs1,rq1,orc1),some o=>match o.guard,heapD P s.H (fun x=>unwrap [] (evD e1 x)) o.op with
   | none,some (d,H',pid,bs2)=>match putE s.nt o.dst d (e1.map fun q=>(q.1,purge pid q.2)) with
    | some e2=>match runDr P s.nt ops H' (p+1) (ops.toList.drop (p+1)) e2 orc1 with
     | some (e3,bs3,rq3,_)=>(cutS hn ⟨s.nt,fin e3 keep,H'⟩).map fun s'=>(s',bs1++bs2++bs3,rq1++rq3)
     | none=>none
    | none=>none
   | _,_=>none
  | _,_=>none
 else none
theorem Zi1 {P:Program} {Q:Exit→St→Prop} {s:St} {id:Nat} {ops:Array Oper} (p:Nat) (orc:List Res) (keep:List Nat) (hn:Nat) {s':St} {bs:List Bool} {rq:List Req}
  (h:regB P ops p orc keep hn s=some (s',bs,rq)) (hb:∀ b∈bs,b=true) (hq:∀ q∈rq,q.ok P) (k:Q .normal s'):AWP P (.region id ops true) Q s:=by
 rintro F a w hG ⟨c,rfl,hH,hI,henv,hsz,hd⟩
 unfold regB at h
 cases hc:(flowB ops&&P.follows .mixedOrders&&barAp ops p&&Nat.blt p ops.size) with
 | false=>rw [hc] at h; cases h
 | true =>
  rw [hc] at h
  simp only [cond_true] at h
  simp only [Bool.and_eq_true] at hc
  obtain ⟨⟨⟨hc1,hc2⟩,hc3⟩,hc4⟩:=hc
  have hpl:=Xj hc4
  split at h <;> try cases h
  rename_i e1 bs1 rq1 orc1 o hrun1 hop
  split at h <;> try cases h
  rename_i d H' pid bs2 hgd hheap
  split at h <;> try cases h
  rename_i e2 hput
  split at h <;> try cases h
  rename_i e3 bs3 rq3 orc3 hrun2
  obtain ⟨s1,hcut,heq⟩:=Option.map_eq_some_iff.1 h
  simp only [Prod.mk.injEq] at heq
  obtain ⟨rfl,rfl,rfl⟩:=heq
  refine wp_region_any hc2 ?_
  obtain ⟨E1,V1,hE0,hE1,hT1⟩:=Zbd (ops.toList.take p) 0 s.env e1 orc orc1 bs1 rq1 (fun j=>by
   rcases Nat.lt_or_ge j p with h | h
   ·left; rw [List.getElem?_take_of_lt h]; simp
   ·right; rw [List.length_take]; omega) hrun1
  obtain ⟨E2,V2,hE2,hE3,hT2⟩:=Zbd (ops.toList.drop (p+1)) (p+1) e2 e3 orc1 orc3 bs3 rq3 (fun j=>.inl (by rw [List.getElem?_drop]; simp)) hrun2
  have l1:0+(ops.toList.take p).length=p:=by rw [List.length_take,Array.length_toList]; omega
  have l2:p+1+(ops.toList.drop (p+1)).length=ops.size:=by rw [List.length_drop,Array.length_toList]; omega
  rw [l1] at hE1 hT1
  rw [l2] at hE3 hT2
  let c':Ctx:={ c with w:=c.w.drew }
  have hgo:Goes c c':=⟨rfl,rfl,fun _ h=>h,fun _ _=>rfl,fun b hb=>(hI.imm b hb).1,fun id b hb=>(hI.loc id b hb).2.1⟩
  have hI':Inv F c':=hI.goes hgo (Bw.refl _ _).drew (fun _ h=>.inl h)
  have hnone:∀ i,¬ (Array.replicate ops.size false).getD i false=true:=fun i h=>by rw [Y6] at h; cases h
  have hval:∀ t,valL ops V1 (E1 0) (fun i=>(Array.replicate ops.size false).getD i false=true) t=find s.env t:=fun t=>by rw [Jw (fun i _=>hnone i),hE0]
  have hD:DInv F s.nt ops s.H V1 (E1 0) (Array.replicate ops.size false) a c':=by
   refine ⟨hH,hI',fun t=>?_,hsz,hd,fun t j w d hf=>?_,by simp,fun i j _ h=>absurd h (hnone i)⟩
   ·rw [hval]; exact Xw (hgo.tv (henv t))
   ·rw [hval] at hf
    have:=henv t
    rw [hf] at this
    simp only [TV,AV] at this
    exact absurd this Yl
  refine Zi0 hc1 hc3 hT1 hT2 hop hgd (by rw [hE1]; exact hheap) (by rw [hE1,hE2]; exact hput) (fun b h=>hb b (by simp [h])) (fun b h=>hb b (by simp [h])) (fun b h=>hb b (by simp [h])) (fun q h=>hq q (by simp [h])) (fun q h=>hq q (by simp [h])) [] (fun a' c'' hR=>⟨s1,k,?_⟩) ops.size _ a c' (.inl ⟨Y6 _ _,hD⟩) (by simp [cnt,List.countP_replicate])
  have hR':=W9 hR keep
  simp only [hE3] at hR'
  exact UO hcut F a' c''.w hR'
theorem rgb {P:Program} {Q:Exit→St→Prop} {s:St} {id:Nat} {ops:Array Oper} (p:Nat) (orc:List Res) (keep:List Nat) (hn:Nat) (s':St) (bs:List Bool) (rq:List Req)
  (hb:∀ b∈bs,b=true) (hq:Reqs P rq) (k:Q .normal s') (h:regB P ops p orc keep hn s=some (s',bs,rq):=by kernel_rfl):AWP P (.region id ops true) Q s:=Zi1 p orc keep hn h hb hq.all k
end Nv
