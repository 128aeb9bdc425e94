/- Part of the proof of TopoFailuresAll: the library of walks. No condition. -/
import Derived.Test.YtaienbkgekjdnaaGreatNvLibB
import Derived.KernelRfl
import Derived.Shelf.SlSortCmp.WholeK
import Derived.Lib.QuietBelow
import Derived.Shelf.SlSortCmp.NoneTotal
namespace Nv
open Go Go.RowKit
def okT (n:Nat):D→Bool
 | .opt _ _ _=>false
 | d=>blT n d
def ngone:Ob→Bool
 | .gone=>false
 | _=>true
def V1 (p0:Nat) (V:Nat→D) (i:Nat):D:=if i < p0 then V i else .any
structure FInv (F:Fr) (nt:Nat) (ops:Array Oper) (H0:List Ob) (p0 p:Nat) (zs:Nat→List D) (V:Nat→D) (env0:List (Nat × D)) (listed:Array Bool) (a:Act) (c:Ctx):Prop where
 H:∃ X,c.H=H0++X∧X.all ngone=true
 inv:Inv F c
 env:∀ t,GV (yielded ops a.tmps) c (a.tmps.getD t undef) (valL ops (V1 p0 V) env0 (fun i=>listed.getD i false=true) t)
 fl:∃ fid:Nat→Nat,(∀ k,p0≤k→k < p→listed.getD k false=true→H0.length≤fid k∧c.H[fid k]? = some (.box (zs k))∧∀ t,(ops[k]?).bind (·.dst)=some t→TV c (a.tmps.getD t undef) (.ref (fid k) 0)) ∧
  ∀ k l,p0≤k→k < p→p0≤l→l < p→listed.getD k false=true→listed.getD l false=true→fid k=fid l→k=l
 size:a.tmps.size=nt
 defers:a.defers=[]
 opt:∀ t j w d,valL ops (V1 p0 V) env0 (fun i=>listed.getD i false=true) t = .opt j w d→listed.getD j false=true
 lsize:listed.size=ops.size
 closed:∀ i j,Waits ops i j→listed.getD i false=true→listed.getD j false=true
 low:∀ j,p≤j→listed.getD j false=false
theorem Zlp {HH:Nat→List Ob} {H0:List Ob} {p0 p:Nat} {zs:Nat→List D} (hH0:HH p0=H0) (hHs:∀ k,p0≤k→k < p→HH (k+1)=HH k++[.box (zs k)]):∀ (j:Nat),p0+j≤p→∀ (id:Nat) (o:Ob) (jj b:Nat),(HH (p0+j))[id]? = some o→fblk o jj=some b→H0[id]? = some o
 | 0,_,id,o,jj,b,h,hb=>by rw [Nat.add_zero,hH0] at h; exact h
 | j+1,hj,id,o,jj,b,h,hb=>by
  rw [← Nat.add_assoc,hHs _ (by omega) (by omega)] at h
  rcases Nat.lt_or_ge id (HH (p0+j)).length with h1 | h1
  ·rw [List.getElem?_append_left h1] at h; exact Zlp hH0 hHs j (by omega) id o jj b h hb
  ·rw [List.getElem?_append_right h1] at h
   cases hk:id - (HH (p0+j)).length with
   | zero=>rw [hk] at h; simp at h; subst h; cases hb
   | succ k=>rw [hk] at h; simp at h
end Nv
namespace Nv
open Go Go.RowKit
theorem Zc7 {ops:Array Oper} (hnd:dstsB ops=true) {V:Nat→D} {p0 i:Nat} (hi:i≤p0) {env:List (Nat × D)} {L:Nat→Prop} {t:Nat} (h:∀ k,(ops[k]?).bind (·.dst)=some t→(L k↔k < i)) :
  valL ops (V1 p0 V) env L t=valL ops V env (· < i) t:=by
 by_cases hx:∃ k,(ops[k]?).bind (·.dst)=some t∧k < i
 ·obtain ⟨k,h1,h2⟩:=hx
  rw [Vn hnd h1 ((h k h1).2 h2),Vn hnd h1 (show k < i from h2)]
  simp [V1,show k < p0 by omega]
 ·rw [WW (fun k hk hl=>hx ⟨k,hk,(h k hk).1 hl⟩),WW (fun k hk hl=>hx ⟨k,hk,hl⟩)]
end Nv
namespace Nv
open Go Go.RowKit
def allocB (P:Program) (n:Nat) (o:Oper):Bool :=
 match o.op,o.guard with
 | .alloc t,none=>match zeroD P t with
  | some z=>z.all (blC n)
  | none=>false
 | _,_=>false
def zsOf (P:Program) (ops:Array Oper) (k:Nat):List D :=
 match ops[k]? with
 | some o=>match o.op with
  | .alloc t=>(zeroD P t).getD []
  | _=>[]
 | none=>[]
theorem Zib {P:Program} {n k:Nat} {ops:Array Oper} {o:Oper} (ho:ops[k]? = some o) (h:allocB P n o=true):∃ t,o.op = .alloc t∧o.guard=none∧zeroD P t=some (zsOf P ops k)∧(zsOf P ops k).all (blC n)=true:=by
 unfold allocB at h
 split at h
 ·rename_i t hop hg
  split at h
  ·rename_i z hz
   have e:zsOf P ops k=z:=by simp [zsOf,ho,hop,hz]
   exact ⟨t,hop,hg,by rw [e]; exact hz,by rw [e]; exact h⟩
  ·cases h
 ·cases h
theorem Zic {n:Nat}:∀ {e:List (Nat × D)},e.all (fun q=>okT n q.2)=true→∀ t,okT n (find e t)=true
 | [],_,t=>rfl
 | q :: e,h,t=>by
  simp only [List.all_cons,Bool.and_eq_true] at h
  simp only [find]
  cases Nat.beq q.1 t with
  | true=>exact h.1
  | false=>exact Zic h.2 t
def AnyW (P:Program) (ops:Array Oper) (Q:Exit→St→Prop) (s:St):Prop :=
 ∀ F a w,GF P F→Rel F s a w→wpAny P .any ops (fun e a w=>∃ s',Q e s'∧Rel F s' a w) ops.size (Array.replicate ops.size false) a { w with drawn:=w.drawn+1 }
end Nv
namespace Nv
open Go Go.RowKit
theorem ZfT {F:Fr} {ops:Array Oper} {H0:List Ob} {p0 p:Nat} {zs:Nat→List D} {V:Nat→D} {listed:Array Bool} {a:Act} {c:Ctx} {HH:Nat→List Ob}
  (hDH:∃ X,c.H=H0++X∧X.all ngone=true) (hDI:Inv F c) (hall:∀ j,j < p→listed.getD j false=true) (hH0:HH p0=H0) (hHs:∀ k,p0≤k→k < p→HH (k+1)=HH k++[.box (zs k)])
  (hV:∀ k,p0≤k→k < p→V k = .ref (H0.length+(k - p0)) 0) (hbl:H0.all (blO H0.length)=true) (hzs:∀ k,p0≤k→k < p→(zs k).all (blC H0.length)=true)
  (fid:Nat→Nat) (hf1:∀ k,p0≤k→k < p→listed.getD k false=true→H0.length≤fid k∧c.H[fid k]? = some (.box (zs k))∧∀ t,(ops[k]?).bind (·.dst)=some t→TV c (a.tmps.getD t undef) (.ref (fid k) 0))
  (hf2:∀ k l,p0≤k→k < p→p0≤l→l < p→listed.getD k false=true→listed.getD l false=true→fid k=fid l→k=l) :
  ∀ j,p0+j≤p→∃ d:Ctx,d.w=c.w∧d.I=c.I∧Inv F d∧d.H=HH (p0+j)∧d.H.length=H0.length+j∧(∀ v e,TV c v e→blT H0.length e=true→TV d v e)∧(∀ v e,CV c v e→blC H0.length e=true→CV d v e) ∧
   (∀ k,p0≤k→k < p0+j→∀ t,(ops[k]?).bind (·.dst)=some t→TV d (a.tmps.getD t undef) (V k)) ∧
   (∀ id b,d.mu id=some b→(id < H0.length∧c.mu id=some b)∨∃ k,p0≤k∧k < p0+j∧c.mu (fid k)=some b)
 | 0,_=>by
  obtain ⟨X,hX,hXg⟩:=hDH
  refine ⟨c.cut H0.length,rfl,rfl,Zjs hDI ?_ ?_,?_,?_,fun v e h hb=>ZkZ h hb,fun v e h hb=>ZfK h hb,fun k h1 h2=>by omega,fun id b h=>?_⟩
  ·rw [hX,List.take_left]; exact hbl
  ·rw [hX,List.drop_left]; exact hXg
  ·show c.H.take H0.length=_
   rw [hX,List.take_left,Nat.add_zero,hH0]
  ·show (c.H.take H0.length).length=_
   rw [hX,List.take_left]; rfl
  ·have h:(if id < H0.length then c.mu id else none)=some b:=h
   split at h
   ·exact .inl ⟨by assumption,h⟩
   ·cases h
 | j+1,hj=>by
  obtain ⟨d,hw,hIe,hI,hH,hlen,htv,hcv,hfl,hmu⟩:=ZfT hDH hDI hall hH0 hHs hV hbl hzs fid hf1 hf2 j (by omega)
  have hk1:p0≤p0+j:=by omega
  have hk2:p0+j < p:=by omega
  obtain ⟨g1,g2,g3⟩:=hf1 (p0+j) hk1 hk2 (hall _ hk2)
  obtain ⟨b,cs,T,hb,hcs,hvs⟩:=hDI.obj _ _ g2
  obtain ⟨l1,l2,l3⟩:=hDI.loc _ b hb
  have hne:∀ id,d.mu id ≠ some b:=fun id h=>by
   rcases hmu id b h with ⟨h1,h2⟩ | ⟨k,h1,h2,h3⟩
   ·have:=hDI.inj id _ b h2 hb
    omega
   ·have:=hf2 k (p0+j) h1 (by omega) hk1 hk2 (hall _ (by omega)) (hall _ hk2) (hDI.inj _ _ b h3 hb)
    omega
  have hz:=hzs (p0+j) hk1 hk2
  have hI':Inv F (d.add (.box (zs (p0+j))) b):=Zmq hI (by rw [hw]; exact l2) l1 (by rw [hIe]; exact l3) hne (fun id o jj h1 h2=>by
   have h3:=Zlp hH0 hHs j (by omega) id o jj b (by rw [← hH]; exact h1) h2
   obtain ⟨X,hX,_⟩:=hDH
   have h4:c.H[id]? = some o:=by rw [hX,List.getElem?_append_left (List.getElem?_eq_some_iff.1 h3).1]; exact h3
   exact (hDI.fb h4 h2).2 _ hb) ⟨cs,T,by rw [hw]; exact hcs,hvs.1,fun i v e h1 h2=>hcv v e (hvs.2 i v e h1 h2) (List.all_eq_true.1 hz e (List.mem_of_getElem? h2))⟩
  refine ⟨d.add (.box (zs (p0+j))) b,hw,hIe,hI',?_,?_,fun v e h hb'=>Zlo hI (htv v e h hb'),fun v e h hb'=>Zem hI (hcv v e h hb'),fun k h1 h2 t ht=>?_,fun id b' h=>?_⟩
  ·show d.H++[_]=_
   rw [hH,← Nat.add_assoc,hHs _ hk1 hk2]
  ·show (d.H++[_]).length=_
   simp [hlen]; omega
  ·rcases Nat.lt_or_ge k (p0+j) with h3 | h3
   ·exact Zlo hI (hfl k h1 h3 t ht)
   ·have:k=p0+j:=by omega
    subst this
    have h4:=g3 t ht
    rw [hV _ hk1 hk2]
    simp only [TV,AV,CV] at h4 ⊢
    obtain ⟨b',h5,h6⟩:=h4
    rw [hb] at h5
    cases h5
    refine ⟨b,?_,h6⟩
    show (if H0.length+(p0+j - p0)=d.H.length then some b else _)=some b
    rw [if_pos (by omega)]
  ·have h:(if id=d.H.length then some b else d.mu id)=some b':=h
   split at h
   ·cases h
    exact .inr ⟨p0+j,hk1,by omega,hb⟩
   ·rcases hmu id b' h with h1 | ⟨k,h1,h2,h3⟩
    ·exact .inl h1
    ·exact .inr ⟨k,h1,by omega,h3⟩
def ct (p0 p:Nat) (zs fs:Nat→List D) (listed:Array Bool) (k:Nat):List D:=bif listed.getD (k+(p - p0)) false then fs k else zs k
theorem Zlq {p0 p:Nat} {zs fs:Nat→List D} {listed:Array Bool} {i k:Nat} (h:i ≠ k+(p - p0)):ct p0 p zs fs (listed.setIfInBounds i true) k=ct p0 p zs fs listed k:=by
 simp only [ct,getD_set_ne false h]
def isTmp (u:Nat):Operand→Bool
 | .tmp t=>Nat.beq t u
 | _=>false
theorem Zid {u:Nat} {y:Operand} (h:isTmp u y=true):y = .tmp u:=by
 unfold isTmp at h
 split at h
 ·rw [Nat.eq_of_beq_eq_true h]
 ·cases h
theorem Zmr {X:List Ob} (h:X.all ngone=true) {i:Nat} {o:Ob} (ho:ngone o=true):(X.set i o).all ngone=true:=by
 rw [List.all_eq_true] at h ⊢
 intro x hx
 rcases List.mem_or_eq_of_mem_set hx with h1 | h1
 ·exact h x h1
 ·rw [h1]; exact ho
end Nv
namespace Nv
open Go Go.RowKit
structure GInv (F:Fr) (nt:Nat) (ops:Array Oper) (H0:List Ob) (p0 p:Nat) (zs fs:Nat→List D) (V:Nat→D) (env0:List (Nat × D)) (listed:Array Bool) (a:Act) (c:Ctx):Prop where
 H:∃ X,c.H=H0++X∧X.all ngone=true
 inv:Inv F c
 env:∀ t,GV (yielded ops a.tmps) c (a.tmps.getD t undef) (valL ops (V1 p0 V) env0 (fun i=>listed.getD i false=true) t)
 fl:∃ fid:Nat→Nat,(∀ k,p0≤k→k < p→listed.getD k false=true→H0.length≤fid k∧c.H[fid k]? = some (.box (ct p0 p zs fs listed k))∧∀ t,(ops[k]?).bind (·.dst)=some t→TV c (a.tmps.getD t undef) (.ref (fid k) 0)) ∧
  ∀ k l,p0≤k→k < p→p0≤l→l < p→listed.getD k false=true→listed.getD l false=true→fid k=fid l→k=l
 size:a.tmps.size=nt
 defers:a.defers=[]
 opt:∀ t j w d,valL ops (V1 p0 V) env0 (fun i=>listed.getD i false=true) t = .opt j w d→listed.getD j false=true
 lsize:listed.size=ops.size
 closed:∀ i j,Waits ops i j→listed.getD i false=true→listed.getD j false=true
theorem Zhl {P:Program} {F:Fr} [GF P F] {nt:Nat} {ops:Array Oper} {bs:List Bool} {rq:List Req} {E:Nat→List (Nat × D)} {HH:Nat→List Ob} {V:Nat→D} {H0:List Ob} {p0 p:Nat} {zs fs:Nat→List D} (hfl:flowB ops=true)
  (hp:p0≤p) (hpn:p+(p - p0)=ops.size) (hH0:HH 0=H0)
  (hbl:H0.all (blO H0.length)=true) (hfs:∀ k,p0≤k→k < p→(fs k).all (blC H0.length)=true)
  (hnw:∀ k o,ops[k]? = some o→k < p0→wrB o.op=false) (hok:∀ t,okT H0.length (find (E p0) t)=true)
  (hdst:∀ (k t:Nat),(ops[k]?).bind (·.dst)=some t→t < nt)
  (hal:∀ k,p0≤k→k < p→∃ o t,ops[k]? = some o∧o.op = .alloc t∧o.guard=none∧zeroD P t=some (zs k))
  (hst:∀ k,p0≤k→k < p→∃ o t u x,ops[k+(p - p0)]? = some o∧o.op = .store t (.tmp u) x∧o.guard=none∧o.dst=none∧(ops[k]?).bind (·.dst)=some u ∧
   (∀ t',x = .tmp t'→∀ l,(ops[l]?).bind (·.dst)=some t'→l < p0)∧∀ (H:List Ob) id,H[id]? = some (.box (zs k))→storeD P H t (.ref id 0) (adj P t (evD (E p0) x))=some (H.set id (.box (fs k))))
  (hT:TraceW P nt ops bs rq 0 p0 E HH V) (hb:∀ b∈bs,b=true) (hq:∀ q∈rq,q.ok P) {Q:Exit→Act→World→Prop}
  (hQ:∀ a c,Inv F c→c.H=H0++(List.range (p - p0)).map (fun q=>Ob.box (fs (p0+q)))→a.tmps.size=nt→a.defers=[] →
   (∀ k,p0≤k→k < p→∀ t,(ops[k]?).bind (·.dst)=some t→TV c (a.tmps.getD t undef) (.ref (H0.length+(k - p0)) 0)) →
   (∀ t,(∀ k,p0≤k→k < p→(ops[k]?).bind (·.dst) ≠ some t)→TV c (a.tmps.getD t undef) (find (E p0) t))→Q .normal a c.w) :
  ∀ (fuel:Nat) (listed:Array Bool) (a:Act) (c:Ctx),GInv F nt ops H0 p0 p zs fs V (E 0) listed a c→cnt listed+fuel=ops.size→wpAny P .any ops Q fuel listed a c.w:=by
 simp only [flowB,Bool.and_eq_true,List.all_eq_true] at hfl
 obtain ⟨hnd,hfl⟩:=hfl
 have flow:∀ i o,ops[i]? = some o→flowAt ops (Region.before ops) i o=true:=fun i o ho=>by
  have hlt:=(Array.getElem?_eq_some_iff.1 ho).1
  refine hfl (o,i) ?_
  rw [List.mem_zipIdx_iff_getElem?]
  simpa using ho
 -- nothing is ready: all are listed
 have stuckAll:∀ (listed:Array Bool),listed.size=ops.size→Region.ready .any ops listed=[]→∀ i,i < ops.size→listed.getD i false=true:=by
  intro listed hls hr i
  induction i using Nat.strongRecOn with
  | _ i ih =>
   intro hi
   cases hl:listed.getD i false with
   | true=>rfl
   | false =>
    exfalso
    have:i∈Region.ready .any ops listed:=by
     rw [mem_ready]
     refine ⟨by simp [hls,hi] at hl ⊢; exact hl,ops[i],by simp [hi],fun e he hbi=>?_⟩
     have h1:=flow i ops[i] (by simp [hi])
     simp only [flowAt,Bool.and_eq_true] at h1
     have h2:=Array.all_eq_true'.1 h1.1.1 e he
     simp only [hbi,Bool.not_true,Bool.false_or] at h2
     have h3:=XW h2
     exact ih e.on h3 (by omega)
    rw [hr] at this
    cases this
 have nodst:∀ l t,(ops[l]?).bind (·.dst)=some t→l < p:=fun l t hl=>by
  rcases Nat.lt_or_ge l p with h | h
  ·exact h
  ·exfalso
   have hlt:l < ops.size:=by
    obtain ⟨o,ho,_⟩:=Option.bind_eq_some_iff.1 hl
    exact (Array.getElem?_eq_some_iff.1 ho).1
   obtain ⟨o,t2,u,x,ho,_,_,hdn,_⟩:=hst (l - (p - p0)) (by omega) (by omega)
   rw [show l - (p - p0)+(p - p0)=l by omega] at ho
   rw [ho] at hl
   simp [hdn] at hl
 have fin:∀ (listed:Array Bool) a c,GInv F nt ops H0 p0 p zs fs V (E 0) listed a c→(∀ i,i < ops.size→listed.getD i false=true)→Q .normal a c.w:=fun listed a c hD hall=>by
  obtain ⟨fid,f1,f2⟩:=hD.fl
  have hct:∀ k,p0≤k→k < p→ct p0 p zs fs listed k=fs k:=fun k h1 h2=>by simp only [ct,hall (k+(p - p0)) (by omega)]; rfl
  obtain ⟨d,hw,_,hI,hH,_,htv,_,hfl',_⟩:=ZfT (ops:=ops) (p0:=p0) (p:=p) (zs:=fs) (V:=fun k=>.ref (H0.length+(k - p0)) 0) (listed:=listed) (a:=a) (HH:=fun k=>H0++(List.range (k - p0)).map (fun q=>Ob.box (fs (p0+q)))) hD.H hD.inv (fun j hj=>hall j (by omega)) (by simp) (fun k h1 h2=>by
    show H0++_=(H0++_)++_
    rw [show k+1 - p0=(k - p0)+1 by omega,List.range_succ,List.map_append,List.append_assoc]
    simp only [List.map_cons,List.map_nil]
    rw [show p0+(k - p0)=k by omega]) (fun k h1 h2=>rfl) hbl hfs fid (fun k h1 h2 h3=>by have:=f1 k h1 h2 h3; rw [hct k h1 h2] at this; exact this) f2 (p - p0) (by omega)
  rw [← hw]
  refine hQ a d hI (by rw [hH]; simp only [show p0+(p - p0) - p0=p - p0 by omega]) hD.size hD.defers (fun k h1 h2 t ht=>hfl' k h1 (by omega) t ht) fun t ht=>?_
  have hv:=hD.env t
  have hval:valL ops (V1 p0 V) (E 0) (fun i=>listed.getD i false=true) t=find (E p0) t:=by
   rw [R2 hnd hT p0 (Nat.le_refl _) t]
   refine Zc7 hnd (Nat.le_refl _) fun k hk=>⟨fun _=>?_,fun h=>hall k (by omega)⟩
   rcases Nat.lt_or_ge k p0 with h | h
   ·exact h
   ·exact absurd hk (ht k h (nodst k t hk))
  rw [hval] at hv
  have h4:=hok t
  generalize find (E p0) t=e at hv h4
  cases e <;> simp only [okT] at h4 <;> first | (cases h4; done) | exact htv _ _ hv h4
 intro fuel
 induction fuel with
 | zero =>
  intro listed a c hD hcnt
  have hall:∀ i,i < ops.size→listed.getD i false=true:=by
   have:=R1 (listed:=listed) (by rw [hD.lsize]; omega)
   rw [hD.lsize] at this
   exact this
  refine ⟨?_,fin listed a c hD hall⟩
  cases hr:Region.ready .any ops listed with
  | nil=>rfl
  | cons i r =>
   exfalso
   have:i∈Region.ready .any ops listed:=by rw [hr]; exact List.mem_cons_self
   obtain ⟨h1,o,ho,_⟩:=mem_ready.1 this
   have hi:=(Array.getElem?_eq_some_iff.1 ho).1
   have h2:=hall i hi
   simp [hD.lsize,hi] at h1 h2
   rw [h1] at h2
   cases h2
 | succ fuel ih =>
  intro listed a c hD hcnt
  refine ⟨fun hr=>fin listed a c hD (stuckAll listed hD.lsize hr),fun i hi=>?_⟩
  obtain ⟨hun,o,ho,hall⟩:=mem_ready.1 hi
  have hilt:=(Array.getElem?_eq_some_iff.1 ho).1
  have hunf:listed.getD i false=false:=by simp [hD.lsize,hilt] at hun ⊢; exact hun
  have hwaits:∀ j,Waits ops i j→listed.getD j false=true:=fun j ⟨o',ho',e,he,hbi,hon⟩=>by
   rw [ho] at ho'
   cases ho'
   rw [← hon]
   exact hall e he hbi
  have reachI:∀ l,((Region.before ops).getD i 0).testBit l=true→listed.getD l false=true:=fun l hb2=>Qg hD.closed (YW ops i l hilt hb2) hwaits
  -- a store stands behind its allocation
  have hsa:∀ k,p0≤k→k < p→listed.getD (k+(p - p0)) false=true→listed.getD k false=true:=fun k h1 h2 hl=>by
   obtain ⟨o2,t2,u,x,ho2,hop2,_,_,hdu,_⟩:=hst k h1 h2
   have hf:=flow _ _ ho2
   simp only [flowAt,Bool.and_eq_true] at hf
   have h3:=List.all_eq_true.1 hf.2 u (by simp only [needs,List.mem_append,List.mem_filterMap]; exact .inl ⟨.tmp u,by rw [hop2]; simp [Op.operands],rfl⟩)
   obtain ⟨ok,hok1,hdk⟩:=Option.bind_eq_some_iff.1 hdu
   have h4:=List.all_eq_true.1 h3 (ok,k) (by rw [List.mem_zipIdx_iff_getElem?]; simpa using hok1)
   simp only [hdk,Nat.beq_refl,Bool.not_true,Bool.false_or,Bool.or_eq_true,Bool.and_eq_true] at h4
   rcases h4 with (h4 | ⟨_,h5⟩) | ⟨h4,_⟩
   ·have:=Nat.eq_of_beq_eq_true h4; omega
   ·exact Qg hD.closed (YW ops _ k (by omega) h5) (fun j hj=>hD.closed _ _ hj hl)
   ·have:=XW h4; omega
  have new:∀ v c',Inv F c'→(∃ X,c'.H=H0++X∧X.all ngone=true)→(∀ u e,TV c u e→TV c' u e)→GV (yielded ops (a.put o.dst v).tmps) c' v (V1 p0 V i)→(∀ j w d,V1 p0 V i = .opt j w d→listed.getD j false=true) →
    (∃ fid:Nat→Nat,(∀ k,p0≤k→k < p→(listed.setIfInBounds i true).getD k false=true→H0.length≤fid k∧c'.H[fid k]? = some (.box (ct p0 p zs fs (listed.setIfInBounds i true) k))∧∀ t,(ops[k]?).bind (·.dst)=some t→TV c' ((a.put o.dst v).tmps.getD t undef) (.ref (fid k) 0)) ∧
     ∀ k l,p0≤k→k < p→p0≤l→l < p→(listed.setIfInBounds i true).getD k false=true→(listed.setIfInBounds i true).getD l false=true→fid k=fid l→k=l) →
    wpAny P .any ops Q fuel (listed.setIfInBounds i true) (a.put o.dst v) c'.w:=fun v c' hI' hHn htr hv hvo hfl'=>by
   have hL:∀ j,(listed.setIfInBounds i true).getD j false=true↔j=i∨listed.getD j false=true:=fun j=>by
    by_cases hji:j=i
    ·subst hji; simp [hD.lsize,hilt]
    ·rw [getD_set_ne false (Ne.symm hji)]; simp [hji]
   have hvalo:∀ t,(∀ u,o.dst=some u→u ≠ t)→valL ops (V1 p0 V) (E 0) (fun j=>(listed.setIfInBounds i true).getD j false=true) t=valL ops (V1 p0 V) (E 0) (fun j=>listed.getD j false=true) t:=fun t ht=>by
    refine QE hnd fun k hk=>?_
    show (listed.setIfInBounds i true).getD k false=true↔_
    rw [hL]
    refine ⟨fun h=>?_,.inr⟩
    rcases h with rfl | h
    ·rw [ho] at hk
     exact absurd rfl (ht t hk)
    ·exact h
   have hyj:∀ j,listed.getD j false=true→yielded ops (a.put o.dst v).tmps j=yielded ops a.tmps j:=fun j hj=>VZ fun t ht e=>by
    have:=Ws hnd (show (ops[i]?).bind (·.dst)=some t by rw [ho]; exact ht) e
    subst this
    rw [hunf] at hj
    cases hj
   have keep:∀ t,GV (yielded ops (a.put o.dst v).tmps) c' (a.tmps.getD t undef) (valL ops (V1 p0 V) (E 0) (fun j=>listed.getD j false=true) t):=fun t=>by
    have h1:=GL htr (hD.env t)
    cases hf:valL ops (V1 p0 V) (E 0) (fun j=>listed.getD j false=true) t <;> rw [hf] at h1 <;> try exact h1
    rename_i j w d
    simp only [GV] at h1 ⊢
    rw [hyj j (hD.opt t j w d hf)]
    exact h1
   refine ih _ _ c' ⟨hHn,hI',fun t=>?_,hfl',by rw [G6]; exact hD.size,by rw [UQ]; exact hD.defers,fun t j w d hf=>?_,by simp [hD.lsize],fun p q hpq hp=>?_⟩ ?_
   ·by_cases hdt:o.dst=some t
    ·have hit:(ops[i]?).bind (·.dst)=some t:=by rw [ho]; exact hdt
     rw [Vn hnd hit ((hL i).2 (.inl rfl))]
     have htl:t < a.tmps.size:=by rw [hD.size]; exact hdst i t hit
     have e:(a.put o.dst v).tmps.getD t undef=v:=by rw [hdt]; exact WA htl
     rw [e]
     exact hv
    ·rw [hvalo t (fun u hu e=>hdt (by rw [hu,e])),GK hdt]
     exact keep t
   ·rw [hL]
    right
    by_cases hdt:o.dst=some t
    ·have hit:(ops[i]?).bind (·.dst)=some t:=by rw [ho]; exact hdt
     rw [Vn hnd hit ((hL i).2 (.inl rfl))] at hf
     exact hvo j w d hf
    ·rw [hvalo t (fun u hu e=>hdt (by rw [hu,e]))] at hf
     exact hD.opt t j w d hf
   ·rw [hL] at hp ⊢
    right
    rcases hp with rfl | hp
    ·exact hwaits q hpq
    ·exact hD.closed p q hpq hp
   ·rw [Zcg (by rw [hD.lsize]; exact hilt) hunf]
    omega
  have fput:∀ v c',(∀ u e,TV c u e→TV c' u e)→∀ k t,k ≠ i→(ops[k]?).bind (·.dst)=some t→∀ e,TV c (a.tmps.getD t undef) e→TV c' ((a.put o.dst v).tmps.getD t undef) e:=fun v c' htr k t hki hk e h=>by
   rw [GK (fun hdt=>hki (Ws hnd hk (by rw [ho]; exact hdt)))]
   exact htr _ _ h
  rcases Nat.lt_or_ge i p0 with hi0 | hi0
  ·have hwr:=hnw i o ho hi0
   obtain ⟨o',orc0,b,r,orc1,ho',hstep,hb1,hr1⟩:=hT.step i (Nat.zero_le _) hi0
   rw [ho] at ho'
   cases ho'
   have hHi:HH i=H0:=by
    have:=R3 hT (p:=0) i (by omega) fun w ow h1 h2 how=>hnw w ow how (by omega)
    rw [Nat.zero_add] at this
    rw [this,hH0]
   have e1:V1 p0 V i=V i:=by simp [V1,hi0]
   have newP:∀ v c',Inv F c'→c'.H=c.H→(∀ u e,TV c u e→TV c' u e)→GV (yielded ops (a.put o.dst v).tmps) c' v (V i)→(∀ j w d,V i = .opt j w d→listed.getD j false=true) →
     wpAny P .any ops Q fuel (listed.setIfInBounds i true) (a.put o.dst v) c'.w:=fun v c' hI' hH' htr hv hvo=>by
    obtain ⟨fid,f1,f2⟩:=hD.fl
    refine new v c' hI' (by rw [hH']; exact hD.H) htr (by rw [e1]; exact hv) (by rw [e1]; exact hvo) ⟨fid,fun k h1 h2 h3=>?_,fun k l h1 h2 h3 h4 h5 h6 h7=>?_⟩
    ·rw [getD_set_ne false (by omega)] at h3
     obtain ⟨g1,g2,g3⟩:=f1 k h1 h2 h3
     exact ⟨g1,by rw [hH',Zlq (by omega)]; exact g2,fun t ht=>fput v c' htr k t (by omega) ht _ (g3 t ht)⟩
    ·rw [getD_set_ne false (by omega)] at h5 h6
     exact f2 k l h1 h2 h3 h4 h5 h6 h7
   have reachI:∀ l,((Region.before ops).getD i 0).testBit l=true→listed.getD l false=true:=fun l hb2=>Qg hD.closed (YW ops i l hilt hb2) hwaits
   have hfa:=flow i o ho
   simp only [flowAt,Bool.and_eq_true] at hfa
   obtain ⟨⟨hf1,hf2⟩,hf3⟩:=hfa
   -- what the operation looks at has its value of the text's order
   have same:∀ t∈needs ops o,valL ops (V1 p0 V) (E 0) (fun i=>listed.getD i false=true) t=find (E i) t:=fun t ht=>by
    rw [R2 hnd hT i (by omega) t]
    refine Zc7 hnd (Nat.le_of_lt hi0) fun k hk=>?_
    have h1:=List.all_eq_true.1 hf3 t ht
    obtain ⟨ok,hok,hdk⟩:=Option.bind_eq_some_iff.1 hk
    have hklt:=(Array.getElem?_eq_some_iff.1 hok).1
    have h2:=List.all_eq_true.1 h1 (ok,k) (by rw [List.mem_zipIdx_iff_getElem?]; simpa using hok)
    simp only [hdk] at h2
    have e1:Nat.beq t t=true:=Nat.beq_refl t
    rw [e1] at h2
    simp only [Bool.not_true,Bool.false_or,Bool.or_eq_true,Bool.and_eq_true] at h2
    rcases h2 with (h2 | ⟨h2,h3⟩) | ⟨h2,h3⟩
    ·obtain rfl:=Nat.eq_of_beq_eq_true h2
     exact ⟨fun h=>(by rw [hunf] at h; cases h),fun h=>by omega⟩
    ·exact ⟨fun _=>XW h2,fun _=>Qg hD.closed (YW ops i k hilt h3) hwaits⟩
    ·have hik:=XW h2
     refine ⟨fun h=>?_,fun h=>by omega⟩
     have:=Qg hD.closed (YW ops k i hklt h3) (fun j hj=>hD.closed _ _ hj h)
     rw [hunf] at this
     cases this
   have hops:∀ x∈o.op.operands.toList,GV (yielded ops a.tmps) c (a.eval x) (evD (E i) x):=fun x hx=>by
    cases x with
    | tmp t =>
     show GV _ _ _ (find (E i) t)
     rw [← same t (by simp only [needs,List.mem_append,List.mem_filterMap]; exact .inl ⟨.tmp t,hx,rfl⟩)]
     exact hD.env t
    | const v=>exact X9 (Zbk c v)
    | global g=>exact X9 WS
    | func f=>exact X9 ⟨#[],rfl,rfl,fun i v d h1 _=>by simp at h1⟩
   have hgf:GuardFacts ops a c (E i) (gch ops 20 o.guard):=fun p hp t ht=>by
    rw [← same t (by simp only [needs,List.mem_append,List.mem_filterMap]; exact .inr ⟨p,hp,ht⟩)]
    exact hD.env t
   unfold wpOp
   simp only [ho]
   unfold stepDw at hstep
   rw [hwr] at hstep
   simp only at hstep
   split at hstep
   case h_2=>cases hstep
   rename_i d0 b0 r0 o0 hstep0
   simp only [Option.some.injEq,Prod.mk.injEq] at hstep
   obtain ⟨hV0,_,rfl,rfl,rfl⟩:=hstep
   rw [hV0] at hstep0
   rename_i hstep
   have hstep:=hstep0
   unfold stepDr at hstep
   split at hstep <;> try cases hstep
   rename_i g hg
   have hopc:∀ {x},opD P (HH i) ops (E i) (gch ops 20 o.guard) orc0 g o=some x→opD P c.H ops (E i) (gch ops 20 o.guard) orc0 g o=some x:=fun {x} h=>by
    obtain ⟨X,hX,_⟩:=hD.H
    rw [hX,← hHi]
    exact Zll X h
   split at hstep
   ·rename_i d bs0 rq0 orc2 j want hop hgd
    cases hlt:Nat.blt j i with
    | false=>simp [hlt] at hstep
    | true =>
     simp only [hlt,cond_true,Option.some.injEq,Prod.mk.injEq] at hstep
     obtain ⟨hV,rfl,rfl,rfl⟩:=hstep
     have hji:=XW hlt
     have hyj:∀ v,yielded ops (a.put o.dst v).tmps j=yielded ops a.tmps j:=fun v=>VZ fun t ht e=>by
      have:=Ws hnd (show (ops[i]?).bind (·.dst)=some t by rw [ho]; exact ht) e
      omega
     have hjl:listed.getD j false=true:=by
      rw [hgd] at hf2
      simp only at hf2
      obtain ⟨e,he,h1⟩:=Array.any_eq_true'.1 hf2
      simp only [Bool.and_eq_true] at h1
      rw [← Nat.eq_of_beq_eq_true h1.2]
      exact hall e he h1.1
     have hwant:Region.wanted o (yielded ops a.tmps)=(yielded ops a.tmps j==some want):=by simp [Region.wanted,hgd]
     have hvo:∀ j' w d',V i = .opt j' w d'→listed.getD j' false=true:=fun j' w d' h=>by rw [← hV] at h; cases h; exact hjl
     cases hw:Region.wanted o (yielded ops a.tmps) with
     | true =>
      simp only [if_true]
      refine .inl (WP hD.inv hops hgf hg hw (hopc hop) (fun b hb'=>hb b (hb1 b hb')) (fun q hq'=>hq q (hr1 q hq')) fun v c' hI' haf=>?_)
      obtain ⟨hgo,_,htv⟩:=haf
      refine newP v c' hI' hgo.H (fun _ _=>hgo.tv) ?_ hvo
      rw [← hV]
      refine .inl ⟨?_,htv⟩
      rw [hyj]
      rw [hw] at hwant
      simpa using hwant.symm
     | false =>
      simp only [Bool.false_eq_true,if_false]
      refine newP undef c hD.inv rfl (fun _ _ h=>h) ?_ hvo
      rw [← hV]
      refine .inr ⟨?_,rfl⟩
      rw [hyj]
      rw [hw] at hwant
      simpa using hwant.symm
   ·rename_i d bs0 rq0 orc2 hop hgd
    simp only [Option.some.injEq,Prod.mk.injEq] at hstep
    obtain ⟨hV,rfl,rfl,rfl⟩:=hstep
    have hw:Region.wanted o (yielded ops a.tmps)=true:=by simp [Region.wanted,hgd]
    simp only [hw,if_true]
    refine .inl (WP hD.inv hops hgf hg hw (hopc hop) (fun b hb'=>hb b (hb1 b hb')) (fun q hq'=>hq q (hr1 q hq')) fun v c' hI' haf=>?_)
    obtain ⟨hgo,_,htv⟩:=haf
    refine newP v c' hI' hgo.H (fun _ _=>hgo.tv) ?_ (fun j w d' h=>?_)
    ·rw [← hV]; exact X9 htv
    ·rw [← hV] at h
     subst h
     simp only [TV,AV] at htv
     exact absurd htv Qt
   ·cases hstep
  rcases Nat.lt_or_ge i p with hip | hip
  ·obtain ⟨o2,t2,ho2,hop2,hgd,hz⟩:=hal i hi0 hip
   rw [ho] at ho2
   cases ho2
   unfold wpOp
   simp only [ho]
   have hw:Region.wanted o (yielded ops a.tmps)=true:=by simp [Region.wanted,hgd]
   simp only [hw,if_true]
   obtain ⟨v,c',hrun',hI',hH',htr,htv⟩:=ZfG (P:=P) (ρc:=a.eval) (ρd:=fun _=>.any) hD.inv (o:=o) (fun x hx=>by rw [hop2] at hx; simp [Op.operands] at hx) (d:=.ref c.H.length 0) (H':=c.H++[.box (zs i)]) (pid:=none) (bs:=[]) (by rw [hop2]; simp [heapD,allocD,hz]) (by simp)
   have htr:∀ u e,TV c u e→TV c' u e:=fun u e h=>htr u e h
   have e1:V1 p0 V i = .any:=by simp [V1,show ¬ i < p0 by omega]
   obtain ⟨X,hX,hXg⟩:=hD.H
   obtain ⟨fid,f1,f2⟩:=hD.fl
   have hset:∀ k,k ≠ i→(listed.setIfInBounds i true).getD k false=true→listed.getD k false=true:=fun k hk h=>by rwa [getD_set_ne false (Ne.symm hk)] at h
   have hltf:∀ k,p0≤k→k < p→listed.getD k false=true→fid k < c.H.length:=fun k h1 h2 h3=>(List.getElem?_eq_some_iff.1 (f1 k h1 h2 h3).2.1).1
   have hnew:=new v c' hI' ⟨X++[.box (zs i)],by rw [hH',hX,List.append_assoc],by simp [hXg,ngone]⟩ htr (by rw [e1]; exact X9 WS) (fun j w d h=>by rw [e1] at h; cases h)
    ⟨fun k=>if k=i then c.H.length else fid k,fun k h1 h2 h3=>?_,fun k l h1 h2 h3 h4 h5 h6 h7=>?_⟩
   ·refine .inl ?_
    unfold Oper.wp
    rcases hrun' with h1 | ⟨h1,rfl⟩
    ·rw [h1]; exact hnew
    ·rw [h1]; exact hnew
   ·by_cases hki:k=i
    ·subst hki
     simp only [if_true]
     refine ⟨by rw [hX]; simp,?_,fun t ht=>?_⟩
     ·have hun2:listed.getD (k+(p - p0)) false=false:=by
       cases hl:listed.getD (k+(p - p0)) false with
       | false=>rfl
       | true=>rw [hsa k h1 h2 hl] at hunf; cases hunf
      rw [hH']; simp [ct,getD_set_ne false (show k ≠ k+(p - p0) by omega),hun2]
     rw [ho] at ht
     have htl:t < a.tmps.size:=by rw [hD.size]; exact hdst k t (by rw [ho]; exact ht)
     have e:(a.put o.dst v).tmps.getD t undef=v:=by
      have ht:o.dst=some t:=ht
      rw [ht]; exact WA htl
     rw [e]
     exact htv
    ·simp only [if_neg hki]
     obtain ⟨g1,g2,g3⟩:=f1 k h1 h2 (hset k hki h3)
     exact ⟨g1,by rw [hH',Zlq (by omega)]; exact Kz _ g2,fun t ht=>fput v c' htr k t hki ht _ (g3 t ht)⟩
   ·have h7:(if k=i then c.H.length else fid k)=(if l=i then c.H.length else fid l):=h7
    by_cases hki:k=i <;> by_cases hli:l=i
    ·omega
    ·rw [if_pos hki,if_neg hli] at h7
     have:=hltf l h3 h4 (hset l hli h6); omega
    ·rw [if_neg hki,if_pos hli] at h7
     have:=hltf k h1 h2 (hset k hki h5); omega
    ·rw [if_neg hki,if_neg hli] at h7
     exact f2 k l h1 h2 h3 h4 (hset k hki h5) (hset l hli h6) h7
  ·-- a store into a floating variable
   have hm:p - p0+p=ops.size:=by omega
   have hk1:p0≤i - (p - p0):=by omega
   have hk2:i - (p - p0) < p:=by omega
   obtain ⟨o2,t2,u,x,ho2,hop2,hgd,hdn,hdu,hx,hsto⟩:=hst (i - (p - p0)) hk1 hk2
   rw [show i - (p - p0)+(p - p0)=i by omega,ho] at ho2
   cases ho2
   generalize hkk:i - (p - p0)=k at *
   have hik:i=k+(p - p0):=by omega
   have need:∀ t',t'∈needs ops o→∀ l,(ops[l]?).bind (·.dst)=some t'→l < i→listed.getD l false=true:=fun t' ht' l hl hli=>by
    have hf:=flow _ _ ho
    simp only [flowAt,Bool.and_eq_true] at hf
    have h3:=List.all_eq_true.1 hf.2 t' ht'
    obtain ⟨ok,hok1,hdk⟩:=Option.bind_eq_some_iff.1 hl
    have h4:=List.all_eq_true.1 h3 (ok,l) (by rw [List.mem_zipIdx_iff_getElem?]; simpa using hok1)
    simp only [hdk,Nat.beq_refl,Bool.not_true,Bool.false_or,Bool.or_eq_true,Bool.and_eq_true] at h4
    rcases h4 with (h4 | ⟨_,h5⟩) | ⟨h4,_⟩
    ·have:=Nat.eq_of_beq_eq_true h4; omega
    ·exact reachI l h5
    ·have:=XW h4; omega
   have hkl:listed.getD k false=true:=need u (by simp only [needs,List.mem_append,List.mem_filterMap]; exact .inl ⟨.tmp u,by rw [hop2]; simp [Op.operands],rfl⟩) k hdu (by omega)
   have hxv:TV c (a.eval x) (evD (E p0) x):=by
    cases x with
    | tmp t' =>
     show TV c _ (find (E p0) t')
     have hv:=hD.env t'
     have hval:valL ops (V1 p0 V) (E 0) (fun i=>listed.getD i false=true) t'=find (E p0) t':=by
      rw [R2 hnd hT p0 (Nat.le_refl _) t']
      refine Zc7 hnd (Nat.le_refl _) fun l hl=>⟨fun _=>hx t' rfl l hl,fun h=>need t' (by simp only [needs,List.mem_append,List.mem_filterMap]; exact .inl ⟨.tmp t',by rw [hop2]; simp [Op.operands],rfl⟩) l hl (by omega)⟩
     rw [hval] at hv
     have h4:=hok t'
     show TV c (a.tmps.getD t' undef) _
     generalize find (E p0) t'=e at hv h4
     cases e <;> simp only [okT] at h4 <;> first | (cases h4; done) | exact hv
    | const v=>exact Zbk c v
    | global g=>exact WS
    | func f=>exact ⟨#[],rfl,rfl,fun i v d h1 _=>by simp at h1⟩
   obtain ⟨fid,f1,f2⟩:=hD.fl
   obtain ⟨g1,g2,g3⟩:=f1 k hk1 hk2 hkl
   have hct:ct p0 p zs fs listed k=zs k:=by simp only [ct,← hik,hunf]; rfl
   rw [hct] at g2
   unfold wpOp
   simp only [ho]
   have hw:Region.wanted o (yielded ops a.tmps)=true:=by simp [Region.wanted,hgd]
   simp only [hw,if_true]
   have hA:∀ y∈o.op.operands.toList,TV c (a.eval y) ((fun y=>bif isTmp u y then .ref (fid k) 0 else evD (E p0) y) y):=fun y hy=>by
    show TV c (a.eval y) (bif isTmp u y then .ref (fid k) 0 else evD (E p0) y)
    rw [hop2] at hy
    simp only [Op.operands] at hy
    cases hb2:isTmp u y with
    | true =>
     obtain rfl:=Zid hb2
     simp only [cond_true]
     exact g3 u hdu
    | false =>
     simp only [cond_false]
     have hyx:y=x:=by
      simp at hy
      rcases hy with rfl | rfl
      ·simp [isTmp,Nat.beq_refl] at hb2
      ·rfl
     subst hyx
     exact hxv
   have hB:heapD P c.H (fun y=>bif isTmp u y then .ref (fid k) 0 else evD (E p0) y) o.op=some (.any,c.H.set (fid k) (.box (fs k)),none,[]):=by
    rw [hop2]
    have hxu:isTmp u x=false:=by
     cases h:isTmp u x with
     | false=>rfl
     | true=>have:=hx u (Zid h) k hdu; omega
    have hu:isTmp u (.tmp u)=true:=by simp [isTmp,Nat.beq_refl]
    simp only [heapD,hu,hxu,cond_true,cond_false]
    rw [hsto _ _ g2]
    rfl
   obtain ⟨v,c',hrun',hI',hH',htr,htv⟩:=ZfG (P:=P) (ρc:=a.eval) hD.inv (o:=o) hA hB (by simp)
   have htr:∀ y e,TV c y e→TV c' y e:=fun y e h=>htr y e h
   have e1:V1 p0 V i = .any:=by simp [V1,show ¬ i < p0 by omega]
   obtain ⟨X,hX,hXg⟩:=hD.H
   have hset:∀ j,j ≠ i→(listed.setIfInBounds i true).getD j false=true→listed.getD j false=true:=fun j hj h=>by rwa [getD_set_ne false (Ne.symm hj)] at h
   have hnew:=new v c' hI' ⟨X.set (fid k - H0.length) (.box (fs k)),by rw [hH',hX,List.set_append_right _ _ g1],Zmr hXg rfl⟩ htr (by rw [e1]; exact X9 WS) (fun j w d h=>by rw [e1] at h; cases h)
    ⟨fid,fun j h1 h2 h3=>?_,fun j l h1 h2 h3 h4 h5 h6 h7=>f2 j l h1 h2 h3 h4 (hset j (by omega) h5) (hset l (by omega) h6) h7⟩
   ·refine .inl ?_
    unfold Oper.wp
    rcases hrun' with h1 | ⟨h1,rfl⟩
    ·rw [h1]; exact hnew
    ·rw [h1]; exact hnew
   ·have h3':=hset j (by omega) h3
    obtain ⟨q1,q2,q3⟩:=f1 j h1 h2 h3'
    refine ⟨q1,?_,fun t ht=>fput v c' htr j t (by omega) ht _ (q3 t ht)⟩
    rw [hH']
    by_cases hjk:j=k
    ·subst hjk
     have hlt:=(List.getElem?_eq_some_iff.1 g2).1
     have hc2:ct p0 p zs fs (listed.setIfInBounds i true) j=fs j:=by
      simp only [ct,← hik]
      rw [show (listed.setIfInBounds i true).getD i false=true by simp [hD.lsize,hilt]]; rfl
     rw [hc2,List.getElem?_set_self hlt]
    ·have hne:fid j ≠ fid k:=fun e=>hjk (f2 j k h1 h2 hk1 hk2 h3' hkl e)
     rw [List.getElem?_set_ne (Ne.symm hne),Zlq (by omega)]
     exact q2
end Nv
namespace Nv
open Go Go.RowKit
def fsOf (P:Program) (ops:Array Oper) (p0 p:Nat) (e1:List (Nat × D)) (k:Nat):List D :=
 match ops[k+(p - p0)]? with
 | some o=>match o.op with
  | .store t _ x=>match cellsOfD (adj P t (evD e1 x)) with
   | some cs=>splice (zsOf P ops k) cs 0
   | none=>[]
  | _=>[]
 | none=>[]
def srcB (ops:Array Oper) (p0:Nat):Operand→Bool
 | .tmp t=>ops.toList.zipIdx.all fun q=>match q.1.dst with | some d=>!Nat.beq d t||Nat.blt q.2 p0 | none=>true
 | _=>true
def stB (P:Program) (n:Nat) (ops:Array Oper) (p0 p:Nat) (e1:List (Nat × D)) (k:Nat):Bool :=
 match ops[k+(p - p0)]?,(ops[k]?).bind (·.dst) with
 | some o,some u=>match o.op,o.guard,o.dst with
  | .store t (.tmp u') x,none,none=>Nat.beq u' u&&srcB ops p0 x&&(match szO P t,cellsOfD (adj P t (evD e1 x)) with
   | some kk,some cs=>Nat.beq cs.length kk&&cs.all cellB&&Nat.ble (0+kk) (zsOf P ops k).length&&(splice (zsOf P ops k) cs 0).all (blC n)
   | _,_=>false)
  | _,_,_=>false
 | _,_=>false
theorem ZfU {P:Program} {n:Nat} {ops:Array Oper} {p0 p:Nat} {e1:List (Nat × D)} {k:Nat} (h:stB P n ops p0 p e1 k=true) :
  (∃ o t u x,ops[k+(p - p0)]? = some o∧o.op = .store t (.tmp u) x∧o.guard=none∧o.dst=none∧(ops[k]?).bind (·.dst)=some u ∧
   (∀ t',x = .tmp t'→∀ l,(ops[l]?).bind (·.dst)=some t'→l < p0)∧∀ (H:List Ob) id,H[id]? = some (.box (zsOf P ops k))→storeD P H t (.ref id 0) (adj P t (evD e1 x))=some (H.set id (.box (fsOf P ops p0 p e1 k))))∧(fsOf P ops p0 p e1 k).all (blC n)=true:=by
 unfold stB at h
 split at h
 ·rename_i o u ho hu
  split at h
  ·rename_i t u' x hop hg hd
   simp only [Bool.and_eq_true] at h
   obtain ⟨⟨h1,h2⟩,h3⟩:=h
   obtain rfl:=Nat.eq_of_beq_eq_true h1
   split at h3
   ·rename_i kk cs hk hcs
    simp only [Bool.and_eq_true] at h3
    obtain ⟨⟨⟨h4,h5⟩,h6⟩,h7⟩:=h3
    have e:fsOf P ops p0 p e1 k=splice (zsOf P ops k) cs 0:=by simp only [fsOf,ho,hop,hcs]
    refine ⟨⟨o,t,u',x,ho,hop,hg,hd,hu,fun t' hx l hl=>?_,fun H id hH=>?_⟩,by rw [e]; exact h7⟩
    ·subst hx
     obtain ⟨ol,hol,hdl⟩:=Option.bind_eq_some_iff.1 hl
     have:=List.all_eq_true.1 h2 (ol,l) (by rw [List.mem_zipIdx_iff_getElem?]; simpa using hol)
     simp only [hdl,Nat.beq_refl,Bool.not_true,Bool.false_or] at this
     exact XW this
    ·simp only [storeD,hk,hcs,h4,h5,Bool.and_self,cond_true,hH,h6,e]
   ·cases h3
  ·cases h
 ·cases h
def regG (P:Program) (ops:Array Oper) (p0 p:Nat) (orc:List Res) (keep:List Nat) (hn:Nat) (s:St):Option (St × List Bool × List Req) :=
 bif flowB ops&&P.follows .mixedOrders&&Nat.ble p0 p&&Nat.beq (p+(p - p0)) ops.size&&(ops.toList.take p0).all (fun o=>!wrB o.op)&&((ops.toList.drop p0).take (p - p0)).all (allocB P s.H.length)&&s.H.all (blO s.H.length) &&
   ops.toList.all (fun o=>match o.dst with | some t=>Nat.blt t s.nt | none=>true) then
  match runDw P s.nt ops 0 (ops.toList.take p0) s.env s.H orc with
  | some (e1,_,bs1,rq1,_)=>bif e1.all (fun q=>okT s.H.length q.2)&&(List.range (p - p0)).all (fun j=>stB P s.H.length ops p0 p e1 (p0+j)) then
    (cutS hn ⟨s.nt,fin ((List.range (p - p0)).map (fun j=>(((ops[p0+j]?).bind (·.dst)).getD 0,D.ref (s.H.length+j) 0))++e1) keep,s.H++(List.range (p - p0)).map (fun q=>Ob.box (fsOf P ops p0 p e1 (p0+q)))⟩).map fun s'=>(s',bs1,rq1)
   else none
  | none=>none
 else none
theorem Zie {c:Ctx} {a:Act} {e:List (Nat × D)} {t:Nat}:∀ {L:List (Nat × D)},(∀ q∈L,TV c (a.tmps.getD q.1 undef) q.2)→((∀ q∈L,q.1 ≠ t)→TV c (a.tmps.getD t undef) (find e t))→TV c (a.tmps.getD t undef) (find (L++e) t)
 | [],_,h2=>h2 (by simp)
 | q :: L,h1,h2=>by
  simp only [List.cons_append,find]
  cases hb:Nat.beq q.1 t with
  | true =>
   obtain rfl:=Nat.eq_of_beq_eq_true hb
   exact h1 q (by simp)
  | false =>
   refine Zie (fun x hx=>h1 x (List.mem_cons_of_mem _ hx)) fun h3=>h2 fun x hx=>?_
   ·rcases List.mem_cons.1 hx with rfl | hx
    ·exact Nat.ne_of_beq_eq_false hb
    ·exact h3 x hx
theorem Zif {P:Program} {Q:Exit→St→Prop} {s:St} {ops:Array Oper} (p0 p:Nat) (orc:List Res) (keep:List Nat) (hn:Nat) {s':St} {bs:List Bool} {rq:List Req}
  (h:regG P ops p0 p orc keep hn s=some (s',bs,rq)) (hb:∀ b∈bs,b=true) (hq:∀ q∈rq,q.ok P) (k:Q .normal s'):AnyW P ops Q s:=by
 rintro F a w hG ⟨c,rfl,hH,hI,henv,hsz,hd⟩
 unfold regG at h
 generalize hc:(flowB ops&&_&&_&&_&&_&&_&&_&&_)=bb at h
 cases bb with
 | false=>cases h
 | true =>
  simp only [cond_true] at h
  simp only [Bool.and_eq_true] at hc
  obtain ⟨⟨⟨⟨⟨⟨⟨c1,c2⟩,c5⟩,c6⟩,c7⟩,c8⟩,c9⟩,c10⟩:=hc
  have hp:p0≤p:=Nat.le_of_ble_eq_true c5
  have hpn:p+(p - p0)=ops.size:=Nat.eq_of_beq_eq_true c6
  split at h <;> try cases h
  rename_i e1 H1 bs1 rq1 orc1 hrun1
  cases hok:(e1.all (fun q=>okT s.H.length q.2)&&(List.range (p - p0)).all (fun j=>stB P s.H.length ops p0 p e1 (p0+j))) with
  | false=>rw [hok] at h; cases h
  | true =>
  rw [hok] at h
  simp only [cond_true] at h
  simp only [Bool.and_eq_true] at hok
  obtain ⟨hok,hst⟩:=hok
  obtain ⟨s1,hcut,heq⟩:=Option.map_eq_some_iff.1 h
  simp only [Prod.mk.injEq] at heq
  obtain ⟨rfl,rfl,rfl⟩:=heq
  have hl1:(ops.toList.take p0).length=p0:=by simp; omega
  obtain ⟨E,HH,V,hE0,hH0,hE1,hH1,hT⟩:=Zel (ops.toList.take p0) 0 s.env e1 s.H H1 orc orc1 bs1 rq1 (fun j=>by
   rcases Nat.lt_or_ge j p0 with h | h
   ·left; rw [List.getElem?_take_of_lt h]; simp
   ·right; omega) hrun1
  rw [hl1,Nat.zero_add] at hE1 hH1 hT
  have hstS:∀ k,p0≤k→k < p→stB P s.H.length ops p0 p e1 k=true:=fun k h1 h2=>by
   have:=List.all_eq_true.1 hst (k - p0) (List.mem_range.2 (by omega))
   rwa [show p0+(k - p0)=k by omega] at this
  have hnw:∀ k o,ops[k]? = some o→k < p0→wrB o.op=false:=fun k o ho hk=>by
   have:=List.all_eq_true.1 c7 o (List.mem_of_getElem? (i:=k) (by rw [List.getElem?_take_of_lt hk]; simpa using ho))
   simpa using this
  have hal:∀ k,p0≤k→k < p→∃ o t,ops[k]? = some o∧o.op = .alloc t∧o.guard=none∧zeroD P t=some (zsOf P ops k):=fun k h1 h2=>by
   have hlt:k < ops.size:=by omega
   have ho:ops[k]? = some ops[k]:=by simp [hlt]
   have:=List.all_eq_true.1 c8 ops[k] (List.mem_of_getElem? (i:=k - p0) (by rw [List.getElem?_take_of_lt (by omega),List.getElem?_drop,show p0+(k - p0)=k by omega]; simp [hlt]))
   obtain ⟨t,h3,h4,h5,_⟩:=Zib ho this
   exact ⟨_,t,ho,h3,h4,h5⟩
  have hdst:∀ (k t:Nat),(ops[k]?).bind (·.dst)=some t→t < s.nt:=fun k t hk=>by
   obtain ⟨o,ho,hdo⟩:=Option.bind_eq_some_iff.1 hk
   have:=List.all_eq_true.1 c10 o (List.mem_of_getElem? (i:=k) (by simpa using ho))
   simp only [hdo] at this
   exact XW this
  let c':Ctx:={ c with w:=c.w.drew }
  have hgo:Goes c c':=⟨rfl,rfl,fun _ h=>h,fun _ _=>rfl,fun b hb=>(hI.imm b hb).1,fun id b hb=>(hI.loc id b hb).2.1⟩
  have hI':Inv F c':=hI.goes hgo (Bw.refl _ _).drew (fun _ h=>.inl h)
  have hnone:∀ i,¬ (Array.replicate ops.size false).getD i false=true:=fun i h=>by rw [J8] at h; cases h
  have hval:∀ t,valL ops (V1 p0 V) (E 0) (fun i=>(Array.replicate ops.size false).getD i false=true) t=find s.env t:=fun t=>by rw [WW (fun i _=>hnone i),hE0]
  have hD:GInv F s.nt ops s.H p0 p (zsOf P ops) (fsOf P ops p0 p e1) V (E 0) (Array.replicate ops.size false) a c':=by
   refine ⟨⟨[],by rw [List.append_nil]; exact hH,rfl⟩,hI',fun t=>?_,⟨fun _=>0,fun k _ _ h=>absurd h (hnone k),fun k l _ _ _ _ h=>absurd h (hnone k)⟩,hsz,hd,fun t j w d hf=>?_,by simp,fun i j _ h=>absurd h (hnone i)⟩
   ·rw [hval]; exact X9 (hgo.tv (henv t))
   ·rw [hval] at hf
    have:=henv t
    rw [hf] at this
    simp only [TV,AV] at this
    exact absurd this Qt
  refine Zhl c1 hp hpn hH0 c9 (fun k h1 h2=>(ZfU (hstS k h1 h2)).2) hnw (fun t=>by rw [hE1]; exact Zic hok t) hdst hal (fun k h1 h2=>by rw [hE1]; exact (ZfU (hstS k h1 h2)).1) hT hb hq (fun a' c'' hI2 hH2 hs2 hd2 hf hr=>⟨s1,k,?_⟩) ops.size _ a c' hD (by simp [cnt,List.countP_replicate])
  refine U5 hcut F a' c''.w (Zfl keep F a' c''.w ⟨c'',rfl,hH2,hI2,fun t=>?_,hs2,hd2⟩)
  refine Zie (fun q hq'=>?_) fun h3=>?_
  ·obtain ⟨j,hj,rfl⟩:=List.mem_map.1 hq'
   have hj:=List.mem_range.1 hj
   obtain ⟨⟨_,_,u,_,_,_,_,_,hu,_⟩,_⟩:=ZfU (hstS (p0+j) (by omega) (by omega))
   have:=hf (p0+j) (by omega) (by omega) u hu
   simp only [hu,Option.getD_some]
   rwa [show p0+j - p0=j by omega] at this
  ·rw [← hE1]
   refine hr t fun kk h1 h2 h4=>?_
   refine h3 (((ops[p0+(kk - p0)]?).bind (·.dst)).getD 0,D.ref (s.H.length+(kk - p0)) 0) (List.mem_map.2 ⟨kk - p0,List.mem_range.2 (by omega),rfl⟩) ?_
   rw [show p0+(kk - p0)=kk by omega,h4]; rfl
theorem Zig {P:Program} {Q:Exit→St→Prop} {s:St} {id:Nat} {ops:Array Oper} (p0 p:Nat) (orc:List Res) (keep:List Nat) (hn:Nat) {s':St} {bs:List Bool} {rq:List Req}
  (h:regG P ops p0 p orc keep hn s=some (s',bs,rq)) (hb:∀ b∈bs,b=true) (hq:∀ q∈rq,q.ok P) (k:Q .normal s'):AWP P (.region id ops true) Q s:=fun F a w hG hR=>by
 have c2:P.follows .mixedOrders=true:=by
  cases hc:P.follows .mixedOrders with
  | true=>rfl
  | false=>unfold regG at h; simp [hc] at h
 exact wp_region_any c2 (Zif p0 p orc keep hn h hb hq k F a w hG hR)
theorem rgs {P:Program} {Q:Exit→St→Prop} {s:St} {id:Nat} {ops:Array Oper} (p0 p:Nat) (orc:List Res) (keep:List Nat) (hn:Nat) (s':St) (bs:List Bool) (rq:List Req)
  (hb:∀ b∈bs,b=true) (hq:Reqs P rq) (k:Q .normal s') (h:regG P ops p0 p orc keep hn s=some (s',bs,rq):=by kernel_rfl):AWP P (.region id ops true) Q s:=Zig p0 p orc keep hn h hb hq.all k
end Nv
namespace Nv
open Go Go.RowKit
def isApp:Op→Bool
 | .call { callee:=.builtin .append,args:=⟨[_,_]⟩,argTypes:=⟨[_,_]⟩ }=>true
 | _=>false
def chE (ch:Option (Nat × D)) (env:List (Nat × D)) (x:Operand):D :=
 match ch,x with
 | some (t0,d0),.tmp t=>bif Nat.beq t t0 then d0 else unwrap [] (evD env x)
 | _,_=>unwrap [] (evD env x)
def pidOk (n:Nat) (ch:Option (Nat × D)) (pid:Option Nat):Bool :=
 match ch,pid with
 | none,none=>true
 | some _,some p=>Nat.beq p n
 | _,_=>false
def lastW (ws:List Nat):Nat:=ws.getLastD 0
def hkA (ops:Array Oper) (ws:List Nat) (H0 HH:List Ob) (k:Nat):List Ob:=bif ((Region.before ops).getD k 0).testBit (lastW ws) then HH else H0
def stepA (P:Program) (ops:Array Oper) (ws:List Nat) (H0:List Ob) (k:Nat) (HH:List Ob) (ch:Option (Nat × D)) (env:List (Nat × D)) (orc:List Res) (o:Oper):Option (D × List Ob × Option (Nat × D) × List Bool × List Req × List Res) :=
 match ws.contains k with
 | true=>match o.guard,o.dst,isApp o.op,heapD P HH (chE ch env) o.op with
  | none,some t,true,some (d,H',pid,bs)=>bif pidOk H0.length ch pid then some (bif Nat.beq k (lastW ws) then d else .any,H',some (t,d),bs,[],orc) else none
  | _,_,_,_=>none
 | false=>match stepDr P ops k (hkA ops ws H0 HH k) env orc o with
  | some (d,bs,rq,orc')=>bif mt H0.length d && !((Region.before ops).getD k 0).testBit (lastW ws) then none else some (d,HH,ch,bs,rq,orc')
  | none=>none
structure TraceA (P:Program) (nt:Nat) (ops:Array Oper) (ws:List Nat) (H0:List Ob) (bs:List Bool) (rq:List Req) (k n:Nat) (E:Nat→List (Nat × D)) (HH:Nat→List Ob) (CH:Nat→Option (Nat × D)) (V:Nat→D):Prop where
 step:∀ i,k≤i→i < n→∃ o orc b r orc',ops[i]? = some o∧stepA P ops ws H0 i (HH i) (CH i) (E i) orc o=some (V i,HH (i+1),CH (i+1),b,r,orc')∧(∀ x∈b,x∈bs)∧(∀ x∈r,x∈rq)
 put:∀ i,k≤i→i < n→∃ o,ops[i]? = some o∧putE nt o.dst (V i) (E i)=some (E (i+1))
section
variable {P:Program} {nt:Nat} {ops:Array Oper} {ws:List Nat} {H0:List Ob} {bs:List Bool} {rq:List Req} {n:Nat} {E:Nat→List (Nat × D)} {HH:Nat→List Ob} {CH:Nat→Option (Nat × D)} {V:Nat→D}
end
structure AInv (F:Fr) (nt:Nat) (ops:Array Oper) (ws:List Nat) (HH:Nat→List Ob) (CH:Nat→Option (Nat × D)) (V:Nat→D) (env0:List (Nat × D)) (listed:Array Bool) (a:Act) (c:Ctx):Prop where
 H:∃ q,q≤ops.size∧c.H=HH q∧(∀ w,ws.contains w=true→w < q→listed.getD w false=true)∧(∀ w,ws.contains w=true→q≤w→listed.getD w false=false) ∧
  ∀ t0 d0,CH q=some (t0,d0)→TV c (a.tmps.getD t0 undef) d0
 inv:Inv F c
 env:∀ t,GV (yielded ops a.tmps) c (a.tmps.getD t undef) (valL ops V env0 (fun i=>listed.getD i false=true) t)
 size:a.tmps.size=nt
 defers:a.defers=[]
 opt:∀ t j w d,valL ops V env0 (fun i=>listed.getD i false=true) t = .opt j w d→listed.getD j false=true
 lsize:listed.size=ops.size
 closed:∀ i j,Waits ops i j→listed.getD i false=true→listed.getD j false=true
end Nv
namespace Nv
open Go Go.RowKit
end Nv
namespace Nv
open Go Go.RowKit
section
variable {α:Type} [Inhabited α] (c:α→List D)
end
section
variable {F:Fr} {c:Ctx} {i0 i1:Nat} {o:Ob}
end
end Nv
namespace Nv
open Go Go.RowKit Go.Shelf Go.Sort Go.Proofs
def sortP {T:Type} [Inhabited T] (cf:T→T→Int) (l:List T):List T:=(pdq (ltOf cf) l.toArray 0 l.length (Lib.bitLen l.length) true true).toList
section
variable {T:Type} [Inhabited T] {cf:T→T→Int}
theorem ZfV (a:Array T) (q:Nat) (h:q < a.size):a[q]! = a.toList.getD q default:=by
 rw [getElem!_pos a q h]; simp [h]
theorem Zbx (hO:SWO (ltOf cf)) (l:List T):(sortP cf l).length=l.length∧(sortP cf l).Perm l∧(sortP cf l).Pairwise (fun x y=>ltOf cf y x=false):=by
 have h:=pdq_sorts (ltOf cf) hO l.toArray 0 l.length (Lib.bitLen l.length) true true (Nat.zero_le _) (by simp) (Or.inl rfl)
 obtain ⟨⟨h1,_,h3⟩,h4⟩:=h
 have hsz:(sortP cf l).length=l.length:=by unfold sortP; simpa using h1
 refine ⟨hsz,?_,?_⟩
 ·unfold sortP
  have q1:∀ (a:Array T),a.size=l.length→a.extract 0 l.length=a:=fun a ha=>by rw [← ha]; simp
  rw [q1 _ (by simpa using h1),q1 _ (by simp)] at h3
  simpa using h3
 ·rw [List.pairwise_iff_getElem]
  intro i j hi hj hij
  have:=h4 i j (Nat.zero_le _) hij (by rw [← hsz]; exact hj)
  unfold sortP at hi hj ⊢
  simp only [Array.length_toList] at hi hj
  rw [getElem!_pos _ j hj,getElem!_pos _ i hi] at this
  simpa using this
theorem Zms {P:Program} {enc:T→List Value} {k:Nat} {w:World} {b off m:Nat} {d:Array T} {os:Array Obj} (h:GT P w) (hb:∀ g,tabG P g=true→b ≠ g):GT P (sortWorldK enc k w b off m d os) :=
 h.of_block fun g hg=>by
  have hlt:=h.lt hg
  have hne:=hb g hg
  simp only [sortWorldK,grow,putRowK,putRow,mapBlock,Go.Sort.ahead]
  rw [Array.getElem?_append_left (by simpa using hlt),Array.getElem?_modify,if_neg hne]
theorem ZiY {w w':World} (h:Bw w.heap.size w w'):∃ q os,w'=grow (w.drewN q) os:=by
 obtain ⟨p,hp⟩:=regrown_of_below h.toBelow
 refine ⟨w'.drawn - w.drawn,p.os,?_⟩
 have hd:=h.drawn
 have e:w'.drawn=p.d:=by rw [hp]; rfl
 have:w.drewN (w'.drawn - w.drawn)=redrawn w p.d:=by
  unfold World.drewN redrawn
  rw [← e,show w.drawn+(w'.drawn - w.drawn)=w'.drawn by omega]
 rw [this]; exact hp
end
end Nv
namespace Nv
open Go Go.RowKit Go.Shelf Go.Sort Go.Proofs
section
variable {T:Type} [Inhabited T]
def SortOK (cmp:T→T→Option Int):Prop:=∃ cf:T→T→Int,(∀ x y,cmp x y=some (cf x y))∧SWO (ltOf cf)
open Classical in
noncomputable def sortM (cmp:T→T→Option Int) (l:List T):Option (List T):=if h:SortOK cmp∧l.length < 4611686018427387904 then some (sortP h.1.choose l) else none
theorem ZiZ {cmp:T→T→Option Int} {l r:List T} (h:sortM cmp l=some r):∃ cf:T→T→Int,(∀ x y,cmp x y=some (cf x y))∧SWO (ltOf cf)∧l.length < 4611686018427387904∧r=sortP cf l:=by
 unfold sortM at h
 split at h
 ·rename_i hx
  exact ⟨hx.1.choose,hx.1.choose_spec.1,hx.1.choose_spec.2,hx.2,(Option.some.inj h).symm⟩
 ·cases h
theorem Zih {cmp:T→T→Option Int} {cf:T→T→Int} (hc:∀ x y,cmp x y=some (cf x y)) (hO:SWO (ltOf cf)) {l:List T} (hl:l.length < 4611686018427387904):sortM cmp l=some (sortP cf l):=by
 have hx:SortOK cmp∧l.length < 4611686018427387904:=⟨⟨cf,hc,hO⟩,hl⟩
 unfold sortM
 rw [dif_pos hx]
 have:hx.1.choose=cf:=by
  funext x y
  have h1:=hx.1.choose_spec.1 x y
  rw [hc x y] at h1
  exact (Option.some.inj h1).symm
 rw [this]
end
section
variable {T:Type}
theorem G8 {lt:T→T→Bool} (hO:SWO lt):∀ {s t:List T},s.Perm t→s.Pairwise (fun x y=>lt y x=false)→t.Pairwise (fun x y=>lt x y=true)→s=t
 | [],t,hp,_,_=>(List.nil_perm.1 hp).symm
 | x :: s,[],hp,_,_=>by have:=hp.length_eq; simp at this
 | x :: s,y :: t,hp,h1,h2=>by
  rw [List.pairwise_cons] at h1 h2
  have hy:y∈x :: s:=hp.symm.subset List.mem_cons_self
  have hx:x∈y :: t:=hp.subset List.mem_cons_self
  have e:x=y:=by
   rcases List.mem_cons.1 hx with e | hx
   ·exact e
   ·rcases List.mem_cons.1 hy with e | hy
    ·exact e.symm
    ·have a1:=h1.1 y hy
     have a2:=h2.1 x hx
     rw [a2] at a1; cases a1
  subst e
  rw [G8 hO (List.Perm.cons_inv hp) h1.2 h2.2]
def insK (cmp:T→T→Option Int) (x:T):List T→Option (List T)
 | []=>some [x]
 | y :: t=>match cmp x y with
  | none=>none
  | some c=>bif decide (c < 0) then some (x :: y :: t) else match insK cmp x t with
   | none=>none
   | some r=>some (y :: r)
def isoK (cmp:T→T→Option Int):List T→Option (List T)
 | []=>some []
 | x :: l=>match isoK cmp l with
  | none=>none
  | some r=>insK cmp x r
def ascK (cmp:T→T→Option Int):List T→Bool
 | x :: y :: t=>(match cmp x y with | some c=>decide (c < 0) | none=>false)&&ascK cmp (y :: t)
 | _=>true
def sortK (cmp:T→T→Option Int) (l:List T):Option (List T):=match isoK cmp l with
 | none=>none
 | some r=>bif ascK cmp r&&Nat.ble l.length 1000 then some r else none
theorem ZgQ {cmp:T→T→Option Int} {x:T}:∀ {l r:List T},insK cmp x l=some r→r.Perm (x :: l)
 | [],r,h=>by simp only [insK,Option.some.injEq] at h; subst h; exact List.Perm.refl _
 | y :: t,r,h=>by
  simp only [insK] at h
  split at h <;> try cases h
  rename_i c _
  cases hb:decide (c < 0) with
  | true=>rw [hb] at h; simp only [cond_true,Option.some.injEq] at h; subst h; exact List.Perm.refl _
  | false =>
   rw [hb] at h
   simp only [cond_false] at h
   split at h <;> try cases h
   rename_i r' hr
   exact ((ZgQ hr).cons y).trans (List.Perm.swap x y t)
theorem Zen {cmp:T→T→Option Int}:∀ {l r:List T},isoK cmp l=some r→r.Perm l
 | [],r,h=>by simp only [isoK,Option.some.injEq] at h; subst h; exact List.Perm.refl _
 | x :: l,r,h=>by
  simp only [isoK] at h
  split at h <;> try cases h
  rename_i r' hr
  exact (ZgQ h).trans ((Zen hr).cons x)
theorem ZfW {kc mc:T→T→Option Int} (hk:∀ x y,Ref (kc x y) (mc x y)) {cf:T→T→Int} (hc:∀ x y,mc x y=some (cf x y)) (hO:SWO (ltOf cf)):∀ {l:List T},ascK kc l=true→l.Pairwise (fun x y=>ltOf cf x y=true)
 | [],_=>List.Pairwise.nil
 | [x],_=>by simp
 | x :: y :: t,h=>by
  simp only [ascK,Bool.and_eq_true] at h
  have ih:=ZfW hk hc hO (l:=y :: t) h.2
  have h1:ltOf cf x y=true:=by
   have h3:=h.1
   split at h3
   ·rename_i c hcx
    have:=hk x y c hcx
    rw [hc] at this
    cases this
    exact h3
   ·cases h3
  rw [List.pairwise_cons]
  refine ⟨fun z hz=>?_,ih⟩
  rcases List.mem_cons.1 hz with rfl | hz
  ·exact h1
  ·exact hO.trans _ _ _ h1 ((List.pairwise_cons.1 ih).1 z hz)
end
section
variable {T:Type} [Inhabited T]
theorem Zlr {kc mc:T→T→Option Int} (hk:∀ x y,Ref (kc x y) (mc x y)) (ok:SortOK mc) {l:List T}:Ref (sortK kc l) (sortM mc l):=by
 intro r hr
 unfold sortK at hr
 split at hr <;> try cases hr
 rename_i r' hi
 cases hb:(ascK kc r'&&Nat.ble l.length 1000) with
 | false=>rw [hb] at hr; cases hr
 | true =>
  rw [hb] at hr
  simp only [cond_true,Option.some.injEq] at hr
  subst hr
  simp only [Bool.and_eq_true] at hb
  have hlen:=Nat.le_of_ble_eq_true hb.2
  obtain ⟨cf,hc,hO⟩:=ok
  rw [Zih hc hO (by omega)]
  obtain ⟨_,h2,h3⟩:=Zbx hO l
  rw [G8 hO (h2.trans (Zen hi).symm) h3 (ZfW hk hc hO hb.1)]
end
end Nv
namespace Nv
open Go Go.RowKit Go.Shelf Go.Sort Go.Proofs
def Apart {T:Type} (lt:T→T→Bool) (l:List T):Prop:=l.Pairwise fun x y=>lt x y=true∨lt y x=true
theorem ZdH {T:Type} {lt:T→T→Bool} {l t:List T} (hp:t.Perm l) (ha:Apart lt l) (hs:t.Pairwise (fun x y=>lt y x=false)):t.Pairwise (fun x y=>lt x y=true):=by
 have h1:t.Pairwise fun x y=>lt x y=true∨lt y x=true:=(hp.symm.pairwise_iff (fun {a b} h=>h.symm)).1 ha
 exact (h1.and hs).imp fun {a b} h=>h.1.elim (fun x=>x) fun x=>by rw [h.2] at x; cases x
section
variable {T:Type} [Inhabited T]
def ApartM (cmp:T→T→Option Int) (l:List T):Prop:=l.Pairwise fun x y=>(∃ c,cmp x y=some c∧c < 0)∨∃ c,cmp y x=some c∧c < 0
open Classical in
noncomputable def sortU (cmp:T→T→Option Int) (l:List T):Option (List T):=if ApartM cmp l then sortM cmp l else none
omit [Inhabited T] in
theorem Zeo {cmp:T→T→Option Int} {cf:T→T→Int} (hc:∀ x y,cmp x y=some (cf x y)) {l:List T}:ApartM cmp l↔Apart (ltOf cf) l:=by
 unfold ApartM Apart
 have key:∀ x y,(∃ c,cmp x y=some c∧c < 0)↔ltOf cf x y=true:=fun x y=>by
  rw [hc]
  unfold ltOf
  simp
 simp only [key]
theorem Zi0 {cmp:T→T→Option Int} {l r:List T} (h:sortU cmp l=some r):∃ cf:T→T→Int,(∀ x y,cmp x y=some (cf x y))∧SWO (ltOf cf)∧l.length < 4611686018427387904∧Apart (ltOf cf) l∧r=sortP cf l:=by
 unfold sortU at h
 split at h
 ·rename_i hx
  obtain ⟨cf,h1,h2,h3,h4⟩:=ZiZ h
  exact ⟨cf,h1,h2,h3,(Zeo h1).1 hx,h4⟩
 ·cases h
theorem Zls {cmp:T→T→Option Int} {cf:T→T→Int} (hc:∀ x y,cmp x y=some (cf x y)) (hO:SWO (ltOf cf)) {l:List T} (hl:l.length < 4611686018427387904) (ha:Apart (ltOf cf) l):sortU cmp l=some (sortP cf l):=by
 unfold sortU
 rw [if_pos ((Zeo hc).2 ha)]
 exact Zih hc hO hl
theorem Zj5 {kc mc:T→T→Option Int} (hk:∀ x y,Ref (kc x y) (mc x y)) (ok:SortOK mc) {l:List T}:Ref (sortK kc l) (sortU mc l):=by
 intro r hr
 have h1:=Zlr hk ok r hr
 obtain ⟨cf,hc,hO⟩:=ok
 unfold sortU
 rw [if_pos]
 ·exact h1
 rw [Zeo hc]
 unfold sortK at hr
 split at hr <;> try cases hr
 rename_i r' hi
 cases hb:(ascK kc r'&&Nat.ble l.length 1000) with
 | false=>rw [hb] at hr; cases hr
 | true =>
  simp only [Bool.and_eq_true] at hb
  have h2:=ZfW hk hc hO hb.1
  have h3:Apart (ltOf cf) r':=h2.imp fun h=>.inl h
  exact ((Zen hi).pairwise_iff (fun {a b} h=>h.symm)).1 h3
end
end Nv
namespace Nv
open Go Go.RowKit Go.Shelf Go.Sort Go.Proofs
section
variable {T:Type} [Inhabited T]
end
end Nv
namespace Nv
open Go Go.RowKit Go.Shelf Go.Sort Go.Proofs
def refB (d:D):Bool:=persB d&&cellB d
theorem Zlt {d:D} (h:refB d=true) {I:Nat→Prop} {w:World} {v:Value} (k:PV I w v d):v.oneCell'=true:=by
 simp only [refB,Bool.and_eq_true] at h
 exact Zbm (c:=NoCtx I w) h.2 (Zfv k)
section
variable {T:Type} [Inhabited T] {cf:T→T→Int}
def Row (c:T→List D) (k:Nat) (I:Nat→Prop) (w:World):Type:={ p:T × List Value // p.2.length=k∧∀ (j:Nat) (v:Value) (d:D),p.2[j]? = some v→(c p.1)[j]? = some d→PV I w v d }
theorem sortFR {P : Program} {ρ : Ren} (L : SlLaysF0.n6 P ρ) (k : Nat) (aE : ∀ w, (isAgg (ρ.t 24)).run P w = .ok true w) (zE : ∀ w, (Go.sizeOf (ρ.t 24)).run P w = .ok k w) (c : T → List D) (hk : ∀ x, (c x).length = k) (hs : ∀ x, (c x).all refB = true)
    (hO : SWO (ltOf cf)) (g : Nat) (eg : ∀ args w, (callFunc g args).run P w = .ok (.enter g args) w) (hF : ∀ x y, Fn P g [.agg (c x), .agg (c y)] (.pure (.int .i64 (cf x y)))) (l : List T) (hl : l.length < 4611686018427387904) (hne : 0 < l.length) (hap : Apart (ltOf cf) l) :
    FnM P (ρ.f 6) [.asl 0 0 l.length, .fn g []] k l.length (fun i => c (l.getD i default)) (fun i => c ((sortP cf l).getD i default)) (.tup []) := by
  intro I0 w m vs hGT hgm hI0 hm hov hvs
  have hsz : vs.size = 2 := hvs.1
  have hv0 := hvs.2 0 vs[0] (.asl 0 0 l.length) (by simp [hsz]) rfl
  have hv1 := hvs.2 1 vs[1] (.fn g []) (by simp [hsz]) rfl
  simp only [AV, CV] at hv0
  obtain ⟨wd1, n1, f1, a, cap, hH, hle, hv0, hcap, hor⟩ := hv0
  simp only [Lctx, List.getElem?_cons_zero, Option.some.injEq, Ob.arr.injEq] at hH
  obtain ⟨rfl, rfl, rfl⟩ := hH
  obtain ⟨cb, hv1, hcb⟩ := hv1
  have hcb0 : cb = #[] := by
    have := hcb.1
    simp at this
    exact this
  subst hcb0
  rcases hor with h0 | ⟨b, hmu, rfl, hroom⟩
  · omega
  simp only [Lctx, if_true] at hmu
  subst hmu
  have hvs' : vs = #[.slice (some ⟨b, 0, none⟩) l.length cap, .func (.func g) #[] #[]] := by
    apply Array.ext (by simp [hsz])
    intro i h1 h2
    rcases i with _ | _ | i
    · simpa using hv0
    · simpa using hv1
    · simp at h2; omega
  subst hvs'
  obtain ⟨hlen, hov⟩ := hov
  rcases hov with ⟨h1, _⟩ | ⟨b', cs, TT, hb', hheap, hsize, hcell⟩
  · cases h1
  cases hb'
  have hheap : w.heap[b]? = some (.cells cs TT (0, 0)) := hheap
  have hcell : ∀ i, i < l.length → ∀ (j : Nat) (d : D), (c (l.getD i default))[j]? = some d → ∃ v, cs[i * k + j]? = some v ∧ v.oneCell' = true ∧ PV I0 w v d := hcell
  have hbI : ¬ I0 b := (hm b rfl).2
  -- the rows
  let R := Row c k I0 w
  have hrow : ∀ i, i < l.length → ((List.range k).map fun j => cs.getD (i * k + j) undef).length = k ∧ ∀ (j : Nat) (v : Value) (d : D), ((List.range k).map fun j => cs.getD (i * k + j) undef)[j]? = some v → (c (l.getD i default))[j]? = some d → PV I0 w v d := fun i hi => by
    refine ⟨by simp, fun j v d h1 h2 => ?_⟩
    obtain ⟨u, h3, _, h4⟩ := hcell i hi j d h2
    have hj : j < k := by have := (List.getElem?_eq_some_iff.1 h2).1; rwa [hk] at this
    have h5 : v = u := by
      simp only [List.getElem?_map, List.getElem?_range hj, Option.map_some, Option.some.injEq] at h1
      rw [← h1, Array.getD_eq_getD_getElem?, h3]; rfl
    rw [h5]; exact h4
  let r0 : R := ⟨(l.getD 0 default, (List.range k).map fun j => cs.getD (0 * k + j) undef), hrow 0 hne⟩
  letI : Inhabited R := ⟨r0⟩
  let mk : Fin l.length → R := fun i => ⟨(l.getD i.1 default, (List.range k).map fun j => cs.getD (i.1 * k + j) undef), hrow i.1 i.2⟩
  let l' : List R := List.ofFn mk
  have hl'len : l'.length = l.length := List.length_ofFn
  have hl'get : ∀ i (hi : i < l.length), l'.getD i default = ⟨(l.getD i default, (List.range k).map fun j => cs.getD (i * k + j) undef), hrow i hi⟩ := fun i hi => by
    rw [List.getD_eq_getElem?_getD, List.getElem?_eq_getElem (by rw [hl'len]; exact hi), Option.getD_some]
    show (List.ofFn mk)[i]'(by rw [List.length_ofFn]; exact hi) = _
    rw [List.getElem_ofFn]
  have hfst : l'.map (fun p => p.1.1) = l := by
    apply List.ext_getElem (by rw [List.length_map, hl'len])
    intro i h1 h2
    rw [List.getElem_map]
    show ((List.ofFn mk)[i]'(by rw [List.length_ofFn]; exact h2)).1.1 = _
    rw [List.getElem_ofFn]
    simp [mk, h2]
  let cf' : R → R → Int := fun p q => cf p.1.1 q.1.1
  have hO' : SWO (ltOf cf') := ⟨fun x => hO.irrefl x.1.1, fun x y z => hO.trans x.1.1 y.1.1 z.1.1, fun x y z => hO.ntrans x.1.1 y.1.1 z.1.1⟩
  obtain ⟨hsl', hsp', hsw'⟩ := Zbx hO' l'
  obtain ⟨hsl, hsp, hsw⟩ := Zbx hO l
  have hsame : (sortP cf' l').map (fun p => p.1.1) = sortP cf l := by
    refine G8 hO ?_ ?_ (ZdH hsp hap hsw)
    · have := hsp'.map (fun p : R => p.1.1)
      rw [hfst] at this
      exact this.trans hsp.symm
    · rw [List.pairwise_map]
      exact hsw'
  let enc : R → List Value := fun p => p.1.2
  have hek : ∀ x, (enc x).length = k := fun x => x.2.1
  have hpv : ∀ (x : R) (j : Nat) (v : Value), (enc x)[j]? = some v → ∃ d, (c x.1.1)[j]? = some d ∧ PV I0 w v d ∧ v.oneCell' = true := fun x j v h => by
    have hj : j < k := by have := (List.getElem?_eq_some_iff.1 h).1; rwa [hek] at this
    have hd : (c x.1.1)[j]? = some ((c x.1.1)[j]'(by rw [hk]; exact hj)) := List.getElem?_eq_getElem _
    exact ⟨_, hd, x.2.2 j v _ h hd, Zlt (List.all_eq_true.1 (hs x.1.1) _ (List.mem_of_getElem? hd)) (x.2.2 j v _ h hd)⟩
  have he1 : ∀ x, ∀ v ∈ enc x, v.oneCell' = true := fun x v hv => by
    obtain ⟨j, hj⟩ := List.getElem?_of_mem hv
    obtain ⟨_, _, _, h⟩ := hpv x j v hj
    exact h
  have hblt : b < w.heap.size := (hm b rfl).1
  have hsd : l'.toArray.size = l.length := by simp [hl'len]
  have hH : HoldsK enc k w b 0 l'.toArray := by
    intro j hj
    rw [size_flatK, hsd] at hj
    have k0 : 0 < k := by rcases Nat.eq_zero_or_pos k with h | h; · subst h; simp at hj
                          · exact h
    have hi : j / k < l.length := by rw [Nat.div_lt_iff_lt_mul k0]; exact hj
    have hmod : j % k < k := Nat.mod_lt _ k0
    have hx : l'.toArray[j / k]! = l'.getD (j / k) default := ZfV _ _ (by simpa [hl'len] using hi)
    obtain ⟨d, hd⟩ : ∃ d, (c (l.getD (j / k) default))[j % k]? = some d := ⟨_, List.getElem?_eq_getElem (by rw [hk]; exact hmod)⟩
    obtain ⟨v, hv, _, _⟩ := hcell (j / k) hi (j % k) d hd
    have e0 : j / k * k + j % k = j := by rw [Nat.mul_comm]; exact Nat.div_add_mod j k
    refine ⟨?_, ?_⟩
    · rw [get_flatK _ _ _ _ (by rw [hsd]; exact hj), hx, hl'get _ hi]
      have e2 : (enc (⟨(l.getD (j / k) default, (List.range k).map fun q => cs.getD (j / k * k + q) undef), hrow _ hi⟩ : R))[j % k]! = v := by
        have : (enc (⟨(l.getD (j / k) default, (List.range k).map fun q => cs.getD (j / k * k + q) undef), hrow _ hi⟩ : R))[j % k]? = some v := by
          simp only [enc, List.getElem?_map, List.getElem?_range hmod, Option.map_some, Option.some.injEq]
          rw [Array.getD_eq_getD_getElem?, hv]; rfl
        rw [List.getElem!_of_getElem? this]
      rw [e2]
      rw [e0] at hv
      simp only [World.cell?, hheap, Nat.zero_add]
      simpa using hv
    · simp [World.frozen?, hheap]
  have hkeep : ∀ (q : Nat) (dk : Array R) (os : Array Obj) (j : Nat), j < w.heap.size → j ≠ b → (sortWorldK enc k w b 0 q dk os).heap[j]? = w.heap[j]? := fun q dk os j hj hne => by
    simp only [sortWorldK, grow, putRowK, putRow, mapBlock, Go.Sort.ahead]
    rw [Array.getElem?_append_left (by simpa using hj), Array.getElem?_modify, if_neg (Ne.symm hne)]
  have hsizeW : ∀ (q : Nat) (dk : Array R) (os : Array Obj), w.heap.size ≤ (sortWorldK enc k w b 0 q dk os).heap.size := fun q dk os => by
    simp [sortWorldK, grow, putRowK, putRow, mapBlock, Go.Sort.ahead]
  have hpvW : ∀ (q : Nat) (dk : Array R) (os : Array Obj) {v : Value} {d : D}, PV I0 w v d → PV I0 (sortWorldK enc k w b 0 q dk os) v d := fun q dk os v d h =>
    h.mono (fun _ h => h) fun j hj => hkeep q dk os j (hI0 j hj) fun e => hbI (e ▸ hj)
  have hcmp : CmpLays P g #[] enc k cf' b 0 l'.toArray.size w := by
    intro q os dk _ x y
    have hW : GT P (sortWorldK enc k w b 0 q dk os) := Zms hGT fun gg hg e => hgm gg hg (by rw [e])
    have hargs : Vs (AV (NoCtx I0 (sortWorldK enc k w b 0 q dk os))) #[.agg (enc x).toArray, .agg (enc y).toArray] [.agg (c x.1.1), .agg (c y.1.1)] := by
      have one : ∀ z : R, AV (NoCtx I0 (sortWorldK enc k w b 0 q dk os)) (.agg (enc z).toArray) (.agg (c z.1.1)) := fun z => by
        refine ⟨_, rfl, by simp [hek, hk], fun i v d h1 h2 => ?_⟩
        have h3 : (enc z)[i]? = some v := by simpa using h1
        obtain ⟨d', h4, h5, _⟩ := hpv z i v h3
        rw [h2] at h4
        cases h4
        exact Zfv (hpvW q dk os h5)
      refine ⟨rfl, fun i v d h1 h2 => ?_⟩
      rcases i with _ | _ | i
      · simp at h1 h2; subst h1; subst h2; exact one x
      · simp at h1 h2; subst h1; subst h2; exact one y
      · simp at h2
    refine (hF x.1.1 y.1.1 I0 _ _ hW (fun j hj => Nat.lt_of_lt_of_le (hI0 j hj) (hsizeW q dk os)) hargs).mono ?_
    rintro e w' ⟨v, I1, rfl, hbw, _, hrv⟩
    have hv : v = .int .i64 (cf x.1.1 y.1.1) := by
      have : PV I1 w' v (.int .i64 (cf x.1.1 y.1.1)) := hrv
      cases this; rfl
    subst hv
    obtain ⟨q2, os2, h2⟩ := ZiY hbw
    exact ⟨rfl, q2, os2, h2⟩
  have hmain := AnyQ.slices_SortFunc_eq L k aE zE enc hek he1 cf' hO' g #[] b 0 cap l'.toArray w eg hcmp hH hblt (by rw [hsd]; exact hl)
  rw [hsd] at hmain
  refine hmain.mono ?_
  rintro e w' ⟨rfl, q, os, rfl⟩
  have hps : (pdq (ltOf cf') l'.toArray 0 l.length (Lib.bitLen l.length) true true).size = l.length := by
    have := hsl'; unfold sortP at this; rw [hl'len] at this; simpa using this
  have hsort : ∀ i, i < l.length → (sortP cf l).getD i default = (pdq (ltOf cf') l'.toArray 0 l.length (Lib.bitLen l.length) true true)[i]!.1.1 := fun i hi => by
    rw [ZfV _ _ (by rw [hps]; exact hi), ← hsame]
    have : (sortP cf' l') = (pdq (ltOf cf') l'.toArray 0 l.length (Lib.bitLen l.length) true true).toList := by unfold sortP; rw [hl'len]
    rw [← this]
    have hi' : i < (sortP cf' l').length := by rw [hsl', hl'len]; exact hi
    simp [hi']
  generalize hd' : pdq (ltOf cf') l'.toArray 0 l.length (Lib.bitLen l.length) true true = d' at *
  have hw'b : (sortWorldK enc k w b 0 q d' os).heap[b]? = some (.cells (putCells id 0 (flatK enc k d') cs) TT (0, 0)) := by
    simp only [sortWorldK, grow, putRowK, putRow, mapBlock, Go.Sort.ahead]
    rw [Array.getElem?_append_left (by simpa using hblt), Array.getElem?_modify, if_pos rfl, hheap]
    rfl
  refine ⟨.tuple #[], I0, rfl, ⟨rfl, rfl, rfl, ?_, ?_, fun j hj hnl => ?_, fun j hj => ?_⟩, fun _ h => .inl h, ⟨fun i hi => hk _, .inr ⟨b, _, TT, rfl, hw'b, ?_, fun i hi j d hd => ?_⟩⟩, ⟨#[], rfl, rfl, fun i v d h1 _ => by simp at h1⟩⟩
  · simp [sortWorldK, grow, putRowK, putRow, mapBlock, Go.Sort.ahead]
  · simp [sortWorldK, grow, putRowK, putRow, mapBlock, Go.Sort.ahead]
  · exact hkeep q d' os j hj fun e => hnl (by simp [Fr.lent, e])
  · simp only [Fr.lent, List.mem_singleton, Option.some.injEq] at hj
    subst hj
    exact ⟨cs, _, TT, hheap, hw'b, by simp [putCells]⟩
  · simpa [putCells] using hsize
  · have hi' : i < d'.size := by rw [hps]; exact hi
    have hd : (c ((sortP cf l).getD i default))[j]? = some d := hd
    rw [hsort i hi] at hd
    have hjk : j < k := by have := (List.getElem?_eq_some_iff.1 hd).1; rwa [hk] at this
    obtain ⟨v, hv⟩ : ∃ v, (enc d'[i]!)[j]? = some v := ⟨_, List.getElem?_eq_getElem (by rw [hek]; exact hjk)⟩
    obtain ⟨d2, h4, h5, h6⟩ := hpv _ j v hv
    rw [hd] at h4
    cases h4
    refine ⟨v, ?_, h6, hpvW q d' os h5⟩
    have hlt : i * k + j < d'.size * k := by
      have := Nat.mul_le_mul_right k (show i + 1 ≤ d'.size from hi'); rw [Nat.add_mul, Nat.one_mul] at this; omega
    have hcs : i * k + j < cs.size := by rw [hps] at hlt; omega
    have e1 : (i * k + j) / k = i := (blk_iff k i _ (by omega)).1 ⟨by omega, by omega⟩
    have e2 : (i * k + j) % k = j := by rw [Nat.mod_eq_sub_div_mul, e1]; omega
    simp only [putCells, Array.getElem?_mapIdx, Nat.zero_add, Nat.sub_zero, Nat.zero_le, true_and, size_flatK, id]
    rw [Array.getElem?_eq_getElem hcs, Option.map_some, if_pos hlt, get_flatK _ _ _ _ hlt, e1, e2]
    congr 1
    rw [List.getElem!_of_getElem? hv]
end
section
variable {T:Type} [Inhabited T]
theorem sortFR0 {P:Program} {ρ:Ren} (L:SlLaysF0.n6 P ρ) (k:Nat) (aE:∀ w,(isAgg (ρ.t 24)).run P w = .ok true w) (zE:∀ w,(Go.sizeOf (ρ.t 24)).run P w = .ok k w) (c:T→List D) (hk:∀ x,(c x).length=k) (hs:∀ x,(c x).all refB=true)
  {cf:T→T→Int} (hO:SWO (ltOf cf)) (g:Nat) (eg:∀ args w,(callFunc g args).run P w = .ok (.enter g args) w) (hF:∀ x y,Fn P g [.agg (c x),.agg (c y)] (.pure (.int .i64 (cf x y)))) (l:List T) (hl:l.length < 4611686018427387904) (ha:Apart (ltOf cf) l) :
  FnM P (ρ.f 6) [.asl 0 0 l.length,.fn g []] k l.length (fun i=>c (l.getD i default)) (fun i=>c ((sortP cf l).getD i default)) (.tup []):=by
 rcases Nat.eq_zero_or_pos l.length with h0 | h0
 ·obtain rfl:=List.eq_nil_of_length_eq_zero h0
  have hp:sortP cf ([]:List T)=[]:=List.eq_nil_of_length_eq_zero (by rw [(Zbx hO []).1]; rfl)
  rw [hp]
  intro I0 w m vs hGT hgm hI0 hm hov hvs
  have hsz:vs.size=2:=hvs.1
  have hv0:=hvs.2 0 vs[0] (.asl 0 0 0) (by simp [hsz]) rfl
  have hv1:=hvs.2 1 vs[1] (.fn g []) (by simp [hsz]) rfl
  simp only [AV,CV] at hv0
  obtain ⟨wd1,n1,f1,a,cap,hH,hle,hv0,hcap,hor⟩:=hv0
  have hvs':vs = #[.slice a 0 cap,vs[1]]:=by
   apply Array.ext (by simp [hsz])
   intro i h1 h2
   rcases i with _ | _ | i
   ·simpa using hv0
   ·simp
   ·simp at h2; omega
  rw [hvs']
  refine (AnyF.slices_SortFunc_none L a cap _ w).mono ?_
  rintro e w' ⟨rfl,rfl⟩
  refine ⟨.tuple #[],I0,rfl,⟨rfl,rfl,rfl,Nat.le_refl _,Nat.le_refl _,fun _ _ _=>rfl,fun j hj=>?_⟩,fun _ h=>.inl h,hov,⟨#[],rfl,rfl,fun i v d h1 _=>by simp at h1⟩⟩
  simp only [Fr.lent,List.mem_singleton] at hj
  subst hj
  obtain ⟨_,hov⟩:=hov
  rcases hov with ⟨h1,_⟩ | ⟨b',cs,TT,hb',hheap,_⟩
  ·cases h1
  ·cases hb'
   exact ⟨cs,cs,TT,hheap,hheap,rfl⟩
 ·exact sortFR L k aE zE c hk hs hO g eg hF l hl h0 ha
end
end Nv
namespace Nv
open Go
section
variable {α:Type} [Inhabited α] (cmp:α→α→Option Int)
end
end Nv
namespace Nv
open Go
section
variable {α:Type} [Inhabited α]
abbrev at' (l:List α) (k:Nat):α:=l.getD k default
def swp (l:List α) (i j:Nat):List α:=(l.set i (at' l j)).set j (at' l i)
@[simp] theorem swp_len (l:List α) (i j:Nat):(swp l i j).length=l.length:=by simp [swp]
end
section
variable {α:Type}
structure SW (lt:α→α→Bool):Prop where
 irr:∀ x,lt x x=false
 tr:∀ x y z,lt x y=true→lt y z=true→lt x z=true
 ntr:∀ x y z,lt x y=false→lt y z=false→lt x z=false
variable {lt:α→α→Bool}
def eqv (lt:α→α→Bool) (e x:α):Bool:=!lt e x && !lt x e
end
section
variable {α:Type} [Inhabited α] {lt:α→α→Bool}
structure Rng (lt:α→α→Bool) (a b:Nat) (l l':List α):Prop where
 len:l'.length=l.length
 out:∀ k,k < a∨b≤k→at' l' k=at' l k
 stab:∀ e,l'.filter (eqv lt e)=l.filter (eqv lt e)
 src:∀ k,a≤k→k < b→∃ k',a≤k'∧k' < b∧at' l' k=at' l k'
end
section
variable {α:Type} {lt:α→α→Bool}
end
section
variable {α:Type} [Inhabited α] {lt:α→α→Bool}
end
end Nv
namespace Nv
open Go
section
variable {α:Type} [Inhabited α]
variable {cmp:α→α→Option Int} {c:α→α→Int}
theorem gdT {β:Type} {l:List Bool} {k:Option β} (h:l.all id=true):gd l k=k:=by unfold gd; rw [h]; rfl
end
end Nv
namespace Nv
open Go Go.RowKit
theorem Zii {ops:Array Oper} (hnd:dstsB ops=true) {nt k0 n:Nat} {E:Nat→List (Nat × D)} {V:Nat→D} {env0:List (Nat × D)} (hbase:∀ t,find (E k0) t=valL ops V env0 (· < k0) t)
  (hput:∀ i,k0≤i→i < n→∃ o,ops[i]? = some o∧putE nt o.dst (V i) (E i)=some (E (i+1))):∀ m,k0+m≤n→∀ t,find (E (k0+m)) t=valL ops V env0 (· < k0+m) t
 | 0,_,t=>hbase t
 | m+1,hk,t=>by
  have ih:=Zii hnd hbase hput m (by omega) t
  obtain ⟨o,ho,hp⟩:=hput (k0+m) (by omega) (by omega)
  rw [← Nat.add_assoc]
  generalize k0+m=k at *
  unfold putE at hp
  split at hp
  ·rename_i hd
   simp only [Option.some.injEq] at hp
   rw [← hp,ih]
   refine QE hnd fun i hi=>⟨fun h=>by omega,fun h=>?_⟩
   rcases Nat.lt_or_ge i k with h1 | h1
   ·exact h1
   ·have:i=k:=by omega
    subst this
    rw [ho] at hi
    simp [hd] at hi
  ·rename_i u hd
   cases hlt:Nat.blt u nt with
   | false=>rw [hlt] at hp; cases hp
   | true =>
    rw [hlt] at hp
    simp only [cond_true,Option.some.injEq] at hp
    rw [← hp]
    simp only [find]
    have hku:(ops[k]?).bind (·.dst)=some u:=by rw [ho]; exact hd
    cases hb:Nat.beq u t with
    | true =>
     obtain rfl:=Nat.eq_of_beq_eq_true hb
     simp only [cond_true]
     exact (Vn hnd hku (Nat.lt_succ_self k)).symm
    | false =>
     simp only [cond_false]
     rw [ih]
     refine QE hnd fun i hi=>⟨fun h=>by omega,fun h=>?_⟩
     rcases Nat.lt_or_ge i k with h1 | h1
     ·exact h1
     ·have:i=k:=by omega
      subst this
      rw [hku] at hi
      cases hi
      rw [Nat.beq_refl] at hb; cases hb
theorem Zfp {ops:Array Oper} (hfl:flowB ops=true):∀ i o,ops[i]? = some o→flowAt ops (Region.before ops) i o=true:=by
 simp only [flowB,Bool.and_eq_true,List.all_eq_true] at hfl
 intro i o ho
 refine hfl.2 (o,i) ?_
 rw [List.mem_zipIdx_iff_getElem?]
 simpa using ho
theorem Zci {listed:Array Bool} {i:Nat} (hi:i < listed.size) (j:Nat):(listed.setIfInBounds i true).getD j false=true↔j=i∨listed.getD j false=true:=by
 by_cases hji:j=i
 ·subst hji; simp [hi]
 ·rw [getD_set_ne false (Ne.symm hji)]; simp [hji]
theorem dstep {P:Program} {F:Fr} [GF P F] {nt:Nat} {ops:Array Oper} {H:List Ob} {V:Nat→D} {env0 Ei:List (Nat × D)} (hfl:flowB ops=true) {listed:Array Bool} {a:Act} {c:Ctx} (hD:DInv F nt ops H V env0 listed a c)
  {i:Nat} {o:Oper} (ho:ops[i]? = some o) (hunf:listed.getD i false=false) (hall:∀ e∈o.after,Region.binds .any e=true→listed.getD e.on false=true)
  (hval:∀ t,find Ei t=valL ops V env0 (· < i) t) {orc orc1:List Res} {b:List Bool} {r:List Req} (hstep:stepDr P ops i H Ei orc o=some (V i,b,r,orc1)) (hb:∀ x∈b,x=true) (hq:∀ q∈r,q.ok P) (hnt:∀ t,o.dst=some t→t < nt)
  {Q:Exit→Act→World→Prop} {K:Act→World→Prop} (hK:∀ a' c',DInv F nt ops H V env0 (listed.setIfInBounds i true) a' c'→K a' c'.w):wpOp P ops Q i K a c.w:=by
 have hnd:dstsB ops=true:=by simp only [flowB,Bool.and_eq_true] at hfl; exact hfl.1
 have hilt:=(Array.getElem?_eq_some_iff.1 ho).1
 have hwaits:∀ j,Waits ops i j→listed.getD j false=true:=fun j ⟨o',ho',e,he,hbi,hon⟩=>by
  rw [ho] at ho'
  cases ho'
  rw [← hon]
  exact hall e he hbi
 have hfa:=Zfp hfl i o ho
 simp only [flowAt,Bool.and_eq_true] at hfa
 obtain ⟨⟨hf1,hf2⟩,hf3⟩:=hfa
 have same:∀ t∈needs ops o,valL ops V env0 (fun i=>listed.getD i false=true) t=find Ei t:=fun t ht=>by
  rw [hval t]
  refine QE hnd fun k hk=>?_
  have h1:=List.all_eq_true.1 hf3 t ht
  obtain ⟨ok,hok,hdk⟩:=Option.bind_eq_some_iff.1 hk
  have hklt:=(Array.getElem?_eq_some_iff.1 hok).1
  have h2:=List.all_eq_true.1 h1 (ok,k) (by rw [List.mem_zipIdx_iff_getElem?]; simpa using hok)
  simp only [hdk] at h2
  have e1:Nat.beq t t=true:=Nat.beq_refl t
  rw [e1] at h2
  simp only [Bool.not_true,Bool.false_or,Bool.or_eq_true,Bool.and_eq_true] at h2
  rcases h2 with (h2 | ⟨h2,h3⟩) | ⟨h2,h3⟩
  ·obtain rfl:=Nat.eq_of_beq_eq_true h2
   exact ⟨fun h=>(by rw [hunf] at h; cases h),fun h=>by omega⟩
  ·exact ⟨fun _=>XW h2,fun _=>Qg hD.closed (YW ops i k hilt h3) hwaits⟩
  ·have hik:=XW h2
   refine ⟨fun h=>?_,fun h=>by omega⟩
   have:=Qg hD.closed (YW ops k i hklt h3) (fun j hj=>hD.closed _ _ hj h)
   rw [hunf] at this
   cases this
 have hops:∀ x∈o.op.operands.toList,GV (yielded ops a.tmps) c (a.eval x) (evD Ei x):=fun x hx=>by
  cases x with
  | tmp t =>
   show GV _ _ _ (find Ei t)
   rw [← same t (by simp only [needs,List.mem_append,List.mem_filterMap]; exact .inl ⟨.tmp t,hx,rfl⟩)]
   exact hD.env t
  | const v=>exact X9 (Zbk c v)
  | global g=>exact X9 WS
  | func f=>exact X9 ⟨#[],rfl,rfl,fun i v d h1 _=>by simp at h1⟩
 have hgf:GuardFacts ops a c Ei (gch ops 20 o.guard):=fun p hp t ht=>by
  rw [← same t (by simp only [needs,List.mem_append,List.mem_filterMap]; exact .inr ⟨p,hp,ht⟩)]
  exact hD.env t
 have hL:=Zci (listed:=listed) (i:=i) (by rw [hD.lsize]; exact hilt)
 have new:∀ v c',Inv F c'→Goes c c'→(∀ d,V i=d→GV (yielded ops (a.put o.dst v).tmps) c' v d)→(∀ j w d,V i = .opt j w d→listed.getD j false=true)→K (a.put o.dst v) c'.w:=fun v c' hI' hgo hv hvo=>by
  have hvalo:∀ t,(∀ u,o.dst=some u→u ≠ t)→valL ops V env0 (fun j=>(listed.setIfInBounds i true).getD j false=true) t=valL ops V env0 (fun j=>listed.getD j false=true) t:=fun t ht=>by
   refine QE hnd fun k hk=>?_
   show (listed.setIfInBounds i true).getD k false=true↔_
   rw [hL]
   refine ⟨fun h=>?_,.inr⟩
   rcases h with rfl | h
   ·rw [ho] at hk
    exact absurd rfl (ht t hk)
   ·exact h
  have hyj:∀ j,listed.getD j false=true→yielded ops (a.put o.dst v).tmps j=yielded ops a.tmps j:=fun j hj=>VZ fun t ht e=>by
   have:=Ws hnd (show (ops[i]?).bind (·.dst)=some t by rw [ho]; exact ht) e
   subst this
   rw [hunf] at hj
   cases hj
  have keep:∀ t,GV (yielded ops (a.put o.dst v).tmps) c' (a.tmps.getD t undef) (valL ops V env0 (fun j=>listed.getD j false=true) t):=fun t=>by
   have h1:=hgo.gv (hD.env t)
   cases hf:valL ops V env0 (fun j=>listed.getD j false=true) t <;> rw [hf] at h1 <;> try exact h1
   rename_i j w d
   simp only [GV] at h1 ⊢
   rw [hyj j (hD.opt t j w d hf)]
   exact h1
  refine hK _ c' ⟨by rw [hgo.H]; exact hD.H,hI',fun t=>?_,by rw [G6]; exact hD.size,by rw [UQ]; exact hD.defers,fun t j w d hf=>?_,by simp [hD.lsize],fun p q hpq hp=>?_⟩
  ·by_cases hdt:o.dst=some t
   ·have hit:(ops[i]?).bind (·.dst)=some t:=by rw [ho]; exact hdt
    rw [Vn hnd hit ((hL i).2 (.inl rfl))]
    have e:(a.put o.dst v).tmps.getD t undef=v:=by rw [hdt]; exact WA (by rw [hD.size]; exact hnt t hdt)
    rw [e]
    exact hv _ rfl
   ·rw [hvalo t (fun u hu e=>hdt (by rw [hu,e])),GK hdt]
    exact keep t
  ·rw [hL]
   right
   by_cases hdt:o.dst=some t
   ·have hit:(ops[i]?).bind (·.dst)=some t:=by rw [ho]; exact hdt
    rw [Vn hnd hit ((hL i).2 (.inl rfl))] at hf
    exact hvo j w d hf
   ·rw [hvalo t (fun u hu e=>hdt (by rw [hu,e]))] at hf
    exact hD.opt t j w d hf
  ·rw [hL] at hp ⊢
   right
   rcases hp with rfl | hp
   ·exact hwaits q hpq
   ·exact hD.closed p q hpq hp
 unfold stepDr at hstep
 split at hstep <;> try cases hstep
 rename_i g hg
 unfold wpOp
 simp only [ho]
 split at hstep
 ·rename_i d bs0 rq0 orc2 j want hop hgd
  cases hlt:Nat.blt j i with
  | false=>simp [hlt] at hstep
  | true =>
   simp only [hlt,cond_true,Option.some.injEq,Prod.mk.injEq] at hstep
   obtain ⟨hV,rfl,rfl,rfl⟩:=hstep
   have hji:=XW hlt
   have hyj:∀ v,yielded ops (a.put o.dst v).tmps j=yielded ops a.tmps j:=fun v=>VZ fun t ht e=>by
    have:=Ws hnd (show (ops[i]?).bind (·.dst)=some t by rw [ho]; exact ht) e
    omega
   have hjl:listed.getD j false=true:=by
    rw [hgd] at hf2
    simp only at hf2
    obtain ⟨e,he,h1⟩:=Array.any_eq_true'.1 hf2
    simp only [Bool.and_eq_true] at h1
    rw [← Nat.eq_of_beq_eq_true h1.2]
    exact hall e he h1.1
   have hwant:Region.wanted o (yielded ops a.tmps)=(yielded ops a.tmps j==some want):=by simp [Region.wanted,hgd]
   have hvo:∀ j' w d',V i = .opt j' w d'→listed.getD j' false=true:=fun j' w d' h=>by rw [← hV] at h; cases h; exact hjl
   cases hw:Region.wanted o (yielded ops a.tmps) with
   | true =>
    simp only [if_true]
    refine .inl (WP hD.inv hops hgf hg hw (by rw [hD.H]; exact hop) hb hq fun v c' hI' haf=>?_)
    obtain ⟨hgo,_,htv⟩:=haf
    refine new v c' hI' hgo (fun d' hd'=>?_) hvo
    rw [← hd',← hV]
    refine .inl ⟨?_,htv⟩
    rw [hyj]
    rw [hw] at hwant
    simpa using hwant.symm
   | false =>
    simp only [Bool.false_eq_true,if_false]
    refine new undef c hD.inv (Goes.refl hD.inv) (fun d' hd'=>?_) hvo
    rw [← hd',← hV]
    refine .inr ⟨?_,rfl⟩
    rw [hyj]
    rw [hw] at hwant
    simpa using hwant.symm
 ·rename_i d bs0 rq0 orc2 hop hgd
  simp only [Option.some.injEq,Prod.mk.injEq] at hstep
  obtain ⟨hV,rfl,rfl,rfl⟩:=hstep
  have hw:Region.wanted o (yielded ops a.tmps)=true:=by simp [Region.wanted,hgd]
  simp only [hw,if_true]
  refine .inl (WP hD.inv hops hgf hg hw (by rw [hD.H]; exact hop) hb hq fun v c' hI' haf=>?_)
  obtain ⟨hgo,_,htv⟩:=haf
  refine new v c' hI' hgo (fun d' hd'=>?_) (fun j w d' h=>?_)
  ·rw [← hd',← hV]; exact X9 htv
  ·rw [← hV] at h
   subst h
   simp only [TV,AV] at htv
   exact absurd htv Qt
 ·cases hstep
end Nv
