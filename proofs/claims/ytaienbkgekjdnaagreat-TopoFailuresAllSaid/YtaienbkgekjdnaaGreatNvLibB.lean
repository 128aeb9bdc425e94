/- Part of the proof of TopoFailuresAll: the library of walks. No condition. -/
import Derived.Test.YtaienbkgekjdnaaGreatNvLibA
import Derived.KernelRfl
import Derived.ChangeArms
import Derived.ChangeOld
import Derived.DataReads
import Derived.SizedLaws
namespace Nv
open Go Go.RowKit
structure RS where
 env:List (Nat × D)
 H:List Ob
 orc:List Res
def putE (nt:Nat) (dst:Option Nat) (d:D) (env:List (Nat × D)):Option (List (Nat × D)) :=
 match dst with
 | none=>some env
 | some t=>bif Nat.blt t nt then some ((t,d) :: env) else none
def heapD (P:Program) (H:List Ob) (ρ:Operand→D) (op:Op):Option (D × List Ob × Option Nat × List Bool) :=
 match op with
 | .alloc t=>(allocD P H t).map fun r=>(r.1,r.2,none,[])
 | .box _ x=>(boxD H (ρ x)).map fun r=>(r.1,r.2,none,[])
 | .store t a x=>(storeD P H t (ρ a) (adj P t (ρ x))).map fun r=>(.any,r,none,[])
 | .makeSlice t l c=>(makeD P H t (ρ l) (ρ c)).map fun r=>(r.1,r.2.1,none,r.2.2)
 | .call { callee:=.builtin .append,args:=⟨[s,x]⟩,argTypes:=⟨[t,u]⟩ }=>bif Nat.beq t u then appD P H t (ρ s) (ρ x) else none
 | _=>none
theorem ZfG {P:Program} {F:Fr} {c:Ctx} (hI:Inv F c) {ρc:Operand→Value} {ρd:Operand→D} {o:Oper} (hρ:∀ x∈o.op.operands.toList,TV c (ρc x) (ρd x))
  {d:D} {H':List Ob} {pid:Option Nat} {bs:List Bool} (h:heapD P c.H ρd o.op=some (d,H',pid,bs)) (hb:∀ b∈bs,b=true):Turns P F c (execOp ρc o) d H' pid:=by
 obtain ⟨dst,op,type,pos,after,guard⟩:=o
 unfold heapD at h
 simp only at h hρ
 split at h
 ·rename_i t
  obtain ⟨r,hr,heq⟩:=Option.map_eq_some_iff.1 h
  simp only [Prod.mk.injEq] at heq
  obtain ⟨rfl,rfl,rfl,rfl⟩:=heq
  exact ZjW hI hr
 ·rename_i t x
  obtain ⟨r,hr,heq⟩:=Option.map_eq_some_iff.1 h
  simp only [Prod.mk.injEq] at heq
  obtain ⟨rfl,rfl,rfl,rfl⟩:=heq
  exact Zl7 hI hr (hρ x (by simp [Op.operands]))
 ·rename_i t a x
  obtain ⟨r,hr,heq⟩:=Option.map_eq_some_iff.1 h
  simp only [Prod.mk.injEq] at heq
  obtain ⟨rfl,rfl,rfl,rfl⟩:=heq
  exact ZjX hI hr (hρ a (by simp [Op.operands])) (KW (hρ x (by simp [Op.operands])))
 ·rename_i t l k
  obtain ⟨r,hr,heq⟩:=Option.map_eq_some_iff.1 h
  simp only [Prod.mk.injEq] at heq
  obtain ⟨rfl,rfl,rfl,rfl⟩:=heq
  exact ZkL hI hr hb (hρ l (by simp [Op.operands])) (hρ k (by simp [Op.operands]))
 ·rename_i s x t u
  cases htu:Nat.beq t u with
  | false=>simp [htu] at h
  | true =>
   simp only [htu,cond_true] at h
   obtain rfl:=Nat.eq_of_beq_eq_true htu
   obtain ⟨v,c',h1,h2⟩:=Zjm (ty:=type) hI h hb (hρ s (by simp [Op.operands,Call.operands])) (hρ x (by simp [Op.operands,Call.operands]))
   refine ⟨v,c',?_,h2⟩
   simpa [execOp,resolve,invoke,builtin] using h1
 ·cases h
def heapF (P:Program) (H:List Ob) (ρ:Operand→D) (op:Op):Option (D × List Ob × Option Nat × List Bool) :=
 match heapD P H ρ op with
 | some r=>some r
 | none=>match op with
  | .call { callee:=.builtin .append,args:=⟨[s,x]⟩,argTypes:=⟨[t,u]⟩ }=>bif Nat.beq t u then appF P H t (ρ s) (ρ x) else none
  | _=>none
theorem ZdB {P:Program} {F:Fr} {c:Ctx} (hI:Inv F c) {ρc:Operand→Value} {ρd:Operand→D} {o:Oper} (hρ:∀ x∈o.op.operands.toList,TV c (ρc x) (ρd x))
  {d:D} {H':List Ob} {pid:Option Nat} {bs:List Bool} (h:heapF P c.H ρd o.op=some (d,H',pid,bs)) (hb:∀ b∈bs,b=true):Turns P F c (execOp ρc o) d H' pid:=by
 unfold heapF at h
 split at h
 ·rename_i r hr
  cases h
  exact ZfG hI hρ hr hb
 ·obtain ⟨dst,op,type,pos,after,guard⟩:=o
  simp only at h hρ
  split at h
  ·rename_i s x t u _
   cases htu:Nat.beq t u with
   | false=>simp [htu] at h
   | true =>
    simp only [htu,cond_true] at h
    obtain rfl:=Nat.eq_of_beq_eq_true htu
    obtain ⟨v,c',h1,h2⟩:=Zl8 (ty:=type) hI h hb (hρ s (by simp [Op.operands,Call.operands])) (hρ x (by simp [Op.operands,Call.operands]))
    refine ⟨v,c',?_,h2⟩
    simpa [execOp,resolve,invoke,builtin] using h1
  ·cases h
def stepS (P:Program) (nt:Nat) (ops:Array Oper) (k:Nat) (s:RS) (o:Oper):Option (RS × List Bool × List Req) :=
 match gEval ops s.env (gch ops 20 o.guard) with
 | none=>none
 | some g=>match opD P s.H ops s.env (gch ops 20 o.guard) s.orc g o,o.guard with
  | some (.pure d,bs,rq,orc'),some (j,want)=>bif Nat.blt j k then (putE nt o.dst (.opt j want d) s.env).map fun e=>(⟨e,s.H,orc'⟩,bs,rq) else none
  | some (.pure d,bs,rq,orc'),none=>(putE nt o.dst d s.env).map fun e=>(⟨e,s.H,orc'⟩,bs,rq)
  | some (.own wd n f,bs,rq,orc'),none=>(putE nt o.dst (.asl s.H.length 0 n) s.env).map fun e=>(⟨e,s.H++[.arr wd n f],orc'⟩,bs,rq)
  | none,none=>match appPD P s.H (fun x=>unwrap [] (evD s.env x)) o.op with
   | some (d,bs)=>(putE nt o.dst d s.env).map fun e=>(⟨e,s.H,s.orc⟩,bs,[])
   | none=>match clrD P s.H (fun x=>unwrap [] (evD s.env x)) o.op with
    | some H'=>(putE nt o.dst .any s.env).map fun e=>(⟨e,H',s.orc⟩,[],[])
    | none=>match heapF P s.H (fun x=>unwrap [] (evD s.env x)) o.op with
     | some (d,H',pid,bs)=>(putE nt o.dst d (s.env.map fun p=>(p.1,purge pid p.2))).map fun e=>(⟨e,H',s.orc⟩,bs,[])
     | none=>match lendD P s.H (fun x=>unwrap [] (evD s.env x)) s.orc o.op with
      | some (d,H',rq,orc')=>(putE nt o.dst d s.env).map fun e=>(⟨e,H',orc'⟩,[],rq)
      | none=>none
  | _,_=>none
def runS (P:Program) (nt:Nat) (ops:Array Oper):Nat→List Oper→RS→Option (RS × List Bool × List Req)
 | _,[],s=>some (s,[],[])
 | k,o :: l,s=>match stepS P nt ops k s o with
  | some (s1,bs,rq)=>match runS P nt ops (k+1) l s1 with
   | some (s2,bs',rq')=>some (s2,bs++bs',rq++rq')
   | none=>none
  | none=>none
def nodupD:List (Option Nat)→Bool
 | []=>true
 | none :: r=>nodupD r
 | some t :: r=>!(r.any fun u=>match u with | some u=>Nat.beq u t | none=>false)&&nodupD r
theorem Zbv:∀ (l:List (Option Nat)),nodupD l=true→∀ (i j t:Nat),l[i]? = some (some t)→l[j]? = some (some t)→i=j
 | [],_,i,j,t,h1,_=>by simp at h1
 | none :: r,h,0,j,t,h1,_=>by simp at h1
 | none :: r,h,i+1,0,t,_,h2=>by simp at h2
 | none :: r,h,i+1,j+1,t,h1,h2=>by
  have:=Zbv r h i j t (by simpa using h1) (by simpa using h2)
  omega
 | some u :: r,h,0,0,t,_,_=>rfl
 | some u :: r,h,0,j+1,t,h1,h2=>by
  simp only [nodupD,Bool.and_eq_true,Bool.not_eq_true'] at h
  simp only [List.getElem?_cons_zero,Option.some.injEq] at h1
  subst h1
  have:=List.any_eq_false.1 h.1 (some u) (List.mem_of_getElem? (by simpa using h2))
  simp at this
 | some u :: r,h,i+1,0,t,h1,h2=>by
  simp only [nodupD,Bool.and_eq_true,Bool.not_eq_true'] at h
  simp only [List.getElem?_cons_zero,Option.some.injEq] at h2
  subst h2
  have:=List.any_eq_false.1 h.1 (some u) (List.mem_of_getElem? (by simpa using h1))
  simp at this
 | some u :: r,h,i+1,j+1,t,h1,h2=>by
  simp only [nodupD,Bool.and_eq_true] at h
  have:=Zbv r h.2 i j t (by simpa using h1) (by simpa using h2)
  omega
def dstsB (ops:Array Oper):Bool:=nodupD (ops.toList.map (·.dst))
theorem Ws {ops:Array Oper} (h:dstsB ops=true) {i j t:Nat} (h1:(ops[i]?).bind (·.dst)=some t) (h2:(ops[j]?).bind (·.dst)=some t):i=j:=by
 have key:∀ (i:Nat),(ops[i]?).bind (·.dst)=some t→(ops.toList.map (·.dst))[i]? = some (some t):=fun i h=>by
  obtain ⟨o,ho,hd⟩:=Option.bind_eq_some_iff.1 h
  simp [ho,hd]
 exact Zbv _ h i j t (key i h1) (key j h2)
theorem VZ {ops:Array Oper} {a:Act} {dst:Option Nat} {v:Value} {j:Nat} (h:∀ t,dst=some t→(ops[j]?).bind (·.dst) ≠ some t) :
  yielded ops (a.put dst v).tmps j=yielded ops a.tmps j:=by
 cases dst with
 | none=>rfl
 | some t =>
  unfold yielded
  cases hd:(ops[j]?).bind (·.dst) with
  | none=>rfl
  | some u =>
   have hne:t ≠ u:=fun e=>h t rfl (by rw [hd,e])
   simp [Act.put,Array.getElem?_setIfInBounds_ne hne]
theorem GK {a:Act} {dst:Option Nat} {v:Value} {t:Nat} (h:dst ≠ some t):(a.put dst v).tmps.getD t undef=a.tmps.getD t undef:=by
 cases dst with
 | none=>rfl
 | some u =>
  have hne:u ≠ t:=fun e=>h (by rw [e])
  simp [Act.put,Array.getElem?_setIfInBounds_ne hne]
theorem WA {a:Act} {v:Value} {t:Nat} (h:t < a.tmps.size):(a.put (some t) v).tmps.getD t undef=v:=by
 simp [Act.put,h]
theorem G6 {a:Act} {dst:Option Nat} {v:Value}:(a.put dst v).tmps.size=a.tmps.size:=by
 cases dst <;> simp [Act.put]
theorem UQ {a:Act} {dst:Option Nat} {v:Value}:(a.put dst v).defers=a.defers:=by
 cases dst <;> rfl
structure RInv (F:Fr) (nt:Nat) (ops:Array Oper) (k:Nat) (s:RS) (a:Act) (c:Ctx):Prop where
 H:c.H=s.H
 inv:Inv F c
 env:∀ t,GV (yielded ops a.tmps) c (a.tmps.getD t undef) (find s.env t)
 size:a.tmps.size=nt
 defers:a.defers=[]
 idx:∀ t j w d,find s.env t = .opt j w d→j < k
theorem X9 {y:Nat→Option Bool} {c:Ctx} {v:Value} {d:D} (h:TV c v d):GV y c v d:=by
 cases d <;> try exact h
 exact absurd h (by intro h; simp only [TV,AV] at h; exact Qt h)
theorem GL {y:Nat→Option Bool} {c c':Ctx} (h:∀ u e,TV c u e→TV c' u e) {v:Value} {d:D} (hv:GV y c v d):GV y c' v d:=by
 cases d <;> simp only [GV] at hv ⊢ <;> first | exact h _ _ hv | exact hv.imp (fun ⟨x,y⟩=>⟨x,h _ _ y⟩) id
theorem Zh2 {y:Nat→Option Bool} {c c':Ctx} {pid:Option Nat} (h:∀ u e,TV c u e→TV c' u (purge pid e)) {v:Value} {d:D} (hv:GV y c v d):GV y c' v (purge pid d):=by
 cases pid with
 | none=>exact GL h hv
 | some id =>
  cases d with
  | opt j w d=>exact X9 WS
  | _=>simp only [GV] at hv; exact X9 (h _ _ hv)
theorem Ga {F:Fr} {nt:Nat} {ops:Array Oper} {k:Nat} {s:RS} {a:Act} {c:Ctx} (h:RInv F nt ops k s a c) (x:Operand):GV (yielded ops a.tmps) c (a.eval x) (evD s.env x):=by
 cases x with
 | tmp t=>exact h.env t
 | const v=>exact X9 (Zbk c v)
 | global g=>exact X9 WS
 | func f=>exact X9 ⟨#[],rfl,rfl,fun i v d h1 _=>by simp at h1⟩
theorem WQ {F:Fr} {nt:Nat} {ops:Array Oper} (hnd:dstsB ops=true) {k:Nat} {s:RS} {a:Act} {c c':Ctx} (h:RInv F nt ops k s a c) {o:Oper} (ho:ops[k]? = some o)
  (hI:Inv F c') {env':List (Nat × D)} (henv:∀ t v,GV (yielded ops a.tmps) c v (find s.env t)→GV (yielded ops a.tmps) c' v (find env' t)) (hidx:∀ t j w d,find env' t = .opt j w d→j < k)
  {d:D} {e:List (Nat × D)} {H':List Ob} {orc':List Res} (he:putE nt o.dst d env'=some e) (hH:c'.H=H') {v:Value} (hv:GV (yielded ops (a.put o.dst v).tmps) c' v d) (hd:∀ j w d',d = .opt j w d'→j < k) :
  RInv F nt ops (k+1) ⟨e,H',orc'⟩ (a.put o.dst v) c':=by
 have hko:∀ t,o.dst=some t→(ops[k]?).bind (·.dst)=some t:=fun t ht=>by rw [ho]; exact ht
 have hy:∀ j,j < k→yielded ops (a.put o.dst v).tmps j=yielded ops a.tmps j:=fun j hj=>VZ fun t ht e=>by
  have:=Ws hnd (hko t ht) e
  omega
 have keep:∀ t u,GV (yielded ops a.tmps) c' u (find env' t)→GV (yielded ops (a.put o.dst v).tmps) c' u (find env' t):=fun t u hu=>by
  cases hf:find env' t <;> rw [hf] at hu <;> try exact hu
  rename_i j w d'
  simp only [GV] at hu ⊢
  rw [hy j (hidx t j w d' hf)]
  exact hu
 unfold putE at he
 split at he
 ·rename_i hdst
  simp only [Option.some.injEq] at he
  subst he
  refine ⟨hH,hI,fun t=>?_,by rw [G6]; exact h.size,by rw [UQ]; exact h.defers,fun t j w d hf=>Nat.lt_succ_of_lt (hidx t j w d hf)⟩
  rw [GK (by rw [hdst]; simp)]
  exact keep t _ (henv t _ (h.env t))
 ·rename_i t0 hdst
  cases hlt:Nat.blt t0 nt with
  | false=>simp [hlt] at he
  | true =>
   simp only [hlt,cond_true,Option.some.injEq] at he
   subst he
   have hlt':=XW hlt
   refine ⟨hH,hI,fun t=>?_,by rw [G6]; exact h.size,by rw [UQ]; exact h.defers,fun t j w d' hf=>?_⟩
   ·simp only [find]
    cases ht:Nat.beq t0 t with
    | true =>
     obtain rfl:=Nat.eq_of_beq_eq_true ht
     simp only [cond_true]
     rw [hdst] at hv ⊢
     rw [WA (by rw [h.size]; exact hlt')]
     exact hv
    | false =>
     simp only [cond_false]
     have hne:t0 ≠ t:=Nat.ne_of_beq_eq_false ht
     rw [GK (by rw [hdst]; simpa using hne)]
     exact keep t _ (henv t _ (h.env t))
   ·simp only [find] at hf
    cases ht:Nat.beq t0 t with
    | true=>simp only [ht,cond_true] at hf; exact Nat.lt_succ_of_lt (hd j w d' hf)
    | false=>simp only [ht,cond_false] at hf; exact Nat.lt_succ_of_lt (hidx t j w d' hf)
theorem Kx (pid:Option Nat):∀ (env:List (Nat × D)) (t:Nat),find (env.map fun p=>(p.1,purge pid p.2)) t=purge pid (find env t)
 | [],t=>by
  simp only [List.map_nil,find]
  cases pid <;> rfl
 | (u,d) :: r,t=>by
  simp only [List.map_cons,find]
  cases Nat.beq u t with
  | true=>rfl
  | false=>simp only [cond_false]; exact Kx pid r t
theorem ZcN {pid:Option Nat} {d d':D} {j:Nat} {w:Bool} (h:purge pid d = .opt j w d'):pid=none∧d = .opt j w d':=by
 unfold purge at h
 split at h
 ·exact ⟨rfl,h⟩
 ·rename_i id
  cases hm:mt id d with
  | true=>simp [hm] at h
  | false=>simp only [hm,cond_false] at h; subst h; simp [mt] at hm
theorem ZgM {P:Program} {F:Fr} [GF P F] {nt:Nat} {ops:Array Oper} (hnd:dstsB ops=true) {Q:Exit→Act→World→Prop}:∀ (l:List Oper) (k:Nat) (s s':RS) (bs:List Bool) (rq:List Req),(∀ (j:Nat),l[j]? = ops[k+j]?) →
  runS P nt ops k l s=some (s',bs,rq)→(∀ b∈bs,b=true)→(∀ q∈rq,q.ok P)→∀ (a:Act) (c:Ctx),RInv F nt ops k s a c →
  (∀ a' c',RInv F nt ops (k+l.length) s' a' c'→Q .normal a' c'.w)→wpOps P ops Q (List.range' k l.length) a c.w
 | [],k,s,s',bs,rq,_,h,_,_,a,c,hR,hQ=>by
  simp only [runS,Option.some.injEq,Prod.mk.injEq] at h
  obtain ⟨rfl,rfl,rfl⟩:=h
  exact hQ a c hR
 | o :: l,k,s,s',bs,rq,hl,h,hb,hq,a,c,hR,hQ=>by
  have ho:ops[k]? = some o:=by simpa using (hl 0).symm
  simp only [runS] at h
  split at h <;> try cases h
  rename_i s1 b1 r1 hstep
  split at h <;> try cases h
  rename_i s2 b2 r2 hrun
  simp only [List.length_cons,List.range'_succ,wpOps,ho]
  have next:∀ a' c',RInv F nt ops (k+1) s1 a' c'→wpOps P ops Q (List.range' (k+1) l.length) a' c'.w:=fun a' c' hR' =>
   ZgM hnd l (k+1) s1 s' b2 r2 (fun j=>by have:=hl (j+1); simpa [Nat.add_assoc,Nat.add_comm 1 j] using this) hrun (fun b hb'=>hb b (List.mem_append_right _ hb')) (fun q hq'=>hq q (List.mem_append_right _ hq')) a' c' hR'
    (fun a'' c'' h''=>hQ a'' c'' (by rw [List.length_cons,show k+(l.length+1)=k+1+l.length by omega]; exact h''))
  have hb1:∀ b∈b1,b=true:=fun b hb'=>hb b (List.mem_append_left _ hb')
  have hq1:∀ q∈r1,q.ok P:=fun q hq'=>hq q (List.mem_append_left _ hq')
  have hidx0:∀ t j w d,find s.env t = .opt j w d→j < k:=hR.idx
  unfold stepS at hstep
  split at hstep <;> try cases hstep
  rename_i g hg
  have hgf:GuardFacts ops a c s.env (gch ops 20 o.guard):=fun p _ t _=>hR.env t
  split at hstep
  ·rename_i d bs0 rq0 orc0 j want hop hgd
   cases hlt:Nat.blt j k with
   | false=>simp [hlt] at hstep
   | true =>
    simp only [hlt,cond_true] at hstep
    obtain ⟨e,he,heq⟩:=Option.map_eq_some_iff.1 hstep
    simp only [Prod.mk.injEq] at heq
    obtain ⟨rfl,rfl,rfl⟩:=heq
    have hjk:=XW hlt
    have hyj:∀ v,yielded ops (a.put o.dst v).tmps j=yielded ops a.tmps j:=fun v=>VZ fun t ht e=>by
     have:=Ws hnd (show (ops[k]?).bind (·.dst)=some t by rw [ho]; exact ht) e
     omega
    have hwant:Region.wanted o (yielded ops a.tmps)=(yielded ops a.tmps j==some want):=by simp [Region.wanted,hgd]
    cases hw:Region.wanted o (yielded ops a.tmps) with
    | true =>
     simp only [if_true]
     refine .inl (WP hR.inv (fun x _=>Ga hR x) hgf hg hw (by rw [hR.H]; exact hop) hb1 hq1 fun v c' hI' haf=>?_)
     obtain ⟨hgo,_,htv⟩:=haf
     refine next _ c' (WQ hnd hR ho hI' (fun t v hv=>hgo.gv hv) hidx0 he (by rw [hgo.H]; exact hR.H) (.inl ⟨?_,htv⟩) (fun j' w' d' e=>by cases e; exact hjk))
     rw [hyj]
     rw [hw] at hwant
     simpa using hwant.symm
    | false =>
     simp only [Bool.false_eq_true,if_false]
     refine next _ c (WQ hnd hR ho hR.inv (fun t v hv=>hv) hidx0 he hR.H (.inr ⟨?_,rfl⟩) (fun j' w' d' e=>by cases e; exact hjk))
     rw [hyj]
     rw [hw] at hwant
     simpa using hwant.symm
  ·rename_i d bs0 rq0 orc0 hop hgd
   obtain ⟨e,he,heq⟩:=Option.map_eq_some_iff.1 hstep
   simp only [Prod.mk.injEq] at heq
   obtain ⟨rfl,rfl,rfl⟩:=heq
   have hw:Region.wanted o (yielded ops a.tmps)=true:=by simp [Region.wanted,hgd]
   simp only [hw,if_true]
   refine .inl (WP hR.inv (fun x _=>Ga hR x) hgf hg hw (by rw [hR.H]; exact hop) hb1 hq1 fun v c' hI' haf=>?_)
   obtain ⟨hgo,_,htv⟩:=haf
   refine next _ c' (WQ hnd hR ho hI' (fun t v hv=>hgo.gv hv) hidx0 he (by rw [hgo.H]; exact hR.H) (X9 htv) (fun j' w' d' e=>?_))
   subst e
   simp only [TV,AV] at htv
   exact absurd htv Qt
  ·rename_i wd n f bs0 rq0 orc0 hop hgd
   obtain ⟨e,he,heq⟩:=Option.map_eq_some_iff.1 hstep
   simp only [Prod.mk.injEq] at heq
   obtain ⟨rfl,rfl,rfl⟩:=heq
   have hw:Region.wanted o (yielded ops a.tmps)=true:=by simp [Region.wanted,hgd]
   simp only [hw,if_true]
   refine .inl (WP hR.inv (fun x _=>Ga hR x) hgf hg hw (by rw [hR.H]; exact hop) hb1 hq1 fun v c' hI' haf=>?_)
   obtain ⟨hH',htr,htv⟩:=haf
   refine next _ c' (WQ hnd hR ho hI' (fun t v hv=>GL htr hv) hidx0 he (by rw [hH',hR.H]) (X9 (by rw [← hR.H]; exact htv)) (fun j' w' d' e=>by cases e))
  ·rename_i hop hgd
   split at hstep
   ·rename_i d bs0 hap
    obtain ⟨e,he,heq⟩:=Option.map_eq_some_iff.1 hstep
    simp only [Prod.mk.injEq] at heq
    obtain ⟨rfl,rfl,rfl⟩:=heq
    have hw:Region.wanted o (yielded ops a.tmps)=true:=by simp [Region.wanted,hgd]
    simp only [hw,if_true]
    have hρ:∀ x∈o.op.operands.toList,TV c (a.eval x) (unwrap [] (evD s.env x)):=fun x _=>WV (a:=a) (ops:=ops) (by simp) (Ga hR x)
    obtain ⟨v,c',hrun',hI',hgo,_,htv⟩:=ZhX (ρc:=a.eval) hR.inv hρ (by rw [hR.H]; exact hap) hb1
    refine .inl ?_
    unfold Oper.wp
    rw [hrun']
    refine next _ c' (WQ hnd hR ho hI' (fun t v hv=>hgo.gv hv) hidx0 he (by rw [hgo.H]; exact hR.H) (X9 htv) (fun j' w' d' e=>?_))
    subst e
    simp only [TV,AV] at htv
    exact absurd htv Qt
   split at hstep
   ·rename_i H' hcl
    obtain ⟨e,he,heq⟩:=Option.map_eq_some_iff.1 hstep
    simp only [Prod.mk.injEq] at heq
    obtain ⟨rfl,rfl,rfl⟩:=heq
    have hw:Region.wanted o (yielded ops a.tmps)=true:=by simp [Region.wanted,hgd]
    simp only [hw,if_true]
    have hρ:∀ x∈o.op.operands.toList,TV c (a.eval x) (unwrap [] (evD s.env x)):=fun x _=>WV (a:=a) (ops:=ops) (by simp) (Ga hR x)
    obtain ⟨v,c',hrun',hI',hH',htr,htv⟩:=Zjn (ρc:=a.eval) hR.inv hρ (by rw [hR.H]; exact hcl)
    have hfin0:=next (a.put o.dst v) c' (WQ hnd hR ho hI' (fun t v hv=>GL htr hv) hidx0 he hH' (X9 htv) (fun j' w' d' e=>by cases e))
    refine .inl ?_
    unfold Oper.wp
    rcases hrun' with h1 | ⟨h1,rfl⟩
    ·rw [h1]; exact hfin0
    ·rw [h1]; exact hfin0
   split at hstep
   case h_2 =>
    split at hstep <;> try cases hstep
    rename_i d H' rq0 orc0 hlend
    obtain ⟨e,he,heq⟩:=Option.map_eq_some_iff.1 hstep
    simp only [Prod.mk.injEq] at heq
    obtain ⟨rfl,rfl,rfl⟩:=heq
    have hw:Region.wanted o (yielded ops a.tmps)=true:=by simp [Region.wanted,hgd]
    simp only [hw,if_true]
    have hρ:∀ x∈o.op.operands.toList,TV c (a.eval x) (unwrap [] (evD s.env x)):=fun x _=>WV (a:=a) (ops:=ops) (by simp) (Ga hR x)
    refine .inl (Zjr hR.inv hρ (by rw [hR.H]; exact hlend) hq1 fun v c' hI' hH' htr htv=>?_)
    refine next _ c' (WQ hnd hR ho hI' (fun t v hv=>GL htr hv) hidx0 he hH' (X9 htv) (fun j' w' d' e=>?_))
    subst e
    simp only [TV,AV] at htv
    exact absurd htv Qt
   rename_i d H' pid bs0 hheap
   obtain ⟨e,he,heq⟩:=Option.map_eq_some_iff.1 hstep
   simp only [Prod.mk.injEq] at heq
   obtain ⟨rfl,rfl,rfl⟩:=heq
   have hw:Region.wanted o (yielded ops a.tmps)=true:=by simp [Region.wanted,hgd]
   simp only [hw,if_true]
   have hρ:∀ x∈o.op.operands.toList,TV c (a.eval x) (unwrap [] (evD s.env x)):=fun x _=>WV (a:=a) (ops:=ops) (by simp) (Ga hR x)
   obtain ⟨v,c',hrun',hI',hH',htr,htv⟩:=ZdB (ρc:=a.eval) hR.inv hρ (by rw [hR.H]; exact hheap) hb1
   have hfin:wpOps P ops Q (List.range' (k+1) l.length) (a.put o.dst v) c'.w:=by
    refine next _ c' (WQ hnd hR ho hI' (fun t v hv=>?_) (fun t j w d hf=>?_) he hH' (X9 htv) (fun j' w' d' e=>?_))
    ·rw [Kx]
     exact Zh2 htr hv
    ·rw [Kx] at hf
     exact hidx0 t j w d (ZcN hf).2
    ·subst e
     simp only [TV,AV] at htv
     exact absurd htv Qt
   refine .inl ?_
   unfold Oper.wp
   rcases hrun' with h1 | ⟨h1,rfl⟩
   ·rw [h1]; exact hfin
   ·rw [h1]; exact hfin
  ·cases hstep
end Nv
namespace Nv
open Go Go.RowKit
def Waits (ops:Array Oper) (i j:Nat):Prop:=∃ o,ops[i]? = some o∧∃ e∈o.after,Region.binds .any e=true∧e.on=j
inductive Reach (ops:Array Oper):Nat→Nat→Prop
 | one {i j:Nat} (h:Waits ops i j):Reach ops i j
 | step {i j k:Nat} (h:Waits ops i j) (r:Reach ops j k):Reach ops i k
def maskOf (acc:Array Nat) (o:Oper):Nat:=o.after.foldl (fun s e=>if Region.binds .any e then s ||| 2 ^ e.on ||| acc.getD e.on 0 else s) 0
theorem ZgN (acc:Array Nat):∀ (l:List Edge) (s0 k:Nat),(l.foldl (fun s e=>if Region.binds .any e then s ||| 2 ^ e.on ||| acc.getD e.on 0 else s) s0).testBit k=true →
  s0.testBit k=true∨∃ e∈l,Region.binds .any e=true∧(e.on=k∨(acc.getD e.on 0).testBit k=true)
 | [],s0,k,h=>.inl h
 | e :: l,s0,k,h=>by
  simp only [List.foldl_cons] at h
  rcases ZgN acc l _ k h with h1 | ⟨e',he',h2⟩
  ·split at h1
   ·rename_i hb
    simp only [Nat.testBit_or,Bool.or_eq_true,Nat.testBit_two_pow,decide_eq_true_eq] at h1
    rcases h1 with (h1 | h1) | h1
    ·exact .inl h1
    ·exact .inr ⟨e,List.mem_cons_self,hb,.inl h1⟩
    ·exact .inr ⟨e,List.mem_cons_self,hb,.inr h1⟩
   ·exact .inl h1
  ·exact .inr ⟨e',List.mem_cons_of_mem _ he',h2⟩
theorem ZkT {acc:Array Nat} {o:Oper} {k:Nat} (h:(maskOf acc o).testBit k=true):∃ e∈o.after,Region.binds .any e=true∧(e.on=k∨(acc.getD e.on 0).testBit k=true):=by
 unfold maskOf at h
 rw [← Array.foldl_toList] at h
 rcases ZgN acc o.after.toList 0 k h with h1 | ⟨e,he,h2⟩
 ·simp at h1
 ·exact ⟨e,Array.mem_toList_iff.1 he,h2⟩
theorem ZeN:∀ (l:List Oper) (acc:Array Nat),∃ out:Array Nat,l.foldl (fun acc o=>acc.push (maskOf acc o)) acc=out∧out.size=acc.size+l.length ∧
  (∀ j,j < acc.size→out.getD j 0=acc.getD j 0)∧(∀ (i:Nat) (o:Oper),l[i]? = some o→∃ pre:Array Nat,pre.size=acc.size+i∧(∀ j,j < pre.size→pre.getD j 0=out.getD j 0)∧out.getD (acc.size+i) 0=maskOf pre o)
 | [],acc=>⟨acc,rfl,by simp,fun _ _=>rfl,fun i o h=>by simp at h⟩
 | o :: l,acc=>by
  obtain ⟨out,h1,h2,h3,h4⟩:=ZeN l (acc.push (maskOf acc o))
  refine ⟨out,by rw [List.foldl_cons]; exact h1,by rw [h2]; simp; omega,fun j hj=>?_,fun i o' hi=>?_⟩
  ·rw [h3 j (by simp; omega)]
   simp [Array.getElem?_push,hj,Nat.ne_of_lt hj]
  ·cases i with
   | zero =>
    simp at hi
    subst hi
    refine ⟨acc,rfl,fun j hj=>?_,?_⟩
    ·rw [h3 j (by simp; omega)]
     simp [Array.getElem?_push,hj,Nat.ne_of_lt hj]
    ·rw [h3 _ (by simp)]
     simp
   | succ i =>
    obtain ⟨pre,hp1,hp2,hp3⟩:=h4 i o' (by simpa using hi)
    refine ⟨pre,by rw [hp1]; simp; omega,hp2,?_⟩
    rw [← hp3]
    congr 1
    simp
    omega
theorem YW (ops:Array Oper):∀ (i k:Nat),i < ops.size→((Region.before ops).getD i 0).testBit k=true→Reach ops i k:=by
 obtain ⟨out,h1,h2,h3,h4⟩:=ZeN ops.toList #[]
 have hb:Region.before ops=out:=by
  unfold Region.before
  rw [← Array.foldl_toList]
  exact h1
 rw [hb]
 intro i
 induction i using Nat.strongRecOn with
 | _ i ih =>
  intro k hi hk
  obtain ⟨pre,hp1,hp2,hp3⟩:=h4 i ops[i] (by simp [hi])
  simp only [Array.size_empty,Nat.zero_add] at hp1 hp3
  rw [hp3] at hk
  obtain ⟨e,he,hbi,hor⟩:=ZkT hk
  have hw:Waits ops i e.on:=⟨ops[i],by simp [hi],e,he,hbi,rfl⟩
  rcases hor with rfl | hor
  ·exact .one hw
  ·have hlt:e.on < i:=by
    rcases Nat.lt_or_ge e.on pre.size with h | h
    ·omega
    ·simp [Array.getElem?_eq_none h] at hor
   rw [hp2 _ (by omega)] at hor
   exact .step hw (ih e.on hlt k (by omega) hor)
def needs (ops:Array Oper) (o:Oper):List Nat :=
 (o.op.operands.toList.filterMap fun | .tmp t=>some t | _=>none)++((gch ops 20 o.guard).filterMap fun p=>(ops[p.1]?).bind (·.dst))
def flowAt (ops:Array Oper) (M:Array Nat) (i:Nat) (o:Oper):Bool :=
 o.after.all (fun e=>!Region.binds .any e||Nat.blt e.on i) &&
 (match o.guard with | none=>true | some (j,_)=>o.after.any fun e=>Region.binds .any e&&Nat.beq e.on j) &&
 ((needs ops o).all fun t=>ops.toList.zipIdx.all fun p=>match p.1.dst with
  | some u=>!Nat.beq u t||Nat.beq p.2 i||(Nat.blt p.2 i&&(M.getD i 0).testBit p.2)||(Nat.blt i p.2&&(M.getD p.2 0).testBit i)
  | none=>true)
def flowB (ops:Array Oper):Bool :=
 dstsB ops&&(let M:=Region.before ops; ops.toList.zipIdx.all fun p=>flowAt ops M p.2 p.1)
def stepDr (P:Program) (ops:Array Oper) (k:Nat) (H:List Ob) (env:List (Nat × D)) (orc:List Res) (o:Oper):Option (D × List Bool × List Req × List Res) :=
 match gEval ops env (gch ops 20 o.guard) with
 | none=>none
 | some g=>match opD P H ops env (gch ops 20 o.guard) orc g o,o.guard with
  | some (.pure d,bs,rq,orc'),some (j,want)=>bif Nat.blt j k then some (.opt j want d,bs,rq,orc') else none
  | some (.pure d,bs,rq,orc'),none=>some (d,bs,rq,orc')
  | _,_=>none
def runDr (P:Program) (nt:Nat) (ops:Array Oper) (H:List Ob):Nat→List Oper→List (Nat × D)→List Res→Option (List (Nat × D) × List Bool × List Req × List Res)
 | _,[],env,orc=>some (env,[],[],orc)
 | k,o :: l,env,orc=>match stepDr P ops k H env orc o with
  | some (d,bs,rq,orc1)=>match putE nt o.dst d env with
   | some e=>match runDr P nt ops H (k+1) l e orc1 with
    | some (e',bs',rq',orc')=>some (e',bs++bs',rq++rq',orc')
    | none=>none
   | none=>none
  | none=>none
structure Trace (P:Program) (nt:Nat) (ops:Array Oper) (H:List Ob) (bs:List Bool) (rq:List Req) (k n:Nat) (E:Nat→List (Nat × D)) (V:Nat→D):Prop where
 step:∀ i,k≤i→i < n→∃ o orc b r orc',ops[i]? = some o∧stepDr P ops i H (E i) orc o=some (V i,b,r,orc')∧(∀ x∈b,x∈bs)∧(∀ x∈r,x∈rq)
 put:∀ i,k≤i→i < n→∃ o,ops[i]? = some o∧putE nt o.dst (V i) (E i)=some (E (i+1))
theorem ZfH {P:Program} {nt:Nat} {ops:Array Oper} {H:List Ob}:∀ (l:List Oper) (k:Nat) (env env':List (Nat × D)) (orc orc':List Res) (bs:List Bool) (rq:List Req),(∀ (j:Nat),l[j]? = ops[k+j]? ∨ l.length≤j) →
  runDr P nt ops H k l env orc=some (env',bs,rq,orc')→∃ E V,E k=env∧E (k+l.length)=env'∧Trace P nt ops H bs rq k (k+l.length) E V
 | [],k,env,env',orc,orc',bs,rq,_,h=>by
  simp only [runDr,Option.some.injEq,Prod.mk.injEq] at h
  obtain ⟨rfl,rfl,rfl,rfl⟩:=h
  exact ⟨fun _=>env,fun _=>.any,rfl,rfl,⟨fun i h1 h2=>by simp at h2; omega,fun i h1 h2=>by simp at h2; omega⟩⟩
 | o :: l,k,env,env',orc,orc',bs,rq,hl,h=>by
  simp only [runDr] at h
  split at h <;> try cases h
  rename_i d b1 r1 orc1 hs
  split at h <;> try cases h
  rename_i e he
  split at h <;> try cases h
  rename_i b2 r2 hr
  have ho:ops[k]? = some o:=by
   rcases hl 0 with h1 | h1
   ·simpa using h1.symm
   ·simp at h1
  obtain ⟨E,V,hE,hE',hT⟩:=ZfH l (k+1) e env' orc1 orc' b2 r2 (fun j=>by
   rcases hl (j+1) with h1 | h1
   ·left; simpa [Nat.add_assoc,Nat.add_comm 1 j] using h1
   ·right; simp at h1; exact h1) hr
  refine ⟨fun i=>if i=k then env else E i,fun i=>if i=k then d else V i,by simp,?_,⟨fun i h1 h2=>?_,fun i h1 h2=>?_⟩⟩
  ·simp only [List.length_cons]
   rw [if_neg (by omega),show k+(l.length+1)=k+1+l.length by omega]
   exact hE'
  ·by_cases hik:i=k
   ·subst hik
    simp only [if_true]
    exact ⟨o,orc,b1,r1,orc1,ho,hs,fun x hx=>List.mem_append_left _ hx,fun x hx=>List.mem_append_left _ hx⟩
   ·simp only [if_neg hik]
    obtain ⟨o',orc',b,r,orc'',h3,h4,h5,h6⟩:=hT.step i (by omega) (by simp at h2; omega)
    exact ⟨o',orc',b,r,orc'',h3,h4,fun x hx=>List.mem_append_right _ (h5 x hx),fun x hx=>List.mem_append_right _ (h6 x hx)⟩
  ·by_cases hik:i=k
   ·subst hik
    simp only [if_true]
    rw [if_neg (by omega)]
    exact ⟨o,ho,by rw [hE]; exact he⟩
   ·simp only [if_neg hik]
    rw [if_neg (by omega)]
    exact hT.put i (by omega) (by simp at h2; omega)
open Classical in
noncomputable def valL (ops:Array Oper) (V:Nat→D) (env:List (Nat × D)) (L:Nat→Prop) (t:Nat):D :=
 if h:∃ i,(ops[i]?).bind (·.dst)=some t∧L i then V h.choose else find env t
theorem Vn {ops:Array Oper} (hnd:dstsB ops=true) {V:Nat→D} {env:List (Nat × D)} {L:Nat→Prop} {t i:Nat} (h1:(ops[i]?).bind (·.dst)=some t) (h2:L i):valL ops V env L t=V i:=by
 unfold valL
 have h:∃ i,(ops[i]?).bind (·.dst)=some t∧L i:=⟨i,h1,h2⟩
 rw [dif_pos h]
 rw [Ws hnd h.choose_spec.1 h1]
theorem WW {ops:Array Oper} {V:Nat→D} {env:List (Nat × D)} {L:Nat→Prop} {t:Nat} (h:∀ i,(ops[i]?).bind (·.dst)=some t→¬ L i):valL ops V env L t=find env t:=by
 unfold valL
 rw [dif_neg]
 rintro ⟨i,h1,h2⟩
 exact h i h1 h2
theorem QE {ops:Array Oper} (hnd:dstsB ops=true) {V:Nat→D} {env:List (Nat × D)} {L L':Nat→Prop} {t:Nat} (h:∀ i,(ops[i]?).bind (·.dst)=some t→(L i↔L' i)):valL ops V env L t=valL ops V env L' t:=by
 by_cases hx:∃ i,(ops[i]?).bind (·.dst)=some t∧L i
 ·obtain ⟨i,h1,h2⟩:=hx
  rw [Vn hnd h1 h2,Vn hnd h1 ((h i h1).1 h2)]
 ·rw [WW fun i h1 h2=>hx ⟨i,h1,h2⟩,WW fun i h1 h2=>hx ⟨i,h1,(h i h1).2 h2⟩]
theorem Zha {P:Program} {nt:Nat} {ops:Array Oper} {H:List Ob} {bs:List Bool} {rq:List Req} {n:Nat} {E:Nat→List (Nat × D)} {V:Nat→D} (hnd:dstsB ops=true) (hT:Trace P nt ops H bs rq 0 n E V) :
  ∀ k,k≤n→∀ t,find (E k) t=valL ops V (E 0) (· < k) t
 | 0,_,t=>by rw [WW]; intro i _ h; omega
 | k+1,hk,t=>by
  have ih:=Zha hnd hT k (by omega) t
  obtain ⟨o,ho,hp⟩:=hT.put k (by omega) (by omega)
  unfold putE at hp
  split at hp
  ·rename_i hd
   simp only [Option.some.injEq] at hp
   rw [← hp,ih]
   refine QE hnd fun i hi=>⟨fun h=>by omega,fun h=>?_⟩
   rcases Nat.lt_or_ge i k with h1 | h1
   ·exact h1
   ·have:i=k:=by omega
    subst this
    rw [ho] at hi
    simp [hd] at hi
  ·rename_i u hd
   cases hlt:Nat.blt u nt with
   | false=>simp [hlt] at hp
   | true =>
    simp only [hlt,cond_true,Option.some.injEq] at hp
    rw [← hp]
    simp only [find]
    have hdk:(ops[k]?).bind (·.dst)=some u:=by rw [ho]; exact hd
    cases hut:Nat.beq u t with
    | true =>
     obtain rfl:=Nat.eq_of_beq_eq_true hut
     simp only [cond_true]
     rw [Vn hnd hdk (by omega)]
    | false =>
     simp only [cond_false]
     rw [ih]
     have hne:u ≠ t:=Nat.ne_of_beq_eq_false hut
     refine QE hnd fun i hi=>⟨fun h=>by omega,fun h=>?_⟩
     rcases Nat.lt_or_ge i k with h1 | h1
     ·exact h1
     ·have:i=k:=by omega
      subst this
      rw [hdk] at hi
      simp at hi
      exact absurd hi hne
end Nv
namespace Nv
open Go Go.RowKit
structure DInv (F:Fr) (nt:Nat) (ops:Array Oper) (H:List Ob) (V:Nat→D) (env0:List (Nat × D)) (listed:Array Bool) (a:Act) (c:Ctx):Prop where
 H:c.H=H
 inv:Inv F c
 env:∀ t,GV (yielded ops a.tmps) c (a.tmps.getD t undef) (valL ops V env0 (fun i=>listed.getD i false=true) t)
 size:a.tmps.size=nt
 defers:a.defers=[]
 opt:∀ t j w d,valL ops V env0 (fun i=>listed.getD i false=true) t = .opt j w d→listed.getD j false=true
 lsize:listed.size=ops.size
 closed:∀ i j,Waits ops i j→listed.getD i false=true→listed.getD j false=true
def cnt (listed:Array Bool):Nat:=listed.toList.countP id
theorem Zcg {listed:Array Bool} {i:Nat} (hi:i < listed.size) (h:listed.getD i false=false):cnt (listed.setIfInBounds i true)=cnt listed+1:=by
 unfold cnt
 rw [Array.toList_setIfInBounds,List.countP_set (by simpa using hi)]
 have:listed.toList[i]=false:=by
  simp [hi] at h
  simpa using h
 simp [this]
theorem R1 {listed:Array Bool} (h:cnt listed=listed.size):∀ i,i < listed.size→listed.getD i false=true:=by
 unfold cnt at h
 intro i hi
 have h':listed.toList.countP id=listed.toList.length:=by rw [Array.length_toList]; exact h
 have:=List.countP_eq_length.1 h' listed.toList[i] (List.getElem_mem (by simpa using hi))
 simpa [hi] using this
theorem Qg {ops:Array Oper} {listed:Array Bool} (hc:∀ i j,Waits ops i j→listed.getD i false=true→listed.getD j false=true) {i k:Nat} (h:Reach ops i k) :
  (∀ j,Waits ops i j→listed.getD j false=true)→listed.getD k false=true:=by
 induction h with
 | one h=>exact fun hw=>hw _ h
 | step h r ih=>exact fun hw=>ih fun j hj=>hc _ _ hj (hw _ h)
theorem ZiQ {P:Program} {F:Fr} [GF P F] {nt:Nat} {ops:Array Oper} {H:List Ob} {bs:List Bool} {rq:List Req} {E:Nat→List (Nat × D)} {V:Nat→D} (hfl:flowB ops=true)
  (hT:Trace P nt ops H bs rq 0 ops.size E V) (hb:∀ b∈bs,b=true) (hq:∀ q∈rq,q.ok P) {Q:Exit→Act→World→Prop} (orc:List Res)
  (hQ:∀ a c,RInv F nt ops ops.size ⟨E ops.size,H,orc⟩ a c→Q .normal a c.w) :
  ∀ (fuel:Nat) (listed:Array Bool) (a:Act) (c:Ctx),DInv F nt ops H V (E 0) listed a c→cnt listed+fuel=ops.size→wpAny P .any ops Q fuel listed a c.w:=by
 simp only [flowB,Bool.and_eq_true,List.all_eq_true] at hfl
 obtain ⟨hnd,hfl⟩:=hfl
 have flow:∀ i o,ops[i]? = some o→flowAt ops (Region.before ops) i o=true:=fun i o ho=>by
  have hlt:=(Array.getElem?_eq_some_iff.1 ho).1
  refine hfl (o,i) ?_
  rw [List.mem_zipIdx_iff_getElem?]
  simpa using ho
 have fin:∀ (listed:Array Bool) a c,DInv F nt ops H V (E 0) listed a c→(∀ i,i < ops.size→listed.getD i false=true)→Q .normal a c.w:=fun listed a c hD hall=>by
  have hval:∀ t,find (E ops.size) t=valL ops V (E 0) (fun i=>listed.getD i false=true) t:=fun t=>by
   rw [Zha hnd hT ops.size (Nat.le_refl _) t]
   refine QE hnd fun i hi=>⟨fun h=>hall i h,fun _=>?_⟩
   obtain ⟨o,ho,_⟩:=Option.bind_eq_some_iff.1 hi
   exact (Array.getElem?_eq_some_iff.1 ho).1
  refine hQ a c ⟨hD.H,hD.inv,fun t=>?_,hD.size,hD.defers,fun t j w d hf=>?_⟩
  ·show GV _ _ _ (find (E ops.size) t)
   rw [hval]; exact hD.env t
  ·have hf:find (E ops.size) t = .opt j w d:=hf
   rw [hval] at hf
   have:=hD.opt t j w d hf
   rcases Nat.lt_or_ge j listed.size with h | h
   ·rw [hD.lsize] at h; exact h
   ·simp [Array.getElem?_eq_none h] at this
 -- nothing is ready: all are listed
 have stuckAll:∀ (listed:Array Bool),listed.size=ops.size→Region.ready .any ops listed=[]→∀ i,i < ops.size→listed.getD i false=true:=by
  intro listed hls hr i
  induction i using Nat.strongRecOn with
  | _ i ih =>
   intro hi
   cases hl:listed.getD i false with
   | true=>rfl
   | false =>
    exfalso
    have:i∈Region.ready .any ops listed:=by
     rw [mem_ready]
     refine ⟨by simp [hls,hi] at hl ⊢; exact hl,ops[i],by simp [hi],fun e he hbi=>?_⟩
     have h1:=flow i ops[i] (by simp [hi])
     simp only [flowAt,Bool.and_eq_true] at h1
     have h2:=Array.all_eq_true'.1 h1.1.1 e he
     simp only [hbi,Bool.not_true,Bool.false_or] at h2
     have h3:=XW h2
     exact ih e.on h3 (by omega)
    rw [hr] at this
    cases this
 intro fuel
 induction fuel with
 | zero =>
  intro listed a c hD hcnt
  have hall:∀ i,i < ops.size→listed.getD i false=true:=by
   have:=R1 (listed:=listed) (by rw [hD.lsize]; omega)
   rw [hD.lsize] at this
   exact this
  refine ⟨?_,fin listed a c hD hall⟩
  cases hr:Region.ready .any ops listed with
  | nil=>rfl
  | cons i r =>
   exfalso
   have:i∈Region.ready .any ops listed:=by rw [hr]; exact List.mem_cons_self
   obtain ⟨h1,o,ho,_⟩:=mem_ready.1 this
   have hi:=(Array.getElem?_eq_some_iff.1 ho).1
   have h2:=hall i hi
   simp [hD.lsize,hi] at h1 h2
   rw [h1] at h2
   cases h2
 | succ fuel ih =>
  intro listed a c hD hcnt
  refine ⟨fun hr=>fin listed a c hD (stuckAll listed hD.lsize hr),fun i hi=>?_⟩
  obtain ⟨hun,o,ho,hall⟩:=mem_ready.1 hi
  have hilt:=(Array.getElem?_eq_some_iff.1 ho).1
  have hunf:listed.getD i false=false:=by simp [hD.lsize,hilt] at hun ⊢; exact hun
  have hwaits:∀ j,Waits ops i j→listed.getD j false=true:=fun j ⟨o',ho',e,he,hbi,hon⟩=>by
   rw [ho] at ho'
   cases ho'
   rw [← hon]
   exact hall e he hbi
  obtain ⟨o',orc0,b,r,orc1,ho',hstep,hb1,hr1⟩:=hT.step i (Nat.zero_le _) hilt
  rw [ho] at ho'
  cases ho'
  have hfa:=flow i o ho
  simp only [flowAt,Bool.and_eq_true] at hfa
  obtain ⟨⟨hf1,hf2⟩,hf3⟩:=hfa
  -- what the operation looks at has its value of the text's order
  have same:∀ t∈needs ops o,valL ops V (E 0) (fun i=>listed.getD i false=true) t=find (E i) t:=fun t ht=>by
   rw [Zha hnd hT i (by omega) t]
   refine QE hnd fun k hk=>?_
   have h1:=List.all_eq_true.1 hf3 t ht
   obtain ⟨ok,hok,hdk⟩:=Option.bind_eq_some_iff.1 hk
   have hklt:=(Array.getElem?_eq_some_iff.1 hok).1
   have h2:=List.all_eq_true.1 h1 (ok,k) (by rw [List.mem_zipIdx_iff_getElem?]; simpa using hok)
   simp only [hdk] at h2
   have e1:Nat.beq t t=true:=Nat.beq_refl t
   rw [e1] at h2
   simp only [Bool.not_true,Bool.false_or,Bool.or_eq_true,Bool.and_eq_true] at h2
   rcases h2 with (h2 | ⟨h2,h3⟩) | ⟨h2,h3⟩
   ·obtain rfl:=Nat.eq_of_beq_eq_true h2
    exact ⟨fun h=>(by rw [hunf] at h; cases h),fun h=>by omega⟩
   ·exact ⟨fun _=>XW h2,fun _=>Qg hD.closed (YW ops i k hilt h3) hwaits⟩
   ·have hik:=XW h2
    refine ⟨fun h=>?_,fun h=>by omega⟩
    have:=Qg hD.closed (YW ops k i hklt h3) (fun j hj=>hD.closed _ _ hj h)
    rw [hunf] at this
    cases this
  have hops:∀ x∈o.op.operands.toList,GV (yielded ops a.tmps) c (a.eval x) (evD (E i) x):=fun x hx=>by
   cases x with
   | tmp t =>
    show GV _ _ _ (find (E i) t)
    rw [← same t (by simp only [needs,List.mem_append,List.mem_filterMap]; exact .inl ⟨.tmp t,hx,rfl⟩)]
    exact hD.env t
   | const v=>exact X9 (Zbk c v)
   | global g=>exact X9 WS
   | func f=>exact X9 ⟨#[],rfl,rfl,fun i v d h1 _=>by simp at h1⟩
  have hgf:GuardFacts ops a c (E i) (gch ops 20 o.guard):=fun p hp t ht=>by
   rw [← same t (by simp only [needs,List.mem_append,List.mem_filterMap]; exact .inr ⟨p,hp,ht⟩)]
   exact hD.env t
  -- the new state
  have new:∀ v c',Inv F c'→Goes c c'→(∀ d,V i=d→GV (yielded ops (a.put o.dst v).tmps) c' v d)→(∀ j w d,V i = .opt j w d→listed.getD j false=true) →
    wpAny P .any ops Q fuel (listed.setIfInBounds i true) (a.put o.dst v) c'.w:=fun v c' hI' hgo hv hvo=>by
   have hL:∀ j,(listed.setIfInBounds i true).getD j false=true↔j=i∨listed.getD j false=true:=fun j=>by
    by_cases hji:j=i
    ·subst hji; simp [hD.lsize,hilt]
    ·rw [getD_set_ne false (Ne.symm hji)]; simp [hji]
   have hvalo:∀ t,(∀ u,o.dst=some u→u ≠ t)→valL ops V (E 0) (fun j=>(listed.setIfInBounds i true).getD j false=true) t=valL ops V (E 0) (fun j=>listed.getD j false=true) t:=fun t ht=>by
    refine QE hnd fun k hk=>?_
    show (listed.setIfInBounds i true).getD k false=true↔_
    rw [hL]
    refine ⟨fun h=>?_,.inr⟩
    rcases h with rfl | h
    ·rw [ho] at hk
     exact absurd rfl (ht t hk)
    ·exact h
   have hyj:∀ j,listed.getD j false=true→yielded ops (a.put o.dst v).tmps j=yielded ops a.tmps j:=fun j hj=>VZ fun t ht e=>by
    have:=Ws hnd (show (ops[i]?).bind (·.dst)=some t by rw [ho]; exact ht) e
    subst this
    rw [hunf] at hj
    cases hj
   have keep:∀ t,GV (yielded ops (a.put o.dst v).tmps) c' (a.tmps.getD t undef) (valL ops V (E 0) (fun j=>listed.getD j false=true) t):=fun t=>by
    have h1:=hgo.gv (hD.env t)
    cases hf:valL ops V (E 0) (fun j=>listed.getD j false=true) t <;> rw [hf] at h1 <;> try exact h1
    rename_i j w d
    simp only [GV] at h1 ⊢
    rw [hyj j (hD.opt t j w d hf)]
    exact h1
   refine ih _ _ c' ⟨by rw [hgo.H]; exact hD.H,hI',fun t=>?_,by rw [G6]; exact hD.size,by rw [UQ]; exact hD.defers,fun t j w d hf=>?_,by simp [hD.lsize],fun p q hpq hp=>?_⟩ ?_
   ·by_cases hdt:o.dst=some t
    ·have hit:(ops[i]?).bind (·.dst)=some t:=by rw [ho]; exact hdt
     rw [Vn hnd hit ((hL i).2 (.inl rfl))]
     have htl:t < a.tmps.size:=by
      obtain ⟨o2,ho2,hp⟩:=hT.put i (Nat.zero_le _) hilt
      rw [ho] at ho2
      cases ho2
      rw [hdt] at hp
      simp only [putE] at hp
      cases hlt:Nat.blt t nt with
      | false=>simp [hlt] at hp
      | true=>rw [hD.size]; exact XW hlt
     have e:(a.put o.dst v).tmps.getD t undef=v:=by rw [hdt]; exact WA htl
     rw [e]
     exact hv _ rfl
    ·rw [hvalo t (fun u hu e=>hdt (by rw [hu,e])),GK hdt]
     exact keep t
   ·rw [hL]
    right
    by_cases hdt:o.dst=some t
    ·have hit:(ops[i]?).bind (·.dst)=some t:=by rw [ho]; exact hdt
     rw [Vn hnd hit ((hL i).2 (.inl rfl))] at hf
     exact hvo j w d hf
    ·rw [hvalo t (fun u hu e=>hdt (by rw [hu,e]))] at hf
     exact hD.opt t j w d hf
   ·rw [hL] at hp ⊢
    right
    rcases hp with rfl | hp
    ·exact hwaits q hpq
    ·exact hD.closed p q hpq hp
   ·rw [Zcg (by rw [hD.lsize]; exact hilt) hunf]
    omega
  unfold stepDr at hstep
  split at hstep <;> try cases hstep
  rename_i g hg
  unfold wpOp
  simp only [ho]
  split at hstep
  ·rename_i d bs0 rq0 orc2 j want hop hgd
   cases hlt:Nat.blt j i with
   | false=>simp [hlt] at hstep
   | true =>
    simp only [hlt,cond_true,Option.some.injEq,Prod.mk.injEq] at hstep
    obtain ⟨hV,rfl,rfl,rfl⟩:=hstep
    have hji:=XW hlt
    have hyj:∀ v,yielded ops (a.put o.dst v).tmps j=yielded ops a.tmps j:=fun v=>VZ fun t ht e=>by
     have:=Ws hnd (show (ops[i]?).bind (·.dst)=some t by rw [ho]; exact ht) e
     omega
    have hjl:listed.getD j false=true:=by
     rw [hgd] at hf2
     simp only at hf2
     obtain ⟨e,he,h1⟩:=Array.any_eq_true'.1 hf2
     simp only [Bool.and_eq_true] at h1
     rw [← Nat.eq_of_beq_eq_true h1.2]
     exact hall e he h1.1
    have hwant:Region.wanted o (yielded ops a.tmps)=(yielded ops a.tmps j==some want):=by simp [Region.wanted,hgd]
    have hvo:∀ j' w d',V i = .opt j' w d'→listed.getD j' false=true:=fun j' w d' h=>by rw [← hV] at h; cases h; exact hjl
    cases hw:Region.wanted o (yielded ops a.tmps) with
    | true =>
     simp only [if_true]
     refine .inl (WP hD.inv hops hgf hg hw (by rw [hD.H]; exact hop) (fun b hb'=>hb b (hb1 b hb')) (fun q hq'=>hq q (hr1 q hq')) fun v c' hI' haf=>?_)
     obtain ⟨hgo,_,htv⟩:=haf
     refine new v c' hI' hgo (fun d' hd'=>?_) hvo
     rw [← hd',← hV]
     refine .inl ⟨?_,htv⟩
     rw [hyj]
     rw [hw] at hwant
     simpa using hwant.symm
    | false =>
     simp only [Bool.false_eq_true,if_false]
     refine new undef c hD.inv (Goes.refl hD.inv) (fun d' hd'=>?_) hvo
     rw [← hd',← hV]
     refine .inr ⟨?_,rfl⟩
     rw [hyj]
     rw [hw] at hwant
     simpa using hwant.symm
  ·rename_i d bs0 rq0 orc2 hop hgd
   simp only [Option.some.injEq,Prod.mk.injEq] at hstep
   obtain ⟨hV,rfl,rfl,rfl⟩:=hstep
   have hw:Region.wanted o (yielded ops a.tmps)=true:=by simp [Region.wanted,hgd]
   simp only [hw,if_true]
   refine .inl (WP hD.inv hops hgf hg hw (by rw [hD.H]; exact hop) (fun b hb'=>hb b (hb1 b hb')) (fun q hq'=>hq q (hr1 q hq')) fun v c' hI' haf=>?_)
   obtain ⟨hgo,_,htv⟩:=haf
   refine new v c' hI' hgo (fun d' hd'=>?_) (fun j w d' h=>?_)
   ·rw [← hd',← hV]; exact X9 htv
   ·rw [← hV] at h
    subst h
    simp only [TV,AV] at htv
    exact absurd htv Qt
  ·cases hstep
end Nv
namespace Nv
open Go Go.RowKit
structure St where
 nt:Nat
 env:List (Nat × D)
 H:List Ob
def Rel (F:Fr) (s:St) (a:Act) (w:World):Prop :=
 ∃ c:Ctx,c.w=w∧c.H=s.H∧Inv F c∧(∀ t,TV c (a.tmps.getD t undef) (find s.env t))∧a.tmps.size=s.nt∧a.defers=[]
def AWP (P:Program) (c:Code) (Q:Exit→St→Prop) (s:St):Prop :=
 ∀ F a w,GF P F→Rel F s a w→c.wp P (fun e a' w'=>∃ s',Q e s'∧Rel F s' a' w') a w
section
variable {P:Program} {Q:Exit→St→Prop} {s:St}
theorem G7 {c:Code} {Q':Exit→St→Prop} (h:AWP P c Q s) (hq:∀ e s,Q e s→Q' e s):AWP P c Q' s :=
 fun F a w hG hR=>wp_mono (h F a w hG hR) fun _ _ _ ⟨s',h1,h2⟩=>⟨s',hq _ _ h1,h2⟩
theorem Ze (h:Q .normal s):AWP P .skip Q s:=fun _ _ _ _ hR=>wp_skip ⟨s,h,hR⟩
theorem Zg (h:Q .ret s):AWP P .ret Q s:=fun _ _ _ _ hR=>wp_ret ⟨s,h,hR⟩
theorem ZX {id:Nat} (h:Q (.exit id) s):AWP P (.exit id) Q s:=fun _ _ _ _ hR=>wp_exit ⟨s,h,hR⟩
def Then (P:Program) (y:Code) (Q:Exit→St→Prop):Exit→St→Prop
 | .normal,s=>AWP P y Q s
 | e,s=>Q e s
theorem Za {x y:Code} (h:AWP P x (Then P y Q) s):AWP P (.seq x y) Q s:=by
 intro F a w hG hR
 refine wp_seq (wp_mono (h F a w hG hR) ?_)
 rintro e a' w' ⟨s',h1,h2⟩
 cases e <;> first | exact h1 F a' w' hG h2 | exact ⟨s',h1,h2⟩
def InBlock (id:Nat) (Q:Exit→St→Prop):Exit→St→Prop
 | .exit id',s=>if id'=id then Q .normal s else Q (.exit id') s
 | e,s=>Q e s
theorem Zj {id:Nat} {c:Code} (h:AWP P c (InBlock id Q) s):AWP P (.block id c) Q s:=by
 intro F a w hG hR
 refine wp_block (wp_mono (h F a w hG hR) ?_)
 rintro e a' w' ⟨s',h1,h2⟩
 cases e <;> first | exact ⟨s',h1,h2⟩ | skip
 rename_i id'
 simp only [Exit.inBlock,InBlock] at h1 ⊢
 split <;> rename_i h
 ·rw [if_pos h] at h1; exact ⟨s',h1,h2⟩
 ·rw [if_neg h] at h1; exact ⟨s',h1,h2⟩
theorem ZkU {F:Fr} {a:Act} {w:World} (hR:Rel F s a w) {c:Operand} {b:Bool} (h:evD s.env c = .bool b):a.eval c = .bool b:=by
 obtain ⟨cx,_,_,_,henv,_,_⟩:=hR
 cases c with
 | tmp t =>
  simp only [evD] at h
  have:=henv t
  rw [h] at this
  exact this.bool_inv
 | const v =>
  have:=Zbk cx v
  simp only [evD] at h
  rw [h] at this
  exact this.bool_inv
 | global g=>simp [evD] at h
 | func f=>simp [evD] at h
theorem ZkV {c:Operand} {x y:Code} {b:Bool} (hc:evD s.env c = .bool b) (ht:b=true→AWP P x Q s) (hf:b=false→AWP P y Q s):AWP P (.cond c x y) Q s :=
 fun F a w hG hR=>wp_cond_split (ZkU hR hc) (fun h=>ht h F a w hG hR) (fun h=>hf h F a w hG hR)
theorem ZkW {c:Operand} {x y:Code} {n:Nat} (hc:evD s.env c = .nilq n) (ht:n=0→AWP P x Q s) (hf:AWP P y Q s):AWP P (.cond c x y) Q s:=by
 intro F a w hG hR
 have key:∃ b,a.eval c = .bool b∧(b=true→n=0):=by
  obtain ⟨cx,_,_,_,henv,_,_⟩:=hR
  cases c with
  | tmp t =>
   simp only [evD] at hc
   have:=henv t
   rw [hc] at this
   simp only [TV,AV,CV] at this
   generalize hv:a.tmps.getD t undef=v at this
   cases this with
   | nilq b n h=>exact ⟨b,hv,h⟩
  | const v =>
   have:=Zbk cx v
   simp only [evD] at hc
   rw [hc] at this
   simp only [TV,AV,CV] at this
   cases this with
   | nilq b n h=>exact ⟨b,rfl,h⟩
  | global g=>simp [evD] at hc
  | func f=>simp [evD] at hc
 obtain ⟨b,h1,h2⟩:=key
 exact wp_cond_split h1 (fun h=>ht (h2 h) F a w hG hR) (fun _=>hf F a w hG hR)
def Le (s s':St):Prop:=∀ F a w,Rel F s a w→Rel F s' a w
theorem Ud {c:Code} {s':St} (h:Le s s') (k:AWP P c Q s'):AWP P c Q s:=fun F a w hG hR=>k F a w hG (h F a w hR)
end
inductive Iter {α β:Type} (f:α→Option (α ⊕ β)):α→β→Prop
 | out {x:α} {y:β} (h:f x=some (.inr y)):Iter f x y
 | next {x x':α} {y:β} (h:f x=some (.inl x')) (r:Iter f x' y):Iter f x y
theorem Zav {P:Program} {c:Code} {α β:Type} {f:α→Option (α ⊕ β)} (I:α→Act→World→Prop) (O:β→Exit→Act→World→Prop)
  (round:∀ x r a w,f x=some r→I x a w→c.wp P (fun e a' w'=>match r with | .inl x'=>e = .normal∧I x' a' w' | .inr y=>e ≠ .normal∧O y e a' w') a w)
  {x:α} {y:β} (h:Iter f x y) {a:Act} {w:World} (hI:I x a w):(Code.loop c).wp P (O y) a w:=by
 intro b k cs
 have key:∀ x y,Iter f x y→∀ a w,I x a w→∃ e a' w',O y e a' w'∧Arrives P (lone (b.at a (.code c :: .inLoop c :: k)) cs w) b k cs e a' w':=by
  intro x y h
  induction h with
  | out h =>
   intro a w hI
   obtain ⟨e,a₁,w₁,⟨hne,hq⟩,harr⟩:=round _ _ a w h hI b (.inLoop c :: k) cs
   cases e with
   | normal=>exact absurd rfl hne
   | exit id=>exact ⟨_,a₁,w₁,hq,.pass (x:=.inLoop c) rfl (fun _ _=>.inl (by simp)) harr⟩
   | goto l=>exact ⟨_,a₁,w₁,hq,.pass (x:=.inLoop c) rfl (fun _ _=>.inl (by simp)) harr⟩
   | ret=>exact ⟨_,a₁,w₁,hq,.pass (x:=.inLoop c) rfl (fun _ _=>.inl (by simp)) harr⟩
   | panic ch=>exact ⟨_,a₁,w₁,hq,.pass (x:=.inLoop c) rfl (fun _ _=>.inl (by simp)) harr⟩
   | outgrown=>exact ⟨_,a₁,w₁,hq,.pass (x:=.inLoop c) rfl (fun _ _=>.inl (by simp)) harr⟩
  | next h r ih =>
   intro a w hI
   obtain ⟨e,a₁,w₁,⟨rfl,hI₁⟩,harr⟩:=round _ _ a w h hI b (.inLoop c :: k) cs
   obtain ⟨e₂,a₂,w₂,hq₂,harr₂⟩:=ih a₁ w₁ hI₁
   exact ⟨e₂,a₂,w₂,hq₂,.of_steps (Steps.trans harr (.one step_inLoop)) harr₂⟩
 obtain ⟨e,a',w',hq,harr⟩:=key x y h a w hI
 exact ⟨e,a',w',hq,.of_steps (.one step_loop) harr⟩
def Round {α β:Type} (S:α→St) (O:β→Exit→St→Prop):(α ⊕ β)→Exit→St→Prop
 | .inl x',e,s=>e = .normal∧Le s (S x')
 | .inr y,e,s=>e ≠ .normal∧O y e s
theorem ZfI {P:Program} {c:Code} {α β:Type} {f:α→Option (α ⊕ β)} {S:α→St} {O:β→Exit→St→Prop} (round:∀ x r,f x=some r→AWP P c (Round S O r) (S x)) {x:α} {y:β} (h:Iter f x y) :
  AWP P (.loop c) (O y) (S x):=by
 intro F a w hG hR
 refine Zav (f:=f) (fun x a w=>Rel F (S x) a w) (fun y e a w=>∃ s',O y e s'∧Rel F s' a w) (fun x r a w hx hI=>?_) h hR
 refine wp_mono (round x r hx F a w hG hI) ?_
 rintro e a' w' ⟨s',h1,h2⟩
 cases r with
 | inl x'=>exact ⟨h1.1,h1.2 _ _ _ h2⟩
 | inr y=>exact ⟨h1.1,s',h1.2,h2⟩
def noOpt:D→D
 | .opt _ _ _=>.any
 | d=>d
def fin (env:List (Nat × D)) (keep:List Nat):List (Nat × D):=keep.map fun t=>(t,noOpt (find env t))
theorem ZfJ (env:List (Nat × D)):∀ (keep:List Nat) (t:Nat),find (fin env keep) t = .any∨find (fin env keep) t=noOpt (find env t)
 | [],t=>.inl rfl
 | u :: r,t=>by
  simp only [fin,List.map_cons,find]
  cases h:Nat.beq u t with
  | true=>obtain rfl:=Nat.eq_of_beq_eq_true h; exact .inr rfl
  | false=>simp only [cond_false]; exact ZfJ env r t
def blC (n:Nat):D→Bool
 | .asl i _ _ | .eref i _ _ | .ref i _=>Nat.blt i n
 | _=>true
def blA (n:Nat):D→Bool
 | .agg cs=>cs.all (blC n)
 | .fn _ cap=>cap.all (blC n)
 | d=>blC n d
def blT (n:Nat):D→Bool
 | .tup ds=>ds.all (blA n)
 | d=>blA n d
def blO (n:Nat):Ob→Bool
 | .box cells=>cells.all (blC n)
 | _=>true
def cutS (n:Nat) (s:St):Option St :=
 bif Nat.ble s.H.length n then some s else
 bif s.env.all (fun p=>blT n p.2)&&(s.H.take n).all (blO n)&&(s.H.drop n).all (fun o=>match o with | .gone=>false | _=>true) then some ⟨s.nt,s.env,s.H.take n⟩ else none
section
variable {F:Fr} {c:Ctx} {n:Nat}
def Ctx.cut (c:Ctx) (n:Nat):Ctx:={ c with mu:=fun i=>if i < n then c.mu i else none,H:=c.H.take n }
theorem ZkX {id:Nat} {o:Ob} (hid:id < n) (h:c.H[id]? = some o):(c.cut n).H[id]? = some o:=by
 simp only [Ctx.cut]; rw [List.getElem?_take_of_lt hid]; exact h
theorem ZfK {v:Value} {d:D} (h:CV c v d) (hb:blC n d=true):CV (c.cut n) v d:=by
 cases d <;> simp only [CV] at h ⊢ <;> try exact h
 ·have hid:=XW hb
  obtain ⟨b,hm,hv⟩:=h; exact ⟨b,by simp [Ctx.cut,hid,hm],hv⟩
 ·have hid:=XW hb
  obtain ⟨b,wd,m,f,hm,hH,h2,hv⟩:=h; exact ⟨b,wd,m,f,by simp [Ctx.cut,hid,hm],ZkX hid hH,h2,hv⟩
 ·have hid:=XW hb
  obtain ⟨wd,m,f,a,cap,hH,h2,h3,h4,h5⟩:=h
  exact ⟨wd,m,f,a,cap,ZkX hid hH,h2,h3,h4,h5.imp id fun ⟨b,hm,r⟩=>⟨b,by simp [Ctx.cut,hid,hm],r⟩⟩
theorem Zhb {R R':Value→D→Prop} {q:D→Bool} {vs:Array Value} {ds:List D} (h:∀ v d,R v d→q d=true→R' v d) (k:Vs R vs ds) (hq:ds.all q=true):Vs R' vs ds :=
 ⟨k.1,fun i v d h1 h2=>h v d (k.2 i v d h1 h2) (List.all_eq_true.1 hq d (List.mem_of_getElem? h2))⟩
theorem ZkY {v:Value} {d:D} (h:AV c v d) (hb:blA n d=true):AV (c.cut n) v d:=by
 cases d <;> simp only [AV] at h ⊢ <;> try exact ZfK h hb
 ·obtain ⟨vs,h1,h2⟩:=h; exact ⟨vs,h1,Zhb (fun _ _=>ZfK) h2 hb⟩
 ·obtain ⟨vs,h1,h2⟩:=h; exact ⟨vs,h1,Zhb (fun _ _=>ZfK) h2 hb⟩
theorem ZkZ {v:Value} {d:D} (h:TV c v d) (hb:blT n d=true):TV (c.cut n) v d:=by
 cases d <;> simp only [TV] at h ⊢ <;> try exact ZkY h hb
 obtain ⟨vs,h1,h2⟩:=h; exact ⟨vs,h1,Zhb (fun _ _=>ZkY) h2 hb⟩
theorem Zjs (hI:Inv F c) (hb:(c.H.take n).all (blO n)=true) (hg:(c.H.drop n).all (fun o=>match o with | .gone=>false | _=>true)=true):Inv F (c.cut n):=by
 have hln:F.L ≠ []→F.L.length < n:=fun hl=>by
  rcases Nat.lt_or_ge F.L.length n with h | h
  ·exact h
  ·exfalso
   have h3:(c.H.drop n)[F.L.length - n]? = some .gone:=by rw [List.getElem?_drop,show n+(F.L.length - n)=F.L.length by omega]; exact hI.mark hl
   have:=List.all_eq_true.1 hg _ (List.mem_of_getElem? h3)
   cases this
 refine ⟨hI.below,hI.imm,fun id b hm=>?_,fun i j b h1 h2=>?_,fun id o h=>?_,fun id hid=>?_,fun i v hv=>?_,fun hl=>ZkX (hln hl) (hI.mark hl),hI.fam.mono (fun id o j b h1 h2=>⟨o,by
  have h3:=(List.getElem?_eq_some_iff.1 h1).1
  simp only [Ctx.cut,List.length_take] at h3
  simp only [Ctx.cut] at h1
  rw [List.getElem?_take_of_lt (by omega)] at h1; exact h1,h2⟩) (Nat.le_refl _) (fun b _ h=>.inl h) fun i b h=>by
  simp only [Ctx.cut] at h
  split at h
  ·exact .inl ⟨i,h⟩
  ·cases h⟩
 rotate_left 4
 ·have h2:=(List.getElem?_eq_some_iff.1 hv).1
  have h3:=hln (by intro e; rw [e] at h2; simp at h2)
  show (if i < n then c.mu i else none)=v
  rw [if_pos (by omega)]
  exact hI.lent i v hv
 ·simp only [Ctx.cut] at hm
  split at hm
  ·exact hI.loc id b hm
  ·cases hm
 ·simp only [Ctx.cut] at h1 h2
  split at h1 <;> split at h2 <;> first | exact hI.inj i j b h1 h2 | cases h1 | cases h2
 ·have hid:id < n:=by
   have:=(List.getElem?_eq_some_iff.1 h).1
   simp [Ctx.cut] at this; omega
  have hbo:=List.all_eq_true.1 hb o (List.mem_of_getElem? h)
  have hH:c.H[id]? = some o:=by simp only [Ctx.cut] at h; rw [List.getElem?_take_of_lt hid] at h; exact h
  have hv:=hI.obj id o hH
  have e:(c.cut n).mu id=c.mu id:=by simp [Ctx.cut,hid]
  rw [e]
  cases o with
  | fam foc is n2 wd2 vs ls=>exact hv
  | box cells=>obtain ⟨b,cs,T,h1,h2,h3⟩:=hv; exact ⟨b,cs,T,h1,h2,Zhb (fun _ _=>ZfK) h3 hbo⟩
  | arr wd m f=>exact hv
  | mp _ _=>exact hv
  | gone=>exact hv
 ·simp only [Ctx.cut,List.length_take] at hid ⊢
  split
  ·exact hI.dom id (by omega)
  ·rfl
end
theorem Zh3:∀ (env:List (Nat × D)) (t:Nat),find env t = .any∨∃ p∈env,find env t=p.2
 | [],t=>.inl rfl
 | (u,d) :: r,t=>by
  simp only [find]
  cases h:Nat.beq u t with
  | true=>exact .inr ⟨(u,d),List.mem_cons_self,rfl⟩
  | false =>
   simp only [cond_false]
   exact (Zh3 r t).imp id fun ⟨p,hp,h⟩=>⟨p,List.mem_cons_of_mem _ hp,h⟩
theorem U5 {n:Nat} {s s':St} (h:cutS n s=some s'):Le s s':=by
 unfold cutS at h
 cases hb:Nat.ble s.H.length n with
 | true=>simp only [hb,cond_true,Option.some.injEq] at h; subst h; exact fun _ _ _ h=>h
 | false =>
  simp only [hb,cond_false] at h
  cases hc:(s.env.all (fun p=>blT n p.2)&&(s.H.take n).all (blO n)&&(s.H.drop n).all (fun o=>match o with | .gone=>false | _=>true)) with
  | false=>rw [hc] at h; cases h
  | true =>
   simp only [hc,cond_true,Option.some.injEq] at h
   subst h
   simp only [Bool.and_eq_true] at hc
   rintro F a w ⟨c,rfl,hH,hI,henv,hsz,hd⟩
   refine ⟨c.cut n,rfl,by simp [Ctx.cut,hH],Zjs hI (by rw [hH]; exact hc.1.2) (by rw [hH]; exact hc.2),fun t=>ZkZ (henv t) ?_,hsz,hd⟩
   rcases Zh3 s.env t with h1 | ⟨p,hp,h1⟩
   ·rw [h1]; rfl
   ·rw [h1]; exact List.all_eq_true.1 hc.1.1 p hp
def regS (P:Program) (ops:Array Oper) (draw:Bool) (orc:List Res) (keep:List Nat) (hn:Nat) (s:St):Option (St × List Bool × List Req) :=
 match draw with
 | false=>bif dstsB ops then
   (match runS P s.nt ops 0 ops.toList ⟨s.env,s.H,orc⟩ with
   | some (r,bs,rq)=>(cutS hn ⟨s.nt,fin r.env keep,r.H⟩).map fun s'=>(s',bs,rq)
   | none=>none) else none
 | true=>bif flowB ops&&P.follows .mixedOrders then
   (match runDr P s.nt ops s.H 0 ops.toList s.env orc with
   | some (env',bs,rq,_)=>(cutS hn ⟨s.nt,fin env' keep,s.H⟩).map fun s'=>(s',bs,rq)
   | none=>none) else none
theorem WZ {F:Fr} {nt:Nat} {ops:Array Oper} {k:Nat} {r:RS} {a:Act} {c:Ctx} (h:RInv F nt ops k r a c) (keep:List Nat):Rel F ⟨nt,fin r.env keep,r.H⟩ a c.w:=by
 refine ⟨c,rfl,h.H,h.inv,fun t=>?_,h.size,h.defers⟩
 rcases ZfJ r.env keep t with e | e
 ·show TV c _ (find (fin r.env keep) t); rw [e]; exact WS
 ·show TV c _ (find (fin r.env keep) t)
  rw [e]
  have:=h.env t
  cases hf:find r.env t <;> rw [hf] at this <;> first | exact this | exact WS
theorem J8 (m j:Nat):(Array.replicate m false).getD j false=false:=by
 rcases Nat.lt_or_ge j m with h | h <;> simp [h]
theorem Zc2 {P:Program} {Q:Exit→St→Prop} {s:St} {id:Nat} {ops:Array Oper} {draw:Bool} (orc:List Res) (keep:List Nat) (hn:Nat) {s':St} {bs:List Bool} {rq:List Req}
  (h:regS P ops draw orc keep hn s=some (s',bs,rq)) (hb:∀ b∈bs,b=true) (hq:∀ q∈rq,q.ok P) (k:Q .normal s'):AWP P (.region id ops draw) Q s:=by
 rintro F a w hG ⟨c,rfl,hH,hI,henv,hsz,hd⟩
 unfold regS at h
 split at h
 ·cases hc:dstsB ops with
  | false=>rw [hc] at h; cases h
  | true =>
   simp only [hc,cond_true] at h
   split at h <;> try cases h
   rename_i r bs0 rq0 hrun
   obtain ⟨s1,hcut,heq⟩:=Option.map_eq_some_iff.1 h
   simp only [Prod.mk.injEq] at heq
   obtain ⟨rfl,rfl,rfl⟩:=heq
   refine wp_region ?_
   have h0:RInv F s.nt ops 0 ⟨s.env,s.H,orc⟩ a c:=⟨hH,hI,fun t=>X9 (henv t),hsz,hd,fun t j w d hf=>by
    have:=henv t
    have hf:find s.env t = .opt j w d:=hf
    rw [hf] at this
    simp only [TV,AV] at this
    exact absurd this Qt⟩
   have:=ZgM hc (Q:=fun e a' w'=>∃ s',Q e s'∧Rel F s' a' w') ops.toList 0 _ r bs0 rq0 (fun j=>by simp) hrun hb hq a c h0 (fun a' c' hR=>⟨s1,k,U5 hcut F a' c'.w (WZ hR keep)⟩)
   rw [List.range_eq_range']
   simpa using this
 ·cases hc:(flowB ops&&P.follows .mixedOrders) with
  | false=>rw [hc] at h; cases h
  | true =>
   rw [hc] at h
   simp only [cond_true] at h
   simp only [Bool.and_eq_true] at hc
   split at h <;> try cases h
   rename_i env' bs0 rq0 orc0 hrun
   obtain ⟨s1,hcut,heq⟩:=Option.map_eq_some_iff.1 h
   simp only [Prod.mk.injEq] at heq
   obtain ⟨rfl,rfl,rfl⟩:=heq
   refine wp_region_any hc.2 ?_
   obtain ⟨E,V,hE0,hE1,hT⟩:=ZfH ops.toList 0 s.env env' orc orc0 bs0 rq0 (fun j=>.inl (by simp)) hrun
   simp only [Array.length_toList,Nat.zero_add] at hE1 hT
   let c':Ctx:={ c with w:=c.w.drew }
   have hgo:Goes c c':=⟨rfl,rfl,fun _ h=>h,fun _ _=>rfl,fun b hb=>(hI.imm b hb).1,fun id b hb=>(hI.loc id b hb).2.1⟩
   have hI':Inv F c':=hI.goes hgo (Bw.refl _ _).drew (fun _ h=>.inl h)
   have hnone:∀ i,¬ (Array.replicate ops.size false).getD i false=true:=fun i h=>by rw [J8] at h; cases h
   have hval:∀ t,valL ops V (E 0) (fun i=>(Array.replicate ops.size false).getD i false=true) t=find s.env t:=fun t=>by rw [WW (fun i _=>hnone i),hE0]
   have hD:DInv F s.nt ops s.H V (E 0) (Array.replicate ops.size false) a c':=by
    refine ⟨hH,hI',fun t=>?_,hsz,hd,fun t j w d hf=>?_,by simp,fun i j _ h=>absurd h (hnone i)⟩
    ·rw [hval]; exact X9 (hgo.tv (henv t))
    ·rw [hval] at hf
     have:=henv t
     rw [hf] at this
     simp only [TV,AV] at this
     exact absurd this Qt
   have hcnt:cnt (Array.replicate ops.size false)+ops.size=ops.size:=by simp [cnt,List.countP_replicate]
   exact ZiQ hc.1 hT hb hq orc0 (fun a' c'' hR=>⟨s1,k,U5 hcut F a' c''.w (by
    have:=WZ hR keep
    rw [hE1] at this
    exact this)⟩) ops.size _ a c' hD hcnt
end Nv
namespace Nv
open Go Go.RowKit
def stillB:Op→Bool
 | .move _ | .assign _ | .binOp _ _ _ _ _ | .unOp _ _ _ | .convert _ _ _ | .fieldAddr _ _ _ | .field _ _ _ | .index _ _ _ | .pick _ _ _ | .extract _ _ | .build _ _ | .buildSlice _ _ _=>true
 | _=>false
def wrB:Op→Bool
 | .alloc _ | .box _ _ | .store _ _ _ | .makeSlice _ _ _=>true
 | .call { callee:=.builtin .append,args:=_,argTypes:=_ }=>true
 | _=>false
theorem ZdC {op:Op} (h:wrB op=true):stillB op=false:=by
 unfold wrB at h
 split at h <;> first | rfl | cases h
theorem ZgO {P:Program} {H:List Ob} (H':List Ob) {ops:Array Oper} {env:List (Nat × D)} {al:List (Nat × Bool)} {orc:List Res} {g:Bool} {o:Oper} (h:stillB o.op=true) :
  opD P H ops env al orc g o=opD P H' ops env al orc g o:=by
 unfold opD
 unfold stillB at h
 split at h <;> first | exact absurd h Bool.false_ne_true | (rename_i hop; simp only [hop,pureOp])
def stepDw (P:Program) (ops:Array Oper) (k:Nat) (H:List Ob) (env:List (Nat × D)) (orc:List Res) (o:Oper):Option (D × List Ob × List Bool × List Req × List Res) :=
 match wrB o.op with
 | true=>match o.guard,heapF P H (fun x=>unwrap [] (evD env x)) o.op with
  | none,some (d,H',none,bs)=>some (d,H',bs,[],orc)
  | _,_=>none
 | false=>match stepDr P ops k H env orc o with
  | some (d,bs,rq,orc')=>some (d,H,bs,rq,orc')
  | none=>none
def runDw (P:Program) (nt:Nat) (ops:Array Oper):Nat→List Oper→List (Nat × D)→List Ob→List Res→Option (List (Nat × D) × List Ob × List Bool × List Req × List Res)
 | _,[],env,H,orc=>some (env,H,[],[],orc)
 | k,o :: l,env,H,orc=>match stepDw P ops k H env orc o with
  | some (d,H1,bs,rq,orc1)=>match putE nt o.dst d env with
   | some e=>match runDw P nt ops (k+1) l e H1 orc1 with
    | some (e',H',bs',rq',orc')=>some (e',H',bs++bs',rq++rq',orc')
    | none=>none
   | none=>none
  | none=>none
structure TraceW (P:Program) (nt:Nat) (ops:Array Oper) (bs:List Bool) (rq:List Req) (k n:Nat) (E:Nat→List (Nat × D)) (HH:Nat→List Ob) (V:Nat→D):Prop where
 step:∀ i,k≤i→i < n→∃ o orc b r orc',ops[i]? = some o∧stepDw P ops i (HH i) (E i) orc o=some (V i,HH (i+1),b,r,orc')∧(∀ x∈b,x∈bs)∧(∀ x∈r,x∈rq)
 put:∀ i,k≤i→i < n→∃ o,ops[i]? = some o∧putE nt o.dst (V i) (E i)=some (E (i+1))
theorem Zel {P:Program} {nt:Nat} {ops:Array Oper}:∀ (l:List Oper) (k:Nat) (env env':List (Nat × D)) (H H':List Ob) (orc orc':List Res) (bs:List Bool) (rq:List Req),(∀ (j:Nat),l[j]? = ops[k+j]? ∨ l.length≤j) →
  runDw P nt ops k l env H orc=some (env',H',bs,rq,orc')→∃ E HH V,E k=env∧HH k=H∧E (k+l.length)=env'∧HH (k+l.length)=H'∧TraceW P nt ops bs rq k (k+l.length) E HH V
 | [],k,env,env',H,H',orc,orc',bs,rq,_,h=>by
  simp only [runDw,Option.some.injEq,Prod.mk.injEq] at h
  obtain ⟨rfl,rfl,rfl,rfl,rfl⟩:=h
  exact ⟨fun _=>env,fun _=>H,fun _=>.any,rfl,rfl,rfl,rfl,⟨fun i h1 h2=>by simp at h2; omega,fun i h1 h2=>by simp at h2; omega⟩⟩
 | o :: l,k,env,env',H,H',orc,orc',bs,rq,hl,h=>by
  simp only [runDw] at h
  split at h <;> try cases h
  rename_i d H1 b1 r1 orc1 hs
  split at h <;> try cases h
  rename_i e he
  split at h <;> try cases h
  rename_i b2 r2 hr
  have ho:ops[k]? = some o:=by
   rcases hl 0 with h1 | h1
   ·simpa using h1.symm
   ·simp at h1
  obtain ⟨E,HH,V,hE,hH,hE',hH',hT⟩:=Zel l (k+1) e env' H1 H' orc1 orc' b2 r2 (fun j=>by
   rcases hl (j+1) with h1 | h1
   ·left; simpa [Nat.add_assoc,Nat.add_comm 1 j] using h1
   ·right; simp at h1; exact h1) hr
  refine ⟨fun i=>if i=k then env else E i,fun i=>if i=k then H else HH i,fun i=>if i=k then d else V i,by simp,by simp,?_,?_,⟨fun i h1 h2=>?_,fun i h1 h2=>?_⟩⟩
  ·simp only [List.length_cons]
   rw [if_neg (by omega),show k+(l.length+1)=k+1+l.length by omega]
   exact hE'
  ·simp only [List.length_cons]
   rw [if_neg (by omega),show k+(l.length+1)=k+1+l.length by omega]
   exact hH'
  ·by_cases hik:i=k
   ·subst hik
    simp only [if_true]
    rw [if_neg (by omega),hH]
    exact ⟨o,orc,b1,r1,orc1,ho,hs,fun x hx=>List.mem_append_left _ hx,fun x hx=>List.mem_append_left _ hx⟩
   ·simp only [if_neg hik]
    rw [if_neg (by omega)]
    obtain ⟨o',orc',b,r,orc'',h3,h4,h5,h6⟩:=hT.step i (by omega) (by simp at h2; omega)
    exact ⟨o',orc',b,r,orc'',h3,h4,fun x hx=>List.mem_append_right _ (h5 x hx),fun x hx=>List.mem_append_right _ (h6 x hx)⟩
  ·by_cases hik:i=k
   ·subst hik
    simp only [if_true]
    rw [if_neg (by omega)]
    exact ⟨o,ho,by rw [hE]; exact he⟩
   ·simp only [if_neg hik]
    rw [if_neg (by omega)]
    exact hT.put i (by omega) (by simp at h2; omega)
theorem R2 {P:Program} {nt:Nat} {ops:Array Oper} {bs:List Bool} {rq:List Req} {n:Nat} {E:Nat→List (Nat × D)} {HH:Nat→List Ob} {V:Nat→D} (hnd:dstsB ops=true) (hT:TraceW P nt ops bs rq 0 n E HH V) :
  ∀ k,k≤n→∀ t,find (E k) t=valL ops V (E 0) (· < k) t
 | 0,_,t=>by rw [WW]; intro i _ h; omega
 | k+1,hk,t=>by
  have ih:=R2 hnd hT k (by omega) t
  obtain ⟨o,ho,hp⟩:=hT.put k (by omega) (by omega)
  unfold putE at hp
  split at hp
  ·rename_i hd
   simp only [Option.some.injEq] at hp
   rw [← hp,ih]
   refine QE hnd fun i hi=>⟨fun h=>by omega,fun h=>?_⟩
   rcases Nat.lt_or_ge i k with h1 | h1
   ·exact h1
   ·have:i=k:=by omega
    subst this
    rw [ho] at hi
    simp [hd] at hi
  ·rename_i u hd
   cases hlt:Nat.blt u nt with
   | false=>simp [hlt] at hp
   | true =>
    simp only [hlt,cond_true,Option.some.injEq] at hp
    rw [← hp]
    simp only [find]
    have hdk:(ops[k]?).bind (·.dst)=some u:=by rw [ho]; exact hd
    cases hut:Nat.beq u t with
    | true =>
     obtain rfl:=Nat.eq_of_beq_eq_true hut
     simp only [cond_true]
     rw [Vn hnd hdk (by omega)]
    | false =>
     simp only [cond_false]
     rw [ih]
     have hne:u ≠ t:=Nat.ne_of_beq_eq_false hut
     refine QE hnd fun i hi=>⟨fun h=>by omega,fun h=>?_⟩
     rcases Nat.lt_or_ge i k with h1 | h1
     ·exact h1
     ·have:i=k:=by omega
      subst this
      rw [hdk] at hi
      simp at hi
      exact absurd hi hne
def cmpB (ops:Array Oper):Bool :=
 let M:=Region.before ops
 ops.toList.zipIdx.all fun p=>!wrB p.1.op||ops.toList.zipIdx.all fun q=>stillB q.1.op||Nat.beq p.2 q.2||bif Nat.blt q.2 p.2 then (M.getD p.2 0).testBit q.2 else (M.getD q.2 0).testBit p.2
theorem ZdD {ops:Array Oper} (h:cmpB ops=true) {w i:Nat} {ow oi:Oper} (hw:ops[w]? = some ow) (hi:ops[i]? = some oi) (h1:wrB ow.op=true) (h2:stillB oi.op=false) (hne:w ≠ i) :
  (i < w∧((Region.before ops).getD w 0).testBit i=true)∨(w < i∧((Region.before ops).getD i 0).testBit w=true):=by
 have a1:=List.all_eq_true.1 h (ow,w) (by rw [List.mem_zipIdx_iff_getElem?]; simpa using hw)
 simp only [h1,Bool.not_true,Bool.false_or] at a1
 have a2:=List.all_eq_true.1 a1 (oi,i) (by rw [List.mem_zipIdx_iff_getElem?]; simpa using hi)
 have e:Nat.beq w i=false:=by
  cases hb:Nat.beq w i with
  | false=>rfl
  | true=>exact absurd (Nat.eq_of_beq_eq_true hb) hne
 simp only [h2,e,Bool.false_or] at a2
 cases hlt:Nat.blt i w with
 | true=>rw [hlt] at a2; exact .inl ⟨XW hlt,a2⟩
 | false =>
  rw [hlt] at a2
  refine .inr ⟨?_,a2⟩
  rcases Nat.lt_or_ge i w with h3 | h3
  ·have:Nat.blt i w=true:=Nat.ble_eq_true_of_le h3
   rw [this] at hlt; cases hlt
  ·omega
theorem R3 {P:Program} {nt:Nat} {ops:Array Oper} {bs:List Bool} {rq:List Req} {n:Nat} {E:Nat→List (Nat × D)} {HH:Nat→List Ob} {V:Nat→D} (hT:TraceW P nt ops bs rq 0 n E HH V) {p:Nat} :
  ∀ (m:Nat),p+m≤n→(∀ w o,p≤w→w < p+m→ops[w]? = some o→wrB o.op=false)→HH (p+m)=HH p
 | 0,_,_=>rfl
 | m+1,hn,h=>by
  have ih:=R3 hT (p:=p) m (by omega) fun w o h1 h2=>h w o h1 (by omega)
  obtain ⟨o,orc,b,r,orc',ho,hs,_⟩:=hT.step (p+m) (Nat.zero_le _) (by omega)
  have hw:=h (p+m) o (by omega) (by omega) ho
  unfold stepDw at hs
  rw [hw] at hs
  simp only at hs
  split at hs
  ·simp only [Option.some.injEq,Prod.mk.injEq] at hs
   exact hs.2.1.symm.trans ih
  ·cases hs
structure DWInv (F:Fr) (nt:Nat) (ops:Array Oper) (HH:Nat→List Ob) (V:Nat→D) (env0:List (Nat × D)) (listed:Array Bool) (a:Act) (c:Ctx):Prop where
 H:∃ q,q≤ops.size∧c.H=HH q∧(∀ w o,ops[w]? = some o→wrB o.op=true→w < q→listed.getD w false=true)∧(∀ w o,ops[w]? = some o→wrB o.op=true→q≤w→listed.getD w false=false)
 inv:Inv F c
 env:∀ t,GV (yielded ops a.tmps) c (a.tmps.getD t undef) (valL ops V env0 (fun i=>listed.getD i false=true) t)
 size:a.tmps.size=nt
 defers:a.defers=[]
 opt:∀ t j w d,valL ops V env0 (fun i=>listed.getD i false=true) t = .opt j w d→listed.getD j false=true
 lsize:listed.size=ops.size
 closed:∀ i j,Waits ops i j→listed.getD i false=true→listed.getD j false=true
theorem Zh4 {P:Program} {F:Fr} [GF P F] {nt:Nat} {ops:Array Oper} {bs:List Bool} {rq:List Req} {E:Nat→List (Nat × D)} {HH:Nat→List Ob} {V:Nat→D} (hfl:flowB ops=true) (hcm:cmpB ops=true)
  (hT:TraceW P nt ops bs rq 0 ops.size E HH V) (hb:∀ b∈bs,b=true) (hq:∀ q∈rq,q.ok P) {Q:Exit→Act→World→Prop} (orc:List Res)
  (hQ:∀ a c,RInv F nt ops ops.size ⟨E ops.size,HH ops.size,orc⟩ a c→Q .normal a c.w) :
  ∀ (fuel:Nat) (listed:Array Bool) (a:Act) (c:Ctx),DWInv F nt ops HH V (E 0) listed a c→cnt listed+fuel=ops.size→wpAny P .any ops Q fuel listed a c.w:=by
 simp only [flowB,Bool.and_eq_true,List.all_eq_true] at hfl
 obtain ⟨hnd,hfl⟩:=hfl
 have flow:∀ i o,ops[i]? = some o→flowAt ops (Region.before ops) i o=true:=fun i o ho=>by
  have hlt:=(Array.getElem?_eq_some_iff.1 ho).1
  refine hfl (o,i) ?_
  rw [List.mem_zipIdx_iff_getElem?]
  simpa using ho
 have fin:∀ (listed:Array Bool) a c,DWInv F nt ops HH V (E 0) listed a c→(∀ i,i < ops.size→listed.getD i false=true)→Q .normal a c.w:=fun listed a c hD hall=>by
  have hval:∀ t,find (E ops.size) t=valL ops V (E 0) (fun i=>listed.getD i false=true) t:=fun t=>by
   rw [R2 hnd hT ops.size (Nat.le_refl _) t]
   refine QE hnd fun i hi=>⟨fun h=>hall i h,fun _=>?_⟩
   obtain ⟨o,ho,_⟩:=Option.bind_eq_some_iff.1 hi
   exact (Array.getElem?_eq_some_iff.1 ho).1
  have hHf:c.H=HH ops.size:=by
   obtain ⟨q,hq1,hq2,hq3,hq4⟩:=hD.H
   rw [hq2]
   have:=R3 hT (p:=q) (ops.size - q) (by omega) fun w o h1 h2 ho=>by
    cases hw:wrB o.op with
    | false=>rfl
    | true =>
     have h3:=hq4 w o ho hw h1
     rw [hall w (by omega)] at h3; cases h3
   rw [show q+(ops.size - q)=ops.size by omega] at this
   exact this.symm
  refine hQ a c ⟨hHf,hD.inv,fun t=>?_,hD.size,hD.defers,fun t j w d hf=>?_⟩
  ·show GV _ _ _ (find (E ops.size) t)
   rw [hval]; exact hD.env t
  ·have hf:find (E ops.size) t = .opt j w d:=hf
   rw [hval] at hf
   have:=hD.opt t j w d hf
   rcases Nat.lt_or_ge j listed.size with h | h
   ·rw [hD.lsize] at h; exact h
   ·simp [Array.getElem?_eq_none h] at this
 -- nothing is ready: all are listed
 have stuckAll:∀ (listed:Array Bool),listed.size=ops.size→Region.ready .any ops listed=[]→∀ i,i < ops.size→listed.getD i false=true:=by
  intro listed hls hr i
  induction i using Nat.strongRecOn with
  | _ i ih =>
   intro hi
   cases hl:listed.getD i false with
   | true=>rfl
   | false =>
    exfalso
    have:i∈Region.ready .any ops listed:=by
     rw [mem_ready]
     refine ⟨by simp [hls,hi] at hl ⊢; exact hl,ops[i],by simp [hi],fun e he hbi=>?_⟩
     have h1:=flow i ops[i] (by simp [hi])
     simp only [flowAt,Bool.and_eq_true] at h1
     have h2:=Array.all_eq_true'.1 h1.1.1 e he
     simp only [hbi,Bool.not_true,Bool.false_or] at h2
     have h3:=XW h2
     exact ih e.on h3 (by omega)
    rw [hr] at this
    cases this
 intro fuel
 induction fuel with
 | zero =>
  intro listed a c hD hcnt
  have hall:∀ i,i < ops.size→listed.getD i false=true:=by
   have:=R1 (listed:=listed) (by rw [hD.lsize]; omega)
   rw [hD.lsize] at this
   exact this
  refine ⟨?_,fin listed a c hD hall⟩
  cases hr:Region.ready .any ops listed with
  | nil=>rfl
  | cons i r =>
   exfalso
   have:i∈Region.ready .any ops listed:=by rw [hr]; exact List.mem_cons_self
   obtain ⟨h1,o,ho,_⟩:=mem_ready.1 this
   have hi:=(Array.getElem?_eq_some_iff.1 ho).1
   have h2:=hall i hi
   simp [hD.lsize,hi] at h1 h2
   rw [h1] at h2
   cases h2
 | succ fuel ih =>
  intro listed a c hD hcnt
  refine ⟨fun hr=>fin listed a c hD (stuckAll listed hD.lsize hr),fun i hi=>?_⟩
  obtain ⟨hun,o,ho,hall⟩:=mem_ready.1 hi
  have hilt:=(Array.getElem?_eq_some_iff.1 ho).1
  have hunf:listed.getD i false=false:=by simp [hD.lsize,hilt] at hun ⊢; exact hun
  have hwaits:∀ j,Waits ops i j→listed.getD j false=true:=fun j ⟨o',ho',e,he,hbi,hon⟩=>by
   rw [ho] at ho'
   cases ho'
   rw [← hon]
   exact hall e he hbi
  obtain ⟨o',orc0,b,r,orc1,ho',hstep,hb1,hr1⟩:=hT.step i (Nat.zero_le _) hilt
  rw [ho] at ho'
  cases ho'
  have reach:∀ k l,k < ops.size→((Region.before ops).getD k 0).testBit l=true→listed.getD k false=true→listed.getD l false=true:=fun k l hk hb2 hl =>
   Qg hD.closed (YW ops k l hk hb2) (fun j hj=>hD.closed _ _ hj hl)
  have reachI:∀ l,((Region.before ops).getD i 0).testBit l=true→listed.getD l false=true:=fun l hb2=>Qg hD.closed (YW ops i l hilt hb2) hwaits
  -- the objects are those of the text's order, where they are looked at
  have hHi:stillB o.op=false→c.H=HH i:=fun hst=>by
   obtain ⟨q,hq1,hq2,hq3,hq4⟩:=hD.H
   rw [hq2]
   rcases Nat.lt_or_ge i q with hiq | hiq
   ·have:=R3 hT (p:=i) (q - i) (by omega) fun w ow h1 h2 how=>by
     cases hw:wrB ow.op with
     | false=>rfl
     | true =>
      have hwl:=(Array.getElem?_eq_some_iff.1 how).1
      have h3:=hq3 w ow how hw (by omega)
      have hne:w ≠ i:=fun e=>by subst e; rw [hunf] at h3; cases h3
      rcases ZdD hcm how ho hw hst hne with ⟨_,h5⟩ | ⟨h4,_⟩
      ·rw [reach w i hwl h5 h3] at hunf; cases hunf
      ·omega
    rw [show i+(q - i)=q by omega] at this
    exact this
   ·have:=R3 hT (p:=q) (i - q) (by omega) fun w ow h1 h2 how=>by
     cases hw:wrB ow.op with
     | false=>rfl
     | true =>
      have h3:=hq4 w ow how hw h1
      have hne:w ≠ i:=by omega
      rcases ZdD hcm how ho hw hst hne with ⟨h4,_⟩ | ⟨_,h5⟩
      ·omega
      ·rw [reachI w h5] at h3; cases h3
    rw [show q+(i - q)=i by omega] at this
    exact this.symm
  have hfa:=flow i o ho
  simp only [flowAt,Bool.and_eq_true] at hfa
  obtain ⟨⟨hf1,hf2⟩,hf3⟩:=hfa
  -- what the operation looks at has its value of the text's order
  have same:∀ t∈needs ops o,valL ops V (E 0) (fun i=>listed.getD i false=true) t=find (E i) t:=fun t ht=>by
   rw [R2 hnd hT i (by omega) t]
   refine QE hnd fun k hk=>?_
   have h1:=List.all_eq_true.1 hf3 t ht
   obtain ⟨ok,hok,hdk⟩:=Option.bind_eq_some_iff.1 hk
   have hklt:=(Array.getElem?_eq_some_iff.1 hok).1
   have h2:=List.all_eq_true.1 h1 (ok,k) (by rw [List.mem_zipIdx_iff_getElem?]; simpa using hok)
   simp only [hdk] at h2
   have e1:Nat.beq t t=true:=Nat.beq_refl t
   rw [e1] at h2
   simp only [Bool.not_true,Bool.false_or,Bool.or_eq_true,Bool.and_eq_true] at h2
   rcases h2 with (h2 | ⟨h2,h3⟩) | ⟨h2,h3⟩
   ·obtain rfl:=Nat.eq_of_beq_eq_true h2
    exact ⟨fun h=>(by rw [hunf] at h; cases h),fun h=>by omega⟩
   ·exact ⟨fun _=>XW h2,fun _=>Qg hD.closed (YW ops i k hilt h3) hwaits⟩
   ·have hik:=XW h2
    refine ⟨fun h=>?_,fun h=>by omega⟩
    have:=Qg hD.closed (YW ops k i hklt h3) (fun j hj=>hD.closed _ _ hj h)
    rw [hunf] at this
    cases this
  have hops:∀ x∈o.op.operands.toList,GV (yielded ops a.tmps) c (a.eval x) (evD (E i) x):=fun x hx=>by
   cases x with
   | tmp t =>
    show GV _ _ _ (find (E i) t)
    rw [← same t (by simp only [needs,List.mem_append,List.mem_filterMap]; exact .inl ⟨.tmp t,hx,rfl⟩)]
    exact hD.env t
   | const v=>exact X9 (Zbk c v)
   | global g=>exact X9 WS
   | func f=>exact X9 ⟨#[],rfl,rfl,fun i v d h1 _=>by simp at h1⟩
  have hgf:GuardFacts ops a c (E i) (gch ops 20 o.guard):=fun p hp t ht=>by
   rw [← same t (by simp only [needs,List.mem_append,List.mem_filterMap]; exact .inr ⟨p,hp,ht⟩)]
   exact hD.env t
  -- the new state
  have newH:wrB o.op=false→∀ c':Ctx,c'.H=c.H→∃ q,q≤ops.size∧c'.H=HH q∧(∀ w ow,ops[w]? = some ow→wrB ow.op=true→w < q→(listed.setIfInBounds i true).getD w false=true)∧(∀ w ow,ops[w]? = some ow→wrB ow.op=true→q≤w→(listed.setIfInBounds i true).getD w false=false):=fun hwo c' hc'=>by
   obtain ⟨q,hq1,hq2,hq3,hq4⟩:=hD.H
   have hne:∀ w ow,ops[w]? = some ow→wrB ow.op=true→i ≠ w:=fun w ow how hw e=>by subst e; rw [ho] at how; cases how; rw [hwo] at hw; cases hw
   exact ⟨q,hq1,hc'.trans hq2,fun w ow how hw hwq=>by rw [getD_set_ne false (hne w ow how hw)]; exact hq3 w ow how hw hwq,fun w ow how hw hwq=>by rw [getD_set_ne false (hne w ow how hw)]; exact hq4 w ow how hw hwq⟩
  have new:∀ v c',Inv F c'→(∃ q,q≤ops.size∧c'.H=HH q∧(∀ w ow,ops[w]? = some ow→wrB ow.op=true→w < q→(listed.setIfInBounds i true).getD w false=true)∧(∀ w ow,ops[w]? = some ow→wrB ow.op=true→q≤w→(listed.setIfInBounds i true).getD w false=false)) →
    (∀ u e,TV c u e→TV c' u e)→(∀ d,V i=d→GV (yielded ops (a.put o.dst v).tmps) c' v d)→(∀ j w d,V i = .opt j w d→listed.getD j false=true) →
    wpAny P .any ops Q fuel (listed.setIfInBounds i true) (a.put o.dst v) c'.w:=fun v c' hI' hHn htr hv hvo=>by
   have hL:∀ j,(listed.setIfInBounds i true).getD j false=true↔j=i∨listed.getD j false=true:=fun j=>by
    by_cases hji:j=i
    ·subst hji; simp [hD.lsize,hilt]
    ·rw [getD_set_ne false (Ne.symm hji)]; simp [hji]
   have hvalo:∀ t,(∀ u,o.dst=some u→u ≠ t)→valL ops V (E 0) (fun j=>(listed.setIfInBounds i true).getD j false=true) t=valL ops V (E 0) (fun j=>listed.getD j false=true) t:=fun t ht=>by
    refine QE hnd fun k hk=>?_
    show (listed.setIfInBounds i true).getD k false=true↔_
    rw [hL]
    refine ⟨fun h=>?_,.inr⟩
    rcases h with rfl | h
    ·rw [ho] at hk
     exact absurd rfl (ht t hk)
    ·exact h
   have hyj:∀ j,listed.getD j false=true→yielded ops (a.put o.dst v).tmps j=yielded ops a.tmps j:=fun j hj=>VZ fun t ht e=>by
    have:=Ws hnd (show (ops[i]?).bind (·.dst)=some t by rw [ho]; exact ht) e
    subst this
    rw [hunf] at hj
    cases hj
   have keep:∀ t,GV (yielded ops (a.put o.dst v).tmps) c' (a.tmps.getD t undef) (valL ops V (E 0) (fun j=>listed.getD j false=true) t):=fun t=>by
    have h1:=GL htr (hD.env t)
    cases hf:valL ops V (E 0) (fun j=>listed.getD j false=true) t <;> rw [hf] at h1 <;> try exact h1
    rename_i j w d
    simp only [GV] at h1 ⊢
    rw [hyj j (hD.opt t j w d hf)]
    exact h1
   refine ih _ _ c' ⟨hHn,hI',fun t=>?_,by rw [G6]; exact hD.size,by rw [UQ]; exact hD.defers,fun t j w d hf=>?_,by simp [hD.lsize],fun p q hpq hp=>?_⟩ ?_
   ·by_cases hdt:o.dst=some t
    ·have hit:(ops[i]?).bind (·.dst)=some t:=by rw [ho]; exact hdt
     rw [Vn hnd hit ((hL i).2 (.inl rfl))]
     have htl:t < a.tmps.size:=by
      obtain ⟨o2,ho2,hp⟩:=hT.put i (Nat.zero_le _) hilt
      rw [ho] at ho2
      cases ho2
      rw [hdt] at hp
      simp only [putE] at hp
      cases hlt:Nat.blt t nt with
      | false=>simp [hlt] at hp
      | true=>rw [hD.size]; exact XW hlt
     have e:(a.put o.dst v).tmps.getD t undef=v:=by rw [hdt]; exact WA htl
     rw [e]
     exact hv _ rfl
    ·rw [hvalo t (fun u hu e=>hdt (by rw [hu,e])),GK hdt]
     exact keep t
   ·rw [hL]
    right
    by_cases hdt:o.dst=some t
    ·have hit:(ops[i]?).bind (·.dst)=some t:=by rw [ho]; exact hdt
     rw [Vn hnd hit ((hL i).2 (.inl rfl))] at hf
     exact hvo j w d hf
    ·rw [hvalo t (fun u hu e=>hdt (by rw [hu,e]))] at hf
     exact hD.opt t j w d hf
   ·rw [hL] at hp ⊢
    right
    rcases hp with rfl | hp
    ·exact hwaits q hpq
    ·exact hD.closed p q hpq hp
   ·rw [Zcg (by rw [hD.lsize]; exact hilt) hunf]
    omega
  unfold wpOp
  simp only [ho]
  unfold stepDw at hstep
  cases hwr:wrB o.op with
  | true =>
   rw [hwr] at hstep
   simp only at hstep
   split at hstep <;> try cases hstep
   rename_i hgd hheap
   have hw:Region.wanted o (yielded ops a.tmps)=true:=by simp [Region.wanted,hgd]
   simp only [hw,if_true]
   have hst:=ZdC hwr
   have hρ:∀ x∈o.op.operands.toList,TV c (a.eval x) (unwrap [] (evD (E i) x)):=fun x hx=>WV (a:=a) (ops:=ops) (by simp) (hops x hx)
   obtain ⟨v,c',hrun',hI',hH',htr,htv⟩:=ZdB (ρc:=a.eval) hD.inv hρ (by rw [hHi hst]; exact hheap) (fun b hb'=>hb b (hb1 b hb'))
   have hnew:=new v c' hI' ⟨i+1,by omega,hH',fun w ow how hw hwq=>by
     rcases Nat.lt_or_ge w i with h1 | h1
     ·rw [getD_set_ne false (by omega)]
      rcases ZdD hcm how ho hw hst (by omega) with ⟨h4,_⟩ | ⟨_,h5⟩
      ·omega
      ·exact reachI w h5
     ·have:w=i:=by omega
      subst this
      simp [hD.lsize,hilt],fun w ow how hw hwq=>by
     rw [getD_set_ne false (by omega)]
     cases hl:listed.getD w false with
     | false=>rfl
     | true =>
      have hwl:=(Array.getElem?_eq_some_iff.1 how).1
      rcases ZdD hcm how ho hw hst (by omega) with ⟨_,h5⟩ | ⟨h4,_⟩
      ·rw [reach w i hwl h5 hl] at hunf; cases hunf
      ·omega⟩ (fun u e h=>htr u e h) (fun d' hd'=>by rw [← hd']; exact X9 htv) (fun j w d' h=>by
     rw [h] at htv
     simp only [TV,AV] at htv
     exact absurd htv Qt)
   refine .inl ?_
   unfold Oper.wp
   rcases hrun' with h1 | ⟨h1,rfl⟩
   ·rw [h1]; exact hnew
   ·rw [h1]; exact hnew
  | false =>
  rw [hwr] at hstep
  simp only at hstep
  split at hstep
  case h_2=>cases hstep
  rename_i d0 b0 r0 o0 hstep0
  simp only [Option.some.injEq,Prod.mk.injEq] at hstep
  obtain ⟨hV0,_,rfl,rfl,rfl⟩:=hstep
  rw [hV0] at hstep0
  rename_i hstep
  have hstep:=hstep0
  unfold stepDr at hstep
  split at hstep <;> try cases hstep
  rename_i g hg
  have hopc:∀ {x},opD P (HH i) ops (E i) (gch ops 20 o.guard) orc0 g o=x→opD P c.H ops (E i) (gch ops 20 o.guard) orc0 g o=x:=fun {x} h=>by
   cases hst:stillB o.op with
   | true=>rw [ZgO (HH i) hst]; exact h
   | false=>rw [hHi hst]; exact h
  split at hstep
  ·rename_i d bs0 rq0 orc2 j want hop hgd
   cases hlt:Nat.blt j i with
   | false=>simp [hlt] at hstep
   | true =>
    simp only [hlt,cond_true,Option.some.injEq,Prod.mk.injEq] at hstep
    obtain ⟨hV,rfl,rfl,rfl⟩:=hstep
    have hji:=XW hlt
    have hyj:∀ v,yielded ops (a.put o.dst v).tmps j=yielded ops a.tmps j:=fun v=>VZ fun t ht e=>by
     have:=Ws hnd (show (ops[i]?).bind (·.dst)=some t by rw [ho]; exact ht) e
     omega
    have hjl:listed.getD j false=true:=by
     rw [hgd] at hf2
     simp only at hf2
     obtain ⟨e,he,h1⟩:=Array.any_eq_true'.1 hf2
     simp only [Bool.and_eq_true] at h1
     rw [← Nat.eq_of_beq_eq_true h1.2]
     exact hall e he h1.1
    have hwant:Region.wanted o (yielded ops a.tmps)=(yielded ops a.tmps j==some want):=by simp [Region.wanted,hgd]
    have hvo:∀ j' w d',V i = .opt j' w d'→listed.getD j' false=true:=fun j' w d' h=>by rw [← hV] at h; cases h; exact hjl
    cases hw:Region.wanted o (yielded ops a.tmps) with
    | true =>
     simp only [if_true]
     refine .inl (WP hD.inv hops hgf hg hw (hopc hop) (fun b hb'=>hb b (hb1 b hb')) (fun q hq'=>hq q (hr1 q hq')) fun v c' hI' haf=>?_)
     obtain ⟨hgo,_,htv⟩:=haf
     refine new v c' hI' (newH hwr c' hgo.H) (fun _ _=>hgo.tv) (fun d' hd'=>?_) hvo
     rw [← hd',← hV]
     refine .inl ⟨?_,htv⟩
     rw [hyj]
     rw [hw] at hwant
     simpa using hwant.symm
    | false =>
     simp only [Bool.false_eq_true,if_false]
     refine new undef c hD.inv (newH hwr c rfl) (fun _ _ h=>h) (fun d' hd'=>?_) hvo
     rw [← hd',← hV]
     refine .inr ⟨?_,rfl⟩
     rw [hyj]
     rw [hw] at hwant
     simpa using hwant.symm
  ·rename_i d bs0 rq0 orc2 hop hgd
   simp only [Option.some.injEq,Prod.mk.injEq] at hstep
   obtain ⟨hV,rfl,rfl,rfl⟩:=hstep
   have hw:Region.wanted o (yielded ops a.tmps)=true:=by simp [Region.wanted,hgd]
   simp only [hw,if_true]
   refine .inl (WP hD.inv hops hgf hg hw (hopc hop) (fun b hb'=>hb b (hb1 b hb')) (fun q hq'=>hq q (hr1 q hq')) fun v c' hI' haf=>?_)
   obtain ⟨hgo,_,htv⟩:=haf
   refine new v c' hI' (newH hwr c' hgo.H) (fun _ _=>hgo.tv) (fun d' hd'=>?_) (fun j w d' h=>?_)
   ·rw [← hd',← hV]; exact X9 htv
   ·rw [← hV] at h
    subst h
    simp only [TV,AV] at htv
    exact absurd htv Qt
  ·cases hstep
def regW (P:Program) (ops:Array Oper) (orc:List Res) (keep:List Nat) (hn:Nat) (s:St):Option (St × List Bool × List Req) :=
 bif flowB ops&&P.follows .mixedOrders&&cmpB ops then
  (match runDw P s.nt ops 0 ops.toList s.env s.H orc with
  | some (env',H',bs,rq,_)=>(cutS hn ⟨s.nt,fin env' keep,H'⟩).map fun s'=>(s',bs,rq)
  | none=>none) else none
theorem Zh5 {P:Program} {Q:Exit→St→Prop} {s:St} {id:Nat} {ops:Array Oper} (orc:List Res) (keep:List Nat) (hn:Nat) {s':St} {bs:List Bool} {rq:List Req}
  (h:regW P ops orc keep hn s=some (s',bs,rq)) (hb:∀ b∈bs,b=true) (hq:∀ q∈rq,q.ok P) (k:Q .normal s'):AWP P (.region id ops true) Q s:=by
 rintro F a w hG ⟨c,rfl,hH,hI,henv,hsz,hd⟩
 unfold regW at h
 cases hc:(flowB ops&&P.follows .mixedOrders&&cmpB ops) with
 | false=>rw [hc] at h; cases h
 | true =>
  rw [hc] at h
  simp only [cond_true] at h
  simp only [Bool.and_eq_true] at hc
  split at h <;> try cases h
  rename_i env' H' bs0 rq0 orc0 hrun
  obtain ⟨s1,hcut,heq⟩:=Option.map_eq_some_iff.1 h
  simp only [Prod.mk.injEq] at heq
  obtain ⟨rfl,rfl,rfl⟩:=heq
  refine wp_region_any hc.1.2 ?_
  obtain ⟨E,HH,V,hE0,hH0,hE1,hH1,hT⟩:=Zel ops.toList 0 s.env env' s.H H' orc orc0 bs0 rq0 (fun j=>.inl (by simp)) hrun
  simp only [Array.length_toList,Nat.zero_add] at hE1 hH1 hT
  let c':Ctx:={ c with w:=c.w.drew }
  have hgo:Goes c c':=⟨rfl,rfl,fun _ h=>h,fun _ _=>rfl,fun b hb=>(hI.imm b hb).1,fun id b hb=>(hI.loc id b hb).2.1⟩
  have hI':Inv F c':=hI.goes hgo (Bw.refl _ _).drew (fun _ h=>.inl h)
  have hnone:∀ i,¬ (Array.replicate ops.size false).getD i false=true:=fun i h=>by rw [J8] at h; cases h
  have hval:∀ t,valL ops V (E 0) (fun i=>(Array.replicate ops.size false).getD i false=true) t=find s.env t:=fun t=>by rw [WW (fun i _=>hnone i),hE0]
  have hD:DWInv F s.nt ops HH V (E 0) (Array.replicate ops.size false) a c':=by
   refine ⟨⟨0,Nat.zero_le _,hH.trans hH0.symm,fun w o _ _ h=>by omega,fun w o _ _ _=>by rw [J8]⟩,hI',fun t=>?_,hsz,hd,fun t j w d hf=>?_,by simp,fun i j _ h=>absurd h (hnone i)⟩
   ·rw [hval]; exact X9 (hgo.tv (henv t))
   ·rw [hval] at hf
    have:=henv t
    rw [hf] at this
    simp only [TV,AV] at this
    exact absurd this Qt
  refine Zh4 hc.1.1 hc.2 hT hb hq [] (fun a' c'' hR=>⟨s1,k,?_⟩) ops.size _ a c' hD (by simp [cnt,List.countP_replicate])
  have hR':=WZ hR keep
  have e1:E ops.size=env':=hE1
  have e2:HH ops.size=H':=hH1
  simp only [e1,e2] at hR'
  exact U5 hcut F a' c''.w hR'
end Nv
namespace Nv
open Go Go.RowKit
def initEnv:Nat→List D→List (Nat × D)
 | _,[]=>[]
 | k,d :: ds=>(k,d) :: initEnv (k+1) ds
theorem ZgP:∀ (ds:List D) (k t:Nat),find (initEnv k ds) t = .any∨(k≤t∧∃ d,ds[t - k]? = some d∧find (initEnv k ds) t=d)
 | [],k,t=>.inl rfl
 | d :: ds,k,t=>by
  simp only [initEnv,find]
  cases h:Nat.beq k t with
  | true =>
   obtain rfl:=Nat.eq_of_beq_eq_true h
   exact .inr ⟨Nat.le_refl _,d,by simp,rfl⟩
  | false =>
   have hne:k ≠ t:=Nat.ne_of_beq_eq_false h
   simp only [cond_false]
   rcases ZgP ds (k+1) t with h1 | ⟨h1,d',h2,h3⟩
   ·exact .inl h1
   ·refine .inr ⟨by omega,d',?_,h3⟩
    rw [show t - k=(t - (k+1))+1 by omega,List.getElem?_cons_succ]
    exact h2
def res1 (P:Program) (s:St):ResultVar→Option D
 | .tmp t=>some (find s.env t)
 | .cell a t=>match cellsAt s.H (find s.env a) with
  | some cs=>ldD P t cs
  | none=>none
def resL (P:Program) (s:St):List ResultVar→Option (List D)
 | []=>some []
 | r :: rs=>match res1 P s r,resL P s rs with
  | some d,some ds=>some (d :: ds)
  | _,_=>none
def normR (H:List Ob):D→D
 | .agg cs=>.agg (cs.map (normC H))
 | d=>normC H d
def resD (P:Program) (s:St) (rs:List ResultVar):Option D :=
 match resL P s rs with
 | some [d]=>bif pArg (normR s.H d) then some (normR s.H d) else none
 | some ds=>bif (ds.map (normR s.H)).all pArg then some (.tup (ds.map (normR s.H))) else none
 | none=>none
def rdR (a:Act) (r:ResultVar):Sem Value :=
 match r with
 | .tmp t=>pure (a.tmps.getD t undef)
 | .cell x t=>do loadVar t (← asAddr (a.tmps.getD x undef))
theorem ZeO {P:Program} {fn:Func} {a:Act} {w:World} {us:List Value} (h:(fn.results.toList.mapM (rdR a)).run P w = .ok us w) :
  (results fn a.tmps).run P w = .ok (if h:us.toArray.size=1 then us.toArray[0] else .tuple us.toArray) w:=by
 have hm:(fn.results.mapM (rdR a)).run P w = .ok us.toArray w:=by
  rw [Array.mapM_eq_mapM_toList]
  simp only [Sem.run_map,h,Result.andThen_ok]
 show ((fn.results.mapM (rdR a)) >>= fun vs=>pure (if h:vs.size=1 then vs[0] else .tuple vs)).run P w=_
 rw [Sem.run_bind,hm]
 rfl
theorem Zmb {P:Program} {F:Fr} {s:St} {c:Ctx} {a:Act} (hI:Inv F c) (hH:c.H=s.H) (henv:∀ t,TV c (a.tmps.getD t undef) (find s.env t)) {r:ResultVar} {d:D} (h:res1 P s r=some d) :
  ∃ v,(rdR a r).run P c.w = .ok v c.w∧TV c v d:=by
 cases r with
 | tmp t =>
  simp only [res1,Option.some.injEq] at h
  subst h
  exact ⟨_,rfl,henv t⟩
 | cell x t =>
  simp only [res1] at h
  split at h <;> try cases h
  rename_i cs hcs
  obtain ⟨b,off,g,hv,hc,hcv⟩:=Zfw hI (by rw [hH]; exact hcs) (henv x)
  obtain ⟨v',h1,h2⟩:=Zjh h hc hcv
  exact ⟨v',by simp [rdR,hv,asAddr,h1],h2⟩
theorem Zhc {P:Program} {F:Fr} {s:St} {c:Ctx} {a:Act} (hI:Inv F c) (hH:c.H=s.H) (henv:∀ t,TV c (a.tmps.getD t undef) (find s.env t)):∀ (rs:List ResultVar) (ds:List D),resL P s rs=some ds →
  ∃ vs:List Value,(rs.mapM (rdR a)).run P c.w = .ok vs c.w∧vs.length=ds.length ∧
   ∀ (i:Nat) v d,vs[i]? = some v→ds[i]? = some d→TV c v d
 | [],ds,h=>by
  simp only [resL,Option.some.injEq] at h
  subst h
  exact ⟨[],by simp,rfl,fun i v d h1 _=>by simp at h1⟩
 | r :: rs,ds,h=>by
  simp only [resL] at h
  split at h <;> try cases h
  rename_i d ds' h1 h2
  obtain ⟨v,hv1,hv2⟩:=Zmb hI hH henv h1
  obtain ⟨vs,hs1,hs2,hs3⟩:=Zhc hI hH henv rs ds' h2
  refine ⟨v :: vs,?_,by simp [hs2],fun i u e h3 h4=>?_⟩
  ·rw [List.mapM_cons]
   simp only [Sem.run_bind,hv1,Result.andThen_ok,hs1,Sem.run_pure]
  ·cases i with
   | zero=>simp at h3 h4; subst h3; subst h4; exact hv2
   | succ i=>exact hs3 i u e (by simpa using h3) (by simpa using h4)
theorem Zk0 (H:List Ob) (d:D) (h:∀ cs,d ≠ .agg cs):normR H d=normC H d:=by
 cases d <;> first | rfl | exact absurd rfl (h _)
theorem Zh6 {F:Fr} {c:Ctx} (hI:Inv F c) {v:Value} {d:D} (h:TV c v d) (hp:pArg (normR c.H d)=true):AV (NoCtx (Iall c) c.w) v (normR c.H d):=by
 cases d with
 | agg cs =>
  simp only [normR,pArg,List.all_eq_true,List.mem_map,forall_exists_index,and_imp,forall_apply_eq_imp_iff₂] at hp
  obtain ⟨vs,rfl,hvs⟩:=h
  refine ⟨vs,rfl,by simp [hvs.1],fun i v d' h2 h3=>?_⟩
  rw [List.getElem?_map] at h3
  obtain ⟨e,he,rfl⟩:=Option.map_eq_some_iff.1 h3
  exact nopv (Zek hI (hvs.2 i v e h2 he) (hp e (List.mem_of_getElem? he)))
 | fn f cap =>
  simp only [normR,normC,pArg,List.all_eq_true] at hp ⊢
  obtain ⟨vs,rfl,hvs⟩:=h
  exact ⟨vs,rfl,hvs.1,fun i v d h2 h3=>nopv ((Kt (hp d (List.mem_of_getElem? h3)) (hvs.2 i v d h2 h3)).mono (fun _ h=>.inl h) fun _ _=>rfl)⟩
 | tup ds=>simp [normR,normC,pArg,persB] at hp
 | opt j w d=>simp [normR,normC,pArg,persB] at hp
 | _ =>
  rw [Zk0 _ _ (by simp)] at hp ⊢
  refine Kw (nopv (Zek hI ?_ ?_))
  ·simpa only [TV,AV] using h
  ·rw [← Zc1 _ _ (by simp) (by simp)]; exact hp
def Sub (d d':D):Prop:=∀ (c:Ctx) (v:Value),TV c v d→TV c v d'
theorem Sub.rfl {d:D}:Sub d d:=fun _ _ h=>h
def Ends (P:Program) (fn:Func) (r:D) (e:Exit) (s:St):Prop:=(e = .normal∨e = .ret)∧∃ d,resD P s fn.results.toList=some d∧Sub d r
def EndsOwn (fn:Func) (wd n:Nat) (g:Nat→List D) (e:Exit) (s:St):Prop :=
 (e = .normal∨e = .ret)∧∃ t id f,fn.results.toList=[.tmp t]∧find s.env t = .asl id 0 n∧s.H[id]? = some (.arr wd n f)∧∀ i,i < n→f i=g i
theorem Zh7 {fn:Func} {ds:List D} (hn:ds.length≤fn.ntmps) {I0:Nat→Prop} {w:World} {vs:Array Value} (hI0:∀ b,I0 b→b < w.heap.size) (hvs:Vs (AV (NoCtx I0 w)) vs ds) :
  Rel ⟨w,I0,[]⟩ ⟨fn.ntmps,initEnv 0 ds,[]⟩ { tmps:=vs++Array.replicate (fn.ntmps - vs.size) undef,defers:=[] } w:=by
 refine ⟨NoCtx I0 w,rfl,rfl,⟨⟨rfl,rfl,rfl,Nat.le_refl _,Nat.le_refl _,fun _ _ _=>rfl,fun k h=>by simp [Fr.lent] at h⟩,fun b hb=>⟨hI0 b hb,fun _=>hb⟩,fun id b h=>by simp [NoCtx] at h,fun i j b h=>by simp [NoCtx] at h,fun id o h=>by simp [NoCtx] at h,fun _ _=>rfl,fun i v h=>by simp at h,fun h=>absurd rfl h,fun id o j b h=>by simp [NoCtx] at h⟩,fun t=>?_,?_,rfl⟩
 ·show TV _ _ (find (initEnv 0 ds) t)
  rcases ZgP ds 0 t with h | ⟨_,d,h1,h2⟩
  ·rw [h]; exact WS
  ·rw [h2]
   simp only [Nat.sub_zero] at h1
   have hlt:t < vs.size:=by rw [hvs.1]; exact (List.getElem?_eq_some_iff.1 h1).1
   have e:(vs++Array.replicate (fn.ntmps - vs.size) undef).getD t undef=vs[t]:=by
    rw [Array.getD_eq_getD_getElem?,Array.getElem?_append_left hlt]; simp [hlt]
   rw [e]
   exact Zdt (hvs.2 t _ d (by simp [hlt]) h1)
 ·simp [hvs.1]; omega
theorem ZT {P:Program} {f:FuncId} {fn:Func} {code:Code} {ds:List D} {r:D} (hf:P.funcs[f]? = some fn) (hb:fn.body=some code) (hn:Nat.ble ds.length fn.ntmps=true)
  (h:AWP P code (Ends P fn r) ⟨fn.ntmps,initEnv 0 ds,[]⟩):Fn P f ds (.pure r):=by
 intro I0 w vs hGT hI0 hvs
 refine calls_of_wp hf hb (wp_mono (h ⟨w,I0,[]⟩ _ w ⟨hGT,fun g _ hl=>by simp [Fr.lent] at hl⟩ (Zh7 (Nat.le_of_ble_eq_true hn) hI0 hvs)) ?_)
 rintro e a' w' ⟨s',⟨he,d,hd,hsub⟩,c,rfl,hH,hI,henv,hsz,hdef⟩
 have key:∃ v,(results fn a'.tmps).run P c.w = .ok v c.w∧TV (NoCtx (Iall c) c.w) v d:=by
  unfold resD at hd
  split at hd
  ·rename_i d0 hl
   cases hp:pArg (normR s'.H d0) with
   | false=>simp [hp] at hd
   | true =>
    simp only [hp,cond_true,Option.some.injEq] at hd
    subst hd
    obtain ⟨us,h1,h2,h3⟩:=Zhc (P:=P) hI hH henv _ _ hl
    match us,h2 with
    | [v],_ =>
     refine ⟨v,?_,Zdt (by rw [← hH]; exact Zh6 hI (h3 0 v d0 rfl rfl) (by rw [hH]; exact hp))⟩
     rw [ZeO h1]
     rfl
  ·rename_i ds0 hne hl
   cases hp:(ds0.map (normR s'.H)).all pArg with
   | false=>simp [hp] at hd
   | true =>
    simp only [hp,cond_true,Option.some.injEq] at hd
    subst hd
    obtain ⟨us,h1,h2,h3⟩:=Zhc (P:=P) hI hH henv _ _ hl
    refine ⟨.tuple us.toArray,?_,us.toArray,rfl,by simp [h2],fun i v d' h4 h5=>?_⟩
    ·rw [ZeO h1]
     have:¬ us.toArray.size=1:=by
      intro h1
      simp [h2] at h1
      match ds0,h1 with
      | [d1],_=>exact hne d1 rfl
     rw [dif_neg this]
    ·rw [List.getElem?_map] at h5
     obtain ⟨d1,hd1,rfl⟩:=Option.map_eq_some_iff.1 h5
     have hp1:pArg (normR s'.H d1)=true:=List.all_eq_true.1 hp _ (List.mem_map.2 ⟨d1,List.mem_of_getElem? hd1,rfl⟩)
     rw [← hH]
     exact Zh6 hI (h3 i v d1 (by simpa using h4) hd1) (by rw [hH]; exact hp1)
  ·cases hd
 obtain ⟨v,hv1,hv2⟩:=key
 have post:∃ v' I1,Ending.returned v = .returned v'∧Bw w.heap.size w c.w∧Fresh I0 w c.w I1∧RV I1 w.heap.size c.w v' (.pure r):=by
  refine ⟨v,Iall c,rfl,hI.below.below rfl,fun b hb=>?_,hsub _ _ hv2⟩
  rcases hb with hb | ⟨id,hb⟩
  ·rcases Nat.lt_or_ge b w.heap.size with h1 | h1
   ·exact .inl ((hI.imm b hb).2 h1)
   ·exact .inr ⟨h1,(hI.imm b hb).1⟩
  ·exact .inr ⟨(hI.loc id b hb).1.resolve_right (by simp [Fr.lent]),(hI.loc id b hb).2.1⟩
 rcases he with rfl | rfl
 ·exact ⟨hdef,v,hv1,post⟩
 ·exact ⟨hdef,v,hv1,post⟩
theorem Zc3 {P:Program} {f:FuncId} {fn:Func} {code:Code} {ds:List D} {wd n:Nat} {g:Nat→List D} (hf:P.funcs[f]? = some fn) (hb:fn.body=some code) (hn:Nat.ble ds.length fn.ntmps=true)
  (h:AWP P code (EndsOwn fn wd n g) ⟨fn.ntmps,initEnv 0 ds,[]⟩):Fn P f ds (.own wd n g):=by
 intro I0 w vs hGT hI0 hvs
 refine calls_of_wp hf hb (wp_mono (h ⟨w,I0,[]⟩ _ w ⟨hGT,fun g _ hl=>by simp [Fr.lent] at hl⟩ (Zh7 (Nat.le_of_ble_eq_true hn) hI0 hvs)) ?_)
 rintro e a' w' ⟨s',⟨he,t,id,f',hres,hfd,hob,hext⟩,c,rfl,hH,hI,henv,hsz,hdef⟩
 have hv:=henv t
 rw [hfd] at hv
 simp only [TV,AV,CV] at hv
 obtain ⟨wd',n',f'',a,cap,ho,hl,hval,hcap,hor⟩:=hv
 rw [hH,hob] at ho
 cases ho
 have hrun:(results fn a'.tmps).run P c.w = .ok (a'.tmps.getD t undef) c.w:=by
  unfold results
  have:fn.results = #[.tmp t]:=by apply Array.ext'; simpa using hres
  rw [this]
  simp
 have hOV:=hI.obj id _ (by rw [hH]; exact hob)
 have post:∃ v' I1,Ending.returned (a'.tmps.getD t undef) = .returned v'∧Bw w.heap.size w c.w∧Fresh I0 w c.w I1∧RV I1 w.heap.size c.w v' (.own wd n g):=by
  refine ⟨_,c.I,rfl,hI.below.below rfl,fun b hb=>?_,a,cap,hval,hcap,fun i hi=>by rw [← hext i hi]; exact hOV.1 i hi,?_⟩
  ·rcases Nat.lt_or_ge b w.heap.size with h1 | h1
   ·exact .inl ((hI.imm b hb).2 h1)
   ·exact .inr ⟨h1,(hI.imm b hb).1⟩
  ·rcases hor with h0 | ⟨b,hmu,ha,hroom⟩
   ·exact .inl h0
   ·rcases hOV.2 with ⟨h0,_⟩ | ⟨b',cs,T,hb',hh,hn',hcells⟩
    ·rw [hmu] at h0; cases h0
    ·rw [hmu] at hb'
     cases hb'
     obtain ⟨cs',T',hh',hr⟩:=hroom
     rw [hh] at hh'
     cases hh'
     refine .inr ⟨b,cs,T,by simpa using ha,(hI.loc id b hmu).1.resolve_right (by simp [Fr.lent]),(hI.loc id b hmu).2.1,(hI.loc id b hmu).2.2,hh,by simpa using hr,fun i hi j d hd=>hcells i hi j d (by rw [hext i hi]; exact hd)⟩
 rcases he with rfl | rfl
 ·exact ⟨hdef,_,hrun,post⟩
 ·exact ⟨hdef,_,hrun,post⟩
end Nv
namespace Nv
open Go Go.RowKit
def gd {α:Type} (l:List Bool) (k:Option α):Option α:=bif l.all id then k else none
theorem Zy {α:Type} {l:List Bool} {k:Option α} {r:α} (h:gd l k=some r):(∀ b∈l,b=true)∧k=some r:=by
 unfold gd at h
 cases hb:l.all id with
 | false=>simp [hb] at h
 | true =>
  simp only [hb,cond_true] at h
  exact ⟨fun b hb'=>by have:=List.all_eq_true.1 hb b hb'; simpa using this,h⟩
def gc {α:Type} [Inhabited α] (g:Bool) (o:Option α):Option α:=bif g then o else some default
theorem Xn {α:Type} [Inhabited α] {g:Bool} {o:Option α} {r:α} (h:gc g o=some r) (hg:g=true):o=some r:=by
 subst hg; exact h
theorem bind_some {α β:Type} {o:Option α} {f:α→Option β} {r:β} (h:o.bind f=some r):∃ x,o=some x∧f x=some r:=Option.bind_eq_some_iff.1 h
theorem Zz:∀ b∈([]:List Bool),b=true:=by simp
open Classical in
noncomputable def loopM {α β:Type} (f:α→Option (α ⊕ β)) (x:α):Option β:=if h:∃ y,Iter f x y then some h.choose else none
theorem Iter.det {α β:Type} {f:α→Option (α ⊕ β)} {x:α} {y y':β} (h:Iter f x y) (k:Iter f x y'):y=y':=by
 induction h with
 | out h =>
  cases k with
  | out h'=>rw [h] at h'; cases h'; rfl
  | next h' _=>rw [h] at h'; cases h'
 | next h r ih =>
  cases k with
  | out h'=>rw [h] at h'; cases h'
  | next h' r'=>rw [h] at h'; cases h'; exact ih r'
theorem Wt {α β:Type} {f:α→Option (α ⊕ β)} {x:α} {y:β} (h:loopM f x=some y):Iter f x y:=by
 unfold loopM at h
 split at h
 ·rename_i hx
  simp only [Option.some.injEq] at h
  rw [← h]
  exact hx.choose_spec
 ·cases h
theorem UE {α β:Type} {f:α→Option (α ⊕ β)} {x:α} {y:β} (h:Iter f x y):loopM f x=some y:=by
 unfold loopM
 have hx:∃ y,Iter f x y:=⟨y,h⟩
 rw [dif_pos hx,hx.choose_spec.det h]
section
variable {P:Program} {Q:Exit→St→Prop} {s s':St} {y:Code} {id id':Nat}
theorem Zb (h:AWP P y Q s):Then P y Q .normal s:=h
theorem XD (h:Le s s') (k:AWP P y Q s'):Then P y Q .normal s:=Ud h k
theorem XC (h:Q (.exit id) s):Then P y Q (.exit id) s:=h
theorem Zh (h:Q .ret s):Then P y Q .ret s:=h
theorem Y0 (h:Q .normal s):InBlock id Q (.exit id) s:=by simp only [InBlock,if_true]; exact h
theorem XO (h:Q .normal s):InBlock id Q .normal s:=h
theorem ZE (h:Q .ret s):InBlock id Q .ret s:=h
theorem Zhd {α β:Type} {S:α→St} {O:β→Exit→St→Prop} {x:α} (h:Le s (S x)):Round S O (.inl x) .normal s:=⟨rfl,h⟩
theorem Zhe {α β:Type} {S:α→St} {O:β→Exit→St→Prop} {y:β} (h:O y (.exit id) s):Round S O (.inr y) (.exit id) s:=⟨by simp,h⟩
theorem Zmc {α β:Type} {S:α→St} {O:β→Exit→St→Prop} {y:β} (h:O y .ret s):Round S O (.inr y) .ret s:=⟨by simp,h⟩
def LWP (P:Program) (c:Code) (Q:Exit→St→Prop) (s:St):Prop :=
 ∀ F a w,GF P F→Rel F s a w→∀ b k cs,∃ e a' w',(∃ s',Q e s'∧Rel F s' a' w')∧Arrives P (lone (b.at a (.code c :: .inLoop c :: k)) cs w) b k cs e a' w'
def ThenL (P:Program) (c:Code) (Q:Exit→St→Prop):Exit→St→Prop
 | .normal,s=>LWP P c Q s
 | e,s=>Q e s
theorem ZiR {c:Code} (h:LWP P c Q s):AWP P (.loop c) Q s:=fun F a w hG hR b k cs =>
 let ⟨e,a',w',hq,harr⟩:=h F a w hG hR b k cs
 ⟨e,a',w',hq,.of_steps (.one step_loop) harr⟩
theorem UF {c:Code} (h:AWP P c (ThenL P c Q) s):LWP P c Q s:=by
 intro F a w hG hR b k cs
 obtain ⟨e,a₁,w₁,⟨s',hq,hR'⟩,harr⟩:=h F a w hG hR b (.inLoop c :: k) cs
 cases e with
 | normal =>
  obtain ⟨e₂,a₂,w₂,hq₂,harr₂⟩:=hq F a₁ w₁ hG hR' b k cs
  exact ⟨e₂,a₂,w₂,hq₂,.of_steps (Steps.trans harr (.one step_inLoop)) harr₂⟩
 | exit id=>exact ⟨_,a₁,w₁,⟨s',hq,hR'⟩,.pass (x:=.inLoop c) rfl (fun _ _=>.inl (by simp)) harr⟩
 | goto l=>exact ⟨_,a₁,w₁,⟨s',hq,hR'⟩,.pass (x:=.inLoop c) rfl (fun _ _=>.inl (by simp)) harr⟩
 | ret=>exact ⟨_,a₁,w₁,⟨s',hq,hR'⟩,.pass (x:=.inLoop c) rfl (fun _ _=>.inl (by simp)) harr⟩
 | panic ch=>exact ⟨_,a₁,w₁,⟨s',hq,hR'⟩,.pass (x:=.inLoop c) rfl (fun _ _=>.inl (by simp)) harr⟩
 | outgrown=>exact ⟨_,a₁,w₁,⟨s',hq,hR'⟩,.pass (x:=.inLoop c) rfl (fun _ _=>.inl (by simp)) harr⟩
theorem Ku {c:Code} (h:LWP P c Q s):ThenL P c Q .normal s:=h
theorem Zmd {c:Code} (h:Q (.exit id) s):ThenL P c Q (.exit id) s:=h
theorem Kv {c:Code} (h:Q .ret s):ThenL P c Q .ret s:=h
theorem U6:Le s s:=fun _ _ _ h=>h
theorem Le.trans {s'':St} (h:Le s s') (k:Le s' s''):Le s s'':=fun F a w hR=>k F a w (h F a w hR)
end
def Reqs (P:Program):List Req→Prop
 | []=>True
 | q :: r=>q.ok P∧Reqs P r
theorem Reqs.all {P:Program}:∀ {l:List Req},Reqs P l→∀ q∈l,q.ok P
 | [],_,q,h=>by cases h
 | q :: r,⟨h1,h2⟩,q',h=>by
  rcases List.mem_cons.1 h with rfl | h
  ·exact h1
  ·exact h2.all q' h
theorem Uh {P:Program} {x y:Code} {s:St} {α:Type} {Q:Exit→St→Prop} (S:α→St) (K:α→Prop) (h2:∀ p,K p→AWP P y Q (S p))
  (h1:(∀ p,K p→AWP P y Q (S p))→AWP P x (Then P y Q) s):AWP P (.seq x y) Q s:=Za (h1 h2)
theorem Gh {α:Type} {b:Bool} {x y r:α} (hb:b=true) (h:(bif b then x else y)=r):x=r:=by subst hb; exact h
theorem GP {α:Type} {b:Bool} {x y r:α} (hb:b=false) (h:(bif b then x else y)=r):y=r:=by subst hb; exact h
theorem XY {α β γ:Type} {f:α→γ} {g:β→γ} {x:α} {r:γ} (h:Sum.elim f g (.inl x)=r):f x=r:=h
theorem XZ {α β γ:Type} {f:α→γ} {g:β→γ} {x:β} {r:γ} (h:Sum.elim f g (.inr x)=r):g x=r:=h
def sL {α:Type} [Inhabited α] (wd:Nat) (c:α→List D) (l:List α):D:=.sl false wd l.length fun i=>c (l.getD i default)
def aL {α:Type} [Inhabited α] (wd:Nat) (c:α→List D) (l:List α):Ob:=.arr wd l.length fun i=>c (l.getD i default)
def oL {α:Type} [Inhabited α] (wd:Nat) (c:α→List D) (l:List α):Res:=.own wd l.length fun i=>c (l.getD i default)
def CSub (d d':D):Prop:=∀ (c:Ctx) (v:Value),CV c v d→CV c v d'
theorem CSub.rfl {d:D}:CSub d d:=fun _ _ h=>h
theorem KK {full:Bool} {wd n n':Nat} {f g:Nat→List D} (hn:n=n') (hf:∀ i,i < n→f i=g i):CSub (.sl full wd n f) (.sl false wd n' g):=by
 subst hn
 intro c v h
 simp only [CV] at h ⊢
 cases h with
 | sl a n cap wd full f g0 hfull hcap hb hw hone hv =>
  exact .sl a n cap wd false g g0 (fun h=>by cases h) hcap hb (fun i hi=>by rw [← hf i hi]; exact hw i hi) hone (fun i hi j d hd=>hv i hi j d (by rw [hf i hi]; exact hd))
theorem Vt {full:Bool} {wd wd':Nat} {f g:Nat→List D}:CSub (.sl full wd 0 f) (.sl false wd' 0 g):=by
 intro c v h
 simp only [CV] at h ⊢
 cases h with
 | sl a n cap wd full f g0 hfull hcap hb hw hone hv =>
  exact .sl a 0 cap wd' false g (fun _ _=>undef) (fun h=>by cases h) hcap (fun h=>by omega) (fun i hi=>by omega) (fun i hi=>by omega) (fun i hi=>by omega)
inductive CsSub:List D→List D→Prop
 | nil:CsSub [] []
 | cons {d d':D} {ds ds':List D} (h:CSub d d') (t:CsSub ds ds'):CsSub (d :: ds) (d' :: ds')
theorem CsSub.spec {ds ds':List D} (h:CsSub ds ds'):ds.length=ds'.length∧∀ (i:Nat) (d':D),ds'[i]? = some d'→∃ d,ds[i]? = some d∧CSub d d':=by
 induction h with
 | nil=>exact ⟨by simp,fun i d' h=>by simp at h⟩
 | cons h t ih =>
  refine ⟨by simp [ih.1],fun i d' hd=>?_⟩
  cases i with
  | zero=>simp at hd; subst hd; exact ⟨_,by simp,h⟩
  | succ i=>obtain ⟨d,h1,h2⟩:=ih.2 i d' (by simpa using hd); exact ⟨d,by simpa using h1,h2⟩
theorem ZiS {c:Ctx} {vs:Array Value} {ds ds':List D} (h:CsSub ds ds') (k:Vs (CV c) vs ds):Vs (CV c) vs ds':=by
 obtain ⟨h1,h2⟩:=h.spec
 refine ⟨by rw [k.1,h1],fun i v d' hv hd=>?_⟩
 obtain ⟨d,hd0,hs⟩:=h2 i d' hd
 exact hs c v (k.2 i v d hv hd0)
def ASub (d d':D):Prop:=∀ (c:Ctx) (v:Value),AV c v d→AV c v d'
theorem ASub.rfl {d:D}:ASub d d:=fun _ _ h=>h
theorem KZ {cs cs':List D} (h:CsSub cs cs'):ASub (.agg cs) (.agg cs'):=fun _ _ ⟨vs,h1,h2⟩=>⟨vs,h1,ZiS h h2⟩
theorem Zfk {full:Bool} {wd n n':Nat} {f g:Nat→List D} (hn:n=n') (hf:∀ i,i < n→f i=g i):ASub (.sl full wd n f) (.sl false wd n' g):=fun c v h=>KK hn hf c v h
theorem ZjZ {wd:Nat} {g:Nat→List D}:ASub .nils (.sl false wd 0 g):=fun _ _ h=>Zg2 h _ _ _
theorem Zk1 {full:Bool} {wd wd':Nat} {f g:Nat→List D}:ASub (.sl full wd 0 f) (.sl false wd' 0 g):=fun c v h=>Vt c v h
theorem Zme {cs cs':List D} (h:CsSub cs cs'):Sub (.agg cs) (.agg cs'):=fun _ _ ⟨vs,h1,h2⟩=>⟨vs,h1,ZiS h h2⟩
theorem W0 {full:Bool} {wd n n':Nat} {f g:Nat→List D} (hn:n=n') (hf:∀ i,i < n→f i=g i):Sub (.sl full wd n f) (.sl false wd n' g):=fun c v h=>KK hn hf c v h
theorem Zmf {full:Bool} {wd wd':Nat} {f g:Nat→List D}:Sub (.sl full wd 0 f) (.sl false wd' 0 g):=fun c v h=>Vt c v h
def PSub (d d':D):Prop:=∀ (I:Nat→Prop) (w:World) (v:Value),PV I w v d→PV I w v d'
theorem PSub.rfl {d:D}:PSub d d:=fun _ _ _ h=>h
inductive PsSub:List D→List D→Prop
 | nil:PsSub [] []
 | cons {d d':D} {ds ds':List D} (h:PSub d d') (t:PsSub ds ds'):PsSub (d :: ds) (d' :: ds')
theorem PsSub.spec {ds ds':List D} (h:PsSub ds ds'):ds.length=ds'.length∧∀ (i:Nat) (d':D),ds'[i]? = some d'→∃ d,ds[i]? = some d∧PSub d d':=by
 induction h with
 | nil=>exact ⟨Eq.refl _,fun i d' h=>by simp at h⟩
 | cons h t ih =>
  refine ⟨by simp [ih.1],fun i d' hd=>?_⟩
  cases i with
  | zero=>simp at hd; subst hd; exact ⟨_,Eq.refl _,h⟩
  | succ i=>exact ih.2 i d' (by simpa using hd)
theorem Zhf {full:Bool} {wd n n':Nat} {f g:Nat→List D} (hn:n=n') (hf:∀ i,i < n→PsSub (f i) (g i)):PSub (.sl full wd n f) (.sl false wd n' g):=by
 subst hn
 intro I w v h
 cases h with
 | sl a n cap wd full f g0 hfull hcap hb hw hone hv =>
  refine .sl a n cap wd false g g0 (fun h=>by cases h) hcap hb (fun i hi=>?_) hone (fun i hi j d hd=>?_)
  ·rw [← (hf i hi).spec.1]; exact hw i hi
  ·obtain ⟨d0,h1,h2⟩:=(hf i hi).spec.2 j d hd
   exact h2 _ _ _ (hv i hi j d0 h1)
theorem JK {full:Bool} {wd wd':Nat} {f g:Nat→List D}:PSub (.sl full wd 0 f) (.sl false wd' 0 g):=by
 intro I w v h
 cases h with
 | sl a n cap wd full f g0 hfull hcap hb hw hone hv =>
  exact .sl a 0 cap wd' false g (fun _ _=>undef) (fun h=>by cases h) hcap (fun h=>by omega) (fun i hi=>by omega) (fun i hi=>by omega) (fun i hi=>by omega)
theorem Zk2 {full:Bool} {wd n n':Nat} {f g:Nat→List D} (hn:n=n') (hf:∀ i,i < n→PsSub (f i) (g i)):CSub (.sl full wd n f) (.sl false wd n' g):=fun c v h=>Zhf hn hf c.I c.w v h
inductive AsSub:List D→List D→Prop
 | nil:AsSub [] []
 | cons {d d':D} {ds ds':List D} (h:ASub d d') (t:AsSub ds ds'):AsSub (d :: ds) (d' :: ds')
theorem AsSub.vs {c:Ctx} {ds ds':List D} (h:AsSub ds ds'):∀ {vs:List Value},Vs (AV c) vs.toArray ds→Vs (AV c) vs.toArray ds':=by
 induction h with
 | nil=>exact fun h=>h
 | cons h t ih =>
  intro vs k
  cases vs with
  | nil=>have:=k.1; simp at this
  | cons v vs =>
   have k':Vs (AV c) vs.toArray _:=⟨by have:=k.1; simpa using this,fun i u d h1 h2=>k.2 (i+1) u d (by simpa using h1) (by simpa using h2)⟩
   have ih':=ih k'
   refine ⟨by have:=ih'.1; simpa using this,fun i u d h1 h2=>?_⟩
   cases i with
   | zero=>simp at h1 h2; subst h1; subst h2; exact h c _ (k.2 0 _ _ (by simp) (by simp))
   | succ i=>exact ih'.2 i u d (by simpa using h1) (by simpa using h2)
theorem KL {ds ds':List D} (h:AsSub ds ds'):Sub (.tup ds) (.tup ds'):=fun c v ⟨vs,h1,h2⟩=>⟨vs,h1,by
 have e:vs.toList.toArray=vs:=by simp
 have h2':Vs (AV c) vs.toList.toArray ds:=by rw [e]; exact h2
 have:=h.vs h2'
 rw [e] at this
 exact this⟩
theorem Fn.args {P:Program} {f:FuncId} {ds ds':List D} {r:Res} (h:Fn P f ds' r) (k:AsSub ds ds'):Fn P f ds r:=by
 intro I0 w vs hGT hI0 hvs
 refine h I0 w vs hGT hI0 ?_
 have e:vs.toList.toArray=vs:=by simp
 have h2':Vs (AV (NoCtx I0 w)) vs.toList.toArray ds:=by rw [e]; exact hvs
 have:=k.vs h2'
 rw [e] at this
 exact this
inductive EnvSub:List (Nat × D)→List (Nat × D)→Prop
 | nil:EnvSub [] []
 | cons {t:Nat} {d d':D} {e e':List (Nat × D)} (h:Sub d d') (k:EnvSub e e'):EnvSub ((t,d) :: e) ((t,d') :: e')
theorem EnvSub.find {e e':List (Nat × D)} (h:EnvSub e e') (t:Nat):Sub (find e t) (find e' t):=by
 induction h with
 | nil=>exact Sub.rfl
 | @cons u d d' e e' h k ih =>
  simp only [Nv.find]
  cases Nat.beq u t with
  | true=>exact h
  | false=>exact ih
inductive OSub:Ob→Ob→Prop
 | rfl {o:Ob}:OSub o o
 | arr {wd n n':Nat} {f g:Nat→List D} (hn:n=n') (hf:∀ i,i < n→f i=g i):OSub (.arr wd n f) (.arr wd n' g)
 | arp {wd n n':Nat} {f g:Nat→List D} (hn:n=n') (hf:∀ i,i < n→PsSub (f i) (g i)):OSub (.arr wd n f) (.arr wd n' g)
 | box {cs cs':List D} (h:CsSub cs cs'):OSub (.box cs) (.box cs')
inductive HSub:List Ob→List Ob→Prop
 | nil:HSub [] []
 | cons {o o':Ob} {H H':List Ob} (h:OSub o o') (k:HSub H H'):HSub (o :: H) (o' :: H')
theorem HSub.rfl:∀ {H:List Ob},HSub H H
 | []=>.nil
 | _ :: _=>.cons .rfl HSub.rfl
theorem HSub.spec {H H':List Ob} (h:HSub H H'):H.length=H'.length∧(∀ (i:Nat) (o':Ob),H'[i]? = some o'→∃ o,H[i]? = some o∧OSub o o')∧(∀ (i:Nat) (o:Ob),H[i]? = some o→∃ o',H'[i]? = some o'∧OSub o o'):=by
 induction h with
 | nil=>exact ⟨by simp,fun i o h=>by simp at h,fun i o h=>by simp at h⟩
 | cons h k ih =>
  refine ⟨by simp [ih.1],fun i o' hd=>?_,fun i o hd=>?_⟩
  ·cases i with
   | zero=>simp at hd; subst hd; exact ⟨_,by simp,h⟩
   | succ i=>obtain ⟨o,h1,h2⟩:=ih.2.1 i o' (by simpa using hd); exact ⟨o,by simpa using h1,h2⟩
  ·cases i with
   | zero=>simp at hd; subst hd; exact ⟨_,by simp,h⟩
   | succ i=>obtain ⟨o,h1,h2⟩:=ih.2.2 i o (by simpa using hd); exact ⟨o,by simpa using h1,h2⟩
section
variable {c:Ctx} {H':List Ob}
theorem ZdE (h:HSub c.H H') {v:Value} {d:D} (k:CV c v d):CV { c with H:=H' } v d:=by
 cases d <;> simp only [CV] at k ⊢ <;> try exact k
 ·obtain ⟨b,wd,n,f,h1,h2,h3,h4⟩:=k
  obtain ⟨o',h5,h6⟩:=h.spec.2.2 _ _ h2
  cases h6 with
  | rfl=>exact ⟨b,wd,n,f,h1,h5,h3,h4⟩
  | arr hn hf=>subst hn; exact ⟨b,wd,n,_,h1,h5,h3,h4⟩
  | arp hn hf=>subst hn; exact ⟨b,wd,n,_,h1,h5,h3,h4⟩
 ·obtain ⟨wd,n,f,a,cap,h2,h3⟩:=k
  obtain ⟨o',h5,h6⟩:=h.spec.2.2 _ _ h2
  cases h6 with
  | rfl=>exact ⟨wd,n,f,a,cap,h5,h3⟩
  | arr hn hf=>subst hn; exact ⟨wd,n,_,a,cap,h5,h3⟩
  | arp hn hf=>subst hn; exact ⟨wd,n,_,a,cap,h5,h3⟩
theorem Zjt (h:HSub c.H H') {v:Value} {d:D} (k:AV c v d):AV { c with H:=H' } v d:=by
 cases d <;> simp only [AV] at k ⊢ <;> try exact ZdE h k
 ·obtain ⟨vs,h1,h2⟩:=k; exact ⟨vs,h1,h2.mono fun _ _=>ZdE h⟩
 ·obtain ⟨vs,h1,h2⟩:=k; exact ⟨vs,h1,h2.mono fun _ _=>ZdE h⟩
theorem Zmg (h:HSub c.H H') {v:Value} {d:D} (k:TV c v d):TV { c with H:=H' } v d:=by
 cases d <;> simp only [TV] at k ⊢ <;> try exact Zjt h k
 obtain ⟨vs,h1,h2⟩:=k; exact ⟨vs,h1,h2.mono fun _ _=>Zjt h⟩
theorem Zk3 {F:Fr} (h:HSub c.H H') (hI:Inv F c):Inv F { c with H:=H' }:=by
 refine ⟨hI.below,hI.imm,hI.loc,hI.inj,fun id o' ho'=>?_,fun id hid=>hI.dom id (by rw [h.spec.1]; exact hid),hI.lent,fun hl=>?_,hI.fam.mono (fun id o' j b h1 h2=>by
  obtain ⟨o,h3,h4⟩:=h.spec.2.1 id o' h1
  cases h4 with
  | rfl=>exact ⟨_,h3,h2⟩
  | arr hn hf=>cases h2
  | arp hn hf=>cases h2
  | box hb=>cases h2) (Nat.le_refl _) (fun b _ h=>.inl h) fun i b h=>.inl ⟨i,h⟩⟩
 rotate_left
 ·obtain ⟨o',h5,h6⟩:=h.spec.2.2 _ _ (hI.mark hl)
  cases h6
  exact h5
 obtain ⟨o,h1,h2⟩:=h.spec.2.1 id o' ho'
 have hv:=hI.obj id o h1
 cases h2 with
 | rfl =>
  cases o' with
  | fam foc is n2 wd2 vs ls=>exact hv
  | box cells=>obtain ⟨b,cs,T,h3,h4,h5⟩:=hv; exact ⟨b,cs,T,h3,h4,h5.mono fun _ _=>ZdE h⟩
  | arr wd n f=>exact hv
  | mp _ _=>exact hv
  | gone=>exact hv
 | arr hn hf =>
  subst hn
  refine ⟨fun i hi=>by rw [← hf i hi]; exact hv.1 i hi,hv.2.imp (fun x=>x) ?_⟩
  rintro ⟨b,cs,T,h3,h4,h5,h6⟩
  exact ⟨b,cs,T,h3,h4,h5,fun i hi j d hd=>h6 i hi j d (by rw [hf i hi]; exact hd)⟩
 | arp hn hf =>
  subst hn
  refine ⟨fun i hi=>(hf i hi).spec.1.symm.trans (hv.1 i hi),hv.2.imp (fun x=>x) ?_⟩
  rintro ⟨b,cs,T,h3,h4,h5,h6⟩
  refine ⟨b,cs,T,h3,h4,h5,fun i hi j d' hd'=>?_⟩
  obtain ⟨d,h7,h8⟩:=(hf i hi).spec.2 j d' hd'
  obtain ⟨v,e1,e2,e3⟩:=h6 i hi j d h7
  exact ⟨v,e1,e2,h8 _ _ _ e3⟩
 | box hb =>
  obtain ⟨b,cs,T,h3,h4,h5⟩:=hv
  exact ⟨b,cs,T,h3,h4,ZiS hb (h5.mono fun _ _=>ZdE h)⟩
end
theorem JQ {nt:Nat} {e e':List (Nat × D)} {H H':List Ob} (h:EnvSub e e') (k:HSub H H'):Le ⟨nt,e,H⟩ ⟨nt,e',H'⟩:=by
 rintro F a w ⟨c,rfl,hH,hI,henv,hsz,hd⟩
 obtain rfl:c.H=H:=hH
 exact ⟨{ c with H:=H' },rfl,rfl,Zk3 k hI,fun t=>Zmg k (h.find t c _ (henv t)),hsz,hd⟩
theorem Zfl {nt:Nat} {e:List (Nat × D)} {H:List Ob} (keep:List Nat):Le ⟨nt,e,H⟩ ⟨nt,fin e keep,H⟩:=by
 rintro F a w ⟨c,rfl,hH,hI,henv,hsz,hd⟩
 refine ⟨c,rfl,hH,hI,fun t=>?_,hsz,hd⟩
 show TV c _ (find (fin e keep) t)
 rcases ZfJ e keep t with h | h
 ·rw [h]; exact WS
 ·rw [h]
  have:=henv t
  have h2:TV c (a.tmps.getD t undef) (find e t):=this
  cases hf:find e t <;> rw [hf] at h2 <;> first | exact h2 | exact WS
theorem Zaw {nt:Nat} {e:List (Nat × D)} {H:List Ob} (t:Nat) {wd:Nat} {f:Nat→List D} (h:find e t = .sl true wd 0 f) (wd':Nat) (g:Nat→List D):Le ⟨nt,e,H⟩ ⟨nt,(t,.asl H.length 0 0) :: e,H++[.arr wd' 0 g]⟩:=by
 rintro F a w ⟨c,rfl,hH,hI,henv,hsz,hd⟩
 obtain rfl:c.H=H:=hH
 refine ⟨c.made0 (.arr wd' 0 g),rfl,rfl,Zcc hI wd' g,fun u=>?_,hsz,hd⟩
 show TV _ _ (find ((t,.asl c.H.length 0 0) :: e) u)
 simp only [find]
 cases hb:Nat.beq t u with
 | true =>
  obtain rfl:=Nat.eq_of_beq_eq_true hb
  simp only [cond_true]
  have h1:=henv t
  have h2:TV c (a.tmps.getD t undef) (find e t):=h1
  rw [h] at h2
  simp only [TV,AV,CV] at h2
  generalize a.tmps.getD t undef=v at h2
  cases h2 with
  | sl x n cap wd full f g0 hfull =>
   have hc:=hfull rfl
   subst hc
   simp only [TV,AV,CV]
   exact ⟨wd',0,g,x,0,by simp [Ctx.made0],Nat.le_refl _,rfl,Nat.le_refl _,.inl rfl⟩
 | false=>exact Zbr _ (henv u)
section
variable {α:Type} [Inhabited α] (c:α→List D)
theorem K0 (l:List α) (x:α) (g:Nat→List D) (hg:g 0=c x):∀ i,i < l.length+1→app (fun i=>c (l.getD i default)) l.length g i=c ((l++[x]).getD i default):=by
 intro i hi
 unfold app
 cases hlt:Nat.blt i l.length with
 | true =>
  have h:=XW hlt
  simp [h,List.getElem?_append_left h]
 | false =>
  have h:=R0 hlt
  have:i=l.length:=by omega
  subst this
  simp [hg]
theorem GM {β:Type} (l:List β) (x:β):l.length+1=(l++[x]).length:=by simp
theorem Zfm (l:List α) (k:Nat) (x:α) (e:List D) (he:e=c x):∀ i,i < l.length→(bif Nat.beq i k then e else c (l.getD i default))=c ((l.set k x).getD i default):=by
 intro i hi
 cases hb:Nat.beq i k with
 | true =>
  obtain rfl:=Nat.eq_of_beq_eq_true hb
  simp [hi,he]
 | false =>
  have hne:i ≠ k:=Nat.ne_of_beq_eq_false hb
  simp [List.getElem?_set_ne (Ne.symm hne)]
theorem KM (l:List α) (lo hi:Nat):∀ i,i < hi - lo→c (l.getD (lo+i) default)=c (((l.drop lo).take (hi - lo)).getD i default):=by
 intro i h
 simp [h]
theorem KN {β:Type} (l:List β) (lo hi:Nat) (hhi:hi≤l.length):hi - lo=((l.drop lo).take (hi - lo)).length:=by
 simp; omega
end
theorem Zax {x:Int} {n:Nat} (h:decide (x≤(n:Int))=true):x.toNat≤n:=by
 have:=of_decide_eq_true h
 omega
def ci (k:IntKind) (x:Int):List D:=[.int k x]
def cb (x:Bool):List D:=[.bool x]
def cs (x:ByteArray):List D:=[.str x]
def cl {α:Type} [Inhabited α] (wd:Nat) (c:α→List D) (l:List α):List D:=[sL wd c l]
def wr (k:IntKind) (n:Int):Int:=k.wrap n
section
variable {α:Type} [Inhabited α] (c:α→List D)
theorem Ua (f:Nat→List D) (m:List α) (g:Nat→List D) (hg:∀ i,i < m.length→g i=c (m.getD i default)):∀ i,i < 0+m.length→app f 0 g i=c (m.getD i default):=by
 intro i hi
 have h0:Nat.blt i 0=false:=rfl
 simp only [app,h0,cond_false,Nat.sub_zero]
 exact hg i (by omega)
end
theorem Zk4 {nt:Nat} {e e':List (Nat × D)} {H:List Ob} (keep:List Nat) (h:fin e keep=e'):Le ⟨nt,e,H⟩ ⟨nt,e',H⟩:=by
 subst h; exact Zfl keep
def OutE {α:Type} (id:Nat) (S:α→St) (x:α) (e:Exit) (s:St):Prop:=e = .exit id∧Le s (S x)
def OutR (P:Program) (fn:Func) (r:D) (e:Exit) (s:St):Prop:=e = .ret∧Ends P fn r .ret s
theorem Zk5 {P:Program} {fn:Func} {r:D} {s:St} (d:D) (h:resD P s fn.results.toList=some d) (k:Sub d r):Ends P fn r .ret s:=⟨.inr rfl,d,h,k⟩
theorem ZmX {P:Program} {fn:Func} {r:D} {s:St} (d:D) (h:resD P s fn.results.toList=some d) (k:Sub d r):Ends P fn r .normal s:=⟨.inl rfl,d,h,k⟩
theorem Zk6 {α:Type} [Inhabited α] {wd:Nat} {c:α→List D} {l:List α}:ASub (.sl false wd l.length fun i=>c (l.getD (0+i) default)) (sL wd c l):=Zfk rfl fun i _=>by rw [Nat.zero_add]
theorem Gb {id n n':Nat} (h:n=n'):Sub (.asl id 0 n) (.asl id 0 n'):=by subst h; exact Sub.rfl
section
variable {P:Program} {Q:Exit→St→Prop} {s:St}
theorem rg {id:Nat} {ops:Array Oper} {draw:Bool} (orc:List Res) (keep:List Nat) (hn:Nat) (s':St) (bs:List Bool) (rq:List Req)
  (hb:∀ b∈bs,b=true) (hq:Reqs P rq) (k:Q .normal s') (h:regS P ops draw orc keep hn s=some (s',bs,rq):=by kernel_rfl):AWP P (.region id ops draw) Q s:=Zc2 orc keep hn h hb hq.all k
theorem rg0 {id:Nat} {ops:Array Oper} {draw:Bool} (keep:List Nat) (hn:Nat) (s':St) (k:Q .normal s') (h:regS P ops draw [] keep hn s=some (s',[],[]):=by kernel_rfl):AWP P (.region id ops draw) Q s:=Zc2 [] keep hn h Zz (fun _ h=>by cases h) k
theorem rgc {id:Nat} {ops:Array Oper} {draw:Bool} (keep:List Nat) (hn:Nat) (s':St) (bs:List Bool) (hb:∀ b∈bs,b=true) (k:Q .normal s') (h:regS P ops draw [] keep hn s=some (s',bs,[]):=by kernel_rfl):AWP P (.region id ops draw) Q s:=Zc2 [] keep hn h hb (fun _ h=>by cases h) k
theorem kp {nt:Nat} {e e':List (Nat × D)} {H:List Ob} (keep:List Nat) (h:fin e keep=e':=by kernel_rfl):Le ⟨nt,e,H⟩ ⟨nt,e',H⟩:=Zk4 keep h
theorem er {fn:Func} {r:D} (d:D) (k:Sub d r) (h:resD P s fn.results.toList=some d:=by kernel_rfl):Ends P fn r .ret s:=Zk5 d h k
theorem en {fn:Func} {r:D} (d:D) (k:Sub d r) (h:resD P s fn.results.toList=some d:=by kernel_rfl):Ends P fn r .normal s:=ZmX d h k
theorem er0 {fn:Func} (d:D) (h:resD P s fn.results.toList=some d:=by kernel_rfl):Ends P fn d .ret s:=Zk5 d h Sub.rfl
theorem cnd {c:Operand} {x y:Code} (b:Bool) (ht:b=true→AWP P x Q s) (hf:b=false→AWP P y Q s) (hc:evD s.env c = .bool b:=by kernel_rfl):AWP P (.cond c x y) Q s:=ZkV hc ht hf
end
end Nv
namespace Nv
open Go Go.RowKit
def nxS (r:Option (St × List Bool × List Req)):St:=match r with | some x=>x.1 | none=>⟨0,[],[]⟩
def n0 (r:Option (St × List Bool × List Req)):Bool:=match r with | some (_,[],[])=>true | _=>false
def n1 (r:Option (St × List Bool × List Req)):Option (List Bool):=match r with | some (_,bs,[])=>some bs | _=>none
def n2 (r:Option (St × List Bool × List Req)):Option (List Bool × List Req):=match r with | some (_,bs,rq)=>some (bs,rq) | _=>none
theorem Zju {r:Option (St × List Bool × List Req)} (h:n0 r=true):r=some (nxS r,[],[]):=by
 unfold n0 at h
 split at h
 ·rfl
 ·cases h
theorem Zmh {r:Option (St × List Bool × List Req)} {bs:List Bool} (h:n1 r=some bs):r=some (nxS r,bs,[]):=by
 unfold n1 at h
 split at h
 ·cases h; rfl
 ·cases h
theorem Zmi {r:Option (St × List Bool × List Req)} {bs:List Bool} {rq:List Req} (h:n2 r=some (bs,rq)):r=some (nxS r,bs,rq):=by
 unfold n2 at h
 split at h
 ·cases h; rfl
 ·cases h
section
variable {P:Program} {Q:Exit→St→Prop} {s:St}
theorem zg {id:Nat} {ops:Array Oper} {draw:Bool} (keep:List Nat) (hn:Nat) (k:Q .normal (nxS (regS P ops draw [] keep hn s))) (h:n0 (regS P ops draw [] keep hn s)=true:=by kernel_rfl):AWP P (.region id ops draw) Q s:=rg0 keep hn _ k (Zju h)
theorem zc {id:Nat} {ops:Array Oper} {draw:Bool} (keep:List Nat) (hn:Nat) {bs:List Bool} (hb:∀ b∈bs,b=true) (k:Q .normal (nxS (regS P ops draw [] keep hn s))) (h:n1 (regS P ops draw [] keep hn s)=some bs:=by kernel_rfl):AWP P (.region id ops draw) Q s:=rgc keep hn _ bs hb k (Zmh h)
theorem zr {id:Nat} {ops:Array Oper} {draw:Bool} (keep:List Nat) (hn:Nat) {bs:List Bool} {rq:List Req} (hb:∀ b∈bs,b=true) (hq:Reqs P rq) (k:Q .normal (nxS (regS P ops draw (rq.map Req.r) keep hn s))) (h:n2 (regS P ops draw (rq.map Req.r) keep hn s)=some (bs,rq):=by kernel_rfl):AWP P (.region id ops draw) Q s:=rg (rq.map Req.r) keep hn _ bs rq hb hq k (Zmi h)
theorem rqn:Reqs P []:=trivial
theorem rq1 {f:FuncId} {ds:List D} {d:D} {l:List Req} (h:Fn P f ds (.pure d)) (t:Reqs P l):Reqs P (⟨true,f,ds,.pure d⟩ :: l):=⟨fun _=>h,t⟩
theorem rq2 {b:Bool} {f:FuncId} {ds:List D} {d:D} {l:List Req} (h:b=true→Fn P f ds (.pure d)) (t:Reqs P l):Reqs P (⟨b,f,ds,.pure d⟩ :: l):=⟨h,t⟩
theorem rq3 {f:FuncId} {ds:List D} {wd n:Nat} {g:Nat→List D} {l:List Req} (h:Fn P f ds (.own wd n g)) (t:Reqs P l):Reqs P (⟨true,f,ds,.own wd n g⟩ :: l):=⟨fun _=>h,t⟩
def kF (s s':St):St:=⟨s.nt,fin s.env (s'.env.map Prod.fst),s.H⟩
theorem kq {s s':St} (h:kF s s'=s':=by kernel_rfl):Le s s':=h ▸ Zfl (nt:=s.nt) (e:=s.env) (H:=s.H) _
theorem kc {s s':St} (h:cutS s'.H.length (kF s s')=some s':=by kernel_rfl):Le s s':=Le.trans (s':=kF s s') (Zfl (nt:=s.nt) (e:=s.env) (H:=s.H) _) (U5 h)
theorem lk {s s':St} (h:s=s':=by kernel_rfl):Le s s':=h ▸ U6
theorem cn {c:Operand} {x y:Code} {b:Bool} {α:Type} {u v r:α} (h:(bif b then u else v)=r) (ht:b=true→u=r→AWP P x Q s) (hf:b=false→v=r→AWP P y Q s) (hc:evD s.env c = .bool b:=by kernel_rfl):AWP P (.cond c x y) Q s :=
 cnd b (fun e=>ht e (Gh e h)) (fun e=>hf e (GP e h)) hc
theorem er1 {α:Type} {x r:α} {fn:Func} {d:α→D} (h:some x=some r) (k:resD P s fn.results.toList=some (d x):=by kernel_rfl):Ends P fn (d r) .ret s:=Option.some.inj h ▸ er0 _ k
section
variable {α β:Type} {S:α→St} {O:β→Exit→St→Prop} {id:Nat}
theorem rn {x:α} {y:α ⊕ β} (h:some (Sum.inl x)=some y) (k:s=S x:=by kernel_rfl):Round S O y .normal s:=Option.some.inj h ▸ Zhd (k ▸ U6)
theorem re {y:β} {z:α ⊕ β} (h:some (Sum.inr y)=some z) (k:O y (.exit id) s):Round S O z (.exit id) s:=Option.some.inj h ▸ Zhe k
theorem rr {y:β} {z:α ⊕ β} (h:some (Sum.inr y)=some z) (k:O y .ret s):Round S O z .ret s:=Option.some.inj h ▸ Zmc k
theorem zl (S:α→St) (O:β→Exit→St→Prop) {c:Code} {f:α→Option (α ⊕ β)} {x:α} {y:β} (q:loopM f x=some y) (round:∀ x r,f x=some r→AWP P c (Round S O r) (S x)) (after:∀ e s',O y e s'→Q e s') (h:s=S x:=by kernel_rfl):AWP P (.loop c) Q s:=by
 subst h
 exact G7 (ZfI (f:=f) round (Wt q)) after
end
theorem zi {y:Code} {α:Type} {id:Nat} {S:α→St} {z:α} {e:Exit} {s:St} (o:OutE id S z e s) (k:AWP P y Q (S z)):InBlock id (Then P y Q) e s:=by
 obtain ⟨rfl,l⟩:=o
 exact Y0 (XD l k)
end
end Nv
namespace Nv
open Go Go.RowKit
theorem Zk7 {n m:Nat} (h:decide (n=m)=true):m=n:=(of_decide_eq_true h).symm
theorem Gi {P:Program} {c:Code} {Q:Exit→St→Prop} {s:St} (h:AWP P c (fun e s=>∃ s',Le s s'∧Q e s') s):AWP P c Q s :=
 fun F a w hG hR=>wp_mono (h F a w hG hR) fun _ _ _ ⟨_,⟨s',h1,h2⟩,h3⟩=>⟨s',h2,h1 _ _ _ h3⟩
theorem nq {P:Program} {Q:Exit→St→Prop} {s:St} {c:Operand} {x y:Code} (n:Nat) (ht:n=0→AWP P x Q s) (hf:AWP P y Q s) (hc:evD s.env c = .nilq n:=by kernel_rfl):AWP P (.cond c x y) Q s:=ZkW hc ht hf
theorem U1 {α:Type} [Inhabited α] {full:Bool} {wd wd':Nat} {f:Nat→List D} {c:α→List D} {l:List α} (h:l.length=0):Sub (.sl full wd 0 f) (sL wd' c l):=by
 obtain rfl:=List.eq_nil_of_length_eq_zero h
 exact Zmf
theorem rgw {P:Program} {Q:Exit→St→Prop} {s:St} {id:Nat} {ops:Array Oper} (orc:List Res) (keep:List Nat) (hn:Nat) (s':St) (bs:List Bool) (rq:List Req)
  (hb:∀ b∈bs,b=true) (hq:Reqs P rq) (k:Q .normal s') (h:regW P ops orc keep hn s=some (s',bs,rq):=by kernel_rfl):AWP P (.region id ops true) Q s:=Zh5 orc keep hn h hb hq.all k
end Nv
namespace Nv
open Go Go.RowKit
inductive PVs (I:Nat→Prop) (w:World):List Value→List D→Prop
 | nil:PVs I w [] []
 | cons {v:Value} {d:D} {vs:List Value} {ds:List D} (h:PV I w v d) (h1:v.oneCell'=true) (t:PVs I w vs ds):PVs I w (v :: vs) (d :: ds)
theorem PVs.app {I:Nat→Prop} {w:World} {vs us:List Value} {ds es:List D} (h:PVs I w vs ds) (k:PVs I w us es):PVs I w (vs++us) (ds++es):=by
 induction h with
 | nil=>exact k
 | cons h h1 t ih=>exact .cons h h1 ih
theorem PVs.len {I:Nat→Prop} {w:World} {vs:List Value} {ds:List D} (h:PVs I w vs ds):vs.length=ds.length:=by
 induction h with
 | nil=>rfl
 | cons h h1 t ih=>simp [ih]
theorem PVs.get {I:Nat→Prop} {w:World} {vs:List Value} {ds:List D} (h:PVs I w vs ds):∀ (i:Nat) v d,vs[i]? = some v→ds[i]? = some d→PV I w v d∧v.oneCell'=true:=by
 induction h with
 | nil=>intro i v d h1 _; simp at h1
 | cons h h1 t ih =>
  intro i v d h2 h3
  cases i with
  | zero=>simp at h2 h3; subst h2; subst h3; exact ⟨h,h1⟩
  | succ i=>exact ih i v d (by simpa using h2) (by simpa using h3)
theorem PVs.cut {I:Nat→Prop} {w:World} {cs:List Value} {off sz:Nat} {ds es:List D} (h:PVs I w ((cs.drop off).take sz) ds) (k:PVs I w (cs.drop (off+sz)) es):PVs I w (cs.drop off) (ds++es):=by
 have:=h.app k
 rw [← List.drop_drop,List.take_append_drop] at this
 exact this
theorem PVs.fin {I:Nat→Prop} {w:World} {cs:List Value} {n:Nat} (h:cs.length=n):PVs I w (cs.drop n) []:=by
 rw [List.drop_eq_nil_of_le (by omega)]
 exact .nil
section
variable {H:Type} (enc:TypeId × Value→H) (P:Program) (w:World)
def Szd (P:Program) (t:TypeId) (d:DataW H):Prop:=∀ n∈d.weights P t,n≤reachBytes
def Opens {α:Type} (t:TypeId) (c:α→List D) (W:α→Prop):Prop :=
 ∀ fuel cs x,DataW.trod enc P w 0 (fun _=>true) true fuel t cs=some x→Szd P t x.1→∃ a,W a∧PVs (fun b=>b < w.heap.size) w cs (c a)
end
section
variable {H:Type} {enc:TypeId × Value→H} {P:Program} {w:World} {t:TypeId}
theorem X1 {k:IntKind} (hu:P.underlying t=some (.int k)):Opens enc P w t (ci k) (fun n=>(Lit.int k n).wf=true):=by
 intro fuel cs x h _
 obtain ⟨n,rfl,_,hw⟩:=DataW.trod_int hu h
 exact ⟨n,hw,.cons (.int k n) rfl .nil⟩
theorem Wu (hu:P.underlying t=some .string):Opens enc P w t cs (fun s=>s.size≤maxLen):=by
 intro fuel cs x h _
 obtain ⟨s,rfl,_,hw⟩:=DataW.trod_string hu h
 exact ⟨s,hw,.cons (.str s) rfl .nil⟩
theorem WN (hu:P.underlying t=some .bool):Opens enc P w t cb (fun _=>True):=by
 intro fuel cs x h _
 obtain ⟨b,rfl,_⟩:=DataW.trod_bool hu h
 exact ⟨b,trivial,.cons (.bool b) rfl .nil⟩
theorem ZeP {e:TypeId} {n:Nat}:∀ {ds:List (DataW H)} {d:DataW H},d∈ds→n∈d.weights P e→n∈DataW.weightsAll P e ds
 | d0 :: ds,d,h,hn=>by
  simp only [DataW.weightsAll,List.mem_append]
  rcases List.mem_cons.1 h with rfl | h
  ·exact .inl hn
  ·exact .inr (ZeP h hn)
theorem Q5 {α:Type} [Inhabited α] {e:TypeId} {wd by':Nat} {c:α→List D} {W:α→Prop} (hu:P.underlying t=some (.slice e)) (hwd:P.cellsOf e=wd) (hby:P.bytesOf e=by') (h0:0 < wd) (he:Opens enc P w e c W) :
  Opens enc P w t (cl wd c) (fun l=>l.length≤maxLen∧l.length*by'≤reachBytes∧∀ x∈l,W x):=by
 intro fuel cs x h hz
 rcases DataW.trod_slice hu h with ⟨rfl,_⟩ | ⟨a,len,cap,elems,rest,n,_,rfl,hxx,_,hl,hm,hlen,hel,_,_⟩
 ·exact ⟨[],⟨Nat.zero_le _,by simp,fun x hx=>by simp at hx⟩,.cons (.sl none 0 0 wd false _ (fun _ _=>undef) (fun h=>by cases h) (Nat.le_refl _) (fun h=>by omega) (fun i hi=>by simp at hi) (fun i hi=>by simp at hi) (fun i hi=>by simp at hi)) rfl .nil⟩
 ·rw [hwd] at hel
  have key:∀ i,i < len→∃ y,W y∧∃ cs',w.cells? 0 (a.add (i*wd)) wd=some cs'∧PVs (fun b=>b < w.heap.size) w cs' (c y):=fun i hi=>by
   have h1:=hel i hi
   have h2:elems[i]? = some elems[i]:=by simp
   rw [h2] at h1
   obtain ⟨cs',h3,h4⟩:=Option.bind_eq_some_iff.1 h1
   obtain ⟨y,h5,h6⟩:=he _ _ _ h4 (fun n hn=>hz n (by
    rw [hxx]
    simp only [DataW.weights,hu,List.mem_cons,List.mem_append]
    exact .inr (.inl (ZeP (List.mem_map_of_mem (List.getElem_mem _)) hn))))
   exact ⟨y,h5,cs',h3,h6⟩
  let f:Nat→α:=fun i=>if h:i < len then (key i h).choose else default
  have hf:∀ i,i < len→W (f i)∧∃ cs',w.cells? 0 (a.add (i*wd)) wd=some cs'∧PVs (fun b=>b < w.heap.size) w cs' (c (f i)):=fun i hi=>by
   simp only [f,dif_pos hi]
   exact (key i hi).choose_spec
  let l:List α:=(List.range len).map f
  have hll:l.length=len:=by simp [l]
  have hget:∀ i,i < len→l.getD i default=f i:=fun i hi=>by simp [l,hi]
  -- the address has no spot
  have cell:∀ i,i < len→∀ j,j < wd→∃ cs',w.cells? 0 (a.add (i*wd)) wd=some cs'∧w.cell? ((a.add (i*wd)).add j)=cs'[j]? ∧ cs'.length=wd∧PVs (fun b=>b < w.heap.size) w cs' (c (f i)):=fun i hi j hj=>by
   obtain ⟨_,cs',h1,h2⟩:=hf i hi
   obtain ⟨_,h4,h5⟩:=World.cells?_some h1
   exact ⟨cs',h1,h5 j hj,h4,h2⟩
  have hbytes:l.length*by'≤reachBytes:=by
   have h1:=hz ((elems.length+rest.length)*P.bytesOf e) (by
    rw [hxx]
    simp [DataW.weights,hu])
   rw [hby] at h1
   rw [hll,← hlen]
   exact Nat.le_trans (Nat.mul_le_mul_right _ (by omega)) h1
  refine ⟨l,⟨by omega,hbytes,fun x hx=>?_⟩,.cons ?_ rfl .nil⟩
  ·simp only [l,List.mem_map,List.mem_range] at hx
   obtain ⟨i,hi,rfl⟩:=hx
   exact (hf i hi).1
  ·have spot:0 < len→a.spot=none:=fun hn=>by
    obtain ⟨cs',h1,h2,h3,_⟩:=cell 0 hn 0 h0
    simp only [Nat.zero_mul,Addr.add,if_true] at h2
    have h6:cs'[0]? = some cs'[0]:=by simp
    rw [h6] at h2
    unfold World.cell? at h2
    cases hs:a.spot with
    | none=>rfl
    | some q =>
     rw [hs] at h2
     split at h2 <;> simp at h2
   have plain:∀ i,i < len→∀ j,(a.add (i*wd)).add j=⟨a.block,a.off+i*wd+j,none⟩:=fun i hi j=>by
    have hs:=spot (by omega)
    obtain ⟨b,o,s⟩:=a
    simp only at hs
    subst hs
    rw [Wc,Wc]
   have main:PV (fun b=>b < w.heap.size) w (.slice (some a) len cap) (.sl false wd len fun i=>c (l.getD i default)):=by
    refine .sl (some a) len cap wd false _ (fun i j=>(w.cell? ⟨a.block,a.off+i*wd+j,none⟩).getD undef) (fun h=>by cases h) hl (fun hn=>?_) (fun i hi=>?_) (fun i hi j hj=>?_) (fun i hi j d hd=>?_)
    ·refine ⟨a.block,a.off,?_,?_,fun i hi j hj=>?_⟩
     ·have hs:=spot hn
      obtain ⟨b,o,s⟩:=a
      simp only at hs
      subst hs
      rfl
     ·obtain ⟨cs',h1,_⟩:=cell 0 hn 0 h0
      have:=World.cells?_block h1 h0
      simpa [Addr.add] using this
     ·obtain ⟨cs',_,h2,h3,_⟩:=cell i hi j hj
      rw [plain i hi j] at h2
      have h6:cs'[j]? = some cs'[j]:=by simp
      rw [h2,h6]
      rfl
    ·obtain ⟨cs',_,_,h3,h4⟩:=cell i hi 0 h0
     show (c (l.getD i default)).length=wd
     rw [hget i hi,← h4.len,h3]
    ·obtain ⟨cs',_,h2,h3,h4⟩:=cell i hi j hj
     rw [plain i hi j] at h2
     have h6:cs'[j]? = some cs'[j]:=by simp
     have h7:j < (c (f i)).length:=by rw [← h4.len,h3]; exact hj
     show ((w.cell? _).getD undef).oneCell'=true
     rw [h2,h6]
     exact (h4.get j _ (c (f i))[j] h6 (by simp)).2
    ·have hd:(c (l.getD i default))[j]? = some d:=hd
     rw [hget i hi] at hd
     have hj:j < wd:=by
      obtain ⟨cs',_,_,h3,h4⟩:=cell i hi 0 h0
      rw [← h3,h4.len]
      exact (List.getElem?_eq_some_iff.1 hd).1
     obtain ⟨cs',_,h2,h3,h4⟩:=cell i hi j hj
     rw [plain i hi j] at h2
     have h6:cs'[j]? = some cs'[j]:=by simp
     show PV _ _ ((w.cell? _).getD undef) d
     rw [h2,h6]
     exact (h4.get j _ d h6 hd).1
   unfold sL
   rw [hll]
   exact main
theorem JM {fs:Array Field} (hu:P.underlying t=some (.struct fs)) {fuel:Nat} {cs:List Value} {x:DataW H × List MemPlace} (h:DataW.trod enc P w 0 (fun _=>true) true fuel t cs=some x) (hz:Szd P t x.1) :
  cs.length=P.cellsOf t∧∃ n,∀ (i:Nat) (f:Field),fs[i]? = some f→∃ y,DataW.trod enc P w 0 (fun _=>true) true n f.type ((cs.drop f.offset).take (P.cellsOf f.type))=some y∧Szd P f.type y.1:=by
 obtain ⟨xs,n,_,hxx,hl,hxs,hf⟩:=DataW.trod_struct hu h
 refine ⟨hl,n,fun i f hi=>?_⟩
 have hlt:i < xs.length:=by rw [hxs]; exact (Array.getElem?_eq_some_iff.1 hi).1
 refine ⟨xs[i],by rw [hf i f hi]; simp [hlt],fun m hm=>hz m ?_⟩
 rw [hxx]
 simp only [DataW.weights,hu]
 have hlt2:i < fs.size:=(Array.getElem?_eq_some_iff.1 hi).1
 have e2:fs[i]=f:=(Array.getElem?_eq_some_iff.1 hi).2
 refine DataW.weights_mem_each (j:=i) (t:=f.type) (d:=xs[i].1) ?_ ?_ m hm
 ·simp [hlt2,e2]
 ·simp [hlt]
theorem ZY {fs:Array Field} {n:Nat} {cs:List Value} (h:∀ (i:Nat) (f:Field),fs[i]? = some f→∃ y,DataW.trod enc P w 0 (fun _=>true) true n f.type ((cs.drop f.offset).take (P.cellsOf f.type))=some y∧Szd P f.type y.1)
  (i:Nat) {f:Field} (hf:fs[i]? = some f) {off sz:Nat} {ft:TypeId} (hx:f.offset=off∧P.cellsOf f.type=sz∧f.type=ft) {α:Type} {c:α→List D} {W:α→Prop} (ho:Opens enc P w ft c W) :
  ∃ a,W a∧PVs (fun b=>b < w.heap.size) w ((cs.drop off).take sz) (c a):=by
 obtain ⟨rfl,rfl,rfl⟩:=hx
 obtain ⟨y,hy,hz⟩:=h i f hf
 exact ho _ _ _ hy hz
theorem Zmj {α:Type} {c:α→List D} {dd:α→D} {W:α→Prop} (ho:Opens enc P w t c W) (hc:∀ a,c a=[dd a]) {v:Value} {d:DataW H} {ps:List MemPlace} (h:DataW.Trod enc P w 0 (fun _=>true) true t v d ps) (hz:Szd P t d)
  (hv:∀ cs,v ≠ .agg cs):∃ a,W a∧AV (NoCtx (fun b=>b < w.heap.size) w) v (dd a):=by
 obtain ⟨fuel,h⟩:=h
 obtain ⟨a,h1,h2⟩:=ho _ _ _ h hz
 refine ⟨a,h1,?_⟩
 have e:v.cells.toList=[v]:=by
  cases v <;> first | rfl | exact absurd rfl (hv _)
 rw [e,hc] at h2
 cases h2 with
 | cons h h1 t=>exact Kw (Zfv h)
theorem Zmk {α:Type} {c:α→List D} {W:α→Prop} (ho:Opens enc P w t c W) {v:Value} {d:DataW H} {ps:List MemPlace} (h:DataW.Trod enc P w 0 (fun _=>true) true t v d ps) (hz:Szd P t d)
  (hv:∃ cs,v = .agg cs):∃ a,W a∧AV (NoCtx (fun b=>b < w.heap.size) w) v (.agg (c a)):=by
 obtain ⟨cs,rfl⟩:=hv
 obtain ⟨fuel,h⟩:=h
 obtain ⟨a,h1,h2⟩:=ho _ _ _ h hz
 refine ⟨a,h1,cs,rfl,?_,fun i v d h3 h4=>Zfv (h2.get i v d (by simpa [Value.cells] using h3) h4).1⟩
 have:=h2.len
 simpa [Value.cells] using this
end
theorem Zj0 {c:Ctx}:Vs (AV c) (#[]:Array Value) []:=⟨rfl,fun i v d h _=>by simp at h⟩
theorem ZfL {c:Ctx} {v:Value} {d:D} {vs:List Value} {ds:List D} (h:AV c v d) (k:Vs (AV c) vs.toArray ds):Vs (AV c) (v :: vs).toArray (d :: ds):=by
 refine ⟨by simpa using k.1,fun i u e h1 h2=>?_⟩
 cases i with
 | zero=>simp at h1 h2; subst h1; subst h2; exact h
 | succ i=>exact k.2 i u e (by simpa using h1) (by simpa using h2)
theorem Zml {P : Program} {w : World} (h : P.globals.toList.all (fun x => !(x.name == "math/bits.deBruijn64tab")) = true) : GT P w := fun g hg => by
  exfalso
  unfold tabG at hg
  split at hg
  · rename_i x hx
    have := List.all_eq_true.1 h x (by rw [Array.mem_toList_iff]; exact Array.mem_of_getElem? hx)
    rw [hg] at this
    cases this
  · cases hg
theorem Zj1 {P:Program} {f:FuncId} {ds:List D} (hF:Fn P f ds (.pure (.bool true))) {w:World} {vs:Array Value} (hGT:GT P w) (hvs:Vs (AV (NoCtx (fun b=>b < w.heap.size) w)) vs ds) :
  Calls P f vs w fun e w'=>e = .returned (.bool true)∧Below w.heap.size w w':=by
 refine (hF (fun b=>b < w.heap.size) w vs hGT (fun _ h=>h) hvs).mono ?_
 rintro e w' ⟨v,I1,rfl,hb,_,hr⟩
 have:=TV.bool_inv (show TV (NoCtx I1 w') v (.bool true) from hr)
 subst this
 exact ⟨rfl,hb.toBelow⟩
end Nv
namespace Nv
open Go Go.RowKit
theorem Zk8 {i:Nat} {n:Nat} (h:i < n) (hn:n≤maxLen):wr .i64 ((i:Int)+1)=((i+1:Nat):Int):=by
 have:maxLen=9223372036854775807:=rfl
 unfold wr
 rw [IntWalk.i64_in _ (by omega)]
 simp
theorem Zmm {α:Type} {l:List Bool} (h:∀ b∈l,b=true) (k:Option α):gd l k=k:=by
 unfold gd
 have:l.all id=true:=List.all_eq_true.2 fun b hb=>by simpa using h b hb
 rw [this]
 rfl
theorem ZfM {α β:Type} {f f':α→Option (α ⊕ β)} (J:α→Prop) (h:∀ x,J x→f x=f' x) (hJ:∀ x x',J x→f x=some (.inl x')→J x') {x:α} {y:β} (k:Iter f x y):J x→Iter f' x y:=by
 induction k with
 | out e=>exact fun hx=>.out ((h _ hx).symm.trans e)
 | next e _ ih=>exact fun hx=>.next ((h _ hx).symm.trans e) (ih (hJ _ _ hx e))
theorem ZiT {α β:Type} {f f':α→Option (α ⊕ β)} (J:α→Prop) (h:∀ x,J x→f x=f' x) (hJ:∀ x x',J x→f x=some (.inl x')→J x') {x:α} (hx:J x):loopM f x=loopM f' x:=by
 cases hf:loopM f x with
 | some y=>exact (UE (ZfM J h hJ (Wt hf) hx)).symm
 | none =>
  cases hg:loopM f' x with
  | none=>rfl
  | some y =>
   have:=UE (ZfM J (fun x hx=>(h x hx).symm) (fun x x' hx e=>hJ x x' hx ((h x hx).trans e)) (Wt hg) hx)
   rw [hf] at this
   cases this
end Nv
namespace Nv
open Go Go.RowKit
def loopN {α β:Type}:Nat→(α→Option (α ⊕ β))→α→Option β
 | 0,_,_=>none
 | n+1,f,x=>match f x with
  | none=>none
  | some (.inl x')=>loopN n f x'
  | some (.inr y)=>some y
def Ref {α:Type} (a b:Option α):Prop:=∀ r,a=some r→b=some r
theorem XL {α:Type} {x:α}:Ref (some x) (some x):=fun _ h=>h
theorem ZfN {α:Type} {b:Option α}:Ref none b:=fun _ h=>by cases h
theorem QF {α β:Type} {a a':Option α} {f f':α→Option β} (h:Ref a a') (k:∀ x,Ref (f x) (f' x)):Ref (a.bind f) (a'.bind f'):=by
 intro r hr
 obtain ⟨x,h1,h2⟩:=Option.bind_eq_some_iff.1 hr
 rw [h x h1]
 exact k x r h2
theorem J9 {α:Type} {l:List Bool} {a a':Option α} (h:Ref a a'):Ref (gd l a) (gd l a'):=by
 intro r hr
 obtain ⟨h1,h2⟩:=Zy hr
 unfold gd
 have:l.all id=true:=List.all_eq_true.2 fun b hb=>by simpa using h1 b hb
 rw [this]
 exact h r h2
theorem Zk9 {α:Type} [Inhabited α] {g:Bool} {a a':Option α} (h:Ref a a'):Ref (gc g a) (gc g a'):=by
 cases g
 ·exact XL
 ·exact h
theorem Va {α:Type} {b:Bool} {x x' y y':Option α} (h:Ref x x') (k:Ref y y'):Ref (bif b then x else y) (bif b then x' else y'):=by
 cases b
 ·exact k
 ·exact h
theorem Zbw {α β γ:Type} {f f':α→Option γ} {g g':β→Option γ} {s:α ⊕ β} (h:∀ x,Ref (f x) (f' x)) (k:∀ y,Ref (g y) (g' y)):Ref (Sum.elim f g s) (Sum.elim f' g' s):=by
 cases s
 ·exact h _
 ·exact k _
theorem Ui {α β:Type} {f f':α→Option (α ⊕ β)} (h:∀ x,Ref (f x) (f' x)) {n:Nat} {x:α}:Ref (loopN n f x) (loopM f' x):=by
 intro y hy
 refine UE ?_
 induction n generalizing x with
 | zero=>cases hy
 | succ n ih =>
  unfold loopN at hy
  cases hf:f x with
  | none=>rw [hf] at hy; cases hy
  | some r =>
   rw [hf] at hy
   cases r with
   | inl x'=>exact .next (h x _ hf) (ih hy)
   | inr z =>
    simp only [Option.some.injEq] at hy
    subst hy
    exact .out (h x _ hf)
end Nv
namespace Nv
open Go Go.RowKit
def letS {α β:Type} (v:α) (s:α→β):β:=s v
def runN {β:Type} (g:Nat→Option β) (e:β):Nat→Nat→β
 | _,0=>e
 | i,k+1=>match g i with
  | some y=>y
  | none=>runN g e (i+1) k
def rdN {β:Type} (o:Option β) (i:Nat):Int ⊕ β :=
 match o with
 | none=>.inl ((i+1:Nat):Int)
 | some y=>.inr y
theorem Z6 {β:Type} {f:Int→Option (Int ⊕ β)} {g:Nat→Option β} {e:β} {n:Nat} (hs:∀ i:Nat,i < n→f (i:Int)=some (rdN (g i) i)) (hl:∀ m:Nat,n≤m→f (m:Int)=some (.inr e)) (i0:Nat) :
  loopM f (i0:Int)=some (runN g e i0 (n - i0)):=by
 have key:∀ (k i:Nat),i+k=n→Iter f (i:Int) (runN g e i k):=by
  intro k
  induction k with
  | zero=>intro i h; exact .out (hl i (by omega))
  | succ k ih =>
   intro i h
   have h1:=hs i (by omega)
   unfold runN
   cases hg:g i with
   | none=>rw [hg] at h1; exact .next h1 (ih (i+1) (by omega))
   | some y=>rw [hg] at h1; exact .out h1
 rcases Nat.lt_or_ge n i0 with h | h
 ·rw [show n - i0=0 by omega]
  exact UE (.out (hl i0 (by omega)))
 ·exact UE (key (n - i0) i0 (by omega))
def runT {σ β:Type} (g:Nat→σ→σ ⊕ β) (e:σ→β):Nat→Nat→σ→β
 | _,0,s=>e s
 | i,k+1,s=>match g i s with
  | .inl s'=>runT g e (i+1) k s'
  | .inr y=>y
def rdT {σ τ β:Type} (mk:Nat→σ→τ) (o:σ ⊕ β) (i:Nat):τ ⊕ β :=
 match o with
 | .inl s=>.inl (mk (i+1) s)
 | .inr y=>.inr y
theorem ZiU {σ τ β:Type} {f:τ→Option (τ ⊕ β)} {g:Nat→σ→σ ⊕ β} {e:σ→β} {mk:Nat→σ→τ} {n:Nat} (J:Nat→σ→Prop)
  (hs:∀ (i:Nat) (s:σ),i < n→J i s→f (mk i s)=some (rdT mk (g i s) i)∧∀ s',g i s = .inl s'→J (i+1) s') (hl:∀ (m:Nat) (s:σ),n≤m→J m s→f (mk m s)=some (.inr (e s))) (i0:Nat) (s0:σ) (h0:J i0 s0) :
  loopM f (mk i0 s0)=some (runT g e i0 (n - i0) s0):=by
 have key:∀ (k i:Nat) (s:σ),i+k=n→J i s→Iter f (mk i s) (runT g e i k s):=by
  intro k
  induction k with
  | zero=>intro i s h hJ; exact .out (hl i s (by omega) hJ)
  | succ k ih =>
   intro i s h hJ
   obtain ⟨h1,h2⟩:=hs i s (by omega) hJ
   unfold runT
   cases hg:g i s with
   | inl s'=>rw [hg] at h1; exact .next h1 (ih (i+1) s' (by omega) (h2 s' hg))
   | inr y=>rw [hg] at h1; exact .out h1
 rcases Nat.lt_or_ge n i0 with h | h
 ·rw [show n - i0=0 by omega]
  exact UE (.out (hl i0 s0 (by omega) h0))
 ·exact UE (key (n - i0) i0 s0 (by omega) h0)
theorem Zj2 {σ τ β:Type} {f:τ→Option (τ ⊕ β)} {g:Nat→σ→σ ⊕ β} {e:σ→β} {mk:Nat→σ→τ} {n:Nat}
  (hs:∀ (i:Nat) (s:σ),i < n→f (mk i s)=some (rdT mk (g i s) i)) (hl:∀ (m:Nat) (s:σ),n≤m→f (mk m s)=some (.inr (e s))) (i0:Nat) (s0:σ) :
  loopM f (mk i0 s0)=some (runT g e i0 (n - i0) s0) :=
 ZiU (fun _ _=>True) (fun i s hi _=>⟨hs i s hi,fun _ _=>trivial⟩) (fun m s hm _=>hl m s hm) i0 s0 trivial
section
variable {α β γ ι:Type}
theorem dt {p:Prop} [Decidable p] (h:p):decide p=true:=decide_eq_true h
theorem YD {l:List Bool} {e:Option α} {r:Option α} (h:l.all id=true) (k:e=r):gd l e=r:=by unfold gd; rw [h]; exact k
theorem Zw {b:Bool} {l:List Bool} (h:b=true) (k:l.all id=true):(b :: l).all id=true:=by simp only [List.all_cons,h,k]; rfl
theorem XP:([]:List Bool).all id=true:=rfl
theorem JY {g b:Bool} (h:g=true→b=true):guardB g b=true:=by cases g <;> simp_all [guardB]
theorem JA [Inhabited α] {g:Bool} {x:Option α} {v:α} (h:g=true→x=some v):gc g x=some (bif g then v else default):=by
 cases g
 ·rfl
 ·exact h rfl
theorem Z3 {x:Option α} {v:α} {f:α→Option β} {s:α→β} (h:x=some v) (k:∀ r,r=v→f r=some (s r)):x.bind f=some (letS v s):=by
 rw [h]; exact k v rfl
theorem ZU {x:Option α} {v:α} {f:α→Option (Int ⊕ β)} {s:α→Option β} {i:Nat} (h:x=some v) (k:∀ r,r=v→f r=some (rdN (s r) i)):x.bind f=some (rdN (letS v s) i):=by
 rw [h]; exact k v rfl
theorem Jp {c:Bool} {x y:Option α} {s t:α} (h:c=true→x=some s) (k:c=false→y=some t):(bif c then x else y)=some (bif c then s else t):=by
 cases c
 ·exact k rfl
 ·exact h rfl
theorem XX {c:Bool} {x y:Option (Int ⊕ β)} {s t:Option β} {i:Nat} (h:c=true→x=some (rdN s i)) (k:c=false→y=some (rdN t i)):(bif c then x else y)=some (rdN (bif c then s else t) i):=by
 cases c
 ·exact k rfl
 ·exact h rfl
theorem Znk {σ τ:Type} {mk:Nat→σ→τ} {c:Bool} {x y:Option (τ ⊕ β)} {s t:σ ⊕ β} {i:Nat} (h:c=true→x=some (rdT mk s i)) (k:c=false→y=some (rdT mk t i)):(bif c then x else y)=some (rdT mk (bif c then s else t) i):=by
 cases c
 ·exact k rfl
 ·exact h rfl
theorem X2 {c:Bool} {x y r:α} (h:c=true) (k:x=r):(bif c then x else y)=r:=by subst h; exact k
theorem X3 {c:Bool} {x y r:α} (h:c=false) (k:y=r):(bif c then x else y)=r:=by subst h; exact k
theorem QG {f:ι→Option α} {g:γ→Option α} {s:ι→α} {t:γ→α} {y:ι ⊕ γ} (h:∀ a,y = .inl a→f a=some (s a)) (k:∀ b,y = .inr b→g b=some (t b)):Sum.elim f g y=some (Sum.elim s t y):=by
 cases y
 ·exact h _ rfl
 ·exact k _ rfl
theorem J4 {f:ι→Option (Int ⊕ β)} {g:γ→Option (Int ⊕ β)} {s:ι→Option β} {t:γ→Option β} {y:ι ⊕ γ} {i:Nat} (h:∀ a,y = .inl a→f a=some (rdN (s a) i)) (k:∀ b,y = .inr b→g b=some (rdN (t b) i)):Sum.elim f g y=some (rdN (Sum.elim s t y) i):=by
 cases y
 ·exact h _ rfl
 ·exact k _ rfl
theorem Zla {i:Nat} (h:i < maxLen):wr .i64 ((i:Int)+1)=((i+1:Nat):Int):=Zk8 h (Nat.le_refl _)
theorem JZ {i:Nat} (h:i < maxLen):(some (.inl (wr .i64 ((i:Int)+1))):Option (Int ⊕ β))=some (rdN none i):=by rw [Zla h]; rfl
theorem XE {y:β} {i:Nat}:(some (.inr y):Option (Int ⊕ β))=some (rdN (some y) i):=rfl
end
def LL {α:Type} (L:α→Prop) (l:List α):Prop:=l.length≤maxLen∧∀ x∈l,L x
theorem LL.getD {α:Type} [Inhabited α] {L:α→Prop} {l:List α} (h:LL L l) (d:L default) (i:Nat):L (l.getD i default):=by
 rcases Nat.lt_or_ge i l.length with h1 | h1
 ·have:l.getD i default=l[i]:=by simp [h1]
  rw [this]
  exact h.2 _ (List.getElem_mem h1)
 ·have:l.getD i default=default:=by simp [h1]
  rw [this]
  exact d
theorem LL.take {α:Type} {L:α→Prop} {l:List α} (h:LL L l) (i:Nat):LL L (l.take i):=⟨by rw [List.length_take]; have:=h.1; omega,fun x hx=>h.2 x (List.mem_of_mem_take hx)⟩
theorem LL.drop {α:Type} {L:α→Prop} {l:List α} (h:LL L l) (i:Nat):LL L (l.drop i):=⟨by rw [List.length_drop]; have:=h.1; omega,fun x hx=>h.2 x (List.mem_of_mem_drop hx)⟩
theorem Zlb {α:Type} {l:List α} {n m:Nat} (h:l.length≤m):(l.take n).length≤m:=by rw [List.length_take]; omega
theorem Zlc {α:Type} {l:List α} {n m:Nat} (h:l.length≤m):(l.drop n).length≤m:=by rw [List.length_drop]; omega
theorem Kp {β:Type} (g:Nat→Option β) (e:β):∀ (k i:Nat),(∃ j,i≤j∧j < i+k∧g j=some (runN g e i k)∧∀ l,i≤l→l < j→g l=none)∨(runN g e i k=e∧∀ l,i≤l→l < i+k→g l=none)
 | 0,i=>.inr ⟨rfl,fun l h1 h2=>by omega⟩
 | k+1,i=>by
  unfold runN
  cases hg:g i with
  | some y=>exact .inl ⟨i,Nat.le_refl _,by omega,hg,fun l h1 h2=>by omega⟩
  | none =>
   rcases Kp g e k (i+1) with ⟨j,h1,h2,h3,h4⟩ | ⟨h1,h2⟩
   ·exact .inl ⟨j,by omega,by omega,h3,fun l h5 h6=>by
     rcases Nat.lt_or_ge i l with h | h
     ·exact h4 l (by omega) h6
     ·obtain rfl:l=i:=by omega
      exact hg⟩
   ·exact .inr ⟨h1,fun l h5 h6=>by
     rcases Nat.lt_or_ge i l with h | h
     ·exact h2 l (by omega) (by omega)
     ·obtain rfl:l=i:=by omega
      exact hg⟩
theorem Zld {g:Nat→Option (Unit ⊕ Int)} (h:∀ i,g i=none∨g i=some (.inr (i:Int))) (n:Nat):Sum.elim (fun _=>(-1:Int)) (fun y=>y) (runN g (.inl ()) 0 n) < (n:Int):=by
 rcases Kp g (.inl ()) n 0 with ⟨j,h1,h2,h3,h4⟩ | ⟨h1,h2⟩
 ·rcases h j with h5 | h5
  ·rw [h5] at h3; cases h3
  ·rw [h5] at h3
   simp only [Option.some.injEq] at h3
   rw [← h3]
   show (j:Int) < n
   omega
 ·rw [h1]
  show (-1:Int) < n
  omega
theorem Zo:maxLen=9223372036854775807:=rfl
end Nv
namespace Nv
open Go
theorem ZfO {β:Type} {g g':Nat→Option β} {e:β}:∀ {k i:Nat},(∀ j,i≤j→j < i+k→g j=g' j)→runN g e i k=runN g' e i k
 | 0,_,_=>rfl
 | k+1,i,h=>by
  unfold runN
  rw [h i (Nat.le_refl _) (by omega),ZfO (k:=k) (i:=i+1) fun j h1 h2=>h j (by omega) (by omega)]
theorem YC {β:Type} {g g':Nat→Option β} {e:β} {n:Nat} (h:∀ j,j < n→g j=g' j):runN g e 0 n=runN g' e 0 n:=ZfO fun j _ h2=>h j (by omega)
def idxN (c:Nat→Bool) (n:Nat):Int:=Sum.elim (fun _=>(-1:Int)) (fun y=>y) (runN (fun j=>bif c j then some (.inr (j:Int)) else none) (.inl ():Unit ⊕ Int) 0 n)
theorem ZfP (c:Nat→Bool) (n:Nat):(∃ j,j < n∧c j=true∧(∀ l,l < j→c l=false)∧idxN c n=(j:Int))∨(idxN c n = -1∧∀ l,l < n→c l=false):=by
 unfold idxN
 rcases Kp (fun j=>bif c j then some (.inr (j:Int)) else none) (.inl ():Unit ⊕ Int) n 0 with ⟨j,h1,h2,h3,h4⟩ | ⟨h1,h2⟩
 ·left
  simp only [Nat.zero_add] at h2
  cases hc:c j with
  | false=>simp [hc] at h3
  | true =>
   simp only [hc,cond_true,Option.some.injEq] at h3
   refine ⟨j,h2,hc,fun l hl=>?_,by rw [← h3]; rfl⟩
   have:=h4 l (Nat.zero_le _) hl
   cases hcl:c l with
   | false=>rfl
   | true=>simp [hcl] at this
 ·right
  refine ⟨by rw [h1]; rfl,fun l hl=>?_⟩
  have:=h2 l (Nat.zero_le _) (by omega)
  cases hcl:c l with
  | false=>rfl
  | true=>simp [hcl] at this
def anyN (c:Nat→Bool):Nat→Bool
 | 0=>false
 | n+1=>anyN c n||c n
theorem V0 {c:Nat→Bool}:∀ {n:Nat},anyN c n=true↔∃ j,j < n∧c j=true
 | 0=>by simp [anyN]
 | n+1=>by
  unfold anyN
  rw [Bool.or_eq_true,V0]
  constructor
  ·rintro (⟨j,h1,h2⟩ | h)
   ·exact ⟨j,by omega,h2⟩
   ·exact ⟨n,by omega,h⟩
  ·rintro ⟨j,h1,h2⟩
   rcases Nat.lt_or_ge j n with h | h
   ·exact .inl ⟨j,h,h2⟩
   ·obtain rfl:j=n:=by omega
    exact .inr h2
theorem K3 {c:Nat→Bool} {n:Nat}:anyN c n=false↔∀ j,j < n→c j=false:=by
 constructor
 ·intro h j hj
  cases hc:c j with
  | false=>rfl
  | true =>
   have:=V0.2 ⟨j,hj,hc⟩
   rw [h] at this; cases this
 ·intro h
  cases ha:anyN c n with
  | false=>rfl
  | true =>
   obtain ⟨j,h1,h2⟩:=V0.1 ha
   rw [h j h1] at h2; cases h2
theorem ZfQ {c c':Nat→Bool} {n:Nat} (h:∀ j,j < n→c j=c' j):anyN c n=anyN c' n:=by
 cases hb:anyN c' n with
 | false=>exact K3.2 fun j hj=>by rw [h j hj]; exact K3.1 hb j hj
 | true=>obtain ⟨j,h1,h2⟩:=V0.1 hb; exact V0.2 ⟨j,h1,by rw [h j h1]; exact h2⟩
theorem Gj {β:Type} (c:Nat→Bool) (v e:β) (n:Nat):runN (fun k=>bif c k then some v else none) e 0 n=bif anyN c n then v else e:=by
 rcases Kp (fun k=>bif c k then some v else none) e n 0 with ⟨j,h1,h2,h3,h4⟩ | ⟨h1,h2⟩
 ·cases hc:c j with
  | false=>simp [hc] at h3
  | true =>
   simp only [hc,cond_true,Option.some.injEq] at h3
   rw [V0.2 ⟨j,by omega,hc⟩,← h3]; rfl
 ·rw [h1,K3.2 fun j hj=>?_]
  ·rfl
  ·have:=h2 j (Nat.zero_le _) (by omega)
   cases hcl:c j with
   | false=>rfl
   | true=>simp [hcl] at this
theorem Zle (c:Nat→Bool) (n:Nat):decide (idxN c n ≥ 0)=anyN c n:=by
 rcases ZfP c n with ⟨j,h1,h2,h3,h4⟩ | ⟨h1,h2⟩
 ·rw [h4,V0.2 ⟨j,h1,h2⟩]; simp
 ·rw [h1,K3.2 h2]; rfl
theorem Zay {c:Nat→Bool} {n i:Nat} (hi:i < n) (hc:c i=true):decide (idxN c n < (i:Int))=anyN c i:=by
 rcases ZfP c n with ⟨j,h1,h2,h3,h4⟩ | ⟨h1,h2⟩
 ·rw [h4]
  rcases Nat.lt_or_ge j i with h | h
  ·rw [V0.2 ⟨j,h,h2⟩]; simp [h]
  ·rw [K3.2 fun l hl=>h3 l (by omega)]; simp [h]
 ·rw [h2 i hi] at hc; cases hc
theorem Gr {α:Type} [Inhabited α] (l:List α) {k i:Nat} (h:k < i):((l.drop 0).take (i - 0)).getD k default=l.getD k default:=by
 first | simp [h] | simp [List.getElem?_take,h]
theorem R4 (s:ByteArray):strEq s s=true:=by unfold strEq; simp
def fnz:List Int→Int
 | []=>0
 | x :: l=>bif x != 0 then x else fnz l
theorem ZcO (l:List Int):∀ (k i:Nat),i+k=l.length→Sum.elim (fun _=>(0:Int)) (fun y=>y) (runN (fun j=>bif (l.getD j default) != 0 then some (.inr (l.getD j default)) else none) (.inl ():Unit ⊕ Int) i k)=fnz (l.drop i)
 | 0,i,h=>by rw [List.drop_eq_nil_of_le (by omega)]; rfl
 | k+1,i,h=>by
  have hi:i < l.length:=by omega
  have e:l.getD i default=l[i]:=by simp [hi]
  rw [List.drop_eq_getElem_cons hi]
  unfold runN fnz
  rw [e]
  cases hb:l[i] != 0 with
  | true=>rfl
  | false=>exact ZcO l k (i+1) (by omega)
theorem Zlf (l:List Int):Sum.elim (fun _=>(0:Int)) (fun y=>y) (runN (fun j=>bif (l.getD j default) != 0 then some (.inr (l.getD j default)) else none) (.inl ():Unit ⊕ Int) 0 l.length)=fnz l:=ZcO l l.length 0 (by omega)
end Nv
namespace Nv
open Go
def cl32 (n:Int):Int:=if n < 0 then 0 else if 32 < n then 32 else n
def mk32 (n:Int):Int:=wr .u32 (4294967295*2 ^ (32 - (cl32 n).toNat))
theorem Zc4 (n:Int):0≤cl32 n∧cl32 n≤32:=by unfold cl32; split <;> (try split) <;> omega
theorem Zmn {n:Int} (h:0≤n∧n≤32):cl32 n=n:=by unfold cl32; split <;> (try split) <;> omega
theorem Zj3 (n:Int):cl32 (cl32 n)=cl32 n:=Zmn (Zc4 n)
theorem Zhg (n:Int):mk32 (cl32 n)=mk32 n:=by unfold mk32; rw [Zj3]
end Nv
namespace Nv
open Go Go.RowKit
section
variable {F:Fr} {c:Ctx} {I1:Nat→Prop}
def Ctx.more (c:Ctx) (I1:Nat→Prop):Ctx:={ c with I:=fun b=>c.I b∨I1 b }
theorem Zhh {v:Value} {d:D} (h:PV c.I c.w v d):PV (c.more I1).I (c.more I1).w v d:=h.mono (fun _ h=>.inl h) fun _ _=>rfl
theorem Zfn {v:Value} {d:D} (h:CV c v d):CV (c.more I1) v d:=by
 cases d <;> simp only [CV] at h ⊢ <;> first | exact Zhh h | exact h
theorem Zjv {v:Value} {d:D} (h:AV c v d):AV (c.more I1) v d:=by
 cases d <;> simp only [AV] at h ⊢ <;> try exact Zfn h
 ·obtain ⟨vs,h1,h2⟩:=h; exact ⟨vs,h1,h2.mono fun _ _=>Zfn⟩
 ·obtain ⟨vs,h1,h2⟩:=h; exact ⟨vs,h1,h2.mono fun _ _=>Zfn⟩
theorem Zfo {v:Value} {d:D} (h:TV c v d):TV (c.more I1) v d:=by
 cases d <;> simp only [TV] at h ⊢ <;> try exact Zjv h
 obtain ⟨vs,h1,h2⟩:=h; exact ⟨vs,h1,h2.mono fun _ _=>Zjv⟩
theorem ZdF (hI:Inv F c) (h1:∀ b,I1 b→b < c.w.heap.size∧F.w0.heap.size≤b∧∀ id,c.mu id ≠ some b) (hfb:∀ b,I1 b→∀ (id:Nat) (o:Ob) (j:Nat),c.H[id]? = some o→fblk o j ≠ some b):Inv F (c.more I1):=by
 refine ⟨hI.below,fun b hb=>?_,fun id b hb=>?_,hI.inj,fun id o ho=>?_,hI.dom,hI.lent,hI.mark,fun id o j b h5 h6=>?_⟩
 case refine_4 =>
  obtain ⟨⟨h9,h10,h11,h12⟩,h13⟩:=hI.fam id o j b h5 h6
  exact ⟨⟨h9,h10,fun h=>h.elim h11 fun h=>hfb b h id o j h5 h6,h12⟩,h13⟩
 ·rcases hb with hb | hb
  ·exact hI.imm b hb
  ·obtain ⟨h2,h3,_⟩:=h1 b hb; exact ⟨h2,fun h=>absurd h (Nat.not_lt.2 h3)⟩
 ·obtain ⟨h2,h3,h4⟩:=hI.loc id b hb
  exact ⟨h2,h3,fun h=>h.elim h4 fun h=>(h1 b h).2.2 id hb⟩
 ·have hv:=hI.obj id o ho
  cases o with
  | fam foc is n2 wd2 vs ls=>exact RL hv (fun _ _=>Zhh) fun _ _ _=>rfl
  | box cells=>obtain ⟨b,cs,T,h2,h3,h4⟩:=hv; exact ⟨b,cs,T,h2,h3,h4.mono fun _ _=>Zfn⟩
  | arr wd n f =>
   obtain ⟨h2,h3⟩:=hv
   refine ⟨h2,h3.imp (fun x=>x) ?_⟩
   rintro ⟨b,cs,T,h4,h5,h6,h7⟩
   exact ⟨b,cs,T,h4,h5,h6,fun i hi j d hd=>let ⟨v,e1,e2,e3⟩:=h7 i hi j d hd; ⟨v,e1,e2,Zhh e3⟩⟩
  | mp _ _=>exact hv
  | gone=>exact hv
end
theorem Zhi {α:Type} [Inhabited α] {nt:Nat} {e:List (Nat × D)} {H:List Ob} (t id wd:Nat) (c:α→List D) (l:List α) (g:Nat→List D) (h:find e t = .asl id 0 l.length) (ho:H[id]? = some (aL wd c l)) (hf:freeB H id=true) :
  Le ⟨nt,e,H⟩ ⟨nt,(t,sL wd c l) :: e.map (fun p=>(p.1,purge (some id) p.2)),(H.set id (.arr wd 0 g)).map (purgeO id)⟩:=by
 rintro F a w ⟨cx,rfl,hH,hI,henv,hsz,hd⟩
 obtain rfl:cx.H=H:=hH
 have hown:=Zbs hI ho (by simp [aL]) hf
 have hid:id < cx.H.length:=(List.getElem?_eq_some_iff.1 ho).1
 have hr:Redo cx id none cx.w:=⟨rfl,rfl,rfl,Nat.le_refl _,Nat.le_refl _,fun _ _ _=>rfl,fun b hb=>by cases hb⟩
 have hI1:=G4 hI hown hr hid wd 0 g ⟨fun i hi=>by omega,.inl ⟨rfl,rfl⟩⟩
 have hnl:∀ k,cx.mu id=some k→¬ F.lent k:=fun k hk hl=>by
  obtain ⟨i,hi⟩:=List.getElem?_of_mem hl
  have h1:=hI.lent i _ hi
  have h2:=hI.inj i id k h1 hk
  have h3:=(List.getElem?_eq_some_iff.1 hi).1
  rcases hown with h4 | h4
  ·rw [h4] at h3; simp at h3
  ·omega
 have hI2:=ZdF (I1:=fun b=>cx.mu id=some b) hI1 (fun b hb=>⟨(hI.loc id b hb).2.1,((hI.loc id b hb).1).resolve_right (hnl b hb),fun i hi=>by
  simp only [Ctx.redo] at hi
  split at hi
  ·cases hi
  ·rename_i hne
   exact hne (hI.inj i id b hi hb)⟩) (fun b hb i o j h1 h2=>by
  obtain ⟨o1,h3,h4⟩:=RZ h1 h2
  exact (hI.fb h3 h4).2 id hb)
 refine ⟨(cx.redo id (.arr wd 0 g) none cx.w).more fun b=>cx.mu id=some b,rfl,rfl,hI2,fun u=>?_,hsz,hd⟩
 show TV _ _ (find ((t,sL wd c l) :: e.map (fun p=>(p.1,purge (some id) p.2))) u)
 simp only [find]
 cases hb:Nat.beq t u with
 | false =>
  simp only [cond_false]
  rw [Kx]
  exact Zfo (Rw hI hr (henv u))
 | true =>
  obtain rfl:=Nat.eq_of_beq_eq_true hb
  simp only [cond_true]
  have h2:TV cx (a.tmps.getD t undef) (find e t):=henv t
  rw [h] at h2
  generalize a.tmps.getD t undef=v at h2
  obtain ⟨a0,cap,gv,hS⟩:=KY hI (x:=.asl id 0 l.length) (wd:=wd) (m:=l.length) (g:=fun i=>(fun i=>c (l.getD i default)) (0+i)) (by simp only [srcD,ho,aL]) h2
  simp only [TV,AV,CV] at h2
  obtain ⟨wd1,n1,f1,a1,cap1,ho1,hl1,hv1,hc1,hor⟩:=h2
  have hval:=hS.val
  rw [hv1] at hval
  cases hval
  subst hv1
  simp only [sL,TV,AV,CV]
  refine .sl a0 l.length cap wd false _ gv (fun h=>by cases h) hS.le (fun hn=>?_) (fun i hi=>?_) hS.one fun i hi j d hd=>?_
  ·obtain ⟨b,o,ha,hc⟩:=hS.cell hn
   rcases hor with h0 | ⟨b',hb',ha',_⟩
   ·omega
   ·rw [ha] at ha'
    cases ha'
    exact ⟨_,_,ha,.inr hb',hc⟩
  ·have:=hS.len i hi
   rwa [Nat.zero_add] at this
  ·exact (hS.pv i hi j d (by rw [Nat.zero_add]; exact hd)).mono (fun _ h=>.inl h) fun _ _=>rfl
section
variable {α:Type} [Inhabited α] (c:α→List D)
end
end Nv
namespace Nv
open Go Go.RowKit
theorem Zaz {f q:Nat→List D} {n:Nat} (h:∀ i,i < n→f i=q i):∀ i,i < n→f (0+i)=q i:=fun i hi=>by rw [Nat.zero_add]; exact h i hi
def frC (id wd:Nat) (f:Nat→List D):D→D
 | .asl i off m=>bif Nat.beq i id then .sl false wd m (fun k=>f (off+k)) else .asl i off m
 | d=>bif mt id d then .any else d
def frO (id wd:Nat) (f:Nat→List D):Ob→Ob
 | .box cells=>.box (cells.map (frC id wd f))
 | o=>o
def frS (id wd:Nat) (f g:Nat→List D) (s:St):St:=⟨s.nt,s.env.map fun p=>(p.1,frC id wd f p.2),(s.H.set id (.arr wd 0 g)).map (frO id wd f)⟩
def Ctx.frz (c:Ctx) (id wd:Nat) (f g:Nat→List D):Ctx :=
 { I:=fun b=>c.I b∨c.mu id=some b,mu:=fun i=>if i=id then none else c.mu i,H:=(c.H.set id (.arr wd 0 g)).map (frO id wd f),w:=c.w }
theorem Zh8 (id wd:Nat) (f:Nat→List D):∀ (env:List (Nat × D)) (t:Nat),find (env.map fun p=>(p.1,frC id wd f p.2)) t=frC id wd f (find env t)
 | [],t=>by simp [find,frC,mt]
 | p :: e,t=>by
  simp only [List.map_cons,find]
  cases Nat.beq p.1 t with
  | true=>rfl
  | false=>exact Zh8 id wd f e t
section
variable {F:Fr} {c:Ctx} {id wd n:Nat} {f g:Nat→List D}
theorem Zlg {i:Nat} (hne:i ≠ id) {o:Ob} (h:c.H[i]? = some o):(c.frz id wd f g).H[i]? = some (frO id wd f o):=by
 simp only [Ctx.frz,List.getElem?_map,List.getElem?_set_ne (Ne.symm hne),h,Option.map_some]
theorem ZiV {v:Value} {d:D} (h:PV c.I c.w v d):PV (c.frz id wd f g).I (c.frz id wd f g).w v d:=h.mono (fun _ h=>.inl h) fun _ _=>rfl
theorem ZfR {v:Value} {d:D} (h:CV c v d) (hm:mc id d=false):CV (c.frz id wd f g) v d:=by
 cases d <;> simp only [CV] at h ⊢ <;> try exact ZiV h
 ·rename_i i off
  have hne:i ≠ id:=Nat.ne_of_beq_eq_false hm
  obtain ⟨b,hb,hv⟩:=h
  exact ⟨b,by simp [Ctx.frz,hne,hb],hv⟩
 ·rename_i i j off
  have hne:i ≠ id:=Nat.ne_of_beq_eq_false hm
  obtain ⟨b,wd1,n1,f1,hb,hH,hi,hv⟩:=h
  exact ⟨b,wd1,n1,f1,by simp [Ctx.frz,hne,hb],Zlg hne hH,hi,hv⟩
 ·rename_i i off len
  have hne:i ≠ id:=Nat.ne_of_beq_eq_false hm
  obtain ⟨wd1,n1,f1,a,cap,hH,h2,h3,h4,h5⟩:=h
  refine ⟨wd1,n1,f1,a,cap,Zlg hne hH,h2,h3,h4,h5.imp (fun x=>x) ?_⟩
  rintro ⟨b,hb,ha,hr⟩
  exact ⟨b,by simp [Ctx.frz,hne,hb],ha,hr⟩
theorem Zlh {v:Value} {d:D} (h:AV c v d) (hm:ma id d=false):AV (c.frz id wd f g) v d:=by
 cases d <;> simp only [AV] at h ⊢ <;> try exact ZfR h hm
 ·obtain ⟨vs,h1,h2⟩:=h; exact ⟨vs,h1,RY (fun v d h hq=>ZfR h hq) h2 hm⟩
 ·obtain ⟨vs,h1,h2⟩:=h; exact ⟨vs,h1,RY (fun v d h hq=>ZfR h hq) h2 hm⟩
theorem Zmo (hI:Inv F c) (ho:c.H[id]? = some (.arr wd n f)) {v:Value} {off m:Nat} (h:CV c v (.asl id off m)):PV (c.frz id wd f g).I (c.frz id wd f g).w v (.sl false wd m (fun k=>f (off+k))):=by
 have h2:TV c v (.asl id off m):=by simp only [TV,AV]; exact h
 obtain ⟨a0,cap,gv,hS⟩:=KY hI (x:=.asl id off m) (wd:=wd) (m:=m) (g:=fun i=>f (off+i)) (by simp only [srcD,ho]) h2
 simp only [CV] at h
 obtain ⟨wd1,n1,f1,a1,cap1,ho1,hl1,hv1,hc1,hor⟩:=h
 have hval:=hS.val
 rw [hv1] at hval
 cases hval
 subst hv1
 refine .sl a0 m cap wd false _ gv (fun h=>by cases h) hS.le (fun hn=>?_) hS.len hS.one fun i hi j d hd=>(hS.pv i hi j d hd).mono (fun _ h=>.inl h) fun _ _=>rfl
 obtain ⟨b,o,ha,hc⟩:=hS.cell hn
 rcases hor with h0 | ⟨b',hb',ha',_⟩
 ·omega
 ·rw [ha] at ha'
  cases ha'
  exact ⟨_,_,ha,.inr hb',hc⟩
theorem ZmP (hI:Inv F c) (ho:c.H[id]? = some (.arr wd n f)) {v:Value} {d:D} (h:CV c v d):CV (c.frz id wd f g) v (frC id wd f d):=by
 have gen:∀ d,CV c v d→(∀ i off m,d ≠ .asl i off m)→CV (c.frz id wd f g) v (bif mt id d then .any else d):=fun d h _=>by
  cases hm:mt id d with
  | true=>simp only [cond_true,CV]; exact .any _
  | false =>
   simp only [cond_false]
   cases d <;> first | exact ZfR h hm | (simp only [CV] at h ⊢; cases h; exact .fn _) | (simp only [CV] at h; cases h)
 cases d <;> try exact gen _ h (by simp)
 rename_i i off m
 simp only [frC]
 cases hb:Nat.beq i id with
 | true =>
  obtain rfl:=Nat.eq_of_beq_eq_true hb
  simp only [cond_true]
  have:=Zmo (g:=g) hI ho h
  simpa only [CV] using this
 | false =>
  simp only [cond_false]
  exact ZfR h hb
theorem Znl (hI:Inv F c) (ho:c.H[id]? = some (.arr wd n f)) {v:Value} {d:D} (h:TV c v d):TV (c.frz id wd f g) v (frC id wd f d):=by
 have gen:∀ d,TV c v d→(∀ i off m,d ≠ .asl i off m)→TV (c.frz id wd f g) v (bif mt id d then .any else d):=fun d h _=>by
  cases hm:mt id d with
  | true=>exact WS
  | false =>
   simp only [cond_false]
   cases d <;> simp only [TV] at h ⊢ <;> first | exact Zlh h hm | skip
   ·obtain ⟨vs,h1,h2⟩:=h; exact ⟨vs,h1,RY (fun v d h hq=>Zlh h hq) h2 hm⟩
   ·cases hm
 cases d <;> try exact gen _ h (by simp)
 simp only [TV,AV] at h
 have h3:=ZmP (g:=g) hI ho h
 rename_i i off m
 simp only [frC] at h3 ⊢
 cases hb:Nat.beq i id with
 | true=>rw [hb] at h3; simpa only [TV,AV,cond_true] using h3
 | false=>rw [hb] at h3; simpa only [TV,AV,cond_false] using h3
end
theorem Zli (id wd:Nat) (f:Nat→List D) (o:Ob) (j:Nat):fblk (frO id wd f o) j=fblk o j:=by cases o <;> rfl
theorem Zc5 {s s':St} (id wd n:Nat) (f g:Nat→List D) (ho:s.H[id]? = some (.arr wd n f)) (hf:freeB s.H id=true) (h:frS id wd f g s=s'):Le s s':=by
 subst h
 rintro F a w ⟨cx,rfl,hH,hI,henv,hsz,hd⟩
 rw [← hH] at ho hf
 have hown:=Zbs hI ho (by simp) hf
 have hid:id < cx.H.length:=(List.getElem?_eq_some_iff.1 ho).1
 have hr:Redo cx id none cx.w:=⟨rfl,rfl,rfl,Nat.le_refl _,Nat.le_refl _,fun _ _ _=>rfl,fun b hb=>by cases hb⟩
 have hI1:=G4 hI hown hr hid wd 0 g ⟨fun i hi=>by omega,.inl ⟨rfl,rfl⟩⟩
 have hnl:∀ k,cx.mu id=some k→¬ F.lent k:=fun k hk hl=>by
  obtain ⟨i,hi⟩:=List.getElem?_of_mem hl
  have h1:=hI.lent i _ hi
  have h2:=hI.inj i id k h1 hk
  have h3:=(List.getElem?_eq_some_iff.1 hi).1
  rcases hown with h4 | h4
  ·rw [h4] at h3; simp at h3
  ·omega
 have hI2:=ZdF (I1:=fun b=>cx.mu id=some b) hI1 (fun b hb=>⟨(hI.loc id b hb).2.1,((hI.loc id b hb).1).resolve_right (hnl b hb),fun i hi=>by
  simp only [Ctx.redo] at hi
  split at hi
  ·cases hi
  ·rename_i hne
   exact hne (hI.inj i id b hi hb)⟩) (fun b hb i o j h1 h2=>by
  obtain ⟨o1,h3,h4⟩:=RZ h1 h2
  exact (hI.fb h3 h4).2 id hb)
 refine ⟨cx.frz id wd f g,rfl,by simp only [frS,← hH]; rfl,⟨hI2.below,hI2.imm,hI2.loc,hI2.inj,fun i o h=>?_,fun i hi=>?_,hI2.lent,fun hl=>?_,hI.fam.mono (fun i o j b h1 h2=>by
  simp only [Ctx.frz,List.getElem?_map] at h1
  obtain ⟨o3,h3,rfl⟩:=Option.map_eq_some_iff.1 h1
  rw [Zli] at h2
  exact Gg (fun _=>rfl) h3 h2) (Nat.le_refl _) (fun b _ h=>h.imp (fun h=>h) fun h=>⟨id,h⟩) fun i b h=>by
  simp only [Ctx.frz] at h
  split at h
  ·cases h
  ·exact .inl ⟨i,h⟩⟩,fun u=>?_,hsz,hd⟩
 ·by_cases e:i=id
  ·subst e
   have:o = .arr wd 0 g:=by
    simp only [Ctx.frz,List.getElem?_map,List.getElem?_set_self hid,Option.map_some,frO,Option.some.injEq] at h
    exact h.symm
   subst this
   exact ⟨fun i hi=>by omega,.inl ⟨by simp [Ctx.frz],rfl⟩⟩
  ·obtain ⟨o3,hH3,rfl⟩:∃ o3,cx.H[i]? = some o3∧frO id wd f o3=o:=by
    simp only [Ctx.frz,List.getElem?_map,List.getElem?_set_ne (Ne.symm e)] at h
    exact Option.map_eq_some_iff.1 h
   have hv:=hI.obj i o3 hH3
   have em:(cx.frz id wd f g).mu i=cx.mu i:=by simp [Ctx.frz,e]
   rw [em]
   cases o3 with
   | fam foc is n2 wd2 vs ls=>exact RL hv (fun _ _=>ZiV) fun _ _ _=>rfl
   | box cells =>
    obtain ⟨b,cs,T,h2,h3,h4⟩:=hv
    refine ⟨b,cs,T,h2,h3,by rw [h4.1]; simp,fun j v d h5 h6=>?_⟩
    rw [List.getElem?_map] at h6
    obtain ⟨d0,h7,rfl⟩:=Option.map_eq_some_iff.1 h6
    exact ZmP hI ho (h4.2 j v d0 h5 h7)
   | arr wd1 n1 f1 =>
    obtain ⟨h2,h3⟩:=hv
    refine ⟨h2,h3.imp (fun x=>x) ?_⟩
    rintro ⟨b,cs,T,h4,h5,h6,h7⟩
    exact ⟨b,cs,T,h4,h5,h6,fun i hi j d hd=>let ⟨v,e1,e2,e3⟩:=h7 i hi j d hd; ⟨v,e1,e2,ZiV e3⟩⟩
   | mp _ _=>exact hv
   | gone=>exact hv
 ·have h1:=hI2.dom i (by simpa [Ctx.frz,Ctx.redo,Ctx.more] using hi)
  exact h1
 ·have hne:F.L.length ≠ id:=by
   rcases hown with h4 | h4
   ·exact absurd h4 hl
   ·omega
  exact Zlg hne (hI.mark hl)
 ·show TV _ _ (find (s.env.map fun p=>(p.1,frC id wd f p.2)) u)
  rw [Zh8]
  exact Znl hI ho (henv u)
end Nv
namespace Nv
open Go Go.RowKit
def LeE {α:Type} (s:St) (S:α→St):Prop:=∀ F a w,Rel F s a w→∃ x,Rel F (S x) a w
theorem Zmp {P:Program} {c:Code} {Q:Exit→St→Prop} {α:Type} {s:St} {S:α→St} (h:LeE s S) (k:∀ x,AWP P c Q (S x)):AWP P c Q s:=fun F a w hG hR=>by
 obtain ⟨x,hx⟩:=h F a w hR
 exact k x F a w hG hx
theorem LeE.of {α:Type} {s:St} {S:α→St} (x:α) (h:Le s (S x)):LeE s S:=fun F a w hR=>⟨x,h F a w hR⟩
theorem LeE.then {α β:Type} {s:St} {S:α→St} {S':β→St} (h:LeE s S) (k:∀ x,LeE (S x) S'):LeE s S':=fun F a w hR=>by
 obtain ⟨x,hx⟩:=h F a w hR
 exact k x F a w hx
def RoundE {α β γ:Type} (S:α→γ→St) (O:β→Exit→St→Prop):(α ⊕ β)→Exit→St→Prop
 | .inl x',e,s=>e = .normal∧LeE s (S x')
 | .inr y,e,s=>e ≠ .normal∧O y e s
theorem Zch {P:Program} {c:Code} {α β γ:Type} {f:α→Option (α ⊕ β)} {S:α→γ→St} {O:β→Exit→St→Prop} (round:∀ x r g,f x=some r→AWP P c (RoundE S O r) (S x g)) {x:α} {y:β} (h:Iter f x y) (g:γ) :
  AWP P (.loop c) (O y) (S x g):=by
 intro F a w hG hR
 refine Zav (f:=f) (fun x a w=>∃ g,Rel F (S x g) a w) (fun y e a w=>∃ s',O y e s'∧Rel F s' a w) (fun x r a w hx hI=>?_) h ⟨g,hR⟩
 obtain ⟨g,hI⟩:=hI
 refine wp_mono (round x r g hx F a w hG hI) ?_
 rintro e a' w' ⟨s',h1,h2⟩
 cases r with
 | inl x'=>exact ⟨h1.1,h1.2 _ _ _ h2⟩
 | inr y=>exact ⟨h1.1,s',h1.2,h2⟩
open Classical in
noncomputable def pB (p:Prop):Bool:=decide p
theorem Zhj {p:Prop}:pB p=true↔p:=by simp [pB]
theorem Zlj {p:Prop} (h:p):pB p=true:=Zhj.2 h
section
variable {F:Fr} {c:Ctx} {id:Nat} {o o':Ob}
def Ctx.seen (c:Ctx) (id:Nat) (o':Ob):Ctx:={ c with H:=c.H.set id o' }
theorem ZdG (ho:c.H[id]? = some o) (hs:(∀ wd n f,o = .arr wd n f→∃ f',o' = .arr wd n f')) {v:Value} {d:D} (h:CV c v d):CV (c.seen id o') v d:=by
 have key:∀ (i wd n:Nat) (f:Nat→List D),c.H[i]? = some (.arr wd n f)→∃ f',(c.seen id o').H[i]? = some (.arr wd n f'):=fun i wd n f hi=>by
  by_cases e:i=id
  ·subst e
   rw [ho] at hi
   obtain ⟨f',rfl⟩:=hs wd n f (Option.some.inj hi)
   exact ⟨f',by simp only [Ctx.seen]; rw [List.getElem?_set_self (List.getElem?_eq_some_iff.1 ho).1]⟩
  ·exact ⟨f,by simp only [Ctx.seen]; rw [List.getElem?_set_ne (Ne.symm e)]; exact hi⟩
 cases d <;> simp only [CV] at h ⊢ <;> try exact h
 ·obtain ⟨b,w1,n1,f1,hb,hH,hi,hv⟩:=h
  obtain ⟨f',h1⟩:=key _ _ _ _ hH
  exact ⟨b,w1,n1,f',hb,h1,hi,hv⟩
 ·obtain ⟨w1,n1,f1,a,cap,hH,h2⟩:=h
  obtain ⟨f',h1⟩:=key _ _ _ _ hH
  exact ⟨w1,n1,f',a,cap,h1,h2⟩
theorem Zjw (ho:c.H[id]? = some o) (hs:(∀ wd n f,o = .arr wd n f→∃ f',o' = .arr wd n f')) {v:Value} {d:D} (h:AV c v d):AV (c.seen id o') v d:=by
 cases d <;> simp only [AV] at h ⊢ <;> try exact ZdG ho hs h
 ·obtain ⟨vs,h1,h2⟩:=h; exact ⟨vs,h1,h2.mono fun _ _=>ZdG ho hs⟩
 ·obtain ⟨vs,h1,h2⟩:=h; exact ⟨vs,h1,h2.mono fun _ _=>ZdG ho hs⟩
theorem RA (ho:c.H[id]? = some o) (hs:(∀ wd n f,o = .arr wd n f→∃ f',o' = .arr wd n f')) {v:Value} {d:D} (h:TV c v d):TV (c.seen id o') v d:=by
 cases d <;> simp only [TV] at h ⊢ <;> try exact Zjw ho hs h
 obtain ⟨vs,h1,h2⟩:=h; exact ⟨vs,h1,h2.mono fun _ _=>Zjw ho hs⟩
theorem Ky (hI:Inv F c) (ho:c.H[id]? = some o) (hg:o ≠ .gone) (hs:(∀ wd n f,o = .arr wd n f→∃ f',o' = .arr wd n f')) (hov:OV c (c.mu id) o→OV (c.seen id o') (c.mu id) o') (hf:Fam F (c.seen id o')):Inv F (c.seen id o'):=by
 have hid:=(List.getElem?_eq_some_iff.1 ho).1
 refine ⟨hI.below,hI.imm,hI.loc,hI.inj,fun i q hq=>?_,fun i hi=>hI.dom i (by simpa [Ctx.seen] using hi),hI.lent,fun hl=>?_,hf⟩
 ·by_cases e:i=id
  ·subst e
   simp only [Ctx.seen] at hq
   rw [List.getElem?_set_self hid] at hq
   cases hq
   exact hov (hI.obj i o ho)
  ·have hq':c.H[i]? = some q:=by simp only [Ctx.seen] at hq; rw [List.getElem?_set_ne (Ne.symm e)] at hq; exact hq
   have hv:=hI.obj i q hq'
   show OV (c.seen id o') (c.mu i) q
   cases q with
   | box cells=>obtain ⟨k,cs',T',hk,h5,h6⟩:=hv; exact ⟨k,cs',T',hk,h5,h6.mono fun _ _=>ZdG ho hs⟩
   | arr w1 n1 f1=>exact hv
   | fam _ _ _ _ _ _=>exact hv
   | mp _ _=>exact hv
   | gone=>exact hv
 ·have h1:=hI.mark hl
  have hne:F.L.length ≠ id:=fun e=>by rw [e,ho] at h1; cases h1; exact hg rfl
  simp only [Ctx.seen]
  rw [List.getElem?_set_ne (Ne.symm hne)]
  exact h1
end
theorem Zlk {nt:Nat} {e:List (Nat × D)} {H:List Ob} {idf foc n wd:Nat} {is:Value→Bool} {vs:Nat→Value} {ls:Nat→Nat × (Nat→List D)} (j:Nat) (ho:H[idf]? = some (.fam foc is n wd vs ls)) :
  Le ⟨nt,e,H⟩ ⟨nt,e,H.set idf (.fam j (fun v=>pB (v=vs j)) n wd vs ls)⟩:=by
 rintro F a w ⟨c,rfl,hH,hI,henv,hsz,hd⟩
 obtain rfl:c.H=H:=hH
 refine ⟨c.seen idf _,rfl,rfl,Ky hI ho (by simp) (by simp) (fun h=>⟨⟨h.1.1,fun v hv=>Zhj.1 hv⟩,h.2⟩) (hI.fam.mono (fun id o j' b h1 h2=>?_) (Nat.le_refl _) (fun b _ h=>.inl h) fun i b h=>.inl ⟨i,h⟩),fun t=>RA ho (by simp) (henv t),hsz,hd⟩
 by_cases e:id=idf
 ·subst e
  simp only [Ctx.seen] at h1
  rw [List.getElem?_set_self (List.getElem?_eq_some_iff.1 ho).1] at h1
  cases h1
  exact ⟨_,ho,h2⟩
 ·simp only [Ctx.seen] at h1
  rw [List.getElem?_set_ne (Ne.symm e)] at h1
  exact ⟨o,h1,h2⟩
theorem refam {F:Fr} {c:Ctx} (hI:Inv F c) {idf foc n wd k m m' j:Nat} {is:Value→Bool} {vs:Nat→Value} {ls:Nat→Nat × (Nat→List D)} {g:Nat→List D} {u:Value} (ho:c.H[idf]? = some (.fam foc is n wd vs ls)) (hk:c.H[k]? = some (.arr wd m g)) (hfr:freeB c.H k=true)
  (hj:blkOf (vs j)=none) (hcv:CV c u (.asl k 0 m')) :
  ∃ c',c'.w=c.w∧Inv F c'∧c'.H=((c.H.set k (.arr wd 0 g)).map (purgeO k)).set idf (.fam 0 (fun _=>false) n wd (updV vs j u) (updL ls j (m',g)))∧(∀ v d,TV c v d→TV c' v (purge (some k) d))∧u.oneCell'=true:=by
 have hown:=Zbs hI hk (by simp) hfr
 have hid:k < c.H.length:=(List.getElem?_eq_some_iff.1 hk).1
 have hne:idf ≠ k:=fun e=>by rw [e,hk] at ho; cases ho
 have hr:Redo c k none c.w:=⟨rfl,rfl,rfl,Nat.le_refl _,Nat.le_refl _,fun _ _ _=>rfl,fun b hb=>by cases hb⟩
 have hI1:=G4 hI hown hr hid wd 0 g ⟨fun i hi=>by omega,.inl ⟨rfl,rfl⟩⟩
 have ho1:(c.redo k (.arr wd 0 g) none c.w).H[idf]? = some (.fam foc is n wd vs ls):=Zg6 hne ho
 have hnl:∀ b,c.mu k=some b→¬ F.lent b:=fun b hb hl=>by
  obtain ⟨i,hi⟩:=List.getElem?_of_mem hl
  have h1:=hI.lent i _ hi
  have h2:=hI.inj i k b h1 hb
  have h3:=(List.getElem?_eq_some_iff.1 hi).1
  rcases hown with h4 | h4
  ·rw [h4] at h3; simp at h3
  ·omega
 simp only [CV] at hcv
 obtain ⟨wd1,n1,f1,ad,cap,hk1,hm,hval,hcap,hor⟩:=hcv
 rw [hk] at hk1
 cases hk1
 have hobk:=hI.obj k _ hk
 have hblk:∀ b,blkOf u=some b→c.mu k=some b:=fun b hb=>by
  rw [hval] at hb
  cases ad with
  | none=>cases hb
  | some ad =>
   simp only [blkOf] at hb
   split at hb
   ·cases hb
   ·rcases hor with h0 | ⟨b',hb',ha',_⟩
    ·contradiction
    ·cases ha'; cases hb; exact hb'
 have hfam:FamAt c u wd m' g:=by
  refine ⟨ad,cap,hval,hcap,fun i hi=>hobk.1 i (by omega),?_⟩
  rcases hor with h0 | ⟨b',hb',ha',cs,T,hh,hroom⟩
  ·exact .inl h0
  ·rcases hobk.2 with ⟨h0,_⟩ | ⟨b,cs',T',hb,hh',hsz',hcells⟩
   ·rw [hb'] at h0; cases h0
   ·rw [hb'] at hb; cases hb
    rw [hh] at hh'; cases hh'
    exact .inr ⟨b',cs,T,by simpa using ha',hh,by simpa using hroom,fun i hi=>hcells i (by omega)⟩
 let o':Ob:=.fam 0 (fun _=>false) n wd (updV vs j u) (updL ls j (m',g))
 have hidf:idf < (c.redo k (.arr wd 0 g) none c.w).H.length:=(List.getElem?_eq_some_iff.1 ho1).1
 have hold:∀ (i:Nat) (q:Ob) (jj b:Nat),((c.redo k (.arr wd 0 g) none c.w).seen idf o').H[i]? = some q→fblk q jj=some b →
   (i=idf∧jj=j∧c.mu k=some b)∨(∃ q0,(c.redo k (.arr wd 0 g) none c.w).H[i]? = some q0∧fblk q0 jj=some b):=by
  intro i q jj b h2 h3
  by_cases e2:i=idf
  ·subst e2
   simp only [Ctx.seen] at h2
   rw [List.getElem?_set_self hidf] at h2
   cases h2
   simp only [o',fblk] at h3
   split at h3
   ·rename_i hin
    by_cases e3:jj=j
    ·subst e3
     rw [UD] at h3
     exact .inl ⟨rfl,rfl,hblk b h3⟩
    ·rw [G5 e3] at h3
     exact .inr ⟨_,ho1,by simp only [fblk]; rw [if_pos hin]; exact h3⟩
   ·cases h3
  ·simp only [Ctx.seen] at h2
   rw [List.getElem?_set_ne (Ne.symm e2)] at h2
   exact .inr ⟨q,h2,h3⟩
 have hnk:∀ (i:Nat) (q:Ob) (jj b:Nat),(c.redo k (.arr wd 0 g) none c.w).H[i]? = some q→fblk q jj=some b→c.mu k ≠ some b:=fun i q jj b h2 h3=>by
  obtain ⟨o1,h4,h5⟩:=RZ h2 h3
  exact (hI.fb h4 h5).2 k
 have hmuk:∀ i b,c.mu k=some b→(c.redo k (.arr wd 0 g) none c.w).mu i ≠ some b:=fun i b hb h2=>by
  simp only [Ctx.redo] at h2
  split at h2
  ·cases h2
  ·rename_i hn; exact hn (hI.inj i k b h2 hb)
 refine ⟨(c.redo k (.arr wd 0 g) none c.w).seen idf o',rfl,Ky hI1 ho1 (by simp) (by simp) (fun h=>⟨⟨h.1.1,fun _ h=>by cases h⟩,fun i hi=>?_⟩) (fun i q jj b h2 h3=>?_),rfl,fun v d h=>RA ho1 (by simp) (Rw hI hr h),by rw [hval]; rfl⟩
 ·by_cases e3:i=j
  ·subst e3; rw [UD,Zcd]; exact hfam
  ·rw [G5 e3,Zce e3]; exact h.2 i hi
 ·rcases hold i q jj b h2 h3 with ⟨rfl,rfl,h4⟩ | ⟨q0,h4,h5⟩
  ·refine ⟨⟨((hI.loc k b h4).1).resolve_right (hnl b h4),(hI.loc k b h4).2.1,(hI.loc k b h4).2.2,fun i' h5=>hmuk i' b h4 h5⟩,fun id' q' j' h6 h7=>?_⟩
   rcases hold id' q' j' b h6 h7 with ⟨h8,h9,_⟩ | ⟨q1,h8,h9⟩
   ·exact ⟨h8,h9⟩
   ·exact absurd h4 (hnk id' q1 j' b h8 h9)
  ·obtain ⟨h6,h7⟩:=hI1.fam i q0 jj b h4 h5
   refine ⟨h6,fun id' q' j' h8 h9=>?_⟩
   rcases hold id' q' j' b h8 h9 with ⟨_,_,h10⟩ | ⟨q1,h10,h11⟩
   ·exact absurd h10 (hnk i q0 jj b h4 h5)
   ·exact h7 id' q1 j' h10 h11
theorem Zjx {nt:Nat} {e:List (Nat × D)} {H:List Ob} {idf foc n wd k m m':Nat} {is:Value→Bool} {vs:Nat→Value} {ls:Nat→Nat × (Nat→List D)} {g:Nat→List D} (t j:Nat) (ho:H[idf]? = some (.fam foc is n wd vs ls)) (hk:H[k]? = some (.arr wd m g)) (hfr:freeB H k=true)
  (hj:blkOf (vs j)=none) (ht:find e t = .asl k 0 m') :
  LeE ⟨nt,e,H⟩ fun u:Value=>⟨nt,(t,.val u) :: e.map (fun p=>(p.1,purge (some k) p.2)),((H.set k (.arr wd 0 g)).map (purgeO k)).set idf (.fam 0 (fun _=>false) n wd (updV vs j u) (updL ls j (m',g)))⟩:=by
 rintro F a w ⟨c,rfl,hH,hI,henv,hsz,hd⟩
 obtain rfl:c.H=H:=hH
 have h1:TV c (a.tmps.getD t undef) (find e t):=henv t
 rw [ht] at h1
 obtain ⟨c',hw,hI',hH',htv,hone⟩:=refam hI ho hk hfr hj (by simpa only [TV,AV] using h1)
 refine ⟨_,c',hw,hH',hI',fun v=>?_,hsz,hd⟩
 show TV _ _ (find ((t,.val (a.tmps.getD t undef)) :: e.map (fun p=>(p.1,purge (some k) p.2))) v)
 simp only [find]
 cases hb:Nat.beq t v with
 | false =>
  simp only [cond_false]
  rw [Kx]
  exact htv _ _ (henv v)
 | true =>
  obtain rfl:=Nat.eq_of_beq_eq_true hb
  simp only [cond_true]
  exact .val _ hone
end Nv
namespace Nv
open Go Go.RowKit
theorem Kz {H:List Ob} (X:List Ob) {id:Nat} {o:Ob} (h:H[id]? = some o):(H++X)[id]? = some o:=by
 rw [List.getElem?_append_left (List.getElem?_eq_some_iff.1 h).1]; exact h
theorem Zhk {H:List Ob} (X:List Ob) {d:D} {cs:List D} (h:cellsAt H d=some cs):cellsAt (H++X) d=some cs:=by
 unfold cellsAt at h ⊢
 cases d <;> simp only at h ⊢ <;> try exact h
 ·split at h <;> try cases h
  rename_i ho
  rw [Kz X ho]
 ·split at h <;> try cases h
  rename_i ho
  rw [Kz X ho]
theorem Zj4 {P:Program} {H:List Ob} (X:List Ob) {t:TypeId} {x i:D} {r:D × List Bool} (h:idxD P H t x i=some r):idxD P (H++X) t x i=some r:=by
 unfold idxD at h ⊢
 split at h <;> try exact h
 split at h <;> try exact h
 split at h <;> try exact h
 split at h <;> try cases h
 rename_i ho
 rw [Kz X ho]
 exact h
theorem Zh9 {P:Program} {H:List Ob} (X:List Ob) {t:TypeId} {x:D} {lo hi:Option D} {r:D × List Bool} (h:sliceD P H t x lo hi=some r):sliceD P (H++X) t x lo hi=some r:=by
 unfold sliceD at h ⊢
 split at h <;> try exact h
 split at h <;> try cases h
 rename_i ho hs hl
 rw [Kz X ho,hs,hl]
 exact h
theorem Zia {P:Program} {H:List Ob} (X:List Ob) {ρ:Operand→D} {t:TypeId} {op:Op} {r:D × List Bool} (h:pureOp P H ρ t op=some r):pureOp P (H++X) ρ t op=some r:=by
 unfold pureOp at h ⊢
 split at h <;> try exact h
 ·split at h <;> try cases h
  rename_i hc
  rw [Zhk X hc]
  exact h
 ·exact Zj4 X h
 ·exact Zh9 X h
theorem Zc6 {H:List Ob} (X:List Ob) {d:D} (h:persB (normC H d)=true):normC (H++X) d=normC H d:=by
 cases d <;> simp only [normC] at h ⊢
 ·split at h
  ·rename_i ho; rw [Kz X ho]
  ·simp [persB] at h
 ·split at h
  ·rename_i ho; rw [Kz X ho]
  ·simp [persB] at h
theorem ZiW {P:Program} {H:List Ob} (X:List Ob) {t:TypeId} {d:D} (h:pArg (normA P H t d)=true):normA P (H++X) t d=normA P H t d:=by
 unfold normA at h ⊢
 cases d with
 | agg cs =>
  simp only [pArg,List.all_eq_true,List.mem_map,forall_exists_index,and_imp,forall_apply_eq_imp_iff₂] at h
  simp only [D.agg.injEq,List.map_inj_left]
  exact fun x hx=>Zc6 X (h x hx)
 | fn f cap =>
  simp only [pArg,List.all_eq_true,List.mem_map,forall_exists_index,and_imp,forall_apply_eq_imp_iff₂] at h
  simp only [D.fn.injEq,List.map_inj_left,true_and]
  exact fun x hx=>Zc6 X (h x hx)
 | _=>exact Zc6 X (by rw [← Zc1 _ _ (by simp) (by simp)]; exact h)
theorem ZfS {P:Program} {H:List Ob} (X:List Ob):∀ (ts:List TypeId) (ds:List D),(argsD P H ts ds).all pArg=true→argsD P (H++X) ts ds=argsD P H ts ds
 | [],_,_=>by unfold argsD; rfl
 | _ :: _,[],_=>by unfold argsD; rfl
 | t :: ts,d :: ds,h=>by
  simp only [argsD,List.all_cons,Bool.and_eq_true] at h ⊢
  rw [ZiW X h.1,ZfS X ts ds h.2]
theorem Zll {P:Program} {H:List Ob} (X:List Ob) {ops:Array Oper} {env:List (Nat × D)} {al:List (Nat × Bool)} {orc:List Res} {g:Bool} {o:Oper} {r:Res × List Bool × List Req × List Res}
  (h:opD P H ops env al orc g o=some r):opD P (H++X) ops env al orc g o=some r:=by
 unfold opD at h ⊢
 split at h
 ·exact h
 ·split at h <;> try cases h
  rename_i k cap r0 orc' hf
  generalize hc:(callable P k&&(argsD P H _ _).all pArg&&_&&_&&_&&_)=b at h
  cases b with
  | false=>cases h
  | true =>
   simp only [Bool.and_eq_true] at hc
   have ha:=hc.1.1.1.1.2
   rw [ZfS X _ _ ha]
   simp only [hc,cond_true,Bool.and_self] at h ⊢
   exact h
 ·obtain ⟨x,h1,h2⟩:=Option.map_eq_some_iff.1 h
  rw [Zia X h1]
  exact congrArg some h2
end Nv
namespace Nv
open Go Go.RowKit
end Nv
namespace Nv
open Go Go.RowKit
def Ctx.add (c:Ctx) (o:Ob) (b:Nat):Ctx:={ c with mu:=fun i=>if i=c.H.length then some b else c.mu i,H:=c.H++[o] }
section
variable {F:Fr} {c:Ctx} {o:Ob} {b:Nat}
theorem ZiX (hI:Inv F c) {id k:Nat} (h:c.mu id=some k):(c.add o b).mu id=some k:=by
 show (if id=c.H.length then some b else c.mu id)=some k
 rw [if_neg]
 ·exact h
 ·intro e; rw [hI.dom id (by omega)] at h; cases h
theorem Zlm {id:Nat} {o':Ob} (h:c.H[id]? = some o'):(c.add o b).H[id]? = some o':=Kz _ h
theorem Zem (hI:Inv F c) {v:Value} {d:D} (h:CV c v d):CV (c.add o b) v d:=by
 cases d <;> simp only [CV] at h ⊢ <;> try exact h
 ·obtain ⟨k,hk,hv⟩:=h; exact ⟨k,ZiX hI hk,hv⟩
 ·obtain ⟨k,wd,n,f,hk,hH,hi,hv⟩:=h; exact ⟨k,wd,n,f,ZiX hI hk,Zlm hH,hi,hv⟩
 ·obtain ⟨wd,n,f,a,cap,hH,h2,h3,h4,h5⟩:=h
  exact ⟨wd,n,f,a,cap,Zlm hH,h2,h3,h4,h5.imp (fun x=>x) fun ⟨k,hk,ha,hr⟩=>⟨k,ZiX hI hk,ha,hr⟩⟩
theorem Zln (hI:Inv F c) {v:Value} {d:D} (h:AV c v d):AV (c.add o b) v d:=by
 cases d <;> simp only [AV] at h ⊢ <;> try exact Zem hI h
 ·obtain ⟨vs,h1,h2⟩:=h; exact ⟨vs,h1,h2.mono fun _ _=>Zem hI⟩
 ·obtain ⟨vs,h1,h2⟩:=h; exact ⟨vs,h1,h2.mono fun _ _=>Zem hI⟩
theorem Zlo (hI:Inv F c) {v:Value} {d:D} (h:TV c v d):TV (c.add o b) v d:=by
 cases d <;> simp only [TV] at h ⊢ <;> try exact Zln hI h
 obtain ⟨vs,h1,h2⟩:=h; exact ⟨vs,h1,h2.mono fun _ _=>Zln hI⟩
theorem Zmq {cells:List D} (hI:Inv F c) (h1:b < c.w.heap.size) (h2:F.w0.heap.size≤b∨F.lent b) (h3:¬ c.I b) (h4:∀ id,c.mu id ≠ some b) (hfb:∀ (id:Nat) (o:Ob) (j:Nat),c.H[id]? = some o→fblk o j ≠ some b)
  (hov:∃ cs T,c.w.heap[b]? = some (.cells cs T (0,0))∧Vs (CV c) cs cells):Inv F (c.add (.box cells) b):=by
 refine ⟨hI.below,hI.imm,fun id k hk=>?_,fun i j k h5 h6=>?_,fun id o' h=>?_,fun id hid=>?_,fun i v hv=>?_,fun hl=>Zlm (hI.mark hl),fun id o j k h5 h6=>?_⟩
 case refine_6 =>
  obtain ⟨o1,h7,h8⟩:=KV (fun _=>rfl) h5 h6
  obtain ⟨⟨h9,h10,h11,h12⟩,h13⟩:=hI.fam id o1 j k h7 h8
  refine ⟨⟨h9,h10,h11,fun i hi=>?_⟩,fun id' o' j' h14 h15=>?_⟩
  ·have hi:(if i=c.H.length then some b else c.mu i)=some k:=hi
   split at hi
   ·cases hi; exact hfb id o1 j h7 h8
   ·exact h12 i hi
  ·obtain ⟨o2,h16,h17⟩:=KV (fun _=>rfl) h14 h15
   exact h13 id' o2 j' h16 h17
 ·have hk:(if id=c.H.length then some b else c.mu id)=some k:=hk
  split at hk
  ·cases hk; exact ⟨h2,h1,h3⟩
  ·exact hI.loc id k hk
 ·have h5:(if i=c.H.length then some b else c.mu i)=some k:=h5
  have h6:(if j=c.H.length then some b else c.mu j)=some k:=h6
  split at h5 <;> split at h6
  ·omega
  ·cases h5; exact absurd h6 (h4 j)
  ·cases h6; exact absurd h5 (h4 i)
  ·exact hI.inj i j k h5 h6
 ·by_cases hid:id=c.H.length
  ·subst hid
   have:o' = .box cells:=by simp [Ctx.add] at h; exact h.symm
   subst this
   obtain ⟨cs,T,h5,h6⟩:=hov
   exact ⟨b,cs,T,by simp [Ctx.add],h5,h6.mono fun _ _=>Zem hI⟩
  ·have hH0:c.H[id]? = some o':=by
    have h:(c.H++[.box cells])[id]? = some o':=h
    have hl:=(List.getElem?_eq_some_iff.1 h).1
    simp at hl
    rw [List.getElem?_append_left (by omega)] at h
    exact h
   have hv:=hI.obj id o' hH0
   have e:(c.add (.box cells) b).mu id=c.mu id:=by show (if id=c.H.length then some b else _)=_; simp [hid]
   rw [e]
   cases o' with
   | fam foc is n2 wd2 vs ls=>exact hv
   | box cells'=>obtain ⟨k,cs',T',hk,h5,h6⟩:=hv; exact ⟨k,cs',T',hk,h5,h6.mono fun _ _=>Zem hI⟩
   | arr w1 n1 f1=>exact hv
   | mp _ _=>exact hv
   | gone=>exact hv
 ·show (if id=c.H.length then some b else c.mu id)=none
  have hid:(c.H++[Ob.box cells]).length≤id:=hid
  simp at hid
  rw [if_neg (by omega)]
  exact hI.dom id (by omega)
 ·have h5:=hI.lent i v hv
  have hlt:i < c.H.length:=by
   have h6:=(List.getElem?_eq_some_iff.1 hv).1
   have h7:=(List.getElem?_eq_some_iff.1 (hI.mark (by intro e; rw [e] at h6; simp at h6))).1
   omega
  show (if i=c.H.length then some b else c.mu i)=v
  rw [if_neg (by omega)]
  exact h5
end
end Nv
