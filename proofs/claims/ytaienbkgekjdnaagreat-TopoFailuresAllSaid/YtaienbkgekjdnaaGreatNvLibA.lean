/- Part of the proof of TopoFailuresAll: the library of walks. No condition. -/
import Derived.WalkKit
import Derived.Lib.TrailingZeros
namespace Nv
open Go Go.RowKit
inductive D where
 | int (k:IntKind) (n:Int)
 | bool (b:Bool)
 | str (s:ByteArray)
 | nilp
 | nils
 | agg (cs:List D)
 | sl (full:Bool) (wd n:Nat) (f:Nat→List D)
 | pp (cs:List D)
 | ref (id off:Nat)
 | eref (id i off:Nat)
 | asl (id off len:Nat)
 | fn (f:FuncId) (cap:List D)
 | tup (ds:List D)
 | opt (j:Nat) (want:Bool) (d:D)
 | nilq (n:Nat)
 | val (v:Value)
 | any
 deriving Inhabited
inductive PV (I:Nat→Prop) (w:World):Value→D→Prop
 | int (k:IntKind) (n:Int):PV I w (.int k n) (.int k n)
 | bool (b:Bool):PV I w (.bool b) (.bool b)
 | str (s:ByteArray):PV I w (.string s) (.str s)
 | nilp:PV I w (.pointer none) .nilp
 | nils:PV I w (.slice none 0 0) .nils
 | nilq (b:Bool) (n:Nat) (h:b=true→n=0):PV I w (.bool b) (.nilq n)
 | val (v:Value) (h:v.oneCell'=true):PV I w v (.val v)
 | any (v:Value):PV I w v .any
 | fn (f:FuncId):PV I w (.func (.func f) #[] #[]) (.fn f [])
 | sl (a:Option Addr) (n cap wd:Nat) (full:Bool) (f:Nat→List D) (g:Nat→Nat→Value)
   (hfull:full=true→cap=n) (hcap:n≤cap)
   (hb:0 < n→∃ b off,a=some ⟨b,off,none⟩∧I b∧∀ i,i < n→∀ j,j < wd→w.cell? ⟨b,off+i*wd+j,none⟩=some (g i j))
   (hw:∀ i,i < n→(f i).length=wd)
   (hone:∀ i,i < n→∀ j,j < wd→(g i j).oneCell'=true)
   (hv:∀ i,i < n→∀ j d,(f i)[j]? = some d→PV I w (g i j) d):PV I w (.slice a n cap) (.sl full wd n f)
 | pp (b off:Nat) (cs:List D) (g:Nat→Value) (hI:I b)
   (hc:∀ j,j < cs.length→w.cell? ⟨b,off+j,none⟩=some (g j))
   (hv:∀ j d,cs[j]? = some d→PV I w (g j) d):PV I w (.pointer (some ⟨b,off,none⟩)) (.pp cs)
theorem Zeg {w w':World} {b:Nat} (h:w'.heap[b]? = w.heap[b]?) (o:Nat):w'.cell? ⟨b,o,none⟩=w.cell? ⟨b,o,none⟩:=by
 simp only [World.cell?,h]
theorem PV.mono {I I':Nat→Prop} {w w':World} (hI:∀ b,I b→I' b) (hw:∀ b,I b→w'.heap[b]? = w.heap[b]?) {v:Value} {d:D}
  (h:PV I w v d):PV I' w' v d:=by
 induction h with
 | int k n=>exact .int k n
 | bool b=>exact .bool b
 | str s=>exact .str s
 | nilp=>exact .nilp
 | nils=>exact .nils
 | nilq b n h=>exact .nilq b n h
 | val v h=>exact .val v h
 | any v=>exact .any v
 | fn f=>exact .fn f
 | sl a n cap wd full f g hfull hcap hb hw' hone hv ih =>
  refine .sl a n cap wd full f g hfull hcap (fun hn=>?_) hw' hone ih
  obtain ⟨b,off,ha,hIb,hc⟩:=hb hn
  exact ⟨b,off,ha,hI b hIb,fun i hi j hj=>by rw [Zeg (hw b hIb)]; exact hc i hi j hj⟩
 | pp b off cs g hIb hc hv ih=>exact .pp b off cs g (hI b hIb) (fun j hj=>by rw [Zeg (hw b hIb)]; exact hc j hj) ih
inductive Ob where
 | box (cells:List D)
 | arr (wd n:Nat) (f:Nat→List D)
 | fam (foc:Nat) (is:Value→Bool) (n wd:Nat) (vs:Nat→Value) (ls:Nat→Nat × (Nat→List D))
 | mp (u:Value) (es:List (Value × Value))
 | gone
structure Ctx where
 I:Nat→Prop
 mu:Nat→Option Nat
 H:List Ob
 w:World
def Room (w:World) (b n:Nat):Prop:=∃ cs T,w.heap[b]? = some (.cells cs T (0,0))∧n≤cs.size
def CV (c:Ctx) (v:Value):D→Prop
 | .ref id off=>∃ b,c.mu id=some b∧v = .pointer (some ⟨b,off,none⟩)
 | .eref id i off=>∃ b wd n f,c.mu id=some b∧c.H[id]? = some (.arr wd n f)∧i < n∧v = .pointer (some ⟨b,i*wd+off,none⟩)
 | .asl id off len=>∃ wd n f a cap,c.H[id]? = some (.arr wd n f)∧off+len≤n∧v = .slice a len cap∧len≤cap ∧
   (cap=0∨∃ b,c.mu id=some b∧a=some ⟨b,off*wd,none⟩∧Room c.w b ((off+cap)*wd))
 | d=>PV c.I c.w v d
def Vs (R:Value→D→Prop) (vs:Array Value) (ds:List D):Prop:=vs.size=ds.length∧∀ (i:Nat) (v:Value) (d:D),vs[i]? = some v→ds[i]? = some d→R v d
def AV (c:Ctx) (v:Value):D→Prop
 | .agg cs=>∃ vs,v = .agg vs∧Vs (CV c) vs cs
 | .fn f cap=>∃ vs,v = .func (.func f) #[] vs∧Vs (CV c) vs cap
 | d=>CV c v d
def TV (c:Ctx) (v:Value):D→Prop
 | .tup ds=>∃ vs,v = .tuple vs∧Vs (AV c) vs ds
 | d=>AV c v d
def GV (y:Nat→Option Bool) (c:Ctx) (v:Value):D→Prop
 | .opt j want d=>(y j=some want∧TV c v d)∨(y j ≠ some want∧v=undef)
 | d=>TV c v d
def FamAt (c:Ctx) (v:Value) (wd len:Nat) (g:Nat→List D):Prop :=
 ∃ a cap,v = .slice a len cap∧len≤cap∧(∀ i,i < len→(g i).length=wd)∧(cap=0∨∃ b cs T,a=some ⟨b,0,none⟩∧c.w.heap[b]? = some (.cells cs T (0,0))∧cap*wd≤cs.size ∧
  ∀ i,i < len→∀ j d,(g i)[j]? = some d→∃ v,cs[i*wd+j]? = some v∧v.oneCell'=true∧PV c.I c.w v d)
def blkOf:Value→Option Nat
 | .slice (some a) _ cap=>if cap=0 then none else some a.block
 | _=>none
def fblk:Ob→Nat→Option Nat
 | .fam _ _ n _ vs _,j=>if j < n then blkOf (vs j) else none
 | _,_=>none
def OV (c:Ctx) (b? : Option Nat):Ob→Prop
 | .box cells=>∃ b cs T,b? = some b∧c.w.heap[b]? = some (.cells cs T (0,0))∧Vs (CV c) cs cells
 | .arr wd n f=>(∀ i,i < n→(f i).length=wd)∧((b? = none∧n=0)∨∃ b cs T,b? = some b∧c.w.heap[b]? = some (.cells cs T (0,0))∧n*wd≤cs.size ∧
   ∀ i,i < n→∀ j d,(f i)[j]? = some d→∃ v,cs[i*wd+j]? = some v∧v.oneCell'=true∧PV c.I c.w v d)
 | .fam foc is n wd vs ls=>(b? = none∧∀ v,is v=true→v=vs foc)∧∀ j,j < n→FamAt c (vs j) wd (ls j).1 (ls j).2
 | .mp u es=>∃ b arr ck,b? = some b∧c.w.heap[b]? = some (.map arr ck)∧arr.toList.map (fun e=>(e.key,e.val))=es∧u = .map (some b)
 | .gone=>b? = none
structure Bw (B:Nat) (w w':World):Prop extends Below B w w' where
 drawn:w.drawn≤w'.drawn
theorem Bw.refl (B:Nat) (w:World):Bw B w w:=⟨Below.refl B w,Nat.le_refl _⟩
theorem Bw.drew {B:Nat} {a w:World} (h:Bw B a w):Bw B a w.drew:=⟨h.toBelow.drew,Nat.le_succ_of_le h.drawn⟩
theorem Bw.alloc {B:Nat} {a w:World} (h:Bw B a w) (hB:B≤w.heap.size) (o:Obj):Bw B a (w.alloc o):=⟨h.toBelow.alloc hB o,h.drawn⟩
structure Fr where
 w0:World
 I0:Nat→Prop
 L:List (Option Nat)
def Fr.lent (F:Fr) (b:Nat):Prop:=some b∈F.L
structure Bel (F:Fr) (w:World):Prop where
 os:w.os=F.w0.os
 tape:w.tape=F.w0.tape
 output:w.output=F.w0.output
 drawn:F.w0.drawn≤w.drawn
 size:F.w0.heap.size≤w.heap.size
 block:∀ k,k < F.w0.heap.size→¬ F.lent k→w.heap[k]? = F.w0.heap[k]?
 shape:∀ k,F.lent k→∃ cs cs' T,F.w0.heap[k]? = some (.cells cs T (0,0))∧w.heap[k]? = some (.cells cs' T (0,0))∧cs'.size=cs.size
theorem Bel.lt {F:Fr} {w:World} (h:Bel F w) {k:Nat} (hk:F.lent k):k < w.heap.size:=by
 obtain ⟨_,cs',T,_,h1,_⟩:=h.shape k hk
 exact (Array.getElem?_eq_some_iff.1 h1).1
theorem Bel.next {F:Fr} {w w':World} (h:Bel F w) (hb:Bw w.heap.size w w'):Bel F w' :=
 ⟨hb.os.trans h.os,hb.tape.trans h.tape,hb.output.trans h.output,Nat.le_trans h.drawn hb.drawn,Nat.le_trans h.size hb.size,fun k hk hl=>(hb.block k (Nat.lt_of_lt_of_le hk h.size)).trans (h.block k hk hl),
  fun k hl=>let ⟨cs,cs',T,h1,h2,h3⟩:=h.shape k hl; ⟨cs,cs',T,h1,by rw [hb.block k (h.lt hl)]; exact h2,h3⟩⟩
theorem Bel.below {F:Fr} {w:World} (h:Bel F w) (hL:F.L=[]):Bw F.w0.heap.size F.w0 w :=
 ⟨⟨h.os,h.tape,h.output,h.size,fun k hk=>h.block k hk (by simp [Fr.lent,hL])⟩,h.drawn⟩
def Fam (F:Fr) (c:Ctx):Prop:=∀ (id:Nat) (o:Ob) (j b:Nat),c.H[id]? = some o→fblk o j=some b→(F.w0.heap.size≤b∧b < c.w.heap.size∧¬ c.I b∧∀ i,c.mu i ≠ some b)∧∀ (id':Nat) (o':Ob) (j':Nat),c.H[id']? = some o'→fblk o' j'=some b→id'=id∧j'=j
theorem Fam.mono {F:Fr} {c c':Ctx} (h:Fam F c) (hH:∀ (id:Nat) (o:Ob) (j b:Nat),c'.H[id]? = some o→fblk o j=some b→∃ o',c.H[id]? = some o'∧fblk o' j=some b) (hs:c.w.heap.size≤c'.w.heap.size)
  (hI:∀ b,b < c.w.heap.size→c'.I b→c.I b∨∃ i,c.mu i=some b) (hmu:∀ i b,c'.mu i=some b→(∃ i',c.mu i'=some b)∨c.w.heap.size≤b):Fam F c':=by
 intro id o j b h1 h2
 obtain ⟨o0,h3,h4⟩:=hH id o j b h1 h2
 obtain ⟨⟨h5,h6,h7,h8⟩,h9⟩:=h id o0 j b h3 h4
 refine ⟨⟨h5,Nat.lt_of_lt_of_le h6 hs,fun h10=>?_,fun i h10=>?_⟩,fun id' o' j' h10 h11=>?_⟩
 ·rcases hI b h6 h10 with h11 | ⟨i,h11⟩
  ·exact h7 h11
  ·exact h8 i h11
 ·rcases hmu i b h10 with ⟨i',h11⟩ | h11
  ·exact h8 i' h11
  ·omega
 ·obtain ⟨o1,h12,h13⟩:=hH id' o' j' b h10 h11
  exact h9 id' o1 j' h12 h13
theorem ZjM {c:Ctx} {v:Value} {wd len:Nat} {g:Nat→List D} (h:FamAt c v wd len g) {c':Ctx} (hpv:∀ v d,PV c.I c.w v d→PV c'.I c'.w v d) (hb:∀ b,blkOf v=some b→c'.w.heap[b]? = c.w.heap[b]?):FamAt c' v wd len g:=by
 obtain ⟨a,cap,rfl,h1,h2,h3⟩:=h
 refine ⟨a,cap,rfl,h1,h2,?_⟩
 rcases Nat.eq_zero_or_pos cap with h0 | h0
 ·exact .inl h0
 ·rcases h3 with h3 | ⟨b,cs,T,rfl,h4,h5,h6⟩
  ·exact .inl h3
  ·exact .inr ⟨b,cs,T,rfl,(hb b (by simp only [blkOf]; rw [if_neg (by omega)])).trans h4,h5,fun i hi j d hd=>let ⟨v,e1,e2,e3⟩:=h6 i hi j d hd; ⟨v,e1,e2,hpv v d e3⟩⟩
theorem RL {c c':Ctx} {b? : Option Nat} {foc n wd:Nat} {is:Value→Bool} {vs:Nat→Value} {ls:Nat→Nat × (Nat→List D)} (h:OV c b? (.fam foc is n wd vs ls)) (hpv:∀ v d,PV c.I c.w v d→PV c'.I c'.w v d)
  (hb:∀ j b,fblk (.fam foc is n wd vs ls) j=some b→c'.w.heap[b]? = c.w.heap[b]?):OV c' b? (.fam foc is n wd vs ls) :=
 ⟨h.1,fun j hj=>ZjM (h.2 j hj) hpv fun b e=>hb j b (by simp only [fblk]; rw [if_pos hj]; exact e)⟩
theorem KV {H:List Ob} {o':Ob} (hn:∀ j,fblk o' j=none) {id:Nat} {o:Ob} {j b:Nat} (h:(H++[o'])[id]? = some o) (hb:fblk o j=some b):∃ o1,H[id]? = some o1∧fblk o1 j=some b:=by
 rcases Nat.lt_or_ge id H.length with h1 | h1
 ·rw [List.getElem?_append_left h1] at h; exact ⟨o,h,hb⟩
 ·rw [List.getElem?_append_right h1] at h
  have:o=o':=by
   cases hk:id - H.length with
   | zero=>rw [hk] at h; simpa using h.symm
   | succ k=>rw [hk] at h; simp at h
  rw [this,hn] at hb; cases hb
theorem Gg {H:List Ob} {k:Nat} {o':Ob} (hn:∀ j,fblk o' j=none) {id:Nat} {o:Ob} {j b:Nat} (h:(H.set k o')[id]? = some o) (hb:fblk o j=some b):∃ o1,H[id]? = some o1∧fblk o1 j=some b:=by
 by_cases e:id=k
 ·subst e
  have h1:=(List.getElem?_eq_some_iff.1 h).1
  rw [List.length_set] at h1
  rw [List.getElem?_set_self h1] at h
  cases h
  rw [hn] at hb; cases hb
 ·rw [List.getElem?_set_ne (Ne.symm e)] at h; exact ⟨o,h,hb⟩
structure Inv (F:Fr) (c:Ctx):Prop where
 below:Bel F c.w
 imm:∀ b,c.I b→b < c.w.heap.size∧(b < F.w0.heap.size→F.I0 b)
 loc:∀ id b,c.mu id=some b→(F.w0.heap.size≤b∨F.lent b)∧b < c.w.heap.size∧¬ c.I b
 inj:∀ i j b,c.mu i=some b→c.mu j=some b→i=j
 obj:∀ id o,c.H[id]? = some o→OV c (c.mu id) o
 dom:∀ id,c.H.length≤id→c.mu id=none
 lent:∀ i v,F.L[i]? = some v→c.mu i=v
 mark:F.L ≠ []→c.H[F.L.length]? = some .gone
 fam:Fam F c
theorem Inv.fb {F:Fr} {c:Ctx} (h:Inv F c) {id j b:Nat} {o:Ob} (ho:c.H[id]? = some o) (hb:fblk o j=some b):b < c.w.heap.size∧∀ i,c.mu i ≠ some b:=⟨(h.fam id o j b ho hb).1.2.1,(h.fam id o j b ho hb).1.2.2.2⟩
def tabG (P : Program) (g : Nat) : Bool := match P.globals[g]? with
  | some x => x.name == "math/bits.deBruijn64tab"
  | none => false
def GT (P:Program) (w:World):Prop:=∀ g,tabG P g=true→∀ j,j < 64→w.cell? ⟨g,j,none⟩=some (.int .u8 ((Lib.deBruijn64tab.getD j 0:Nat):Int))
class GF (P:Program) (F:Fr):Prop where
 tab:GT P F.w0
 own:∀ g,tabG P g=true→¬ F.lent g
theorem GT.lt {P:Program} {w:World} (h:GT P w) {g:Nat} (hg:tabG P g=true):g < w.heap.size:=by
 have:=h g hg 0 (by decide)
 unfold World.cell? at this
 rcases Nat.lt_or_ge g w.heap.size with h1 | h1
 ·exact h1
 ·rw [Array.getElem?_eq_none h1] at this
  cases this
theorem GT.of_block {P:Program} {w w':World} (h:GT P w) (hb:∀ g,tabG P g=true→w'.heap[g]? = w.heap[g]?):GT P w':=fun g hg j hj=>by
 have:=h g hg j hj
 unfold World.cell? at this ⊢
 rw [hb g hg]
 exact this
theorem ZiD {P:Program} {F:Fr} {c:Ctx} [hG:GF P F] (hI:Inv F c):GT P c.w :=
 hG.tab.of_block fun g hg=>hI.below.block g (hG.tab.lt hg) (hG.own g hg)
theorem ZmS {P:Program} {F:Fr} {c:Ctx} [hG:GF P F] (hI:Inv F c) {id b:Nat} (h:c.mu id=some b) {g:Nat} (hg:tabG P g=true):b ≠ g:=fun e=>by
 subst e
 rcases (hI.loc id b h).1 with h1 | h1
 ·have:=hG.tab.lt hg; omega
 ·exact hG.own b hg h1
structure Goes (c c':Ctx):Prop where
 mu:c'.mu=c.mu
 H:c'.H=c.H
 I:∀ b,c.I b→c'.I b
 blk:∀ b,b < c.w.heap.size→c'.w.heap[b]? = c.w.heap[b]?
 immLt:∀ b,c.I b→b < c.w.heap.size
 locLt:∀ id b,c.mu id=some b→b < c.w.heap.size
section
variable {c c':Ctx}
theorem Goes.refl {F:Fr} (h:Inv F c):Goes c c:=⟨rfl,rfl,fun _ h=>h,fun _ _=>rfl,fun b hb=>(h.imm b hb).1,fun id b hb=>(h.loc id b hb).2.1⟩
theorem Goes.pv (h:Goes c c') {v:Value} {d:D} (k:PV c.I c.w v d):PV c'.I c'.w v d :=
 k.mono h.I fun b hb=>h.blk b (h.immLt b hb)
theorem Goes.room (h:Goes c c') {b n:Nat} (hb:b < c.w.heap.size) (k:Room c.w b n):Room c'.w b n:=by
 obtain ⟨cs,T,h1,h2⟩:=k
 exact ⟨cs,T,by rw [h.blk b hb]; exact h1,h2⟩
theorem Goes.cv (h:Goes c c') {v:Value} {d:D} (k:CV c v d):CV c' v d:=by
 cases d <;> simp only [CV] at k ⊢ <;> try exact h.pv k
 ·rw [h.mu]; exact k
 ·rw [h.mu,h.H]; exact k
 ·obtain ⟨wd,n,f,a,cap,h1,h2,h3,h4,h5⟩:=k
  refine ⟨wd,n,f,a,cap,by rw [h.H]; exact h1,h2,h3,h4,h5.imp id ?_⟩
  rintro ⟨b,hb,ha,hr⟩
  exact ⟨b,by rw [h.mu]; exact hb,ha,h.room (h.locLt _ b hb) hr⟩
theorem Vs.mono {R R':Value→D→Prop} {vs:Array Value} {ds:List D} (h:∀ v d,R v d→R' v d) (k:Vs R vs ds):Vs R' vs ds :=
 ⟨k.1,fun i v d h1 h2=>h v d (k.2 i v d h1 h2)⟩
theorem Goes.av (h:Goes c c') {v:Value} {d:D} (k:AV c v d):AV c' v d:=by
 cases d <;> simp only [AV] at k ⊢ <;> try exact h.cv k
 ·obtain ⟨vs,h1,h2⟩:=k; exact ⟨vs,h1,h2.mono fun _ _=>h.cv⟩
 ·obtain ⟨vs,h1,h2⟩:=k; exact ⟨vs,h1,h2.mono fun _ _=>h.cv⟩
theorem Goes.tv (h:Goes c c') {v:Value} {d:D} (k:TV c v d):TV c' v d:=by
 cases d <;> simp only [TV] at k ⊢ <;> try exact h.av k
 obtain ⟨vs,h1,h2⟩:=k; exact ⟨vs,h1,h2.mono fun _ _=>h.av⟩
theorem Goes.gv (h:Goes c c') {y:Nat→Option Bool} {v:Value} {d:D} (k:GV y c v d):GV y c' v d:=by
 cases d <;> simp only [GV] at k ⊢ <;> try exact h.tv k
 exact k.imp (fun ⟨a,b⟩=>⟨a,h.tv b⟩) id
theorem Goes.ov (h:Goes c c') {id:Nat} {o:Ob} (k:OV c (c.mu id) o) (hf:∀ j b,fblk o j=some b→b < c.w.heap.size):OV c' (c.mu id) o:=by
 cases o with
 | fam foc is n wd vs ls=>exact RL k (fun _ _=>h.pv) fun j b e=>h.blk b (hf j b e)
 | box cells =>
  obtain ⟨b,cs,T,hb,h1,h2⟩:=k
  exact ⟨b,cs,T,hb,by rw [h.blk b (h.locLt _ b hb)]; exact h1,h2.mono fun _ _=>h.cv⟩
 | arr wd n f =>
  refine ⟨k.1,k.2.imp (fun x=>x) ?_⟩
  rintro ⟨b,cs,T,hb,h1,h2,h3⟩
  exact ⟨b,cs,T,hb,by rw [h.blk b (h.locLt _ b hb)]; exact h1,h2,fun i hi j d hd=>let ⟨v,hv,ho,hp⟩:=h3 i hi j d hd; ⟨v,hv,ho,h.pv hp⟩⟩
 | mp u es =>
  obtain ⟨b,arr,ck,hb,h1,h2⟩:=k
  exact ⟨b,arr,ck,hb,by rw [h.blk b (h.locLt _ b hb)]; exact h1,h2⟩
 | gone=>exact k
end
theorem Inv.goes {F:Fr} {c c':Ctx} (h:Inv F c) (g:Goes c c') (hb:Bw c.w.heap.size c.w c'.w)
  (hi:∀ b,c'.I b→c.I b∨(c.w.heap.size≤b∧b < c'.w.heap.size)):Inv F c':=by
 have hs:=hb.size
 have hs0:=h.below.size
 refine ⟨h.below.next hb,fun b hb'=>?_,fun id b hm=>?_,fun i j b h1 h2=>?_,fun id o ho=>?_,fun id hid=>?_,fun i v hv=>by rw [g.mu]; exact h.lent i v hv,fun hl=>by rw [g.H]; exact h.mark hl,h.fam.mono (fun id o j b h1 h2=>⟨o,by rw [← g.H]; exact h1,h2⟩) hs (fun b h1 h2=>(hi b h2).elim .inl fun h3=>by omega) fun i b h1=>.inl ⟨i,by rw [← g.mu]; exact h1⟩⟩
 ·rcases hi b hb' with h1 | ⟨h1,h2⟩
  ·exact ⟨Nat.lt_of_lt_of_le (h.imm b h1).1 hs,(h.imm b h1).2⟩
  ·exact ⟨h2,fun h3=>by omega⟩
 ·rw [g.mu] at hm
  obtain ⟨h1,h2,h3⟩:=h.loc id b hm
  refine ⟨h1,by omega,fun h4=>?_⟩
  rcases hi b h4 with h5 | ⟨h5,_⟩
  ·exact h3 h5
  ·omega
 ·rw [g.mu] at h1 h2; exact h.inj i j b h1 h2
 ·rw [g.H] at ho
  rw [g.mu]
  exact g.ov (h.obj id o ho) fun j b e=>(h.fb ho e).1
 ·rw [g.mu]; exact h.dom id (by rw [← g.H]; exact hid)
end Nv
namespace Nv
open Go Go.RowKit
def dvc:Value→D
 | .int k n=>.int k n
 | .bool b=>.bool b
 | .string s=>.str s
 | .pointer none=>.nilp
 | .slice none 0 0=>.nils
 | _=>.any
def dv:Value→D
 | .agg cs=>.agg (cs.toList.map dvc)
 | v=>dvc v
theorem ZiE (c:Ctx) (v:Value):CV c v (dvc v):=by
 unfold dvc
 split <;> simp only [CV]
 ·exact .int _ _
 ·exact .bool _
 ·exact .str _
 ·exact .nilp
 ·exact .nils
 ·exact .any _
theorem ZiF {c:Ctx} {v:Value} {cs:List D}:¬ CV c v (.agg cs):=by intro h; simp only [CV] at h; cases h
theorem ZiG {c:Ctx} {v:Value} {cs:List D}:¬ CV c v (.tup cs):=by intro h; simp only [CV] at h; cases h
theorem Qt {c:Ctx} {v:Value} {j:Nat} {b:Bool} {d:D}:¬ CV c v (.opt j b d):=by intro h; simp only [CV] at h; cases h
theorem Kw {c:Ctx} {v:Value} {d:D} (h:CV c v d):AV c v d:=by
 cases d <;> first | exact absurd h ZiF | exact h | skip
 simp only [CV] at h
 cases h
 exact ⟨#[],rfl,rfl,fun i v d h1 _=>by simp at h1⟩
theorem Zdt {c:Ctx} {v:Value} {d:D} (h:AV c v d):TV c v d:=by
 cases d <;> first | exact h | skip
 exact absurd h (by simp only [AV]; exact ZiG)
theorem Zjg {c:Ctx} {v:Value} {d:D} (h:CV c v d):TV c v d:=Zdt (Kw h)
theorem ZkB {c:Ctx} {v:Value} {d:D} (h:PV c.I c.w v d):TV c v d:=by
 apply Zjg
 cases h <;> simp only [CV]
 case int k n=>exact .int k n
 case bool b=>exact .bool b
 case str s=>exact .str s
 case nilp=>exact .nilp
 case nils=>exact .nils
 case nilq b n h=>exact .nilq b n h
 case val h=>exact .val _ h
 case any=>exact .any _
 case fn f=>exact .fn f
 case sl a n cap wd full f g hfull hcap hb hw hone hv=>exact .sl a n cap wd full f g hfull hcap hb hw hone hv
 case pp b off cs g hI hc hv=>exact .pp b off cs g hI hc hv
theorem Zfv {c:Ctx} {v:Value} {d:D} (h:PV c.I c.w v d):CV c v d:=by
 cases h <;> simp only [CV]
 case int k n=>exact .int k n
 case bool b=>exact .bool b
 case str s=>exact .str s
 case nilp=>exact .nilp
 case nils=>exact .nils
 case nilq b n h=>exact .nilq b n h
 case val h=>exact .val _ h
 case any=>exact .any _
 case fn f=>exact .fn f
 case sl a n cap wd full f g hfull hcap hb hw hone hv=>exact .sl a n cap wd full f g hfull hcap hb hw hone hv
 case pp b off cs g hI hc hv=>exact .pp b off cs g hI hc hv
theorem Zbk (c:Ctx) (v:Value):TV c v (dv v):=by
 unfold dv
 split
 ·rename_i cs
  refine ⟨cs,rfl,by simp,fun i v d h1 h2=>?_⟩
  simp only [List.getElem?_map,Array.getElem?_toList,h1,Option.map_some,Option.some.injEq] at h2
  subst h2
  exact ZiE c v
 ·exact Zjg (ZiE c v)
section
variable {c:Ctx} {v:Value}
theorem TV.int_inv {k:IntKind} {n:Int} (h:TV c v (.int k n)):v = .int k n:=by simp only [TV,AV,CV] at h; cases h; rfl
theorem TV.bool_inv {b:Bool} (h:TV c v (.bool b)):v = .bool b:=by simp only [TV,AV,CV] at h; cases h; rfl
theorem TV.str_inv {s:ByteArray} (h:TV c v (.str s)):v = .string s:=by simp only [TV,AV,CV] at h; cases h; rfl
theorem TV.nilp_inv (h:TV c v .nilp):v = .pointer none:=by simp only [TV,AV,CV] at h; cases h; rfl
theorem WY (k:IntKind) (n:Int):TV c (.int k n) (.int k n):=by simp only [TV,AV,CV]; exact .int k n
theorem UA (b:Bool):TV c (.bool b) (.bool b):=by simp only [TV,AV,CV]; exact .bool b
theorem Zg1 (s:ByteArray):TV c (.string s) (.str s):=by simp only [TV,AV,CV]; exact .str s
theorem WS:TV c v .any:=by simp only [TV,AV,CV]; exact .any v
end
def szO (P:Program) (t:TypeId):Option Nat:=(P.info? t).map (·.size)
theorem Ur {P:Program} {t:TypeId} {n:Nat} (h:szO P t=some n) (w:World):(Go.sizeOf t).run P w=Result.ok n w:=by
 unfold szO at h
 obtain ⟨i,hi,rfl⟩:=Option.map_eq_some_iff.1 h
 simp [Go.sizeOf,typeInfo,hi]
def aggB:TypeDesc→Bool
 | .struct _ | .array _ _=>true
 | _=>false
theorem Zfg {P:Program} {t:TypeId} {d:TypeDesc} (h:P.underlying t=some d) (w:World):(isAgg t).run P w = .ok (aggB d) w:=by
 cases d <;> simp [isAgg,run_underlying h,aggB]
def adj (P:Program) (t:TypeId) (d:D):D :=
 match d with
 | .nils=>match P.underlying t with
  | some (.slice e)=>.sl true (P.cellsOf e) 0 fun _=>[]
  | _=>.nils
 | d=>d
theorem Zg2 {I:Nat→Prop} {w:World} {v:Value} (h:PV I w v .nils) (full:Bool) (wd:Nat) (f:Nat→List D):PV I w v (.sl full wd 0 f):=by
 cases h with
 | nils=>exact .sl none 0 0 wd full f (fun _ _=>undef) (fun _=>rfl) (Nat.le_refl _) (fun h=>by omega) (fun i hi=>by omega) (fun i hi=>by omega) (fun i hi=>by omega)
theorem KW {P:Program} {t:TypeId} {c:Ctx} {v:Value} {d:D} (h:TV c v d):TV c v (adj P t d):=by
 unfold adj
 split
 ·split
  ·simp only [TV,AV,CV] at h ⊢; exact Zg2 h _ _ _
  ·exact h
 ·exact h
def ldD (P:Program) (t:TypeId) (cs:List D):Option D :=
 match P.underlying t with
 | some d=>bif aggB d then
   (match szO P t with
   | some k=>bif Nat.ble k cs.length then some (.agg (cs.take k)) else none
   | none=>none)
  else cs.head?.map (adj P t)
 | none=>none
theorem Wc (b off j:Nat):Addr.add ⟨b,off,none⟩ j=⟨b,off+j,none⟩:=by
 unfold Addr.add
 split
 ·rename_i h; subst h; rfl
 ·rfl
theorem Zjh {P:Program} {t:TypeId} {cs:List D} {d:D} (h:ldD P t cs=some d) {c:Ctx} {b off:Nat} {g:Nat→Value}
  (hc:∀ j,j < cs.length→c.w.cell? ⟨b,off+j,none⟩=some (g j)) (hv:∀ j d,cs[j]? = some d→CV c (g j) d) :
  ∃ v,(loadVar t ⟨b,off,none⟩).run P c.w = .ok v c.w∧TV c v d:=by
 unfold ldD at h
 cases hu:P.underlying t with
 | none=>simp [hu] at h
 | some de =>
  simp only [hu] at h
  have ha:=Zfg hu c.w
  cases hb:aggB de with
  | true =>
   simp only [hb,cond_true] at h
   cases hs:szO P t with
   | none=>simp [hs] at h
   | some k =>
    simp only [hs] at h
    cases hk:Nat.ble k cs.length with
    | false=>simp [hk] at h
    | true =>
     simp only [hk,cond_true,Option.some.injEq] at h
     subst h
     have hk':k≤cs.length:=Nat.le_of_ble_eq_true hk
     refine ⟨.agg ((List.range k).map g).toArray,?_,_,rfl,by simp; omega,fun i v d h1 h2=>?_⟩
     ·simp only [loadVar,Sem.run_bind,ha,hb,Result.andThen_ok,if_true,Ur hs]
      rw [run_loadCells c.w ⟨b,off,none⟩ k g (fun j hj=>by rw [Wc]; exact hc j (by omega))]
      rfl
     ·have hi:i < k:=by
       rcases Nat.lt_or_ge i k with h | h
       ·exact h
       ·simp [h] at h1
      simp [hi] at h1
      subst h1
      rw [List.getElem?_take_of_lt hi] at h2
      exact hv i d h2
  | false =>
   simp only [hb,cond_false] at h
   obtain ⟨d0,h0,rfl⟩:=Option.map_eq_some_iff.1 h
   have hl:0 < cs.length:=by cases cs with | nil=>simp at h0 | cons _ _=>simp
   refine ⟨g 0,?_,KW (Zjg (hv 0 d0 (by rw [← List.head?_eq_getElem?]; exact h0)))⟩
   have h1:=hc 0 hl
   simp only [Nat.add_zero] at h1
   simp only [loadVar,Sem.run_bind,ha,hb,Result.andThen_ok,Bool.false_eq_true,if_false,run_load,h1]
end Nv
namespace Nv
open Go Go.RowKit
def cellsAt (H:List Ob):D→Option (List D)
 | .pp cs=>some cs
 | .ref id off=>match H[id]? with
  | some (.box cells)=>some (cells.drop off)
  | _=>none
 | .eref id i off=>match H[id]? with
  | some (.arr _ _ f)=>some ((f i).drop off)
  | _=>none
 | _=>none
theorem Zfw {F:Fr} {c:Ctx} (hI:Inv F c) {d:D} {cs:List D} (h:cellsAt c.H d=some cs) {v:Value} (hv:TV c v d) :
  ∃ (b off:Nat) (g:Nat→Value),v = .pointer (some ⟨b,off,none⟩)∧(∀ j,j < cs.length→c.w.cell? ⟨b,off+j,none⟩=some (g j))∧(∀ (j:Nat) (d:D),cs[j]? = some d→CV c (g j) d):=by
 unfold cellsAt at h
 split at h
 ·rename_i cs'
  simp only [Option.some.injEq] at h
  subst h
  simp only [TV,AV,CV] at hv
  cases hv with
  | pp b off cs g hI hc hv=>exact ⟨b,off,g,rfl,hc,fun j d hd=>Zfv (hv j d hd)⟩
 ·rename_i id off
  split at h
  ·rename_i cells ho
   simp only [Option.some.injEq] at h
   subst h
   simp only [TV,AV,CV] at hv
   obtain ⟨b,hb,rfl⟩:=hv
   obtain ⟨b',cs,T,hb',hh,hvs⟩:=hI.obj id _ ho
   rw [hb] at hb'
   cases hb'
   refine ⟨b,off,fun j=>cs.getD (off+j) undef,rfl,fun j hj=>?_,fun j d hd=>?_⟩
   ·have hlt:off+j < cs.size:=by rw [hvs.1]; simp at hj; omega
    simp [World.cell?,hh,hlt]
   ·rw [List.getElem?_drop] at hd
    have hlt:off+j < cs.size:=by
     rw [hvs.1]
     exact (List.getElem?_eq_some_iff.1 hd).1
    exact hvs.2 (off+j) _ d (by simp [hlt]) hd
  ·cases h
 ·rename_i id i off
  split at h
  ·rename_i wd n f ho
   simp only [Option.some.injEq] at h
   subst h
   simp only [TV,AV,CV] at hv
   obtain ⟨b,wd',n',f',hb,ho',hi,rfl⟩:=hv
   rw [ho] at ho'
   cases ho'
   obtain ⟨hw,hor⟩:=hI.obj id _ ho
   rcases hor with ⟨h0,_⟩ | ⟨b',cs,T,hb',hh,hn,hvs⟩
   ·rw [hb] at h0; cases h0
   rw [hb] at hb'
   cases hb'
   have hbound:i*wd+wd≤cs.size:=by
    have:(i+1)*wd≤n*wd:=Nat.mul_le_mul_right _ hi
    rw [Nat.add_mul,Nat.one_mul] at this
    omega
   refine ⟨b,i*wd+off,fun j=>cs.getD (i*wd+off+j) undef,rfl,fun j hj=>?_,fun j d hd=>?_⟩
   ·have hlt:i*wd+off+j < cs.size:=by have:=hw i hi; simp [this] at hj; omega
    simp [World.cell?,hh,hlt]
   ·rw [List.getElem?_drop] at hd
    obtain ⟨v,h1,_,h2⟩:=hvs i hi (off+j) d hd
    rw [← Nat.add_assoc] at h1
    have h3:cs.getD (i*wd+off+j) undef=v:=by simp [h1]
    show CV c (cs.getD (i*wd+off+j) undef) d
    rw [h3]
    exact Zfv h2
  ·cases h
 ·cases h
def moveD (o:Nat):D→Option D
 | .pp cs=>some (.pp (cs.drop o))
 | .ref id off=>some (.ref id (off+o))
 | .eref id i off=>some (.eref id i (off+o))
 | _=>none
theorem ZhN {c:Ctx} {d d':D} {o:Nat} (h:moveD o d=some d') {v:Value} (hv:TV c v d) :
  ∃ b off,v = .pointer (some ⟨b,off,none⟩)∧TV c (.pointer (some ⟨b,off+o,none⟩)) d':=by
 unfold moveD at h
 split at h <;> first | (simp only [Option.some.injEq] at h; subst h; simp only [TV,AV,CV] at hv) | cases h
 ·cases hv with
  | pp b off cs g hI hc hv =>
   refine ⟨b,off,rfl,?_⟩
   simp only [TV,AV,CV]
   refine .pp b (off+o) _ (fun j=>g (o+j)) hI (fun j hj=>?_) (fun j d hd=>?_)
   ·rw [Nat.add_assoc]; exact hc (o+j) (by simp at hj; omega)
   ·rw [List.getElem?_drop] at hd; exact hv _ d hd
 ·obtain ⟨b,hb,rfl⟩:=hv
  exact ⟨b,_,rfl,by simp only [TV,AV,CV]; exact ⟨b,hb,rfl⟩⟩
 ·obtain ⟨b,wd,n,f,hb,ho,hi,rfl⟩:=hv
  exact ⟨b,_,rfl,by simp only [TV,AV,CV]; exact ⟨b,wd,n,f,hb,ho,hi,by rw [Nat.add_assoc]⟩⟩
def fieldOff (P:Program) (s:TypeId) (i:Nat):Option (Nat × TypeId) :=
 match P.underlying s with
 | some (.struct fs)=>match fs[i]? with
  | some f=>match szO P f.type with
   | some (_+1)=>some (f.offset,f.type)
   | _=>none
  | none=>none
 | _=>none
theorem ZiH {P:Program} {c:Ctx} {s:TypeId} {i o:Nat} {ft:TypeId} (ho:fieldOff P s i=some (o,ft)) {d d':D} (h:moveD o d=some d') {v:Value} (hv:TV c v d) :
  ∃ v',(Instr.fieldAt s v i).run P c.w = .ok v' c.w∧TV c v' d':=by
 obtain ⟨b,off,rfl,ht⟩:=ZhN h hv
 unfold fieldOff at ho
 split at ho <;> try cases ho
 rename_i fs hu
 split at ho <;> try cases ho
 rename_i f hf
 split at ho <;> try cases ho
 rename_i k hk
 refine ⟨_,?_,ht⟩
 simp [Instr.fieldAt,run_underlying hu,hf,Instr.sureAddr,fieldPlace,Ur hk,Wc]
def partD (P:Program) (t:TypeId) (cs:List D) (o:Nat):Option D :=
 match P.underlying t with
 | some d=>bif aggB d then
   (match szO P t with
   | some k=>bif Nat.ble (o+k) cs.length then some (.agg ((cs.drop o).take k)) else none
   | none=>none)
  else (cs[o]?).map (adj P t)
 | none=>none
theorem ZhO {P:Program} {c:Ctx} {t:TypeId} {cs:List D} {o:Nat} {d:D} (h:partD P t cs o=some d) {vs:Array Value} (hv:Vs (CV c) vs cs) :
  ∃ v,(part t vs o).run P c.w = .ok v c.w∧TV c v d:=by
 unfold partD at h
 cases hu:P.underlying t with
 | none=>simp [hu] at h
 | some de =>
  simp only [hu] at h
  have ha:=Zfg hu c.w
  cases hb:aggB de with
  | true =>
   simp only [hb,cond_true] at h
   cases hs:szO P t with
   | none=>simp [hs] at h
   | some k =>
    simp only [hs] at h
    cases hk:Nat.ble (o+k) cs.length with
    | false=>simp [hk] at h
    | true =>
     simp only [hk,cond_true,Option.some.injEq] at h
     subst h
     have hk':o+k≤cs.length:=Nat.le_of_ble_eq_true hk
     refine ⟨.agg (vs.extract o (o+k)),by simp [part,ha,hb,Ur hs],_,rfl,by simp [hv.1]; omega,fun i v d h1 h2=>?_⟩
     have hi:i < k:=by
      have:=(List.getElem?_eq_some_iff.1 h2).1
      simp at this; omega
     rw [List.getElem?_take_of_lt hi,List.getElem?_drop] at h2
     rw [Array.getElem?_extract] at h1
     split at h1
     ·exact hv.2 _ v d h1 h2
     ·cases h1
  | false =>
   simp only [hb,cond_false] at h
   obtain ⟨d0,h0,rfl⟩:=Option.map_eq_some_iff.1 h
   have hlt:o < vs.size:=by rw [hv.1]; exact (List.getElem?_eq_some_iff.1 h0).1
   refine ⟨vs[o],by simp [part,ha,hb,hlt],KW (Zjg (hv.2 o _ d0 (by simp [hlt]) h0))⟩
def fieldD (P:Program) (s:TypeId) (d:D) (i:Nat):Option D :=
 match P.underlying s,d with
 | some (.struct fs),.agg cs=>match fs[i]? with
  | some f=>partD P f.type cs f.offset
  | none=>none
 | _,_=>none
theorem ZjN {P:Program} {c:Ctx} {s:TypeId} {i:Nat} {d d':D} (h:fieldD P s d i=some d') {v:Value} (hv:TV c v d) :
  ∃ v',(Instr.field s v i).run P c.w = .ok v' c.w∧TV c v' d':=by
 unfold fieldD at h
 split at h <;> try cases h
 rename_i fs cs hu
 split at h <;> try cases h
 rename_i f hf
 obtain ⟨vs,rfl,hvs⟩:=hv
 obtain ⟨v',h1,h2⟩:=ZhO h hvs
 exact ⟨v',by simp [Instr.field,run_underlying hu,hf,asAgg,h1],h2⟩
def idxD (P:Program) (H:List Ob) (t:TypeId) (x i:D):Option (D × List Bool) :=
 match P.underlying t with
 | some (.slice e)=>match szO P e with
  | some sz=>match x,i with
   | .sl _ wd n f,.int _ k=>bif Nat.beq wd sz then some (.pp (f k.toNat),[decide (0≤k),decide (k < (n:Int))]) else none
   | .asl id off len,.int _ k=>match H[id]? with
    | some (.arr wd _ _)=>bif Nat.beq wd sz then some (.eref id (off+k.toNat) 0,[decide (0≤k),decide (k < (len:Int))]) else none
    | _=>none
   | _,_=>none
  | none=>none
 | some (.array len e)=>match szO P e with
  | some sz=>match i with
   | .int _ k=>(moveD (k.toNat*sz) x).map fun d=>(d,[decide (0≤k),decide (k < (len:Int))])
   | _=>none
  | none=>none
 | _=>none
theorem all2 {a b:Bool} (h:∀ x∈[a,b],x=true):a=true∧b=true:=⟨h a (by simp),h b (by simp)⟩
theorem Zl1 {P:Program} {c:Ctx} {t:TypeId} {x i d:D} {bs:List Bool} (h:idxD P c.H t x i=some (d,bs)) (hb:∀ b∈bs,b=true)
  {vx vi:Value} (hx:TV c vx x) (hi:TV c vi i):∃ v',(Instr.indexAt t vx vi).run P c.w = .ok v' c.w∧TV c v' d:=by
 unfold idxD at h
 split at h
 ·rename_i e hu
  split at h <;> try cases h
  rename_i sz hs
  split at h
  ·rename_i full wd n f kk k
   cases hw:Nat.beq wd sz with
   | false=>simp [hw] at h
   | true =>
    simp only [hw,cond_true,Option.some.injEq,Prod.mk.injEq] at h
    obtain ⟨rfl,rfl⟩:=h
    obtain rfl:=Nat.eq_of_beq_eq_true hw
    obtain ⟨h1,h2⟩:=all2 hb
    simp only [decide_eq_true_eq] at h1 h2
    obtain rfl:=hi.int_inv
    simp only [TV,AV,CV] at hx
    cases hx with
    | sl a n cap wd full f g hfull hcap hb hw' hone hv =>
     obtain ⟨b,off,rfl,hIb,hc⟩:=hb (by omega)
     have hk:k.toNat < n:=by omega
     refine ⟨.pointer (some ⟨b,off+k.toNat*wd,none⟩),?_,?_⟩
     ·simp [Instr.indexAt,asIntOf,run_underlying hu,h1,h2,Ur hs,Wc]
     ·simp only [TV,AV,CV]
      exact .pp b _ _ (fun j=>g k.toNat j) hIb (fun j hj=>hc k.toNat hk j (by rw [← hw' _ hk]; exact hj)) (fun j d hd=>hv _ hk j d hd)
  ·rename_i id off len kk k
   split at h <;> try cases h
   rename_i wd n f ho
   cases hw:Nat.beq wd sz with
   | false=>simp [hw] at h
   | true =>
    simp only [hw,cond_true,Option.some.injEq,Prod.mk.injEq] at h
    obtain ⟨rfl,rfl⟩:=h
    obtain rfl:=Nat.eq_of_beq_eq_true hw
    obtain ⟨h1,h2⟩:=all2 hb
    simp only [decide_eq_true_eq] at h1 h2
    obtain rfl:=hi.int_inv
    simp only [TV,AV,CV] at hx
    obtain ⟨wd',n',f',a,cap,ho',hl,rfl,hcap,hor⟩:=hx
    rw [ho] at ho'
    cases ho'
    rcases hor with h0 | ⟨b,hmu,rfl,hroom⟩
    ·omega
    refine ⟨.pointer (some ⟨b,off*wd+k.toNat*wd,none⟩),?_,?_⟩
    ·simp [Instr.indexAt,asIntOf,run_underlying hu,h1,h2,Ur hs,Wc]
    ·simp only [TV,AV,CV]
     exact ⟨b,wd,n,f,hmu,ho,by omega,by rw [Nat.add_mul,Nat.add_zero]⟩
  ·cases h
 ·rename_i len e hu
  split at h <;> try cases h
  rename_i sz hs
  split at h <;> try cases h
  rename_i kk k
  obtain ⟨d',hm,heq⟩:=Option.map_eq_some_iff.1 h
  simp only [Prod.mk.injEq] at heq
  obtain ⟨rfl,rfl⟩:=heq
  obtain ⟨h1,h2⟩:=all2 hb
  simp only [decide_eq_true_eq] at h1 h2
  obtain rfl:=hi.int_inv
  obtain ⟨b,off,rfl,ht⟩:=ZhN hm hx
  exact ⟨_,by simp [Instr.indexAt,asIntOf,run_underlying hu,Instr.sureAddr,h1,h2,Ur hs,Wc],ht⟩
 ·cases h
def lenD (P:Program) (t:TypeId) (x:D):Option D :=
 match P.underlying t,x with
 | some (.slice _),.sl _ _ n _=>some (.int .i64 (n:Int))
 | some (.slice _),.asl _ _ n=>some (.int .i64 (n:Int))
 | some (.slice _),.nils=>some (.int .i64 0)
 | some .string,.str s=>some (.int .i64 (s.size:Int))
 | some (.array n _),_=>some (.int .i64 (n:Int))
 | _,_=>none
theorem Zl2 {P:Program} {c:Ctx} {t u:TypeId} {x d:D} (h:lenD P t x=some d) {v:Value} (hv:TV c v x) :
  ∃ v',(Builtin.len_ #[t] u #[v]).run P c.w = .ok v' c.w∧TV c v' d:=by
 unfold lenD at h
 split at h <;> try cases h
 ·rename_i e f g n k hu
  simp only [TV,AV,CV] at hv
  cases hv
  exact ⟨_,by simp [Builtin.len_,run_underlying hu,goInt],WY _ _⟩
 ·rename_i e f g n hu
  simp only [TV,AV,CV] at hv
  obtain ⟨_,_,_,a,cap,_,_,rfl,_⟩:=hv
  exact ⟨_,by simp [Builtin.len_,run_underlying hu,goInt],WY _ _⟩
 ·rename_i e hu
  simp only [TV,AV,CV] at hv
  cases hv
  exact ⟨_,by simp [Builtin.len_,run_underlying hu,goInt],WY _ _⟩
 ·rename_i s hu
  obtain rfl:=hv.str_inv
  exact ⟨_,by simp [Builtin.len_,run_underlying hu,goInt],WY _ _⟩
 ·rename_i n e hu
  exact ⟨_,by simp [Builtin.len_,run_underlying hu,goInt],WY _ _⟩
def byteAt (s:ByteArray) (i:Int):Int:=(((s.data.toList[i.toNat]?).getD 0).toNat:Int)
end Nv
namespace Nv
open Go Go.RowKit
def bitD (op:BinOp) (k:IntKind) (a b:Int):Int :=
 match op with
 | .and=>k.wrap (BitVec.ofInt k.bits a &&& BitVec.ofInt k.bits b).toNat
 | .or=>k.wrap (BitVec.ofInt k.bits a ||| BitVec.ofInt k.bits b).toNat
 | .xor=>k.wrap (BitVec.ofInt k.bits a ^^^ BitVec.ofInt k.bits b).toNat
 | _=>k.wrap (BitVec.ofInt k.bits a &&& ~~~ BitVec.ofInt k.bits b).toNat
def intD (op:BinOp) (k:IntKind) (a b:Int):Option (D × List Bool) :=
 match op with
 | .add=>some (.int k (k.wrap (a+b)),[])
 | .sub=>some (.int k (k.wrap (a - b)),[])
 | .mul=>some (.int k (k.wrap (a*b)),[])
 | .quo=>some (.int k (k.wrap (a.tdiv b)),[!decide (b=0)])
 | .rem=>some (.int k (a.tmod b),[!decide (b=0)])
 | .and=>some (.int k (bitD .and k a b),[])
 | .or=>some (.int k (bitD .or k a b),[])
 | .xor=>some (.int k (bitD .xor k a b),[])
 | .andNot=>some (.int k (bitD .andNot k a b),[])
 | .eql=>some (.bool (a==b),[])
 | .neq=>some (.bool (a != b),[])
 | .lss=>some (.bool (decide (a < b)),[])
 | .leq=>some (.bool (decide (a≤b)),[])
 | .gtr=>some (.bool (decide (a > b)),[])
 | .geq=>some (.bool (decide (a ≥ b)),[])
 | .shl=>none
 | .shr=>none
def strEq (a b:ByteArray):Bool:=a.toList==b.toList
def strLt (a b:ByteArray):Bool:=Op.bytesLess a.toList b.toList
def strD (op:BinOp) (a b:ByteArray):Option (D × List Bool) :=
 match op with
 | .eql=>some (.bool (strEq a b),[])
 | .neq=>some (.bool (!strEq a b),[])
 | .lss=>some (.bool (strLt a b),[])
 | .leq=>some (.bool (strLt a b||strEq a b),[])
 | .gtr=>some (.bool (!(strLt a b||strEq a b)),[])
 | .geq=>some (.bool (!strLt a b),[])
 | .add=>some (.str (a++b),[decide (a.size+b.size≤9223372036854775807)])
 | _=>none
def cellEq (u:TypeDesc) (x y:D):Option Bool :=
 match u,x,y with
 | .int _,.int k a,.int k' b=>if k=k' then some (a==b) else none
 | .bool,.bool a,.bool b=>some (a==b)
 | .string,.str a,.str b=>some (strEq a b)
 | _,_,_=>none
mutual
def typeEq (P:Program):Nat→TypeId→List D→List D→Option Bool
 | 0,_,_,_=>none
 | n+1,t,xs,ys=>match P.underlying t with
  | some (.struct fs)=>match szO P t with
   | some k=>bif P.stoodInHeld t || !(Nat.ble k xs.length&&Nat.ble k ys.length) then none else fieldsEq P n fs.toList (xs.take k) (ys.take k)
   | none=>none
  | some u=>match xs.head?,ys.head? with
   | some x,some y=>cellEq u x y
   | _,_=>none
  | none=>none
def fieldsEq (P : Program) : Nat → List Field → List D → List D → Option Bool
  | 0, _, _, _ => none
  | _ + 1, [], _, _ => some true
  | n + 1, f :: fs, xs, ys =>
    bif f.name == "_" then none else
    match typeEq P n f.type (xs.drop f.offset) (ys.drop f.offset), fieldsEq P n fs xs ys with
    | some a, some b => some (a && b)
    | _, _ => none
end
def aggEq (P:Program) (t:TypeId) (xs ys:List D):Option Bool :=
 bif P.eqGuardType P.depth t then none else
 match P.underlying t,szO P t with
 | some (.struct _),some k=>bif Nat.beq k xs.length&&Nat.beq k ys.length then typeEq P 40 t xs ys else none
 | _,_=>none
def binD (P:Program) (op:BinOp) (t:TypeId) (x y:D):Option (D × List Bool) :=
 match x,y with
 | .int k a,.int k' b =>
  match op with
  | .shl=>some (.int k (k.wrap (a*2 ^ (min b.toNat k.bits))),[decide (0≤b)])
  | .shr=>some (.int k (a.fdiv (2 ^ (min b.toNat k.bits))),[decide (0≤b)])
  | op=>if k=k' then intD op k a b else none
 | .str a,.str b=>strD op a b
 | .bool a,.bool b =>
  match op,P.underlying t with
  | .eql,some .bool=>some (.bool (a==b),[])
  | .neq,some .bool=>some (.bool (!(a==b)),[])
  | _,_=>none
 | .agg xs,.agg ys =>
  match op with
  | .eql=>(aggEq P t xs ys).map fun b=>(.bool b,[])
  | .neq=>(aggEq P t xs ys).map fun b=>(.bool !b,[])
  | _=>none
 | .sl _ _ n _,.nils =>
  match op,P.underlying t with
  | .eql,some (.slice _)=>some (.nilq n,[])
  | _,_=>none
 | _,_=>none
theorem Zl3 {P:Program} {op:BinOp} {k:IntKind} {a b:Int} {d:D} {bs:List Bool} (h:intD op k a b=some (d,bs)) (hb:∀ b∈bs,b=true)
  {c:Ctx} {t:TypeId}:∃ v,(binOp op t (.int k a) (.int k b)).run P c.w = .ok v c.w∧TV c v d:=by
 unfold intD at h
 split at h <;> simp only [Option.some.injEq,Prod.mk.injEq,reduceCtorEq] at h <;> obtain ⟨rfl,rfl⟩:=h
 case h_4 =>
  have hb0:b ≠ 0:=by simpa using hb _ (List.mem_singleton.2 rfl)
  exact ⟨_,by simp [binOp,Op.intDiv,hb0],WY _ _⟩
 case h_5 =>
  have hb0:b ≠ 0:=by simpa using hb _ (List.mem_singleton.2 rfl)
  exact ⟨_,by simp [binOp,Op.intDiv,hb0],WY _ _⟩
 case h_1=>exact ⟨_,by simp [binOp,Op.intArith],WY _ _⟩
 case h_2=>exact ⟨_,by simp [binOp,Op.intArith],WY _ _⟩
 case h_3=>exact ⟨_,by simp [binOp,Op.intArith],WY _ _⟩
 case h_6=>exact ⟨_,by simp [binOp,Op.intBits,bitD],WY _ _⟩
 case h_7=>exact ⟨_,by simp [binOp,Op.intBits,bitD],WY _ _⟩
 case h_8=>exact ⟨_,by simp [binOp,Op.intBits,bitD],WY _ _⟩
 case h_9=>exact ⟨_,by simp [binOp,Op.intBits,bitD],WY _ _⟩
 case h_10=>exact ⟨_,by simp [binOp,Op.intCmp],UA _⟩
 case h_11=>exact ⟨_,by simp [binOp,Op.intCmp],UA _⟩
 case h_12=>exact ⟨_,by simp [binOp,Op.intCmp],UA _⟩
 case h_13=>exact ⟨_,by simp [binOp,Op.intCmp],UA _⟩
 case h_14=>exact ⟨_,by simp [binOp,Op.intCmp],UA _⟩
 case h_15=>exact ⟨_,by simp [binOp,Op.intCmp],UA _⟩
theorem Zl4 {P:Program} {op:BinOp} {a b:ByteArray} {d:D} {bs:List Bool} (h:strD op a b=some (d,bs)) (hb:∀ b∈bs,b=true)
  {c:Ctx} {t:TypeId}:∃ v,(binOp op t (.string a) (.string b)).run P c.w = .ok v c.w∧TV c v d:=by
 unfold strD at h
 split at h <;> simp only [Option.some.injEq,Prod.mk.injEq,reduceCtorEq] at h <;> obtain ⟨rfl,rfl⟩:=h
 case h_7 =>
  have h1:=hb _ (List.mem_singleton.2 rfl)
  simp only [decide_eq_true_eq] at h1
  refine ⟨.string (a++b),?_,Zg1 _⟩
  have h2:¬ (((a.size+b.size:Nat):Int) > IntKind.i64.max):=by
   have:IntKind.i64.max=9223372036854775807:=by decide
   rw [this]; omega
  simp only [binOp,Op.stringOp,if_neg h2,Sem.run_pure]
 all_goals exact ⟨_,by simp only [binOp,Op.stringOp,Sem.run_pure]; rfl,UA _⟩
theorem ZjO {P:Program} {c:Ctx} {t:TypeId} {n:Nat} {u:TypeDesc} (hu:P.underlying t=some u) {x y:D} {b:Bool} (h:cellEq u x y=some b)
  {vx vy:Value} (hx:CV c vx x) (hy:CV c vy y):(Op.equalIn (n+1) t vx vy).run P c.w = .ok b c.w:=by
 unfold cellEq at h
 split at h
 ·rename_i k0 k a k' b'
  split at h <;> simp only [Option.some.injEq,reduceCtorEq] at h
  rename_i hk; subst hk; subst h
  simp only [CV] at hx hy
  cases hx; cases hy
  exact run_equalIn_int c.w n t k k0 a b' hu
 ·simp only [Option.some.injEq] at h
  subst h
  simp only [CV] at hx hy
  cases hx; cases hy
  exact run_equalIn_bool' c.w n t _ _ hu
 ·simp only [Option.some.injEq] at h
  subst h
  simp only [CV] at hx hy
  cases hx; cases hy
  exact run_equalIn_string c.w n t _ _ hu
 ·cases h
def Laid (P:Program) (c:Ctx) (t:TypeId) (v:Value) (xs:List D):Prop :=
 (∃ fs k vs,P.underlying t=some (.struct fs)∧szO P t=some k∧k≤xs.length∧v = .agg vs∧Vs (CV c) vs (xs.take k)) ∨
 (∃ u x,P.underlying t=some u∧aggB u=false∧xs.head? = some x∧CV c v x)
def Fits (P:Program) (t:TypeId) (xs:List D):Prop :=
 (∃ fs k,P.underlying t=some (.struct fs)∧szO P t=some k∧k≤xs.length)∨(∃ u x,P.underlying t=some u∧aggB u=false∧xs.head? = some x)
theorem ZgI {P:Program} {c:Ctx} {t:TypeId} {vs:Array Value} {xs:List D} {o:Nat} (h:Fits P t (xs.drop o))
  (hv:Vs (CV c) vs xs):∃ v,(part t vs o).run P c.w = .ok v c.w∧Laid P c t v (xs.drop o):=by
 rcases h with ⟨fs,k,hu,hs,hk⟩ | ⟨u,x,hu,ha,hx⟩
 ·have hk2:o+k≤xs.length∨k=0:=by simp at hk; omega
  refine ⟨.agg (vs.extract o (o+k)),by simp [part,Zfg hu,aggB,Ur hs],.inl ⟨fs,k,_,hu,hs,hk,rfl,?_,fun i v d h1 h2=>?_⟩⟩
  ·simp [hv.1]
   omega
  ·have hi:i < k:=by have:=(List.getElem?_eq_some_iff.1 h2).1; simp at this; omega
   rw [List.getElem?_take_of_lt hi,List.getElem?_drop] at h2
   rw [Array.getElem?_extract] at h1
   split at h1
   ·exact hv.2 _ v d h1 h2
   ·cases h1
 ·have h0:xs[o]? = some x:=by rw [List.head?_drop] at hx; exact hx
  have hlt:o < vs.size:=by rw [hv.1]; exact (List.getElem?_eq_some_iff.1 h0).1
  exact ⟨vs[o],by simp [part,Zfg hu,ha,hlt],.inr ⟨u,x,hu,ha,hx,hv.2 o _ x (by simp [hlt]) h0⟩⟩
theorem ZhP {P:Program} {n:Nat} {t:TypeId} {xs ys:List D} {b:Bool} (h:typeEq P n t xs ys=some b):Fits P t xs∧Fits P t ys:=by
 cases n with
 | zero=>simp [typeEq] at h
 | succ n =>
  unfold typeEq at h
  split at h
  ·rename_i fs hu
   split at h <;> try cases h
   rename_i k hs
   cases hc:(P.stoodInHeld t || !(Nat.ble k xs.length&&Nat.ble k ys.length)) with
   | true=>rw [hc] at h; cases h
   | false =>
    simp at hc
    exact ⟨.inl ⟨fs,k,hu,hs,hc.2.1⟩,.inl ⟨fs,k,hu,hs,hc.2.2⟩⟩
  ·rename_i u hns hu
   split at h <;> try cases h
   rename_i x y hx hy
   have ha:aggB u=false:=by
    cases u <;> first | rfl | skip
    ·simp [cellEq] at h
    ·exact absurd rfl (hns _)
   exact ⟨.inr ⟨u,x,hu,ha,hx⟩,.inr ⟨u,y,hu,ha,hy⟩⟩
  ·cases h
theorem ZkC (P : Program) (c : Ctx) : ∀ n,
    (∀ t xs ys b, typeEq P n t xs ys = some b → ∀ m, n ≤ m → ∀ vx vy, Laid P c t vx xs → Laid P c t vy ys → (Op.equalIn m t vx vy).run P c.w = .ok b c.w) ∧
    (∀ fs xs ys b, fieldsEq P n fs xs ys = some b → ∀ m, n ≤ m → ∀ vx vy, Vs (CV c) vx xs → Vs (CV c) vy ys → (Op.eqFields m vx vy fs).run P c.w = .ok b c.w)
  | 0 => ⟨fun t xs ys b h => by simp [typeEq] at h, fun fs xs ys b h => by simp [fieldsEq] at h⟩
  | n + 1 => by
    have ih := ZkC P c n
    constructor
    · intro t xs ys b h m hm vx vy hx hy
      obtain ⟨m, rfl⟩ : ∃ m', m = m' + 1 := ⟨m - 1, by omega⟩
      unfold typeEq at h
      split at h
      · rename_i fs hu
        split at h <;> try cases h
        rename_i k hs
        cases hc : (P.stoodInHeld t || !(Nat.ble k xs.length && Nat.ble k ys.length)) with
        | true => rw [hc] at h; cases h
        | false =>
          simp only [hc, cond_false] at h
          simp at hc
          rcases hx with ⟨fs1, k1, v1, hu1, hs1, _, rfl, hv1⟩ | ⟨u, x, hu1, ha, _⟩
          · rcases hy with ⟨fs2, k2, v2, hu2, hs2, _, rfl, hv2⟩ | ⟨u, x, hu2, ha, _⟩
            · rw [hs] at hs1 hs2
              cases hs1; cases hs2
              have hf : P.fieldsOf t = fs := by simp [Program.fieldsOf, hu]
              rw [run_equalIn_struct c.w m t v1 v2 (by rw [hf]; exact hu) hc.1, hf]
              exact ih.2 _ _ _ _ h m (by omega) _ _ hv1 hv2
            · rw [hu] at hu2; cases hu2; simp [aggB] at ha
          · rw [hu] at hu1; cases hu1; simp [aggB] at ha
      · rename_i u hns hu
        split at h
        · rename_i x y hx0 hy0
          rcases hx with ⟨fs1, k1, v1, hu1, _⟩ | ⟨u1, x1, hu1, ha, hh1, hv1⟩
          · rw [hu] at hu1; cases hu1; exact absurd rfl (hns _)
          · rcases hy with ⟨fs2, k2, v2, hu2, _⟩ | ⟨u2, y1, hu2, _, hh2, hv2⟩
            · rw [hu] at hu2; cases hu2; exact absurd rfl (hns _)
            · rw [hx0] at hh1; cases hh1
              rw [hy0] at hh2; cases hh2
              exact ZjO hu h hv1 hv2
        · cases h
      · cases h
    · intro fs xs ys b h m hm vx vy hx hy
      cases fs with
      | nil => simp [fieldsEq] at h; subst h; simp [Op.eqFields]
      | cons f fs =>
        unfold fieldsEq at h
        cases hn : (f.name == "_") with
        | true => simp [hn] at h
        | false =>
          simp only [hn, cond_false] at h
          split at h <;> try cases h
          rename_i a b' h1 h2
          have hl := ZhP h1
          obtain ⟨va, hpa, hla⟩ := ZgI hl.1 hx
          obtain ⟨vb, hpb, hlb⟩ := ZgI hl.2 hy
          have hne : f.name ≠ "_" := by simpa using hn
          have he := ih.1 _ _ _ _ h1 m (by omega) _ _ hla hlb
          have hr := ih.2 _ _ _ _ h2 m (by omega) _ _ hx hy
          simp only [Op.eqFields, if_pos hne, Sem.run_bind, hpa, hpb, he, Result.andThen_ok]
          cases a
          · simp
          · simp [hr]
end Nv
namespace Nv
open Go Go.RowKit
theorem ZhQ {P:Program} {w:World} (op:BinOp) (t:TypeId) (ox oy:Operand) (k k':IntKind) (x y:Int):(eqGuard op t ox oy (.int k x) (.int k' y)).run P w = .ok () w:=by
 cases op <;> simp [eqGuard]
theorem ZhR {P:Program} {w:World} (op:BinOp) (t:TypeId) (ox oy:Operand) (x y:ByteArray):(eqGuard op t ox oy (.string x) (.string y)).run P w = .ok () w:=by
 cases op <;> simp [eqGuard]
theorem Zg3 {P:Program} {w:World} (op:BinOp) (t:TypeId) (ox oy:Operand) (x y:Bool):(eqGuard op t ox oy (.bool x) (.bool y)).run P w = .ok () w:=by
 cases op <;> simp [eqGuard]
theorem Zl5 {P:Program} {c:Ctx} {op:BinOp} {t:TypeId} {x y d:D} {bs:List Bool} (h:binD P op t x y=some (d,bs)) (hb:∀ b∈bs,b=true)
  {vx vy:Value} (hx:TV c vx x) (hy:TV c vy y) (ox oy:Operand) :
  ∃ v,((do eqGuard op t ox oy vx vy; binOp op t vx vy:Sem Value)).run P c.w = .ok v c.w∧TV c v d:=by
 unfold binD at h
 split at h
 ·rename_i k a k' b
  obtain rfl:=hx.int_inv
  obtain rfl:=hy.int_inv
  have hg:(eqGuard op t ox oy (.int k a) (.int k' b)).run P c.w = .ok () c.w:=ZhQ op t ox oy _ _ _ _
  simp only [Sem.run_bind,hg,Result.andThen_ok]
  split at h
  ·simp only [Option.some.injEq,Prod.mk.injEq] at h
   obtain ⟨rfl,rfl⟩:=h
   have h0:¬ b < 0:=by have:=hb _ (List.mem_singleton.2 rfl); simp at this; omega
   exact ⟨_,by simp [binOp,Op.shift,h0],WY _ _⟩
  ·simp only [Option.some.injEq,Prod.mk.injEq] at h
   obtain ⟨rfl,rfl⟩:=h
   have h0:¬ b < 0:=by have:=hb _ (List.mem_singleton.2 rfl); simp at this; omega
   exact ⟨_,by simp [binOp,Op.shift,h0],WY _ _⟩
  ·split at h
   ·rename_i hk
    subst hk
    exact Zl3 h hb
   ·cases h
 ·rename_i a b
  obtain rfl:=hx.str_inv
  obtain rfl:=hy.str_inv
  have hg:(eqGuard op t ox oy (.string a) (.string b)).run P c.w = .ok () c.w:=ZhR op t ox oy _ _
  simp only [Sem.run_bind,hg,Result.andThen_ok]
  exact Zl4 h hb
 ·rename_i a b
  obtain rfl:=hx.bool_inv
  obtain rfl:=hy.bool_inv
  have hg:(eqGuard op t ox oy (.bool a) (.bool b)).run P c.w = .ok () c.w:=Zg3 op t ox oy _ _
  simp only [Sem.run_bind,hg,Result.andThen_ok]
  split at h <;> simp only [Option.some.injEq,Prod.mk.injEq,reduceCtorEq] at h
  ·rename_i hu
   obtain ⟨rfl,rfl⟩:=h
   exact ⟨_,by simp [binOp,Op.equal,Op.maxDepth,run_equalIn_bool' c.w 9999 t a b hu],UA _⟩
  ·rename_i hu
   obtain ⟨rfl,rfl⟩:=h
   exact ⟨_,by simp [binOp,Op.equal,Op.maxDepth,run_equalIn_bool' c.w 9999 t a b hu],UA _⟩
 ·rename_i xs ys
  obtain ⟨v1,rfl,hv1⟩:=hx
  obtain ⟨v2,rfl,hv2⟩:=hy
  have key:∀ r,aggEq P t xs ys=some r→(eqGuard op t ox oy (.agg v1) (.agg v2)).run P c.w = .ok () c.w∧(Op.equalIn 10000 t (.agg v1) (.agg v2)).run P c.w = .ok r c.w:=by
   intro r hr
   unfold aggEq at hr
   cases hg:P.eqGuardType P.depth t with
   | true=>simp [hg] at hr
   | false =>
    simp only [hg,cond_false] at hr
    split at hr <;> try cases hr
    rename_i fs k hu hs
    cases hk:(Nat.beq k xs.length&&Nat.beq k ys.length) with
    | false=>rw [hk] at hr; cases hr
    | true =>
     simp only [hk,cond_true] at hr
     simp at hk
     have e1:xs.take k=xs:=by rw [hk.1]; simp
     have e2:ys.take k=ys:=by rw [hk.2]; simp
     exact ⟨run_eqGuard_agg c.w op t ox oy v1 v2 hg,(ZkC P c 40).1 _ _ _ _ hr 10000 (by omega) _ _
      (.inl ⟨fs,k,v1,hu,hs,by omega,rfl,by rw [e1]; exact hv1⟩) (.inl ⟨fs,k,v2,hu,hs,by omega,rfl,by rw [e2]; exact hv2⟩)⟩
  split at h
  ·obtain ⟨r,hr,heq⟩:=Option.map_eq_some_iff.1 h
   simp only [Prod.mk.injEq] at heq
   obtain ⟨rfl,rfl⟩:=heq
   obtain ⟨hg,he⟩:=key r hr
   exact ⟨_,by simp [hg,binOp,Op.equal,Op.maxDepth,he],UA _⟩
  ·obtain ⟨r,hr,heq⟩:=Option.map_eq_some_iff.1 h
   simp only [Prod.mk.injEq] at heq
   obtain ⟨rfl,rfl⟩:=heq
   obtain ⟨hg,he⟩:=key r hr
   exact ⟨_,by simp [hg,binOp,Op.equal,Op.maxDepth,he],UA _⟩
  ·cases h
 ·rename_i full wd n f
  split at h <;> try cases h
  rename_i e hu
  simp only [TV,AV,CV] at hx hy
  cases hy
  cases hx with
  | sl a n cap wd full f g hfull hcap hb' hw hone hv =>
   have hg:(eqGuard .eql t ox oy (.slice a n cap) (.slice none 0 0)).run P c.w = .ok () c.w:=by simp [eqGuard]
   refine ⟨.bool a.isNone,?_,?_⟩
   ·have he:(Op.equalIn 10000 t (.slice a n cap) (.slice none 0 0)).run P c.w = .ok a.isNone c.w:=by
     unfold Op.equalIn
     cases a <;> simp only [Sem.run_bind,run_underlying hu,Result.andThen_ok] <;> rfl
    simp [hg,binOp,Op.equal,Op.maxDepth,he]
   ·simp only [TV,AV,CV]
    refine .nilq _ n fun h=>?_
    rcases Nat.eq_zero_or_pos n with h0 | h0
    ·exact h0
    ·obtain ⟨b,off,ha,_⟩:=hb' h0
     rw [ha] at h
     cases h
 ·cases h
def unD (op:UnOp) (x:D):Option D :=
 match op,x with
 | .not,.bool b=>some (.bool !b)
 | .neg,.int k n=>some (.int k (k.wrap (0 - n)))
 | .xor,.int k n=>some (.int k (bitD .xor k (if k.signed then -1 else k.max) n))
 | _,_=>none
theorem ZmT {P:Program} {c:Ctx} {op:UnOp} {x d:D} (h:unD op x=some d) {v:Value} (hv:TV c v x) :
  ∃ v',(Op.unary op v).run P c.w = .ok v' c.w∧TV c v' d:=by
 unfold unD at h
 split at h <;> simp only [Option.some.injEq,reduceCtorEq] at h <;> subst h
 ·obtain rfl:=hv.bool_inv; exact ⟨_,by simp [Op.unary],UA _⟩
 ·obtain rfl:=hv.int_inv; exact ⟨_,by simp [Op.unary,Op.intArith],WY _ _⟩
 ·obtain rfl:=hv.int_inv; exact ⟨_,by simp [Op.unary,Op.intBits,bitD],WY _ _⟩
def convD (P:Program) (src dst:TypeId) (x:D):Option D :=
 match P.underlying src,P.underlying dst,x with
 | some _,some (.int k),.int _ n=>some (.int k (k.wrap n))
 | some _,some .string,.str s=>some (.str s)
 | _,_,_=>none
theorem ZkD {P:Program} {c:Ctx} {s t:TypeId} {x d:D} (h:convD P s t x=some d) {v:Value} (hv:TV c v x) :
  ∃ v',(convert s t v).run P c.w = .ok v' c.w∧TV c v' d:=by
 unfold convD at h
 split at h <;> simp only [Option.some.injEq,reduceCtorEq] at h <;> subst h
 ·rename_i u k kk n hs ht
  obtain rfl:=hv.int_inv
  exact ⟨_,by simp [convert,run_underlying hs,run_underlying ht,Conv.intToInt],WY _ _⟩
 ·rename_i u s' hs ht
  obtain rfl:=hv.str_inv
  exact ⟨_,by simp [convert,run_underlying hs,run_underlying ht],Zg1 _⟩
def sliceHi (n:Nat):Option D→Option (Nat × List Bool)
 | none=>some (n,[])
 | some (.int _ h)=>some (h.toNat,[decide (0≤h),decide (h≤(n:Int))])
 | _=>none
def sliceLo (h:Nat):Option D→Option (Nat × List Bool)
 | none=>some (0,[])
 | some (.int _ l)=>some (l.toNat,[decide (0≤l),decide (l≤(h:Int))])
 | _=>none
def sliceD (P:Program) (H:List Ob) (t:TypeId) (x:D) (lo hi:Option D):Option (D × List Bool) :=
 match P.underlying t,x with
 | some (.slice e),.sl _ wd n f=>match szO P e,sliceHi n hi with
  | some sz,some (h,c1)=>match sliceLo h lo with
   | some (l,c2)=>bif Nat.beq wd sz then some (.sl false wd (h - l) fun i=>f (l+i),c1++c2) else none
   | none=>none
  | _,_=>none
 | some (.slice e),.asl id off n=>match H[id]?,szO P e,sliceHi n hi with
  | some (.arr wd _ _),some sz,some (h,c1)=>match sliceLo h lo with
   | some (l,c2)=>bif Nat.beq wd sz then some (.asl id (off+l) (h - l),c1++c2) else none
   | none=>none
  | _,_,_=>none
 | some .string,.str s=>match sliceHi s.size hi with
  | some (h,c1)=>match sliceLo h lo with
   | some (l,c2)=>some (.str (s.extract l h),c1++c2)
   | none=>none
  | none=>none
 | _,_=>none
def slice3D (P:Program) (t:TypeId) (x:D) (lo:Option D) (hi:D):Option (D × List Bool) :=
 match P.underlying t,x with
 | some (.slice e),.sl _ wd n f=>match szO P e,sliceHi n (some hi) with
  | some sz,some (h,c1)=>match sliceLo h lo with
   | some (l,c2)=>bif Nat.beq wd sz then some (.sl true wd (h - l) fun i=>f (l+i),c1++c2) else none
   | none=>none
  | _,_=>none
 | _,_=>none
theorem Zji {c:Ctx} {n h:Nat} {hi:Option D} {c1:List Bool} (hh:sliceHi n hi=some (h,c1)) (hb:∀ b∈c1,b=true) {vh:Option Value}
  (hn:vh=none↔hi=none) (hv:∀ v d,vh=some v→hi=some d→TV c v d) :
  h≤n∧((vh=none∧h=n)∨∃ k z,vh=some (.int k z)∧0≤z∧z≤(n:Int)∧h=z.toNat):=by
 unfold sliceHi at hh
 split at hh <;> simp only [Option.some.injEq,Prod.mk.injEq,reduceCtorEq] at hh <;> obtain ⟨rfl,rfl⟩:=hh
 ·exact ⟨Nat.le_refl _,.inl ⟨hn.2 rfl,rfl⟩⟩
 ·rename_i kk h
  obtain ⟨h1,h2⟩:=all2 hb
  simp only [decide_eq_true_eq] at h1 h2
  refine ⟨by omega,.inr ?_⟩
  cases vh with
  | none=>simp at hn
  | some v =>
   obtain rfl:=(hv v _ rfl rfl).int_inv
   exact ⟨kk,h,rfl,h1,h2,rfl⟩
theorem Zjj {c:Ctx} {h l:Nat} {lo:Option D} {c2:List Bool} (hh:sliceLo h lo=some (l,c2)) (hb:∀ b∈c2,b=true) {vl:Option Value}
  (hn:vl=none↔lo=none) (hv:∀ v d,vl=some v→lo=some d→TV c v d) :
  l≤h∧((vl=none∧l=0)∨∃ k z,vl=some (.int k z)∧0≤z∧z≤(h:Int)∧l=z.toNat):=by
 unfold sliceLo at hh
 split at hh <;> simp only [Option.some.injEq,Prod.mk.injEq,reduceCtorEq] at hh <;> obtain ⟨rfl,rfl⟩:=hh
 ·exact ⟨Nat.zero_le _,.inl ⟨hn.2 rfl,rfl⟩⟩
 ·rename_i kk l
  obtain ⟨h1,h2⟩:=all2 hb
  simp only [decide_eq_true_eq] at h1 h2
  refine ⟨by omega,.inr ?_⟩
  cases vl with
  | none=>simp at hn
  | some v =>
   obtain rfl:=(hv v _ rfl rfl).int_inv
   exact ⟨kk,l,rfl,h1,h2,rfl⟩
theorem ZhS {P:Program} {w:World} {k:IntKind} {z:Int} {y:Nat} {code:BoundsCode} (h1:0≤z) (h2:z≤(y:Int)) :
  (Instr.sliceBound (.int k z) y code).run P w = .ok z.toNat w:=by
 simp [Instr.sliceBound,asIntOf,h1,h2]
theorem Zeh {P:Program} {w:World} {isS:Bool} {n cap l h:Nat} {vl vh:Option Value} (hc:n≤cap)
  (hh:(vh=none∧h=n)∨∃ k z,vh=some (.int k z)∧0≤z∧z≤(n:Int)∧h=z.toNat)
  (hl:(vl=none∧l=0)∨∃ k z,vl=some (.int k z)∧0≤z∧z≤(h:Int)∧l=z.toNat) :
  (Instr.sliceBounds isS n cap vl vh none).run P w = .ok (l,h,cap) w:=by
 have hbo:∀ (k:IntKind) (z:Int) (y:Nat) (code:BoundsCode),0≤z→z≤(y:Int)→(Instr.sliceBound (.int k z) y code).run P w = .ok z.toNat w:=fun k z y code=>ZhS
 rcases hh with ⟨rfl,rfl⟩ | ⟨k,z,rfl,h1,h2,rfl⟩ <;> rcases hl with ⟨rfl,rfl⟩ | ⟨k',z',rfl,h1',h2',rfl⟩
 ·simp [Instr.sliceBounds]
 ·simp [Instr.sliceBounds,hbo _ _ _ _ h1' h2']
 ·simp [Instr.sliceBounds,hbo k z cap _ h1 (by omega)]
 ·simp [Instr.sliceBounds,hbo k z cap _ h1 (by omega),hbo _ _ _ _ h1' h2']
theorem ZiI {P:Program} {w:World} {n cap l h:Nat} {vl:Option Value} {vh:Value} (hc:n≤cap)
  (hh:∃ k z,vh = .int k z∧0≤z∧z≤(n:Int)∧h=z.toNat)
  (hl:(vl=none∧l=0)∨∃ k z,vl=some (.int k z)∧0≤z∧z≤(h:Int)∧l=z.toNat) :
  (Instr.sliceBounds true n cap vl (some vh) (some vh)).run P w = .ok (l,h,h) w:=by
 have hbo:∀ (k:IntKind) (z:Int) (y:Nat) (code:BoundsCode),0≤z→z≤(y:Int)→(Instr.sliceBound (.int k z) y code).run P w = .ok z.toNat w:=fun k z y code=>ZhS
 obtain ⟨k,z,rfl,h1,h2,rfl⟩:=hh
 rcases hl with ⟨rfl,rfl⟩ | ⟨k',z',rfl,h1',h2',rfl⟩
 ·simp [Instr.sliceBounds,hbo k z cap _ h1 (by omega),hbo k z z.toNat _ h1 (by omega)]
 ·simp [Instr.sliceBounds,hbo k z cap _ h1 (by omega),hbo k z z.toNat _ h1 (by omega),hbo _ _ _ _ h1' h2']
theorem ZkE {I:Nat→Prop} {w:World} {a:Option Addr} {n cap wd:Nat} {full:Bool} {f:Nat→List D} (hv:PV I w (.slice a n cap) (.sl full wd n f)) {l h:Nat} (hl:l≤h) (hh:h≤n)
  (m:Nat) (hm:h≤m) (hmc:m≤cap) (full':Bool) (hf:full'=true→m=h) :
  PV I w (.slice (if m=l then a else a.map (·.add (l*wd))) (h - l) (m - l)) (.sl full' wd (h - l) fun i=>f (l+i)):=by
 cases hv with
 | sl a n cap wd full f g hfull hcap hb hw hone hv =>
  refine .sl _ _ _ wd full' _ (fun i j=>g (l+i) j) (fun h1=>by rw [hf h1]) (by omega) (fun hpos=>?_) (fun i hi=>hw _ (by omega)) (fun i hi j hj=>hone _ (by omega) j hj) (fun i hi j d hd=>hv _ (by omega) j d hd)
  obtain ⟨b,off,rfl,hIb,hc⟩:=hb (by omega)
  rw [if_neg (by omega)]
  refine ⟨b,off+l*wd,by simp [Wc],hIb,fun i hi j hj=>?_⟩
  have:=hc (l+i) (by omega) j hj
  rw [Nat.add_mul] at this
  rw [show off+l*wd+i*wd+j=off+(l*wd+i*wd)+j by omega]
  exact this
theorem ZjP {P:Program} {c:Ctx} {t:TypeId} {x d:D} {lo hi:Option D} {bs:List Bool} (h:sliceD P c.H t x lo hi=some (d,bs)) (hb:∀ b∈bs,b=true)
  {v:Value} (hv:TV c v x) {vl vh:Option Value} (hln:vl=none↔lo=none) (hlv:∀ v d,vl=some v→lo=some d→TV c v d)
  (hhn:vh=none↔hi=none) (hhv:∀ v d,vh=some v→hi=some d→TV c v d) :
  ∃ v',(Instr.sliceAt t v vl vh none).run P c.w = .ok v' c.w∧TV c v' d:=by
 unfold sliceD at h
 split at h
 ·rename_i e full wd n f hu
  split at h <;> try cases h
  rename_i sz hN c1 hs hh
  split at h <;> try cases h
  rename_i l c2 hl
  cases hw:Nat.beq wd sz with
  | false=>simp [hw] at h
  | true =>
   simp only [hw,cond_true,Option.some.injEq,Prod.mk.injEq] at h
   obtain ⟨rfl,rfl⟩:=h
   obtain rfl:=Nat.eq_of_beq_eq_true hw
   obtain ⟨h1,k1⟩:=Zji hh (fun b hb'=>hb b (List.mem_append_left _ hb')) hhn hhv
   obtain ⟨h2,k2⟩:=Zjj hl (fun b hb'=>hb b (List.mem_append_right _ hb')) hln hlv
   simp only [TV,AV,CV] at hv
   have hv0:=hv
   cases hv with
   | sl a n cap wd full f g hfull hcap hb' hw' hone' hv' =>
    refine ⟨_,?_,ZkB (ZkE hv0 h2 h1 cap (by omega) (Nat.le_refl _) false (by simp))⟩
    simp [Instr.sliceAt,Instr.slice,run_underlying hu,Zeh hcap k1 k2,Ur hs]
 ·rename_i e id off n hu
  split at h <;> try cases h
  rename_i wd nn f sz hN c1 ho hs hh
  split at h <;> try cases h
  rename_i l c2 hl
  cases hw:Nat.beq wd sz with
  | false=>simp [hw] at h
  | true =>
   simp only [hw,cond_true,Option.some.injEq,Prod.mk.injEq] at h
   obtain ⟨rfl,rfl⟩:=h
   obtain rfl:=Nat.eq_of_beq_eq_true hw
   obtain ⟨h1,k1⟩:=Zji hh (fun b hb'=>hb b (List.mem_append_left _ hb')) hhn hhv
   obtain ⟨h2,k2⟩:=Zjj hl (fun b hb'=>hb b (List.mem_append_right _ hb')) hln hlv
   simp only [TV,AV,CV] at hv
   obtain ⟨wd',nn',f',a,cap,ho',hoff,rfl,hcap,hor⟩:=hv
   rw [ho] at ho'
   cases ho'
   refine ⟨.slice (if cap=l then a else a.map (·.add (l*wd))) (hN - l) (cap - l),?_,?_⟩
   ·simp [Instr.sliceAt,Instr.slice,run_underlying hu,Zeh hcap k1 k2,Ur hs]
   ·simp only [TV,AV,CV]
    refine ⟨wd,nn,f,_,_,ho,by omega,rfl,by omega,?_⟩
    by_cases hc:cap=l
    ·exact .inl (by omega)
    ·rcases hor with h0 | ⟨b,hmu,rfl,hroom⟩
     ·omega
     ·refine .inr ⟨b,hmu,by rw [if_neg hc]; simp [Wc,Nat.add_mul],?_⟩
      rw [show off+l+(cap - l)=off+cap by omega]
      exact hroom
 ·rename_i s hu
  split at h <;> try cases h
  rename_i hN c1 hh
  split at h <;> try cases h
  rename_i l c2 hl
  obtain ⟨h1,k1⟩:=Zji hh (fun b hb'=>hb b (List.mem_append_left _ hb')) hhn hhv
  obtain ⟨h2,k2⟩:=Zjj hl (fun b hb'=>hb b (List.mem_append_right _ hb')) hln hlv
  obtain rfl:=hv.str_inv
  refine ⟨_,?_,Zg1 _⟩
  simp [Instr.sliceAt,Instr.slice,run_underlying hu,Zeh (Nat.le_refl _) k1 k2]
 ·cases h
theorem ZiJ {P:Program} {c:Ctx} {t:TypeId} {x d hi:D} {lo:Option D} {bs:List Bool} (h:slice3D P t x lo hi=some (d,bs)) (hb:∀ b∈bs,b=true)
  {v:Value} (hv:TV c v x) {vl:Option Value} {vh:Value} (hln:vl=none↔lo=none) (hlv:∀ v d,vl=some v→lo=some d→TV c v d) (hhv:TV c vh hi) :
  ∃ v',(Instr.sliceAt t v vl (some vh) (some vh)).run P c.w = .ok v' c.w∧TV c v' d:=by
 unfold slice3D at h
 split at h <;> try cases h
 rename_i e full wd n f hu
 split at h <;> try cases h
 rename_i sz hN c1 hs hh
 split at h <;> try cases h
 rename_i l c2 hl
 cases hw:Nat.beq wd sz with
 | false=>simp [hw] at h
 | true =>
  simp only [hw,cond_true,Option.some.injEq,Prod.mk.injEq] at h
  obtain ⟨rfl,rfl⟩:=h
  obtain rfl:=Nat.eq_of_beq_eq_true hw
  obtain ⟨h1,k1⟩:=Zji (vh:=some vh) hh (fun b hb'=>hb b (List.mem_append_left _ hb')) (by simp) (fun v d e1 e2=>by cases e1; cases e2; exact hhv)
  obtain ⟨h2,k2⟩:=Zjj hl (fun b hb'=>hb b (List.mem_append_right _ hb')) hln hlv
  have k1':∃ k z,vh = .int k z∧0≤z∧z≤(n:Int)∧hN=z.toNat:=by
   rcases k1 with ⟨k0,_⟩ | ⟨k,z,e,r⟩
   ·cases k0
   ·cases e; exact ⟨k,z,rfl,r⟩
  simp only [TV,AV,CV] at hv
  have hv0:=hv
  cases hv with
  | sl a n cap wd full f g hfull hcap hb' hw' hone' hv' =>
   refine ⟨_,?_,ZkB (ZkE hv0 h2 h1 hN (Nat.le_refl _) (by omega) true (fun _=>rfl))⟩
   simp [Instr.sliceAt,Instr.slice,run_underlying hu,ZiI hcap k1' k2,Ur hs]
end Nv
namespace Nv
open Go Go.RowKit
def cellTys (P:Program):Nat→TypeId→List TypeId
 | 0,t=>[t]
 | n+1,t=>match P.underlying t with
  | some (.struct fs)=>fs.toList.flatMap fun f=>cellTys P n f.type
  | some (.array k e)=>(List.replicate k (cellTys P n e)).flatten
  | _=>[t]
def zipAdj (P:Program):List TypeId→List D→List D
 | _,[]=>[]
 | [],d :: ds=>d :: ds
 | t :: ts,d :: ds=>adj P t d :: zipAdj P ts ds
theorem ZmU {P:Program} {t:TypeId} {c:Ctx} {v:Value} {d:D} (h:CV c v d):CV c v (adj P t d):=by
 unfold adj
 split
 ·split
  ·simp only [CV] at h ⊢; exact Zg2 h _ _ _
  ·exact h
 ·exact h
theorem ZcZ (P:Program):∀ ts ds,(zipAdj P ts ds).length=ds.length
 | _,[]=>by simp [zipAdj]
 | [],_ :: _=>by simp [zipAdj]
 | _ :: ts,_ :: ds=>by simp [zipAdj,ZcZ P ts ds]
theorem Zfx (P:Program) {c:Ctx}:∀ ts ds (i:Nat) (d:D) (v:Value),(zipAdj P ts ds)[i]? = some d→(∀ d',ds[i]? = some d'→CV c v d')→CV c v d
 | _,[],i,d,v,h,_=>by simp [zipAdj] at h
 | [],x :: ds,i,d,v,h,k=>by simp only [zipAdj] at h; exact k d h
 | t :: ts,x :: ds,0,d,v,h,k=>by
  simp only [zipAdj,List.getElem?_cons_zero,Option.some.injEq] at h
  subst h
  exact ZmU (k x rfl)
 | t :: ts,x :: ds,i+1,d,v,h,k=>by
  simp only [zipAdj,List.getElem?_cons_succ] at h
  exact Zfx P ts ds i d v h (by simpa using k)
def zeroD (P:Program) (t:TypeId):Option (List D) :=
 ((P.info? t).bind (·.zero)).map fun z=>zipAdj P (cellTys P 30 t) (z.cells.toList.map dvc)
theorem KX {P:Program} {t:TypeId} {cs:List D} (h:zeroD P t=some cs) (c:Ctx) :
  ∃ z,(zeroValue t).run P c.w = .ok z c.w∧Vs (CV c) z.cells cs:=by
 unfold zeroD at h
 obtain ⟨z,hz,rfl⟩:=Option.map_eq_some_iff.1 h
 obtain ⟨i,hi,hz⟩:=Option.bind_eq_some_iff.1 hz
 refine ⟨z,by simp [zeroValue,typeInfo,hi,hz],by simp [ZcZ],fun i v d h1 h2=>Zfx P _ _ i d v h2 fun d' hd'=>?_⟩
 simp only [List.getElem?_map,Array.getElem?_toList,h1,Option.map_some,Option.some.injEq] at hd'
 subst hd'
 exact ZiE c v
def cellsOfD:D→Option (List D)
 | .agg cs=>some cs
 | .int k n=>some [.int k n]
 | .bool b=>some [.bool b]
 | .str s=>some [.str s]
 | .nilp=>some [.nilp]
 | .nils=>some [.nils]
 | .sl full wd n f=>some [.sl full wd n f]
 | .pp cs=>some [.pp cs]
 | .ref id off=>some [.ref id off]
 | .eref id i off=>some [.eref id i off]
 | .asl id off len=>some [.asl id off len]
 | .fn f []=>some [.fn f []]
 | .val v=>some [.val v]
 | _=>none
theorem KB {R:Value→D→Prop} {v:Value} {d:D} (h:R v d):Vs R #[v] [d]:=by
 refine ⟨rfl,fun i v' d' h1 h2=>?_⟩
 cases i with
 | zero=>simp at h1 h2; subst h1; subst h2; exact h
 | succ i=>simp at h2
theorem Zbl {c:Ctx} {d:D} {cs:List D} (h:cellsOfD d=some cs) {v:Value} (hv:TV c v d):Vs (CV c) v.cells cs:=by
 unfold cellsOfD at h
 split at h <;> simp only [Option.some.injEq,reduceCtorEq] at h <;> subst h
 ·obtain ⟨vs,rfl,h2⟩:=hv; exact h2
 ·obtain rfl:=hv.int_inv; exact KB hv
 ·obtain rfl:=hv.bool_inv; exact KB hv
 ·obtain rfl:=hv.str_inv; exact KB hv
 ·obtain rfl:=hv.nilp_inv; exact KB hv
 ·have h1:=hv; simp only [TV,AV,CV] at h1; cases h1; exact KB hv
 ·have h1:=hv; simp only [TV,AV,CV] at h1; cases h1; exact KB hv
 ·have h1:=hv; simp only [TV,AV,CV] at h1; cases h1; exact KB hv
 ·have h1:=hv; simp only [TV,AV,CV] at h1; obtain ⟨b,_,rfl⟩:=h1; exact KB hv
 ·have h1:=hv; simp only [TV,AV,CV] at h1; obtain ⟨b,_,_,_,_,_,_,rfl⟩:=h1; exact KB hv
 ·have h1:=hv; simp only [TV,AV,CV] at h1; obtain ⟨_,_,_,_,_,_,_,rfl,_⟩:=h1; exact KB hv
 ·obtain ⟨vs,rfl,hs,_⟩:=hv
  have:vs = #[]:=Array.eq_empty_of_size_eq_zero hs
  subst this
  exact KB (.fn _)
 ·have h1:=hv
  simp only [TV,AV,CV] at h1
  cases h1 with
  | val _ h2 =>
   have e:v.cells = #[v]:=by cases v <;> first | rfl | cases h2
   rw [e]; exact KB hv
theorem ZhT (off:Nat):∀ (l:List Value) (k:Nat) (cs:Array Value),off+k+l.length≤cs.size →
  ((l.zipIdx k).foldl (fun (cs:Array Value) p=>cs.setIfInBounds (off+p.2) p.1) cs).size=cs.size ∧
  ∀ m,((l.zipIdx k).foldl (fun (cs:Array Value) p=>cs.setIfInBounds (off+p.2) p.1) cs)[m]? = if off+k≤m∧m < off+k+l.length then l[m - (off+k)]? else cs[m]?
 | [],k,cs,_=>⟨by simp,fun m=>by simp; omega⟩
 | x :: l,k,cs,h=>by
  simp only [List.length_cons] at h
  have ih:=ZhT off l (k+1) (cs.setIfInBounds (off+k) x) (by simp; omega)
  simp only [List.zipIdx_cons,List.foldl_cons]
  refine ⟨by rw [ih.1]; simp,fun m=>?_⟩
  rw [ih.2 m]
  by_cases h1:m=off+k
  ·subst h1
   rw [if_neg (by omega),if_pos (by simp)]
   have:off+k < cs.size:=by omega
   simp [this]
  ·by_cases h2:off+k≤m∧m < off+k+(x :: l).length
   ·rw [if_pos h2,if_pos (by simp at h2; omega)]
    obtain ⟨j,hj⟩:∃ j,m - (off+k)=j+1:=⟨m - (off+k) - 1,by omega⟩
    rw [hj,List.getElem?_cons_succ,show m - (off+(k+1))=j by omega]
   ·rw [if_neg h2,if_neg (by simp at h2; omega),Array.getElem?_setIfInBounds_ne (by omega)]
def fillD (place:Nat→Option (Nat × Nat)) (cells:List D):List (Nat × D)→Option (List D)
 | []=>some cells
 | (i,d) :: rest=>match place i,cellsOfD d with
  | some (off,size),some cs=>bif Nat.beq cs.length size&&Nat.ble (off+size) cells.length then fillD place (cells.take off++(cs++cells.drop (off+size))) rest else none
  | _,_=>none
theorem ZjQ {c:Ctx} {vs us:Array Value} {cells cs:List D} {off:Nat} (hv:Vs (CV c) vs cells) (hu:Vs (CV c) us cs) (h:off+cs.length≤cells.length) :
  Vs (CV c) (us.zipIdx.foldl (fun cs (x,j)=>cs.setIfInBounds (off+j) x) vs) (cells.take off++(cs++cells.drop (off+cs.length))):=by
 have e:us.zipIdx.foldl (fun (cs:Array Value) (x,j)=>cs.setIfInBounds (off+j) x) vs=(us.toList.zipIdx 0).foldl (fun (cs:Array Value) p=>cs.setIfInBounds (off+p.2) p.1) vs:=by
  rw [← Array.foldl_toList,Array.toList_zipIdx]
 obtain ⟨h1,h2⟩:=ZhT off us.toList 0 vs (by simp [hu.1,hv.1]; omega)
 rw [e]
 refine ⟨by rw [h1,hv.1]; simp; omega,fun i v d hi hd=>?_⟩
 rw [h2] at hi
 simp only [Nat.add_zero,Array.length_toList,hu.1] at hi
 by_cases hlt:i < off
 ·rw [if_neg (by omega)] at hi
  rw [List.getElem?_append_left (by simp; omega),List.getElem?_take_of_lt hlt] at hd
  exact hv.2 i v d hi hd
 ·rw [List.getElem?_append_right (by simp; omega)] at hd
  simp only [List.length_take,Nat.min_eq_left (show off≤cells.length by omega)] at hd
  by_cases hlt2:i < off+cs.length
  ·rw [if_pos (by omega)] at hi
   rw [List.getElem?_append_left (by omega)] at hd
   exact hu.2 (i - off) v d (by simpa using hi) hd
  ·rw [if_neg (by omega)] at hi
   rw [List.getElem?_append_right (by omega),List.getElem?_drop] at hd
   rw [show off+cs.length+(i - off - cs.length)=i by omega] at hd
   exact hv.2 i v d hi hd
theorem Zdu {c:Ctx} (place:Nat→Option (Nat × Nat)) (ρc:Operand→Value) (ρd:Operand→D):∀ (ps:List (Nat × Operand)) (cells:List D) (vs:Array Value) (out:List D),
  (∀ p∈ps,TV c (ρc p.2) (ρd p.2))→Vs (CV c) vs cells→fillD place cells (ps.map fun p=>(p.1,ρd p.2))=some out →
  ∃ vs',Instr.fill place vs (ps.map fun p=>(p.1,ρc p.2))=some vs'∧Vs (CV c) vs' out
 | [],cells,vs,out,_,hv,h=>by
  simp only [List.map_nil,fillD,Option.some.injEq] at h
  subst h
  exact ⟨vs,by simp [Instr.fill],hv⟩
 | (i,x) :: ps,cells,vs,out,hp,hv,h=>by
  simp only [List.map_cons,fillD] at h
  split at h <;> try cases h
  rename_i off size cs hpl hcs
  cases hc:(Nat.beq cs.length size&&Nat.ble (off+size) cells.length) with
  | false=>rw [hc] at h; cases h
  | true =>
   simp only [hc,cond_true] at h
   simp at hc
   obtain ⟨rfl,hle⟩:=hc
   have hu:=Zbl hcs (hp (i,x) (by simp))
   obtain ⟨vs',h1,h2⟩:=Zdu place ρc ρd ps _ _ out (fun p hp'=>hp p (by simp [hp'])) (ZjQ hv hu hle) h
   refine ⟨vs',?_,h2⟩
   simp only [List.map_cons,Instr.fill,hpl]
   have hs:(ρc x).cells.size=cs.length:=hu.1
   have:¬ ((ρc x).cells.size ≠ cs.length||decide (off+(ρc x).cells.size > vs.size))=true:=by
    simp [hs,hv.1]; omega
   rw [if_neg this]
   exact h1
def placesOf (P:Program) (fs:List Field):Option (List (Nat × Nat)):=fs.mapM fun f=>(szO P f.type).map fun n=>(f.offset,n)
def buildD (P:Program) (t:TypeId) (ps:List (Nat × D)):Option D :=
 match P.underlying t,zeroD P t with
 | some (.struct fs),some zs=>match placesOf P fs.toList with
  | some pl=>(fillD (fun i=>pl[i]?) zs ps).map .agg
  | none=>none
 | some (.array _ e),some zs=>match szO P e with
  | some size=>(fillD (fun i=>some (i*size,size)) zs ps).map .agg
  | none=>none
 | _,_=>none
theorem Zfy {P:Program} {w:World}:∀ (fs:List Field) (pl:List (Nat × Nat)),placesOf P fs=some pl →
  (fs.mapM fun f=>(do pure (f.offset,← Go.sizeOf f.type):Sem (Nat × Nat))).run P w = .ok pl w
 | [],pl,h=>by simp [placesOf] at h; subst h; simp
 | f :: fs,pl,h=>by
  unfold placesOf at h
  rw [List.mapM_cons] at h
  obtain ⟨x,hx,h⟩:=Option.bind_eq_some_iff.1 h
  obtain ⟨n,hn,rfl⟩:=Option.map_eq_some_iff.1 hx
  obtain ⟨r,hr,h⟩:=Option.bind_eq_some_iff.1 h
  cases h
  have:=Zfy (w:=w) fs r hr
  rw [List.mapM_cons]
  simp only [Sem.run_bind,Ur hn,Result.andThen_ok,Sem.run_pure]
  rw [this]
  rfl
theorem ZjR {P:Program} {c:Ctx} {t:TypeId} {ps:Array (Nat × Operand)} {ρc:Operand→Value} {ρd:Operand→D} (hρ:∀ p∈ps.toList,TV c (ρc p.2) (ρd p.2)) {d:D}
  (h:buildD P t (ps.toList.map fun p=>(p.1,ρd p.2))=some d):∃ v,(Instr.build t (ps.map fun p=>(p.1,ρc p.2))).run P c.w = .ok v c.w∧TV c v d:=by
 unfold buildD at h
 split at h
 ·rename_i fs zs hu hz
  split at h <;> try cases h
  rename_i pl hpl
  obtain ⟨out,ho,rfl⟩:=Option.map_eq_some_iff.1 h
  obtain ⟨z,hz1,hz2⟩:=KX hz c
  obtain ⟨vs',h1,h2⟩:=Zdu (fun i=>pl[i]?) ρc ρd ps.toList zs z.cells out hρ hz2 ho
  refine ⟨.agg vs',?_,vs',rfl,h2⟩
  have hp:=Zfy (w:=c.w) fs.toList pl hpl
  simp only [Instr.build,Sem.run_bind,hz1,Result.andThen_ok,run_underlying hu]
  rw [Array.mapM_eq_mapM_toList]
  simp only [Sem.run_map,hp,Result.andThen_ok,Array.toList_map]
  have e:(fun (x:Nat)=>pl.toArray[x]?)=fun (i:Nat)=>pl[i]? := by funext i; simp
  rw [e,h1]
  rfl
 ·rename_i n e zs hu hz
  split at h <;> try cases h
  rename_i size hs
  obtain ⟨out,ho,rfl⟩:=Option.map_eq_some_iff.1 h
  obtain ⟨z,hz1,hz2⟩:=KX hz c
  obtain ⟨vs',h1,h2⟩:=Zdu (fun i=>some (i*size,size)) ρc ρd ps.toList zs z.cells out hρ hz2 ho
  refine ⟨.agg vs',?_,vs',rfl,h2⟩
  simp only [Instr.build,Sem.run_bind,hz1,Result.andThen_ok,run_underlying hu,Ur hs,Array.toList_map,h1,Sem.run_pure]
 ·cases h
end Nv
namespace Nv
open Go Go.RowKit
def persB:D→Bool
 | .int _ _ | .bool _ | .str _ | .nilp | .nils | .sl _ _ _ _ | .pp _ | .val _ | .any | .fn _ []=>true
 | _=>false
theorem Kt {c:Ctx} {v:Value} {d:D} (hp:persB d=true) (h:CV c v d):PV c.I c.w v d:=by
 cases d <;> first | exact h | simp [persB] at hp
def cellB:D→Bool
 | .int _ _ | .bool _ | .str _ | .nilp | .nils | .sl _ _ _ _ | .pp _ | .val _ | .ref _ _ | .eref _ _ _ | .asl _ _ _ | .fn _ []=>true
 | _=>false
theorem Zbm {c:Ctx} {v:Value} {d:D} (hp:cellB d=true) (h:CV c v d):v.oneCell'=true:=by
 cases d <;> first | (simp [cellB] at hp; done) | simp only [CV] at h
 case ref=>obtain ⟨b,_,rfl⟩:=h; rfl
 case eref=>obtain ⟨b,_,_,_,_,_,_,rfl⟩:=h; rfl
 case asl=>obtain ⟨_,_,_,_,_,_,_,rfl,_⟩:=h; rfl
 case val=>cases h; assumption
 all_goals cases h; rfl
theorem Zl6 {c:Ctx} {v:Value} {d:D} (hp:cellB d=true) (h:TV c v d):CV c v d:=by
 cases d <;> first | exact h | (simp [cellB] at hp; done) | skip
 rename_i f cap
 cases cap with
 | cons d ds=>simp [cellB] at hp
 | nil =>
  obtain ⟨vs,rfl,hs,_⟩:=h
  have:vs = #[]:=Array.eq_empty_of_size_eq_zero hs
  subst this
  exact .fn f
def minmaxD (mx:Bool):List D→D→Option D
 | [],d=>some d
 | .int _ b :: rest,.int k a=>minmaxD mx rest (.int k (bif mx then (if b > a then b else a) else (if b < a then b else a)))
 | _ :: _,_=>none
theorem ZkF {P:Program} {c:Ctx}:∀ (ds:List D) (vs:List Value) (d:D) (v:Value) (r:D),TV c v d→vs.length=ds.length→(∀ (i:Nat) v d,vs[i]? = some v→ds[i]? = some d→TV c v d) →
  minmaxD false ds d=some r→∃ v',(vs.foldlM Builtin.min2 v).run P c.w = .ok v' c.w∧TV c v' r
 | [],vs,d,v,r,hv,hl,_,h=>by
  cases vs <;> simp at hl
  simp [minmaxD] at h
  subst h
  exact ⟨v,by simp,hv⟩
 | e :: ds,vs,d,v,r,hv,hl,hp,h=>by
  cases vs with
  | nil=>simp at hl
  | cons u vs =>
   cases e <;> try (simp [minmaxD] at h; done)
   rename_i k' b
   cases d <;> try (simp [minmaxD] at h; done)
   rename_i k a
   simp only [minmaxD,cond_false] at h
   obtain rfl:=hv.int_inv
   obtain rfl:=(hp 0 _ _ rfl rfl).int_inv
   obtain ⟨v',h1,h2⟩:=ZkF (P:=P) ds vs (.int k (if b < a then b else a)) (.int k (if b < a then b else a)) r (WY _ _) (by simpa using hl)
    (fun i v d h3 h4=>hp (i+1) v d (by simpa using h3) (by simpa using h4)) h
   exact ⟨v',by simpa [Builtin.min2] using h1,h2⟩
theorem ZkG {P:Program} {c:Ctx}:∀ (ds:List D) (vs:List Value) (d:D) (v:Value) (r:D),TV c v d→vs.length=ds.length→(∀ (i:Nat) v d,vs[i]? = some v→ds[i]? = some d→TV c v d) →
  minmaxD true ds d=some r→∃ v',(vs.foldlM Builtin.max2 v).run P c.w = .ok v' c.w∧TV c v' r
 | [],vs,d,v,r,hv,hl,_,h=>by
  cases vs <;> simp at hl
  simp [minmaxD] at h
  subst h
  exact ⟨v,by simp,hv⟩
 | e :: ds,vs,d,v,r,hv,hl,hp,h=>by
  cases vs with
  | nil=>simp at hl
  | cons u vs =>
   cases e <;> try (simp [minmaxD] at h; done)
   rename_i k' b
   cases d <;> try (simp [minmaxD] at h; done)
   rename_i k a
   simp only [minmaxD,cond_true] at h
   obtain rfl:=hv.int_inv
   obtain rfl:=(hp 0 _ _ rfl rfl).int_inv
   obtain ⟨v',h1,h2⟩:=ZkG (P:=P) ds vs (.int k (if b > a then b else a)) (.int k (if b > a then b else a)) r (WY _ _) (by simpa using hl)
    (fun i v d h3 h4=>hp (i+1) v d (by simpa using h3) (by simpa using h4)) h
   exact ⟨v',by simpa [Builtin.max2] using h1,h2⟩
def indexD (P:Program) (t:TypeId) (x i:D):Option (D × List Bool) :=
 match P.underlying t,x,i with
 | some .string,.str s,.int _ k=>some (.int .u8 (byteAt s k),[decide (0≤k),decide (k < (s.size:Int))])
 | some (.array len e),.agg cs,.int _ k=>match szO P e with
  | some sz=>(partD P e cs (k.toNat*sz)).map fun d=>(d,[decide (0≤k),decide (k < (len:Int))])
  | none=>none
 | _,_,_=>none
theorem ZjS {P:Program} {c:Ctx} {t:TypeId} {x i d:D} {bs:List Bool} (h:indexD P t x i=some (d,bs)) (hb:∀ b∈bs,b=true)
  {vx vi:Value} (hx:TV c vx x) (hi:TV c vi i):∃ v',(Instr.index t vx vi).run P c.w = .ok v' c.w∧TV c v' d:=by
 unfold indexD at h
 split at h
 ·rename_i s kk k hu
  simp only [Option.some.injEq,Prod.mk.injEq] at h
  obtain ⟨rfl,rfl⟩:=h
  obtain ⟨h1,h2⟩:=all2 hb
  simp only [decide_eq_true_eq] at h1 h2
  obtain rfl:=hx.str_inv
  obtain rfl:=hi.int_inv
  have hlt:k.toNat < s.size:=by omega
  have e:(s.data.toList[k.toNat]?).getD 0=s[k.toNat]:=by
   have:k.toNat < s.data.toList.length:=by simpa using hlt
   rw [List.getElem?_eq_getElem this]
   rfl
  refine ⟨.int .u8 (byteAt s k),?_,WY _ _⟩
  simp only [byteAt,e]
  simp [Instr.index,asIntOf,run_underlying hu,h1,hlt]
 ·rename_i len e cs kk k hu
  split at h <;> try cases h
  rename_i sz hs
  obtain ⟨d',hp,heq⟩:=Option.map_eq_some_iff.1 h
  simp only [Prod.mk.injEq] at heq
  obtain ⟨rfl,rfl⟩:=heq
  obtain ⟨h1,h2⟩:=all2 hb
  simp only [decide_eq_true_eq] at h1 h2
  obtain ⟨vs,rfl,hvs⟩:=hx
  obtain rfl:=hi.int_inv
  obtain ⟨v',h3,h4⟩:=ZhO hp hvs
  exact ⟨v',by simp [Instr.index,asIntOf,run_underlying hu,h1,h2,Ur hs,h3],h4⟩
 ·cases h
def buildSliceD (P:Program) (t:TypeId) (len:Nat) (ps:List (Nat × D)):Option D :=
 match P.underlying t with
 | some (.slice e)=>match szO P e,zeroD P e with
  | some sz,some zs=>bif Nat.ble (len*sz) 16777216&&Nat.beq zs.length sz then
    (match fillD (fun i=>some (i*sz,sz)) (List.replicate (len*sz) .any) ps with
    | some out=>bif out.all (fun d=>persB d&&cellB d) then some (.sl true sz len fun i=>(out.drop (i*sz)).take sz) else none
    | none=>none) else none
  | _,_=>none
 | _=>none
theorem Zei (place:Nat→Option (Nat × Nat)):∀ (ps:List (Nat × D)) (cells out:List D),fillD place cells ps=some out→out.length=cells.length
 | [],cells,out,h=>by simp [fillD] at h; subst h; rfl
 | (i,d) :: ps,cells,out,h=>by
  simp only [fillD] at h
  split at h <;> try cases h
  rename_i off size cs hpl hcs
  cases hc:(Nat.beq cs.length size&&Nat.ble (off+size) cells.length) with
  | false=>rw [hc] at h; cases h
  | true =>
   simp only [hc,cond_true] at h
   simp at hc
   rw [Zei place ps _ out h]
   simp
   omega
def Ctx.grow (c:Ctx) (o:Obj):Ctx:={ c with I:=fun b=>c.I b∨b=c.w.heap.size,w:=c.w.alloc o }
theorem Zej {F:Fr} {c:Ctx} (h:Inv F c) (o:Obj):Goes c (c.grow o) :=
 ⟨rfl,rfl,fun _ h=>.inl h,fun _ hb=>Below.heap_alloc _ _ _ hb,fun b hb=>(h.imm b hb).1,fun id b hb=>(h.loc id b hb).2.1⟩
theorem ZkH {F:Fr} {c:Ctx} (h:Inv F c) (o:Obj):Inv F (c.grow o) :=
 h.goes (Zej h o) ((Bw.refl _ _).alloc (Nat.le_refl _) o) fun _ hb=>hb.imp id fun e=>⟨by omega,by subst e; simp [Ctx.grow]⟩
theorem Zfz {P:Program} {F:Fr} {c:Ctx} (hI:Inv F c) {t:TypeId} {len:Nat} {ps:Array (Nat × Operand)} {ρc:Operand→Value} {ρd:Operand→D} (hρ:∀ p∈ps.toList,TV c (ρc p.2) (ρd p.2)) {d:D}
  (h:buildSliceD P t len (ps.toList.map fun p=>(p.1,ρd p.2))=some d) :
  ∃ v c',(Instr.buildSlice t len (ps.map fun p=>(p.1,ρc p.2))).run P c.w = .ok v c'.w∧Inv F c'∧Goes c c'∧Bw c.w.heap.size c.w c'.w∧TV c' v d:=by
 unfold buildSliceD at h
 split at h <;> try cases h
 rename_i e hu
 split at h <;> try cases h
 rename_i sz zs hs hz
 cases hsz:(Nat.ble (len*sz) 16777216&&Nat.beq zs.length sz) with
 | false=>rw [hsz] at h; cases h
 | true =>
  simp only [hsz,cond_true] at h
  simp at hsz
  obtain ⟨hle,hzl⟩:=hsz
  split at h <;> try cases h
  rename_i out ho
  cases hp:out.all (fun d=>persB d&&cellB d) with
  | false=>simp [hp] at h
  | true =>
   simp only [hp,cond_true,Option.some.injEq] at h
   subst h
   obtain ⟨z,hz1,hz2⟩:=KX hz c
   have hzs:z.cells.size=sz:=by rw [hz2.1,hzl]
   let base:Array Value:=(Array.range (len*sz)).map fun i=>(if len*sz=0 then (#[]:Array Value) else z.cells)[i % (if len*sz=0 then (#[]:Array Value) else z.cells).size]!
   have hbase:Vs (CV c) base (List.replicate (len*sz) .any):=by
    refine ⟨by simp [base],fun i v d _ h2=>?_⟩
    rw [List.getElem?_replicate] at h2
    split at h2 <;> simp only [Option.some.injEq,reduceCtorEq] at h2
    subst h2
    simp only [CV]
    exact .any v
   obtain ⟨vs',h1,h2⟩:=Zdu (fun i=>some (i*sz,sz)) ρc ρd ps.toList _ base out hρ hbase ho
   have hol:out.length=len*sz:=by rw [Zei _ _ _ _ ho]; simp
   refine ⟨.slice (some ⟨c.w.heap.size,0,none⟩) len len,c.grow (.cells vs' e),?_,ZkH hI _,Zej hI _,(Bw.refl _ _).alloc (Nat.le_refl _) _,?_⟩
   ·have hn:¬ len*sz > 2 ^ 24:=by omega
    have hff:Instr.fill (fun i=>some (i*sz,sz)) base (ps.map fun p=>(p.1,ρc p.2)).toList=some vs':=by rw [Array.toList_map]; exact h1
    by_cases h0:len*sz=0
    ·simp only [base,if_pos h0] at hff
     simp only [Instr.buildSlice,Sem.run_bind,run_underlying hu,Result.andThen_ok,Ur hs,if_neg hn,if_pos h0,Sem.run_pure,hff,newRow,run_newObj]
     rfl
    ·simp only [base,if_neg h0] at hff
     simp only [Instr.buildSlice,Sem.run_bind,run_underlying hu,Result.andThen_ok,Ur hs,if_neg hn,if_neg h0,Sem.run_pure,hz1,hff,newRow,run_newObj]
     rfl
   ·apply ZkB
    have hsz:vs'.size=len*sz:=by rw [h2.1,hol]
    refine .sl _ len len sz true _ (fun i j=>vs'.getD (i*sz+j) undef) (fun _=>rfl) (Nat.le_refl _) (fun hn=>⟨c.w.heap.size,0,rfl,.inr rfl,fun i hi j hj=>?_⟩) (fun i hi=>?_) (fun i hi j hj=>?_) (fun i hi j d hd=>?_)
    ·have:i*sz+j < len*sz:=by
      have:=Nat.mul_le_mul_right sz hi
      rw [Nat.succ_mul] at this
      omega
     simp [Ctx.grow,hsz,this]
    ·have:=Nat.mul_le_mul_right sz hi
     rw [Nat.succ_mul] at this
     simp [hol]; omega
    ·have hlt2:i*sz+j < len*sz:=by
      have:=Nat.mul_le_mul_right sz hi
      rw [Nat.succ_mul] at this
      omega
     have hlt3:i*sz+j < out.length:=by omega
     have h3:=h2.2 (i*sz+j) (vs'.getD (i*sz+j) undef) out[i*sz+j] (by simp [hsz,hlt2]) (by simp [hlt3])
     have hmem:=List.all_eq_true.1 hp out[i*sz+j] (List.getElem_mem hlt3)
     simp only [Bool.and_eq_true] at hmem
     exact Zbm hmem.2 h3
    ·have hlt:=(List.getElem?_eq_some_iff.1 hd).1
     simp at hlt
     rw [List.getElem?_take_of_lt (by omega),List.getElem?_drop] at hd
     have hlt2:i*sz+j < vs'.size:=by rw [h2.1]; omega
     have h3:=h2.2 (i*sz+j) (vs'.getD (i*sz+j) undef) d (by simp [hlt2]) hd
     have hmem:=List.all_eq_true.1 hp d (List.mem_of_getElem? hd)
     simp only [Bool.and_eq_true] at hmem
     exact (Zej hI _).pv (Kt hmem.1 h3)
end Nv
namespace Nv
open Go Go.RowKit
def sameOpd:Operand→Operand→Bool
 | .tmp a,.tmp b=>Nat.beq a b
 | .const (.int k a),.const (.int k' b)=>decide (k=k')&&(a==b)
 | _,_=>false
theorem ZiK {a b:Operand} (h:sameOpd a b=true):a=b:=by
 unfold sameOpd at h
 split at h
 ·rw [Nat.eq_of_beq_eq_true h]
 ·simp at h; rw [h.1,h.2]
 ·cases h
def pureOp (P:Program) (H:List Ob) (ρ:Operand→D) (type:TypeId) (op:Op):Option (D × List Bool) :=
 match op with
 | .move x=>some (adj P type (ρ x),[])
 | .assign x=>some (adj P type (ρ x),[])
 | .load t a=>match cellsAt H (ρ a) with
  | some cs=>(ldD P t cs).map fun d=>(d,[])
  | none=>none
 | .fieldAddr s x i=>match fieldOff P s i with
  | some (o,_)=>(moveD o (ρ x)).map fun d=>(d,[])
  | none=>none
 | .field s x i=>(fieldD P s (ρ x) i).map fun d=>(d,[])
 | .indexAddr t x i=>idxD P H t (ρ x) (ρ i)
 | .index t x i=>indexD P t (ρ x) (ρ i)
 | .binOp op t x y _=>binD P op t (ρ x) (ρ y)
 | .unOp op _ x=>(unD op (ρ x)).map fun d=>(d,[])
 | .convert s t x=>(convD P s t (ρ x)).map fun d=>(d,[])
 | .slice t x lo hi none=>sliceD P H t (ρ x) (lo.map ρ) (hi.map ρ)
 | .slice t x lo (some hi) (some mx)=>bif sameOpd hi mx then slice3D P t (ρ x) (lo.map ρ) (ρ hi) else none
 | .build t ps=>(buildD P t (ps.toList.map fun p=>(p.1,ρ p.2))).map fun d=>(d,[])
 | .buildSlice t n ps=>(buildSliceD P t n (ps.toList.map fun p=>(p.1,ρ p.2))).map fun d=>(d,[])
 | .extract x i=>match ρ x with
  | .tup ds=>(ds[i]?).map fun d=>(d,[])
  | _=>none
 | .makeFunc (.func f) first caps=>bif first.isEmpty&&caps.toList.all (fun x=>cellB (ρ x)) then some (.fn f (caps.toList.map ρ),[]) else none
 | .nilCheck x=>match ρ x with
  | .pp cs=>some (.pp cs,[])
  | .ref id off=>some (.ref id off,[])
  | .eref id i off=>some (.eref id i off,[])
  | .fn f cap=>some (.fn f cap,[])
  | _=>none
 | .call { callee:=.builtin .len,args:=⟨[x]⟩,argTypes:=⟨[t]⟩ }=>(lenD P t (ρ x)).map fun d=>(d,[])
 | .call { callee:=.builtin .min,args:=⟨x :: xs⟩,argTypes:=_ }=>(minmaxD false (xs.map ρ) (ρ x)).map fun d=>(d,[])
 | .call { callee:=.builtin .max,args:=⟨x :: xs⟩,argTypes:=_ }=>(minmaxD true (xs.map ρ) (ρ x)).map fun d=>(d,[])
 | _=>none
def Gives (P:Program) (F:Fr) (c:Ctx) (s:Sem Next) (d:D):Prop :=
 ∃ v c',s.run P c.w = .ok (.value v) c'.w∧Inv F c'∧Goes c c'∧Bw c.w.heap.size c.w c'.w∧TV c' v d
theorem UC {P:Program} {F:Fr} {c:Ctx} (hI:Inv F c) {s:Sem Value} {d:D} (h:∃ v,s.run P c.w = .ok v c.w∧TV c v d) :
  Gives P F c (do pure (.value (← s))) d:=by
 obtain ⟨v,h1,h2⟩:=h
 exact ⟨v,c,by simp [h1],hI,Goes.refl hI,Bw.refl _ _,h2⟩
theorem Ko {α β:Type} {f:α→β} {o:Option α}:(o.map f=none↔o=none):=by cases o <;> simp
theorem ZjT {P:Program} {F:Fr} {c:Ctx} (hI:Inv F c) {ρc:Operand→Value} {ρd:Operand→D} {o:Oper} (hρ:∀ x∈o.op.operands.toList,TV c (ρc x) (ρd x))
  {d:D} {bs:List Bool} (h:pureOp P c.H ρd o.type o.op=some (d,bs)) (hb:∀ b∈bs,b=true):Gives P F c (execOp ρc o) d:=by
 obtain ⟨dst,op,type,pos,after,guard⟩:=o
 unfold pureOp at h
 simp only at h hρ
 split at h
 -- move, assign
 ·rename_i x
  simp only [Option.some.injEq,Prod.mk.injEq] at h
  obtain ⟨rfl,rfl⟩:=h
  exact ⟨_,c,rfl,hI,Goes.refl hI,Bw.refl _ _,KW (hρ x (by simp [Op.operands]))⟩
 ·rename_i x
  simp only [Option.some.injEq,Prod.mk.injEq] at h
  obtain ⟨rfl,rfl⟩:=h
  exact ⟨_,c,rfl,hI,Goes.refl hI,Bw.refl _ _,KW (hρ x (by simp [Op.operands]))⟩
 -- load
 ·rename_i t a
  split at h <;> try cases h
  rename_i cs hcs
  obtain ⟨d',hd,heq⟩:=Option.map_eq_some_iff.1 h
  simp only [Prod.mk.injEq] at heq
  obtain ⟨rfl,rfl⟩:=heq
  obtain ⟨b,off,g,hv,hc,hcv⟩:=Zfw hI hcs (hρ a (by simp [Op.operands]))
  obtain ⟨v',h1,h2⟩:=Zjh hd hc hcv
  exact UC hI ⟨v',by simp [Instr.loadAt,hv,Instr.sureAddr,h1],h2⟩
 -- fieldAddr
 ·rename_i s x i
  split at h <;> try cases h
  rename_i o ft ho
  obtain ⟨d',hd,heq⟩:=Option.map_eq_some_iff.1 h
  simp only [Prod.mk.injEq] at heq
  obtain ⟨rfl,rfl⟩:=heq
  exact UC hI (ZiH ho hd (hρ x (by simp [Op.operands])))
 -- field
 ·rename_i s x i
  obtain ⟨d',hd,heq⟩:=Option.map_eq_some_iff.1 h
  simp only [Prod.mk.injEq] at heq
  obtain ⟨rfl,rfl⟩:=heq
  exact UC hI (ZjN hd (hρ x (by simp [Op.operands])))
 -- indexAddr
 ·rename_i t x i
  exact UC hI (Zl1 h hb (hρ x (by simp [Op.operands])) (hρ i (by simp [Op.operands])))
 -- index
 ·rename_i t x i
  exact UC hI (ZjS h hb (hρ x (by simp [Op.operands])) (hρ i (by simp [Op.operands])))
 -- binOp
 ·rename_i op t x y u
  exact UC hI (Zl5 h hb (hρ x (by simp [Op.operands])) (hρ y (by simp [Op.operands])) x y)
 -- unOp
 ·rename_i op t x
  obtain ⟨d',hd,heq⟩:=Option.map_eq_some_iff.1 h
  simp only [Prod.mk.injEq] at heq
  obtain ⟨rfl,rfl⟩:=heq
  exact UC hI (ZmT hd (hρ x (by simp [Op.operands])))
 -- convert
 ·rename_i s t x
  obtain ⟨d',hd,heq⟩:=Option.map_eq_some_iff.1 h
  simp only [Prod.mk.injEq] at heq
  obtain ⟨rfl,rfl⟩:=heq
  exact UC hI (ZkD hd (hρ x (by simp [Op.operands])))
 -- slice
 ·rename_i t x lo hi
  refine UC hI (ZjP h hb (hρ x (by simp [Op.operands])) (Ko.trans Ko.symm) (fun v d h1 h2=>?_) (Ko.trans Ko.symm) (fun v d h1 h2=>?_))
  ·obtain ⟨y,rfl,rfl⟩:=Option.map_eq_some_iff.1 h1
   simp only [Option.map_some,Option.some.injEq] at h2
   subst h2
   exact hρ y (by simp [Op.operands])
  ·obtain ⟨y,rfl,rfl⟩:=Option.map_eq_some_iff.1 h1
   simp only [Option.map_some,Option.some.injEq] at h2
   subst h2
   exact hρ y (by simp [Op.operands])
 ·rename_i t x lo hi mx
  cases hs:sameOpd hi mx with
  | false=>simp [hs] at h
  | true =>
   simp only [hs,cond_true] at h
   have hx:=hρ x (by simp [Op.operands])
   have hh:=hρ hi (by simp [Op.operands])
   have e:ρc mx=ρc hi:=by rw [ZiK hs]
   have:=ZiJ (vl:=lo.map ρc) h hb hx (Ko.trans Ko.symm) (fun v d h1 h2=>by
    obtain ⟨y,rfl,rfl⟩:=Option.map_eq_some_iff.1 h1
    simp only [Option.map_some,Option.some.injEq] at h2
    subst h2
    exact hρ y (by simp [Op.operands])) hh
   refine UC hI ?_
   simp only [Option.map_some,e]
   exact this
 -- build
 ·rename_i t ps
  obtain ⟨d',hd,heq⟩:=Option.map_eq_some_iff.1 h
  simp only [Prod.mk.injEq] at heq
  obtain ⟨rfl,rfl⟩:=heq
  refine UC hI (ZjR (fun p hp=>hρ p.2 ?_) hd)
  simp only [Op.operands,List.mem_map]
  exact ⟨p,hp,rfl⟩
 -- buildSlice
 ·rename_i t n ps
  obtain ⟨d',hd,heq⟩:=Option.map_eq_some_iff.1 h
  simp only [Prod.mk.injEq] at heq
  obtain ⟨rfl,rfl⟩:=heq
  obtain ⟨v,c',h1,h2,h3,h4,h5⟩:=Zfz hI (ρc:=ρc) (fun p hp=>hρ p.2 (by simp only [Op.operands,List.mem_map]; exact ⟨p,hp,rfl⟩)) hd
  exact ⟨v,c',by simp [execOp,h1],h2,h3,h4,h5⟩
 -- extract
 ·rename_i x i
  split at h <;> try cases h
  rename_i ds hx
  obtain ⟨d',hd,heq⟩:=Option.map_eq_some_iff.1 h
  simp only [Prod.mk.injEq] at heq
  obtain ⟨rfl,rfl⟩:=heq
  have hv:=hρ x (by simp [Op.operands])
  rw [hx] at hv
  obtain ⟨vs,hvs,hl,hall⟩:=hv
  have hlt:i < vs.size:=by rw [hl]; exact (List.getElem?_eq_some_iff.1 hd).1
  exact UC hI ⟨vs[i],by simp [Instr.extract,hvs,hlt],Zdt (hall i _ _ (by simp [hlt]) hd)⟩
 -- makeFunc
 ·rename_i f first caps
  cases hc:(first.isEmpty&&caps.toList.all fun x=>cellB (ρd x)) with
  | false=>rw [hc] at h; cases h
  | true =>
   rw [hc] at h
   simp only [cond_true,Option.some.injEq,Prod.mk.injEq] at h
   obtain ⟨rfl,rfl⟩:=h
   simp only [Bool.and_eq_true,Array.isEmpty_iff,List.all_eq_true] at hc
   obtain ⟨rfl,hc⟩:=hc
   refine UC hI ⟨.func (.func f) #[] (caps.map ρc),by simp [Instr.makeFunc],?_⟩
   refine ⟨_,rfl,by simp,fun i v d h1 h2=>?_⟩
   simp only [Array.getElem?_map,Option.map_eq_some_iff] at h1
   obtain ⟨x,hx,rfl⟩:=h1
   simp only [List.getElem?_map,Array.getElem?_toList,hx,Option.map_some,Option.some.injEq] at h2
   subst h2
   have hmem:x∈caps.toList:=by rw [← Array.getElem?_toList] at hx; exact List.mem_of_getElem? hx
   exact Zl6 (hc x hmem) (hρ x (by simp only [Op.operands,Array.toList_append,List.mem_append]; exact .inr hmem))
 -- nilCheck
 ·rename_i x
  have hv:=hρ x (by simp [Op.operands])
  split at h <;> simp only [Option.some.injEq,Prod.mk.injEq,reduceCtorEq] at h <;> obtain ⟨rfl,rfl⟩:=h <;> rename_i hx <;> rw [hx] at hv
  ·have h1:=hv; simp only [TV,AV,CV] at h1
   generalize hr:ρc x=r at h1 hv
   cases h1
   exact ⟨_,c,by simp [execOp,hr],hI,Goes.refl hI,Bw.refl _ _,hv⟩
  ·have h1:=hv; simp only [TV,AV,CV] at h1
   obtain ⟨b,_,hr⟩:=h1
   exact ⟨ρc x,c,by simp [execOp,hr],hI,Goes.refl hI,Bw.refl _ _,hv⟩
  ·have h1:=hv; simp only [TV,AV,CV] at h1
   obtain ⟨b,_,_,_,_,_,_,hr⟩:=h1
   exact ⟨ρc x,c,by simp [execOp,hr],hI,Goes.refl hI,Bw.refl _ _,hv⟩
  ·have h1:=hv
   obtain ⟨vs,hr,_⟩:=h1
   exact ⟨ρc x,c,by simp [execOp,hr],hI,Goes.refl hI,Bw.refl _ _,hv⟩
 -- len, min, max
 ·rename_i x t
  obtain ⟨d',hd,heq⟩:=Option.map_eq_some_iff.1 h
  simp only [Prod.mk.injEq] at heq
  obtain ⟨rfl,rfl⟩:=heq
  obtain ⟨v',h1,h2⟩:=Zl2 (u:=type) hd (hρ x (by simp [Op.operands,Call.operands]))
  exact ⟨v',c,by simp [execOp,resolve,invoke,builtin,h1],hI,Goes.refl hI,Bw.refl _ _,h2⟩
 ·rename_i x xs ts
  obtain ⟨d',hd,heq⟩:=Option.map_eq_some_iff.1 h
  simp only [Prod.mk.injEq] at heq
  obtain ⟨rfl,rfl⟩:=heq
  obtain ⟨v',h1,h2⟩:=ZkF (P:=P) (xs.map ρd) (xs.map ρc) _ _ _ (hρ x (by simp [Op.operands,Call.operands])) (by simp) (fun i v d h3 h4=>by
   simp only [List.getElem?_map,Option.map_eq_some_iff] at h3
   obtain ⟨y,hy,rfl⟩:=h3
   simp only [List.getElem?_map,hy,Option.map_some,Option.some.injEq] at h4
   subst h4
   exact hρ y (by simp [Op.operands,Call.operands,List.mem_of_getElem? hy])) hd
  exact ⟨v',c,by simp [execOp,resolve,invoke,builtin,Builtin.min_,h1],hI,Goes.refl hI,Bw.refl _ _,h2⟩
 ·rename_i x xs ts
  obtain ⟨d',hd,heq⟩:=Option.map_eq_some_iff.1 h
  simp only [Prod.mk.injEq] at heq
  obtain ⟨rfl,rfl⟩:=heq
  obtain ⟨v',h1,h2⟩:=ZkG (P:=P) (xs.map ρd) (xs.map ρc) _ _ _ (hρ x (by simp [Op.operands,Call.operands])) (by simp) (fun i v d h3 h4=>by
   simp only [List.getElem?_map,Option.map_eq_some_iff] at h3
   obtain ⟨y,hy,rfl⟩:=h3
   simp only [List.getElem?_map,hy,Option.map_some,Option.some.injEq] at h4
   subst h4
   exact hρ y (by simp [Op.operands,Call.operands,List.mem_of_getElem? hy])) hd
  exact ⟨v',c,by simp [execOp,resolve,invoke,builtin,Builtin.max_,h1],hI,Goes.refl hI,Bw.refl _ _,h2⟩
 ·cases h
end Nv
namespace Nv
open Go Go.RowKit
def Ctx.made (c:Ctx) (w':World) (o:Ob):Ctx :=
 { I:=c.I,mu:=fun i=>if i=c.H.length then some c.w.heap.size else c.mu i,H:=c.H++[o],w:=w' }
structure More0 (w w':World):Prop where
 below:Bw w.heap.size w w'
 size:w'.heap.size=w.heap.size+1
structure More (w w':World) (cs:Array Value) (T:TypeId):Prop extends More0 w w' where
 new:w'.heap[w.heap.size]? = some (.cells cs T (0,0))
theorem ZfA (w:World) (cs:Array Value) (T:TypeId):More w (w.alloc (.cells cs T)) cs T :=
 ⟨⟨(Bw.refl _ _).alloc (Nat.le_refl _) _,by simp⟩,heap_alloc_new w _⟩
theorem ZgJ (w:World) (cs:Array Value) (T:TypeId):More w (w.drew.alloc (.cells cs T)) cs T :=
 ⟨⟨((Bw.refl _ _).alloc (Nat.le_refl _) (.cells cs T)).drew,by simp⟩,heap_alloc_new w.drew _⟩
section
variable {F:Fr} {c:Ctx} {w':World} {cs:Array Value} {T:TypeId}
theorem Zdv (hI:Inv F c) (hm:More0 c.w w') {v:Value} {d:D} (h:PV c.I c.w v d):PV c.I w' v d :=
 h.mono (fun _ h=>h) fun b hb=>hm.below.block b (hI.imm b hb).1
theorem ZjU (hm:More0 c.w w') {b n:Nat} (hb:b < c.w.heap.size) (k:Room c.w b n):Room w' b n:=by
 obtain ⟨cs,T,h1,h2⟩:=k
 exact ⟨cs,T,by rw [hm.below.block b hb]; exact h1,h2⟩
theorem Zg4 (hI:Inv F c) (o:Ob) {id b:Nat} (h:c.mu id=some b):(c.made w' o).mu id=some b:=by
 simp only [Ctx.made]
 rw [if_neg]
 ·exact h
 ·intro e
  rw [hI.dom id (by omega)] at h
  cases h
theorem ZiL (o o':Ob) {id:Nat} (h:c.H[id]? = some o'):(c.made w' o).H[id]? = some o':=by
 have:=(List.getElem?_eq_some_iff.1 h).1
 simp only [Ctx.made]
 rw [List.getElem?_append_left this]
 exact h
theorem Zdw (hI:Inv F c) (hm:More0 c.w w') (o:Ob) {v:Value} {d:D} (h:CV c v d):CV (c.made w' o) v d:=by
 cases d <;> simp only [CV] at h ⊢ <;> try exact Zdv hI hm h
 ·obtain ⟨b,hb,hv⟩:=h; exact ⟨b,Zg4 hI o hb,hv⟩
 ·obtain ⟨b,wd,n,f,hb,hH,hi,hv⟩:=h; exact ⟨b,wd,n,f,Zg4 hI o hb,ZiL o _ hH,hi,hv⟩
 ·obtain ⟨wd,n,f,a,cap,hH,h2,h3,h4,h5⟩:=h
  refine ⟨wd,n,f,a,cap,ZiL o _ hH,h2,h3,h4,h5.imp id ?_⟩
  rintro ⟨b,hb,ha,hr⟩
  exact ⟨b,Zg4 hI o hb,ha,ZjU hm (hI.loc _ b hb).2.1 hr⟩
theorem Zjk (hI:Inv F c) (hm:More0 c.w w') (o:Ob) {v:Value} {d:D} (h:AV c v d):AV (c.made w' o) v d:=by
 cases d <;> simp only [AV] at h ⊢ <;> try exact Zdw hI hm o h
 ·obtain ⟨vs,h1,h2⟩:=h; exact ⟨vs,h1,h2.mono fun _ _=>Zdw hI hm o⟩
 ·obtain ⟨vs,h1,h2⟩:=h; exact ⟨vs,h1,h2.mono fun _ _=>Zdw hI hm o⟩
theorem Zdx (hI:Inv F c) (hm:More0 c.w w') (o:Ob) {v:Value} {d:D} (h:TV c v d):TV (c.made w' o) v d:=by
 cases d <;> simp only [TV] at h ⊢ <;> try exact Zjk hI hm o h
 obtain ⟨vs,h1,h2⟩:=h; exact ⟨vs,h1,h2.mono fun _ _=>Zjk hI hm o⟩
theorem Zbn (hI:Inv F c) (hm:More0 c.w w') (o:Ob) (ho:OV (c.made w' o) (some c.w.heap.size) o) (hfo:∀ j,fblk o j=none:=by intro _; rfl):Inv F (c.made w' o):=by
 have hs:=hm.size
 have hs0:=hI.below.size
 refine ⟨hI.below.next hm.below,fun b hb=>⟨?_,(hI.imm b hb).2⟩,fun id b hb=>?_,fun i j b h1 h2=>?_,fun id o' h=>?_,fun id hid=>?_,fun i v hv=>?_,fun hl=>ZiL o _ (hI.mark hl),hI.fam.mono (fun id o' j b h1 h2=>KV hfo h1 h2) (by show c.w.heap.size≤w'.heap.size; omega) (fun b _ h=>.inl h) fun i b h=>?_⟩
 case refine_7 =>
  simp only [Ctx.made] at h
  split at h
  ·cases h; exact .inr (Nat.le_refl _)
  ·exact .inl ⟨i,h⟩
 case refine_6 =>
  have h1:=hI.lent i v hv
  have hlt:i < c.H.length:=by
   have h2:=(List.getElem?_eq_some_iff.1 hv).1
   have h3:=(List.getElem?_eq_some_iff.1 (hI.mark (by intro e; rw [e] at h2; simp at h2))).1
   omega
  simp only [Ctx.made]
  rw [if_neg (by omega)]
  exact h1
 ·have:=(hI.imm b hb).1; show b < w'.heap.size; omega
 ·simp only [Ctx.made] at hb ⊢
  split at hb
  ·cases hb
   exact ⟨.inl hs0,by omega,fun h=>by have:=(hI.imm _ h).1; omega⟩
  ·obtain ⟨h1,h2,h3⟩:=hI.loc id b hb
   exact ⟨h1,by omega,h3⟩
 ·simp only [Ctx.made] at h1 h2
  split at h1 <;> split at h2
  ·omega
  ·cases h1; have:=(hI.loc j _ h2).2.1; omega
  ·cases h2; have:=(hI.loc i _ h1).2.1; omega
  ·exact hI.inj i j b h1 h2
 ·by_cases hid:id=c.H.length
  ·subst hid
   have:o'=o:=by simp [Ctx.made] at h; exact h.symm
   subst this
   have e:(c.made w' o').mu c.H.length=some c.w.heap.size:=by simp [Ctx.made]
   rw [e]
   exact ho
  ·have hH:c.H[id]? = some o':=by
    have hlt:=(List.getElem?_eq_some_iff.1 h).1
    simp only [Ctx.made,List.length_append,List.length_singleton] at hlt
    simp only [Ctx.made] at h
    rw [List.getElem?_append_left (by omega)] at h
    exact h
   have hv:=hI.obj id o' hH
   have e:(c.made w' o).mu id=c.mu id:=by simp [Ctx.made,hid]
   rw [e]
   cases o' with
   | fam foc is n wd vs ls=>exact RL hv (fun _ _=>Zdv hI hm) fun j b e=>hm.below.block b (hI.fb hH e).1
   | box cells =>
    obtain ⟨b,cs',T',hb,h1,h2⟩:=hv
    exact ⟨b,cs',T',hb,by show w'.heap[b]? = _; rw [hm.below.block b (hI.loc id b hb).2.1]; exact h1,h2.mono fun _ _=>Zdw hI hm o⟩
   | arr wd n f =>
    refine ⟨hv.1,hv.2.imp (fun x=>x) ?_⟩
    rintro ⟨b,cs',T',hb,h1,h2,h3⟩
    exact ⟨b,cs',T',hb,by show w'.heap[b]? = _; rw [hm.below.block b (hI.loc id b hb).2.1]; exact h1,h2,fun i hi j d hd=>let ⟨v,hv,ho,hp⟩:=h3 i hi j d hd; ⟨v,hv,ho,Zdv hI hm hp⟩⟩
   | mp u es =>
    obtain ⟨b,arr,ck,hb,h1,h2⟩:=hv
    exact ⟨b,arr,ck,hb,by show w'.heap[b]? = _; rw [hm.below.block b (hI.loc id b hb).2.1]; exact h1,h2⟩
   | gone=>exact hv
 ·simp only [Ctx.made,List.length_append,List.length_singleton] at hid ⊢
  rw [if_neg (by omega)]
  exact hI.dom id (by omega)
end
def Ctx.put (c:Ctx) (id:Nat) (o:Ob) (b:Nat) (cs:Array Value):Ctx:={ c with H:=c.H.set id o,w:=c.w.setRow b cs }
def Ob.same:Ob→Ob→Prop
 | .box _,.box _=>True
 | .arr wd n _,.arr wd' n' _=>wd=wd'∧n=n'
 | _,_=>False
theorem ZjV {o o':Ob} (h:o.same o') (j:Nat):fblk o' j=none:=by
 cases o <;> cases o' <;> first | rfl | exact absurd h id
section
variable {F:Fr} {c:Ctx} {id b:Nat} {o o':Ob} {old cs:Array Value} {T:TypeId}
theorem Zbo (hI:Inv F c) (hb:c.mu id=some b) {v:Value} {d:D} (h:PV c.I c.w v d):PV c.I (c.w.setRow b cs) v d :=
 h.mono (fun _ h=>h) fun k hk=>setRow_other c.w b k cs fun e=>(hI.loc id b hb).2.2 (by rw [← e]; exact hk)
theorem ZkI (hh:c.w.heap[b]? = some (.cells old T (0,0))) (hs:cs.size=old.size) {k n:Nat} (h:Room c.w k n):Room (c.w.setRow b cs) k n:=by
 obtain ⟨cs',T',h1,h2⟩:=h
 by_cases e:k=b
 ·subst e
  rw [hh] at h1
  cases h1
  exact ⟨cs,T,setRow_heap _ _ _ _ _ _ hh,by omega⟩
 ·exact ⟨cs',T',by rw [setRow_other _ _ _ _ e]; exact h1,h2⟩
theorem ZkJ (ho:c.H[id]? = some o) {i:Nat} {o2:Ob} (h:c.H[i]? = some o2) (hs:o.same o'):∃ o3,(c.H.set id o')[i]? = some o3∧(i ≠ id→o3=o2)∧((∃ cells,o2 = .box cells)→∃ cells,o3 = .box cells)∧(∀ wd n f,o2 = .arr wd n f→∃ f',o3 = .arr wd n f'):=by
 by_cases e:i=id
 ·subst e
  rw [ho] at h
  cases h
  refine ⟨o',by rw [List.getElem?_set_self (List.getElem?_eq_some_iff.1 ho).1],fun h=>absurd rfl h,?_,?_⟩
  ·rintro ⟨cells,rfl⟩
   cases o' <;> simp only [Ob.same] at hs
   exact ⟨_,rfl⟩
  ·rintro wd n f rfl
   cases o' <;> simp only [Ob.same] at hs
   obtain ⟨rfl,rfl⟩:=hs
   exact ⟨_,rfl⟩
 ·exact ⟨o2,by rw [List.getElem?_set_ne (Ne.symm e)]; exact h,fun _=>rfl,fun h=>h,fun wd n f h=>⟨f,h⟩⟩
theorem ZfB (hI:Inv F c) (ho:c.H[id]? = some o) (hs:o.same o') (hb:c.mu id=some b) (hh:c.w.heap[b]? = some (.cells old T (0,0))) (hsz:cs.size=old.size)
  {v:Value} {d:D} (h:CV c v d):CV (c.put id o' b cs) v d:=by
 cases d <;> simp only [CV] at h ⊢ <;> try exact Zbo hI hb h
 ·exact h
 ·obtain ⟨b',wd,n,f,hb',hH,hi,hv⟩:=h
  obtain ⟨o3,h3,_,_,h4⟩:=ZkJ (o':=o') ho hH hs
  obtain ⟨f',rfl⟩:=h4 _ _ _ rfl
  exact ⟨b',wd,n,f',hb',h3,hi,hv⟩
 ·obtain ⟨wd,n,f,a,cap,hH,h2,h3,h4,h5⟩:=h
  obtain ⟨o3,h6,_,_,h7⟩:=ZkJ (o':=o') ho hH hs
  obtain ⟨f',rfl⟩:=h7 _ _ _ rfl
  refine ⟨wd,n,f',a,cap,h6,h2,h3,h4,h5.imp (fun x=>x) ?_⟩
  rintro ⟨b',hb',ha,hr⟩
  exact ⟨b',hb',ha,ZkI hh hsz hr⟩
theorem ZkK (hI:Inv F c) (ho:c.H[id]? = some o) (hs:o.same o') (hb:c.mu id=some b) (hh:c.w.heap[b]? = some (.cells old T (0,0))) (hsz:cs.size=old.size)
  {v:Value} {d:D} (h:AV c v d):AV (c.put id o' b cs) v d:=by
 cases d <;> simp only [AV] at h ⊢ <;> try exact ZfB hI ho hs hb hh hsz h
 ·obtain ⟨vs,h1,h2⟩:=h; exact ⟨vs,h1,h2.mono fun _ _=>ZfB hI ho hs hb hh hsz⟩
 ·obtain ⟨vs,h1,h2⟩:=h; exact ⟨vs,h1,h2.mono fun _ _=>ZfB hI ho hs hb hh hsz⟩
theorem ZiM (hI:Inv F c) (ho:c.H[id]? = some o) (hs:o.same o') (hb:c.mu id=some b) (hh:c.w.heap[b]? = some (.cells old T (0,0))) (hsz:cs.size=old.size)
  {v:Value} {d:D} (h:TV c v d):TV (c.put id o' b cs) v d:=by
 cases d <;> simp only [TV] at h ⊢ <;> try exact ZkK hI ho hs hb hh hsz h
 obtain ⟨vs,h1,h2⟩:=h; exact ⟨vs,h1,h2.mono fun _ _=>ZkK hI ho hs hb hh hsz⟩
theorem Zg5 (hI:Inv F c) (ho:c.H[id]? = some o) (hs:o.same o') (hb:c.mu id=some b) (hh:c.w.heap[b]? = some (.cells old T (0,0))) (hsz:cs.size=old.size)
  (hov:OV (c.put id o' b cs) (some b) o'):Inv F (c.put id o' b cs):=by
 refine ⟨?_,fun k hk=>⟨by simpa [Ctx.put] using (hI.imm k hk).1,(hI.imm k hk).2⟩,fun i k hk=>?_,hI.inj,fun i o2 h=>?_,fun i hi=>hI.dom i (by simpa [Ctx.put] using hi),hI.lent,fun hl=>?_,hI.fam.mono (fun i o2 j k h1 h2=>Gg (fun _=>ZjV hs _) h1 h2) (by simp [Ctx.put]) (fun b _ h=>.inl h) fun i b h=>.inl ⟨i,h⟩⟩
 rotate_left 3
 ·have h1:=hI.mark hl
  have hne:F.L.length ≠ id:=fun e=>by rw [e,ho] at h1; cases h1; cases o' <;> exact hs
  show (c.H.set id o')[F.L.length]? = _
  rw [List.getElem?_set_ne (Ne.symm hne)]
  exact h1
 ·refine ⟨hI.below.os,hI.below.tape,hI.below.output,hI.below.drawn,by simpa [Ctx.put] using hI.below.size,fun k hk hl=>?_,fun k hl=>?_⟩
  ·have hne:k ≠ b:=fun e=>by
    subst e
    rcases (hI.loc id k hb).1 with h | h
    ·omega
    ·exact hl h
   show (c.w.setRow b cs).heap[k]? = _
   rw [setRow_other _ _ _ _ hne]
   exact hI.below.block k hk hl
  ·obtain ⟨cs0,cs1,T1,h1,h2,h3⟩:=hI.below.shape k hl
   show ∃ cs0 cs' T',F.w0.heap[k]? = some (.cells cs0 T' (0,0))∧(c.w.setRow b cs).heap[k]? = some (.cells cs' T' (0,0))∧cs'.size=cs0.size
   by_cases e:k=b
   ·subst e
    rw [hh] at h2
    cases h2
    exact ⟨cs0,cs,T,h1,setRow_heap _ _ _ _ _ _ hh,by omega⟩
   ·exact ⟨cs0,cs1,T1,h1,by rw [setRow_other _ _ _ _ e]; exact h2,h3⟩
 ·obtain ⟨h1,h2,h3⟩:=hI.loc i k hk
  exact ⟨h1,by simpa [Ctx.put] using h2,h3⟩
 ·by_cases e:i=id
  ·subst e
   have:o2=o':=by
    simp only [Ctx.put] at h
    rw [List.getElem?_set_self (List.getElem?_eq_some_iff.1 ho).1] at h
    cases h; rfl
   subst this
   have e2:(c.put i o2 b cs).mu i=some b:=hb
   rw [e2]
   exact hov
  ·have hH:c.H[i]? = some o2:=by simp only [Ctx.put] at h; rw [List.getElem?_set_ne (Ne.symm e)] at h; exact h
   have hv:=hI.obj i o2 hH
   have hne:∀ k,c.mu i=some k→k ≠ b:=fun k hk hkb=>e (hI.inj i id b (hkb ▸ hk) hb)
   show OV (c.put id o' b cs) (c.mu i) o2
   cases o2 with
   | fam foc is n wd vs ls=>exact RL hv (fun _ _=>Zbo hI hb) fun j k e=>setRow_other _ _ _ _ fun h=>(hI.fb hH e).2 id (by rw [h]; exact hb)
   | box cells =>
    obtain ⟨k,cs',T',hk,h1,h2⟩:=hv
    exact ⟨k,cs',T',hk,by show (c.w.setRow b cs).heap[k]? = _; rw [setRow_other _ _ _ _ (hne k hk)]; exact h1,h2.mono fun _ _=>ZfB hI ho hs hb hh hsz⟩
   | arr wd n f =>
    refine ⟨hv.1,hv.2.imp (fun x=>x) ?_⟩
    rintro ⟨k,cs',T',hk,h1,h2,h3⟩
    exact ⟨k,cs',T',hk,by show (c.w.setRow b cs).heap[k]? = _; rw [setRow_other _ _ _ _ (hne k hk)]; exact h1,h2,fun i hi j d hd=>let ⟨v,hv,ho,hp⟩:=h3 i hi j d hd; ⟨v,hv,ho,Zbo hI hb hp⟩⟩
   | mp u es =>
    obtain ⟨k,arr,ck,hk,h1,h2⟩:=hv
    exact ⟨k,arr,ck,hk,by show (c.w.setRow b cs).heap[k]? = _; rw [setRow_other _ _ _ _ (hne k hk)]; exact h1,h2⟩
   | gone=>exact hv
end
end Nv
namespace Nv
open Go Go.RowKit
def mc (id:Nat):D→Bool
 | .asl i _ _ | .eref i _ _ | .ref i _=>Nat.beq i id
 | _=>false
def ma (id:Nat):D→Bool
 | .agg cs=>cs.any (mc id)
 | .fn _ cap=>cap.any (mc id)
 | d=>mc id d
def mt (id:Nat):D→Bool
 | .tup ds=>ds.any (ma id)
 | .opt _ _ _=>true
 | d=>ma id d
def purge (pid:Option Nat) (d:D):D :=
 match pid with
 | none=>d
 | some id=>bif mt id d then .any else d
def Turns (P:Program) (F:Fr) (c:Ctx) (s:Sem Next) (d:D) (H':List Ob) (pid:Option Nat):Prop :=
 ∃ v c',(s.run P c.w = .ok (.value v) c'.w∨(s.run P c.w = .ok .skip c'.w∧v=undef))∧Inv F c'∧c'.H=H'∧(∀ u e,TV c u e→TV c' u (purge pid e))∧TV c' v d
def allocD (P:Program) (H:List Ob) (t:TypeId):Option (D × List Ob) :=
 match zeroD P t with
 | some cs=>some (.ref H.length 0,H++[.box cs])
 | none=>none
def boxD (H:List Ob) (x:D):Option (D × List Ob) :=
 match cellsOfD x with
 | some cs=>some (.ref H.length 0,H++[.box cs])
 | none=>none
theorem newbox {P:Program} {F:Fr} {c:Ctx} (hI:Inv F c) {t:TypeId} {z:Value} {cs:List D} (hz:Vs (CV c) z.cells cs) {s:Sem Next}
  (hs:s.run P c.w = .ok (.value (.pointer (some ⟨c.w.heap.size,0,none⟩))) (c.w.alloc (.cells z.cells t))):Turns P F c s (.ref c.H.length 0) (c.H++[.box cs]) none:=by
 have hm:=ZfA c.w z.cells t
 refine ⟨_,c.made _ (.box cs),.inl hs,Zbn hI hm.toMore0 _ ⟨_,_,_,rfl,hm.new,hz.mono fun _ _=>Zdw hI hm.toMore0 _⟩,rfl,fun u e h=>Zdx hI hm.toMore0 _ h,?_⟩
 simp only [TV,AV,CV]
 exact ⟨c.w.heap.size,by simp [Ctx.made],rfl⟩
theorem ZjW {P:Program} {F:Fr} {c:Ctx} (hI:Inv F c) {t:TypeId} {d:D} {H':List Ob} (h:allocD P c.H t=some (d,H')) :
  Turns P F c (do pure (.value (← Instr.alloc t true (.tuple #[])))) d H' none:=by
 unfold allocD at h
 split at h <;> try cases h
 rename_i cs hz
 obtain ⟨z,hz1,hz2⟩:=KX hz c
 exact newbox (t:=t) hI hz2 (by simp [Instr.alloc,hz1,newVar,newRow])
theorem Zl7 {P:Program} {F:Fr} {c:Ctx} (hI:Inv F c) {t:TypeId} {x d:D} {H':List Ob} (h:boxD c.H x=some (d,H')) {v:Value} (hv:TV c v x) :
  Turns P F c (do pure (.value (← Instr.box t v))) d H' none:=by
 unfold boxD at h
 split at h <;> try cases h
 rename_i cs hx
 exact newbox (t:=t) hI (Zbl hx hv) (by simp [Instr.box,newVar,newRow])
def splice (cells cs:List D) (off:Nat):List D:=cells.take off++(cs++cells.drop (off+cs.length))
def storeD (P:Program) (H:List Ob) (t:TypeId) (a x:D):Option (List Ob) :=
 match szO P t,cellsOfD x with
 | some k,some cs =>
  bif Nat.beq cs.length k&&cs.all cellB then
   match a with
   | .ref id off=>match H[id]? with
    | some (.box cells)=>bif Nat.ble (off+k) cells.length then some (H.set id (.box (splice cells cs off))) else none
    | _=>none
   | .eref id i off=>match H[id]? with
    | some (.arr wd n f)=>bif Nat.ble (off+k) wd&&cs.all persB then some (H.set id (.arr wd n fun j=>bif Nat.beq j i then splice (f i) cs off else f j)) else none
    | _=>none
   | _=>none
  else none
 | _,_=>none
theorem Zc0 {cells cs:List D} {off:Nat} (h:off+cs.length≤cells.length):(splice cells cs off).length=cells.length:=by
 simp [splice]; omega
def splV (old:Array Value) (vs:List Value) (off:Nat):Array Value:=(old.toList.take off++vs++old.toList.drop (off+vs.length)).toArray
theorem GU {old:Array Value} {vs:List Value} {off:Nat} (h:off+vs.length≤old.size):(splV old vs off).size=old.size:=by
 simp [splV]; omega
theorem Zbp {old:Array Value} {vs:List Value} {off:Nat} (h:off+vs.length≤old.size) (i:Nat) :
  (splV old vs off)[i]? = if off≤i∧i < off+vs.length then vs[i - off]? else old[i]? := by
 simp only [splV,List.getElem?_toArray]
 have hl:(old.toList.take off).length=off:=by simp; omega
 by_cases h1:i < off
 ·rw [if_neg (by omega),List.append_assoc,List.getElem?_append_left (by omega),List.getElem?_take_of_lt h1]
  simp
 ·by_cases h2:i < off+vs.length
  ·rw [if_pos (by omega),List.append_assoc,List.getElem?_append_right (by omega),hl,List.getElem?_append_left (by omega)]
  ·rw [if_neg (by omega),List.getElem?_append_right (by simp; omega)]
   simp only [List.length_append,hl,List.getElem?_drop]
   rw [show off+vs.length+(i - (off+vs.length))=i by omega]
   simp
theorem ZfC {cells cs:List D} {off:Nat} (h:off+cs.length≤cells.length) (i:Nat) :
  (splice cells cs off)[i]? = if off≤i∧i < off+cs.length then cs[i - off]? else cells[i]? := by
 unfold splice
 have hl:(cells.take off).length=off:=by simp; omega
 by_cases h1:i < off
 ·rw [if_neg (by omega),List.getElem?_append_left (by omega),List.getElem?_take_of_lt h1]
 ·by_cases h2:i < off+cs.length
  ·rw [if_pos (by omega),List.getElem?_append_right (by omega),hl,List.getElem?_append_left (by omega)]
  ·rw [if_neg (by omega),List.getElem?_append_right (by omega),hl,List.getElem?_append_right (by omega),List.getElem?_drop]
   congr 1
   omega
theorem ZjX {P:Program} {F:Fr} {c:Ctx} (hI:Inv F c) {t:TypeId} {a x:D} {H':List Ob} (h:storeD P c.H t a x=some H') {va vx:Value} (ha:TV c va a) (hx:TV c vx x) :
  Turns P F c (do Instr.storeAt t va vx; pure .skip) .any H' none:=by
 unfold storeD at h
 split at h <;> try cases h
 rename_i k cs hk hcs
 cases hc:(Nat.beq cs.length k&&cs.all cellB) with
 | false=>rw [hc] at h; cases h
 | true =>
  simp only [hc,cond_true] at h
  simp only [Bool.and_eq_true,List.all_eq_true] at hc
  obtain ⟨hck0,hcell⟩:=hc
  obtain rfl:=Nat.eq_of_beq_eq_true hck0
  have hu:=Zbl hcs hx
  have hsz:vx.cells.size=cs.length:=hu.1
  have hone:∀ v∈vx.cells.toList,v.oneCell'=true:=by
   intro v hv
   obtain ⟨i,hi,rfl⟩:=List.getElem_of_mem hv
   have hi':i < cs.length:=by simpa [hsz] using hi
   exact Zbm (hcell _ (List.getElem_mem hi')) (hu.2 i _ _ (by simp at hi; simp [hi]) (by simp [hi']))
  split at h
  ·rename_i id off
   split at h <;> try cases h
   rename_i cells ho
   cases hb:Nat.ble (off+cs.length) cells.length with
   | false=>simp [hb] at h
   | true =>
    simp only [hb,cond_true,Option.some.injEq] at h
    subst h
    have hle:=Nat.le_of_ble_eq_true hb
    simp only [TV,AV,CV] at ha
    obtain ⟨b,hmu,rfl⟩:=ha
    obtain ⟨b',old,T,hb',hh,hvs⟩:=hI.obj id _ ho
    rw [hmu] at hb'
    cases hb'
    have hfit:off+vx.cells.toList.length≤old.size:=by simp [hsz,hvs.1]; omega
    have hrow:=run_storeCells_at (P:=P) b off T vx.cells.toList 0 old c.w hh (by simpa using hfit) hone
    have hsame:Ob.same (.box cells) (.box (splice cells cs off)):=trivial
    have hssz:=GU hfit
    refine ⟨undef,c.put id (.box (splice cells cs off)) b (splV old vx.cells.toList off),.inr ⟨?_,rfl⟩,?_,rfl,fun u e hu=>ZiM hI ho hsame hmu hh hssz hu,WS⟩
    ·have hck:¬ vx.cells.size ≠ cs.length:=by simp [hsz]
     simp only [Instr.storeAt,Instr.sureAddr,storeVar,Sem.run_bind,Sem.run_pure,Result.andThen_ok,Ur hk,hrow,Nat.add_zero,if_neg hck]
     rfl
    ·refine Zg5 hI ho hsame hmu hh hssz ⟨b,_,T,rfl,setRow_heap _ _ _ _ _ _ hh,by rw [hssz,hvs.1,Zc0 hle],fun i v d h1 h2=>?_⟩
     apply ZfB hI ho hsame hmu hh hssz
     rw [Zbp hfit] at h1
     rw [ZfC hle] at h2
     simp only [Array.length_toList,hsz] at h1
     split at h1
     ·rename_i hin
      rw [if_pos hin] at h2
      exact hu.2 _ v d (by simpa using h1) h2
     ·rename_i hin
      rw [if_neg hin] at h2
      exact hvs.2 i v d h1 h2
  ·rename_i id i off
   split at h <;> try cases h
   rename_i wd n f ho
   cases hb:(Nat.ble (off+cs.length) wd&&cs.all persB) with
   | false=>rw [hb] at h; cases h
   | true =>
    simp only [hb,cond_true,Option.some.injEq] at h
    subst h
    simp only [Bool.and_eq_true,List.all_eq_true] at hb
    obtain ⟨hb1,hpers⟩:=hb
    have hle:=Nat.le_of_ble_eq_true hb1
    simp only [TV,AV,CV] at ha
    obtain ⟨b,wd',n',f',hmu,ho',hi,rfl⟩:=ha
    rw [ho] at ho'
    cases ho'
    obtain ⟨hw,hor⟩:=hI.obj id _ ho
    rcases hor with ⟨h0,_⟩ | ⟨b',old,T,hb',hh,hn,hvs⟩
    ·rw [hmu] at h0; cases h0
    rw [hmu] at hb'
    cases hb'
    have hbound:i*wd+wd≤n*wd:=by
     have:=Nat.mul_le_mul_right wd hi
     rw [Nat.succ_mul] at this
     exact this
    have hfit:i*wd+off+vx.cells.toList.length≤old.size:=by simp [hsz]; omega
    have hrow:=run_storeCells_at (P:=P) b (i*wd+off) T vx.cells.toList 0 old c.w hh (by simpa using hfit) hone
    have hle':off+cs.length≤(f i).length:=by rw [hw i hi]; exact hle
    have hsame:Ob.same (.arr wd n f) (.arr wd n fun j=>bif Nat.beq j i then splice (f i) cs off else f j):=⟨rfl,rfl⟩
    have hssz:=GU hfit
    refine ⟨undef,c.put id _ b (splV old vx.cells.toList (i*wd+off)),.inr ⟨?_,rfl⟩,?_,rfl,fun u e hu=>ZiM hI ho hsame hmu hh hssz hu,WS⟩
    ·have hck:¬ vx.cells.size ≠ cs.length:=by simp [hsz]
     simp only [Instr.storeAt,Instr.sureAddr,storeVar,Sem.run_bind,Sem.run_pure,Result.andThen_ok,Ur hk,hrow,Nat.add_zero,if_neg hck]
     rfl
    ·refine Zg5 hI ho hsame hmu hh hssz ⟨fun j hj=>?_,.inr ⟨b,_,T,rfl,setRow_heap _ _ _ _ _ _ hh,by rw [hssz]; exact hn,fun j hj q d hd=>?_⟩⟩
     ·cases hji:Nat.beq j i with
      | true=>simp only [hji,cond_true,Zc0 hle']; exact hw i hi
      | false=>simp only [hji,cond_false]; exact hw j hj
     ·have hq:q < wd:=by
       have hlt:=(List.getElem?_eq_some_iff.1 hd).1
       cases hji:Nat.beq j i with
       | true=>simp only [hji,cond_true,Zc0 hle',hw i hi] at hlt; exact hlt
       | false=>simp only [hji,cond_false,hw j hj] at hlt; exact hlt
      have hjb:j*wd+wd≤n*wd:=by
       have:=Nat.mul_le_mul_right wd hj
       rw [Nat.succ_mul] at this
       exact this
      show ∃ v,(splV old vx.cells.toList (i*wd+off))[j*wd+q]? = some v∧v.oneCell'=true∧PV c.I (c.w.setRow b _) v d
      rw [Zbp hfit]
      simp only [Array.length_toList,hsz]
      cases hji:Nat.beq j i with
      | true =>
       obtain rfl:=Nat.eq_of_beq_eq_true hji
       simp only [hji,cond_true,ZfC hle'] at hd
       by_cases hin:off≤q∧q < off+cs.length
       ·rw [if_pos hin] at hd
        rw [if_pos (by omega)]
        have hlt:q - off < vx.cells.size:=by rw [hsz]; omega
        have hcv:=hu.2 (q - off) vx.cells[q - off] d (by simp [hlt]) hd
        have hmem:d∈cs:=List.mem_of_getElem? hd
        refine ⟨vx.cells[q - off],?_,Zbm (hcell d hmem) hcv,Zbo hI hmu (Kt (hpers d hmem) hcv)⟩
        rw [show j*wd+q - (j*wd+off)=q - off by omega]
        simp [hlt]
       ·rw [if_neg hin] at hd
        rw [if_neg (by omega)]
        obtain ⟨v,h1,h2,h3⟩:=hvs j hi q d hd
        exact ⟨v,h1,h2,Zbo hI hmu h3⟩
      | false =>
       simp only [hji,cond_false] at hd
       have hne:j ≠ i:=Nat.ne_of_beq_eq_false hji
       have hout:¬ (i*wd+off≤j*wd+q∧j*wd+q < i*wd+off+cs.length):=by
        rintro ⟨h1,h2⟩
        rcases Nat.lt_or_gt_of_ne hne with h3 | h3
        ·have:=Nat.mul_le_mul_right wd h3; rw [Nat.succ_mul] at this; omega
        ·have:=Nat.mul_le_mul_right wd h3; rw [Nat.succ_mul] at this; omega
       rw [if_neg hout]
       obtain ⟨v,h1,h2,h3⟩:=hvs j hj q d hd
       exact ⟨v,h1,h2,Zbo hI hmu h3⟩
  ·cases h
end Nv
namespace Nv
open Go Go.RowKit
def Ctx.made0 (c:Ctx) (o:Ob):Ctx:={ c with H:=c.H++[o] }
section
variable {F:Fr} {c:Ctx}
theorem Zfh (o o':Ob) {id:Nat} (h:c.H[id]? = some o'):(c.made0 o).H[id]? = some o':=by
 have:=(List.getElem?_eq_some_iff.1 h).1
 simp only [Ctx.made0]
 rw [List.getElem?_append_left this]
 exact h
theorem Zbq (o:Ob) {v:Value} {d:D} (h:CV c v d):CV (c.made0 o) v d:=by
 cases d <;> simp only [CV] at h ⊢ <;> try exact h
 ·obtain ⟨b,wd,n,f,hb,hH,hi,hv⟩:=h; exact ⟨b,wd,n,f,hb,Zfh o _ hH,hi,hv⟩
 ·obtain ⟨wd,n,f,a,cap,hH,h2⟩:=h
  exact ⟨wd,n,f,a,cap,Zfh o _ hH,h2⟩
theorem ZhU (o:Ob) {v:Value} {d:D} (h:AV c v d):AV (c.made0 o) v d:=by
 cases d <;> simp only [AV] at h ⊢ <;> try exact Zbq o h
 ·obtain ⟨vs,h1,h2⟩:=h; exact ⟨vs,h1,h2.mono fun _ _=>Zbq o⟩
 ·obtain ⟨vs,h1,h2⟩:=h; exact ⟨vs,h1,h2.mono fun _ _=>Zbq o⟩
theorem Zbr (o:Ob) {v:Value} {d:D} (h:TV c v d):TV (c.made0 o) v d:=by
 cases d <;> simp only [TV] at h ⊢ <;> try exact ZhU o h
 obtain ⟨vs,h1,h2⟩:=h; exact ⟨vs,h1,h2.mono fun _ _=>ZhU o⟩
theorem Zcc (hI:Inv F c) (wd:Nat) (f:Nat→List D):Inv F (c.made0 (.arr wd 0 f)):=by
 refine ⟨hI.below,hI.imm,hI.loc,hI.inj,fun id o' h=>?_,fun id hid=>hI.dom id (by simp [Ctx.made0] at hid; omega),hI.lent,fun hl=>Zfh _ _ (hI.mark hl),hI.fam.mono (fun id o' j b h1 h2=>KV (fun _=>rfl) h1 h2) (Nat.le_refl _) (fun b _ h=>.inl h) fun i b h=>.inl ⟨i,h⟩⟩
 by_cases hid:id=c.H.length
 ·subst hid
  have:o' = .arr wd 0 f:=by simp [Ctx.made0] at h; exact h.symm
  subst this
  exact ⟨fun i hi=>by omega,.inl ⟨hI.dom _ (Nat.le_refl _),rfl⟩⟩
 ·have hH:c.H[id]? = some o':=by
   have hlt:=(List.getElem?_eq_some_iff.1 h).1
   simp only [Ctx.made0,List.length_append,List.length_singleton] at hlt
   simp only [Ctx.made0] at h
   rw [List.getElem?_append_left (by omega)] at h
   exact h
  have hv:=hI.obj id o' hH
  cases o' with
  | fam foc is n wd vs ls=>exact RL hv (fun _ _ h=>h) fun _ _ _=>rfl
  | box cells=>obtain ⟨b,cs',T',hb,h1,h2⟩:=hv; exact ⟨b,cs',T',hb,h1,h2.mono fun _ _=>Zbq _⟩
  | arr wd n f=>exact hv
  | mp _ _=>exact hv
  | gone=>exact hv
end
def purgeO (id:Nat):Ob→Ob
 | .box cells=>.box (cells.map fun d=>bif mc id d then .any else d)
 | o=>o
def Ctx.redo (c:Ctx) (id:Nat) (o:Ob) (nb:Option Nat) (w':World):Ctx :=
 { I:=c.I,mu:=fun i=>if i=id then nb else c.mu i,H:=(c.H.set id o).map (purgeO id),w:=w' }
structure Redo (c:Ctx) (id:Nat) (nb:Option Nat) (w':World):Prop where
 os:w'.os=c.w.os
 tape:w'.tape=c.w.tape
 output:w'.output=c.w.output
 drawn:c.w.drawn≤w'.drawn
 size:c.w.heap.size≤w'.heap.size
 blk:∀ k,k < c.w.heap.size→c.mu id ≠ some k→w'.heap[k]? = c.w.heap[k]?
 nb:∀ b,nb=some b→b < w'.heap.size∧(c.mu id=some b∨c.w.heap.size≤b)
section
variable {F:Fr} {c:Ctx} {id:Nat} {nb:Option Nat} {w':World} {o:Ob}
theorem KJ (hI:Inv F c) (hr:Redo c id nb w') {v:Value} {d:D} (h:PV c.I c.w v d):PV c.I w' v d :=
 h.mono (fun _ h=>h) fun b hb=>hr.blk b (hI.imm b hb).1 fun e=>(hI.loc id b e).2.2 hb
theorem Zg6 {i:Nat} (hne:i ≠ id) {o2:Ob} (h:c.H[i]? = some o2):(c.redo id o nb w').H[i]? = some (purgeO id o2):=by
 simp only [Ctx.redo,List.getElem?_map,List.getElem?_set_ne (Ne.symm hne),h,Option.map_some]
theorem Zfi (hI:Inv F c) (hr:Redo c id nb w') {v:Value} {d:D} (h:CV c v d) (hm:mc id d=false):CV (c.redo id o nb w') v d:=by
 cases d <;> simp only [CV] at h ⊢ <;> try exact KJ hI hr h
 ·rename_i i off
  have hne:i ≠ id:=Nat.ne_of_beq_eq_false hm
  obtain ⟨b,hb,hv⟩:=h
  exact ⟨b,by simp [Ctx.redo,hne,hb],hv⟩
 ·rename_i i j off
  have hne:i ≠ id:=Nat.ne_of_beq_eq_false hm
  obtain ⟨b,wd,n,f,hb,hH,hi,hv⟩:=h
  exact ⟨b,wd,n,f,by simp [Ctx.redo,hne,hb],Zg6 hne hH,hi,hv⟩
 ·rename_i i off len
  have hne:i ≠ id:=Nat.ne_of_beq_eq_false hm
  obtain ⟨wd,n,f,a,cap,hH,h2,h3,h4,h5⟩:=h
  refine ⟨wd,n,f,a,cap,Zg6 hne hH,h2,h3,h4,h5.imp (fun x=>x) ?_⟩
  rintro ⟨b,hb,ha,cs,T,hh,hs⟩
  exact ⟨b,by simp [Ctx.redo,hne,hb],ha,cs,T,by
   show w'.heap[b]? = _
   rw [hr.blk b (hI.loc i b hb).2.1 fun e=>hne (hI.inj i id b hb e)]
   exact hh,hs⟩
theorem RY {R R':Value→D→Prop} {q:D→Bool} {vs:Array Value} {ds:List D} (h:∀ v d,R v d→q d=false→R' v d) (k:Vs R vs ds) (hq:ds.any q=false):Vs R' vs ds :=
 ⟨k.1,fun i v d h1 h2=>h v d (k.2 i v d h1 h2) (by
  have:=List.any_eq_false.1 hq d (List.mem_of_getElem? h2)
  simpa using this)⟩
theorem Zjl (hI:Inv F c) (hr:Redo c id nb w') {v:Value} {d:D} (h:AV c v d) (hm:ma id d=false):AV (c.redo id o nb w') v d:=by
 cases d <;> simp only [AV] at h ⊢ <;> try exact Zfi hI hr h hm
 ·obtain ⟨vs,h1,h2⟩:=h; exact ⟨vs,h1,RY (fun v d h hq=>Zfi hI hr h hq) h2 hm⟩
 ·obtain ⟨vs,h1,h2⟩:=h; exact ⟨vs,h1,RY (fun v d h hq=>Zfi hI hr h hq) h2 hm⟩
theorem Rw (hI:Inv F c) (hr:Redo c id nb w') {v:Value} {d:D} (h:TV c v d):TV (c.redo id o nb w') v (purge (some id) d):=by
 simp only [purge]
 cases hm:mt id d with
 | true=>exact WS
 | false =>
  simp only [cond_false]
  cases d <;> simp only [TV] at h ⊢ <;> first | exact Zjl hI hr h hm | skip
  ·obtain ⟨vs,h1,h2⟩:=h; exact ⟨vs,h1,RY (fun v d h hq=>Zjl hI hr h hq) h2 hm⟩
  ·cases hm
def freeB (H:List Ob) (id:Nat):Bool:=(H.drop (id+1)).all fun o=>match o with | .gone=>false | _=>true
theorem Zbs (hI:Inv F c) {id:Nat} {o:Ob} (ho:c.H[id]? = some o) (hg:o ≠ .gone) (h:freeB c.H id=true):F.L=[]∨F.L.length < id:=by
 by_cases hl:F.L=[]
 ·exact .inl hl
 ·right
  have h1:=hI.mark hl
  rcases Nat.lt_trichotomy F.L.length id with h2 | h2 | h2
  ·exact h2
  ·rw [h2,ho] at h1; cases h1; exact absurd rfl hg
  ·have h3:(c.H.drop (id+1))[F.L.length - (id+1)]? = some .gone:=by rw [List.getElem?_drop]; rw [show id+1+(F.L.length - (id+1))=F.L.length by omega]; exact h1
   have:=List.all_eq_true.1 h _ (List.mem_of_getElem? h3)
   cases this
theorem ZhV (id:Nat) (o:Ob) (j:Nat):fblk (purgeO id o) j=fblk o j:=by cases o <;> rfl
theorem RZ {wd n:Nat} {f:Nat→List D} {i:Nat} {o2:Ob} {j b:Nat} (h:(c.redo id (.arr wd n f) nb w').H[i]? = some o2) (hb:fblk o2 j=some b):∃ o1,c.H[i]? = some o1∧fblk o1 j=some b:=by
 simp only [Ctx.redo,List.getElem?_map] at h
 obtain ⟨o3,h1,rfl⟩:=Option.map_eq_some_iff.1 h
 rw [ZhV] at hb
 exact Gg (fun _=>rfl) h1 hb
theorem G4 (hI:Inv F c) (hown:F.L=[]∨F.L.length < id) (hr:Redo c id nb w') (hid:id < c.H.length) (wd n:Nat) (f:Nat→List D) (hov:OV (c.redo id (.arr wd n f) nb w') nb (.arr wd n f)):Inv F (c.redo id (.arr wd n f) nb w'):=by
 have hs:=hr.size
 have hs0:=hI.below.size
 have hnl:∀ k,c.mu id=some k→¬ F.lent k:=fun k hk hl=>by
  obtain ⟨i,hi⟩:=List.getElem?_of_mem hl
  have h1:=hI.lent i _ hi
  have h2:=hI.inj i id k h1 hk
  have h3:=(List.getElem?_eq_some_iff.1 hi).1
  rcases hown with h4 | h4
  ·rw [h4] at h3; simp at h3
  ·omega
 have hown':∀ k,c.mu id=some k→F.w0.heap.size≤k:=fun k hk=>((hI.loc id k hk).1).resolve_right (hnl k hk)
 have hlid:∀ (i:Nat) v,F.L[i]? = some v→i ≠ id:=fun i v hv e=>by
  have h3:=(List.getElem?_eq_some_iff.1 hv).1
  rcases hown with h4 | h4
  ·rw [h4] at h3; simp at h3
  ·omega
 refine ⟨⟨hr.os.trans hI.below.os,hr.tape.trans hI.below.tape,hr.output.trans hI.below.output,Nat.le_trans hI.below.drawn hr.drawn,Nat.le_trans hs0 hr.size,fun k hk hl=>(hr.blk k (by omega) fun e=>by have:=hown' k e; omega).trans (hI.below.block k hk hl),
  fun k hl=>let ⟨cs,cs',T,h1,h2,h3⟩:=hI.below.shape k hl; ⟨cs,cs',T,h1,(hr.blk k (hI.below.lt hl) fun e=>hnl k e hl).trans h2,h3⟩⟩,fun b hb=>⟨Nat.lt_of_lt_of_le (hI.imm b hb).1 hs,(hI.imm b hb).2⟩,fun i b hb=>?_,fun i j b h1 h2=>?_,fun i o2 h=>?_,fun i hi=>?_,fun i v hv=>?_,fun hl=>?_,hI.fam.mono (fun i o2 j b h1 h2=>RZ h1 h2) hr.size (fun b _ h=>.inl h) fun i b h=>?_⟩
 case refine_7 =>
  simp only [Ctx.redo] at h
  split at h
  ·exact (hr.nb b h).2.imp (fun h=>⟨id,h⟩) fun h=>h
  ·exact .inl ⟨i,h⟩
 rotate_left 4
 ·simp only [Ctx.redo]
  rw [if_neg (hlid i v hv)]
  exact hI.lent i v hv
 ·have h1:=hI.mark hl
  have hne:F.L.length ≠ id:=by
   rcases hown with h4 | h4
   ·exact absurd h4 hl
   ·omega
  rw [Zg6 hne h1]
  rfl
 ·simp only [Ctx.redo] at hb
  split at hb
  ·obtain ⟨h1,h2⟩:=hr.nb b hb
   rcases h2 with h2 | h2
   ·exact ⟨(hI.loc id b h2).1,h1,(hI.loc id b h2).2.2⟩
   ·exact ⟨.inl (by omega),h1,fun h=>by have:=(hI.imm b h).1; omega⟩
  ·obtain ⟨h1,h2,h3⟩:=hI.loc i b hb
   exact ⟨h1,Nat.lt_of_lt_of_le h2 hs,h3⟩
 ·simp only [Ctx.redo] at h1 h2
  have key:∀ i,i ≠ id→c.mu i=some b→nb=some b→False:=fun i hne h3 h4=>by
   rcases (hr.nb b h4).2 with h5 | h5
   ·exact hne (hI.inj i id b h3 h5)
   ·have:=(hI.loc i b h3).2.1; omega
  split at h1 <;> split at h2
  ·omega
  ·exact (key j (by assumption) h2 h1).elim
  ·exact (key i (by assumption) h1 h2).elim
  ·exact hI.inj i j b h1 h2
 ·by_cases e:i=id
  ·subst e
   have:o2 = .arr wd n f:=by
    simp only [Ctx.redo,List.getElem?_map,List.getElem?_set_self hid,Option.map_some,purgeO,Option.some.injEq] at h
    exact h.symm
   subst this
   have e2:(c.redo i (.arr wd n f) nb w').mu i=nb:=by simp [Ctx.redo]
   rw [e2]
   exact hov
  ·obtain ⟨o3,hH,rfl⟩:∃ o3,c.H[i]? = some o3∧purgeO id o3=o2:=by
    simp only [Ctx.redo,List.getElem?_map,List.getElem?_set_ne (Ne.symm e)] at h
    exact Option.map_eq_some_iff.1 h
   have hv:=hI.obj i o3 hH
   have e2:(c.redo id (.arr wd n f) nb w').mu i=c.mu i:=by simp [Ctx.redo,e]
   rw [e2]
   have hne:∀ k,c.mu i=some k→w'.heap[k]? = c.w.heap[k]? := fun k hk=>hr.blk k (hI.loc i k hk).2.1 fun h=>e (hI.inj i id k hk h)
   cases o3 with
   | fam foc is n wd vs ls=>exact RL hv (fun _ _=>KJ hI hr) fun j k e=>hr.blk k (hI.fb hH e).1 ((hI.fb hH e).2 id)
   | box cells =>
    obtain ⟨k,cs',T',hk,h1,h2⟩:=hv
    refine ⟨k,cs',T',hk,by show w'.heap[k]? = _; rw [hne k hk]; exact h1,by simp [h2.1],fun j v d h3 h4=>?_⟩
    rw [List.getElem?_map] at h4
    obtain ⟨d0,hd0,rfl⟩:=Option.map_eq_some_iff.1 h4
    cases hm:mc id d0 with
    | true=>simp only [cond_true,CV]; exact .any v
    | false=>simp only [cond_false]; exact Zfi hI hr (h2.2 j v d0 h3 hd0) hm
   | arr wd2 n2 f2 =>
    refine ⟨hv.1,hv.2.imp (fun x=>x) ?_⟩
    rintro ⟨k,cs',T',hk,h1,h2,h3⟩
    exact ⟨k,cs',T',hk,by show w'.heap[k]? = _; rw [hne k hk]; exact h1,h2,fun i hi j d hd=>let ⟨v,hv,ho,hp⟩:=h3 i hi j d hd; ⟨v,hv,ho,KJ hI hr hp⟩⟩
   | mp u es =>
    obtain ⟨k,arr,ck,hk,h1,h2⟩:=hv
    exact ⟨k,arr,ck,hk,by show w'.heap[k]? = _; rw [hne k hk]; exact h1,h2⟩
   | gone=>exact hv
 ·simp only [Ctx.redo,List.length_map,List.length_set] at hi ⊢
  rw [if_neg (by omega)]
  exact hI.dom i hi
end
def bytesO (P:Program) (t:TypeId):Option Nat:=(P.info? t).map (·.bytes)
def makeD (P:Program) (H:List Ob) (t:TypeId) (l c:D):Option (D × List Ob × List Bool) :=
 match P.underlying t,l,c with
 | some (.slice e),.int _ l,.int _ c=>match szO P e,zeroD P e,bytesO P e with
  | some sz,some zs,some by_=>bif Nat.beq zs.length sz&&zs.all (fun d=>persB d&&cellB d) then
    some (.asl H.length 0 l.toNat,H++[.arr sz l.toNat fun _=>zs],[decide (0≤l),decide (l≤c),decide (c.toNat*by_≤140737488355328),decide (c.toNat≤140737488355328)]) else none
  | _,_,_=>none
 | _,_,_=>none
theorem ZkL {P:Program} {F:Fr} {c:Ctx} (hI:Inv F c) {t:TypeId} {l k d:D} {H':List Ob} {bs:List Bool} (h:makeD P c.H t l k=some (d,H',bs)) (hb:∀ b∈bs,b=true)
  {vl vk:Value} (hl:TV c vl l) (hk:TV c vk k):Turns P F c (do pure (.value (← Instr.makeSlice t vl vk))) d H' none:=by
 unfold makeD at h
 split at h <;> try cases h
 rename_i e k1 ln k2 cp hu
 split at h <;> try cases h
 rename_i sz zs by_ hs hz hby
 cases hc:(Nat.beq zs.length sz&&zs.all fun d=>persB d&&cellB d) with
 | false=>rw [hc] at h; cases h
 | true =>
  simp only [hc,cond_true,Option.some.injEq,Prod.mk.injEq] at h
  obtain ⟨rfl,rfl,rfl⟩:=h
  simp only [Bool.and_eq_true,List.all_eq_true] at hc
  obtain ⟨hc0,hpc⟩:=hc
  have hzl:=Nat.eq_of_beq_eq_true hc0
  have b1:0≤ln:=by simpa using hb _ (List.mem_cons_self)
  have b2:ln≤cp:=by simpa using hb (decide (ln≤cp)) (by simp)
  have b3:cp.toNat*by_≤140737488355328:=by simpa using hb (decide (cp.toNat*by_≤140737488355328)) (by simp)
  have b4:cp.toNat≤140737488355328:=by simpa using hb (decide (cp.toNat≤140737488355328)) (by simp)
  obtain rfl:=hl.int_inv
  obtain rfl:=hk.int_inv
  obtain ⟨z,hz1,hz2⟩:=KX hz c
  have hzs:z.cells.size=sz:=by rw [hz2.1,hzl]
  have w1:IntKind.i64.wrap ln=ln:=IntWalk.i64_in _ (by omega)
  have w2:IntKind.i64.wrap cp=cp:=IntWalk.i64_in _ (by omega)
  unfold bytesO at hby
  obtain ⟨inf,hinf,rfl⟩:=Option.map_eq_some_iff.1 hby
  let zc:Array Value:=if cp.toNat*sz=0 then #[] else z.cells
  let cs:Array Value:=(Array.range (cp.toNat*sz)).map fun i=>zc[i % zc.size]!
  have hm:=ZfA c.w cs e
  have hmul:(inf.bytes:Int)*cp=((cp.toNat*inf.bytes:Nat):Int):=by
   have:cp=(cp.toNat:Int):=by omega
   rw [Int.natCast_mul,Int.mul_comm,← this]
  have hcell:∀ i,i < ln.toNat→∀ j,j < sz→cs[i*sz+j]? = some (z.cells.getD j undef):=by
   intro i hi j hj
   have h1:i*sz+j < cp.toNat*sz:=by
    have:=Nat.mul_le_mul_right sz (show i+1≤cp.toNat by omega)
    rw [Nat.succ_mul] at this
    omega
   have h2:cp.toNat*sz ≠ 0:=by omega
   have h3:(i*sz+j) % sz=j:=by rw [Nat.mul_comm,Nat.mul_add_mod]; exact Nat.mod_eq_of_lt hj
   simp only [cs,zc,if_neg h2,hzs]
   simp [h1,h3,hzs,hj]
  refine ⟨.slice (some ⟨c.w.heap.size,0,none⟩) ln.toNat cp.toNat,c.made _ (.arr sz ln.toNat fun _=>zs),.inl ?_,Zbn hI hm.toMore0 _ ⟨fun _ _=>hzl,.inr ⟨_,cs,e,rfl,hm.new,?_,?_⟩⟩,rfl,fun u e h=>Zdx hI hm.toMore0 _ h,?_⟩
  ·have t1:¬ (decide (cp < 0)||decide ((inf.bytes:Int)*cp > 2 ^ 48)||decide (ln < 0)||decide (ln > cp))=true:=by
    simp only [Bool.or_eq_true,decide_eq_true_eq]
    rw [hmul]
    generalize cp.toNat*inf.bytes=q at b3
    omega
   by_cases h0:cp.toNat*sz=0
   ·simp only [Instr.makeSlice,Sem.run_bind,run_underlying hu,Result.andThen_ok,asInt,asIntOf,Sem.run_pure,typeInfo,run_program,hinf,w1,w2,if_neg t1,run_askRoom,Ur hs,if_pos h0,newRow,run_newObj]
    simp only [cs,zc,if_pos h0]
    rfl
   ·simp only [Instr.makeSlice,Sem.run_bind,run_underlying hu,Result.andThen_ok,asInt,asIntOf,Sem.run_pure,typeInfo,run_program,hinf,w1,w2,if_neg t1,run_askRoom,Ur hs,if_neg h0,newRow,run_newObj,hz1]
    simp only [cs,zc,if_neg h0]
    rfl
  ·simp [cs]; exact Nat.mul_le_mul_right _ (by omega)
  ·intro i hi j d hd
   have hj:j < sz:=by rw [← hzl]; exact (List.getElem?_eq_some_iff.1 hd).1
   have h1:=hz2.2 j (z.cells.getD j undef) d (by simp [hzs,hj]) hd
   have h2:=hpc d (List.mem_of_getElem? hd)
   exact ⟨_,hcell i hi j hj,Zbm h2.2 h1,Zdv hI hm.toMore0 (Kt h2.1 h1)⟩
  ·simp only [TV,AV,CV]
   refine ⟨sz,ln.toNat,fun _=>zs,_,cp.toNat,by simp [Ctx.made],by omega,rfl,by omega,.inr ⟨c.w.heap.size,by simp [Ctx.made],by simp,cs,e,hm.new,by simp [cs]⟩⟩
end Nv
namespace Nv
open Go Go.RowKit
def flat (sz m:Nat) (gv:Nat→Nat→Value):List Value:=(List.range (m*sz)).map fun q=>gv (q / sz) (q % sz)
theorem WH (sz m:Nat) (gv:Nat→Nat→Value):(flat sz m gv).length=m*sz:=by simp [flat]
theorem ZeL {sz m i j:Nat} (hi:i < m) (hj:j < sz):i*sz+j < m*sz:=by
 have:=Nat.mul_le_mul_right sz (show i+1≤m by omega)
 rw [Nat.succ_mul] at this
 omega
theorem Zdy {sz m:Nat} {gv:Nat→Nat→Value} {i j:Nat} (hi:i < m) (hj:j < sz):(flat sz m gv)[i*sz+j]? = some (gv i j):=by
 have h1:=ZeL hi hj
 have h2:(i*sz+j) / sz=i:=by rw [Nat.mul_comm,Nat.mul_add_div (by omega)]; simp [Nat.div_eq_of_lt hj]
 have h3:(i*sz+j) % sz=j:=by rw [Nat.mul_comm,Nat.mul_add_mod]; exact Nat.mod_eq_of_lt hj
 simp [flat,h1,h2,h3]
theorem Zbt {sz m q : Nat} (h : q < m * sz) : q / sz < m ∧ q % sz < sz := by
  have h0 : 0 < sz := by rcases Nat.eq_zero_or_pos sz with h1 | h1; · subst h1; simp at h
                         · exact h1
  exact ⟨(Nat.div_lt_iff_lt_mul h0).2 h, Nat.mod_lt _ h0⟩
theorem ZhW {sz m:Nat} {gv:Nat→Nat→Value} (h:∀ i,i < m→∀ j,j < sz→(gv i j).oneCell'=true):∀ v∈flat sz m gv,v.oneCell'=true:=by
 intro v hv
 simp only [flat,List.mem_map,List.mem_range] at hv
 obtain ⟨q,hq,rfl⟩:=hv
 exact h _ (Zbt hq).1 _ (Zbt hq).2
theorem Zau {w:World} {b off sz m:Nat} {gv:Nat→Nat→Value} (h:∀ i,i < m→∀ j,j < sz→w.cell? ⟨b,off+i*sz+j,none⟩=some (gv i j)) :
  ∀ (q:Nat) (v:Value),(flat sz m gv)[q]? = some v→w.cell? (Addr.add ⟨b,off,none⟩ q)=some v:=by
 intro q v hq
 have hlt:q < m*sz:=by rw [← WH sz m gv]; exact (List.getElem?_eq_some_iff.1 hq).1
 simp [flat,hlt] at hq
 subst hq
 have:=h _ (Zbt hlt).1 _ (Zbt hlt).2
 rw [Wc]
 rw [show off+q=off+q / sz*sz+q % sz by have:=Nat.div_add_mod q sz; rw [Nat.mul_comm] at this; omega]
 exact this
def srcD (H:List Ob):D→Option (Nat × Nat × (Nat→List D))
 | .sl _ wd m g=>some (wd,m,g)
 | .asl id off m=>match H[id]? with
  | some (.arr wd _ f)=>some (wd,m,fun i=>f (off+i))
  | _=>none
 | _=>none
structure Src (c:Ctx) (v:Value) (wd m:Nat) (g:Nat→List D) (a:Option Addr) (cap:Nat) (gv:Nat→Nat→Value):Prop where
 val:v = .slice a m cap
 le:m≤cap
 cell:0 < m→∃ b off,a=some ⟨b,off,none⟩∧∀ i,i < m→∀ j,j < wd→c.w.cell? ⟨b,off+i*wd+j,none⟩=some (gv i j)
 len:∀ i,i < m→(g i).length=wd
 one:∀ i,i < m→∀ j,j < wd→(gv i j).oneCell'=true
 pv:∀ i,i < m→∀ (j:Nat) (d:D),(g i)[j]? = some d→PV c.I c.w (gv i j) d
theorem KY {F:Fr} {c:Ctx} (hI:Inv F c) {x:D} {wd m:Nat} {g:Nat→List D} (h:srcD c.H x=some (wd,m,g)) {v:Value} (hv:TV c v x) :
  ∃ a cap gv,Src c v wd m g a cap gv:=by
 unfold srcD at h
 split at h
 ·simp only [Option.some.injEq,Prod.mk.injEq] at h
  obtain ⟨rfl,rfl,rfl⟩:=h
  simp only [TV,AV,CV] at hv
  cases hv with
  | sl a n cap wd full f g hfull hcap hb hw hone hv =>
   exact ⟨a,cap,g,rfl,hcap,fun hn=>let ⟨b,off,ha,_,hc⟩:=hb hn; ⟨b,off,ha,hc⟩,hw,hone,hv⟩
 ·rename_i id off mm
  split at h <;> try cases h
  rename_i n f ho
  simp only [TV,AV,CV] at hv
  obtain ⟨wd2,n2,f2,a,cap,ho2,hl,rfl,hcap,hor⟩:=hv
  rw [ho] at ho2
  cases ho2
  obtain ⟨hw,hob⟩:=hI.obj id _ ho
  rcases hob with ⟨h0,hn0⟩ | ⟨b,cs,T,hb,hh,hn,hvs⟩
  ·have:m=0:=by omega
   subst this
   exact ⟨a,cap,fun _ _=>undef,rfl,hcap,fun h=>by omega,fun i hi=>by omega,fun i hi=>by omega,fun i hi=>by omega⟩
  ·have key:∀ i,i < m→∀ j,j < wd→∃ d,(f (off+i))[j]? = some d:=fun i hi j hj=>by
    have:=hw (off+i) (by omega)
    exact ⟨_,List.getElem?_eq_getElem (by omega)⟩
   have hget:∀ i,i < m→∀ j,j < wd→∃ v,cs[(off+i)*wd+j]? = some v∧v.oneCell'=true:=fun i hi j hj=>by
    obtain ⟨d,hd⟩:=key i hi j hj
    obtain ⟨v,h1,h2,_⟩:=hvs (off+i) (by omega) j d hd
    exact ⟨v,h1,h2⟩
   refine ⟨a,cap,fun i j=>cs.getD ((off+i)*wd+j) undef,rfl,hcap,fun hm=>?_,fun i hi=>hw _ (by omega),fun i hi j hj=>?_,fun i hi j d hd=>?_⟩
   ·rcases hor with h0 | ⟨b',hb',ha,_⟩
    ·omega
    ·rw [hb] at hb'
     cases hb'
     refine ⟨b,off*wd,ha,fun i hi j hj=>?_⟩
     obtain ⟨v,h1,_⟩:=hget i hi j hj
     rw [show off*wd+i*wd+j=(off+i)*wd+j by rw [Nat.add_mul]]
     simp [World.cell?,hh,h1]
   ·obtain ⟨v,h1,h2⟩:=hget i hi j hj
    show (cs.getD ((off+i)*wd+j) undef).oneCell'=true
    rw [show cs.getD ((off+i)*wd+j) undef=v by simp [h1]]
    exact h2
   ·obtain ⟨v,h1,_,h3⟩:=hvs (off+i) (by omega) j d hd
    show PV c.I c.w (cs.getD ((off+i)*wd+j) undef) d
    rw [show cs.getD ((off+i)*wd+j) undef=v by simp [h1]]
    exact h3
 ·cases h
structure Elem (P:Program) (t e:TypeId) (sz by_:Nat) (i:TypeInfo) (z:Value):Prop where
 ut:P.underlying t=some (.slice e)
 info:P.info? e=some i
 zero:i.zero=some z
 size:i.size=sz
 bytes:i.bytes=by_
 zsize:z.cells.size=sz
def elemD (P:Program) (t:TypeId):Option (Nat × Nat) :=
 match P.underlying t with
 | some (.slice e)=>match szO P e,zeroD P e,bytesO P e with
  | some (sz+1),some zs,some (by_+1)=>bif Nat.beq zs.length (sz+1) then some (sz+1,by_+1) else none
  | _,_,_=>none
 | _=>none
theorem ZfD {P:Program} {t:TypeId} {sz by_:Nat} (h:elemD P t=some (sz,by_)):0 < sz∧0 < by_∧∃ e i z,Elem P t e sz by_ i z:=by
 unfold elemD at h
 split at h <;> try cases h
 rename_i e hu
 split at h <;> try cases h
 rename_i s zs b hs hz hb
 cases hc:Nat.beq zs.length (s+1) with
 | false=>simp [hc] at h
 | true =>
  simp only [hc,cond_true,Option.some.injEq,Prod.mk.injEq] at h
  obtain ⟨rfl,rfl⟩:=h
  have hzl:=Nat.eq_of_beq_eq_true hc
  unfold szO at hs
  unfold bytesO at hb
  unfold zeroD at hz
  obtain ⟨i,hi,hsz⟩:=Option.map_eq_some_iff.1 hs
  obtain ⟨z,hz1,hz2⟩:=Option.map_eq_some_iff.1 hz
  simp only [hi,Option.map_some,Option.some.injEq] at hb
  simp only [hi,Option.bind_some] at hz1
  refine ⟨Nat.succ_pos _,Nat.succ_pos _,e,i,z,hu,hi,hz1,hsz,hb,?_⟩
  rw [← hzl,← hz2]
  simp [ZcZ]
theorem XW {i n:Nat}:Nat.blt i n=true→i < n:=fun h=>Nat.le_of_ble_eq_true h
theorem R0 {i n:Nat} (h:Nat.blt i n=false):n≤i:=by
 rcases Nat.lt_or_ge i n with h1 | h1
 ·rw [show Nat.blt i n=true from Nat.ble_eq_true_of_le h1] at h; cases h
 ·exact h1
def app (f:Nat→List D) (n:Nat) (g:Nat→List D) (i:Nat):List D:=bif Nat.blt i n then f i else g (i - n)
section
variable {P:Program} {c:Ctx} {t ty e:TypeId} {sz by_:Nat} {ti:TypeInfo} {z:Value}
theorem Rx (hE:Elem P t e sz by_ ti z) (w:World) (a:Option Addr) (n cap:Nat) (hn:n≤cap) (x:Option Addr) (xc:Nat) :
  (Builtin.append_ #[t,t] ty #[.slice a n cap,.slice x 0 xc]).run P w = .ok (.slice a n cap) w:=by
 cases a <;> cases x <;> simp [Builtin.append_,run_underlying hE.ut,Go.sizeOf,typeInfo,hE.info,Builtin.lenOf,hn,Builtin.firstCells,loadCells,loadCellsFrom,storeCells]
theorem Ry (hE : Elem P t e sz by_ ti z) {v vx : Value} {n m cap xc : Nat} {f g : Nat → List D} {a x : Option Addr} {gv hv : Nat → Nat → Value}
    (hs : Src c v sz n f a cap gv) (hx : Src c vx sz m g x xc hv) (hm : 0 < m) (hg : cap < n + m) (hn : a = none → cap = 0) (hby : (n + m) * by_ ≤ 140737488355328) (h63 : n + m ≤ 9223372036854775807) :
    ∃ cs w' cap', (Builtin.append_ #[t, t] ty #[v, vx]).run P c.w = .ok (.slice (some ⟨c.w.heap.size, 0, none⟩) (n + m) cap') w' ∧ More c.w w' cs e ∧ n + m ≤ cap' ∧ cap' * sz ≤ cs.size ∧
      ∀ i, i < n + m → ∀ j d, (app f n g i)[j]? = some d → ∃ u, cs[i * sz + j]? = some u ∧ u.oneCell' = true ∧ PV c.I c.w u d := by
  obtain ⟨bx, ox, rfl, hxc⟩ := hx.cell hm
  have hnews := Zau hxc
  obtain rfl := hs.val
  obtain rfl := hx.val
  have hsz := hE.size
  have hlx : (flat sz m hv).length = m * ti.size := by rw [WH, hsz]
  have hfits : Builtin.nextslicecap (n + m) cap * ti.bytes ≤ 281474976710656 := growslice_fits hg (by rw [hE.bytes]; exact hby)
  have hlast : ∀ (news : Array Value), news = (flat sz n gv).toArray ++ (flat sz m hv).toArray → ∀ (rest : Array Value), ∀ i, i < n + m → ∀ j d, (app f n g i)[j]? = some d → ∃ u, (news ++ rest)[i * sz + j]? = some u ∧ u.oneCell' = true ∧ PV c.I c.w u d := by
    intro news hnews rest i hi j d hd
    subst hnews
    unfold app at hd
    cases hlt : Nat.blt i n with
    | true =>
      have hlt' : i < n := XW hlt
      simp only [hlt, cond_true] at hd
      have hj : j < sz := by rw [← hs.len i hlt']; exact (List.getElem?_eq_some_iff.1 hd).1
      refine ⟨gv i j, ?_, hs.one i hlt' j hj, hs.pv i hlt' j d hd⟩
      have hb := ZeL hlt' hj
      rw [Array.getElem?_append_left (by simp [WH]; omega), Array.getElem?_append_left (by simp [WH]; omega)]
      simpa using Zdy hlt' hj
    | false =>
      have hge : n ≤ i := R0 hlt
      simp only [hlt, cond_false] at hd
      have hlt' : i - n < m := by omega
      have hj : j < sz := by rw [← hx.len _ hlt']; exact (List.getElem?_eq_some_iff.1 hd).1
      refine ⟨hv (i - n) j, ?_, hx.one _ hlt' j hj, hx.pv _ hlt' j d hd⟩
      have hb := ZeL hlt' hj
      have e1 : i * sz = n * sz + (i - n) * sz := by rw [← Nat.add_mul]; congr 1; omega
      rw [Array.getElem?_append_left (by simp [WH]; omega), Array.getElem?_append_right (by simp [WH]; omega)]
      simp only [List.size_toArray, WH, List.getElem?_toArray]
      rw [show i * sz + j - n * sz = (i - n) * sz + j by omega]
      exact Zdy hlt' hj
  cases ha : a with
  | none =>
    obtain rfl := hn ha
    subst ha
    have hn0 : n = 0 := by have := hs.le; omega
    subst hn0
    have hr := run_append_nil (P := P) c.w t ty e ti z hE.ut hE.info hE.zero ⟨bx, ox, none⟩ m xc (flat sz m hv) hlx hnews hm (by omega) (by rw [hE.bytes]; simp only [Nat.zero_add] at hby; omega)
    refine ⟨_, _, _, by rw [Nat.zero_add]; exact hr, ZgJ c.w _ _, ?_, ?_, ?_⟩
    · rw [Nat.zero_add]; exact grownCap_ge _ _ _ _
    · have hge := grownCap_ge c.w m 0 e
      simp only [Array.size_append, List.size_toArray, WH, size_zeroCells, hE.zsize, ← Nat.add_mul]
      exact Nat.mul_le_mul_right _ (by omega)
    · have := hlast ((flat sz m hv).toArray) (by simp [flat]) (Builtin.zeroCells z.cells (grownCap c.w m 0 e - m))
      exact this
  | some b =>
    subst ha
    have holds : ∀ (j : Nat) (u : Value), (flat sz n gv)[j]? = some u → c.w.cell? (b.add j) = some u := by
      intro j u hj
      have hlt : j < n * sz := by rw [← WH sz n gv]; exact (List.getElem?_eq_some_iff.1 hj).1
      have hn0 : 0 < n := by rcases Nat.eq_zero_or_pos n with h | h; · subst h; simp at hlt
                             · exact h
      obtain ⟨b', o', hb', hc'⟩ := hs.cell hn0
      cases hb'
      exact Zau hc' j u hj
    have hr := run_append_grow (P := P) c.w t ty e ti z hE.ut hE.info hE.zero b n cap (flat sz n gv) (by rw [WH, hsz]) holds ⟨bx, ox, none⟩ m xc (flat sz m hv) hlx hnews hg (by omega) hfits
    refine ⟨_, _, _, hr, ZgJ c.w _ _, grownCap_ge _ _ _ _, ?_, hlast _ rfl _⟩
    have hge := grownCap_ge c.w (n + m) cap e
    simp only [Array.size_append, List.size_toArray, WH, size_zeroCells, hE.zsize, ← Nat.add_mul]
    exact Nat.mul_le_mul_right _ (by omega)
end
end Nv
namespace Nv
open Go Go.RowKit
def appD (P:Program) (H:List Ob) (t:TypeId) (s x:D):Option (D × List Ob × Option Nat × List Bool) :=
 match elemD P t,srcD H (adj P t x) with
 | some (sz,by_),some (wd,m,g) =>
  bif Nat.beq wd sz then
   match adj P t s with
   | .sl true wd' n f=>bif Nat.beq wd' sz then
     some (.asl H.length 0 (n+m),H++[.arr sz (n+m) (app f n g)],none,[decide (n=0)||decide (0 < m),decide ((n+m)*by_≤140737488355328)]) else none
   | .asl id off len=>match H[id]? with
    | some (.arr wd' _ f)=>bif Nat.beq wd' sz&&Nat.beq off 0&&freeB H id then
      some (.asl id 0 (len+m),(H.set id (.arr sz (len+m) (app f len g))).map (purgeO id),some id,[decide ((len+m)*by_≤140737488355328)]) else none
    | _=>none
   | _=>none
  else none
 | _,_=>none
theorem Src.congr {c:Ctx} {v:Value} {wd m:Nat} {g g':Nat→List D} {a:Option Addr} {cap:Nat} {gv:Nat→Nat→Value} (h:Src c v wd m g a cap gv) (hg:∀ i,i < m→g' i=g i):Src c v wd m g' a cap gv :=
 ⟨h.val,h.le,h.cell,fun i hi=>by rw [hg i hi]; exact h.len i hi,h.one,fun i hi j d hd=>h.pv i hi j d (by rw [← hg i hi]; exact hd)⟩
theorem Rz {sz n m:Nat} {f g:Nat→List D} (hf:∀ i,i < n→(f i).length=sz) (hg:∀ i,i < m→(g i).length=sz):∀ i,i < n+m→(app f n g i).length=sz:=by
 intro i hi
 unfold app
 cases hlt:Nat.blt i n with
 | true=>exact hf i (XW hlt)
 | false=>have:=R0 hlt; exact hg _ (by omega)
theorem ZeM {P:Program} {t ty e:TypeId} {sz by_:Nat} {ti:TypeInfo} {z:Value} (hE:Elem P t e sz by_ ti z) (w:World) (g n cap:Nat) (cur:Array Value) (T:TypeId) (hg:w.heap[g]? = some (.cells cur T (0,0)))
  (a:Addr) (m c:Nat) (news:List Value) (hl:news.length=m*sz) (hnews:∀ (j:Nat) (u:Value),news[j]? = some u→w.cell? (a.add j)=some u) (h1:∀ u∈news,u.oneCell'=true)
  (hroom:n+m≤cap) (hfit:n*sz+news.length≤cur.size) :
  (Builtin.append_ #[t,t] ty #[.slice (some ⟨g,0,none⟩) n cap,.slice (some a) m c]).run P w = .ok (.slice (some ⟨g,0,none⟩) (n+m) cap) (w.setRow g (splV cur news (n*sz))):=by
 have hf:=run_firstCells_some (P:=P) w sz m a m c news hl hnews
 have hst:=run_storeCells_at (P:=P) g (n*sz) T news 0 cur w hg (by simpa using hfit) h1
 simp only [Nat.add_zero] at hst
 have hsz:=hE.size
 simp [Builtin.append_,run_underlying hE.ut,Go.sizeOf,typeInfo,hE.info,hsz,Builtin.lenOf,hroom,hf,Addr.add_lit,hst,splV]
theorem Zjm {P:Program} {F:Fr} {c:Ctx} (hI:Inv F c) {t ty:TypeId} {s x d:D} {H':List Ob} {pid:Option Nat} {bs:List Bool} (h:appD P c.H t s x=some (d,H',pid,bs)) (hb:∀ b∈bs,b=true)
  {vs vx:Value} (hs:TV c vs s) (hx:TV c vx x):Turns P F c (do pure (.value (← Builtin.append_ #[t,t] ty #[vs,vx]))) d H' pid:=by
 unfold appD at h
 split at h <;> try cases h
 rename_i sz by_ wd m g hel hsrc
 obtain ⟨hsz,hbp,e,ti,z,hE⟩:=ZfD hel
 have hx':=KW (P:=P) (t:=t) hx
 have hs':=KW (P:=P) (t:=t) hs
 obtain ⟨xa,xc,hv,hX⟩:=KY hI hsrc hx'
 cases hw:Nat.beq wd sz with
 | false=>simp [hw] at h
 | true =>
  obtain rfl:=Nat.eq_of_beq_eq_true hw
  simp only [hw,cond_true] at h
  split at h
  ·rename_i wd' n f hadj
   cases hw':Nat.beq wd' wd with
   | false=>simp [hw'] at h
   | true =>
    simp only [hw',cond_true,Option.some.injEq,Prod.mk.injEq] at h
    obtain ⟨rfl,rfl,rfl,rfl⟩:=h
    obtain rfl:=Nat.eq_of_beq_eq_true hw'
    obtain ⟨b1,b2⟩:=all2 hb
    simp only [Bool.or_eq_true,decide_eq_true_eq] at b1 b2
    rw [hadj] at hs'
    obtain ⟨a,cap,gv,hS⟩:=KY hI (x:=.sl true wd' n f) rfl hs'
    have hcap:cap=n:=by
     have h1:=hs'
     simp only [TV,AV,CV] at h1
     have h2:=hS.val
     subst h2
     cases h1 with
     | sl a n cap wd full f g hfull=>exact hfull rfl
    subst hcap
    rcases Nat.eq_zero_or_pos m with hm | hm
    ·subst hm
     have hn:cap=0:=by omega
     subst hn
     obtain rfl:=hS.val
     obtain rfl:=hX.val
     have hr:=Rx (ty:=ty) hE c.w a 0 0 (Nat.le_refl _) xa xc
     refine ⟨.slice a 0 0,c.made0 (.arr wd' 0 (app f 0 g)),.inl (by simp [hr,Ctx.made0]),Zcc hI _ _,rfl,fun u e h=>Zbr _ h,?_⟩
     simp only [TV,AV,CV]
     exact ⟨wd',0,app f 0 g,a,0,by simp [Ctx.made0],Nat.le_refl _,rfl,Nat.le_refl _,.inl rfl⟩
    ·have h63:cap+m≤9223372036854775807:=by
      have:=Nat.le_mul_of_pos_right (cap+m) hbp
      omega
     obtain ⟨cs,w',cap',hr,hm',hc1,hc2,hcells⟩:=Ry (ty:=ty) hE hS hX hm (by omega) (fun ha=>by
      rcases Nat.eq_zero_or_pos cap with h0 | h0
      ·exact h0
      ·obtain ⟨_,_,h1,_⟩:=hS.cell h0; rw [ha] at h1; cases h1) b2 h63
     refine ⟨.slice (some ⟨c.w.heap.size,0,none⟩) (cap+m) cap',c.made w' (.arr wd' (cap+m) (app f cap g)),.inl (by simp [hr,Ctx.made]),Zbn hI hm'.toMore0 _ ⟨Rz hS.len hX.len,.inr ⟨_,cs,e,rfl,hm'.new,?_,fun i hi j d hd=>?_⟩⟩,rfl,fun u e h=>Zdx hI hm'.toMore0 _ h,?_⟩
     ·exact Nat.le_trans (Nat.mul_le_mul_right _ hc1) hc2
     ·obtain ⟨u,h1,h2,h3⟩:=hcells i hi j d hd
      exact ⟨u,h1,h2,Zdv hI hm'.toMore0 h3⟩
     ·simp only [TV,AV,CV]
      exact ⟨wd',cap+m,app f cap g,_,cap',by simp [Ctx.made],by omega,rfl,hc1,.inr ⟨c.w.heap.size,by simp [Ctx.made],by simp,cs,e,hm'.new,by simpa using hc2⟩⟩
  ·rename_i id off len hadj
   split at h <;> try cases h
   rename_i wd' n f ho
   cases hc:(Nat.beq wd' wd&&Nat.beq off 0&&freeB c.H id) with
   | false=>rw [hc] at h; cases h
   | true =>
    simp only [hc,cond_true,Option.some.injEq,Prod.mk.injEq] at h
    obtain ⟨rfl,rfl,rfl,rfl⟩:=h
    simp only [Bool.and_eq_true] at hc
    obtain rfl:=Nat.eq_of_beq_eq_true hc.1.1
    obtain rfl:=Nat.eq_of_beq_eq_true hc.1.2
    have hown:=Zbs hI ho (by simp) hc.2
    have b2:(len+m)*by_≤140737488355328:=by simpa using hb _ (List.mem_singleton.2 rfl)
    rw [hadj] at hs'
    obtain ⟨a,cap,gv,hS0⟩:=KY hI (x:=.asl id 0 len) (by simp only [srcD,ho]; rfl) hs'
    have hS:Src c vs wd' len f a cap gv:=hS0.congr fun i _=>by rw [Nat.zero_add]
    have hid:id < c.H.length:=(List.getElem?_eq_some_iff.1 ho).1
    obtain ⟨hwl,hob⟩:=hI.obj id _ ho
    have hlen:len≤n∧(cap=0∨∃ b,c.mu id=some b∧a=some ⟨b,0,none⟩∧Room c.w b (cap*wd')):=by
     have h1:=hs'
     simp only [TV,AV,CV] at h1
     obtain ⟨wd2,n2,f2,a2,cap2,ho2,hl2,hv2,hc2,hor⟩:=h1
     rw [ho] at ho2
     cases ho2
     have h2:=hS.val
     rw [hv2] at h2
     cases h2
     refine ⟨by omega,hor.imp (fun x=>x) ?_⟩
     rintro ⟨b,h3,h4,h5⟩
     exact ⟨b,h3,by simpa using h4,by simpa using h5⟩
    rcases Nat.eq_zero_or_pos m with hm | hm
    ·subst hm
     obtain rfl:=hS.val
     obtain rfl:=hX.val
     have hr:=Rx (ty:=ty) hE c.w a len cap hS.le xa xc
     have hredo:Redo c id (c.mu id) c.w:=⟨rfl,rfl,rfl,Nat.le_refl _,Nat.le_refl _,fun _ _ _=>rfl,fun b hb=>⟨(hI.loc id b hb).2.1,.inl hb⟩⟩
     refine ⟨.slice a len cap,c.redo id (.arr wd' (len+0) (app f len g)) (c.mu id) c.w,.inl (by simp [hr,Ctx.redo]),G4 hI hown hredo hid _ _ _ ?_,rfl,fun u e h=>Rw hI hredo h,?_⟩
     ·refine ⟨Rz hS.len hX.len,?_⟩
      rcases hob with ⟨h0,hn0⟩ | ⟨b,cs,T,hbm,hh,hn,hvs⟩
      ·exact .inl ⟨h0,by omega⟩
      ·refine .inr ⟨b,cs,T,hbm,hh,Nat.le_trans (Nat.mul_le_mul_right _ (by omega)) hn,fun i hi j d hd=>?_⟩
       have hlt:Nat.blt i len=true:=Nat.ble_eq_true_of_le (by omega)
       simp only [app,hlt,cond_true] at hd
       exact hvs i (by omega) j d hd
     ·simp only [TV,AV,CV]
      refine ⟨wd',len+0,app f len g,a,cap,by simp [Ctx.redo,hid,purgeO],by omega,rfl,hS.le,hlen.2.imp (fun x=>x) ?_⟩
      rintro ⟨b,h3,h4,h5⟩
      exact ⟨b,by simp [Ctx.redo,h3],by simpa using h4,by rw [Nat.zero_add]; exact h5⟩
    ·have h63:len+m≤9223372036854775807:=by
      have:=Nat.le_mul_of_pos_right (len+m) hbp
      omega
     by_cases hroom:len+m≤cap
     ·rcases hlen.2 with h0 | ⟨b,hmu,rfl,cs,T,hh,hcs⟩
      ·omega
      obtain ⟨bx,ox,rfl,hxc⟩:=hX.cell hm
      obtain rfl:=hS.val
      obtain rfl:=hX.val
      rcases hob with ⟨h0,_⟩ | ⟨b',cs',T',hb',hh',hn,hvs⟩
      ·rw [hmu] at h0; cases h0
      rw [hmu] at hb'
      cases hb'
      rw [hh] at hh'
      cases hh'
      have hnews:=Zau hxc
      have hone:=ZhW hX.one
      have hfit:len*wd'+(flat wd' m hv).length≤cs.size:=by
       rw [WH,← Nat.add_mul]
       exact Nat.le_trans (Nat.mul_le_mul_right _ hroom) hcs
      have hr:=ZeM (ty:=ty) hE c.w b len cap cs T hh ⟨bx,ox,none⟩ m xc (flat wd' m hv) (WH _ _ _) hnews hone hroom hfit
      have hredo:Redo c id (some b) (c.w.setRow b (splV cs (flat wd' m hv) (len*wd'))) :=
       ⟨rfl,rfl,rfl,Nat.le_refl _,by simp,fun k _ hne=>setRow_other _ _ _ _ fun e=>hne (by rw [e]; exact hmu),fun k hk=>by cases hk; exact ⟨by simpa using (hI.loc id b hmu).2.1,.inl hmu⟩⟩
      refine ⟨.slice (some ⟨b,0,none⟩) (len+m) cap,c.redo id (.arr wd' (len+m) (app f len g)) (some b) _,.inl (by simp [hr,Ctx.redo]),G4 hI hown hredo hid _ _ _ ?_,rfl,fun u e h=>Rw hI hredo h,?_⟩
      ·refine ⟨Rz hS.len hX.len,.inr ⟨b,_,T,rfl,setRow_heap _ _ _ _ _ _ hh,by rw [GU hfit]; exact Nat.le_trans (Nat.mul_le_mul_right _ hroom) hcs,fun i hi j d hd=>?_⟩⟩
       rw [Zbp hfit,WH]
       unfold app at hd
       cases hlt:Nat.blt i len with
       | true =>
        have hlt':=XW hlt
        simp only [hlt,cond_true] at hd
        have hj:j < wd':=by rw [← hwl i (by omega)]; exact (List.getElem?_eq_some_iff.1 hd).1
        have hb1:=ZeL hlt' hj
        rw [if_neg (by omega)]
        obtain ⟨u,h1,h2,h3⟩:=hvs i (by omega) j d hd
        exact ⟨u,h1,h2,KJ hI hredo h3⟩
       | false =>
        have hge:=R0 hlt
        simp only [hlt,cond_false] at hd
        have hlt':i - len < m:=by omega
        have hj:j < wd':=by rw [← hX.len _ hlt']; exact (List.getElem?_eq_some_iff.1 hd).1
        have hb1:=ZeL hlt' hj
        have e1:i*wd'=len*wd'+(i - len)*wd':=by rw [← Nat.add_mul]; congr 1; omega
        rw [if_pos (by omega)]
        refine ⟨hv (i - len) j,?_,hX.one _ hlt' j hj,KJ hI hredo (hX.pv _ hlt' j d hd)⟩
        rw [show i*wd'+j - len*wd'=(i - len)*wd'+j by omega]
        exact Zdy hlt' hj
      ·simp only [TV,AV,CV]
       refine ⟨wd',len+m,app f len g,_,cap,by simp [Ctx.redo,hid,purgeO],by omega,rfl,hroom,.inr ⟨b,by simp [Ctx.redo],by simp,_,T,setRow_heap _ _ _ _ _ _ hh,?_⟩⟩
       rw [GU hfit,Nat.zero_add]
       exact hcs
     ·obtain ⟨cs,w',cap',hr,hm',hc1,hc2,hcells⟩:=Ry (ty:=ty) hE hS hX hm (by omega) (fun ha=>by
       rcases hlen.2 with h0 | ⟨b,_,h4,_⟩
       ·exact h0
       ·rw [ha] at h4; cases h4) b2 h63
      have hredo:Redo c id (some c.w.heap.size) w':=⟨hm'.below.os,hm'.below.tape,hm'.below.output,hm'.below.drawn,hm'.below.size,fun k hk _=>hm'.below.block k hk,fun b hb=>by cases hb; exact ⟨by rw [hm'.size]; omega,.inr (Nat.le_refl _)⟩⟩
      refine ⟨.slice (some ⟨c.w.heap.size,0,none⟩) (len+m) cap',c.redo id (.arr wd' (len+m) (app f len g)) (some c.w.heap.size) w',.inl (by simp [hr,Ctx.redo]),G4 hI hown hredo hid _ _ _ ?_,rfl,fun u e h=>Rw hI hredo h,?_⟩
      ·refine ⟨Rz hS.len hX.len,.inr ⟨_,cs,e,rfl,hm'.new,Nat.le_trans (Nat.mul_le_mul_right _ hc1) hc2,fun i hi j d hd=>?_⟩⟩
       obtain ⟨u,h1,h2,h3⟩:=hcells i hi j d hd
       exact ⟨u,h1,h2,KJ hI hredo h3⟩
      ·simp only [TV,AV,CV]
       exact ⟨wd',len+m,app f len g,_,cap',by simp [Ctx.redo,hid,purgeO],by omega,rfl,hc1,.inr ⟨c.w.heap.size,by simp [Ctx.redo],by simp,cs,e,hm'.new,by simpa using hc2⟩⟩
  ·cases h
end Nv
namespace Nv
open Go Go.RowKit
def nilV:Value:=.slice none 0 0
def updV (vs:Nat→Value) (j:Nat) (v:Value):Nat→Value:=fun i=>if i=j then v else vs i
def updL (ls:Nat→Nat × (Nat→List D)) (j:Nat) (x:Nat × (Nat→List D)):Nat→Nat × (Nat→List D):=fun i=>if i=j then x else ls i
theorem UD {vs:Nat→Value} {j:Nat} {v:Value}:updV vs j v j=v:=by simp [updV]
theorem G5 {vs:Nat→Value} {i j:Nat} {v:Value} (h:i ≠ j):updV vs j v i=vs i:=by simp [updV,h]
theorem Zcd {ls:Nat→Nat × (Nat→List D)} {j:Nat} {x:Nat × (Nat→List D)}:updL ls j x j=x:=by simp [updL]
theorem Zce {ls:Nat→Nat × (Nat→List D)} {i j:Nat} {x:Nat × (Nat→List D)} (h:i ≠ j):updL ls j x i=ls i:=by simp [updL,h]
theorem ZgK (c:Ctx) (wd:Nat) (g:Nat→List D):FamAt c nilV wd 0 g:=⟨none,0,rfl,Nat.le_refl _,fun i hi=>by omega,.inl rfl⟩
def Ctx.unf (c:Ctx) (idf:Nat) (o':Ob) (b? : Option Nat) (o:Ob):Ctx :=
 { c with mu:=fun i=>if i=c.H.length then b? else c.mu i,H:=c.H.set idf o'++[o] }
section
variable {F:Fr} {c:Ctx} {idf foc n wd:Nat} {is:Value→Bool} {vs:Nat→Value} {ls:Nat→Nat × (Nat→List D)} {o' o:Ob} {b? : Option Nat}
theorem ZkM (ho:c.H[idf]? = some (.fam foc is n wd vs ls)) {id:Nat} {q:Ob} (h:c.H[id]? = some q) (hq:∀ a b d e f g,q ≠ .fam a b d e f g):(c.unf idf o' b? o).H[id]? = some q:=by
 have hl:=(List.getElem?_eq_some_iff.1 h).1
 have hne:idf ≠ id:=fun e=>by subst e; rw [ho] at h; cases h; exact hq _ _ _ _ _ _ rfl
 simp only [Ctx.unf]
 rw [List.getElem?_append_left (by rw [List.length_set]; exact hl),List.getElem?_set_ne hne]
 exact h
theorem ZiN (hI:Inv F c) {id k:Nat} (h:c.mu id=some k):(c.unf idf o' b? o).mu id=some k:=by
 simp only [Ctx.unf]
 rw [if_neg]
 ·exact h
 ·intro e; rw [hI.dom id (by omega)] at h; cases h
theorem Zg7 (hI:Inv F c) (ho:c.H[idf]? = some (.fam foc is n wd vs ls)) {v:Value} {d:D} (h:CV c v d):CV (c.unf idf o' b? o) v d:=by
 cases d <;> simp only [CV] at h ⊢ <;> try exact h
 ·obtain ⟨b,hb,hv⟩:=h; exact ⟨b,ZiN hI hb,hv⟩
 ·obtain ⟨b,w1,n1,f1,hb,hH,hi,hv⟩:=h; exact ⟨b,w1,n1,f1,ZiN hI hb,ZkM ho hH (by simp),hi,hv⟩
 ·obtain ⟨w1,n1,f1,a,cap,hH,h2,h3,h4,h5⟩:=h
  exact ⟨w1,n1,f1,a,cap,ZkM ho hH (by simp),h2,h3,h4,h5.imp (fun x=>x) fun ⟨b,hb,ha,hr⟩=>⟨b,ZiN hI hb,ha,hr⟩⟩
theorem ZkN (hI:Inv F c) (ho:c.H[idf]? = some (.fam foc is n wd vs ls)) {v:Value} {d:D} (h:AV c v d):AV (c.unf idf o' b? o) v d:=by
 cases d <;> simp only [AV] at h ⊢ <;> try exact Zg7 hI ho h
 ·obtain ⟨vs,h1,h2⟩:=h; exact ⟨vs,h1,h2.mono fun _ _=>Zg7 hI ho⟩
 ·obtain ⟨vs,h1,h2⟩:=h; exact ⟨vs,h1,h2.mono fun _ _=>Zg7 hI ho⟩
theorem ZmV (hI:Inv F c) (ho:c.H[idf]? = some (.fam foc is n wd vs ls)) {v:Value} {d:D} (h:TV c v d):TV (c.unf idf o' b? o) v d:=by
 cases d <;> simp only [TV] at h ⊢ <;> try exact ZkN hI ho h
 obtain ⟨vs,h1,h2⟩:=h; exact ⟨vs,h1,h2.mono fun _ _=>ZkN hI ho⟩
end
def unfH (H:List Ob) (idf foc n wd:Nat) (vs:Nat→Value) (ls:Nat→Nat × (Nat→List D)) (j:Nat):List Ob :=
 H.set idf (.fam foc (fun _=>false) n wd (updV vs j nilV) (updL ls j (0,fun _=>[])))++[.arr wd (ls j).1 (ls j).2]
theorem unfam {F:Fr} {c:Ctx} (hI:Inv F c) {idf foc n wd j:Nat} {is:Value→Bool} {vs:Nat→Value} {ls:Nat→Nat × (Nat→List D)} (ho:c.H[idf]? = some (.fam foc is n wd vs ls)) (hj:j < n) :
  ∃ c',c'.w=c.w∧Inv F c'∧c'.H=unfH c.H idf foc n wd vs ls j∧(∀ v d,TV c v d→TV c' v d)∧TV c' (vs j) (.asl c.H.length 0 (ls j).1):=by
 have hov:=hI.obj idf _ ho
 obtain ⟨⟨hmu0,_⟩,hat⟩:=hov
 obtain ⟨a,cap,hv,hle,hlen,hor⟩:=hat j hj
 have hidf:=(List.getElem?_eq_some_iff.1 ho).1
 let o':Ob:=.fam foc (fun _=>false) n wd (updV vs j nilV) (updL ls j (0,fun _=>[]))
 let o:Ob:=.arr wd (ls j).1 (ls j).2
 let c':=c.unf idf o' (blkOf (vs j)) o
 have hfj:∀ b,blkOf (vs j)=some b→(F.w0.heap.size≤b∧b < c.w.heap.size∧¬ c.I b∧∀ i,c.mu i ≠ some b)∧∀ (id':Nat) (o':Ob) (j':Nat),c.H[id']? = some o'→fblk o' j'=some b→id'=idf∧j'=j:=fun b hb =>
  hI.fam idf _ j b ho (by simp only [fblk]; rw [if_pos hj]; exact hb)
 have hmuE:∀ i,c'.mu i=if i=c.H.length then blkOf (vs j) else c.mu i:=fun _=>rfl
 have hHE:c'.H=c.H.set idf o'++[o]:=rfl
 have hfold:∀ (id:Nat) (q:Ob) (i b:Nat),c'.H[id]? = some q→fblk q i=some b→∃ q0,c.H[id]? = some q0∧fblk q0 i=some b∧blkOf (vs j) ≠ some b:=by
  intro id q i b h1 h2
  obtain ⟨q1,h3,h4⟩:=KV (fun _=>rfl) (show (c.H.set idf o'++[o])[id]? = some q from h1) h2
  by_cases e:id=idf
  ·subst e
   rw [List.getElem?_set_self hidf] at h3
   cases h3
   simp only [o',fblk] at h4
   split at h4
   ·rename_i hin
    by_cases e2:i=j
    ·subst e2; rw [UD] at h4; simp [blkOf,nilV] at h4
    ·rw [G5 e2] at h4
     refine ⟨_,ho,by simp only [fblk]; rw [if_pos hin]; exact h4,fun h5=>?_⟩
     exact e2 ((hfj b h5).2 id _ i ho (by simp only [fblk]; rw [if_pos hin]; exact h4)).2
   ·cases h4
  ·rw [List.getElem?_set_ne (Ne.symm e)] at h3
   exact ⟨q1,h3,h4,fun h5=>e ((hfj b h5).2 id q1 i h3 h4).1⟩
 have hInv:Inv F c':=by
  refine ⟨hI.below,hI.imm,fun i b hb=>?_,fun i k b h1 h2=>?_,fun id q hq=>?_,fun id hid=>?_,fun i v hv=>?_,fun hl=>?_,fun id q i b h1 h2=>?_⟩
  ·rw [hmuE] at hb
   split at hb
   ·obtain ⟨⟨h1,h2,h3,_⟩,_⟩:=hfj b hb; exact ⟨.inl h1,h2,h3⟩
   ·exact hI.loc i b hb
  ·rw [hmuE] at h1 h2
   split at h1 <;> split at h2
   ·omega
   ·exact absurd h2 ((hfj b h1).1.2.2.2 k)
   ·exact absurd h1 ((hfj b h2).1.2.2.2 i)
   ·exact hI.inj i k b h1 h2
  ·rw [hHE] at hq
   rw [hmuE]
   by_cases e:id=c.H.length
   ·subst e
    have:q=o:=by
     rw [List.getElem?_append_right (by rw [List.length_set]; exact Nat.le_refl _)] at hq
     simp at hq; exact hq.symm
    subst this
    rw [if_pos rfl]
    refine ⟨hlen,?_⟩
    rcases Nat.eq_zero_or_pos cap with h0 | h0
    ·refine .inl ⟨?_,by omega⟩
     rw [hv]
     cases a <;> simp [blkOf,h0]
    ·rcases hor with hor | ⟨b,cs,T,rfl,h4,h5,h6⟩
     ·omega
     ·refine .inr ⟨b,cs,T,?_,h4,Nat.le_trans (Nat.mul_le_mul_right _ hle) h5,h6⟩
      rw [hv]; simp only [blkOf]; rw [if_neg (by omega)]
   ·have hlt:=(List.getElem?_eq_some_iff.1 hq).1
    rw [List.length_append,List.length_set,List.length_singleton] at hlt
    rw [List.getElem?_append_left (by rw [List.length_set]; omega)] at hq
    rw [if_neg e]
    by_cases e2:id=idf
    ·subst e2
     rw [List.getElem?_set_self hidf] at hq
     cases hq
     refine ⟨⟨hmu0,fun _ h=>by cases h⟩,fun i hi=>?_⟩
     by_cases e3:i=j
     ·subst e3; rw [UD,Zcd]; exact ZgK _ _ _
     ·rw [G5 e3,Zce e3]; exact hat i hi
    ·rw [List.getElem?_set_ne (Ne.symm e2)] at hq
     have hv:=hI.obj id q hq
     cases q with
     | box cells=>obtain ⟨k,cs',T',hk,h5,h6⟩:=hv; exact ⟨k,cs',T',hk,h5,h6.mono fun _ _=>Zg7 hI ho⟩
     | arr w1 n1 f1=>exact hv
     | fam _ _ _ _ _ _=>exact hv
     | mp _ _=>exact hv
     | gone=>exact hv
  ·rw [hHE,List.length_append,List.length_set,List.length_singleton] at hid
   rw [hmuE,if_neg (by omega)]
   exact hI.dom id (by omega)
  ·have h1:=hI.lent i v hv
   have hlt:i < c.H.length:=by
    have h6:=(List.getElem?_eq_some_iff.1 hv).1
    have h7:=(List.getElem?_eq_some_iff.1 (hI.mark (by intro e; rw [e] at h6; simp at h6))).1
    omega
   rw [hmuE,if_neg (by omega)]
   exact h1
  ·exact ZkM ho (hI.mark hl) (by simp)
  ·obtain ⟨q0,h3,h4,h5⟩:=hfold id q i b h1 h2
   obtain ⟨⟨h6,h7,h8,h9⟩,h10⟩:=hI.fam id q0 i b h3 h4
   refine ⟨⟨h6,h7,h8,fun k hk=>?_⟩,fun id' q' i' h11 h12=>?_⟩
   ·rw [hmuE] at hk
    split at hk
    ·exact h5 hk
    ·exact h9 k hk
   ·obtain ⟨q1,h13,h14,_⟩:=hfold id' q' i' b h11 h12
    exact h10 id' q1 i' h13 h14
 refine ⟨c',rfl,hInv,rfl,fun v d h=>ZmV hI ho h,?_⟩
 simp only [TV,AV,CV]
 refine ⟨wd,(ls j).1,(ls j).2,a,cap,?_,by omega,hv,hle,?_⟩
 ·show (c.H.set idf o'++[o])[c.H.length]? = _
  rw [List.getElem?_append_right (by rw [List.length_set]; exact Nat.le_refl _)]
  simp [o]
 ·rcases Nat.eq_zero_or_pos cap with h0 | h0
  ·exact .inl h0
  ·rcases hor with hor | ⟨b,cs,T,rfl,h4,h5,h6⟩
   ·omega
   ·refine .inr ⟨b,?_,by simp,cs,T,h4,by simpa using h5⟩
    show (if c.H.length=c.H.length then blkOf (vs j) else _)=_
    rw [if_pos rfl,hv]; simp only [blkOf]; rw [if_neg (by omega)]
def famIn:List Ob→Nat→Option (Nat × Nat × (Value→Bool) × Nat × Nat × (Nat→Value) × (Nat→Nat × (Nat→List D)))
 | [],_=>none
 | .fam foc is n wd vs ls :: _,k=>some (k,foc,is,n,wd,vs,ls)
 | _ :: r,k=>famIn r (k+1)
theorem Zbu:∀ (H:List Ob) (k:Nat) {idf foc n wd:Nat} {is:Value→Bool} {vs:Nat→Value} {ls:Nat→Nat × (Nat→List D)},famIn H k=some (idf,foc,is,n,wd,vs,ls)→k≤idf∧H[idf - k]? = some (.fam foc is n wd vs ls)
 | [],k,_,_,_,_,_,_,_,h=>by cases h
 | o :: r,k,idf,foc,n,wd,is,vs,ls,h=>by
  cases o with
  | fam a b d e f g=>simp only [famIn,Option.some.injEq,Prod.mk.injEq] at h; obtain ⟨rfl,rfl,rfl,rfl,rfl,rfl,rfl⟩:=h; exact ⟨Nat.le_refl _,by simp⟩
  | box _=>have:=Zbu r (k+1) h; exact ⟨by omega,by rw [show idf - k=(idf - (k+1))+1 by omega]; simpa using this.2⟩
  | arr _ _ _=>have:=Zbu r (k+1) h; exact ⟨by omega,by rw [show idf - k=(idf - (k+1))+1 by omega]; simpa using this.2⟩
  | mp _ _=>have:=Zbu r (k+1) h; exact ⟨by omega,by rw [show idf - k=(idf - (k+1))+1 by omega]; simpa using this.2⟩
  | gone=>have:=Zbu r (k+1) h; exact ⟨by omega,by rw [show idf - k=(idf - (k+1))+1 by omega]; simpa using this.2⟩
def appF (P:Program) (H:List Ob) (t:TypeId) (s x:D):Option (D × List Ob × Option Nat × List Bool) :=
 match s,famIn H 0 with
 | .val v,some (idf,foc,is,n,wd,vs,ls)=>match appD P (unfH H idf foc n wd vs ls foc) t (.asl H.length 0 (ls foc).1) x with
  | some (d,H',_,bs)=>some (d,H',none,is v :: decide (foc < n) :: bs)
  | none=>none
 | _,_=>none
theorem ZiO {F:Fr} {c:Ctx} (hI:Inv F c) {v:Value} {d:D} (h:CV c v d):mc c.H.length d=false:=by
 have key:∀ i b,c.mu i=some b→Nat.beq i c.H.length=false:=fun i b hb=>by
  cases hq:Nat.beq i c.H.length with
  | false=>rfl
  | true=>rw [hI.dom i (by have:=Nat.eq_of_beq_eq_true hq; omega)] at hb; cases hb
 cases d with
 | ref i off=>simp only [CV] at h; obtain ⟨b,hb,_⟩:=h; exact key i b hb
 | eref i j off=>simp only [CV] at h; obtain ⟨b,_,_,_,hb,_⟩:=h; exact key i b hb
 | asl i off len =>
  simp only [CV] at h
  obtain ⟨_,_,_,_,_,hb,_⟩:=h
  show Nat.beq i c.H.length=false
  cases hq:Nat.beq i c.H.length with
  | false=>rfl
  | true =>
   have:=(List.getElem?_eq_some_iff.1 hb).1
   have:=Nat.eq_of_beq_eq_true hq
   omega
 | _=>rfl
theorem ZiP {R:Value→D→Prop} {q:D→Bool} {vs:Array Value} {ds:List D} (h:∀ v d,R v d→q d=false) (k:Vs R vs ds):ds.any q=false:=by
 rw [List.any_eq_false]
 intro d hd
 obtain ⟨i,hi⟩:=List.getElem?_of_mem hd
 have hl:=(List.getElem?_eq_some_iff.1 hi).1
 rw [← k.1] at hl
 simp [h _ d (k.2 i vs[i] d (by simp [hl]) hi)]
theorem ZkO {F:Fr} {c:Ctx} (hI:Inv F c) {v:Value} {d:D} (h:AV c v d):ma c.H.length d=false:=by
 cases d <;> simp only [AV] at h <;> try exact ZiO hI h
 ·obtain ⟨vs,_,h2⟩:=h; exact ZiP (fun _ _=>ZiO hI) h2
 ·obtain ⟨vs,_,h2⟩:=h; exact ZiP (fun _ _=>ZiO hI) h2
theorem ZmW {F:Fr} {c:Ctx} (hI:Inv F c) {v:Value} {d:D} (h:TV c v d):mt c.H.length d=false:=by
 cases d <;> simp only [TV] at h <;> try exact ZkO hI h
 ·obtain ⟨vs,_,h2⟩:=h; exact ZiP (fun _ _=>ZkO hI) h2
 ·simp only [AV] at h; exact absurd h Qt
theorem Zl8 {P:Program} {F:Fr} {c:Ctx} (hI:Inv F c) {t ty:TypeId} {s x d:D} {H':List Ob} {pid:Option Nat} {bs:List Bool} (h:appF P c.H t s x=some (d,H',pid,bs)) (hb:∀ b∈bs,b=true)
  {u ux:Value} (hs:TV c u s) (hx:TV c ux x):Turns P F c (do pure (.value (← Builtin.append_ #[t,t] ty #[u,ux]))) d H' pid:=by
 unfold appF at h
 split at h <;> try cases h
 rename_i v idf foc is n wd vs ls hfam
 split at h <;> try cases h
 rename_i d0 H0 pid0 bs0 happ
 have hfo:c.H[idf]? = some (.fam foc is n wd vs ls):=by have:=(Zbu _ _ hfam).2; simpa using this
 have h1:=(hI.obj idf _ hfo).1.2 v (hb _ List.mem_cons_self)
 have h2:=of_decide_eq_true (hb _ (List.mem_cons_of_mem _ List.mem_cons_self))
 have hb0:∀ b∈bs0,b=true:=fun b hm=>hb b (List.mem_cons_of_mem _ (List.mem_cons_of_mem _ hm))
 simp only [TV,AV,CV] at hs
 cases hs
 subst h1
 obtain ⟨c',hw,hI',hH',htv,hasl⟩:=unfam hI hfo h2
 obtain ⟨v',c2,h3,h4,h5,h6,h7⟩:=Zjm (ty:=ty) hI' (by rw [hH']; exact happ) hb0 hasl (htv _ _ hx)
 rw [hw] at h3
 refine ⟨v',c2,h3,h4,h5,fun u e h=>?_,h7⟩
 have h8:=h6 u e (htv u e h)
 have hp:pid0=none∨pid0=some c.H.length:=by
  unfold appD at happ
  split at happ <;> try cases happ
  rename_i hel hsrc
  rename_i sz by_ wd' m g
  cases hw:Nat.beq wd' sz with
  | false=>rw [hw] at happ; cases happ
  | true =>
   rw [hw] at happ
   simp only [cond_true] at happ
   split at happ
   ·cases hw2:Nat.beq _ sz with
    | false=>rw [hw2] at happ; cases happ
    | true=>rw [hw2] at happ; simp only [cond_true,Option.some.injEq,Prod.mk.injEq] at happ; exact .inl happ.2.2.1.symm
   ·rename_i id off len hadj
    have hid:id=c.H.length:=by simp only [adj] at hadj; first | (cases hadj; rfl) | (split at hadj <;> first | (cases hadj; rfl) | cases hadj)
    split at happ <;> try cases happ
    rename_i wd2 n2 f2 _
    cases hw2:(Nat.beq wd2 sz&&Nat.beq off 0&&freeB (unfH c.H idf foc n wd vs ls foc) id) with
    | false=>rw [hw2] at happ; cases happ
    | true=>rw [hw2] at happ; simp only [cond_true,Option.some.injEq,Prod.mk.injEq] at happ; rw [← happ.2.2.1,hid]; exact .inr rfl
   ·cases happ
 rcases hp with rfl | rfl
 ·exact h8
 ·simp only [purge,ZmW hI h,cond_false] at h8
  exact h8
end Nv
namespace Nv
open Go Go.RowKit
def appP (P:Program) (H:List Ob) (t:TypeId) (s x:D):Option (D × List Bool) :=
 match elemD P t,srcD H (adj P t x),adj P t s with
 | some (sz,by_),some (wd,m,g),.sl true wd' (n+1) f =>
  bif Nat.beq wd sz&&Nat.beq wd' sz then some (.sl false sz (n+1+m) (app f (n+1) g),[decide ((n+1+m)*by_≤140737488355328)]) else none
 | _,_,_=>none
def appPD (P:Program) (H:List Ob) (ρ:Operand→D) (op:Op):Option (D × List Bool) :=
 match op with
 | .call { callee:=.builtin .append,args:=⟨[s,x]⟩,argTypes:=⟨[t,u]⟩ }=>bif Nat.beq t u then appP P H t (ρ s) (ρ x) else none
 | _=>none
theorem Zl9 {P:Program} {F:Fr} {c:Ctx} (hI:Inv F c) {t ty:TypeId} {s x d:D} {bs:List Bool} (h:appP P c.H t s x=some (d,bs)) (hb:∀ b∈bs,b=true)
  {vs vx:Value} (hs:TV c vs s) (hx:TV c vx x):Gives P F c (do pure (.value (← Builtin.append_ #[t,t] ty #[vs,vx]))) d:=by
 unfold appP at h
 split at h <;> try cases h
 rename_i sz by_ wd m g wd' n f hel hsrc hadj
 obtain ⟨hsz,hbp,e,ti,z,hE⟩:=ZfD hel
 have hx':=KW (P:=P) (t:=t) hx
 have hs':=KW (P:=P) (t:=t) hs
 obtain ⟨xa,xc,hv,hX⟩:=KY hI hsrc hx'
 cases hw:(Nat.beq wd sz&&Nat.beq wd' sz) with
 | false=>rw [hw] at h; cases h
 | true =>
  rw [hw] at h
  simp only [cond_true,Option.some.injEq,Prod.mk.injEq] at h
  obtain ⟨rfl,rfl⟩:=h
  simp only [Bool.and_eq_true] at hw
  obtain rfl:=Nat.eq_of_beq_eq_true hw.1
  obtain rfl:=Nat.eq_of_beq_eq_true hw.2
  have b2:(n+1+m)*by_≤140737488355328:=by simpa using hb _ (List.mem_singleton.2 rfl)
  rw [hadj] at hs'
  obtain ⟨a,cap,gv,hS⟩:=KY hI (x:=.sl true wd' (n+1) f) rfl hs'
  have hcap:cap=n+1:=by
   have h1:=hs'
   simp only [TV,AV,CV] at h1
   have h2:=hS.val
   subst h2
   cases h1 with
   | sl a n cap wd full f g hfull=>exact hfull rfl
  subst hcap
  rcases Nat.eq_zero_or_pos m with hm | hm
  ·subst hm
   obtain rfl:=hS.val
   obtain rfl:=hX.val
   have hr:=Rx (ty:=ty) hE c.w a (n+1) (n+1) (Nat.le_refl _) xa xc
   refine ⟨.slice a (n+1) (n+1),c,by simp [hr],hI,Goes.refl hI,Bw.refl _ _,?_⟩
   have ea:∀ i,i < n+1→app f (n+1) g i=f i:=fun i hi=>by
    have hlt:Nat.blt i (n+1)=true:=Nat.ble_eq_true_of_le hi
    simp only [app,hlt,cond_true]
   have h1:=hs'
   simp only [TV,AV,CV] at h1 ⊢
   cases h1 with
   | sl a n cap wd full f g' hfull hcap hb' hw' hone hv' =>
    exact .sl a _ _ _ false _ g' (fun h=>by cases h) hcap hb' (fun i hi=>by rw [ea i hi]; exact hw' i hi) hone (fun i hi j d hd=>hv' i hi j d (by rw [← ea i hi]; exact hd))
  ·have h63:n+1+m≤9223372036854775807:=by
    have:=Nat.le_mul_of_pos_right (n+1+m) hbp
    omega
   obtain ⟨cs,w',cap',hr,hm',hc1,hc2,hcells⟩:=Ry (ty:=ty) hE hS hX hm (by omega) (fun ha=>by
    obtain ⟨_,_,h1,_⟩:=hS.cell (by omega); rw [ha] at h1; cases h1) b2 h63
   have hgo:Goes c { c with I:=fun b=>c.I b∨b=c.w.heap.size,w:=w' } :=
    ⟨rfl,rfl,fun _ h=>.inl h,fun _ hb=>hm'.below.block _ hb,fun b hb=>(hI.imm b hb).1,fun id b hb=>(hI.loc id b hb).2.1⟩
   have hI':Inv F { c with I:=fun b=>c.I b∨b=c.w.heap.size,w:=w' } :=
    hI.goes hgo hm'.below fun _ hb=>hb.imp id fun e=>⟨by omega,by subst e; show c.w.heap.size < w'.heap.size; rw [hm'.size]; omega⟩
   refine ⟨.slice (some ⟨c.w.heap.size,0,none⟩) (n+1+m) cap',_,by simp [hr],hI',hgo,hm'.below,?_⟩
   have hlen:=Rz (n:=n+1) (m:=m) hS.len hX.len
   have key:∀ i,i < n+1+m→∀ j,j < wd'→∃ u,cs[i*wd'+j]? = some u∧u.oneCell'=true:=fun i hi j hj=>by
    obtain ⟨u,h1,h2,_⟩:=hcells i hi j _ (List.getElem?_eq_getElem (by rw [hlen i hi]; exact hj))
    exact ⟨u,h1,h2⟩
   simp only [TV,AV,CV]
   refine .sl _ (n+1+m) cap' wd' false _ (fun i j=>cs.getD (i*wd'+j) undef) (fun h=>by cases h) hc1 (fun _=>⟨c.w.heap.size,0,rfl,.inr rfl,fun i hi j hj=>?_⟩) hlen (fun i hi j hj=>?_) (fun i hi j d hd=>?_)
   ·obtain ⟨u,h1,_⟩:=key i hi j hj
    simp [World.cell?,hm'.new,h1]
   ·obtain ⟨u,h1,h2⟩:=key i hi j hj
    show (cs.getD (i*wd'+j) undef).oneCell'=true
    rw [show cs.getD (i*wd'+j) undef=u by simp [h1]]
    exact h2
   ·obtain ⟨u,h1,_,h3⟩:=hcells i hi j d hd
    show PV _ _ (cs.getD (i*wd'+j) undef) d
    rw [show cs.getD (i*wd'+j) undef=u by simp [h1]]
    exact h3.mono (fun _ h=>.inl h) fun b hb=>hm'.below.block b (hI.imm b hb).1
theorem ZhX {P:Program} {F:Fr} {c:Ctx} (hI:Inv F c) {ρc:Operand→Value} {ρd:Operand→D} {o:Oper} (hρ:∀ x∈o.op.operands.toList,TV c (ρc x) (ρd x))
  {d:D} {bs:List Bool} (h:appPD P c.H ρd o.op=some (d,bs)) (hb:∀ b∈bs,b=true):Gives P F c (execOp ρc o) d:=by
 obtain ⟨dst,op,type,pos,after,guard⟩:=o
 unfold appPD at h
 simp only at h hρ
 split at h
 ·rename_i s x t u
  cases htu:Nat.beq t u with
  | false=>simp [htu] at h
  | true =>
   simp only [htu,cond_true] at h
   obtain rfl:=Nat.eq_of_beq_eq_true htu
   obtain ⟨v,c',h1,h2⟩:=Zl9 (ty:=type) hI h hb (hρ s (by simp [Op.operands,Call.operands])) (hρ x (by simp [Op.operands,Call.operands]))
   exact ⟨v,c',by simpa [execOp,resolve,invoke,builtin] using h1,h2⟩
 ·cases h
end Nv
namespace Nv
open Go Go.RowKit
def clrR (zs:List D) (off len:Nat) (f:Nat→List D) (i:Nat):List D:=bif Nat.ble off i&&Nat.blt i (off+len) then zs else f i
def clrD (P:Program) (H:List Ob) (ρ:Operand→D) (op:Op):Option (List Ob) :=
 match op with
 | .call { callee:=.builtin .clear,args:=⟨[x]⟩,argTypes:=⟨[t]⟩ }=>match P.underlying t,ρ x with
  | some (.slice e),.asl id off len=>match H[id]?,zeroD P e with
   | some (.arr wd n f),some zs=>bif Nat.beq zs.length wd&&zs.all (fun d=>persB d&&cellB d) then some (H.set id (.arr wd n (clrR zs off len f))) else none
   | _,_=>none
  | _,_=>none
 | _=>none
theorem ZcL {z:Array Value} {wd:Nat} (hw:z.size=wd) (n i j:Nat) (hi:i < n) (hj:j < wd):(Builtin.zeroCells z n).toList[i*wd+j]? = some (z.getD j undef):=by
 subst hw
 have h1:=ZeL hi hj
 have h3:(i*z.size+j) % z.size=j:=by rw [Nat.mul_comm,Nat.mul_add_mod]; exact Nat.mod_eq_of_lt hj
 simp [Builtin.zeroCells,h1,h3,hj]
theorem ZcM (z:Array Value) (n:Nat):(Builtin.zeroCells z n).toList.length=n*z.size:=by simp [Builtin.zeroCells]
theorem ZjY (zs:List D) (off:Nat) (f:Nat→List D):clrR zs off 0 f=f:=by
 funext i
 unfold clrR
 have:(Nat.ble off i&&Nat.blt i (off+0))=false:=by
  cases h1:Nat.ble off i with
  | false=>rfl
  | true =>
   have:=Nat.le_of_ble_eq_true h1
   cases h2:Nat.blt i (off+0) with
   | false=>rfl
   | true=>have:=XW h2; omega
 rw [this]; rfl
theorem Zjn {P:Program} {F:Fr} {c:Ctx} (hI:Inv F c) {ρc:Operand→Value} {ρd:Operand→D} {o:Oper} (hρ:∀ x∈o.op.operands.toList,TV c (ρc x) (ρd x))
  {H':List Ob} (h:clrD P c.H ρd o.op=some H'):Turns P F c (execOp ρc o) .any H' none:=by
 obtain ⟨dst,op,type,pos,after,guard⟩:=o
 unfold clrD at h
 simp only at h hρ
 split at h <;> try cases h
 rename_i x t
 split at h <;> try cases h
 rename_i e id off len hu hx
 split at h <;> try cases h
 rename_i wd n f zs ho hz
 cases hc:(Nat.beq zs.length wd&&zs.all (fun d=>persB d&&cellB d)) with
 | false=>rw [hc] at h; cases h
 | true =>
  rw [hc] at h
  simp only [cond_true,Option.some.injEq] at h
  subst h
  simp only [Bool.and_eq_true,List.all_eq_true] at hc
  have hzl:=Nat.eq_of_beq_eq_true hc.1
  have hv:=hρ x (by simp [Op.operands,Call.operands])
  rw [hx] at hv
  simp only [TV,AV,CV] at hv
  obtain ⟨wd',n',f',a,cap,ho',hl,hval,hcap,hor⟩:=hv
  rw [ho] at ho'
  cases ho'
  obtain ⟨z,hz1,hz2⟩:=KX hz c
  have hzs:z.cells.size=wd:=by rw [hz2.1,hzl]
  have hex:(execOp ρc ⟨dst,.call { callee:=.builtin .clear,args:=#[x],argTypes:=#[t] },type,pos,after,guard⟩)=(do pure (.value (← Builtin.clear_ #[t] type #[ρc x]))):=by
   simp [execOp,resolve,invoke,builtin]
  rw [hex,hval]
  cases len with
  | zero =>
   have e1:c.H.set id (.arr wd n (clrR zs off 0 f))=c.H:=by
    rw [ZjY]
    apply List.ext_getElem?
    intro i
    by_cases hi:id=i
    ·subst hi; rw [List.getElem?_set_self (List.getElem?_eq_some_iff.1 ho).1]; exact ho.symm
    ·rw [List.getElem?_set_ne hi]
   rw [e1]
   refine ⟨.tuple #[],c,.inl ?_,hI,rfl,fun u e h=>h,WS⟩
   cases a <;> simp [Builtin.clear_,run_underlying hu]
  | succ len =>
   rcases hor with h0 | ⟨b,hmu,rfl,hroom⟩
   ·omega
   obtain ⟨hw,hor⟩:=hI.obj id _ ho
   rcases hor with ⟨h0,_⟩ | ⟨b',old,T,hb',hh,hn,hvs⟩
   ·rw [hmu] at h0; cases h0
   rw [hmu] at hb'
   cases hb'
   have hbound:off*wd+(len+1)*wd≤n*wd:=by
    rw [← Nat.add_mul]; exact Nat.mul_le_mul_right wd hl
   have hone:∀ v∈(Builtin.zeroCells z.cells (len+1)).toList,v.oneCell'=true:=by
    intro v hv
    obtain ⟨q,hq,rfl⟩:=List.getElem_of_mem hv
    have hq':q < (len+1)*wd:=by rw [ZcM,hzs] at hq; exact hq
    obtain ⟨f1,f2⟩:=Zbt hq'
    have:=ZcL hzs (len+1) (q / wd) (q % wd) f1 f2
    rw [show q / wd*wd+q % wd=q by have:=Nat.div_add_mod q wd; rw [Nat.mul_comm] at this; exact this,List.getElem?_eq_getElem hq] at this
    have hj:q % wd < z.cells.size:=by rw [hzs]; exact f2
    rw [Option.some.inj this]
    have hjz:q % wd < zs.length:=by rw [hzl]; exact f2
    exact Zbm (hc.2 _ (List.getElem_mem hjz)).2 (hz2.2 (q % wd) _ zs[q % wd] (by simp [hj]) (by simp [hjz]))
   have hlen:(Builtin.zeroCells z.cells (len+1)).toList.length=(len+1)*wd:=by rw [ZcM,hzs]
   have hfit:off*wd+(Builtin.zeroCells z.cells (len+1)).toList.length≤old.size:=by rw [hlen]; omega
   have hrow:=run_storeCells_at (P:=P) b (off*wd) T (Builtin.zeroCells z.cells (len+1)).toList 0 old c.w hh (by simpa using hfit) hone
   have hsame:Ob.same (.arr wd n f) (.arr wd n (clrR zs off (len+1) f)):=⟨rfl,rfl⟩
   have hssz:=GU hfit
   have inb:∀ j,(Nat.ble off j&&Nat.blt j (off+(len+1)))=true↔off≤j∧j < off+(len+1):=fun j=>by
    rw [Bool.and_eq_true]
    exact ⟨fun ⟨h1,h2⟩=>⟨Nat.le_of_ble_eq_true h1,XW h2⟩,fun ⟨h1,h2⟩=>⟨Nat.ble_eq_true_of_le h1,Nat.ble_eq_true_of_le h2⟩⟩
   refine ⟨.tuple #[],c.put id _ b (splV old (Builtin.zeroCells z.cells (len+1)).toList (off*wd)),.inl ?_,?_,rfl,fun u e hu=>ZiM hI ho hsame hmu hh hssz hu,WS⟩
   ·simp only [Builtin.clear_,Sem.run_bind,run_underlying hu,Result.andThen_ok,hz1,hrow,Nat.add_zero,Sem.run_pure,List.getElem?_toArray,List.getElem?_cons_zero]
    rfl
   ·refine Zg5 hI ho hsame hmu hh hssz ⟨fun j hj=>?_,.inr ⟨b,_,T,rfl,setRow_heap _ _ _ _ _ _ hh,by rw [hssz]; exact hn,fun j hj q d hd=>?_⟩⟩
    ·unfold clrR
     cases hji:(Nat.ble off j&&Nat.blt j (off+(len+1))) with
     | true=>exact hzl
     | false=>exact hw j hj
    ·show ∃ v,(splV old (Builtin.zeroCells z.cells (len+1)).toList (off*wd))[j*wd+q]? = some v∧v.oneCell'=true∧PV c.I (c.w.setRow b _) v d
     rw [Zbp hfit,hlen]
     unfold clrR at hd
     cases hji:(Nat.ble off j&&Nat.blt j (off+(len+1))) with
     | true =>
      rw [hji] at hd
      simp only [cond_true] at hd
      obtain ⟨g1,g2⟩:=(inb j).1 hji
      have hq:q < wd:=by rw [← hzl]; exact (List.getElem?_eq_some_iff.1 hd).1
      have g3:off*wd≤j*wd:=Nat.mul_le_mul_right wd g1
      have g4:j*wd+wd≤off*wd+(len+1)*wd:=by
       rw [← Nat.add_mul,← Nat.succ_mul]; exact Nat.mul_le_mul_right wd g2
      rw [if_pos (by omega)]
      have hjq:j*wd+q - off*wd=(j - off)*wd+q:=by rw [Nat.sub_mul]; omega
      have hqz:q < z.cells.size:=by rw [hzs]; exact hq
      have:=ZcL hzs (len+1) (j - off) q (by omega) hq
      rw [hjq,this]
      have hmem:d∈zs:=List.mem_of_getElem? hd
      have hcv:=hz2.2 q (z.cells.getD q undef) d (by simp [hqz]) hd
      exact ⟨z.cells.getD q undef,rfl,Zbm (hc.2 d hmem).2 hcv,Zbo hI hmu (Kt (hc.2 d hmem).1 hcv)⟩
     | false =>
      rw [hji] at hd
      simp only [cond_false] at hd
      have hq:q < wd:=by rw [← hw j hj]; exact (List.getElem?_eq_some_iff.1 hd).1
      have hout:¬ (off*wd≤j*wd+q∧j*wd+q < off*wd+(len+1)*wd):=by
       rintro ⟨g1,g2⟩
       have hnot:¬ (off≤j∧j < off+(len+1)):=fun h=>by rw [(inb j).2 h] at hji; cases hji
       rcases Nat.lt_or_ge j off with g3 | g3
       ·have:=Nat.mul_le_mul_right wd g3; rw [Nat.succ_mul] at this; omega
       ·have g4:off+(len+1)≤j:=by omega
        have:=Nat.mul_le_mul_right wd g4; rw [Nat.add_mul] at this; omega
      rw [if_neg hout]
      obtain ⟨v,h1,h2,h3⟩:=hvs j hj q d hd
      exact ⟨v,h1,h2,Zbo hI hmu h3⟩
end Nv
namespace Nv
open Go Go.RowKit
def NoCtx (I:Nat→Prop) (w:World):Ctx:={ I:=I,mu:=fun _=>none,H:=[],w:=w }
def Fresh (I0:Nat→Prop) (w w':World) (I1:Nat→Prop):Prop:=∀ b,I1 b→I0 b∨(w.heap.size≤b∧b < w'.heap.size)
def Own (I:Nat→Prop) (B:Nat) (w:World) (v:Value) (wd n:Nat) (g:Nat→List D):Prop :=
 ∃ a cap,v = .slice a n cap∧n≤cap∧(∀ i,i < n→(g i).length=wd) ∧
  (cap=0∨∃ b cs T,a=some ⟨b,0,none⟩∧B≤b∧b < w.heap.size∧¬ I b∧w.heap[b]? = some (.cells cs T (0,0))∧cap*wd≤cs.size ∧
   ∀ i,i < n→∀ (j:Nat) (d:D),(g i)[j]? = some d→∃ u,cs[i*wd+j]? = some u∧u.oneCell'=true∧PV I w u d)
inductive Res where
 | pure (d:D)
 | own (wd n:Nat) (g:Nat→List D)
 | lnd (wd n:Nat) (g g':Nat→List D) (d:D)
def RV (I:Nat→Prop) (B:Nat) (w:World) (v:Value):Res→Prop
 | .pure d=>TV (NoCtx I w) v d
 | .own wd n g=>Own I B w v wd n g
 | .lnd _ _ _ _ _=>False
def Fn (P:Program) (f:FuncId) (ds:List D) (r:Res):Prop :=
 ∀ (I0:Nat→Prop) (w:World) (vs:Array Value),GT P w→(∀ b,I0 b→b < w.heap.size)→Vs (AV (NoCtx I0 w)) vs ds →
  Calls P f vs w fun e w'=>∃ v I1,e = .returned v∧Bw w.heap.size w w'∧Fresh I0 w w' I1∧RV I1 w.heap.size w' v r
def Lctx (I:Nat→Prop) (m:Option Nat) (o:Ob) (w:World):Ctx:={ I:=I,mu:=fun i=>if i=0 then m else none,H:=[o,.gone],w:=w }
def FnM (P:Program) (f:FuncId) (ds:List D) (wd n:Nat) (g g':Nat→List D) (d:D):Prop :=
 ∀ (I0:Nat→Prop) (w:World) (m:Option Nat) (vs:Array Value),GT P w→(∀ g,tabG P g=true→m ≠ some g)→(∀ b,I0 b→b < w.heap.size)→(∀ b,m=some b→b < w.heap.size∧¬ I0 b)→OV (Lctx I0 m (.arr wd n g) w) m (.arr wd n g)→Vs (AV (Lctx I0 m (.arr wd n g) w)) vs ds →
  Calls P f vs w fun e w'=>∃ v I1,e = .returned v∧Bel ⟨w,I0,[m]⟩ w'∧Fresh I0 w w' I1∧OV (Lctx I1 m (.arr wd n g') w') m (.arr wd n g')∧TV (Lctx I1 m (.arr wd n g') w') v d
theorem nocv {I I':Nat→Prop} {w:World} {v:Value} {d:D} {mu:Nat→Option Nat} {H:List Ob} (hI:∀ b,I b→I' b) (h:CV (NoCtx I w) v d):CV ⟨I',mu,H,w⟩ v d:=by
 cases d <;> simp only [CV] at h ⊢ <;> try exact h.mono hI fun _ _=>rfl
 ·obtain ⟨b,hb,_⟩:=h; simp [NoCtx] at hb
 ·obtain ⟨b,_,_,_,hb,_⟩:=h; simp [NoCtx] at hb
 ·obtain ⟨_,_,_,_,_,hb,_⟩:=h; simp [NoCtx] at hb
theorem noav {I I':Nat→Prop} {w:World} {v:Value} {d:D} {mu:Nat→Option Nat} {H:List Ob} (hI:∀ b,I b→I' b) (h:AV (NoCtx I w) v d):AV ⟨I',mu,H,w⟩ v d:=by
 cases d <;> simp only [AV] at h ⊢ <;> try exact nocv hI h
 ·obtain ⟨vs,h1,h2⟩:=h; exact ⟨vs,h1,h2.mono fun _ _=>nocv hI⟩
 ·obtain ⟨vs,h1,h2⟩:=h; exact ⟨vs,h1,h2.mono fun _ _=>nocv hI⟩
theorem notv {I I':Nat→Prop} {w:World} {v:Value} {d:D} {mu:Nat→Option Nat} {H:List Ob} (hI:∀ b,I b→I' b) (h:TV (NoCtx I w) v d):TV ⟨I',mu,H,w⟩ v d:=by
 cases d <;> simp only [TV] at h ⊢ <;> try exact noav hI h
 obtain ⟨vs,h1,h2⟩:=h; exact ⟨vs,h1,h2.mono fun _ _=>noav hI⟩
def normC (H:List Ob):D→D
 | .sl _ wd n f=>.sl false wd n f
 | .asl id off len=>match H[id]? with
  | some (.arr wd _ f)=>.sl false wd len fun i=>f (off+i)
  | _=>.asl id off len
 | .ref id off=>match H[id]? with
  | some (.box cells)=>bif cells.all persB then .pp (cells.drop off) else .ref id off
  | _=>.ref id off
 | d=>d
def normA (_P:Program) (H:List Ob) (_t:TypeId) (d:D):D :=
 match d with
 | .agg cs=>.agg (cs.map (normC H))
 | .fn f cap=>.fn f (cap.map (normC H))
 | d=>normC H d
def pArg:D→Bool
 | .agg cs=>cs.all persB
 | .fn _ cap=>cap.all persB
 | d=>persB d
def ownC:D→Bool
 | .asl _ _ _=>true
 | .ref _ _=>true
 | _=>false
def ownA:D→Bool
 | .agg cs=>cs.any ownC
 | .fn _ cap=>cap.any ownC
 | d=>ownC d
def scalarC:D→Bool
 | .int _ _ | .bool _ | .str _=>true
 | _=>false
def scalarB:Res→Bool
 | .pure (.tup ds)=>ds.all scalarC
 | .pure d=>scalarC d
 | .own _ _ _=>false
 | .lnd _ _ _ _ _=>false
def notMut:Res→Bool
 | .lnd _ _ _ _ _=>false
 | _=>true
def Iall (c:Ctx) (b:Nat):Prop:=c.I b∨∃ id,c.mu id=some b
theorem Zjo {I:Nat→Prop} {w:World} {v:Value} {full:Bool} {wd n:Nat} {f:Nat→List D} (h:PV I w v (.sl full wd n f)):PV I w v (.sl false wd n f):=by
 cases h with
 | sl a n cap wd full f g hfull hcap hb hw hone hv=>exact .sl a n cap wd false f g (fun h=>by cases h) hcap hb hw hone hv
theorem Zek {F:Fr} {c:Ctx} (hI:Inv F c) {v:Value} {d:D} (h:CV c v d) (hp:persB (normC c.H d)=true):PV (Iall c) c.w v (normC c.H d):=by
 cases d <;> simp only [normC] at hp ⊢ <;> simp only [CV] at h <;> try exact h.mono (fun _ h=>.inl h) fun _ _=>rfl
 ·exact (Zjo h).mono (fun _ h=>.inl h) fun _ _=>rfl
 ·rename_i id off
  obtain ⟨b,hb,rfl⟩:=h
  split at hp <;> try (simp [persB] at hp; done)
  rename_i cells ho
  cases hc:cells.all persB with
  | false=>rw [hc] at hp; simp [persB] at hp
  | true =>
   simp only [cond_true]
   obtain ⟨b',cs,T,hb',hcs,hvs⟩:=hI.obj id _ ho
   rw [hb] at hb'
   cases hb'
   have hget:∀ j,j < (cells.drop off).length→off+j < cs.size:=fun j hj=>by
    rw [hvs.1]; simp at hj; omega
   refine .pp b off _ (fun j=>cs.getD (off+j) undef) (.inr ⟨id,hb⟩) (fun j hj=>?_) (fun j d hd=>?_)
   ·have:=hget j hj
    simp [World.cell?,hcs,this]
   ·have hj:=(List.getElem?_eq_some_iff.1 hd).1
    have h1:=hget j hj
    rw [List.getElem?_drop] at hd
    have h2:=hvs.2 (off+j) (cs.getD (off+j) undef) d (by simp [h1]) hd
    exact (Kt (List.all_eq_true.1 hc d (List.mem_of_getElem? hd)) h2).mono (fun _ h=>.inl h) fun _ _=>rfl
 ·simp [persB] at hp
 ·rename_i id off len
  have h1:TV c v (.asl id off len):=by simp only [TV,AV,CV]; exact h
  obtain ⟨wd,n,f,a0,cap0,ho,hl,hv0,hc0,hor⟩:=h
  simp only [ho]
  obtain ⟨a,cap,gv,hS⟩:=KY hI (x:=.asl id off len) (wd:=wd) (m:=len) (g:=fun i=>f (off+i)) (by simp only [srcD,ho]) h1
  have hval:=hS.val
  rw [hv0] at hval
  cases hval
  subst hv0
  refine .sl a0 len cap0 wd false _ gv (fun h=>by cases h) hS.le (fun hn=>?_) hS.len hS.one fun i hi j d hd=>(hS.pv i hi j d hd).mono (fun _ h=>.inl h) fun _ _=>rfl
  obtain ⟨b,o,ha,hc⟩:=hS.cell hn
  rcases hor with h0 | ⟨b',hb',ha',_⟩
  ·omega
  ·rw [ha] at ha'
   cases ha'
   exact ⟨_,_,ha,.inr ⟨id,hb'⟩,hc⟩
theorem Zjp {c:Ctx} {v:Value} {d:D} (h:CV c v d) (hp:persB (normC c.H d)=true) (ho:ownC d=false):PV c.I c.w v (normC c.H d):=by
 cases d <;> simp only [normC] at hp ⊢ <;> simp only [CV] at h <;> try exact h
 ·exact Zjo h
 ·simp [ownC] at ho
 ·simp [persB] at hp
 ·simp [ownC] at ho
theorem nopv {I:Nat→Prop} {w:World} {v:Value} {d:D} (h:PV I w v d):CV (NoCtx I w) v d:=Zfv h
theorem Zc1 (H:List Ob) (d:D) (h1:∀ cs,d ≠ .agg cs) (h2:∀ f cs,d ≠ .fn f cs):pArg (normC H d)=persB (normC H d):=by
 cases d <;> first | exact absurd rfl (h1 _) | exact absurd rfl (h2 _ _) | rfl | skip
 ·simp only [normC]
  split
  ·rename_i cells _
   cases cells.all persB <;> rfl
  ·rfl
 ·simp only [normC]
  split <;> rfl
theorem ZkP {P:Program} {c:Ctx} {I:Nat→Prop} {t:TypeId} {v:Value} {d:D} (hv:TV c v d) (hp:pArg (normA P c.H t d)=true)
  (hc:∀ v e,CV c v e→persB (normC c.H e)=true→(ownC e=true→ownA (adj P t d)=true)→PV I c.w v (normC c.H e)) (_hII:∀ b,c.I b→I b):AV (NoCtx I c.w) v (normA P c.H t d):=by
 have h1:=hv
 unfold normA at hp ⊢
 cases d with
 | agg cs =>
  simp only [pArg,List.all_eq_true,List.mem_map,forall_exists_index,and_imp,forall_apply_eq_imp_iff₂] at hp
  obtain ⟨vs,rfl,hvs⟩:=h1
  refine ⟨vs,rfl,by simp [hvs.1],fun i v d' h2 h3=>?_⟩
  rw [List.getElem?_map] at h3
  obtain ⟨e,he,rfl⟩:=Option.map_eq_some_iff.1 h3
  refine nopv (hc v e (hvs.2 i v e h2 he) (hp e (List.mem_of_getElem? he)) fun ho=>?_)
  simp only [adj,ownA,List.any_eq_true]
  exact ⟨e,List.mem_of_getElem? he,ho⟩
 | fn f cap =>
  simp only [pArg,List.all_eq_true,List.mem_map,forall_exists_index,and_imp,forall_apply_eq_imp_iff₂] at hp
  obtain ⟨vs,rfl,hvs⟩:=h1
  refine ⟨vs,rfl,by simp [hvs.1],fun i v d' h2 h3=>?_⟩
  rw [List.getElem?_map] at h3
  obtain ⟨e,he,rfl⟩:=Option.map_eq_some_iff.1 h3
  refine nopv (hc v e (hvs.2 i v e h2 he) (hp e (List.mem_of_getElem? he)) fun ho=>?_)
  simp only [adj,ownA,List.any_eq_true]
  exact ⟨e,List.mem_of_getElem? he,ho⟩
 | nils =>
  refine Kw (nopv (hc v .nils ?_ rfl (fun h=>by cases h)))
  simpa only [TV,AV] using h1
 | tup ds=>simp [normC,pArg,persB] at hp
 | opt j w d=>simp [normC,pArg,persB] at hp
 | _ =>
  refine Kw (nopv (hc v _ ?_ ?_ ?_))
  ·simpa only [TV,AV] using h1
  ·rw [← Zc1 _ _ (by simp) (by simp)]; exact hp
  ·exact fun h=>h
end Nv
namespace Nv
open Go Go.RowKit
def find:List (Nat × D)→Nat→D
 | [],_=>.any
 | (u,d) :: r,t=>bif Nat.beq u t then d else find r t
def evD (env:List (Nat × D)):Operand→D
 | .tmp t=>find env t
 | .const v=>dv v
 | .func f=>.fn f []
 | .global _=>.any
structure Req where
 g:Bool
 f:FuncId
 ds:List D
 r:Res
def Req.ok (P:Program) (q:Req):Prop:=match q.r with
 | .lnd wd n g g' d=>q.g=true→FnM P q.f q.ds wd n g g' d
 | r=>q.g=true→Fn P q.f q.ds r
def gch (ops:Array Oper):Nat→Option (Nat × Bool)→List (Nat × Bool)
 | 0,_=>[]
 | _+1,none=>[]
 | n+1,some (j,w)=>(j,w) :: gch ops n ((ops[j]?).bind (·.guard))
def look (ops:Array Oper) (env:List (Nat × D)) (j:Nat):D :=
 match (ops[j]?).bind (·.dst) with
 | some t=>find env t
 | none=>.any
def gEval (ops:Array Oper) (env:List (Nat × D)):List (Nat × Bool)→Option Bool
 | []=>some true
 | [(j,w)]=>match look ops env j with
  | .bool b=>some (bif w then b else !b)
  | _=>none
 | (j,w) :: (j0,w0) :: r=>match look ops env j,gEval ops env ((j0,w0) :: r) with
  | .opt j' w' (.bool b),some g=>bif Nat.beq j' j0&&(w'==w0) then some (g&&(bif w then b else !b)) else none
  | _,_=>none
def unwrap (al:List (Nat × Bool)):D→D
 | .opt j w d=>bif al.any (fun p=>Nat.beq p.1 j&&(p.2==w)) then d else .any
 | d=>d
def unwrapT (ops:Array Oper) (c:Operand) (w:Bool) (al:List (Nat × Bool)) (d:D):D :=
 match c,d with
 | .tmp t,.opt j w' d'=>bif (w'==w)&&(match (ops[j]?).bind (·.dst) with | some u=>Nat.beq u t | none=>false) then d' else unwrap al (.opt j w' d')
 | _,d=>unwrap al d
def isFalse:Operand→Bool
 | .const (.bool false)=>true
 | _=>false
def isTrue:Operand→Bool
 | .const (.bool true)=>true
 | _=>false
def pickD (ops:Array Oper) (env:List (Nat × D)) (al:List (Nat × Bool)) (c x y:Operand):Option D :=
 match unwrap al (evD env c) with
 | .bool b=>match unwrapT ops c true al (evD env x),unwrapT ops c false al (evD env y) with
  | .bool p,.bool q=>bif isFalse y then some (.bool (b&&p)) else bif isTrue x then some (.bool (b||q)) else some (.bool (bif b then p else q))
  | _,_=>none
 | _=>none
def callable (P : Program) (f : FuncId) : Bool :=
  match P.funcs[f]? with
  | some fn => !(fn.name == "runtime.NumGoroutine") && fn.body.isSome
  | none => false
def argsD (P:Program) (H:List Ob):List TypeId→List D→List D
 | t :: ts,d :: ds=>normA P H t d :: argsD P H ts ds
 | _,_=>[]
def guardB (g b:Bool):Bool:=bif g then b else true
def opD (P:Program) (H:List Ob) (ops:Array Oper) (env:List (Nat × D)) (al:List (Nat × Bool)) (orc:List Res) (g:Bool) (o:Oper):Option (Res × List Bool × List Req × List Res) :=
 match o.op with
 | .pick c x y=>(pickD ops env al c x y).map fun d=>(.pure d,[],[],orc)
 | .call { callee:=.value f,args:=args,argTypes:=ts }=>match unwrap al (evD env f),orc with
  | .fn k cap,r :: orc' =>
   bif callable P k&&(argsD P H ts.toList (args.toList.map fun x=>unwrap al (evD env x))).all pArg&&Nat.beq args.size ts.size&&cap.all persB &&
     (scalarB r || !(args.toList.any fun x=>ownA (unwrap al (evD env x))))&&notMut r then
    some (r,[],[⟨g,k,argsD P H ts.toList (args.toList.map fun x=>unwrap al (evD env x))++cap,r⟩],orc') else none
  | _,_=>none
 | op=>(pureOp P H (fun x=>unwrap al (evD env x)) o.type op).map fun r=>(.pure r.1,r.2.map (guardB g),[],orc)
section
variable {c:Ctx} {ops:Array Oper} {a:Act} {env:List (Nat × D)}
theorem Zg8 {j t:Nat} {b:Bool} (hd:(ops[j]?).bind (·.dst)=some t) (h:a.tmps.getD t undef = .bool b):yielded ops a.tmps j=some b:=by
 unfold yielded
 rw [hd]
 simp only [Option.bind_some]
 rcases Nat.lt_or_ge t a.tmps.size with h1 | h1
 ·simp [h1] at h
  simp [h1,h]
 ·simp [h1,undef] at h
theorem ZhY {j t:Nat} {b:Bool} (hd:(ops[j]?).bind (·.dst)=some t) (h:yielded ops a.tmps j=some b):a.tmps.getD t undef = .bool b:=by
 unfold yielded at h
 rw [hd] at h
 simp only [Option.bind_some] at h
 split at h
 ·rename_i b' hb
  simp only [Option.some.injEq] at h
  subst h
  simp [hb]
 ·cases h
theorem ZhZ {j:Nat} {b:Bool} (h:yielded ops a.tmps j=some b):∃ t,(ops[j]?).bind (·.dst)=some t:=by
 unfold yielded at h
 cases hd:(ops[j]?).bind (·.dst) with
 | none=>rw [hd] at h; simp at h
 | some t=>exact ⟨t,rfl⟩
def GuardFacts (ops:Array Oper) (a:Act) (c:Ctx) (env:List (Nat × D)) (ch:List (Nat × Bool)):Prop :=
 ∀ p∈ch,∀ t,(ops[p.1]?).bind (·.dst)=some t→GV (yielded ops a.tmps) c (a.tmps.getD t undef) (find env t)
theorem Zh0:∀ (n:Nat) (gd:Option (Nat × Bool)) (g:Bool),GuardFacts ops a c env (gch ops n gd)→gEval ops env (gch ops n gd)=some g →
  (∀ j w,gd=some (j,w)→yielded ops a.tmps j=some w)→(∀ p∈gch ops n gd,yielded ops a.tmps p.1=some p.2)∧g=true
 | 0,gd,g,_,hg,_=>by
  simp only [gch,gEval,Option.some.injEq] at hg
  exact ⟨fun p hp=>by simp [gch] at hp,hg.symm⟩
 | n+1,none,g,_,hg,_=>by
  simp only [gch,gEval,Option.some.injEq] at hg
  exact ⟨fun p hp=>by simp [gch] at hp,hg.symm⟩
 | n+1,some (j,w),g,hf,hg,hy=>by
  have hj:=hy j w rfl
  obtain ⟨t,ht⟩:=ZhZ hj
  have hv:=ZhY ht hj
  have hgv:=hf (j,w) (by simp [gch]) t ht
  rw [hv] at hgv
  simp only [gch] at hg ⊢
  cases hr:gch ops n ((ops[j]?).bind (·.guard)) with
  | nil =>
   rw [hr] at hg
   simp only [gEval] at hg
   split at hg <;> try cases hg
   rename_i b hb
   simp only [look,ht] at hb
   rw [hb] at hgv
   have:=TV.bool_inv (show TV c (.bool w) (.bool b) from hgv)
   cases this
   refine ⟨fun p hp=>by simp at hp; subst hp; exact hj,?_⟩
   cases w <;> rfl
  | cons q r =>
   obtain ⟨j0,w0⟩:=q
   rw [hr] at hg
   simp only [gEval] at hg
   split at hg <;> try cases hg
   rename_i j' w' b g0 hb hg0
   cases hc:(Nat.beq j' j0&&(w'==w0)) with
   | false=>rw [hc] at hg; cases hg
   | true =>
    simp only [hc,cond_true,Option.some.injEq] at hg
    simp only [Bool.and_eq_true,beq_iff_eq] at hc
    obtain rfl:=Nat.eq_of_beq_eq_true hc.1
    obtain rfl:=hc.2
    simp only [look,ht] at hb
    rw [hb] at hgv
    rcases hgv with ⟨h1,h2⟩ | ⟨_,h2⟩
    ·have hgd:(ops[j]?).bind (·.guard)=some (j',w'):=by
      cases n with
      | zero=>simp [gch] at hr
      | succ n =>
       cases hgg:(ops[j]?).bind (·.guard) with
       | none=>rw [hgg] at hr; simp [gch] at hr
       | some q=>obtain ⟨q1,q2⟩:=q; rw [hgg] at hr; simp only [gch,List.cons.injEq,Prod.mk.injEq] at hr; obtain ⟨⟨rfl,rfl⟩,_⟩:=hr; rfl
     have ih:=Zh0 n ((ops[j]?).bind (·.guard)) g0 (fun p hp=>hf p (by simp only [gch]; exact List.mem_cons_of_mem _ hp)) (by rw [hr]; exact hg0) (fun j1 w1 h3=>by rw [hgd] at h3; cases h3; exact h1)
     rw [hr] at ih
     have hbw:=TV.bool_inv h2
     cases hbw
     refine ⟨fun p hp=>?_,?_⟩
     ·rcases List.mem_cons.1 hp with rfl | hp
      ·exact hj
      ·exact ih.1 p hp
     ·rw [← hg,ih.2]; cases w <;> rfl
    ·simp [undef] at h2
theorem WV {al:List (Nat × Bool)} (hal:∀ p∈al,yielded ops a.tmps p.1=some p.2) {v:Value} {d:D} (h:GV (yielded ops a.tmps) c v d):TV c v (unwrap al d):=by
 cases d <;> try exact h
 rename_i j w d
 simp only [unwrap]
 cases hc:(al.any fun p=>Nat.beq p.1 j&&(p.2==w)) with
 | false=>exact WS
 | true =>
  simp only [List.any_eq_true,Bool.and_eq_true,beq_iff_eq] at hc
  obtain ⟨p,hp,h1,h2⟩:=hc
  have h3:=hal p hp
  rw [Nat.eq_of_beq_eq_true h1,h2] at h3
  rcases h with ⟨_,h4⟩ | ⟨h4,_⟩
  ·exact h4
  ·exact absurd h3 h4
theorem ZfE {al:List (Nat × Bool)} (hal:∀ p∈al,yielded ops a.tmps p.1=some p.2) {cd:Operand} {w:Bool} (hc:a.eval cd = .bool w) {v:Value} {d:D} (h:GV (yielded ops a.tmps) c v d):TV c v (unwrapT ops cd w al d):=by
 unfold unwrapT
 split
 ·rename_i t j w' d'
  cases hb:((w'==w)&&(match (ops[j]?).bind (·.dst) with | some u=>Nat.beq u t | none=>false)) with
  | false=>exact WV hal h
  | true =>
   simp only [Bool.and_eq_true,beq_iff_eq] at hb
   obtain ⟨rfl,hb⟩:=hb
   split at hb <;> try cases hb
   rename_i u hu
   obtain rfl:=Nat.eq_of_beq_eq_true hb
   have h3:=Zg8 (a:=a) hu hc
   rcases h with ⟨_,h4⟩ | ⟨h4,_⟩
   ·exact h4
   ·exact absurd h3 h4
 ·exact WV hal h
end
end Nv
namespace Nv
open Go Go.RowKit
def After (c c':Ctx) (v:Value):Res→Prop
 | .pure d=>Goes c c'∧Bw c.w.heap.size c.w c'.w∧TV c' v d
 | .own wd n g=>c'.H=c.H++[.arr wd n g]∧(∀ u e,TV c u e→TV c' u e)∧TV c' v (.asl c.H.length 0 n)
 | .lnd _ _ _ _ _=>False
theorem Zdz {P : Program} {k : FuncId} (h : callable P k = true) (args : Array Value) (w : World) : (callFunc k args).run P w = .ok (.enter k args) w := by
  unfold callable at h
  split at h <;> try cases h
  rename_i fn hf
  simp only [Bool.and_eq_true, Bool.not_eq_true'] at h
  obtain ⟨h1, h2⟩ := h
  have h1' : ¬ fn.name = "runtime.NumGoroutine" := by simpa using h1
  have h3 : ¬ fn.body = none := by intro e; simp [e] at h2
  simp [callFunc, hf, h1', h3]
def Ctx.join (c:Ctx) (I1:Nat→Prop) (w':World):Ctx:={ c with I:=fun b=>c.I b∨I1 b,w:=w' }
theorem ZfF {F:Fr} {c:Ctx} (hI:Inv F c) {I0 I1:Nat→Prop} {w':World} (hb:Bw c.w.heap.size c.w w') (hf:Fresh I0 c.w w' I1) (h0:∀ b,I0 b→c.I b) :
  (∀ b,(c.I b∨I1 b)→c.I b∨(c.w.heap.size≤b∧b < w'.heap.size))∧Goes c (c.join I1 w')∧Inv F (c.join I1 w'):=by
 have h1:∀ b,(c.I b∨I1 b)→c.I b∨(c.w.heap.size≤b∧b < w'.heap.size):=fun b h=>by
  rcases h with h | h
  ·exact .inl h
  ·exact (hf b h).imp (h0 b) id
 have hg:Goes c (c.join I1 w'):=⟨rfl,rfl,fun _ h=>.inl h,fun b hb'=>hb.block b hb',fun b hb'=>(hI.imm b hb').1,fun id b hb'=>(hI.loc id b hb').2.1⟩
 exact ⟨h1,hg,hI.goes hg hb h1⟩
theorem ZkQ {F:Fr} {c:Ctx} (hI:Inv F c) {I1:Nat→Prop} {w':World} (hb:Bw c.w.heap.size c.w w') (hf:Fresh c.I c.w w' I1) {v:Value} {wd n:Nat} {g:Nat→List D}
  (ho:Own I1 c.w.heap.size w' v wd n g):∃ c',c'.w=w'∧Inv F c'∧After c c' v (.own wd n g):=by
 obtain ⟨h1,hg,hI'⟩:=ZfF hI hb hf (fun _ h=>h)
 obtain ⟨a,cap,rfl,hn,hlen,hor⟩:=ho
 rcases hor with rfl | ⟨b,cs,T,rfl,hB,hlt,hnI,hh,hcs,hcells⟩
 ·have hn0:n=0:=by omega
  subst hn0
  refine ⟨(c.join I1 w').made0 (.arr wd 0 g),rfl,Zcc hI' wd g,rfl,fun u e h=>Zbr _ (hg.tv h),?_⟩
  simp only [TV,AV,CV]
  exact ⟨wd,0,g,a,0,by simp [Ctx.made0,Ctx.join],Nat.le_refl _,rfl,Nat.le_refl _,.inl rfl⟩
 ·let c':Ctx:={ I:=(c.join I1 w').I,mu:=fun i=>if i=c.H.length then some b else c.mu i,H:=c.H++[.arr wd n g],w:=w' }
  have hnb:¬ (c.join I1 w').I b:=by
   rintro (h | h)
   ·have:=(hI.imm b h).1; omega
   ·exact hnI h
  have hmu:∀ {id k:Nat},c.mu id=some k→c'.mu id=some k:=fun {id k} h=>by
   show (if id=c.H.length then some b else c.mu id)=some k
   rw [if_neg]
   ·exact h
   ·intro e
    rw [hI.dom id (by omega)] at h
    cases h
  have hH:∀ {id:Nat} {o:Ob},c.H[id]? = some o→c'.H[id]? = some o:=fun {id o} h=>by
   show (c.H++[.arr wd n g])[id]? = some o
   rw [List.getElem?_append_left (List.getElem?_eq_some_iff.1 h).1]
   exact h
  have hcv:∀ u e,CV (c.join I1 w') u e→CV c' u e:=fun u e h=>by
   cases e <;> simp only [CV] at h ⊢ <;> try exact h
   ·obtain ⟨k,hk,hu⟩:=h; exact ⟨k,hmu hk,hu⟩
   ·obtain ⟨k,w1,n1,f1,hk,h2,h3,hu⟩:=h; exact ⟨k,w1,n1,f1,hmu hk,hH h2,h3,hu⟩
   ·obtain ⟨w1,n1,f1,a1,c1,h2,h3,h4,h5,h6⟩:=h
    exact ⟨w1,n1,f1,a1,c1,hH h2,h3,h4,h5,h6.imp id fun ⟨k,hk,h7,h8⟩=>⟨k,hmu hk,h7,h8⟩⟩
  have hav:∀ u e,AV (c.join I1 w') u e→AV c' u e:=fun u e h=>by
   cases e <;> simp only [AV] at h ⊢ <;> try exact hcv _ _ h
   ·obtain ⟨vs,h1,h2⟩:=h; exact ⟨vs,h1,h2.mono fun _ _=>hcv _ _⟩
   ·obtain ⟨vs,h1,h2⟩:=h; exact ⟨vs,h1,h2.mono fun _ _=>hcv _ _⟩
  have htv:∀ u e,TV (c.join I1 w') u e→TV c' u e:=fun u e h=>by
   cases e <;> simp only [TV] at h ⊢ <;> try exact hav _ _ h
   obtain ⟨vs,h1,h2⟩:=h; exact ⟨vs,h1,h2.mono fun _ _=>hav _ _⟩
  refine ⟨c',rfl,⟨hI'.below,hI'.imm,fun id k hk=>?_,fun i j k h2 h3=>?_,fun id o h=>?_,fun id hid=>?_,fun i v hv=>?_,fun hl=>hH (hI.mark hl),hI.fam.mono (fun id o j k h1 h2=>KV (fun _=>rfl) h1 h2) hb.size (fun k h1 h2=>.inl (h2.elim (fun h=>h) fun h2=>(hf k h2).elim (fun h=>h) fun h3=>by omega)) (fun i k hk=>by
   have hk:(if i=c.H.length then some b else c.mu i)=some k:=hk
   split at hk
   ·cases hk; exact .inr hB
   ·exact .inl ⟨i,hk⟩)⟩,rfl,fun u e h=>htv u e (hg.tv h),?_⟩
  ·have hk:(if id=c.H.length then some b else c.mu id)=some k:=hk
   split at hk
   ·cases hk
    exact ⟨.inl (Nat.le_trans hI.below.size hB),hlt,hnb⟩
   ·exact hI'.loc id k hk
  ·have h2:(if i=c.H.length then some b else c.mu i)=some k:=h2
   have h3:(if j=c.H.length then some b else c.mu j)=some k:=h3
   split at h2 <;> split at h3
   ·omega
   ·cases h2; have:=(hI.loc j _ h3).2.1; omega
   ·cases h3; have:=(hI.loc i _ h2).2.1; omega
   ·exact hI.inj i j k h2 h3
  ·by_cases hid:id=c.H.length
   ·subst hid
    have:o = .arr wd n g:=by
     have h:(c.H++[.arr wd n g])[c.H.length]? = some o:=h
     simp at h
     exact h.symm
    subst this
    have e:c'.mu c.H.length=some b:=by show (if c.H.length=c.H.length then some b else _)=_; simp
    rw [e]
    exact ⟨hlen,.inr ⟨b,cs,T,rfl,hh,Nat.le_trans (Nat.mul_le_mul_right _ hn) hcs,fun i hi j d hd=>let ⟨u,h1,h2,h3⟩:=hcells i hi j d hd; ⟨u,h1,h2,h3.mono (fun _ h=>.inr h) fun _ _=>rfl⟩⟩⟩
   ·have hH0:c.H[id]? = some o:=by
     have h:(c.H++[.arr wd n g])[id]? = some o:=h
     have hl:=(List.getElem?_eq_some_iff.1 h).1
     simp at hl
     rw [List.getElem?_append_left (by omega)] at h
     exact h
    have hv:=hI'.obj id o hH0
    have e:c'.mu id=c.mu id:=by show (if id=c.H.length then some b else _)=_; simp [hid]
    rw [e]
    cases o with
    | fam foc is n2 wd2 vs ls=>exact hv
    | box cells=>obtain ⟨k,cs',T',hk,h2,h3⟩:=hv; exact ⟨k,cs',T',hk,h2,h3.mono fun _ _=>hcv _ _⟩
    | arr w1 n1 f1=>exact hv
    | mp _ _=>exact hv
    | gone=>exact hv
  ·show (if id=c.H.length then some b else c.mu id)=none
   have hid:(c.H++[Ob.arr wd n g]).length≤id:=hid
   simp at hid
   rw [if_neg (by omega)]
   exact hI.dom id (by omega)
  ·have h1:=hI.lent i v hv
   have hlt:i < c.H.length:=by
    have h2:=(List.getElem?_eq_some_iff.1 hv).1
    have h3:=(List.getElem?_eq_some_iff.1 (hI.mark (by intro e; rw [e] at h2; simp at h2))).1
    omega
   show (if i=c.H.length then some b else c.mu i)=v
   rw [if_neg (by omega)]
   exact h1
  ·simp only [TV,AV,CV]
   refine ⟨wd,n,g,_,cap,by show (c.H++[.arr wd n g])[c.H.length]? = _; simp,by omega,rfl,hn,.inr ⟨b,by show (if c.H.length=c.H.length then some b else _)=_; simp,by simp,cs,T,hh,by simpa using hcs⟩⟩
theorem ZgL {c c':Ctx} {v:Value} {d:D} (hs:scalarB (.pure d)=true) (h:TV c v d):TV c' v d:=by
 have key:∀ u e,scalarC e=true→AV c u e→AV c' u e:=fun u e hs h=>by
  cases e <;> simp [scalarC] at hs <;> simp only [AV,CV] at h ⊢ <;> cases h <;> first | exact .int _ _ | exact .bool _ | exact .str _
 cases d <;> simp only [scalarB,scalarC,Bool.false_eq_true] at hs
 ·obtain rfl:=h.int_inv; exact WY _ _
 ·obtain rfl:=h.bool_inv; exact UA _
 ·obtain rfl:=h.str_inv; exact Zg1 _
 ·obtain ⟨vs,h1,h2⟩:=h
  refine ⟨vs,h1,h2.1,fun i v d h3 h4=>key v d (List.all_eq_true.1 hs d (List.mem_of_getElem? h4)) (h2.2 i v d h3 h4)⟩
theorem ZdA {P:Program} {c:Ctx} {I:Nat→Prop} {ρc:Operand→Value} {ρd:Operand→D}:∀ (ts:List TypeId) (xs:List Operand),xs.length=ts.length →
  (∀ x∈xs,TV c (ρc x) (ρd x))→(argsD P c.H ts (xs.map ρd)).all pArg=true →
  (∀ t d v e,CV c v e→persB (normC c.H e)=true→(ownC e=true→∃ x∈xs,ownA (adj P t d)=true∧d=ρd x)→PV I c.w v (normC c.H e))→(∀ b,c.I b→I b) →
  Vs (AV (NoCtx I c.w)) (xs.map ρc).toArray (argsD P c.H ts (xs.map ρd))
 | [],[],_,_,_,_,_=>⟨by simp [argsD],fun i v d h1 _=>by simp at h1⟩
 | [],x :: xs,h,_,_,_,_=>by simp at h
 | t :: ts,[],h,_,_,_,_=>by simp at h
 | t :: ts,x :: xs,hl,hx,hp,hc,hII=>by
  simp only [List.map_cons,argsD,List.all_cons,Bool.and_eq_true] at hp
  have ih:=ZdA (P:=P) (c:=c) (I:=I) (ρc:=ρc) (ρd:=ρd) ts xs (by simpa using hl) (fun y hy=>hx y (List.mem_cons_of_mem _ hy)) hp.2
   (fun t d v e h1 h2 h3=>hc t d v e h1 h2 fun h4=>let ⟨y,hy,h5⟩:=h3 h4; ⟨y,List.mem_cons_of_mem _ hy,h5⟩) hII
  have h0:=ZkP (I:=I) (hx x (List.mem_cons_self)) hp.1 (fun v e h1 h2 h3=>hc t (ρd x) v e h1 h2 fun h4=>⟨x,List.mem_cons_self,h3 h4,rfl⟩) hII
  refine ⟨by simp [argsD,ih.1.symm],fun i v d h1 h2=>?_⟩
  cases i with
  | zero =>
   simp at h1
   simp only [List.map_cons,argsD,List.getElem?_cons_zero,Option.some.injEq] at h2
   subst h1; subst h2
   exact h0
  | succ i =>
   simp only [List.map_cons,argsD,List.getElem?_cons_succ] at h2
   exact ih.2 i v d (by simpa using h1) h2
theorem Zh1 (P:Program) (t:TypeId) (d:D):ownA (adj P t d)=ownA d:=by
 cases d <;> first | rfl | skip
 simp only [adj]
 split <;> rfl
theorem Zcf {R:Value→D→Prop} {v1 v2:Array Value} {d1 d2:List D} (h1:Vs R v1 d1) (h2:Vs R v2 d2):Vs R (v1++v2) (d1++d2):=by
 refine ⟨by simp [h1.1,h2.1],fun i v d h3 h4=>?_⟩
 rcases Nat.lt_or_ge i v1.size with h | h
 ·rw [Array.getElem?_append_left h] at h3
  rw [List.getElem?_append_left (by rw [← h1.1]; exact h)] at h4
  exact h1.2 i v d h3 h4
 ·rw [Array.getElem?_append_right h] at h3
  rw [List.getElem?_append_right (by rw [← h1.1]; exact h),← h1.1] at h4
  exact h2.2 _ v d h3 h4
theorem WP {P:Program} {F:Fr} [GF P F] {c:Ctx} (hI:Inv F c) {ops:Array Oper} {o:Oper} {a:Act} {env:List (Nat × D)} {orc orc':List Res} {g:Bool} {r:Res} {bs:List Bool} {rq:List Req}
  (hops:∀ x∈o.op.operands.toList,GV (yielded ops a.tmps) c (a.eval x) (evD env x)) (hgf:GuardFacts ops a c env (gch ops 20 o.guard)) (hg:gEval ops env (gch ops 20 o.guard)=some g)
  (hw:Region.wanted o (yielded ops a.tmps)=true) (h:opD P c.H ops env (gch ops 20 o.guard) orc g o=some (r,bs,rq,orc')) (hb:∀ b∈bs,b=true) (hr:∀ q∈rq,q.ok P)
  {K:Act→World→Prop} {Q:Exit→Act→World→Prop} (hK:∀ v c',Inv F c'→After c c' v r→K (a.put o.dst v) c'.w):o.wp P a c.w K Q:=by
 obtain ⟨hal,hgt⟩:=Zh0 (c:=c) (a:=a) 20 o.guard g hgf hg (fun j w e=>by simpa [Region.wanted,e] using hw)
 subst hgt
 have hρ:∀ x∈o.op.operands.toList,TV c (a.eval x) (unwrap (gch ops 20 o.guard) (evD env x)):=fun x hx=>WV hal (hops x hx)
 unfold opD at h
 split at h
 ·rename_i cd x y hop
  obtain ⟨d,hd,heq⟩:=Option.map_eq_some_iff.1 h
  simp only [Prod.mk.injEq] at heq
  obtain ⟨rfl,rfl,rfl,rfl⟩:=heq
  unfold pickD at hd
  split at hd <;> try cases hd
  rename_i b hb0
  have hc:=hρ cd (by simp [hop,Op.operands])
  rw [hb0] at hc
  have hcb:=hc.bool_inv
  split at hd <;> try cases hd
  rename_i p q hp hq
  have key:∃ v,(execOp a.eval o).run P c.w = .ok (.value v) c.w∧TV c v (.bool (bif b then p else q)):=by
   refine ⟨if b then a.eval x else a.eval y,by simp [execOp,hop,hcb,asBool],?_⟩
   cases b with
   | true =>
    have:=ZfE hal hcb (hops x (by simp [hop,Op.operands]))
    rw [hp] at this
    simpa using this
   | false =>
    have:=ZfE hal hcb (hops y (by simp [hop,Op.operands]))
    rw [hq] at this
    simpa using this
  have hdd:TV c (.bool (bif b then p else q)) d:=by
   cases hf:isFalse y with
   | true =>
    simp only [hf,cond_true,Option.some.injEq] at hd
    subst hd
    have hy:y = .const (.bool false):=by
     unfold isFalse at hf
     split at hf
     ·rfl
     ·cases hf
    subst hy
    simp only [evD,dv,dvc,unwrapT,unwrap,D.bool.injEq] at hq
    subst hq
    cases b <;> exact UA _
   | false =>
    simp only [hf,cond_false] at hd
    cases ht:isTrue x with
    | true =>
     simp only [ht,cond_true,Option.some.injEq] at hd
     subst hd
     have hx:x = .const (.bool true):=by
      unfold isTrue at ht
      split at ht
      ·rfl
      ·cases ht
     subst hx
     simp only [evD,dv,dvc,unwrapT,unwrap,D.bool.injEq] at hp
     subst hp
     cases b <;> exact UA _
    | false =>
     simp only [ht,cond_false,Option.some.injEq] at hd
     subst hd
     exact UA _
  obtain ⟨v,h1,h2⟩:=key
  have:=h2.bool_inv
  subst this
  unfold Oper.wp
  rw [h1]
  exact hK _ c hI ⟨Goes.refl hI,Bw.refl _ _,hdd⟩
 ·rename_i f args ts hop
  split at h <;> try cases h
  rename_i k cap r0 orc0 hfn
  cases hcond:(callable P k&&(argsD P c.H ts.toList (args.toList.map fun x=>unwrap (gch ops 20 o.guard) (evD env x))).all pArg&&Nat.beq args.size ts.size&&cap.all persB &&
     (scalarB r0 || !(args.toList.any fun x=>ownA (unwrap (gch ops 20 o.guard) (evD env x))))&&notMut r0) with
  | false=>rw [hcond] at h; cases h
  | true =>
   rw [hcond] at h
   simp only [cond_true,Option.some.injEq,Prod.mk.injEq] at h
   obtain ⟨rfl,rfl,rfl,rfl⟩:=h
   simp only [Bool.and_eq_true] at hcond
   obtain ⟨⟨⟨⟨⟨hcall,hpa⟩,hsz⟩,hcp⟩,hso⟩,hnm⟩:=hcond
   have hsz:=Nat.eq_of_beq_eq_true hsz
   have hF:Fn P k (argsD P c.H ts.toList (args.toList.map fun x=>unwrap (gch ops 20 o.guard) (evD env x))++cap) r0:=by
    have h1:=hr _ (List.mem_singleton.2 rfl)
    cases r0 <;> first | exact h1 rfl | cases hnm
   have hf:=hρ f (by simp [hop,Op.operands,Call.operands])
   rw [hfn] at hf
   obtain ⟨vs,hfv,hvs⟩:=hf
   have hargs:∀ x∈args.toList,TV c (a.eval x) (unwrap (gch ops 20 o.guard) (evD env x)):=fun x hx=>hρ x (by
    simp only [hop,Op.operands,Call.operands,Array.toList_append,List.mem_append]
    exact .inr hx)
   have hrun:(execOp a.eval o).run P c.w = .ok (.enter k ((args.toList.map a.eval).toArray++vs)) c.w:=by
    have e:args.map a.eval=(args.toList.map a.eval).toArray:=by
     apply Array.ext'
     simp
    simp [execOp,hop,resolve,hfv,Deferred.ofValue,invoke,Zdz hcall,e]
   unfold Oper.wp
   rw [hrun]
   cases hown:(args.toList.any fun x=>ownA (unwrap (gch ops 20 o.guard) (evD env x))) with
   | false =>
    have hv1:=ZdA (P:=P) (c:=c) (I:=c.I) (ρc:=a.eval) (ρd:=fun x=>unwrap (gch ops 20 o.guard) (evD env x)) ts.toList args.toList (by simpa using hsz) hargs hpa
     (fun t d v e h1 h2 h3=>Zjp h1 h2 (by
      cases he:ownC e with
      | false=>rfl
      | true =>
       obtain ⟨x,hx,h4,rfl⟩:=h3 he
       rw [Zh1] at h4
       have:=List.any_eq_false.1 hown x hx
       exact absurd h4 this)) (fun _ h=>h)
    have hv2:Vs (AV (NoCtx c.I c.w)) vs cap:=⟨hvs.1,fun i v d h1 h2=>Kw (nopv (Kt (List.all_eq_true.1 hcp d (List.mem_of_getElem? h2)) (hvs.2 i v d h1 h2)))⟩
    refine Calls.mono (hF c.I c.w _ (ZiD hI) (fun b hb=>(hI.imm b hb).1) (Zcf hv1 hv2)) ?_
    rintro e w' ⟨v,I1,rfl,hbel,hfr,hrv⟩
    cases r0 with
    | pure d =>
     obtain ⟨_,hgo,hinv⟩:=ZfF hI hbel hfr (fun _ h=>h)
     exact hK v (c.join I1 w') hinv ⟨hgo,hbel,notv (fun _ h=>.inr h) hrv⟩
    | own wd n g =>
     obtain ⟨c',rfl,hinv,haf⟩:=ZkQ hI hbel hfr hrv
     exact hK v c' hinv haf
    | lnd _ _ _ _ _=>cases hnm
   | true =>
    rw [hown] at hso
    simp only [Bool.not_true,Bool.or_false] at hso
    have hv1:=ZdA (P:=P) (c:=c) (I:=Iall c) (ρc:=a.eval) (ρd:=fun x=>unwrap (gch ops 20 o.guard) (evD env x)) ts.toList args.toList (by simpa using hsz) hargs hpa
     (fun t d v e h1 h2 _=>Zek hI h1 h2) (fun _ h=>.inl h)
    have hv2:Vs (AV (NoCtx (Iall c) c.w)) vs cap:=⟨hvs.1,fun i v d h1 h2=>Kw (nopv ((Kt (List.all_eq_true.1 hcp d (List.mem_of_getElem? h2)) (hvs.2 i v d h1 h2)).mono (fun _ h=>.inl h) fun _ _=>rfl))⟩
    refine Calls.mono (hF (Iall c) c.w _ (ZiD hI) (fun b hb=>?_) (Zcf hv1 hv2)) ?_
    ·rcases hb with hb | ⟨id,hb⟩
     ·exact (hI.imm b hb).1
     ·exact (hI.loc id b hb).2.1
    ·rintro e w' ⟨v,I1,rfl,hbel,_,hrv⟩
     cases r0 with
     | pure d =>
      obtain ⟨_,hgo,hinv⟩:=ZfF (I0:=fun _=>False) (I1:=fun _=>False) hI hbel (fun _ h=>h.elim) (fun _ h=>h.elim)
      exact hK v (c.join (fun _=>False) w') hinv ⟨hgo,hbel,ZgL hso hrv⟩
     | own wd n g=>simp [scalarB] at hso
     | lnd _ _ _ _ _=>cases hnm
 ·rename_i op hnp hnc
  obtain ⟨⟨d,bs0⟩,hd,heq⟩:=Option.map_eq_some_iff.1 h
  simp only [Prod.mk.injEq] at heq
  obtain ⟨rfl,rfl,rfl,rfl⟩:=heq
  obtain ⟨v,c',h1,h2,h3,h4,h5⟩:=ZjT hI hρ hd (fun b hb'=>by
   have:=hb (guardB true b) (List.mem_map.2 ⟨b,hb',rfl⟩)
   simpa [guardB] using this)
  unfold Oper.wp
  rw [h1]
  exact hK _ c' h2 ⟨h3,h4,h5⟩
end Nv
namespace Nv
open Go Go.RowKit
def retB:D→Bool
 | .asl 0 _ _=>true
 | d=>scalarB (.pure d)
def renD (id:Nat):D→D
 | .asl _ o l=>.asl id o l
 | d=>d
def lendD (P:Program) (H:List Ob) (ρ:Operand→D) (orc:List Res) (op:Op):Option (D × List Ob × List Req × List Res) :=
 match op with
 | .call { callee:=.value f,args:=⟨x :: xs⟩,argTypes:=⟨_ :: ts⟩ } =>
  match ρ f,ρ x,orc with
  | .fn k cap,.asl id 0 m,.lnd _ _ _ g' d :: orc'=>match H[id]? with
   | some (.arr wd n g)=>bif callable P k&&(argsD P H ts (xs.map ρ)).all pArg&&Nat.beq xs.length ts.length&&cap.all persB && !(xs.any fun y=>ownA (ρ y))&&retB d then
     some (renD id d,H.set id (.arr wd n g'),[⟨true,k,.asl 0 0 m :: (argsD P H ts (xs.map ρ)++cap),.lnd wd n g g' d⟩],orc') else none
   | _=>none
  | _,_,_=>none
 | _=>none
section
variable {F:Fr} {c:Ctx} {id wd n:Nat} {g g':Nat→List D} {w':World} {I1:Nat→Prop}
def Ctx.back (c:Ctx) (id:Nat) (o:Ob) (I1:Nat→Prop) (w':World):Ctx:={ I:=fun b=>c.I b∨I1 b,mu:=c.mu,H:=c.H.set id o,w:=w' }
structure Lent (c:Ctx) (id:Nat) (I1:Nat→Prop) (w':World):Prop where
 bel:Bel ⟨c.w,c.I,[c.mu id]⟩ w'
 fresh:Fresh c.I c.w w' I1
theorem Lent.blk (h:Lent c id I1 w') {k:Nat} (hk:k < c.w.heap.size) (hne:c.mu id ≠ some k):w'.heap[k]? = c.w.heap[k]? :=
 h.bel.block k hk (by simp only [Fr.lent,List.mem_singleton]; exact fun e=>hne e.symm)
theorem Lent.room (h:Lent c id I1 w') {b m:Nat} (hb:b < c.w.heap.size) (k:Room c.w b m):Room w' b m:=by
 obtain ⟨cs,T,h1,h2⟩:=k
 by_cases he:c.mu id=some b
 ·obtain ⟨cs0,cs1,T1,h3,h4,h5⟩:=h.bel.shape b (by simp [Fr.lent,he])
  have h3:c.w.heap[b]? = some (.cells cs0 T1 (0,0)):=h3
  rw [h1] at h3
  cases h3
  exact ⟨cs1,T,h4,by omega⟩
 ·exact ⟨cs,T,by rw [h.blk hb he]; exact h1,h2⟩
theorem Zg9 (hI:Inv F c) (h:Lent c id I1 w') {v:Value} {d:D} (k:PV c.I c.w v d):PV (c.back id (.arr wd n g') I1 w').I w' v d :=
 k.mono (fun _ h=>.inl h) fun b hb=>h.blk (hI.imm b hb).1 fun e=>(hI.loc id b e).2.2 hb
theorem ZkR (ho:c.H[id]? = some (.arr wd n g)) {i wd1 n1:Nat} {f1:Nat→List D} (h:c.H[i]? = some (.arr wd1 n1 f1)):∃ f2,(c.back id (.arr wd n g') I1 w').H[i]? = some (.arr wd1 n1 f2):=by
 obtain ⟨o3,h3,_,_,h4⟩:=ZkJ (o':=.arr wd n g') ho h ⟨rfl,rfl⟩
 obtain ⟨f',rfl⟩:=h4 _ _ _ rfl
 exact ⟨f',h3⟩
theorem Zfj (hI:Inv F c) (ho:c.H[id]? = some (.arr wd n g)) (h:Lent c id I1 w') {v:Value} {d:D} (k:CV c v d):CV (c.back id (.arr wd n g') I1 w') v d:=by
 cases d <;> simp only [CV] at k ⊢ <;> try exact Zg9 hI h k
 ·exact k
 ·obtain ⟨b,wd1,n1,f1,hb,hH,hi,hv⟩:=k
  obtain ⟨f2,hH2⟩:=ZkR (g':=g') (I1:=I1) (w':=w') ho hH
  exact ⟨b,wd1,n1,f2,hb,hH2,hi,hv⟩
 ·obtain ⟨wd1,n1,f1,a,cap,hH,h2,h3,h4,h5⟩:=k
  obtain ⟨f2,hH2⟩:=ZkR (g':=g') (I1:=I1) (w':=w') ho hH
  refine ⟨wd1,n1,f2,a,cap,hH2,h2,h3,h4,h5.imp (fun x=>x) ?_⟩
  rintro ⟨b,hb,ha,hr⟩
  exact ⟨b,hb,ha,h.room (hI.loc _ b hb).2.1 hr⟩
theorem Zjq (hI:Inv F c) (ho:c.H[id]? = some (.arr wd n g)) (h:Lent c id I1 w') {v:Value} {d:D} (k:AV c v d):AV (c.back id (.arr wd n g') I1 w') v d:=by
 cases d <;> simp only [AV] at k ⊢ <;> try exact Zfj hI ho h k
 ·obtain ⟨vs,h1,h2⟩:=k; exact ⟨vs,h1,h2.mono fun _ _=>Zfj hI ho h⟩
 ·obtain ⟨vs,h1,h2⟩:=k; exact ⟨vs,h1,h2.mono fun _ _=>Zfj hI ho h⟩
theorem Zma (hI:Inv F c) (ho:c.H[id]? = some (.arr wd n g)) (h:Lent c id I1 w') {v:Value} {d:D} (k:TV c v d):TV (c.back id (.arr wd n g') I1 w') v d:=by
 cases d <;> simp only [TV] at k ⊢ <;> try exact Zjq hI ho h k
 obtain ⟨vs,h1,h2⟩:=k; exact ⟨vs,h1,h2.mono fun _ _=>Zjq hI ho h⟩
theorem ZkS (hI:Inv F c) (ho:c.H[id]? = some (.arr wd n g)) (h:Lent c id I1 w') (hov:OV (Lctx I1 (c.mu id) (.arr wd n g') w') (c.mu id) (.arr wd n g')):Inv F (c.back id (.arr wd n g') I1 w'):=by
 have hs:c.w.heap.size≤w'.heap.size:=h.bel.size
 refine ⟨⟨h.bel.os.trans hI.below.os,h.bel.tape.trans hI.below.tape,h.bel.output.trans hI.below.output,Nat.le_trans hI.below.drawn h.bel.drawn,Nat.le_trans hI.below.size hs,fun k hk hl=>?_,fun k hl=>?_⟩,fun b hb=>?_,fun i b hb=>?_,hI.inj,fun i o2 h2=>?_,fun i hi=>hI.dom i (by simpa [Ctx.back] using hi),hI.lent,fun hl=>?_,hI.fam.mono (fun i o2 j b h1 h2=>Gg (fun _=>rfl) h1 h2) hs (fun b h1 h2=>.inl (h2.elim (fun h=>h) fun h2=>(h.fresh b h2).elim (fun h=>h) fun h3=>by omega)) fun i b h=>.inl ⟨i,h⟩⟩
 ·refine (h.blk (Nat.lt_of_lt_of_le hk hI.below.size) fun e=>?_).trans (hI.below.block k hk hl)
  rcases (hI.loc id k e).1 with h1 | h1
  ·omega
  ·exact hl h1
 ·obtain ⟨cs,cs',T,h1,h2,h3⟩:=hI.below.shape k hl
  by_cases he:c.mu id=some k
  ·obtain ⟨cs0,cs1,T1,h4,h5,h6⟩:=h.bel.shape k (by simp [Fr.lent,he])
   have h4:c.w.heap[k]? = some (.cells cs0 T1 (0,0)):=h4
   rw [h2] at h4
   cases h4
   exact ⟨cs,cs1,T,h1,h5,by omega⟩
  ·exact ⟨cs,cs',T,h1,(h.blk (hI.below.lt hl) he).trans h2,h3⟩
 ·rcases hb with hb | hb
  ·exact ⟨Nat.lt_of_lt_of_le (hI.imm b hb).1 hs,(hI.imm b hb).2⟩
  ·rcases h.fresh b hb with h1 | ⟨h1,h2⟩
   ·exact ⟨Nat.lt_of_lt_of_le (hI.imm b h1).1 hs,(hI.imm b h1).2⟩
   ·exact ⟨h2,fun h3=>by have:=hI.below.size; omega⟩
 ·obtain ⟨h1,h2,h3⟩:=hI.loc i b hb
  refine ⟨h1,Nat.lt_of_lt_of_le h2 hs,fun h4=>?_⟩
  rcases h4 with h4 | h4
  ·exact h3 h4
  ·rcases h.fresh b h4 with h5 | ⟨h5,_⟩
   ·exact h3 h5
   ·omega
 ·show OV (c.back id (.arr wd n g') I1 w') (c.mu i) o2
  by_cases e:i=id
  ·subst e
   have:o2 = .arr wd n g':=by
    simp only [Ctx.back] at h2
    rw [List.getElem?_set_self (List.getElem?_eq_some_iff.1 ho).1] at h2
    cases h2; rfl
   subst this
   refine ⟨hov.1,hov.2.imp (fun x=>x) ?_⟩
   rintro ⟨b,cs,T,hb,h1,h2,h3⟩
   exact ⟨b,cs,T,hb,h1,h2,fun i hi j d hd=>let ⟨v,hv,ho,hp⟩:=h3 i hi j d hd; ⟨v,hv,ho,hp.mono (fun _ h=>.inr h) fun _ _=>rfl⟩⟩
  ·have hH:c.H[i]? = some o2:=by simp only [Ctx.back] at h2; rw [List.getElem?_set_ne (Ne.symm e)] at h2; exact h2
   have hv:=hI.obj i o2 hH
   have hne:∀ k,c.mu i=some k→w'.heap[k]? = c.w.heap[k]? := fun k hk=>h.blk (hI.loc i k hk).2.1 fun h3=>e (hI.inj i id k hk h3)
   cases o2 with
   | fam foc is n2 wd2 vs ls=>exact RL hv (fun _ _=>Zg9 (wd:=wd) (n:=n) (g':=g') hI h) fun j k e=>h.blk (hI.fb hH e).1 ((hI.fb hH e).2 id)
   | box cells =>
    obtain ⟨k,cs',T',hk,h1,h2⟩:=hv
    exact ⟨k,cs',T',hk,(hne k hk).trans h1,h2.mono fun _ _=>Zfj hI ho h⟩
   | arr wd2 n2 f2 =>
    refine ⟨hv.1,hv.2.imp (fun x=>x) ?_⟩
    rintro ⟨k,cs',T',hk,h1,h2,h3⟩
    exact ⟨k,cs',T',hk,(hne k hk).trans h1,h2,fun i hi j d hd=>let ⟨v,hv,ho,hp⟩:=h3 i hi j d hd; ⟨v,hv,ho,Zg9 (wd:=wd) (n:=n) (g':=g') hI h hp⟩⟩
   | mp u es =>
    obtain ⟨k,arr,ck,hk,h1,h2⟩:=hv
    exact ⟨k,arr,ck,hk,(hne k hk).trans h1,h2⟩
   | gone=>exact hv
 ·have h1:=hI.mark hl
  have hne:F.L.length ≠ id:=fun e=>by rw [e,ho] at h1; cases h1
  show (c.H.set id (.arr wd n g'))[F.L.length]? = _
  rw [List.getElem?_set_ne (Ne.symm hne)]
  exact h1
end
theorem Zjr {P:Program} {F:Fr} [GF P F] {c:Ctx} (hI:Inv F c) {o:Oper} {a:Act} {ρd:Operand→D} {orc orc':List Res} {d:D} {H':List Ob} {rq:List Req}
  (hρ:∀ x∈o.op.operands.toList,TV c (a.eval x) (ρd x)) (h:lendD P c.H ρd orc o.op=some (d,H',rq,orc')) (hr:∀ q∈rq,q.ok P)
  {K:Act→World→Prop} {Q:Exit→Act→World→Prop} (hK:∀ v c',Inv F c'→c'.H=H'→(∀ u e,TV c u e→TV c' u e)→TV c' v d→K (a.put o.dst v) c'.w):o.wp P a c.w K Q:=by
 unfold lendD at h
 split at h <;> try cases h
 rename_i f x xs t ts hop
 split at h <;> try cases h
 rename_i k cap id m wd0 n0 g0 g' d0 orc1 hfn hx
 split at h <;> try cases h
 rename_i wd n g ho
 cases hcond:(callable P k&&(argsD P c.H ts (xs.map ρd)).all pArg&&Nat.beq xs.length ts.length&&cap.all persB && !(xs.any fun y=>ownA (ρd y))&&retB d0) with
 | false=>rw [hcond] at h; cases h
 | true =>
  rw [hcond] at h
  simp only [cond_true,Option.some.injEq,Prod.mk.injEq] at h
  obtain ⟨rfl,rfl,rfl,rfl⟩:=h
  simp only [Bool.and_eq_true,Bool.not_eq_true'] at hcond
  obtain ⟨⟨⟨⟨⟨hcall,hpa⟩,hsz⟩,hcp⟩,hown⟩,hret⟩:=hcond
  have hsz:=Nat.eq_of_beq_eq_true hsz
  have hF:FnM P k _ wd n g g' d0:=hr _ (List.mem_singleton.2 rfl) rfl
  have hf:=hρ f (by simp [hop,Op.operands,Call.operands])
  rw [hfn] at hf
  obtain ⟨vs,hfv,hvs⟩:=hf
  have hxv:=hρ x (by simp [hop,Op.operands,Call.operands])
  rw [hx] at hxv
  have hargs:∀ y∈xs,TV c (a.eval y) (ρd y):=fun y hy=>hρ y (by simp [hop,Op.operands,Call.operands,hy])
  have hrun:(execOp a.eval o).run P c.w = .ok (.enter k (#[a.eval x]++(xs.map a.eval).toArray++vs)) c.w:=by
   simp [execOp,hop,resolve,hfv,Deferred.ofValue,invoke,Zdz hcall]
  unfold Oper.wp
  rw [hrun]
  have hv1:=ZdA (P:=P) (c:=c) (I:=c.I) (ρc:=a.eval) (ρd:=ρd) ts xs hsz hargs hpa
   (fun t d v e h1 h2 h3=>Zjp h1 h2 (by
    cases he:ownC e with
    | false=>rfl
    | true =>
     obtain ⟨y,hy,h4,rfl⟩:=h3 he
     rw [Zh1] at h4
     exact absurd h4 (List.any_eq_false.1 hown y hy))) (fun _ h=>h)
  have hv2:Vs (AV (NoCtx c.I c.w)) vs cap:=⟨hvs.1,fun i v d h1 h2=>Kw (nopv (Kt (List.all_eq_true.1 hcp d (List.mem_of_getElem? h2)) (hvs.2 i v d h1 h2)))⟩
  have hv3:Vs (AV (Lctx c.I (c.mu id) (.arr wd n g) c.w)) ((xs.map a.eval).toArray++vs) (argsD P c.H ts (xs.map ρd)++cap):=(Zcf hv1 hv2).mono fun _ _=>noav fun _ h=>h
  have hv0:Vs (AV (Lctx c.I (c.mu id) (.arr wd n g) c.w)) #[a.eval x] [.asl 0 0 m]:=⟨rfl,fun i v d h1 h2=>by
   cases i with
   | succ i=>simp at h2
   | zero =>
    simp at h1 h2
    subst h1; subst h2
    simp only [TV,AV,CV] at hxv ⊢
    obtain ⟨wd1,n1,f1,a1,cap1,hH,h2,h3,h4,h5⟩:=hxv
    rw [ho] at hH
    cases hH
    exact ⟨wd,n,g,a1,cap1,rfl,h2,h3,h4,h5.imp (fun x=>x) fun ⟨b,hb,h6,h7⟩=>⟨b,hb,by simpa using h6,by simpa [Lctx] using h7⟩⟩⟩
  have hv:=Zcf hv0 hv3
  rw [← Array.append_assoc] at hv
  have hob:=hI.obj id _ ho
  refine Calls.mono (hF c.I c.w (c.mu id) _ (ZiD hI) (fun g hg e=>ZmS hI e hg rfl) (fun b hb=>(hI.imm b hb).1) (fun b hb=>⟨(hI.loc id b hb).2.1,(hI.loc id b hb).2.2⟩) hob hv) ?_
  rintro e w' ⟨v,I1,rfl,hbel,hfr,hov,hrv⟩
  have hL:Lent c id I1 w':=⟨hbel,hfr⟩
  refine hK v (c.back id (.arr wd n g') I1 w') (ZkS hI ho hL hov) rfl (fun u e h=>Zma hI ho hL h) ?_
  unfold retB at hret
  split at hret
  ·simp only [renD,TV,AV,CV] at hrv ⊢
   obtain ⟨wd1,n1,f1,a1,cap1,hH,h2,h3,h4,h5⟩:=hrv
   cases hH
   refine ⟨wd,n,g',a1,cap1,?_,h2,h3,h4,h5.imp (fun x=>x) fun ⟨b,hb,h6,h7⟩=>⟨b,hb,h6,h7⟩⟩
   show (c.H.set id (.arr wd n g'))[id]? = _
   rw [List.getElem?_set_self (List.getElem?_eq_some_iff.1 ho).1]
  ·have:renD id d0=d0:=by cases d0 <;> first | rfl | simp [scalarB,scalarC] at hret
   rw [this]
   exact ZgL hret hrv
end Nv
