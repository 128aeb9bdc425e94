/- Hops: ascending lists, neighbours that are alike struck out. No condition. -/
import Derived.Test.YtenfloomkjecjaaGreatNvD1
import Derived.Test.YtenfloomkjecjaaGreatNvLibC
namespace Nv
open Go
def heq (x y:ZF):Bool:=(x.ZP==y.ZP)&&((x.Zm==y.Zm)&&true)
theorem Zca {x y:ZF}:heq x y=true↔x=y:=by
 unfold heq
 simp only [Bool.and_true,Bool.and_eq_true,beq_iff_eq]
 constructor
 ·rintro ⟨h1,h2⟩; cases x; cases y; simp_all
 ·rintro rfl; exact ⟨rfl,rfl⟩
def hdst (acc:List ZF) (x:ZF):List ZF :=
 match acc.getLast? with
 | none=>[x]
 | some y=>bif heq x y then acc else acc++[x]
def ddp (l:List ZF):List ZF:=l.foldl hdst []
theorem ZbV (l:List ZF) (x:ZF):ddp (l++[x])=hdst (ddp l) x:=by unfold ddp; rw [List.foldl_append]; rfl
theorem Zlq (acc:List ZF) (x:ZF):(hdst acc x).getLast? = some x:=by
 unfold hdst
 split
 ·rfl
 ·rename_i y hy
  cases hb:heq x y with
  | true=>rw [cond_true,hy,Zca.1 hb]
  | false=>simp
theorem Zjj:∀ l:List ZF,(ddp l).getLast? = l.getLast? := fun l=>by
 rcases List.eq_nil_or_concat l with rfl | ⟨l,x,rfl⟩
 ·rfl
 ·rw [List.concat_eq_append,ZbV,Zlq]; simp
theorem ZgS {α:Type} {P:List α→Prop} (h0:P []) (hs:∀ l x,P l→P (l++[x])) (l:List α):P l:=by
 have:∀ m:List α,P m.reverse:=fun m=>by
  induction m with
  | nil=>exact h0
  | cons x m ih=>rw [List.reverse_cons]; exact hs _ _ ih
 have h:=this l.reverse
 rwa [List.reverse_reverse] at h
theorem Zih (x:ZF) (l:List ZF):x∈ddp l↔x∈l:=by
 refine ZgS (P:=fun l=>x∈ddp l↔x∈l) Iff.rfl (fun l y ih=>?_) l
 ·skip
  rw [ZbV,List.mem_append,List.mem_singleton,← ih]
  unfold hdst
  split
  ·rename_i hn
   rw [List.getLast?_eq_none_iff] at hn
   rw [hn]; simp
  ·rename_i z hz
   cases hb:heq y z with
   | true =>
    have:=Zca.1 hb
    subst this
    have:y∈ddp l:=List.mem_of_getLast? hz
    simp only [cond_true]
    exact ⟨.inl,fun h=>h.elim id fun e=>e ▸ this⟩
   | false=>simp only [cond_false,List.mem_append,List.mem_singleton]
def hlt (x y:ZF):Prop:=x.ZP < y.ZP∨(x.ZP=y.ZP∧x.Zm < y.Zm)
instance (x y:ZF):Decidable (hlt x y):=by unfold hlt; exact inferInstance
theorem ZfV (x:ZF):¬ hlt x x:=fun h=>by unfold hlt at h; omega
theorem R7 {x y z:ZF} (h:hlt x y) (k:hlt y z):hlt x z:=by unfold hlt at *; omega
theorem Zii (x y:ZF):hlt x y∨x=y∨hlt y x:=by
 by_cases h:x=y
 ·exact .inr (.inl h)
 ·have:¬ (x.ZP=y.ZP∧x.Zm=y.Zm):=fun ⟨a,b⟩=>h (by cases x; cases y; simp_all)
  unfold hlt; omega
def HAsc (l:List ZF):Prop:=l.Pairwise hlt
theorem Zjk:∀ {l m:List ZF},HAsc l→HAsc m→(∀ x,x∈l↔x∈m)→l=m
 | [],[],_,_,_=>rfl
 | [],y :: m,_,_,h=>absurd ((h y).2 List.mem_cons_self) (by simp)
 | x :: l,[],_,_,h=>absurd ((h x).1 List.mem_cons_self) (by simp)
 | x :: l,y :: m,hl,hm,h=>by
  unfold HAsc at hl hm
  rw [List.pairwise_cons] at hl hm
  have e:x=y:=by
   rcases List.mem_cons.1 ((h x).1 List.mem_cons_self) with e | hx
   ·exact e
   ·rcases List.mem_cons.1 ((h y).2 List.mem_cons_self) with e | hy
    ·exact e.symm
    ·exact absurd (R7 (hl.1 y hy) (hm.1 x hx)) (ZfV _)
  subst e
  congr 1
  refine Zjk hl.2 hm.2 fun z=>⟨fun hz=>?_,fun hz=>?_⟩
  ·rcases List.mem_cons.1 ((h z).1 (List.mem_cons_of_mem _ hz)) with rfl | hz'
   ·exact absurd (hl.1 z hz) (ZfV _)
   ·exact hz'
  ·rcases List.mem_cons.1 ((h z).2 (List.mem_cons_of_mem _ hz)) with rfl | hz'
   ·exact absurd (hm.1 z hz) (ZfV _)
   ·exact hz'
theorem ZnT:∀ {l:List ZF},l.Pairwise (fun x y=>¬ hlt y x)→HAsc (ddp l):=fun {l}=>by
 refine ZgS (P:=fun l=>l.Pairwise (fun x y=>¬ hlt y x)→HAsc (ddp l)) (fun _=>List.Pairwise.nil) (fun l y ih h=>?_) l
 ·skip
  rw [List.pairwise_append] at h
  have ih:=ih h.1
  rw [ZbV]
  unfold hdst
  split
  ·exact List.pairwise_singleton _ _
  ·rename_i z hz
   cases hb:heq y z with
   | true=>exact ih
   | false =>
    simp only [cond_false]
    unfold HAsc
    rw [List.pairwise_append]
    refine ⟨ih,List.pairwise_singleton _ _,fun a ha b hb'=>?_⟩
    rw [List.mem_singleton] at hb'
    subst hb'
    have h1:=h.2.2 a ((Zih a l).1 ha) b (by simp)
    rcases Zii a b with h2 | h2 | h2
    ·exact h2
    ·subst h2
     -- then a is the last: contradiction to 'heq'
     exfalso
     rw [Zjj] at hz
     have hzl:z∈l:=List.mem_of_getLast? hz
     have h3:=h.2.2 z hzl a (by simp)
     obtain ⟨l',rfl⟩:∃ l',l=l'++[z]:=by
      rcases List.eq_nil_or_concat l with rfl | ⟨l',w,rfl⟩
      ·cases hz
      ·rw [List.concat_eq_append] at hz ⊢
       simp at hz
       exact ⟨l',by rw [hz]⟩
     have ha':=(Zih a _).1 ha
     rcases List.mem_append.1 ha' with h4 | h4
     ·rw [List.pairwise_append] at h
      have h5:=h.1.2.2 a h4 z (by simp)
      rcases Zii a z with h6 | h6 | h6
      ·exact h3 h6
      ·rw [Zca.2 h6] at hb; cases hb
      ·exact h5 h6
     ·rw [List.mem_singleton] at h4
      rw [Zca.2 h4] at hb; cases hb
    ·exact absurd h2 h1
theorem ZnU (l:List ZF):(ddp l).length≤l.length:=by
 refine ZgS (P:=fun l=>(ddp l).length≤l.length) (Nat.le_refl _) (fun l y ih=>?_) l
 ·skip
  rw [ZbV,List.length_append,List.length_singleton]
  unfold hdst
  split
  ·simp
  ·rename_i z _
   cases heq y z <;> simp <;> omega
end Nv
