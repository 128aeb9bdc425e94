/- Hops put into an ascending list by the reference. No condition. -/
import Derived.Test.YtenfloomkjecjaaGreatNvH2b
import Derived.Test.YtenfloomkjecjaaGreatNvLibC
set_option maxRecDepth 100000
namespace Nv
open Go
noncomputable def lessB (x y:ZF):Bool:=(M.Qf x y).getD false
theorem lessM (x y:ZF):M.Qf x y=some (lessB x y):=by unfold lessB M.Qf; rfl
theorem Zjm (x y:ZF):lessB x y=true↔hlt x y:=by
 unfold lessB M.Qf hlt
 simp [Bool.or_eq_true,Bool.and_eq_true,decide_eq_true_eq,beq_iff_eq]
theorem ZmT {l:List ZF} {i:Nat} (hi:i < l.length):l.getD i default∈l:=by rw [List.getD_eq_getElem?_getD,List.getElem?_eq_getElem hi]; exact List.getElem_mem hi
theorem ZoH {l:List ZF} (hl:l.length≤8796093022207) (h:ZF):∀ (n k:Nat),k+n=l.length→(∀ i,i < k→hlt (l.getD i default) h) →
  ∃ k',k'≤l.length∧Iter (M.W6 l h) (k:Int) ((k':Nat):Int)∧(∀ i,i < k'→hlt (l.getD i default) h)∧(k' < l.length→¬ hlt (l.getD k' default) h):=by
 intro n
 induction n with
 | zero =>
  intro k h1 h2
  refine ⟨k,by omega,.out ?_,h2,fun h=>by omega⟩
  unfold M.W6
  rw [show decide ((k:Int) < (l.length:Int))=false from decide_eq_false (by omega)]
  simp only [gc,cond_false,Option.bind_some,guardB,Bool.false_and]
  rw [gdT (by simp)]
 | succ n ih =>
  intro k h1 h2
  have hup:wr .i64 ((k:Int)+1)=((k+1:Nat):Int):=by rw [wrN (by omega) (by omega)]; omega
  have st:M.W6 l h (k:Int)=bif lessB (l.getD k default) h then some (.inl ((k+1:Nat):Int)) else some (.inr (k:Int)):=by
   unfold M.W6
   rw [show decide ((k:Int) < (l.length:Int))=true from decide_eq_true (by omega)]
   simp only [gc,cond_true,Int.toNat_natCast,guardB,Bool.true_and,hup]
   rw [lessM,Option.bind_some,gdT (by simp)]
  cases hb:lessB (l.getD k default) h with
  | true =>
   rw [hb] at st
   obtain ⟨k',q1,q2,q3⟩:=ih (k+1) (by omega) (fun i hi=>by
    by_cases e:i=k
    ·rw [e]; exact (Zjm _ _).1 hb
    ·exact h2 i (by omega))
   exact ⟨k',q1,.next st q2,q3⟩
  | false =>
   rw [hb] at st
   exact ⟨k,by omega,.out st,h2,fun _ hc=>by rw [(Zjm _ _).2 hc] at hb; cases hb⟩
theorem Zls {l:List ZF} (hl:l.length≤8796093022207) (ha:HAsc l) (h:ZF):∃ r,M.Gl l h=some r∧HAsc r∧(∀ x,x∈r↔x∈l∨x=h)∧r.length≤l.length+1:=by
 obtain ⟨k,q1,q2,q3,q4⟩:=ZoH hl h l.length 0 (Nat.zero_add _) (fun i hi=>by omega)
 have d0:decide (0≤((k:Nat):Int))=true:=decide_eq_true (by omega)
 have d1:decide (((k:Nat):Int)≤(l.length:Int))=true:=decide_eq_true (by omega)
 have un:M.Gl l h=bif decide (((k:Nat):Int) < (l.length:Int))&&heq (l.getD k default) h then some l else some ((l.take k++[h])++l.drop k):=by
  unfold M.Gl
  rw [show ((0:Int))=((0:Nat):Int) from rfl,Q2 q2,Option.bind_some]
  simp only [Int.toNat_natCast,Nat.sub_zero,Nat.zero_add,List.drop_zero]
  rw [show ((0:Nat):Int)=0 from rfl]
  rw [gdT (by cases hc:decide (((k:Nat):Int) < (l.length:Int)) <;> simp [guardB,d0])]
  show (bif decide (((k:Nat):Int) < (l.length:Int))&&heq (l.getD k default) h then some l else _)=_
  congr 1
  rw [gdT (by simp [d0,d1]; omega),List.take_of_length_le (l:=l.drop k) (by rw [List.length_drop]; exact Nat.le_refl _)]
 rw [un]
 cases hb:decide (((k:Nat):Int) < (l.length:Int))&&heq (l.getD k default) h with
 | true =>
  rw [Bool.and_eq_true,decide_eq_true_eq] at hb
  have hk:k < l.length:=by omega
  have e:=Zca.1 hb.2
  have hm:=ZmT hk
  rw [e] at hm
  exact ⟨l,rfl,ha,fun x=>⟨.inl,fun hx=>hx.elim id fun e=>e ▸ hm⟩,Nat.le_succ _⟩
 | false =>
  refine ⟨_,rfl,?_,fun x=>?_,by simp; omega⟩
  ·have h1:∀ a∈l.take k,hlt a h:=fun a hx=>by
    obtain ⟨i,hi,rfl⟩:=List.getElem_of_mem hx
    rw [List.length_take] at hi
    have:=q3 i (by omega)
    rw [List.getElem_take]
    simpa [show i < l.length by omega] using this
   have h2:∀ b∈l.drop k,hlt h b:=fun b hx=>by
    by_cases hk:k < l.length
    ·have hn:=q4 hk
     have hne:¬ l.getD k default=h:=fun e=>by rw [Zca.2 e,Bool.and_true,decide_eq_false_iff_not] at hb; omega
     have hlt1:hlt h (l.getD k default):=by
      rcases Zii (l.getD k default) h with e | e | e
      ·exact absurd e hn
      ·exact absurd e hne
      ·exact e
     have hd:l.drop k=l.getD k default :: l.drop (k+1):=by rw [List.drop_eq_getElem_cons hk]; simp [hk]
     have hp:=ha.sublist (List.drop_sublist k l)
     rw [hd,List.pairwise_cons] at hp
     rw [hd] at hx
     rcases List.mem_cons.1 hx with rfl | hx
     ·exact hlt1
     ·exact R7 hlt1 (hp.1 b hx)
    ·rw [List.drop_eq_nil_of_le (by omega)] at hx; cases hx
   unfold HAsc
   rw [List.pairwise_append,List.pairwise_append]
   refine ⟨⟨ha.sublist (List.take_sublist k l),List.pairwise_singleton _ _,fun a hx b hy=>by rw [List.mem_singleton] at hy; subst hy; exact h1 a hx⟩,ha.sublist (List.drop_sublist k l),fun a hx b hy=>?_⟩
   rcases List.mem_append.1 hx with hx | hx
   ·exact R7 (h1 a hx) (h2 b hy)
   ·rw [List.mem_singleton] at hx; subst hx; exact h2 b hy
  ·rw [List.mem_append,List.mem_append,List.mem_singleton]
   conv=>rhs; rw [← List.take_append_drop k l,List.mem_append]
   constructor
   ·rintro ((h | h) | h)
    ·exact .inl (.inl h)
    ·exact .inr h
    ·exact .inl (.inr h)
   ·rintro ((h | h) | h)
    ·exact .inl (.inl h)
    ·exact .inr h
    ·exact .inl (.inr h)
end Nv
