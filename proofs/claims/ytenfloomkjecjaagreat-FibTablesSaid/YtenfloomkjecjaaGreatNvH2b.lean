/- Compact strikes out neighbours that are alike. No condition. -/
import Derived.Test.YtenfloomkjecjaaGreatNvH1
import Derived.Test.YtenfloomkjecjaaGreatNvLibD
namespace Nv
open Go
theorem Kp {l:List ZF} {i:Nat} (hi:i < l.length):l.take (i+1)=l.take i++[l.getD i default]:=by
 rw [List.take_add_one]; simp [hi]
theorem Zj1 {l:List ZF} {i:Nat} (h0:0 < i) (hi:i≤l.length):(l.take i).getLast? = some (l.getD (i - 1) default):=by
 obtain ⟨k,rfl⟩:∃ k,i=k+1:=⟨i - 1,by omega⟩
 rw [Kp (by omega)]; simp
theorem Zjl {l:List ZF} {i:Nat} (h0:0 < i) (hi:i < l.length):ddp (l.take (i+1))=bif heq (l.getD i default) (l.getD (i - 1) default) then ddp (l.take i) else ddp (l.take i)++[l.getD i default]:=by
 rw [Kp hi,ZbV]
 unfold hdst
 rw [Zjj,Zj1 h0 (by omega)]
theorem Zlr (l:List ZF) (off len:Nat) (z:ZF):(clrL l off len z).take off=l.take off:=by
 apply List.ext_getElem?
 intro i
 rw [List.getElem?_take,List.getElem?_take]
 split
 ·rename_i h
  unfold clrL
  rw [List.getElem?_map]
  by_cases hi:i < l.length
  ·have:Nat.ble off i=false:=by
    cases hb:Nat.ble off i with
    | false=>rfl
    | true=>have:=Nat.le_of_ble_eq_true hb; omega
   simp [hi,this]
  ·simp [hi]
 ·rfl
theorem ZoF {l:List ZF} (hl:l.length≤8796093022208) {k0:Nat} (hk0:1≤k0):∀ (n j kk:Nat) (arr:List ZF),k0+j+n=l.length→1≤j→arr.length=l.length→kk+1≤k0+j→(∀ i,k0+j - 1≤i→arr.getD i default=l.getD i default)→arr.take kk=ddp (l.take (k0+j)) →
  ∃ kk' arr',Iter (M.Xl l (k0:Int)) (arr,(kk:Int),(j:Int)) (((kk':Nat):Int),arr')∧arr'.length=l.length∧kk'≤l.length∧arr'.take kk'=ddp l:=by
 intro n
 induction n with
 | zero =>
  intro j kk arr h1 h2 h3 h4 h5 h6
  refine ⟨kk,arr,.out ?_,h3,by omega,?_⟩
  ·unfold M.Xl
   simp only [Int.toNat_natCast]
   rw [show decide ((j:Int) < ((l.length - k0:Nat):Int))=false from decide_eq_false (by omega),cond_false]
  ·rw [h6,List.take_of_length_le (by omega)]
 | succ n ih =>
  intro j kk arr h1 h2 h3 h4 h5 h6
  have hj:wr .i64 ((j:Int)+1)=((j+1:Nat):Int):=by rw [wrN (by omega) (by omega)]; omega
  have hj1:wr .i64 ((j:Int) - 1)=((j - 1:Nat):Int):=by rw [wrN (by omega) (by omega)]; omega
  have hk1:wr .i64 ((kk:Int)+1)=((kk+1:Nat):Int):=by rw [wrN (by omega) (by omega)]; omega
  have d1:decide ((j:Int) < ((l.length - k0:Nat):Int))=true:=decide_eq_true (by omega)
  have d2:decide (0≤(j:Int))=true:=decide_eq_true (by omega)
  have d3:decide (0≤((j - 1:Nat):Int))=true:=decide_eq_true (by omega)
  have d4:decide (((j - 1:Nat):Int) < ((l.length - k0:Nat):Int))=true:=decide_eq_true (by omega)
  have d5:decide (0≤(kk:Int))=true:=decide_eq_true (by omega)
  have d6:decide ((kk:Int) < (arr.length:Int))=true:=decide_eq_true (by omega)
  have e1:arr.getD (0+k0+j) default=l.getD (k0+j) default:=by rw [Nat.zero_add]; exact h5 _ (by omega)
  have e2:arr.getD (0+k0+(j - 1)) default=l.getD (k0+j - 1) default:=by rw [Nat.zero_add,show k0+(j - 1)=k0+j - 1 by omega]; exact h5 _ (by omega)
  have hd:=Zjl (l:=l) (i:=k0+j) (by omega) (by omega)
  have st:M.Xl l (k0:Int) (arr,(kk:Int),(j:Int))=bif heq (l.getD (k0+j) default) (l.getD (k0+j - 1) default) then some (.inl (arr,(kk:Int),((j+1:Nat):Int))) else some (.inl (arr.set kk (l.getD (k0+j) default),((kk+1:Nat):Int),((j+1:Nat):Int))):=by
   unfold M.Xl M.Xk
   simp only [Int.toNat_natCast,hj1,d1,d2,d3,d4,d5,d6,cond_true,e1,e2,hj,hk1]
   rw [gdT (by simp)]
   show (bif !heq (l.getD (k0+j) default) (l.getD (k0+j - 1) default) then _ else _)=_
   cases heq (l.getD (k0+j) default) (l.getD (k0+j - 1) default) with
   | true=>rfl
   | false =>
    simp only [Bool.not_false,cond_true,cond_false]
    rw [gdT (by simp),Nat.zero_add]
  cases hb:heq (l.getD (k0+j) default) (l.getD (k0+j - 1) default) with
  | true =>
   rw [hb] at st hd
   obtain ⟨kk',arr',q1,q2⟩:=ih (j+1) kk arr (by omega) (by omega) h3 (by omega) (fun i hi=>h5 i (by omega)) (by rw [← Nat.add_assoc,hd]; exact h6)
   exact ⟨kk',arr',.next st q1,q2⟩
  | false =>
   rw [hb] at st hd
   obtain ⟨kk',arr',q1,q2⟩:=ih (j+1) (kk+1) (arr.set kk (l.getD (k0+j) default)) (by omega) (by omega) (by rw [List.length_set]; exact h3) (by omega) (fun i hi=>by
    rw [List.getD_eq_getElem?_getD,List.getElem?_set_ne (by omega),← List.getD_eq_getElem?_getD]
    exact h5 i (by omega)) (by
    rw [← Nat.add_assoc,hd]
    simp only [cond_false]
    rw [← h6]
    have hkl:kk < (arr.set kk (l.getD (k0+j) default)).length:=by rw [List.length_set]; omega
    rw [Kp hkl]
    congr 1
    ·rw [List.take_set_of_le (Nat.le_refl _)]
    ·rw [List.getD_eq_getElem?_getD,List.getElem?_set_self (by omega)]; rfl)
   exact ⟨kk',arr',.next st q1,q2⟩
theorem ZoG {l:List ZF} (hl:l.length≤8796093022208):∀ (n k:Nat),k+n=l.length→1≤k→ddp (l.take k)=l.take k →
  (Iter (M.Z3 l) (k:Int) (.inl ())∧ddp l=l)∨∃ l' m,Iter (M.Z3 l) (k:Int) (.inr (l',m))∧l'.length=l.length∧m≤l'.length∧l'.take m=ddp l:=by
 intro n
 induction n with
 | zero =>
  intro k h1 h2 h3
  left
  refine ⟨.out ?_,?_⟩
  ·unfold M.Z3
   rw [show decide ((k:Int) < (l.length:Int))=false from decide_eq_false (by omega),cond_false]
  ·rw [List.take_of_length_le (by omega)] at h3; exact h3
 | succ n ih =>
  intro k h1 h2 h3
  have hup:wr .i64 ((k:Int)+1)=((k+1:Nat):Int):=by rw [wrN (by omega) (by omega)]; omega
  have hdn:wr .i64 ((k:Int) - 1)=((k - 1:Nat):Int):=by rw [wrN (by omega) (by omega)]; omega
  have d1:decide ((k:Int) < (l.length:Int))=true:=decide_eq_true (by omega)
  have d2:decide (0≤(k:Int))=true:=decide_eq_true (by omega)
  have d3:decide (0≤((k - 1:Nat):Int))=true:=decide_eq_true (by omega)
  have d4:decide (((k - 1:Nat):Int) < (l.length:Int))=true:=decide_eq_true (by omega)
  have d5:decide ((k:Int)≤(l.length:Int))=true:=decide_eq_true (by omega)
  have hd:=Zjl (l:=l) (i:=k) (by omega) (by omega)
  cases hb:heq (l.getD k default) (l.getD (k - 1) default) with
  | true =>
   right
   rw [hb] at hd
   obtain ⟨kk',arr',q1,q2,q3,q4⟩:=ZoF hl h2 (l.length - k - 1) 1 k l (by omega) (Nat.le_refl _) rfl (Nat.le_refl _) (fun _ _=>rfl) (by rw [hd]; exact h3.symm)
   refine ⟨clrL arr' (0+kk') (arr'.length - kk') ⟨0,0⟩,kk' - 0,.out ?_,by rw [← Zbi]; exact q2,by rw [← Zbi]; omega,by rw [Nat.sub_zero,Nat.zero_add,Zlr]; exact q4⟩
   unfold M.Z3
   simp only [Int.toNat_natCast,hdn,d1,d2,d3,d4,d5,cond_true,Nat.zero_add]
   rw [gdT (by simp)]
   show (bif heq (l.getD k default) (l.getD (k - 1) default) then _ else _)=_
   rw [hb,cond_true,gdT (by simp),show ((1:Int))=((1:Nat):Int) from rfl]
   refine Option.bind_eq_some_iff.2 ⟨_,Q2 q1,?_⟩
   simp only [Int.toNat_natCast,Nat.zero_add]
   have hcl:=Zbi arr' kk' (arr'.length - kk') (⟨0,0⟩:ZF)
   rw [gdT (by simp; omega),gdT (by simp; omega),gdT (by simp; omega)]
  | false =>
   rw [hb] at hd
   have st:M.Z3 l (k:Int)=some (.inl ((k+1:Nat):Int)):=by
    unfold M.Z3
    simp only [Int.toNat_natCast,hdn,d1,d2,d3,d4,cond_true,Nat.zero_add,hup]
    rw [gdT (by simp)]
    show (bif heq (l.getD k default) (l.getD (k - 1) default) then _ else _)=_
    rw [hb,cond_false]
   have h3':ddp (l.take (k+1))=l.take (k+1):=by rw [hd,cond_false,h3,Kp (by omega)]
   rcases ih (k+1) (by omega) (by omega) h3' with ⟨q1,q2⟩ | ⟨l',m,q1,q2⟩
   ·exact .inl ⟨.next st q1,q2⟩
   ·exact .inr ⟨l',m,.next st q1,q2⟩
theorem Zj2 {l:List ZF} (hl:l.length≤8796093022208):∃ l' m,M.XT l=some (l',m)∧l'.length=l.length∧m≤l'.length∧l'.take m=ddp l:=by
 have one:∀ l:List ZF,l.length≤1→ddp l=l:=fun l h=>by
  match l,h with
  | [],_=>rfl
  | [x],_=>rfl
 unfold M.XT
 by_cases h:l.length < 2
 ·rw [show decide ((l.length:Int) < 2)=true from decide_eq_true (by omega)]
  exact ⟨l,l.length,rfl,rfl,Nat.le_refl _,by rw [List.take_length,one l (by omega)]⟩
 ·rw [show decide ((l.length:Int) < 2)=false from decide_eq_false (by omega),cond_false]
  rcases ZoG hl (l.length - 1) 1 (by omega) (Nat.le_refl _) (one _ (by rw [List.length_take]; omega)) with ⟨q1,q2⟩ | ⟨l',m,q1,q2,q3,q4⟩
  ·refine ⟨l,l.length,?_,rfl,Nat.le_refl _,by rw [List.take_length,q2]⟩
   rw [show ((1:Int))=((1:Nat):Int) from rfl,Q2 q1]
   rfl
  ·refine ⟨l',m,?_,q2,q3,q4⟩
   rw [show ((1:Int))=((1:Nat):Int) from rfl,Q2 q1]
   rfl
end Nv
