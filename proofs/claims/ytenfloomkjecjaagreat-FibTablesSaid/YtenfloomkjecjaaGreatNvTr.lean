/- Forwarding: which hops the reference gives. No condition but the bounds of what comes in. -/
import Derived.Test.YtenfloomkjecjaaGreatNvTh
import Derived.Test.YtenfloomkjecjaaGreatNvTu8
import Derived.Test.YtenfloomkjecjaaGreatNvHrb
set_option maxRecDepth 100000
namespace Nv
open Go Go.Sort Go.Proofs
theorem quietN {f:Nat→Option (Unit ⊕ Bool)} {n:Nat} (hf:∀ k y,f k=some y→y = .inr false) {X:Bool} (h:Sum.elim (fun _=>X) (fun y=>y) (runN f (.inl ()) 0 n)=true):X=true∧∀ j,j < n→f j=none:=by
 rcases Ul f (.inl ()) n 0 with ⟨k,h1,h2,h3,h4⟩ | ⟨h1,h2⟩
 ·rw [hf _ _ h3] at h; cases h
 ·rw [h1] at h
  exact ⟨h,fun j hj=>h2 j (Nat.zero_le _) (by omega)⟩
theorem nf {g x:Bool} (h:(bif g then false else x)=true):x=true:=by
 cases g
 ·exact h
 ·cases h
theorem Kg {l:List ZF} (h:(l.length:Int)≤1):HAsc l:=by
 match l,h with
 | [],_=>exact List.Pairwise.nil
 | [x],_=>exact List.pairwise_singleton _ _
theorem Zn1 {l:List ZF} (h:∀ m,m+1 < l.length→hlt (l.getD m default) (l.getD (m+1) default)):HAsc l:=by
 have key:∀ d i,i+d+1 < l.length→hlt (l.getD i default) (l.getD (i+d+1) default):=fun d=>by
  induction d with
  | zero=>intro i hi; exact h i hi
  | succ d ih =>
   intro i hi
   exact R7 (ih i (by omega)) (h (i+d+1) hi)
 refine List.pairwise_iff_getElem.2 fun i j hi hj hij=>?_
 obtain ⟨d,rfl⟩:∃ d,j=i+d+1:=⟨j - i - 1,by omega⟩
 have:=key d i hj
 rw [List.getD_eq_getElem?_getD,List.getD_eq_getElem?_getD,List.getElem?_eq_getElem hi,List.getElem?_eq_getElem hj] at this
 exact this
theorem Zj8 {l:List ZF} (hl:l.length≤8796093022208) {b:Bool} (h:S.Qh l b=true):HAsc l:=by
 unfold S.Qh at h
 simp only [letS] at h
 obtain ⟨_,h2⟩:=quietN (X:=true) (fun k y hy=>by
  unfold S.Vd at hy
  simp only [letS] at hy
  revert hy
  generalize (_||_:Bool)=c
  cases c
  ·intro hy; cases hy
  ·intro hy; exact (Option.some.inj hy).symm) h
 refine Zn1 fun m hm=>?_
 have hM:=Zn
 have:=h2 (m+1) hm
 have hw:wr .i64 (((m+1:Nat):Int) - 1)=(m:Int):=by
  unfold wr
  rw [IntWalk.i64_in _ (by omega)]
  omega
 unfold S.Vd at this
 simp only [letS,hw,Int.toNat_natCast,dt (show (((m+1:Nat):Int) > 0) by omega),Bool.and_true,Bool.true_and] at this
 cases hd:decide ((l.getD (m+1) default).ZP < 0) with
 | true=>rw [hd] at this; cases this
 | false =>
  rw [hd] at this
  simp only [Bool.not_false,cond_true,Bool.false_or] at this
  cases hh:S.Qf (l.getD m default) (l.getD (m+1) default) with
  | false=>rw [hh] at this; cases this
  | true =>
   unfold S.Qf at hh
   unfold hlt
   simpa using hh
theorem ZoI {r:ZM} (hl:r.ZQ.length≤8796093022208) (h:S.Qu r=true):HAsc r.ZQ:=by
 unfold S.Qu at h
 simp only [letS] at h
 have h:=nf h
 cases hn:r.YF != 0 with
 | true =>
  simp only [hn,cond_true,Bool.and_eq_true,beq_iff_eq] at h
  exact Kg (by omega)
 | false =>
  cases hd:r.ZS with
  | true =>
   simp only [hn,hd,cond_true,cond_false,beq_iff_eq] at h
   exact Kg (by omega)
  | false =>
   simp only [hn,hd,cond_false,Bool.and_eq_true,beq_iff_eq] at h
   exact Kg (by omega)
theorem Zjr {l:List ZF} (hl:l.length≤8796093022208) {b:Bool} (h:(decide ((l.length:Int) > 0)&&(bif decide ((l.length:Int) > 0) then S.Qh l b else default))=true):HAsc l:=by
 cases hd:decide ((l.length:Int) > 0) with
 | false=>rw [hd] at h; cases h
 | true =>
  rw [hd,Bool.true_and,cond_true] at h
  exact Zj8 hl h
theorem ZoJ {r:ZM} (hl:r.ZQ.length≤8796093022208) (h:S.YD r=true):HAsc r.ZQ:=by
 unfold S.YD at h
 simp only [letS] at h
 have h:=nf (nf h)
 cases hd:r.ZS with
 | true =>
  simp only [hd,cond_true,Bool.and_eq_true,beq_iff_eq] at h
  exact Kg (by omega)
 | false =>
  rw [hd,cond_false] at h
  exact Zjr hl h
theorem ZoK {r:ZM} (hl:r.ZQ.length≤8796093022208) (h:S.YS r=true):HAsc r.ZQ:=by
 unfold S.YS at h
 simp only [letS] at h
 have h:=nf h
 cases h1:r.Yj==1 with
 | true =>
  rw [h1,cond_true,Bool.and_eq_true,Bool.and_eq_true,beq_iff_eq] at h
  exact Kg (by have:=h.1.2; omega)
 | false =>
  rw [h1,cond_false] at h
  cases h2:r.Yj==2 with
  | true =>
   rw [h2,cond_true,beq_iff_eq] at h
   exact Kg (by omega)
  | false =>
   rw [h2,cond_false] at h
   cases h3:r.Yj==3 with
   | true =>
    rw [h3,cond_true] at h
    exact Zjr hl h
   | false=>rw [h3] at h; cases h
theorem Zm4 {r:ZM} {b:Bool} (h:S.Yu r b=true):HAsc r.ZQ:=by
 unfold S.Yu at h
 cases b with
 | false=>cases h
 | true =>
  simp only [letS,cond_true,Bool.and_eq_true,beq_iff_eq] at h
  exact Kg (by have:=h.1.1.1.2; omega)
theorem Zm5 {r:ZM} {b:Bool} (h:S.Yv r b=true):HAsc r.ZQ:=by
 unfold S.Yv at h
 cases b with
 | true =>
  simp only [cond_true,Bool.and_eq_true,beq_iff_eq] at h
  exact Kg (by have:=h.1.2; omega)
 | false =>
  rw [cond_false] at h
  cases h3:r.Yj==3 with
  | true=>rw [h3,cond_true] at h; exact Zm4 h
  | false=>rw [h3,cond_false] at h; exact Zm4 h
theorem ZoL {r:ZM} (h:S.Ja r=true):HAsc r.ZQ:=by
 unfold S.Ja at h
 simp only [letS] at h
 have h:=nf h
 cases h1:r.Yj==1 with
 | true=>rw [h1,cond_true] at h; exact Zm5 h
 | false=>rw [h1,cond_false] at h; exact Zm5 h
theorem Zm6 {r:ZM} (hl:r.ZQ.length≤8796093022208) (h:S.V0 r=true):HAsc r.ZQ:=by
 unfold S.V0 at h
 simp only [letS] at h
 have h:=nf h
 obtain ⟨h,_⟩:=quietN (fun k y hy=>by
  unfold S.Ve at hy
  simp only [letS] at hy
  revert hy
  generalize (!(_:Bool))=c
  cases c
  ·intro hy; cases hy
  ·intro hy; exact (Option.some.inj hy).symm) h
 cases h1:r.XR==1 with
 | true =>
  rw [h1,cond_true,Bool.and_eq_true,Bool.and_eq_true,beq_iff_eq] at h
  exact Kg (by have:=h.1.2; omega)
 | false =>
  rw [h1,cond_false] at h
  cases h2:r.XR==2 with
  | true=>rw [h2,cond_true] at h; exact ZoI hl h
  | false =>
   rw [h2,cond_false] at h
   cases h3:r.XR==3 with
   | true=>rw [h3,cond_true] at h; exact ZoJ hl h
   | false =>
    rw [h3,cond_false] at h
    cases h4:r.XR==4 with
    | true=>rw [h4,cond_true] at h; exact ZoK hl h
    | false =>
     rw [h4,cond_false] at h
     cases h5:r.XR==5 with
     | true=>rw [h5,cond_true] at h; exact ZoL h
     | false=>rw [h5] at h; cases h
theorem Zjs {rs:List ZM} (hb:∀ r∈rs,r.ZQ.length≤8796093022208) {x:Int} (h:S.Wt rs x=true) {i:Nat} (hi:i < rs.length):HAsc (rs.getD i default).ZQ:=by
 unfold S.Wt at h
 simp only [letS] at h
 obtain ⟨_,h2⟩:=quietN (X:=true) (fun k y hy=>by
  unfold S.JF at hy
  simp only [letS] at hy
  revert hy
  generalize (_||_:Bool)=c
  cases c
  ·intro hy; cases hy
  ·intro hy; exact (Option.some.inj hy).symm) h
 have:=h2 i hi
 unfold S.JF at this
 simp only [letS] at this
 cases hv:S.V0 (rs.getD i default) with
 | true=>exact Zm6 (hb _ (GL hi)) hv
 | false =>
  rw [hv] at this
  simp at this
end Nv
