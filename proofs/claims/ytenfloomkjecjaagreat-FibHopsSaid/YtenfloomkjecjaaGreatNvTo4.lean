/- What the reference's check of a network tells where it finds nothing. No condition. -/
import Derived.Test.YtenfloomkjecjaaGreatNvTo1
import Derived.Test.YtenfloomkjecjaaGreatNvT1
import Derived.Test.YtenfloomkjecjaaGreatNvLibB
import Derived.Test.YtenfloomkjecjaaGreatNvQ2
set_option maxRecDepth 100000
namespace Nv
open Go
theorem Zek {g : Nat → Option (Unit ⊕ Int)} {n : Nat} (h0 : ∀ i y,g i = some y → ∃ e,y = .inr e ∧ e ≠ 0) (h : Sum.elim (fun _ => (0 : Int)) (fun y => y) (runN g (.inl ()) 0 n) = 0) : ∀ i,i < n → g i = none := by
 rcases Uz g (.inl ()) n 0 with ⟨j,h1,h2,h3,h4⟩ | ⟨h1,h2⟩
 ·obtain ⟨e,he,hne⟩ := h0 _ _ h3
  rw [he] at h
  exact absurd h hne
 ·exact fun i hi => h2 i (Nat.zero_le _) (by omega)
theorem G7 {g : Nat → Option (Unit ⊕ Int)} {v : Int} (h0 : ∀ i y,g i = some y → y = .inr v) (n : Nat) : (runN g (.inl ()) 0 n = .inl () ∧ ∀ i,i < n → g i = none) ∨ runN g (.inl ()) 0 n = .inr v := by
 rcases Uz g (.inl ()) n 0 with ⟨k,h1,h2,h3,h4⟩ | ⟨h1,h2⟩
 ·exact .inr (h0 _ _ h3)
 ·exact .inl ⟨h1,fun i hi => h2 i (Nat.zero_le _) (by omega)⟩
theorem Zkv {β : Type} {g : Nat → Option β} {e : β} {n : Nat} (hb : ∀ i,i < n → g i = none) : runN g e 0 n = e := by
 rcases Uz g e n 0 with ⟨k,h1,h2,h3,h4⟩ | ⟨h1,h2⟩
 ·rw [hb k (by omega)] at h3; cases h3
 ·exact h1
theorem Zfc {b : Bool} {v : Int} {y : Unit ⊕ Int} (h : (bif b then some (.inr v) else none) = some y) : y = .inr v := by
 cases b
 ·cases h
 ·cases h; rfl
theorem Ziu {b : Bool} {y : Unit ⊕ Int} (h : (bif b then some y else none) = none) : b = false := by
 cases b
 ·rfl
 ·cases h
theorem rnet (a n : Int) : S.QT a n = netP a n := by
 unfold S.QT netP
 have e : (if 0 > (if 32 < n then 32 else n) then 0 else (if 32 < n then 32 else n)) = cl32 n := by unfold cl32; split <;> split <;> (try split) <;> omega
 simp only [letS,e]
 rw [show S.JQ (cl32 n) = mk32 (cl32 n) from rfl,ZcU]
theorem Znh (a n : Int) : M.QT a n = some (netP a n) := by rw [KH,rnet]
theorem rover (a n : Int) : S.QN (netP a n) (netP a n) = true := by
 have h : S.Vt (netP a n) (netP a n) = true := by
  unfold S.Vt S.VC
  simp only [letS,Int.le_refl,decide_true,cond_true,Bool.true_and,beq_iff_eq]
  show bitD .and .u32 (bitD .and .u32 a (mk32 n)) (S.JQ (cl32 n)) = bitD .and .u32 a (mk32 n)
  rw [show S.JQ (cl32 n) = mk32 (cl32 n) from rfl,ZcU,Zga a (Int.le_refl _)]
 unfold S.QN
 simp only [letS,h,Bool.true_or]
theorem Zkw {l : List ZA} (h : S.Yo l = 0) {i k : Nat} (hi : i < l.length) (hk : k < i) (h1 : (l.getD i default).ZL ≠ 0) (h2 : (l.getD k default).ZL ≠ 0) :
  S.QN (netP (l.getD i default).Zn (l.getD i default).ZL) (netP (l.getD k default).Zn (l.getD k default).ZL) = false := by
 have l2 : ∀ i k y,S.YY l i k = some y → y = .inr 4 := fun i k y h => by
  unfold S.YY at h
  exact Zfc h
 have l3 : ∀ i k y,S.YD l i k = some y → y = .inr 6 := fun i k y h => by
  unfold S.YD at h
  simp only [letS] at h
  exact Zfc h
 have val : ∀ i y,S.YE l i = some y → (∃ e,y = .inr e ∧ e ≠ 0) := fun i y h => by
  unfold S.YE at h
  simp only [letS] at h
  revert h
  cases S.Jq (l.getD i default).XB with
  | false => intro h; cases h; exact ⟨3,rfl,by decide⟩
  | true =>
   rcases G7 (l2 i) i with ⟨e2,_⟩ | e2
   ·rw [e2]
    simp only [Bool.not_true,cond_false,Sum.elim_inl]
    generalize ((_ || _ : Bool)) = c1
    cases c1
    ·rw [cond_false]
     generalize ((_ || _ : Bool)) = c2
     cases c2
     ·rw [cond_false]
      generalize ((_ || _ : Bool)) = c3
      cases c3
      ·rw [cond_false]
       rcases G7 (l3 i) i with ⟨e3,_⟩ | e3
       ·rw [e3]; intro h; cases h
       ·rw [e3]; intro h; cases h; exact ⟨6,rfl,by decide⟩
      ·intro h; cases h; exact ⟨1,rfl,by decide⟩
     ·intro h; cases h; exact ⟨1,rfl,by decide⟩
    ·intro h; cases h; exact ⟨1,rfl,by decide⟩
   ·rw [e2]; intro h; cases h; exact ⟨4,rfl,by decide⟩
 unfold S.Yo at h
 cases hc : decide ((l.length : Int) > 8) with
 | true => rw [hc] at h; simp at h
 | false =>
  rw [hc] at h
  simp only [cond_false,letS] at h
  have hr := Zek val h i hi
  unfold S.YE at hr
  simp only [letS] at hr
  revert hr
  cases S.Jq (l.getD i default).XB with
  | false => intro h; cases h
  | true =>
   rcases G7 (l2 i) i with ⟨e2,_⟩ | e2
   ·rw [e2]
    simp only [Bool.not_true,cond_false,Sum.elim_inl]
    generalize ((_ || _ : Bool)) = c1
    cases c1
    ·rw [cond_false]
     generalize ((_ || _ : Bool)) = c2
     cases c2
     ·rw [cond_false]
      generalize ((_ || _ : Bool)) = c3
      cases c3
      ·rw [cond_false]
       rcases G7 (l3 i) i with ⟨e3,n3⟩ | e3
       ·intro _
        have h4 := n3 k hk
        unfold S.YD at h4
        simp only [letS,rnet] at h4
        have h5 := Ziu h4
        have g1 : ((l.getD i default).ZL != 0) = true := by simpa using h1
        have g2 : ((l.getD k default).ZL != 0) = true := by simpa using h2
        simpa only [g1,g2,Bool.and_self,cond_true,Bool.true_and] using h5
       ·rw [e3]; intro h; cases h
      ·intro h; cases h
     ·intro h; cases h
    ·intro h; cases h
   ·rw [e2]; intro h; cases h
theorem rrouter {a : Zh} (h : S.YB a = 0) : S.Yo a.Zc = 0 := by
 unfold S.YB at h
 simp only [letS] at h
 cases h1 : S.Jq a.XB with
 | false => rw [h1] at h; simp at h
 | true =>
  cases h2 : S.ZN a.Kq 0 65535 with
  | false => rw [h1,h2] at h; simp at h
  | true =>
   rw [h1,h2] at h
   simp only [Bool.not_true,cond_false] at h
   have hv : ∀ i y,S.Yp (S.Yo a.Zc) (S.QL a.YM) (S.Js a) (S.QM a.YW) (S.Qf a) (S.VH a) (S.VI a) (S.Ju a) (S.J0 a) (S.Q3 a) i = some y → ∃ e,y = .inr e ∧ e ≠ 0 := fun i y hy => by
    unfold S.Yp at hy
    revert hy
    generalize (_ : List Int).getD i default = x
    intro hy
    cases hb : x != 0 with
    | true => rw [hb] at hy; cases hy; exact ⟨x,rfl,by simpa using hb⟩
    | false => rw [hb] at hy; cases hy
   have h0 := Zek hv h 0 (by simp)
   unfold S.Yp at h0
   cases hb : (S.Yo a.Zc) != 0 with
   | true =>
    rw [show ([S.Yo a.Zc,S.QL a.YM,S.Js a,S.QM a.YW,S.Qf a,S.VH a,S.VI a,S.Ju a,S.J0 a,S.Q3 a] : List Int).getD 0 default = S.Yo a.Zc from rfl,hb] at h0
    cases h0
   | false => simpa using hb
theorem rcheck {a : ZG} (h : S.Jv a = 0) {i : Nat} (hi : i < a.Ze.length) : S.YB (a.Ze.getD i default) = 0 ∧
  ∀ j,j < nif a i → (ifc a i j).ZL ≠ 0 → ∀ k,k < i → S.J8 (a.Ze.getD k default) (ifc a i j).Zn < 0 := by
 have l2 : ∀ i k y,S.J1 a i k = some y → y = .inr 4 := fun i k y h => by
  unfold S.J1 at h
  exact Zfc h
 have l4 : ∀ i j k y,S.JF a i j k = some y → y = .inr 4 := fun i j k y h => by
  unfold S.JF at h
  simp only [letS] at h
  exact Zfc h
 have l3 : ∀ i j y,S.JG a i j = some y → y = .inr 4 := fun i j y h => by
  unfold S.JG at h
  simp only [letS] at h
  rcases G7 (l4 i j) i with ⟨e,_⟩ | e <;> rw [e] at h <;> cases h
  rfl
 have val : ∀ i y,S.JH a i = some y → (∃ e,y = .inr e ∧ e ≠ 0) := fun i y h => by
  unfold S.JH at h
  simp only [letS] at h
  cases hb : S.YB (a.Ze.getD i default) != 0 with
  | true => rw [hb] at h; cases h; exact ⟨_,rfl,by simpa using hb⟩
  | false =>
   rw [hb] at h
   simp only [cond_false] at h
   rcases G7 (l2 i) i with ⟨e2,_⟩ | e2
   ·rw [e2] at h
    simp only [Sum.elim_inl] at h
    rcases G7 (l3 i) ((a.Ze.getD i default).Zc.length) with ⟨e3,_⟩ | e3 <;> rw [e3] at h <;> cases h
    exact ⟨4,rfl,by decide⟩
   ·rw [e2] at h; cases h; exact ⟨4,rfl,by decide⟩
 unfold S.Jv at h
 cases hc : decide ((a.Ze.length : Int) > 8) with
 | true => rw [hc] at h; simp at h
 | false =>
  rw [hc] at h
  simp only [cond_false,letS] at h
  have hr := Zek val h i hi
  unfold S.JH at hr
  simp only [letS] at hr
  cases hb : S.YB (a.Ze.getD i default) != 0 with
  | true => rw [hb] at hr; cases hr
  | false =>
   rw [hb] at hr
   simp only [cond_false] at hr
   refine ⟨by simpa using hb,fun j hj hl k hk => ?_⟩
   rcases G7 (l2 i) i with ⟨e2,_⟩ | e2
   ·rw [e2] at hr
    simp only [Sum.elim_inl] at hr
    rcases G7 (l3 i) ((a.Ze.getD i default).Zc.length) with ⟨e3,n3⟩ | e3
    ·have h5 := n3 j hj
     unfold S.JG at h5
     simp only [letS] at h5
     rcases G7 (l4 i j) i with ⟨e4,n4⟩ | e4
     ·have h6 := n4 k hk
      unfold S.JF at h6
      simp only [letS] at h6
      have h7 := Ziu h6
      rw [show ((a.Ze.getD i default).Zc.getD j default) = ifc a i j from rfl] at h7
      have g1 : ((ifc a i j).ZL != 0) = true := by simpa using hl
      simp only [g1,cond_true,Bool.true_and] at h7
      have := of_decide_eq_false h7
      omega
     ·rw [e4] at h5; cases h5
    ·rw [e3] at hr; cases hr
   ·rw [e2] at hr; cases hr
theorem rapart {a : ZG} (h : S.Jv a = 0) : ApartN a := by
 intro r hr i hi k hk h1 h2 he
 have hc := rrouter (rcheck h hr).1
 have e1 : (ifc a r i).ZL ≠ 0 := fun hh => by unfold elig at h1; rw [hh] at h1; cases h1
 have e2 : (ifc a r k).ZL ≠ 0 := fun hh => by unfold elig at h2; rw [hh] at h2; cases h2
 have h3 := Zkw hc hi hk e1 e2
 unfold ikey at he
 simp only [Prod.mk.injEq] at he
 have hp : netP (ifc a r k).Zn (ifc a r k).ZL = netP (ifc a r i).Zn (ifc a r i).ZL := by
  revert he
  generalize netP (ifc a r k).Zn (ifc a r k).ZL = p
  generalize netP (ifc a r i).Zn (ifc a r i).ZL = q
  intro he
  cases p; cases q
  simp only at he
  simp [he.1,he.2.1]
 rw [show ((a.Ze.getD r default).Zc.getD i default) = ifc a r i from rfl,show ((a.Ze.getD r default).Zc.getD k default) = ifc a r k from rfl,hp,rover] at h3
 cases h3
theorem ZlO {a : ZG} (h : S.Vr a = true) : a.Ze.length ≤ 9 ∧ ∀ r,nif a r ≤ 12 := by
 unfold S.Vr at h
 cases hl : decide ((a.Ze.length : Int) > 9) with
 | true => rw [hl] at h; cases h
 | false =>
  rw [hl] at h
  simp only [cond_false,letS] at h
  refine ⟨by have := of_decide_eq_false hl; omega,fun r => ?_⟩
  rcases Nat.lt_or_ge r a.Ze.length with hr | hr
  ·rcases Uz (S.QJ a) (.inl ()) a.Ze.length 0 with ⟨j,h1,h2,h3,h4⟩ | ⟨h1,h2⟩
   ·revert h3 h
    generalize runN (S.QJ a) (.inl ()) 0 a.Ze.length = z
    intro h h3
    unfold S.QJ at h3
    simp only [letS] at h3
    cases hs : S.V3 (a.Ze.getD j default) with
    | true => rw [hs] at h3; cases h3
    | false =>
     rw [hs] at h3
     simp only [Bool.not_false,cond_true,Option.some.injEq] at h3
     rw [← h3] at h
     cases h
   ·have := h2 r (Nat.zero_le _) (by omega)
    unfold S.QJ at this
    simp only [letS] at this
    cases hs : S.V3 (a.Ze.getD r default) with
    | false => rw [hs] at this; cases this
    | true => exact (ZlL hs).ifs
  ·unfold nif
   rw [List.getD_eq_getElem?_getD,List.getElem?_eq_none hr]
   exact Nat.zero_le _
end Nv
