/- Both Builds in words; topologies are the same as themselves. No condition but the bounds of what comes in. -/
import Derived.Test.YtaienbkgekjdnaaGreatNvTo2
import Derived.Test.YtaienbkgekjdnaaGreatNvTo5
import Derived.Test.YtaienbkgekjdnaaGreatNvQ3
set_option maxRecDepth 100000
namespace Nv
open Go Go.Sort Go.Proofs
theorem ZhH {a : ZG} (h : S.VD a = true) : ∀ i,i < a.Ze.length → SmallR (a.Ze.getD i default) := by
 intro r hr
 unfold S.VD at h
 cases hl : decide ((a.Ze.length : Int) > 9) with
 | true => rw [hl] at h; cases h
 | false =>
  rw [hl] at h
  simp only [cond_false,letS] at h
  rcases G7 (S.Y4 a) (.inl ()) a.Ze.length 0 with ⟨j,h1,h2,h3,h4⟩ | ⟨h1,h2⟩
  ·revert h3 h
   generalize runN (S.Y4 a) (.inl ()) 0 a.Ze.length = z
   intro h h3
   unfold S.Y4 at h3
   simp only [letS] at h3
   cases hs : S.VX (a.Ze.getD j default) with
   | true => rw [hs] at h3; cases h3
   | false =>
    rw [hs] at h3
    simp only [Bool.not_false,cond_true,Option.some.injEq] at h3
    rw [← h3] at h
    cases h
  ·have := h2 r (Nat.zero_le _) (by omega)
   unfold S.Y4 at this
   simp only [letS] at this
   cases hs : S.VX (a.Ze.getD r default) with
   | false => rw [hs] at this; cases this
   | true => exact Zjm hs
theorem Zli {a : ZG} (ha : Ys a) (hR : a.Ze.length ≤ 9) (hI : ∀ r,nif a r ≤ 12) :
  (S.QU a ≠ 0 ∧ M.WE a = some (⟨[],[]⟩,S.QU a)) ∨ (S.QU a = 0 ∧ ∃ D,M.WE a = some (topoOf D) ∧ Grp (itN a a.Ze.length) D ∧ Asc D) := by
 unfold M.WE
 rw [Zdp a ha]
 simp only [Option.bind_some]
 cases hc : S.QU a != 0 with
 | true => exact .inl ⟨by simpa using hc,rfl⟩
 | false =>
  right
  refine ⟨by simpa using hc,?_⟩
  have hl := ZcR a hI a.Ze.length
  have hl2 : a.Ze.length * 12 ≤ 9 * 12 := Nat.mul_le_mul_right _ hR
  obtain ⟨D,h1,h2⟩ := ZjZ hR hI
  obtain ⟨E,h3,h4,h5,h6⟩ := Zno h2 (by omega)
  have hE := h5.len
  have hd : decide (E.length = D.length) = true := dt h4
  refine ⟨E,?_,h5,h6⟩
  rw [h1]
  simp only [cond_false,Option.bind_some,h3,gd,List.all_cons,List.all_nil,hd,id,Bool.and_self,cond_true,ZmC E (by omega)]
  unfold topoOf
  rw [show lks E E.length = rlks E E.length from rfl]
  cases decide (((rlks E E.length).length : Int) > 12) <;> rfl
theorem Zlj (l : List V8) (hl : l.length ≤ maxLen) : M.Gp l l = some true := by
 rw [Zjf l l hl hl]
 unfold S.Gp
 simp only [bne_self_eq_false,cond_false,letS]
 rw [ZhF]
 ·rfl
 ·intro i _
  unfold S.WO
  simp
theorem ZhI (l : List Int) (hl : l.length ≤ maxLen) : M.UZ l l = some true := by
 rw [Zje l l hl hl]
 unfold S.UZ
 simp only [bne_self_eq_false,cond_false,letS]
 rw [ZhF]
 ·rfl
 ·intro i _
  unfold S.WN
  simp
theorem Zlk (t : Yl) (h1 : t.XQ.length ≤ 1000) (h2 : t.Js.length ≤ 1000) (h3 : ∀ d ∈ t.XQ,d.Xo.length ≤ 1000) : M.Uf t t = some true := by
 have hM := Zo
 unfold M.Uf
 simp only [bne_self_eq_false,gc,Bool.not_false,cond_true,ZhI t.Js (by omega),Option.bind_some,Bool.not_true,Bool.or_self,cond_false]
 have h := GL (f := M.VJ t t) (σ := Unit) (fun i _ => (i : Int)) t.XQ.length (fun _ _ => True) (fun y => y = .inl ())
  (fun i _ hi _ => by
   left
   refine ⟨(),?_,trivial⟩
   have q1 : decide ((0 : Int) ≤ (i : Int)) = true := dt (by omega)
   have q2 : decide ((i : Int) < (t.XQ.length : Int)) = true := dt (by omega)
   have := h3 _ (ZaK hi)
   unfold M.VJ
   simp only [Int.toNat_natCast,q1,q2,gd,List.all_cons,List.all_nil,id,Bool.and_self,cond_true,BEq.rfl,bne_self_eq_false,Bool.not_true,Bool.or_self,gc,Bool.not_false,Zlj _ (show (t.XQ.getD i default).Xo.length ≤ maxLen by omega),Option.bind_some,cond_false]
   rw [up64 (n := 2000) (by omega) (by omega)])
  (fun _ _ => by
   unfold M.VJ
   simp only [Int.lt_irrefl,decide_false,cond_false]
   exact ⟨_,rfl,rfl⟩) t.XQ.length 0 () (by omega) trivial
 obtain ⟨y,h4,rfl⟩ := h
 rw [show loopM (M.VJ t t) 0 = some (.inl ()) from h4]
 rfl
theorem Ziu {n : ZG} {D : List Zl} (h : Grp (itN n n.Ze.length) D) (hR : n.Ze.length ≤ 9) (hI : ∀ r,nif n r ≤ 12) : (topoOf D).1.XQ.length ≤ 1000 ∧ (topoOf D).1.Js.length ≤ 1000 ∧ ∀ d ∈ (topoOf D).1.XQ,d.Xo.length ≤ 1000 := by
 have hl := ZcR n hI n.Ze.length
 have hl2 : n.Ze.length * 12 ≤ 9 * 12 := Nat.mul_le_mul_right _ hR
 have hE := h.len
 have hk := Zjn D D.length
 have he : ∀ d ∈ D,d.Xo.length ≤ 1000 := fun d hd => by
  have := congrArg List.length (h.ends d hd)
  unfold dends sel at this
  rw [List.length_map,List.length_map] at this
  have h9 := List.length_filter_le (fun x => decide (x.1 = dkey d)) (itN n n.Ze.length)
  omega
 unfold topoOf
 cases decide (((rlks D D.length).length : Int) > 12) with
 | true => exact ⟨Nat.zero_le _,Nat.zero_le _,fun d hd => absurd hd List.not_mem_nil⟩
 | false => exact ⟨by show D.length ≤ 1000; omega,by show (rlks D D.length).length ≤ 1000; omega,he⟩
end Nv
