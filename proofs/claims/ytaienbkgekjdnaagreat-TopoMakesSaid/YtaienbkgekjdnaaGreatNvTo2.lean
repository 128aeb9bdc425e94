/- The program's topology: collected, sorted, with its links. No condition but the bounds of what comes in. -/
import Derived.Test.YtaienbkgekjdnaaGreatNvTo1
import Derived.Test.YtaienbkgekjdnaaGreatNvTs
import Derived.Test.YtaienbkgekjdnaaGreatNvT1
import Derived.Test.YtaienbkgekjdnaaGreatNvLibC
set_option maxRecDepth 100000
namespace Nv
open Go Go.Sort Go.Proofs
theorem Zn2 (a n : Int) : M.Y2 a n = some (netP a n) := by
 rw [RB]
 rfl
def tkey (d : Zl) : Xi := ⟨d.Zp,d.XF⟩
def kof (k : Xi) : DKey := (k.R1.Zy,k.R1.ZK,k.Zko)
theorem Zhk (a b : Xi) : topoKeyEq a b = decide (kof a = kof b) := by
 rw [Bool.eq_iff_iff,decide_eq_true_eq]
 unfold topoKeyEq kof
 simp only [Bool.and_true,Bool.and_eq_true,beq_iff_eq,Prod.mk.injEq]
 exact ⟨fun ⟨⟨h1,h2⟩,h3⟩ => ⟨h1,h2,h3⟩,fun ⟨h1,h2,h3⟩ => ⟨⟨h1,h2⟩,h3⟩⟩
def ix : Nat → List Zl → List (Xi × Int)
 | _,[] => []
 | o,d :: l => (tkey d,(o : Int)) :: ix (o + 1) l
theorem Zit : ∀ (o : Nat) (l : List Zl) (d : Zl),ix o (l ++ [d]) = ix o l ++ [(tkey d,((o + l.length : Nat) : Int))]
 | o,[],d => by simp [ix]
 | o,c :: l,d => by
  simp only [List.cons_append,ix,Zit (o + 1) l d,List.length_cons]
  rw [show o + 1 + l.length = o + (l.length + 1) by omega]
theorem ZmA : ∀ (o : Nat) (l m : List Zl),l.map tkey = m.map tkey → ix o l = ix o m
 | _,[],[],_ => rfl
 | _,[],_ :: _,h => by cases h
 | _,_ :: _,[],h => by cases h
 | o,c :: l,d :: m,h => by
  simp only [List.map_cons,List.cons.injEq] at h
  simp only [ix,h.1,ZmA (o + 1) l m h.2]
theorem ZnU (o : Nat) (D : List Zl) (j : Nat) (d : Zl) (hd : tkey d = tkey (D.getD j default)) : ix o (D.set j d) = ix o D := by
 apply ZmA
 rw [List.map_set]
 apply List.ext_getElem (by simp)
 intro i h1 h2
 rw [List.getElem_set]
 split
 ·rename_i hi; subst hi
  have hj : j < D.length := by simpa using h2
  rw [hd,List.getD_eq_getElem?_getD,List.getElem?_eq_getElem hj]; simp
 ·rfl
theorem Zny (k : Xi) : ∀ (D : List Zl) (o : Nat),((∀ d ∈ D,dkey d ≠ kof k) ∧ (lkM (topoKeyEq k) (ix o D)).2 = false) ∨ ∃ j,j < D.length ∧ dkey (D.getD j default) = kof k ∧ lkM (topoKeyEq k) (ix o D) = (((o + j : Nat) : Int),true)
 | [],o => .inl ⟨fun _ h => absurd h List.not_mem_nil,rfl⟩
 | d :: l,o => by
  have hq : topoKeyEq k (tkey d) = decide (kof k = dkey d) := Zhk _ _
  by_cases h : kof k = dkey d
  ·right
   refine ⟨0,by simp,h.symm,?_⟩
   simp only [ix,lkM,hq,h,decide_true,cond_true]
   rfl
  ·simp only [ix,lkM,hq,decide_eq_false h,cond_false]
   rcases Zny k l (o + 1) with ⟨h1,h2⟩ | ⟨j,h1,h2,h3⟩
   ·left
    refine ⟨fun c hc => ?_,h2⟩
    rcases List.mem_cons.1 hc with rfl | hc
    ·exact fun hh => h hh.symm
    ·exact h1 c hc
   ·right
    refine ⟨j + 1,by simp; omega,by simpa using h2,?_⟩
    rw [h3,show o + 1 + j = o + (j + 1) by omega]
section
variable {a0 : ZG}
theorem Zld {r i : Nat} {D : List Zl} {its : List DItem} (hD : Grp its D) {j : Nat} (hj : j < D.length) (hb : its.length ≤ 1000) (hi : i ≤ 1000) (p : List Zl × List (Xi × Int)) (ixs : List (Xi × Int)) :
  M.Ja (r : Int) (p.1,p.2,(i : Int)) (D,ixs,(j : Int)) = some (.inl (D.set j ⟨(D.getD j default).Zp,(D.getD j default).XF,(D.getD j default).Xo ++ [⟨(r : Int),(i : Int)⟩]⟩,ixs,((i + 1 : Nat) : Int))) := by
 have hl : (D.getD j default).Xo.length ≤ its.length := by
  have h1 := congrArg List.length (hD.ends _ (ZaK hj))
  unfold dends sel at h1
  rw [List.length_map,List.length_map] at h1
  rw [h1]
  exact List.length_filter_le _ _
 unfold M.Ja
 simp only [Int.toNat_natCast,Nat.zero_add]
 refine Yx (Zw (dt (by omega)) (Zw (dt (by omega)) (Zw (dt (by omega)) XR))) ?_
 rw [up64 (n := 2000) (by omega) (by omega)]
theorem Zle {r : Nat} (hr : r < a0.Ze.length) (hI : nif a0 r ≤ 12) {its : List DItem} (hb : its.length ≤ 900) {D : List Zl} (hD : Grp its D) :
  ∃ D',loopM (M.Q1 a0 (r : Int)) (D,ix 0 D,0) = some (D',ix 0 D') ∧ Grp (its ++ itR a0 r (nif a0 r)) D' := by
 have h := GL (f := M.Q1 a0 (r : Int)) (σ := List Zl) (fun i D => (D,ix 0 D,(i : Int))) (nif a0 r) (fun i D => Grp (its ++ itR a0 r i) D) (fun y => ∃ D',y = (D',ix 0 D') ∧ Grp (its ++ itR a0 r (nif a0 r)) D')
  (fun i D hi hJ => ?_) (fun D hJ => ?_) (nif a0 r) 0 D (by omega) (by simpa [itR] using hD)
 ·obtain ⟨y,h1,D',rfl,h3⟩ := h
  exact ⟨D',h1,h3⟩
 ·left
  have hlen : (its ++ itR a0 r i).length ≤ 1000 := by
   have := Zf4 a0 r i
   rw [List.length_append]; omega
  unfold M.Q1
  simp only [Int.toNat_natCast]
  rw [show (a0.Ze.getD r default).Zc.getD i default = ifc a0 r i from rfl]
  have hi' : (i : Int) < (((a0.Ze.getD r default).Zc).length : Int) := Int.ofNat_lt.2 hi
  rw [dt hi',cond_true]
  simp only [gd,List.all_cons,List.all_nil,dt hi',dt (show (0 : Int) ≤ (i : Int) by omega),id,Bool.and_self,cond_true,Bool.true_and,Zn2,Option.bind_some]
  cases he : (((ifc a0 r i).ZK == 0) || (ifc a0 r i).Gu) with
  | true =>
   refine ⟨D,?_,?_⟩
   ·rw [cond_true,up64 (n := 2000) (by omega) (by omega)]
   ·rw [ZcC]
    have : elig (ifc a0 r i) = false := by unfold elig; rw [he]; rfl
    rw [show itI a0 r i = [] by unfold itI; rw [this]; rfl,List.append_nil]
    exact hJ
  | false =>
   have hel : elig (ifc a0 r i) = true := by unfold elig; rw [he]; rfl
   have hit : its ++ itR a0 r (i + 1) = (its ++ itR a0 r i) ++ [(ikey (ifc a0 r i),((r : Int),(i : Int)))] := by
    rw [ZcC,show itI a0 r i = [(ikey (ifc a0 r i),((r : Int),(i : Int)))] by unfold itI; rw [hel]; rfl,List.append_assoc]
   rw [cond_false]
   have hl2 := hJ.len
   rcases Zny ⟨netP (ifc a0 r i).Zy (ifc a0 r i).ZK,(ifc a0 r i).XF⟩ D 0 with ⟨h1,h2⟩ | ⟨j,h1,h2,h3⟩
   ·rw [h2]
    simp only [Bool.not_false,cond_true]
    rw [dt (show (D.length + 1) * 48 ≤ 140737488355328 by omega),Bool.and_self,cond_true]
    have hx : ix 0 D ++ [((⟨netP (ifc a0 r i).Zy (ifc a0 r i).ZK,(ifc a0 r i).XF⟩ : Xi),(D.length : Int))] = ix 0 (D ++ [⟨netP (ifc a0 r i).Zy (ifc a0 r i).ZK,(ifc a0 r i).XF,[]⟩]) := by
     rw [Zit,Nat.zero_add]; rfl
    have hg : (D ++ [(⟨netP (ifc a0 r i).Zy (ifc a0 r i).ZK,(ifc a0 r i).XF,[]⟩ : Zl)]).getD D.length default = ⟨netP (ifc a0 r i).Zy (ifc a0 r i).ZK,(ifc a0 r i).XF,[]⟩ := by simp
    refine ⟨D ++ [⟨netP (ifc a0 r i).Zy (ifc a0 r i).ZK,(ifc a0 r i).XF,[⟨(r : Int),(i : Int)⟩]⟩],?_,?_⟩
    ·rw [hx]
     unfold M.Ja
     simp only [Int.toNat_natCast,Nat.zero_add,hg]
     refine Yx (Zw (dt (by omega)) (Zw (dt (by simp; omega)) (Zw (dt (by simp)) XR))) ?_
     have hs : (D ++ [(⟨netP (ifc a0 r i).Zy (ifc a0 r i).ZK,(ifc a0 r i).XF,[]⟩ : Zl)]).set D.length ⟨netP (ifc a0 r i).Zy (ifc a0 r i).ZK,(ifc a0 r i).XF,[] ++ [⟨(r : Int),(i : Int)⟩]⟩ = D ++ [⟨netP (ifc a0 r i).Zy (ifc a0 r i).ZK,(ifc a0 r i).XF,[⟨(r : Int),(i : Int)⟩]⟩] := by
      rw [List.set_append_right _ _ (Nat.le_refl _)]; simp
     rw [hs,up64 (n := 2000) (by omega) (by omega),Zit,Zit]
     rfl
    ·rw [hit]
     exact hJ.add ⟨netP (ifc a0 r i).Zy (ifc a0 r i).ZK,(ifc a0 r i).XF,[⟨(r : Int),(i : Int)⟩]⟩ _ h1 rfl
   ·rw [h3]
    simp only [Bool.not_true,cond_false,Nat.zero_add]
    refine ⟨D.set j ⟨(D.getD j default).Zp,(D.getD j default).XF,(D.getD j default).Xo ++ [⟨(r : Int),(i : Int)⟩]⟩,?_,?_⟩
    ·have hix : ix 0 (D.set j ⟨(D.getD j default).Zp,(D.getD j default).XF,(D.getD j default).Xo ++ [⟨(r : Int),(i : Int)⟩]⟩) = ix 0 D := ZnU 0 D j _ rfl
     rw [Zld hJ h1 hlen (by omega) (D,ix 0 D),hix]
    ·rw [hit]
     have hk : ikey (ifc a0 r i) = dkey (⟨(D.getD j default).Zp,(D.getD j default).XF,(D.getD j default).Xo ++ [⟨(r : Int),(i : Int)⟩]⟩ : Zl) := h2.symm
     rw [hk]
     exact hJ.grow h1 _ _ rfl (by simp [dends,dend])
 ·unfold M.Q1
  simp only [Int.toNat_natCast]
  rw [decide_eq_false (show ¬ ((nif a0 r : Int) < (((a0.Ze.getD r default).Zc).length : Int)) from fun h => Nat.lt_irrefl _ (Int.ofNat_lt.1 h)),cond_false]
  exact ⟨_,rfl,D,rfl,hJ⟩
theorem ZjZ (hR : a0.Ze.length ≤ 9) (hI : ∀ r,nif a0 r ≤ 12) : ∃ D,M.Wi a0 = some D ∧ Grp (itN a0 a0.Ze.length) D := by
 have h := GL (f := M.Jv a0) (σ := List Zl) (fun i D => (D,ix 0 D,(i : Int))) a0.Ze.length (fun i D => Grp (itN a0 i) D) (fun y => Grp (itN a0 a0.Ze.length) y)
  (fun i D hi hJ => ?_) (fun D hJ => ?_) a0.Ze.length 0 [] (by omega) (by simpa [itN] using Zku)
 ·obtain ⟨y,h1,h3⟩ := h
  refine ⟨y,?_,h3⟩
  unfold M.Wi
  rw [show (([] : List Zl),([] : List (Xi × Int)),(0 : Int)) = (([] : List Zl),ix 0 [],((0 : Nat) : Int)) from rfl,h1]
  rfl
 ·left
  unfold M.Jv
  have hi' : (i : Int) < (a0.Ze.length : Int) := Int.ofNat_lt.2 hi
  simp only [dt hi',cond_true,gd,List.all_cons,List.all_nil,dt (show (0 : Int) ≤ (i : Int) by omega),id,Bool.and_self]
  have hl := ZcR a0 hI i
  obtain ⟨D',h1,h2⟩ := Zle (a0 := a0) hi (hI i) (its := itN a0 i) (by have : i * 12 ≤ 9 * 12 := Nat.mul_le_mul_right _ (by omega); omega) hJ
  refine ⟨D',?_,by rw [Zg2]; exact h2⟩
  rw [h1]
  simp only [Option.bind_some]
  rw [up64 (n := 2000) (by omega) (by omega)]
 ·unfold M.Jv
  simp only [Int.lt_irrefl,decide_false,cond_false]
  exact ⟨D,rfl,hJ⟩
end
theorem Zkw (x y : Zl) : dlt x y ↔ klt (dkey x) (dkey y) := Iff.rfl
theorem Zno {its : List DItem} {D : List Zl} (h : Grp its D) (hb : its.length ≤ 1000) : ∃ E,M.XP D = some E ∧ E.length = D.length ∧ Grp its E ∧ Asc E := by
 have hl := h.len
 have hap : Apart (ltOf dcf) D := by
  have hn := h.nd
  unfold List.Nodup at hn
  rw [List.pairwise_map] at hn
  refine hn.imp fun {x y} hne => ?_
  rw [Zfh,Zfh,decide_eq_true_eq,decide_eq_true_eq,Zkw,Zkw]
  rcases ZhE (dkey x) (dkey y) with h1 | h1 | h1
  ·exact .inl h1
  ·exact absurd h1 hne
  ·exact .inr h1
 obtain ⟨h1,h2,h3⟩ := ZbW Zir D
 refine ⟨sortP dcf D,Zme Zkr Zir (by omega) hap,h1,h.perm h2.symm,?_⟩
 refine (Zef h2 hap h3).imp fun {x y} hh => ?_
 rw [Zfh,decide_eq_true_eq] at hh
 exact hh
def lks (D : List Zl) (m : Nat) : List Int := ((List.range m).filter fun i => decide (2 ≤ (D.getD i default).Xo.length)).map fun (i : Nat) => (i : Int)
theorem ZmB (D : List Zl) (m : Nat) : lks D (m + 1) = lks D m ++ (if 2 ≤ (D.getD m default).Xo.length then [(m : Int)] else []) := by
 unfold lks
 rw [List.range_succ,List.filter_append,List.map_append]
 congr 1
 by_cases h : 2 ≤ (D.getD m default).Xo.length
 ·rw [if_pos h,List.filter_cons,if_pos (decide_eq_true h)]; rfl
 ·rw [if_neg h,List.filter_cons,if_neg (by rw [decide_eq_true_eq]; exact h)]; rfl
theorem Znp (D : List Zl) (m : Nat) : (lks D m).length ≤ m := by
 unfold lks
 rw [List.length_map]
 exact Nat.le_trans (List.length_filter_le _ _) (by simp)
theorem ZmC (D : List Zl) (hb : D.length ≤ 1000) : loopM (M.Vn D) (([] : List Int),0) = some (lks D D.length) := by
 have h := GL (f := M.Vn D) (σ := List Int) (fun i l => (l,(i : Int))) D.length (fun i l => l = lks D i) (fun y => y = lks D D.length)
  (fun i l hi hJ => ?_) (fun l hJ => ?_) D.length 0 [] (by omega) rfl
 ·obtain ⟨y,h1,rfl⟩ := h
  exact h1
 ·left
  subst hJ
  have hl := Znp D i
  unfold M.Vn
  have hi' : (i : Int) < (D.length : Int) := Int.ofNat_lt.2 hi
  simp only [dt hi',cond_true,gd,List.all_cons,List.all_nil,dt (show (0 : Int) ≤ (i : Int) by omega),id,Bool.and_self,Int.toNat_natCast,Bool.and_true]
  refine ⟨lks D (i + 1),?_,rfl⟩
  rw [ZmB]
  by_cases h2 : 2 ≤ (D.getD i default).Xo.length
  ·rw [dt (show (((D.getD i default).Xo.length : Int) ≥ 2) by omega),cond_true,dt (show ((lks D i).length + 1) * 8 ≤ 140737488355328 by omega),cond_true,if_pos h2]
   unfold M.J6
   rw [up64 (n := 2000) (by omega) (by omega)]
  ·rw [decide_eq_false (show ¬ (((D.getD i default).Xo.length : Int) ≥ 2) by omega),cond_false,if_neg h2,List.append_nil]
   unfold M.J6
   rw [up64 (n := 2000) (by omega) (by omega)]
 ·subst hJ
  unfold M.Vn
  simp only [Int.lt_irrefl,decide_false,cond_false]
  exact ⟨_,rfl,rfl⟩
end Nv
