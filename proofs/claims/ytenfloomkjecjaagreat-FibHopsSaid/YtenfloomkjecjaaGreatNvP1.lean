/- The plain law of FibHops. No condition but the bounds of what comes in. -/
import Derived.Test.YtenfloomkjecjaaGreatNvTh
import Derived.Test.YtenfloomkjecjaaGreatNvTu8
import Derived.Test.YtenfloomkjecjaaGreatNvT2
import Derived.Test.YtenfloomkjecjaaGreatNvLW
set_option maxRecDepth 100000
namespace Nv
open Go Go.Proofs
theorem ZlZ {l : List ZY} (h : HAsc l) {m : Nat} (hm : m + 1 < l.length) : hlt (l.getD m default) (l.getD (m + 1) default) := by
 have := List.pairwise_iff_getElem.1 h m (m + 1) (by omega) hm (by omega)
 rw [List.getD_eq_getElem?_getD,List.getD_eq_getElem?_getD,List.getElem?_eq_getElem (by omega),List.getElem?_eq_getElem hm]
 exact this
theorem Znt {x y : ZY} (h : hlt x y) : (decide (y.ZH < x.ZH) || ((y.ZH == x.ZH) && decide (y.Zn ≤ x.Zn))) = false := by
 unfold hlt at h
 simp
 omega
theorem Znu {v : XU} (h : VF v) {rs : List Z3} (hb : ∀ r ∈ rs,r.ZU.length ≤ 8796093022208) (d : Int) (ok : Bool) {i : Nat} (hi : i < rs.length) : loopM (M.Uo (v,ok) d ((List.range rs.length).map (fwdOf v rs d)) (i : Int)) 0 = some (.inl ()) := by
 have hM := Zm
 have hT : ((List.range rs.length).map (fwdOf v rs d)).getD i default = fwdOf v rs d i := ZgO hi
 have hTl : ((List.range rs.length).map (fwdOf v rs d)).length = rs.length := by simp
 have hlen := ZlY (v := v) hb d i
 have hasc := ZlX v rs d i
 have hup : ∀ x ∈ hopsOf v rs d i,upV v (d,x.ZH) = true := fun x hx => ZmQ hx
 have hf : (fwdOf v rs d i).ZU = hopsOf v rs d i := rfl
 generalize (List.range rs.length).map (fwdOf v rs d) = T at *
 have q1 : decide ((0 : Int) ≤ (i : Int)) = true := dt (by omega)
 have q2 : decide ((i : Int) < (T.length : Int)) = true := dt (by omega)
 have hg0 : ∀ b,guardB false b = true := fun b => by cases b <;> rfl
 have hg1 : ∀ g,guardB g true = true := fun g => by cases g <;> rfl
 refine ZcC (n := (hopsOf v rs d i).length) (by omega) (fun k hk => ?_) ?_
 ·have q3 : decide ((0 : Int) ≤ (k : Int)) = true := dt (by omega)
  have q4 : decide ((k : Int) < ((hopsOf v rs d i).length : Int)) = true := dt (by omega)
  unfold M.Uo
  simp only [Int.toNat_natCast,hT,hf,q1,q2,q3,q4,Zi4 v _ _ h.L,Znx h,hup _ (ZcB hk),Option.bind_some,gd,List.all_cons,List.all_nil,id,Bool.and_self,Bool.and_true,cond_true,hg1,Bool.not_true,Bool.false_or,Bool.not_false,Bool.true_and]
  rcases k with _ | m
  ·rw [decide_eq_false (show ¬ (((0 : Nat) : Int) > 0) by omega)]
   simp only [Bool.false_and,hg0,Bool.and_self,cond_true,cond_false]
  ·have hw : wr .i64 (((m + 1 : Nat) : Int) - 1) = (m : Int) := by
    unfold wr
    rw [IntWalk.i64_in _ (by omega)]
    omega
   have p1 : decide ((0 : Int) ≤ (m : Int)) = true := dt (by omega)
   have p2 : decide ((m : Int) < ((hopsOf v rs d i).length : Int)) = true := dt (by omega)
   simp only [hw,Int.toNat_natCast,p1,p2,hg1,Bool.and_self,cond_true]
   have hl := ZlZ hasc hk
   have hc := Znt hl
   rw [hc,Bool.and_false,cond_false]
 ·unfold M.Uo
  simp only [Int.toNat_natCast,hT,hf,q1,q2,gd,List.all_cons,List.all_nil,id,Bool.and_self,cond_true,Int.lt_irrefl,decide_false,cond_false]
theorem Znv {v : XU} (h : VF v) {rs : List Z3} (hL : rs.length ≤ 1000) (hb : ∀ r ∈ rs,r.ZU.length ≤ 8796093022208) (d : Int) (ok : Bool) : loopM (M.Up (v,ok) d ((List.range rs.length).map (fwdOf v rs d))) 0 = some (.inl ()) := by
 have hM := Zm
 have hTl : ((List.range rs.length).map (fwdOf v rs d)).length = rs.length := by simp
 have hg1 : ∀ g,guardB g true = true := fun g => by cases g <;> rfl
 refine ZcC (n := rs.length) (by omega) (fun i hi => ?_) ?_
 ·have q1 : decide ((0 : Int) ≤ (i : Int)) = true := dt (by omega)
  have q2 : decide ((i : Int) < (rs.length : Int)) = true := dt (by omega)
  unfold M.Up
  simp only [hTl,Int.toNat_natCast,ZgO hi,q1,q2,hg1,gd,List.all_cons,List.all_nil,id,Bool.and_self,cond_true,Znu h hb d ok hi,Option.bind_some,Sum.elim_inl]
  have hc : ((fwdOf v rs d i).Z1 && decide (((fwdOf v rs d i).ZU.length : Int) > 0)) = false := by
   cases hd : (rs.getD i default).Z1 with
   | false => show ((rs.getD i default).Z1 && _) = false; rw [hd]; rfl
   | true =>
    have : (fwdOf v rs d i).ZU = [] := ZkB hd
    rw [this,Bool.and_eq_false_iff]
    exact .inr (by simp)
  rw [hc,cond_false]
 ·unfold M.Up
  simp only [hTl,Int.lt_irrefl,decide_false,cond_false]
theorem Zgv (a0 : ZG) (a1 : List Int) (a2 : List Z3) (w0 : Zcu a0) (w1 : (a1.length ≤ maxLen ∧ a1.length * 8 ≤ reachBytes ∧ ∀ y ∈ a1,(Lit.int .i64 y).wf = true)) (w2 : (a2.length ≤ maxLen ∧ a2.length * 136 ≤ reachBytes ∧ ∀ y ∈ a2,Zf0 y)) : M.G6 a0 a1 a2 = some true := by
 have hM := Zm
 have ha := Zgt w0
 have hr : reachBytes ≤ 140737488355328 := by decide
 have hb : ∀ r ∈ a2,r.ZU.length ≤ 8796093022208 := fun r hr' => by
  have := (w2.2.2 r hr').2.2.2.2.2.2.2.2.2.2.2.1.2.1
  omega
 obtain ⟨v,ok,h1,h2⟩ := ZmO ha a1 w1.1
 unfold M.G6
 rw [h1]
 simp only [Option.bind_some]
 cases hok : ok with
 | false => simp only [Bool.not_false,Bool.true_or,Bool.not_true,gc,cond_false,Option.bind_some,cond_true]
 | true =>
  obtain ⟨hv,hn,_⟩ := h2 hok
  cases hl : decide ((a2.length : Int) > 20) with
  | true => simp only [Bool.or_true,Bool.true_or,Bool.not_true,gc,cond_false,Option.bind_some,cond_true]
  | false =>
   have hl2 := of_decide_eq_false hl
   simp only [Bool.not_true,Bool.or_self,Bool.not_false,gc,cond_true,Zgr a2 0 ⟨w2.1,fun y hy => Ziq (w2.2.2 y hy)⟩,Option.bind_some,Bool.false_or]
   cases S.WZ a2 0 with
   | false => rfl
   | true =>
    have hloop : loopM (M.Uq a0 a2 (v,true)) 0 = some (.inl ()) := by
     have hnr := hv.nr
     rw [hn] at hnr
     refine ZcC (n := a0.Ze.length) (by omega) (fun i hi => ?_) ?_
     ·have q2 : decide ((i : Int) < (a0.Ze.length : Int)) = true := dt (by omega)
      unfold M.Uq
      simp only [q2,cond_true,ZlW hv.L (show a2.length ≤ 1000 by omega) hb,Znv hv (show a2.length ≤ 1000 by omega) hb,Option.bind_some,Sum.elim_inl]
     ·unfold M.Uq
      simp only [Int.lt_irrefl,decide_false,cond_false]
    simp only [Bool.not_true,cond_false,hloop,Option.bind_some,Sum.elim_inl,Zkb]
end Nv
