/- How domains are sorted. No condition. -/
import Derived.Test.YtaienbkgekjdnaaGreatNvD1
import Derived.Test.YtaienbkgekjdnaaGreatNvLibC
set_option maxRecDepth 100000
namespace Nv
open Go Go.Sort Go.Proofs
def cmp3 (x y : Int) : Int := bif decide (x < y) then (-1) else bif decide (x > y) then 1 else 0
theorem Zkq (x y : Int) : M.Q2 x y = some (cmp3 x y) := by
 have hn : ∀ z,M.J5 z = some false := fun z => by unfold M.J5; simp
 unfold M.Q2 cmp3
 rw [hn,hn]
 cases decide (x < y) <;> cases decide (x > y) <;> rfl
theorem Znm (x y : Int) : M.QO x y = some (cmp3 x y) := by
 have hn : ∀ z,M.QD z = some false := fun z => by unfold M.QD; simp
 unfold M.QO cmp3
 rw [hn,hn]
 cases decide (x < y) <;> cases decide (x > y) <;> rfl
theorem ZnS (a b : Int) : M.Ua [a,b] = some (bif a != 0 then a else b) := by
 have s0 : M.YN [a,b] 0 = bif a != 0 then some (.inr (.inr a)) else some (.inl 1) := by
  unfold M.YN
  rw [show decide ((0 : Int) < (([a,b] : List Int).length : Int)) = true from rfl,cond_true,gdT (by rfl)]
  rfl
 have s1 : M.YN [a,b] 1 = bif b != 0 then some (.inr (.inr b)) else some (.inl 2) := by
  unfold M.YN
  rw [show decide ((1 : Int) < (([a,b] : List Int).length : Int)) = true from rfl,cond_true,gdT (by rfl)]
  rfl
 have s2 : M.YN [a,b] 2 = some (.inr (.inl ())) := by
  unfold M.YN
  rfl
 unfold M.Ua
 cases ha : a != 0 with
 | true =>
  rw [ha] at s0
  rw [UR (.out s0),Option.bind_some]; rfl
 | false =>
  rw [ha] at s0
  cases hb : b != 0 with
  | true =>
   rw [hb] at s1
   rw [UR (.next s0 (.out s1)),Option.bind_some]; rfl
  | false =>
   rw [hb] at s1
   have : b = 0 := by simpa using hb
   rw [UR (.next s0 (.next s1 (.out s2))),Option.bind_some,this]; rfl
def dlt (x y : Zl) : Prop := x.Zp.Zy < y.Zp.Zy ∨ (x.Zp.Zy = y.Zp.Zy ∧ (x.Zp.ZK < y.Zp.ZK ∨ (x.Zp.ZK = y.Zp.ZK ∧ x.XF < y.XF)))
instance (x y : Zl) : Decidable (dlt x y) := by unfold dlt; exact inferInstance
def pcf (x y : ZS) : Int := bif cmp3 x.Zy y.Zy != 0 then cmp3 x.Zy y.Zy else cmp3 x.ZK y.ZK
def dcf (x y : Zl) : Int := bif pcf x.Zp y.Zp != 0 then pcf x.Zp y.Zp else cmp3 x.XF y.XF
theorem ZnT (x y : ZS) : M.Wj x y = some (pcf x y) := by
 unfold M.Wj pcf
 rw [Znm,Option.bind_some]
 cases cmp3 x.Zy y.Zy != 0
 ·rw [cond_false,cond_false,Zkq]; rfl
 ·rfl
theorem Zkr (x y : Zl) : M.VT x y = some (dcf x y) := by
 unfold M.VT dcf
 rw [ZnT,Option.bind_some,Zkq,Option.bind_some,ZnS,Option.bind_some]
theorem Zg1 (x y : Int) : (x < y ∧ cmp3 x y = -1) ∨ (x > y ∧ cmp3 x y = 1) ∨ (x = y ∧ cmp3 x y = 0) := by
 unfold cmp3
 rcases Int.lt_trichotomy x y with h | h | h
 ·exact .inl ⟨h,by rw [decide_eq_true h]; rfl⟩
 ·exact .inr (.inr ⟨h,by rw [decide_eq_false (by omega),decide_eq_false (by omega)]; rfl⟩)
 ·exact .inr (.inl ⟨h,by rw [decide_eq_false (by omega),decide_eq_true h]; rfl⟩)
theorem Zfh (x y : Zl) : ltOf dcf x y = decide (dlt x y) := by
 unfold ltOf dcf pcf
 rw [decide_eq_decide]
 unfold dlt
 rcases Zg1 x.Zp.Zy y.Zp.Zy with ⟨h,e⟩ | ⟨h,e⟩ | ⟨h,e⟩ <;> rw [e]
 ·simp; omega
 ·simp; omega
 ·rcases Zg1 x.Zp.ZK y.Zp.ZK with ⟨g,e⟩ | ⟨g,e⟩ | ⟨g,e⟩ <;> rw [e]
  ·simp; omega
  ·simp; omega
  ·rcases Zg1 x.XF y.XF with ⟨k,e⟩ | ⟨k,e⟩ | ⟨k,e⟩ <;> rw [e] <;> simp <;> omega
theorem Zir : SWO (ltOf dcf) where
 irrefl x := by rw [Zfh,decide_eq_false_iff_not]; unfold dlt; omega
 trans x y z h1 h2 := by rw [Zfh,decide_eq_true_eq] at *; unfold dlt at *; omega
 ntrans x y z h1 h2 := by rw [Zfh,decide_eq_false_iff_not] at *; unfold dlt at *; omega
theorem so_topo_Build_1 : SortOK M.VT := ⟨dcf,Zkr,Zir⟩
end Nv
