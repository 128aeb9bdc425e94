/- How domains are sorted. No condition. -/
import Derived.Test.YtenfloomkjecjaaGreatNvD1
import Derived.Test.YtenfloomkjecjaaGreatNvLibC
set_option maxRecDepth 100000
namespace Nv
open Go Go.Sort Go.Proofs
def cmp3 (x y : Int) : Int := bif decide (x < y) then (-1) else bif decide (x > y) then 1 else 0
theorem Zhu (x y : Int) : M.YF x y = some (cmp3 x y) := by
 have hn : ∀ z,M.Ja z = some false := fun z => by unfold M.Ja; simp
 unfold M.YF cmp3
 rw [hn,hn]
 cases decide (x < y) <;> cases decide (x > y) <;> rfl
theorem ZjF (x y : Int) : M.Ym x y = some (cmp3 x y) := by
 have hn : ∀ z,M.YV z = some false := fun z => by unfold M.YV; simp
 unfold M.Ym cmp3
 rw [hn,hn]
 cases decide (x < y) <;> cases decide (x > y) <;> rfl
theorem ZlM (a b : Int) : M.V4 [a,b] = some (bif a != 0 then a else b) := by
 have s0 : M.QP [a,b] 0 = bif a != 0 then some (.inr (.inr a)) else some (.inl 1) := by
  unfold M.QP
  rw [show decide ((0 : Int) < (([a,b] : List Int).length : Int)) = true from rfl,cond_true,gdT (by rfl)]
  rfl
 have s1 : M.QP [a,b] 1 = bif b != 0 then some (.inr (.inr b)) else some (.inl 2) := by
  unfold M.QP
  rw [show decide ((1 : Int) < (([a,b] : List Int).length : Int)) = true from rfl,cond_true,gdT (by rfl)]
  rfl
 have s2 : M.QP [a,b] 2 = some (.inr (.inl ())) := by
  unfold M.QP
  rfl
 unfold M.V4
 cases ha : a != 0 with
 | true =>
  rw [ha] at s0
  rw [VU (.out s0),Option.bind_some]; rfl
 | false =>
  rw [ha] at s0
  cases hb : b != 0 with
  | true =>
   rw [hb] at s1
   rw [VU (.next s0 (.out s1)),Option.bind_some]; rfl
  | false =>
   rw [hb] at s1
   have : b = 0 := by simpa using hb
   rw [VU (.next s0 (.next s1 (.out s2))),Option.bind_some,this]; rfl
def dlt (x y : Zi) : Prop := x.Zl.Zn < y.Zl.Zn ∨ (x.Zl.Zn = y.Zl.Zn ∧ (x.Zl.ZL < y.Zl.ZL ∨ (x.Zl.ZL = y.Zl.ZL ∧ x.XH < y.XH)))
instance (x y : Zi) : Decidable (dlt x y) := by unfold dlt; exact inferInstance
def pcf (x y : ZM) : Int := bif cmp3 x.Zn y.Zn != 0 then cmp3 x.Zn y.Zn else cmp3 x.ZL y.ZL
def dcf (x y : Zi) : Int := bif pcf x.Zl y.Zl != 0 then pcf x.Zl y.Zl else cmp3 x.XH y.XH
theorem Zng (x y : ZM) : M.VO x y = some (pcf x y) := by
 unfold M.VO pcf
 rw [ZjF,Option.bind_some]
 cases cmp3 x.Zn y.Zn != 0
 ·rw [cond_false,cond_false,Zhu]; rfl
 ·rfl
theorem ZmF (x y : Zi) : M.Vi x y = some (dcf x y) := by
 unfold M.Vi dcf
 rw [Zng,Option.bind_some,Zhu,Option.bind_some,ZlM,Option.bind_some]
theorem Zbf (x y : Int) : (x < y ∧ cmp3 x y = -1) ∨ (x > y ∧ cmp3 x y = 1) ∨ (x = y ∧ cmp3 x y = 0) := by
 unfold cmp3
 rcases Int.lt_trichotomy x y with h | h | h
 ·exact .inl ⟨h,by rw [decide_eq_true h]; rfl⟩
 ·exact .inr (.inr ⟨h,by rw [decide_eq_false (by omega),decide_eq_false (by omega)]; rfl⟩)
 ·exact .inr (.inl ⟨h,by rw [decide_eq_false (by omega),decide_eq_true h]; rfl⟩)
theorem Zi5 (x y : Zi) : ltOf dcf x y = decide (dlt x y) := by
 unfold ltOf dcf pcf
 rw [decide_eq_decide]
 unfold dlt
 rcases Zbf x.Zl.Zn y.Zl.Zn with ⟨h,e⟩ | ⟨h,e⟩ | ⟨h,e⟩ <;> rw [e]
 ·simp; omega
 ·simp; omega
 ·rcases Zbf x.Zl.ZL y.Zl.ZL with ⟨g,e⟩ | ⟨g,e⟩ | ⟨g,e⟩ <;> rw [e]
  ·simp; omega
  ·simp; omega
  ·rcases Zbf x.XH y.XH with ⟨k,e⟩ | ⟨k,e⟩ | ⟨k,e⟩ <;> rw [e] <;> simp <;> omega
theorem ZmG : SWO (ltOf dcf) where
 irrefl x := by rw [Zi5,decide_eq_false_iff_not]; unfold dlt; omega
 trans x y z h1 h2 := by rw [Zi5,decide_eq_true_eq] at *; unfold dlt at *; omega
 ntrans x y z h1 h2 := by rw [Zi5,decide_eq_false_iff_not] at *; unfold dlt at *; omega
theorem so_topo_Build_1 : SortOK M.Vi := ⟨dcf,ZmF,ZmG⟩
end Nv
