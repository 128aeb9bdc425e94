/- How domains are sorted. No condition. -/
import Derived.Test.YtaienbkgekjdnaaGreatNvD1
import Derived.Test.YtaienbkgekjdnaaGreatNvLibC
set_option maxRecDepth 100000
namespace Nv
open Go Go.Sort Go.Proofs
def cmp3 (x y : Int) : Int := bif decide (x < y) then (-1) else bif decide (x > y) then 1 else 0
theorem ZaV (x y : Int) : M.XI x y = some (cmp3 x y) := by
  have hn : ∀ z, M.X4 z = some false := fun z => by unfold M.X4; simp
  unfold M.XI cmp3
  rw [hn, hn]
  cases decide (x < y) <;> cases decide (x > y) <;> rfl
theorem Zda (x y : Int) : M.XB x y = some (cmp3 x y) := by
  have hn : ∀ z, M.Xw z = some false := fun z => by unfold M.Xw; simp
  unfold M.XB cmp3
  rw [hn, hn]
  cases decide (x < y) <;> cases decide (x > y) <;> rfl
theorem Zdz (a b : Int) : M.Qi [a, b] = some (bif a != 0 then a else b) := by
  have s0 : M.XU [a, b] 0 = bif a != 0 then some (.inr (.inr a)) else some (.inl 1) := by
    unfold M.XU
    rw [show decide ((0 : Int) < (([a, b] : List Int).length : Int)) = true from rfl, cond_true, gdT (by rfl)]
    rfl
  have s1 : M.XU [a, b] 1 = bif b != 0 then some (.inr (.inr b)) else some (.inl 2) := by
    unfold M.XU
    rw [show decide ((1 : Int) < (([a, b] : List Int).length : Int)) = true from rfl, cond_true, gdT (by rfl)]
    rfl
  have s2 : M.XU [a, b] 2 = some (.inr (.inl ())) := by
    unfold M.XU
    rfl
  unfold M.Qi
  cases ha : a != 0 with
  | true =>
    rw [ha] at s0
    rw [Vh (.out s0), Option.bind_some]; rfl
  | false =>
    rw [ha] at s0
    cases hb : b != 0 with
    | true =>
      rw [hb] at s1
      rw [Vh (.next s0 (.out s1)), Option.bind_some]; rfl
    | false =>
      rw [hb] at s1
      have : b = 0 := by simpa using hb
      rw [Vh (.next s0 (.next s1 (.out s2))), Option.bind_some, this]; rfl
def dlt (x y : Zp) : Prop := x.Z5.XO < y.Z5.XO ∨ (x.Z5.XO = y.Z5.XO ∧ (x.Z5.X2 < y.Z5.X2 ∨ (x.Z5.X2 = y.Z5.X2 ∧ x.Xj < y.Xj)))
instance (x y : Zp) : Decidable (dlt x y) := by unfold dlt; exact inferInstance
def pcf (x y : Z4) : Int := bif cmp3 x.XO y.XO != 0 then cmp3 x.XO y.XO else cmp3 x.X2 y.X2
def dcf (x y : Zp) : Int := bif pcf x.Z5 y.Z5 != 0 then pcf x.Z5 y.Z5 else cmp3 x.Xj y.Xj
theorem ZdA (x y : Z4) : M.YP x y = some (pcf x y) := by
  unfold M.YP pcf
  rw [Zda, Option.bind_some]
  cases cmp3 x.XO y.XO != 0
  · rw [cond_false, cond_false, ZaV]; rfl
  · rfl
theorem Zdb (x y : Zp) : M.YE x y = some (dcf x y) := by
  unfold M.YE dcf
  rw [ZdA, Option.bind_some, ZaV, Option.bind_some, Zdz, Option.bind_some]
theorem Kg (x y : Int) : (x < y ∧ cmp3 x y = -1) ∨ (x > y ∧ cmp3 x y = 1) ∨ (x = y ∧ cmp3 x y = 0) := by
  unfold cmp3
  rcases Int.lt_trichotomy x y with h | h | h
  · exact .inl ⟨h, by rw [decide_eq_true h]; rfl⟩
  · exact .inr (.inr ⟨h, by rw [decide_eq_false (by omega), decide_eq_false (by omega)]; rfl⟩)
  · exact .inr (.inl ⟨h, by rw [decide_eq_false (by omega), decide_eq_true h]; rfl⟩)
theorem Zav (x y : Zp) : ltOf dcf x y = decide (dlt x y) := by
  unfold ltOf dcf pcf
  rw [decide_eq_decide]
  unfold dlt
  rcases Kg x.Z5.XO y.Z5.XO with ⟨h, e⟩ | ⟨h, e⟩ | ⟨h, e⟩ <;> rw [e]
  · simp; omega
  · simp; omega
  · rcases Kg x.Z5.X2 y.Z5.X2 with ⟨g, e⟩ | ⟨g, e⟩ | ⟨g, e⟩ <;> rw [e]
    · simp; omega
    · simp; omega
    · rcases Kg x.Xj y.Xj with ⟨k, e⟩ | ⟨k, e⟩ | ⟨k, e⟩ <;> rw [e] <;> simp <;> omega
theorem Zdc : SWO (ltOf dcf) where
  irrefl x := by rw [Zav, decide_eq_false_iff_not]; unfold dlt; omega
  trans x y z h1 h2 := by rw [Zav, decide_eq_true_eq] at *; unfold dlt at *; omega
  ntrans x y z h1 h2 := by rw [Zav, decide_eq_false_iff_not] at *; unfold dlt at *; omega
theorem so_topo_Build_1 : SortOK M.YE := ⟨dcf, Zdb, Zdc⟩
end Nv
