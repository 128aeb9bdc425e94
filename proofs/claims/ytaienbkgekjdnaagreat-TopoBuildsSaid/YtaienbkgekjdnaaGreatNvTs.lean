/- How domains are sorted. No condition. -/
import Derived.Test.YtaienbkgekjdnaaGreatNvD1
import Derived.Test.YtaienbkgekjdnaaGreatNvLibC
set_option maxRecDepth 100000
namespace Nv
open Go Go.Sort Go.Proofs
def cmp3 (x y : Int) : Int := bif decide (x < y) then (-1) else bif decide (x > y) then 1 else 0
theorem Zjh (x y : Int) : M.QS x y = some (cmp3 x y) := by
  have hn : ∀ z, M.JN z = some false := fun z => by unfold M.JN; simp
  unfold M.QS cmp3
  rw [hn, hn]
  cases decide (x < y) <;> cases decide (x > y) <;> rfl
theorem Zl6 (x y : Int) : M.QF x y = some (cmp3 x y) := by
  have hn : ∀ z, M.Qv z = some false := fun z => by unfold M.Qv; simp
  unfold M.QF cmp3
  rw [hn, hn]
  cases decide (x < y) <;> cases decide (x > y) <;> rfl
theorem Zmu (a b : Int) : M.WM [a, b] = some (bif a != 0 then a else b) := by
  have s0 : M.Jv [a, b] 0 = bif a != 0 then some (.inr (.inr a)) else some (.inl 1) := by
    unfold M.Jv
    rw [show decide ((0 : Int) < (([a, b] : List Int).length : Int)) = true from rfl, cond_true, gdT (by rfl)]
    rfl
  have s1 : M.Jv [a, b] 1 = bif b != 0 then some (.inr (.inr b)) else some (.inl 2) := by
    unfold M.Jv
    rw [show decide ((1 : Int) < (([a, b] : List Int).length : Int)) = true from rfl, cond_true, gdT (by rfl)]
    rfl
  have s2 : M.Jv [a, b] 2 = some (.inr (.inl ())) := by
    unfold M.Jv
    rfl
  unfold M.WM
  cases ha : a != 0 with
  | true =>
    rw [ha] at s0
    rw [Uh (.out s0), Option.bind_some]; rfl
  | false =>
    rw [ha] at s0
    cases hb : b != 0 with
    | true =>
      rw [hb] at s1
      rw [Uh (.next s0 (.out s1)), Option.bind_some]; rfl
    | false =>
      rw [hb] at s1
      have : b = 0 := by simpa using hb
      rw [Uh (.next s0 (.next s1 (.out s2))), Option.bind_some, this]; rfl
def dlt (x y : Zk) : Prop := x.Zp.Zu < y.Zp.Zu ∨ (x.Zp.Zu = y.Zp.Zu ∧ (x.Zp.ZJ < y.Zp.ZJ ∨ (x.Zp.ZJ = y.Zp.ZJ ∧ x.Xr < y.Xr)))
instance (x y : Zk) : Decidable (dlt x y) := by unfold dlt; exact inferInstance
def pcf (x y : ZL) : Int := bif cmp3 x.Zu y.Zu != 0 then cmp3 x.Zu y.Zu else cmp3 x.ZJ y.ZJ
def dcf (x y : Zk) : Int := bif pcf x.Zp y.Zp != 0 then pcf x.Zp y.Zp else cmp3 x.Xr y.Xr
theorem Zmv (x y : ZL) : M.V5 x y = some (pcf x y) := by
  unfold M.V5 pcf
  rw [Zl6, Option.bind_some]
  cases cmp3 x.Zu y.Zu != 0
  · rw [cond_false, cond_false, Zjh]; rfl
  · rfl
theorem Zji (x y : Zk) : M.VC x y = some (dcf x y) := by
  unfold M.VC dcf
  rw [Zmv, Option.bind_some, Zjh, Option.bind_some, Zmu, Option.bind_some]
theorem ZfX (x y : Int) : (x < y ∧ cmp3 x y = -1) ∨ (x > y ∧ cmp3 x y = 1) ∨ (x = y ∧ cmp3 x y = 0) := by
  unfold cmp3
  rcases Int.lt_trichotomy x y with h | h | h
  · exact .inl ⟨h, by rw [decide_eq_true h]; rfl⟩
  · exact .inr (.inr ⟨h, by rw [decide_eq_false (by omega), decide_eq_false (by omega)]; rfl⟩)
  · exact .inr (.inl ⟨h, by rw [decide_eq_false (by omega), decide_eq_true h]; rfl⟩)
theorem Zek (x y : Zk) : ltOf dcf x y = decide (dlt x y) := by
  unfold ltOf dcf pcf
  rw [decide_eq_decide]
  unfold dlt
  rcases ZfX x.Zp.Zu y.Zp.Zu with ⟨h, e⟩ | ⟨h, e⟩ | ⟨h, e⟩ <;> rw [e]
  · simp; omega
  · simp; omega
  · rcases ZfX x.Zp.ZJ y.Zp.ZJ with ⟨g, e⟩ | ⟨g, e⟩ | ⟨g, e⟩ <;> rw [e]
    · simp; omega
    · simp; omega
    · rcases ZfX x.Xr y.Xr with ⟨k, e⟩ | ⟨k, e⟩ | ⟨k, e⟩ <;> rw [e] <;> simp <;> omega
theorem Zhj : SWO (ltOf dcf) where
  irrefl x := by rw [Zek, decide_eq_false_iff_not]; unfold dlt; omega
  trans x y z h1 h2 := by rw [Zek, decide_eq_true_eq] at *; unfold dlt at *; omega
  ntrans x y z h1 h2 := by rw [Zek, decide_eq_false_iff_not] at *; unfold dlt at *; omega
theorem so_topo_Build_1 : SortOK M.VC := ⟨dcf, Zji, Zhj⟩
end Nv
