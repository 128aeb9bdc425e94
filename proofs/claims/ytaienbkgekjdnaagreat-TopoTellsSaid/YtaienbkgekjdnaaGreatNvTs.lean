/- How domains are sorted. No condition. -/
import Derived.Test.YtaienbkgekjdnaaGreatNvD1
import Derived.Test.YtaienbkgekjdnaaGreatNvLibC
set_option maxRecDepth 100000
namespace Nv
open Go Go.Sort Go.Proofs
def cmp3 (x y : Int) : Int := bif decide (x < y) then (-1) else bif decide (x > y) then 1 else 0
theorem ZhN (x y : Int) : M.YQ x y = some (cmp3 x y) := by
  have hn : ∀ z, M.QM z = some false := fun z => by unfold M.QM; simp
  unfold M.YQ cmp3
  rw [hn, hn]
  cases decide (x < y) <;> cases decide (x > y) <;> rfl
theorem ZkD (x y : Int) : M.YJ x y = some (cmp3 x y) := by
  have hn : ∀ z, M.YD z = some false := fun z => by unfold M.YD; simp
  unfold M.YJ cmp3
  rw [hn, hn]
  cases decide (x < y) <;> cases decide (x > y) <;> rfl
theorem Zlb (a b : Int) : M.Wa [a, b] = some (bif a != 0 then a else b) := by
  have s0 : M.Qp [a, b] 0 = bif a != 0 then some (.inr (.inr a)) else some (.inl 1) := by
    unfold M.Qp
    rw [show decide ((0 : Int) < (([a, b] : List Int).length : Int)) = true from rfl, cond_true, gdT (by rfl)]
    rfl
  have s1 : M.Qp [a, b] 1 = bif b != 0 then some (.inr (.inr b)) else some (.inl 2) := by
    unfold M.Qp
    rw [show decide ((1 : Int) < (([a, b] : List Int).length : Int)) = true from rfl, cond_true, gdT (by rfl)]
    rfl
  have s2 : M.Qp [a, b] 2 = some (.inr (.inl ())) := by
    unfold M.Qp
    rfl
  unfold M.Wa
  cases ha : a != 0 with
  | true =>
    rw [ha] at s0
    rw [Ud (.out s0), Option.bind_some]; rfl
  | false =>
    rw [ha] at s0
    cases hb : b != 0 with
    | true =>
      rw [hb] at s1
      rw [Ud (.next s0 (.out s1)), Option.bind_some]; rfl
    | false =>
      rw [hb] at s1
      have : b = 0 := by simpa using hb
      rw [Ud (.next s0 (.next s1 (.out s2))), Option.bind_some, this]; rfl
def dlt (x y : Zh) : Prop := x.Zo.Zx < y.Zo.Zx ∨ (x.Zo.Zx = y.Zo.Zx ∧ (x.Zo.ZV < y.Zo.ZV ∨ (x.Zo.ZV = y.Zo.ZV ∧ x.XE < y.XE)))
instance (x y : Zh) : Decidable (dlt x y) := by unfold dlt; exact inferInstance
def pcf (x y : ZZ) : Int := bif cmp3 x.Zx y.Zx != 0 then cmp3 x.Zx y.Zx else cmp3 x.ZV y.ZV
def dcf (x y : Zh) : Int := bif pcf x.Zo y.Zo != 0 then pcf x.Zo y.Zo else cmp3 x.XE y.XE
theorem Zlc (x y : ZZ) : M.Vc x y = some (pcf x y) := by
  unfold M.Vc pcf
  rw [ZkD, Option.bind_some]
  cases cmp3 x.Zx y.Zx != 0
  · rw [cond_false, cond_false, ZhN]; rfl
  · rfl
theorem ZkE (x y : Zh) : M.JO x y = some (dcf x y) := by
  unfold M.JO dcf
  rw [Zlc, Option.bind_some, ZhN, Option.bind_some, Zlb, Option.bind_some]
theorem ZeH (x y : Int) : (x < y ∧ cmp3 x y = -1) ∨ (x > y ∧ cmp3 x y = 1) ∨ (x = y ∧ cmp3 x y = 0) := by
  unfold cmp3
  rcases Int.lt_trichotomy x y with h | h | h
  · exact .inl ⟨h, by rw [decide_eq_true h]; rfl⟩
  · exact .inr (.inr ⟨h, by rw [decide_eq_false (by omega), decide_eq_false (by omega)]; rfl⟩)
  · exact .inr (.inl ⟨h, by rw [decide_eq_false (by omega), decide_eq_true h]; rfl⟩)
theorem Zhj (x y : Zh) : ltOf dcf x y = decide (dlt x y) := by
  unfold ltOf dcf pcf
  rw [decide_eq_decide]
  unfold dlt
  rcases ZeH x.Zo.Zx y.Zo.Zx with ⟨h, e⟩ | ⟨h, e⟩ | ⟨h, e⟩ <;> rw [e]
  · simp; omega
  · simp; omega
  · rcases ZeH x.Zo.ZV y.Zo.ZV with ⟨g, e⟩ | ⟨g, e⟩ | ⟨g, e⟩ <;> rw [e]
    · simp; omega
    · simp; omega
    · rcases ZeH x.XE y.XE with ⟨k, e⟩ | ⟨k, e⟩ | ⟨k, e⟩ <;> rw [e] <;> simp <;> omega
theorem ZkF : SWO (ltOf dcf) where
  irrefl x := by rw [Zhj, decide_eq_false_iff_not]; unfold dlt; omega
  trans x y z h1 h2 := by rw [Zhj, decide_eq_true_eq] at *; unfold dlt at *; omega
  ntrans x y z h1 h2 := by rw [Zhj, decide_eq_false_iff_not] at *; unfold dlt at *; omega
theorem ZdA : SortOK M.JO := ⟨dcf, ZkE, ZkF⟩
end Nv
