/- How domains are sorted. No condition. -/
import Derived.Test.YtaienbkgekjdnaaGreatNvD1
import Derived.Test.YtaienbkgekjdnaaGreatNvLibC
set_option maxRecDepth 100000
namespace Nv
open Go Go.Sort Go.Proofs
def cmp3 (x y : Int) : Int := bif decide (x < y) then (-1) else bif decide (x > y) then 1 else 0
theorem ZhB (x y : Int) : M.YP x y = some (cmp3 x y) := by
  have hn : ∀ z, M.QL z = some false := fun z => by unfold M.QL; simp
  unfold M.YP cmp3
  rw [hn, hn]
  cases decide (x < y) <;> cases decide (x > y) <;> rfl
theorem Zku (x y : Int) : M.YI x y = some (cmp3 x y) := by
  have hn : ∀ z, M.YA z = some false := fun z => by unfold M.YA; simp
  unfold M.YI cmp3
  rw [hn, hn]
  cases decide (x < y) <;> cases decide (x > y) <;> rfl
theorem Zk2 (a b : Int) : M.VZ [a, b] = some (bif a != 0 then a else b) := by
  have s0 : M.Qp [a, b] 0 = bif a != 0 then some (.inr (.inr a)) else some (.inl 1) := by
    unfold M.Qp
    rw [show decide ((0 : Int) < (([a, b] : List Int).length : Int)) = true from rfl, cond_true, gdT (by rfl)]
    rfl
  have s1 : M.Qp [a, b] 1 = bif b != 0 then some (.inr (.inr b)) else some (.inl 2) := by
    unfold M.Qp
    rw [show decide ((1 : Int) < (([a, b] : List Int).length : Int)) = true from rfl, cond_true, gdT (by rfl)]
    rfl
  have s2 : M.Qp [a, b] 2 = some (.inr (.inl ())) := by
    unfold M.Qp
    rfl
  unfold M.VZ
  cases ha : a != 0 with
  | true =>
    rw [ha] at s0
    rw [W5 (.out s0), Option.bind_some]; rfl
  | false =>
    rw [ha] at s0
    cases hb : b != 0 with
    | true =>
      rw [hb] at s1
      rw [W5 (.next s0 (.out s1)), Option.bind_some]; rfl
    | false =>
      rw [hb] at s1
      have : b = 0 := by simpa using hb
      rw [W5 (.next s0 (.next s1 (.out s2))), Option.bind_some, this]; rfl
def dlt (x y : Zg) : Prop := x.Zo.Zs < y.Zo.Zs ∨ (x.Zo.Zs = y.Zo.Zs ∧ (x.Zo.ZR < y.Zo.ZR ∨ (x.Zo.ZR = y.Zo.ZR ∧ x.XB < y.XB)))
instance (x y : Zg) : Decidable (dlt x y) := by unfold dlt; exact inferInstance
def pcf (x y : ZX) : Int := bif cmp3 x.Zs y.Zs != 0 then cmp3 x.Zs y.Zs else cmp3 x.ZR y.ZR
def dcf (x y : Zg) : Int := bif pcf x.Zo y.Zo != 0 then pcf x.Zo y.Zo else cmp3 x.XB y.XB
theorem Zk3 (x y : ZX) : M.J9 x y = some (pcf x y) := by
  unfold M.J9 pcf
  rw [Zku, Option.bind_some]
  cases cmp3 x.Zs y.Zs != 0
  · rw [cond_false, cond_false, ZhB]; rfl
  · rfl
theorem Zkv (x y : Zg) : M.JK x y = some (dcf x y) := by
  unfold M.JK dcf
  rw [Zk3, Option.bind_some, ZhB, Option.bind_some, Zk2, Option.bind_some]
theorem Zem (x y : Int) : (x < y ∧ cmp3 x y = -1) ∨ (x > y ∧ cmp3 x y = 1) ∨ (x = y ∧ cmp3 x y = 0) := by
  unfold cmp3
  rcases Int.lt_trichotomy x y with h | h | h
  · exact .inl ⟨h, by rw [decide_eq_true h]; rfl⟩
  · exact .inr (.inr ⟨h, by rw [decide_eq_false (by omega), decide_eq_false (by omega)]; rfl⟩)
  · exact .inr (.inl ⟨h, by rw [decide_eq_false (by omega), decide_eq_true h]; rfl⟩)
theorem Zg6 (x y : Zg) : ltOf dcf x y = decide (dlt x y) := by
  unfold ltOf dcf pcf
  rw [decide_eq_decide]
  unfold dlt
  rcases Zem x.Zo.Zs y.Zo.Zs with ⟨h, e⟩ | ⟨h, e⟩ | ⟨h, e⟩ <;> rw [e]
  · simp; omega
  · simp; omega
  · rcases Zem x.Zo.ZR y.Zo.ZR with ⟨g, e⟩ | ⟨g, e⟩ | ⟨g, e⟩ <;> rw [e]
    · simp; omega
    · simp; omega
    · rcases Zem x.XB y.XB with ⟨k, e⟩ | ⟨k, e⟩ | ⟨k, e⟩ <;> rw [e] <;> simp <;> omega
theorem Zkw : SWO (ltOf dcf) where
  irrefl x := by rw [Zg6, decide_eq_false_iff_not]; unfold dlt; omega
  trans x y z h1 h2 := by rw [Zg6, decide_eq_true_eq] at *; unfold dlt at *; omega
  ntrans x y z h1 h2 := by rw [Zg6, decide_eq_false_iff_not] at *; unfold dlt at *; omega
theorem Zdg : SortOK M.JK := ⟨dcf, Zkv, Zkw⟩
end Nv
