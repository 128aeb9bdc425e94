/- How domains are sorted. No condition. -/
import Derived.Test.YtaienbkgekjdnaaGreatNvD1
import Derived.Test.YtaienbkgekjdnaaGreatNvLibC
set_option maxRecDepth 100000
namespace Nv
open Go Go.Sort Go.Proofs
def cmp3 (x y : Int) : Int := bif decide (x < y) then (-1) else bif decide (x > y) then 1 else 0
theorem ZhA (x y : Int) : M.YO x y = some (cmp3 x y) := by
  have hn : ∀ z, M.QJ z = some false := fun z => by unfold M.QJ; simp
  unfold M.YO cmp3
  rw [hn, hn]
  cases decide (x < y) <;> cases decide (x > y) <;> rfl
theorem Zkt (x y : Int) : M.YI x y = some (cmp3 x y) := by
  have hn : ∀ z, M.YA z = some false := fun z => by unfold M.YA; simp
  unfold M.YI cmp3
  rw [hn, hn]
  cases decide (x < y) <;> cases decide (x > y) <;> rfl
theorem Zk1 (a b : Int) : M.VY [a, b] = some (bif a != 0 then a else b) := by
  have s0 : M.Qo [a, b] 0 = bif a != 0 then some (.inr (.inr a)) else some (.inl 1) := by
    unfold M.Qo
    rw [show decide ((0 : Int) < (([a, b] : List Int).length : Int)) = true from rfl, cond_true, gdT (by rfl)]
    rfl
  have s1 : M.Qo [a, b] 1 = bif b != 0 then some (.inr (.inr b)) else some (.inl 2) := by
    unfold M.Qo
    rw [show decide ((1 : Int) < (([a, b] : List Int).length : Int)) = true from rfl, cond_true, gdT (by rfl)]
    rfl
  have s2 : M.Qo [a, b] 2 = some (.inr (.inl ())) := by
    unfold M.Qo
    rfl
  unfold M.VY
  cases ha : a != 0 with
  | true =>
    rw [ha] at s0
    rw [W4 (.out s0), Option.bind_some]; rfl
  | false =>
    rw [ha] at s0
    cases hb : b != 0 with
    | true =>
      rw [hb] at s1
      rw [W4 (.next s0 (.out s1)), Option.bind_some]; rfl
    | false =>
      rw [hb] at s1
      have : b = 0 := by simpa using hb
      rw [W4 (.next s0 (.next s1 (.out s2))), Option.bind_some, this]; rfl
def dlt (x y : Zg) : Prop := x.Zo.Zs < y.Zo.Zs ∨ (x.Zo.Zs = y.Zo.Zs ∧ (x.Zo.ZR < y.Zo.ZR ∨ (x.Zo.ZR = y.Zo.ZR ∧ x.XB < y.XB)))
instance (x y : Zg) : Decidable (dlt x y) := by unfold dlt; exact inferInstance
def pcf (x y : ZX) : Int := bif cmp3 x.Zs y.Zs != 0 then cmp3 x.Zs y.Zs else cmp3 x.ZR y.ZR
def dcf (x y : Zg) : Int := bif pcf x.Zo y.Zo != 0 then pcf x.Zo y.Zo else cmp3 x.XB y.XB
theorem Zk2 (x y : ZX) : M.J8 x y = some (pcf x y) := by
  unfold M.J8 pcf
  rw [Zkt, Option.bind_some]
  cases cmp3 x.Zs y.Zs != 0
  · rw [cond_false, cond_false, ZhA]; rfl
  · rfl
theorem Zku (x y : Zg) : M.JJ x y = some (dcf x y) := by
  unfold M.JJ dcf
  rw [Zk2, Option.bind_some, ZhA, Option.bind_some, Zk1, Option.bind_some]
theorem Zel (x y : Int) : (x < y ∧ cmp3 x y = -1) ∨ (x > y ∧ cmp3 x y = 1) ∨ (x = y ∧ cmp3 x y = 0) := by
  unfold cmp3
  rcases Int.lt_trichotomy x y with h | h | h
  · exact .inl ⟨h, by rw [decide_eq_true h]; rfl⟩
  · exact .inr (.inr ⟨h, by rw [decide_eq_false (by omega), decide_eq_false (by omega)]; rfl⟩)
  · exact .inr (.inl ⟨h, by rw [decide_eq_false (by omega), decide_eq_true h]; rfl⟩)
theorem Zg5 (x y : Zg) : ltOf dcf x y = decide (dlt x y) := by
  unfold ltOf dcf pcf
  rw [decide_eq_decide]
  unfold dlt
  rcases Zel x.Zo.Zs y.Zo.Zs with ⟨h, e⟩ | ⟨h, e⟩ | ⟨h, e⟩ <;> rw [e]
  · simp; omega
  · simp; omega
  · rcases Zel x.Zo.ZR y.Zo.ZR with ⟨g, e⟩ | ⟨g, e⟩ | ⟨g, e⟩ <;> rw [e]
    · simp; omega
    · simp; omega
    · rcases Zel x.XB y.XB with ⟨k, e⟩ | ⟨k, e⟩ | ⟨k, e⟩ <;> rw [e] <;> simp <;> omega
theorem Zkv : SWO (ltOf dcf) where
  irrefl x := by rw [Zg5, decide_eq_false_iff_not]; unfold dlt; omega
  trans x y z h1 h2 := by rw [Zg5, decide_eq_true_eq] at *; unfold dlt at *; omega
  ntrans x y z h1 h2 := by rw [Zg5, decide_eq_false_iff_not] at *; unfold dlt at *; omega
theorem so_topo_Build_1 : SortOK M.JJ := ⟨dcf, Zku, Zkv⟩
end Nv
