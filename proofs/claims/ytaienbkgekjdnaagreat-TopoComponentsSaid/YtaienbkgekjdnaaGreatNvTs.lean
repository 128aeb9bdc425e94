/- How domains are sorted. No condition. -/
import Derived.Test.YtaienbkgekjdnaaGreatNvD1
import Derived.Test.YtaienbkgekjdnaaGreatNvLibC
set_option maxRecDepth 100000
namespace Nv
open Go Go.Sort Go.Proofs
def cmp3 (x y : Int) : Int := bif decide (x < y) then (-1) else bif decide (x > y) then 1 else 0
theorem Zh4 (x y : Int) : M.YP x y = some (cmp3 x y) := by
  have hn : ∀ z, M.QH z = some false := fun z => by unfold M.QH; simp
  unfold M.YP cmp3
  rw [hn, hn]
  cases decide (x < y) <;> cases decide (x > y) <;> rfl
theorem ZkX (x y : Int) : M.YI x y = some (cmp3 x y) := by
  have hn : ∀ z, M.YB z = some false := fun z => by unfold M.YB; simp
  unfold M.YI cmp3
  rw [hn, hn]
  cases decide (x < y) <;> cases decide (x > y) <;> rfl
theorem ZlA (a b : Int) : M.Wi [a, b] = some (bif a != 0 then a else b) := by
  have s0 : M.Qn [a, b] 0 = bif a != 0 then some (.inr (.inr a)) else some (.inl 1) := by
    unfold M.Qn
    rw [show decide ((0 : Int) < (([a, b] : List Int).length : Int)) = true from rfl, cond_true, gdT (by rfl)]
    rfl
  have s1 : M.Qn [a, b] 1 = bif b != 0 then some (.inr (.inr b)) else some (.inl 2) := by
    unfold M.Qn
    rw [show decide ((1 : Int) < (([a, b] : List Int).length : Int)) = true from rfl, cond_true, gdT (by rfl)]
    rfl
  have s2 : M.Qn [a, b] 2 = some (.inr (.inl ())) := by
    unfold M.Qn
    rfl
  unfold M.Wi
  cases ha : a != 0 with
  | true =>
    rw [ha] at s0
    rw [Wn (.out s0), Option.bind_some]; rfl
  | false =>
    rw [ha] at s0
    cases hb : b != 0 with
    | true =>
      rw [hb] at s1
      rw [Wn (.next s0 (.out s1)), Option.bind_some]; rfl
    | false =>
      rw [hb] at s1
      have : b = 0 := by simpa using hb
      rw [Wn (.next s0 (.next s1 (.out s2))), Option.bind_some, this]; rfl
def dlt (x y : Zh) : Prop := x.Zo.Zy < y.Zo.Zy ∨ (x.Zo.Zy = y.Zo.Zy ∧ (x.Zo.ZW < y.Zo.ZW ∨ (x.Zo.ZW = y.Zo.ZW ∧ x.XD < y.XD)))
instance (x y : Zh) : Decidable (dlt x y) := by unfold dlt; exact inferInstance
def pcf (x y : ZZ) : Int := bif cmp3 x.Zy y.Zy != 0 then cmp3 x.Zy y.Zy else cmp3 x.ZW y.ZW
def dcf (x y : Zh) : Int := bif pcf x.Zo y.Zo != 0 then pcf x.Zo y.Zo else cmp3 x.XD y.XD
theorem ZlB (x y : ZZ) : M.Vb x y = some (pcf x y) := by
  unfold M.Vb pcf
  rw [ZkX, Option.bind_some]
  cases cmp3 x.Zy y.Zy != 0
  · rw [cond_false, cond_false, Zh4]; rfl
  · rfl
theorem ZkY (x y : Zh) : M.JJ x y = some (dcf x y) := by
  unfold M.JJ dcf
  rw [ZlB, Option.bind_some, Zh4, Option.bind_some, ZlA, Option.bind_some]
theorem ZeQ (x y : Int) : (x < y ∧ cmp3 x y = -1) ∨ (x > y ∧ cmp3 x y = 1) ∨ (x = y ∧ cmp3 x y = 0) := by
  unfold cmp3
  rcases Int.lt_trichotomy x y with h | h | h
  · exact .inl ⟨h, by rw [decide_eq_true h]; rfl⟩
  · exact .inr (.inr ⟨h, by rw [decide_eq_false (by omega), decide_eq_false (by omega)]; rfl⟩)
  · exact .inr (.inl ⟨h, by rw [decide_eq_false (by omega), decide_eq_true h]; rfl⟩)
theorem ZhA (x y : Zh) : ltOf dcf x y = decide (dlt x y) := by
  unfold ltOf dcf pcf
  rw [decide_eq_decide]
  unfold dlt
  rcases ZeQ x.Zo.Zy y.Zo.Zy with ⟨h, e⟩ | ⟨h, e⟩ | ⟨h, e⟩ <;> rw [e]
  · simp; omega
  · simp; omega
  · rcases ZeQ x.Zo.ZW y.Zo.ZW with ⟨g, e⟩ | ⟨g, e⟩ | ⟨g, e⟩ <;> rw [e]
    · simp; omega
    · simp; omega
    · rcases ZeQ x.XD y.XD with ⟨k, e⟩ | ⟨k, e⟩ | ⟨k, e⟩ <;> rw [e] <;> simp <;> omega
theorem ZkZ : SWO (ltOf dcf) where
  irrefl x := by rw [ZhA, decide_eq_false_iff_not]; unfold dlt; omega
  trans x y z h1 h2 := by rw [ZhA, decide_eq_true_eq] at *; unfold dlt at *; omega
  ntrans x y z h1 h2 := by rw [ZhA, decide_eq_false_iff_not] at *; unfold dlt at *; omega
theorem so_topo_Build_1 : SortOK M.JJ := ⟨dcf, ZkY, ZkZ⟩
end Nv
