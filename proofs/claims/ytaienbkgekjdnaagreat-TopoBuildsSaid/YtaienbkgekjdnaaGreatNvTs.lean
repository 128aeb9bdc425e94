/- How domains are sorted. No condition. -/
import Derived.Test.YtaienbkgekjdnaaGreatNvD1
import Derived.Test.YtaienbkgekjdnaaGreatNvLibC
set_option maxRecDepth 100000
namespace Nv
open Go Go.Sort Go.Proofs
def ZfP (x y : Int) : Int := bif decide (x < y) then (-1) else bif decide (x > y) then 1 else 0
theorem Zmc (x y : Int) : M.Q0 x y = some (ZfP x y) := by
  have hn : ∀ z, M.JZ z = some false := fun z => by unfold M.JZ; simp
  unfold M.Q0 ZfP
  rw [hn, hn]
  cases decide (x < y) <;> cases decide (x > y) <;> rfl
theorem Zpw (x y : Int) : M.QN x y = some (ZfP x y) := by
  have hn : ∀ z, M.QC z = some false := fun z => by unfold M.QC; simp
  unfold M.QN ZfP
  rw [hn, hn]
  cases decide (x < y) <;> cases decide (x > y) <;> rfl
theorem Zqj (a b : Int) : M.W4 [a, b] = some (bif a != 0 then a else b) := by
  have s0 : M.JG [a, b] 0 = bif a != 0 then some (.inr (.inr a)) else some (.inl 1) := by
    unfold M.JG
    rw [show decide ((0 : Int) < (([a, b] : List Int).length : Int)) = true from rfl, cond_true, gdT (by rfl)]
    rfl
  have s1 : M.JG [a, b] 1 = bif b != 0 then some (.inr (.inr b)) else some (.inl 2) := by
    unfold M.JG
    rw [show decide ((1 : Int) < (([a, b] : List Int).length : Int)) = true from rfl, cond_true, gdT (by rfl)]
    rfl
  have s2 : M.JG [a, b] 2 = some (.inr (.inl ())) := by
    unfold M.JG
    rfl
  unfold M.W4
  cases ha : a != 0 with
  | true =>
    rw [ha] at s0
    rw [UH (.out s0), Option.bind_some]; rfl
  | false =>
    rw [ha] at s0
    cases hb : b != 0 with
    | true =>
      rw [hb] at s1
      rw [UH (.next s0 (.out s1)), Option.bind_some]; rfl
    | false =>
      rw [hb] at s1
      have : b = 0 := by simpa using hb
      rw [UH (.next s0 (.next s1 (.out s2))), Option.bind_some, this]; rfl
def dlt (x y : Zk) : Prop := x.Zp.Zu < y.Zp.Zu ∨ (x.Zp.Zu = y.Zp.Zu ∧ (x.Zp.ZJ < y.Zp.ZJ ∨ (x.Zp.ZJ = y.Zp.ZJ ∧ x.Xu < y.Xu)))
instance (x y : Zk) : Decidable (dlt x y) := by unfold dlt; exact inferInstance
def pcf (x y : ZL) : Int := bif ZfP x.Zu y.Zu != 0 then ZfP x.Zu y.Zu else ZfP x.ZJ y.ZJ
def dcf (x y : Zk) : Int := bif pcf x.Zp y.Zp != 0 then pcf x.Zp y.Zp else ZfP x.Xu y.Xu
theorem Zqk (x y : ZL) : M.Wl x y = some (pcf x y) := by
  unfold M.Wl pcf
  rw [Zpw, Option.bind_some]
  cases ZfP x.Zu y.Zu != 0
  · rw [cond_false, cond_false, Zmc]; rfl
  · rfl
theorem Zmd (x y : Zk) : M.VR x y = some (dcf x y) := by
  unfold M.VR dcf
  rw [Zqk, Option.bind_some, Zmc, Option.bind_some, Zqj, Option.bind_some]
theorem ZhW (x y : Int) : (x < y ∧ ZfP x y = -1) ∨ (x > y ∧ ZfP x y = 1) ∨ (x = y ∧ ZfP x y = 0) := by
  unfold ZfP
  rcases Int.lt_trichotomy x y with h | h | h
  · exact .inl ⟨h, by rw [decide_eq_true h]; rfl⟩
  · exact .inr (.inr ⟨h, by rw [decide_eq_false (by omega), decide_eq_false (by omega)]; rfl⟩)
  · exact .inr (.inl ⟨h, by rw [decide_eq_false (by omega), decide_eq_true h]; rfl⟩)
theorem ZfQ (x y : Zk) : ltOf dcf x y = decide (dlt x y) := by
  unfold ltOf dcf pcf
  rw [decide_eq_decide]
  unfold dlt
  rcases ZhW x.Zp.Zu y.Zp.Zu with ⟨h, e⟩ | ⟨h, e⟩ | ⟨h, e⟩ <;> rw [e]
  · simp; omega
  · simp; omega
  · rcases ZhW x.Zp.ZJ y.Zp.ZJ with ⟨g, e⟩ | ⟨g, e⟩ | ⟨g, e⟩ <;> rw [e]
    · simp; omega
    · simp; omega
    · rcases ZhW x.Xu y.Xu with ⟨k, e⟩ | ⟨k, e⟩ | ⟨k, e⟩ <;> rw [e] <;> simp <;> omega
theorem ZjF : SWO (ltOf dcf) where
  irrefl x := by rw [ZfQ, decide_eq_false_iff_not]; unfold dlt; omega
  trans x y z h1 h2 := by rw [ZfQ, decide_eq_true_eq] at *; unfold dlt at *; omega
  ntrans x y z h1 h2 := by rw [ZfQ, decide_eq_false_iff_not] at *; unfold dlt at *; omega
theorem so_topo_Build_1 : Zhn M.VR := ⟨dcf, Zmd, ZjF⟩
end Nv
