/- How domains are sorted. No condition. -/
import Derived.Test.YtaienbkgekjdnaaGreatNvD1
import Derived.Test.YtaienbkgekjdnaaGreatNvLibC
set_option maxRecDepth 100000
namespace Nv
open Go Go.Sort Go.Proofs
def cmp3 (x y : Int) : Int := bif decide (x < y) then (-1) else bif decide (x > y) then 1 else 0
theorem cmpi_eq (x y : Int) : M.cmp_Compare_int x y = some (cmp3 x y) := by
  have hn : ∀ z, M.cmp_isNaN_int z = some false := fun z => by unfold M.cmp_isNaN_int; simp
  unfold M.cmp_Compare_int cmp3
  rw [hn, hn]
  cases decide (x < y) <;> cases decide (x > y) <;> rfl
theorem cmpu_eq (x y : Int) : M.cmp_Compare_uint32 x y = some (cmp3 x y) := by
  have hn : ∀ z, M.cmp_isNaN_uint32 z = some false := fun z => by unfold M.cmp_isNaN_uint32; simp
  unfold M.cmp_Compare_uint32 cmp3
  rw [hn, hn]
  cases decide (x < y) <;> cases decide (x > y) <;> rfl
theorem or2_eq (a b : Int) : M.cmp_Or_int [a, b] = some (bif a != 0 then a else b) := by
  have s0 : M.cmp_Or_int_l1 [a, b] 0 = bif a != 0 then some (.inr (.inr a)) else some (.inl 1) := by
    unfold M.cmp_Or_int_l1
    rw [show decide ((0 : Int) < (([a, b] : List Int).length : Int)) = true from rfl, cond_true, gdT (by rfl)]
    rfl
  have s1 : M.cmp_Or_int_l1 [a, b] 1 = bif b != 0 then some (.inr (.inr b)) else some (.inl 2) := by
    unfold M.cmp_Or_int_l1
    rw [show decide ((1 : Int) < (([a, b] : List Int).length : Int)) = true from rfl, cond_true, gdT (by rfl)]
    rfl
  have s2 : M.cmp_Or_int_l1 [a, b] 2 = some (.inr (.inl ())) := by
    unfold M.cmp_Or_int_l1
    rfl
  unfold M.cmp_Or_int
  cases ha : a != 0 with
  | true =>
    rw [ha] at s0
    rw [loopM_of (.out s0), Option.bind_some]; rfl
  | false =>
    rw [ha] at s0
    cases hb : b != 0 with
    | true =>
      rw [hb] at s1
      rw [loopM_of (.next s0 (.out s1)), Option.bind_some]; rfl
    | false =>
      rw [hb] at s1
      have : b = 0 := by simpa using hb
      rw [loopM_of (.next s0 (.next s1 (.out s2))), Option.bind_some, this]; rfl
def dlt (x y : TDomain) : Prop := x.fPrefix.fAddr < y.fPrefix.fAddr ∨ (x.fPrefix.fAddr = y.fPrefix.fAddr ∧ (x.fPrefix.fLen < y.fPrefix.fLen ∨ (x.fPrefix.fLen = y.fPrefix.fLen ∧ x.fVLAN < y.fVLAN)))
instance (x y : TDomain) : Decidable (dlt x y) := by unfold dlt; exact inferInstance
def pcf (x y : TPrefix) : Int := bif cmp3 x.fAddr y.fAddr != 0 then cmp3 x.fAddr y.fAddr else cmp3 x.fLen y.fLen
def dcf (x y : TDomain) : Int := bif pcf x.fPrefix y.fPrefix != 0 then pcf x.fPrefix y.fPrefix else cmp3 x.fVLAN y.fVLAN
theorem pcf_eq (x y : TPrefix) : M.addr_Compare x y = some (pcf x y) := by
  unfold M.addr_Compare pcf
  rw [cmpu_eq, Option.bind_some]
  cases cmp3 x.fAddr y.fAddr != 0
  · rw [cond_false, cond_false, cmpi_eq]; rfl
  · rfl
theorem doms_eq (x y : TDomain) : M.topo_Build_1 x y = some (dcf x y) := by
  unfold M.topo_Build_1 dcf
  rw [pcf_eq, Option.bind_some, cmpi_eq, Option.bind_some, or2_eq, Option.bind_some]
theorem cmp3_val (x y : Int) : (x < y ∧ cmp3 x y = -1) ∨ (x > y ∧ cmp3 x y = 1) ∨ (x = y ∧ cmp3 x y = 0) := by
  unfold cmp3
  rcases Int.lt_trichotomy x y with h | h | h
  · exact .inl ⟨h, by rw [decide_eq_true h]; rfl⟩
  · exact .inr (.inr ⟨h, by rw [decide_eq_false (by omega), decide_eq_false (by omega)]; rfl⟩)
  · exact .inr (.inl ⟨h, by rw [decide_eq_false (by omega), decide_eq_true h]; rfl⟩)
theorem dcf_lt (x y : TDomain) : ltOf dcf x y = decide (dlt x y) := by
  unfold ltOf dcf pcf
  rw [decide_eq_decide]
  unfold dlt
  rcases cmp3_val x.fPrefix.fAddr y.fPrefix.fAddr with ⟨h, e⟩ | ⟨h, e⟩ | ⟨h, e⟩ <;> rw [e]
  · simp; omega
  · simp; omega
  · rcases cmp3_val x.fPrefix.fLen y.fPrefix.fLen with ⟨g, e⟩ | ⟨g, e⟩ | ⟨g, e⟩ <;> rw [e]
    · simp; omega
    · simp; omega
    · rcases cmp3_val x.fVLAN y.fVLAN with ⟨k, e⟩ | ⟨k, e⟩ | ⟨k, e⟩ <;> rw [e] <;> simp <;> omega
theorem dcf_swo : SWO (ltOf dcf) where
  irrefl x := by rw [dcf_lt, decide_eq_false_iff_not]; unfold dlt; omega
  trans x y z h1 h2 := by rw [dcf_lt, decide_eq_true_eq] at *; unfold dlt at *; omega
  ntrans x y z h1 h2 := by rw [dcf_lt, decide_eq_false_iff_not] at *; unfold dlt at *; omega
theorem so_topo_Build_1 : SortOK M.topo_Build_1 := ⟨dcf, doms_eq, dcf_swo⟩
end Nv
