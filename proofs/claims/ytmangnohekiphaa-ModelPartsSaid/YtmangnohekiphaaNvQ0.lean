/- Masks of addresses: the program's and the reference's are one. -/
import Derived.Test.YtmangnohekiphaaNvD1
import Derived.Test.YtmangnohekiphaaNvTot
import Derived.Test.YtmangnohekiphaaNvRef
import Derived.KernelRfl
namespace Nv
open Go

/-- A length brought into 0 to 32. -/
def cl32 (n : Int) : Int := if n < 0 then 0 else if 32 < n then 32 else n
def mk32 (n : Int) : Int := wr .u32 (4294967295 * 2 ^ (32 - (cl32 n).toNat))
theorem cl32_range (n : Int) : 0 ≤ cl32 n ∧ cl32 n ≤ 32 := by unfold cl32; split <;> (try split) <;> omega
theorem cl32_idem (n : Int) : cl32 (cl32 n) = cl32 n := by unfold cl32; split <;> (try split) <;> (try split) <;> (try split) <;> omega
def S.addr_clamp (n : Int) : Int := cl32 n
theorem s_addr_clamp (n : Int) : M.addr_clamp n = some (S.addr_clamp n) := by
  unfold M.addr_clamp S.addr_clamp cl32
  congr 1
  split <;> split <;> (try split) <;> omega
def S.addr_Mask (n : Int) : Int := mk32 n
theorem s_addr_Mask (n : Int) : M.addr_Mask n = some (S.addr_Mask n) := by
  have h := cl32_range n
  unfold M.addr_Mask S.addr_Mask mk32
  rw [s_addr_clamp]
  simp only [Option.bind_some, S.addr_clamp]
  have e : wr .i64 (32 - cl32 n) = 32 - cl32 n := by unfold wr; exact IntWalk.i64_in _ (by omega)
  rw [e, gd_true (by intro b hb; simp at hb; subst hb; simp; omega)]
  have e2 : min (32 - cl32 n).toNat 32 = 32 - (cl32 n).toNat := by omega
  rw [e2]
theorem mk32_cl (n : Int) : mk32 (cl32 n) = mk32 n := by unfold mk32; rw [cl32_idem]
end Nv

