/- Masks of addresses: the program's and the reference's are one. -/
import Derived.Test.YtaienbkgekjdnaaGreatNvD1
import Derived.Test.YtaienbkgekjdnaaGreatNvLibB
import Derived.KernelRfl
namespace Nv
open Go
def S.addr_clamp (n : Int) : Int := cl32 n
theorem s_addr_clamp (n : Int) : M.addr_clamp n = some (S.addr_clamp n) := by
  unfold M.addr_clamp S.addr_clamp cl32
  congr 1
  split <;> split <;> (try split) <;> omega
def S.addr_Mask (n : Int) : Int := mk32 n
theorem s_addr_Mask (n : Int) : M.addr_Mask n = some (S.addr_Mask n) := by
  have h := cl32_range n
  unfold M.addr_Mask S.addr_Mask mk32
  rw [s_addr_clamp]
  simp only [Option.bind_some, S.addr_clamp]
  have e : wr .i64 (32 - cl32 n) = 32 - cl32 n := by unfold wr; exact IntWalk.i64_in _ (by omega)
  rw [e, gd_true (by intro b hb; simp at hb; subst hb; simp; omega)]
  have e2 : min (32 - cl32 n).toNat 32 = 32 - (cl32 n).toNat := by omega
  rw [e2]
end Nv
