/- The lists of failed links: the reference's. No condition. -/
import Derived.Test.YtaienbkgekjdnaaGreatNvFl
set_option maxRecDepth 100000
namespace Nv
open Go Go.Proofs
noncomputable def chkR (a b : Nat) : Bool := (match K.X3 (a : Int) (b : Int) with | some r => r == (FL a b, 0) | none => false)
theorem Zcs : ((List.range 13).all fun a => (List.range 3).all fun b => chkR a b) = true := by kernel_rfl
theorem ZdC {a b : Int} (h1 : 0 ≤ a) (h2 : a ≤ 12) (h3 : 0 ≤ b) (h4 : b ≤ 2) : M.X3 a b = some (FL a.toNat b.toNat, 0) := by
  have h := List.all_eq_true.1 Zcs a.toNat (List.mem_range.2 (by omega))
  have h := List.all_eq_true.1 h b.toNat (List.mem_range.2 (by omega))
  unfold chkR at h
  rw [show ((a.toNat : Nat) : Int) = a by omega, show ((b.toNat : Nat) : Int) = b by omega] at h
  refine U1 a b _ ?_
  split at h
  · rename_i r e; rw [e, eq_of_beq h]
  · cases h
end Nv
