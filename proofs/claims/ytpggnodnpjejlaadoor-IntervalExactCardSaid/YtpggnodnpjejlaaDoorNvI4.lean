/- A search in a list; what fits. No condition. -/
import Derived.Test.YtpggnodnpjejlaaDoorNvT1
import Derived.Test.YtpggnodnpjejlaaDoorNvLibB
import Derived.Test.YtpggnodnpjejlaaDoorNvI1
namespace Nv
open Go
theorem runN_anyE {β : Type} {g : Nat → Option β} {c : Nat → Bool} {v e : β} (h : ∀ k, g k = bif c k then some v else none) (n : Nat) : runN g e 0 n = bif anyN c n then v else e := by
  rw [← runN_any c v e n]
  exact runN_congr0 fun j _ => h j
theorem wf_u32 {x : Int} (h : (Lit.int .u32 x).wf = true) : 0 ≤ x ∧ x < 4294967296 := by
  simp only [Lit.wf, Bool.and_eq_true, decide_eq_true_eq] at h
  have e1 : IntKind.min .u32 = 0 := by decide
  have e2 : IntKind.max .u32 = 4294967295 := by decide
  rw [e1, e2] at h
  omega
end Nv
