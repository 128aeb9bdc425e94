/- Hops: ascending lists, neighbours that are alike struck out. No condition. -/
import Derived.Test.YtlhpjcjjnbfmbaaNvD1
import Derived.Test.YtlhpjcjjnbfmbaaNvLibC
namespace Nv
open Go
def heq (x y : THop) : Bool := (x.fIface == y.fIface) && ((x.fAddr == y.fAddr) && true)
def hdst (acc : List THop) (x : THop) : List THop :=
  match acc.getLast? with
  | none => [x]
  | some y => bif heq x y then acc else acc ++ [x]
def hlt (x y : THop) : Prop := x.fIface < y.fIface ∨ (x.fIface = y.fIface ∧ x.fAddr < y.fAddr)
instance (x y : THop) : Decidable (hlt x y) := by unfold hlt; exact inferInstance
theorem hlt_irr (x : THop) : ¬ hlt x x := fun h => by unfold hlt at h; omega
theorem hlt_trans {x y z : THop} (h : hlt x y) (k : hlt y z) : hlt x z := by unfold hlt at *; omega
end Nv
