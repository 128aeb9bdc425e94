/- Size: the lengths of the canonical list's intervals, added. No condition. -/
import Derived.Test.YtpggnodnpjejlaaDoorNvI2
namespace Nv
open Go Go.Proofs
def isz : List TInterval → Int
  | [] => 0
  | t :: l => (t.fHi - t.fLo + 1) + isz l
theorem isz_le : ∀ {l : List TInterval} {c : Int}, Can l → (∀ t ∈ l, U32 t) → (∀ t ∈ l, c ≤ t.fLo) → c ≤ 4294967296 → isz l ≤ 4294967296 - c
  | [], c, _, _, _, h => by unfold isz; omega
  | t :: l, c, hc, hu, hl, h => by
    have u := hu t List.mem_cons_self
    unfold U32 at u
    have h1 := can_cons.1 hc
    have := hl t List.mem_cons_self
    have := isz_le (l := l) (c := t.fHi + 1) h1.2.2 (fun t ht => hu t (List.mem_cons_of_mem _ ht)) (fun j hj => by have := h1.2.1 j hj; omega) (by omega)
    unfold isz; omega
end Nv
