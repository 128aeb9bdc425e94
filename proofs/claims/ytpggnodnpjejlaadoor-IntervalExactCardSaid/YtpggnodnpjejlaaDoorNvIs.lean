/- Subtract of the program: what it gives. No condition. -/
import Derived.Test.YtpggnodnpjejlaaDoorNvId
namespace Nv
open Go Go.Proofs
theorem subt_eq {a b : List TInterval} (ha : a.length ≤ 90000) (hb : b.length ≤ 90000) (ua : ∀ t ∈ a, U32 t) (ub : ∀ t ∈ b, U32 t) : M.interval_Subtract a b = some (isect (nrm a) (nrm (compl 0 (nrm b)))) := by
  have lb := nrm_len b
  have lc := compl_len (nrm b) 0
  unfold M.interval_Subtract
  rw [compl_eq (by omega) ub, Option.bind_some, inter_eq (by omega) (by omega) ua (compl_u32 (nrm_ok b).1 (nrm_u32 ub)), Option.bind_some]
theorem sub_is {a b : List TInterval} (ua : ∀ t ∈ a, U32 t) (ub : ∀ t ∈ b, U32 t) : Can (isect (nrm a) (nrm (compl 0 (nrm b)))) ∧ ∀ x, imem (isect (nrm a) (nrm (compl 0 (nrm b)))) x ↔ imem a x ∧ ¬ imem b x := by
  obtain ⟨h1, h2⟩ := int_is a (compl 0 (nrm b))
  refine ⟨h1, fun x => ?_⟩
  rw [h2, (com_is ub).2]
  exact ⟨fun h => ⟨h.1, h.2.2.2⟩, fun h => ⟨h.1, (imem_u32 ua h.1).1, (imem_u32 ua h.1).2, h.2⟩⟩
end Nv
