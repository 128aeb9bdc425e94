/- What comes in is of the typed data. -/
import Derived.Test.YtpggnodnpjejlaaDoorProg
import Derived.Test.YtpggnodnpjejlaaDoorNvV1
import Derived.KernelRfl
set_option maxRecDepth 100000
namespace Nv
open Go Go.Proofs
theorem open_t45 {H : Type} (enc : TypeId × Value → H) (w : World) : Opens enc Tryd.prog w 45 c_TInterval W_TInterval := by
  intro fuel cs x h hz
  obtain ⟨hl, n, hf⟩ := fields_of Tryd.underlying45 h hz
  obtain ⟨a0, w0, p0⟩ := field_at hf 0 rfl (off := 0) (sz := 1) (ft := 23) ⟨rfl, by kernel_rfl, rfl⟩ (opens_int Tryd.underlying23)
  obtain ⟨a1, w1, p1⟩ := field_at hf 1 rfl (off := 1) (sz := 1) (ft := 23) ⟨rfl, by kernel_rfl, rfl⟩ (opens_int Tryd.underlying23)
  exact ⟨⟨a0, a1⟩, ⟨w0, w1⟩, (p0.cut (p1.cut (.fin (hl.trans (by kernel_rfl)))))⟩
end Nv
