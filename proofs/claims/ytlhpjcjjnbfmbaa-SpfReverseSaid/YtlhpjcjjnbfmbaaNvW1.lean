/- What comes in is of the typed data. -/
import Derived.Test.YtlhpjcjjnbfmbaaProg
import Derived.Test.YtlhpjcjjnbfmbaaNvV1
import Derived.KernelRfl
set_option maxRecDepth 100000
namespace Nv
open Go Go.Proofs
theorem open_t37 {H : Type} (enc : TypeId × Value → H) (w : World) : Opens enc Try.prog w 37 c_THop W_THop := by
  intro fuel cs x h hz
  obtain ⟨hl, n, hf⟩ := fields_of Try.underlying37 h hz
  obtain ⟨a0, w0, p0⟩ := field_at hf 0 rfl (off := 0) (sz := 1) (ft := 3) ⟨rfl, by kernel_rfl, rfl⟩ (opens_int Try.underlying3)
  obtain ⟨a1, w1, p1⟩ := field_at hf 1 rfl (off := 1) (sz := 1) (ft := 35) ⟨rfl, by kernel_rfl, rfl⟩ (opens_int Try.underlying35)
  exact ⟨⟨a0, a1⟩, ⟨w0, w1⟩, (p0.cut (p1.cut (.fin (hl.trans (by kernel_rfl)))))⟩
theorem open_t39 {H : Type} (enc : TypeId × Value → H) (w : World) : Opens enc Try.prog w 39 c_TEdge W_TEdge := by
  intro fuel cs x h hz
  obtain ⟨hl, n, hf⟩ := fields_of Try.underlying39 h hz
  obtain ⟨a0, w0, p0⟩ := field_at hf 0 rfl (off := 0) (sz := 1) (ft := 3) ⟨rfl, by kernel_rfl, rfl⟩ (opens_int Try.underlying3)
  obtain ⟨a1, w1, p1⟩ := field_at hf 1 rfl (off := 1) (sz := 1) (ft := 3) ⟨rfl, by kernel_rfl, rfl⟩ (opens_int Try.underlying3)
  obtain ⟨a2, w2, p2⟩ := field_at hf 2 rfl (off := 2) (sz := 1) (ft := 3) ⟨rfl, by kernel_rfl, rfl⟩ (opens_int Try.underlying3)
  obtain ⟨a3, w3, p3⟩ := field_at hf 3 rfl (off := 3) (sz := 2) (ft := 37) ⟨rfl, by kernel_rfl, rfl⟩ (open_t37 enc w)
  exact ⟨⟨a0, a1, a2, a3⟩, ⟨w0, w1, w2, w3⟩, (p0.cut (p1.cut (p2.cut (p3.cut (.fin (hl.trans (by kernel_rfl)))))))⟩
end Nv
