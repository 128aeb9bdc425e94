/- What comes in is of the typed data. -/
import Derived.Test.YtenfloomkjecjaaGreatProg
import Derived.Test.YtenfloomkjecjaaGreatNvV1
import Derived.KernelRfl
set_option maxRecDepth 100000
namespace Nv
open Go Go.Proofs
theorem open_t45 {H : Type} (enc : TypeId × Value → H) (w : World) : Opens enc Tryz.prog w 45 c_TPrefix W_TPrefix := by
  intro fuel cs x h hz
  obtain ⟨hl, n, hf⟩ := fields_of Tryz.underlying45 h hz
  obtain ⟨a0, w0, p0⟩ := field_at hf 0 rfl (off := 0) (sz := 1) (ft := 43) ⟨rfl, by kernel_rfl, rfl⟩ (opens_int Tryz.underlying43)
  obtain ⟨a1, w1, p1⟩ := field_at hf 1 rfl (off := 1) (sz := 1) (ft := 3) ⟨rfl, by kernel_rfl, rfl⟩ (opens_int Tryz.underlying3)
  exact ⟨⟨a0, a1⟩, ⟨w0, w1⟩, (p0.cut (p1.cut (.fin (hl.trans (by kernel_rfl)))))⟩
theorem open_t49 {H : Type} (enc : TypeId × Value → H) (w : World) : Opens enc Tryz.prog w 49 c_THop W_THop := by
  intro fuel cs x h hz
  obtain ⟨hl, n, hf⟩ := fields_of Tryz.underlying49 h hz
  obtain ⟨a0, w0, p0⟩ := field_at hf 0 rfl (off := 0) (sz := 1) (ft := 3) ⟨rfl, by kernel_rfl, rfl⟩ (opens_int Tryz.underlying3)
  obtain ⟨a1, w1, p1⟩ := field_at hf 1 rfl (off := 1) (sz := 1) (ft := 43) ⟨rfl, by kernel_rfl, rfl⟩ (opens_int Tryz.underlying43)
  exact ⟨⟨a0, a1⟩, ⟨w0, w1⟩, (p0.cut (p1.cut (.fin (hl.trans (by kernel_rfl)))))⟩
theorem open_t47 {H : Type} (enc : TypeId × Value → H) (w : World) : Opens enc Tryz.prog w 47 c_TForward W_TForward := by
  intro fuel cs x h hz
  obtain ⟨hl, n, hf⟩ := fields_of Tryz.underlying47 h hz
  obtain ⟨a0, w0, p0⟩ := field_at hf 0 rfl (off := 0) (sz := 2) (ft := 45) ⟨rfl, by kernel_rfl, rfl⟩ (open_t45 enc w)
  obtain ⟨a1, w1, p1⟩ := field_at hf 1 rfl (off := 2) (sz := 1) (ft := 39) ⟨rfl, by kernel_rfl, rfl⟩ (opens_slice (wd := 2) (by' := 16) Tryz.underlying39 (by kernel_rfl) (by kernel_rfl) (by decide) (open_t49 enc w))
  obtain ⟨a2, w2, p2⟩ := field_at hf 2 rfl (off := 3) (sz := 1) (ft := 4) ⟨rfl, by kernel_rfl, rfl⟩ (opens_bool Tryz.underlying4)
  exact ⟨⟨a0, a1, a2⟩, ⟨w0, w1, w2⟩, (p0.cut (p1.cut (p2.cut (.fin (hl.trans (by kernel_rfl))))))⟩
end Nv
