/- What comes in is of the typed data. -/
import Derived.Test.YtkonldpliejgpaaProg
import Derived.Test.YtkonldpliejgpaaNvV1
import Derived.KernelRfl
set_option maxRecDepth 100000
namespace Nv
open Go Go.Proofs
theorem open_t24 {H : Type} (enc : TypeId × Value → H) (w : World) : Opens enc Try.prog w 24 c_TPrefix W_TPrefix := by
  intro fuel cs x h hz
  obtain ⟨hl, n, hf⟩ := fields_of Try.underlying24 h hz
  obtain ⟨a0, w0, p0⟩ := field_at hf 0 rfl (off := 0) (sz := 1) (ft := 22) ⟨rfl, by kernel_rfl, rfl⟩ (opens_int Try.underlying22)
  obtain ⟨a1, w1, p1⟩ := field_at hf 1 rfl (off := 1) (sz := 1) (ft := 3) ⟨rfl, by kernel_rfl, rfl⟩ (opens_int Try.underlying3)
  exact ⟨⟨a0, a1⟩, ⟨w0, w1⟩, (p0.cut (p1.cut (.fin (hl.trans (by kernel_rfl)))))⟩
theorem open_t39 {H : Type} (enc : TypeId × Value → H) (w : World) : Opens enc Try.prog w 39 c_THop W_THop := by
  intro fuel cs x h hz
  obtain ⟨hl, n, hf⟩ := fields_of Try.underlying39 h hz
  obtain ⟨a0, w0, p0⟩ := field_at hf 0 rfl (off := 0) (sz := 1) (ft := 3) ⟨rfl, by kernel_rfl, rfl⟩ (opens_int Try.underlying3)
  obtain ⟨a1, w1, p1⟩ := field_at hf 1 rfl (off := 1) (sz := 1) (ft := 22) ⟨rfl, by kernel_rfl, rfl⟩ (opens_int Try.underlying22)
  exact ⟨⟨a0, a1⟩, ⟨w0, w1⟩, (p0.cut (p1.cut (.fin (hl.trans (by kernel_rfl)))))⟩
theorem open_t28 {H : Type} (enc : TypeId × Value → H) (w : World) : Opens enc Try.prog w 28 c_TRoute W_TRoute := by
  intro fuel cs x h hz
  obtain ⟨hl, n, hf⟩ := fields_of Try.underlying28 h hz
  obtain ⟨a0, w0, p0⟩ := field_at hf 0 rfl (off := 0) (sz := 2) (ft := 24) ⟨rfl, by kernel_rfl, rfl⟩ (open_t24 enc w)
  obtain ⟨a1, w1, p1⟩ := field_at hf 1 rfl (off := 2) (sz := 1) (ft := 3) ⟨rfl, by kernel_rfl, rfl⟩ (opens_int Try.underlying3)
  obtain ⟨a2, w2, p2⟩ := field_at hf 2 rfl (off := 3) (sz := 1) (ft := 3) ⟨rfl, by kernel_rfl, rfl⟩ (opens_int Try.underlying3)
  obtain ⟨a3, w3, p3⟩ := field_at hf 3 rfl (off := 4) (sz := 1) (ft := 3) ⟨rfl, by kernel_rfl, rfl⟩ (opens_int Try.underlying3)
  obtain ⟨a4, w4, p4⟩ := field_at hf 4 rfl (off := 5) (sz := 1) (ft := 3) ⟨rfl, by kernel_rfl, rfl⟩ (opens_int Try.underlying3)
  obtain ⟨a5, w5, p5⟩ := field_at hf 5 rfl (off := 6) (sz := 1) (ft := 3) ⟨rfl, by kernel_rfl, rfl⟩ (opens_int Try.underlying3)
  obtain ⟨a6, w6, p6⟩ := field_at hf 6 rfl (off := 7) (sz := 1) (ft := 3) ⟨rfl, by kernel_rfl, rfl⟩ (opens_int Try.underlying3)
  obtain ⟨a7, w7, p7⟩ := field_at hf 7 rfl (off := 8) (sz := 1) (ft := 3) ⟨rfl, by kernel_rfl, rfl⟩ (opens_int Try.underlying3)
  obtain ⟨a8, w8, p8⟩ := field_at hf 8 rfl (off := 9) (sz := 1) (ft := 25) ⟨rfl, by kernel_rfl, rfl⟩ (opens_slice (wd := 1) (by' := 8) Try.underlying25 (by kernel_rfl) (by kernel_rfl) (by decide) (opens_int Try.underlying3))
  obtain ⟨a9, w9, p9⟩ := field_at hf 9 rfl (off := 10) (sz := 1) (ft := 22) ⟨rfl, by kernel_rfl, rfl⟩ (opens_int Try.underlying22)
  obtain ⟨a10, w10, p10⟩ := field_at hf 10 rfl (off := 11) (sz := 1) (ft := 22) ⟨rfl, by kernel_rfl, rfl⟩ (opens_int Try.underlying22)
  obtain ⟨a11, w11, p11⟩ := field_at hf 11 rfl (off := 12) (sz := 1) (ft := 26) ⟨rfl, by kernel_rfl, rfl⟩ (opens_slice (wd := 2) (by' := 16) Try.underlying26 (by kernel_rfl) (by kernel_rfl) (by decide) (open_t39 enc w))
  obtain ⟨a12, w12, p12⟩ := field_at hf 12 rfl (off := 13) (sz := 1) (ft := 4) ⟨rfl, by kernel_rfl, rfl⟩ (opens_bool Try.underlying4)
  exact ⟨⟨a0, a1, a2, a3, a4, a5, a6, a7, a8, a9, a10, a11, a12⟩, ⟨w0, w1, w2, w3, w4, w5, w6, w7, w8, w9, w10, w11, w12⟩, (p0.cut (p1.cut (p2.cut (p3.cut (p4.cut (p5.cut (p6.cut (p7.cut (p8.cut (p9.cut (p10.cut (p11.cut (p12.cut (.fin (hl.trans (by kernel_rfl))))))))))))))))⟩
end Nv
