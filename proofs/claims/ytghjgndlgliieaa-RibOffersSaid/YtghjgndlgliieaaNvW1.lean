/- What comes in is of the typed data. -/
import Derived.Test.YtghjgndlgliieaaProg
import Derived.Test.YtghjgndlgliieaaNvV1
import Derived.KernelRfl
set_option maxRecDepth 100000
namespace Nv
open Go Go.Proofs
theorem open_t115 {H : Type} (enc : TypeId × Value → H) (w : World) : Opens enc Try.prog w 115 c_TInterface W_TInterface := by
  intro fuel cs x h hz
  obtain ⟨hl, n, hf⟩ := fields_of Try.underlying115 h hz
  obtain ⟨a0, w0, p0⟩ := field_at hf 0 rfl (off := 0) (sz := 1) (ft := 9) ⟨rfl, by kernel_rfl, rfl⟩ (opens_str Try.underlying9)
  obtain ⟨a1, w1, p1⟩ := field_at hf 1 rfl (off := 1) (sz := 1) (ft := 25) ⟨rfl, by kernel_rfl, rfl⟩ (opens_int Try.underlying25)
  obtain ⟨a2, w2, p2⟩ := field_at hf 2 rfl (off := 2) (sz := 1) (ft := 3) ⟨rfl, by kernel_rfl, rfl⟩ (opens_int Try.underlying3)
  obtain ⟨a3, w3, p3⟩ := field_at hf 3 rfl (off := 3) (sz := 1) (ft := 3) ⟨rfl, by kernel_rfl, rfl⟩ (opens_int Try.underlying3)
  obtain ⟨a4, w4, p4⟩ := field_at hf 4 rfl (off := 4) (sz := 1) (ft := 4) ⟨rfl, by kernel_rfl, rfl⟩ (opens_bool Try.underlying4)
  obtain ⟨a5, w5, p5⟩ := field_at hf 5 rfl (off := 5) (sz := 1) (ft := 4) ⟨rfl, by kernel_rfl, rfl⟩ (opens_bool Try.underlying4)
  obtain ⟨a6, w6, p6⟩ := field_at hf 6 rfl (off := 6) (sz := 1) (ft := 3) ⟨rfl, by kernel_rfl, rfl⟩ (opens_int Try.underlying3)
  obtain ⟨a7, w7, p7⟩ := field_at hf 7 rfl (off := 7) (sz := 1) (ft := 3) ⟨rfl, by kernel_rfl, rfl⟩ (opens_int Try.underlying3)
  obtain ⟨a8, w8, p8⟩ := field_at hf 8 rfl (off := 8) (sz := 1) (ft := 4) ⟨rfl, by kernel_rfl, rfl⟩ (opens_bool Try.underlying4)
  obtain ⟨a9, w9, p9⟩ := field_at hf 9 rfl (off := 9) (sz := 1) (ft := 9) ⟨rfl, by kernel_rfl, rfl⟩ (opens_str Try.underlying9)
  obtain ⟨a10, w10, p10⟩ := field_at hf 10 rfl (off := 10) (sz := 1) (ft := 9) ⟨rfl, by kernel_rfl, rfl⟩ (opens_str Try.underlying9)
  obtain ⟨a11, w11, p11⟩ := field_at hf 11 rfl (off := 11) (sz := 1) (ft := 3) ⟨rfl, by kernel_rfl, rfl⟩ (opens_int Try.underlying3)
  exact ⟨⟨a0, a1, a2, a3, a4, a5, a6, a7, a8, a9, a10, a11⟩, ⟨w0, w1, w2, w3, w4, w5, w6, w7, w8, w9, w10, w11⟩, (p0.cut (p1.cut (p2.cut (p3.cut (p4.cut (p5.cut (p6.cut (p7.cut (p8.cut (p9.cut (p10.cut (p11.cut (.fin (hl.trans (by kernel_rfl)))))))))))))))⟩
theorem open_t27 {H : Type} (enc : TypeId × Value → H) (w : World) : Opens enc Try.prog w 27 c_TPrefix W_TPrefix := by
  intro fuel cs x h hz
  obtain ⟨hl, n, hf⟩ := fields_of Try.underlying27 h hz
  obtain ⟨a0, w0, p0⟩ := field_at hf 0 rfl (off := 0) (sz := 1) (ft := 25) ⟨rfl, by kernel_rfl, rfl⟩ (opens_int Try.underlying25)
  obtain ⟨a1, w1, p1⟩ := field_at hf 1 rfl (off := 1) (sz := 1) (ft := 3) ⟨rfl, by kernel_rfl, rfl⟩ (opens_int Try.underlying3)
  exact ⟨⟨a0, a1⟩, ⟨w0, w1⟩, (p0.cut (p1.cut (.fin (hl.trans (by kernel_rfl)))))⟩
theorem open_t120 {H : Type} (enc : TypeId × Value → H) (w : World) : Opens enc Try.prog w 120 c_TPrefixRule W_TPrefixRule := by
  intro fuel cs x h hz
  obtain ⟨hl, n, hf⟩ := fields_of Try.underlying120 h hz
  obtain ⟨a0, w0, p0⟩ := field_at hf 0 rfl (off := 0) (sz := 1) (ft := 4) ⟨rfl, by kernel_rfl, rfl⟩ (opens_bool Try.underlying4)
  obtain ⟨a1, w1, p1⟩ := field_at hf 1 rfl (off := 1) (sz := 2) (ft := 27) ⟨rfl, by kernel_rfl, rfl⟩ (open_t27 enc w)
  obtain ⟨a2, w2, p2⟩ := field_at hf 2 rfl (off := 3) (sz := 1) (ft := 3) ⟨rfl, by kernel_rfl, rfl⟩ (opens_int Try.underlying3)
  obtain ⟨a3, w3, p3⟩ := field_at hf 3 rfl (off := 4) (sz := 1) (ft := 3) ⟨rfl, by kernel_rfl, rfl⟩ (opens_int Try.underlying3)
  exact ⟨⟨a0, a1, a2, a3⟩, ⟨w0, w1, w2, w3⟩, (p0.cut (p1.cut (p2.cut (p3.cut (.fin (hl.trans (by kernel_rfl)))))))⟩
theorem open_t81 {H : Type} (enc : TypeId × Value → H) (w : World) : Opens enc Try.prog w 81 c_TPrefixList W_TPrefixList := by
  intro fuel cs x h hz
  obtain ⟨hl, n, hf⟩ := fields_of Try.underlying81 h hz
  obtain ⟨a0, w0, p0⟩ := field_at hf 0 rfl (off := 0) (sz := 1) (ft := 9) ⟨rfl, by kernel_rfl, rfl⟩ (opens_str Try.underlying9)
  obtain ⟨a1, w1, p1⟩ := field_at hf 1 rfl (off := 1) (sz := 1) (ft := 79) ⟨rfl, by kernel_rfl, rfl⟩ (opens_slice (wd := 5) (by' := 40) Try.underlying79 (by kernel_rfl) (by kernel_rfl) (by decide) (open_t120 enc w))
  exact ⟨⟨a0, a1⟩, ⟨w0, w1⟩, (p0.cut (p1.cut (.fin (hl.trans (by kernel_rfl)))))⟩
theorem open_t100 {H : Type} (enc : TypeId × Value → H) (w : World) : Opens enc Try.prog w 100 c_TClause W_TClause := by
  intro fuel cs x h hz
  obtain ⟨hl, n, hf⟩ := fields_of Try.underlying100 h hz
  obtain ⟨a0, w0, p0⟩ := field_at hf 0 rfl (off := 0) (sz := 1) (ft := 4) ⟨rfl, by kernel_rfl, rfl⟩ (opens_bool Try.underlying4)
  obtain ⟨a1, w1, p1⟩ := field_at hf 1 rfl (off := 1) (sz := 1) (ft := 9) ⟨rfl, by kernel_rfl, rfl⟩ (opens_str Try.underlying9)
  obtain ⟨a2, w2, p2⟩ := field_at hf 2 rfl (off := 2) (sz := 1) (ft := 3) ⟨rfl, by kernel_rfl, rfl⟩ (opens_int Try.underlying3)
  obtain ⟨a3, w3, p3⟩ := field_at hf 3 rfl (off := 3) (sz := 1) (ft := 3) ⟨rfl, by kernel_rfl, rfl⟩ (opens_int Try.underlying3)
  obtain ⟨a4, w4, p4⟩ := field_at hf 4 rfl (off := 4) (sz := 1) (ft := 3) ⟨rfl, by kernel_rfl, rfl⟩ (opens_int Try.underlying3)
  obtain ⟨a5, w5, p5⟩ := field_at hf 5 rfl (off := 5) (sz := 1) (ft := 3) ⟨rfl, by kernel_rfl, rfl⟩ (opens_int Try.underlying3)
  obtain ⟨a6, w6, p6⟩ := field_at hf 6 rfl (off := 6) (sz := 1) (ft := 3) ⟨rfl, by kernel_rfl, rfl⟩ (opens_int Try.underlying3)
  exact ⟨⟨a0, a1, a2, a3, a4, a5, a6⟩, ⟨w0, w1, w2, w3, w4, w5, w6⟩, (p0.cut (p1.cut (p2.cut (p3.cut (p4.cut (p5.cut (p6.cut (.fin (hl.trans (by kernel_rfl))))))))))⟩
theorem open_t84 {H : Type} (enc : TypeId × Value → H) (w : World) : Opens enc Try.prog w 84 c_TRouteMap W_TRouteMap := by
  intro fuel cs x h hz
  obtain ⟨hl, n, hf⟩ := fields_of Try.underlying84 h hz
  obtain ⟨a0, w0, p0⟩ := field_at hf 0 rfl (off := 0) (sz := 1) (ft := 9) ⟨rfl, by kernel_rfl, rfl⟩ (opens_str Try.underlying9)
  obtain ⟨a1, w1, p1⟩ := field_at hf 1 rfl (off := 1) (sz := 1) (ft := 82) ⟨rfl, by kernel_rfl, rfl⟩ (opens_slice (wd := 7) (by' := 64) Try.underlying82 (by kernel_rfl) (by kernel_rfl) (by decide) (open_t100 enc w))
  exact ⟨⟨a0, a1⟩, ⟨w0, w1⟩, (p0.cut (p1.cut (.fin (hl.trans (by kernel_rfl)))))⟩
theorem open_t123 {H : Type} (enc : TypeId × Value → H) (w : World) : Opens enc Try.prog w 123 c_TWildcard W_TWildcard := by
  intro fuel cs x h hz
  obtain ⟨hl, n, hf⟩ := fields_of Try.underlying123 h hz
  obtain ⟨a0, w0, p0⟩ := field_at hf 0 rfl (off := 0) (sz := 1) (ft := 25) ⟨rfl, by kernel_rfl, rfl⟩ (opens_int Try.underlying25)
  obtain ⟨a1, w1, p1⟩ := field_at hf 1 rfl (off := 1) (sz := 1) (ft := 25) ⟨rfl, by kernel_rfl, rfl⟩ (opens_int Try.underlying25)
  exact ⟨⟨a0, a1⟩, ⟨w0, w1⟩, (p0.cut (p1.cut (.fin (hl.trans (by kernel_rfl)))))⟩
theorem open_t125 {H : Type} (enc : TypeId × Value → H) (w : World) : Opens enc Try.prog w 125 c_TPortRange W_TPortRange := by
  intro fuel cs x h hz
  obtain ⟨hl, n, hf⟩ := fields_of Try.underlying125 h hz
  obtain ⟨a0, w0, p0⟩ := field_at hf 0 rfl (off := 0) (sz := 1) (ft := 3) ⟨rfl, by kernel_rfl, rfl⟩ (opens_int Try.underlying3)
  obtain ⟨a1, w1, p1⟩ := field_at hf 1 rfl (off := 1) (sz := 1) (ft := 3) ⟨rfl, by kernel_rfl, rfl⟩ (opens_int Try.underlying3)
  exact ⟨⟨a0, a1⟩, ⟨w0, w1⟩, (p0.cut (p1.cut (.fin (hl.trans (by kernel_rfl)))))⟩
theorem open_t127 {H : Type} (enc : TypeId × Value → H) (w : World) : Opens enc Try.prog w 127 c_TRule W_TRule := by
  intro fuel cs x h hz
  obtain ⟨hl, n, hf⟩ := fields_of Try.underlying127 h hz
  obtain ⟨a0, w0, p0⟩ := field_at hf 0 rfl (off := 0) (sz := 1) (ft := 4) ⟨rfl, by kernel_rfl, rfl⟩ (opens_bool Try.underlying4)
  obtain ⟨a1, w1, p1⟩ := field_at hf 1 rfl (off := 1) (sz := 1) (ft := 3) ⟨rfl, by kernel_rfl, rfl⟩ (opens_int Try.underlying3)
  obtain ⟨a2, w2, p2⟩ := field_at hf 2 rfl (off := 2) (sz := 2) (ft := 123) ⟨rfl, by kernel_rfl, rfl⟩ (open_t123 enc w)
  obtain ⟨a3, w3, p3⟩ := field_at hf 3 rfl (off := 4) (sz := 2) (ft := 123) ⟨rfl, by kernel_rfl, rfl⟩ (open_t123 enc w)
  obtain ⟨a4, w4, p4⟩ := field_at hf 4 rfl (off := 6) (sz := 2) (ft := 125) ⟨rfl, by kernel_rfl, rfl⟩ (open_t125 enc w)
  obtain ⟨a5, w5, p5⟩ := field_at hf 5 rfl (off := 8) (sz := 2) (ft := 125) ⟨rfl, by kernel_rfl, rfl⟩ (open_t125 enc w)
  exact ⟨⟨a0, a1, a2, a3, a4, a5⟩, ⟨w0, w1, w2, w3, w4, w5⟩, (p0.cut (p1.cut (p2.cut (p3.cut (p4.cut (p5.cut (.fin (hl.trans (by kernel_rfl)))))))))⟩
theorem open_t87 {H : Type} (enc : TypeId × Value → H) (w : World) : Opens enc Try.prog w 87 c_TACL W_TACL := by
  intro fuel cs x h hz
  obtain ⟨hl, n, hf⟩ := fields_of Try.underlying87 h hz
  obtain ⟨a0, w0, p0⟩ := field_at hf 0 rfl (off := 0) (sz := 1) (ft := 9) ⟨rfl, by kernel_rfl, rfl⟩ (opens_str Try.underlying9)
  obtain ⟨a1, w1, p1⟩ := field_at hf 1 rfl (off := 1) (sz := 1) (ft := 85) ⟨rfl, by kernel_rfl, rfl⟩ (opens_slice (wd := 10) (by' := 64) Try.underlying85 (by kernel_rfl) (by kernel_rfl) (by decide) (open_t127 enc w))
  exact ⟨⟨a0, a1⟩, ⟨w0, w1⟩, (p0.cut (p1.cut (.fin (hl.trans (by kernel_rfl)))))⟩
theorem open_t129 {H : Type} (enc : TypeId × Value → H) (w : World) : Opens enc Try.prog w 129 c_TTranslation W_TTranslation := by
  intro fuel cs x h hz
  obtain ⟨hl, n, hf⟩ := fields_of Try.underlying129 h hz
  obtain ⟨a0, w0, p0⟩ := field_at hf 0 rfl (off := 0) (sz := 1) (ft := 3) ⟨rfl, by kernel_rfl, rfl⟩ (opens_int Try.underlying3)
  obtain ⟨a1, w1, p1⟩ := field_at hf 1 rfl (off := 1) (sz := 1) (ft := 25) ⟨rfl, by kernel_rfl, rfl⟩ (opens_int Try.underlying25)
  obtain ⟨a2, w2, p2⟩ := field_at hf 2 rfl (off := 2) (sz := 1) (ft := 25) ⟨rfl, by kernel_rfl, rfl⟩ (opens_int Try.underlying25)
  obtain ⟨a3, w3, p3⟩ := field_at hf 3 rfl (off := 3) (sz := 1) (ft := 3) ⟨rfl, by kernel_rfl, rfl⟩ (opens_int Try.underlying3)
  obtain ⟨a4, w4, p4⟩ := field_at hf 4 rfl (off := 4) (sz := 1) (ft := 3) ⟨rfl, by kernel_rfl, rfl⟩ (opens_int Try.underlying3)
  obtain ⟨a5, w5, p5⟩ := field_at hf 5 rfl (off := 5) (sz := 1) (ft := 3) ⟨rfl, by kernel_rfl, rfl⟩ (opens_int Try.underlying3)
  obtain ⟨a6, w6, p6⟩ := field_at hf 6 rfl (off := 6) (sz := 1) (ft := 9) ⟨rfl, by kernel_rfl, rfl⟩ (opens_str Try.underlying9)
  obtain ⟨a7, w7, p7⟩ := field_at hf 7 rfl (off := 7) (sz := 1) (ft := 25) ⟨rfl, by kernel_rfl, rfl⟩ (opens_int Try.underlying25)
  obtain ⟨a8, w8, p8⟩ := field_at hf 8 rfl (off := 8) (sz := 1) (ft := 25) ⟨rfl, by kernel_rfl, rfl⟩ (opens_int Try.underlying25)
  exact ⟨⟨a0, a1, a2, a3, a4, a5, a6, a7, a8⟩, ⟨w0, w1, w2, w3, w4, w5, w6, w7, w8⟩, (p0.cut (p1.cut (p2.cut (p3.cut (p4.cut (p5.cut (p6.cut (p7.cut (p8.cut (.fin (hl.trans (by kernel_rfl))))))))))))⟩
theorem open_t131 {H : Type} (enc : TypeId × Value → H) (w : World) : Opens enc Try.prog w 131 c_TStaticRoute W_TStaticRoute := by
  intro fuel cs x h hz
  obtain ⟨hl, n, hf⟩ := fields_of Try.underlying131 h hz
  obtain ⟨a0, w0, p0⟩ := field_at hf 0 rfl (off := 0) (sz := 2) (ft := 27) ⟨rfl, by kernel_rfl, rfl⟩ (open_t27 enc w)
  obtain ⟨a1, w1, p1⟩ := field_at hf 1 rfl (off := 2) (sz := 1) (ft := 25) ⟨rfl, by kernel_rfl, rfl⟩ (opens_int Try.underlying25)
  obtain ⟨a2, w2, p2⟩ := field_at hf 2 rfl (off := 3) (sz := 1) (ft := 9) ⟨rfl, by kernel_rfl, rfl⟩ (opens_str Try.underlying9)
  obtain ⟨a3, w3, p3⟩ := field_at hf 3 rfl (off := 4) (sz := 1) (ft := 4) ⟨rfl, by kernel_rfl, rfl⟩ (opens_bool Try.underlying4)
  obtain ⟨a4, w4, p4⟩ := field_at hf 4 rfl (off := 5) (sz := 1) (ft := 3) ⟨rfl, by kernel_rfl, rfl⟩ (opens_int Try.underlying3)
  obtain ⟨a5, w5, p5⟩ := field_at hf 5 rfl (off := 6) (sz := 1) (ft := 3) ⟨rfl, by kernel_rfl, rfl⟩ (opens_int Try.underlying3)
  exact ⟨⟨a0, a1, a2, a3, a4, a5⟩, ⟨w0, w1, w2, w3, w4, w5⟩, (p0.cut (p1.cut (p2.cut (p3.cut (p4.cut (p5.cut (.fin (hl.trans (by kernel_rfl)))))))))⟩
theorem open_t134 {H : Type} (enc : TypeId × Value → H) (w : World) : Opens enc Try.prog w 134 c_TAreaRange W_TAreaRange := by
  intro fuel cs x h hz
  obtain ⟨hl, n, hf⟩ := fields_of Try.underlying134 h hz
  obtain ⟨a0, w0, p0⟩ := field_at hf 0 rfl (off := 0) (sz := 1) (ft := 3) ⟨rfl, by kernel_rfl, rfl⟩ (opens_int Try.underlying3)
  obtain ⟨a1, w1, p1⟩ := field_at hf 1 rfl (off := 1) (sz := 2) (ft := 27) ⟨rfl, by kernel_rfl, rfl⟩ (open_t27 enc w)
  exact ⟨⟨a0, a1⟩, ⟨w0, w1⟩, (p0.cut (p1.cut (.fin (hl.trans (by kernel_rfl)))))⟩
theorem open_t69 {H : Type} (enc : TypeId × Value → H) (w : World) : Opens enc Try.prog w 69 c_TRedist W_TRedist := by
  intro fuel cs x h hz
  obtain ⟨hl, n, hf⟩ := fields_of Try.underlying69 h hz
  obtain ⟨a0, w0, p0⟩ := field_at hf 0 rfl (off := 0) (sz := 1) (ft := 3) ⟨rfl, by kernel_rfl, rfl⟩ (opens_int Try.underlying3)
  obtain ⟨a1, w1, p1⟩ := field_at hf 1 rfl (off := 1) (sz := 1) (ft := 3) ⟨rfl, by kernel_rfl, rfl⟩ (opens_int Try.underlying3)
  obtain ⟨a2, w2, p2⟩ := field_at hf 2 rfl (off := 2) (sz := 1) (ft := 3) ⟨rfl, by kernel_rfl, rfl⟩ (opens_int Try.underlying3)
  obtain ⟨a3, w3, p3⟩ := field_at hf 3 rfl (off := 3) (sz := 1) (ft := 9) ⟨rfl, by kernel_rfl, rfl⟩ (opens_str Try.underlying9)
  obtain ⟨a4, w4, p4⟩ := field_at hf 4 rfl (off := 4) (sz := 1) (ft := 3) ⟨rfl, by kernel_rfl, rfl⟩ (opens_int Try.underlying3)
  exact ⟨⟨a0, a1, a2, a3, a4⟩, ⟨w0, w1, w2, w3, w4⟩, (p0.cut (p1.cut (p2.cut (p3.cut (p4.cut (.fin (hl.trans (by kernel_rfl))))))))⟩
theorem open_t51 {H : Type} (enc : TypeId × Value → H) (w : World) : Opens enc Try.prog w 51 c_TLinkState W_TLinkState := by
  intro fuel cs x h hz
  obtain ⟨hl, n, hf⟩ := fields_of Try.underlying51 h hz
  obtain ⟨a0, w0, p0⟩ := field_at hf 0 rfl (off := 0) (sz := 1) (ft := 4) ⟨rfl, by kernel_rfl, rfl⟩ (opens_bool Try.underlying4)
  obtain ⟨a1, w1, p1⟩ := field_at hf 1 rfl (off := 1) (sz := 1) (ft := 3) ⟨rfl, by kernel_rfl, rfl⟩ (opens_int Try.underlying3)
  obtain ⟨a2, w2, p2⟩ := field_at hf 2 rfl (off := 2) (sz := 1) (ft := 48) ⟨rfl, by kernel_rfl, rfl⟩ (opens_slice (wd := 3) (by' := 24) Try.underlying48 (by kernel_rfl) (by kernel_rfl) (by decide) (open_t134 enc w))
  obtain ⟨a3, w3, p3⟩ := field_at hf 3 rfl (off := 3) (sz := 1) (ft := 49) ⟨rfl, by kernel_rfl, rfl⟩ (opens_slice (wd := 5) (by' := 48) Try.underlying49 (by kernel_rfl) (by kernel_rfl) (by decide) (open_t69 enc w))
  exact ⟨⟨a0, a1, a2, a3⟩, ⟨w0, w1, w2, w3⟩, (p0.cut (p1.cut (p2.cut (p3.cut (.fin (hl.trans (by kernel_rfl)))))))⟩
theorem open_t53 {H : Type} (enc : TypeId × Value → H) (w : World) : Opens enc Try.prog w 53 c_TDistanceVector W_TDistanceVector := by
  intro fuel cs x h hz
  obtain ⟨hl, n, hf⟩ := fields_of Try.underlying53 h hz
  obtain ⟨a0, w0, p0⟩ := field_at hf 0 rfl (off := 0) (sz := 1) (ft := 4) ⟨rfl, by kernel_rfl, rfl⟩ (opens_bool Try.underlying4)
  obtain ⟨a1, w1, p1⟩ := field_at hf 1 rfl (off := 1) (sz := 1) (ft := 3) ⟨rfl, by kernel_rfl, rfl⟩ (opens_int Try.underlying3)
  obtain ⟨a2, w2, p2⟩ := field_at hf 2 rfl (off := 2) (sz := 1) (ft := 9) ⟨rfl, by kernel_rfl, rfl⟩ (opens_str Try.underlying9)
  obtain ⟨a3, w3, p3⟩ := field_at hf 3 rfl (off := 3) (sz := 1) (ft := 9) ⟨rfl, by kernel_rfl, rfl⟩ (opens_str Try.underlying9)
  obtain ⟨a4, w4, p4⟩ := field_at hf 4 rfl (off := 4) (sz := 1) (ft := 49) ⟨rfl, by kernel_rfl, rfl⟩ (opens_slice (wd := 5) (by' := 48) Try.underlying49 (by kernel_rfl) (by kernel_rfl) (by decide) (open_t69 enc w))
  exact ⟨⟨a0, a1, a2, a3, a4⟩, ⟨w0, w1, w2, w3, w4⟩, (p0.cut (p1.cut (p2.cut (p3.cut (p4.cut (.fin (hl.trans (by kernel_rfl))))))))⟩
theorem open_t145 {H : Type} (enc : TypeId × Value → H) (w : World) : Opens enc Try.prog w 145 c_TNeighbor W_TNeighbor := by
  intro fuel cs x h hz
  obtain ⟨hl, n, hf⟩ := fields_of Try.underlying145 h hz
  obtain ⟨a0, w0, p0⟩ := field_at hf 0 rfl (off := 0) (sz := 1) (ft := 25) ⟨rfl, by kernel_rfl, rfl⟩ (opens_int Try.underlying25)
  obtain ⟨a1, w1, p1⟩ := field_at hf 1 rfl (off := 1) (sz := 1) (ft := 3) ⟨rfl, by kernel_rfl, rfl⟩ (opens_int Try.underlying3)
  obtain ⟨a2, w2, p2⟩ := field_at hf 2 rfl (off := 2) (sz := 1) (ft := 9) ⟨rfl, by kernel_rfl, rfl⟩ (opens_str Try.underlying9)
  obtain ⟨a3, w3, p3⟩ := field_at hf 3 rfl (off := 3) (sz := 1) (ft := 9) ⟨rfl, by kernel_rfl, rfl⟩ (opens_str Try.underlying9)
  exact ⟨⟨a0, a1, a2, a3⟩, ⟨w0, w1, w2, w3⟩, (p0.cut (p1.cut (p2.cut (p3.cut (.fin (hl.trans (by kernel_rfl)))))))⟩
theorem open_t147 {H : Type} (enc : TypeId × Value → H) (w : World) : Opens enc Try.prog w 147 c_TAggregate W_TAggregate := by
  intro fuel cs x h hz
  obtain ⟨hl, n, hf⟩ := fields_of Try.underlying147 h hz
  obtain ⟨a0, w0, p0⟩ := field_at hf 0 rfl (off := 0) (sz := 2) (ft := 27) ⟨rfl, by kernel_rfl, rfl⟩ (open_t27 enc w)
  obtain ⟨a1, w1, p1⟩ := field_at hf 1 rfl (off := 2) (sz := 1) (ft := 4) ⟨rfl, by kernel_rfl, rfl⟩ (opens_bool Try.underlying4)
  exact ⟨⟨a0, a1⟩, ⟨w0, w1⟩, (p0.cut (p1.cut (.fin (hl.trans (by kernel_rfl)))))⟩
theorem open_t149 {H : Type} (enc : TypeId × Value → H) (w : World) : Opens enc Try.prog w 149 c_TCondition W_TCondition := by
  intro fuel cs x h hz
  obtain ⟨hl, n, hf⟩ := fields_of Try.underlying149 h hz
  obtain ⟨a0, w0, p0⟩ := field_at hf 0 rfl (off := 0) (sz := 2) (ft := 27) ⟨rfl, by kernel_rfl, rfl⟩ (open_t27 enc w)
  obtain ⟨a1, w1, p1⟩ := field_at hf 1 rfl (off := 2) (sz := 2) (ft := 27) ⟨rfl, by kernel_rfl, rfl⟩ (open_t27 enc w)
  obtain ⟨a2, w2, p2⟩ := field_at hf 2 rfl (off := 4) (sz := 1) (ft := 4) ⟨rfl, by kernel_rfl, rfl⟩ (opens_bool Try.underlying4)
  exact ⟨⟨a0, a1, a2⟩, ⟨w0, w1, w2⟩, (p0.cut (p1.cut (p2.cut (.fin (hl.trans (by kernel_rfl))))))⟩
theorem open_t59 {H : Type} (enc : TypeId × Value → H) (w : World) : Opens enc Try.prog w 59 c_TPathVector W_TPathVector := by
  intro fuel cs x h hz
  obtain ⟨hl, n, hf⟩ := fields_of Try.underlying59 h hz
  obtain ⟨a0, w0, p0⟩ := field_at hf 0 rfl (off := 0) (sz := 1) (ft := 4) ⟨rfl, by kernel_rfl, rfl⟩ (opens_bool Try.underlying4)
  obtain ⟨a1, w1, p1⟩ := field_at hf 1 rfl (off := 1) (sz := 1) (ft := 3) ⟨rfl, by kernel_rfl, rfl⟩ (opens_int Try.underlying3)
  obtain ⟨a2, w2, p2⟩ := field_at hf 2 rfl (off := 2) (sz := 1) (ft := 3) ⟨rfl, by kernel_rfl, rfl⟩ (opens_int Try.underlying3)
  obtain ⟨a3, w3, p3⟩ := field_at hf 3 rfl (off := 3) (sz := 1) (ft := 54) ⟨rfl, by kernel_rfl, rfl⟩ (opens_slice (wd := 4) (by' := 48) Try.underlying54 (by kernel_rfl) (by kernel_rfl) (by decide) (open_t145 enc w))
  obtain ⟨a4, w4, p4⟩ := field_at hf 4 rfl (off := 4) (sz := 1) (ft := 55) ⟨rfl, by kernel_rfl, rfl⟩ (opens_slice (wd := 2) (by' := 16) Try.underlying55 (by kernel_rfl) (by kernel_rfl) (by decide) (open_t27 enc w))
  obtain ⟨a5, w5, p5⟩ := field_at hf 5 rfl (off := 5) (sz := 1) (ft := 56) ⟨rfl, by kernel_rfl, rfl⟩ (opens_slice (wd := 3) (by' := 24) Try.underlying56 (by kernel_rfl) (by kernel_rfl) (by decide) (open_t147 enc w))
  obtain ⟨a6, w6, p6⟩ := field_at hf 6 rfl (off := 6) (sz := 1) (ft := 57) ⟨rfl, by kernel_rfl, rfl⟩ (opens_slice (wd := 5) (by' := 40) Try.underlying57 (by kernel_rfl) (by kernel_rfl) (by decide) (open_t149 enc w))
  obtain ⟨a7, w7, p7⟩ := field_at hf 7 rfl (off := 7) (sz := 1) (ft := 49) ⟨rfl, by kernel_rfl, rfl⟩ (opens_slice (wd := 5) (by' := 48) Try.underlying49 (by kernel_rfl) (by kernel_rfl) (by decide) (open_t69 enc w))
  exact ⟨⟨a0, a1, a2, a3, a4, a5, a6, a7⟩, ⟨w0, w1, w2, w3, w4, w5, w6, w7⟩, (p0.cut (p1.cut (p2.cut (p3.cut (p4.cut (p5.cut (p6.cut (p7.cut (.fin (hl.trans (by kernel_rfl)))))))))))⟩
theorem open_t61 {H : Type} (enc : TypeId × Value → H) (w : World) : Opens enc Try.prog w 61 c_TRouter W_TRouter := by
  intro fuel cs x h hz
  obtain ⟨hl, n, hf⟩ := fields_of Try.underlying61 h hz
  obtain ⟨a0, w0, p0⟩ := field_at hf 0 rfl (off := 0) (sz := 1) (ft := 9) ⟨rfl, by kernel_rfl, rfl⟩ (opens_str Try.underlying9)
  obtain ⟨a1, w1, p1⟩ := field_at hf 1 rfl (off := 1) (sz := 1) (ft := 3) ⟨rfl, by kernel_rfl, rfl⟩ (opens_int Try.underlying3)
  obtain ⟨a2, w2, p2⟩ := field_at hf 2 rfl (off := 2) (sz := 1) (ft := 42) ⟨rfl, by kernel_rfl, rfl⟩ (opens_slice (wd := 12) (by' := 112) Try.underlying42 (by kernel_rfl) (by kernel_rfl) (by decide) (open_t115 enc w))
  obtain ⟨a3, w3, p3⟩ := field_at hf 3 rfl (off := 3) (sz := 1) (ft := 43) ⟨rfl, by kernel_rfl, rfl⟩ (opens_slice (wd := 2) (by' := 40) Try.underlying43 (by kernel_rfl) (by kernel_rfl) (by decide) (open_t81 enc w))
  obtain ⟨a4, w4, p4⟩ := field_at hf 4 rfl (off := 4) (sz := 1) (ft := 44) ⟨rfl, by kernel_rfl, rfl⟩ (opens_slice (wd := 2) (by' := 40) Try.underlying44 (by kernel_rfl) (by kernel_rfl) (by decide) (open_t84 enc w))
  obtain ⟨a5, w5, p5⟩ := field_at hf 5 rfl (off := 5) (sz := 1) (ft := 45) ⟨rfl, by kernel_rfl, rfl⟩ (opens_slice (wd := 2) (by' := 40) Try.underlying45 (by kernel_rfl) (by kernel_rfl) (by decide) (open_t87 enc w))
  obtain ⟨a6, w6, p6⟩ := field_at hf 6 rfl (off := 6) (sz := 1) (ft := 46) ⟨rfl, by kernel_rfl, rfl⟩ (opens_slice (wd := 9) (by' := 64) Try.underlying46 (by kernel_rfl) (by kernel_rfl) (by decide) (open_t129 enc w))
  obtain ⟨a7, w7, p7⟩ := field_at hf 7 rfl (off := 7) (sz := 1) (ft := 47) ⟨rfl, by kernel_rfl, rfl⟩ (opens_slice (wd := 7) (by' := 64) Try.underlying47 (by kernel_rfl) (by kernel_rfl) (by decide) (open_t131 enc w))
  obtain ⟨a8, w8, p8⟩ := field_at hf 8 rfl (off := 8) (sz := 4) (ft := 51) ⟨rfl, by kernel_rfl, rfl⟩ (open_t51 enc w)
  obtain ⟨a9, w9, p9⟩ := field_at hf 9 rfl (off := 12) (sz := 5) (ft := 53) ⟨rfl, by kernel_rfl, rfl⟩ (open_t53 enc w)
  obtain ⟨a10, w10, p10⟩ := field_at hf 10 rfl (off := 17) (sz := 8) (ft := 59) ⟨rfl, by kernel_rfl, rfl⟩ (open_t59 enc w)
  exact ⟨⟨a0, a1, a2, a3, a4, a5, a6, a7, a8, a9, a10⟩, ⟨w0, w1, w2, w3, w4, w5, w6, w7, w8, w9, w10⟩, (p0.cut (p1.cut (p2.cut (p3.cut (p4.cut (p5.cut (p6.cut (p7.cut (p8.cut (p9.cut (p10.cut (.fin (hl.trans (by kernel_rfl))))))))))))))⟩
theorem open_t78 {H : Type} (enc : TypeId × Value → H) (w : World) : Opens enc Try.prog w 78 c_THop W_THop := by
  intro fuel cs x h hz
  obtain ⟨hl, n, hf⟩ := fields_of Try.underlying78 h hz
  obtain ⟨a0, w0, p0⟩ := field_at hf 0 rfl (off := 0) (sz := 1) (ft := 3) ⟨rfl, by kernel_rfl, rfl⟩ (opens_int Try.underlying3)
  obtain ⟨a1, w1, p1⟩ := field_at hf 1 rfl (off := 1) (sz := 1) (ft := 25) ⟨rfl, by kernel_rfl, rfl⟩ (opens_int Try.underlying25)
  exact ⟨⟨a0, a1⟩, ⟨w0, w1⟩, (p0.cut (p1.cut (.fin (hl.trans (by kernel_rfl)))))⟩
theorem open_t31 {H : Type} (enc : TypeId × Value → H) (w : World) : Opens enc Try.prog w 31 c_TRoute W_TRoute := by
  intro fuel cs x h hz
  obtain ⟨hl, n, hf⟩ := fields_of Try.underlying31 h hz
  obtain ⟨a0, w0, p0⟩ := field_at hf 0 rfl (off := 0) (sz := 2) (ft := 27) ⟨rfl, by kernel_rfl, rfl⟩ (open_t27 enc w)
  obtain ⟨a1, w1, p1⟩ := field_at hf 1 rfl (off := 2) (sz := 1) (ft := 3) ⟨rfl, by kernel_rfl, rfl⟩ (opens_int Try.underlying3)
  obtain ⟨a2, w2, p2⟩ := field_at hf 2 rfl (off := 3) (sz := 1) (ft := 3) ⟨rfl, by kernel_rfl, rfl⟩ (opens_int Try.underlying3)
  obtain ⟨a3, w3, p3⟩ := field_at hf 3 rfl (off := 4) (sz := 1) (ft := 3) ⟨rfl, by kernel_rfl, rfl⟩ (opens_int Try.underlying3)
  obtain ⟨a4, w4, p4⟩ := field_at hf 4 rfl (off := 5) (sz := 1) (ft := 3) ⟨rfl, by kernel_rfl, rfl⟩ (opens_int Try.underlying3)
  obtain ⟨a5, w5, p5⟩ := field_at hf 5 rfl (off := 6) (sz := 1) (ft := 3) ⟨rfl, by kernel_rfl, rfl⟩ (opens_int Try.underlying3)
  obtain ⟨a6, w6, p6⟩ := field_at hf 6 rfl (off := 7) (sz := 1) (ft := 3) ⟨rfl, by kernel_rfl, rfl⟩ (opens_int Try.underlying3)
  obtain ⟨a7, w7, p7⟩ := field_at hf 7 rfl (off := 8) (sz := 1) (ft := 3) ⟨rfl, by kernel_rfl, rfl⟩ (opens_int Try.underlying3)
  obtain ⟨a8, w8, p8⟩ := field_at hf 8 rfl (off := 9) (sz := 1) (ft := 28) ⟨rfl, by kernel_rfl, rfl⟩ (opens_slice (wd := 1) (by' := 8) Try.underlying28 (by kernel_rfl) (by kernel_rfl) (by decide) (opens_int Try.underlying3))
  obtain ⟨a9, w9, p9⟩ := field_at hf 9 rfl (off := 10) (sz := 1) (ft := 25) ⟨rfl, by kernel_rfl, rfl⟩ (opens_int Try.underlying25)
  obtain ⟨a10, w10, p10⟩ := field_at hf 10 rfl (off := 11) (sz := 1) (ft := 25) ⟨rfl, by kernel_rfl, rfl⟩ (opens_int Try.underlying25)
  obtain ⟨a11, w11, p11⟩ := field_at hf 11 rfl (off := 12) (sz := 1) (ft := 29) ⟨rfl, by kernel_rfl, rfl⟩ (opens_slice (wd := 2) (by' := 16) Try.underlying29 (by kernel_rfl) (by kernel_rfl) (by decide) (open_t78 enc w))
  obtain ⟨a12, w12, p12⟩ := field_at hf 12 rfl (off := 13) (sz := 1) (ft := 4) ⟨rfl, by kernel_rfl, rfl⟩ (opens_bool Try.underlying4)
  exact ⟨⟨a0, a1, a2, a3, a4, a5, a6, a7, a8, a9, a10, a11, a12⟩, ⟨w0, w1, w2, w3, w4, w5, w6, w7, w8, w9, w10, w11, w12⟩, (p0.cut (p1.cut (p2.cut (p3.cut (p4.cut (p5.cut (p6.cut (p7.cut (p8.cut (p9.cut (p10.cut (p11.cut (p12.cut (.fin (hl.trans (by kernel_rfl))))))))))))))))⟩
end Nv
