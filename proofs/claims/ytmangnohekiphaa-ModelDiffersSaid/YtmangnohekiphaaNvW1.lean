/- What comes in is of the typed data. -/
import Derived.Test.YtmangnohekiphaaProg
import Derived.Test.YtmangnohekiphaaNvV1
import Derived.KernelRfl
set_option maxRecDepth 100000
namespace Nv
open Go Go.Proofs
theorem open_t45 {H : Type} (enc : TypeId × Value → H) (w : World) : Opens enc Try.prog w 45 c_TInterface W_TInterface := by
  intro fuel cs x h hz
  obtain ⟨hl, n, hf⟩ := fields_of Try.underlying45 h hz
  obtain ⟨a0, w0, p0⟩ := field_at hf 0 rfl (off := 0) (sz := 1) (ft := 9) ⟨rfl, by kernel_rfl, rfl⟩ (opens_str2 Try.underlying9)
  obtain ⟨a1, w1, p1⟩ := field_at hf 1 rfl (off := 1) (sz := 1) (ft := 43) ⟨rfl, by kernel_rfl, rfl⟩ (opens_int Try.underlying43)
  obtain ⟨a2, w2, p2⟩ := field_at hf 2 rfl (off := 2) (sz := 1) (ft := 3) ⟨rfl, by kernel_rfl, rfl⟩ (opens_int Try.underlying3)
  obtain ⟨a3, w3, p3⟩ := field_at hf 3 rfl (off := 3) (sz := 1) (ft := 3) ⟨rfl, by kernel_rfl, rfl⟩ (opens_int Try.underlying3)
  obtain ⟨a4, w4, p4⟩ := field_at hf 4 rfl (off := 4) (sz := 1) (ft := 4) ⟨rfl, by kernel_rfl, rfl⟩ (opens_bool Try.underlying4)
  obtain ⟨a5, w5, p5⟩ := field_at hf 5 rfl (off := 5) (sz := 1) (ft := 4) ⟨rfl, by kernel_rfl, rfl⟩ (opens_bool Try.underlying4)
  obtain ⟨a6, w6, p6⟩ := field_at hf 6 rfl (off := 6) (sz := 1) (ft := 3) ⟨rfl, by kernel_rfl, rfl⟩ (opens_int Try.underlying3)
  obtain ⟨a7, w7, p7⟩ := field_at hf 7 rfl (off := 7) (sz := 1) (ft := 3) ⟨rfl, by kernel_rfl, rfl⟩ (opens_int Try.underlying3)
  obtain ⟨a8, w8, p8⟩ := field_at hf 8 rfl (off := 8) (sz := 1) (ft := 4) ⟨rfl, by kernel_rfl, rfl⟩ (opens_bool Try.underlying4)
  obtain ⟨a9, w9, p9⟩ := field_at hf 9 rfl (off := 9) (sz := 1) (ft := 9) ⟨rfl, by kernel_rfl, rfl⟩ (opens_str2 Try.underlying9)
  obtain ⟨a10, w10, p10⟩ := field_at hf 10 rfl (off := 10) (sz := 1) (ft := 9) ⟨rfl, by kernel_rfl, rfl⟩ (opens_str2 Try.underlying9)
  obtain ⟨a11, w11, p11⟩ := field_at hf 11 rfl (off := 11) (sz := 1) (ft := 3) ⟨rfl, by kernel_rfl, rfl⟩ (opens_int Try.underlying3)
  exact ⟨⟨a0, a1, a2, a3, a4, a5, a6, a7, a8, a9, a10, a11⟩, ⟨w0, w1, w2, w3, w4, w5, w6, w7, w8, w9, w10, w11⟩, (p0.cut (p1.cut (p2.cut (p3.cut (p4.cut (p5.cut (p6.cut (p7.cut (p8.cut (p9.cut (p10.cut (p11.cut (.fin (hl.trans (by kernel_rfl)))))))))))))))⟩

theorem open_t47 {H : Type} (enc : TypeId × Value → H) (w : World) : Opens enc Try.prog w 47 c_TPrefix W_TPrefix := by
  intro fuel cs x h hz
  obtain ⟨hl, n, hf⟩ := fields_of Try.underlying47 h hz
  obtain ⟨a0, w0, p0⟩ := field_at hf 0 rfl (off := 0) (sz := 1) (ft := 43) ⟨rfl, by kernel_rfl, rfl⟩ (opens_int Try.underlying43)
  obtain ⟨a1, w1, p1⟩ := field_at hf 1 rfl (off := 1) (sz := 1) (ft := 3) ⟨rfl, by kernel_rfl, rfl⟩ (opens_int Try.underlying3)
  exact ⟨⟨a0, a1⟩, ⟨w0, w1⟩, (p0.cut (p1.cut (.fin (hl.trans (by kernel_rfl)))))⟩

theorem open_t83 {H : Type} (enc : TypeId × Value → H) (w : World) : Opens enc Try.prog w 83 c_TPrefixRule W_TPrefixRule := by
  intro fuel cs x h hz
  obtain ⟨hl, n, hf⟩ := fields_of Try.underlying83 h hz
  obtain ⟨a0, w0, p0⟩ := field_at hf 0 rfl (off := 0) (sz := 1) (ft := 4) ⟨rfl, by kernel_rfl, rfl⟩ (opens_bool Try.underlying4)
  obtain ⟨a1, w1, p1⟩ := field_at hf 1 rfl (off := 1) (sz := 2) (ft := 47) ⟨rfl, by kernel_rfl, rfl⟩ (open_t47 enc w)
  obtain ⟨a2, w2, p2⟩ := field_at hf 2 rfl (off := 3) (sz := 1) (ft := 3) ⟨rfl, by kernel_rfl, rfl⟩ (opens_int Try.underlying3)
  obtain ⟨a3, w3, p3⟩ := field_at hf 3 rfl (off := 4) (sz := 1) (ft := 3) ⟨rfl, by kernel_rfl, rfl⟩ (opens_int Try.underlying3)
  exact ⟨⟨a0, a1, a2, a3⟩, ⟨w0, w1, w2, w3⟩, (p0.cut (p1.cut (p2.cut (p3.cut (.fin (hl.trans (by kernel_rfl)))))))⟩

theorem open_t78 {H : Type} (enc : TypeId × Value → H) (w : World) : Opens enc Try.prog w 78 c_TPrefixList W_TPrefixList := by
  intro fuel cs x h hz
  obtain ⟨hl, n, hf⟩ := fields_of Try.underlying78 h hz
  obtain ⟨a0, w0, p0⟩ := field_at hf 0 rfl (off := 0) (sz := 1) (ft := 9) ⟨rfl, by kernel_rfl, rfl⟩ (opens_str2 Try.underlying9)
  obtain ⟨a1, w1, p1⟩ := field_at hf 1 rfl (off := 1) (sz := 1) (ft := 76) ⟨rfl, by kernel_rfl, rfl⟩ (opens_slice (wd := 5) (by' := 40) Try.underlying76 (by kernel_rfl) (by kernel_rfl) (by decide) (open_t83 enc w))
  exact ⟨⟨a0, a1⟩, ⟨w0, w1⟩, (p0.cut (p1.cut (.fin (hl.trans (by kernel_rfl)))))⟩

theorem open_t88 {H : Type} (enc : TypeId × Value → H) (w : World) : Opens enc Try.prog w 88 c_TClause W_TClause := by
  intro fuel cs x h hz
  obtain ⟨hl, n, hf⟩ := fields_of Try.underlying88 h hz
  obtain ⟨a0, w0, p0⟩ := field_at hf 0 rfl (off := 0) (sz := 1) (ft := 4) ⟨rfl, by kernel_rfl, rfl⟩ (opens_bool Try.underlying4)
  obtain ⟨a1, w1, p1⟩ := field_at hf 1 rfl (off := 1) (sz := 1) (ft := 9) ⟨rfl, by kernel_rfl, rfl⟩ (opens_str2 Try.underlying9)
  obtain ⟨a2, w2, p2⟩ := field_at hf 2 rfl (off := 2) (sz := 1) (ft := 3) ⟨rfl, by kernel_rfl, rfl⟩ (opens_int Try.underlying3)
  obtain ⟨a3, w3, p3⟩ := field_at hf 3 rfl (off := 3) (sz := 1) (ft := 3) ⟨rfl, by kernel_rfl, rfl⟩ (opens_int Try.underlying3)
  obtain ⟨a4, w4, p4⟩ := field_at hf 4 rfl (off := 4) (sz := 1) (ft := 3) ⟨rfl, by kernel_rfl, rfl⟩ (opens_int Try.underlying3)
  obtain ⟨a5, w5, p5⟩ := field_at hf 5 rfl (off := 5) (sz := 1) (ft := 3) ⟨rfl, by kernel_rfl, rfl⟩ (opens_int Try.underlying3)
  obtain ⟨a6, w6, p6⟩ := field_at hf 6 rfl (off := 6) (sz := 1) (ft := 3) ⟨rfl, by kernel_rfl, rfl⟩ (opens_int Try.underlying3)
  exact ⟨⟨a0, a1, a2, a3, a4, a5, a6⟩, ⟨w0, w1, w2, w3, w4, w5, w6⟩, (p0.cut (p1.cut (p2.cut (p3.cut (p4.cut (p5.cut (p6.cut (.fin (hl.trans (by kernel_rfl))))))))))⟩

theorem open_t55 {H : Type} (enc : TypeId × Value → H) (w : World) : Opens enc Try.prog w 55 c_TRouteMap W_TRouteMap := by
  intro fuel cs x h hz
  obtain ⟨hl, n, hf⟩ := fields_of Try.underlying55 h hz
  obtain ⟨a0, w0, p0⟩ := field_at hf 0 rfl (off := 0) (sz := 1) (ft := 9) ⟨rfl, by kernel_rfl, rfl⟩ (opens_str2 Try.underlying9)
  obtain ⟨a1, w1, p1⟩ := field_at hf 1 rfl (off := 1) (sz := 1) (ft := 53) ⟨rfl, by kernel_rfl, rfl⟩ (opens_slice (wd := 7) (by' := 64) Try.underlying53 (by kernel_rfl) (by kernel_rfl) (by decide) (open_t88 enc w))
  exact ⟨⟨a0, a1⟩, ⟨w0, w1⟩, (p0.cut (p1.cut (.fin (hl.trans (by kernel_rfl)))))⟩

theorem open_t93 {H : Type} (enc : TypeId × Value → H) (w : World) : Opens enc Try.prog w 93 c_TWildcard W_TWildcard := by
  intro fuel cs x h hz
  obtain ⟨hl, n, hf⟩ := fields_of Try.underlying93 h hz
  obtain ⟨a0, w0, p0⟩ := field_at hf 0 rfl (off := 0) (sz := 1) (ft := 43) ⟨rfl, by kernel_rfl, rfl⟩ (opens_int Try.underlying43)
  obtain ⟨a1, w1, p1⟩ := field_at hf 1 rfl (off := 1) (sz := 1) (ft := 43) ⟨rfl, by kernel_rfl, rfl⟩ (opens_int Try.underlying43)
  exact ⟨⟨a0, a1⟩, ⟨w0, w1⟩, (p0.cut (p1.cut (.fin (hl.trans (by kernel_rfl)))))⟩

theorem open_t95 {H : Type} (enc : TypeId × Value → H) (w : World) : Opens enc Try.prog w 95 c_TPortRange W_TPortRange := by
  intro fuel cs x h hz
  obtain ⟨hl, n, hf⟩ := fields_of Try.underlying95 h hz
  obtain ⟨a0, w0, p0⟩ := field_at hf 0 rfl (off := 0) (sz := 1) (ft := 3) ⟨rfl, by kernel_rfl, rfl⟩ (opens_int Try.underlying3)
  obtain ⟨a1, w1, p1⟩ := field_at hf 1 rfl (off := 1) (sz := 1) (ft := 3) ⟨rfl, by kernel_rfl, rfl⟩ (opens_int Try.underlying3)
  exact ⟨⟨a0, a1⟩, ⟨w0, w1⟩, (p0.cut (p1.cut (.fin (hl.trans (by kernel_rfl)))))⟩

theorem open_t97 {H : Type} (enc : TypeId × Value → H) (w : World) : Opens enc Try.prog w 97 c_TRule W_TRule := by
  intro fuel cs x h hz
  obtain ⟨hl, n, hf⟩ := fields_of Try.underlying97 h hz
  obtain ⟨a0, w0, p0⟩ := field_at hf 0 rfl (off := 0) (sz := 1) (ft := 4) ⟨rfl, by kernel_rfl, rfl⟩ (opens_bool Try.underlying4)
  obtain ⟨a1, w1, p1⟩ := field_at hf 1 rfl (off := 1) (sz := 1) (ft := 3) ⟨rfl, by kernel_rfl, rfl⟩ (opens_int Try.underlying3)
  obtain ⟨a2, w2, p2⟩ := field_at hf 2 rfl (off := 2) (sz := 2) (ft := 93) ⟨rfl, by kernel_rfl, rfl⟩ (open_t93 enc w)
  obtain ⟨a3, w3, p3⟩ := field_at hf 3 rfl (off := 4) (sz := 2) (ft := 93) ⟨rfl, by kernel_rfl, rfl⟩ (open_t93 enc w)
  obtain ⟨a4, w4, p4⟩ := field_at hf 4 rfl (off := 6) (sz := 2) (ft := 95) ⟨rfl, by kernel_rfl, rfl⟩ (open_t95 enc w)
  obtain ⟨a5, w5, p5⟩ := field_at hf 5 rfl (off := 8) (sz := 2) (ft := 95) ⟨rfl, by kernel_rfl, rfl⟩ (open_t95 enc w)
  exact ⟨⟨a0, a1, a2, a3, a4, a5⟩, ⟨w0, w1, w2, w3, w4, w5⟩, (p0.cut (p1.cut (p2.cut (p3.cut (p4.cut (p5.cut (.fin (hl.trans (by kernel_rfl)))))))))⟩

theorem open_t52 {H : Type} (enc : TypeId × Value → H) (w : World) : Opens enc Try.prog w 52 c_TACL W_TACL := by
  intro fuel cs x h hz
  obtain ⟨hl, n, hf⟩ := fields_of Try.underlying52 h hz
  obtain ⟨a0, w0, p0⟩ := field_at hf 0 rfl (off := 0) (sz := 1) (ft := 9) ⟨rfl, by kernel_rfl, rfl⟩ (opens_str2 Try.underlying9)
  obtain ⟨a1, w1, p1⟩ := field_at hf 1 rfl (off := 1) (sz := 1) (ft := 50) ⟨rfl, by kernel_rfl, rfl⟩ (opens_slice (wd := 10) (by' := 64) Try.underlying50 (by kernel_rfl) (by kernel_rfl) (by decide) (open_t97 enc w))
  exact ⟨⟨a0, a1⟩, ⟨w0, w1⟩, (p0.cut (p1.cut (.fin (hl.trans (by kernel_rfl)))))⟩

theorem open_t101 {H : Type} (enc : TypeId × Value → H) (w : World) : Opens enc Try.prog w 101 c_TTranslation W_TTranslation := by
  intro fuel cs x h hz
  obtain ⟨hl, n, hf⟩ := fields_of Try.underlying101 h hz
  obtain ⟨a0, w0, p0⟩ := field_at hf 0 rfl (off := 0) (sz := 1) (ft := 3) ⟨rfl, by kernel_rfl, rfl⟩ (opens_int Try.underlying3)
  obtain ⟨a1, w1, p1⟩ := field_at hf 1 rfl (off := 1) (sz := 1) (ft := 43) ⟨rfl, by kernel_rfl, rfl⟩ (opens_int Try.underlying43)
  obtain ⟨a2, w2, p2⟩ := field_at hf 2 rfl (off := 2) (sz := 1) (ft := 43) ⟨rfl, by kernel_rfl, rfl⟩ (opens_int Try.underlying43)
  obtain ⟨a3, w3, p3⟩ := field_at hf 3 rfl (off := 3) (sz := 1) (ft := 3) ⟨rfl, by kernel_rfl, rfl⟩ (opens_int Try.underlying3)
  obtain ⟨a4, w4, p4⟩ := field_at hf 4 rfl (off := 4) (sz := 1) (ft := 3) ⟨rfl, by kernel_rfl, rfl⟩ (opens_int Try.underlying3)
  obtain ⟨a5, w5, p5⟩ := field_at hf 5 rfl (off := 5) (sz := 1) (ft := 3) ⟨rfl, by kernel_rfl, rfl⟩ (opens_int Try.underlying3)
  obtain ⟨a6, w6, p6⟩ := field_at hf 6 rfl (off := 6) (sz := 1) (ft := 9) ⟨rfl, by kernel_rfl, rfl⟩ (opens_str2 Try.underlying9)
  obtain ⟨a7, w7, p7⟩ := field_at hf 7 rfl (off := 7) (sz := 1) (ft := 43) ⟨rfl, by kernel_rfl, rfl⟩ (opens_int Try.underlying43)
  obtain ⟨a8, w8, p8⟩ := field_at hf 8 rfl (off := 8) (sz := 1) (ft := 43) ⟨rfl, by kernel_rfl, rfl⟩ (opens_int Try.underlying43)
  exact ⟨⟨a0, a1, a2, a3, a4, a5, a6, a7, a8⟩, ⟨w0, w1, w2, w3, w4, w5, w6, w7, w8⟩, (p0.cut (p1.cut (p2.cut (p3.cut (p4.cut (p5.cut (p6.cut (p7.cut (p8.cut (.fin (hl.trans (by kernel_rfl))))))))))))⟩

theorem open_t104 {H : Type} (enc : TypeId × Value → H) (w : World) : Opens enc Try.prog w 104 c_TStaticRoute W_TStaticRoute := by
  intro fuel cs x h hz
  obtain ⟨hl, n, hf⟩ := fields_of Try.underlying104 h hz
  obtain ⟨a0, w0, p0⟩ := field_at hf 0 rfl (off := 0) (sz := 2) (ft := 47) ⟨rfl, by kernel_rfl, rfl⟩ (open_t47 enc w)
  obtain ⟨a1, w1, p1⟩ := field_at hf 1 rfl (off := 2) (sz := 1) (ft := 43) ⟨rfl, by kernel_rfl, rfl⟩ (opens_int Try.underlying43)
  obtain ⟨a2, w2, p2⟩ := field_at hf 2 rfl (off := 3) (sz := 1) (ft := 9) ⟨rfl, by kernel_rfl, rfl⟩ (opens_str2 Try.underlying9)
  obtain ⟨a3, w3, p3⟩ := field_at hf 3 rfl (off := 4) (sz := 1) (ft := 4) ⟨rfl, by kernel_rfl, rfl⟩ (opens_bool Try.underlying4)
  obtain ⟨a4, w4, p4⟩ := field_at hf 4 rfl (off := 5) (sz := 1) (ft := 3) ⟨rfl, by kernel_rfl, rfl⟩ (opens_int Try.underlying3)
  obtain ⟨a5, w5, p5⟩ := field_at hf 5 rfl (off := 6) (sz := 1) (ft := 3) ⟨rfl, by kernel_rfl, rfl⟩ (opens_int Try.underlying3)
  exact ⟨⟨a0, a1, a2, a3, a4, a5⟩, ⟨w0, w1, w2, w3, w4, w5⟩, (p0.cut (p1.cut (p2.cut (p3.cut (p4.cut (p5.cut (.fin (hl.trans (by kernel_rfl)))))))))⟩

theorem open_t125 {H : Type} (enc : TypeId × Value → H) (w : World) : Opens enc Try.prog w 125 c_TAreaRange W_TAreaRange := by
  intro fuel cs x h hz
  obtain ⟨hl, n, hf⟩ := fields_of Try.underlying125 h hz
  obtain ⟨a0, w0, p0⟩ := field_at hf 0 rfl (off := 0) (sz := 1) (ft := 3) ⟨rfl, by kernel_rfl, rfl⟩ (opens_int Try.underlying3)
  obtain ⟨a1, w1, p1⟩ := field_at hf 1 rfl (off := 1) (sz := 2) (ft := 47) ⟨rfl, by kernel_rfl, rfl⟩ (open_t47 enc w)
  exact ⟨⟨a0, a1⟩, ⟨w0, w1⟩, (p0.cut (p1.cut (.fin (hl.trans (by kernel_rfl)))))⟩

theorem open_t57 {H : Type} (enc : TypeId × Value → H) (w : World) : Opens enc Try.prog w 57 c_TRedist W_TRedist := by
  intro fuel cs x h hz
  obtain ⟨hl, n, hf⟩ := fields_of Try.underlying57 h hz
  obtain ⟨a0, w0, p0⟩ := field_at hf 0 rfl (off := 0) (sz := 1) (ft := 3) ⟨rfl, by kernel_rfl, rfl⟩ (opens_int Try.underlying3)
  obtain ⟨a1, w1, p1⟩ := field_at hf 1 rfl (off := 1) (sz := 1) (ft := 3) ⟨rfl, by kernel_rfl, rfl⟩ (opens_int Try.underlying3)
  obtain ⟨a2, w2, p2⟩ := field_at hf 2 rfl (off := 2) (sz := 1) (ft := 3) ⟨rfl, by kernel_rfl, rfl⟩ (opens_int Try.underlying3)
  obtain ⟨a3, w3, p3⟩ := field_at hf 3 rfl (off := 3) (sz := 1) (ft := 9) ⟨rfl, by kernel_rfl, rfl⟩ (opens_str2 Try.underlying9)
  obtain ⟨a4, w4, p4⟩ := field_at hf 4 rfl (off := 4) (sz := 1) (ft := 3) ⟨rfl, by kernel_rfl, rfl⟩ (opens_int Try.underlying3)
  exact ⟨⟨a0, a1, a2, a3, a4⟩, ⟨w0, w1, w2, w3, w4⟩, (p0.cut (p1.cut (p2.cut (p3.cut (p4.cut (.fin (hl.trans (by kernel_rfl))))))))⟩

theorem open_t31 {H : Type} (enc : TypeId × Value → H) (w : World) : Opens enc Try.prog w 31 c_TLinkState W_TLinkState := by
  intro fuel cs x h hz
  obtain ⟨hl, n, hf⟩ := fields_of Try.underlying31 h hz
  obtain ⟨a0, w0, p0⟩ := field_at hf 0 rfl (off := 0) (sz := 1) (ft := 4) ⟨rfl, by kernel_rfl, rfl⟩ (opens_bool Try.underlying4)
  obtain ⟨a1, w1, p1⟩ := field_at hf 1 rfl (off := 1) (sz := 1) (ft := 3) ⟨rfl, by kernel_rfl, rfl⟩ (opens_int Try.underlying3)
  obtain ⟨a2, w2, p2⟩ := field_at hf 2 rfl (off := 2) (sz := 1) (ft := 28) ⟨rfl, by kernel_rfl, rfl⟩ (opens_slice (wd := 3) (by' := 24) Try.underlying28 (by kernel_rfl) (by kernel_rfl) (by decide) (open_t125 enc w))
  obtain ⟨a3, w3, p3⟩ := field_at hf 3 rfl (off := 3) (sz := 1) (ft := 29) ⟨rfl, by kernel_rfl, rfl⟩ (opens_slice (wd := 5) (by' := 48) Try.underlying29 (by kernel_rfl) (by kernel_rfl) (by decide) (open_t57 enc w))
  exact ⟨⟨a0, a1, a2, a3⟩, ⟨w0, w1, w2, w3⟩, (p0.cut (p1.cut (p2.cut (p3.cut (.fin (hl.trans (by kernel_rfl)))))))⟩

theorem open_t33 {H : Type} (enc : TypeId × Value → H) (w : World) : Opens enc Try.prog w 33 c_TDistanceVector W_TDistanceVector := by
  intro fuel cs x h hz
  obtain ⟨hl, n, hf⟩ := fields_of Try.underlying33 h hz
  obtain ⟨a0, w0, p0⟩ := field_at hf 0 rfl (off := 0) (sz := 1) (ft := 4) ⟨rfl, by kernel_rfl, rfl⟩ (opens_bool Try.underlying4)
  obtain ⟨a1, w1, p1⟩ := field_at hf 1 rfl (off := 1) (sz := 1) (ft := 3) ⟨rfl, by kernel_rfl, rfl⟩ (opens_int Try.underlying3)
  obtain ⟨a2, w2, p2⟩ := field_at hf 2 rfl (off := 2) (sz := 1) (ft := 9) ⟨rfl, by kernel_rfl, rfl⟩ (opens_str2 Try.underlying9)
  obtain ⟨a3, w3, p3⟩ := field_at hf 3 rfl (off := 3) (sz := 1) (ft := 9) ⟨rfl, by kernel_rfl, rfl⟩ (opens_str2 Try.underlying9)
  obtain ⟨a4, w4, p4⟩ := field_at hf 4 rfl (off := 4) (sz := 1) (ft := 29) ⟨rfl, by kernel_rfl, rfl⟩ (opens_slice (wd := 5) (by' := 48) Try.underlying29 (by kernel_rfl) (by kernel_rfl) (by decide) (open_t57 enc w))
  exact ⟨⟨a0, a1, a2, a3, a4⟩, ⟨w0, w1, w2, w3, w4⟩, (p0.cut (p1.cut (p2.cut (p3.cut (p4.cut (.fin (hl.trans (by kernel_rfl))))))))⟩

theorem open_t129 {H : Type} (enc : TypeId × Value → H) (w : World) : Opens enc Try.prog w 129 c_TNeighbor W_TNeighbor := by
  intro fuel cs x h hz
  obtain ⟨hl, n, hf⟩ := fields_of Try.underlying129 h hz
  obtain ⟨a0, w0, p0⟩ := field_at hf 0 rfl (off := 0) (sz := 1) (ft := 43) ⟨rfl, by kernel_rfl, rfl⟩ (opens_int Try.underlying43)
  obtain ⟨a1, w1, p1⟩ := field_at hf 1 rfl (off := 1) (sz := 1) (ft := 3) ⟨rfl, by kernel_rfl, rfl⟩ (opens_int Try.underlying3)
  obtain ⟨a2, w2, p2⟩ := field_at hf 2 rfl (off := 2) (sz := 1) (ft := 9) ⟨rfl, by kernel_rfl, rfl⟩ (opens_str2 Try.underlying9)
  obtain ⟨a3, w3, p3⟩ := field_at hf 3 rfl (off := 3) (sz := 1) (ft := 9) ⟨rfl, by kernel_rfl, rfl⟩ (opens_str2 Try.underlying9)
  exact ⟨⟨a0, a1, a2, a3⟩, ⟨w0, w1, w2, w3⟩, (p0.cut (p1.cut (p2.cut (p3.cut (.fin (hl.trans (by kernel_rfl)))))))⟩

theorem open_t49 {H : Type} (enc : TypeId × Value → H) (w : World) : Opens enc Try.prog w 49 c_TAggregate W_TAggregate := by
  intro fuel cs x h hz
  obtain ⟨hl, n, hf⟩ := fields_of Try.underlying49 h hz
  obtain ⟨a0, w0, p0⟩ := field_at hf 0 rfl (off := 0) (sz := 2) (ft := 47) ⟨rfl, by kernel_rfl, rfl⟩ (open_t47 enc w)
  obtain ⟨a1, w1, p1⟩ := field_at hf 1 rfl (off := 2) (sz := 1) (ft := 4) ⟨rfl, by kernel_rfl, rfl⟩ (opens_bool Try.underlying4)
  exact ⟨⟨a0, a1⟩, ⟨w0, w1⟩, (p0.cut (p1.cut (.fin (hl.trans (by kernel_rfl)))))⟩

theorem open_t134 {H : Type} (enc : TypeId × Value → H) (w : World) : Opens enc Try.prog w 134 c_TCondition W_TCondition := by
  intro fuel cs x h hz
  obtain ⟨hl, n, hf⟩ := fields_of Try.underlying134 h hz
  obtain ⟨a0, w0, p0⟩ := field_at hf 0 rfl (off := 0) (sz := 2) (ft := 47) ⟨rfl, by kernel_rfl, rfl⟩ (open_t47 enc w)
  obtain ⟨a1, w1, p1⟩ := field_at hf 1 rfl (off := 2) (sz := 2) (ft := 47) ⟨rfl, by kernel_rfl, rfl⟩ (open_t47 enc w)
  obtain ⟨a2, w2, p2⟩ := field_at hf 2 rfl (off := 4) (sz := 1) (ft := 4) ⟨rfl, by kernel_rfl, rfl⟩ (opens_bool Try.underlying4)
  exact ⟨⟨a0, a1, a2⟩, ⟨w0, w1, w2⟩, (p0.cut (p1.cut (p2.cut (.fin (hl.trans (by kernel_rfl))))))⟩

theorem open_t39 {H : Type} (enc : TypeId × Value → H) (w : World) : Opens enc Try.prog w 39 c_TPathVector W_TPathVector := by
  intro fuel cs x h hz
  obtain ⟨hl, n, hf⟩ := fields_of Try.underlying39 h hz
  obtain ⟨a0, w0, p0⟩ := field_at hf 0 rfl (off := 0) (sz := 1) (ft := 4) ⟨rfl, by kernel_rfl, rfl⟩ (opens_bool Try.underlying4)
  obtain ⟨a1, w1, p1⟩ := field_at hf 1 rfl (off := 1) (sz := 1) (ft := 3) ⟨rfl, by kernel_rfl, rfl⟩ (opens_int Try.underlying3)
  obtain ⟨a2, w2, p2⟩ := field_at hf 2 rfl (off := 2) (sz := 1) (ft := 3) ⟨rfl, by kernel_rfl, rfl⟩ (opens_int Try.underlying3)
  obtain ⟨a3, w3, p3⟩ := field_at hf 3 rfl (off := 3) (sz := 1) (ft := 34) ⟨rfl, by kernel_rfl, rfl⟩ (opens_slice (wd := 4) (by' := 48) Try.underlying34 (by kernel_rfl) (by kernel_rfl) (by decide) (open_t129 enc w))
  obtain ⟨a4, w4, p4⟩ := field_at hf 4 rfl (off := 4) (sz := 1) (ft := 35) ⟨rfl, by kernel_rfl, rfl⟩ (opens_slice (wd := 2) (by' := 16) Try.underlying35 (by kernel_rfl) (by kernel_rfl) (by decide) (open_t47 enc w))
  obtain ⟨a5, w5, p5⟩ := field_at hf 5 rfl (off := 5) (sz := 1) (ft := 36) ⟨rfl, by kernel_rfl, rfl⟩ (opens_slice (wd := 3) (by' := 24) Try.underlying36 (by kernel_rfl) (by kernel_rfl) (by decide) (open_t49 enc w))
  obtain ⟨a6, w6, p6⟩ := field_at hf 6 rfl (off := 6) (sz := 1) (ft := 37) ⟨rfl, by kernel_rfl, rfl⟩ (opens_slice (wd := 5) (by' := 40) Try.underlying37 (by kernel_rfl) (by kernel_rfl) (by decide) (open_t134 enc w))
  obtain ⟨a7, w7, p7⟩ := field_at hf 7 rfl (off := 7) (sz := 1) (ft := 29) ⟨rfl, by kernel_rfl, rfl⟩ (opens_slice (wd := 5) (by' := 48) Try.underlying29 (by kernel_rfl) (by kernel_rfl) (by decide) (open_t57 enc w))
  exact ⟨⟨a0, a1, a2, a3, a4, a5, a6, a7⟩, ⟨w0, w1, w2, w3, w4, w5, w6, w7⟩, (p0.cut (p1.cut (p2.cut (p3.cut (p4.cut (p5.cut (p6.cut (p7.cut (.fin (hl.trans (by kernel_rfl)))))))))))⟩

theorem open_t41 {H : Type} (enc : TypeId × Value → H) (w : World) : Opens enc Try.prog w 41 c_TRouter W_TRouter := by
  intro fuel cs x h hz
  obtain ⟨hl, n, hf⟩ := fields_of Try.underlying41 h hz
  obtain ⟨a0, w0, p0⟩ := field_at hf 0 rfl (off := 0) (sz := 1) (ft := 9) ⟨rfl, by kernel_rfl, rfl⟩ (opens_str2 Try.underlying9)
  obtain ⟨a1, w1, p1⟩ := field_at hf 1 rfl (off := 1) (sz := 1) (ft := 3) ⟨rfl, by kernel_rfl, rfl⟩ (opens_int Try.underlying3)
  obtain ⟨a2, w2, p2⟩ := field_at hf 2 rfl (off := 2) (sz := 1) (ft := 22) ⟨rfl, by kernel_rfl, rfl⟩ (opens_slice (wd := 12) (by' := 112) Try.underlying22 (by kernel_rfl) (by kernel_rfl) (by decide) (open_t45 enc w))
  obtain ⟨a3, w3, p3⟩ := field_at hf 3 rfl (off := 3) (sz := 1) (ft := 23) ⟨rfl, by kernel_rfl, rfl⟩ (opens_slice (wd := 2) (by' := 40) Try.underlying23 (by kernel_rfl) (by kernel_rfl) (by decide) (open_t78 enc w))
  obtain ⟨a4, w4, p4⟩ := field_at hf 4 rfl (off := 4) (sz := 1) (ft := 24) ⟨rfl, by kernel_rfl, rfl⟩ (opens_slice (wd := 2) (by' := 40) Try.underlying24 (by kernel_rfl) (by kernel_rfl) (by decide) (open_t55 enc w))
  obtain ⟨a5, w5, p5⟩ := field_at hf 5 rfl (off := 5) (sz := 1) (ft := 25) ⟨rfl, by kernel_rfl, rfl⟩ (opens_slice (wd := 2) (by' := 40) Try.underlying25 (by kernel_rfl) (by kernel_rfl) (by decide) (open_t52 enc w))
  obtain ⟨a6, w6, p6⟩ := field_at hf 6 rfl (off := 6) (sz := 1) (ft := 26) ⟨rfl, by kernel_rfl, rfl⟩ (opens_slice (wd := 9) (by' := 64) Try.underlying26 (by kernel_rfl) (by kernel_rfl) (by decide) (open_t101 enc w))
  obtain ⟨a7, w7, p7⟩ := field_at hf 7 rfl (off := 7) (sz := 1) (ft := 27) ⟨rfl, by kernel_rfl, rfl⟩ (opens_slice (wd := 7) (by' := 64) Try.underlying27 (by kernel_rfl) (by kernel_rfl) (by decide) (open_t104 enc w))
  obtain ⟨a8, w8, p8⟩ := field_at hf 8 rfl (off := 8) (sz := 4) (ft := 31) ⟨rfl, by kernel_rfl, rfl⟩ (open_t31 enc w)
  obtain ⟨a9, w9, p9⟩ := field_at hf 9 rfl (off := 12) (sz := 5) (ft := 33) ⟨rfl, by kernel_rfl, rfl⟩ (open_t33 enc w)
  obtain ⟨a10, w10, p10⟩ := field_at hf 10 rfl (off := 17) (sz := 8) (ft := 39) ⟨rfl, by kernel_rfl, rfl⟩ (open_t39 enc w)
  exact ⟨⟨a0, a1, a2, a3, a4, a5, a6, a7, a8, a9, a10⟩, ⟨w0, w1, w2, w3, w4, w5, w6, w7, w8, w9, w10⟩, (p0.cut (p1.cut (p2.cut (p3.cut (p4.cut (p5.cut (p6.cut (p7.cut (p8.cut (p9.cut (p10.cut (.fin (hl.trans (by kernel_rfl))))))))))))))⟩

end Nv
