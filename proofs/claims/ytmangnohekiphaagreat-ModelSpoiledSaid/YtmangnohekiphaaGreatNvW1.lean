/- What comes in is of the typed data. -/
import Derived.Test.YtmangnohekiphaaGreatProg
import Derived.Test.YtmangnohekiphaaGreatNvV1
import Derived.KernelRfl
set_option maxRecDepth 100000
namespace Nv
open Go Go.Proofs
theorem open_t48 {H : Type} (enc : TypeId × Value → H) (w : World) : Opens enc Tryz.prog w 48 c_TInterface W_TInterface := by
  intro fuel cs x h hz
  obtain ⟨hl, n, hf⟩ := fields_of Tryz.underlying48 h hz
  obtain ⟨a0, w0, p0⟩ := field_at hf 0 rfl (off := 0) (sz := 1) (ft := 9) ⟨rfl, by kernel_rfl, rfl⟩ (opens_str Tryz.underlying9)
  obtain ⟨a1, w1, p1⟩ := field_at hf 1 rfl (off := 1) (sz := 1) (ft := 46) ⟨rfl, by kernel_rfl, rfl⟩ (opens_int Tryz.underlying46)
  obtain ⟨a2, w2, p2⟩ := field_at hf 2 rfl (off := 2) (sz := 1) (ft := 3) ⟨rfl, by kernel_rfl, rfl⟩ (opens_int Tryz.underlying3)
  obtain ⟨a3, w3, p3⟩ := field_at hf 3 rfl (off := 3) (sz := 1) (ft := 3) ⟨rfl, by kernel_rfl, rfl⟩ (opens_int Tryz.underlying3)
  obtain ⟨a4, w4, p4⟩ := field_at hf 4 rfl (off := 4) (sz := 1) (ft := 4) ⟨rfl, by kernel_rfl, rfl⟩ (opens_bool Tryz.underlying4)
  obtain ⟨a5, w5, p5⟩ := field_at hf 5 rfl (off := 5) (sz := 1) (ft := 4) ⟨rfl, by kernel_rfl, rfl⟩ (opens_bool Tryz.underlying4)
  obtain ⟨a6, w6, p6⟩ := field_at hf 6 rfl (off := 6) (sz := 1) (ft := 3) ⟨rfl, by kernel_rfl, rfl⟩ (opens_int Tryz.underlying3)
  obtain ⟨a7, w7, p7⟩ := field_at hf 7 rfl (off := 7) (sz := 1) (ft := 3) ⟨rfl, by kernel_rfl, rfl⟩ (opens_int Tryz.underlying3)
  obtain ⟨a8, w8, p8⟩ := field_at hf 8 rfl (off := 8) (sz := 1) (ft := 4) ⟨rfl, by kernel_rfl, rfl⟩ (opens_bool Tryz.underlying4)
  obtain ⟨a9, w9, p9⟩ := field_at hf 9 rfl (off := 9) (sz := 1) (ft := 9) ⟨rfl, by kernel_rfl, rfl⟩ (opens_str Tryz.underlying9)
  obtain ⟨a10, w10, p10⟩ := field_at hf 10 rfl (off := 10) (sz := 1) (ft := 9) ⟨rfl, by kernel_rfl, rfl⟩ (opens_str Tryz.underlying9)
  obtain ⟨a11, w11, p11⟩ := field_at hf 11 rfl (off := 11) (sz := 1) (ft := 3) ⟨rfl, by kernel_rfl, rfl⟩ (opens_int Tryz.underlying3)
  exact ⟨⟨a0, a1, a2, a3, a4, a5, a6, a7, a8, a9, a10, a11⟩, ⟨w0, w1, w2, w3, w4, w5, w6, w7, w8, w9, w10, w11⟩, (p0.cut (p1.cut (p2.cut (p3.cut (p4.cut (p5.cut (p6.cut (p7.cut (p8.cut (p9.cut (p10.cut (p11.cut (.fin (hl.trans (by kernel_rfl)))))))))))))))⟩
theorem open_t51 {H : Type} (enc : TypeId × Value → H) (w : World) : Opens enc Tryz.prog w 51 c_TPrefix W_TPrefix := by
  intro fuel cs x h hz
  obtain ⟨hl, n, hf⟩ := fields_of Tryz.underlying51 h hz
  obtain ⟨a0, w0, p0⟩ := field_at hf 0 rfl (off := 0) (sz := 1) (ft := 46) ⟨rfl, by kernel_rfl, rfl⟩ (opens_int Tryz.underlying46)
  obtain ⟨a1, w1, p1⟩ := field_at hf 1 rfl (off := 1) (sz := 1) (ft := 3) ⟨rfl, by kernel_rfl, rfl⟩ (opens_int Tryz.underlying3)
  exact ⟨⟨a0, a1⟩, ⟨w0, w1⟩, (p0.cut (p1.cut (.fin (hl.trans (by kernel_rfl)))))⟩
theorem open_t85 {H : Type} (enc : TypeId × Value → H) (w : World) : Opens enc Tryz.prog w 85 c_TPrefixRule W_TPrefixRule := by
  intro fuel cs x h hz
  obtain ⟨hl, n, hf⟩ := fields_of Tryz.underlying85 h hz
  obtain ⟨a0, w0, p0⟩ := field_at hf 0 rfl (off := 0) (sz := 1) (ft := 4) ⟨rfl, by kernel_rfl, rfl⟩ (opens_bool Tryz.underlying4)
  obtain ⟨a1, w1, p1⟩ := field_at hf 1 rfl (off := 1) (sz := 2) (ft := 51) ⟨rfl, by kernel_rfl, rfl⟩ (open_t51 enc w)
  obtain ⟨a2, w2, p2⟩ := field_at hf 2 rfl (off := 3) (sz := 1) (ft := 3) ⟨rfl, by kernel_rfl, rfl⟩ (opens_int Tryz.underlying3)
  obtain ⟨a3, w3, p3⟩ := field_at hf 3 rfl (off := 4) (sz := 1) (ft := 3) ⟨rfl, by kernel_rfl, rfl⟩ (opens_int Tryz.underlying3)
  exact ⟨⟨a0, a1, a2, a3⟩, ⟨w0, w1, w2, w3⟩, (p0.cut (p1.cut (p2.cut (p3.cut (.fin (hl.trans (by kernel_rfl)))))))⟩
theorem open_t62 {H : Type} (enc : TypeId × Value → H) (w : World) : Opens enc Tryz.prog w 62 c_TPrefixList W_TPrefixList := by
  intro fuel cs x h hz
  obtain ⟨hl, n, hf⟩ := fields_of Tryz.underlying62 h hz
  obtain ⟨a0, w0, p0⟩ := field_at hf 0 rfl (off := 0) (sz := 1) (ft := 9) ⟨rfl, by kernel_rfl, rfl⟩ (opens_str Tryz.underlying9)
  obtain ⟨a1, w1, p1⟩ := field_at hf 1 rfl (off := 1) (sz := 1) (ft := 60) ⟨rfl, by kernel_rfl, rfl⟩ (opens_slice (wd := 5) (by' := 40) Tryz.underlying60 (by kernel_rfl) (by kernel_rfl) (by decide) (open_t85 enc w))
  exact ⟨⟨a0, a1⟩, ⟨w0, w1⟩, (p0.cut (p1.cut (.fin (hl.trans (by kernel_rfl)))))⟩
theorem open_t88 {H : Type} (enc : TypeId × Value → H) (w : World) : Opens enc Tryz.prog w 88 c_TClause W_TClause := by
  intro fuel cs x h hz
  obtain ⟨hl, n, hf⟩ := fields_of Tryz.underlying88 h hz
  obtain ⟨a0, w0, p0⟩ := field_at hf 0 rfl (off := 0) (sz := 1) (ft := 4) ⟨rfl, by kernel_rfl, rfl⟩ (opens_bool Tryz.underlying4)
  obtain ⟨a1, w1, p1⟩ := field_at hf 1 rfl (off := 1) (sz := 1) (ft := 9) ⟨rfl, by kernel_rfl, rfl⟩ (opens_str Tryz.underlying9)
  obtain ⟨a2, w2, p2⟩ := field_at hf 2 rfl (off := 2) (sz := 1) (ft := 3) ⟨rfl, by kernel_rfl, rfl⟩ (opens_int Tryz.underlying3)
  obtain ⟨a3, w3, p3⟩ := field_at hf 3 rfl (off := 3) (sz := 1) (ft := 3) ⟨rfl, by kernel_rfl, rfl⟩ (opens_int Tryz.underlying3)
  obtain ⟨a4, w4, p4⟩ := field_at hf 4 rfl (off := 4) (sz := 1) (ft := 3) ⟨rfl, by kernel_rfl, rfl⟩ (opens_int Tryz.underlying3)
  obtain ⟨a5, w5, p5⟩ := field_at hf 5 rfl (off := 5) (sz := 1) (ft := 3) ⟨rfl, by kernel_rfl, rfl⟩ (opens_int Tryz.underlying3)
  obtain ⟨a6, w6, p6⟩ := field_at hf 6 rfl (off := 6) (sz := 1) (ft := 3) ⟨rfl, by kernel_rfl, rfl⟩ (opens_int Tryz.underlying3)
  exact ⟨⟨a0, a1, a2, a3, a4, a5, a6⟩, ⟨w0, w1, w2, w3, w4, w5, w6⟩, (p0.cut (p1.cut (p2.cut (p3.cut (p4.cut (p5.cut (p6.cut (.fin (hl.trans (by kernel_rfl))))))))))⟩
theorem open_t65 {H : Type} (enc : TypeId × Value → H) (w : World) : Opens enc Tryz.prog w 65 c_TRouteMap W_TRouteMap := by
  intro fuel cs x h hz
  obtain ⟨hl, n, hf⟩ := fields_of Tryz.underlying65 h hz
  obtain ⟨a0, w0, p0⟩ := field_at hf 0 rfl (off := 0) (sz := 1) (ft := 9) ⟨rfl, by kernel_rfl, rfl⟩ (opens_str Tryz.underlying9)
  obtain ⟨a1, w1, p1⟩ := field_at hf 1 rfl (off := 1) (sz := 1) (ft := 63) ⟨rfl, by kernel_rfl, rfl⟩ (opens_slice (wd := 7) (by' := 64) Tryz.underlying63 (by kernel_rfl) (by kernel_rfl) (by decide) (open_t88 enc w))
  exact ⟨⟨a0, a1⟩, ⟨w0, w1⟩, (p0.cut (p1.cut (.fin (hl.trans (by kernel_rfl)))))⟩
theorem open_t91 {H : Type} (enc : TypeId × Value → H) (w : World) : Opens enc Tryz.prog w 91 c_TWildcard W_TWildcard := by
  intro fuel cs x h hz
  obtain ⟨hl, n, hf⟩ := fields_of Tryz.underlying91 h hz
  obtain ⟨a0, w0, p0⟩ := field_at hf 0 rfl (off := 0) (sz := 1) (ft := 46) ⟨rfl, by kernel_rfl, rfl⟩ (opens_int Tryz.underlying46)
  obtain ⟨a1, w1, p1⟩ := field_at hf 1 rfl (off := 1) (sz := 1) (ft := 46) ⟨rfl, by kernel_rfl, rfl⟩ (opens_int Tryz.underlying46)
  exact ⟨⟨a0, a1⟩, ⟨w0, w1⟩, (p0.cut (p1.cut (.fin (hl.trans (by kernel_rfl)))))⟩
theorem open_t93 {H : Type} (enc : TypeId × Value → H) (w : World) : Opens enc Tryz.prog w 93 c_TPortRange W_TPortRange := by
  intro fuel cs x h hz
  obtain ⟨hl, n, hf⟩ := fields_of Tryz.underlying93 h hz
  obtain ⟨a0, w0, p0⟩ := field_at hf 0 rfl (off := 0) (sz := 1) (ft := 3) ⟨rfl, by kernel_rfl, rfl⟩ (opens_int Tryz.underlying3)
  obtain ⟨a1, w1, p1⟩ := field_at hf 1 rfl (off := 1) (sz := 1) (ft := 3) ⟨rfl, by kernel_rfl, rfl⟩ (opens_int Tryz.underlying3)
  exact ⟨⟨a0, a1⟩, ⟨w0, w1⟩, (p0.cut (p1.cut (.fin (hl.trans (by kernel_rfl)))))⟩
theorem open_t95 {H : Type} (enc : TypeId × Value → H) (w : World) : Opens enc Tryz.prog w 95 c_TRule W_TRule := by
  intro fuel cs x h hz
  obtain ⟨hl, n, hf⟩ := fields_of Tryz.underlying95 h hz
  obtain ⟨a0, w0, p0⟩ := field_at hf 0 rfl (off := 0) (sz := 1) (ft := 4) ⟨rfl, by kernel_rfl, rfl⟩ (opens_bool Tryz.underlying4)
  obtain ⟨a1, w1, p1⟩ := field_at hf 1 rfl (off := 1) (sz := 1) (ft := 3) ⟨rfl, by kernel_rfl, rfl⟩ (opens_int Tryz.underlying3)
  obtain ⟨a2, w2, p2⟩ := field_at hf 2 rfl (off := 2) (sz := 2) (ft := 91) ⟨rfl, by kernel_rfl, rfl⟩ (open_t91 enc w)
  obtain ⟨a3, w3, p3⟩ := field_at hf 3 rfl (off := 4) (sz := 2) (ft := 91) ⟨rfl, by kernel_rfl, rfl⟩ (open_t91 enc w)
  obtain ⟨a4, w4, p4⟩ := field_at hf 4 rfl (off := 6) (sz := 2) (ft := 93) ⟨rfl, by kernel_rfl, rfl⟩ (open_t93 enc w)
  obtain ⟨a5, w5, p5⟩ := field_at hf 5 rfl (off := 8) (sz := 2) (ft := 93) ⟨rfl, by kernel_rfl, rfl⟩ (open_t93 enc w)
  exact ⟨⟨a0, a1, a2, a3, a4, a5⟩, ⟨w0, w1, w2, w3, w4, w5⟩, (p0.cut (p1.cut (p2.cut (p3.cut (p4.cut (p5.cut (.fin (hl.trans (by kernel_rfl)))))))))⟩
theorem open_t68 {H : Type} (enc : TypeId × Value → H) (w : World) : Opens enc Tryz.prog w 68 c_TACL W_TACL := by
  intro fuel cs x h hz
  obtain ⟨hl, n, hf⟩ := fields_of Tryz.underlying68 h hz
  obtain ⟨a0, w0, p0⟩ := field_at hf 0 rfl (off := 0) (sz := 1) (ft := 9) ⟨rfl, by kernel_rfl, rfl⟩ (opens_str Tryz.underlying9)
  obtain ⟨a1, w1, p1⟩ := field_at hf 1 rfl (off := 1) (sz := 1) (ft := 66) ⟨rfl, by kernel_rfl, rfl⟩ (opens_slice (wd := 10) (by' := 64) Tryz.underlying66 (by kernel_rfl) (by kernel_rfl) (by decide) (open_t95 enc w))
  exact ⟨⟨a0, a1⟩, ⟨w0, w1⟩, (p0.cut (p1.cut (.fin (hl.trans (by kernel_rfl)))))⟩
theorem open_t98 {H : Type} (enc : TypeId × Value → H) (w : World) : Opens enc Tryz.prog w 98 c_TTranslation W_TTranslation := by
  intro fuel cs x h hz
  obtain ⟨hl, n, hf⟩ := fields_of Tryz.underlying98 h hz
  obtain ⟨a0, w0, p0⟩ := field_at hf 0 rfl (off := 0) (sz := 1) (ft := 3) ⟨rfl, by kernel_rfl, rfl⟩ (opens_int Tryz.underlying3)
  obtain ⟨a1, w1, p1⟩ := field_at hf 1 rfl (off := 1) (sz := 1) (ft := 46) ⟨rfl, by kernel_rfl, rfl⟩ (opens_int Tryz.underlying46)
  obtain ⟨a2, w2, p2⟩ := field_at hf 2 rfl (off := 2) (sz := 1) (ft := 46) ⟨rfl, by kernel_rfl, rfl⟩ (opens_int Tryz.underlying46)
  obtain ⟨a3, w3, p3⟩ := field_at hf 3 rfl (off := 3) (sz := 1) (ft := 3) ⟨rfl, by kernel_rfl, rfl⟩ (opens_int Tryz.underlying3)
  obtain ⟨a4, w4, p4⟩ := field_at hf 4 rfl (off := 4) (sz := 1) (ft := 3) ⟨rfl, by kernel_rfl, rfl⟩ (opens_int Tryz.underlying3)
  obtain ⟨a5, w5, p5⟩ := field_at hf 5 rfl (off := 5) (sz := 1) (ft := 3) ⟨rfl, by kernel_rfl, rfl⟩ (opens_int Tryz.underlying3)
  obtain ⟨a6, w6, p6⟩ := field_at hf 6 rfl (off := 6) (sz := 1) (ft := 9) ⟨rfl, by kernel_rfl, rfl⟩ (opens_str Tryz.underlying9)
  obtain ⟨a7, w7, p7⟩ := field_at hf 7 rfl (off := 7) (sz := 1) (ft := 46) ⟨rfl, by kernel_rfl, rfl⟩ (opens_int Tryz.underlying46)
  obtain ⟨a8, w8, p8⟩ := field_at hf 8 rfl (off := 8) (sz := 1) (ft := 46) ⟨rfl, by kernel_rfl, rfl⟩ (opens_int Tryz.underlying46)
  exact ⟨⟨a0, a1, a2, a3, a4, a5, a6, a7, a8⟩, ⟨w0, w1, w2, w3, w4, w5, w6, w7, w8⟩, (p0.cut (p1.cut (p2.cut (p3.cut (p4.cut (p5.cut (p6.cut (p7.cut (p8.cut (.fin (hl.trans (by kernel_rfl))))))))))))⟩
theorem open_t53 {H : Type} (enc : TypeId × Value → H) (w : World) : Opens enc Tryz.prog w 53 c_TStaticRoute W_TStaticRoute := by
  intro fuel cs x h hz
  obtain ⟨hl, n, hf⟩ := fields_of Tryz.underlying53 h hz
  obtain ⟨a0, w0, p0⟩ := field_at hf 0 rfl (off := 0) (sz := 2) (ft := 51) ⟨rfl, by kernel_rfl, rfl⟩ (open_t51 enc w)
  obtain ⟨a1, w1, p1⟩ := field_at hf 1 rfl (off := 2) (sz := 1) (ft := 46) ⟨rfl, by kernel_rfl, rfl⟩ (opens_int Tryz.underlying46)
  obtain ⟨a2, w2, p2⟩ := field_at hf 2 rfl (off := 3) (sz := 1) (ft := 9) ⟨rfl, by kernel_rfl, rfl⟩ (opens_str Tryz.underlying9)
  obtain ⟨a3, w3, p3⟩ := field_at hf 3 rfl (off := 4) (sz := 1) (ft := 4) ⟨rfl, by kernel_rfl, rfl⟩ (opens_bool Tryz.underlying4)
  obtain ⟨a4, w4, p4⟩ := field_at hf 4 rfl (off := 5) (sz := 1) (ft := 3) ⟨rfl, by kernel_rfl, rfl⟩ (opens_int Tryz.underlying3)
  obtain ⟨a5, w5, p5⟩ := field_at hf 5 rfl (off := 6) (sz := 1) (ft := 3) ⟨rfl, by kernel_rfl, rfl⟩ (opens_int Tryz.underlying3)
  exact ⟨⟨a0, a1, a2, a3, a4, a5⟩, ⟨w0, w1, w2, w3, w4, w5⟩, (p0.cut (p1.cut (p2.cut (p3.cut (p4.cut (p5.cut (.fin (hl.trans (by kernel_rfl)))))))))⟩
theorem open_t102 {H : Type} (enc : TypeId × Value → H) (w : World) : Opens enc Tryz.prog w 102 c_TAreaRange W_TAreaRange := by
  intro fuel cs x h hz
  obtain ⟨hl, n, hf⟩ := fields_of Tryz.underlying102 h hz
  obtain ⟨a0, w0, p0⟩ := field_at hf 0 rfl (off := 0) (sz := 1) (ft := 3) ⟨rfl, by kernel_rfl, rfl⟩ (opens_int Tryz.underlying3)
  obtain ⟨a1, w1, p1⟩ := field_at hf 1 rfl (off := 1) (sz := 2) (ft := 51) ⟨rfl, by kernel_rfl, rfl⟩ (open_t51 enc w)
  exact ⟨⟨a0, a1⟩, ⟨w0, w1⟩, (p0.cut (p1.cut (.fin (hl.trans (by kernel_rfl)))))⟩
theorem open_t108 {H : Type} (enc : TypeId × Value → H) (w : World) : Opens enc Tryz.prog w 108 c_TRedist W_TRedist := by
  intro fuel cs x h hz
  obtain ⟨hl, n, hf⟩ := fields_of Tryz.underlying108 h hz
  obtain ⟨a0, w0, p0⟩ := field_at hf 0 rfl (off := 0) (sz := 1) (ft := 3) ⟨rfl, by kernel_rfl, rfl⟩ (opens_int Tryz.underlying3)
  obtain ⟨a1, w1, p1⟩ := field_at hf 1 rfl (off := 1) (sz := 1) (ft := 3) ⟨rfl, by kernel_rfl, rfl⟩ (opens_int Tryz.underlying3)
  obtain ⟨a2, w2, p2⟩ := field_at hf 2 rfl (off := 2) (sz := 1) (ft := 3) ⟨rfl, by kernel_rfl, rfl⟩ (opens_int Tryz.underlying3)
  obtain ⟨a3, w3, p3⟩ := field_at hf 3 rfl (off := 3) (sz := 1) (ft := 9) ⟨rfl, by kernel_rfl, rfl⟩ (opens_str Tryz.underlying9)
  obtain ⟨a4, w4, p4⟩ := field_at hf 4 rfl (off := 4) (sz := 1) (ft := 3) ⟨rfl, by kernel_rfl, rfl⟩ (opens_int Tryz.underlying3)
  exact ⟨⟨a0, a1, a2, a3, a4⟩, ⟨w0, w1, w2, w3, w4⟩, (p0.cut (p1.cut (p2.cut (p3.cut (p4.cut (.fin (hl.trans (by kernel_rfl))))))))⟩
theorem open_t31 {H : Type} (enc : TypeId × Value → H) (w : World) : Opens enc Tryz.prog w 31 c_TLinkState W_TLinkState := by
  intro fuel cs x h hz
  obtain ⟨hl, n, hf⟩ := fields_of Tryz.underlying31 h hz
  obtain ⟨a0, w0, p0⟩ := field_at hf 0 rfl (off := 0) (sz := 1) (ft := 4) ⟨rfl, by kernel_rfl, rfl⟩ (opens_bool Tryz.underlying4)
  obtain ⟨a1, w1, p1⟩ := field_at hf 1 rfl (off := 1) (sz := 1) (ft := 3) ⟨rfl, by kernel_rfl, rfl⟩ (opens_int Tryz.underlying3)
  obtain ⟨a2, w2, p2⟩ := field_at hf 2 rfl (off := 2) (sz := 1) (ft := 28) ⟨rfl, by kernel_rfl, rfl⟩ (opens_slice (wd := 3) (by' := 24) Tryz.underlying28 (by kernel_rfl) (by kernel_rfl) (by decide) (open_t102 enc w))
  obtain ⟨a3, w3, p3⟩ := field_at hf 3 rfl (off := 3) (sz := 1) (ft := 29) ⟨rfl, by kernel_rfl, rfl⟩ (opens_slice (wd := 5) (by' := 48) Tryz.underlying29 (by kernel_rfl) (by kernel_rfl) (by decide) (open_t108 enc w))
  exact ⟨⟨a0, a1, a2, a3⟩, ⟨w0, w1, w2, w3⟩, (p0.cut (p1.cut (p2.cut (p3.cut (.fin (hl.trans (by kernel_rfl)))))))⟩
theorem open_t33 {H : Type} (enc : TypeId × Value → H) (w : World) : Opens enc Tryz.prog w 33 c_TDistanceVector W_TDistanceVector := by
  intro fuel cs x h hz
  obtain ⟨hl, n, hf⟩ := fields_of Tryz.underlying33 h hz
  obtain ⟨a0, w0, p0⟩ := field_at hf 0 rfl (off := 0) (sz := 1) (ft := 4) ⟨rfl, by kernel_rfl, rfl⟩ (opens_bool Tryz.underlying4)
  obtain ⟨a1, w1, p1⟩ := field_at hf 1 rfl (off := 1) (sz := 1) (ft := 3) ⟨rfl, by kernel_rfl, rfl⟩ (opens_int Tryz.underlying3)
  obtain ⟨a2, w2, p2⟩ := field_at hf 2 rfl (off := 2) (sz := 1) (ft := 9) ⟨rfl, by kernel_rfl, rfl⟩ (opens_str Tryz.underlying9)
  obtain ⟨a3, w3, p3⟩ := field_at hf 3 rfl (off := 3) (sz := 1) (ft := 9) ⟨rfl, by kernel_rfl, rfl⟩ (opens_str Tryz.underlying9)
  obtain ⟨a4, w4, p4⟩ := field_at hf 4 rfl (off := 4) (sz := 1) (ft := 29) ⟨rfl, by kernel_rfl, rfl⟩ (opens_slice (wd := 5) (by' := 48) Tryz.underlying29 (by kernel_rfl) (by kernel_rfl) (by decide) (open_t108 enc w))
  exact ⟨⟨a0, a1, a2, a3, a4⟩, ⟨w0, w1, w2, w3, w4⟩, (p0.cut (p1.cut (p2.cut (p3.cut (p4.cut (.fin (hl.trans (by kernel_rfl))))))))⟩
theorem open_t110 {H : Type} (enc : TypeId × Value → H) (w : World) : Opens enc Tryz.prog w 110 c_TNeighbor W_TNeighbor := by
  intro fuel cs x h hz
  obtain ⟨hl, n, hf⟩ := fields_of Tryz.underlying110 h hz
  obtain ⟨a0, w0, p0⟩ := field_at hf 0 rfl (off := 0) (sz := 1) (ft := 46) ⟨rfl, by kernel_rfl, rfl⟩ (opens_int Tryz.underlying46)
  obtain ⟨a1, w1, p1⟩ := field_at hf 1 rfl (off := 1) (sz := 1) (ft := 3) ⟨rfl, by kernel_rfl, rfl⟩ (opens_int Tryz.underlying3)
  obtain ⟨a2, w2, p2⟩ := field_at hf 2 rfl (off := 2) (sz := 1) (ft := 9) ⟨rfl, by kernel_rfl, rfl⟩ (opens_str Tryz.underlying9)
  obtain ⟨a3, w3, p3⟩ := field_at hf 3 rfl (off := 3) (sz := 1) (ft := 9) ⟨rfl, by kernel_rfl, rfl⟩ (opens_str Tryz.underlying9)
  exact ⟨⟨a0, a1, a2, a3⟩, ⟨w0, w1, w2, w3⟩, (p0.cut (p1.cut (p2.cut (p3.cut (.fin (hl.trans (by kernel_rfl)))))))⟩
theorem open_t140 {H : Type} (enc : TypeId × Value → H) (w : World) : Opens enc Tryz.prog w 140 c_TAggregate W_TAggregate := by
  intro fuel cs x h hz
  obtain ⟨hl, n, hf⟩ := fields_of Tryz.underlying140 h hz
  obtain ⟨a0, w0, p0⟩ := field_at hf 0 rfl (off := 0) (sz := 2) (ft := 51) ⟨rfl, by kernel_rfl, rfl⟩ (open_t51 enc w)
  obtain ⟨a1, w1, p1⟩ := field_at hf 1 rfl (off := 2) (sz := 1) (ft := 4) ⟨rfl, by kernel_rfl, rfl⟩ (opens_bool Tryz.underlying4)
  exact ⟨⟨a0, a1⟩, ⟨w0, w1⟩, (p0.cut (p1.cut (.fin (hl.trans (by kernel_rfl)))))⟩
theorem open_t142 {H : Type} (enc : TypeId × Value → H) (w : World) : Opens enc Tryz.prog w 142 c_TCondition W_TCondition := by
  intro fuel cs x h hz
  obtain ⟨hl, n, hf⟩ := fields_of Tryz.underlying142 h hz
  obtain ⟨a0, w0, p0⟩ := field_at hf 0 rfl (off := 0) (sz := 2) (ft := 51) ⟨rfl, by kernel_rfl, rfl⟩ (open_t51 enc w)
  obtain ⟨a1, w1, p1⟩ := field_at hf 1 rfl (off := 2) (sz := 2) (ft := 51) ⟨rfl, by kernel_rfl, rfl⟩ (open_t51 enc w)
  obtain ⟨a2, w2, p2⟩ := field_at hf 2 rfl (off := 4) (sz := 1) (ft := 4) ⟨rfl, by kernel_rfl, rfl⟩ (opens_bool Tryz.underlying4)
  exact ⟨⟨a0, a1, a2⟩, ⟨w0, w1, w2⟩, (p0.cut (p1.cut (p2.cut (.fin (hl.trans (by kernel_rfl))))))⟩
theorem open_t39 {H : Type} (enc : TypeId × Value → H) (w : World) : Opens enc Tryz.prog w 39 c_TPathVector W_TPathVector := by
  intro fuel cs x h hz
  obtain ⟨hl, n, hf⟩ := fields_of Tryz.underlying39 h hz
  obtain ⟨a0, w0, p0⟩ := field_at hf 0 rfl (off := 0) (sz := 1) (ft := 4) ⟨rfl, by kernel_rfl, rfl⟩ (opens_bool Tryz.underlying4)
  obtain ⟨a1, w1, p1⟩ := field_at hf 1 rfl (off := 1) (sz := 1) (ft := 3) ⟨rfl, by kernel_rfl, rfl⟩ (opens_int Tryz.underlying3)
  obtain ⟨a2, w2, p2⟩ := field_at hf 2 rfl (off := 2) (sz := 1) (ft := 3) ⟨rfl, by kernel_rfl, rfl⟩ (opens_int Tryz.underlying3)
  obtain ⟨a3, w3, p3⟩ := field_at hf 3 rfl (off := 3) (sz := 1) (ft := 34) ⟨rfl, by kernel_rfl, rfl⟩ (opens_slice (wd := 4) (by' := 48) Tryz.underlying34 (by kernel_rfl) (by kernel_rfl) (by decide) (open_t110 enc w))
  obtain ⟨a4, w4, p4⟩ := field_at hf 4 rfl (off := 4) (sz := 1) (ft := 35) ⟨rfl, by kernel_rfl, rfl⟩ (opens_slice (wd := 2) (by' := 16) Tryz.underlying35 (by kernel_rfl) (by kernel_rfl) (by decide) (open_t51 enc w))
  obtain ⟨a5, w5, p5⟩ := field_at hf 5 rfl (off := 5) (sz := 1) (ft := 36) ⟨rfl, by kernel_rfl, rfl⟩ (opens_slice (wd := 3) (by' := 24) Tryz.underlying36 (by kernel_rfl) (by kernel_rfl) (by decide) (open_t140 enc w))
  obtain ⟨a6, w6, p6⟩ := field_at hf 6 rfl (off := 6) (sz := 1) (ft := 37) ⟨rfl, by kernel_rfl, rfl⟩ (opens_slice (wd := 5) (by' := 40) Tryz.underlying37 (by kernel_rfl) (by kernel_rfl) (by decide) (open_t142 enc w))
  obtain ⟨a7, w7, p7⟩ := field_at hf 7 rfl (off := 7) (sz := 1) (ft := 29) ⟨rfl, by kernel_rfl, rfl⟩ (opens_slice (wd := 5) (by' := 48) Tryz.underlying29 (by kernel_rfl) (by kernel_rfl) (by decide) (open_t108 enc w))
  exact ⟨⟨a0, a1, a2, a3, a4, a5, a6, a7⟩, ⟨w0, w1, w2, w3, w4, w5, w6, w7⟩, (p0.cut (p1.cut (p2.cut (p3.cut (p4.cut (p5.cut (p6.cut (p7.cut (.fin (hl.trans (by kernel_rfl)))))))))))⟩
theorem open_t41 {H : Type} (enc : TypeId × Value → H) (w : World) : Opens enc Tryz.prog w 41 c_TRouter W_TRouter := by
  intro fuel cs x h hz
  obtain ⟨hl, n, hf⟩ := fields_of Tryz.underlying41 h hz
  obtain ⟨a0, w0, p0⟩ := field_at hf 0 rfl (off := 0) (sz := 1) (ft := 9) ⟨rfl, by kernel_rfl, rfl⟩ (opens_str Tryz.underlying9)
  obtain ⟨a1, w1, p1⟩ := field_at hf 1 rfl (off := 1) (sz := 1) (ft := 3) ⟨rfl, by kernel_rfl, rfl⟩ (opens_int Tryz.underlying3)
  obtain ⟨a2, w2, p2⟩ := field_at hf 2 rfl (off := 2) (sz := 1) (ft := 22) ⟨rfl, by kernel_rfl, rfl⟩ (opens_slice (wd := 12) (by' := 112) Tryz.underlying22 (by kernel_rfl) (by kernel_rfl) (by decide) (open_t48 enc w))
  obtain ⟨a3, w3, p3⟩ := field_at hf 3 rfl (off := 3) (sz := 1) (ft := 23) ⟨rfl, by kernel_rfl, rfl⟩ (opens_slice (wd := 2) (by' := 40) Tryz.underlying23 (by kernel_rfl) (by kernel_rfl) (by decide) (open_t62 enc w))
  obtain ⟨a4, w4, p4⟩ := field_at hf 4 rfl (off := 4) (sz := 1) (ft := 24) ⟨rfl, by kernel_rfl, rfl⟩ (opens_slice (wd := 2) (by' := 40) Tryz.underlying24 (by kernel_rfl) (by kernel_rfl) (by decide) (open_t65 enc w))
  obtain ⟨a5, w5, p5⟩ := field_at hf 5 rfl (off := 5) (sz := 1) (ft := 25) ⟨rfl, by kernel_rfl, rfl⟩ (opens_slice (wd := 2) (by' := 40) Tryz.underlying25 (by kernel_rfl) (by kernel_rfl) (by decide) (open_t68 enc w))
  obtain ⟨a6, w6, p6⟩ := field_at hf 6 rfl (off := 6) (sz := 1) (ft := 26) ⟨rfl, by kernel_rfl, rfl⟩ (opens_slice (wd := 9) (by' := 64) Tryz.underlying26 (by kernel_rfl) (by kernel_rfl) (by decide) (open_t98 enc w))
  obtain ⟨a7, w7, p7⟩ := field_at hf 7 rfl (off := 7) (sz := 1) (ft := 27) ⟨rfl, by kernel_rfl, rfl⟩ (opens_slice (wd := 7) (by' := 64) Tryz.underlying27 (by kernel_rfl) (by kernel_rfl) (by decide) (open_t53 enc w))
  obtain ⟨a8, w8, p8⟩ := field_at hf 8 rfl (off := 8) (sz := 4) (ft := 31) ⟨rfl, by kernel_rfl, rfl⟩ (open_t31 enc w)
  obtain ⟨a9, w9, p9⟩ := field_at hf 9 rfl (off := 12) (sz := 5) (ft := 33) ⟨rfl, by kernel_rfl, rfl⟩ (open_t33 enc w)
  obtain ⟨a10, w10, p10⟩ := field_at hf 10 rfl (off := 17) (sz := 8) (ft := 39) ⟨rfl, by kernel_rfl, rfl⟩ (open_t39 enc w)
  exact ⟨⟨a0, a1, a2, a3, a4, a5, a6, a7, a8, a9, a10⟩, ⟨w0, w1, w2, w3, w4, w5, w6, w7, w8, w9, w10⟩, (p0.cut (p1.cut (p2.cut (p3.cut (p4.cut (p5.cut (p6.cut (p7.cut (p8.cut (p9.cut (p10.cut (.fin (hl.trans (by kernel_rfl))))))))))))))⟩
end Nv
