/- What comes in is of the typed data. -/
import Derived.Test.YtaienbkgekjdnaaGreatProg
import Derived.Test.YtaienbkgekjdnaaGreatNvV1
import Derived.KernelRfl
set_option maxRecDepth 100000
namespace Nv
open Go Go.Proofs
theorem open_t64 {H : Type} (enc : TypeId × Value → H) (w : World) : Opens enc Tryz.prog w 64 c_TInterface W_TInterface := by
  intro fuel cs x h hz
  obtain ⟨hl, n, hf⟩ := fields_of Tryz.underlying64 h hz
  obtain ⟨a0, w0, p0⟩ := field_at hf 0 rfl (off := 0) (sz := 1) (ft := 9) ⟨rfl, by kernel_rfl, rfl⟩ (opens_str Tryz.underlying9)
  obtain ⟨a1, w1, p1⟩ := field_at hf 1 rfl (off := 1) (sz := 1) (ft := 62) ⟨rfl, by kernel_rfl, rfl⟩ (opens_int Tryz.underlying62)
  obtain ⟨a2, w2, p2⟩ := field_at hf 2 rfl (off := 2) (sz := 1) (ft := 3) ⟨rfl, by kernel_rfl, rfl⟩ (opens_int Tryz.underlying3)
  obtain ⟨a3, w3, p3⟩ := field_at hf 3 rfl (off := 3) (sz := 1) (ft := 3) ⟨rfl, by kernel_rfl, rfl⟩ (opens_int Tryz.underlying3)
  obtain ⟨a4, w4, p4⟩ := field_at hf 4 rfl (off := 4) (sz := 1) (ft := 4) ⟨rfl, by kernel_rfl, rfl⟩ (opens_bool Tryz.underlying4)
  obtain ⟨a5, w5, p5⟩ := field_at hf 5 rfl (off := 5) (sz := 1) (ft := 4) ⟨rfl, by kernel_rfl, rfl⟩ (opens_bool Tryz.underlying4)
  obtain ⟨a6, w6, p6⟩ := field_at hf 6 rfl (off := 6) (sz := 1) (ft := 3) ⟨rfl, by kernel_rfl, rfl⟩ (opens_int Tryz.underlying3)
  obtain ⟨a7, w7, p7⟩ := field_at hf 7 rfl (off := 7) (sz := 1) (ft := 3) ⟨rfl, by kernel_rfl, rfl⟩ (opens_int Tryz.underlying3)
  obtain ⟨a8, w8, p8⟩ := field_at hf 8 rfl (off := 8) (sz := 1) (ft := 4) ⟨rfl, by kernel_rfl, rfl⟩ (opens_bool Tryz.underlying4)
  obtain ⟨a9, w9, p9⟩ := field_at hf 9 rfl (off := 9) (sz := 1) (ft := 9) ⟨rfl, by kernel_rfl, rfl⟩ (opens_str Tryz.underlying9)
  obtain ⟨a10, w10, p10⟩ := field_at hf 10 rfl (off := 10) (sz := 1) (ft := 9) ⟨rfl, by kernel_rfl, rfl⟩ (opens_str Tryz.underlying9)
  obtain ⟨a11, w11, p11⟩ := field_at hf 11 rfl (off := 11) (sz := 1) (ft := 3) ⟨rfl, by kernel_rfl, rfl⟩ (opens_int Tryz.underlying3)
  exact ⟨⟨a0, a1, a2, a3, a4, a5, a6, a7, a8, a9, a10, a11⟩, ⟨w0, w1, w2, w3, w4, w5, w6, w7, w8, w9, w10, w11⟩, (p0.cut (p1.cut (p2.cut (p3.cut (p4.cut (p5.cut (p6.cut (p7.cut (p8.cut (p9.cut (p10.cut (p11.cut (.fin (hl.trans (by kernel_rfl)))))))))))))))⟩
theorem open_t66 {H : Type} (enc : TypeId × Value → H) (w : World) : Opens enc Tryz.prog w 66 c_TPrefix W_TPrefix := by
  intro fuel cs x h hz
  obtain ⟨hl, n, hf⟩ := fields_of Tryz.underlying66 h hz
  obtain ⟨a0, w0, p0⟩ := field_at hf 0 rfl (off := 0) (sz := 1) (ft := 62) ⟨rfl, by kernel_rfl, rfl⟩ (opens_int Tryz.underlying62)
  obtain ⟨a1, w1, p1⟩ := field_at hf 1 rfl (off := 1) (sz := 1) (ft := 3) ⟨rfl, by kernel_rfl, rfl⟩ (opens_int Tryz.underlying3)
  exact ⟨⟨a0, a1⟩, ⟨w0, w1⟩, (p0.cut (p1.cut (.fin (hl.trans (by kernel_rfl)))))⟩
theorem open_t160 {H : Type} (enc : TypeId × Value → H) (w : World) : Opens enc Tryz.prog w 160 c_TPrefixRule W_TPrefixRule := by
  intro fuel cs x h hz
  obtain ⟨hl, n, hf⟩ := fields_of Tryz.underlying160 h hz
  obtain ⟨a0, w0, p0⟩ := field_at hf 0 rfl (off := 0) (sz := 1) (ft := 4) ⟨rfl, by kernel_rfl, rfl⟩ (opens_bool Tryz.underlying4)
  obtain ⟨a1, w1, p1⟩ := field_at hf 1 rfl (off := 1) (sz := 2) (ft := 66) ⟨rfl, by kernel_rfl, rfl⟩ (open_t66 enc w)
  obtain ⟨a2, w2, p2⟩ := field_at hf 2 rfl (off := 3) (sz := 1) (ft := 3) ⟨rfl, by kernel_rfl, rfl⟩ (opens_int Tryz.underlying3)
  obtain ⟨a3, w3, p3⟩ := field_at hf 3 rfl (off := 4) (sz := 1) (ft := 3) ⟨rfl, by kernel_rfl, rfl⟩ (opens_int Tryz.underlying3)
  exact ⟨⟨a0, a1, a2, a3⟩, ⟨w0, w1, w2, w3⟩, (p0.cut (p1.cut (p2.cut (p3.cut (.fin (hl.trans (by kernel_rfl)))))))⟩
theorem open_t109 {H : Type} (enc : TypeId × Value → H) (w : World) : Opens enc Tryz.prog w 109 c_TPrefixList W_TPrefixList := by
  intro fuel cs x h hz
  obtain ⟨hl, n, hf⟩ := fields_of Tryz.underlying109 h hz
  obtain ⟨a0, w0, p0⟩ := field_at hf 0 rfl (off := 0) (sz := 1) (ft := 9) ⟨rfl, by kernel_rfl, rfl⟩ (opens_str Tryz.underlying9)
  obtain ⟨a1, w1, p1⟩ := field_at hf 1 rfl (off := 1) (sz := 1) (ft := 107) ⟨rfl, by kernel_rfl, rfl⟩ (opens_slice (wd := 5) (by' := 40) Tryz.underlying107 (by kernel_rfl) (by kernel_rfl) (by decide) (open_t160 enc w))
  exact ⟨⟨a0, a1⟩, ⟨w0, w1⟩, (p0.cut (p1.cut (.fin (hl.trans (by kernel_rfl)))))⟩
theorem open_t164 {H : Type} (enc : TypeId × Value → H) (w : World) : Opens enc Tryz.prog w 164 c_TClause W_TClause := by
  intro fuel cs x h hz
  obtain ⟨hl, n, hf⟩ := fields_of Tryz.underlying164 h hz
  obtain ⟨a0, w0, p0⟩ := field_at hf 0 rfl (off := 0) (sz := 1) (ft := 4) ⟨rfl, by kernel_rfl, rfl⟩ (opens_bool Tryz.underlying4)
  obtain ⟨a1, w1, p1⟩ := field_at hf 1 rfl (off := 1) (sz := 1) (ft := 9) ⟨rfl, by kernel_rfl, rfl⟩ (opens_str Tryz.underlying9)
  obtain ⟨a2, w2, p2⟩ := field_at hf 2 rfl (off := 2) (sz := 1) (ft := 3) ⟨rfl, by kernel_rfl, rfl⟩ (opens_int Tryz.underlying3)
  obtain ⟨a3, w3, p3⟩ := field_at hf 3 rfl (off := 3) (sz := 1) (ft := 3) ⟨rfl, by kernel_rfl, rfl⟩ (opens_int Tryz.underlying3)
  obtain ⟨a4, w4, p4⟩ := field_at hf 4 rfl (off := 4) (sz := 1) (ft := 3) ⟨rfl, by kernel_rfl, rfl⟩ (opens_int Tryz.underlying3)
  obtain ⟨a5, w5, p5⟩ := field_at hf 5 rfl (off := 5) (sz := 1) (ft := 3) ⟨rfl, by kernel_rfl, rfl⟩ (opens_int Tryz.underlying3)
  obtain ⟨a6, w6, p6⟩ := field_at hf 6 rfl (off := 6) (sz := 1) (ft := 3) ⟨rfl, by kernel_rfl, rfl⟩ (opens_int Tryz.underlying3)
  exact ⟨⟨a0, a1, a2, a3, a4, a5, a6⟩, ⟨w0, w1, w2, w3, w4, w5, w6⟩, (p0.cut (p1.cut (p2.cut (p3.cut (p4.cut (p5.cut (p6.cut (.fin (hl.trans (by kernel_rfl))))))))))⟩
theorem open_t112 {H : Type} (enc : TypeId × Value → H) (w : World) : Opens enc Tryz.prog w 112 c_TRouteMap W_TRouteMap := by
  intro fuel cs x h hz
  obtain ⟨hl, n, hf⟩ := fields_of Tryz.underlying112 h hz
  obtain ⟨a0, w0, p0⟩ := field_at hf 0 rfl (off := 0) (sz := 1) (ft := 9) ⟨rfl, by kernel_rfl, rfl⟩ (opens_str Tryz.underlying9)
  obtain ⟨a1, w1, p1⟩ := field_at hf 1 rfl (off := 1) (sz := 1) (ft := 110) ⟨rfl, by kernel_rfl, rfl⟩ (opens_slice (wd := 7) (by' := 64) Tryz.underlying110 (by kernel_rfl) (by kernel_rfl) (by decide) (open_t164 enc w))
  exact ⟨⟨a0, a1⟩, ⟨w0, w1⟩, (p0.cut (p1.cut (.fin (hl.trans (by kernel_rfl)))))⟩
theorem open_t168 {H : Type} (enc : TypeId × Value → H) (w : World) : Opens enc Tryz.prog w 168 c_TWildcard W_TWildcard := by
  intro fuel cs x h hz
  obtain ⟨hl, n, hf⟩ := fields_of Tryz.underlying168 h hz
  obtain ⟨a0, w0, p0⟩ := field_at hf 0 rfl (off := 0) (sz := 1) (ft := 62) ⟨rfl, by kernel_rfl, rfl⟩ (opens_int Tryz.underlying62)
  obtain ⟨a1, w1, p1⟩ := field_at hf 1 rfl (off := 1) (sz := 1) (ft := 62) ⟨rfl, by kernel_rfl, rfl⟩ (opens_int Tryz.underlying62)
  exact ⟨⟨a0, a1⟩, ⟨w0, w1⟩, (p0.cut (p1.cut (.fin (hl.trans (by kernel_rfl)))))⟩
theorem open_t170 {H : Type} (enc : TypeId × Value → H) (w : World) : Opens enc Tryz.prog w 170 c_TPortRange W_TPortRange := by
  intro fuel cs x h hz
  obtain ⟨hl, n, hf⟩ := fields_of Tryz.underlying170 h hz
  obtain ⟨a0, w0, p0⟩ := field_at hf 0 rfl (off := 0) (sz := 1) (ft := 3) ⟨rfl, by kernel_rfl, rfl⟩ (opens_int Tryz.underlying3)
  obtain ⟨a1, w1, p1⟩ := field_at hf 1 rfl (off := 1) (sz := 1) (ft := 3) ⟨rfl, by kernel_rfl, rfl⟩ (opens_int Tryz.underlying3)
  exact ⟨⟨a0, a1⟩, ⟨w0, w1⟩, (p0.cut (p1.cut (.fin (hl.trans (by kernel_rfl)))))⟩
theorem open_t172 {H : Type} (enc : TypeId × Value → H) (w : World) : Opens enc Tryz.prog w 172 c_TRule W_TRule := by
  intro fuel cs x h hz
  obtain ⟨hl, n, hf⟩ := fields_of Tryz.underlying172 h hz
  obtain ⟨a0, w0, p0⟩ := field_at hf 0 rfl (off := 0) (sz := 1) (ft := 4) ⟨rfl, by kernel_rfl, rfl⟩ (opens_bool Tryz.underlying4)
  obtain ⟨a1, w1, p1⟩ := field_at hf 1 rfl (off := 1) (sz := 1) (ft := 3) ⟨rfl, by kernel_rfl, rfl⟩ (opens_int Tryz.underlying3)
  obtain ⟨a2, w2, p2⟩ := field_at hf 2 rfl (off := 2) (sz := 2) (ft := 168) ⟨rfl, by kernel_rfl, rfl⟩ (open_t168 enc w)
  obtain ⟨a3, w3, p3⟩ := field_at hf 3 rfl (off := 4) (sz := 2) (ft := 168) ⟨rfl, by kernel_rfl, rfl⟩ (open_t168 enc w)
  obtain ⟨a4, w4, p4⟩ := field_at hf 4 rfl (off := 6) (sz := 2) (ft := 170) ⟨rfl, by kernel_rfl, rfl⟩ (open_t170 enc w)
  obtain ⟨a5, w5, p5⟩ := field_at hf 5 rfl (off := 8) (sz := 2) (ft := 170) ⟨rfl, by kernel_rfl, rfl⟩ (open_t170 enc w)
  exact ⟨⟨a0, a1, a2, a3, a4, a5⟩, ⟨w0, w1, w2, w3, w4, w5⟩, (p0.cut (p1.cut (p2.cut (p3.cut (p4.cut (p5.cut (.fin (hl.trans (by kernel_rfl)))))))))⟩
theorem open_t115 {H : Type} (enc : TypeId × Value → H) (w : World) : Opens enc Tryz.prog w 115 c_TACL W_TACL := by
  intro fuel cs x h hz
  obtain ⟨hl, n, hf⟩ := fields_of Tryz.underlying115 h hz
  obtain ⟨a0, w0, p0⟩ := field_at hf 0 rfl (off := 0) (sz := 1) (ft := 9) ⟨rfl, by kernel_rfl, rfl⟩ (opens_str Tryz.underlying9)
  obtain ⟨a1, w1, p1⟩ := field_at hf 1 rfl (off := 1) (sz := 1) (ft := 113) ⟨rfl, by kernel_rfl, rfl⟩ (opens_slice (wd := 10) (by' := 64) Tryz.underlying113 (by kernel_rfl) (by kernel_rfl) (by decide) (open_t172 enc w))
  exact ⟨⟨a0, a1⟩, ⟨w0, w1⟩, (p0.cut (p1.cut (.fin (hl.trans (by kernel_rfl)))))⟩
theorem open_t131 {H : Type} (enc : TypeId × Value → H) (w : World) : Opens enc Tryz.prog w 131 c_TTranslation W_TTranslation := by
  intro fuel cs x h hz
  obtain ⟨hl, n, hf⟩ := fields_of Tryz.underlying131 h hz
  obtain ⟨a0, w0, p0⟩ := field_at hf 0 rfl (off := 0) (sz := 1) (ft := 3) ⟨rfl, by kernel_rfl, rfl⟩ (opens_int Tryz.underlying3)
  obtain ⟨a1, w1, p1⟩ := field_at hf 1 rfl (off := 1) (sz := 1) (ft := 62) ⟨rfl, by kernel_rfl, rfl⟩ (opens_int Tryz.underlying62)
  obtain ⟨a2, w2, p2⟩ := field_at hf 2 rfl (off := 2) (sz := 1) (ft := 62) ⟨rfl, by kernel_rfl, rfl⟩ (opens_int Tryz.underlying62)
  obtain ⟨a3, w3, p3⟩ := field_at hf 3 rfl (off := 3) (sz := 1) (ft := 3) ⟨rfl, by kernel_rfl, rfl⟩ (opens_int Tryz.underlying3)
  obtain ⟨a4, w4, p4⟩ := field_at hf 4 rfl (off := 4) (sz := 1) (ft := 3) ⟨rfl, by kernel_rfl, rfl⟩ (opens_int Tryz.underlying3)
  obtain ⟨a5, w5, p5⟩ := field_at hf 5 rfl (off := 5) (sz := 1) (ft := 3) ⟨rfl, by kernel_rfl, rfl⟩ (opens_int Tryz.underlying3)
  obtain ⟨a6, w6, p6⟩ := field_at hf 6 rfl (off := 6) (sz := 1) (ft := 9) ⟨rfl, by kernel_rfl, rfl⟩ (opens_str Tryz.underlying9)
  obtain ⟨a7, w7, p7⟩ := field_at hf 7 rfl (off := 7) (sz := 1) (ft := 62) ⟨rfl, by kernel_rfl, rfl⟩ (opens_int Tryz.underlying62)
  obtain ⟨a8, w8, p8⟩ := field_at hf 8 rfl (off := 8) (sz := 1) (ft := 62) ⟨rfl, by kernel_rfl, rfl⟩ (opens_int Tryz.underlying62)
  exact ⟨⟨a0, a1, a2, a3, a4, a5, a6, a7, a8⟩, ⟨w0, w1, w2, w3, w4, w5, w6, w7, w8⟩, (p0.cut (p1.cut (p2.cut (p3.cut (p4.cut (p5.cut (p6.cut (p7.cut (p8.cut (.fin (hl.trans (by kernel_rfl))))))))))))⟩
theorem open_t133 {H : Type} (enc : TypeId × Value → H) (w : World) : Opens enc Tryz.prog w 133 c_TStaticRoute W_TStaticRoute := by
  intro fuel cs x h hz
  obtain ⟨hl, n, hf⟩ := fields_of Tryz.underlying133 h hz
  obtain ⟨a0, w0, p0⟩ := field_at hf 0 rfl (off := 0) (sz := 2) (ft := 66) ⟨rfl, by kernel_rfl, rfl⟩ (open_t66 enc w)
  obtain ⟨a1, w1, p1⟩ := field_at hf 1 rfl (off := 2) (sz := 1) (ft := 62) ⟨rfl, by kernel_rfl, rfl⟩ (opens_int Tryz.underlying62)
  obtain ⟨a2, w2, p2⟩ := field_at hf 2 rfl (off := 3) (sz := 1) (ft := 9) ⟨rfl, by kernel_rfl, rfl⟩ (opens_str Tryz.underlying9)
  obtain ⟨a3, w3, p3⟩ := field_at hf 3 rfl (off := 4) (sz := 1) (ft := 4) ⟨rfl, by kernel_rfl, rfl⟩ (opens_bool Tryz.underlying4)
  obtain ⟨a4, w4, p4⟩ := field_at hf 4 rfl (off := 5) (sz := 1) (ft := 3) ⟨rfl, by kernel_rfl, rfl⟩ (opens_int Tryz.underlying3)
  obtain ⟨a5, w5, p5⟩ := field_at hf 5 rfl (off := 6) (sz := 1) (ft := 3) ⟨rfl, by kernel_rfl, rfl⟩ (opens_int Tryz.underlying3)
  exact ⟨⟨a0, a1, a2, a3, a4, a5⟩, ⟨w0, w1, w2, w3, w4, w5⟩, (p0.cut (p1.cut (p2.cut (p3.cut (p4.cut (p5.cut (.fin (hl.trans (by kernel_rfl)))))))))⟩
theorem open_t177 {H : Type} (enc : TypeId × Value → H) (w : World) : Opens enc Tryz.prog w 177 c_TAreaRange W_TAreaRange := by
  intro fuel cs x h hz
  obtain ⟨hl, n, hf⟩ := fields_of Tryz.underlying177 h hz
  obtain ⟨a0, w0, p0⟩ := field_at hf 0 rfl (off := 0) (sz := 1) (ft := 3) ⟨rfl, by kernel_rfl, rfl⟩ (opens_int Tryz.underlying3)
  obtain ⟨a1, w1, p1⟩ := field_at hf 1 rfl (off := 1) (sz := 2) (ft := 66) ⟨rfl, by kernel_rfl, rfl⟩ (open_t66 enc w)
  exact ⟨⟨a0, a1⟩, ⟨w0, w1⟩, (p0.cut (p1.cut (.fin (hl.trans (by kernel_rfl)))))⟩
theorem open_t180 {H : Type} (enc : TypeId × Value → H) (w : World) : Opens enc Tryz.prog w 180 c_TRedist W_TRedist := by
  intro fuel cs x h hz
  obtain ⟨hl, n, hf⟩ := fields_of Tryz.underlying180 h hz
  obtain ⟨a0, w0, p0⟩ := field_at hf 0 rfl (off := 0) (sz := 1) (ft := 3) ⟨rfl, by kernel_rfl, rfl⟩ (opens_int Tryz.underlying3)
  obtain ⟨a1, w1, p1⟩ := field_at hf 1 rfl (off := 1) (sz := 1) (ft := 3) ⟨rfl, by kernel_rfl, rfl⟩ (opens_int Tryz.underlying3)
  obtain ⟨a2, w2, p2⟩ := field_at hf 2 rfl (off := 2) (sz := 1) (ft := 3) ⟨rfl, by kernel_rfl, rfl⟩ (opens_int Tryz.underlying3)
  obtain ⟨a3, w3, p3⟩ := field_at hf 3 rfl (off := 3) (sz := 1) (ft := 9) ⟨rfl, by kernel_rfl, rfl⟩ (opens_str Tryz.underlying9)
  obtain ⟨a4, w4, p4⟩ := field_at hf 4 rfl (off := 4) (sz := 1) (ft := 3) ⟨rfl, by kernel_rfl, rfl⟩ (opens_int Tryz.underlying3)
  exact ⟨⟨a0, a1, a2, a3, a4⟩, ⟨w0, w1, w2, w3, w4⟩, (p0.cut (p1.cut (p2.cut (p3.cut (p4.cut (.fin (hl.trans (by kernel_rfl))))))))⟩
theorem open_t51 {H : Type} (enc : TypeId × Value → H) (w : World) : Opens enc Tryz.prog w 51 c_TLinkState W_TLinkState := by
  intro fuel cs x h hz
  obtain ⟨hl, n, hf⟩ := fields_of Tryz.underlying51 h hz
  obtain ⟨a0, w0, p0⟩ := field_at hf 0 rfl (off := 0) (sz := 1) (ft := 4) ⟨rfl, by kernel_rfl, rfl⟩ (opens_bool Tryz.underlying4)
  obtain ⟨a1, w1, p1⟩ := field_at hf 1 rfl (off := 1) (sz := 1) (ft := 3) ⟨rfl, by kernel_rfl, rfl⟩ (opens_int Tryz.underlying3)
  obtain ⟨a2, w2, p2⟩ := field_at hf 2 rfl (off := 2) (sz := 1) (ft := 48) ⟨rfl, by kernel_rfl, rfl⟩ (opens_slice (wd := 3) (by' := 24) Tryz.underlying48 (by kernel_rfl) (by kernel_rfl) (by decide) (open_t177 enc w))
  obtain ⟨a3, w3, p3⟩ := field_at hf 3 rfl (off := 3) (sz := 1) (ft := 49) ⟨rfl, by kernel_rfl, rfl⟩ (opens_slice (wd := 5) (by' := 48) Tryz.underlying49 (by kernel_rfl) (by kernel_rfl) (by decide) (open_t180 enc w))
  exact ⟨⟨a0, a1, a2, a3⟩, ⟨w0, w1, w2, w3⟩, (p0.cut (p1.cut (p2.cut (p3.cut (.fin (hl.trans (by kernel_rfl)))))))⟩
theorem open_t53 {H : Type} (enc : TypeId × Value → H) (w : World) : Opens enc Tryz.prog w 53 c_TDistanceVector W_TDistanceVector := by
  intro fuel cs x h hz
  obtain ⟨hl, n, hf⟩ := fields_of Tryz.underlying53 h hz
  obtain ⟨a0, w0, p0⟩ := field_at hf 0 rfl (off := 0) (sz := 1) (ft := 4) ⟨rfl, by kernel_rfl, rfl⟩ (opens_bool Tryz.underlying4)
  obtain ⟨a1, w1, p1⟩ := field_at hf 1 rfl (off := 1) (sz := 1) (ft := 3) ⟨rfl, by kernel_rfl, rfl⟩ (opens_int Tryz.underlying3)
  obtain ⟨a2, w2, p2⟩ := field_at hf 2 rfl (off := 2) (sz := 1) (ft := 9) ⟨rfl, by kernel_rfl, rfl⟩ (opens_str Tryz.underlying9)
  obtain ⟨a3, w3, p3⟩ := field_at hf 3 rfl (off := 3) (sz := 1) (ft := 9) ⟨rfl, by kernel_rfl, rfl⟩ (opens_str Tryz.underlying9)
  obtain ⟨a4, w4, p4⟩ := field_at hf 4 rfl (off := 4) (sz := 1) (ft := 49) ⟨rfl, by kernel_rfl, rfl⟩ (opens_slice (wd := 5) (by' := 48) Tryz.underlying49 (by kernel_rfl) (by kernel_rfl) (by decide) (open_t180 enc w))
  exact ⟨⟨a0, a1, a2, a3, a4⟩, ⟨w0, w1, w2, w3, w4⟩, (p0.cut (p1.cut (p2.cut (p3.cut (p4.cut (.fin (hl.trans (by kernel_rfl))))))))⟩
theorem open_t183 {H : Type} (enc : TypeId × Value → H) (w : World) : Opens enc Tryz.prog w 183 c_TNeighbor W_TNeighbor := by
  intro fuel cs x h hz
  obtain ⟨hl, n, hf⟩ := fields_of Tryz.underlying183 h hz
  obtain ⟨a0, w0, p0⟩ := field_at hf 0 rfl (off := 0) (sz := 1) (ft := 62) ⟨rfl, by kernel_rfl, rfl⟩ (opens_int Tryz.underlying62)
  obtain ⟨a1, w1, p1⟩ := field_at hf 1 rfl (off := 1) (sz := 1) (ft := 3) ⟨rfl, by kernel_rfl, rfl⟩ (opens_int Tryz.underlying3)
  obtain ⟨a2, w2, p2⟩ := field_at hf 2 rfl (off := 2) (sz := 1) (ft := 9) ⟨rfl, by kernel_rfl, rfl⟩ (opens_str Tryz.underlying9)
  obtain ⟨a3, w3, p3⟩ := field_at hf 3 rfl (off := 3) (sz := 1) (ft := 9) ⟨rfl, by kernel_rfl, rfl⟩ (opens_str Tryz.underlying9)
  exact ⟨⟨a0, a1, a2, a3⟩, ⟨w0, w1, w2, w3⟩, (p0.cut (p1.cut (p2.cut (p3.cut (.fin (hl.trans (by kernel_rfl)))))))⟩
theorem open_t187 {H : Type} (enc : TypeId × Value → H) (w : World) : Opens enc Tryz.prog w 187 c_TAggregate W_TAggregate := by
  intro fuel cs x h hz
  obtain ⟨hl, n, hf⟩ := fields_of Tryz.underlying187 h hz
  obtain ⟨a0, w0, p0⟩ := field_at hf 0 rfl (off := 0) (sz := 2) (ft := 66) ⟨rfl, by kernel_rfl, rfl⟩ (open_t66 enc w)
  obtain ⟨a1, w1, p1⟩ := field_at hf 1 rfl (off := 2) (sz := 1) (ft := 4) ⟨rfl, by kernel_rfl, rfl⟩ (opens_bool Tryz.underlying4)
  exact ⟨⟨a0, a1⟩, ⟨w0, w1⟩, (p0.cut (p1.cut (.fin (hl.trans (by kernel_rfl)))))⟩
theorem open_t190 {H : Type} (enc : TypeId × Value → H) (w : World) : Opens enc Tryz.prog w 190 c_TCondition W_TCondition := by
  intro fuel cs x h hz
  obtain ⟨hl, n, hf⟩ := fields_of Tryz.underlying190 h hz
  obtain ⟨a0, w0, p0⟩ := field_at hf 0 rfl (off := 0) (sz := 2) (ft := 66) ⟨rfl, by kernel_rfl, rfl⟩ (open_t66 enc w)
  obtain ⟨a1, w1, p1⟩ := field_at hf 1 rfl (off := 2) (sz := 2) (ft := 66) ⟨rfl, by kernel_rfl, rfl⟩ (open_t66 enc w)
  obtain ⟨a2, w2, p2⟩ := field_at hf 2 rfl (off := 4) (sz := 1) (ft := 4) ⟨rfl, by kernel_rfl, rfl⟩ (opens_bool Tryz.underlying4)
  exact ⟨⟨a0, a1, a2⟩, ⟨w0, w1, w2⟩, (p0.cut (p1.cut (p2.cut (.fin (hl.trans (by kernel_rfl))))))⟩
theorem open_t59 {H : Type} (enc : TypeId × Value → H) (w : World) : Opens enc Tryz.prog w 59 c_TPathVector W_TPathVector := by
  intro fuel cs x h hz
  obtain ⟨hl, n, hf⟩ := fields_of Tryz.underlying59 h hz
  obtain ⟨a0, w0, p0⟩ := field_at hf 0 rfl (off := 0) (sz := 1) (ft := 4) ⟨rfl, by kernel_rfl, rfl⟩ (opens_bool Tryz.underlying4)
  obtain ⟨a1, w1, p1⟩ := field_at hf 1 rfl (off := 1) (sz := 1) (ft := 3) ⟨rfl, by kernel_rfl, rfl⟩ (opens_int Tryz.underlying3)
  obtain ⟨a2, w2, p2⟩ := field_at hf 2 rfl (off := 2) (sz := 1) (ft := 3) ⟨rfl, by kernel_rfl, rfl⟩ (opens_int Tryz.underlying3)
  obtain ⟨a3, w3, p3⟩ := field_at hf 3 rfl (off := 3) (sz := 1) (ft := 54) ⟨rfl, by kernel_rfl, rfl⟩ (opens_slice (wd := 4) (by' := 48) Tryz.underlying54 (by kernel_rfl) (by kernel_rfl) (by decide) (open_t183 enc w))
  obtain ⟨a4, w4, p4⟩ := field_at hf 4 rfl (off := 4) (sz := 1) (ft := 55) ⟨rfl, by kernel_rfl, rfl⟩ (opens_slice (wd := 2) (by' := 16) Tryz.underlying55 (by kernel_rfl) (by kernel_rfl) (by decide) (open_t66 enc w))
  obtain ⟨a5, w5, p5⟩ := field_at hf 5 rfl (off := 5) (sz := 1) (ft := 56) ⟨rfl, by kernel_rfl, rfl⟩ (opens_slice (wd := 3) (by' := 24) Tryz.underlying56 (by kernel_rfl) (by kernel_rfl) (by decide) (open_t187 enc w))
  obtain ⟨a6, w6, p6⟩ := field_at hf 6 rfl (off := 6) (sz := 1) (ft := 57) ⟨rfl, by kernel_rfl, rfl⟩ (opens_slice (wd := 5) (by' := 40) Tryz.underlying57 (by kernel_rfl) (by kernel_rfl) (by decide) (open_t190 enc w))
  obtain ⟨a7, w7, p7⟩ := field_at hf 7 rfl (off := 7) (sz := 1) (ft := 49) ⟨rfl, by kernel_rfl, rfl⟩ (opens_slice (wd := 5) (by' := 48) Tryz.underlying49 (by kernel_rfl) (by kernel_rfl) (by decide) (open_t180 enc w))
  exact ⟨⟨a0, a1, a2, a3, a4, a5, a6, a7⟩, ⟨w0, w1, w2, w3, w4, w5, w6, w7⟩, (p0.cut (p1.cut (p2.cut (p3.cut (p4.cut (p5.cut (p6.cut (p7.cut (.fin (hl.trans (by kernel_rfl)))))))))))⟩
theorem open_t61 {H : Type} (enc : TypeId × Value → H) (w : World) : Opens enc Tryz.prog w 61 c_TRouter W_TRouter := by
  intro fuel cs x h hz
  obtain ⟨hl, n, hf⟩ := fields_of Tryz.underlying61 h hz
  obtain ⟨a0, w0, p0⟩ := field_at hf 0 rfl (off := 0) (sz := 1) (ft := 9) ⟨rfl, by kernel_rfl, rfl⟩ (opens_str Tryz.underlying9)
  obtain ⟨a1, w1, p1⟩ := field_at hf 1 rfl (off := 1) (sz := 1) (ft := 3) ⟨rfl, by kernel_rfl, rfl⟩ (opens_int Tryz.underlying3)
  obtain ⟨a2, w2, p2⟩ := field_at hf 2 rfl (off := 2) (sz := 1) (ft := 42) ⟨rfl, by kernel_rfl, rfl⟩ (opens_slice (wd := 12) (by' := 112) Tryz.underlying42 (by kernel_rfl) (by kernel_rfl) (by decide) (open_t64 enc w))
  obtain ⟨a3, w3, p3⟩ := field_at hf 3 rfl (off := 3) (sz := 1) (ft := 43) ⟨rfl, by kernel_rfl, rfl⟩ (opens_slice (wd := 2) (by' := 40) Tryz.underlying43 (by kernel_rfl) (by kernel_rfl) (by decide) (open_t109 enc w))
  obtain ⟨a4, w4, p4⟩ := field_at hf 4 rfl (off := 4) (sz := 1) (ft := 44) ⟨rfl, by kernel_rfl, rfl⟩ (opens_slice (wd := 2) (by' := 40) Tryz.underlying44 (by kernel_rfl) (by kernel_rfl) (by decide) (open_t112 enc w))
  obtain ⟨a5, w5, p5⟩ := field_at hf 5 rfl (off := 5) (sz := 1) (ft := 45) ⟨rfl, by kernel_rfl, rfl⟩ (opens_slice (wd := 2) (by' := 40) Tryz.underlying45 (by kernel_rfl) (by kernel_rfl) (by decide) (open_t115 enc w))
  obtain ⟨a6, w6, p6⟩ := field_at hf 6 rfl (off := 6) (sz := 1) (ft := 46) ⟨rfl, by kernel_rfl, rfl⟩ (opens_slice (wd := 9) (by' := 64) Tryz.underlying46 (by kernel_rfl) (by kernel_rfl) (by decide) (open_t131 enc w))
  obtain ⟨a7, w7, p7⟩ := field_at hf 7 rfl (off := 7) (sz := 1) (ft := 47) ⟨rfl, by kernel_rfl, rfl⟩ (opens_slice (wd := 7) (by' := 64) Tryz.underlying47 (by kernel_rfl) (by kernel_rfl) (by decide) (open_t133 enc w))
  obtain ⟨a8, w8, p8⟩ := field_at hf 8 rfl (off := 8) (sz := 4) (ft := 51) ⟨rfl, by kernel_rfl, rfl⟩ (open_t51 enc w)
  obtain ⟨a9, w9, p9⟩ := field_at hf 9 rfl (off := 12) (sz := 5) (ft := 53) ⟨rfl, by kernel_rfl, rfl⟩ (open_t53 enc w)
  obtain ⟨a10, w10, p10⟩ := field_at hf 10 rfl (off := 17) (sz := 8) (ft := 59) ⟨rfl, by kernel_rfl, rfl⟩ (open_t59 enc w)
  exact ⟨⟨a0, a1, a2, a3, a4, a5, a6, a7, a8, a9, a10⟩, ⟨w0, w1, w2, w3, w4, w5, w6, w7, w8, w9, w10⟩, (p0.cut (p1.cut (p2.cut (p3.cut (p4.cut (p5.cut (p6.cut (p7.cut (p8.cut (p9.cut (p10.cut (.fin (hl.trans (by kernel_rfl))))))))))))))⟩
theorem open_t24 {H : Type} (enc : TypeId × Value → H) (w : World) : Opens enc Tryz.prog w 24 c_TNetwork W_TNetwork := by
  intro fuel cs x h hz
  obtain ⟨hl, n, hf⟩ := fields_of Tryz.underlying24 h hz
  obtain ⟨a0, w0, p0⟩ := field_at hf 0 rfl (off := 0) (sz := 1) (ft := 22) ⟨rfl, by kernel_rfl, rfl⟩ (opens_slice (wd := 25) (by' := 448) Tryz.underlying22 (by kernel_rfl) (by kernel_rfl) (by decide) (open_t61 enc w))
  exact ⟨⟨a0⟩, w0, (p0.cut (.fin (hl.trans (by kernel_rfl))))⟩
end Nv
