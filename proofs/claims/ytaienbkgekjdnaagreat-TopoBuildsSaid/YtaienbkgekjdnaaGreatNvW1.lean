/- What comes in is of the typed data. -/
import Derived.Test.YtaienbkgekjdnaaGreatProg
import Derived.Test.YtaienbkgekjdnaaGreatNvV1
import Derived.KernelRfl
set_option maxRecDepth 100000
namespace Nv
open Go Go.Proofs
theorem Zld {H : Type} (enc : TypeId × Value → H) (w : World) : Opens enc Tryz.prog w 64 Zn R6 := by
  intro fuel cs x h hz
  obtain ⟨hl, n, hf⟩ := JB Tryz.underlying64 h hz
  obtain ⟨a0, w0, p0⟩ := ZS hf 0 rfl (off := 0) (sz := 1) (ft := 9) ⟨rfl, by kernel_rfl, rfl⟩ (Wc Tryz.underlying9)
  obtain ⟨a1, w1, p1⟩ := ZS hf 1 rfl (off := 1) (sz := 1) (ft := 62) ⟨rfl, by kernel_rfl, rfl⟩ (X0 Tryz.underlying62)
  obtain ⟨a2, w2, p2⟩ := ZS hf 2 rfl (off := 2) (sz := 1) (ft := 3) ⟨rfl, by kernel_rfl, rfl⟩ (X0 Tryz.underlying3)
  obtain ⟨a3, w3, p3⟩ := ZS hf 3 rfl (off := 3) (sz := 1) (ft := 3) ⟨rfl, by kernel_rfl, rfl⟩ (X0 Tryz.underlying3)
  obtain ⟨a4, w4, p4⟩ := ZS hf 4 rfl (off := 4) (sz := 1) (ft := 4) ⟨rfl, by kernel_rfl, rfl⟩ (Wx Tryz.underlying4)
  obtain ⟨a5, w5, p5⟩ := ZS hf 5 rfl (off := 5) (sz := 1) (ft := 4) ⟨rfl, by kernel_rfl, rfl⟩ (Wx Tryz.underlying4)
  obtain ⟨a6, w6, p6⟩ := ZS hf 6 rfl (off := 6) (sz := 1) (ft := 3) ⟨rfl, by kernel_rfl, rfl⟩ (X0 Tryz.underlying3)
  obtain ⟨a7, w7, p7⟩ := ZS hf 7 rfl (off := 7) (sz := 1) (ft := 3) ⟨rfl, by kernel_rfl, rfl⟩ (X0 Tryz.underlying3)
  obtain ⟨a8, w8, p8⟩ := ZS hf 8 rfl (off := 8) (sz := 1) (ft := 4) ⟨rfl, by kernel_rfl, rfl⟩ (Wx Tryz.underlying4)
  obtain ⟨a9, w9, p9⟩ := ZS hf 9 rfl (off := 9) (sz := 1) (ft := 9) ⟨rfl, by kernel_rfl, rfl⟩ (Wc Tryz.underlying9)
  obtain ⟨a10, w10, p10⟩ := ZS hf 10 rfl (off := 10) (sz := 1) (ft := 9) ⟨rfl, by kernel_rfl, rfl⟩ (Wc Tryz.underlying9)
  obtain ⟨a11, w11, p11⟩ := ZS hf 11 rfl (off := 11) (sz := 1) (ft := 3) ⟨rfl, by kernel_rfl, rfl⟩ (X0 Tryz.underlying3)
  exact ⟨⟨a0, a1, a2, a3, a4, a5, a6, a7, a8, a9, a10, a11⟩, ⟨w0, w1, w2, w3, w4, w5, w6, w7, w8, w9, w10, w11⟩, (p0.cut (p1.cut (p2.cut (p3.cut (p4.cut (p5.cut (p6.cut (p7.cut (p8.cut (p9.cut (p10.cut (p11.cut (.fin (hl.trans (by kernel_rfl)))))))))))))))⟩
theorem KI {H : Type} (enc : TypeId × Value → H) (w : World) : Opens enc Tryz.prog w 66 Z9 Gt := by
  intro fuel cs x h hz
  obtain ⟨hl, n, hf⟩ := JB Tryz.underlying66 h hz
  obtain ⟨a0, w0, p0⟩ := ZS hf 0 rfl (off := 0) (sz := 1) (ft := 62) ⟨rfl, by kernel_rfl, rfl⟩ (X0 Tryz.underlying62)
  obtain ⟨a1, w1, p1⟩ := ZS hf 1 rfl (off := 1) (sz := 1) (ft := 3) ⟨rfl, by kernel_rfl, rfl⟩ (X0 Tryz.underlying3)
  exact ⟨⟨a0, a1⟩, ⟨w0, w1⟩, (p0.cut (p1.cut (.fin (hl.trans (by kernel_rfl)))))⟩
theorem ZjL {H : Type} (enc : TypeId × Value → H) (w : World) : Opens enc Tryz.prog w 160 G7 Zcn := by
  intro fuel cs x h hz
  obtain ⟨hl, n, hf⟩ := JB Tryz.underlying160 h hz
  obtain ⟨a0, w0, p0⟩ := ZS hf 0 rfl (off := 0) (sz := 1) (ft := 4) ⟨rfl, by kernel_rfl, rfl⟩ (Wx Tryz.underlying4)
  obtain ⟨a1, w1, p1⟩ := ZS hf 1 rfl (off := 1) (sz := 2) (ft := 66) ⟨rfl, by kernel_rfl, rfl⟩ (KI enc w)
  obtain ⟨a2, w2, p2⟩ := ZS hf 2 rfl (off := 3) (sz := 1) (ft := 3) ⟨rfl, by kernel_rfl, rfl⟩ (X0 Tryz.underlying3)
  obtain ⟨a3, w3, p3⟩ := ZS hf 3 rfl (off := 4) (sz := 1) (ft := 3) ⟨rfl, by kernel_rfl, rfl⟩ (X0 Tryz.underlying3)
  exact ⟨⟨a0, a1, a2, a3⟩, ⟨w0, w1, w2, w3⟩, (p0.cut (p1.cut (p2.cut (p3.cut (.fin (hl.trans (by kernel_rfl)))))))⟩
theorem ZjM {H : Type} (enc : TypeId × Value → H) (w : World) : Opens enc Tryz.prog w 109 ZC Rj := by
  intro fuel cs x h hz
  obtain ⟨hl, n, hf⟩ := JB Tryz.underlying109 h hz
  obtain ⟨a0, w0, p0⟩ := ZS hf 0 rfl (off := 0) (sz := 1) (ft := 9) ⟨rfl, by kernel_rfl, rfl⟩ (Wc Tryz.underlying9)
  obtain ⟨a1, w1, p1⟩ := ZS hf 1 rfl (off := 1) (sz := 1) (ft := 107) ⟨rfl, by kernel_rfl, rfl⟩ (Jg (wd := 5) (by' := 40) Tryz.underlying107 (by kernel_rfl) (by kernel_rfl) (by decide) (ZjL enc w))
  exact ⟨⟨a0, a1⟩, ⟨w0, w1⟩, (p0.cut (p1.cut (.fin (hl.trans (by kernel_rfl)))))⟩
theorem ZjN {H : Type} (enc : TypeId × Value → H) (w : World) : Opens enc Tryz.prog w 164 ZbO Zd6 := by
  intro fuel cs x h hz
  obtain ⟨hl, n, hf⟩ := JB Tryz.underlying164 h hz
  obtain ⟨a0, w0, p0⟩ := ZS hf 0 rfl (off := 0) (sz := 1) (ft := 4) ⟨rfl, by kernel_rfl, rfl⟩ (Wx Tryz.underlying4)
  obtain ⟨a1, w1, p1⟩ := ZS hf 1 rfl (off := 1) (sz := 1) (ft := 9) ⟨rfl, by kernel_rfl, rfl⟩ (Wc Tryz.underlying9)
  obtain ⟨a2, w2, p2⟩ := ZS hf 2 rfl (off := 2) (sz := 1) (ft := 3) ⟨rfl, by kernel_rfl, rfl⟩ (X0 Tryz.underlying3)
  obtain ⟨a3, w3, p3⟩ := ZS hf 3 rfl (off := 3) (sz := 1) (ft := 3) ⟨rfl, by kernel_rfl, rfl⟩ (X0 Tryz.underlying3)
  obtain ⟨a4, w4, p4⟩ := ZS hf 4 rfl (off := 4) (sz := 1) (ft := 3) ⟨rfl, by kernel_rfl, rfl⟩ (X0 Tryz.underlying3)
  obtain ⟨a5, w5, p5⟩ := ZS hf 5 rfl (off := 5) (sz := 1) (ft := 3) ⟨rfl, by kernel_rfl, rfl⟩ (X0 Tryz.underlying3)
  obtain ⟨a6, w6, p6⟩ := ZS hf 6 rfl (off := 6) (sz := 1) (ft := 3) ⟨rfl, by kernel_rfl, rfl⟩ (X0 Tryz.underlying3)
  exact ⟨⟨a0, a1, a2, a3, a4, a5, a6⟩, ⟨w0, w1, w2, w3, w4, w5, w6⟩, (p0.cut (p1.cut (p2.cut (p3.cut (p4.cut (p5.cut (p6.cut (.fin (hl.trans (by kernel_rfl))))))))))⟩
theorem ZjO {H : Type} (enc : TypeId × Value → H) (w : World) : Opens enc Tryz.prog w 112 Z6 Zbg := by
  intro fuel cs x h hz
  obtain ⟨hl, n, hf⟩ := JB Tryz.underlying112 h hz
  obtain ⟨a0, w0, p0⟩ := ZS hf 0 rfl (off := 0) (sz := 1) (ft := 9) ⟨rfl, by kernel_rfl, rfl⟩ (Wc Tryz.underlying9)
  obtain ⟨a1, w1, p1⟩ := ZS hf 1 rfl (off := 1) (sz := 1) (ft := 110) ⟨rfl, by kernel_rfl, rfl⟩ (Jg (wd := 7) (by' := 64) Tryz.underlying110 (by kernel_rfl) (by kernel_rfl) (by decide) (ZjN enc w))
  exact ⟨⟨a0, a1⟩, ⟨w0, w1⟩, (p0.cut (p1.cut (.fin (hl.trans (by kernel_rfl)))))⟩
theorem Zgw {H : Type} (enc : TypeId × Value → H) (w : World) : Opens enc Tryz.prog w 168 Zh0 Zbh := by
  intro fuel cs x h hz
  obtain ⟨hl, n, hf⟩ := JB Tryz.underlying168 h hz
  obtain ⟨a0, w0, p0⟩ := ZS hf 0 rfl (off := 0) (sz := 1) (ft := 62) ⟨rfl, by kernel_rfl, rfl⟩ (X0 Tryz.underlying62)
  obtain ⟨a1, w1, p1⟩ := ZS hf 1 rfl (off := 1) (sz := 1) (ft := 62) ⟨rfl, by kernel_rfl, rfl⟩ (X0 Tryz.underlying62)
  exact ⟨⟨a0, a1⟩, ⟨w0, w1⟩, (p0.cut (p1.cut (.fin (hl.trans (by kernel_rfl)))))⟩
theorem Zgx {H : Type} (enc : TypeId × Value → H) (w : World) : Opens enc Tryz.prog w 170 Kr R7 := by
  intro fuel cs x h hz
  obtain ⟨hl, n, hf⟩ := JB Tryz.underlying170 h hz
  obtain ⟨a0, w0, p0⟩ := ZS hf 0 rfl (off := 0) (sz := 1) (ft := 3) ⟨rfl, by kernel_rfl, rfl⟩ (X0 Tryz.underlying3)
  obtain ⟨a1, w1, p1⟩ := ZS hf 1 rfl (off := 1) (sz := 1) (ft := 3) ⟨rfl, by kernel_rfl, rfl⟩ (X0 Tryz.underlying3)
  exact ⟨⟨a0, a1⟩, ⟨w0, w1⟩, (p0.cut (p1.cut (.fin (hl.trans (by kernel_rfl)))))⟩
theorem ZjP {H : Type} (enc : TypeId × Value → H) (w : World) : Opens enc Tryz.prog w 172 Zdn Zjg := by
  intro fuel cs x h hz
  obtain ⟨hl, n, hf⟩ := JB Tryz.underlying172 h hz
  obtain ⟨a0, w0, p0⟩ := ZS hf 0 rfl (off := 0) (sz := 1) (ft := 4) ⟨rfl, by kernel_rfl, rfl⟩ (Wx Tryz.underlying4)
  obtain ⟨a1, w1, p1⟩ := ZS hf 1 rfl (off := 1) (sz := 1) (ft := 3) ⟨rfl, by kernel_rfl, rfl⟩ (X0 Tryz.underlying3)
  obtain ⟨a2, w2, p2⟩ := ZS hf 2 rfl (off := 2) (sz := 2) (ft := 168) ⟨rfl, by kernel_rfl, rfl⟩ (Zgw enc w)
  obtain ⟨a3, w3, p3⟩ := ZS hf 3 rfl (off := 4) (sz := 2) (ft := 168) ⟨rfl, by kernel_rfl, rfl⟩ (Zgw enc w)
  obtain ⟨a4, w4, p4⟩ := ZS hf 4 rfl (off := 6) (sz := 2) (ft := 170) ⟨rfl, by kernel_rfl, rfl⟩ (Zgx enc w)
  obtain ⟨a5, w5, p5⟩ := ZS hf 5 rfl (off := 8) (sz := 2) (ft := 170) ⟨rfl, by kernel_rfl, rfl⟩ (Zgx enc w)
  exact ⟨⟨a0, a1, a2, a3, a4, a5⟩, ⟨w0, w1, w2, w3, w4, w5⟩, (p0.cut (p1.cut (p2.cut (p3.cut (p4.cut (p5.cut (.fin (hl.trans (by kernel_rfl)))))))))⟩
theorem ZjQ {H : Type} (enc : TypeId × Value → H) (w : World) : Opens enc Tryz.prog w 115 Qb ZiM := by
  intro fuel cs x h hz
  obtain ⟨hl, n, hf⟩ := JB Tryz.underlying115 h hz
  obtain ⟨a0, w0, p0⟩ := ZS hf 0 rfl (off := 0) (sz := 1) (ft := 9) ⟨rfl, by kernel_rfl, rfl⟩ (Wc Tryz.underlying9)
  obtain ⟨a1, w1, p1⟩ := ZS hf 1 rfl (off := 1) (sz := 1) (ft := 113) ⟨rfl, by kernel_rfl, rfl⟩ (Jg (wd := 10) (by' := 64) Tryz.underlying113 (by kernel_rfl) (by kernel_rfl) (by decide) (ZjP enc w))
  exact ⟨⟨a0, a1⟩, ⟨w0, w1⟩, (p0.cut (p1.cut (.fin (hl.trans (by kernel_rfl)))))⟩
theorem ZjR {H : Type} (enc : TypeId × Value → H) (w : World) : Opens enc Tryz.prog w 131 Xa KG := by
  intro fuel cs x h hz
  obtain ⟨hl, n, hf⟩ := JB Tryz.underlying131 h hz
  obtain ⟨a0, w0, p0⟩ := ZS hf 0 rfl (off := 0) (sz := 1) (ft := 3) ⟨rfl, by kernel_rfl, rfl⟩ (X0 Tryz.underlying3)
  obtain ⟨a1, w1, p1⟩ := ZS hf 1 rfl (off := 1) (sz := 1) (ft := 62) ⟨rfl, by kernel_rfl, rfl⟩ (X0 Tryz.underlying62)
  obtain ⟨a2, w2, p2⟩ := ZS hf 2 rfl (off := 2) (sz := 1) (ft := 62) ⟨rfl, by kernel_rfl, rfl⟩ (X0 Tryz.underlying62)
  obtain ⟨a3, w3, p3⟩ := ZS hf 3 rfl (off := 3) (sz := 1) (ft := 3) ⟨rfl, by kernel_rfl, rfl⟩ (X0 Tryz.underlying3)
  obtain ⟨a4, w4, p4⟩ := ZS hf 4 rfl (off := 4) (sz := 1) (ft := 3) ⟨rfl, by kernel_rfl, rfl⟩ (X0 Tryz.underlying3)
  obtain ⟨a5, w5, p5⟩ := ZS hf 5 rfl (off := 5) (sz := 1) (ft := 3) ⟨rfl, by kernel_rfl, rfl⟩ (X0 Tryz.underlying3)
  obtain ⟨a6, w6, p6⟩ := ZS hf 6 rfl (off := 6) (sz := 1) (ft := 9) ⟨rfl, by kernel_rfl, rfl⟩ (Wc Tryz.underlying9)
  obtain ⟨a7, w7, p7⟩ := ZS hf 7 rfl (off := 7) (sz := 1) (ft := 62) ⟨rfl, by kernel_rfl, rfl⟩ (X0 Tryz.underlying62)
  obtain ⟨a8, w8, p8⟩ := ZS hf 8 rfl (off := 8) (sz := 1) (ft := 62) ⟨rfl, by kernel_rfl, rfl⟩ (X0 Tryz.underlying62)
  exact ⟨⟨a0, a1, a2, a3, a4, a5, a6, a7, a8⟩, ⟨w0, w1, w2, w3, w4, w5, w6, w7, w8⟩, (p0.cut (p1.cut (p2.cut (p3.cut (p4.cut (p5.cut (p6.cut (p7.cut (p8.cut (.fin (hl.trans (by kernel_rfl))))))))))))⟩
theorem ZjS {H : Type} (enc : TypeId × Value → H) (w : World) : Opens enc Tryz.prog w 133 Z5 KH := by
  intro fuel cs x h hz
  obtain ⟨hl, n, hf⟩ := JB Tryz.underlying133 h hz
  obtain ⟨a0, w0, p0⟩ := ZS hf 0 rfl (off := 0) (sz := 2) (ft := 66) ⟨rfl, by kernel_rfl, rfl⟩ (KI enc w)
  obtain ⟨a1, w1, p1⟩ := ZS hf 1 rfl (off := 2) (sz := 1) (ft := 62) ⟨rfl, by kernel_rfl, rfl⟩ (X0 Tryz.underlying62)
  obtain ⟨a2, w2, p2⟩ := ZS hf 2 rfl (off := 3) (sz := 1) (ft := 9) ⟨rfl, by kernel_rfl, rfl⟩ (Wc Tryz.underlying9)
  obtain ⟨a3, w3, p3⟩ := ZS hf 3 rfl (off := 4) (sz := 1) (ft := 4) ⟨rfl, by kernel_rfl, rfl⟩ (Wx Tryz.underlying4)
  obtain ⟨a4, w4, p4⟩ := ZS hf 4 rfl (off := 5) (sz := 1) (ft := 3) ⟨rfl, by kernel_rfl, rfl⟩ (X0 Tryz.underlying3)
  obtain ⟨a5, w5, p5⟩ := ZS hf 5 rfl (off := 6) (sz := 1) (ft := 3) ⟨rfl, by kernel_rfl, rfl⟩ (X0 Tryz.underlying3)
  exact ⟨⟨a0, a1, a2, a3, a4, a5⟩, ⟨w0, w1, w2, w3, w4, w5⟩, (p0.cut (p1.cut (p2.cut (p3.cut (p4.cut (p5.cut (.fin (hl.trans (by kernel_rfl)))))))))⟩
theorem ZjT {H : Type} (enc : TypeId × Value → H) (w : World) : Opens enc Tryz.prog w 177 Xx ZdA := by
  intro fuel cs x h hz
  obtain ⟨hl, n, hf⟩ := JB Tryz.underlying177 h hz
  obtain ⟨a0, w0, p0⟩ := ZS hf 0 rfl (off := 0) (sz := 1) (ft := 3) ⟨rfl, by kernel_rfl, rfl⟩ (X0 Tryz.underlying3)
  obtain ⟨a1, w1, p1⟩ := ZS hf 1 rfl (off := 1) (sz := 2) (ft := 66) ⟨rfl, by kernel_rfl, rfl⟩ (KI enc w)
  exact ⟨⟨a0, a1⟩, ⟨w0, w1⟩, (p0.cut (p1.cut (.fin (hl.trans (by kernel_rfl)))))⟩
theorem Zd8 {H : Type} (enc : TypeId × Value → H) (w : World) : Opens enc Tryz.prog w 180 ZD RI := by
  intro fuel cs x h hz
  obtain ⟨hl, n, hf⟩ := JB Tryz.underlying180 h hz
  obtain ⟨a0, w0, p0⟩ := ZS hf 0 rfl (off := 0) (sz := 1) (ft := 3) ⟨rfl, by kernel_rfl, rfl⟩ (X0 Tryz.underlying3)
  obtain ⟨a1, w1, p1⟩ := ZS hf 1 rfl (off := 1) (sz := 1) (ft := 3) ⟨rfl, by kernel_rfl, rfl⟩ (X0 Tryz.underlying3)
  obtain ⟨a2, w2, p2⟩ := ZS hf 2 rfl (off := 2) (sz := 1) (ft := 3) ⟨rfl, by kernel_rfl, rfl⟩ (X0 Tryz.underlying3)
  obtain ⟨a3, w3, p3⟩ := ZS hf 3 rfl (off := 3) (sz := 1) (ft := 9) ⟨rfl, by kernel_rfl, rfl⟩ (Wc Tryz.underlying9)
  obtain ⟨a4, w4, p4⟩ := ZS hf 4 rfl (off := 4) (sz := 1) (ft := 3) ⟨rfl, by kernel_rfl, rfl⟩ (X0 Tryz.underlying3)
  exact ⟨⟨a0, a1, a2, a3, a4⟩, ⟨w0, w1, w2, w3, w4⟩, (p0.cut (p1.cut (p2.cut (p3.cut (p4.cut (.fin (hl.trans (by kernel_rfl))))))))⟩
theorem Zle {H : Type} (enc : TypeId × Value → H) (w : World) : Opens enc Tryz.prog w 51 Kt R8 := by
  intro fuel cs x h hz
  obtain ⟨hl, n, hf⟩ := JB Tryz.underlying51 h hz
  obtain ⟨a0, w0, p0⟩ := ZS hf 0 rfl (off := 0) (sz := 1) (ft := 4) ⟨rfl, by kernel_rfl, rfl⟩ (Wx Tryz.underlying4)
  obtain ⟨a1, w1, p1⟩ := ZS hf 1 rfl (off := 1) (sz := 1) (ft := 3) ⟨rfl, by kernel_rfl, rfl⟩ (X0 Tryz.underlying3)
  obtain ⟨a2, w2, p2⟩ := ZS hf 2 rfl (off := 2) (sz := 1) (ft := 48) ⟨rfl, by kernel_rfl, rfl⟩ (Jg (wd := 3) (by' := 24) Tryz.underlying48 (by kernel_rfl) (by kernel_rfl) (by decide) (ZjT enc w))
  obtain ⟨a3, w3, p3⟩ := ZS hf 3 rfl (off := 3) (sz := 1) (ft := 49) ⟨rfl, by kernel_rfl, rfl⟩ (Jg (wd := 5) (by' := 48) Tryz.underlying49 (by kernel_rfl) (by kernel_rfl) (by decide) (Zd8 enc w))
  exact ⟨⟨a0, a1, a2, a3⟩, ⟨w0, w1, w2, w3⟩, (p0.cut (p1.cut (p2.cut (p3.cut (.fin (hl.trans (by kernel_rfl)))))))⟩
theorem Zlf {H : Type} (enc : TypeId × Value → H) (w : World) : Opens enc Tryz.prog w 53 Zdo GS := by
  intro fuel cs x h hz
  obtain ⟨hl, n, hf⟩ := JB Tryz.underlying53 h hz
  obtain ⟨a0, w0, p0⟩ := ZS hf 0 rfl (off := 0) (sz := 1) (ft := 4) ⟨rfl, by kernel_rfl, rfl⟩ (Wx Tryz.underlying4)
  obtain ⟨a1, w1, p1⟩ := ZS hf 1 rfl (off := 1) (sz := 1) (ft := 3) ⟨rfl, by kernel_rfl, rfl⟩ (X0 Tryz.underlying3)
  obtain ⟨a2, w2, p2⟩ := ZS hf 2 rfl (off := 2) (sz := 1) (ft := 9) ⟨rfl, by kernel_rfl, rfl⟩ (Wc Tryz.underlying9)
  obtain ⟨a3, w3, p3⟩ := ZS hf 3 rfl (off := 3) (sz := 1) (ft := 9) ⟨rfl, by kernel_rfl, rfl⟩ (Wc Tryz.underlying9)
  obtain ⟨a4, w4, p4⟩ := ZS hf 4 rfl (off := 4) (sz := 1) (ft := 49) ⟨rfl, by kernel_rfl, rfl⟩ (Jg (wd := 5) (by' := 48) Tryz.underlying49 (by kernel_rfl) (by kernel_rfl) (by decide) (Zd8 enc w))
  exact ⟨⟨a0, a1, a2, a3, a4⟩, ⟨w0, w1, w2, w3, w4⟩, (p0.cut (p1.cut (p2.cut (p3.cut (p4.cut (.fin (hl.trans (by kernel_rfl))))))))⟩
theorem ZjU {H : Type} (enc : TypeId × Value → H) (w : World) : Opens enc Tryz.prog w 183 XG Zbi := by
  intro fuel cs x h hz
  obtain ⟨hl, n, hf⟩ := JB Tryz.underlying183 h hz
  obtain ⟨a0, w0, p0⟩ := ZS hf 0 rfl (off := 0) (sz := 1) (ft := 62) ⟨rfl, by kernel_rfl, rfl⟩ (X0 Tryz.underlying62)
  obtain ⟨a1, w1, p1⟩ := ZS hf 1 rfl (off := 1) (sz := 1) (ft := 3) ⟨rfl, by kernel_rfl, rfl⟩ (X0 Tryz.underlying3)
  obtain ⟨a2, w2, p2⟩ := ZS hf 2 rfl (off := 2) (sz := 1) (ft := 9) ⟨rfl, by kernel_rfl, rfl⟩ (Wc Tryz.underlying9)
  obtain ⟨a3, w3, p3⟩ := ZS hf 3 rfl (off := 3) (sz := 1) (ft := 9) ⟨rfl, by kernel_rfl, rfl⟩ (Wc Tryz.underlying9)
  exact ⟨⟨a0, a1, a2, a3⟩, ⟨w0, w1, w2, w3⟩, (p0.cut (p1.cut (p2.cut (p3.cut (.fin (hl.trans (by kernel_rfl)))))))⟩
theorem ZjV {H : Type} (enc : TypeId × Value → H) (w : World) : Opens enc Tryz.prog w 187 Xy ZdB := by
  intro fuel cs x h hz
  obtain ⟨hl, n, hf⟩ := JB Tryz.underlying187 h hz
  obtain ⟨a0, w0, p0⟩ := ZS hf 0 rfl (off := 0) (sz := 2) (ft := 66) ⟨rfl, by kernel_rfl, rfl⟩ (KI enc w)
  obtain ⟨a1, w1, p1⟩ := ZS hf 1 rfl (off := 2) (sz := 1) (ft := 4) ⟨rfl, by kernel_rfl, rfl⟩ (Wx Tryz.underlying4)
  exact ⟨⟨a0, a1⟩, ⟨w0, w1⟩, (p0.cut (p1.cut (.fin (hl.trans (by kernel_rfl)))))⟩
theorem ZjW {H : Type} (enc : TypeId × Value → H) (w : World) : Opens enc Tryz.prog w 190 Xu ZdC := by
  intro fuel cs x h hz
  obtain ⟨hl, n, hf⟩ := JB Tryz.underlying190 h hz
  obtain ⟨a0, w0, p0⟩ := ZS hf 0 rfl (off := 0) (sz := 2) (ft := 66) ⟨rfl, by kernel_rfl, rfl⟩ (KI enc w)
  obtain ⟨a1, w1, p1⟩ := ZS hf 1 rfl (off := 2) (sz := 2) (ft := 66) ⟨rfl, by kernel_rfl, rfl⟩ (KI enc w)
  obtain ⟨a2, w2, p2⟩ := ZS hf 2 rfl (off := 4) (sz := 1) (ft := 4) ⟨rfl, by kernel_rfl, rfl⟩ (Wx Tryz.underlying4)
  exact ⟨⟨a0, a1, a2⟩, ⟨w0, w1, w2⟩, (p0.cut (p1.cut (p2.cut (.fin (hl.trans (by kernel_rfl))))))⟩
theorem Zlg {H : Type} (enc : TypeId × Value → H) (w : World) : Opens enc Tryz.prog w 59 UJ Rk := by
  intro fuel cs x h hz
  obtain ⟨hl, n, hf⟩ := JB Tryz.underlying59 h hz
  obtain ⟨a0, w0, p0⟩ := ZS hf 0 rfl (off := 0) (sz := 1) (ft := 4) ⟨rfl, by kernel_rfl, rfl⟩ (Wx Tryz.underlying4)
  obtain ⟨a1, w1, p1⟩ := ZS hf 1 rfl (off := 1) (sz := 1) (ft := 3) ⟨rfl, by kernel_rfl, rfl⟩ (X0 Tryz.underlying3)
  obtain ⟨a2, w2, p2⟩ := ZS hf 2 rfl (off := 2) (sz := 1) (ft := 3) ⟨rfl, by kernel_rfl, rfl⟩ (X0 Tryz.underlying3)
  obtain ⟨a3, w3, p3⟩ := ZS hf 3 rfl (off := 3) (sz := 1) (ft := 54) ⟨rfl, by kernel_rfl, rfl⟩ (Jg (wd := 4) (by' := 48) Tryz.underlying54 (by kernel_rfl) (by kernel_rfl) (by decide) (ZjU enc w))
  obtain ⟨a4, w4, p4⟩ := ZS hf 4 rfl (off := 4) (sz := 1) (ft := 55) ⟨rfl, by kernel_rfl, rfl⟩ (Jg (wd := 2) (by' := 16) Tryz.underlying55 (by kernel_rfl) (by kernel_rfl) (by decide) (KI enc w))
  obtain ⟨a5, w5, p5⟩ := ZS hf 5 rfl (off := 5) (sz := 1) (ft := 56) ⟨rfl, by kernel_rfl, rfl⟩ (Jg (wd := 3) (by' := 24) Tryz.underlying56 (by kernel_rfl) (by kernel_rfl) (by decide) (ZjV enc w))
  obtain ⟨a6, w6, p6⟩ := ZS hf 6 rfl (off := 6) (sz := 1) (ft := 57) ⟨rfl, by kernel_rfl, rfl⟩ (Jg (wd := 5) (by' := 40) Tryz.underlying57 (by kernel_rfl) (by kernel_rfl) (by decide) (ZjW enc w))
  obtain ⟨a7, w7, p7⟩ := ZS hf 7 rfl (off := 7) (sz := 1) (ft := 49) ⟨rfl, by kernel_rfl, rfl⟩ (Jg (wd := 5) (by' := 48) Tryz.underlying49 (by kernel_rfl) (by kernel_rfl) (by decide) (Zd8 enc w))
  exact ⟨⟨a0, a1, a2, a3, a4, a5, a6, a7⟩, ⟨w0, w1, w2, w3, w4, w5, w6, w7⟩, (p0.cut (p1.cut (p2.cut (p3.cut (p4.cut (p5.cut (p6.cut (p7.cut (.fin (hl.trans (by kernel_rfl)))))))))))⟩
theorem Zlh {H : Type} (enc : TypeId × Value → H) (w : World) : Opens enc Tryz.prog w 61 Zx Zd7 := by
  intro fuel cs x h hz
  obtain ⟨hl, n, hf⟩ := JB Tryz.underlying61 h hz
  obtain ⟨a0, w0, p0⟩ := ZS hf 0 rfl (off := 0) (sz := 1) (ft := 9) ⟨rfl, by kernel_rfl, rfl⟩ (Wc Tryz.underlying9)
  obtain ⟨a1, w1, p1⟩ := ZS hf 1 rfl (off := 1) (sz := 1) (ft := 3) ⟨rfl, by kernel_rfl, rfl⟩ (X0 Tryz.underlying3)
  obtain ⟨a2, w2, p2⟩ := ZS hf 2 rfl (off := 2) (sz := 1) (ft := 42) ⟨rfl, by kernel_rfl, rfl⟩ (Jg (wd := 12) (by' := 112) Tryz.underlying42 (by kernel_rfl) (by kernel_rfl) (by decide) (Zld enc w))
  obtain ⟨a3, w3, p3⟩ := ZS hf 3 rfl (off := 3) (sz := 1) (ft := 43) ⟨rfl, by kernel_rfl, rfl⟩ (Jg (wd := 2) (by' := 40) Tryz.underlying43 (by kernel_rfl) (by kernel_rfl) (by decide) (ZjM enc w))
  obtain ⟨a4, w4, p4⟩ := ZS hf 4 rfl (off := 4) (sz := 1) (ft := 44) ⟨rfl, by kernel_rfl, rfl⟩ (Jg (wd := 2) (by' := 40) Tryz.underlying44 (by kernel_rfl) (by kernel_rfl) (by decide) (ZjO enc w))
  obtain ⟨a5, w5, p5⟩ := ZS hf 5 rfl (off := 5) (sz := 1) (ft := 45) ⟨rfl, by kernel_rfl, rfl⟩ (Jg (wd := 2) (by' := 40) Tryz.underlying45 (by kernel_rfl) (by kernel_rfl) (by decide) (ZjQ enc w))
  obtain ⟨a6, w6, p6⟩ := ZS hf 6 rfl (off := 6) (sz := 1) (ft := 46) ⟨rfl, by kernel_rfl, rfl⟩ (Jg (wd := 9) (by' := 64) Tryz.underlying46 (by kernel_rfl) (by kernel_rfl) (by decide) (ZjR enc w))
  obtain ⟨a7, w7, p7⟩ := ZS hf 7 rfl (off := 7) (sz := 1) (ft := 47) ⟨rfl, by kernel_rfl, rfl⟩ (Jg (wd := 7) (by' := 64) Tryz.underlying47 (by kernel_rfl) (by kernel_rfl) (by decide) (ZjS enc w))
  obtain ⟨a8, w8, p8⟩ := ZS hf 8 rfl (off := 8) (sz := 4) (ft := 51) ⟨rfl, by kernel_rfl, rfl⟩ (Zle enc w)
  obtain ⟨a9, w9, p9⟩ := ZS hf 9 rfl (off := 12) (sz := 5) (ft := 53) ⟨rfl, by kernel_rfl, rfl⟩ (Zlf enc w)
  obtain ⟨a10, w10, p10⟩ := ZS hf 10 rfl (off := 17) (sz := 8) (ft := 59) ⟨rfl, by kernel_rfl, rfl⟩ (Zlg enc w)
  exact ⟨⟨a0, a1, a2, a3, a4, a5, a6, a7, a8, a9, a10⟩, ⟨w0, w1, w2, w3, w4, w5, w6, w7, w8, w9, w10⟩, (p0.cut (p1.cut (p2.cut (p3.cut (p4.cut (p5.cut (p6.cut (p7.cut (p8.cut (p9.cut (p10.cut (.fin (hl.trans (by kernel_rfl))))))))))))))⟩
theorem Zli {H : Type} (enc : TypeId × Value → H) (w : World) : Opens enc Tryz.prog w 24 Yg ZcN := by
  intro fuel cs x h hz
  obtain ⟨hl, n, hf⟩ := JB Tryz.underlying24 h hz
  obtain ⟨a0, w0, p0⟩ := ZS hf 0 rfl (off := 0) (sz := 1) (ft := 22) ⟨rfl, by kernel_rfl, rfl⟩ (Jg (wd := 25) (by' := 448) Tryz.underlying22 (by kernel_rfl) (by kernel_rfl) (by decide) (Zlh enc w))
  exact ⟨⟨a0⟩, w0, (p0.cut (.fin (hl.trans (by kernel_rfl))))⟩
end Nv
