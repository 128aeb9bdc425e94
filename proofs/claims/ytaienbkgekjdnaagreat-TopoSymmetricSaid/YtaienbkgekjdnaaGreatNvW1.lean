/- What comes in is of the typed data. -/
import Derived.Test.YtaienbkgekjdnaaGreatProg
import Derived.Test.YtaienbkgekjdnaaGreatNvV1
import Derived.KernelRfl
set_option maxRecDepth 100000
namespace Nv
open Go Go.Proofs
theorem Zjx {H : Type} (enc : TypeId × Value → H) (w : World) : Opens enc Tryz.prog w 64 Zj KC := by
  intro fuel cs x h hz
  obtain ⟨hl, n, hf⟩ := Qr Tryz.underlying64 h hz
  obtain ⟨a0, w0, p0⟩ := ZE hf 0 rfl (off := 0) (sz := 1) (ft := 9) ⟨rfl, by kernel_rfl, rfl⟩ (Ve Tryz.underlying9)
  obtain ⟨a1, w1, p1⟩ := ZE hf 1 rfl (off := 1) (sz := 1) (ft := 62) ⟨rfl, by kernel_rfl, rfl⟩ (XL Tryz.underlying62)
  obtain ⟨a2, w2, p2⟩ := ZE hf 2 rfl (off := 2) (sz := 1) (ft := 3) ⟨rfl, by kernel_rfl, rfl⟩ (XL Tryz.underlying3)
  obtain ⟨a3, w3, p3⟩ := ZE hf 3 rfl (off := 3) (sz := 1) (ft := 3) ⟨rfl, by kernel_rfl, rfl⟩ (XL Tryz.underlying3)
  obtain ⟨a4, w4, p4⟩ := ZE hf 4 rfl (off := 4) (sz := 1) (ft := 4) ⟨rfl, by kernel_rfl, rfl⟩ (Vy Tryz.underlying4)
  obtain ⟨a5, w5, p5⟩ := ZE hf 5 rfl (off := 5) (sz := 1) (ft := 4) ⟨rfl, by kernel_rfl, rfl⟩ (Vy Tryz.underlying4)
  obtain ⟨a6, w6, p6⟩ := ZE hf 6 rfl (off := 6) (sz := 1) (ft := 3) ⟨rfl, by kernel_rfl, rfl⟩ (XL Tryz.underlying3)
  obtain ⟨a7, w7, p7⟩ := ZE hf 7 rfl (off := 7) (sz := 1) (ft := 3) ⟨rfl, by kernel_rfl, rfl⟩ (XL Tryz.underlying3)
  obtain ⟨a8, w8, p8⟩ := ZE hf 8 rfl (off := 8) (sz := 1) (ft := 4) ⟨rfl, by kernel_rfl, rfl⟩ (Vy Tryz.underlying4)
  obtain ⟨a9, w9, p9⟩ := ZE hf 9 rfl (off := 9) (sz := 1) (ft := 9) ⟨rfl, by kernel_rfl, rfl⟩ (Ve Tryz.underlying9)
  obtain ⟨a10, w10, p10⟩ := ZE hf 10 rfl (off := 10) (sz := 1) (ft := 9) ⟨rfl, by kernel_rfl, rfl⟩ (Ve Tryz.underlying9)
  obtain ⟨a11, w11, p11⟩ := ZE hf 11 rfl (off := 11) (sz := 1) (ft := 3) ⟨rfl, by kernel_rfl, rfl⟩ (XL Tryz.underlying3)
  exact ⟨⟨a0, a1, a2, a3, a4, a5, a6, a7, a8, a9, a10, a11⟩, ⟨w0, w1, w2, w3, w4, w5, w6, w7, w8, w9, w10, w11⟩, (p0.cut (p1.cut (p2.cut (p3.cut (p4.cut (p5.cut (p6.cut (p7.cut (p8.cut (p9.cut (p10.cut (p11.cut (.fin (hl.trans (by kernel_rfl)))))))))))))))⟩
theorem Gv {H : Type} (enc : TypeId × Value → H) (w : World) : Opens enc Tryz.prog w 66 Xg Uu := by
  intro fuel cs x h hz
  obtain ⟨hl, n, hf⟩ := Qr Tryz.underlying66 h hz
  obtain ⟨a0, w0, p0⟩ := ZE hf 0 rfl (off := 0) (sz := 1) (ft := 62) ⟨rfl, by kernel_rfl, rfl⟩ (XL Tryz.underlying62)
  obtain ⟨a1, w1, p1⟩ := ZE hf 1 rfl (off := 1) (sz := 1) (ft := 3) ⟨rfl, by kernel_rfl, rfl⟩ (XL Tryz.underlying3)
  exact ⟨⟨a0, a1⟩, ⟨w0, w1⟩, (p0.cut (p1.cut (.fin (hl.trans (by kernel_rfl)))))⟩
theorem Zh6 {H : Type} (enc : TypeId × Value → H) (w : World) : Opens enc Tryz.prog w 160 GQ ZaC := by
  intro fuel cs x h hz
  obtain ⟨hl, n, hf⟩ := Qr Tryz.underlying160 h hz
  obtain ⟨a0, w0, p0⟩ := ZE hf 0 rfl (off := 0) (sz := 1) (ft := 4) ⟨rfl, by kernel_rfl, rfl⟩ (Vy Tryz.underlying4)
  obtain ⟨a1, w1, p1⟩ := ZE hf 1 rfl (off := 1) (sz := 2) (ft := 66) ⟨rfl, by kernel_rfl, rfl⟩ (Gv enc w)
  obtain ⟨a2, w2, p2⟩ := ZE hf 2 rfl (off := 3) (sz := 1) (ft := 3) ⟨rfl, by kernel_rfl, rfl⟩ (XL Tryz.underlying3)
  obtain ⟨a3, w3, p3⟩ := ZE hf 3 rfl (off := 4) (sz := 1) (ft := 3) ⟨rfl, by kernel_rfl, rfl⟩ (XL Tryz.underlying3)
  exact ⟨⟨a0, a1, a2, a3⟩, ⟨w0, w1, w2, w3⟩, (p0.cut (p1.cut (p2.cut (p3.cut (.fin (hl.trans (by kernel_rfl)))))))⟩
theorem Zh7 {H : Type} (enc : TypeId × Value → H) (w : World) : Opens enc Tryz.prog w 109 Zu GW := by
  intro fuel cs x h hz
  obtain ⟨hl, n, hf⟩ := Qr Tryz.underlying109 h hz
  obtain ⟨a0, w0, p0⟩ := ZE hf 0 rfl (off := 0) (sz := 1) (ft := 9) ⟨rfl, by kernel_rfl, rfl⟩ (Ve Tryz.underlying9)
  obtain ⟨a1, w1, p1⟩ := ZE hf 1 rfl (off := 1) (sz := 1) (ft := 107) ⟨rfl, by kernel_rfl, rfl⟩ (YP (wd := 5) (by' := 40) Tryz.underlying107 (by kernel_rfl) (by kernel_rfl) (by decide) (Zh6 enc w))
  exact ⟨⟨a0, a1⟩, ⟨w0, w1⟩, (p0.cut (p1.cut (.fin (hl.trans (by kernel_rfl)))))⟩
theorem Zh8 {H : Type} (enc : TypeId × Value → H) (w : World) : Opens enc Tryz.prog w 164 ZeS Zcv := by
  intro fuel cs x h hz
  obtain ⟨hl, n, hf⟩ := Qr Tryz.underlying164 h hz
  obtain ⟨a0, w0, p0⟩ := ZE hf 0 rfl (off := 0) (sz := 1) (ft := 4) ⟨rfl, by kernel_rfl, rfl⟩ (Vy Tryz.underlying4)
  obtain ⟨a1, w1, p1⟩ := ZE hf 1 rfl (off := 1) (sz := 1) (ft := 9) ⟨rfl, by kernel_rfl, rfl⟩ (Ve Tryz.underlying9)
  obtain ⟨a2, w2, p2⟩ := ZE hf 2 rfl (off := 2) (sz := 1) (ft := 3) ⟨rfl, by kernel_rfl, rfl⟩ (XL Tryz.underlying3)
  obtain ⟨a3, w3, p3⟩ := ZE hf 3 rfl (off := 3) (sz := 1) (ft := 3) ⟨rfl, by kernel_rfl, rfl⟩ (XL Tryz.underlying3)
  obtain ⟨a4, w4, p4⟩ := ZE hf 4 rfl (off := 4) (sz := 1) (ft := 3) ⟨rfl, by kernel_rfl, rfl⟩ (XL Tryz.underlying3)
  obtain ⟨a5, w5, p5⟩ := ZE hf 5 rfl (off := 5) (sz := 1) (ft := 3) ⟨rfl, by kernel_rfl, rfl⟩ (XL Tryz.underlying3)
  obtain ⟨a6, w6, p6⟩ := ZE hf 6 rfl (off := 6) (sz := 1) (ft := 3) ⟨rfl, by kernel_rfl, rfl⟩ (XL Tryz.underlying3)
  exact ⟨⟨a0, a1, a2, a3, a4, a5, a6⟩, ⟨w0, w1, w2, w3, w4, w5, w6⟩, (p0.cut (p1.cut (p2.cut (p3.cut (p4.cut (p5.cut (p6.cut (.fin (hl.trans (by kernel_rfl))))))))))⟩
theorem Zh9 {H : Type} (enc : TypeId × Value → H) (w : World) : Opens enc Tryz.prog w 112 ZY RH := by
  intro fuel cs x h hz
  obtain ⟨hl, n, hf⟩ := Qr Tryz.underlying112 h hz
  obtain ⟨a0, w0, p0⟩ := ZE hf 0 rfl (off := 0) (sz := 1) (ft := 9) ⟨rfl, by kernel_rfl, rfl⟩ (Ve Tryz.underlying9)
  obtain ⟨a1, w1, p1⟩ := ZE hf 1 rfl (off := 1) (sz := 1) (ft := 110) ⟨rfl, by kernel_rfl, rfl⟩ (YP (wd := 7) (by' := 64) Tryz.underlying110 (by kernel_rfl) (by kernel_rfl) (by decide) (Zh8 enc w))
  exact ⟨⟨a0, a1⟩, ⟨w0, w1⟩, (p0.cut (p1.cut (.fin (hl.trans (by kernel_rfl)))))⟩
theorem ZeT {H : Type} (enc : TypeId × Value → H) (w : World) : Opens enc Tryz.prog w 168 Zgl RI := by
  intro fuel cs x h hz
  obtain ⟨hl, n, hf⟩ := Qr Tryz.underlying168 h hz
  obtain ⟨a0, w0, p0⟩ := ZE hf 0 rfl (off := 0) (sz := 1) (ft := 62) ⟨rfl, by kernel_rfl, rfl⟩ (XL Tryz.underlying62)
  obtain ⟨a1, w1, p1⟩ := ZE hf 1 rfl (off := 1) (sz := 1) (ft := 62) ⟨rfl, by kernel_rfl, rfl⟩ (XL Tryz.underlying62)
  exact ⟨⟨a0, a1⟩, ⟨w0, w1⟩, (p0.cut (p1.cut (.fin (hl.trans (by kernel_rfl)))))⟩
theorem ZeU {H : Type} (enc : TypeId × Value → H) (w : World) : Opens enc Tryz.prog w 170 Ks KD := by
  intro fuel cs x h hz
  obtain ⟨hl, n, hf⟩ := Qr Tryz.underlying170 h hz
  obtain ⟨a0, w0, p0⟩ := ZE hf 0 rfl (off := 0) (sz := 1) (ft := 3) ⟨rfl, by kernel_rfl, rfl⟩ (XL Tryz.underlying3)
  obtain ⟨a1, w1, p1⟩ := ZE hf 1 rfl (off := 1) (sz := 1) (ft := 3) ⟨rfl, by kernel_rfl, rfl⟩ (XL Tryz.underlying3)
  exact ⟨⟨a0, a1⟩, ⟨w0, w1⟩, (p0.cut (p1.cut (.fin (hl.trans (by kernel_rfl)))))⟩
theorem Zia {H : Type} (enc : TypeId × Value → H) (w : World) : Opens enc Tryz.prog w 172 Zfq Zhz := by
  intro fuel cs x h hz
  obtain ⟨hl, n, hf⟩ := Qr Tryz.underlying172 h hz
  obtain ⟨a0, w0, p0⟩ := ZE hf 0 rfl (off := 0) (sz := 1) (ft := 4) ⟨rfl, by kernel_rfl, rfl⟩ (Vy Tryz.underlying4)
  obtain ⟨a1, w1, p1⟩ := ZE hf 1 rfl (off := 1) (sz := 1) (ft := 3) ⟨rfl, by kernel_rfl, rfl⟩ (XL Tryz.underlying3)
  obtain ⟨a2, w2, p2⟩ := ZE hf 2 rfl (off := 2) (sz := 2) (ft := 168) ⟨rfl, by kernel_rfl, rfl⟩ (ZeT enc w)
  obtain ⟨a3, w3, p3⟩ := ZE hf 3 rfl (off := 4) (sz := 2) (ft := 168) ⟨rfl, by kernel_rfl, rfl⟩ (ZeT enc w)
  obtain ⟨a4, w4, p4⟩ := ZE hf 4 rfl (off := 6) (sz := 2) (ft := 170) ⟨rfl, by kernel_rfl, rfl⟩ (ZeU enc w)
  obtain ⟨a5, w5, p5⟩ := ZE hf 5 rfl (off := 8) (sz := 2) (ft := 170) ⟨rfl, by kernel_rfl, rfl⟩ (ZeU enc w)
  exact ⟨⟨a0, a1, a2, a3, a4, a5⟩, ⟨w0, w1, w2, w3, w4, w5⟩, (p0.cut (p1.cut (p2.cut (p3.cut (p4.cut (p5.cut (.fin (hl.trans (by kernel_rfl)))))))))⟩
theorem Zib {H : Type} (enc : TypeId × Value → H) (w : World) : Opens enc Tryz.prog w 115 Ys Zg4 := by
  intro fuel cs x h hz
  obtain ⟨hl, n, hf⟩ := Qr Tryz.underlying115 h hz
  obtain ⟨a0, w0, p0⟩ := ZE hf 0 rfl (off := 0) (sz := 1) (ft := 9) ⟨rfl, by kernel_rfl, rfl⟩ (Ve Tryz.underlying9)
  obtain ⟨a1, w1, p1⟩ := ZE hf 1 rfl (off := 1) (sz := 1) (ft := 113) ⟨rfl, by kernel_rfl, rfl⟩ (YP (wd := 10) (by' := 64) Tryz.underlying113 (by kernel_rfl) (by kernel_rfl) (by decide) (Zia enc w))
  exact ⟨⟨a0, a1⟩, ⟨w0, w1⟩, (p0.cut (p1.cut (.fin (hl.trans (by kernel_rfl)))))⟩
theorem Zic {H : Type} (enc : TypeId × Value → H) (w : World) : Opens enc Tryz.prog w 131 Z3 Gt := by
  intro fuel cs x h hz
  obtain ⟨hl, n, hf⟩ := Qr Tryz.underlying131 h hz
  obtain ⟨a0, w0, p0⟩ := ZE hf 0 rfl (off := 0) (sz := 1) (ft := 3) ⟨rfl, by kernel_rfl, rfl⟩ (XL Tryz.underlying3)
  obtain ⟨a1, w1, p1⟩ := ZE hf 1 rfl (off := 1) (sz := 1) (ft := 62) ⟨rfl, by kernel_rfl, rfl⟩ (XL Tryz.underlying62)
  obtain ⟨a2, w2, p2⟩ := ZE hf 2 rfl (off := 2) (sz := 1) (ft := 62) ⟨rfl, by kernel_rfl, rfl⟩ (XL Tryz.underlying62)
  obtain ⟨a3, w3, p3⟩ := ZE hf 3 rfl (off := 3) (sz := 1) (ft := 3) ⟨rfl, by kernel_rfl, rfl⟩ (XL Tryz.underlying3)
  obtain ⟨a4, w4, p4⟩ := ZE hf 4 rfl (off := 4) (sz := 1) (ft := 3) ⟨rfl, by kernel_rfl, rfl⟩ (XL Tryz.underlying3)
  obtain ⟨a5, w5, p5⟩ := ZE hf 5 rfl (off := 5) (sz := 1) (ft := 3) ⟨rfl, by kernel_rfl, rfl⟩ (XL Tryz.underlying3)
  obtain ⟨a6, w6, p6⟩ := ZE hf 6 rfl (off := 6) (sz := 1) (ft := 9) ⟨rfl, by kernel_rfl, rfl⟩ (Ve Tryz.underlying9)
  obtain ⟨a7, w7, p7⟩ := ZE hf 7 rfl (off := 7) (sz := 1) (ft := 62) ⟨rfl, by kernel_rfl, rfl⟩ (XL Tryz.underlying62)
  obtain ⟨a8, w8, p8⟩ := ZE hf 8 rfl (off := 8) (sz := 1) (ft := 62) ⟨rfl, by kernel_rfl, rfl⟩ (XL Tryz.underlying62)
  exact ⟨⟨a0, a1, a2, a3, a4, a5, a6, a7, a8⟩, ⟨w0, w1, w2, w3, w4, w5, w6, w7, w8⟩, (p0.cut (p1.cut (p2.cut (p3.cut (p4.cut (p5.cut (p6.cut (p7.cut (p8.cut (.fin (hl.trans (by kernel_rfl))))))))))))⟩
theorem Zid {H : Type} (enc : TypeId × Value → H) (w : World) : Opens enc Tryz.prog w 133 Xc Gu := by
  intro fuel cs x h hz
  obtain ⟨hl, n, hf⟩ := Qr Tryz.underlying133 h hz
  obtain ⟨a0, w0, p0⟩ := ZE hf 0 rfl (off := 0) (sz := 2) (ft := 66) ⟨rfl, by kernel_rfl, rfl⟩ (Gv enc w)
  obtain ⟨a1, w1, p1⟩ := ZE hf 1 rfl (off := 2) (sz := 1) (ft := 62) ⟨rfl, by kernel_rfl, rfl⟩ (XL Tryz.underlying62)
  obtain ⟨a2, w2, p2⟩ := ZE hf 2 rfl (off := 3) (sz := 1) (ft := 9) ⟨rfl, by kernel_rfl, rfl⟩ (Ve Tryz.underlying9)
  obtain ⟨a3, w3, p3⟩ := ZE hf 3 rfl (off := 4) (sz := 1) (ft := 4) ⟨rfl, by kernel_rfl, rfl⟩ (Vy Tryz.underlying4)
  obtain ⟨a4, w4, p4⟩ := ZE hf 4 rfl (off := 5) (sz := 1) (ft := 3) ⟨rfl, by kernel_rfl, rfl⟩ (XL Tryz.underlying3)
  obtain ⟨a5, w5, p5⟩ := ZE hf 5 rfl (off := 6) (sz := 1) (ft := 3) ⟨rfl, by kernel_rfl, rfl⟩ (XL Tryz.underlying3)
  exact ⟨⟨a0, a1, a2, a3, a4, a5⟩, ⟨w0, w1, w2, w3, w4, w5⟩, (p0.cut (p1.cut (p2.cut (p3.cut (p4.cut (p5.cut (.fin (hl.trans (by kernel_rfl)))))))))⟩
theorem Zie {H : Type} (enc : TypeId × Value → H) (w : World) : Opens enc Tryz.prog w 177 Xx ZbW := by
  intro fuel cs x h hz
  obtain ⟨hl, n, hf⟩ := Qr Tryz.underlying177 h hz
  obtain ⟨a0, w0, p0⟩ := ZE hf 0 rfl (off := 0) (sz := 1) (ft := 3) ⟨rfl, by kernel_rfl, rfl⟩ (XL Tryz.underlying3)
  obtain ⟨a1, w1, p1⟩ := ZE hf 1 rfl (off := 1) (sz := 2) (ft := 66) ⟨rfl, by kernel_rfl, rfl⟩ (Gv enc w)
  exact ⟨⟨a0, a1⟩, ⟨w0, w1⟩, (p0.cut (p1.cut (.fin (hl.trans (by kernel_rfl)))))⟩
theorem Zcx {H : Type} (enc : TypeId × Value → H) (w : World) : Opens enc Tryz.prog w 180 Zx Kl := by
  intro fuel cs x h hz
  obtain ⟨hl, n, hf⟩ := Qr Tryz.underlying180 h hz
  obtain ⟨a0, w0, p0⟩ := ZE hf 0 rfl (off := 0) (sz := 1) (ft := 3) ⟨rfl, by kernel_rfl, rfl⟩ (XL Tryz.underlying3)
  obtain ⟨a1, w1, p1⟩ := ZE hf 1 rfl (off := 1) (sz := 1) (ft := 3) ⟨rfl, by kernel_rfl, rfl⟩ (XL Tryz.underlying3)
  obtain ⟨a2, w2, p2⟩ := ZE hf 2 rfl (off := 2) (sz := 1) (ft := 3) ⟨rfl, by kernel_rfl, rfl⟩ (XL Tryz.underlying3)
  obtain ⟨a3, w3, p3⟩ := ZE hf 3 rfl (off := 3) (sz := 1) (ft := 9) ⟨rfl, by kernel_rfl, rfl⟩ (Ve Tryz.underlying9)
  obtain ⟨a4, w4, p4⟩ := ZE hf 4 rfl (off := 4) (sz := 1) (ft := 3) ⟨rfl, by kernel_rfl, rfl⟩ (XL Tryz.underlying3)
  exact ⟨⟨a0, a1, a2, a3, a4⟩, ⟨w0, w1, w2, w3, w4⟩, (p0.cut (p1.cut (p2.cut (p3.cut (p4.cut (.fin (hl.trans (by kernel_rfl))))))))⟩
theorem Zjy {H : Type} (enc : TypeId × Value → H) (w : World) : Opens enc Tryz.prog w 51 ZbD KE := by
  intro fuel cs x h hz
  obtain ⟨hl, n, hf⟩ := Qr Tryz.underlying51 h hz
  obtain ⟨a0, w0, p0⟩ := ZE hf 0 rfl (off := 0) (sz := 1) (ft := 4) ⟨rfl, by kernel_rfl, rfl⟩ (Vy Tryz.underlying4)
  obtain ⟨a1, w1, p1⟩ := ZE hf 1 rfl (off := 1) (sz := 1) (ft := 3) ⟨rfl, by kernel_rfl, rfl⟩ (XL Tryz.underlying3)
  obtain ⟨a2, w2, p2⟩ := ZE hf 2 rfl (off := 2) (sz := 1) (ft := 48) ⟨rfl, by kernel_rfl, rfl⟩ (YP (wd := 3) (by' := 24) Tryz.underlying48 (by kernel_rfl) (by kernel_rfl) (by decide) (Zie enc w))
  obtain ⟨a3, w3, p3⟩ := ZE hf 3 rfl (off := 3) (sz := 1) (ft := 49) ⟨rfl, by kernel_rfl, rfl⟩ (YP (wd := 5) (by' := 48) Tryz.underlying49 (by kernel_rfl) (by kernel_rfl) (by decide) (Zcx enc w))
  exact ⟨⟨a0, a1, a2, a3⟩, ⟨w0, w1, w2, w3⟩, (p0.cut (p1.cut (p2.cut (p3.cut (.fin (hl.trans (by kernel_rfl)))))))⟩
theorem Zjz {H : Type} (enc : TypeId × Value → H) (w : World) : Opens enc Tryz.prog w 53 ZbE UL := by
  intro fuel cs x h hz
  obtain ⟨hl, n, hf⟩ := Qr Tryz.underlying53 h hz
  obtain ⟨a0, w0, p0⟩ := ZE hf 0 rfl (off := 0) (sz := 1) (ft := 4) ⟨rfl, by kernel_rfl, rfl⟩ (Vy Tryz.underlying4)
  obtain ⟨a1, w1, p1⟩ := ZE hf 1 rfl (off := 1) (sz := 1) (ft := 3) ⟨rfl, by kernel_rfl, rfl⟩ (XL Tryz.underlying3)
  obtain ⟨a2, w2, p2⟩ := ZE hf 2 rfl (off := 2) (sz := 1) (ft := 9) ⟨rfl, by kernel_rfl, rfl⟩ (Ve Tryz.underlying9)
  obtain ⟨a3, w3, p3⟩ := ZE hf 3 rfl (off := 3) (sz := 1) (ft := 9) ⟨rfl, by kernel_rfl, rfl⟩ (Ve Tryz.underlying9)
  obtain ⟨a4, w4, p4⟩ := ZE hf 4 rfl (off := 4) (sz := 1) (ft := 49) ⟨rfl, by kernel_rfl, rfl⟩ (YP (wd := 5) (by' := 48) Tryz.underlying49 (by kernel_rfl) (by kernel_rfl) (by decide) (Zcx enc w))
  exact ⟨⟨a0, a1, a2, a3, a4⟩, ⟨w0, w1, w2, w3, w4⟩, (p0.cut (p1.cut (p2.cut (p3.cut (p4.cut (.fin (hl.trans (by kernel_rfl))))))))⟩
theorem Zif {H : Type} (enc : TypeId × Value → H) (w : World) : Opens enc Tryz.prog w 183 XI RJ := by
  intro fuel cs x h hz
  obtain ⟨hl, n, hf⟩ := Qr Tryz.underlying183 h hz
  obtain ⟨a0, w0, p0⟩ := ZE hf 0 rfl (off := 0) (sz := 1) (ft := 62) ⟨rfl, by kernel_rfl, rfl⟩ (XL Tryz.underlying62)
  obtain ⟨a1, w1, p1⟩ := ZE hf 1 rfl (off := 1) (sz := 1) (ft := 3) ⟨rfl, by kernel_rfl, rfl⟩ (XL Tryz.underlying3)
  obtain ⟨a2, w2, p2⟩ := ZE hf 2 rfl (off := 2) (sz := 1) (ft := 9) ⟨rfl, by kernel_rfl, rfl⟩ (Ve Tryz.underlying9)
  obtain ⟨a3, w3, p3⟩ := ZE hf 3 rfl (off := 3) (sz := 1) (ft := 9) ⟨rfl, by kernel_rfl, rfl⟩ (Ve Tryz.underlying9)
  exact ⟨⟨a0, a1, a2, a3⟩, ⟨w0, w1, w2, w3⟩, (p0.cut (p1.cut (p2.cut (p3.cut (.fin (hl.trans (by kernel_rfl)))))))⟩
theorem Zig {H : Type} (enc : TypeId × Value → H) (w : World) : Opens enc Tryz.prog w 187 Xy ZbX := by
  intro fuel cs x h hz
  obtain ⟨hl, n, hf⟩ := Qr Tryz.underlying187 h hz
  obtain ⟨a0, w0, p0⟩ := ZE hf 0 rfl (off := 0) (sz := 2) (ft := 66) ⟨rfl, by kernel_rfl, rfl⟩ (Gv enc w)
  obtain ⟨a1, w1, p1⟩ := ZE hf 1 rfl (off := 2) (sz := 1) (ft := 4) ⟨rfl, by kernel_rfl, rfl⟩ (Vy Tryz.underlying4)
  exact ⟨⟨a0, a1⟩, ⟨w0, w1⟩, (p0.cut (p1.cut (.fin (hl.trans (by kernel_rfl)))))⟩
theorem Zih {H : Type} (enc : TypeId × Value → H) (w : World) : Opens enc Tryz.prog w 190 Xs ZbY := by
  intro fuel cs x h hz
  obtain ⟨hl, n, hf⟩ := Qr Tryz.underlying190 h hz
  obtain ⟨a0, w0, p0⟩ := ZE hf 0 rfl (off := 0) (sz := 2) (ft := 66) ⟨rfl, by kernel_rfl, rfl⟩ (Gv enc w)
  obtain ⟨a1, w1, p1⟩ := ZE hf 1 rfl (off := 2) (sz := 2) (ft := 66) ⟨rfl, by kernel_rfl, rfl⟩ (Gv enc w)
  obtain ⟨a2, w2, p2⟩ := ZE hf 2 rfl (off := 4) (sz := 1) (ft := 4) ⟨rfl, by kernel_rfl, rfl⟩ (Vy Tryz.underlying4)
  exact ⟨⟨a0, a1, a2⟩, ⟨w0, w1, w2⟩, (p0.cut (p1.cut (p2.cut (.fin (hl.trans (by kernel_rfl))))))⟩
theorem ZjA {H : Type} (enc : TypeId × Value → H) (w : World) : Opens enc Tryz.prog w 59 UZ GX := by
  intro fuel cs x h hz
  obtain ⟨hl, n, hf⟩ := Qr Tryz.underlying59 h hz
  obtain ⟨a0, w0, p0⟩ := ZE hf 0 rfl (off := 0) (sz := 1) (ft := 4) ⟨rfl, by kernel_rfl, rfl⟩ (Vy Tryz.underlying4)
  obtain ⟨a1, w1, p1⟩ := ZE hf 1 rfl (off := 1) (sz := 1) (ft := 3) ⟨rfl, by kernel_rfl, rfl⟩ (XL Tryz.underlying3)
  obtain ⟨a2, w2, p2⟩ := ZE hf 2 rfl (off := 2) (sz := 1) (ft := 3) ⟨rfl, by kernel_rfl, rfl⟩ (XL Tryz.underlying3)
  obtain ⟨a3, w3, p3⟩ := ZE hf 3 rfl (off := 3) (sz := 1) (ft := 54) ⟨rfl, by kernel_rfl, rfl⟩ (YP (wd := 4) (by' := 48) Tryz.underlying54 (by kernel_rfl) (by kernel_rfl) (by decide) (Zif enc w))
  obtain ⟨a4, w4, p4⟩ := ZE hf 4 rfl (off := 4) (sz := 1) (ft := 55) ⟨rfl, by kernel_rfl, rfl⟩ (YP (wd := 2) (by' := 16) Tryz.underlying55 (by kernel_rfl) (by kernel_rfl) (by decide) (Gv enc w))
  obtain ⟨a5, w5, p5⟩ := ZE hf 5 rfl (off := 5) (sz := 1) (ft := 56) ⟨rfl, by kernel_rfl, rfl⟩ (YP (wd := 3) (by' := 24) Tryz.underlying56 (by kernel_rfl) (by kernel_rfl) (by decide) (Zig enc w))
  obtain ⟨a6, w6, p6⟩ := ZE hf 6 rfl (off := 6) (sz := 1) (ft := 57) ⟨rfl, by kernel_rfl, rfl⟩ (YP (wd := 5) (by' := 40) Tryz.underlying57 (by kernel_rfl) (by kernel_rfl) (by decide) (Zih enc w))
  obtain ⟨a7, w7, p7⟩ := ZE hf 7 rfl (off := 7) (sz := 1) (ft := 49) ⟨rfl, by kernel_rfl, rfl⟩ (YP (wd := 5) (by' := 48) Tryz.underlying49 (by kernel_rfl) (by kernel_rfl) (by decide) (Zcx enc w))
  exact ⟨⟨a0, a1, a2, a3, a4, a5, a6, a7⟩, ⟨w0, w1, w2, w3, w4, w5, w6, w7⟩, (p0.cut (p1.cut (p2.cut (p3.cut (p4.cut (p5.cut (p6.cut (p7.cut (.fin (hl.trans (by kernel_rfl)))))))))))⟩
theorem ZjB {H : Type} (enc : TypeId × Value → H) (w : World) : Opens enc Tryz.prog w 61 Zp Zcw := by
  intro fuel cs x h hz
  obtain ⟨hl, n, hf⟩ := Qr Tryz.underlying61 h hz
  obtain ⟨a0, w0, p0⟩ := ZE hf 0 rfl (off := 0) (sz := 1) (ft := 9) ⟨rfl, by kernel_rfl, rfl⟩ (Ve Tryz.underlying9)
  obtain ⟨a1, w1, p1⟩ := ZE hf 1 rfl (off := 1) (sz := 1) (ft := 3) ⟨rfl, by kernel_rfl, rfl⟩ (XL Tryz.underlying3)
  obtain ⟨a2, w2, p2⟩ := ZE hf 2 rfl (off := 2) (sz := 1) (ft := 42) ⟨rfl, by kernel_rfl, rfl⟩ (YP (wd := 12) (by' := 112) Tryz.underlying42 (by kernel_rfl) (by kernel_rfl) (by decide) (Zjx enc w))
  obtain ⟨a3, w3, p3⟩ := ZE hf 3 rfl (off := 3) (sz := 1) (ft := 43) ⟨rfl, by kernel_rfl, rfl⟩ (YP (wd := 2) (by' := 40) Tryz.underlying43 (by kernel_rfl) (by kernel_rfl) (by decide) (Zh7 enc w))
  obtain ⟨a4, w4, p4⟩ := ZE hf 4 rfl (off := 4) (sz := 1) (ft := 44) ⟨rfl, by kernel_rfl, rfl⟩ (YP (wd := 2) (by' := 40) Tryz.underlying44 (by kernel_rfl) (by kernel_rfl) (by decide) (Zh9 enc w))
  obtain ⟨a5, w5, p5⟩ := ZE hf 5 rfl (off := 5) (sz := 1) (ft := 45) ⟨rfl, by kernel_rfl, rfl⟩ (YP (wd := 2) (by' := 40) Tryz.underlying45 (by kernel_rfl) (by kernel_rfl) (by decide) (Zib enc w))
  obtain ⟨a6, w6, p6⟩ := ZE hf 6 rfl (off := 6) (sz := 1) (ft := 46) ⟨rfl, by kernel_rfl, rfl⟩ (YP (wd := 9) (by' := 64) Tryz.underlying46 (by kernel_rfl) (by kernel_rfl) (by decide) (Zic enc w))
  obtain ⟨a7, w7, p7⟩ := ZE hf 7 rfl (off := 7) (sz := 1) (ft := 47) ⟨rfl, by kernel_rfl, rfl⟩ (YP (wd := 7) (by' := 64) Tryz.underlying47 (by kernel_rfl) (by kernel_rfl) (by decide) (Zid enc w))
  obtain ⟨a8, w8, p8⟩ := ZE hf 8 rfl (off := 8) (sz := 4) (ft := 51) ⟨rfl, by kernel_rfl, rfl⟩ (Zjy enc w)
  obtain ⟨a9, w9, p9⟩ := ZE hf 9 rfl (off := 12) (sz := 5) (ft := 53) ⟨rfl, by kernel_rfl, rfl⟩ (Zjz enc w)
  obtain ⟨a10, w10, p10⟩ := ZE hf 10 rfl (off := 17) (sz := 8) (ft := 59) ⟨rfl, by kernel_rfl, rfl⟩ (ZjA enc w)
  exact ⟨⟨a0, a1, a2, a3, a4, a5, a6, a7, a8, a9, a10⟩, ⟨w0, w1, w2, w3, w4, w5, w6, w7, w8, w9, w10⟩, (p0.cut (p1.cut (p2.cut (p3.cut (p4.cut (p5.cut (p6.cut (p7.cut (p8.cut (p9.cut (p10.cut (.fin (hl.trans (by kernel_rfl))))))))))))))⟩
theorem ZjC {H : Type} (enc : TypeId × Value → H) (w : World) : Opens enc Tryz.prog w 24 XO Za0 := by
  intro fuel cs x h hz
  obtain ⟨hl, n, hf⟩ := Qr Tryz.underlying24 h hz
  obtain ⟨a0, w0, p0⟩ := ZE hf 0 rfl (off := 0) (sz := 1) (ft := 22) ⟨rfl, by kernel_rfl, rfl⟩ (YP (wd := 25) (by' := 448) Tryz.underlying22 (by kernel_rfl) (by kernel_rfl) (by decide) (ZjB enc w))
  exact ⟨⟨a0⟩, w0, (p0.cut (.fin (hl.trans (by kernel_rfl))))⟩
end Nv
