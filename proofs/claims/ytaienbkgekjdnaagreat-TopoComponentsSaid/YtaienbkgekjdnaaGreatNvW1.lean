/- What comes in is of the typed data. -/
import Derived.Test.YtaienbkgekjdnaaGreatProg
import Derived.Test.YtaienbkgekjdnaaGreatNvV1
import Derived.KernelRfl
set_option maxRecDepth 100000
namespace Nv
open Go Go.Proofs
theorem ZjZ {H : Type} (enc : TypeId × Value → H) (w : World) : Opens enc Tryz.prog w 64 Zj KW := by
  intro fuel cs x h hz
  obtain ⟨hl, n, hf⟩ := Qq Tryz.underlying64 h hz
  obtain ⟨a0, w0, p0⟩ := ZG hf 0 rfl (off := 0) (sz := 1) (ft := 9) ⟨rfl, by kernel_rfl, rfl⟩ (Vk Tryz.underlying9)
  obtain ⟨a1, w1, p1⟩ := ZG hf 1 rfl (off := 1) (sz := 1) (ft := 62) ⟨rfl, by kernel_rfl, rfl⟩ (XP Tryz.underlying62)
  obtain ⟨a2, w2, p2⟩ := ZG hf 2 rfl (off := 2) (sz := 1) (ft := 3) ⟨rfl, by kernel_rfl, rfl⟩ (XP Tryz.underlying3)
  obtain ⟨a3, w3, p3⟩ := ZG hf 3 rfl (off := 3) (sz := 1) (ft := 3) ⟨rfl, by kernel_rfl, rfl⟩ (XP Tryz.underlying3)
  obtain ⟨a4, w4, p4⟩ := ZG hf 4 rfl (off := 4) (sz := 1) (ft := 4) ⟨rfl, by kernel_rfl, rfl⟩ (VJ Tryz.underlying4)
  obtain ⟨a5, w5, p5⟩ := ZG hf 5 rfl (off := 5) (sz := 1) (ft := 4) ⟨rfl, by kernel_rfl, rfl⟩ (VJ Tryz.underlying4)
  obtain ⟨a6, w6, p6⟩ := ZG hf 6 rfl (off := 6) (sz := 1) (ft := 3) ⟨rfl, by kernel_rfl, rfl⟩ (XP Tryz.underlying3)
  obtain ⟨a7, w7, p7⟩ := ZG hf 7 rfl (off := 7) (sz := 1) (ft := 3) ⟨rfl, by kernel_rfl, rfl⟩ (XP Tryz.underlying3)
  obtain ⟨a8, w8, p8⟩ := ZG hf 8 rfl (off := 8) (sz := 1) (ft := 4) ⟨rfl, by kernel_rfl, rfl⟩ (VJ Tryz.underlying4)
  obtain ⟨a9, w9, p9⟩ := ZG hf 9 rfl (off := 9) (sz := 1) (ft := 9) ⟨rfl, by kernel_rfl, rfl⟩ (Vk Tryz.underlying9)
  obtain ⟨a10, w10, p10⟩ := ZG hf 10 rfl (off := 10) (sz := 1) (ft := 9) ⟨rfl, by kernel_rfl, rfl⟩ (Vk Tryz.underlying9)
  obtain ⟨a11, w11, p11⟩ := ZG hf 11 rfl (off := 11) (sz := 1) (ft := 3) ⟨rfl, by kernel_rfl, rfl⟩ (XP Tryz.underlying3)
  exact ⟨⟨a0, a1, a2, a3, a4, a5, a6, a7, a8, a9, a10, a11⟩, ⟨w0, w1, w2, w3, w4, w5, w6, w7, w8, w9, w10, w11⟩, (p0.cut (p1.cut (p2.cut (p3.cut (p4.cut (p5.cut (p6.cut (p7.cut (p8.cut (p9.cut (p10.cut (p11.cut (.fin (hl.trans (by kernel_rfl)))))))))))))))⟩
theorem GR {H : Type} (enc : TypeId × Value → H) (w : World) : Opens enc Tryz.prog w 66 Xd UQ := by
  intro fuel cs x h hz
  obtain ⟨hl, n, hf⟩ := Qq Tryz.underlying66 h hz
  obtain ⟨a0, w0, p0⟩ := ZG hf 0 rfl (off := 0) (sz := 1) (ft := 62) ⟨rfl, by kernel_rfl, rfl⟩ (XP Tryz.underlying62)
  obtain ⟨a1, w1, p1⟩ := ZG hf 1 rfl (off := 1) (sz := 1) (ft := 3) ⟨rfl, by kernel_rfl, rfl⟩ (XP Tryz.underlying3)
  exact ⟨⟨a0, a1⟩, ⟨w0, w1⟩, (p0.cut (p1.cut (.fin (hl.trans (by kernel_rfl)))))⟩
theorem ZiC {H : Type} (enc : TypeId × Value → H) (w : World) : Opens enc Tryz.prog w 160 Ke Za1 := by
  intro fuel cs x h hz
  obtain ⟨hl, n, hf⟩ := Qq Tryz.underlying160 h hz
  obtain ⟨a0, w0, p0⟩ := ZG hf 0 rfl (off := 0) (sz := 1) (ft := 4) ⟨rfl, by kernel_rfl, rfl⟩ (VJ Tryz.underlying4)
  obtain ⟨a1, w1, p1⟩ := ZG hf 1 rfl (off := 1) (sz := 2) (ft := 66) ⟨rfl, by kernel_rfl, rfl⟩ (GR enc w)
  obtain ⟨a2, w2, p2⟩ := ZG hf 2 rfl (off := 3) (sz := 1) (ft := 3) ⟨rfl, by kernel_rfl, rfl⟩ (XP Tryz.underlying3)
  obtain ⟨a3, w3, p3⟩ := ZG hf 3 rfl (off := 4) (sz := 1) (ft := 3) ⟨rfl, by kernel_rfl, rfl⟩ (XP Tryz.underlying3)
  exact ⟨⟨a0, a1, a2, a3⟩, ⟨w0, w1, w2, w3⟩, (p0.cut (p1.cut (p2.cut (p3.cut (.fin (hl.trans (by kernel_rfl)))))))⟩
theorem ZiD {H : Type} (enc : TypeId × Value → H) (w : World) : Opens enc Tryz.prog w 109 Zw Ki := by
  intro fuel cs x h hz
  obtain ⟨hl, n, hf⟩ := Qq Tryz.underlying109 h hz
  obtain ⟨a0, w0, p0⟩ := ZG hf 0 rfl (off := 0) (sz := 1) (ft := 9) ⟨rfl, by kernel_rfl, rfl⟩ (Vk Tryz.underlying9)
  obtain ⟨a1, w1, p1⟩ := ZG hf 1 rfl (off := 1) (sz := 1) (ft := 107) ⟨rfl, by kernel_rfl, rfl⟩ (Y9 (wd := 5) (by' := 40) Tryz.underlying107 (by kernel_rfl) (by kernel_rfl) (by decide) (ZiC enc w))
  exact ⟨⟨a0, a1⟩, ⟨w0, w1⟩, (p0.cut (p1.cut (.fin (hl.trans (by kernel_rfl)))))⟩
theorem ZiE {H : Type} (enc : TypeId × Value → H) (w : World) : Opens enc Tryz.prog w 164 Zfo ZcY := by
  intro fuel cs x h hz
  obtain ⟨hl, n, hf⟩ := Qq Tryz.underlying164 h hz
  obtain ⟨a0, w0, p0⟩ := ZG hf 0 rfl (off := 0) (sz := 1) (ft := 4) ⟨rfl, by kernel_rfl, rfl⟩ (VJ Tryz.underlying4)
  obtain ⟨a1, w1, p1⟩ := ZG hf 1 rfl (off := 1) (sz := 1) (ft := 9) ⟨rfl, by kernel_rfl, rfl⟩ (Vk Tryz.underlying9)
  obtain ⟨a2, w2, p2⟩ := ZG hf 2 rfl (off := 2) (sz := 1) (ft := 3) ⟨rfl, by kernel_rfl, rfl⟩ (XP Tryz.underlying3)
  obtain ⟨a3, w3, p3⟩ := ZG hf 3 rfl (off := 3) (sz := 1) (ft := 3) ⟨rfl, by kernel_rfl, rfl⟩ (XP Tryz.underlying3)
  obtain ⟨a4, w4, p4⟩ := ZG hf 4 rfl (off := 4) (sz := 1) (ft := 3) ⟨rfl, by kernel_rfl, rfl⟩ (XP Tryz.underlying3)
  obtain ⟨a5, w5, p5⟩ := ZG hf 5 rfl (off := 5) (sz := 1) (ft := 3) ⟨rfl, by kernel_rfl, rfl⟩ (XP Tryz.underlying3)
  obtain ⟨a6, w6, p6⟩ := ZG hf 6 rfl (off := 6) (sz := 1) (ft := 3) ⟨rfl, by kernel_rfl, rfl⟩ (XP Tryz.underlying3)
  exact ⟨⟨a0, a1, a2, a3, a4, a5, a6⟩, ⟨w0, w1, w2, w3, w4, w5, w6⟩, (p0.cut (p1.cut (p2.cut (p3.cut (p4.cut (p5.cut (p6.cut (.fin (hl.trans (by kernel_rfl))))))))))⟩
theorem ZiF {H : Type} (enc : TypeId × Value → H) (w : World) : Opens enc Tryz.prog w 112 Z0 R8 := by
  intro fuel cs x h hz
  obtain ⟨hl, n, hf⟩ := Qq Tryz.underlying112 h hz
  obtain ⟨a0, w0, p0⟩ := ZG hf 0 rfl (off := 0) (sz := 1) (ft := 9) ⟨rfl, by kernel_rfl, rfl⟩ (Vk Tryz.underlying9)
  obtain ⟨a1, w1, p1⟩ := ZG hf 1 rfl (off := 1) (sz := 1) (ft := 110) ⟨rfl, by kernel_rfl, rfl⟩ (Y9 (wd := 7) (by' := 64) Tryz.underlying110 (by kernel_rfl) (by kernel_rfl) (by decide) (ZiE enc w))
  exact ⟨⟨a0, a1⟩, ⟨w0, w1⟩, (p0.cut (p1.cut (.fin (hl.trans (by kernel_rfl)))))⟩
theorem Zfq {H : Type} (enc : TypeId × Value → H) (w : World) : Opens enc Tryz.prog w 168 ZgR R9 := by
  intro fuel cs x h hz
  obtain ⟨hl, n, hf⟩ := Qq Tryz.underlying168 h hz
  obtain ⟨a0, w0, p0⟩ := ZG hf 0 rfl (off := 0) (sz := 1) (ft := 62) ⟨rfl, by kernel_rfl, rfl⟩ (XP Tryz.underlying62)
  obtain ⟨a1, w1, p1⟩ := ZG hf 1 rfl (off := 1) (sz := 1) (ft := 62) ⟨rfl, by kernel_rfl, rfl⟩ (XP Tryz.underlying62)
  exact ⟨⟨a0, a1⟩, ⟨w0, w1⟩, (p0.cut (p1.cut (.fin (hl.trans (by kernel_rfl)))))⟩
theorem Zfr {H : Type} (enc : TypeId × Value → H) (w : World) : Opens enc Tryz.prog w 170 KO KX := by
  intro fuel cs x h hz
  obtain ⟨hl, n, hf⟩ := Qq Tryz.underlying170 h hz
  obtain ⟨a0, w0, p0⟩ := ZG hf 0 rfl (off := 0) (sz := 1) (ft := 3) ⟨rfl, by kernel_rfl, rfl⟩ (XP Tryz.underlying3)
  obtain ⟨a1, w1, p1⟩ := ZG hf 1 rfl (off := 1) (sz := 1) (ft := 3) ⟨rfl, by kernel_rfl, rfl⟩ (XP Tryz.underlying3)
  exact ⟨⟨a0, a1⟩, ⟨w0, w1⟩, (p0.cut (p1.cut (.fin (hl.trans (by kernel_rfl)))))⟩
theorem ZiG {H : Type} (enc : TypeId × Value → H) (w : World) : Opens enc Tryz.prog w 172 ZfX Zh3 := by
  intro fuel cs x h hz
  obtain ⟨hl, n, hf⟩ := Qq Tryz.underlying172 h hz
  obtain ⟨a0, w0, p0⟩ := ZG hf 0 rfl (off := 0) (sz := 1) (ft := 4) ⟨rfl, by kernel_rfl, rfl⟩ (VJ Tryz.underlying4)
  obtain ⟨a1, w1, p1⟩ := ZG hf 1 rfl (off := 1) (sz := 1) (ft := 3) ⟨rfl, by kernel_rfl, rfl⟩ (XP Tryz.underlying3)
  obtain ⟨a2, w2, p2⟩ := ZG hf 2 rfl (off := 2) (sz := 2) (ft := 168) ⟨rfl, by kernel_rfl, rfl⟩ (Zfq enc w)
  obtain ⟨a3, w3, p3⟩ := ZG hf 3 rfl (off := 4) (sz := 2) (ft := 168) ⟨rfl, by kernel_rfl, rfl⟩ (Zfq enc w)
  obtain ⟨a4, w4, p4⟩ := ZG hf 4 rfl (off := 6) (sz := 2) (ft := 170) ⟨rfl, by kernel_rfl, rfl⟩ (Zfr enc w)
  obtain ⟨a5, w5, p5⟩ := ZG hf 5 rfl (off := 8) (sz := 2) (ft := 170) ⟨rfl, by kernel_rfl, rfl⟩ (Zfr enc w)
  exact ⟨⟨a0, a1, a2, a3, a4, a5⟩, ⟨w0, w1, w2, w3, w4, w5⟩, (p0.cut (p1.cut (p2.cut (p3.cut (p4.cut (p5.cut (.fin (hl.trans (by kernel_rfl)))))))))⟩
theorem ZiH {H : Type} (enc : TypeId × Value → H) (w : World) : Opens enc Tryz.prog w 115 Yu Zhy := by
  intro fuel cs x h hz
  obtain ⟨hl, n, hf⟩ := Qq Tryz.underlying115 h hz
  obtain ⟨a0, w0, p0⟩ := ZG hf 0 rfl (off := 0) (sz := 1) (ft := 9) ⟨rfl, by kernel_rfl, rfl⟩ (Vk Tryz.underlying9)
  obtain ⟨a1, w1, p1⟩ := ZG hf 1 rfl (off := 1) (sz := 1) (ft := 113) ⟨rfl, by kernel_rfl, rfl⟩ (Y9 (wd := 10) (by' := 64) Tryz.underlying113 (by kernel_rfl) (by kernel_rfl) (by decide) (ZiG enc w))
  exact ⟨⟨a0, a1⟩, ⟨w0, w1⟩, (p0.cut (p1.cut (.fin (hl.trans (by kernel_rfl)))))⟩
theorem ZiI {H : Type} (enc : TypeId × Value → H) (w : World) : Opens enc Tryz.prog w 131 Z3 GP := by
  intro fuel cs x h hz
  obtain ⟨hl, n, hf⟩ := Qq Tryz.underlying131 h hz
  obtain ⟨a0, w0, p0⟩ := ZG hf 0 rfl (off := 0) (sz := 1) (ft := 3) ⟨rfl, by kernel_rfl, rfl⟩ (XP Tryz.underlying3)
  obtain ⟨a1, w1, p1⟩ := ZG hf 1 rfl (off := 1) (sz := 1) (ft := 62) ⟨rfl, by kernel_rfl, rfl⟩ (XP Tryz.underlying62)
  obtain ⟨a2, w2, p2⟩ := ZG hf 2 rfl (off := 2) (sz := 1) (ft := 62) ⟨rfl, by kernel_rfl, rfl⟩ (XP Tryz.underlying62)
  obtain ⟨a3, w3, p3⟩ := ZG hf 3 rfl (off := 3) (sz := 1) (ft := 3) ⟨rfl, by kernel_rfl, rfl⟩ (XP Tryz.underlying3)
  obtain ⟨a4, w4, p4⟩ := ZG hf 4 rfl (off := 4) (sz := 1) (ft := 3) ⟨rfl, by kernel_rfl, rfl⟩ (XP Tryz.underlying3)
  obtain ⟨a5, w5, p5⟩ := ZG hf 5 rfl (off := 5) (sz := 1) (ft := 3) ⟨rfl, by kernel_rfl, rfl⟩ (XP Tryz.underlying3)
  obtain ⟨a6, w6, p6⟩ := ZG hf 6 rfl (off := 6) (sz := 1) (ft := 9) ⟨rfl, by kernel_rfl, rfl⟩ (Vk Tryz.underlying9)
  obtain ⟨a7, w7, p7⟩ := ZG hf 7 rfl (off := 7) (sz := 1) (ft := 62) ⟨rfl, by kernel_rfl, rfl⟩ (XP Tryz.underlying62)
  obtain ⟨a8, w8, p8⟩ := ZG hf 8 rfl (off := 8) (sz := 1) (ft := 62) ⟨rfl, by kernel_rfl, rfl⟩ (XP Tryz.underlying62)
  exact ⟨⟨a0, a1, a2, a3, a4, a5, a6, a7, a8⟩, ⟨w0, w1, w2, w3, w4, w5, w6, w7, w8⟩, (p0.cut (p1.cut (p2.cut (p3.cut (p4.cut (p5.cut (p6.cut (p7.cut (p8.cut (.fin (hl.trans (by kernel_rfl))))))))))))⟩
theorem ZiJ {H : Type} (enc : TypeId × Value → H) (w : World) : Opens enc Tryz.prog w 133 Z9 GQ := by
  intro fuel cs x h hz
  obtain ⟨hl, n, hf⟩ := Qq Tryz.underlying133 h hz
  obtain ⟨a0, w0, p0⟩ := ZG hf 0 rfl (off := 0) (sz := 2) (ft := 66) ⟨rfl, by kernel_rfl, rfl⟩ (GR enc w)
  obtain ⟨a1, w1, p1⟩ := ZG hf 1 rfl (off := 2) (sz := 1) (ft := 62) ⟨rfl, by kernel_rfl, rfl⟩ (XP Tryz.underlying62)
  obtain ⟨a2, w2, p2⟩ := ZG hf 2 rfl (off := 3) (sz := 1) (ft := 9) ⟨rfl, by kernel_rfl, rfl⟩ (Vk Tryz.underlying9)
  obtain ⟨a3, w3, p3⟩ := ZG hf 3 rfl (off := 4) (sz := 1) (ft := 4) ⟨rfl, by kernel_rfl, rfl⟩ (VJ Tryz.underlying4)
  obtain ⟨a4, w4, p4⟩ := ZG hf 4 rfl (off := 5) (sz := 1) (ft := 3) ⟨rfl, by kernel_rfl, rfl⟩ (XP Tryz.underlying3)
  obtain ⟨a5, w5, p5⟩ := ZG hf 5 rfl (off := 6) (sz := 1) (ft := 3) ⟨rfl, by kernel_rfl, rfl⟩ (XP Tryz.underlying3)
  exact ⟨⟨a0, a1, a2, a3, a4, a5⟩, ⟨w0, w1, w2, w3, w4, w5⟩, (p0.cut (p1.cut (p2.cut (p3.cut (p4.cut (p5.cut (.fin (hl.trans (by kernel_rfl)))))))))⟩
theorem ZiK {H : Type} (enc : TypeId × Value → H) (w : World) : Opens enc Tryz.prog w 177 Xz Zcn := by
  intro fuel cs x h hz
  obtain ⟨hl, n, hf⟩ := Qq Tryz.underlying177 h hz
  obtain ⟨a0, w0, p0⟩ := ZG hf 0 rfl (off := 0) (sz := 1) (ft := 3) ⟨rfl, by kernel_rfl, rfl⟩ (XP Tryz.underlying3)
  obtain ⟨a1, w1, p1⟩ := ZG hf 1 rfl (off := 1) (sz := 2) (ft := 66) ⟨rfl, by kernel_rfl, rfl⟩ (GR enc w)
  exact ⟨⟨a0, a1⟩, ⟨w0, w1⟩, (p0.cut (p1.cut (.fin (hl.trans (by kernel_rfl)))))⟩
theorem Zc0 {H : Type} (enc : TypeId × Value → H) (w : World) : Opens enc Tryz.prog w 180 Zz KI := by
  intro fuel cs x h hz
  obtain ⟨hl, n, hf⟩ := Qq Tryz.underlying180 h hz
  obtain ⟨a0, w0, p0⟩ := ZG hf 0 rfl (off := 0) (sz := 1) (ft := 3) ⟨rfl, by kernel_rfl, rfl⟩ (XP Tryz.underlying3)
  obtain ⟨a1, w1, p1⟩ := ZG hf 1 rfl (off := 1) (sz := 1) (ft := 3) ⟨rfl, by kernel_rfl, rfl⟩ (XP Tryz.underlying3)
  obtain ⟨a2, w2, p2⟩ := ZG hf 2 rfl (off := 2) (sz := 1) (ft := 3) ⟨rfl, by kernel_rfl, rfl⟩ (XP Tryz.underlying3)
  obtain ⟨a3, w3, p3⟩ := ZG hf 3 rfl (off := 3) (sz := 1) (ft := 9) ⟨rfl, by kernel_rfl, rfl⟩ (Vk Tryz.underlying9)
  obtain ⟨a4, w4, p4⟩ := ZG hf 4 rfl (off := 4) (sz := 1) (ft := 3) ⟨rfl, by kernel_rfl, rfl⟩ (XP Tryz.underlying3)
  exact ⟨⟨a0, a1, a2, a3, a4⟩, ⟨w0, w1, w2, w3, w4⟩, (p0.cut (p1.cut (p2.cut (p3.cut (p4.cut (.fin (hl.trans (by kernel_rfl))))))))⟩
theorem Zj0 {H : Type} (enc : TypeId × Value → H) (w : World) : Opens enc Tryz.prog w 51 Zb3 KY := by
  intro fuel cs x h hz
  obtain ⟨hl, n, hf⟩ := Qq Tryz.underlying51 h hz
  obtain ⟨a0, w0, p0⟩ := ZG hf 0 rfl (off := 0) (sz := 1) (ft := 4) ⟨rfl, by kernel_rfl, rfl⟩ (VJ Tryz.underlying4)
  obtain ⟨a1, w1, p1⟩ := ZG hf 1 rfl (off := 1) (sz := 1) (ft := 3) ⟨rfl, by kernel_rfl, rfl⟩ (XP Tryz.underlying3)
  obtain ⟨a2, w2, p2⟩ := ZG hf 2 rfl (off := 2) (sz := 1) (ft := 48) ⟨rfl, by kernel_rfl, rfl⟩ (Y9 (wd := 3) (by' := 24) Tryz.underlying48 (by kernel_rfl) (by kernel_rfl) (by decide) (ZiK enc w))
  obtain ⟨a3, w3, p3⟩ := ZG hf 3 rfl (off := 3) (sz := 1) (ft := 49) ⟨rfl, by kernel_rfl, rfl⟩ (Y9 (wd := 5) (by' := 48) Tryz.underlying49 (by kernel_rfl) (by kernel_rfl) (by decide) (Zc0 enc w))
  exact ⟨⟨a0, a1, a2, a3⟩, ⟨w0, w1, w2, w3⟩, (p0.cut (p1.cut (p2.cut (p3.cut (.fin (hl.trans (by kernel_rfl)))))))⟩
theorem Zj1 {H : Type} (enc : TypeId × Value → H) (w : World) : Opens enc Tryz.prog w 53 Zb4 U6 := by
  intro fuel cs x h hz
  obtain ⟨hl, n, hf⟩ := Qq Tryz.underlying53 h hz
  obtain ⟨a0, w0, p0⟩ := ZG hf 0 rfl (off := 0) (sz := 1) (ft := 4) ⟨rfl, by kernel_rfl, rfl⟩ (VJ Tryz.underlying4)
  obtain ⟨a1, w1, p1⟩ := ZG hf 1 rfl (off := 1) (sz := 1) (ft := 3) ⟨rfl, by kernel_rfl, rfl⟩ (XP Tryz.underlying3)
  obtain ⟨a2, w2, p2⟩ := ZG hf 2 rfl (off := 2) (sz := 1) (ft := 9) ⟨rfl, by kernel_rfl, rfl⟩ (Vk Tryz.underlying9)
  obtain ⟨a3, w3, p3⟩ := ZG hf 3 rfl (off := 3) (sz := 1) (ft := 9) ⟨rfl, by kernel_rfl, rfl⟩ (Vk Tryz.underlying9)
  obtain ⟨a4, w4, p4⟩ := ZG hf 4 rfl (off := 4) (sz := 1) (ft := 49) ⟨rfl, by kernel_rfl, rfl⟩ (Y9 (wd := 5) (by' := 48) Tryz.underlying49 (by kernel_rfl) (by kernel_rfl) (by decide) (Zc0 enc w))
  exact ⟨⟨a0, a1, a2, a3, a4⟩, ⟨w0, w1, w2, w3, w4⟩, (p0.cut (p1.cut (p2.cut (p3.cut (p4.cut (.fin (hl.trans (by kernel_rfl))))))))⟩
theorem ZiL {H : Type} (enc : TypeId × Value → H) (w : World) : Opens enc Tryz.prog w 183 XK Zaa := by
  intro fuel cs x h hz
  obtain ⟨hl, n, hf⟩ := Qq Tryz.underlying183 h hz
  obtain ⟨a0, w0, p0⟩ := ZG hf 0 rfl (off := 0) (sz := 1) (ft := 62) ⟨rfl, by kernel_rfl, rfl⟩ (XP Tryz.underlying62)
  obtain ⟨a1, w1, p1⟩ := ZG hf 1 rfl (off := 1) (sz := 1) (ft := 3) ⟨rfl, by kernel_rfl, rfl⟩ (XP Tryz.underlying3)
  obtain ⟨a2, w2, p2⟩ := ZG hf 2 rfl (off := 2) (sz := 1) (ft := 9) ⟨rfl, by kernel_rfl, rfl⟩ (Vk Tryz.underlying9)
  obtain ⟨a3, w3, p3⟩ := ZG hf 3 rfl (off := 3) (sz := 1) (ft := 9) ⟨rfl, by kernel_rfl, rfl⟩ (Vk Tryz.underlying9)
  exact ⟨⟨a0, a1, a2, a3⟩, ⟨w0, w1, w2, w3⟩, (p0.cut (p1.cut (p2.cut (p3.cut (.fin (hl.trans (by kernel_rfl)))))))⟩
theorem ZiM {H : Type} (enc : TypeId × Value → H) (w : World) : Opens enc Tryz.prog w 187 XA Zco := by
  intro fuel cs x h hz
  obtain ⟨hl, n, hf⟩ := Qq Tryz.underlying187 h hz
  obtain ⟨a0, w0, p0⟩ := ZG hf 0 rfl (off := 0) (sz := 2) (ft := 66) ⟨rfl, by kernel_rfl, rfl⟩ (GR enc w)
  obtain ⟨a1, w1, p1⟩ := ZG hf 1 rfl (off := 2) (sz := 1) (ft := 4) ⟨rfl, by kernel_rfl, rfl⟩ (VJ Tryz.underlying4)
  exact ⟨⟨a0, a1⟩, ⟨w0, w1⟩, (p0.cut (p1.cut (.fin (hl.trans (by kernel_rfl)))))⟩
theorem ZiN {H : Type} (enc : TypeId × Value → H) (w : World) : Opens enc Tryz.prog w 190 Xt Zcp := by
  intro fuel cs x h hz
  obtain ⟨hl, n, hf⟩ := Qq Tryz.underlying190 h hz
  obtain ⟨a0, w0, p0⟩ := ZG hf 0 rfl (off := 0) (sz := 2) (ft := 66) ⟨rfl, by kernel_rfl, rfl⟩ (GR enc w)
  obtain ⟨a1, w1, p1⟩ := ZG hf 1 rfl (off := 2) (sz := 2) (ft := 66) ⟨rfl, by kernel_rfl, rfl⟩ (GR enc w)
  obtain ⟨a2, w2, p2⟩ := ZG hf 2 rfl (off := 4) (sz := 1) (ft := 4) ⟨rfl, by kernel_rfl, rfl⟩ (VJ Tryz.underlying4)
  exact ⟨⟨a0, a1, a2⟩, ⟨w0, w1, w2⟩, (p0.cut (p1.cut (p2.cut (.fin (hl.trans (by kernel_rfl))))))⟩
theorem Zj2 {H : Type} (enc : TypeId × Value → H) (w : World) : Opens enc Tryz.prog w 59 Gh Kj := by
  intro fuel cs x h hz
  obtain ⟨hl, n, hf⟩ := Qq Tryz.underlying59 h hz
  obtain ⟨a0, w0, p0⟩ := ZG hf 0 rfl (off := 0) (sz := 1) (ft := 4) ⟨rfl, by kernel_rfl, rfl⟩ (VJ Tryz.underlying4)
  obtain ⟨a1, w1, p1⟩ := ZG hf 1 rfl (off := 1) (sz := 1) (ft := 3) ⟨rfl, by kernel_rfl, rfl⟩ (XP Tryz.underlying3)
  obtain ⟨a2, w2, p2⟩ := ZG hf 2 rfl (off := 2) (sz := 1) (ft := 3) ⟨rfl, by kernel_rfl, rfl⟩ (XP Tryz.underlying3)
  obtain ⟨a3, w3, p3⟩ := ZG hf 3 rfl (off := 3) (sz := 1) (ft := 54) ⟨rfl, by kernel_rfl, rfl⟩ (Y9 (wd := 4) (by' := 48) Tryz.underlying54 (by kernel_rfl) (by kernel_rfl) (by decide) (ZiL enc w))
  obtain ⟨a4, w4, p4⟩ := ZG hf 4 rfl (off := 4) (sz := 1) (ft := 55) ⟨rfl, by kernel_rfl, rfl⟩ (Y9 (wd := 2) (by' := 16) Tryz.underlying55 (by kernel_rfl) (by kernel_rfl) (by decide) (GR enc w))
  obtain ⟨a5, w5, p5⟩ := ZG hf 5 rfl (off := 5) (sz := 1) (ft := 56) ⟨rfl, by kernel_rfl, rfl⟩ (Y9 (wd := 3) (by' := 24) Tryz.underlying56 (by kernel_rfl) (by kernel_rfl) (by decide) (ZiM enc w))
  obtain ⟨a6, w6, p6⟩ := ZG hf 6 rfl (off := 6) (sz := 1) (ft := 57) ⟨rfl, by kernel_rfl, rfl⟩ (Y9 (wd := 5) (by' := 40) Tryz.underlying57 (by kernel_rfl) (by kernel_rfl) (by decide) (ZiN enc w))
  obtain ⟨a7, w7, p7⟩ := ZG hf 7 rfl (off := 7) (sz := 1) (ft := 49) ⟨rfl, by kernel_rfl, rfl⟩ (Y9 (wd := 5) (by' := 48) Tryz.underlying49 (by kernel_rfl) (by kernel_rfl) (by decide) (Zc0 enc w))
  exact ⟨⟨a0, a1, a2, a3, a4, a5, a6, a7⟩, ⟨w0, w1, w2, w3, w4, w5, w6, w7⟩, (p0.cut (p1.cut (p2.cut (p3.cut (p4.cut (p5.cut (p6.cut (p7.cut (.fin (hl.trans (by kernel_rfl)))))))))))⟩
theorem Zj3 {H : Type} (enc : TypeId × Value → H) (w : World) : Opens enc Tryz.prog w 61 Zp ZcZ := by
  intro fuel cs x h hz
  obtain ⟨hl, n, hf⟩ := Qq Tryz.underlying61 h hz
  obtain ⟨a0, w0, p0⟩ := ZG hf 0 rfl (off := 0) (sz := 1) (ft := 9) ⟨rfl, by kernel_rfl, rfl⟩ (Vk Tryz.underlying9)
  obtain ⟨a1, w1, p1⟩ := ZG hf 1 rfl (off := 1) (sz := 1) (ft := 3) ⟨rfl, by kernel_rfl, rfl⟩ (XP Tryz.underlying3)
  obtain ⟨a2, w2, p2⟩ := ZG hf 2 rfl (off := 2) (sz := 1) (ft := 42) ⟨rfl, by kernel_rfl, rfl⟩ (Y9 (wd := 12) (by' := 112) Tryz.underlying42 (by kernel_rfl) (by kernel_rfl) (by decide) (ZjZ enc w))
  obtain ⟨a3, w3, p3⟩ := ZG hf 3 rfl (off := 3) (sz := 1) (ft := 43) ⟨rfl, by kernel_rfl, rfl⟩ (Y9 (wd := 2) (by' := 40) Tryz.underlying43 (by kernel_rfl) (by kernel_rfl) (by decide) (ZiD enc w))
  obtain ⟨a4, w4, p4⟩ := ZG hf 4 rfl (off := 4) (sz := 1) (ft := 44) ⟨rfl, by kernel_rfl, rfl⟩ (Y9 (wd := 2) (by' := 40) Tryz.underlying44 (by kernel_rfl) (by kernel_rfl) (by decide) (ZiF enc w))
  obtain ⟨a5, w5, p5⟩ := ZG hf 5 rfl (off := 5) (sz := 1) (ft := 45) ⟨rfl, by kernel_rfl, rfl⟩ (Y9 (wd := 2) (by' := 40) Tryz.underlying45 (by kernel_rfl) (by kernel_rfl) (by decide) (ZiH enc w))
  obtain ⟨a6, w6, p6⟩ := ZG hf 6 rfl (off := 6) (sz := 1) (ft := 46) ⟨rfl, by kernel_rfl, rfl⟩ (Y9 (wd := 9) (by' := 64) Tryz.underlying46 (by kernel_rfl) (by kernel_rfl) (by decide) (ZiI enc w))
  obtain ⟨a7, w7, p7⟩ := ZG hf 7 rfl (off := 7) (sz := 1) (ft := 47) ⟨rfl, by kernel_rfl, rfl⟩ (Y9 (wd := 7) (by' := 64) Tryz.underlying47 (by kernel_rfl) (by kernel_rfl) (by decide) (ZiJ enc w))
  obtain ⟨a8, w8, p8⟩ := ZG hf 8 rfl (off := 8) (sz := 4) (ft := 51) ⟨rfl, by kernel_rfl, rfl⟩ (Zj0 enc w)
  obtain ⟨a9, w9, p9⟩ := ZG hf 9 rfl (off := 12) (sz := 5) (ft := 53) ⟨rfl, by kernel_rfl, rfl⟩ (Zj1 enc w)
  obtain ⟨a10, w10, p10⟩ := ZG hf 10 rfl (off := 17) (sz := 8) (ft := 59) ⟨rfl, by kernel_rfl, rfl⟩ (Zj2 enc w)
  exact ⟨⟨a0, a1, a2, a3, a4, a5, a6, a7, a8, a9, a10⟩, ⟨w0, w1, w2, w3, w4, w5, w6, w7, w8, w9, w10⟩, (p0.cut (p1.cut (p2.cut (p3.cut (p4.cut (p5.cut (p6.cut (p7.cut (p8.cut (p9.cut (p10.cut (.fin (hl.trans (by kernel_rfl))))))))))))))⟩
theorem Zj4 {H : Type} (enc : TypeId × Value → H) (w : World) : Opens enc Tryz.prog w 24 XH Zbr := by
  intro fuel cs x h hz
  obtain ⟨hl, n, hf⟩ := Qq Tryz.underlying24 h hz
  obtain ⟨a0, w0, p0⟩ := ZG hf 0 rfl (off := 0) (sz := 1) (ft := 22) ⟨rfl, by kernel_rfl, rfl⟩ (Y9 (wd := 25) (by' := 448) Tryz.underlying22 (by kernel_rfl) (by kernel_rfl) (by decide) (Zj3 enc w))
  exact ⟨⟨a0⟩, w0, (p0.cut (.fin (hl.trans (by kernel_rfl))))⟩
end Nv
