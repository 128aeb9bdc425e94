/- What comes in is of the typed data. -/
import Derived.Test.YtaienbkgekjdnaaGreatProg
import Derived.Test.YtaienbkgekjdnaaGreatNvV1
import Derived.KernelRfl
set_option maxRecDepth 100000
namespace Nv
open Go Go.Proofs
theorem Zjy {H : Type} (enc : TypeId × Value → H) (w : World) : Opens enc Tryz.prog w 64 Zj KD := by
  intro fuel cs x h hz
  obtain ⟨hl, n, hf⟩ := Qs Tryz.underlying64 h hz
  obtain ⟨a0, w0, p0⟩ := ZE hf 0 rfl (off := 0) (sz := 1) (ft := 9) ⟨rfl, by kernel_rfl, rfl⟩ (Vf Tryz.underlying9)
  obtain ⟨a1, w1, p1⟩ := ZE hf 1 rfl (off := 1) (sz := 1) (ft := 62) ⟨rfl, by kernel_rfl, rfl⟩ (XL Tryz.underlying62)
  obtain ⟨a2, w2, p2⟩ := ZE hf 2 rfl (off := 2) (sz := 1) (ft := 3) ⟨rfl, by kernel_rfl, rfl⟩ (XL Tryz.underlying3)
  obtain ⟨a3, w3, p3⟩ := ZE hf 3 rfl (off := 3) (sz := 1) (ft := 3) ⟨rfl, by kernel_rfl, rfl⟩ (XL Tryz.underlying3)
  obtain ⟨a4, w4, p4⟩ := ZE hf 4 rfl (off := 4) (sz := 1) (ft := 4) ⟨rfl, by kernel_rfl, rfl⟩ (Vz Tryz.underlying4)
  obtain ⟨a5, w5, p5⟩ := ZE hf 5 rfl (off := 5) (sz := 1) (ft := 4) ⟨rfl, by kernel_rfl, rfl⟩ (Vz Tryz.underlying4)
  obtain ⟨a6, w6, p6⟩ := ZE hf 6 rfl (off := 6) (sz := 1) (ft := 3) ⟨rfl, by kernel_rfl, rfl⟩ (XL Tryz.underlying3)
  obtain ⟨a7, w7, p7⟩ := ZE hf 7 rfl (off := 7) (sz := 1) (ft := 3) ⟨rfl, by kernel_rfl, rfl⟩ (XL Tryz.underlying3)
  obtain ⟨a8, w8, p8⟩ := ZE hf 8 rfl (off := 8) (sz := 1) (ft := 4) ⟨rfl, by kernel_rfl, rfl⟩ (Vz Tryz.underlying4)
  obtain ⟨a9, w9, p9⟩ := ZE hf 9 rfl (off := 9) (sz := 1) (ft := 9) ⟨rfl, by kernel_rfl, rfl⟩ (Vf Tryz.underlying9)
  obtain ⟨a10, w10, p10⟩ := ZE hf 10 rfl (off := 10) (sz := 1) (ft := 9) ⟨rfl, by kernel_rfl, rfl⟩ (Vf Tryz.underlying9)
  obtain ⟨a11, w11, p11⟩ := ZE hf 11 rfl (off := 11) (sz := 1) (ft := 3) ⟨rfl, by kernel_rfl, rfl⟩ (XL Tryz.underlying3)
  exact ⟨⟨a0, a1, a2, a3, a4, a5, a6, a7, a8, a9, a10, a11⟩, ⟨w0, w1, w2, w3, w4, w5, w6, w7, w8, w9, w10, w11⟩, (p0.cut (p1.cut (p2.cut (p3.cut (p4.cut (p5.cut (p6.cut (p7.cut (p8.cut (p9.cut (p10.cut (p11.cut (.fin (hl.trans (by kernel_rfl)))))))))))))))⟩
theorem Gw {H : Type} (enc : TypeId × Value → H) (w : World) : Opens enc Tryz.prog w 66 Xg Uv := by
  intro fuel cs x h hz
  obtain ⟨hl, n, hf⟩ := Qs Tryz.underlying66 h hz
  obtain ⟨a0, w0, p0⟩ := ZE hf 0 rfl (off := 0) (sz := 1) (ft := 62) ⟨rfl, by kernel_rfl, rfl⟩ (XL Tryz.underlying62)
  obtain ⟨a1, w1, p1⟩ := ZE hf 1 rfl (off := 1) (sz := 1) (ft := 3) ⟨rfl, by kernel_rfl, rfl⟩ (XL Tryz.underlying3)
  exact ⟨⟨a0, a1⟩, ⟨w0, w1⟩, (p0.cut (p1.cut (.fin (hl.trans (by kernel_rfl)))))⟩
theorem Zh7 {H : Type} (enc : TypeId × Value → H) (w : World) : Opens enc Tryz.prog w 160 GR ZaD := by
  intro fuel cs x h hz
  obtain ⟨hl, n, hf⟩ := Qs Tryz.underlying160 h hz
  obtain ⟨a0, w0, p0⟩ := ZE hf 0 rfl (off := 0) (sz := 1) (ft := 4) ⟨rfl, by kernel_rfl, rfl⟩ (Vz Tryz.underlying4)
  obtain ⟨a1, w1, p1⟩ := ZE hf 1 rfl (off := 1) (sz := 2) (ft := 66) ⟨rfl, by kernel_rfl, rfl⟩ (Gw enc w)
  obtain ⟨a2, w2, p2⟩ := ZE hf 2 rfl (off := 3) (sz := 1) (ft := 3) ⟨rfl, by kernel_rfl, rfl⟩ (XL Tryz.underlying3)
  obtain ⟨a3, w3, p3⟩ := ZE hf 3 rfl (off := 4) (sz := 1) (ft := 3) ⟨rfl, by kernel_rfl, rfl⟩ (XL Tryz.underlying3)
  exact ⟨⟨a0, a1, a2, a3⟩, ⟨w0, w1, w2, w3⟩, (p0.cut (p1.cut (p2.cut (p3.cut (.fin (hl.trans (by kernel_rfl)))))))⟩
theorem Zh8 {H : Type} (enc : TypeId × Value → H) (w : World) : Opens enc Tryz.prog w 109 Zu GX := by
  intro fuel cs x h hz
  obtain ⟨hl, n, hf⟩ := Qs Tryz.underlying109 h hz
  obtain ⟨a0, w0, p0⟩ := ZE hf 0 rfl (off := 0) (sz := 1) (ft := 9) ⟨rfl, by kernel_rfl, rfl⟩ (Vf Tryz.underlying9)
  obtain ⟨a1, w1, p1⟩ := ZE hf 1 rfl (off := 1) (sz := 1) (ft := 107) ⟨rfl, by kernel_rfl, rfl⟩ (YQ (wd := 5) (by' := 40) Tryz.underlying107 (by kernel_rfl) (by kernel_rfl) (by decide) (Zh7 enc w))
  exact ⟨⟨a0, a1⟩, ⟨w0, w1⟩, (p0.cut (p1.cut (.fin (hl.trans (by kernel_rfl)))))⟩
theorem Zh9 {H : Type} (enc : TypeId × Value → H) (w : World) : Opens enc Tryz.prog w 164 ZeT Zcv := by
  intro fuel cs x h hz
  obtain ⟨hl, n, hf⟩ := Qs Tryz.underlying164 h hz
  obtain ⟨a0, w0, p0⟩ := ZE hf 0 rfl (off := 0) (sz := 1) (ft := 4) ⟨rfl, by kernel_rfl, rfl⟩ (Vz Tryz.underlying4)
  obtain ⟨a1, w1, p1⟩ := ZE hf 1 rfl (off := 1) (sz := 1) (ft := 9) ⟨rfl, by kernel_rfl, rfl⟩ (Vf Tryz.underlying9)
  obtain ⟨a2, w2, p2⟩ := ZE hf 2 rfl (off := 2) (sz := 1) (ft := 3) ⟨rfl, by kernel_rfl, rfl⟩ (XL Tryz.underlying3)
  obtain ⟨a3, w3, p3⟩ := ZE hf 3 rfl (off := 3) (sz := 1) (ft := 3) ⟨rfl, by kernel_rfl, rfl⟩ (XL Tryz.underlying3)
  obtain ⟨a4, w4, p4⟩ := ZE hf 4 rfl (off := 4) (sz := 1) (ft := 3) ⟨rfl, by kernel_rfl, rfl⟩ (XL Tryz.underlying3)
  obtain ⟨a5, w5, p5⟩ := ZE hf 5 rfl (off := 5) (sz := 1) (ft := 3) ⟨rfl, by kernel_rfl, rfl⟩ (XL Tryz.underlying3)
  obtain ⟨a6, w6, p6⟩ := ZE hf 6 rfl (off := 6) (sz := 1) (ft := 3) ⟨rfl, by kernel_rfl, rfl⟩ (XL Tryz.underlying3)
  exact ⟨⟨a0, a1, a2, a3, a4, a5, a6⟩, ⟨w0, w1, w2, w3, w4, w5, w6⟩, (p0.cut (p1.cut (p2.cut (p3.cut (p4.cut (p5.cut (p6.cut (.fin (hl.trans (by kernel_rfl))))))))))⟩
theorem Zia {H : Type} (enc : TypeId × Value → H) (w : World) : Opens enc Tryz.prog w 112 ZY RI := by
  intro fuel cs x h hz
  obtain ⟨hl, n, hf⟩ := Qs Tryz.underlying112 h hz
  obtain ⟨a0, w0, p0⟩ := ZE hf 0 rfl (off := 0) (sz := 1) (ft := 9) ⟨rfl, by kernel_rfl, rfl⟩ (Vf Tryz.underlying9)
  obtain ⟨a1, w1, p1⟩ := ZE hf 1 rfl (off := 1) (sz := 1) (ft := 110) ⟨rfl, by kernel_rfl, rfl⟩ (YQ (wd := 7) (by' := 64) Tryz.underlying110 (by kernel_rfl) (by kernel_rfl) (by decide) (Zh9 enc w))
  exact ⟨⟨a0, a1⟩, ⟨w0, w1⟩, (p0.cut (p1.cut (.fin (hl.trans (by kernel_rfl)))))⟩
theorem ZeU {H : Type} (enc : TypeId × Value → H) (w : World) : Opens enc Tryz.prog w 168 Zgm RJ := by
  intro fuel cs x h hz
  obtain ⟨hl, n, hf⟩ := Qs Tryz.underlying168 h hz
  obtain ⟨a0, w0, p0⟩ := ZE hf 0 rfl (off := 0) (sz := 1) (ft := 62) ⟨rfl, by kernel_rfl, rfl⟩ (XL Tryz.underlying62)
  obtain ⟨a1, w1, p1⟩ := ZE hf 1 rfl (off := 1) (sz := 1) (ft := 62) ⟨rfl, by kernel_rfl, rfl⟩ (XL Tryz.underlying62)
  exact ⟨⟨a0, a1⟩, ⟨w0, w1⟩, (p0.cut (p1.cut (.fin (hl.trans (by kernel_rfl)))))⟩
theorem ZeV {H : Type} (enc : TypeId × Value → H) (w : World) : Opens enc Tryz.prog w 170 Kt KE := by
  intro fuel cs x h hz
  obtain ⟨hl, n, hf⟩ := Qs Tryz.underlying170 h hz
  obtain ⟨a0, w0, p0⟩ := ZE hf 0 rfl (off := 0) (sz := 1) (ft := 3) ⟨rfl, by kernel_rfl, rfl⟩ (XL Tryz.underlying3)
  obtain ⟨a1, w1, p1⟩ := ZE hf 1 rfl (off := 1) (sz := 1) (ft := 3) ⟨rfl, by kernel_rfl, rfl⟩ (XL Tryz.underlying3)
  exact ⟨⟨a0, a1⟩, ⟨w0, w1⟩, (p0.cut (p1.cut (.fin (hl.trans (by kernel_rfl)))))⟩
theorem Zib {H : Type} (enc : TypeId × Value → H) (w : World) : Opens enc Tryz.prog w 172 Zfr ZhA := by
  intro fuel cs x h hz
  obtain ⟨hl, n, hf⟩ := Qs Tryz.underlying172 h hz
  obtain ⟨a0, w0, p0⟩ := ZE hf 0 rfl (off := 0) (sz := 1) (ft := 4) ⟨rfl, by kernel_rfl, rfl⟩ (Vz Tryz.underlying4)
  obtain ⟨a1, w1, p1⟩ := ZE hf 1 rfl (off := 1) (sz := 1) (ft := 3) ⟨rfl, by kernel_rfl, rfl⟩ (XL Tryz.underlying3)
  obtain ⟨a2, w2, p2⟩ := ZE hf 2 rfl (off := 2) (sz := 2) (ft := 168) ⟨rfl, by kernel_rfl, rfl⟩ (ZeU enc w)
  obtain ⟨a3, w3, p3⟩ := ZE hf 3 rfl (off := 4) (sz := 2) (ft := 168) ⟨rfl, by kernel_rfl, rfl⟩ (ZeU enc w)
  obtain ⟨a4, w4, p4⟩ := ZE hf 4 rfl (off := 6) (sz := 2) (ft := 170) ⟨rfl, by kernel_rfl, rfl⟩ (ZeV enc w)
  obtain ⟨a5, w5, p5⟩ := ZE hf 5 rfl (off := 8) (sz := 2) (ft := 170) ⟨rfl, by kernel_rfl, rfl⟩ (ZeV enc w)
  exact ⟨⟨a0, a1, a2, a3, a4, a5⟩, ⟨w0, w1, w2, w3, w4, w5⟩, (p0.cut (p1.cut (p2.cut (p3.cut (p4.cut (p5.cut (.fin (hl.trans (by kernel_rfl)))))))))⟩
theorem Zic {H : Type} (enc : TypeId × Value → H) (w : World) : Opens enc Tryz.prog w 115 Ys Zg5 := by
  intro fuel cs x h hz
  obtain ⟨hl, n, hf⟩ := Qs Tryz.underlying115 h hz
  obtain ⟨a0, w0, p0⟩ := ZE hf 0 rfl (off := 0) (sz := 1) (ft := 9) ⟨rfl, by kernel_rfl, rfl⟩ (Vf Tryz.underlying9)
  obtain ⟨a1, w1, p1⟩ := ZE hf 1 rfl (off := 1) (sz := 1) (ft := 113) ⟨rfl, by kernel_rfl, rfl⟩ (YQ (wd := 10) (by' := 64) Tryz.underlying113 (by kernel_rfl) (by kernel_rfl) (by decide) (Zib enc w))
  exact ⟨⟨a0, a1⟩, ⟨w0, w1⟩, (p0.cut (p1.cut (.fin (hl.trans (by kernel_rfl)))))⟩
theorem Zid {H : Type} (enc : TypeId × Value → H) (w : World) : Opens enc Tryz.prog w 131 Z3 Gu := by
  intro fuel cs x h hz
  obtain ⟨hl, n, hf⟩ := Qs Tryz.underlying131 h hz
  obtain ⟨a0, w0, p0⟩ := ZE hf 0 rfl (off := 0) (sz := 1) (ft := 3) ⟨rfl, by kernel_rfl, rfl⟩ (XL Tryz.underlying3)
  obtain ⟨a1, w1, p1⟩ := ZE hf 1 rfl (off := 1) (sz := 1) (ft := 62) ⟨rfl, by kernel_rfl, rfl⟩ (XL Tryz.underlying62)
  obtain ⟨a2, w2, p2⟩ := ZE hf 2 rfl (off := 2) (sz := 1) (ft := 62) ⟨rfl, by kernel_rfl, rfl⟩ (XL Tryz.underlying62)
  obtain ⟨a3, w3, p3⟩ := ZE hf 3 rfl (off := 3) (sz := 1) (ft := 3) ⟨rfl, by kernel_rfl, rfl⟩ (XL Tryz.underlying3)
  obtain ⟨a4, w4, p4⟩ := ZE hf 4 rfl (off := 4) (sz := 1) (ft := 3) ⟨rfl, by kernel_rfl, rfl⟩ (XL Tryz.underlying3)
  obtain ⟨a5, w5, p5⟩ := ZE hf 5 rfl (off := 5) (sz := 1) (ft := 3) ⟨rfl, by kernel_rfl, rfl⟩ (XL Tryz.underlying3)
  obtain ⟨a6, w6, p6⟩ := ZE hf 6 rfl (off := 6) (sz := 1) (ft := 9) ⟨rfl, by kernel_rfl, rfl⟩ (Vf Tryz.underlying9)
  obtain ⟨a7, w7, p7⟩ := ZE hf 7 rfl (off := 7) (sz := 1) (ft := 62) ⟨rfl, by kernel_rfl, rfl⟩ (XL Tryz.underlying62)
  obtain ⟨a8, w8, p8⟩ := ZE hf 8 rfl (off := 8) (sz := 1) (ft := 62) ⟨rfl, by kernel_rfl, rfl⟩ (XL Tryz.underlying62)
  exact ⟨⟨a0, a1, a2, a3, a4, a5, a6, a7, a8⟩, ⟨w0, w1, w2, w3, w4, w5, w6, w7, w8⟩, (p0.cut (p1.cut (p2.cut (p3.cut (p4.cut (p5.cut (p6.cut (p7.cut (p8.cut (.fin (hl.trans (by kernel_rfl))))))))))))⟩
theorem Zie {H : Type} (enc : TypeId × Value → H) (w : World) : Opens enc Tryz.prog w 133 Xc Gv := by
  intro fuel cs x h hz
  obtain ⟨hl, n, hf⟩ := Qs Tryz.underlying133 h hz
  obtain ⟨a0, w0, p0⟩ := ZE hf 0 rfl (off := 0) (sz := 2) (ft := 66) ⟨rfl, by kernel_rfl, rfl⟩ (Gw enc w)
  obtain ⟨a1, w1, p1⟩ := ZE hf 1 rfl (off := 2) (sz := 1) (ft := 62) ⟨rfl, by kernel_rfl, rfl⟩ (XL Tryz.underlying62)
  obtain ⟨a2, w2, p2⟩ := ZE hf 2 rfl (off := 3) (sz := 1) (ft := 9) ⟨rfl, by kernel_rfl, rfl⟩ (Vf Tryz.underlying9)
  obtain ⟨a3, w3, p3⟩ := ZE hf 3 rfl (off := 4) (sz := 1) (ft := 4) ⟨rfl, by kernel_rfl, rfl⟩ (Vz Tryz.underlying4)
  obtain ⟨a4, w4, p4⟩ := ZE hf 4 rfl (off := 5) (sz := 1) (ft := 3) ⟨rfl, by kernel_rfl, rfl⟩ (XL Tryz.underlying3)
  obtain ⟨a5, w5, p5⟩ := ZE hf 5 rfl (off := 6) (sz := 1) (ft := 3) ⟨rfl, by kernel_rfl, rfl⟩ (XL Tryz.underlying3)
  exact ⟨⟨a0, a1, a2, a3, a4, a5⟩, ⟨w0, w1, w2, w3, w4, w5⟩, (p0.cut (p1.cut (p2.cut (p3.cut (p4.cut (p5.cut (.fin (hl.trans (by kernel_rfl)))))))))⟩
theorem Zif {H : Type} (enc : TypeId × Value → H) (w : World) : Opens enc Tryz.prog w 177 Xx ZbW := by
  intro fuel cs x h hz
  obtain ⟨hl, n, hf⟩ := Qs Tryz.underlying177 h hz
  obtain ⟨a0, w0, p0⟩ := ZE hf 0 rfl (off := 0) (sz := 1) (ft := 3) ⟨rfl, by kernel_rfl, rfl⟩ (XL Tryz.underlying3)
  obtain ⟨a1, w1, p1⟩ := ZE hf 1 rfl (off := 1) (sz := 2) (ft := 66) ⟨rfl, by kernel_rfl, rfl⟩ (Gw enc w)
  exact ⟨⟨a0, a1⟩, ⟨w0, w1⟩, (p0.cut (p1.cut (.fin (hl.trans (by kernel_rfl)))))⟩
theorem Zcx {H : Type} (enc : TypeId × Value → H) (w : World) : Opens enc Tryz.prog w 180 Zx Km := by
  intro fuel cs x h hz
  obtain ⟨hl, n, hf⟩ := Qs Tryz.underlying180 h hz
  obtain ⟨a0, w0, p0⟩ := ZE hf 0 rfl (off := 0) (sz := 1) (ft := 3) ⟨rfl, by kernel_rfl, rfl⟩ (XL Tryz.underlying3)
  obtain ⟨a1, w1, p1⟩ := ZE hf 1 rfl (off := 1) (sz := 1) (ft := 3) ⟨rfl, by kernel_rfl, rfl⟩ (XL Tryz.underlying3)
  obtain ⟨a2, w2, p2⟩ := ZE hf 2 rfl (off := 2) (sz := 1) (ft := 3) ⟨rfl, by kernel_rfl, rfl⟩ (XL Tryz.underlying3)
  obtain ⟨a3, w3, p3⟩ := ZE hf 3 rfl (off := 3) (sz := 1) (ft := 9) ⟨rfl, by kernel_rfl, rfl⟩ (Vf Tryz.underlying9)
  obtain ⟨a4, w4, p4⟩ := ZE hf 4 rfl (off := 4) (sz := 1) (ft := 3) ⟨rfl, by kernel_rfl, rfl⟩ (XL Tryz.underlying3)
  exact ⟨⟨a0, a1, a2, a3, a4⟩, ⟨w0, w1, w2, w3, w4⟩, (p0.cut (p1.cut (p2.cut (p3.cut (p4.cut (.fin (hl.trans (by kernel_rfl))))))))⟩
theorem Zjz {H : Type} (enc : TypeId × Value → H) (w : World) : Opens enc Tryz.prog w 51 ZbD KF := by
  intro fuel cs x h hz
  obtain ⟨hl, n, hf⟩ := Qs Tryz.underlying51 h hz
  obtain ⟨a0, w0, p0⟩ := ZE hf 0 rfl (off := 0) (sz := 1) (ft := 4) ⟨rfl, by kernel_rfl, rfl⟩ (Vz Tryz.underlying4)
  obtain ⟨a1, w1, p1⟩ := ZE hf 1 rfl (off := 1) (sz := 1) (ft := 3) ⟨rfl, by kernel_rfl, rfl⟩ (XL Tryz.underlying3)
  obtain ⟨a2, w2, p2⟩ := ZE hf 2 rfl (off := 2) (sz := 1) (ft := 48) ⟨rfl, by kernel_rfl, rfl⟩ (YQ (wd := 3) (by' := 24) Tryz.underlying48 (by kernel_rfl) (by kernel_rfl) (by decide) (Zif enc w))
  obtain ⟨a3, w3, p3⟩ := ZE hf 3 rfl (off := 3) (sz := 1) (ft := 49) ⟨rfl, by kernel_rfl, rfl⟩ (YQ (wd := 5) (by' := 48) Tryz.underlying49 (by kernel_rfl) (by kernel_rfl) (by decide) (Zcx enc w))
  exact ⟨⟨a0, a1, a2, a3⟩, ⟨w0, w1, w2, w3⟩, (p0.cut (p1.cut (p2.cut (p3.cut (.fin (hl.trans (by kernel_rfl)))))))⟩
theorem ZjA {H : Type} (enc : TypeId × Value → H) (w : World) : Opens enc Tryz.prog w 53 ZbE UM := by
  intro fuel cs x h hz
  obtain ⟨hl, n, hf⟩ := Qs Tryz.underlying53 h hz
  obtain ⟨a0, w0, p0⟩ := ZE hf 0 rfl (off := 0) (sz := 1) (ft := 4) ⟨rfl, by kernel_rfl, rfl⟩ (Vz Tryz.underlying4)
  obtain ⟨a1, w1, p1⟩ := ZE hf 1 rfl (off := 1) (sz := 1) (ft := 3) ⟨rfl, by kernel_rfl, rfl⟩ (XL Tryz.underlying3)
  obtain ⟨a2, w2, p2⟩ := ZE hf 2 rfl (off := 2) (sz := 1) (ft := 9) ⟨rfl, by kernel_rfl, rfl⟩ (Vf Tryz.underlying9)
  obtain ⟨a3, w3, p3⟩ := ZE hf 3 rfl (off := 3) (sz := 1) (ft := 9) ⟨rfl, by kernel_rfl, rfl⟩ (Vf Tryz.underlying9)
  obtain ⟨a4, w4, p4⟩ := ZE hf 4 rfl (off := 4) (sz := 1) (ft := 49) ⟨rfl, by kernel_rfl, rfl⟩ (YQ (wd := 5) (by' := 48) Tryz.underlying49 (by kernel_rfl) (by kernel_rfl) (by decide) (Zcx enc w))
  exact ⟨⟨a0, a1, a2, a3, a4⟩, ⟨w0, w1, w2, w3, w4⟩, (p0.cut (p1.cut (p2.cut (p3.cut (p4.cut (.fin (hl.trans (by kernel_rfl))))))))⟩
theorem Zig {H : Type} (enc : TypeId × Value → H) (w : World) : Opens enc Tryz.prog w 183 XI RK := by
  intro fuel cs x h hz
  obtain ⟨hl, n, hf⟩ := Qs Tryz.underlying183 h hz
  obtain ⟨a0, w0, p0⟩ := ZE hf 0 rfl (off := 0) (sz := 1) (ft := 62) ⟨rfl, by kernel_rfl, rfl⟩ (XL Tryz.underlying62)
  obtain ⟨a1, w1, p1⟩ := ZE hf 1 rfl (off := 1) (sz := 1) (ft := 3) ⟨rfl, by kernel_rfl, rfl⟩ (XL Tryz.underlying3)
  obtain ⟨a2, w2, p2⟩ := ZE hf 2 rfl (off := 2) (sz := 1) (ft := 9) ⟨rfl, by kernel_rfl, rfl⟩ (Vf Tryz.underlying9)
  obtain ⟨a3, w3, p3⟩ := ZE hf 3 rfl (off := 3) (sz := 1) (ft := 9) ⟨rfl, by kernel_rfl, rfl⟩ (Vf Tryz.underlying9)
  exact ⟨⟨a0, a1, a2, a3⟩, ⟨w0, w1, w2, w3⟩, (p0.cut (p1.cut (p2.cut (p3.cut (.fin (hl.trans (by kernel_rfl)))))))⟩
theorem Zih {H : Type} (enc : TypeId × Value → H) (w : World) : Opens enc Tryz.prog w 187 Xy ZbX := by
  intro fuel cs x h hz
  obtain ⟨hl, n, hf⟩ := Qs Tryz.underlying187 h hz
  obtain ⟨a0, w0, p0⟩ := ZE hf 0 rfl (off := 0) (sz := 2) (ft := 66) ⟨rfl, by kernel_rfl, rfl⟩ (Gw enc w)
  obtain ⟨a1, w1, p1⟩ := ZE hf 1 rfl (off := 2) (sz := 1) (ft := 4) ⟨rfl, by kernel_rfl, rfl⟩ (Vz Tryz.underlying4)
  exact ⟨⟨a0, a1⟩, ⟨w0, w1⟩, (p0.cut (p1.cut (.fin (hl.trans (by kernel_rfl)))))⟩
theorem Zii {H : Type} (enc : TypeId × Value → H) (w : World) : Opens enc Tryz.prog w 190 Xs ZbY := by
  intro fuel cs x h hz
  obtain ⟨hl, n, hf⟩ := Qs Tryz.underlying190 h hz
  obtain ⟨a0, w0, p0⟩ := ZE hf 0 rfl (off := 0) (sz := 2) (ft := 66) ⟨rfl, by kernel_rfl, rfl⟩ (Gw enc w)
  obtain ⟨a1, w1, p1⟩ := ZE hf 1 rfl (off := 2) (sz := 2) (ft := 66) ⟨rfl, by kernel_rfl, rfl⟩ (Gw enc w)
  obtain ⟨a2, w2, p2⟩ := ZE hf 2 rfl (off := 4) (sz := 1) (ft := 4) ⟨rfl, by kernel_rfl, rfl⟩ (Vz Tryz.underlying4)
  exact ⟨⟨a0, a1, a2⟩, ⟨w0, w1, w2⟩, (p0.cut (p1.cut (p2.cut (.fin (hl.trans (by kernel_rfl))))))⟩
theorem ZjB {H : Type} (enc : TypeId × Value → H) (w : World) : Opens enc Tryz.prog w 59 U0 GY := by
  intro fuel cs x h hz
  obtain ⟨hl, n, hf⟩ := Qs Tryz.underlying59 h hz
  obtain ⟨a0, w0, p0⟩ := ZE hf 0 rfl (off := 0) (sz := 1) (ft := 4) ⟨rfl, by kernel_rfl, rfl⟩ (Vz Tryz.underlying4)
  obtain ⟨a1, w1, p1⟩ := ZE hf 1 rfl (off := 1) (sz := 1) (ft := 3) ⟨rfl, by kernel_rfl, rfl⟩ (XL Tryz.underlying3)
  obtain ⟨a2, w2, p2⟩ := ZE hf 2 rfl (off := 2) (sz := 1) (ft := 3) ⟨rfl, by kernel_rfl, rfl⟩ (XL Tryz.underlying3)
  obtain ⟨a3, w3, p3⟩ := ZE hf 3 rfl (off := 3) (sz := 1) (ft := 54) ⟨rfl, by kernel_rfl, rfl⟩ (YQ (wd := 4) (by' := 48) Tryz.underlying54 (by kernel_rfl) (by kernel_rfl) (by decide) (Zig enc w))
  obtain ⟨a4, w4, p4⟩ := ZE hf 4 rfl (off := 4) (sz := 1) (ft := 55) ⟨rfl, by kernel_rfl, rfl⟩ (YQ (wd := 2) (by' := 16) Tryz.underlying55 (by kernel_rfl) (by kernel_rfl) (by decide) (Gw enc w))
  obtain ⟨a5, w5, p5⟩ := ZE hf 5 rfl (off := 5) (sz := 1) (ft := 56) ⟨rfl, by kernel_rfl, rfl⟩ (YQ (wd := 3) (by' := 24) Tryz.underlying56 (by kernel_rfl) (by kernel_rfl) (by decide) (Zih enc w))
  obtain ⟨a6, w6, p6⟩ := ZE hf 6 rfl (off := 6) (sz := 1) (ft := 57) ⟨rfl, by kernel_rfl, rfl⟩ (YQ (wd := 5) (by' := 40) Tryz.underlying57 (by kernel_rfl) (by kernel_rfl) (by decide) (Zii enc w))
  obtain ⟨a7, w7, p7⟩ := ZE hf 7 rfl (off := 7) (sz := 1) (ft := 49) ⟨rfl, by kernel_rfl, rfl⟩ (YQ (wd := 5) (by' := 48) Tryz.underlying49 (by kernel_rfl) (by kernel_rfl) (by decide) (Zcx enc w))
  exact ⟨⟨a0, a1, a2, a3, a4, a5, a6, a7⟩, ⟨w0, w1, w2, w3, w4, w5, w6, w7⟩, (p0.cut (p1.cut (p2.cut (p3.cut (p4.cut (p5.cut (p6.cut (p7.cut (.fin (hl.trans (by kernel_rfl)))))))))))⟩
theorem ZjC {H : Type} (enc : TypeId × Value → H) (w : World) : Opens enc Tryz.prog w 61 Zp Zcw := by
  intro fuel cs x h hz
  obtain ⟨hl, n, hf⟩ := Qs Tryz.underlying61 h hz
  obtain ⟨a0, w0, p0⟩ := ZE hf 0 rfl (off := 0) (sz := 1) (ft := 9) ⟨rfl, by kernel_rfl, rfl⟩ (Vf Tryz.underlying9)
  obtain ⟨a1, w1, p1⟩ := ZE hf 1 rfl (off := 1) (sz := 1) (ft := 3) ⟨rfl, by kernel_rfl, rfl⟩ (XL Tryz.underlying3)
  obtain ⟨a2, w2, p2⟩ := ZE hf 2 rfl (off := 2) (sz := 1) (ft := 42) ⟨rfl, by kernel_rfl, rfl⟩ (YQ (wd := 12) (by' := 112) Tryz.underlying42 (by kernel_rfl) (by kernel_rfl) (by decide) (Zjy enc w))
  obtain ⟨a3, w3, p3⟩ := ZE hf 3 rfl (off := 3) (sz := 1) (ft := 43) ⟨rfl, by kernel_rfl, rfl⟩ (YQ (wd := 2) (by' := 40) Tryz.underlying43 (by kernel_rfl) (by kernel_rfl) (by decide) (Zh8 enc w))
  obtain ⟨a4, w4, p4⟩ := ZE hf 4 rfl (off := 4) (sz := 1) (ft := 44) ⟨rfl, by kernel_rfl, rfl⟩ (YQ (wd := 2) (by' := 40) Tryz.underlying44 (by kernel_rfl) (by kernel_rfl) (by decide) (Zia enc w))
  obtain ⟨a5, w5, p5⟩ := ZE hf 5 rfl (off := 5) (sz := 1) (ft := 45) ⟨rfl, by kernel_rfl, rfl⟩ (YQ (wd := 2) (by' := 40) Tryz.underlying45 (by kernel_rfl) (by kernel_rfl) (by decide) (Zic enc w))
  obtain ⟨a6, w6, p6⟩ := ZE hf 6 rfl (off := 6) (sz := 1) (ft := 46) ⟨rfl, by kernel_rfl, rfl⟩ (YQ (wd := 9) (by' := 64) Tryz.underlying46 (by kernel_rfl) (by kernel_rfl) (by decide) (Zid enc w))
  obtain ⟨a7, w7, p7⟩ := ZE hf 7 rfl (off := 7) (sz := 1) (ft := 47) ⟨rfl, by kernel_rfl, rfl⟩ (YQ (wd := 7) (by' := 64) Tryz.underlying47 (by kernel_rfl) (by kernel_rfl) (by decide) (Zie enc w))
  obtain ⟨a8, w8, p8⟩ := ZE hf 8 rfl (off := 8) (sz := 4) (ft := 51) ⟨rfl, by kernel_rfl, rfl⟩ (Zjz enc w)
  obtain ⟨a9, w9, p9⟩ := ZE hf 9 rfl (off := 12) (sz := 5) (ft := 53) ⟨rfl, by kernel_rfl, rfl⟩ (ZjA enc w)
  obtain ⟨a10, w10, p10⟩ := ZE hf 10 rfl (off := 17) (sz := 8) (ft := 59) ⟨rfl, by kernel_rfl, rfl⟩ (ZjB enc w)
  exact ⟨⟨a0, a1, a2, a3, a4, a5, a6, a7, a8, a9, a10⟩, ⟨w0, w1, w2, w3, w4, w5, w6, w7, w8, w9, w10⟩, (p0.cut (p1.cut (p2.cut (p3.cut (p4.cut (p5.cut (p6.cut (p7.cut (p8.cut (p9.cut (p10.cut (.fin (hl.trans (by kernel_rfl))))))))))))))⟩
theorem ZjD {H : Type} (enc : TypeId × Value → H) (w : World) : Opens enc Tryz.prog w 24 XO Za1 := by
  intro fuel cs x h hz
  obtain ⟨hl, n, hf⟩ := Qs Tryz.underlying24 h hz
  obtain ⟨a0, w0, p0⟩ := ZE hf 0 rfl (off := 0) (sz := 1) (ft := 22) ⟨rfl, by kernel_rfl, rfl⟩ (YQ (wd := 25) (by' := 448) Tryz.underlying22 (by kernel_rfl) (by kernel_rfl) (by decide) (ZjC enc w))
  exact ⟨⟨a0⟩, w0, (p0.cut (.fin (hl.trans (by kernel_rfl))))⟩
end Nv
