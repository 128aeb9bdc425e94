/- What comes in is of the typed data. -/
import Derived.Test.YtaienbkgekjdnaaGreatProg
import Derived.Test.YtaienbkgekjdnaaGreatNvV1
import Derived.KernelRfl
set_option maxRecDepth 100000
namespace Nv
open Go Go.Proofs
theorem Zms {H : Type} (enc : TypeId × Value → H) (w : World) : Opens enc Tryz.prog w 64 Zn ZaW := by
 intro fuel cs x h hz
 obtain ⟨hl,n,hf⟩ := JQ Tryz.underlying64 h hz
 obtain ⟨a0,w0,p0⟩ := Z3 hf 0 rfl (off := 0) (sz := 1) (ft := 9) ⟨rfl,by kernel_rfl,rfl⟩ (Wz Tryz.underlying9)
 obtain ⟨a1,w1,p1⟩ := Z3 hf 1 rfl (off := 1) (sz := 1) (ft := 62) ⟨rfl,by kernel_rfl,rfl⟩ (X6 Tryz.underlying62)
 obtain ⟨a2,w2,p2⟩ := Z3 hf 2 rfl (off := 2) (sz := 1) (ft := 3) ⟨rfl,by kernel_rfl,rfl⟩ (X6 Tryz.underlying3)
 obtain ⟨a3,w3,p3⟩ := Z3 hf 3 rfl (off := 3) (sz := 1) (ft := 3) ⟨rfl,by kernel_rfl,rfl⟩ (X6 Tryz.underlying3)
 obtain ⟨a4,w4,p4⟩ := Z3 hf 4 rfl (off := 4) (sz := 1) (ft := 4) ⟨rfl,by kernel_rfl,rfl⟩ (WV Tryz.underlying4)
 obtain ⟨a5,w5,p5⟩ := Z3 hf 5 rfl (off := 5) (sz := 1) (ft := 4) ⟨rfl,by kernel_rfl,rfl⟩ (WV Tryz.underlying4)
 obtain ⟨a6,w6,p6⟩ := Z3 hf 6 rfl (off := 6) (sz := 1) (ft := 3) ⟨rfl,by kernel_rfl,rfl⟩ (X6 Tryz.underlying3)
 obtain ⟨a7,w7,p7⟩ := Z3 hf 7 rfl (off := 7) (sz := 1) (ft := 3) ⟨rfl,by kernel_rfl,rfl⟩ (X6 Tryz.underlying3)
 obtain ⟨a8,w8,p8⟩ := Z3 hf 8 rfl (off := 8) (sz := 1) (ft := 4) ⟨rfl,by kernel_rfl,rfl⟩ (WV Tryz.underlying4)
 obtain ⟨a9,w9,p9⟩ := Z3 hf 9 rfl (off := 9) (sz := 1) (ft := 9) ⟨rfl,by kernel_rfl,rfl⟩ (Wz Tryz.underlying9)
 obtain ⟨a10,w10,p10⟩ := Z3 hf 10 rfl (off := 10) (sz := 1) (ft := 9) ⟨rfl,by kernel_rfl,rfl⟩ (Wz Tryz.underlying9)
 obtain ⟨a11,w11,p11⟩ := Z3 hf 11 rfl (off := 11) (sz := 1) (ft := 3) ⟨rfl,by kernel_rfl,rfl⟩ (X6 Tryz.underlying3)
 exact ⟨⟨a0,a1,a2,a3,a4,a5,a6,a7,a8,a9,a10,a11⟩,⟨w0,w1,w2,w3,w4,w5,w6,w7,w8,w9,w10,w11⟩,(p0.cut (p1.cut (p2.cut (p3.cut (p4.cut (p5.cut (p6.cut (p7.cut (p8.cut (p9.cut (p10.cut (p11.cut (.fin (hl.trans (by kernel_rfl)))))))))))))))⟩
theorem RA {H : Type} (enc : TypeId × Value → H) (w : World) : Opens enc Tryz.prog w 66 Xc Kg := by
 intro fuel cs x h hz
 obtain ⟨hl,n,hf⟩ := JQ Tryz.underlying66 h hz
 obtain ⟨a0,w0,p0⟩ := Z3 hf 0 rfl (off := 0) (sz := 1) (ft := 62) ⟨rfl,by kernel_rfl,rfl⟩ (X6 Tryz.underlying62)
 obtain ⟨a1,w1,p1⟩ := Z3 hf 1 rfl (off := 1) (sz := 1) (ft := 3) ⟨rfl,by kernel_rfl,rfl⟩ (X6 Tryz.underlying3)
 exact ⟨⟨a0,a1⟩,⟨w0,w1⟩,(p0.cut (p1.cut (.fin (hl.trans (by kernel_rfl)))))⟩
theorem ZkV {H : Type} (enc : TypeId × Value → H) (w : World) : Opens enc Tryz.prog w 160 Vk Zdm := by
 intro fuel cs x h hz
 obtain ⟨hl,n,hf⟩ := JQ Tryz.underlying160 h hz
 obtain ⟨a0,w0,p0⟩ := Z3 hf 0 rfl (off := 0) (sz := 1) (ft := 4) ⟨rfl,by kernel_rfl,rfl⟩ (WV Tryz.underlying4)
 obtain ⟨a1,w1,p1⟩ := Z3 hf 1 rfl (off := 1) (sz := 2) (ft := 66) ⟨rfl,by kernel_rfl,rfl⟩ (RA enc w)
 obtain ⟨a2,w2,p2⟩ := Z3 hf 2 rfl (off := 3) (sz := 1) (ft := 3) ⟨rfl,by kernel_rfl,rfl⟩ (X6 Tryz.underlying3)
 obtain ⟨a3,w3,p3⟩ := Z3 hf 3 rfl (off := 4) (sz := 1) (ft := 3) ⟨rfl,by kernel_rfl,rfl⟩ (X6 Tryz.underlying3)
 exact ⟨⟨a0,a1,a2,a3⟩,⟨w0,w1,w2,w3⟩,(p0.cut (p1.cut (p2.cut (p3.cut (.fin (hl.trans (by kernel_rfl)))))))⟩
theorem ZkW {H : Type} (enc : TypeId × Value → H) (w : World) : Opens enc Tryz.prog w 109 Zv Zac := by
 intro fuel cs x h hz
 obtain ⟨hl,n,hf⟩ := JQ Tryz.underlying109 h hz
 obtain ⟨a0,w0,p0⟩ := Z3 hf 0 rfl (off := 0) (sz := 1) (ft := 9) ⟨rfl,by kernel_rfl,rfl⟩ (Wz Tryz.underlying9)
 obtain ⟨a1,w1,p1⟩ := Z3 hf 1 rfl (off := 1) (sz := 1) (ft := 107) ⟨rfl,by kernel_rfl,rfl⟩ (Q7 (wd := 5) (by' := 40) Tryz.underlying107 (by kernel_rfl) (by kernel_rfl) (by decide) (ZkV enc w))
 exact ⟨⟨a0,a1⟩,⟨w0,w1⟩,(p0.cut (p1.cut (.fin (hl.trans (by kernel_rfl)))))⟩
theorem ZkX {H : Type} (enc : TypeId × Value → H) (w : World) : Opens enc Tryz.prog w 164 Up Ze4 := by
 intro fuel cs x h hz
 obtain ⟨hl,n,hf⟩ := JQ Tryz.underlying164 h hz
 obtain ⟨a0,w0,p0⟩ := Z3 hf 0 rfl (off := 0) (sz := 1) (ft := 4) ⟨rfl,by kernel_rfl,rfl⟩ (WV Tryz.underlying4)
 obtain ⟨a1,w1,p1⟩ := Z3 hf 1 rfl (off := 1) (sz := 1) (ft := 9) ⟨rfl,by kernel_rfl,rfl⟩ (Wz Tryz.underlying9)
 obtain ⟨a2,w2,p2⟩ := Z3 hf 2 rfl (off := 2) (sz := 1) (ft := 3) ⟨rfl,by kernel_rfl,rfl⟩ (X6 Tryz.underlying3)
 obtain ⟨a3,w3,p3⟩ := Z3 hf 3 rfl (off := 3) (sz := 1) (ft := 3) ⟨rfl,by kernel_rfl,rfl⟩ (X6 Tryz.underlying3)
 obtain ⟨a4,w4,p4⟩ := Z3 hf 4 rfl (off := 4) (sz := 1) (ft := 3) ⟨rfl,by kernel_rfl,rfl⟩ (X6 Tryz.underlying3)
 obtain ⟨a5,w5,p5⟩ := Z3 hf 5 rfl (off := 5) (sz := 1) (ft := 3) ⟨rfl,by kernel_rfl,rfl⟩ (X6 Tryz.underlying3)
 obtain ⟨a6,w6,p6⟩ := Z3 hf 6 rfl (off := 6) (sz := 1) (ft := 3) ⟨rfl,by kernel_rfl,rfl⟩ (X6 Tryz.underlying3)
 exact ⟨⟨a0,a1,a2,a3,a4,a5,a6⟩,⟨w0,w1,w2,w3,w4,w5,w6⟩,(p0.cut (p1.cut (p2.cut (p3.cut (p4.cut (p5.cut (p6.cut (.fin (hl.trans (by kernel_rfl))))))))))⟩
theorem ZkY {H : Type} (enc : TypeId × Value → H) (w : World) : Opens enc Tryz.prog w 112 ZQ Zcg := by
 intro fuel cs x h hz
 obtain ⟨hl,n,hf⟩ := JQ Tryz.underlying112 h hz
 obtain ⟨a0,w0,p0⟩ := Z3 hf 0 rfl (off := 0) (sz := 1) (ft := 9) ⟨rfl,by kernel_rfl,rfl⟩ (Wz Tryz.underlying9)
 obtain ⟨a1,w1,p1⟩ := Z3 hf 1 rfl (off := 1) (sz := 1) (ft := 110) ⟨rfl,by kernel_rfl,rfl⟩ (Q7 (wd := 7) (by' := 64) Tryz.underlying110 (by kernel_rfl) (by kernel_rfl) (by decide) (ZkX enc w))
 exact ⟨⟨a0,a1⟩,⟨w0,w1⟩,(p0.cut (p1.cut (.fin (hl.trans (by kernel_rfl)))))⟩
theorem ZhA {H : Type} (enc : TypeId × Value → H) (w : World) : Opens enc Tryz.prog w 168 Zi9 Zch := by
 intro fuel cs x h hz
 obtain ⟨hl,n,hf⟩ := JQ Tryz.underlying168 h hz
 obtain ⟨a0,w0,p0⟩ := Z3 hf 0 rfl (off := 0) (sz := 1) (ft := 62) ⟨rfl,by kernel_rfl,rfl⟩ (X6 Tryz.underlying62)
 obtain ⟨a1,w1,p1⟩ := Z3 hf 1 rfl (off := 1) (sz := 1) (ft := 62) ⟨rfl,by kernel_rfl,rfl⟩ (X6 Tryz.underlying62)
 exact ⟨⟨a0,a1⟩,⟨w0,w1⟩,(p0.cut (p1.cut (.fin (hl.trans (by kernel_rfl)))))⟩
theorem ZhB {H : Type} (enc : TypeId × Value → H) (w : World) : Opens enc Tryz.prog w 170 Re ZaX := by
 intro fuel cs x h hz
 obtain ⟨hl,n,hf⟩ := JQ Tryz.underlying170 h hz
 obtain ⟨a0,w0,p0⟩ := Z3 hf 0 rfl (off := 0) (sz := 1) (ft := 3) ⟨rfl,by kernel_rfl,rfl⟩ (X6 Tryz.underlying3)
 obtain ⟨a1,w1,p1⟩ := Z3 hf 1 rfl (off := 1) (sz := 1) (ft := 3) ⟨rfl,by kernel_rfl,rfl⟩ (X6 Tryz.underlying3)
 exact ⟨⟨a0,a1⟩,⟨w0,w1⟩,(p0.cut (p1.cut (.fin (hl.trans (by kernel_rfl)))))⟩
theorem ZkZ {H : Type} (enc : TypeId × Value → H) (w : World) : Opens enc Tryz.prog w 172 GO Zkp := by
 intro fuel cs x h hz
 obtain ⟨hl,n,hf⟩ := JQ Tryz.underlying172 h hz
 obtain ⟨a0,w0,p0⟩ := Z3 hf 0 rfl (off := 0) (sz := 1) (ft := 4) ⟨rfl,by kernel_rfl,rfl⟩ (WV Tryz.underlying4)
 obtain ⟨a1,w1,p1⟩ := Z3 hf 1 rfl (off := 1) (sz := 1) (ft := 3) ⟨rfl,by kernel_rfl,rfl⟩ (X6 Tryz.underlying3)
 obtain ⟨a2,w2,p2⟩ := Z3 hf 2 rfl (off := 2) (sz := 2) (ft := 168) ⟨rfl,by kernel_rfl,rfl⟩ (ZhA enc w)
 obtain ⟨a3,w3,p3⟩ := Z3 hf 3 rfl (off := 4) (sz := 2) (ft := 168) ⟨rfl,by kernel_rfl,rfl⟩ (ZhA enc w)
 obtain ⟨a4,w4,p4⟩ := Z3 hf 4 rfl (off := 6) (sz := 2) (ft := 170) ⟨rfl,by kernel_rfl,rfl⟩ (ZhB enc w)
 obtain ⟨a5,w5,p5⟩ := Z3 hf 5 rfl (off := 8) (sz := 2) (ft := 170) ⟨rfl,by kernel_rfl,rfl⟩ (ZhB enc w)
 exact ⟨⟨a0,a1,a2,a3,a4,a5⟩,⟨w0,w1,w2,w3,w4,w5⟩,(p0.cut (p1.cut (p2.cut (p3.cut (p4.cut (p5.cut (.fin (hl.trans (by kernel_rfl)))))))))⟩
theorem Zk0 {H : Type} (enc : TypeId × Value → H) (w : World) : Opens enc Tryz.prog w 115 Yq ZjU := by
 intro fuel cs x h hz
 obtain ⟨hl,n,hf⟩ := JQ Tryz.underlying115 h hz
 obtain ⟨a0,w0,p0⟩ := Z3 hf 0 rfl (off := 0) (sz := 1) (ft := 9) ⟨rfl,by kernel_rfl,rfl⟩ (Wz Tryz.underlying9)
 obtain ⟨a1,w1,p1⟩ := Z3 hf 1 rfl (off := 1) (sz := 1) (ft := 113) ⟨rfl,by kernel_rfl,rfl⟩ (Q7 (wd := 10) (by' := 64) Tryz.underlying113 (by kernel_rfl) (by kernel_rfl) (by decide) (ZkZ enc w))
 exact ⟨⟨a0,a1⟩,⟨w0,w1⟩,(p0.cut (p1.cut (.fin (hl.trans (by kernel_rfl)))))⟩
theorem Zk1 {H : Type} (enc : TypeId × Value → H) (w : World) : Opens enc Tryz.prog w 131 Z8 Rx := by
 intro fuel cs x h hz
 obtain ⟨hl,n,hf⟩ := JQ Tryz.underlying131 h hz
 obtain ⟨a0,w0,p0⟩ := Z3 hf 0 rfl (off := 0) (sz := 1) (ft := 3) ⟨rfl,by kernel_rfl,rfl⟩ (X6 Tryz.underlying3)
 obtain ⟨a1,w1,p1⟩ := Z3 hf 1 rfl (off := 1) (sz := 1) (ft := 62) ⟨rfl,by kernel_rfl,rfl⟩ (X6 Tryz.underlying62)
 obtain ⟨a2,w2,p2⟩ := Z3 hf 2 rfl (off := 2) (sz := 1) (ft := 62) ⟨rfl,by kernel_rfl,rfl⟩ (X6 Tryz.underlying62)
 obtain ⟨a3,w3,p3⟩ := Z3 hf 3 rfl (off := 3) (sz := 1) (ft := 3) ⟨rfl,by kernel_rfl,rfl⟩ (X6 Tryz.underlying3)
 obtain ⟨a4,w4,p4⟩ := Z3 hf 4 rfl (off := 4) (sz := 1) (ft := 3) ⟨rfl,by kernel_rfl,rfl⟩ (X6 Tryz.underlying3)
 obtain ⟨a5,w5,p5⟩ := Z3 hf 5 rfl (off := 5) (sz := 1) (ft := 3) ⟨rfl,by kernel_rfl,rfl⟩ (X6 Tryz.underlying3)
 obtain ⟨a6,w6,p6⟩ := Z3 hf 6 rfl (off := 6) (sz := 1) (ft := 9) ⟨rfl,by kernel_rfl,rfl⟩ (Wz Tryz.underlying9)
 obtain ⟨a7,w7,p7⟩ := Z3 hf 7 rfl (off := 7) (sz := 1) (ft := 62) ⟨rfl,by kernel_rfl,rfl⟩ (X6 Tryz.underlying62)
 obtain ⟨a8,w8,p8⟩ := Z3 hf 8 rfl (off := 8) (sz := 1) (ft := 62) ⟨rfl,by kernel_rfl,rfl⟩ (X6 Tryz.underlying62)
 exact ⟨⟨a0,a1,a2,a3,a4,a5,a6,a7,a8⟩,⟨w0,w1,w2,w3,w4,w5,w6,w7,w8⟩,(p0.cut (p1.cut (p2.cut (p3.cut (p4.cut (p5.cut (p6.cut (p7.cut (p8.cut (.fin (hl.trans (by kernel_rfl))))))))))))⟩
theorem Zk2 {H : Type} (enc : TypeId × Value → H) (w : World) : Opens enc Tryz.prog w 133 ZX Ry := by
 intro fuel cs x h hz
 obtain ⟨hl,n,hf⟩ := JQ Tryz.underlying133 h hz
 obtain ⟨a0,w0,p0⟩ := Z3 hf 0 rfl (off := 0) (sz := 2) (ft := 66) ⟨rfl,by kernel_rfl,rfl⟩ (RA enc w)
 obtain ⟨a1,w1,p1⟩ := Z3 hf 1 rfl (off := 2) (sz := 1) (ft := 62) ⟨rfl,by kernel_rfl,rfl⟩ (X6 Tryz.underlying62)
 obtain ⟨a2,w2,p2⟩ := Z3 hf 2 rfl (off := 3) (sz := 1) (ft := 9) ⟨rfl,by kernel_rfl,rfl⟩ (Wz Tryz.underlying9)
 obtain ⟨a3,w3,p3⟩ := Z3 hf 3 rfl (off := 4) (sz := 1) (ft := 4) ⟨rfl,by kernel_rfl,rfl⟩ (WV Tryz.underlying4)
 obtain ⟨a4,w4,p4⟩ := Z3 hf 4 rfl (off := 5) (sz := 1) (ft := 3) ⟨rfl,by kernel_rfl,rfl⟩ (X6 Tryz.underlying3)
 obtain ⟨a5,w5,p5⟩ := Z3 hf 5 rfl (off := 6) (sz := 1) (ft := 3) ⟨rfl,by kernel_rfl,rfl⟩ (X6 Tryz.underlying3)
 exact ⟨⟨a0,a1,a2,a3,a4,a5⟩,⟨w0,w1,w2,w3,w4,w5⟩,(p0.cut (p1.cut (p2.cut (p3.cut (p4.cut (p5.cut (.fin (hl.trans (by kernel_rfl)))))))))⟩
theorem Zk3 {H : Type} (enc : TypeId × Value → H) (w : World) : Opens enc Tryz.prog w 177 Xl Zex := by
 intro fuel cs x h hz
 obtain ⟨hl,n,hf⟩ := JQ Tryz.underlying177 h hz
 obtain ⟨a0,w0,p0⟩ := Z3 hf 0 rfl (off := 0) (sz := 1) (ft := 3) ⟨rfl,by kernel_rfl,rfl⟩ (X6 Tryz.underlying3)
 obtain ⟨a1,w1,p1⟩ := Z3 hf 1 rfl (off := 1) (sz := 2) (ft := 66) ⟨rfl,by kernel_rfl,rfl⟩ (RA enc w)
 exact ⟨⟨a0,a1⟩,⟨w0,w1⟩,(p0.cut (p1.cut (.fin (hl.trans (by kernel_rfl)))))⟩
theorem Ze5 {H : Type} (enc : TypeId × Value → H) (w : World) : Opens enc Tryz.prog w 180 Zx Zaz := by
 intro fuel cs x h hz
 obtain ⟨hl,n,hf⟩ := JQ Tryz.underlying180 h hz
 obtain ⟨a0,w0,p0⟩ := Z3 hf 0 rfl (off := 0) (sz := 1) (ft := 3) ⟨rfl,by kernel_rfl,rfl⟩ (X6 Tryz.underlying3)
 obtain ⟨a1,w1,p1⟩ := Z3 hf 1 rfl (off := 1) (sz := 1) (ft := 3) ⟨rfl,by kernel_rfl,rfl⟩ (X6 Tryz.underlying3)
 obtain ⟨a2,w2,p2⟩ := Z3 hf 2 rfl (off := 2) (sz := 1) (ft := 3) ⟨rfl,by kernel_rfl,rfl⟩ (X6 Tryz.underlying3)
 obtain ⟨a3,w3,p3⟩ := Z3 hf 3 rfl (off := 3) (sz := 1) (ft := 9) ⟨rfl,by kernel_rfl,rfl⟩ (Wz Tryz.underlying9)
 obtain ⟨a4,w4,p4⟩ := Z3 hf 4 rfl (off := 4) (sz := 1) (ft := 3) ⟨rfl,by kernel_rfl,rfl⟩ (X6 Tryz.underlying3)
 exact ⟨⟨a0,a1,a2,a3,a4⟩,⟨w0,w1,w2,w3,w4⟩,(p0.cut (p1.cut (p2.cut (p3.cut (p4.cut (.fin (hl.trans (by kernel_rfl))))))))⟩
theorem Zmt {H : Type} (enc : TypeId × Value → H) (w : World) : Opens enc Tryz.prog w 51 Rf ZaY := by
 intro fuel cs x h hz
 obtain ⟨hl,n,hf⟩ := JQ Tryz.underlying51 h hz
 obtain ⟨a0,w0,p0⟩ := Z3 hf 0 rfl (off := 0) (sz := 1) (ft := 4) ⟨rfl,by kernel_rfl,rfl⟩ (WV Tryz.underlying4)
 obtain ⟨a1,w1,p1⟩ := Z3 hf 1 rfl (off := 1) (sz := 1) (ft := 3) ⟨rfl,by kernel_rfl,rfl⟩ (X6 Tryz.underlying3)
 obtain ⟨a2,w2,p2⟩ := Z3 hf 2 rfl (off := 2) (sz := 1) (ft := 48) ⟨rfl,by kernel_rfl,rfl⟩ (Q7 (wd := 3) (by' := 24) Tryz.underlying48 (by kernel_rfl) (by kernel_rfl) (by decide) (Zk3 enc w))
 obtain ⟨a3,w3,p3⟩ := Z3 hf 3 rfl (off := 3) (sz := 1) (ft := 49) ⟨rfl,by kernel_rfl,rfl⟩ (Q7 (wd := 5) (by' := 48) Tryz.underlying49 (by kernel_rfl) (by kernel_rfl) (by decide) (Ze5 enc w))
 exact ⟨⟨a0,a1,a2,a3⟩,⟨w0,w1,w2,w3⟩,(p0.cut (p1.cut (p2.cut (p3.cut (.fin (hl.trans (by kernel_rfl)))))))⟩
theorem Zmu {H : Type} (enc : TypeId × Value → H) (w : World) : Opens enc Tryz.prog w 53 Zek KE := by
 intro fuel cs x h hz
 obtain ⟨hl,n,hf⟩ := JQ Tryz.underlying53 h hz
 obtain ⟨a0,w0,p0⟩ := Z3 hf 0 rfl (off := 0) (sz := 1) (ft := 4) ⟨rfl,by kernel_rfl,rfl⟩ (WV Tryz.underlying4)
 obtain ⟨a1,w1,p1⟩ := Z3 hf 1 rfl (off := 1) (sz := 1) (ft := 3) ⟨rfl,by kernel_rfl,rfl⟩ (X6 Tryz.underlying3)
 obtain ⟨a2,w2,p2⟩ := Z3 hf 2 rfl (off := 2) (sz := 1) (ft := 9) ⟨rfl,by kernel_rfl,rfl⟩ (Wz Tryz.underlying9)
 obtain ⟨a3,w3,p3⟩ := Z3 hf 3 rfl (off := 3) (sz := 1) (ft := 9) ⟨rfl,by kernel_rfl,rfl⟩ (Wz Tryz.underlying9)
 obtain ⟨a4,w4,p4⟩ := Z3 hf 4 rfl (off := 4) (sz := 1) (ft := 49) ⟨rfl,by kernel_rfl,rfl⟩ (Q7 (wd := 5) (by' := 48) Tryz.underlying49 (by kernel_rfl) (by kernel_rfl) (by decide) (Ze5 enc w))
 exact ⟨⟨a0,a1,a2,a3,a4⟩,⟨w0,w1,w2,w3,w4⟩,(p0.cut (p1.cut (p2.cut (p3.cut (p4.cut (.fin (hl.trans (by kernel_rfl))))))))⟩
theorem Zk4 {H : Type} (enc : TypeId × Value → H) (w : World) : Opens enc Tryz.prog w 183 Xu Zci := by
 intro fuel cs x h hz
 obtain ⟨hl,n,hf⟩ := JQ Tryz.underlying183 h hz
 obtain ⟨a0,w0,p0⟩ := Z3 hf 0 rfl (off := 0) (sz := 1) (ft := 62) ⟨rfl,by kernel_rfl,rfl⟩ (X6 Tryz.underlying62)
 obtain ⟨a1,w1,p1⟩ := Z3 hf 1 rfl (off := 1) (sz := 1) (ft := 3) ⟨rfl,by kernel_rfl,rfl⟩ (X6 Tryz.underlying3)
 obtain ⟨a2,w2,p2⟩ := Z3 hf 2 rfl (off := 2) (sz := 1) (ft := 9) ⟨rfl,by kernel_rfl,rfl⟩ (Wz Tryz.underlying9)
 obtain ⟨a3,w3,p3⟩ := Z3 hf 3 rfl (off := 3) (sz := 1) (ft := 9) ⟨rfl,by kernel_rfl,rfl⟩ (Wz Tryz.underlying9)
 exact ⟨⟨a0,a1,a2,a3⟩,⟨w0,w1,w2,w3⟩,(p0.cut (p1.cut (p2.cut (p3.cut (.fin (hl.trans (by kernel_rfl)))))))⟩
theorem Zk5 {H : Type} (enc : TypeId × Value → H) (w : World) : Opens enc Tryz.prog w 187 Xm Zey := by
 intro fuel cs x h hz
 obtain ⟨hl,n,hf⟩ := JQ Tryz.underlying187 h hz
 obtain ⟨a0,w0,p0⟩ := Z3 hf 0 rfl (off := 0) (sz := 2) (ft := 66) ⟨rfl,by kernel_rfl,rfl⟩ (RA enc w)
 obtain ⟨a1,w1,p1⟩ := Z3 hf 1 rfl (off := 2) (sz := 1) (ft := 4) ⟨rfl,by kernel_rfl,rfl⟩ (WV Tryz.underlying4)
 exact ⟨⟨a0,a1⟩,⟨w0,w1⟩,(p0.cut (p1.cut (.fin (hl.trans (by kernel_rfl)))))⟩
theorem Zk6 {H : Type} (enc : TypeId × Value → H) (w : World) : Opens enc Tryz.prog w 190 Xk Zez := by
 intro fuel cs x h hz
 obtain ⟨hl,n,hf⟩ := JQ Tryz.underlying190 h hz
 obtain ⟨a0,w0,p0⟩ := Z3 hf 0 rfl (off := 0) (sz := 2) (ft := 66) ⟨rfl,by kernel_rfl,rfl⟩ (RA enc w)
 obtain ⟨a1,w1,p1⟩ := Z3 hf 1 rfl (off := 2) (sz := 2) (ft := 66) ⟨rfl,by kernel_rfl,rfl⟩ (RA enc w)
 obtain ⟨a2,w2,p2⟩ := Z3 hf 2 rfl (off := 4) (sz := 1) (ft := 4) ⟨rfl,by kernel_rfl,rfl⟩ (WV Tryz.underlying4)
 exact ⟨⟨a0,a1,a2⟩,⟨w0,w1,w2⟩,(p0.cut (p1.cut (p2.cut (.fin (hl.trans (by kernel_rfl))))))⟩
theorem Zmv {H : Type} (enc : TypeId × Value → H) (w : World) : Opens enc Tryz.prog w 59 W4 Zad := by
 intro fuel cs x h hz
 obtain ⟨hl,n,hf⟩ := JQ Tryz.underlying59 h hz
 obtain ⟨a0,w0,p0⟩ := Z3 hf 0 rfl (off := 0) (sz := 1) (ft := 4) ⟨rfl,by kernel_rfl,rfl⟩ (WV Tryz.underlying4)
 obtain ⟨a1,w1,p1⟩ := Z3 hf 1 rfl (off := 1) (sz := 1) (ft := 3) ⟨rfl,by kernel_rfl,rfl⟩ (X6 Tryz.underlying3)
 obtain ⟨a2,w2,p2⟩ := Z3 hf 2 rfl (off := 2) (sz := 1) (ft := 3) ⟨rfl,by kernel_rfl,rfl⟩ (X6 Tryz.underlying3)
 obtain ⟨a3,w3,p3⟩ := Z3 hf 3 rfl (off := 3) (sz := 1) (ft := 54) ⟨rfl,by kernel_rfl,rfl⟩ (Q7 (wd := 4) (by' := 48) Tryz.underlying54 (by kernel_rfl) (by kernel_rfl) (by decide) (Zk4 enc w))
 obtain ⟨a4,w4,p4⟩ := Z3 hf 4 rfl (off := 4) (sz := 1) (ft := 55) ⟨rfl,by kernel_rfl,rfl⟩ (Q7 (wd := 2) (by' := 16) Tryz.underlying55 (by kernel_rfl) (by kernel_rfl) (by decide) (RA enc w))
 obtain ⟨a5,w5,p5⟩ := Z3 hf 5 rfl (off := 5) (sz := 1) (ft := 56) ⟨rfl,by kernel_rfl,rfl⟩ (Q7 (wd := 3) (by' := 24) Tryz.underlying56 (by kernel_rfl) (by kernel_rfl) (by decide) (Zk5 enc w))
 obtain ⟨a6,w6,p6⟩ := Z3 hf 6 rfl (off := 6) (sz := 1) (ft := 57) ⟨rfl,by kernel_rfl,rfl⟩ (Q7 (wd := 5) (by' := 40) Tryz.underlying57 (by kernel_rfl) (by kernel_rfl) (by decide) (Zk6 enc w))
 obtain ⟨a7,w7,p7⟩ := Z3 hf 7 rfl (off := 7) (sz := 1) (ft := 49) ⟨rfl,by kernel_rfl,rfl⟩ (Q7 (wd := 5) (by' := 48) Tryz.underlying49 (by kernel_rfl) (by kernel_rfl) (by decide) (Ze5 enc w))
 exact ⟨⟨a0,a1,a2,a3,a4,a5,a6,a7⟩,⟨w0,w1,w2,w3,w4,w5,w6,w7⟩,(p0.cut (p1.cut (p2.cut (p3.cut (p4.cut (p5.cut (p6.cut (p7.cut (.fin (hl.trans (by kernel_rfl)))))))))))⟩
theorem Zmw {H : Type} (enc : TypeId × Value → H) (w : World) : Opens enc Tryz.prog w 61 Zu ZcQ := by
 intro fuel cs x h hz
 obtain ⟨hl,n,hf⟩ := JQ Tryz.underlying61 h hz
 obtain ⟨a0,w0,p0⟩ := Z3 hf 0 rfl (off := 0) (sz := 1) (ft := 9) ⟨rfl,by kernel_rfl,rfl⟩ (Wz Tryz.underlying9)
 obtain ⟨a1,w1,p1⟩ := Z3 hf 1 rfl (off := 1) (sz := 1) (ft := 3) ⟨rfl,by kernel_rfl,rfl⟩ (X6 Tryz.underlying3)
 obtain ⟨a2,w2,p2⟩ := Z3 hf 2 rfl (off := 2) (sz := 1) (ft := 42) ⟨rfl,by kernel_rfl,rfl⟩ (Q7 (wd := 12) (by' := 112) Tryz.underlying42 (by kernel_rfl) (by kernel_rfl) (by decide) (Zms enc w))
 obtain ⟨a3,w3,p3⟩ := Z3 hf 3 rfl (off := 3) (sz := 1) (ft := 43) ⟨rfl,by kernel_rfl,rfl⟩ (Q7 (wd := 2) (by' := 40) Tryz.underlying43 (by kernel_rfl) (by kernel_rfl) (by decide) (ZkW enc w))
 obtain ⟨a4,w4,p4⟩ := Z3 hf 4 rfl (off := 4) (sz := 1) (ft := 44) ⟨rfl,by kernel_rfl,rfl⟩ (Q7 (wd := 2) (by' := 40) Tryz.underlying44 (by kernel_rfl) (by kernel_rfl) (by decide) (ZkY enc w))
 obtain ⟨a5,w5,p5⟩ := Z3 hf 5 rfl (off := 5) (sz := 1) (ft := 45) ⟨rfl,by kernel_rfl,rfl⟩ (Q7 (wd := 2) (by' := 40) Tryz.underlying45 (by kernel_rfl) (by kernel_rfl) (by decide) (Zk0 enc w))
 obtain ⟨a6,w6,p6⟩ := Z3 hf 6 rfl (off := 6) (sz := 1) (ft := 46) ⟨rfl,by kernel_rfl,rfl⟩ (Q7 (wd := 9) (by' := 64) Tryz.underlying46 (by kernel_rfl) (by kernel_rfl) (by decide) (Zk1 enc w))
 obtain ⟨a7,w7,p7⟩ := Z3 hf 7 rfl (off := 7) (sz := 1) (ft := 47) ⟨rfl,by kernel_rfl,rfl⟩ (Q7 (wd := 7) (by' := 64) Tryz.underlying47 (by kernel_rfl) (by kernel_rfl) (by decide) (Zk2 enc w))
 obtain ⟨a8,w8,p8⟩ := Z3 hf 8 rfl (off := 8) (sz := 4) (ft := 51) ⟨rfl,by kernel_rfl,rfl⟩ (Zmt enc w)
 obtain ⟨a9,w9,p9⟩ := Z3 hf 9 rfl (off := 12) (sz := 5) (ft := 53) ⟨rfl,by kernel_rfl,rfl⟩ (Zmu enc w)
 obtain ⟨a10,w10,p10⟩ := Z3 hf 10 rfl (off := 17) (sz := 8) (ft := 59) ⟨rfl,by kernel_rfl,rfl⟩ (Zmv enc w)
 exact ⟨⟨a0,a1,a2,a3,a4,a5,a6,a7,a8,a9,a10⟩,⟨w0,w1,w2,w3,w4,w5,w6,w7,w8,w9,w10⟩,(p0.cut (p1.cut (p2.cut (p3.cut (p4.cut (p5.cut (p6.cut (p7.cut (p8.cut (p9.cut (p10.cut (.fin (hl.trans (by kernel_rfl))))))))))))))⟩
theorem Zmx {H : Type} (enc : TypeId × Value → H) (w : World) : Opens enc Tryz.prog w 24 X3 Rz := by
 intro fuel cs x h hz
 obtain ⟨hl,n,hf⟩ := JQ Tryz.underlying24 h hz
 obtain ⟨a0,w0,p0⟩ := Z3 hf 0 rfl (off := 0) (sz := 1) (ft := 22) ⟨rfl,by kernel_rfl,rfl⟩ (Q7 (wd := 25) (by' := 448) Tryz.underlying22 (by kernel_rfl) (by kernel_rfl) (by decide) (Zmw enc w))
 exact ⟨⟨a0⟩,w0,(p0.cut (.fin (hl.trans (by kernel_rfl))))⟩
end Nv
