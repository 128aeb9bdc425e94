/- What comes in is of the typed data. -/
import Derived.Test.YtaienbkgekjdnaaGreatProg
import Derived.Test.YtaienbkgekjdnaaGreatNvV1
import Derived.KernelRfl
set_option maxRecDepth 100000
namespace Nv
open Go Go.Proofs
theorem ZlG {H:Type} (enc:TypeId × Value→H) (w:World):Opens enc Tryz.prog w 64 Zm ZaG:=by
 intro fuel cs x h hz
 obtain ⟨hl,n,hf⟩:=JM Tryz.underlying64 h hz
 obtain ⟨a0,w0,p0⟩:=ZY hf 0 rfl (off:=0) (sz:=1) (ft:=9) ⟨rfl,by kernel_rfl,rfl⟩ (Wu Tryz.underlying9)
 obtain ⟨a1,w1,p1⟩:=ZY hf 1 rfl (off:=1) (sz:=1) (ft:=62) ⟨rfl,by kernel_rfl,rfl⟩ (X1 Tryz.underlying62)
 obtain ⟨a2,w2,p2⟩:=ZY hf 2 rfl (off:=2) (sz:=1) (ft:=3) ⟨rfl,by kernel_rfl,rfl⟩ (X1 Tryz.underlying3)
 obtain ⟨a3,w3,p3⟩:=ZY hf 3 rfl (off:=3) (sz:=1) (ft:=3) ⟨rfl,by kernel_rfl,rfl⟩ (X1 Tryz.underlying3)
 obtain ⟨a4,w4,p4⟩:=ZY hf 4 rfl (off:=4) (sz:=1) (ft:=4) ⟨rfl,by kernel_rfl,rfl⟩ (WN Tryz.underlying4)
 obtain ⟨a5,w5,p5⟩:=ZY hf 5 rfl (off:=5) (sz:=1) (ft:=4) ⟨rfl,by kernel_rfl,rfl⟩ (WN Tryz.underlying4)
 obtain ⟨a6,w6,p6⟩:=ZY hf 6 rfl (off:=6) (sz:=1) (ft:=3) ⟨rfl,by kernel_rfl,rfl⟩ (X1 Tryz.underlying3)
 obtain ⟨a7,w7,p7⟩:=ZY hf 7 rfl (off:=7) (sz:=1) (ft:=3) ⟨rfl,by kernel_rfl,rfl⟩ (X1 Tryz.underlying3)
 obtain ⟨a8,w8,p8⟩:=ZY hf 8 rfl (off:=8) (sz:=1) (ft:=4) ⟨rfl,by kernel_rfl,rfl⟩ (WN Tryz.underlying4)
 obtain ⟨a9,w9,p9⟩:=ZY hf 9 rfl (off:=9) (sz:=1) (ft:=9) ⟨rfl,by kernel_rfl,rfl⟩ (Wu Tryz.underlying9)
 obtain ⟨a10,w10,p10⟩:=ZY hf 10 rfl (off:=10) (sz:=1) (ft:=9) ⟨rfl,by kernel_rfl,rfl⟩ (Wu Tryz.underlying9)
 obtain ⟨a11,w11,p11⟩:=ZY hf 11 rfl (off:=11) (sz:=1) (ft:=3) ⟨rfl,by kernel_rfl,rfl⟩ (X1 Tryz.underlying3)
 exact ⟨⟨a0,a1,a2,a3,a4,a5,a6,a7,a8,a9,a10,a11⟩,⟨w0,w1,w2,w3,w4,w5,w6,w7,w8,w9,w10,w11⟩,(p0.cut (p1.cut (p2.cut (p3.cut (p4.cut (p5.cut (p6.cut (p7.cut (p8.cut (p9.cut (p10.cut (p11.cut (.fin (hl.trans (by kernel_rfl)))))))))))))))⟩
theorem Re {H:Type} (enc:TypeId × Value→H) (w:World):Opens enc Tryz.prog w 66 Z7 GY:=by
 intro fuel cs x h hz
 obtain ⟨hl,n,hf⟩:=JM Tryz.underlying66 h hz
 obtain ⟨a0,w0,p0⟩:=ZY hf 0 rfl (off:=0) (sz:=1) (ft:=62) ⟨rfl,by kernel_rfl,rfl⟩ (X1 Tryz.underlying62)
 obtain ⟨a1,w1,p1⟩:=ZY hf 1 rfl (off:=1) (sz:=1) (ft:=3) ⟨rfl,by kernel_rfl,rfl⟩ (X1 Tryz.underlying3)
 exact ⟨⟨a0,a1⟩,⟨w0,w1⟩,(p0.cut (p1.cut (.fin (hl.trans (by kernel_rfl)))))⟩
theorem Zkb {H:Type} (enc:TypeId × Value→H) (w:World):Opens enc Tryz.prog w 160 Vh ZcT:=by
 intro fuel cs x h hz
 obtain ⟨hl,n,hf⟩:=JM Tryz.underlying160 h hz
 obtain ⟨a0,w0,p0⟩:=ZY hf 0 rfl (off:=0) (sz:=1) (ft:=4) ⟨rfl,by kernel_rfl,rfl⟩ (WN Tryz.underlying4)
 obtain ⟨a1,w1,p1⟩:=ZY hf 1 rfl (off:=1) (sz:=2) (ft:=66) ⟨rfl,by kernel_rfl,rfl⟩ (Re enc w)
 obtain ⟨a2,w2,p2⟩:=ZY hf 2 rfl (off:=3) (sz:=1) (ft:=3) ⟨rfl,by kernel_rfl,rfl⟩ (X1 Tryz.underlying3)
 obtain ⟨a3,w3,p3⟩:=ZY hf 3 rfl (off:=4) (sz:=1) (ft:=3) ⟨rfl,by kernel_rfl,rfl⟩ (X1 Tryz.underlying3)
 exact ⟨⟨a0,a1,a2,a3⟩,⟨w0,w1,w2,w3⟩,(p0.cut (p1.cut (p2.cut (p3.cut (.fin (hl.trans (by kernel_rfl)))))))⟩
theorem Zkc {H:Type} (enc:TypeId × Value→H) (w:World):Opens enc Tryz.prog w 109 Zu RT:=by
 intro fuel cs x h hz
 obtain ⟨hl,n,hf⟩:=JM Tryz.underlying109 h hz
 obtain ⟨a0,w0,p0⟩:=ZY hf 0 rfl (off:=0) (sz:=1) (ft:=9) ⟨rfl,by kernel_rfl,rfl⟩ (Wu Tryz.underlying9)
 obtain ⟨a1,w1,p1⟩:=ZY hf 1 rfl (off:=1) (sz:=1) (ft:=107) ⟨rfl,by kernel_rfl,rfl⟩ (Q5 (wd:=5) (by':=40) Tryz.underlying107 (by kernel_rfl) (by kernel_rfl) (by decide) (Zkb enc w))
 exact ⟨⟨a0,a1⟩,⟨w0,w1⟩,(p0.cut (p1.cut (.fin (hl.trans (by kernel_rfl)))))⟩
theorem Zkd {H:Type} (enc:TypeId × Value→H) (w:World):Opens enc Tryz.prog w 164 Ug Zew:=by
 intro fuel cs x h hz
 obtain ⟨hl,n,hf⟩:=JM Tryz.underlying164 h hz
 obtain ⟨a0,w0,p0⟩:=ZY hf 0 rfl (off:=0) (sz:=1) (ft:=4) ⟨rfl,by kernel_rfl,rfl⟩ (WN Tryz.underlying4)
 obtain ⟨a1,w1,p1⟩:=ZY hf 1 rfl (off:=1) (sz:=1) (ft:=9) ⟨rfl,by kernel_rfl,rfl⟩ (Wu Tryz.underlying9)
 obtain ⟨a2,w2,p2⟩:=ZY hf 2 rfl (off:=2) (sz:=1) (ft:=3) ⟨rfl,by kernel_rfl,rfl⟩ (X1 Tryz.underlying3)
 obtain ⟨a3,w3,p3⟩:=ZY hf 3 rfl (off:=3) (sz:=1) (ft:=3) ⟨rfl,by kernel_rfl,rfl⟩ (X1 Tryz.underlying3)
 obtain ⟨a4,w4,p4⟩:=ZY hf 4 rfl (off:=4) (sz:=1) (ft:=3) ⟨rfl,by kernel_rfl,rfl⟩ (X1 Tryz.underlying3)
 obtain ⟨a5,w5,p5⟩:=ZY hf 5 rfl (off:=5) (sz:=1) (ft:=3) ⟨rfl,by kernel_rfl,rfl⟩ (X1 Tryz.underlying3)
 obtain ⟨a6,w6,p6⟩:=ZY hf 6 rfl (off:=6) (sz:=1) (ft:=3) ⟨rfl,by kernel_rfl,rfl⟩ (X1 Tryz.underlying3)
 exact ⟨⟨a0,a1,a2,a3,a4,a5,a6⟩,⟨w0,w1,w2,w3,w4,w5,w6⟩,(p0.cut (p1.cut (p2.cut (p3.cut (p4.cut (p5.cut (p6.cut (.fin (hl.trans (by kernel_rfl))))))))))⟩
theorem Zke {H:Type} (enc:TypeId × Value→H) (w:World):Opens enc Tryz.prog w 112 ZN ZbQ:=by
 intro fuel cs x h hz
 obtain ⟨hl,n,hf⟩:=JM Tryz.underlying112 h hz
 obtain ⟨a0,w0,p0⟩:=ZY hf 0 rfl (off:=0) (sz:=1) (ft:=9) ⟨rfl,by kernel_rfl,rfl⟩ (Wu Tryz.underlying9)
 obtain ⟨a1,w1,p1⟩:=ZY hf 1 rfl (off:=1) (sz:=1) (ft:=110) ⟨rfl,by kernel_rfl,rfl⟩ (Q5 (wd:=7) (by':=64) Tryz.underlying110 (by kernel_rfl) (by kernel_rfl) (by decide) (Zkd enc w))
 exact ⟨⟨a0,a1⟩,⟨w0,w1⟩,(p0.cut (p1.cut (.fin (hl.trans (by kernel_rfl)))))⟩
theorem ZgV {H:Type} (enc:TypeId × Value→H) (w:World):Opens enc Tryz.prog w 168 Zio ZbR:=by
 intro fuel cs x h hz
 obtain ⟨hl,n,hf⟩:=JM Tryz.underlying168 h hz
 obtain ⟨a0,w0,p0⟩:=ZY hf 0 rfl (off:=0) (sz:=1) (ft:=62) ⟨rfl,by kernel_rfl,rfl⟩ (X1 Tryz.underlying62)
 obtain ⟨a1,w1,p1⟩:=ZY hf 1 rfl (off:=1) (sz:=1) (ft:=62) ⟨rfl,by kernel_rfl,rfl⟩ (X1 Tryz.underlying62)
 exact ⟨⟨a0,a1⟩,⟨w0,w1⟩,(p0.cut (p1.cut (.fin (hl.trans (by kernel_rfl)))))⟩
theorem ZgW {H:Type} (enc:TypeId × Value→H) (w:World):Opens enc Tryz.prog w 170 KO ZaH:=by
 intro fuel cs x h hz
 obtain ⟨hl,n,hf⟩:=JM Tryz.underlying170 h hz
 obtain ⟨a0,w0,p0⟩:=ZY hf 0 rfl (off:=0) (sz:=1) (ft:=3) ⟨rfl,by kernel_rfl,rfl⟩ (X1 Tryz.underlying3)
 obtain ⟨a1,w1,p1⟩:=ZY hf 1 rfl (off:=1) (sz:=1) (ft:=3) ⟨rfl,by kernel_rfl,rfl⟩ (X1 Tryz.underlying3)
 exact ⟨⟨a0,a1⟩,⟨w0,w1⟩,(p0.cut (p1.cut (.fin (hl.trans (by kernel_rfl)))))⟩
theorem Zkf {H:Type} (enc:TypeId × Value→H) (w:World):Opens enc Tryz.prog w 172 Gs ZjE:=by
 intro fuel cs x h hz
 obtain ⟨hl,n,hf⟩:=JM Tryz.underlying172 h hz
 obtain ⟨a0,w0,p0⟩:=ZY hf 0 rfl (off:=0) (sz:=1) (ft:=4) ⟨rfl,by kernel_rfl,rfl⟩ (WN Tryz.underlying4)
 obtain ⟨a1,w1,p1⟩:=ZY hf 1 rfl (off:=1) (sz:=1) (ft:=3) ⟨rfl,by kernel_rfl,rfl⟩ (X1 Tryz.underlying3)
 obtain ⟨a2,w2,p2⟩:=ZY hf 2 rfl (off:=2) (sz:=2) (ft:=168) ⟨rfl,by kernel_rfl,rfl⟩ (ZgV enc w)
 obtain ⟨a3,w3,p3⟩:=ZY hf 3 rfl (off:=4) (sz:=2) (ft:=168) ⟨rfl,by kernel_rfl,rfl⟩ (ZgV enc w)
 obtain ⟨a4,w4,p4⟩:=ZY hf 4 rfl (off:=6) (sz:=2) (ft:=170) ⟨rfl,by kernel_rfl,rfl⟩ (ZgW enc w)
 obtain ⟨a5,w5,p5⟩:=ZY hf 5 rfl (off:=8) (sz:=2) (ft:=170) ⟨rfl,by kernel_rfl,rfl⟩ (ZgW enc w)
 exact ⟨⟨a0,a1,a2,a3,a4,a5⟩,⟨w0,w1,w2,w3,w4,w5⟩,(p0.cut (p1.cut (p2.cut (p3.cut (p4.cut (p5.cut (.fin (hl.trans (by kernel_rfl)))))))))⟩
theorem Zkg {H:Type} (enc:TypeId × Value→H) (w:World):Opens enc Tryz.prog w 115 Yr Zja:=by
 intro fuel cs x h hz
 obtain ⟨hl,n,hf⟩:=JM Tryz.underlying115 h hz
 obtain ⟨a0,w0,p0⟩:=ZY hf 0 rfl (off:=0) (sz:=1) (ft:=9) ⟨rfl,by kernel_rfl,rfl⟩ (Wu Tryz.underlying9)
 obtain ⟨a1,w1,p1⟩:=ZY hf 1 rfl (off:=1) (sz:=1) (ft:=113) ⟨rfl,by kernel_rfl,rfl⟩ (Q5 (wd:=10) (by':=64) Tryz.underlying113 (by kernel_rfl) (by kernel_rfl) (by decide) (Zkf enc w))
 exact ⟨⟨a0,a1⟩,⟨w0,w1⟩,(p0.cut (p1.cut (.fin (hl.trans (by kernel_rfl)))))⟩
theorem Zkh {H:Type} (enc:TypeId × Value→H) (w:World):Opens enc Tryz.prog w 131 Z2 Rb:=by
 intro fuel cs x h hz
 obtain ⟨hl,n,hf⟩:=JM Tryz.underlying131 h hz
 obtain ⟨a0,w0,p0⟩:=ZY hf 0 rfl (off:=0) (sz:=1) (ft:=3) ⟨rfl,by kernel_rfl,rfl⟩ (X1 Tryz.underlying3)
 obtain ⟨a1,w1,p1⟩:=ZY hf 1 rfl (off:=1) (sz:=1) (ft:=62) ⟨rfl,by kernel_rfl,rfl⟩ (X1 Tryz.underlying62)
 obtain ⟨a2,w2,p2⟩:=ZY hf 2 rfl (off:=2) (sz:=1) (ft:=62) ⟨rfl,by kernel_rfl,rfl⟩ (X1 Tryz.underlying62)
 obtain ⟨a3,w3,p3⟩:=ZY hf 3 rfl (off:=3) (sz:=1) (ft:=3) ⟨rfl,by kernel_rfl,rfl⟩ (X1 Tryz.underlying3)
 obtain ⟨a4,w4,p4⟩:=ZY hf 4 rfl (off:=4) (sz:=1) (ft:=3) ⟨rfl,by kernel_rfl,rfl⟩ (X1 Tryz.underlying3)
 obtain ⟨a5,w5,p5⟩:=ZY hf 5 rfl (off:=5) (sz:=1) (ft:=3) ⟨rfl,by kernel_rfl,rfl⟩ (X1 Tryz.underlying3)
 obtain ⟨a6,w6,p6⟩:=ZY hf 6 rfl (off:=6) (sz:=1) (ft:=9) ⟨rfl,by kernel_rfl,rfl⟩ (Wu Tryz.underlying9)
 obtain ⟨a7,w7,p7⟩:=ZY hf 7 rfl (off:=7) (sz:=1) (ft:=62) ⟨rfl,by kernel_rfl,rfl⟩ (X1 Tryz.underlying62)
 obtain ⟨a8,w8,p8⟩:=ZY hf 8 rfl (off:=8) (sz:=1) (ft:=62) ⟨rfl,by kernel_rfl,rfl⟩ (X1 Tryz.underlying62)
 exact ⟨⟨a0,a1,a2,a3,a4,a5,a6,a7,a8⟩,⟨w0,w1,w2,w3,w4,w5,w6,w7,w8⟩,(p0.cut (p1.cut (p2.cut (p3.cut (p4.cut (p5.cut (p6.cut (p7.cut (p8.cut (.fin (hl.trans (by kernel_rfl))))))))))))⟩
theorem Zki {H:Type} (enc:TypeId × Value→H) (w:World):Opens enc Tryz.prog w 133 ZS Rc:=by
 intro fuel cs x h hz
 obtain ⟨hl,n,hf⟩:=JM Tryz.underlying133 h hz
 obtain ⟨a0,w0,p0⟩:=ZY hf 0 rfl (off:=0) (sz:=2) (ft:=66) ⟨rfl,by kernel_rfl,rfl⟩ (Re enc w)
 obtain ⟨a1,w1,p1⟩:=ZY hf 1 rfl (off:=2) (sz:=1) (ft:=62) ⟨rfl,by kernel_rfl,rfl⟩ (X1 Tryz.underlying62)
 obtain ⟨a2,w2,p2⟩:=ZY hf 2 rfl (off:=3) (sz:=1) (ft:=9) ⟨rfl,by kernel_rfl,rfl⟩ (Wu Tryz.underlying9)
 obtain ⟨a3,w3,p3⟩:=ZY hf 3 rfl (off:=4) (sz:=1) (ft:=4) ⟨rfl,by kernel_rfl,rfl⟩ (WN Tryz.underlying4)
 obtain ⟨a4,w4,p4⟩:=ZY hf 4 rfl (off:=5) (sz:=1) (ft:=3) ⟨rfl,by kernel_rfl,rfl⟩ (X1 Tryz.underlying3)
 obtain ⟨a5,w5,p5⟩:=ZY hf 5 rfl (off:=6) (sz:=1) (ft:=3) ⟨rfl,by kernel_rfl,rfl⟩ (X1 Tryz.underlying3)
 exact ⟨⟨a0,a1,a2,a3,a4,a5⟩,⟨w0,w1,w2,w3,w4,w5⟩,(p0.cut (p1.cut (p2.cut (p3.cut (p4.cut (p5.cut (.fin (hl.trans (by kernel_rfl)))))))))⟩
theorem Zkj {H:Type} (enc:TypeId × Value→H) (w:World):Opens enc Tryz.prog w 177 Xg ZdX:=by
 intro fuel cs x h hz
 obtain ⟨hl,n,hf⟩:=JM Tryz.underlying177 h hz
 obtain ⟨a0,w0,p0⟩:=ZY hf 0 rfl (off:=0) (sz:=1) (ft:=3) ⟨rfl,by kernel_rfl,rfl⟩ (X1 Tryz.underlying3)
 obtain ⟨a1,w1,p1⟩:=ZY hf 1 rfl (off:=1) (sz:=2) (ft:=66) ⟨rfl,by kernel_rfl,rfl⟩ (Re enc w)
 exact ⟨⟨a0,a1⟩,⟨w0,w1⟩,(p0.cut (p1.cut (.fin (hl.trans (by kernel_rfl)))))⟩
theorem Zex {H:Type} (enc:TypeId × Value→H) (w:World):Opens enc Tryz.prog w 180 Zv Zaj:=by
 intro fuel cs x h hz
 obtain ⟨hl,n,hf⟩:=JM Tryz.underlying180 h hz
 obtain ⟨a0,w0,p0⟩:=ZY hf 0 rfl (off:=0) (sz:=1) (ft:=3) ⟨rfl,by kernel_rfl,rfl⟩ (X1 Tryz.underlying3)
 obtain ⟨a1,w1,p1⟩:=ZY hf 1 rfl (off:=1) (sz:=1) (ft:=3) ⟨rfl,by kernel_rfl,rfl⟩ (X1 Tryz.underlying3)
 obtain ⟨a2,w2,p2⟩:=ZY hf 2 rfl (off:=2) (sz:=1) (ft:=3) ⟨rfl,by kernel_rfl,rfl⟩ (X1 Tryz.underlying3)
 obtain ⟨a3,w3,p3⟩:=ZY hf 3 rfl (off:=3) (sz:=1) (ft:=9) ⟨rfl,by kernel_rfl,rfl⟩ (Wu Tryz.underlying9)
 obtain ⟨a4,w4,p4⟩:=ZY hf 4 rfl (off:=4) (sz:=1) (ft:=3) ⟨rfl,by kernel_rfl,rfl⟩ (X1 Tryz.underlying3)
 exact ⟨⟨a0,a1,a2,a3,a4⟩,⟨w0,w1,w2,w3,w4⟩,(p0.cut (p1.cut (p2.cut (p3.cut (p4.cut (.fin (hl.trans (by kernel_rfl))))))))⟩
theorem ZlH {H:Type} (enc:TypeId × Value→H) (w:World):Opens enc Tryz.prog w 51 KQ ZaI:=by
 intro fuel cs x h hz
 obtain ⟨hl,n,hf⟩:=JM Tryz.underlying51 h hz
 obtain ⟨a0,w0,p0⟩:=ZY hf 0 rfl (off:=0) (sz:=1) (ft:=4) ⟨rfl,by kernel_rfl,rfl⟩ (WN Tryz.underlying4)
 obtain ⟨a1,w1,p1⟩:=ZY hf 1 rfl (off:=1) (sz:=1) (ft:=3) ⟨rfl,by kernel_rfl,rfl⟩ (X1 Tryz.underlying3)
 obtain ⟨a2,w2,p2⟩:=ZY hf 2 rfl (off:=2) (sz:=1) (ft:=48) ⟨rfl,by kernel_rfl,rfl⟩ (Q5 (wd:=3) (by':=24) Tryz.underlying48 (by kernel_rfl) (by kernel_rfl) (by decide) (Zkj enc w))
 obtain ⟨a3,w3,p3⟩:=ZY hf 3 rfl (off:=3) (sz:=1) (ft:=49) ⟨rfl,by kernel_rfl,rfl⟩ (Q5 (wd:=5) (by':=48) Tryz.underlying49 (by kernel_rfl) (by kernel_rfl) (by decide) (Zex enc w))
 exact ⟨⟨a0,a1,a2,a3⟩,⟨w0,w1,w2,w3⟩,(p0.cut (p1.cut (p2.cut (p3.cut (.fin (hl.trans (by kernel_rfl)))))))⟩
theorem ZlI {H:Type} (enc:TypeId × Value→H) (w:World):Opens enc Tryz.prog w 53 ZdM Ki:=by
 intro fuel cs x h hz
 obtain ⟨hl,n,hf⟩:=JM Tryz.underlying53 h hz
 obtain ⟨a0,w0,p0⟩:=ZY hf 0 rfl (off:=0) (sz:=1) (ft:=4) ⟨rfl,by kernel_rfl,rfl⟩ (WN Tryz.underlying4)
 obtain ⟨a1,w1,p1⟩:=ZY hf 1 rfl (off:=1) (sz:=1) (ft:=3) ⟨rfl,by kernel_rfl,rfl⟩ (X1 Tryz.underlying3)
 obtain ⟨a2,w2,p2⟩:=ZY hf 2 rfl (off:=2) (sz:=1) (ft:=9) ⟨rfl,by kernel_rfl,rfl⟩ (Wu Tryz.underlying9)
 obtain ⟨a3,w3,p3⟩:=ZY hf 3 rfl (off:=3) (sz:=1) (ft:=9) ⟨rfl,by kernel_rfl,rfl⟩ (Wu Tryz.underlying9)
 obtain ⟨a4,w4,p4⟩:=ZY hf 4 rfl (off:=4) (sz:=1) (ft:=49) ⟨rfl,by kernel_rfl,rfl⟩ (Q5 (wd:=5) (by':=48) Tryz.underlying49 (by kernel_rfl) (by kernel_rfl) (by decide) (Zex enc w))
 exact ⟨⟨a0,a1,a2,a3,a4⟩,⟨w0,w1,w2,w3,w4⟩,(p0.cut (p1.cut (p2.cut (p3.cut (p4.cut (.fin (hl.trans (by kernel_rfl))))))))⟩
theorem Zkk {H:Type} (enc:TypeId × Value→H) (w:World):Opens enc Tryz.prog w 183 Xq ZbS:=by
 intro fuel cs x h hz
 obtain ⟨hl,n,hf⟩:=JM Tryz.underlying183 h hz
 obtain ⟨a0,w0,p0⟩:=ZY hf 0 rfl (off:=0) (sz:=1) (ft:=62) ⟨rfl,by kernel_rfl,rfl⟩ (X1 Tryz.underlying62)
 obtain ⟨a1,w1,p1⟩:=ZY hf 1 rfl (off:=1) (sz:=1) (ft:=3) ⟨rfl,by kernel_rfl,rfl⟩ (X1 Tryz.underlying3)
 obtain ⟨a2,w2,p2⟩:=ZY hf 2 rfl (off:=2) (sz:=1) (ft:=9) ⟨rfl,by kernel_rfl,rfl⟩ (Wu Tryz.underlying9)
 obtain ⟨a3,w3,p3⟩:=ZY hf 3 rfl (off:=3) (sz:=1) (ft:=9) ⟨rfl,by kernel_rfl,rfl⟩ (Wu Tryz.underlying9)
 exact ⟨⟨a0,a1,a2,a3⟩,⟨w0,w1,w2,w3⟩,(p0.cut (p1.cut (p2.cut (p3.cut (.fin (hl.trans (by kernel_rfl)))))))⟩
theorem Zkl {H:Type} (enc:TypeId × Value→H) (w:World):Opens enc Tryz.prog w 187 Xh ZdY:=by
 intro fuel cs x h hz
 obtain ⟨hl,n,hf⟩:=JM Tryz.underlying187 h hz
 obtain ⟨a0,w0,p0⟩:=ZY hf 0 rfl (off:=0) (sz:=2) (ft:=66) ⟨rfl,by kernel_rfl,rfl⟩ (Re enc w)
 obtain ⟨a1,w1,p1⟩:=ZY hf 1 rfl (off:=2) (sz:=1) (ft:=4) ⟨rfl,by kernel_rfl,rfl⟩ (WN Tryz.underlying4)
 exact ⟨⟨a0,a1⟩,⟨w0,w1⟩,(p0.cut (p1.cut (.fin (hl.trans (by kernel_rfl)))))⟩
theorem Zkm {H:Type} (enc:TypeId × Value→H) (w:World):Opens enc Tryz.prog w 190 Xe ZdZ:=by
 intro fuel cs x h hz
 obtain ⟨hl,n,hf⟩:=JM Tryz.underlying190 h hz
 obtain ⟨a0,w0,p0⟩:=ZY hf 0 rfl (off:=0) (sz:=2) (ft:=66) ⟨rfl,by kernel_rfl,rfl⟩ (Re enc w)
 obtain ⟨a1,w1,p1⟩:=ZY hf 1 rfl (off:=2) (sz:=2) (ft:=66) ⟨rfl,by kernel_rfl,rfl⟩ (Re enc w)
 obtain ⟨a2,w2,p2⟩:=ZY hf 2 rfl (off:=4) (sz:=1) (ft:=4) ⟨rfl,by kernel_rfl,rfl⟩ (WN Tryz.underlying4)
 exact ⟨⟨a0,a1,a2⟩,⟨w0,w1,w2⟩,(p0.cut (p1.cut (p2.cut (.fin (hl.trans (by kernel_rfl))))))⟩
theorem ZlJ {H:Type} (enc:TypeId × Value→H) (w:World):Opens enc Tryz.prog w 59 U4 RU:=by
 intro fuel cs x h hz
 obtain ⟨hl,n,hf⟩:=JM Tryz.underlying59 h hz
 obtain ⟨a0,w0,p0⟩:=ZY hf 0 rfl (off:=0) (sz:=1) (ft:=4) ⟨rfl,by kernel_rfl,rfl⟩ (WN Tryz.underlying4)
 obtain ⟨a1,w1,p1⟩:=ZY hf 1 rfl (off:=1) (sz:=1) (ft:=3) ⟨rfl,by kernel_rfl,rfl⟩ (X1 Tryz.underlying3)
 obtain ⟨a2,w2,p2⟩:=ZY hf 2 rfl (off:=2) (sz:=1) (ft:=3) ⟨rfl,by kernel_rfl,rfl⟩ (X1 Tryz.underlying3)
 obtain ⟨a3,w3,p3⟩:=ZY hf 3 rfl (off:=3) (sz:=1) (ft:=54) ⟨rfl,by kernel_rfl,rfl⟩ (Q5 (wd:=4) (by':=48) Tryz.underlying54 (by kernel_rfl) (by kernel_rfl) (by decide) (Zkk enc w))
 obtain ⟨a4,w4,p4⟩:=ZY hf 4 rfl (off:=4) (sz:=1) (ft:=55) ⟨rfl,by kernel_rfl,rfl⟩ (Q5 (wd:=2) (by':=16) Tryz.underlying55 (by kernel_rfl) (by kernel_rfl) (by decide) (Re enc w))
 obtain ⟨a5,w5,p5⟩:=ZY hf 5 rfl (off:=5) (sz:=1) (ft:=56) ⟨rfl,by kernel_rfl,rfl⟩ (Q5 (wd:=3) (by':=24) Tryz.underlying56 (by kernel_rfl) (by kernel_rfl) (by decide) (Zkl enc w))
 obtain ⟨a6,w6,p6⟩:=ZY hf 6 rfl (off:=6) (sz:=1) (ft:=57) ⟨rfl,by kernel_rfl,rfl⟩ (Q5 (wd:=5) (by':=40) Tryz.underlying57 (by kernel_rfl) (by kernel_rfl) (by decide) (Zkm enc w))
 obtain ⟨a7,w7,p7⟩:=ZY hf 7 rfl (off:=7) (sz:=1) (ft:=49) ⟨rfl,by kernel_rfl,rfl⟩ (Q5 (wd:=5) (by':=48) Tryz.underlying49 (by kernel_rfl) (by kernel_rfl) (by decide) (Zex enc w))
 exact ⟨⟨a0,a1,a2,a3,a4,a5,a6,a7⟩,⟨w0,w1,w2,w3,w4,w5,w6,w7⟩,(p0.cut (p1.cut (p2.cut (p3.cut (p4.cut (p5.cut (p6.cut (p7.cut (.fin (hl.trans (by kernel_rfl)))))))))))⟩
theorem ZlK {H:Type} (enc:TypeId × Value→H) (w:World):Opens enc Tryz.prog w 61 ZB Zcm:=by
 intro fuel cs x h hz
 obtain ⟨hl,n,hf⟩:=JM Tryz.underlying61 h hz
 obtain ⟨a0,w0,p0⟩:=ZY hf 0 rfl (off:=0) (sz:=1) (ft:=9) ⟨rfl,by kernel_rfl,rfl⟩ (Wu Tryz.underlying9)
 obtain ⟨a1,w1,p1⟩:=ZY hf 1 rfl (off:=1) (sz:=1) (ft:=3) ⟨rfl,by kernel_rfl,rfl⟩ (X1 Tryz.underlying3)
 obtain ⟨a2,w2,p2⟩:=ZY hf 2 rfl (off:=2) (sz:=1) (ft:=42) ⟨rfl,by kernel_rfl,rfl⟩ (Q5 (wd:=12) (by':=112) Tryz.underlying42 (by kernel_rfl) (by kernel_rfl) (by decide) (ZlG enc w))
 obtain ⟨a3,w3,p3⟩:=ZY hf 3 rfl (off:=3) (sz:=1) (ft:=43) ⟨rfl,by kernel_rfl,rfl⟩ (Q5 (wd:=2) (by':=40) Tryz.underlying43 (by kernel_rfl) (by kernel_rfl) (by decide) (Zkc enc w))
 obtain ⟨a4,w4,p4⟩:=ZY hf 4 rfl (off:=4) (sz:=1) (ft:=44) ⟨rfl,by kernel_rfl,rfl⟩ (Q5 (wd:=2) (by':=40) Tryz.underlying44 (by kernel_rfl) (by kernel_rfl) (by decide) (Zke enc w))
 obtain ⟨a5,w5,p5⟩:=ZY hf 5 rfl (off:=5) (sz:=1) (ft:=45) ⟨rfl,by kernel_rfl,rfl⟩ (Q5 (wd:=2) (by':=40) Tryz.underlying45 (by kernel_rfl) (by kernel_rfl) (by decide) (Zkg enc w))
 obtain ⟨a6,w6,p6⟩:=ZY hf 6 rfl (off:=6) (sz:=1) (ft:=46) ⟨rfl,by kernel_rfl,rfl⟩ (Q5 (wd:=9) (by':=64) Tryz.underlying46 (by kernel_rfl) (by kernel_rfl) (by decide) (Zkh enc w))
 obtain ⟨a7,w7,p7⟩:=ZY hf 7 rfl (off:=7) (sz:=1) (ft:=47) ⟨rfl,by kernel_rfl,rfl⟩ (Q5 (wd:=7) (by':=64) Tryz.underlying47 (by kernel_rfl) (by kernel_rfl) (by decide) (Zki enc w))
 obtain ⟨a8,w8,p8⟩:=ZY hf 8 rfl (off:=8) (sz:=4) (ft:=51) ⟨rfl,by kernel_rfl,rfl⟩ (ZlH enc w)
 obtain ⟨a9,w9,p9⟩:=ZY hf 9 rfl (off:=12) (sz:=5) (ft:=53) ⟨rfl,by kernel_rfl,rfl⟩ (ZlI enc w)
 obtain ⟨a10,w10,p10⟩:=ZY hf 10 rfl (off:=17) (sz:=8) (ft:=59) ⟨rfl,by kernel_rfl,rfl⟩ (ZlJ enc w)
 exact ⟨⟨a0,a1,a2,a3,a4,a5,a6,a7,a8,a9,a10⟩,⟨w0,w1,w2,w3,w4,w5,w6,w7,w8,w9,w10⟩,(p0.cut (p1.cut (p2.cut (p3.cut (p4.cut (p5.cut (p6.cut (p7.cut (p8.cut (p9.cut (p10.cut (.fin (hl.trans (by kernel_rfl))))))))))))))⟩
theorem ZlL {H:Type} (enc:TypeId × Value→H) (w:World):Opens enc Tryz.prog w 24 Yn Rd:=by
 intro fuel cs x h hz
 obtain ⟨hl,n,hf⟩:=JM Tryz.underlying24 h hz
 obtain ⟨a0,w0,p0⟩:=ZY hf 0 rfl (off:=0) (sz:=1) (ft:=22) ⟨rfl,by kernel_rfl,rfl⟩ (Q5 (wd:=25) (by':=448) Tryz.underlying22 (by kernel_rfl) (by kernel_rfl) (by decide) (ZlK enc w))
 exact ⟨⟨a0⟩,w0,(p0.cut (.fin (hl.trans (by kernel_rfl))))⟩
end Nv
