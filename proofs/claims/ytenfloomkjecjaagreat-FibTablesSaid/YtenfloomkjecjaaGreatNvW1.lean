/- What comes in is of the typed data. -/
import Derived.Test.YtenfloomkjecjaaGreatProg
import Derived.Test.YtenfloomkjecjaaGreatNvV1
import Derived.KernelRfl
set_option maxRecDepth 100000
namespace Nv
open Go Go.Proofs
theorem ZmK {H:Type} (enc:TypeId × Value→H) (w:World):Opens enc Tryz.prog w 83 Zl Zar:=by
 intro fuel cs x h hz
 obtain ⟨hl,n,hf⟩:=QA Tryz.underlying83 h hz
 obtain ⟨a0,w0,p0⟩:=Zy hf 0 rfl (off:=0) (sz:=1) (ft:=9) ⟨rfl,by kernel_rfl,rfl⟩ (V7 Tryz.underlying9)
 obtain ⟨a1,w1,p1⟩:=Zy hf 1 rfl (off:=1) (sz:=1) (ft:=43) ⟨rfl,by kernel_rfl,rfl⟩ (Xn Tryz.underlying43)
 obtain ⟨a2,w2,p2⟩:=Zy hf 2 rfl (off:=2) (sz:=1) (ft:=3) ⟨rfl,by kernel_rfl,rfl⟩ (Xn Tryz.underlying3)
 obtain ⟨a3,w3,p3⟩:=Zy hf 3 rfl (off:=3) (sz:=1) (ft:=3) ⟨rfl,by kernel_rfl,rfl⟩ (Xn Tryz.underlying3)
 obtain ⟨a4,w4,p4⟩:=Zy hf 4 rfl (off:=4) (sz:=1) (ft:=4) ⟨rfl,by kernel_rfl,rfl⟩ (V8 Tryz.underlying4)
 obtain ⟨a5,w5,p5⟩:=Zy hf 5 rfl (off:=5) (sz:=1) (ft:=4) ⟨rfl,by kernel_rfl,rfl⟩ (V8 Tryz.underlying4)
 obtain ⟨a6,w6,p6⟩:=Zy hf 6 rfl (off:=6) (sz:=1) (ft:=3) ⟨rfl,by kernel_rfl,rfl⟩ (Xn Tryz.underlying3)
 obtain ⟨a7,w7,p7⟩:=Zy hf 7 rfl (off:=7) (sz:=1) (ft:=3) ⟨rfl,by kernel_rfl,rfl⟩ (Xn Tryz.underlying3)
 obtain ⟨a8,w8,p8⟩:=Zy hf 8 rfl (off:=8) (sz:=1) (ft:=4) ⟨rfl,by kernel_rfl,rfl⟩ (V8 Tryz.underlying4)
 obtain ⟨a9,w9,p9⟩:=Zy hf 9 rfl (off:=9) (sz:=1) (ft:=9) ⟨rfl,by kernel_rfl,rfl⟩ (V7 Tryz.underlying9)
 obtain ⟨a10,w10,p10⟩:=Zy hf 10 rfl (off:=10) (sz:=1) (ft:=9) ⟨rfl,by kernel_rfl,rfl⟩ (V7 Tryz.underlying9)
 obtain ⟨a11,w11,p11⟩:=Zy hf 11 rfl (off:=11) (sz:=1) (ft:=3) ⟨rfl,by kernel_rfl,rfl⟩ (Xn Tryz.underlying3)
 exact ⟨⟨a0,a1,a2,a3,a4,a5,a6,a7,a8,a9,a10,a11⟩,⟨w0,w1,w2,w3,w4,w5,w6,w7,w8,w9,w10,w11⟩,(p0.cut (p1.cut (p2.cut (p3.cut (p4.cut (p5.cut (p6.cut (p7.cut (p8.cut (p9.cut (p10.cut (p11.cut (.fin (hl.trans (by kernel_rfl)))))))))))))))⟩
theorem KE {H:Type} (enc:TypeId × Value→H) (w:World):Opens enc Tryz.prog w 45 Xd Gp:=by
 intro fuel cs x h hz
 obtain ⟨hl,n,hf⟩:=QA Tryz.underlying45 h hz
 obtain ⟨a0,w0,p0⟩:=Zy hf 0 rfl (off:=0) (sz:=1) (ft:=43) ⟨rfl,by kernel_rfl,rfl⟩ (Xn Tryz.underlying43)
 obtain ⟨a1,w1,p1⟩:=Zy hf 1 rfl (off:=1) (sz:=1) (ft:=3) ⟨rfl,by kernel_rfl,rfl⟩ (Xn Tryz.underlying3)
 exact ⟨⟨a0,a1⟩,⟨w0,w1⟩,(p0.cut (p1.cut (.fin (hl.trans (by kernel_rfl)))))⟩
theorem Zlb {H:Type} (enc:TypeId × Value→H) (w:World):Opens enc Tryz.prog w 198 Ru ZcE:=by
 intro fuel cs x h hz
 obtain ⟨hl,n,hf⟩:=QA Tryz.underlying198 h hz
 obtain ⟨a0,w0,p0⟩:=Zy hf 0 rfl (off:=0) (sz:=1) (ft:=4) ⟨rfl,by kernel_rfl,rfl⟩ (V8 Tryz.underlying4)
 obtain ⟨a1,w1,p1⟩:=Zy hf 1 rfl (off:=1) (sz:=2) (ft:=45) ⟨rfl,by kernel_rfl,rfl⟩ (KE enc w)
 obtain ⟨a2,w2,p2⟩:=Zy hf 2 rfl (off:=3) (sz:=1) (ft:=3) ⟨rfl,by kernel_rfl,rfl⟩ (Xn Tryz.underlying3)
 obtain ⟨a3,w3,p3⟩:=Zy hf 3 rfl (off:=4) (sz:=1) (ft:=3) ⟨rfl,by kernel_rfl,rfl⟩ (Xn Tryz.underlying3)
 exact ⟨⟨a0,a1,a2,a3⟩,⟨w0,w1,w2,w3⟩,(p0.cut (p1.cut (p2.cut (p3.cut (.fin (hl.trans (by kernel_rfl)))))))⟩
theorem Zlc {H:Type} (enc:TypeId × Value→H) (w:World):Opens enc Tryz.prog w 141 Zx Ry:=by
 intro fuel cs x h hz
 obtain ⟨hl,n,hf⟩:=QA Tryz.underlying141 h hz
 obtain ⟨a0,w0,p0⟩:=Zy hf 0 rfl (off:=0) (sz:=1) (ft:=9) ⟨rfl,by kernel_rfl,rfl⟩ (V7 Tryz.underlying9)
 obtain ⟨a1,w1,p1⟩:=Zy hf 1 rfl (off:=1) (sz:=1) (ft:=139) ⟨rfl,by kernel_rfl,rfl⟩ (YP (wd:=5) (by':=40) Tryz.underlying139 (by kernel_rfl) (by kernel_rfl) (by decide) (Zlb enc w))
 exact ⟨⟨a0,a1⟩,⟨w0,w1⟩,(p0.cut (p1.cut (.fin (hl.trans (by kernel_rfl)))))⟩
theorem Zld {H:Type} (enc:TypeId × Value→H) (w:World):Opens enc Tryz.prog w 202 Zhw ZeN:=by
 intro fuel cs x h hz
 obtain ⟨hl,n,hf⟩:=QA Tryz.underlying202 h hz
 obtain ⟨a0,w0,p0⟩:=Zy hf 0 rfl (off:=0) (sz:=1) (ft:=4) ⟨rfl,by kernel_rfl,rfl⟩ (V8 Tryz.underlying4)
 obtain ⟨a1,w1,p1⟩:=Zy hf 1 rfl (off:=1) (sz:=1) (ft:=9) ⟨rfl,by kernel_rfl,rfl⟩ (V7 Tryz.underlying9)
 obtain ⟨a2,w2,p2⟩:=Zy hf 2 rfl (off:=2) (sz:=1) (ft:=3) ⟨rfl,by kernel_rfl,rfl⟩ (Xn Tryz.underlying3)
 obtain ⟨a3,w3,p3⟩:=Zy hf 3 rfl (off:=3) (sz:=1) (ft:=3) ⟨rfl,by kernel_rfl,rfl⟩ (Xn Tryz.underlying3)
 obtain ⟨a4,w4,p4⟩:=Zy hf 4 rfl (off:=4) (sz:=1) (ft:=3) ⟨rfl,by kernel_rfl,rfl⟩ (Xn Tryz.underlying3)
 obtain ⟨a5,w5,p5⟩:=Zy hf 5 rfl (off:=5) (sz:=1) (ft:=3) ⟨rfl,by kernel_rfl,rfl⟩ (Xn Tryz.underlying3)
 obtain ⟨a6,w6,p6⟩:=Zy hf 6 rfl (off:=6) (sz:=1) (ft:=3) ⟨rfl,by kernel_rfl,rfl⟩ (Xn Tryz.underlying3)
 exact ⟨⟨a0,a1,a2,a3,a4,a5,a6⟩,⟨w0,w1,w2,w3,w4,w5,w6⟩,(p0.cut (p1.cut (p2.cut (p3.cut (p4.cut (p5.cut (p6.cut (.fin (hl.trans (by kernel_rfl))))))))))⟩
theorem Zle {H:Type} (enc:TypeId × Value→H) (w:World):Opens enc Tryz.prog w 144 ZX ZbH:=by
 intro fuel cs x h hz
 obtain ⟨hl,n,hf⟩:=QA Tryz.underlying144 h hz
 obtain ⟨a0,w0,p0⟩:=Zy hf 0 rfl (off:=0) (sz:=1) (ft:=9) ⟨rfl,by kernel_rfl,rfl⟩ (V7 Tryz.underlying9)
 obtain ⟨a1,w1,p1⟩:=Zy hf 1 rfl (off:=1) (sz:=1) (ft:=142) ⟨rfl,by kernel_rfl,rfl⟩ (YP (wd:=7) (by':=64) Tryz.underlying142 (by kernel_rfl) (by kernel_rfl) (by decide) (Zld enc w))
 exact ⟨⟨a0,a1⟩,⟨w0,w1⟩,(p0.cut (p1.cut (.fin (hl.trans (by kernel_rfl)))))⟩
theorem Zhx {H:Type} (enc:TypeId × Value→H) (w:World):Opens enc Tryz.prog w 206 Zi9 ZbI:=by
 intro fuel cs x h hz
 obtain ⟨hl,n,hf⟩:=QA Tryz.underlying206 h hz
 obtain ⟨a0,w0,p0⟩:=Zy hf 0 rfl (off:=0) (sz:=1) (ft:=43) ⟨rfl,by kernel_rfl,rfl⟩ (Xn Tryz.underlying43)
 obtain ⟨a1,w1,p1⟩:=Zy hf 1 rfl (off:=1) (sz:=1) (ft:=43) ⟨rfl,by kernel_rfl,rfl⟩ (Xn Tryz.underlying43)
 exact ⟨⟨a0,a1⟩,⟨w0,w1⟩,(p0.cut (p1.cut (.fin (hl.trans (by kernel_rfl)))))⟩
theorem Zhy {H:Type} (enc:TypeId × Value→H) (w:World):Opens enc Tryz.prog w 208 Zaf Zas:=by
 intro fuel cs x h hz
 obtain ⟨hl,n,hf⟩:=QA Tryz.underlying208 h hz
 obtain ⟨a0,w0,p0⟩:=Zy hf 0 rfl (off:=0) (sz:=1) (ft:=3) ⟨rfl,by kernel_rfl,rfl⟩ (Xn Tryz.underlying3)
 obtain ⟨a1,w1,p1⟩:=Zy hf 1 rfl (off:=1) (sz:=1) (ft:=3) ⟨rfl,by kernel_rfl,rfl⟩ (Xn Tryz.underlying3)
 exact ⟨⟨a0,a1⟩,⟨w0,w1⟩,(p0.cut (p1.cut (.fin (hl.trans (by kernel_rfl)))))⟩
theorem Zlf {H:Type} (enc:TypeId × Value→H) (w:World):Opens enc Tryz.prog w 210 Zh1 ZkC:=by
 intro fuel cs x h hz
 obtain ⟨hl,n,hf⟩:=QA Tryz.underlying210 h hz
 obtain ⟨a0,w0,p0⟩:=Zy hf 0 rfl (off:=0) (sz:=1) (ft:=4) ⟨rfl,by kernel_rfl,rfl⟩ (V8 Tryz.underlying4)
 obtain ⟨a1,w1,p1⟩:=Zy hf 1 rfl (off:=1) (sz:=1) (ft:=3) ⟨rfl,by kernel_rfl,rfl⟩ (Xn Tryz.underlying3)
 obtain ⟨a2,w2,p2⟩:=Zy hf 2 rfl (off:=2) (sz:=2) (ft:=206) ⟨rfl,by kernel_rfl,rfl⟩ (Zhx enc w)
 obtain ⟨a3,w3,p3⟩:=Zy hf 3 rfl (off:=4) (sz:=2) (ft:=206) ⟨rfl,by kernel_rfl,rfl⟩ (Zhx enc w)
 obtain ⟨a4,w4,p4⟩:=Zy hf 4 rfl (off:=6) (sz:=2) (ft:=208) ⟨rfl,by kernel_rfl,rfl⟩ (Zhy enc w)
 obtain ⟨a5,w5,p5⟩:=Zy hf 5 rfl (off:=8) (sz:=2) (ft:=208) ⟨rfl,by kernel_rfl,rfl⟩ (Zhy enc w)
 exact ⟨⟨a0,a1,a2,a3,a4,a5⟩,⟨w0,w1,w2,w3,w4,w5⟩,(p0.cut (p1.cut (p2.cut (p3.cut (p4.cut (p5.cut (.fin (hl.trans (by kernel_rfl)))))))))⟩
theorem Zlg {H:Type} (enc:TypeId × Value→H) (w:World):Opens enc Tryz.prog w 147 YU ZjY:=by
 intro fuel cs x h hz
 obtain ⟨hl,n,hf⟩:=QA Tryz.underlying147 h hz
 obtain ⟨a0,w0,p0⟩:=Zy hf 0 rfl (off:=0) (sz:=1) (ft:=9) ⟨rfl,by kernel_rfl,rfl⟩ (V7 Tryz.underlying9)
 obtain ⟨a1,w1,p1⟩:=Zy hf 1 rfl (off:=1) (sz:=1) (ft:=145) ⟨rfl,by kernel_rfl,rfl⟩ (YP (wd:=10) (by':=64) Tryz.underlying145 (by kernel_rfl) (by kernel_rfl) (by decide) (Zlf enc w))
 exact ⟨⟨a0,a1⟩,⟨w0,w1⟩,(p0.cut (p1.cut (.fin (hl.trans (by kernel_rfl)))))⟩
theorem Zlh {H:Type} (enc:TypeId × Value→H) (w:World):Opens enc Tryz.prog w 213 Z2 K9:=by
 intro fuel cs x h hz
 obtain ⟨hl,n,hf⟩:=QA Tryz.underlying213 h hz
 obtain ⟨a0,w0,p0⟩:=Zy hf 0 rfl (off:=0) (sz:=1) (ft:=3) ⟨rfl,by kernel_rfl,rfl⟩ (Xn Tryz.underlying3)
 obtain ⟨a1,w1,p1⟩:=Zy hf 1 rfl (off:=1) (sz:=1) (ft:=43) ⟨rfl,by kernel_rfl,rfl⟩ (Xn Tryz.underlying43)
 obtain ⟨a2,w2,p2⟩:=Zy hf 2 rfl (off:=2) (sz:=1) (ft:=43) ⟨rfl,by kernel_rfl,rfl⟩ (Xn Tryz.underlying43)
 obtain ⟨a3,w3,p3⟩:=Zy hf 3 rfl (off:=3) (sz:=1) (ft:=3) ⟨rfl,by kernel_rfl,rfl⟩ (Xn Tryz.underlying3)
 obtain ⟨a4,w4,p4⟩:=Zy hf 4 rfl (off:=4) (sz:=1) (ft:=3) ⟨rfl,by kernel_rfl,rfl⟩ (Xn Tryz.underlying3)
 obtain ⟨a5,w5,p5⟩:=Zy hf 5 rfl (off:=5) (sz:=1) (ft:=3) ⟨rfl,by kernel_rfl,rfl⟩ (Xn Tryz.underlying3)
 obtain ⟨a6,w6,p6⟩:=Zy hf 6 rfl (off:=6) (sz:=1) (ft:=9) ⟨rfl,by kernel_rfl,rfl⟩ (V7 Tryz.underlying9)
 obtain ⟨a7,w7,p7⟩:=Zy hf 7 rfl (off:=7) (sz:=1) (ft:=43) ⟨rfl,by kernel_rfl,rfl⟩ (Xn Tryz.underlying43)
 obtain ⟨a8,w8,p8⟩:=Zy hf 8 rfl (off:=8) (sz:=1) (ft:=43) ⟨rfl,by kernel_rfl,rfl⟩ (Xn Tryz.underlying43)
 exact ⟨⟨a0,a1,a2,a3,a4,a5,a6,a7,a8⟩,⟨w0,w1,w2,w3,w4,w5,w6,w7,w8⟩,(p0.cut (p1.cut (p2.cut (p3.cut (p4.cut (p5.cut (p6.cut (p7.cut (p8.cut (.fin (hl.trans (by kernel_rfl))))))))))))⟩
theorem ZmL {H:Type} (enc:TypeId × Value→H) (w:World):Opens enc Tryz.prog w 86 ZU Ra:=by
 intro fuel cs x h hz
 obtain ⟨hl,n,hf⟩:=QA Tryz.underlying86 h hz
 obtain ⟨a0,w0,p0⟩:=Zy hf 0 rfl (off:=0) (sz:=2) (ft:=45) ⟨rfl,by kernel_rfl,rfl⟩ (KE enc w)
 obtain ⟨a1,w1,p1⟩:=Zy hf 1 rfl (off:=2) (sz:=1) (ft:=43) ⟨rfl,by kernel_rfl,rfl⟩ (Xn Tryz.underlying43)
 obtain ⟨a2,w2,p2⟩:=Zy hf 2 rfl (off:=3) (sz:=1) (ft:=9) ⟨rfl,by kernel_rfl,rfl⟩ (V7 Tryz.underlying9)
 obtain ⟨a3,w3,p3⟩:=Zy hf 3 rfl (off:=4) (sz:=1) (ft:=4) ⟨rfl,by kernel_rfl,rfl⟩ (V8 Tryz.underlying4)
 obtain ⟨a4,w4,p4⟩:=Zy hf 4 rfl (off:=5) (sz:=1) (ft:=3) ⟨rfl,by kernel_rfl,rfl⟩ (Xn Tryz.underlying3)
 obtain ⟨a5,w5,p5⟩:=Zy hf 5 rfl (off:=6) (sz:=1) (ft:=3) ⟨rfl,by kernel_rfl,rfl⟩ (Xn Tryz.underlying3)
 exact ⟨⟨a0,a1,a2,a3,a4,a5⟩,⟨w0,w1,w2,w3,w4,w5⟩,(p0.cut (p1.cut (p2.cut (p3.cut (p4.cut (p5.cut (.fin (hl.trans (by kernel_rfl)))))))))⟩
theorem Zli {H:Type} (enc:TypeId × Value→H) (w:World):Opens enc Tryz.prog w 217 XJ Zd9:=by
 intro fuel cs x h hz
 obtain ⟨hl,n,hf⟩:=QA Tryz.underlying217 h hz
 obtain ⟨a0,w0,p0⟩:=Zy hf 0 rfl (off:=0) (sz:=1) (ft:=3) ⟨rfl,by kernel_rfl,rfl⟩ (Xn Tryz.underlying3)
 obtain ⟨a1,w1,p1⟩:=Zy hf 1 rfl (off:=1) (sz:=2) (ft:=45) ⟨rfl,by kernel_rfl,rfl⟩ (KE enc w)
 exact ⟨⟨a0,a1⟩,⟨w0,w1⟩,(p0.cut (p1.cut (.fin (hl.trans (by kernel_rfl)))))⟩
theorem ZeP {H:Type} (enc:TypeId × Value→H) (w:World):Opens enc Tryz.prog w 220 ZB R6:=by
 intro fuel cs x h hz
 obtain ⟨hl,n,hf⟩:=QA Tryz.underlying220 h hz
 obtain ⟨a0,w0,p0⟩:=Zy hf 0 rfl (off:=0) (sz:=1) (ft:=3) ⟨rfl,by kernel_rfl,rfl⟩ (Xn Tryz.underlying3)
 obtain ⟨a1,w1,p1⟩:=Zy hf 1 rfl (off:=1) (sz:=1) (ft:=3) ⟨rfl,by kernel_rfl,rfl⟩ (Xn Tryz.underlying3)
 obtain ⟨a2,w2,p2⟩:=Zy hf 2 rfl (off:=2) (sz:=1) (ft:=3) ⟨rfl,by kernel_rfl,rfl⟩ (Xn Tryz.underlying3)
 obtain ⟨a3,w3,p3⟩:=Zy hf 3 rfl (off:=3) (sz:=1) (ft:=9) ⟨rfl,by kernel_rfl,rfl⟩ (V7 Tryz.underlying9)
 obtain ⟨a4,w4,p4⟩:=Zy hf 4 rfl (off:=4) (sz:=1) (ft:=3) ⟨rfl,by kernel_rfl,rfl⟩ (Xn Tryz.underlying3)
 exact ⟨⟨a0,a1,a2,a3,a4⟩,⟨w0,w1,w2,w3,w4⟩,(p0.cut (p1.cut (p2.cut (p3.cut (p4.cut (.fin (hl.trans (by kernel_rfl))))))))⟩
theorem ZmM {H:Type} (enc:TypeId × Value→H) (w:World):Opens enc Tryz.prog w 95 ZdO Zat:=by
 intro fuel cs x h hz
 obtain ⟨hl,n,hf⟩:=QA Tryz.underlying95 h hz
 obtain ⟨a0,w0,p0⟩:=Zy hf 0 rfl (off:=0) (sz:=1) (ft:=4) ⟨rfl,by kernel_rfl,rfl⟩ (V8 Tryz.underlying4)
 obtain ⟨a1,w1,p1⟩:=Zy hf 1 rfl (off:=1) (sz:=1) (ft:=3) ⟨rfl,by kernel_rfl,rfl⟩ (Xn Tryz.underlying3)
 obtain ⟨a2,w2,p2⟩:=Zy hf 2 rfl (off:=2) (sz:=1) (ft:=92) ⟨rfl,by kernel_rfl,rfl⟩ (YP (wd:=3) (by':=24) Tryz.underlying92 (by kernel_rfl) (by kernel_rfl) (by decide) (Zli enc w))
 obtain ⟨a3,w3,p3⟩:=Zy hf 3 rfl (off:=3) (sz:=1) (ft:=93) ⟨rfl,by kernel_rfl,rfl⟩ (YP (wd:=5) (by':=48) Tryz.underlying93 (by kernel_rfl) (by kernel_rfl) (by decide) (ZeP enc w))
 exact ⟨⟨a0,a1,a2,a3⟩,⟨w0,w1,w2,w3⟩,(p0.cut (p1.cut (p2.cut (p3.cut (.fin (hl.trans (by kernel_rfl)))))))⟩
theorem ZmN {H:Type} (enc:TypeId × Value→H) (w:World):Opens enc Tryz.prog w 97 ZdP Kc:=by
 intro fuel cs x h hz
 obtain ⟨hl,n,hf⟩:=QA Tryz.underlying97 h hz
 obtain ⟨a0,w0,p0⟩:=Zy hf 0 rfl (off:=0) (sz:=1) (ft:=4) ⟨rfl,by kernel_rfl,rfl⟩ (V8 Tryz.underlying4)
 obtain ⟨a1,w1,p1⟩:=Zy hf 1 rfl (off:=1) (sz:=1) (ft:=3) ⟨rfl,by kernel_rfl,rfl⟩ (Xn Tryz.underlying3)
 obtain ⟨a2,w2,p2⟩:=Zy hf 2 rfl (off:=2) (sz:=1) (ft:=9) ⟨rfl,by kernel_rfl,rfl⟩ (V7 Tryz.underlying9)
 obtain ⟨a3,w3,p3⟩:=Zy hf 3 rfl (off:=3) (sz:=1) (ft:=9) ⟨rfl,by kernel_rfl,rfl⟩ (V7 Tryz.underlying9)
 obtain ⟨a4,w4,p4⟩:=Zy hf 4 rfl (off:=4) (sz:=1) (ft:=93) ⟨rfl,by kernel_rfl,rfl⟩ (YP (wd:=5) (by':=48) Tryz.underlying93 (by kernel_rfl) (by kernel_rfl) (by decide) (ZeP enc w))
 exact ⟨⟨a0,a1,a2,a3,a4⟩,⟨w0,w1,w2,w3,w4⟩,(p0.cut (p1.cut (p2.cut (p3.cut (p4.cut (.fin (hl.trans (by kernel_rfl))))))))⟩
theorem Zlj {H:Type} (enc:TypeId × Value→H) (w:World):Opens enc Tryz.prog w 223 XU ZbJ:=by
 intro fuel cs x h hz
 obtain ⟨hl,n,hf⟩:=QA Tryz.underlying223 h hz
 obtain ⟨a0,w0,p0⟩:=Zy hf 0 rfl (off:=0) (sz:=1) (ft:=43) ⟨rfl,by kernel_rfl,rfl⟩ (Xn Tryz.underlying43)
 obtain ⟨a1,w1,p1⟩:=Zy hf 1 rfl (off:=1) (sz:=1) (ft:=3) ⟨rfl,by kernel_rfl,rfl⟩ (Xn Tryz.underlying3)
 obtain ⟨a2,w2,p2⟩:=Zy hf 2 rfl (off:=2) (sz:=1) (ft:=9) ⟨rfl,by kernel_rfl,rfl⟩ (V7 Tryz.underlying9)
 obtain ⟨a3,w3,p3⟩:=Zy hf 3 rfl (off:=3) (sz:=1) (ft:=9) ⟨rfl,by kernel_rfl,rfl⟩ (V7 Tryz.underlying9)
 exact ⟨⟨a0,a1,a2,a3⟩,⟨w0,w1,w2,w3⟩,(p0.cut (p1.cut (p2.cut (p3.cut (.fin (hl.trans (by kernel_rfl)))))))⟩
theorem Zlk {H:Type} (enc:TypeId × Value→H) (w:World):Opens enc Tryz.prog w 227 XK Zea:=by
 intro fuel cs x h hz
 obtain ⟨hl,n,hf⟩:=QA Tryz.underlying227 h hz
 obtain ⟨a0,w0,p0⟩:=Zy hf 0 rfl (off:=0) (sz:=2) (ft:=45) ⟨rfl,by kernel_rfl,rfl⟩ (KE enc w)
 obtain ⟨a1,w1,p1⟩:=Zy hf 1 rfl (off:=2) (sz:=1) (ft:=4) ⟨rfl,by kernel_rfl,rfl⟩ (V8 Tryz.underlying4)
 exact ⟨⟨a0,a1⟩,⟨w0,w1⟩,(p0.cut (p1.cut (.fin (hl.trans (by kernel_rfl)))))⟩
theorem Zll {H:Type} (enc:TypeId × Value→H) (w:World):Opens enc Tryz.prog w 230 XC Zeb:=by
 intro fuel cs x h hz
 obtain ⟨hl,n,hf⟩:=QA Tryz.underlying230 h hz
 obtain ⟨a0,w0,p0⟩:=Zy hf 0 rfl (off:=0) (sz:=2) (ft:=45) ⟨rfl,by kernel_rfl,rfl⟩ (KE enc w)
 obtain ⟨a1,w1,p1⟩:=Zy hf 1 rfl (off:=2) (sz:=2) (ft:=45) ⟨rfl,by kernel_rfl,rfl⟩ (KE enc w)
 obtain ⟨a2,w2,p2⟩:=Zy hf 2 rfl (off:=4) (sz:=1) (ft:=4) ⟨rfl,by kernel_rfl,rfl⟩ (V8 Tryz.underlying4)
 exact ⟨⟨a0,a1,a2⟩,⟨w0,w1,w2⟩,(p0.cut (p1.cut (p2.cut (.fin (hl.trans (by kernel_rfl))))))⟩
theorem Zlm {H:Type} (enc:TypeId × Value→H) (w:World):Opens enc Tryz.prog w 103 Kt Rz:=by
 intro fuel cs x h hz
 obtain ⟨hl,n,hf⟩:=QA Tryz.underlying103 h hz
 obtain ⟨a0,w0,p0⟩:=Zy hf 0 rfl (off:=0) (sz:=1) (ft:=4) ⟨rfl,by kernel_rfl,rfl⟩ (V8 Tryz.underlying4)
 obtain ⟨a1,w1,p1⟩:=Zy hf 1 rfl (off:=1) (sz:=1) (ft:=3) ⟨rfl,by kernel_rfl,rfl⟩ (Xn Tryz.underlying3)
 obtain ⟨a2,w2,p2⟩:=Zy hf 2 rfl (off:=2) (sz:=1) (ft:=3) ⟨rfl,by kernel_rfl,rfl⟩ (Xn Tryz.underlying3)
 obtain ⟨a3,w3,p3⟩:=Zy hf 3 rfl (off:=3) (sz:=1) (ft:=98) ⟨rfl,by kernel_rfl,rfl⟩ (YP (wd:=4) (by':=48) Tryz.underlying98 (by kernel_rfl) (by kernel_rfl) (by decide) (Zlj enc w))
 obtain ⟨a4,w4,p4⟩:=Zy hf 4 rfl (off:=4) (sz:=1) (ft:=99) ⟨rfl,by kernel_rfl,rfl⟩ (YP (wd:=2) (by':=16) Tryz.underlying99 (by kernel_rfl) (by kernel_rfl) (by decide) (KE enc w))
 obtain ⟨a5,w5,p5⟩:=Zy hf 5 rfl (off:=5) (sz:=1) (ft:=100) ⟨rfl,by kernel_rfl,rfl⟩ (YP (wd:=3) (by':=24) Tryz.underlying100 (by kernel_rfl) (by kernel_rfl) (by decide) (Zlk enc w))
 obtain ⟨a6,w6,p6⟩:=Zy hf 6 rfl (off:=6) (sz:=1) (ft:=101) ⟨rfl,by kernel_rfl,rfl⟩ (YP (wd:=5) (by':=40) Tryz.underlying101 (by kernel_rfl) (by kernel_rfl) (by decide) (Zll enc w))
 obtain ⟨a7,w7,p7⟩:=Zy hf 7 rfl (off:=7) (sz:=1) (ft:=93) ⟨rfl,by kernel_rfl,rfl⟩ (YP (wd:=5) (by':=48) Tryz.underlying93 (by kernel_rfl) (by kernel_rfl) (by decide) (ZeP enc w))
 exact ⟨⟨a0,a1,a2,a3,a4,a5,a6,a7⟩,⟨w0,w1,w2,w3,w4,w5,w6,w7⟩,(p0.cut (p1.cut (p2.cut (p3.cut (p4.cut (p5.cut (p6.cut (p7.cut (.fin (hl.trans (by kernel_rfl)))))))))))⟩
theorem Zln {H:Type} (enc:TypeId × Value→H) (w:World):Opens enc Tryz.prog w 105 Zs ZeO:=by
 intro fuel cs x h hz
 obtain ⟨hl,n,hf⟩:=QA Tryz.underlying105 h hz
 obtain ⟨a0,w0,p0⟩:=Zy hf 0 rfl (off:=0) (sz:=1) (ft:=9) ⟨rfl,by kernel_rfl,rfl⟩ (V7 Tryz.underlying9)
 obtain ⟨a1,w1,p1⟩:=Zy hf 1 rfl (off:=1) (sz:=1) (ft:=3) ⟨rfl,by kernel_rfl,rfl⟩ (Xn Tryz.underlying3)
 obtain ⟨a2,w2,p2⟩:=Zy hf 2 rfl (off:=2) (sz:=1) (ft:=84) ⟨rfl,by kernel_rfl,rfl⟩ (YP (wd:=12) (by':=112) Tryz.underlying84 (by kernel_rfl) (by kernel_rfl) (by decide) (ZmK enc w))
 obtain ⟨a3,w3,p3⟩:=Zy hf 3 rfl (off:=3) (sz:=1) (ft:=88) ⟨rfl,by kernel_rfl,rfl⟩ (YP (wd:=2) (by':=40) Tryz.underlying88 (by kernel_rfl) (by kernel_rfl) (by decide) (Zlc enc w))
 obtain ⟨a4,w4,p4⟩:=Zy hf 4 rfl (off:=4) (sz:=1) (ft:=89) ⟨rfl,by kernel_rfl,rfl⟩ (YP (wd:=2) (by':=40) Tryz.underlying89 (by kernel_rfl) (by kernel_rfl) (by decide) (Zle enc w))
 obtain ⟨a5,w5,p5⟩:=Zy hf 5 rfl (off:=5) (sz:=1) (ft:=90) ⟨rfl,by kernel_rfl,rfl⟩ (YP (wd:=2) (by':=40) Tryz.underlying90 (by kernel_rfl) (by kernel_rfl) (by decide) (Zlg enc w))
 obtain ⟨a6,w6,p6⟩:=Zy hf 6 rfl (off:=6) (sz:=1) (ft:=91) ⟨rfl,by kernel_rfl,rfl⟩ (YP (wd:=9) (by':=64) Tryz.underlying91 (by kernel_rfl) (by kernel_rfl) (by decide) (Zlh enc w))
 obtain ⟨a7,w7,p7⟩:=Zy hf 7 rfl (off:=7) (sz:=1) (ft:=87) ⟨rfl,by kernel_rfl,rfl⟩ (YP (wd:=7) (by':=64) Tryz.underlying87 (by kernel_rfl) (by kernel_rfl) (by decide) (ZmL enc w))
 obtain ⟨a8,w8,p8⟩:=Zy hf 8 rfl (off:=8) (sz:=4) (ft:=95) ⟨rfl,by kernel_rfl,rfl⟩ (ZmM enc w)
 obtain ⟨a9,w9,p9⟩:=Zy hf 9 rfl (off:=12) (sz:=5) (ft:=97) ⟨rfl,by kernel_rfl,rfl⟩ (ZmN enc w)
 obtain ⟨a10,w10,p10⟩:=Zy hf 10 rfl (off:=17) (sz:=8) (ft:=103) ⟨rfl,by kernel_rfl,rfl⟩ (Zlm enc w)
 exact ⟨⟨a0,a1,a2,a3,a4,a5,a6,a7,a8,a9,a10⟩,⟨w0,w1,w2,w3,w4,w5,w6,w7,w8,w9,w10⟩,(p0.cut (p1.cut (p2.cut (p3.cut (p4.cut (p5.cut (p6.cut (p7.cut (p8.cut (p9.cut (p10.cut (.fin (hl.trans (by kernel_rfl))))))))))))))⟩
theorem ZmO {H:Type} (enc:TypeId × Value→H) (w:World):Opens enc Tryz.prog w 24 Yb Zdb:=by
 intro fuel cs x h hz
 obtain ⟨hl,n,hf⟩:=QA Tryz.underlying24 h hz
 obtain ⟨a0,w0,p0⟩:=Zy hf 0 rfl (off:=0) (sz:=1) (ft:=22) ⟨rfl,by kernel_rfl,rfl⟩ (YP (wd:=25) (by':=448) Tryz.underlying22 (by kernel_rfl) (by kernel_rfl) (by decide) (Zln enc w))
 exact ⟨⟨a0⟩,w0,(p0.cut (.fin (hl.trans (by kernel_rfl))))⟩
theorem ZmP {H:Type} (enc:TypeId × Value→H) (w:World):Opens enc Tryz.prog w 49 ZN ZmJ:=by
 intro fuel cs x h hz
 obtain ⟨hl,n,hf⟩:=QA Tryz.underlying49 h hz
 obtain ⟨a0,w0,p0⟩:=Zy hf 0 rfl (off:=0) (sz:=1) (ft:=3) ⟨rfl,by kernel_rfl,rfl⟩ (Xn Tryz.underlying3)
 obtain ⟨a1,w1,p1⟩:=Zy hf 1 rfl (off:=1) (sz:=1) (ft:=43) ⟨rfl,by kernel_rfl,rfl⟩ (Xn Tryz.underlying43)
 exact ⟨⟨a0,a1⟩,⟨w0,w1⟩,(p0.cut (p1.cut (.fin (hl.trans (by kernel_rfl)))))⟩
theorem ZmQ {H:Type} (enc:TypeId × Value→H) (w:World):Opens enc Tryz.prog w 61 X1 ZgL:=by
 intro fuel cs x h hz
 obtain ⟨hl,n,hf⟩:=QA Tryz.underlying61 h hz
 obtain ⟨a0,w0,p0⟩:=Zy hf 0 rfl (off:=0) (sz:=2) (ft:=45) ⟨rfl,by kernel_rfl,rfl⟩ (KE enc w)
 obtain ⟨a1,w1,p1⟩:=Zy hf 1 rfl (off:=2) (sz:=1) (ft:=3) ⟨rfl,by kernel_rfl,rfl⟩ (Xn Tryz.underlying3)
 obtain ⟨a2,w2,p2⟩:=Zy hf 2 rfl (off:=3) (sz:=1) (ft:=3) ⟨rfl,by kernel_rfl,rfl⟩ (Xn Tryz.underlying3)
 obtain ⟨a3,w3,p3⟩:=Zy hf 3 rfl (off:=4) (sz:=1) (ft:=3) ⟨rfl,by kernel_rfl,rfl⟩ (Xn Tryz.underlying3)
 obtain ⟨a4,w4,p4⟩:=Zy hf 4 rfl (off:=5) (sz:=1) (ft:=3) ⟨rfl,by kernel_rfl,rfl⟩ (Xn Tryz.underlying3)
 obtain ⟨a5,w5,p5⟩:=Zy hf 5 rfl (off:=6) (sz:=1) (ft:=3) ⟨rfl,by kernel_rfl,rfl⟩ (Xn Tryz.underlying3)
 obtain ⟨a6,w6,p6⟩:=Zy hf 6 rfl (off:=7) (sz:=1) (ft:=3) ⟨rfl,by kernel_rfl,rfl⟩ (Xn Tryz.underlying3)
 obtain ⟨a7,w7,p7⟩:=Zy hf 7 rfl (off:=8) (sz:=1) (ft:=3) ⟨rfl,by kernel_rfl,rfl⟩ (Xn Tryz.underlying3)
 obtain ⟨a8,w8,p8⟩:=Zy hf 8 rfl (off:=9) (sz:=1) (ft:=25) ⟨rfl,by kernel_rfl,rfl⟩ (YP (wd:=1) (by':=8) Tryz.underlying25 (by kernel_rfl) (by kernel_rfl) (by decide) (Xn Tryz.underlying3))
 obtain ⟨a9,w9,p9⟩:=Zy hf 9 rfl (off:=10) (sz:=1) (ft:=43) ⟨rfl,by kernel_rfl,rfl⟩ (Xn Tryz.underlying43)
 obtain ⟨a10,w10,p10⟩:=Zy hf 10 rfl (off:=11) (sz:=1) (ft:=43) ⟨rfl,by kernel_rfl,rfl⟩ (Xn Tryz.underlying43)
 obtain ⟨a11,w11,p11⟩:=Zy hf 11 rfl (off:=12) (sz:=1) (ft:=39) ⟨rfl,by kernel_rfl,rfl⟩ (YP (wd:=2) (by':=16) Tryz.underlying39 (by kernel_rfl) (by kernel_rfl) (by decide) (ZmP enc w))
 obtain ⟨a12,w12,p12⟩:=Zy hf 12 rfl (off:=13) (sz:=1) (ft:=4) ⟨rfl,by kernel_rfl,rfl⟩ (V8 Tryz.underlying4)
 exact ⟨⟨a0,a1,a2,a3,a4,a5,a6,a7,a8,a9,a10,a11,a12⟩,⟨w0,w1,w2,w3,w4,w5,w6,w7,w8,w9,w10,w11,w12⟩,(p0.cut (p1.cut (p2.cut (p3.cut (p4.cut (p5.cut (p6.cut (p7.cut (p8.cut (p9.cut (p10.cut (p11.cut (p12.cut (.fin (hl.trans (by kernel_rfl))))))))))))))))⟩
end Nv
