/- The walks: each function computes its mirror. -/
import Derived.Test.YtaienbkgekjdnaaGreatProg
import Derived.Test.YtaienbkgekjdnaaGreatNvD1
import Derived.Test.YtaienbkgekjdnaaGreatNvLibC
import Derived.Test.YtaienbkgekjdnaaGreatNvLibB
import Derived.KernelRfl
import Derived.Ground.SlsfProg
import Derived.Shelf.Lay
import Derived.Test.YtaienbkgekjdnaaGreatNvLibD
import Derived.Test.YtaienbkgekjdnaaGreatNvLibE
import Derived.Test.YtaienbkgekjdnaaGreatNvM1a
set_option maxRecDepth 100000
namespace Nv
open Go Go.Proofs
theorem WD (a0 : List J1) (r : List J1) (h : M.Xo a0 = some r) : Fn Tryz.prog 126 [sL 3 Xy a0] (.pure (sL 3 Xy r)) := by
 unfold M.Xo at h
 obtain ⟨hc, h1⟩ := Zy h
 obtain rfl := Option.some.inj h1
 refine ZS Tryz.func126 rfl (by kernel_rfl) (Za (zg [0] 0 (Zb (Za (Za (zg [0, 4] 0 (Zb (nq a0.length (fun hz => ?_) ?_))))))))
 exact Za (zg [2] 0 (Zb (Zh (Zk (er (.sl false 3 0 (fun _ => [])) (UE hz))))))
 exact Ze (Zb (Za (zc [2] 1 hc (Zb (Zh (er (.sl false 3 (0 + a0.length) (fun i => (app (fun i => List.take 3 (List.drop (i * 3) [])) 0 (fun i => Xy (a0.getD i default))) (0 + i))) (UR (Nat.zero_add _) (fun i hi => by rw [Nat.zero_add]; exact WG Xy _ a0 _ (fun _ _ => rfl) i hi))))))))
theorem WE (a0 : List J2) (r : List J2) (h : M.Xp a0 = some r) : Fn Tryz.prog 127 [sL 5 Xs a0] (.pure (sL 5 Xs r)) := by
 unfold M.Xp at h
 obtain ⟨hc, h1⟩ := Zy h
 obtain rfl := Option.some.inj h1
 refine ZS Tryz.func127 rfl (by kernel_rfl) (Za (zg [0] 0 (Zb (Za (Za (zg [0, 4] 0 (Zb (nq a0.length (fun hz => ?_) ?_))))))))
 exact Za (zg [2] 0 (Zb (Zh (Zk (er (.sl false 5 0 (fun _ => [])) (UE hz))))))
 exact Ze (Zb (Za (zc [2] 1 hc (Zb (Zh (er (.sl false 5 (0 + a0.length) (fun i => (app (fun i => List.take 5 (List.drop (i * 5) [])) 0 (fun i => Xs (a0.getD i default))) (0 + i))) (UR (Nat.zero_add _) (fun i hi => by rw [Nat.zero_add]; exact WG Xs _ a0 _ (fun _ _ => rfl) i hi))))))))
theorem ZaZ (a0 : Zf) (r : Zf) (h : M.JK a0 = some r) : Fn Tryz.prog 69 [.agg (Zp a0)] (.pure (.agg (Zp r))) := by
 let u1 : List (Nat × D) := [(1, .ref 0 0), (2, .ref 1 0)]
 unfold M.JK at h
 refine ZS Tryz.func69 rfl (by kernel_rfl) (Za (zg [1, 2] 2 (Zb (Za ?_))))
 obtain ⟨r1, q1, h2⟩ := bind_some h
 refine rg [oL 12 Zj r1] [1, 2] 3 ⟨136, u1, [.box [.str a0.Xl, .int .i64 a0.Ge, .asl 2 0 r1.length, sL 2 Zu a0.Yt, sL 2 ZY a0.XC, sL 2 Ys a0.YC, sL 9 Z3 a0.Xd, sL 7 Xc a0.Zq, .bool a0.Yf.Vq, .int .i64 a0.Yf.Xq, sL 3 Xx a0.Yf.Z6, sL 5 Zx a0.Yf.Zr, .bool a0.Ym.Vq, .int .i64 a0.Ym.Xq, .str a0.Ym.VG, .str a0.Ym.Y7, sL 5 Zx a0.Ym.Zr, .bool a0.Xr.Vq, .int .i64 a0.Xr.XU, .int .i64 a0.Xr.XV, sL 4 XI a0.Xr.Zm, sL 2 Xg a0.Xr.Z0, sL 3 Xy a0.Xr.ZC, sL 5 Xs a0.Xr.Zt, sL 5 Zx a0.Xr.Zr], .box [.str (⟨#[]⟩ : ByteArray), .int .i64 0, .sl true 12 0 (fun _ => []), .sl true 2 0 (fun _ => []), .sl true 2 0 (fun _ => []), .sl true 2 0 (fun _ => []), .sl true 9 0 (fun _ => []), .sl true 7 0 (fun _ => []), .bool false, .int .i64 0, .sl true 3 0 (fun _ => []), .sl true 5 0 (fun _ => []), .bool false, .int .i64 0, .str (⟨#[]⟩ : ByteArray), .str (⟨#[]⟩ : ByteArray), .sl true 5 0 (fun _ => []), .bool false, .int .i64 0, .int .i64 0, .sl true 4 0 (fun _ => []), .sl true 2 0 (fun _ => []), .sl true 3 0 (fun _ => []), .sl true 5 0 (fun _ => []), .sl true 5 0 (fun _ => [])], aL 12 Zj r1]⟩ [] [⟨true, 113, [sL 12 Zj a0.Zc], oL 12 Zj r1⟩] ZA ⟨fun _ => WA a0.Zc r1 q1, trivial⟩ (Zb (Za ?_))
 obtain ⟨r2, q3, h4⟩ := bind_some h2
 refine rg [oL 2 Zu r2] [1, 2] 4 ⟨136, u1, [.box [.str a0.Xl, .int .i64 a0.Ge, .asl 2 0 r1.length, .asl 3 0 r2.length, sL 2 ZY a0.XC, sL 2 Ys a0.YC, sL 9 Z3 a0.Xd, sL 7 Xc a0.Zq, .bool a0.Yf.Vq, .int .i64 a0.Yf.Xq, sL 3 Xx a0.Yf.Z6, sL 5 Zx a0.Yf.Zr, .bool a0.Ym.Vq, .int .i64 a0.Ym.Xq, .str a0.Ym.VG, .str a0.Ym.Y7, sL 5 Zx a0.Ym.Zr, .bool a0.Xr.Vq, .int .i64 a0.Xr.XU, .int .i64 a0.Xr.XV, sL 4 XI a0.Xr.Zm, sL 2 Xg a0.Xr.Z0, sL 3 Xy a0.Xr.ZC, sL 5 Xs a0.Xr.Zt, sL 5 Zx a0.Xr.Zr], .box [.str (⟨#[]⟩ : ByteArray), .int .i64 0, .sl true 12 0 (fun _ => []), .sl true 2 0 (fun _ => []), .sl true 2 0 (fun _ => []), .sl true 2 0 (fun _ => []), .sl true 9 0 (fun _ => []), .sl true 7 0 (fun _ => []), .bool false, .int .i64 0, .sl true 3 0 (fun _ => []), .sl true 5 0 (fun _ => []), .bool false, .int .i64 0, .str (⟨#[]⟩ : ByteArray), .str (⟨#[]⟩ : ByteArray), .sl true 5 0 (fun _ => []), .bool false, .int .i64 0, .int .i64 0, .sl true 4 0 (fun _ => []), .sl true 2 0 (fun _ => []), .sl true 3 0 (fun _ => []), .sl true 5 0 (fun _ => []), .sl true 5 0 (fun _ => [])], aL 12 Zj r1, aL 2 Zu r2]⟩ [] [⟨true, 114, [sL 2 Zu a0.Yt], oL 2 Zu r2⟩] ZA ⟨fun _ => Wi a0.Yt r2 q3, trivial⟩ (Zb (Za (Za (zg [1, 2, 16, 17] 4 (Zb (Zi ?_))))))
 obtain ⟨y5, q9, h10⟩ := bind_some h4
 refine zl (fun (p3 : Int) => ⟨136, [(1, .ref 0 0), (2, .ref 1 0), (16, .int .i64 (r2.length : Int)), (17, .int .i64 p3)], [.box [.str a0.Xl, .int .i64 a0.Ge, .asl 2 0 r1.length, .asl 3 0 r2.length, sL 2 ZY a0.XC, sL 2 Ys a0.YC, sL 9 Z3 a0.Xd, sL 7 Xc a0.Zq, .bool a0.Yf.Vq, .int .i64 a0.Yf.Xq, sL 3 Xx a0.Yf.Z6, sL 5 Zx a0.Yf.Zr, .bool a0.Ym.Vq, .int .i64 a0.Ym.Xq, .str a0.Ym.VG, .str a0.Ym.Y7, sL 5 Zx a0.Ym.Zr, .bool a0.Xr.Vq, .int .i64 a0.Xr.XU, .int .i64 a0.Xr.XV, sL 4 XI a0.Xr.Zm, sL 2 Xg a0.Xr.Z0, sL 3 Xy a0.Xr.ZC, sL 5 Xs a0.Xr.Zt, sL 5 Zx a0.Xr.Zr], .box [.str (⟨#[]⟩ : ByteArray), .int .i64 0, .sl true 12 0 (fun _ => []), .sl true 2 0 (fun _ => []), .sl true 2 0 (fun _ => []), .sl true 2 0 (fun _ => []), .sl true 9 0 (fun _ => []), .sl true 7 0 (fun _ => []), .bool false, .int .i64 0, .sl true 3 0 (fun _ => []), .sl true 5 0 (fun _ => []), .bool false, .int .i64 0, .str (⟨#[]⟩ : ByteArray), .str (⟨#[]⟩ : ByteArray), .sl true 5 0 (fun _ => []), .bool false, .int .i64 0, .int .i64 0, .sl true 4 0 (fun _ => []), .sl true 2 0 (fun _ => []), .sl true 3 0 (fun _ => []), .sl true 5 0 (fun _ => []), .sl true 5 0 (fun _ => [])], aL 12 Zj r1, aL 2 Zu r2]⟩) (fun z => OutE 0 (fun z => ⟨136, u1, [.box [.str a0.Xl, .int .i64 a0.Ge, .asl 2 0 r1.length, .asl 3 0 r2.length, sL 2 ZY a0.XC, sL 2 Ys a0.YC, sL 9 Z3 a0.Xd, sL 7 Xc a0.Zq, .bool a0.Yf.Vq, .int .i64 a0.Yf.Xq, sL 3 Xx a0.Yf.Z6, sL 5 Zx a0.Yf.Zr, .bool a0.Ym.Vq, .int .i64 a0.Ym.Xq, .str a0.Ym.VG, .str a0.Ym.Y7, sL 5 Zx a0.Ym.Zr, .bool a0.Xr.Vq, .int .i64 a0.Xr.XU, .int .i64 a0.Xr.XV, sL 4 XI a0.Xr.Zm, sL 2 Xg a0.Xr.Z0, sL 3 Xy a0.Xr.ZC, sL 5 Xs a0.Xr.Zt, sL 5 Zx a0.Xr.Zr], .box [.str (⟨#[]⟩ : ByteArray), .int .i64 0, .sl true 12 0 (fun _ => []), .sl true 2 0 (fun _ => []), .sl true 2 0 (fun _ => []), .sl true 2 0 (fun _ => []), .sl true 9 0 (fun _ => []), .sl true 7 0 (fun _ => []), .bool false, .int .i64 0, .sl true 3 0 (fun _ => []), .sl true 5 0 (fun _ => []), .bool false, .int .i64 0, .str (⟨#[]⟩ : ByteArray), .str (⟨#[]⟩ : ByteArray), .sl true 5 0 (fun _ => []), .bool false, .int .i64 0, .int .i64 0, .sl true 4 0 (fun _ => []), .sl true 2 0 (fun _ => []), .sl true 3 0 (fun _ => []), .sl true 5 0 (fun _ => []), .sl true 5 0 (fun _ => [])], aL 12 Zj r1, aL 2 Zu r2]⟩) z) q9 ?_ ?_
 intro p3 y4 h5
 unfold M.Q5 at h5
 refine Za (zg [1, 2, 16, 17, 18] 4 (Zb (Za (cn h5 (fun _ h7 => ?_) (fun _ h8 => ?_)))))
 refine Ze (Zb (Za (Zi (Za ?_))))
 cases h7
 exact ZV (XF (re h8 ⟨rfl, kq⟩))
 intro e11 s12 o13
 refine zi o13 (Za (V3 (s' := ⟨136, u1, [.box [.str a0.Xl, .int .i64 a0.Ge, .sl false 12 r1.length (fun k => (fun i => Zj (r1.getD i default)) (0 + k)), .sl false 2 r2.length (fun k => (fun i => Zu (r2.getD i default)) (0 + k)), sL 2 ZY a0.XC, sL 2 Ys a0.YC, sL 9 Z3 a0.Xd, sL 7 Xc a0.Zq, .bool a0.Yf.Vq, .int .i64 a0.Yf.Xq, sL 3 Xx a0.Yf.Z6, sL 5 Zx a0.Yf.Zr, .bool a0.Ym.Vq, .int .i64 a0.Ym.Xq, .str a0.Ym.VG, .str a0.Ym.Y7, sL 5 Zx a0.Ym.Zr, .bool a0.Xr.Vq, .int .i64 a0.Xr.XU, .int .i64 a0.Xr.XV, sL 4 XI a0.Xr.Zm, sL 2 Xg a0.Xr.Z0, sL 3 Xy a0.Xr.ZC, sL 5 Xs a0.Xr.Zt, sL 5 Zx a0.Xr.Zr], .box [.str (⟨#[]⟩ : ByteArray), .int .i64 0, .sl true 12 0 (fun _ => []), .sl true 2 0 (fun _ => []), .sl true 2 0 (fun _ => []), .sl true 2 0 (fun _ => []), .sl true 9 0 (fun _ => []), .sl true 7 0 (fun _ => []), .bool false, .int .i64 0, .sl true 3 0 (fun _ => []), .sl true 5 0 (fun _ => []), .bool false, .int .i64 0, .str (⟨#[]⟩ : ByteArray), .str (⟨#[]⟩ : ByteArray), .sl true 5 0 (fun _ => []), .bool false, .int .i64 0, .int .i64 0, .sl true 4 0 (fun _ => []), .sl true 2 0 (fun _ => []), .sl true 3 0 (fun _ => []), .sl true 5 0 (fun _ => []), .sl true 5 0 (fun _ => [])], aL 12 Zj ([] : List Zl), aL 2 Zu ([] : List Z2)]⟩) (Le.trans ((Le.trans (Rh (s := ⟨136, u1, [.box [.str a0.Xl, .int .i64 a0.Ge, .asl 2 0 r1.length, .asl 3 0 r2.length, sL 2 ZY a0.XC, sL 2 Ys a0.YC, sL 9 Z3 a0.Xd, sL 7 Xc a0.Zq, .bool a0.Yf.Vq, .int .i64 a0.Yf.Xq, sL 3 Xx a0.Yf.Z6, sL 5 Zx a0.Yf.Zr, .bool a0.Ym.Vq, .int .i64 a0.Ym.Xq, .str a0.Ym.VG, .str a0.Ym.Y7, sL 5 Zx a0.Ym.Zr, .bool a0.Xr.Vq, .int .i64 a0.Xr.XU, .int .i64 a0.Xr.XV, sL 4 XI a0.Xr.Zm, sL 2 Xg a0.Xr.Z0, sL 3 Xy a0.Xr.ZC, sL 5 Xs a0.Xr.Zt, sL 5 Zx a0.Xr.Zr], .box [.str (⟨#[]⟩ : ByteArray), .int .i64 0, .sl true 12 0 (fun _ => []), .sl true 2 0 (fun _ => []), .sl true 2 0 (fun _ => []), .sl true 2 0 (fun _ => []), .sl true 9 0 (fun _ => []), .sl true 7 0 (fun _ => []), .bool false, .int .i64 0, .sl true 3 0 (fun _ => []), .sl true 5 0 (fun _ => []), .bool false, .int .i64 0, .str (⟨#[]⟩ : ByteArray), .str (⟨#[]⟩ : ByteArray), .sl true 5 0 (fun _ => []), .bool false, .int .i64 0, .int .i64 0, .sl true 4 0 (fun _ => []), .sl true 2 0 (fun _ => []), .sl true 3 0 (fun _ => []), .sl true 5 0 (fun _ => []), .sl true 5 0 (fun _ => [])], aL 12 Zj r1, aL 2 Zu r2]⟩) (s' := ⟨136, u1, [.box [.str a0.Xl, .int .i64 a0.Ge, .sl false 12 r1.length (fun k => (fun i => Zj (r1.getD i default)) (0 + k)), .asl 3 0 r2.length, sL 2 ZY a0.XC, sL 2 Ys a0.YC, sL 9 Z3 a0.Xd, sL 7 Xc a0.Zq, .bool a0.Yf.Vq, .int .i64 a0.Yf.Xq, sL 3 Xx a0.Yf.Z6, sL 5 Zx a0.Yf.Zr, .bool a0.Ym.Vq, .int .i64 a0.Ym.Xq, .str a0.Ym.VG, .str a0.Ym.Y7, sL 5 Zx a0.Ym.Zr, .bool a0.Xr.Vq, .int .i64 a0.Xr.XU, .int .i64 a0.Xr.XV, sL 4 XI a0.Xr.Zm, sL 2 Xg a0.Xr.Z0, sL 3 Xy a0.Xr.ZC, sL 5 Xs a0.Xr.Zt, sL 5 Zx a0.Xr.Zr], .box [.str (⟨#[]⟩ : ByteArray), .int .i64 0, .sl true 12 0 (fun _ => []), .sl true 2 0 (fun _ => []), .sl true 2 0 (fun _ => []), .sl true 2 0 (fun _ => []), .sl true 9 0 (fun _ => []), .sl true 7 0 (fun _ => []), .bool false, .int .i64 0, .sl true 3 0 (fun _ => []), .sl true 5 0 (fun _ => []), .bool false, .int .i64 0, .str (⟨#[]⟩ : ByteArray), .str (⟨#[]⟩ : ByteArray), .sl true 5 0 (fun _ => []), .bool false, .int .i64 0, .int .i64 0, .sl true 4 0 (fun _ => []), .sl true 2 0 (fun _ => []), .sl true 3 0 (fun _ => []), .sl true 5 0 (fun _ => []), .sl true 5 0 (fun _ => [])], aL 12 Zj ([] : List Zl), aL 2 Zu r2]⟩) 2 12 r1.length (fun i => Zj (r1.getD i default)) (fun i => Zj (([] : List Zl).getD i default)) (by kernel_rfl) (by kernel_rfl) (by kernel_rfl)) (Rh (s := ⟨136, u1, [.box [.str a0.Xl, .int .i64 a0.Ge, .sl false 12 r1.length (fun k => (fun i => Zj (r1.getD i default)) (0 + k)), .asl 3 0 r2.length, sL 2 ZY a0.XC, sL 2 Ys a0.YC, sL 9 Z3 a0.Xd, sL 7 Xc a0.Zq, .bool a0.Yf.Vq, .int .i64 a0.Yf.Xq, sL 3 Xx a0.Yf.Z6, sL 5 Zx a0.Yf.Zr, .bool a0.Ym.Vq, .int .i64 a0.Ym.Xq, .str a0.Ym.VG, .str a0.Ym.Y7, sL 5 Zx a0.Ym.Zr, .bool a0.Xr.Vq, .int .i64 a0.Xr.XU, .int .i64 a0.Xr.XV, sL 4 XI a0.Xr.Zm, sL 2 Xg a0.Xr.Z0, sL 3 Xy a0.Xr.ZC, sL 5 Xs a0.Xr.Zt, sL 5 Zx a0.Xr.Zr], .box [.str (⟨#[]⟩ : ByteArray), .int .i64 0, .sl true 12 0 (fun _ => []), .sl true 2 0 (fun _ => []), .sl true 2 0 (fun _ => []), .sl true 2 0 (fun _ => []), .sl true 9 0 (fun _ => []), .sl true 7 0 (fun _ => []), .bool false, .int .i64 0, .sl true 3 0 (fun _ => []), .sl true 5 0 (fun _ => []), .bool false, .int .i64 0, .str (⟨#[]⟩ : ByteArray), .str (⟨#[]⟩ : ByteArray), .sl true 5 0 (fun _ => []), .bool false, .int .i64 0, .int .i64 0, .sl true 4 0 (fun _ => []), .sl true 2 0 (fun _ => []), .sl true 3 0 (fun _ => []), .sl true 5 0 (fun _ => []), .sl true 5 0 (fun _ => [])], aL 12 Zj ([] : List Zl), aL 2 Zu r2]⟩) (s' := ⟨136, u1, [.box [.str a0.Xl, .int .i64 a0.Ge, .sl false 12 r1.length (fun k => (fun i => Zj (r1.getD i default)) (0 + k)), .sl false 2 r2.length (fun k => (fun i => Zu (r2.getD i default)) (0 + k)), sL 2 ZY a0.XC, sL 2 Ys a0.YC, sL 9 Z3 a0.Xd, sL 7 Xc a0.Zq, .bool a0.Yf.Vq, .int .i64 a0.Yf.Xq, sL 3 Xx a0.Yf.Z6, sL 5 Zx a0.Yf.Zr, .bool a0.Ym.Vq, .int .i64 a0.Ym.Xq, .str a0.Ym.VG, .str a0.Ym.Y7, sL 5 Zx a0.Ym.Zr, .bool a0.Xr.Vq, .int .i64 a0.Xr.XU, .int .i64 a0.Xr.XV, sL 4 XI a0.Xr.Zm, sL 2 Xg a0.Xr.Z0, sL 3 Xy a0.Xr.ZC, sL 5 Xs a0.Xr.Zt, sL 5 Zx a0.Xr.Zr], .box [.str (⟨#[]⟩ : ByteArray), .int .i64 0, .sl true 12 0 (fun _ => []), .sl true 2 0 (fun _ => []), .sl true 2 0 (fun _ => []), .sl true 2 0 (fun _ => []), .sl true 9 0 (fun _ => []), .sl true 7 0 (fun _ => []), .bool false, .int .i64 0, .sl true 3 0 (fun _ => []), .sl true 5 0 (fun _ => []), .bool false, .int .i64 0, .str (⟨#[]⟩ : ByteArray), .str (⟨#[]⟩ : ByteArray), .sl true 5 0 (fun _ => []), .bool false, .int .i64 0, .int .i64 0, .sl true 4 0 (fun _ => []), .sl true 2 0 (fun _ => []), .sl true 3 0 (fun _ => []), .sl true 5 0 (fun _ => []), .sl true 5 0 (fun _ => [])], aL 12 Zj ([] : List Zl), aL 2 Zu ([] : List Z2)]⟩) 3 2 r2.length (fun i => Zu (r2.getD i default)) (fun i => Zu (([] : List Z2).getD i default)) (by kernel_rfl) (by kernel_rfl) (by kernel_rfl)))) (kp [1, 2])) ?_))
 obtain ⟨r6, q15, h16⟩ := bind_some h10
 refine rg [oL 2 ZY r6] [1, 2] 5 ⟨136, u1, [.box [.str a0.Xl, .int .i64 a0.Ge, .sl false 12 r1.length (fun k => (fun i => Zj (r1.getD i default)) (0 + k)), .sl false 2 r2.length (fun k => (fun i => Zu (r2.getD i default)) (0 + k)), .asl 4 0 r6.length, sL 2 Ys a0.YC, sL 9 Z3 a0.Xd, sL 7 Xc a0.Zq, .bool a0.Yf.Vq, .int .i64 a0.Yf.Xq, sL 3 Xx a0.Yf.Z6, sL 5 Zx a0.Yf.Zr, .bool a0.Ym.Vq, .int .i64 a0.Ym.Xq, .str a0.Ym.VG, .str a0.Ym.Y7, sL 5 Zx a0.Ym.Zr, .bool a0.Xr.Vq, .int .i64 a0.Xr.XU, .int .i64 a0.Xr.XV, sL 4 XI a0.Xr.Zm, sL 2 Xg a0.Xr.Z0, sL 3 Xy a0.Xr.ZC, sL 5 Xs a0.Xr.Zt, sL 5 Zx a0.Xr.Zr], .box [.str (⟨#[]⟩ : ByteArray), .int .i64 0, .sl true 12 0 (fun _ => []), .sl true 2 0 (fun _ => []), .sl true 2 0 (fun _ => []), .sl true 2 0 (fun _ => []), .sl true 9 0 (fun _ => []), .sl true 7 0 (fun _ => []), .bool false, .int .i64 0, .sl true 3 0 (fun _ => []), .sl true 5 0 (fun _ => []), .bool false, .int .i64 0, .str (⟨#[]⟩ : ByteArray), .str (⟨#[]⟩ : ByteArray), .sl true 5 0 (fun _ => []), .bool false, .int .i64 0, .int .i64 0, .sl true 4 0 (fun _ => []), .sl true 2 0 (fun _ => []), .sl true 3 0 (fun _ => []), .sl true 5 0 (fun _ => []), .sl true 5 0 (fun _ => [])], aL 12 Zj ([] : List Zl), aL 2 Zu ([] : List Z2), aL 2 ZY r6]⟩ [] [⟨true, 116, [sL 2 ZY a0.XC], oL 2 ZY r6⟩] ZA ⟨fun _ => WP a0.XC r6 q15, trivial⟩ (XP (s' := ⟨136, u1, [.box [.str a0.Xl, .int .i64 a0.Ge, sL 12 Zj r1, sL 2 Zu r2, .asl 4 0 r6.length, sL 2 Ys a0.YC, sL 9 Z3 a0.Xd, sL 7 Xc a0.Zq, .bool a0.Yf.Vq, .int .i64 a0.Yf.Xq, sL 3 Xx a0.Yf.Z6, sL 5 Zx a0.Yf.Zr, .bool a0.Ym.Vq, .int .i64 a0.Ym.Xq, .str a0.Ym.VG, .str a0.Ym.Y7, sL 5 Zx a0.Ym.Zr, .bool a0.Xr.Vq, .int .i64 a0.Xr.XU, .int .i64 a0.Xr.XV, sL 4 XI a0.Xr.Zm, sL 2 Xg a0.Xr.Z0, sL 3 Xy a0.Xr.ZC, sL 5 Xs a0.Xr.Zt, sL 5 Zx a0.Xr.Zr], .box [.str (⟨#[]⟩ : ByteArray), .int .i64 0, .sl true 12 0 (fun _ => []), .sl true 2 0 (fun _ => []), .sl true 2 0 (fun _ => []), .sl true 2 0 (fun _ => []), .sl true 9 0 (fun _ => []), .sl true 7 0 (fun _ => []), .bool false, .int .i64 0, .sl true 3 0 (fun _ => []), .sl true 5 0 (fun _ => []), .bool false, .int .i64 0, .str (⟨#[]⟩ : ByteArray), .str (⟨#[]⟩ : ByteArray), .sl true 5 0 (fun _ => []), .bool false, .int .i64 0, .int .i64 0, .sl true 4 0 (fun _ => []), .sl true 2 0 (fun _ => []), .sl true 3 0 (fun _ => []), .sl true 5 0 (fun _ => []), .sl true 5 0 (fun _ => [])], aL 12 Zj ([] : List Zl), aL 2 Zu ([] : List Z2), aL 2 ZY r6]⟩) (VE (.cons Sub.rfl (.cons Sub.rfl .nil)) (.cons (.box (.cons CSub.rfl (.cons CSub.rfl (.cons (UX rfl (GG (f := fun i => Zj (r1.getD i default)) (fun _ _ => rfl))) (.cons (UX rfl (GG (f := fun i => Zu (r2.getD i default)) (fun _ _ => rfl))) (.cons CSub.rfl (.cons CSub.rfl (.cons CSub.rfl (.cons CSub.rfl (.cons CSub.rfl (.cons CSub.rfl (.cons CSub.rfl (.cons CSub.rfl (.cons CSub.rfl (.cons CSub.rfl (.cons CSub.rfl (.cons CSub.rfl (.cons CSub.rfl (.cons CSub.rfl (.cons CSub.rfl (.cons CSub.rfl (.cons CSub.rfl (.cons CSub.rfl (.cons CSub.rfl (.cons CSub.rfl (.cons CSub.rfl .nil)))))))))))))))))))))))))) (.cons .rfl (.cons .rfl (.cons .rfl (.cons .rfl .nil)))))) (Za (Za (zg [1, 2, 39, 40] 5 (Zb (Zi ?_))))))
 obtain ⟨y9, q21, h22⟩ := bind_some h16
 refine zl (fun (p7 : Int) => ⟨136, [(1, .ref 0 0), (2, .ref 1 0), (39, .int .i64 (r6.length : Int)), (40, .int .i64 p7)], [.box [.str a0.Xl, .int .i64 a0.Ge, sL 12 Zj r1, sL 2 Zu r2, .asl 4 0 r6.length, sL 2 Ys a0.YC, sL 9 Z3 a0.Xd, sL 7 Xc a0.Zq, .bool a0.Yf.Vq, .int .i64 a0.Yf.Xq, sL 3 Xx a0.Yf.Z6, sL 5 Zx a0.Yf.Zr, .bool a0.Ym.Vq, .int .i64 a0.Ym.Xq, .str a0.Ym.VG, .str a0.Ym.Y7, sL 5 Zx a0.Ym.Zr, .bool a0.Xr.Vq, .int .i64 a0.Xr.XU, .int .i64 a0.Xr.XV, sL 4 XI a0.Xr.Zm, sL 2 Xg a0.Xr.Z0, sL 3 Xy a0.Xr.ZC, sL 5 Xs a0.Xr.Zt, sL 5 Zx a0.Xr.Zr], .box [.str (⟨#[]⟩ : ByteArray), .int .i64 0, .sl true 12 0 (fun _ => []), .sl true 2 0 (fun _ => []), .sl true 2 0 (fun _ => []), .sl true 2 0 (fun _ => []), .sl true 9 0 (fun _ => []), .sl true 7 0 (fun _ => []), .bool false, .int .i64 0, .sl true 3 0 (fun _ => []), .sl true 5 0 (fun _ => []), .bool false, .int .i64 0, .str (⟨#[]⟩ : ByteArray), .str (⟨#[]⟩ : ByteArray), .sl true 5 0 (fun _ => []), .bool false, .int .i64 0, .int .i64 0, .sl true 4 0 (fun _ => []), .sl true 2 0 (fun _ => []), .sl true 3 0 (fun _ => []), .sl true 5 0 (fun _ => []), .sl true 5 0 (fun _ => [])], aL 12 Zj ([] : List Zl), aL 2 Zu ([] : List Z2), aL 2 ZY r6]⟩) (fun z => OutE 2 (fun z => ⟨136, u1, [.box [.str a0.Xl, .int .i64 a0.Ge, sL 12 Zj r1, sL 2 Zu r2, .asl 4 0 r6.length, sL 2 Ys a0.YC, sL 9 Z3 a0.Xd, sL 7 Xc a0.Zq, .bool a0.Yf.Vq, .int .i64 a0.Yf.Xq, sL 3 Xx a0.Yf.Z6, sL 5 Zx a0.Yf.Zr, .bool a0.Ym.Vq, .int .i64 a0.Ym.Xq, .str a0.Ym.VG, .str a0.Ym.Y7, sL 5 Zx a0.Ym.Zr, .bool a0.Xr.Vq, .int .i64 a0.Xr.XU, .int .i64 a0.Xr.XV, sL 4 XI a0.Xr.Zm, sL 2 Xg a0.Xr.Z0, sL 3 Xy a0.Xr.ZC, sL 5 Xs a0.Xr.Zt, sL 5 Zx a0.Xr.Zr], .box [.str (⟨#[]⟩ : ByteArray), .int .i64 0, .sl true 12 0 (fun _ => []), .sl true 2 0 (fun _ => []), .sl true 2 0 (fun _ => []), .sl true 2 0 (fun _ => []), .sl true 9 0 (fun _ => []), .sl true 7 0 (fun _ => []), .bool false, .int .i64 0, .sl true 3 0 (fun _ => []), .sl true 5 0 (fun _ => []), .bool false, .int .i64 0, .str (⟨#[]⟩ : ByteArray), .str (⟨#[]⟩ : ByteArray), .sl true 5 0 (fun _ => []), .bool false, .int .i64 0, .int .i64 0, .sl true 4 0 (fun _ => []), .sl true 2 0 (fun _ => []), .sl true 3 0 (fun _ => []), .sl true 5 0 (fun _ => []), .sl true 5 0 (fun _ => [])], aL 12 Zj ([] : List Zl), aL 2 Zu ([] : List Z2), aL 2 ZY r6]⟩) z) q21 ?_ ?_
 intro p7 y8 h17
 unfold M.Q6 at h17
 refine Za (zg [1, 2, 39, 40, 41] 5 (Zb (Za (cn h17 (fun _ h19 => ?_) (fun _ h20 => ?_)))))
 refine Ze (Zb (Za (Zi (Za ?_))))
 cases h19
 exact ZV (XF (re h20 ⟨rfl, kq⟩))
 intro e23 s24 o25
 refine zi o25 (Za (V3 (s' := ⟨136, u1, [.box [.str a0.Xl, .int .i64 a0.Ge, sL 12 Zj r1, sL 2 Zu r2, .sl false 2 r6.length (fun k => (fun i => ZY (r6.getD i default)) (0 + k)), sL 2 Ys a0.YC, sL 9 Z3 a0.Xd, sL 7 Xc a0.Zq, .bool a0.Yf.Vq, .int .i64 a0.Yf.Xq, sL 3 Xx a0.Yf.Z6, sL 5 Zx a0.Yf.Zr, .bool a0.Ym.Vq, .int .i64 a0.Ym.Xq, .str a0.Ym.VG, .str a0.Ym.Y7, sL 5 Zx a0.Ym.Zr, .bool a0.Xr.Vq, .int .i64 a0.Xr.XU, .int .i64 a0.Xr.XV, sL 4 XI a0.Xr.Zm, sL 2 Xg a0.Xr.Z0, sL 3 Xy a0.Xr.ZC, sL 5 Xs a0.Xr.Zt, sL 5 Zx a0.Xr.Zr], .box [.str (⟨#[]⟩ : ByteArray), .int .i64 0, .sl true 12 0 (fun _ => []), .sl true 2 0 (fun _ => []), .sl true 2 0 (fun _ => []), .sl true 2 0 (fun _ => []), .sl true 9 0 (fun _ => []), .sl true 7 0 (fun _ => []), .bool false, .int .i64 0, .sl true 3 0 (fun _ => []), .sl true 5 0 (fun _ => []), .bool false, .int .i64 0, .str (⟨#[]⟩ : ByteArray), .str (⟨#[]⟩ : ByteArray), .sl true 5 0 (fun _ => []), .bool false, .int .i64 0, .int .i64 0, .sl true 4 0 (fun _ => []), .sl true 2 0 (fun _ => []), .sl true 3 0 (fun _ => []), .sl true 5 0 (fun _ => []), .sl true 5 0 (fun _ => [])], aL 12 Zj ([] : List Zl), aL 2 Zu ([] : List Z2), aL 2 ZY ([] : List X6)]⟩) (Le.trans ((Rh (s := ⟨136, u1, [.box [.str a0.Xl, .int .i64 a0.Ge, sL 12 Zj r1, sL 2 Zu r2, .asl 4 0 r6.length, sL 2 Ys a0.YC, sL 9 Z3 a0.Xd, sL 7 Xc a0.Zq, .bool a0.Yf.Vq, .int .i64 a0.Yf.Xq, sL 3 Xx a0.Yf.Z6, sL 5 Zx a0.Yf.Zr, .bool a0.Ym.Vq, .int .i64 a0.Ym.Xq, .str a0.Ym.VG, .str a0.Ym.Y7, sL 5 Zx a0.Ym.Zr, .bool a0.Xr.Vq, .int .i64 a0.Xr.XU, .int .i64 a0.Xr.XV, sL 4 XI a0.Xr.Zm, sL 2 Xg a0.Xr.Z0, sL 3 Xy a0.Xr.ZC, sL 5 Xs a0.Xr.Zt, sL 5 Zx a0.Xr.Zr], .box [.str (⟨#[]⟩ : ByteArray), .int .i64 0, .sl true 12 0 (fun _ => []), .sl true 2 0 (fun _ => []), .sl true 2 0 (fun _ => []), .sl true 2 0 (fun _ => []), .sl true 9 0 (fun _ => []), .sl true 7 0 (fun _ => []), .bool false, .int .i64 0, .sl true 3 0 (fun _ => []), .sl true 5 0 (fun _ => []), .bool false, .int .i64 0, .str (⟨#[]⟩ : ByteArray), .str (⟨#[]⟩ : ByteArray), .sl true 5 0 (fun _ => []), .bool false, .int .i64 0, .int .i64 0, .sl true 4 0 (fun _ => []), .sl true 2 0 (fun _ => []), .sl true 3 0 (fun _ => []), .sl true 5 0 (fun _ => []), .sl true 5 0 (fun _ => [])], aL 12 Zj ([] : List Zl), aL 2 Zu ([] : List Z2), aL 2 ZY r6]⟩) (s' := ⟨136, u1, [.box [.str a0.Xl, .int .i64 a0.Ge, sL 12 Zj r1, sL 2 Zu r2, .sl false 2 r6.length (fun k => (fun i => ZY (r6.getD i default)) (0 + k)), sL 2 Ys a0.YC, sL 9 Z3 a0.Xd, sL 7 Xc a0.Zq, .bool a0.Yf.Vq, .int .i64 a0.Yf.Xq, sL 3 Xx a0.Yf.Z6, sL 5 Zx a0.Yf.Zr, .bool a0.Ym.Vq, .int .i64 a0.Ym.Xq, .str a0.Ym.VG, .str a0.Ym.Y7, sL 5 Zx a0.Ym.Zr, .bool a0.Xr.Vq, .int .i64 a0.Xr.XU, .int .i64 a0.Xr.XV, sL 4 XI a0.Xr.Zm, sL 2 Xg a0.Xr.Z0, sL 3 Xy a0.Xr.ZC, sL 5 Xs a0.Xr.Zt, sL 5 Zx a0.Xr.Zr], .box [.str (⟨#[]⟩ : ByteArray), .int .i64 0, .sl true 12 0 (fun _ => []), .sl true 2 0 (fun _ => []), .sl true 2 0 (fun _ => []), .sl true 2 0 (fun _ => []), .sl true 9 0 (fun _ => []), .sl true 7 0 (fun _ => []), .bool false, .int .i64 0, .sl true 3 0 (fun _ => []), .sl true 5 0 (fun _ => []), .bool false, .int .i64 0, .str (⟨#[]⟩ : ByteArray), .str (⟨#[]⟩ : ByteArray), .sl true 5 0 (fun _ => []), .bool false, .int .i64 0, .int .i64 0, .sl true 4 0 (fun _ => []), .sl true 2 0 (fun _ => []), .sl true 3 0 (fun _ => []), .sl true 5 0 (fun _ => []), .sl true 5 0 (fun _ => [])], aL 12 Zj ([] : List Zl), aL 2 Zu ([] : List Z2), aL 2 ZY ([] : List X6)]⟩) 4 2 r6.length (fun i => ZY (r6.getD i default)) (fun i => ZY (([] : List X6).getD i default)) (by kernel_rfl) (by kernel_rfl) (by kernel_rfl))) (kp [1, 2])) ?_))
 obtain ⟨r10, q27, h28⟩ := bind_some h22
 refine rg [oL 2 Ys r10] [1, 2] 6 ⟨136, u1, [.box [.str a0.Xl, .int .i64 a0.Ge, sL 12 Zj r1, sL 2 Zu r2, .sl false 2 r6.length (fun k => (fun i => ZY (r6.getD i default)) (0 + k)), .asl 5 0 r10.length, sL 9 Z3 a0.Xd, sL 7 Xc a0.Zq, .bool a0.Yf.Vq, .int .i64 a0.Yf.Xq, sL 3 Xx a0.Yf.Z6, sL 5 Zx a0.Yf.Zr, .bool a0.Ym.Vq, .int .i64 a0.Ym.Xq, .str a0.Ym.VG, .str a0.Ym.Y7, sL 5 Zx a0.Ym.Zr, .bool a0.Xr.Vq, .int .i64 a0.Xr.XU, .int .i64 a0.Xr.XV, sL 4 XI a0.Xr.Zm, sL 2 Xg a0.Xr.Z0, sL 3 Xy a0.Xr.ZC, sL 5 Xs a0.Xr.Zt, sL 5 Zx a0.Xr.Zr], .box [.str (⟨#[]⟩ : ByteArray), .int .i64 0, .sl true 12 0 (fun _ => []), .sl true 2 0 (fun _ => []), .sl true 2 0 (fun _ => []), .sl true 2 0 (fun _ => []), .sl true 9 0 (fun _ => []), .sl true 7 0 (fun _ => []), .bool false, .int .i64 0, .sl true 3 0 (fun _ => []), .sl true 5 0 (fun _ => []), .bool false, .int .i64 0, .str (⟨#[]⟩ : ByteArray), .str (⟨#[]⟩ : ByteArray), .sl true 5 0 (fun _ => []), .bool false, .int .i64 0, .int .i64 0, .sl true 4 0 (fun _ => []), .sl true 2 0 (fun _ => []), .sl true 3 0 (fun _ => []), .sl true 5 0 (fun _ => []), .sl true 5 0 (fun _ => [])], aL 12 Zj ([] : List Zl), aL 2 Zu ([] : List Z2), aL 2 ZY ([] : List X6), aL 2 Ys r10]⟩ [] [⟨true, 118, [sL 2 Ys a0.YC], oL 2 Ys r10⟩] ZA ⟨fun _ => UK a0.YC r10 q27, trivial⟩ (XP (s' := ⟨136, u1, [.box [.str a0.Xl, .int .i64 a0.Ge, sL 12 Zj r1, sL 2 Zu r2, sL 2 ZY r6, .asl 5 0 r10.length, sL 9 Z3 a0.Xd, sL 7 Xc a0.Zq, .bool a0.Yf.Vq, .int .i64 a0.Yf.Xq, sL 3 Xx a0.Yf.Z6, sL 5 Zx a0.Yf.Zr, .bool a0.Ym.Vq, .int .i64 a0.Ym.Xq, .str a0.Ym.VG, .str a0.Ym.Y7, sL 5 Zx a0.Ym.Zr, .bool a0.Xr.Vq, .int .i64 a0.Xr.XU, .int .i64 a0.Xr.XV, sL 4 XI a0.Xr.Zm, sL 2 Xg a0.Xr.Z0, sL 3 Xy a0.Xr.ZC, sL 5 Xs a0.Xr.Zt, sL 5 Zx a0.Xr.Zr], .box [.str (⟨#[]⟩ : ByteArray), .int .i64 0, .sl true 12 0 (fun _ => []), .sl true 2 0 (fun _ => []), .sl true 2 0 (fun _ => []), .sl true 2 0 (fun _ => []), .sl true 9 0 (fun _ => []), .sl true 7 0 (fun _ => []), .bool false, .int .i64 0, .sl true 3 0 (fun _ => []), .sl true 5 0 (fun _ => []), .bool false, .int .i64 0, .str (⟨#[]⟩ : ByteArray), .str (⟨#[]⟩ : ByteArray), .sl true 5 0 (fun _ => []), .bool false, .int .i64 0, .int .i64 0, .sl true 4 0 (fun _ => []), .sl true 2 0 (fun _ => []), .sl true 3 0 (fun _ => []), .sl true 5 0 (fun _ => []), .sl true 5 0 (fun _ => [])], aL 12 Zj ([] : List Zl), aL 2 Zu ([] : List Z2), aL 2 ZY ([] : List X6), aL 2 Ys r10]⟩) (VE (.cons Sub.rfl (.cons Sub.rfl .nil)) (.cons (.box (.cons CSub.rfl (.cons CSub.rfl (.cons CSub.rfl (.cons CSub.rfl (.cons (UX rfl (GG (f := fun i => ZY (r6.getD i default)) (fun _ _ => rfl))) (.cons CSub.rfl (.cons CSub.rfl (.cons CSub.rfl (.cons CSub.rfl (.cons CSub.rfl (.cons CSub.rfl (.cons CSub.rfl (.cons CSub.rfl (.cons CSub.rfl (.cons CSub.rfl (.cons CSub.rfl (.cons CSub.rfl (.cons CSub.rfl (.cons CSub.rfl (.cons CSub.rfl (.cons CSub.rfl (.cons CSub.rfl (.cons CSub.rfl (.cons CSub.rfl (.cons CSub.rfl .nil)))))))))))))))))))))))))) (.cons .rfl (.cons .rfl (.cons .rfl (.cons .rfl (.cons .rfl .nil))))))) (Za (Za (zg [1, 2, 62, 63] 6 (Zb (Zi ?_))))))
 obtain ⟨y13, q33, h34⟩ := bind_some h28
 refine zl (fun (p11 : Int) => ⟨136, [(1, .ref 0 0), (2, .ref 1 0), (62, .int .i64 (r10.length : Int)), (63, .int .i64 p11)], [.box [.str a0.Xl, .int .i64 a0.Ge, sL 12 Zj r1, sL 2 Zu r2, sL 2 ZY r6, .asl 5 0 r10.length, sL 9 Z3 a0.Xd, sL 7 Xc a0.Zq, .bool a0.Yf.Vq, .int .i64 a0.Yf.Xq, sL 3 Xx a0.Yf.Z6, sL 5 Zx a0.Yf.Zr, .bool a0.Ym.Vq, .int .i64 a0.Ym.Xq, .str a0.Ym.VG, .str a0.Ym.Y7, sL 5 Zx a0.Ym.Zr, .bool a0.Xr.Vq, .int .i64 a0.Xr.XU, .int .i64 a0.Xr.XV, sL 4 XI a0.Xr.Zm, sL 2 Xg a0.Xr.Z0, sL 3 Xy a0.Xr.ZC, sL 5 Xs a0.Xr.Zt, sL 5 Zx a0.Xr.Zr], .box [.str (⟨#[]⟩ : ByteArray), .int .i64 0, .sl true 12 0 (fun _ => []), .sl true 2 0 (fun _ => []), .sl true 2 0 (fun _ => []), .sl true 2 0 (fun _ => []), .sl true 9 0 (fun _ => []), .sl true 7 0 (fun _ => []), .bool false, .int .i64 0, .sl true 3 0 (fun _ => []), .sl true 5 0 (fun _ => []), .bool false, .int .i64 0, .str (⟨#[]⟩ : ByteArray), .str (⟨#[]⟩ : ByteArray), .sl true 5 0 (fun _ => []), .bool false, .int .i64 0, .int .i64 0, .sl true 4 0 (fun _ => []), .sl true 2 0 (fun _ => []), .sl true 3 0 (fun _ => []), .sl true 5 0 (fun _ => []), .sl true 5 0 (fun _ => [])], aL 12 Zj ([] : List Zl), aL 2 Zu ([] : List Z2), aL 2 ZY ([] : List X6), aL 2 Ys r10]⟩) (fun z => OutE 4 (fun z => ⟨136, u1, [.box [.str a0.Xl, .int .i64 a0.Ge, sL 12 Zj r1, sL 2 Zu r2, sL 2 ZY r6, .asl 5 0 r10.length, sL 9 Z3 a0.Xd, sL 7 Xc a0.Zq, .bool a0.Yf.Vq, .int .i64 a0.Yf.Xq, sL 3 Xx a0.Yf.Z6, sL 5 Zx a0.Yf.Zr, .bool a0.Ym.Vq, .int .i64 a0.Ym.Xq, .str a0.Ym.VG, .str a0.Ym.Y7, sL 5 Zx a0.Ym.Zr, .bool a0.Xr.Vq, .int .i64 a0.Xr.XU, .int .i64 a0.Xr.XV, sL 4 XI a0.Xr.Zm, sL 2 Xg a0.Xr.Z0, sL 3 Xy a0.Xr.ZC, sL 5 Xs a0.Xr.Zt, sL 5 Zx a0.Xr.Zr], .box [.str (⟨#[]⟩ : ByteArray), .int .i64 0, .sl true 12 0 (fun _ => []), .sl true 2 0 (fun _ => []), .sl true 2 0 (fun _ => []), .sl true 2 0 (fun _ => []), .sl true 9 0 (fun _ => []), .sl true 7 0 (fun _ => []), .bool false, .int .i64 0, .sl true 3 0 (fun _ => []), .sl true 5 0 (fun _ => []), .bool false, .int .i64 0, .str (⟨#[]⟩ : ByteArray), .str (⟨#[]⟩ : ByteArray), .sl true 5 0 (fun _ => []), .bool false, .int .i64 0, .int .i64 0, .sl true 4 0 (fun _ => []), .sl true 2 0 (fun _ => []), .sl true 3 0 (fun _ => []), .sl true 5 0 (fun _ => []), .sl true 5 0 (fun _ => [])], aL 12 Zj ([] : List Zl), aL 2 Zu ([] : List Z2), aL 2 ZY ([] : List X6), aL 2 Ys r10]⟩) z) q33 ?_ ?_
 intro p11 y12 h29
 unfold M.Q7 at h29
 refine Za (zg [1, 2, 62, 63, 64] 6 (Zb (Za (cn h29 (fun _ h31 => ?_) (fun _ h32 => ?_)))))
 refine Ze (Zb (Za (Zi (Za ?_))))
 cases h31
 exact ZV (XF (re h32 ⟨rfl, kq⟩))
 intro e35 s36 o37
 refine zi o37 (Za (V3 (s' := ⟨136, u1, [.box [.str a0.Xl, .int .i64 a0.Ge, sL 12 Zj r1, sL 2 Zu r2, sL 2 ZY r6, .sl false 2 r10.length (fun k => (fun i => Ys (r10.getD i default)) (0 + k)), sL 9 Z3 a0.Xd, sL 7 Xc a0.Zq, .bool a0.Yf.Vq, .int .i64 a0.Yf.Xq, sL 3 Xx a0.Yf.Z6, sL 5 Zx a0.Yf.Zr, .bool a0.Ym.Vq, .int .i64 a0.Ym.Xq, .str a0.Ym.VG, .str a0.Ym.Y7, sL 5 Zx a0.Ym.Zr, .bool a0.Xr.Vq, .int .i64 a0.Xr.XU, .int .i64 a0.Xr.XV, sL 4 XI a0.Xr.Zm, sL 2 Xg a0.Xr.Z0, sL 3 Xy a0.Xr.ZC, sL 5 Xs a0.Xr.Zt, sL 5 Zx a0.Xr.Zr], .box [.str (⟨#[]⟩ : ByteArray), .int .i64 0, .sl true 12 0 (fun _ => []), .sl true 2 0 (fun _ => []), .sl true 2 0 (fun _ => []), .sl true 2 0 (fun _ => []), .sl true 9 0 (fun _ => []), .sl true 7 0 (fun _ => []), .bool false, .int .i64 0, .sl true 3 0 (fun _ => []), .sl true 5 0 (fun _ => []), .bool false, .int .i64 0, .str (⟨#[]⟩ : ByteArray), .str (⟨#[]⟩ : ByteArray), .sl true 5 0 (fun _ => []), .bool false, .int .i64 0, .int .i64 0, .sl true 4 0 (fun _ => []), .sl true 2 0 (fun _ => []), .sl true 3 0 (fun _ => []), .sl true 5 0 (fun _ => []), .sl true 5 0 (fun _ => [])], aL 12 Zj ([] : List Zl), aL 2 Zu ([] : List Z2), aL 2 ZY ([] : List X6), aL 2 Ys ([] : List WV)]⟩) (Le.trans ((Rh (s := ⟨136, u1, [.box [.str a0.Xl, .int .i64 a0.Ge, sL 12 Zj r1, sL 2 Zu r2, sL 2 ZY r6, .asl 5 0 r10.length, sL 9 Z3 a0.Xd, sL 7 Xc a0.Zq, .bool a0.Yf.Vq, .int .i64 a0.Yf.Xq, sL 3 Xx a0.Yf.Z6, sL 5 Zx a0.Yf.Zr, .bool a0.Ym.Vq, .int .i64 a0.Ym.Xq, .str a0.Ym.VG, .str a0.Ym.Y7, sL 5 Zx a0.Ym.Zr, .bool a0.Xr.Vq, .int .i64 a0.Xr.XU, .int .i64 a0.Xr.XV, sL 4 XI a0.Xr.Zm, sL 2 Xg a0.Xr.Z0, sL 3 Xy a0.Xr.ZC, sL 5 Xs a0.Xr.Zt, sL 5 Zx a0.Xr.Zr], .box [.str (⟨#[]⟩ : ByteArray), .int .i64 0, .sl true 12 0 (fun _ => []), .sl true 2 0 (fun _ => []), .sl true 2 0 (fun _ => []), .sl true 2 0 (fun _ => []), .sl true 9 0 (fun _ => []), .sl true 7 0 (fun _ => []), .bool false, .int .i64 0, .sl true 3 0 (fun _ => []), .sl true 5 0 (fun _ => []), .bool false, .int .i64 0, .str (⟨#[]⟩ : ByteArray), .str (⟨#[]⟩ : ByteArray), .sl true 5 0 (fun _ => []), .bool false, .int .i64 0, .int .i64 0, .sl true 4 0 (fun _ => []), .sl true 2 0 (fun _ => []), .sl true 3 0 (fun _ => []), .sl true 5 0 (fun _ => []), .sl true 5 0 (fun _ => [])], aL 12 Zj ([] : List Zl), aL 2 Zu ([] : List Z2), aL 2 ZY ([] : List X6), aL 2 Ys r10]⟩) (s' := ⟨136, u1, [.box [.str a0.Xl, .int .i64 a0.Ge, sL 12 Zj r1, sL 2 Zu r2, sL 2 ZY r6, .sl false 2 r10.length (fun k => (fun i => Ys (r10.getD i default)) (0 + k)), sL 9 Z3 a0.Xd, sL 7 Xc a0.Zq, .bool a0.Yf.Vq, .int .i64 a0.Yf.Xq, sL 3 Xx a0.Yf.Z6, sL 5 Zx a0.Yf.Zr, .bool a0.Ym.Vq, .int .i64 a0.Ym.Xq, .str a0.Ym.VG, .str a0.Ym.Y7, sL 5 Zx a0.Ym.Zr, .bool a0.Xr.Vq, .int .i64 a0.Xr.XU, .int .i64 a0.Xr.XV, sL 4 XI a0.Xr.Zm, sL 2 Xg a0.Xr.Z0, sL 3 Xy a0.Xr.ZC, sL 5 Xs a0.Xr.Zt, sL 5 Zx a0.Xr.Zr], .box [.str (⟨#[]⟩ : ByteArray), .int .i64 0, .sl true 12 0 (fun _ => []), .sl true 2 0 (fun _ => []), .sl true 2 0 (fun _ => []), .sl true 2 0 (fun _ => []), .sl true 9 0 (fun _ => []), .sl true 7 0 (fun _ => []), .bool false, .int .i64 0, .sl true 3 0 (fun _ => []), .sl true 5 0 (fun _ => []), .bool false, .int .i64 0, .str (⟨#[]⟩ : ByteArray), .str (⟨#[]⟩ : ByteArray), .sl true 5 0 (fun _ => []), .bool false, .int .i64 0, .int .i64 0, .sl true 4 0 (fun _ => []), .sl true 2 0 (fun _ => []), .sl true 3 0 (fun _ => []), .sl true 5 0 (fun _ => []), .sl true 5 0 (fun _ => [])], aL 12 Zj ([] : List Zl), aL 2 Zu ([] : List Z2), aL 2 ZY ([] : List X6), aL 2 Ys ([] : List WV)]⟩) 5 2 r10.length (fun i => Ys (r10.getD i default)) (fun i => Ys (([] : List WV).getD i default)) (by kernel_rfl) (by kernel_rfl) (by kernel_rfl))) (kp [1, 2])) ?_))
 obtain ⟨r14, q39, h40⟩ := bind_some h34
 refine rg [.pure (sL 9 Z3 r14)] [1, 2] 2 ⟨136, u1, [.box [.str a0.Xl, .int .i64 a0.Ge, sL 12 Zj r1, sL 2 Zu r2, sL 2 ZY r6, .sl false 2 r10.length (fun k => (fun i => Ys (r10.getD i default)) (0 + k)), sL 9 Z3 r14, sL 7 Xc a0.Zq, .bool a0.Yf.Vq, .int .i64 a0.Yf.Xq, sL 3 Xx a0.Yf.Z6, sL 5 Zx a0.Yf.Zr, .bool a0.Ym.Vq, .int .i64 a0.Ym.Xq, .str a0.Ym.VG, .str a0.Ym.Y7, sL 5 Zx a0.Ym.Zr, .bool a0.Xr.Vq, .int .i64 a0.Xr.XU, .int .i64 a0.Xr.XV, sL 4 XI a0.Xr.Zm, sL 2 Xg a0.Xr.Z0, sL 3 Xy a0.Xr.ZC, sL 5 Xs a0.Xr.Zt, sL 5 Zx a0.Xr.Zr], .box [.str (⟨#[]⟩ : ByteArray), .int .i64 0, .sl true 12 0 (fun _ => []), .sl true 2 0 (fun _ => []), .sl true 2 0 (fun _ => []), .sl true 2 0 (fun _ => []), .sl true 9 0 (fun _ => []), .sl true 7 0 (fun _ => []), .bool false, .int .i64 0, .sl true 3 0 (fun _ => []), .sl true 5 0 (fun _ => []), .bool false, .int .i64 0, .str (⟨#[]⟩ : ByteArray), .str (⟨#[]⟩ : ByteArray), .sl true 5 0 (fun _ => []), .bool false, .int .i64 0, .int .i64 0, .sl true 4 0 (fun _ => []), .sl true 2 0 (fun _ => []), .sl true 3 0 (fun _ => []), .sl true 5 0 (fun _ => []), .sl true 5 0 (fun _ => [])]]⟩ [] [⟨true, 120, [sL 9 Z3 a0.Xd], .pure (sL 9 Z3 r14)⟩] ZA ⟨fun _ => V9 a0.Xd r14 q39, trivial⟩ (XP (s' := ⟨136, u1, [.box [.str a0.Xl, .int .i64 a0.Ge, sL 12 Zj r1, sL 2 Zu r2, sL 2 ZY r6, sL 2 Ys r10, sL 9 Z3 r14, sL 7 Xc a0.Zq, .bool a0.Yf.Vq, .int .i64 a0.Yf.Xq, sL 3 Xx a0.Yf.Z6, sL 5 Zx a0.Yf.Zr, .bool a0.Ym.Vq, .int .i64 a0.Ym.Xq, .str a0.Ym.VG, .str a0.Ym.Y7, sL 5 Zx a0.Ym.Zr, .bool a0.Xr.Vq, .int .i64 a0.Xr.XU, .int .i64 a0.Xr.XV, sL 4 XI a0.Xr.Zm, sL 2 Xg a0.Xr.Z0, sL 3 Xy a0.Xr.ZC, sL 5 Xs a0.Xr.Zt, sL 5 Zx a0.Xr.Zr], .box [.str (⟨#[]⟩ : ByteArray), .int .i64 0, .sl true 12 0 (fun _ => []), .sl true 2 0 (fun _ => []), .sl true 2 0 (fun _ => []), .sl true 2 0 (fun _ => []), .sl true 9 0 (fun _ => []), .sl true 7 0 (fun _ => []), .bool false, .int .i64 0, .sl true 3 0 (fun _ => []), .sl true 5 0 (fun _ => []), .bool false, .int .i64 0, .str (⟨#[]⟩ : ByteArray), .str (⟨#[]⟩ : ByteArray), .sl true 5 0 (fun _ => []), .bool false, .int .i64 0, .int .i64 0, .sl true 4 0 (fun _ => []), .sl true 2 0 (fun _ => []), .sl true 3 0 (fun _ => []), .sl true 5 0 (fun _ => []), .sl true 5 0 (fun _ => [])]]⟩) (VE (.cons Sub.rfl (.cons Sub.rfl .nil)) (.cons (.box (.cons CSub.rfl (.cons CSub.rfl (.cons CSub.rfl (.cons CSub.rfl (.cons CSub.rfl (.cons (UX rfl (GG (f := fun i => Ys (r10.getD i default)) (fun _ _ => rfl))) (.cons CSub.rfl (.cons CSub.rfl (.cons CSub.rfl (.cons CSub.rfl (.cons CSub.rfl (.cons CSub.rfl (.cons CSub.rfl (.cons CSub.rfl (.cons CSub.rfl (.cons CSub.rfl (.cons CSub.rfl (.cons CSub.rfl (.cons CSub.rfl (.cons CSub.rfl (.cons CSub.rfl (.cons CSub.rfl (.cons CSub.rfl (.cons CSub.rfl (.cons CSub.rfl .nil)))))))))))))))))))))))))) (.cons .rfl .nil))) (Za ?_))
 obtain ⟨r15, q41, h42⟩ := bind_some h40
 refine zr [1, 2] 2 ZA (rq1 (Wa _ _ q41) rqn) (Zb (Za ?_))
 obtain ⟨r16, q43, h44⟩ := bind_some h42
 refine zr [1, 2] 2 ZA (rq1 (WC _ _ q43) rqn) (Zb (Za ?_))
 obtain ⟨r17, q45, h46⟩ := bind_some h44
 refine zr [1, 2] 2 ZA (rq1 (Jn _ _ q45) rqn) (Zb (Za ?_))
 obtain ⟨r18, q47, h48⟩ := bind_some h46
 refine zr [1, 2] 2 ZA (rq1 (Jn _ _ q47) rqn) (Zb (Za ?_))
 obtain ⟨r19, q49, h50⟩ := bind_some h48
 refine zr [1, 2] 2 ZA (rq1 (WW _ _ q49) rqn) (Zb (Za ?_))
 obtain ⟨r20, q51, h52⟩ := bind_some h50
 refine zr [1, 2] 2 ZA (rq1 (Uf _ _ q51) rqn) (Zb (Za ?_))
 obtain ⟨r21, q53, h54⟩ := bind_some h52
 refine zr [1, 2] 2 ZA (rq1 (WD _ _ q53) rqn) (Zb (Za ?_))
 obtain ⟨r22, q55, h56⟩ := bind_some h54
 refine zr [1, 2] 2 ZA (rq1 (WE _ _ q55) rqn) (Zb (Za ?_))
 obtain ⟨r23, q57, h58⟩ := bind_some h56
 refine zr [1, 2] 2 ZA (rq1 (Jn _ _ q57) rqn) (Zb (Za (zg [2] 2 (Zb (Zh ?_)))))
 obtain rfl := Option.some.inj h58
 exact er0 (.agg [.str a0.Xl, .int .i64 a0.Ge, sL 12 Zj r1, sL 2 Zu r2, sL 2 ZY r6, sL 2 Ys r10, sL 9 Z3 r14, sL 7 Xc r15, .bool a0.Yf.Vq, .int .i64 a0.Yf.Xq, sL 3 Xx r16, sL 5 Zx r17, .bool a0.Ym.Vq, .int .i64 a0.Ym.Xq, .str a0.Ym.VG, .str a0.Ym.Y7, sL 5 Zx r18, .bool a0.Xr.Vq, .int .i64 a0.Xr.XU, .int .i64 a0.Xr.XV, sL 4 XI r19, sL 2 Xg r20, sL 3 Xy r21, sL 5 Xs r22, sL 5 Zx r23])
theorem Zah (a0 : Zw) (r : Zw) (h : M.Ji a0 = some r) : Fn Tryz.prog 48 [.agg (XO a0)] (.pure (.agg (XO r))) := by
 let u1 := XO a0
 unfold M.Ji at h
 refine ZS Tryz.func48 rfl (by kernel_rfl) (Za (zg [1, 2] 2 (Zb (Za ?_))))
 obtain ⟨r1, q1, h2⟩ := bind_some h
 refine rg [oL 25 Zp r1] [2, 3] 3 ⟨24, [(2, .ref 1 0), (3, .asl 2 0 r1.length)], [.box u1, .box [.sl true 25 0 (fun _ => [])], aL 25 Zp r1]⟩ [] [⟨true, 68, [sL 25 Zp a0.Zd], oL 25 Zp r1⟩] ZA ⟨fun _ => Ua a0.Zd r1 q1, trivial⟩ (Zb (Za (Za (zg [2, 3, 9, 10] 3 (Zb (Zi ?_))))))
 obtain ⟨y5, q11, h12⟩ := bind_some h2
 refine zl (fun (p2 : (List Zf) × Int) => ⟨24, [(2, .ref 1 0), (3, .asl 2 0 p2.1.length), (9, .int .i64 (r1.length : Int)), (10, .int .i64 p2.2)], [.box u1, .box [.sl true 25 0 (fun _ => [])], aL 25 Zp p2.1]⟩) (fun z => OutE 0 (fun z => ⟨24, [(2, .ref 1 0), (3, .asl 2 0 z.length)], [.box u1, .box [.sl true 25 0 (fun _ => [])], aL 25 Zp z]⟩) z) q11 ?_ ?_
 intro p2 y3 h3
 unfold M.QL at h3
 refine Za (zg [2, 3, 9, 10, 11] 3 (Zb (Za (cn h3 (fun _ h5 => ?_) (fun _ h6 => ?_)))))
 refine Ze (Zb (Za (Zi (Za (zg [2, 3, 4, 9, 10] 3 (Zb ?_))))))
 obtain ⟨r4, q7, h8⟩ := bind_some h5
 obtain ⟨c9, h10⟩ := Zy h8
 exact rg [.pure (.agg (Zp r4))] [2, 3, 9, 10] 3 ⟨24, [(2, .ref 1 0), (3, .asl 2 0 p2.1.length), (9, .int .i64 (r1.length : Int)), (10, .int .i64 p2.2)], [.box (XO a0), .box [.sl true 25 0 (fun _ => [])], .arr 25 p2.1.length (fun j => bif Nat.beq j (0 + p2.2.toNat) then splice (Zp (p2.1.getD (0 + p2.2.toNat) default)) [.str r4.Xl, .int .i64 r4.Ge, sL 12 Zj r4.Zc, sL 2 Zu r4.Yt, sL 2 ZY r4.XC, sL 2 Ys r4.YC, sL 9 Z3 r4.Xd, sL 7 Xc r4.Zq, .bool r4.Yf.Vq, .int .i64 r4.Yf.Xq, sL 3 Xx r4.Yf.Z6, sL 5 Zx r4.Yf.Zr, .bool r4.Ym.Vq, .int .i64 r4.Ym.Xq, .str r4.Ym.VG, .str r4.Ym.Y7, sL 5 Zx r4.Ym.Zr, .bool r4.Xr.Vq, .int .i64 r4.Xr.XU, .int .i64 r4.Xr.XV, sL 4 XI r4.Xr.Zm, sL 2 Xg r4.Xr.Z0, sL 3 Xy r4.Xr.ZC, sL 5 Xs r4.Xr.Zt, sL 5 Zx r4.Xr.Zr] 0 else Zp (p2.1.getD j default))]⟩ [decide (0 ≤ p2.2), decide (p2.2 < (p2.1.length : Int)), decide (0 ≤ p2.2), decide (p2.2 < (p2.1.length : Int))] [⟨true, 69, [.agg (Zp (p2.1.getD (0 + p2.2.toNat) default))], .pure (.agg (Zp r4))⟩] c9 ⟨fun _ => ZaZ (p2.1.getD (0 + p2.2.toNat) default) r4 q7, trivial⟩ (XX (XP (s' := ⟨24, [(2, .ref 1 0), (3, .asl 2 0 ((p2.1.set (0 + p2.2.toNat) r4).length)), (9, .int .i64 (r1.length : Int)), (10, .int .i64 p2.2)], [.box (XO a0), .box [.sl true 25 0 (fun _ => [])], aL 25 Zp (p2.1.set (0 + p2.2.toNat) r4)]⟩) (VE (.cons Sub.rfl (.cons (UY (by simp)) (.cons Sub.rfl (.cons Sub.rfl .nil)))) (.cons .rfl (.cons .rfl (.cons (.arr (by simp) (Zj2 Zp p2.1 (0 + p2.2.toNat) r4 _ rfl)) .nil)))) (zg [2, 3, 9, 10] 3 (rn h10))))
 exact ZV (XF (re h6 ⟨rfl, kq⟩))
 intro e13 s14 o15
 refine zi o15 (Za (V3 (s' := ⟨24, [(2, .ref 1 0), (3, sL 25 Zp y5)], [.box u1, .box [.sl true 25 0 (fun _ => [])], aL 25 Zp ([] : List Zf)]⟩) (Le.trans (Zi4 3 2 25 Zp y5 (fun i => Zp (([] : List Zf).getD i default)) (by kernel_rfl) (by kernel_rfl) (by kernel_rfl)) (kp [2, 3])) (zg [2] 2 (Zb (Zh ?_)))))
 obtain rfl := Option.some.inj h12
 exact er0 (.agg [sL 25 Zp y5])
theorem Kk (a0 : List Int) (r : List Int) (h : M.Y6 a0 = some r) : Fn Tryz.prog 49 [sL 1 (ci .i64) a0] (.pure (sL 1 (ci .i64) r)) := by
 unfold M.Y6 at h
 obtain ⟨hc, h1⟩ := Zy h
 obtain rfl := Option.some.inj h1
 refine ZS Tryz.func49 rfl (by kernel_rfl) (Za (zg [0] 0 (Zb (Za (Za (zg [0, 4] 0 (Zb (nq a0.length (fun hz => ?_) ?_))))))))
 exact Za (zg [2] 0 (Zb (Zh (Zk (er (.sl false 1 0 (fun _ => [])) (UE hz))))))
 exact Ze (Zb (Za (zc [2] 1 hc (Zb (Zh (er (.sl false 1 (0 + a0.length) (fun i => (app (fun i => List.take 1 (List.drop (i * 1) [])) 0 (fun i => (ci .i64) (a0.getD i default))) (0 + i))) (UR (Nat.zero_add _) (fun i hi => by rw [Nat.zero_add]; exact WG (ci .i64) _ a0 _ (fun _ _ => rfl) i hi))))))))
theorem ZbV (a0 : Zw) (a1 : List Int) (r : X3 × Int) (h : M.Wx a0 a1 = some r) : Fn Tryz.prog 16 [.agg (XO a0), sL 1 (ci .i64) a1] (.pure (.tup [.agg (Vc r.1), .int .i64 r.2])) := by
 let u2 := XO a0
 unfold M.Wx at h
 refine ZS Tryz.func16 rfl (by kernel_rfl) (Za (zg [1, 2, 4] 2 (Zb (Za ?_))))
 obtain ⟨r1, q1, h2⟩ := bind_some h
 let u1 : List Ob := [.box u2, .box [.sl true 25 0 (fun _ => []), .sl true 4 0 (fun _ => []), .sl true 1 0 (fun _ => []), .sl true 1 0 (fun _ => [])], .box (GI r1.1)]
 refine zr [1, 2, 4, 6, 7] 3 ZA (rq1 (Zew _ _ q1) rqn) (Zb (Za (Za (zg [1, 2, 4, 6, 7, 16] 3 (Zb (cn h2 (fun _ h4 => ?_) (fun _ h5 => ?_)))))))
 refine Za ?_
 cases h4
 refine Ze (Zb (Za (Za (zg [1, 2, 4, 6, 21] 3 (Zb (cn h5 (fun _ h7 => ?_) (fun _ h8 => ?_)))))))
 refine Za ?_
 cases h7
 refine Ze (Zb (Za (Za (zg [1, 2, 4, 6, 23, 24, 25] 3 (Zb (Zi ?_))))))
 obtain ⟨y4, q20, h21⟩ := bind_some h8
 refine zl (fun (p2 : Int) => ⟨60, [(1, sL 1 (ci .i64) a1), (2, .ref 0 0), (4, .ref 1 0), (6, .ref 2 0), (23, sL 1 (ci .i64) a1), (24, .int .i64 (a1.length : Int)), (25, .int .i64 p2)], u1⟩) (fun z => OutE 0 (fun z => ⟨60, [(1, sL 1 (ci .i64) a1), (2, .ref 0 0), (4, .ref 1 0), (6, .ref 2 0)], u1⟩) z) q20 ?_ ?_
 intro p2 y3 h9
 unfold M.V8 at h9
 refine Za (zg [1, 2, 4, 6, 23, 24, 25, 26] 3 (Zb (Za (cn h9 (fun _ h11 => ?_) (fun _ h12 => ?_)))))
 refine Ze (Zb (Za (Zi (Za ?_))))
 obtain ⟨c13, h14⟩ := Zy h11
 refine zc [1, 2, 4, 6, 8, 9, 23, 24, 25] 3 c13 (Zb (Za ?_))
 obtain ⟨c15, h16⟩ := Zy h14
 refine zc [1, 2, 4, 6, 23, 24, 25, 51] 3 c15 (Zb (cn h16 (fun _ h18 => ?_) (fun _ h19 => ?_)))
 refine Za ?_
 cases h18
 exact Ze (XX (Zb (zg [1, 2, 4, 6, 23, 24, 25] 3 (rn h19))))
 exact ZV (XF (re h12 ⟨rfl, kq⟩))
 intro e22 s23 o24
 refine zi o24 (Za ?_)
 obtain ⟨r5, q26, h27⟩ := bind_some h21
 obtain ⟨r6, q28, h29⟩ := bind_some h27
 refine rgw [.pure (.agg (XO r5)), .pure (sL 1 (ci .i64) r6)] [4, 5] 2 ⟨60, [(4, .ref 1 0), (5, .int .i64 0)], [.box u2, .box [sL 25 Zp r5.Zd, sL 4 ZD r1.1.Z1, sL 1 (ci .i64) r1.1.QA, sL 1 (ci .i64) r6]]⟩ [] [⟨true, 48, [.agg u2], .pure (.agg (XO r5))⟩, ⟨true, 49, [sL 1 (ci .i64) a1], .pure (sL 1 (ci .i64) r6)⟩] ZA ⟨fun _ => Zah a0 r5 q26, fun _ => Kk a1 r6 q28, trivial⟩ (Zb (Zh ?_))
 obtain rfl := Option.some.inj h29
 exact er0 (.tup [.agg [sL 25 Zp r5.Zd, sL 4 ZD r1.1.Z1, sL 1 (ci .i64) r1.1.QA, sL 1 (ci .i64) r6], .int .i64 0])
theorem Zex  (r : Bool) (h : M.WK  = some r) : Fn Tryz.prog 15 [] (.pure (.bool r)) := by
 unfold M.WK at h
 refine ZS Tryz.func15 rfl (by kernel_rfl) (Za (zg [] 0 (Zb (Za ?_))))
 obtain ⟨r1, q1, h2⟩ := bind_some h
 let u1 := XO r1
 obtain ⟨r2, q3, h4⟩ := bind_some h2
 refine rg [.pure (.agg u1), .pure (.tup [.agg (Vc r2.1), .int .i64 r2.2])] [1, 2] 1 ⟨49, [(1, .ref 0 0), (2, .int .i64 r2.2)], [.box (Vc r2.1)]⟩ [] [⟨true, 47, [], .pure (.agg u1)⟩, ⟨true, 16, [.agg u1, .nils], .pure (.tup [.agg (Vc r2.1), .int .i64 r2.2])⟩] ZA ⟨fun _ => ZaA  r1 q1, fun _ => (ZbV r1 ([] : List Int) r2 q3).args (.cons ASub.rfl (.cons ZhS .nil)), trivial⟩ (Zb (Za ?_))
 obtain ⟨r3, q5, h6⟩ := bind_some h4
 obtain ⟨r4, q7, h8⟩ := bind_some h6
 refine rg [.pure (.agg (XO r3)), .pure (.tup [.agg (Vc r4.1), .int .i64 r4.2])] [1, 2, 3, 4] 2 ⟨49, [(1, .ref 0 0), (2, .int .i64 r2.2), (3, .ref 1 0), (4, .int .i64 r4.2)], [.box (Vc r2.1), .box (Vc r4.1)]⟩ [] [⟨true, 47, [], .pure (.agg (XO r3))⟩, ⟨true, 16, [.agg (XO r3), .sl false 1 1 (fun i => List.take 1 (List.drop (i * 1) [.int .i64 0]))], .pure (.tup [.agg (Vc r4.1), .int .i64 r4.2])⟩] ZA ⟨fun _ => ZaA  r3 q5, fun _ => (ZbV r3 ([0] : List Int) r4 q7).args (.cons ASub.rfl (.cons (Zhl rfl (fun i hi => match i, hi with | 0, _ => rfl | n + 1, h => absurd h (by omega))) .nil)), trivial⟩ (Zb (Za ?_))
 obtain ⟨r5, q9, h10⟩ := bind_some h8
 obtain ⟨r6, q11, h12⟩ := bind_some h10
 obtain ⟨r7, q13, h14⟩ := bind_some h12
 exact zr [0] 0 ZA (rq2 (fun hg => KA _ _ _ _ (XN q9 hg)) (rq2 (fun hg => KA _ _ _ _ (XN q11 hg)) (rq2 (fun hg => KA _ _ _ _ (XN q13 hg)) rqn))) (Zb (Zh (er1 h14)))
theorem KB (a0 : Zw) (a1 : List Int) (r : Bool) (h : M.Wl a0 a1 = some r) : Fn Tryz.prog 9 [.agg (XO a0), sL 1 (ci .i64) a1] (.pure (.bool r)) := by
 let u3 := (a0.Zd.length : Int)
 let u18 := XO a0
 unfold M.Wl at h
 refine ZS Tryz.func9 rfl (by kernel_rfl) (Za (zg [1, 2] 1 (Zb (Za ?_))))
 obtain ⟨r1, q1, h2⟩ := bind_some h
 let u12 := Vc r1.1
 let u5 : List Ob := [.box u18, .box u12]
 refine zr [2, 5, 6] 2 ZA (rq1 (Zet _ _ _ q1) rqn) (Zb (Za (Za (zg [2, 5, 22] 2 (Zb (cn h2 (fun _ h4 => ?_) (fun _ h5 => ?_)))))))
 exact Za (zg [4] 0 (Zb (Zh (Zk (er1 h4)))))
 refine Ze (Zb (Za (Za (zg [2, 5, 7] 2 (Zb (Zi ?_))))))
 obtain ⟨y17, q58, h59⟩ := bind_some h5
 refine zl (fun (p2 : Int) => ⟨176, [(2, .ref 0 0), (5, .ref 1 0), (7, .int .i64 p2)], u5⟩) (Sum.elim (fun z => OutE 0 (fun z => ⟨176, [], []⟩) z) (fun z => OutR Tryz.prog Tryz.f9 (.bool z))) q58 ?_ ?_
 intro p2 y3 h6
 let u9 := (a0.Zd.getD p2.toNat default).Zc
 unfold M.Jl at h6
 refine Za (Za (zg [2, 5, 7, 27] 2 (Zb (cn h6 (fun _ h8 => ?_) (fun _ h9 => ?_)))))
 refine Ze (Zb (Za (Zi (Za (zg [2, 5, 7, 8] 2 (Zb (Zi ?_)))))))
 obtain ⟨y14, q49, h50⟩ := bind_some h8
 refine zl (fun (p4 : Int) => ⟨176, [(2, .ref 0 0), (5, .ref 1 0), (7, .int .i64 p2), (8, .int .i64 p4)], u5⟩) (Sum.elim (fun z => OutE 2 (fun z => ⟨176, [(2, .ref 0 0), (5, .ref 1 0), (7, .int .i64 p2)], u5⟩) z) (fun z => OutR Tryz.prog Tryz.f9 (.bool z))) q49 ?_ ?_
 intro p4 y5 h10
 let u14 := (u9.getD p4.toNat default).Zs
 unfold M.Jk at h10
 refine Za (Za ?_)
 obtain ⟨c11, h12⟩ := Zy h10
 refine zc [2, 5, 7, 8, 38] 2 c11 (Zb (cn h12 (fun _ h14 => ?_) (fun _ h15 => ?_)))
 refine Ze (Zb (Za (Zi (Za ?_))))
 obtain ⟨r6, q16, h17⟩ := bind_some h14
 let u8 := (r6.length : Int)
 let u13 : Nat × D := (9, sL 2 ZW r6)
 refine zr [2, 5, 7, 8, 9] 2 ZA (rq1 (GK _ _ _ _ q16) rqn) (Zb (Za (zg [2, 5, 7, 8, 9, 10] 2 (Zb (Zi ?_)))))
 obtain ⟨y11, q40, h41⟩ := bind_some h17
 refine zl (fun (p7 : Int) => ⟨176, [(2, .ref 0 0), (5, .ref 1 0), (7, .int .i64 p2), (8, .int .i64 p4), u13, (10, .int .i64 p7)], u5⟩) (Sum.elim (fun z => OutE 4 (fun z => ⟨176, [(2, .ref 0 0), (5, .ref 1 0), (7, .int .i64 p2), (8, .int .i64 p4)], u5⟩) z) (fun z => OutR Tryz.prog Tryz.f9 (.bool z))) q40 ?_ ?_
 intro p7 y8 h18
 let u1 := (r6.getD p7.toNat default).Z5
 let u2 := (r6.getD p7.toNat default).XY
 let u17 := decide (u1 < 0)
 let u6 := u17 || (decide (u1 ≥ u3))
 let u16 := u6 || (u1 == p2)
 let u4 := u16 || (decide (u2 < 0))
 let u7 := (a0.Zd.getD u1.toNat default).Zc
 let u10 := decide (0 ≤ p7)
 let u11 := decide (p7 < u8)
 let u15 := (u7.getD u2.toNat default).Zs
 unfold M.Jj at h18
 refine Za (Za (zg [2, 5, 7, 8, 9, 10, 48] 2 (Zb (cn h18 (fun _ h20 => ?_) (fun _ h21 => ?_)))))
 refine Ze (Zb (Za (Zi (Za (Za ?_)))))
 obtain ⟨c22, h23⟩ := Zy h20
 refine rgc [2, 5, 7, 8, 9, 10, 103] 2 ⟨176, [(2, .ref 0 0), (5, .ref 1 0), (7, .int .i64 p2), (8, .int .i64 p4), u13, (10, .int .i64 p7), (103, .bool (u4 || (decide (u2 ≥ (u7.length : Int)))))], u5⟩ [decide (0 ≤ p7), decide (p7 < u8), guardB (!u17) u10, guardB (!u17) u11, guardB (!u6) u10, guardB (!u6) u11, guardB (!u16) u10, guardB (!u16) u11, guardB (!u4) u10, guardB (!u4) u11, guardB (!u4) u10, guardB (!u4) u11, guardB (!u4) (decide (0 ≤ u1)), guardB (!u4) (decide (u1 < u3))] c22 (Zb (cn h23 (fun _ h25 => ?_) (fun _ h26 => ?_)))
 exact Za (zg [4] 0 (Zb (Zh (Zk (Xb (Zk (rr h25 ⟨rfl, er0 _⟩)))))))
 refine Ze (Zb (Za ?_))
 obtain ⟨r9, q27, h28⟩ := bind_some h26
 obtain ⟨c29, h30⟩ := Zy h28
 refine rgsP [0, 1, 2, 3, 4, 5, 6, 7, 8, 9, 10, 11, 12, 13, 14, 15, 16, 17, 18, 19, 20, 21, 22, 23, 24, 27, 25, 26] 26 27 [.pure (.tup [.agg (ZW r9.1), .bool r9.2])] [2, 5, 7, 8, 9, 10, 11, 12] 3 ⟨176, [(2, .ref 0 0), (5, .ref 1 0), (7, .int .i64 p2), (8, .int .i64 p4), u13, (10, .int .i64 p7), (11, .ref 2 0), (12, .bool r9.2)], [.box u18, .box u12, .box (ZW r9.1)]⟩ [decide (0 ≤ p7), decide (p7 < u8), decide (0 ≤ p7), decide (p7 < u8), decide (0 ≤ p2), decide (p2 < u3), decide (0 ≤ p4), decide (p4 < (u9.length : Int))] [⟨true, 23, [.agg u12, .int .i64 u1, .int .i64 u2, .int .u32 u14], .pure (.tup [.agg (ZW r9.1), .bool r9.2])⟩] c29 ⟨fun _ => Zaz r1.1 u1 u2 u14 r9 q27, trivial⟩ (Zb (Za ?_))
 obtain ⟨r10, q31, h32⟩ := bind_some h30
 obtain ⟨c33, h34⟩ := Zy h32
 refine rgsP [0, 1, 2, 3, 4, 5, 6, 7, 8, 9, 10, 11, 12, 13, 14, 15, 16, 17, 18, 19, 20, 21, 22, 23, 24, 27, 25, 26] 26 27 [.pure (.tup [.agg (ZW r10.1), .bool r10.2])] [2, 5, 7, 8, 9, 10, 11, 12, 13, 14] 4 ⟨176, [(2, .ref 0 0), (5, .ref 1 0), (7, .int .i64 p2), (8, .int .i64 p4), u13, (10, .int .i64 p7), (11, .ref 2 0), (12, .bool r9.2), (13, .ref 3 0), (14, .bool r10.2)], [.box u18, .box u12, .box (ZW r9.1), .box (ZW r10.1)]⟩ [decide (0 ≤ p7), decide (p7 < u8), decide (0 ≤ u1), decide (u1 < u3), decide (0 ≤ p7), decide (p7 < u8), decide (0 ≤ u2), decide (u2 < (u7.length : Int))] [⟨true, 23, [.agg u12, .int .i64 p2, .int .i64 p4, .int .u32 u15], .pure (.tup [.agg (ZW r10.1), .bool r10.2])⟩] c33 ⟨fun _ => Zaz r1.1 p2 p4 u15 r10 q31, trivial⟩ (Zb (Za ?_))
 obtain ⟨c35, h36⟩ := Zy h34
 refine zc [2, 5, 7, 8, 9, 10, 174] 2 c35 (Zb (cn h36 (fun _ h38 => ?_) (fun _ h39 => ?_)))
 exact Za (zg [4] 0 (Zb (Zh (Xb (Zk (rr h38 ⟨rfl, er0 _⟩))))))
 exact Ze (XX (Zb (zg [2, 5, 7, 8, 9, 10] 2 (rn h39))))
 exact ZV (XF (re h21 ⟨rfl, kq⟩))
 intro e42 s43 o44
 rcases y11 with g12 | y13
 have h45 := X9 h41
 obtain ⟨rfl, l47⟩ := o44
 exact Qi (XX (XP (s' := ⟨176, [(2, .ref 0 0), (5, .ref 1 0), (7, .int .i64 p2), (8, .int .i64 p4)], u5⟩) (l47) (zg [2, 5, 7, 8] 2 (rn h45))))
 have h46 := Ya h41
 obtain ⟨rfl, n48⟩ := o44
 exact Xb (Xb (Zk (rr h46 ⟨rfl, n48⟩)))
 exact ZV (XF (re h15 ⟨rfl, kq⟩))
 intro e51 s52 o53
 rcases y14 with g15 | y16
 have h54 := X9 h50
 obtain ⟨rfl, l56⟩ := o53
 exact Qi (XX (XP (s' := ⟨176, [(2, .ref 0 0), (5, .ref 1 0), (7, .int .i64 p2)], u5⟩) (l56) (zg [2, 5, 7] 2 (rn h54))))
 have h55 := Ya h50
 obtain ⟨rfl, n57⟩ := o53
 exact Xb (Xb (Zk (rr h55 ⟨rfl, n57⟩)))
 exact ZV (XF (re h9 ⟨rfl, kc⟩))
 intro e60 s61 o62
 rcases y17 with g18 | y19
 have h63 := X9 h59
 refine zi o62 (Za ?_)
 obtain ⟨r20, q66, h67⟩ := bind_some h63
 exact rg [.pure (.bool r20)] [4] 0 ⟨176, [(4, .bool r20)], []⟩ [] [⟨true, 15, [], .pure (.bool r20)⟩] ZA ⟨fun _ => Zex  r20 q66, trivial⟩ (Zb (Zh (er1 h67)))
 have h64 := Ya h59
 obtain ⟨rfl, n68⟩ := o62
 refine Xb (Zk ?_)
 obtain rfl := Option.some.inj h64
 exact n68
end Nv
