/- The walks: each function computes its mirror. -/
import Derived.Test.YtaienbkgekjdnaaGreatProg
import Derived.Test.YtaienbkgekjdnaaGreatNvD1
import Derived.Test.YtaienbkgekjdnaaGreatNvLibC
import Derived.Test.YtaienbkgekjdnaaGreatNvLibB
import Derived.KernelRfl
import Derived.Ground.SlsfProg
import Derived.Shelf.Lay
import Derived.Test.YtaienbkgekjdnaaGreatNvLibD
import Derived.Test.YtaienbkgekjdnaaGreatNvM1a
set_option maxRecDepth 100000
namespace Nv
open Go Go.Proofs
theorem WB (a0 : List Z2) (r : List Z2) (h : M.Xe a0 = some r) : Fn Tryz.prog 114 [sL 2 Zw a0] (oL 2 Zw r) := by
 unfold M.Xe at h
 obtain ⟨hc, h1⟩ := Zr h
 obtain rfl := Option.some.inj h1
 refine ZcJ Tryz.func114 rfl (by kernel_rfl) (UM ?_)
 refine Za (rg0 [0] 0 ⟨8, [(0, sL 2 Zw a0)], []⟩ ?_)
 refine Zb (Za (Za (rg0 [0, 4] 0 ⟨8, [(0, sL 2 Zw a0), (4, .nilq a0.length)], []⟩ ?_)))
 refine Zb (nq a0.length (fun hz => ?_) ?_)
 refine Za (rg0 [2] 0 ⟨8, [(2, .sl true 2 0 (fun _ => []))], []⟩ ?_)
 refine Zb (Zi (Zk ?_))
 obtain rfl := List.eq_nil_of_length_eq_zero hz
 exact ⟨_, KK (wd := 2) (f := fun _ => []) 2 (by kernel_rfl) 2 (fun i => Zw (([] : List Z2).getD i default)), .inr rfl, 2, 0, _, rfl, rfl, rfl, fun _ _ => rfl⟩
 refine Ze (Zb (Za (rgc [2] 1 ⟨8, [(2, .asl 0 0 (0 + a0.length))], [.arr 2 (0 + a0.length) (app (fun i => List.take 2 (List.drop (i * 2) [])) 0 (fun i => Zw (a0.getD i default)))]⟩ [decide (0 = 0) || decide (0 < a0.length), decide ((0 + a0.length) * 40 ≤ 140737488355328)] hc ?_)))
 refine Zb (Zi ?_)
 exact ⟨⟨8, [(2, .asl 0 0 a0.length)], [aL 2 Zw a0]⟩, JL (.cons (Wo (Nat.zero_add _)) .nil) (.cons (.arr (Nat.zero_add _) (WY Zw _ a0 _ (fun _ _ => rfl))) .nil), .inr rfl, 2, 0, _, rfl, rfl, rfl, fun _ _ => rfl⟩
theorem W9 (a0 : List Ya) (r : List Ya) (h : M.Xu a0 = some r) : Fn Tryz.prog 116 [sL 2 Z0 a0] (oL 2 Z0 r) := by
 unfold M.Xu at h
 obtain ⟨hc, h1⟩ := Zr h
 obtain rfl := Option.some.inj h1
 refine ZcJ Tryz.func116 rfl (by kernel_rfl) (UM ?_)
 refine Za (rg0 [0] 0 ⟨8, [(0, sL 2 Z0 a0)], []⟩ ?_)
 refine Zb (Za (Za (rg0 [0, 4] 0 ⟨8, [(0, sL 2 Z0 a0), (4, .nilq a0.length)], []⟩ ?_)))
 refine Zb (nq a0.length (fun hz => ?_) ?_)
 refine Za (rg0 [2] 0 ⟨8, [(2, .sl true 2 0 (fun _ => []))], []⟩ ?_)
 refine Zb (Zi (Zk ?_))
 obtain rfl := List.eq_nil_of_length_eq_zero hz
 exact ⟨_, KK (wd := 2) (f := fun _ => []) 2 (by kernel_rfl) 2 (fun i => Z0 (([] : List Ya).getD i default)), .inr rfl, 2, 0, _, rfl, rfl, rfl, fun _ _ => rfl⟩
 refine Ze (Zb (Za (rgc [2] 1 ⟨8, [(2, .asl 0 0 (0 + a0.length))], [.arr 2 (0 + a0.length) (app (fun i => List.take 2 (List.drop (i * 2) [])) 0 (fun i => Z0 (a0.getD i default)))]⟩ [decide (0 = 0) || decide (0 < a0.length), decide ((0 + a0.length) * 40 ≤ 140737488355328)] hc ?_)))
 refine Zb (Zi ?_)
 exact ⟨⟨8, [(2, .asl 0 0 a0.length)], [aL 2 Z0 a0]⟩, JL (.cons (Wo (Nat.zero_add _)) .nil) (.cons (.arr (Nat.zero_add _) (WY Z0 _ a0 _ (fun _ _ => rfl))) .nil), .inr rfl, 2, 0, _, rfl, rfl, rfl, fun _ _ => rfl⟩
theorem U5 (a0 : List Ud) (r : List Ud) (h : M.X1 a0 = some r) : Fn Tryz.prog 118 [sL 2 Yu a0] (oL 2 Yu r) := by
 unfold M.X1 at h
 obtain ⟨hc, h1⟩ := Zr h
 obtain rfl := Option.some.inj h1
 refine ZcJ Tryz.func118 rfl (by kernel_rfl) (UM ?_)
 refine Za (rg0 [0] 0 ⟨8, [(0, sL 2 Yu a0)], []⟩ ?_)
 refine Zb (Za (Za (rg0 [0, 4] 0 ⟨8, [(0, sL 2 Yu a0), (4, .nilq a0.length)], []⟩ ?_)))
 refine Zb (nq a0.length (fun hz => ?_) ?_)
 refine Za (rg0 [2] 0 ⟨8, [(2, .sl true 2 0 (fun _ => []))], []⟩ ?_)
 refine Zb (Zi (Zk ?_))
 obtain rfl := List.eq_nil_of_length_eq_zero hz
 exact ⟨_, KK (wd := 2) (f := fun _ => []) 2 (by kernel_rfl) 2 (fun i => Yu (([] : List Ud).getD i default)), .inr rfl, 2, 0, _, rfl, rfl, rfl, fun _ _ => rfl⟩
 refine Ze (Zb (Za (rgc [2] 1 ⟨8, [(2, .asl 0 0 (0 + a0.length))], [.arr 2 (0 + a0.length) (app (fun i => List.take 2 (List.drop (i * 2) [])) 0 (fun i => Yu (a0.getD i default)))]⟩ [decide (0 = 0) || decide (0 < a0.length), decide ((0 + a0.length) * 40 ≤ 140737488355328)] hc ?_)))
 refine Zb (Zi ?_)
 exact ⟨⟨8, [(2, .asl 0 0 a0.length)], [aL 2 Yu a0]⟩, JL (.cons (Wo (Nat.zero_add _)) .nil) (.cons (.arr (Nat.zero_add _) (WY Yu _ a0 _ (fun _ _ => rfl))) .nil), .inr rfl, 2, 0, _, rfl, rfl, rfl, fun _ _ => rfl⟩
theorem Wu (a0 : List YR) (r : List YR) (h : M.Xb a0 = some r) : Fn Tryz.prog 120 [sL 9 Z3 a0] (.pure (sL 9 Z3 r)) := by
 unfold M.Xb at h
 obtain ⟨hc, h1⟩ := Zr h
 obtain rfl := Option.some.inj h1
 refine ZS Tryz.func120 rfl (by kernel_rfl) (Za (zg [0] 0 (Zb (Za (Za (zg [0, 4] 0 (Zb (nq a0.length (fun hz => ?_) ?_))))))))
 exact Za (zg [2] 0 (Zb (Zi (Zk (er (.sl false 9 0 (fun _ => [])) (UY hz))))))
 exact Ze (Zb (Za (zc [2] 1 hc (Zb (Zi (er (.sl false 9 (0 + a0.length) (fun i => (app (fun i => List.take 9 (List.drop (i * 9) [])) 0 (fun i => Z3 (a0.getD i default))) (0 + i))) (Gb (Nat.zero_add _) (fun i hi => by rw [Nat.zero_add]; exact WY Z3 _ a0 _ (fun _ _ => rfl) i hi))))))))
theorem Wv (a0 : List YS) (r : List YS) (h : M.Xc a0 = some r) : Fn Tryz.prog 121 [sL 7 Z9 a0] (.pure (sL 7 Z9 r)) := by
 unfold M.Xc at h
 obtain ⟨hc, h1⟩ := Zr h
 obtain rfl := Option.some.inj h1
 refine ZS Tryz.func121 rfl (by kernel_rfl) (Za (zg [0] 0 (Zb (Za (Za (zg [0, 4] 0 (Zb (nq a0.length (fun hz => ?_) ?_))))))))
 exact Za (zg [2] 0 (Zb (Zi (Zk (er (.sl false 7 0 (fun _ => [])) (UY hz))))))
 exact Ze (Zb (Za (zc [2] 1 hc (Zb (Zi (er (.sl false 7 (0 + a0.length) (fun i => (app (fun i => List.take 7 (List.drop (i * 7) [])) 0 (fun i => Z9 (a0.getD i default))) (0 + i))) (Gb (Nat.zero_add _) (fun i hi => by rw [Nat.zero_add]; exact WY Z9 _ a0 _ (fun _ _ => rfl) i hi))))))))
theorem WU (a0 : List J3) (r : List J3) (h : M.Xl a0 = some r) : Fn Tryz.prog 122 [sL 3 Xz a0] (.pure (sL 3 Xz r)) := by
 unfold M.Xl at h
 obtain ⟨hc, h1⟩ := Zr h
 obtain rfl := Option.some.inj h1
 refine ZS Tryz.func122 rfl (by kernel_rfl) (Za (zg [0] 0 (Zb (Za (Za (zg [0, 4] 0 (Zb (nq a0.length (fun hz => ?_) ?_))))))))
 exact Za (zg [2] 0 (Zb (Zi (Zk (er (.sl false 3 0 (fun _ => [])) (UY hz))))))
 exact Ze (Zb (Za (zc [2] 1 hc (Zb (Zi (er (.sl false 3 (0 + a0.length) (fun i => (app (fun i => List.take 3 (List.drop (i * 3) [])) 0 (fun i => Xz (a0.getD i default))) (0 + i))) (Gb (Nat.zero_add _) (fun i hi => by rw [Nat.zero_add]; exact WY Xz _ a0 _ (fun _ _ => rfl) i hi))))))))
theorem Jl (a0 : List YJ) (r : List YJ) (h : M.Z6 a0 = some r) : Fn Tryz.prog 123 [sL 5 Zz a0] (.pure (sL 5 Zz r)) := by
 unfold M.Z6 at h
 obtain ⟨hc, h1⟩ := Zr h
 obtain rfl := Option.some.inj h1
 refine ZS Tryz.func123 rfl (by kernel_rfl) (Za (zg [0] 0 (Zb (Za (Za (zg [0, 4] 0 (Zb (nq a0.length (fun hz => ?_) ?_))))))))
 exact Za (zg [2] 0 (Zb (Zi (Zk (er (.sl false 5 0 (fun _ => [])) (UY hz))))))
 exact Ze (Zb (Za (zc [2] 1 hc (Zb (Zi (er (.sl false 5 (0 + a0.length) (fun i => (app (fun i => List.take 5 (List.drop (i * 5) [])) 0 (fun i => Zz (a0.getD i default))) (0 + i))) (Gb (Nat.zero_add _) (fun i hi => by rw [Nat.zero_add]; exact WY Zz _ a0 _ (fun _ _ => rfl) i hi))))))))
theorem Uf (a0 : List Jr) (r : List Jr) (h : M.Xv a0 = some r) : Fn Tryz.prog 124 [sL 4 XK a0] (.pure (sL 4 XK r)) := by
 unfold M.Xv at h
 obtain ⟨hc, h1⟩ := Zr h
 obtain rfl := Option.some.inj h1
 refine ZS Tryz.func124 rfl (by kernel_rfl) (Za (zg [0] 0 (Zb (Za (Za (zg [0, 4] 0 (Zb (nq a0.length (fun hz => ?_) ?_))))))))
 exact Za (zg [2] 0 (Zb (Zi (Zk (er (.sl false 4 0 (fun _ => [])) (UY hz))))))
 exact Ze (Zb (Za (zc [2] 1 hc (Zb (Zi (er (.sl false 4 (0 + a0.length) (fun i => (app (fun i => List.take 4 (List.drop (i * 4) [])) 0 (fun i => XK (a0.getD i default))) (0 + i))) (Gb (Nat.zero_add _) (fun i hi => by rw [Nat.zero_add]; exact WY XK _ a0 _ (fun _ _ => rfl) i hi))))))))
theorem UB (a0 : List ZZ) (r : List ZZ) (h : M.XN a0 = some r) : Fn Tryz.prog 125 [sL 2 Xd a0] (.pure (sL 2 Xd r)) := by
 unfold M.XN at h
 obtain ⟨hc, h1⟩ := Zr h
 obtain rfl := Option.some.inj h1
 refine ZS Tryz.func125 rfl (by kernel_rfl) (Za (zg [0] 0 (Zb (Za (Za (zg [0, 4] 0 (Zb (nq a0.length (fun hz => ?_) ?_))))))))
 exact Za (zg [2] 0 (Zb (Zi (Zk (er (.sl false 2 0 (fun _ => [])) (UY hz))))))
 exact Ze (Zb (Za (zc [2] 1 hc (Zb (Zi (er (.sl false 2 (0 + a0.length) (fun i => (app (fun i => List.take 2 (List.drop (i * 2) [])) 0 (fun i => Xd (a0.getD i default))) (0 + i))) (Gb (Nat.zero_add _) (fun i hi => by rw [Nat.zero_add]; exact WY Xd _ a0 _ (fun _ _ => rfl) i hi))))))))
theorem WV (a0 : List J4) (r : List J4) (h : M.Xm a0 = some r) : Fn Tryz.prog 126 [sL 3 XA a0] (.pure (sL 3 XA r)) := by
 unfold M.Xm at h
 obtain ⟨hc, h1⟩ := Zr h
 obtain rfl := Option.some.inj h1
 refine ZS Tryz.func126 rfl (by kernel_rfl) (Za (zg [0] 0 (Zb (Za (Za (zg [0, 4] 0 (Zb (nq a0.length (fun hz => ?_) ?_))))))))
 exact Za (zg [2] 0 (Zb (Zi (Zk (er (.sl false 3 0 (fun _ => [])) (UY hz))))))
 exact Ze (Zb (Za (zc [2] 1 hc (Zb (Zi (er (.sl false 3 (0 + a0.length) (fun i => (app (fun i => List.take 3 (List.drop (i * 3) [])) 0 (fun i => XA (a0.getD i default))) (0 + i))) (Gb (Nat.zero_add _) (fun i hi => by rw [Nat.zero_add]; exact WY XA _ a0 _ (fun _ _ => rfl) i hi))))))))
theorem WW (a0 : List J5) (r : List J5) (h : M.Xn a0 = some r) : Fn Tryz.prog 127 [sL 5 Xt a0] (.pure (sL 5 Xt r)) := by
 unfold M.Xn at h
 obtain ⟨hc, h1⟩ := Zr h
 obtain rfl := Option.some.inj h1
 refine ZS Tryz.func127 rfl (by kernel_rfl) (Za (zg [0] 0 (Zb (Za (Za (zg [0, 4] 0 (Zb (nq a0.length (fun hz => ?_) ?_))))))))
 exact Za (zg [2] 0 (Zb (Zi (Zk (er (.sl false 5 0 (fun _ => [])) (UY hz))))))
 exact Ze (Zb (Za (zc [2] 1 hc (Zb (Zi (er (.sl false 5 (0 + a0.length) (fun i => (app (fun i => List.take 5 (List.drop (i * 5) [])) 0 (fun i => Xt (a0.getD i default))) (0 + i))) (Gb (Nat.zero_add _) (fun i hi => by rw [Nat.zero_add]; exact WY Xt _ a0 _ (fun _ _ => rfl) i hi))))))))
theorem Zbp (a0 : Zf) (r : Zf) (h : M.JK a0 = some r) : Fn Tryz.prog 69 [.agg (Zp a0)] (.pure (.agg (Zp r))) := by
 let u1 : List (Nat × D) := [(1, .ref 0 0), (2, .ref 1 0)]
 unfold M.JK at h
 refine ZS Tryz.func69 rfl (by kernel_rfl) (Za (zg [1, 2] 2 (Zb (Za ?_))))
 obtain ⟨r1, q1, h2⟩ := bind_some h
 refine rg [oL 12 Zj r1] [1, 2] 3 ⟨136, u1, [.box [.str a0.Xj, .int .i64 a0.GA, .asl 2 0 r1.length, sL 2 Zw a0.Yv, sL 2 Z0 a0.XE, sL 2 Yu a0.YD, sL 9 Z3 a0.Xa, sL 7 Z9 a0.Zq, .bool a0.Yi.Vz, .int .i64 a0.Yi.Xr, sL 3 Xz a0.Yi.Z4, sL 5 Zz a0.Yi.Zs, .bool a0.Yn.Vz, .int .i64 a0.Yn.Xr, .str a0.Yn.VS, .str a0.Yn.Y7, sL 5 Zz a0.Yn.Zs, .bool a0.Xs.Vz, .int .i64 a0.Xs.XX, .int .i64 a0.Xs.XY, sL 4 XK a0.Xs.Zm, sL 2 Xd a0.Xs.Z1, sL 3 XA a0.Xs.ZE, sL 5 Xt a0.Xs.Zt, sL 5 Zz a0.Xs.Zs], .box [.str (⟨#[]⟩ : ByteArray), .int .i64 0, .sl true 12 0 (fun _ => []), .sl true 2 0 (fun _ => []), .sl true 2 0 (fun _ => []), .sl true 2 0 (fun _ => []), .sl true 9 0 (fun _ => []), .sl true 7 0 (fun _ => []), .bool false, .int .i64 0, .sl true 3 0 (fun _ => []), .sl true 5 0 (fun _ => []), .bool false, .int .i64 0, .str (⟨#[]⟩ : ByteArray), .str (⟨#[]⟩ : ByteArray), .sl true 5 0 (fun _ => []), .bool false, .int .i64 0, .int .i64 0, .sl true 4 0 (fun _ => []), .sl true 2 0 (fun _ => []), .sl true 3 0 (fun _ => []), .sl true 5 0 (fun _ => []), .sl true 5 0 (fun _ => [])], aL 12 Zj r1]⟩ [] [⟨true, 113, [sL 12 Zj a0.Zc], oL 12 Zj r1⟩] Zx ⟨fun _ => WT a0.Zc r1 q1, trivial⟩ (Zb (Za ?_))
 obtain ⟨r2, q3, h4⟩ := bind_some h2
 refine rg [oL 2 Zw r2] [1, 2] 4 ⟨136, u1, [.box [.str a0.Xj, .int .i64 a0.GA, .asl 2 0 r1.length, .asl 3 0 r2.length, sL 2 Z0 a0.XE, sL 2 Yu a0.YD, sL 9 Z3 a0.Xa, sL 7 Z9 a0.Zq, .bool a0.Yi.Vz, .int .i64 a0.Yi.Xr, sL 3 Xz a0.Yi.Z4, sL 5 Zz a0.Yi.Zs, .bool a0.Yn.Vz, .int .i64 a0.Yn.Xr, .str a0.Yn.VS, .str a0.Yn.Y7, sL 5 Zz a0.Yn.Zs, .bool a0.Xs.Vz, .int .i64 a0.Xs.XX, .int .i64 a0.Xs.XY, sL 4 XK a0.Xs.Zm, sL 2 Xd a0.Xs.Z1, sL 3 XA a0.Xs.ZE, sL 5 Xt a0.Xs.Zt, sL 5 Zz a0.Xs.Zs], .box [.str (⟨#[]⟩ : ByteArray), .int .i64 0, .sl true 12 0 (fun _ => []), .sl true 2 0 (fun _ => []), .sl true 2 0 (fun _ => []), .sl true 2 0 (fun _ => []), .sl true 9 0 (fun _ => []), .sl true 7 0 (fun _ => []), .bool false, .int .i64 0, .sl true 3 0 (fun _ => []), .sl true 5 0 (fun _ => []), .bool false, .int .i64 0, .str (⟨#[]⟩ : ByteArray), .str (⟨#[]⟩ : ByteArray), .sl true 5 0 (fun _ => []), .bool false, .int .i64 0, .int .i64 0, .sl true 4 0 (fun _ => []), .sl true 2 0 (fun _ => []), .sl true 3 0 (fun _ => []), .sl true 5 0 (fun _ => []), .sl true 5 0 (fun _ => [])], aL 12 Zj r1, aL 2 Zw r2]⟩ [] [⟨true, 114, [sL 2 Zw a0.Yv], oL 2 Zw r2⟩] Zx ⟨fun _ => WB a0.Yv r2 q3, trivial⟩ (Zb (Za (Za (zg [1, 2, 16, 17] 4 (Zb (Zg ?_))))))
 obtain ⟨y5, q9, h10⟩ := bind_some h4
 refine zl (fun (p3 : Int) => ⟨136, [(1, .ref 0 0), (2, .ref 1 0), (16, .int .i64 (r2.length : Int)), (17, .int .i64 p3)], [.box [.str a0.Xj, .int .i64 a0.GA, .asl 2 0 r1.length, .asl 3 0 r2.length, sL 2 Z0 a0.XE, sL 2 Yu a0.YD, sL 9 Z3 a0.Xa, sL 7 Z9 a0.Zq, .bool a0.Yi.Vz, .int .i64 a0.Yi.Xr, sL 3 Xz a0.Yi.Z4, sL 5 Zz a0.Yi.Zs, .bool a0.Yn.Vz, .int .i64 a0.Yn.Xr, .str a0.Yn.VS, .str a0.Yn.Y7, sL 5 Zz a0.Yn.Zs, .bool a0.Xs.Vz, .int .i64 a0.Xs.XX, .int .i64 a0.Xs.XY, sL 4 XK a0.Xs.Zm, sL 2 Xd a0.Xs.Z1, sL 3 XA a0.Xs.ZE, sL 5 Xt a0.Xs.Zt, sL 5 Zz a0.Xs.Zs], .box [.str (⟨#[]⟩ : ByteArray), .int .i64 0, .sl true 12 0 (fun _ => []), .sl true 2 0 (fun _ => []), .sl true 2 0 (fun _ => []), .sl true 2 0 (fun _ => []), .sl true 9 0 (fun _ => []), .sl true 7 0 (fun _ => []), .bool false, .int .i64 0, .sl true 3 0 (fun _ => []), .sl true 5 0 (fun _ => []), .bool false, .int .i64 0, .str (⟨#[]⟩ : ByteArray), .str (⟨#[]⟩ : ByteArray), .sl true 5 0 (fun _ => []), .bool false, .int .i64 0, .int .i64 0, .sl true 4 0 (fun _ => []), .sl true 2 0 (fun _ => []), .sl true 3 0 (fun _ => []), .sl true 5 0 (fun _ => []), .sl true 5 0 (fun _ => [])], aL 12 Zj r1, aL 2 Zw r2]⟩) (fun z => OutE 0 (fun z => ⟨136, u1, [.box [.str a0.Xj, .int .i64 a0.GA, .asl 2 0 r1.length, .asl 3 0 r2.length, sL 2 Z0 a0.XE, sL 2 Yu a0.YD, sL 9 Z3 a0.Xa, sL 7 Z9 a0.Zq, .bool a0.Yi.Vz, .int .i64 a0.Yi.Xr, sL 3 Xz a0.Yi.Z4, sL 5 Zz a0.Yi.Zs, .bool a0.Yn.Vz, .int .i64 a0.Yn.Xr, .str a0.Yn.VS, .str a0.Yn.Y7, sL 5 Zz a0.Yn.Zs, .bool a0.Xs.Vz, .int .i64 a0.Xs.XX, .int .i64 a0.Xs.XY, sL 4 XK a0.Xs.Zm, sL 2 Xd a0.Xs.Z1, sL 3 XA a0.Xs.ZE, sL 5 Xt a0.Xs.Zt, sL 5 Zz a0.Xs.Zs], .box [.str (⟨#[]⟩ : ByteArray), .int .i64 0, .sl true 12 0 (fun _ => []), .sl true 2 0 (fun _ => []), .sl true 2 0 (fun _ => []), .sl true 2 0 (fun _ => []), .sl true 9 0 (fun _ => []), .sl true 7 0 (fun _ => []), .bool false, .int .i64 0, .sl true 3 0 (fun _ => []), .sl true 5 0 (fun _ => []), .bool false, .int .i64 0, .str (⟨#[]⟩ : ByteArray), .str (⟨#[]⟩ : ByteArray), .sl true 5 0 (fun _ => []), .bool false, .int .i64 0, .int .i64 0, .sl true 4 0 (fun _ => []), .sl true 2 0 (fun _ => []), .sl true 3 0 (fun _ => []), .sl true 5 0 (fun _ => []), .sl true 5 0 (fun _ => [])], aL 12 Zj r1, aL 2 Zw r2]⟩) z) q9 ?_ ?_
 intro p3 y4 h5
 unfold M.Q5 at h5
 refine Za (zg [1, 2, 16, 17, 18] 4 (Zb (Za (cn h5 (fun _ h7 => ?_) (fun _ h8 => ?_)))))
 refine Ze (Zb (Za (Zg (Za ?_))))
 cases h7
 exact ZQ (Xh (re h8 ⟨rfl, kq⟩))
 intro e11 s12 o13
 refine zi o13 (Za (Wk (s' := ⟨136, u1, [.box [.str a0.Xj, .int .i64 a0.GA, .sl false 12 r1.length (fun k => (fun i => Zj (r1.getD i default)) (0 + k)), .sl false 2 r2.length (fun k => (fun i => Zw (r2.getD i default)) (0 + k)), sL 2 Z0 a0.XE, sL 2 Yu a0.YD, sL 9 Z3 a0.Xa, sL 7 Z9 a0.Zq, .bool a0.Yi.Vz, .int .i64 a0.Yi.Xr, sL 3 Xz a0.Yi.Z4, sL 5 Zz a0.Yi.Zs, .bool a0.Yn.Vz, .int .i64 a0.Yn.Xr, .str a0.Yn.VS, .str a0.Yn.Y7, sL 5 Zz a0.Yn.Zs, .bool a0.Xs.Vz, .int .i64 a0.Xs.XX, .int .i64 a0.Xs.XY, sL 4 XK a0.Xs.Zm, sL 2 Xd a0.Xs.Z1, sL 3 XA a0.Xs.ZE, sL 5 Xt a0.Xs.Zt, sL 5 Zz a0.Xs.Zs], .box [.str (⟨#[]⟩ : ByteArray), .int .i64 0, .sl true 12 0 (fun _ => []), .sl true 2 0 (fun _ => []), .sl true 2 0 (fun _ => []), .sl true 2 0 (fun _ => []), .sl true 9 0 (fun _ => []), .sl true 7 0 (fun _ => []), .bool false, .int .i64 0, .sl true 3 0 (fun _ => []), .sl true 5 0 (fun _ => []), .bool false, .int .i64 0, .str (⟨#[]⟩ : ByteArray), .str (⟨#[]⟩ : ByteArray), .sl true 5 0 (fun _ => []), .bool false, .int .i64 0, .int .i64 0, .sl true 4 0 (fun _ => []), .sl true 2 0 (fun _ => []), .sl true 3 0 (fun _ => []), .sl true 5 0 (fun _ => []), .sl true 5 0 (fun _ => [])], aL 12 Zj ([] : List Zl), aL 2 Zw ([] : List Z2)]⟩) (Le.trans ((Le.trans (RF (s := ⟨136, u1, [.box [.str a0.Xj, .int .i64 a0.GA, .asl 2 0 r1.length, .asl 3 0 r2.length, sL 2 Z0 a0.XE, sL 2 Yu a0.YD, sL 9 Z3 a0.Xa, sL 7 Z9 a0.Zq, .bool a0.Yi.Vz, .int .i64 a0.Yi.Xr, sL 3 Xz a0.Yi.Z4, sL 5 Zz a0.Yi.Zs, .bool a0.Yn.Vz, .int .i64 a0.Yn.Xr, .str a0.Yn.VS, .str a0.Yn.Y7, sL 5 Zz a0.Yn.Zs, .bool a0.Xs.Vz, .int .i64 a0.Xs.XX, .int .i64 a0.Xs.XY, sL 4 XK a0.Xs.Zm, sL 2 Xd a0.Xs.Z1, sL 3 XA a0.Xs.ZE, sL 5 Xt a0.Xs.Zt, sL 5 Zz a0.Xs.Zs], .box [.str (⟨#[]⟩ : ByteArray), .int .i64 0, .sl true 12 0 (fun _ => []), .sl true 2 0 (fun _ => []), .sl true 2 0 (fun _ => []), .sl true 2 0 (fun _ => []), .sl true 9 0 (fun _ => []), .sl true 7 0 (fun _ => []), .bool false, .int .i64 0, .sl true 3 0 (fun _ => []), .sl true 5 0 (fun _ => []), .bool false, .int .i64 0, .str (⟨#[]⟩ : ByteArray), .str (⟨#[]⟩ : ByteArray), .sl true 5 0 (fun _ => []), .bool false, .int .i64 0, .int .i64 0, .sl true 4 0 (fun _ => []), .sl true 2 0 (fun _ => []), .sl true 3 0 (fun _ => []), .sl true 5 0 (fun _ => []), .sl true 5 0 (fun _ => [])], aL 12 Zj r1, aL 2 Zw r2]⟩) (s' := ⟨136, u1, [.box [.str a0.Xj, .int .i64 a0.GA, .sl false 12 r1.length (fun k => (fun i => Zj (r1.getD i default)) (0 + k)), .asl 3 0 r2.length, sL 2 Z0 a0.XE, sL 2 Yu a0.YD, sL 9 Z3 a0.Xa, sL 7 Z9 a0.Zq, .bool a0.Yi.Vz, .int .i64 a0.Yi.Xr, sL 3 Xz a0.Yi.Z4, sL 5 Zz a0.Yi.Zs, .bool a0.Yn.Vz, .int .i64 a0.Yn.Xr, .str a0.Yn.VS, .str a0.Yn.Y7, sL 5 Zz a0.Yn.Zs, .bool a0.Xs.Vz, .int .i64 a0.Xs.XX, .int .i64 a0.Xs.XY, sL 4 XK a0.Xs.Zm, sL 2 Xd a0.Xs.Z1, sL 3 XA a0.Xs.ZE, sL 5 Xt a0.Xs.Zt, sL 5 Zz a0.Xs.Zs], .box [.str (⟨#[]⟩ : ByteArray), .int .i64 0, .sl true 12 0 (fun _ => []), .sl true 2 0 (fun _ => []), .sl true 2 0 (fun _ => []), .sl true 2 0 (fun _ => []), .sl true 9 0 (fun _ => []), .sl true 7 0 (fun _ => []), .bool false, .int .i64 0, .sl true 3 0 (fun _ => []), .sl true 5 0 (fun _ => []), .bool false, .int .i64 0, .str (⟨#[]⟩ : ByteArray), .str (⟨#[]⟩ : ByteArray), .sl true 5 0 (fun _ => []), .bool false, .int .i64 0, .int .i64 0, .sl true 4 0 (fun _ => []), .sl true 2 0 (fun _ => []), .sl true 3 0 (fun _ => []), .sl true 5 0 (fun _ => []), .sl true 5 0 (fun _ => [])], aL 12 Zj ([] : List Zl), aL 2 Zw r2]⟩) 2 12 r1.length (fun i => Zj (r1.getD i default)) (fun i => Zj (([] : List Zl).getD i default)) (by kernel_rfl) (by kernel_rfl) (by kernel_rfl)) (RF (s := ⟨136, u1, [.box [.str a0.Xj, .int .i64 a0.GA, .sl false 12 r1.length (fun k => (fun i => Zj (r1.getD i default)) (0 + k)), .asl 3 0 r2.length, sL 2 Z0 a0.XE, sL 2 Yu a0.YD, sL 9 Z3 a0.Xa, sL 7 Z9 a0.Zq, .bool a0.Yi.Vz, .int .i64 a0.Yi.Xr, sL 3 Xz a0.Yi.Z4, sL 5 Zz a0.Yi.Zs, .bool a0.Yn.Vz, .int .i64 a0.Yn.Xr, .str a0.Yn.VS, .str a0.Yn.Y7, sL 5 Zz a0.Yn.Zs, .bool a0.Xs.Vz, .int .i64 a0.Xs.XX, .int .i64 a0.Xs.XY, sL 4 XK a0.Xs.Zm, sL 2 Xd a0.Xs.Z1, sL 3 XA a0.Xs.ZE, sL 5 Xt a0.Xs.Zt, sL 5 Zz a0.Xs.Zs], .box [.str (⟨#[]⟩ : ByteArray), .int .i64 0, .sl true 12 0 (fun _ => []), .sl true 2 0 (fun _ => []), .sl true 2 0 (fun _ => []), .sl true 2 0 (fun _ => []), .sl true 9 0 (fun _ => []), .sl true 7 0 (fun _ => []), .bool false, .int .i64 0, .sl true 3 0 (fun _ => []), .sl true 5 0 (fun _ => []), .bool false, .int .i64 0, .str (⟨#[]⟩ : ByteArray), .str (⟨#[]⟩ : ByteArray), .sl true 5 0 (fun _ => []), .bool false, .int .i64 0, .int .i64 0, .sl true 4 0 (fun _ => []), .sl true 2 0 (fun _ => []), .sl true 3 0 (fun _ => []), .sl true 5 0 (fun _ => []), .sl true 5 0 (fun _ => [])], aL 12 Zj ([] : List Zl), aL 2 Zw r2]⟩) (s' := ⟨136, u1, [.box [.str a0.Xj, .int .i64 a0.GA, .sl false 12 r1.length (fun k => (fun i => Zj (r1.getD i default)) (0 + k)), .sl false 2 r2.length (fun k => (fun i => Zw (r2.getD i default)) (0 + k)), sL 2 Z0 a0.XE, sL 2 Yu a0.YD, sL 9 Z3 a0.Xa, sL 7 Z9 a0.Zq, .bool a0.Yi.Vz, .int .i64 a0.Yi.Xr, sL 3 Xz a0.Yi.Z4, sL 5 Zz a0.Yi.Zs, .bool a0.Yn.Vz, .int .i64 a0.Yn.Xr, .str a0.Yn.VS, .str a0.Yn.Y7, sL 5 Zz a0.Yn.Zs, .bool a0.Xs.Vz, .int .i64 a0.Xs.XX, .int .i64 a0.Xs.XY, sL 4 XK a0.Xs.Zm, sL 2 Xd a0.Xs.Z1, sL 3 XA a0.Xs.ZE, sL 5 Xt a0.Xs.Zt, sL 5 Zz a0.Xs.Zs], .box [.str (⟨#[]⟩ : ByteArray), .int .i64 0, .sl true 12 0 (fun _ => []), .sl true 2 0 (fun _ => []), .sl true 2 0 (fun _ => []), .sl true 2 0 (fun _ => []), .sl true 9 0 (fun _ => []), .sl true 7 0 (fun _ => []), .bool false, .int .i64 0, .sl true 3 0 (fun _ => []), .sl true 5 0 (fun _ => []), .bool false, .int .i64 0, .str (⟨#[]⟩ : ByteArray), .str (⟨#[]⟩ : ByteArray), .sl true 5 0 (fun _ => []), .bool false, .int .i64 0, .int .i64 0, .sl true 4 0 (fun _ => []), .sl true 2 0 (fun _ => []), .sl true 3 0 (fun _ => []), .sl true 5 0 (fun _ => []), .sl true 5 0 (fun _ => [])], aL 12 Zj ([] : List Zl), aL 2 Zw ([] : List Z2)]⟩) 3 2 r2.length (fun i => Zw (r2.getD i default)) (fun i => Zw (([] : List Z2).getD i default)) (by kernel_rfl) (by kernel_rfl) (by kernel_rfl)))) (kp [1, 2])) ?_))
 obtain ⟨r6, q15, h16⟩ := bind_some h10
 refine rg [oL 2 Z0 r6] [1, 2] 5 ⟨136, u1, [.box [.str a0.Xj, .int .i64 a0.GA, .sl false 12 r1.length (fun k => (fun i => Zj (r1.getD i default)) (0 + k)), .sl false 2 r2.length (fun k => (fun i => Zw (r2.getD i default)) (0 + k)), .asl 4 0 r6.length, sL 2 Yu a0.YD, sL 9 Z3 a0.Xa, sL 7 Z9 a0.Zq, .bool a0.Yi.Vz, .int .i64 a0.Yi.Xr, sL 3 Xz a0.Yi.Z4, sL 5 Zz a0.Yi.Zs, .bool a0.Yn.Vz, .int .i64 a0.Yn.Xr, .str a0.Yn.VS, .str a0.Yn.Y7, sL 5 Zz a0.Yn.Zs, .bool a0.Xs.Vz, .int .i64 a0.Xs.XX, .int .i64 a0.Xs.XY, sL 4 XK a0.Xs.Zm, sL 2 Xd a0.Xs.Z1, sL 3 XA a0.Xs.ZE, sL 5 Xt a0.Xs.Zt, sL 5 Zz a0.Xs.Zs], .box [.str (⟨#[]⟩ : ByteArray), .int .i64 0, .sl true 12 0 (fun _ => []), .sl true 2 0 (fun _ => []), .sl true 2 0 (fun _ => []), .sl true 2 0 (fun _ => []), .sl true 9 0 (fun _ => []), .sl true 7 0 (fun _ => []), .bool false, .int .i64 0, .sl true 3 0 (fun _ => []), .sl true 5 0 (fun _ => []), .bool false, .int .i64 0, .str (⟨#[]⟩ : ByteArray), .str (⟨#[]⟩ : ByteArray), .sl true 5 0 (fun _ => []), .bool false, .int .i64 0, .int .i64 0, .sl true 4 0 (fun _ => []), .sl true 2 0 (fun _ => []), .sl true 3 0 (fun _ => []), .sl true 5 0 (fun _ => []), .sl true 5 0 (fun _ => [])], aL 12 Zj ([] : List Zl), aL 2 Zw ([] : List Z2), aL 2 Z0 r6]⟩ [] [⟨true, 116, [sL 2 Z0 a0.XE], oL 2 Z0 r6⟩] Zx ⟨fun _ => W9 a0.XE r6 q15, trivial⟩ (Xo (s' := ⟨136, u1, [.box [.str a0.Xj, .int .i64 a0.GA, sL 12 Zj r1, sL 2 Zw r2, .asl 4 0 r6.length, sL 2 Yu a0.YD, sL 9 Z3 a0.Xa, sL 7 Z9 a0.Zq, .bool a0.Yi.Vz, .int .i64 a0.Yi.Xr, sL 3 Xz a0.Yi.Z4, sL 5 Zz a0.Yi.Zs, .bool a0.Yn.Vz, .int .i64 a0.Yn.Xr, .str a0.Yn.VS, .str a0.Yn.Y7, sL 5 Zz a0.Yn.Zs, .bool a0.Xs.Vz, .int .i64 a0.Xs.XX, .int .i64 a0.Xs.XY, sL 4 XK a0.Xs.Zm, sL 2 Xd a0.Xs.Z1, sL 3 XA a0.Xs.ZE, sL 5 Xt a0.Xs.Zt, sL 5 Zz a0.Xs.Zs], .box [.str (⟨#[]⟩ : ByteArray), .int .i64 0, .sl true 12 0 (fun _ => []), .sl true 2 0 (fun _ => []), .sl true 2 0 (fun _ => []), .sl true 2 0 (fun _ => []), .sl true 9 0 (fun _ => []), .sl true 7 0 (fun _ => []), .bool false, .int .i64 0, .sl true 3 0 (fun _ => []), .sl true 5 0 (fun _ => []), .bool false, .int .i64 0, .str (⟨#[]⟩ : ByteArray), .str (⟨#[]⟩ : ByteArray), .sl true 5 0 (fun _ => []), .bool false, .int .i64 0, .int .i64 0, .sl true 4 0 (fun _ => []), .sl true 2 0 (fun _ => []), .sl true 3 0 (fun _ => []), .sl true 5 0 (fun _ => []), .sl true 5 0 (fun _ => [])], aL 12 Zj ([] : List Zl), aL 2 Zw ([] : List Z2), aL 2 Z0 r6]⟩) (JL (.cons Sub.rfl (.cons Sub.rfl .nil)) (.cons (.box (.cons CSub.rfl (.cons CSub.rfl (.cons (Gg rfl (G5 (f := fun i => Zj (r1.getD i default)) (fun _ _ => rfl))) (.cons (Gg rfl (G5 (f := fun i => Zw (r2.getD i default)) (fun _ _ => rfl))) (.cons CSub.rfl (.cons CSub.rfl (.cons CSub.rfl (.cons CSub.rfl (.cons CSub.rfl (.cons CSub.rfl (.cons CSub.rfl (.cons CSub.rfl (.cons CSub.rfl (.cons CSub.rfl (.cons CSub.rfl (.cons CSub.rfl (.cons CSub.rfl (.cons CSub.rfl (.cons CSub.rfl (.cons CSub.rfl (.cons CSub.rfl (.cons CSub.rfl (.cons CSub.rfl (.cons CSub.rfl (.cons CSub.rfl .nil)))))))))))))))))))))))))) (.cons .rfl (.cons .rfl (.cons .rfl (.cons .rfl .nil)))))) (Za (Za (zg [1, 2, 39, 40] 5 (Zb (Zg ?_))))))
 obtain ⟨y9, q21, h22⟩ := bind_some h16
 refine zl (fun (p7 : Int) => ⟨136, [(1, .ref 0 0), (2, .ref 1 0), (39, .int .i64 (r6.length : Int)), (40, .int .i64 p7)], [.box [.str a0.Xj, .int .i64 a0.GA, sL 12 Zj r1, sL 2 Zw r2, .asl 4 0 r6.length, sL 2 Yu a0.YD, sL 9 Z3 a0.Xa, sL 7 Z9 a0.Zq, .bool a0.Yi.Vz, .int .i64 a0.Yi.Xr, sL 3 Xz a0.Yi.Z4, sL 5 Zz a0.Yi.Zs, .bool a0.Yn.Vz, .int .i64 a0.Yn.Xr, .str a0.Yn.VS, .str a0.Yn.Y7, sL 5 Zz a0.Yn.Zs, .bool a0.Xs.Vz, .int .i64 a0.Xs.XX, .int .i64 a0.Xs.XY, sL 4 XK a0.Xs.Zm, sL 2 Xd a0.Xs.Z1, sL 3 XA a0.Xs.ZE, sL 5 Xt a0.Xs.Zt, sL 5 Zz a0.Xs.Zs], .box [.str (⟨#[]⟩ : ByteArray), .int .i64 0, .sl true 12 0 (fun _ => []), .sl true 2 0 (fun _ => []), .sl true 2 0 (fun _ => []), .sl true 2 0 (fun _ => []), .sl true 9 0 (fun _ => []), .sl true 7 0 (fun _ => []), .bool false, .int .i64 0, .sl true 3 0 (fun _ => []), .sl true 5 0 (fun _ => []), .bool false, .int .i64 0, .str (⟨#[]⟩ : ByteArray), .str (⟨#[]⟩ : ByteArray), .sl true 5 0 (fun _ => []), .bool false, .int .i64 0, .int .i64 0, .sl true 4 0 (fun _ => []), .sl true 2 0 (fun _ => []), .sl true 3 0 (fun _ => []), .sl true 5 0 (fun _ => []), .sl true 5 0 (fun _ => [])], aL 12 Zj ([] : List Zl), aL 2 Zw ([] : List Z2), aL 2 Z0 r6]⟩) (fun z => OutE 2 (fun z => ⟨136, u1, [.box [.str a0.Xj, .int .i64 a0.GA, sL 12 Zj r1, sL 2 Zw r2, .asl 4 0 r6.length, sL 2 Yu a0.YD, sL 9 Z3 a0.Xa, sL 7 Z9 a0.Zq, .bool a0.Yi.Vz, .int .i64 a0.Yi.Xr, sL 3 Xz a0.Yi.Z4, sL 5 Zz a0.Yi.Zs, .bool a0.Yn.Vz, .int .i64 a0.Yn.Xr, .str a0.Yn.VS, .str a0.Yn.Y7, sL 5 Zz a0.Yn.Zs, .bool a0.Xs.Vz, .int .i64 a0.Xs.XX, .int .i64 a0.Xs.XY, sL 4 XK a0.Xs.Zm, sL 2 Xd a0.Xs.Z1, sL 3 XA a0.Xs.ZE, sL 5 Xt a0.Xs.Zt, sL 5 Zz a0.Xs.Zs], .box [.str (⟨#[]⟩ : ByteArray), .int .i64 0, .sl true 12 0 (fun _ => []), .sl true 2 0 (fun _ => []), .sl true 2 0 (fun _ => []), .sl true 2 0 (fun _ => []), .sl true 9 0 (fun _ => []), .sl true 7 0 (fun _ => []), .bool false, .int .i64 0, .sl true 3 0 (fun _ => []), .sl true 5 0 (fun _ => []), .bool false, .int .i64 0, .str (⟨#[]⟩ : ByteArray), .str (⟨#[]⟩ : ByteArray), .sl true 5 0 (fun _ => []), .bool false, .int .i64 0, .int .i64 0, .sl true 4 0 (fun _ => []), .sl true 2 0 (fun _ => []), .sl true 3 0 (fun _ => []), .sl true 5 0 (fun _ => []), .sl true 5 0 (fun _ => [])], aL 12 Zj ([] : List Zl), aL 2 Zw ([] : List Z2), aL 2 Z0 r6]⟩) z) q21 ?_ ?_
 intro p7 y8 h17
 unfold M.Q6 at h17
 refine Za (zg [1, 2, 39, 40, 41] 5 (Zb (Za (cn h17 (fun _ h19 => ?_) (fun _ h20 => ?_)))))
 refine Ze (Zb (Za (Zg (Za ?_))))
 cases h19
 exact ZQ (Xh (re h20 ⟨rfl, kq⟩))
 intro e23 s24 o25
 refine zi o25 (Za (Wk (s' := ⟨136, u1, [.box [.str a0.Xj, .int .i64 a0.GA, sL 12 Zj r1, sL 2 Zw r2, .sl false 2 r6.length (fun k => (fun i => Z0 (r6.getD i default)) (0 + k)), sL 2 Yu a0.YD, sL 9 Z3 a0.Xa, sL 7 Z9 a0.Zq, .bool a0.Yi.Vz, .int .i64 a0.Yi.Xr, sL 3 Xz a0.Yi.Z4, sL 5 Zz a0.Yi.Zs, .bool a0.Yn.Vz, .int .i64 a0.Yn.Xr, .str a0.Yn.VS, .str a0.Yn.Y7, sL 5 Zz a0.Yn.Zs, .bool a0.Xs.Vz, .int .i64 a0.Xs.XX, .int .i64 a0.Xs.XY, sL 4 XK a0.Xs.Zm, sL 2 Xd a0.Xs.Z1, sL 3 XA a0.Xs.ZE, sL 5 Xt a0.Xs.Zt, sL 5 Zz a0.Xs.Zs], .box [.str (⟨#[]⟩ : ByteArray), .int .i64 0, .sl true 12 0 (fun _ => []), .sl true 2 0 (fun _ => []), .sl true 2 0 (fun _ => []), .sl true 2 0 (fun _ => []), .sl true 9 0 (fun _ => []), .sl true 7 0 (fun _ => []), .bool false, .int .i64 0, .sl true 3 0 (fun _ => []), .sl true 5 0 (fun _ => []), .bool false, .int .i64 0, .str (⟨#[]⟩ : ByteArray), .str (⟨#[]⟩ : ByteArray), .sl true 5 0 (fun _ => []), .bool false, .int .i64 0, .int .i64 0, .sl true 4 0 (fun _ => []), .sl true 2 0 (fun _ => []), .sl true 3 0 (fun _ => []), .sl true 5 0 (fun _ => []), .sl true 5 0 (fun _ => [])], aL 12 Zj ([] : List Zl), aL 2 Zw ([] : List Z2), aL 2 Z0 ([] : List Ya)]⟩) (Le.trans ((RF (s := ⟨136, u1, [.box [.str a0.Xj, .int .i64 a0.GA, sL 12 Zj r1, sL 2 Zw r2, .asl 4 0 r6.length, sL 2 Yu a0.YD, sL 9 Z3 a0.Xa, sL 7 Z9 a0.Zq, .bool a0.Yi.Vz, .int .i64 a0.Yi.Xr, sL 3 Xz a0.Yi.Z4, sL 5 Zz a0.Yi.Zs, .bool a0.Yn.Vz, .int .i64 a0.Yn.Xr, .str a0.Yn.VS, .str a0.Yn.Y7, sL 5 Zz a0.Yn.Zs, .bool a0.Xs.Vz, .int .i64 a0.Xs.XX, .int .i64 a0.Xs.XY, sL 4 XK a0.Xs.Zm, sL 2 Xd a0.Xs.Z1, sL 3 XA a0.Xs.ZE, sL 5 Xt a0.Xs.Zt, sL 5 Zz a0.Xs.Zs], .box [.str (⟨#[]⟩ : ByteArray), .int .i64 0, .sl true 12 0 (fun _ => []), .sl true 2 0 (fun _ => []), .sl true 2 0 (fun _ => []), .sl true 2 0 (fun _ => []), .sl true 9 0 (fun _ => []), .sl true 7 0 (fun _ => []), .bool false, .int .i64 0, .sl true 3 0 (fun _ => []), .sl true 5 0 (fun _ => []), .bool false, .int .i64 0, .str (⟨#[]⟩ : ByteArray), .str (⟨#[]⟩ : ByteArray), .sl true 5 0 (fun _ => []), .bool false, .int .i64 0, .int .i64 0, .sl true 4 0 (fun _ => []), .sl true 2 0 (fun _ => []), .sl true 3 0 (fun _ => []), .sl true 5 0 (fun _ => []), .sl true 5 0 (fun _ => [])], aL 12 Zj ([] : List Zl), aL 2 Zw ([] : List Z2), aL 2 Z0 r6]⟩) (s' := ⟨136, u1, [.box [.str a0.Xj, .int .i64 a0.GA, sL 12 Zj r1, sL 2 Zw r2, .sl false 2 r6.length (fun k => (fun i => Z0 (r6.getD i default)) (0 + k)), sL 2 Yu a0.YD, sL 9 Z3 a0.Xa, sL 7 Z9 a0.Zq, .bool a0.Yi.Vz, .int .i64 a0.Yi.Xr, sL 3 Xz a0.Yi.Z4, sL 5 Zz a0.Yi.Zs, .bool a0.Yn.Vz, .int .i64 a0.Yn.Xr, .str a0.Yn.VS, .str a0.Yn.Y7, sL 5 Zz a0.Yn.Zs, .bool a0.Xs.Vz, .int .i64 a0.Xs.XX, .int .i64 a0.Xs.XY, sL 4 XK a0.Xs.Zm, sL 2 Xd a0.Xs.Z1, sL 3 XA a0.Xs.ZE, sL 5 Xt a0.Xs.Zt, sL 5 Zz a0.Xs.Zs], .box [.str (⟨#[]⟩ : ByteArray), .int .i64 0, .sl true 12 0 (fun _ => []), .sl true 2 0 (fun _ => []), .sl true 2 0 (fun _ => []), .sl true 2 0 (fun _ => []), .sl true 9 0 (fun _ => []), .sl true 7 0 (fun _ => []), .bool false, .int .i64 0, .sl true 3 0 (fun _ => []), .sl true 5 0 (fun _ => []), .bool false, .int .i64 0, .str (⟨#[]⟩ : ByteArray), .str (⟨#[]⟩ : ByteArray), .sl true 5 0 (fun _ => []), .bool false, .int .i64 0, .int .i64 0, .sl true 4 0 (fun _ => []), .sl true 2 0 (fun _ => []), .sl true 3 0 (fun _ => []), .sl true 5 0 (fun _ => []), .sl true 5 0 (fun _ => [])], aL 12 Zj ([] : List Zl), aL 2 Zw ([] : List Z2), aL 2 Z0 ([] : List Ya)]⟩) 4 2 r6.length (fun i => Z0 (r6.getD i default)) (fun i => Z0 (([] : List Ya).getD i default)) (by kernel_rfl) (by kernel_rfl) (by kernel_rfl))) (kp [1, 2])) ?_))
 obtain ⟨r10, q27, h28⟩ := bind_some h22
 refine rg [oL 2 Yu r10] [1, 2] 6 ⟨136, u1, [.box [.str a0.Xj, .int .i64 a0.GA, sL 12 Zj r1, sL 2 Zw r2, .sl false 2 r6.length (fun k => (fun i => Z0 (r6.getD i default)) (0 + k)), .asl 5 0 r10.length, sL 9 Z3 a0.Xa, sL 7 Z9 a0.Zq, .bool a0.Yi.Vz, .int .i64 a0.Yi.Xr, sL 3 Xz a0.Yi.Z4, sL 5 Zz a0.Yi.Zs, .bool a0.Yn.Vz, .int .i64 a0.Yn.Xr, .str a0.Yn.VS, .str a0.Yn.Y7, sL 5 Zz a0.Yn.Zs, .bool a0.Xs.Vz, .int .i64 a0.Xs.XX, .int .i64 a0.Xs.XY, sL 4 XK a0.Xs.Zm, sL 2 Xd a0.Xs.Z1, sL 3 XA a0.Xs.ZE, sL 5 Xt a0.Xs.Zt, sL 5 Zz a0.Xs.Zs], .box [.str (⟨#[]⟩ : ByteArray), .int .i64 0, .sl true 12 0 (fun _ => []), .sl true 2 0 (fun _ => []), .sl true 2 0 (fun _ => []), .sl true 2 0 (fun _ => []), .sl true 9 0 (fun _ => []), .sl true 7 0 (fun _ => []), .bool false, .int .i64 0, .sl true 3 0 (fun _ => []), .sl true 5 0 (fun _ => []), .bool false, .int .i64 0, .str (⟨#[]⟩ : ByteArray), .str (⟨#[]⟩ : ByteArray), .sl true 5 0 (fun _ => []), .bool false, .int .i64 0, .int .i64 0, .sl true 4 0 (fun _ => []), .sl true 2 0 (fun _ => []), .sl true 3 0 (fun _ => []), .sl true 5 0 (fun _ => []), .sl true 5 0 (fun _ => [])], aL 12 Zj ([] : List Zl), aL 2 Zw ([] : List Z2), aL 2 Z0 ([] : List Ya), aL 2 Yu r10]⟩ [] [⟨true, 118, [sL 2 Yu a0.YD], oL 2 Yu r10⟩] Zx ⟨fun _ => U5 a0.YD r10 q27, trivial⟩ (Xo (s' := ⟨136, u1, [.box [.str a0.Xj, .int .i64 a0.GA, sL 12 Zj r1, sL 2 Zw r2, sL 2 Z0 r6, .asl 5 0 r10.length, sL 9 Z3 a0.Xa, sL 7 Z9 a0.Zq, .bool a0.Yi.Vz, .int .i64 a0.Yi.Xr, sL 3 Xz a0.Yi.Z4, sL 5 Zz a0.Yi.Zs, .bool a0.Yn.Vz, .int .i64 a0.Yn.Xr, .str a0.Yn.VS, .str a0.Yn.Y7, sL 5 Zz a0.Yn.Zs, .bool a0.Xs.Vz, .int .i64 a0.Xs.XX, .int .i64 a0.Xs.XY, sL 4 XK a0.Xs.Zm, sL 2 Xd a0.Xs.Z1, sL 3 XA a0.Xs.ZE, sL 5 Xt a0.Xs.Zt, sL 5 Zz a0.Xs.Zs], .box [.str (⟨#[]⟩ : ByteArray), .int .i64 0, .sl true 12 0 (fun _ => []), .sl true 2 0 (fun _ => []), .sl true 2 0 (fun _ => []), .sl true 2 0 (fun _ => []), .sl true 9 0 (fun _ => []), .sl true 7 0 (fun _ => []), .bool false, .int .i64 0, .sl true 3 0 (fun _ => []), .sl true 5 0 (fun _ => []), .bool false, .int .i64 0, .str (⟨#[]⟩ : ByteArray), .str (⟨#[]⟩ : ByteArray), .sl true 5 0 (fun _ => []), .bool false, .int .i64 0, .int .i64 0, .sl true 4 0 (fun _ => []), .sl true 2 0 (fun _ => []), .sl true 3 0 (fun _ => []), .sl true 5 0 (fun _ => []), .sl true 5 0 (fun _ => [])], aL 12 Zj ([] : List Zl), aL 2 Zw ([] : List Z2), aL 2 Z0 ([] : List Ya), aL 2 Yu r10]⟩) (JL (.cons Sub.rfl (.cons Sub.rfl .nil)) (.cons (.box (.cons CSub.rfl (.cons CSub.rfl (.cons CSub.rfl (.cons CSub.rfl (.cons (Gg rfl (G5 (f := fun i => Z0 (r6.getD i default)) (fun _ _ => rfl))) (.cons CSub.rfl (.cons CSub.rfl (.cons CSub.rfl (.cons CSub.rfl (.cons CSub.rfl (.cons CSub.rfl (.cons CSub.rfl (.cons CSub.rfl (.cons CSub.rfl (.cons CSub.rfl (.cons CSub.rfl (.cons CSub.rfl (.cons CSub.rfl (.cons CSub.rfl (.cons CSub.rfl (.cons CSub.rfl (.cons CSub.rfl (.cons CSub.rfl (.cons CSub.rfl (.cons CSub.rfl .nil)))))))))))))))))))))))))) (.cons .rfl (.cons .rfl (.cons .rfl (.cons .rfl (.cons .rfl .nil))))))) (Za (Za (zg [1, 2, 62, 63] 6 (Zb (Zg ?_))))))
 obtain ⟨y13, q33, h34⟩ := bind_some h28
 refine zl (fun (p11 : Int) => ⟨136, [(1, .ref 0 0), (2, .ref 1 0), (62, .int .i64 (r10.length : Int)), (63, .int .i64 p11)], [.box [.str a0.Xj, .int .i64 a0.GA, sL 12 Zj r1, sL 2 Zw r2, sL 2 Z0 r6, .asl 5 0 r10.length, sL 9 Z3 a0.Xa, sL 7 Z9 a0.Zq, .bool a0.Yi.Vz, .int .i64 a0.Yi.Xr, sL 3 Xz a0.Yi.Z4, sL 5 Zz a0.Yi.Zs, .bool a0.Yn.Vz, .int .i64 a0.Yn.Xr, .str a0.Yn.VS, .str a0.Yn.Y7, sL 5 Zz a0.Yn.Zs, .bool a0.Xs.Vz, .int .i64 a0.Xs.XX, .int .i64 a0.Xs.XY, sL 4 XK a0.Xs.Zm, sL 2 Xd a0.Xs.Z1, sL 3 XA a0.Xs.ZE, sL 5 Xt a0.Xs.Zt, sL 5 Zz a0.Xs.Zs], .box [.str (⟨#[]⟩ : ByteArray), .int .i64 0, .sl true 12 0 (fun _ => []), .sl true 2 0 (fun _ => []), .sl true 2 0 (fun _ => []), .sl true 2 0 (fun _ => []), .sl true 9 0 (fun _ => []), .sl true 7 0 (fun _ => []), .bool false, .int .i64 0, .sl true 3 0 (fun _ => []), .sl true 5 0 (fun _ => []), .bool false, .int .i64 0, .str (⟨#[]⟩ : ByteArray), .str (⟨#[]⟩ : ByteArray), .sl true 5 0 (fun _ => []), .bool false, .int .i64 0, .int .i64 0, .sl true 4 0 (fun _ => []), .sl true 2 0 (fun _ => []), .sl true 3 0 (fun _ => []), .sl true 5 0 (fun _ => []), .sl true 5 0 (fun _ => [])], aL 12 Zj ([] : List Zl), aL 2 Zw ([] : List Z2), aL 2 Z0 ([] : List Ya), aL 2 Yu r10]⟩) (fun z => OutE 4 (fun z => ⟨136, u1, [.box [.str a0.Xj, .int .i64 a0.GA, sL 12 Zj r1, sL 2 Zw r2, sL 2 Z0 r6, .asl 5 0 r10.length, sL 9 Z3 a0.Xa, sL 7 Z9 a0.Zq, .bool a0.Yi.Vz, .int .i64 a0.Yi.Xr, sL 3 Xz a0.Yi.Z4, sL 5 Zz a0.Yi.Zs, .bool a0.Yn.Vz, .int .i64 a0.Yn.Xr, .str a0.Yn.VS, .str a0.Yn.Y7, sL 5 Zz a0.Yn.Zs, .bool a0.Xs.Vz, .int .i64 a0.Xs.XX, .int .i64 a0.Xs.XY, sL 4 XK a0.Xs.Zm, sL 2 Xd a0.Xs.Z1, sL 3 XA a0.Xs.ZE, sL 5 Xt a0.Xs.Zt, sL 5 Zz a0.Xs.Zs], .box [.str (⟨#[]⟩ : ByteArray), .int .i64 0, .sl true 12 0 (fun _ => []), .sl true 2 0 (fun _ => []), .sl true 2 0 (fun _ => []), .sl true 2 0 (fun _ => []), .sl true 9 0 (fun _ => []), .sl true 7 0 (fun _ => []), .bool false, .int .i64 0, .sl true 3 0 (fun _ => []), .sl true 5 0 (fun _ => []), .bool false, .int .i64 0, .str (⟨#[]⟩ : ByteArray), .str (⟨#[]⟩ : ByteArray), .sl true 5 0 (fun _ => []), .bool false, .int .i64 0, .int .i64 0, .sl true 4 0 (fun _ => []), .sl true 2 0 (fun _ => []), .sl true 3 0 (fun _ => []), .sl true 5 0 (fun _ => []), .sl true 5 0 (fun _ => [])], aL 12 Zj ([] : List Zl), aL 2 Zw ([] : List Z2), aL 2 Z0 ([] : List Ya), aL 2 Yu r10]⟩) z) q33 ?_ ?_
 intro p11 y12 h29
 unfold M.Q7 at h29
 refine Za (zg [1, 2, 62, 63, 64] 6 (Zb (Za (cn h29 (fun _ h31 => ?_) (fun _ h32 => ?_)))))
 refine Ze (Zb (Za (Zg (Za ?_))))
 cases h31
 exact ZQ (Xh (re h32 ⟨rfl, kq⟩))
 intro e35 s36 o37
 refine zi o37 (Za (Wk (s' := ⟨136, u1, [.box [.str a0.Xj, .int .i64 a0.GA, sL 12 Zj r1, sL 2 Zw r2, sL 2 Z0 r6, .sl false 2 r10.length (fun k => (fun i => Yu (r10.getD i default)) (0 + k)), sL 9 Z3 a0.Xa, sL 7 Z9 a0.Zq, .bool a0.Yi.Vz, .int .i64 a0.Yi.Xr, sL 3 Xz a0.Yi.Z4, sL 5 Zz a0.Yi.Zs, .bool a0.Yn.Vz, .int .i64 a0.Yn.Xr, .str a0.Yn.VS, .str a0.Yn.Y7, sL 5 Zz a0.Yn.Zs, .bool a0.Xs.Vz, .int .i64 a0.Xs.XX, .int .i64 a0.Xs.XY, sL 4 XK a0.Xs.Zm, sL 2 Xd a0.Xs.Z1, sL 3 XA a0.Xs.ZE, sL 5 Xt a0.Xs.Zt, sL 5 Zz a0.Xs.Zs], .box [.str (⟨#[]⟩ : ByteArray), .int .i64 0, .sl true 12 0 (fun _ => []), .sl true 2 0 (fun _ => []), .sl true 2 0 (fun _ => []), .sl true 2 0 (fun _ => []), .sl true 9 0 (fun _ => []), .sl true 7 0 (fun _ => []), .bool false, .int .i64 0, .sl true 3 0 (fun _ => []), .sl true 5 0 (fun _ => []), .bool false, .int .i64 0, .str (⟨#[]⟩ : ByteArray), .str (⟨#[]⟩ : ByteArray), .sl true 5 0 (fun _ => []), .bool false, .int .i64 0, .int .i64 0, .sl true 4 0 (fun _ => []), .sl true 2 0 (fun _ => []), .sl true 3 0 (fun _ => []), .sl true 5 0 (fun _ => []), .sl true 5 0 (fun _ => [])], aL 12 Zj ([] : List Zl), aL 2 Zw ([] : List Z2), aL 2 Z0 ([] : List Ya), aL 2 Yu ([] : List Ud)]⟩) (Le.trans ((RF (s := ⟨136, u1, [.box [.str a0.Xj, .int .i64 a0.GA, sL 12 Zj r1, sL 2 Zw r2, sL 2 Z0 r6, .asl 5 0 r10.length, sL 9 Z3 a0.Xa, sL 7 Z9 a0.Zq, .bool a0.Yi.Vz, .int .i64 a0.Yi.Xr, sL 3 Xz a0.Yi.Z4, sL 5 Zz a0.Yi.Zs, .bool a0.Yn.Vz, .int .i64 a0.Yn.Xr, .str a0.Yn.VS, .str a0.Yn.Y7, sL 5 Zz a0.Yn.Zs, .bool a0.Xs.Vz, .int .i64 a0.Xs.XX, .int .i64 a0.Xs.XY, sL 4 XK a0.Xs.Zm, sL 2 Xd a0.Xs.Z1, sL 3 XA a0.Xs.ZE, sL 5 Xt a0.Xs.Zt, sL 5 Zz a0.Xs.Zs], .box [.str (⟨#[]⟩ : ByteArray), .int .i64 0, .sl true 12 0 (fun _ => []), .sl true 2 0 (fun _ => []), .sl true 2 0 (fun _ => []), .sl true 2 0 (fun _ => []), .sl true 9 0 (fun _ => []), .sl true 7 0 (fun _ => []), .bool false, .int .i64 0, .sl true 3 0 (fun _ => []), .sl true 5 0 (fun _ => []), .bool false, .int .i64 0, .str (⟨#[]⟩ : ByteArray), .str (⟨#[]⟩ : ByteArray), .sl true 5 0 (fun _ => []), .bool false, .int .i64 0, .int .i64 0, .sl true 4 0 (fun _ => []), .sl true 2 0 (fun _ => []), .sl true 3 0 (fun _ => []), .sl true 5 0 (fun _ => []), .sl true 5 0 (fun _ => [])], aL 12 Zj ([] : List Zl), aL 2 Zw ([] : List Z2), aL 2 Z0 ([] : List Ya), aL 2 Yu r10]⟩) (s' := ⟨136, u1, [.box [.str a0.Xj, .int .i64 a0.GA, sL 12 Zj r1, sL 2 Zw r2, sL 2 Z0 r6, .sl false 2 r10.length (fun k => (fun i => Yu (r10.getD i default)) (0 + k)), sL 9 Z3 a0.Xa, sL 7 Z9 a0.Zq, .bool a0.Yi.Vz, .int .i64 a0.Yi.Xr, sL 3 Xz a0.Yi.Z4, sL 5 Zz a0.Yi.Zs, .bool a0.Yn.Vz, .int .i64 a0.Yn.Xr, .str a0.Yn.VS, .str a0.Yn.Y7, sL 5 Zz a0.Yn.Zs, .bool a0.Xs.Vz, .int .i64 a0.Xs.XX, .int .i64 a0.Xs.XY, sL 4 XK a0.Xs.Zm, sL 2 Xd a0.Xs.Z1, sL 3 XA a0.Xs.ZE, sL 5 Xt a0.Xs.Zt, sL 5 Zz a0.Xs.Zs], .box [.str (⟨#[]⟩ : ByteArray), .int .i64 0, .sl true 12 0 (fun _ => []), .sl true 2 0 (fun _ => []), .sl true 2 0 (fun _ => []), .sl true 2 0 (fun _ => []), .sl true 9 0 (fun _ => []), .sl true 7 0 (fun _ => []), .bool false, .int .i64 0, .sl true 3 0 (fun _ => []), .sl true 5 0 (fun _ => []), .bool false, .int .i64 0, .str (⟨#[]⟩ : ByteArray), .str (⟨#[]⟩ : ByteArray), .sl true 5 0 (fun _ => []), .bool false, .int .i64 0, .int .i64 0, .sl true 4 0 (fun _ => []), .sl true 2 0 (fun _ => []), .sl true 3 0 (fun _ => []), .sl true 5 0 (fun _ => []), .sl true 5 0 (fun _ => [])], aL 12 Zj ([] : List Zl), aL 2 Zw ([] : List Z2), aL 2 Z0 ([] : List Ya), aL 2 Yu ([] : List Ud)]⟩) 5 2 r10.length (fun i => Yu (r10.getD i default)) (fun i => Yu (([] : List Ud).getD i default)) (by kernel_rfl) (by kernel_rfl) (by kernel_rfl))) (kp [1, 2])) ?_))
 obtain ⟨r14, q39, h40⟩ := bind_some h34
 refine rg [.pure (sL 9 Z3 r14)] [1, 2] 2 ⟨136, u1, [.box [.str a0.Xj, .int .i64 a0.GA, sL 12 Zj r1, sL 2 Zw r2, sL 2 Z0 r6, .sl false 2 r10.length (fun k => (fun i => Yu (r10.getD i default)) (0 + k)), sL 9 Z3 r14, sL 7 Z9 a0.Zq, .bool a0.Yi.Vz, .int .i64 a0.Yi.Xr, sL 3 Xz a0.Yi.Z4, sL 5 Zz a0.Yi.Zs, .bool a0.Yn.Vz, .int .i64 a0.Yn.Xr, .str a0.Yn.VS, .str a0.Yn.Y7, sL 5 Zz a0.Yn.Zs, .bool a0.Xs.Vz, .int .i64 a0.Xs.XX, .int .i64 a0.Xs.XY, sL 4 XK a0.Xs.Zm, sL 2 Xd a0.Xs.Z1, sL 3 XA a0.Xs.ZE, sL 5 Xt a0.Xs.Zt, sL 5 Zz a0.Xs.Zs], .box [.str (⟨#[]⟩ : ByteArray), .int .i64 0, .sl true 12 0 (fun _ => []), .sl true 2 0 (fun _ => []), .sl true 2 0 (fun _ => []), .sl true 2 0 (fun _ => []), .sl true 9 0 (fun _ => []), .sl true 7 0 (fun _ => []), .bool false, .int .i64 0, .sl true 3 0 (fun _ => []), .sl true 5 0 (fun _ => []), .bool false, .int .i64 0, .str (⟨#[]⟩ : ByteArray), .str (⟨#[]⟩ : ByteArray), .sl true 5 0 (fun _ => []), .bool false, .int .i64 0, .int .i64 0, .sl true 4 0 (fun _ => []), .sl true 2 0 (fun _ => []), .sl true 3 0 (fun _ => []), .sl true 5 0 (fun _ => []), .sl true 5 0 (fun _ => [])]]⟩ [] [⟨true, 120, [sL 9 Z3 a0.Xa], .pure (sL 9 Z3 r14)⟩] Zx ⟨fun _ => Wu a0.Xa r14 q39, trivial⟩ (Xo (s' := ⟨136, u1, [.box [.str a0.Xj, .int .i64 a0.GA, sL 12 Zj r1, sL 2 Zw r2, sL 2 Z0 r6, sL 2 Yu r10, sL 9 Z3 r14, sL 7 Z9 a0.Zq, .bool a0.Yi.Vz, .int .i64 a0.Yi.Xr, sL 3 Xz a0.Yi.Z4, sL 5 Zz a0.Yi.Zs, .bool a0.Yn.Vz, .int .i64 a0.Yn.Xr, .str a0.Yn.VS, .str a0.Yn.Y7, sL 5 Zz a0.Yn.Zs, .bool a0.Xs.Vz, .int .i64 a0.Xs.XX, .int .i64 a0.Xs.XY, sL 4 XK a0.Xs.Zm, sL 2 Xd a0.Xs.Z1, sL 3 XA a0.Xs.ZE, sL 5 Xt a0.Xs.Zt, sL 5 Zz a0.Xs.Zs], .box [.str (⟨#[]⟩ : ByteArray), .int .i64 0, .sl true 12 0 (fun _ => []), .sl true 2 0 (fun _ => []), .sl true 2 0 (fun _ => []), .sl true 2 0 (fun _ => []), .sl true 9 0 (fun _ => []), .sl true 7 0 (fun _ => []), .bool false, .int .i64 0, .sl true 3 0 (fun _ => []), .sl true 5 0 (fun _ => []), .bool false, .int .i64 0, .str (⟨#[]⟩ : ByteArray), .str (⟨#[]⟩ : ByteArray), .sl true 5 0 (fun _ => []), .bool false, .int .i64 0, .int .i64 0, .sl true 4 0 (fun _ => []), .sl true 2 0 (fun _ => []), .sl true 3 0 (fun _ => []), .sl true 5 0 (fun _ => []), .sl true 5 0 (fun _ => [])]]⟩) (JL (.cons Sub.rfl (.cons Sub.rfl .nil)) (.cons (.box (.cons CSub.rfl (.cons CSub.rfl (.cons CSub.rfl (.cons CSub.rfl (.cons CSub.rfl (.cons (Gg rfl (G5 (f := fun i => Yu (r10.getD i default)) (fun _ _ => rfl))) (.cons CSub.rfl (.cons CSub.rfl (.cons CSub.rfl (.cons CSub.rfl (.cons CSub.rfl (.cons CSub.rfl (.cons CSub.rfl (.cons CSub.rfl (.cons CSub.rfl (.cons CSub.rfl (.cons CSub.rfl (.cons CSub.rfl (.cons CSub.rfl (.cons CSub.rfl (.cons CSub.rfl (.cons CSub.rfl (.cons CSub.rfl (.cons CSub.rfl (.cons CSub.rfl .nil)))))))))))))))))))))))))) (.cons .rfl .nil))) (Za ?_))
 obtain ⟨r15, q41, h42⟩ := bind_some h40
 refine zr [1, 2] 2 Zx (rq1 (Wv _ _ q41) rqn) (Zb (Za ?_))
 obtain ⟨r16, q43, h44⟩ := bind_some h42
 refine zr [1, 2] 2 Zx (rq1 (WU _ _ q43) rqn) (Zb (Za ?_))
 obtain ⟨r17, q45, h46⟩ := bind_some h44
 refine zr [1, 2] 2 Zx (rq1 (Jl _ _ q45) rqn) (Zb (Za ?_))
 obtain ⟨r18, q47, h48⟩ := bind_some h46
 refine zr [1, 2] 2 Zx (rq1 (Jl _ _ q47) rqn) (Zb (Za ?_))
 obtain ⟨r19, q49, h50⟩ := bind_some h48
 refine zr [1, 2] 2 Zx (rq1 (Uf _ _ q49) rqn) (Zb (Za ?_))
 obtain ⟨r20, q51, h52⟩ := bind_some h50
 refine zr [1, 2] 2 Zx (rq1 (UB _ _ q51) rqn) (Zb (Za ?_))
 obtain ⟨r21, q53, h54⟩ := bind_some h52
 refine zr [1, 2] 2 Zx (rq1 (WV _ _ q53) rqn) (Zb (Za ?_))
 obtain ⟨r22, q55, h56⟩ := bind_some h54
 refine zr [1, 2] 2 Zx (rq1 (WW _ _ q55) rqn) (Zb (Za ?_))
 obtain ⟨r23, q57, h58⟩ := bind_some h56
 refine zr [1, 2] 2 Zx (rq1 (Jl _ _ q57) rqn) (Zb (Za (zg [2] 2 (Zb (Zi ?_)))))
 obtain rfl := Option.some.inj h58
 exact er0 (.agg [.str a0.Xj, .int .i64 a0.GA, sL 12 Zj r1, sL 2 Zw r2, sL 2 Z0 r6, sL 2 Yu r10, sL 9 Z3 r14, sL 7 Z9 r15, .bool a0.Yi.Vz, .int .i64 a0.Yi.Xr, sL 3 Xz r16, sL 5 Zz r17, .bool a0.Yn.Vz, .int .i64 a0.Yn.Xr, .str a0.Yn.VS, .str a0.Yn.Y7, sL 5 Zz r18, .bool a0.Xs.Vz, .int .i64 a0.Xs.XX, .int .i64 a0.Xs.XY, sL 4 XK r19, sL 2 Xd r20, sL 3 XA r21, sL 5 Xt r22, sL 5 Zz r23])
theorem ZaG (a0 : ZB) (r : ZB) (h : M.Jj a0 = some r) : Fn Tryz.prog 48 [.agg (XH a0)] (.pure (.agg (XH r))) := by
 let u1 := XH a0
 unfold M.Jj at h
 refine ZS Tryz.func48 rfl (by kernel_rfl) (Za (zg [1, 2] 2 (Zb (Za ?_))))
 obtain ⟨r1, q1, h2⟩ := bind_some h
 refine rg [oL 25 Zp r1] [2, 3] 3 ⟨24, [(2, .ref 1 0), (3, .asl 2 0 r1.length)], [.box u1, .box [.sl true 25 0 (fun _ => [])], aL 25 Zp r1]⟩ [] [⟨true, 68, [sL 25 Zp a0.Zd], oL 25 Zp r1⟩] Zx ⟨fun _ => Us a0.Zd r1 q1, trivial⟩ (Zb (Za (Za (zg [2, 3, 9, 10] 3 (Zb (Zg ?_))))))
 obtain ⟨y5, q11, h12⟩ := bind_some h2
 refine zl (fun (p2 : (List Zf) × Int) => ⟨24, [(2, .ref 1 0), (3, .asl 2 0 p2.1.length), (9, .int .i64 (r1.length : Int)), (10, .int .i64 p2.2)], [.box u1, .box [.sl true 25 0 (fun _ => [])], aL 25 Zp p2.1]⟩) (fun z => OutE 0 (fun z => ⟨24, [(2, .ref 1 0), (3, .asl 2 0 z.length)], [.box u1, .box [.sl true 25 0 (fun _ => [])], aL 25 Zp z]⟩) z) q11 ?_ ?_
 intro p2 y3 h3
 unfold M.QI at h3
 refine Za (zg [2, 3, 9, 10, 11] 3 (Zb (Za (cn h3 (fun _ h5 => ?_) (fun _ h6 => ?_)))))
 refine Ze (Zb (Za (Zg (Za (zg [2, 3, 4, 9, 10] 3 (Zb ?_))))))
 obtain ⟨r4, q7, h8⟩ := bind_some h5
 obtain ⟨c9, h10⟩ := Zr h8
 exact rg [.pure (.agg (Zp r4))] [2, 3, 9, 10] 3 ⟨24, [(2, .ref 1 0), (3, .asl 2 0 p2.1.length), (9, .int .i64 (r1.length : Int)), (10, .int .i64 p2.2)], [.box (XH a0), .box [.sl true 25 0 (fun _ => [])], .arr 25 p2.1.length (fun j => bif Nat.beq j (0 + p2.2.toNat) then splice (Zp (p2.1.getD (0 + p2.2.toNat) default)) [.str r4.Xj, .int .i64 r4.GA, sL 12 Zj r4.Zc, sL 2 Zw r4.Yv, sL 2 Z0 r4.XE, sL 2 Yu r4.YD, sL 9 Z3 r4.Xa, sL 7 Z9 r4.Zq, .bool r4.Yi.Vz, .int .i64 r4.Yi.Xr, sL 3 Xz r4.Yi.Z4, sL 5 Zz r4.Yi.Zs, .bool r4.Yn.Vz, .int .i64 r4.Yn.Xr, .str r4.Yn.VS, .str r4.Yn.Y7, sL 5 Zz r4.Yn.Zs, .bool r4.Xs.Vz, .int .i64 r4.Xs.XX, .int .i64 r4.Xs.XY, sL 4 XK r4.Xs.Zm, sL 2 Xd r4.Xs.Z1, sL 3 XA r4.Xs.ZE, sL 5 Xt r4.Xs.Zt, sL 5 Zz r4.Xs.Zs] 0 else Zp (p2.1.getD j default))]⟩ [decide (0 ≤ p2.2), decide (p2.2 < (p2.1.length : Int)), decide (0 ≤ p2.2), decide (p2.2 < (p2.1.length : Int))] [⟨true, 69, [.agg (Zp (p2.1.getD (0 + p2.2.toNat) default))], .pure (.agg (Zp r4))⟩] c9 ⟨fun _ => Zbp (p2.1.getD (0 + p2.2.toNat) default) r4 q7, trivial⟩ (XO (Xo (s' := ⟨24, [(2, .ref 1 0), (3, .asl 2 0 ((p2.1.set (0 + p2.2.toNat) r4).length)), (9, .int .i64 (r1.length : Int)), (10, .int .i64 p2.2)], [.box (XH a0), .box [.sl true 25 0 (fun _ => [])], aL 25 Zp (p2.1.set (0 + p2.2.toNat) r4)]⟩) (JL (.cons Sub.rfl (.cons (Wo (by simp)) (.cons Sub.rfl (.cons Sub.rfl .nil)))) (.cons .rfl (.cons .rfl (.cons (.arr (by simp) (ZbQ Zp p2.1 (0 + p2.2.toNat) r4 _ rfl)) .nil)))) (zg [2, 3, 9, 10] 3 (rn h10))))
 exact ZQ (Xh (re h6 ⟨rfl, kq⟩))
 intro e13 s14 o15
 refine zi o15 (Za (Wk (s' := ⟨24, [(2, .ref 1 0), (3, sL 25 Zp y5)], [.box u1, .box [.sl true 25 0 (fun _ => [])], aL 25 Zp ([] : List Zf)]⟩) (Le.trans (Zjy 3 2 25 Zp y5 (fun i => Zp (([] : List Zf).getD i default)) (by kernel_rfl) (by kernel_rfl) (by kernel_rfl)) (kp [2, 3])) (zg [2] 2 (Zb (Zi ?_)))))
 obtain rfl := Option.some.inj h12
 exact er0 (.agg [sL 25 Zp y5])
theorem KG (a0 : List Int) (r : List Int) (h : M.Y6 a0 = some r) : Fn Tryz.prog 49 [sL 1 (ci .i64) a0] (.pure (sL 1 (ci .i64) r)) := by
 unfold M.Y6 at h
 obtain ⟨hc, h1⟩ := Zr h
 obtain rfl := Option.some.inj h1
 refine ZS Tryz.func49 rfl (by kernel_rfl) (Za (zg [0] 0 (Zb (Za (Za (zg [0, 4] 0 (Zb (nq a0.length (fun hz => ?_) ?_))))))))
 exact Za (zg [2] 0 (Zb (Zi (Zk (er (.sl false 1 0 (fun _ => [])) (UY hz))))))
 exact Ze (Zb (Za (zc [2] 1 hc (Zb (Zi (er (.sl false 1 (0 + a0.length) (fun i => (app (fun i => List.take 1 (List.drop (i * 1) [])) 0 (fun i => (ci .i64) (a0.getD i default))) (0 + i))) (Gb (Nat.zero_add _) (fun i hi => by rw [Nat.zero_add]; exact WY (ci .i64) _ a0 _ (fun _ _ => rfl) i hi))))))))
theorem Zcm (a0 : ZB) (a1 : List Int) (r : Xq × Int) (h : M.WQ a0 a1 = some r) : Fn Tryz.prog 16 [.agg (XH a0), sL 1 (ci .i64) a1] (.pure (.tup [.agg (XI r.1), .int .i64 r.2])) := by
 let u2 := XH a0
 unfold M.WQ at h
 refine ZS Tryz.func16 rfl (by kernel_rfl) (Za (zg [1, 2, 4] 2 (Zb (Za ?_))))
 obtain ⟨r1, q1, h2⟩ := bind_some h
 let u1 : List Ob := [.box u2, .box [.sl true 25 0 (fun _ => []), .sl true 4 0 (fun _ => []), .sl true 1 0 (fun _ => []), .sl true 1 0 (fun _ => [])], .box (G7 r1.1)]
 refine zr [1, 2, 4, 6, 7] 3 Zx (rq1 (Ze4 _ _ q1) rqn) (Zb (Za (Za (zg [1, 2, 4, 6, 7, 16] 3 (Zb (cn h2 (fun _ h4 => ?_) (fun _ h5 => ?_)))))))
 refine Za ?_
 cases h4
 refine Ze (Zb (Za (Za (zg [1, 2, 4, 6, 21] 3 (Zb (cn h5 (fun _ h7 => ?_) (fun _ h8 => ?_)))))))
 refine Za ?_
 cases h7
 refine Ze (Zb (Za (Za (zg [1, 2, 4, 6, 23, 24, 25] 3 (Zb (Zg ?_))))))
 obtain ⟨y4, q20, h21⟩ := bind_some h8
 refine zl (fun (p2 : Int) => ⟨60, [(1, sL 1 (ci .i64) a1), (2, .ref 0 0), (4, .ref 1 0), (6, .ref 2 0), (23, sL 1 (ci .i64) a1), (24, .int .i64 (a1.length : Int)), (25, .int .i64 p2)], u1⟩) (fun z => OutE 0 (fun z => ⟨60, [(1, sL 1 (ci .i64) a1), (2, .ref 0 0), (4, .ref 1 0), (6, .ref 2 0)], u1⟩) z) q20 ?_ ?_
 intro p2 y3 h9
 unfold M.Ws at h9
 refine Za (zg [1, 2, 4, 6, 23, 24, 25, 26] 3 (Zb (Za (cn h9 (fun _ h11 => ?_) (fun _ h12 => ?_)))))
 refine Ze (Zb (Za (Zg (Za ?_))))
 obtain ⟨c13, h14⟩ := Zr h11
 refine zc [1, 2, 4, 6, 8, 9, 23, 24, 25] 3 c13 (Zb (Za ?_))
 obtain ⟨c15, h16⟩ := Zr h14
 refine zc [1, 2, 4, 6, 23, 24, 25, 51] 3 c15 (Zb (cn h16 (fun _ h18 => ?_) (fun _ h19 => ?_)))
 refine Za ?_
 cases h18
 exact Ze (XO (Zb (zg [1, 2, 4, 6, 23, 24, 25] 3 (rn h19))))
 exact ZQ (Xh (re h12 ⟨rfl, kq⟩))
 intro e22 s23 o24
 refine zi o24 (Za ?_)
 obtain ⟨r5, q26, h27⟩ := bind_some h21
 obtain ⟨r6, q28, h29⟩ := bind_some h27
 refine rgw [.pure (.agg (XH r5)), .pure (sL 1 (ci .i64) r6)] [4, 5] 2 ⟨60, [(4, .ref 1 0), (5, .int .i64 0)], [.box u2, .box [sL 25 Zp r5.Zd, sL 4 ZF r1.1.Zv, sL 1 (ci .i64) r1.1.XB, sL 1 (ci .i64) r6]]⟩ [] [⟨true, 48, [.agg u2], .pure (.agg (XH r5))⟩, ⟨true, 49, [sL 1 (ci .i64) a1], .pure (sL 1 (ci .i64) r6)⟩] Zx ⟨fun _ => ZaG a0 r5 q26, fun _ => KG a1 r6 q28, trivial⟩ (Zb (Zi ?_))
 obtain rfl := Option.some.inj h29
 exact er0 (.tup [.agg [sL 25 Zp r5.Zd, sL 4 ZF r1.1.Zv, sL 1 (ci .i64) r1.1.XB, sL 1 (ci .i64) r6], .int .i64 0])
theorem U9 (a0 : List Qo) (a1 : Qo) (r : Int) (h : M.X2 a0 a1 = some r) : Fn Tryz.prog 72 [sL 2 ZY a0, .agg (ZY a1)] (.pure (.int .i64 r)) := by
 unfold M.X2 at h
 refine ZS Tryz.func72 rfl (by kernel_rfl) (Za (zg [0, 3] 1 (Zb (Za (Za (zg [0, 3, 7, 8] 1 (Zb (Zg ?_))))))))
 obtain ⟨y3, q10, h11⟩ := bind_some h
 refine zl (fun (p1 : Int) => ⟨19, [(0, sL 2 ZY a0), (3, .ref 0 0), (7, .int .i64 (a0.length : Int)), (8, .int .i64 p1)], [.box (ZY a1)]⟩) (Sum.elim (fun z => OutE 0 (fun z => ⟨19, [], []⟩) z) (fun z => OutR Tryz.prog Tryz.f72 (.int .i64 z))) q10 ?_ ?_
 intro p1 y2 h1
 unfold M.X0 at h1
 refine Za (zg [0, 3, 7, 8, 9] 1 (Zb (Za (cn h1 (fun _ h3 => ?_) (fun _ h4 => ?_)))))
 refine Ze (Zb (Za (Zg (Za (zg [0, 3, 5, 7, 8] 1 (Zb (Za ?_)))))))
 obtain ⟨c5, h6⟩ := Zr h3
 refine zc [0, 3, 5, 7, 8, 16] 1 c5 (Zb (cn h6 (fun _ h8 => ?_) (fun _ h9 => ?_)))
 exact Za (zg [4] 0 (Zb (Zi (Z7 (Zk (rr h8 ⟨rfl, er0 _⟩))))))
 exact Ze (XO (Zb (zg [0, 3, 7, 8] 1 (rn h9))))
 exact ZQ (Xh (re h4 ⟨rfl, kc⟩))
 intro e12 s13 o14
 rcases y3 with g4 | y5
 have h15 := X8 h11
 exact zi o14 (Za (zg [4] 0 (Zb (Zi (er1 h15)))))
 have h16 := X9 h11
 obtain ⟨rfl, n18⟩ := o14
 refine Z7 (Zk ?_)
 obtain rfl := Option.some.inj h16
 exact n18
theorem UL (a0 : List Qo) (a1 : Qo) (r : Bool) (h : M.XT a0 a1 = some r) : Fn Tryz.prog 54 [sL 2 ZY a0, .agg (ZY a1)] (.pure (.bool r)) := by
 unfold M.XT at h
 refine ZS Tryz.func54 rfl (by kernel_rfl) (Za (zg [0, 3] 1 (Zb (Za ?_))))
 obtain ⟨r1, q1, h2⟩ := bind_some h
 exact zr [4] 0 Zx (rq1 (U9 _ _ _ q1) rqn) (Zb (Zi (er1 h2)))
theorem R7 (a0 : Xq) (a1 : Int) (a2 : Int) (r : Int) (h : M.VH a0 a1 a2 = some r) : Fn Tryz.prog 25 [.agg (XI a0), .int .i64 a1, .int .i64 a2] (.pure (.int .i64 r)) := by
 unfold M.VH at h
 refine ZS Tryz.func25 rfl (by kernel_rfl) (Za (zg [1, 2, 3] 1 (Zb (Za (zg [3, 7] 2 (Zb (Za (Za (zg [7, 15, 16, 17] 2 (Zb (Zg ?_)))))))))))
 obtain ⟨y4, q12, h13⟩ := bind_some h
 refine zl (fun (p1 : Int) => ⟨28, [(7, .ref 1 0), (15, sL 4 ZF a0.ZV.Zv), (16, .int .i64 (a0.ZV.Zv.length : Int)), (17, .int .i64 p1)], [.box (XI a0), .box [.int .i64 a1, .int .i64 a2]]⟩) (Sum.elim (fun z => OutE 0 (fun z => ⟨28, [], []⟩) z) (fun z => OutR Tryz.prog Tryz.f25 (.int .i64 z))) q12 ?_ ?_
 intro p1 y2 h1
 unfold M.VG at h1
 refine Za (zg [7, 15, 16, 17, 18] 2 (Zb (Za (cn h1 (fun _ h3 => ?_) (fun _ h4 => ?_)))))
 refine Ze (Zb (Za (Zg (Za ?_))))
 obtain ⟨c5, h6⟩ := Zr h3
 refine zc [7, 8, 9, 15, 16, 17] 3 c5 (Zb (Za ?_))
 obtain ⟨r3, q7, h8⟩ := bind_some h6
 refine zr [7, 8, 15, 16, 17, 25] 2 Zx (rq1 (UL _ _ _ q7) rqn) (Zb (cn h8 (fun _ h10 => ?_) (fun _ h11 => ?_)))
 exact Za (zg [6] 0 (Zb (Zi (Z7 (Zk (rr h10 ⟨rfl, er0 _⟩))))))
 exact Ze (XO (Zb (zg [7, 15, 16, 17] 2 (rn h11))))
 exact ZQ (Xh (re h4 ⟨rfl, kc⟩))
 intro e14 s15 o16
 rcases y4 with g5 | y6
 have h17 := X8 h13
 refine zi o16 (Za ?_)
 cases h17
 have h18 := X9 h13
 obtain ⟨rfl, n20⟩ := o16
 refine Z7 (Zk ?_)
 obtain rfl := Option.some.inj h18
 exact n20
theorem Zf4 (a0 : Xq) (a1 : Int) (a2 : Int) (r : Int) (h : M.Uz a0 a1 a2 = some r) : Fn Tryz.prog 27 [.agg (XI a0), .int .i64 a1, .int .i64 a2] (.pure (.int .i64 r)) := by
 unfold M.Uz at h
 refine ZS Tryz.func27 rfl (by kernel_rfl) (Za (zg [1, 2, 3] 1 (Zb (Za ?_))))
 obtain ⟨r1, q1, h2⟩ := bind_some h
 refine zr [3, 7] 1 Zx (rq1 (R7 _ _ _ _ q1) rqn) (Zb (Za (Za (zg [3, 7, 13] 1 (Zb (cn h2 (fun _ h4 => ?_) (fun _ h5 => ?_)))))))
 refine Za ?_
 cases h4
 refine Ze (Zb (Za ?_))
 obtain ⟨r2, q6, h7⟩ := bind_some h5
 exact zr [6] 0 Zx (rq1 (UP _ _ _ q6) rqn) (Zb (Zi (er1 h7)))
theorem Zbq (a0 : Xq) (a1 : Int) (a2 : Int) (r : Bool) (h : M.UA a0 a1 a2 = some r) : Fn Tryz.prog 29 [.agg (XI a0), .int .i64 a1, .int .i64 a2] (.pure (.bool r)) := by
 unfold M.UA at h
 refine ZS Tryz.func29 rfl (by kernel_rfl) (Za (zg [1, 2, 3] 1 (Zb (Za (Za ?_)))))
 obtain ⟨r1, q1, h2⟩ := bind_some h
 refine zr [1, 2, 3, 12] 1 Zx (rq1 (R7 _ _ _ _ q1) rqn) (Zb (cn h2 (fun _ h4 => ?_) (fun _ h5 => ?_)))
 refine Za ?_
 cases h4
 refine Ze (Zb (Za ?_))
 obtain ⟨r2, q6, h7⟩ := bind_some h5
 refine zr [3, 7] 1 Zx (rq1 (Zf4 _ _ _ _ q6) rqn) (Zb (Za ?_))
 obtain ⟨r3, q8, h9⟩ := bind_some h7
 exact zr [6] 0 Zx (rq2 (fun hg => Ur _ _ _ (XR q8 hg)) rqn) (Zb (Zi (er1 h9)))
theorem Za0  (r : Bool) (h : M.Wx  = some r) : Fn Tryz.prog 15 [] (.pure (.bool r)) := by
 unfold M.Wx at h
 refine ZS Tryz.func15 rfl (by kernel_rfl) (Za (zg [] 0 (Zb (Za ?_))))
 obtain ⟨r1, q1, h2⟩ := bind_some h
 let u1 := XH r1
 obtain ⟨r2, q3, h4⟩ := bind_some h2
 refine rg [.pure (.agg u1), .pure (.tup [.agg (XI r2.1), .int .i64 r2.2])] [1, 2] 1 ⟨49, [(1, .ref 0 0), (2, .int .i64 r2.2)], [.box (XI r2.1)]⟩ [] [⟨true, 47, [], .pure (.agg u1)⟩, ⟨true, 16, [.agg u1, .nils], .pure (.tup [.agg (XI r2.1), .int .i64 r2.2])⟩] Zx ⟨fun _ => ZaY  r1 q1, fun _ => (Zcm r1 ([] : List Int) r2 q3).args (.cons ASub.rfl (.cons Zfi .nil)), trivial⟩ (Zb (Za ?_))
 obtain ⟨r3, q5, h6⟩ := bind_some h4
 obtain ⟨r4, q7, h8⟩ := bind_some h6
 refine rg [.pure (.agg (XH r3)), .pure (.tup [.agg (XI r4.1), .int .i64 r4.2])] [1, 2, 3, 4] 2 ⟨49, [(1, .ref 0 0), (2, .int .i64 r2.2), (3, .ref 1 0), (4, .int .i64 r4.2)], [.box (XI r2.1), .box (XI r4.1)]⟩ [] [⟨true, 47, [], .pure (.agg (XH r3))⟩, ⟨true, 16, [.agg (XH r3), .sl false 1 1 (fun i => List.take 1 (List.drop (i * 1) [.int .i64 0]))], .pure (.tup [.agg (XI r4.1), .int .i64 r4.2])⟩] Zx ⟨fun _ => ZaY  r3 q5, fun _ => (Zcm r3 ([0] : List Int) r4 q7).args (.cons ASub.rfl (.cons (ZfH rfl (fun i hi => match i, hi with | 0, _ => rfl | n + 1, h => absurd h (by omega))) .nil)), trivial⟩ (Zb (Za ?_))
 obtain ⟨r5, q9, h10⟩ := bind_some h8
 obtain ⟨r6, q11, h12⟩ := bind_some h10
 obtain ⟨r7, q13, h14⟩ := bind_some h12
 exact zr [0] 0 Zx (rq2 (fun hg => Zbq _ _ _ _ (XR q9 hg)) (rq2 (fun hg => Zbq _ _ _ _ (XR q11 hg)) (rq2 (fun hg => Zbq _ _ _ _ (XR q13 hg)) rqn))) (Zb (Zi (er1 h14)))
theorem KH (a0 : ZB) (a1 : Int) (r : Bool) (h : M.Wt a0 a1 = some r) : Fn Tryz.prog 10 [.agg (XH a0), .int .i64 a1] (.pure (.bool r)) := by
 unfold M.Wt at h
 refine ZS Tryz.func10 rfl (by kernel_rfl) (Za (zg [1, 2] 1 (Zb (Za ?_))))
 obtain ⟨r1, q1, h2⟩ := bind_some h
 refine rg [.pure (.tup [.agg (XI r1.1), .bool r1.2])] [1, 2, 5, 6] 2 ⟨85, [(1, .int .i64 a1), (2, .ref 0 0), (5, .ref 1 0), (6, .bool r1.2)], [.box (XH a0), .box (XI r1.1)]⟩ [] [⟨true, 22, [.agg (XH a0), .nils], .pure (.tup [.agg (XI r1.1), .bool r1.2])⟩] Zx ⟨fun _ => (ZaX a0 ([] : List Int) r1 q1).args (.cons ASub.rfl (.cons Zfi .nil)), trivial⟩ (Zb (Za (Za (zg [1, 2, 5, 18] 2 (Zb (cn h2 (fun _ h4 => ?_) (fun _ h5 => ?_)))))))
 exact Za (zg [4] 0 (Zb (Zi (Zk (er1 h4)))))
 refine Ze (Zb (Za ?_))
 obtain ⟨r2, q6, h7⟩ := bind_some h5
 refine zr [1, 2, 5, 7] 2 Zx (rq1 (GN _ _ q6) rqn) (Zb (Za (Za ?_)))
 obtain ⟨r3, q8, h9⟩ := bind_some h7
 obtain ⟨r4, q10, h11⟩ := bind_some h9
 refine zr [1, 2, 7, 25] 1 Zx (rq1 (Gx _ _ q8) (rq1 (Zch _ _ _ q10) rqn)) (Zb (cn h11 (fun _ h13 => ?_) (fun _ h14 => ?_)))
 exact Za (zg [4] 0 (Zb (Zi (Zk (er1 h13)))))
 refine Ze (Zb (Za ?_))
 obtain ⟨r5, q15, h16⟩ := bind_some h14
 refine rg [.pure (.tup [.agg (XI r5.1), .bool r5.2])] [7, 8, 9] 2 ⟨85, [(7, sL 1 (ci .i64) r2), (8, .ref 1 0), (9, .bool r5.2)], [.box (XH a0), .box (XI r5.1)]⟩ [] [⟨true, 22, [.agg (XH a0), .sl false 1 1 (fun i => List.take 1 (List.drop (i * 1) [.int .i64 a1]))], .pure (.tup [.agg (XI r5.1), .bool r5.2])⟩] Zx ⟨fun _ => (ZaX a0 ([a1] : List Int) r5 q15).args (.cons ASub.rfl (.cons (ZfH rfl (fun i hi => match i, hi with | 0, _ => rfl | n + 1, h => absurd h (by omega))) .nil)), trivial⟩ (Zb (Za (Za (zg [7, 8, 34] 2 (Zb (cn h16 (fun _ h18 => ?_) (fun _ h19 => ?_)))))))
 refine Za ?_
 obtain ⟨r6, q20, h21⟩ := bind_some h18
 exact rg [.pure (.bool r6)] [4] 0 ⟨85, [(4, .bool r6)], []⟩ [] [⟨true, 15, [], .pure (.bool r6)⟩] Zx ⟨fun _ => Za0  r6 q20, trivial⟩ (Zb (Zi (Zk (er1 h21))))
 refine Ze (Zb (Za ?_))
 obtain ⟨r7, q22, h23⟩ := bind_some h19
 refine zr [7, 8, 10] 2 Zx (rq1 (GN _ _ q22) rqn) (Zb (Za (Za ?_)))
 obtain ⟨r8, q24, h25⟩ := bind_some h23
 obtain ⟨r9, q26, h27⟩ := bind_some h25
 refine zr [7, 10, 49] 0 Zx (rq1 (Gx _ _ q24) (rq1 (Zch _ _ _ q26) rqn)) (Zb (cn h27 (fun _ h29 => ?_) (fun _ h30 => ?_)))
 exact Za (zg [4] 0 (Zb (Zi (Zk (er1 h29)))))
 refine Ze (Zb (Za (Za (zg [7, 10, 11] 0 (Zb (Zg ?_))))))
 obtain ⟨y12, q40, h41⟩ := bind_some h30
 refine zl (fun (p10 : Int) => ⟨85, [(7, sL 1 (ci .i64) r2), (10, sL 1 (ci .i64) r7), (11, .int .i64 p10)], []⟩) (Sum.elim (fun z => OutE 0 (fun z => ⟨85, [], []⟩) z) (fun z => OutR Tryz.prog Tryz.f10 (.bool z))) q40 ?_ ?_
 intro p10 y11 h31
 unfold M.QX at h31
 refine Za (Za (zg [7, 10, 11, 53] 0 (Zb (cn h31 (fun _ h33 => ?_) (fun _ h34 => ?_)))))
 refine Ze (Zb (Za (Zg (Za ?_))))
 obtain ⟨c35, h36⟩ := Zr h33
 refine zc [7, 10, 11, 83] 0 c35 (Zb (cn h36 (fun _ h38 => ?_) (fun _ h39 => ?_)))
 exact Za (zg [4] 0 (Zb (Zi (Z7 (Zk (rr h38 ⟨rfl, er0 _⟩))))))
 exact Ze (XO (Zb (zg [7, 10, 11] 0 (rn h39))))
 exact ZQ (Xh (re h34 ⟨rfl, kq⟩))
 intro e42 s43 o44
 rcases y12 with g13 | y14
 have h45 := X8 h41
 refine zi o44 (Za ?_)
 obtain ⟨r15, q48, h49⟩ := bind_some h45
 exact rg [.pure (.bool r15)] [4] 0 ⟨85, [(4, .bool r15)], []⟩ [] [⟨true, 15, [], .pure (.bool r15)⟩] Zx ⟨fun _ => Za0  r15 q48, trivial⟩ (Zb (Zi (er1 h49)))
 have h46 := X9 h41
 obtain ⟨rfl, n50⟩ := o44
 refine Z7 (Zk ?_)
 obtain rfl := Option.some.inj h46
 exact n50
end Nv
