/- The walks: each function computes its mirror. -/
import Derived.Test.YtaienbkgekjdnaaGreatProg
import Derived.Test.YtaienbkgekjdnaaGreatNvD1
import Derived.Test.YtaienbkgekjdnaaGreatNvLibC
import Derived.Test.YtaienbkgekjdnaaGreatNvLibB
import Derived.KernelRfl
import Derived.Ground.SlsfProg
import Derived.Shelf.Lay
import Derived.Test.YtaienbkgekjdnaaGreatNvLibD
import Derived.Test.YtaienbkgekjdnaaGreatNvM1a
set_option maxRecDepth 100000
namespace Nv
open Go Go.Proofs
theorem ZfH (a0 : ZX) (r : Qu × Int) (h : M.Gr a0 = some r) : Fn Tryz.prog 13 [.agg (Yg a0)] (.pure (.tup [.agg (Ws r.1), .int .i64 r.2])) := by
 let u2 := Yg a0
 let u7 : List Ob := [.box u2, .box [.sl true 4 0 (fun _ => []), .sl true 1 0 (fun _ => [])]]
 let u8 : List Ob := [.box u2, .box [.sl true 4 0 (fun _ => []), .sl true 1 0 (fun _ => [])], .box [.sl true 4 0 (fun _ => []), .sl true 1 0 (fun _ => [])]]
 let u16 : List (Nat × D) := [(2, .ref 1 0), (5, .ref 2 0)]
 let u21 := (a0.Zd.length : Int)
 let u28 := List Zk
 unfold M.Gr at h
 refine ZQ Tryz.func13 rfl (by kernel_rfl) ?_
 refine Za (rg0 [1, 2] 2 ⟨186, [(1, .ref 0 0), (2, .ref 1 0)], u7⟩ ?_)
 refine Zb (Za (Za ?_))
 obtain ⟨r1, q1, h2⟩ := bind_some h
 refine rg [.pure (.int .i64 r1)] [1, 2, 4] 2 ⟨186, [(1, .ref 0 0), (2, .ref 1 0), (4, .int .i64 r1)], u7⟩ [] [⟨true, 44, [.agg u2], .pure (.int .i64 r1)⟩] Zw ⟨fun _ => Zf3 a0 r1 q1, trivial⟩ ?_
 refine Zb (Za (rg0 [1, 2, 4, 16] 2 ⟨186, [(1, .ref 0 0), (2, .ref 1 0), (4, .int .i64 r1), (16, .bool (r1 != 0))], u7⟩ ?_))
 refine Zb ?_
 refine cnd (r1 != 0) (fun b3 => ?_) (fun b3 => ?_)
 have h4 := GD b3 h2
 refine Za (rg0 [2, 3] 2 ⟨186, [(2, .ref 1 0), (3, .int .i64 r1)], u7⟩ ?_)
 refine Zb (Zg (Zh ?_))
 obtain rfl := Option.some.inj h4
 exact er (.tup [.agg [.sl false 4 0 (fun _ => []), .sl false 1 0 (fun _ => [])], .int .i64 r1]) (ZeV (.cons (Zda (.cons GG (.cons GG .nil))) (.cons ASub.rfl .nil)))
 have h5 := GE b3 h2
 refine Ze (Zb (Za (rg0 [1, 2, 5] 3 ⟨186, [(1, .ref 0 0), (2, .ref 1 0), (5, .ref 2 0)], u8⟩ ?_)))
 refine Zb (Za (Za (rg0 [1, 2, 5, 6] 3 ⟨186, [(1, .ref 0 0), (2, .ref 1 0), (5, .ref 2 0), (6, .int .i64 0)], u8⟩ ?_)))
 refine Zb (Zj ?_)
 refine Ug (s' := ⟨186, [(1, .ref 0 0), (2, .ref 1 0), (5, .ref 2 0), (6, .int .i64 0)], [.box u2, .box [.sl true 4 0 (fun _ => []), .sl true 1 0 (fun _ => [])], .box [.asl 3 0 ([] : List Zk).length, .sl true 1 0 (fun _ => [])], rA 4 hdDom ([] : List Zk) (fun _ => nilV), rF 2 Xq Zk.Xf ([] : List Zk) (fun _ => nilV)]⟩) (Le.trans (s' := ⟨186, [(1, .ref 0 0), (2, .ref 1 0), (5, .ref 2 0), (6, .int .i64 0)], [.box u2, .box [.sl true 4 0 (fun _ => []), .sl true 1 0 (fun _ => [])], .box [.asl 3 0 0, .sl true 1 0 (fun _ => [])], .arr 4 0 (fun i => ZU (([] : List Zk).getD i default))]⟩) (Zfw (nt := 186) (e := [(1, .ref 0 0), (2, .ref 1 0), (5, .ref 2 0), (6, .int .i64 0)]) (H := u8) (cells := [.sl true 4 0 (fun _ => []), .sl true 1 0 (fun _ => [])]) (wd := 4) (f := fun _ => []) 2 0 rfl rfl 4 (fun i => ZU (([] : List Zk).getD i default))) (ZhX (H := [.box u2, .box [.sl true 4 0 (fun _ => []), .sl true 1 0 (fun _ => [])], .box [.asl 3 0 0, .sl true 1 0 (fun _ => [])]]) (wd := 4) (wi := 2) hdDom Xq Zk.Xf (fun i => ZU (([] : List Zk).getD i default)))) ?_
 obtain ⟨y26, q114, h115⟩ := bind_some h5
 let u9 : List Ob := [.box u2, .box [.sl true 4 0 (fun _ => []), .sl true 1 0 (fun _ => [])], .box [sL 4 ZU y26, .sl true 1 0 (fun _ => [])]]
 let u32 := (y26.length : Int)
 refine KB (ZbL (f := M.WP a0) (S := fun (p14 : u28 × Int) (vs : Nat → Value) => ⟨186, [(1, .ref 0 0), (2, .ref 1 0), (5, .ref 2 0), (6, .int .i64 p14.2)], [.box u2, .box [.sl true 4 0 (fun _ => []), .sl true 1 0 (fun _ => [])], .box [.asl 3 0 p14.1.length, .sl true 1 0 (fun _ => [])], rA 4 hdDom p14.1 vs, rF 2 Xq Zk.Xf p14.1 vs]⟩) (O := (fun z => OutL 0 (fun (z : List Zk) (vs : Nat → Value) => ⟨186, u16, [.box u2, .box [.sl true 4 0 (fun _ => []), .sl true 1 0 (fun _ => [])], .box [.asl 3 0 z.length, .sl true 1 0 (fun _ => [])], rA 4 hdDom z vs, rF 2 Xq Zk.Xf z vs]⟩) z)) ?_ (g := (fun _ => nilV)) (x := (([] : List Zk), 0)) (y := y26) (W4 q114)) ?_
 intro p14 y15 v14 h62
 let u17 := (a0.Zd.getD p14.2.toNat default).Zc
 let u31 := (u17.length : Int)
 unfold M.WP at h62
 refine Za (Za (rg0 [1, 2, 5, 6, 24] 5 ⟨186, [(1, .ref 0 0), (2, .ref 1 0), (5, .ref 2 0), (6, .int .i64 p14.2), (24, .bool (decide (p14.2 < u21)))], [.box u2, .box [.sl true 4 0 (fun _ => []), .sl true 1 0 (fun _ => [])], .box [.asl 3 0 p14.1.length, .sl true 1 0 (fun _ => [])], rA 4 hdDom p14.1 v14, rF 2 Xq Zk.Xf p14.1 v14]⟩ ?_))
 refine Zb ?_
 refine cnd (decide (p14.2 < u21)) (fun b63 => ?_) (fun b63 => ?_)
 have h64 := GD b63 h62
 refine Ze (Zb (Za (Zj (Za (rg0 [1, 2, 5, 6, 7] 5 ⟨186, [(1, .ref 0 0), (2, .ref 1 0), (5, .ref 2 0), (6, .int .i64 p14.2), (7, .int .i64 0)], [.box u2, .box [.sl true 4 0 (fun _ => []), .sl true 1 0 (fun _ => [])], .box [.asl 3 0 p14.1.length, .sl true 1 0 (fun _ => [])], rA 4 hdDom p14.1 v14, rF 2 Xq Zk.Xf p14.1 v14]⟩ ?_)))))
 refine Zb (Zj ?_)
 obtain ⟨y25, q108, h109⟩ := bind_some h64
 refine KB (ZbL (f := M.WO a0 p14) (S := fun (p16 : u28 × Int) (vs : Nat → Value) => ⟨186, [(1, .ref 0 0), (2, .ref 1 0), (5, .ref 2 0), (6, .int .i64 p14.2), (7, .int .i64 p16.2)], [.box u2, .box [.sl true 4 0 (fun _ => []), .sl true 1 0 (fun _ => [])], .box [.asl 3 0 p16.1.length, .sl true 1 0 (fun _ => [])], rA 4 hdDom p16.1 vs, rF 2 Xq Zk.Xf p16.1 vs]⟩) (O := (fun z => OutL 2 (fun (z : List Zk) (vs : Nat → Value) => ⟨186, [(1, .ref 0 0), (2, .ref 1 0), (5, .ref 2 0), (6, .int .i64 p14.2)], [.box u2, .box [.sl true 4 0 (fun _ => []), .sl true 1 0 (fun _ => [])], .box [.asl 3 0 z.length, .sl true 1 0 (fun _ => [])], rA 4 hdDom z vs, rF 2 Xq Zk.Xf z vs]⟩) z)) ?_ (g := v14) (x := (p14.1, 0)) (y := y25) (W4 q108)) ?_
 intro p16 y17 v16 h66
 let u1 := u17.getD p16.2.toNat default
 let u5 := (p16.1.length : Int)
 let u10 := Zn u1
 let u34 := ((u1.ZJ) == 0) || (u1.K3)
 unfold M.WO at h66
 refine Za (Za ?_)
 obtain ⟨c67, h68⟩ := ZA h66
 refine rgc [1, 2, 5, 6, 7, 35] 5 ⟨186, [(1, .ref 0 0), (2, .ref 1 0), (5, .ref 2 0), (6, .int .i64 p14.2), (7, .int .i64 p16.2), (35, .bool (decide (p16.2 < u31)))], [.box u2, .box [.sl true 4 0 (fun _ => []), .sl true 1 0 (fun _ => [])], .box [.asl 3 0 p16.1.length, .sl true 1 0 (fun _ => [])], rA 4 hdDom p16.1 v16, rF 2 Xq Zk.Xf p16.1 v16]⟩ [decide (0 ≤ p14.2), decide (p14.2 < u21)] c67 ?_
 refine Zb ?_
 refine cnd (decide (p16.2 < u31)) (fun b69 => ?_) (fun b69 => ?_)
 have h70 := GD b69 h68
 refine Ze (Zb ?_)
 refine Uj (fun (p18 : u28 × (Nat → Value)) => ⟨186, [(1, .ref 0 0), (2, .ref 1 0), (5, .ref 2 0), (6, .int .i64 p14.2), (7, .int .i64 p16.2)], [.box u2, .box [.sl true 4 0 (fun _ => []), .sl true 1 0 (fun _ => [])], .box [.asl 3 0 p18.1.length, .sl true 1 0 (fun _ => [])], rA 4 hdDom p18.1 p18.2, rF 2 Xq Zk.Xf p18.1 p18.2]⟩) (fun p18 => M.Uk p16 p18.1 = some y17) ?_ ?_
 intro p18 h73
 unfold M.Uk at h73
 refine rg0 [1, 2, 5, 6, 7] 5 ⟨186, [(1, .ref 0 0), (2, .ref 1 0), (5, .ref 2 0), (6, .int .i64 p14.2), (7, .int .i64 (wr .i64 (p16.2 + 1)))], [.box u2, .box [.sl true 4 0 (fun _ => []), .sl true 1 0 (fun _ => [])], .box [.asl 3 0 p18.1.length, .sl true 1 0 (fun _ => [])], rA 4 hdDom p18.1 p18.2, rF 2 Xq Zk.Xf p18.1 p18.2]⟩ ?_
 obtain rfl := Option.some.inj h73
 exact ZaY p18.2 (GC)
 intro k72
 refine Zj (Za ?_)
 obtain ⟨c74, h75⟩ := ZA h70
 refine rgc [1, 2, 5, 6, 7, 8] 6 ⟨186, [(1, .ref 0 0), (2, .ref 1 0), (5, .ref 2 0), (6, .int .i64 p14.2), (7, .int .i64 p16.2), (8, .ref 5 0)], [.box u2, .box [.sl true 4 0 (fun _ => []), .sl true 1 0 (fun _ => [])], .box [.asl 3 0 p16.1.length, .sl true 1 0 (fun _ => [])], rA 4 hdDom p16.1 v16, rF 2 Xq Zk.Xf p16.1 v16, .box u10]⟩ [decide (0 ≤ p14.2), decide (p14.2 < u21), decide (0 ≤ p16.2), decide (p16.2 < u31)] c74 ?_
 refine Zb (Za (Za (rg0 [1, 2, 5, 6, 7, 8, 53] 6 ⟨186, [(1, .ref 0 0), (2, .ref 1 0), (5, .ref 2 0), (6, .int .i64 p14.2), (7, .int .i64 p16.2), (8, .ref 5 0), (53, .bool u34)], [.box u2, .box [.sl true 4 0 (fun _ => []), .sl true 1 0 (fun _ => [])], .box [.asl 3 0 p16.1.length, .sl true 1 0 (fun _ => [])], rA 4 hdDom p16.1 v16, rF 2 Xq Zk.Xf p16.1 v16, .box u10]⟩ ?_)))
 refine Zb ?_
 refine cnd u34 (fun b76 => ?_) (fun b76 => ?_)
 have h77 := GD b76 h75
 refine ZV (Xs (Qd ?_))
 exact XE (Le.trans (s' := ⟨186, [(1, .ref 0 0), (2, .ref 1 0), (5, .ref 2 0), (6, .int .i64 p14.2), (7, .int .i64 p16.2)], [.box u2, .box [.sl true 4 0 (fun _ => []), .sl true 1 0 (fun _ => [])], .box [.asl 3 0 p16.1.length, .sl true 1 0 (fun _ => [])], rA 4 hdDom p16.1 v16, rF 2 Xq Zk.Xf p16.1 v16, .box u10]⟩) (kp [1, 2, 5, 6, 7]) (GA (n := 5) (by kernel_rfl))) (k72 (p16.1, v16) h77)
 have h78 := GE b76 h75
 refine Ze (Zb (Za ?_))
 obtain ⟨r19, q79, h80⟩ := bind_some h78
 let u12 := Z9 r19
 refine rg [.pure (.agg u12)] [1, 2, 5, 6, 7, 8, 9] 7 ⟨186, [(1, .ref 0 0), (2, .ref 1 0), (5, .ref 2 0), (6, .int .i64 p14.2), (7, .int .i64 p16.2), (8, .ref 5 0), (9, .ref 6 0)], [.box u2, .box [.sl true 4 0 (fun _ => []), .sl true 1 0 (fun _ => [])], .box [.asl 3 0 p16.1.length, .sl true 1 0 (fun _ => [])], rA 4 hdDom p16.1 v16, rF 2 Xq Zk.Xf p16.1 v16, .box u10, .box u12]⟩ [] [⟨true, 45, [.int .u32 (u1.Zu), .int .i64 (u1.ZJ)], .pure (.agg u12)⟩] Zw ⟨fun _ => Kh (u1.Zu) (u1.ZJ) r19 q79, trivial⟩ ?_
 refine Zb (Za (rg0 [1, 2, 5, 6, 7, 8, 9, 10] 7 ⟨186, [(1, .ref 0 0), (2, .ref 1 0), (5, .ref 2 0), (6, .int .i64 p14.2), (7, .int .i64 p16.2), (8, .ref 5 0), (9, .ref 6 0), (10, .int .i64 0)], [.box u2, .box [.sl true 4 0 (fun _ => []), .sl true 1 0 (fun _ => [])], .box [.asl 3 0 p16.1.length, .sl true 1 0 (fun _ => [])], rA 4 hdDom p16.1 v16, rF 2 Xq Zk.Xf p16.1 v16, .box u10, .box u12]⟩ ?_))
 refine Zb (Za (Zj ?_))
 obtain ⟨y23, q89, h90⟩ := bind_some h80
 let u19 := p16.1.getD (0 + y23.toNat) default
 let u3 := !((((u19.Zp).Zu) == r19.Zu) && ((((u19.Zp).ZJ) == r19.ZJ) && true))
 let u6 := p16.1.length - y23.toNat
 let u18 := y23.toNat - 0
 let u24 := (u18 + 1) + (0 + u6)
 let u30 := (y23 == u5) || u3
 let u26 := u30 || ((u19.Xr) != (u1.Xr))
 let u29 := (u18 + 1) * 48 ≤ 140737488355328
 let u35 := u24 * 48 ≤ 140737488355328
 refine Ug (s' := ⟨186, [(1, .ref 0 0), (2, .ref 1 0), (5, .ref 2 0), (6, .int .i64 p14.2), (7, .int .i64 p16.2), (8, .ref 5 0), (9, .ref 6 0), (10, .int .i64 0)], [.box u2, .box [.sl true 4 0 (fun _ => []), .sl true 1 0 (fun _ => [])], .box [.asl 3 0 p16.1.length, .sl true 1 0 (fun _ => [])], rA 4 hdDom p16.1 v16, rF 2 Xq Zk.Xf p16.1 v16, .box u10, .box u12]⟩) (GC) ?_
 refine KB (Zfg (f := M.WN a0 p14 p16 r19) (S := fun (p20 : Int) => ⟨186, [(1, .ref 0 0), (2, .ref 1 0), (5, .ref 2 0), (6, .int .i64 p14.2), (7, .int .i64 p16.2), (8, .ref 5 0), (9, .ref 6 0), (10, .int .i64 p20)], [.box u2, .box [.sl true 4 0 (fun _ => []), .sl true 1 0 (fun _ => [])], .box [.asl 3 0 p16.1.length, .sl true 1 0 (fun _ => [])], rA 4 hdDom p16.1 v16, rF 2 Xq Zk.Xf p16.1 v16, .box u10, .box u12]⟩) (O := (fun z => OutE 4 (fun z => ⟨186, [(1, .ref 0 0), (2, .ref 1 0), (5, .ref 2 0), (6, .int .i64 p14.2), (7, .int .i64 p16.2), (8, .ref 5 0), (9, .ref 6 0), (10, .int .i64 z)], [.box u2, .box [.sl true 4 0 (fun _ => []), .sl true 1 0 (fun _ => [])], .box [.asl 3 0 p16.1.length, .sl true 1 0 (fun _ => [])], rA 4 hdDom p16.1 v16, rF 2 Xq Zk.Xf p16.1 v16, .box u10, .box u12]⟩) z)) ?_ (x := 0) (y := y23) (W4 q89)) ?_
 intro p20 y21 h81
 let u13 := p16.1.getD (0 + p20.toNat) default
 let u4 := (((u13.Zp).Zu) == r19.Zu) && ((((u13.Zp).ZJ) == r19.ZJ) && true)
 let u15 := decide (p20 < u5)
 let u27 := decide (0 ≤ p20)
 unfold M.WN at h81
 refine Za (Za ?_)
 obtain ⟨r22, q82, h83⟩ := bind_some h81
 let u20 := decide (r22 < 0)
 let u22 := u15 && (u20 || (u4 && (decide ((u13.Xr) < (u1.Xr)))))
 obtain ⟨c84, h85⟩ := ZA h83
 refine rg [.pure (.int .i64 r22)] [1, 2, 5, 6, 7, 8, 9, 10, 95] 7 ⟨186, [(1, .ref 0 0), (2, .ref 1 0), (5, .ref 2 0), (6, .int .i64 p14.2), (7, .int .i64 p16.2), (8, .ref 5 0), (9, .ref 6 0), (10, .int .i64 p20), (95, .bool u22)], [.box u2, .box [.sl true 4 0 (fun _ => []), .sl true 1 0 (fun _ => [])], .box [.asl 3 0 p16.1.length, .sl true 1 0 (fun _ => [])], rA 4 hdDom p16.1 v16, rF 2 Xq Zk.Xf p16.1 v16, .box u10, .box u12]⟩ [guardB u15 u27, guardB u15 u15, guardB (u15 && !u20) u27, guardB (u15 && !u20) u15, guardB ((u15 && !u20) && u4) u27, guardB ((u15 && !u20) && u4) u15] [⟨decide (p20 < u5), 46, [.agg (Z9 (u13.Zp)), .agg u12], .pure (.int .i64 r22)⟩] c84 ⟨fun hg => ZeB (u13.Zp) r19 r22 (Xc q82 hg), trivial⟩ ?_
 refine Zb ?_
 refine cnd u22 (fun b86 => ?_) (fun b86 => ?_)
 have h87 := GD b86 h85
 refine Ze (Zb (Zj (rg0 [1, 2, 5, 6, 7, 8, 9, 10] 7 ⟨186, [(1, .ref 0 0), (2, .ref 1 0), (5, .ref 2 0), (6, .int .i64 p14.2), (7, .int .i64 p16.2), (8, .ref 5 0), (9, .ref 6 0), (10, .int .i64 (wr .i64 (p20 + 1)))], [.box u2, .box [.sl true 4 0 (fun _ => []), .sl true 1 0 (fun _ => [])], .box [.asl 3 0 p16.1.length, .sl true 1 0 (fun _ => [])], rA 4 hdDom p16.1 v16, rF 2 Xq Zk.Xf p16.1 v16, .box u10, .box u12]⟩ ?_)))
 refine XM ?_
 obtain rfl := Option.some.inj h87
 exact ZgQ (GC)
 have h88 := GE b86 h85
 refine ZV (Xs ?_)
 obtain rfl := Option.some.inj h88
 exact ZgR ⟨rfl, kp [1, 2, 5, 6, 7, 8, 9, 10]⟩
 intro e91 s92 o93
 obtain ⟨rfl, l94⟩ := o93
 refine Qd ?_
 refine XE (s' := ⟨186, [(1, .ref 0 0), (2, .ref 1 0), (5, .ref 2 0), (6, .int .i64 p14.2), (7, .int .i64 p16.2), (8, .ref 5 0), (9, .ref 6 0), (10, .int .i64 y23)], [.box u2, .box [.sl true 4 0 (fun _ => []), .sl true 1 0 (fun _ => [])], .box [.asl 3 0 p16.1.length, .sl true 1 0 (fun _ => [])], rA 4 hdDom p16.1 v16, rF 2 Xq Zk.Xf p16.1 v16, .box u10, .box u12]⟩) (l94) ?_
 refine Uj (fun (p24 : u28 × (Nat → Value)) => ⟨186, [(1, .ref 0 0), (2, .ref 1 0), (5, .ref 2 0), (6, .int .i64 p14.2), (7, .int .i64 p16.2), (10, .int .i64 y23)], [.box u2, .box [.sl true 4 0 (fun _ => []), .sl true 1 0 (fun _ => [])], .box [.asl 3 0 p24.1.length, .sl true 1 0 (fun _ => [])], rA 4 hdDom p24.1 p24.2, rF 2 Xq Zk.Xf p24.1 p24.2]⟩) (fun p24 => M.Ul p14 p16 y23 p24.1 = some y17) ?_ ?_
 intro p24 h96
 let u14 := p24.1.getD (0 + y23.toNat) default
 let u23 := u14.Xf.length + 1
 unfold M.Ul at h96
 obtain ⟨c97, h98⟩ := ZA h96
 have g1 : 0 ≤ y23 := of_decide_eq_true (c97 _ (by simp only [List.mem_cons, true_or]))
 have g2 : y23 < (p24.1.length : Int) := of_decide_eq_true (c97 _ (by simp only [List.mem_cons, true_or, or_true]))
 have g3 : (((p24.1.getD (0 + y23.toNat) default).Xf).length + 1) * 16 ≤ 140737488355328 := of_decide_eq_true (c97 _ (by simp only [List.mem_cons, true_or, or_true]))
 refine Ug (ZkU (idf := 4) (0 + y23.toNat) rfl) ?_
 refine rgvB [1] [.gone, .gone, .box [.asl 3 0 p24.1.length, .sl true 1 0 (fun _ => [])]] [[.box u2, .box [.sl true 4 0 (fun _ => []), .sl true 1 0 (fun _ => [])], .box [.asl 3 0 p24.1.length, .sl true 1 0 (fun _ => [])], rA 4 hdDom p24.1 p24.2, .fam (0 + y23.toNat) (fun v => pB (v = p24.2 (0 + y23.toNat))) p24.1.length 2 p24.2 (rls Xq Zk.Xf p24.1)], [.box u2, .box [.sl true 4 0 (fun _ => []), .sl true 1 0 (fun _ => [])], .box [.asl 3 0 p24.1.length, .sl true 1 0 (fun _ => [])], rA 4 hdDom p24.1 p24.2, .fam (0 + y23.toNat) (fun _ => false) p24.1.length 2 (updV p24.2 (0 + y23.toNat) nilV) (updL (rls Xq Zk.Xf p24.1) (0 + y23.toNat) (0, fun _ => [])), .arr 2 u23 (app (rls Xq Zk.Xf p24.1 (0 + y23.toNat)).2 (rls Xq Zk.Xf p24.1 (0 + y23.toNat)).1 (fun i => List.take 2 (List.drop (i * 2) [.int .i64 p14.2, .int .i64 p16.2])))]] 14 [] [1, 2, 5, 6, 7, 144, 145, 156] 6 ⟨186, [(1, .ref 0 0), (2, .ref 1 0), (5, .ref 2 0), (6, .int .i64 p14.2), (7, .int .i64 p16.2), (144, .asl 3 0 p24.1.length), (145, .int .i64 y23), (156, .asl 5 0 u23)], [.box u2, .box [.sl true 4 0 (fun _ => []), .sl true 1 0 (fun _ => [])], .box [.asl 3 0 p24.1.length, .sl true 1 0 (fun _ => [])], rA 4 hdDom p24.1 p24.2, .fam (0 + y23.toNat) (fun _ => false) p24.1.length 2 (updV p24.2 (0 + y23.toNat) nilV) (updL (rls Xq Zk.Xf p24.1) (0 + y23.toNat) (0, fun _ => [])), .arr 2 u23 (app (rls Xq Zk.Xf p24.1 (0 + y23.toNat)).2 (rls Xq Zk.Xf p24.1 (0 + y23.toNat)).1 (fun i => List.take 2 (List.drop (i * 2) [.int .i64 p14.2, .int .i64 p16.2])))]⟩ [decide (0 ≤ y23), decide (y23 < (p24.1.length : Int)), pB (p24.2 (0 + y23.toNat) = p24.2 (0 + y23.toNat)), decide ((0 + y23.toNat) < p24.1.length), decide (u23 * 16 ≤ 140737488355328)] [] ?_ trivial ?_ _ (Zi9 (idf := 4) 156 (0 + y23.toNat) rfl rfl rfl ?_ rfl) [] [1, 2, 5, 6, 7] 5 (fun w => ⟨186, [(1, .ref 0 0), (2, .ref 1 0), (5, .ref 2 0), (6, .int .i64 p14.2), (7, .int .i64 p16.2)], [.box u2, .box [.sl true 4 0 (fun _ => []), .sl true 1 0 (fun _ => [])], .box [.asl 3 0 p24.1.length, .sl true 1 0 (fun _ => [])], .arr 4 p24.1.length (fun j => bif Nat.beq j (0 + y23.toNat) then splice (hdDom u14 ++ [.val (p24.2 (0 + y23.toNat))]) [.val w] 3 else hdDom (p24.1.getD j default) ++ [.val (p24.2 j)]), .fam 0 (fun _ => false) p24.1.length 2 (updV (updV p24.2 (0 + y23.toNat) nilV) (0 + y23.toNat) w) (updL (updL (rls Xq Zk.Xf p24.1) (0 + y23.toNat) (0, fun _ => [])) (0 + y23.toNat) (u14.Xf.length + 1, (app (rls Xq Zk.Xf p24.1 (0 + y23.toNat)).2 (rls Xq Zk.Xf p24.1 (0 + y23.toNat)).1 (fun i => List.take 2 (List.drop (i * 2) [.int .i64 p14.2, .int .i64 p16.2])))))]⟩) (fun _ => [decide (0 ≤ y23), decide (y23 < (p24.1.length : Int))]) (fun _ => []) ?_ (fun _ => trivial) (fun w => ?_)
 · exact am (decide_eq_true g1) (am (decide_eq_true g2) (am (ZkT rfl) (am (decide_eq_true (by omega)) (am (decide_eq_true g3) Zw))))
 · intro x hx
   simp only [List.mem_cons, List.not_mem_nil, or_false] at hx
   rcases hx with rfl | rfl <;> exact ⟨rfl, trivial⟩
 · rw [Uf]; rfl
 · exact fun _ => am (decide_eq_true g1) (am (decide_eq_true g2) Zw)
 refine XM ?_
 exact XE (Le.trans (Zjc 3 4 hdDom Xq Zk.Xf p24.1 (⟨(p24.1.getD (0 + y23.toNat) default).Zp, (p24.1.getD (0 + y23.toNat) default).Xr, ((p24.1.getD (0 + y23.toNat) default).Xf) ++ [(⟨p14.2, p16.2⟩ : VS)]⟩ : Zk) p24.2 (0 + y23.toNat) w ((p24.1.getD (0 + y23.toNat) default).Xf.length + 1) (app (rls Xq Zk.Xf p24.1 (0 + y23.toNat)).2 (rls Xq Zk.Xf p24.1 (0 + y23.toNat)).1 (fun i => List.take 2 (List.drop (i * 2) [.int .i64 p14.2, .int .i64 p16.2]))) _ _ _ (by decide) rfl rfl (fun j _ hj => by rw [ZcD hj]; rfl) (fun _ => by rw [Nat.beq_refl]; rfl) (fun j hj => Gy hj) (fun j hj => ZbH hj) (by simp) (fun i hi => Zdc Xq (p24.1.getD (0 + y23.toNat) default).Xf (⟨p14.2, p16.2⟩ : VS) (fun i => List.take 2 (List.drop (i * 2) [.int .i64 p14.2, .int .i64 p16.2])) rfl i hi)) (VX (.cons Sub.rfl (.cons Sub.rfl (.cons Sub.rfl (.cons Sub.rfl (.cons Sub.rfl .nil))))) (.cons .rfl (.cons .rfl (.cons (.box (.cons (Zdk (by simp)) (.cons CSub.rfl .nil))) (.cons .rfl (.cons .rfl .nil))))))) (k72 (p24.1.set (0 + y23.toNat) (⟨(p24.1.getD (0 + y23.toNat) default).Zp, (p24.1.getD (0 + y23.toNat) default).Xr, ((p24.1.getD (0 + y23.toNat) default).Xf) ++ [(⟨p14.2, p16.2⟩ : VS)]⟩ : Zk), updV p24.2 (0 + y23.toNat) w) h98)
 intro k95
 refine Za ?_
 obtain ⟨c99, h100⟩ := ZA h90
 refine rgc [1, 2, 5, 6, 7, 8, 9, 10, 123] 7 ⟨186, [(1, .ref 0 0), (2, .ref 1 0), (5, .ref 2 0), (6, .int .i64 p14.2), (7, .int .i64 p16.2), (8, .ref 5 0), (9, .ref 6 0), (10, .int .i64 y23), (123, .bool u26)], [.box u2, .box [.sl true 4 0 (fun _ => []), .sl true 1 0 (fun _ => [])], .box [.asl 3 0 p16.1.length, .sl true 1 0 (fun _ => [])], rA 4 hdDom p16.1 v16, rF 2 Xq Zk.Xf p16.1 v16, .box u10, .box u12]⟩ [guardB (!(y23 == u5)) (decide (0 ≤ y23)), guardB (!(y23 == u5)) (decide (y23 < u5)), guardB (!u30) (decide (0 ≤ y23)), guardB (!u30) (decide (y23 < u5))] c99 ?_
 refine Zb ?_
 refine cnd u26 (fun b101 => ?_) (fun b101 => ?_)
 have h102 := GD b101 h100
 refine Za ?_
 obtain ⟨c104, h105⟩ := ZA h102
 refine rgc [1, 2, 5, 6, 7, 8, 9, 10, 11] 8 ⟨186, [(1, .ref 0 0), (2, .ref 1 0), (5, .ref 2 0), (6, .int .i64 p14.2), (7, .int .i64 p16.2), (8, .ref 5 0), (9, .ref 6 0), (10, .int .i64 y23), (11, .asl 7 0 (0 + u6))], [.box u2, .box [.sl true 4 0 (fun _ => []), .sl true 1 0 (fun _ => [])], .box [.asl 3 0 p16.1.length, .sl true 1 0 (fun _ => [])], rA 4 hdDom p16.1 v16, rF 2 Xq Zk.Xf p16.1 v16, .box u10, .box u12, .arr 4 (0 + u6) (app (fun i => List.take 4 (List.drop (i * 4) [])) 0 (fun i => hdDom (p16.1.getD ((0 + y23.toNat) + i) default) ++ [.val (v16 ((0 + y23.toNat) + i))]))]⟩ [decide (0 ≤ y23), decide (y23 ≤ u5), decide (0 = 0) || decide (0 < u6), decide ((0 + u6) * 48 ≤ 140737488355328)] c104 ?_
 refine Zb ?_
 obtain ⟨c106, h107⟩ := ZA h105
 have g1 : 0 ≤ y23 := of_decide_eq_true (c106 _ (by simp only [List.mem_cons, true_or]))
 have g2 : y23 ≤ (p16.1.length : Int) := of_decide_eq_true (c106 _ (by simp only [List.mem_cons, true_or, or_true]))
 have g3 : ((y23.toNat - 0) + 1) * 48 ≤ 140737488355328 := of_decide_eq_true (c106 _ (by simp only [List.mem_cons, true_or, or_true]))
 have g4 : (((y23.toNat - 0) + 1) + (0 + (p16.1.length - y23.toNat))) * 48 ≤ 140737488355328 := of_decide_eq_true (c106 _ (by simp only [List.mem_cons, true_or, or_true]))
 refine rgp 9 [] [1, 2, 5, 6, 7, 10, 11, 133, 138] 8 ⟨186, [(1, .ref 0 0), (2, .ref 1 0), (5, .ref 2 0), (6, .int .i64 p14.2), (7, .int .i64 p16.2), (10, .int .i64 y23), (11, .asl 7 0 (0 + u6)), (133, .asl 3 0 u18), (138, .sl true 4 1 (fun i => List.take 4 (List.drop (i * 4) [.int .u32 r19.Zu, .int .i64 r19.ZJ, .int .i64 u1.Xr, .sl true 2 0 (fun _ => [])])))], [.box u2, .box [.sl true 4 0 (fun _ => []), .sl true 1 0 (fun _ => [])], .box [.asl 3 0 p16.1.length, .sl true 1 0 (fun _ => [])], rA 4 hdDom p16.1 v16, rF 2 Xq Zk.Xf p16.1 v16, .box u10, .box u12, .arr 4 (0 + u6) (app (fun i => List.take 4 (List.drop (i * 4) [])) 0 (fun i => hdDom (p16.1.getD ((0 + y23.toNat) + i) default) ++ [.val (v16 ((0 + y23.toNat) + i))]))]⟩ [1, 2, 5, 6, 7, 10, 133, 138, 140] 8 ⟨186, [(1, .ref 0 0), (2, .ref 1 0), (5, .ref 2 0), (6, .int .i64 p14.2), (7, .int .i64 p16.2), (10, .int .i64 y23), (133, .asl 3 0 u18), (138, .sl true 4 1 (fun i => List.take 4 (List.drop (i * 4) [.int .u32 r19.Zu, .int .i64 r19.ZJ, .int .i64 u1.Xr, .sl true 2 0 (fun _ => [])]))), (140, .asl 7 0 (0 + u6))], [.box u2, .box [.sl true 4 0 (fun _ => []), .sl true 1 0 (fun _ => [])], .box [.asl 3 0 p16.1.length, .sl true 1 0 (fun _ => [])], rA 4 hdDom p16.1 v16, rF 2 Xq Zk.Xf p16.1 v16, .box u10, .box u12, .arr 4 (0 + u6) (app (fun i => List.take 4 (List.drop (i * 4) [])) 0 (fun i => hdDom (p16.1.getD ((0 + y23.toNat) + i) default) ++ [.val (v16 ((0 + y23.toNat) + i))]))]⟩ [decide (0 ≤ y23), decide (y23 ≤ u5)] [] (am (decide_eq_true g1) (am (decide_eq_true g2) Zw)) trivial [] [1, 2, 5, 6, 7, 10] 5 ⟨186, [(1, .ref 0 0), (2, .ref 1 0), (5, .ref 2 0), (6, .int .i64 p14.2), (7, .int .i64 p16.2), (10, .int .i64 y23)], [.box u2, .box [.sl true 4 0 (fun _ => []), .sl true 1 0 (fun _ => [])], .box [.asl 3 0 u24, .sl true 1 0 (fun _ => [])], .arr 4 u24 (app (app (fun j => hdDom (p16.1.getD j default) ++ [.val (v16 j)]) u18 (fun i => List.take 4 (List.drop (i * 4) [.int .u32 r19.Zu, .int .i64 r19.ZJ, .int .i64 u1.Xr, .sl true 2 0 (fun _ => [])]))) (u18 + 1) (fun i => (app (fun i => List.take 4 (List.drop (i * 4) [])) 0 (fun i => hdDom (p16.1.getD ((0 + y23.toNat) + i) default) ++ [.val (v16 ((0 + y23.toNat) + i))])) (0 + i))), rF 2 Xq Zk.Xf p16.1 v16]⟩ [decide u29, decide u35] [] (am (decide_eq_true g3) (am (decide_eq_true g4) Zw)) trivial [] [1, 2, 5, 6, 7, 10, 139, 140] 8 ⟨186, [(1, .ref 0 0), (2, .ref 1 0), (5, .ref 2 0), (6, .int .i64 p14.2), (7, .int .i64 p16.2), (10, .int .i64 y23), (139, .asl 3 0 (u18 + 1)), (140, .asl 7 0 (0 + u6))], [.box u2, .box [.sl true 4 0 (fun _ => []), .sl true 1 0 (fun _ => [])], .box [.any, .sl true 1 0 (fun _ => [])], .arr 4 (u18 + 1) (app (fun j => hdDom (p16.1.getD j default) ++ [.val (v16 j)]) u18 (fun i => List.take 4 (List.drop (i * 4) [.int .u32 r19.Zu, .int .i64 r19.ZJ, .int .i64 u1.Xr, .sl true 2 0 (fun _ => [])]))), rF 2 Xq Zk.Xf p16.1 v16, .box u10, .box u12, .arr 4 (0 + u6) (app (fun i => List.take 4 (List.drop (i * 4) [])) 0 (fun i => hdDom (p16.1.getD ((0 + y23.toNat) + i) default) ++ [.val (v16 ((0 + y23.toNat) + i))]))]⟩ [decide u29] [] (am (decide_eq_true g3) Zw) trivial [] [1, 2, 5, 6, 7, 10] 5 [decide u35] [] (am (decide_eq_true g4) Zw) trivial ?_
 refine Rv (Zlc (w1 := 2) (g := fun _ => []) 3 4 hdDom Xq Zk.Xf p16.1 y23.toNat (⟨r19, (((a0.Zd.getD p14.2.toNat default).Zc).getD p16.2.toNat default).Xr, ([] : List VS)⟩ : Zk) v16 (by decide) (by omega) (by omega) rfl rfl rfl (fun j hj => ?_) ?_ (fun j hj hj2 => ?_)) fun w => ?_
 · exact (Ze0 (by omega)).trans (Ze0 (by omega))
 · exact (Ze0 (by omega)).trans ((congrArg (app _ (y23.toNat - 0) _) (show y23.toNat = y23.toNat - 0 by omega)).trans Zlb)
 · rw [Zla (by omega)]
   show app _ 0 _ (0 + (j - (y23.toNat - 0 + 1))) = _
   rw [Zla (Nat.zero_le _)]
   have e : (0 + y23.toNat) + ((0 + (j - (y23.toNat - 0 + 1))) - 0) = j - 1 := by omega
   simp only [e]
 exact Ug (VX (.cons Sub.rfl (.cons Sub.rfl (.cons Sub.rfl (.cons Sub.rfl (.cons Sub.rfl (.cons Sub.rfl .nil)))))) (.cons .rfl (.cons .rfl (.cons (.box (.cons (Zdk (by rw [Zdj (by omega)]; omega)) (.cons CSub.rfl .nil))) (.cons .rfl (.cons .rfl .nil)))))) (k95 (insL p16.1 y23.toNat (⟨r19, (((a0.Zd.getD p14.2.toNat default).Zc).getD p16.2.toNat default).Xr, ([] : List VS)⟩ : Zk), insV v16 y23.toNat w.1) h107)
 have h103 := GE b101 h100
 refine Ze ?_
 exact XE (Le.trans (s' := ⟨186, [(1, .ref 0 0), (2, .ref 1 0), (5, .ref 2 0), (6, .int .i64 p14.2), (7, .int .i64 p16.2), (10, .int .i64 y23)], [.box u2, .box [.sl true 4 0 (fun _ => []), .sl true 1 0 (fun _ => [])], .box [.asl 3 0 p16.1.length, .sl true 1 0 (fun _ => [])], rA 4 hdDom p16.1 v16, rF 2 Xq Zk.Xf p16.1 v16, .box u10, .box u12]⟩) (kp [1, 2, 5, 6, 7, 10]) (GA (n := 5) (by kernel_rfl))) (k95 (p16.1, v16) h103)
 have h71 := GE b69 h68
 refine ZV (Xs ?_)
 obtain rfl := Option.some.inj h71
 exact Zdi ⟨rfl, LeE.of v16 (kp [1, 2, 5, 6])⟩
 intro e110 s111 o112
 obtain ⟨rfl, l113⟩ := o112
 refine Qd (XM ?_)
 refine Rv l113 fun v25 => ?_
 refine rg0 [1, 2, 5, 6] 5 ⟨186, [(1, .ref 0 0), (2, .ref 1 0), (5, .ref 2 0), (6, .int .i64 (wr .i64 (p14.2 + 1)))], [.box u2, .box [.sl true 4 0 (fun _ => []), .sl true 1 0 (fun _ => [])], .box [.asl 3 0 y25.length, .sl true 1 0 (fun _ => [])], rA 4 hdDom y25 v25, rF 2 Xq Zk.Xf y25 v25]⟩ ?_
 obtain rfl := Option.some.inj h109
 exact ZaY v25 (GC)
 have h65 := GE b63 h62
 refine ZV (Xs ?_)
 obtain rfl := Option.some.inj h65
 exact Zdi ⟨rfl, LeE.of v14 (kp [2, 5])⟩
 intro e116 s117 o118
 obtain ⟨rfl, l119⟩ := o118
 refine Qd ?_
 refine Rv l119 fun v26 => ?_
 refine Za (Za ?_)
 refine Ug (s' := ⟨186, u16, [.box u2, .box [.sl true 4 0 (fun _ => []), .sl true 1 0 (fun _ => [])], .box [.sl false 4 y26.length (fun k => (fun i => ZU (y26.getD i default)) (0 + k)), .sl true 1 0 (fun _ => [])], aL 4 ZU ([] : List Zk), .fam 0 (fun _ => false) 0 2 v26 (rls Xq Zk.Xf y26)]⟩) (Le.trans (s' := ⟨186, u16, [.box u2, .box [.sl true 4 0 (fun _ => []), .sl true 1 0 (fun _ => [])], .box [.asl 3 0 y26.length, .sl true 1 0 (fun _ => [])], aL 4 ZU y26, .fam 0 (fun _ => false) 0 2 v26 (rls Xq Zk.Xf y26)]⟩) (Zjd 3 4 hdDom Xq Zk.Xf ZU y26 v26 rfl rfl (fun _ => rfl)) (Le.trans ((ZcA (s := ⟨186, u16, [.box u2, .box [.sl true 4 0 (fun _ => []), .sl true 1 0 (fun _ => [])], .box [.asl 3 0 y26.length, .sl true 1 0 (fun _ => [])], aL 4 ZU y26, .fam 0 (fun _ => false) 0 2 v26 (rls Xq Zk.Xf y26)]⟩) (s' := ⟨186, u16, [.box u2, .box [.sl true 4 0 (fun _ => []), .sl true 1 0 (fun _ => [])], .box [.sl false 4 y26.length (fun k => (fun i => ZU (y26.getD i default)) (0 + k)), .sl true 1 0 (fun _ => [])], aL 4 ZU ([] : List Zk), .fam 0 (fun _ => false) 0 2 v26 (rls Xq Zk.Xf y26)]⟩) 3 4 y26.length (fun i => ZU (y26.getD i default)) (fun i => ZU (([] : List Zk).getD i default)) (by kernel_rfl) (by kernel_rfl) (by kernel_rfl))) (kp [2, 5]))) ?_
 refine rg0 [2, 5, 12] 3 ⟨186, [(2, .ref 1 0), (5, .ref 2 0), (12, .int .i64 0)], [.box u2, .box [.sl true 4 0 (fun _ => []), .sl true 1 0 (fun _ => [])], .box [.sl false 4 y26.length (fun k => (fun i => ZU (y26.getD i default)) (0 + k)), .sl true 1 0 (fun _ => [])]]⟩ ?_
 refine XE (s' := ⟨186, [(2, .ref 1 0), (5, .ref 2 0), (12, .int .i64 0)], u9⟩) (VX (.cons Sub.rfl (.cons Sub.rfl (.cons Sub.rfl .nil))) (.cons .rfl (.cons .rfl (.cons (.box (.cons (Kn rfl (RZ (f := fun i => ZU (y26.getD i default)) (fun _ _ => rfl))) (.cons CSub.rfl .nil))) .nil)))) ?_
 refine Zj ?_
 refine Ug (s' := ⟨186, [(2, .ref 1 0), (5, .ref 2 0), (12, .int .i64 0)], u9⟩) (GC) ?_
 refine Ug (s' := ⟨186, [(2, .ref 1 0), (5, .ref 2 0), (12, .int .i64 0)], [.box u2, .box [.sl true 4 0 (fun _ => []), .sl true 1 0 (fun _ => [])], .box [sL 4 ZU y26, .asl 3 0 (([] : List Int).length)], aL 1 (ci .i64) ([] : List Int)]⟩) (Zfw (nt := 186) (e := [(2, .ref 1 0), (5, .ref 2 0), (12, .int .i64 0)]) (H := u9) (cells := [sL 4 ZU y26, .sl true 1 0 (fun _ => [])]) (wd := 1) (f := fun _ => []) 2 1 rfl rfl 1 (fun i => (ci .i64) (([] : List Int).getD i default))) ?_
 obtain ⟨y31, q136, h137⟩ := bind_some h115
 let u11 : List (Nat × D) := [(2, .ref 1 0), (5, .ref 2 0), (183, .bool (decide ((y31.length : Int) > 12)))]
 refine Ug (s' := ⟨186, [(2, .ref 1 0), (5, .ref 2 0), (12, .int .i64 0)], [.box u2, .box [.sl true 4 0 (fun _ => []), .sl true 1 0 (fun _ => [])], .box [sL 4 ZU y26, .asl 3 0 (([] : List Int).length)], aL 1 (ci .i64) ([] : List Int)]⟩) (GC) ?_
 refine KB (Zfg (f := M.WQ y26) (S := fun (p28 : (List Int) × Int) => ⟨186, [(2, .ref 1 0), (5, .ref 2 0), (12, .int .i64 p28.2)], [.box u2, .box [.sl true 4 0 (fun _ => []), .sl true 1 0 (fun _ => [])], .box [sL 4 ZU y26, .asl 3 0 p28.1.length], aL 1 (ci .i64) p28.1]⟩) (O := (fun z => OutE 6 (fun z => ⟨186, u16, [.box u2, .box [.sl true 4 0 (fun _ => []), .sl true 1 0 (fun _ => [])], .box [sL 4 ZU y26, .asl 3 0 z.length], aL 1 (ci .i64) z]⟩) z)) ?_ (x := (([] : List Int), 0)) (y := y31) (W4 q136)) ?_
 intro p28 y29 h123
 let u25 := (((y26.getD p28.2.toNat default).Xf).length : Int)
 let u33 := p28.1.length + 1
 unfold M.WQ at h123
 refine Za (Za (rg0 [2, 5, 12, 163] 4 ⟨186, [(2, .ref 1 0), (5, .ref 2 0), (12, .int .i64 p28.2), (163, .bool (decide (p28.2 < u32)))], [.box u2, .box [.sl true 4 0 (fun _ => []), .sl true 1 0 (fun _ => [])], .box [sL 4 ZU y26, .asl 3 0 p28.1.length], aL 1 (ci .i64) p28.1]⟩ ?_))
 refine Zb ?_
 refine cnd (decide (p28.2 < u32)) (fun b124 => ?_) (fun b124 => ?_)
 have h125 := GD b124 h123
 refine Ze (Zb ?_)
 refine Uj (fun (p30 : (List Int)) => ⟨186, [(2, .ref 1 0), (5, .ref 2 0), (12, .int .i64 p28.2)], [.box u2, .box [.sl true 4 0 (fun _ => []), .sl true 1 0 (fun _ => [])], .box [sL 4 ZU y26, .asl 3 0 p30.length], aL 1 (ci .i64) p30]⟩) (fun p30 => M.Um p28 p30 = some y29) ?_ ?_
 intro p30 h128
 unfold M.Um at h128
 refine rg0 [2, 5, 12] 4 ⟨186, [(2, .ref 1 0), (5, .ref 2 0), (12, .int .i64 (wr .i64 (p28.2 + 1)))], [.box u2, .box [.sl true 4 0 (fun _ => []), .sl true 1 0 (fun _ => [])], .box [sL 4 ZU y26, .asl 3 0 p30.length], aL 1 (ci .i64) p30]⟩ ?_
 obtain rfl := Option.some.inj h128
 exact ZgQ (GC)
 intro k127
 refine Zj (Za ?_)
 obtain ⟨c129, h130⟩ := ZA h125
 refine rgc [2, 5, 12, 173] 4 ⟨186, [(2, .ref 1 0), (5, .ref 2 0), (12, .int .i64 p28.2), (173, .bool (decide (u25 > 1)))], [.box u2, .box [.sl true 4 0 (fun _ => []), .sl true 1 0 (fun _ => [])], .box [sL 4 ZU y26, .asl 3 0 p28.1.length], aL 1 (ci .i64) p28.1]⟩ [decide (0 ≤ p28.2), decide (p28.2 < u32)] c129 ?_
 refine Zb ?_
 refine cnd (decide (u25 > 1)) (fun b131 => ?_) (fun b131 => ?_)
 have h132 := GD b131 h130
 obtain ⟨c134, h135⟩ := ZA h132
 refine rgc [2, 5, 12] 4 ⟨186, [(2, .ref 1 0), (5, .ref 2 0), (12, .int .i64 p28.2)], [.box u2, .box [.sl true 4 0 (fun _ => []), .sl true 1 0 (fun _ => [])], .box [sL 4 ZU y26, .asl 3 0 u33], .arr 1 u33 (app (fun i => (ci .i64) (p28.1.getD i default)) p28.1.length (fun i => List.take 1 (List.drop (i * 1) [.int .i64 p28.2])))]⟩ [decide (u33 * 8 ≤ 140737488355328)] c134 ?_
 refine XM ?_
 exact XE (VX (.cons Sub.rfl (.cons Sub.rfl (.cons Sub.rfl .nil))) (.cons .rfl (.cons .rfl (.cons (.box (.cons CSub.rfl (.cons (Zdk (Zdd _ _)) .nil))) (.cons (.arr (Zdd _ _) (Zdc (ci .i64) p28.1 p28.2 _ rfl)) .nil))))) (k127 (p28.1 ++ [p28.2]) h135)
 have h133 := GE b131 h130
 refine Ze (XM ?_)
 exact XE (kp [2, 5, 12]) (k127 p28.1 h133)
 have h126 := GE b124 h123
 refine ZV (Xs ?_)
 obtain rfl := Option.some.inj h126
 exact ZgR ⟨rfl, kp [2, 5]⟩
 intro e138 s139 o140
 obtain ⟨rfl, l141⟩ := o140
 refine Qd ?_
 refine XE (s' := ⟨186, u16, [.box u2, .box [.sl true 4 0 (fun _ => []), .sl true 1 0 (fun _ => [])], .box [sL 4 ZU y26, .asl 3 0 y31.length], aL 1 (ci .i64) y31]⟩) (l141) ?_
 refine Za (Za (rg0 [2, 5, 183] 4 ⟨186, u11, [.box u2, .box [.sl true 4 0 (fun _ => []), .sl true 1 0 (fun _ => [])], .box [sL 4 ZU y26, .asl 3 0 y31.length], aL 1 (ci .i64) y31]⟩ ?_))
 refine Zb ?_
 refine cnd (decide ((y31.length : Int) > 12)) (fun b142 => ?_) (fun b142 => ?_)
 have h143 := GD b142 h137
 refine Za (rg0 [2, 3] 2 ⟨186, [(2, .ref 1 0), (3, .int .i64 7)], u7⟩ ?_)
 refine Zb (Zg (Zh ?_))
 obtain rfl := Option.some.inj h143
 exact er (.tup [.agg [.sl false 4 0 (fun _ => []), .sl false 1 0 (fun _ => [])], .int .i64 7]) (ZeV (.cons (Zda (.cons GG (.cons GG .nil))) (.cons ASub.rfl .nil)))
 have h144 := GE b142 h137
 refine Ze (Zb (Za ?_))
 refine Ug (s' := ⟨186, u11, [.box u2, .box [.sl true 4 0 (fun _ => []), .sl true 1 0 (fun _ => [])], .box [sL 4 ZU y26, .sl false 1 y31.length (fun k => (fun i => (ci .i64) (y31.getD i default)) (0 + k))], aL 1 (ci .i64) ([] : List Int)]⟩) (Le.trans ((ZcA (s := ⟨186, u11, [.box u2, .box [.sl true 4 0 (fun _ => []), .sl true 1 0 (fun _ => [])], .box [sL 4 ZU y26, .asl 3 0 y31.length], aL 1 (ci .i64) y31]⟩) (s' := ⟨186, u11, [.box u2, .box [.sl true 4 0 (fun _ => []), .sl true 1 0 (fun _ => [])], .box [sL 4 ZU y26, .sl false 1 y31.length (fun k => (fun i => (ci .i64) (y31.getD i default)) (0 + k))], aL 1 (ci .i64) ([] : List Int)]⟩) 3 1 y31.length (fun i => (ci .i64) (y31.getD i default)) (fun i => (ci .i64) (([] : List Int).getD i default)) (by kernel_rfl) (by kernel_rfl) (by kernel_rfl))) (kp [2, 5, 183])) ?_
 refine rg0 [2, 3] 2 ⟨186, [(2, .ref 1 0), (3, .int .i64 0)], [.box u2, .box [sL 4 ZU y26, .sl false 1 y31.length (fun k => (fun i => (ci .i64) (y31.getD i default)) (0 + k))]]⟩ ?_
 refine XE (s' := ⟨186, [(2, .ref 1 0), (3, .int .i64 0)], [.box u2, .box [sL 4 ZU y26, sL 1 (ci .i64) y31]]⟩) (VX (.cons Sub.rfl (.cons Sub.rfl .nil)) (.cons .rfl (.cons (.box (.cons CSub.rfl (.cons (Kn rfl (RZ (f := fun i => (ci .i64) (y31.getD i default)) (fun _ _ => rfl))) .nil))) .nil))) ?_
 refine Zg ?_
 obtain rfl := Option.some.inj h144
 exact er0 (.tup [.agg [sL 4 ZU y26, sL 1 (ci .i64) y31], .int .i64 0])
theorem Zg8 (a0 : List Int) (a1 : List Int) (r : Bool) (h : M.UK a0 a1 = some r) : Fn Tryz.prog 18 [sL 1 (ci .i64) a0, sL 1 (ci .i64) a1] (.pure (.bool r)) := by
 unfold M.UK at h
 refine ZQ Tryz.func18 rfl (by kernel_rfl) (Za (zg [0, 1] 0 (Zb (Za (Za (zg [0, 1, 10] 0 (Zb (cn h (fun _ h2 => ?_) (fun _ h3 => ?_)))))))))
 exact Za (zg [4] 0 (Zb (Zg (Zh (er1 h2)))))
 refine Ze (Zb (Za (Za (zg [0, 1, 5] 0 (Zb (Zj ?_))))))
 obtain ⟨y3, q13, h14⟩ := bind_some h3
 refine zl (fun (p1 : Int) => ⟨26, [(0, sL 1 (ci .i64) a0), (1, sL 1 (ci .i64) a1), (5, .int .i64 p1)], []⟩) (Sum.elim (fun z => OutE 0 (fun z => ⟨26, [], []⟩) z) (fun z => OutR Tryz.prog Tryz.f18 (.bool z))) q13 ?_ ?_
 intro p1 y2 h4
 unfold M.Wo at h4
 refine Za (Za (zg [0, 1, 5, 14] 0 (Zb (cn h4 (fun _ h6 => ?_) (fun _ h7 => ?_)))))
 refine Ze (Zb (Za (Zj (Za ?_))))
 obtain ⟨c8, h9⟩ := ZA h6
 refine zc [0, 1, 5, 25] 0 c8 (Zb (cn h9 (fun _ h11 => ?_) (fun _ h12 => ?_)))
 exact Za (zg [4] 0 (Zb (Zg (ZB (Zh (rr h11 ⟨rfl, er0 _⟩))))))
 exact Ze (XM (Zb (zg [0, 1, 5] 0 (rn h12))))
 exact ZV (Xs (re h7 ⟨rfl, kq⟩))
 intro e15 s16 o17
 rcases y3 with g4 | y5
 have h18 := XP h14
 exact zi o17 (Za (zg [4] 0 (Zb (Zg (er1 h18)))))
 have h19 := XQ h14
 obtain ⟨rfl, n21⟩ := o17
 refine ZB (Zh ?_)
 obtain rfl := Option.some.inj h19
 exact n21
theorem Zg9 (a0 : List VS) (a1 : List VS) (r : Bool) (h : M.UL a0 a1 = some r) : Fn Tryz.prog 31 [sL 2 Xq a0, sL 2 Xq a1] (.pure (.bool r)) := by
 unfold M.UL at h
 refine ZQ Tryz.func31 rfl (by kernel_rfl) (Za (zg [0, 1] 0 (Zb (Za (Za (zg [0, 1, 10] 0 (Zb (cn h (fun _ h2 => ?_) (fun _ h3 => ?_)))))))))
 exact Za (zg [4] 0 (Zb (Zg (Zh (er1 h2)))))
 refine Ze (Zb (Za (Za (zg [0, 1, 5] 0 (Zb (Zj ?_))))))
 obtain ⟨y3, q13, h14⟩ := bind_some h3
 refine zl (fun (p1 : Int) => ⟨26, [(0, sL 2 Xq a0), (1, sL 2 Xq a1), (5, .int .i64 p1)], []⟩) (Sum.elim (fun z => OutE 0 (fun z => ⟨26, [], []⟩) z) (fun z => OutR Tryz.prog Tryz.f31 (.bool z))) q13 ?_ ?_
 intro p1 y2 h4
 unfold M.Wp at h4
 refine Za (Za (zg [0, 1, 5, 14] 0 (Zb (cn h4 (fun _ h6 => ?_) (fun _ h7 => ?_)))))
 refine Ze (Zb (Za (Zj (Za ?_))))
 obtain ⟨c8, h9⟩ := ZA h6
 refine zc [0, 1, 5, 25] 0 c8 (Zb (cn h9 (fun _ h11 => ?_) (fun _ h12 => ?_)))
 exact Za (zg [4] 0 (Zb (Zg (ZB (Zh (rr h11 ⟨rfl, er0 _⟩))))))
 exact Ze (XM (Zb (zg [0, 1, 5] 0 (rn h12))))
 exact ZV (Xs (re h7 ⟨rfl, kq⟩))
 intro e15 s16 o17
 rcases y3 with g4 | y5
 have h18 := XP h14
 exact zi o17 (Za (zg [4] 0 (Zb (Zg (er1 h18)))))
 have h19 := XQ h14
 obtain ⟨rfl, n21⟩ := o17
 refine ZB (Zh ?_)
 obtain rfl := Option.some.inj h19
 exact n21
theorem ZaD (a0 : Qu) (a1 : Qu) (r : Bool) (h : M.WR a0 a1 = some r) : Fn Tryz.prog 14 [.agg (Ws a0), .agg (Ws a1)] (.pure (.bool r)) := by
 unfold M.WR at h
 refine ZQ Tryz.func14 rfl (by kernel_rfl) (Za (zg [2, 3] 2 (Zb (Za (Za ?_)))))
 obtain ⟨r1, q1, h2⟩ := bind_some h
 refine zr [2, 3, 22] 2 Zw (rq2 (fun hg => Zg8 _ _ _ (Xc q1 hg)) rqn) (Zb (cn h2 (fun _ h4 => ?_) (fun _ h5 => ?_)))
 exact Za (zg [4] 0 (Zb (Zg (Zh (er1 h4)))))
 refine Ze (Zb (Za (Za (zg [2, 3, 5] 2 (Zb (Zj ?_))))))
 obtain ⟨y5, q17, h18⟩ := bind_some h5
 refine zl (fun (p2 : Int) => ⟨60, [(2, .ref 0 0), (3, .ref 1 0), (5, .int .i64 p2)], [.box (Ws a0), .box (Ws a1)]⟩) (Sum.elim (fun z => OutE 0 (fun z => ⟨60, [], []⟩) z) (fun z => OutR Tryz.prog Tryz.f14 (.bool z))) q17 ?_ ?_
 intro p2 y3 h6
 unfold M.Vq at h6
 refine Za (Za (zg [2, 3, 5, 27] 2 (Zb (cn h6 (fun _ h8 => ?_) (fun _ h9 => ?_)))))
 refine Ze (Zb (Za (Zj (Za ?_))))
 obtain ⟨c10, h11⟩ := ZA h8
 refine rgs 10 12 [] [2, 3, 5, 6, 7] 4 ⟨60, [(2, .ref 0 0), (3, .ref 1 0), (5, .int .i64 p2), (6, .ref 2 0), (7, .ref 3 0)], [.box (Ws a0), .box (Ws a1), .box (ZU (a0.XT.getD p2.toNat default)), .box (ZU (a1.XT.getD p2.toNat default))]⟩ [decide (0 ≤ p2), decide (p2 < (a0.XT.length : Int)), decide (0 ≤ p2), decide (p2 < (a1.XT.length : Int))] [] c10 trivial (Zb (Za ?_))
 obtain ⟨r4, q12, h13⟩ := bind_some h11
 refine zr [2, 3, 5, 59] 2 Zw (rq2 (fun hg => Zg9 _ _ _ (Xc q12 hg)) rqn) (Zb (cn h13 (fun _ h15 => ?_) (fun _ h16 => ?_)))
 exact Za (zg [4] 0 (Zb (Zg (ZB (Zh (rr h15 ⟨rfl, er0 _⟩))))))
 exact Ze (XM (Zb (zg [2, 3, 5] 2 (rn h16))))
 exact ZV (Xs (re h9 ⟨rfl, kc⟩))
 intro e19 s20 o21
 rcases y5 with g6 | y7
 have h22 := XP h18
 exact zi o21 (Za (zg [4] 0 (Zb (Zg (er1 h22)))))
 have h23 := XQ h18
 obtain ⟨rfl, n25⟩ := o21
 refine ZB (Zh ?_)
 obtain rfl := Option.some.inj h23
 exact n25
theorem Zcm  (r : ZX) (h : M.WS  = some r) : Fn Tryz.prog 47 [] (.pure (.agg (Yg r))) := by
 unfold M.WS at h
 refine ZQ Tryz.func47 rfl (by kernel_rfl) (Za (zg [0] 1 (Zb (Za (zg [0] 1 (Zb (Zg ?_)))))))
 obtain rfl := Option.some.inj h
 exact er (.agg [.sl false 25 2 (fun i => List.take 25 (List.drop (i * 25) [.str (⟨#[97]⟩ : ByteArray), .int .i64 0, .sl true 12 1 (fun i => List.take 12 (List.drop (i * 12) [.str (⟨#[101, 48]⟩ : ByteArray), .int .u32 167772161, .int .i64 24, .int .i64 0, .bool false, .bool false, .int .i64 0, .int .i64 0, .bool false, .str (⟨#[]⟩ : ByteArray), .str (⟨#[]⟩ : ByteArray), .int .i64 0])), .sl true 2 0 (fun _ => []), .sl true 2 0 (fun _ => []), .sl true 2 0 (fun _ => []), .sl true 9 0 (fun _ => []), .sl true 7 0 (fun _ => []), .bool false, .int .i64 0, .sl true 3 0 (fun _ => []), .sl true 5 0 (fun _ => []), .bool false, .int .i64 0, .str (⟨#[]⟩ : ByteArray), .str (⟨#[]⟩ : ByteArray), .sl true 5 0 (fun _ => []), .bool false, .int .i64 0, .int .i64 0, .sl true 4 0 (fun _ => []), .sl true 2 0 (fun _ => []), .sl true 3 0 (fun _ => []), .sl true 5 0 (fun _ => []), .sl true 5 0 (fun _ => []), .str (⟨#[98]⟩ : ByteArray), .int .i64 0, .sl true 12 2 (fun i => List.take 12 (List.drop (i * 12) [.str (⟨#[101, 48]⟩ : ByteArray), .int .u32 167772162, .int .i64 24, .int .i64 0, .bool false, .bool false, .int .i64 0, .int .i64 0, .bool false, .str (⟨#[]⟩ : ByteArray), .str (⟨#[]⟩ : ByteArray), .int .i64 0, .str (⟨#[101, 49]⟩ : ByteArray), .int .u32 167772418, .int .i64 24, .int .i64 0, .bool false, .bool false, .int .i64 0, .int .i64 0, .bool false, .str (⟨#[]⟩ : ByteArray), .str (⟨#[]⟩ : ByteArray), .int .i64 0])), .sl true 2 0 (fun _ => []), .sl true 2 0 (fun _ => []), .sl true 2 0 (fun _ => []), .sl true 9 0 (fun _ => []), .sl true 7 0 (fun _ => []), .bool false, .int .i64 0, .sl true 3 0 (fun _ => []), .sl true 5 0 (fun _ => []), .bool false, .int .i64 0, .str (⟨#[]⟩ : ByteArray), .str (⟨#[]⟩ : ByteArray), .sl true 5 0 (fun _ => []), .bool false, .int .i64 0, .int .i64 0, .sl true 4 0 (fun _ => []), .sl true 2 0 (fun _ => []), .sl true 3 0 (fun _ => []), .sl true 5 0 (fun _ => []), .sl true 5 0 (fun _ => [])]))]) (ZlG (.cons (ZkD rfl (fun i hi => match i, hi with | 0, _ => (.cons PSub.rfl (.cons PSub.rfl (.cons (ZgT rfl (fun i hi => match i, hi with | 0, _ => (.cons PSub.rfl (.cons PSub.rfl (.cons PSub.rfl (.cons PSub.rfl (.cons PSub.rfl (.cons PSub.rfl (.cons PSub.rfl (.cons PSub.rfl (.cons PSub.rfl (.cons PSub.rfl (.cons PSub.rfl (.cons PSub.rfl .nil)))))))))))) | n + 1, h => absurd h (by omega))) (.cons Jz (.cons Jz (.cons Jz (.cons Jz (.cons Jz (.cons PSub.rfl (.cons PSub.rfl (.cons Jz (.cons Jz (.cons PSub.rfl (.cons PSub.rfl (.cons PSub.rfl (.cons PSub.rfl (.cons Jz (.cons PSub.rfl (.cons PSub.rfl (.cons PSub.rfl (.cons Jz (.cons Jz (.cons Jz (.cons Jz (.cons Jz .nil))))))))))))))))))))))))) | 1, _ => (.cons PSub.rfl (.cons PSub.rfl (.cons (ZgT rfl (fun i hi => match i, hi with | 0, _ => (.cons PSub.rfl (.cons PSub.rfl (.cons PSub.rfl (.cons PSub.rfl (.cons PSub.rfl (.cons PSub.rfl (.cons PSub.rfl (.cons PSub.rfl (.cons PSub.rfl (.cons PSub.rfl (.cons PSub.rfl (.cons PSub.rfl .nil)))))))))))) | 1, _ => (.cons PSub.rfl (.cons PSub.rfl (.cons PSub.rfl (.cons PSub.rfl (.cons PSub.rfl (.cons PSub.rfl (.cons PSub.rfl (.cons PSub.rfl (.cons PSub.rfl (.cons PSub.rfl (.cons PSub.rfl (.cons PSub.rfl .nil)))))))))))) | n + 2, h => absurd h (by omega))) (.cons Jz (.cons Jz (.cons Jz (.cons Jz (.cons Jz (.cons PSub.rfl (.cons PSub.rfl (.cons Jz (.cons Jz (.cons PSub.rfl (.cons PSub.rfl (.cons PSub.rfl (.cons PSub.rfl (.cons Jz (.cons PSub.rfl (.cons PSub.rfl (.cons PSub.rfl (.cons Jz (.cons Jz (.cons Jz (.cons Jz (.cons Jz .nil))))))))))))))))))))))))) | n + 2, h => absurd h (by omega))) .nil))
theorem U2 (a0 : List Zf) (r : List Zf) (h : M.XX a0 = some r) : Fn Tryz.prog 68 [sL 25 Zx a0] (oL 25 Zx r) := by
 unfold M.XX at h
 obtain ⟨hc, h1⟩ := ZA h
 obtain rfl := Option.some.inj h1
 refine ZdW Tryz.func68 rfl (by kernel_rfl) (Gq ?_)
 refine Za (rg0 [0] 0 ⟨8, [(0, sL 25 Zx a0)], []⟩ ?_)
 refine Zb (Za (Za (rg0 [0, 4] 0 ⟨8, [(0, sL 25 Zx a0), (4, .nilq a0.length)], []⟩ ?_)))
 refine Zb (nq a0.length (fun hz => ?_) ?_)
 refine Za (rg0 [2] 0 ⟨8, [(2, .sl true 25 0 (fun _ => []))], []⟩ ?_)
 refine Zb (Zg (Zh ?_))
 obtain rfl := List.eq_nil_of_length_eq_zero hz
 exact ⟨_, ZbK (wd := 25) (f := fun _ => []) 2 (by kernel_rfl) 25 (fun i => Zx (([] : List Zf).getD i default)), .inr rfl, 2, 0, _, rfl, rfl, rfl, fun _ _ => rfl⟩
 refine Ze (Zb (Za (rgc [2] 1 ⟨8, [(2, .asl 0 0 (0 + a0.length))], [.arr 25 (0 + a0.length) (app (fun i => List.take 25 (List.drop (i * 25) [])) 0 (fun i => Zx (a0.getD i default)))]⟩ [decide (0 = 0) || decide (0 < a0.length), decide ((0 + a0.length) * 448 ≤ 140737488355328)] hc ?_)))
 refine Zb (Zg ?_)
 exact ⟨⟨8, [(2, .asl 0 0 a0.length)], [aL 25 Zx a0]⟩, VX (.cons (Kq (Nat.zero_add _)) .nil) (.cons (.arr (Nat.zero_add _) (UQ Zx _ a0 _ (fun _ _ => rfl))) .nil), .inr rfl, 2, 0, _, rfl, rfl, rfl, fun _ _ => rfl⟩
theorem Uq (a0 : List Zy) (r : List Zy) (h : M.XA a0 = some r) : Fn Tryz.prog 113 [sL 12 Zn a0] (oL 12 Zn r) := by
 unfold M.XA at h
 obtain ⟨hc, h1⟩ := ZA h
 obtain rfl := Option.some.inj h1
 refine ZdW Tryz.func113 rfl (by kernel_rfl) (Gq ?_)
 refine Za (rg0 [0] 0 ⟨8, [(0, sL 12 Zn a0)], []⟩ ?_)
 refine Zb (Za (Za (rg0 [0, 4] 0 ⟨8, [(0, sL 12 Zn a0), (4, .nilq a0.length)], []⟩ ?_)))
 refine Zb (nq a0.length (fun hz => ?_) ?_)
 refine Za (rg0 [2] 0 ⟨8, [(2, .sl true 12 0 (fun _ => []))], []⟩ ?_)
 refine Zb (Zg (Zh ?_))
 obtain rfl := List.eq_nil_of_length_eq_zero hz
 exact ⟨_, ZbK (wd := 12) (f := fun _ => []) 2 (by kernel_rfl) 12 (fun i => Zn (([] : List Zy).getD i default)), .inr rfl, 2, 0, _, rfl, rfl, rfl, fun _ _ => rfl⟩
 refine Ze (Zb (Za (rgc [2] 1 ⟨8, [(2, .asl 0 0 (0 + a0.length))], [.arr 12 (0 + a0.length) (app (fun i => List.take 12 (List.drop (i * 12) [])) 0 (fun i => Zn (a0.getD i default)))]⟩ [decide (0 = 0) || decide (0 < a0.length), decide ((0 + a0.length) * 112 ≤ 140737488355328)] hc ?_)))
 refine Zb (Zg ?_)
 exact ⟨⟨8, [(2, .asl 0 0 a0.length)], [aL 12 Zn a0]⟩, VX (.cons (Kq (Nat.zero_add _)) .nil) (.cons (.arr (Nat.zero_add _) (UQ Zn _ a0 _ (fun _ _ => rfl))) .nil), .inr rfl, 2, 0, _, rfl, rfl, rfl, fun _ _ => rfl⟩
theorem Ua (a0 : List Z1) (r : List Z1) (h : M.Xv a0 = some r) : Fn Tryz.prog 114 [sL 2 ZC a0] (oL 2 ZC r) := by
 unfold M.Xv at h
 obtain ⟨hc, h1⟩ := ZA h
 obtain rfl := Option.some.inj h1
 refine ZdW Tryz.func114 rfl (by kernel_rfl) (Gq ?_)
 refine Za (rg0 [0] 0 ⟨8, [(0, sL 2 ZC a0)], []⟩ ?_)
 refine Zb (Za (Za (rg0 [0, 4] 0 ⟨8, [(0, sL 2 ZC a0), (4, .nilq a0.length)], []⟩ ?_)))
 refine Zb (nq a0.length (fun hz => ?_) ?_)
 refine Za (rg0 [2] 0 ⟨8, [(2, .sl true 2 0 (fun _ => []))], []⟩ ?_)
 refine Zb (Zg (Zh ?_))
 obtain rfl := List.eq_nil_of_length_eq_zero hz
 exact ⟨_, ZbK (wd := 2) (f := fun _ => []) 2 (by kernel_rfl) 2 (fun i => ZC (([] : List Z1).getD i default)), .inr rfl, 2, 0, _, rfl, rfl, rfl, fun _ _ => rfl⟩
 refine Ze (Zb (Za (rgc [2] 1 ⟨8, [(2, .asl 0 0 (0 + a0.length))], [.arr 2 (0 + a0.length) (app (fun i => List.take 2 (List.drop (i * 2) [])) 0 (fun i => ZC (a0.getD i default)))]⟩ [decide (0 = 0) || decide (0 < a0.length), decide ((0 + a0.length) * 40 ≤ 140737488355328)] hc ?_)))
 refine Zb (Zg ?_)
 exact ⟨⟨8, [(2, .asl 0 0 a0.length)], [aL 2 ZC a0]⟩, VX (.cons (Kq (Nat.zero_add _)) .nil) (.cons (.arr (Nat.zero_add _) (UQ ZC _ a0 _ (fun _ _ => rfl))) .nil), .inr rfl, 2, 0, _, rfl, rfl, rfl, fun _ _ => rfl⟩
theorem UC (a0 : List X1) (r : List X1) (h : M.XH a0 = some r) : Fn Tryz.prog 116 [sL 2 Z6 a0] (oL 2 Z6 r) := by
 unfold M.XH at h
 obtain ⟨hc, h1⟩ := ZA h
 obtain rfl := Option.some.inj h1
 refine ZdW Tryz.func116 rfl (by kernel_rfl) (Gq ?_)
 refine Za (rg0 [0] 0 ⟨8, [(0, sL 2 Z6 a0)], []⟩ ?_)
 refine Zb (Za (Za (rg0 [0, 4] 0 ⟨8, [(0, sL 2 Z6 a0), (4, .nilq a0.length)], []⟩ ?_)))
 refine Zb (nq a0.length (fun hz => ?_) ?_)
 refine Za (rg0 [2] 0 ⟨8, [(2, .sl true 2 0 (fun _ => []))], []⟩ ?_)
 refine Zb (Zg (Zh ?_))
 obtain rfl := List.eq_nil_of_length_eq_zero hz
 exact ⟨_, ZbK (wd := 2) (f := fun _ => []) 2 (by kernel_rfl) 2 (fun i => Z6 (([] : List X1).getD i default)), .inr rfl, 2, 0, _, rfl, rfl, rfl, fun _ _ => rfl⟩
 refine Ze (Zb (Za (rgc [2] 1 ⟨8, [(2, .asl 0 0 (0 + a0.length))], [.arr 2 (0 + a0.length) (app (fun i => List.take 2 (List.drop (i * 2) [])) 0 (fun i => Z6 (a0.getD i default)))]⟩ [decide (0 = 0) || decide (0 < a0.length), decide ((0 + a0.length) * 40 ≤ 140737488355328)] hc ?_)))
 refine Zb (Zg ?_)
 exact ⟨⟨8, [(2, .asl 0 0 a0.length)], [aL 2 Z6 a0]⟩, VX (.cons (Kq (Nat.zero_add _)) .nil) (.cons (.arr (Nat.zero_add _) (UQ Z6 _ a0 _ (fun _ _ => rfl))) .nil), .inr rfl, 2, 0, _, rfl, rfl, rfl, fun _ _ => rfl⟩
theorem GR (a0 : List WD) (r : List WD) (h : M.Yl a0 = some r) : Fn Tryz.prog 118 [sL 2 Qb a0] (oL 2 Qb r) := by
 unfold M.Yl at h
 obtain ⟨hc, h1⟩ := ZA h
 obtain rfl := Option.some.inj h1
 refine ZdW Tryz.func118 rfl (by kernel_rfl) (Gq ?_)
 refine Za (rg0 [0] 0 ⟨8, [(0, sL 2 Qb a0)], []⟩ ?_)
 refine Zb (Za (Za (rg0 [0, 4] 0 ⟨8, [(0, sL 2 Qb a0), (4, .nilq a0.length)], []⟩ ?_)))
 refine Zb (nq a0.length (fun hz => ?_) ?_)
 refine Za (rg0 [2] 0 ⟨8, [(2, .sl true 2 0 (fun _ => []))], []⟩ ?_)
 refine Zb (Zg (Zh ?_))
 obtain rfl := List.eq_nil_of_length_eq_zero hz
 exact ⟨_, ZbK (wd := 2) (f := fun _ => []) 2 (by kernel_rfl) 2 (fun i => Qb (([] : List WD).getD i default)), .inr rfl, 2, 0, _, rfl, rfl, rfl, fun _ _ => rfl⟩
 refine Ze (Zb (Za (rgc [2] 1 ⟨8, [(2, .asl 0 0 (0 + a0.length))], [.arr 2 (0 + a0.length) (app (fun i => List.take 2 (List.drop (i * 2) [])) 0 (fun i => Qb (a0.getD i default)))]⟩ [decide (0 = 0) || decide (0 < a0.length), decide ((0 + a0.length) * 40 ≤ 140737488355328)] hc ?_)))
 refine Zb (Zg ?_)
 exact ⟨⟨8, [(2, .asl 0 0 a0.length)], [aL 2 Qb a0]⟩, VX (.cons (Kq (Nat.zero_add _)) .nil) (.cons (.arr (Nat.zero_add _) (UQ Qb _ a0 _ (fun _ _ => rfl))) .nil), .inr rfl, 2, 0, _, rfl, rfl, rfl, fun _ _ => rfl⟩
theorem W1 (a0 : List YS) (r : List YS) (h : M.Xo a0 = some r) : Fn Tryz.prog 120 [sL 9 Xa a0] (.pure (sL 9 Xa r)) := by
 unfold M.Xo at h
 obtain ⟨hc, h1⟩ := ZA h
 obtain rfl := Option.some.inj h1
 refine ZQ Tryz.func120 rfl (by kernel_rfl) (Za (zg [0] 0 (Zb (Za (Za (zg [0, 4] 0 (Zb (nq a0.length (fun hz => ?_) ?_))))))))
 exact Za (zg [2] 0 (Zb (Zg (Zh (er (.sl false 9 0 (fun _ => [])) (GH hz))))))
 exact Ze (Zb (Za (zc [2] 1 hc (Zb (Zg (er (.sl false 9 (0 + a0.length) (fun i => (app (fun i => List.take 9 (List.drop (i * 9) [])) 0 (fun i => Xa (a0.getD i default))) (0 + i))) (Uv (Nat.zero_add _) (fun i hi => by rw [Nat.zero_add]; exact UQ Xa _ a0 _ (fun _ _ => rfl) i hi))))))))
theorem W2 (a0 : List Yc) (r : List Yc) (h : M.Xp a0 = some r) : Fn Tryz.prog 121 [sL 7 Z5 a0] (.pure (sL 7 Z5 r)) := by
 unfold M.Xp at h
 obtain ⟨hc, h1⟩ := ZA h
 obtain rfl := Option.some.inj h1
 refine ZQ Tryz.func121 rfl (by kernel_rfl) (Za (zg [0] 0 (Zb (Za (Za (zg [0, 4] 0 (Zb (nq a0.length (fun hz => ?_) ?_))))))))
 exact Za (zg [2] 0 (Zb (Zg (Zh (er (.sl false 7 0 (fun _ => [])) (GH hz))))))
 exact Ze (Zb (Za (zc [2] 1 hc (Zb (Zg (er (.sl false 7 (0 + a0.length) (fun i => (app (fun i => List.take 7 (List.drop (i * 7) [])) 0 (fun i => Z5 (a0.getD i default))) (0 + i))) (Uv (Nat.zero_add _) (fun i hi => by rw [Nat.zero_add]; exact UQ Z5 _ a0 _ (fun _ _ => rfl) i hi))))))))
theorem Ur (a0 : List VZ) (r : List VZ) (h : M.XB a0 = some r) : Fn Tryz.prog 122 [sL 3 Xx a0] (.pure (sL 3 Xx r)) := by
 unfold M.XB at h
 obtain ⟨hc, h1⟩ := ZA h
 obtain rfl := Option.some.inj h1
 refine ZQ Tryz.func122 rfl (by kernel_rfl) (Za (zg [0] 0 (Zb (Za (Za (zg [0, 4] 0 (Zb (nq a0.length (fun hz => ?_) ?_))))))))
 exact Za (zg [2] 0 (Zb (Zg (Zh (er (.sl false 3 0 (fun _ => [])) (GH hz))))))
 exact Ze (Zb (Za (zc [2] 1 hc (Zb (Zg (er (.sl false 3 (0 + a0.length) (fun i => (app (fun i => List.take 3 (List.drop (i * 3) [])) 0 (fun i => Xx (a0.getD i default))) (0 + i))) (Uv (Nat.zero_add _) (fun i hi => by rw [Nat.zero_add]; exact UQ Xx _ a0 _ (fun _ _ => rfl) i hi))))))))
theorem Ve (a0 : List Yw) (r : List Yw) (h : M.Xi a0 = some r) : Fn Tryz.prog 123 [sL 5 ZD a0] (.pure (sL 5 ZD r)) := by
 unfold M.Xi at h
 obtain ⟨hc, h1⟩ := ZA h
 obtain rfl := Option.some.inj h1
 refine ZQ Tryz.func123 rfl (by kernel_rfl) (Za (zg [0] 0 (Zb (Za (Za (zg [0, 4] 0 (Zb (nq a0.length (fun hz => ?_) ?_))))))))
 exact Za (zg [2] 0 (Zb (Zg (Zh (er (.sl false 5 0 (fun _ => [])) (GH hz))))))
 exact Ze (Zb (Za (zc [2] 1 hc (Zb (Zg (er (.sl false 5 (0 + a0.length) (fun i => (app (fun i => List.take 5 (List.drop (i * 5) [])) 0 (fun i => ZD (a0.getD i default))) (0 + i))) (Uv (Nat.zero_add _) (fun i hi => by rw [Nat.zero_add]; exact UQ ZD _ a0 _ (fun _ _ => rfl) i hi))))))))
theorem UI (a0 : List Vo) (r : List Vo) (h : M.XI a0 = some r) : Fn Tryz.prog 124 [sL 4 XG a0] (.pure (sL 4 XG r)) := by
 unfold M.XI at h
 obtain ⟨hc, h1⟩ := ZA h
 obtain rfl := Option.some.inj h1
 refine ZQ Tryz.func124 rfl (by kernel_rfl) (Za (zg [0] 0 (Zb (Za (Za (zg [0, 4] 0 (Zb (nq a0.length (fun hz => ?_) ?_))))))))
 exact Za (zg [2] 0 (Zb (Zg (Zh (er (.sl false 4 0 (fun _ => [])) (GH hz))))))
 exact Ze (Zb (Za (zc [2] 1 hc (Zb (Zg (er (.sl false 4 (0 + a0.length) (fun i => (app (fun i => List.take 4 (List.drop (i * 4) [])) 0 (fun i => XG (a0.getD i default))) (0 + i))) (Uv (Nat.zero_add _) (fun i hi => by rw [Nat.zero_add]; exact UQ XG _ a0 _ (fun _ _ => rfl) i hi))))))))
theorem U9 (a0 : List ZL) (r : List ZL) (h : M.XY a0 = some r) : Fn Tryz.prog 125 [sL 2 Z9 a0] (.pure (sL 2 Z9 r)) := by
 unfold M.XY at h
 obtain ⟨hc, h1⟩ := ZA h
 obtain rfl := Option.some.inj h1
 refine ZQ Tryz.func125 rfl (by kernel_rfl) (Za (zg [0] 0 (Zb (Za (Za (zg [0, 4] 0 (Zb (nq a0.length (fun hz => ?_) ?_))))))))
 exact Za (zg [2] 0 (Zb (Zg (Zh (er (.sl false 2 0 (fun _ => [])) (GH hz))))))
 exact Ze (Zb (Za (zc [2] 1 hc (Zb (Zg (er (.sl false 2 (0 + a0.length) (fun i => (app (fun i => List.take 2 (List.drop (i * 2) [])) 0 (fun i => Z9 (a0.getD i default))) (0 + i))) (Uv (Nat.zero_add _) (fun i hi => by rw [Nat.zero_add]; exact UQ Z9 _ a0 _ (fun _ _ => rfl) i hi))))))))
theorem Us (a0 : List V0) (r : List V0) (h : M.XC a0 = some r) : Fn Tryz.prog 126 [sL 3 Xy a0] (.pure (sL 3 Xy r)) := by
 unfold M.XC at h
 obtain ⟨hc, h1⟩ := ZA h
 obtain rfl := Option.some.inj h1
 refine ZQ Tryz.func126 rfl (by kernel_rfl) (Za (zg [0] 0 (Zb (Za (Za (zg [0, 4] 0 (Zb (nq a0.length (fun hz => ?_) ?_))))))))
 exact Za (zg [2] 0 (Zb (Zg (Zh (er (.sl false 3 0 (fun _ => [])) (GH hz))))))
 exact Ze (Zb (Za (zc [2] 1 hc (Zb (Zg (er (.sl false 3 (0 + a0.length) (fun i => (app (fun i => List.take 3 (List.drop (i * 3) [])) 0 (fun i => Xy (a0.getD i default))) (0 + i))) (Uv (Nat.zero_add _) (fun i hi => by rw [Nat.zero_add]; exact UQ Xy _ a0 _ (fun _ _ => rfl) i hi))))))))
theorem Ut (a0 : List V2) (r : List V2) (h : M.XD a0 = some r) : Fn Tryz.prog 127 [sL 5 Xu a0] (.pure (sL 5 Xu r)) := by
 unfold M.XD at h
 obtain ⟨hc, h1⟩ := ZA h
 obtain rfl := Option.some.inj h1
 refine ZQ Tryz.func127 rfl (by kernel_rfl) (Za (zg [0] 0 (Zb (Za (Za (zg [0, 4] 0 (Zb (nq a0.length (fun hz => ?_) ?_))))))))
 exact Za (zg [2] 0 (Zb (Zg (Zh (er (.sl false 5 0 (fun _ => [])) (GH hz))))))
 exact Ze (Zb (Za (zc [2] 1 hc (Zb (Zg (er (.sl false 5 (0 + a0.length) (fun i => (app (fun i => List.take 5 (List.drop (i * 5) [])) 0 (fun i => Xu (a0.getD i default))) (0 + i))) (Uv (Nat.zero_add _) (fun i hi => by rw [Nat.zero_add]; exact UQ Xu _ a0 _ (fun _ _ => rfl) i hi))))))))
theorem ZcL (a0 : Zf) (r : Zf) (h : M.VG a0 = some r) : Fn Tryz.prog 69 [.agg (Zx a0)] (.pure (.agg (Zx r))) := by
 let u1 : List (Nat × D) := [(1, .ref 0 0), (2, .ref 1 0)]
 unfold M.VG at h
 refine ZQ Tryz.func69 rfl (by kernel_rfl) (Za (zg [1, 2] 2 (Zb (Za ?_))))
 obtain ⟨r1, q1, h2⟩ := bind_some h
 refine rg [oL 12 Zn r1] [1, 2] 3 ⟨136, u1, [.box [.str a0.ZW, .int .i64 a0.GN, .asl 2 0 r1.length, sL 2 ZC a0.Xk, sL 2 Z6 a0.Z8, sL 2 Qb a0.XO, sL 9 Xa a0.Xd, sL 7 Z5 a0.Zq, .bool a0.Yi.Wr, .int .i64 a0.Yi.Xj, sL 3 Xx a0.Yi.ZK, sL 5 ZD a0.Yi.Zv, .bool a0.YC.Wr, .int .i64 a0.YC.Xj, .str a0.YC.VQ, .str a0.YC.YV, sL 5 ZD a0.YC.Zv, .bool a0.Xb.Wr, .int .i64 a0.Xb.X4, .int .i64 a0.Xb.X5, sL 4 XG a0.Xb.Zl, sL 2 Z9 a0.Xb.Zt, sL 3 Xy a0.Xb.Zr, sL 5 Xu a0.Xb.Zo, sL 5 ZD a0.Xb.Zv], .box [.str (⟨#[]⟩ : ByteArray), .int .i64 0, .sl true 12 0 (fun _ => []), .sl true 2 0 (fun _ => []), .sl true 2 0 (fun _ => []), .sl true 2 0 (fun _ => []), .sl true 9 0 (fun _ => []), .sl true 7 0 (fun _ => []), .bool false, .int .i64 0, .sl true 3 0 (fun _ => []), .sl true 5 0 (fun _ => []), .bool false, .int .i64 0, .str (⟨#[]⟩ : ByteArray), .str (⟨#[]⟩ : ByteArray), .sl true 5 0 (fun _ => []), .bool false, .int .i64 0, .int .i64 0, .sl true 4 0 (fun _ => []), .sl true 2 0 (fun _ => []), .sl true 3 0 (fun _ => []), .sl true 5 0 (fun _ => []), .sl true 5 0 (fun _ => [])], aL 12 Zn r1]⟩ [] [⟨true, 113, [sL 12 Zn a0.Zc], oL 12 Zn r1⟩] Zw ⟨fun _ => Uq a0.Zc r1 q1, trivial⟩ (Zb (Za ?_))
 obtain ⟨r2, q3, h4⟩ := bind_some h2
 refine rg [oL 2 ZC r2] [1, 2] 4 ⟨136, u1, [.box [.str a0.ZW, .int .i64 a0.GN, .asl 2 0 r1.length, .asl 3 0 r2.length, sL 2 Z6 a0.Z8, sL 2 Qb a0.XO, sL 9 Xa a0.Xd, sL 7 Z5 a0.Zq, .bool a0.Yi.Wr, .int .i64 a0.Yi.Xj, sL 3 Xx a0.Yi.ZK, sL 5 ZD a0.Yi.Zv, .bool a0.YC.Wr, .int .i64 a0.YC.Xj, .str a0.YC.VQ, .str a0.YC.YV, sL 5 ZD a0.YC.Zv, .bool a0.Xb.Wr, .int .i64 a0.Xb.X4, .int .i64 a0.Xb.X5, sL 4 XG a0.Xb.Zl, sL 2 Z9 a0.Xb.Zt, sL 3 Xy a0.Xb.Zr, sL 5 Xu a0.Xb.Zo, sL 5 ZD a0.Xb.Zv], .box [.str (⟨#[]⟩ : ByteArray), .int .i64 0, .sl true 12 0 (fun _ => []), .sl true 2 0 (fun _ => []), .sl true 2 0 (fun _ => []), .sl true 2 0 (fun _ => []), .sl true 9 0 (fun _ => []), .sl true 7 0 (fun _ => []), .bool false, .int .i64 0, .sl true 3 0 (fun _ => []), .sl true 5 0 (fun _ => []), .bool false, .int .i64 0, .str (⟨#[]⟩ : ByteArray), .str (⟨#[]⟩ : ByteArray), .sl true 5 0 (fun _ => []), .bool false, .int .i64 0, .int .i64 0, .sl true 4 0 (fun _ => []), .sl true 2 0 (fun _ => []), .sl true 3 0 (fun _ => []), .sl true 5 0 (fun _ => []), .sl true 5 0 (fun _ => [])], aL 12 Zn r1, aL 2 ZC r2]⟩ [] [⟨true, 114, [sL 2 ZC a0.Xk], oL 2 ZC r2⟩] Zw ⟨fun _ => Ua a0.Xk r2 q3, trivial⟩ (Zb (Za (Za (zg [1, 2, 16, 17] 4 (Zb (Zj ?_))))))
 obtain ⟨y5, q9, h10⟩ := bind_some h4
 refine zl (fun (p3 : Int) => ⟨136, [(1, .ref 0 0), (2, .ref 1 0), (16, .int .i64 (r2.length : Int)), (17, .int .i64 p3)], [.box [.str a0.ZW, .int .i64 a0.GN, .asl 2 0 r1.length, .asl 3 0 r2.length, sL 2 Z6 a0.Z8, sL 2 Qb a0.XO, sL 9 Xa a0.Xd, sL 7 Z5 a0.Zq, .bool a0.Yi.Wr, .int .i64 a0.Yi.Xj, sL 3 Xx a0.Yi.ZK, sL 5 ZD a0.Yi.Zv, .bool a0.YC.Wr, .int .i64 a0.YC.Xj, .str a0.YC.VQ, .str a0.YC.YV, sL 5 ZD a0.YC.Zv, .bool a0.Xb.Wr, .int .i64 a0.Xb.X4, .int .i64 a0.Xb.X5, sL 4 XG a0.Xb.Zl, sL 2 Z9 a0.Xb.Zt, sL 3 Xy a0.Xb.Zr, sL 5 Xu a0.Xb.Zo, sL 5 ZD a0.Xb.Zv], .box [.str (⟨#[]⟩ : ByteArray), .int .i64 0, .sl true 12 0 (fun _ => []), .sl true 2 0 (fun _ => []), .sl true 2 0 (fun _ => []), .sl true 2 0 (fun _ => []), .sl true 9 0 (fun _ => []), .sl true 7 0 (fun _ => []), .bool false, .int .i64 0, .sl true 3 0 (fun _ => []), .sl true 5 0 (fun _ => []), .bool false, .int .i64 0, .str (⟨#[]⟩ : ByteArray), .str (⟨#[]⟩ : ByteArray), .sl true 5 0 (fun _ => []), .bool false, .int .i64 0, .int .i64 0, .sl true 4 0 (fun _ => []), .sl true 2 0 (fun _ => []), .sl true 3 0 (fun _ => []), .sl true 5 0 (fun _ => []), .sl true 5 0 (fun _ => [])], aL 12 Zn r1, aL 2 ZC r2]⟩) (fun z => OutE 0 (fun z => ⟨136, u1, [.box [.str a0.ZW, .int .i64 a0.GN, .asl 2 0 r1.length, .asl 3 0 r2.length, sL 2 Z6 a0.Z8, sL 2 Qb a0.XO, sL 9 Xa a0.Xd, sL 7 Z5 a0.Zq, .bool a0.Yi.Wr, .int .i64 a0.Yi.Xj, sL 3 Xx a0.Yi.ZK, sL 5 ZD a0.Yi.Zv, .bool a0.YC.Wr, .int .i64 a0.YC.Xj, .str a0.YC.VQ, .str a0.YC.YV, sL 5 ZD a0.YC.Zv, .bool a0.Xb.Wr, .int .i64 a0.Xb.X4, .int .i64 a0.Xb.X5, sL 4 XG a0.Xb.Zl, sL 2 Z9 a0.Xb.Zt, sL 3 Xy a0.Xb.Zr, sL 5 Xu a0.Xb.Zo, sL 5 ZD a0.Xb.Zv], .box [.str (⟨#[]⟩ : ByteArray), .int .i64 0, .sl true 12 0 (fun _ => []), .sl true 2 0 (fun _ => []), .sl true 2 0 (fun _ => []), .sl true 2 0 (fun _ => []), .sl true 9 0 (fun _ => []), .sl true 7 0 (fun _ => []), .bool false, .int .i64 0, .sl true 3 0 (fun _ => []), .sl true 5 0 (fun _ => []), .bool false, .int .i64 0, .str (⟨#[]⟩ : ByteArray), .str (⟨#[]⟩ : ByteArray), .sl true 5 0 (fun _ => []), .bool false, .int .i64 0, .int .i64 0, .sl true 4 0 (fun _ => []), .sl true 2 0 (fun _ => []), .sl true 3 0 (fun _ => []), .sl true 5 0 (fun _ => []), .sl true 5 0 (fun _ => [])], aL 12 Zn r1, aL 2 ZC r2]⟩) z) q9 ?_ ?_
 intro p3 y4 h5
 unfold M.J1 at h5
 refine Za (zg [1, 2, 16, 17, 18] 4 (Zb (Za (cn h5 (fun _ h7 => ?_) (fun _ h8 => ?_)))))
 refine Ze (Zb (Za (Zj (Za ?_))))
 cases h7
 exact ZV (Xs (re h8 ⟨rfl, kq⟩))
 intro e11 s12 o13
 refine zi o13 (Za (Ug (s' := ⟨136, u1, [.box [.str a0.ZW, .int .i64 a0.GN, .sl false 12 r1.length (fun k => (fun i => Zn (r1.getD i default)) (0 + k)), .sl false 2 r2.length (fun k => (fun i => ZC (r2.getD i default)) (0 + k)), sL 2 Z6 a0.Z8, sL 2 Qb a0.XO, sL 9 Xa a0.Xd, sL 7 Z5 a0.Zq, .bool a0.Yi.Wr, .int .i64 a0.Yi.Xj, sL 3 Xx a0.Yi.ZK, sL 5 ZD a0.Yi.Zv, .bool a0.YC.Wr, .int .i64 a0.YC.Xj, .str a0.YC.VQ, .str a0.YC.YV, sL 5 ZD a0.YC.Zv, .bool a0.Xb.Wr, .int .i64 a0.Xb.X4, .int .i64 a0.Xb.X5, sL 4 XG a0.Xb.Zl, sL 2 Z9 a0.Xb.Zt, sL 3 Xy a0.Xb.Zr, sL 5 Xu a0.Xb.Zo, sL 5 ZD a0.Xb.Zv], .box [.str (⟨#[]⟩ : ByteArray), .int .i64 0, .sl true 12 0 (fun _ => []), .sl true 2 0 (fun _ => []), .sl true 2 0 (fun _ => []), .sl true 2 0 (fun _ => []), .sl true 9 0 (fun _ => []), .sl true 7 0 (fun _ => []), .bool false, .int .i64 0, .sl true 3 0 (fun _ => []), .sl true 5 0 (fun _ => []), .bool false, .int .i64 0, .str (⟨#[]⟩ : ByteArray), .str (⟨#[]⟩ : ByteArray), .sl true 5 0 (fun _ => []), .bool false, .int .i64 0, .int .i64 0, .sl true 4 0 (fun _ => []), .sl true 2 0 (fun _ => []), .sl true 3 0 (fun _ => []), .sl true 5 0 (fun _ => []), .sl true 5 0 (fun _ => [])], aL 12 Zn ([] : List Zy), aL 2 ZC ([] : List Z1)]⟩) (Le.trans ((Le.trans (ZcA (s := ⟨136, u1, [.box [.str a0.ZW, .int .i64 a0.GN, .asl 2 0 r1.length, .asl 3 0 r2.length, sL 2 Z6 a0.Z8, sL 2 Qb a0.XO, sL 9 Xa a0.Xd, sL 7 Z5 a0.Zq, .bool a0.Yi.Wr, .int .i64 a0.Yi.Xj, sL 3 Xx a0.Yi.ZK, sL 5 ZD a0.Yi.Zv, .bool a0.YC.Wr, .int .i64 a0.YC.Xj, .str a0.YC.VQ, .str a0.YC.YV, sL 5 ZD a0.YC.Zv, .bool a0.Xb.Wr, .int .i64 a0.Xb.X4, .int .i64 a0.Xb.X5, sL 4 XG a0.Xb.Zl, sL 2 Z9 a0.Xb.Zt, sL 3 Xy a0.Xb.Zr, sL 5 Xu a0.Xb.Zo, sL 5 ZD a0.Xb.Zv], .box [.str (⟨#[]⟩ : ByteArray), .int .i64 0, .sl true 12 0 (fun _ => []), .sl true 2 0 (fun _ => []), .sl true 2 0 (fun _ => []), .sl true 2 0 (fun _ => []), .sl true 9 0 (fun _ => []), .sl true 7 0 (fun _ => []), .bool false, .int .i64 0, .sl true 3 0 (fun _ => []), .sl true 5 0 (fun _ => []), .bool false, .int .i64 0, .str (⟨#[]⟩ : ByteArray), .str (⟨#[]⟩ : ByteArray), .sl true 5 0 (fun _ => []), .bool false, .int .i64 0, .int .i64 0, .sl true 4 0 (fun _ => []), .sl true 2 0 (fun _ => []), .sl true 3 0 (fun _ => []), .sl true 5 0 (fun _ => []), .sl true 5 0 (fun _ => [])], aL 12 Zn r1, aL 2 ZC r2]⟩) (s' := ⟨136, u1, [.box [.str a0.ZW, .int .i64 a0.GN, .sl false 12 r1.length (fun k => (fun i => Zn (r1.getD i default)) (0 + k)), .asl 3 0 r2.length, sL 2 Z6 a0.Z8, sL 2 Qb a0.XO, sL 9 Xa a0.Xd, sL 7 Z5 a0.Zq, .bool a0.Yi.Wr, .int .i64 a0.Yi.Xj, sL 3 Xx a0.Yi.ZK, sL 5 ZD a0.Yi.Zv, .bool a0.YC.Wr, .int .i64 a0.YC.Xj, .str a0.YC.VQ, .str a0.YC.YV, sL 5 ZD a0.YC.Zv, .bool a0.Xb.Wr, .int .i64 a0.Xb.X4, .int .i64 a0.Xb.X5, sL 4 XG a0.Xb.Zl, sL 2 Z9 a0.Xb.Zt, sL 3 Xy a0.Xb.Zr, sL 5 Xu a0.Xb.Zo, sL 5 ZD a0.Xb.Zv], .box [.str (⟨#[]⟩ : ByteArray), .int .i64 0, .sl true 12 0 (fun _ => []), .sl true 2 0 (fun _ => []), .sl true 2 0 (fun _ => []), .sl true 2 0 (fun _ => []), .sl true 9 0 (fun _ => []), .sl true 7 0 (fun _ => []), .bool false, .int .i64 0, .sl true 3 0 (fun _ => []), .sl true 5 0 (fun _ => []), .bool false, .int .i64 0, .str (⟨#[]⟩ : ByteArray), .str (⟨#[]⟩ : ByteArray), .sl true 5 0 (fun _ => []), .bool false, .int .i64 0, .int .i64 0, .sl true 4 0 (fun _ => []), .sl true 2 0 (fun _ => []), .sl true 3 0 (fun _ => []), .sl true 5 0 (fun _ => []), .sl true 5 0 (fun _ => [])], aL 12 Zn ([] : List Zy), aL 2 ZC r2]⟩) 2 12 r1.length (fun i => Zn (r1.getD i default)) (fun i => Zn (([] : List Zy).getD i default)) (by kernel_rfl) (by kernel_rfl) (by kernel_rfl)) (ZcA (s := ⟨136, u1, [.box [.str a0.ZW, .int .i64 a0.GN, .sl false 12 r1.length (fun k => (fun i => Zn (r1.getD i default)) (0 + k)), .asl 3 0 r2.length, sL 2 Z6 a0.Z8, sL 2 Qb a0.XO, sL 9 Xa a0.Xd, sL 7 Z5 a0.Zq, .bool a0.Yi.Wr, .int .i64 a0.Yi.Xj, sL 3 Xx a0.Yi.ZK, sL 5 ZD a0.Yi.Zv, .bool a0.YC.Wr, .int .i64 a0.YC.Xj, .str a0.YC.VQ, .str a0.YC.YV, sL 5 ZD a0.YC.Zv, .bool a0.Xb.Wr, .int .i64 a0.Xb.X4, .int .i64 a0.Xb.X5, sL 4 XG a0.Xb.Zl, sL 2 Z9 a0.Xb.Zt, sL 3 Xy a0.Xb.Zr, sL 5 Xu a0.Xb.Zo, sL 5 ZD a0.Xb.Zv], .box [.str (⟨#[]⟩ : ByteArray), .int .i64 0, .sl true 12 0 (fun _ => []), .sl true 2 0 (fun _ => []), .sl true 2 0 (fun _ => []), .sl true 2 0 (fun _ => []), .sl true 9 0 (fun _ => []), .sl true 7 0 (fun _ => []), .bool false, .int .i64 0, .sl true 3 0 (fun _ => []), .sl true 5 0 (fun _ => []), .bool false, .int .i64 0, .str (⟨#[]⟩ : ByteArray), .str (⟨#[]⟩ : ByteArray), .sl true 5 0 (fun _ => []), .bool false, .int .i64 0, .int .i64 0, .sl true 4 0 (fun _ => []), .sl true 2 0 (fun _ => []), .sl true 3 0 (fun _ => []), .sl true 5 0 (fun _ => []), .sl true 5 0 (fun _ => [])], aL 12 Zn ([] : List Zy), aL 2 ZC r2]⟩) (s' := ⟨136, u1, [.box [.str a0.ZW, .int .i64 a0.GN, .sl false 12 r1.length (fun k => (fun i => Zn (r1.getD i default)) (0 + k)), .sl false 2 r2.length (fun k => (fun i => ZC (r2.getD i default)) (0 + k)), sL 2 Z6 a0.Z8, sL 2 Qb a0.XO, sL 9 Xa a0.Xd, sL 7 Z5 a0.Zq, .bool a0.Yi.Wr, .int .i64 a0.Yi.Xj, sL 3 Xx a0.Yi.ZK, sL 5 ZD a0.Yi.Zv, .bool a0.YC.Wr, .int .i64 a0.YC.Xj, .str a0.YC.VQ, .str a0.YC.YV, sL 5 ZD a0.YC.Zv, .bool a0.Xb.Wr, .int .i64 a0.Xb.X4, .int .i64 a0.Xb.X5, sL 4 XG a0.Xb.Zl, sL 2 Z9 a0.Xb.Zt, sL 3 Xy a0.Xb.Zr, sL 5 Xu a0.Xb.Zo, sL 5 ZD a0.Xb.Zv], .box [.str (⟨#[]⟩ : ByteArray), .int .i64 0, .sl true 12 0 (fun _ => []), .sl true 2 0 (fun _ => []), .sl true 2 0 (fun _ => []), .sl true 2 0 (fun _ => []), .sl true 9 0 (fun _ => []), .sl true 7 0 (fun _ => []), .bool false, .int .i64 0, .sl true 3 0 (fun _ => []), .sl true 5 0 (fun _ => []), .bool false, .int .i64 0, .str (⟨#[]⟩ : ByteArray), .str (⟨#[]⟩ : ByteArray), .sl true 5 0 (fun _ => []), .bool false, .int .i64 0, .int .i64 0, .sl true 4 0 (fun _ => []), .sl true 2 0 (fun _ => []), .sl true 3 0 (fun _ => []), .sl true 5 0 (fun _ => []), .sl true 5 0 (fun _ => [])], aL 12 Zn ([] : List Zy), aL 2 ZC ([] : List Z1)]⟩) 3 2 r2.length (fun i => ZC (r2.getD i default)) (fun i => ZC (([] : List Z1).getD i default)) (by kernel_rfl) (by kernel_rfl) (by kernel_rfl)))) (kp [1, 2])) ?_))
 obtain ⟨r6, q15, h16⟩ := bind_some h10
 refine rg [oL 2 Z6 r6] [1, 2] 5 ⟨136, u1, [.box [.str a0.ZW, .int .i64 a0.GN, .sl false 12 r1.length (fun k => (fun i => Zn (r1.getD i default)) (0 + k)), .sl false 2 r2.length (fun k => (fun i => ZC (r2.getD i default)) (0 + k)), .asl 4 0 r6.length, sL 2 Qb a0.XO, sL 9 Xa a0.Xd, sL 7 Z5 a0.Zq, .bool a0.Yi.Wr, .int .i64 a0.Yi.Xj, sL 3 Xx a0.Yi.ZK, sL 5 ZD a0.Yi.Zv, .bool a0.YC.Wr, .int .i64 a0.YC.Xj, .str a0.YC.VQ, .str a0.YC.YV, sL 5 ZD a0.YC.Zv, .bool a0.Xb.Wr, .int .i64 a0.Xb.X4, .int .i64 a0.Xb.X5, sL 4 XG a0.Xb.Zl, sL 2 Z9 a0.Xb.Zt, sL 3 Xy a0.Xb.Zr, sL 5 Xu a0.Xb.Zo, sL 5 ZD a0.Xb.Zv], .box [.str (⟨#[]⟩ : ByteArray), .int .i64 0, .sl true 12 0 (fun _ => []), .sl true 2 0 (fun _ => []), .sl true 2 0 (fun _ => []), .sl true 2 0 (fun _ => []), .sl true 9 0 (fun _ => []), .sl true 7 0 (fun _ => []), .bool false, .int .i64 0, .sl true 3 0 (fun _ => []), .sl true 5 0 (fun _ => []), .bool false, .int .i64 0, .str (⟨#[]⟩ : ByteArray), .str (⟨#[]⟩ : ByteArray), .sl true 5 0 (fun _ => []), .bool false, .int .i64 0, .int .i64 0, .sl true 4 0 (fun _ => []), .sl true 2 0 (fun _ => []), .sl true 3 0 (fun _ => []), .sl true 5 0 (fun _ => []), .sl true 5 0 (fun _ => [])], aL 12 Zn ([] : List Zy), aL 2 ZC ([] : List Z1), aL 2 Z6 r6]⟩ [] [⟨true, 116, [sL 2 Z6 a0.Z8], oL 2 Z6 r6⟩] Zw ⟨fun _ => UC a0.Z8 r6 q15, trivial⟩ (XE (s' := ⟨136, u1, [.box [.str a0.ZW, .int .i64 a0.GN, sL 12 Zn r1, sL 2 ZC r2, .asl 4 0 r6.length, sL 2 Qb a0.XO, sL 9 Xa a0.Xd, sL 7 Z5 a0.Zq, .bool a0.Yi.Wr, .int .i64 a0.Yi.Xj, sL 3 Xx a0.Yi.ZK, sL 5 ZD a0.Yi.Zv, .bool a0.YC.Wr, .int .i64 a0.YC.Xj, .str a0.YC.VQ, .str a0.YC.YV, sL 5 ZD a0.YC.Zv, .bool a0.Xb.Wr, .int .i64 a0.Xb.X4, .int .i64 a0.Xb.X5, sL 4 XG a0.Xb.Zl, sL 2 Z9 a0.Xb.Zt, sL 3 Xy a0.Xb.Zr, sL 5 Xu a0.Xb.Zo, sL 5 ZD a0.Xb.Zv], .box [.str (⟨#[]⟩ : ByteArray), .int .i64 0, .sl true 12 0 (fun _ => []), .sl true 2 0 (fun _ => []), .sl true 2 0 (fun _ => []), .sl true 2 0 (fun _ => []), .sl true 9 0 (fun _ => []), .sl true 7 0 (fun _ => []), .bool false, .int .i64 0, .sl true 3 0 (fun _ => []), .sl true 5 0 (fun _ => []), .bool false, .int .i64 0, .str (⟨#[]⟩ : ByteArray), .str (⟨#[]⟩ : ByteArray), .sl true 5 0 (fun _ => []), .bool false, .int .i64 0, .int .i64 0, .sl true 4 0 (fun _ => []), .sl true 2 0 (fun _ => []), .sl true 3 0 (fun _ => []), .sl true 5 0 (fun _ => []), .sl true 5 0 (fun _ => [])], aL 12 Zn ([] : List Zy), aL 2 ZC ([] : List Z1), aL 2 Z6 r6]⟩) (VX (.cons Sub.rfl (.cons Sub.rfl .nil)) (.cons (.box (.cons CSub.rfl (.cons CSub.rfl (.cons (Kn rfl (RZ (f := fun i => Zn (r1.getD i default)) (fun _ _ => rfl))) (.cons (Kn rfl (RZ (f := fun i => ZC (r2.getD i default)) (fun _ _ => rfl))) (.cons CSub.rfl (.cons CSub.rfl (.cons CSub.rfl (.cons CSub.rfl (.cons CSub.rfl (.cons CSub.rfl (.cons CSub.rfl (.cons CSub.rfl (.cons CSub.rfl (.cons CSub.rfl (.cons CSub.rfl (.cons CSub.rfl (.cons CSub.rfl (.cons CSub.rfl (.cons CSub.rfl (.cons CSub.rfl (.cons CSub.rfl (.cons CSub.rfl (.cons CSub.rfl (.cons CSub.rfl (.cons CSub.rfl .nil)))))))))))))))))))))))))) (.cons .rfl (.cons .rfl (.cons .rfl (.cons .rfl .nil)))))) (Za (Za (zg [1, 2, 39, 40] 5 (Zb (Zj ?_))))))
 obtain ⟨y9, q21, h22⟩ := bind_some h16
 refine zl (fun (p7 : Int) => ⟨136, [(1, .ref 0 0), (2, .ref 1 0), (39, .int .i64 (r6.length : Int)), (40, .int .i64 p7)], [.box [.str a0.ZW, .int .i64 a0.GN, sL 12 Zn r1, sL 2 ZC r2, .asl 4 0 r6.length, sL 2 Qb a0.XO, sL 9 Xa a0.Xd, sL 7 Z5 a0.Zq, .bool a0.Yi.Wr, .int .i64 a0.Yi.Xj, sL 3 Xx a0.Yi.ZK, sL 5 ZD a0.Yi.Zv, .bool a0.YC.Wr, .int .i64 a0.YC.Xj, .str a0.YC.VQ, .str a0.YC.YV, sL 5 ZD a0.YC.Zv, .bool a0.Xb.Wr, .int .i64 a0.Xb.X4, .int .i64 a0.Xb.X5, sL 4 XG a0.Xb.Zl, sL 2 Z9 a0.Xb.Zt, sL 3 Xy a0.Xb.Zr, sL 5 Xu a0.Xb.Zo, sL 5 ZD a0.Xb.Zv], .box [.str (⟨#[]⟩ : ByteArray), .int .i64 0, .sl true 12 0 (fun _ => []), .sl true 2 0 (fun _ => []), .sl true 2 0 (fun _ => []), .sl true 2 0 (fun _ => []), .sl true 9 0 (fun _ => []), .sl true 7 0 (fun _ => []), .bool false, .int .i64 0, .sl true 3 0 (fun _ => []), .sl true 5 0 (fun _ => []), .bool false, .int .i64 0, .str (⟨#[]⟩ : ByteArray), .str (⟨#[]⟩ : ByteArray), .sl true 5 0 (fun _ => []), .bool false, .int .i64 0, .int .i64 0, .sl true 4 0 (fun _ => []), .sl true 2 0 (fun _ => []), .sl true 3 0 (fun _ => []), .sl true 5 0 (fun _ => []), .sl true 5 0 (fun _ => [])], aL 12 Zn ([] : List Zy), aL 2 ZC ([] : List Z1), aL 2 Z6 r6]⟩) (fun z => OutE 2 (fun z => ⟨136, u1, [.box [.str a0.ZW, .int .i64 a0.GN, sL 12 Zn r1, sL 2 ZC r2, .asl 4 0 r6.length, sL 2 Qb a0.XO, sL 9 Xa a0.Xd, sL 7 Z5 a0.Zq, .bool a0.Yi.Wr, .int .i64 a0.Yi.Xj, sL 3 Xx a0.Yi.ZK, sL 5 ZD a0.Yi.Zv, .bool a0.YC.Wr, .int .i64 a0.YC.Xj, .str a0.YC.VQ, .str a0.YC.YV, sL 5 ZD a0.YC.Zv, .bool a0.Xb.Wr, .int .i64 a0.Xb.X4, .int .i64 a0.Xb.X5, sL 4 XG a0.Xb.Zl, sL 2 Z9 a0.Xb.Zt, sL 3 Xy a0.Xb.Zr, sL 5 Xu a0.Xb.Zo, sL 5 ZD a0.Xb.Zv], .box [.str (⟨#[]⟩ : ByteArray), .int .i64 0, .sl true 12 0 (fun _ => []), .sl true 2 0 (fun _ => []), .sl true 2 0 (fun _ => []), .sl true 2 0 (fun _ => []), .sl true 9 0 (fun _ => []), .sl true 7 0 (fun _ => []), .bool false, .int .i64 0, .sl true 3 0 (fun _ => []), .sl true 5 0 (fun _ => []), .bool false, .int .i64 0, .str (⟨#[]⟩ : ByteArray), .str (⟨#[]⟩ : ByteArray), .sl true 5 0 (fun _ => []), .bool false, .int .i64 0, .int .i64 0, .sl true 4 0 (fun _ => []), .sl true 2 0 (fun _ => []), .sl true 3 0 (fun _ => []), .sl true 5 0 (fun _ => []), .sl true 5 0 (fun _ => [])], aL 12 Zn ([] : List Zy), aL 2 ZC ([] : List Z1), aL 2 Z6 r6]⟩) z) q21 ?_ ?_
 intro p7 y8 h17
 unfold M.J2 at h17
 refine Za (zg [1, 2, 39, 40, 41] 5 (Zb (Za (cn h17 (fun _ h19 => ?_) (fun _ h20 => ?_)))))
 refine Ze (Zb (Za (Zj (Za ?_))))
 cases h19
 exact ZV (Xs (re h20 ⟨rfl, kq⟩))
 intro e23 s24 o25
 refine zi o25 (Za (Ug (s' := ⟨136, u1, [.box [.str a0.ZW, .int .i64 a0.GN, sL 12 Zn r1, sL 2 ZC r2, .sl false 2 r6.length (fun k => (fun i => Z6 (r6.getD i default)) (0 + k)), sL 2 Qb a0.XO, sL 9 Xa a0.Xd, sL 7 Z5 a0.Zq, .bool a0.Yi.Wr, .int .i64 a0.Yi.Xj, sL 3 Xx a0.Yi.ZK, sL 5 ZD a0.Yi.Zv, .bool a0.YC.Wr, .int .i64 a0.YC.Xj, .str a0.YC.VQ, .str a0.YC.YV, sL 5 ZD a0.YC.Zv, .bool a0.Xb.Wr, .int .i64 a0.Xb.X4, .int .i64 a0.Xb.X5, sL 4 XG a0.Xb.Zl, sL 2 Z9 a0.Xb.Zt, sL 3 Xy a0.Xb.Zr, sL 5 Xu a0.Xb.Zo, sL 5 ZD a0.Xb.Zv], .box [.str (⟨#[]⟩ : ByteArray), .int .i64 0, .sl true 12 0 (fun _ => []), .sl true 2 0 (fun _ => []), .sl true 2 0 (fun _ => []), .sl true 2 0 (fun _ => []), .sl true 9 0 (fun _ => []), .sl true 7 0 (fun _ => []), .bool false, .int .i64 0, .sl true 3 0 (fun _ => []), .sl true 5 0 (fun _ => []), .bool false, .int .i64 0, .str (⟨#[]⟩ : ByteArray), .str (⟨#[]⟩ : ByteArray), .sl true 5 0 (fun _ => []), .bool false, .int .i64 0, .int .i64 0, .sl true 4 0 (fun _ => []), .sl true 2 0 (fun _ => []), .sl true 3 0 (fun _ => []), .sl true 5 0 (fun _ => []), .sl true 5 0 (fun _ => [])], aL 12 Zn ([] : List Zy), aL 2 ZC ([] : List Z1), aL 2 Z6 ([] : List X1)]⟩) (Le.trans ((ZcA (s := ⟨136, u1, [.box [.str a0.ZW, .int .i64 a0.GN, sL 12 Zn r1, sL 2 ZC r2, .asl 4 0 r6.length, sL 2 Qb a0.XO, sL 9 Xa a0.Xd, sL 7 Z5 a0.Zq, .bool a0.Yi.Wr, .int .i64 a0.Yi.Xj, sL 3 Xx a0.Yi.ZK, sL 5 ZD a0.Yi.Zv, .bool a0.YC.Wr, .int .i64 a0.YC.Xj, .str a0.YC.VQ, .str a0.YC.YV, sL 5 ZD a0.YC.Zv, .bool a0.Xb.Wr, .int .i64 a0.Xb.X4, .int .i64 a0.Xb.X5, sL 4 XG a0.Xb.Zl, sL 2 Z9 a0.Xb.Zt, sL 3 Xy a0.Xb.Zr, sL 5 Xu a0.Xb.Zo, sL 5 ZD a0.Xb.Zv], .box [.str (⟨#[]⟩ : ByteArray), .int .i64 0, .sl true 12 0 (fun _ => []), .sl true 2 0 (fun _ => []), .sl true 2 0 (fun _ => []), .sl true 2 0 (fun _ => []), .sl true 9 0 (fun _ => []), .sl true 7 0 (fun _ => []), .bool false, .int .i64 0, .sl true 3 0 (fun _ => []), .sl true 5 0 (fun _ => []), .bool false, .int .i64 0, .str (⟨#[]⟩ : ByteArray), .str (⟨#[]⟩ : ByteArray), .sl true 5 0 (fun _ => []), .bool false, .int .i64 0, .int .i64 0, .sl true 4 0 (fun _ => []), .sl true 2 0 (fun _ => []), .sl true 3 0 (fun _ => []), .sl true 5 0 (fun _ => []), .sl true 5 0 (fun _ => [])], aL 12 Zn ([] : List Zy), aL 2 ZC ([] : List Z1), aL 2 Z6 r6]⟩) (s' := ⟨136, u1, [.box [.str a0.ZW, .int .i64 a0.GN, sL 12 Zn r1, sL 2 ZC r2, .sl false 2 r6.length (fun k => (fun i => Z6 (r6.getD i default)) (0 + k)), sL 2 Qb a0.XO, sL 9 Xa a0.Xd, sL 7 Z5 a0.Zq, .bool a0.Yi.Wr, .int .i64 a0.Yi.Xj, sL 3 Xx a0.Yi.ZK, sL 5 ZD a0.Yi.Zv, .bool a0.YC.Wr, .int .i64 a0.YC.Xj, .str a0.YC.VQ, .str a0.YC.YV, sL 5 ZD a0.YC.Zv, .bool a0.Xb.Wr, .int .i64 a0.Xb.X4, .int .i64 a0.Xb.X5, sL 4 XG a0.Xb.Zl, sL 2 Z9 a0.Xb.Zt, sL 3 Xy a0.Xb.Zr, sL 5 Xu a0.Xb.Zo, sL 5 ZD a0.Xb.Zv], .box [.str (⟨#[]⟩ : ByteArray), .int .i64 0, .sl true 12 0 (fun _ => []), .sl true 2 0 (fun _ => []), .sl true 2 0 (fun _ => []), .sl true 2 0 (fun _ => []), .sl true 9 0 (fun _ => []), .sl true 7 0 (fun _ => []), .bool false, .int .i64 0, .sl true 3 0 (fun _ => []), .sl true 5 0 (fun _ => []), .bool false, .int .i64 0, .str (⟨#[]⟩ : ByteArray), .str (⟨#[]⟩ : ByteArray), .sl true 5 0 (fun _ => []), .bool false, .int .i64 0, .int .i64 0, .sl true 4 0 (fun _ => []), .sl true 2 0 (fun _ => []), .sl true 3 0 (fun _ => []), .sl true 5 0 (fun _ => []), .sl true 5 0 (fun _ => [])], aL 12 Zn ([] : List Zy), aL 2 ZC ([] : List Z1), aL 2 Z6 ([] : List X1)]⟩) 4 2 r6.length (fun i => Z6 (r6.getD i default)) (fun i => Z6 (([] : List X1).getD i default)) (by kernel_rfl) (by kernel_rfl) (by kernel_rfl))) (kp [1, 2])) ?_))
 obtain ⟨r10, q27, h28⟩ := bind_some h22
 refine rg [oL 2 Qb r10] [1, 2] 6 ⟨136, u1, [.box [.str a0.ZW, .int .i64 a0.GN, sL 12 Zn r1, sL 2 ZC r2, .sl false 2 r6.length (fun k => (fun i => Z6 (r6.getD i default)) (0 + k)), .asl 5 0 r10.length, sL 9 Xa a0.Xd, sL 7 Z5 a0.Zq, .bool a0.Yi.Wr, .int .i64 a0.Yi.Xj, sL 3 Xx a0.Yi.ZK, sL 5 ZD a0.Yi.Zv, .bool a0.YC.Wr, .int .i64 a0.YC.Xj, .str a0.YC.VQ, .str a0.YC.YV, sL 5 ZD a0.YC.Zv, .bool a0.Xb.Wr, .int .i64 a0.Xb.X4, .int .i64 a0.Xb.X5, sL 4 XG a0.Xb.Zl, sL 2 Z9 a0.Xb.Zt, sL 3 Xy a0.Xb.Zr, sL 5 Xu a0.Xb.Zo, sL 5 ZD a0.Xb.Zv], .box [.str (⟨#[]⟩ : ByteArray), .int .i64 0, .sl true 12 0 (fun _ => []), .sl true 2 0 (fun _ => []), .sl true 2 0 (fun _ => []), .sl true 2 0 (fun _ => []), .sl true 9 0 (fun _ => []), .sl true 7 0 (fun _ => []), .bool false, .int .i64 0, .sl true 3 0 (fun _ => []), .sl true 5 0 (fun _ => []), .bool false, .int .i64 0, .str (⟨#[]⟩ : ByteArray), .str (⟨#[]⟩ : ByteArray), .sl true 5 0 (fun _ => []), .bool false, .int .i64 0, .int .i64 0, .sl true 4 0 (fun _ => []), .sl true 2 0 (fun _ => []), .sl true 3 0 (fun _ => []), .sl true 5 0 (fun _ => []), .sl true 5 0 (fun _ => [])], aL 12 Zn ([] : List Zy), aL 2 ZC ([] : List Z1), aL 2 Z6 ([] : List X1), aL 2 Qb r10]⟩ [] [⟨true, 118, [sL 2 Qb a0.XO], oL 2 Qb r10⟩] Zw ⟨fun _ => GR a0.XO r10 q27, trivial⟩ (XE (s' := ⟨136, u1, [.box [.str a0.ZW, .int .i64 a0.GN, sL 12 Zn r1, sL 2 ZC r2, sL 2 Z6 r6, .asl 5 0 r10.length, sL 9 Xa a0.Xd, sL 7 Z5 a0.Zq, .bool a0.Yi.Wr, .int .i64 a0.Yi.Xj, sL 3 Xx a0.Yi.ZK, sL 5 ZD a0.Yi.Zv, .bool a0.YC.Wr, .int .i64 a0.YC.Xj, .str a0.YC.VQ, .str a0.YC.YV, sL 5 ZD a0.YC.Zv, .bool a0.Xb.Wr, .int .i64 a0.Xb.X4, .int .i64 a0.Xb.X5, sL 4 XG a0.Xb.Zl, sL 2 Z9 a0.Xb.Zt, sL 3 Xy a0.Xb.Zr, sL 5 Xu a0.Xb.Zo, sL 5 ZD a0.Xb.Zv], .box [.str (⟨#[]⟩ : ByteArray), .int .i64 0, .sl true 12 0 (fun _ => []), .sl true 2 0 (fun _ => []), .sl true 2 0 (fun _ => []), .sl true 2 0 (fun _ => []), .sl true 9 0 (fun _ => []), .sl true 7 0 (fun _ => []), .bool false, .int .i64 0, .sl true 3 0 (fun _ => []), .sl true 5 0 (fun _ => []), .bool false, .int .i64 0, .str (⟨#[]⟩ : ByteArray), .str (⟨#[]⟩ : ByteArray), .sl true 5 0 (fun _ => []), .bool false, .int .i64 0, .int .i64 0, .sl true 4 0 (fun _ => []), .sl true 2 0 (fun _ => []), .sl true 3 0 (fun _ => []), .sl true 5 0 (fun _ => []), .sl true 5 0 (fun _ => [])], aL 12 Zn ([] : List Zy), aL 2 ZC ([] : List Z1), aL 2 Z6 ([] : List X1), aL 2 Qb r10]⟩) (VX (.cons Sub.rfl (.cons Sub.rfl .nil)) (.cons (.box (.cons CSub.rfl (.cons CSub.rfl (.cons CSub.rfl (.cons CSub.rfl (.cons (Kn rfl (RZ (f := fun i => Z6 (r6.getD i default)) (fun _ _ => rfl))) (.cons CSub.rfl (.cons CSub.rfl (.cons CSub.rfl (.cons CSub.rfl (.cons CSub.rfl (.cons CSub.rfl (.cons CSub.rfl (.cons CSub.rfl (.cons CSub.rfl (.cons CSub.rfl (.cons CSub.rfl (.cons CSub.rfl (.cons CSub.rfl (.cons CSub.rfl (.cons CSub.rfl (.cons CSub.rfl (.cons CSub.rfl (.cons CSub.rfl (.cons CSub.rfl (.cons CSub.rfl .nil)))))))))))))))))))))))))) (.cons .rfl (.cons .rfl (.cons .rfl (.cons .rfl (.cons .rfl .nil))))))) (Za (Za (zg [1, 2, 62, 63] 6 (Zb (Zj ?_))))))
 obtain ⟨y13, q33, h34⟩ := bind_some h28
 refine zl (fun (p11 : Int) => ⟨136, [(1, .ref 0 0), (2, .ref 1 0), (62, .int .i64 (r10.length : Int)), (63, .int .i64 p11)], [.box [.str a0.ZW, .int .i64 a0.GN, sL 12 Zn r1, sL 2 ZC r2, sL 2 Z6 r6, .asl 5 0 r10.length, sL 9 Xa a0.Xd, sL 7 Z5 a0.Zq, .bool a0.Yi.Wr, .int .i64 a0.Yi.Xj, sL 3 Xx a0.Yi.ZK, sL 5 ZD a0.Yi.Zv, .bool a0.YC.Wr, .int .i64 a0.YC.Xj, .str a0.YC.VQ, .str a0.YC.YV, sL 5 ZD a0.YC.Zv, .bool a0.Xb.Wr, .int .i64 a0.Xb.X4, .int .i64 a0.Xb.X5, sL 4 XG a0.Xb.Zl, sL 2 Z9 a0.Xb.Zt, sL 3 Xy a0.Xb.Zr, sL 5 Xu a0.Xb.Zo, sL 5 ZD a0.Xb.Zv], .box [.str (⟨#[]⟩ : ByteArray), .int .i64 0, .sl true 12 0 (fun _ => []), .sl true 2 0 (fun _ => []), .sl true 2 0 (fun _ => []), .sl true 2 0 (fun _ => []), .sl true 9 0 (fun _ => []), .sl true 7 0 (fun _ => []), .bool false, .int .i64 0, .sl true 3 0 (fun _ => []), .sl true 5 0 (fun _ => []), .bool false, .int .i64 0, .str (⟨#[]⟩ : ByteArray), .str (⟨#[]⟩ : ByteArray), .sl true 5 0 (fun _ => []), .bool false, .int .i64 0, .int .i64 0, .sl true 4 0 (fun _ => []), .sl true 2 0 (fun _ => []), .sl true 3 0 (fun _ => []), .sl true 5 0 (fun _ => []), .sl true 5 0 (fun _ => [])], aL 12 Zn ([] : List Zy), aL 2 ZC ([] : List Z1), aL 2 Z6 ([] : List X1), aL 2 Qb r10]⟩) (fun z => OutE 4 (fun z => ⟨136, u1, [.box [.str a0.ZW, .int .i64 a0.GN, sL 12 Zn r1, sL 2 ZC r2, sL 2 Z6 r6, .asl 5 0 r10.length, sL 9 Xa a0.Xd, sL 7 Z5 a0.Zq, .bool a0.Yi.Wr, .int .i64 a0.Yi.Xj, sL 3 Xx a0.Yi.ZK, sL 5 ZD a0.Yi.Zv, .bool a0.YC.Wr, .int .i64 a0.YC.Xj, .str a0.YC.VQ, .str a0.YC.YV, sL 5 ZD a0.YC.Zv, .bool a0.Xb.Wr, .int .i64 a0.Xb.X4, .int .i64 a0.Xb.X5, sL 4 XG a0.Xb.Zl, sL 2 Z9 a0.Xb.Zt, sL 3 Xy a0.Xb.Zr, sL 5 Xu a0.Xb.Zo, sL 5 ZD a0.Xb.Zv], .box [.str (⟨#[]⟩ : ByteArray), .int .i64 0, .sl true 12 0 (fun _ => []), .sl true 2 0 (fun _ => []), .sl true 2 0 (fun _ => []), .sl true 2 0 (fun _ => []), .sl true 9 0 (fun _ => []), .sl true 7 0 (fun _ => []), .bool false, .int .i64 0, .sl true 3 0 (fun _ => []), .sl true 5 0 (fun _ => []), .bool false, .int .i64 0, .str (⟨#[]⟩ : ByteArray), .str (⟨#[]⟩ : ByteArray), .sl true 5 0 (fun _ => []), .bool false, .int .i64 0, .int .i64 0, .sl true 4 0 (fun _ => []), .sl true 2 0 (fun _ => []), .sl true 3 0 (fun _ => []), .sl true 5 0 (fun _ => []), .sl true 5 0 (fun _ => [])], aL 12 Zn ([] : List Zy), aL 2 ZC ([] : List Z1), aL 2 Z6 ([] : List X1), aL 2 Qb r10]⟩) z) q33 ?_ ?_
 intro p11 y12 h29
 unfold M.J3 at h29
 refine Za (zg [1, 2, 62, 63, 64] 6 (Zb (Za (cn h29 (fun _ h31 => ?_) (fun _ h32 => ?_)))))
 refine Ze (Zb (Za (Zj (Za ?_))))
 cases h31
 exact ZV (Xs (re h32 ⟨rfl, kq⟩))
 intro e35 s36 o37
 refine zi o37 (Za (Ug (s' := ⟨136, u1, [.box [.str a0.ZW, .int .i64 a0.GN, sL 12 Zn r1, sL 2 ZC r2, sL 2 Z6 r6, .sl false 2 r10.length (fun k => (fun i => Qb (r10.getD i default)) (0 + k)), sL 9 Xa a0.Xd, sL 7 Z5 a0.Zq, .bool a0.Yi.Wr, .int .i64 a0.Yi.Xj, sL 3 Xx a0.Yi.ZK, sL 5 ZD a0.Yi.Zv, .bool a0.YC.Wr, .int .i64 a0.YC.Xj, .str a0.YC.VQ, .str a0.YC.YV, sL 5 ZD a0.YC.Zv, .bool a0.Xb.Wr, .int .i64 a0.Xb.X4, .int .i64 a0.Xb.X5, sL 4 XG a0.Xb.Zl, sL 2 Z9 a0.Xb.Zt, sL 3 Xy a0.Xb.Zr, sL 5 Xu a0.Xb.Zo, sL 5 ZD a0.Xb.Zv], .box [.str (⟨#[]⟩ : ByteArray), .int .i64 0, .sl true 12 0 (fun _ => []), .sl true 2 0 (fun _ => []), .sl true 2 0 (fun _ => []), .sl true 2 0 (fun _ => []), .sl true 9 0 (fun _ => []), .sl true 7 0 (fun _ => []), .bool false, .int .i64 0, .sl true 3 0 (fun _ => []), .sl true 5 0 (fun _ => []), .bool false, .int .i64 0, .str (⟨#[]⟩ : ByteArray), .str (⟨#[]⟩ : ByteArray), .sl true 5 0 (fun _ => []), .bool false, .int .i64 0, .int .i64 0, .sl true 4 0 (fun _ => []), .sl true 2 0 (fun _ => []), .sl true 3 0 (fun _ => []), .sl true 5 0 (fun _ => []), .sl true 5 0 (fun _ => [])], aL 12 Zn ([] : List Zy), aL 2 ZC ([] : List Z1), aL 2 Z6 ([] : List X1), aL 2 Qb ([] : List WD)]⟩) (Le.trans ((ZcA (s := ⟨136, u1, [.box [.str a0.ZW, .int .i64 a0.GN, sL 12 Zn r1, sL 2 ZC r2, sL 2 Z6 r6, .asl 5 0 r10.length, sL 9 Xa a0.Xd, sL 7 Z5 a0.Zq, .bool a0.Yi.Wr, .int .i64 a0.Yi.Xj, sL 3 Xx a0.Yi.ZK, sL 5 ZD a0.Yi.Zv, .bool a0.YC.Wr, .int .i64 a0.YC.Xj, .str a0.YC.VQ, .str a0.YC.YV, sL 5 ZD a0.YC.Zv, .bool a0.Xb.Wr, .int .i64 a0.Xb.X4, .int .i64 a0.Xb.X5, sL 4 XG a0.Xb.Zl, sL 2 Z9 a0.Xb.Zt, sL 3 Xy a0.Xb.Zr, sL 5 Xu a0.Xb.Zo, sL 5 ZD a0.Xb.Zv], .box [.str (⟨#[]⟩ : ByteArray), .int .i64 0, .sl true 12 0 (fun _ => []), .sl true 2 0 (fun _ => []), .sl true 2 0 (fun _ => []), .sl true 2 0 (fun _ => []), .sl true 9 0 (fun _ => []), .sl true 7 0 (fun _ => []), .bool false, .int .i64 0, .sl true 3 0 (fun _ => []), .sl true 5 0 (fun _ => []), .bool false, .int .i64 0, .str (⟨#[]⟩ : ByteArray), .str (⟨#[]⟩ : ByteArray), .sl true 5 0 (fun _ => []), .bool false, .int .i64 0, .int .i64 0, .sl true 4 0 (fun _ => []), .sl true 2 0 (fun _ => []), .sl true 3 0 (fun _ => []), .sl true 5 0 (fun _ => []), .sl true 5 0 (fun _ => [])], aL 12 Zn ([] : List Zy), aL 2 ZC ([] : List Z1), aL 2 Z6 ([] : List X1), aL 2 Qb r10]⟩) (s' := ⟨136, u1, [.box [.str a0.ZW, .int .i64 a0.GN, sL 12 Zn r1, sL 2 ZC r2, sL 2 Z6 r6, .sl false 2 r10.length (fun k => (fun i => Qb (r10.getD i default)) (0 + k)), sL 9 Xa a0.Xd, sL 7 Z5 a0.Zq, .bool a0.Yi.Wr, .int .i64 a0.Yi.Xj, sL 3 Xx a0.Yi.ZK, sL 5 ZD a0.Yi.Zv, .bool a0.YC.Wr, .int .i64 a0.YC.Xj, .str a0.YC.VQ, .str a0.YC.YV, sL 5 ZD a0.YC.Zv, .bool a0.Xb.Wr, .int .i64 a0.Xb.X4, .int .i64 a0.Xb.X5, sL 4 XG a0.Xb.Zl, sL 2 Z9 a0.Xb.Zt, sL 3 Xy a0.Xb.Zr, sL 5 Xu a0.Xb.Zo, sL 5 ZD a0.Xb.Zv], .box [.str (⟨#[]⟩ : ByteArray), .int .i64 0, .sl true 12 0 (fun _ => []), .sl true 2 0 (fun _ => []), .sl true 2 0 (fun _ => []), .sl true 2 0 (fun _ => []), .sl true 9 0 (fun _ => []), .sl true 7 0 (fun _ => []), .bool false, .int .i64 0, .sl true 3 0 (fun _ => []), .sl true 5 0 (fun _ => []), .bool false, .int .i64 0, .str (⟨#[]⟩ : ByteArray), .str (⟨#[]⟩ : ByteArray), .sl true 5 0 (fun _ => []), .bool false, .int .i64 0, .int .i64 0, .sl true 4 0 (fun _ => []), .sl true 2 0 (fun _ => []), .sl true 3 0 (fun _ => []), .sl true 5 0 (fun _ => []), .sl true 5 0 (fun _ => [])], aL 12 Zn ([] : List Zy), aL 2 ZC ([] : List Z1), aL 2 Z6 ([] : List X1), aL 2 Qb ([] : List WD)]⟩) 5 2 r10.length (fun i => Qb (r10.getD i default)) (fun i => Qb (([] : List WD).getD i default)) (by kernel_rfl) (by kernel_rfl) (by kernel_rfl))) (kp [1, 2])) ?_))
 obtain ⟨r14, q39, h40⟩ := bind_some h34
 refine rg [.pure (sL 9 Xa r14)] [1, 2] 2 ⟨136, u1, [.box [.str a0.ZW, .int .i64 a0.GN, sL 12 Zn r1, sL 2 ZC r2, sL 2 Z6 r6, .sl false 2 r10.length (fun k => (fun i => Qb (r10.getD i default)) (0 + k)), sL 9 Xa r14, sL 7 Z5 a0.Zq, .bool a0.Yi.Wr, .int .i64 a0.Yi.Xj, sL 3 Xx a0.Yi.ZK, sL 5 ZD a0.Yi.Zv, .bool a0.YC.Wr, .int .i64 a0.YC.Xj, .str a0.YC.VQ, .str a0.YC.YV, sL 5 ZD a0.YC.Zv, .bool a0.Xb.Wr, .int .i64 a0.Xb.X4, .int .i64 a0.Xb.X5, sL 4 XG a0.Xb.Zl, sL 2 Z9 a0.Xb.Zt, sL 3 Xy a0.Xb.Zr, sL 5 Xu a0.Xb.Zo, sL 5 ZD a0.Xb.Zv], .box [.str (⟨#[]⟩ : ByteArray), .int .i64 0, .sl true 12 0 (fun _ => []), .sl true 2 0 (fun _ => []), .sl true 2 0 (fun _ => []), .sl true 2 0 (fun _ => []), .sl true 9 0 (fun _ => []), .sl true 7 0 (fun _ => []), .bool false, .int .i64 0, .sl true 3 0 (fun _ => []), .sl true 5 0 (fun _ => []), .bool false, .int .i64 0, .str (⟨#[]⟩ : ByteArray), .str (⟨#[]⟩ : ByteArray), .sl true 5 0 (fun _ => []), .bool false, .int .i64 0, .int .i64 0, .sl true 4 0 (fun _ => []), .sl true 2 0 (fun _ => []), .sl true 3 0 (fun _ => []), .sl true 5 0 (fun _ => []), .sl true 5 0 (fun _ => [])]]⟩ [] [⟨true, 120, [sL 9 Xa a0.Xd], .pure (sL 9 Xa r14)⟩] Zw ⟨fun _ => W1 a0.Xd r14 q39, trivial⟩ (XE (s' := ⟨136, u1, [.box [.str a0.ZW, .int .i64 a0.GN, sL 12 Zn r1, sL 2 ZC r2, sL 2 Z6 r6, sL 2 Qb r10, sL 9 Xa r14, sL 7 Z5 a0.Zq, .bool a0.Yi.Wr, .int .i64 a0.Yi.Xj, sL 3 Xx a0.Yi.ZK, sL 5 ZD a0.Yi.Zv, .bool a0.YC.Wr, .int .i64 a0.YC.Xj, .str a0.YC.VQ, .str a0.YC.YV, sL 5 ZD a0.YC.Zv, .bool a0.Xb.Wr, .int .i64 a0.Xb.X4, .int .i64 a0.Xb.X5, sL 4 XG a0.Xb.Zl, sL 2 Z9 a0.Xb.Zt, sL 3 Xy a0.Xb.Zr, sL 5 Xu a0.Xb.Zo, sL 5 ZD a0.Xb.Zv], .box [.str (⟨#[]⟩ : ByteArray), .int .i64 0, .sl true 12 0 (fun _ => []), .sl true 2 0 (fun _ => []), .sl true 2 0 (fun _ => []), .sl true 2 0 (fun _ => []), .sl true 9 0 (fun _ => []), .sl true 7 0 (fun _ => []), .bool false, .int .i64 0, .sl true 3 0 (fun _ => []), .sl true 5 0 (fun _ => []), .bool false, .int .i64 0, .str (⟨#[]⟩ : ByteArray), .str (⟨#[]⟩ : ByteArray), .sl true 5 0 (fun _ => []), .bool false, .int .i64 0, .int .i64 0, .sl true 4 0 (fun _ => []), .sl true 2 0 (fun _ => []), .sl true 3 0 (fun _ => []), .sl true 5 0 (fun _ => []), .sl true 5 0 (fun _ => [])]]⟩) (VX (.cons Sub.rfl (.cons Sub.rfl .nil)) (.cons (.box (.cons CSub.rfl (.cons CSub.rfl (.cons CSub.rfl (.cons CSub.rfl (.cons CSub.rfl (.cons (Kn rfl (RZ (f := fun i => Qb (r10.getD i default)) (fun _ _ => rfl))) (.cons CSub.rfl (.cons CSub.rfl (.cons CSub.rfl (.cons CSub.rfl (.cons CSub.rfl (.cons CSub.rfl (.cons CSub.rfl (.cons CSub.rfl (.cons CSub.rfl (.cons CSub.rfl (.cons CSub.rfl (.cons CSub.rfl (.cons CSub.rfl (.cons CSub.rfl (.cons CSub.rfl (.cons CSub.rfl (.cons CSub.rfl (.cons CSub.rfl (.cons CSub.rfl .nil)))))))))))))))))))))))))) (.cons .rfl .nil))) (Za ?_))
 obtain ⟨r15, q41, h42⟩ := bind_some h40
 refine zr [1, 2] 2 Zw (rq1 (W2 _ _ q41) rqn) (Zb (Za ?_))
 obtain ⟨r16, q43, h44⟩ := bind_some h42
 refine zr [1, 2] 2 Zw (rq1 (Ur _ _ q43) rqn) (Zb (Za ?_))
 obtain ⟨r17, q45, h46⟩ := bind_some h44
 refine zr [1, 2] 2 Zw (rq1 (Ve _ _ q45) rqn) (Zb (Za ?_))
 obtain ⟨r18, q47, h48⟩ := bind_some h46
 refine zr [1, 2] 2 Zw (rq1 (Ve _ _ q47) rqn) (Zb (Za ?_))
 obtain ⟨r19, q49, h50⟩ := bind_some h48
 refine zr [1, 2] 2 Zw (rq1 (UI _ _ q49) rqn) (Zb (Za ?_))
 obtain ⟨r20, q51, h52⟩ := bind_some h50
 refine zr [1, 2] 2 Zw (rq1 (U9 _ _ q51) rqn) (Zb (Za ?_))
 obtain ⟨r21, q53, h54⟩ := bind_some h52
 refine zr [1, 2] 2 Zw (rq1 (Us _ _ q53) rqn) (Zb (Za ?_))
 obtain ⟨r22, q55, h56⟩ := bind_some h54
 refine zr [1, 2] 2 Zw (rq1 (Ut _ _ q55) rqn) (Zb (Za ?_))
 obtain ⟨r23, q57, h58⟩ := bind_some h56
 refine zr [1, 2] 2 Zw (rq1 (Ve _ _ q57) rqn) (Zb (Za (zg [2] 2 (Zb (Zg ?_)))))
 obtain rfl := Option.some.inj h58
 exact er0 (.agg [.str a0.ZW, .int .i64 a0.GN, sL 12 Zn r1, sL 2 ZC r2, sL 2 Z6 r6, sL 2 Qb r10, sL 9 Xa r14, sL 7 Z5 r15, .bool a0.Yi.Wr, .int .i64 a0.Yi.Xj, sL 3 Xx r16, sL 5 ZD r17, .bool a0.YC.Wr, .int .i64 a0.YC.Xj, .str a0.YC.VQ, .str a0.YC.YV, sL 5 ZD r18, .bool a0.Xb.Wr, .int .i64 a0.Xb.X4, .int .i64 a0.Xb.X5, sL 4 XG r19, sL 2 Z9 r20, sL 3 Xy r21, sL 5 Xu r22, sL 5 ZD r23])
theorem ZbX (a0 : ZX) (r : ZX) (h : M.Vc a0 = some r) : Fn Tryz.prog 48 [.agg (Yg a0)] (.pure (.agg (Yg r))) := by
 let u1 := Yg a0
 unfold M.Vc at h
 refine ZQ Tryz.func48 rfl (by kernel_rfl) (Za (zg [1, 2] 2 (Zb (Za ?_))))
 obtain ⟨r1, q1, h2⟩ := bind_some h
 refine rg [oL 25 Zx r1] [2, 3] 3 ⟨24, [(2, .ref 1 0), (3, .asl 2 0 r1.length)], [.box u1, .box [.sl true 25 0 (fun _ => [])], aL 25 Zx r1]⟩ [] [⟨true, 68, [sL 25 Zx a0.Zd], oL 25 Zx r1⟩] Zw ⟨fun _ => U2 a0.Zd r1 q1, trivial⟩ (Zb (Za (Za (zg [2, 3, 9, 10] 3 (Zb (Zj ?_))))))
 obtain ⟨y5, q11, h12⟩ := bind_some h2
 refine zl (fun (p2 : (List Zf) × Int) => ⟨24, [(2, .ref 1 0), (3, .asl 2 0 p2.1.length), (9, .int .i64 (r1.length : Int)), (10, .int .i64 p2.2)], [.box u1, .box [.sl true 25 0 (fun _ => [])], aL 25 Zx p2.1]⟩) (fun z => OutE 0 (fun z => ⟨24, [(2, .ref 1 0), (3, .asl 2 0 z.length)], [.box u1, .box [.sl true 25 0 (fun _ => [])], aL 25 Zx z]⟩) z) q11 ?_ ?_
 intro p2 y3 h3
 unfold M.JQ at h3
 refine Za (zg [2, 3, 9, 10, 11] 3 (Zb (Za (cn h3 (fun _ h5 => ?_) (fun _ h6 => ?_)))))
 refine Ze (Zb (Za (Zj (Za (zg [2, 3, 4, 9, 10] 3 (Zb ?_))))))
 obtain ⟨r4, q7, h8⟩ := bind_some h5
 obtain ⟨c9, h10⟩ := ZA h8
 exact rg [.pure (.agg (Zx r4))] [2, 3, 9, 10] 3 ⟨24, [(2, .ref 1 0), (3, .asl 2 0 p2.1.length), (9, .int .i64 (r1.length : Int)), (10, .int .i64 p2.2)], [.box (Yg a0), .box [.sl true 25 0 (fun _ => [])], .arr 25 p2.1.length (fun j => bif Nat.beq j (0 + p2.2.toNat) then splice (Zx (p2.1.getD (0 + p2.2.toNat) default)) [.str r4.ZW, .int .i64 r4.GN, sL 12 Zn r4.Zc, sL 2 ZC r4.Xk, sL 2 Z6 r4.Z8, sL 2 Qb r4.XO, sL 9 Xa r4.Xd, sL 7 Z5 r4.Zq, .bool r4.Yi.Wr, .int .i64 r4.Yi.Xj, sL 3 Xx r4.Yi.ZK, sL 5 ZD r4.Yi.Zv, .bool r4.YC.Wr, .int .i64 r4.YC.Xj, .str r4.YC.VQ, .str r4.YC.YV, sL 5 ZD r4.YC.Zv, .bool r4.Xb.Wr, .int .i64 r4.Xb.X4, .int .i64 r4.Xb.X5, sL 4 XG r4.Xb.Zl, sL 2 Z9 r4.Xb.Zt, sL 3 Xy r4.Xb.Zr, sL 5 Xu r4.Xb.Zo, sL 5 ZD r4.Xb.Zv] 0 else Zx (p2.1.getD j default))]⟩ [decide (0 ≤ p2.2), decide (p2.2 < (p2.1.length : Int)), decide (0 ≤ p2.2), decide (p2.2 < (p2.1.length : Int))] [⟨true, 69, [.agg (Zx (p2.1.getD (0 + p2.2.toNat) default))], .pure (.agg (Zx r4))⟩] c9 ⟨fun _ => ZcL (p2.1.getD (0 + p2.2.toNat) default) r4 q7, trivial⟩ (XM (XE (s' := ⟨24, [(2, .ref 1 0), (3, .asl 2 0 ((p2.1.set (0 + p2.2.toNat) r4).length)), (9, .int .i64 (r1.length : Int)), (10, .int .i64 p2.2)], [.box (Yg a0), .box [.sl true 25 0 (fun _ => [])], aL 25 Zx (p2.1.set (0 + p2.2.toNat) r4)]⟩) (VX (.cons Sub.rfl (.cons (Kq (by simp)) (.cons Sub.rfl (.cons Sub.rfl .nil)))) (.cons .rfl (.cons .rfl (.cons (.arr (by simp) (ZlJ Zx p2.1 (0 + p2.2.toNat) r4 _ rfl)) .nil)))) (zg [2, 3, 9, 10] 3 (rn h10))))
 exact ZV (Xs (re h6 ⟨rfl, kq⟩))
 intro e13 s14 o15
 refine zi o15 (Za (Ug (s' := ⟨24, [(2, .ref 1 0), (3, sL 25 Zx y5)], [.box u1, .box [.sl true 25 0 (fun _ => [])], aL 25 Zx ([] : List Zf)]⟩) (Le.trans (ZkP 3 2 25 Zx y5 (fun i => Zx (([] : List Zf).getD i default)) (by kernel_rfl) (by kernel_rfl) (by kernel_rfl)) (kp [2, 3])) (zg [2] 2 (Zb (Zg ?_)))))
 obtain rfl := Option.some.inj h12
 exact er0 (.agg [sL 25 Zx y5])
theorem RH (a0 : List Int) (r : List Int) (h : M.Q8 a0 = some r) : Fn Tryz.prog 49 [sL 1 (ci .i64) a0] (.pure (sL 1 (ci .i64) r)) := by
 unfold M.Q8 at h
 obtain ⟨hc, h1⟩ := ZA h
 obtain rfl := Option.some.inj h1
 refine ZQ Tryz.func49 rfl (by kernel_rfl) (Za (zg [0] 0 (Zb (Za (Za (zg [0, 4] 0 (Zb (nq a0.length (fun hz => ?_) ?_))))))))
 exact Za (zg [2] 0 (Zb (Zg (Zh (er (.sl false 1 0 (fun _ => [])) (GH hz))))))
 exact Ze (Zb (Za (zc [2] 1 hc (Zb (Zg (er (.sl false 1 (0 + a0.length) (fun i => (app (fun i => List.take 1 (List.drop (i * 1) [])) 0 (fun i => (ci .i64) (a0.getD i default))) (0 + i))) (Uv (Nat.zero_add _) (fun i hi => by rw [Nat.zero_add]; exact UQ (ci .i64) _ a0 _ (fun _ _ => rfl) i hi))))))))
theorem Zdz (a0 : ZX) (a1 : List Int) (r : Gj × Int) (h : M.Un a0 a1 = some r) : Fn Tryz.prog 16 [.agg (Yg a0), sL 1 (ci .i64) a1] (.pure (.tup [.agg (Gk r.1), .int .i64 r.2])) := by
 let u2 := Yg a0
 unfold M.Un at h
 refine ZQ Tryz.func16 rfl (by kernel_rfl) (Za (zg [1, 2, 4] 2 (Zb (Za ?_))))
 obtain ⟨r1, q1, h2⟩ := bind_some h
 let u1 : List Ob := [.box u2, .box [.sl true 25 0 (fun _ => []), .sl true 4 0 (fun _ => []), .sl true 1 0 (fun _ => []), .sl true 1 0 (fun _ => [])], .box (Ws r1.1)]
 refine zr [1, 2, 4, 6, 7] 3 Zw (rq1 (Zck _ _ q1) rqn) (Zb (Za (Za (zg [1, 2, 4, 6, 7, 16] 3 (Zb (cn h2 (fun _ h4 => ?_) (fun _ h5 => ?_)))))))
 refine Za ?_
 cases h4
 refine Ze (Zb (Za (Za (zg [1, 2, 4, 6, 21] 3 (Zb (cn h5 (fun _ h7 => ?_) (fun _ h8 => ?_)))))))
 refine Za ?_
 cases h7
 refine Ze (Zb (Za (Za (zg [1, 2, 4, 6, 23, 24, 25] 3 (Zb (Zj ?_))))))
 obtain ⟨y4, q20, h21⟩ := bind_some h8
 refine zl (fun (p2 : Int) => ⟨60, [(1, sL 1 (ci .i64) a1), (2, .ref 0 0), (4, .ref 1 0), (6, .ref 2 0), (23, sL 1 (ci .i64) a1), (24, .int .i64 (a1.length : Int)), (25, .int .i64 p2)], u1⟩) (fun z => OutE 0 (fun z => ⟨60, [(1, sL 1 (ci .i64) a1), (2, .ref 0 0), (4, .ref 1 0), (6, .ref 2 0)], u1⟩) z) q20 ?_ ?_
 intro p2 y3 h9
 unfold M.W0 at h9
 refine Za (zg [1, 2, 4, 6, 23, 24, 25, 26] 3 (Zb (Za (cn h9 (fun _ h11 => ?_) (fun _ h12 => ?_)))))
 refine Ze (Zb (Za (Zj (Za ?_))))
 obtain ⟨c13, h14⟩ := ZA h11
 refine zc [1, 2, 4, 6, 8, 9, 23, 24, 25] 3 c13 (Zb (Za ?_))
 obtain ⟨c15, h16⟩ := ZA h14
 refine zc [1, 2, 4, 6, 23, 24, 25, 51] 3 c15 (Zb (cn h16 (fun _ h18 => ?_) (fun _ h19 => ?_)))
 refine Za ?_
 cases h18
 exact Ze (XM (Zb (zg [1, 2, 4, 6, 23, 24, 25] 3 (rn h19))))
 exact ZV (Xs (re h12 ⟨rfl, kq⟩))
 intro e22 s23 o24
 refine zi o24 (Za ?_)
 obtain ⟨r5, q26, h27⟩ := bind_some h21
 obtain ⟨r6, q28, h29⟩ := bind_some h27
 refine rgw [.pure (.agg (Yg r5)), .pure (sL 1 (ci .i64) r6)] [4, 5] 2 ⟨60, [(4, .ref 1 0), (5, .int .i64 0)], [.box u2, .box [sL 25 Zx r5.Zd, sL 4 ZU r1.1.XT, sL 1 (ci .i64) r1.1.Wy, sL 1 (ci .i64) r6]]⟩ [] [⟨true, 48, [.agg u2], .pure (.agg (Yg r5))⟩, ⟨true, 49, [sL 1 (ci .i64) a1], .pure (sL 1 (ci .i64) r6)⟩] Zw ⟨fun _ => ZbX a0 r5 q26, fun _ => RH a1 r6 q28, trivial⟩ (Zb (Zg ?_))
 obtain rfl := Option.some.inj h29
 exact er0 (.tup [.agg [sL 25 Zx r5.Zd, sL 4 ZU r1.1.XT, sL 1 (ci .i64) r1.1.Wy, sL 1 (ci .i64) r6], .int .i64 0])
theorem GZ (a0 : List VS) (a1 : VS) (r : Int) (h : M.Ym a0 a1 = some r) : Fn Tryz.prog 72 [sL 2 Xq a0, .agg (Xq a1)] (.pure (.int .i64 r)) := by
 unfold M.Ym at h
 refine ZQ Tryz.func72 rfl (by kernel_rfl) (Za (zg [0, 3] 1 (Zb (Za (Za (zg [0, 3, 7, 8] 1 (Zb (Zj ?_))))))))
 obtain ⟨y3, q10, h11⟩ := bind_some h
 refine zl (fun (p1 : Int) => ⟨19, [(0, sL 2 Xq a0), (3, .ref 0 0), (7, .int .i64 (a0.length : Int)), (8, .int .i64 p1)], [.box (Xq a1)]⟩) (Sum.elim (fun z => OutE 0 (fun z => ⟨19, [], []⟩) z) (fun z => OutR Tryz.prog Tryz.f72 (.int .i64 z))) q10 ?_ ?_
 intro p1 y2 h1
 unfold M.Yk at h1
 refine Za (zg [0, 3, 7, 8, 9] 1 (Zb (Za (cn h1 (fun _ h3 => ?_) (fun _ h4 => ?_)))))
 refine Ze (Zb (Za (Zj (Za (zg [0, 3, 5, 7, 8] 1 (Zb (Za ?_)))))))
 obtain ⟨c5, h6⟩ := ZA h3
 refine zc [0, 3, 5, 7, 8, 16] 1 c5 (Zb (cn h6 (fun _ h8 => ?_) (fun _ h9 => ?_)))
 exact Za (zg [4] 0 (Zb (Zg (ZB (Zh (rr h8 ⟨rfl, er0 _⟩))))))
 exact Ze (XM (Zb (zg [0, 3, 7, 8] 1 (rn h9))))
 exact ZV (Xs (re h4 ⟨rfl, kc⟩))
 intro e12 s13 o14
 rcases y3 with g4 | y5
 have h15 := XP h11
 exact zi o14 (Za (zg [4] 0 (Zb (Zg (er1 h15)))))
 have h16 := XQ h11
 obtain ⟨rfl, n18⟩ := o14
 refine ZB (Zh ?_)
 obtain rfl := Option.some.inj h16
 exact n18
theorem Gp (a0 : List VS) (a1 : VS) (r : Bool) (h : M.X7 a0 a1 = some r) : Fn Tryz.prog 54 [sL 2 Xq a0, .agg (Xq a1)] (.pure (.bool r)) := by
 unfold M.X7 at h
 refine ZQ Tryz.func54 rfl (by kernel_rfl) (Za (zg [0, 3] 1 (Zb (Za ?_))))
 obtain ⟨r1, q1, h2⟩ := bind_some h
 exact zr [4] 0 Zw (rq1 (GZ _ _ _ q1) rqn) (Zb (Zg (er1 h2)))
theorem Zbf (a0 : Gj) (a1 : Int) (a2 : Int) (r : Int) (h : M.Ww a0 a1 a2 = some r) : Fn Tryz.prog 25 [.agg (Gk a0), .int .i64 a1, .int .i64 a2] (.pure (.int .i64 r)) := by
 unfold M.Ww at h
 refine ZQ Tryz.func25 rfl (by kernel_rfl) (Za (zg [1, 2, 3] 1 (Zb (Za (zg [3, 7] 2 (Zb (Za (Za (zg [7, 15, 16, 17] 2 (Zb (Zj ?_)))))))))))
 obtain ⟨y4, q12, h13⟩ := bind_some h
 refine zl (fun (p1 : Int) => ⟨28, [(7, .ref 1 0), (15, sL 4 ZU a0.Ub.XT), (16, .int .i64 (a0.Ub.XT.length : Int)), (17, .int .i64 p1)], [.box (Gk a0), .box [.int .i64 a1, .int .i64 a2]]⟩) (Sum.elim (fun z => OutE 0 (fun z => ⟨28, [], []⟩) z) (fun z => OutR Tryz.prog Tryz.f25 (.int .i64 z))) q12 ?_ ?_
 intro p1 y2 h1
 unfold M.Wv at h1
 refine Za (zg [7, 15, 16, 17, 18] 2 (Zb (Za (cn h1 (fun _ h3 => ?_) (fun _ h4 => ?_)))))
 refine Ze (Zb (Za (Zj (Za ?_))))
 obtain ⟨c5, h6⟩ := ZA h3
 refine zc [7, 8, 9, 15, 16, 17] 3 c5 (Zb (Za ?_))
 obtain ⟨r3, q7, h8⟩ := bind_some h6
 refine zr [7, 8, 15, 16, 17, 25] 2 Zw (rq1 (Gp _ _ _ q7) rqn) (Zb (cn h8 (fun _ h10 => ?_) (fun _ h11 => ?_)))
 exact Za (zg [6] 0 (Zb (Zg (ZB (Zh (rr h10 ⟨rfl, er0 _⟩))))))
 exact Ze (XM (Zb (zg [7, 15, 16, 17] 2 (rn h11))))
 exact ZV (Xs (re h4 ⟨rfl, kc⟩))
 intro e14 s15 o16
 rcases y4 with g5 | y6
 have h17 := XP h13
 refine zi o16 (Za ?_)
 cases h17
 have h18 := XQ h13
 obtain ⟨rfl, n20⟩ := o16
 refine ZB (Zh ?_)
 obtain rfl := Option.some.inj h18
 exact n20
theorem Gs (a0 : List Int) (a1 : Int) (r : Int) (h : M.Qa a0 a1 = some r) : Fn Tryz.prog 55 [sL 1 (ci .i64) a0, .int .i64 a1] (.pure (.int .i64 r)) := by
 unfold M.Qa at h
 refine ZQ Tryz.func55 rfl (by kernel_rfl) (Za (zg [0, 1] 0 (Zb (Za (Za (zg [0, 1, 7, 8] 0 (Zb (Zj ?_))))))))
 obtain ⟨y3, q10, h11⟩ := bind_some h
 refine zl (fun (p1 : Int) => ⟨19, [(0, sL 1 (ci .i64) a0), (1, .int .i64 a1), (7, .int .i64 (a0.length : Int)), (8, .int .i64 p1)], []⟩) (Sum.elim (fun z => OutE 0 (fun z => ⟨19, [], []⟩) z) (fun z => OutR Tryz.prog Tryz.f55 (.int .i64 z))) q10 ?_ ?_
 intro p1 y2 h1
 unfold M.QL at h1
 refine Za (zg [0, 1, 7, 8, 9] 0 (Zb (Za (cn h1 (fun _ h3 => ?_) (fun _ h4 => ?_)))))
 refine Ze (Zb (Za (Zj (Za (zg [0, 1, 5, 7, 8] 0 (Zb (Za ?_)))))))
 obtain ⟨c5, h6⟩ := ZA h3
 refine zc [0, 1, 5, 7, 8, 16] 0 c5 (Zb (cn h6 (fun _ h8 => ?_) (fun _ h9 => ?_)))
 exact Za (zg [4] 0 (Zb (Zg (ZB (Zh (rr h8 ⟨rfl, er0 _⟩))))))
 exact Ze (XM (Zb (zg [0, 1, 7, 8] 0 (rn h9))))
 exact ZV (Xs (re h4 ⟨rfl, kq⟩))
 intro e12 s13 o14
 rcases y3 with g4 | y5
 have h15 := XP h11
 exact zi o14 (Za (zg [4] 0 (Zb (Zg (er1 h15)))))
 have h16 := XQ h11
 obtain ⟨rfl, n18⟩ := o14
 refine ZB (Zh ?_)
 obtain rfl := Option.some.inj h16
 exact n18
theorem Zha (a0 : Gj) (a1 : Int) (a2 : Int) (r : Int) (h : M.U5 a0 a1 a2 = some r) : Fn Tryz.prog 27 [.agg (Gk a0), .int .i64 a1, .int .i64 a2] (.pure (.int .i64 r)) := by
 unfold M.U5 at h
 refine ZQ Tryz.func27 rfl (by kernel_rfl) (Za (zg [1, 2, 3] 1 (Zb (Za ?_))))
 obtain ⟨r1, q1, h2⟩ := bind_some h
 refine zr [3, 7] 1 Zw (rq1 (Zbf _ _ _ _ q1) rqn) (Zb (Za (Za (zg [3, 7, 13] 1 (Zb (cn h2 (fun _ h4 => ?_) (fun _ h5 => ?_)))))))
 refine Za ?_
 cases h4
 refine Ze (Zb (Za ?_))
 obtain ⟨r2, q6, h7⟩ := bind_some h5
 exact zr [6] 0 Zw (rq1 (Gs _ _ _ q6) rqn) (Zb (Zg (er1 h7)))
theorem KF (a0 : List Int) (a1 : Int) (r : Bool) (h : M.Qf a0 a1 = some r) : Fn Tryz.prog 56 [sL 1 (ci .i64) a0, .int .i64 a1] (.pure (.bool r)) := by
 unfold M.Qf at h
 refine ZQ Tryz.func56 rfl (by kernel_rfl) (Za (zg [0, 1] 0 (Zb (Za ?_))))
 obtain ⟨r1, q1, h2⟩ := bind_some h
 exact zr [4] 0 Zw (rq1 (Gs _ _ _ q1) rqn) (Zb (Zg (er1 h2)))
theorem ZcM (a0 : Gj) (a1 : Int) (a2 : Int) (r : Bool) (h : M.U6 a0 a1 a2 = some r) : Fn Tryz.prog 29 [.agg (Gk a0), .int .i64 a1, .int .i64 a2] (.pure (.bool r)) := by
 unfold M.U6 at h
 refine ZQ Tryz.func29 rfl (by kernel_rfl) (Za (zg [1, 2, 3] 1 (Zb (Za (Za ?_)))))
 obtain ⟨r1, q1, h2⟩ := bind_some h
 refine zr [1, 2, 3, 12] 1 Zw (rq1 (Zbf _ _ _ _ q1) rqn) (Zb (cn h2 (fun _ h4 => ?_) (fun _ h5 => ?_)))
 refine Za ?_
 cases h4
 refine Ze (Zb (Za ?_))
 obtain ⟨r2, q6, h7⟩ := bind_some h5
 refine zr [3, 7] 1 Zw (rq1 (Zha _ _ _ _ q6) rqn) (Zb (Za ?_))
 obtain ⟨r3, q8, h9⟩ := bind_some h7
 exact zr [6] 0 Zw (rq2 (fun hg => KF _ _ _ (Xc q8 hg)) rqn) (Zb (Zg (er1 h9)))
theorem Zf4  (r : Bool) (h : M.Ux  = some r) : Fn Tryz.prog 15 [] (.pure (.bool r)) := by
 unfold M.Ux at h
 refine ZQ Tryz.func15 rfl (by kernel_rfl) (Za (zg [] 0 (Zb (Za ?_))))
 obtain ⟨r1, q1, h2⟩ := bind_some h
 let u1 := Yg r1
 obtain ⟨r2, q3, h4⟩ := bind_some h2
 refine rg [.pure (.agg u1), .pure (.tup [.agg (Gk r2.1), .int .i64 r2.2])] [1, 2] 1 ⟨49, [(1, .ref 0 0), (2, .int .i64 r2.2)], [.box (Gk r2.1)]⟩ [] [⟨true, 47, [], .pure (.agg u1)⟩, ⟨true, 16, [.agg u1, .nils], .pure (.tup [.agg (Gk r2.1), .int .i64 r2.2])⟩] Zw ⟨fun _ => Zcm  r1 q1, fun _ => (Zdz r1 ([] : List Int) r2 q3).args (.cons ASub.rfl (.cons ZjB .nil)), trivial⟩ (Zb (Za ?_))
 obtain ⟨r3, q5, h6⟩ := bind_some h4
 obtain ⟨r4, q7, h8⟩ := bind_some h6
 refine rg [.pure (.agg (Yg r3)), .pure (.tup [.agg (Gk r4.1), .int .i64 r4.2])] [1, 2, 3, 4] 2 ⟨49, [(1, .ref 0 0), (2, .int .i64 r2.2), (3, .ref 1 0), (4, .int .i64 r4.2)], [.box (Gk r2.1), .box (Gk r4.1)]⟩ [] [⟨true, 47, [], .pure (.agg (Yg r3))⟩, ⟨true, 16, [.agg (Yg r3), .sl false 1 1 (fun i => List.take 1 (List.drop (i * 1) [.int .i64 0]))], .pure (.tup [.agg (Gk r4.1), .int .i64 r4.2])⟩] Zw ⟨fun _ => Zcm  r3 q5, fun _ => (Zdz r3 ([0] : List Int) r4 q7).args (.cons ASub.rfl (.cons (ZgS rfl (fun i hi => match i, hi with | 0, _ => rfl | n + 1, h => absurd h (by omega))) .nil)), trivial⟩ (Zb (Za ?_))
 obtain ⟨r5, q9, h10⟩ := bind_some h8
 obtain ⟨r6, q11, h12⟩ := bind_some h10
 obtain ⟨r7, q13, h14⟩ := bind_some h12
 exact zr [0] 0 Zw (rq2 (fun hg => ZcM _ _ _ _ (Xc q9 hg)) (rq2 (fun hg => ZcM _ _ _ _ (Xc q11 hg)) (rq2 (fun hg => ZcM _ _ _ _ (Xc q13 hg)) rqn))) (Zb (Zg (er1 h14)))
theorem ZbY (a0 : ZX) (r : Bool) (h : M.U7 a0 = some r) : Fn Tryz.prog 3 [.agg (Yg a0)] (.pure (.bool r)) := by
 unfold M.U7 at h
 refine ZQ Tryz.func3 rfl (by kernel_rfl) (Za (zg [1] 1 (Zb (Za (Za ?_)))))
 obtain ⟨r1, q1, h2⟩ := bind_some h
 refine zr [1, 9] 1 Zw (rq1 (ZfE _ _ q1) rqn) (Zb (cn h2 (fun _ h4 => ?_) (fun _ h5 => ?_)))
 exact Za (zg [2] 0 (Zb (Zg (Zh (er1 h4)))))
 refine Ze (Zb (Za ?_))
 obtain ⟨r2, q6, h7⟩ := bind_some h5
 refine zr [1, 3, 4] 2 Zw (rq1 (Zck _ _ q6) rqn) (Zb (Za ?_))
 obtain ⟨r3, q8, h9⟩ := bind_some h7
 refine zr [3, 4, 5, 6] 3 Zw (rq1 (ZfH _ _ q8) rqn) (Zb (Za ?_))
 obtain ⟨r4, q10, h11⟩ := bind_some h9
 obtain ⟨r5, q12, h13⟩ := bind_some h11
 exact rg [.pure (.bool r4), .pure (.bool r5)] [2] 0 ⟨31, [(2, .bool (((r2.2 == r3.2) && r4) && r5))], []⟩ [] [⟨r2.2 == r3.2, 14, [.agg (Ws r2.1), .agg (Ws r3.1)], .pure (.bool r4)⟩, ⟨(r2.2 == r3.2) && r4, 15, [], .pure (.bool r5)⟩] Zw ⟨fun hg => ZaD r2.1 r3.1 r4 (Xc q10 hg), fun hg => Zf4  r5 (Xc q12 hg), trivial⟩ (Zb (Zg (er1 h13)))
end Nv
