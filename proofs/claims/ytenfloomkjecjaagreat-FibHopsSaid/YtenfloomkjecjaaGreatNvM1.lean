/- The walks: each function computes its mirror. -/
import Derived.Test.YtenfloomkjecjaaGreatProg
import Derived.Test.YtenfloomkjecjaaGreatNvD1
import Derived.Test.YtenfloomkjecjaaGreatNvLibC
import Derived.Test.YtenfloomkjecjaaGreatNvLibB
import Derived.KernelRfl
import Derived.Ground.SlsfProg
import Derived.Shelf.Lay
import Derived.Test.YtenfloomkjecjaaGreatNvLibD
import Derived.Test.YtenfloomkjecjaaGreatNvM1a
set_option maxRecDepth 100000
namespace Nv
open Go Go.Proofs
theorem Zin : KeyT Tryz.prog 190 192 3 Z5 topoKeyEq := ⟨by kernel_rfl,⟨_,Tryz.underlying192⟩,⟨3,by kernel_rfl,fun _ => rfl⟩,fun _ => rfl,fun em y w => by cases em <;> kernel_rfl,fun w => by kernel_rfl,fun x y => by kernel_rfl⟩
theorem Zd3 (a0 : ZG) (r : List Zi) (h : M.Wz a0 = some r) : Fn Tryz.prog 99 [.agg (X6 a0)] (oL 4 ZV r) := by
 let u1 : Nat × D := (14,sL 25 Zs a0.Ze)
 let u2 := (a0.Ze.length : Int)
 let u3 := X6 a0
 let u4 : Nat × D := (3,.sl true 4 0 (fun _ => []))
 let u5 := List (Z9 × Int)
 let u6 : St := ⟨82,[(1,.ref 0 0),u4],[.box u3]⟩
 let u7 := List Zi
 unfold M.Wz at h
 obtain ⟨y,hy,h1⟩ := bind_some h
 obtain rfl := Option.some.inj h1
 refine Zca Tryz.func99 rfl (by kernel_rfl) (UX ?_)
 refine Za (rg0 [1] 1 ⟨82,[(1,.ref 0 0)],[.box u3]⟩ ?_)
 refine Zb (Za (rg0 [1,3] 1 u6 ?_))
 refine Zb (Za ?_)
 refine rgo 0 [] [1,3] 1 u6 [] [] Zt trivial (fun u : Value => ⟨82,(12,.val u) :: [(1,.ref 0 0),u4],[.box u3] ++ [.mp u []]⟩) (Zlv rfl rfl rfl rfl rfl) [] [1,3,4] 2 (fun u => ⟨82,[(1,.ref 0 0),u4,(4,.val u)],[.box u3,.mp u []]⟩) (fun _ => []) (fun _ => []) (fun _ => Zt) (fun _ => trivial) (fun u => ?_)
 refine Zb (Za (Za (rg0 [3,4,14,15,16] 2 ⟨82,[u4,(4,.val u),u1,(15,.int .i64 u2),(16,.int .i64 0)],[.box u3,.mp u []]⟩ ?_)))
 refine Xb (Le.trans (s' := ⟨82,(3,.asl 2 0 0) :: [u4,(4,.val u),u1,(15,.int .i64 u2),(16,.int .i64 0)],[.box u3,.mp u []] ++ [.arr 4 0 (fun _ => [])]⟩) (Kp (wd := 4) (f := fun _ => []) 3 (by kernel_rfl) _ _) (Le.trans (s' := ⟨82,[(3,.asl 2 0 0),(4,.val u),u1,(15,.int .i64 u2),(16,.int .i64 0)],[.box u3,.mp u [],.arr 4 0 (fun _ => [])]⟩) (kp [3,4,14,15,16]) (Zid (H := [.box u3,.mp u []]) (wi := 2) (wd := 4) hdDom Xm Zi.ZR _))) ?_
 refine Zg ?_
 refine Kv (Zbs (f := M.Vh a0) (S := fun (p : u7 × u5 × Int) (vs : Nat → Value) => ⟨82,[(3,.asl 2 0 p.1.length),(4,.val u),u1,(15,.int .i64 u2),(16,.int .i64 p.2.2)],[.box u3,mpO u Z5 p.2.1,rA 4 hdDom p.1 vs,rF 2 Xm Zi.ZR p.1 vs]⟩) (O := (fun z => OutL 0 (fun (z : List Zi) (g : (Nat → Value) × u5) => ⟨82,[(3,.asl 2 0 z.length)],[.box u3,mpO u Z5 g.2,rA 4 hdDom z g.1,rF 2 Xm Zi.ZR z g.1]⟩) z)) ?_ (g := fun _ => nilV) (x := ([],[],0)) (y := y) (WG hy)) ?_
 · intro p1 y1 v1 h2
   unfold M.Vh at h2
   refine Za (rg0 [3,4,14,15,16,17] 4 ⟨82,[(3,.asl 2 0 p1.1.length),(4,.val u),u1,(15,.int .i64 u2),(16,.int .i64 p1.2.2),(17,.bool (decide (p1.2.2 < u2)))],[.box u3,mpO u Z5 p1.2.1,rA 4 hdDom p1.1 v1,rF 2 Xm Zi.ZR p1.1 v1]⟩ ?_)
   refine Zb (Za ?_)
   refine cnd (decide (p1.2.2 < u2)) (fun b1 => ?_) (fun b1 => ?_)
   · have h3 := GD b1 h2
     refine Zd (Zb ?_)
     refine Za (Zg (Za ?_))
     obtain ⟨c1,h4⟩ := Zq h3
     refine rgc [3,4,5,6,14,15,16] 5 ⟨82,[(3,.asl 2 0 p1.1.length),(4,.val u),(5,.int .i64 p1.2.2),(6,.ref 4 0),u1,(15,.int .i64 u2),(16,.int .i64 p1.2.2)],[.box u3,mpO u Z5 p1.2.1,rA 4 hdDom p1.1 v1,rF 2 Xm Zi.ZR p1.1 v1,.box (Zs (a0.Ze.getD p1.2.2.toNat default))]⟩ [decide (0 ≤ p1.2.2),decide (p1.2.2 < u2)] c1 ?_
     refine Zb (Za (rg0 [3,4,5,14,15,16,22,23,24] 4 ⟨82,[(3,.asl 2 0 p1.1.length),(4,.val u),(5,.int .i64 p1.2.2),u1,(15,.int .i64 u2),(16,.int .i64 p1.2.2),(22,sL 12 Zj (a0.Ze.getD p1.2.2.toNat default).Zc),(23,.int .i64 ((a0.Ze.getD p1.2.2.toNat default).Zc.length : Int)),(24,.int .i64 0)],[.box u3,mpO u Z5 p1.2.1,rA 4 hdDom p1.1 v1,rF 2 Xm Zi.ZR p1.1 v1]⟩ ?_))
     refine Zb (Zg ?_)
     obtain ⟨y2,hy2,h5⟩ := bind_some h4
     refine Kv (Zbs (f := M.Vg a0 p1.2.2) (S := fun (p : u7 × u5 × Int) (vs : Nat → Value) => ⟨82,[(3,.asl 2 0 p.1.length),(4,.val u),(5,.int .i64 p1.2.2),u1,(15,.int .i64 u2),(16,.int .i64 p1.2.2),(22,sL 12 Zj (a0.Ze.getD p1.2.2.toNat default).Zc),(23,.int .i64 ((a0.Ze.getD p1.2.2.toNat default).Zc.length : Int)),(24,.int .i64 p.2.2)],[.box u3,mpO u Z5 p.2.1,rA 4 hdDom p.1 vs,rF 2 Xm Zi.ZR p.1 vs]⟩) (O := (fun z => OutL 2 (fun (z : u7 × u5) (vs : Nat → Value) => ⟨82,[(3,.asl 2 0 z.1.length),(4,.val u),u1,(15,.int .i64 u2),(16,.int .i64 p1.2.2)],[.box u3,mpO u Z5 z.2,rA 4 hdDom z.1 vs,rF 2 Xm Zi.ZR z.1 vs]⟩) z)) ?_ (g := v1) (x := (p1.1,p1.2.1,0)) (y := y2) (WG hy2)) ?_
     · intro p2 y3 v2 h6
       unfold M.Vg at h6
       refine Za (rg0 [3,4,5,14,15,16,22,23,24,25] 4 ⟨82,[(3,.asl 2 0 p2.1.length),(4,.val u),(5,.int .i64 p1.2.2),u1,(15,.int .i64 u2),(16,.int .i64 p1.2.2),(22,sL 12 Zj (a0.Ze.getD p1.2.2.toNat default).Zc),(23,.int .i64 ((a0.Ze.getD p1.2.2.toNat default).Zc.length : Int)),(24,.int .i64 p2.2.2),(25,.bool (decide (p2.2.2 < ((a0.Ze.getD p1.2.2.toNat default).Zc.length : Int))))],[.box u3,mpO u Z5 p2.2.1,rA 4 hdDom p2.1 v2,rF 2 Xm Zi.ZR p2.1 v2]⟩ ?_)
       refine Zb (Za ?_)
       refine cnd (decide (p2.2.2 < ((a0.Ze.getD p1.2.2.toNat default).Zc.length : Int))) (fun b2 => ?_) (fun b2 => ?_)
       · have h7 := GD b2 h6
         refine Zd (Zb ?_)
         refine Za (Zg (Za ?_))
         obtain ⟨c2,h8⟩ := Zq h7
         refine rgc [3,4,5,7,8,14,15,16,22,23,24] 5 ⟨82,[(3,.asl 2 0 p2.1.length),(4,.val u),(5,.int .i64 p1.2.2),(7,.int .i64 p2.2.2),(8,.ref 4 0),u1,(15,.int .i64 u2),(16,.int .i64 p1.2.2),(22,sL 12 Zj (a0.Ze.getD p1.2.2.toNat default).Zc),(23,.int .i64 ((a0.Ze.getD p1.2.2.toNat default).Zc.length : Int)),(24,.int .i64 p2.2.2)],[.box u3,mpO u Z5 p2.2.1,rA 4 hdDom p2.1 v2,rF 2 Xm Zi.ZR p2.1 v2,.box (Zj ((a0.Ze.getD p1.2.2.toNat default).Zc.getD p2.2.2.toNat default))]⟩ [decide (0 ≤ p2.2.2),decide (p2.2.2 < ((a0.Ze.getD p1.2.2.toNat default).Zc.length : Int))] c2 ?_
         refine Zb (Za (Za ?_))
         refine rg0 [3,4,5,7,8,14,15,16,22,23,24,35] 5 ⟨82,[(3,.asl 2 0 p2.1.length),(4,.val u),(5,.int .i64 p1.2.2),(7,.int .i64 p2.2.2),(8,.ref 4 0),u1,(15,.int .i64 u2),(16,.int .i64 p1.2.2),(22,sL 12 Zj (a0.Ze.getD p1.2.2.toNat default).Zc),(23,.int .i64 ((a0.Ze.getD p1.2.2.toNat default).Zc.length : Int)),(24,.int .i64 p2.2.2),(35,.bool ((((a0.Ze.getD p1.2.2.toNat default).Zc.getD p2.2.2.toNat default).ZL == 0) || ((a0.Ze.getD p1.2.2.toNat default).Zc.getD p2.2.2.toNat default).Jp))],[.box u3,mpO u Z5 p2.2.1,rA 4 hdDom p2.1 v2,rF 2 Xm Zi.ZR p2.1 v2,.box (Zj ((a0.Ze.getD p1.2.2.toNat default).Zc.getD p2.2.2.toNat default))]⟩ ?_
         refine Zb ?_
         refine cnd ((((a0.Ze.getD p1.2.2.toNat default).Zc.getD p2.2.2.toNat default).ZL == 0) || ((a0.Ze.getD p1.2.2.toNat default).Zc.getD p2.2.2.toNat default).Jp) (fun b3 => ?_) (fun b3 => ?_)
         · have h9 := GD b3 h8
           refine ZF (Xl (Y8 ?_))
           refine Zb (rg0 [3,4,5,14,15,16,22,23,24] 4 ⟨82,[(3,.asl 2 0 p2.1.length),(4,.val u),(5,.int .i64 p1.2.2),u1,(15,.int .i64 u2),(16,.int .i64 p1.2.2),(22,sL 12 Zj (a0.Ze.getD p1.2.2.toNat default).Zc),(23,.int .i64 ((a0.Ze.getD p1.2.2.toNat default).Zc.length : Int)),(24,.int .i64 (wr .i64 (p2.2.2 + 1)))],[.box u3,mpO u Z5 p2.2.1,rA 4 hdDom p2.1 v2,rF 2 Xm Zi.ZR p2.1 v2]⟩ ?_)
           obtain rfl := Option.some.inj h9
           exact ZaC v2 UR
         · have h9 := GE b3 h8
           refine Zd (Zb (Za ?_))
           obtain ⟨r,hr,h10⟩ := bind_some h9
           refine rgs 8 9 [.pure (.agg (Xf r))] [3,4,5,7,9,14,15,16,22,23,24] 6 ⟨82,[(3,.asl 2 0 p2.1.length),(4,.val u),(5,.int .i64 p1.2.2),(7,.int .i64 p2.2.2),(9,.ref 5 0),u1,(15,.int .i64 u2),(16,.int .i64 p1.2.2),(22,sL 12 Zj (a0.Ze.getD p1.2.2.toNat default).Zc),(23,.int .i64 ((a0.Ze.getD p1.2.2.toNat default).Zc.length : Int)),(24,.int .i64 p2.2.2)],[.box u3,mpO u Z5 p2.2.1,rA 4 hdDom p2.1 v2,rF 2 Xm Zi.ZR p2.1 v2,.box (Zj ((a0.Ze.getD p1.2.2.toNat default).Zc.getD p2.2.2.toNat default)),.box (Z5 (⟨r,((a0.Ze.getD p1.2.2.toNat default).Zc.getD p2.2.2.toNat default).XH⟩ : Z9))]⟩ [] [⟨true,125,[.int .u32 ((a0.Ze.getD p1.2.2.toNat default).Zc.getD p2.2.2.toNat default).Zn,.int .i64 ((a0.Ze.getD p1.2.2.toNat default).Zc.getD p2.2.2.toNat default).ZL],.pure (.agg (Xf r))⟩] Zt ⟨fun _ => ZeE ((a0.Ze.getD p1.2.2.toNat default).Zc.getD p2.2.2.toNat default).Zn ((a0.Ze.getD p1.2.2.toNat default).Zc.getD p2.2.2.toNat default).ZL r hr,trivial⟩ ?_
           refine Zb (Za ?_)
           refine rgo 2 [] [3,4,5,7,9,14,15,16,22,23,24,45,46] 6 ⟨82,[(3,.asl 2 0 p2.1.length),(4,.val u),(5,.int .i64 p1.2.2),(7,.int .i64 p2.2.2),(9,.ref 5 0),u1,(15,.int .i64 u2),(16,.int .i64 p1.2.2),(22,sL 12 Zj (a0.Ze.getD p1.2.2.toNat default).Zc),(23,.int .i64 ((a0.Ze.getD p1.2.2.toNat default).Zc.length : Int)),(24,.int .i64 p2.2.2),(45,.val u),(46,.agg (Z5 (⟨r,((a0.Ze.getD p1.2.2.toNat default).Zc.getD p2.2.2.toNat default).XH⟩ : Z9)))],[.box u3,mpO u Z5 p2.2.1,rA 4 hdDom p2.1 v2,rF 2 Xm Zi.ZR p2.1 v2,.box (Zj ((a0.Ze.getD p1.2.2.toNat default).Zc.getD p2.2.2.toNat default)),.box (Z5 (⟨r,((a0.Ze.getD p1.2.2.toNat default).Zc.getD p2.2.2.toNat default).XH⟩ : Z9))]⟩ [] [] Zt trivial (fun _ : Unit => ⟨82,(47,.tup [.int .i64 (lkM (topoKeyEq (⟨r,((a0.Ze.getD p1.2.2.toNat default).Zc.getD p2.2.2.toNat default).XH⟩ : Z9)) p2.2.1).1,.bool (lkM (topoKeyEq (⟨r,((a0.Ze.getD p1.2.2.toNat default).Zc.getD p2.2.2.toNat default).XH⟩ : Z9)) p2.2.1).2]) :: [(3,.asl 2 0 p2.1.length),(4,.val u),(5,.int .i64 p1.2.2),(7,.int .i64 p2.2.2),(9,.ref 5 0),u1,(15,.int .i64 u2),(16,.int .i64 p1.2.2),(22,sL 12 Zj (a0.Ze.getD p1.2.2.toNat default).Zc),(23,.int .i64 ((a0.Ze.getD p1.2.2.toNat default).Zc.length : Int)),(24,.int .i64 p2.2.2),(45,.val u),(46,.agg (Z5 (⟨r,((a0.Ze.getD p1.2.2.toNat default).Zc.getD p2.2.2.toNat default).XH⟩ : Z9)))],[.box u3,mpO u Z5 p2.2.1,rA 4 hdDom p2.1 v2,rF 2 Xm Zi.ZR p2.1 v2,.box (Zj ((a0.Ze.getD p1.2.2.toNat default).Zc.getD p2.2.2.toNat default)),.box (Z5 (⟨r,((a0.Ze.getD p1.2.2.toNat default).Zc.getD p2.2.2.toNat default).XH⟩ : Z9))]⟩) (Zlx (id := 1) Zin (⟨r,((a0.Ze.getD p1.2.2.toNat default).Zc.getD p2.2.2.toNat default).XH⟩ : Z9) rfl rfl rfl rfl rfl rfl rfl rfl) [] [3,4,5,7,9,10,11,14,15,16,22,23,24] 6 (fun _ => ⟨82,[(3,.asl 2 0 p2.1.length),(4,.val u),(5,.int .i64 p1.2.2),(7,.int .i64 p2.2.2),(9,.ref 5 0),(10,.int .i64 (lkM (topoKeyEq (⟨r,((a0.Ze.getD p1.2.2.toNat default).Zc.getD p2.2.2.toNat default).XH⟩ : Z9)) p2.2.1).1),(11,.bool (lkM (topoKeyEq (⟨r,((a0.Ze.getD p1.2.2.toNat default).Zc.getD p2.2.2.toNat default).XH⟩ : Z9)) p2.2.1).2),u1,(15,.int .i64 u2),(16,.int .i64 p1.2.2),(22,sL 12 Zj (a0.Ze.getD p1.2.2.toNat default).Zc),(23,.int .i64 ((a0.Ze.getD p1.2.2.toNat default).Zc.length : Int)),(24,.int .i64 p2.2.2)],[.box u3,mpO u Z5 p2.2.1,rA 4 hdDom p2.1 v2,rF 2 Xm Zi.ZR p2.1 v2,.box (Zj ((a0.Ze.getD p1.2.2.toNat default).Zc.getD p2.2.2.toNat default)),.box (Z5 (⟨r,((a0.Ze.getD p1.2.2.toNat default).Zc.getD p2.2.2.toNat default).XH⟩ : Z9))]⟩) (fun _ => []) (fun _ => []) (fun _ => Zt) (fun _ => trivial) (fun _ => ?_)
           refine Zb ?_
           refine Vo (fun (q : u7 × u5 × Int × (Nat → Value)) => ⟨82,[(3,.asl 2 0 q.1.length),(4,.val u),(5,.int .i64 p1.2.2),(7,.int .i64 p2.2.2),(10,.int .i64 q.2.2.1),u1,(15,.int .i64 u2),(16,.int .i64 p1.2.2),(22,sL 12 Zj (a0.Ze.getD p1.2.2.toNat default).Zc),(23,.int .i64 ((a0.Ze.getD p1.2.2.toNat default).Zc.length : Int)),(24,.int .i64 p2.2.2)],[.box u3,mpO u Z5 q.2.1,rA 4 hdDom q.1 q.2.2.2,rF 2 Xm Zi.ZR q.1 q.2.2.2]⟩) (fun q => M.JA p1.2.2 p2 (q.1,q.2.1,q.2.2.1) = some y3) ?_ ?_
           · intro q h11
             unfold M.JA at h11
             obtain ⟨c4,h12⟩ := Zq h11
             have g1 : 0 ≤ q.2.2.1 := of_decide_eq_true (c4 _ (by simp only [List.mem_cons,true_or]))
             have g2 : q.2.2.1 < (q.1.length : Int) := of_decide_eq_true (c4 _ (by simp only [List.mem_cons,true_or,or_true]))
             have g3 : ((q.1.getD (0 + q.2.2.1.toNat) default).ZR.length + 1) * 16 ≤ 140737488355328 := of_decide_eq_true (c4 _ (by simp only [List.mem_cons,true_or,or_true]))
             refine W6 (Zlh (idf := 3) (0 + q.2.2.1.toNat) rfl) ?_
             refine rgxe 12 [] [3,4,5,14,15,16,22,23,24,65,66,76] 5 ⟨82,[(3,.asl 2 0 q.1.length),(4,.val u),(5,.int .i64 p1.2.2),u1,(15,.int .i64 u2),(16,.int .i64 p1.2.2),(22,sL 12 Zj (a0.Ze.getD p1.2.2.toNat default).Zc),(23,.int .i64 ((a0.Ze.getD p1.2.2.toNat default).Zc.length : Int)),(24,.int .i64 p2.2.2),(65,.asl 2 0 q.1.length),(66,.int .i64 q.2.2.1),(76,.asl 4 0 ((q.1.getD (0 + q.2.2.1.toNat) default).ZR.length + 1))],[.box u3,mpO u Z5 q.2.1,rA 4 hdDom q.1 q.2.2.2,.fam (0 + q.2.2.1.toNat) (fun _ => false) q.1.length 2 (updV q.2.2.2 (0 + q.2.2.1.toNat) nilV) (updL (rls Xm Zi.ZR q.1) (0 + q.2.2.1.toNat) (0,fun _ => [])),.arr 2 ((q.1.getD (0 + q.2.2.1.toNat) default).ZR.length + 1) (app (rls Xm Zi.ZR q.1 (0 + q.2.2.1.toNat)).2 (rls Xm Zi.ZR q.1 (0 + q.2.2.1.toNat)).1 (fun i => List.take 2 (List.drop (i * 2) [.int .i64 p1.2.2,.int .i64 p2.2.2])))]⟩ [decide (0 ≤ q.2.2.1),decide (q.2.2.1 < (q.1.length : Int)),pB (q.2.2.2 (0 + q.2.2.1.toNat) = q.2.2.2 (0 + q.2.2.1.toNat)),decide ((0 + q.2.2.1.toNat) < q.1.length),decide (((q.1.getD (0 + q.2.2.1.toNat) default).ZR.length + 1) * 16 ≤ 140737488355328)] [] ?_ trivial _ (Zjw (idf := 3) 76 (0 + q.2.2.1.toNat) rfl rfl rfl ?_ rfl) [] [3,4,5,14,15,16,22,23,24] 4 (fun w => ⟨82,[(3,.asl 2 0 q.1.length),(4,.val u),(5,.int .i64 p1.2.2),u1,(15,.int .i64 u2),(16,.int .i64 p1.2.2),(22,sL 12 Zj (a0.Ze.getD p1.2.2.toNat default).Zc),(23,.int .i64 ((a0.Ze.getD p1.2.2.toNat default).Zc.length : Int)),(24,.int .i64 p2.2.2)],[.box u3,mpO u Z5 q.2.1,.arr 4 q.1.length (fun j => bif Nat.beq j (0 + q.2.2.1.toNat) then splice (hdDom (q.1.getD (0 + q.2.2.1.toNat) default) ++ [.val (q.2.2.2 (0 + q.2.2.1.toNat))]) [.val w] 3 else hdDom (q.1.getD j default) ++ [.val (q.2.2.2 j)]),.fam 0 (fun _ => false) q.1.length 2 (updV (updV q.2.2.2 (0 + q.2.2.1.toNat) nilV) (0 + q.2.2.1.toNat) w) (updL (updL (rls Xm Zi.ZR q.1) (0 + q.2.2.1.toNat) (0,fun _ => [])) (0 + q.2.2.1.toNat) ((q.1.getD (0 + q.2.2.1.toNat) default).ZR.length + 1,(app (rls Xm Zi.ZR q.1 (0 + q.2.2.1.toNat)).2 (rls Xm Zi.ZR q.1 (0 + q.2.2.1.toNat)).1 (fun i => List.take 2 (List.drop (i * 2) [.int .i64 p1.2.2,.int .i64 p2.2.2])))))]⟩) (fun _ => [decide (0 ≤ q.2.2.1),decide (q.2.2.1 < (q.1.length : Int))]) (fun _ => []) ?_ (fun _ => trivial) (fun w => ?_)
             · exact am (decide_eq_true g1) (am (decide_eq_true g2) (am (Zlg rfl) (am (decide_eq_true (by omega)) (am (decide_eq_true g3) Zt))))
             · rw [Uf]; rfl
             · exact fun _ => am (decide_eq_true g1) (am (decide_eq_true g2) Zt)
             refine XO ?_
             refine Xb (s' := ⟨82,[(3,.asl 2 0 (q.1.set (0 + q.2.2.1.toNat) (⟨(q.1.getD (0 + q.2.2.1.toNat) default).Zl,(q.1.getD (0 + q.2.2.1.toNat) default).XH,(q.1.getD (0 + q.2.2.1.toNat) default).ZR ++ [(⟨p1.2.2,p2.2.2⟩ : Vz)]⟩ : Zi)).length),(4,.val u),(5,.int .i64 p1.2.2),(14,sL 25 Zs a0.Ze),(15,.int .i64 (a0.Ze.length : Int)),(16,.int .i64 p1.2.2),(22,sL 12 Zj (a0.Ze.getD p1.2.2.toNat default).Zc),(23,.int .i64 ((a0.Ze.getD p1.2.2.toNat default).Zc.length : Int)),(24,.int .i64 p2.2.2)],[.box (X6 a0),mpO u Z5 q.2.1,rA 4 hdDom (q.1.set (0 + q.2.2.1.toNat) (⟨(q.1.getD (0 + q.2.2.1.toNat) default).Zl,(q.1.getD (0 + q.2.2.1.toNat) default).XH,(q.1.getD (0 + q.2.2.1.toNat) default).ZR ++ [(⟨p1.2.2,p2.2.2⟩ : Vz)]⟩ : Zi)) (updV q.2.2.2 (0 + q.2.2.1.toNat) w),rF 2 Xm Zi.ZR (q.1.set (0 + q.2.2.1.toNat) (⟨(q.1.getD (0 + q.2.2.1.toNat) default).Zl,(q.1.getD (0 + q.2.2.1.toNat) default).XH,(q.1.getD (0 + q.2.2.1.toNat) default).ZR ++ [(⟨p1.2.2,p2.2.2⟩ : Vz)]⟩ : Zi)) (updV q.2.2.2 (0 + q.2.2.1.toNat) w)]⟩) (Le.trans (ZjB 2 3 hdDom Xm Zi.ZR q.1 (⟨(q.1.getD (0 + q.2.2.1.toNat) default).Zl,(q.1.getD (0 + q.2.2.1.toNat) default).XH,(q.1.getD (0 + q.2.2.1.toNat) default).ZR ++ [(⟨p1.2.2,p2.2.2⟩ : Vz)]⟩ : Zi) q.2.2.2 (0 + q.2.2.1.toNat) w ((q.1.getD (0 + q.2.2.1.toNat) default).ZR.length + 1) (app (rls Xm Zi.ZR q.1 (0 + q.2.2.1.toNat)).2 (rls Xm Zi.ZR q.1 (0 + q.2.2.1.toNat)).1 (fun i => List.take 2 (List.drop (i * 2) [.int .i64 p1.2.2,.int .i64 p2.2.2]))) _ _ _ (by decide) rfl rfl (fun j _ hj => by rw [Zcg hj]; rfl) (fun _ => by rw [Nat.beq_refl]; rfl) (fun j hj => GA hj) (fun j hj => Zbo hj) (by simp) (fun i hi => Zaz Xm (q.1.getD (0 + q.2.2.1.toNat) default).ZR (⟨p1.2.2,p2.2.2⟩ : Vz) (fun i => List.take 2 (List.drop (i * 2) [.int .i64 p1.2.2,.int .i64 p2.2.2])) rfl i hi)) (JM (.cons (Wu (by simp)) (.cons Sub.rfl (.cons Sub.rfl (.cons Sub.rfl (.cons Sub.rfl (.cons Sub.rfl (.cons Sub.rfl (.cons Sub.rfl (.cons Sub.rfl .nil))))))))) HSub.rfl)) ?_
             refine rg0 [3,4,5,14,15,16,22,23,24] 4 ⟨82,[(3,.asl 2 0 (q.1.set (0 + q.2.2.1.toNat) (⟨(q.1.getD (0 + q.2.2.1.toNat) default).Zl,(q.1.getD (0 + q.2.2.1.toNat) default).XH,(q.1.getD (0 + q.2.2.1.toNat) default).ZR ++ [(⟨p1.2.2,p2.2.2⟩ : Vz)]⟩ : Zi)).length),(4,.val u),(5,.int .i64 p1.2.2),u1,(15,.int .i64 u2),(16,.int .i64 p1.2.2),(22,sL 12 Zj (a0.Ze.getD p1.2.2.toNat default).Zc),(23,.int .i64 ((a0.Ze.getD p1.2.2.toNat default).Zc.length : Int)),(24,.int .i64 (wr .i64 (p2.2.2 + 1)))],[.box u3,mpO u Z5 q.2.1,rA 4 hdDom (q.1.set (0 + q.2.2.1.toNat) (⟨(q.1.getD (0 + q.2.2.1.toNat) default).Zl,(q.1.getD (0 + q.2.2.1.toNat) default).XH,(q.1.getD (0 + q.2.2.1.toNat) default).ZR ++ [(⟨p1.2.2,p2.2.2⟩ : Vz)]⟩ : Zi)) (updV q.2.2.2 (0 + q.2.2.1.toNat) w),rF 2 Xm Zi.ZR (q.1.set (0 + q.2.2.1.toNat) (⟨(q.1.getD (0 + q.2.2.1.toNat) default).Zl,(q.1.getD (0 + q.2.2.1.toNat) default).XH,(q.1.getD (0 + q.2.2.1.toNat) default).ZR ++ [(⟨p1.2.2,p2.2.2⟩ : Vz)]⟩ : Zi)) (updV q.2.2.2 (0 + q.2.2.1.toNat) w)]⟩ ?_
             obtain rfl := Option.some.inj h12
             exact ZaC (updV q.2.2.2 (0 + q.2.2.1.toNat) w) UR
           · intro hk
             refine Za (rg0 [3,4,5,7,9,10,14,15,16,22,23,24,51] 6 ⟨82,[(3,.asl 2 0 p2.1.length),(4,.val u),(5,.int .i64 p1.2.2),(7,.int .i64 p2.2.2),(9,.ref 5 0),(10,.int .i64 (lkM (topoKeyEq (⟨r,((a0.Ze.getD p1.2.2.toNat default).Zc.getD p2.2.2.toNat default).XH⟩ : Z9)) p2.2.1).1),u1,(15,.int .i64 u2),(16,.int .i64 p1.2.2),(22,sL 12 Zj (a0.Ze.getD p1.2.2.toNat default).Zc),(23,.int .i64 ((a0.Ze.getD p1.2.2.toNat default).Zc.length : Int)),(24,.int .i64 p2.2.2),(51,.bool (!(lkM (topoKeyEq (⟨r,((a0.Ze.getD p1.2.2.toNat default).Zc.getD p2.2.2.toNat default).XH⟩ : Z9)) p2.2.1).2))],[.box u3,mpO u Z5 p2.2.1,rA 4 hdDom p2.1 v2,rF 2 Xm Zi.ZR p2.1 v2,.box (Zj ((a0.Ze.getD p1.2.2.toNat default).Zc.getD p2.2.2.toNat default)),.box (Z5 (⟨r,((a0.Ze.getD p1.2.2.toNat default).Zc.getD p2.2.2.toNat default).XH⟩ : Z9))]⟩ ?_)
             refine Zb ?_
             refine cnd (!(lkM (topoKeyEq (⟨r,((a0.Ze.getD p1.2.2.toNat default).Zc.getD p2.2.2.toNat default).XH⟩ : Z9)) p2.2.1).2) (fun b4 => ?_) (fun b4 => ?_)
             · have h11 := GD b4 h10
               obtain ⟨c4,h12⟩ := Zq h11
               refine Za (rg0 [3,4,5,7,9,10,14,15,16,22,23,24] 6 ⟨82,[(3,.asl 2 0 p2.1.length),(4,.val u),(5,.int .i64 p1.2.2),(7,.int .i64 p2.2.2),(9,.ref 5 0),(10,.int .i64 (p2.1.length : Int)),u1,(15,.int .i64 u2),(16,.int .i64 p1.2.2),(22,sL 12 Zj (a0.Ze.getD p1.2.2.toNat default).Zc),(23,.int .i64 ((a0.Ze.getD p1.2.2.toNat default).Zc.length : Int)),(24,.int .i64 p2.2.2)],[.box u3,mpO u Z5 p2.2.1,rA 4 hdDom p2.1 v2,rF 2 Xm Zi.ZR p2.1 v2,.box (Zj ((a0.Ze.getD p1.2.2.toNat default).Zc.getD p2.2.2.toNat default)),.box (Z5 (⟨r,((a0.Ze.getD p1.2.2.toNat default).Zc.getD p2.2.2.toNat default).XH⟩ : Z9))]⟩ ?_)
               refine Zb (Za ?_)
               refine rgo 3 [] [3,4,5,7,9,10,14,15,16,22,23,24,54,55,56] 6 ⟨82,[(3,.asl 2 0 p2.1.length),(4,.val u),(5,.int .i64 p1.2.2),(7,.int .i64 p2.2.2),(9,.ref 5 0),(10,.int .i64 (p2.1.length : Int)),(14,sL 25 Zs a0.Ze),(15,.int .i64 (a0.Ze.length : Int)),(16,.int .i64 p1.2.2),(22,sL 12 Zj (a0.Ze.getD p1.2.2.toNat default).Zc),(23,.int .i64 ((a0.Ze.getD p1.2.2.toNat default).Zc.length : Int)),(24,.int .i64 p2.2.2),(54,.val u),(55,.agg (Z5 (⟨r,((a0.Ze.getD p1.2.2.toNat default).Zc.getD p2.2.2.toNat default).XH⟩ : Z9))),(56,.int .i64 (p2.1.length : Int))],[.box (X6 a0),mpO u Z5 p2.2.1,rA 4 hdDom p2.1 v2,rF 2 Xm Zi.ZR p2.1 v2,.box (Zj ((a0.Ze.getD p1.2.2.toNat default).Zc.getD p2.2.2.toNat default)),.box (Z5 (⟨r,((a0.Ze.getD p1.2.2.toNat default).Zc.getD p2.2.2.toNat default).XH⟩ : Z9))]⟩ [] [] Zt trivial (fun _ : Unit => ⟨82,[(3,.asl 2 0 p2.1.length),(4,.val u),(5,.int .i64 p1.2.2),(7,.int .i64 p2.2.2),(9,.ref 5 0),(10,.int .i64 (p2.1.length : Int)),(14,sL 25 Zs a0.Ze),(15,.int .i64 (a0.Ze.length : Int)),(16,.int .i64 p1.2.2),(22,sL 12 Zj (a0.Ze.getD p1.2.2.toNat default).Zc),(23,.int .i64 ((a0.Ze.getD p1.2.2.toNat default).Zc.length : Int)),(24,.int .i64 p2.2.2),(54,.val u),(55,.agg (Z5 (⟨r,((a0.Ze.getD p1.2.2.toNat default).Zc.getD p2.2.2.toNat default).XH⟩ : Z9))),(56,.int .i64 (p2.1.length : Int))],[.box (X6 a0),mpO u Z5 (p2.2.1 ++ [((⟨r,((a0.Ze.getD p1.2.2.toNat default).Zc.getD p2.2.2.toNat default).XH⟩ : Z9),(p2.1.length : Int))]),rA 4 hdDom p2.1 v2,rF 2 Xm Zi.ZR p2.1 v2,.box (Zj ((a0.Ze.getD p1.2.2.toNat default).Zc.getD p2.2.2.toNat default)),.box (Z5 (⟨r,((a0.Ze.getD p1.2.2.toNat default).Zc.getD p2.2.2.toNat default).XH⟩ : Z9))]⟩) (Zmz (id := 1) Zin (⟨r,((a0.Ze.getD p1.2.2.toNat default).Zc.getD p2.2.2.toNat default).XH⟩ : Z9) (p2.1.length : Int) rfl rfl rfl rfl rfl rfl rfl rfl (by simpa using b4)) [] [3,4,5,7,9,10,14,15,16,22,23,24] 6 (fun _ => ⟨82,[(3,.asl 2 0 p2.1.length),(4,.val u),(5,.int .i64 p1.2.2),(7,.int .i64 p2.2.2),(9,.ref 5 0),(10,.int .i64 (p2.1.length : Int)),(14,sL 25 Zs a0.Ze),(15,.int .i64 (a0.Ze.length : Int)),(16,.int .i64 p1.2.2),(22,sL 12 Zj (a0.Ze.getD p1.2.2.toNat default).Zc),(23,.int .i64 ((a0.Ze.getD p1.2.2.toNat default).Zc.length : Int)),(24,.int .i64 p2.2.2)],[.box (X6 a0),mpO u Z5 (p2.2.1 ++ [((⟨r,((a0.Ze.getD p1.2.2.toNat default).Zc.getD p2.2.2.toNat default).XH⟩ : Z9),(p2.1.length : Int))]),rA 4 hdDom p2.1 v2,rF 2 Xm Zi.ZR p2.1 v2,.box (Zj ((a0.Ze.getD p1.2.2.toNat default).Zc.getD p2.2.2.toNat default)),.box (Z5 (⟨r,((a0.Ze.getD p1.2.2.toNat default).Zc.getD p2.2.2.toNat default).XH⟩ : Z9))]⟩) (fun _ => []) (fun _ => []) (fun _ => Zt) (fun _ => trivial) (fun _ => ?_)
               refine Zb ?_
               refine rgc [3,4,5,7,10,14,15,16,22,23,24] 4 ⟨82,[(3,.asl 2 0 (p2.1.length + 1)),(4,.val u),(5,.int .i64 p1.2.2),(7,.int .i64 p2.2.2),(10,.int .i64 (p2.1.length : Int)),u1,(15,.int .i64 u2),(16,.int .i64 p1.2.2),(22,sL 12 Zj (a0.Ze.getD p1.2.2.toNat default).Zc),(23,.int .i64 ((a0.Ze.getD p1.2.2.toNat default).Zc.length : Int)),(24,.int .i64 p2.2.2)],[.box u3,mpO u Z5 (p2.2.1 ++ [((⟨r,((a0.Ze.getD p1.2.2.toNat default).Zc.getD p2.2.2.toNat default).XH⟩ : Z9),(p2.1.length : Int))]),.arr 4 (p2.1.length + 1) (app (fun j => hdDom (p2.1.getD j default) ++ [.val (v2 j)]) p2.1.length (fun i => List.take 4 (List.drop (i * 4) [.int .u32 r.Zn,.int .i64 r.ZL,.int .i64 ((a0.Ze.getD p1.2.2.toNat default).Zc.getD p2.2.2.toNat default).XH,.sl true 2 0 (fun _ => [])]))),rF 2 Xm Zi.ZR p2.1 v2]⟩ [decide ((p2.1.length + 1) * 48 ≤ 140737488355328)] c4 ?_
               refine Rf (Zj7 2 3 hdDom Xm Zi.ZR p2.1 (⟨r,((a0.Ze.getD p1.2.2.toNat default).Zc.getD p2.2.2.toNat default).XH,[]⟩ : Zi) v2 (by decide) rfl rfl rfl (fun j hj => Ze8 hj) (Zlz.trans rfl)) fun w => ?_
               exact W6 (JM (.cons (Wu (by simp)) (.cons Sub.rfl (.cons Sub.rfl (.cons Sub.rfl (.cons Sub.rfl (.cons Sub.rfl (.cons Sub.rfl (.cons Sub.rfl (.cons Sub.rfl (.cons Sub.rfl (.cons Sub.rfl .nil))))))))))) HSub.rfl) (hk (p2.1 ++ [(⟨r,((a0.Ze.getD p1.2.2.toNat default).Zc.getD p2.2.2.toNat default).XH,[]⟩ : Zi)],(p2.2.1 ++ [((⟨r,((a0.Ze.getD p1.2.2.toNat default).Zc.getD p2.2.2.toNat default).XH⟩ : Z9),(p2.1.length : Int))]),(p2.1.length : Int),updV v2 p2.1.length w.1) h12)
             · have h11 := GE b4 h10
               refine Zd ?_
               exact Xb (Le.trans (s' := ⟨82,[(3,.asl 2 0 p2.1.length),(4,.val u),(5,.int .i64 p1.2.2),(7,.int .i64 p2.2.2),(10,.int .i64 (lkM (topoKeyEq (⟨r,((a0.Ze.getD p1.2.2.toNat default).Zc.getD p2.2.2.toNat default).XH⟩ : Z9)) p2.2.1).1),u1,(15,.int .i64 u2),(16,.int .i64 p1.2.2),(22,sL 12 Zj (a0.Ze.getD p1.2.2.toNat default).Zc),(23,.int .i64 ((a0.Ze.getD p1.2.2.toNat default).Zc.length : Int)),(24,.int .i64 p2.2.2)],[.box u3,mpO u Z5 p2.2.1,rA 4 hdDom p2.1 v2,rF 2 Xm Zi.ZR p2.1 v2,.box (Zj ((a0.Ze.getD p1.2.2.toNat default).Zc.getD p2.2.2.toNat default)),.box (Z5 (⟨r,((a0.Ze.getD p1.2.2.toNat default).Zc.getD p2.2.2.toNat default).XH⟩ : Z9))]⟩) (kp [3,4,5,7,10,14,15,16,22,23,24]) (UQ (n := 4) (by kernel_rfl))) (hk (p2.1,p2.2.1,(lkM (topoKeyEq (⟨r,((a0.Ze.getD p1.2.2.toNat default).Zc.getD p2.2.2.toNat default).XH⟩ : Z9)) p2.2.1).1,v2) h11)
       · have h7 := GE b2 h6
         refine ZF (Xl ?_)
         obtain rfl := Option.some.inj h7
         exact ZcZ ⟨rfl,LeE.of v2 (kp [3,4,14,15,16])⟩
     · intro e s o
       obtain ⟨rfl,l⟩ := o
       refine Y8 (XO ?_)
       refine Rf l fun v2 => ?_
       refine rg0 [3,4,14,15,16] 4 ⟨82,[(3,.asl 2 0 y2.1.length),(4,.val u),u1,(15,.int .i64 u2),(16,.int .i64 (wr .i64 (p1.2.2 + 1)))],[.box u3,mpO u Z5 y2.2,rA 4 hdDom y2.1 v2,rF 2 Xm Zi.ZR y2.1 v2]⟩ ?_
       obtain rfl := Option.some.inj h5
       exact ZaC v2 UR
   · have h3 := GE b1 h2
     refine ZF (Xl ?_)
     obtain rfl := Option.some.inj h3
     exact ZcZ ⟨rfl,LeE.of (v1,p1.2.1) (kp [3])⟩
 · intro e s o
   obtain ⟨rfl,l⟩ := o
   refine Y8 ?_
   refine Rf l fun g => ?_
   refine Za (rg0 [2] 4 ⟨82,[(2,.asl 2 0 y.length)],[.box u3,mpO u Z5 g.2,rA 4 hdDom y g.1,rF 2 Xm Zi.ZR y g.1]⟩ ?_)
   refine Zb (Zf ?_)
   exact ⟨_,ZjC 2 3 hdDom Xm Zi.ZR ZV y g.1 rfl rfl (fun _ => rfl),.inr rfl,2,2,_,rfl,rfl,rfl,fun _ _ => rfl⟩
theorem ZeF (a0 : ZM) (a1 : ZM) (r : Int) (h : M.VO a0 a1 = some r) : Fn Tryz.prog 102 [.agg (Xf a0),.agg (Xf a1)] (.pure (.int .i64 r)) := by
 unfold M.VO at h
 refine ZE Tryz.func102 rfl (by kernel_rfl) (Za (zg [2,3] 2 (Zb (Za (Za ?_)))))
 obtain ⟨r1,q1,h2⟩ := bind_some h
 refine zr [2,3,5] 2 Zt (rq1 (GW _ _ _ q1) rqn) (Zb (Za (zg [2,3,5,12] 2 (Zb (cn h2 (fun _ h4 => ?_) (fun _ h5 => ?_))))))
 exact Za (zg [4] 0 (Zb (Zf (Zk (er1 h4)))))
 refine Zd (Zb (Za ?_))
 obtain ⟨r2,q6,h7⟩ := bind_some h5
 exact zr [4] 0 Zt (rq1 (Gr _ _ _ q6) rqn) (Zb (Zf (er1 h7)))
theorem ZeG (a0 : Zi) (a1 : Zi) (r : Int) (h : M.Vi a0 a1 = some r) : Fn Tryz.prog 101 [.agg (ZV a0),.agg (ZV a1)] (.pure (.int .i64 r)) := by
 unfold M.Vi at h
 refine ZE Tryz.func101 rfl (by kernel_rfl) (Za (zg [2,3] 2 (Zb (Za ?_))))
 obtain ⟨r1,q1,h2⟩ := bind_some h
 obtain ⟨r2,q3,h4⟩ := bind_some h2
 obtain ⟨r3,q5,h6⟩ := bind_some h4
 exact rg [.pure (.int .i64 r1),.pure (.int .i64 r2),.pure (.int .i64 r3)] [4] 0 ⟨17,[(4,.int .i64 r3)],[]⟩ [] [⟨true,102,[.agg (Xf a0.Zl),.agg (Xf a1.Zl)],.pure (.int .i64 r1)⟩,⟨true,35,[.int .i64 a0.XH,.int .i64 a1.XH],.pure (.int .i64 r2)⟩,⟨true,34,[.sl false 1 2 (fun i => List.take 1 (List.drop (i * 1) [.int .i64 r1,.int .i64 r2]))],.pure (.int .i64 r3)⟩] Zt ⟨fun _ => ZeF a0.Zl a1.Zl r1 q1,fun _ => Gr a0.XH a1.XH r2 q3,fun _ => (ZbY ([r1,r2] : List Int) r3 q5).args (.cons (Zjp rfl (fun i hi => match i,hi with | 0,_ => rfl | 1,_ => rfl | n + 2,h => absurd h (by omega))) .nil),trivial⟩ (Zb (Zf (er1 h6)))
end Nv
namespace Go.Proofs
open Go.Shelf
shelf_lay_g SlLaysF0.n6 Slsf 6 at Tryz 100 as Tryz.sortL100
end Go.Proofs
namespace Nv
open Go Go.Proofs
theorem Wp (a0 : List Zi) (r : List Zi) (h : M.XG a0 = some r) : FnM Tryz.prog 100 [.asl 0 0 a0.length,.fn 101 []] 4 a0.length (fun i => ZV (a0.getD i default)) (fun i => ZV (r.getD i default)) (.tup []) := by
 obtain ⟨cf,h1,h2,h3,h4,rfl⟩ := ZiU h
 exact sortFR0 Tryz.sortL100 4 (fun w => by kernel_rfl) (fun w => by kernel_rfl) ZV (fun _ => rfl) (fun _ => rfl) h2 101 (enters_of Tryz.func101 (by kernel_rfl) rfl) (fun x y => ZeG x y _ (h1 x y)) a0 h3 h4
theorem Zgm (a0 : ZG) (r : JO × Int) (h : M.UF a0 = some r) : Fn Tryz.prog 75 [.agg (X6 a0)] (.pure (.tup [.agg (KT r.1),.int .i64 r.2])) := by
 let u2 := X6 a0
 unfold M.UF at h
 refine ZE Tryz.func75 rfl (by kernel_rfl) (Za (zg [1,2] 2 (Zb (Za (Za ?_)))))
 obtain ⟨r1,q1,h2⟩ := bind_some h
 refine zr [1,2,4] 2 Zt (rq1 (ZfZ _ _ q1) rqn) (Zb (Za (zg [1,2,4,12] 2 (Zb (cn h2 (fun _ h4 => ?_) (fun _ h5 => ?_))))))
 refine Za ?_
 cases h4
 refine Zd (Zb (Za ?_))
 obtain ⟨r2,q6,h7⟩ := bind_some h5
 refine rg [oL 4 ZV r2] [2,5] 3 ⟨45,[(2,.ref 1 0),(5,.asl 2 0 r2.length)],[.box u2,.box [.sl true 4 0 (fun _ => []),.sl true 1 0 (fun _ => [])],aL 4 ZV r2]⟩ [] [⟨true,99,[.agg u2],oL 4 ZV r2⟩] Zt ⟨fun _ => Zd3 a0 r2 q6,trivial⟩ (Zb (Za ?_))
 obtain ⟨r3,q8,h9⟩ := bind_some h7
 let u1 : List Ob := [.box u2,.box [.sl true 4 0 (fun _ => []),.sl true 1 0 (fun _ => [])],aL 4 ZV ([] : List Zi),.box [sL 4 ZV r3,.sl true 1 0 (fun _ => [])]]
 let u3 := (r3.length : Int)
 let u4 : Nat × D := (21,sL 4 ZV r3)
 obtain ⟨c10,h11⟩ := Zq h9
 refine rg [.lnd 0 0 (fun _ => []) (fun i => ZV (r3.getD i default)) (.tup [])] [2,5] 3 ⟨45,[(2,.ref 1 0),(5,.asl 2 0 r2.length)],[.box u2,.box [.sl true 4 0 (fun _ => []),.sl true 1 0 (fun _ => [])],.arr 4 r2.length (fun i => ZV (r3.getD i default))]⟩ [] [⟨true,100,[.asl 0 0 r2.length,.fn 101 []],.lnd 4 r2.length (fun i => ZV (r2.getD i default)) (fun i => ZV (r3.getD i default)) (.tup [])⟩] Zt ⟨fun _ => Wp r2 r3 q8,trivial⟩ (Xb (s' := ⟨45,[(2,.ref 1 0),(5,.asl 2 0 r3.length)],[.box u2,.box [.sl true 4 0 (fun _ => []),.sl true 1 0 (fun _ => [])],aL 4 ZV r3]⟩) (JM (.cons Sub.rfl (.cons (Wu (Zfr (c10 _ List.mem_cons_self))) .nil)) (.cons .rfl (.cons .rfl (.cons (.arr (Zfr (c10 _ List.mem_cons_self)) (fun _ _ => rfl)) .nil)))) (Za (W6 (s' := ⟨45,[(2,.ref 1 0),(5,sL 4 ZV r3)],[.box u2,.box [.sl true 4 0 (fun _ => []),.sl true 1 0 (fun _ => [])],aL 4 ZV ([] : List Zi)]⟩) (Le.trans (Zlc 5 2 4 ZV r3 (fun i => ZV (([] : List Zi).getD i default)) (by kernel_rfl) (by kernel_rfl) (by kernel_rfl)) (kp [2,5])) (zg [2,5,6] 4 (Zb (Za (Za (zg [2,6,21,22,23] 4 (Zb (Zg ?_))))))))))
 obtain ⟨y7,q23,h24⟩ := bind_some h11
 refine zl (fun (p4 : Int) => ⟨45,[(2,.ref 1 0),(6,.ref 3 0),u4,(22,.int .i64 u3),(23,.int .i64 p4)],u1⟩) (fun z => OutE 0 (fun z => ⟨45,[(2,.ref 1 0),(6,.ref 3 0)],u1⟩) z) q23 ?_ ?_
 intro p4 y5 h12
 unfold M.WC at h12
 refine Za (rg0 [2,6,21,22,23,24] 4 ⟨45,[(2,.ref 1 0),(6,.ref 3 0),u4,(22,.int .i64 u3),(23,.int .i64 p4),(24,.bool (decide (p4 < u3)))],u1⟩ (Zb (Za (cn h12 (fun _ h14 => ?_) (fun _ h15 => ?_)))))
 refine Zd (Zb (Vo (fun (p6 : Unit) => ⟨45,[(2,.ref 1 0),(6,.ref 3 0),u4,(22,.int .i64 u3),(23,.int .i64 p4)],u1⟩) (fun p6 => M.Wd p4 p6 = some y5) ?_ ?_))
 intro p6 h17
 unfold M.Wd at h17
 exact zg [2,6,21,22,23] 4 (rn h17)
 intro k16
 refine Zg (Za ?_)
 obtain ⟨c18,h19⟩ := Zq h14
 refine zc [2,6,7,8,21,22,23] 5 c18 (Zb (Za (zg [2,6,7,21,22,23,31] 4 (Zb (cn h19 (fun _ h21 => ?_) (fun _ h22 => ?_))))))
 cases h21
 exact Zd (XO (Xb kq (k16 () h22)))
 exact ZF (Xl (re h15 ⟨rfl,kq⟩))
 intro e25 s26 o27
 refine zi o27 (Za (Za (zg [2,6,42] 4 (Zb (cnd false (fun b29 => Bool.noConfusion b29) (fun _ => (Zd (Zb (Za (zg [2,3] 2 (Zb (Zf ?_))))))))))))
 obtain rfl := Option.some.inj h24
 exact er (.tup [.agg [sL 4 ZV r3,.sl false 1 0 (fun _ => [])],.int .i64 0]) (Zbr (.cons (Kw (.cons CSub.rfl (.cons VV .nil))) (.cons ASub.rfl .nil)))
theorem U2 (a0 : List Zh) (r : List Zh) (h : M.XS a0 = some r) : Fn Tryz.prog 103 [sL 25 Zs a0] (oL 25 Zs r) := by
 unfold M.XS at h
 obtain ⟨hc,h1⟩ := Zq h
 obtain rfl := Option.some.inj h1
 refine Zca Tryz.func103 rfl (by kernel_rfl) (UX ?_)
 refine Za (rg0 [0] 0 ⟨8,[(0,sL 25 Zs a0)],[]⟩ ?_)
 refine Zb (Za (Za (rg0 [0,4] 0 ⟨8,[(0,sL 25 Zs a0),(4,.nilq a0.length)],[]⟩ ?_)))
 refine Zb (nq a0.length (fun hz => ?_) ?_)
 refine Za (rg0 [2] 0 ⟨8,[(2,.sl true 25 0 (fun _ => []))],[]⟩ ?_)
 refine Zb (Zf (Zk ?_))
 obtain rfl := List.eq_nil_of_length_eq_zero hz
 exact ⟨_,Kp (wd := 25) (f := fun _ => []) 2 (by kernel_rfl) 25 (fun i => Zs (([] : List Zh).getD i default)),.inr rfl,2,0,_,rfl,rfl,rfl,fun _ _ => rfl⟩
 refine Zd (Zb (Za (rgc [2] 1 ⟨8,[(2,.asl 0 0 (0 + a0.length))],[.arr 25 (0 + a0.length) (app (fun i => List.take 25 (List.drop (i * 25) [])) 0 (fun i => Zs (a0.getD i default)))]⟩ [decide (0 = 0) || decide (0 < a0.length),decide ((0 + a0.length) * 448 ≤ 140737488355328)] hc ?_)))
 refine Zb (Zf ?_)
 exact ⟨⟨8,[(2,.asl 0 0 a0.length)],[aL 25 Zs a0]⟩,JM (.cons (Wu (Nat.zero_add _)) .nil) (.cons (.arr (Nat.zero_add _) (Uc Zs _ a0 _ (fun _ _ => rfl))) .nil),.inr rfl,2,0,_,rfl,rfl,rfl,fun _ _ => rfl⟩
theorem Ut (a0 : List ZA) (r : List ZA) (h : M.Xq a0 = some r) : Fn Tryz.prog 127 [sL 12 Zj a0] (oL 12 Zj r) := by
 unfold M.Xq at h
 obtain ⟨hc,h1⟩ := Zq h
 obtain rfl := Option.some.inj h1
 refine Zca Tryz.func127 rfl (by kernel_rfl) (UX ?_)
 refine Za (rg0 [0] 0 ⟨8,[(0,sL 12 Zj a0)],[]⟩ ?_)
 refine Zb (Za (Za (rg0 [0,4] 0 ⟨8,[(0,sL 12 Zj a0),(4,.nilq a0.length)],[]⟩ ?_)))
 refine Zb (nq a0.length (fun hz => ?_) ?_)
 refine Za (rg0 [2] 0 ⟨8,[(2,.sl true 12 0 (fun _ => []))],[]⟩ ?_)
 refine Zb (Zf (Zk ?_))
 obtain rfl := List.eq_nil_of_length_eq_zero hz
 exact ⟨_,Kp (wd := 12) (f := fun _ => []) 2 (by kernel_rfl) 12 (fun i => Zj (([] : List ZA).getD i default)),.inr rfl,2,0,_,rfl,rfl,rfl,fun _ _ => rfl⟩
 refine Zd (Zb (Za (rgc [2] 1 ⟨8,[(2,.asl 0 0 (0 + a0.length))],[.arr 12 (0 + a0.length) (app (fun i => List.take 12 (List.drop (i * 12) [])) 0 (fun i => Zj (a0.getD i default)))]⟩ [decide (0 = 0) || decide (0 < a0.length),decide ((0 + a0.length) * 112 ≤ 140737488355328)] hc ?_)))
 refine Zb (Zf ?_)
 exact ⟨⟨8,[(2,.asl 0 0 a0.length)],[aL 12 Zj a0]⟩,JM (.cons (Wu (Nat.zero_add _)) .nil) (.cons (.arr (Nat.zero_add _) (Uc Zj _ a0 _ (fun _ _ => rfl))) .nil),.inr rfl,2,0,_,rfl,rfl,rfl,fun _ _ => rfl⟩
theorem W9 (a0 : List ZW) (r : List ZW) (h : M.Xj a0 = some r) : Fn Tryz.prog 128 [sL 2 Zx a0] (oL 2 Zx r) := by
 unfold M.Xj at h
 obtain ⟨hc,h1⟩ := Zq h
 obtain rfl := Option.some.inj h1
 refine Zca Tryz.func128 rfl (by kernel_rfl) (UX ?_)
 refine Za (rg0 [0] 0 ⟨8,[(0,sL 2 Zx a0)],[]⟩ ?_)
 refine Zb (Za (Za (rg0 [0,4] 0 ⟨8,[(0,sL 2 Zx a0),(4,.nilq a0.length)],[]⟩ ?_)))
 refine Zb (nq a0.length (fun hz => ?_) ?_)
 refine Za (rg0 [2] 0 ⟨8,[(2,.sl true 2 0 (fun _ => []))],[]⟩ ?_)
 refine Zb (Zf (Zk ?_))
 obtain rfl := List.eq_nil_of_length_eq_zero hz
 exact ⟨_,Kp (wd := 2) (f := fun _ => []) 2 (by kernel_rfl) 2 (fun i => Zx (([] : List ZW).getD i default)),.inr rfl,2,0,_,rfl,rfl,rfl,fun _ _ => rfl⟩
 refine Zd (Zb (Za (rgc [2] 1 ⟨8,[(2,.asl 0 0 (0 + a0.length))],[.arr 2 (0 + a0.length) (app (fun i => List.take 2 (List.drop (i * 2) [])) 0 (fun i => Zx (a0.getD i default)))]⟩ [decide (0 = 0) || decide (0 < a0.length),decide ((0 + a0.length) * 40 ≤ 140737488355328)] hc ?_)))
 refine Zb (Zf ?_)
 exact ⟨⟨8,[(2,.asl 0 0 a0.length)],[aL 2 Zx a0]⟩,JM (.cons (Wu (Nat.zero_add _)) .nil) (.cons (.arr (Nat.zero_add _) (Uc Zx _ a0 _ (fun _ _ => rfl))) .nil),.inr rfl,2,0,_,rfl,rfl,rfl,fun _ _ => rfl⟩
theorem UL (a0 : List Yl) (r : List Yl) (h : M.Xz a0 = some r) : Fn Tryz.prog 130 [sL 2 ZS a0] (oL 2 ZS r) := by
 unfold M.Xz at h
 obtain ⟨hc,h1⟩ := Zq h
 obtain rfl := Option.some.inj h1
 refine Zca Tryz.func130 rfl (by kernel_rfl) (UX ?_)
 refine Za (rg0 [0] 0 ⟨8,[(0,sL 2 ZS a0)],[]⟩ ?_)
 refine Zb (Za (Za (rg0 [0,4] 0 ⟨8,[(0,sL 2 ZS a0),(4,.nilq a0.length)],[]⟩ ?_)))
 refine Zb (nq a0.length (fun hz => ?_) ?_)
 refine Za (rg0 [2] 0 ⟨8,[(2,.sl true 2 0 (fun _ => []))],[]⟩ ?_)
 refine Zb (Zf (Zk ?_))
 obtain rfl := List.eq_nil_of_length_eq_zero hz
 exact ⟨_,Kp (wd := 2) (f := fun _ => []) 2 (by kernel_rfl) 2 (fun i => ZS (([] : List Yl).getD i default)),.inr rfl,2,0,_,rfl,rfl,rfl,fun _ _ => rfl⟩
 refine Zd (Zb (Za (rgc [2] 1 ⟨8,[(2,.asl 0 0 (0 + a0.length))],[.arr 2 (0 + a0.length) (app (fun i => List.take 2 (List.drop (i * 2) [])) 0 (fun i => ZS (a0.getD i default)))]⟩ [decide (0 = 0) || decide (0 < a0.length),decide ((0 + a0.length) * 40 ≤ 140737488355328)] hc ?_)))
 refine Zb (Zf ?_)
 exact ⟨⟨8,[(2,.asl 0 0 a0.length)],[aL 2 ZS a0]⟩,JM (.cons (Wu (Nat.zero_add _)) .nil) (.cons (.arr (Nat.zero_add _) (Uc ZS _ a0 _ (fun _ _ => rfl))) .nil),.inr rfl,2,0,_,rfl,rfl,rfl,fun _ _ => rfl⟩
theorem GP (a0 : List US) (r : List US) (h : M.X8 a0 = some r) : Fn Tryz.prog 132 [sL 2 YL a0] (oL 2 YL r) := by
 unfold M.X8 at h
 obtain ⟨hc,h1⟩ := Zq h
 obtain rfl := Option.some.inj h1
 refine Zca Tryz.func132 rfl (by kernel_rfl) (UX ?_)
 refine Za (rg0 [0] 0 ⟨8,[(0,sL 2 YL a0)],[]⟩ ?_)
 refine Zb (Za (Za (rg0 [0,4] 0 ⟨8,[(0,sL 2 YL a0),(4,.nilq a0.length)],[]⟩ ?_)))
 refine Zb (nq a0.length (fun hz => ?_) ?_)
 refine Za (rg0 [2] 0 ⟨8,[(2,.sl true 2 0 (fun _ => []))],[]⟩ ?_)
 refine Zb (Zf (Zk ?_))
 obtain rfl := List.eq_nil_of_length_eq_zero hz
 exact ⟨_,Kp (wd := 2) (f := fun _ => []) 2 (by kernel_rfl) 2 (fun i => YL (([] : List US).getD i default)),.inr rfl,2,0,_,rfl,rfl,rfl,fun _ _ => rfl⟩
 refine Zd (Zb (Za (rgc [2] 1 ⟨8,[(2,.asl 0 0 (0 + a0.length))],[.arr 2 (0 + a0.length) (app (fun i => List.take 2 (List.drop (i * 2) [])) 0 (fun i => YL (a0.getD i default)))]⟩ [decide (0 = 0) || decide (0 < a0.length),decide ((0 + a0.length) * 40 ≤ 140737488355328)] hc ?_)))
 refine Zb (Zf ?_)
 exact ⟨⟨8,[(2,.asl 0 0 a0.length)],[aL 2 YL a0]⟩,JM (.cons (Wu (Nat.zero_add _)) .nil) (.cons (.arr (Nat.zero_add _) (Uc YL _ a0 _ (fun _ _ => rfl))) .nil),.inr rfl,2,0,_,rfl,rfl,rfl,fun _ _ => rfl⟩
theorem W3 (a0 : List Qx) (r : List Qx) (h : M.Xd a0 = some r) : Fn Tryz.prog 134 [sL 9 ZX a0] (.pure (sL 9 ZX r)) := by
 unfold M.Xd at h
 obtain ⟨hc,h1⟩ := Zq h
 obtain rfl := Option.some.inj h1
 refine ZE Tryz.func134 rfl (by kernel_rfl) (Za (zg [0] 0 (Zb (Za (Za (zg [0,4] 0 (Zb (nq a0.length (fun hz => ?_) ?_))))))))
 exact Za (zg [2] 0 (Zb (Zf (Zk (er (.sl false 9 0 (fun _ => [])) (GG hz))))))
 exact Zd (Zb (Za (zc [2] 1 hc (Zb (Zf (er (.sl false 9 (0 + a0.length) (fun i => (app (fun i => List.take 9 (List.drop (i * 9) [])) 0 (fun i => ZX (a0.getD i default))) (0 + i))) (Gb (Nat.zero_add _) (fun i hi => by rw [Nat.zero_add]; exact Uc ZX _ a0 _ (fun _ _ => rfl) i hi))))))))
theorem W4 (a0 : List X2) (r : List X2) (h : M.Xe a0 = some r) : Fn Tryz.prog 135 [sL 7 ZO a0] (.pure (sL 7 ZO r)) := by
 unfold M.Xe at h
 obtain ⟨hc,h1⟩ := Zq h
 obtain rfl := Option.some.inj h1
 refine ZE Tryz.func135 rfl (by kernel_rfl) (Za (zg [0] 0 (Zb (Za (Za (zg [0,4] 0 (Zb (nq a0.length (fun hz => ?_) ?_))))))))
 exact Za (zg [2] 0 (Zb (Zf (Zk (er (.sl false 7 0 (fun _ => [])) (GG hz))))))
 exact Zd (Zb (Za (zc [2] 1 hc (Zb (Zf (er (.sl false 7 (0 + a0.length) (fun i => (app (fun i => List.take 7 (List.drop (i * 7) [])) 0 (fun i => ZO (a0.getD i default))) (0 + i))) (Gb (Nat.zero_add _) (fun i hi => by rw [Nat.zero_add]; exact Uc ZO _ a0 _ (fun _ _ => rfl) i hi))))))))
theorem Uu (a0 : List VY) (r : List VY) (h : M.Xr a0 = some r) : Fn Tryz.prog 136 [sL 3 XE a0] (.pure (sL 3 XE r)) := by
 unfold M.Xr at h
 obtain ⟨hc,h1⟩ := Zq h
 obtain rfl := Option.some.inj h1
 refine ZE Tryz.func136 rfl (by kernel_rfl) (Za (zg [0] 0 (Zb (Za (Za (zg [0,4] 0 (Zb (nq a0.length (fun hz => ?_) ?_))))))))
 exact Za (zg [2] 0 (Zb (Zf (Zk (er (.sl false 3 0 (fun _ => [])) (GG hz))))))
 exact Zd (Zb (Za (zc [2] 1 hc (Zb (Zf (er (.sl false 3 (0 + a0.length) (fun i => (app (fun i => List.take 3 (List.drop (i * 3) [])) 0 (fun i => XE (a0.getD i default))) (0 + i))) (Gb (Nat.zero_add _) (fun i hi => by rw [Nat.zero_add]; exact Uc XE _ a0 _ (fun _ _ => rfl) i hi))))))))
theorem JV (a0 : List Qt) (r : List Qt) (h : M.Z6 a0 = some r) : Fn Tryz.prog 137 [sL 5 ZB a0] (.pure (sL 5 ZB r)) := by
 unfold M.Z6 at h
 obtain ⟨hc,h1⟩ := Zq h
 obtain rfl := Option.some.inj h1
 refine ZE Tryz.func137 rfl (by kernel_rfl) (Za (zg [0] 0 (Zb (Za (Za (zg [0,4] 0 (Zb (nq a0.length (fun hz => ?_) ?_))))))))
 exact Za (zg [2] 0 (Zb (Zf (Zk (er (.sl false 5 0 (fun _ => [])) (GG hz))))))
 exact Zd (Zb (Za (zc [2] 1 hc (Zb (Zf (er (.sl false 5 (0 + a0.length) (fun i => (app (fun i => List.take 5 (List.drop (i * 5) [])) 0 (fun i => ZB (a0.getD i default))) (0 + i))) (Gb (Nat.zero_add _) (fun i hi => by rw [Nat.zero_add]; exact Uc ZB _ a0 _ (fun _ _ => rfl) i hi))))))))
theorem UN (a0 : List Vq) (r : List Vq) (h : M.XA a0 = some r) : Fn Tryz.prog 138 [sL 4 XQ a0] (.pure (sL 4 XQ r)) := by
 unfold M.XA at h
 obtain ⟨hc,h1⟩ := Zq h
 obtain rfl := Option.some.inj h1
 refine ZE Tryz.func138 rfl (by kernel_rfl) (Za (zg [0] 0 (Zb (Za (Za (zg [0,4] 0 (Zb (nq a0.length (fun hz => ?_) ?_))))))))
 exact Za (zg [2] 0 (Zb (Zf (Zk (er (.sl false 4 0 (fun _ => [])) (GG hz))))))
 exact Zd (Zb (Za (zc [2] 1 hc (Zb (Zf (er (.sl false 4 (0 + a0.length) (fun i => (app (fun i => List.take 4 (List.drop (i * 4) [])) 0 (fun i => XQ (a0.getD i default))) (0 + i))) (Gb (Nat.zero_add _) (fun i hi => by rw [Nat.zero_add]; exact Uc XQ _ a0 _ (fun _ _ => rfl) i hi))))))))
theorem U7 (a0 : List ZM) (r : List ZM) (h : M.XT a0 = some r) : Fn Tryz.prog 139 [sL 2 Xf a0] (.pure (sL 2 Xf r)) := by
 unfold M.XT at h
 obtain ⟨hc,h1⟩ := Zq h
 obtain rfl := Option.some.inj h1
 refine ZE Tryz.func139 rfl (by kernel_rfl) (Za (zg [0] 0 (Zb (Za (Za (zg [0,4] 0 (Zb (nq a0.length (fun hz => ?_) ?_))))))))
 exact Za (zg [2] 0 (Zb (Zf (Zk (er (.sl false 2 0 (fun _ => [])) (GG hz))))))
 exact Zd (Zb (Za (zc [2] 1 hc (Zb (Zf (er (.sl false 2 (0 + a0.length) (fun i => (app (fun i => List.take 2 (List.drop (i * 2) [])) 0 (fun i => Xf (a0.getD i default))) (0 + i))) (Gb (Nat.zero_add _) (fun i hi => by rw [Nat.zero_add]; exact Uc Xf _ a0 _ (fun _ _ => rfl) i hi))))))))
theorem Uv (a0 : List VZ) (r : List VZ) (h : M.Xs a0 = some r) : Fn Tryz.prog 140 [sL 3 XF a0] (.pure (sL 3 XF r)) := by
 unfold M.Xs at h
 obtain ⟨hc,h1⟩ := Zq h
 obtain rfl := Option.some.inj h1
 refine ZE Tryz.func140 rfl (by kernel_rfl) (Za (zg [0] 0 (Zb (Za (Za (zg [0,4] 0 (Zb (nq a0.length (fun hz => ?_) ?_))))))))
 exact Za (zg [2] 0 (Zb (Zf (Zk (er (.sl false 3 0 (fun _ => [])) (GG hz))))))
 exact Zd (Zb (Za (zc [2] 1 hc (Zb (Zf (er (.sl false 3 (0 + a0.length) (fun i => (app (fun i => List.take 3 (List.drop (i * 3) [])) 0 (fun i => XF (a0.getD i default))) (0 + i))) (Gb (Nat.zero_add _) (fun i hi => by rw [Nat.zero_add]; exact Uc XF _ a0 _ (fun _ _ => rfl) i hi))))))))
theorem Uw (a0 : List V0) (r : List V0) (h : M.Xt a0 = some r) : Fn Tryz.prog 141 [sL 5 Xy a0] (.pure (sL 5 Xy r)) := by
 unfold M.Xt at h
 obtain ⟨hc,h1⟩ := Zq h
 obtain rfl := Option.some.inj h1
 refine ZE Tryz.func141 rfl (by kernel_rfl) (Za (zg [0] 0 (Zb (Za (Za (zg [0,4] 0 (Zb (nq a0.length (fun hz => ?_) ?_))))))))
 exact Za (zg [2] 0 (Zb (Zf (Zk (er (.sl false 5 0 (fun _ => [])) (GG hz))))))
 exact Zd (Zb (Za (zc [2] 1 hc (Zb (Zf (er (.sl false 5 (0 + a0.length) (fun i => (app (fun i => List.take 5 (List.drop (i * 5) [])) 0 (fun i => Xy (a0.getD i default))) (0 + i))) (Gb (Nat.zero_add _) (fun i hi => by rw [Nat.zero_add]; exact Uc Xy _ a0 _ (fun _ _ => rfl) i hi))))))))
theorem Zct (a0 : Zh) (r : Zh) (h : M.Vj a0 = some r) : Fn Tryz.prog 104 [.agg (Zs a0)] (.pure (.agg (Zs r))) := by
 let u1 : List (Nat × D) := [(1,.ref 0 0),(2,.ref 1 0)]
 unfold M.Vj at h
 refine ZE Tryz.func104 rfl (by kernel_rfl) (Za (zg [1,2] 2 (Zb (Za ?_))))
 obtain ⟨r1,q1,h2⟩ := bind_some h
 refine rg [oL 12 Zj r1] [1,2] 3 ⟨136,u1,[.box [.str a0.XB,.int .i64 a0.Kq,.asl 2 0 r1.length,sL 2 Zx a0.YM,sL 2 ZS a0.XJ,sL 2 YL a0.YW,sL 9 ZX a0.Xc,sL 7 ZO a0.Zp,.bool a0.Yw.We,.int .i64 a0.Yw.Z2,sL 3 XE a0.Yw.Z4,sL 5 ZB a0.Yw.Zu,.bool a0.YC.We,.int .i64 a0.YC.Z2,.str a0.YC.Ww,.str a0.YC.Qr,sL 5 ZB a0.YC.Zu,.bool a0.Xv.We,.int .i64 a0.Xv.XZ,.int .i64 a0.Xv.X0,sL 4 XQ a0.Xv.Zo,sL 2 Xf a0.Xv.ZT,sL 3 XF a0.Xv.ZC,sL 5 Xy a0.Xv.Zv,sL 5 ZB a0.Xv.Zu],.box [.str (⟨#[]⟩ : ByteArray),.int .i64 0,.sl true 12 0 (fun _ => []),.sl true 2 0 (fun _ => []),.sl true 2 0 (fun _ => []),.sl true 2 0 (fun _ => []),.sl true 9 0 (fun _ => []),.sl true 7 0 (fun _ => []),.bool false,.int .i64 0,.sl true 3 0 (fun _ => []),.sl true 5 0 (fun _ => []),.bool false,.int .i64 0,.str (⟨#[]⟩ : ByteArray),.str (⟨#[]⟩ : ByteArray),.sl true 5 0 (fun _ => []),.bool false,.int .i64 0,.int .i64 0,.sl true 4 0 (fun _ => []),.sl true 2 0 (fun _ => []),.sl true 3 0 (fun _ => []),.sl true 5 0 (fun _ => []),.sl true 5 0 (fun _ => [])],aL 12 Zj r1]⟩ [] [⟨true,127,[sL 12 Zj a0.Zc],oL 12 Zj r1⟩] Zt ⟨fun _ => Ut a0.Zc r1 q1,trivial⟩ (Zb (Za ?_))
 obtain ⟨r2,q3,h4⟩ := bind_some h2
 refine rg [oL 2 Zx r2] [1,2] 4 ⟨136,u1,[.box [.str a0.XB,.int .i64 a0.Kq,.asl 2 0 r1.length,.asl 3 0 r2.length,sL 2 ZS a0.XJ,sL 2 YL a0.YW,sL 9 ZX a0.Xc,sL 7 ZO a0.Zp,.bool a0.Yw.We,.int .i64 a0.Yw.Z2,sL 3 XE a0.Yw.Z4,sL 5 ZB a0.Yw.Zu,.bool a0.YC.We,.int .i64 a0.YC.Z2,.str a0.YC.Ww,.str a0.YC.Qr,sL 5 ZB a0.YC.Zu,.bool a0.Xv.We,.int .i64 a0.Xv.XZ,.int .i64 a0.Xv.X0,sL 4 XQ a0.Xv.Zo,sL 2 Xf a0.Xv.ZT,sL 3 XF a0.Xv.ZC,sL 5 Xy a0.Xv.Zv,sL 5 ZB a0.Xv.Zu],.box [.str (⟨#[]⟩ : ByteArray),.int .i64 0,.sl true 12 0 (fun _ => []),.sl true 2 0 (fun _ => []),.sl true 2 0 (fun _ => []),.sl true 2 0 (fun _ => []),.sl true 9 0 (fun _ => []),.sl true 7 0 (fun _ => []),.bool false,.int .i64 0,.sl true 3 0 (fun _ => []),.sl true 5 0 (fun _ => []),.bool false,.int .i64 0,.str (⟨#[]⟩ : ByteArray),.str (⟨#[]⟩ : ByteArray),.sl true 5 0 (fun _ => []),.bool false,.int .i64 0,.int .i64 0,.sl true 4 0 (fun _ => []),.sl true 2 0 (fun _ => []),.sl true 3 0 (fun _ => []),.sl true 5 0 (fun _ => []),.sl true 5 0 (fun _ => [])],aL 12 Zj r1,aL 2 Zx r2]⟩ [] [⟨true,128,[sL 2 Zx a0.YM],oL 2 Zx r2⟩] Zt ⟨fun _ => W9 a0.YM r2 q3,trivial⟩ (Zb (Za (Za (zg [1,2,16,17] 4 (Zb (Zg ?_))))))
 obtain ⟨y5,q9,h10⟩ := bind_some h4
 refine zl (fun (p3 : Int) => ⟨136,[(1,.ref 0 0),(2,.ref 1 0),(16,.int .i64 (r2.length : Int)),(17,.int .i64 p3)],[.box [.str a0.XB,.int .i64 a0.Kq,.asl 2 0 r1.length,.asl 3 0 r2.length,sL 2 ZS a0.XJ,sL 2 YL a0.YW,sL 9 ZX a0.Xc,sL 7 ZO a0.Zp,.bool a0.Yw.We,.int .i64 a0.Yw.Z2,sL 3 XE a0.Yw.Z4,sL 5 ZB a0.Yw.Zu,.bool a0.YC.We,.int .i64 a0.YC.Z2,.str a0.YC.Ww,.str a0.YC.Qr,sL 5 ZB a0.YC.Zu,.bool a0.Xv.We,.int .i64 a0.Xv.XZ,.int .i64 a0.Xv.X0,sL 4 XQ a0.Xv.Zo,sL 2 Xf a0.Xv.ZT,sL 3 XF a0.Xv.ZC,sL 5 Xy a0.Xv.Zv,sL 5 ZB a0.Xv.Zu],.box [.str (⟨#[]⟩ : ByteArray),.int .i64 0,.sl true 12 0 (fun _ => []),.sl true 2 0 (fun _ => []),.sl true 2 0 (fun _ => []),.sl true 2 0 (fun _ => []),.sl true 9 0 (fun _ => []),.sl true 7 0 (fun _ => []),.bool false,.int .i64 0,.sl true 3 0 (fun _ => []),.sl true 5 0 (fun _ => []),.bool false,.int .i64 0,.str (⟨#[]⟩ : ByteArray),.str (⟨#[]⟩ : ByteArray),.sl true 5 0 (fun _ => []),.bool false,.int .i64 0,.int .i64 0,.sl true 4 0 (fun _ => []),.sl true 2 0 (fun _ => []),.sl true 3 0 (fun _ => []),.sl true 5 0 (fun _ => []),.sl true 5 0 (fun _ => [])],aL 12 Zj r1,aL 2 Zx r2]⟩) (fun z => OutE 0 (fun z => ⟨136,u1,[.box [.str a0.XB,.int .i64 a0.Kq,.asl 2 0 r1.length,.asl 3 0 r2.length,sL 2 ZS a0.XJ,sL 2 YL a0.YW,sL 9 ZX a0.Xc,sL 7 ZO a0.Zp,.bool a0.Yw.We,.int .i64 a0.Yw.Z2,sL 3 XE a0.Yw.Z4,sL 5 ZB a0.Yw.Zu,.bool a0.YC.We,.int .i64 a0.YC.Z2,.str a0.YC.Ww,.str a0.YC.Qr,sL 5 ZB a0.YC.Zu,.bool a0.Xv.We,.int .i64 a0.Xv.XZ,.int .i64 a0.Xv.X0,sL 4 XQ a0.Xv.Zo,sL 2 Xf a0.Xv.ZT,sL 3 XF a0.Xv.ZC,sL 5 Xy a0.Xv.Zv,sL 5 ZB a0.Xv.Zu],.box [.str (⟨#[]⟩ : ByteArray),.int .i64 0,.sl true 12 0 (fun _ => []),.sl true 2 0 (fun _ => []),.sl true 2 0 (fun _ => []),.sl true 2 0 (fun _ => []),.sl true 9 0 (fun _ => []),.sl true 7 0 (fun _ => []),.bool false,.int .i64 0,.sl true 3 0 (fun _ => []),.sl true 5 0 (fun _ => []),.bool false,.int .i64 0,.str (⟨#[]⟩ : ByteArray),.str (⟨#[]⟩ : ByteArray),.sl true 5 0 (fun _ => []),.bool false,.int .i64 0,.int .i64 0,.sl true 4 0 (fun _ => []),.sl true 2 0 (fun _ => []),.sl true 3 0 (fun _ => []),.sl true 5 0 (fun _ => []),.sl true 5 0 (fun _ => [])],aL 12 Zj r1,aL 2 Zx r2]⟩) z) q9 ?_ ?_
 intro p3 y4 h5
 unfold M.JB at h5
 refine Za (zg [1,2,16,17,18] 4 (Zb (Za (cn h5 (fun _ h7 => ?_) (fun _ h8 => ?_)))))
 refine Zd (Zb (Za (Zg (Za ?_))))
 cases h7
 exact ZF (Xl (re h8 ⟨rfl,kq⟩))
 intro e11 s12 o13
 refine zi o13 (Za (W6 (s' := ⟨136,u1,[.box [.str a0.XB,.int .i64 a0.Kq,.sl false 12 r1.length (fun k => (fun i => Zj (r1.getD i default)) (0 + k)),.sl false 2 r2.length (fun k => (fun i => Zx (r2.getD i default)) (0 + k)),sL 2 ZS a0.XJ,sL 2 YL a0.YW,sL 9 ZX a0.Xc,sL 7 ZO a0.Zp,.bool a0.Yw.We,.int .i64 a0.Yw.Z2,sL 3 XE a0.Yw.Z4,sL 5 ZB a0.Yw.Zu,.bool a0.YC.We,.int .i64 a0.YC.Z2,.str a0.YC.Ww,.str a0.YC.Qr,sL 5 ZB a0.YC.Zu,.bool a0.Xv.We,.int .i64 a0.Xv.XZ,.int .i64 a0.Xv.X0,sL 4 XQ a0.Xv.Zo,sL 2 Xf a0.Xv.ZT,sL 3 XF a0.Xv.ZC,sL 5 Xy a0.Xv.Zv,sL 5 ZB a0.Xv.Zu],.box [.str (⟨#[]⟩ : ByteArray),.int .i64 0,.sl true 12 0 (fun _ => []),.sl true 2 0 (fun _ => []),.sl true 2 0 (fun _ => []),.sl true 2 0 (fun _ => []),.sl true 9 0 (fun _ => []),.sl true 7 0 (fun _ => []),.bool false,.int .i64 0,.sl true 3 0 (fun _ => []),.sl true 5 0 (fun _ => []),.bool false,.int .i64 0,.str (⟨#[]⟩ : ByteArray),.str (⟨#[]⟩ : ByteArray),.sl true 5 0 (fun _ => []),.bool false,.int .i64 0,.int .i64 0,.sl true 4 0 (fun _ => []),.sl true 2 0 (fun _ => []),.sl true 3 0 (fun _ => []),.sl true 5 0 (fun _ => []),.sl true 5 0 (fun _ => [])],aL 12 Zj ([] : List ZA),aL 2 Zx ([] : List ZW)]⟩) (Le.trans ((Le.trans (Zcd (s := ⟨136,u1,[.box [.str a0.XB,.int .i64 a0.Kq,.asl 2 0 r1.length,.asl 3 0 r2.length,sL 2 ZS a0.XJ,sL 2 YL a0.YW,sL 9 ZX a0.Xc,sL 7 ZO a0.Zp,.bool a0.Yw.We,.int .i64 a0.Yw.Z2,sL 3 XE a0.Yw.Z4,sL 5 ZB a0.Yw.Zu,.bool a0.YC.We,.int .i64 a0.YC.Z2,.str a0.YC.Ww,.str a0.YC.Qr,sL 5 ZB a0.YC.Zu,.bool a0.Xv.We,.int .i64 a0.Xv.XZ,.int .i64 a0.Xv.X0,sL 4 XQ a0.Xv.Zo,sL 2 Xf a0.Xv.ZT,sL 3 XF a0.Xv.ZC,sL 5 Xy a0.Xv.Zv,sL 5 ZB a0.Xv.Zu],.box [.str (⟨#[]⟩ : ByteArray),.int .i64 0,.sl true 12 0 (fun _ => []),.sl true 2 0 (fun _ => []),.sl true 2 0 (fun _ => []),.sl true 2 0 (fun _ => []),.sl true 9 0 (fun _ => []),.sl true 7 0 (fun _ => []),.bool false,.int .i64 0,.sl true 3 0 (fun _ => []),.sl true 5 0 (fun _ => []),.bool false,.int .i64 0,.str (⟨#[]⟩ : ByteArray),.str (⟨#[]⟩ : ByteArray),.sl true 5 0 (fun _ => []),.bool false,.int .i64 0,.int .i64 0,.sl true 4 0 (fun _ => []),.sl true 2 0 (fun _ => []),.sl true 3 0 (fun _ => []),.sl true 5 0 (fun _ => []),.sl true 5 0 (fun _ => [])],aL 12 Zj r1,aL 2 Zx r2]⟩) (s' := ⟨136,u1,[.box [.str a0.XB,.int .i64 a0.Kq,.sl false 12 r1.length (fun k => (fun i => Zj (r1.getD i default)) (0 + k)),.asl 3 0 r2.length,sL 2 ZS a0.XJ,sL 2 YL a0.YW,sL 9 ZX a0.Xc,sL 7 ZO a0.Zp,.bool a0.Yw.We,.int .i64 a0.Yw.Z2,sL 3 XE a0.Yw.Z4,sL 5 ZB a0.Yw.Zu,.bool a0.YC.We,.int .i64 a0.YC.Z2,.str a0.YC.Ww,.str a0.YC.Qr,sL 5 ZB a0.YC.Zu,.bool a0.Xv.We,.int .i64 a0.Xv.XZ,.int .i64 a0.Xv.X0,sL 4 XQ a0.Xv.Zo,sL 2 Xf a0.Xv.ZT,sL 3 XF a0.Xv.ZC,sL 5 Xy a0.Xv.Zv,sL 5 ZB a0.Xv.Zu],.box [.str (⟨#[]⟩ : ByteArray),.int .i64 0,.sl true 12 0 (fun _ => []),.sl true 2 0 (fun _ => []),.sl true 2 0 (fun _ => []),.sl true 2 0 (fun _ => []),.sl true 9 0 (fun _ => []),.sl true 7 0 (fun _ => []),.bool false,.int .i64 0,.sl true 3 0 (fun _ => []),.sl true 5 0 (fun _ => []),.bool false,.int .i64 0,.str (⟨#[]⟩ : ByteArray),.str (⟨#[]⟩ : ByteArray),.sl true 5 0 (fun _ => []),.bool false,.int .i64 0,.int .i64 0,.sl true 4 0 (fun _ => []),.sl true 2 0 (fun _ => []),.sl true 3 0 (fun _ => []),.sl true 5 0 (fun _ => []),.sl true 5 0 (fun _ => [])],aL 12 Zj ([] : List ZA),aL 2 Zx r2]⟩) 2 12 r1.length (fun i => Zj (r1.getD i default)) (fun i => Zj (([] : List ZA).getD i default)) (by kernel_rfl) (by kernel_rfl) (by kernel_rfl)) (Zcd (s := ⟨136,u1,[.box [.str a0.XB,.int .i64 a0.Kq,.sl false 12 r1.length (fun k => (fun i => Zj (r1.getD i default)) (0 + k)),.asl 3 0 r2.length,sL 2 ZS a0.XJ,sL 2 YL a0.YW,sL 9 ZX a0.Xc,sL 7 ZO a0.Zp,.bool a0.Yw.We,.int .i64 a0.Yw.Z2,sL 3 XE a0.Yw.Z4,sL 5 ZB a0.Yw.Zu,.bool a0.YC.We,.int .i64 a0.YC.Z2,.str a0.YC.Ww,.str a0.YC.Qr,sL 5 ZB a0.YC.Zu,.bool a0.Xv.We,.int .i64 a0.Xv.XZ,.int .i64 a0.Xv.X0,sL 4 XQ a0.Xv.Zo,sL 2 Xf a0.Xv.ZT,sL 3 XF a0.Xv.ZC,sL 5 Xy a0.Xv.Zv,sL 5 ZB a0.Xv.Zu],.box [.str (⟨#[]⟩ : ByteArray),.int .i64 0,.sl true 12 0 (fun _ => []),.sl true 2 0 (fun _ => []),.sl true 2 0 (fun _ => []),.sl true 2 0 (fun _ => []),.sl true 9 0 (fun _ => []),.sl true 7 0 (fun _ => []),.bool false,.int .i64 0,.sl true 3 0 (fun _ => []),.sl true 5 0 (fun _ => []),.bool false,.int .i64 0,.str (⟨#[]⟩ : ByteArray),.str (⟨#[]⟩ : ByteArray),.sl true 5 0 (fun _ => []),.bool false,.int .i64 0,.int .i64 0,.sl true 4 0 (fun _ => []),.sl true 2 0 (fun _ => []),.sl true 3 0 (fun _ => []),.sl true 5 0 (fun _ => []),.sl true 5 0 (fun _ => [])],aL 12 Zj ([] : List ZA),aL 2 Zx r2]⟩) (s' := ⟨136,u1,[.box [.str a0.XB,.int .i64 a0.Kq,.sl false 12 r1.length (fun k => (fun i => Zj (r1.getD i default)) (0 + k)),.sl false 2 r2.length (fun k => (fun i => Zx (r2.getD i default)) (0 + k)),sL 2 ZS a0.XJ,sL 2 YL a0.YW,sL 9 ZX a0.Xc,sL 7 ZO a0.Zp,.bool a0.Yw.We,.int .i64 a0.Yw.Z2,sL 3 XE a0.Yw.Z4,sL 5 ZB a0.Yw.Zu,.bool a0.YC.We,.int .i64 a0.YC.Z2,.str a0.YC.Ww,.str a0.YC.Qr,sL 5 ZB a0.YC.Zu,.bool a0.Xv.We,.int .i64 a0.Xv.XZ,.int .i64 a0.Xv.X0,sL 4 XQ a0.Xv.Zo,sL 2 Xf a0.Xv.ZT,sL 3 XF a0.Xv.ZC,sL 5 Xy a0.Xv.Zv,sL 5 ZB a0.Xv.Zu],.box [.str (⟨#[]⟩ : ByteArray),.int .i64 0,.sl true 12 0 (fun _ => []),.sl true 2 0 (fun _ => []),.sl true 2 0 (fun _ => []),.sl true 2 0 (fun _ => []),.sl true 9 0 (fun _ => []),.sl true 7 0 (fun _ => []),.bool false,.int .i64 0,.sl true 3 0 (fun _ => []),.sl true 5 0 (fun _ => []),.bool false,.int .i64 0,.str (⟨#[]⟩ : ByteArray),.str (⟨#[]⟩ : ByteArray),.sl true 5 0 (fun _ => []),.bool false,.int .i64 0,.int .i64 0,.sl true 4 0 (fun _ => []),.sl true 2 0 (fun _ => []),.sl true 3 0 (fun _ => []),.sl true 5 0 (fun _ => []),.sl true 5 0 (fun _ => [])],aL 12 Zj ([] : List ZA),aL 2 Zx ([] : List ZW)]⟩) 3 2 r2.length (fun i => Zx (r2.getD i default)) (fun i => Zx (([] : List ZW).getD i default)) (by kernel_rfl) (by kernel_rfl) (by kernel_rfl)))) (kp [1,2])) ?_))
 obtain ⟨r6,q15,h16⟩ := bind_some h10
 refine rg [oL 2 ZS r6] [1,2] 5 ⟨136,u1,[.box [.str a0.XB,.int .i64 a0.Kq,.sl false 12 r1.length (fun k => (fun i => Zj (r1.getD i default)) (0 + k)),.sl false 2 r2.length (fun k => (fun i => Zx (r2.getD i default)) (0 + k)),.asl 4 0 r6.length,sL 2 YL a0.YW,sL 9 ZX a0.Xc,sL 7 ZO a0.Zp,.bool a0.Yw.We,.int .i64 a0.Yw.Z2,sL 3 XE a0.Yw.Z4,sL 5 ZB a0.Yw.Zu,.bool a0.YC.We,.int .i64 a0.YC.Z2,.str a0.YC.Ww,.str a0.YC.Qr,sL 5 ZB a0.YC.Zu,.bool a0.Xv.We,.int .i64 a0.Xv.XZ,.int .i64 a0.Xv.X0,sL 4 XQ a0.Xv.Zo,sL 2 Xf a0.Xv.ZT,sL 3 XF a0.Xv.ZC,sL 5 Xy a0.Xv.Zv,sL 5 ZB a0.Xv.Zu],.box [.str (⟨#[]⟩ : ByteArray),.int .i64 0,.sl true 12 0 (fun _ => []),.sl true 2 0 (fun _ => []),.sl true 2 0 (fun _ => []),.sl true 2 0 (fun _ => []),.sl true 9 0 (fun _ => []),.sl true 7 0 (fun _ => []),.bool false,.int .i64 0,.sl true 3 0 (fun _ => []),.sl true 5 0 (fun _ => []),.bool false,.int .i64 0,.str (⟨#[]⟩ : ByteArray),.str (⟨#[]⟩ : ByteArray),.sl true 5 0 (fun _ => []),.bool false,.int .i64 0,.int .i64 0,.sl true 4 0 (fun _ => []),.sl true 2 0 (fun _ => []),.sl true 3 0 (fun _ => []),.sl true 5 0 (fun _ => []),.sl true 5 0 (fun _ => [])],aL 12 Zj ([] : List ZA),aL 2 Zx ([] : List ZW),aL 2 ZS r6]⟩ [] [⟨true,130,[sL 2 ZS a0.XJ],oL 2 ZS r6⟩] Zt ⟨fun _ => UL a0.XJ r6 q15,trivial⟩ (Xb (s' := ⟨136,u1,[.box [.str a0.XB,.int .i64 a0.Kq,sL 12 Zj r1,sL 2 Zx r2,.asl 4 0 r6.length,sL 2 YL a0.YW,sL 9 ZX a0.Xc,sL 7 ZO a0.Zp,.bool a0.Yw.We,.int .i64 a0.Yw.Z2,sL 3 XE a0.Yw.Z4,sL 5 ZB a0.Yw.Zu,.bool a0.YC.We,.int .i64 a0.YC.Z2,.str a0.YC.Ww,.str a0.YC.Qr,sL 5 ZB a0.YC.Zu,.bool a0.Xv.We,.int .i64 a0.Xv.XZ,.int .i64 a0.Xv.X0,sL 4 XQ a0.Xv.Zo,sL 2 Xf a0.Xv.ZT,sL 3 XF a0.Xv.ZC,sL 5 Xy a0.Xv.Zv,sL 5 ZB a0.Xv.Zu],.box [.str (⟨#[]⟩ : ByteArray),.int .i64 0,.sl true 12 0 (fun _ => []),.sl true 2 0 (fun _ => []),.sl true 2 0 (fun _ => []),.sl true 2 0 (fun _ => []),.sl true 9 0 (fun _ => []),.sl true 7 0 (fun _ => []),.bool false,.int .i64 0,.sl true 3 0 (fun _ => []),.sl true 5 0 (fun _ => []),.bool false,.int .i64 0,.str (⟨#[]⟩ : ByteArray),.str (⟨#[]⟩ : ByteArray),.sl true 5 0 (fun _ => []),.bool false,.int .i64 0,.int .i64 0,.sl true 4 0 (fun _ => []),.sl true 2 0 (fun _ => []),.sl true 3 0 (fun _ => []),.sl true 5 0 (fun _ => []),.sl true 5 0 (fun _ => [])],aL 12 Zj ([] : List ZA),aL 2 Zx ([] : List ZW),aL 2 ZS r6]⟩) (JM (.cons Sub.rfl (.cons Sub.rfl .nil)) (.cons (.box (.cons CSub.rfl (.cons CSub.rfl (.cons (Ko rfl (RA (f := fun i => Zj (r1.getD i default)) (fun _ _ => rfl))) (.cons (Ko rfl (RA (f := fun i => Zx (r2.getD i default)) (fun _ _ => rfl))) (.cons CSub.rfl (.cons CSub.rfl (.cons CSub.rfl (.cons CSub.rfl (.cons CSub.rfl (.cons CSub.rfl (.cons CSub.rfl (.cons CSub.rfl (.cons CSub.rfl (.cons CSub.rfl (.cons CSub.rfl (.cons CSub.rfl (.cons CSub.rfl (.cons CSub.rfl (.cons CSub.rfl (.cons CSub.rfl (.cons CSub.rfl (.cons CSub.rfl (.cons CSub.rfl (.cons CSub.rfl (.cons CSub.rfl .nil)))))))))))))))))))))))))) (.cons .rfl (.cons .rfl (.cons .rfl (.cons .rfl .nil)))))) (Za (Za (zg [1,2,39,40] 5 (Zb (Zg ?_))))))
 obtain ⟨y9,q21,h22⟩ := bind_some h16
 refine zl (fun (p7 : Int) => ⟨136,[(1,.ref 0 0),(2,.ref 1 0),(39,.int .i64 (r6.length : Int)),(40,.int .i64 p7)],[.box [.str a0.XB,.int .i64 a0.Kq,sL 12 Zj r1,sL 2 Zx r2,.asl 4 0 r6.length,sL 2 YL a0.YW,sL 9 ZX a0.Xc,sL 7 ZO a0.Zp,.bool a0.Yw.We,.int .i64 a0.Yw.Z2,sL 3 XE a0.Yw.Z4,sL 5 ZB a0.Yw.Zu,.bool a0.YC.We,.int .i64 a0.YC.Z2,.str a0.YC.Ww,.str a0.YC.Qr,sL 5 ZB a0.YC.Zu,.bool a0.Xv.We,.int .i64 a0.Xv.XZ,.int .i64 a0.Xv.X0,sL 4 XQ a0.Xv.Zo,sL 2 Xf a0.Xv.ZT,sL 3 XF a0.Xv.ZC,sL 5 Xy a0.Xv.Zv,sL 5 ZB a0.Xv.Zu],.box [.str (⟨#[]⟩ : ByteArray),.int .i64 0,.sl true 12 0 (fun _ => []),.sl true 2 0 (fun _ => []),.sl true 2 0 (fun _ => []),.sl true 2 0 (fun _ => []),.sl true 9 0 (fun _ => []),.sl true 7 0 (fun _ => []),.bool false,.int .i64 0,.sl true 3 0 (fun _ => []),.sl true 5 0 (fun _ => []),.bool false,.int .i64 0,.str (⟨#[]⟩ : ByteArray),.str (⟨#[]⟩ : ByteArray),.sl true 5 0 (fun _ => []),.bool false,.int .i64 0,.int .i64 0,.sl true 4 0 (fun _ => []),.sl true 2 0 (fun _ => []),.sl true 3 0 (fun _ => []),.sl true 5 0 (fun _ => []),.sl true 5 0 (fun _ => [])],aL 12 Zj ([] : List ZA),aL 2 Zx ([] : List ZW),aL 2 ZS r6]⟩) (fun z => OutE 2 (fun z => ⟨136,u1,[.box [.str a0.XB,.int .i64 a0.Kq,sL 12 Zj r1,sL 2 Zx r2,.asl 4 0 r6.length,sL 2 YL a0.YW,sL 9 ZX a0.Xc,sL 7 ZO a0.Zp,.bool a0.Yw.We,.int .i64 a0.Yw.Z2,sL 3 XE a0.Yw.Z4,sL 5 ZB a0.Yw.Zu,.bool a0.YC.We,.int .i64 a0.YC.Z2,.str a0.YC.Ww,.str a0.YC.Qr,sL 5 ZB a0.YC.Zu,.bool a0.Xv.We,.int .i64 a0.Xv.XZ,.int .i64 a0.Xv.X0,sL 4 XQ a0.Xv.Zo,sL 2 Xf a0.Xv.ZT,sL 3 XF a0.Xv.ZC,sL 5 Xy a0.Xv.Zv,sL 5 ZB a0.Xv.Zu],.box [.str (⟨#[]⟩ : ByteArray),.int .i64 0,.sl true 12 0 (fun _ => []),.sl true 2 0 (fun _ => []),.sl true 2 0 (fun _ => []),.sl true 2 0 (fun _ => []),.sl true 9 0 (fun _ => []),.sl true 7 0 (fun _ => []),.bool false,.int .i64 0,.sl true 3 0 (fun _ => []),.sl true 5 0 (fun _ => []),.bool false,.int .i64 0,.str (⟨#[]⟩ : ByteArray),.str (⟨#[]⟩ : ByteArray),.sl true 5 0 (fun _ => []),.bool false,.int .i64 0,.int .i64 0,.sl true 4 0 (fun _ => []),.sl true 2 0 (fun _ => []),.sl true 3 0 (fun _ => []),.sl true 5 0 (fun _ => []),.sl true 5 0 (fun _ => [])],aL 12 Zj ([] : List ZA),aL 2 Zx ([] : List ZW),aL 2 ZS r6]⟩) z) q21 ?_ ?_
 intro p7 y8 h17
 unfold M.JC at h17
 refine Za (zg [1,2,39,40,41] 5 (Zb (Za (cn h17 (fun _ h19 => ?_) (fun _ h20 => ?_)))))
 refine Zd (Zb (Za (Zg (Za ?_))))
 cases h19
 exact ZF (Xl (re h20 ⟨rfl,kq⟩))
 intro e23 s24 o25
 refine zi o25 (Za (W6 (s' := ⟨136,u1,[.box [.str a0.XB,.int .i64 a0.Kq,sL 12 Zj r1,sL 2 Zx r2,.sl false 2 r6.length (fun k => (fun i => ZS (r6.getD i default)) (0 + k)),sL 2 YL a0.YW,sL 9 ZX a0.Xc,sL 7 ZO a0.Zp,.bool a0.Yw.We,.int .i64 a0.Yw.Z2,sL 3 XE a0.Yw.Z4,sL 5 ZB a0.Yw.Zu,.bool a0.YC.We,.int .i64 a0.YC.Z2,.str a0.YC.Ww,.str a0.YC.Qr,sL 5 ZB a0.YC.Zu,.bool a0.Xv.We,.int .i64 a0.Xv.XZ,.int .i64 a0.Xv.X0,sL 4 XQ a0.Xv.Zo,sL 2 Xf a0.Xv.ZT,sL 3 XF a0.Xv.ZC,sL 5 Xy a0.Xv.Zv,sL 5 ZB a0.Xv.Zu],.box [.str (⟨#[]⟩ : ByteArray),.int .i64 0,.sl true 12 0 (fun _ => []),.sl true 2 0 (fun _ => []),.sl true 2 0 (fun _ => []),.sl true 2 0 (fun _ => []),.sl true 9 0 (fun _ => []),.sl true 7 0 (fun _ => []),.bool false,.int .i64 0,.sl true 3 0 (fun _ => []),.sl true 5 0 (fun _ => []),.bool false,.int .i64 0,.str (⟨#[]⟩ : ByteArray),.str (⟨#[]⟩ : ByteArray),.sl true 5 0 (fun _ => []),.bool false,.int .i64 0,.int .i64 0,.sl true 4 0 (fun _ => []),.sl true 2 0 (fun _ => []),.sl true 3 0 (fun _ => []),.sl true 5 0 (fun _ => []),.sl true 5 0 (fun _ => [])],aL 12 Zj ([] : List ZA),aL 2 Zx ([] : List ZW),aL 2 ZS ([] : List Yl)]⟩) (Le.trans ((Zcd (s := ⟨136,u1,[.box [.str a0.XB,.int .i64 a0.Kq,sL 12 Zj r1,sL 2 Zx r2,.asl 4 0 r6.length,sL 2 YL a0.YW,sL 9 ZX a0.Xc,sL 7 ZO a0.Zp,.bool a0.Yw.We,.int .i64 a0.Yw.Z2,sL 3 XE a0.Yw.Z4,sL 5 ZB a0.Yw.Zu,.bool a0.YC.We,.int .i64 a0.YC.Z2,.str a0.YC.Ww,.str a0.YC.Qr,sL 5 ZB a0.YC.Zu,.bool a0.Xv.We,.int .i64 a0.Xv.XZ,.int .i64 a0.Xv.X0,sL 4 XQ a0.Xv.Zo,sL 2 Xf a0.Xv.ZT,sL 3 XF a0.Xv.ZC,sL 5 Xy a0.Xv.Zv,sL 5 ZB a0.Xv.Zu],.box [.str (⟨#[]⟩ : ByteArray),.int .i64 0,.sl true 12 0 (fun _ => []),.sl true 2 0 (fun _ => []),.sl true 2 0 (fun _ => []),.sl true 2 0 (fun _ => []),.sl true 9 0 (fun _ => []),.sl true 7 0 (fun _ => []),.bool false,.int .i64 0,.sl true 3 0 (fun _ => []),.sl true 5 0 (fun _ => []),.bool false,.int .i64 0,.str (⟨#[]⟩ : ByteArray),.str (⟨#[]⟩ : ByteArray),.sl true 5 0 (fun _ => []),.bool false,.int .i64 0,.int .i64 0,.sl true 4 0 (fun _ => []),.sl true 2 0 (fun _ => []),.sl true 3 0 (fun _ => []),.sl true 5 0 (fun _ => []),.sl true 5 0 (fun _ => [])],aL 12 Zj ([] : List ZA),aL 2 Zx ([] : List ZW),aL 2 ZS r6]⟩) (s' := ⟨136,u1,[.box [.str a0.XB,.int .i64 a0.Kq,sL 12 Zj r1,sL 2 Zx r2,.sl false 2 r6.length (fun k => (fun i => ZS (r6.getD i default)) (0 + k)),sL 2 YL a0.YW,sL 9 ZX a0.Xc,sL 7 ZO a0.Zp,.bool a0.Yw.We,.int .i64 a0.Yw.Z2,sL 3 XE a0.Yw.Z4,sL 5 ZB a0.Yw.Zu,.bool a0.YC.We,.int .i64 a0.YC.Z2,.str a0.YC.Ww,.str a0.YC.Qr,sL 5 ZB a0.YC.Zu,.bool a0.Xv.We,.int .i64 a0.Xv.XZ,.int .i64 a0.Xv.X0,sL 4 XQ a0.Xv.Zo,sL 2 Xf a0.Xv.ZT,sL 3 XF a0.Xv.ZC,sL 5 Xy a0.Xv.Zv,sL 5 ZB a0.Xv.Zu],.box [.str (⟨#[]⟩ : ByteArray),.int .i64 0,.sl true 12 0 (fun _ => []),.sl true 2 0 (fun _ => []),.sl true 2 0 (fun _ => []),.sl true 2 0 (fun _ => []),.sl true 9 0 (fun _ => []),.sl true 7 0 (fun _ => []),.bool false,.int .i64 0,.sl true 3 0 (fun _ => []),.sl true 5 0 (fun _ => []),.bool false,.int .i64 0,.str (⟨#[]⟩ : ByteArray),.str (⟨#[]⟩ : ByteArray),.sl true 5 0 (fun _ => []),.bool false,.int .i64 0,.int .i64 0,.sl true 4 0 (fun _ => []),.sl true 2 0 (fun _ => []),.sl true 3 0 (fun _ => []),.sl true 5 0 (fun _ => []),.sl true 5 0 (fun _ => [])],aL 12 Zj ([] : List ZA),aL 2 Zx ([] : List ZW),aL 2 ZS ([] : List Yl)]⟩) 4 2 r6.length (fun i => ZS (r6.getD i default)) (fun i => ZS (([] : List Yl).getD i default)) (by kernel_rfl) (by kernel_rfl) (by kernel_rfl))) (kp [1,2])) ?_))
 obtain ⟨r10,q27,h28⟩ := bind_some h22
 refine rg [oL 2 YL r10] [1,2] 6 ⟨136,u1,[.box [.str a0.XB,.int .i64 a0.Kq,sL 12 Zj r1,sL 2 Zx r2,.sl false 2 r6.length (fun k => (fun i => ZS (r6.getD i default)) (0 + k)),.asl 5 0 r10.length,sL 9 ZX a0.Xc,sL 7 ZO a0.Zp,.bool a0.Yw.We,.int .i64 a0.Yw.Z2,sL 3 XE a0.Yw.Z4,sL 5 ZB a0.Yw.Zu,.bool a0.YC.We,.int .i64 a0.YC.Z2,.str a0.YC.Ww,.str a0.YC.Qr,sL 5 ZB a0.YC.Zu,.bool a0.Xv.We,.int .i64 a0.Xv.XZ,.int .i64 a0.Xv.X0,sL 4 XQ a0.Xv.Zo,sL 2 Xf a0.Xv.ZT,sL 3 XF a0.Xv.ZC,sL 5 Xy a0.Xv.Zv,sL 5 ZB a0.Xv.Zu],.box [.str (⟨#[]⟩ : ByteArray),.int .i64 0,.sl true 12 0 (fun _ => []),.sl true 2 0 (fun _ => []),.sl true 2 0 (fun _ => []),.sl true 2 0 (fun _ => []),.sl true 9 0 (fun _ => []),.sl true 7 0 (fun _ => []),.bool false,.int .i64 0,.sl true 3 0 (fun _ => []),.sl true 5 0 (fun _ => []),.bool false,.int .i64 0,.str (⟨#[]⟩ : ByteArray),.str (⟨#[]⟩ : ByteArray),.sl true 5 0 (fun _ => []),.bool false,.int .i64 0,.int .i64 0,.sl true 4 0 (fun _ => []),.sl true 2 0 (fun _ => []),.sl true 3 0 (fun _ => []),.sl true 5 0 (fun _ => []),.sl true 5 0 (fun _ => [])],aL 12 Zj ([] : List ZA),aL 2 Zx ([] : List ZW),aL 2 ZS ([] : List Yl),aL 2 YL r10]⟩ [] [⟨true,132,[sL 2 YL a0.YW],oL 2 YL r10⟩] Zt ⟨fun _ => GP a0.YW r10 q27,trivial⟩ (Xb (s' := ⟨136,u1,[.box [.str a0.XB,.int .i64 a0.Kq,sL 12 Zj r1,sL 2 Zx r2,sL 2 ZS r6,.asl 5 0 r10.length,sL 9 ZX a0.Xc,sL 7 ZO a0.Zp,.bool a0.Yw.We,.int .i64 a0.Yw.Z2,sL 3 XE a0.Yw.Z4,sL 5 ZB a0.Yw.Zu,.bool a0.YC.We,.int .i64 a0.YC.Z2,.str a0.YC.Ww,.str a0.YC.Qr,sL 5 ZB a0.YC.Zu,.bool a0.Xv.We,.int .i64 a0.Xv.XZ,.int .i64 a0.Xv.X0,sL 4 XQ a0.Xv.Zo,sL 2 Xf a0.Xv.ZT,sL 3 XF a0.Xv.ZC,sL 5 Xy a0.Xv.Zv,sL 5 ZB a0.Xv.Zu],.box [.str (⟨#[]⟩ : ByteArray),.int .i64 0,.sl true 12 0 (fun _ => []),.sl true 2 0 (fun _ => []),.sl true 2 0 (fun _ => []),.sl true 2 0 (fun _ => []),.sl true 9 0 (fun _ => []),.sl true 7 0 (fun _ => []),.bool false,.int .i64 0,.sl true 3 0 (fun _ => []),.sl true 5 0 (fun _ => []),.bool false,.int .i64 0,.str (⟨#[]⟩ : ByteArray),.str (⟨#[]⟩ : ByteArray),.sl true 5 0 (fun _ => []),.bool false,.int .i64 0,.int .i64 0,.sl true 4 0 (fun _ => []),.sl true 2 0 (fun _ => []),.sl true 3 0 (fun _ => []),.sl true 5 0 (fun _ => []),.sl true 5 0 (fun _ => [])],aL 12 Zj ([] : List ZA),aL 2 Zx ([] : List ZW),aL 2 ZS ([] : List Yl),aL 2 YL r10]⟩) (JM (.cons Sub.rfl (.cons Sub.rfl .nil)) (.cons (.box (.cons CSub.rfl (.cons CSub.rfl (.cons CSub.rfl (.cons CSub.rfl (.cons (Ko rfl (RA (f := fun i => ZS (r6.getD i default)) (fun _ _ => rfl))) (.cons CSub.rfl (.cons CSub.rfl (.cons CSub.rfl (.cons CSub.rfl (.cons CSub.rfl (.cons CSub.rfl (.cons CSub.rfl (.cons CSub.rfl (.cons CSub.rfl (.cons CSub.rfl (.cons CSub.rfl (.cons CSub.rfl (.cons CSub.rfl (.cons CSub.rfl (.cons CSub.rfl (.cons CSub.rfl (.cons CSub.rfl (.cons CSub.rfl (.cons CSub.rfl (.cons CSub.rfl .nil)))))))))))))))))))))))))) (.cons .rfl (.cons .rfl (.cons .rfl (.cons .rfl (.cons .rfl .nil))))))) (Za (Za (zg [1,2,62,63] 6 (Zb (Zg ?_))))))
 obtain ⟨y13,q33,h34⟩ := bind_some h28
 refine zl (fun (p11 : Int) => ⟨136,[(1,.ref 0 0),(2,.ref 1 0),(62,.int .i64 (r10.length : Int)),(63,.int .i64 p11)],[.box [.str a0.XB,.int .i64 a0.Kq,sL 12 Zj r1,sL 2 Zx r2,sL 2 ZS r6,.asl 5 0 r10.length,sL 9 ZX a0.Xc,sL 7 ZO a0.Zp,.bool a0.Yw.We,.int .i64 a0.Yw.Z2,sL 3 XE a0.Yw.Z4,sL 5 ZB a0.Yw.Zu,.bool a0.YC.We,.int .i64 a0.YC.Z2,.str a0.YC.Ww,.str a0.YC.Qr,sL 5 ZB a0.YC.Zu,.bool a0.Xv.We,.int .i64 a0.Xv.XZ,.int .i64 a0.Xv.X0,sL 4 XQ a0.Xv.Zo,sL 2 Xf a0.Xv.ZT,sL 3 XF a0.Xv.ZC,sL 5 Xy a0.Xv.Zv,sL 5 ZB a0.Xv.Zu],.box [.str (⟨#[]⟩ : ByteArray),.int .i64 0,.sl true 12 0 (fun _ => []),.sl true 2 0 (fun _ => []),.sl true 2 0 (fun _ => []),.sl true 2 0 (fun _ => []),.sl true 9 0 (fun _ => []),.sl true 7 0 (fun _ => []),.bool false,.int .i64 0,.sl true 3 0 (fun _ => []),.sl true 5 0 (fun _ => []),.bool false,.int .i64 0,.str (⟨#[]⟩ : ByteArray),.str (⟨#[]⟩ : ByteArray),.sl true 5 0 (fun _ => []),.bool false,.int .i64 0,.int .i64 0,.sl true 4 0 (fun _ => []),.sl true 2 0 (fun _ => []),.sl true 3 0 (fun _ => []),.sl true 5 0 (fun _ => []),.sl true 5 0 (fun _ => [])],aL 12 Zj ([] : List ZA),aL 2 Zx ([] : List ZW),aL 2 ZS ([] : List Yl),aL 2 YL r10]⟩) (fun z => OutE 4 (fun z => ⟨136,u1,[.box [.str a0.XB,.int .i64 a0.Kq,sL 12 Zj r1,sL 2 Zx r2,sL 2 ZS r6,.asl 5 0 r10.length,sL 9 ZX a0.Xc,sL 7 ZO a0.Zp,.bool a0.Yw.We,.int .i64 a0.Yw.Z2,sL 3 XE a0.Yw.Z4,sL 5 ZB a0.Yw.Zu,.bool a0.YC.We,.int .i64 a0.YC.Z2,.str a0.YC.Ww,.str a0.YC.Qr,sL 5 ZB a0.YC.Zu,.bool a0.Xv.We,.int .i64 a0.Xv.XZ,.int .i64 a0.Xv.X0,sL 4 XQ a0.Xv.Zo,sL 2 Xf a0.Xv.ZT,sL 3 XF a0.Xv.ZC,sL 5 Xy a0.Xv.Zv,sL 5 ZB a0.Xv.Zu],.box [.str (⟨#[]⟩ : ByteArray),.int .i64 0,.sl true 12 0 (fun _ => []),.sl true 2 0 (fun _ => []),.sl true 2 0 (fun _ => []),.sl true 2 0 (fun _ => []),.sl true 9 0 (fun _ => []),.sl true 7 0 (fun _ => []),.bool false,.int .i64 0,.sl true 3 0 (fun _ => []),.sl true 5 0 (fun _ => []),.bool false,.int .i64 0,.str (⟨#[]⟩ : ByteArray),.str (⟨#[]⟩ : ByteArray),.sl true 5 0 (fun _ => []),.bool false,.int .i64 0,.int .i64 0,.sl true 4 0 (fun _ => []),.sl true 2 0 (fun _ => []),.sl true 3 0 (fun _ => []),.sl true 5 0 (fun _ => []),.sl true 5 0 (fun _ => [])],aL 12 Zj ([] : List ZA),aL 2 Zx ([] : List ZW),aL 2 ZS ([] : List Yl),aL 2 YL r10]⟩) z) q33 ?_ ?_
 intro p11 y12 h29
 unfold M.JD at h29
 refine Za (zg [1,2,62,63,64] 6 (Zb (Za (cn h29 (fun _ h31 => ?_) (fun _ h32 => ?_)))))
 refine Zd (Zb (Za (Zg (Za ?_))))
 cases h31
 exact ZF (Xl (re h32 ⟨rfl,kq⟩))
 intro e35 s36 o37
 refine zi o37 (Za (W6 (s' := ⟨136,u1,[.box [.str a0.XB,.int .i64 a0.Kq,sL 12 Zj r1,sL 2 Zx r2,sL 2 ZS r6,.sl false 2 r10.length (fun k => (fun i => YL (r10.getD i default)) (0 + k)),sL 9 ZX a0.Xc,sL 7 ZO a0.Zp,.bool a0.Yw.We,.int .i64 a0.Yw.Z2,sL 3 XE a0.Yw.Z4,sL 5 ZB a0.Yw.Zu,.bool a0.YC.We,.int .i64 a0.YC.Z2,.str a0.YC.Ww,.str a0.YC.Qr,sL 5 ZB a0.YC.Zu,.bool a0.Xv.We,.int .i64 a0.Xv.XZ,.int .i64 a0.Xv.X0,sL 4 XQ a0.Xv.Zo,sL 2 Xf a0.Xv.ZT,sL 3 XF a0.Xv.ZC,sL 5 Xy a0.Xv.Zv,sL 5 ZB a0.Xv.Zu],.box [.str (⟨#[]⟩ : ByteArray),.int .i64 0,.sl true 12 0 (fun _ => []),.sl true 2 0 (fun _ => []),.sl true 2 0 (fun _ => []),.sl true 2 0 (fun _ => []),.sl true 9 0 (fun _ => []),.sl true 7 0 (fun _ => []),.bool false,.int .i64 0,.sl true 3 0 (fun _ => []),.sl true 5 0 (fun _ => []),.bool false,.int .i64 0,.str (⟨#[]⟩ : ByteArray),.str (⟨#[]⟩ : ByteArray),.sl true 5 0 (fun _ => []),.bool false,.int .i64 0,.int .i64 0,.sl true 4 0 (fun _ => []),.sl true 2 0 (fun _ => []),.sl true 3 0 (fun _ => []),.sl true 5 0 (fun _ => []),.sl true 5 0 (fun _ => [])],aL 12 Zj ([] : List ZA),aL 2 Zx ([] : List ZW),aL 2 ZS ([] : List Yl),aL 2 YL ([] : List US)]⟩) (Le.trans ((Zcd (s := ⟨136,u1,[.box [.str a0.XB,.int .i64 a0.Kq,sL 12 Zj r1,sL 2 Zx r2,sL 2 ZS r6,.asl 5 0 r10.length,sL 9 ZX a0.Xc,sL 7 ZO a0.Zp,.bool a0.Yw.We,.int .i64 a0.Yw.Z2,sL 3 XE a0.Yw.Z4,sL 5 ZB a0.Yw.Zu,.bool a0.YC.We,.int .i64 a0.YC.Z2,.str a0.YC.Ww,.str a0.YC.Qr,sL 5 ZB a0.YC.Zu,.bool a0.Xv.We,.int .i64 a0.Xv.XZ,.int .i64 a0.Xv.X0,sL 4 XQ a0.Xv.Zo,sL 2 Xf a0.Xv.ZT,sL 3 XF a0.Xv.ZC,sL 5 Xy a0.Xv.Zv,sL 5 ZB a0.Xv.Zu],.box [.str (⟨#[]⟩ : ByteArray),.int .i64 0,.sl true 12 0 (fun _ => []),.sl true 2 0 (fun _ => []),.sl true 2 0 (fun _ => []),.sl true 2 0 (fun _ => []),.sl true 9 0 (fun _ => []),.sl true 7 0 (fun _ => []),.bool false,.int .i64 0,.sl true 3 0 (fun _ => []),.sl true 5 0 (fun _ => []),.bool false,.int .i64 0,.str (⟨#[]⟩ : ByteArray),.str (⟨#[]⟩ : ByteArray),.sl true 5 0 (fun _ => []),.bool false,.int .i64 0,.int .i64 0,.sl true 4 0 (fun _ => []),.sl true 2 0 (fun _ => []),.sl true 3 0 (fun _ => []),.sl true 5 0 (fun _ => []),.sl true 5 0 (fun _ => [])],aL 12 Zj ([] : List ZA),aL 2 Zx ([] : List ZW),aL 2 ZS ([] : List Yl),aL 2 YL r10]⟩) (s' := ⟨136,u1,[.box [.str a0.XB,.int .i64 a0.Kq,sL 12 Zj r1,sL 2 Zx r2,sL 2 ZS r6,.sl false 2 r10.length (fun k => (fun i => YL (r10.getD i default)) (0 + k)),sL 9 ZX a0.Xc,sL 7 ZO a0.Zp,.bool a0.Yw.We,.int .i64 a0.Yw.Z2,sL 3 XE a0.Yw.Z4,sL 5 ZB a0.Yw.Zu,.bool a0.YC.We,.int .i64 a0.YC.Z2,.str a0.YC.Ww,.str a0.YC.Qr,sL 5 ZB a0.YC.Zu,.bool a0.Xv.We,.int .i64 a0.Xv.XZ,.int .i64 a0.Xv.X0,sL 4 XQ a0.Xv.Zo,sL 2 Xf a0.Xv.ZT,sL 3 XF a0.Xv.ZC,sL 5 Xy a0.Xv.Zv,sL 5 ZB a0.Xv.Zu],.box [.str (⟨#[]⟩ : ByteArray),.int .i64 0,.sl true 12 0 (fun _ => []),.sl true 2 0 (fun _ => []),.sl true 2 0 (fun _ => []),.sl true 2 0 (fun _ => []),.sl true 9 0 (fun _ => []),.sl true 7 0 (fun _ => []),.bool false,.int .i64 0,.sl true 3 0 (fun _ => []),.sl true 5 0 (fun _ => []),.bool false,.int .i64 0,.str (⟨#[]⟩ : ByteArray),.str (⟨#[]⟩ : ByteArray),.sl true 5 0 (fun _ => []),.bool false,.int .i64 0,.int .i64 0,.sl true 4 0 (fun _ => []),.sl true 2 0 (fun _ => []),.sl true 3 0 (fun _ => []),.sl true 5 0 (fun _ => []),.sl true 5 0 (fun _ => [])],aL 12 Zj ([] : List ZA),aL 2 Zx ([] : List ZW),aL 2 ZS ([] : List Yl),aL 2 YL ([] : List US)]⟩) 5 2 r10.length (fun i => YL (r10.getD i default)) (fun i => YL (([] : List US).getD i default)) (by kernel_rfl) (by kernel_rfl) (by kernel_rfl))) (kp [1,2])) ?_))
 obtain ⟨r14,q39,h40⟩ := bind_some h34
 refine rg [.pure (sL 9 ZX r14)] [1,2] 2 ⟨136,u1,[.box [.str a0.XB,.int .i64 a0.Kq,sL 12 Zj r1,sL 2 Zx r2,sL 2 ZS r6,.sl false 2 r10.length (fun k => (fun i => YL (r10.getD i default)) (0 + k)),sL 9 ZX r14,sL 7 ZO a0.Zp,.bool a0.Yw.We,.int .i64 a0.Yw.Z2,sL 3 XE a0.Yw.Z4,sL 5 ZB a0.Yw.Zu,.bool a0.YC.We,.int .i64 a0.YC.Z2,.str a0.YC.Ww,.str a0.YC.Qr,sL 5 ZB a0.YC.Zu,.bool a0.Xv.We,.int .i64 a0.Xv.XZ,.int .i64 a0.Xv.X0,sL 4 XQ a0.Xv.Zo,sL 2 Xf a0.Xv.ZT,sL 3 XF a0.Xv.ZC,sL 5 Xy a0.Xv.Zv,sL 5 ZB a0.Xv.Zu],.box [.str (⟨#[]⟩ : ByteArray),.int .i64 0,.sl true 12 0 (fun _ => []),.sl true 2 0 (fun _ => []),.sl true 2 0 (fun _ => []),.sl true 2 0 (fun _ => []),.sl true 9 0 (fun _ => []),.sl true 7 0 (fun _ => []),.bool false,.int .i64 0,.sl true 3 0 (fun _ => []),.sl true 5 0 (fun _ => []),.bool false,.int .i64 0,.str (⟨#[]⟩ : ByteArray),.str (⟨#[]⟩ : ByteArray),.sl true 5 0 (fun _ => []),.bool false,.int .i64 0,.int .i64 0,.sl true 4 0 (fun _ => []),.sl true 2 0 (fun _ => []),.sl true 3 0 (fun _ => []),.sl true 5 0 (fun _ => []),.sl true 5 0 (fun _ => [])]]⟩ [] [⟨true,134,[sL 9 ZX a0.Xc],.pure (sL 9 ZX r14)⟩] Zt ⟨fun _ => W3 a0.Xc r14 q39,trivial⟩ (Xb (s' := ⟨136,u1,[.box [.str a0.XB,.int .i64 a0.Kq,sL 12 Zj r1,sL 2 Zx r2,sL 2 ZS r6,sL 2 YL r10,sL 9 ZX r14,sL 7 ZO a0.Zp,.bool a0.Yw.We,.int .i64 a0.Yw.Z2,sL 3 XE a0.Yw.Z4,sL 5 ZB a0.Yw.Zu,.bool a0.YC.We,.int .i64 a0.YC.Z2,.str a0.YC.Ww,.str a0.YC.Qr,sL 5 ZB a0.YC.Zu,.bool a0.Xv.We,.int .i64 a0.Xv.XZ,.int .i64 a0.Xv.X0,sL 4 XQ a0.Xv.Zo,sL 2 Xf a0.Xv.ZT,sL 3 XF a0.Xv.ZC,sL 5 Xy a0.Xv.Zv,sL 5 ZB a0.Xv.Zu],.box [.str (⟨#[]⟩ : ByteArray),.int .i64 0,.sl true 12 0 (fun _ => []),.sl true 2 0 (fun _ => []),.sl true 2 0 (fun _ => []),.sl true 2 0 (fun _ => []),.sl true 9 0 (fun _ => []),.sl true 7 0 (fun _ => []),.bool false,.int .i64 0,.sl true 3 0 (fun _ => []),.sl true 5 0 (fun _ => []),.bool false,.int .i64 0,.str (⟨#[]⟩ : ByteArray),.str (⟨#[]⟩ : ByteArray),.sl true 5 0 (fun _ => []),.bool false,.int .i64 0,.int .i64 0,.sl true 4 0 (fun _ => []),.sl true 2 0 (fun _ => []),.sl true 3 0 (fun _ => []),.sl true 5 0 (fun _ => []),.sl true 5 0 (fun _ => [])]]⟩) (JM (.cons Sub.rfl (.cons Sub.rfl .nil)) (.cons (.box (.cons CSub.rfl (.cons CSub.rfl (.cons CSub.rfl (.cons CSub.rfl (.cons CSub.rfl (.cons (Ko rfl (RA (f := fun i => YL (r10.getD i default)) (fun _ _ => rfl))) (.cons CSub.rfl (.cons CSub.rfl (.cons CSub.rfl (.cons CSub.rfl (.cons CSub.rfl (.cons CSub.rfl (.cons CSub.rfl (.cons CSub.rfl (.cons CSub.rfl (.cons CSub.rfl (.cons CSub.rfl (.cons CSub.rfl (.cons CSub.rfl (.cons CSub.rfl (.cons CSub.rfl (.cons CSub.rfl (.cons CSub.rfl (.cons CSub.rfl (.cons CSub.rfl .nil)))))))))))))))))))))))))) (.cons .rfl .nil))) (Za ?_))
 obtain ⟨r15,q41,h42⟩ := bind_some h40
 refine zr [1,2] 2 Zt (rq1 (W4 _ _ q41) rqn) (Zb (Za ?_))
 obtain ⟨r16,q43,h44⟩ := bind_some h42
 refine zr [1,2] 2 Zt (rq1 (Uu _ _ q43) rqn) (Zb (Za ?_))
 obtain ⟨r17,q45,h46⟩ := bind_some h44
 refine zr [1,2] 2 Zt (rq1 (JV _ _ q45) rqn) (Zb (Za ?_))
 obtain ⟨r18,q47,h48⟩ := bind_some h46
 refine zr [1,2] 2 Zt (rq1 (JV _ _ q47) rqn) (Zb (Za ?_))
 obtain ⟨r19,q49,h50⟩ := bind_some h48
 refine zr [1,2] 2 Zt (rq1 (UN _ _ q49) rqn) (Zb (Za ?_))
 obtain ⟨r20,q51,h52⟩ := bind_some h50
 refine zr [1,2] 2 Zt (rq1 (U7 _ _ q51) rqn) (Zb (Za ?_))
 obtain ⟨r21,q53,h54⟩ := bind_some h52
 refine zr [1,2] 2 Zt (rq1 (Uv _ _ q53) rqn) (Zb (Za ?_))
 obtain ⟨r22,q55,h56⟩ := bind_some h54
 refine zr [1,2] 2 Zt (rq1 (Uw _ _ q55) rqn) (Zb (Za ?_))
 obtain ⟨r23,q57,h58⟩ := bind_some h56
 refine zr [1,2] 2 Zt (rq1 (JV _ _ q57) rqn) (Zb (Za (zg [2] 2 (Zb (Zf ?_)))))
 obtain rfl := Option.some.inj h58
 exact er0 (.agg [.str a0.XB,.int .i64 a0.Kq,sL 12 Zj r1,sL 2 Zx r2,sL 2 ZS r6,sL 2 YL r10,sL 9 ZX r14,sL 7 ZO r15,.bool a0.Yw.We,.int .i64 a0.Yw.Z2,sL 3 XE r16,sL 5 ZB r17,.bool a0.YC.We,.int .i64 a0.YC.Z2,.str a0.YC.Ww,.str a0.YC.Qr,sL 5 ZB r18,.bool a0.Xv.We,.int .i64 a0.Xv.XZ,.int .i64 a0.Xv.X0,sL 4 XQ r19,sL 2 Xf r20,sL 3 XF r21,sL 5 Xy r22,sL 5 ZB r23])
theorem ZbF (a0 : ZG) (r : ZG) (h : M.JU a0 = some r) : Fn Tryz.prog 76 [.agg (X6 a0)] (.pure (.agg (X6 r))) := by
 let u1 := X6 a0
 unfold M.JU at h
 refine ZE Tryz.func76 rfl (by kernel_rfl) (Za (zg [1,2] 2 (Zb (Za ?_))))
 obtain ⟨r1,q1,h2⟩ := bind_some h
 refine rg [oL 25 Zs r1] [2,3] 3 ⟨24,[(2,.ref 1 0),(3,.asl 2 0 r1.length)],[.box u1,.box [.sl true 25 0 (fun _ => [])],aL 25 Zs r1]⟩ [] [⟨true,103,[sL 25 Zs a0.Ze],oL 25 Zs r1⟩] Zt ⟨fun _ => U2 a0.Ze r1 q1,trivial⟩ (Zb (Za (Za (zg [2,3,9,10] 3 (Zb (Zg ?_))))))
 obtain ⟨y5,q11,h12⟩ := bind_some h2
 refine zl (fun (p2 : (List Zh) × Int) => ⟨24,[(2,.ref 1 0),(3,.asl 2 0 p2.1.length),(9,.int .i64 (r1.length : Int)),(10,.int .i64 p2.2)],[.box u1,.box [.sl true 25 0 (fun _ => [])],aL 25 Zs p2.1]⟩) (fun z => OutE 0 (fun z => ⟨24,[(2,.ref 1 0),(3,.asl 2 0 z.length)],[.box u1,.box [.sl true 25 0 (fun _ => [])],aL 25 Zs z]⟩) z) q11 ?_ ?_
 intro p2 y3 h3
 unfold M.Jb at h3
 refine Za (zg [2,3,9,10,11] 3 (Zb (Za (cn h3 (fun _ h5 => ?_) (fun _ h6 => ?_)))))
 refine Zd (Zb (Za (Zg (Za (zg [2,3,4,9,10] 3 (Zb ?_))))))
 obtain ⟨r4,q7,h8⟩ := bind_some h5
 obtain ⟨c9,h10⟩ := Zq h8
 exact rg [.pure (.agg (Zs r4))] [2,3,9,10] 3 ⟨24,[(2,.ref 1 0),(3,.asl 2 0 p2.1.length),(9,.int .i64 (r1.length : Int)),(10,.int .i64 p2.2)],[.box (X6 a0),.box [.sl true 25 0 (fun _ => [])],.arr 25 p2.1.length (fun j => bif Nat.beq j (0 + p2.2.toNat) then splice (Zs (p2.1.getD (0 + p2.2.toNat) default)) [.str r4.XB,.int .i64 r4.Kq,sL 12 Zj r4.Zc,sL 2 Zx r4.YM,sL 2 ZS r4.XJ,sL 2 YL r4.YW,sL 9 ZX r4.Xc,sL 7 ZO r4.Zp,.bool r4.Yw.We,.int .i64 r4.Yw.Z2,sL 3 XE r4.Yw.Z4,sL 5 ZB r4.Yw.Zu,.bool r4.YC.We,.int .i64 r4.YC.Z2,.str r4.YC.Ww,.str r4.YC.Qr,sL 5 ZB r4.YC.Zu,.bool r4.Xv.We,.int .i64 r4.Xv.XZ,.int .i64 r4.Xv.X0,sL 4 XQ r4.Xv.Zo,sL 2 Xf r4.Xv.ZT,sL 3 XF r4.Xv.ZC,sL 5 Xy r4.Xv.Zv,sL 5 ZB r4.Xv.Zu] 0 else Zs (p2.1.getD j default))]⟩ [decide (0 ≤ p2.2),decide (p2.2 < (p2.1.length : Int)),decide (0 ≤ p2.2),decide (p2.2 < (p2.1.length : Int))] [⟨true,104,[.agg (Zs (p2.1.getD (0 + p2.2.toNat) default))],.pure (.agg (Zs r4))⟩] c9 ⟨fun _ => Zct (p2.1.getD (0 + p2.2.toNat) default) r4 q7,trivial⟩ (XO (Xb (s' := ⟨24,[(2,.ref 1 0),(3,.asl 2 0 ((p2.1.set (0 + p2.2.toNat) r4).length)),(9,.int .i64 (r1.length : Int)),(10,.int .i64 p2.2)],[.box (X6 a0),.box [.sl true 25 0 (fun _ => [])],aL 25 Zs (p2.1.set (0 + p2.2.toNat) r4)]⟩) (JM (.cons Sub.rfl (.cons (Wu (by simp)) (.cons Sub.rfl (.cons Sub.rfl .nil)))) (.cons .rfl (.cons .rfl (.cons (.arr (by simp) (Ze5 Zs p2.1 (0 + p2.2.toNat) r4 _ rfl)) .nil)))) (zg [2,3,9,10] 3 (rn h10))))
 exact ZF (Xl (re h6 ⟨rfl,kq⟩))
 intro e13 s14 o15
 refine zi o15 (Za (W6 (s' := ⟨24,[(2,.ref 1 0),(3,sL 25 Zs y5)],[.box u1,.box [.sl true 25 0 (fun _ => [])],aL 25 Zs ([] : List Zh)]⟩) (Le.trans (Zlc 3 2 25 Zs y5 (fun i => Zs (([] : List Zh).getD i default)) (by kernel_rfl) (by kernel_rfl) (by kernel_rfl)) (kp [2,3])) (zg [2] 2 (Zb (Zf ?_)))))
 obtain rfl := Option.some.inj h12
 exact er0 (.agg [sL 25 Zs y5])
theorem Rw (a0 : List Int) (r : List Int) (h : M.Qq a0 = some r) : Fn Tryz.prog 77 [sL 1 (ci .i64) a0] (.pure (sL 1 (ci .i64) r)) := by
 unfold M.Qq at h
 obtain ⟨hc,h1⟩ := Zq h
 obtain rfl := Option.some.inj h1
 refine ZE Tryz.func77 rfl (by kernel_rfl) (Za (zg [0] 0 (Zb (Za (Za (zg [0,4] 0 (Zb (nq a0.length (fun hz => ?_) ?_))))))))
 exact Za (zg [2] 0 (Zb (Zf (Zk (er (.sl false 1 0 (fun _ => [])) (GG hz))))))
 exact Zd (Zb (Za (zc [2] 1 hc (Zb (Zf (er (.sl false 1 (0 + a0.length) (fun i => (app (fun i => List.take 1 (List.drop (i * 1) [])) 0 (fun i => (ci .i64) (a0.getD i default))) (0 + i))) (Gb (Nat.zero_add _) (fun i hi => by rw [Nat.zero_add]; exact Uc (ci .i64) _ a0 _ (fun _ _ => rfl) i hi))))))))
theorem Zhn (a0 : ZG) (a1 : List Int) (r : XU × Int) (h : M.U6 a0 a1 = some r) : Fn Tryz.prog 41 [.agg (X6 a0),sL 1 (ci .i64) a1] (.pure (.tup [.agg (Ys r.1),.int .i64 r.2])) := by
 let u2 := X6 a0
 unfold M.U6 at h
 refine ZE Tryz.func41 rfl (by kernel_rfl) (Za (zg [1,2,4] 2 (Zb (Za ?_))))
 obtain ⟨r1,q1,h2⟩ := bind_some h
 let u1 : List Ob := [.box u2,.box [.sl true 25 0 (fun _ => []),.sl true 4 0 (fun _ => []),.sl true 1 0 (fun _ => []),.sl true 1 0 (fun _ => [])],.box (KT r1.1)]
 refine zr [1,2,4,6,7] 3 Zt (rq1 (Zgm _ _ q1) rqn) (Zb (Za (Za (zg [1,2,4,6,7,16] 3 (Zb (cn h2 (fun _ h4 => ?_) (fun _ h5 => ?_)))))))
 refine Za ?_
 cases h4
 refine Zd (Zb (Za (Za (zg [1,2,4,6,21] 3 (Zb (cn h5 (fun _ h7 => ?_) (fun _ h8 => ?_)))))))
 refine Za ?_
 cases h7
 refine Zd (Zb (Za (Za (zg [1,2,4,6,23,24,25] 3 (Zb (Zg ?_))))))
 obtain ⟨y4,q13,h14⟩ := bind_some h8
 refine zl (fun (p2 : Int) => ⟨60,[(1,sL 1 (ci .i64) a1),(2,.ref 0 0),(4,.ref 1 0),(6,.ref 2 0),(23,sL 1 (ci .i64) a1),(24,.int .i64 (a1.length : Int)),(25,.int .i64 p2)],u1⟩) (fun z => OutE 0 (fun z => ⟨60,[(1,sL 1 (ci .i64) a1),(2,.ref 0 0),(4,.ref 1 0),(6,.ref 2 0)],u1⟩) z) q13 ?_ ?_
 intro p2 y3 h9
 unfold M.W2 at h9
 refine Za (zg [1,2,4,6,23,24,25,26] 3 (Zb (Za (cn h9 (fun _ h11 => ?_) (fun _ h12 => ?_)))))
 refine Zd (Zb (Za (Zg (Za ?_))))
 cases h11
 exact ZF (Xl (re h12 ⟨rfl,kq⟩))
 intro e15 s16 o17
 refine zi o17 (Za ?_)
 obtain ⟨r5,q19,h20⟩ := bind_some h14
 obtain ⟨r6,q21,h22⟩ := bind_some h20
 refine rgw [.pure (.agg (X6 r5)),.pure (sL 1 (ci .i64) r6)] [4,5] 2 ⟨60,[(4,.ref 1 0),(5,.int .i64 0)],[.box u2,.box [sL 25 Zs r5.Ze,sL 4 ZV r1.1.Xa,sL 1 (ci .i64) r1.1.JP,sL 1 (ci .i64) r6]]⟩ [] [⟨true,76,[.agg u2],.pure (.agg (X6 r5))⟩,⟨true,77,[sL 1 (ci .i64) a1],.pure (sL 1 (ci .i64) r6)⟩] Zt ⟨fun _ => ZbF a0 r5 q19,fun _ => Rw a1 r6 q21,trivial⟩ (Zb (Zf ?_))
 obtain rfl := Option.some.inj h22
 exact er0 (.tup [.agg [sL 25 Zs r5.Ze,sL 4 ZV r1.1.Xa,sL 1 (ci .i64) r1.1.JP,sL 1 (ci .i64) r6],.int .i64 0])
theorem ZbZ (a0 : List YJ) (a1 : Int) (r : Int) (h : M.WP a0 a1 = some r) : Fn Tryz.prog 20 [sL 4 VE a0,.int .u32 a1] (.pure (.int .i64 r)) := by
 let u1 := (a0.length : Int)
 let u2 : Nat × D := (0,sL 4 VE a0)
 let u3 : Nat × D := (8,sL 4 VE a0)
 unfold M.WP at h
 refine ZE Tryz.func20 rfl (by kernel_rfl) (Za (zg [0,1] 0 (Zb (Za (zg [0,1,5] 0 (Zb (Za (Za (zg [0,1,5,8,9,10] 0 (Zb (Zg ?_)))))))))))
 obtain ⟨y5,q16,h17⟩ := bind_some h
 refine zl (fun (p1 : Int × Int) => ⟨38,[u2,(1,.int .u32 a1),(5,.int .i64 p1.1),u3,(9,.int .i64 u1),(10,.int .i64 p1.2)],[]⟩) (fun z => OutE 0 (fun z => ⟨38,[(5,.int .i64 z)],[]⟩) z) q16 ?_ ?_
 intro p1 y2 h1
 unfold M.WD at h1
 refine Za (rg0 [0,1,5,8,9,10,11] 0 ⟨38,[u2,(1,.int .u32 a1),(5,.int .i64 p1.1),u3,(9,.int .i64 u1),(10,.int .i64 p1.2),(11,.bool (decide (p1.2 < u1)))],[]⟩ (Zb (Za (cn h1 (fun _ h3 => ?_) (fun _ h4 => ?_)))))
 refine Zd (Zb (Vo (fun (p3 : Int) => ⟨38,[u2,(1,.int .u32 a1),(5,.int .i64 p3),u3,(9,.int .i64 u1),(10,.int .i64 p1.2)],[]⟩) (fun p3 => M.J3 p1 p3 = some y2) ?_ ?_))
 intro p3 h6
 unfold M.J3 at h6
 exact zg [0,1,5,8,9,10] 0 (rn h6)
 intro k5
 refine Zg (Za ?_)
 obtain ⟨c7,h8⟩ := Zq h3
 refine zc [0,1,5,6,7,8,9,10] 1 c7 (Zb (Za ?_))
 obtain ⟨r4,q9,h10⟩ := bind_some h8
 obtain ⟨c11,h12⟩ := Zq h10
 refine zr [0,1,5,6,8,9,10,34] 0 c11 (rq1 (Rr _ _ _ q9) rqn) (Zb (cn h12 (fun _ h14 => ?_) (fun _ h15 => ?_)))
 exact zg [0,1,5,8,9,10] 0 (XO (Xb lk (k5 p1.2 h14)))
 exact Zd (XO (Xb kq (k5 p1.1 h15)))
 exact ZF (Xl (re h4 ⟨rfl,kq⟩))
 intro e18 s19 o20
 exact zi o20 (Za (zg [4] 0 (Zb (Zf (er1 h17)))))
theorem Zgn  (r : Bool) (h : M.UG  = some r) : Fn Tryz.prog 17 [] (.pure (.bool r)) := by
 unfold M.UG at h
 refine ZE Tryz.func17 rfl (by kernel_rfl) (Za (zg [] 0 (Zb (Za (zg [1] 1 (Zb (Za ?_)))))))
 obtain ⟨r1,q1,h2⟩ := bind_some h
 refine rg [.pure (.tup [.agg (Ys r1.1),.int .i64 r1.2])] [2,3] 2 ⟨60,[(2,.ref 1 0),(3,.int .i64 r1.2)],[.box [.sl true 25 1 (fun i => List.take 25 (List.drop (i * 25) [.str (⟨#[97]⟩ : ByteArray),.int .i64 0,.sl true 12 1 (fun i => List.take 12 (List.drop (i * 12) [.str (⟨#[101,48]⟩ : ByteArray),.int .u32 167772161,.int .i64 24,.int .i64 0,.bool false,.bool false,.int .i64 0,.int .i64 0,.bool false,.str (⟨#[]⟩ : ByteArray),.str (⟨#[]⟩ : ByteArray),.int .i64 0])),.sl true 2 0 (fun _ => []),.sl true 2 0 (fun _ => []),.sl true 2 0 (fun _ => []),.sl true 9 0 (fun _ => []),.sl true 7 1 (fun i => List.take 7 (List.drop (i * 7) [.int .u32 0,.int .i64 0,.int .u32 167772169,.str (⟨#[]⟩ : ByteArray),.bool false,.int .i64 1,.int .i64 0])),.bool false,.int .i64 0,.sl true 3 0 (fun _ => []),.sl true 5 0 (fun _ => []),.bool false,.int .i64 0,.str (⟨#[]⟩ : ByteArray),.str (⟨#[]⟩ : ByteArray),.sl true 5 0 (fun _ => []),.bool false,.int .i64 0,.int .i64 0,.sl true 4 0 (fun _ => []),.sl true 2 0 (fun _ => []),.sl true 3 0 (fun _ => []),.sl true 5 0 (fun _ => []),.sl true 5 0 (fun _ => [])]))],.box (Ys r1.1)]⟩ [] [⟨true,41,[.agg [.sl false 25 1 (fun i => List.take 25 (List.drop (i * 25) [.str (⟨#[97]⟩ : ByteArray),.int .i64 0,.sl true 12 1 (fun i => List.take 12 (List.drop (i * 12) [.str (⟨#[101,48]⟩ : ByteArray),.int .u32 167772161,.int .i64 24,.int .i64 0,.bool false,.bool false,.int .i64 0,.int .i64 0,.bool false,.str (⟨#[]⟩ : ByteArray),.str (⟨#[]⟩ : ByteArray),.int .i64 0])),.sl true 2 0 (fun _ => []),.sl true 2 0 (fun _ => []),.sl true 2 0 (fun _ => []),.sl true 9 0 (fun _ => []),.sl true 7 1 (fun i => List.take 7 (List.drop (i * 7) [.int .u32 0,.int .i64 0,.int .u32 167772169,.str (⟨#[]⟩ : ByteArray),.bool false,.int .i64 1,.int .i64 0])),.bool false,.int .i64 0,.sl true 3 0 (fun _ => []),.sl true 5 0 (fun _ => []),.bool false,.int .i64 0,.str (⟨#[]⟩ : ByteArray),.str (⟨#[]⟩ : ByteArray),.sl true 5 0 (fun _ => []),.bool false,.int .i64 0,.int .i64 0,.sl true 4 0 (fun _ => []),.sl true 2 0 (fun _ => []),.sl true 3 0 (fun _ => []),.sl true 5 0 (fun _ => []),.sl true 5 0 (fun _ => [])]))],.nils],.pure (.tup [.agg (Ys r1.1),.int .i64 r1.2])⟩] Zt ⟨fun _ => (Zhn (⟨([(⟨(⟨#[97]⟩ : ByteArray),0,([(⟨(⟨#[101,48]⟩ : ByteArray),167772161,24,0,false,false,0,0,false,(⟨#[]⟩ : ByteArray),(⟨#[]⟩ : ByteArray),0⟩ : ZA)] : List ZA),([] : List ZW),([] : List Yl),([] : List US),([] : List Qx),([(⟨(⟨0,0⟩ : ZM),167772169,(⟨#[]⟩ : ByteArray),false,1,0⟩ : X2)] : List X2),(⟨false,0,([] : List VY),([] : List Qt)⟩ : Wo),(⟨false,0,(⟨#[]⟩ : ByteArray),(⟨#[]⟩ : ByteArray),([] : List Qt)⟩ : Y9),(⟨false,0,0,([] : List Vq),([] : List ZM),([] : List VZ),([] : List V0),([] : List Qt)⟩ : XI)⟩ : Zh)] : List Zh)⟩ : ZG) ([] : List Int) r1 q1).args (.cons (Kw (.cons (Zk4 rfl (fun i hi => match i,hi with | 0,_ => (.cons PSub.rfl (.cons PSub.rfl (.cons (ZcS rfl (fun i hi => match i,hi with | 0,_ => (.cons PSub.rfl (.cons PSub.rfl (.cons PSub.rfl (.cons PSub.rfl (.cons PSub.rfl (.cons PSub.rfl (.cons PSub.rfl (.cons PSub.rfl (.cons PSub.rfl (.cons PSub.rfl (.cons PSub.rfl (.cons PSub.rfl .nil)))))))))))) | n + 1,h => absurd h (by omega))) (.cons WH (.cons WH (.cons WH (.cons WH (.cons (ZcS rfl (fun i hi => match i,hi with | 0,_ => (.cons PSub.rfl (.cons PSub.rfl (.cons PSub.rfl (.cons PSub.rfl (.cons PSub.rfl (.cons PSub.rfl (.cons PSub.rfl .nil))))))) | n + 1,h => absurd h (by omega))) (.cons PSub.rfl (.cons PSub.rfl (.cons WH (.cons WH (.cons PSub.rfl (.cons PSub.rfl (.cons PSub.rfl (.cons PSub.rfl (.cons WH (.cons PSub.rfl (.cons PSub.rfl (.cons PSub.rfl (.cons WH (.cons WH (.cons WH (.cons WH (.cons WH .nil))))))))))))))))))))))))) | n + 1,h => absurd h (by omega))) .nil)) (.cons ZjZ .nil)),trivial⟩ (Zb (Za (Za (zg [2,19] 2 (Zb (cn h2 (fun _ h4 => ?_) (fun _ h5 => ?_)))))))
 exact Za (zg [0] 0 (Zb (Zf (Zk (er1 h4)))))
 refine Zd (Zb (Za (rg0 [2,4] 2 ⟨60,[(2,.ref 1 0),(4,.sl true 14 2 (fun i => List.take 14 (List.drop (i * 14) [.int .u32 0,.int .i64 0,.int .i64 2,.int .i64 0,.int .i64 1,.int .i64 0,.int .i64 0,.int .i64 0,.int .i64 0,.sl true 1 0 (fun _ => []),.int .u32 0,.int .u32 167772169,.sl true 2 0 (fun _ => []),.bool false,.int .u32 167772160,.int .i64 24,.int .i64 1,.int .i64 0,.int .i64 0,.int .i64 0,.int .i64 0,.int .i64 0,.int .i64 0,.sl true 1 0 (fun _ => []),.int .u32 0,.int .u32 0,.sl true 2 1 (fun i => List.take 2 (List.drop (i * 2) [.int .i64 0,.int .u32 0])),.bool false])))],[.box [.sl true 25 1 (fun i => List.take 25 (List.drop (i * 25) [.str (⟨#[97]⟩ : ByteArray),.int .i64 0,.sl true 12 1 (fun i => List.take 12 (List.drop (i * 12) [.str (⟨#[101,48]⟩ : ByteArray),.int .u32 167772161,.int .i64 24,.int .i64 0,.bool false,.bool false,.int .i64 0,.int .i64 0,.bool false,.str (⟨#[]⟩ : ByteArray),.str (⟨#[]⟩ : ByteArray),.int .i64 0])),.sl true 2 0 (fun _ => []),.sl true 2 0 (fun _ => []),.sl true 2 0 (fun _ => []),.sl true 9 0 (fun _ => []),.sl true 7 1 (fun i => List.take 7 (List.drop (i * 7) [.int .u32 0,.int .i64 0,.int .u32 167772169,.str (⟨#[]⟩ : ByteArray),.bool false,.int .i64 1,.int .i64 0])),.bool false,.int .i64 0,.sl true 3 0 (fun _ => []),.sl true 5 0 (fun _ => []),.bool false,.int .i64 0,.str (⟨#[]⟩ : ByteArray),.str (⟨#[]⟩ : ByteArray),.sl true 5 0 (fun _ => []),.bool false,.int .i64 0,.int .i64 0,.sl true 4 0 (fun _ => []),.sl true 2 0 (fun _ => []),.sl true 3 0 (fun _ => []),.sl true 5 0 (fun _ => []),.sl true 5 0 (fun _ => [])]))],.box (Ys r1.1)]⟩ (Xb (s' := ⟨60,[(2,.ref 1 0),(4,sL 14 Yn ([(⟨(⟨0,0⟩ : ZM),2,0,1,0,0,0,0,([] : List Int),0,167772169,([] : List ZY),false⟩ : Z3),(⟨(⟨167772160,24⟩ : ZM),1,0,0,0,0,0,0,([] : List Int),0,0,([(⟨0,0⟩ : ZY)] : List ZY),false⟩ : Z3)] : List Z3))],[.box [.sl true 25 1 (fun i => List.take 25 (List.drop (i * 25) [.str (⟨#[97]⟩ : ByteArray),.int .i64 0,.sl true 12 1 (fun i => List.take 12 (List.drop (i * 12) [.str (⟨#[101,48]⟩ : ByteArray),.int .u32 167772161,.int .i64 24,.int .i64 0,.bool false,.bool false,.int .i64 0,.int .i64 0,.bool false,.str (⟨#[]⟩ : ByteArray),.str (⟨#[]⟩ : ByteArray),.int .i64 0])),.sl true 2 0 (fun _ => []),.sl true 2 0 (fun _ => []),.sl true 2 0 (fun _ => []),.sl true 9 0 (fun _ => []),.sl true 7 1 (fun i => List.take 7 (List.drop (i * 7) [.int .u32 0,.int .i64 0,.int .u32 167772169,.str (⟨#[]⟩ : ByteArray),.bool false,.int .i64 1,.int .i64 0])),.bool false,.int .i64 0,.sl true 3 0 (fun _ => []),.sl true 5 0 (fun _ => []),.bool false,.int .i64 0,.str (⟨#[]⟩ : ByteArray),.str (⟨#[]⟩ : ByteArray),.sl true 5 0 (fun _ => []),.bool false,.int .i64 0,.int .i64 0,.sl true 4 0 (fun _ => []),.sl true 2 0 (fun _ => []),.sl true 3 0 (fun _ => []),.sl true 5 0 (fun _ => []),.sl true 5 0 (fun _ => [])]))],.box (Ys r1.1)]⟩) (JM (.cons Sub.rfl (.cons (Zme rfl (fun i hi => match i,hi with | 0,_ => (.cons PSub.rfl (.cons PSub.rfl (.cons PSub.rfl (.cons PSub.rfl (.cons PSub.rfl (.cons PSub.rfl (.cons PSub.rfl (.cons PSub.rfl (.cons PSub.rfl (.cons WH (.cons PSub.rfl (.cons PSub.rfl (.cons WH (.cons PSub.rfl .nil)))))))))))))) | 1,_ => (.cons PSub.rfl (.cons PSub.rfl (.cons PSub.rfl (.cons PSub.rfl (.cons PSub.rfl (.cons PSub.rfl (.cons PSub.rfl (.cons PSub.rfl (.cons PSub.rfl (.cons WH (.cons PSub.rfl (.cons PSub.rfl (.cons (ZcS rfl (fun i hi => match i,hi with | 0,_ => (.cons PSub.rfl (.cons PSub.rfl .nil)) | n + 1,h => absurd h (by omega))) (.cons PSub.rfl .nil)))))))))))))) | n + 2,h => absurd h (by omega))) .nil)) (.cons .rfl (.cons .rfl .nil))) (Za ?_)))))
 obtain ⟨r2,q6,h7⟩ := bind_some h5
 refine zr [5] 0 Zt (rq1 (Zdl _ _ _ _ q6) rqn) (Zb (Za ?_))
 obtain ⟨r3,q8,h9⟩ := bind_some h7
 obtain ⟨r4,q10,h11⟩ := bind_some h9
 obtain ⟨c12,h13⟩ := Zq h11
 exact zr [0] 0 c12 (rq2 (fun hg => ZbZ _ _ _ (Xg q8 hg)) (rq2 (fun hg => ZbZ _ _ _ (Xg q10 hg)) rqn)) (Zb (Zf (er1 h13)))
theorem Zd4 (a0 : ZG) (a1 : List Int) (a2 : List Z3) (r : Bool) (h : M.G6 a0 a1 a2 = some r) : Fn Tryz.prog 4 [.agg (X6 a0),sL 1 (ci .i64) a1,sL 14 Yn a2] (.pure (.bool r)) := by
 let u2 : Nat × D := (2,sL 14 Yn a2)
 unfold M.G6 at h
 refine ZE Tryz.func4 rfl (by kernel_rfl) (Za (zg [1,2,3] 1 (Zb (Za ?_))))
 obtain ⟨r1,q1,h2⟩ := bind_some h
 let u1 : List Ob := [.box (X6 a0),.box (Ys r1.1)]
 refine zr [2,3,7,8] 2 Zt (rq1 (Zgi _ _ _ q1) rqn) (Zb (Za (Za ?_)))
 obtain ⟨r2,q3,h4⟩ := bind_some h2
 refine zr [2,3,7,31] 2 Zt (rq2 (fun hg => ZfV _ _ _ (Xg q3 hg)) rqn) (Zb (cn h4 (fun _ h6 => ?_) (fun _ h7 => ?_)))
 exact Za (zg [6] 0 (Zb (Zf (Zk (er1 h6)))))
 refine Zd (Zb (Za (Za (zg [2,3,7,9] 2 (Zb (Zg ?_))))))
 obtain ⟨y17,q56,h57⟩ := bind_some h7
 refine zl (fun (p3 : Int) => ⟨137,[u2,(3,.ref 0 0),(7,.ref 1 0),(9,.int .i64 p3)],u1⟩) (Sum.elim (fun z => OutE 0 (fun z => ⟨137,[],[]⟩) z) (fun z => OutR Tryz.prog Tryz.f4 (.bool z))) q56 ?_ ?_
 intro p3 y4 h8
 unfold M.Uq at h8
 refine Za (Za (zg [2,3,7,9,36] 2 (Zb (cn h8 (fun _ h10 => ?_) (fun _ h11 => ?_)))))
 refine Zd (Zb (Za (Zg (Za ?_))))
 obtain ⟨r5,q12,h13⟩ := bind_some h10
 let u3 : Nat × D := (10,sL 4 VE r5)
 refine zr [2,3,7,9,10] 2 Zt (rq1 (Zdl _ _ _ _ q12) rqn) (Zb (Za (zg [2,3,7,9,10,11] 2 (Zb (Zg ?_)))))
 obtain ⟨y14,q47,h48⟩ := bind_some h13
 refine zl (fun (p6 : Int) => ⟨137,[u2,(3,.ref 0 0),(7,.ref 1 0),(9,.int .i64 p3),u3,(11,.int .i64 p6)],u1⟩) (Sum.elim (fun z => OutE 2 (fun z => ⟨137,[u2,(3,.ref 0 0),(7,.ref 1 0),(9,.int .i64 p3)],u1⟩) z) (fun z => OutR Tryz.prog Tryz.f4 (.bool z))) q47 ?_ ?_
 intro p6 y7 h14
 unfold M.Up at h14
 refine Za (Za (zg [2,3,7,9,10,11,46] 2 (Zb (cn h14 (fun _ h16 => ?_) (fun _ h17 => ?_)))))
 refine Zd (Zb (Za (Zg (Za (Za ?_)))))
 obtain ⟨c18,h19⟩ := Zq h16
 refine zc [2,3,7,9,10,11,62] 2 c18 (Zb (cn h19 (fun _ h21 => ?_) (fun _ h22 => ?_)))
 exact Za (zg [6] 0 (Zb (Zf (Zk (ZQ (Zk (rr h21 ⟨rfl,er0 _⟩)))))))
 refine Zd (Zb (Za (zg [2,3,7,9,10,11,12] 2 (Zb (Zg ?_)))))
 obtain ⟨y11,q38,h39⟩ := bind_some h22
 refine zl (fun (p8 : Int) => ⟨137,[u2,(3,.ref 0 0),(7,.ref 1 0),(9,.int .i64 p3),u3,(11,.int .i64 p6),(12,.int .i64 p8)],u1⟩) (Sum.elim (fun z => OutE 4 (fun z => ⟨137,[u2,(3,.ref 0 0),(7,.ref 1 0),(9,.int .i64 p3),u3,(11,.int .i64 p6)],u1⟩) z) (fun z => OutR Tryz.prog Tryz.f4 (.bool z))) q38 ?_ ?_
 intro p8 y9 h23
 unfold M.Uo at h23
 refine Za (Za ?_)
 obtain ⟨c24,h25⟩ := Zq h23
 refine zc [2,3,7,9,10,11,12,70] 2 c24 (Zb (cn h25 (fun _ h27 => ?_) (fun _ h28 => ?_)))
 refine Zd (Zb (Za (Zg (Za ?_))))
 obtain ⟨c29,h30⟩ := Zq h27
 refine zc [2,3,7,9,10,11,12,13] 3 c29 (Zb (Za ?_))
 obtain ⟨r10,q31,h32⟩ := bind_some h30
 obtain ⟨c33,h34⟩ := Zq h32
 refine zr [2,3,7,9,10,11,12,135] 2 c33 (rq1 (Zim _ _ _ _ q31) rqn) (Zb (cn h34 (fun _ h36 => ?_) (fun _ h37 => ?_)))
 exact Za (zg [6] 0 (Zb (Zf (ZQ (Zk (rr h36 ⟨rfl,er0 _⟩))))))
 exact Zd (XO (Zb (zg [2,3,7,9,10,11,12] 2 (rn h37))))
 exact ZF (Xl (re h28 ⟨rfl,kq⟩))
 intro e40 s41 o42
 rcases y11 with g12 | y13
 have h43 := Ya h39
 obtain ⟨rfl,l45⟩ := o42
 exact Y8 (XO (Xb (s' := ⟨137,[u2,(3,.ref 0 0),(7,.ref 1 0),(9,.int .i64 p3),u3,(11,.int .i64 p6)],u1⟩) (l45) (zg [2,3,7,9,10,11] 2 (rn h43))))
 have h44 := Yb h39
 obtain ⟨rfl,n46⟩ := o42
 exact ZQ (ZQ (Zk (rr h44 ⟨rfl,n46⟩)))
 exact ZF (Xl (re h17 ⟨rfl,kq⟩))
 intro e49 s50 o51
 rcases y14 with g15 | y16
 have h52 := Ya h48
 obtain ⟨rfl,l54⟩ := o51
 exact Y8 (XO (Xb (s' := ⟨137,[u2,(3,.ref 0 0),(7,.ref 1 0),(9,.int .i64 p3)],u1⟩) (l54) (zg [2,3,7,9] 2 (rn h52))))
 have h53 := Yb h48
 obtain ⟨rfl,n55⟩ := o51
 exact ZQ (ZQ (Zk (rr h53 ⟨rfl,n55⟩)))
 exact ZF (Xl (re h11 ⟨rfl,kc⟩))
 intro e58 s59 o60
 rcases y17 with g18 | y19
 have h61 := Ya h57
 refine zi o60 (Za ?_)
 obtain ⟨r20,q64,h65⟩ := bind_some h61
 exact rg [.pure (.bool r20)] [6] 0 ⟨137,[(6,.bool r20)],[]⟩ [] [⟨true,17,[],.pure (.bool r20)⟩] Zt ⟨fun _ => Zgn  r20 q64,trivial⟩ (Zb (Zf (er1 h65)))
 have h62 := Yb h57
 obtain ⟨rfl,n66⟩ := o60
 refine ZQ (Zk ?_)
 obtain rfl := Option.some.inj h62
 exact n66
end Nv
