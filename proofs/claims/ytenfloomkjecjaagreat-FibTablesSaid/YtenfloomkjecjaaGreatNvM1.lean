/- The walks: each function computes its mirror. -/
import Derived.Test.YtenfloomkjecjaaGreatProg
import Derived.Test.YtenfloomkjecjaaGreatNvD1
import Derived.Test.YtenfloomkjecjaaGreatNvLibC
import Derived.Test.YtenfloomkjecjaaGreatNvLibB
import Derived.KernelRfl
import Derived.Ground.SlsfProg
import Derived.Shelf.Lay
import Derived.Test.YtenfloomkjecjaaGreatNvLibD
import Derived.Test.YtenfloomkjecjaaGreatNvM1a
set_option maxRecDepth 100000
namespace Nv
open Go Go.Proofs
theorem Zjf:KeyT Tryz.prog 190 192 3 Z7 topoKeyEq:=⟨by kernel_rfl,⟨_,Tryz.underlying192⟩,⟨3,by kernel_rfl,fun _=>rfl⟩,fun _=>rfl,fun em y w=>by cases em <;> kernel_rfl,fun w=>by kernel_rfl,fun x y=>by kernel_rfl⟩
theorem ZeM (a0:ZI) (r:List Zj) (h:M.WK a0=some r):Fn Tryz.prog 99 [.agg (Yb a0)] (oL 4 Z0 r):=by
 let u1:Nat × D:=(14,sL 25 Zs a0.Ze)
 let u2:=(a0.Ze.length:Int)
 let u3:=Yb a0
 let u4:Nat × D:=(3,.sl true 4 0 (fun _=>[]))
 let u5:=List (Xb × Int)
 let u6:St:=⟨82,[(1,.ref 0 0),u4],[.box u3]⟩
 let u7:=List Zj
 unfold M.WK at h
 obtain ⟨y,hy,h1⟩:=bind_some h
 obtain rfl:=Option.some.inj h1
 refine ZcP Tryz.func99 rfl (by kernel_rfl) (Gb ?_)
 refine Za (rg0 [1] 1 ⟨82,[(1,.ref 0 0)],[.box u3]⟩ ?_)
 refine Zb (Za (rg0 [1,3] 1 u6 ?_))
 refine Zb (Za ?_)
 refine rgo 0 [] [1,3] 1 u6 [] [] Zt trivial (fun u:Value=>⟨82,(12,.val u) :: [(1,.ref 0 0),u4],[.box u3]++[.mp u []]⟩) (ZmB rfl rfl rfl rfl rfl) [] [1,3,4] 2 (fun u=>⟨82,[(1,.ref 0 0),u4,(4,.val u)],[.box u3,.mp u []]⟩) (fun _=>[]) (fun _=>[]) (fun _=>Zt) (fun _=>trivial) (fun u=>?_)
 refine Zb (Za (Za (rg0 [3,4,14,15,16] 2 ⟨82,[u4,(4,.val u),u1,(15,.int .i64 u2),(16,.int .i64 0)],[.box u3,.mp u []]⟩ ?_)))
 refine ZZ (Le.trans (s':=⟨82,(3,.asl 2 0 0) :: [u4,(4,.val u),u1,(15,.int .i64 u2),(16,.int .i64 0)],[.box u3,.mp u []]++[.arr 4 0 (fun _=>[])]⟩) (G0 (wd:=4) (f:=fun _=>[]) 3 (by kernel_rfl) _ _) (Le.trans (s':=⟨82,[(3,.asl 2 0 0),(4,.val u),u1,(15,.int .i64 u2),(16,.int .i64 0)],[.box u3,.mp u [],.arr 4 0 (fun _=>[])]⟩) (kp [3,4,14,15,16]) (Zi5 (H:=[.box u3,.mp u []]) (wi:=2) (wd:=4) hdDom Xo Zj.ZW _))) ?_
 refine Zg ?_
 refine KU (Zb5 (f:=M.Vu a0) (S:=fun (p:u7 × u5 × Int) (vs:Nat→Value)=>⟨82,[(3,.asl 2 0 p.1.length),(4,.val u),u1,(15,.int .i64 u2),(16,.int .i64 p.2.2)],[.box u3,mpO u Z7 p.2.1,rA 4 hdDom p.1 vs,rF 2 Xo Zj.ZW p.1 vs]⟩) (O:=(fun z=>OutL 0 (fun (z:List Zj) (g:(Nat→Value) × u5)=>⟨82,[(3,.asl 2 0 z.length)],[.box u3,mpO u Z7 g.2,rA 4 hdDom z g.1,rF 2 Xo Zj.ZW z g.1]⟩) z)) ?_ (g:=fun _=>nilV) (x:=([],[],0)) (y:=y) (Wz hy)) ?_
 · intro p1 y1 v1 h2
   unfold M.Vu at h2
   refine Za (rg0 [3,4,14,15,16,17] 4 ⟨82,[(3,.asl 2 0 p1.1.length),(4,.val u),u1,(15,.int .i64 u2),(16,.int .i64 p1.2.2),(17,.bool (decide (p1.2.2 < u2)))],[.box u3,mpO u Z7 p1.2.1,rA 4 hdDom p1.1 v1,rF 2 Xo Zj.ZW p1.1 v1]⟩ ?_)
   refine Zb (Za ?_)
   refine cnd (decide (p1.2.2 < u2)) (fun b1=>?_) (fun b1=>?_)
   · have h3:=GY b1 h2
     refine Zd (Zb ?_)
     refine Za (Zg (Za ?_))
     obtain ⟨c1,h4⟩:=Zo h3
     refine rgc [3,4,5,6,14,15,16] 5 ⟨82,[(3,.asl 2 0 p1.1.length),(4,.val u),(5,.int .i64 p1.2.2),(6,.ref 4 0),u1,(15,.int .i64 u2),(16,.int .i64 p1.2.2)],[.box u3,mpO u Z7 p1.2.1,rA 4 hdDom p1.1 v1,rF 2 Xo Zj.ZW p1.1 v1,.box (Zs (a0.Ze.getD p1.2.2.toNat default))]⟩ [decide (0≤p1.2.2),decide (p1.2.2 < u2)] c1 ?_
     refine Zb (Za (rg0 [3,4,5,14,15,16,22,23,24] 4 ⟨82,[(3,.asl 2 0 p1.1.length),(4,.val u),(5,.int .i64 p1.2.2),u1,(15,.int .i64 u2),(16,.int .i64 p1.2.2),(22,sL 12 Zl (a0.Ze.getD p1.2.2.toNat default).Zc),(23,.int .i64 ((a0.Ze.getD p1.2.2.toNat default).Zc.length:Int)),(24,.int .i64 0)],[.box u3,mpO u Z7 p1.2.1,rA 4 hdDom p1.1 v1,rF 2 Xo Zj.ZW p1.1 v1]⟩ ?_))
     refine Zb (Zg ?_)
     obtain ⟨y2,hy2,h5⟩:=bind_some h4
     refine KU (Zb5 (f:=M.Vt a0 p1.2.2) (S:=fun (p:u7 × u5 × Int) (vs:Nat→Value)=>⟨82,[(3,.asl 2 0 p.1.length),(4,.val u),(5,.int .i64 p1.2.2),u1,(15,.int .i64 u2),(16,.int .i64 p1.2.2),(22,sL 12 Zl (a0.Ze.getD p1.2.2.toNat default).Zc),(23,.int .i64 ((a0.Ze.getD p1.2.2.toNat default).Zc.length:Int)),(24,.int .i64 p.2.2)],[.box u3,mpO u Z7 p.2.1,rA 4 hdDom p.1 vs,rF 2 Xo Zj.ZW p.1 vs]⟩) (O:=(fun z=>OutL 2 (fun (z:u7 × u5) (vs:Nat→Value)=>⟨82,[(3,.asl 2 0 z.1.length),(4,.val u),u1,(15,.int .i64 u2),(16,.int .i64 p1.2.2)],[.box u3,mpO u Z7 z.2,rA 4 hdDom z.1 vs,rF 2 Xo Zj.ZW z.1 vs]⟩) z)) ?_ (g:=v1) (x:=(p1.1,p1.2.1,0)) (y:=y2) (Wz hy2)) ?_
     · intro p2 y3 v2 h6
       unfold M.Vt at h6
       refine Za (rg0 [3,4,5,14,15,16,22,23,24,25] 4 ⟨82,[(3,.asl 2 0 p2.1.length),(4,.val u),(5,.int .i64 p1.2.2),u1,(15,.int .i64 u2),(16,.int .i64 p1.2.2),(22,sL 12 Zl (a0.Ze.getD p1.2.2.toNat default).Zc),(23,.int .i64 ((a0.Ze.getD p1.2.2.toNat default).Zc.length:Int)),(24,.int .i64 p2.2.2),(25,.bool (decide (p2.2.2 < ((a0.Ze.getD p1.2.2.toNat default).Zc.length:Int))))],[.box u3,mpO u Z7 p2.2.1,rA 4 hdDom p2.1 v2,rF 2 Xo Zj.ZW p2.1 v2]⟩ ?_)
       refine Zb (Za ?_)
       refine cnd (decide (p2.2.2 < ((a0.Ze.getD p1.2.2.toNat default).Zc.length:Int))) (fun b2=>?_) (fun b2=>?_)
       · have h7:=GY b2 h6
         refine Zd (Zb ?_)
         refine Za (Zg (Za ?_))
         obtain ⟨c2,h8⟩:=Zo h7
         refine rgc [3,4,5,7,8,14,15,16,22,23,24] 5 ⟨82,[(3,.asl 2 0 p2.1.length),(4,.val u),(5,.int .i64 p1.2.2),(7,.int .i64 p2.2.2),(8,.ref 4 0),u1,(15,.int .i64 u2),(16,.int .i64 p1.2.2),(22,sL 12 Zl (a0.Ze.getD p1.2.2.toNat default).Zc),(23,.int .i64 ((a0.Ze.getD p1.2.2.toNat default).Zc.length:Int)),(24,.int .i64 p2.2.2)],[.box u3,mpO u Z7 p2.2.1,rA 4 hdDom p2.1 v2,rF 2 Xo Zj.ZW p2.1 v2,.box (Zl ((a0.Ze.getD p1.2.2.toNat default).Zc.getD p2.2.2.toNat default))]⟩ [decide (0≤p2.2.2),decide (p2.2.2 < ((a0.Ze.getD p1.2.2.toNat default).Zc.length:Int))] c2 ?_
         refine Zb (Za (Za ?_))
         refine rg0 [3,4,5,7,8,14,15,16,22,23,24,35] 5 ⟨82,[(3,.asl 2 0 p2.1.length),(4,.val u),(5,.int .i64 p1.2.2),(7,.int .i64 p2.2.2),(8,.ref 4 0),u1,(15,.int .i64 u2),(16,.int .i64 p1.2.2),(22,sL 12 Zl (a0.Ze.getD p1.2.2.toNat default).Zc),(23,.int .i64 ((a0.Ze.getD p1.2.2.toNat default).Zc.length:Int)),(24,.int .i64 p2.2.2),(35,.bool ((((a0.Ze.getD p1.2.2.toNat default).Zc.getD p2.2.2.toNat default).ZE==0)||((a0.Ze.getD p1.2.2.toNat default).Zc.getD p2.2.2.toNat default).Jx))],[.box u3,mpO u Z7 p2.2.1,rA 4 hdDom p2.1 v2,rF 2 Xo Zj.ZW p2.1 v2,.box (Zl ((a0.Ze.getD p1.2.2.toNat default).Zc.getD p2.2.2.toNat default))]⟩ ?_
         refine Zb ?_
         refine cnd ((((a0.Ze.getD p1.2.2.toNat default).Zc.getD p2.2.2.toNat default).ZE==0)||((a0.Ze.getD p1.2.2.toNat default).Zc.getD p2.2.2.toNat default).Jx) (fun b3=>?_) (fun b3=>?_)
         · have h9:=GY b3 h8
           refine ZD (Xc (Qg ?_))
           refine Zb (rg0 [3,4,5,14,15,16,22,23,24] 4 ⟨82,[(3,.asl 2 0 p2.1.length),(4,.val u),(5,.int .i64 p1.2.2),u1,(15,.int .i64 u2),(16,.int .i64 p1.2.2),(22,sL 12 Zl (a0.Ze.getD p1.2.2.toNat default).Zc),(23,.int .i64 ((a0.Ze.getD p1.2.2.toNat default).Zc.length:Int)),(24,.int .i64 (wr .i64 (p2.2.2+1)))],[.box u3,mpO u Z7 p2.2.1,rA 4 hdDom p2.1 v2,rF 2 Xo Zj.ZW p2.1 v2]⟩ ?_)
           obtain rfl:=Option.some.inj h9
           exact Zbg v2 Uw
         · have h9:=GZ b3 h8
           refine Zd (Zb (Za ?_))
           obtain ⟨r,hr,h10⟩:=bind_some h9
           refine rgs 8 9 [.pure (.agg (Xd r))] [3,4,5,7,9,14,15,16,22,23,24] 6 ⟨82,[(3,.asl 2 0 p2.1.length),(4,.val u),(5,.int .i64 p1.2.2),(7,.int .i64 p2.2.2),(9,.ref 5 0),u1,(15,.int .i64 u2),(16,.int .i64 p1.2.2),(22,sL 12 Zl (a0.Ze.getD p1.2.2.toNat default).Zc),(23,.int .i64 ((a0.Ze.getD p1.2.2.toNat default).Zc.length:Int)),(24,.int .i64 p2.2.2)],[.box u3,mpO u Z7 p2.2.1,rA 4 hdDom p2.1 v2,rF 2 Xo Zj.ZW p2.1 v2,.box (Zl ((a0.Ze.getD p1.2.2.toNat default).Zc.getD p2.2.2.toNat default)),.box (Z7 (⟨r,((a0.Ze.getD p1.2.2.toNat default).Zc.getD p2.2.2.toNat default).XN⟩:Xb))]⟩ [] [⟨true,125,[.int .u32 ((a0.Ze.getD p1.2.2.toNat default).Zc.getD p2.2.2.toNat default).Zm,.int .i64 ((a0.Ze.getD p1.2.2.toNat default).Zc.getD p2.2.2.toNat default).ZE],.pure (.agg (Xd r))⟩] Zt ⟨fun _=>Zfr ((a0.Ze.getD p1.2.2.toNat default).Zc.getD p2.2.2.toNat default).Zm ((a0.Ze.getD p1.2.2.toNat default).Zc.getD p2.2.2.toNat default).ZE r hr,trivial⟩ ?_
           refine Zb (Za ?_)
           refine rgo 2 [] [3,4,5,7,9,14,15,16,22,23,24,45,46] 6 ⟨82,[(3,.asl 2 0 p2.1.length),(4,.val u),(5,.int .i64 p1.2.2),(7,.int .i64 p2.2.2),(9,.ref 5 0),u1,(15,.int .i64 u2),(16,.int .i64 p1.2.2),(22,sL 12 Zl (a0.Ze.getD p1.2.2.toNat default).Zc),(23,.int .i64 ((a0.Ze.getD p1.2.2.toNat default).Zc.length:Int)),(24,.int .i64 p2.2.2),(45,.val u),(46,.agg (Z7 (⟨r,((a0.Ze.getD p1.2.2.toNat default).Zc.getD p2.2.2.toNat default).XN⟩:Xb)))],[.box u3,mpO u Z7 p2.2.1,rA 4 hdDom p2.1 v2,rF 2 Xo Zj.ZW p2.1 v2,.box (Zl ((a0.Ze.getD p1.2.2.toNat default).Zc.getD p2.2.2.toNat default)),.box (Z7 (⟨r,((a0.Ze.getD p1.2.2.toNat default).Zc.getD p2.2.2.toNat default).XN⟩:Xb))]⟩ [] [] Zt trivial (fun _:Unit=>⟨82,(47,.tup [.int .i64 (lkM (topoKeyEq (⟨r,((a0.Ze.getD p1.2.2.toNat default).Zc.getD p2.2.2.toNat default).XN⟩:Xb)) p2.2.1).1,.bool (lkM (topoKeyEq (⟨r,((a0.Ze.getD p1.2.2.toNat default).Zc.getD p2.2.2.toNat default).XN⟩:Xb)) p2.2.1).2]) :: [(3,.asl 2 0 p2.1.length),(4,.val u),(5,.int .i64 p1.2.2),(7,.int .i64 p2.2.2),(9,.ref 5 0),u1,(15,.int .i64 u2),(16,.int .i64 p1.2.2),(22,sL 12 Zl (a0.Ze.getD p1.2.2.toNat default).Zc),(23,.int .i64 ((a0.Ze.getD p1.2.2.toNat default).Zc.length:Int)),(24,.int .i64 p2.2.2),(45,.val u),(46,.agg (Z7 (⟨r,((a0.Ze.getD p1.2.2.toNat default).Zc.getD p2.2.2.toNat default).XN⟩:Xb)))],[.box u3,mpO u Z7 p2.2.1,rA 4 hdDom p2.1 v2,rF 2 Xo Zj.ZW p2.1 v2,.box (Zl ((a0.Ze.getD p1.2.2.toNat default).Zc.getD p2.2.2.toNat default)),.box (Z7 (⟨r,((a0.Ze.getD p1.2.2.toNat default).Zc.getD p2.2.2.toNat default).XN⟩:Xb))]⟩) (ZmD (id:=1) Zjf (⟨r,((a0.Ze.getD p1.2.2.toNat default).Zc.getD p2.2.2.toNat default).XN⟩:Xb) rfl rfl rfl rfl rfl rfl rfl rfl) [] [3,4,5,7,9,10,11,14,15,16,22,23,24] 6 (fun _=>⟨82,[(3,.asl 2 0 p2.1.length),(4,.val u),(5,.int .i64 p1.2.2),(7,.int .i64 p2.2.2),(9,.ref 5 0),(10,.int .i64 (lkM (topoKeyEq (⟨r,((a0.Ze.getD p1.2.2.toNat default).Zc.getD p2.2.2.toNat default).XN⟩:Xb)) p2.2.1).1),(11,.bool (lkM (topoKeyEq (⟨r,((a0.Ze.getD p1.2.2.toNat default).Zc.getD p2.2.2.toNat default).XN⟩:Xb)) p2.2.1).2),u1,(15,.int .i64 u2),(16,.int .i64 p1.2.2),(22,sL 12 Zl (a0.Ze.getD p1.2.2.toNat default).Zc),(23,.int .i64 ((a0.Ze.getD p1.2.2.toNat default).Zc.length:Int)),(24,.int .i64 p2.2.2)],[.box u3,mpO u Z7 p2.2.1,rA 4 hdDom p2.1 v2,rF 2 Xo Zj.ZW p2.1 v2,.box (Zl ((a0.Ze.getD p1.2.2.toNat default).Zc.getD p2.2.2.toNat default)),.box (Z7 (⟨r,((a0.Ze.getD p1.2.2.toNat default).Zc.getD p2.2.2.toNat default).XN⟩:Xb))]⟩) (fun _=>[]) (fun _=>[]) (fun _=>Zt) (fun _=>trivial) (fun _=>?_)
           refine Zb ?_
           refine Jz (fun (q:u7 × u5 × Int × (Nat→Value))=>⟨82,[(3,.asl 2 0 q.1.length),(4,.val u),(5,.int .i64 p1.2.2),(7,.int .i64 p2.2.2),(10,.int .i64 q.2.2.1),u1,(15,.int .i64 u2),(16,.int .i64 p1.2.2),(22,sL 12 Zl (a0.Ze.getD p1.2.2.toNat default).Zc),(23,.int .i64 ((a0.Ze.getD p1.2.2.toNat default).Zc.length:Int)),(24,.int .i64 p2.2.2)],[.box u3,mpO u Z7 q.2.1,rA 4 hdDom q.1 q.2.2.2,rF 2 Xo Zj.ZW q.1 q.2.2.2]⟩) (fun q=>M.JL p1.2.2 p2 (q.1,q.2.1,q.2.2.1)=some y3) ?_ ?_
           · intro q h11
             unfold M.JL at h11
             obtain ⟨c4,h12⟩:=Zo h11
             have g1:0≤q.2.2.1:=of_decide_eq_true (c4 _ (by simp only [List.mem_cons,true_or]))
             have g2:q.2.2.1 < (q.1.length:Int):=of_decide_eq_true (c4 _ (by simp only [List.mem_cons,true_or,or_true]))
             have g3:((q.1.getD (0+q.2.2.1.toNat) default).ZW.length+1)*16≤140737488355328:=of_decide_eq_true (c4 _ (by simp only [List.mem_cons,true_or,or_true]))
             refine Wq (Zml (idf:=3) (0+q.2.2.1.toNat) rfl) ?_
             refine rgxe 12 [] [3,4,5,14,15,16,22,23,24,65,66,76] 5 ⟨82,[(3,.asl 2 0 q.1.length),(4,.val u),(5,.int .i64 p1.2.2),u1,(15,.int .i64 u2),(16,.int .i64 p1.2.2),(22,sL 12 Zl (a0.Ze.getD p1.2.2.toNat default).Zc),(23,.int .i64 ((a0.Ze.getD p1.2.2.toNat default).Zc.length:Int)),(24,.int .i64 p2.2.2),(65,.asl 2 0 q.1.length),(66,.int .i64 q.2.2.1),(76,.asl 4 0 ((q.1.getD (0+q.2.2.1.toNat) default).ZW.length+1))],[.box u3,mpO u Z7 q.2.1,rA 4 hdDom q.1 q.2.2.2,.fam (0+q.2.2.1.toNat) (fun _=>false) q.1.length 2 (updV q.2.2.2 (0+q.2.2.1.toNat) nilV) (updL (rls Xo Zj.ZW q.1) (0+q.2.2.1.toNat) (0,fun _=>[])),.arr 2 ((q.1.getD (0+q.2.2.1.toNat) default).ZW.length+1) (app (rls Xo Zj.ZW q.1 (0+q.2.2.1.toNat)).2 (rls Xo Zj.ZW q.1 (0+q.2.2.1.toNat)).1 (fun i=>List.take 2 (List.drop (i*2) [.int .i64 p1.2.2,.int .i64 p2.2.2])))]⟩ [decide (0≤q.2.2.1),decide (q.2.2.1 < (q.1.length:Int)),pB (q.2.2.2 (0+q.2.2.1.toNat)=q.2.2.2 (0+q.2.2.1.toNat)),decide ((0+q.2.2.1.toNat) < q.1.length),decide (((q.1.getD (0+q.2.2.1.toNat) default).ZW.length+1)*16≤140737488355328)] [] ?_ trivial _ (Zkt (idf:=3) 76 (0+q.2.2.1.toNat) rfl rfl rfl ?_ rfl) [] [3,4,5,14,15,16,22,23,24] 4 (fun w=>⟨82,[(3,.asl 2 0 q.1.length),(4,.val u),(5,.int .i64 p1.2.2),u1,(15,.int .i64 u2),(16,.int .i64 p1.2.2),(22,sL 12 Zl (a0.Ze.getD p1.2.2.toNat default).Zc),(23,.int .i64 ((a0.Ze.getD p1.2.2.toNat default).Zc.length:Int)),(24,.int .i64 p2.2.2)],[.box u3,mpO u Z7 q.2.1,.arr 4 q.1.length (fun j=>bif Nat.beq j (0+q.2.2.1.toNat) then splice (hdDom (q.1.getD (0+q.2.2.1.toNat) default)++[.val (q.2.2.2 (0+q.2.2.1.toNat))]) [.val w] 3 else hdDom (q.1.getD j default)++[.val (q.2.2.2 j)]),.fam 0 (fun _=>false) q.1.length 2 (updV (updV q.2.2.2 (0+q.2.2.1.toNat) nilV) (0+q.2.2.1.toNat) w) (updL (updL (rls Xo Zj.ZW q.1) (0+q.2.2.1.toNat) (0,fun _=>[])) (0+q.2.2.1.toNat) ((q.1.getD (0+q.2.2.1.toNat) default).ZW.length+1,(app (rls Xo Zj.ZW q.1 (0+q.2.2.1.toNat)).2 (rls Xo Zj.ZW q.1 (0+q.2.2.1.toNat)).1 (fun i=>List.take 2 (List.drop (i*2) [.int .i64 p1.2.2,.int .i64 p2.2.2])))))]⟩) (fun _=>[decide (0≤q.2.2.1),decide (q.2.2.1 < (q.1.length:Int))]) (fun _=>[]) ?_ (fun _=>trivial) (fun w=>?_)
             · exact am (decide_eq_true g1) (am (decide_eq_true g2) (am (Zmk rfl) (am (decide_eq_true (by omega)) (am (decide_eq_true g3) Zt))))
             · rw [Uu]; rfl
             · exact fun _=>am (decide_eq_true g1) (am (decide_eq_true g2) Zt)
             refine XA ?_
             refine ZZ (s':=⟨82,[(3,.asl 2 0 (q.1.set (0+q.2.2.1.toNat) (⟨(q.1.getD (0+q.2.2.1.toNat) default).Zh,(q.1.getD (0+q.2.2.1.toNat) default).XN,(q.1.getD (0+q.2.2.1.toNat) default).ZW++[(⟨p1.2.2,p2.2.2⟩:VL)]⟩:Zj)).length),(4,.val u),(5,.int .i64 p1.2.2),(14,sL 25 Zs a0.Ze),(15,.int .i64 (a0.Ze.length:Int)),(16,.int .i64 p1.2.2),(22,sL 12 Zl (a0.Ze.getD p1.2.2.toNat default).Zc),(23,.int .i64 ((a0.Ze.getD p1.2.2.toNat default).Zc.length:Int)),(24,.int .i64 p2.2.2)],[.box (Yb a0),mpO u Z7 q.2.1,rA 4 hdDom (q.1.set (0+q.2.2.1.toNat) (⟨(q.1.getD (0+q.2.2.1.toNat) default).Zh,(q.1.getD (0+q.2.2.1.toNat) default).XN,(q.1.getD (0+q.2.2.1.toNat) default).ZW++[(⟨p1.2.2,p2.2.2⟩:VL)]⟩:Zj)) (updV q.2.2.2 (0+q.2.2.1.toNat) w),rF 2 Xo Zj.ZW (q.1.set (0+q.2.2.1.toNat) (⟨(q.1.getD (0+q.2.2.1.toNat) default).Zh,(q.1.getD (0+q.2.2.1.toNat) default).XN,(q.1.getD (0+q.2.2.1.toNat) default).ZW++[(⟨p1.2.2,p2.2.2⟩:VL)]⟩:Zj)) (updV q.2.2.2 (0+q.2.2.1.toNat) w)]⟩) (Le.trans (Zkz 2 3 hdDom Xo Zj.ZW q.1 (⟨(q.1.getD (0+q.2.2.1.toNat) default).Zh,(q.1.getD (0+q.2.2.1.toNat) default).XN,(q.1.getD (0+q.2.2.1.toNat) default).ZW++[(⟨p1.2.2,p2.2.2⟩:VL)]⟩:Zj) q.2.2.2 (0+q.2.2.1.toNat) w ((q.1.getD (0+q.2.2.1.toNat) default).ZW.length+1) (app (rls Xo Zj.ZW q.1 (0+q.2.2.1.toNat)).2 (rls Xo Zj.ZW q.1 (0+q.2.2.1.toNat)).1 (fun i=>List.take 2 (List.drop (i*2) [.int .i64 p1.2.2,.int .i64 p2.2.2]))) _ _ _ (by decide) rfl rfl (fun j _ hj=>by rw [ZcW hj]; rfl) (fun _=>by rw [Nat.beq_refl]; rfl) (fun j hj=>GW hj) (fun j hj=>Zb1 hj) (by simp) (fun i hi=>KW Xo (q.1.getD (0+q.2.2.1.toNat) default).ZW (⟨p1.2.2,p2.2.2⟩:VL) (fun i=>List.take 2 (List.drop (i*2) [.int .i64 p1.2.2,.int .i64 p2.2.2])) rfl i hi)) (QU (.cons (VJ (by simp)) (.cons Sub.rfl (.cons Sub.rfl (.cons Sub.rfl (.cons Sub.rfl (.cons Sub.rfl (.cons Sub.rfl (.cons Sub.rfl (.cons Sub.rfl .nil))))))))) HSub.rfl)) ?_
             refine rg0 [3,4,5,14,15,16,22,23,24] 4 ⟨82,[(3,.asl 2 0 (q.1.set (0+q.2.2.1.toNat) (⟨(q.1.getD (0+q.2.2.1.toNat) default).Zh,(q.1.getD (0+q.2.2.1.toNat) default).XN,(q.1.getD (0+q.2.2.1.toNat) default).ZW++[(⟨p1.2.2,p2.2.2⟩:VL)]⟩:Zj)).length),(4,.val u),(5,.int .i64 p1.2.2),u1,(15,.int .i64 u2),(16,.int .i64 p1.2.2),(22,sL 12 Zl (a0.Ze.getD p1.2.2.toNat default).Zc),(23,.int .i64 ((a0.Ze.getD p1.2.2.toNat default).Zc.length:Int)),(24,.int .i64 (wr .i64 (p2.2.2+1)))],[.box u3,mpO u Z7 q.2.1,rA 4 hdDom (q.1.set (0+q.2.2.1.toNat) (⟨(q.1.getD (0+q.2.2.1.toNat) default).Zh,(q.1.getD (0+q.2.2.1.toNat) default).XN,(q.1.getD (0+q.2.2.1.toNat) default).ZW++[(⟨p1.2.2,p2.2.2⟩:VL)]⟩:Zj)) (updV q.2.2.2 (0+q.2.2.1.toNat) w),rF 2 Xo Zj.ZW (q.1.set (0+q.2.2.1.toNat) (⟨(q.1.getD (0+q.2.2.1.toNat) default).Zh,(q.1.getD (0+q.2.2.1.toNat) default).XN,(q.1.getD (0+q.2.2.1.toNat) default).ZW++[(⟨p1.2.2,p2.2.2⟩:VL)]⟩:Zj)) (updV q.2.2.2 (0+q.2.2.1.toNat) w)]⟩ ?_
             obtain rfl:=Option.some.inj h12
             exact Zbg (updV q.2.2.2 (0+q.2.2.1.toNat) w) Uw
           · intro hk
             refine Za (rg0 [3,4,5,7,9,10,14,15,16,22,23,24,51] 6 ⟨82,[(3,.asl 2 0 p2.1.length),(4,.val u),(5,.int .i64 p1.2.2),(7,.int .i64 p2.2.2),(9,.ref 5 0),(10,.int .i64 (lkM (topoKeyEq (⟨r,((a0.Ze.getD p1.2.2.toNat default).Zc.getD p2.2.2.toNat default).XN⟩:Xb)) p2.2.1).1),u1,(15,.int .i64 u2),(16,.int .i64 p1.2.2),(22,sL 12 Zl (a0.Ze.getD p1.2.2.toNat default).Zc),(23,.int .i64 ((a0.Ze.getD p1.2.2.toNat default).Zc.length:Int)),(24,.int .i64 p2.2.2),(51,.bool (!(lkM (topoKeyEq (⟨r,((a0.Ze.getD p1.2.2.toNat default).Zc.getD p2.2.2.toNat default).XN⟩:Xb)) p2.2.1).2))],[.box u3,mpO u Z7 p2.2.1,rA 4 hdDom p2.1 v2,rF 2 Xo Zj.ZW p2.1 v2,.box (Zl ((a0.Ze.getD p1.2.2.toNat default).Zc.getD p2.2.2.toNat default)),.box (Z7 (⟨r,((a0.Ze.getD p1.2.2.toNat default).Zc.getD p2.2.2.toNat default).XN⟩:Xb))]⟩ ?_)
             refine Zb ?_
             refine cnd (!(lkM (topoKeyEq (⟨r,((a0.Ze.getD p1.2.2.toNat default).Zc.getD p2.2.2.toNat default).XN⟩:Xb)) p2.2.1).2) (fun b4=>?_) (fun b4=>?_)
             · have h11:=GY b4 h10
               obtain ⟨c4,h12⟩:=Zo h11
               refine Za (rg0 [3,4,5,7,9,10,14,15,16,22,23,24] 6 ⟨82,[(3,.asl 2 0 p2.1.length),(4,.val u),(5,.int .i64 p1.2.2),(7,.int .i64 p2.2.2),(9,.ref 5 0),(10,.int .i64 (p2.1.length:Int)),u1,(15,.int .i64 u2),(16,.int .i64 p1.2.2),(22,sL 12 Zl (a0.Ze.getD p1.2.2.toNat default).Zc),(23,.int .i64 ((a0.Ze.getD p1.2.2.toNat default).Zc.length:Int)),(24,.int .i64 p2.2.2)],[.box u3,mpO u Z7 p2.2.1,rA 4 hdDom p2.1 v2,rF 2 Xo Zj.ZW p2.1 v2,.box (Zl ((a0.Ze.getD p1.2.2.toNat default).Zc.getD p2.2.2.toNat default)),.box (Z7 (⟨r,((a0.Ze.getD p1.2.2.toNat default).Zc.getD p2.2.2.toNat default).XN⟩:Xb))]⟩ ?_)
               refine Zb (Za ?_)
               refine rgo 3 [] [3,4,5,7,9,10,14,15,16,22,23,24,54,55,56] 6 ⟨82,[(3,.asl 2 0 p2.1.length),(4,.val u),(5,.int .i64 p1.2.2),(7,.int .i64 p2.2.2),(9,.ref 5 0),(10,.int .i64 (p2.1.length:Int)),(14,sL 25 Zs a0.Ze),(15,.int .i64 (a0.Ze.length:Int)),(16,.int .i64 p1.2.2),(22,sL 12 Zl (a0.Ze.getD p1.2.2.toNat default).Zc),(23,.int .i64 ((a0.Ze.getD p1.2.2.toNat default).Zc.length:Int)),(24,.int .i64 p2.2.2),(54,.val u),(55,.agg (Z7 (⟨r,((a0.Ze.getD p1.2.2.toNat default).Zc.getD p2.2.2.toNat default).XN⟩:Xb))),(56,.int .i64 (p2.1.length:Int))],[.box (Yb a0),mpO u Z7 p2.2.1,rA 4 hdDom p2.1 v2,rF 2 Xo Zj.ZW p2.1 v2,.box (Zl ((a0.Ze.getD p1.2.2.toNat default).Zc.getD p2.2.2.toNat default)),.box (Z7 (⟨r,((a0.Ze.getD p1.2.2.toNat default).Zc.getD p2.2.2.toNat default).XN⟩:Xb))]⟩ [] [] Zt trivial (fun _:Unit=>⟨82,[(3,.asl 2 0 p2.1.length),(4,.val u),(5,.int .i64 p1.2.2),(7,.int .i64 p2.2.2),(9,.ref 5 0),(10,.int .i64 (p2.1.length:Int)),(14,sL 25 Zs a0.Ze),(15,.int .i64 (a0.Ze.length:Int)),(16,.int .i64 p1.2.2),(22,sL 12 Zl (a0.Ze.getD p1.2.2.toNat default).Zc),(23,.int .i64 ((a0.Ze.getD p1.2.2.toNat default).Zc.length:Int)),(24,.int .i64 p2.2.2),(54,.val u),(55,.agg (Z7 (⟨r,((a0.Ze.getD p1.2.2.toNat default).Zc.getD p2.2.2.toNat default).XN⟩:Xb))),(56,.int .i64 (p2.1.length:Int))],[.box (Yb a0),mpO u Z7 (p2.2.1++[((⟨r,((a0.Ze.getD p1.2.2.toNat default).Zc.getD p2.2.2.toNat default).XN⟩:Xb),(p2.1.length:Int))]),rA 4 hdDom p2.1 v2,rF 2 Xo Zj.ZW p2.1 v2,.box (Zl ((a0.Ze.getD p1.2.2.toNat default).Zc.getD p2.2.2.toNat default)),.box (Z7 (⟨r,((a0.Ze.getD p1.2.2.toNat default).Zc.getD p2.2.2.toNat default).XN⟩:Xb))]⟩) (ZnL (id:=1) Zjf (⟨r,((a0.Ze.getD p1.2.2.toNat default).Zc.getD p2.2.2.toNat default).XN⟩:Xb) (p2.1.length:Int) rfl rfl rfl rfl rfl rfl rfl rfl (by simpa using b4)) [] [3,4,5,7,9,10,14,15,16,22,23,24] 6 (fun _=>⟨82,[(3,.asl 2 0 p2.1.length),(4,.val u),(5,.int .i64 p1.2.2),(7,.int .i64 p2.2.2),(9,.ref 5 0),(10,.int .i64 (p2.1.length:Int)),(14,sL 25 Zs a0.Ze),(15,.int .i64 (a0.Ze.length:Int)),(16,.int .i64 p1.2.2),(22,sL 12 Zl (a0.Ze.getD p1.2.2.toNat default).Zc),(23,.int .i64 ((a0.Ze.getD p1.2.2.toNat default).Zc.length:Int)),(24,.int .i64 p2.2.2)],[.box (Yb a0),mpO u Z7 (p2.2.1++[((⟨r,((a0.Ze.getD p1.2.2.toNat default).Zc.getD p2.2.2.toNat default).XN⟩:Xb),(p2.1.length:Int))]),rA 4 hdDom p2.1 v2,rF 2 Xo Zj.ZW p2.1 v2,.box (Zl ((a0.Ze.getD p1.2.2.toNat default).Zc.getD p2.2.2.toNat default)),.box (Z7 (⟨r,((a0.Ze.getD p1.2.2.toNat default).Zc.getD p2.2.2.toNat default).XN⟩:Xb))]⟩) (fun _=>[]) (fun _=>[]) (fun _=>Zt) (fun _=>trivial) (fun _=>?_)
               refine Zb ?_
               refine rgc [3,4,5,7,10,14,15,16,22,23,24] 4 ⟨82,[(3,.asl 2 0 (p2.1.length+1)),(4,.val u),(5,.int .i64 p1.2.2),(7,.int .i64 p2.2.2),(10,.int .i64 (p2.1.length:Int)),u1,(15,.int .i64 u2),(16,.int .i64 p1.2.2),(22,sL 12 Zl (a0.Ze.getD p1.2.2.toNat default).Zc),(23,.int .i64 ((a0.Ze.getD p1.2.2.toNat default).Zc.length:Int)),(24,.int .i64 p2.2.2)],[.box u3,mpO u Z7 (p2.2.1++[((⟨r,((a0.Ze.getD p1.2.2.toNat default).Zc.getD p2.2.2.toNat default).XN⟩:Xb),(p2.1.length:Int))]),.arr 4 (p2.1.length+1) (app (fun j=>hdDom (p2.1.getD j default)++[.val (v2 j)]) p2.1.length (fun i=>List.take 4 (List.drop (i*4) [.int .u32 r.Zm,.int .i64 r.ZE,.int .i64 ((a0.Ze.getD p1.2.2.toNat default).Zc.getD p2.2.2.toNat default).XN,.sl true 2 0 (fun _=>[])]))),rF 2 Xo Zj.ZW p2.1 v2]⟩ [decide ((p2.1.length+1)*48≤140737488355328)] c4 ?_
               refine RI (Zk6 2 3 hdDom Xo Zj.ZW p2.1 (⟨r,((a0.Ze.getD p1.2.2.toNat default).Zc.getD p2.2.2.toNat default).XN,[]⟩:Zj) v2 (by decide) rfl rfl rfl (fun j hj=>ZfT hj) (ZmF.trans rfl)) fun w=>?_
               exact Wq (QU (.cons (VJ (by simp)) (.cons Sub.rfl (.cons Sub.rfl (.cons Sub.rfl (.cons Sub.rfl (.cons Sub.rfl (.cons Sub.rfl (.cons Sub.rfl (.cons Sub.rfl (.cons Sub.rfl (.cons Sub.rfl .nil))))))))))) HSub.rfl) (hk (p2.1++[(⟨r,((a0.Ze.getD p1.2.2.toNat default).Zc.getD p2.2.2.toNat default).XN,[]⟩:Zj)],(p2.2.1++[((⟨r,((a0.Ze.getD p1.2.2.toNat default).Zc.getD p2.2.2.toNat default).XN⟩:Xb),(p2.1.length:Int))]),(p2.1.length:Int),updV v2 p2.1.length w.1) h12)
             · have h11:=GZ b4 h10
               refine Zd ?_
               exact ZZ (Le.trans (s':=⟨82,[(3,.asl 2 0 p2.1.length),(4,.val u),(5,.int .i64 p1.2.2),(7,.int .i64 p2.2.2),(10,.int .i64 (lkM (topoKeyEq (⟨r,((a0.Ze.getD p1.2.2.toNat default).Zc.getD p2.2.2.toNat default).XN⟩:Xb)) p2.2.1).1),u1,(15,.int .i64 u2),(16,.int .i64 p1.2.2),(22,sL 12 Zl (a0.Ze.getD p1.2.2.toNat default).Zc),(23,.int .i64 ((a0.Ze.getD p1.2.2.toNat default).Zc.length:Int)),(24,.int .i64 p2.2.2)],[.box u3,mpO u Z7 p2.2.1,rA 4 hdDom p2.1 v2,rF 2 Xo Zj.ZW p2.1 v2,.box (Zl ((a0.Ze.getD p1.2.2.toNat default).Zc.getD p2.2.2.toNat default)),.box (Z7 (⟨r,((a0.Ze.getD p1.2.2.toNat default).Zc.getD p2.2.2.toNat default).XN⟩:Xb))]⟩) (kp [3,4,5,7,10,14,15,16,22,23,24]) (UO (n:=4) (by kernel_rfl))) (hk (p2.1,p2.2.1,(lkM (topoKeyEq (⟨r,((a0.Ze.getD p1.2.2.toNat default).Zc.getD p2.2.2.toNat default).XN⟩:Xb)) p2.2.1).1,v2) h11)
       · have h7:=GZ b2 h6
         refine ZD (Xc ?_)
         obtain rfl:=Option.some.inj h7
         exact ZdI ⟨rfl,LeE.of v2 (kp [3,4,14,15,16])⟩
     · intro e s o
       obtain ⟨rfl,l⟩:=o
       refine Qg (XA ?_)
       refine RI l fun v2=>?_
       refine rg0 [3,4,14,15,16] 4 ⟨82,[(3,.asl 2 0 y2.1.length),(4,.val u),u1,(15,.int .i64 u2),(16,.int .i64 (wr .i64 (p1.2.2+1)))],[.box u3,mpO u Z7 y2.2,rA 4 hdDom y2.1 v2,rF 2 Xo Zj.ZW y2.1 v2]⟩ ?_
       obtain rfl:=Option.some.inj h5
       exact Zbg v2 Uw
   · have h3:=GZ b1 h2
     refine ZD (Xc ?_)
     obtain rfl:=Option.some.inj h3
     exact ZdI ⟨rfl,LeE.of (v1,p1.2.1) (kp [3])⟩
 · intro e s o
   obtain ⟨rfl,l⟩:=o
   refine Qg ?_
   refine RI l fun g=>?_
   refine Za (rg0 [2] 4 ⟨82,[(2,.asl 2 0 y.length)],[.box u3,mpO u Z7 g.2,rA 4 hdDom y g.1,rF 2 Xo Zj.ZW y g.1]⟩ ?_)
   refine Zb (Zf ?_)
   exact ⟨_,ZkA 2 3 hdDom Xo Zj.ZW Z0 y g.1 rfl rfl (fun _=>rfl),.inr rfl,2,2,_,rfl,rfl,rfl,fun _ _=>rfl⟩
theorem Zfs (a0:ZL) (a1:ZL) (r:Int) (h:M.VV a0 a1=some r):Fn Tryz.prog 102 [.agg (Xd a0),.agg (Xd a1)] (.pure (.int .i64 r)):=by
 unfold M.VV at h
 refine ZC Tryz.func102 rfl (by kernel_rfl) (Za (zg [2,3] 2 (Zb (Za (Za ?_)))))
 obtain ⟨r1,q1,h2⟩:=bind_some h
 refine zr [2,3,5] 2 Zt (rq1 (Ki _ _ _ q1) rqn) (Zb (Za (zg [2,3,5,12] 2 (Zb (cn h2 (fun _ h4=>?_) (fun _ h5=>?_))))))
 exact Za (zg [4] 0 (Zb (Zf (Zk (er1 h4)))))
 refine Zd (Zb (Za ?_))
 obtain ⟨r2,q6,h7⟩:=bind_some h5
 exact zr [4] 0 Zt (rq1 (GK _ _ _ q6) rqn) (Zb (Zf (er1 h7)))
theorem Zft (a0:Zj) (a1:Zj) (r:Int) (h:M.Vv a0 a1=some r):Fn Tryz.prog 101 [.agg (Z0 a0),.agg (Z0 a1)] (.pure (.int .i64 r)):=by
 unfold M.Vv at h
 refine ZC Tryz.func101 rfl (by kernel_rfl) (Za (zg [2,3] 2 (Zb (Za ?_))))
 obtain ⟨r1,q1,h2⟩:=bind_some h
 obtain ⟨r2,q3,h4⟩:=bind_some h2
 obtain ⟨r3,q5,h6⟩:=bind_some h4
 exact rg [.pure (.int .i64 r1),.pure (.int .i64 r2),.pure (.int .i64 r3)] [4] 0 ⟨17,[(4,.int .i64 r3)],[]⟩ [] [⟨true,102,[.agg (Xd a0.Zh),.agg (Xd a1.Zh)],.pure (.int .i64 r1)⟩,⟨true,35,[.int .i64 a0.XN,.int .i64 a1.XN],.pure (.int .i64 r2)⟩,⟨true,34,[.sl false 1 2 (fun i=>List.take 1 (List.drop (i*1) [.int .i64 r1,.int .i64 r2]))],.pure (.int .i64 r3)⟩] Zt ⟨fun _=>Zfs a0.Zh a1.Zh r1 q1,fun _=>GK a0.XN a1.XN r2 q3,fun _=>(ZcC ([r1,r2]:List Int) r3 q5).args (.cons (ZhN rfl (fun i hi=>match i,hi with | 0,_=>rfl | 1,_=>rfl | n+2,h=>absurd h (by omega))) .nil),trivial⟩ (Zb (Zf (er1 h6)))
end Nv
namespace Go.Proofs
open Go.Shelf
shelf_lay_g SlLaysF0.n6 Slsf 6 at Tryz 100 as Tryz.sortL100
end Go.Proofs
namespace Nv
open Go Go.Proofs
theorem WC (a0:List Zj) (r:List Zj) (h:M.XM a0=some r):FnM Tryz.prog 100 [.asl 0 0 a0.length,.fn 101 []] 4 a0.length (fun i=>Z0 (a0.getD i default)) (fun i=>Z0 (r.getD i default)) (.tup []):=by
 obtain ⟨cf,h1,h2,h3,h4,rfl⟩:=ZjP h
 exact sortFR0 Tryz.sortL100 4 (fun w=>by kernel_rfl) (fun w=>by kernel_rfl) Z0 (fun _=>rfl) (fun _=>rfl) h2 101 (enters_of Tryz.func101 (by kernel_rfl) rfl) (fun x y=>Zft x y _ (h1 x y)) a0 h3 h4
theorem Zg8 (a0:ZI) (r:JZ × Int) (h:M.UU a0=some r):Fn Tryz.prog 75 [.agg (Yb a0)] (.pure (.tup [.agg (Rn r.1),.int .i64 r.2])):=by
 let u2:=Yb a0
 unfold M.UU at h
 refine ZC Tryz.func75 rfl (by kernel_rfl) (Za (zg [1,2] 2 (Zb (Za (Za ?_)))))
 obtain ⟨r1,q1,h2⟩:=bind_some h
 refine zr [1,2,4] 2 Zt (rq1 (ZgK _ _ q1) rqn) (Zb (Za (zg [1,2,4,12] 2 (Zb (cn h2 (fun _ h4=>?_) (fun _ h5=>?_))))))
 refine Za ?_
 cases h4
 refine Zd (Zb (Za ?_))
 obtain ⟨r2,q6,h7⟩:=bind_some h5
 refine rg [oL 4 Z0 r2] [2,5] 3 ⟨45,[(2,.ref 1 0),(5,.asl 2 0 r2.length)],[.box u2,.box [.sl true 4 0 (fun _=>[]),.sl true 1 0 (fun _=>[])],aL 4 Z0 r2]⟩ [] [⟨true,99,[.agg u2],oL 4 Z0 r2⟩] Zt ⟨fun _=>ZeM a0 r2 q6,trivial⟩ (Zb (Za ?_))
 obtain ⟨r3,q8,h9⟩:=bind_some h7
 let u1:List Ob:=[.box u2,.box [.sl true 4 0 (fun _=>[]),.sl true 1 0 (fun _=>[])],aL 4 Z0 ([]:List Zj),.box [sL 4 Z0 r3,.sl true 1 0 (fun _=>[])]]
 let u3:=(r3.length:Int)
 let u4:Nat × D:=(21,sL 4 Z0 r3)
 obtain ⟨c10,h11⟩:=Zo h9
 refine rg [.lnd 0 0 (fun _=>[]) (fun i=>Z0 (r3.getD i default)) (.tup [])] [2,5] 3 ⟨45,[(2,.ref 1 0),(5,.asl 2 0 r2.length)],[.box u2,.box [.sl true 4 0 (fun _=>[]),.sl true 1 0 (fun _=>[])],.arr 4 r2.length (fun i=>Z0 (r3.getD i default))]⟩ [] [⟨true,100,[.asl 0 0 r2.length,.fn 101 []],.lnd 4 r2.length (fun i=>Z0 (r2.getD i default)) (fun i=>Z0 (r3.getD i default)) (.tup [])⟩] Zt ⟨fun _=>WC r2 r3 q8,trivial⟩ (ZZ (s':=⟨45,[(2,.ref 1 0),(5,.asl 2 0 r3.length)],[.box u2,.box [.sl true 4 0 (fun _=>[]),.sl true 1 0 (fun _=>[])],aL 4 Z0 r3]⟩) (QU (.cons Sub.rfl (.cons (VJ (Zgb (c10 _ List.mem_cons_self))) .nil)) (.cons .rfl (.cons .rfl (.cons (.arr (Zgb (c10 _ List.mem_cons_self)) (fun _ _=>rfl)) .nil)))) (Za (Wq (s':=⟨45,[(2,.ref 1 0),(5,sL 4 Z0 r3)],[.box u2,.box [.sl true 4 0 (fun _=>[]),.sl true 1 0 (fun _=>[])],aL 4 Z0 ([]:List Zj)]⟩) (Le.trans (Zmf 5 2 4 Z0 r3 (fun i=>Z0 (([]:List Zj).getD i default)) (by kernel_rfl) (by kernel_rfl) (by kernel_rfl)) (kp [2,5])) (zg [2,5,6] 4 (Zb (Za (Za (zg [2,6,21,22,23] 4 (Zb (Zg ?_))))))))))
 obtain ⟨y7,q23,h24⟩:=bind_some h11
 refine zl (fun (p4:Int)=>⟨45,[(2,.ref 1 0),(6,.ref 3 0),u4,(22,.int .i64 u3),(23,.int .i64 p4)],u1⟩) (fun z=>OutE 0 (fun z=>⟨45,[(2,.ref 1 0),(6,.ref 3 0)],u1⟩) z) q23 ?_ ?_
 intro p4 y5 h12
 unfold M.WN at h12
 refine Za (rg0 [2,6,21,22,23,24] 4 ⟨45,[(2,.ref 1 0),(6,.ref 3 0),u4,(22,.int .i64 u3),(23,.int .i64 p4),(24,.bool (decide (p4 < u3)))],u1⟩ (Zb (Za (cn h12 (fun _ h14=>?_) (fun _ h15=>?_)))))
 refine Zd (Zb (Jz (fun (p6:Unit)=>⟨45,[(2,.ref 1 0),(6,.ref 3 0),u4,(22,.int .i64 u3),(23,.int .i64 p4)],u1⟩) (fun p6=>M.Wo p4 p6=some y5) ?_ ?_))
 intro p6 h17
 unfold M.Wo at h17
 exact zg [2,6,21,22,23] 4 (rn h17)
 intro k16
 refine Zg (Za ?_)
 obtain ⟨c18,h19⟩:=Zo h14
 refine zc [2,6,7,8,21,22,23] 5 c18 (Zb (Za (zg [2,6,7,21,22,23,31] 4 (Zb (cn h19 (fun _ h21=>?_) (fun _ h22=>?_))))))
 cases h21
 exact Zd (XA (ZZ kq (k16 () h22)))
 exact ZD (Xc (re h15 ⟨rfl,kq⟩))
 intro e25 s26 o27
 refine zi o27 (Za (Za (zg [2,6,42] 4 (Zb (cnd false (fun b29=>Bool.noConfusion b29) (fun _=>(Zd (Zb (Za (zg [2,3] 2 (Zb (Zf ?_))))))))))))
 obtain rfl:=Option.some.inj h24
 exact er (.tup [.agg [sL 4 Z0 r3,.sl false 1 0 (fun _=>[])],.int .i64 0]) (Zb4 (.cons (KV (.cons CSub.rfl (.cons V4 .nil))) (.cons ASub.rfl .nil)))
theorem Gh (a0:List Zi) (r:List Zi) (h:M.XW a0=some r):Fn Tryz.prog 103 [sL 25 Zs a0] (oL 25 Zs r):=by
 unfold M.XW at h
 obtain ⟨hc,h1⟩:=Zo h
 obtain rfl:=Option.some.inj h1
 refine ZcP Tryz.func103 rfl (by kernel_rfl) (Gb ?_)
 refine Za (rg0 [0] 0 ⟨8,[(0,sL 25 Zs a0)],[]⟩ ?_)
 refine Zb (Za (Za (rg0 [0,4] 0 ⟨8,[(0,sL 25 Zs a0),(4,.nilq a0.length)],[]⟩ ?_)))
 refine Zb (nq a0.length (fun hz=>?_) ?_)
 refine Za (rg0 [2] 0 ⟨8,[(2,.sl true 25 0 (fun _=>[]))],[]⟩ ?_)
 refine Zb (Zf (Zk ?_))
 obtain rfl:=List.eq_nil_of_length_eq_zero hz
 exact ⟨_,G0 (wd:=25) (f:=fun _=>[]) 2 (by kernel_rfl) 25 (fun i=>Zs (([]:List Zi).getD i default)),.inr rfl,2,0,_,rfl,rfl,rfl,fun _ _=>rfl⟩
 refine Zd (Zb (Za (rgc [2] 1 ⟨8,[(2,.asl 0 0 (0+a0.length))],[.arr 25 (0+a0.length) (app (fun i=>List.take 25 (List.drop (i*25) [])) 0 (fun i=>Zs (a0.getD i default)))]⟩ [decide (0=0)||decide (0 < a0.length),decide ((0+a0.length)*448≤140737488355328)] hc ?_)))
 refine Zb (Zf ?_)
 exact ⟨⟨8,[(2,.asl 0 0 a0.length)],[aL 25 Zs a0]⟩,QU (.cons (VJ (Nat.zero_add _)) .nil) (.cons (.arr (Nat.zero_add _) (Ur Zs _ a0 _ (fun _ _=>rfl))) .nil),.inr rfl,2,0,_,rfl,rfl,rfl,fun _ _=>rfl⟩
theorem UJ (a0:List ZA) (r:List ZA) (h:M.Xs a0=some r):Fn Tryz.prog 127 [sL 12 Zl a0] (oL 12 Zl r):=by
 unfold M.Xs at h
 obtain ⟨hc,h1⟩:=Zo h
 obtain rfl:=Option.some.inj h1
 refine ZcP Tryz.func127 rfl (by kernel_rfl) (Gb ?_)
 refine Za (rg0 [0] 0 ⟨8,[(0,sL 12 Zl a0)],[]⟩ ?_)
 refine Zb (Za (Za (rg0 [0,4] 0 ⟨8,[(0,sL 12 Zl a0),(4,.nilq a0.length)],[]⟩ ?_)))
 refine Zb (nq a0.length (fun hz=>?_) ?_)
 refine Za (rg0 [2] 0 ⟨8,[(2,.sl true 12 0 (fun _=>[]))],[]⟩ ?_)
 refine Zb (Zf (Zk ?_))
 obtain rfl:=List.eq_nil_of_length_eq_zero hz
 exact ⟨_,G0 (wd:=12) (f:=fun _=>[]) 2 (by kernel_rfl) 12 (fun i=>Zl (([]:List ZA).getD i default)),.inr rfl,2,0,_,rfl,rfl,rfl,fun _ _=>rfl⟩
 refine Zd (Zb (Za (rgc [2] 1 ⟨8,[(2,.asl 0 0 (0+a0.length))],[.arr 12 (0+a0.length) (app (fun i=>List.take 12 (List.drop (i*12) [])) 0 (fun i=>Zl (a0.getD i default)))]⟩ [decide (0=0)||decide (0 < a0.length),decide ((0+a0.length)*112≤140737488355328)] hc ?_)))
 refine Zb (Zf ?_)
 exact ⟨⟨8,[(2,.asl 0 0 a0.length)],[aL 12 Zl a0]⟩,QU (.cons (VJ (Nat.zero_add _)) .nil) (.cons (.arr (Nat.zero_add _) (Ur Zl _ a0 _ (fun _ _=>rfl))) .nil),.inr rfl,2,0,_,rfl,rfl,rfl,fun _ _=>rfl⟩
theorem Uo (a0:List Z1) (r:List Z1) (h:M.Xm a0=some r):Fn Tryz.prog 128 [sL 2 Zx a0] (oL 2 Zx r):=by
 unfold M.Xm at h
 obtain ⟨hc,h1⟩:=Zo h
 obtain rfl:=Option.some.inj h1
 refine ZcP Tryz.func128 rfl (by kernel_rfl) (Gb ?_)
 refine Za (rg0 [0] 0 ⟨8,[(0,sL 2 Zx a0)],[]⟩ ?_)
 refine Zb (Za (Za (rg0 [0,4] 0 ⟨8,[(0,sL 2 Zx a0),(4,.nilq a0.length)],[]⟩ ?_)))
 refine Zb (nq a0.length (fun hz=>?_) ?_)
 refine Za (rg0 [2] 0 ⟨8,[(2,.sl true 2 0 (fun _=>[]))],[]⟩ ?_)
 refine Zb (Zf (Zk ?_))
 obtain rfl:=List.eq_nil_of_length_eq_zero hz
 exact ⟨_,G0 (wd:=2) (f:=fun _=>[]) 2 (by kernel_rfl) 2 (fun i=>Zx (([]:List Z1).getD i default)),.inr rfl,2,0,_,rfl,rfl,rfl,fun _ _=>rfl⟩
 refine Zd (Zb (Za (rgc [2] 1 ⟨8,[(2,.asl 0 0 (0+a0.length))],[.arr 2 (0+a0.length) (app (fun i=>List.take 2 (List.drop (i*2) [])) 0 (fun i=>Zx (a0.getD i default)))]⟩ [decide (0=0)||decide (0 < a0.length),decide ((0+a0.length)*40≤140737488355328)] hc ?_)))
 refine Zb (Zf ?_)
 exact ⟨⟨8,[(2,.asl 0 0 a0.length)],[aL 2 Zx a0]⟩,QU (.cons (VJ (Nat.zero_add _)) .nil) (.cons (.arr (Nat.zero_add _) (Ur Zx _ a0 _ (fun _ _=>rfl))) .nil),.inr rfl,2,0,_,rfl,rfl,rfl,fun _ _=>rfl⟩
theorem U0 (a0:List Yt) (r:List Yt) (h:M.XE a0=some r):Fn Tryz.prog 130 [sL 2 ZX a0] (oL 2 ZX r):=by
 unfold M.XE at h
 obtain ⟨hc,h1⟩:=Zo h
 obtain rfl:=Option.some.inj h1
 refine ZcP Tryz.func130 rfl (by kernel_rfl) (Gb ?_)
 refine Za (rg0 [0] 0 ⟨8,[(0,sL 2 ZX a0)],[]⟩ ?_)
 refine Zb (Za (Za (rg0 [0,4] 0 ⟨8,[(0,sL 2 ZX a0),(4,.nilq a0.length)],[]⟩ ?_)))
 refine Zb (nq a0.length (fun hz=>?_) ?_)
 refine Za (rg0 [2] 0 ⟨8,[(2,.sl true 2 0 (fun _=>[]))],[]⟩ ?_)
 refine Zb (Zf (Zk ?_))
 obtain rfl:=List.eq_nil_of_length_eq_zero hz
 exact ⟨_,G0 (wd:=2) (f:=fun _=>[]) 2 (by kernel_rfl) 2 (fun i=>ZX (([]:List Yt).getD i default)),.inr rfl,2,0,_,rfl,rfl,rfl,fun _ _=>rfl⟩
 refine Zd (Zb (Za (rgc [2] 1 ⟨8,[(2,.asl 0 0 (0+a0.length))],[.arr 2 (0+a0.length) (app (fun i=>List.take 2 (List.drop (i*2) [])) 0 (fun i=>ZX (a0.getD i default)))]⟩ [decide (0=0)||decide (0 < a0.length),decide ((0+a0.length)*40≤140737488355328)] hc ?_)))
 refine Zb (Zf ?_)
 exact ⟨⟨8,[(2,.asl 0 0 a0.length)],[aL 2 ZX a0]⟩,QU (.cons (VJ (Nat.zero_add _)) .nil) (.cons (.arr (Nat.zero_add _) (Ur ZX _ a0 _ (fun _ _=>rfl))) .nil),.inr rfl,2,0,_,rfl,rfl,rfl,fun _ _=>rfl⟩
theorem Kb (a0:List U6) (r:List U6) (h:M.Ye a0=some r):Fn Tryz.prog 132 [sL 2 YU a0] (oL 2 YU r):=by
 unfold M.Ye at h
 obtain ⟨hc,h1⟩:=Zo h
 obtain rfl:=Option.some.inj h1
 refine ZcP Tryz.func132 rfl (by kernel_rfl) (Gb ?_)
 refine Za (rg0 [0] 0 ⟨8,[(0,sL 2 YU a0)],[]⟩ ?_)
 refine Zb (Za (Za (rg0 [0,4] 0 ⟨8,[(0,sL 2 YU a0),(4,.nilq a0.length)],[]⟩ ?_)))
 refine Zb (nq a0.length (fun hz=>?_) ?_)
 refine Za (rg0 [2] 0 ⟨8,[(2,.sl true 2 0 (fun _=>[]))],[]⟩ ?_)
 refine Zb (Zf (Zk ?_))
 obtain rfl:=List.eq_nil_of_length_eq_zero hz
 exact ⟨_,G0 (wd:=2) (f:=fun _=>[]) 2 (by kernel_rfl) 2 (fun i=>YU (([]:List U6).getD i default)),.inr rfl,2,0,_,rfl,rfl,rfl,fun _ _=>rfl⟩
 refine Zd (Zb (Za (rgc [2] 1 ⟨8,[(2,.asl 0 0 (0+a0.length))],[.arr 2 (0+a0.length) (app (fun i=>List.take 2 (List.drop (i*2) [])) 0 (fun i=>YU (a0.getD i default)))]⟩ [decide (0=0)||decide (0 < a0.length),decide ((0+a0.length)*40≤140737488355328)] hc ?_)))
 refine Zb (Zf ?_)
 exact ⟨⟨8,[(2,.asl 0 0 a0.length)],[aL 2 YU a0]⟩,QU (.cons (VJ (Nat.zero_add _)) .nil) (.cons (.arr (Nat.zero_add _) (Ur YU _ a0 _ (fun _ _=>rfl))) .nil),.inr rfl,2,0,_,rfl,rfl,rfl,fun _ _=>rfl⟩
theorem Uh (a0:List QF) (r:List QF) (h:M.Xh a0=some r):Fn Tryz.prog 134 [sL 9 Z2 a0] (.pure (sL 9 Z2 r)):=by
 unfold M.Xh at h
 obtain ⟨hc,h1⟩:=Zo h
 obtain rfl:=Option.some.inj h1
 refine ZC Tryz.func134 rfl (by kernel_rfl) (Za (zg [0] 0 (Zb (Za (Za (zg [0,4] 0 (Zb (nq a0.length (fun hz=>?_) ?_))))))))
 exact Za (zg [2] 0 (Zb (Zf (Zk (er (.sl false 9 0 (fun _=>[])) (G1 hz))))))
 exact Zd (Zb (Za (zc [2] 1 hc (Zb (Zf (er (.sl false 9 (0+a0.length) (fun i=>(app (fun i=>List.take 9 (List.drop (i*9) [])) 0 (fun i=>Z2 (a0.getD i default))) (0+i))) (Gs (Nat.zero_add _) (fun i hi=>by rw [Nat.zero_add]; exact Ur Z2 _ a0 _ (fun _ _=>rfl) i hi))))))))
theorem Ui (a0:List X8) (r:List X8) (h:M.Xi a0=some r):Fn Tryz.prog 135 [sL 7 ZU a0] (.pure (sL 7 ZU r)):=by
 unfold M.Xi at h
 obtain ⟨hc,h1⟩:=Zo h
 obtain rfl:=Option.some.inj h1
 refine ZC Tryz.func135 rfl (by kernel_rfl) (Za (zg [0] 0 (Zb (Za (Za (zg [0,4] 0 (Zb (nq a0.length (fun hz=>?_) ?_))))))))
 exact Za (zg [2] 0 (Zb (Zf (Zk (er (.sl false 7 0 (fun _=>[])) (G1 hz))))))
 exact Zd (Zb (Za (zc [2] 1 hc (Zb (Zf (er (.sl false 7 (0+a0.length) (fun i=>(app (fun i=>List.take 7 (List.drop (i*7) [])) 0 (fun i=>ZU (a0.getD i default))) (0+i))) (Gs (Nat.zero_add _) (fun i hi=>by rw [Nat.zero_add]; exact Ur ZU _ a0 _ (fun _ _=>rfl) i hi))))))))
theorem UK (a0:List V9) (r:List V9) (h:M.Xt a0=some r):Fn Tryz.prog 136 [sL 3 XJ a0] (.pure (sL 3 XJ r)):=by
 unfold M.Xt at h
 obtain ⟨hc,h1⟩:=Zo h
 obtain rfl:=Option.some.inj h1
 refine ZC Tryz.func136 rfl (by kernel_rfl) (Za (zg [0] 0 (Zb (Za (Za (zg [0,4] 0 (Zb (nq a0.length (fun hz=>?_) ?_))))))))
 exact Za (zg [2] 0 (Zb (Zf (Zk (er (.sl false 3 0 (fun _=>[])) (G1 hz))))))
 exact Zd (Zb (Za (zc [2] 1 hc (Zb (Zf (er (.sl false 3 (0+a0.length) (fun i=>(app (fun i=>List.take 3 (List.drop (i*3) [])) 0 (fun i=>XJ (a0.getD i default))) (0+i))) (Gs (Nat.zero_add _) (fun i hi=>by rw [Nat.zero_add]; exact Ur XJ _ a0 _ (fun _ _=>rfl) i hi))))))))
theorem J6 (a0:List QB) (r:List QB) (h:M.Z8 a0=some r):Fn Tryz.prog 137 [sL 5 ZB a0] (.pure (sL 5 ZB r)):=by
 unfold M.Z8 at h
 obtain ⟨hc,h1⟩:=Zo h
 obtain rfl:=Option.some.inj h1
 refine ZC Tryz.func137 rfl (by kernel_rfl) (Za (zg [0] 0 (Zb (Za (Za (zg [0,4] 0 (Zb (nq a0.length (fun hz=>?_) ?_))))))))
 exact Za (zg [2] 0 (Zb (Zf (Zk (er (.sl false 5 0 (fun _=>[])) (G1 hz))))))
 exact Zd (Zb (Za (zc [2] 1 hc (Zb (Zf (er (.sl false 5 (0+a0.length) (fun i=>(app (fun i=>List.take 5 (List.drop (i*5) [])) 0 (fun i=>ZB (a0.getD i default))) (0+i))) (Gs (Nat.zero_add _) (fun i hi=>by rw [Nat.zero_add]; exact Ur ZB _ a0 _ (fun _ _=>rfl) i hi))))))))
theorem U3 (a0:List VB) (r:List VB) (h:M.XF a0=some r):Fn Tryz.prog 138 [sL 4 XU a0] (.pure (sL 4 XU r)):=by
 unfold M.XF at h
 obtain ⟨hc,h1⟩:=Zo h
 obtain rfl:=Option.some.inj h1
 refine ZC Tryz.func138 rfl (by kernel_rfl) (Za (zg [0] 0 (Zb (Za (Za (zg [0,4] 0 (Zb (nq a0.length (fun hz=>?_) ?_))))))))
 exact Za (zg [2] 0 (Zb (Zf (Zk (er (.sl false 4 0 (fun _=>[])) (G1 hz))))))
 exact Zd (Zb (Za (zc [2] 1 hc (Zb (Zf (er (.sl false 4 (0+a0.length) (fun i=>(app (fun i=>List.take 4 (List.drop (i*4) [])) 0 (fun i=>XU (a0.getD i default))) (0+i))) (Gs (Nat.zero_add _) (fun i hi=>by rw [Nat.zero_add]; exact Ur XU _ a0 _ (fun _ _=>rfl) i hi))))))))
theorem Gn (a0:List ZL) (r:List ZL) (h:M.XX a0=some r):Fn Tryz.prog 139 [sL 2 Xd a0] (.pure (sL 2 Xd r)):=by
 unfold M.XX at h
 obtain ⟨hc,h1⟩:=Zo h
 obtain rfl:=Option.some.inj h1
 refine ZC Tryz.func139 rfl (by kernel_rfl) (Za (zg [0] 0 (Zb (Za (Za (zg [0,4] 0 (Zb (nq a0.length (fun hz=>?_) ?_))))))))
 exact Za (zg [2] 0 (Zb (Zf (Zk (er (.sl false 2 0 (fun _=>[])) (G1 hz))))))
 exact Zd (Zb (Za (zc [2] 1 hc (Zb (Zf (er (.sl false 2 (0+a0.length) (fun i=>(app (fun i=>List.take 2 (List.drop (i*2) [])) 0 (fun i=>Xd (a0.getD i default))) (0+i))) (Gs (Nat.zero_add _) (fun i hi=>by rw [Nat.zero_add]; exact Ur Xd _ a0 _ (fun _ _=>rfl) i hi))))))))
theorem UL (a0:List Wa) (r:List Wa) (h:M.Xu a0=some r):Fn Tryz.prog 140 [sL 3 XK a0] (.pure (sL 3 XK r)):=by
 unfold M.Xu at h
 obtain ⟨hc,h1⟩:=Zo h
 obtain rfl:=Option.some.inj h1
 refine ZC Tryz.func140 rfl (by kernel_rfl) (Za (zg [0] 0 (Zb (Za (Za (zg [0,4] 0 (Zb (nq a0.length (fun hz=>?_) ?_))))))))
 exact Za (zg [2] 0 (Zb (Zf (Zk (er (.sl false 3 0 (fun _=>[])) (G1 hz))))))
 exact Zd (Zb (Za (zc [2] 1 hc (Zb (Zf (er (.sl false 3 (0+a0.length) (fun i=>(app (fun i=>List.take 3 (List.drop (i*3) [])) 0 (fun i=>XK (a0.getD i default))) (0+i))) (Gs (Nat.zero_add _) (fun i hi=>by rw [Nat.zero_add]; exact Ur XK _ a0 _ (fun _ _=>rfl) i hi))))))))
theorem UM (a0:List Wb) (r:List Wb) (h:M.Xv a0=some r):Fn Tryz.prog 141 [sL 5 XC a0] (.pure (sL 5 XC r)):=by
 unfold M.Xv at h
 obtain ⟨hc,h1⟩:=Zo h
 obtain rfl:=Option.some.inj h1
 refine ZC Tryz.func141 rfl (by kernel_rfl) (Za (zg [0] 0 (Zb (Za (Za (zg [0,4] 0 (Zb (nq a0.length (fun hz=>?_) ?_))))))))
 exact Za (zg [2] 0 (Zb (Zf (Zk (er (.sl false 5 0 (fun _=>[])) (G1 hz))))))
 exact Zd (Zb (Za (zc [2] 1 hc (Zb (Zf (er (.sl false 5 (0+a0.length) (fun i=>(app (fun i=>List.take 5 (List.drop (i*5) [])) 0 (fun i=>XC (a0.getD i default))) (0+i))) (Gs (Nat.zero_add _) (fun i hi=>by rw [Nat.zero_add]; exact Ur XC _ a0 _ (fun _ _=>rfl) i hi))))))))
theorem Zc9 (a0:Zi) (r:Zi) (h:M.Vw a0=some r):Fn Tryz.prog 104 [.agg (Zs a0)] (.pure (.agg (Zs r))):=by
 let u1:List (Nat × D):=[(1,.ref 0 0),(2,.ref 1 0)]
 unfold M.Vw at h
 refine ZC Tryz.func104 rfl (by kernel_rfl) (Za (zg [1,2] 2 (Zb (Za ?_))))
 obtain ⟨r1,q1,h2⟩:=bind_some h
 refine rg [oL 12 Zl r1] [1,2] 3 ⟨136,u1,[.box [.str a0.XG,.int .i64 a0.KQ,.asl 2 0 r1.length,sL 2 Zx a0.YV,sL 2 ZX a0.XP,sL 2 YU a0.Y5,sL 9 Z2 a0.Xf,sL 7 ZU a0.Zq,.bool a0.YC.Wr,.int .i64 a0.YC.Z5,sL 3 XJ a0.YC.Z6,sL 5 ZB a0.YC.Zu,.bool a0.YK.Wr,.int .i64 a0.YK.Z5,.str a0.YK.WH,.str a0.YK.Qz,sL 5 ZB a0.YK.Zu,.bool a0.Xz.Wr,.int .i64 a0.Xz.X6,.int .i64 a0.Xz.X7,sL 4 XU a0.Xz.Zp,sL 2 Xd a0.Xz.ZY,sL 3 XK a0.Xz.ZG,sL 5 XC a0.Xz.Zv,sL 5 ZB a0.Xz.Zu],.box [.str (⟨#[]⟩:ByteArray),.int .i64 0,.sl true 12 0 (fun _=>[]),.sl true 2 0 (fun _=>[]),.sl true 2 0 (fun _=>[]),.sl true 2 0 (fun _=>[]),.sl true 9 0 (fun _=>[]),.sl true 7 0 (fun _=>[]),.bool false,.int .i64 0,.sl true 3 0 (fun _=>[]),.sl true 5 0 (fun _=>[]),.bool false,.int .i64 0,.str (⟨#[]⟩:ByteArray),.str (⟨#[]⟩:ByteArray),.sl true 5 0 (fun _=>[]),.bool false,.int .i64 0,.int .i64 0,.sl true 4 0 (fun _=>[]),.sl true 2 0 (fun _=>[]),.sl true 3 0 (fun _=>[]),.sl true 5 0 (fun _=>[]),.sl true 5 0 (fun _=>[])],aL 12 Zl r1]⟩ [] [⟨true,127,[sL 12 Zl a0.Zc],oL 12 Zl r1⟩] Zt ⟨fun _=>UJ a0.Zc r1 q1,trivial⟩ (Zb (Za ?_))
 obtain ⟨r2,q3,h4⟩:=bind_some h2
 refine rg [oL 2 Zx r2] [1,2] 4 ⟨136,u1,[.box [.str a0.XG,.int .i64 a0.KQ,.asl 2 0 r1.length,.asl 3 0 r2.length,sL 2 ZX a0.XP,sL 2 YU a0.Y5,sL 9 Z2 a0.Xf,sL 7 ZU a0.Zq,.bool a0.YC.Wr,.int .i64 a0.YC.Z5,sL 3 XJ a0.YC.Z6,sL 5 ZB a0.YC.Zu,.bool a0.YK.Wr,.int .i64 a0.YK.Z5,.str a0.YK.WH,.str a0.YK.Qz,sL 5 ZB a0.YK.Zu,.bool a0.Xz.Wr,.int .i64 a0.Xz.X6,.int .i64 a0.Xz.X7,sL 4 XU a0.Xz.Zp,sL 2 Xd a0.Xz.ZY,sL 3 XK a0.Xz.ZG,sL 5 XC a0.Xz.Zv,sL 5 ZB a0.Xz.Zu],.box [.str (⟨#[]⟩:ByteArray),.int .i64 0,.sl true 12 0 (fun _=>[]),.sl true 2 0 (fun _=>[]),.sl true 2 0 (fun _=>[]),.sl true 2 0 (fun _=>[]),.sl true 9 0 (fun _=>[]),.sl true 7 0 (fun _=>[]),.bool false,.int .i64 0,.sl true 3 0 (fun _=>[]),.sl true 5 0 (fun _=>[]),.bool false,.int .i64 0,.str (⟨#[]⟩:ByteArray),.str (⟨#[]⟩:ByteArray),.sl true 5 0 (fun _=>[]),.bool false,.int .i64 0,.int .i64 0,.sl true 4 0 (fun _=>[]),.sl true 2 0 (fun _=>[]),.sl true 3 0 (fun _=>[]),.sl true 5 0 (fun _=>[]),.sl true 5 0 (fun _=>[])],aL 12 Zl r1,aL 2 Zx r2]⟩ [] [⟨true,128,[sL 2 Zx a0.YV],oL 2 Zx r2⟩] Zt ⟨fun _=>Uo a0.YV r2 q3,trivial⟩ (Zb (Za (Za (zg [1,2,16,17] 4 (Zb (Zg ?_))))))
 obtain ⟨y5,q9,h10⟩:=bind_some h4
 refine zl (fun (p3:Int)=>⟨136,[(1,.ref 0 0),(2,.ref 1 0),(16,.int .i64 (r2.length:Int)),(17,.int .i64 p3)],[.box [.str a0.XG,.int .i64 a0.KQ,.asl 2 0 r1.length,.asl 3 0 r2.length,sL 2 ZX a0.XP,sL 2 YU a0.Y5,sL 9 Z2 a0.Xf,sL 7 ZU a0.Zq,.bool a0.YC.Wr,.int .i64 a0.YC.Z5,sL 3 XJ a0.YC.Z6,sL 5 ZB a0.YC.Zu,.bool a0.YK.Wr,.int .i64 a0.YK.Z5,.str a0.YK.WH,.str a0.YK.Qz,sL 5 ZB a0.YK.Zu,.bool a0.Xz.Wr,.int .i64 a0.Xz.X6,.int .i64 a0.Xz.X7,sL 4 XU a0.Xz.Zp,sL 2 Xd a0.Xz.ZY,sL 3 XK a0.Xz.ZG,sL 5 XC a0.Xz.Zv,sL 5 ZB a0.Xz.Zu],.box [.str (⟨#[]⟩:ByteArray),.int .i64 0,.sl true 12 0 (fun _=>[]),.sl true 2 0 (fun _=>[]),.sl true 2 0 (fun _=>[]),.sl true 2 0 (fun _=>[]),.sl true 9 0 (fun _=>[]),.sl true 7 0 (fun _=>[]),.bool false,.int .i64 0,.sl true 3 0 (fun _=>[]),.sl true 5 0 (fun _=>[]),.bool false,.int .i64 0,.str (⟨#[]⟩:ByteArray),.str (⟨#[]⟩:ByteArray),.sl true 5 0 (fun _=>[]),.bool false,.int .i64 0,.int .i64 0,.sl true 4 0 (fun _=>[]),.sl true 2 0 (fun _=>[]),.sl true 3 0 (fun _=>[]),.sl true 5 0 (fun _=>[]),.sl true 5 0 (fun _=>[])],aL 12 Zl r1,aL 2 Zx r2]⟩) (fun z=>OutE 0 (fun z=>⟨136,u1,[.box [.str a0.XG,.int .i64 a0.KQ,.asl 2 0 r1.length,.asl 3 0 r2.length,sL 2 ZX a0.XP,sL 2 YU a0.Y5,sL 9 Z2 a0.Xf,sL 7 ZU a0.Zq,.bool a0.YC.Wr,.int .i64 a0.YC.Z5,sL 3 XJ a0.YC.Z6,sL 5 ZB a0.YC.Zu,.bool a0.YK.Wr,.int .i64 a0.YK.Z5,.str a0.YK.WH,.str a0.YK.Qz,sL 5 ZB a0.YK.Zu,.bool a0.Xz.Wr,.int .i64 a0.Xz.X6,.int .i64 a0.Xz.X7,sL 4 XU a0.Xz.Zp,sL 2 Xd a0.Xz.ZY,sL 3 XK a0.Xz.ZG,sL 5 XC a0.Xz.Zv,sL 5 ZB a0.Xz.Zu],.box [.str (⟨#[]⟩:ByteArray),.int .i64 0,.sl true 12 0 (fun _=>[]),.sl true 2 0 (fun _=>[]),.sl true 2 0 (fun _=>[]),.sl true 2 0 (fun _=>[]),.sl true 9 0 (fun _=>[]),.sl true 7 0 (fun _=>[]),.bool false,.int .i64 0,.sl true 3 0 (fun _=>[]),.sl true 5 0 (fun _=>[]),.bool false,.int .i64 0,.str (⟨#[]⟩:ByteArray),.str (⟨#[]⟩:ByteArray),.sl true 5 0 (fun _=>[]),.bool false,.int .i64 0,.int .i64 0,.sl true 4 0 (fun _=>[]),.sl true 2 0 (fun _=>[]),.sl true 3 0 (fun _=>[]),.sl true 5 0 (fun _=>[]),.sl true 5 0 (fun _=>[])],aL 12 Zl r1,aL 2 Zx r2]⟩) z) q9 ?_ ?_
 intro p3 y4 h5
 unfold M.JM at h5
 refine Za (zg [1,2,16,17,18] 4 (Zb (Za (cn h5 (fun _ h7=>?_) (fun _ h8=>?_)))))
 refine Zd (Zb (Za (Zg (Za ?_))))
 cases h7
 exact ZD (Xc (re h8 ⟨rfl,kq⟩))
 intro e11 s12 o13
 refine zi o13 (Za (Wq (s':=⟨136,u1,[.box [.str a0.XG,.int .i64 a0.KQ,.sl false 12 r1.length (fun k=>(fun i=>Zl (r1.getD i default)) (0+k)),.sl false 2 r2.length (fun k=>(fun i=>Zx (r2.getD i default)) (0+k)),sL 2 ZX a0.XP,sL 2 YU a0.Y5,sL 9 Z2 a0.Xf,sL 7 ZU a0.Zq,.bool a0.YC.Wr,.int .i64 a0.YC.Z5,sL 3 XJ a0.YC.Z6,sL 5 ZB a0.YC.Zu,.bool a0.YK.Wr,.int .i64 a0.YK.Z5,.str a0.YK.WH,.str a0.YK.Qz,sL 5 ZB a0.YK.Zu,.bool a0.Xz.Wr,.int .i64 a0.Xz.X6,.int .i64 a0.Xz.X7,sL 4 XU a0.Xz.Zp,sL 2 Xd a0.Xz.ZY,sL 3 XK a0.Xz.ZG,sL 5 XC a0.Xz.Zv,sL 5 ZB a0.Xz.Zu],.box [.str (⟨#[]⟩:ByteArray),.int .i64 0,.sl true 12 0 (fun _=>[]),.sl true 2 0 (fun _=>[]),.sl true 2 0 (fun _=>[]),.sl true 2 0 (fun _=>[]),.sl true 9 0 (fun _=>[]),.sl true 7 0 (fun _=>[]),.bool false,.int .i64 0,.sl true 3 0 (fun _=>[]),.sl true 5 0 (fun _=>[]),.bool false,.int .i64 0,.str (⟨#[]⟩:ByteArray),.str (⟨#[]⟩:ByteArray),.sl true 5 0 (fun _=>[]),.bool false,.int .i64 0,.int .i64 0,.sl true 4 0 (fun _=>[]),.sl true 2 0 (fun _=>[]),.sl true 3 0 (fun _=>[]),.sl true 5 0 (fun _=>[]),.sl true 5 0 (fun _=>[])],aL 12 Zl ([]:List ZA),aL 2 Zx ([]:List Z1)]⟩) (Le.trans ((Le.trans (ZcT (s:=⟨136,u1,[.box [.str a0.XG,.int .i64 a0.KQ,.asl 2 0 r1.length,.asl 3 0 r2.length,sL 2 ZX a0.XP,sL 2 YU a0.Y5,sL 9 Z2 a0.Xf,sL 7 ZU a0.Zq,.bool a0.YC.Wr,.int .i64 a0.YC.Z5,sL 3 XJ a0.YC.Z6,sL 5 ZB a0.YC.Zu,.bool a0.YK.Wr,.int .i64 a0.YK.Z5,.str a0.YK.WH,.str a0.YK.Qz,sL 5 ZB a0.YK.Zu,.bool a0.Xz.Wr,.int .i64 a0.Xz.X6,.int .i64 a0.Xz.X7,sL 4 XU a0.Xz.Zp,sL 2 Xd a0.Xz.ZY,sL 3 XK a0.Xz.ZG,sL 5 XC a0.Xz.Zv,sL 5 ZB a0.Xz.Zu],.box [.str (⟨#[]⟩:ByteArray),.int .i64 0,.sl true 12 0 (fun _=>[]),.sl true 2 0 (fun _=>[]),.sl true 2 0 (fun _=>[]),.sl true 2 0 (fun _=>[]),.sl true 9 0 (fun _=>[]),.sl true 7 0 (fun _=>[]),.bool false,.int .i64 0,.sl true 3 0 (fun _=>[]),.sl true 5 0 (fun _=>[]),.bool false,.int .i64 0,.str (⟨#[]⟩:ByteArray),.str (⟨#[]⟩:ByteArray),.sl true 5 0 (fun _=>[]),.bool false,.int .i64 0,.int .i64 0,.sl true 4 0 (fun _=>[]),.sl true 2 0 (fun _=>[]),.sl true 3 0 (fun _=>[]),.sl true 5 0 (fun _=>[]),.sl true 5 0 (fun _=>[])],aL 12 Zl r1,aL 2 Zx r2]⟩) (s':=⟨136,u1,[.box [.str a0.XG,.int .i64 a0.KQ,.sl false 12 r1.length (fun k=>(fun i=>Zl (r1.getD i default)) (0+k)),.asl 3 0 r2.length,sL 2 ZX a0.XP,sL 2 YU a0.Y5,sL 9 Z2 a0.Xf,sL 7 ZU a0.Zq,.bool a0.YC.Wr,.int .i64 a0.YC.Z5,sL 3 XJ a0.YC.Z6,sL 5 ZB a0.YC.Zu,.bool a0.YK.Wr,.int .i64 a0.YK.Z5,.str a0.YK.WH,.str a0.YK.Qz,sL 5 ZB a0.YK.Zu,.bool a0.Xz.Wr,.int .i64 a0.Xz.X6,.int .i64 a0.Xz.X7,sL 4 XU a0.Xz.Zp,sL 2 Xd a0.Xz.ZY,sL 3 XK a0.Xz.ZG,sL 5 XC a0.Xz.Zv,sL 5 ZB a0.Xz.Zu],.box [.str (⟨#[]⟩:ByteArray),.int .i64 0,.sl true 12 0 (fun _=>[]),.sl true 2 0 (fun _=>[]),.sl true 2 0 (fun _=>[]),.sl true 2 0 (fun _=>[]),.sl true 9 0 (fun _=>[]),.sl true 7 0 (fun _=>[]),.bool false,.int .i64 0,.sl true 3 0 (fun _=>[]),.sl true 5 0 (fun _=>[]),.bool false,.int .i64 0,.str (⟨#[]⟩:ByteArray),.str (⟨#[]⟩:ByteArray),.sl true 5 0 (fun _=>[]),.bool false,.int .i64 0,.int .i64 0,.sl true 4 0 (fun _=>[]),.sl true 2 0 (fun _=>[]),.sl true 3 0 (fun _=>[]),.sl true 5 0 (fun _=>[]),.sl true 5 0 (fun _=>[])],aL 12 Zl ([]:List ZA),aL 2 Zx r2]⟩) 2 12 r1.length (fun i=>Zl (r1.getD i default)) (fun i=>Zl (([]:List ZA).getD i default)) (by kernel_rfl) (by kernel_rfl) (by kernel_rfl)) (ZcT (s:=⟨136,u1,[.box [.str a0.XG,.int .i64 a0.KQ,.sl false 12 r1.length (fun k=>(fun i=>Zl (r1.getD i default)) (0+k)),.asl 3 0 r2.length,sL 2 ZX a0.XP,sL 2 YU a0.Y5,sL 9 Z2 a0.Xf,sL 7 ZU a0.Zq,.bool a0.YC.Wr,.int .i64 a0.YC.Z5,sL 3 XJ a0.YC.Z6,sL 5 ZB a0.YC.Zu,.bool a0.YK.Wr,.int .i64 a0.YK.Z5,.str a0.YK.WH,.str a0.YK.Qz,sL 5 ZB a0.YK.Zu,.bool a0.Xz.Wr,.int .i64 a0.Xz.X6,.int .i64 a0.Xz.X7,sL 4 XU a0.Xz.Zp,sL 2 Xd a0.Xz.ZY,sL 3 XK a0.Xz.ZG,sL 5 XC a0.Xz.Zv,sL 5 ZB a0.Xz.Zu],.box [.str (⟨#[]⟩:ByteArray),.int .i64 0,.sl true 12 0 (fun _=>[]),.sl true 2 0 (fun _=>[]),.sl true 2 0 (fun _=>[]),.sl true 2 0 (fun _=>[]),.sl true 9 0 (fun _=>[]),.sl true 7 0 (fun _=>[]),.bool false,.int .i64 0,.sl true 3 0 (fun _=>[]),.sl true 5 0 (fun _=>[]),.bool false,.int .i64 0,.str (⟨#[]⟩:ByteArray),.str (⟨#[]⟩:ByteArray),.sl true 5 0 (fun _=>[]),.bool false,.int .i64 0,.int .i64 0,.sl true 4 0 (fun _=>[]),.sl true 2 0 (fun _=>[]),.sl true 3 0 (fun _=>[]),.sl true 5 0 (fun _=>[]),.sl true 5 0 (fun _=>[])],aL 12 Zl ([]:List ZA),aL 2 Zx r2]⟩) (s':=⟨136,u1,[.box [.str a0.XG,.int .i64 a0.KQ,.sl false 12 r1.length (fun k=>(fun i=>Zl (r1.getD i default)) (0+k)),.sl false 2 r2.length (fun k=>(fun i=>Zx (r2.getD i default)) (0+k)),sL 2 ZX a0.XP,sL 2 YU a0.Y5,sL 9 Z2 a0.Xf,sL 7 ZU a0.Zq,.bool a0.YC.Wr,.int .i64 a0.YC.Z5,sL 3 XJ a0.YC.Z6,sL 5 ZB a0.YC.Zu,.bool a0.YK.Wr,.int .i64 a0.YK.Z5,.str a0.YK.WH,.str a0.YK.Qz,sL 5 ZB a0.YK.Zu,.bool a0.Xz.Wr,.int .i64 a0.Xz.X6,.int .i64 a0.Xz.X7,sL 4 XU a0.Xz.Zp,sL 2 Xd a0.Xz.ZY,sL 3 XK a0.Xz.ZG,sL 5 XC a0.Xz.Zv,sL 5 ZB a0.Xz.Zu],.box [.str (⟨#[]⟩:ByteArray),.int .i64 0,.sl true 12 0 (fun _=>[]),.sl true 2 0 (fun _=>[]),.sl true 2 0 (fun _=>[]),.sl true 2 0 (fun _=>[]),.sl true 9 0 (fun _=>[]),.sl true 7 0 (fun _=>[]),.bool false,.int .i64 0,.sl true 3 0 (fun _=>[]),.sl true 5 0 (fun _=>[]),.bool false,.int .i64 0,.str (⟨#[]⟩:ByteArray),.str (⟨#[]⟩:ByteArray),.sl true 5 0 (fun _=>[]),.bool false,.int .i64 0,.int .i64 0,.sl true 4 0 (fun _=>[]),.sl true 2 0 (fun _=>[]),.sl true 3 0 (fun _=>[]),.sl true 5 0 (fun _=>[]),.sl true 5 0 (fun _=>[])],aL 12 Zl ([]:List ZA),aL 2 Zx ([]:List Z1)]⟩) 3 2 r2.length (fun i=>Zx (r2.getD i default)) (fun i=>Zx (([]:List Z1).getD i default)) (by kernel_rfl) (by kernel_rfl) (by kernel_rfl)))) (kp [1,2])) ?_))
 obtain ⟨r6,q15,h16⟩:=bind_some h10
 refine rg [oL 2 ZX r6] [1,2] 5 ⟨136,u1,[.box [.str a0.XG,.int .i64 a0.KQ,.sl false 12 r1.length (fun k=>(fun i=>Zl (r1.getD i default)) (0+k)),.sl false 2 r2.length (fun k=>(fun i=>Zx (r2.getD i default)) (0+k)),.asl 4 0 r6.length,sL 2 YU a0.Y5,sL 9 Z2 a0.Xf,sL 7 ZU a0.Zq,.bool a0.YC.Wr,.int .i64 a0.YC.Z5,sL 3 XJ a0.YC.Z6,sL 5 ZB a0.YC.Zu,.bool a0.YK.Wr,.int .i64 a0.YK.Z5,.str a0.YK.WH,.str a0.YK.Qz,sL 5 ZB a0.YK.Zu,.bool a0.Xz.Wr,.int .i64 a0.Xz.X6,.int .i64 a0.Xz.X7,sL 4 XU a0.Xz.Zp,sL 2 Xd a0.Xz.ZY,sL 3 XK a0.Xz.ZG,sL 5 XC a0.Xz.Zv,sL 5 ZB a0.Xz.Zu],.box [.str (⟨#[]⟩:ByteArray),.int .i64 0,.sl true 12 0 (fun _=>[]),.sl true 2 0 (fun _=>[]),.sl true 2 0 (fun _=>[]),.sl true 2 0 (fun _=>[]),.sl true 9 0 (fun _=>[]),.sl true 7 0 (fun _=>[]),.bool false,.int .i64 0,.sl true 3 0 (fun _=>[]),.sl true 5 0 (fun _=>[]),.bool false,.int .i64 0,.str (⟨#[]⟩:ByteArray),.str (⟨#[]⟩:ByteArray),.sl true 5 0 (fun _=>[]),.bool false,.int .i64 0,.int .i64 0,.sl true 4 0 (fun _=>[]),.sl true 2 0 (fun _=>[]),.sl true 3 0 (fun _=>[]),.sl true 5 0 (fun _=>[]),.sl true 5 0 (fun _=>[])],aL 12 Zl ([]:List ZA),aL 2 Zx ([]:List Z1),aL 2 ZX r6]⟩ [] [⟨true,130,[sL 2 ZX a0.XP],oL 2 ZX r6⟩] Zt ⟨fun _=>U0 a0.XP r6 q15,trivial⟩ (ZZ (s':=⟨136,u1,[.box [.str a0.XG,.int .i64 a0.KQ,sL 12 Zl r1,sL 2 Zx r2,.asl 4 0 r6.length,sL 2 YU a0.Y5,sL 9 Z2 a0.Xf,sL 7 ZU a0.Zq,.bool a0.YC.Wr,.int .i64 a0.YC.Z5,sL 3 XJ a0.YC.Z6,sL 5 ZB a0.YC.Zu,.bool a0.YK.Wr,.int .i64 a0.YK.Z5,.str a0.YK.WH,.str a0.YK.Qz,sL 5 ZB a0.YK.Zu,.bool a0.Xz.Wr,.int .i64 a0.Xz.X6,.int .i64 a0.Xz.X7,sL 4 XU a0.Xz.Zp,sL 2 Xd a0.Xz.ZY,sL 3 XK a0.Xz.ZG,sL 5 XC a0.Xz.Zv,sL 5 ZB a0.Xz.Zu],.box [.str (⟨#[]⟩:ByteArray),.int .i64 0,.sl true 12 0 (fun _=>[]),.sl true 2 0 (fun _=>[]),.sl true 2 0 (fun _=>[]),.sl true 2 0 (fun _=>[]),.sl true 9 0 (fun _=>[]),.sl true 7 0 (fun _=>[]),.bool false,.int .i64 0,.sl true 3 0 (fun _=>[]),.sl true 5 0 (fun _=>[]),.bool false,.int .i64 0,.str (⟨#[]⟩:ByteArray),.str (⟨#[]⟩:ByteArray),.sl true 5 0 (fun _=>[]),.bool false,.int .i64 0,.int .i64 0,.sl true 4 0 (fun _=>[]),.sl true 2 0 (fun _=>[]),.sl true 3 0 (fun _=>[]),.sl true 5 0 (fun _=>[]),.sl true 5 0 (fun _=>[])],aL 12 Zl ([]:List ZA),aL 2 Zx ([]:List Z1),aL 2 ZX r6]⟩) (QU (.cons Sub.rfl (.cons Sub.rfl .nil)) (.cons (.box (.cons CSub.rfl (.cons CSub.rfl (.cons (KP rfl (Zaa (f:=fun i=>Zl (r1.getD i default)) (fun _ _=>rfl))) (.cons (KP rfl (Zaa (f:=fun i=>Zx (r2.getD i default)) (fun _ _=>rfl))) (.cons CSub.rfl (.cons CSub.rfl (.cons CSub.rfl (.cons CSub.rfl (.cons CSub.rfl (.cons CSub.rfl (.cons CSub.rfl (.cons CSub.rfl (.cons CSub.rfl (.cons CSub.rfl (.cons CSub.rfl (.cons CSub.rfl (.cons CSub.rfl (.cons CSub.rfl (.cons CSub.rfl (.cons CSub.rfl (.cons CSub.rfl (.cons CSub.rfl (.cons CSub.rfl (.cons CSub.rfl (.cons CSub.rfl .nil)))))))))))))))))))))))))) (.cons .rfl (.cons .rfl (.cons .rfl (.cons .rfl .nil)))))) (Za (Za (zg [1,2,39,40] 5 (Zb (Zg ?_))))))
 obtain ⟨y9,q21,h22⟩:=bind_some h16
 refine zl (fun (p7:Int)=>⟨136,[(1,.ref 0 0),(2,.ref 1 0),(39,.int .i64 (r6.length:Int)),(40,.int .i64 p7)],[.box [.str a0.XG,.int .i64 a0.KQ,sL 12 Zl r1,sL 2 Zx r2,.asl 4 0 r6.length,sL 2 YU a0.Y5,sL 9 Z2 a0.Xf,sL 7 ZU a0.Zq,.bool a0.YC.Wr,.int .i64 a0.YC.Z5,sL 3 XJ a0.YC.Z6,sL 5 ZB a0.YC.Zu,.bool a0.YK.Wr,.int .i64 a0.YK.Z5,.str a0.YK.WH,.str a0.YK.Qz,sL 5 ZB a0.YK.Zu,.bool a0.Xz.Wr,.int .i64 a0.Xz.X6,.int .i64 a0.Xz.X7,sL 4 XU a0.Xz.Zp,sL 2 Xd a0.Xz.ZY,sL 3 XK a0.Xz.ZG,sL 5 XC a0.Xz.Zv,sL 5 ZB a0.Xz.Zu],.box [.str (⟨#[]⟩:ByteArray),.int .i64 0,.sl true 12 0 (fun _=>[]),.sl true 2 0 (fun _=>[]),.sl true 2 0 (fun _=>[]),.sl true 2 0 (fun _=>[]),.sl true 9 0 (fun _=>[]),.sl true 7 0 (fun _=>[]),.bool false,.int .i64 0,.sl true 3 0 (fun _=>[]),.sl true 5 0 (fun _=>[]),.bool false,.int .i64 0,.str (⟨#[]⟩:ByteArray),.str (⟨#[]⟩:ByteArray),.sl true 5 0 (fun _=>[]),.bool false,.int .i64 0,.int .i64 0,.sl true 4 0 (fun _=>[]),.sl true 2 0 (fun _=>[]),.sl true 3 0 (fun _=>[]),.sl true 5 0 (fun _=>[]),.sl true 5 0 (fun _=>[])],aL 12 Zl ([]:List ZA),aL 2 Zx ([]:List Z1),aL 2 ZX r6]⟩) (fun z=>OutE 2 (fun z=>⟨136,u1,[.box [.str a0.XG,.int .i64 a0.KQ,sL 12 Zl r1,sL 2 Zx r2,.asl 4 0 r6.length,sL 2 YU a0.Y5,sL 9 Z2 a0.Xf,sL 7 ZU a0.Zq,.bool a0.YC.Wr,.int .i64 a0.YC.Z5,sL 3 XJ a0.YC.Z6,sL 5 ZB a0.YC.Zu,.bool a0.YK.Wr,.int .i64 a0.YK.Z5,.str a0.YK.WH,.str a0.YK.Qz,sL 5 ZB a0.YK.Zu,.bool a0.Xz.Wr,.int .i64 a0.Xz.X6,.int .i64 a0.Xz.X7,sL 4 XU a0.Xz.Zp,sL 2 Xd a0.Xz.ZY,sL 3 XK a0.Xz.ZG,sL 5 XC a0.Xz.Zv,sL 5 ZB a0.Xz.Zu],.box [.str (⟨#[]⟩:ByteArray),.int .i64 0,.sl true 12 0 (fun _=>[]),.sl true 2 0 (fun _=>[]),.sl true 2 0 (fun _=>[]),.sl true 2 0 (fun _=>[]),.sl true 9 0 (fun _=>[]),.sl true 7 0 (fun _=>[]),.bool false,.int .i64 0,.sl true 3 0 (fun _=>[]),.sl true 5 0 (fun _=>[]),.bool false,.int .i64 0,.str (⟨#[]⟩:ByteArray),.str (⟨#[]⟩:ByteArray),.sl true 5 0 (fun _=>[]),.bool false,.int .i64 0,.int .i64 0,.sl true 4 0 (fun _=>[]),.sl true 2 0 (fun _=>[]),.sl true 3 0 (fun _=>[]),.sl true 5 0 (fun _=>[]),.sl true 5 0 (fun _=>[])],aL 12 Zl ([]:List ZA),aL 2 Zx ([]:List Z1),aL 2 ZX r6]⟩) z) q21 ?_ ?_
 intro p7 y8 h17
 unfold M.JN at h17
 refine Za (zg [1,2,39,40,41] 5 (Zb (Za (cn h17 (fun _ h19=>?_) (fun _ h20=>?_)))))
 refine Zd (Zb (Za (Zg (Za ?_))))
 cases h19
 exact ZD (Xc (re h20 ⟨rfl,kq⟩))
 intro e23 s24 o25
 refine zi o25 (Za (Wq (s':=⟨136,u1,[.box [.str a0.XG,.int .i64 a0.KQ,sL 12 Zl r1,sL 2 Zx r2,.sl false 2 r6.length (fun k=>(fun i=>ZX (r6.getD i default)) (0+k)),sL 2 YU a0.Y5,sL 9 Z2 a0.Xf,sL 7 ZU a0.Zq,.bool a0.YC.Wr,.int .i64 a0.YC.Z5,sL 3 XJ a0.YC.Z6,sL 5 ZB a0.YC.Zu,.bool a0.YK.Wr,.int .i64 a0.YK.Z5,.str a0.YK.WH,.str a0.YK.Qz,sL 5 ZB a0.YK.Zu,.bool a0.Xz.Wr,.int .i64 a0.Xz.X6,.int .i64 a0.Xz.X7,sL 4 XU a0.Xz.Zp,sL 2 Xd a0.Xz.ZY,sL 3 XK a0.Xz.ZG,sL 5 XC a0.Xz.Zv,sL 5 ZB a0.Xz.Zu],.box [.str (⟨#[]⟩:ByteArray),.int .i64 0,.sl true 12 0 (fun _=>[]),.sl true 2 0 (fun _=>[]),.sl true 2 0 (fun _=>[]),.sl true 2 0 (fun _=>[]),.sl true 9 0 (fun _=>[]),.sl true 7 0 (fun _=>[]),.bool false,.int .i64 0,.sl true 3 0 (fun _=>[]),.sl true 5 0 (fun _=>[]),.bool false,.int .i64 0,.str (⟨#[]⟩:ByteArray),.str (⟨#[]⟩:ByteArray),.sl true 5 0 (fun _=>[]),.bool false,.int .i64 0,.int .i64 0,.sl true 4 0 (fun _=>[]),.sl true 2 0 (fun _=>[]),.sl true 3 0 (fun _=>[]),.sl true 5 0 (fun _=>[]),.sl true 5 0 (fun _=>[])],aL 12 Zl ([]:List ZA),aL 2 Zx ([]:List Z1),aL 2 ZX ([]:List Yt)]⟩) (Le.trans ((ZcT (s:=⟨136,u1,[.box [.str a0.XG,.int .i64 a0.KQ,sL 12 Zl r1,sL 2 Zx r2,.asl 4 0 r6.length,sL 2 YU a0.Y5,sL 9 Z2 a0.Xf,sL 7 ZU a0.Zq,.bool a0.YC.Wr,.int .i64 a0.YC.Z5,sL 3 XJ a0.YC.Z6,sL 5 ZB a0.YC.Zu,.bool a0.YK.Wr,.int .i64 a0.YK.Z5,.str a0.YK.WH,.str a0.YK.Qz,sL 5 ZB a0.YK.Zu,.bool a0.Xz.Wr,.int .i64 a0.Xz.X6,.int .i64 a0.Xz.X7,sL 4 XU a0.Xz.Zp,sL 2 Xd a0.Xz.ZY,sL 3 XK a0.Xz.ZG,sL 5 XC a0.Xz.Zv,sL 5 ZB a0.Xz.Zu],.box [.str (⟨#[]⟩:ByteArray),.int .i64 0,.sl true 12 0 (fun _=>[]),.sl true 2 0 (fun _=>[]),.sl true 2 0 (fun _=>[]),.sl true 2 0 (fun _=>[]),.sl true 9 0 (fun _=>[]),.sl true 7 0 (fun _=>[]),.bool false,.int .i64 0,.sl true 3 0 (fun _=>[]),.sl true 5 0 (fun _=>[]),.bool false,.int .i64 0,.str (⟨#[]⟩:ByteArray),.str (⟨#[]⟩:ByteArray),.sl true 5 0 (fun _=>[]),.bool false,.int .i64 0,.int .i64 0,.sl true 4 0 (fun _=>[]),.sl true 2 0 (fun _=>[]),.sl true 3 0 (fun _=>[]),.sl true 5 0 (fun _=>[]),.sl true 5 0 (fun _=>[])],aL 12 Zl ([]:List ZA),aL 2 Zx ([]:List Z1),aL 2 ZX r6]⟩) (s':=⟨136,u1,[.box [.str a0.XG,.int .i64 a0.KQ,sL 12 Zl r1,sL 2 Zx r2,.sl false 2 r6.length (fun k=>(fun i=>ZX (r6.getD i default)) (0+k)),sL 2 YU a0.Y5,sL 9 Z2 a0.Xf,sL 7 ZU a0.Zq,.bool a0.YC.Wr,.int .i64 a0.YC.Z5,sL 3 XJ a0.YC.Z6,sL 5 ZB a0.YC.Zu,.bool a0.YK.Wr,.int .i64 a0.YK.Z5,.str a0.YK.WH,.str a0.YK.Qz,sL 5 ZB a0.YK.Zu,.bool a0.Xz.Wr,.int .i64 a0.Xz.X6,.int .i64 a0.Xz.X7,sL 4 XU a0.Xz.Zp,sL 2 Xd a0.Xz.ZY,sL 3 XK a0.Xz.ZG,sL 5 XC a0.Xz.Zv,sL 5 ZB a0.Xz.Zu],.box [.str (⟨#[]⟩:ByteArray),.int .i64 0,.sl true 12 0 (fun _=>[]),.sl true 2 0 (fun _=>[]),.sl true 2 0 (fun _=>[]),.sl true 2 0 (fun _=>[]),.sl true 9 0 (fun _=>[]),.sl true 7 0 (fun _=>[]),.bool false,.int .i64 0,.sl true 3 0 (fun _=>[]),.sl true 5 0 (fun _=>[]),.bool false,.int .i64 0,.str (⟨#[]⟩:ByteArray),.str (⟨#[]⟩:ByteArray),.sl true 5 0 (fun _=>[]),.bool false,.int .i64 0,.int .i64 0,.sl true 4 0 (fun _=>[]),.sl true 2 0 (fun _=>[]),.sl true 3 0 (fun _=>[]),.sl true 5 0 (fun _=>[]),.sl true 5 0 (fun _=>[])],aL 12 Zl ([]:List ZA),aL 2 Zx ([]:List Z1),aL 2 ZX ([]:List Yt)]⟩) 4 2 r6.length (fun i=>ZX (r6.getD i default)) (fun i=>ZX (([]:List Yt).getD i default)) (by kernel_rfl) (by kernel_rfl) (by kernel_rfl))) (kp [1,2])) ?_))
 obtain ⟨r10,q27,h28⟩:=bind_some h22
 refine rg [oL 2 YU r10] [1,2] 6 ⟨136,u1,[.box [.str a0.XG,.int .i64 a0.KQ,sL 12 Zl r1,sL 2 Zx r2,.sl false 2 r6.length (fun k=>(fun i=>ZX (r6.getD i default)) (0+k)),.asl 5 0 r10.length,sL 9 Z2 a0.Xf,sL 7 ZU a0.Zq,.bool a0.YC.Wr,.int .i64 a0.YC.Z5,sL 3 XJ a0.YC.Z6,sL 5 ZB a0.YC.Zu,.bool a0.YK.Wr,.int .i64 a0.YK.Z5,.str a0.YK.WH,.str a0.YK.Qz,sL 5 ZB a0.YK.Zu,.bool a0.Xz.Wr,.int .i64 a0.Xz.X6,.int .i64 a0.Xz.X7,sL 4 XU a0.Xz.Zp,sL 2 Xd a0.Xz.ZY,sL 3 XK a0.Xz.ZG,sL 5 XC a0.Xz.Zv,sL 5 ZB a0.Xz.Zu],.box [.str (⟨#[]⟩:ByteArray),.int .i64 0,.sl true 12 0 (fun _=>[]),.sl true 2 0 (fun _=>[]),.sl true 2 0 (fun _=>[]),.sl true 2 0 (fun _=>[]),.sl true 9 0 (fun _=>[]),.sl true 7 0 (fun _=>[]),.bool false,.int .i64 0,.sl true 3 0 (fun _=>[]),.sl true 5 0 (fun _=>[]),.bool false,.int .i64 0,.str (⟨#[]⟩:ByteArray),.str (⟨#[]⟩:ByteArray),.sl true 5 0 (fun _=>[]),.bool false,.int .i64 0,.int .i64 0,.sl true 4 0 (fun _=>[]),.sl true 2 0 (fun _=>[]),.sl true 3 0 (fun _=>[]),.sl true 5 0 (fun _=>[]),.sl true 5 0 (fun _=>[])],aL 12 Zl ([]:List ZA),aL 2 Zx ([]:List Z1),aL 2 ZX ([]:List Yt),aL 2 YU r10]⟩ [] [⟨true,132,[sL 2 YU a0.Y5],oL 2 YU r10⟩] Zt ⟨fun _=>Kb a0.Y5 r10 q27,trivial⟩ (ZZ (s':=⟨136,u1,[.box [.str a0.XG,.int .i64 a0.KQ,sL 12 Zl r1,sL 2 Zx r2,sL 2 ZX r6,.asl 5 0 r10.length,sL 9 Z2 a0.Xf,sL 7 ZU a0.Zq,.bool a0.YC.Wr,.int .i64 a0.YC.Z5,sL 3 XJ a0.YC.Z6,sL 5 ZB a0.YC.Zu,.bool a0.YK.Wr,.int .i64 a0.YK.Z5,.str a0.YK.WH,.str a0.YK.Qz,sL 5 ZB a0.YK.Zu,.bool a0.Xz.Wr,.int .i64 a0.Xz.X6,.int .i64 a0.Xz.X7,sL 4 XU a0.Xz.Zp,sL 2 Xd a0.Xz.ZY,sL 3 XK a0.Xz.ZG,sL 5 XC a0.Xz.Zv,sL 5 ZB a0.Xz.Zu],.box [.str (⟨#[]⟩:ByteArray),.int .i64 0,.sl true 12 0 (fun _=>[]),.sl true 2 0 (fun _=>[]),.sl true 2 0 (fun _=>[]),.sl true 2 0 (fun _=>[]),.sl true 9 0 (fun _=>[]),.sl true 7 0 (fun _=>[]),.bool false,.int .i64 0,.sl true 3 0 (fun _=>[]),.sl true 5 0 (fun _=>[]),.bool false,.int .i64 0,.str (⟨#[]⟩:ByteArray),.str (⟨#[]⟩:ByteArray),.sl true 5 0 (fun _=>[]),.bool false,.int .i64 0,.int .i64 0,.sl true 4 0 (fun _=>[]),.sl true 2 0 (fun _=>[]),.sl true 3 0 (fun _=>[]),.sl true 5 0 (fun _=>[]),.sl true 5 0 (fun _=>[])],aL 12 Zl ([]:List ZA),aL 2 Zx ([]:List Z1),aL 2 ZX ([]:List Yt),aL 2 YU r10]⟩) (QU (.cons Sub.rfl (.cons Sub.rfl .nil)) (.cons (.box (.cons CSub.rfl (.cons CSub.rfl (.cons CSub.rfl (.cons CSub.rfl (.cons (KP rfl (Zaa (f:=fun i=>ZX (r6.getD i default)) (fun _ _=>rfl))) (.cons CSub.rfl (.cons CSub.rfl (.cons CSub.rfl (.cons CSub.rfl (.cons CSub.rfl (.cons CSub.rfl (.cons CSub.rfl (.cons CSub.rfl (.cons CSub.rfl (.cons CSub.rfl (.cons CSub.rfl (.cons CSub.rfl (.cons CSub.rfl (.cons CSub.rfl (.cons CSub.rfl (.cons CSub.rfl (.cons CSub.rfl (.cons CSub.rfl (.cons CSub.rfl (.cons CSub.rfl .nil)))))))))))))))))))))))))) (.cons .rfl (.cons .rfl (.cons .rfl (.cons .rfl (.cons .rfl .nil))))))) (Za (Za (zg [1,2,62,63] 6 (Zb (Zg ?_))))))
 obtain ⟨y13,q33,h34⟩:=bind_some h28
 refine zl (fun (p11:Int)=>⟨136,[(1,.ref 0 0),(2,.ref 1 0),(62,.int .i64 (r10.length:Int)),(63,.int .i64 p11)],[.box [.str a0.XG,.int .i64 a0.KQ,sL 12 Zl r1,sL 2 Zx r2,sL 2 ZX r6,.asl 5 0 r10.length,sL 9 Z2 a0.Xf,sL 7 ZU a0.Zq,.bool a0.YC.Wr,.int .i64 a0.YC.Z5,sL 3 XJ a0.YC.Z6,sL 5 ZB a0.YC.Zu,.bool a0.YK.Wr,.int .i64 a0.YK.Z5,.str a0.YK.WH,.str a0.YK.Qz,sL 5 ZB a0.YK.Zu,.bool a0.Xz.Wr,.int .i64 a0.Xz.X6,.int .i64 a0.Xz.X7,sL 4 XU a0.Xz.Zp,sL 2 Xd a0.Xz.ZY,sL 3 XK a0.Xz.ZG,sL 5 XC a0.Xz.Zv,sL 5 ZB a0.Xz.Zu],.box [.str (⟨#[]⟩:ByteArray),.int .i64 0,.sl true 12 0 (fun _=>[]),.sl true 2 0 (fun _=>[]),.sl true 2 0 (fun _=>[]),.sl true 2 0 (fun _=>[]),.sl true 9 0 (fun _=>[]),.sl true 7 0 (fun _=>[]),.bool false,.int .i64 0,.sl true 3 0 (fun _=>[]),.sl true 5 0 (fun _=>[]),.bool false,.int .i64 0,.str (⟨#[]⟩:ByteArray),.str (⟨#[]⟩:ByteArray),.sl true 5 0 (fun _=>[]),.bool false,.int .i64 0,.int .i64 0,.sl true 4 0 (fun _=>[]),.sl true 2 0 (fun _=>[]),.sl true 3 0 (fun _=>[]),.sl true 5 0 (fun _=>[]),.sl true 5 0 (fun _=>[])],aL 12 Zl ([]:List ZA),aL 2 Zx ([]:List Z1),aL 2 ZX ([]:List Yt),aL 2 YU r10]⟩) (fun z=>OutE 4 (fun z=>⟨136,u1,[.box [.str a0.XG,.int .i64 a0.KQ,sL 12 Zl r1,sL 2 Zx r2,sL 2 ZX r6,.asl 5 0 r10.length,sL 9 Z2 a0.Xf,sL 7 ZU a0.Zq,.bool a0.YC.Wr,.int .i64 a0.YC.Z5,sL 3 XJ a0.YC.Z6,sL 5 ZB a0.YC.Zu,.bool a0.YK.Wr,.int .i64 a0.YK.Z5,.str a0.YK.WH,.str a0.YK.Qz,sL 5 ZB a0.YK.Zu,.bool a0.Xz.Wr,.int .i64 a0.Xz.X6,.int .i64 a0.Xz.X7,sL 4 XU a0.Xz.Zp,sL 2 Xd a0.Xz.ZY,sL 3 XK a0.Xz.ZG,sL 5 XC a0.Xz.Zv,sL 5 ZB a0.Xz.Zu],.box [.str (⟨#[]⟩:ByteArray),.int .i64 0,.sl true 12 0 (fun _=>[]),.sl true 2 0 (fun _=>[]),.sl true 2 0 (fun _=>[]),.sl true 2 0 (fun _=>[]),.sl true 9 0 (fun _=>[]),.sl true 7 0 (fun _=>[]),.bool false,.int .i64 0,.sl true 3 0 (fun _=>[]),.sl true 5 0 (fun _=>[]),.bool false,.int .i64 0,.str (⟨#[]⟩:ByteArray),.str (⟨#[]⟩:ByteArray),.sl true 5 0 (fun _=>[]),.bool false,.int .i64 0,.int .i64 0,.sl true 4 0 (fun _=>[]),.sl true 2 0 (fun _=>[]),.sl true 3 0 (fun _=>[]),.sl true 5 0 (fun _=>[]),.sl true 5 0 (fun _=>[])],aL 12 Zl ([]:List ZA),aL 2 Zx ([]:List Z1),aL 2 ZX ([]:List Yt),aL 2 YU r10]⟩) z) q33 ?_ ?_
 intro p11 y12 h29
 unfold M.JO at h29
 refine Za (zg [1,2,62,63,64] 6 (Zb (Za (cn h29 (fun _ h31=>?_) (fun _ h32=>?_)))))
 refine Zd (Zb (Za (Zg (Za ?_))))
 cases h31
 exact ZD (Xc (re h32 ⟨rfl,kq⟩))
 intro e35 s36 o37
 refine zi o37 (Za (Wq (s':=⟨136,u1,[.box [.str a0.XG,.int .i64 a0.KQ,sL 12 Zl r1,sL 2 Zx r2,sL 2 ZX r6,.sl false 2 r10.length (fun k=>(fun i=>YU (r10.getD i default)) (0+k)),sL 9 Z2 a0.Xf,sL 7 ZU a0.Zq,.bool a0.YC.Wr,.int .i64 a0.YC.Z5,sL 3 XJ a0.YC.Z6,sL 5 ZB a0.YC.Zu,.bool a0.YK.Wr,.int .i64 a0.YK.Z5,.str a0.YK.WH,.str a0.YK.Qz,sL 5 ZB a0.YK.Zu,.bool a0.Xz.Wr,.int .i64 a0.Xz.X6,.int .i64 a0.Xz.X7,sL 4 XU a0.Xz.Zp,sL 2 Xd a0.Xz.ZY,sL 3 XK a0.Xz.ZG,sL 5 XC a0.Xz.Zv,sL 5 ZB a0.Xz.Zu],.box [.str (⟨#[]⟩:ByteArray),.int .i64 0,.sl true 12 0 (fun _=>[]),.sl true 2 0 (fun _=>[]),.sl true 2 0 (fun _=>[]),.sl true 2 0 (fun _=>[]),.sl true 9 0 (fun _=>[]),.sl true 7 0 (fun _=>[]),.bool false,.int .i64 0,.sl true 3 0 (fun _=>[]),.sl true 5 0 (fun _=>[]),.bool false,.int .i64 0,.str (⟨#[]⟩:ByteArray),.str (⟨#[]⟩:ByteArray),.sl true 5 0 (fun _=>[]),.bool false,.int .i64 0,.int .i64 0,.sl true 4 0 (fun _=>[]),.sl true 2 0 (fun _=>[]),.sl true 3 0 (fun _=>[]),.sl true 5 0 (fun _=>[]),.sl true 5 0 (fun _=>[])],aL 12 Zl ([]:List ZA),aL 2 Zx ([]:List Z1),aL 2 ZX ([]:List Yt),aL 2 YU ([]:List U6)]⟩) (Le.trans ((ZcT (s:=⟨136,u1,[.box [.str a0.XG,.int .i64 a0.KQ,sL 12 Zl r1,sL 2 Zx r2,sL 2 ZX r6,.asl 5 0 r10.length,sL 9 Z2 a0.Xf,sL 7 ZU a0.Zq,.bool a0.YC.Wr,.int .i64 a0.YC.Z5,sL 3 XJ a0.YC.Z6,sL 5 ZB a0.YC.Zu,.bool a0.YK.Wr,.int .i64 a0.YK.Z5,.str a0.YK.WH,.str a0.YK.Qz,sL 5 ZB a0.YK.Zu,.bool a0.Xz.Wr,.int .i64 a0.Xz.X6,.int .i64 a0.Xz.X7,sL 4 XU a0.Xz.Zp,sL 2 Xd a0.Xz.ZY,sL 3 XK a0.Xz.ZG,sL 5 XC a0.Xz.Zv,sL 5 ZB a0.Xz.Zu],.box [.str (⟨#[]⟩:ByteArray),.int .i64 0,.sl true 12 0 (fun _=>[]),.sl true 2 0 (fun _=>[]),.sl true 2 0 (fun _=>[]),.sl true 2 0 (fun _=>[]),.sl true 9 0 (fun _=>[]),.sl true 7 0 (fun _=>[]),.bool false,.int .i64 0,.sl true 3 0 (fun _=>[]),.sl true 5 0 (fun _=>[]),.bool false,.int .i64 0,.str (⟨#[]⟩:ByteArray),.str (⟨#[]⟩:ByteArray),.sl true 5 0 (fun _=>[]),.bool false,.int .i64 0,.int .i64 0,.sl true 4 0 (fun _=>[]),.sl true 2 0 (fun _=>[]),.sl true 3 0 (fun _=>[]),.sl true 5 0 (fun _=>[]),.sl true 5 0 (fun _=>[])],aL 12 Zl ([]:List ZA),aL 2 Zx ([]:List Z1),aL 2 ZX ([]:List Yt),aL 2 YU r10]⟩) (s':=⟨136,u1,[.box [.str a0.XG,.int .i64 a0.KQ,sL 12 Zl r1,sL 2 Zx r2,sL 2 ZX r6,.sl false 2 r10.length (fun k=>(fun i=>YU (r10.getD i default)) (0+k)),sL 9 Z2 a0.Xf,sL 7 ZU a0.Zq,.bool a0.YC.Wr,.int .i64 a0.YC.Z5,sL 3 XJ a0.YC.Z6,sL 5 ZB a0.YC.Zu,.bool a0.YK.Wr,.int .i64 a0.YK.Z5,.str a0.YK.WH,.str a0.YK.Qz,sL 5 ZB a0.YK.Zu,.bool a0.Xz.Wr,.int .i64 a0.Xz.X6,.int .i64 a0.Xz.X7,sL 4 XU a0.Xz.Zp,sL 2 Xd a0.Xz.ZY,sL 3 XK a0.Xz.ZG,sL 5 XC a0.Xz.Zv,sL 5 ZB a0.Xz.Zu],.box [.str (⟨#[]⟩:ByteArray),.int .i64 0,.sl true 12 0 (fun _=>[]),.sl true 2 0 (fun _=>[]),.sl true 2 0 (fun _=>[]),.sl true 2 0 (fun _=>[]),.sl true 9 0 (fun _=>[]),.sl true 7 0 (fun _=>[]),.bool false,.int .i64 0,.sl true 3 0 (fun _=>[]),.sl true 5 0 (fun _=>[]),.bool false,.int .i64 0,.str (⟨#[]⟩:ByteArray),.str (⟨#[]⟩:ByteArray),.sl true 5 0 (fun _=>[]),.bool false,.int .i64 0,.int .i64 0,.sl true 4 0 (fun _=>[]),.sl true 2 0 (fun _=>[]),.sl true 3 0 (fun _=>[]),.sl true 5 0 (fun _=>[]),.sl true 5 0 (fun _=>[])],aL 12 Zl ([]:List ZA),aL 2 Zx ([]:List Z1),aL 2 ZX ([]:List Yt),aL 2 YU ([]:List U6)]⟩) 5 2 r10.length (fun i=>YU (r10.getD i default)) (fun i=>YU (([]:List U6).getD i default)) (by kernel_rfl) (by kernel_rfl) (by kernel_rfl))) (kp [1,2])) ?_))
 obtain ⟨r14,q39,h40⟩:=bind_some h34
 refine rg [.pure (sL 9 Z2 r14)] [1,2] 2 ⟨136,u1,[.box [.str a0.XG,.int .i64 a0.KQ,sL 12 Zl r1,sL 2 Zx r2,sL 2 ZX r6,.sl false 2 r10.length (fun k=>(fun i=>YU (r10.getD i default)) (0+k)),sL 9 Z2 r14,sL 7 ZU a0.Zq,.bool a0.YC.Wr,.int .i64 a0.YC.Z5,sL 3 XJ a0.YC.Z6,sL 5 ZB a0.YC.Zu,.bool a0.YK.Wr,.int .i64 a0.YK.Z5,.str a0.YK.WH,.str a0.YK.Qz,sL 5 ZB a0.YK.Zu,.bool a0.Xz.Wr,.int .i64 a0.Xz.X6,.int .i64 a0.Xz.X7,sL 4 XU a0.Xz.Zp,sL 2 Xd a0.Xz.ZY,sL 3 XK a0.Xz.ZG,sL 5 XC a0.Xz.Zv,sL 5 ZB a0.Xz.Zu],.box [.str (⟨#[]⟩:ByteArray),.int .i64 0,.sl true 12 0 (fun _=>[]),.sl true 2 0 (fun _=>[]),.sl true 2 0 (fun _=>[]),.sl true 2 0 (fun _=>[]),.sl true 9 0 (fun _=>[]),.sl true 7 0 (fun _=>[]),.bool false,.int .i64 0,.sl true 3 0 (fun _=>[]),.sl true 5 0 (fun _=>[]),.bool false,.int .i64 0,.str (⟨#[]⟩:ByteArray),.str (⟨#[]⟩:ByteArray),.sl true 5 0 (fun _=>[]),.bool false,.int .i64 0,.int .i64 0,.sl true 4 0 (fun _=>[]),.sl true 2 0 (fun _=>[]),.sl true 3 0 (fun _=>[]),.sl true 5 0 (fun _=>[]),.sl true 5 0 (fun _=>[])]]⟩ [] [⟨true,134,[sL 9 Z2 a0.Xf],.pure (sL 9 Z2 r14)⟩] Zt ⟨fun _=>Uh a0.Xf r14 q39,trivial⟩ (ZZ (s':=⟨136,u1,[.box [.str a0.XG,.int .i64 a0.KQ,sL 12 Zl r1,sL 2 Zx r2,sL 2 ZX r6,sL 2 YU r10,sL 9 Z2 r14,sL 7 ZU a0.Zq,.bool a0.YC.Wr,.int .i64 a0.YC.Z5,sL 3 XJ a0.YC.Z6,sL 5 ZB a0.YC.Zu,.bool a0.YK.Wr,.int .i64 a0.YK.Z5,.str a0.YK.WH,.str a0.YK.Qz,sL 5 ZB a0.YK.Zu,.bool a0.Xz.Wr,.int .i64 a0.Xz.X6,.int .i64 a0.Xz.X7,sL 4 XU a0.Xz.Zp,sL 2 Xd a0.Xz.ZY,sL 3 XK a0.Xz.ZG,sL 5 XC a0.Xz.Zv,sL 5 ZB a0.Xz.Zu],.box [.str (⟨#[]⟩:ByteArray),.int .i64 0,.sl true 12 0 (fun _=>[]),.sl true 2 0 (fun _=>[]),.sl true 2 0 (fun _=>[]),.sl true 2 0 (fun _=>[]),.sl true 9 0 (fun _=>[]),.sl true 7 0 (fun _=>[]),.bool false,.int .i64 0,.sl true 3 0 (fun _=>[]),.sl true 5 0 (fun _=>[]),.bool false,.int .i64 0,.str (⟨#[]⟩:ByteArray),.str (⟨#[]⟩:ByteArray),.sl true 5 0 (fun _=>[]),.bool false,.int .i64 0,.int .i64 0,.sl true 4 0 (fun _=>[]),.sl true 2 0 (fun _=>[]),.sl true 3 0 (fun _=>[]),.sl true 5 0 (fun _=>[]),.sl true 5 0 (fun _=>[])]]⟩) (QU (.cons Sub.rfl (.cons Sub.rfl .nil)) (.cons (.box (.cons CSub.rfl (.cons CSub.rfl (.cons CSub.rfl (.cons CSub.rfl (.cons CSub.rfl (.cons (KP rfl (Zaa (f:=fun i=>YU (r10.getD i default)) (fun _ _=>rfl))) (.cons CSub.rfl (.cons CSub.rfl (.cons CSub.rfl (.cons CSub.rfl (.cons CSub.rfl (.cons CSub.rfl (.cons CSub.rfl (.cons CSub.rfl (.cons CSub.rfl (.cons CSub.rfl (.cons CSub.rfl (.cons CSub.rfl (.cons CSub.rfl (.cons CSub.rfl (.cons CSub.rfl (.cons CSub.rfl (.cons CSub.rfl (.cons CSub.rfl (.cons CSub.rfl .nil)))))))))))))))))))))))))) (.cons .rfl .nil))) (Za ?_))
 obtain ⟨r15,q41,h42⟩:=bind_some h40
 refine zr [1,2] 2 Zt (rq1 (Ui _ _ q41) rqn) (Zb (Za ?_))
 obtain ⟨r16,q43,h44⟩:=bind_some h42
 refine zr [1,2] 2 Zt (rq1 (UK _ _ q43) rqn) (Zb (Za ?_))
 obtain ⟨r17,q45,h46⟩:=bind_some h44
 refine zr [1,2] 2 Zt (rq1 (J6 _ _ q45) rqn) (Zb (Za ?_))
 obtain ⟨r18,q47,h48⟩:=bind_some h46
 refine zr [1,2] 2 Zt (rq1 (J6 _ _ q47) rqn) (Zb (Za ?_))
 obtain ⟨r19,q49,h50⟩:=bind_some h48
 refine zr [1,2] 2 Zt (rq1 (U3 _ _ q49) rqn) (Zb (Za ?_))
 obtain ⟨r20,q51,h52⟩:=bind_some h50
 refine zr [1,2] 2 Zt (rq1 (Gn _ _ q51) rqn) (Zb (Za ?_))
 obtain ⟨r21,q53,h54⟩:=bind_some h52
 refine zr [1,2] 2 Zt (rq1 (UL _ _ q53) rqn) (Zb (Za ?_))
 obtain ⟨r22,q55,h56⟩:=bind_some h54
 refine zr [1,2] 2 Zt (rq1 (UM _ _ q55) rqn) (Zb (Za ?_))
 obtain ⟨r23,q57,h58⟩:=bind_some h56
 refine zr [1,2] 2 Zt (rq1 (J6 _ _ q57) rqn) (Zb (Za (zg [2] 2 (Zb (Zf ?_)))))
 obtain rfl:=Option.some.inj h58
 exact er0 (.agg [.str a0.XG,.int .i64 a0.KQ,sL 12 Zl r1,sL 2 Zx r2,sL 2 ZX r6,sL 2 YU r10,sL 9 Z2 r14,sL 7 ZU r15,.bool a0.YC.Wr,.int .i64 a0.YC.Z5,sL 3 XJ r16,sL 5 ZB r17,.bool a0.YK.Wr,.int .i64 a0.YK.Z5,.str a0.YK.WH,.str a0.YK.Qz,sL 5 ZB r18,.bool a0.Xz.Wr,.int .i64 a0.Xz.X6,.int .i64 a0.Xz.X7,sL 4 XU r19,sL 2 Xd r20,sL 3 XK r21,sL 5 XC r22,sL 5 ZB r23])
theorem Zck (a0:ZI) (r:ZI) (h:M.J5 a0=some r):Fn Tryz.prog 76 [.agg (Yb a0)] (.pure (.agg (Yb r))):=by
 let u1:=Yb a0
 unfold M.J5 at h
 refine ZC Tryz.func76 rfl (by kernel_rfl) (Za (zg [1,2] 2 (Zb (Za ?_))))
 obtain ⟨r1,q1,h2⟩:=bind_some h
 refine rg [oL 25 Zs r1] [2,3] 3 ⟨24,[(2,.ref 1 0),(3,.asl 2 0 r1.length)],[.box u1,.box [.sl true 25 0 (fun _=>[])],aL 25 Zs r1]⟩ [] [⟨true,103,[sL 25 Zs a0.Ze],oL 25 Zs r1⟩] Zt ⟨fun _=>Gh a0.Ze r1 q1,trivial⟩ (Zb (Za (Za (zg [2,3,9,10] 3 (Zb (Zg ?_))))))
 obtain ⟨y5,q11,h12⟩:=bind_some h2
 refine zl (fun (p2:(List Zi) × Int)=>⟨24,[(2,.ref 1 0),(3,.asl 2 0 p2.1.length),(9,.int .i64 (r1.length:Int)),(10,.int .i64 p2.2)],[.box u1,.box [.sl true 25 0 (fun _=>[])],aL 25 Zs p2.1]⟩) (fun z=>OutE 0 (fun z=>⟨24,[(2,.ref 1 0),(3,.asl 2 0 z.length)],[.box u1,.box [.sl true 25 0 (fun _=>[])],aL 25 Zs z]⟩) z) q11 ?_ ?_
 intro p2 y3 h3
 unfold M.Jj at h3
 refine Za (zg [2,3,9,10,11] 3 (Zb (Za (cn h3 (fun _ h5=>?_) (fun _ h6=>?_)))))
 refine Zd (Zb (Za (Zg (Za (zg [2,3,4,9,10] 3 (Zb ?_))))))
 obtain ⟨r4,q7,h8⟩:=bind_some h5
 obtain ⟨c9,h10⟩:=Zo h8
 exact rg [.pure (.agg (Zs r4))] [2,3,9,10] 3 ⟨24,[(2,.ref 1 0),(3,.asl 2 0 p2.1.length),(9,.int .i64 (r1.length:Int)),(10,.int .i64 p2.2)],[.box (Yb a0),.box [.sl true 25 0 (fun _=>[])],.arr 25 p2.1.length (fun j=>bif Nat.beq j (0+p2.2.toNat) then splice (Zs (p2.1.getD (0+p2.2.toNat) default)) [.str r4.XG,.int .i64 r4.KQ,sL 12 Zl r4.Zc,sL 2 Zx r4.YV,sL 2 ZX r4.XP,sL 2 YU r4.Y5,sL 9 Z2 r4.Xf,sL 7 ZU r4.Zq,.bool r4.YC.Wr,.int .i64 r4.YC.Z5,sL 3 XJ r4.YC.Z6,sL 5 ZB r4.YC.Zu,.bool r4.YK.Wr,.int .i64 r4.YK.Z5,.str r4.YK.WH,.str r4.YK.Qz,sL 5 ZB r4.YK.Zu,.bool r4.Xz.Wr,.int .i64 r4.Xz.X6,.int .i64 r4.Xz.X7,sL 4 XU r4.Xz.Zp,sL 2 Xd r4.Xz.ZY,sL 3 XK r4.Xz.ZG,sL 5 XC r4.Xz.Zv,sL 5 ZB r4.Xz.Zu] 0 else Zs (p2.1.getD j default))]⟩ [decide (0≤p2.2),decide (p2.2 < (p2.1.length:Int)),decide (0≤p2.2),decide (p2.2 < (p2.1.length:Int))] [⟨true,104,[.agg (Zs (p2.1.getD (0+p2.2.toNat) default))],.pure (.agg (Zs r4))⟩] c9 ⟨fun _=>Zc9 (p2.1.getD (0+p2.2.toNat) default) r4 q7,trivial⟩ (XA (ZZ (s':=⟨24,[(2,.ref 1 0),(3,.asl 2 0 ((p2.1.set (0+p2.2.toNat) r4).length)),(9,.int .i64 (r1.length:Int)),(10,.int .i64 p2.2)],[.box (Yb a0),.box [.sl true 25 0 (fun _=>[])],aL 25 Zs (p2.1.set (0+p2.2.toNat) r4)]⟩) (QU (.cons Sub.rfl (.cons (VJ (by simp)) (.cons Sub.rfl (.cons Sub.rfl .nil)))) (.cons .rfl (.cons .rfl (.cons (.arr (by simp) (Zdz Zs p2.1 (0+p2.2.toNat) r4 _ rfl)) .nil)))) (zg [2,3,9,10] 3 (rn h10))))
 exact ZD (Xc (re h6 ⟨rfl,kq⟩))
 intro e13 s14 o15
 refine zi o15 (Za (Wq (s':=⟨24,[(2,.ref 1 0),(3,sL 25 Zs y5)],[.box u1,.box [.sl true 25 0 (fun _=>[])],aL 25 Zs ([]:List Zi)]⟩) (Le.trans (Zmf 3 2 25 Zs y5 (fun i=>Zs (([]:List Zi).getD i default)) (by kernel_rfl) (by kernel_rfl) (by kernel_rfl)) (kp [2,3])) (zg [2] 2 (Zb (Zf ?_)))))
 obtain rfl:=Option.some.inj h12
 exact er0 (.agg [sL 25 Zs y5])
theorem R5 (a0:List Int) (r:List Int) (h:M.Qy a0=some r):Fn Tryz.prog 77 [sL 1 (ci .i64) a0] (.pure (sL 1 (ci .i64) r)):=by
 unfold M.Qy at h
 obtain ⟨hc,h1⟩:=Zo h
 obtain rfl:=Option.some.inj h1
 refine ZC Tryz.func77 rfl (by kernel_rfl) (Za (zg [0] 0 (Zb (Za (Za (zg [0,4] 0 (Zb (nq a0.length (fun hz=>?_) ?_))))))))
 exact Za (zg [2] 0 (Zb (Zf (Zk (er (.sl false 1 0 (fun _=>[])) (G1 hz))))))
 exact Zd (Zb (Za (zc [2] 1 hc (Zb (Zf (er (.sl false 1 (0+a0.length) (fun i=>(app (fun i=>List.take 1 (List.drop (i*1) [])) 0 (fun i=>(ci .i64) (a0.getD i default))) (0+i))) (Gs (Nat.zero_add _) (fun i hi=>by rw [Nat.zero_add]; exact Ur (ci .i64) _ a0 _ (fun _ _=>rfl) i hi))))))))
theorem Zh9 (a0:ZI) (a1:List Int) (r:XL × Int) (h:M.Gm a0 a1=some r):Fn Tryz.prog 41 [.agg (Yb a0),sL 1 (ci .i64) a1] (.pure (.tup [.agg (XD r.1),.int .i64 r.2])):=by
 let u2:=Yb a0
 unfold M.Gm at h
 refine ZC Tryz.func41 rfl (by kernel_rfl) (Za (zg [1,2,4] 2 (Zb (Za ?_))))
 obtain ⟨r1,q1,h2⟩:=bind_some h
 let u1:List Ob:=[.box u2,.box [.sl true 25 0 (fun _=>[]),.sl true 4 0 (fun _=>[]),.sl true 1 0 (fun _=>[]),.sl true 1 0 (fun _=>[])],.box (Rn r1.1)]
 refine zr [1,2,4,6,7] 3 Zt (rq1 (Zg8 _ _ q1) rqn) (Zb (Za (Za (zg [1,2,4,6,7,16] 3 (Zb (cn h2 (fun _ h4=>?_) (fun _ h5=>?_)))))))
 refine Za ?_
 cases h4
 refine Zd (Zb (Za (Za (zg [1,2,4,6,21] 3 (Zb (cn h5 (fun _ h7=>?_) (fun _ h8=>?_)))))))
 refine Za ?_
 cases h7
 refine Zd (Zb (Za (Za (zg [1,2,4,6,23,24,25] 3 (Zb (Zg ?_))))))
 obtain ⟨y4,q13,h14⟩:=bind_some h8
 refine zl (fun (p2:Int)=>⟨60,[(1,sL 1 (ci .i64) a1),(2,.ref 0 0),(4,.ref 1 0),(6,.ref 2 0),(23,sL 1 (ci .i64) a1),(24,.int .i64 (a1.length:Int)),(25,.int .i64 p2)],u1⟩) (fun z=>OutE 0 (fun z=>⟨60,[(1,sL 1 (ci .i64) a1),(2,.ref 0 0),(4,.ref 1 0),(6,.ref 2 0)],u1⟩) z) q13 ?_ ?_
 intro p2 y3 h9
 unfold M.Ug at h9
 refine Za (zg [1,2,4,6,23,24,25,26] 3 (Zb (Za (cn h9 (fun _ h11=>?_) (fun _ h12=>?_)))))
 refine Zd (Zb (Za (Zg (Za ?_))))
 cases h11
 exact ZD (Xc (re h12 ⟨rfl,kq⟩))
 intro e15 s16 o17
 refine zi o17 (Za ?_)
 obtain ⟨r5,q19,h20⟩:=bind_some h14
 obtain ⟨r6,q21,h22⟩:=bind_some h20
 refine rgw [.pure (.agg (Yb r5)),.pure (sL 1 (ci .i64) r6)] [4,5] 2 ⟨60,[(4,.ref 1 0),(5,.int .i64 0)],[.box u2,.box [sL 25 Zs r5.Ze,sL 4 Z0 r1.1.Xe,sL 1 (ci .i64) r1.1.J0,sL 1 (ci .i64) r6]]⟩ [] [⟨true,76,[.agg u2],.pure (.agg (Yb r5))⟩,⟨true,77,[sL 1 (ci .i64) a1],.pure (sL 1 (ci .i64) r6)⟩] Zt ⟨fun _=>Zck a0 r5 q19,fun _=>R5 a1 r6 q21,trivial⟩ (Zb (Zf ?_))
 obtain rfl:=Option.some.inj h22
 exact er0 (.tup [.agg [sL 25 Zs r5.Ze,sL 4 Z0 r1.1.Xe,sL 1 (ci .i64) r1.1.J0,sL 1 (ci .i64) r6],.int .i64 0])
theorem ZcD (a0:List Xx) (a1:Int) (r:Int) (h:M.WZ a0 a1=some r):Fn Tryz.prog 20 [sL 4 Yh a0,.int .u32 a1] (.pure (.int .i64 r)):=by
 let u1:=(a0.length:Int)
 let u2:Nat × D:=(0,sL 4 Yh a0)
 let u3:Nat × D:=(8,sL 4 Yh a0)
 unfold M.WZ at h
 refine ZC Tryz.func20 rfl (by kernel_rfl) (Za (zg [0,1] 0 (Zb (Za (zg [0,1,5] 0 (Zb (Za (Za (zg [0,1,5,8,9,10] 0 (Zb (Zg ?_)))))))))))
 obtain ⟨y5,q16,h17⟩:=bind_some h
 refine zl (fun (p1:Int × Int)=>⟨38,[u2,(1,.int .u32 a1),(5,.int .i64 p1.1),u3,(9,.int .i64 u1),(10,.int .i64 p1.2)],[]⟩) (fun z=>OutE 0 (fun z=>⟨38,[(5,.int .i64 z)],[]⟩) z) q16 ?_ ?_
 intro p1 y2 h1
 unfold M.WO at h1
 refine Za (rg0 [0,1,5,8,9,10,11] 0 ⟨38,[u2,(1,.int .u32 a1),(5,.int .i64 p1.1),u3,(9,.int .i64 u1),(10,.int .i64 p1.2),(11,.bool (decide (p1.2 < u1)))],[]⟩ (Zb (Za (cn h1 (fun _ h3=>?_) (fun _ h4=>?_)))))
 refine Zd (Zb (Jz (fun (p3:Int)=>⟨38,[u2,(1,.int .u32 a1),(5,.int .i64 p3),u3,(9,.int .i64 u1),(10,.int .i64 p1.2)],[]⟩) (fun p3=>M.Vg p1 p3=some y2) ?_ ?_))
 intro p3 h6
 unfold M.Vg at h6
 exact zg [0,1,5,8,9,10] 0 (rn h6)
 intro k5
 refine Zg (Za ?_)
 obtain ⟨c7,h8⟩:=Zo h3
 refine zc [0,1,5,6,7,8,9,10] 1 c7 (Zb (Za ?_))
 obtain ⟨r4,q9,h10⟩:=bind_some h8
 obtain ⟨c11,h12⟩:=Zo h10
 refine zr [0,1,5,6,8,9,10,34] 0 c11 (rq1 (RZ _ _ _ q9) rqn) (Zb (cn h12 (fun _ h14=>?_) (fun _ h15=>?_)))
 exact zg [0,1,5,8,9,10] 0 (XA (ZZ lk (k5 p1.2 h14)))
 exact Zd (XA (ZZ kq (k5 p1.1 h15)))
 exact ZD (Xc (re h4 ⟨rfl,kq⟩))
 intro e18 s19 o20
 exact zi o20 (Za (zg [4] 0 (Zb (Zf (er1 h17)))))
theorem Zg9  (r:Bool) (h:M.UV =some r):Fn Tryz.prog 17 [] (.pure (.bool r)):=by
 unfold M.UV at h
 refine ZC Tryz.func17 rfl (by kernel_rfl) (Za (zg [] 0 (Zb (Za (zg [1] 1 (Zb (Za ?_)))))))
 obtain ⟨r1,q1,h2⟩:=bind_some h
 refine rg [.pure (.tup [.agg (XD r1.1),.int .i64 r1.2])] [2,3] 2 ⟨60,[(2,.ref 1 0),(3,.int .i64 r1.2)],[.box [.sl true 25 1 (fun i=>List.take 25 (List.drop (i*25) [.str (⟨#[97]⟩:ByteArray),.int .i64 0,.sl true 12 1 (fun i=>List.take 12 (List.drop (i*12) [.str (⟨#[101,48]⟩:ByteArray),.int .u32 167772161,.int .i64 24,.int .i64 0,.bool false,.bool false,.int .i64 0,.int .i64 0,.bool false,.str (⟨#[]⟩:ByteArray),.str (⟨#[]⟩:ByteArray),.int .i64 0])),.sl true 2 0 (fun _=>[]),.sl true 2 0 (fun _=>[]),.sl true 2 0 (fun _=>[]),.sl true 9 0 (fun _=>[]),.sl true 7 1 (fun i=>List.take 7 (List.drop (i*7) [.int .u32 0,.int .i64 0,.int .u32 167772169,.str (⟨#[]⟩:ByteArray),.bool false,.int .i64 1,.int .i64 0])),.bool false,.int .i64 0,.sl true 3 0 (fun _=>[]),.sl true 5 0 (fun _=>[]),.bool false,.int .i64 0,.str (⟨#[]⟩:ByteArray),.str (⟨#[]⟩:ByteArray),.sl true 5 0 (fun _=>[]),.bool false,.int .i64 0,.int .i64 0,.sl true 4 0 (fun _=>[]),.sl true 2 0 (fun _=>[]),.sl true 3 0 (fun _=>[]),.sl true 5 0 (fun _=>[]),.sl true 5 0 (fun _=>[])]))],.box (XD r1.1)]⟩ [] [⟨true,41,[.agg [.sl false 25 1 (fun i=>List.take 25 (List.drop (i*25) [.str (⟨#[97]⟩:ByteArray),.int .i64 0,.sl true 12 1 (fun i=>List.take 12 (List.drop (i*12) [.str (⟨#[101,48]⟩:ByteArray),.int .u32 167772161,.int .i64 24,.int .i64 0,.bool false,.bool false,.int .i64 0,.int .i64 0,.bool false,.str (⟨#[]⟩:ByteArray),.str (⟨#[]⟩:ByteArray),.int .i64 0])),.sl true 2 0 (fun _=>[]),.sl true 2 0 (fun _=>[]),.sl true 2 0 (fun _=>[]),.sl true 9 0 (fun _=>[]),.sl true 7 1 (fun i=>List.take 7 (List.drop (i*7) [.int .u32 0,.int .i64 0,.int .u32 167772169,.str (⟨#[]⟩:ByteArray),.bool false,.int .i64 1,.int .i64 0])),.bool false,.int .i64 0,.sl true 3 0 (fun _=>[]),.sl true 5 0 (fun _=>[]),.bool false,.int .i64 0,.str (⟨#[]⟩:ByteArray),.str (⟨#[]⟩:ByteArray),.sl true 5 0 (fun _=>[]),.bool false,.int .i64 0,.int .i64 0,.sl true 4 0 (fun _=>[]),.sl true 2 0 (fun _=>[]),.sl true 3 0 (fun _=>[]),.sl true 5 0 (fun _=>[]),.sl true 5 0 (fun _=>[])]))],.nils],.pure (.tup [.agg (XD r1.1),.int .i64 r1.2])⟩] Zt ⟨fun _=>(Zh9 (⟨([(⟨(⟨#[97]⟩:ByteArray),0,([(⟨(⟨#[101,48]⟩:ByteArray),167772161,24,0,false,false,0,0,false,(⟨#[]⟩:ByteArray),(⟨#[]⟩:ByteArray),0⟩:ZA)]:List ZA),([]:List Z1),([]:List Yt),([]:List U6),([]:List QF),([(⟨(⟨0,0⟩:ZL),167772169,(⟨#[]⟩:ByteArray),false,1,0⟩:X8)]:List X8),(⟨false,0,([]:List V9),([]:List QB)⟩:WB),(⟨false,0,(⟨#[]⟩:ByteArray),(⟨#[]⟩:ByteArray),([]:List QB)⟩:Qi),(⟨false,0,0,([]:List VB),([]:List ZL),([]:List Wa),([]:List Wb),([]:List QB)⟩:XO)⟩:Zi)]:List Zi)⟩:ZI) ([]:List Int) r1 q1).args (.cons (KV (.cons (Zl6 rfl (fun i hi=>match i,hi with | 0,_=>(.cons PSub.rfl (.cons PSub.rfl (.cons (Zdx rfl (fun i hi=>match i,hi with | 0,_=>(.cons PSub.rfl (.cons PSub.rfl (.cons PSub.rfl (.cons PSub.rfl (.cons PSub.rfl (.cons PSub.rfl (.cons PSub.rfl (.cons PSub.rfl (.cons PSub.rfl (.cons PSub.rfl (.cons PSub.rfl (.cons PSub.rfl .nil)))))))))))) | n+1,h=>absurd h (by omega))) (.cons WR (.cons WR (.cons WR (.cons WR (.cons (Zdx rfl (fun i hi=>match i,hi with | 0,_=>(.cons PSub.rfl (.cons PSub.rfl (.cons PSub.rfl (.cons PSub.rfl (.cons PSub.rfl (.cons PSub.rfl (.cons PSub.rfl .nil))))))) | n+1,h=>absurd h (by omega))) (.cons PSub.rfl (.cons PSub.rfl (.cons WR (.cons WR (.cons PSub.rfl (.cons PSub.rfl (.cons PSub.rfl (.cons PSub.rfl (.cons WR (.cons PSub.rfl (.cons PSub.rfl (.cons PSub.rfl (.cons WR (.cons WR (.cons WR (.cons WR (.cons WR .nil))))))))))))))))))))))))) | n+1,h=>absurd h (by omega))) .nil)) (.cons ZkX .nil)),trivial⟩ (Zb (Za (Za (zg [2,19] 2 (Zb (cn h2 (fun _ h4=>?_) (fun _ h5=>?_)))))))
 exact Za (zg [0] 0 (Zb (Zf (Zk (er1 h4)))))
 refine Zd (Zb (Za (rg0 [2,4] 2 ⟨60,[(2,.ref 1 0),(4,.sl true 14 2 (fun i=>List.take 14 (List.drop (i*14) [.int .u32 0,.int .i64 0,.int .i64 2,.int .i64 0,.int .i64 1,.int .i64 0,.int .i64 0,.int .i64 0,.int .i64 0,.sl true 1 0 (fun _=>[]),.int .u32 0,.int .u32 167772169,.sl true 2 0 (fun _=>[]),.bool false,.int .u32 167772160,.int .i64 24,.int .i64 1,.int .i64 0,.int .i64 0,.int .i64 0,.int .i64 0,.int .i64 0,.int .i64 0,.sl true 1 0 (fun _=>[]),.int .u32 0,.int .u32 0,.sl true 2 1 (fun i=>List.take 2 (List.drop (i*2) [.int .i64 0,.int .u32 0])),.bool false])))],[.box [.sl true 25 1 (fun i=>List.take 25 (List.drop (i*25) [.str (⟨#[97]⟩:ByteArray),.int .i64 0,.sl true 12 1 (fun i=>List.take 12 (List.drop (i*12) [.str (⟨#[101,48]⟩:ByteArray),.int .u32 167772161,.int .i64 24,.int .i64 0,.bool false,.bool false,.int .i64 0,.int .i64 0,.bool false,.str (⟨#[]⟩:ByteArray),.str (⟨#[]⟩:ByteArray),.int .i64 0])),.sl true 2 0 (fun _=>[]),.sl true 2 0 (fun _=>[]),.sl true 2 0 (fun _=>[]),.sl true 9 0 (fun _=>[]),.sl true 7 1 (fun i=>List.take 7 (List.drop (i*7) [.int .u32 0,.int .i64 0,.int .u32 167772169,.str (⟨#[]⟩:ByteArray),.bool false,.int .i64 1,.int .i64 0])),.bool false,.int .i64 0,.sl true 3 0 (fun _=>[]),.sl true 5 0 (fun _=>[]),.bool false,.int .i64 0,.str (⟨#[]⟩:ByteArray),.str (⟨#[]⟩:ByteArray),.sl true 5 0 (fun _=>[]),.bool false,.int .i64 0,.int .i64 0,.sl true 4 0 (fun _=>[]),.sl true 2 0 (fun _=>[]),.sl true 3 0 (fun _=>[]),.sl true 5 0 (fun _=>[]),.sl true 5 0 (fun _=>[])]))],.box (XD r1.1)]⟩ (ZZ (s':=⟨60,[(2,.ref 1 0),(4,sL 14 X1 ([(⟨(⟨0,0⟩:ZL),2,0,1,0,0,0,0,([]:List Int),0,167772169,([]:List ZF),false⟩:ZM),(⟨(⟨167772160,24⟩:ZL),1,0,0,0,0,0,0,([]:List Int),0,0,([(⟨0,0⟩:ZF)]:List ZF),false⟩:ZM)]:List ZM))],[.box [.sl true 25 1 (fun i=>List.take 25 (List.drop (i*25) [.str (⟨#[97]⟩:ByteArray),.int .i64 0,.sl true 12 1 (fun i=>List.take 12 (List.drop (i*12) [.str (⟨#[101,48]⟩:ByteArray),.int .u32 167772161,.int .i64 24,.int .i64 0,.bool false,.bool false,.int .i64 0,.int .i64 0,.bool false,.str (⟨#[]⟩:ByteArray),.str (⟨#[]⟩:ByteArray),.int .i64 0])),.sl true 2 0 (fun _=>[]),.sl true 2 0 (fun _=>[]),.sl true 2 0 (fun _=>[]),.sl true 9 0 (fun _=>[]),.sl true 7 1 (fun i=>List.take 7 (List.drop (i*7) [.int .u32 0,.int .i64 0,.int .u32 167772169,.str (⟨#[]⟩:ByteArray),.bool false,.int .i64 1,.int .i64 0])),.bool false,.int .i64 0,.sl true 3 0 (fun _=>[]),.sl true 5 0 (fun _=>[]),.bool false,.int .i64 0,.str (⟨#[]⟩:ByteArray),.str (⟨#[]⟩:ByteArray),.sl true 5 0 (fun _=>[]),.bool false,.int .i64 0,.int .i64 0,.sl true 4 0 (fun _=>[]),.sl true 2 0 (fun _=>[]),.sl true 3 0 (fun _=>[]),.sl true 5 0 (fun _=>[]),.sl true 5 0 (fun _=>[])]))],.box (XD r1.1)]⟩) (QU (.cons Sub.rfl (.cons (Znq rfl (fun i hi=>match i,hi with | 0,_=>(.cons PSub.rfl (.cons PSub.rfl (.cons PSub.rfl (.cons PSub.rfl (.cons PSub.rfl (.cons PSub.rfl (.cons PSub.rfl (.cons PSub.rfl (.cons PSub.rfl (.cons WR (.cons PSub.rfl (.cons PSub.rfl (.cons WR (.cons PSub.rfl .nil)))))))))))))) | 1,_=>(.cons PSub.rfl (.cons PSub.rfl (.cons PSub.rfl (.cons PSub.rfl (.cons PSub.rfl (.cons PSub.rfl (.cons PSub.rfl (.cons PSub.rfl (.cons PSub.rfl (.cons WR (.cons PSub.rfl (.cons PSub.rfl (.cons (Zdx rfl (fun i hi=>match i,hi with | 0,_=>(.cons PSub.rfl (.cons PSub.rfl .nil)) | n+1,h=>absurd h (by omega))) (.cons PSub.rfl .nil)))))))))))))) | n+2,h=>absurd h (by omega))) .nil)) (.cons .rfl (.cons .rfl .nil))) (Za ?_)))))
 obtain ⟨r2,q6,h7⟩:=bind_some h5
 refine zr [5] 0 Zt (rq1 (Zd4 _ _ _ _ q6) rqn) (Zb (Za ?_))
 obtain ⟨r3,q8,h9⟩:=bind_some h7
 obtain ⟨r4,q10,h11⟩:=bind_some h9
 obtain ⟨c12,h13⟩:=Zo h11
 exact zr [0] 0 c12 (rq2 (fun hg=>ZcD _ _ _ (Xg q8 hg)) (rq2 (fun hg=>ZcD _ _ _ (Xg q10 hg)) rqn)) (Zb (Zf (er1 h13)))
theorem Zda (a0:ZI) (a1:List Int) (a2:List ZM) (r:Bool) (h:M.GG a0 a1 a2=some r):Fn Tryz.prog 3 [.agg (Yb a0),sL 1 (ci .i64) a1,sL 14 X1 a2] (.pure (.bool r)):=by
 let u2:Nat × D:=(2,sL 14 X1 a2)
 unfold M.GG at h
 refine ZC Tryz.func3 rfl (by kernel_rfl) (Za (zg [1,2,3] 1 (Zb (Za ?_))))
 obtain ⟨r1,q1,h2⟩:=bind_some h
 let u1:List Ob:=[.box (Yb a0),.box (XD r1.1)]
 refine zr [2,3,7,8] 2 Zt (rq1 (Zg4 _ _ _ q1) rqn) (Zb (Za (Za ?_)))
 obtain ⟨r2,q3,h4⟩:=bind_some h2
 refine zr [2,3,7,28] 2 Zt (rq2 (fun hg=>ZgG _ _ _ (Xg q3 hg)) rqn) (Zb (cn h4 (fun _ h6=>?_) (fun _ h7=>?_)))
 exact Za (zg [6] 0 (Zb (Zf (Zk (er1 h6)))))
 refine Zd (Zb (Za (Za (zg [2,3,7,9] 2 (Zb (Zg ?_))))))
 obtain ⟨y16,q43,h44⟩:=bind_some h7
 refine zl (fun (p3:Int)=>⟨65,[u2,(3,.ref 0 0),(7,.ref 1 0),(9,.int .i64 p3)],u1⟩) (Sum.elim (fun z=>OutE 0 (fun z=>⟨65,[],[]⟩) z) (fun z=>OutR Tryz.prog Tryz.f3 (.bool z))) q43 ?_ ?_
 intro p3 y4 h8
 unfold M.W0 at h8
 refine Za (Za (zg [2,3,7,9,33] 2 (Zb (cn h8 (fun _ h10=>?_) (fun _ h11=>?_)))))
 refine Zd (Zb (Za (Zg (Za (Za ?_)))))
 obtain ⟨r5,q12,h13⟩:=bind_some h10
 obtain ⟨r6,q14,h15⟩:=bind_some h13
 obtain ⟨r7,q16,h17⟩:=bind_some h15
 refine zr [2,3,7,9,45] 2 Zt (rq1 (Zd4 _ _ _ _ q12) (rq1 (ZgJ _ _ _ _ q14) (rq1 (ZaP _ _ _ q16) rqn))) (Zb (cn h17 (fun _ h19=>?_) (fun _ h20=>?_)))
 exact Za (zg [6] 0 (Zb (Zf (Zk (ZR (Zk (rr h19 ⟨rfl,er0 _⟩)))))))
 refine Zd (Zb (Za (zg [2,3,7,9,10] 2 (Zb (Zg ?_)))))
 obtain ⟨y13,q34,h35⟩:=bind_some h20
 refine zl (fun (p8:Int)=>⟨65,[u2,(3,.ref 0 0),(7,.ref 1 0),(9,.int .i64 p3),(10,.int .i64 p8)],u1⟩) (Sum.elim (fun z=>OutE 2 (fun z=>⟨65,[u2,(3,.ref 0 0),(7,.ref 1 0),(9,.int .i64 p3)],u1⟩) z) (fun z=>OutR Tryz.prog Tryz.f3 (.bool z))) q34 ?_ ?_
 intro p8 y9 h21
 unfold M.Wh at h21
 refine Za (Za (zg [2,3,7,9,10,49] 2 (Zb (cn h21 (fun _ h23=>?_) (fun _ h24=>?_)))))
 refine Zd (Zb (Za (Zg (Za ?_))))
 obtain ⟨r10,q25,h26⟩:=bind_some h23
 obtain ⟨r11,q27,h28⟩:=bind_some h26
 obtain ⟨r12,q29,h30⟩:=bind_some h28
 refine zr [2,3,7,9,10,63] 2 Zt (rq1 (ZbC _ _ _ _ _ q25) (rq1 (R1 _ _ _ _ _ q27) (rq1 (Zh8 _ _ _ q29) rqn))) (Zb (cn h30 (fun _ h32=>?_) (fun _ h33=>?_)))
 exact Za (zg [6] 0 (Zb (Zf (ZR (Zk (rr h32 ⟨rfl,er0 _⟩))))))
 exact Zd (XA (Zb (zg [2,3,7,9,10] 2 (rn h33))))
 exact ZD (Xc (re h24 ⟨rfl,kq⟩))
 intro e36 s37 o38
 rcases y13 with g14 | y15
 have h39:=Yc h35
 obtain ⟨rfl,l41⟩:=o38
 exact Qg (XA (ZZ (s':=⟨65,[u2,(3,.ref 0 0),(7,.ref 1 0),(9,.int .i64 p3)],u1⟩) (l41) (zg [2,3,7,9] 2 (rn h39))))
 have h40:=Yd h35
 obtain ⟨rfl,n42⟩:=o38
 exact ZR (ZR (Zk (rr h40 ⟨rfl,n42⟩)))
 exact ZD (Xc (re h11 ⟨rfl,kc⟩))
 intro e45 s46 o47
 rcases y16 with g17 | y18
 have h48:=Yc h44
 refine zi o47 (Za ?_)
 obtain ⟨r19,q51,h52⟩:=bind_some h48
 exact rg [.pure (.bool r19)] [6] 0 ⟨65,[(6,.bool r19)],[]⟩ [] [⟨true,17,[],.pure (.bool r19)⟩] Zt ⟨fun _=>Zg9  r19 q51,trivial⟩ (Zb (Zf (er1 h52)))
 have h49:=Yd h44
 obtain ⟨rfl,n53⟩:=o47
 refine ZR (Zk ?_)
 obtain rfl:=Option.some.inj h49
 exact n53
end Nv
