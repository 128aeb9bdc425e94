/- The walks: each function computes its mirror. -/
import Derived.Test.YtaienbkgekjdnaaGreatProg
import Derived.Test.YtaienbkgekjdnaaGreatNvD1
import Derived.Test.YtaienbkgekjdnaaGreatNvLibC
import Derived.Test.YtaienbkgekjdnaaGreatNvLibB
import Derived.KernelRfl
import Derived.Ground.SlsfProg
import Derived.Shelf.Lay
import Derived.Test.YtaienbkgekjdnaaGreatNvLibD
import Derived.Test.YtaienbkgekjdnaaGreatNvLibE
import Derived.Test.YtaienbkgekjdnaaGreatNvM1a
set_option maxRecDepth 100000
namespace Nv
open Go Go.Proofs
theorem Zit:KeyT Tryz.prog 117 119 3 Xo topoKeyEq:=⟨by kernel_rfl,⟨_,Tryz.underlying119⟩,⟨3,by kernel_rfl,fun _=>rfl⟩,fun _=>rfl,fun em y w=>by cases em <;> kernel_rfl,fun w=>by kernel_rfl,fun x y=>by kernel_rfl⟩
theorem Zev (a0:ZP) (r:List Zk) (h:M.Wn a0=some r):Fn Tryz.prog 38 [.agg (Yn a0)] (oL 4 Z0 r):=by
 let u1:Nat × D:=(14,sL 25 ZB a0.Zd)
 let u2:=(a0.Zd.length:Int)
 let u3:=Yn a0
 let u4:Nat × D:=(3,.sl true 4 0 (fun _=>[]))
 let u5:=List (Xc × Int)
 let u6:St:=⟨82,[(1,.ref 0 0),u4],[.box u3]⟩
 let u7:=List Zk
 unfold M.Wn at h
 obtain ⟨y,hy,h1⟩:=bind_some h
 obtain rfl:=Option.some.inj h1
 refine Zc3 Tryz.func38 rfl (by kernel_rfl) (Gi ?_)
 refine Za (rg0 [1] 1 ⟨82,[(1,.ref 0 0)],[.box u3]⟩ ?_)
 refine Zb (Za (rg0 [1,3] 1 u6 ?_))
 refine Zb (Za ?_)
 refine rgo 0 [] [1,3] 1 u6 [] [] Zz trivial (fun u:Value=>⟨82,(12,.val u) :: [(1,.ref 0 0),u4],[.box u3]++[.mp u []]⟩) (ZlA rfl rfl rfl rfl rfl) [] [1,3,4] 2 (fun u=>⟨82,[(1,.ref 0 0),u4,(4,.val u)],[.box u3,.mp u []]⟩) (fun _=>[]) (fun _=>[]) (fun _=>Zz) (fun _=>trivial) (fun u=>?_)
 refine Zb (Za (Za (rg0 [3,4,14,15,16] 2 ⟨82,[u4,(4,.val u),u1,(15,.int .i64 u2),(16,.int .i64 0)],[.box u3,.mp u []]⟩ ?_)))
 refine XD (Le.trans (s':=⟨82,(3,.asl 2 0 0) :: [u4,(4,.val u),u1,(15,.int .i64 u2),(16,.int .i64 0)],[.box u3,.mp u []]++[.arr 4 0 (fun _=>[])]⟩) (Zaw (wd:=4) (f:=fun _=>[]) 3 (by kernel_rfl) _ _) (Le.trans (s':=⟨82,[(3,.asl 2 0 0),(4,.val u),u1,(15,.int .i64 u2),(16,.int .i64 0)],[.box u3,.mp u [],.arr 4 0 (fun _=>[])]⟩) (kp [3,4,14,15,16]) (Zil (H:=[.box u3,.mp u []]) (wi:=2) (wd:=4) hdDom XF Zk.Xt _))) ?_
 refine Zj ?_
 refine G7 (Zch (f:=M.Jz a0) (S:=fun (p:u7 × u5 × Int) (vs:Nat→Value)=>⟨82,[(3,.asl 2 0 p.1.length),(4,.val u),u1,(15,.int .i64 u2),(16,.int .i64 p.2.2)],[.box u3,mpO u Xo p.2.1,rA 4 hdDom p.1 vs,rF 2 XF Zk.Xt p.1 vs]⟩) (O:=(fun z=>OutL 0 (fun (z:List Zk) (g:(Nat→Value) × u5)=>⟨82,[(3,.asl 2 0 z.length)],[.box u3,mpO u Xo g.2,rA 4 hdDom z g.1,rF 2 XF Zk.Xt z g.1]⟩) z)) ?_ (g:=fun _=>nilV) (x:=([],[],0)) (y:=y) (Wt hy)) ?_
 · intro p1 y1 v1 h2
   unfold M.Jz at h2
   refine Za (rg0 [3,4,14,15,16,17] 4 ⟨82,[(3,.asl 2 0 p1.1.length),(4,.val u),u1,(15,.int .i64 u2),(16,.int .i64 p1.2.2),(17,.bool (decide (p1.2.2 < u2)))],[.box u3,mpO u Xo p1.2.1,rA 4 hdDom p1.1 v1,rF 2 XF Zk.Xt p1.1 v1]⟩ ?_)
   refine Zb (Za ?_)
   refine cnd (decide (p1.2.2 < u2)) (fun b1=>?_) (fun b1=>?_)
   · have h3:=Gh b1 h2
     refine Ze (Zb ?_)
     refine Za (Zj (Za ?_))
     obtain ⟨c1,h4⟩:=Zy h3
     refine rgc [3,4,5,6,14,15,16] 5 ⟨82,[(3,.asl 2 0 p1.1.length),(4,.val u),(5,.int .i64 p1.2.2),(6,.ref 4 0),u1,(15,.int .i64 u2),(16,.int .i64 p1.2.2)],[.box u3,mpO u Xo p1.2.1,rA 4 hdDom p1.1 v1,rF 2 XF Zk.Xt p1.1 v1,.box (ZB (a0.Zd.getD p1.2.2.toNat default))]⟩ [decide (0≤p1.2.2),decide (p1.2.2 < u2)] c1 ?_
     refine Zb (Za (rg0 [3,4,5,14,15,16,22,23,24] 4 ⟨82,[(3,.asl 2 0 p1.1.length),(4,.val u),(5,.int .i64 p1.2.2),u1,(15,.int .i64 u2),(16,.int .i64 p1.2.2),(22,sL 12 Zm (a0.Zd.getD p1.2.2.toNat default).Zc),(23,.int .i64 ((a0.Zd.getD p1.2.2.toNat default).Zc.length:Int)),(24,.int .i64 0)],[.box u3,mpO u Xo p1.2.1,rA 4 hdDom p1.1 v1,rF 2 XF Zk.Xt p1.1 v1]⟩ ?_))
     refine Zb (Zj ?_)
     obtain ⟨y2,hy2,h5⟩:=bind_some h4
     refine G7 (Zch (f:=M.Q3 a0 p1.2.2) (S:=fun (p:u7 × u5 × Int) (vs:Nat→Value)=>⟨82,[(3,.asl 2 0 p.1.length),(4,.val u),(5,.int .i64 p1.2.2),u1,(15,.int .i64 u2),(16,.int .i64 p1.2.2),(22,sL 12 Zm (a0.Zd.getD p1.2.2.toNat default).Zc),(23,.int .i64 ((a0.Zd.getD p1.2.2.toNat default).Zc.length:Int)),(24,.int .i64 p.2.2)],[.box u3,mpO u Xo p.2.1,rA 4 hdDom p.1 vs,rF 2 XF Zk.Xt p.1 vs]⟩) (O:=(fun z=>OutL 2 (fun (z:u7 × u5) (vs:Nat→Value)=>⟨82,[(3,.asl 2 0 z.1.length),(4,.val u),u1,(15,.int .i64 u2),(16,.int .i64 p1.2.2)],[.box u3,mpO u Xo z.2,rA 4 hdDom z.1 vs,rF 2 XF Zk.Xt z.1 vs]⟩) z)) ?_ (g:=v1) (x:=(p1.1,p1.2.1,0)) (y:=y2) (Wt hy2)) ?_
     · intro p2 y3 v2 h6
       unfold M.Q3 at h6
       refine Za (rg0 [3,4,5,14,15,16,22,23,24,25] 4 ⟨82,[(3,.asl 2 0 p2.1.length),(4,.val u),(5,.int .i64 p1.2.2),u1,(15,.int .i64 u2),(16,.int .i64 p1.2.2),(22,sL 12 Zm (a0.Zd.getD p1.2.2.toNat default).Zc),(23,.int .i64 ((a0.Zd.getD p1.2.2.toNat default).Zc.length:Int)),(24,.int .i64 p2.2.2),(25,.bool (decide (p2.2.2 < ((a0.Zd.getD p1.2.2.toNat default).Zc.length:Int))))],[.box u3,mpO u Xo p2.2.1,rA 4 hdDom p2.1 v2,rF 2 XF Zk.Xt p2.1 v2]⟩ ?_)
       refine Zb (Za ?_)
       refine cnd (decide (p2.2.2 < ((a0.Zd.getD p1.2.2.toNat default).Zc.length:Int))) (fun b2=>?_) (fun b2=>?_)
       · have h7:=Gh b2 h6
         refine Ze (Zb ?_)
         refine Za (Zj (Za ?_))
         obtain ⟨c2,h8⟩:=Zy h7
         refine rgc [3,4,5,7,8,14,15,16,22,23,24] 5 ⟨82,[(3,.asl 2 0 p2.1.length),(4,.val u),(5,.int .i64 p1.2.2),(7,.int .i64 p2.2.2),(8,.ref 4 0),u1,(15,.int .i64 u2),(16,.int .i64 p1.2.2),(22,sL 12 Zm (a0.Zd.getD p1.2.2.toNat default).Zc),(23,.int .i64 ((a0.Zd.getD p1.2.2.toNat default).Zc.length:Int)),(24,.int .i64 p2.2.2)],[.box u3,mpO u Xo p2.2.1,rA 4 hdDom p2.1 v2,rF 2 XF Zk.Xt p2.1 v2,.box (Zm ((a0.Zd.getD p1.2.2.toNat default).Zc.getD p2.2.2.toNat default))]⟩ [decide (0≤p2.2.2),decide (p2.2.2 < ((a0.Zd.getD p1.2.2.toNat default).Zc.length:Int))] c2 ?_
         refine Zb (Za (Za ?_))
         refine rg0 [3,4,5,7,8,14,15,16,22,23,24,35] 5 ⟨82,[(3,.asl 2 0 p2.1.length),(4,.val u),(5,.int .i64 p1.2.2),(7,.int .i64 p2.2.2),(8,.ref 4 0),u1,(15,.int .i64 u2),(16,.int .i64 p1.2.2),(22,sL 12 Zm (a0.Zd.getD p1.2.2.toNat default).Zc),(23,.int .i64 ((a0.Zd.getD p1.2.2.toNat default).Zc.length:Int)),(24,.int .i64 p2.2.2),(35,.bool ((((a0.Zd.getD p1.2.2.toNat default).Zc.getD p2.2.2.toNat default).ZM==0)||((a0.Zd.getD p1.2.2.toNat default).Zc.getD p2.2.2.toNat default).RB))],[.box u3,mpO u Xo p2.2.1,rA 4 hdDom p2.1 v2,rF 2 XF Zk.Xt p2.1 v2,.box (Zm ((a0.Zd.getD p1.2.2.toNat default).Zc.getD p2.2.2.toNat default))]⟩ ?_
         refine Zb ?_
         refine cnd ((((a0.Zd.getD p1.2.2.toNat default).Zc.getD p2.2.2.toNat default).ZM==0)||((a0.Zd.getD p1.2.2.toNat default).Zc.getD p2.2.2.toNat default).RB) (fun b3=>?_) (fun b3=>?_)
         · have h9:=Gh b3 h8
           refine ZX (XC (Y0 ?_))
           refine Zb (rg0 [3,4,5,14,15,16,22,23,24] 4 ⟨82,[(3,.asl 2 0 p2.1.length),(4,.val u),(5,.int .i64 p1.2.2),u1,(15,.int .i64 u2),(16,.int .i64 p1.2.2),(22,sL 12 Zm (a0.Zd.getD p1.2.2.toNat default).Zc),(23,.int .i64 ((a0.Zd.getD p1.2.2.toNat default).Zc.length:Int)),(24,.int .i64 (wr .i64 (p2.2.2+1)))],[.box u3,mpO u Xo p2.2.1,rA 4 hdDom p2.1 v2,rF 2 XF Zk.Xt p2.1 v2]⟩ ?_)
           obtain rfl:=Option.some.inj h9
           exact K6 v2 U6
         · have h9:=GP b3 h8
           refine Ze (Zb (Za ?_))
           obtain ⟨r,hr,h10⟩:=bind_some h9
           refine rgs 8 9 [.pure (.agg (Z7 r))] [3,4,5,7,9,14,15,16,22,23,24] 6 ⟨82,[(3,.asl 2 0 p2.1.length),(4,.val u),(5,.int .i64 p1.2.2),(7,.int .i64 p2.2.2),(9,.ref 5 0),u1,(15,.int .i64 u2),(16,.int .i64 p1.2.2),(22,sL 12 Zm (a0.Zd.getD p1.2.2.toNat default).Zc),(23,.int .i64 ((a0.Zd.getD p1.2.2.toNat default).Zc.length:Int)),(24,.int .i64 p2.2.2)],[.box u3,mpO u Xo p2.2.1,rA 4 hdDom p2.1 v2,rF 2 XF Zk.Xt p2.1 v2,.box (Zm ((a0.Zd.getD p1.2.2.toNat default).Zc.getD p2.2.2.toNat default)),.box (Xo (⟨r,((a0.Zd.getD p1.2.2.toNat default).Zc.getD p2.2.2.toNat default).XI⟩:Xc))]⟩ [] [⟨true,60,[.int .u32 ((a0.Zd.getD p1.2.2.toNat default).Zc.getD p2.2.2.toNat default).ZA,.int .i64 ((a0.Zd.getD p1.2.2.toNat default).Zc.getD p2.2.2.toNat default).ZM],.pure (.agg (Z7 r))⟩] Zz ⟨fun _=>KD ((a0.Zd.getD p1.2.2.toNat default).Zc.getD p2.2.2.toNat default).ZA ((a0.Zd.getD p1.2.2.toNat default).Zc.getD p2.2.2.toNat default).ZM r hr,trivial⟩ ?_
           refine Zb (Za ?_)
           refine rgo 2 [] [3,4,5,7,9,14,15,16,22,23,24,45,46] 6 ⟨82,[(3,.asl 2 0 p2.1.length),(4,.val u),(5,.int .i64 p1.2.2),(7,.int .i64 p2.2.2),(9,.ref 5 0),u1,(15,.int .i64 u2),(16,.int .i64 p1.2.2),(22,sL 12 Zm (a0.Zd.getD p1.2.2.toNat default).Zc),(23,.int .i64 ((a0.Zd.getD p1.2.2.toNat default).Zc.length:Int)),(24,.int .i64 p2.2.2),(45,.val u),(46,.agg (Xo (⟨r,((a0.Zd.getD p1.2.2.toNat default).Zc.getD p2.2.2.toNat default).XI⟩:Xc)))],[.box u3,mpO u Xo p2.2.1,rA 4 hdDom p2.1 v2,rF 2 XF Zk.Xt p2.1 v2,.box (Zm ((a0.Zd.getD p1.2.2.toNat default).Zc.getD p2.2.2.toNat default)),.box (Xo (⟨r,((a0.Zd.getD p1.2.2.toNat default).Zc.getD p2.2.2.toNat default).XI⟩:Xc))]⟩ [] [] Zz trivial (fun _:Unit=>⟨82,(47,.tup [.int .i64 (lkM (topoKeyEq (⟨r,((a0.Zd.getD p1.2.2.toNat default).Zc.getD p2.2.2.toNat default).XI⟩:Xc)) p2.2.1).1,.bool (lkM (topoKeyEq (⟨r,((a0.Zd.getD p1.2.2.toNat default).Zc.getD p2.2.2.toNat default).XI⟩:Xc)) p2.2.1).2]) :: [(3,.asl 2 0 p2.1.length),(4,.val u),(5,.int .i64 p1.2.2),(7,.int .i64 p2.2.2),(9,.ref 5 0),u1,(15,.int .i64 u2),(16,.int .i64 p1.2.2),(22,sL 12 Zm (a0.Zd.getD p1.2.2.toNat default).Zc),(23,.int .i64 ((a0.Zd.getD p1.2.2.toNat default).Zc.length:Int)),(24,.int .i64 p2.2.2),(45,.val u),(46,.agg (Xo (⟨r,((a0.Zd.getD p1.2.2.toNat default).Zc.getD p2.2.2.toNat default).XI⟩:Xc)))],[.box u3,mpO u Xo p2.2.1,rA 4 hdDom p2.1 v2,rF 2 XF Zk.Xt p2.1 v2,.box (Zm ((a0.Zd.getD p1.2.2.toNat default).Zc.getD p2.2.2.toNat default)),.box (Xo (⟨r,((a0.Zd.getD p1.2.2.toNat default).Zc.getD p2.2.2.toNat default).XI⟩:Xc))]⟩) (ZlC (id:=1) Zit (⟨r,((a0.Zd.getD p1.2.2.toNat default).Zc.getD p2.2.2.toNat default).XI⟩:Xc) rfl rfl rfl rfl rfl rfl rfl rfl) [] [3,4,5,7,9,10,11,14,15,16,22,23,24] 6 (fun _=>⟨82,[(3,.asl 2 0 p2.1.length),(4,.val u),(5,.int .i64 p1.2.2),(7,.int .i64 p2.2.2),(9,.ref 5 0),(10,.int .i64 (lkM (topoKeyEq (⟨r,((a0.Zd.getD p1.2.2.toNat default).Zc.getD p2.2.2.toNat default).XI⟩:Xc)) p2.2.1).1),(11,.bool (lkM (topoKeyEq (⟨r,((a0.Zd.getD p1.2.2.toNat default).Zc.getD p2.2.2.toNat default).XI⟩:Xc)) p2.2.1).2),u1,(15,.int .i64 u2),(16,.int .i64 p1.2.2),(22,sL 12 Zm (a0.Zd.getD p1.2.2.toNat default).Zc),(23,.int .i64 ((a0.Zd.getD p1.2.2.toNat default).Zc.length:Int)),(24,.int .i64 p2.2.2)],[.box u3,mpO u Xo p2.2.1,rA 4 hdDom p2.1 v2,rF 2 XF Zk.Xt p2.1 v2,.box (Zm ((a0.Zd.getD p1.2.2.toNat default).Zc.getD p2.2.2.toNat default)),.box (Xo (⟨r,((a0.Zd.getD p1.2.2.toNat default).Zc.getD p2.2.2.toNat default).XI⟩:Xc))]⟩) (fun _=>[]) (fun _=>[]) (fun _=>Zz) (fun _=>trivial) (fun _=>?_)
           refine Zb ?_
           refine Uh (fun (q:u7 × u5 × Int × (Nat→Value))=>⟨82,[(3,.asl 2 0 q.1.length),(4,.val u),(5,.int .i64 p1.2.2),(7,.int .i64 p2.2.2),(10,.int .i64 q.2.2.1),u1,(15,.int .i64 u2),(16,.int .i64 p1.2.2),(22,sL 12 Zm (a0.Zd.getD p1.2.2.toNat default).Zc),(23,.int .i64 ((a0.Zd.getD p1.2.2.toNat default).Zc.length:Int)),(24,.int .i64 p2.2.2)],[.box u3,mpO u Xo q.2.1,rA 4 hdDom q.1 q.2.2.2,rF 2 XF Zk.Xt q.1 q.2.2.2]⟩) (fun q=>M.Jh p1.2.2 p2 (q.1,q.2.1,q.2.2.1)=some y3) ?_ ?_
           · intro q h11
             unfold M.Jh at h11
             obtain ⟨c4,h12⟩:=Zy h11
             have g1:0≤q.2.2.1:=of_decide_eq_true (c4 _ (by simp only [List.mem_cons,true_or]))
             have g2:q.2.2.1 < (q.1.length:Int):=of_decide_eq_true (c4 _ (by simp only [List.mem_cons,true_or,or_true]))
             have g3:((q.1.getD (0+q.2.2.1.toNat) default).Xt.length+1)*16≤140737488355328:=of_decide_eq_true (c4 _ (by simp only [List.mem_cons,true_or,or_true]))
             refine Ud (Zlk (idf:=3) (0+q.2.2.1.toNat) rfl) ?_
             refine rgxe 12 [] [3,4,5,14,15,16,22,23,24,65,66,76] 5 ⟨82,[(3,.asl 2 0 q.1.length),(4,.val u),(5,.int .i64 p1.2.2),u1,(15,.int .i64 u2),(16,.int .i64 p1.2.2),(22,sL 12 Zm (a0.Zd.getD p1.2.2.toNat default).Zc),(23,.int .i64 ((a0.Zd.getD p1.2.2.toNat default).Zc.length:Int)),(24,.int .i64 p2.2.2),(65,.asl 2 0 q.1.length),(66,.int .i64 q.2.2.1),(76,.asl 4 0 ((q.1.getD (0+q.2.2.1.toNat) default).Xt.length+1))],[.box u3,mpO u Xo q.2.1,rA 4 hdDom q.1 q.2.2.2,.fam (0+q.2.2.1.toNat) (fun _=>false) q.1.length 2 (updV q.2.2.2 (0+q.2.2.1.toNat) nilV) (updL (rls XF Zk.Xt q.1) (0+q.2.2.1.toNat) (0,fun _=>[])),.arr 2 ((q.1.getD (0+q.2.2.1.toNat) default).Xt.length+1) (app (rls XF Zk.Xt q.1 (0+q.2.2.1.toNat)).2 (rls XF Zk.Xt q.1 (0+q.2.2.1.toNat)).1 (fun i=>List.take 2 (List.drop (i*2) [.int .i64 p1.2.2,.int .i64 p2.2.2])))]⟩ [decide (0≤q.2.2.1),decide (q.2.2.1 < (q.1.length:Int)),pB (q.2.2.2 (0+q.2.2.1.toNat)=q.2.2.2 (0+q.2.2.1.toNat)),decide ((0+q.2.2.1.toNat) < q.1.length),decide (((q.1.getD (0+q.2.2.1.toNat) default).Xt.length+1)*16≤140737488355328)] [] ?_ trivial _ (Zjx (idf:=3) 76 (0+q.2.2.1.toNat) rfl rfl rfl ?_ rfl) [] [3,4,5,14,15,16,22,23,24] 4 (fun w=>⟨82,[(3,.asl 2 0 q.1.length),(4,.val u),(5,.int .i64 p1.2.2),u1,(15,.int .i64 u2),(16,.int .i64 p1.2.2),(22,sL 12 Zm (a0.Zd.getD p1.2.2.toNat default).Zc),(23,.int .i64 ((a0.Zd.getD p1.2.2.toNat default).Zc.length:Int)),(24,.int .i64 p2.2.2)],[.box u3,mpO u Xo q.2.1,.arr 4 q.1.length (fun j=>bif Nat.beq j (0+q.2.2.1.toNat) then splice (hdDom (q.1.getD (0+q.2.2.1.toNat) default)++[.val (q.2.2.2 (0+q.2.2.1.toNat))]) [.val w] 3 else hdDom (q.1.getD j default)++[.val (q.2.2.2 j)]),.fam 0 (fun _=>false) q.1.length 2 (updV (updV q.2.2.2 (0+q.2.2.1.toNat) nilV) (0+q.2.2.1.toNat) w) (updL (updL (rls XF Zk.Xt q.1) (0+q.2.2.1.toNat) (0,fun _=>[])) (0+q.2.2.1.toNat) ((q.1.getD (0+q.2.2.1.toNat) default).Xt.length+1,(app (rls XF Zk.Xt q.1 (0+q.2.2.1.toNat)).2 (rls XF Zk.Xt q.1 (0+q.2.2.1.toNat)).1 (fun i=>List.take 2 (List.drop (i*2) [.int .i64 p1.2.2,.int .i64 p2.2.2])))))]⟩) (fun _=>[decide (0≤q.2.2.1),decide (q.2.2.1 < (q.1.length:Int))]) (fun _=>[]) ?_ (fun _=>trivial) (fun w=>?_)
             · exact am (decide_eq_true g1) (am (decide_eq_true g2) (am (Zlj rfl) (am (decide_eq_true (by omega)) (am (decide_eq_true g3) Zz))))
             · rw [UD]; rfl
             · exact fun _=>am (decide_eq_true g1) (am (decide_eq_true g2) Zz)
             refine XO ?_
             refine XD (s':=⟨82,[(3,.asl 2 0 (q.1.set (0+q.2.2.1.toNat) (⟨(q.1.getD (0+q.2.2.1.toNat) default).Zp,(q.1.getD (0+q.2.2.1.toNat) default).XI,(q.1.getD (0+q.2.2.1.toNat) default).Xt++[(⟨p1.2.2,p2.2.2⟩:Ue)]⟩:Zk)).length),(4,.val u),(5,.int .i64 p1.2.2),(14,sL 25 ZB a0.Zd),(15,.int .i64 (a0.Zd.length:Int)),(16,.int .i64 p1.2.2),(22,sL 12 Zm (a0.Zd.getD p1.2.2.toNat default).Zc),(23,.int .i64 ((a0.Zd.getD p1.2.2.toNat default).Zc.length:Int)),(24,.int .i64 p2.2.2)],[.box (Yn a0),mpO u Xo q.2.1,rA 4 hdDom (q.1.set (0+q.2.2.1.toNat) (⟨(q.1.getD (0+q.2.2.1.toNat) default).Zp,(q.1.getD (0+q.2.2.1.toNat) default).XI,(q.1.getD (0+q.2.2.1.toNat) default).Xt++[(⟨p1.2.2,p2.2.2⟩:Ue)]⟩:Zk)) (updV q.2.2.2 (0+q.2.2.1.toNat) w),rF 2 XF Zk.Xt (q.1.set (0+q.2.2.1.toNat) (⟨(q.1.getD (0+q.2.2.1.toNat) default).Zp,(q.1.getD (0+q.2.2.1.toNat) default).XI,(q.1.getD (0+q.2.2.1.toNat) default).Xt++[(⟨p1.2.2,p2.2.2⟩:Ue)]⟩:Zk)) (updV q.2.2.2 (0+q.2.2.1.toNat) w)]⟩) (Le.trans (ZjA 2 3 hdDom XF Zk.Xt q.1 (⟨(q.1.getD (0+q.2.2.1.toNat) default).Zp,(q.1.getD (0+q.2.2.1.toNat) default).XI,(q.1.getD (0+q.2.2.1.toNat) default).Xt++[(⟨p1.2.2,p2.2.2⟩:Ue)]⟩:Zk) q.2.2.2 (0+q.2.2.1.toNat) w ((q.1.getD (0+q.2.2.1.toNat) default).Xt.length+1) (app (rls XF Zk.Xt q.1 (0+q.2.2.1.toNat)).2 (rls XF Zk.Xt q.1 (0+q.2.2.1.toNat)).1 (fun i=>List.take 2 (List.drop (i*2) [.int .i64 p1.2.2,.int .i64 p2.2.2]))) _ _ _ (by decide) rfl rfl (fun j _ hj=>by rw [Zc8 hj]; rfl) (fun _=>by rw [Nat.beq_refl]; rfl) (fun j hj=>G5 hj) (fun j hj=>Zce hj) (by simp) (fun i hi=>K0 XF (q.1.getD (0+q.2.2.1.toNat) default).Xt (⟨p1.2.2,p2.2.2⟩:Ue) (fun i=>List.take 2 (List.drop (i*2) [.int .i64 p1.2.2,.int .i64 p2.2.2])) rfl i hi)) (JQ (.cons (Gb (by simp)) (.cons Sub.rfl (.cons Sub.rfl (.cons Sub.rfl (.cons Sub.rfl (.cons Sub.rfl (.cons Sub.rfl (.cons Sub.rfl (.cons Sub.rfl .nil))))))))) HSub.rfl)) ?_
             refine rg0 [3,4,5,14,15,16,22,23,24] 4 ⟨82,[(3,.asl 2 0 (q.1.set (0+q.2.2.1.toNat) (⟨(q.1.getD (0+q.2.2.1.toNat) default).Zp,(q.1.getD (0+q.2.2.1.toNat) default).XI,(q.1.getD (0+q.2.2.1.toNat) default).Xt++[(⟨p1.2.2,p2.2.2⟩:Ue)]⟩:Zk)).length),(4,.val u),(5,.int .i64 p1.2.2),u1,(15,.int .i64 u2),(16,.int .i64 p1.2.2),(22,sL 12 Zm (a0.Zd.getD p1.2.2.toNat default).Zc),(23,.int .i64 ((a0.Zd.getD p1.2.2.toNat default).Zc.length:Int)),(24,.int .i64 (wr .i64 (p2.2.2+1)))],[.box u3,mpO u Xo q.2.1,rA 4 hdDom (q.1.set (0+q.2.2.1.toNat) (⟨(q.1.getD (0+q.2.2.1.toNat) default).Zp,(q.1.getD (0+q.2.2.1.toNat) default).XI,(q.1.getD (0+q.2.2.1.toNat) default).Xt++[(⟨p1.2.2,p2.2.2⟩:Ue)]⟩:Zk)) (updV q.2.2.2 (0+q.2.2.1.toNat) w),rF 2 XF Zk.Xt (q.1.set (0+q.2.2.1.toNat) (⟨(q.1.getD (0+q.2.2.1.toNat) default).Zp,(q.1.getD (0+q.2.2.1.toNat) default).XI,(q.1.getD (0+q.2.2.1.toNat) default).Xt++[(⟨p1.2.2,p2.2.2⟩:Ue)]⟩:Zk)) (updV q.2.2.2 (0+q.2.2.1.toNat) w)]⟩ ?_
             obtain rfl:=Option.some.inj h12
             exact K6 (updV q.2.2.2 (0+q.2.2.1.toNat) w) U6
           · intro hk
             refine Za (rg0 [3,4,5,7,9,10,14,15,16,22,23,24,51] 6 ⟨82,[(3,.asl 2 0 p2.1.length),(4,.val u),(5,.int .i64 p1.2.2),(7,.int .i64 p2.2.2),(9,.ref 5 0),(10,.int .i64 (lkM (topoKeyEq (⟨r,((a0.Zd.getD p1.2.2.toNat default).Zc.getD p2.2.2.toNat default).XI⟩:Xc)) p2.2.1).1),u1,(15,.int .i64 u2),(16,.int .i64 p1.2.2),(22,sL 12 Zm (a0.Zd.getD p1.2.2.toNat default).Zc),(23,.int .i64 ((a0.Zd.getD p1.2.2.toNat default).Zc.length:Int)),(24,.int .i64 p2.2.2),(51,.bool (!(lkM (topoKeyEq (⟨r,((a0.Zd.getD p1.2.2.toNat default).Zc.getD p2.2.2.toNat default).XI⟩:Xc)) p2.2.1).2))],[.box u3,mpO u Xo p2.2.1,rA 4 hdDom p2.1 v2,rF 2 XF Zk.Xt p2.1 v2,.box (Zm ((a0.Zd.getD p1.2.2.toNat default).Zc.getD p2.2.2.toNat default)),.box (Xo (⟨r,((a0.Zd.getD p1.2.2.toNat default).Zc.getD p2.2.2.toNat default).XI⟩:Xc))]⟩ ?_)
             refine Zb ?_
             refine cnd (!(lkM (topoKeyEq (⟨r,((a0.Zd.getD p1.2.2.toNat default).Zc.getD p2.2.2.toNat default).XI⟩:Xc)) p2.2.1).2) (fun b4=>?_) (fun b4=>?_)
             · have h11:=Gh b4 h10
               obtain ⟨c4,h12⟩:=Zy h11
               refine Za (rg0 [3,4,5,7,9,10,14,15,16,22,23,24] 6 ⟨82,[(3,.asl 2 0 p2.1.length),(4,.val u),(5,.int .i64 p1.2.2),(7,.int .i64 p2.2.2),(9,.ref 5 0),(10,.int .i64 (p2.1.length:Int)),u1,(15,.int .i64 u2),(16,.int .i64 p1.2.2),(22,sL 12 Zm (a0.Zd.getD p1.2.2.toNat default).Zc),(23,.int .i64 ((a0.Zd.getD p1.2.2.toNat default).Zc.length:Int)),(24,.int .i64 p2.2.2)],[.box u3,mpO u Xo p2.2.1,rA 4 hdDom p2.1 v2,rF 2 XF Zk.Xt p2.1 v2,.box (Zm ((a0.Zd.getD p1.2.2.toNat default).Zc.getD p2.2.2.toNat default)),.box (Xo (⟨r,((a0.Zd.getD p1.2.2.toNat default).Zc.getD p2.2.2.toNat default).XI⟩:Xc))]⟩ ?_)
               refine Zb (Za ?_)
               refine rgo 3 [] [3,4,5,7,9,10,14,15,16,22,23,24,54,55,56] 6 ⟨82,[(3,.asl 2 0 p2.1.length),(4,.val u),(5,.int .i64 p1.2.2),(7,.int .i64 p2.2.2),(9,.ref 5 0),(10,.int .i64 (p2.1.length:Int)),(14,sL 25 ZB a0.Zd),(15,.int .i64 (a0.Zd.length:Int)),(16,.int .i64 p1.2.2),(22,sL 12 Zm (a0.Zd.getD p1.2.2.toNat default).Zc),(23,.int .i64 ((a0.Zd.getD p1.2.2.toNat default).Zc.length:Int)),(24,.int .i64 p2.2.2),(54,.val u),(55,.agg (Xo (⟨r,((a0.Zd.getD p1.2.2.toNat default).Zc.getD p2.2.2.toNat default).XI⟩:Xc))),(56,.int .i64 (p2.1.length:Int))],[.box (Yn a0),mpO u Xo p2.2.1,rA 4 hdDom p2.1 v2,rF 2 XF Zk.Xt p2.1 v2,.box (Zm ((a0.Zd.getD p1.2.2.toNat default).Zc.getD p2.2.2.toNat default)),.box (Xo (⟨r,((a0.Zd.getD p1.2.2.toNat default).Zc.getD p2.2.2.toNat default).XI⟩:Xc))]⟩ [] [] Zz trivial (fun _:Unit=>⟨82,[(3,.asl 2 0 p2.1.length),(4,.val u),(5,.int .i64 p1.2.2),(7,.int .i64 p2.2.2),(9,.ref 5 0),(10,.int .i64 (p2.1.length:Int)),(14,sL 25 ZB a0.Zd),(15,.int .i64 (a0.Zd.length:Int)),(16,.int .i64 p1.2.2),(22,sL 12 Zm (a0.Zd.getD p1.2.2.toNat default).Zc),(23,.int .i64 ((a0.Zd.getD p1.2.2.toNat default).Zc.length:Int)),(24,.int .i64 p2.2.2),(54,.val u),(55,.agg (Xo (⟨r,((a0.Zd.getD p1.2.2.toNat default).Zc.getD p2.2.2.toNat default).XI⟩:Xc))),(56,.int .i64 (p2.1.length:Int))],[.box (Yn a0),mpO u Xo (p2.2.1++[((⟨r,((a0.Zd.getD p1.2.2.toNat default).Zc.getD p2.2.2.toNat default).XI⟩:Xc),(p2.1.length:Int))]),rA 4 hdDom p2.1 v2,rF 2 XF Zk.Xt p2.1 v2,.box (Zm ((a0.Zd.getD p1.2.2.toNat default).Zc.getD p2.2.2.toNat default)),.box (Xo (⟨r,((a0.Zd.getD p1.2.2.toNat default).Zc.getD p2.2.2.toNat default).XI⟩:Xc))]⟩) (Zmz (id:=1) Zit (⟨r,((a0.Zd.getD p1.2.2.toNat default).Zc.getD p2.2.2.toNat default).XI⟩:Xc) (p2.1.length:Int) rfl rfl rfl rfl rfl rfl rfl rfl (by simpa using b4)) [] [3,4,5,7,9,10,14,15,16,22,23,24] 6 (fun _=>⟨82,[(3,.asl 2 0 p2.1.length),(4,.val u),(5,.int .i64 p1.2.2),(7,.int .i64 p2.2.2),(9,.ref 5 0),(10,.int .i64 (p2.1.length:Int)),(14,sL 25 ZB a0.Zd),(15,.int .i64 (a0.Zd.length:Int)),(16,.int .i64 p1.2.2),(22,sL 12 Zm (a0.Zd.getD p1.2.2.toNat default).Zc),(23,.int .i64 ((a0.Zd.getD p1.2.2.toNat default).Zc.length:Int)),(24,.int .i64 p2.2.2)],[.box (Yn a0),mpO u Xo (p2.2.1++[((⟨r,((a0.Zd.getD p1.2.2.toNat default).Zc.getD p2.2.2.toNat default).XI⟩:Xc),(p2.1.length:Int))]),rA 4 hdDom p2.1 v2,rF 2 XF Zk.Xt p2.1 v2,.box (Zm ((a0.Zd.getD p1.2.2.toNat default).Zc.getD p2.2.2.toNat default)),.box (Xo (⟨r,((a0.Zd.getD p1.2.2.toNat default).Zc.getD p2.2.2.toNat default).XI⟩:Xc))]⟩) (fun _=>[]) (fun _=>[]) (fun _=>Zz) (fun _=>trivial) (fun _=>?_)
               refine Zb ?_
               refine rgc [3,4,5,7,10,14,15,16,22,23,24] 4 ⟨82,[(3,.asl 2 0 (p2.1.length+1)),(4,.val u),(5,.int .i64 p1.2.2),(7,.int .i64 p2.2.2),(10,.int .i64 (p2.1.length:Int)),u1,(15,.int .i64 u2),(16,.int .i64 p1.2.2),(22,sL 12 Zm (a0.Zd.getD p1.2.2.toNat default).Zc),(23,.int .i64 ((a0.Zd.getD p1.2.2.toNat default).Zc.length:Int)),(24,.int .i64 p2.2.2)],[.box u3,mpO u Xo (p2.2.1++[((⟨r,((a0.Zd.getD p1.2.2.toNat default).Zc.getD p2.2.2.toNat default).XI⟩:Xc),(p2.1.length:Int))]),.arr 4 (p2.1.length+1) (app (fun j=>hdDom (p2.1.getD j default)++[.val (v2 j)]) p2.1.length (fun i=>List.take 4 (List.drop (i*4) [.int .u32 r.ZA,.int .i64 r.ZM,.int .i64 ((a0.Zd.getD p1.2.2.toNat default).Zc.getD p2.2.2.toNat default).XI,.sl true 2 0 (fun _=>[])]))),rF 2 XF Zk.Xt p2.1 v2]⟩ [decide ((p2.1.length+1)*48≤140737488355328)] c4 ?_
               refine K5 (Zj8 2 3 hdDom XF Zk.Xt p2.1 (⟨r,((a0.Zd.getD p1.2.2.toNat default).Zc.getD p2.2.2.toNat default).XI,[]⟩:Zk) v2 (by decide) rfl rfl rfl (fun j hj=>Zfr hj) (ZlE.trans rfl)) fun w=>?_
               exact Ud (JQ (.cons (Gb (by simp)) (.cons Sub.rfl (.cons Sub.rfl (.cons Sub.rfl (.cons Sub.rfl (.cons Sub.rfl (.cons Sub.rfl (.cons Sub.rfl (.cons Sub.rfl (.cons Sub.rfl (.cons Sub.rfl .nil))))))))))) HSub.rfl) (hk (p2.1++[(⟨r,((a0.Zd.getD p1.2.2.toNat default).Zc.getD p2.2.2.toNat default).XI,[]⟩:Zk)],(p2.2.1++[((⟨r,((a0.Zd.getD p1.2.2.toNat default).Zc.getD p2.2.2.toNat default).XI⟩:Xc),(p2.1.length:Int))]),(p2.1.length:Int),updV v2 p2.1.length w.1) h12)
             · have h11:=GP b4 h10
               refine Ze ?_
               exact XD (Le.trans (s':=⟨82,[(3,.asl 2 0 p2.1.length),(4,.val u),(5,.int .i64 p1.2.2),(7,.int .i64 p2.2.2),(10,.int .i64 (lkM (topoKeyEq (⟨r,((a0.Zd.getD p1.2.2.toNat default).Zc.getD p2.2.2.toNat default).XI⟩:Xc)) p2.2.1).1),u1,(15,.int .i64 u2),(16,.int .i64 p1.2.2),(22,sL 12 Zm (a0.Zd.getD p1.2.2.toNat default).Zc),(23,.int .i64 ((a0.Zd.getD p1.2.2.toNat default).Zc.length:Int)),(24,.int .i64 p2.2.2)],[.box u3,mpO u Xo p2.2.1,rA 4 hdDom p2.1 v2,rF 2 XF Zk.Xt p2.1 v2,.box (Zm ((a0.Zd.getD p1.2.2.toNat default).Zc.getD p2.2.2.toNat default)),.box (Xo (⟨r,((a0.Zd.getD p1.2.2.toNat default).Zc.getD p2.2.2.toNat default).XI⟩:Xc))]⟩) (kp [3,4,5,7,10,14,15,16,22,23,24]) (U5 (n:=4) (by kernel_rfl))) (hk (p2.1,p2.2.1,(lkM (topoKeyEq (⟨r,((a0.Zd.getD p1.2.2.toNat default).Zc.getD p2.2.2.toNat default).XI⟩:Xc)) p2.2.1).1,v2) h11)
       · have h7:=GP b2 h6
         refine ZX (XC ?_)
         obtain rfl:=Option.some.inj h7
         exact R5 ⟨rfl,LeE.of v2 (kp [3,4,14,15,16])⟩
     · intro e s o
       obtain ⟨rfl,l⟩:=o
       refine Y0 (XO ?_)
       refine K5 l fun v2=>?_
       refine rg0 [3,4,14,15,16] 4 ⟨82,[(3,.asl 2 0 y2.1.length),(4,.val u),u1,(15,.int .i64 u2),(16,.int .i64 (wr .i64 (p1.2.2+1)))],[.box u3,mpO u Xo y2.2,rA 4 hdDom y2.1 v2,rF 2 XF Zk.Xt y2.1 v2]⟩ ?_
       obtain rfl:=Option.some.inj h5
       exact K6 v2 U6
   · have h3:=GP b1 h2
     refine ZX (XC ?_)
     obtain rfl:=Option.some.inj h3
     exact R5 ⟨rfl,LeE.of (v1,p1.2.1) (kp [3])⟩
 · intro e s o
   obtain ⟨rfl,l⟩:=o
   refine Y0 ?_
   refine K5 l fun g=>?_
   refine Za (rg0 [2] 4 ⟨82,[(2,.asl 2 0 y.length)],[.box u3,mpO u Xo g.2,rA 4 hdDom y g.1,rF 2 XF Zk.Xt y g.1]⟩ ?_)
   refine Zb (Zg ?_)
   exact ⟨_,ZjB 2 3 hdDom XF Zk.Xt Z0 y g.1 rfl rfl (fun _=>rfl),.inr rfl,2,2,_,rfl,rfl,rfl,fun _ _=>rfl⟩
theorem KH (a0:Int) (r:Bool) (h:M.Qz a0=some r):Fn Tryz.prog 100 [.int .u32 a0] (.pure (.bool r)):=by
 unfold M.Qz at h
 exact ZT Tryz.func100 rfl (by kernel_rfl) (Za (zg [0] 0 (Zb (Za (zg [2] 0 (Zb (Zg (er1 h))))))))
theorem Zbb (a0:Int) (a1:Int) (r:Int) (h:M.QM a0 a1=some r):Fn Tryz.prog 63 [.int .u32 a0,.int .u32 a1] (.pure (.int .i64 r)):=by
 unfold M.QM at h
 refine ZT Tryz.func63 rfl (by kernel_rfl) (Za (zg [0,1] 0 (Zb (Za ?_))))
 obtain ⟨r1,q1,h2⟩:=bind_some h
 refine zr [0,1,5] 0 Zz (rq1 (KH _ _ q1) rqn) (Zb (Za ?_))
 obtain ⟨r2,q3,h4⟩:=bind_some h2
 refine zr [0,1,5,6] 0 Zz (rq1 (KH _ _ q3) rqn) (Zb (Za (Za (zg [0,1,6,11] 0 (Zb (cn h4 (fun _ h6=>?_) (fun _ h7=>?_)))))))
 refine Za (Za (zg [12] 0 (Zb (cn h6 (fun _ h9=>?_) (fun _ h10=>?_)))))
 exact Za (zg [4] 0 (Zb (Zg (Zh (Zh (er1 h9))))))
 exact Ze (Zb (Za (zg [4] 0 (Zb (Zg (Zh (er1 h10)))))))
 refine Ze (Zb (Za (Za (zg [0,1,13] 0 (Zb (cn h7 (fun _ h12=>?_) (fun _ h13=>?_)))))))
 exact Za (zg [4] 0 (Zb (Zg (Zh (er1 h12)))))
 refine Ze (Zb (Za (Za (zg [0,1,16] 0 (Zb (cn h13 (fun _ h15=>?_) (fun _ h16=>?_)))))))
 exact Za (zg [4] 0 (Zb (Zg (Zh (er1 h15)))))
 refine Ze (Zb (Za (Za (zg [19] 0 (Zb (cn h16 (fun _ h18=>?_) (fun _ h19=>?_)))))))
 exact Za (zg [4] 0 (Zb (Zg (Zh (er1 h18)))))
 exact Ze (Zb (Za (zg [4] 0 (Zb (Zg (er1 h19))))))
theorem Zai (a0:Int) (r:Bool) (h:M.J0 a0=some r):Fn Tryz.prog 64 [.int .i64 a0] (.pure (.bool r)):=by
 unfold M.J0 at h
 exact ZT Tryz.func64 rfl (by kernel_rfl) (Za (zg [0] 0 (Zb (Za (zg [2] 0 (Zb (Zg (er1 h))))))))
theorem K9 (a0:Int) (a1:Int) (r:Int) (h:M.Q4 a0 a1=some r):Fn Tryz.prog 43 [.int .i64 a0,.int .i64 a1] (.pure (.int .i64 r)):=by
 unfold M.Q4 at h
 refine ZT Tryz.func43 rfl (by kernel_rfl) (Za (zg [0,1] 0 (Zb (Za ?_))))
 obtain ⟨r1,q1,h2⟩:=bind_some h
 refine zr [0,1,5] 0 Zz (rq1 (Zai _ _ q1) rqn) (Zb (Za ?_))
 obtain ⟨r2,q3,h4⟩:=bind_some h2
 refine zr [0,1,5,6] 0 Zz (rq1 (Zai _ _ q3) rqn) (Zb (Za (Za (zg [0,1,6,11] 0 (Zb (cn h4 (fun _ h6=>?_) (fun _ h7=>?_)))))))
 refine Za (Za (zg [12] 0 (Zb (cn h6 (fun _ h9=>?_) (fun _ h10=>?_)))))
 exact Za (zg [4] 0 (Zb (Zg (Zh (Zh (er1 h9))))))
 exact Ze (Zb (Za (zg [4] 0 (Zb (Zg (Zh (er1 h10)))))))
 refine Ze (Zb (Za (Za (zg [0,1,13] 0 (Zb (cn h7 (fun _ h12=>?_) (fun _ h13=>?_)))))))
 exact Za (zg [4] 0 (Zb (Zg (Zh (er1 h12)))))
 refine Ze (Zb (Za (Za (zg [0,1,16] 0 (Zb (cn h13 (fun _ h15=>?_) (fun _ h16=>?_)))))))
 exact Za (zg [4] 0 (Zb (Zg (Zh (er1 h15)))))
 refine Ze (Zb (Za (Za (zg [19] 0 (Zb (cn h16 (fun _ h18=>?_) (fun _ h19=>?_)))))))
 exact Za (zg [4] 0 (Zb (Zg (Zh (er1 h18)))))
 exact Ze (Zb (Za (zg [4] 0 (Zb (Zg (er1 h19))))))
theorem Ze1 (a0:ZO) (a1:ZO) (r:Int) (h:M.Wo a0 a1=some r):Fn Tryz.prog 42 [.agg (Z7 a0),.agg (Z7 a1)] (.pure (.int .i64 r)):=by
 unfold M.Wo at h
 refine ZT Tryz.func42 rfl (by kernel_rfl) (Za (zg [2,3] 2 (Zb (Za (Za ?_)))))
 obtain ⟨r1,q1,h2⟩:=bind_some h
 refine zr [2,3,5] 2 Zz (rq1 (Zbb _ _ _ q1) rqn) (Zb (Za (zg [2,3,5,12] 2 (Zb (cn h2 (fun _ h4=>?_) (fun _ h5=>?_))))))
 exact Za (zg [4] 0 (Zb (Zg (Zh (er1 h4)))))
 refine Ze (Zb (Za ?_))
 obtain ⟨r2,q6,h7⟩:=bind_some h5
 exact zr [4] 0 Zz (rq1 (K9 _ _ _ q6) rqn) (Zb (Zg (er1 h7)))
theorem Zgv (a0:List Int) (r:Int) (h:M.W7 a0=some r):Fn Tryz.prog 41 [sL 1 (ci .i64) a0] (.pure (.int .i64 r)):=by
 unfold M.W7 at h
 refine ZT Tryz.func41 rfl (by kernel_rfl) (Za (zg [0] 0 (Zb (Za (zg [0,3] 0 (Zb (Za (Za (zg [3,6,7,8] 0 (Zb (Zj ?_)))))))))))
 obtain ⟨y3,q10,h11⟩:=bind_some h
 refine zl (fun (p1:Int)=>⟨18,[(3,.int .i64 0),(6,sL 1 (ci .i64) a0),(7,.int .i64 (a0.length:Int)),(8,.int .i64 p1)],[]⟩) (Sum.elim (fun z=>OutE 0 (fun z=>⟨18,[(3,.int .i64 0)],[]⟩) z) (fun z=>OutR Tryz.prog Tryz.f41 (.int .i64 z))) q10 ?_ ?_
 intro p1 y2 h1
 unfold M.JJ at h1
 refine Za (zg [3,6,7,8,9] 0 (Zb (Za (cn h1 (fun _ h3=>?_) (fun _ h4=>?_)))))
 refine Ze (Zb (Za (Zj (Za ?_))))
 obtain ⟨c5,h6⟩:=Zy h3
 refine zc [3,5,6,7,8] 0 c5 (Zb (Za (zg [3,5,6,7,8,14] 0 (Zb (cn h6 (fun _ h8=>?_) (fun _ h9=>?_))))))
 exact Za (zg [2] 0 (Zb (Zg (ZE (Zh (rr h8 ⟨rfl,er0 _⟩))))))
 exact Ze (XO (Zb (zg [3,6,7,8] 0 (rn h9))))
 exact ZX (XC (re h4 ⟨rfl,kq⟩))
 intro e12 s13 o14
 rcases y3 with g4 | y5
 have h15:=XY h11
 exact zi o14 (Za (zg [2] 0 (Zb (Zg (er1 h15)))))
 have h16:=XZ h11
 obtain ⟨rfl,n18⟩:=o14
 refine ZE (Zh ?_)
 obtain rfl:=Option.some.inj h16
 exact n18
theorem Ze2 (a0:Zk) (a1:Zk) (r:Int) (h:M.VV a0 a1=some r):Fn Tryz.prog 40 [.agg (Z0 a0),.agg (Z0 a1)] (.pure (.int .i64 r)):=by
 unfold M.VV at h
 refine ZT Tryz.func40 rfl (by kernel_rfl) (Za (zg [2,3] 2 (Zb (Za ?_))))
 obtain ⟨r1,q1,h2⟩:=bind_some h
 obtain ⟨r2,q3,h4⟩:=bind_some h2
 obtain ⟨r3,q5,h6⟩:=bind_some h4
 exact rg [.pure (.int .i64 r1),.pure (.int .i64 r2),.pure (.int .i64 r3)] [4] 0 ⟨17,[(4,.int .i64 r3)],[]⟩ [] [⟨true,42,[.agg (Z7 a0.Zp),.agg (Z7 a1.Zp)],.pure (.int .i64 r1)⟩,⟨true,43,[.int .i64 a0.XI,.int .i64 a1.XI],.pure (.int .i64 r2)⟩,⟨true,41,[.sl false 1 2 (fun i=>List.take 1 (List.drop (i*1) [.int .i64 r1,.int .i64 r2]))],.pure (.int .i64 r3)⟩] Zz ⟨fun _=>Ze1 a0.Zp a1.Zp r1 q1,fun _=>K9 a0.XI a1.XI r2 q3,fun _=>(Zgv ([r1,r2]:List Int) r3 q5).args (.cons (Zfk rfl (fun i hi=>match i,hi with | 0,_=>rfl | 1,_=>rfl | n+2,h=>absurd h (by omega))) .nil),trivial⟩ (Zb (Zg (er1 h6)))
end Nv
namespace Go.Proofs
open Go.Shelf
shelf_lay_g SlLaysF0.n6 Slsf 6 at Tryz 39 as Tryz.sortL39
end Go.Proofs
namespace Nv
open Go Go.Proofs
theorem WO (a0:List Zk) (r:List Zk) (h:M.XJ a0=some r):FnM Tryz.prog 39 [.asl 0 0 a0.length,.fn 40 []] 4 a0.length (fun i=>Z0 (a0.getD i default)) (fun i=>Z0 (r.getD i default)) (.tup []):=by
 obtain ⟨cf,h1,h2,h3,h4,rfl⟩:=Zi0 h
 exact sortFR0 Tryz.sortL39 4 (fun w=>by kernel_rfl) (fun w=>by kernel_rfl) Z0 (fun _=>rfl) (fun _=>rfl) h2 40 (enters_of Tryz.func40 (by kernel_rfl) rfl) (fun x y=>Ze2 x y _ (h1 x y)) a0 h3 h4
theorem Zgw (a0:ZP) (r:Qs × Int) (h:M.Wx a0=some r):Fn Tryz.prog 12 [.agg (Yn a0)] (.pure (.tup [.agg (Zbz r.1),.int .i64 r.2])):=by
 let u3:=Yn a0
 unfold M.Wx at h
 refine ZT Tryz.func12 rfl (by kernel_rfl) (Za (zg [1,2] 2 (Zb (Za (Za ?_)))))
 obtain ⟨r1,q1,h2⟩:=bind_some h
 refine zr [1,2,4] 2 Zz (rq1 (Zgb _ _ q1) rqn) (Zb (Za (zg [1,2,4,12] 2 (Zb (cn h2 (fun _ h4=>?_) (fun _ h5=>?_))))))
 refine Za (zg [2,3] 2 (Zb (Zg (Zh ?_))))
 obtain rfl:=Option.some.inj h4
 exact er (.tup [.agg [.sl false 4 0 (fun _=>[]),.sl false 1 0 (fun _=>[])],.int .i64 r1]) (KL (.cons (KZ (.cons Vt (.cons Vt .nil))) (.cons ASub.rfl .nil)))
 refine Ze (Zb (Za ?_))
 obtain ⟨r2,q6,h7⟩:=bind_some h5
 refine rg [oL 4 Z0 r2] [2,5] 3 ⟨45,[(2,.ref 1 0),(5,.asl 2 0 r2.length)],[.box u3,.box [.sl true 4 0 (fun _=>[]),.sl true 1 0 (fun _=>[])],aL 4 Z0 r2]⟩ [] [⟨true,38,[.agg u3],oL 4 Z0 r2⟩] Zz ⟨fun _=>Zev a0 r2 q6,trivial⟩ (Zb (Za ?_))
 obtain ⟨r3,q8,h9⟩:=bind_some h7
 let u1:List Ob:=[.box u3,.box [.sl true 4 0 (fun _=>[]),.sl true 1 0 (fun _=>[])],aL 4 Z0 ([]:List Zk),.box [sL 4 Z0 r3,.sl true 1 0 (fun _=>[])]]
 let u4:Nat × D:=(21,sL 4 Z0 r3)
 let u5:=(r3.length:Int)
 obtain ⟨c10,h11⟩:=Zy h9
 refine rg [.lnd 0 0 (fun _=>[]) (fun i=>Z0 (r3.getD i default)) (.tup [])] [2,5] 3 ⟨45,[(2,.ref 1 0),(5,.asl 2 0 r2.length)],[.box u3,.box [.sl true 4 0 (fun _=>[]),.sl true 1 0 (fun _=>[])],.arr 4 r2.length (fun i=>Z0 (r3.getD i default))]⟩ [] [⟨true,39,[.asl 0 0 r2.length,.fn 40 []],.lnd 4 r2.length (fun i=>Z0 (r2.getD i default)) (fun i=>Z0 (r3.getD i default)) (.tup [])⟩] Zz ⟨fun _=>WO r2 r3 q8,trivial⟩ (XD (s':=⟨45,[(2,.ref 1 0),(5,.asl 2 0 r3.length)],[.box u3,.box [.sl true 4 0 (fun _=>[]),.sl true 1 0 (fun _=>[])],aL 4 Z0 r3]⟩) (JQ (.cons Sub.rfl (.cons (Gb (Zk7 (c10 _ List.mem_cons_self))) .nil)) (.cons .rfl (.cons .rfl (.cons (.arr (Zk7 (c10 _ List.mem_cons_self)) (fun _ _=>rfl)) .nil)))) (Za (Ud (s':=⟨45,[(2,.ref 1 0),(5,sL 4 Z0 r3)],[.box u3,.box [.sl true 4 0 (fun _=>[]),.sl true 1 0 (fun _=>[])],aL 4 Z0 ([]:List Zk)]⟩) (Le.trans (Zhi 5 2 4 Z0 r3 (fun i=>Z0 (([]:List Zk).getD i default)) (by kernel_rfl) (by kernel_rfl) (by kernel_rfl)) (kp [2,5])) (zg [2,5,6] 4 (Zb (Za (Za (rg0 [2,6,21,22,23] 4 ⟨45,[(2,.ref 1 0),(6,.ref 3 0),u4,(22,.int .i64 u5),(23,.int .i64 0)],u1⟩ (Zb (Zj (Ud (s':=⟨45,[(2,.ref 1 0),(6,.ref 3 0),u4,(22,.int .i64 u5),(23,.int .i64 0)],u1⟩) (U6) (Ud (s':=⟨45,[(2,.ref 1 0),(6,.ref 3 0),u4,(22,.int .i64 u5),(23,.int .i64 0)],[.box u3,.box [.sl true 4 0 (fun _=>[]),.sl true 1 0 (fun _=>[])],aL 4 Z0 ([]:List Zk),.box [sL 4 Z0 r3,.asl 4 0 (([]:List Int).length)],aL 1 (ci .i64) ([]:List Int)]⟩) (Zf0 (nt:=45) (e:=[(2,.ref 1 0),(6,.ref 3 0),u4,(22,.int .i64 u5),(23,.int .i64 0)]) (H:=u1) (cells:=[sL 4 Z0 r3,.sl true 1 0 (fun _=>[])]) (wd:=1) (f:=fun _=>[]) 3 1 rfl rfl 1 (fun i=>(ci .i64) (([]:List Int).getD i default))) ?_))))))))))))
 obtain ⟨y8,q28,h29⟩:=bind_some h11
 let u2:List (Nat × D):=[(2,.ref 1 0),(6,.ref 3 0),(42,.bool (decide ((y8.length:Int) > 12)))]
 refine zl (fun (p5:(List Int) × Int)=>⟨45,[(2,.ref 1 0),(6,.ref 3 0),u4,(22,.int .i64 u5),(23,.int .i64 p5.2)],[.box u3,.box [.sl true 4 0 (fun _=>[]),.sl true 1 0 (fun _=>[])],aL 4 Z0 ([]:List Zk),.box [sL 4 Z0 r3,.asl 4 0 p5.1.length],aL 1 (ci .i64) p5.1]⟩) (fun z=>OutE 0 (fun z=>⟨45,[(2,.ref 1 0),(6,.ref 3 0)],[.box u3,.box [.sl true 4 0 (fun _=>[]),.sl true 1 0 (fun _=>[])],aL 4 Z0 ([]:List Zk),.box [sL 4 Z0 r3,.asl 4 0 z.length],aL 1 (ci .i64) z]⟩) z) q28 ?_ ?_
 intro p5 y6 h15
 let u6:=p5.1.length+1
 unfold M.Vm at h15
 refine Za (rg0 [2,6,21,22,23,24] 5 ⟨45,[(2,.ref 1 0),(6,.ref 3 0),u4,(22,.int .i64 u5),(23,.int .i64 p5.2),(24,.bool (decide (p5.2 < u5)))],[.box u3,.box [.sl true 4 0 (fun _=>[]),.sl true 1 0 (fun _=>[])],aL 4 Z0 ([]:List Zk),.box [sL 4 Z0 r3,.asl 4 0 p5.1.length],aL 1 (ci .i64) p5.1]⟩ (Zb (Za (cn h15 (fun _ h17=>?_) (fun _ h18=>?_)))))
 refine Ze (Zb (Uh (fun (p7:(List Int))=>⟨45,[(2,.ref 1 0),(6,.ref 3 0),u4,(22,.int .i64 u5),(23,.int .i64 p5.2)],[.box u3,.box [.sl true 4 0 (fun _=>[]),.sl true 1 0 (fun _=>[])],aL 4 Z0 ([]:List Zk),.box [sL 4 Z0 r3,.asl 4 0 p7.length],aL 1 (ci .i64) p7]⟩) (fun p7=>M.J1 p5 p7=some y6) ?_ ?_))
 intro p7 h20
 unfold M.J1 at h20
 exact zg [2,6,21,22,23] 5 (rn h20)
 intro k19
 refine Zj (Za ?_)
 obtain ⟨c21,h22⟩:=Zy h17
 refine zc [2,6,7,8,21,22,23] 6 c21 (Zb (Za (zg [2,6,7,21,22,23,31] 5 (Zb (cn h22 (fun _ h24=>?_) (fun _ h25=>?_))))))
 obtain ⟨c26,h27⟩:=Zy h24
 exact rgc [2,6,21,22,23] 5 ⟨45,[(2,.ref 1 0),(6,.ref 3 0),u4,(22,.int .i64 u5),(23,.int .i64 p5.2)],[.box u3,.box [.sl true 4 0 (fun _=>[]),.sl true 1 0 (fun _=>[])],aL 4 Z0 ([]:List Zk),.box [sL 4 Z0 r3,.asl 4 0 u6],.arr 1 u6 (app (fun i=>(ci .i64) (p5.1.getD i default)) p5.1.length (fun i=>List.take 1 (List.drop (i*1) [.int .i64 p5.2])))]⟩ [decide (u6*8≤140737488355328)] c26 (XO (XD (JQ (.cons Sub.rfl (.cons Sub.rfl (.cons Sub.rfl (.cons Sub.rfl (.cons Sub.rfl .nil))))) (.cons .rfl (.cons .rfl (.cons .rfl (.cons (.box (.cons CSub.rfl (.cons (K7 (GM _ _)) .nil))) (.cons (.arr (GM _ _) (K0 (ci .i64) p5.1 p5.2 _ rfl)) .nil)))))) (k19 (p5.1++[p5.2]) h27)))
 exact Ze (XO (XD kq (k19 p5.1 h25)))
 exact ZX (XC (re h18 ⟨rfl,kq⟩))
 intro e30 s31 o32
 refine zi o32 (Za (Za (rg0 [2,6,42] 5 ⟨45,u2,[.box u3,.box [.sl true 4 0 (fun _=>[]),.sl true 1 0 (fun _=>[])],aL 4 Z0 ([]:List Zk),.box [sL 4 Z0 r3,.asl 4 0 y8.length],aL 1 (ci .i64) y8]⟩ (Zb (cn h29 (fun _ h35=>?_) (fun _ h36=>?_))))))
 refine Za (zg [2,3] 2 (Zb (Zg (Zh ?_))))
 obtain rfl:=Option.some.inj h35
 exact er (.tup [.agg [.sl false 4 0 (fun _=>[]),.sl false 1 0 (fun _=>[])],.int .i64 7]) (KL (.cons (KZ (.cons Vt (.cons Vt .nil))) (.cons ASub.rfl .nil)))
 refine Ze (Zb (Za (Ud (s':=⟨45,u2,[.box u3,.box [.sl true 4 0 (fun _=>[]),.sl true 1 0 (fun _=>[])],aL 4 Z0 ([]:List Zk),.box [sL 4 Z0 r3,.sl false 1 y8.length (fun k=>(fun i=>(ci .i64) (y8.getD i default)) (0+k))],aL 1 (ci .i64) ([]:List Int)]⟩) (Le.trans ((Zc5 (s:=⟨45,u2,[.box u3,.box [.sl true 4 0 (fun _=>[]),.sl true 1 0 (fun _=>[])],aL 4 Z0 ([]:List Zk),.box [sL 4 Z0 r3,.asl 4 0 y8.length],aL 1 (ci .i64) y8]⟩) (s':=⟨45,u2,[.box u3,.box [.sl true 4 0 (fun _=>[]),.sl true 1 0 (fun _=>[])],aL 4 Z0 ([]:List Zk),.box [sL 4 Z0 r3,.sl false 1 y8.length (fun k=>(fun i=>(ci .i64) (y8.getD i default)) (0+k))],aL 1 (ci .i64) ([]:List Int)]⟩) 4 1 y8.length (fun i=>(ci .i64) (y8.getD i default)) (fun i=>(ci .i64) (([]:List Int).getD i default)) (by kernel_rfl) (by kernel_rfl) (by kernel_rfl))) (kp [2,6,42])) (rg0 [2,3] 2 ⟨45,[(2,.ref 1 0),(3,.int .i64 0)],[.box u3,.box [sL 4 Z0 r3,.sl false 1 y8.length (fun k=>(fun i=>(ci .i64) (y8.getD i default)) (0+k))]]⟩ (XD (s':=⟨45,[(2,.ref 1 0),(3,.int .i64 0)],[.box u3,.box [sL 4 Z0 r3,sL 1 (ci .i64) y8]]⟩) (JQ (.cons Sub.rfl (.cons Sub.rfl .nil)) (.cons .rfl (.cons (.box (.cons CSub.rfl (.cons (KK rfl (Zaz (f:=fun i=>(ci .i64) (y8.getD i default)) (fun _ _=>rfl))) .nil))) .nil))) (Zg ?_))))))
 obtain rfl:=Option.some.inj h36
 exact er0 (.tup [.agg [sL 4 Z0 r3,sL 1 (ci .i64) y8],.int .i64 0])
theorem Gp (a0:List Zf) (r:List Zf) (h:M.XR a0=some r):Fn Tryz.prog 68 [sL 25 ZB a0] (oL 25 ZB r):=by
 unfold M.XR at h
 obtain ⟨hc,h1⟩:=Zy h
 obtain rfl:=Option.some.inj h1
 refine Zc3 Tryz.func68 rfl (by kernel_rfl) (Gi ?_)
 refine Za (rg0 [0] 0 ⟨8,[(0,sL 25 ZB a0)],[]⟩ ?_)
 refine Zb (Za (Za (rg0 [0,4] 0 ⟨8,[(0,sL 25 ZB a0),(4,.nilq a0.length)],[]⟩ ?_)))
 refine Zb (nq a0.length (fun hz=>?_) ?_)
 refine Za (rg0 [2] 0 ⟨8,[(2,.sl true 25 0 (fun _=>[]))],[]⟩ ?_)
 refine Zb (Zg (Zh ?_))
 obtain rfl:=List.eq_nil_of_length_eq_zero hz
 exact ⟨_,Zaw (wd:=25) (f:=fun _=>[]) 2 (by kernel_rfl) 25 (fun i=>ZB (([]:List Zf).getD i default)),.inr rfl,2,0,_,rfl,rfl,rfl,fun _ _=>rfl⟩
 refine Ze (Zb (Za (rgc [2] 1 ⟨8,[(2,.asl 0 0 (0+a0.length))],[.arr 25 (0+a0.length) (app (fun i=>List.take 25 (List.drop (i*25) [])) 0 (fun i=>ZB (a0.getD i default)))]⟩ [decide (0=0)||decide (0 < a0.length),decide ((0+a0.length)*448≤140737488355328)] hc ?_)))
 refine Zb (Zg ?_)
 exact ⟨⟨8,[(2,.asl 0 0 a0.length)],[aL 25 ZB a0]⟩,JQ (.cons (Gb (Nat.zero_add _)) .nil) (.cons (.arr (Nat.zero_add _) (Ua ZB _ a0 _ (fun _ _=>rfl))) .nil),.inr rfl,2,0,_,rfl,rfl,rfl,fun _ _=>rfl⟩
theorem UM (a0:List Zx) (r:List Zx) (h:M.Xy a0=some r):Fn Tryz.prog 113 [sL 12 Zm a0] (oL 12 Zm r):=by
 unfold M.Xy at h
 obtain ⟨hc,h1⟩:=Zy h
 obtain rfl:=Option.some.inj h1
 refine Zc3 Tryz.func113 rfl (by kernel_rfl) (Gi ?_)
 refine Za (rg0 [0] 0 ⟨8,[(0,sL 12 Zm a0)],[]⟩ ?_)
 refine Zb (Za (Za (rg0 [0,4] 0 ⟨8,[(0,sL 12 Zm a0),(4,.nilq a0.length)],[]⟩ ?_)))
 refine Zb (nq a0.length (fun hz=>?_) ?_)
 refine Za (rg0 [2] 0 ⟨8,[(2,.sl true 12 0 (fun _=>[]))],[]⟩ ?_)
 refine Zb (Zg (Zh ?_))
 obtain rfl:=List.eq_nil_of_length_eq_zero hz
 exact ⟨_,Zaw (wd:=12) (f:=fun _=>[]) 2 (by kernel_rfl) 12 (fun i=>Zm (([]:List Zx).getD i default)),.inr rfl,2,0,_,rfl,rfl,rfl,fun _ _=>rfl⟩
 refine Ze (Zb (Za (rgc [2] 1 ⟨8,[(2,.asl 0 0 (0+a0.length))],[.arr 12 (0+a0.length) (app (fun i=>List.take 12 (List.drop (i*12) [])) 0 (fun i=>Zm (a0.getD i default)))]⟩ [decide (0=0)||decide (0 < a0.length),decide ((0+a0.length)*112≤140737488355328)] hc ?_)))
 refine Zb (Zg ?_)
 exact ⟨⟨8,[(2,.asl 0 0 a0.length)],[aL 12 Zm a0]⟩,JQ (.cons (Gb (Nat.zero_add _)) .nil) (.cons (.arr (Nat.zero_add _) (Ua Zm _ a0 _ (fun _ _=>rfl))) .nil),.inr rfl,2,0,_,rfl,rfl,rfl,fun _ _=>rfl⟩
theorem Ux (a0:List ZD) (r:List ZD) (h:M.Xr a0=some r):Fn Tryz.prog 114 [sL 2 Zu a0] (oL 2 Zu r):=by
 unfold M.Xr at h
 obtain ⟨hc,h1⟩:=Zy h
 obtain rfl:=Option.some.inj h1
 refine Zc3 Tryz.func114 rfl (by kernel_rfl) (Gi ?_)
 refine Za (rg0 [0] 0 ⟨8,[(0,sL 2 Zu a0)],[]⟩ ?_)
 refine Zb (Za (Za (rg0 [0,4] 0 ⟨8,[(0,sL 2 Zu a0),(4,.nilq a0.length)],[]⟩ ?_)))
 refine Zb (nq a0.length (fun hz=>?_) ?_)
 refine Za (rg0 [2] 0 ⟨8,[(2,.sl true 2 0 (fun _=>[]))],[]⟩ ?_)
 refine Zb (Zg (Zh ?_))
 obtain rfl:=List.eq_nil_of_length_eq_zero hz
 exact ⟨_,Zaw (wd:=2) (f:=fun _=>[]) 2 (by kernel_rfl) 2 (fun i=>Zu (([]:List ZD).getD i default)),.inr rfl,2,0,_,rfl,rfl,rfl,fun _ _=>rfl⟩
 refine Ze (Zb (Za (rgc [2] 1 ⟨8,[(2,.asl 0 0 (0+a0.length))],[.arr 2 (0+a0.length) (app (fun i=>List.take 2 (List.drop (i*2) [])) 0 (fun i=>Zu (a0.getD i default)))]⟩ [decide (0=0)||decide (0 < a0.length),decide ((0+a0.length)*40≤140737488355328)] hc ?_)))
 refine Zb (Zg ?_)
 exact ⟨⟨8,[(2,.asl 0 0 a0.length)],[aL 2 Zu a0]⟩,JQ (.cons (Gb (Nat.zero_add _)) .nil) (.cons (.arr (Nat.zero_add _) (Ua Zu _ a0 _ (fun _ _=>rfl))) .nil),.inr rfl,2,0,_,rfl,rfl,rfl,fun _ _=>rfl⟩
theorem Uz (a0:List Vy) (r:List Vy) (h:M.Xs a0=some r):Fn Tryz.prog 115 [sL 5 Vh a0] (.pure (sL 5 Vh r)):=by
 unfold M.Xs at h
 obtain ⟨hc,h1⟩:=Zy h
 obtain rfl:=Option.some.inj h1
 refine ZT Tryz.func115 rfl (by kernel_rfl) (Za (zg [0] 0 (Zb (Za (Za (zg [0,4] 0 (Zb (nq a0.length (fun hz=>?_) ?_))))))))
 exact Za (zg [2] 0 (Zb (Zg (Zh (er (.sl false 5 0 (fun _=>[])) (U1 hz))))))
 exact Ze (Zb (Za (zc [2] 1 hc (Zb (Zg (er (.sl false 5 (0+a0.length) (fun i=>(app (fun i=>List.take 5 (List.drop (i*5) [])) 0 (fun i=>Vh (a0.getD i default))) (0+i))) (W0 (Nat.zero_add _) (fun i hi=>by rw [Nat.zero_add]; exact Ua Vh _ a0 _ (fun _ _=>rfl) i hi))))))))
theorem UW (a0:List Xw) (r:List Xw) (h:M.XG a0=some r):Fn Tryz.prog 116 [sL 2 ZN a0] (oL 2 ZN r):=by
 unfold M.XG at h
 obtain ⟨hc,h1⟩:=Zy h
 obtain rfl:=Option.some.inj h1
 refine Zc3 Tryz.func116 rfl (by kernel_rfl) (Gi ?_)
 refine Za (rg0 [0] 0 ⟨8,[(0,sL 2 ZN a0)],[]⟩ ?_)
 refine Zb (Za (Za (rg0 [0,4] 0 ⟨8,[(0,sL 2 ZN a0),(4,.nilq a0.length)],[]⟩ ?_)))
 refine Zb (nq a0.length (fun hz=>?_) ?_)
 refine Za (rg0 [2] 0 ⟨8,[(2,.sl true 2 0 (fun _=>[]))],[]⟩ ?_)
 refine Zb (Zg (Zh ?_))
 obtain rfl:=List.eq_nil_of_length_eq_zero hz
 exact ⟨_,Zaw (wd:=2) (f:=fun _=>[]) 2 (by kernel_rfl) 2 (fun i=>ZN (([]:List Xw).getD i default)),.inr rfl,2,0,_,rfl,rfl,rfl,fun _ _=>rfl⟩
 refine Ze (Zb (Za (rgc [2] 1 ⟨8,[(2,.asl 0 0 (0+a0.length))],[.arr 2 (0+a0.length) (app (fun i=>List.take 2 (List.drop (i*2) [])) 0 (fun i=>ZN (a0.getD i default)))]⟩ [decide (0=0)||decide (0 < a0.length),decide ((0+a0.length)*40≤140737488355328)] hc ?_)))
 refine Zb (Zg ?_)
 exact ⟨⟨8,[(2,.asl 0 0 a0.length)],[aL 2 ZN a0]⟩,JQ (.cons (Gb (Nat.zero_add _)) .nil) (.cons (.arr (Nat.zero_add _) (Ua ZN _ a0 _ (fun _ _=>rfl))) .nil),.inr rfl,2,0,_,rfl,rfl,rfl,fun _ _=>rfl⟩
theorem Gx (a0:List Ub) (r:List Ub) (h:M.XS a0=some r):Fn Tryz.prog 117 [sL 7 Ug a0] (.pure (sL 7 Ug r)):=by
 unfold M.XS at h
 obtain ⟨hc,h1⟩:=Zy h
 obtain rfl:=Option.some.inj h1
 refine ZT Tryz.func117 rfl (by kernel_rfl) (Za (zg [0] 0 (Zb (Za (Za (zg [0,4] 0 (Zb (nq a0.length (fun hz=>?_) ?_))))))))
 exact Za (zg [2] 0 (Zb (Zg (Zh (er (.sl false 7 0 (fun _=>[])) (U1 hz))))))
 exact Ze (Zb (Za (zc [2] 1 hc (Zb (Zg (er (.sl false 7 (0+a0.length) (fun i=>(app (fun i=>List.take 7 (List.drop (i*7) [])) 0 (fun i=>Ug (a0.getD i default))) (0+i))) (W0 (Nat.zero_add _) (fun i hi=>by rw [Nat.zero_add]; exact Ua Ug _ a0 _ (fun _ _=>rfl) i hi))))))))
theorem Kh (a0:List V2) (r:List V2) (h:M.Yc a0=some r):Fn Tryz.prog 118 [sL 2 Yr a0] (oL 2 Yr r):=by
 unfold M.Yc at h
 obtain ⟨hc,h1⟩:=Zy h
 obtain rfl:=Option.some.inj h1
 refine Zc3 Tryz.func118 rfl (by kernel_rfl) (Gi ?_)
 refine Za (rg0 [0] 0 ⟨8,[(0,sL 2 Yr a0)],[]⟩ ?_)
 refine Zb (Za (Za (rg0 [0,4] 0 ⟨8,[(0,sL 2 Yr a0),(4,.nilq a0.length)],[]⟩ ?_)))
 refine Zb (nq a0.length (fun hz=>?_) ?_)
 refine Za (rg0 [2] 0 ⟨8,[(2,.sl true 2 0 (fun _=>[]))],[]⟩ ?_)
 refine Zb (Zg (Zh ?_))
 obtain rfl:=List.eq_nil_of_length_eq_zero hz
 exact ⟨_,Zaw (wd:=2) (f:=fun _=>[]) 2 (by kernel_rfl) 2 (fun i=>Yr (([]:List V2).getD i default)),.inr rfl,2,0,_,rfl,rfl,rfl,fun _ _=>rfl⟩
 refine Ze (Zb (Za (rgc [2] 1 ⟨8,[(2,.asl 0 0 (0+a0.length))],[.arr 2 (0+a0.length) (app (fun i=>List.take 2 (List.drop (i*2) [])) 0 (fun i=>Yr (a0.getD i default)))]⟩ [decide (0=0)||decide (0 < a0.length),decide ((0+a0.length)*40≤140737488355328)] hc ?_)))
 refine Zb (Zg ?_)
 exact ⟨⟨8,[(2,.asl 0 0 a0.length)],[aL 2 Yr a0]⟩,JQ (.cons (Gb (Nat.zero_add _)) .nil) (.cons (.arr (Nat.zero_add _) (Ua Yr _ a0 _ (fun _ _=>rfl))) .nil),.inr rfl,2,0,_,rfl,rfl,rfl,fun _ _=>rfl⟩
theorem G3 (a0:List Kb) (r:List Kb) (h:M.X6 a0=some r):Fn Tryz.prog 119 [sL 10 Gs a0] (.pure (sL 10 Gs r)):=by
 unfold M.X6 at h
 obtain ⟨hc,h1⟩:=Zy h
 obtain rfl:=Option.some.inj h1
 refine ZT Tryz.func119 rfl (by kernel_rfl) (Za (zg [0] 0 (Zb (Za (Za (zg [0,4] 0 (Zb (nq a0.length (fun hz=>?_) ?_))))))))
 exact Za (zg [2] 0 (Zb (Zg (Zh (er (.sl false 10 0 (fun _=>[])) (U1 hz))))))
 exact Ze (Zb (Za (zc [2] 1 hc (Zb (Zg (er (.sl false 10 (0+a0.length) (fun i=>(app (fun i=>List.take 10 (List.drop (i*10) [])) 0 (fun i=>Gs (a0.getD i default))) (0+i))) (W0 (Nat.zero_add _) (fun i hi=>by rw [Nat.zero_add]; exact Ua Gs _ a0 _ (fun _ _=>rfl) i hi))))))))
theorem Uo (a0:List YX) (r:List YX) (h:M.Xk a0=some r):Fn Tryz.prog 120 [sL 9 Z2 a0] (.pure (sL 9 Z2 r)):=by
 unfold M.Xk at h
 obtain ⟨hc,h1⟩:=Zy h
 obtain rfl:=Option.some.inj h1
 refine ZT Tryz.func120 rfl (by kernel_rfl) (Za (zg [0] 0 (Zb (Za (Za (zg [0,4] 0 (Zb (nq a0.length (fun hz=>?_) ?_))))))))
 exact Za (zg [2] 0 (Zb (Zg (Zh (er (.sl false 9 0 (fun _=>[])) (U1 hz))))))
 exact Ze (Zb (Za (zc [2] 1 hc (Zb (Zg (er (.sl false 9 (0+a0.length) (fun i=>(app (fun i=>List.take 9 (List.drop (i*9) [])) 0 (fun i=>Z2 (a0.getD i default))) (0+i))) (W0 (Nat.zero_add _) (fun i hi=>by rw [Nat.zero_add]; exact Ua Z2 _ a0 _ (fun _ _=>rfl) i hi))))))))
theorem Up (a0:List Yh) (r:List Yh) (h:M.Xl a0=some r):Fn Tryz.prog 121 [sL 7 ZS a0] (.pure (sL 7 ZS r)):=by
 unfold M.Xl at h
 obtain ⟨hc,h1⟩:=Zy h
 obtain rfl:=Option.some.inj h1
 refine ZT Tryz.func121 rfl (by kernel_rfl) (Za (zg [0] 0 (Zb (Za (Za (zg [0,4] 0 (Zb (nq a0.length (fun hz=>?_) ?_))))))))
 exact Za (zg [2] 0 (Zb (Zg (Zh (er (.sl false 7 0 (fun _=>[])) (U1 hz))))))
 exact Ze (Zb (Za (zc [2] 1 hc (Zb (Zg (er (.sl false 7 (0+a0.length) (fun i=>(app (fun i=>List.take 7 (List.drop (i*7) [])) 0 (fun i=>ZS (a0.getD i default))) (0+i))) (W0 (Nat.zero_add _) (fun i hi=>by rw [Nat.zero_add]; exact Ua ZS _ a0 _ (fun _ _=>rfl) i hi))))))))
theorem UN (a0:List Wf) (r:List Wf) (h:M.Xz a0=some r):Fn Tryz.prog 122 [sL 3 Xg a0] (.pure (sL 3 Xg r)):=by
 unfold M.Xz at h
 obtain ⟨hc,h1⟩:=Zy h
 obtain rfl:=Option.some.inj h1
 refine ZT Tryz.func122 rfl (by kernel_rfl) (Za (zg [0] 0 (Zb (Za (Za (zg [0,4] 0 (Zb (nq a0.length (fun hz=>?_) ?_))))))))
 exact Za (zg [2] 0 (Zb (Zg (Zh (er (.sl false 3 0 (fun _=>[])) (U1 hz))))))
 exact Ze (Zb (Za (zc [2] 1 hc (Zb (Zg (er (.sl false 3 (0+a0.length) (fun i=>(app (fun i=>List.take 3 (List.drop (i*3) [])) 0 (fun i=>Xg (a0.getD i default))) (0+i))) (W0 (Nat.zero_add _) (fun i hi=>by rw [Nat.zero_add]; exact Ua Xg _ a0 _ (fun _ _=>rfl) i hi))))))))
theorem Vr (a0:List YB) (r:List YB) (h:M.Xa a0=some r):Fn Tryz.prog 123 [sL 5 Zv a0] (.pure (sL 5 Zv r)):=by
 unfold M.Xa at h
 obtain ⟨hc,h1⟩:=Zy h
 obtain rfl:=Option.some.inj h1
 refine ZT Tryz.func123 rfl (by kernel_rfl) (Za (zg [0] 0 (Zb (Za (Za (zg [0,4] 0 (Zb (nq a0.length (fun hz=>?_) ?_))))))))
 exact Za (zg [2] 0 (Zb (Zg (Zh (er (.sl false 5 0 (fun _=>[])) (U1 hz))))))
 exact Ze (Zb (Za (zc [2] 1 hc (Zb (Zg (er (.sl false 5 (0+a0.length) (fun i=>(app (fun i=>List.take 5 (List.drop (i*5) [])) 0 (fun i=>Zv (a0.getD i default))) (0+i))) (W0 (Nat.zero_add _) (fun i hi=>by rw [Nat.zero_add]; exact Ua Zv _ a0 _ (fun _ _=>rfl) i hi))))))))
theorem U3 (a0:List VH) (r:List VH) (h:M.XH a0=some r):Fn Tryz.prog 124 [sL 4 Xq a0] (.pure (sL 4 Xq r)):=by
 unfold M.XH at h
 obtain ⟨hc,h1⟩:=Zy h
 obtain rfl:=Option.some.inj h1
 refine ZT Tryz.func124 rfl (by kernel_rfl) (Za (zg [0] 0 (Zb (Za (Za (zg [0,4] 0 (Zb (nq a0.length (fun hz=>?_) ?_))))))))
 exact Za (zg [2] 0 (Zb (Zg (Zh (er (.sl false 4 0 (fun _=>[])) (U1 hz))))))
 exact Ze (Zb (Za (zc [2] 1 hc (Zb (Zg (er (.sl false 4 (0+a0.length) (fun i=>(app (fun i=>List.take 4 (List.drop (i*4) [])) 0 (fun i=>Xq (a0.getD i default))) (0+i))) (W0 (Nat.zero_add _) (fun i hi=>by rw [Nat.zero_add]; exact Ua Xq _ a0 _ (fun _ _=>rfl) i hi))))))))
theorem Gy (a0:List ZO) (r:List ZO) (h:M.XT a0=some r):Fn Tryz.prog 125 [sL 2 Z7 a0] (.pure (sL 2 Z7 r)):=by
 unfold M.XT at h
 obtain ⟨hc,h1⟩:=Zy h
 obtain rfl:=Option.some.inj h1
 refine ZT Tryz.func125 rfl (by kernel_rfl) (Za (zg [0] 0 (Zb (Za (Za (zg [0,4] 0 (Zb (nq a0.length (fun hz=>?_) ?_))))))))
 exact Za (zg [2] 0 (Zb (Zg (Zh (er (.sl false 2 0 (fun _=>[])) (U1 hz))))))
 exact Ze (Zb (Za (zc [2] 1 hc (Zb (Zg (er (.sl false 2 (0+a0.length) (fun i=>(app (fun i=>List.take 2 (List.drop (i*2) [])) 0 (fun i=>Z7 (a0.getD i default))) (0+i))) (W0 (Nat.zero_add _) (fun i hi=>by rw [Nat.zero_add]; exact Ua Z7 _ a0 _ (fun _ _=>rfl) i hi))))))))
theorem UO (a0:List Wg) (r:List Wg) (h:M.XA a0=some r):Fn Tryz.prog 126 [sL 3 Xh a0] (.pure (sL 3 Xh r)):=by
 unfold M.XA at h
 obtain ⟨hc,h1⟩:=Zy h
 obtain rfl:=Option.some.inj h1
 refine ZT Tryz.func126 rfl (by kernel_rfl) (Za (zg [0] 0 (Zb (Za (Za (zg [0,4] 0 (Zb (nq a0.length (fun hz=>?_) ?_))))))))
 exact Za (zg [2] 0 (Zb (Zg (Zh (er (.sl false 3 0 (fun _=>[])) (U1 hz))))))
 exact Ze (Zb (Za (zc [2] 1 hc (Zb (Zg (er (.sl false 3 (0+a0.length) (fun i=>(app (fun i=>List.take 3 (List.drop (i*3) [])) 0 (fun i=>Xh (a0.getD i default))) (0+i))) (W0 (Nat.zero_add _) (fun i hi=>by rw [Nat.zero_add]; exact Ua Xh _ a0 _ (fun _ _=>rfl) i hi))))))))
theorem UP (a0:List Wh) (r:List Wh) (h:M.XB a0=some r):Fn Tryz.prog 127 [sL 5 Xe a0] (.pure (sL 5 Xe r)):=by
 unfold M.XB at h
 obtain ⟨hc,h1⟩:=Zy h
 obtain rfl:=Option.some.inj h1
 refine ZT Tryz.func127 rfl (by kernel_rfl) (Za (zg [0] 0 (Zb (Za (Za (zg [0,4] 0 (Zb (nq a0.length (fun hz=>?_) ?_))))))))
 exact Za (zg [2] 0 (Zb (Zg (Zh (er (.sl false 5 0 (fun _=>[])) (U1 hz))))))
 exact Ze (Zb (Za (zc [2] 1 hc (Zb (Zg (er (.sl false 5 (0+a0.length) (fun i=>(app (fun i=>List.take 5 (List.drop (i*5) [])) 0 (fun i=>Xe (a0.getD i default))) (0+i))) (W0 (Nat.zero_add _) (fun i hi=>by rw [Nat.zero_add]; exact Ua Xe _ a0 _ (fun _ _=>rfl) i hi))))))))
theorem Zdk (a0:Zf) (r:Zf) (h:M.JX a0=some r):Fn Tryz.prog 69 [.agg (ZB a0)] (.pure (.agg (ZB r))):=by
 let u1:List (Nat × D):=[(1,.ref 0 0),(2,.ref 1 0)]
 unfold M.JX at h
 refine ZT Tryz.func69 rfl (by kernel_rfl) (Za (zg [1,2] 2 (Zb (Za ?_))))
 obtain ⟨r1,q1,h2⟩:=bind_some h
 refine rg [oL 12 Zm r1] [1,2] 3 ⟨136,u1,[.box [.str a0.ZH,.int .i64 a0.GC,.asl 2 0 r1.length,sL 2 Zu a0.Xi,sL 2 ZN a0.Z9,sL 2 Yr a0.XK,sL 9 Z2 a0.Xf,sL 7 ZS a0.Zr,.bool a0.X5.Vz,.int .i64 a0.X5.Xd,sL 3 Xg a0.X5.ZF,sL 5 Zv a0.X5.Zs,.bool a0.Ye.Vz,.int .i64 a0.Ye.Xd,.str a0.Ye.VE,.str a0.Ye.YH,sL 5 Zv a0.Ye.Zs,.bool a0.Z8.Vz,.int .i64 a0.Z8.XM,.int .i64 a0.Z8.XN,sL 4 Xq a0.Z8.Zl,sL 2 Z7 a0.Z8.Zt,sL 3 Xh a0.Z8.Zq,sL 5 Xe a0.Z8.Zn,sL 5 Zv a0.Z8.Zs],.box [.str (⟨#[]⟩:ByteArray),.int .i64 0,.sl true 12 0 (fun _=>[]),.sl true 2 0 (fun _=>[]),.sl true 2 0 (fun _=>[]),.sl true 2 0 (fun _=>[]),.sl true 9 0 (fun _=>[]),.sl true 7 0 (fun _=>[]),.bool false,.int .i64 0,.sl true 3 0 (fun _=>[]),.sl true 5 0 (fun _=>[]),.bool false,.int .i64 0,.str (⟨#[]⟩:ByteArray),.str (⟨#[]⟩:ByteArray),.sl true 5 0 (fun _=>[]),.bool false,.int .i64 0,.int .i64 0,.sl true 4 0 (fun _=>[]),.sl true 2 0 (fun _=>[]),.sl true 3 0 (fun _=>[]),.sl true 5 0 (fun _=>[]),.sl true 5 0 (fun _=>[])],aL 12 Zm r1]⟩ [] [⟨true,113,[sL 12 Zm a0.Zc],oL 12 Zm r1⟩] Zz ⟨fun _=>UM a0.Zc r1 q1,trivial⟩ (Zb (Za ?_))
 obtain ⟨r2,q3,h4⟩:=bind_some h2
 refine rg [oL 2 Zu r2] [1,2] 4 ⟨136,u1,[.box [.str a0.ZH,.int .i64 a0.GC,.asl 2 0 r1.length,.asl 3 0 r2.length,sL 2 ZN a0.Z9,sL 2 Yr a0.XK,sL 9 Z2 a0.Xf,sL 7 ZS a0.Zr,.bool a0.X5.Vz,.int .i64 a0.X5.Xd,sL 3 Xg a0.X5.ZF,sL 5 Zv a0.X5.Zs,.bool a0.Ye.Vz,.int .i64 a0.Ye.Xd,.str a0.Ye.VE,.str a0.Ye.YH,sL 5 Zv a0.Ye.Zs,.bool a0.Z8.Vz,.int .i64 a0.Z8.XM,.int .i64 a0.Z8.XN,sL 4 Xq a0.Z8.Zl,sL 2 Z7 a0.Z8.Zt,sL 3 Xh a0.Z8.Zq,sL 5 Xe a0.Z8.Zn,sL 5 Zv a0.Z8.Zs],.box [.str (⟨#[]⟩:ByteArray),.int .i64 0,.sl true 12 0 (fun _=>[]),.sl true 2 0 (fun _=>[]),.sl true 2 0 (fun _=>[]),.sl true 2 0 (fun _=>[]),.sl true 9 0 (fun _=>[]),.sl true 7 0 (fun _=>[]),.bool false,.int .i64 0,.sl true 3 0 (fun _=>[]),.sl true 5 0 (fun _=>[]),.bool false,.int .i64 0,.str (⟨#[]⟩:ByteArray),.str (⟨#[]⟩:ByteArray),.sl true 5 0 (fun _=>[]),.bool false,.int .i64 0,.int .i64 0,.sl true 4 0 (fun _=>[]),.sl true 2 0 (fun _=>[]),.sl true 3 0 (fun _=>[]),.sl true 5 0 (fun _=>[]),.sl true 5 0 (fun _=>[])],aL 12 Zm r1,aL 2 Zu r2]⟩ [] [⟨true,114,[sL 2 Zu a0.Xi],oL 2 Zu r2⟩] Zz ⟨fun _=>Ux a0.Xi r2 q3,trivial⟩ (Zb (Za (Za (zg [1,2,16,17] 4 (Zb (Zj ?_))))))
 obtain ⟨y6,q13,h14⟩:=bind_some h4
 refine zl (fun (p3:(List ZD) × Int)=>⟨136,[(1,.ref 0 0),(2,.ref 1 0),(16,.int .i64 (r2.length:Int)),(17,.int .i64 p3.2)],[.box [.str a0.ZH,.int .i64 a0.GC,.asl 2 0 r1.length,.asl 3 0 p3.1.length,sL 2 ZN a0.Z9,sL 2 Yr a0.XK,sL 9 Z2 a0.Xf,sL 7 ZS a0.Zr,.bool a0.X5.Vz,.int .i64 a0.X5.Xd,sL 3 Xg a0.X5.ZF,sL 5 Zv a0.X5.Zs,.bool a0.Ye.Vz,.int .i64 a0.Ye.Xd,.str a0.Ye.VE,.str a0.Ye.YH,sL 5 Zv a0.Ye.Zs,.bool a0.Z8.Vz,.int .i64 a0.Z8.XM,.int .i64 a0.Z8.XN,sL 4 Xq a0.Z8.Zl,sL 2 Z7 a0.Z8.Zt,sL 3 Xh a0.Z8.Zq,sL 5 Xe a0.Z8.Zn,sL 5 Zv a0.Z8.Zs],.box [.str (⟨#[]⟩:ByteArray),.int .i64 0,.sl true 12 0 (fun _=>[]),.sl true 2 0 (fun _=>[]),.sl true 2 0 (fun _=>[]),.sl true 2 0 (fun _=>[]),.sl true 9 0 (fun _=>[]),.sl true 7 0 (fun _=>[]),.bool false,.int .i64 0,.sl true 3 0 (fun _=>[]),.sl true 5 0 (fun _=>[]),.bool false,.int .i64 0,.str (⟨#[]⟩:ByteArray),.str (⟨#[]⟩:ByteArray),.sl true 5 0 (fun _=>[]),.bool false,.int .i64 0,.int .i64 0,.sl true 4 0 (fun _=>[]),.sl true 2 0 (fun _=>[]),.sl true 3 0 (fun _=>[]),.sl true 5 0 (fun _=>[]),.sl true 5 0 (fun _=>[])],aL 12 Zm r1,aL 2 Zu p3.1]⟩) (fun z=>OutE 0 (fun z=>⟨136,u1,[.box [.str a0.ZH,.int .i64 a0.GC,.asl 2 0 r1.length,.asl 3 0 z.length,sL 2 ZN a0.Z9,sL 2 Yr a0.XK,sL 9 Z2 a0.Xf,sL 7 ZS a0.Zr,.bool a0.X5.Vz,.int .i64 a0.X5.Xd,sL 3 Xg a0.X5.ZF,sL 5 Zv a0.X5.Zs,.bool a0.Ye.Vz,.int .i64 a0.Ye.Xd,.str a0.Ye.VE,.str a0.Ye.YH,sL 5 Zv a0.Ye.Zs,.bool a0.Z8.Vz,.int .i64 a0.Z8.XM,.int .i64 a0.Z8.XN,sL 4 Xq a0.Z8.Zl,sL 2 Z7 a0.Z8.Zt,sL 3 Xh a0.Z8.Zq,sL 5 Xe a0.Z8.Zn,sL 5 Zv a0.Z8.Zs],.box [.str (⟨#[]⟩:ByteArray),.int .i64 0,.sl true 12 0 (fun _=>[]),.sl true 2 0 (fun _=>[]),.sl true 2 0 (fun _=>[]),.sl true 2 0 (fun _=>[]),.sl true 9 0 (fun _=>[]),.sl true 7 0 (fun _=>[]),.bool false,.int .i64 0,.sl true 3 0 (fun _=>[]),.sl true 5 0 (fun _=>[]),.bool false,.int .i64 0,.str (⟨#[]⟩:ByteArray),.str (⟨#[]⟩:ByteArray),.sl true 5 0 (fun _=>[]),.bool false,.int .i64 0,.int .i64 0,.sl true 4 0 (fun _=>[]),.sl true 2 0 (fun _=>[]),.sl true 3 0 (fun _=>[]),.sl true 5 0 (fun _=>[]),.sl true 5 0 (fun _=>[])],aL 12 Zm r1,aL 2 Zu z]⟩) z) q13 ?_ ?_
 intro p3 y4 h5
 unfold M.QN at h5
 refine Za (zg [1,2,16,17,18] 4 (Zb (Za (cn h5 (fun _ h7=>?_) (fun _ h8=>?_)))))
 refine Ze (Zb (Za (Zj (Za (rg0 [1,2,3,16,17] 4 ⟨136,[(1,.ref 0 0),(2,.ref 1 0),(3,.int .i64 p3.2),(16,.int .i64 (r2.length:Int)),(17,.int .i64 p3.2)],[.box [.str a0.ZH,.int .i64 a0.GC,.asl 2 0 r1.length,.asl 3 0 p3.1.length,sL 2 ZN a0.Z9,sL 2 Yr a0.XK,sL 9 Z2 a0.Xf,sL 7 ZS a0.Zr,.bool a0.X5.Vz,.int .i64 a0.X5.Xd,sL 3 Xg a0.X5.ZF,sL 5 Zv a0.X5.Zs,.bool a0.Ye.Vz,.int .i64 a0.Ye.Xd,.str a0.Ye.VE,.str a0.Ye.YH,sL 5 Zv a0.Ye.Zs,.bool a0.Z8.Vz,.int .i64 a0.Z8.XM,.int .i64 a0.Z8.XN,sL 4 Xq a0.Z8.Zl,sL 2 Z7 a0.Z8.Zt,sL 3 Xh a0.Z8.Zq,sL 5 Xe a0.Z8.Zn,sL 5 Zv a0.Z8.Zs],.box [.str (⟨#[]⟩:ByteArray),.int .i64 0,.sl true 12 0 (fun _=>[]),.sl true 2 0 (fun _=>[]),.sl true 2 0 (fun _=>[]),.sl true 2 0 (fun _=>[]),.sl true 9 0 (fun _=>[]),.sl true 7 0 (fun _=>[]),.bool false,.int .i64 0,.sl true 3 0 (fun _=>[]),.sl true 5 0 (fun _=>[]),.bool false,.int .i64 0,.str (⟨#[]⟩:ByteArray),.str (⟨#[]⟩:ByteArray),.sl true 5 0 (fun _=>[]),.bool false,.int .i64 0,.int .i64 0,.sl true 4 0 (fun _=>[]),.sl true 2 0 (fun _=>[]),.sl true 3 0 (fun _=>[]),.sl true 5 0 (fun _=>[]),.sl true 5 0 (fun _=>[])],aL 12 Zm r1,aL 2 Zu p3.1]⟩ (Zb ?_))))))
 obtain ⟨r5,q9,h10⟩:=bind_some h7
 obtain ⟨c11,h12⟩:=Zy h10
 exact rgw [.pure (sL 5 Vh r5)] [1,2,16,17] 4 ⟨136,[(1,.ref 0 0),(2,.ref 1 0),(16,.int .i64 (r2.length:Int)),(17,.int .i64 p3.2)],[.box [.str a0.ZH,.int .i64 a0.GC,.asl 2 0 r1.length,.asl 3 0 p3.1.length,sL 2 ZN a0.Z9,sL 2 Yr a0.XK,sL 9 Z2 a0.Xf,sL 7 ZS a0.Zr,.bool a0.X5.Vz,.int .i64 a0.X5.Xd,sL 3 Xg a0.X5.ZF,sL 5 Zv a0.X5.Zs,.bool a0.Ye.Vz,.int .i64 a0.Ye.Xd,.str a0.Ye.VE,.str a0.Ye.YH,sL 5 Zv a0.Ye.Zs,.bool a0.Z8.Vz,.int .i64 a0.Z8.XM,.int .i64 a0.Z8.XN,sL 4 Xq a0.Z8.Zl,sL 2 Z7 a0.Z8.Zt,sL 3 Xh a0.Z8.Zq,sL 5 Xe a0.Z8.Zn,sL 5 Zv a0.Z8.Zs],.box [.str (⟨#[]⟩:ByteArray),.int .i64 0,.sl true 12 0 (fun _=>[]),.sl true 2 0 (fun _=>[]),.sl true 2 0 (fun _=>[]),.sl true 2 0 (fun _=>[]),.sl true 9 0 (fun _=>[]),.sl true 7 0 (fun _=>[]),.bool false,.int .i64 0,.sl true 3 0 (fun _=>[]),.sl true 5 0 (fun _=>[]),.bool false,.int .i64 0,.str (⟨#[]⟩:ByteArray),.str (⟨#[]⟩:ByteArray),.sl true 5 0 (fun _=>[]),.bool false,.int .i64 0,.int .i64 0,.sl true 4 0 (fun _=>[]),.sl true 2 0 (fun _=>[]),.sl true 3 0 (fun _=>[]),.sl true 5 0 (fun _=>[]),.sl true 5 0 (fun _=>[])],aL 12 Zm r1,.arr 2 p3.1.length (fun j=>bif Nat.beq j (0+p3.2.toNat) then splice (Zu (p3.1.getD (0+p3.2.toNat) default)) [sL 5 Vh r5] 1 else Zu (p3.1.getD j default))]⟩ [decide (0≤p3.2),decide (p3.2 < (p3.1.length:Int)),decide (0≤p3.2),decide (p3.2 < (p3.1.length:Int))] [⟨true,115,[sL 5 Vh ((p3.1.getD (0+p3.2.toNat) default).Xv)],.pure (sL 5 Vh r5)⟩] c11 ⟨fun _=>Uz ((p3.1.getD (0+p3.2.toNat) default).Xv) r5 q9,trivial⟩ (XO (XD (s':=⟨136,[(1,.ref 0 0),(2,.ref 1 0),(16,.int .i64 (r2.length:Int)),(17,.int .i64 p3.2)],[.box [.str a0.ZH,.int .i64 a0.GC,.asl 2 0 r1.length,.asl 3 0 ((p3.1.set (0+p3.2.toNat) (⟨(p3.1.getD (0+p3.2.toNat) default).ZH,r5⟩:ZD)).length),sL 2 ZN a0.Z9,sL 2 Yr a0.XK,sL 9 Z2 a0.Xf,sL 7 ZS a0.Zr,.bool a0.X5.Vz,.int .i64 a0.X5.Xd,sL 3 Xg a0.X5.ZF,sL 5 Zv a0.X5.Zs,.bool a0.Ye.Vz,.int .i64 a0.Ye.Xd,.str a0.Ye.VE,.str a0.Ye.YH,sL 5 Zv a0.Ye.Zs,.bool a0.Z8.Vz,.int .i64 a0.Z8.XM,.int .i64 a0.Z8.XN,sL 4 Xq a0.Z8.Zl,sL 2 Z7 a0.Z8.Zt,sL 3 Xh a0.Z8.Zq,sL 5 Xe a0.Z8.Zn,sL 5 Zv a0.Z8.Zs],.box [.str (⟨#[]⟩:ByteArray),.int .i64 0,.sl true 12 0 (fun _=>[]),.sl true 2 0 (fun _=>[]),.sl true 2 0 (fun _=>[]),.sl true 2 0 (fun _=>[]),.sl true 9 0 (fun _=>[]),.sl true 7 0 (fun _=>[]),.bool false,.int .i64 0,.sl true 3 0 (fun _=>[]),.sl true 5 0 (fun _=>[]),.bool false,.int .i64 0,.str (⟨#[]⟩:ByteArray),.str (⟨#[]⟩:ByteArray),.sl true 5 0 (fun _=>[]),.bool false,.int .i64 0,.int .i64 0,.sl true 4 0 (fun _=>[]),.sl true 2 0 (fun _=>[]),.sl true 3 0 (fun _=>[]),.sl true 5 0 (fun _=>[]),.sl true 5 0 (fun _=>[])],aL 12 Zm r1,aL 2 Zu (p3.1.set (0+p3.2.toNat) (⟨(p3.1.getD (0+p3.2.toNat) default).ZH,r5⟩:ZD))]⟩) (JQ (.cons Sub.rfl (.cons Sub.rfl (.cons Sub.rfl (.cons Sub.rfl .nil)))) (.cons (.box (.cons CSub.rfl (.cons CSub.rfl (.cons CSub.rfl (.cons (K7 (by simp)) (.cons CSub.rfl (.cons CSub.rfl (.cons CSub.rfl (.cons CSub.rfl (.cons CSub.rfl (.cons CSub.rfl (.cons CSub.rfl (.cons CSub.rfl (.cons CSub.rfl (.cons CSub.rfl (.cons CSub.rfl (.cons CSub.rfl (.cons CSub.rfl (.cons CSub.rfl (.cons CSub.rfl (.cons CSub.rfl (.cons CSub.rfl (.cons CSub.rfl (.cons CSub.rfl (.cons CSub.rfl (.cons CSub.rfl .nil)))))))))))))))))))))))))) (.cons .rfl (.cons .rfl (.cons (.arr (by simp) (Zfm Zu p3.1 (0+p3.2.toNat) (⟨(p3.1.getD (0+p3.2.toNat) default).ZH,r5⟩:ZD) _ rfl)) .nil))))) (zg [1,2,16,17] 4 (rn h12))))
 exact ZX (XC (re h8 ⟨rfl,kq⟩))
 intro e15 s16 o17
 refine zi o17 (Za (Ud (s':=⟨136,u1,[.box [.str a0.ZH,.int .i64 a0.GC,.sl false 12 r1.length (fun k=>(fun i=>Zm (r1.getD i default)) (0+k)),.sl false 2 y6.length (fun k=>(fun i=>Zu (y6.getD i default)) (0+k)),sL 2 ZN a0.Z9,sL 2 Yr a0.XK,sL 9 Z2 a0.Xf,sL 7 ZS a0.Zr,.bool a0.X5.Vz,.int .i64 a0.X5.Xd,sL 3 Xg a0.X5.ZF,sL 5 Zv a0.X5.Zs,.bool a0.Ye.Vz,.int .i64 a0.Ye.Xd,.str a0.Ye.VE,.str a0.Ye.YH,sL 5 Zv a0.Ye.Zs,.bool a0.Z8.Vz,.int .i64 a0.Z8.XM,.int .i64 a0.Z8.XN,sL 4 Xq a0.Z8.Zl,sL 2 Z7 a0.Z8.Zt,sL 3 Xh a0.Z8.Zq,sL 5 Xe a0.Z8.Zn,sL 5 Zv a0.Z8.Zs],.box [.str (⟨#[]⟩:ByteArray),.int .i64 0,.sl true 12 0 (fun _=>[]),.sl true 2 0 (fun _=>[]),.sl true 2 0 (fun _=>[]),.sl true 2 0 (fun _=>[]),.sl true 9 0 (fun _=>[]),.sl true 7 0 (fun _=>[]),.bool false,.int .i64 0,.sl true 3 0 (fun _=>[]),.sl true 5 0 (fun _=>[]),.bool false,.int .i64 0,.str (⟨#[]⟩:ByteArray),.str (⟨#[]⟩:ByteArray),.sl true 5 0 (fun _=>[]),.bool false,.int .i64 0,.int .i64 0,.sl true 4 0 (fun _=>[]),.sl true 2 0 (fun _=>[]),.sl true 3 0 (fun _=>[]),.sl true 5 0 (fun _=>[]),.sl true 5 0 (fun _=>[])],aL 12 Zm ([]:List Zx),aL 2 Zu ([]:List ZD)]⟩) (Le.trans ((Le.trans (Zc5 (s:=⟨136,u1,[.box [.str a0.ZH,.int .i64 a0.GC,.asl 2 0 r1.length,.asl 3 0 y6.length,sL 2 ZN a0.Z9,sL 2 Yr a0.XK,sL 9 Z2 a0.Xf,sL 7 ZS a0.Zr,.bool a0.X5.Vz,.int .i64 a0.X5.Xd,sL 3 Xg a0.X5.ZF,sL 5 Zv a0.X5.Zs,.bool a0.Ye.Vz,.int .i64 a0.Ye.Xd,.str a0.Ye.VE,.str a0.Ye.YH,sL 5 Zv a0.Ye.Zs,.bool a0.Z8.Vz,.int .i64 a0.Z8.XM,.int .i64 a0.Z8.XN,sL 4 Xq a0.Z8.Zl,sL 2 Z7 a0.Z8.Zt,sL 3 Xh a0.Z8.Zq,sL 5 Xe a0.Z8.Zn,sL 5 Zv a0.Z8.Zs],.box [.str (⟨#[]⟩:ByteArray),.int .i64 0,.sl true 12 0 (fun _=>[]),.sl true 2 0 (fun _=>[]),.sl true 2 0 (fun _=>[]),.sl true 2 0 (fun _=>[]),.sl true 9 0 (fun _=>[]),.sl true 7 0 (fun _=>[]),.bool false,.int .i64 0,.sl true 3 0 (fun _=>[]),.sl true 5 0 (fun _=>[]),.bool false,.int .i64 0,.str (⟨#[]⟩:ByteArray),.str (⟨#[]⟩:ByteArray),.sl true 5 0 (fun _=>[]),.bool false,.int .i64 0,.int .i64 0,.sl true 4 0 (fun _=>[]),.sl true 2 0 (fun _=>[]),.sl true 3 0 (fun _=>[]),.sl true 5 0 (fun _=>[]),.sl true 5 0 (fun _=>[])],aL 12 Zm r1,aL 2 Zu y6]⟩) (s':=⟨136,u1,[.box [.str a0.ZH,.int .i64 a0.GC,.sl false 12 r1.length (fun k=>(fun i=>Zm (r1.getD i default)) (0+k)),.asl 3 0 y6.length,sL 2 ZN a0.Z9,sL 2 Yr a0.XK,sL 9 Z2 a0.Xf,sL 7 ZS a0.Zr,.bool a0.X5.Vz,.int .i64 a0.X5.Xd,sL 3 Xg a0.X5.ZF,sL 5 Zv a0.X5.Zs,.bool a0.Ye.Vz,.int .i64 a0.Ye.Xd,.str a0.Ye.VE,.str a0.Ye.YH,sL 5 Zv a0.Ye.Zs,.bool a0.Z8.Vz,.int .i64 a0.Z8.XM,.int .i64 a0.Z8.XN,sL 4 Xq a0.Z8.Zl,sL 2 Z7 a0.Z8.Zt,sL 3 Xh a0.Z8.Zq,sL 5 Xe a0.Z8.Zn,sL 5 Zv a0.Z8.Zs],.box [.str (⟨#[]⟩:ByteArray),.int .i64 0,.sl true 12 0 (fun _=>[]),.sl true 2 0 (fun _=>[]),.sl true 2 0 (fun _=>[]),.sl true 2 0 (fun _=>[]),.sl true 9 0 (fun _=>[]),.sl true 7 0 (fun _=>[]),.bool false,.int .i64 0,.sl true 3 0 (fun _=>[]),.sl true 5 0 (fun _=>[]),.bool false,.int .i64 0,.str (⟨#[]⟩:ByteArray),.str (⟨#[]⟩:ByteArray),.sl true 5 0 (fun _=>[]),.bool false,.int .i64 0,.int .i64 0,.sl true 4 0 (fun _=>[]),.sl true 2 0 (fun _=>[]),.sl true 3 0 (fun _=>[]),.sl true 5 0 (fun _=>[]),.sl true 5 0 (fun _=>[])],aL 12 Zm ([]:List Zx),aL 2 Zu y6]⟩) 2 12 r1.length (fun i=>Zm (r1.getD i default)) (fun i=>Zm (([]:List Zx).getD i default)) (by kernel_rfl) (by kernel_rfl) (by kernel_rfl)) (Zc5 (s:=⟨136,u1,[.box [.str a0.ZH,.int .i64 a0.GC,.sl false 12 r1.length (fun k=>(fun i=>Zm (r1.getD i default)) (0+k)),.asl 3 0 y6.length,sL 2 ZN a0.Z9,sL 2 Yr a0.XK,sL 9 Z2 a0.Xf,sL 7 ZS a0.Zr,.bool a0.X5.Vz,.int .i64 a0.X5.Xd,sL 3 Xg a0.X5.ZF,sL 5 Zv a0.X5.Zs,.bool a0.Ye.Vz,.int .i64 a0.Ye.Xd,.str a0.Ye.VE,.str a0.Ye.YH,sL 5 Zv a0.Ye.Zs,.bool a0.Z8.Vz,.int .i64 a0.Z8.XM,.int .i64 a0.Z8.XN,sL 4 Xq a0.Z8.Zl,sL 2 Z7 a0.Z8.Zt,sL 3 Xh a0.Z8.Zq,sL 5 Xe a0.Z8.Zn,sL 5 Zv a0.Z8.Zs],.box [.str (⟨#[]⟩:ByteArray),.int .i64 0,.sl true 12 0 (fun _=>[]),.sl true 2 0 (fun _=>[]),.sl true 2 0 (fun _=>[]),.sl true 2 0 (fun _=>[]),.sl true 9 0 (fun _=>[]),.sl true 7 0 (fun _=>[]),.bool false,.int .i64 0,.sl true 3 0 (fun _=>[]),.sl true 5 0 (fun _=>[]),.bool false,.int .i64 0,.str (⟨#[]⟩:ByteArray),.str (⟨#[]⟩:ByteArray),.sl true 5 0 (fun _=>[]),.bool false,.int .i64 0,.int .i64 0,.sl true 4 0 (fun _=>[]),.sl true 2 0 (fun _=>[]),.sl true 3 0 (fun _=>[]),.sl true 5 0 (fun _=>[]),.sl true 5 0 (fun _=>[])],aL 12 Zm ([]:List Zx),aL 2 Zu y6]⟩) (s':=⟨136,u1,[.box [.str a0.ZH,.int .i64 a0.GC,.sl false 12 r1.length (fun k=>(fun i=>Zm (r1.getD i default)) (0+k)),.sl false 2 y6.length (fun k=>(fun i=>Zu (y6.getD i default)) (0+k)),sL 2 ZN a0.Z9,sL 2 Yr a0.XK,sL 9 Z2 a0.Xf,sL 7 ZS a0.Zr,.bool a0.X5.Vz,.int .i64 a0.X5.Xd,sL 3 Xg a0.X5.ZF,sL 5 Zv a0.X5.Zs,.bool a0.Ye.Vz,.int .i64 a0.Ye.Xd,.str a0.Ye.VE,.str a0.Ye.YH,sL 5 Zv a0.Ye.Zs,.bool a0.Z8.Vz,.int .i64 a0.Z8.XM,.int .i64 a0.Z8.XN,sL 4 Xq a0.Z8.Zl,sL 2 Z7 a0.Z8.Zt,sL 3 Xh a0.Z8.Zq,sL 5 Xe a0.Z8.Zn,sL 5 Zv a0.Z8.Zs],.box [.str (⟨#[]⟩:ByteArray),.int .i64 0,.sl true 12 0 (fun _=>[]),.sl true 2 0 (fun _=>[]),.sl true 2 0 (fun _=>[]),.sl true 2 0 (fun _=>[]),.sl true 9 0 (fun _=>[]),.sl true 7 0 (fun _=>[]),.bool false,.int .i64 0,.sl true 3 0 (fun _=>[]),.sl true 5 0 (fun _=>[]),.bool false,.int .i64 0,.str (⟨#[]⟩:ByteArray),.str (⟨#[]⟩:ByteArray),.sl true 5 0 (fun _=>[]),.bool false,.int .i64 0,.int .i64 0,.sl true 4 0 (fun _=>[]),.sl true 2 0 (fun _=>[]),.sl true 3 0 (fun _=>[]),.sl true 5 0 (fun _=>[]),.sl true 5 0 (fun _=>[])],aL 12 Zm ([]:List Zx),aL 2 Zu ([]:List ZD)]⟩) 3 2 y6.length (fun i=>Zu (y6.getD i default)) (fun i=>Zu (([]:List ZD).getD i default)) (by kernel_rfl) (by kernel_rfl) (by kernel_rfl)))) (kp [1,2])) ?_))
 obtain ⟨r7,q19,h20⟩:=bind_some h14
 refine rg [oL 2 ZN r7] [1,2] 5 ⟨136,u1,[.box [.str a0.ZH,.int .i64 a0.GC,.sl false 12 r1.length (fun k=>(fun i=>Zm (r1.getD i default)) (0+k)),.sl false 2 y6.length (fun k=>(fun i=>Zu (y6.getD i default)) (0+k)),.asl 4 0 r7.length,sL 2 Yr a0.XK,sL 9 Z2 a0.Xf,sL 7 ZS a0.Zr,.bool a0.X5.Vz,.int .i64 a0.X5.Xd,sL 3 Xg a0.X5.ZF,sL 5 Zv a0.X5.Zs,.bool a0.Ye.Vz,.int .i64 a0.Ye.Xd,.str a0.Ye.VE,.str a0.Ye.YH,sL 5 Zv a0.Ye.Zs,.bool a0.Z8.Vz,.int .i64 a0.Z8.XM,.int .i64 a0.Z8.XN,sL 4 Xq a0.Z8.Zl,sL 2 Z7 a0.Z8.Zt,sL 3 Xh a0.Z8.Zq,sL 5 Xe a0.Z8.Zn,sL 5 Zv a0.Z8.Zs],.box [.str (⟨#[]⟩:ByteArray),.int .i64 0,.sl true 12 0 (fun _=>[]),.sl true 2 0 (fun _=>[]),.sl true 2 0 (fun _=>[]),.sl true 2 0 (fun _=>[]),.sl true 9 0 (fun _=>[]),.sl true 7 0 (fun _=>[]),.bool false,.int .i64 0,.sl true 3 0 (fun _=>[]),.sl true 5 0 (fun _=>[]),.bool false,.int .i64 0,.str (⟨#[]⟩:ByteArray),.str (⟨#[]⟩:ByteArray),.sl true 5 0 (fun _=>[]),.bool false,.int .i64 0,.int .i64 0,.sl true 4 0 (fun _=>[]),.sl true 2 0 (fun _=>[]),.sl true 3 0 (fun _=>[]),.sl true 5 0 (fun _=>[]),.sl true 5 0 (fun _=>[])],aL 12 Zm ([]:List Zx),aL 2 Zu ([]:List ZD),aL 2 ZN r7]⟩ [] [⟨true,116,[sL 2 ZN a0.Z9],oL 2 ZN r7⟩] Zz ⟨fun _=>UW a0.Z9 r7 q19,trivial⟩ (XD (s':=⟨136,u1,[.box [.str a0.ZH,.int .i64 a0.GC,sL 12 Zm r1,sL 2 Zu y6,.asl 4 0 r7.length,sL 2 Yr a0.XK,sL 9 Z2 a0.Xf,sL 7 ZS a0.Zr,.bool a0.X5.Vz,.int .i64 a0.X5.Xd,sL 3 Xg a0.X5.ZF,sL 5 Zv a0.X5.Zs,.bool a0.Ye.Vz,.int .i64 a0.Ye.Xd,.str a0.Ye.VE,.str a0.Ye.YH,sL 5 Zv a0.Ye.Zs,.bool a0.Z8.Vz,.int .i64 a0.Z8.XM,.int .i64 a0.Z8.XN,sL 4 Xq a0.Z8.Zl,sL 2 Z7 a0.Z8.Zt,sL 3 Xh a0.Z8.Zq,sL 5 Xe a0.Z8.Zn,sL 5 Zv a0.Z8.Zs],.box [.str (⟨#[]⟩:ByteArray),.int .i64 0,.sl true 12 0 (fun _=>[]),.sl true 2 0 (fun _=>[]),.sl true 2 0 (fun _=>[]),.sl true 2 0 (fun _=>[]),.sl true 9 0 (fun _=>[]),.sl true 7 0 (fun _=>[]),.bool false,.int .i64 0,.sl true 3 0 (fun _=>[]),.sl true 5 0 (fun _=>[]),.bool false,.int .i64 0,.str (⟨#[]⟩:ByteArray),.str (⟨#[]⟩:ByteArray),.sl true 5 0 (fun _=>[]),.bool false,.int .i64 0,.int .i64 0,.sl true 4 0 (fun _=>[]),.sl true 2 0 (fun _=>[]),.sl true 3 0 (fun _=>[]),.sl true 5 0 (fun _=>[]),.sl true 5 0 (fun _=>[])],aL 12 Zm ([]:List Zx),aL 2 Zu ([]:List ZD),aL 2 ZN r7]⟩) (JQ (.cons Sub.rfl (.cons Sub.rfl .nil)) (.cons (.box (.cons CSub.rfl (.cons CSub.rfl (.cons (KK rfl (Zaz (f:=fun i=>Zm (r1.getD i default)) (fun _ _=>rfl))) (.cons (KK rfl (Zaz (f:=fun i=>Zu (y6.getD i default)) (fun _ _=>rfl))) (.cons CSub.rfl (.cons CSub.rfl (.cons CSub.rfl (.cons CSub.rfl (.cons CSub.rfl (.cons CSub.rfl (.cons CSub.rfl (.cons CSub.rfl (.cons CSub.rfl (.cons CSub.rfl (.cons CSub.rfl (.cons CSub.rfl (.cons CSub.rfl (.cons CSub.rfl (.cons CSub.rfl (.cons CSub.rfl (.cons CSub.rfl (.cons CSub.rfl (.cons CSub.rfl (.cons CSub.rfl (.cons CSub.rfl .nil)))))))))))))))))))))))))) (.cons .rfl (.cons .rfl (.cons .rfl (.cons .rfl .nil)))))) (Za (Za (zg [1,2,39,40] 5 (Zb (Zj ?_))))))
 obtain ⟨y11,q29,h30⟩:=bind_some h20
 refine zl (fun (p8:(List Xw) × Int)=>⟨136,[(1,.ref 0 0),(2,.ref 1 0),(39,.int .i64 (r7.length:Int)),(40,.int .i64 p8.2)],[.box [.str a0.ZH,.int .i64 a0.GC,sL 12 Zm r1,sL 2 Zu y6,.asl 4 0 p8.1.length,sL 2 Yr a0.XK,sL 9 Z2 a0.Xf,sL 7 ZS a0.Zr,.bool a0.X5.Vz,.int .i64 a0.X5.Xd,sL 3 Xg a0.X5.ZF,sL 5 Zv a0.X5.Zs,.bool a0.Ye.Vz,.int .i64 a0.Ye.Xd,.str a0.Ye.VE,.str a0.Ye.YH,sL 5 Zv a0.Ye.Zs,.bool a0.Z8.Vz,.int .i64 a0.Z8.XM,.int .i64 a0.Z8.XN,sL 4 Xq a0.Z8.Zl,sL 2 Z7 a0.Z8.Zt,sL 3 Xh a0.Z8.Zq,sL 5 Xe a0.Z8.Zn,sL 5 Zv a0.Z8.Zs],.box [.str (⟨#[]⟩:ByteArray),.int .i64 0,.sl true 12 0 (fun _=>[]),.sl true 2 0 (fun _=>[]),.sl true 2 0 (fun _=>[]),.sl true 2 0 (fun _=>[]),.sl true 9 0 (fun _=>[]),.sl true 7 0 (fun _=>[]),.bool false,.int .i64 0,.sl true 3 0 (fun _=>[]),.sl true 5 0 (fun _=>[]),.bool false,.int .i64 0,.str (⟨#[]⟩:ByteArray),.str (⟨#[]⟩:ByteArray),.sl true 5 0 (fun _=>[]),.bool false,.int .i64 0,.int .i64 0,.sl true 4 0 (fun _=>[]),.sl true 2 0 (fun _=>[]),.sl true 3 0 (fun _=>[]),.sl true 5 0 (fun _=>[]),.sl true 5 0 (fun _=>[])],aL 12 Zm ([]:List Zx),aL 2 Zu ([]:List ZD),aL 2 ZN p8.1]⟩) (fun z=>OutE 2 (fun z=>⟨136,u1,[.box [.str a0.ZH,.int .i64 a0.GC,sL 12 Zm r1,sL 2 Zu y6,.asl 4 0 z.length,sL 2 Yr a0.XK,sL 9 Z2 a0.Xf,sL 7 ZS a0.Zr,.bool a0.X5.Vz,.int .i64 a0.X5.Xd,sL 3 Xg a0.X5.ZF,sL 5 Zv a0.X5.Zs,.bool a0.Ye.Vz,.int .i64 a0.Ye.Xd,.str a0.Ye.VE,.str a0.Ye.YH,sL 5 Zv a0.Ye.Zs,.bool a0.Z8.Vz,.int .i64 a0.Z8.XM,.int .i64 a0.Z8.XN,sL 4 Xq a0.Z8.Zl,sL 2 Z7 a0.Z8.Zt,sL 3 Xh a0.Z8.Zq,sL 5 Xe a0.Z8.Zn,sL 5 Zv a0.Z8.Zs],.box [.str (⟨#[]⟩:ByteArray),.int .i64 0,.sl true 12 0 (fun _=>[]),.sl true 2 0 (fun _=>[]),.sl true 2 0 (fun _=>[]),.sl true 2 0 (fun _=>[]),.sl true 9 0 (fun _=>[]),.sl true 7 0 (fun _=>[]),.bool false,.int .i64 0,.sl true 3 0 (fun _=>[]),.sl true 5 0 (fun _=>[]),.bool false,.int .i64 0,.str (⟨#[]⟩:ByteArray),.str (⟨#[]⟩:ByteArray),.sl true 5 0 (fun _=>[]),.bool false,.int .i64 0,.int .i64 0,.sl true 4 0 (fun _=>[]),.sl true 2 0 (fun _=>[]),.sl true 3 0 (fun _=>[]),.sl true 5 0 (fun _=>[]),.sl true 5 0 (fun _=>[])],aL 12 Zm ([]:List Zx),aL 2 Zu ([]:List ZD),aL 2 ZN z]⟩) z) q29 ?_ ?_
 intro p8 y9 h21
 unfold M.QO at h21
 refine Za (zg [1,2,39,40,41] 5 (Zb (Za (cn h21 (fun _ h23=>?_) (fun _ h24=>?_)))))
 refine Ze (Zb (Za (Zj (Za (rg0 [1,2,4,39,40] 5 ⟨136,[(1,.ref 0 0),(2,.ref 1 0),(4,.int .i64 p8.2),(39,.int .i64 (r7.length:Int)),(40,.int .i64 p8.2)],[.box [.str a0.ZH,.int .i64 a0.GC,sL 12 Zm r1,sL 2 Zu y6,.asl 4 0 p8.1.length,sL 2 Yr a0.XK,sL 9 Z2 a0.Xf,sL 7 ZS a0.Zr,.bool a0.X5.Vz,.int .i64 a0.X5.Xd,sL 3 Xg a0.X5.ZF,sL 5 Zv a0.X5.Zs,.bool a0.Ye.Vz,.int .i64 a0.Ye.Xd,.str a0.Ye.VE,.str a0.Ye.YH,sL 5 Zv a0.Ye.Zs,.bool a0.Z8.Vz,.int .i64 a0.Z8.XM,.int .i64 a0.Z8.XN,sL 4 Xq a0.Z8.Zl,sL 2 Z7 a0.Z8.Zt,sL 3 Xh a0.Z8.Zq,sL 5 Xe a0.Z8.Zn,sL 5 Zv a0.Z8.Zs],.box [.str (⟨#[]⟩:ByteArray),.int .i64 0,.sl true 12 0 (fun _=>[]),.sl true 2 0 (fun _=>[]),.sl true 2 0 (fun _=>[]),.sl true 2 0 (fun _=>[]),.sl true 9 0 (fun _=>[]),.sl true 7 0 (fun _=>[]),.bool false,.int .i64 0,.sl true 3 0 (fun _=>[]),.sl true 5 0 (fun _=>[]),.bool false,.int .i64 0,.str (⟨#[]⟩:ByteArray),.str (⟨#[]⟩:ByteArray),.sl true 5 0 (fun _=>[]),.bool false,.int .i64 0,.int .i64 0,.sl true 4 0 (fun _=>[]),.sl true 2 0 (fun _=>[]),.sl true 3 0 (fun _=>[]),.sl true 5 0 (fun _=>[]),.sl true 5 0 (fun _=>[])],aL 12 Zm ([]:List Zx),aL 2 Zu ([]:List ZD),aL 2 ZN p8.1]⟩ (Zb ?_))))))
 obtain ⟨r10,q25,h26⟩:=bind_some h23
 obtain ⟨c27,h28⟩:=Zy h26
 exact rgw [.pure (sL 7 Ug r10)] [1,2,39,40] 5 ⟨136,[(1,.ref 0 0),(2,.ref 1 0),(39,.int .i64 (r7.length:Int)),(40,.int .i64 p8.2)],[.box [.str a0.ZH,.int .i64 a0.GC,sL 12 Zm r1,sL 2 Zu y6,.asl 4 0 p8.1.length,sL 2 Yr a0.XK,sL 9 Z2 a0.Xf,sL 7 ZS a0.Zr,.bool a0.X5.Vz,.int .i64 a0.X5.Xd,sL 3 Xg a0.X5.ZF,sL 5 Zv a0.X5.Zs,.bool a0.Ye.Vz,.int .i64 a0.Ye.Xd,.str a0.Ye.VE,.str a0.Ye.YH,sL 5 Zv a0.Ye.Zs,.bool a0.Z8.Vz,.int .i64 a0.Z8.XM,.int .i64 a0.Z8.XN,sL 4 Xq a0.Z8.Zl,sL 2 Z7 a0.Z8.Zt,sL 3 Xh a0.Z8.Zq,sL 5 Xe a0.Z8.Zn,sL 5 Zv a0.Z8.Zs],.box [.str (⟨#[]⟩:ByteArray),.int .i64 0,.sl true 12 0 (fun _=>[]),.sl true 2 0 (fun _=>[]),.sl true 2 0 (fun _=>[]),.sl true 2 0 (fun _=>[]),.sl true 9 0 (fun _=>[]),.sl true 7 0 (fun _=>[]),.bool false,.int .i64 0,.sl true 3 0 (fun _=>[]),.sl true 5 0 (fun _=>[]),.bool false,.int .i64 0,.str (⟨#[]⟩:ByteArray),.str (⟨#[]⟩:ByteArray),.sl true 5 0 (fun _=>[]),.bool false,.int .i64 0,.int .i64 0,.sl true 4 0 (fun _=>[]),.sl true 2 0 (fun _=>[]),.sl true 3 0 (fun _=>[]),.sl true 5 0 (fun _=>[]),.sl true 5 0 (fun _=>[])],aL 12 Zm ([]:List Zx),aL 2 Zu ([]:List ZD),.arr 2 p8.1.length (fun j=>bif Nat.beq j (0+p8.2.toNat) then splice (ZN (p8.1.getD (0+p8.2.toNat) default)) [sL 7 Ug r10] 1 else ZN (p8.1.getD j default))]⟩ [decide (0≤p8.2),decide (p8.2 < (p8.1.length:Int)),decide (0≤p8.2),decide (p8.2 < (p8.1.length:Int))] [⟨true,117,[sL 7 Ug ((p8.1.getD (0+p8.2.toNat) default).Xj)],.pure (sL 7 Ug r10)⟩] c27 ⟨fun _=>Gx ((p8.1.getD (0+p8.2.toNat) default).Xj) r10 q25,trivial⟩ (XO (XD (s':=⟨136,[(1,.ref 0 0),(2,.ref 1 0),(39,.int .i64 (r7.length:Int)),(40,.int .i64 p8.2)],[.box [.str a0.ZH,.int .i64 a0.GC,sL 12 Zm r1,sL 2 Zu y6,.asl 4 0 ((p8.1.set (0+p8.2.toNat) (⟨(p8.1.getD (0+p8.2.toNat) default).ZH,r10⟩:Xw)).length),sL 2 Yr a0.XK,sL 9 Z2 a0.Xf,sL 7 ZS a0.Zr,.bool a0.X5.Vz,.int .i64 a0.X5.Xd,sL 3 Xg a0.X5.ZF,sL 5 Zv a0.X5.Zs,.bool a0.Ye.Vz,.int .i64 a0.Ye.Xd,.str a0.Ye.VE,.str a0.Ye.YH,sL 5 Zv a0.Ye.Zs,.bool a0.Z8.Vz,.int .i64 a0.Z8.XM,.int .i64 a0.Z8.XN,sL 4 Xq a0.Z8.Zl,sL 2 Z7 a0.Z8.Zt,sL 3 Xh a0.Z8.Zq,sL 5 Xe a0.Z8.Zn,sL 5 Zv a0.Z8.Zs],.box [.str (⟨#[]⟩:ByteArray),.int .i64 0,.sl true 12 0 (fun _=>[]),.sl true 2 0 (fun _=>[]),.sl true 2 0 (fun _=>[]),.sl true 2 0 (fun _=>[]),.sl true 9 0 (fun _=>[]),.sl true 7 0 (fun _=>[]),.bool false,.int .i64 0,.sl true 3 0 (fun _=>[]),.sl true 5 0 (fun _=>[]),.bool false,.int .i64 0,.str (⟨#[]⟩:ByteArray),.str (⟨#[]⟩:ByteArray),.sl true 5 0 (fun _=>[]),.bool false,.int .i64 0,.int .i64 0,.sl true 4 0 (fun _=>[]),.sl true 2 0 (fun _=>[]),.sl true 3 0 (fun _=>[]),.sl true 5 0 (fun _=>[]),.sl true 5 0 (fun _=>[])],aL 12 Zm ([]:List Zx),aL 2 Zu ([]:List ZD),aL 2 ZN (p8.1.set (0+p8.2.toNat) (⟨(p8.1.getD (0+p8.2.toNat) default).ZH,r10⟩:Xw))]⟩) (JQ (.cons Sub.rfl (.cons Sub.rfl (.cons Sub.rfl (.cons Sub.rfl .nil)))) (.cons (.box (.cons CSub.rfl (.cons CSub.rfl (.cons CSub.rfl (.cons CSub.rfl (.cons (K7 (by simp)) (.cons CSub.rfl (.cons CSub.rfl (.cons CSub.rfl (.cons CSub.rfl (.cons CSub.rfl (.cons CSub.rfl (.cons CSub.rfl (.cons CSub.rfl (.cons CSub.rfl (.cons CSub.rfl (.cons CSub.rfl (.cons CSub.rfl (.cons CSub.rfl (.cons CSub.rfl (.cons CSub.rfl (.cons CSub.rfl (.cons CSub.rfl (.cons CSub.rfl (.cons CSub.rfl (.cons CSub.rfl .nil)))))))))))))))))))))))))) (.cons .rfl (.cons .rfl (.cons .rfl (.cons (.arr (by simp) (Zfm ZN p8.1 (0+p8.2.toNat) (⟨(p8.1.getD (0+p8.2.toNat) default).ZH,r10⟩:Xw) _ rfl)) .nil)))))) (zg [1,2,39,40] 5 (rn h28))))
 exact ZX (XC (re h24 ⟨rfl,kq⟩))
 intro e31 s32 o33
 refine zi o33 (Za (Ud (s':=⟨136,u1,[.box [.str a0.ZH,.int .i64 a0.GC,sL 12 Zm r1,sL 2 Zu y6,.sl false 2 y11.length (fun k=>(fun i=>ZN (y11.getD i default)) (0+k)),sL 2 Yr a0.XK,sL 9 Z2 a0.Xf,sL 7 ZS a0.Zr,.bool a0.X5.Vz,.int .i64 a0.X5.Xd,sL 3 Xg a0.X5.ZF,sL 5 Zv a0.X5.Zs,.bool a0.Ye.Vz,.int .i64 a0.Ye.Xd,.str a0.Ye.VE,.str a0.Ye.YH,sL 5 Zv a0.Ye.Zs,.bool a0.Z8.Vz,.int .i64 a0.Z8.XM,.int .i64 a0.Z8.XN,sL 4 Xq a0.Z8.Zl,sL 2 Z7 a0.Z8.Zt,sL 3 Xh a0.Z8.Zq,sL 5 Xe a0.Z8.Zn,sL 5 Zv a0.Z8.Zs],.box [.str (⟨#[]⟩:ByteArray),.int .i64 0,.sl true 12 0 (fun _=>[]),.sl true 2 0 (fun _=>[]),.sl true 2 0 (fun _=>[]),.sl true 2 0 (fun _=>[]),.sl true 9 0 (fun _=>[]),.sl true 7 0 (fun _=>[]),.bool false,.int .i64 0,.sl true 3 0 (fun _=>[]),.sl true 5 0 (fun _=>[]),.bool false,.int .i64 0,.str (⟨#[]⟩:ByteArray),.str (⟨#[]⟩:ByteArray),.sl true 5 0 (fun _=>[]),.bool false,.int .i64 0,.int .i64 0,.sl true 4 0 (fun _=>[]),.sl true 2 0 (fun _=>[]),.sl true 3 0 (fun _=>[]),.sl true 5 0 (fun _=>[]),.sl true 5 0 (fun _=>[])],aL 12 Zm ([]:List Zx),aL 2 Zu ([]:List ZD),aL 2 ZN ([]:List Xw)]⟩) (Le.trans ((Zc5 (s:=⟨136,u1,[.box [.str a0.ZH,.int .i64 a0.GC,sL 12 Zm r1,sL 2 Zu y6,.asl 4 0 y11.length,sL 2 Yr a0.XK,sL 9 Z2 a0.Xf,sL 7 ZS a0.Zr,.bool a0.X5.Vz,.int .i64 a0.X5.Xd,sL 3 Xg a0.X5.ZF,sL 5 Zv a0.X5.Zs,.bool a0.Ye.Vz,.int .i64 a0.Ye.Xd,.str a0.Ye.VE,.str a0.Ye.YH,sL 5 Zv a0.Ye.Zs,.bool a0.Z8.Vz,.int .i64 a0.Z8.XM,.int .i64 a0.Z8.XN,sL 4 Xq a0.Z8.Zl,sL 2 Z7 a0.Z8.Zt,sL 3 Xh a0.Z8.Zq,sL 5 Xe a0.Z8.Zn,sL 5 Zv a0.Z8.Zs],.box [.str (⟨#[]⟩:ByteArray),.int .i64 0,.sl true 12 0 (fun _=>[]),.sl true 2 0 (fun _=>[]),.sl true 2 0 (fun _=>[]),.sl true 2 0 (fun _=>[]),.sl true 9 0 (fun _=>[]),.sl true 7 0 (fun _=>[]),.bool false,.int .i64 0,.sl true 3 0 (fun _=>[]),.sl true 5 0 (fun _=>[]),.bool false,.int .i64 0,.str (⟨#[]⟩:ByteArray),.str (⟨#[]⟩:ByteArray),.sl true 5 0 (fun _=>[]),.bool false,.int .i64 0,.int .i64 0,.sl true 4 0 (fun _=>[]),.sl true 2 0 (fun _=>[]),.sl true 3 0 (fun _=>[]),.sl true 5 0 (fun _=>[]),.sl true 5 0 (fun _=>[])],aL 12 Zm ([]:List Zx),aL 2 Zu ([]:List ZD),aL 2 ZN y11]⟩) (s':=⟨136,u1,[.box [.str a0.ZH,.int .i64 a0.GC,sL 12 Zm r1,sL 2 Zu y6,.sl false 2 y11.length (fun k=>(fun i=>ZN (y11.getD i default)) (0+k)),sL 2 Yr a0.XK,sL 9 Z2 a0.Xf,sL 7 ZS a0.Zr,.bool a0.X5.Vz,.int .i64 a0.X5.Xd,sL 3 Xg a0.X5.ZF,sL 5 Zv a0.X5.Zs,.bool a0.Ye.Vz,.int .i64 a0.Ye.Xd,.str a0.Ye.VE,.str a0.Ye.YH,sL 5 Zv a0.Ye.Zs,.bool a0.Z8.Vz,.int .i64 a0.Z8.XM,.int .i64 a0.Z8.XN,sL 4 Xq a0.Z8.Zl,sL 2 Z7 a0.Z8.Zt,sL 3 Xh a0.Z8.Zq,sL 5 Xe a0.Z8.Zn,sL 5 Zv a0.Z8.Zs],.box [.str (⟨#[]⟩:ByteArray),.int .i64 0,.sl true 12 0 (fun _=>[]),.sl true 2 0 (fun _=>[]),.sl true 2 0 (fun _=>[]),.sl true 2 0 (fun _=>[]),.sl true 9 0 (fun _=>[]),.sl true 7 0 (fun _=>[]),.bool false,.int .i64 0,.sl true 3 0 (fun _=>[]),.sl true 5 0 (fun _=>[]),.bool false,.int .i64 0,.str (⟨#[]⟩:ByteArray),.str (⟨#[]⟩:ByteArray),.sl true 5 0 (fun _=>[]),.bool false,.int .i64 0,.int .i64 0,.sl true 4 0 (fun _=>[]),.sl true 2 0 (fun _=>[]),.sl true 3 0 (fun _=>[]),.sl true 5 0 (fun _=>[]),.sl true 5 0 (fun _=>[])],aL 12 Zm ([]:List Zx),aL 2 Zu ([]:List ZD),aL 2 ZN ([]:List Xw)]⟩) 4 2 y11.length (fun i=>ZN (y11.getD i default)) (fun i=>ZN (([]:List Xw).getD i default)) (by kernel_rfl) (by kernel_rfl) (by kernel_rfl))) (kp [1,2])) ?_))
 obtain ⟨r12,q35,h36⟩:=bind_some h30
 refine rg [oL 2 Yr r12] [1,2] 6 ⟨136,u1,[.box [.str a0.ZH,.int .i64 a0.GC,sL 12 Zm r1,sL 2 Zu y6,.sl false 2 y11.length (fun k=>(fun i=>ZN (y11.getD i default)) (0+k)),.asl 5 0 r12.length,sL 9 Z2 a0.Xf,sL 7 ZS a0.Zr,.bool a0.X5.Vz,.int .i64 a0.X5.Xd,sL 3 Xg a0.X5.ZF,sL 5 Zv a0.X5.Zs,.bool a0.Ye.Vz,.int .i64 a0.Ye.Xd,.str a0.Ye.VE,.str a0.Ye.YH,sL 5 Zv a0.Ye.Zs,.bool a0.Z8.Vz,.int .i64 a0.Z8.XM,.int .i64 a0.Z8.XN,sL 4 Xq a0.Z8.Zl,sL 2 Z7 a0.Z8.Zt,sL 3 Xh a0.Z8.Zq,sL 5 Xe a0.Z8.Zn,sL 5 Zv a0.Z8.Zs],.box [.str (⟨#[]⟩:ByteArray),.int .i64 0,.sl true 12 0 (fun _=>[]),.sl true 2 0 (fun _=>[]),.sl true 2 0 (fun _=>[]),.sl true 2 0 (fun _=>[]),.sl true 9 0 (fun _=>[]),.sl true 7 0 (fun _=>[]),.bool false,.int .i64 0,.sl true 3 0 (fun _=>[]),.sl true 5 0 (fun _=>[]),.bool false,.int .i64 0,.str (⟨#[]⟩:ByteArray),.str (⟨#[]⟩:ByteArray),.sl true 5 0 (fun _=>[]),.bool false,.int .i64 0,.int .i64 0,.sl true 4 0 (fun _=>[]),.sl true 2 0 (fun _=>[]),.sl true 3 0 (fun _=>[]),.sl true 5 0 (fun _=>[]),.sl true 5 0 (fun _=>[])],aL 12 Zm ([]:List Zx),aL 2 Zu ([]:List ZD),aL 2 ZN ([]:List Xw),aL 2 Yr r12]⟩ [] [⟨true,118,[sL 2 Yr a0.XK],oL 2 Yr r12⟩] Zz ⟨fun _=>Kh a0.XK r12 q35,trivial⟩ (XD (s':=⟨136,u1,[.box [.str a0.ZH,.int .i64 a0.GC,sL 12 Zm r1,sL 2 Zu y6,sL 2 ZN y11,.asl 5 0 r12.length,sL 9 Z2 a0.Xf,sL 7 ZS a0.Zr,.bool a0.X5.Vz,.int .i64 a0.X5.Xd,sL 3 Xg a0.X5.ZF,sL 5 Zv a0.X5.Zs,.bool a0.Ye.Vz,.int .i64 a0.Ye.Xd,.str a0.Ye.VE,.str a0.Ye.YH,sL 5 Zv a0.Ye.Zs,.bool a0.Z8.Vz,.int .i64 a0.Z8.XM,.int .i64 a0.Z8.XN,sL 4 Xq a0.Z8.Zl,sL 2 Z7 a0.Z8.Zt,sL 3 Xh a0.Z8.Zq,sL 5 Xe a0.Z8.Zn,sL 5 Zv a0.Z8.Zs],.box [.str (⟨#[]⟩:ByteArray),.int .i64 0,.sl true 12 0 (fun _=>[]),.sl true 2 0 (fun _=>[]),.sl true 2 0 (fun _=>[]),.sl true 2 0 (fun _=>[]),.sl true 9 0 (fun _=>[]),.sl true 7 0 (fun _=>[]),.bool false,.int .i64 0,.sl true 3 0 (fun _=>[]),.sl true 5 0 (fun _=>[]),.bool false,.int .i64 0,.str (⟨#[]⟩:ByteArray),.str (⟨#[]⟩:ByteArray),.sl true 5 0 (fun _=>[]),.bool false,.int .i64 0,.int .i64 0,.sl true 4 0 (fun _=>[]),.sl true 2 0 (fun _=>[]),.sl true 3 0 (fun _=>[]),.sl true 5 0 (fun _=>[]),.sl true 5 0 (fun _=>[])],aL 12 Zm ([]:List Zx),aL 2 Zu ([]:List ZD),aL 2 ZN ([]:List Xw),aL 2 Yr r12]⟩) (JQ (.cons Sub.rfl (.cons Sub.rfl .nil)) (.cons (.box (.cons CSub.rfl (.cons CSub.rfl (.cons CSub.rfl (.cons CSub.rfl (.cons (KK rfl (Zaz (f:=fun i=>ZN (y11.getD i default)) (fun _ _=>rfl))) (.cons CSub.rfl (.cons CSub.rfl (.cons CSub.rfl (.cons CSub.rfl (.cons CSub.rfl (.cons CSub.rfl (.cons CSub.rfl (.cons CSub.rfl (.cons CSub.rfl (.cons CSub.rfl (.cons CSub.rfl (.cons CSub.rfl (.cons CSub.rfl (.cons CSub.rfl (.cons CSub.rfl (.cons CSub.rfl (.cons CSub.rfl (.cons CSub.rfl (.cons CSub.rfl (.cons CSub.rfl .nil)))))))))))))))))))))))))) (.cons .rfl (.cons .rfl (.cons .rfl (.cons .rfl (.cons .rfl .nil))))))) (Za (Za (zg [1,2,62,63] 6 (Zb (Zj ?_))))))
 obtain ⟨y16,q45,h46⟩:=bind_some h36
 refine zl (fun (p13:(List V2) × Int)=>⟨136,[(1,.ref 0 0),(2,.ref 1 0),(62,.int .i64 (r12.length:Int)),(63,.int .i64 p13.2)],[.box [.str a0.ZH,.int .i64 a0.GC,sL 12 Zm r1,sL 2 Zu y6,sL 2 ZN y11,.asl 5 0 p13.1.length,sL 9 Z2 a0.Xf,sL 7 ZS a0.Zr,.bool a0.X5.Vz,.int .i64 a0.X5.Xd,sL 3 Xg a0.X5.ZF,sL 5 Zv a0.X5.Zs,.bool a0.Ye.Vz,.int .i64 a0.Ye.Xd,.str a0.Ye.VE,.str a0.Ye.YH,sL 5 Zv a0.Ye.Zs,.bool a0.Z8.Vz,.int .i64 a0.Z8.XM,.int .i64 a0.Z8.XN,sL 4 Xq a0.Z8.Zl,sL 2 Z7 a0.Z8.Zt,sL 3 Xh a0.Z8.Zq,sL 5 Xe a0.Z8.Zn,sL 5 Zv a0.Z8.Zs],.box [.str (⟨#[]⟩:ByteArray),.int .i64 0,.sl true 12 0 (fun _=>[]),.sl true 2 0 (fun _=>[]),.sl true 2 0 (fun _=>[]),.sl true 2 0 (fun _=>[]),.sl true 9 0 (fun _=>[]),.sl true 7 0 (fun _=>[]),.bool false,.int .i64 0,.sl true 3 0 (fun _=>[]),.sl true 5 0 (fun _=>[]),.bool false,.int .i64 0,.str (⟨#[]⟩:ByteArray),.str (⟨#[]⟩:ByteArray),.sl true 5 0 (fun _=>[]),.bool false,.int .i64 0,.int .i64 0,.sl true 4 0 (fun _=>[]),.sl true 2 0 (fun _=>[]),.sl true 3 0 (fun _=>[]),.sl true 5 0 (fun _=>[]),.sl true 5 0 (fun _=>[])],aL 12 Zm ([]:List Zx),aL 2 Zu ([]:List ZD),aL 2 ZN ([]:List Xw),aL 2 Yr p13.1]⟩) (fun z=>OutE 4 (fun z=>⟨136,u1,[.box [.str a0.ZH,.int .i64 a0.GC,sL 12 Zm r1,sL 2 Zu y6,sL 2 ZN y11,.asl 5 0 z.length,sL 9 Z2 a0.Xf,sL 7 ZS a0.Zr,.bool a0.X5.Vz,.int .i64 a0.X5.Xd,sL 3 Xg a0.X5.ZF,sL 5 Zv a0.X5.Zs,.bool a0.Ye.Vz,.int .i64 a0.Ye.Xd,.str a0.Ye.VE,.str a0.Ye.YH,sL 5 Zv a0.Ye.Zs,.bool a0.Z8.Vz,.int .i64 a0.Z8.XM,.int .i64 a0.Z8.XN,sL 4 Xq a0.Z8.Zl,sL 2 Z7 a0.Z8.Zt,sL 3 Xh a0.Z8.Zq,sL 5 Xe a0.Z8.Zn,sL 5 Zv a0.Z8.Zs],.box [.str (⟨#[]⟩:ByteArray),.int .i64 0,.sl true 12 0 (fun _=>[]),.sl true 2 0 (fun _=>[]),.sl true 2 0 (fun _=>[]),.sl true 2 0 (fun _=>[]),.sl true 9 0 (fun _=>[]),.sl true 7 0 (fun _=>[]),.bool false,.int .i64 0,.sl true 3 0 (fun _=>[]),.sl true 5 0 (fun _=>[]),.bool false,.int .i64 0,.str (⟨#[]⟩:ByteArray),.str (⟨#[]⟩:ByteArray),.sl true 5 0 (fun _=>[]),.bool false,.int .i64 0,.int .i64 0,.sl true 4 0 (fun _=>[]),.sl true 2 0 (fun _=>[]),.sl true 3 0 (fun _=>[]),.sl true 5 0 (fun _=>[]),.sl true 5 0 (fun _=>[])],aL 12 Zm ([]:List Zx),aL 2 Zu ([]:List ZD),aL 2 ZN ([]:List Xw),aL 2 Yr z]⟩) z) q45 ?_ ?_
 intro p13 y14 h37
 unfold M.QP at h37
 refine Za (zg [1,2,62,63,64] 6 (Zb (Za (cn h37 (fun _ h39=>?_) (fun _ h40=>?_)))))
 refine Ze (Zb (Za (Zj (Za (rg0 [1,2,5,62,63] 6 ⟨136,[(1,.ref 0 0),(2,.ref 1 0),(5,.int .i64 p13.2),(62,.int .i64 (r12.length:Int)),(63,.int .i64 p13.2)],[.box [.str a0.ZH,.int .i64 a0.GC,sL 12 Zm r1,sL 2 Zu y6,sL 2 ZN y11,.asl 5 0 p13.1.length,sL 9 Z2 a0.Xf,sL 7 ZS a0.Zr,.bool a0.X5.Vz,.int .i64 a0.X5.Xd,sL 3 Xg a0.X5.ZF,sL 5 Zv a0.X5.Zs,.bool a0.Ye.Vz,.int .i64 a0.Ye.Xd,.str a0.Ye.VE,.str a0.Ye.YH,sL 5 Zv a0.Ye.Zs,.bool a0.Z8.Vz,.int .i64 a0.Z8.XM,.int .i64 a0.Z8.XN,sL 4 Xq a0.Z8.Zl,sL 2 Z7 a0.Z8.Zt,sL 3 Xh a0.Z8.Zq,sL 5 Xe a0.Z8.Zn,sL 5 Zv a0.Z8.Zs],.box [.str (⟨#[]⟩:ByteArray),.int .i64 0,.sl true 12 0 (fun _=>[]),.sl true 2 0 (fun _=>[]),.sl true 2 0 (fun _=>[]),.sl true 2 0 (fun _=>[]),.sl true 9 0 (fun _=>[]),.sl true 7 0 (fun _=>[]),.bool false,.int .i64 0,.sl true 3 0 (fun _=>[]),.sl true 5 0 (fun _=>[]),.bool false,.int .i64 0,.str (⟨#[]⟩:ByteArray),.str (⟨#[]⟩:ByteArray),.sl true 5 0 (fun _=>[]),.bool false,.int .i64 0,.int .i64 0,.sl true 4 0 (fun _=>[]),.sl true 2 0 (fun _=>[]),.sl true 3 0 (fun _=>[]),.sl true 5 0 (fun _=>[]),.sl true 5 0 (fun _=>[])],aL 12 Zm ([]:List Zx),aL 2 Zu ([]:List ZD),aL 2 ZN ([]:List Xw),aL 2 Yr p13.1]⟩ (Zb ?_))))))
 obtain ⟨r15,q41,h42⟩:=bind_some h39
 obtain ⟨c43,h44⟩:=Zy h42
 exact rgw [.pure (sL 10 Gs r15)] [1,2,62,63] 6 ⟨136,[(1,.ref 0 0),(2,.ref 1 0),(62,.int .i64 (r12.length:Int)),(63,.int .i64 p13.2)],[.box [.str a0.ZH,.int .i64 a0.GC,sL 12 Zm r1,sL 2 Zu y6,sL 2 ZN y11,.asl 5 0 p13.1.length,sL 9 Z2 a0.Xf,sL 7 ZS a0.Zr,.bool a0.X5.Vz,.int .i64 a0.X5.Xd,sL 3 Xg a0.X5.ZF,sL 5 Zv a0.X5.Zs,.bool a0.Ye.Vz,.int .i64 a0.Ye.Xd,.str a0.Ye.VE,.str a0.Ye.YH,sL 5 Zv a0.Ye.Zs,.bool a0.Z8.Vz,.int .i64 a0.Z8.XM,.int .i64 a0.Z8.XN,sL 4 Xq a0.Z8.Zl,sL 2 Z7 a0.Z8.Zt,sL 3 Xh a0.Z8.Zq,sL 5 Xe a0.Z8.Zn,sL 5 Zv a0.Z8.Zs],.box [.str (⟨#[]⟩:ByteArray),.int .i64 0,.sl true 12 0 (fun _=>[]),.sl true 2 0 (fun _=>[]),.sl true 2 0 (fun _=>[]),.sl true 2 0 (fun _=>[]),.sl true 9 0 (fun _=>[]),.sl true 7 0 (fun _=>[]),.bool false,.int .i64 0,.sl true 3 0 (fun _=>[]),.sl true 5 0 (fun _=>[]),.bool false,.int .i64 0,.str (⟨#[]⟩:ByteArray),.str (⟨#[]⟩:ByteArray),.sl true 5 0 (fun _=>[]),.bool false,.int .i64 0,.int .i64 0,.sl true 4 0 (fun _=>[]),.sl true 2 0 (fun _=>[]),.sl true 3 0 (fun _=>[]),.sl true 5 0 (fun _=>[]),.sl true 5 0 (fun _=>[])],aL 12 Zm ([]:List Zx),aL 2 Zu ([]:List ZD),aL 2 ZN ([]:List Xw),.arr 2 p13.1.length (fun j=>bif Nat.beq j (0+p13.2.toNat) then splice (Yr (p13.1.getD (0+p13.2.toNat) default)) [sL 10 Gs r15] 1 else Yr (p13.1.getD j default))]⟩ [decide (0≤p13.2),decide (p13.2 < (p13.1.length:Int)),decide (0≤p13.2),decide (p13.2 < (p13.1.length:Int))] [⟨true,119,[sL 10 Gs ((p13.1.getD (0+p13.2.toNat) default).Xv)],.pure (sL 10 Gs r15)⟩] c43 ⟨fun _=>G3 ((p13.1.getD (0+p13.2.toNat) default).Xv) r15 q41,trivial⟩ (XO (XD (s':=⟨136,[(1,.ref 0 0),(2,.ref 1 0),(62,.int .i64 (r12.length:Int)),(63,.int .i64 p13.2)],[.box [.str a0.ZH,.int .i64 a0.GC,sL 12 Zm r1,sL 2 Zu y6,sL 2 ZN y11,.asl 5 0 ((p13.1.set (0+p13.2.toNat) (⟨(p13.1.getD (0+p13.2.toNat) default).ZH,r15⟩:V2)).length),sL 9 Z2 a0.Xf,sL 7 ZS a0.Zr,.bool a0.X5.Vz,.int .i64 a0.X5.Xd,sL 3 Xg a0.X5.ZF,sL 5 Zv a0.X5.Zs,.bool a0.Ye.Vz,.int .i64 a0.Ye.Xd,.str a0.Ye.VE,.str a0.Ye.YH,sL 5 Zv a0.Ye.Zs,.bool a0.Z8.Vz,.int .i64 a0.Z8.XM,.int .i64 a0.Z8.XN,sL 4 Xq a0.Z8.Zl,sL 2 Z7 a0.Z8.Zt,sL 3 Xh a0.Z8.Zq,sL 5 Xe a0.Z8.Zn,sL 5 Zv a0.Z8.Zs],.box [.str (⟨#[]⟩:ByteArray),.int .i64 0,.sl true 12 0 (fun _=>[]),.sl true 2 0 (fun _=>[]),.sl true 2 0 (fun _=>[]),.sl true 2 0 (fun _=>[]),.sl true 9 0 (fun _=>[]),.sl true 7 0 (fun _=>[]),.bool false,.int .i64 0,.sl true 3 0 (fun _=>[]),.sl true 5 0 (fun _=>[]),.bool false,.int .i64 0,.str (⟨#[]⟩:ByteArray),.str (⟨#[]⟩:ByteArray),.sl true 5 0 (fun _=>[]),.bool false,.int .i64 0,.int .i64 0,.sl true 4 0 (fun _=>[]),.sl true 2 0 (fun _=>[]),.sl true 3 0 (fun _=>[]),.sl true 5 0 (fun _=>[]),.sl true 5 0 (fun _=>[])],aL 12 Zm ([]:List Zx),aL 2 Zu ([]:List ZD),aL 2 ZN ([]:List Xw),aL 2 Yr (p13.1.set (0+p13.2.toNat) (⟨(p13.1.getD (0+p13.2.toNat) default).ZH,r15⟩:V2))]⟩) (JQ (.cons Sub.rfl (.cons Sub.rfl (.cons Sub.rfl (.cons Sub.rfl .nil)))) (.cons (.box (.cons CSub.rfl (.cons CSub.rfl (.cons CSub.rfl (.cons CSub.rfl (.cons CSub.rfl (.cons (K7 (by simp)) (.cons CSub.rfl (.cons CSub.rfl (.cons CSub.rfl (.cons CSub.rfl (.cons CSub.rfl (.cons CSub.rfl (.cons CSub.rfl (.cons CSub.rfl (.cons CSub.rfl (.cons CSub.rfl (.cons CSub.rfl (.cons CSub.rfl (.cons CSub.rfl (.cons CSub.rfl (.cons CSub.rfl (.cons CSub.rfl (.cons CSub.rfl (.cons CSub.rfl (.cons CSub.rfl .nil)))))))))))))))))))))))))) (.cons .rfl (.cons .rfl (.cons .rfl (.cons .rfl (.cons (.arr (by simp) (Zfm Yr p13.1 (0+p13.2.toNat) (⟨(p13.1.getD (0+p13.2.toNat) default).ZH,r15⟩:V2) _ rfl)) .nil))))))) (zg [1,2,62,63] 6 (rn h44))))
 exact ZX (XC (re h40 ⟨rfl,kq⟩))
 intro e47 s48 o49
 refine zi o49 (Za (Ud (s':=⟨136,u1,[.box [.str a0.ZH,.int .i64 a0.GC,sL 12 Zm r1,sL 2 Zu y6,sL 2 ZN y11,.sl false 2 y16.length (fun k=>(fun i=>Yr (y16.getD i default)) (0+k)),sL 9 Z2 a0.Xf,sL 7 ZS a0.Zr,.bool a0.X5.Vz,.int .i64 a0.X5.Xd,sL 3 Xg a0.X5.ZF,sL 5 Zv a0.X5.Zs,.bool a0.Ye.Vz,.int .i64 a0.Ye.Xd,.str a0.Ye.VE,.str a0.Ye.YH,sL 5 Zv a0.Ye.Zs,.bool a0.Z8.Vz,.int .i64 a0.Z8.XM,.int .i64 a0.Z8.XN,sL 4 Xq a0.Z8.Zl,sL 2 Z7 a0.Z8.Zt,sL 3 Xh a0.Z8.Zq,sL 5 Xe a0.Z8.Zn,sL 5 Zv a0.Z8.Zs],.box [.str (⟨#[]⟩:ByteArray),.int .i64 0,.sl true 12 0 (fun _=>[]),.sl true 2 0 (fun _=>[]),.sl true 2 0 (fun _=>[]),.sl true 2 0 (fun _=>[]),.sl true 9 0 (fun _=>[]),.sl true 7 0 (fun _=>[]),.bool false,.int .i64 0,.sl true 3 0 (fun _=>[]),.sl true 5 0 (fun _=>[]),.bool false,.int .i64 0,.str (⟨#[]⟩:ByteArray),.str (⟨#[]⟩:ByteArray),.sl true 5 0 (fun _=>[]),.bool false,.int .i64 0,.int .i64 0,.sl true 4 0 (fun _=>[]),.sl true 2 0 (fun _=>[]),.sl true 3 0 (fun _=>[]),.sl true 5 0 (fun _=>[]),.sl true 5 0 (fun _=>[])],aL 12 Zm ([]:List Zx),aL 2 Zu ([]:List ZD),aL 2 ZN ([]:List Xw),aL 2 Yr ([]:List V2)]⟩) (Le.trans ((Zc5 (s:=⟨136,u1,[.box [.str a0.ZH,.int .i64 a0.GC,sL 12 Zm r1,sL 2 Zu y6,sL 2 ZN y11,.asl 5 0 y16.length,sL 9 Z2 a0.Xf,sL 7 ZS a0.Zr,.bool a0.X5.Vz,.int .i64 a0.X5.Xd,sL 3 Xg a0.X5.ZF,sL 5 Zv a0.X5.Zs,.bool a0.Ye.Vz,.int .i64 a0.Ye.Xd,.str a0.Ye.VE,.str a0.Ye.YH,sL 5 Zv a0.Ye.Zs,.bool a0.Z8.Vz,.int .i64 a0.Z8.XM,.int .i64 a0.Z8.XN,sL 4 Xq a0.Z8.Zl,sL 2 Z7 a0.Z8.Zt,sL 3 Xh a0.Z8.Zq,sL 5 Xe a0.Z8.Zn,sL 5 Zv a0.Z8.Zs],.box [.str (⟨#[]⟩:ByteArray),.int .i64 0,.sl true 12 0 (fun _=>[]),.sl true 2 0 (fun _=>[]),.sl true 2 0 (fun _=>[]),.sl true 2 0 (fun _=>[]),.sl true 9 0 (fun _=>[]),.sl true 7 0 (fun _=>[]),.bool false,.int .i64 0,.sl true 3 0 (fun _=>[]),.sl true 5 0 (fun _=>[]),.bool false,.int .i64 0,.str (⟨#[]⟩:ByteArray),.str (⟨#[]⟩:ByteArray),.sl true 5 0 (fun _=>[]),.bool false,.int .i64 0,.int .i64 0,.sl true 4 0 (fun _=>[]),.sl true 2 0 (fun _=>[]),.sl true 3 0 (fun _=>[]),.sl true 5 0 (fun _=>[]),.sl true 5 0 (fun _=>[])],aL 12 Zm ([]:List Zx),aL 2 Zu ([]:List ZD),aL 2 ZN ([]:List Xw),aL 2 Yr y16]⟩) (s':=⟨136,u1,[.box [.str a0.ZH,.int .i64 a0.GC,sL 12 Zm r1,sL 2 Zu y6,sL 2 ZN y11,.sl false 2 y16.length (fun k=>(fun i=>Yr (y16.getD i default)) (0+k)),sL 9 Z2 a0.Xf,sL 7 ZS a0.Zr,.bool a0.X5.Vz,.int .i64 a0.X5.Xd,sL 3 Xg a0.X5.ZF,sL 5 Zv a0.X5.Zs,.bool a0.Ye.Vz,.int .i64 a0.Ye.Xd,.str a0.Ye.VE,.str a0.Ye.YH,sL 5 Zv a0.Ye.Zs,.bool a0.Z8.Vz,.int .i64 a0.Z8.XM,.int .i64 a0.Z8.XN,sL 4 Xq a0.Z8.Zl,sL 2 Z7 a0.Z8.Zt,sL 3 Xh a0.Z8.Zq,sL 5 Xe a0.Z8.Zn,sL 5 Zv a0.Z8.Zs],.box [.str (⟨#[]⟩:ByteArray),.int .i64 0,.sl true 12 0 (fun _=>[]),.sl true 2 0 (fun _=>[]),.sl true 2 0 (fun _=>[]),.sl true 2 0 (fun _=>[]),.sl true 9 0 (fun _=>[]),.sl true 7 0 (fun _=>[]),.bool false,.int .i64 0,.sl true 3 0 (fun _=>[]),.sl true 5 0 (fun _=>[]),.bool false,.int .i64 0,.str (⟨#[]⟩:ByteArray),.str (⟨#[]⟩:ByteArray),.sl true 5 0 (fun _=>[]),.bool false,.int .i64 0,.int .i64 0,.sl true 4 0 (fun _=>[]),.sl true 2 0 (fun _=>[]),.sl true 3 0 (fun _=>[]),.sl true 5 0 (fun _=>[]),.sl true 5 0 (fun _=>[])],aL 12 Zm ([]:List Zx),aL 2 Zu ([]:List ZD),aL 2 ZN ([]:List Xw),aL 2 Yr ([]:List V2)]⟩) 5 2 y16.length (fun i=>Yr (y16.getD i default)) (fun i=>Yr (([]:List V2).getD i default)) (by kernel_rfl) (by kernel_rfl) (by kernel_rfl))) (kp [1,2])) ?_))
 obtain ⟨r17,q51,h52⟩:=bind_some h46
 refine rg [.pure (sL 9 Z2 r17)] [1,2] 2 ⟨136,u1,[.box [.str a0.ZH,.int .i64 a0.GC,sL 12 Zm r1,sL 2 Zu y6,sL 2 ZN y11,.sl false 2 y16.length (fun k=>(fun i=>Yr (y16.getD i default)) (0+k)),sL 9 Z2 r17,sL 7 ZS a0.Zr,.bool a0.X5.Vz,.int .i64 a0.X5.Xd,sL 3 Xg a0.X5.ZF,sL 5 Zv a0.X5.Zs,.bool a0.Ye.Vz,.int .i64 a0.Ye.Xd,.str a0.Ye.VE,.str a0.Ye.YH,sL 5 Zv a0.Ye.Zs,.bool a0.Z8.Vz,.int .i64 a0.Z8.XM,.int .i64 a0.Z8.XN,sL 4 Xq a0.Z8.Zl,sL 2 Z7 a0.Z8.Zt,sL 3 Xh a0.Z8.Zq,sL 5 Xe a0.Z8.Zn,sL 5 Zv a0.Z8.Zs],.box [.str (⟨#[]⟩:ByteArray),.int .i64 0,.sl true 12 0 (fun _=>[]),.sl true 2 0 (fun _=>[]),.sl true 2 0 (fun _=>[]),.sl true 2 0 (fun _=>[]),.sl true 9 0 (fun _=>[]),.sl true 7 0 (fun _=>[]),.bool false,.int .i64 0,.sl true 3 0 (fun _=>[]),.sl true 5 0 (fun _=>[]),.bool false,.int .i64 0,.str (⟨#[]⟩:ByteArray),.str (⟨#[]⟩:ByteArray),.sl true 5 0 (fun _=>[]),.bool false,.int .i64 0,.int .i64 0,.sl true 4 0 (fun _=>[]),.sl true 2 0 (fun _=>[]),.sl true 3 0 (fun _=>[]),.sl true 5 0 (fun _=>[]),.sl true 5 0 (fun _=>[])]]⟩ [] [⟨true,120,[sL 9 Z2 a0.Xf],.pure (sL 9 Z2 r17)⟩] Zz ⟨fun _=>Uo a0.Xf r17 q51,trivial⟩ (XD (s':=⟨136,u1,[.box [.str a0.ZH,.int .i64 a0.GC,sL 12 Zm r1,sL 2 Zu y6,sL 2 ZN y11,sL 2 Yr y16,sL 9 Z2 r17,sL 7 ZS a0.Zr,.bool a0.X5.Vz,.int .i64 a0.X5.Xd,sL 3 Xg a0.X5.ZF,sL 5 Zv a0.X5.Zs,.bool a0.Ye.Vz,.int .i64 a0.Ye.Xd,.str a0.Ye.VE,.str a0.Ye.YH,sL 5 Zv a0.Ye.Zs,.bool a0.Z8.Vz,.int .i64 a0.Z8.XM,.int .i64 a0.Z8.XN,sL 4 Xq a0.Z8.Zl,sL 2 Z7 a0.Z8.Zt,sL 3 Xh a0.Z8.Zq,sL 5 Xe a0.Z8.Zn,sL 5 Zv a0.Z8.Zs],.box [.str (⟨#[]⟩:ByteArray),.int .i64 0,.sl true 12 0 (fun _=>[]),.sl true 2 0 (fun _=>[]),.sl true 2 0 (fun _=>[]),.sl true 2 0 (fun _=>[]),.sl true 9 0 (fun _=>[]),.sl true 7 0 (fun _=>[]),.bool false,.int .i64 0,.sl true 3 0 (fun _=>[]),.sl true 5 0 (fun _=>[]),.bool false,.int .i64 0,.str (⟨#[]⟩:ByteArray),.str (⟨#[]⟩:ByteArray),.sl true 5 0 (fun _=>[]),.bool false,.int .i64 0,.int .i64 0,.sl true 4 0 (fun _=>[]),.sl true 2 0 (fun _=>[]),.sl true 3 0 (fun _=>[]),.sl true 5 0 (fun _=>[]),.sl true 5 0 (fun _=>[])]]⟩) (JQ (.cons Sub.rfl (.cons Sub.rfl .nil)) (.cons (.box (.cons CSub.rfl (.cons CSub.rfl (.cons CSub.rfl (.cons CSub.rfl (.cons CSub.rfl (.cons (KK rfl (Zaz (f:=fun i=>Yr (y16.getD i default)) (fun _ _=>rfl))) (.cons CSub.rfl (.cons CSub.rfl (.cons CSub.rfl (.cons CSub.rfl (.cons CSub.rfl (.cons CSub.rfl (.cons CSub.rfl (.cons CSub.rfl (.cons CSub.rfl (.cons CSub.rfl (.cons CSub.rfl (.cons CSub.rfl (.cons CSub.rfl (.cons CSub.rfl (.cons CSub.rfl (.cons CSub.rfl (.cons CSub.rfl (.cons CSub.rfl (.cons CSub.rfl .nil)))))))))))))))))))))))))) (.cons .rfl .nil))) (Za ?_))
 obtain ⟨r18,q53,h54⟩:=bind_some h52
 refine zr [1,2] 2 Zz (rq1 (Up _ _ q53) rqn) (Zb (Za ?_))
 obtain ⟨r19,q55,h56⟩:=bind_some h54
 refine zr [1,2] 2 Zz (rq1 (UN _ _ q55) rqn) (Zb (Za ?_))
 obtain ⟨r20,q57,h58⟩:=bind_some h56
 refine zr [1,2] 2 Zz (rq1 (Vr _ _ q57) rqn) (Zb (Za ?_))
 obtain ⟨r21,q59,h60⟩:=bind_some h58
 refine zr [1,2] 2 Zz (rq1 (Vr _ _ q59) rqn) (Zb (Za ?_))
 obtain ⟨r22,q61,h62⟩:=bind_some h60
 refine zr [1,2] 2 Zz (rq1 (U3 _ _ q61) rqn) (Zb (Za ?_))
 obtain ⟨r23,q63,h64⟩:=bind_some h62
 refine zr [1,2] 2 Zz (rq1 (Gy _ _ q63) rqn) (Zb (Za ?_))
 obtain ⟨r24,q65,h66⟩:=bind_some h64
 refine zr [1,2] 2 Zz (rq1 (UO _ _ q65) rqn) (Zb (Za ?_))
 obtain ⟨r25,q67,h68⟩:=bind_some h66
 refine zr [1,2] 2 Zz (rq1 (UP _ _ q67) rqn) (Zb (Za ?_))
 obtain ⟨r26,q69,h70⟩:=bind_some h68
 refine zr [1,2] 2 Zz (rq1 (Vr _ _ q69) rqn) (Zb (Za (zg [2] 2 (Zb (Zg ?_)))))
 obtain rfl:=Option.some.inj h70
 exact er0 (.agg [.str a0.ZH,.int .i64 a0.GC,sL 12 Zm r1,sL 2 Zu y6,sL 2 ZN y11,sL 2 Yr y16,sL 9 Z2 r17,sL 7 ZS r18,.bool a0.X5.Vz,.int .i64 a0.X5.Xd,sL 3 Xg r19,sL 5 Zv r20,.bool a0.Ye.Vz,.int .i64 a0.Ye.Xd,.str a0.Ye.VE,.str a0.Ye.YH,sL 5 Zv r21,.bool a0.Z8.Vz,.int .i64 a0.Z8.XM,.int .i64 a0.Z8.XN,sL 4 Xq r22,sL 2 Z7 r23,sL 3 Xh r24,sL 5 Xe r25,sL 5 Zv r26])
theorem Zcv (a0:ZP) (r:ZP) (h:M.JC a0=some r):Fn Tryz.prog 48 [.agg (Yn a0)] (.pure (.agg (Yn r))):=by
 let u1:=Yn a0
 unfold M.JC at h
 refine ZT Tryz.func48 rfl (by kernel_rfl) (Za (zg [1,2] 2 (Zb (Za ?_))))
 obtain ⟨r1,q1,h2⟩:=bind_some h
 refine rg [oL 25 ZB r1] [2,3] 3 ⟨24,[(2,.ref 1 0),(3,.asl 2 0 r1.length)],[.box u1,.box [.sl true 25 0 (fun _=>[])],aL 25 ZB r1]⟩ [] [⟨true,68,[sL 25 ZB a0.Zd],oL 25 ZB r1⟩] Zz ⟨fun _=>Gp a0.Zd r1 q1,trivial⟩ (Zb (Za (Za (zg [2,3,9,10] 3 (Zb (Zj ?_))))))
 obtain ⟨y5,q11,h12⟩:=bind_some h2
 refine zl (fun (p2:(List Zf) × Int)=>⟨24,[(2,.ref 1 0),(3,.asl 2 0 p2.1.length),(9,.int .i64 (r1.length:Int)),(10,.int .i64 p2.2)],[.box u1,.box [.sl true 25 0 (fun _=>[])],aL 25 ZB p2.1]⟩) (fun z=>OutE 0 (fun z=>⟨24,[(2,.ref 1 0),(3,.asl 2 0 z.length)],[.box u1,.box [.sl true 25 0 (fun _=>[])],aL 25 ZB z]⟩) z) q11 ?_ ?_
 intro p2 y3 h3
 unfold M.Qr at h3
 refine Za (zg [2,3,9,10,11] 3 (Zb (Za (cn h3 (fun _ h5=>?_) (fun _ h6=>?_)))))
 refine Ze (Zb (Za (Zj (Za (zg [2,3,4,9,10] 3 (Zb ?_))))))
 obtain ⟨r4,q7,h8⟩:=bind_some h5
 obtain ⟨c9,h10⟩:=Zy h8
 exact rg [.pure (.agg (ZB r4))] [2,3,9,10] 3 ⟨24,[(2,.ref 1 0),(3,.asl 2 0 p2.1.length),(9,.int .i64 (r1.length:Int)),(10,.int .i64 p2.2)],[.box (Yn a0),.box [.sl true 25 0 (fun _=>[])],.arr 25 p2.1.length (fun j=>bif Nat.beq j (0+p2.2.toNat) then splice (ZB (p2.1.getD (0+p2.2.toNat) default)) [.str r4.ZH,.int .i64 r4.GC,sL 12 Zm r4.Zc,sL 2 Zu r4.Xi,sL 2 ZN r4.Z9,sL 2 Yr r4.XK,sL 9 Z2 r4.Xf,sL 7 ZS r4.Zr,.bool r4.X5.Vz,.int .i64 r4.X5.Xd,sL 3 Xg r4.X5.ZF,sL 5 Zv r4.X5.Zs,.bool r4.Ye.Vz,.int .i64 r4.Ye.Xd,.str r4.Ye.VE,.str r4.Ye.YH,sL 5 Zv r4.Ye.Zs,.bool r4.Z8.Vz,.int .i64 r4.Z8.XM,.int .i64 r4.Z8.XN,sL 4 Xq r4.Z8.Zl,sL 2 Z7 r4.Z8.Zt,sL 3 Xh r4.Z8.Zq,sL 5 Xe r4.Z8.Zn,sL 5 Zv r4.Z8.Zs] 0 else ZB (p2.1.getD j default))]⟩ [decide (0≤p2.2),decide (p2.2 < (p2.1.length:Int)),decide (0≤p2.2),decide (p2.2 < (p2.1.length:Int))] [⟨true,69,[.agg (ZB (p2.1.getD (0+p2.2.toNat) default))],.pure (.agg (ZB r4))⟩] c9 ⟨fun _=>Zdk (p2.1.getD (0+p2.2.toNat) default) r4 q7,trivial⟩ (XO (XD (s':=⟨24,[(2,.ref 1 0),(3,.asl 2 0 ((p2.1.set (0+p2.2.toNat) r4).length)),(9,.int .i64 (r1.length:Int)),(10,.int .i64 p2.2)],[.box (Yn a0),.box [.sl true 25 0 (fun _=>[])],aL 25 ZB (p2.1.set (0+p2.2.toNat) r4)]⟩) (JQ (.cons Sub.rfl (.cons (Gb (by simp)) (.cons Sub.rfl (.cons Sub.rfl .nil)))) (.cons .rfl (.cons .rfl (.cons (.arr (by simp) (Zfm ZB p2.1 (0+p2.2.toNat) r4 _ rfl)) .nil)))) (zg [2,3,9,10] 3 (rn h10))))
 exact ZX (XC (re h6 ⟨rfl,kq⟩))
 intro e13 s14 o15
 refine zi o15 (Za (Ud (s':=⟨24,[(2,.ref 1 0),(3,sL 25 ZB y5)],[.box u1,.box [.sl true 25 0 (fun _=>[])],aL 25 ZB ([]:List Zf)]⟩) (Le.trans (Zhi 3 2 25 ZB y5 (fun i=>ZB (([]:List Zf).getD i default)) (by kernel_rfl) (by kernel_rfl) (by kernel_rfl)) (kp [2,3])) (zg [2] 2 (Zb (Zg ?_)))))
 obtain rfl:=Option.some.inj h12
 exact er0 (.agg [sL 25 ZB y5])
theorem ZaF (a0:ZP) (a1:List Int) (r:W2 × Int) (h:M.WM a0 a1=some r):Fn Tryz.prog 16 [.agg (Yn a0),sL 1 (ci .i64) a1] (.pure (.tup [.agg (Gt r.1),.int .i64 r.2])):=by
 let u2:=Yn a0
 unfold M.WM at h
 refine ZT Tryz.func16 rfl (by kernel_rfl) (Za (zg [1,2,4] 2 (Zb (Za ?_))))
 obtain ⟨r1,q1,h2⟩:=bind_some h
 let u1:List Ob:=[.box u2,.box [.sl true 25 0 (fun _=>[]),.sl true 4 0 (fun _=>[]),.sl true 1 0 (fun _=>[]),.sl true 1 0 (fun _=>[])],.box (Zbz r1.1)]
 refine zr [1,2,4,6,7] 3 Zz (rq1 (Zgw _ _ q1) rqn) (Zb (Za (Za (zg [1,2,4,6,7,16] 3 (Zb (cn h2 (fun _ h4=>?_) (fun _ h5=>?_)))))))
 refine Za (zg [4,5] 2 (Zb (Zg (Zh ?_))))
 obtain rfl:=Option.some.inj h4
 exact er (.tup [.agg [.sl false 25 0 (fun _=>[]),.sl false 4 0 (fun _=>[]),.sl false 1 0 (fun _=>[]),.sl false 1 0 (fun _=>[])],.int .i64 r1.2]) (KL (.cons (KZ (.cons Vt (.cons Vt (.cons Vt (.cons Vt .nil))))) (.cons ASub.rfl .nil)))
 refine Ze (Zb (Za (Za (zg [1,2,4,6,21] 3 (Zb (cn h5 (fun _ h7=>?_) (fun _ h8=>?_)))))))
 refine Za (zg [4,5] 2 (Zb (Zg (Zh ?_))))
 obtain rfl:=Option.some.inj h7
 exact er (.tup [.agg [.sl false 25 0 (fun _=>[]),.sl false 4 0 (fun _=>[]),.sl false 1 0 (fun _=>[]),.sl false 1 0 (fun _=>[])],.int .i64 1]) (KL (.cons (KZ (.cons Vt (.cons Vt (.cons Vt (.cons Vt .nil))))) (.cons ASub.rfl .nil)))
 refine Ze (Zb (Za (Za (zg [1,2,4,6,23,24,25] 3 (Zb (Zj ?_))))))
 obtain ⟨y4,q20,h21⟩:=bind_some h8
 refine zl (fun (p2:Int)=>⟨60,[(1,sL 1 (ci .i64) a1),(2,.ref 0 0),(4,.ref 1 0),(6,.ref 2 0),(23,sL 1 (ci .i64) a1),(24,.int .i64 (a1.length:Int)),(25,.int .i64 p2)],u1⟩) (Sum.elim (fun z=>OutE 0 (fun z=>⟨60,[(1,sL 1 (ci .i64) a1),(2,.ref 0 0),(4,.ref 1 0),(6,.ref 2 0)],u1⟩) z) (fun z=>OutR Tryz.prog Tryz.f16 (.tup [.agg (Gt z.1),.int .i64 z.2]))) q20 ?_ ?_
 intro p2 y3 h9
 unfold M.J6 at h9
 refine Za (zg [1,2,4,6,23,24,25,26] 3 (Zb (Za (cn h9 (fun _ h11=>?_) (fun _ h12=>?_)))))
 refine Ze (Zb (Za (Zj (Za ?_))))
 obtain ⟨c13,h14⟩:=Zy h11
 refine zc [1,2,4,6,8,9,23,24,25] 3 c13 (Zb (Za ?_))
 obtain ⟨c15,h16⟩:=Zy h14
 refine zc [1,2,4,6,23,24,25,51] 3 c15 (Zb (cn h16 (fun _ h18=>?_) (fun _ h19=>?_)))
 exact Za (rg0 [4,5] 2 ⟨60,[(4,.ref 1 0),(5,.int .i64 1)],[.box u2,.box [.sl true 25 0 (fun _=>[]),.sl true 4 0 (fun _=>[]),.sl true 1 0 (fun _=>[]),.sl true 1 0 (fun _=>[])]]⟩ (Zb (Zg (ZE (Zh (rr h18 ⟨rfl,er (.tup [.agg [.sl false 25 0 (fun _=>[]),.sl false 4 0 (fun _=>[]),.sl false 1 0 (fun _=>[]),.sl false 1 0 (fun _=>[])],.int .i64 1]) (KL (.cons (KZ (.cons Vt (.cons Vt (.cons Vt (.cons Vt .nil))))) (.cons ASub.rfl .nil)))⟩))))))
 exact Ze (XO (Zb (zg [1,2,4,6,23,24,25] 3 (rn h19))))
 exact ZX (XC (re h12 ⟨rfl,kq⟩))
 intro e22 s23 o24
 rcases y4 with g5 | y6
 have h25:=XY h21
 refine zi o24 (Za ?_)
 obtain ⟨r7,q28,h29⟩:=bind_some h25
 let u3:=Yn r7
 obtain ⟨r8,q30,h31⟩:=bind_some h29
 refine rgU [1,2,4,5,6,54,55,56,57,58,59] [([],[],[]),([.pure (.agg u3)],[],[⟨true,48,[.agg u2],.pure (.agg u3)⟩]),([],[],[]),([],[],[]),([.pure (sL 1 (ci .i64) r8)],[],[⟨true,49,[sL 1 (ci .i64) a1],.pure (sL 1 (ci .i64) r8)⟩]),([],[],[]),([],[],[]),([],[],[])] [4,5] 2 ⟨60,[(4,.ref 1 0),(5,.int .i64 0)],[.box u2,.box [sL 25 ZB r7.Zd,sL 4 Z0 r1.1.V3,sL 1 (ci .i64) r1.1.Wr,sL 1 (ci .i64) r8]]⟩ [] [⟨true,48,[.agg u2],.pure (.agg u3)⟩,⟨true,49,[sL 1 (ci .i64) a1],.pure (sL 1 (ci .i64) r8)⟩] Zz ⟨fun _=>Zcv a0 r7 q28,fun _=>Zaa a1 r8 q30,trivial⟩ (Zb (Zg ?_))
 obtain rfl:=Option.some.inj h31
 exact er0 (.tup [.agg [sL 25 ZB r7.Zd,sL 4 Z0 r1.1.V3,sL 1 (ci .i64) r1.1.Wr,sL 1 (ci .i64) r8],.int .i64 0])
 have h26:=XZ h21
 obtain ⟨rfl,n32⟩:=o24
 refine ZE (Zh ?_)
 obtain rfl:=Option.some.inj h26
 exact n32
theorem Zhx (a0:List Int) (a1:List Int) (r:Bool) (h:M.R7 a0 a1=some r):Fn Tryz.prog 18 [sL 1 (ci .i64) a0,sL 1 (ci .i64) a1] (.pure (.bool r)):=by
 unfold M.R7 at h
 refine ZT Tryz.func18 rfl (by kernel_rfl) (Za (zg [0,1] 0 (Zb (Za (Za (zg [0,1,10] 0 (Zb (cn h (fun _ h2=>?_) (fun _ h3=>?_)))))))))
 exact Za (zg [4] 0 (Zb (Zg (Zh (er1 h2)))))
 refine Ze (Zb (Za (Za (zg [0,1,5] 0 (Zb (Zj ?_))))))
 obtain ⟨y3,q13,h14⟩:=bind_some h3
 refine zl (fun (p1:Int)=>⟨26,[(0,sL 1 (ci .i64) a0),(1,sL 1 (ci .i64) a1),(5,.int .i64 p1)],[]⟩) (Sum.elim (fun z=>OutE 0 (fun z=>⟨26,[],[]⟩) z) (fun z=>OutR Tryz.prog Tryz.f18 (.bool z))) q13 ?_ ?_
 intro p1 y2 h4
 unfold M.Un at h4
 refine Za (Za (zg [0,1,5,14] 0 (Zb (cn h4 (fun _ h6=>?_) (fun _ h7=>?_)))))
 refine Ze (Zb (Za (Zj (Za ?_))))
 obtain ⟨c8,h9⟩:=Zy h6
 refine zc [0,1,5,25] 0 c8 (Zb (cn h9 (fun _ h11=>?_) (fun _ h12=>?_)))
 exact Za (zg [4] 0 (Zb (Zg (ZE (Zh (rr h11 ⟨rfl,er0 _⟩))))))
 exact Ze (XO (Zb (zg [0,1,5] 0 (rn h12))))
 exact ZX (XC (re h7 ⟨rfl,kq⟩))
 intro e15 s16 o17
 rcases y3 with g4 | y5
 have h18:=XY h14
 exact zi o17 (Za (zg [4] 0 (Zb (Zg (er1 h18)))))
 have h19:=XZ h14
 obtain ⟨rfl,n21⟩:=o17
 refine ZE (Zh ?_)
 obtain rfl:=Option.some.inj h19
 exact n21
theorem ZcS  (r:ZP) (h:M.W8 =some r):Fn Tryz.prog 47 [] (.pure (.agg (Yn r))):=by
 unfold M.W8 at h
 refine ZT Tryz.func47 rfl (by kernel_rfl) (Za (zg [0] 1 (Zb (Za (zg [0] 1 (Zb (Zg ?_)))))))
 obtain rfl:=Option.some.inj h
 exact er (.agg [.sl false 25 2 (fun i=>List.take 25 (List.drop (i*25) [.str (⟨#[97]⟩:ByteArray),.int .i64 0,.sl true 12 1 (fun i=>List.take 12 (List.drop (i*12) [.str (⟨#[101,48]⟩:ByteArray),.int .u32 167772161,.int .i64 24,.int .i64 0,.bool false,.bool false,.int .i64 0,.int .i64 0,.bool false,.str (⟨#[]⟩:ByteArray),.str (⟨#[]⟩:ByteArray),.int .i64 0])),.sl true 2 0 (fun _=>[]),.sl true 2 0 (fun _=>[]),.sl true 2 0 (fun _=>[]),.sl true 9 0 (fun _=>[]),.sl true 7 0 (fun _=>[]),.bool false,.int .i64 0,.sl true 3 0 (fun _=>[]),.sl true 5 0 (fun _=>[]),.bool false,.int .i64 0,.str (⟨#[]⟩:ByteArray),.str (⟨#[]⟩:ByteArray),.sl true 5 0 (fun _=>[]),.bool false,.int .i64 0,.int .i64 0,.sl true 4 0 (fun _=>[]),.sl true 2 0 (fun _=>[]),.sl true 3 0 (fun _=>[]),.sl true 5 0 (fun _=>[]),.sl true 5 0 (fun _=>[]),.str (⟨#[98]⟩:ByteArray),.int .i64 0,.sl true 12 2 (fun i=>List.take 12 (List.drop (i*12) [.str (⟨#[101,48]⟩:ByteArray),.int .u32 167772162,.int .i64 24,.int .i64 0,.bool false,.bool false,.int .i64 0,.int .i64 0,.bool false,.str (⟨#[]⟩:ByteArray),.str (⟨#[]⟩:ByteArray),.int .i64 0,.str (⟨#[101,49]⟩:ByteArray),.int .u32 167772418,.int .i64 24,.int .i64 0,.bool false,.bool false,.int .i64 0,.int .i64 0,.bool false,.str (⟨#[]⟩:ByteArray),.str (⟨#[]⟩:ByteArray),.int .i64 0])),.sl true 2 0 (fun _=>[]),.sl true 2 0 (fun _=>[]),.sl true 2 0 (fun _=>[]),.sl true 9 0 (fun _=>[]),.sl true 7 0 (fun _=>[]),.bool false,.int .i64 0,.sl true 3 0 (fun _=>[]),.sl true 5 0 (fun _=>[]),.bool false,.int .i64 0,.str (⟨#[]⟩:ByteArray),.str (⟨#[]⟩:ByteArray),.sl true 5 0 (fun _=>[]),.bool false,.int .i64 0,.int .i64 0,.sl true 4 0 (fun _=>[]),.sl true 2 0 (fun _=>[]),.sl true 3 0 (fun _=>[]),.sl true 5 0 (fun _=>[]),.sl true 5 0 (fun _=>[])]))]) (Zme (.cons (Zk2 rfl (fun i hi=>match i,hi with | 0,_=>(.cons PSub.rfl (.cons PSub.rfl (.cons (Zhf rfl (fun i hi=>match i,hi with | 0,_=>(.cons PSub.rfl (.cons PSub.rfl (.cons PSub.rfl (.cons PSub.rfl (.cons PSub.rfl (.cons PSub.rfl (.cons PSub.rfl (.cons PSub.rfl (.cons PSub.rfl (.cons PSub.rfl (.cons PSub.rfl (.cons PSub.rfl .nil)))))))))))) | n+1,h=>absurd h (by omega))) (.cons JK (.cons JK (.cons JK (.cons JK (.cons JK (.cons PSub.rfl (.cons PSub.rfl (.cons JK (.cons JK (.cons PSub.rfl (.cons PSub.rfl (.cons PSub.rfl (.cons PSub.rfl (.cons JK (.cons PSub.rfl (.cons PSub.rfl (.cons PSub.rfl (.cons JK (.cons JK (.cons JK (.cons JK (.cons JK .nil))))))))))))))))))))))))) | 1,_=>(.cons PSub.rfl (.cons PSub.rfl (.cons (Zhf rfl (fun i hi=>match i,hi with | 0,_=>(.cons PSub.rfl (.cons PSub.rfl (.cons PSub.rfl (.cons PSub.rfl (.cons PSub.rfl (.cons PSub.rfl (.cons PSub.rfl (.cons PSub.rfl (.cons PSub.rfl (.cons PSub.rfl (.cons PSub.rfl (.cons PSub.rfl .nil)))))))))))) | 1,_=>(.cons PSub.rfl (.cons PSub.rfl (.cons PSub.rfl (.cons PSub.rfl (.cons PSub.rfl (.cons PSub.rfl (.cons PSub.rfl (.cons PSub.rfl (.cons PSub.rfl (.cons PSub.rfl (.cons PSub.rfl (.cons PSub.rfl .nil)))))))))))) | n+2,h=>absurd h (by omega))) (.cons JK (.cons JK (.cons JK (.cons JK (.cons JK (.cons PSub.rfl (.cons PSub.rfl (.cons JK (.cons JK (.cons PSub.rfl (.cons PSub.rfl (.cons PSub.rfl (.cons PSub.rfl (.cons JK (.cons PSub.rfl (.cons PSub.rfl (.cons PSub.rfl (.cons JK (.cons JK (.cons JK (.cons JK (.cons JK .nil))))))))))))))))))))))))) | n+2,h=>absurd h (by omega))) .nil))
theorem Km (a0:List Ue) (a1:Ue) (r:Int) (h:M.Yq a0 a1=some r):Fn Tryz.prog 72 [sL 2 XF a0,.agg (XF a1)] (.pure (.int .i64 r)):=by
 unfold M.Yq at h
 refine ZT Tryz.func72 rfl (by kernel_rfl) (Za (zg [0,3] 1 (Zb (Za (Za (zg [0,3,7,8] 1 (Zb (Zj ?_))))))))
 obtain ⟨y3,q10,h11⟩:=bind_some h
 refine zl (fun (p1:Int)=>⟨19,[(0,sL 2 XF a0),(3,.ref 0 0),(7,.int .i64 (a0.length:Int)),(8,.int .i64 p1)],[.box (XF a1)]⟩) (Sum.elim (fun z=>OutE 0 (fun z=>⟨19,[],[]⟩) z) (fun z=>OutR Tryz.prog Tryz.f72 (.int .i64 z))) q10 ?_ ?_
 intro p1 y2 h1
 unfold M.Yp at h1
 refine Za (zg [0,3,7,8,9] 1 (Zb (Za (cn h1 (fun _ h3=>?_) (fun _ h4=>?_)))))
 refine Ze (Zb (Za (Zj (Za (zg [0,3,5,7,8] 1 (Zb (Za ?_)))))))
 obtain ⟨c5,h6⟩:=Zy h3
 refine zc [0,3,5,7,8,16] 1 c5 (Zb (cn h6 (fun _ h8=>?_) (fun _ h9=>?_)))
 exact Za (zg [4] 0 (Zb (Zg (ZE (Zh (rr h8 ⟨rfl,er0 _⟩))))))
 exact Ze (XO (Zb (zg [0,3,7,8] 1 (rn h9))))
 exact ZX (XC (re h4 ⟨rfl,kc⟩))
 intro e12 s13 o14
 rcases y3 with g4 | y5
 have h15:=XY h11
 exact zi o14 (Za (zg [4] 0 (Zb (Zg (er1 h15)))))
 have h16:=XZ h11
 obtain ⟨rfl,n18⟩:=o14
 refine ZE (Zh ?_)
 obtain rfl:=Option.some.inj h16
 exact n18
theorem GS (a0:List Ue) (a1:Ue) (r:Bool) (h:M.Ya a0 a1=some r):Fn Tryz.prog 54 [sL 2 XF a0,.agg (XF a1)] (.pure (.bool r)):=by
 unfold M.Ya at h
 refine ZT Tryz.func54 rfl (by kernel_rfl) (Za (zg [0,3] 1 (Zb (Za ?_))))
 obtain ⟨r1,q1,h2⟩:=bind_some h
 exact zr [4] 0 Zz (rq1 (Km _ _ _ q1) rqn) (Zb (Zg (er1 h2)))
theorem ZbP (a0:W2) (a1:Int) (a2:Int) (r:Int) (h:M.WL a0 a1 a2=some r):Fn Tryz.prog 25 [.agg (Gt a0),.int .i64 a1,.int .i64 a2] (.pure (.int .i64 r)):=by
 unfold M.WL at h
 refine ZT Tryz.func25 rfl (by kernel_rfl) (Za (zg [1,2,3] 1 (Zb (Za (zg [3,7] 2 (Zb (Za (Za (zg [7,15,16,17] 2 (Zb (Zj ?_)))))))))))
 obtain ⟨y4,q12,h13⟩:=bind_some h
 refine zl (fun (p1:Int)=>⟨28,[(7,.ref 1 0),(15,sL 4 Z0 a0.Uy.V3),(16,.int .i64 (a0.Uy.V3.length:Int)),(17,.int .i64 p1)],[.box (Gt a0),.box [.int .i64 a1,.int .i64 a2]]⟩) (Sum.elim (fun z=>OutE 0 (fun z=>⟨28,[],[]⟩) z) (fun z=>OutR Tryz.prog Tryz.f25 (.int .i64 z))) q12 ?_ ?_
 intro p1 y2 h1
 unfold M.WK at h1
 refine Za (zg [7,15,16,17,18] 2 (Zb (Za (cn h1 (fun _ h3=>?_) (fun _ h4=>?_)))))
 refine Ze (Zb (Za (Zj (Za ?_))))
 obtain ⟨c5,h6⟩:=Zy h3
 refine zc [7,8,9,15,16,17] 3 c5 (Zb (Za ?_))
 obtain ⟨r3,q7,h8⟩:=bind_some h6
 refine zr [7,8,15,16,17,25] 2 Zz (rq1 (GS _ _ _ q7) rqn) (Zb (cn h8 (fun _ h10=>?_) (fun _ h11=>?_)))
 exact Za (zg [6] 0 (Zb (Zg (ZE (Zh (rr h10 ⟨rfl,er0 _⟩))))))
 exact Ze (XO (Zb (zg [7,15,16,17] 2 (rn h11))))
 exact ZX (XC (re h4 ⟨rfl,kc⟩))
 intro e14 s15 o16
 rcases y4 with g5 | y6
 have h17:=XY h13
 refine zi o16 (Za ?_)
 cases h17
 have h18:=XZ h13
 obtain ⟨rfl,n20⟩:=o16
 refine ZE (Zh ?_)
 obtain rfl:=Option.some.inj h18
 exact n20
theorem GX (a0:List Int) (a1:Int) (r:Int) (h:M.Qf a0 a1=some r):Fn Tryz.prog 55 [sL 1 (ci .i64) a0,.int .i64 a1] (.pure (.int .i64 r)):=by
 unfold M.Qf at h
 refine ZT Tryz.func55 rfl (by kernel_rfl) (Za (zg [0,1] 0 (Zb (Za (Za (zg [0,1,7,8] 0 (Zb (Zj ?_))))))))
 obtain ⟨y3,q10,h11⟩:=bind_some h
 refine zl (fun (p1:Int)=>⟨19,[(0,sL 1 (ci .i64) a0),(1,.int .i64 a1),(7,.int .i64 (a0.length:Int)),(8,.int .i64 p1)],[]⟩) (Sum.elim (fun z=>OutE 0 (fun z=>⟨19,[],[]⟩) z) (fun z=>OutR Tryz.prog Tryz.f55 (.int .i64 z))) q10 ?_ ?_
 intro p1 y2 h1
 unfold M.QT at h1
 refine Za (zg [0,1,7,8,9] 0 (Zb (Za (cn h1 (fun _ h3=>?_) (fun _ h4=>?_)))))
 refine Ze (Zb (Za (Zj (Za (zg [0,1,5,7,8] 0 (Zb (Za ?_)))))))
 obtain ⟨c5,h6⟩:=Zy h3
 refine zc [0,1,5,7,8,16] 0 c5 (Zb (cn h6 (fun _ h8=>?_) (fun _ h9=>?_)))
 exact Za (zg [4] 0 (Zb (Zg (ZE (Zh (rr h8 ⟨rfl,er0 _⟩))))))
 exact Ze (XO (Zb (zg [0,1,7,8] 0 (rn h9))))
 exact ZX (XC (re h4 ⟨rfl,kq⟩))
 intro e12 s13 o14
 rcases y3 with g4 | y5
 have h15:=XY h11
 exact zi o14 (Za (zg [4] 0 (Zb (Zg (er1 h15)))))
 have h16:=XZ h11
 obtain ⟨rfl,n18⟩:=o14
 refine ZE (Zh ?_)
 obtain rfl:=Option.some.inj h16
 exact n18
theorem Zhy (a0:W2) (a1:Int) (a2:Int) (r:Int) (h:M.Gu a0 a1 a2=some r):Fn Tryz.prog 27 [.agg (Gt a0),.int .i64 a1,.int .i64 a2] (.pure (.int .i64 r)):=by
 unfold M.Gu at h
 refine ZT Tryz.func27 rfl (by kernel_rfl) (Za (zg [1,2,3] 1 (Zb (Za ?_))))
 obtain ⟨r1,q1,h2⟩:=bind_some h
 refine zr [3,7] 1 Zz (rq1 (ZbP _ _ _ _ q1) rqn) (Zb (Za (Za (zg [3,7,13] 1 (Zb (cn h2 (fun _ h4=>?_) (fun _ h5=>?_)))))))
 refine Za ?_
 cases h4
 refine Ze (Zb (Za ?_))
 obtain ⟨r2,q6,h7⟩:=bind_some h5
 exact zr [6] 0 Zz (rq1 (GX _ _ _ q6) rqn) (Zb (Zg (er1 h7)))
theorem Ra (a0:List Int) (a1:Int) (r:Bool) (h:M.Qi a0 a1=some r):Fn Tryz.prog 56 [sL 1 (ci .i64) a0,.int .i64 a1] (.pure (.bool r)):=by
 unfold M.Qi at h
 refine ZT Tryz.func56 rfl (by kernel_rfl) (Za (zg [0,1] 0 (Zb (Za ?_))))
 obtain ⟨r1,q1,h2⟩:=bind_some h
 exact zr [4] 0 Zz (rq1 (GX _ _ _ q1) rqn) (Zb (Zg (er1 h2)))
theorem Zdl (a0:W2) (a1:Int) (a2:Int) (r:Bool) (h:M.Gv a0 a1 a2=some r):Fn Tryz.prog 29 [.agg (Gt a0),.int .i64 a1,.int .i64 a2] (.pure (.bool r)):=by
 unfold M.Gv at h
 refine ZT Tryz.func29 rfl (by kernel_rfl) (Za (zg [1,2,3] 1 (Zb (Za (Za ?_)))))
 obtain ⟨r1,q1,h2⟩:=bind_some h
 refine zr [1,2,3,12] 1 Zz (rq1 (ZbP _ _ _ _ q1) rqn) (Zb (cn h2 (fun _ h4=>?_) (fun _ h5=>?_)))
 refine Za ?_
 cases h4
 refine Ze (Zb (Za ?_))
 obtain ⟨r2,q6,h7⟩:=bind_some h5
 refine zr [3,7] 1 Zz (rq1 (Zhy _ _ _ _ q6) rqn) (Zb (Za ?_))
 obtain ⟨r3,q8,h9⟩:=bind_some h7
 exact zr [6] 0 Zz (rq2 (fun hg=>Ra _ _ _ (Xn q8 hg)) rqn) (Zb (Zg (er1 h9)))
theorem Zgx  (r:Bool) (h:M.Wy =some r):Fn Tryz.prog 15 [] (.pure (.bool r)):=by
 unfold M.Wy at h
 refine ZT Tryz.func15 rfl (by kernel_rfl) (Za (zg [] 0 (Zb (Za ?_))))
 obtain ⟨r1,q1,h2⟩:=bind_some h
 let u1:=Yn r1
 obtain ⟨r2,q3,h4⟩:=bind_some h2
 refine rg [.pure (.agg u1),.pure (.tup [.agg (Gt r2.1),.int .i64 r2.2])] [1,2] 1 ⟨49,[(1,.ref 0 0),(2,.int .i64 r2.2)],[.box (Gt r2.1)]⟩ [] [⟨true,47,[],.pure (.agg u1)⟩,⟨true,16,[.agg u1,.nils],.pure (.tup [.agg (Gt r2.1),.int .i64 r2.2])⟩] Zz ⟨fun _=>ZcS  r1 q1,fun _=>(ZaF r1 ([]:List Int) r2 q3).args (.cons ASub.rfl (.cons ZjZ .nil)),trivial⟩ (Zb (Za ?_))
 obtain ⟨r3,q5,h6⟩:=bind_some h4
 obtain ⟨r4,q7,h8⟩:=bind_some h6
 refine rg [.pure (.agg (Yn r3)),.pure (.tup [.agg (Gt r4.1),.int .i64 r4.2])] [1,2,3,4] 2 ⟨49,[(1,.ref 0 0),(2,.int .i64 r2.2),(3,.ref 1 0),(4,.int .i64 r4.2)],[.box (Gt r2.1),.box (Gt r4.1)]⟩ [] [⟨true,47,[],.pure (.agg (Yn r3))⟩,⟨true,16,[.agg (Yn r3),.sl false 1 1 (fun i=>List.take 1 (List.drop (i*1) [.int .i64 0]))],.pure (.tup [.agg (Gt r4.1),.int .i64 r4.2])⟩] Zz ⟨fun _=>ZcS  r3 q5,fun _=>(ZaF r3 ([0]:List Int) r4 q7).args (.cons ASub.rfl (.cons (Zfk rfl (fun i hi=>match i,hi with | 0,_=>rfl | n+1,h=>absurd h (by omega))) .nil)),trivial⟩ (Zb (Za ?_))
 obtain ⟨r5,q9,h10⟩:=bind_some h8
 obtain ⟨r6,q11,h12⟩:=bind_some h10
 obtain ⟨r7,q13,h14⟩:=bind_some h12
 exact zr [0] 0 Zz (rq2 (fun hg=>Zdl _ _ _ _ (Xn q9 hg)) (rq2 (fun hg=>Zdl _ _ _ _ (Xn q11 hg)) (rq2 (fun hg=>Zdl _ _ _ _ (Xn q13 hg)) rqn))) (Zb (Zg (er1 h14)))
theorem RR (a0:ZP) (a1:List Int) (r:Bool) (h:M.Uc a0 a1=some r):Fn Tryz.prog 7 [.agg (Yn a0),sL 1 (ci .i64) a1] (.pure (.bool r)):=by
 unfold M.Uc at h
 refine ZT Tryz.func7 rfl (by kernel_rfl) (Za (zg [1,2] 1 (Zb (Za (Za ?_)))))
 obtain ⟨r1,q1,h2⟩:=bind_some h
 refine zr [1,2,20] 1 Zz (rq1 (Zf8 _ _ q1) rqn) (Zb (cn h2 (fun _ h4=>?_) (fun _ h5=>?_)))
 exact Za (zg [4] 0 (Zb (Zg (Zh (er1 h4)))))
 refine Ze (Zb (Za ?_))
 obtain ⟨r2,q6,h7⟩:=bind_some h5
 refine zr [1,2,5,6] 2 Zz (rq1 (Zf9 _ _ q6) rqn) (Zb (Za (Za (zg [1,2,5,27] 2 (Zb (cn h7 (fun _ h9=>?_) (fun _ h10=>?_)))))))
 exact Za (zg [4] 0 (Zb (Zg (Zh (er1 h9)))))
 refine Ze (Zb (Za ?_))
 obtain ⟨r3,q11,h12⟩:=bind_some h10
 refine zr [1,2,7,8] 1 Zz (rq1 (Zet _ _ _ q11) rqn) (Zb (Za ?_))
 obtain ⟨r4,q13,h14⟩:=bind_some h12
 refine zr [1,7,8,10] 0 Zz (rq1 (ZaF _ _ _ q13) rqn) (Zb (Za (zg [1,7,8,10,11] 0 (Zb (Za (Za (zg [1,7,8,10,11,12] 0 (Zb (Zj ?_)))))))))
 obtain ⟨y8,q23,h24⟩:=bind_some h14
 refine zl (fun (p5:Bool × Int)=>⟨67,[(1,sL 1 (ci .i64) a1),(7,sL 1 (cl 1 (ci .i64)) r3.1),(8,.int .i64 r3.2),(10,.int .i64 r4.2),(11,.bool p5.1),(12,.int .i64 p5.2)],[]⟩) (fun z=>OutE 0 (fun z=>⟨67,[(8,.int .i64 r3.2),(10,.int .i64 r4.2),(11,.bool z)],[]⟩) z) q23 ?_ ?_
 intro p5 y6 h15
 unfold M.J2 at h15
 refine Za (Za (zg [1,7,8,10,11,12,44] 0 (Zb (cn h15 (fun _ h17=>?_) (fun _ h18=>?_)))))
 refine Ze (Zb (Za (Zj ?_)))
 obtain ⟨r7,q19,h20⟩:=bind_some h17
 obtain ⟨c21,h22⟩:=Zy h20
 exact zr [1,7,8,10,11,12] 0 c21 (rq2 (fun hg=>Zhx _ _ _ (Xn q19 hg)) rqn) (XO (Zb (zg [1,7,8,10,11,12] 0 (rn h22))))
 exact ZX (XC (re h18 ⟨rfl,kq⟩))
 intro e25 s26 o27
 refine zi o27 (Za ?_)
 obtain ⟨r9,q29,h30⟩:=bind_some h24
 exact rg [.pure (.bool r9)] [4] 0 ⟨67,[(4,.bool (((r3.2==0)&&(y8==(r4.2==0)))&&r9))],[]⟩ [] [⟨(r3.2==0)&&(y8==(r4.2==0)),15,[],.pure (.bool r9)⟩] Zz ⟨fun hg=>Zgx  r9 (Xn q29 hg),trivial⟩ (Zb (Zg (er1 h30)))
end Nv
