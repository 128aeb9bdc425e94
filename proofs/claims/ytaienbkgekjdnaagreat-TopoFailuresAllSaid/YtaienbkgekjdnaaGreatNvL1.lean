/- The law TopoFailuresAll of the given program: for every input the call returns true, and each argument reads behind the call as it read before. No condition. -/
import Derived.Test.YtaienbkgekjdnaaGreatRows
import Derived.Test.YtaienbkgekjdnaaGreatNvM1
import Derived.Test.YtaienbkgekjdnaaGreatNvW1
import Derived.Test.YtaienbkgekjdnaaGreatNvP1
import Derived.SizedLaws
import Derived.WalkKit
import Derived.ProofKit
import Derived.OpenShut
import Derived.ShutString
import Derived.ChangeOld
import Derived.Below
namespace Go.Proofs.YtaienbkgekjdnaaGreat.topoFailuresAll
open Go.ChangeShapes Go.WideShapes Go.ChangeAt Go.RowKit Nv
open Go.ChangeMaps (open_string shut_string)
theorem own:ownKnob Tryz.prog.godebug=none:=by kernel_rfl
theorem laidOut:laidOutB Tryz.prog=true:=by kernel_rfl
set_option maxRecDepth 100000 in
theorem lifted (os:Os) (started:os.Started) (H:Type) (enc:TypeId × Value→H) :
  ReturnsInHanded {} Tryz.checked os 7 .any (Rows.topoFailuresAllSpec.pre6 enc Tryz.prog Tryz.f7 Rows.topoFailuresAllRow.domain false) (Rows.topoFailuresAllSpec.post enc Tryz.prog Tryz.f7 false true false false):=by
 refine returnsInHanded_of_change_sized (C:=Tryz.checked) own started (by kernel_rfl) Tryz.func7
  (ChangeSpec.witness6 (enc:=enc) (C:=Tryz.checked) false ⟨#[],#[((Tryz.prog.info? 24).bind (·.zero)).getD (.agg #[]),.slice none 0 0],[]⟩ 8 (by kernel_rfl) (by kernel_rfl) (by kernel_rfl) (by kernel_rfl)) ?_
 intro W base args ds gs before hval0 hW hcnd hwt0 _
 have hval:∀ (j:Nat) t v,Tryz.f7.params[j]? = some t→args[j]? = some v→Value.okWide Tryz.prog W .any base t v:=hval0
 have hW':=hW
 obtain ⟨p,q,hA0,hV,rfl,hfz,hnd⟩:=hW
 have hA:DataW.TrodAll enc Tryz.prog W 0 (fun _=>true) true Tryz.f7.params.toList args.toList ds p:=hA0
 have hwt:∀ (j:Nat) t d,Tryz.f7.params.toList[j]? = some t→ds[j]? = some d→Szd Tryz.prog t d:=fun j t d h1 h2 n hn=>of_decide_eq_true (List.all_eq_true.1 hwt0 n (DataW.weights_mem_each (j:=j) (List.getElem?_append_left (List.getElem?_eq_some_iff.1 h1).1 ▸ h1) (List.getElem?_append_left (List.getElem?_eq_some_iff.1 h2).1 ▸ h2) n hn))
 rw [Tryz.params7] at hA hval hwt
 obtain ⟨v0,vs0,d0,ds0,p0,q0,hargs,rfl,rfl,h0,r0⟩:=trodAll_cons hA
 obtain ⟨v1,vs1,d1,ds1,p1,q1,rfl,rfl,rfl,h1,r1⟩:=trodAll_cons r0
 obtain ⟨rfl,rfl,rfl⟩:=trodAll_nil r1
 obtain rfl:args = #[v0,v1]:=by cases args; simp_all
 obtain ⟨rfl,rfl⟩:=trodVars_none hV
 have k0:=h0
 have lt0:∀ x∈p0,x.block < W.heap.size:=by obtain ⟨m,hm⟩:=k0; exact DataW.trod_lt m _ _ _ hm
 obtain ⟨a0,w0,av0⟩:=Zmk (ZlL enc W) h0 (hwt 0 _ _ rfl rfl) (by obtain ⟨cs,hcs,_⟩:=okWide_struct Tryz.underlying24 (hval 0 24 v0 rfl rfl); exact ⟨cs,hcs⟩)
 have k1:=h1
 have lt1:∀ x∈p1,x.block < W.heap.size:=by obtain ⟨m,hm⟩:=k1; exact DataW.trod_lt m _ _ _ hm
 obtain ⟨a1,w1,av1⟩:=Zmj (dd:=fun x=>sL 1 (ci .i64) x) (Q5 (wd:=1) (by':=8) Tryz.underlying27 (by kernel_rfl) (by kernel_rfl) (by decide) (X1 Tryz.underlying3)) (fun _=>rfl) h1 (hwt 1 _ _ rfl rfl) (by obtain ⟨_,_,_,hx⟩:=okWide_slice Tryz.underlying27 (hval 1 27 v1 rfl rfl); intro cs e; rw [hx] at e; cases e)
 clear hA0 hval0
 refine (Zj1 (RR a0 a1 true (Zbj a0 a1 w0 w1)) (Zml (by kernel_rfl)) (ZfL av0 (ZfL av1 Zj0))).mono fun e W' ⟨he,bel⟩=>?_
 subst he
 exact ⟨_,rfl,_,_,_,[],_,[],hW',trodAll_mk1 (shut_bool Tryz.underlying4 _),(trodAll_cons_mk (Below.trod laidOut (by kernel_rfl) (of_decide_eq_true (by kernel_rfl)) k0 bel lt0) (trodAll_cons_mk (Below.trod laidOut (by kernel_rfl) (of_decide_eq_true (by kernel_rfl)) k1 bel lt1) trodAll_mk0)),rfl,bel.frame _,fun h=>by cases h⟩
theorem over:Rows.topoFailuresAllRow.holds Tryz.pinned (OpenSpec.ofChange Rows.topoFailuresAllSpec) :=
 OpenClaim.holds_of_wide 7 Tryz.f7 rfl rfl rfl rfl rfl rfl rfl ⟨rfl,rfl,rfl,rfl,rfl⟩ rfl rfl rfl rfl rfl (by kernel_rfl) Tryz.func7 (by kernel_rfl)
  (of_decide_eq_true (by kernel_rfl)) (by unfold Func.isWrapper; first | (rw [if_pos (by decide +kernel)]; kernel_rfl) | (rw [if_neg (by decide +kernel)]; exact ⟨rfl,rfl⟩))
  (fun os started H enc _=>lifted os started H enc)
theorem proved:Rows.TopoFailuresAllSaid:=over
#print axioms proved
end Go.Proofs.YtaienbkgekjdnaaGreat.topoFailuresAll
