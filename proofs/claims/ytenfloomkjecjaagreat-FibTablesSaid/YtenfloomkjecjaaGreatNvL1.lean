/- The law FibTables of the given program: for every input the call returns true, and each argument reads behind the call as it read before. No condition. -/
import Derived.Test.YtenfloomkjecjaaGreatRows
import Derived.Test.YtenfloomkjecjaaGreatNvM1
import Derived.Test.YtenfloomkjecjaaGreatNvW1
import Derived.Test.YtenfloomkjecjaaGreatNvP1
import Derived.SizedLaws
import Derived.WalkKit
import Derived.ProofKit
import Derived.OpenShut
import Derived.ShutString
import Derived.ChangeOld
import Derived.Below
namespace Go.Proofs.YtenfloomkjecjaaGreat.fibTables
open Go.ChangeShapes Go.WideShapes Go.ChangeAt Go.RowKit Nv
open Go.ChangeMaps (open_string shut_string)
theorem own:ownKnob Tryz.prog.godebug=none:=by kernel_rfl
theorem laidOut:laidOutB Tryz.prog=true:=by kernel_rfl
set_option maxRecDepth 100000 in
theorem lifted (os:Os) (started:os.Started) (H:Type) (enc:TypeId × Value→H) :
  ReturnsInHanded {} Tryz.checked os 3 .any (Rows.fibTablesSpec.pre6 enc Tryz.prog Tryz.f3 Rows.fibTablesRow.domain false) (Rows.fibTablesSpec.post enc Tryz.prog Tryz.f3 false true false false):=by
 refine returnsInHanded_of_change_sized (C:=Tryz.checked) own started (by kernel_rfl) Tryz.func3
  (ChangeSpec.witness6 (enc:=enc) (C:=Tryz.checked) false ⟨#[],#[((Tryz.prog.info? 24).bind (·.zero)).getD (.agg #[]),.slice none 0 0,.slice none 0 0],[]⟩ 8 (by kernel_rfl) (by kernel_rfl) (by kernel_rfl) (by kernel_rfl)) ?_
 intro W base args ds gs before hval0 hW hcnd hwt0 _
 have hval:∀ (j:Nat) t v,Tryz.f3.params[j]? = some t→args[j]? = some v→Value.okWide Tryz.prog W .any base t v:=hval0
 have hW':=hW
 obtain ⟨p,q,hA0,hV,rfl,hfz,hnd⟩:=hW
 have hA:DataW.TrodAll enc Tryz.prog W 0 (fun _=>true) true Tryz.f3.params.toList args.toList ds p:=hA0
 have hwt:∀ (j:Nat) t d,Tryz.f3.params.toList[j]? = some t→ds[j]? = some d→Szd Tryz.prog t d:=fun j t d h1 h2 n hn=>of_decide_eq_true (List.all_eq_true.1 hwt0 n (DataW.weights_mem_each (j:=j) (List.getElem?_append_left (List.getElem?_eq_some_iff.1 h1).1 ▸ h1) (List.getElem?_append_left (List.getElem?_eq_some_iff.1 h2).1 ▸ h2) n hn))
 rw [Tryz.params3] at hA hval hwt
 obtain ⟨v0,vs0,d0,ds0,p0,q0,hargs,rfl,rfl,h0,r0⟩:=trodAll_cons hA
 obtain ⟨v1,vs1,d1,ds1,p1,q1,rfl,rfl,rfl,h1,r1⟩:=trodAll_cons r0
 obtain ⟨v2,vs2,d2,ds2,p2,q2,rfl,rfl,rfl,h2,r2⟩:=trodAll_cons r1
 obtain ⟨rfl,rfl,rfl⟩:=trodAll_nil r2
 obtain rfl:args = #[v0,v1,v2]:=by cases args; simp_all
 obtain ⟨rfl,rfl⟩:=trodVars_none hV
 have k0:=h0
 have lt0:∀ x∈p0,x.block < W.heap.size:=by obtain ⟨m,hm⟩:=k0; exact DataW.trod_lt m _ _ _ hm
 obtain ⟨a0,w0,av0⟩:=Znx (ZmO enc W) h0 (hwt 0 _ _ rfl rfl) (by obtain ⟨cs,hcs,_⟩:=okWide_struct Tryz.underlying24 (hval 0 24 v0 rfl rfl); exact ⟨cs,hcs⟩)
 have k1:=h1
 have lt1:∀ x∈p1,x.block < W.heap.size:=by obtain ⟨m,hm⟩:=k1; exact DataW.trod_lt m _ _ _ hm
 obtain ⟨a1,w1,av1⟩:=Zkp (dd:=fun x=>sL 1 (ci .i64) x) (YP (wd:=1) (by':=8) Tryz.underlying25 (by kernel_rfl) (by kernel_rfl) (by decide) (Xn Tryz.underlying3)) (fun _=>rfl) h1 (hwt 1 _ _ rfl rfl) (by obtain ⟨_,_,_,hx⟩:=okWide_slice Tryz.underlying25 (hval 1 25 v1 rfl rfl); intro cs e; rw [hx] at e; cases e)
 have k2:=h2
 have lt2:∀ x∈p2,x.block < W.heap.size:=by obtain ⟨m,hm⟩:=k2; exact DataW.trod_lt m _ _ _ hm
 obtain ⟨a2,w2,av2⟩:=Zkp (dd:=fun x=>sL 14 X1 x) (YP (wd:=14) (by':=136) Tryz.underlying26 (by kernel_rfl) (by kernel_rfl) (by decide) (ZmQ enc W)) (fun _=>rfl) h2 (hwt 2 _ _ rfl rfl) (by obtain ⟨_,_,_,hx⟩:=okWide_slice Tryz.underlying26 (hval 2 26 v2 rfl rfl); intro cs e; rw [hx] at e; cases e)
 clear hA0 hval0
 refine (Zk0 (Zda a0 a1 a2 true (ZfI a0 a1 a2 w0 w1 w2)) (Zny (by kernel_rfl)) (ZcR av0 (ZcR av1 (ZcR av2 ZkZ)))).mono fun e W' ⟨he,bel⟩=>?_
 subst he
 exact ⟨_,rfl,_,_,_,[],_,[],hW',trodAll_mk1 (shut_bool Tryz.underlying4 _),(trodAll_cons_mk (Below.trod laidOut (by kernel_rfl) (of_decide_eq_true (by kernel_rfl)) k0 bel lt0) (trodAll_cons_mk (Below.trod laidOut (by kernel_rfl) (of_decide_eq_true (by kernel_rfl)) k1 bel lt1) (trodAll_cons_mk (Below.trod laidOut (by kernel_rfl) (of_decide_eq_true (by kernel_rfl)) k2 bel lt2) trodAll_mk0))),rfl,bel.frame _,fun h=>by cases h⟩
theorem and_i {a b:Bool} (h:a=true) (k:b=true):(a&&b)=true:=by rw [h,k]; rfl
theorem j0:(Rows.fibTablesRow.wf (OpenSpec.ofChange Rows.fibTablesSpec))=true:=by kernel_rfl
theorem j1:(laidOutB Tryz.prog)=true:=laidOut
theorem j2:(mapsRowed Tryz.prog)=true:=by kernel_rfl
theorem j3:(Tryz.f3.params.all (Tryz.prog.readableRec ·))=true:=by kernel_rfl
theorem j4:(namedTie Tryz.prog Rows.fibTablesRow.named Rows.fibTablesSpec.vars)=true:=by kernel_rfl
theorem j5:(Rows.fibTablesRow.stops==[])=true:=by kernel_rfl
theorem j6:(Tryz.prog.stops==[])=true:=by kernel_rfl
theorem j7:(Rows.fibTablesRow.knobs==[])=true:=by kernel_rfl
theorem j8:(Tryz.prog.stopKnobs==[])=true:=by kernel_rfl
theorem j9:(Rows.fibTablesRow.inPlace==Tryz.prog.inPlace 3)=true:=by kernel_rfl
theorem j10:(Rows.fibTablesRow.unfollowed==Tryz.prog.unfollowed 3)=true:=by kernel_rfl
theorem j11:(Rows.fibTablesRow.recurses==Tryz.prog.recurses 3)=true:=by kernel_rfl
theorem j12:(Rows.fibTablesRow.named==Tryz.prog.varsNamed 3)=true:=by kernel_rfl
theorem j13:(Rows.fibTablesRow.maps==(Tryz.f3.params.toList++Rows.fibTablesSpec.plain.varTypes Tryz.prog).any (Tryz.prog.mapsRec ·))=true:=by kernel_rfl
theorem j14:(Rows.fibTablesRow.ifaces==(Tryz.f3.params.toList++Rows.fibTablesSpec.plain.varTypes Tryz.prog).any (Tryz.prog.ifacesRec ·))=true:=by kernel_rfl
theorem j15:(Rows.fibTablesRow.mapsOut==Tryz.prog.mapsAmong Tryz.f3.resultTypes.toList)=true:=by kernel_rfl
theorem j16:(Rows.fibTablesRow.loops==(Tryz.f3.params.toList++Rows.fibTablesSpec.plain.varTypes Tryz.prog).any (Tryz.prog.loopsFrom ·))=true:=by kernel_rfl
theorem j17:(Rows.fibTablesRow.wideKeys==(Tryz.f3.params.toList++Rows.fibTablesSpec.plain.varTypes Tryz.prog++Tryz.f3.resultTypes.toList).any (Tryz.prog.wideKeysFrom ·))=true:=by kernel_rfl
theorem j18:(Rows.fibTablesSpec.vars.all (Tryz.prog.varReadable ·))=true:=by kernel_rfl
theorem j19:(Tryz.f3.resultTypes.all (fun t=>Tryz.prog.readableRec t&&decide (t < Tryz.prog.types.size)))=true:=by kernel_rfl
theorem j20:(Rows.fibTablesRow.ifacesOut==Tryz.f3.resultTypes.toList.any (Tryz.prog.ifacesRec ·))=true:=by kernel_rfl
theorem j21:(Rows.fibTablesRow.loopsOut==Tryz.f3.resultTypes.toList.any (Tryz.prog.loopsFrom ·))=true:=by kernel_rfl
theorem j22:(Rows.fibTablesRow.plainKeys==Tryz.prog.plainKeys)=true:=by kernel_rfl
theorem j23:(Rows.fibTablesRow.shortTexts.isNone)=true:=by kernel_rfl
theorem j24:(Tryz.prog.stopsHeard)=true:=by kernel_rfl
theorem j25:(Tryz.prog.mayEnter)=true:=by kernel_rfl
theorem j26:(Rows.fibTablesRow.lifted==Tryz.prog.liftsFinal)=true:=by kernel_rfl
theorem j27:(Tryz.prog.make==some Rows.fibTablesRow.make)=true:=by kernel_rfl
theorem j28:(Rows.fibTablesRow.kinds==(if Rows.fibTablesRow.domain.isEmpty then [] else Tryz.f3.params.toList.map fun t=>match Tryz.prog.underlying t with | some (.int k)=>some k | _=>none))=true:=by kernel_rfl
theorem j29:(Rows.fibTablesRow.pinned==Rows.fibTablesRow.pinnedBy)=true:=by kernel_rfl
theorem j30:(Rows.fibTablesRow.veiled==(Tryz.f3.params.toList++Rows.fibTablesSpec.plain.varTypes Tryz.prog++Tryz.f3.resultTypes.toList).any (Tryz.prog.veiledRec ·))=true:=by kernel_rfl
theorem j31:(Rows.fibTablesRow.veiledFits Tryz.prog Tryz.f3.params.toList (Tryz.f3.params.toList++Rows.fibTablesSpec.plain.varTypes Tryz.prog++Tryz.f3.resultTypes.toList))=true:=by kernel_rfl
set_option maxRecDepth 100000 in
theorem joined:joinedFacts Tryz.prog 3 Tryz.f3 Rows.fibTablesSpec Rows.fibTablesRow=true:=by
 unfold joinedFacts
 exact (and_i (and_i (and_i (and_i (and_i (and_i (and_i (and_i (and_i (and_i (and_i (and_i (and_i (and_i (and_i (and_i (and_i (and_i (and_i (and_i (and_i (and_i (and_i (and_i (and_i (and_i (and_i (and_i (and_i (and_i (and_i j0 j1) j2) j3) j4) j5) j6) j7) j8) j9) j10) j11) j12) j13) j14) j15) j16) j17) j18) j19) j20) j21) j22) j23) j24) j25) j26) j27) j28) j29) j30) j31)
theorem over:Rows.fibTablesRow.holds Tryz.pinned (OpenSpec.ofChange Rows.fibTablesSpec) :=
 OpenClaim.holds_of_wide 3 Tryz.f3 rfl rfl rfl rfl rfl rfl rfl ⟨rfl,rfl,rfl,rfl,rfl⟩ rfl rfl rfl rfl rfl (by kernel_rfl) Tryz.func3 joined
  (of_decide_eq_true (by kernel_rfl)) (by unfold Func.isWrapper; first | (rw [if_pos (by decide +kernel)]; kernel_rfl) | (rw [if_neg (by decide +kernel)]; exact ⟨rfl,rfl⟩))
  (fun os started H enc _=>lifted os started H enc)
theorem proved:Rows.FibTablesSaid:=over
#print axioms proved
end Go.Proofs.YtenfloomkjecjaaGreat.fibTables
