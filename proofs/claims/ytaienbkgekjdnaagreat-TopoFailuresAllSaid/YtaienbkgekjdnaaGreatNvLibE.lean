/- Part of the proof of TopoFailuresAll: the library of walks. No condition. -/
import Derived.Test.YtaienbkgekjdnaaGreatNvLibD
import Derived.Test.YtaienbkgekjdnaaGreatNvLibC
namespace Nv
open Go Go.RowKit
def parB (ops:Array Oper) (k:Nat):Bool :=
 let M:=Region.before ops
 (List.range ops.size).all fun q=>bif Nat.blt q k then (M.getD k 0).testBit q else bif Nat.ble q (k+1) then true else (M.getD q 0).testBit k&&(M.getD q 0).testBit (q - 1)
theorem ZmC {ops:Array Oper} {k q:Nat} (h:parB ops k=true) (hq:q < ops.size) (hk:q < k):((Region.before ops).getD k 0).testBit q=true:=by
 have h1:=List.all_eq_true.1 h q (List.mem_range.2 hq)
 rw [show Nat.blt q k=true from Nat.ble_eq_true_of_le hk] at h1
 exact h1
theorem ZjC {ops:Array Oper} {k q:Nat} (h:parB ops k=true) (hq:q < ops.size) (hk:k+1 < q):((Region.before ops).getD q 0).testBit k=true∧((Region.before ops).getD q 0).testBit (q - 1)=true:=by
 have h1:=List.all_eq_true.1 h q (List.mem_range.2 hq)
 rw [show Nat.blt q k=false by (cases hb:Nat.blt q k with | false=>rfl | true=>have:=XW hb; omega),show Nat.ble q (k+1)=false by (cases hb:Nat.ble q (k+1) with | false=>rfl | true=>have:=Nat.le_of_ble_eq_true hb; omega)] at h1
 simpa using h1
theorem Zi9 {ops:Array Oper} {k:Nat} (h:parB ops k=true):chainB ops (k+1)=true:=by
 unfold chainB
 refine List.all_eq_true.2 fun q hq=>?_
 have hq':=List.mem_range.1 hq
 rcases Nat.lt_or_ge (k+1) q with h1 | h1
 ·rw [(ZjC h hq' h1).2,Bool.or_true]
 ·rw [show Nat.ble q (k+1)=true from Nat.ble_eq_true_of_le h1,Bool.true_or]
theorem Zm9 {listed:Array Bool} {j:Nat} (hj:j≤listed.size) (h:∀ q,listed.getD q false=true↔q < j):cnt listed=j:=by
 have e:listed.toList=List.replicate j true++List.replicate (listed.size - j) false:=by
  apply List.ext_getElem
  ·simp; omega
  ·intro i h1 h2
   have h3:i < listed.size:=by simpa using h1
   have h4:=h i
   have h5:listed.getD i false=listed[i]:=by simp [h3]
   rw [h5] at h4
   rcases Nat.lt_or_ge i j with h6 | h6
   ·rw [List.getElem_append_left (by simpa using h6)]
    simpa using h4.2 h6
   ·rw [List.getElem_append_right (by simpa using h6)]
    simp only [Array.getElem_toList,List.getElem_replicate]
    cases hl:listed[i] with
    | false=>rfl
    | true=>have:=h4.1 hl; omega
 unfold cnt
 rw [e,List.countP_append]
 simp [List.countP_replicate]
theorem Zf2 {P:Program} {ops:Array Oper} {Q:Exit→Act→World→Prop} {i:Nat} {K K':Act→World→Prop} {a:Act} {w:World} (h:∀ a w,K a w→K' a w) (hw:wpOp P ops Q i K a w):wpOp P ops Q i K' a w:=by
 unfold wpOp at hw ⊢
 cases ho:ops[i]? with
 | none=>rw [ho] at hw; exact h _ _ hw
 | some o =>
  rw [ho] at hw
  simp only at hw ⊢
  split
  ·rename_i hwn
   rw [if_pos hwn] at hw
   exact hw.imp (fun k=>Oper.wp_mono h k) fun k=>k
  ·rename_i hwn
   rw [if_neg hwn] at hw
   exact h _ _ hw
theorem ZmD {P:Program} {F:Fr} [GF P F] {nt k:Nat} {ops:Array Oper} {H:List Ob} {bs:List Bool} {rq:List Req} {E:Nat→List (Nat × D)} {V:Nat→D} {ok of:Oper} {ef:List (Nat × D)} {orc orc':List Res} {bf:List Bool} {rf:List Req} (hfl:flowB ops=true) (hp:parB ops k=true) (hkl:k+1 < ops.size)
  (hT:Trace P nt ops H bs rq 0 k E V) (hok:ops[k]? = some ok) (hpk:putE nt ok.dst (V k) (E k)=some (E (k+1))) (hof:ops[k+1]? = some of) (hsf:stepDr P ops (k+1) H (E (k+1)) orc of=some (V (k+1),bf,rf,orc')) (hpf:putE nt of.dst (V (k+1)) (E k)=some ef)
  (hb:∀ b∈bs,b=true) (hq:∀ q∈rq,q.ok P) (hbf:∀ b∈bf,b=true) (hqf:∀ q∈rf,q.ok P) {Q:Exit→Act→World→Prop} (keepA keepB:List Nat)
  (h1:∀ a w,Rel F ⟨nt,fin (E k) keepA,H⟩ a w→wpOps P ops Q (k :: List.range' (k+1) (ops.size - (k+1))) a w) (h2:∀ a w,Rel F ⟨nt,fin ef keepB,H⟩ a w→wpOps P ops Q (k :: List.range' (k+2) (ops.size - (k+2))) a w) :
  ∀ (fuel:Nat) (listed:Array Bool) (a:Act) (c:Ctx),DInv F nt ops H V (E 0) listed a c→(∀ i,listed.getD i false=true→i < k∨i=k+1)→cnt listed+fuel=ops.size→wpAny P .any ops Q fuel listed a c.w:=by
 have hnd:dstsB ops=true:=by simp only [flowB,Bool.and_eq_true] at hfl; exact hfl.1
 have flow:=Zfp hfl
 have val:∀ j,j≤k+1→∀ t,find (E j) t=valL ops V (E 0) (· < j) t:=fun j hj t=>by
  have:=Zii hnd (E:=E) (V:=V) (env0:=E 0) (nt:=nt) (k0:=0) (n:=k+1) (fun t=>by rw [WW]; intro i _ h; omega) (fun i h1 h2=>by
   by_cases e:i=k
   ·subst e; exact ⟨ok,hok,hpk⟩
   ·exact hT.put i h1 (by omega)) j (by omega) t
  simpa using this
 have stuckAll:∀ (listed:Array Bool),listed.size=ops.size→Region.ready .any ops listed=[]→∀ i,i < ops.size→listed.getD i false=true:=by
  intro listed hls hr i
  induction i using Nat.strongRecOn with
  | _ i ih =>
   intro hi
   cases hl:listed.getD i false with
   | true=>rfl
   | false =>
    exfalso
    have:i∈Region.ready .any ops listed:=by
     rw [mem_ready]
     refine ⟨by simp [hls,hi] at hl ⊢; exact hl,ops[i],by simp [hi],fun e he hbi=>?_⟩
     have h1:=flow i ops[i] (by simp [hi])
     simp only [flowAt,Bool.and_eq_true] at h1
     have h2:=Array.all_eq_true'.1 h1.1.1 e he
     simp only [hbi,Bool.not_true,Bool.false_or] at h2
     have h3:=XW h2
     exact ih e.on h3 (by omega)
    rw [hr] at this
    cases this
 have nok:∀ listed:Array Bool,(∀ i,listed.getD i false=true→i < k∨i=k+1)→listed.getD k false=false:=fun listed hL=>by
  cases hl:listed.getD k false with
  | false=>rfl
  | true=>have:=hL k hl; omega
 intro fuel
 induction fuel with
 | zero =>
  intro listed a c hD hL hcnt
  exfalso
  have:=R1 (listed:=listed) (by rw [hD.lsize]; omega) k (by rw [hD.lsize]; omega)
  rw [nok listed hL] at this; cases this
 | succ fuel ih =>
  intro listed a c hD hL hcnt
  refine ⟨fun hr=>?_,fun i hi=>?_⟩
  ·have:=stuckAll listed hD.lsize hr k (by omega)
   rw [nok listed hL] at this; cases this
  obtain ⟨hun,o,ho,hall⟩:=mem_ready.1 hi
  have hilt:=(Array.getElem?_eq_some_iff.1 ho).1
  have hunf:listed.getD i false=false:=by simp [hD.lsize,hilt] at hun ⊢; exact hun
  have hwaits:∀ j,Waits ops i j→listed.getD j false=true:=fun j ⟨o',ho',e,he,hbi,hon⟩=>by
   rw [ho] at ho'
   cases ho'
   rw [← hon]
   exact hall e he hbi
  have reachI:∀ l,((Region.before ops).getD i 0).testBit l=true→listed.getD l false=true:=fun l hb2=>Qg hD.closed (YW ops i l hilt hb2) hwaits
  have hseti:∀ j,(listed.setIfInBounds i true).getD j false=true↔j=i∨listed.getD j false=true:=Zci (by rw [hD.lsize]; exact hilt)
  have hcnt':cnt (listed.setIfInBounds i true)+fuel=ops.size:=by rw [Zcg (by rw [hD.lsize]; exact hilt) hunf]; omega
  rcases Nat.lt_trichotomy i k with hik | hik | hik
  ·obtain ⟨o',orc0,b,r,orc1,ho',hstep,hb1,hr1⟩:=hT.step i (Nat.zero_le _) hik
   rw [ho] at ho'
   cases ho'
   refine dstep hfl hD ho hunf hall (val i (by omega)) hstep (fun x hx=>hb x (hb1 x hx)) (fun q hx=>hq q (hr1 q hx)) (fun t ht=>?_) fun a' c' hD'=>ih _ a' c' hD' (fun j hj=>?_) hcnt'
   ·obtain ⟨o2,ho2,hp2⟩:=hT.put i (Nat.zero_le _) hik
    rw [ho] at ho2; cases ho2
    rw [ht] at hp2
    simp only [putE] at hp2
    cases hlt:Nat.blt t nt with
    | true=>exact XW hlt
    | false=>rw [hlt] at hp2; cases hp2
   ·rcases (hseti j).1 hj with h | h
    ·exact .inl (by omega)
    ·exact hL j h
  ·subst hik
   rw [hok] at ho
   cases ho
   have hlow:∀ q,q < i→listed.getD q false=true:=fun q hq=>reachI q (ZmC hp (by omega) hq)
   have step:∀ {j m:Nat},j+m=ops.size→i+1≤j→(∀ q,(listed.setIfInBounds i true).getD q false=true↔q < j)→fuel=m→∀ a w,wpOps P ops Q (List.range' j m) a w→wpAny P .any ops Q fuel (listed.setIfInBounds i true) a w:=fun {j m} hj hij hlj hm a w hw=>by
    subst hm
    exact ZgR hfl (Zi9 hp) fuel j _ a w hj hij (by simp [hD.lsize]) hlj hw
   have cntlow:∀ {j:Nat},j≤ops.size→(∀ q,(listed.setIfInBounds i true).getD q false=true↔q < j)→fuel=ops.size - j:=fun {j} hj hlj=>by
    have hc:cnt (listed.setIfInBounds i true)=j:=Zm9 (by simp [hD.lsize]; omega) hlj
    omega
   cases hf:listed.getD (i+1) false with
   | false =>
    have hlj:∀ q,(listed.setIfInBounds i true).getD q false=true↔q < i+1:=fun q=>by
     rw [hseti]
     refine ⟨fun h=>?_,fun h=>?_⟩
     ·rcases h with h | h
      ·omega
      ·rcases hL q h with h3 | h3
       ·omega
       ·subst h3; rw [hf] at h; cases h
     ·rcases Nat.lt_or_ge q i with h3 | h3
      ·exact .inr (hlow q h3)
      ·exact .inl (by omega)
    have henv:∀ t,find (E i) t=valL ops V (E 0) (fun i=>listed.getD i false=true) t:=fun t=>by
     rw [val i (by omega) t]
     refine QE hnd fun q _=>⟨fun h=>hlow q h,fun h=>?_⟩
     rcases hL q h with h3 | h3
     ·exact h3
     ·subst h3; rw [hf] at h; cases h
    have hR:RInv F nt ops ops.size ⟨E i,H,[]⟩ a c:=⟨hD.H,hD.inv,fun t=>by rw [henv]; exact hD.env t,hD.size,hD.defers,fun t j w d h=>by
     have h:find (E i) t = .opt j w d:=h
     rw [henv] at h
     have:=hD.opt t j w d h
     rcases Nat.lt_or_ge j listed.size with h3 | h3
     ·rw [hD.lsize] at h3; exact h3
     ·simp [Array.getElem?_eq_none h3] at this⟩
    have hw:=h1 a c.w (WZ hR keepA)
    rw [wpOps_cons] at hw
    exact Zf2 (fun a w h=>step (by omega) (Nat.le_refl _) hlj (cntlow (by omega) hlj) a w h) hw
   | true =>
    have hlj:∀ q,(listed.setIfInBounds i true).getD q false=true↔q < i+2:=fun q=>by
     rw [hseti]
     refine ⟨fun h=>?_,fun h=>?_⟩
     ·rcases h with h | h
      ·omega
      ·rcases hL q h with h3 | h3 <;> omega
     ·rcases Nat.lt_trichotomy q i with h3 | h3 | h3
      ·exact .inr (hlow q h3)
      ·exact .inl h3
      ·exact .inr (by rw [show q=i+1 by omega]; exact hf)
    have henv:∀ t,find ef t=valL ops V (E 0) (fun i=>listed.getD i false=true) t:=fun t=>by
     unfold putE at hpf
     split at hpf
     ·rename_i hd
      simp only [Option.some.injEq] at hpf
      rw [← hpf,val i (by omega) t]
      refine QE hnd fun q hq=>⟨fun h=>hlow q h,fun h=>?_⟩
      rcases hL q h with h3 | h3
      ·exact h3
      ·subst h3; rw [hof] at hq; simp [hd] at hq
     ·rename_i u hd
      cases hlt:Nat.blt u nt with
      | false=>rw [hlt] at hpf; cases hpf
      | true =>
       rw [hlt] at hpf
       simp only [cond_true,Option.some.injEq] at hpf
       rw [← hpf]
       simp only [find]
       have hdk:(ops[i+1]?).bind (·.dst)=some u:=by rw [hof]; exact hd
       cases hut:Nat.beq u t with
       | true =>
        obtain rfl:=Nat.eq_of_beq_eq_true hut
        simp only [cond_true]
        rw [Vn hnd hdk hf]
       | false =>
        simp only [cond_false]
        rw [val i (by omega) t]
        refine QE hnd fun q hq=>⟨fun h=>hlow q h,fun h=>?_⟩
        rcases hL q h with h3 | h3
        ·exact h3
        ·subst h3
         rw [hdk] at hq
         simp only [Option.some.injEq] at hq
         exact absurd hq (Nat.ne_of_beq_eq_false hut)
    have hR:RInv F nt ops ops.size ⟨ef,H,[]⟩ a c:=⟨hD.H,hD.inv,fun t=>by rw [henv]; exact hD.env t,hD.size,hD.defers,fun t j w d h=>by
     have h:find ef t = .opt j w d:=h
     rw [henv] at h
     have:=hD.opt t j w d h
     rcases Nat.lt_or_ge j listed.size with h3 | h3
     ·rw [hD.lsize] at h3; exact h3
     ·simp [Array.getElem?_eq_none h3] at this⟩
    have hw:=h2 a c.w (WZ hR keepB)
    rw [wpOps_cons] at hw
    exact Zf2 (fun a w h=>step (by omega) (by omega) hlj (cntlow (by omega) hlj) a w h) hw
  ·by_cases hi1:i=k+1
   ·subst hi1
    rw [hof] at ho
    cases ho
    refine dstep hfl hD hof hunf hall (val (k+1) (Nat.le_refl _)) hsf hbf hqf (fun t ht=>?_) fun a' c' hD'=>ih _ a' c' hD' (fun j hj=>?_) hcnt'
    ·rw [ht] at hpf
     simp only [putE] at hpf
     cases hlt:Nat.blt t nt with
     | true=>exact XW hlt
     | false=>rw [hlt] at hpf; cases hpf
    ·rcases (hseti j).1 hj with h | h
     ·exact .inr h
     ·exact hL j h
   ·have:=reachI k (ZjC hp hilt (by omega)).1
    rw [nok listed hL] at this; cases this
theorem ZmE {P:Program} {F:Fr} [GF P F] {ops:Array Oper} {k:Nat} (hnd:dstsB ops=true) {s s3:St} {orc:List Res} {keep:List Nat} {hn:Nat} {bs:List Bool} {rq:List Req} (h:regMid P ops k (k+1) orc keep hn s=some (s3,bs,rq)) (hb:∀ b∈bs,b=true) (hq:∀ q∈rq,q.ok P)
  {Q:Exit→Act→World→Prop} {rest:List Nat} (hQ:∀ a w,Rel F s3 a w→wpOps P ops Q rest a w) {a:Act} {w:World} (hR:Rel F s a w):wpOps P ops Q (k :: rest) a w:=by
 unfold regMid at h
 cases hc:(Nat.ble k (k+1)&&Nat.ble (k+1) ops.size) with
 | false=>rw [hc] at h; cases h
 | true =>
  rw [hc] at h
  simp only [cond_true] at h
  simp only [Bool.and_eq_true] at hc
  have hl:=Nat.le_of_ble_eq_true hc.2
  split at h <;> try cases h
  rename_i r bs' rq' hrun
  obtain ⟨q3,hcut,heq⟩:=Option.map_eq_some_iff.1 h
  simp only [Prod.mk.injEq] at heq
  obtain ⟨rfl,rfl,rfl⟩:=heq
  obtain ⟨c,rfl,h0⟩:=Uj (ops:=ops) (k:=k) (orc:=orc) hR rfl
  have hlen:((ops.toList.drop k).take (k+1 - k)).length=1:=by simp; omega
  have:=Gk hnd (Q:=Q) (rest:=rest) ((ops.toList.drop k).take (k+1 - k)) k ⟨s.env,s.H,orc⟩ r bs' rq' (fun j=>by
   rcases Nat.lt_or_ge j (k+1 - k) with h | h
   ·left; rw [List.getElem?_take_of_lt h,List.getElem?_drop]; simp
   ·right; rw [hlen]; omega) hrun hb hq a c h0 (fun a' c' hR'=>hQ _ _ (U5 hcut F a' c'.w (WZ hR' keep)))
  rw [hlen] at this
  exact this
def regP (P:Program) (ops:Array Oper) (k:Nat) (orc:List Res) (keepA:List Nat) (hnA:Nat) (keepB:List Nat) (hnB:Nat) (s:St):Option (St × St × List Bool × List Req) :=
 bif flowB ops&&P.follows .mixedOrders&&parB ops k&&Nat.blt (k+1) ops.size then
  match runDr P s.nt ops s.H 0 (ops.toList.take k) s.env orc,ops[k]?,ops[k+1]? with
  | some (e1,bs,rq,orc1),some o,some f=>match putE s.nt o.dst .any e1 with
   | some e2=>match stepDr P ops (k+1) s.H e2 orc1 f with
    | some (df,bf,rf,_)=>match putE s.nt f.dst df e1 with
     | some ef=>match cutS hnA ⟨s.nt,fin e1 keepA,s.H⟩,cutS hnB ⟨s.nt,fin ef keepB,s.H⟩ with
      | some sA,some sB=>some (sA,sB,bs++bf,rq++rf)
      | _,_=>none
     | none=>none
    | none=>none
   | none=>none
  | _,_,_=>none
 else none
theorem rgp {P:Program} {Q:Exit→St→Prop} {s:St} {id:Nat} {ops:Array Oper} (k:Nat) (orc:List Res) (keepA:List Nat) (hnA:Nat) (sA:St) (keepB:List Nat) (hnB:Nat) (sB:St) (bs:List Bool) (rq:List Req) (hb:∀ b∈bs,b=true) (hq:Reqs P rq)
  (orc1:List Res) (keep1:List Nat) (hn1:Nat) (s1:St) (bs1:List Bool) (rq1:List Req) (hb1:∀ b∈bs1,b=true) (hq1:Reqs P rq1)
  (orc2:List Res) (keep2:List Nat) (hn2:Nat) (s2:St) (bs2:List Bool) (rq2:List Req) (hb2:∀ b∈bs2,b=true) (hq2:Reqs P rq2)
  (orc3:List Res) (keep3:List Nat) (hn3:Nat) (bs3:List Bool) (rq3:List Req) (hb3:∀ b∈bs3,b=true) (hq3:Reqs P rq3) (k1:Q .normal s1)
  (h:regP P ops k orc keepA hnA keepB hnB s=some (sA,sB,bs,rq):=by kernel_rfl) (h1:regFrom P ops k orc1 keep1 hn1 sA=some (s1,bs1,rq1):=by kernel_rfl)
  (h2:regMid P ops k (k+1) orc2 keep2 hn2 sB=some (s2,bs2,rq2):=by kernel_rfl) (h3:regFrom P ops (k+2) orc3 keep3 hn3 s2=some (s1,bs3,rq3):=by kernel_rfl):AWP P (.region id ops true) Q s:=by
 rintro F a w hG ⟨c,rfl,hH,hI,henv,hsz,hd⟩
 unfold regP at h
 cases hc:(flowB ops&&P.follows .mixedOrders&&parB ops k&&Nat.blt (k+1) ops.size) with
 | false=>rw [hc] at h; cases h
 | true =>
  rw [hc] at h
  simp only [cond_true] at h
  simp only [Bool.and_eq_true] at hc
  obtain ⟨⟨⟨hfl,hmo⟩,hpar⟩,hkl⟩:=hc
  have hkl:=XW hkl
  have hnd:dstsB ops=true:=by simp only [flowB,Bool.and_eq_true] at hfl; exact hfl.1
  split at h <;> try cases h
  rename_i e1 bs0 rq0 orc0 o f hrun hok hof
  split at h <;> try cases h
  rename_i e2 hpk
  split at h <;> try cases h
  rename_i df bf rf orc4 hsf
  split at h <;> try cases h
  rename_i ef hpf
  split at h <;> try cases h
  rename_i hcA hcB
  refine wp_region_any hmo ?_
  obtain ⟨E,V,hE0,hE1,hT⟩:=ZfH (ops.toList.take k) 0 s.env e1 orc orc0 bs0 rq0 (fun j=>by
   rcases Nat.lt_or_ge j k with h | h
   ·left; rw [List.getElem?_take_of_lt h]; simp
   ·right; rw [List.length_take]; omega) hrun
  have l1:0+(ops.toList.take k).length=k:=by rw [List.length_take,Array.length_toList]; omega
  rw [l1] at hE1 hT
  -- the values behind
  let E':Nat→List (Nat × D):=fun i=>if i=k+1 then e2 else E i
  let V':Nat→D:=fun i=>if i < k then V i else if i=k then .any else df
  have hT':Trace P s.nt ops s.H bs0 rq0 0 k E' V':=⟨fun i h1 h2=>by
    obtain ⟨o',c1,c2,c3,c4,g1,g2,g3,g4⟩:=hT.step i h1 h2
    refine ⟨o',c1,c2,c3,c4,g1,?_,g3,g4⟩
    simp only [E',V',if_pos h2,if_neg (show ¬ i=k+1 by omega)]
    exact g2,fun i h1 h2=>by
    obtain ⟨o',g1,g2⟩:=hT.put i h1 h2
    refine ⟨o',g1,?_⟩
    simp only [E',V',if_pos h2,if_neg (show ¬ i=k+1 by omega),if_neg (show ¬ i+1=k+1 by omega)]
    exact g2⟩
  have eK:E' k=e1:=by simp only [E',if_neg (show ¬ k=k+1 by omega)]; exact hE1
  have eK1:E' (k+1)=e2:=by simp only [E',if_true]
  have e0:E' 0=s.env:=by simp only [E',if_neg (show ¬ 0=k+1 by omega)]; exact hE0
  have vK:V' k = .any:=by simp only [V',if_neg (Nat.lt_irrefl k),if_true]
  have vK1:V' (k+1)=df:=by simp only [V',if_neg (show ¬ k+1 < k by omega),if_neg (show ¬ k+1=k by omega)]
  let c':Ctx:={ c with w:=c.w.drew }
  have hgo:Goes c c':=⟨rfl,rfl,fun _ h=>h,fun _ _=>rfl,fun b hb=>(hI.imm b hb).1,fun id b hb=>(hI.loc id b hb).2.1⟩
  have hI':Inv F c':=hI.goes hgo (Bw.refl _ _).drew (fun _ h=>.inl h)
  have hnone:∀ i,¬ (Array.replicate ops.size false).getD i false=true:=fun i h=>by rw [J8] at h; cases h
  have hval:∀ t,valL ops V' (E' 0) (fun i=>(Array.replicate ops.size false).getD i false=true) t=find s.env t:=fun t=>by rw [WW (fun i _=>hnone i),e0]
  have hD:DInv F s.nt ops s.H V' (E' 0) (Array.replicate ops.size false) a c':=by
   refine ⟨hH,hI',fun t=>?_,hsz,hd,fun t j w d hf=>?_,by simp,fun i j _ h=>absurd h (hnone i)⟩
   ·rw [hval]; exact X9 (hgo.tv (henv t))
   ·rw [hval] at hf
    have:=henv t
    rw [hf] at this
    simp only [TV,AV] at this
    exact absurd this Qt
  refine ZmD (k:=k) (ok:=o) (of:=f) (ef:=ef) (orc:=orc0) (orc':=orc4) (bf:=bf) (rf:=rf) hfl hpar hkl hT' hok (by rw [vK,eK,eK1]; exact hpk) hof (by rw [eK1,vK1]; exact hsf) (by rw [vK1,eK]; exact hpf)
   (fun b h=>hb b (List.mem_append_left _ h)) (fun q h=>hq.all q (List.mem_append_left _ h)) (fun b h=>hb b (List.mem_append_right _ h)) (fun q h=>hq.all q (List.mem_append_right _ h)) keepA keepB (fun a w hR=>?_) (fun a w hR=>?_)
   ops.size _ a c' hD (fun i h=>absurd h (hnone i)) (by simp [cnt,List.countP_replicate])
  ·rw [eK] at hR
   have:=K4 hnd h1 hb1 hq1.all (Q:=fun e a' w'=>∃ s',Q e s'∧Rel F s' a' w') (fun a w h=>⟨_,k1,h⟩) (U5 hcA F a w hR)
   rw [show ops.size - k=(ops.size - (k+1))+1 by omega,List.range'_succ] at this
   exact this
  ·exact ZmE hnd h2 hb2 hq2.all (fun a w hR2=>K4 hnd h3 hb3 hq3.all (Q:=fun e a' w'=>∃ s',Q e s'∧Rel F s' a' w') (fun a w h=>⟨_,k1,h⟩) hR2) (U5 hcB F a w hR)
end Nv
