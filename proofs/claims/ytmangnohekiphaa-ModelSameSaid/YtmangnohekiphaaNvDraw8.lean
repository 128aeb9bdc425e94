/- The rule for regions with floating allocations. -/
import Derived.Test.YtmangnohekiphaaNvDraw7
import Derived.Test.YtmangnohekiphaaNvFrz2
namespace Nv
open Go Go.RowKit
def cmpFrom (p : Nat) (ops : Array Oper) : Bool :=
  let M := Region.before ops
  ops.toList.zipIdx.all fun w => !wrB w.1.op || ops.toList.zipIdx.all fun q => stillB q.1.op || Nat.blt q.2 p || Nat.beq w.2 q.2 || bif Nat.blt q.2 w.2 then (M.getD w.2 0).testBit q.2 else (M.getD q.2 0).testBit w.2
theorem cmpFrom_spec {p : Nat} {ops : Array Oper} (h : cmpFrom p ops = true) {w i : Nat} {ow oi : Oper} (hw : ops[w]? = some ow) (hi : ops[i]? = some oi) (h1 : wrB ow.op = true) (h2 : stillB oi.op = false) (hne : w ≠ i) (hp : p ≤ i) :
    (i < w ∧ ((Region.before ops).getD w 0).testBit i = true) ∨ (w < i ∧ ((Region.before ops).getD i 0).testBit w = true) := by
  have a1 := List.all_eq_true.1 h (ow, w) (by rw [List.mem_zipIdx_iff_getElem?]; simpa using hw)
  simp only [h1, Bool.not_true, Bool.false_or] at a1
  have a2 := List.all_eq_true.1 a1 (oi, i) (by rw [List.mem_zipIdx_iff_getElem?]; simpa using hi)
  have e : Nat.beq w i = false := by
    cases hb : Nat.beq w i with
    | false => rfl
    | true => exact absurd (Nat.eq_of_beq_eq_true hb) hne
  have e2 : Nat.blt i p = false := by
    cases hb : Nat.blt i p with
    | false => rfl
    | true => have := blt_true hb; omega
  simp only [h2, e, e2, Bool.false_or] at a2
  cases hlt : Nat.blt i w with
  | true => rw [hlt] at a2; exact .inl ⟨blt_true hlt, a2⟩
  | false =>
    rw [hlt] at a2
    refine .inr ⟨?_, a2⟩
    have := blt_false hlt
    omega
def barB (p : Nat) (ops : Array Oper) : Bool :=
  let M := Region.before ops
  (List.range ops.size).all fun i => Nat.blt i p || (List.range p).all fun j => (M.getD i 0).testBit j
theorem barB_spec {p : Nat} {ops : Array Oper} (h : barB p ops = true) {i j : Nat} (hi : p ≤ i) (hn : i < ops.size) (hj : j < p) : ((Region.before ops).getD i 0).testBit j = true := by
  have a1 := List.all_eq_true.1 h i (List.mem_range.2 hn)
  have e2 : Nat.blt i p = false := by
    cases hb : Nat.blt i p with
    | false => rfl
    | true => have := blt_true hb; omega
  simp only [e2, Bool.false_or] at a1
  exact List.all_eq_true.1 a1 j (List.mem_range.2 hj)
def allocB (P : Program) (n : Nat) (o : Oper) : Bool :=
  match o.op, o.guard with
  | .alloc t, none => match zeroD P t with
    | some z => z.all (blC n)
    | none => false
  | _, _ => false
def zsOf (P : Program) (ops : Array Oper) (k : Nat) : List D :=
  match ops[k]? with
  | some o => match o.op with
    | .alloc t => (zeroD P t).getD []
    | _ => []
  | none => []
theorem allocB_spec {P : Program} {n k : Nat} {ops : Array Oper} {o : Oper} (ho : ops[k]? = some o) (h : allocB P n o = true) : ∃ t, o.op = .alloc t ∧ o.guard = none ∧ zeroD P t = some (zsOf P ops k) ∧ (zsOf P ops k).all (blC n) = true := by
  unfold allocB at h
  split at h
  · rename_i t hop hg
    split at h
    · rename_i z hz
      have e : zsOf P ops k = z := by simp [zsOf, ho, hop, hz]
      exact ⟨t, hop, hg, by rw [e]; exact hz, by rw [e]; exact h⟩
    · cases h
  · cases h
def regF (P : Program) (ops : Array Oper) (p0 p : Nat) (orc : List Res) (keep : List Nat) (hn : Nat) (s : St) : Option (St × List Bool × List Req) :=
  bif flowB ops && P.follows .mixedOrders && cmpFrom p ops && barB p ops && Nat.ble p0 p && Nat.ble p ops.size && (ops.toList.take p0).all (fun o => !wrB o.op) && ((ops.toList.drop p0).take (p - p0)).all (allocB P s.H.length) && s.H.all (blO s.H.length) then
    match runDw P s.nt ops 0 (ops.toList.take p0) s.env s.H orc with
    | some (e1, H1, bs1, rq1, orc1) => bif e1.all (fun q => okT s.H.length q.2) then
        match runDw P s.nt ops p0 (ops.toList.drop p0) e1 H1 orc1 with
        | some (env', H', bs2, rq2, _) => (cutS hn ⟨s.nt, fin env' keep, H'⟩).map fun s' => (s', bs1 ++ bs2, rq1 ++ rq2)
        | none => none
      else none
    | none => none
  else none
theorem okT_find {n : Nat} : ∀ {e : List (Nat × D)}, e.all (fun q => okT n q.2) = true → ∀ t, okT n (find e t) = true
  | [], _, t => rfl
  | q :: e, h, t => by
    simp only [List.all_cons, Bool.and_eq_true] at h
    simp only [find]
    cases Nat.beq q.1 t with
    | true => exact h.1
    | false => exact okT_find h.2 t
theorem awp_regionF {P : Program} {Q : Exit → St → Prop} {s : St} {id : Nat} {ops : Array Oper} (p0 p : Nat) (orc : List Res) (keep : List Nat) (hn : Nat) {s' : St} {bs : List Bool} {rq : List Req}
    (h : regF P ops p0 p orc keep hn s = some (s', bs, rq)) (hb : ∀ b ∈ bs, b = true) (hq : ∀ q ∈ rq, q.ok P) (k : Q .normal s') : AWP P (.region id ops true) Q s := by
  rintro F a w ⟨c, rfl, hH, hI, henv, hsz, hd⟩
  unfold regF at h
  cases hc : (flowB ops && P.follows .mixedOrders && cmpFrom p ops && barB p ops && Nat.ble p0 p && Nat.ble p ops.size && (ops.toList.take p0).all (fun o => !wrB o.op) && ((ops.toList.drop p0).take (p - p0)).all (allocB P s.H.length) && s.H.all (blO s.H.length)) with
  | false => rw [hc] at h; cases h
  | true =>
    rw [hc] at h
    simp only [cond_true] at h
    simp only [Bool.and_eq_true] at hc
    obtain ⟨⟨⟨⟨⟨⟨⟨⟨c1, c2⟩, c3⟩, c4⟩, c5⟩, c6⟩, c7⟩, c8⟩, c9⟩ := hc
    have hp : p0 ≤ p := Nat.le_of_ble_eq_true c5
    have hpn : p ≤ ops.size := Nat.le_of_ble_eq_true c6
    split at h <;> try cases h
    rename_i e1 H1 bs1 rq1 orc1 hrun1
    cases hok : e1.all (fun q => okT s.H.length q.2) with
    | false => rw [hok] at h; cases h
    | true =>
    rw [hok] at h
    simp only [cond_true] at h
    split at h <;> try cases h
    rename_i env' H' bs2 rq2 orc2 hrun2
    obtain ⟨s1, hcut, heq⟩ := Option.map_eq_some_iff.1 h
    simp only [Prod.mk.injEq] at heq
    obtain ⟨rfl, rfl, rfl⟩ := heq
    refine wp_region_any c2 ?_
    have hl1 : (ops.toList.take p0).length = p0 := by simp; omega
    have hl2 : (ops.toList.drop p0).length = ops.size - p0 := by simp
    obtain ⟨E1, HH1, W1, hE0, hH0, hE1, hH1, hT1⟩ := traceW_of (ops.toList.take p0) 0 s.env e1 s.H H1 orc orc1 bs1 rq1 (fun j => by
      rcases Nat.lt_or_ge j p0 with h | h
      · left; rw [List.getElem?_take_of_lt h]; simp
      · right; omega) hrun1
    obtain ⟨E2, HH2, W2, hE2, hH2, hE3, hH3, hT2⟩ := traceW_of (ops.toList.drop p0) p0 e1 env' H1 H' orc1 orc2 bs2 rq2 (fun j => .inl (by rw [List.getElem?_drop]; simp)) hrun2
    rw [hl1, Nat.zero_add] at hE1 hH1 hT1
    rw [hl2, show p0 + (ops.size - p0) = ops.size by omega] at hE3 hH3 hT2
    have hT := traceW_join hT1 hT2 (by rw [hE1, hE2]) (by rw [hH1, hH2])
    generalize hEd : (fun i => if i < p0 then E1 i else E2 i) = E at hT
    generalize hHd : (fun i => if i < p0 then HH1 i else HH2 i) = HH at hT
    generalize hVd : (fun i => if i < p0 then W1 i else W2 i) = V at hT
    have eE0 : E 0 = s.env := by
      rw [← hEd]
      by_cases h0 : 0 < p0
      · simp only [if_pos h0]; exact hE0
      · have : p0 = 0 := by omega
        subst this
        simp only [Nat.lt_irrefl, if_false]
        rw [hE2, ← hE1, hE0]
    have eEp : E p0 = e1 := by rw [← hEd]; simp only [Nat.lt_irrefl, if_false]; exact hE2
    have eEn : E ops.size = env' := by rw [← hEd]; simp only [if_neg (show ¬ ops.size < p0 by omega)]; exact hE3
    have eHn : HH ops.size = H' := by rw [← hHd]; simp only [if_neg (show ¬ ops.size < p0 by omega)]; exact hH3
    have eH0 : HH 0 = s.H := by
      rw [← hHd]
      by_cases h0 : 0 < p0
      · simp only [if_pos h0]; exact hH0
      · have : p0 = 0 := by omega
        subst this
        simp only [Nat.lt_irrefl, if_false]
        rw [hH2, ← hH1, hH0]
    have hnw : ∀ k o, ops[k]? = some o → k < p0 → wrB o.op = false := fun k o ho hk => by
      have := List.all_eq_true.1 c7 o (List.mem_of_getElem? (i := k) (by rw [List.getElem?_take_of_lt hk]; simpa using ho))
      simpa using this
    have eHp : HH p0 = s.H := by
      have := same_heap hT (p := 0) p0 (by omega) fun w ow _ h2 how => hnw w ow how (by omega)
      rw [Nat.zero_add] at this
      rw [this, eH0]
    have hal : ∀ k, p0 ≤ k → k < p → ∃ o t, ops[k]? = some o ∧ o.op = .alloc t ∧ o.guard = none ∧ zeroD P t = some (zsOf P ops k) ∧ (zsOf P ops k).all (blC s.H.length) = true := fun k h1 h2 => by
      have hlt : k < ops.size := by omega
      have ho : ops[k]? = some ops[k] := by simp [hlt]
      have := List.all_eq_true.1 c8 ops[k] (List.mem_of_getElem? (i := k - p0) (by rw [List.getElem?_take_of_lt (by omega), List.getElem?_drop, show p0 + (k - p0) = k by omega]; simp [hlt]))
      obtain ⟨t, h3⟩ := allocB_spec ho this
      exact ⟨_, t, ho, h3⟩
    have hst : ∀ k, p0 ≤ k → k < p → HH (k + 1) = HH k ++ [.box (zsOf P ops k)] ∧ V k = .ref (HH k).length 0 := fun k h1 h2 => by
      obtain ⟨o, t, ho, hop, hg, hz, _⟩ := hal k h1 h2
      obtain ⟨o', orc0, b, r, orc3, ho', hstep, _, _⟩ := hT.step k (Nat.zero_le _) (by omega)
      rw [ho] at ho'
      cases ho'
      unfold stepDw at hstep
      simp only [hop, wrB, hg, heapD, allocD, hz, Option.map_some, Option.some.injEq, Prod.mk.injEq] at hstep
      exact ⟨hstep.2.1.symm, hstep.1.symm⟩
    have hlen : ∀ j, p0 + j ≤ p → (HH (p0 + j)).length = s.H.length + j := fun j => by
      induction j with
      | zero => intro _; rw [Nat.add_zero, eHp]; rfl
      | succ j ih =>
        intro hj
        rw [← Nat.add_assoc, (hst (p0 + j) (by omega) (by omega)).1]
        simp [ih (by omega)]
        omega
    let c' : Ctx := { c with w := c.w.drew }
    have hgo : Goes c c' := ⟨rfl, rfl, fun _ h => h, fun _ _ => rfl, fun b hb => (hI.imm b hb).1, fun id b hb => (hI.loc id b hb).2.1⟩
    have hI' : Inv F c' := hI.goes hgo (Below.refl _ _).drew (fun _ h => .inl h)
    have hnone : ∀ i, ¬ (Array.replicate ops.size false).getD i false = true := fun i h => by rw [getD_rep_false] at h; cases h
    have hval : ∀ t, valL ops (V1 p0 V) (E 0) (fun i => (Array.replicate ops.size false).getD i false = true) t = find s.env t := fun t => by rw [valL_none (fun i _ => hnone i), eE0]
    have hD : FInv F s.nt ops s.H p0 p (zsOf P ops) V (E 0) (Array.replicate ops.size false) a c' := by
      refine ⟨⟨[], by rw [List.append_nil]; exact hH, rfl⟩, hI', fun t => ?_, ⟨fun _ => 0, fun k _ _ h => absurd h (hnone k), fun k l _ _ _ _ h => absurd h (hnone k)⟩, hsz, hd, fun t j w d hf => ?_, by simp, fun i j _ h => absurd h (hnone i), fun j _ => by rw [getD_rep_false]⟩
      · rw [hval]; exact gv_of_tv (hgo.tv (henv t))
      · rw [hval] at hf
        have := henv t
        rw [hf] at this
        simp only [TV, AV] at this
        exact absurd this cv_not_opt
    refine float_sound c1 (cmpFrom_spec c3) hp hpn eHp (fun k h1 h2 => (hst k h1 h2).1) (fun k h1 h2 => ?_) c9 (fun k h1 h2 => ?_) hnw (fun t => ?_) (fun k h1 h2 => ?_) (fun i j h1 h2 h3 => barB_spec c4 h1 h2 h3) hT hb hq [] (fun a' c'' hR => ⟨s1, k, ?_⟩) ops.size _ a c' hD (by simp [cnt, List.countP_replicate])
    · rw [(hst k h1 h2).2]
      have := hlen (k - p0) (by omega)
      rw [show p0 + (k - p0) = k by omega] at this
      rw [this]
    · obtain ⟨_, _, _, _, _, _, h3⟩ := hal k h1 h2; exact h3
    · rw [eEp]; exact okT_find hok t
    · obtain ⟨o, t, h3, h4, h5, h6, _⟩ := hal k h1 h2; exact ⟨o, t, h3, h4, h5, h6⟩
    · have hR' := rinv_fin hR keep
      simp only [eEn, eHn] at hR'
      exact le_cut hcut F a' c''.w hR'
theorem rgf {P : Program} {Q : Exit → St → Prop} {s : St} {id : Nat} {ops : Array Oper} (p0 p : Nat) (orc : List Res) (keep : List Nat) (hn : Nat) (s' : St) (bs : List Bool) (rq : List Req)
    (hb : ∀ b ∈ bs, b = true) (hq : Reqs P rq) (k : Q .normal s') (h : regF P ops p0 p orc keep hn s = some (s', bs, rq) := by kernel_rfl) : AWP P (.region id ops true) Q s := awp_regionF p0 p orc keep hn h hb hq.all k
end Nv
