/- The rule for drawn regions whose allocations and first stores float. -/
import Derived.Test.YtmangnohekiphaaNvDraw10
namespace Nv
open Go Go.RowKit
def fsOf (P : Program) (ops : Array Oper) (p0 p : Nat) (e1 : List (Nat × D)) (k : Nat) : List D :=
  match ops[k + (p - p0)]? with
  | some o => match o.op with
    | .store t _ x => match cellsOfD (adj P t (evD e1 x)) with
      | some cs => splice (zsOf P ops k) cs 0
      | none => []
    | _ => []
  | none => []
def srcB (ops : Array Oper) (p0 : Nat) : Operand → Bool
  | .tmp t => ops.toList.zipIdx.all fun q => match q.1.dst with | some d => !Nat.beq d t || Nat.blt q.2 p0 | none => true
  | _ => true
def stB (P : Program) (n : Nat) (ops : Array Oper) (p0 p : Nat) (e1 : List (Nat × D)) (k : Nat) : Bool :=
  match ops[k + (p - p0)]?, (ops[k]?).bind (·.dst) with
  | some o, some u => match o.op, o.guard, o.dst with
    | .store t (.tmp u') x, none, none => Nat.beq u' u && srcB ops p0 x && (match szO P t, cellsOfD (adj P t (evD e1 x)) with
      | some kk, some cs => Nat.beq cs.length kk && cs.all cellB && Nat.ble (0 + kk) (zsOf P ops k).length && (splice (zsOf P ops k) cs 0).all (blC n)
      | _, _ => false)
    | _, _, _ => false
  | _, _ => false
theorem stB_spec {P : Program} {n : Nat} {ops : Array Oper} {p0 p : Nat} {e1 : List (Nat × D)} {k : Nat} (h : stB P n ops p0 p e1 k = true) :
    (∃ o t u x, ops[k + (p - p0)]? = some o ∧ o.op = .store t (.tmp u) x ∧ o.guard = none ∧ o.dst = none ∧ (ops[k]?).bind (·.dst) = some u ∧
      (∀ t', x = .tmp t' → ∀ l, (ops[l]?).bind (·.dst) = some t' → l < p0) ∧ ∀ (H : List Ob) id, H[id]? = some (.box (zsOf P ops k)) → storeD P H t (.ref id 0) (adj P t (evD e1 x)) = some (H.set id (.box (fsOf P ops p0 p e1 k)))) ∧ (fsOf P ops p0 p e1 k).all (blC n) = true := by
  unfold stB at h
  split at h
  · rename_i o u ho hu
    split at h
    · rename_i t u' x hop hg hd
      simp only [Bool.and_eq_true] at h
      obtain ⟨⟨h1, h2⟩, h3⟩ := h
      obtain rfl := Nat.eq_of_beq_eq_true h1
      split at h3
      · rename_i kk cs hk hcs
        simp only [Bool.and_eq_true] at h3
        obtain ⟨⟨⟨h4, h5⟩, h6⟩, h7⟩ := h3
        have e : fsOf P ops p0 p e1 k = splice (zsOf P ops k) cs 0 := by simp only [fsOf, ho, hop, hcs]
        refine ⟨⟨o, t, u', x, ho, hop, hg, hd, hu, fun t' hx l hl => ?_, fun H id hH => ?_⟩, by rw [e]; exact h7⟩
        · subst hx
          obtain ⟨ol, hol, hdl⟩ := Option.bind_eq_some_iff.1 hl
          have := List.all_eq_true.1 h2 (ol, l) (by rw [List.mem_zipIdx_iff_getElem?]; simpa using hol)
          simp only [hdl, Nat.beq_refl, Bool.not_true, Bool.false_or] at this
          exact blt_true this
        · simp only [storeD, hk, hcs, h4, h5, Bool.and_self, cond_true, hH, h6, e]
      · cases h3
    · cases h
  · cases h
def regG (P : Program) (ops : Array Oper) (p0 p : Nat) (orc : List Res) (keep : List Nat) (hn : Nat) (s : St) : Option (St × List Bool × List Req) :=
  bif flowB ops && P.follows .mixedOrders && Nat.ble p0 p && Nat.beq (p + (p - p0)) ops.size && (ops.toList.take p0).all (fun o => !wrB o.op) && ((ops.toList.drop p0).take (p - p0)).all (allocB P s.H.length) && s.H.all (blO s.H.length) &&
      ops.toList.all (fun o => match o.dst with | some t => Nat.blt t s.nt | none => true) then
    match runDw P s.nt ops 0 (ops.toList.take p0) s.env s.H orc with
    | some (e1, _, bs1, rq1, _) => bif e1.all (fun q => okT s.H.length q.2) && (List.range (p - p0)).all (fun j => stB P s.H.length ops p0 p e1 (p0 + j)) then
        (cutS hn ⟨s.nt, fin ((List.range (p - p0)).map (fun j => (((ops[p0 + j]?).bind (·.dst)).getD 0, D.ref (s.H.length + j) 0)) ++ e1) keep, s.H ++ (List.range (p - p0)).map (fun q => Ob.box (fsOf P ops p0 p e1 (p0 + q)))⟩).map fun s' => (s', bs1, rq1)
      else none
    | none => none
  else none
theorem find_app {c : Ctx} {a : Act} {e : List (Nat × D)} {t : Nat} : ∀ {L : List (Nat × D)}, (∀ q ∈ L, TV c (a.tmps.getD q.1 undef) q.2) → ((∀ q ∈ L, q.1 ≠ t) → TV c (a.tmps.getD t undef) (find e t)) → TV c (a.tmps.getD t undef) (find (L ++ e) t)
  | [], _, h2 => h2 (by simp)
  | q :: L, h1, h2 => by
    simp only [List.cons_append, find]
    cases hb : Nat.beq q.1 t with
    | true =>
      obtain rfl := Nat.eq_of_beq_eq_true hb
      exact h1 q (by simp)
    | false =>
      refine find_app (fun x hx => h1 x (List.mem_cons_of_mem _ hx)) fun h3 => h2 fun x hx => ?_
      · rcases List.mem_cons.1 hx with rfl | hx
        · exact Nat.ne_of_beq_eq_false hb
        · exact h3 x hx
theorem awp_regionG {P : Program} {Q : Exit → St → Prop} {s : St} {id : Nat} {ops : Array Oper} (p0 p : Nat) (orc : List Res) (keep : List Nat) (hn : Nat) {s' : St} {bs : List Bool} {rq : List Req}
    (h : regG P ops p0 p orc keep hn s = some (s', bs, rq)) (hb : ∀ b ∈ bs, b = true) (hq : ∀ q ∈ rq, q.ok P) (k : Q .normal s') : AWP P (.region id ops true) Q s := by
  rintro F a w ⟨c, rfl, hH, hI, henv, hsz, hd⟩
  unfold regG at h
  generalize hc : (flowB ops && _ && _ && _ && _ && _ && _ && _) = bb at h
  cases bb with
  | false => cases h
  | true =>
    simp only [cond_true] at h
    simp only [Bool.and_eq_true] at hc
    obtain ⟨⟨⟨⟨⟨⟨⟨c1, c2⟩, c5⟩, c6⟩, c7⟩, c8⟩, c9⟩, c10⟩ := hc
    have hp : p0 ≤ p := Nat.le_of_ble_eq_true c5
    have hpn : p + (p - p0) = ops.size := Nat.eq_of_beq_eq_true c6
    split at h <;> try cases h
    rename_i e1 H1 bs1 rq1 orc1 hrun1
    cases hok : (e1.all (fun q => okT s.H.length q.2) && (List.range (p - p0)).all (fun j => stB P s.H.length ops p0 p e1 (p0 + j))) with
    | false => rw [hok] at h; cases h
    | true =>
    rw [hok] at h
    simp only [cond_true] at h
    simp only [Bool.and_eq_true] at hok
    obtain ⟨hok, hst⟩ := hok
    obtain ⟨s1, hcut, heq⟩ := Option.map_eq_some_iff.1 h
    simp only [Prod.mk.injEq] at heq
    obtain ⟨rfl, rfl, rfl⟩ := heq
    refine wp_region_any c2 ?_
    have hl1 : (ops.toList.take p0).length = p0 := by simp; omega
    obtain ⟨E, HH, V, hE0, hH0, hE1, hH1, hT⟩ := traceW_of (ops.toList.take p0) 0 s.env e1 s.H H1 orc orc1 bs1 rq1 (fun j => by
      rcases Nat.lt_or_ge j p0 with h | h
      · left; rw [List.getElem?_take_of_lt h]; simp
      · right; omega) hrun1
    rw [hl1, Nat.zero_add] at hE1 hH1 hT
    have hstS : ∀ k, p0 ≤ k → k < p → stB P s.H.length ops p0 p e1 k = true := fun k h1 h2 => by
      have := List.all_eq_true.1 hst (k - p0) (List.mem_range.2 (by omega))
      rwa [show p0 + (k - p0) = k by omega] at this
    have hnw : ∀ k o, ops[k]? = some o → k < p0 → wrB o.op = false := fun k o ho hk => by
      have := List.all_eq_true.1 c7 o (List.mem_of_getElem? (i := k) (by rw [List.getElem?_take_of_lt hk]; simpa using ho))
      simpa using this
    have hal : ∀ k, p0 ≤ k → k < p → ∃ o t, ops[k]? = some o ∧ o.op = .alloc t ∧ o.guard = none ∧ zeroD P t = some (zsOf P ops k) := fun k h1 h2 => by
      have hlt : k < ops.size := by omega
      have ho : ops[k]? = some ops[k] := by simp [hlt]
      have := List.all_eq_true.1 c8 ops[k] (List.mem_of_getElem? (i := k - p0) (by rw [List.getElem?_take_of_lt (by omega), List.getElem?_drop, show p0 + (k - p0) = k by omega]; simp [hlt]))
      obtain ⟨t, h3, h4, h5, _⟩ := allocB_spec ho this
      exact ⟨_, t, ho, h3, h4, h5⟩
    have hdst : ∀ (k t : Nat), (ops[k]?).bind (·.dst) = some t → t < s.nt := fun k t hk => by
      obtain ⟨o, ho, hdo⟩ := Option.bind_eq_some_iff.1 hk
      have := List.all_eq_true.1 c10 o (List.mem_of_getElem? (i := k) (by simpa using ho))
      simp only [hdo] at this
      exact blt_true this
    let c' : Ctx := { c with w := c.w.drew }
    have hgo : Goes c c' := ⟨rfl, rfl, fun _ h => h, fun _ _ => rfl, fun b hb => (hI.imm b hb).1, fun id b hb => (hI.loc id b hb).2.1⟩
    have hI' : Inv F c' := hI.goes hgo (Below.refl _ _).drew (fun _ h => .inl h)
    have hnone : ∀ i, ¬ (Array.replicate ops.size false).getD i false = true := fun i h => by rw [getD_rep_false] at h; cases h
    have hval : ∀ t, valL ops (V1 p0 V) (E 0) (fun i => (Array.replicate ops.size false).getD i false = true) t = find s.env t := fun t => by rw [valL_none (fun i _ => hnone i), hE0]
    have hD : GInv F s.nt ops s.H p0 p (zsOf P ops) (fsOf P ops p0 p e1) V (E 0) (Array.replicate ops.size false) a c' := by
      refine ⟨⟨[], by rw [List.append_nil]; exact hH, rfl⟩, hI', fun t => ?_, ⟨fun _ => 0, fun k _ _ h => absurd h (hnone k), fun k l _ _ _ _ h => absurd h (hnone k)⟩, hsz, hd, fun t j w d hf => ?_, by simp, fun i j _ h => absurd h (hnone i)⟩
      · rw [hval]; exact gv_of_tv (hgo.tv (henv t))
      · rw [hval] at hf
        have := henv t
        rw [hf] at this
        simp only [TV, AV] at this
        exact absurd this cv_not_opt
    refine floatS_sound c1 hp hpn hH0 c9 (fun k h1 h2 => (stB_spec (hstS k h1 h2)).2) hnw (fun t => by rw [hE1]; exact okT_find hok t) hdst hal (fun k h1 h2 => by rw [hE1]; exact (stB_spec (hstS k h1 h2)).1) hT hb hq (fun a' c'' hI2 hH2 hs2 hd2 hf hr => ⟨s1, k, ?_⟩) ops.size _ a c' hD (by simp [cnt, List.countP_replicate])
    refine le_cut hcut F a' c''.w (le_keep keep F a' c''.w ⟨c'', rfl, hH2, hI2, fun t => ?_, hs2, hd2⟩)
    refine find_app (fun q hq' => ?_) fun h3 => ?_
    · obtain ⟨j, hj, rfl⟩ := List.mem_map.1 hq'
      have hj := List.mem_range.1 hj
      obtain ⟨⟨_, _, u, _, _, _, _, _, hu, _⟩, _⟩ := stB_spec (hstS (p0 + j) (by omega) (by omega))
      have := hf (p0 + j) (by omega) (by omega) u hu
      simp only [hu, Option.getD_some]
      rwa [show p0 + j - p0 = j by omega] at this
    · rw [← hE1]
      refine hr t fun kk h1 h2 h4 => ?_
      refine h3 (((ops[p0 + (kk - p0)]?).bind (·.dst)).getD 0, D.ref (s.H.length + (kk - p0)) 0) (List.mem_map.2 ⟨kk - p0, List.mem_range.2 (by omega), rfl⟩) ?_
      rw [show p0 + (kk - p0) = kk by omega, h4]; rfl
theorem rgs {P : Program} {Q : Exit → St → Prop} {s : St} {id : Nat} {ops : Array Oper} (p0 p : Nat) (orc : List Res) (keep : List Nat) (hn : Nat) (s' : St) (bs : List Bool) (rq : List Req)
    (hb : ∀ b ∈ bs, b = true) (hq : Reqs P rq) (k : Q .normal s') (h : regG P ops p0 p orc keep hn s = some (s', bs, rq) := by kernel_rfl) : AWP P (.region id ops true) Q s := awp_regionG p0 p orc keep hn h hb hq.all k
end Nv
