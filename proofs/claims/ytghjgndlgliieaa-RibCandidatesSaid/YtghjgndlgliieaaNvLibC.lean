/- Part of the proof of RibCandidates: the library of walks. No condition. -/
import Derived.Test.YtghjgndlgliieaaNvLibB
/- The rule for drawn regions whose allocations and first stores float. -/
namespace Nv
open Go Go.RowKit
def fsOf (P : Program) (ops : Array Oper) (p0 p : Nat) (e1 : List (Nat × D)) (k : Nat) : List D :=
  match ops[k + (p - p0)]? with
  | some o => match o.op with
    | .store t _ x => match cellsOfD (adj P t (evD e1 x)) with
      | some cs => splice (zsOf P ops k) cs 0
      | none => []
    | _ => []
  | none => []
def srcB (ops : Array Oper) (p0 : Nat) : Operand → Bool
  | .tmp t => ops.toList.zipIdx.all fun q => match q.1.dst with | some d => !Nat.beq d t || Nat.blt q.2 p0 | none => true
  | _ => true
def stB (P : Program) (n : Nat) (ops : Array Oper) (p0 p : Nat) (e1 : List (Nat × D)) (k : Nat) : Bool :=
  match ops[k + (p - p0)]?, (ops[k]?).bind (·.dst) with
  | some o, some u => match o.op, o.guard, o.dst with
    | .store t (.tmp u') x, none, none => Nat.beq u' u && srcB ops p0 x && (match szO P t, cellsOfD (adj P t (evD e1 x)) with
      | some kk, some cs => Nat.beq cs.length kk && cs.all cellB && Nat.ble (0 + kk) (zsOf P ops k).length && (splice (zsOf P ops k) cs 0).all (blC n)
      | _, _ => false)
    | _, _, _ => false
  | _, _ => false
theorem stB_spec {P : Program} {n : Nat} {ops : Array Oper} {p0 p : Nat} {e1 : List (Nat × D)} {k : Nat} (h : stB P n ops p0 p e1 k = true) :
    (∃ o t u x, ops[k + (p - p0)]? = some o ∧ o.op = .store t (.tmp u) x ∧ o.guard = none ∧ o.dst = none ∧ (ops[k]?).bind (·.dst) = some u ∧
      (∀ t', x = .tmp t' → ∀ l, (ops[l]?).bind (·.dst) = some t' → l < p0) ∧ ∀ (H : List Ob) id, H[id]? = some (.box (zsOf P ops k)) → storeD P H t (.ref id 0) (adj P t (evD e1 x)) = some (H.set id (.box (fsOf P ops p0 p e1 k)))) ∧ (fsOf P ops p0 p e1 k).all (blC n) = true := by
  unfold stB at h
  split at h
  · rename_i o u ho hu
    split at h
    · rename_i t u' x hop hg hd
      simp only [Bool.and_eq_true] at h
      obtain ⟨⟨h1, h2⟩, h3⟩ := h
      obtain rfl := Nat.eq_of_beq_eq_true h1
      split at h3
      · rename_i kk cs hk hcs
        simp only [Bool.and_eq_true] at h3
        obtain ⟨⟨⟨h4, h5⟩, h6⟩, h7⟩ := h3
        have e : fsOf P ops p0 p e1 k = splice (zsOf P ops k) cs 0 := by simp only [fsOf, ho, hop, hcs]
        refine ⟨⟨o, t, u', x, ho, hop, hg, hd, hu, fun t' hx l hl => ?_, fun H id hH => ?_⟩, by rw [e]; exact h7⟩
        · subst hx
          obtain ⟨ol, hol, hdl⟩ := Option.bind_eq_some_iff.1 hl
          have := List.all_eq_true.1 h2 (ol, l) (by rw [List.mem_zipIdx_iff_getElem?]; simpa using hol)
          simp only [hdl, Nat.beq_refl, Bool.not_true, Bool.false_or] at this
          exact blt_true this
        · simp only [storeD, hk, hcs, h4, h5, Bool.and_self, cond_true, hH, h6, e]
      · cases h3
    · cases h
  · cases h
def regG (P : Program) (ops : Array Oper) (p0 p : Nat) (orc : List Res) (keep : List Nat) (hn : Nat) (s : St) : Option (St × List Bool × List Req) :=
  bif flowB ops && P.follows .mixedOrders && Nat.ble p0 p && Nat.beq (p + (p - p0)) ops.size && (ops.toList.take p0).all (fun o => !wrB o.op) && ((ops.toList.drop p0).take (p - p0)).all (allocB P s.H.length) && s.H.all (blO s.H.length) &&
      ops.toList.all (fun o => match o.dst with | some t => Nat.blt t s.nt | none => true) then
    match runDw P s.nt ops 0 (ops.toList.take p0) s.env s.H orc with
    | some (e1, _, bs1, rq1, _) => bif e1.all (fun q => okT s.H.length q.2) && (List.range (p - p0)).all (fun j => stB P s.H.length ops p0 p e1 (p0 + j)) then
        (cutS hn ⟨s.nt, fin ((List.range (p - p0)).map (fun j => (((ops[p0 + j]?).bind (·.dst)).getD 0, D.ref (s.H.length + j) 0)) ++ e1) keep, s.H ++ (List.range (p - p0)).map (fun q => Ob.box (fsOf P ops p0 p e1 (p0 + q)))⟩).map fun s' => (s', bs1, rq1)
      else none
    | none => none
  else none
theorem find_app {c : Ctx} {a : Act} {e : List (Nat × D)} {t : Nat} : ∀ {L : List (Nat × D)}, (∀ q ∈ L, TV c (a.tmps.getD q.1 undef) q.2) → ((∀ q ∈ L, q.1 ≠ t) → TV c (a.tmps.getD t undef) (find e t)) → TV c (a.tmps.getD t undef) (find (L ++ e) t)
  | [], _, h2 => h2 (by simp)
  | q :: L, h1, h2 => by
    simp only [List.cons_append, find]
    cases hb : Nat.beq q.1 t with
    | true =>
      obtain rfl := Nat.eq_of_beq_eq_true hb
      exact h1 q (by simp)
    | false =>
      refine find_app (fun x hx => h1 x (List.mem_cons_of_mem _ hx)) fun h3 => h2 fun x hx => ?_
      · rcases List.mem_cons.1 hx with rfl | hx
        · exact Nat.ne_of_beq_eq_false hb
        · exact h3 x hx
theorem awp_regionG {P : Program} {Q : Exit → St → Prop} {s : St} {id : Nat} {ops : Array Oper} (p0 p : Nat) (orc : List Res) (keep : List Nat) (hn : Nat) {s' : St} {bs : List Bool} {rq : List Req}
    (h : regG P ops p0 p orc keep hn s = some (s', bs, rq)) (hb : ∀ b ∈ bs, b = true) (hq : ∀ q ∈ rq, q.ok P) (k : Q .normal s') : AWP P (.region id ops true) Q s := by
  rintro F a w ⟨c, rfl, hH, hI, henv, hsz, hd⟩
  unfold regG at h
  generalize hc : (flowB ops && _ && _ && _ && _ && _ && _ && _) = bb at h
  cases bb with
  | false => cases h
  | true =>
    simp only [cond_true] at h
    simp only [Bool.and_eq_true] at hc
    obtain ⟨⟨⟨⟨⟨⟨⟨c1, c2⟩, c5⟩, c6⟩, c7⟩, c8⟩, c9⟩, c10⟩ := hc
    have hp : p0 ≤ p := Nat.le_of_ble_eq_true c5
    have hpn : p + (p - p0) = ops.size := Nat.eq_of_beq_eq_true c6
    split at h <;> try cases h
    rename_i e1 H1 bs1 rq1 orc1 hrun1
    cases hok : (e1.all (fun q => okT s.H.length q.2) && (List.range (p - p0)).all (fun j => stB P s.H.length ops p0 p e1 (p0 + j))) with
    | false => rw [hok] at h; cases h
    | true =>
    rw [hok] at h
    simp only [cond_true] at h
    simp only [Bool.and_eq_true] at hok
    obtain ⟨hok, hst⟩ := hok
    obtain ⟨s1, hcut, heq⟩ := Option.map_eq_some_iff.1 h
    simp only [Prod.mk.injEq] at heq
    obtain ⟨rfl, rfl, rfl⟩ := heq
    refine wp_region_any c2 ?_
    have hl1 : (ops.toList.take p0).length = p0 := by simp; omega
    obtain ⟨E, HH, V, hE0, hH0, hE1, hH1, hT⟩ := traceW_of (ops.toList.take p0) 0 s.env e1 s.H H1 orc orc1 bs1 rq1 (fun j => by
      rcases Nat.lt_or_ge j p0 with h | h
      · left; rw [List.getElem?_take_of_lt h]; simp
      · right; omega) hrun1
    rw [hl1, Nat.zero_add] at hE1 hH1 hT
    have hstS : ∀ k, p0 ≤ k → k < p → stB P s.H.length ops p0 p e1 k = true := fun k h1 h2 => by
      have := List.all_eq_true.1 hst (k - p0) (List.mem_range.2 (by omega))
      rwa [show p0 + (k - p0) = k by omega] at this
    have hnw : ∀ k o, ops[k]? = some o → k < p0 → wrB o.op = false := fun k o ho hk => by
      have := List.all_eq_true.1 c7 o (List.mem_of_getElem? (i := k) (by rw [List.getElem?_take_of_lt hk]; simpa using ho))
      simpa using this
    have hal : ∀ k, p0 ≤ k → k < p → ∃ o t, ops[k]? = some o ∧ o.op = .alloc t ∧ o.guard = none ∧ zeroD P t = some (zsOf P ops k) := fun k h1 h2 => by
      have hlt : k < ops.size := by omega
      have ho : ops[k]? = some ops[k] := by simp [hlt]
      have := List.all_eq_true.1 c8 ops[k] (List.mem_of_getElem? (i := k - p0) (by rw [List.getElem?_take_of_lt (by omega), List.getElem?_drop, show p0 + (k - p0) = k by omega]; simp [hlt]))
      obtain ⟨t, h3, h4, h5, _⟩ := allocB_spec ho this
      exact ⟨_, t, ho, h3, h4, h5⟩
    have hdst : ∀ (k t : Nat), (ops[k]?).bind (·.dst) = some t → t < s.nt := fun k t hk => by
      obtain ⟨o, ho, hdo⟩ := Option.bind_eq_some_iff.1 hk
      have := List.all_eq_true.1 c10 o (List.mem_of_getElem? (i := k) (by simpa using ho))
      simp only [hdo] at this
      exact blt_true this
    let c' : Ctx := { c with w := c.w.drew }
    have hgo : Goes c c' := ⟨rfl, rfl, fun _ h => h, fun _ _ => rfl, fun b hb => (hI.imm b hb).1, fun id b hb => (hI.loc id b hb).2.1⟩
    have hI' : Inv F c' := hI.goes hgo (Below.refl _ _).drew (fun _ h => .inl h)
    have hnone : ∀ i, ¬ (Array.replicate ops.size false).getD i false = true := fun i h => by rw [getD_rep_false] at h; cases h
    have hval : ∀ t, valL ops (V1 p0 V) (E 0) (fun i => (Array.replicate ops.size false).getD i false = true) t = find s.env t := fun t => by rw [valL_none (fun i _ => hnone i), hE0]
    have hD : GInv F s.nt ops s.H p0 p (zsOf P ops) (fsOf P ops p0 p e1) V (E 0) (Array.replicate ops.size false) a c' := by
      refine ⟨⟨[], by rw [List.append_nil]; exact hH, rfl⟩, hI', fun t => ?_, ⟨fun _ => 0, fun k _ _ h => absurd h (hnone k), fun k l _ _ _ _ h => absurd h (hnone k)⟩, hsz, hd, fun t j w d hf => ?_, by simp, fun i j _ h => absurd h (hnone i)⟩
      · rw [hval]; exact gv_of_tv (hgo.tv (henv t))
      · rw [hval] at hf
        have := henv t
        rw [hf] at this
        simp only [TV, AV] at this
        exact absurd this cv_not_opt
    refine floatS_sound c1 hp hpn hH0 c9 (fun k h1 h2 => (stB_spec (hstS k h1 h2)).2) hnw (fun t => by rw [hE1]; exact okT_find hok t) hdst hal (fun k h1 h2 => by rw [hE1]; exact (stB_spec (hstS k h1 h2)).1) hT hb hq (fun a' c'' hI2 hH2 hs2 hd2 hf hr => ⟨s1, k, ?_⟩) ops.size _ a c' hD (by simp [cnt, List.countP_replicate])
    refine le_cut hcut F a' c''.w (le_keep keep F a' c''.w ⟨c'', rfl, hH2, hI2, fun t => ?_, hs2, hd2⟩)
    refine find_app (fun q hq' => ?_) fun h3 => ?_
    · obtain ⟨j, hj, rfl⟩ := List.mem_map.1 hq'
      have hj := List.mem_range.1 hj
      obtain ⟨⟨_, _, u, _, _, _, _, _, hu, _⟩, _⟩ := stB_spec (hstS (p0 + j) (by omega) (by omega))
      have := hf (p0 + j) (by omega) (by omega) u hu
      simp only [hu, Option.getD_some]
      rwa [show p0 + j - p0 = j by omega] at this
    · rw [← hE1]
      refine hr t fun kk h1 h2 h4 => ?_
      refine h3 (((ops[p0 + (kk - p0)]?).bind (·.dst)).getD 0, D.ref (s.H.length + (kk - p0)) 0) (List.mem_map.2 ⟨kk - p0, List.mem_range.2 (by omega), rfl⟩) ?_
      rw [show p0 + (kk - p0) = kk by omega, h4]; rfl
theorem rgs {P : Program} {Q : Exit → St → Prop} {s : St} {id : Nat} {ops : Array Oper} (p0 p : Nat) (orc : List Res) (keep : List Nat) (hn : Nat) (s' : St) (bs : List Bool) (rq : List Req)
    (hb : ∀ b ∈ bs, b = true) (hq : Reqs P rq) (k : Q .normal s') (h : regG P ops p0 p orc keep hn s = some (s', bs, rq) := by kernel_rfl) : AWP P (.region id ops true) Q s := awp_regionG p0 p orc keep hn h hb hq.all k
end Nv
/- The stable sort of the library (insertion sort, symMerge, rotate), over any comparison, as its mirrors say it; it is right. No condition. -/
namespace Nv
open Go
section
variable {α : Type} [Inhabited α] (cmp : α → α → Option Int)
noncomputable def Z.insertionSort_l2 (a1 : Int) (p3 : (List α) × Int) : Option (((List α) × Int) ⊕ (List α)) :=
  (gc (decide (p3.2 > a1)) (cmp (p3.1.getD (0 + p3.2.toNat) default) (p3.1.getD (0 + (wr .i64 (p3.2 - 1)).toNat) default))).bind fun r5 => gd [guardB (decide (p3.2 > a1)) (decide (0 ≤ p3.2)), guardB (decide (p3.2 > a1)) (decide (p3.2 < (p3.1.length : Int))), guardB (decide (p3.2 > a1)) (decide (0 ≤ (wr .i64 (p3.2 - 1)))), guardB (decide (p3.2 > a1)) (decide ((wr .i64 (p3.2 - 1)) < (p3.1.length : Int)))] (bif (decide (p3.2 > a1)) && (decide (r5 < 0)) then (gd [decide (0 ≤ (wr .i64 (p3.2 - 1))), decide ((wr .i64 (p3.2 - 1)) < (p3.1.length : Int)), decide (0 ≤ p3.2), decide (p3.2 < (p3.1.length : Int)), decide (0 ≤ p3.2), decide (p3.2 < (p3.1.length : Int)), decide (0 ≤ (wr .i64 (p3.2 - 1))), decide ((wr .i64 (p3.2 - 1)) < (p3.1.length : Int))] (some (.inl ((p3.1.set (0 + p3.2.toNat) (p3.1.getD (0 + (wr .i64 (p3.2 - 1)).toNat) default)).set (0 + (wr .i64 (p3.2 - 1)).toNat) (p3.1.getD (0 + p3.2.toNat) default), wr .i64 (p3.2 - 1))))) else (some (.inr p3.1)))
noncomputable def Z.insertionSort_l1 (a1 : Int) (a2 : Int) (p1 : (List α) × Int) : Option (((List α) × Int) ⊕ (List α)) :=
  bif decide (p1.2 < a2) then ((loopM (Z.insertionSort_l2 cmp a1) (p1.1, p1.2)).bind fun y6 => some (.inl (y6, wr .i64 (p1.2 + 1)))) else (some (.inr p1.1))
noncomputable def Z.insertionSort (a0 : List α) (a1 : Int) (a2 : Int) : Option (List α) :=
  (loopM (Z.insertionSort_l1 cmp a1 a2) (a0, wr .i64 (a1 + 1))).bind fun y7 => gd [decide (y7.length = a0.length)] (some y7)
noncomputable def Z.swapRange_l1 (a1 : Int) (a2 : Int) (a3 : Int) (p1 : (List α) × Int) : Option (((List α) × Int) ⊕ (List α)) :=
  bif decide (p1.2 < a3) then (gd [decide (0 ≤ (wr .i64 (a2 + p1.2))), decide ((wr .i64 (a2 + p1.2)) < (p1.1.length : Int)), decide (0 ≤ (wr .i64 (a1 + p1.2))), decide ((wr .i64 (a1 + p1.2)) < (p1.1.length : Int)), decide (0 ≤ (wr .i64 (a1 + p1.2))), decide ((wr .i64 (a1 + p1.2)) < (p1.1.length : Int)), decide (0 ≤ (wr .i64 (a2 + p1.2))), decide ((wr .i64 (a2 + p1.2)) < (p1.1.length : Int))] (some (.inl ((p1.1.set (0 + (wr .i64 (a1 + p1.2)).toNat) (p1.1.getD (0 + (wr .i64 (a2 + p1.2)).toNat) default)).set (0 + (wr .i64 (a2 + p1.2)).toNat) (p1.1.getD (0 + (wr .i64 (a1 + p1.2)).toNat) default), wr .i64 (p1.2 + 1))))) else (some (.inr p1.1))
noncomputable def Z.swapRange (a0 : List α) (a1 : Int) (a2 : Int) (a3 : Int) : Option (List α) :=
  (loopM (Z.swapRange_l1 a1 a2 a3) (a0, 0)).bind fun y3 => gd [decide (y3.length = a0.length)] (some y3)
noncomputable def Z.rotate_l1 (a2 : Int) (p1 : (List α) × Int × Int) : Option (((List α) × Int × Int) ⊕ (Int × (List α))) :=
  bif p1.2.1 != p1.2.2 then (bif decide (p1.2.1 > p1.2.2) then ((Z.swapRange p1.1 (wr .i64 (a2 - p1.2.1)) a2 p1.2.2).bind fun r3 => gd [decide (r3.length = p1.1.length)] (some (.inl (r3, wr .i64 (p1.2.1 - p1.2.2), p1.2.2)))) else ((Z.swapRange p1.1 (wr .i64 (a2 - p1.2.1)) (wr .i64 ((wr .i64 (a2 + p1.2.2)) - p1.2.1)) p1.2.1).bind fun r4 => gd [decide (r4.length = p1.1.length)] (some (.inl (r4, p1.2.1, wr .i64 (p1.2.2 - p1.2.1)))))) else (some (.inr (p1.2.1, p1.1)))
noncomputable def Z.rotate (a0 : List α) (a1 : Int) (a2 : Int) (a3 : Int) : Option (List α) :=
  (loopM (Z.rotate_l1 a2) (a0, wr .i64 (a2 - a1), wr .i64 (a3 - a2))).bind fun y5 => (Z.swapRange y5.2 (wr .i64 (a2 - y5.1)) a2 y5.1).bind fun r6 => gd [decide (r6.length = y5.2.length)] (gd [decide (r6.length = a0.length)] (some r6))
noncomputable def Z.symMerge_l1 (a0 : List α) (a1 : Int) (p1 : Int × Int) : Option ((Int × Int) ⊕ Int) :=
  bif decide (p1.1 < p1.2) then (gd [decide (0 ≤ 1)] ((cmp (a0.getD (0 + (wr .i64 ((wr .u64 (wr .i64 (p1.1 + p1.2))).fdiv (2 ^ min (1 : Int).toNat 64))).toNat) default) (a0.getD (0 + a1.toNat) default)).bind fun r3 => gd [decide (0 ≤ (wr .i64 ((wr .u64 (wr .i64 (p1.1 + p1.2))).fdiv (2 ^ min (1 : Int).toNat 64)))), decide ((wr .i64 ((wr .u64 (wr .i64 (p1.1 + p1.2))).fdiv (2 ^ min (1 : Int).toNat 64))) < (a0.length : Int)), decide (0 ≤ a1), decide (a1 < (a0.length : Int))] (bif decide (r3 < 0) then (some (.inl (wr .i64 ((wr .i64 ((wr .u64 (wr .i64 (p1.1 + p1.2))).fdiv (2 ^ min (1 : Int).toNat 64))) + 1), p1.2))) else (some (.inl (p1.1, wr .i64 ((wr .u64 (wr .i64 (p1.1 + p1.2))).fdiv (2 ^ min (1 : Int).toNat 64)))))))) else (some (.inr p1.1))
noncomputable def Z.symMerge_l2 (y4 : Int) (p5 : (List α) × Int) : Option (((List α) × Int) ⊕ (List α)) :=
  bif decide (p5.2 < (wr .i64 (y4 - 1))) then (gd [decide (0 ≤ (wr .i64 (p5.2 + 1))), decide ((wr .i64 (p5.2 + 1)) < (p5.1.length : Int)), decide (0 ≤ p5.2), decide (p5.2 < (p5.1.length : Int)), decide (0 ≤ p5.2), decide (p5.2 < (p5.1.length : Int)), decide (0 ≤ (wr .i64 (p5.2 + 1))), decide ((wr .i64 (p5.2 + 1)) < (p5.1.length : Int))] (some (.inl ((p5.1.set (0 + p5.2.toNat) (p5.1.getD (0 + (wr .i64 (p5.2 + 1)).toNat) default)).set (0 + (wr .i64 (p5.2 + 1)).toNat) (p5.1.getD (0 + p5.2.toNat) default), wr .i64 (p5.2 + 1))))) else (some (.inr p5.1))
noncomputable def Z.symMerge_l3 (a0 : List α) (a2 : Int) (p8 : Int × Int) : Option ((Int × Int) ⊕ Int) :=
  bif decide (p8.1 < p8.2) then (gd [decide (0 ≤ 1)] ((cmp (a0.getD (0 + a2.toNat) default) (a0.getD (0 + (wr .i64 ((wr .u64 (wr .i64 (p8.1 + p8.2))).fdiv (2 ^ min (1 : Int).toNat 64))).toNat) default)).bind fun r10 => gd [decide (0 ≤ a2), decide (a2 < (a0.length : Int)), decide (0 ≤ (wr .i64 ((wr .u64 (wr .i64 (p8.1 + p8.2))).fdiv (2 ^ min (1 : Int).toNat 64)))), decide ((wr .i64 ((wr .u64 (wr .i64 (p8.1 + p8.2))).fdiv (2 ^ min (1 : Int).toNat 64))) < (a0.length : Int))] (bif !(decide (r10 < 0)) then (some (.inl (wr .i64 ((wr .i64 ((wr .u64 (wr .i64 (p8.1 + p8.2))).fdiv (2 ^ min (1 : Int).toNat 64))) + 1), p8.2))) else (some (.inl (p8.1, wr .i64 ((wr .u64 (wr .i64 (p8.1 + p8.2))).fdiv (2 ^ min (1 : Int).toNat 64)))))))) else (some (.inr p8.1))
noncomputable def Z.symMerge_l4 (y11 : Int) (p12 : (List α) × Int) : Option (((List α) × Int) ⊕ (List α)) :=
  bif decide (p12.2 > y11) then (gd [decide (0 ≤ (wr .i64 (p12.2 - 1))), decide ((wr .i64 (p12.2 - 1)) < (p12.1.length : Int)), decide (0 ≤ p12.2), decide (p12.2 < (p12.1.length : Int)), decide (0 ≤ p12.2), decide (p12.2 < (p12.1.length : Int)), decide (0 ≤ (wr .i64 (p12.2 - 1))), decide ((wr .i64 (p12.2 - 1)) < (p12.1.length : Int))] (some (.inl ((p12.1.set (0 + p12.2.toNat) (p12.1.getD (0 + (wr .i64 (p12.2 - 1)).toNat) default)).set (0 + (wr .i64 (p12.2 - 1)).toNat) (p12.1.getD (0 + p12.2.toNat) default), wr .i64 (p12.2 - 1))))) else (some (.inr p12.1))
noncomputable def Z.symMerge_l5 (a0 : List α) (a1 : Int) (a2 : Int) (a3 : Int) (p16 : Int × Int) : Option ((Int × Int) ⊕ Int) :=
  bif decide (p16.1 < p16.2) then (gd [decide (0 ≤ 1)] ((cmp (a0.getD (0 + (wr .i64 ((wr .i64 ((wr .i64 ((wr .i64 ((wr .u64 (wr .i64 (a1 + a3))).fdiv (2 ^ min (1 : Int).toNat 64))) + a2)) - 1)) - (wr .i64 ((wr .u64 (wr .i64 (p16.1 + p16.2))).fdiv (2 ^ min (1 : Int).toNat 64))))).toNat) default) (a0.getD (0 + (wr .i64 ((wr .u64 (wr .i64 (p16.1 + p16.2))).fdiv (2 ^ min (1 : Int).toNat 64))).toNat) default)).bind fun r18 => gd [decide (0 ≤ (wr .i64 ((wr .i64 ((wr .i64 ((wr .i64 ((wr .u64 (wr .i64 (a1 + a3))).fdiv (2 ^ min (1 : Int).toNat 64))) + a2)) - 1)) - (wr .i64 ((wr .u64 (wr .i64 (p16.1 + p16.2))).fdiv (2 ^ min (1 : Int).toNat 64)))))), decide ((wr .i64 ((wr .i64 ((wr .i64 ((wr .i64 ((wr .u64 (wr .i64 (a1 + a3))).fdiv (2 ^ min (1 : Int).toNat 64))) + a2)) - 1)) - (wr .i64 ((wr .u64 (wr .i64 (p16.1 + p16.2))).fdiv (2 ^ min (1 : Int).toNat 64))))) < (a0.length : Int)), decide (0 ≤ (wr .i64 ((wr .u64 (wr .i64 (p16.1 + p16.2))).fdiv (2 ^ min (1 : Int).toNat 64)))), decide ((wr .i64 ((wr .u64 (wr .i64 (p16.1 + p16.2))).fdiv (2 ^ min (1 : Int).toNat 64))) < (a0.length : Int))] (bif !(decide (r18 < 0)) then (some (.inl (wr .i64 ((wr .i64 ((wr .u64 (wr .i64 (p16.1 + p16.2))).fdiv (2 ^ min (1 : Int).toNat 64))) + 1), p16.2))) else (some (.inl (p16.1, wr .i64 ((wr .u64 (wr .i64 (p16.1 + p16.2))).fdiv (2 ^ min (1 : Int).toNat 64)))))))) else (some (.inr p16.1))
noncomputable def Z.symMerge_k3 (self : (List α) → Int → Int → Int → Option (List α)) (a0 : List α) (a1 : Int) (a2 : Int) (a3 : Int) (y19 : Int) (p21 : (List α)) : Option (List α) :=
  bif (decide ((wr .i64 ((wr .u64 (wr .i64 (a1 + a3))).fdiv (2 ^ min (1 : Int).toNat 64))) < (wr .i64 ((wr .i64 ((wr .i64 ((wr .u64 (wr .i64 (a1 + a3))).fdiv (2 ^ min (1 : Int).toNat 64))) + a2)) - y19)))) && (decide ((wr .i64 ((wr .i64 ((wr .i64 ((wr .u64 (wr .i64 (a1 + a3))).fdiv (2 ^ min (1 : Int).toNat 64))) + a2)) - y19)) < a3)) then ((self p21 (wr .i64 ((wr .u64 (wr .i64 (a1 + a3))).fdiv (2 ^ min (1 : Int).toNat 64))) (wr .i64 ((wr .i64 ((wr .i64 ((wr .u64 (wr .i64 (a1 + a3))).fdiv (2 ^ min (1 : Int).toNat 64))) + a2)) - y19)) a3).bind fun r22 => gd [decide (r22.length = p21.length)] (gd [decide (r22.length = a0.length)] (some r22))) else (gd [decide (p21.length = a0.length)] (some p21))
noncomputable def Z.symMerge_k2 (self : (List α) → Int → Int → Int → Option (List α)) (a0 : List α) (a1 : Int) (a2 : Int) (a3 : Int) (y19 : Int) (p20 : (List α)) : Option (List α) :=
  bif (decide (a1 < y19)) && (decide (y19 < (wr .i64 ((wr .u64 (wr .i64 (a1 + a3))).fdiv (2 ^ min (1 : Int).toNat 64))))) then ((self p20 a1 y19 (wr .i64 ((wr .u64 (wr .i64 (a1 + a3))).fdiv (2 ^ min (1 : Int).toNat 64)))).bind fun r23 => gd [decide (r23.length = p20.length)] (Z.symMerge_k3 self a0 a1 a2 a3 y19 r23)) else (Z.symMerge_k3 self a0 a1 a2 a3 y19 p20)
noncomputable def Z.symMerge_k1 (self : (List α) → Int → Int → Int → Option (List α)) (a0 : List α) (a1 : Int) (a2 : Int) (a3 : Int) (p15 : Int × Int) : Option (List α) :=
  (loopM (Z.symMerge_l5 cmp a0 a1 a2 a3) (p15.1, p15.2)).bind fun y19 => bif (decide (y19 < a2)) && (decide (a2 < (wr .i64 ((wr .i64 ((wr .i64 ((wr .u64 (wr .i64 (a1 + a3))).fdiv (2 ^ min (1 : Int).toNat 64))) + a2)) - y19)))) then ((Z.rotate a0 y19 a2 (wr .i64 ((wr .i64 ((wr .i64 ((wr .u64 (wr .i64 (a1 + a3))).fdiv (2 ^ min (1 : Int).toNat 64))) + a2)) - y19))).bind fun r24 => gd [decide (r24.length = a0.length)] (Z.symMerge_k2 self a0 a1 a2 a3 y19 r24)) else (Z.symMerge_k2 self a0 a1 a2 a3 y19 a0)
noncomputable def Z.symMerge_b (self : (List α) → Int → Int → Int → Option (List α)) (a0 : List α) (a1 : Int) (a2 : Int) (a3 : Int) : Option (List α) :=
  bif (wr .i64 (a2 - a1)) == 1 then ((loopM (Z.symMerge_l1 cmp a0 a1) (a2, a3)).bind fun y4 => (loopM (Z.symMerge_l2 y4) (a0, a1)).bind fun y7 => gd [decide (y7.length = a0.length)] (some y7)) else (bif (wr .i64 (a3 - a2)) == 1 then ((loopM (Z.symMerge_l3 cmp a0 a2) (a1, a2)).bind fun y11 => (loopM (Z.symMerge_l4 y11) (a0, a2)).bind fun y14 => gd [decide (y14.length = a0.length)] (some y14)) else (gd [decide (0 ≤ 1)] (bif decide (a2 > (wr .i64 ((wr .u64 (wr .i64 (a1 + a3))).fdiv (2 ^ min (1 : Int).toNat 64)))) then (Z.symMerge_k1 cmp self a0 a1 a2 a3 (wr .i64 ((wr .i64 ((wr .i64 ((wr .u64 (wr .i64 (a1 + a3))).fdiv (2 ^ min (1 : Int).toNat 64))) + a2)) - a3), wr .i64 ((wr .u64 (wr .i64 (a1 + a3))).fdiv (2 ^ min (1 : Int).toNat 64)))) else (Z.symMerge_k1 cmp self a0 a1 a2 a3 (a1, a2)))))
noncomputable def Z.symMerge_n : Nat → (List α) → Int → Int → Int → Option (List α)
  | 0 => fun _ _ _ _ => none
  | n + 1 => Z.symMerge_b cmp (Z.symMerge_n n)
noncomputable def Z.symMerge (a0 : List α) (a1 : Int) (a2 : Int) (a3 : Int) : Option (List α) :=
  recM (fun n (x : (List α) × Int × Int × Int) => Z.symMerge_n cmp n x.1 x.2.1 x.2.2.1 x.2.2.2) (a0, a1, a2, a3)
noncomputable def Z.stable_l1 (a1 : Int) (p1 : (List α) × Int × Int) : Option (((List α) × Int × Int) ⊕ (Int × (List α))) :=
  bif decide (p1.2.2 ≤ a1) then ((Z.insertionSort cmp p1.1 p1.2.1 p1.2.2).bind fun r3 => gd [decide (r3.length = p1.1.length)] (some (.inl (r3, p1.2.2, wr .i64 (p1.2.2 + 20))))) else (some (.inr (p1.2.1, p1.1)))
noncomputable def Z.stable_l3 (a1 : Int) (p6 : (List α) × Int) (p8 : (List α) × Int × Int) : Option (((List α) × Int × Int) ⊕ (Int × (List α))) :=
  bif decide (p8.2.2 ≤ a1) then ((Z.symMerge cmp p8.1 p8.2.1 (wr .i64 (p8.2.1 + p6.2)) p8.2.2).bind fun r10 => gd [decide (r10.length = p8.1.length)] (some (.inl (r10, p8.2.2, wr .i64 (p8.2.2 + (wr .i64 (2 * p6.2))))))) else (some (.inr (p8.2.1, p8.1)))
noncomputable def Z.stable_k1 (p6 : (List α) × Int) (p12 : (List α)) : Option (((List α) × Int) ⊕ (List α)) :=
  some (.inl (p12, wr .i64 (p6.2 * 2)))
noncomputable def Z.stable_l2 (a1 : Int) (p6 : (List α) × Int) : Option (((List α) × Int) ⊕ (List α)) :=
  bif decide (p6.2 < a1) then ((loopM (Z.stable_l3 cmp a1 p6) (p6.1, 0, wr .i64 (2 * p6.2))).bind fun y11 => bif decide ((wr .i64 (y11.1 + p6.2)) < a1) then ((Z.symMerge cmp y11.2 y11.1 (wr .i64 (y11.1 + p6.2)) a1).bind fun r13 => gd [decide (r13.length = y11.2.length)] (Z.stable_k1 p6 r13)) else (Z.stable_k1 p6 y11.2)) else (some (.inr p6.1))
noncomputable def Z.stable (a0 : List α) (a1 : Int) : Option (List α) :=
  (loopM (Z.stable_l1 cmp a1) (a0, 0, 20)).bind fun y4 => (Z.insertionSort cmp y4.2 y4.1 a1).bind fun r5 => gd [decide (r5.length = y4.2.length)] ((loopM (Z.stable_l2 cmp a1) (r5, 20)).bind fun y14 => gd [decide (y14.length = a0.length)] (some y14))
noncomputable def Z.SortStable (a0 : List α) : Option (List α) :=
  (Z.stable cmp a0 (a0.length : Int)).bind fun r1 => gd [decide (r1.length = a0.length)] (gd [decide (r1.length = a0.length)] (some r1))

end
end Nv
/- Orders, ranges of lists, stable rearrangements. No condition. -/
namespace Nv
open Go
section
variable {α : Type} [Inhabited α]

theorem wrN {n : Int} (h0 : 0 ≤ n) (h1 : n ≤ 9223372036854775807) : wr .i64 n = n := by
  unfold wr
  rw [IntWalk.i64_in _ (by omega)]
theorem wrU {n : Int} (h0 : 0 ≤ n) (h1 : n ≤ 9223372036854775807) : wr .u64 n = n := by
  unfold wr
  simp [IntKind.wrap, IntKind.bits, IntKind.signed]
  omega
/-- The middle of two indices. -/
theorem half {i j : Nat} (h : i + j ≤ 9223372036854775807) : wr .i64 ((wr .u64 (wr .i64 ((i : Int) + (j : Int)))).fdiv (2 ^ min (1 : Int).toNat 64)) = (((i + j) / 2 : Nat) : Int) := by
  rw [wrN (n := (i : Int) + j) (by omega) (by omega), wrU (by omega) (by omega)]
  have : ((i : Int) + j).fdiv (2 ^ min (1 : Int).toNat 64) = (((i + j) / 2 : Nat) : Int) := by
    rw [show (2 : Int) ^ min (1 : Int).toNat 64 = 2 by decide, Int.fdiv_eq_ediv_of_nonneg _ (by omega)]
    omega
  rw [this, wrN (by omega) (by omega)]

abbrev at' (l : List α) (k : Nat) : α := l.getD k default
theorem ext_at {l l' : List α} (h : l.length = l'.length) (k : ∀ i, i < l.length → at' l i = at' l' i) : l = l' := by
  apply List.ext_getElem h
  intro i h1 h2
  have := k i h1
  simpa [at', h1, h2] using this
theorem at_set (l : List α) (i k : Nat) (x : α) : at' (l.set i x) k = if i = k ∧ k < l.length then x else at' l k := by
  simp only [at', List.getD_eq_getElem?_getD, List.getElem?_set]
  by_cases h : i = k
  · subst h
    by_cases h2 : i < l.length <;> simp [h2]
  · simp [h]
def swp (l : List α) (i j : Nat) : List α := (l.set i (at' l j)).set j (at' l i)
@[simp] theorem swp_len (l : List α) (i j : Nat) : (swp l i j).length = l.length := by simp [swp]
theorem swp_at {l : List α} {i j : Nat} (hi : i < l.length) (hj : j < l.length) (k : Nat) : at' (swp l i j) k = if k = j then at' l i else if k = i then at' l j else at' l k := by
  unfold swp
  rw [at_set, at_set]
  by_cases h1 : k = j
  · subst h1; simp [hj]
  · by_cases h2 : k = i
    · subst h2; simp [hi, h1]; omega
    · rw [if_neg (by omega), if_neg (by omega), if_neg h1, if_neg h2]

end
section
variable {α : Type}
/-- What is asked of 'less'. -/
structure SW (lt : α → α → Bool) : Prop where
  irr : ∀ x, lt x x = false
  tr : ∀ x y z, lt x y = true → lt y z = true → lt x z = true
  ntr : ∀ x y z, lt x y = false → lt y z = false → lt x z = false
variable {lt : α → α → Bool}
theorem SW.asym (h : SW lt) {x y : α} (k : lt x y = true) : lt y x = false := by
  cases e : lt y x with
  | false => rfl
  | true => have := h.tr _ _ _ k e; rw [h.irr] at this; cases this
theorem SW.lt_of_le_lt (h : SW lt) {x y z : α} (h1 : lt y x = false) (h2 : lt y z = true) : lt x z = true := by
  cases e : lt x z with
  | true => rfl
  | false => have := h.ntr _ _ _ h1 e; rw [h2] at this; cases this
theorem SW.lt_of_lt_le (h : SW lt) {x y z : α} (h1 : lt x y = true) (h2 : lt z y = false) : lt x z = true := by
  cases e : lt x z with
  | true => rfl
  | false => have := h.ntr _ _ _ e h2; rw [h1] at this; cases this
def eqv (lt : α → α → Bool) (e x : α) : Bool := !lt e x && !lt x e

end
section
variable {α : Type} [Inhabited α] {lt : α → α → Bool}
/-- The places a ≤ i < b rearranged, those that are alike in their order; all else as it was. -/
structure Rng (lt : α → α → Bool) (a b : Nat) (l l' : List α) : Prop where
  len : l'.length = l.length
  out : ∀ k, k < a ∨ b ≤ k → at' l' k = at' l k
  stab : ∀ e, l'.filter (eqv lt e) = l.filter (eqv lt e)
  src : ∀ k, a ≤ k → k < b → ∃ k', a ≤ k' ∧ k' < b ∧ at' l' k = at' l k'
theorem Rng.refl (a b : Nat) (l : List α) : Rng lt a b l l := ⟨rfl, fun _ _ => rfl, fun _ => rfl, fun k h1 h2 => ⟨k, h1, h2, rfl⟩⟩
theorem Rng.trans {a b : Nat} {l m n : List α} (h : Rng lt a b l m) (k : Rng lt a b m n) : Rng lt a b l n :=
  ⟨k.len.trans h.len, fun i hi => (k.out i hi).trans (h.out i hi), fun e => (k.stab e).trans (h.stab e), fun i h1 h2 => by
    obtain ⟨j, j1, j2, j3⟩ := k.src i h1 h2
    obtain ⟨p, p1, p2, p3⟩ := h.src j j1 j2
    exact ⟨p, p1, p2, j3.trans p3⟩⟩
theorem Rng.mono {a b a' b' : Nat} {l m : List α} (h : Rng lt a b l m) (ha : a' ≤ a) (hb : b ≤ b') : Rng lt a' b' l m :=
  ⟨h.len, fun k hk => h.out k (by omega), h.stab, fun k h1 h2 => by
    by_cases hk : a ≤ k ∧ k < b
    · obtain ⟨j, j1, j2, j3⟩ := h.src k hk.1 hk.2
      exact ⟨j, by omega, by omega, j3⟩
    · exact ⟨k, h1, h2, h.out k (by omega)⟩⟩
/-- Two blocks change places. -/
theorem rng_blocks (hS : SW lt) {P U V Q : List α} (h : ∀ u ∈ U, ∀ v ∈ V, lt v u = true) : Rng lt P.length (P.length + (U.length + V.length)) (P ++ (U ++ V) ++ Q) (P ++ (V ++ U) ++ Q) := by
  refine ⟨by simp; omega, fun k hk => ?_, fun e => ?_, fun k h1 h2 => ?_⟩
  · simp only [at', List.getD_eq_getElem?_getD]
    rcases hk with hk | hk
    · rw [List.append_assoc, List.append_assoc P, List.getElem?_append_left hk, List.getElem?_append_left hk]
    · rw [List.getElem?_append_right (by simp; omega), List.getElem?_append_right (by simp; omega)]
      congr 2
      simp; omega
  · have key : V.filter (eqv lt e) ++ U.filter (eqv lt e) = U.filter (eqv lt e) ++ V.filter (eqv lt e) := by
      rcases hU : U.filter (eqv lt e) with _ | ⟨u, us⟩
      · simp
      · rcases hV : V.filter (eqv lt e) with _ | ⟨v, vs⟩
        · simp
        · have hu : u ∈ U.filter (eqv lt e) := by rw [hU]; simp
          have hv : v ∈ V.filter (eqv lt e) := by rw [hV]; simp
          rw [List.mem_filter] at hu hv
          have h1 := h u hu.1 v hv.1
          have h2 := hu.2; have h3 := hv.2
          simp only [eqv, Bool.and_eq_true, Bool.not_eq_true'] at h2 h3
          have := hS.ntr _ _ _ h3.2 h2.1
          rw [h1] at this; cases this
    simp only [List.filter_append, key]
  · have hk : k - P.length < (V ++ U).length := by simp; omega
    have e1 : at' (P ++ (V ++ U) ++ Q) k = (V ++ U)[k - P.length] := by
      simp only [at', List.getD_eq_getElem?_getD]
      rw [List.append_assoc, List.getElem?_append_right h1, List.getElem?_append_left hk, List.getElem?_eq_getElem hk]; rfl
    have hm : (V ++ U)[k - P.length] ∈ U ++ V := by
      have := List.getElem_mem hk
      simp only [List.mem_append] at this ⊢
      exact this.symm
    obtain ⟨j, hj, ej⟩ := List.getElem_of_mem hm
    refine ⟨P.length + j, by omega, by simp at hj; omega, ?_⟩
    rw [e1, ← ej]
    simp only [at', List.getD_eq_getElem?_getD]
    rw [List.append_assoc, List.getElem?_append_right (by omega), Nat.add_sub_cancel_left, List.getElem?_append_left hj, List.getElem?_eq_getElem hj]
    rfl
/-- .. told by the places. -/
theorem rng_rot (hS : SW lt) {l l' : List α} {a m b : Nat} (ham : a ≤ m) (hmb : m ≤ b) (hb : b ≤ l.length) (hl : l'.length = l.length)
    (h1 : ∀ k, k < a ∨ b ≤ k → at' l' k = at' l k) (h2 : ∀ k, a ≤ k → k < a + (b - m) → at' l' k = at' l (k + (m - a))) (h3 : ∀ k, a + (b - m) ≤ k → k < b → at' l' k = at' l (k - (b - m)))
    (h : ∀ i j, a ≤ i → i < m → m ≤ j → j < b → lt (at' l j) (at' l i) = true) : Rng lt a b l l' := by
  have e : l = l.take a ++ ((l.drop a).take (m - a) ++ (l.drop m).take (b - m)) ++ l.drop b := by
    have q1 : l.drop m = (l.drop m).take (b - m) ++ l.drop b := by
      have := List.take_append_drop (b - m) (l.drop m)
      rw [List.drop_drop, show m + (b - m) = b by omega] at this
      exact this.symm
    have q2 : l.drop a = (l.drop a).take (m - a) ++ l.drop m := by
      have := List.take_append_drop (m - a) (l.drop a)
      rw [List.drop_drop, show a + (m - a) = m by omega] at this
      exact this.symm
    rw [List.append_assoc, List.append_assoc, ← q1, ← q2, List.take_append_drop]
  have e' : l' = l.take a ++ ((l.drop m).take (b - m) ++ (l.drop a).take (m - a)) ++ l.drop b := by
    apply ext_at
    · simp; omega
    · intro i hi
      by_cases q1 : i < a
      · rw [h1 i (.inl q1)]
        simp only [at', List.getD_eq_getElem?_getD, List.append_assoc]
        rw [List.getElem?_append_left (by simp; omega)]; simp [q1]
      · by_cases q2 : i < a + (b - m)
        · rw [h2 i (by omega) q2]
          simp only [at', List.getD_eq_getElem?_getD, List.append_assoc]
          rw [List.getElem?_append_right (by simp; omega), List.getElem?_append_left (by simp; omega)]
          simp only [List.getElem?_take, List.length_take]
          rw [if_pos (by omega)]; simp; congr 2; omega
        · by_cases q3 : i < b
          · rw [h3 i (by omega) q3]
            simp only [at', List.getD_eq_getElem?_getD, List.append_assoc]
            rw [List.getElem?_append_right (by simp; omega), List.getElem?_append_right (by simp; omega), List.getElem?_append_left (by simp; omega)]
            simp only [List.getElem?_take, List.length_take]
            rw [if_pos (by simp; omega)]; simp; congr 2; omega
          · rw [h1 i (.inr (by omega))]
            simp only [at', List.getD_eq_getElem?_getD]
            rw [List.getElem?_append_right (by simp; omega)]
            simp; congr 2; omega
  have key := rng_blocks (P := l.take a) (U := (l.drop a).take (m - a)) (V := (l.drop m).take (b - m)) (Q := l.drop b) hS (by
    intro u hu v hv
    obtain ⟨i, hi, rfl⟩ := List.getElem_of_mem hu
    obtain ⟨j, hj, rfl⟩ := List.getElem_of_mem hv
    simp at hi hj
    have := h (a + i) (m + j) (by omega) (by omega) (by omega) (by omega)
    simp only [at', List.getD_eq_getElem?_getD] at this
    simp only [List.getElem_take, List.getElem_drop]
    rw [List.getElem?_eq_getElem (by omega), List.getElem?_eq_getElem (by omega)] at this
    exact this)
  rw [← e, ← e'] at key
  have q1 : (l.take a).length = a := by simp; omega
  have q2 : ((l.drop a).take (m - a)).length = m - a := by simp; omega
  have q3 : ((l.drop m).take (b - m)).length = b - m := by simp; omega
  rw [q1, q2, q3, show a + (m - a + (b - m)) = b by omega] at key
  exact key
/-- Two neighbours change places. -/
theorem rng_swap (hS : SW lt) {l : List α} {a b i : Nat} (ha : a ≤ i) (hb : i + 1 < b) (hl : b ≤ l.length) (h : lt (at' l (i + 1)) (at' l i) = true) : Rng lt a b l (swp l (i + 1) i) := by
  refine Rng.mono (a := i) (b := i + 2) (rng_rot hS (m := i + 1) (by omega) (by omega) (by omega) (by simp) (fun k hk => ?_) (fun k h1 h2 => ?_) (fun k h1 h2 => ?_) (fun p q h1 h2 h3 h4 => ?_)) ha (by omega)
  · rw [swp_at (by omega) (by omega), if_neg (by omega), if_neg (by omega)]
  · obtain rfl : k = i := by omega
    rw [swp_at (by omega) (by omega), if_pos rfl]; congr 1; omega
  · obtain rfl : k = i + 1 := by omega
    rw [swp_at (by omega) (by omega), if_neg (by omega), if_pos rfl]; congr 1; omega
  · obtain rfl : p = i := by omega
    obtain rfl : q = p + 1 := by omega
    exact h
def Srt (lt : α → α → Bool) (a b : Nat) (l : List α) : Prop := ∀ i j, a ≤ i → i < j → j < b → lt (at' l j) (at' l i) = false
theorem Srt.out {a b p q : Nat} {l l' : List α} (h : Srt lt p q l) (k : Rng lt a b l l') (hd : q ≤ a ∨ b ≤ p) : Srt lt p q l' := by
  intro i j h1 h2 h3
  rw [k.out i (by omega), k.out j (by omega)]
  exact h i j h1 h2 h3
end
section
variable {α : Type} {lt : α → α → Bool}
/-- A sorted list is told by those that are alike, in their order. -/
theorem sorted_unique (hS : SW lt) : ∀ {s t : List α}, s.Pairwise (fun x y => lt y x = false) → t.Pairwise (fun x y => lt y x = false) → (∀ e, s.filter (eqv lt e) = t.filter (eqv lt e)) → s = t
  | [], [], _, _, _ => rfl
  | [], y :: t, _, _, h => by have := h y; simp [eqv, hS.irr] at this
  | x :: s, [], _, _, h => by have := h x; simp [eqv, hS.irr] at this
  | x :: s, y :: t, h1, h2, h => by
    have ex : eqv lt x x = true := by simp [eqv, hS.irr]
    have ey : eqv lt y y = true := by simp [eqv, hS.irr]
    have p1 : lt y x = false := by
      have hy : y ∈ (x :: s).filter (eqv lt y) := by rw [h y]; simp [ey]
      rw [List.mem_filter] at hy
      rcases List.mem_cons.1 hy.1 with e | e
      · rw [e]; exact hS.irr _
      · exact (List.pairwise_cons.1 h1).1 y e
    have p2 : lt x y = false := by
      have hx : x ∈ (y :: t).filter (eqv lt x) := by rw [← h x]; simp [ex]
      rw [List.mem_filter] at hx
      rcases List.mem_cons.1 hx.1 with e | e
      · rw [e]; exact hS.irr _
      · exact (List.pairwise_cons.1 h2).1 x e
    have exy : eqv lt x y = true := by simp [eqv, p1, p2]
    have hx := h x
    rw [List.filter_cons_of_pos ex, List.filter_cons_of_pos exy, List.cons.injEq] at hx
    obtain ⟨rfl, _⟩ := hx
    congr 1
    refine sorted_unique hS (List.pairwise_cons.1 h1).2 (List.pairwise_cons.1 h2).2 fun e => ?_
    have := h e
    cases he : eqv lt e x with
    | true => simpa [List.filter_cons_of_pos he] using this
    | false =>
      rw [List.filter_cons_of_neg (by simp [he]), List.filter_cons_of_neg (by simp [he])] at this
      exact this
end
section
variable {α : Type} [Inhabited α] {lt : α → α → Bool}
theorem srt_pairwise {l : List α} (h : Srt lt 0 l.length l) : l.Pairwise (fun x y => lt y x = false) := by
  rw [List.pairwise_iff_getElem]
  intro i j hi hj hij
  have := h i j (Nat.zero_le _) hij hj
  simpa [at', hi, hj] using this
end
end Nv
/- The loops of the stable sort: insertion sort, the blocks' exchange, rotate. No condition. -/
namespace Nv
open Go
section
variable {α : Type} [Inhabited α]
def ltc (c : α → α → Int) (x y : α) : Bool := decide (c x y < 0)
variable {cmp : α → α → Option Int} {c : α → α → Int}
theorem gdT {β : Type} {l : List Bool} {k : Option β} (h : l.all id = true) : gd l k = k := by unfold gd; rw [h]; rfl
theorem set_swp (l : List α) (i j : Nat) : ((l.set (0 + i) (l.getD (0 + j) default)).set (0 + j) (l.getD (0 + i) default)) = swp l i j := by simp [swp, at']

theorem ins2_step (hc : ∀ x y, cmp x y = some (c x y)) {l : List α} {a j : Nat} (hj : j < l.length) (hl : l.length ≤ 4611686018427387904) :
    Z.insertionSort_l2 cmp (a : Int) (l, (j : Int)) = bif decide (a < j) && ltc c (at' l j) (at' l (j - 1)) then some (.inl (swp l j (j - 1), ((j - 1 : Nat) : Int))) else some (.inr l) := by
  unfold Z.insertionSort_l2
  by_cases h : a < j
  · have w : wr .i64 ((j : Int) - 1) = ((j - 1 : Nat) : Int) := by rw [wrN (by omega) (by omega)]; omega
    have d : decide ((j : Int) > (a : Int)) = true := by simpa using h
    simp only [w, d, hc, gc, guardB, cond_true, Option.bind_some, Bool.true_and, Int.toNat_natCast]
    rw [gdT (by simp; omega), gdT (by simp; omega), set_swp]
    simp [h, ltc, at']
  · have d : decide ((j : Int) > (a : Int)) = false := by simp; omega
    simp only [d, gc, guardB, cond_false, Option.bind_some, Bool.false_and]
    rw [gdT (by simp)]
    simp [h]

theorem ins2 (hc : ∀ x y, cmp x y = some (c x y)) (hS : SW (ltc c)) {a i : Nat} : ∀ (j : Nat) (l : List α), a ≤ j → j ≤ i → i < l.length → l.length ≤ 4611686018427387904 →
    (∀ p q, a ≤ p → p < q → q ≤ i → q ≠ j → ltc c (at' l q) (at' l p) = false) → ∃ l', Iter (Z.insertionSort_l2 cmp (a : Int)) (l, (j : Int)) l' ∧ Rng (ltc c) a (i + 1) l l' ∧ Srt (ltc c) a (i + 1) l' := by
  intro j
  induction j with
  | zero =>
    intro l h1 h2 h3 h4 h5
    have := ins2_step (a := a) hc (l := l) (j := 0) (by omega) h4
    rw [show decide (a < 0) = false by simp] at this
    exact ⟨l, .out this, .refl _ _ _, fun p q q1 q2 q3 => h5 p q q1 q2 (by omega) (by omega)⟩
  | succ j ih =>
    intro l h1 h2 h3 h4 h5
    have st := ins2_step (a := a) hc (l := l) (j := j + 1) (by omega) h4
    rw [Nat.add_sub_cancel] at st
    cases hb : decide (a < j + 1) && ltc c (at' l (j + 1)) (at' l j) with
    | true =>
      rw [hb] at st
      simp only [Bool.and_eq_true, decide_eq_true_eq] at hb
      have hsw := fun k => swp_at (l := l) (i := j + 1) (j := j) (by omega) (by omega) k
      obtain ⟨l', i1, i2, i3⟩ := ih (swp l (j + 1) j) (by omega) (by omega) (by simpa using h3) (by simpa using h4) (by
        intro p q q1 q2 q3 q4
        rw [hsw p, hsw q, if_neg q4]
        by_cases e1 : q = j + 1
        · subst e1
          rw [if_pos rfl]
          by_cases e2 : p = j
          · subst e2; rw [if_pos rfl]; exact hS.asym hb.2
          · rw [if_neg e2, if_neg (by omega)]; exact h5 p j q1 (by omega) (by omega) (by omega)
        · rw [if_neg e1]
          by_cases e2 : p = j
          · subst e2; rw [if_pos rfl]; exact h5 (p + 1) q (by omega) (by omega) q3 (by omega)
          · rw [if_neg e2]
            by_cases e3 : p = j + 1
            · subst e3; rw [if_pos rfl]; exact h5 j q (by omega) (by omega) q3 (by omega)
            · rw [if_neg e3]; exact h5 p q q1 q2 q3 (by omega))
      exact ⟨l', .next st i1, (rng_swap hS (by omega) (by omega) (by omega) hb.2).trans i2, i3⟩
    | false =>
      rw [hb] at st
      refine ⟨l, .out st, .refl _ _ _, fun p q q1 q2 q3 => ?_⟩
      by_cases e : q = j + 1
      · subst e
        have h6 : ltc c (at' l (j + 1)) (at' l j) = false := by
          simp only [Bool.and_eq_false_iff, decide_eq_false_iff_not] at hb
          rcases hb with hb | hb
          · omega
          · exact hb
        by_cases e2 : p = j
        · subst e2; exact h6
        · exact hS.ntr _ _ _ h6 (h5 p j q1 (by omega) (by omega) (by omega))
      · exact h5 p q q1 q2 (by omega) e

theorem ins1 (hc : ∀ x y, cmp x y = some (c x y)) (hS : SW (ltc c)) {a b : Nat} : ∀ (k i : Nat) (l : List α), i + k = b → a < i → b ≤ l.length → l.length ≤ 4611686018427387904 → Srt (ltc c) a i l →
    ∃ l', Iter (Z.insertionSort_l1 cmp (a : Int) (b : Int)) (l, (i : Int)) l' ∧ Rng (ltc c) a b l l' ∧ Srt (ltc c) a b l' := by
  intro k
  induction k with
  | zero =>
    intro i l h1 h2 h3 h4 h5
    obtain rfl : i = b := by omega
    refine ⟨l, .out ?_, .refl _ _ _, h5⟩
    unfold Z.insertionSort_l1
    simp
  | succ k ih =>
    intro i l h1 h2 h3 h4 h5
    obtain ⟨l1, i1, i2, i3⟩ := ins2 hc hS (a := a) (i := i) i l (by omega) (by omega) (by omega) h4 (fun p q q1 q2 q3 q4 => h5 p q q1 q2 (by omega))
    obtain ⟨l2, j1, j2, j3⟩ := ih (i + 1) l1 (by omega) (by omega) (by rw [i2.len]; omega) (by rw [i2.len]; omega) i3
    refine ⟨l2, .next ?_ j1, (i2.mono (Nat.le_refl _) (by omega)).trans j2, j3⟩
    unfold Z.insertionSort_l1
    have w : wr .i64 ((i : Int) + 1) = ((i + 1 : Nat) : Int) := by rw [wrN (by omega) (by omega)]; omega
    simp only [loopM_of i1, w, Option.bind_some]
    rw [show decide ((i : Int) < (b : Int)) = true by simp; omega]
    rfl

theorem insS (hc : ∀ x y, cmp x y = some (c x y)) (hS : SW (ltc c)) {a b : Nat} {l : List α} (hab : a ≤ b) (hb : b ≤ l.length) (hl : l.length ≤ 4611686018427387904) :
    ∃ l', Z.insertionSort cmp l (a : Int) (b : Int) = some l' ∧ Rng (ltc c) a b l l' ∧ Srt (ltc c) a b l' := by
  have w : wr .i64 ((a : Int) + 1) = ((a + 1 : Nat) : Int) := by rw [wrN (by omega) (by omega)]; omega
  unfold Z.insertionSort
  rw [w]
  by_cases e : a + 1 ≤ b
  · obtain ⟨l', h1, h2, h3⟩ := ins1 hc hS (a := a) (b := b) (b - (a + 1)) (a + 1) l (by omega) (by omega) hb hl (fun p q q1 q2 q3 => by omega)
    refine ⟨l', ?_, h2, h3⟩
    rw [loopM_of h1, Option.bind_some, gdT (by simp [h2.len])]
  · refine ⟨l, ?_, .refl _ _ _, fun p q q1 q2 q3 => by omega⟩
    rw [loopM_of (y := l) (.out (by unfold Z.insertionSort_l1; rw [show decide (((a + 1 : Nat) : Int) < (b : Int)) = false by simp; omega]; rfl)), Option.bind_some, gdT (by simp)]

/-- Two blocks of n change places. -/
theorem swapR1 {a b n : Nat} : ∀ (k i : Nat) (l : List α), i + k = n → a + n ≤ b → b + n ≤ l.length → l.length ≤ 4611686018427387904 →
    ∃ l', Iter (Z.swapRange_l1 (a : Int) (b : Int) (n : Int)) (l, (i : Int)) l' ∧ l'.length = l.length ∧
      ∀ p, at' l' p = if a + i ≤ p ∧ p < a + n then at' l (p - a + b) else if b + i ≤ p ∧ p < b + n then at' l (p - b + a) else at' l p := by
  intro k
  induction k with
  | zero =>
    intro i l h1 h2 h3 h4
    refine ⟨l, .out ?_, rfl, fun p => ?_⟩
    · unfold Z.swapRange_l1
      rw [show decide ((i : Int) < (n : Int)) = false by simp; omega]
      rfl
    · rw [if_neg (by omega), if_neg (by omega)]
  | succ k ih =>
    intro i l h1 h2 h3 h4
    obtain ⟨l', j1, j2, j3⟩ := ih (i + 1) (swp l (a + i) (b + i)) (by omega) h2 (by simpa using h3) (by simpa using h4)
    refine ⟨l', .next ?_ j1, by simpa using j2, fun p => ?_⟩
    · unfold Z.swapRange_l1
      have w1 : wr .i64 ((i : Int) + 1) = ((i + 1 : Nat) : Int) := by rw [wrN (by omega) (by omega)]; omega
      have w2 : wr .i64 ((a : Int) + (i : Int)) = ((a + i : Nat) : Int) := by rw [wrN (by omega) (by omega)]; omega
      have w3 : wr .i64 ((b : Int) + (i : Int)) = ((b + i : Nat) : Int) := by rw [wrN (by omega) (by omega)]; omega
      simp only [w1, w2, w3, Int.toNat_natCast]
      rw [show decide ((i : Int) < (n : Int)) = true by simp; omega, cond_true, gdT (by simp; omega), set_swp]
    · rw [j3 p]
      have hsw := fun k => swp_at (l := l) (i := a + i) (j := b + i) (by omega) (by omega) k
      by_cases q1 : a + (i + 1) ≤ p ∧ p < a + n
      · rw [if_pos q1, if_pos (by omega), hsw, if_neg (by omega), if_neg (by omega)]
      · rw [if_neg q1]
        by_cases q2 : b + (i + 1) ≤ p ∧ p < b + n
        · rw [if_pos q2, if_neg (by omega), if_pos (by omega), hsw, if_neg (by omega), if_neg (by omega)]
        · rw [if_neg q2, hsw]
          by_cases q3 : p = b + i
          · subst q3; rw [if_pos rfl, if_neg (by omega), if_pos (by omega)]; congr 1; omega
          · rw [if_neg q3]
            by_cases q4 : p = a + i
            · subst q4; rw [if_pos rfl, if_pos (by omega)]; congr 1; omega
            · rw [if_neg q4, if_neg (by omega), if_neg (by omega)]
theorem swapR {a b n : Nat} {l : List α} (h2 : a + n ≤ b) (h3 : b + n ≤ l.length) (h4 : l.length ≤ 4611686018427387904) :
    ∃ l', Z.swapRange l (a : Int) (b : Int) (n : Int) = some l' ∧ l'.length = l.length ∧ ∀ p, at' l' p = if a ≤ p ∧ p < a + n then at' l (p - a + b) else if b ≤ p ∧ p < b + n then at' l (p - b + a) else at' l p := by
  obtain ⟨l', h5, h6, h7⟩ := swapR1 (a := a) (b := b) (n := n) n 0 l (by omega) h2 h3 h4
  refine ⟨l', ?_, h6, fun p => by simpa using h7 p⟩
  unfold Z.swapRange
  rw [show ((0 : Int)) = ((0 : Nat) : Int) from rfl, loopM_of h5, Option.bind_some, gdT (by simp [h6])]

/-- Where the element comes from that stands at k behind the exchange of the i places before m and the j places from m on. -/
def rotI (m i j k : Nat) : Nat := if m - i ≤ k ∧ k < m - i + j then k + i else if m - i + j ≤ k ∧ k < m + j then k - j else k
theorem rot1 {m : Nat} : ∀ (s i j : Nat) (l : List α), i + j ≤ s → 0 < i → 0 < j → i ≤ m → m + j ≤ l.length → l.length ≤ 4611686018427387904 →
    ∃ (i' : Nat) (l' : List α), Iter (Z.rotate_l1 (m : Int)) (l, (i : Int), (j : Int)) ((i' : Int), l') ∧ 0 < i' ∧ i' ≤ i ∧ i' ≤ j ∧ l'.length = l.length ∧ ∀ k, at' l (rotI m i j k) = at' l' (rotI m i' i' k) := by
  intro s
  induction s with
  | zero => intro i j l h; omega
  | succ s ih =>
    intro i j l h1 h2 h3 h4 h5 h6
    by_cases e : i = j
    · subst e
      refine ⟨i, l, .out ?_, h2, Nat.le_refl _, Nat.le_refl _, rfl, fun _ => rfl⟩
      unfold Z.rotate_l1
      simp
    · have ne : (((i : Int)) != ((j : Int))) = true := by simp; omega
      have w1 : wr .i64 ((m : Int) - (i : Int)) = ((m - i : Nat) : Int) := by rw [wrN (by omega) (by omega)]; omega
      by_cases g : j < i
      · have w2 : wr .i64 ((i : Int) - (j : Int)) = ((i - j : Nat) : Int) := by rw [wrN (by omega) (by omega)]; omega
        obtain ⟨l1, q1, q2, q3⟩ := swapR (a := m - i) (b := m) (n := j) (l := l) (by omega) (by omega) h6
        obtain ⟨i', l', r1, r2, r3, r4, r5, r6⟩ := ih (i - j) j l1 (by omega) (by omega) h3 (by omega) (by omega) (by omega)
        refine ⟨i', l', .next ?_ r1, r2, by omega, r4, by omega, fun k => ?_⟩
        · unfold Z.rotate_l1
          simp only [ne, w1, w2, q1, cond_true, Option.bind_some]
          rw [show decide ((i : Int) > (j : Int)) = true by simp; omega, cond_true, gdT (by simp [q2])]
        · rw [← r6 k, q3]
          unfold rotI
          by_cases c1 : m - i ≤ k ∧ k < m - i + j
          · rw [if_pos c1, if_neg (c := m - (i - j) ≤ k ∧ k < m - (i - j) + j) (by omega), if_neg (c := m - (i - j) + j ≤ k ∧ k < m + j) (by omega), if_pos (by omega)]; congr 1; omega
          · rw [if_neg c1]
            by_cases c2 : m - i + j ≤ k ∧ k < m + j
            · rw [if_pos c2]
              by_cases c3 : k < m - i + j + j
              · rw [if_pos (c := m - (i - j) ≤ k ∧ k < m - (i - j) + j) (by omega), if_neg (by omega), if_pos (by omega)]; congr 1; omega
              · rw [if_neg (c := m - (i - j) ≤ k ∧ k < m - (i - j) + j) (by omega), if_pos (c := m - (i - j) + j ≤ k ∧ k < m + j) (by omega), if_neg (by omega), if_neg (by omega)]
            · rw [if_neg c2, if_neg (c := m - (i - j) ≤ k ∧ k < m - (i - j) + j) (by omega), if_neg (c := m - (i - j) + j ≤ k ∧ k < m + j) (by omega), if_neg (by omega), if_neg (by omega)]
      · have w2 : wr .i64 ((j : Int) - (i : Int)) = ((j - i : Nat) : Int) := by rw [wrN (by omega) (by omega)]; omega
        have w3 : wr .i64 ((m : Int) + (j : Int)) = ((m + j : Nat) : Int) := by rw [wrN (by omega) (by omega)]; omega
        have w4 : wr .i64 (((m + j : Nat) : Int) - (i : Int)) = ((m + j - i : Nat) : Int) := by rw [wrN (by omega) (by omega)]; omega
        obtain ⟨l1, q1, q2, q3⟩ := swapR (a := m - i) (b := m + j - i) (n := i) (l := l) (by omega) (by omega) h6
        obtain ⟨i', l', r1, r2, r3, r4, r5, r6⟩ := ih i (j - i) l1 (by omega) h2 (by omega) h4 (by omega) (by omega)
        refine ⟨i', l', .next ?_ r1, r2, r3, by omega, by omega, fun k => ?_⟩
        · unfold Z.rotate_l1
          simp only [ne, w1, w2, w3, w4, q1, cond_true, Option.bind_some]
          rw [show decide ((i : Int) > (j : Int)) = false by simp; omega, cond_false, gdT (by simp [q2])]
        · rw [← r6 k, q3]
          unfold rotI
          by_cases c1 : m - i ≤ k ∧ k < m - i + j
          · rw [if_pos c1]
            by_cases c3 : k < m - i + (j - i)
            · rw [if_pos (c := m - i ≤ k ∧ k < m - i + (j - i)) (by omega), if_neg (by omega), if_neg (by omega)]
            · rw [if_neg (c := m - i ≤ k ∧ k < m - i + (j - i)) (by omega), if_pos (c := m - i + (j - i) ≤ k ∧ k < m + (j - i)) (by omega), if_pos (by omega)]; congr 1; omega
          · rw [if_neg c1]
            by_cases c2 : m - i + j ≤ k ∧ k < m + j
            · rw [if_pos c2, if_neg (c := m - i ≤ k ∧ k < m - i + (j - i)) (by omega), if_neg (c := m - i + (j - i) ≤ k ∧ k < m + (j - i)) (by omega), if_neg (by omega), if_pos (by omega)]; congr 1; omega
            · rw [if_neg c2, if_neg (c := m - i ≤ k ∧ k < m - i + (j - i)) (by omega), if_neg (c := m - i + (j - i) ≤ k ∧ k < m + (j - i)) (by omega), if_neg (by omega), if_neg (by omega)]
theorem rotS {a m b : Nat} {l : List α} (h1 : a < m) (h2 : m < b) (h3 : b ≤ l.length) (h4 : l.length ≤ 4611686018427387904) :
    ∃ l', Z.rotate l (a : Int) (m : Int) (b : Int) = some l' ∧ l'.length = l.length ∧ ∀ k, at' l' k = at' l (rotI m (m - a) (b - m) k) := by
  obtain ⟨i', l1, r1, r2, r3, r4, r5, r6⟩ := rot1 (m := m) ((m - a) + (b - m)) (m - a) (b - m) l (by omega) (by omega) (by omega) (by omega) (by omega) h4
  obtain ⟨l2, q1, q2, q3⟩ := swapR (a := m - i') (b := m) (n := i') (l := l1) (by omega) (by omega) (by omega)
  refine ⟨l2, ?_, by omega, fun k => ?_⟩
  · unfold Z.rotate
    have w1 : wr .i64 ((m : Int) - (a : Int)) = ((m - a : Nat) : Int) := by rw [wrN (by omega) (by omega)]; omega
    have w2 : wr .i64 ((b : Int) - (m : Int)) = ((b - m : Nat) : Int) := by rw [wrN (by omega) (by omega)]; omega
    have w3 : wr .i64 ((m : Int) - (i' : Int)) = ((m - i' : Nat) : Int) := by rw [wrN (by omega) (by omega)]; omega
    rw [w1, w2, loopM_of r1]
    simp only [Option.bind_some, w3, q1]
    rw [gdT (by simp [q2]), gdT (by simp [q2, r5])]
  · rw [r6 k, q3]
    unfold rotI
    by_cases c1 : m - i' ≤ k ∧ k < m - i' + i'
    · rw [if_pos c1, if_pos c1]; congr 1; omega
    · rw [if_neg c1, if_neg c1]
      by_cases c2 : m ≤ k ∧ k < m + i'
      · rw [if_pos c2, if_pos (by omega)]; congr 1; omega
      · rw [if_neg c2, if_neg (by omega)]
theorem rotR (hS : SW (ltc c)) {a m b : Nat} {l : List α} (h1 : a < m) (h2 : m < b) (h3 : b ≤ l.length) (h4 : l.length ≤ 4611686018427387904)
    (h : ∀ i j, a ≤ i → i < m → m ≤ j → j < b → ltc c (at' l j) (at' l i) = true) : ∃ l', Z.rotate l (a : Int) (m : Int) (b : Int) = some l' ∧ Rng (ltc c) a b l l' ∧
      (∀ k, a ≤ k → k < a + (b - m) → at' l' k = at' l (k + (m - a))) ∧ (∀ k, a + (b - m) ≤ k → k < b → at' l' k = at' l (k - (b - m))) := by
  obtain ⟨l', q1, q2, q3⟩ := rotS h1 h2 h3 h4
  have p2 : ∀ k, a ≤ k → k < a + (b - m) → at' l' k = at' l (k + (m - a)) := fun k k1 k2 => by
    rw [q3]; unfold rotI; rw [if_pos (by omega)]
  have p3 : ∀ k, a + (b - m) ≤ k → k < b → at' l' k = at' l (k - (b - m)) := fun k k1 k2 => by
    rw [q3]; unfold rotI; rw [if_neg (by omega), if_pos (by omega)]
  refine ⟨l', q1, rng_rot hS (by omega) (by omega) h3 q2 (fun k hk => ?_) p2 p3 h, p2, p3⟩
  rw [q3]; unfold rotI; rw [if_neg (by omega), if_neg (by omega)]
end
end Nv
