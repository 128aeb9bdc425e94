/- Part of the proof of SpfReverse: the library of walks. No condition. -/
import Derived.Test.YtlhpjcjjnbfmbaaNvLibC
import Derived.Test.YtlhpjcjjnbfmbaaNvLibB
import Derived.KernelRfl
import Derived.Test.YtlhpjcjjnbfmbaaNvLibA
namespace Nv
open Go Go.RowKit
end Nv
namespace Nv
open Go Go.RowKit
def lkB : Op → Bool
  | .load _ _ | .indexAddr _ _ _ => true
  | _ => false
def elemN (k : Nat) : List Nat → Bool
  | [] => false
  | x :: l => Nat.beq x k || elemN k l
def frk (fr : List Nat) (k : Nat) (op : Op) : Bool := elemN k fr && lkB op
theorem wr_not_frk {fr : List Nat} {k : Nat} {op : Op} (h : wrB op = true) : frk fr k op = false := by
  have : lkB op = false := by
    unfold wrB at h
    split at h <;> first | rfl | cases h
  unfold frk; rw [this, Bool.and_false]
theorem cellsAt_nil {H : List Ob} {d : D} {cs : List D} (h : cellsAt [] d = some cs) : cellsAt H d = some cs := by
  cases d <;> first | exact h | (simp [cellsAt] at h)
theorem idxD_nil {P : Program} {H : List Ob} {t : TypeId} {x i : D} {r : D × List Bool} (h : idxD P [] t x i = some r) : idxD P H t x i = some r := by
  unfold idxD at h ⊢
  cases hu : P.underlying t with
  | none => rw [hu] at h; cases h
  | some u =>
    rw [hu] at h
    cases u with
    | slice e =>
      simp only at h ⊢
      cases hs : szO P e with
      | none => rw [hs] at h; cases h
      | some sz =>
        rw [hs] at h
        simp only at h ⊢
        cases x <;> cases i <;> first | exact h | (simp at h)
    | _ => exact h
theorem opD_nil {P : Program} {H : List Ob} {ops : Array Oper} {env : List (Nat × D)} {al : List (Nat × Bool)} {orc : List Res} {g : Bool} {o : Oper} {fr : List Nat} {k : Nat} (hf : frk fr k o.op = true) {x : Res × List Bool × List Req × List Res}
    (h : opD P [] ops env al orc g o = some x) : opD P H ops env al orc g o = some x := by
  unfold frk at hf
  simp only [Bool.and_eq_true] at hf
  have hl := hf.2
  unfold lkB at hl
  split at hl
  · rename_i t a hop
    unfold opD at h ⊢
    simp only [hop, pureOp] at h ⊢
    cases hc : cellsAt [] (unwrap al (evD env a)) with
    | none => rw [hc] at h; cases h
    | some cs => rw [hc] at h; rw [cellsAt_nil hc]; exact h
  · rename_i t a b hop
    unfold opD at h ⊢
    simp only [hop, pureOp] at h ⊢
    cases hc : idxD P [] t (unwrap al (evD env a)) (unwrap al (evD env b)) with
    | none => rw [hc] at h; cases h
    | some cs => rw [hc] at h; rw [idxD_nil hc]; exact h
  · cases hl
def stepDf (fr : List Nat) (P : Program) (ops : Array Oper) (k : Nat) (H : List Ob) (env : List (Nat × D)) (orc : List Res) (o : Oper) : Option (D × List Ob × List Bool × List Req × List Res) :=
  match wrB o.op with
  | true => match o.guard, heapF P H (fun x => unwrap [] (evD env x)) o.op with
    | none, some (d, H', none, bs) => some (d, H', bs, [], orc)
    | _, _ => none
  | false => match stepDr P ops k (bif frk fr k o.op then [] else H) env orc o with
    | some (d, bs, rq, orc') => some (d, H, bs, rq, orc')
    | none => none
def runDf (fr : List Nat) (P : Program) (nt : Nat) (ops : Array Oper) : Nat → List Oper → List (Nat × D) → List Ob → List Res → Option (List (Nat × D) × List Ob × List Bool × List Req × List Res)
  | _, [], env, H, orc => some (env, H, [], [], orc)
  | k, o :: l, env, H, orc => match stepDf fr P ops k H env orc o with
    | some (d, H1, bs, rq, orc1) => match putE nt o.dst d env with
      | some e => match runDf fr P nt ops (k + 1) l e H1 orc1 with
        | some (e', H', bs', rq', orc') => some (e', H', bs ++ bs', rq ++ rq', orc')
        | none => none
      | none => none
    | none => none
structure TraceF (fr : List Nat) (P : Program) (nt : Nat) (ops : Array Oper) (bs : List Bool) (rq : List Req) (k n : Nat) (E : Nat → List (Nat × D)) (HH : Nat → List Ob) (V : Nat → D) : Prop where
  step : ∀ i, k ≤ i → i < n → ∃ o orc b r orc', ops[i]? = some o ∧ stepDf fr P ops i (HH i) (E i) orc o = some (V i, HH (i + 1), b, r, orc') ∧ (∀ x ∈ b, x ∈ bs) ∧ (∀ x ∈ r, x ∈ rq)
  put : ∀ i, k ≤ i → i < n → ∃ o, ops[i]? = some o ∧ putE nt o.dst (V i) (E i) = some (E (i + 1))
theorem traceF_of {fr : List Nat} {P : Program} {nt : Nat} {ops : Array Oper} : ∀ (l : List Oper) (k : Nat) (env env' : List (Nat × D)) (H H' : List Ob) (orc orc' : List Res) (bs : List Bool) (rq : List Req), (∀ (j : Nat), l[j]? = ops[k + j]? ∨ l.length ≤ j) →
    runDf fr P nt ops k l env H orc = some (env', H', bs, rq, orc') → ∃ E HH V, E k = env ∧ HH k = H ∧ E (k + l.length) = env' ∧ HH (k + l.length) = H' ∧ TraceF fr P nt ops bs rq k (k + l.length) E HH V
  | [], k, env, env', H, H', orc, orc', bs, rq, _, h => by
    simp only [runDf, Option.some.injEq, Prod.mk.injEq] at h
    obtain ⟨rfl, rfl, rfl, rfl, rfl⟩ := h
    exact ⟨fun _ => env, fun _ => H, fun _ => .any, rfl, rfl, rfl, rfl, ⟨fun i h1 h2 => by simp at h2; omega, fun i h1 h2 => by simp at h2; omega⟩⟩
  | o :: l, k, env, env', H, H', orc, orc', bs, rq, hl, h => by
    simp only [runDf] at h
    split at h <;> try cases h
    rename_i d H1 b1 r1 orc1 hs
    split at h <;> try cases h
    rename_i e he
    split at h <;> try cases h
    rename_i b2 r2 hr
    have ho : ops[k]? = some o := by
      rcases hl 0 with h1 | h1
      · simpa using h1.symm
      · simp at h1
    obtain ⟨E, HH, V, hE, hH, hE', hH', hT⟩ := traceF_of l (k + 1) e env' H1 H' orc1 orc' b2 r2 (fun j => by
      rcases hl (j + 1) with h1 | h1
      · left; simpa [Nat.add_assoc, Nat.add_comm 1 j] using h1
      · right; simp at h1; exact h1) hr
    refine ⟨fun i => if i = k then env else E i, fun i => if i = k then H else HH i, fun i => if i = k then d else V i, by simp, by simp, ?_, ?_, ⟨fun i h1 h2 => ?_, fun i h1 h2 => ?_⟩⟩
    · simp only [List.length_cons]
      rw [if_neg (by omega), show k + (l.length + 1) = k + 1 + l.length by omega]
      exact hE'
    · simp only [List.length_cons]
      rw [if_neg (by omega), show k + (l.length + 1) = k + 1 + l.length by omega]
      exact hH'
    · by_cases hik : i = k
      · subst hik
        simp only [if_true]
        rw [if_neg (by omega), hH]
        exact ⟨o, orc, b1, r1, orc1, ho, hs, fun x hx => List.mem_append_left _ hx, fun x hx => List.mem_append_left _ hx⟩
      · simp only [if_neg hik]
        rw [if_neg (by omega)]
        obtain ⟨o', orc', b, r, orc'', h3, h4, h5, h6⟩ := hT.step i (by omega) (by simp at h2; omega)
        exact ⟨o', orc', b, r, orc'', h3, h4, fun x hx => List.mem_append_right _ (h5 x hx), fun x hx => List.mem_append_right _ (h6 x hx)⟩
    · by_cases hik : i = k
      · subst hik
        simp only [if_true]
        rw [if_neg (by omega)]
        exact ⟨o, ho, by rw [hE]; exact he⟩
      · simp only [if_neg hik]
        rw [if_neg (by omega)]
        exact hT.put i (by omega) (by simp at h2; omega)
theorem env_valF {fr : List Nat} {P : Program} {nt : Nat} {ops : Array Oper} {bs : List Bool} {rq : List Req} {n : Nat} {E : Nat → List (Nat × D)} {HH : Nat → List Ob} {V : Nat → D} (hnd : dstsB ops = true) (hT : TraceF fr P nt ops bs rq 0 n E HH V) :
    ∀ k, k ≤ n → ∀ t, find (E k) t = valL ops V (E 0) (· < k) t
  | 0, _, t => by rw [valL_none]; intro i _ h; omega
  | k + 1, hk, t => by
    have ih := env_valF hnd hT k (by omega) t
    obtain ⟨o, ho, hp⟩ := hT.put k (by omega) (by omega)
    unfold putE at hp
    split at hp
    · rename_i hd
      simp only [Option.some.injEq] at hp
      rw [← hp, ih]
      refine valL_congr hnd fun i hi => ⟨fun h => by omega, fun h => ?_⟩
      rcases Nat.lt_or_ge i k with h1 | h1
      · exact h1
      · have : i = k := by omega
        subst this
        rw [ho] at hi
        simp [hd] at hi
    · rename_i u hd
      cases hlt : Nat.blt u nt with
      | false => simp [hlt] at hp
      | true =>
        simp only [hlt, cond_true, Option.some.injEq] at hp
        rw [← hp]
        simp only [find]
        have hdk : (ops[k]?).bind (·.dst) = some u := by rw [ho]; exact hd
        cases hut : Nat.beq u t with
        | true =>
          obtain rfl := Nat.eq_of_beq_eq_true hut
          simp only [cond_true]
          rw [valL_some hnd hdk (by omega)]
        | false =>
          simp only [cond_false]
          rw [ih]
          have hne : u ≠ t := Nat.ne_of_beq_eq_false hut
          refine valL_congr hnd fun i hi => ⟨fun h => by omega, fun h => ?_⟩
          rcases Nat.lt_or_ge i k with h1 | h1
          · exact h1
          · have : i = k := by omega
            subst this
            rw [hdk] at hi
            simp at hi
            exact absurd hi hne
def cmpF (fr : List Nat) (ops : Array Oper) : Bool :=
  let M := Region.before ops
  ops.toList.zipIdx.all fun p => !wrB p.1.op || ops.toList.zipIdx.all fun q => stillB q.1.op || frk fr q.2 q.1.op || Nat.beq p.2 q.2 || bif Nat.blt q.2 p.2 then (M.getD p.2 0).testBit q.2 else (M.getD q.2 0).testBit p.2
theorem cmpF_spec {fr : List Nat} {ops : Array Oper} (h : cmpF fr ops = true) {w i : Nat} {ow oi : Oper} (hw : ops[w]? = some ow) (hi : ops[i]? = some oi) (h1 : wrB ow.op = true) (h2 : (stillB oi.op || frk fr i oi.op) = false) (hne : w ≠ i) :
    (i < w ∧ ((Region.before ops).getD w 0).testBit i = true) ∨ (w < i ∧ ((Region.before ops).getD i 0).testBit w = true) := by
  have a1 := List.all_eq_true.1 h (ow, w) (by rw [List.mem_zipIdx_iff_getElem?]; simpa using hw)
  simp only [h1, Bool.not_true, Bool.false_or] at a1
  have a2 := List.all_eq_true.1 a1 (oi, i) (by rw [List.mem_zipIdx_iff_getElem?]; simpa using hi)
  have e : Nat.beq w i = false := by
    cases hb : Nat.beq w i with
    | false => rfl
    | true => exact absurd (Nat.eq_of_beq_eq_true hb) hne
  simp only [h2, e, Bool.false_or] at a2
  cases hlt : Nat.blt i w with
  | true => rw [hlt] at a2; exact .inl ⟨blt_true hlt, a2⟩
  | false =>
    rw [hlt] at a2
    refine .inr ⟨?_, a2⟩
    rcases Nat.lt_or_ge i w with h3 | h3
    · have : Nat.blt i w = true := Nat.ble_eq_true_of_le h3
      rw [this] at hlt; cases hlt
    · omega
theorem same_heapF {fr : List Nat} {P : Program} {nt : Nat} {ops : Array Oper} {bs : List Bool} {rq : List Req} {n : Nat} {E : Nat → List (Nat × D)} {HH : Nat → List Ob} {V : Nat → D} (hT : TraceF fr P nt ops bs rq 0 n E HH V) {p : Nat} :
    ∀ (m : Nat), p + m ≤ n → (∀ w o, p ≤ w → w < p + m → ops[w]? = some o → wrB o.op = false) → HH (p + m) = HH p
  | 0, _, _ => rfl
  | m + 1, hn, h => by
    have ih := same_heapF hT (p := p) m (by omega) fun w o h1 h2 => h w o h1 (by omega)
    obtain ⟨o, orc, b, r, orc', ho, hs, _⟩ := hT.step (p + m) (Nat.zero_le _) (by omega)
    have hw := h (p + m) o (by omega) (by omega) ho
    unfold stepDf at hs
    rw [hw] at hs
    simp only at hs
    split at hs
    · simp only [Option.some.injEq, Prod.mk.injEq] at hs
      exact hs.2.1.symm.trans ih
    · cases hs
theorem drawF_sound {fr : List Nat} {P : Program} {F : Fr} [GF P F] {nt : Nat} {ops : Array Oper} {bs : List Bool} {rq : List Req} {E : Nat → List (Nat × D)} {HH : Nat → List Ob} {V : Nat → D} (hfl : flowB ops = true) (hcm : cmpF fr ops = true)
    (hT : TraceF fr P nt ops bs rq 0 ops.size E HH V) (hb : ∀ b ∈ bs, b = true) (hq : ∀ q ∈ rq, q.ok P) {Q : Exit → Act → World → Prop} (orc : List Res)
    (hQ : ∀ a c, RInv F nt ops ops.size ⟨E ops.size, HH ops.size, orc⟩ a c → Q .normal a c.w) :
    ∀ (fuel : Nat) (listed : Array Bool) (a : Act) (c : Ctx), DWInv F nt ops HH V (E 0) listed a c → cnt listed + fuel = ops.size → wpAny P .any ops Q fuel listed a c.w := by
  simp only [flowB, Bool.and_eq_true, List.all_eq_true] at hfl
  obtain ⟨hnd, hfl⟩ := hfl
  have flow : ∀ i o, ops[i]? = some o → flowAt ops (Region.before ops) i o = true := fun i o ho => by
    have hlt := (Array.getElem?_eq_some_iff.1 ho).1
    refine hfl (o, i) ?_
    rw [List.mem_zipIdx_iff_getElem?]
    simpa using ho
  have fin : ∀ (listed : Array Bool) a c, DWInv F nt ops HH V (E 0) listed a c → (∀ i, i < ops.size → listed.getD i false = true) → Q .normal a c.w := fun listed a c hD hall => by
    have hval : ∀ t, find (E ops.size) t = valL ops V (E 0) (fun i => listed.getD i false = true) t := fun t => by
      rw [env_valF hnd hT ops.size (Nat.le_refl _) t]
      refine valL_congr hnd fun i hi => ⟨fun h => hall i h, fun _ => ?_⟩
      obtain ⟨o, ho, _⟩ := Option.bind_eq_some_iff.1 hi
      exact (Array.getElem?_eq_some_iff.1 ho).1
    have hHf : c.H = HH ops.size := by
      obtain ⟨q, hq1, hq2, hq3, hq4⟩ := hD.H
      rw [hq2]
      have := same_heapF hT (p := q) (ops.size - q) (by omega) fun w o h1 h2 ho => by
        cases hw : wrB o.op with
        | false => rfl
        | true =>
          have h3 := hq4 w o ho hw h1
          rw [hall w (by omega)] at h3; cases h3
      rw [show q + (ops.size - q) = ops.size by omega] at this
      exact this.symm
    refine hQ a c ⟨hHf, hD.inv, fun t => ?_, hD.size, hD.defers, fun t j w d hf => ?_⟩
    · show GV _ _ _ (find (E ops.size) t)
      rw [hval]; exact hD.env t
    · have hf : find (E ops.size) t = .opt j w d := hf
      rw [hval] at hf
      have := hD.opt t j w d hf
      rcases Nat.lt_or_ge j listed.size with h | h
      · rw [hD.lsize] at h; exact h
      · simp [Array.getElem?_eq_none h] at this
  -- nothing is ready: all are listed
  have stuckAll : ∀ (listed : Array Bool), listed.size = ops.size → Region.ready .any ops listed = [] → ∀ i, i < ops.size → listed.getD i false = true := by
    intro listed hls hr i
    induction i using Nat.strongRecOn with
    | _ i ih =>
      intro hi
      cases hl : listed.getD i false with
      | true => rfl
      | false =>
        exfalso
        have : i ∈ Region.ready .any ops listed := by
          rw [mem_ready]
          refine ⟨by simp [hls, hi] at hl ⊢; exact hl, ops[i], by simp [hi], fun e he hbi => ?_⟩
          have h1 := flow i ops[i] (by simp [hi])
          simp only [flowAt, Bool.and_eq_true] at h1
          have h2 := Array.all_eq_true'.1 h1.1.1 e he
          simp only [hbi, Bool.not_true, Bool.false_or] at h2
          have h3 := blt_true h2
          exact ih e.on h3 (by omega)
        rw [hr] at this
        cases this
  intro fuel
  induction fuel with
  | zero =>
    intro listed a c hD hcnt
    have hall : ∀ i, i < ops.size → listed.getD i false = true := by
      have := cnt_full (listed := listed) (by rw [hD.lsize]; omega)
      rw [hD.lsize] at this
      exact this
    refine ⟨?_, fin listed a c hD hall⟩
    cases hr : Region.ready .any ops listed with
    | nil => rfl
    | cons i r =>
      exfalso
      have : i ∈ Region.ready .any ops listed := by rw [hr]; exact List.mem_cons_self
      obtain ⟨h1, o, ho, _⟩ := mem_ready.1 this
      have hi := (Array.getElem?_eq_some_iff.1 ho).1
      have h2 := hall i hi
      simp [hD.lsize, hi] at h1 h2
      rw [h1] at h2
      cases h2
  | succ fuel ih =>
    intro listed a c hD hcnt
    refine ⟨fun hr => fin listed a c hD (stuckAll listed hD.lsize hr), fun i hi => ?_⟩
    obtain ⟨hun, o, ho, hall⟩ := mem_ready.1 hi
    have hilt := (Array.getElem?_eq_some_iff.1 ho).1
    have hunf : listed.getD i false = false := by simp [hD.lsize, hilt] at hun ⊢; exact hun
    have hwaits : ∀ j, Waits ops i j → listed.getD j false = true := fun j ⟨o', ho', e, he, hbi, hon⟩ => by
      rw [ho] at ho'
      cases ho'
      rw [← hon]
      exact hall e he hbi
    obtain ⟨o', orc0, b, r, orc1, ho', hstep, hb1, hr1⟩ := hT.step i (Nat.zero_le _) hilt
    rw [ho] at ho'
    cases ho'
    have reach : ∀ k l, k < ops.size → ((Region.before ops).getD k 0).testBit l = true → listed.getD k false = true → listed.getD l false = true := fun k l hk hb2 hl =>
      closed_reach hD.closed (before_reach ops k l hk hb2) (fun j hj => hD.closed _ _ hj hl)
    have reachI : ∀ l, ((Region.before ops).getD i 0).testBit l = true → listed.getD l false = true := fun l hb2 => closed_reach hD.closed (before_reach ops i l hilt hb2) hwaits
    -- the objects are those of the text's order, where they are looked at
    have hHi : (stillB o.op || frk fr i o.op) = false → c.H = HH i := fun hst => by
      obtain ⟨q, hq1, hq2, hq3, hq4⟩ := hD.H
      rw [hq2]
      rcases Nat.lt_or_ge i q with hiq | hiq
      · have := same_heapF hT (p := i) (q - i) (by omega) fun w ow h1 h2 how => by
          cases hw : wrB ow.op with
          | false => rfl
          | true =>
            have hwl := (Array.getElem?_eq_some_iff.1 how).1
            have h3 := hq3 w ow how hw (by omega)
            have hne : w ≠ i := fun e => by subst e; rw [hunf] at h3; cases h3
            rcases cmpF_spec hcm how ho hw hst hne with ⟨_, h5⟩ | ⟨h4, _⟩
            · rw [reach w i hwl h5 h3] at hunf; cases hunf
            · omega
        rw [show i + (q - i) = q by omega] at this
        exact this
      · have := same_heapF hT (p := q) (i - q) (by omega) fun w ow h1 h2 how => by
          cases hw : wrB ow.op with
          | false => rfl
          | true =>
            have h3 := hq4 w ow how hw h1
            have hne : w ≠ i := by omega
            rcases cmpF_spec hcm how ho hw hst hne with ⟨h4, _⟩ | ⟨_, h5⟩
            · omega
            · rw [reachI w h5] at h3; cases h3
        rw [show q + (i - q) = i by omega] at this
        exact this.symm
    have hfa := flow i o ho
    simp only [flowAt, Bool.and_eq_true] at hfa
    obtain ⟨⟨hf1, hf2⟩, hf3⟩ := hfa
    -- what the operation looks at has its value of the text's order
    have same : ∀ t ∈ needs ops o, valL ops V (E 0) (fun i => listed.getD i false = true) t = find (E i) t := fun t ht => by
      rw [env_valF hnd hT i (by omega) t]
      refine valL_congr hnd fun k hk => ?_
      have h1 := List.all_eq_true.1 hf3 t ht
      obtain ⟨ok, hok, hdk⟩ := Option.bind_eq_some_iff.1 hk
      have hklt := (Array.getElem?_eq_some_iff.1 hok).1
      have h2 := List.all_eq_true.1 h1 (ok, k) (by rw [List.mem_zipIdx_iff_getElem?]; simpa using hok)
      simp only [hdk] at h2
      have e1 : Nat.beq t t = true := Nat.beq_refl t
      rw [e1] at h2
      simp only [Bool.not_true, Bool.false_or, Bool.or_eq_true, Bool.and_eq_true] at h2
      rcases h2 with (h2 | ⟨h2, h3⟩) | ⟨h2, h3⟩
      · obtain rfl := Nat.eq_of_beq_eq_true h2
        exact ⟨fun h => (by rw [hunf] at h; cases h), fun h => by omega⟩
      · exact ⟨fun _ => blt_true h2, fun _ => closed_reach hD.closed (before_reach ops i k hilt h3) hwaits⟩
      · have hik := blt_true h2
        refine ⟨fun h => ?_, fun h => by omega⟩
        have := closed_reach hD.closed (before_reach ops k i hklt h3) (fun j hj => hD.closed _ _ hj h)
        rw [hunf] at this
        cases this
    have hops : ∀ x ∈ o.op.operands.toList, GV (yielded ops a.tmps) c (a.eval x) (evD (E i) x) := fun x hx => by
      cases x with
      | tmp t =>
        show GV _ _ _ (find (E i) t)
        rw [← same t (by simp only [needs, List.mem_append, List.mem_filterMap]; exact .inl ⟨.tmp t, hx, rfl⟩)]
        exact hD.env t
      | const v => exact gv_of_tv (tv_dv c v)
      | global g => exact gv_of_tv tv_any
      | func f => exact gv_of_tv ⟨#[], rfl, rfl, fun i v d h1 _ => by simp at h1⟩
    have hgf : GuardFacts ops a c (E i) (gch ops 20 o.guard) := fun p hp t ht => by
      rw [← same t (by simp only [needs, List.mem_append, List.mem_filterMap]; exact .inr ⟨p, hp, ht⟩)]
      exact hD.env t
    -- the new state
    have newH : wrB o.op = false → ∀ c' : Ctx, c'.H = c.H → ∃ q, q ≤ ops.size ∧ c'.H = HH q ∧ (∀ w ow, ops[w]? = some ow → wrB ow.op = true → w < q → (listed.setIfInBounds i true).getD w false = true) ∧ (∀ w ow, ops[w]? = some ow → wrB ow.op = true → q ≤ w → (listed.setIfInBounds i true).getD w false = false) := fun hwo c' hc' => by
      obtain ⟨q, hq1, hq2, hq3, hq4⟩ := hD.H
      have hne : ∀ w ow, ops[w]? = some ow → wrB ow.op = true → i ≠ w := fun w ow how hw e => by subst e; rw [ho] at how; cases how; rw [hwo] at hw; cases hw
      exact ⟨q, hq1, hc'.trans hq2, fun w ow how hw hwq => by rw [getD_set_ne false (hne w ow how hw)]; exact hq3 w ow how hw hwq, fun w ow how hw hwq => by rw [getD_set_ne false (hne w ow how hw)]; exact hq4 w ow how hw hwq⟩
    have new : ∀ v c', Inv F c' → (∃ q, q ≤ ops.size ∧ c'.H = HH q ∧ (∀ w ow, ops[w]? = some ow → wrB ow.op = true → w < q → (listed.setIfInBounds i true).getD w false = true) ∧ (∀ w ow, ops[w]? = some ow → wrB ow.op = true → q ≤ w → (listed.setIfInBounds i true).getD w false = false)) →
        (∀ u e, TV c u e → TV c' u e) → (∀ d, V i = d → GV (yielded ops (a.put o.dst v).tmps) c' v d) → (∀ j w d, V i = .opt j w d → listed.getD j false = true) →
        wpAny P .any ops Q fuel (listed.setIfInBounds i true) (a.put o.dst v) c'.w := fun v c' hI' hHn htr hv hvo => by
      have hL : ∀ j, (listed.setIfInBounds i true).getD j false = true ↔ j = i ∨ listed.getD j false = true := fun j => by
        by_cases hji : j = i
        · subst hji; simp [hD.lsize, hilt]
        · rw [getD_set_ne false (Ne.symm hji)]; simp [hji]
      have hvalo : ∀ t, (∀ u, o.dst = some u → u ≠ t) → valL ops V (E 0) (fun j => (listed.setIfInBounds i true).getD j false = true) t = valL ops V (E 0) (fun j => listed.getD j false = true) t := fun t ht => by
        refine valL_congr hnd fun k hk => ?_
        show (listed.setIfInBounds i true).getD k false = true ↔ _
        rw [hL]
        refine ⟨fun h => ?_, .inr⟩
        rcases h with rfl | h
        · rw [ho] at hk
          exact absurd rfl (ht t hk)
        · exact h
      have hyj : ∀ j, listed.getD j false = true → yielded ops (a.put o.dst v).tmps j = yielded ops a.tmps j := fun j hj => yielded_put fun t ht e => by
        have := dsts_spec hnd (show (ops[i]?).bind (·.dst) = some t by rw [ho]; exact ht) e
        subst this
        rw [hunf] at hj
        cases hj
      have keep : ∀ t, GV (yielded ops (a.put o.dst v).tmps) c' (a.tmps.getD t undef) (valL ops V (E 0) (fun j => listed.getD j false = true) t) := fun t => by
        have h1 := gv_trans htr (hD.env t)
        cases hf : valL ops V (E 0) (fun j => listed.getD j false = true) t <;> rw [hf] at h1 <;> try exact h1
        rename_i j w d
        simp only [GV] at h1 ⊢
        rw [hyj j (hD.opt t j w d hf)]
        exact h1
      refine ih _ _ c' ⟨hHn, hI', fun t => ?_, by rw [size_put]; exact hD.size, by rw [defers_put]; exact hD.defers, fun t j w d hf => ?_, by simp [hD.lsize], fun p q hpq hp => ?_⟩ ?_
      · by_cases hdt : o.dst = some t
        · have hit : (ops[i]?).bind (·.dst) = some t := by rw [ho]; exact hdt
          rw [valL_some hnd hit ((hL i).2 (.inl rfl))]
          have htl : t < a.tmps.size := by
            obtain ⟨o2, ho2, hp⟩ := hT.put i (Nat.zero_le _) hilt
            rw [ho] at ho2
            cases ho2
            rw [hdt] at hp
            simp only [putE] at hp
            cases hlt : Nat.blt t nt with
            | false => simp [hlt] at hp
            | true => rw [hD.size]; exact blt_true hlt
          have e : (a.put o.dst v).tmps.getD t undef = v := by rw [hdt]; exact getD_put_same htl
          rw [e]
          exact hv _ rfl
        · rw [hvalo t (fun u hu e => hdt (by rw [hu, e])), getD_put hdt]
          exact keep t
      · rw [hL]
        right
        by_cases hdt : o.dst = some t
        · have hit : (ops[i]?).bind (·.dst) = some t := by rw [ho]; exact hdt
          rw [valL_some hnd hit ((hL i).2 (.inl rfl))] at hf
          exact hvo j w d hf
        · rw [hvalo t (fun u hu e => hdt (by rw [hu, e]))] at hf
          exact hD.opt t j w d hf
      · rw [hL] at hp ⊢
        right
        rcases hp with rfl | hp
        · exact hwaits q hpq
        · exact hD.closed p q hpq hp
      · rw [cnt_set (by rw [hD.lsize]; exact hilt) hunf]
        omega
    unfold wpOp
    simp only [ho]
    unfold stepDf at hstep
    cases hwr : wrB o.op with
    | true =>
      rw [hwr] at hstep
      simp only at hstep
      split at hstep <;> try cases hstep
      rename_i hgd hheap
      have hw : Region.wanted o (yielded ops a.tmps) = true := by simp [Region.wanted, hgd]
      simp only [hw, if_true]
      have hst : (stillB o.op || frk fr i o.op) = false := by rw [still_not_wr hwr, wr_not_frk hwr]; rfl
      have hρ : ∀ x ∈ o.op.operands.toList, TV c (a.eval x) (unwrap [] (evD (E i) x)) := fun x hx => unwrap_ok (a := a) (ops := ops) (by simp) (hops x hx)
      obtain ⟨v, c', hrun', hI', hH', htr, htv⟩ := heapF_ok (ρc := a.eval) hD.inv hρ (by rw [hHi hst]; exact hheap) (fun b hb' => hb b (hb1 b hb'))
      have hnew := new v c' hI' ⟨i + 1, by omega, hH', fun w ow how hw hwq => by
          rcases Nat.lt_or_ge w i with h1 | h1
          · rw [getD_set_ne false (by omega)]
            rcases cmpF_spec hcm how ho hw hst (by omega) with ⟨h4, _⟩ | ⟨_, h5⟩
            · omega
            · exact reachI w h5
          · have : w = i := by omega
            subst this
            simp [hD.lsize, hilt], fun w ow how hw hwq => by
          rw [getD_set_ne false (by omega)]
          cases hl : listed.getD w false with
          | false => rfl
          | true =>
            have hwl := (Array.getElem?_eq_some_iff.1 how).1
            rcases cmpF_spec hcm how ho hw hst (by omega) with ⟨_, h5⟩ | ⟨h4, _⟩
            · rw [reach w i hwl h5 hl] at hunf; cases hunf
            · omega⟩ (fun u e h => htr u e h) (fun d' hd' => by rw [← hd']; exact gv_of_tv htv) (fun j w d' h => by
          rw [h] at htv
          simp only [TV, AV] at htv
          exact absurd htv cv_not_opt)
      refine .inl ?_
      unfold Oper.wp
      rcases hrun' with h1 | ⟨h1, rfl⟩
      · rw [h1]; exact hnew
      · rw [h1]; exact hnew
    | false =>
    rw [hwr] at hstep
    simp only at hstep
    split at hstep
    case h_2 => cases hstep
    rename_i d0 b0 r0 o0 hstep0
    simp only [Option.some.injEq, Prod.mk.injEq] at hstep
    obtain ⟨hV0, _, rfl, rfl, rfl⟩ := hstep
    rw [hV0] at hstep0
    rename_i hstep
    have hstep := hstep0
    unfold stepDr at hstep
    split at hstep <;> try cases hstep
    rename_i g hg
    have hopc : ∀ {x}, opD P (bif frk fr i o.op then [] else HH i) ops (E i) (gch ops 20 o.guard) orc0 g o = some x → opD P c.H ops (E i) (gch ops 20 o.guard) orc0 g o = some x := fun {x} h => by
      cases hfr : frk fr i o.op with
      | true => rw [hfr] at h; exact opD_nil hfr h
      | false =>
        rw [hfr] at h
        cases hst : stillB o.op with
        | true => rw [opD_still (HH i) hst]; exact h
        | false => rw [hHi (by rw [hst, hfr]; rfl)]; exact h
    split at hstep
    · rename_i d bs0 rq0 orc2 j want hop hgd
      cases hlt : Nat.blt j i with
      | false => simp [hlt] at hstep
      | true =>
        simp only [hlt, cond_true, Option.some.injEq, Prod.mk.injEq] at hstep
        obtain ⟨hV, rfl, rfl, rfl⟩ := hstep
        have hji := blt_true hlt
        have hyj : ∀ v, yielded ops (a.put o.dst v).tmps j = yielded ops a.tmps j := fun v => yielded_put fun t ht e => by
          have := dsts_spec hnd (show (ops[i]?).bind (·.dst) = some t by rw [ho]; exact ht) e
          omega
        have hjl : listed.getD j false = true := by
          rw [hgd] at hf2
          simp only at hf2
          obtain ⟨e, he, h1⟩ := Array.any_eq_true'.1 hf2
          simp only [Bool.and_eq_true] at h1
          rw [← Nat.eq_of_beq_eq_true h1.2]
          exact hall e he h1.1
        have hwant : Region.wanted o (yielded ops a.tmps) = (yielded ops a.tmps j == some want) := by simp [Region.wanted, hgd]
        have hvo : ∀ j' w d', V i = .opt j' w d' → listed.getD j' false = true := fun j' w d' h => by rw [← hV] at h; cases h; exact hjl
        cases hw : Region.wanted o (yielded ops a.tmps) with
        | true =>
          simp only [if_true]
          refine .inl (op_sound hD.inv hops hgf hg hw (hopc hop) (fun b hb' => hb b (hb1 b hb')) (fun q hq' => hq q (hr1 q hq')) fun v c' hI' haf => ?_)
          obtain ⟨hgo, _, htv⟩ := haf
          refine new v c' hI' (newH hwr c' hgo.H) (fun _ _ => hgo.tv) (fun d' hd' => ?_) hvo
          rw [← hd', ← hV]
          refine .inl ⟨?_, htv⟩
          rw [hyj]
          rw [hw] at hwant
          simpa using hwant.symm
        | false =>
          simp only [Bool.false_eq_true, if_false]
          refine new undef c hD.inv (newH hwr c rfl) (fun _ _ h => h) (fun d' hd' => ?_) hvo
          rw [← hd', ← hV]
          refine .inr ⟨?_, rfl⟩
          rw [hyj]
          rw [hw] at hwant
          simpa using hwant.symm
    · rename_i d bs0 rq0 orc2 hop hgd
      simp only [Option.some.injEq, Prod.mk.injEq] at hstep
      obtain ⟨hV, rfl, rfl, rfl⟩ := hstep
      have hw : Region.wanted o (yielded ops a.tmps) = true := by simp [Region.wanted, hgd]
      simp only [hw, if_true]
      refine .inl (op_sound hD.inv hops hgf hg hw (hopc hop) (fun b hb' => hb b (hb1 b hb')) (fun q hq' => hq q (hr1 q hq')) fun v c' hI' haf => ?_)
      obtain ⟨hgo, _, htv⟩ := haf
      refine new v c' hI' (newH hwr c' hgo.H) (fun _ _ => hgo.tv) (fun d' hd' => ?_) (fun j w d' h => ?_)
      · rw [← hd', ← hV]; exact gv_of_tv htv
      · rw [← hV] at h
        subst h
        simp only [TV, AV] at htv
        exact absurd htv cv_not_opt
    · cases hstep
def regQ (fr : List Nat) (P : Program) (ops : Array Oper) (orc : List Res) (keep : List Nat) (hn : Nat) (s : St) : Option (St × List Bool × List Req) :=
  bif flowB ops && P.follows .mixedOrders && cmpF fr ops then
    (match runDf fr P s.nt ops 0 ops.toList s.env s.H orc with
    | some (env', H', bs, rq, _) => (cutS hn ⟨s.nt, fin env' keep, H'⟩).map fun s' => (s', bs, rq)
    | none => none) else none
theorem awp_regionQ {fr : List Nat} {P : Program} {Q : Exit → St → Prop} {s : St} {id : Nat} {ops : Array Oper} (orc : List Res) (keep : List Nat) (hn : Nat) {s' : St} {bs : List Bool} {rq : List Req}
    (h : regQ fr P ops orc keep hn s = some (s', bs, rq)) (hb : ∀ b ∈ bs, b = true) (hq : ∀ q ∈ rq, q.ok P) (k : Q .normal s') : AWP P (.region id ops true) Q s := by
  rintro F a w hG ⟨c, rfl, hH, hI, henv, hsz, hd⟩
  unfold regQ at h
  cases hc : (flowB ops && P.follows .mixedOrders && cmpF fr ops) with
  | false => rw [hc] at h; cases h
  | true =>
    rw [hc] at h
    simp only [cond_true] at h
    simp only [Bool.and_eq_true] at hc
    split at h <;> try cases h
    rename_i env' H' bs0 rq0 orc0 hrun
    obtain ⟨s1, hcut, heq⟩ := Option.map_eq_some_iff.1 h
    simp only [Prod.mk.injEq] at heq
    obtain ⟨rfl, rfl, rfl⟩ := heq
    refine wp_region_any hc.1.2 ?_
    obtain ⟨E, HH, V, hE0, hH0, hE1, hH1, hT⟩ := traceF_of ops.toList 0 s.env env' s.H H' orc orc0 bs0 rq0 (fun j => .inl (by simp)) hrun
    simp only [Array.length_toList, Nat.zero_add] at hE1 hH1 hT
    let c' : Ctx := { c with w := c.w.drew }
    have hgo : Goes c c' := ⟨rfl, rfl, fun _ h => h, fun _ _ => rfl, fun b hb => (hI.imm b hb).1, fun id b hb => (hI.loc id b hb).2.1⟩
    have hI' : Inv F c' := hI.goes hgo (Bw.refl _ _).drew (fun _ h => .inl h)
    have hnone : ∀ i, ¬ (Array.replicate ops.size false).getD i false = true := fun i h => by rw [getD_rep_false] at h; cases h
    have hval : ∀ t, valL ops V (E 0) (fun i => (Array.replicate ops.size false).getD i false = true) t = find s.env t := fun t => by rw [valL_none (fun i _ => hnone i), hE0]
    have hD : DWInv F s.nt ops HH V (E 0) (Array.replicate ops.size false) a c' := by
      refine ⟨⟨0, Nat.zero_le _, hH.trans hH0.symm, fun w o _ _ h => by omega, fun w o _ _ _ => by rw [getD_rep_false]⟩, hI', fun t => ?_, hsz, hd, fun t j w d hf => ?_, by simp, fun i j _ h => absurd h (hnone i)⟩
      · rw [hval]; exact gv_of_tv (hgo.tv (henv t))
      · rw [hval] at hf
        have := henv t
        rw [hf] at this
        simp only [TV, AV] at this
        exact absurd this cv_not_opt
    refine drawF_sound hc.1.1 hc.2 hT hb hq [] (fun a' c'' hR => ⟨s1, k, ?_⟩) ops.size _ a c' hD (by simp [cnt, List.countP_replicate])
    have hR' := rinv_fin hR keep
    have e1 : E ops.size = env' := hE1
    have e2 : HH ops.size = H' := hH1
    simp only [e1, e2] at hR'
    exact le_cut hcut F a' c''.w hR'
theorem rgq {P : Program} {Q : Exit → St → Prop} {s : St} {id : Nat} {ops : Array Oper} (fr : List Nat) (orc : List Res) (keep : List Nat) (hn : Nat) (s' : St) (bs : List Bool) (rq : List Req)
    (hb : ∀ b ∈ bs, b = true) (hq : Reqs P rq) (k : Q .normal s') (h : regQ fr P ops orc keep hn s = some (s', bs, rq) := by kernel_rfl) : AWP P (.region id ops true) Q s := awp_regionQ orc keep hn h hb hq.all k
end Nv
namespace Nv
open Go Go.RowKit
theorem seq_soundR {P : Program} {F : Fr} [GF P F] {nt : Nat} {ops : Array Oper} (hnd : dstsB ops = true) {Q : Exit → Act → World → Prop} {rest : List Nat} : ∀ (l : List Oper) (k : Nat) (s s' : RS) (bs : List Bool) (rq : List Req), (∀ (j : Nat), l[j]? = ops[k + j]? ∨ l.length ≤ j) →
    runS P nt ops k l s = some (s', bs, rq) → (∀ b ∈ bs, b = true) → (∀ q ∈ rq, q.ok P) → ∀ (a : Act) (c : Ctx), RInv F nt ops k s a c →
    (∀ a' c', RInv F nt ops (k + l.length) s' a' c' → wpOps P ops Q rest a' c'.w) → wpOps P ops Q (List.range' k l.length ++ rest) a c.w
  | [], k, s, s', bs, rq, _, h, _, _, a, c, hR, hQ => by
    simp only [runS, Option.some.injEq, Prod.mk.injEq] at h
    obtain ⟨rfl, rfl, rfl⟩ := h
    exact hQ a c hR
  | o :: l, k, s, s', bs, rq, hl, h, hb, hq, a, c, hR, hQ => by
    have ho : ops[k]? = some o := by
      rcases hl 0 with h1 | h1
      · simpa using h1.symm
      · simp at h1
    simp only [runS] at h
    split at h <;> try cases h
    rename_i s1 b1 r1 hstep
    split at h <;> try cases h
    rename_i s2 b2 r2 hrun
    simp only [List.length_cons, List.range'_succ, List.cons_append, wpOps, ho]
    have next : ∀ a' c', RInv F nt ops (k + 1) s1 a' c' → wpOps P ops Q (List.range' (k + 1) l.length ++ rest) a' c'.w := fun a' c' hR' =>
      seq_soundR hnd l (k + 1) s1 s' b2 r2 (fun j => by
        rcases hl (j + 1) with h1 | h1
        · left; simpa [Nat.add_assoc, Nat.add_comm 1 j] using h1
        · right; simp at h1; exact h1) hrun (fun b hb' => hb b (List.mem_append_right _ hb')) (fun q hq' => hq q (List.mem_append_right _ hq')) a' c' hR'
        (fun a'' c'' h'' => hQ a'' c'' (by rw [List.length_cons, show k + (l.length + 1) = k + 1 + l.length by omega]; exact h''))
    have hb1 : ∀ b ∈ b1, b = true := fun b hb' => hb b (List.mem_append_left _ hb')
    have hq1 : ∀ q ∈ r1, q.ok P := fun q hq' => hq q (List.mem_append_left _ hq')
    have hidx0 : ∀ t j w d, find s.env t = .opt j w d → j < k := hR.idx
    unfold stepS at hstep
    split at hstep <;> try cases hstep
    rename_i g hg
    have hgf : GuardFacts ops a c s.env (gch ops 20 o.guard) := fun p _ t _ => hR.env t
    split at hstep
    · rename_i d bs0 rq0 orc0 j want hop hgd
      cases hlt : Nat.blt j k with
      | false => simp [hlt] at hstep
      | true =>
        simp only [hlt, cond_true] at hstep
        obtain ⟨e, he, heq⟩ := Option.map_eq_some_iff.1 hstep
        simp only [Prod.mk.injEq] at heq
        obtain ⟨rfl, rfl, rfl⟩ := heq
        have hjk := blt_true hlt
        have hyj : ∀ v, yielded ops (a.put o.dst v).tmps j = yielded ops a.tmps j := fun v => yielded_put fun t ht e => by
          have := dsts_spec hnd (show (ops[k]?).bind (·.dst) = some t by rw [ho]; exact ht) e
          omega
        have hwant : Region.wanted o (yielded ops a.tmps) = (yielded ops a.tmps j == some want) := by simp [Region.wanted, hgd]
        cases hw : Region.wanted o (yielded ops a.tmps) with
        | true =>
          simp only [if_true]
          refine .inl (op_sound hR.inv (fun x _ => eval_gv hR x) hgf hg hw (by rw [hR.H]; exact hop) hb1 hq1 fun v c' hI' haf => ?_)
          obtain ⟨hgo, _, htv⟩ := haf
          refine next _ c' (rinv_put hnd hR ho hI' (fun t v hv => hgo.gv hv) hidx0 he (by rw [hgo.H]; exact hR.H) (.inl ⟨?_, htv⟩) (fun j' w' d' e => by cases e; exact hjk))
          rw [hyj]
          rw [hw] at hwant
          simpa using hwant.symm
        | false =>
          simp only [Bool.false_eq_true, if_false]
          refine next _ c (rinv_put hnd hR ho hR.inv (fun t v hv => hv) hidx0 he hR.H (.inr ⟨?_, rfl⟩) (fun j' w' d' e => by cases e; exact hjk))
          rw [hyj]
          rw [hw] at hwant
          simpa using hwant.symm
    · rename_i d bs0 rq0 orc0 hop hgd
      obtain ⟨e, he, heq⟩ := Option.map_eq_some_iff.1 hstep
      simp only [Prod.mk.injEq] at heq
      obtain ⟨rfl, rfl, rfl⟩ := heq
      have hw : Region.wanted o (yielded ops a.tmps) = true := by simp [Region.wanted, hgd]
      simp only [hw, if_true]
      refine .inl (op_sound hR.inv (fun x _ => eval_gv hR x) hgf hg hw (by rw [hR.H]; exact hop) hb1 hq1 fun v c' hI' haf => ?_)
      obtain ⟨hgo, _, htv⟩ := haf
      refine next _ c' (rinv_put hnd hR ho hI' (fun t v hv => hgo.gv hv) hidx0 he (by rw [hgo.H]; exact hR.H) (gv_of_tv htv) (fun j' w' d' e => ?_))
      subst e
      simp only [TV, AV] at htv
      exact absurd htv cv_not_opt
    · rename_i wd n f bs0 rq0 orc0 hop hgd
      obtain ⟨e, he, heq⟩ := Option.map_eq_some_iff.1 hstep
      simp only [Prod.mk.injEq] at heq
      obtain ⟨rfl, rfl, rfl⟩ := heq
      have hw : Region.wanted o (yielded ops a.tmps) = true := by simp [Region.wanted, hgd]
      simp only [hw, if_true]
      refine .inl (op_sound hR.inv (fun x _ => eval_gv hR x) hgf hg hw (by rw [hR.H]; exact hop) hb1 hq1 fun v c' hI' haf => ?_)
      obtain ⟨hH', htr, htv⟩ := haf
      refine next _ c' (rinv_put hnd hR ho hI' (fun t v hv => gv_trans htr hv) hidx0 he (by rw [hH', hR.H]) (gv_of_tv (by rw [← hR.H]; exact htv)) (fun j' w' d' e => by cases e))
    · rename_i hop hgd
      split at hstep
      · rename_i d bs0 hap
        obtain ⟨e, he, heq⟩ := Option.map_eq_some_iff.1 hstep
        simp only [Prod.mk.injEq] at heq
        obtain ⟨rfl, rfl, rfl⟩ := heq
        have hw : Region.wanted o (yielded ops a.tmps) = true := by simp [Region.wanted, hgd]
        simp only [hw, if_true]
        have hρ : ∀ x ∈ o.op.operands.toList, TV c (a.eval x) (unwrap [] (evD s.env x)) := fun x _ => unwrap_ok (a := a) (ops := ops) (by simp) (eval_gv hR x)
        obtain ⟨v, c', hrun', hI', hgo, _, htv⟩ := appPD_ok (ρc := a.eval) hR.inv hρ (by rw [hR.H]; exact hap) hb1
        refine .inl ?_
        unfold Oper.wp
        rw [hrun']
        refine next _ c' (rinv_put hnd hR ho hI' (fun t v hv => hgo.gv hv) hidx0 he (by rw [hgo.H]; exact hR.H) (gv_of_tv htv) (fun j' w' d' e => ?_))
        subst e
        simp only [TV, AV] at htv
        exact absurd htv cv_not_opt
      split at hstep
      · rename_i H' hcl
        obtain ⟨e, he, heq⟩ := Option.map_eq_some_iff.1 hstep
        simp only [Prod.mk.injEq] at heq
        obtain ⟨rfl, rfl, rfl⟩ := heq
        have hw : Region.wanted o (yielded ops a.tmps) = true := by simp [Region.wanted, hgd]
        simp only [hw, if_true]
        have hρ : ∀ x ∈ o.op.operands.toList, TV c (a.eval x) (unwrap [] (evD s.env x)) := fun x _ => unwrap_ok (a := a) (ops := ops) (by simp) (eval_gv hR x)
        obtain ⟨v, c', hrun', hI', hH', htr, htv⟩ := clrD_ok (ρc := a.eval) hR.inv hρ (by rw [hR.H]; exact hcl)
        have hfin0 := next (a.put o.dst v) c' (rinv_put hnd hR ho hI' (fun t v hv => gv_trans htr hv) hidx0 he hH' (gv_of_tv htv) (fun j' w' d' e => by cases e))
        refine .inl ?_
        unfold Oper.wp
        rcases hrun' with h1 | ⟨h1, rfl⟩
        · rw [h1]; exact hfin0
        · rw [h1]; exact hfin0
      split at hstep
      case h_2 =>
        split at hstep <;> try cases hstep
        rename_i d H' rq0 orc0 hlend
        obtain ⟨e, he, heq⟩ := Option.map_eq_some_iff.1 hstep
        simp only [Prod.mk.injEq] at heq
        obtain ⟨rfl, rfl, rfl⟩ := heq
        have hw : Region.wanted o (yielded ops a.tmps) = true := by simp [Region.wanted, hgd]
        simp only [hw, if_true]
        have hρ : ∀ x ∈ o.op.operands.toList, TV c (a.eval x) (unwrap [] (evD s.env x)) := fun x _ => unwrap_ok (a := a) (ops := ops) (by simp) (eval_gv hR x)
        refine .inl (lend_ok hR.inv hρ (by rw [hR.H]; exact hlend) hq1 fun v c' hI' hH' htr htv => ?_)
        refine next _ c' (rinv_put hnd hR ho hI' (fun t v hv => gv_trans htr hv) hidx0 he hH' (gv_of_tv htv) (fun j' w' d' e => ?_))
        subst e
        simp only [TV, AV] at htv
        exact absurd htv cv_not_opt
      rename_i d H' pid bs0 hheap
      obtain ⟨e, he, heq⟩ := Option.map_eq_some_iff.1 hstep
      simp only [Prod.mk.injEq] at heq
      obtain ⟨rfl, rfl, rfl⟩ := heq
      have hw : Region.wanted o (yielded ops a.tmps) = true := by simp [Region.wanted, hgd]
      simp only [hw, if_true]
      have hρ : ∀ x ∈ o.op.operands.toList, TV c (a.eval x) (unwrap [] (evD s.env x)) := fun x _ => unwrap_ok (a := a) (ops := ops) (by simp) (eval_gv hR x)
      obtain ⟨v, c', hrun', hI', hH', htr, htv⟩ := heapF_ok (ρc := a.eval) hR.inv hρ (by rw [hR.H]; exact hheap) hb1
      have hfin : wpOps P ops Q (List.range' (k + 1) l.length ++ rest) (a.put o.dst v) c'.w := by
        refine next _ c' (rinv_put hnd hR ho hI' (fun t v hv => ?_) (fun t j w d hf => ?_) he hH' (gv_of_tv htv) (fun j' w' d' e => ?_))
        · rw [find_map]
          exact gv_purge htr hv
        · rw [find_map] at hf
          exact hidx0 t j w d (purge_not_opt hf).2
        · subst e
          simp only [TV, AV] at htv
          exact absurd htv cv_not_opt
      refine .inl ?_
      unfold Oper.wp
      rcases hrun' with h1 | ⟨h1, rfl⟩
      · rw [h1]; exact hfin
      · rw [h1]; exact hfin
    · cases hstep
def regTo (P : Program) (ops : Array Oper) (k : Nat) (orc : List Res) (keep : List Nat) (hn : Nat) (s : St) : Option (St × List Bool × List Req) :=
  bif dstsB ops && Nat.ble k ops.size then
    (match runS P s.nt ops 0 (ops.toList.take k) ⟨s.env, s.H, orc⟩ with
    | some (r, bs, rq) => (cutS hn ⟨s.nt, fin r.env keep, r.H⟩).map fun s' => (s', bs, rq)
    | none => none) else none
def regFrom (P : Program) (ops : Array Oper) (k : Nat) (orc : List Res) (keep : List Nat) (hn : Nat) (s : St) : Option (St × List Bool × List Req) :=
  match runS P s.nt ops k (ops.toList.drop k) ⟨s.env, s.H, orc⟩ with
  | some (r, bs, rq) => (cutS hn ⟨s.nt, fin r.env keep, r.H⟩).map fun s' => (s', bs, rq)
  | none => none
theorem rinv_of_rel {F : Fr} {nt : Nat} {ops : Array Oper} {k : Nat} {s : St} {a : Act} {w : World} {orc : List Res} (h : Rel F s a w) (hn : s.nt = nt) : ∃ c : Ctx, c.w = w ∧ RInv F nt ops k ⟨s.env, s.H, orc⟩ a c := by
  obtain ⟨c, rfl, hH, hI, henv, hsz, hd⟩ := h
  refine ⟨c, rfl, hH, hI, fun t => gv_of_tv (henv t), hsz.trans hn, hd, fun t j w d hf => ?_⟩
  have := henv t
  have hf : find s.env t = .opt j w d := hf
  rw [hf] at this
  simp only [TV, AV] at this
  exact absurd this cv_not_opt
end Nv
namespace Nv
open Go Go.RowKit
theorem reach_trans {ops : Array Oper} {i j k : Nat} (h : Reach ops i j) (r : Reach ops j k) : Reach ops i k := by
  induction h with
  | one h => exact .step h r
  | step h _ ih => exact .step h (ih r)
def chainB (ops : Array Oper) (k : Nat) : Bool :=
  let M := Region.before ops
  (List.range ops.size).all fun q => Nat.ble q k || (M.getD q 0).testBit (q - 1)
theorem chainB_spec {ops : Array Oper} {k q : Nat} (h : chainB ops k = true) (hq : q < ops.size) (hk : k < q) : ((Region.before ops).getD q 0).testBit (q - 1) = true := by
  have h1 := List.all_eq_true.1 h q (List.mem_range.2 hq)
  rw [show Nat.ble q k = false by (cases hb : Nat.ble q k with | false => rfl | true => have := Nat.le_of_ble_eq_true hb; omega), Bool.false_or] at h1
  exact h1
theorem any_chain {P : Program} {ops : Array Oper} (hfl : flowB ops = true) {k : Nat} (hch : chainB ops k = true) {Q : Exit → Act → World → Prop} :
    ∀ (m j : Nat) (listed : Array Bool) (a : Act) (w : World), j + m = ops.size → k ≤ j → listed.size = ops.size → (∀ i, listed.getD i false = true ↔ i < j) → wpOps P ops Q (List.range' j m) a w → wpAny P .any ops Q m listed a w := by
  have flow := flow_of hfl
  have onlt : ∀ i o, ops[i]? = some o → ∀ e ∈ o.after, Region.binds .any e = true → e.on < i := fun i o ho e he hb => by
    have h1 := flow i o ho
    simp only [flowAt, Bool.and_eq_true] at h1
    have h2 := Array.all_eq_true'.1 h1.1.1 e he
    simp only [hb, Bool.not_true, Bool.false_or] at h2
    exact blt_true h2
  intro m
  induction m with
  | zero =>
    intro j listed a w hj _ hls hl hw
    refine ⟨?_, hw⟩
    cases hr : Region.ready .any ops listed with
    | nil => rfl
    | cons i r =>
      exfalso
      have hi : i ∈ Region.ready .any ops listed := by rw [hr]; exact List.mem_cons_self
      obtain ⟨h1, o, ho, _⟩ := mem_ready.1 hi
      have hil := (Array.getElem?_eq_some_iff.1 ho).1
      have h2 := (hl i).2 (by omega)
      simp [hls, hil] at h1 h2
      rw [h1] at h2; cases h2
  | succ m ih =>
    intro j listed a w hj hkj hls hl hw
    have hjl : j < ops.size := by omega
    obtain ⟨oj, hoj⟩ : ∃ o, ops[j]? = some o := ⟨ops[j], by simp [hjl]⟩
    have hin : j ∈ Region.ready .any ops listed := mem_ready.2 ⟨by
      have : listed.getD j false = false := by
        cases hq : listed.getD j false with
        | false => rfl
        | true => have := (hl j).1 hq; omega
      simp [hls, hjl] at this ⊢; exact this, oj, hoj, fun e he hb => (hl _).2 (onlt j oj hoj e he hb)⟩
    refine ⟨fun h => (by rw [h] at hin; cases hin), fun i hi => ?_⟩
    obtain ⟨hun, o, ho, hall⟩ := mem_ready.1 hi
    have hil := (Array.getElem?_eq_some_iff.1 ho).1
    have hij : i = j := by
      rcases Nat.lt_trichotomy i j with h | h | h
      · have h1 := (hl i).2 h
        simp [hls, hil] at hun h1
        rw [hun] at h1; cases h1
      · exact h
      · exfalso
        have key : ∀ d i, i = j + 1 + d → i < ops.size → Reach ops i j := by
          intro d
          induction d with
          | zero =>
            intro i e hi
            subst e
            have := before_reach ops (j + 1 + 0) (j + 1 + 0 - 1) hi (chainB_spec hch hi (by omega))
            rwa [show j + 1 + 0 - 1 = j by omega] at this
          | succ d ihd =>
            intro i e hi
            have h1 := before_reach ops i (i - 1) hi (chainB_spec hch hi (by omega))
            have h2 := ihd (i - 1) (by omega) (by omega)
            exact reach_trans h1 h2
        have hR := key (i - j - 1) i (by omega) hil
        have hc : ∀ x y, Waits ops x y → listed.getD x false = true → listed.getD y false = true := fun x y ⟨o', ho', e, he, hb, hon⟩ hx => by
          have := onlt x o' ho' e he hb
          have := (hl x).1 hx
          exact (hl y).2 (by omega)
        have := closed_reach hc hR fun y ⟨o', ho', e, he, hb, hon⟩ => by
          rw [ho] at ho'; cases ho'
          rw [← hon]; exact hall e he hb
        have := (hl j).1 this
        omega
    subst hij
    rw [List.range'_succ, wpOps_cons] at hw
    have step : ∀ a w, wpOps P ops Q (List.range' (i + 1) m) a w → wpAny P .any ops Q m (listed.setIfInBounds i true) a w := fun a w h =>
      ih (i + 1) _ a w (by omega) (by omega) (by simp [hls]) (fun x => by rw [set_iff (by omega), hl]; omega) h
    unfold wpOp at hw ⊢
    simp only [ho] at hw ⊢
    split
    · rename_i hwn
      rw [if_pos hwn] at hw
      exact hw.imp (fun h => Oper.wp_mono step h) fun h => h
    · rename_i hwn
      rw [if_neg hwn] at hw
      exact step _ _ hw
theorem any_regionW {P : Program} {s : St} {ops : Array Oper} (orc : List Res) (keep : List Nat) (hn : Nat) {s' : St} {bs : List Bool} {rq : List Req}
    (h : regW P ops orc keep hn s = some (s', bs, rq)) (hb : ∀ b ∈ bs, b = true) (hq : ∀ q ∈ rq, q.ok P) {F : Fr} {a : Act} {w : World} (hG : GF P F) (hR : Rel F s a w) {K : Act → World → Prop} {Q' : Exit → Act → World → Prop} (hK : ∀ a w, Rel F s' a w → K a w) :
    P.follows .mixedOrders = true ∧ wpAny P .any ops (QK Q' K) ops.size (Array.replicate ops.size false) a w.drew := by
  obtain ⟨c, rfl, hH, hI, henv, hsz, hd⟩ := hR
  unfold regW at h
  cases hc : (flowB ops && P.follows .mixedOrders && cmpB ops) with
  | false => rw [hc] at h; cases h
  | true =>
    rw [hc] at h
    simp only [cond_true] at h
    simp only [Bool.and_eq_true] at hc
    split at h <;> try cases h
    rename_i env' H' bs0 rq0 orc0 hrun
    obtain ⟨s1, hcut, heq⟩ := Option.map_eq_some_iff.1 h
    simp only [Prod.mk.injEq] at heq
    obtain ⟨rfl, rfl, rfl⟩ := heq
    refine ⟨hc.1.2, ?_⟩
    obtain ⟨E, HH, V, hE0, hH0, hE1, hH1, hT⟩ := traceW_of ops.toList 0 s.env env' s.H H' orc orc0 bs0 rq0 (fun j => .inl (by simp)) hrun
    simp only [Array.length_toList, Nat.zero_add] at hE1 hH1 hT
    let c' : Ctx := { c with w := c.w.drew }
    have hgo : Goes c c' := ⟨rfl, rfl, fun _ h => h, fun _ _ => rfl, fun b hb => (hI.imm b hb).1, fun id b hb => (hI.loc id b hb).2.1⟩
    have hI' : Inv F c' := hI.goes hgo (Bw.refl _ _).drew (fun _ h => .inl h)
    have hnone : ∀ i, ¬ (Array.replicate ops.size false).getD i false = true := fun i h => by rw [getD_rep_false] at h; cases h
    have hval : ∀ t, valL ops V (E 0) (fun i => (Array.replicate ops.size false).getD i false = true) t = find s.env t := fun t => by rw [valL_none (fun i _ => hnone i), hE0]
    have hD : DWInv F s.nt ops HH V (E 0) (Array.replicate ops.size false) a c' := by
      refine ⟨⟨0, Nat.zero_le _, hH.trans hH0.symm, fun w o _ _ h => by omega, fun w o _ _ _ => by rw [getD_rep_false]⟩, hI', fun t => ?_, hsz, hd, fun t j w d hf => ?_, by simp, fun i j _ h => absurd h (hnone i)⟩
      · rw [hval]; exact gv_of_tv (hgo.tv (henv t))
      · rw [hval] at hf
        have := henv t
        rw [hf] at this
        simp only [TV, AV] at this
        exact absurd this cv_not_opt
    refine drawW_sound hc.1.1 hc.2 hT hb hq [] (fun a' c'' hR => ?_) ops.size _ a c' hD (by simp [cnt, List.countP_replicate])
    have hR' := rinv_fin hR keep
    have e1 : E ops.size = env' := hE1
    have e2 : HH ops.size = H' := hH1
    simp only [e1, e2] at hR'
    exact hK _ _ (le_cut hcut F a' c''.w hR')
theorem ops_from {P : Program} {F : Fr} [GF P F] {ops : Array Oper} {k : Nat} (hnd : dstsB ops = true) {s s3 : St} {orc : List Res} {keep : List Nat} {hn : Nat} {bs : List Bool} {rq : List Req} (h : regFrom P ops k orc keep hn s = some (s3, bs, rq)) (hb : ∀ b ∈ bs, b = true) (hq : ∀ q ∈ rq, q.ok P)
    {Q : Exit → Act → World → Prop} (hQ : ∀ a w, Rel F s3 a w → Q .normal a w) {a : Act} {w : World} (hR : Rel F s a w) : wpOps P ops Q (List.range' k (ops.size - k)) a w := by
  unfold regFrom at h
  split at h <;> try cases h
  rename_i r bs' rq' hrun
  obtain ⟨q3, hcut, heq⟩ := Option.map_eq_some_iff.1 h
  simp only [Prod.mk.injEq] at heq
  obtain ⟨rfl, rfl, rfl⟩ := heq
  obtain ⟨c, rfl, h0⟩ := rinv_of_rel (ops := ops) (k := k) (orc := orc) hR rfl
  have hlen : (ops.toList.drop k).length = ops.size - k := by simp
  have := seq_soundR hnd (Q := Q) (rest := []) (ops.toList.drop k) k ⟨s.env, s.H, orc⟩ r bs' rq' (fun j => .inl (by rw [List.getElem?_drop]; simp)) hrun hb hq a c h0 (fun a' c' hR' => hQ _ _ (le_cut hcut F a' c'.w (rinv_fin hR' keep)))
  rw [hlen, List.append_nil] at this
  exact this
theorem rgv {P : Program} {Q : Exit → St → Prop} {s : St} {id : Nat} {ops : Array Oper} (k : Nat) (orcA : List Res) (keepA : List Nat) (hnA : Nat) (s1 : St) (bsA : List Bool) (rqA : List Req) (hbA : ∀ b ∈ bsA, b = true) (hqA : Reqs P rqA)
    {α : Type} (S2 : α → St) (hle : LeE s1 S2) (orcB : List Res) (keepB : List Nat) (hnB : Nat) (s3 : α → St) (bsB : α → List Bool) (rqB : α → List Req) (hbB : ∀ x, ∀ b ∈ bsB x, b = true) (hqB : ∀ x, Reqs P (rqB x)) (kk : ∀ x, Q .normal (s3 x))
    (hA : regW P (ops.extract 0 k) orcA keepA hnA s = some (s1, bsA, rqA) := by kernel_rfl) (hB : ∀ x, regFrom P ops k orcB keepB hnB (S2 x) = some (s3 x, bsB x, rqB x) := by intro _; kernel_rfl)
    (hc : (flowB ops && cutAt ops k && chainB ops k && Nat.ble k ops.size) = true := by kernel_rfl) : AWP P (.region id ops true) Q s := by
  intro F a w hG hR
  simp only [Bool.and_eq_true] at hc
  obtain ⟨⟨⟨hfl, hct⟩, hch⟩, hk⟩ := hc
  have hk := Nat.le_of_ble_eq_true hk
  have hnd : dstsB ops = true := by simp only [flowB, Bool.and_eq_true] at hfl; exact hfl.1
  obtain ⟨hmo, hany⟩ := any_regionW orcA keepA hnA hA hbA hqA.all (Q' := fun e a' w' => ∃ s', Q e s' ∧ Rel F s' a' w') hG hR (K := fun a w => ∃ x, Rel F (S2 x) a w) (fun a w h => hle F a w h)
  have esz : (ops.extract 0 k).size = k := by rw [Array.size_extract]; omega
  rw [esz] at hany
  refine wp_region_any hmo ?_
  have hfin := any_prefix (P := P) (Q := fun e a' w' => ∃ s', Q e s' ∧ Rel F s' a' w') (K := fun a w => ∃ x, Rel F (S2 x) a w) hk hfl hct (fun a w ⟨x, hR2⟩ listed hls hl =>
      any_chain hfl hch (ops.size - k) k listed a w (by omega) (Nat.le_refl _) hls hl (ops_from hnd (hB x) (hbB x) (hqB x).all (fun a w h => ⟨_, kk x, h⟩) hR2))
    k (Array.replicate k false) (Array.replicate ops.size false) a w.drew (by simp) (by simp) (fun i => by rw [getD_rep_false, getD_rep_false]) (fun i j _ h => by rw [getD_rep_false] at h; cases h) (by simp [cnt, List.countP_replicate]) hany
  rw [show k + (ops.size - k) = ops.size by omega] at hfin
  exact hfin
theorem ops_to {P : Program} {F : Fr} [GF P F] {ops : Array Oper} {k : Nat} {s s1 : St} {orc : List Res} {keep : List Nat} {hn : Nat} {bs : List Bool} {rq : List Req} (h : regTo P ops k orc keep hn s = some (s1, bs, rq)) (hb : ∀ b ∈ bs, b = true) (hq : ∀ q ∈ rq, q.ok P)
    {Q : Exit → Act → World → Prop} (hQ : ∀ a w, Rel F s1 a w → wpOps P ops Q (List.range' k (ops.size - k)) a w) {a : Act} {w : World} (hR : Rel F s a w) : dstsB ops = true ∧ wpOps P ops Q (List.range ops.size) a w := by
  unfold regTo at h
  cases hc : (dstsB ops && Nat.ble k ops.size) with
  | false => rw [hc] at h; cases h
  | true =>
    rw [hc] at h
    simp only [cond_true] at h
    simp only [Bool.and_eq_true] at hc
    have hkl := Nat.le_of_ble_eq_true hc.2
    split at h <;> try cases h
    rename_i r bs rq hrun
    obtain ⟨q1, hcut, heq⟩ := Option.map_eq_some_iff.1 h
    simp only [Prod.mk.injEq] at heq
    obtain ⟨rfl, rfl, rfl⟩ := heq
    obtain ⟨c, rfl, h0⟩ := rinv_of_rel (ops := ops) (k := 0) (orc := orc) hR rfl
    have hlen : (ops.toList.take k).length = k := by simp; omega
    have := seq_soundR hc.1 (Q := Q) (rest := List.range' k (ops.size - k)) (ops.toList.take k) 0 ⟨s.env, s.H, orc⟩ r bs rq (fun j => by
      rcases Nat.lt_or_ge j k with h | h
      · left; rw [List.getElem?_take_of_lt h]; simp
      · right; rw [hlen]; exact h) hrun hb hq a c h0 (fun a' c' hR' => hQ _ _ (le_cut hcut F a' c'.w (rinv_fin hR' keep)))
    rw [hlen] at this
    refine ⟨hc.1, ?_⟩
    have e : List.range ops.size = List.range' 0 k ++ List.range' k (ops.size - k) := by
      rw [List.range_eq_range', show List.range' k (ops.size - k) = List.range' (0 + 1 * k) (ops.size - k) by simp, List.range'_append, show k + (ops.size - k) = ops.size by omega]
    rw [e]
    exact this
def regMid (P : Program) (ops : Array Oper) (k l : Nat) (orc : List Res) (keep : List Nat) (hn : Nat) (s : St) : Option (St × List Bool × List Req) :=
  bif Nat.ble k l && Nat.ble l ops.size then
    (match runS P s.nt ops k ((ops.toList.drop k).take (l - k)) ⟨s.env, s.H, orc⟩ with
    | some (r, bs, rq) => (cutS hn ⟨s.nt, fin r.env keep, r.H⟩).map fun s' => (s', bs, rq)
    | none => none) else none
theorem ops_mid {P : Program} {F : Fr} [GF P F] {ops : Array Oper} {k l : Nat} (hnd : dstsB ops = true) {s s3 : St} {orc : List Res} {keep : List Nat} {hn : Nat} {bs : List Bool} {rq : List Req} (h : regMid P ops k l orc keep hn s = some (s3, bs, rq)) (hb : ∀ b ∈ bs, b = true) (hq : ∀ q ∈ rq, q.ok P)
    {Q : Exit → Act → World → Prop} (hQ : ∀ a w, Rel F s3 a w → wpOps P ops Q (List.range' l (ops.size - l)) a w) {a : Act} {w : World} (hR : Rel F s a w) : wpOps P ops Q (List.range' k (ops.size - k)) a w := by
  unfold regMid at h
  cases hc : (Nat.ble k l && Nat.ble l ops.size) with
  | false => rw [hc] at h; cases h
  | true =>
    rw [hc] at h
    simp only [cond_true] at h
    simp only [Bool.and_eq_true] at hc
    have hk := Nat.le_of_ble_eq_true hc.1
    have hl := Nat.le_of_ble_eq_true hc.2
    split at h <;> try cases h
    rename_i r bs' rq' hrun
    obtain ⟨q3, hcut, heq⟩ := Option.map_eq_some_iff.1 h
    simp only [Prod.mk.injEq] at heq
    obtain ⟨rfl, rfl, rfl⟩ := heq
    obtain ⟨c, rfl, h0⟩ := rinv_of_rel (ops := ops) (k := k) (orc := orc) hR rfl
    have hlen : ((ops.toList.drop k).take (l - k)).length = l - k := by simp; omega
    have := seq_soundR hnd (Q := Q) (rest := List.range' l (ops.size - l)) ((ops.toList.drop k).take (l - k)) k ⟨s.env, s.H, orc⟩ r bs' rq' (fun j => by
      rcases Nat.lt_or_ge j (l - k) with h | h
      · left; rw [List.getElem?_take_of_lt h, List.getElem?_drop]; simp
      · right; rw [hlen]; exact h) hrun hb hq a c h0 (fun a' c' hR' => hQ _ _ (le_cut hcut F a' c'.w (rinv_fin hR' keep)))
    rw [hlen] at this
    have e : List.range' k (ops.size - k) = List.range' k (l - k) ++ List.range' l (ops.size - l) := by
      have h1 : List.range' l (ops.size - l) = List.range' (k + 1 * (l - k)) (ops.size - l) := by congr 1; omega
      rw [h1, List.range'_append]; congr 1; omega
    rw [e]
    exact this
theorem rgx3 {P : Program} {Q : Exit → St → Prop} {s : St} {id : Nat} {ops : Array Oper} (k l : Nat) (orc1 : List Res) (keep1 : List Nat) (hn1 : Nat) (s1 : St) (bs1 : List Bool) (rq1 : List Req) (hb1 : ∀ b ∈ bs1, b = true) (hq1 : Reqs P rq1)
    (s2 : St) (hle : Le s1 s2) (orc2 : List Res) (keep2 : List Nat) (hn2 : Nat) (s3 : St) (bs2 : List Bool) (rq2 : List Req) (hb2 : ∀ b ∈ bs2, b = true) (hq2 : Reqs P rq2)
    {α : Type} (S4 : α → St) (hle2 : LeE s3 S4) (orcB : List Res) (keepB : List Nat) (hnB : Nat) (s5 : α → St) (bsB : α → List Bool) (rqB : α → List Req) (hbB : ∀ x, ∀ b ∈ bsB x, b = true) (hqB : ∀ x, Reqs P (rqB x)) (kk : ∀ x, Q .normal (s5 x))
    (h1 : regTo P ops k orc1 keep1 hn1 s = some (s1, bs1, rq1) := by kernel_rfl) (h2 : regMid P ops k l orc2 keep2 hn2 s2 = some (s3, bs2, rq2) := by kernel_rfl) (hB : ∀ x, regFrom P ops l orcB keepB hnB (S4 x) = some (s5 x, bsB x, rqB x) := by intro _; kernel_rfl) : AWP P (.region id ops false) Q s := by
  intro F a w hG hR
  refine wp_region ?_
  have hnd : dstsB ops = true := by
    unfold regTo at h1
    cases hc : (dstsB ops && Nat.ble k ops.size) with
    | false => rw [hc] at h1; cases h1
    | true => simp only [Bool.and_eq_true] at hc; exact hc.1
  refine (ops_to h1 hb1 hq1.all (fun a w hR1 => ops_mid hnd h2 hb2 hq2.all (fun a w hR3 => ?_) (hle F a w hR1)) hR).2
  obtain ⟨x, hR4⟩ := hle2 F a w hR3
  exact ops_from hnd (hB x) (hbB x) (hqB x).all (fun a w h => ⟨_, kk x, h⟩) hR4
theorem le_refam {nt : Nat} {e : List (Nat × D)} {H : List Ob} {idf foc n wd : Nat} {is : Value → Bool} {vs : Nat → Value} {ls : Nat → Nat × (Nat → List D)} (ho : H[idf]? = some (.fam foc is n wd vs ls)) (n' : Nat) (vs' : Nat → Value) (ls' : Nat → Nat × (Nat → List D)) (ρ : Nat → Nat)
    (h : ∀ j, j < n' → ((∃ ad, vs' j = .slice ad 0 0) ∧ (ls' j).1 = 0) ∨ (ρ j < n ∧ vs' j = vs (ρ j) ∧ (ls' j).1 = (ls (ρ j)).1 ∧ ∀ i, i < (ls' j).1 → (ls' j).2 i = (ls (ρ j)).2 i))
    (hinj : ∀ i j, i < n' → j < n' → blkOf (vs' i) ≠ none → blkOf (vs' j) ≠ none → ρ i = ρ j → i = j) : Le ⟨nt, e, H⟩ ⟨nt, e, H.set idf (.fam 0 (fun _ => false) n' wd vs' ls')⟩ := by
  rintro F a w ⟨c, rfl, hH, hI, henv, hsz, hd⟩
  obtain rfl : c.H = H := hH
  have hidf := (List.getElem?_eq_some_iff.1 ho).1
  have hold : ∀ (i : Nat) (q : Ob) (jj b : Nat), (c.seen idf (.fam 0 (fun _ => false) n' wd vs' ls')).H[i]? = some q → fblk q jj = some b →
      (i = idf ∧ jj < n' ∧ blkOf (vs' jj) = some b ∧ fblk (.fam foc is n wd vs ls) (ρ jj) = some b) ∨ (i ≠ idf ∧ c.H[i]? = some q) := by
    intro i q jj b h2 h3
    by_cases e2 : i = idf
    · subst e2
      simp only [Ctx.seen] at h2
      rw [List.getElem?_set_self hidf] at h2
      cases h2
      simp only [fblk] at h3
      split at h3
      · rename_i hin
        refine .inl ⟨rfl, hin, h3, ?_⟩
        rcases h jj hin with ⟨⟨ad, h4⟩, _⟩ | ⟨h4, h5, _⟩
        · rw [h4] at h3; cases ad <;> simp [blkOf] at h3
        · simp only [fblk]; rw [if_pos h4, ← h5]; exact h3
      · cases h3
    · simp only [Ctx.seen] at h2
      rw [List.getElem?_set_ne (Ne.symm e2)] at h2
      exact .inr ⟨e2, h2⟩
  refine ⟨c.seen idf _, rfl, rfl, seen_inv hI ho (by simp) (by simp) (fun hv => ⟨⟨hv.1.1, fun _ h => by cases h⟩, fun j hj => ?_⟩) (fun i q jj b h2 h3 => ?_), fun t => seen_tv ho (by simp) (henv t), hsz, hd⟩
  · rcases h j hj with ⟨h1, h2⟩ | ⟨h1, h2, h3, h4⟩
    · obtain ⟨ad, h1⟩ := h1
      rw [h1, h2]; exact ⟨ad, 0, rfl, Nat.le_refl _, fun i hi => by omega, .inl rfl⟩
    · obtain ⟨ad, cap, e1, e2, e3, e4⟩ := hv.2 (ρ j) h1
      rw [h2, h3]
      refine ⟨ad, cap, e1, e2, fun i hi => by rw [h4 i (by omega)]; exact e3 i hi, e4.imp (fun x => x) ?_⟩
      rintro ⟨b, cs, T, g1, g2, g3, g4⟩
      exact ⟨b, cs, T, g1, g2, g3, fun i hi j' d hd => g4 i hi j' d (by rw [← h4 i (by omega)]; exact hd)⟩
  · rcases hold i q jj b h2 h3 with ⟨rfl, h4, h5, h6⟩ | ⟨h4, h5⟩
    · obtain ⟨h7, h8⟩ := hI.fam i _ (ρ jj) b ho h6
      refine ⟨h7, fun id' q' j' h9 h10 => ?_⟩
      rcases hold id' q' j' b h9 h10 with ⟨rfl, g1, g2, g3⟩ | ⟨g1, g2⟩
      · exact ⟨rfl, hinj j' jj g1 h4 (by rw [g2]; simp) (by rw [h5]; simp) (h8 _ _ _ ho g3).2⟩
      · exact absurd (h8 id' q' j' g2 h10).1 g1
    · obtain ⟨h7, h8⟩ := hI.fam i q jj b h5 h3
      refine ⟨h7, fun id' q' j' h9 h10 => ?_⟩
      rcases hold id' q' j' b h9 h10 with ⟨rfl, _, _, g3⟩ | ⟨_, g2⟩
      · exact absurd (h8 _ _ _ ho g3).1.symm h4
      · exact h8 id' q' j' g2 h10
theorem le_frF {nt : Nat} {e : List (Nat × D)} {H : List Ob} {idf foc n wd : Nat} {is : Value → Bool} {vs : Nat → Value} {ls : Nat → Nat × (Nat → List D)} (ho : H[idf]? = some (.fam foc is n wd vs ls)) (ida wda na : Nat) (f f' : Nat → List D) (ha : H[ida]? = some (.arr wda na f)) (hl : ∀ i, i < na → (f' i).length = (f i).length)
    (hp : ∀ i, i < na → ∀ (j : Nat) (d' : D), (f' i)[j]? = some d' → ∃ d, (f i)[j]? = some d ∧ (d' = d ∨ ∃ k, k < n ∧ d = .val (vs k) ∧ d' = .sl false wd (ls k).1 (ls k).2)) :
    Le ⟨nt, e, H⟩ ⟨nt, e, (H.set idf (.fam 0 (fun _ => false) 0 wd vs ls)).set ida (.arr wda na f')⟩ := by
  rintro F a w ⟨c, rfl, hH, hI, henv, hsz, hd⟩
  obtain rfl : c.H = H := hH
  have hidf := (List.getElem?_eq_some_iff.1 ho).1
  have hne : ida ≠ idf := fun e => by rw [e, ho] at ha; cases ha
  have hovf := hI.obj idf _ ho
  let I1 : Nat → Prop := fun b => ∃ j, fblk (.fam foc is n wd vs ls) j = some b
  have hfe : ∀ j, fblk (.fam 0 (fun _ => false) 0 wd vs ls) j = none := fun j => by simp [fblk]
  have hI1 : Inv F (c.seen idf (.fam 0 (fun _ => false) 0 wd vs ls)) := seen_inv hI ho (by simp) (by simp) (fun h => ⟨⟨h.1.1, fun _ h => by cases h⟩, fun j hj => by omega⟩) (hI.fam.mono (fun i o j b h1 h2 => fblk_set hfe h1 h2) (Nat.le_refl _) (fun b _ h => .inl h) fun i b h => .inl ⟨i, h⟩)
  have hI2 : Inv F ((c.seen idf (.fam 0 (fun _ => false) 0 wd vs ls)).more I1) := more_inv hI1 (fun b ⟨j, hj⟩ => by
    obtain ⟨⟨h1, h2, h3, h4⟩, _⟩ := hI.fam idf _ j b ho hj
    exact ⟨h2, h1, h4⟩) (fun b ⟨j, hj⟩ id o jj h1 h2 => by
    obtain ⟨_, h5⟩ := hI.fam idf _ j b ho hj
    obtain ⟨o1, h6, h7⟩ := fblk_set hfe h1 h2
    have := (h5 id o1 jj h6 h7).1
    subst this
    simp only [Ctx.seen] at h1
    rw [List.getElem?_set_self hidf] at h1
    cases h1
    rw [hfe] at h2; cases h2)
  have ha1 : ((c.seen idf (.fam 0 (fun _ => false) 0 wd vs ls)).more I1).H[ida]? = some (.arr wda na f) := by
    simp only [Ctx.more, Ctx.seen]
    rw [List.getElem?_set_ne (Ne.symm hne)]; exact ha
  have hs : ∀ wd' n' f0, Ob.arr wda na f = .arr wd' n' f0 → ∃ f1, Ob.arr wda na f' = .arr wd' n' f1 := fun wd' n' f0 h => by cases h; exact ⟨f', rfl⟩
  have hsl : ∀ k, k < n → PV (fun b => c.I b ∨ I1 b) c.w (vs k) (.sl false wd (ls k).1 (ls k).2) := fun k hk => by
    obtain ⟨ad, cap, hv, hle, hlen, hor⟩ := hovf.2 k hk
    rw [hv]
    rcases Nat.eq_zero_or_pos cap with h0 | h0
    · have hz : (ls k).1 = 0 := by omega
      rw [hz]
      exact .sl ad 0 cap wd false _ (fun _ _ => undef) (fun h => by cases h) (by omega) (fun h => by omega) (fun i hi => by omega) (fun i hi => by omega) (fun i hi => by omega)
    · rcases hor with hor | ⟨b, cs, T, rfl, h4, h5, h6⟩
      · omega
      · have hix : ∀ i, i < (ls k).1 → ∀ j, j < wd → ∃ v, cs[i * wd + j]? = some v ∧ v.oneCell' = true := fun i hi j hj => by
          have hj' : j < ((ls k).2 i).length := by rw [hlen i hi]; exact hj
          obtain ⟨v, e1, e2, _⟩ := h6 i hi j ((ls k).2 i)[j] (by simp [hj'])
          exact ⟨v, e1, e2⟩
        refine .sl _ (ls k).1 cap wd false _ (fun i j => cs.getD (i * wd + j) undef) (fun h => by cases h) hle (fun _ => ⟨b, 0, rfl, .inr ⟨k, by simp only [fblk]; rw [if_pos hk, hv]; simp only [blkOf]; rw [if_neg (by omega)]⟩, fun i hi j hj => ?_⟩) hlen (fun i hi j hj => ?_) (fun i hi j d hd => ?_)
        · obtain ⟨v, e1, _⟩ := hix i hi j hj
          simp [World.cell?, h4, e1]
        · obtain ⟨v, e1, e2⟩ := hix i hi j hj
          simp [e1, e2]
        · obtain ⟨v, e1, e2, e3⟩ := h6 i hi j d hd
          have : cs.getD (i * wd + j) undef = v := by simp [e1]
          rw [this]
          exact e3.mono (fun _ h => .inl h) fun _ _ => rfl
  refine ⟨((c.seen idf (.fam 0 (fun _ => false) 0 wd vs ls)).more I1).seen ida (.arr wda na f'), rfl, rfl, seen_inv hI2 ha1 (by simp) hs (fun h => ⟨fun i hi => (hl i hi).trans (h.1 i hi), h.2.imp (fun x => x) ?_⟩) (hI2.fam.mono (fun i o j b h1 h2 => fblk_set (fun _ => rfl) h1 h2) (Nat.le_refl _) (fun b _ h => .inl h) fun i b h => .inl ⟨i, h⟩), fun t => seen_tv ha1 hs (more_tv (seen_tv ho (by simp) (henv t))), hsz, hd⟩
  rintro ⟨b, cs, T, h1, h2, h3, h4⟩
  refine ⟨b, cs, T, h1, h2, h3, fun i hi j d' hd' => ?_⟩
  obtain ⟨d, h5, h6⟩ := hp i hi j d' hd'
  obtain ⟨v, h7, h8, h9⟩ := h4 i hi j d h5
  rcases h6 with rfl | ⟨k, h10, rfl, rfl⟩
  · exact ⟨v, h7, h8, h9⟩
  · cases h9
    exact ⟨_, h7, h8, hsl k h10⟩
end Nv
namespace Nv
open Go Go.RowKit
def isT (t : Nat) : Operand → Bool
  | .tmp u => Nat.beq u t
  | _ => false
theorem isT_eq {t : Nat} {y : Operand} (h : isT t y = true) : y = .tmp t := by
  cases y <;> first | (simp only [isT] at h; rw [Nat.eq_of_beq_eq_true h]) | cases h
def rhoF (env : List (Nat × D)) (t : Nat) (d : D) (y : Operand) : D := bif isT t y then d else evD env y
theorem rel_put {F : Fr} {s1 : St} {a : Act} {w : World} {e : List (Nat × D)} {dst : Option Nat} {d : D} (hput : putE s1.nt dst d s1.env = some e) {c' : Ctx} {H' : List Ob} {v : Value} (hH' : c'.H = H') (hI' : Inv F c') (henv : ∀ t, TV c' (a.tmps.getD t undef) (find s1.env t)) (hv : TV c' v d) (hsz : a.tmps.size = s1.nt) (hd : a.defers = []) (hw : c'.w = w) : Rel F ⟨s1.nt, e, H'⟩ (a.put dst v) w := by
  refine ⟨c', hw, hH', hI', fun t => ?_, by rw [size_put]; exact hsz, by rw [defers_put]; exact hd⟩
  show TV c' _ (find e t)
  unfold putE at hput
  split at hput
  · simp only [Option.some.injEq] at hput
    subst hput
    rw [getD_put (by simp)]
    exact henv t
  · rename_i u
    cases hlt : Nat.blt u s1.nt with
    | false => rw [hlt] at hput; cases hput
    | true =>
      rw [hlt] at hput
      simp only [cond_true, Option.some.injEq] at hput
      subst hput
      simp only [find]
      cases hb : Nat.beq u t with
      | true =>
        obtain rfl := Nat.eq_of_beq_eq_true hb
        simp only [cond_true]
        rw [getD_put_same (by rw [hsz]; exact blt_true hlt)]; exact hv
      | false =>
        simp only [cond_false]
        rw [getD_put (fun h => Nat.ne_of_beq_eq_false hb (Option.some.inj h))]
        exact henv t
theorem rgz {P : Program} {Q : Exit → St → Prop} {s : St} {id : Nat} {ops : Array Oper} (k : Nat) (orc1 : List Res) (keep1 : List Nat) (hn1 : Nat) (s1 : St) (bs1 : List Bool) (rq1 : List Req) (hb1 : ∀ b ∈ bs1, b = true) (hq1 : Reqs P rq1)
    (idf t j : Nat) {foc n wd : Nat} {is : Value → Bool} {vs : Nat → Value} {ls : Nat → Nat × (Nat → List D)} (hj : j < n) (orc : List Res) {d : D} {H' : List Ob} (rq : List Req) {orc' : List Res} (hq : Reqs P rq)
    {foc2 n2 m : Nat} {is2 : Value → Bool} {vs2 : Nat → Value} {ls2 : Nat → Nat × (Nat → List D)} {g' : Nat → List D} (hb : blkOf (vs2 j) = none) {e : List (Nat × D)} (keep : List Nat) (hn : Nat) (s2 : St) (kk : Q .normal s2)
    (o : Oper) (hop : ops[k]? = some o) (hsz : ops.size = k + 1) (hgd : o.guard = none) (h1 : regTo P ops k orc1 keep1 hn1 s = some (s1, bs1, rq1)) (ho : s1.H[idf]? = some (.fam foc is n wd vs ls)) (ht : find s1.env t = .val (vs j))
    (hl : lendD P (unfH s1.H idf foc n wd vs ls j) (rhoF s1.env t (.asl s1.H.length 0 (ls j).1)) orc o.op = some (d, H', rq, orc')) (hf : H'[idf]? = some (.fam foc2 is2 n2 wd vs2 ls2)) (hk : H'[s1.H.length]? = some (.arr wd m g')) (hfr : freeB H' s1.H.length = true)
    (hput : putE s1.nt o.dst .any (s1.env.map fun p => (p.1, purge (some s1.H.length) p.2)) = some e)
    (hcut : cutS hn ⟨s1.nt, fin e keep, ((H'.set s1.H.length (.arr wd 0 g')).map (purgeO s1.H.length)).set idf (.fam 0 (fun _ => false) n2 wd (updV vs2 j (vs j)) (updL ls2 j ((ls j).1, g')))⟩ = some s2) : AWP P (.region id ops false) Q s := by
  intro F a w hG hR
  refine wp_region ?_
  refine (ops_to h1 hb1 hq1.all (fun a w hR1 => ?_) hR).2
  obtain ⟨c, rfl, hH, hI, henv, hsz', hd⟩ := hR1
  rw [hsz, show k + 1 - k = 1 by omega]
  show wpOps P ops _ [k] a c.w
  simp only [wpOps, hop]
  rw [if_pos (by simp [Region.wanted, hgd])]
  have hx : a.tmps.getD t undef = vs j := by
    have := henv t
    rw [ht] at this
    simp only [TV, AV, CV] at this
    generalize a.tmps.getD t undef = v at this
    cases this; rfl
  rw [← hH] at ho hl hk hfr hput hcut
  obtain ⟨c1, hw1, hI1, hH1, htv1, hasl⟩ := unfam hI ho hj
  have hρ : ∀ y ∈ o.op.operands.toList, TV c1 (a.eval y) (rhoF s1.env t (.asl c.H.length 0 (ls j).1) y) := fun y _ => by
    unfold rhoF
    cases hy : isT t y with
    | true =>
      rw [isT_eq hy]
      simp only [cond_true]
      show TV c1 (a.tmps.getD t undef) _
      rw [hx]; exact hasl
    | false =>
      simp only [cond_false]
      refine htv1 _ _ ?_
      cases y with
      | tmp u => exact henv u
      | const v => exact tv_dv c v
      | global g => exact tv_any
      | func f => exact ⟨#[], rfl, rfl, fun i v d h1 _ => by simp at h1⟩
  rw [← hw1]
  refine .inl (lend_ok hI1 hρ (by rw [hH1]; exact hl) hq.all fun v c2 hI2 hH2 htv2 _ => ?_)
  have hasl2 : CV c2 (vs j) (.asl c.H.length 0 (ls j).1) := by simpa only [TV, AV] using htv2 _ _ hasl
  obtain ⟨c3, hw3, hI3, hH3, htv3, _⟩ := refam hI2 (by rw [hH2]; exact hf) (by rw [hH2]; exact hk) (by rw [hH2]; exact hfr) hb hasl2
  refine ⟨s2, kk, ?_⟩
  have hR3 : Rel F ⟨s1.nt, e, ((H'.set c.H.length (.arr wd 0 g')).map (purgeO c.H.length)).set idf (.fam 0 (fun _ => false) n2 wd (updV vs2 j (vs j)) (updL ls2 j ((ls j).1, g')))⟩ (a.put o.dst v) c2.w :=
    rel_put (s1 := ⟨s1.nt, s1.env.map fun p => (p.1, purge (some c.H.length) p.2), []⟩) hput (by rw [hH3, hH2]) hI3 (fun u => by
      show TV c3 _ (find (s1.env.map fun p => (p.1, purge (some c.H.length) p.2)) u)
      rw [find_map]
      exact htv3 _ _ (htv2 _ _ (htv1 _ _ (henv u)))) tv_any hsz' hd hw3
  exact le_cut hcut F _ _ (le_keep' (e := e) keep rfl F _ _ hR3)
section
variable {α : Type} [Inhabited α]
def jls (c : α → List D) (l : List (List α)) (j : Nat) : Nat × (Nat → List D) := ((l.getD j default).length, fun i => c ((l.getD j default).getD i default))
def jA (n : Nat) (vs : Nat → Value) : Ob := .arr 1 n fun j => [.val (vs j)]
def jF (wd : Nat) (c : α → List D) (l : List (List α)) (vs : Nat → Value) : Ob := .fam 0 (fun _ => false) l.length wd vs (jls c l)
theorem le_jset {nt : Nat} {e : List (Nat × D)} {rest : List Ob} {wd : Nat} (c : α → List D) (l : List (List α)) (vs : Nat → Value) (k : Nat) (u : Value) (x : List α) (m : Nat) (g : Nat → List D) (ls1 : Nat → Nat × (Nat → List D)) (vs1 : Nat → Value) (f : Nat → List D)
    (hf : ∀ j, j < l.length → f j = bif Nat.beq j k then splice [.val (vs k)] [.val u] 0 else [.val (vs j)]) (hvs : ∀ j, j ≠ k → vs1 j = vs j) (hls : ∀ j, j ≠ k → ls1 j = jls c l j) (hm : m = x.length) (hg : ∀ i, i < m → g i = c (x.getD i default)) :
    Le ⟨nt, e, .arr 1 l.length f :: .fam 0 (fun _ => false) l.length wd (updV vs1 k u) (updL ls1 k (m, g)) :: rest⟩ ⟨nt, e, jA (l.set k x).length (updV vs k u) :: jF wd c (l.set k x) (updV vs k u) :: rest⟩ := by
  refine Le.trans (le_refam (idf := 1) rfl (l.set k x).length (updV vs k u) (jls c (l.set k x)) (fun j => j) (fun j hj => .inr ?_) (fun i j _ _ _ _ h => h)) (le_sub EnvSub.rfl (.cons (.arr (by simp) fun j hj => ?_) HSub.rfl))
  · rw [List.length_set] at hj
    refine ⟨hj, ?_, ?_, ?_⟩
    · by_cases h : j = k
      · subst h; rw [updV_self, updV_self]
      · rw [updV_ne h, updV_ne h, hvs j h]
    · by_cases h : j = k
      · subst h; rw [updL_self]; simp [jls, hj, hm]
      · rw [updL_ne h, hls j h]; simp [jls, List.getElem?_set_ne (Ne.symm h)]
    · intro i hi
      by_cases h : j = k
      · subst h
        rw [updL_self]
        simp only [jls] at hi ⊢
        have e : (l.set j x).getD j default = x := by simp [hj]
        rw [e] at hi ⊢
        rw [hg i (by omega)]
      · rw [updL_ne h, hls j h]; simp [jls, List.getElem?_set_ne (Ne.symm h)]
  · rw [hf j hj]
    by_cases h : j = k
    · subst h
      rw [updV_self, Nat.beq_refl]
      rfl
    · rw [updV_ne h, show Nat.beq j k = false by (cases hb : Nat.beq j k with | false => rfl | true => exact absurd (Nat.eq_of_beq_eq_true hb) h)]
      rfl
theorem leE_jag0 {nt : Nat} {e : List (Nat × D)} {n wd : Nat} (c : α → List D) (g : Nat → List D) : LeE ⟨nt, e, [.arr 1 n fun _ => [.sl true wd 0 g]]⟩ fun vs : Nat → Value => ⟨nt, e, [jA (List.replicate n ([] : List α)).length vs, jF wd c (List.replicate n ([] : List α)) vs]⟩ := by
  rintro F a w ⟨cx, rfl, hH, hI, henv, hsz, hd⟩
  have hH : cx.H = [.arr 1 n fun _ => [.sl true wd 0 g]] := hH
  have ho : cx.H[0]? = some (.arr 1 n fun _ => [.sl true wd 0 g]) := by rw [hH]; rfl
  have hov := hI.obj 0 _ ho
  -- the values
  have key : ∃ vs : Nat → Value, (∀ j, j < n → ∃ ad, vs j = .slice ad 0 0) ∧ ((cx.mu 0 = none ∧ n = 0) ∨ ∃ b cs T, cx.mu 0 = some b ∧ cx.w.heap[b]? = some (.cells cs T (0, 0)) ∧ n * 1 ≤ cs.size ∧ ∀ j, j < n → cs[j]? = some (vs j)) := by
    rcases hov.2 with h0 | ⟨b, cs, T, h1, h2, h3, h4⟩
    · exact ⟨fun _ => nilV, fun j hj => by omega, .inl h0⟩
    · refine ⟨fun j => cs.getD j undef, fun j hj => ?_, .inr ⟨b, cs, T, h1, h2, h3, fun j hj => ?_⟩⟩
      · obtain ⟨v, e1, _, e3⟩ := h4 j hj 0 _ rfl
        rw [Nat.mul_one, Nat.add_zero] at e1
        have : cs.getD j undef = v := by simp [e1]
        show ∃ ad, cs.getD j undef = .slice ad 0 0
        rw [this]
        cases e3 with
        | sl ad _ cap _ _ _ _ hfull => rw [hfull rfl]; exact ⟨ad, rfl⟩
      · obtain ⟨v, e1, _, _⟩ := h4 j hj 0 _ rfl
        rw [Nat.mul_one, Nat.add_zero] at e1
        simp [e1]
  obtain ⟨vs, hv, hkey⟩ := key
  have hbl : ∀ j, j < n → blkOf (vs j) = none := fun j hj => by
    obtain ⟨ad, h⟩ := hv j hj
    rw [h]; cases ad <;> simp [blkOf]
  refine ⟨vs, ?_⟩
  have hl : (List.replicate n ([] : List α)).length = n := by simp
  let cy : Ctx := { cx with H := [jA (List.replicate n ([] : List α)).length vs, jF wd c (List.replicate n ([] : List α)) vs] }
  have hmu1 : cx.mu 1 = none := hI.dom 1 (by rw [hH]; simp)
  have hL : F.L = [] := by
    rcases Classical.em (F.L = []) with h | h
    · exact h
    · have h1 := hI.mark h
      rw [hH] at h1
      cases hq : F.L.length with
      | zero => exact absurd (List.eq_nil_of_length_eq_zero hq) h
      | succ q => rw [hq] at h1; simp at h1
  have hcv : ∀ v d, CV cx v d → CV cy v d := fun v d h => by
    cases d <;> simp only [CV] at h ⊢ <;> try exact h
    · obtain ⟨b, w1, n1, f1, hb, h2, hi, hv'⟩ := h
      rename_i i _ _
      have : i = 0 := by
        have := (List.getElem?_eq_some_iff.1 h2).1
        rw [hH] at this; simp at this; omega
      subst this
      rw [ho] at h2; cases h2
      exact ⟨b, 1, n, _, hb, by show some (jA _ vs) = _; rw [hl]; rfl, hi, hv'⟩
    · obtain ⟨w1, n1, f1, ad, cap, h2, h3⟩ := h
      rename_i i _ _
      have : i = 0 := by
        have := (List.getElem?_eq_some_iff.1 h2).1
        rw [hH] at this; simp at this; omega
      subst this
      rw [ho] at h2; cases h2
      exact ⟨1, n, _, ad, cap, by show some (jA _ vs) = _; rw [hl]; rfl, h3⟩
  have hav : ∀ v d, AV cx v d → AV cy v d := fun v d h => by
    cases d <;> simp only [AV] at h ⊢ <;> try exact hcv _ _ h
    · obtain ⟨vs, h1, h2⟩ := h; exact ⟨vs, h1, h2.mono hcv⟩
    · obtain ⟨vs, h1, h2⟩ := h; exact ⟨vs, h1, h2.mono hcv⟩
  have htv : ∀ v d, TV cx v d → TV cy v d := fun v d h => by
    cases d <;> simp only [TV] at h ⊢ <;> try exact hav _ _ h
    obtain ⟨vs, h1, h2⟩ := h; exact ⟨vs, h1, h2.mono hav⟩
  refine ⟨cy, rfl, rfl, ⟨hI.below, hI.imm, hI.loc, hI.inj, fun i o h => ?_, fun i hi => hI.dom i (by rw [hH]; have : 2 ≤ i := hi; show 1 ≤ i; omega), hI.lent, fun h => absurd hL h, fun i o j b h1 h2 => ?_⟩, fun t => htv _ _ (henv t), hsz, hd⟩
  · match i, h with
    | 0, h =>
      cases h
      refine ⟨fun i _ => rfl, ?_⟩
      rcases hkey with h0 | ⟨b, cs, T, h1, h2, h3, h4⟩
      · exact .inl ⟨h0.1, by rw [hl]; exact h0.2⟩
      · refine .inr ⟨b, cs, T, h1, h2, by rw [hl]; exact h3, fun i hi j d hd => ?_⟩
        rw [hl] at hi
        match j, hd with
        | 0, hd =>
          cases hd
          obtain ⟨ad, h5⟩ := hv i hi
          exact ⟨vs i, by rw [Nat.mul_one, Nat.add_zero]; exact h4 i hi, by rw [h5]; rfl, .val _ (by rw [h5]; rfl)⟩
    | 1, h =>
      cases h
      refine ⟨⟨hmu1, fun _ h => by cases h⟩, fun j hj => ?_⟩
      rw [hl] at hj
      obtain ⟨ad, h5⟩ := hv j hj
      refine ⟨ad, 0, ?_, ?_, fun i hi => ?_, .inl rfl⟩
      · rw [h5]; simp [jls, hj]
      · simp [jls, hj]
      · simp [jls, hj] at hi
  · match i, h1 with
    | 0, h1 => cases h1; cases h2
    | 1, h1 =>
      cases h1
      simp only [jF, fblk, hl] at h2
      split at h2
      · rename_i hj; rw [hbl j hj] at h2; cases h2
      · cases h2
theorem le_jfrz {nt : Nat} {e : List (Nat × D)} {wd : Nat} (c : α → List D) (l : List (List α)) (vs : Nat → Value) :
    Le ⟨nt, e, [jA l.length vs, jF wd c l vs]⟩ ⟨nt, e, [aL 1 (cl wd c) l, .fam 0 (fun _ => false) 0 wd vs (jls c l)]⟩ :=
  le_frF (idf := 1) rfl 0 1 l.length _ (fun i => cl wd c (l.getD i default)) rfl (fun _ _ => rfl) fun i hi j d' hd' => by
    match j, hd' with
    | 0, hd' => cases hd'; exact ⟨_, rfl, .inr ⟨i, hi, rfl, rfl⟩⟩
end
theorem am {a : Bool} {l : List Bool} (h : a = true) (k : ∀ b ∈ l, b = true) : ∀ b ∈ a :: l, b = true := fun b hb => (List.mem_cons.1 hb).elim (fun e => e ▸ h) (k b)
theorem le_jsame {nt : Nat} {e : List (Nat × D)} {α : Type} [Inhabited α] {rest : List Ob} {wd : Nat} (c : α → List D) (l : List (List α)) (vs : Nat → Value) (k : Nat) (x : List α) (m : Nat) (g : Nat → List D) (ls1 : Nat → Nat × (Nat → List D)) (vs1 : Nat → Value)
    (hvs : ∀ j, j ≠ k → vs1 j = vs j) (hls : ∀ j, j ≠ k → ls1 j = jls c l j) (hm : m = x.length) (hg : ∀ i, i < m → g i = c (x.getD i default)) :
    Le ⟨nt, e, jA l.length vs :: .fam 0 (fun _ => false) l.length wd (updV vs1 k (vs k)) (updL ls1 k (m, g)) :: rest⟩ ⟨nt, e, jA (l.set k x).length vs :: jF wd c (l.set k x) vs :: rest⟩ := by
  have h := le_jset (nt := nt) (e := e) (rest := rest) (wd := wd) c l vs k (vs k) x m g ls1 vs1 (fun j => [.val (vs j)]) (fun j _ => by
    by_cases h : j = k
    · subst h; rw [Nat.beq_refl]; rfl
    · rw [show Nat.beq j k = false by (cases hb : Nat.beq j k with | false => rfl | true => exact absurd (Nat.eq_of_beq_eq_true hb) h)]; rfl) hvs hls hm hg
  have e1 : updV vs k (vs k) = vs := by funext j; unfold updV; split <;> simp_all
  rw [e1] at h
  exact h
theorem then_leE {P : Program} {y : Code} {Q : Exit → St → Prop} {α : Type} {s : St} {S : α → St} (h : LeE s S) (k : ∀ x, AWP P y Q (S x)) : Then P y Q .normal s := awp_leE h k
theorem roundE_n {α β γ : Type} {S : α → γ → St} {O : β → Exit → St → Prop} {x : α} {s : St} (g : γ) (h : Le s (S x g)) : RoundE S O (.inl x) .normal s := ⟨rfl, LeE.of g h⟩
theorem roundE_e {α β γ : Type} {S : α → γ → St} {O : β → Exit → St → Prop} {y : β} {s : St} {id : Nat} (h : O y (.exit id) s) : RoundE S O (.inr y) (.exit id) s := ⟨by simp, h⟩
def OutL {α γ : Type} (id : Nat) (S : α → γ → St) (x : α) (e : Exit) (s : St) : Prop := e = .exit id ∧ LeE s (S x)
end Nv
namespace Nv
open Go
def clrL {α : Type} [Inhabited α] (l : List α) (off len : Nat) (z : α) : List α := (List.range l.length).map fun i => bif Nat.ble off i && Nat.blt i (off + len) then z else l.getD i default
theorem clrL_len {α : Type} [Inhabited α] (l : List α) (off len : Nat) (z : α) : l.length = (clrL l off len z).length := by simp [clrL]
theorem clrL_ext {α : Type} [Inhabited α] (c : α → List D) (l : List α) (off len : Nat) (z : α) (zs : List D) (h : zs = c z) : ∀ i, i < l.length → clrR zs off len (fun i => c (l.getD i default)) i = c ((clrL l off len z).getD i default) := by
  subst h
  intro i hi
  have e : (clrL l off len z).getD i default = bif Nat.ble off i && Nat.blt i (off + len) then z else l.getD i default := by simp [clrL, hi]
  rw [e]
  unfold clrR
  cases (Nat.ble off i && Nat.blt i (off + len)) <;> rfl
def OutM (P : Program) (fn : Func) (wd n : Nat) (g' : Nat → List D) (r : D) (e : Exit) (s : St) : Prop := e = .ret ∧ EndsM P fn wd n g' r .ret s
end Nv
