/- A region that draws its order and changes objects: the changes stand in one order among themselves and with whatever looks at memory. -/
import Derived.Test.YtmangnohekiphaaNvAwp
namespace Nv
open Go Go.RowKit

/-- Operations that look at no object. -/
def stillB : Op → Bool
  | .move _ | .assign _ | .binOp _ _ _ _ _ | .unOp _ _ _ | .convert _ _ _ | .fieldAddr _ _ _ | .field _ _ _ | .index _ _ _ | .pick _ _ _ | .extract _ _ | .build _ _ | .buildSlice _ _ _ => true
  | _ => false
/-- Operations that change or make objects. -/
def wrB : Op → Bool
  | .alloc _ | .box _ _ | .store _ _ _ | .makeSlice _ _ _ => true
  | .call { callee := .builtin .append, args := _, argTypes := _ } => true
  | _ => false
theorem still_not_wr {op : Op} (h : wrB op = true) : stillB op = false := by
  unfold wrB at h
  split at h <;> first | rfl | cases h
theorem opD_still {P : Program} {H : List Ob} (H' : List Ob) {ops : Array Oper} {env : List (Nat × D)} {al : List (Nat × Bool)} {orc : List Res} {g : Bool} {o : Oper} (h : stillB o.op = true) :
    opD P H ops env al orc g o = opD P H' ops env al orc g o := by
  unfold opD
  unfold stillB at h
  split at h <;> first | exact absurd h Bool.false_ne_true | (rename_i hop; simp only [hop, pureOp])

def stepDw (P : Program) (ops : Array Oper) (k : Nat) (H : List Ob) (env : List (Nat × D)) (orc : List Res) (o : Oper) : Option (D × List Ob × List Bool × List Req × List Res) :=
  match wrB o.op with
  | true => match o.guard, heapD P H (fun x => unwrap [] (evD env x)) o.op with
    | none, some (d, H', none, bs) => some (d, H', bs, [], orc)
    | _, _ => none
  | false => match stepDr P ops k H env orc o with
    | some (d, bs, rq, orc') => some (d, H, bs, rq, orc')
    | none => none
def runDw (P : Program) (nt : Nat) (ops : Array Oper) : Nat → List Oper → List (Nat × D) → List Ob → List Res → Option (List (Nat × D) × List Ob × List Bool × List Req × List Res)
  | _, [], env, H, orc => some (env, H, [], [], orc)
  | k, o :: l, env, H, orc => match stepDw P ops k H env orc o with
    | some (d, H1, bs, rq, orc1) => match putE nt o.dst d env with
      | some e => match runDw P nt ops (k + 1) l e H1 orc1 with
        | some (e', H', bs', rq', orc') => some (e', H', bs ++ bs', rq ++ rq', orc')
        | none => none
      | none => none
    | none => none

structure TraceW (P : Program) (nt : Nat) (ops : Array Oper) (bs : List Bool) (rq : List Req) (k n : Nat) (E : Nat → List (Nat × D)) (HH : Nat → List Ob) (V : Nat → D) : Prop where
  step : ∀ i, k ≤ i → i < n → ∃ o orc b r orc', ops[i]? = some o ∧ stepDw P ops i (HH i) (E i) orc o = some (V i, HH (i + 1), b, r, orc') ∧ (∀ x ∈ b, x ∈ bs) ∧ (∀ x ∈ r, x ∈ rq)
  put : ∀ i, k ≤ i → i < n → ∃ o, ops[i]? = some o ∧ putE nt o.dst (V i) (E i) = some (E (i + 1))

theorem traceW_of {P : Program} {nt : Nat} {ops : Array Oper} : ∀ (l : List Oper) (k : Nat) (env env' : List (Nat × D)) (H H' : List Ob) (orc orc' : List Res) (bs : List Bool) (rq : List Req), (∀ (j : Nat), l[j]? = ops[k + j]? ∨ l.length ≤ j) →
    runDw P nt ops k l env H orc = some (env', H', bs, rq, orc') → ∃ E HH V, E k = env ∧ HH k = H ∧ E (k + l.length) = env' ∧ HH (k + l.length) = H' ∧ TraceW P nt ops bs rq k (k + l.length) E HH V
  | [], k, env, env', H, H', orc, orc', bs, rq, _, h => by
    simp only [runDw, Option.some.injEq, Prod.mk.injEq] at h
    obtain ⟨rfl, rfl, rfl, rfl, rfl⟩ := h
    exact ⟨fun _ => env, fun _ => H, fun _ => .any, rfl, rfl, rfl, rfl, ⟨fun i h1 h2 => by simp at h2; omega, fun i h1 h2 => by simp at h2; omega⟩⟩
  | o :: l, k, env, env', H, H', orc, orc', bs, rq, hl, h => by
    simp only [runDw] at h
    split at h <;> try cases h
    rename_i d H1 b1 r1 orc1 hs
    split at h <;> try cases h
    rename_i e he
    split at h <;> try cases h
    rename_i b2 r2 hr
    have ho : ops[k]? = some o := by
      rcases hl 0 with h1 | h1
      · simpa using h1.symm
      · simp at h1
    obtain ⟨E, HH, V, hE, hH, hE', hH', hT⟩ := traceW_of l (k + 1) e env' H1 H' orc1 orc' b2 r2 (fun j => by
      rcases hl (j + 1) with h1 | h1
      · left; simpa [Nat.add_assoc, Nat.add_comm 1 j] using h1
      · right; simp at h1; exact h1) hr
    refine ⟨fun i => if i = k then env else E i, fun i => if i = k then H else HH i, fun i => if i = k then d else V i, by simp, by simp, ?_, ?_, ⟨fun i h1 h2 => ?_, fun i h1 h2 => ?_⟩⟩
    · simp only [List.length_cons]
      rw [if_neg (by omega), show k + (l.length + 1) = k + 1 + l.length by omega]
      exact hE'
    · simp only [List.length_cons]
      rw [if_neg (by omega), show k + (l.length + 1) = k + 1 + l.length by omega]
      exact hH'
    · by_cases hik : i = k
      · subst hik
        simp only [if_true]
        rw [if_neg (by omega), hH]
        exact ⟨o, orc, b1, r1, orc1, ho, hs, fun x hx => List.mem_append_left _ hx, fun x hx => List.mem_append_left _ hx⟩
      · simp only [if_neg hik]
        rw [if_neg (by omega)]
        obtain ⟨o', orc', b, r, orc'', h3, h4, h5, h6⟩ := hT.step i (by omega) (by simp at h2; omega)
        exact ⟨o', orc', b, r, orc'', h3, h4, fun x hx => List.mem_append_right _ (h5 x hx), fun x hx => List.mem_append_right _ (h6 x hx)⟩
    · by_cases hik : i = k
      · subst hik
        simp only [if_true]
        rw [if_neg (by omega)]
        exact ⟨o, ho, by rw [hE]; exact he⟩
      · simp only [if_neg hik]
        rw [if_neg (by omega)]
        exact hT.put i (by omega) (by simp at h2; omega)
/-- The trace of values alone. -/
theorem env_valW {P : Program} {nt : Nat} {ops : Array Oper} {bs : List Bool} {rq : List Req} {n : Nat} {E : Nat → List (Nat × D)} {HH : Nat → List Ob} {V : Nat → D} (hnd : dstsB ops = true) (hT : TraceW P nt ops bs rq 0 n E HH V) :
    ∀ k, k ≤ n → ∀ t, find (E k) t = valL ops V (E 0) (· < k) t
  | 0, _, t => by rw [valL_none]; intro i _ h; omega
  | k + 1, hk, t => by
    have ih := env_valW hnd hT k (by omega) t
    obtain ⟨o, ho, hp⟩ := hT.put k (by omega) (by omega)
    unfold putE at hp
    split at hp
    · rename_i hd
      simp only [Option.some.injEq] at hp
      rw [← hp, ih]
      refine valL_congr hnd fun i hi => ⟨fun h => by omega, fun h => ?_⟩
      rcases Nat.lt_or_ge i k with h1 | h1
      · exact h1
      · have : i = k := by omega
        subst this
        rw [ho] at hi
        simp [hd] at hi
    · rename_i u hd
      cases hlt : Nat.blt u nt with
      | false => simp [hlt] at hp
      | true =>
        simp only [hlt, cond_true, Option.some.injEq] at hp
        rw [← hp]
        simp only [find]
        have hdk : (ops[k]?).bind (·.dst) = some u := by rw [ho]; exact hd
        cases hut : Nat.beq u t with
        | true =>
          obtain rfl := Nat.eq_of_beq_eq_true hut
          simp only [cond_true]
          rw [valL_some hnd hdk (by omega)]
        | false =>
          simp only [cond_false]
          rw [ih]
          have hne : u ≠ t := Nat.ne_of_beq_eq_false hut
          refine valL_congr hnd fun i hi => ⟨fun h => by omega, fun h => ?_⟩
          rcases Nat.lt_or_ge i k with h1 | h1
          · exact h1
          · have : i = k := by omega
            subst this
            rw [hdk] at hi
            simp at hi
            exact absurd hi hne

/-- Whatever changes objects stands in one order with whatever looks at them. -/
def cmpB (ops : Array Oper) : Bool :=
  let M := Region.before ops
  ops.toList.zipIdx.all fun p => !wrB p.1.op || ops.toList.zipIdx.all fun q => stillB q.1.op || Nat.beq p.2 q.2 || bif Nat.blt q.2 p.2 then (M.getD p.2 0).testBit q.2 else (M.getD q.2 0).testBit p.2
theorem cmp_spec {ops : Array Oper} (h : cmpB ops = true) {w i : Nat} {ow oi : Oper} (hw : ops[w]? = some ow) (hi : ops[i]? = some oi) (h1 : wrB ow.op = true) (h2 : stillB oi.op = false) (hne : w ≠ i) :
    (i < w ∧ ((Region.before ops).getD w 0).testBit i = true) ∨ (w < i ∧ ((Region.before ops).getD i 0).testBit w = true) := by
  have a1 := List.all_eq_true.1 h (ow, w) (by rw [List.mem_zipIdx_iff_getElem?]; simpa using hw)
  simp only [h1, Bool.not_true, Bool.false_or] at a1
  have a2 := List.all_eq_true.1 a1 (oi, i) (by rw [List.mem_zipIdx_iff_getElem?]; simpa using hi)
  have e : Nat.beq w i = false := by
    cases hb : Nat.beq w i with
    | false => rfl
    | true => exact absurd (Nat.eq_of_beq_eq_true hb) hne
  simp only [h2, e, Bool.false_or] at a2
  cases hlt : Nat.blt i w with
  | true => rw [hlt] at a2; exact .inl ⟨blt_true hlt, a2⟩
  | false =>
    rw [hlt] at a2
    refine .inr ⟨?_, a2⟩
    rcases Nat.lt_or_ge i w with h3 | h3
    · have : Nat.blt i w = true := Nat.ble_eq_true_of_le h3
      rw [this] at hlt; cases hlt
    · omega
/-- Where nothing is changed the objects stay. -/
theorem same_heap {P : Program} {nt : Nat} {ops : Array Oper} {bs : List Bool} {rq : List Req} {n : Nat} {E : Nat → List (Nat × D)} {HH : Nat → List Ob} {V : Nat → D} (hT : TraceW P nt ops bs rq 0 n E HH V) {p : Nat} :
    ∀ (m : Nat), p + m ≤ n → (∀ w o, p ≤ w → w < p + m → ops[w]? = some o → wrB o.op = false) → HH (p + m) = HH p
  | 0, _, _ => rfl
  | m + 1, hn, h => by
    have ih := same_heap hT (p := p) m (by omega) fun w o h1 h2 => h w o h1 (by omega)
    obtain ⟨o, orc, b, r, orc', ho, hs, _⟩ := hT.step (p + m) (Nat.zero_le _) (by omega)
    have hw := h (p + m) o (by omega) (by omega) ho
    unfold stepDw at hs
    rw [hw] at hs
    simp only at hs
    split at hs
    · simp only [Option.some.injEq, Prod.mk.injEq] at hs
      exact hs.2.1.symm.trans ih
    · cases hs

structure DWInv (F : Fr) (nt : Nat) (ops : Array Oper) (HH : Nat → List Ob) (V : Nat → D) (env0 : List (Nat × D)) (listed : Array Bool) (a : Act) (c : Ctx) : Prop where
  H : ∃ q, q ≤ ops.size ∧ c.H = HH q ∧ (∀ w o, ops[w]? = some o → wrB o.op = true → w < q → listed.getD w false = true) ∧ (∀ w o, ops[w]? = some o → wrB o.op = true → q ≤ w → listed.getD w false = false)
  inv : Inv F c
  env : ∀ t, GV (yielded ops a.tmps) c (a.tmps.getD t undef) (valL ops V env0 (fun i => listed.getD i false = true) t)
  size : a.tmps.size = nt
  defers : a.defers = []
  opt : ∀ t j w d, valL ops V env0 (fun i => listed.getD i false = true) t = .opt j w d → listed.getD j false = true
  lsize : listed.size = ops.size
  closed : ∀ i j, Waits ops i j → listed.getD i false = true → listed.getD j false = true

/-- **A region that draws its order and changes objects**: every order gives what the text's order gives. -/
theorem drawW_sound {P : Program} {F : Fr} {nt : Nat} {ops : Array Oper} {bs : List Bool} {rq : List Req} {E : Nat → List (Nat × D)} {HH : Nat → List Ob} {V : Nat → D} (hfl : flowB ops = true) (hcm : cmpB ops = true)
    (hT : TraceW P nt ops bs rq 0 ops.size E HH V) (hb : ∀ b ∈ bs, b = true) (hq : ∀ q ∈ rq, q.ok P) {Q : Exit → Act → World → Prop} (orc : List Res)
    (hQ : ∀ a c, RInv F nt ops ops.size ⟨E ops.size, HH ops.size, orc⟩ a c → Q .normal a c.w) :
    ∀ (fuel : Nat) (listed : Array Bool) (a : Act) (c : Ctx), DWInv F nt ops HH V (E 0) listed a c → cnt listed + fuel = ops.size → wpAny P .any ops Q fuel listed a c.w := by
  simp only [flowB, Bool.and_eq_true, List.all_eq_true] at hfl
  obtain ⟨hnd, hfl⟩ := hfl
  have flow : ∀ i o, ops[i]? = some o → flowAt ops (Region.before ops) i o = true := fun i o ho => by
    have hlt := (Array.getElem?_eq_some_iff.1 ho).1
    refine hfl (o, i) ?_
    rw [List.mem_zipIdx_iff_getElem?]
    simpa using ho
  have fin : ∀ (listed : Array Bool) a c, DWInv F nt ops HH V (E 0) listed a c → (∀ i, i < ops.size → listed.getD i false = true) → Q .normal a c.w := fun listed a c hD hall => by
    have hval : ∀ t, find (E ops.size) t = valL ops V (E 0) (fun i => listed.getD i false = true) t := fun t => by
      rw [env_valW hnd hT ops.size (Nat.le_refl _) t]
      refine valL_congr hnd fun i hi => ⟨fun h => hall i h, fun _ => ?_⟩
      obtain ⟨o, ho, _⟩ := Option.bind_eq_some_iff.1 hi
      exact (Array.getElem?_eq_some_iff.1 ho).1
    have hHf : c.H = HH ops.size := by
      obtain ⟨q, hq1, hq2, hq3, hq4⟩ := hD.H
      rw [hq2]
      have := same_heap hT (p := q) (ops.size - q) (by omega) fun w o h1 h2 ho => by
        cases hw : wrB o.op with
        | false => rfl
        | true =>
          have h3 := hq4 w o ho hw h1
          rw [hall w (by omega)] at h3; cases h3
      rw [show q + (ops.size - q) = ops.size by omega] at this
      exact this.symm
    refine hQ a c ⟨hHf, hD.inv, fun t => ?_, hD.size, hD.defers, fun t j w d hf => ?_⟩
    · show GV _ _ _ (find (E ops.size) t)
      rw [hval]; exact hD.env t
    · have hf : find (E ops.size) t = .opt j w d := hf
      rw [hval] at hf
      have := hD.opt t j w d hf
      rcases Nat.lt_or_ge j listed.size with h | h
      · rw [hD.lsize] at h; exact h
      · simp [Array.getElem?_eq_none h] at this
  -- nothing is ready: all are listed
  have stuckAll : ∀ (listed : Array Bool), listed.size = ops.size → Region.ready .any ops listed = [] → ∀ i, i < ops.size → listed.getD i false = true := by
    intro listed hls hr i
    induction i using Nat.strongRecOn with
    | _ i ih =>
      intro hi
      cases hl : listed.getD i false with
      | true => rfl
      | false =>
        exfalso
        have : i ∈ Region.ready .any ops listed := by
          rw [mem_ready]
          refine ⟨by simp [hls, hi] at hl ⊢; exact hl, ops[i], by simp [hi], fun e he hbi => ?_⟩
          have h1 := flow i ops[i] (by simp [hi])
          simp only [flowAt, Bool.and_eq_true] at h1
          have h2 := Array.all_eq_true'.1 h1.1.1 e he
          simp only [hbi, Bool.not_true, Bool.false_or] at h2
          have h3 := blt_true h2
          exact ih e.on h3 (by omega)
        rw [hr] at this
        cases this
  intro fuel
  induction fuel with
  | zero =>
    intro listed a c hD hcnt
    have hall : ∀ i, i < ops.size → listed.getD i false = true := by
      have := cnt_full (listed := listed) (by rw [hD.lsize]; omega)
      rw [hD.lsize] at this
      exact this
    refine ⟨?_, fin listed a c hD hall⟩
    cases hr : Region.ready .any ops listed with
    | nil => rfl
    | cons i r =>
      exfalso
      have : i ∈ Region.ready .any ops listed := by rw [hr]; exact List.mem_cons_self
      obtain ⟨h1, o, ho, _⟩ := mem_ready.1 this
      have hi := (Array.getElem?_eq_some_iff.1 ho).1
      have h2 := hall i hi
      simp [hD.lsize, hi] at h1 h2
      rw [h1] at h2
      cases h2
  | succ fuel ih =>
    intro listed a c hD hcnt
    refine ⟨fun hr => fin listed a c hD (stuckAll listed hD.lsize hr), fun i hi => ?_⟩
    obtain ⟨hun, o, ho, hall⟩ := mem_ready.1 hi
    have hilt := (Array.getElem?_eq_some_iff.1 ho).1
    have hunf : listed.getD i false = false := by simp [hD.lsize, hilt] at hun ⊢; exact hun
    have hwaits : ∀ j, Waits ops i j → listed.getD j false = true := fun j ⟨o', ho', e, he, hbi, hon⟩ => by
      rw [ho] at ho'
      cases ho'
      rw [← hon]
      exact hall e he hbi
    obtain ⟨o', orc0, b, r, orc1, ho', hstep, hb1, hr1⟩ := hT.step i (Nat.zero_le _) hilt
    rw [ho] at ho'
    cases ho'
    have reach : ∀ k l, k < ops.size → ((Region.before ops).getD k 0).testBit l = true → listed.getD k false = true → listed.getD l false = true := fun k l hk hb2 hl =>
      closed_reach hD.closed (before_reach ops k l hk hb2) (fun j hj => hD.closed _ _ hj hl)
    have reachI : ∀ l, ((Region.before ops).getD i 0).testBit l = true → listed.getD l false = true := fun l hb2 => closed_reach hD.closed (before_reach ops i l hilt hb2) hwaits
    -- the objects are those of the text's order, where they are looked at
    have hHi : stillB o.op = false → c.H = HH i := fun hst => by
      obtain ⟨q, hq1, hq2, hq3, hq4⟩ := hD.H
      rw [hq2]
      rcases Nat.lt_or_ge i q with hiq | hiq
      · have := same_heap hT (p := i) (q - i) (by omega) fun w ow h1 h2 how => by
          cases hw : wrB ow.op with
          | false => rfl
          | true =>
            have hwl := (Array.getElem?_eq_some_iff.1 how).1
            have h3 := hq3 w ow how hw (by omega)
            have hne : w ≠ i := fun e => by subst e; rw [hunf] at h3; cases h3
            rcases cmp_spec hcm how ho hw hst hne with ⟨_, h5⟩ | ⟨h4, _⟩
            · rw [reach w i hwl h5 h3] at hunf; cases hunf
            · omega
        rw [show i + (q - i) = q by omega] at this
        exact this
      · have := same_heap hT (p := q) (i - q) (by omega) fun w ow h1 h2 how => by
          cases hw : wrB ow.op with
          | false => rfl
          | true =>
            have h3 := hq4 w ow how hw h1
            have hne : w ≠ i := by omega
            rcases cmp_spec hcm how ho hw hst hne with ⟨h4, _⟩ | ⟨_, h5⟩
            · omega
            · rw [reachI w h5] at h3; cases h3
        rw [show q + (i - q) = i by omega] at this
        exact this.symm
    have hfa := flow i o ho
    simp only [flowAt, Bool.and_eq_true] at hfa
    obtain ⟨⟨hf1, hf2⟩, hf3⟩ := hfa
    -- what the operation looks at has its value of the text's order
    have same : ∀ t ∈ needs ops o, valL ops V (E 0) (fun i => listed.getD i false = true) t = find (E i) t := fun t ht => by
      rw [env_valW hnd hT i (by omega) t]
      refine valL_congr hnd fun k hk => ?_
      have h1 := List.all_eq_true.1 hf3 t ht
      obtain ⟨ok, hok, hdk⟩ := Option.bind_eq_some_iff.1 hk
      have hklt := (Array.getElem?_eq_some_iff.1 hok).1
      have h2 := List.all_eq_true.1 h1 (ok, k) (by rw [List.mem_zipIdx_iff_getElem?]; simpa using hok)
      simp only [hdk] at h2
      have e1 : Nat.beq t t = true := Nat.beq_refl t
      rw [e1] at h2
      simp only [Bool.not_true, Bool.false_or, Bool.or_eq_true, Bool.and_eq_true] at h2
      rcases h2 with (h2 | ⟨h2, h3⟩) | ⟨h2, h3⟩
      · obtain rfl := Nat.eq_of_beq_eq_true h2
        exact ⟨fun h => (by rw [hunf] at h; cases h), fun h => by omega⟩
      · exact ⟨fun _ => blt_true h2, fun _ => closed_reach hD.closed (before_reach ops i k hilt h3) hwaits⟩
      · have hik := blt_true h2
        refine ⟨fun h => ?_, fun h => by omega⟩
        have := closed_reach hD.closed (before_reach ops k i hklt h3) (fun j hj => hD.closed _ _ hj h)
        rw [hunf] at this
        cases this
    have hops : ∀ x ∈ o.op.operands.toList, GV (yielded ops a.tmps) c (a.eval x) (evD (E i) x) := fun x hx => by
      cases x with
      | tmp t =>
        show GV _ _ _ (find (E i) t)
        rw [← same t (by simp only [needs, List.mem_append, List.mem_filterMap]; exact .inl ⟨.tmp t, hx, rfl⟩)]
        exact hD.env t
      | const v => exact gv_of_tv (tv_dv c v)
      | global g => exact gv_of_tv tv_any
      | func f => exact gv_of_tv ⟨#[], rfl, rfl, fun i v d h1 _ => by simp at h1⟩
    have hgf : GuardFacts ops a c (E i) (gch ops 20 o.guard) := fun p hp t ht => by
      rw [← same t (by simp only [needs, List.mem_append, List.mem_filterMap]; exact .inr ⟨p, hp, ht⟩)]
      exact hD.env t
    -- the new state
    have newH : wrB o.op = false → ∀ c' : Ctx, c'.H = c.H → ∃ q, q ≤ ops.size ∧ c'.H = HH q ∧ (∀ w ow, ops[w]? = some ow → wrB ow.op = true → w < q → (listed.setIfInBounds i true).getD w false = true) ∧ (∀ w ow, ops[w]? = some ow → wrB ow.op = true → q ≤ w → (listed.setIfInBounds i true).getD w false = false) := fun hwo c' hc' => by
      obtain ⟨q, hq1, hq2, hq3, hq4⟩ := hD.H
      have hne : ∀ w ow, ops[w]? = some ow → wrB ow.op = true → i ≠ w := fun w ow how hw e => by subst e; rw [ho] at how; cases how; rw [hwo] at hw; cases hw
      exact ⟨q, hq1, hc'.trans hq2, fun w ow how hw hwq => by rw [getD_set_ne false (hne w ow how hw)]; exact hq3 w ow how hw hwq, fun w ow how hw hwq => by rw [getD_set_ne false (hne w ow how hw)]; exact hq4 w ow how hw hwq⟩
    have new : ∀ v c', Inv F c' → (∃ q, q ≤ ops.size ∧ c'.H = HH q ∧ (∀ w ow, ops[w]? = some ow → wrB ow.op = true → w < q → (listed.setIfInBounds i true).getD w false = true) ∧ (∀ w ow, ops[w]? = some ow → wrB ow.op = true → q ≤ w → (listed.setIfInBounds i true).getD w false = false)) →
        (∀ u e, TV c u e → TV c' u e) → (∀ d, V i = d → GV (yielded ops (a.put o.dst v).tmps) c' v d) → (∀ j w d, V i = .opt j w d → listed.getD j false = true) →
        wpAny P .any ops Q fuel (listed.setIfInBounds i true) (a.put o.dst v) c'.w := fun v c' hI' hHn htr hv hvo => by
      have hL : ∀ j, (listed.setIfInBounds i true).getD j false = true ↔ j = i ∨ listed.getD j false = true := fun j => by
        by_cases hji : j = i
        · subst hji; simp [hD.lsize, hilt]
        · rw [getD_set_ne false (Ne.symm hji)]; simp [hji]
      have hvalo : ∀ t, (∀ u, o.dst = some u → u ≠ t) → valL ops V (E 0) (fun j => (listed.setIfInBounds i true).getD j false = true) t = valL ops V (E 0) (fun j => listed.getD j false = true) t := fun t ht => by
        refine valL_congr hnd fun k hk => ?_
        show (listed.setIfInBounds i true).getD k false = true ↔ _
        rw [hL]
        refine ⟨fun h => ?_, .inr⟩
        rcases h with rfl | h
        · rw [ho] at hk
          exact absurd rfl (ht t hk)
        · exact h
      have hyj : ∀ j, listed.getD j false = true → yielded ops (a.put o.dst v).tmps j = yielded ops a.tmps j := fun j hj => yielded_put fun t ht e => by
        have := dsts_spec hnd (show (ops[i]?).bind (·.dst) = some t by rw [ho]; exact ht) e
        subst this
        rw [hunf] at hj
        cases hj
      have keep : ∀ t, GV (yielded ops (a.put o.dst v).tmps) c' (a.tmps.getD t undef) (valL ops V (E 0) (fun j => listed.getD j false = true) t) := fun t => by
        have h1 := gv_trans htr (hD.env t)
        cases hf : valL ops V (E 0) (fun j => listed.getD j false = true) t <;> rw [hf] at h1 <;> try exact h1
        rename_i j w d
        simp only [GV] at h1 ⊢
        rw [hyj j (hD.opt t j w d hf)]
        exact h1
      refine ih _ _ c' ⟨hHn, hI', fun t => ?_, by rw [size_put]; exact hD.size, by rw [defers_put]; exact hD.defers, fun t j w d hf => ?_, by simp [hD.lsize], fun p q hpq hp => ?_⟩ ?_
      · by_cases hdt : o.dst = some t
        · have hit : (ops[i]?).bind (·.dst) = some t := by rw [ho]; exact hdt
          rw [valL_some hnd hit ((hL i).2 (.inl rfl))]
          have htl : t < a.tmps.size := by
            obtain ⟨o2, ho2, hp⟩ := hT.put i (Nat.zero_le _) hilt
            rw [ho] at ho2
            cases ho2
            rw [hdt] at hp
            simp only [putE] at hp
            cases hlt : Nat.blt t nt with
            | false => simp [hlt] at hp
            | true => rw [hD.size]; exact blt_true hlt
          have e : (a.put o.dst v).tmps.getD t undef = v := by rw [hdt]; exact getD_put_same htl
          rw [e]
          exact hv _ rfl
        · rw [hvalo t (fun u hu e => hdt (by rw [hu, e])), getD_put hdt]
          exact keep t
      · rw [hL]
        right
        by_cases hdt : o.dst = some t
        · have hit : (ops[i]?).bind (·.dst) = some t := by rw [ho]; exact hdt
          rw [valL_some hnd hit ((hL i).2 (.inl rfl))] at hf
          exact hvo j w d hf
        · rw [hvalo t (fun u hu e => hdt (by rw [hu, e]))] at hf
          exact hD.opt t j w d hf
      · rw [hL] at hp ⊢
        right
        rcases hp with rfl | hp
        · exact hwaits q hpq
        · exact hD.closed p q hpq hp
      · rw [cnt_set (by rw [hD.lsize]; exact hilt) hunf]
        omega
    unfold wpOp
    simp only [ho]
    unfold stepDw at hstep
    cases hwr : wrB o.op with
    | true =>
      rw [hwr] at hstep
      simp only at hstep
      split at hstep <;> try cases hstep
      rename_i hgd hheap
      have hw : Region.wanted o (yielded ops a.tmps) = true := by simp [Region.wanted, hgd]
      simp only [hw, if_true]
      have hst := still_not_wr hwr
      have hρ : ∀ x ∈ o.op.operands.toList, TV c (a.eval x) (unwrap [] (evD (E i) x)) := fun x hx => unwrap_ok (a := a) (ops := ops) (by simp) (hops x hx)
      obtain ⟨v, c', hrun', hI', hH', htr, htv⟩ := heapD_ok (ρc := a.eval) hD.inv hρ (by rw [hHi hst]; exact hheap) (fun b hb' => hb b (hb1 b hb'))
      have hnew := new v c' hI' ⟨i + 1, by omega, hH', fun w ow how hw hwq => by
          rcases Nat.lt_or_ge w i with h1 | h1
          · rw [getD_set_ne false (by omega)]
            rcases cmp_spec hcm how ho hw hst (by omega) with ⟨h4, _⟩ | ⟨_, h5⟩
            · omega
            · exact reachI w h5
          · have : w = i := by omega
            subst this
            simp [hD.lsize, hilt], fun w ow how hw hwq => by
          rw [getD_set_ne false (by omega)]
          cases hl : listed.getD w false with
          | false => rfl
          | true =>
            have hwl := (Array.getElem?_eq_some_iff.1 how).1
            rcases cmp_spec hcm how ho hw hst (by omega) with ⟨_, h5⟩ | ⟨h4, _⟩
            · rw [reach w i hwl h5 hl] at hunf; cases hunf
            · omega⟩ (fun u e h => htr u e h) (fun d' hd' => by rw [← hd']; exact gv_of_tv htv) (fun j w d' h => by
          rw [h] at htv
          simp only [TV, AV] at htv
          exact absurd htv cv_not_opt)
      refine .inl ?_
      unfold Oper.wp
      rcases hrun' with h1 | ⟨h1, rfl⟩
      · rw [h1]; exact hnew
      · rw [h1]; exact hnew
    | false =>
    rw [hwr] at hstep
    simp only at hstep
    split at hstep
    case h_2 => cases hstep
    rename_i d0 b0 r0 o0 hstep0
    simp only [Option.some.injEq, Prod.mk.injEq] at hstep
    obtain ⟨hV0, _, rfl, rfl, rfl⟩ := hstep
    rw [hV0] at hstep0
    rename_i hstep
    have hstep := hstep0
    unfold stepDr at hstep
    split at hstep <;> try cases hstep
    rename_i g hg
    have hopc : ∀ {x}, opD P (HH i) ops (E i) (gch ops 20 o.guard) orc0 g o = x → opD P c.H ops (E i) (gch ops 20 o.guard) orc0 g o = x := fun {x} h => by
      cases hst : stillB o.op with
      | true => rw [opD_still (HH i) hst]; exact h
      | false => rw [hHi hst]; exact h
    split at hstep
    · rename_i d bs0 rq0 orc2 j want hop hgd
      cases hlt : Nat.blt j i with
      | false => simp [hlt] at hstep
      | true =>
        simp only [hlt, cond_true, Option.some.injEq, Prod.mk.injEq] at hstep
        obtain ⟨hV, rfl, rfl, rfl⟩ := hstep
        have hji := blt_true hlt
        have hyj : ∀ v, yielded ops (a.put o.dst v).tmps j = yielded ops a.tmps j := fun v => yielded_put fun t ht e => by
          have := dsts_spec hnd (show (ops[i]?).bind (·.dst) = some t by rw [ho]; exact ht) e
          omega
        have hjl : listed.getD j false = true := by
          rw [hgd] at hf2
          simp only at hf2
          obtain ⟨e, he, h1⟩ := Array.any_eq_true'.1 hf2
          simp only [Bool.and_eq_true] at h1
          rw [← Nat.eq_of_beq_eq_true h1.2]
          exact hall e he h1.1
        have hwant : Region.wanted o (yielded ops a.tmps) = (yielded ops a.tmps j == some want) := by simp [Region.wanted, hgd]
        have hvo : ∀ j' w d', V i = .opt j' w d' → listed.getD j' false = true := fun j' w d' h => by rw [← hV] at h; cases h; exact hjl
        cases hw : Region.wanted o (yielded ops a.tmps) with
        | true =>
          simp only [if_true]
          refine .inl (op_sound hD.inv hops hgf hg hw (hopc hop) (fun b hb' => hb b (hb1 b hb')) (fun q hq' => hq q (hr1 q hq')) fun v c' hI' haf => ?_)
          obtain ⟨hgo, _, htv⟩ := haf
          refine new v c' hI' (newH hwr c' hgo.H) (fun _ _ => hgo.tv) (fun d' hd' => ?_) hvo
          rw [← hd', ← hV]
          refine .inl ⟨?_, htv⟩
          rw [hyj]
          rw [hw] at hwant
          simpa using hwant.symm
        | false =>
          simp only [Bool.false_eq_true, if_false]
          refine new undef c hD.inv (newH hwr c rfl) (fun _ _ h => h) (fun d' hd' => ?_) hvo
          rw [← hd', ← hV]
          refine .inr ⟨?_, rfl⟩
          rw [hyj]
          rw [hw] at hwant
          simpa using hwant.symm
    · rename_i d bs0 rq0 orc2 hop hgd
      simp only [Option.some.injEq, Prod.mk.injEq] at hstep
      obtain ⟨hV, rfl, rfl, rfl⟩ := hstep
      have hw : Region.wanted o (yielded ops a.tmps) = true := by simp [Region.wanted, hgd]
      simp only [hw, if_true]
      refine .inl (op_sound hD.inv hops hgf hg hw (hopc hop) (fun b hb' => hb b (hb1 b hb')) (fun q hq' => hq q (hr1 q hq')) fun v c' hI' haf => ?_)
      obtain ⟨hgo, _, htv⟩ := haf
      refine new v c' hI' (newH hwr c' hgo.H) (fun _ _ => hgo.tv) (fun d' hd' => ?_) (fun j w d' h => ?_)
      · rw [← hd', ← hV]; exact gv_of_tv htv
      · rw [← hV] at h
        subst h
        simp only [TV, AV] at htv
        exact absurd htv cv_not_opt
    · cases hstep

def regW (P : Program) (ops : Array Oper) (orc : List Res) (keep : List Nat) (hn : Nat) (s : St) : Option (St × List Bool × List Req) :=
  bif flowB ops && P.follows .mixedOrders && cmpB ops then
    (match runDw P s.nt ops 0 ops.toList s.env s.H orc with
    | some (env', H', bs, rq, _) => (cutS hn ⟨s.nt, fin env' keep, H'⟩).map fun s' => (s', bs, rq)
    | none => none) else none
theorem awp_regionW {P : Program} {Q : Exit → St → Prop} {s : St} {id : Nat} {ops : Array Oper} (orc : List Res) (keep : List Nat) (hn : Nat) {s' : St} {bs : List Bool} {rq : List Req}
    (h : regW P ops orc keep hn s = some (s', bs, rq)) (hb : ∀ b ∈ bs, b = true) (hq : ∀ q ∈ rq, q.ok P) (k : Q .normal s') : AWP P (.region id ops true) Q s := by
  rintro F a w ⟨c, rfl, hH, hI, henv, hsz, hd⟩
  unfold regW at h
  cases hc : (flowB ops && P.follows .mixedOrders && cmpB ops) with
  | false => rw [hc] at h; cases h
  | true =>
    rw [hc] at h
    simp only [cond_true] at h
    simp only [Bool.and_eq_true] at hc
    split at h <;> try cases h
    rename_i env' H' bs0 rq0 orc0 hrun
    obtain ⟨s1, hcut, heq⟩ := Option.map_eq_some_iff.1 h
    simp only [Prod.mk.injEq] at heq
    obtain ⟨rfl, rfl, rfl⟩ := heq
    refine wp_region_any hc.1.2 ?_
    obtain ⟨E, HH, V, hE0, hH0, hE1, hH1, hT⟩ := traceW_of ops.toList 0 s.env env' s.H H' orc orc0 bs0 rq0 (fun j => .inl (by simp)) hrun
    simp only [Array.length_toList, Nat.zero_add] at hE1 hH1 hT
    let c' : Ctx := { c with w := c.w.drew }
    have hgo : Goes c c' := ⟨rfl, rfl, fun _ h => h, fun _ _ => rfl, fun b hb => (hI.imm b hb).1, fun id b hb => (hI.loc id b hb).2.1⟩
    have hI' : Inv F c' := hI.goes hgo (Below.refl _ _).drew (fun _ h => .inl h)
    have hnone : ∀ i, ¬ (Array.replicate ops.size false).getD i false = true := fun i h => by rw [getD_rep_false] at h; cases h
    have hval : ∀ t, valL ops V (E 0) (fun i => (Array.replicate ops.size false).getD i false = true) t = find s.env t := fun t => by rw [valL_none (fun i _ => hnone i), hE0]
    have hD : DWInv F s.nt ops HH V (E 0) (Array.replicate ops.size false) a c' := by
      refine ⟨⟨0, Nat.zero_le _, hH.trans hH0.symm, fun w o _ _ h => by omega, fun w o _ _ _ => by rw [getD_rep_false]⟩, hI', fun t => ?_, hsz, hd, fun t j w d hf => ?_, by simp, fun i j _ h => absurd h (hnone i)⟩
      · rw [hval]; exact gv_of_tv (hgo.tv (henv t))
      · rw [hval] at hf
        have := henv t
        rw [hf] at this
        simp only [TV, AV] at this
        exact absurd this cv_not_opt
    refine drawW_sound hc.1.1 hc.2 hT hb hq [] (fun a' c'' hR => ⟨s1, k, ?_⟩) ops.size _ a c' hD (by simp [cnt, List.countP_replicate])
    have hR' := rinv_fin hR keep
    have e1 : E ops.size = env' := hE1
    have e2 : HH ops.size = H' := hH1
    simp only [e1, e2] at hR'
    exact le_cut hcut F a' c''.w hR'
end Nv
