/- A region that draws its order: its operations read, compute and call; whatever order is drawn, the values are the text order's. -/
import Derived.Test.YtmangnohekiphaaNvSeq
namespace Nv
open Go Go.RowKit

/-! which operation waits for which -/
def Waits (ops : Array Oper) (i j : Nat) : Prop := ∃ o, ops[i]? = some o ∧ ∃ e ∈ o.after, Region.binds .any e = true ∧ e.on = j
inductive Reach (ops : Array Oper) : Nat → Nat → Prop
  | one {i j : Nat} (h : Waits ops i j) : Reach ops i j
  | step {i j k : Nat} (h : Waits ops i j) (r : Reach ops j k) : Reach ops i k

def maskOf (acc : Array Nat) (o : Oper) : Nat := o.after.foldl (fun s e => if Region.binds .any e then s ||| 2 ^ e.on ||| acc.getD e.on 0 else s) 0
theorem mask_list (acc : Array Nat) : ∀ (l : List Edge) (s0 k : Nat), (l.foldl (fun s e => if Region.binds .any e then s ||| 2 ^ e.on ||| acc.getD e.on 0 else s) s0).testBit k = true →
    s0.testBit k = true ∨ ∃ e ∈ l, Region.binds .any e = true ∧ (e.on = k ∨ (acc.getD e.on 0).testBit k = true)
  | [], s0, k, h => .inl h
  | e :: l, s0, k, h => by
    simp only [List.foldl_cons] at h
    rcases mask_list acc l _ k h with h1 | ⟨e', he', h2⟩
    · split at h1
      · rename_i hb
        simp only [Nat.testBit_or, Bool.or_eq_true, Nat.testBit_two_pow, decide_eq_true_eq] at h1
        rcases h1 with (h1 | h1) | h1
        · exact .inl h1
        · exact .inr ⟨e, List.mem_cons_self, hb, .inl h1⟩
        · exact .inr ⟨e, List.mem_cons_self, hb, .inr h1⟩
      · exact .inl h1
    · exact .inr ⟨e', List.mem_cons_of_mem _ he', h2⟩
theorem mask_bit {acc : Array Nat} {o : Oper} {k : Nat} (h : (maskOf acc o).testBit k = true) : ∃ e ∈ o.after, Region.binds .any e = true ∧ (e.on = k ∨ (acc.getD e.on 0).testBit k = true) := by
  unfold maskOf at h
  rw [← Array.foldl_toList] at h
  rcases mask_list acc o.after.toList 0 k h with h1 | ⟨e, he, h2⟩
  · simp at h1
  · exact ⟨e, Array.mem_toList_iff.1 he, h2⟩

theorem before_list : ∀ (l : List Oper) (acc : Array Nat), ∃ out : Array Nat, l.foldl (fun acc o => acc.push (maskOf acc o)) acc = out ∧ out.size = acc.size + l.length ∧
    (∀ j, j < acc.size → out.getD j 0 = acc.getD j 0) ∧ (∀ (i : Nat) (o : Oper), l[i]? = some o → ∃ pre : Array Nat, pre.size = acc.size + i ∧ (∀ j, j < pre.size → pre.getD j 0 = out.getD j 0) ∧ out.getD (acc.size + i) 0 = maskOf pre o)
  | [], acc => ⟨acc, rfl, by simp, fun _ _ => rfl, fun i o h => by simp at h⟩
  | o :: l, acc => by
    obtain ⟨out, h1, h2, h3, h4⟩ := before_list l (acc.push (maskOf acc o))
    refine ⟨out, by rw [List.foldl_cons]; exact h1, by rw [h2]; simp; omega, fun j hj => ?_, fun i o' hi => ?_⟩
    · rw [h3 j (by simp; omega)]
      simp [Array.getElem?_push, hj, Nat.ne_of_lt hj]
    · cases i with
      | zero =>
        simp at hi
        subst hi
        refine ⟨acc, rfl, fun j hj => ?_, ?_⟩
        · rw [h3 j (by simp; omega)]
          simp [Array.getElem?_push, hj, Nat.ne_of_lt hj]
        · rw [h3 _ (by simp)]
          simp
      | succ i =>
        obtain ⟨pre, hp1, hp2, hp3⟩ := h4 i o' (by simpa using hi)
        refine ⟨pre, by rw [hp1]; simp; omega, hp2, ?_⟩
        rw [← hp3]
        congr 1
        simp
        omega

theorem before_reach (ops : Array Oper) : ∀ (i k : Nat), i < ops.size → ((Region.before ops).getD i 0).testBit k = true → Reach ops i k := by
  obtain ⟨out, h1, h2, h3, h4⟩ := before_list ops.toList #[]
  have hb : Region.before ops = out := by
    unfold Region.before
    rw [← Array.foldl_toList]
    exact h1
  rw [hb]
  intro i
  induction i using Nat.strongRecOn with
  | _ i ih =>
    intro k hi hk
    obtain ⟨pre, hp1, hp2, hp3⟩ := h4 i ops[i] (by simp [hi])
    simp only [Array.size_empty, Nat.zero_add] at hp1 hp3
    rw [hp3] at hk
    obtain ⟨e, he, hbi, hor⟩ := mask_bit hk
    have hw : Waits ops i e.on := ⟨ops[i], by simp [hi], e, he, hbi, rfl⟩
    rcases hor with rfl | hor
    · exact .one hw
    · have hlt : e.on < i := by
        rcases Nat.lt_or_ge e.on pre.size with h | h
        · omega
        · simp [Array.getElem?_eq_none h] at hor
      rw [hp2 _ (by omega)] at hor
      exact .step hw (ih e.on hlt k (by omega) hor)

/-- What an operation looks at: its operands' temporaries and its guards'. -/
def needs (ops : Array Oper) (o : Oper) : List Nat :=
  (o.op.operands.toList.filterMap fun | .tmp t => some t | _ => none) ++ ((gch ops 20 o.guard).filterMap fun p => (ops[p.1]?).bind (·.dst))

def flowAt (ops : Array Oper) (M : Array Nat) (i : Nat) (o : Oper) : Bool :=
  o.after.all (fun e => !Region.binds .any e || Nat.blt e.on i) &&
  (match o.guard with | none => true | some (j, _) => o.after.any fun e => Region.binds .any e && Nat.beq e.on j) &&
  ((needs ops o).all fun t => ops.toList.zipIdx.all fun p => match p.1.dst with
    | some u => !Nat.beq u t || Nat.beq p.2 i || (Nat.blt p.2 i && (M.getD i 0).testBit p.2) || (Nat.blt i p.2 && (M.getD p.2 0).testBit i)
    | none => true)
def flowB (ops : Array Oper) : Bool :=
  dstsB ops && (let M := Region.before ops; ops.toList.zipIdx.all fun p => flowAt ops M p.2 p.1)

/-! the values in the text's order -/
def stepDr (P : Program) (ops : Array Oper) (k : Nat) (H : List Ob) (env : List (Nat × D)) (orc : List Res) (o : Oper) : Option (D × List Bool × List Req × List Res) :=
  match gEval ops env (gch ops 20 o.guard) with
  | none => none
  | some g => match opD P H ops env (gch ops 20 o.guard) orc g o, o.guard with
    | some (.pure d, bs, rq, orc'), some (j, want) => bif Nat.blt j k then some (.opt j want d, bs, rq, orc') else none
    | some (.pure d, bs, rq, orc'), none => some (d, bs, rq, orc')
    | _, _ => none
def runDr (P : Program) (nt : Nat) (ops : Array Oper) (H : List Ob) : Nat → List Oper → List (Nat × D) → List Res → Option (List (Nat × D) × List Bool × List Req × List Res)
  | _, [], env, orc => some (env, [], [], orc)
  | k, o :: l, env, orc => match stepDr P ops k H env orc o with
    | some (d, bs, rq, orc1) => match putE nt o.dst d env with
      | some e => match runDr P nt ops H (k + 1) l e orc1 with
        | some (e', bs', rq', orc') => some (e', bs ++ bs', rq ++ rq', orc')
        | none => none
      | none => none
    | none => none

structure Trace (P : Program) (nt : Nat) (ops : Array Oper) (H : List Ob) (bs : List Bool) (rq : List Req) (k n : Nat) (E : Nat → List (Nat × D)) (V : Nat → D) : Prop where
  step : ∀ i, k ≤ i → i < n → ∃ o orc b r orc', ops[i]? = some o ∧ stepDr P ops i H (E i) orc o = some (V i, b, r, orc') ∧ (∀ x ∈ b, x ∈ bs) ∧ (∀ x ∈ r, x ∈ rq)
  put : ∀ i, k ≤ i → i < n → ∃ o, ops[i]? = some o ∧ putE nt o.dst (V i) (E i) = some (E (i + 1))

theorem trace_of {P : Program} {nt : Nat} {ops : Array Oper} {H : List Ob} : ∀ (l : List Oper) (k : Nat) (env env' : List (Nat × D)) (orc orc' : List Res) (bs : List Bool) (rq : List Req), (∀ (j : Nat), l[j]? = ops[k + j]? ∨ l.length ≤ j) →
    runDr P nt ops H k l env orc = some (env', bs, rq, orc') → ∃ E V, E k = env ∧ E (k + l.length) = env' ∧ Trace P nt ops H bs rq k (k + l.length) E V
  | [], k, env, env', orc, orc', bs, rq, _, h => by
    simp only [runDr, Option.some.injEq, Prod.mk.injEq] at h
    obtain ⟨rfl, rfl, rfl, rfl⟩ := h
    exact ⟨fun _ => env, fun _ => .any, rfl, rfl, ⟨fun i h1 h2 => by simp at h2; omega, fun i h1 h2 => by simp at h2; omega⟩⟩
  | o :: l, k, env, env', orc, orc', bs, rq, hl, h => by
    simp only [runDr] at h
    split at h <;> try cases h
    rename_i d b1 r1 orc1 hs
    split at h <;> try cases h
    rename_i e he
    split at h <;> try cases h
    rename_i b2 r2 hr
    have ho : ops[k]? = some o := by
      rcases hl 0 with h1 | h1
      · simpa using h1.symm
      · simp at h1
    obtain ⟨E, V, hE, hE', hT⟩ := trace_of l (k + 1) e env' orc1 orc' b2 r2 (fun j => by
      rcases hl (j + 1) with h1 | h1
      · left; simpa [Nat.add_assoc, Nat.add_comm 1 j] using h1
      · right; simp at h1; exact h1) hr
    refine ⟨fun i => if i = k then env else E i, fun i => if i = k then d else V i, by simp, ?_, ⟨fun i h1 h2 => ?_, fun i h1 h2 => ?_⟩⟩
    · simp only [List.length_cons]
      rw [if_neg (by omega), show k + (l.length + 1) = k + 1 + l.length by omega]
      exact hE'
    · by_cases hik : i = k
      · subst hik
        simp only [if_true]
        exact ⟨o, orc, b1, r1, orc1, ho, hs, fun x hx => List.mem_append_left _ hx, fun x hx => List.mem_append_left _ hx⟩
      · simp only [if_neg hik]
        obtain ⟨o', orc', b, r, orc'', h3, h4, h5, h6⟩ := hT.step i (by omega) (by simp at h2; omega)
        exact ⟨o', orc', b, r, orc'', h3, h4, fun x hx => List.mem_append_right _ (h5 x hx), fun x hx => List.mem_append_right _ (h6 x hx)⟩
    · by_cases hik : i = k
      · subst hik
        simp only [if_true]
        rw [if_neg (by omega)]
        exact ⟨o, ho, by rw [hE]; exact he⟩
      · simp only [if_neg hik]
        rw [if_neg (by omega)]
        exact hT.put i (by omega) (by simp at h2; omega)

open Classical in
/-- The value of a temporary when the operations in L have been carried out. -/
noncomputable def valL (ops : Array Oper) (V : Nat → D) (env : List (Nat × D)) (L : Nat → Prop) (t : Nat) : D :=
  if h : ∃ i, (ops[i]?).bind (·.dst) = some t ∧ L i then V h.choose else find env t
theorem valL_some {ops : Array Oper} (hnd : dstsB ops = true) {V : Nat → D} {env : List (Nat × D)} {L : Nat → Prop} {t i : Nat} (h1 : (ops[i]?).bind (·.dst) = some t) (h2 : L i) : valL ops V env L t = V i := by
  unfold valL
  have h : ∃ i, (ops[i]?).bind (·.dst) = some t ∧ L i := ⟨i, h1, h2⟩
  rw [dif_pos h]
  rw [dsts_spec hnd h.choose_spec.1 h1]
theorem valL_none {ops : Array Oper} {V : Nat → D} {env : List (Nat × D)} {L : Nat → Prop} {t : Nat} (h : ∀ i, (ops[i]?).bind (·.dst) = some t → ¬ L i) : valL ops V env L t = find env t := by
  unfold valL
  rw [dif_neg]
  rintro ⟨i, h1, h2⟩
  exact h i h1 h2
theorem valL_congr {ops : Array Oper} (hnd : dstsB ops = true) {V : Nat → D} {env : List (Nat × D)} {L L' : Nat → Prop} {t : Nat} (h : ∀ i, (ops[i]?).bind (·.dst) = some t → (L i ↔ L' i)) : valL ops V env L t = valL ops V env L' t := by
  by_cases hx : ∃ i, (ops[i]?).bind (·.dst) = some t ∧ L i
  · obtain ⟨i, h1, h2⟩ := hx
    rw [valL_some hnd h1 h2, valL_some hnd h1 ((h i h1).1 h2)]
  · rw [valL_none fun i h1 h2 => hx ⟨i, h1, h2⟩, valL_none fun i h1 h2 => hx ⟨i, h1, (h i h1).2 h2⟩]

theorem env_val {P : Program} {nt : Nat} {ops : Array Oper} {H : List Ob} {bs : List Bool} {rq : List Req} {n : Nat} {E : Nat → List (Nat × D)} {V : Nat → D} (hnd : dstsB ops = true) (hT : Trace P nt ops H bs rq 0 n E V) :
    ∀ k, k ≤ n → ∀ t, find (E k) t = valL ops V (E 0) (· < k) t
  | 0, _, t => by rw [valL_none]; intro i _ h; omega
  | k + 1, hk, t => by
    have ih := env_val hnd hT k (by omega) t
    obtain ⟨o, ho, hp⟩ := hT.put k (by omega) (by omega)
    unfold putE at hp
    split at hp
    · rename_i hd
      simp only [Option.some.injEq] at hp
      rw [← hp, ih]
      refine valL_congr hnd fun i hi => ⟨fun h => by omega, fun h => ?_⟩
      rcases Nat.lt_or_ge i k with h1 | h1
      · exact h1
      · have : i = k := by omega
        subst this
        rw [ho] at hi
        simp [hd] at hi
    · rename_i u hd
      cases hlt : Nat.blt u nt with
      | false => simp [hlt] at hp
      | true =>
        simp only [hlt, cond_true, Option.some.injEq] at hp
        rw [← hp]
        simp only [find]
        have hdk : (ops[k]?).bind (·.dst) = some u := by rw [ho]; exact hd
        cases hut : Nat.beq u t with
        | true =>
          obtain rfl := Nat.eq_of_beq_eq_true hut
          simp only [cond_true]
          rw [valL_some hnd hdk (by omega)]
        | false =>
          simp only [cond_false]
          rw [ih]
          have hne : u ≠ t := Nat.ne_of_beq_eq_false hut
          refine valL_congr hnd fun i hi => ⟨fun h => by omega, fun h => ?_⟩
          rcases Nat.lt_or_ge i k with h1 | h1
          · exact h1
          · have : i = k := by omega
            subst this
            rw [hdk] at hi
            simp at hi
            exact absurd hi hne
end Nv
