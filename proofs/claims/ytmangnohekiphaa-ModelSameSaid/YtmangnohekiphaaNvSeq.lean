/- A region whose order is the text's. -/
import Derived.Test.YtmangnohekiphaaNvLend
namespace Nv
open Go Go.RowKit

structure RS where
  env : List (Nat × D)
  H : List Ob
  orc : List Res

def putE (nt : Nat) (dst : Option Nat) (d : D) (env : List (Nat × D)) : Option (List (Nat × D)) :=
  match dst with
  | none => some env
  | some t => bif Nat.blt t nt then some ((t, d) :: env) else none

def heapD (P : Program) (H : List Ob) (ρ : Operand → D) (op : Op) : Option (D × List Ob × Option Nat × List Bool) :=
  match op with
  | .alloc t => (allocD P H t).map fun r => (r.1, r.2, none, [])
  | .box _ x => (boxD H (ρ x)).map fun r => (r.1, r.2, none, [])
  | .store t a x => (storeD P H t (ρ a) (adj P t (ρ x))).map fun r => (.any, r, none, [])
  | .makeSlice t l c => (makeD P H t (ρ l) (ρ c)).map fun r => (r.1, r.2.1, none, r.2.2)
  | .call { callee := .builtin .append, args := ⟨[s, x]⟩, argTypes := ⟨[t, u]⟩ } => bif Nat.beq t u then appD P H t (ρ s) (ρ x) else none
  | _ => none

theorem heapD_ok {P : Program} {F : Fr} {c : Ctx} (hI : Inv F c) {ρc : Operand → Value} {ρd : Operand → D} {o : Oper} (hρ : ∀ x ∈ o.op.operands.toList, TV c (ρc x) (ρd x))
    {d : D} {H' : List Ob} {pid : Option Nat} {bs : List Bool} (h : heapD P c.H ρd o.op = some (d, H', pid, bs)) (hb : ∀ b ∈ bs, b = true) : Turns P F c (execOp ρc o) d H' pid := by
  obtain ⟨dst, op, type, pos, after, guard⟩ := o
  unfold heapD at h
  simp only at h hρ
  split at h
  · rename_i t
    obtain ⟨r, hr, heq⟩ := Option.map_eq_some_iff.1 h
    simp only [Prod.mk.injEq] at heq
    obtain ⟨rfl, rfl, rfl, rfl⟩ := heq
    exact allocD_ok hI hr
  · rename_i t x
    obtain ⟨r, hr, heq⟩ := Option.map_eq_some_iff.1 h
    simp only [Prod.mk.injEq] at heq
    obtain ⟨rfl, rfl, rfl, rfl⟩ := heq
    exact boxD_ok hI hr (hρ x (by simp [Op.operands]))
  · rename_i t a x
    obtain ⟨r, hr, heq⟩ := Option.map_eq_some_iff.1 h
    simp only [Prod.mk.injEq] at heq
    obtain ⟨rfl, rfl, rfl, rfl⟩ := heq
    exact storeD_ok hI hr (hρ a (by simp [Op.operands])) (tv_adj (hρ x (by simp [Op.operands])))
  · rename_i t l k
    obtain ⟨r, hr, heq⟩ := Option.map_eq_some_iff.1 h
    simp only [Prod.mk.injEq] at heq
    obtain ⟨rfl, rfl, rfl, rfl⟩ := heq
    exact makeD_ok hI hr hb (hρ l (by simp [Op.operands])) (hρ k (by simp [Op.operands]))
  · rename_i s x t u
    cases htu : Nat.beq t u with
    | false => simp [htu] at h
    | true =>
      simp only [htu, cond_true] at h
      obtain rfl := Nat.eq_of_beq_eq_true htu
      obtain ⟨v, c', h1, h2⟩ := appD_ok (ty := type) hI h hb (hρ s (by simp [Op.operands, Call.operands])) (hρ x (by simp [Op.operands, Call.operands]))
      refine ⟨v, c', ?_, h2⟩
      simpa [execOp, resolve, invoke, builtin] using h1
  · cases h

def stepS (P : Program) (nt : Nat) (ops : Array Oper) (k : Nat) (s : RS) (o : Oper) : Option (RS × List Bool × List Req) :=
  match gEval ops s.env (gch ops 20 o.guard) with
  | none => none
  | some g => match opD P s.H ops s.env (gch ops 20 o.guard) s.orc g o, o.guard with
    | some (.pure d, bs, rq, orc'), some (j, want) => bif Nat.blt j k then (putE nt o.dst (.opt j want d) s.env).map fun e => (⟨e, s.H, orc'⟩, bs, rq) else none
    | some (.pure d, bs, rq, orc'), none => (putE nt o.dst d s.env).map fun e => (⟨e, s.H, orc'⟩, bs, rq)
    | some (.own wd n f, bs, rq, orc'), none => (putE nt o.dst (.asl s.H.length 0 n) s.env).map fun e => (⟨e, s.H ++ [.arr wd n f], orc'⟩, bs, rq)
    | none, none => match heapD P s.H (fun x => unwrap [] (evD s.env x)) o.op with
      | some (d, H', pid, bs) => (putE nt o.dst d (s.env.map fun p => (p.1, purge pid p.2))).map fun e => (⟨e, H', s.orc⟩, bs, [])
      | none => match lendD P s.H (fun x => unwrap [] (evD s.env x)) s.orc o.op with
        | some (d, H', rq, orc') => (putE nt o.dst d s.env).map fun e => (⟨e, H', orc'⟩, [], rq)
        | none => none
    | _, _ => none

def runS (P : Program) (nt : Nat) (ops : Array Oper) : Nat → List Oper → RS → Option (RS × List Bool × List Req)
  | _, [], s => some (s, [], [])
  | k, o :: l, s => match stepS P nt ops k s o with
    | some (s1, bs, rq) => match runS P nt ops (k + 1) l s1 with
      | some (s2, bs', rq') => some (s2, bs ++ bs', rq ++ rq')
      | none => none
    | none => none

/-- No two operations write one temporary. -/
def nodupD : List (Option Nat) → Bool
  | [] => true
  | none :: r => nodupD r
  | some t :: r => !(r.any fun u => match u with | some u => Nat.beq u t | none => false) && nodupD r
theorem nodupD_spec : ∀ (l : List (Option Nat)), nodupD l = true → ∀ (i j t : Nat), l[i]? = some (some t) → l[j]? = some (some t) → i = j
  | [], _, i, j, t, h1, _ => by simp at h1
  | none :: r, h, 0, j, t, h1, _ => by simp at h1
  | none :: r, h, i + 1, 0, t, _, h2 => by simp at h2
  | none :: r, h, i + 1, j + 1, t, h1, h2 => by
    have := nodupD_spec r h i j t (by simpa using h1) (by simpa using h2)
    omega
  | some u :: r, h, 0, 0, t, _, _ => rfl
  | some u :: r, h, 0, j + 1, t, h1, h2 => by
    simp only [nodupD, Bool.and_eq_true, Bool.not_eq_true'] at h
    simp only [List.getElem?_cons_zero, Option.some.injEq] at h1
    subst h1
    have := List.any_eq_false.1 h.1 (some u) (List.mem_of_getElem? (by simpa using h2))
    simp at this
  | some u :: r, h, i + 1, 0, t, h1, h2 => by
    simp only [nodupD, Bool.and_eq_true, Bool.not_eq_true'] at h
    simp only [List.getElem?_cons_zero, Option.some.injEq] at h2
    subst h2
    have := List.any_eq_false.1 h.1 (some u) (List.mem_of_getElem? (by simpa using h1))
    simp at this
  | some u :: r, h, i + 1, j + 1, t, h1, h2 => by
    simp only [nodupD, Bool.and_eq_true] at h
    have := nodupD_spec r h.2 i j t (by simpa using h1) (by simpa using h2)
    omega
def dstsB (ops : Array Oper) : Bool := nodupD (ops.toList.map (·.dst))
theorem dsts_spec {ops : Array Oper} (h : dstsB ops = true) {i j t : Nat} (h1 : (ops[i]?).bind (·.dst) = some t) (h2 : (ops[j]?).bind (·.dst) = some t) : i = j := by
  have key : ∀ (i : Nat), (ops[i]?).bind (·.dst) = some t → (ops.toList.map (·.dst))[i]? = some (some t) := fun i h => by
    obtain ⟨o, ho, hd⟩ := Option.bind_eq_some_iff.1 h
    simp [ho, hd]
  exact nodupD_spec _ h i j t (key i h1) (key j h2)

theorem yielded_put {ops : Array Oper} {a : Act} {dst : Option Nat} {v : Value} {j : Nat} (h : ∀ t, dst = some t → (ops[j]?).bind (·.dst) ≠ some t) :
    yielded ops (a.put dst v).tmps j = yielded ops a.tmps j := by
  cases dst with
  | none => rfl
  | some t =>
    unfold yielded
    cases hd : (ops[j]?).bind (·.dst) with
    | none => rfl
    | some u =>
      have hne : t ≠ u := fun e => h t rfl (by rw [hd, e])
      simp [Act.put, Array.getElem?_setIfInBounds_ne hne]

theorem getD_put {a : Act} {dst : Option Nat} {v : Value} {t : Nat} (h : dst ≠ some t) : (a.put dst v).tmps.getD t undef = a.tmps.getD t undef := by
  cases dst with
  | none => rfl
  | some u =>
    have hne : u ≠ t := fun e => h (by rw [e])
    simp [Act.put, Array.getElem?_setIfInBounds_ne hne]
theorem getD_put_same {a : Act} {v : Value} {t : Nat} (h : t < a.tmps.size) : (a.put (some t) v).tmps.getD t undef = v := by
  simp [Act.put, h]
theorem size_put {a : Act} {dst : Option Nat} {v : Value} : (a.put dst v).tmps.size = a.tmps.size := by
  cases dst <;> simp [Act.put]
theorem defers_put {a : Act} {dst : Option Nat} {v : Value} : (a.put dst v).defers = a.defers := by
  cases dst <;> rfl

structure RInv (F : Fr) (nt : Nat) (ops : Array Oper) (k : Nat) (s : RS) (a : Act) (c : Ctx) : Prop where
  H : c.H = s.H
  inv : Inv F c
  env : ∀ t, GV (yielded ops a.tmps) c (a.tmps.getD t undef) (find s.env t)
  size : a.tmps.size = nt
  defers : a.defers = []
  idx : ∀ t j w d, find s.env t = .opt j w d → j < k

theorem gv_of_tv {y : Nat → Option Bool} {c : Ctx} {v : Value} {d : D} (h : TV c v d) : GV y c v d := by
  cases d <;> try exact h
  exact absurd h (by intro h; simp only [TV, AV] at h; exact cv_not_opt h)

theorem gv_trans {y : Nat → Option Bool} {c c' : Ctx} (h : ∀ u e, TV c u e → TV c' u e) {v : Value} {d : D} (hv : GV y c v d) : GV y c' v d := by
  cases d <;> simp only [GV] at hv ⊢ <;> first | exact h _ _ hv | exact hv.imp (fun ⟨x, y⟩ => ⟨x, h _ _ y⟩) id
theorem gv_purge {y : Nat → Option Bool} {c c' : Ctx} {pid : Option Nat} (h : ∀ u e, TV c u e → TV c' u (purge pid e)) {v : Value} {d : D} (hv : GV y c v d) : GV y c' v (purge pid d) := by
  cases pid with
  | none => exact gv_trans h hv
  | some id =>
    cases d with
    | opt j w d => exact gv_of_tv tv_any
    | _ => simp only [GV] at hv; exact gv_of_tv (h _ _ hv)

theorem eval_gv {F : Fr} {nt : Nat} {ops : Array Oper} {k : Nat} {s : RS} {a : Act} {c : Ctx} (h : RInv F nt ops k s a c) (x : Operand) : GV (yielded ops a.tmps) c (a.eval x) (evD s.env x) := by
  cases x with
  | tmp t => exact h.env t
  | const v => exact gv_of_tv (tv_dv c v)
  | global g => exact gv_of_tv tv_any
  | func f => exact gv_of_tv ⟨#[], rfl, rfl, fun i v d h1 _ => by simp at h1⟩

/-- A new value in a temporary; the context has gone on. -/
theorem rinv_put {F : Fr} {nt : Nat} {ops : Array Oper} (hnd : dstsB ops = true) {k : Nat} {s : RS} {a : Act} {c c' : Ctx} (h : RInv F nt ops k s a c) {o : Oper} (ho : ops[k]? = some o)
    (hI : Inv F c') {env' : List (Nat × D)} (henv : ∀ t v, GV (yielded ops a.tmps) c v (find s.env t) → GV (yielded ops a.tmps) c' v (find env' t)) (hidx : ∀ t j w d, find env' t = .opt j w d → j < k)
    {d : D} {e : List (Nat × D)} {H' : List Ob} {orc' : List Res} (he : putE nt o.dst d env' = some e) (hH : c'.H = H') {v : Value} (hv : GV (yielded ops (a.put o.dst v).tmps) c' v d) (hd : ∀ j w d', d = .opt j w d' → j < k) :
    RInv F nt ops (k + 1) ⟨e, H', orc'⟩ (a.put o.dst v) c' := by
  have hko : ∀ t, o.dst = some t → (ops[k]?).bind (·.dst) = some t := fun t ht => by rw [ho]; exact ht
  have hy : ∀ j, j < k → yielded ops (a.put o.dst v).tmps j = yielded ops a.tmps j := fun j hj => yielded_put fun t ht e => by
    have := dsts_spec hnd (hko t ht) e
    omega
  have keep : ∀ t u, GV (yielded ops a.tmps) c' u (find env' t) → GV (yielded ops (a.put o.dst v).tmps) c' u (find env' t) := fun t u hu => by
    cases hf : find env' t <;> rw [hf] at hu <;> try exact hu
    rename_i j w d'
    simp only [GV] at hu ⊢
    rw [hy j (hidx t j w d' hf)]
    exact hu
  unfold putE at he
  split at he
  · rename_i hdst
    simp only [Option.some.injEq] at he
    subst he
    refine ⟨hH, hI, fun t => ?_, by rw [size_put]; exact h.size, by rw [defers_put]; exact h.defers, fun t j w d hf => Nat.lt_succ_of_lt (hidx t j w d hf)⟩
    rw [getD_put (by rw [hdst]; simp)]
    exact keep t _ (henv t _ (h.env t))
  · rename_i t0 hdst
    cases hlt : Nat.blt t0 nt with
    | false => simp [hlt] at he
    | true =>
      simp only [hlt, cond_true, Option.some.injEq] at he
      subst he
      have hlt' := blt_true hlt
      refine ⟨hH, hI, fun t => ?_, by rw [size_put]; exact h.size, by rw [defers_put]; exact h.defers, fun t j w d' hf => ?_⟩
      · simp only [find]
        cases ht : Nat.beq t0 t with
        | true =>
          obtain rfl := Nat.eq_of_beq_eq_true ht
          simp only [cond_true]
          rw [hdst] at hv ⊢
          rw [getD_put_same (by rw [h.size]; exact hlt')]
          exact hv
        | false =>
          simp only [cond_false]
          have hne : t0 ≠ t := Nat.ne_of_beq_eq_false ht
          rw [getD_put (by rw [hdst]; simpa using hne)]
          exact keep t _ (henv t _ (h.env t))
      · simp only [find] at hf
        cases ht : Nat.beq t0 t with
        | true => simp only [ht, cond_true] at hf; exact Nat.lt_succ_of_lt (hd j w d' hf)
        | false => simp only [ht, cond_false] at hf; exact Nat.lt_succ_of_lt (hidx t j w d' hf)

theorem find_map (pid : Option Nat) : ∀ (env : List (Nat × D)) (t : Nat), find (env.map fun p => (p.1, purge pid p.2)) t = purge pid (find env t)
  | [], t => by
    simp only [List.map_nil, find]
    cases pid <;> rfl
  | (u, d) :: r, t => by
    simp only [List.map_cons, find]
    cases Nat.beq u t with
    | true => rfl
    | false => simp only [cond_false]; exact find_map pid r t
theorem purge_not_opt {pid : Option Nat} {d d' : D} {j : Nat} {w : Bool} (h : purge pid d = .opt j w d') : pid = none ∧ d = .opt j w d' := by
  unfold purge at h
  split at h
  · exact ⟨rfl, h⟩
  · rename_i id
    cases hm : mt id d with
    | true => simp [hm] at h
    | false => simp only [hm, cond_false] at h; subst h; simp [mt] at hm

/-- **A region in the text's order.** -/
theorem seq_sound {P : Program} {F : Fr} {nt : Nat} {ops : Array Oper} (hnd : dstsB ops = true) {Q : Exit → Act → World → Prop} : ∀ (l : List Oper) (k : Nat) (s s' : RS) (bs : List Bool) (rq : List Req), (∀ (j : Nat), l[j]? = ops[k + j]?) →
    runS P nt ops k l s = some (s', bs, rq) → (∀ b ∈ bs, b = true) → (∀ q ∈ rq, q.ok P) → ∀ (a : Act) (c : Ctx), RInv F nt ops k s a c →
    (∀ a' c', RInv F nt ops (k + l.length) s' a' c' → Q .normal a' c'.w) → wpOps P ops Q (List.range' k l.length) a c.w
  | [], k, s, s', bs, rq, _, h, _, _, a, c, hR, hQ => by
    simp only [runS, Option.some.injEq, Prod.mk.injEq] at h
    obtain ⟨rfl, rfl, rfl⟩ := h
    exact hQ a c hR
  | o :: l, k, s, s', bs, rq, hl, h, hb, hq, a, c, hR, hQ => by
    have ho : ops[k]? = some o := by simpa using (hl 0).symm
    simp only [runS] at h
    split at h <;> try cases h
    rename_i s1 b1 r1 hstep
    split at h <;> try cases h
    rename_i s2 b2 r2 hrun
    simp only [List.length_cons, List.range'_succ, wpOps, ho]
    have next : ∀ a' c', RInv F nt ops (k + 1) s1 a' c' → wpOps P ops Q (List.range' (k + 1) l.length) a' c'.w := fun a' c' hR' =>
      seq_sound hnd l (k + 1) s1 s' b2 r2 (fun j => by have := hl (j + 1); simpa [Nat.add_assoc, Nat.add_comm 1 j] using this) hrun (fun b hb' => hb b (List.mem_append_right _ hb')) (fun q hq' => hq q (List.mem_append_right _ hq')) a' c' hR'
        (fun a'' c'' h'' => hQ a'' c'' (by rw [List.length_cons, show k + (l.length + 1) = k + 1 + l.length by omega]; exact h''))
    have hb1 : ∀ b ∈ b1, b = true := fun b hb' => hb b (List.mem_append_left _ hb')
    have hq1 : ∀ q ∈ r1, q.ok P := fun q hq' => hq q (List.mem_append_left _ hq')
    have hidx0 : ∀ t j w d, find s.env t = .opt j w d → j < k := hR.idx
    unfold stepS at hstep
    split at hstep <;> try cases hstep
    rename_i g hg
    have hgf : GuardFacts ops a c s.env (gch ops 20 o.guard) := fun p _ t _ => hR.env t
    split at hstep
    · rename_i d bs0 rq0 orc0 j want hop hgd
      cases hlt : Nat.blt j k with
      | false => simp [hlt] at hstep
      | true =>
        simp only [hlt, cond_true] at hstep
        obtain ⟨e, he, heq⟩ := Option.map_eq_some_iff.1 hstep
        simp only [Prod.mk.injEq] at heq
        obtain ⟨rfl, rfl, rfl⟩ := heq
        have hjk := blt_true hlt
        have hyj : ∀ v, yielded ops (a.put o.dst v).tmps j = yielded ops a.tmps j := fun v => yielded_put fun t ht e => by
          have := dsts_spec hnd (show (ops[k]?).bind (·.dst) = some t by rw [ho]; exact ht) e
          omega
        have hwant : Region.wanted o (yielded ops a.tmps) = (yielded ops a.tmps j == some want) := by simp [Region.wanted, hgd]
        cases hw : Region.wanted o (yielded ops a.tmps) with
        | true =>
          simp only [if_true]
          refine .inl (op_sound hR.inv (fun x _ => eval_gv hR x) hgf hg hw (by rw [hR.H]; exact hop) hb1 hq1 fun v c' hI' haf => ?_)
          obtain ⟨hgo, _, htv⟩ := haf
          refine next _ c' (rinv_put hnd hR ho hI' (fun t v hv => hgo.gv hv) hidx0 he (by rw [hgo.H]; exact hR.H) (.inl ⟨?_, htv⟩) (fun j' w' d' e => by cases e; exact hjk))
          rw [hyj]
          rw [hw] at hwant
          simpa using hwant.symm
        | false =>
          simp only [Bool.false_eq_true, if_false]
          refine next _ c (rinv_put hnd hR ho hR.inv (fun t v hv => hv) hidx0 he hR.H (.inr ⟨?_, rfl⟩) (fun j' w' d' e => by cases e; exact hjk))
          rw [hyj]
          rw [hw] at hwant
          simpa using hwant.symm
    · rename_i d bs0 rq0 orc0 hop hgd
      obtain ⟨e, he, heq⟩ := Option.map_eq_some_iff.1 hstep
      simp only [Prod.mk.injEq] at heq
      obtain ⟨rfl, rfl, rfl⟩ := heq
      have hw : Region.wanted o (yielded ops a.tmps) = true := by simp [Region.wanted, hgd]
      simp only [hw, if_true]
      refine .inl (op_sound hR.inv (fun x _ => eval_gv hR x) hgf hg hw (by rw [hR.H]; exact hop) hb1 hq1 fun v c' hI' haf => ?_)
      obtain ⟨hgo, _, htv⟩ := haf
      refine next _ c' (rinv_put hnd hR ho hI' (fun t v hv => hgo.gv hv) hidx0 he (by rw [hgo.H]; exact hR.H) (gv_of_tv htv) (fun j' w' d' e => ?_))
      subst e
      simp only [TV, AV] at htv
      exact absurd htv cv_not_opt
    · rename_i wd n f bs0 rq0 orc0 hop hgd
      obtain ⟨e, he, heq⟩ := Option.map_eq_some_iff.1 hstep
      simp only [Prod.mk.injEq] at heq
      obtain ⟨rfl, rfl, rfl⟩ := heq
      have hw : Region.wanted o (yielded ops a.tmps) = true := by simp [Region.wanted, hgd]
      simp only [hw, if_true]
      refine .inl (op_sound hR.inv (fun x _ => eval_gv hR x) hgf hg hw (by rw [hR.H]; exact hop) hb1 hq1 fun v c' hI' haf => ?_)
      obtain ⟨hH', htr, htv⟩ := haf
      refine next _ c' (rinv_put hnd hR ho hI' (fun t v hv => gv_trans htr hv) hidx0 he (by rw [hH', hR.H]) (gv_of_tv (by rw [← hR.H]; exact htv)) (fun j' w' d' e => by cases e))
    · rename_i hop hgd
      split at hstep
      case h_2 =>
        split at hstep <;> try cases hstep
        rename_i d H' rq0 orc0 hlend
        obtain ⟨e, he, heq⟩ := Option.map_eq_some_iff.1 hstep
        simp only [Prod.mk.injEq] at heq
        obtain ⟨rfl, rfl, rfl⟩ := heq
        have hw : Region.wanted o (yielded ops a.tmps) = true := by simp [Region.wanted, hgd]
        simp only [hw, if_true]
        have hρ : ∀ x ∈ o.op.operands.toList, TV c (a.eval x) (unwrap [] (evD s.env x)) := fun x _ => unwrap_ok (a := a) (ops := ops) (by simp) (eval_gv hR x)
        refine .inl (lend_ok hR.inv hρ (by rw [hR.H]; exact hlend) hq1 fun v c' hI' hH' htr htv => ?_)
        refine next _ c' (rinv_put hnd hR ho hI' (fun t v hv => gv_trans htr hv) hidx0 he hH' (gv_of_tv htv) (fun j' w' d' e => ?_))
        subst e
        simp only [TV, AV] at htv
        exact absurd htv cv_not_opt
      rename_i d H' pid bs0 hheap
      obtain ⟨e, he, heq⟩ := Option.map_eq_some_iff.1 hstep
      simp only [Prod.mk.injEq] at heq
      obtain ⟨rfl, rfl, rfl⟩ := heq
      have hw : Region.wanted o (yielded ops a.tmps) = true := by simp [Region.wanted, hgd]
      simp only [hw, if_true]
      have hρ : ∀ x ∈ o.op.operands.toList, TV c (a.eval x) (unwrap [] (evD s.env x)) := fun x _ => unwrap_ok (a := a) (ops := ops) (by simp) (eval_gv hR x)
      obtain ⟨v, c', hrun', hI', hH', htr, htv⟩ := heapD_ok (ρc := a.eval) hR.inv hρ (by rw [hR.H]; exact hheap) hb1
      have hfin : wpOps P ops Q (List.range' (k + 1) l.length) (a.put o.dst v) c'.w := by
        refine next _ c' (rinv_put hnd hR ho hI' (fun t v hv => ?_) (fun t j w d hf => ?_) he hH' (gv_of_tv htv) (fun j' w' d' e => ?_))
        · rw [find_map]
          exact gv_purge htr hv
        · rw [find_map] at hf
          exact hidx0 t j w d (purge_not_opt hf).2
        · subst e
          simp only [TV, AV] at htv
          exact absurd htv cv_not_opt
      refine .inl ?_
      unfold Oper.wp
      rcases hrun' with h1 | ⟨h1, rfl⟩
      · rw [h1]; exact hfin
      · rw [h1]; exact hfin
    · cases hstep
end Nv
