/- Part of the proof of ModelSpoiled: the library of walks. No condition. -/
import Derived.Test.YtmangnohekiphaaGreatNvLibB
import Derived.KernelRfl
namespace Nv
open Go Go.RowKit
def ngone : Ob → Bool
  | .gone => false
  | _ => true
def V1 (p0 : Nat) (V : Nat → D) (i : Nat) : D := if i < p0 then V i else .any
structure FInv (F : Fr) (nt : Nat) (ops : Array Oper) (H0 : List Ob) (p0 p : Nat) (zs : Nat → List D) (V : Nat → D) (env0 : List (Nat × D)) (listed : Array Bool) (a : Act) (c : Ctx) : Prop where
  H : ∃ X, c.H = H0 ++ X ∧ X.all ngone = true
  inv : Inv F c
  env : ∀ t, GV (yielded ops a.tmps) c (a.tmps.getD t undef) (valL ops (V1 p0 V) env0 (fun i => listed.getD i false = true) t)
  fl : ∃ fid : Nat → Nat, (∀ k, p0 ≤ k → k < p → listed.getD k false = true → H0.length ≤ fid k ∧ c.H[fid k]? = some (.box (zs k)) ∧ ∀ t, (ops[k]?).bind (·.dst) = some t → TV c (a.tmps.getD t undef) (.ref (fid k) 0)) ∧
    ∀ k l, p0 ≤ k → k < p → p0 ≤ l → l < p → listed.getD k false = true → listed.getD l false = true → fid k = fid l → k = l
  size : a.tmps.size = nt
  defers : a.defers = []
  opt : ∀ t j w d, valL ops (V1 p0 V) env0 (fun i => listed.getD i false = true) t = .opt j w d → listed.getD j false = true
  lsize : listed.size = ops.size
  closed : ∀ i j, Waits ops i j → listed.getD i false = true → listed.getD j false = true
  low : ∀ j, p ≤ j → listed.getD j false = false
end Nv
namespace Nv
open Go Go.RowKit
end Nv
namespace Nv
open Go Go.RowKit
end Nv
namespace Nv
open Go Go.RowKit
def ct (p0 p : Nat) (zs fs : Nat → List D) (listed : Array Bool) (k : Nat) : List D := bif listed.getD (k + (p - p0)) false then fs k else zs k
end Nv
namespace Nv
open Go Go.RowKit
structure GInv (F : Fr) (nt : Nat) (ops : Array Oper) (H0 : List Ob) (p0 p : Nat) (zs fs : Nat → List D) (V : Nat → D) (env0 : List (Nat × D)) (listed : Array Bool) (a : Act) (c : Ctx) : Prop where
  H : ∃ X, c.H = H0 ++ X ∧ X.all ngone = true
  inv : Inv F c
  env : ∀ t, GV (yielded ops a.tmps) c (a.tmps.getD t undef) (valL ops (V1 p0 V) env0 (fun i => listed.getD i false = true) t)
  fl : ∃ fid : Nat → Nat, (∀ k, p0 ≤ k → k < p → listed.getD k false = true → H0.length ≤ fid k ∧ c.H[fid k]? = some (.box (ct p0 p zs fs listed k)) ∧ ∀ t, (ops[k]?).bind (·.dst) = some t → TV c (a.tmps.getD t undef) (.ref (fid k) 0)) ∧
    ∀ k l, p0 ≤ k → k < p → p0 ≤ l → l < p → listed.getD k false = true → listed.getD l false = true → fid k = fid l → k = l
  size : a.tmps.size = nt
  defers : a.defers = []
  opt : ∀ t j w d, valL ops (V1 p0 V) env0 (fun i => listed.getD i false = true) t = .opt j w d → listed.getD j false = true
  lsize : listed.size = ops.size
  closed : ∀ i j, Waits ops i j → listed.getD i false = true → listed.getD j false = true
end Nv
namespace Nv
open Go Go.RowKit
end Nv
namespace Nv
open Go Go.RowKit
def isApp : Op → Bool
  | .call { callee := .builtin .append, args := ⟨[_, _]⟩, argTypes := ⟨[_, _]⟩ } => true
  | _ => false
def chE (ch : Option (Nat × D)) (env : List (Nat × D)) (x : Operand) : D :=
  match ch, x with
  | some (t0, d0), .tmp t => bif Nat.beq t t0 then d0 else unwrap [] (evD env x)
  | _, _ => unwrap [] (evD env x)
def pidOk (n : Nat) (ch : Option (Nat × D)) (pid : Option Nat) : Bool :=
  match ch, pid with
  | none, none => true
  | some _, some p => Nat.beq p n
  | _, _ => false
def lastW (ws : List Nat) : Nat := ws.getLastD 0
def hkA (ops : Array Oper) (ws : List Nat) (H0 HH : List Ob) (k : Nat) : List Ob := bif ((Region.before ops).getD k 0).testBit (lastW ws) then HH else H0
def stepA (P : Program) (ops : Array Oper) (ws : List Nat) (H0 : List Ob) (k : Nat) (HH : List Ob) (ch : Option (Nat × D)) (env : List (Nat × D)) (orc : List Res) (o : Oper) : Option (D × List Ob × Option (Nat × D) × List Bool × List Req × List Res) :=
  match ws.contains k with
  | true => match o.guard, o.dst, isApp o.op, heapD P HH (chE ch env) o.op with
    | none, some t, true, some (d, H', pid, bs) => bif pidOk H0.length ch pid then some (bif Nat.beq k (lastW ws) then d else .any, H', some (t, d), bs, [], orc) else none
    | _, _, _, _ => none
  | false => match stepDr P ops k (hkA ops ws H0 HH k) env orc o with
    | some (d, bs, rq, orc') => bif mt H0.length d && !((Region.before ops).getD k 0).testBit (lastW ws) then none else some (d, HH, ch, bs, rq, orc')
    | none => none
structure TraceA (P : Program) (nt : Nat) (ops : Array Oper) (ws : List Nat) (H0 : List Ob) (bs : List Bool) (rq : List Req) (k n : Nat) (E : Nat → List (Nat × D)) (HH : Nat → List Ob) (CH : Nat → Option (Nat × D)) (V : Nat → D) : Prop where
  step : ∀ i, k ≤ i → i < n → ∃ o orc b r orc', ops[i]? = some o ∧ stepA P ops ws H0 i (HH i) (CH i) (E i) orc o = some (V i, HH (i + 1), CH (i + 1), b, r, orc') ∧ (∀ x ∈ b, x ∈ bs) ∧ (∀ x ∈ r, x ∈ rq)
  put : ∀ i, k ≤ i → i < n → ∃ o, ops[i]? = some o ∧ putE nt o.dst (V i) (E i) = some (E (i + 1))
section
variable {P : Program} {nt : Nat} {ops : Array Oper} {ws : List Nat} {H0 : List Ob} {bs : List Bool} {rq : List Req} {n : Nat} {E : Nat → List (Nat × D)} {HH : Nat → List Ob} {CH : Nat → Option (Nat × D)} {V : Nat → D}
end
structure AInv (F : Fr) (nt : Nat) (ops : Array Oper) (ws : List Nat) (HH : Nat → List Ob) (CH : Nat → Option (Nat × D)) (V : Nat → D) (env0 : List (Nat × D)) (listed : Array Bool) (a : Act) (c : Ctx) : Prop where
  H : ∃ q, q ≤ ops.size ∧ c.H = HH q ∧ (∀ w, ws.contains w = true → w < q → listed.getD w false = true) ∧ (∀ w, ws.contains w = true → q ≤ w → listed.getD w false = false) ∧
    ∀ t0 d0, CH q = some (t0, d0) → TV c (a.tmps.getD t0 undef) d0
  inv : Inv F c
  env : ∀ t, GV (yielded ops a.tmps) c (a.tmps.getD t undef) (valL ops V env0 (fun i => listed.getD i false = true) t)
  size : a.tmps.size = nt
  defers : a.defers = []
  opt : ∀ t j w d, valL ops V env0 (fun i => listed.getD i false = true) t = .opt j w d → listed.getD j false = true
  lsize : listed.size = ops.size
  closed : ∀ i j, Waits ops i j → listed.getD i false = true → listed.getD j false = true
end Nv
namespace Nv
open Go Go.RowKit
end Nv
namespace Nv
open Go Go.RowKit
section
variable {α : Type} [Inhabited α] (c : α → List D)
end
section
variable {F : Fr} {c : Ctx} {i0 i1 : Nat} {o : Ob}
end
end Nv
namespace Nv
open Go Go.RowKit
end Nv
namespace Nv
open Go Go.RowKit
def QK (Q : Exit → Act → World → Prop) (K : Act → World → Prop) : Exit → Act → World → Prop
  | .normal, a, w => K a w
  | e, a, w => Q e a w
theorem wp_qk {P : Program} {o : Oper} {a : Act} {w : World} {Q : Exit → Act → World → Prop} {K K1 K2 : Act → World → Prop} (h : ∀ a w, K1 a w → K2 a w) (hh : o.wp P a w K1 (QK Q K)) : o.wp P a w K2 Q := by
  unfold Oper.wp at *
  generalize (execOp a.eval o).run P w = r at *
  cases r with
  | ok n w' =>
    cases n <;> simp only [Oper.upon] at hh ⊢ <;>
      first
        | exact h _ _ hh
        | exact Calls.mono hh (fun e w'' he => by cases e <;> first | exact h _ _ he | exact he)
        | exact Rows.mono hh (fun _ _ he => h _ _ he)
  | halt x w' => cases x <;> simp only [Oper.upon] at hh ⊢ <;> exact hh
end Nv
namespace Nv
open Go Go.RowKit
theorem seq_soundR {P : Program} {F : Fr} [GF P F] {nt : Nat} {ops : Array Oper} (hnd : dstsB ops = true) {Q : Exit → Act → World → Prop} {rest : List Nat} : ∀ (l : List Oper) (k : Nat) (s s' : RS) (bs : List Bool) (rq : List Req), (∀ (j : Nat), l[j]? = ops[k + j]? ∨ l.length ≤ j) →
    runS P nt ops k l s = some (s', bs, rq) → (∀ b ∈ bs, b = true) → (∀ q ∈ rq, q.ok P) → ∀ (a : Act) (c : Ctx), RInv F nt ops k s a c →
    (∀ a' c', RInv F nt ops (k + l.length) s' a' c' → wpOps P ops Q rest a' c'.w) → wpOps P ops Q (List.range' k l.length ++ rest) a c.w
  | [], k, s, s', bs, rq, _, h, _, _, a, c, hR, hQ => by
    simp only [runS, Option.some.injEq, Prod.mk.injEq] at h
    obtain ⟨rfl, rfl, rfl⟩ := h
    exact hQ a c hR
  | o :: l, k, s, s', bs, rq, hl, h, hb, hq, a, c, hR, hQ => by
    have ho : ops[k]? = some o := by
      rcases hl 0 with h1 | h1
      · simpa using h1.symm
      · simp at h1
    simp only [runS] at h
    split at h <;> try cases h
    rename_i s1 b1 r1 hstep
    split at h <;> try cases h
    rename_i s2 b2 r2 hrun
    simp only [List.length_cons, List.range'_succ, List.cons_append, wpOps, ho]
    have next : ∀ a' c', RInv F nt ops (k + 1) s1 a' c' → wpOps P ops Q (List.range' (k + 1) l.length ++ rest) a' c'.w := fun a' c' hR' =>
      seq_soundR hnd l (k + 1) s1 s' b2 r2 (fun j => by
        rcases hl (j + 1) with h1 | h1
        · left; simpa [Nat.add_assoc, Nat.add_comm 1 j] using h1
        · right; simp at h1; exact h1) hrun (fun b hb' => hb b (List.mem_append_right _ hb')) (fun q hq' => hq q (List.mem_append_right _ hq')) a' c' hR'
        (fun a'' c'' h'' => hQ a'' c'' (by rw [List.length_cons, show k + (l.length + 1) = k + 1 + l.length by omega]; exact h''))
    have hb1 : ∀ b ∈ b1, b = true := fun b hb' => hb b (List.mem_append_left _ hb')
    have hq1 : ∀ q ∈ r1, q.ok P := fun q hq' => hq q (List.mem_append_left _ hq')
    have hidx0 : ∀ t j w d, find s.env t = .opt j w d → j < k := hR.idx
    unfold stepS at hstep
    split at hstep <;> try cases hstep
    rename_i g hg
    have hgf : GuardFacts ops a c s.env (gch ops 20 o.guard) := fun p _ t _ => hR.env t
    split at hstep
    · rename_i d bs0 rq0 orc0 j want hop hgd
      cases hlt : Nat.blt j k with
      | false => simp [hlt] at hstep
      | true =>
        simp only [hlt, cond_true] at hstep
        obtain ⟨e, he, heq⟩ := Option.map_eq_some_iff.1 hstep
        simp only [Prod.mk.injEq] at heq
        obtain ⟨rfl, rfl, rfl⟩ := heq
        have hjk := blt_true hlt
        have hyj : ∀ v, yielded ops (a.put o.dst v).tmps j = yielded ops a.tmps j := fun v => yielded_put fun t ht e => by
          have := dsts_spec hnd (show (ops[k]?).bind (·.dst) = some t by rw [ho]; exact ht) e
          omega
        have hwant : Region.wanted o (yielded ops a.tmps) = (yielded ops a.tmps j == some want) := by simp [Region.wanted, hgd]
        cases hw : Region.wanted o (yielded ops a.tmps) with
        | true =>
          simp only [if_true]
          refine .inl (op_sound hR.inv (fun x _ => eval_gv hR x) hgf hg hw (by rw [hR.H]; exact hop) hb1 hq1 fun v c' hI' haf => ?_)
          obtain ⟨hgo, _, htv⟩ := haf
          refine next _ c' (rinv_put hnd hR ho hI' (fun t v hv => hgo.gv hv) hidx0 he (by rw [hgo.H]; exact hR.H) (.inl ⟨?_, htv⟩) (fun j' w' d' e => by cases e; exact hjk))
          rw [hyj]
          rw [hw] at hwant
          simpa using hwant.symm
        | false =>
          simp only [Bool.false_eq_true, if_false]
          refine next _ c (rinv_put hnd hR ho hR.inv (fun t v hv => hv) hidx0 he hR.H (.inr ⟨?_, rfl⟩) (fun j' w' d' e => by cases e; exact hjk))
          rw [hyj]
          rw [hw] at hwant
          simpa using hwant.symm
    · rename_i d bs0 rq0 orc0 hop hgd
      obtain ⟨e, he, heq⟩ := Option.map_eq_some_iff.1 hstep
      simp only [Prod.mk.injEq] at heq
      obtain ⟨rfl, rfl, rfl⟩ := heq
      have hw : Region.wanted o (yielded ops a.tmps) = true := by simp [Region.wanted, hgd]
      simp only [hw, if_true]
      refine .inl (op_sound hR.inv (fun x _ => eval_gv hR x) hgf hg hw (by rw [hR.H]; exact hop) hb1 hq1 fun v c' hI' haf => ?_)
      obtain ⟨hgo, _, htv⟩ := haf
      refine next _ c' (rinv_put hnd hR ho hI' (fun t v hv => hgo.gv hv) hidx0 he (by rw [hgo.H]; exact hR.H) (gv_of_tv htv) (fun j' w' d' e => ?_))
      subst e
      simp only [TV, AV] at htv
      exact absurd htv cv_not_opt
    · rename_i wd n f bs0 rq0 orc0 hop hgd
      obtain ⟨e, he, heq⟩ := Option.map_eq_some_iff.1 hstep
      simp only [Prod.mk.injEq] at heq
      obtain ⟨rfl, rfl, rfl⟩ := heq
      have hw : Region.wanted o (yielded ops a.tmps) = true := by simp [Region.wanted, hgd]
      simp only [hw, if_true]
      refine .inl (op_sound hR.inv (fun x _ => eval_gv hR x) hgf hg hw (by rw [hR.H]; exact hop) hb1 hq1 fun v c' hI' haf => ?_)
      obtain ⟨hH', htr, htv⟩ := haf
      refine next _ c' (rinv_put hnd hR ho hI' (fun t v hv => gv_trans htr hv) hidx0 he (by rw [hH', hR.H]) (gv_of_tv (by rw [← hR.H]; exact htv)) (fun j' w' d' e => by cases e))
    · rename_i hop hgd
      split at hstep
      · rename_i d bs0 hap
        obtain ⟨e, he, heq⟩ := Option.map_eq_some_iff.1 hstep
        simp only [Prod.mk.injEq] at heq
        obtain ⟨rfl, rfl, rfl⟩ := heq
        have hw : Region.wanted o (yielded ops a.tmps) = true := by simp [Region.wanted, hgd]
        simp only [hw, if_true]
        have hρ : ∀ x ∈ o.op.operands.toList, TV c (a.eval x) (unwrap [] (evD s.env x)) := fun x _ => unwrap_ok (a := a) (ops := ops) (by simp) (eval_gv hR x)
        obtain ⟨v, c', hrun', hI', hgo, _, htv⟩ := appPD_ok (ρc := a.eval) hR.inv hρ (by rw [hR.H]; exact hap) hb1
        refine .inl ?_
        unfold Oper.wp
        rw [hrun']
        refine next _ c' (rinv_put hnd hR ho hI' (fun t v hv => hgo.gv hv) hidx0 he (by rw [hgo.H]; exact hR.H) (gv_of_tv htv) (fun j' w' d' e => ?_))
        subst e
        simp only [TV, AV] at htv
        exact absurd htv cv_not_opt
      split at hstep
      · rename_i H' hcl
        obtain ⟨e, he, heq⟩ := Option.map_eq_some_iff.1 hstep
        simp only [Prod.mk.injEq] at heq
        obtain ⟨rfl, rfl, rfl⟩ := heq
        have hw : Region.wanted o (yielded ops a.tmps) = true := by simp [Region.wanted, hgd]
        simp only [hw, if_true]
        have hρ : ∀ x ∈ o.op.operands.toList, TV c (a.eval x) (unwrap [] (evD s.env x)) := fun x _ => unwrap_ok (a := a) (ops := ops) (by simp) (eval_gv hR x)
        obtain ⟨v, c', hrun', hI', hH', htr, htv⟩ := clrD_ok (ρc := a.eval) hR.inv hρ (by rw [hR.H]; exact hcl)
        have hfin0 := next (a.put o.dst v) c' (rinv_put hnd hR ho hI' (fun t v hv => gv_trans htr hv) hidx0 he hH' (gv_of_tv htv) (fun j' w' d' e => by cases e))
        refine .inl ?_
        unfold Oper.wp
        rcases hrun' with h1 | ⟨h1, rfl⟩
        · rw [h1]; exact hfin0
        · rw [h1]; exact hfin0
      split at hstep
      case h_2 =>
        split at hstep <;> try cases hstep
        rename_i d H' rq0 orc0 hlend
        obtain ⟨e, he, heq⟩ := Option.map_eq_some_iff.1 hstep
        simp only [Prod.mk.injEq] at heq
        obtain ⟨rfl, rfl, rfl⟩ := heq
        have hw : Region.wanted o (yielded ops a.tmps) = true := by simp [Region.wanted, hgd]
        simp only [hw, if_true]
        have hρ : ∀ x ∈ o.op.operands.toList, TV c (a.eval x) (unwrap [] (evD s.env x)) := fun x _ => unwrap_ok (a := a) (ops := ops) (by simp) (eval_gv hR x)
        refine .inl (lend_ok hR.inv hρ (by rw [hR.H]; exact hlend) hq1 fun v c' hI' hH' htr htv => ?_)
        refine next _ c' (rinv_put hnd hR ho hI' (fun t v hv => gv_trans htr hv) hidx0 he hH' (gv_of_tv htv) (fun j' w' d' e => ?_))
        subst e
        simp only [TV, AV] at htv
        exact absurd htv cv_not_opt
      rename_i d H' pid bs0 hheap
      obtain ⟨e, he, heq⟩ := Option.map_eq_some_iff.1 hstep
      simp only [Prod.mk.injEq] at heq
      obtain ⟨rfl, rfl, rfl⟩ := heq
      have hw : Region.wanted o (yielded ops a.tmps) = true := by simp [Region.wanted, hgd]
      simp only [hw, if_true]
      have hρ : ∀ x ∈ o.op.operands.toList, TV c (a.eval x) (unwrap [] (evD s.env x)) := fun x _ => unwrap_ok (a := a) (ops := ops) (by simp) (eval_gv hR x)
      obtain ⟨v, c', hrun', hI', hH', htr, htv⟩ := heapF_ok (ρc := a.eval) hR.inv hρ (by rw [hR.H]; exact hheap) hb1
      have hfin : wpOps P ops Q (List.range' (k + 1) l.length ++ rest) (a.put o.dst v) c'.w := by
        refine next _ c' (rinv_put hnd hR ho hI' (fun t v hv => ?_) (fun t j w d hf => ?_) he hH' (gv_of_tv htv) (fun j' w' d' e => ?_))
        · rw [find_map]
          exact gv_purge htr hv
        · rw [find_map] at hf
          exact hidx0 t j w d (purge_not_opt hf).2
        · subst e
          simp only [TV, AV] at htv
          exact absurd htv cv_not_opt
      refine .inl ?_
      unfold Oper.wp
      rcases hrun' with h1 | ⟨h1, rfl⟩
      · rw [h1]; exact hfin
      · rw [h1]; exact hfin
    · cases hstep
theorem rinv_of_rel {F : Fr} {nt : Nat} {ops : Array Oper} {k : Nat} {s : St} {a : Act} {w : World} {orc : List Res} (h : Rel F s a w) (hn : s.nt = nt) : ∃ c : Ctx, c.w = w ∧ RInv F nt ops k ⟨s.env, s.H, orc⟩ a c := by
  obtain ⟨c, rfl, hH, hI, henv, hsz, hd⟩ := h
  refine ⟨c, rfl, hH, hI, fun t => gv_of_tv (henv t), hsz.trans hn, hd, fun t j w d hf => ?_⟩
  have := henv t
  have hf : find s.env t = .opt j w d := hf
  rw [hf] at this
  simp only [TV, AV] at this
  exact absurd this cv_not_opt
end Nv
namespace Nv
open Go Go.RowKit
end Nv
namespace Nv
open Go Go.RowKit
theorem rel_drew {F : Fr} {s : St} {a : Act} {w : World} (h : Rel F s a w) : Rel F s a w.drew := by
  obtain ⟨c, rfl, hH, hI, henv, hsz, hd⟩ := h
  let c' : Ctx := { c with w := c.w.drew }
  have hgo : Goes c c' := ⟨rfl, rfl, fun _ h => h, fun _ _ => rfl, fun b hb => (hI.imm b hb).1, fun id b hb => (hI.loc id b hb).2.1⟩
  exact ⟨c', rfl, hH, hI.goes hgo (Bw.refl _ _).drew (fun _ h => .inl h), fun t => hgo.tv (henv t), hsz, hd⟩
theorem u_step {P : Program} {F : Fr} [GF P F] {nt : Nat} {ops : Array Oper} (hnd : dstsB ops = true) {i : Nat} {o : Oper} (ho : ops[i]? = some o) {s : St} (hnt : s.nt = nt) {orc : List Res} {r : RS} {bs : List Bool} {rq : List Req} (h : stepS P nt ops i ⟨s.env, s.H, orc⟩ o = some (r, bs, rq))
    (hb : ∀ b ∈ bs, b = true) (hq : ∀ q ∈ rq, q.ok P) {Q : Exit → Act → World → Prop} {K : Act → World → Prop} (keys : List Nat) (hK : ∀ a w, Rel F ⟨nt, fin r.env keys, r.H⟩ a w → K a w) {a : Act} {w : World} (hR : Rel F s a w) : wpOp P ops Q i K a w := by
  obtain ⟨c, rfl, h0⟩ := rinv_of_rel (ops := ops) (k := i) (orc := orc) hR hnt
  have hw := seq_soundR hnd (Q := QK Q K) (rest := []) [o] i ⟨s.env, s.H, orc⟩ r bs rq (fun j => by
      cases j with
      | zero => left; rw [Nat.add_zero, ho]; rfl
      | succ j => right; simp) (by simp only [runS, h, List.append_nil]) hb hq a c h0 (fun a' c' hR' => hK _ _ (rinv_fin hR' keys))
  rw [show List.range' i [o].length ++ [] = [i] from rfl, wpOps_cons] at hw
  unfold wpOp at hw ⊢
  simp only [ho] at hw ⊢
  split
  · rename_i hwn
    rw [if_pos hwn] at hw
    exact hw.imp (fun h => wp_qk (fun _ _ h => h) h) fun h => h
  · rename_i hwn
    rw [if_neg hwn] at hw
    exact hw
abbrev UDat := List (List Res × List Bool × List Req)
section
variable (P : Program) (nt : Nat) (ops : Array Oper) (keys : List Nat) (dat : UDat)
def tStep (k : Nat) (s : St) : Option (St × List Bool × List Req) :=
  match ops[k]? with
  | some o => match stepS P nt ops k ⟨s.env, s.H, (dat.getD k ([], [], [])).1⟩ o with
    | some (r, bs, rq) => some (⟨nt, fin r.env keys, r.H⟩, bs, rq)
    | none => none
  | none => none
def tRun (s : St) (listed : Array Bool) : Nat → Option St
  | 0 => some ⟨nt, fin s.env keys, s.H⟩
  | k + 1 => match tRun s listed k with
    | some st => match listed.getD k false with
      | true => match tStep P nt ops keys dat k st with
        | some (st', _, _) => some st'
        | none => none
      | false => some st
    | none => none
def tEnd (s : St) : Option (St × List Bool × List Req) := match tRun P nt ops keys dat s (Array.replicate ops.size true) ops.size with
  | some st => some (st, [], [])
  | none => none
def tPairs (s : St) : Nat → Array Bool → List (Option (St × List Bool × List Req) × Option (St × List Bool × List Req))
  | 0, listed => [((tRun P nt ops keys dat s listed ops.size).bind fun st => some (st, [], []), tEnd P nt ops keys dat s)]
  | f + 1, listed => (Region.ready .any ops listed).flatMap fun i =>
      ((tRun P nt ops keys dat s listed ops.size).bind fun st => tStep P nt ops keys dat i st, (tRun P nt ops keys dat s (listed.setIfInBounds i true) ops.size).bind fun st => some (st, (dat.getD i ([], [], [])).2.1, (dat.getD i ([], [], [])).2.2)) :: tPairs s f (listed.setIfInBounds i true)
def tShape : Nat → Array Bool → Bool
  | 0, listed => (Region.ready .any ops listed).isEmpty
  | f + 1, listed => !(Region.ready .any ops listed).isEmpty && (Region.ready .any ops listed).all fun i => tShape f (listed.setIfInBounds i true)
end
theorem map_eq_all {α β : Type} {f g : α → β} : ∀ {l : List α}, l.map f = l.map g → ∀ x ∈ l, f x = g x
  | [], _, x, hx => by cases hx
  | y :: l, h, x, hx => by
    simp only [List.map_cons, List.cons.injEq] at h
    rcases List.mem_cons.1 hx with rfl | hx
    · exact h.1
    · exact map_eq_all h.2 x hx
theorem dat_bs {dat : UDat} {i : Nat} {b : Bool} (h : b ∈ (dat.getD i ([], [], [])).2.1) : b ∈ dat.flatMap (·.2.1) := by
  rcases Nat.lt_or_ge i dat.length with h1 | h1
  · rw [List.getD_eq_getElem?_getD, List.getElem?_eq_getElem h1, Option.getD_some] at h
    exact List.mem_flatMap.2 ⟨_, List.getElem_mem h1, h⟩
  · rw [List.getD_eq_getElem?_getD, List.getElem?_eq_none h1, Option.getD_none] at h
    cases h
theorem dat_rq {dat : UDat} {i : Nat} {b : Req} (h : b ∈ (dat.getD i ([], [], [])).2.2) : b ∈ dat.flatMap (·.2.2) := by
  rcases Nat.lt_or_ge i dat.length with h1 | h1
  · rw [List.getD_eq_getElem?_getD, List.getElem?_eq_getElem h1, Option.getD_some] at h
    exact List.mem_flatMap.2 ⟨_, List.getElem_mem h1, h⟩
  · rw [List.getD_eq_getElem?_getD, List.getElem?_eq_none h1, Option.getD_none] at h
    cases h
theorem tRun_nt {P : Program} {nt : Nat} {ops : Array Oper} {keys : List Nat} {dat : UDat} {s : St} {listed : Array Bool} : ∀ {k : Nat} {st : St}, tRun P nt ops keys dat s listed k = some st → st.nt = nt
  | 0, st, h => by simp only [tRun, Option.some.injEq] at h; rw [← h]
  | k + 1, st, h => by
    simp only [tRun] at h
    split at h <;> try cases h
    rename_i st0 h0
    split at h
    · split at h <;> try cases h
      rename_i st' b q hs
      unfold tStep at hs
      split at hs <;> try cases hs
      split at hs <;> try cases hs
      rfl
    · cases h; exact tRun_nt h0
theorem u_main {P : Program} {F : Fr} [GF P F] {nt : Nat} {ops : Array Oper} {keys : List Nat} {dat : UDat} {s sF : St} (hnd : dstsB ops = true) (hb : ∀ b ∈ dat.flatMap (·.2.1), b = true) (hq : ∀ q ∈ dat.flatMap (·.2.2), q.ok P)
    (hF : tRun P nt ops keys dat s (Array.replicate ops.size true) ops.size = some sF) {Q : Exit → Act → World → Prop} (hQ : ∀ a w, Rel F sF a w → Q .normal a w) :
    ∀ (fuel : Nat) (listed : Array Bool) (a : Act) (w : World) (st : St), tShape ops fuel listed = true → (∀ p ∈ tPairs P nt ops keys dat s fuel listed, p.1 = p.2) → (∀ p ∈ tPairs P nt ops keys dat s fuel listed, p.1.isSome = true) →
      tRun P nt ops keys dat s listed ops.size = some st → Rel F st a w → wpAny P .any ops Q fuel listed a w
  | 0, listed, a, w, st, hs, hp, _, ht, hR => by
    refine ⟨by simpa [tShape] using hs, ?_⟩
    have := hp _ List.mem_cons_self
    simp only [ht, tEnd, hF, Option.bind_some, Option.some.injEq, Prod.mk.injEq, and_true] at this
    exact hQ _ _ (this ▸ hR)
  | f + 1, listed, a, w, st, hs, hp, hm, ht, hR => by
    simp only [tShape, Bool.and_eq_true, Bool.not_eq_true', List.all_eq_true] at hs
    refine ⟨fun h => by rw [h] at hs; simp at hs, fun i hi => ?_⟩
    have hin : ∀ p, p ∈ ((tRun P nt ops keys dat s listed ops.size).bind fun st => tStep P nt ops keys dat i st, (tRun P nt ops keys dat s (listed.setIfInBounds i true) ops.size).bind fun st => some (st, (dat.getD i ([], [], [])).2.1, (dat.getD i ([], [], [])).2.2)) :: tPairs P nt ops keys dat s f (listed.setIfInBounds i true) → p ∈ tPairs P nt ops keys dat s (f + 1) listed := fun p h => by
      simp only [tPairs]
      exact List.mem_flatMap.2 ⟨i, hi, h⟩
    have e := hp _ (hin _ List.mem_cons_self)
    have e2 := hm _ (hin _ List.mem_cons_self)
    simp only [ht, Option.bind_some] at e e2
    obtain ⟨⟨st1, b1, q1⟩, h1⟩ := Option.isSome_iff_exists.1 e2
    rw [h1] at e
    cases ht2 : tRun P nt ops keys dat s (listed.setIfInBounds i true) ops.size with
    | none => rw [ht2] at e; cases e
    | some st2 =>
      rw [ht2] at e
      simp only [Option.bind_some, Option.some.injEq, Prod.mk.injEq] at e
      obtain ⟨rfl, rfl, rfl⟩ := e
      unfold tStep at h1
      split at h1 <;> try cases h1
      rename_i o ho
      split at h1 <;> try cases h1
      rename_i r hst
      exact u_step hnd ho (tRun_nt ht) hst (fun b h => hb b (dat_bs h)) (fun q h => hq q (dat_rq h)) keys (fun a w hR' =>
        u_main hnd hb hq hF hQ f _ a w _ (hs.2 i hi) (fun p h => hp p (hin p (List.mem_cons_of_mem _ h))) (fun p h => hm p (hin p (List.mem_cons_of_mem _ h))) ht2 hR') hR
def regU (P : Program) (ops : Array Oper) (keys : List Nat) (dat : UDat) (keep : List Nat) (hn : Nat) (s : St) : Option St :=
  match tRun P s.nt ops keys dat s (Array.replicate ops.size true) ops.size with
  | some sF => cutS hn ⟨s.nt, fin sF.env keep, sF.H⟩
  | none => none
theorem rgu {P : Program} {Q : Exit → St → Prop} {s : St} {id : Nat} {ops : Array Oper} (keys : List Nat) (dat : UDat) (keep : List Nat) (hn : Nat) (s' : St) (bs : List Bool) (rq : List Req) (hb : ∀ b ∈ bs, b = true) (hq : Reqs P rq) (k : Q .normal s')
    (h1 : dat.flatMap (·.2.1) = bs := by rfl) (h2 : dat.flatMap (·.2.2) = rq := by rfl) (h3 : regU P ops keys dat keep hn s = some s' := by kernel_rfl)
    (h4 : (tPairs P s.nt ops keys dat s ops.size (Array.replicate ops.size false)).map (·.1) = (tPairs P s.nt ops keys dat s ops.size (Array.replicate ops.size false)).map (·.2) := by kernel_rfl)
    (h5 : (P.follows .mixedOrders && dstsB ops && tShape ops ops.size (Array.replicate ops.size false) && (tPairs P s.nt ops keys dat s ops.size (Array.replicate ops.size false)).all fun p => p.1.isSome) = true := by kernel_rfl) : AWP P (.region id ops true) Q s := by
  subst h1; subst h2
  intro F a w hG hR
  simp only [Bool.and_eq_true] at h5
  obtain ⟨⟨⟨hmo, hnd⟩, hsh⟩, hsm⟩ := h5
  unfold regU at h3
  split at h3 <;> try cases h3
  rename_i sF hF
  have hst : ∀ m, tRun P s.nt ops keys dat s (Array.replicate ops.size false) m = some ⟨s.nt, fin s.env keys, s.H⟩ := fun m => by
    induction m with
    | zero => rfl
    | succ m ih => simp only [tRun, ih, getD_rep_false]
  refine wp_region_any hmo ?_
  refine u_main (F := F) hnd hb hq.all hF (fun a' w' hR' => ⟨s', k, ?_⟩) ops.size _ a w.drew _ hsh (map_eq_all h4) (fun p hp => List.all_eq_true.1 hsm p hp) (hst _) ?_
  · obtain ⟨c, hc, h0⟩ := rinv_of_rel (ops := ops) (k := 0) (orc := []) (rel_drew hR) rfl
    rw [← hc]
    exact rinv_fin h0 keys
  · obtain ⟨c, rfl, h0⟩ := rinv_of_rel (ops := ops) (k := 0) (orc := []) hR' (tRun_nt hF)
    exact le_cut h3 F _ c.w (rinv_fin h0 keep)
end Nv
namespace Nv
open Go Go.RowKit
theorem casl_len {i o n n' : Nat} (h : n = n') : CSub (.asl i o n) (.asl i o n') := h ▸ CSub.rfl
end Nv
