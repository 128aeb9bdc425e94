/- Regions: the operations of one statement, on abstract values. One operation. -/
import Derived.Test.YtmangnohekiphaaNvCall
namespace Nv
open Go Go.RowKit

def find : List (Nat × D) → Nat → D
  | [], _ => .any
  | (u, d) :: r, t => bif Nat.beq u t then d else find r t

def evD (env : List (Nat × D)) : Operand → D
  | .tmp t => find env t
  | .const v => dv v
  | .func f => .fn f []
  | .global _ => .any

/-- A call that is owed: under the guard g, function f at ds gives r. -/
structure Req where
  g : Bool
  f : FuncId
  ds : List D
  r : Res
def Req.ok (P : Program) (q : Req) : Prop := match q.r with
  | .lnd wd n g g' d => q.g = true → FnM P q.f q.ds wd n g g' d
  | r => q.g = true → Fn P q.f q.ds r

/-- The guards under which an operation stands, the nearest first. -/
def gch (ops : Array Oper) : Nat → Option (Nat × Bool) → List (Nat × Bool)
  | 0, _ => []
  | _ + 1, none => []
  | n + 1, some (j, w) => (j, w) :: gch ops n ((ops[j]?).bind (·.guard))
def look (ops : Array Oper) (env : List (Nat × D)) (j : Nat) : D :=
  match (ops[j]?).bind (·.dst) with
  | some t => find env t
  | none => .any
def gEval (ops : Array Oper) (env : List (Nat × D)) : List (Nat × Bool) → Option Bool
  | [] => some true
  | [(j, w)] => match look ops env j with
    | .bool b => some (bif w then b else !b)
    | _ => none
  | (j, w) :: (j0, w0) :: r => match look ops env j, gEval ops env ((j0, w0) :: r) with
    | .opt j' w' (.bool b), some g => bif Nat.beq j' j0 && (w' == w0) then some (g && (bif w then b else !b)) else none
    | _, _ => none
def unwrap (al : List (Nat × Bool)) : D → D
  | .opt j w d => bif al.any (fun p => Nat.beq p.1 j && (p.2 == w)) then d else .any
  | d => d

/-- 'c && x', 'c || y'. -/
def unwrapT (ops : Array Oper) (c : Operand) (w : Bool) (al : List (Nat × Bool)) (d : D) : D :=
  match c, d with
  | .tmp t, .opt j w' d' => bif (w' == w) && (match (ops[j]?).bind (·.dst) with | some u => Nat.beq u t | none => false) then d' else unwrap al (.opt j w' d')
  | _, d => unwrap al d
def isFalse : Operand → Bool
  | .const (.bool false) => true
  | _ => false
def isTrue : Operand → Bool
  | .const (.bool true) => true
  | _ => false
def pickD (ops : Array Oper) (env : List (Nat × D)) (al : List (Nat × Bool)) (c x y : Operand) : Option D :=
  match unwrap al (evD env c) with
  | .bool b => match unwrapT ops c true al (evD env x), unwrapT ops c false al (evD env y) with
    | .bool p, .bool q => bif isFalse y then some (.bool (b && p)) else bif isTrue x then some (.bool (b || q)) else some (.bool (bif b then p else q))
    | _, _ => none
  | _ => none

def callable (P : Program) (f : FuncId) : Bool :=
  match P.funcs[f]? with
  | some fn => !(fn.name == "runtime.NumGoroutine") && fn.body.isSome
  | none => false

def argsD (P : Program) (H : List Ob) : List TypeId → List D → List D
  | t :: ts, d :: ds => normA P H t d :: argsD P H ts ds
  | _, _ => []
def guardB (g b : Bool) : Bool := bif g then b else true

def opD (P : Program) (H : List Ob) (ops : Array Oper) (env : List (Nat × D)) (al : List (Nat × Bool)) (orc : List Res) (g : Bool) (o : Oper) : Option (Res × List Bool × List Req × List Res) :=
  match o.op with
  | .pick c x y => (pickD ops env al c x y).map fun d => (.pure d, [], [], orc)
  | .call { callee := .value f, args := args, argTypes := ts } => match unwrap al (evD env f), orc with
    | .fn k cap, r :: orc' =>
      bif callable P k && (argsD P H ts.toList (args.toList.map fun x => unwrap al (evD env x))).all pArg && Nat.beq args.size ts.size && cap.all persB &&
          (scalarB r || !(args.toList.any fun x => ownA (unwrap al (evD env x)))) && notMut r then
        some (r, [], [⟨g, k, argsD P H ts.toList (args.toList.map fun x => unwrap al (evD env x)) ++ cap, r⟩], orc') else none
    | _, _ => none
  | op => (pureOp P H (fun x => unwrap al (evD env x)) o.type op).map fun r => (.pure r.1, r.2.map (guardB g), [], orc)

/-! what a guard's value tells -/
section
variable {c : Ctx} {ops : Array Oper} {a : Act} {env : List (Nat × D)}

theorem yielded_bool {j t : Nat} {b : Bool} (hd : (ops[j]?).bind (·.dst) = some t) (h : a.tmps.getD t undef = .bool b) : yielded ops a.tmps j = some b := by
  unfold yielded
  rw [hd]
  simp only [Option.bind_some]
  rcases Nat.lt_or_ge t a.tmps.size with h1 | h1
  · simp [h1] at h
    simp [h1, h]
  · simp [h1, undef] at h
theorem yielded_inv {j t : Nat} {b : Bool} (hd : (ops[j]?).bind (·.dst) = some t) (h : yielded ops a.tmps j = some b) : a.tmps.getD t undef = .bool b := by
  unfold yielded at h
  rw [hd] at h
  simp only [Option.bind_some] at h
  split at h
  · rename_i b' hb
    simp only [Option.some.injEq] at h
    subst h
    simp [hb]
  · cases h
theorem yielded_dst {j : Nat} {b : Bool} (h : yielded ops a.tmps j = some b) : ∃ t, (ops[j]?).bind (·.dst) = some t := by
  unfold yielded at h
  cases hd : (ops[j]?).bind (·.dst) with
  | none => rw [hd] at h; simp at h
  | some t => exact ⟨t, rfl⟩

/-- The facts on the guards' temporaries. -/
def GuardFacts (ops : Array Oper) (a : Act) (c : Ctx) (env : List (Nat × D)) (ch : List (Nat × Bool)) : Prop :=
  ∀ p ∈ ch, ∀ t, (ops[p.1]?).bind (·.dst) = some t → GV (yielded ops a.tmps) c (a.tmps.getD t undef) (find env t)

theorem chain_ok : ∀ (n : Nat) (gd : Option (Nat × Bool)) (g : Bool), GuardFacts ops a c env (gch ops n gd) → gEval ops env (gch ops n gd) = some g →
    (∀ j w, gd = some (j, w) → yielded ops a.tmps j = some w) → (∀ p ∈ gch ops n gd, yielded ops a.tmps p.1 = some p.2) ∧ g = true
  | 0, gd, g, _, hg, _ => by
    simp only [gch, gEval, Option.some.injEq] at hg
    exact ⟨fun p hp => by simp [gch] at hp, hg.symm⟩
  | n + 1, none, g, _, hg, _ => by
    simp only [gch, gEval, Option.some.injEq] at hg
    exact ⟨fun p hp => by simp [gch] at hp, hg.symm⟩
  | n + 1, some (j, w), g, hf, hg, hy => by
    have hj := hy j w rfl
    obtain ⟨t, ht⟩ := yielded_dst hj
    have hv := yielded_inv ht hj
    have hgv := hf (j, w) (by simp [gch]) t ht
    rw [hv] at hgv
    simp only [gch] at hg ⊢
    cases hr : gch ops n ((ops[j]?).bind (·.guard)) with
    | nil =>
      rw [hr] at hg
      simp only [gEval] at hg
      split at hg <;> try cases hg
      rename_i b hb
      simp only [look, ht] at hb
      rw [hb] at hgv
      have := TV.bool_inv (show TV c (.bool w) (.bool b) from hgv)
      cases this
      refine ⟨fun p hp => by simp at hp; subst hp; exact hj, ?_⟩
      cases w <;> rfl
    | cons q r =>
      obtain ⟨j0, w0⟩ := q
      rw [hr] at hg
      simp only [gEval] at hg
      split at hg <;> try cases hg
      rename_i j' w' b g0 hb hg0
      cases hc : (Nat.beq j' j0 && (w' == w0)) with
      | false => rw [hc] at hg; cases hg
      | true =>
        simp only [hc, cond_true, Option.some.injEq] at hg
        simp only [Bool.and_eq_true, beq_iff_eq] at hc
        obtain rfl := Nat.eq_of_beq_eq_true hc.1
        obtain rfl := hc.2
        simp only [look, ht] at hb
        rw [hb] at hgv
        rcases hgv with ⟨h1, h2⟩ | ⟨_, h2⟩
        · have hgd : (ops[j]?).bind (·.guard) = some (j', w') := by
            cases n with
            | zero => simp [gch] at hr
            | succ n =>
              cases hgg : (ops[j]?).bind (·.guard) with
              | none => rw [hgg] at hr; simp [gch] at hr
              | some q => obtain ⟨q1, q2⟩ := q; rw [hgg] at hr; simp only [gch, List.cons.injEq, Prod.mk.injEq] at hr; obtain ⟨⟨rfl, rfl⟩, _⟩ := hr; rfl
          have ih := chain_ok n ((ops[j]?).bind (·.guard)) g0 (fun p hp => hf p (by simp only [gch]; exact List.mem_cons_of_mem _ hp)) (by rw [hr]; exact hg0) (fun j1 w1 h3 => by rw [hgd] at h3; cases h3; exact h1)
          rw [hr] at ih
          have hbw := TV.bool_inv h2
          cases hbw
          refine ⟨fun p hp => ?_, ?_⟩
          · rcases List.mem_cons.1 hp with rfl | hp
            · exact hj
            · exact ih.1 p hp
          · rw [← hg, ih.2]; cases w <;> rfl
        · simp [undef] at h2

theorem unwrap_ok {al : List (Nat × Bool)} (hal : ∀ p ∈ al, yielded ops a.tmps p.1 = some p.2) {v : Value} {d : D} (h : GV (yielded ops a.tmps) c v d) : TV c v (unwrap al d) := by
  cases d <;> try exact h
  rename_i j w d
  simp only [unwrap]
  cases hc : (al.any fun p => Nat.beq p.1 j && (p.2 == w)) with
  | false => exact tv_any
  | true =>
    simp only [List.any_eq_true, Bool.and_eq_true, beq_iff_eq] at hc
    obtain ⟨p, hp, h1, h2⟩ := hc
    have h3 := hal p hp
    rw [Nat.eq_of_beq_eq_true h1, h2] at h3
    rcases h with ⟨_, h4⟩ | ⟨h4, _⟩
    · exact h4
    · exact absurd h3 h4
theorem unwrapT_ok {al : List (Nat × Bool)} (hal : ∀ p ∈ al, yielded ops a.tmps p.1 = some p.2) {cd : Operand} {w : Bool} (hc : a.eval cd = .bool w) {v : Value} {d : D} (h : GV (yielded ops a.tmps) c v d) : TV c v (unwrapT ops cd w al d) := by
  unfold unwrapT
  split
  · rename_i t j w' d'
    cases hb : ((w' == w) && (match (ops[j]?).bind (·.dst) with | some u => Nat.beq u t | none => false)) with
    | false => exact unwrap_ok hal h
    | true =>
      simp only [Bool.and_eq_true, beq_iff_eq] at hb
      obtain ⟨rfl, hb⟩ := hb
      split at hb <;> try cases hb
      rename_i u hu
      obtain rfl := Nat.eq_of_beq_eq_true hb
      have h3 := yielded_bool (a := a) hu hc
      rcases h with ⟨_, h4⟩ | ⟨h4, _⟩
      · exact h4
      · exact absurd h3 h4
  · exact unwrap_ok hal h
end
end Nv
