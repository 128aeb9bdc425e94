/- Words in which the mirrors of functions are written, and how their proofs go on from step to step. -/
import Derived.Test.YtmangnohekiphaaNvFn
import Derived.KernelRfl
namespace Nv
open Go Go.RowKit

def gd {α : Type} (l : List Bool) (k : Option α) : Option α := bif l.all id then k else none
theorem gd_some {α : Type} {l : List Bool} {k : Option α} {r : α} (h : gd l k = some r) : (∀ b ∈ l, b = true) ∧ k = some r := by
  unfold gd at h
  cases hb : l.all id with
  | false => simp [hb] at h
  | true =>
    simp only [hb, cond_true] at h
    exact ⟨fun b hb' => by have := List.all_eq_true.1 hb b hb'; simpa using this, h⟩
def gc {α : Type} [Inhabited α] (g : Bool) (o : Option α) : Option α := bif g then o else some default
theorem gc_some {α : Type} [Inhabited α] {g : Bool} {o : Option α} {r : α} (h : gc g o = some r) (hg : g = true) : o = some r := by
  subst hg; exact h
theorem bind_some {α β : Type} {o : Option α} {f : α → Option β} {r : β} (h : o.bind f = some r) : ∃ x, o = some x ∧ f x = some r := Option.bind_eq_some_iff.1 h
theorem nil_all : ∀ b ∈ ([] : List Bool), b = true := by simp

open Classical in
noncomputable def loopM {α β : Type} (f : α → Option (α ⊕ β)) (x : α) : Option β := if h : ∃ y, Iter f x y then some h.choose else none
theorem Iter.det {α β : Type} {f : α → Option (α ⊕ β)} {x : α} {y y' : β} (h : Iter f x y) (k : Iter f x y') : y = y' := by
  induction h with
  | out h =>
    cases k with
    | out h' => rw [h] at h'; cases h'; rfl
    | next h' _ => rw [h] at h'; cases h'
  | next h r ih =>
    cases k with
    | out h' => rw [h] at h'; cases h'
    | next h' r' => rw [h] at h'; cases h'; exact ih r'
theorem loopM_iter {α β : Type} {f : α → Option (α ⊕ β)} {x : α} {y : β} (h : loopM f x = some y) : Iter f x y := by
  unfold loopM at h
  split at h
  · rename_i hx
    simp only [Option.some.injEq] at h
    rw [← h]
    exact hx.choose_spec
  · cases h
theorem loopM_of {α β : Type} {f : α → Option (α ⊕ β)} {x : α} {y : β} (h : Iter f x y) : loopM f x = some y := by
  unfold loopM
  have hx : ∃ y, Iter f x y := ⟨y, h⟩
  rw [dif_pos hx, hx.choose_spec.det h]
theorem loopM_eq {α β : Type} (f : α → Option (α ⊕ β)) (x : α) : loopM f x = (f x).bind fun r => match r with | .inl x' => loopM f x' | .inr y => some y := by
  cases hf : f x with
  | none =>
    simp only [Option.bind_none]
    unfold loopM
    rw [dif_neg]
    rintro ⟨y, h⟩
    cases h with
    | out h => rw [hf] at h; cases h
    | next h _ => rw [hf] at h; cases h
  | some r =>
    cases r with
    | inr y => exact loopM_of (.out hf)
    | inl x' =>
      show loopM f x = loopM f x'
      cases hl : loopM f x' with
      | some y => exact loopM_of (.next hf (loopM_iter hl))
      | none =>
        cases hl2 : loopM f x with
        | none => rfl
        | some y =>
          have := loopM_iter hl2
          cases this with
          | out h => rw [hf] at h; cases h
          | next h r => rw [hf] at h; cases h; rw [loopM_of r] at hl; cases hl

/-! where a way ends -/
section
variable {P : Program} {Q : Exit → St → Prop} {s s' : St} {y : Code} {id id' : Nat}
theorem then_n (h : AWP P y Q s) : Then P y Q .normal s := h
theorem then_le (h : Le s s') (k : AWP P y Q s') : Then P y Q .normal s := awp_le h k
theorem then_e (h : Q (.exit id) s) : Then P y Q (.exit id) s := h
theorem then_r (h : Q .ret s) : Then P y Q .ret s := h
theorem inb_here (h : Q .normal s) : InBlock id Q (.exit id) s := by simp only [InBlock, if_true]; exact h
theorem inb_other (hne : Nat.beq id' id = false) (h : Q (.exit id') s) : InBlock id Q (.exit id') s := by
  simp only [InBlock]; rw [if_neg (Nat.ne_of_beq_eq_false hne)]; exact h
theorem inb_n (h : Q .normal s) : InBlock id Q .normal s := h
theorem inb_r (h : Q .ret s) : InBlock id Q .ret s := h
theorem round_n {α β : Type} {S : α → St} {O : β → Exit → St → Prop} {x : α} (h : Le s (S x)) : Round S O (.inl x) .normal s := ⟨rfl, h⟩
theorem round_e {α β : Type} {S : α → St} {O : β → Exit → St → Prop} {y : β} (h : O y (.exit id) s) : Round S O (.inr y) (.exit id) s := ⟨by simp, h⟩
theorem round_r {α β : Type} {S : α → St} {O : β → Exit → St → Prop} {y : β} (h : O y .ret s) : Round S O (.inr y) .ret s := ⟨by simp, h⟩
/-- A loop from its inside: a round, then the loop again. -/
def LWP (P : Program) (c : Code) (Q : Exit → St → Prop) (s : St) : Prop :=
  ∀ F a w, Rel F s a w → ∀ b k cs, ∃ e a' w', (∃ s', Q e s' ∧ Rel F s' a' w') ∧ Arrives P (lone (b.at a (.code c :: .inLoop c :: k)) cs w) b k cs e a' w'
def ThenL (P : Program) (c : Code) (Q : Exit → St → Prop) : Exit → St → Prop
  | .normal, s => LWP P c Q s
  | e, s => Q e s
theorem awp_unroll {c : Code} (h : LWP P c Q s) : AWP P (.loop c) Q s := fun F a w hR b k cs =>
  let ⟨e, a', w', hq, harr⟩ := h F a w hR b k cs
  ⟨e, a', w', hq, .of_steps (.one step_loop) harr⟩
theorem lwp_round {c : Code} (h : AWP P c (ThenL P c Q) s) : LWP P c Q s := by
  intro F a w hR b k cs
  obtain ⟨e, a₁, w₁, ⟨s', hq, hR'⟩, harr⟩ := h F a w hR b (.inLoop c :: k) cs
  cases e with
  | normal =>
    obtain ⟨e₂, a₂, w₂, hq₂, harr₂⟩ := hq F a₁ w₁ hR' b k cs
    exact ⟨e₂, a₂, w₂, hq₂, .of_steps (Steps.trans harr (.one step_inLoop)) harr₂⟩
  | exit id => exact ⟨_, a₁, w₁, ⟨s', hq, hR'⟩, .pass (x := .inLoop c) rfl (fun _ _ => .inl (by simp)) harr⟩
  | goto l => exact ⟨_, a₁, w₁, ⟨s', hq, hR'⟩, .pass (x := .inLoop c) rfl (fun _ _ => .inl (by simp)) harr⟩
  | ret => exact ⟨_, a₁, w₁, ⟨s', hq, hR'⟩, .pass (x := .inLoop c) rfl (fun _ _ => .inl (by simp)) harr⟩
  | panic ch => exact ⟨_, a₁, w₁, ⟨s', hq, hR'⟩, .pass (x := .inLoop c) rfl (fun _ _ => .inl (by simp)) harr⟩
  | outgrown => exact ⟨_, a₁, w₁, ⟨s', hq, hR'⟩, .pass (x := .inLoop c) rfl (fun _ _ => .inl (by simp)) harr⟩
theorem thenl_n {c : Code} (h : LWP P c Q s) : ThenL P c Q .normal s := h
theorem thenl_le {c : Code} (h : Le s s') (k : LWP P c Q s') : ThenL P c Q .normal s := fun F a w hR => k F a w (h F a w hR)
theorem thenl_e {c : Code} (h : Q (.exit id) s) : ThenL P c Q (.exit id) s := h
theorem thenl_r {c : Code} (h : Q .ret s) : ThenL P c Q .ret s := h
theorem le_rfl : Le s s := fun _ _ _ h => h
theorem Le.trans {s'' : St} (h : Le s s') (k : Le s' s'') : Le s s'' := fun F a w hR => k F a w (h F a w hR)
end

def Reqs (P : Program) : List Req → Prop
  | [] => True
  | q :: r => q.ok P ∧ Reqs P r
theorem Reqs.all {P : Program} : ∀ {l : List Req}, Reqs P l → ∀ q ∈ l, q.ok P
  | [], _, q, h => by cases h
  | q :: r, ⟨h1, h2⟩, q', h => by
    rcases List.mem_cons.1 h with rfl | h
    · exact h1
    · exact h2.all q' h
theorem awp_reg {P : Program} {Q : Exit → St → Prop} {s : St} {id : Nat} {ops : Array Oper} {draw : Bool} (orc : List Res) (keep : List Nat) (hn : Nat) (s' : St) (bs : List Bool) (rq : List Req)
    (h : regS P ops draw orc keep hn s = some (s', bs, rq)) (hb : ∀ b ∈ bs, b = true) (hq : Reqs P rq) (k : Q .normal s') : AWP P (.region id ops draw) Q s := awp_region orc keep hn h hb hq.all k

/-- Ways that meet again. -/
theorem awp_join {P : Program} {x y : Code} {s : St} {α : Type} {Q : Exit → St → Prop} (S : α → St) (K : α → Prop) (h2 : ∀ p, K p → AWP P y Q (S p))
    (h1 : (∀ p, K p → AWP P y Q (S p)) → AWP P x (Then P y Q) s) : AWP P (.seq x y) Q s := awp_seq (h1 h2)
theorem cond_t {α : Type} {b : Bool} {x y r : α} (hb : b = true) (h : (bif b then x else y) = r) : x = r := by subst hb; exact h
theorem cond_f {α : Type} {b : Bool} {x y r : α} (hb : b = false) (h : (bif b then x else y) = r) : y = r := by subst hb; exact h
theorem elim_l {α β γ : Type} {f : α → γ} {g : β → γ} {x : α} {r : γ} (h : Sum.elim f g (.inl x) = r) : f x = r := h
theorem elim_r {α β γ : Type} {f : α → γ} {g : β → γ} {x : β} {r : γ} (h : Sum.elim f g (.inr x) = r) : g x = r := h

/-! typed data -/
def sL {α : Type} [Inhabited α] (wd : Nat) (c : α → List D) (l : List α) : D := .sl false wd l.length fun i => c (l.getD i default)
def aL {α : Type} [Inhabited α] (wd : Nat) (c : α → List D) (l : List α) : Ob := .arr wd l.length fun i => c (l.getD i default)
def oL {α : Type} [Inhabited α] (wd : Nat) (c : α → List D) (l : List α) : Res := .own wd l.length fun i => c (l.getD i default)

/-! the same in other words -/
def CSub (d d' : D) : Prop := ∀ (c : Ctx) (v : Value), CV c v d → CV c v d'
theorem CSub.rfl {d : D} : CSub d d := fun _ _ h => h
theorem csub_sl {full : Bool} {wd n n' : Nat} {f g : Nat → List D} (hn : n = n') (hf : ∀ i, i < n → f i = g i) : CSub (.sl full wd n f) (.sl false wd n' g) := by
  subst hn
  intro c v h
  simp only [CV] at h ⊢
  cases h with
  | sl a n cap wd full f g0 hfull hcap hb hw hone hv =>
    exact .sl a n cap wd false g g0 (fun h => by cases h) hcap hb (fun i hi => by rw [← hf i hi]; exact hw i hi) hone (fun i hi j d hd => hv i hi j d (by rw [hf i hi]; exact hd))
theorem csub_nil {full : Bool} {wd wd' : Nat} {f g : Nat → List D} : CSub (.sl full wd 0 f) (.sl false wd' 0 g) := by
  intro c v h
  simp only [CV] at h ⊢
  cases h with
  | sl a n cap wd full f g0 hfull hcap hb hw hone hv =>
    exact .sl a 0 cap wd' false g (fun _ _ => undef) (fun h => by cases h) hcap (fun h => by omega) (fun i hi => by omega) (fun i hi => by omega) (fun i hi => by omega)
inductive CsSub : List D → List D → Prop
  | nil : CsSub [] []
  | cons {d d' : D} {ds ds' : List D} (h : CSub d d') (t : CsSub ds ds') : CsSub (d :: ds) (d' :: ds')
theorem CsSub.rfl : ∀ {ds : List D}, CsSub ds ds
  | [] => .nil
  | _ :: _ => .cons CSub.rfl CsSub.rfl
theorem CsSub.spec {ds ds' : List D} (h : CsSub ds ds') : ds.length = ds'.length ∧ ∀ (i : Nat) (d' : D), ds'[i]? = some d' → ∃ d, ds[i]? = some d ∧ CSub d d' := by
  induction h with
  | nil => exact ⟨by simp, fun i d' h => by simp at h⟩
  | cons h t ih =>
    refine ⟨by simp [ih.1], fun i d' hd => ?_⟩
    cases i with
    | zero => simp at hd; subst hd; exact ⟨_, by simp, h⟩
    | succ i => obtain ⟨d, h1, h2⟩ := ih.2 i d' (by simpa using hd); exact ⟨d, by simpa using h1, h2⟩
theorem vs_sub {c : Ctx} {vs : Array Value} {ds ds' : List D} (h : CsSub ds ds') (k : Vs (CV c) vs ds) : Vs (CV c) vs ds' := by
  obtain ⟨h1, h2⟩ := h.spec
  refine ⟨by rw [k.1, h1], fun i v d' hv hd => ?_⟩
  obtain ⟨d, hd0, hs⟩ := h2 i d' hd
  exact hs c v (k.2 i v d hv hd0)
/-- Values. -/
def ASub (d d' : D) : Prop := ∀ (c : Ctx) (v : Value), AV c v d → AV c v d'
theorem ASub.rfl {d : D} : ASub d d := fun _ _ h => h
theorem asub_agg {cs cs' : List D} (h : CsSub cs cs') : ASub (.agg cs) (.agg cs') := fun _ _ ⟨vs, h1, h2⟩ => ⟨vs, h1, vs_sub h h2⟩
theorem asub_sl {full : Bool} {wd n n' : Nat} {f g : Nat → List D} (hn : n = n') (hf : ∀ i, i < n → f i = g i) : ASub (.sl full wd n f) (.sl false wd n' g) := fun c v h => csub_sl hn hf c v h
theorem asub_nil {full : Bool} {wd wd' : Nat} {f g : Nat → List D} : ASub (.sl full wd 0 f) (.sl false wd' 0 g) := fun c v h => csub_nil c v h
theorem sub_agg {cs cs' : List D} (h : CsSub cs cs') : Sub (.agg cs) (.agg cs') := fun _ _ ⟨vs, h1, h2⟩ => ⟨vs, h1, vs_sub h h2⟩
theorem sub_sl {full : Bool} {wd n n' : Nat} {f g : Nat → List D} (hn : n = n') (hf : ∀ i, i < n → f i = g i) : Sub (.sl full wd n f) (.sl false wd n' g) := fun c v h => csub_sl hn hf c v h
theorem sub_nil {full : Bool} {wd wd' : Nat} {f g : Nat → List D} : Sub (.sl full wd 0 f) (.sl false wd' 0 g) := fun c v h => csub_nil c v h
/-! slices whose elements' cells say the same in other words -/
def PSub (d d' : D) : Prop := ∀ (I : Nat → Prop) (w : World) (v : Value), PV I w v d → PV I w v d'
theorem PSub.rfl {d : D} : PSub d d := fun _ _ _ h => h
inductive PsSub : List D → List D → Prop
  | nil : PsSub [] []
  | cons {d d' : D} {ds ds' : List D} (h : PSub d d') (t : PsSub ds ds') : PsSub (d :: ds) (d' :: ds')
theorem PsSub.spec {ds ds' : List D} (h : PsSub ds ds') : ds.length = ds'.length ∧ ∀ (i : Nat) (d' : D), ds'[i]? = some d' → ∃ d, ds[i]? = some d ∧ PSub d d' := by
  induction h with
  | nil => exact ⟨Eq.refl _, fun i d' h => by simp at h⟩
  | cons h t ih =>
    refine ⟨by simp [ih.1], fun i d' hd => ?_⟩
    cases i with
    | zero => simp at hd; subst hd; exact ⟨_, Eq.refl _, h⟩
    | succ i => exact ih.2 i d' (by simpa using hd)
theorem psub_sl {full : Bool} {wd n n' : Nat} {f g : Nat → List D} (hn : n = n') (hf : ∀ i, i < n → PsSub (f i) (g i)) : PSub (.sl full wd n f) (.sl false wd n' g) := by
  subst hn
  intro I w v h
  cases h with
  | sl a n cap wd full f g0 hfull hcap hb hw hone hv =>
    refine .sl a n cap wd false g g0 (fun h => by cases h) hcap hb (fun i hi => ?_) hone (fun i hi j d hd => ?_)
    · rw [← (hf i hi).spec.1]; exact hw i hi
    · obtain ⟨d0, h1, h2⟩ := (hf i hi).spec.2 j d hd
      exact h2 _ _ _ (hv i hi j d0 h1)
theorem psub_nil {full : Bool} {wd wd' : Nat} {f g : Nat → List D} : PSub (.sl full wd 0 f) (.sl false wd' 0 g) := by
  intro I w v h
  cases h with
  | sl a n cap wd full f g0 hfull hcap hb hw hone hv =>
    exact .sl a 0 cap wd' false g (fun _ _ => undef) (fun h => by cases h) hcap (fun h => by omega) (fun i hi => by omega) (fun i hi => by omega) (fun i hi => by omega)
theorem csub_psl {full : Bool} {wd n n' : Nat} {f g : Nat → List D} (hn : n = n') (hf : ∀ i, i < n → PsSub (f i) (g i)) : CSub (.sl full wd n f) (.sl false wd n' g) := fun c v h => psub_sl hn hf c.I c.w v h
theorem asub_psl {full : Bool} {wd n n' : Nat} {f g : Nat → List D} (hn : n = n') (hf : ∀ i, i < n → PsSub (f i) (g i)) : ASub (.sl full wd n f) (.sl false wd n' g) := fun c v h => psub_sl hn hf c.I c.w v h
theorem sub_psl {full : Bool} {wd n n' : Nat} {f g : Nat → List D} (hn : n = n') (hf : ∀ i, i < n → PsSub (f i) (g i)) : Sub (.sl full wd n f) (.sl false wd n' g) := fun c v h => psub_sl hn hf c.I c.w v h
theorem psub_psl {full : Bool} {wd n n' : Nat} {f g : Nat → List D} (hn : n = n') (hf : ∀ i, i < n → PsSub (f i) (g i)) : PSub (.sl full wd n f) (.sl false wd n' g) := psub_sl hn hf
theorem sub_eq {d d' : D} (h : d = d') : Sub d d' := by subst h; exact Sub.rfl
theorem csub_eq {d d' : D} (h : d = d') : CSub d d' := by subst h; exact CSub.rfl
inductive AsSub : List D → List D → Prop
  | nil : AsSub [] []
  | cons {d d' : D} {ds ds' : List D} (h : ASub d d') (t : AsSub ds ds') : AsSub (d :: ds) (d' :: ds')
theorem AsSub.rfl : ∀ {ds : List D}, AsSub ds ds
  | [] => .nil
  | _ :: _ => .cons ASub.rfl AsSub.rfl
theorem AsSub.vs {c : Ctx} {ds ds' : List D} (h : AsSub ds ds') : ∀ {vs : List Value}, Vs (AV c) vs.toArray ds → Vs (AV c) vs.toArray ds' := by
  induction h with
  | nil => exact fun h => h
  | cons h t ih =>
    intro vs k
    cases vs with
    | nil => have := k.1; simp at this
    | cons v vs =>
      have k' : Vs (AV c) vs.toArray _ := ⟨by have := k.1; simpa using this, fun i u d h1 h2 => k.2 (i + 1) u d (by simpa using h1) (by simpa using h2)⟩
      have ih' := ih k'
      refine ⟨by have := ih'.1; simpa using this, fun i u d h1 h2 => ?_⟩
      cases i with
      | zero => simp at h1 h2; subst h1; subst h2; exact h c _ (k.2 0 _ _ (by simp) (by simp))
      | succ i => exact ih'.2 i u d (by simpa using h1) (by simpa using h2)
theorem tup_sub {ds ds' : List D} (h : AsSub ds ds') : Sub (.tup ds) (.tup ds') := fun c v ⟨vs, h1, h2⟩ => ⟨vs, h1, by
  have e : vs.toList.toArray = vs := by simp
  have h2' : Vs (AV c) vs.toList.toArray ds := by rw [e]; exact h2
  have := h.vs h2'
  rw [e] at this
  exact this⟩
theorem Fn.args {P : Program} {f : FuncId} {ds ds' : List D} {r : Res} (h : Fn P f ds' r) (k : AsSub ds ds') : Fn P f ds r := by
  intro I0 w vs hI0 hvs
  refine h I0 w vs hI0 ?_
  have e : vs.toList.toArray = vs := by simp
  have h2' : Vs (AV (NoCtx I0 w)) vs.toList.toArray ds := by rw [e]; exact hvs
  have := k.vs h2'
  rw [e] at this
  exact this

inductive EnvSub : List (Nat × D) → List (Nat × D) → Prop
  | nil : EnvSub [] []
  | cons {t : Nat} {d d' : D} {e e' : List (Nat × D)} (h : Sub d d') (k : EnvSub e e') : EnvSub ((t, d) :: e) ((t, d') :: e')
theorem EnvSub.rfl : ∀ {e : List (Nat × D)}, EnvSub e e
  | [] => .nil
  | (_, _) :: _ => .cons Sub.rfl EnvSub.rfl
theorem EnvSub.find {e e' : List (Nat × D)} (h : EnvSub e e') (t : Nat) : Sub (find e t) (find e' t) := by
  induction h with
  | nil => exact Sub.rfl
  | @cons u d d' e e' h k ih =>
    simp only [Nv.find]
    cases Nat.beq u t with
    | true => exact h
    | false => exact ih
inductive OSub : Ob → Ob → Prop
  | rfl {o : Ob} : OSub o o
  | arr {wd n n' : Nat} {f g : Nat → List D} (hn : n = n') (hf : ∀ i, i < n → f i = g i) : OSub (.arr wd n f) (.arr wd n' g)
  | box {cs cs' : List D} (h : CsSub cs cs') : OSub (.box cs) (.box cs')
inductive HSub : List Ob → List Ob → Prop
  | nil : HSub [] []
  | cons {o o' : Ob} {H H' : List Ob} (h : OSub o o') (k : HSub H H') : HSub (o :: H) (o' :: H')
theorem HSub.rfl : ∀ {H : List Ob}, HSub H H
  | [] => .nil
  | _ :: _ => .cons .rfl HSub.rfl
theorem HSub.spec {H H' : List Ob} (h : HSub H H') : H.length = H'.length ∧ (∀ (i : Nat) (o' : Ob), H'[i]? = some o' → ∃ o, H[i]? = some o ∧ OSub o o') ∧ (∀ (i : Nat) (o : Ob), H[i]? = some o → ∃ o', H'[i]? = some o' ∧ OSub o o') := by
  induction h with
  | nil => exact ⟨by simp, fun i o h => by simp at h, fun i o h => by simp at h⟩
  | cons h k ih =>
    refine ⟨by simp [ih.1], fun i o' hd => ?_, fun i o hd => ?_⟩
    · cases i with
      | zero => simp at hd; subst hd; exact ⟨_, by simp, h⟩
      | succ i => obtain ⟨o, h1, h2⟩ := ih.2.1 i o' (by simpa using hd); exact ⟨o, by simpa using h1, h2⟩
    · cases i with
      | zero => simp at hd; subst hd; exact ⟨_, by simp, h⟩
      | succ i => obtain ⟨o, h1, h2⟩ := ih.2.2 i o (by simpa using hd); exact ⟨o, by simpa using h1, h2⟩
section
variable {c : Ctx} {H' : List Ob}
theorem hsub_cv (h : HSub c.H H') {v : Value} {d : D} (k : CV c v d) : CV { c with H := H' } v d := by
  cases d <;> simp only [CV] at k ⊢ <;> try exact k
  · obtain ⟨b, wd, n, f, h1, h2, h3, h4⟩ := k
    obtain ⟨o', h5, h6⟩ := h.spec.2.2 _ _ h2
    cases h6 with
    | rfl => exact ⟨b, wd, n, f, h1, h5, h3, h4⟩
    | arr hn hf => subst hn; exact ⟨b, wd, n, _, h1, h5, h3, h4⟩
  · obtain ⟨wd, n, f, a, cap, h2, h3⟩ := k
    obtain ⟨o', h5, h6⟩ := h.spec.2.2 _ _ h2
    cases h6 with
    | rfl => exact ⟨wd, n, f, a, cap, h5, h3⟩
    | arr hn hf => subst hn; exact ⟨wd, n, _, a, cap, h5, h3⟩
theorem hsub_av (h : HSub c.H H') {v : Value} {d : D} (k : AV c v d) : AV { c with H := H' } v d := by
  cases d <;> simp only [AV] at k ⊢ <;> try exact hsub_cv h k
  · obtain ⟨vs, h1, h2⟩ := k; exact ⟨vs, h1, h2.mono fun _ _ => hsub_cv h⟩
  · obtain ⟨vs, h1, h2⟩ := k; exact ⟨vs, h1, h2.mono fun _ _ => hsub_cv h⟩
theorem hsub_tv (h : HSub c.H H') {v : Value} {d : D} (k : TV c v d) : TV { c with H := H' } v d := by
  cases d <;> simp only [TV] at k ⊢ <;> try exact hsub_av h k
  obtain ⟨vs, h1, h2⟩ := k; exact ⟨vs, h1, h2.mono fun _ _ => hsub_av h⟩
theorem hsub_inv {F : Fr} (h : HSub c.H H') (hI : Inv F c) : Inv F { c with H := H' } := by
  refine ⟨hI.below, hI.imm, hI.loc, hI.inj, fun id o' ho' => ?_, fun id hid => hI.dom id (by rw [h.spec.1]; exact hid), hI.lent, fun hl => ?_⟩
  rotate_left
  · obtain ⟨o', h5, h6⟩ := h.spec.2.2 _ _ (hI.mark hl)
    cases h6
    exact h5
  obtain ⟨o, h1, h2⟩ := h.spec.2.1 id o' ho'
  have hv := hI.obj id o h1
  cases h2 with
  | rfl =>
    cases o' with
    | box cells => obtain ⟨b, cs, T, h3, h4, h5⟩ := hv; exact ⟨b, cs, T, h3, h4, h5.mono fun _ _ => hsub_cv h⟩
    | arr wd n f => exact hv
    | gone => exact hv
  | arr hn hf =>
    subst hn
    refine ⟨fun i hi => by rw [← hf i hi]; exact hv.1 i hi, hv.2.imp (fun x => x) ?_⟩
    rintro ⟨b, cs, T, h3, h4, h5, h6⟩
    exact ⟨b, cs, T, h3, h4, h5, fun i hi j d hd => h6 i hi j d (by rw [hf i hi]; exact hd)⟩
  | box hb =>
    obtain ⟨b, cs, T, h3, h4, h5⟩ := hv
    exact ⟨b, cs, T, h3, h4, vs_sub hb (h5.mono fun _ _ => hsub_cv h)⟩
end
theorem le_sub {nt : Nat} {e e' : List (Nat × D)} {H H' : List Ob} (h : EnvSub e e') (k : HSub H H') : Le ⟨nt, e, H⟩ ⟨nt, e', H'⟩ := by
  rintro F a w ⟨c, rfl, hH, hI, henv, hsz, hd⟩
  obtain rfl : c.H = H := hH
  exact ⟨{ c with H := H' }, rfl, rfl, hsub_inv k hI, fun t => hsub_tv k (h.find t c _ (henv t)), hsz, hd⟩
/-- Only some temporaries. -/
theorem le_keep {nt : Nat} {e : List (Nat × D)} {H : List Ob} (keep : List Nat) : Le ⟨nt, e, H⟩ ⟨nt, fin e keep, H⟩ := by
  rintro F a w ⟨c, rfl, hH, hI, henv, hsz, hd⟩
  refine ⟨c, rfl, hH, hI, fun t => ?_, hsz, hd⟩
  show TV c _ (find (fin e keep) t)
  rcases find_fin e keep t with h | h
  · rw [h]; exact tv_any
  · rw [h]
    have := henv t
    have h2 : TV c (a.tmps.getD t undef) (find e t) := this
    cases hf : find e t <;> rw [hf] at h2 <;> first | exact h2 | exact tv_any
/-- A nil slice as an object. -/
theorem le_thaw {nt : Nat} {e : List (Nat × D)} {H : List Ob} (t : Nat) {wd : Nat} {f : Nat → List D} (h : find e t = .sl true wd 0 f) (wd' : Nat) (g : Nat → List D) : Le ⟨nt, e, H⟩ ⟨nt, (t, .asl H.length 0 0) :: e, H ++ [.arr wd' 0 g]⟩ := by
  rintro F a w ⟨c, rfl, hH, hI, henv, hsz, hd⟩
  obtain rfl : c.H = H := hH
  refine ⟨c.made0 (.arr wd' 0 g), rfl, rfl, made0_inv hI wd' g, fun u => ?_, hsz, hd⟩
  show TV _ _ (find ((t, .asl c.H.length 0 0) :: e) u)
  simp only [find]
  cases hb : Nat.beq t u with
  | true =>
    obtain rfl := Nat.eq_of_beq_eq_true hb
    simp only [cond_true]
    have h1 := henv t
    have h2 : TV c (a.tmps.getD t undef) (find e t) := h1
    rw [h] at h2
    simp only [TV, AV, CV] at h2
    generalize a.tmps.getD t undef = v at h2
    cases h2 with
    | sl x n cap wd full f g0 hfull =>
      have hc := hfull rfl
      subst hc
      simp only [TV, AV, CV]
      exact ⟨wd', 0, g, x, 0, by simp [Ctx.made0], Nat.le_refl _, rfl, Nat.le_refl _, .inl rfl⟩
  | false => exact made0_tv _ (henv u)

/-! lists -/
section
variable {α : Type} [Inhabited α] (c : α → List D)
theorem app_snoc (l : List α) (x : α) (g : Nat → List D) (hg : g 0 = c x) : ∀ i, i < l.length + 1 → app (fun i => c (l.getD i default)) l.length g i = c ((l ++ [x]).getD i default) := by
  intro i hi
  unfold app
  cases hlt : Nat.blt i l.length with
  | true =>
    have h := blt_true hlt
    simp [h, List.getElem?_append_left h]
  | false =>
    have h := blt_false hlt
    have : i = l.length := by omega
    subst this
    simp [hg]
theorem app_list (l m : List α) (g : Nat → List D) (hg : ∀ i, i < m.length → g i = c (m.getD i default)) : ∀ i, i < l.length + m.length → app (fun i => c (l.getD i default)) l.length g i = c ((l ++ m).getD i default) := by
  intro i hi
  unfold app
  cases hlt : Nat.blt i l.length with
  | true =>
    have h := blt_true hlt
    simp [h, List.getElem?_append_left h]
  | false =>
    have h := blt_false hlt
    simp only [cond_false]
    rw [hg _ (by omega)]
    simp [List.getElem?_append_right h]
theorem len_snoc {β : Type} (l : List β) (x : β) : l.length + 1 = (l ++ [x]).length := by simp
theorem len_app {β : Type} (l m : List β) : l.length + m.length = (l ++ m).length := by simp
theorem set_ext (l : List α) (k : Nat) (x : α) (e : List D) (he : e = c x) : ∀ i, i < l.length → (bif Nat.beq i k then e else c (l.getD i default)) = c ((l.set k x).getD i default) := by
  intro i hi
  cases hb : Nat.beq i k with
  | true =>
    obtain rfl := Nat.eq_of_beq_eq_true hb
    simp [hi, he]
  | false =>
    have hne : i ≠ k := Nat.ne_of_beq_eq_false hb
    simp [List.getElem?_set_ne (Ne.symm hne)]
theorem rep_ext (n : Nat) (x : α) (e : List D) (he : e = c x) : ∀ i, i < n → e = c ((List.replicate n x).getD i default) := by
  intro i hi
  rw [he]
  simp [hi]
theorem cut_ext (l : List α) (lo hi : Nat) : ∀ i, i < hi - lo → c (l.getD (lo + i) default) = c (((l.drop lo).take (hi - lo)).getD i default) := by
  intro i h
  simp [h]
theorem len_cut {β : Type} (l : List β) (lo hi : Nat) (hhi : hi ≤ l.length) : hi - lo = ((l.drop lo).take (hi - lo)).length := by
  simp; omega
end

theorem guardB_some {g b : Bool} (h : guardB g b = true) (hg : g = true) : b = true := by
  subst hg
  exact h
theorem cut_hi {x : Int} {n : Nat} (h : decide (x ≤ (n : Int)) = true) : x.toNat ≤ n := by
  have := of_decide_eq_true h
  omega
theorem cut_lit {x n : Nat} (h : decide ((x : Int) ≤ (n : Int)) = true) : x ≤ n := by
  have := of_decide_eq_true h
  omega
def ci (k : IntKind) (x : Int) : List D := [.int k x]
def cb (x : Bool) : List D := [.bool x]
def cs (x : ByteArray) : List D := [.str x]
def cl {α : Type} [Inhabited α] (wd : Nat) (c : α → List D) (l : List α) : List D := [sL wd c l]
def wr (k : IntKind) (n : Int) : Int := k.wrap n
section
variable {α : Type} [Inhabited α] (c : α → List D)
theorem app_one (f : Nat → List D) (x : α) (g : Nat → List D) (hg : g 0 = c x) : ∀ i, i < 0 + 1 → app f 0 g i = c ([x].getD i default) := by
  intro i hi
  have : i = 0 := by omega
  subst this
  have h0 : Nat.blt 0 0 = false := rfl
  simp only [app, h0, cond_false, Nat.sub_zero, hg]
  rfl
theorem app_nil (f : Nat → List D) (m : List α) (g : Nat → List D) (hg : ∀ i, i < m.length → g i = c (m.getD i default)) : ∀ i, i < 0 + m.length → app f 0 g i = c (m.getD i default) := by
  intro i hi
  have h0 : Nat.blt i 0 = false := rfl
  simp only [app, h0, cond_false, Nat.sub_zero]
  exact hg i (by omega)
end
theorem le_keep' {nt : Nat} {e e' : List (Nat × D)} {H : List Ob} (keep : List Nat) (h : fin e keep = e') : Le ⟨nt, e, H⟩ ⟨nt, e', H⟩ := by
  subst h; exact le_keep keep
/-- How a loop is left. -/
def OutE {α : Type} (id : Nat) (S : α → St) (x : α) (e : Exit) (s : St) : Prop := e = .exit id ∧ Le s (S x)
def OutR (P : Program) (fn : Func) (r : D) (e : Exit) (s : St) : Prop := e = .ret ∧ Ends P fn r .ret s
theorem ends_r {P : Program} {fn : Func} {r : D} {s : St} (d : D) (h : resD P s fn.results.toList = some d) (k : Sub d r) : Ends P fn r .ret s := ⟨.inr rfl, d, h, k⟩
theorem ends_n {P : Program} {fn : Func} {r : D} {s : St} (d : D) (h : resD P s fn.results.toList = some d) (k : Sub d r) : Ends P fn r .normal s := ⟨.inl rfl, d, h, k⟩
theorem sub_asl {α : Type} [Inhabited α] {wd : Nat} {c : α → List D} {l : List α} : Sub (.sl false wd l.length fun i => c (l.getD (0 + i) default)) (sL wd c l) := sub_sl rfl fun i _ => by rw [Nat.zero_add]
theorem csub_asl {α : Type} [Inhabited α] {wd : Nat} {c : α → List D} {l : List α} : CSub (.sl false wd l.length fun i => c (l.getD (0 + i) default)) (sL wd c l) := csub_sl rfl fun i _ => by rw [Nat.zero_add]
theorem asub_asl {α : Type} [Inhabited α] {wd : Nat} {c : α → List D} {l : List α} : ASub (.sl false wd l.length fun i => c (l.getD (0 + i) default)) (sL wd c l) := asub_sl rfl fun i _ => by rw [Nat.zero_add]
theorem asl_len {id n n' : Nat} (h : n = n') : Sub (.asl id 0 n) (.asl id 0 n') := by subst h; exact Sub.rfl
/-! the same, in few words: what the kernel reckons is left out -/
section
variable {P : Program} {Q : Exit → St → Prop} {s : St}
theorem rg {id : Nat} {ops : Array Oper} {draw : Bool} (orc : List Res) (keep : List Nat) (hn : Nat) (s' : St) (bs : List Bool) (rq : List Req)
    (hb : ∀ b ∈ bs, b = true) (hq : Reqs P rq) (k : Q .normal s') (h : regS P ops draw orc keep hn s = some (s', bs, rq) := by kernel_rfl) : AWP P (.region id ops draw) Q s := awp_region orc keep hn h hb hq.all k
theorem rg0 {id : Nat} {ops : Array Oper} {draw : Bool} (keep : List Nat) (hn : Nat) (s' : St) (k : Q .normal s') (h : regS P ops draw [] keep hn s = some (s', [], []) := by kernel_rfl) : AWP P (.region id ops draw) Q s := awp_region [] keep hn h nil_all (fun _ h => by cases h) k
theorem rgc {id : Nat} {ops : Array Oper} {draw : Bool} (keep : List Nat) (hn : Nat) (s' : St) (bs : List Bool) (hb : ∀ b ∈ bs, b = true) (k : Q .normal s') (h : regS P ops draw [] keep hn s = some (s', bs, []) := by kernel_rfl) : AWP P (.region id ops draw) Q s := awp_region [] keep hn h hb (fun _ h => by cases h) k
theorem kp {nt : Nat} {e e' : List (Nat × D)} {H : List Ob} (keep : List Nat) (h : fin e keep = e' := by kernel_rfl) : Le ⟨nt, e, H⟩ ⟨nt, e', H⟩ := le_keep' keep h
theorem er {fn : Func} {r : D} (d : D) (k : Sub d r) (h : resD P s fn.results.toList = some d := by kernel_rfl) : Ends P fn r .ret s := ends_r d h k
theorem en {fn : Func} {r : D} (d : D) (k : Sub d r) (h : resD P s fn.results.toList = some d := by kernel_rfl) : Ends P fn r .normal s := ends_n d h k
theorem er0 {fn : Func} (d : D) (h : resD P s fn.results.toList = some d := by kernel_rfl) : Ends P fn d .ret s := ends_r d h Sub.rfl
theorem en0 {fn : Func} (d : D) (h : resD P s fn.results.toList = some d := by kernel_rfl) : Ends P fn d .normal s := ends_n d h Sub.rfl
theorem cnd {c : Operand} {x y : Code} (b : Bool) (ht : b = true → AWP P x Q s) (hf : b = false → AWP P y Q s) (hc : evD s.env c = .bool b := by kernel_rfl) : AWP P (.cond c x y) Q s := awp_cond hc ht hf
end
end Nv
