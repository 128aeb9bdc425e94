/- The walk over code, on abstract states. -/
import Derived.Test.YtmangnohekiphaaNvDraw2
namespace Nv
open Go Go.RowKit

structure St where
  nt : Nat
  env : List (Nat × D)
  H : List Ob

def Rel (F : Fr) (s : St) (a : Act) (w : World) : Prop :=
  ∃ c : Ctx, c.w = w ∧ c.H = s.H ∧ Inv F c ∧ (∀ t, TV c (a.tmps.getD t undef) (find s.env t)) ∧ a.tmps.size = s.nt ∧ a.defers = []

def AWP (P : Program) (c : Code) (Q : Exit → St → Prop) (s : St) : Prop :=
  ∀ F a w, Rel F s a w → c.wp P (fun e a' w' => ∃ s', Q e s' ∧ Rel F s' a' w') a w

section
variable {P : Program} {Q : Exit → St → Prop} {s : St}
theorem awp_mono {c : Code} {Q' : Exit → St → Prop} (h : AWP P c Q s) (hq : ∀ e s, Q e s → Q' e s) : AWP P c Q' s :=
  fun F a w hR => wp_mono (h F a w hR) fun _ _ _ ⟨s', h1, h2⟩ => ⟨s', hq _ _ h1, h2⟩
theorem awp_skip (h : Q .normal s) : AWP P .skip Q s := fun _ _ _ hR => wp_skip ⟨s, h, hR⟩
theorem awp_ret (h : Q .ret s) : AWP P .ret Q s := fun _ _ _ hR => wp_ret ⟨s, h, hR⟩
theorem awp_exit {id : Nat} (h : Q (.exit id) s) : AWP P (.exit id) Q s := fun _ _ _ hR => wp_exit ⟨s, h, hR⟩

def Then (P : Program) (y : Code) (Q : Exit → St → Prop) : Exit → St → Prop
  | .normal, s => AWP P y Q s
  | e, s => Q e s
theorem awp_seq {x y : Code} (h : AWP P x (Then P y Q) s) : AWP P (.seq x y) Q s := by
  intro F a w hR
  refine wp_seq (wp_mono (h F a w hR) ?_)
  rintro e a' w' ⟨s', h1, h2⟩
  cases e <;> first | exact h1 F a' w' h2 | exact ⟨s', h1, h2⟩

def InBlock (id : Nat) (Q : Exit → St → Prop) : Exit → St → Prop
  | .exit id', s => if id' = id then Q .normal s else Q (.exit id') s
  | e, s => Q e s
theorem awp_block {id : Nat} {c : Code} (h : AWP P c (InBlock id Q) s) : AWP P (.block id c) Q s := by
  intro F a w hR
  refine wp_block (wp_mono (h F a w hR) ?_)
  rintro e a' w' ⟨s', h1, h2⟩
  cases e <;> first | exact ⟨s', h1, h2⟩ | skip
  rename_i id'
  simp only [Exit.inBlock, InBlock] at h1 ⊢
  split <;> rename_i h
  · rw [if_pos h] at h1; exact ⟨s', h1, h2⟩
  · rw [if_neg h] at h1; exact ⟨s', h1, h2⟩

theorem rel_eval {F : Fr} {a : Act} {w : World} (hR : Rel F s a w) {c : Operand} {b : Bool} (h : evD s.env c = .bool b) : a.eval c = .bool b := by
  obtain ⟨cx, _, _, _, henv, _, _⟩ := hR
  cases c with
  | tmp t =>
    simp only [evD] at h
    have := henv t
    rw [h] at this
    exact this.bool_inv
  | const v =>
    have := tv_dv cx v
    simp only [evD] at h
    rw [h] at this
    exact this.bool_inv
  | global g => simp [evD] at h
  | func f => simp [evD] at h
theorem awp_cond {c : Operand} {x y : Code} {b : Bool} (hc : evD s.env c = .bool b) (ht : b = true → AWP P x Q s) (hf : b = false → AWP P y Q s) : AWP P (.cond c x y) Q s :=
  fun F a w hR => wp_cond_split (rel_eval hR hc) (fun h => ht h F a w hR) (fun h => hf h F a w hR)

/-- A slice held against nil: it is nil only if it is empty. -/
theorem awp_nilq {c : Operand} {x y : Code} {n : Nat} (hc : evD s.env c = .nilq n) (ht : n = 0 → AWP P x Q s) (hf : AWP P y Q s) : AWP P (.cond c x y) Q s := by
  intro F a w hR
  have key : ∃ b, a.eval c = .bool b ∧ (b = true → n = 0) := by
    obtain ⟨cx, _, _, _, henv, _, _⟩ := hR
    cases c with
    | tmp t =>
      simp only [evD] at hc
      have := henv t
      rw [hc] at this
      simp only [TV, AV, CV] at this
      generalize hv : a.tmps.getD t undef = v at this
      cases this with
      | nilq b n h => exact ⟨b, hv, h⟩
    | const v =>
      have := tv_dv cx v
      simp only [evD] at hc
      rw [hc] at this
      simp only [TV, AV, CV] at this
      cases this with
      | nilq b n h => exact ⟨b, rfl, h⟩
    | global g => simp [evD] at hc
    | func f => simp [evD] at hc
  obtain ⟨b, h1, h2⟩ := key
  exact wp_cond_split h1 (fun h => ht (h2 h) F a w hR) (fun _ => hf F a w hR)

/-- Forgetting, or saying the same in other words. -/
def Le (s s' : St) : Prop := ∀ F a w, Rel F s a w → Rel F s' a w
theorem awp_le {c : Code} {s' : St} (h : Le s s') (k : AWP P c Q s') : AWP P c Q s := fun F a w hR => k F a w (h F a w hR)
end

/-! loops -/
inductive Iter {α β : Type} (f : α → Option (α ⊕ β)) : α → β → Prop
  | out {x : α} {y : β} (h : f x = some (.inr y)) : Iter f x y
  | next {x x' : α} {y : β} (h : f x = some (.inl x')) (r : Iter f x' y) : Iter f x y

theorem wp_loop_iter {P : Program} {c : Code} {α β : Type} {f : α → Option (α ⊕ β)} (I : α → Act → World → Prop) (O : β → Exit → Act → World → Prop)
    (round : ∀ x r a w, f x = some r → I x a w → c.wp P (fun e a' w' => match r with | .inl x' => e = .normal ∧ I x' a' w' | .inr y => e ≠ .normal ∧ O y e a' w') a w)
    {x : α} {y : β} (h : Iter f x y) {a : Act} {w : World} (hI : I x a w) : (Code.loop c).wp P (O y) a w := by
  intro b k cs
  have key : ∀ x y, Iter f x y → ∀ a w, I x a w → ∃ e a' w', O y e a' w' ∧ Arrives P (lone (b.at a (.code c :: .inLoop c :: k)) cs w) b k cs e a' w' := by
    intro x y h
    induction h with
    | out h =>
      intro a w hI
      obtain ⟨e, a₁, w₁, ⟨hne, hq⟩, harr⟩ := round _ _ a w h hI b (.inLoop c :: k) cs
      cases e with
      | normal => exact absurd rfl hne
      | exit id => exact ⟨_, a₁, w₁, hq, .pass (x := .inLoop c) rfl (fun _ _ => .inl (by simp)) harr⟩
      | goto l => exact ⟨_, a₁, w₁, hq, .pass (x := .inLoop c) rfl (fun _ _ => .inl (by simp)) harr⟩
      | ret => exact ⟨_, a₁, w₁, hq, .pass (x := .inLoop c) rfl (fun _ _ => .inl (by simp)) harr⟩
      | panic ch => exact ⟨_, a₁, w₁, hq, .pass (x := .inLoop c) rfl (fun _ _ => .inl (by simp)) harr⟩
      | outgrown => exact ⟨_, a₁, w₁, hq, .pass (x := .inLoop c) rfl (fun _ _ => .inl (by simp)) harr⟩
    | next h r ih =>
      intro a w hI
      obtain ⟨e, a₁, w₁, ⟨rfl, hI₁⟩, harr⟩ := round _ _ a w h hI b (.inLoop c :: k) cs
      obtain ⟨e₂, a₂, w₂, hq₂, harr₂⟩ := ih a₁ w₁ hI₁
      exact ⟨e₂, a₂, w₂, hq₂, .of_steps (Steps.trans harr (.one step_inLoop)) harr₂⟩
  obtain ⟨e, a', w', hq, harr⟩ := key x y h a w hI
  exact ⟨e, a', w', hq, .of_steps (.one step_loop) harr⟩

/-- What a round leaves: the next round's state, or a way out. -/
def Round {α β : Type} (S : α → St) (O : β → Exit → St → Prop) : (α ⊕ β) → Exit → St → Prop
  | .inl x', e, s => e = .normal ∧ Le s (S x')
  | .inr y, e, s => e ≠ .normal ∧ O y e s
theorem awp_loop {P : Program} {c : Code} {α β : Type} {f : α → Option (α ⊕ β)} {S : α → St} {O : β → Exit → St → Prop} (round : ∀ x r, f x = some r → AWP P c (Round S O r) (S x)) {x : α} {y : β} (h : Iter f x y) :
    AWP P (.loop c) (O y) (S x) := by
  intro F a w hR
  refine wp_loop_iter (f := f) (fun x a w => Rel F (S x) a w) (fun y e a w => ∃ s', O y e s' ∧ Rel F s' a w) (fun x r a w hx hI => ?_) h hR
  refine wp_mono (round x r hx F a w hI) ?_
  rintro e a' w' ⟨s', h1, h2⟩
  cases r with
  | inl x' => exact ⟨h1.1, h1.2 _ _ _ h2⟩
  | inr y => exact ⟨h1.1, s', h1.2, h2⟩

/-! regions -/
def noOpt : D → D
  | .opt _ _ _ => .any
  | d => d
def fin (env : List (Nat × D)) (keep : List Nat) : List (Nat × D) := keep.map fun t => (t, noOpt (find env t))
theorem find_fin (env : List (Nat × D)) : ∀ (keep : List Nat) (t : Nat), find (fin env keep) t = .any ∨ find (fin env keep) t = noOpt (find env t)
  | [], t => .inl rfl
  | u :: r, t => by
    simp only [fin, List.map_cons, find]
    cases h : Nat.beq u t with
    | true => obtain rfl := Nat.eq_of_beq_eq_true h; exact .inr rfl
    | false => simp only [cond_false]; exact find_fin env r t

/-! objects that nobody names any more -/
def blC (n : Nat) : D → Bool
  | .asl i _ _ | .eref i _ _ | .ref i _ => Nat.blt i n
  | _ => true
def blA (n : Nat) : D → Bool
  | .agg cs => cs.all (blC n)
  | .fn _ cap => cap.all (blC n)
  | d => blC n d
def blT (n : Nat) : D → Bool
  | .tup ds => ds.all (blA n)
  | d => blA n d
def blO (n : Nat) : Ob → Bool
  | .box cells => cells.all (blC n)
  | _ => true
def cutS (n : Nat) (s : St) : Option St :=
  bif Nat.ble s.H.length n then some s else
  bif s.env.all (fun p => blT n p.2) && (s.H.take n).all (blO n) && (s.H.drop n).all (fun o => match o with | .gone => false | _ => true) then some ⟨s.nt, s.env, s.H.take n⟩ else none

section
variable {F : Fr} {c : Ctx} {n : Nat}
def Ctx.cut (c : Ctx) (n : Nat) : Ctx := { c with mu := fun i => if i < n then c.mu i else none, H := c.H.take n }
theorem cut_H {id : Nat} {o : Ob} (hid : id < n) (h : c.H[id]? = some o) : (c.cut n).H[id]? = some o := by
  simp only [Ctx.cut]; rw [List.getElem?_take_of_lt hid]; exact h
theorem cut_cv {v : Value} {d : D} (h : CV c v d) (hb : blC n d = true) : CV (c.cut n) v d := by
  cases d <;> simp only [CV] at h ⊢ <;> try exact h
  · have hid := blt_true hb
    obtain ⟨b, hm, hv⟩ := h; exact ⟨b, by simp [Ctx.cut, hid, hm], hv⟩
  · have hid := blt_true hb
    obtain ⟨b, wd, m, f, hm, hH, h2, hv⟩ := h; exact ⟨b, wd, m, f, by simp [Ctx.cut, hid, hm], cut_H hid hH, h2, hv⟩
  · have hid := blt_true hb
    obtain ⟨wd, m, f, a, cap, hH, h2, h3, h4, h5⟩ := h
    exact ⟨wd, m, f, a, cap, cut_H hid hH, h2, h3, h4, h5.imp id fun ⟨b, hm, r⟩ => ⟨b, by simp [Ctx.cut, hid, hm], r⟩⟩
theorem vs_all {R R' : Value → D → Prop} {q : D → Bool} {vs : Array Value} {ds : List D} (h : ∀ v d, R v d → q d = true → R' v d) (k : Vs R vs ds) (hq : ds.all q = true) : Vs R' vs ds :=
  ⟨k.1, fun i v d h1 h2 => h v d (k.2 i v d h1 h2) (List.all_eq_true.1 hq d (List.mem_of_getElem? h2))⟩
theorem cut_av {v : Value} {d : D} (h : AV c v d) (hb : blA n d = true) : AV (c.cut n) v d := by
  cases d <;> simp only [AV] at h ⊢ <;> try exact cut_cv h hb
  · obtain ⟨vs, h1, h2⟩ := h; exact ⟨vs, h1, vs_all (fun _ _ => cut_cv) h2 hb⟩
  · obtain ⟨vs, h1, h2⟩ := h; exact ⟨vs, h1, vs_all (fun _ _ => cut_cv) h2 hb⟩
theorem cut_tv {v : Value} {d : D} (h : TV c v d) (hb : blT n d = true) : TV (c.cut n) v d := by
  cases d <;> simp only [TV] at h ⊢ <;> try exact cut_av h hb
  obtain ⟨vs, h1, h2⟩ := h; exact ⟨vs, h1, vs_all (fun _ _ => cut_av) h2 hb⟩
theorem cut_inv (hI : Inv F c) (hb : (c.H.take n).all (blO n) = true) (hg : (c.H.drop n).all (fun o => match o with | .gone => false | _ => true) = true) : Inv F (c.cut n) := by
  have hln : F.L ≠ [] → F.L.length < n := fun hl => by
    rcases Nat.lt_or_ge F.L.length n with h | h
    · exact h
    · exfalso
      have h3 : (c.H.drop n)[F.L.length - n]? = some .gone := by rw [List.getElem?_drop, show n + (F.L.length - n) = F.L.length by omega]; exact hI.mark hl
      have := List.all_eq_true.1 hg _ (List.mem_of_getElem? h3)
      cases this
  refine ⟨hI.below, hI.imm, fun id b hm => ?_, fun i j b h1 h2 => ?_, fun id o h => ?_, fun id hid => ?_, fun i v hv => ?_, fun hl => cut_H (hln hl) (hI.mark hl)⟩
  rotate_left 4
  · have h2 := (List.getElem?_eq_some_iff.1 hv).1
    have h3 := hln (by intro e; rw [e] at h2; simp at h2)
    show (if i < n then c.mu i else none) = v
    rw [if_pos (by omega)]
    exact hI.lent i v hv
  · simp only [Ctx.cut] at hm
    split at hm
    · exact hI.loc id b hm
    · cases hm
  · simp only [Ctx.cut] at h1 h2
    split at h1 <;> split at h2 <;> first | exact hI.inj i j b h1 h2 | cases h1 | cases h2
  · have hid : id < n := by
      have := (List.getElem?_eq_some_iff.1 h).1
      simp [Ctx.cut] at this; omega
    have hbo := List.all_eq_true.1 hb o (List.mem_of_getElem? h)
    have hH : c.H[id]? = some o := by simp only [Ctx.cut] at h; rw [List.getElem?_take_of_lt hid] at h; exact h
    have hv := hI.obj id o hH
    have e : (c.cut n).mu id = c.mu id := by simp [Ctx.cut, hid]
    rw [e]
    cases o with
    | box cells => obtain ⟨b, cs, T, h1, h2, h3⟩ := hv; exact ⟨b, cs, T, h1, h2, vs_all (fun _ _ => cut_cv) h3 hbo⟩
    | arr wd m f => exact hv
    | gone => exact hv
  · simp only [Ctx.cut, List.length_take] at hid ⊢
    split
    · exact hI.dom id (by omega)
    · rfl
end
theorem find_mem : ∀ (env : List (Nat × D)) (t : Nat), find env t = .any ∨ ∃ p ∈ env, find env t = p.2
  | [], t => .inl rfl
  | (u, d) :: r, t => by
    simp only [find]
    cases h : Nat.beq u t with
    | true => exact .inr ⟨(u, d), List.mem_cons_self, rfl⟩
    | false =>
      simp only [cond_false]
      exact (find_mem r t).imp id fun ⟨p, hp, h⟩ => ⟨p, List.mem_cons_of_mem _ hp, h⟩
theorem le_cut {n : Nat} {s s' : St} (h : cutS n s = some s') : Le s s' := by
  unfold cutS at h
  cases hb : Nat.ble s.H.length n with
  | true => simp only [hb, cond_true, Option.some.injEq] at h; subst h; exact fun _ _ _ h => h
  | false =>
    simp only [hb, cond_false] at h
    cases hc : (s.env.all (fun p => blT n p.2) && (s.H.take n).all (blO n) && (s.H.drop n).all (fun o => match o with | .gone => false | _ => true)) with
    | false => rw [hc] at h; cases h
    | true =>
      simp only [hc, cond_true, Option.some.injEq] at h
      subst h
      simp only [Bool.and_eq_true] at hc
      rintro F a w ⟨c, rfl, hH, hI, henv, hsz, hd⟩
      refine ⟨c.cut n, rfl, by simp [Ctx.cut, hH], cut_inv hI (by rw [hH]; exact hc.1.2) (by rw [hH]; exact hc.2), fun t => cut_tv (henv t) ?_, hsz, hd⟩
      rcases find_mem s.env t with h1 | ⟨p, hp, h1⟩
      · rw [h1]; rfl
      · rw [h1]; exact List.all_eq_true.1 hc.1.1 p hp

def regS (P : Program) (ops : Array Oper) (draw : Bool) (orc : List Res) (keep : List Nat) (hn : Nat) (s : St) : Option (St × List Bool × List Req) :=
  match draw with
  | false => bif dstsB ops then
      (match runS P s.nt ops 0 ops.toList ⟨s.env, s.H, orc⟩ with
      | some (r, bs, rq) => (cutS hn ⟨s.nt, fin r.env keep, r.H⟩).map fun s' => (s', bs, rq)
      | none => none) else none
  | true => bif flowB ops && P.follows .mixedOrders then
      (match runDr P s.nt ops s.H 0 ops.toList s.env orc with
      | some (env', bs, rq, _) => (cutS hn ⟨s.nt, fin env' keep, s.H⟩).map fun s' => (s', bs, rq)
      | none => none) else none

theorem rinv_fin {F : Fr} {nt : Nat} {ops : Array Oper} {k : Nat} {r : RS} {a : Act} {c : Ctx} (h : RInv F nt ops k r a c) (keep : List Nat) : Rel F ⟨nt, fin r.env keep, r.H⟩ a c.w := by
  refine ⟨c, rfl, h.H, h.inv, fun t => ?_, h.size, h.defers⟩
  rcases find_fin r.env keep t with e | e
  · show TV c _ (find (fin r.env keep) t); rw [e]; exact tv_any
  · show TV c _ (find (fin r.env keep) t)
    rw [e]
    have := h.env t
    cases hf : find r.env t <;> rw [hf] at this <;> first | exact this | exact tv_any

theorem getD_rep_false (m j : Nat) : (Array.replicate m false).getD j false = false := by
  rcases Nat.lt_or_ge j m with h | h <;> simp [h]

theorem awp_region {P : Program} {Q : Exit → St → Prop} {s : St} {id : Nat} {ops : Array Oper} {draw : Bool} (orc : List Res) (keep : List Nat) (hn : Nat) {s' : St} {bs : List Bool} {rq : List Req}
    (h : regS P ops draw orc keep hn s = some (s', bs, rq)) (hb : ∀ b ∈ bs, b = true) (hq : ∀ q ∈ rq, q.ok P) (k : Q .normal s') : AWP P (.region id ops draw) Q s := by
  rintro F a w ⟨c, rfl, hH, hI, henv, hsz, hd⟩
  unfold regS at h
  split at h
  · cases hc : dstsB ops with
    | false => rw [hc] at h; cases h
    | true =>
      simp only [hc, cond_true] at h
      split at h <;> try cases h
      rename_i r bs0 rq0 hrun
      obtain ⟨s1, hcut, heq⟩ := Option.map_eq_some_iff.1 h
      simp only [Prod.mk.injEq] at heq
      obtain ⟨rfl, rfl, rfl⟩ := heq
      refine wp_region ?_
      have h0 : RInv F s.nt ops 0 ⟨s.env, s.H, orc⟩ a c := ⟨hH, hI, fun t => gv_of_tv (henv t), hsz, hd, fun t j w d hf => by
        have := henv t
        have hf : find s.env t = .opt j w d := hf
        rw [hf] at this
        simp only [TV, AV] at this
        exact absurd this cv_not_opt⟩
      have := seq_sound hc (Q := fun e a' w' => ∃ s', Q e s' ∧ Rel F s' a' w') ops.toList 0 _ r bs0 rq0 (fun j => by simp) hrun hb hq a c h0 (fun a' c' hR => ⟨s1, k, le_cut hcut F a' c'.w (rinv_fin hR keep)⟩)
      rw [List.range_eq_range']
      simpa using this
  · cases hc : (flowB ops && P.follows .mixedOrders) with
    | false => rw [hc] at h; cases h
    | true =>
      rw [hc] at h
      simp only [cond_true] at h
      simp only [Bool.and_eq_true] at hc
      split at h <;> try cases h
      rename_i env' bs0 rq0 orc0 hrun
      obtain ⟨s1, hcut, heq⟩ := Option.map_eq_some_iff.1 h
      simp only [Prod.mk.injEq] at heq
      obtain ⟨rfl, rfl, rfl⟩ := heq
      refine wp_region_any hc.2 ?_
      obtain ⟨E, V, hE0, hE1, hT⟩ := trace_of ops.toList 0 s.env env' orc orc0 bs0 rq0 (fun j => .inl (by simp)) hrun
      simp only [Array.length_toList, Nat.zero_add] at hE1 hT
      let c' : Ctx := { c with w := c.w.drew }
      have hgo : Goes c c' := ⟨rfl, rfl, fun _ h => h, fun _ _ => rfl, fun b hb => (hI.imm b hb).1, fun id b hb => (hI.loc id b hb).2.1⟩
      have hI' : Inv F c' := hI.goes hgo (Below.refl _ _).drew (fun _ h => .inl h)
      have hnone : ∀ i, ¬ (Array.replicate ops.size false).getD i false = true := fun i h => by rw [getD_rep_false] at h; cases h
      have hval : ∀ t, valL ops V (E 0) (fun i => (Array.replicate ops.size false).getD i false = true) t = find s.env t := fun t => by rw [valL_none (fun i _ => hnone i), hE0]
      have hD : DInv F s.nt ops s.H V (E 0) (Array.replicate ops.size false) a c' := by
        refine ⟨hH, hI', fun t => ?_, hsz, hd, fun t j w d hf => ?_, by simp, fun i j _ h => absurd h (hnone i)⟩
        · rw [hval]; exact gv_of_tv (hgo.tv (henv t))
        · rw [hval] at hf
          have := henv t
          rw [hf] at this
          simp only [TV, AV] at this
          exact absurd this cv_not_opt
      have hcnt : cnt (Array.replicate ops.size false) + ops.size = ops.size := by simp [cnt, List.countP_replicate]
      exact draw_sound hc.1 hT hb hq orc0 (fun a' c'' hR => ⟨s1, k, le_cut hcut F a' c''.w (by
        have := rinv_fin hR keep
        rw [hE1] at this
        exact this)⟩) ops.size _ a c' hD hcnt
end Nv
