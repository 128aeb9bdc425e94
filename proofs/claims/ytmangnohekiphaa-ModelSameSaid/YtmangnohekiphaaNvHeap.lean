/- Objects of the call's own: a new one; one that is written; one whose slice grows. -/
import Derived.Test.YtmangnohekiphaaNvOp2
namespace Nv
open Go Go.RowKit

/-! a new object -/
def Ctx.made (c : Ctx) (w' : World) (o : Ob) : Ctx :=
  { I := c.I, mu := fun i => if i = c.H.length then some c.w.heap.size else c.mu i, H := c.H ++ [o], w := w' }

/-- A world with one block more. -/
structure More (w w' : World) (cs : Array Value) (T : TypeId) : Prop where
  below : Below w.heap.size w w'
  size : w'.heap.size = w.heap.size + 1
  new : w'.heap[w.heap.size]? = some (.cells cs T (0, 0))

theorem more_alloc (w : World) (cs : Array Value) (T : TypeId) : More w (w.alloc (.cells cs T)) cs T :=
  ⟨(Below.refl _ _).alloc (Nat.le_refl _) _, by simp, heap_alloc_new w _⟩
theorem more_drew (w : World) (cs : Array Value) (T : TypeId) : More w (w.drew.alloc (.cells cs T)) cs T :=
  ⟨((Below.refl _ _).alloc (Nat.le_refl _) (.cells cs T)).drew, by simp, heap_alloc_new w.drew _⟩

section
variable {F : Fr} {c : Ctx} {w' : World} {cs : Array Value} {T : TypeId}
theorem made_pv (hI : Inv F c) (hm : More c.w w' cs T) {v : Value} {d : D} (h : PV c.I c.w v d) : PV c.I w' v d :=
  h.mono (fun _ h => h) fun b hb => hm.below.block b (hI.imm b hb).1
theorem made_room (hm : More c.w w' cs T) {b n : Nat} (hb : b < c.w.heap.size) (k : Room c.w b n) : Room w' b n := by
  obtain ⟨cs, T, h1, h2⟩ := k
  exact ⟨cs, T, by rw [hm.below.block b hb]; exact h1, h2⟩
theorem made_mu (hI : Inv F c) (o : Ob) {id b : Nat} (h : c.mu id = some b) : (c.made w' o).mu id = some b := by
  simp only [Ctx.made]
  rw [if_neg]
  · exact h
  · intro e
    rw [hI.dom id (by omega)] at h
    cases h
theorem made_H (o o' : Ob) {id : Nat} (h : c.H[id]? = some o') : (c.made w' o).H[id]? = some o' := by
  have := (List.getElem?_eq_some_iff.1 h).1
  simp only [Ctx.made]
  rw [List.getElem?_append_left this]
  exact h
theorem made_cv (hI : Inv F c) (hm : More c.w w' cs T) (o : Ob) {v : Value} {d : D} (h : CV c v d) : CV (c.made w' o) v d := by
  cases d <;> simp only [CV] at h ⊢ <;> try exact made_pv hI hm h
  · obtain ⟨b, hb, hv⟩ := h; exact ⟨b, made_mu hI o hb, hv⟩
  · obtain ⟨b, wd, n, f, hb, hH, hi, hv⟩ := h; exact ⟨b, wd, n, f, made_mu hI o hb, made_H o _ hH, hi, hv⟩
  · obtain ⟨wd, n, f, a, cap, hH, h2, h3, h4, h5⟩ := h
    refine ⟨wd, n, f, a, cap, made_H o _ hH, h2, h3, h4, h5.imp id ?_⟩
    rintro ⟨b, hb, ha, hr⟩
    exact ⟨b, made_mu hI o hb, ha, made_room hm (hI.loc _ b hb).2.1 hr⟩
theorem made_av (hI : Inv F c) (hm : More c.w w' cs T) (o : Ob) {v : Value} {d : D} (h : AV c v d) : AV (c.made w' o) v d := by
  cases d <;> simp only [AV] at h ⊢ <;> try exact made_cv hI hm o h
  · obtain ⟨vs, h1, h2⟩ := h; exact ⟨vs, h1, h2.mono fun _ _ => made_cv hI hm o⟩
  · obtain ⟨vs, h1, h2⟩ := h; exact ⟨vs, h1, h2.mono fun _ _ => made_cv hI hm o⟩
theorem made_tv (hI : Inv F c) (hm : More c.w w' cs T) (o : Ob) {v : Value} {d : D} (h : TV c v d) : TV (c.made w' o) v d := by
  cases d <;> simp only [TV] at h ⊢ <;> try exact made_av hI hm o h
  obtain ⟨vs, h1, h2⟩ := h; exact ⟨vs, h1, h2.mono fun _ _ => made_av hI hm o⟩
theorem made_inv (hI : Inv F c) (hm : More c.w w' cs T) (o : Ob) (ho : OV (c.made w' o) (some c.w.heap.size) o) : Inv F (c.made w' o) := by
  have hs := hm.size
  have hs0 := hI.below.size
  refine ⟨hI.below.next hm.below, fun b hb => ⟨?_, (hI.imm b hb).2⟩, fun id b hb => ?_, fun i j b h1 h2 => ?_, fun id o' h => ?_, fun id hid => ?_, fun i v hv => ?_, fun hl => made_H o _ (hI.mark hl)⟩
  case refine_6 =>
    have h1 := hI.lent i v hv
    have hlt : i < c.H.length := by
      have h2 := (List.getElem?_eq_some_iff.1 hv).1
      have h3 := (List.getElem?_eq_some_iff.1 (hI.mark (by intro e; rw [e] at h2; simp at h2))).1
      omega
    simp only [Ctx.made]
    rw [if_neg (by omega)]
    exact h1
  · have := (hI.imm b hb).1; show b < w'.heap.size; omega
  · simp only [Ctx.made] at hb ⊢
    split at hb
    · cases hb
      exact ⟨.inl hs0, by omega, fun h => by have := (hI.imm _ h).1; omega⟩
    · obtain ⟨h1, h2, h3⟩ := hI.loc id b hb
      exact ⟨h1, by omega, h3⟩
  · simp only [Ctx.made] at h1 h2
    split at h1 <;> split at h2
    · omega
    · cases h1; have := (hI.loc j _ h2).2.1; omega
    · cases h2; have := (hI.loc i _ h1).2.1; omega
    · exact hI.inj i j b h1 h2
  · by_cases hid : id = c.H.length
    · subst hid
      have : o' = o := by simp [Ctx.made] at h; exact h.symm
      subst this
      have e : (c.made w' o').mu c.H.length = some c.w.heap.size := by simp [Ctx.made]
      rw [e]
      exact ho
    · have hH : c.H[id]? = some o' := by
        have hlt := (List.getElem?_eq_some_iff.1 h).1
        simp only [Ctx.made, List.length_append, List.length_singleton] at hlt
        simp only [Ctx.made] at h
        rw [List.getElem?_append_left (by omega)] at h
        exact h
      have hv := hI.obj id o' hH
      have e : (c.made w' o).mu id = c.mu id := by simp [Ctx.made, hid]
      rw [e]
      cases o' with
      | box cells =>
        obtain ⟨b, cs', T', hb, h1, h2⟩ := hv
        exact ⟨b, cs', T', hb, by show w'.heap[b]? = _; rw [hm.below.block b (hI.loc id b hb).2.1]; exact h1, h2.mono fun _ _ => made_cv hI hm o⟩
      | arr wd n f =>
        refine ⟨hv.1, hv.2.imp (fun x => x) ?_⟩
        rintro ⟨b, cs', T', hb, h1, h2, h3⟩
        exact ⟨b, cs', T', hb, by show w'.heap[b]? = _; rw [hm.below.block b (hI.loc id b hb).2.1]; exact h1, h2, fun i hi j d hd => let ⟨v, hv, ho, hp⟩ := h3 i hi j d hd; ⟨v, hv, ho, made_pv hI hm hp⟩⟩
      | gone => exact hv
  · simp only [Ctx.made, List.length_append, List.length_singleton] at hid ⊢
    rw [if_neg (by omega)]
    exact hI.dom id (by omega)
end

/-! an object that is written in place: same block, same number of cells -/
def Ctx.put (c : Ctx) (id : Nat) (o : Ob) (b : Nat) (cs : Array Value) : Ctx := { c with H := c.H.set id o, w := c.w.setRow b cs }

/-- The shape that pointers and slices lean on. -/
def Ob.same : Ob → Ob → Prop
  | .box _, .box _ => True
  | .arr wd n _, .arr wd' n' _ => wd = wd' ∧ n = n'
  | _, _ => False

section
variable {F : Fr} {c : Ctx} {id b : Nat} {o o' : Ob} {old cs : Array Value} {T : TypeId}
theorem put_pv (hI : Inv F c) (hb : c.mu id = some b) {v : Value} {d : D} (h : PV c.I c.w v d) : PV c.I (c.w.setRow b cs) v d :=
  h.mono (fun _ h => h) fun k hk => setRow_other c.w b k cs fun e => (hI.loc id b hb).2.2 (by rw [← e]; exact hk)
theorem put_room (hh : c.w.heap[b]? = some (.cells old T (0, 0))) (hs : cs.size = old.size) {k n : Nat} (h : Room c.w k n) : Room (c.w.setRow b cs) k n := by
  obtain ⟨cs', T', h1, h2⟩ := h
  by_cases e : k = b
  · subst e
    rw [hh] at h1
    cases h1
    exact ⟨cs, T, setRow_heap _ _ _ _ _ _ hh, by omega⟩
  · exact ⟨cs', T', by rw [setRow_other _ _ _ _ e]; exact h1, h2⟩
theorem put_H (ho : c.H[id]? = some o) {i : Nat} {o2 : Ob} (h : c.H[i]? = some o2) (hs : o.same o') : ∃ o3, (c.H.set id o')[i]? = some o3 ∧ (i ≠ id → o3 = o2) ∧ ((∃ cells, o2 = .box cells) → ∃ cells, o3 = .box cells) ∧ (∀ wd n f, o2 = .arr wd n f → ∃ f', o3 = .arr wd n f') := by
  by_cases e : i = id
  · subst e
    rw [ho] at h
    cases h
    refine ⟨o', by rw [List.getElem?_set_self (List.getElem?_eq_some_iff.1 ho).1], fun h => absurd rfl h, ?_, ?_⟩
    · rintro ⟨cells, rfl⟩
      cases o' <;> simp only [Ob.same] at hs
      exact ⟨_, rfl⟩
    · rintro wd n f rfl
      cases o' <;> simp only [Ob.same] at hs
      obtain ⟨rfl, rfl⟩ := hs
      exact ⟨_, rfl⟩
  · exact ⟨o2, by rw [List.getElem?_set_ne (Ne.symm e)]; exact h, fun _ => rfl, fun h => h, fun wd n f h => ⟨f, h⟩⟩
theorem put_cv (hI : Inv F c) (ho : c.H[id]? = some o) (hs : o.same o') (hb : c.mu id = some b) (hh : c.w.heap[b]? = some (.cells old T (0, 0))) (hsz : cs.size = old.size)
    {v : Value} {d : D} (h : CV c v d) : CV (c.put id o' b cs) v d := by
  cases d <;> simp only [CV] at h ⊢ <;> try exact put_pv hI hb h
  · exact h
  · obtain ⟨b', wd, n, f, hb', hH, hi, hv⟩ := h
    obtain ⟨o3, h3, _, _, h4⟩ := put_H (o' := o') ho hH hs
    obtain ⟨f', rfl⟩ := h4 _ _ _ rfl
    exact ⟨b', wd, n, f', hb', h3, hi, hv⟩
  · obtain ⟨wd, n, f, a, cap, hH, h2, h3, h4, h5⟩ := h
    obtain ⟨o3, h6, _, _, h7⟩ := put_H (o' := o') ho hH hs
    obtain ⟨f', rfl⟩ := h7 _ _ _ rfl
    refine ⟨wd, n, f', a, cap, h6, h2, h3, h4, h5.imp (fun x => x) ?_⟩
    rintro ⟨b', hb', ha, hr⟩
    exact ⟨b', hb', ha, put_room hh hsz hr⟩
theorem put_av (hI : Inv F c) (ho : c.H[id]? = some o) (hs : o.same o') (hb : c.mu id = some b) (hh : c.w.heap[b]? = some (.cells old T (0, 0))) (hsz : cs.size = old.size)
    {v : Value} {d : D} (h : AV c v d) : AV (c.put id o' b cs) v d := by
  cases d <;> simp only [AV] at h ⊢ <;> try exact put_cv hI ho hs hb hh hsz h
  · obtain ⟨vs, h1, h2⟩ := h; exact ⟨vs, h1, h2.mono fun _ _ => put_cv hI ho hs hb hh hsz⟩
  · obtain ⟨vs, h1, h2⟩ := h; exact ⟨vs, h1, h2.mono fun _ _ => put_cv hI ho hs hb hh hsz⟩
theorem put_tv (hI : Inv F c) (ho : c.H[id]? = some o) (hs : o.same o') (hb : c.mu id = some b) (hh : c.w.heap[b]? = some (.cells old T (0, 0))) (hsz : cs.size = old.size)
    {v : Value} {d : D} (h : TV c v d) : TV (c.put id o' b cs) v d := by
  cases d <;> simp only [TV] at h ⊢ <;> try exact put_av hI ho hs hb hh hsz h
  obtain ⟨vs, h1, h2⟩ := h; exact ⟨vs, h1, h2.mono fun _ _ => put_av hI ho hs hb hh hsz⟩
theorem below_setRow {B : Nat} {w : World} {b : Nat} (h : B ≤ b) (cs : Array Value) : Below B w (w.setRow b cs) :=
  ⟨rfl, rfl, rfl, by simp, fun k hk => setRow_other _ _ _ _ (by omega)⟩
theorem put_inv (hI : Inv F c) (ho : c.H[id]? = some o) (hs : o.same o') (hb : c.mu id = some b) (hh : c.w.heap[b]? = some (.cells old T (0, 0))) (hsz : cs.size = old.size)
    (hov : OV (c.put id o' b cs) (some b) o') : Inv F (c.put id o' b cs) := by
  refine ⟨?_, fun k hk => ⟨by simpa [Ctx.put] using (hI.imm k hk).1, (hI.imm k hk).2⟩, fun i k hk => ?_, hI.inj, fun i o2 h => ?_, fun i hi => hI.dom i (by simpa [Ctx.put] using hi), hI.lent, fun hl => ?_⟩
  rotate_left 3
  · have h1 := hI.mark hl
    have hne : F.L.length ≠ id := fun e => by rw [e, ho] at h1; cases h1; cases o' <;> exact hs
    show (c.H.set id o')[F.L.length]? = _
    rw [List.getElem?_set_ne (Ne.symm hne)]
    exact h1
  · refine ⟨hI.below.os, hI.below.tape, hI.below.output, by simpa [Ctx.put] using hI.below.size, fun k hk hl => ?_, fun k hl => ?_⟩
    · have hne : k ≠ b := fun e => by
        subst e
        rcases (hI.loc id k hb).1 with h | h
        · omega
        · exact hl h
      show (c.w.setRow b cs).heap[k]? = _
      rw [setRow_other _ _ _ _ hne]
      exact hI.below.block k hk hl
    · obtain ⟨cs0, cs1, T1, h1, h2, h3⟩ := hI.below.shape k hl
      show ∃ cs0 cs' T', F.w0.heap[k]? = some (.cells cs0 T' (0, 0)) ∧ (c.w.setRow b cs).heap[k]? = some (.cells cs' T' (0, 0)) ∧ cs'.size = cs0.size
      by_cases e : k = b
      · subst e
        rw [hh] at h2
        cases h2
        exact ⟨cs0, cs, T, h1, setRow_heap _ _ _ _ _ _ hh, by omega⟩
      · exact ⟨cs0, cs1, T1, h1, by rw [setRow_other _ _ _ _ e]; exact h2, h3⟩
  · obtain ⟨h1, h2, h3⟩ := hI.loc i k hk
    exact ⟨h1, by simpa [Ctx.put] using h2, h3⟩
  · by_cases e : i = id
    · subst e
      have : o2 = o' := by
        simp only [Ctx.put] at h
        rw [List.getElem?_set_self (List.getElem?_eq_some_iff.1 ho).1] at h
        cases h; rfl
      subst this
      have e2 : (c.put i o2 b cs).mu i = some b := hb
      rw [e2]
      exact hov
    · have hH : c.H[i]? = some o2 := by simp only [Ctx.put] at h; rw [List.getElem?_set_ne (Ne.symm e)] at h; exact h
      have hv := hI.obj i o2 hH
      have hne : ∀ k, c.mu i = some k → k ≠ b := fun k hk hkb => e (hI.inj i id b (hkb ▸ hk) hb)
      show OV (c.put id o' b cs) (c.mu i) o2
      cases o2 with
      | box cells =>
        obtain ⟨k, cs', T', hk, h1, h2⟩ := hv
        exact ⟨k, cs', T', hk, by show (c.w.setRow b cs).heap[k]? = _; rw [setRow_other _ _ _ _ (hne k hk)]; exact h1, h2.mono fun _ _ => put_cv hI ho hs hb hh hsz⟩
      | arr wd n f =>
        refine ⟨hv.1, hv.2.imp (fun x => x) ?_⟩
        rintro ⟨k, cs', T', hk, h1, h2, h3⟩
        exact ⟨k, cs', T', hk, by show (c.w.setRow b cs).heap[k]? = _; rw [setRow_other _ _ _ _ (hne k hk)]; exact h1, h2, fun i hi j d hd => let ⟨v, hv, ho, hp⟩ := h3 i hi j d hd; ⟨v, hv, ho, put_pv hI hb hp⟩⟩
      | gone => exact hv
end
end Nv
