/- An array of the call's own that is not written to any more: it joins the memory that does not change. -/
import Derived.Test.YtmangnohekiphaaNvMask
namespace Nv
open Go Go.RowKit

section
variable {F : Fr} {c : Ctx} {I1 : Nat → Prop}
def Ctx.more (c : Ctx) (I1 : Nat → Prop) : Ctx := { c with I := fun b => c.I b ∨ I1 b }
theorem more_pv {v : Value} {d : D} (h : PV c.I c.w v d) : PV (c.more I1).I (c.more I1).w v d := h.mono (fun _ h => .inl h) fun _ _ => rfl
theorem more_cv {v : Value} {d : D} (h : CV c v d) : CV (c.more I1) v d := by
  cases d <;> simp only [CV] at h ⊢ <;> first | exact more_pv h | exact h
theorem more_av {v : Value} {d : D} (h : AV c v d) : AV (c.more I1) v d := by
  cases d <;> simp only [AV] at h ⊢ <;> try exact more_cv h
  · obtain ⟨vs, h1, h2⟩ := h; exact ⟨vs, h1, h2.mono fun _ _ => more_cv⟩
  · obtain ⟨vs, h1, h2⟩ := h; exact ⟨vs, h1, h2.mono fun _ _ => more_cv⟩
theorem more_tv {v : Value} {d : D} (h : TV c v d) : TV (c.more I1) v d := by
  cases d <;> simp only [TV] at h ⊢ <;> try exact more_av h
  obtain ⟨vs, h1, h2⟩ := h; exact ⟨vs, h1, h2.mono fun _ _ => more_av⟩
theorem more_inv (hI : Inv F c) (h1 : ∀ b, I1 b → b < c.w.heap.size ∧ F.w0.heap.size ≤ b ∧ ∀ id, c.mu id ≠ some b) : Inv F (c.more I1) := by
  refine ⟨hI.below, fun b hb => ?_, fun id b hb => ?_, hI.inj, fun id o ho => ?_, hI.dom, hI.lent, hI.mark⟩
  · rcases hb with hb | hb
    · exact hI.imm b hb
    · obtain ⟨h2, h3, _⟩ := h1 b hb; exact ⟨h2, fun h => absurd h (Nat.not_lt.2 h3)⟩
  · obtain ⟨h2, h3, h4⟩ := hI.loc id b hb
    exact ⟨h2, h3, fun h => h.elim h4 fun h => (h1 b h).2.2 id hb⟩
  · have hv := hI.obj id o ho
    cases o with
    | box cells => obtain ⟨b, cs, T, h2, h3, h4⟩ := hv; exact ⟨b, cs, T, h2, h3, h4.mono fun _ _ => more_cv⟩
    | arr wd n f =>
      obtain ⟨h2, h3⟩ := hv
      refine ⟨h2, h3.imp (fun x => x) ?_⟩
      rintro ⟨b, cs, T, h4, h5, h6, h7⟩
      exact ⟨b, cs, T, h4, h5, h6, fun i hi j d hd => let ⟨v, e1, e2, e3⟩ := h7 i hi j d hd; ⟨v, e1, e2, more_pv e3⟩⟩
    | gone => exact hv
end

theorem le_frz {α : Type} [Inhabited α] {nt : Nat} {e : List (Nat × D)} {H : List Ob} (t id wd : Nat) (c : α → List D) (l : List α) (g : Nat → List D) (h : find e t = .asl id 0 l.length) (ho : H[id]? = some (aL wd c l)) (hf : freeB H id = true) :
    Le ⟨nt, e, H⟩ ⟨nt, (t, sL wd c l) :: e.map (fun p => (p.1, purge (some id) p.2)), (H.set id (.arr wd 0 g)).map (purgeO id)⟩ := by
  rintro F a w ⟨cx, rfl, hH, hI, henv, hsz, hd⟩
  obtain rfl : cx.H = H := hH
  have hown := free_own hI ho (by simp [aL]) hf
  have hid : id < cx.H.length := (List.getElem?_eq_some_iff.1 ho).1
  have hr : Redo cx id none cx.w := ⟨rfl, rfl, rfl, Nat.le_refl _, fun _ _ _ => rfl, fun b hb => by cases hb⟩
  have hI1 := redo_inv hI hown hr hid wd 0 g ⟨fun i hi => by omega, .inl ⟨rfl, rfl⟩⟩
  have hnl : ∀ k, cx.mu id = some k → ¬ F.lent k := fun k hk hl => by
    obtain ⟨i, hi⟩ := List.getElem?_of_mem hl
    have h1 := hI.lent i _ hi
    have h2 := hI.inj i id k h1 hk
    have h3 := (List.getElem?_eq_some_iff.1 hi).1
    rcases hown with h4 | h4
    · rw [h4] at h3; simp at h3
    · omega
  have hI2 := more_inv (I1 := fun b => cx.mu id = some b) hI1 (fun b hb => ⟨(hI.loc id b hb).2.1, ((hI.loc id b hb).1).resolve_right (hnl b hb), fun i hi => by
    simp only [Ctx.redo] at hi
    split at hi
    · cases hi
    · rename_i hne
      exact hne (hI.inj i id b hi hb)⟩)
  refine ⟨(cx.redo id (.arr wd 0 g) none cx.w).more fun b => cx.mu id = some b, rfl, rfl, hI2, fun u => ?_, hsz, hd⟩
  show TV _ _ (find ((t, sL wd c l) :: e.map (fun p => (p.1, purge (some id) p.2))) u)
  simp only [find]
  cases hb : Nat.beq t u with
  | false =>
    simp only [cond_false]
    rw [find_map]
    exact more_tv (redo_tv hI hr (henv u))
  | true =>
    obtain rfl := Nat.eq_of_beq_eq_true hb
    simp only [cond_true]
    have h2 : TV cx (a.tmps.getD t undef) (find e t) := henv t
    rw [h] at h2
    generalize a.tmps.getD t undef = v at h2
    obtain ⟨a0, cap, gv, hS⟩ := src_ok hI (x := .asl id 0 l.length) (wd := wd) (m := l.length) (g := fun i => (fun i => c (l.getD i default)) (0 + i)) (by simp only [srcD, ho, aL]) h2
    simp only [TV, AV, CV] at h2
    obtain ⟨wd1, n1, f1, a1, cap1, ho1, hl1, hv1, hc1, hor⟩ := h2
    have hval := hS.val
    rw [hv1] at hval
    cases hval
    subst hv1
    simp only [sL, TV, AV, CV]
    refine .sl a0 l.length cap wd false _ gv (fun h => by cases h) hS.le (fun hn => ?_) (fun i hi => ?_) hS.one fun i hi j d hd => ?_
    · obtain ⟨b, o, ha, hc⟩ := hS.cell hn
      rcases hor with h0 | ⟨b', hb', ha', _⟩
      · omega
      · rw [ha] at ha'
        cases ha'
        exact ⟨_, _, ha, .inr hb', hc⟩
    · have := hS.len i hi
      rwa [Nat.zero_add] at this
    · exact (hS.pv i hi j d (by rw [Nat.zero_add]; exact hd)).mono (fun _ h => .inl h) fun _ _ => rfl

section
variable {α : Type} [Inhabited α] (c : α → List D)
theorem app_snoc2 {l : List α} {x : α} {n : Nat} {f g : Nat → List D} (hn : n = l.length) (hf : ∀ i, i < n → f i = c (l.getD i default)) (hg : g 0 = c x) : ∀ i, i < n + 1 → app f n g i = c ((l ++ [x]).getD i default) := by
  subst hn
  intro i hi
  rw [← app_snoc c l x g hg i hi]
  unfold app
  cases hlt : Nat.blt i l.length with
  | true => have h := blt_true hlt; simp only [cond_true]; exact hf i h
  | false => rfl
theorem app_nilc {l : List α} {n : Nat} {f g : Nat → List D} (hg : ∀ i, i < n → g i = c (l.getD i default)) : ∀ i, i < 0 + n → app f 0 g i = c (l.getD i default) := by
  intro i hi
  unfold app
  have hb : Nat.blt i 0 = false := by cases i <;> rfl
  rw [hb]
  simp only [cond_false]
  exact hg _ (by omega)
end
theorem len_snoc2 {α : Type} {l : List α} {x : α} {n : Nat} (hn : n = l.length) : n + 1 = (l ++ [x]).length := by simp [hn]
end Nv
