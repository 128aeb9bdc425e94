/- An array of the call's own that is not written to any more, wherever its slice stands. -/
import Derived.Test.YtmangnohekiphaaNvFrz
namespace Nv
open Go Go.RowKit
/-! the same, wherever the slice stands -/
theorem own_ext {f q : Nat → List D} {n : Nat} (h : ∀ i, i < n → f i = q i) : ∀ i, i < n → f (0 + i) = q i := fun i hi => by rw [Nat.zero_add]; exact h i hi
def frC (id wd : Nat) (f : Nat → List D) : D → D
  | .asl i off m => bif Nat.beq i id then .sl false wd m (fun k => f (off + k)) else .asl i off m
  | d => bif mt id d then .any else d
def frO (id wd : Nat) (f : Nat → List D) : Ob → Ob
  | .box cells => .box (cells.map (frC id wd f))
  | o => o
def frS (id wd : Nat) (f g : Nat → List D) (s : St) : St := ⟨s.nt, s.env.map fun p => (p.1, frC id wd f p.2), (s.H.set id (.arr wd 0 g)).map (frO id wd f)⟩
def Ctx.frz (c : Ctx) (id wd : Nat) (f g : Nat → List D) : Ctx :=
  { I := fun b => c.I b ∨ c.mu id = some b, mu := fun i => if i = id then none else c.mu i, H := (c.H.set id (.arr wd 0 g)).map (frO id wd f), w := c.w }
theorem find_frC (id wd : Nat) (f : Nat → List D) : ∀ (env : List (Nat × D)) (t : Nat), find (env.map fun p => (p.1, frC id wd f p.2)) t = frC id wd f (find env t)
  | [], t => by simp [find, frC, mt]
  | p :: e, t => by
    simp only [List.map_cons, find]
    cases Nat.beq p.1 t with
    | true => rfl
    | false => exact find_frC id wd f e t
section
variable {F : Fr} {c : Ctx} {id wd n : Nat} {f g : Nat → List D}
theorem frz_H {i : Nat} (hne : i ≠ id) {o : Ob} (h : c.H[i]? = some o) : (c.frz id wd f g).H[i]? = some (frO id wd f o) := by
  simp only [Ctx.frz, List.getElem?_map, List.getElem?_set_ne (Ne.symm hne), h, Option.map_some]
theorem frz_pv {v : Value} {d : D} (h : PV c.I c.w v d) : PV (c.frz id wd f g).I (c.frz id wd f g).w v d := h.mono (fun _ h => .inl h) fun _ _ => rfl
theorem frz_cv {v : Value} {d : D} (h : CV c v d) (hm : mc id d = false) : CV (c.frz id wd f g) v d := by
  cases d <;> simp only [CV] at h ⊢ <;> try exact frz_pv h
  · rename_i i off
    have hne : i ≠ id := Nat.ne_of_beq_eq_false hm
    obtain ⟨b, hb, hv⟩ := h
    exact ⟨b, by simp [Ctx.frz, hne, hb], hv⟩
  · rename_i i j off
    have hne : i ≠ id := Nat.ne_of_beq_eq_false hm
    obtain ⟨b, wd1, n1, f1, hb, hH, hi, hv⟩ := h
    exact ⟨b, wd1, n1, f1, by simp [Ctx.frz, hne, hb], frz_H hne hH, hi, hv⟩
  · rename_i i off len
    have hne : i ≠ id := Nat.ne_of_beq_eq_false hm
    obtain ⟨wd1, n1, f1, a, cap, hH, h2, h3, h4, h5⟩ := h
    refine ⟨wd1, n1, f1, a, cap, frz_H hne hH, h2, h3, h4, h5.imp (fun x => x) ?_⟩
    rintro ⟨b, hb, ha, hr⟩
    exact ⟨b, by simp [Ctx.frz, hne, hb], ha, hr⟩
theorem frz_av {v : Value} {d : D} (h : AV c v d) (hm : ma id d = false) : AV (c.frz id wd f g) v d := by
  cases d <;> simp only [AV] at h ⊢ <;> try exact frz_cv h hm
  · obtain ⟨vs, h1, h2⟩ := h; exact ⟨vs, h1, vs_purge (fun v d h hq => frz_cv h hq) h2 hm⟩
  · obtain ⟨vs, h1, h2⟩ := h; exact ⟨vs, h1, vs_purge (fun v d h hq => frz_cv h hq) h2 hm⟩
theorem frz_key (hI : Inv F c) (ho : c.H[id]? = some (.arr wd n f)) {v : Value} {off m : Nat} (h : CV c v (.asl id off m)) : PV (c.frz id wd f g).I (c.frz id wd f g).w v (.sl false wd m (fun k => f (off + k))) := by
  have h2 : TV c v (.asl id off m) := by simp only [TV, AV]; exact h
  obtain ⟨a0, cap, gv, hS⟩ := src_ok hI (x := .asl id off m) (wd := wd) (m := m) (g := fun i => f (off + i)) (by simp only [srcD, ho]) h2
  simp only [CV] at h
  obtain ⟨wd1, n1, f1, a1, cap1, ho1, hl1, hv1, hc1, hor⟩ := h
  have hval := hS.val
  rw [hv1] at hval
  cases hval
  subst hv1
  refine .sl a0 m cap wd false _ gv (fun h => by cases h) hS.le (fun hn => ?_) hS.len hS.one fun i hi j d hd => (hS.pv i hi j d hd).mono (fun _ h => .inl h) fun _ _ => rfl
  obtain ⟨b, o, ha, hc⟩ := hS.cell hn
  rcases hor with h0 | ⟨b', hb', ha', _⟩
  · omega
  · rw [ha] at ha'
    cases ha'
    exact ⟨_, _, ha, .inr hb', hc⟩
theorem frz_c (hI : Inv F c) (ho : c.H[id]? = some (.arr wd n f)) {v : Value} {d : D} (h : CV c v d) : CV (c.frz id wd f g) v (frC id wd f d) := by
  have gen : ∀ d, CV c v d → (∀ i off m, d ≠ .asl i off m) → CV (c.frz id wd f g) v (bif mt id d then .any else d) := fun d h _ => by
    cases hm : mt id d with
    | true => simp only [cond_true, CV]; exact .any _
    | false =>
      simp only [cond_false]
      cases d <;> first | exact frz_cv h hm | (simp only [CV] at h ⊢; cases h; exact .fn _) | (simp only [CV] at h; cases h)
  cases d <;> try exact gen _ h (by simp)
  rename_i i off m
  simp only [frC]
  cases hb : Nat.beq i id with
  | true =>
    obtain rfl := Nat.eq_of_beq_eq_true hb
    simp only [cond_true]
    have := frz_key (g := g) hI ho h
    simpa only [CV] using this
  | false =>
    simp only [cond_false]
    exact frz_cv h hb
theorem frz_t (hI : Inv F c) (ho : c.H[id]? = some (.arr wd n f)) {v : Value} {d : D} (h : TV c v d) : TV (c.frz id wd f g) v (frC id wd f d) := by
  have gen : ∀ d, TV c v d → (∀ i off m, d ≠ .asl i off m) → TV (c.frz id wd f g) v (bif mt id d then .any else d) := fun d h _ => by
    cases hm : mt id d with
    | true => exact tv_any
    | false =>
      simp only [cond_false]
      cases d <;> simp only [TV] at h ⊢ <;> first | exact frz_av h hm | skip
      · obtain ⟨vs, h1, h2⟩ := h; exact ⟨vs, h1, vs_purge (fun v d h hq => frz_av h hq) h2 hm⟩
      · cases hm
  cases d <;> try exact gen _ h (by simp)
  simp only [TV, AV] at h
  have h3 := frz_c (g := g) hI ho h
  rename_i i off m
  simp only [frC] at h3 ⊢
  cases hb : Nat.beq i id with
  | true => rw [hb] at h3; simpa only [TV, AV, cond_true] using h3
  | false => rw [hb] at h3; simpa only [TV, AV, cond_false] using h3
end
theorem le_frb {s s' : St} (id wd n : Nat) (f g : Nat → List D) (ho : s.H[id]? = some (.arr wd n f)) (hf : freeB s.H id = true) (h : frS id wd f g s = s') : Le s s' := by
  subst h
  rintro F a w ⟨cx, rfl, hH, hI, henv, hsz, hd⟩
  rw [← hH] at ho hf
  have hown := free_own hI ho (by simp) hf
  have hid : id < cx.H.length := (List.getElem?_eq_some_iff.1 ho).1
  have hr : Redo cx id none cx.w := ⟨rfl, rfl, rfl, Nat.le_refl _, fun _ _ _ => rfl, fun b hb => by cases hb⟩
  have hI1 := redo_inv hI hown hr hid wd 0 g ⟨fun i hi => by omega, .inl ⟨rfl, rfl⟩⟩
  have hnl : ∀ k, cx.mu id = some k → ¬ F.lent k := fun k hk hl => by
    obtain ⟨i, hi⟩ := List.getElem?_of_mem hl
    have h1 := hI.lent i _ hi
    have h2 := hI.inj i id k h1 hk
    have h3 := (List.getElem?_eq_some_iff.1 hi).1
    rcases hown with h4 | h4
    · rw [h4] at h3; simp at h3
    · omega
  have hI2 := more_inv (I1 := fun b => cx.mu id = some b) hI1 (fun b hb => ⟨(hI.loc id b hb).2.1, ((hI.loc id b hb).1).resolve_right (hnl b hb), fun i hi => by
    simp only [Ctx.redo] at hi
    split at hi
    · cases hi
    · rename_i hne
      exact hne (hI.inj i id b hi hb)⟩)
  refine ⟨cx.frz id wd f g, rfl, by simp only [frS, ← hH]; rfl, ⟨hI2.below, hI2.imm, hI2.loc, hI2.inj, fun i o h => ?_, fun i hi => ?_, hI2.lent, fun hl => ?_⟩, fun u => ?_, hsz, hd⟩
  · by_cases e : i = id
    · subst e
      have : o = .arr wd 0 g := by
        simp only [Ctx.frz, List.getElem?_map, List.getElem?_set_self hid, Option.map_some, frO, Option.some.injEq] at h
        exact h.symm
      subst this
      exact ⟨fun i hi => by omega, .inl ⟨by simp [Ctx.frz], rfl⟩⟩
    · obtain ⟨o3, hH3, rfl⟩ : ∃ o3, cx.H[i]? = some o3 ∧ frO id wd f o3 = o := by
        simp only [Ctx.frz, List.getElem?_map, List.getElem?_set_ne (Ne.symm e)] at h
        exact Option.map_eq_some_iff.1 h
      have hv := hI.obj i o3 hH3
      have em : (cx.frz id wd f g).mu i = cx.mu i := by simp [Ctx.frz, e]
      rw [em]
      cases o3 with
      | box cells =>
        obtain ⟨b, cs, T, h2, h3, h4⟩ := hv
        refine ⟨b, cs, T, h2, h3, by rw [h4.1]; simp, fun j v d h5 h6 => ?_⟩
        rw [List.getElem?_map] at h6
        obtain ⟨d0, h7, rfl⟩ := Option.map_eq_some_iff.1 h6
        exact frz_c hI ho (h4.2 j v d0 h5 h7)
      | arr wd1 n1 f1 =>
        obtain ⟨h2, h3⟩ := hv
        refine ⟨h2, h3.imp (fun x => x) ?_⟩
        rintro ⟨b, cs, T, h4, h5, h6, h7⟩
        exact ⟨b, cs, T, h4, h5, h6, fun i hi j d hd => let ⟨v, e1, e2, e3⟩ := h7 i hi j d hd; ⟨v, e1, e2, frz_pv e3⟩⟩
      | gone => exact hv
  · have h1 := hI2.dom i (by simpa [Ctx.frz, Ctx.redo, Ctx.more] using hi)
    exact h1
  · have hne : F.L.length ≠ id := by
      rcases hown with h4 | h4
      · exact absurd h4 hl
      · omega
    exact frz_H hne (hI.mark hl)
  · show TV _ _ (find (s.env.map fun p => (p.1, frC id wd f p.2)) u)
    rw [find_frC]
    exact frz_t hI ho (henv u)
end Nv
