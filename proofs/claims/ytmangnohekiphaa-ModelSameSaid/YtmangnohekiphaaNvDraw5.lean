/- Regions that draw their order and begin with allocations that stand in no order with the rest. -/
import Derived.Test.YtmangnohekiphaaNvDraw4
import Derived.Test.YtmangnohekiphaaNvFloat
namespace Nv
open Go Go.RowKit

/-! an object whose block is there already joins -/
def Ctx.add (c : Ctx) (o : Ob) (b : Nat) : Ctx := { c with mu := fun i => if i = c.H.length then some b else c.mu i, H := c.H ++ [o] }
section
variable {F : Fr} {c : Ctx} {o : Ob} {b : Nat}
theorem add_mu (hI : Inv F c) {id k : Nat} (h : c.mu id = some k) : (c.add o b).mu id = some k := by
  show (if id = c.H.length then some b else c.mu id) = some k
  rw [if_neg]
  · exact h
  · intro e; rw [hI.dom id (by omega)] at h; cases h
theorem add_H {id : Nat} {o' : Ob} (h : c.H[id]? = some o') : (c.add o b).H[id]? = some o' := get_more _ h
theorem add_cv (hI : Inv F c) {v : Value} {d : D} (h : CV c v d) : CV (c.add o b) v d := by
  cases d <;> simp only [CV] at h ⊢ <;> try exact h
  · obtain ⟨k, hk, hv⟩ := h; exact ⟨k, add_mu hI hk, hv⟩
  · obtain ⟨k, wd, n, f, hk, hH, hi, hv⟩ := h; exact ⟨k, wd, n, f, add_mu hI hk, add_H hH, hi, hv⟩
  · obtain ⟨wd, n, f, a, cap, hH, h2, h3, h4, h5⟩ := h
    exact ⟨wd, n, f, a, cap, add_H hH, h2, h3, h4, h5.imp (fun x => x) fun ⟨k, hk, ha, hr⟩ => ⟨k, add_mu hI hk, ha, hr⟩⟩
theorem add_av (hI : Inv F c) {v : Value} {d : D} (h : AV c v d) : AV (c.add o b) v d := by
  cases d <;> simp only [AV] at h ⊢ <;> try exact add_cv hI h
  · obtain ⟨vs, h1, h2⟩ := h; exact ⟨vs, h1, h2.mono fun _ _ => add_cv hI⟩
  · obtain ⟨vs, h1, h2⟩ := h; exact ⟨vs, h1, h2.mono fun _ _ => add_cv hI⟩
theorem add_tv (hI : Inv F c) {v : Value} {d : D} (h : TV c v d) : TV (c.add o b) v d := by
  cases d <;> simp only [TV] at h ⊢ <;> try exact add_av hI h
  obtain ⟨vs, h1, h2⟩ := h; exact ⟨vs, h1, h2.mono fun _ _ => add_av hI⟩
theorem add_inv {cells : List D} (hI : Inv F c) (h1 : b < c.w.heap.size) (h2 : F.w0.heap.size ≤ b ∨ F.lent b) (h3 : ¬ c.I b) (h4 : ∀ id, c.mu id ≠ some b)
    (hov : ∃ cs T, c.w.heap[b]? = some (.cells cs T (0, 0)) ∧ Vs (CV c) cs cells) : Inv F (c.add (.box cells) b) := by
  refine ⟨hI.below, hI.imm, fun id k hk => ?_, fun i j k h5 h6 => ?_, fun id o' h => ?_, fun id hid => ?_, fun i v hv => ?_, fun hl => add_H (hI.mark hl)⟩
  · have hk : (if id = c.H.length then some b else c.mu id) = some k := hk
    split at hk
    · cases hk; exact ⟨h2, h1, h3⟩
    · exact hI.loc id k hk
  · have h5 : (if i = c.H.length then some b else c.mu i) = some k := h5
    have h6 : (if j = c.H.length then some b else c.mu j) = some k := h6
    split at h5 <;> split at h6
    · omega
    · cases h5; exact absurd h6 (h4 j)
    · cases h6; exact absurd h5 (h4 i)
    · exact hI.inj i j k h5 h6
  · by_cases hid : id = c.H.length
    · subst hid
      have : o' = .box cells := by simp [Ctx.add] at h; exact h.symm
      subst this
      obtain ⟨cs, T, h5, h6⟩ := hov
      exact ⟨b, cs, T, by simp [Ctx.add], h5, h6.mono fun _ _ => add_cv hI⟩
    · have hH0 : c.H[id]? = some o' := by
        have h : (c.H ++ [.box cells])[id]? = some o' := h
        have hl := (List.getElem?_eq_some_iff.1 h).1
        simp at hl
        rw [List.getElem?_append_left (by omega)] at h
        exact h
      have hv := hI.obj id o' hH0
      have e : (c.add (.box cells) b).mu id = c.mu id := by show (if id = c.H.length then some b else _) = _; simp [hid]
      rw [e]
      cases o' with
      | box cells' => obtain ⟨k, cs', T', hk, h5, h6⟩ := hv; exact ⟨k, cs', T', hk, h5, h6.mono fun _ _ => add_cv hI⟩
      | arr w1 n1 f1 => exact hv
      | gone => exact hv
  · show (if id = c.H.length then some b else c.mu id) = none
    have hid : (c.H ++ [Ob.box cells]).length ≤ id := hid
    simp at hid
    rw [if_neg (by omega)]
    exact hI.dom id (by omega)
  · have h5 := hI.lent i v hv
    have hlt : i < c.H.length := by
      have h6 := (List.getElem?_eq_some_iff.1 hv).1
      have h7 := (List.getElem?_eq_some_iff.1 (hI.mark (by intro e; rw [e] at h6; simp at h6))).1
      omega
    show (if i = c.H.length then some b else c.mu i) = v
    rw [if_neg (by omega)]
    exact h5
end
theorem traceW_join {P : Program} {nt : Nat} {ops : Array Oper} {bs1 bs2 : List Bool} {rq1 rq2 : List Req} {p n : Nat} {E1 E2 : Nat → List (Nat × D)} {H1 H2 : Nat → List Ob} {V1 V2 : Nat → D}
    (h1 : TraceW P nt ops bs1 rq1 0 p E1 H1 V1) (h2 : TraceW P nt ops bs2 rq2 p n E2 H2 V2) (hE : E1 p = E2 p) (hH : H1 p = H2 p) :
    TraceW P nt ops (bs1 ++ bs2) (rq1 ++ rq2) 0 n (fun i => if i < p then E1 i else E2 i) (fun i => if i < p then H1 i else H2 i) (fun i => if i < p then V1 i else V2 i) := by
  have e : ∀ i, i < p → (if i + 1 < p then E1 (i + 1) else E2 (i + 1)) = E1 (i + 1) := fun i hi => by
    by_cases h : i + 1 < p
    · rw [if_pos h]
    · have : i + 1 = p := by omega
      rw [if_neg h, this, hE]
  have eh : ∀ i, i < p → (if i + 1 < p then H1 (i + 1) else H2 (i + 1)) = H1 (i + 1) := fun i hi => by
    by_cases h : i + 1 < p
    · rw [if_pos h]
    · have : i + 1 = p := by omega
      rw [if_neg h, this, hH]
  refine ⟨fun i _ hi => ?_, fun i _ hi => ?_⟩
  · by_cases h : i < p
    · obtain ⟨o, orc, b, r, orc', h3, h4, h5, h6⟩ := h1.step i (Nat.zero_le _) h
      refine ⟨o, orc, b, r, orc', h3, ?_, fun x hx => List.mem_append_left _ (h5 x hx), fun x hx => List.mem_append_left _ (h6 x hx)⟩
      simp only [if_pos h, eh i h]
      exact h4
    · obtain ⟨o, orc, b, r, orc', h3, h4, h5, h6⟩ := h2.step i (by omega) hi
      refine ⟨o, orc, b, r, orc', h3, ?_, fun x hx => List.mem_append_right _ (h5 x hx), fun x hx => List.mem_append_right _ (h6 x hx)⟩
      simp only [if_neg h, if_neg (show ¬ i + 1 < p by omega)]
      exact h4
  · by_cases h : i < p
    · obtain ⟨o, h3, h4⟩ := h1.put i (Nat.zero_le _) h
      refine ⟨o, h3, ?_⟩
      simp only [if_pos h, e i h]
      exact h4
    · obtain ⟨o, h3, h4⟩ := h2.put i (by omega) hi
      refine ⟨o, h3, ?_⟩
      simp only [if_neg h, if_neg (show ¬ i + 1 < p by omega)]
      exact h4
end Nv
