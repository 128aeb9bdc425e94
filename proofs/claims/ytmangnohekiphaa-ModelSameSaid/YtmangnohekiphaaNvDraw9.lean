/- Drawn regions whose allocations and first stores float. -/
import Derived.Test.YtmangnohekiphaaNvDraw8
namespace Nv
open Go Go.RowKit
/-- The allocations' objects, in the text's order. -/
theorem floats_in2 {F : Fr} {ops : Array Oper} {H0 : List Ob} {p0 p : Nat} {zs : Nat → List D} {V : Nat → D} {listed : Array Bool} {a : Act} {c : Ctx} {HH : Nat → List Ob}
    (hDH : ∃ X, c.H = H0 ++ X ∧ X.all ngone = true) (hDI : Inv F c) (hall : ∀ j, j < p → listed.getD j false = true) (hH0 : HH p0 = H0) (hHs : ∀ k, p0 ≤ k → k < p → HH (k + 1) = HH k ++ [.box (zs k)])
    (hV : ∀ k, p0 ≤ k → k < p → V k = .ref (H0.length + (k - p0)) 0) (hbl : H0.all (blO H0.length) = true) (hzs : ∀ k, p0 ≤ k → k < p → (zs k).all (blC H0.length) = true)
    (fid : Nat → Nat) (hf1 : ∀ k, p0 ≤ k → k < p → listed.getD k false = true → H0.length ≤ fid k ∧ c.H[fid k]? = some (.box (zs k)) ∧ ∀ t, (ops[k]?).bind (·.dst) = some t → TV c (a.tmps.getD t undef) (.ref (fid k) 0))
    (hf2 : ∀ k l, p0 ≤ k → k < p → p0 ≤ l → l < p → listed.getD k false = true → listed.getD l false = true → fid k = fid l → k = l) :
    ∀ j, p0 + j ≤ p → ∃ d : Ctx, d.w = c.w ∧ d.I = c.I ∧ Inv F d ∧ d.H = HH (p0 + j) ∧ d.H.length = H0.length + j ∧ (∀ v e, TV c v e → blT H0.length e = true → TV d v e) ∧ (∀ v e, CV c v e → blC H0.length e = true → CV d v e) ∧
      (∀ k, p0 ≤ k → k < p0 + j → ∀ t, (ops[k]?).bind (·.dst) = some t → TV d (a.tmps.getD t undef) (V k)) ∧
      (∀ id b, d.mu id = some b → (id < H0.length ∧ c.mu id = some b) ∨ ∃ k, p0 ≤ k ∧ k < p0 + j ∧ c.mu (fid k) = some b)
  | 0, _ => by
    obtain ⟨X, hX, hXg⟩ := hDH
    refine ⟨c.cut H0.length, rfl, rfl, cut_inv hDI ?_ ?_, ?_, ?_, fun v e h hb => cut_tv h hb, fun v e h hb => cut_cv h hb, fun k h1 h2 => by omega, fun id b h => ?_⟩
    · rw [hX, List.take_left]; exact hbl
    · rw [hX, List.drop_left]; exact hXg
    · show c.H.take H0.length = _
      rw [hX, List.take_left, Nat.add_zero, hH0]
    · show (c.H.take H0.length).length = _
      rw [hX, List.take_left]; rfl
    · have h : (if id < H0.length then c.mu id else none) = some b := h
      split at h
      · exact .inl ⟨by assumption, h⟩
      · cases h
  | j + 1, hj => by
    obtain ⟨d, hw, hIe, hI, hH, hlen, htv, hcv, hfl, hmu⟩ := floats_in2 hDH hDI hall hH0 hHs hV hbl hzs fid hf1 hf2 j (by omega)
    have hk1 : p0 ≤ p0 + j := by omega
    have hk2 : p0 + j < p := by omega
    obtain ⟨g1, g2, g3⟩ := hf1 (p0 + j) hk1 hk2 (hall _ hk2)
    obtain ⟨b, cs, T, hb, hcs, hvs⟩ := hDI.obj _ _ g2
    obtain ⟨l1, l2, l3⟩ := hDI.loc _ b hb
    have hne : ∀ id, d.mu id ≠ some b := fun id h => by
      rcases hmu id b h with ⟨h1, h2⟩ | ⟨k, h1, h2, h3⟩
      · have := hDI.inj id _ b h2 hb
        omega
      · have := hf2 k (p0 + j) h1 (by omega) hk1 hk2 (hall _ (by omega)) (hall _ hk2) (hDI.inj _ _ b h3 hb)
        omega
    have hz := hzs (p0 + j) hk1 hk2
    have hI' : Inv F (d.add (.box (zs (p0 + j))) b) := add_inv hI (by rw [hw]; exact l2) l1 (by rw [hIe]; exact l3) hne ⟨cs, T, by rw [hw]; exact hcs, hvs.1, fun i v e h1 h2 => hcv v e (hvs.2 i v e h1 h2) (List.all_eq_true.1 hz e (List.mem_of_getElem? h2))⟩
    refine ⟨d.add (.box (zs (p0 + j))) b, hw, hIe, hI', ?_, ?_, fun v e h hb' => add_tv hI (htv v e h hb'), fun v e h hb' => add_cv hI (hcv v e h hb'), fun k h1 h2 t ht => ?_, fun id b' h => ?_⟩
    · show d.H ++ [_] = _
      rw [hH, ← Nat.add_assoc, hHs _ hk1 hk2]
    · show (d.H ++ [_]).length = _
      simp [hlen]; omega
    · rcases Nat.lt_or_ge k (p0 + j) with h3 | h3
      · exact add_tv hI (hfl k h1 h3 t ht)
      · have : k = p0 + j := by omega
        subst this
        have h4 := g3 t ht
        rw [hV _ hk1 hk2]
        simp only [TV, AV, CV] at h4 ⊢
        obtain ⟨b', h5, h6⟩ := h4
        rw [hb] at h5
        cases h5
        refine ⟨b, ?_, h6⟩
        show (if H0.length + (p0 + j - p0) = d.H.length then some b else _) = some b
        rw [if_pos (by omega)]
    · have h : (if id = d.H.length then some b else d.mu id) = some b' := h
      split at h
      · cases h
        exact .inr ⟨p0 + j, hk1, by omega, hb⟩
      · rcases hmu id b' h with h1 | ⟨k, h1, h2, h3⟩
        · exact .inl h1
        · exact .inr ⟨k, h1, by omega, h3⟩


def ct (p0 p : Nat) (zs fs : Nat → List D) (listed : Array Bool) (k : Nat) : List D := bif listed.getD (k + (p - p0)) false then fs k else zs k
theorem ct_ne {p0 p : Nat} {zs fs : Nat → List D} {listed : Array Bool} {i k : Nat} (h : i ≠ k + (p - p0)) : ct p0 p zs fs (listed.setIfInBounds i true) k = ct p0 p zs fs listed k := by
  simp only [ct, getD_set_ne false h]
def isTmp (u : Nat) : Operand → Bool
  | .tmp t => Nat.beq t u
  | _ => false
theorem isTmp_eq {u : Nat} {y : Operand} (h : isTmp u y = true) : y = .tmp u := by
  unfold isTmp at h
  split at h
  · rw [Nat.eq_of_beq_eq_true h]
  · cases h
theorem all_set {X : List Ob} (h : X.all ngone = true) {i : Nat} {o : Ob} (ho : ngone o = true) : (X.set i o).all ngone = true := by
  rw [List.all_eq_true] at h ⊢
  intro x hx
  rcases List.mem_or_eq_of_mem_set hx with h1 | h1
  · exact h x h1
  · rw [h1]; exact ho
end Nv
