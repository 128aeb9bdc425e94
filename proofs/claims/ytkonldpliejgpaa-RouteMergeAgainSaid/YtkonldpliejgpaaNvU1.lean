/- Prefixes in order; lists with one route for each prefix. No condition. -/
import Derived.Test.YtkonldpliejgpaaNvR1
import Derived.Test.YtkonldpliejgpaaNvLibC
namespace Nv
open Go
def plt (p q : TPrefix) : Prop := p.fAddr < q.fAddr ∨ (p.fAddr = q.fAddr ∧ p.fLen < q.fLen)
instance (p q : TPrefix) : Decidable (plt p q) := by unfold plt; infer_instance
def peq (p q : TPrefix) : Bool := (p.fAddr == q.fAddr) && ((p.fLen == q.fLen) && true)
theorem peq_iff {p q : TPrefix} : peq p q = true ↔ p = q := by cases p; cases q; simp [peq]
theorem peq_not {p q : TPrefix} : peq p q = false ↔ p ≠ q := by rw [ne_eq, ← peq_iff]; simp
theorem plt_tri (p q : TPrefix) : plt p q ∨ p = q ∨ plt q p := by
  cases p; cases q; simp only [plt, TPrefix.mk.injEq]; omega
theorem plt_irr (p : TPrefix) : ¬ plt p p := by unfold plt; omega
theorem plt_tr {p q r : TPrefix} (h : plt p q) (k : plt q r) : plt p r := by unfold plt at *; omega
theorem plt_ne {p q : TPrefix} (h : plt p q) : p ≠ q := by rintro rfl; exact plt_irr _ h
noncomputable def prc (x y : TRoute) : Int := S.addr_Compare x.fPrefix y.fPrefix
theorem addrCompare_iff (p q : TPrefix) : S.addr_Compare p q < 0 ↔ plt p q := by
  unfold S.addr_Compare plt
  simp only [letS, q_cmp, q_cmp32]
  unfold cmpI
  by_cases h1 : p.fAddr < q.fAddr
  · simp [h1]
  · by_cases h2 : p.fAddr > q.fAddr
    · have h3 : ¬ p.fAddr = q.fAddr := by omega
      simp [h1, h2, h3]
    · have h3 : p.fAddr = q.fAddr := by omega
      by_cases g1 : p.fLen < q.fLen
      · simp [h3, g1]
      · by_cases g2 : p.fLen > q.fLen
        · simp [h3, g1, g2]
        · simp [h3, g1, g2]
theorem addrCompare_lt (p q : TPrefix) : decide (S.addr_Compare p q < 0) = decide (plt p q) := decide_eq_decide.2 (addrCompare_iff p q)
theorem refCompare_iff (p q : TPrefix) : S.ref4_Compare p q ≥ 0 ↔ ¬ plt p q := by
  unfold S.ref4_Compare plt
  by_cases h1 : p.fAddr < q.fAddr
  · simp [h1]
  · by_cases h3 : p.fAddr = q.fAddr
    · by_cases g1 : p.fLen < q.fLen
      · simp [h3, g1]
      · by_cases g2 : p.fLen = q.fLen
        · simp [h3, g2]
        · rw [show (p.fLen == q.fLen) = false by simpa using g2]; simp [h3, g1]
    · rw [show (p.fAddr == q.fAddr) = false by simpa using h3]; simp [h1, h3]
theorem prc_lt (x y : TRoute) : ltc prc x y = decide (plt x.fPrefix y.fPrefix) := addrCompare_lt _ _
theorem prc_sw : SW (ltc prc) where
  irr x := by rw [prc_lt]; simp [plt_irr]
  tr x y z h1 h2 := by rw [prc_lt, decide_eq_true_eq] at *; exact plt_tr h1 h2
  ntr x y z h1 h2 := by rw [prc_lt, decide_eq_false_iff_not] at *; unfold plt at *; omega
theorem prc_eqv (e x : TRoute) : eqv (ltc prc) e x = peq x.fPrefix e.fPrefix := by
  unfold eqv
  rw [prc_lt, prc_lt]
  cases h : peq x.fPrefix e.fPrefix with
  | true => rw [peq_iff.1 h]; simp [plt_irr]
  | false =>
    have := peq_not.1 h
    rcases plt_tri e.fPrefix x.fPrefix with g | g | g
    · simp [g]
    · exact absurd g.symm this
    · simp [g]
def Asc (l : List TRoute) : Prop := l.Pairwise fun x y => plt x.fPrefix y.fPrefix
def lk (p : TPrefix) (l : List TRoute) : Option TRoute := l.find? fun t => peq t.fPrefix p
theorem lk_some {p : TPrefix} {l : List TRoute} {t : TRoute} (h : lk p l = some t) : t ∈ l ∧ t.fPrefix = p :=
  ⟨List.mem_of_find?_eq_some h, peq_iff.1 (List.find?_some (p := fun t : TRoute => peq t.fPrefix p) h)⟩
theorem lk_mem {l : List TRoute} (ha : Asc l) {t : TRoute} (h : t ∈ l) : lk t.fPrefix l = some t := by
  induction l with
  | nil => cases h
  | cons x l ih =>
    unfold Asc at ha
    rw [List.pairwise_cons] at ha
    unfold lk
    rcases List.mem_cons.1 h with rfl | h
    · rw [List.find?_cons_of_pos (by rw [peq_iff])]
    · have := plt_ne (ha.1 t h)
      rw [List.find?_cons_of_neg (by rw [peq_iff]; exact this)]
      exact ih ha.2 h
theorem lk_none {p : TPrefix} {l : List TRoute} (h : ∀ t ∈ l, t.fPrefix ≠ p) : lk p l = none := by
  unfold lk
  rw [List.find?_eq_none]
  intro t ht hp
  exact h t ht (peq_iff.1 hp)
theorem asc_ext : ∀ {l m : List TRoute}, Asc l → Asc m → (∀ p, lk p l = lk p m) → l = m
  | [], [], _, _, _ => rfl
  | [], y :: m, _, _, h => by have := h y.fPrefix; simp [lk, peq_iff.2 rfl] at this
  | x :: l, [], _, _, h => by have := h x.fPrefix; simp [lk, peq_iff.2 rfl] at this
  | x :: l, y :: m, h1, h2, h => by
    have ex : lk x.fPrefix (x :: l) = some x := lk_mem h1 List.mem_cons_self
    have ey : lk y.fPrefix (y :: m) = some y := lk_mem h2 List.mem_cons_self
    unfold Asc at h1 h2
    rw [List.pairwise_cons] at h1 h2
    have hx := lk_some ((h x.fPrefix).symm.trans ex)
    have hy := lk_some ((h y.fPrefix).trans ey)
    have exy : x = y := by
      rcases List.mem_cons.1 hx.1 with e | e
      · exact e
      · rcases List.mem_cons.1 hy.1 with e2 | e2
        · exact e2.symm
        · exact absurd (plt_tr (h1.1 y e2) (h2.1 x e)) (plt_irr _)
    subst exy
    congr 1
    refine asc_ext h1.2 h2.2 fun p => ?_
    cases hp : peq x.fPrefix p with
    | true =>
      rw [peq_iff] at hp
      subst hp
      rw [lk_none fun t ht => (plt_ne (h1.1 t ht)).symm, lk_none fun t ht => (plt_ne (h2.1 t ht)).symm]
    | false =>
      have := h p
      unfold lk at this ⊢
      rwa [List.find?_cons_of_neg (by simp [hp]), List.find?_cons_of_neg (by simp [hp])] at this
end Nv
