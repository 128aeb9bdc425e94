/- Routes merged, prefix by prefix: the program's. No condition. -/
import Derived.Test.YtkonldpliejgpaaNvG1
import Derived.Test.YtkonldpliejgpaaNvU1
set_option maxRecDepth 10000
namespace Nv
open Go Go.Sort Go.Proofs
theorem peq_rfl (p : TPrefix) : peq p p = true := peq_iff.2 rfl
def sameP (p : TPrefix) (x : TRoute) : Bool := peq x.fPrefix p
theorem drop_len (p : TRoute → Bool) (t : List TRoute) : (t.dropWhile p).length ≤ t.length := (List.dropWhile_sublist p).length_le
noncomputable def mg : List TRoute → List TRoute
  | [] => []
  | x :: t => mo (x :: t.takeWhile (sameP x.fPrefix)) :: mg (t.dropWhile (sameP x.fPrefix))
termination_by l => l.length
decreasing_by
  have := drop_len (sameP x.fPrefix) t
  simp only [List.length_cons]; omega
theorem mg_nil : mg [] = [] := by rw [mg]
theorem mg_cons (x : TRoute) (t : List TRoute) : mg (x :: t) = mo (x :: t.takeWhile (sameP x.fPrefix)) :: mg (t.dropWhile (sameP x.fPrefix)) := by rw [mg]
def PSorted (l : List TRoute) : Prop := l.Pairwise fun x y => ¬ plt y.fPrefix x.fPrefix
theorem split_sorted {p : TPrefix} : ∀ {t : List TRoute}, PSorted t → (∀ y ∈ t, ¬ plt y.fPrefix p) → t.takeWhile (sameP p) = t.filter (sameP p) ∧ (∀ y ∈ t.dropWhile (sameP p), plt p y.fPrefix) ∧ ∀ q, q ≠ p → (t.dropWhile (sameP p)).filter (sameP q) = t.filter (sameP q)
  | [], _, _ => ⟨rfl, fun y hy => by simp at hy, fun q _ => rfl⟩
  | y :: t, hs, hp => by
    unfold PSorted at hs
    rw [List.pairwise_cons] at hs
    have hy := hp y List.mem_cons_self
    cases hc : sameP p y with
    | true =>
      obtain ⟨h1, h2, h3⟩ := split_sorted (p := p) (t := t) hs.2 (fun z hz => hp z (List.mem_cons_of_mem _ hz))
      rw [List.takeWhile_cons_of_pos hc, List.dropWhile_cons_of_pos hc, List.filter_cons_of_pos hc, h1]
      refine ⟨rfl, h2, fun q hq => ?_⟩
      rw [h3 q hq, List.filter_cons_of_neg]
      intro hh
      exact hq ((peq_iff.1 hh).symm.trans (peq_iff.1 hc))
    | false =>
      have hne : y.fPrefix ≠ p := peq_not.1 hc
      have hlt : plt p y.fPrefix := by
        rcases plt_tri p y.fPrefix with h | h | h
        · exact h
        · exact absurd h.symm hne
        · exact absurd h hy
      have hall : ∀ z ∈ y :: t, plt p z.fPrefix := fun z hz => by
        rcases List.mem_cons.1 hz with rfl | hz
        · exact hlt
        · have := hs.1 z hz
          rcases plt_tri y.fPrefix z.fPrefix with h | h | h
          · exact plt_tr hlt h
          · rw [← h]; exact hlt
          · exact absurd h this
      have hn : ¬ sameP p y = true := by rw [hc]; exact Bool.false_ne_true
      rw [List.takeWhile_cons_of_neg hn, List.dropWhile_cons_of_neg hn]
      refine ⟨?_, hall, fun q _ => rfl⟩
      symm
      rw [List.filter_eq_nil_iff]
      intro z hz hh
      have := hall z hz
      rw [peq_iff.1 hh] at this
      exact plt_irr _ this
theorem mo_prefix {g : List TRoute} {p : TPrefix} (hg : g ≠ []) (h : ∀ x ∈ g, x.fPrefix = p) : (mo g).fPrefix = p := h (bestOf g) (bestOf_mem hg)
theorem mg_ok : ∀ (n : Nat) (r : List TRoute), r.length ≤ n → PSorted r → Asc (mg r) ∧ (∀ t ∈ mg r, ∃ x ∈ r, x.fPrefix = t.fPrefix) ∧ ∀ p, lk p (mg r) = if r.filter (sameP p) = [] then none else some (mo (r.filter (sameP p)))
  | _, [], _, _ => by rw [mg_nil]; exact ⟨List.Pairwise.nil, (fun t ht => by cases ht), fun p => rfl⟩
  | 0, x :: t, hn, _ => by simp at hn
  | n + 1, x :: t, hn, hs => by
    have hs' := hs
    unfold PSorted at hs
    rw [List.pairwise_cons] at hs
    obtain ⟨s1, s2, s3⟩ := split_sorted (p := x.fPrefix) (t := t) hs.2 hs.1
    have hl := drop_len (sameP x.fPrefix) t
    obtain ⟨i1, i2, i3⟩ := mg_ok n (t.dropWhile (sameP x.fPrefix)) (by simp only [List.length_cons] at hn; omega) (hs.2.sublist (List.dropWhile_sublist _))
    have hmp : (mo (x :: t.takeWhile (sameP x.fPrefix))).fPrefix = x.fPrefix := mo_prefix (by simp) fun y hy => by
      rcases List.mem_cons.1 hy with rfl | hy
      · rfl
      · rw [s1] at hy; exact peq_iff.1 (List.mem_filter.1 hy).2
    have hfx : (x :: t).filter (sameP x.fPrefix) = x :: t.takeWhile (sameP x.fPrefix) := by
      rw [List.filter_cons_of_pos (p := sameP x.fPrefix) (peq_rfl _), s1]
    rw [mg_cons]
    refine ⟨?_, fun y hy => ?_, fun p => ?_⟩
    · unfold Asc
      rw [List.pairwise_cons]
      refine ⟨fun y hy => ?_, i1⟩
      obtain ⟨z, hz, e⟩ := i2 y hy
      rw [hmp, ← e]
      exact s2 z hz
    · rcases List.mem_cons.1 hy with rfl | hy
      · exact ⟨x, List.mem_cons_self, hmp.symm⟩
      · obtain ⟨z, hz, e⟩ := i2 y hy
        exact ⟨z, List.mem_cons_of_mem _ ((List.dropWhile_sublist _).subset hz), e⟩
    · by_cases hp : p = x.fPrefix
      · subst hp
        rw [hfx, if_neg (by simp)]
        unfold lk
        rw [List.find?_cons_of_pos (by rw [hmp]; exact peq_rfl _)]
      · have hne : ¬ peq (mo (x :: t.takeWhile (sameP x.fPrefix))).fPrefix p = true := fun h => hp (by rw [← peq_iff.1 h, hmp])
        have e : lk p (mo (x :: t.takeWhile (sameP x.fPrefix)) :: mg (t.dropWhile (sameP x.fPrefix))) = lk p (mg (t.dropWhile (sameP x.fPrefix))) := by
          unfold lk
          rw [List.find?_cons_of_neg (p := fun y : TRoute => peq y.fPrefix p) hne]
        have e2 : (x :: t).filter (sameP p) = t.filter (sameP p) := by
          rw [List.filter_cons_of_neg]
          intro hh
          exact hp (peq_iff.1 hh).symm
        rw [e, i3, s3 p hp, e2]
theorem mg_len : ∀ (n : Nat) (r : List TRoute), r.length ≤ n → (mg r).length ≤ r.length
  | _, [], _ => by rw [mg_nil]; exact Nat.le_refl _
  | 0, x :: t, hn => by simp at hn
  | n + 1, x :: t, hn => by
    have hl := drop_len (sameP x.fPrefix) t
    simp only [List.length_cons] at hn
    have := mg_len n (t.dropWhile (sameP x.fPrefix)) (by omega)
    rw [mg_cons, List.length_cons, List.length_cons]
    omega
end Nv
