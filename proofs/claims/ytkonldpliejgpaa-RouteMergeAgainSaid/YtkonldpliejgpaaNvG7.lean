/- Merged routes merged again: nothing changes. No condition. -/
import Derived.Test.YtkonldpliejgpaaNvG3
set_option maxRecDepth 10000
namespace Nv
open Go Go.Sort Go.Proofs
theorem cmpL_zero : ∀ {l m : List Int}, l.length = m.length → cmpL l m = 0 → l = m
  | [], [], _, _ => rfl
  | [], _ :: _, h, _ => by simp at h
  | _ :: _, [], h, _ => by simp at h
  | x :: l, y :: m, h, k => by
    unfold cmpL at k
    by_cases e : cmpI x y = 0
    · rw [e] at k
      have hm : cmpL l m = 0 := by simpa using k
      rw [cmpI_zero e, cmpL_zero (by simpa using h) hm]
    · rw [show (cmpI x y != 0) = true by simpa using e] at k; exact absurd k e
def kle (x y : TRoute) : Prop := cmpL (pkey x) (pkey y) ≤ 0
theorem kle_rfl (x : TRoute) : kle x x := by unfold kle; rw [cmpL_self]; exact Int.le_refl _
theorem kle_tr {x y z : TRoute} (h : kle x y) (k : kle y z) : kle x z := cmpL_trans _ _ _ (by rw [pkey_len, pkey_len]) (by rw [pkey_len, pkey_len]) h k
theorem kle_tot {x y : TRoute} (h : ¬ kle x y) : kle y x := by
  unfold kle at *; rw [cmpL_swap (pkey x) (pkey y)]; omega
theorem kle_anti {x y : TRoute} (h : kle x y) (k : kle y x) : pkey x = pkey y := by
  unfold kle at *; rw [cmpL_swap (pkey x) (pkey y)] at k
  exact cmpL_zero (by rw [pkey_len, pkey_len]) (by omega)
theorem pf_lt {x y : TRoute} (h : x.fProto = y.fProto) : S.route_Prefer x y < 0 ↔ ¬ kle y x := by
  rw [q_Prefer h]; unfold kle; rw [cmpL_swap (pkey x) (pkey y)]; omega
theorem pf_eq {x y : TRoute} (h : x.fProto = y.fProto) : S.route_Prefer x y = 0 ↔ pkey x = pkey y := by
  rw [q_Prefer h]
  exact ⟨fun e => cmpL_zero (by rw [pkey_len, pkey_len]) e, fun e => by rw [e, cmpL_self]⟩
open Classical in
noncomputable def bk (b x : TRoute) : TRoute := if kle b x then b else x
theorem bst_bk {b x : TRoute} (h : x.fProto = b.fProto) : bst b x = bk b x := by
  unfold bst bk
  by_cases k : kle b x
  · rw [if_pos k, decide_eq_false (by rw [pf_lt h]; simpa using k)]; rfl
  · rw [if_neg k, decide_eq_true (by rw [pf_lt h]; exact k)]; rfl
theorem bk_assoc (a b c : TRoute) : bk (bk a b) c = bk a (bk b c) := by
  unfold bk
  by_cases h1 : kle a b
  · rw [if_pos h1]
    by_cases h2 : kle b c
    · rw [if_pos h2, if_pos (kle_tr h1 h2), if_pos h1]
    · rw [if_neg h2]
  · rw [if_neg h1]
    by_cases h2 : kle b c
    · rw [if_pos h2, if_neg h1]
    · rw [if_neg h2, if_neg]
      intro h3
      exact h2 (kle_tr (kle_tot h1) h3)
theorem bk_or (a b : TRoute) : bk a b = a ∨ bk a b = b := by unfold bk; split <;> simp
theorem bk_key {a b : TRoute} : kle (bk a b) a ∧ kle (bk a b) b := by
  unfold bk
  by_cases h : kle a b
  · rw [if_pos h]; exact ⟨kle_rfl _, h⟩
  · rw [if_neg h]; exact ⟨kle_tot h, kle_rfl _⟩
theorem fold_bk {π : Int} : ∀ {l : List TRoute} {b : TRoute}, b.fProto = π → (∀ x ∈ l, x.fProto = π) → l.foldl bst b = l.foldl bk b ∧ (l.foldl bk b).fProto = π
  | [], _, h, _ => ⟨rfl, h⟩
  | x :: l, b, h, k => by
    have hx := k x List.mem_cons_self
    rw [List.foldl_cons, List.foldl_cons, bst_bk (hx.trans h.symm)]
    refine fold_bk ?_ fun y hy => k y (List.mem_cons_of_mem _ hy)
    rcases bk_or b x with e | e <;> rw [e] <;> assumption
theorem fold_bk_assoc (a : TRoute) : ∀ (l : List TRoute) (b : TRoute), l.foldl bk (bk a b) = bk a (l.foldl bk b)
  | [], _ => rfl
  | x :: l, b => by rw [List.foldl_cons, List.foldl_cons, bk_assoc, fold_bk_assoc a l]
theorem best_app {π : Int} {g h : List TRoute} (hg : g ≠ []) (hh : h ≠ []) (kg : ∀ x ∈ g, x.fProto = π) (kh : ∀ x ∈ h, x.fProto = π) : bestOf (g ++ h) = bk (bestOf g) (bestOf h) := by
  cases g with
  | nil => exact absurd rfl hg
  | cons a g =>
    cases h with
    | nil => exact absurd rfl hh
    | cons b h =>
      have ea := kg a List.mem_cons_self
      have eb := kh b List.mem_cons_self
      have kg' : ∀ x ∈ g, x.fProto = π := fun x hx => kg x (List.mem_cons_of_mem _ hx)
      have kh' : ∀ x ∈ h, x.fProto = π := fun x hx => kh x (List.mem_cons_of_mem _ hx)
      show (g ++ b :: h).foldl bst a = bk (g.foldl bst a) (h.foldl bst b)
      rw [(fold_bk ea (fun x hx => by rcases List.mem_append.1 hx with h1 | h1; exact kg' x h1; exact kh x h1)).1, (fold_bk ea kg').1, (fold_bk eb kh').1, List.foldl_append, List.foldl_cons, fold_bk_assoc]
theorem fold_le : ∀ (l : List TRoute) (b : TRoute), kle (l.foldl bk b) b ∧ ∀ x ∈ l, kle (l.foldl bk b) x
  | [], b => ⟨kle_rfl b, fun x hx => by cases hx⟩
  | y :: l, b => by
    obtain ⟨h1, h2⟩ := fold_le l (bk b y)
    rw [List.foldl_cons]
    refine ⟨kle_tr h1 bk_key.1, fun x hx => ?_⟩
    rcases List.mem_cons.1 hx with rfl | hx
    · exact kle_tr h1 bk_key.2
    · exact h2 x hx
theorem best_le {π : Int} {g : List TRoute} (kg : ∀ x ∈ g, x.fProto = π) : ∀ x ∈ g, kle (bestOf g) x := by
  intro x hx
  cases g with
  | nil => cases hx
  | cons a g =>
    have e : bestOf (a :: g) = g.foldl bk a := (fold_bk (kg a List.mem_cons_self) fun y hy => kg y (List.mem_cons_of_mem _ hy)).1
    rw [e]
    rcases List.mem_cons.1 hx with rfl | hx
    · exact (fold_le g x).1
    · exact (fold_le g a).2 x hx
theorem mem_hopsOf {π : Int} {b : TRoute} {g : List TRoute} (hb : b.fProto = π) (kg : ∀ x ∈ g, x.fProto = π) (t : THop) : t ∈ hopsOf b g ↔ ∃ r ∈ g, pkey r = pkey b ∧ t ∈ r.fHops := by
  unfold hopsOf
  simp only [List.mem_flatMap, List.mem_filter, beq_iff_eq]
  constructor
  · rintro ⟨r, ⟨h1, h2⟩, h3⟩
    exact ⟨r, h1, (pf_eq ((kg r h1).trans hb.symm)).1 h2, h3⟩
  · rintro ⟨r, h1, h2, h3⟩
    exact ⟨r, ⟨h1, (pf_eq ((kg r h1).trans hb.symm)).2 h2⟩, h3⟩
theorem mo_hops {π : Int} {g : List TRoute} (hg : g ≠ []) (kg : ∀ x ∈ g, x.fProto = π) (t : THop) : t ∈ (mo g).fHops ↔ ∃ r ∈ g, pkey r = pkey (bestOf g) ∧ t ∈ r.fHops := by
  show t ∈ hset (hopsOf (bestOf g) g) ↔ _
  rw [(hset_ok _).2, mem_hopsOf (kg _ (bestOf_mem hg)) kg]
theorem mo_proto {π : Int} {g : List TRoute} (hg : g ≠ []) (kg : ∀ x ∈ g, x.fProto = π) : (mo g).fProto = π := kg (bestOf g) (bestOf_mem hg)
theorem mo_ext {π : Int} {g h : List TRoute} (hg : g ≠ []) (hh : h ≠ []) (kg : ∀ x ∈ g, x.fProto = π) (kh : ∀ x ∈ h, x.fProto = π)
    (hb : { bestOf g with fHops := [] } = { bestOf h with fHops := [] }) (ht : ∀ t, t ∈ (mo g).fHops ↔ t ∈ (mo h).fHops) : mo g = mo h := by
  have e1 : (mo g).fHops = (mo h).fHops := hasc_ext (hset_ok _).1 (hset_ok _).1 ht
  have e2 : mo g = { ({ bestOf g with fHops := [] } : TRoute) with fHops := (mo g).fHops } := rfl
  have e3 : mo h = { ({ bestOf h with fHops := [] } : TRoute) with fHops := (mo h).fHops } := rfl
  rw [e2, e3, hb, e1]
theorem mo_one {π : Int} {g : List TRoute} (hg : g ≠ []) (kg : ∀ x ∈ g, x.fProto = π) : mo [mo g] = mo g := by
  have k1 : ∀ x ∈ [mo g], x.fProto = π := fun x hx => by rw [List.mem_singleton.1 hx]; exact mo_proto hg kg
  refine mo_ext (by simp) hg k1 kg rfl fun t => ?_
  rw [mo_hops (by simp) k1]
  constructor
  · rintro ⟨r, h1, _, h3⟩
    rw [List.mem_singleton.1 h1] at h3
    exact h3
  · intro h
    exact ⟨mo g, List.mem_singleton.2 rfl, rfl, h⟩
theorem mo_two {π : Int} {g h : List TRoute} (hg : g ≠ []) (hh : h ≠ []) (kg : ∀ x ∈ g, x.fProto = π) (kh : ∀ x ∈ h, x.fProto = π) : mo [mo g, mo h] = mo (g ++ h) := by
  have pg := mo_proto hg kg
  have ph := mo_proto hh kh
  have k1 : ∀ x ∈ [mo g, mo h], x.fProto = π := fun x hx => by
    rcases List.mem_cons.1 hx with rfl | hx
    · exact pg
    · rw [List.mem_singleton.1 hx]; exact ph
  have k2 : ∀ x ∈ g ++ h, x.fProto = π := fun x hx => by
    rcases List.mem_append.1 hx with h1 | h1
    · exact kg x h1
    · exact kh x h1
  have e1 : bestOf [mo g, mo h] = bk (mo g) (mo h) := bst_bk (ph.trans pg.symm)
  have e2 := best_app hg hh kg kh
  have kk : pkey (bk (mo g) (mo h)) = pkey (bk (bestOf g) (bestOf h)) := by
    unfold bk
    by_cases c : kle (bestOf g) (bestOf h)
    · rw [if_pos c, if_pos (show kle (mo g) (mo h) from c)]; rfl
    · rw [if_neg c, if_neg (show ¬ kle (mo g) (mo h) from c)]; rfl
  have lg : ∀ x ∈ g, pkey x = pkey (bk (bestOf g) (bestOf h)) → pkey (bestOf g) = pkey (bk (bestOf g) (bestOf h)) := fun x hx e => by
    have h1 := best_le kg x hx
    have h2 : kle (bk (bestOf g) (bestOf h)) (bestOf g) := bk_key.1
    rw [← e]
    refine kle_anti h1 ?_
    unfold kle at h2 ⊢
    rw [e]
    exact h2
  have lh : ∀ x ∈ h, pkey x = pkey (bk (bestOf g) (bestOf h)) → pkey (bestOf h) = pkey (bk (bestOf g) (bestOf h)) := fun x hx e => by
    have h1 := best_le kh x hx
    have h2 : kle (bk (bestOf g) (bestOf h)) (bestOf h) := bk_key.2
    rw [← e]
    refine kle_anti h1 ?_
    unfold kle at h2 ⊢
    rw [e]
    exact h2
  refine mo_ext (by simp) (by simp [hg]) k1 k2 ?_ fun t => ?_
  · rw [e1, e2]
    unfold bk
    by_cases c : kle (bestOf g) (bestOf h)
    · rw [if_pos c, if_pos (show kle (mo g) (mo h) from c)]; rfl
    · rw [if_neg c, if_neg (show ¬ kle (mo g) (mo h) from c)]; rfl
  · rw [mo_hops (by simp) k1, mo_hops (by simp [hg]) k2, e1, e2, kk]
    constructor
    · rintro ⟨r, h1, h2, h3⟩
      rcases List.mem_cons.1 h1 with rfl | h1
      · obtain ⟨s, s1, s2, s3⟩ := (mo_hops hg kg t).1 h3
        exact ⟨s, List.mem_append_left _ s1, s2.trans h2, s3⟩
      · rw [List.mem_singleton.1 h1] at h2 h3
        obtain ⟨s, s1, s2, s3⟩ := (mo_hops hh kh t).1 h3
        exact ⟨s, List.mem_append_right _ s1, s2.trans h2, s3⟩
    · rintro ⟨s, s1, s2, s3⟩
      rcases List.mem_append.1 s1 with s1 | s1
      · have e := lg s s1 s2
        exact ⟨mo g, List.mem_cons_self, e, (mo_hops hg kg t).2 ⟨s, s1, s2.trans e.symm, s3⟩⟩
      · have e := lh s s1 s2
        exact ⟨mo h, by simp, e, (mo_hops hh kh t).2 ⟨s, s1, s2.trans e.symm, s3⟩⟩
theorem asc_filter {p : TPrefix} : ∀ {l : List TRoute}, Asc l → l.filter (sameP p) = (lk p l).toList
  | [], _ => rfl
  | x :: l, h => by
    unfold Asc at h
    rw [List.pairwise_cons] at h
    cases c : sameP p x with
    | true =>
      have ep : x.fPrefix = p := peq_iff.1 c
      rw [List.filter_cons_of_pos c]
      unfold lk
      rw [List.find?_cons_of_pos (by exact c), show l.filter (sameP p) = [] from List.filter_eq_nil_iff.2 fun y hy hh => plt_ne (h.1 y hy) (ep.trans (peq_iff.1 hh).symm)]
      rfl
    | false =>
      have cn : ¬ sameP p x = true := by rw [c]; exact Bool.false_ne_true
      rw [List.filter_cons_of_neg cn, asc_filter h.2]
      unfold lk
      rw [List.find?_cons_of_neg (by exact cn)]
theorem mer_filter (l : List TRoute) (p : TPrefix) : (mer l).filter (sameP p) = if l.filter (sameP p) = [] then [] else [mo (l.filter (sameP p))] := by
  obtain ⟨h1, _, h3⟩ := mer_ok l
  rw [asc_filter h1, h3]
  split <;> rfl
theorem mer_app {π : Int} {a b : List TRoute} (ka : ∀ x ∈ a, x.fProto = π) (kb : ∀ x ∈ b, x.fProto = π) : mer (mer a ++ mer b) = mer (a ++ b) := by
  obtain ⟨h1, _, h3⟩ := mer_ok (mer a ++ mer b)
  obtain ⟨g1, _, g3⟩ := mer_ok (a ++ b)
  refine asc_ext h1 g1 fun p => ?_
  rw [h3, g3, List.filter_append, List.filter_append, mer_filter, mer_filter]
  have fa : ∀ x ∈ a.filter (sameP p), x.fProto = π := fun x hx => ka x (List.mem_filter.1 hx).1
  have fb : ∀ x ∈ b.filter (sameP p), x.fProto = π := fun x hx => kb x (List.mem_filter.1 hx).1
  by_cases ea : a.filter (sameP p) = []
  · by_cases eb : b.filter (sameP p) = []
    · simp [ea, eb]
    · simp [ea, eb, mo_one eb fb]
  · by_cases eb : b.filter (sameP p) = []
    · simp [ea, eb, mo_one ea fa]
    · simp [ea, eb, mo_two ea eb fa fb]
theorem mer_nil : mer [] = [] := by unfold mer ssort; exact mg_nil
theorem mer_mer {π : Int} {a : List TRoute} (ka : ∀ x ∈ a, x.fProto = π) : mer (mer a) = mer a := by
  have h := mer_app (b := []) ka (fun x hx => by cases hx)
  rwa [mer_nil, List.append_nil, List.append_nil] at h
end Nv
