/- Sets of numbers as lists of intervals: the canonical list. No condition. -/
import Derived.Test.YtpggnodnpjejlaaDoorNvD1
import Derived.Test.YtpggnodnpjejlaaDoorNvLibC
namespace Nv
open Go
def imem (l : List TInterval) (x : Int) : Prop := ∃ i ∈ l, i.fLo ≤ x ∧ x ≤ i.fHi
def Can (l : List TInterval) : Prop := l.Pairwise (fun i j => i.fHi + 1 < j.fLo) ∧ ∀ i ∈ l, i.fLo ≤ i.fHi
def U32 (i : TInterval) : Prop := 0 ≤ i.fLo ∧ i.fLo < 4294967296 ∧ 0 ≤ i.fHi ∧ i.fHi < 4294967296
theorem imem_nil (x : Int) : ¬ imem [] x := fun ⟨_, h, _⟩ => by cases h
theorem imem_cons {i : TInterval} {l : List TInterval} {x : Int} : imem (i :: l) x ↔ (i.fLo ≤ x ∧ x ≤ i.fHi) ∨ imem l x := by
  constructor
  · rintro ⟨j, hj, h⟩
    rcases List.mem_cons.1 hj with rfl | hj
    · exact .inl h
    · exact .inr ⟨j, hj, h⟩
  · rintro (h | ⟨j, hj, h⟩)
    · exact ⟨i, List.mem_cons_self, h⟩
    · exact ⟨j, List.mem_cons_of_mem _ hj, h⟩
theorem imem_append {l m : List TInterval} {x : Int} : imem (l ++ m) x ↔ imem l x ∨ imem m x := by
  constructor
  · rintro ⟨j, hj, h⟩
    rcases List.mem_append.1 hj with hj | hj
    · exact .inl ⟨j, hj, h⟩
    · exact .inr ⟨j, hj, h⟩
  · rintro (⟨j, hj, h⟩ | ⟨j, hj, h⟩)
    · exact ⟨j, List.mem_append_left _ hj, h⟩
    · exact ⟨j, List.mem_append_right _ hj, h⟩
theorem imem_one {i : TInterval} {x : Int} : imem [i] x ↔ i.fLo ≤ x ∧ x ≤ i.fHi := by
  rw [imem_cons]; simp [imem_nil]
theorem can_nil : Can [] := ⟨List.Pairwise.nil, fun i h => by cases h⟩
theorem can_cons {i : TInterval} {l : List TInterval} : Can (i :: l) ↔ i.fLo ≤ i.fHi ∧ (∀ j ∈ l, i.fHi + 1 < j.fLo) ∧ Can l := by
  unfold Can
  rw [List.pairwise_cons]
  constructor
  · rintro ⟨⟨h1, h2⟩, h3⟩
    exact ⟨h3 i List.mem_cons_self, h1, h2, fun j hj => h3 j (List.mem_cons_of_mem _ hj)⟩
  · rintro ⟨h1, h2, h3, h4⟩
    refine ⟨⟨h2, h3⟩, fun j hj => ?_⟩
    rcases List.mem_cons.1 hj with rfl | hj
    · exact h1
    · exact h4 j hj
theorem can_snoc {l : List TInterval} {i : TInterval} : Can (l ++ [i]) ↔ Can l ∧ i.fLo ≤ i.fHi ∧ ∀ j ∈ l, j.fHi + 1 < i.fLo := by
  unfold Can
  rw [List.pairwise_append]
  constructor
  · rintro ⟨⟨h1, _, h3⟩, h4⟩
    exact ⟨⟨h1, fun j hj => h4 j (List.mem_append_left _ hj)⟩, h4 i (by simp), fun j hj => h3 j hj i (by simp)⟩
  · rintro ⟨⟨h1, h2⟩, h3, h4⟩
    refine ⟨⟨h1, by simp, fun j hj k hk => by simp at hk; subst hk; exact h4 j hj⟩, fun j hj => ?_⟩
    rcases List.mem_append.1 hj with hj | hj
    · exact h2 j hj
    · simp at hj; subst hj; exact h3
theorem can_beyond {i : TInterval} {l : List TInterval} (h : Can (i :: l)) {x : Int} (hx : imem l x) : i.fHi + 1 < x := by
  obtain ⟨j, hj, h1, _⟩ := hx
  have := (can_cons.1 h).2.1 j hj
  omega
theorem iext {a b : TInterval} (h1 : a.fLo = b.fLo) (h2 : a.fHi = b.fHi) : a = b := by cases a; cases b; simp_all
theorem can_ext : ∀ {l m : List TInterval}, Can l → Can m → (∀ x, imem l x ↔ imem m x) → l = m
  | [], [], _, _, _ => rfl
  | [], j :: m, _, hm, h => by
    have := (can_cons.1 hm).1
    exact absurd ((h j.fLo).2 (imem_cons.2 (.inl ⟨Int.le_refl _, this⟩))) (imem_nil _)
  | i :: l, [], hl, _, h => by
    have := (can_cons.1 hl).1
    exact absurd ((h i.fLo).1 (imem_cons.2 (.inl ⟨Int.le_refl _, this⟩))) (imem_nil _)
  | i :: l, j :: m, hl, hm, h => by
    have vi := (can_cons.1 hl).1
    have vj := (can_cons.1 hm).1
    have a1 : j.fLo ≤ i.fLo := by
      rcases imem_cons.1 ((h i.fLo).1 (imem_cons.2 (.inl ⟨Int.le_refl _, vi⟩))) with h1 | h1
      · exact h1.1
      · have := can_beyond hm h1; omega
    have a2 : i.fLo ≤ j.fLo := by
      rcases imem_cons.1 ((h j.fLo).2 (imem_cons.2 (.inl ⟨Int.le_refl _, vj⟩))) with h1 | h1
      · exact h1.1
      · have := can_beyond hl h1; omega
    have b1 : i.fHi ≤ j.fHi := Classical.byContradiction fun hn => by
      rcases imem_cons.1 ((h (j.fHi + 1)).1 (imem_cons.2 (.inl ⟨by omega, by omega⟩))) with h1 | h1
      · omega
      · have := can_beyond hm h1; omega
    have b2 : j.fHi ≤ i.fHi := Classical.byContradiction fun hn => by
      rcases imem_cons.1 ((h (i.fHi + 1)).2 (imem_cons.2 (.inl ⟨by omega, by omega⟩))) with h1 | h1
      · omega
      · have := can_beyond hl h1; omega
    have e : i = j := iext (by omega) (by omega)
    subst e
    congr 1
    refine can_ext (can_cons.1 hl).2.2 (can_cons.1 hm).2.2 fun x => ⟨fun hx => ?_, fun hx => ?_⟩
    · have := can_beyond hl hx
      rcases imem_cons.1 ((h x).1 (imem_cons.2 (.inr hx))) with h1 | h1
      · omega
      · exact h1
    · have := can_beyond hm hx
      rcases imem_cons.1 ((h x).2 (imem_cons.2 (.inr hx))) with h1 | h1
      · omega
      · exact h1
def IsN (l r : List TInterval) : Prop := Can r ∧ ∀ x, imem r x ↔ imem l x
theorem IsN.uniq {l r r' : List TInterval} (h : IsN l r) (k : IsN l r') : r = r' := can_ext h.1 k.1 fun x => (h.2 x).trans (k.2 x).symm
def mstep (acc : List TInterval) (x : TInterval) : List TInterval :=
  match acc.getLast? with
  | none => [x]
  | some z => bif decide (x.fLo ≤ z.fHi + 1) then acc.dropLast ++ [(⟨z.fLo, if x.fHi > z.fHi then x.fHi else z.fHi⟩ : TInterval)] else acc ++ [x]
theorem mstep_nil (x : TInterval) : mstep [] x = [x] := rfl
theorem mstep_snoc (l : List TInterval) (z x : TInterval) : mstep (l ++ [z]) x = bif decide (x.fLo ≤ z.fHi + 1) then l ++ [(⟨z.fLo, if x.fHi > z.fHi then x.fHi else z.fHi⟩ : TInterval)] else l ++ [z] ++ [x] := by
  simp [mstep]
theorem mstep_ok {acc : List TInterval} {x : TInterval} (hc : Can acc) (hv : x.fLo ≤ x.fHi) (hx : ∀ t ∈ acc, t.fLo ≤ x.fLo) :
    Can (mstep acc x) ∧ (∀ y, imem (mstep acc x) y ↔ imem acc y ∨ (x.fLo ≤ y ∧ y ≤ x.fHi)) ∧ (∀ t ∈ mstep acc x, t.fLo ≤ x.fLo) := by
  rcases List.eq_nil_or_concat acc with rfl | ⟨l, z, rfl⟩
  · rw [mstep_nil]
    refine ⟨can_cons.2 ⟨hv, fun j hj => (by cases hj), can_nil⟩, fun y => ?_, fun t ht => by simp at ht; subst ht; exact Int.le_refl _⟩
    rw [imem_one]
    exact ⟨.inr, fun h => h.resolve_left (imem_nil y)⟩
  · rw [List.concat_eq_append] at hc hx ⊢
    rw [mstep_snoc]
    have hz := can_snoc.1 hc
    have hzx := hx z (by simp)
    cases hb : decide (x.fLo ≤ z.fHi + 1) with
    | true =>
      simp only [cond_true]
      rw [decide_eq_true_eq] at hb
      have hmax : (if x.fHi > z.fHi then x.fHi else z.fHi) ≥ z.fHi ∧ (if x.fHi > z.fHi then x.fHi else z.fHi) ≥ x.fHi ∧ ((if x.fHi > z.fHi then x.fHi else z.fHi) = z.fHi ∨ (if x.fHi > z.fHi then x.fHi else z.fHi) = x.fHi) := by
        split <;> omega
      generalize (if x.fHi > z.fHi then x.fHi else z.fHi) = q at hmax
      refine ⟨can_snoc.2 ⟨hz.1, by show z.fLo ≤ q; omega, fun j hj => hz.2.2 j hj⟩, fun y => ?_, fun t ht => ?_⟩
      · rw [imem_append, imem_append, imem_one, imem_one]
        show imem l y ∨ (z.fLo ≤ y ∧ y ≤ q) ↔ _
        constructor
        · rintro (h | h)
          · exact .inl (.inl h)
          · rcases hmax.2.2 with e | e
            · exact .inl (.inr ⟨h.1, by omega⟩)
            · by_cases hy : y ≤ z.fHi
              · exact .inl (.inr ⟨h.1, hy⟩)
              · exact .inr ⟨by omega, by omega⟩
        · rintro ((h | h) | h)
          · exact .inl h
          · exact .inr ⟨h.1, by omega⟩
          · exact .inr ⟨by omega, by omega⟩
      · rcases List.mem_append.1 ht with ht | ht
        · exact hx t (by simp [ht])
        · simp at ht; subst ht; exact hzx
    | false =>
      simp only [cond_false]
      rw [decide_eq_false_iff_not] at hb
      refine ⟨can_snoc.2 ⟨hc, hv, fun j hj => ?_⟩, fun y => ?_, fun t ht => ?_⟩
      · rcases List.mem_append.1 hj with hj | hj
        · have := hz.2.2 j hj; omega
        · simp at hj; subst hj; omega
      · rw [imem_append, imem_one]
      · rcases List.mem_append.1 ht with ht | ht
        · exact hx t ht
        · simp at ht; subst ht; exact Int.le_refl _
theorem mfold_ok : ∀ {s acc : List TInterval}, Can acc → (∀ x ∈ s, x.fLo ≤ x.fHi) → s.Pairwise (fun x y => x.fLo ≤ y.fLo) → (∀ t ∈ acc, ∀ x ∈ s, t.fLo ≤ x.fLo) → Can (s.foldl mstep acc) ∧ ∀ y, imem (s.foldl mstep acc) y ↔ imem acc y ∨ imem s y
  | [], acc, h, _, _, _ => ⟨h, fun y => ⟨.inl, fun k => k.resolve_right (imem_nil y)⟩⟩
  | x :: s, acc, h, hv, hs, hx => by
    rw [List.pairwise_cons] at hs
    obtain ⟨h1, h2, h3⟩ := mstep_ok h (hv x List.mem_cons_self) (fun t ht => hx t ht x List.mem_cons_self)
    obtain ⟨h4, h5⟩ := mfold_ok (s := s) h1 (fun y hy => hv y (List.mem_cons_of_mem _ hy)) hs.2 (fun t ht y hy => Int.le_trans (h3 t ht) (hs.1 y hy))
    refine ⟨h4, fun y => ?_⟩
    rw [List.foldl_cons, h5, h2, imem_cons, or_assoc]
theorem mstep_len (acc : List TInterval) (x : TInterval) : (mstep acc x).length ≤ acc.length + 1 := by
  rcases List.eq_nil_or_concat acc with rfl | ⟨l, z, rfl⟩
  · simp [mstep]
  · rw [List.concat_eq_append, mstep_snoc]
    cases decide (x.fLo ≤ z.fHi + 1) <;> simp
theorem mfold_len : ∀ (s acc : List TInterval), (s.foldl mstep acc).length ≤ acc.length + s.length
  | [], acc => by simp
  | x :: s, acc => by
    have := mfold_len s (mstep acc x)
    have := mstep_len acc x
    simp only [List.foldl_cons, List.length_cons]; omega
theorem mstep_u32 {acc : List TInterval} {x : TInterval} (ha : ∀ t ∈ acc, U32 t) (hx : U32 x) : ∀ t ∈ mstep acc x, U32 t := by
  rcases List.eq_nil_or_concat acc with rfl | ⟨l, z, rfl⟩
  · intro t ht; simp [mstep] at ht; subst ht; exact hx
  · rw [List.concat_eq_append] at ha ⊢
    have hz := ha z (by simp)
    unfold U32 at hz hx
    rw [mstep_snoc]
    intro t ht
    cases hb : decide (x.fLo ≤ z.fHi + 1) with
    | true =>
      rw [hb] at ht
      simp only [cond_true, List.mem_append, List.mem_singleton] at ht
      rcases ht with ht | rfl
      · exact ha t (by simp [ht])
      · unfold U32; simp only; split <;> omega
    | false =>
      rw [hb] at ht
      simp only [cond_false, List.mem_append, List.mem_singleton] at ht
      rcases ht with ht | rfl
      · exact ha t (by simpa using ht)
      · exact hx
theorem mfold_u32 : ∀ {s acc : List TInterval}, (∀ t ∈ acc, U32 t) → (∀ t ∈ s, U32 t) → ∀ t ∈ s.foldl mstep acc, U32 t
  | [], _, h, _ => h
  | x :: s, acc, h, k => mfold_u32 (s := s) (mstep_u32 h (k x List.mem_cons_self)) (fun t ht => k t (List.mem_cons_of_mem _ ht))
theorem imem_filter {l : List TInterval} {y : Int} : imem (l.filter (fun i => decide (i.fLo ≤ i.fHi))) y ↔ imem l y := by
  constructor
  · rintro ⟨j, hj, h⟩
    exact ⟨j, (List.mem_filter.1 hj).1, h⟩
  · rintro ⟨j, hj, h⟩
    exact ⟨j, List.mem_filter.2 ⟨hj, by simp; omega⟩, h⟩
theorem imem_perm {l m : List TInterval} (h : l.Perm m) {y : Int} : imem l y ↔ imem m y :=
  ⟨fun ⟨j, hj, k⟩ => ⟨j, h.subset hj, k⟩, fun ⟨j, hj, k⟩ => ⟨j, h.symm.subset hj, k⟩⟩
end Nv
