/- Union, intersection, complement of sets as canonical lists. No condition. -/
import Derived.Test.YtpggnodnpjejlaaDoorNvI2
namespace Nv
open Go Go.Proofs
def imax (a b : Int) : Int := if b > a then b else a
def imin (a b : Int) : Int := if b < a then b else a
theorem imax_le {a b x : Int} : imax a b ≤ x ↔ a ≤ x ∧ b ≤ x := by unfold imax; split <;> omega
theorem le_imin {a b x : Int} : x ≤ imin a b ↔ x ≤ a ∧ x ≤ b := by unfold imin; split <;> omega
theorem imax_or (a b : Int) : imax a b = a ∨ imax a b = b := by unfold imax; split <;> simp
theorem imin_or (a b : Int) : imin a b = a ∨ imin a b = b := by unfold imin; split <;> simp
def both (a b : TInterval) : List TInterval := bif decide (imax a.fLo b.fLo ≤ imin a.fHi b.fHi) then [(⟨imax a.fLo b.fLo, imin a.fHi b.fHi⟩ : TInterval)] else []
theorem both_mem {a b j : TInterval} (h : j ∈ both a b) : j.fLo = imax a.fLo b.fLo ∧ j.fHi = imin a.fHi b.fHi ∧ j.fLo ≤ j.fHi := by
  unfold both at h
  cases hb : decide (imax a.fLo b.fLo ≤ imin a.fHi b.fHi) with
  | false => rw [hb] at h; cases h
  | true =>
    rw [hb] at h
    simp only [cond_true, List.mem_singleton] at h
    subst h
    exact ⟨rfl, rfl, of_decide_eq_true hb⟩
theorem both_imem {a b : TInterval} {x : Int} : imem (both a b) x ↔ (a.fLo ≤ x ∧ x ≤ a.fHi) ∧ (b.fLo ≤ x ∧ x ≤ b.fHi) := by
  have h1 : imax a.fLo b.fLo ≤ x ↔ a.fLo ≤ x ∧ b.fLo ≤ x := imax_le
  have h2 : x ≤ imin a.fHi b.fHi ↔ x ≤ a.fHi ∧ x ≤ b.fHi := le_imin
  unfold both
  cases hb : decide (imax a.fLo b.fLo ≤ imin a.fHi b.fHi) with
  | false =>
    rw [decide_eq_false_iff_not] at hb
    simp only [cond_false]
    exact ⟨fun h => absurd h (imem_nil x), fun h => by omega⟩
  | true =>
    simp only [cond_true]
    rw [imem_one]
    simp only
    omega
def isect : List TInterval → List TInterval → List TInterval
  | [], _ => []
  | _ :: _, [] => []
  | a :: x, b :: y => both a b ++ (bif decide (a.fHi < b.fHi) then isect x (b :: y) else isect (a :: x) y)
termination_by x y => x.length + y.length
decreasing_by all_goals (simp only [List.length_cons]; omega)
theorem isect_nil_r (x : List TInterval) : isect x [] = [] := by cases x <;> simp [isect]
theorem isect_nil_l (y : List TInterval) : isect [] y = [] := by simp [isect]
theorem isect_cc (a : TInterval) (x : List TInterval) (b : TInterval) (y : List TInterval) : isect (a :: x) (b :: y) = both a b ++ (bif decide (a.fHi < b.fHi) then isect x (b :: y) else isect (a :: x) y) := by rw [isect]
theorem isect_mem : ∀ (n : Nat) (x y : List TInterval), x.length + y.length ≤ n → ∀ j ∈ isect x y, ∃ a ∈ x, ∃ b ∈ y, j ∈ both a b
  | _, [], y, _, j, h => by rw [isect_nil_l] at h; cases h
  | _, a :: x, [], _, j, h => by rw [isect_nil_r] at h; cases h
  | 0, a :: x, b :: y, hn, j, h => by simp at hn
  | n + 1, a :: x, b :: y, hn, j, h => by
    simp only [List.length_cons] at hn
    rw [isect_cc] at h
    rcases List.mem_append.1 h with h | h
    · exact ⟨a, List.mem_cons_self, b, List.mem_cons_self, h⟩
    · cases hb : decide (a.fHi < b.fHi) with
      | true =>
        rw [hb] at h
        obtain ⟨a', h1, b', h2, h3⟩ := isect_mem n x (b :: y) (by simp only [List.length_cons]; omega) j h
        exact ⟨a', List.mem_cons_of_mem _ h1, b', h2, h3⟩
      | false =>
        rw [hb] at h
        obtain ⟨a', h1, b', h2, h3⟩ := isect_mem n (a :: x) y (by simp only [List.length_cons]; omega) j h
        exact ⟨a', h1, b', List.mem_cons_of_mem _ h2, h3⟩
theorem isect_ok : ∀ (n : Nat) (x y : List TInterval), x.length + y.length ≤ n → Can x → Can y → Can (isect x y) ∧ ∀ t, imem (isect x y) t ↔ imem x t ∧ imem y t
  | _, [], y, _, _, _ => by rw [isect_nil_l]; exact ⟨can_nil, fun t => ⟨fun h => absurd h (imem_nil t), fun h => absurd h.1 (imem_nil t)⟩⟩
  | _, a :: x, [], _, _, _ => by rw [isect_nil_r]; exact ⟨can_nil, fun t => ⟨fun h => absurd h (imem_nil t), fun h => absurd h.2 (imem_nil t)⟩⟩
  | 0, a :: x, b :: y, hn, _, _ => by simp at hn
  | n + 1, a :: x, b :: y, hn, hx, hy => by
    simp only [List.length_cons] at hn
    have cx := can_cons.1 hx
    have cy := can_cons.1 hy
    have key : ∀ r : List TInterval, Can r → (∀ j ∈ r, imin a.fHi b.fHi + 1 < j.fLo) → Can (both a b ++ r) := fun r hr hj => by
      unfold both
      cases hb : decide (imax a.fLo b.fLo ≤ imin a.fHi b.fHi) with
      | false => exact hr
      | true => exact can_cons.2 ⟨of_decide_eq_true hb, hj, hr⟩
    rw [isect_cc]
    cases hb : decide (a.fHi < b.fHi) with
    | true =>
      rw [decide_eq_true_eq] at hb
      obtain ⟨h1, h2⟩ := isect_ok n x (b :: y) (by simp only [List.length_cons]; omega) cx.2.2 hy
      have e : imin a.fHi b.fHi = a.fHi := by unfold imin; split <;> omega
      simp only [cond_true]
      refine ⟨key _ h1 fun j hj => ?_, fun t => ?_⟩
      · obtain ⟨a', q1, b', _, q3⟩ := isect_mem _ _ _ (Nat.le_refl _) j hj
        have q4 := (both_mem q3).1
        have q5 := cx.2.1 a' q1
        have q6 : a'.fLo ≤ imax a'.fLo b'.fLo := (imax_le.1 (Int.le_refl _)).1
        omega
      · rw [imem_append, both_imem, h2, imem_cons, imem_cons]
        have q : (a.fLo ≤ t ∧ t ≤ a.fHi) → ¬ imem y t := fun h1 h2 => by have := can_beyond hy h2; omega
        constructor
        · rintro (⟨h3, h4⟩ | ⟨h3, h4⟩)
          · exact ⟨.inl h3, .inl h4⟩
          · exact ⟨.inr h3, h4⟩
        · rintro ⟨h3 | h3, h4⟩
          · rcases h4 with h4 | h4
            · exact .inl ⟨h3, h4⟩
            · exact absurd h4 (q h3)
          · exact .inr ⟨h3, h4⟩
    | false =>
      rw [decide_eq_false_iff_not] at hb
      obtain ⟨h1, h2⟩ := isect_ok n (a :: x) y (by simp only [List.length_cons]; omega) hx cy.2.2
      have e : imin a.fHi b.fHi = b.fHi := by unfold imin; split <;> omega
      simp only [cond_false]
      refine ⟨key _ h1 fun j hj => ?_, fun t => ?_⟩
      · obtain ⟨a', _, b', q2, q3⟩ := isect_mem _ _ _ (Nat.le_refl _) j hj
        have q4 := (both_mem q3).1
        have q5 := cy.2.1 b' q2
        have q6 : b'.fLo ≤ imax a'.fLo b'.fLo := (imax_le.1 (Int.le_refl _)).2
        omega
      · rw [imem_append, both_imem, h2, imem_cons, imem_cons]
        have q : (b.fLo ≤ t ∧ t ≤ b.fHi) → ¬ imem x t := fun h1 h2 => by have := can_beyond hx h2; omega
        constructor
        · rintro (⟨h3, h4⟩ | ⟨h3, h4⟩)
          · exact ⟨.inl h3, .inl h4⟩
          · exact ⟨h3, .inr h4⟩
        · rintro ⟨h3, h4 | h4⟩
          · rcases h3 with h3 | h3
            · exact .inl ⟨h3, h4⟩
            · exact absurd h3 (q h4)
          · exact .inr ⟨h3, h4⟩
theorem both_len (a b : TInterval) : (both a b).length ≤ 1 := by unfold both; cases decide (imax a.fLo b.fLo ≤ imin a.fHi b.fHi) <;> simp
theorem isect_len : ∀ (n : Nat) (x y : List TInterval), x.length + y.length ≤ n → (isect x y).length ≤ x.length + y.length
  | _, [], y, _ => by rw [isect_nil_l]; exact Nat.zero_le _
  | _, a :: x, [], _ => by rw [isect_nil_r]; exact Nat.zero_le _
  | 0, a :: x, b :: y, hn => by simp at hn
  | n + 1, a :: x, b :: y, hn => by
    simp only [List.length_cons] at hn ⊢
    have h0 := both_len a b
    rw [isect_cc, List.length_append]
    cases decide (a.fHi < b.fHi) with
    | true =>
      have := isect_len n x (b :: y) (by simp only [List.length_cons]; omega)
      simp only [List.length_cons, cond_true] at this ⊢
      omega
    | false =>
      have := isect_len n (a :: x) y (by simp only [List.length_cons]; omega)
      simp only [List.length_cons, cond_false] at this ⊢
      omega
theorem isect_u32 {x y : List TInterval} (hx : ∀ t ∈ x, U32 t) (hy : ∀ t ∈ y, U32 t) : ∀ t ∈ isect x y, U32 t := fun t ht => by
  obtain ⟨a, h1, b, h2, h3⟩ := isect_mem _ _ _ (Nat.le_refl _) t ht
  obtain ⟨q1, q2, _⟩ := both_mem h3
  have ua := hx a h1
  have ub := hy b h2
  unfold U32 at *
  rcases imax_or a.fLo b.fLo with e | e <;> rcases imin_or a.fHi b.fHi with f | f <;> (rw [e] at q1; rw [f] at q2; omega)
/-! the complement -/
def cnext (nx : Int) : List TInterval → Int
  | [] => nx
  | t :: l => cnext (t.fHi + 1) l
def compl0 (nx : Int) : List TInterval → List TInterval
  | [] => []
  | t :: l => (bif decide (t.fLo > nx) then [(⟨nx, t.fLo - 1⟩ : TInterval)] else []) ++ compl0 (t.fHi + 1) l
def compl (nx : Int) (l : List TInterval) : List TInterval := compl0 nx l ++ (bif decide (cnext nx l ≤ 4294967295) then [(⟨cnext nx l, 4294967295⟩ : TInterval)] else [])
theorem compl_nil (nx : Int) : compl nx [] = (bif decide (nx ≤ 4294967295) then [(⟨nx, 4294967295⟩ : TInterval)] else []) := rfl
theorem compl_cons (nx : Int) (t : TInterval) (l : List TInterval) : compl nx (t :: l) = (bif decide (t.fLo > nx) then [(⟨nx, t.fLo - 1⟩ : TInterval)] else []) ++ compl (t.fHi + 1) l := by
  show compl0 nx (t :: l) ++ _ = _
  rw [compl0, List.append_assoc]
  rfl
theorem compl_ok : ∀ (l : List TInterval) (nx : Int), Can l → (∀ t ∈ l, U32 t) → (∀ t ∈ l, nx ≤ t.fLo) → Can (compl nx l) ∧ (∀ x, imem (compl nx l) x ↔ nx ≤ x ∧ x ≤ 4294967295 ∧ ¬ imem l x) ∧ ∀ t ∈ compl nx l, nx ≤ t.fLo ∧ t.fHi ≤ 4294967295
  | [], nx, _, _, _ => by
    rw [compl_nil]
    cases h : decide (nx ≤ 4294967295) with
    | true =>
      rw [decide_eq_true_eq] at h
      simp only [cond_true]
      refine ⟨can_cons.2 ⟨h, (fun j hj => by cases hj), can_nil⟩, fun x => ?_, fun t ht => ?_⟩
      · rw [imem_one]; simp only
        exact ⟨fun h => ⟨h.1, h.2, imem_nil x⟩, fun h => ⟨h.1, h.2.1⟩⟩
      · rw [List.mem_singleton] at ht; subst ht; exact ⟨Int.le_refl _, Int.le_refl _⟩
    | false =>
      rw [decide_eq_false_iff_not] at h
      simp only [cond_false]
      exact ⟨can_nil, fun x => ⟨fun h => absurd h (imem_nil x), fun h => by omega⟩, fun t ht => by cases ht⟩
  | t :: l, nx, hc, hu, hn => by
    have c := can_cons.1 hc
    have u := hu t List.mem_cons_self
    have n0 := hn t List.mem_cons_self
    unfold U32 at u
    obtain ⟨h1, h2, h3⟩ := compl_ok l (t.fHi + 1) c.2.2 (fun t ht => hu t (List.mem_cons_of_mem _ ht)) (fun j hj => by have := c.2.1 j hj; omega)
    have c1 := c.1
    rw [compl_cons]
    have hb : ∀ x, imem l x → t.fHi + 1 < x := fun x hx => can_beyond hc hx
    cases h : decide (t.fLo > nx) with
    | true =>
      rw [decide_eq_true_eq] at h
      simp only [cond_true]
      refine ⟨can_cons.2 ⟨by simp only; omega, fun j hj => by have := (h3 j hj).1; simp only; omega, h1⟩, fun x => ?_, fun j hj => ?_⟩
      · rw [imem_append, imem_one, h2, imem_cons]
        simp only
        constructor
        · rintro (h4 | h4)
          · exact ⟨h4.1, by omega, fun h5 => h5.elim (fun h6 => by omega) fun h6 => by have := hb x h6; omega⟩
          · exact ⟨by omega, h4.2.1, fun h5 => h5.elim (fun h6 => by omega) h4.2.2⟩
        · rintro ⟨h4, h5, h6⟩
          by_cases hx : x ≤ t.fHi
          · left
            refine ⟨h4, ?_⟩
            exact Classical.byContradiction fun hh => h6 (.inl ⟨by omega, hx⟩)
          · exact .inr ⟨by omega, h5, fun h7 => h6 (.inr h7)⟩
      · rcases List.mem_append.1 hj with hj | hj
        · rw [List.mem_singleton] at hj; subst hj; simp only; omega
        · have := h3 j hj; omega
    | false =>
      rw [decide_eq_false_iff_not] at h
      simp only [cond_false, List.nil_append]
      refine ⟨h1, fun x => ?_, fun j hj => by have := h3 j hj; omega⟩
      rw [h2, imem_cons]
      constructor
      · rintro ⟨h4, h5, h6⟩
        exact ⟨by omega, h5, fun h7 => h7.elim (fun h8 => by omega) h6⟩
      · rintro ⟨h4, h5, h6⟩
        by_cases hx : x ≤ t.fHi
        · exact absurd (.inl ⟨by omega, hx⟩) h6
        · exact ⟨by omega, h5, fun h7 => h6 (.inr h7)⟩
theorem compl_u32 {l : List TInterval} (hc : Can l) (hu : ∀ t ∈ l, U32 t) : ∀ t ∈ compl 0 l, U32 t := fun t ht => by
  obtain ⟨h1, _, h3⟩ := compl_ok l 0 hc hu (fun t ht => (hu t ht).1)
  have := h3 t ht
  have := h1.2 t ht
  unfold U32
  omega
theorem compl0_len : ∀ (l : List TInterval) (nx : Int), (compl0 nx l).length ≤ l.length
  | [], _ => Nat.le_refl _
  | t :: l, nx => by
    have := compl0_len l (t.fHi + 1)
    rw [compl0, List.length_append, List.length_cons]
    cases decide (t.fLo > nx) <;> simp <;> omega
theorem compl_len (l : List TInterval) (nx : Int) : (compl nx l).length ≤ l.length + 1 := by
  have := compl0_len l nx
  unfold compl
  rw [List.length_append]
  cases decide (cnext nx l ≤ 4294967295) <;> simp <;> omega
end Nv
