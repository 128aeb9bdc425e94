/- Union, Intersect, Complement, Subtract of the program: what they give. No condition. -/
import Derived.Test.YtpggnodnpjejlaaDoorNvIc
namespace Nv
open Go Go.Proofs
theorem concat_eq {a b : List TInterval} (ha : a.length ≤ 100000) (hb : b.length ≤ 100000) : M.slices_Concat_api_Interval_api_Interval [a, b] = some (a ++ b) := by
  have w1 : wr .i64 ((0 : Int) + (a.length : Int)) = (a.length : Int) := by rw [Int.zero_add]; exact wrN (by omega) (by omega)
  have w2 : wr .i64 ((a.length : Int) + (b.length : Int)) = ((a.length + b.length : Nat) : Int) := by rw [wrN (by omega) (by omega)]; omega
  have u1 : wr .i64 ((0 : Int) + 1) = 1 := by decide
  have u2 : wr .i64 ((1 : Int) + 1) = 2 := by decide
  have i1 : Iter (M.slices_Concat_api_Interval_api_Interval_l1 [a, b]) (0, 0) ((a.length + b.length : Nat) : Int) := by
    refine .next (x' := ((a.length : Int), 1)) ?_ (.next (x' := (((a.length + b.length : Nat) : Int), 2)) ?_ (.out ?_))
    · unfold M.slices_Concat_api_Interval_api_Interval_l1 M.slices_Concat_api_Interval_api_Interval_k1
      simp only [List.length_cons, List.length_nil]
      rw [show decide ((0 : Int) < ((0 + 1 + 1 : Nat) : Int)) = true by decide, cond_true, gdT (by decide), show ([a, b].getD (0 : Int).toNat default) = a from rfl, w1, u1, show decide ((a.length : Int) < 0) = false from decide_eq_false (by omega), cond_false]
    · unfold M.slices_Concat_api_Interval_api_Interval_l1 M.slices_Concat_api_Interval_api_Interval_k1
      simp only [List.length_cons, List.length_nil]
      rw [show decide ((1 : Int) < ((0 + 1 + 1 : Nat) : Int)) = true by decide, cond_true, gdT (by simp), show ([a, b].getD (1 : Int).toNat default) = b from rfl, w2, u2, show decide (((a.length + b.length : Nat) : Int) < 0) = false from decide_eq_false (by omega), cond_false]
    · unfold M.slices_Concat_api_Interval_api_Interval_l1
      simp only [List.length_cons, List.length_nil]
      rw [show decide ((2 : Int) < ((0 + 1 + 1 : Nat) : Int)) = false by decide, cond_false]
  have i2 : Iter (M.slices_Concat_api_Interval_api_Interval_l2 [a, b]) ([], 0) (a ++ b) := by
    refine .next (x' := (a, 1)) ?_ (.next (x' := (a ++ b, 2)) ?_ (.out ?_))
    · unfold M.slices_Concat_api_Interval_api_Interval_l2
      simp only [List.length_cons, List.length_nil]
      rw [show decide ((0 : Int) < ((0 + 1 + 1 : Nat) : Int)) = true by decide, cond_true, gdT (by decide), show ([a, b].getD (0 : Int).toNat default) = a from rfl, u1, show decide ((0 + a.length) * 8 ≤ 140737488355328) = true from decide_eq_true (by omega), gdT (by decide)]
      rfl
    · unfold M.slices_Concat_api_Interval_api_Interval_l2
      simp only [List.length_cons, List.length_nil]
      rw [show decide ((1 : Int) < ((0 + 1 + 1 : Nat) : Int)) = true by decide, cond_true, gdT (by simp), show ([a, b].getD (1 : Int).toNat default) = b from rfl, u2, show decide ((a.length + b.length) * 8 ≤ 140737488355328) = true from decide_eq_true (by omega), gdT (by decide)]
    · unfold M.slices_Concat_api_Interval_api_Interval_l2
      simp only [List.length_cons, List.length_nil]
      rw [show decide ((2 : Int) < ((0 + 1 + 1 : Nat) : Int)) = false by decide, cond_false]
  unfold M.slices_Concat_api_Interval_api_Interval M.slices_Grow_api_Interval_api_Interval
  rw [loopM_of i1, Option.bind_some, show decide (0 ≤ ((a.length + b.length : Nat) : Int)) = true from decide_eq_true (by omega), show decide (((a.length + b.length : Nat) : Int) * 8 ≤ 140737488355328) = true from decide_eq_true (by omega), gdT (by decide), Option.bind_some, loopM_of i2, Option.bind_some]
theorem u32_append {a b : List TInterval} (ha : ∀ t ∈ a, U32 t) (hb : ∀ t ∈ b, U32 t) : ∀ t ∈ a ++ b, U32 t := fun t ht => (List.mem_append.1 ht).elim (ha t) (hb t)
theorem union_eq {a b : List TInterval} (ha : a.length ≤ 100000) (hb : b.length ≤ 100000) (ua : ∀ t ∈ a, U32 t) (ub : ∀ t ∈ b, U32 t) : M.interval_Union a b = some (nrm (a ++ b)) := by
  unfold M.interval_Union
  rw [concat_eq ha hb, Option.bind_some, norm_eq (by rw [List.length_append]; omega) (u32_append ua ub), Option.bind_some]
theorem i_l1 {x y : List TInterval} (hx : x.length ≤ 1000000) (hy : y.length ≤ 1000000) : ∀ (n i j : Nat) (acc : List TInterval), (x.length - i) + (y.length - j) ≤ n → i ≤ x.length → j ≤ y.length → acc.length ≤ i + j →
    Iter (M.interval_Intersect_l1 x y) (acc, (i : Int), (j : Int)) (acc ++ isect (x.drop i) (y.drop j)) := by
  intro n
  induction n with
  | zero =>
    intro i j acc h1 h2 h3 h4
    rw [List.drop_eq_nil_of_le (by omega : x.length ≤ i), isect_nil_l, List.append_nil]
    refine .out ?_
    unfold M.interval_Intersect_l1
    rw [show decide ((i : Int) < (x.length : Int)) = false from decide_eq_false (by omega), Bool.false_and, cond_false]
  | succ n ih =>
    intro i j acc h1 h2 h3 h4
    by_cases hi : i < x.length
    · by_cases hj : j < y.length
      · have hi' : wr .i64 ((i : Int) + 1) = ((i + 1 : Nat) : Int) := by rw [wrN (by omega) (by omega)]; omega
        have hj' : wr .i64 ((j : Int) + 1) = ((j + 1 : Nat) : Int) := by rw [wrN (by omega) (by omega)]; omega
        have di : x.drop i = x.getD i default :: x.drop (i + 1) := by rw [List.drop_eq_getElem_cons hi]; simp [hi]
        have dj : y.drop j = y.getD j default :: y.drop (j + 1) := by rw [List.drop_eq_getElem_cons hj]; simp [hj]
        have bl := both_len (x.getD i default) (y.getD j default)
        have d1 : decide ((i : Int) < (x.length : Int)) = true := decide_eq_true (by omega)
        have d2 : decide ((j : Int) < (y.length : Int)) = true := decide_eq_true (by omega)
        have d3 : decide (0 ≤ (i : Int)) = true := decide_eq_true (by omega)
        have d4 : decide (0 ≤ (j : Int)) = true := decide_eq_true (by omega)
        have st : M.interval_Intersect_l1 x y (acc, (i : Int), (j : Int)) = bif decide ((x.getD i default).fHi < (y.getD j default).fHi) then some (.inl (acc ++ both (x.getD i default) (y.getD j default), ((i + 1 : Nat) : Int), (j : Int))) else some (.inl (acc ++ both (x.getD i default) (y.getD j default), (i : Int), ((j + 1 : Nat) : Int))) := by
          unfold M.interval_Intersect_l1 M.interval_Intersect_k1
          simp only [Int.toNat_natCast, hi', hj', d1, d2, d3, d4, Bool.and_self, cond_true]
          rw [gdT (by decide)]
          show (bif decide (imax (x.getD i default).fLo (y.getD j default).fLo ≤ imin (x.getD i default).fHi (y.getD j default).fHi) then _ else _) = _
          unfold both
          cases hb : decide (imax (x.getD i default).fLo (y.getD j default).fLo ≤ imin (x.getD i default).fHi (y.getD j default).fHi) with
          | true =>
            simp only [cond_true]
            rw [show decide ((acc.length + 1) * 8 ≤ 140737488355328) = true from decide_eq_true (by omega), gdT (by decide), gdT (by decide)]
            rfl
          | false =>
            simp only [cond_false, List.append_nil]
            rw [gdT (by decide)]
        rw [di, dj, isect_cc, ← List.append_assoc]
        cases hb : decide ((x.getD i default).fHi < (y.getD j default).fHi) with
        | true =>
          rw [hb] at st
          have := ih (i + 1) j (acc ++ both (x.getD i default) (y.getD j default)) (by omega) (by omega) (by omega) (by rw [List.length_append]; omega)
          rw [dj] at this
          exact .next st this
        | false =>
          rw [hb] at st
          have := ih i (j + 1) (acc ++ both (x.getD i default) (y.getD j default)) (by omega) (by omega) (by omega) (by rw [List.length_append]; omega)
          rw [di] at this
          exact .next st this
      · rw [List.drop_eq_nil_of_le (by omega : y.length ≤ j), isect_nil_r, List.append_nil]
        refine .out ?_
        unfold M.interval_Intersect_l1
        rw [show decide ((j : Int) < (y.length : Int)) = false from decide_eq_false (by omega), Bool.and_false, cond_false]
    · rw [List.drop_eq_nil_of_le (by omega : x.length ≤ i), isect_nil_l, List.append_nil]
      refine .out ?_
      unfold M.interval_Intersect_l1
      rw [show decide ((i : Int) < (x.length : Int)) = false from decide_eq_false (by omega), Bool.false_and, cond_false]
theorem inter_eq {a b : List TInterval} (ha : a.length ≤ 100000) (hb : b.length ≤ 100000) (ua : ∀ t ∈ a, U32 t) (ub : ∀ t ∈ b, U32 t) : M.interval_Intersect a b = some (isect (nrm a) (nrm b)) := by
  have la := nrm_len a
  have lb := nrm_len b
  have h := i_l1 (x := nrm a) (y := nrm b) (by omega) (by omega) _ 0 0 [] (Nat.le_refl _) (Nat.zero_le _) (Nat.zero_le _) (Nat.zero_le _)
  rw [List.drop_zero, List.drop_zero, List.nil_append] at h
  unfold M.interval_Intersect
  rw [norm_eq (by omega) ua, Option.bind_some, norm_eq (by omega) ub, Option.bind_some, show ((0 : Int)) = ((0 : Nat) : Int) from rfl, loopM_of h, Option.bind_some]
theorem c_l1 {l : List TInterval} (hl : l.length ≤ 1000000) (hu : ∀ t ∈ l, U32 t) : ∀ (k i : Nat) (acc : List TInterval) (nx : Int), i + k = l.length → acc.length ≤ i → 0 ≤ nx → nx ≤ 4294967296 →
    Iter (M.interval_Complement_l1 l) (acc, nx, (i : Int)) (cnext nx (l.drop i), acc ++ compl0 nx (l.drop i)) := by
  intro k
  induction k with
  | zero =>
    intro i acc nx h1 h2 h3 h4
    rw [List.drop_eq_nil_of_le (by omega : l.length ≤ i)]
    refine .out ?_
    unfold M.interval_Complement_l1
    rw [show decide ((i : Int) < (l.length : Int)) = false from decide_eq_false (by omega), cond_false, compl0, List.append_nil, cnext]
  | succ k ih =>
    intro i acc nx h1 h2 h3 h4
    have hi : i < l.length := by omega
    have hup : wr .i64 ((i : Int) + 1) = ((i + 1 : Nat) : Int) := by rw [wrN (by omega) (by omega)]; omega
    have hd : l.drop i = l.getD i default :: l.drop (i + 1) := by rw [List.drop_eq_getElem_cons hi]; simp [hi]
    have u := hu _ (igetD_mem hi)
    unfold U32 at u
    have w1 : wr .u64 (l.getD i default).fHi = (l.getD i default).fHi := wrU64 (by omega) (by omega)
    have w2 : wr .u64 ((l.getD i default).fHi + 1) = (l.getD i default).fHi + 1 := wrU64 (by omega) (by omega)
    have w3 : wr .u64 (l.getD i default).fLo = (l.getD i default).fLo := wrU64 (by omega) (by omega)
    have d1 : decide ((i : Int) < (l.length : Int)) = true := decide_eq_true (by omega)
    have d3 : decide (0 ≤ (i : Int)) = true := decide_eq_true (by omega)
    rw [hd, cnext, compl0, ← List.append_assoc]
    refine .next (x' := (acc ++ (bif decide ((l.getD i default).fLo > nx) then [(⟨nx, (l.getD i default).fLo - 1⟩ : TInterval)] else []), (l.getD i default).fHi + 1, ((i + 1 : Nat) : Int))) ?_ (ih (i + 1) _ _ (by omega) (by rw [List.length_append]; cases decide ((l.getD i default).fLo > nx) <;> simp <;> omega) (by omega) (by omega))
    unfold M.interval_Complement_l1 M.interval_Complement_k1
    simp only [Int.toNat_natCast, hup, w1, w2, w3, d1, d3, cond_true]
    rw [gdT (by decide)]
    cases hb : decide ((l.getD i default).fLo > nx) with
    | true =>
      rw [decide_eq_true_eq] at hb
      simp only [cond_true]
      rw [show decide ((acc.length + 1) * 8 ≤ 140737488355328) = true from decide_eq_true (by omega), gdT (by decide), wr_u32 (by omega), wr_u32 (by omega)]
    | false => simp only [cond_false, List.append_nil]
theorem cnext_le : ∀ (l : List TInterval) (nx : Int), (∀ t ∈ l, U32 t) → 0 ≤ nx → nx ≤ 4294967296 → 0 ≤ cnext nx l ∧ cnext nx l ≤ 4294967296
  | [], nx, _, h, h' => ⟨h, h'⟩
  | t :: l, nx, hu, _, _ => by
    have u := hu t List.mem_cons_self
    unfold U32 at u
    exact cnext_le l (t.fHi + 1) (fun t ht => hu t (List.mem_cons_of_mem _ ht)) (by omega) (by omega)
theorem compl_eq {a : List TInterval} (ha : a.length ≤ 100000) (ua : ∀ t ∈ a, U32 t) : M.interval_Complement a = some (compl 0 (nrm a)) := by
  have la := nrm_len a
  have h := c_l1 (l := nrm a) (by omega) (nrm_u32 ua) _ 0 [] 0 (Nat.zero_add _) (Nat.zero_le _) (by decide) (by decide)
  rw [List.drop_zero, List.nil_append] at h
  have h0 := compl0_len (nrm a) 0
  have hc := cnext_le (nrm a) 0 (nrm_u32 ua) (by decide) (by decide)
  unfold M.interval_Complement M.interval_Complement_k2
  rw [norm_eq (by omega) ua, Option.bind_some]
  refine Option.bind_eq_some_iff.2 ⟨_, loopM_of h, ?_⟩
  unfold compl
  simp only
  cases hb : decide (cnext 0 (nrm a) ≤ 4294967295) with
  | true =>
    rw [decide_eq_true_eq] at hb
    simp only [cond_true]
    rw [show decide (((compl0 0 (nrm a)).length + 1) * 8 ≤ 140737488355328) = true from decide_eq_true (by omega), gdT (by decide), wr_u32 (by omega)]
  | false => simp only [cond_false, List.append_nil]
/-! what they denote -/
theorem uni_is (a b : List TInterval) : Can (nrm (a ++ b)) ∧ ∀ x, imem (nrm (a ++ b)) x ↔ imem a x ∨ imem b x :=
  ⟨(nrm_ok _).1, fun x => ((nrm_ok _).2 x).trans imem_append⟩
theorem int_is (a b : List TInterval) : Can (isect (nrm a) (nrm b)) ∧ ∀ x, imem (isect (nrm a) (nrm b)) x ↔ imem a x ∧ imem b x := by
  obtain ⟨h1, h2⟩ := isect_ok _ (nrm a) (nrm b) (Nat.le_refl _) (nrm_ok a).1 (nrm_ok b).1
  exact ⟨h1, fun x => (h2 x).trans (and_congr ((nrm_ok a).2 x) ((nrm_ok b).2 x))⟩
theorem com_is {a : List TInterval} (ua : ∀ t ∈ a, U32 t) : Can (compl 0 (nrm a)) ∧ ∀ x, imem (compl 0 (nrm a)) x ↔ 0 ≤ x ∧ x ≤ 4294967295 ∧ ¬ imem a x := by
  have hu := nrm_u32 ua
  obtain ⟨h1, h2, _⟩ := compl_ok (nrm a) 0 (nrm_ok a).1 hu (fun t ht => (hu t ht).1)
  exact ⟨h1, fun x => by rw [h2, (nrm_ok a).2]⟩
theorem imem_u32 {a : List TInterval} (ua : ∀ t ∈ a, U32 t) {x : Int} (h : imem a x) : 0 ≤ x ∧ x ≤ 4294967295 := by
  obtain ⟨t, ht, h1, h2⟩ := h
  have := ua t ht
  unfold U32 at this
  omega
end Nv
