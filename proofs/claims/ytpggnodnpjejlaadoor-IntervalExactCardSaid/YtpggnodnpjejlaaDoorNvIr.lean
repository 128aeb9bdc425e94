/- The reference's Union, Intersect, Complement, Subtract, Size: what they give. No condition. -/
import Derived.Test.YtpggnodnpjejlaaDoorNvIs
import Derived.Test.YtpggnodnpjejlaaDoorNvI3
import Derived.Test.YtpggnodnpjejlaaDoorNvI6
namespace Nv
open Go Go.Proofs
theorem rnorm_eq {l : List TInterval} (hl : l.length ≤ 1000000) (hu : ∀ t ∈ l, U32 t) : M.ref4_Normalize l = some (nrm l) := by
  obtain ⟨r, r1, r2, _⟩ := refN_ok hl hu
  rw [r1, (nrm_ok l).uniq r2]
theorem runion_eq {a b : List TInterval} (ha : a.length ≤ 100000) (hb : b.length ≤ 100000) (ua : ∀ t ∈ a, U32 t) (ub : ∀ t ∈ b, U32 t) : M.ref4_Union a b = some (nrm (a ++ b)) := by
  unfold M.ref4_Union
  rw [show decide ((0 + a.length) * 8 ≤ 140737488355328) = true from decide_eq_true (by omega), show decide (((0 + a.length) + b.length) * 8 ≤ 140737488355328) = true from decide_eq_true (by omega), gdT (by simp), rnorm_eq (by rw [List.length_append]; omega) (u32_append ua ub), Option.bind_some]
/-! all pairs -/
def pr2 (x y : TInterval) : List TInterval := bif decide (x.fLo ≤ x.fHi) && decide (y.fLo ≤ y.fHi) then [(⟨imax x.fLo y.fLo, imin x.fHi y.fHi⟩ : TInterval)] else []
def pr1 (x : TInterval) (b : List TInterval) : List TInterval := b.flatMap (pr2 x)
def pr (a b : List TInterval) : List TInterval := a.flatMap fun x => pr1 x b
theorem pr2_mem {x y j : TInterval} (h : j ∈ pr2 x y) : j = ⟨imax x.fLo y.fLo, imin x.fHi y.fHi⟩ := by
  unfold pr2 at h
  cases hb : decide (x.fLo ≤ x.fHi) && decide (y.fLo ≤ y.fHi) with
  | false => rw [hb] at h; cases h
  | true => rw [hb] at h; simpa using h
theorem pr_imem {a b : List TInterval} {t : Int} : imem (pr a b) t ↔ imem a t ∧ imem b t := by
  constructor
  · rintro ⟨j, hj, h1, h2⟩
    obtain ⟨x, hx, hj⟩ := List.mem_flatMap.1 hj
    obtain ⟨y, hy, hj⟩ := List.mem_flatMap.1 hj
    obtain rfl := pr2_mem hj
    have q1 := imax_le.1 h1
    have q2 := le_imin.1 h2
    exact ⟨⟨x, hx, q1.1, q2.1⟩, ⟨y, hy, q1.2, q2.2⟩⟩
  · rintro ⟨⟨x, hx, x1, x2⟩, ⟨y, hy, y1, y2⟩⟩
    refine ⟨⟨imax x.fLo y.fLo, imin x.fHi y.fHi⟩, List.mem_flatMap.2 ⟨x, hx, List.mem_flatMap.2 ⟨y, hy, ?_⟩⟩, imax_le.2 ⟨x1, y1⟩, le_imin.2 ⟨x2, y2⟩⟩
    unfold pr2
    rw [show (decide (x.fLo ≤ x.fHi) && decide (y.fLo ≤ y.fHi)) = true by simp; omega]
    simp
theorem pr_u32 {a b : List TInterval} (ua : ∀ t ∈ a, U32 t) (ub : ∀ t ∈ b, U32 t) : ∀ t ∈ pr a b, U32 t := fun j hj => by
  obtain ⟨x, hx, hj⟩ := List.mem_flatMap.1 hj
  obtain ⟨y, hy, hj⟩ := List.mem_flatMap.1 hj
  obtain rfl := pr2_mem hj
  have h1 := ua x hx
  have h2 := ub y hy
  unfold U32 at *
  simp only
  rcases imax_or x.fLo y.fLo with e | e <;> rcases imin_or x.fHi y.fHi with f | f <;> (rw [e, f]; omega)
theorem pr2_len (x y : TInterval) : (pr2 x y).length ≤ 1 := by unfold pr2; cases decide (x.fLo ≤ x.fHi) && decide (y.fLo ≤ y.fHi) <;> simp
theorem pr1_len (x : TInterval) : ∀ b : List TInterval, (pr1 x b).length ≤ b.length
  | [] => Nat.le_refl _
  | y :: b => by
    have h1 := pr2_len x y
    have h2 := pr1_len x b
    show (pr2 x y ++ pr1 x b).length ≤ _
    rw [List.length_append, List.length_cons]; omega
theorem pr_len : ∀ a b : List TInterval, (pr a b).length ≤ a.length * b.length
  | [], b => by simp [pr]
  | x :: a, b => by
    have h1 := pr1_len x b
    have h2 := pr_len a b
    show (pr1 x b ++ pr a b).length ≤ _
    rw [List.length_append, List.length_cons, Nat.succ_mul]; omega
theorem ri_l2 {a b : List TInterval} (hb : b.length ≤ 1000) {p1 : List TInterval × Int} {i : Nat} (hp : p1.2 = (i : Int)) (hi : i < a.length) : ∀ (k j : Nat) (acc : List TInterval), j + k = b.length → acc.length + k ≤ 100000000 →
    Iter (M.ref4_Intersect_l2 a b p1) (acc, (j : Int)) (acc ++ pr1 (a.getD i default) (b.drop j)) := by
  intro k
  induction k with
  | zero =>
    intro j acc h1 h2
    rw [List.drop_eq_nil_of_le (by omega : b.length ≤ j), show pr1 (a.getD i default) [] = [] from rfl, List.append_nil]
    refine .out ?_
    unfold M.ref4_Intersect_l2
    rw [show decide ((j : Int) < (b.length : Int)) = false from decide_eq_false (by omega), cond_false]
  | succ k ih =>
    intro j acc h1 h2
    have hj : j < b.length := by omega
    have hup : wr .i64 ((j : Int) + 1) = ((j + 1 : Nat) : Int) := by rw [wrN (by omega) (by omega)]; omega
    have hd : b.drop j = b.getD j default :: b.drop (j + 1) := by rw [List.drop_eq_getElem_cons hj]; simp [hj]
    have hl := pr2_len (a.getD i default) (b.getD j default)
    rw [hd, show pr1 (a.getD i default) (b.getD j default :: b.drop (j + 1)) = pr2 (a.getD i default) (b.getD j default) ++ pr1 (a.getD i default) (b.drop (j + 1)) from rfl, ← List.append_assoc]
    refine .next (x' := (acc ++ pr2 (a.getD i default) (b.getD j default), ((j + 1 : Nat) : Int))) ?_ (ih (j + 1) _ (by omega) (by rw [List.length_append]; omega))
    have d1 : decide ((i : Int) < (a.length : Int)) = true := decide_eq_true (by omega)
    have d2 : decide ((j : Int) < (b.length : Int)) = true := decide_eq_true (by omega)
    have d3 : decide (0 ≤ (i : Int)) = true := decide_eq_true (by omega)
    have d4 : decide (0 ≤ (j : Int)) = true := decide_eq_true (by omega)
    unfold M.ref4_Intersect_l2 M.ref4_Intersect_k1
    simp only [hp, Int.toNat_natCast, hup, d1, d2, d3, d4, cond_true]
    rw [gdT (by simp [guardB])]
    unfold pr2
    cases hc : decide ((a.getD i default).fLo ≤ (a.getD i default).fHi) && decide ((b.getD j default).fLo ≤ (b.getD j default).fHi) with
    | true =>
      simp only [cond_true]
      rw [show decide ((acc.length + 1) * 8 ≤ 140737488355328) = true from decide_eq_true (by omega), gdT (by simp)]
      rfl
    | false => simp only [cond_false, List.append_nil]
theorem ri_l1 {a b : List TInterval} (ha : a.length ≤ 1000) (hb : b.length ≤ 1000) : ∀ (k i : Nat) (acc : List TInterval), i + k = a.length → acc.length + k * 1000 ≤ 90000000 → Iter (M.ref4_Intersect_l1 a b) (acc, (i : Int)) (acc ++ pr (a.drop i) b) := by
  intro k
  induction k with
  | zero =>
    intro i acc h1 h2
    rw [List.drop_eq_nil_of_le (by omega : a.length ≤ i), show pr [] b = [] from rfl, List.append_nil]
    refine .out ?_
    unfold M.ref4_Intersect_l1
    rw [show decide ((i : Int) < (a.length : Int)) = false from decide_eq_false (by omega), cond_false]
  | succ k ih =>
    intro i acc h1 h2
    have hi : i < a.length := by omega
    have hup : wr .i64 ((i : Int) + 1) = ((i + 1 : Nat) : Int) := by rw [wrN (by omega) (by omega)]; omega
    have hd : a.drop i = a.getD i default :: a.drop (i + 1) := by rw [List.drop_eq_getElem_cons hi]; simp [hi]
    have hl := pr1_len (a.getD i default) b
    rw [hd, show pr (a.getD i default :: a.drop (i + 1)) b = pr1 (a.getD i default) b ++ pr (a.drop (i + 1)) b from rfl, ← List.append_assoc]
    refine .next (x' := (acc ++ pr1 (a.getD i default) b, ((i + 1 : Nat) : Int))) ?_ (ih (i + 1) _ (by omega) (by rw [List.length_append]; omega))
    have h := ri_l2 (a := a) (b := b) hb (p1 := (acc, (i : Int))) rfl hi _ 0 acc (Nat.zero_add _) (by omega)
    rw [List.drop_zero] at h
    unfold M.ref4_Intersect_l1
    simp only [hup]
    rw [show decide ((i : Int) < (a.length : Int)) = true from decide_eq_true (by omega), cond_true]
    exact Option.bind_eq_some_iff.2 ⟨_, loopM_of h, rfl⟩
theorem rinter_eq {a b : List TInterval} (ha : a.length ≤ 300) (hb : b.length ≤ 300) (ua : ∀ t ∈ a, U32 t) (ub : ∀ t ∈ b, U32 t) : M.ref4_Intersect a b = some (isect (nrm a) (nrm b)) := by
  have h := ri_l1 (a := a) (b := b) (by omega) (by omega) _ 0 [] (Nat.zero_add _) (by simp; omega)
  rw [List.drop_zero, List.nil_append] at h
  have hl := pr_len a b
  have hm : a.length * b.length ≤ 300 * 300 := Nat.mul_le_mul ha hb
  have e : nrm (pr a b) = isect (nrm a) (nrm b) := (nrm_ok _).uniq ⟨(int_is a b).1, fun x => ((int_is a b).2 x).trans pr_imem.symm⟩
  unfold M.ref4_Intersect
  rw [show ((0 : Int)) = ((0 : Nat) : Int) from rfl, loopM_of h, Option.bind_some, rnorm_eq (by omega) (pr_u32 ua ub), Option.bind_some, e]
theorem rc_l1 {l : List TInterval} (hl : l.length ≤ 1000000) (hu : ∀ t ∈ l, U32 t) : ∀ (k i : Nat) (acc : List TInterval) (nx : Int), i + k = l.length → acc.length ≤ i → 0 ≤ nx → nx ≤ 4294967296 →
    Iter (M.ref4_Complement_l1 l) (acc, nx, (i : Int)) (cnext nx (l.drop i), acc ++ compl0 nx (l.drop i)) := by
  intro k
  induction k with
  | zero =>
    intro i acc nx h1 h2 h3 h4
    rw [List.drop_eq_nil_of_le (by omega : l.length ≤ i)]
    refine .out ?_
    unfold M.ref4_Complement_l1
    rw [show decide ((i : Int) < (l.length : Int)) = false from decide_eq_false (by omega), cond_false, compl0, List.append_nil, cnext]
  | succ k ih =>
    intro i acc nx h1 h2 h3 h4
    have hi : i < l.length := by omega
    have hup : wr .i64 ((i : Int) + 1) = ((i + 1 : Nat) : Int) := by rw [wrN (by omega) (by omega)]; omega
    have hd : l.drop i = l.getD i default :: l.drop (i + 1) := by rw [List.drop_eq_getElem_cons hi]; simp [hi]
    have u := hu _ (igetD_mem hi)
    unfold U32 at u
    have w1 : wr .u64 (l.getD i default).fHi = (l.getD i default).fHi := wrU64 (by omega) (by omega)
    have w2 : wr .u64 ((l.getD i default).fHi + 1) = (l.getD i default).fHi + 1 := wrU64 (by omega) (by omega)
    have w3 : wr .u64 (l.getD i default).fLo = (l.getD i default).fLo := wrU64 (by omega) (by omega)
    have d1 : decide ((i : Int) < (l.length : Int)) = true := decide_eq_true (by omega)
    have d3 : decide (0 ≤ (i : Int)) = true := decide_eq_true (by omega)
    rw [hd, cnext, compl0, ← List.append_assoc]
    refine .next (x' := (acc ++ (bif decide ((l.getD i default).fLo > nx) then [(⟨nx, (l.getD i default).fLo - 1⟩ : TInterval)] else []), (l.getD i default).fHi + 1, ((i + 1 : Nat) : Int))) ?_ (ih (i + 1) _ _ (by omega) (by rw [List.length_append]; cases decide ((l.getD i default).fLo > nx) <;> simp <;> omega) (by omega) (by omega))
    unfold M.ref4_Complement_l1 M.ref4_Complement_k1
    simp only [Int.toNat_natCast, hup, w1, w2, w3, d1, d3, cond_true]
    rw [gdT (by simp)]
    cases hb : decide ((l.getD i default).fLo > nx) with
    | true =>
      rw [decide_eq_true_eq] at hb
      simp only [cond_true]
      rw [show decide ((acc.length + 1) * 8 ≤ 140737488355328) = true from decide_eq_true (by omega), gdT (by simp), gdT (by simp), wr_u32 (by omega), wr_u32 (by omega)]
    | false =>
      simp only [cond_false, List.append_nil]
      rw [gdT (by simp)]
theorem rcompl_eq {a : List TInterval} (ha : a.length ≤ 100000) (ua : ∀ t ∈ a, U32 t) : M.ref4_Complement a = some (compl 0 (nrm a)) := by
  have la := nrm_len a
  have h := rc_l1 (l := nrm a) (by omega) (nrm_u32 ua) _ 0 [] 0 (Nat.zero_add _) (Nat.zero_le _) (by decide) (by decide)
  rw [List.drop_zero, List.nil_append] at h
  have h0 := compl0_len (nrm a) 0
  have hc := cnext_le (nrm a) 0 (nrm_u32 ua) (by decide) (by decide)
  unfold M.ref4_Complement M.ref4_Complement_k2
  rw [rnorm_eq (by omega) ua, Option.bind_some]
  refine Option.bind_eq_some_iff.2 ⟨_, loopM_of h, ?_⟩
  unfold compl
  simp only
  by_cases hb : cnext 0 (nrm a) ≤ 4294967295
  · rw [show decide (cnext 0 (nrm a) ≤ 4294967295) = true from decide_eq_true hb, show decide (cnext 0 (nrm a) < 4294967296) = true from decide_eq_true (by omega)]
    simp only [cond_true]
    rw [show decide (((compl0 0 (nrm a)).length + 1) * 8 ≤ 140737488355328) = true from decide_eq_true (by omega), gdT (by simp), wr_u32 (by omega)]
  · rw [show decide (cnext 0 (nrm a) ≤ 4294967295) = false from decide_eq_false hb, show decide (cnext 0 (nrm a) < 4294967296) = false from decide_eq_false (by omega)]
    simp only [cond_false, List.append_nil]
theorem rsubt_eq {a b : List TInterval} (ha : a.length ≤ 200) (hb : b.length ≤ 200) (ua : ∀ t ∈ a, U32 t) (ub : ∀ t ∈ b, U32 t) : M.ref4_Subtract a b = some (isect (nrm a) (nrm (compl 0 (nrm b)))) := by
  have lb := nrm_len b
  have lc := compl_len (nrm b) 0
  unfold M.ref4_Subtract
  rw [rcompl_eq (by omega) ub, Option.bind_some, rinter_eq (by omega) (by omega) ua (compl_u32 (nrm_ok b).1 (nrm_u32 ub)), Option.bind_some]
theorem rz_l1 {r : List TInterval} (hr : r.length ≤ 1000000) (hu : ∀ t ∈ r, U32 t) (hv : ∀ t ∈ r, t.fLo ≤ t.fHi) : ∀ (k i : Nat) (a : Int), i + k = r.length → 0 ≤ a → a + isz (r.drop i) ≤ 4294967296 → Iter (M.ref4_Size_l1 r) (a, (i : Int)) (a + isz (r.drop i)) := by
  intro k
  induction k with
  | zero =>
    intro i a h1 h2 h3
    rw [List.drop_eq_nil_of_le (by omega), show isz [] = 0 from rfl, Int.add_zero]
    refine .out ?_
    unfold M.ref4_Size_l1
    rw [show decide ((i : Int) < (r.length : Int)) = false by simp; omega]; rfl
  | succ k ih =>
    intro i a h1 h2 h3
    have hi : i < r.length := by omega
    have hup : wr .i64 ((i : Int) + 1) = ((i + 1 : Nat) : Int) := by rw [wrN (by omega) (by omega)]; omega
    have hd : r.drop i = r.getD i default :: r.drop (i + 1) := by rw [List.drop_eq_getElem_cons hi]; simp [hi]
    have hm := igetD_mem hi
    have u := hu _ hm
    have v := hv _ hm
    unfold U32 at u
    have nn := isz_nonneg (l := r.drop (i + 1)) (fun t ht => hv t (List.mem_of_mem_drop ht))
    rw [hd] at h3 ⊢
    rw [show isz (r.getD i default :: r.drop (i + 1)) = ((r.getD i default).fHi - (r.getD i default).fLo + 1) + isz (r.drop (i + 1)) from rfl] at h3 ⊢
    rw [← Int.add_assoc]
    refine .next (x' := (a + ((r.getD i default).fHi - (r.getD i default).fLo + 1), ((i + 1 : Nat) : Int))) ?_ (ih (i + 1) _ (by omega) (by omega) (by omega))
    unfold M.ref4_Size_l1
    simp only [Int.toNat_natCast, hup]
    rw [show decide ((i : Int) < (r.length : Int)) = true by simp; omega, cond_true, gdT (by simp <;> omega), wrU64 (n := (r.getD i default).fHi) (by omega) (by omega), wrU64 (n := (r.getD i default).fLo) (by omega) (by omega), wrU64 (n := a + (r.getD i default).fHi) (by omega) (by omega), wrU64 (n := a + (r.getD i default).fHi - (r.getD i default).fLo) (by omega) (by omega), wrU64 (by omega) (by omega)]
    congr 3
    omega
theorem rsize_eq {l : List TInterval} (hl : l.length ≤ 1000000) (hu : ∀ t ∈ l, U32 t) : M.ref4_Size l = some (isz (nrm l)) := by
  have hN := nrm_ok l
  have hU := nrm_u32 hu
  have hb := isz_le (l := nrm l) (c := 0) hN.1 hU (fun t ht => (hU t ht).1) (by decide)
  have h1 := rz_l1 (r := nrm l) (by have := nrm_len l; omega) hU hN.1.2 _ 0 0 (Nat.zero_add _) (Int.le_refl _) (by rw [List.drop_zero]; omega)
  rw [List.drop_zero, Int.zero_add] at h1
  unfold M.ref4_Size
  rw [rnorm_eq hl hu, Option.bind_some]
  exact Option.bind_eq_some_iff.2 ⟨_, loopM_of h1, rfl⟩
end Nv
