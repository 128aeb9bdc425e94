/- Normalize returns the canonical list. No condition. -/
import Derived.Test.YtpggnodnpjejlaaDoorNvI1
import Derived.Test.YtpggnodnpjejlaaDoorNvLibC
namespace Nv
open Go Go.Sort Go.Proofs
def icf (x y : TInterval) : Int := if x.fLo < y.fLo then -1 else if x.fLo > y.fLo then 1 else 0
theorem icf_lt (x y : TInterval) : ltOf icf x y = decide (x.fLo < y.fLo) := by
  unfold ltOf icf
  by_cases h : x.fLo < y.fLo
  · simp [h]
  · by_cases h2 : x.fLo > y.fLo <;> simp [h, h2]
theorem icf_swo : SWO (ltOf icf) where
  irrefl x := by rw [icf_lt]; simp
  trans x y z h1 h2 := by rw [icf_lt] at *; simp at *; omega
  ntrans x y z h1 h2 := by rw [icf_lt] at *; simp at *; omega
theorem icmp (x y : TInterval) : M.interval_Normalize_1 x y = some (icf x y) := by
  unfold M.interval_Normalize_1 M.cmp_Compare_uint32 M.cmp_isNaN_uint32 icf
  simp only [Option.bind_some, bne_self_eq_false, cond_false]
  by_cases h : x.fLo < y.fLo
  · simp [h]
  · by_cases h2 : x.fLo > y.fLo
    · have : ¬ x.fLo < y.fLo := h
      simp [h, h2]
    · simp [h, h2]
theorem so_interval_Normalize_1 : SortOK M.interval_Normalize_1 := ⟨icf, icmp, icf_swo⟩
theorem igetD_mem {l : List TInterval} {i : Nat} (hi : i < l.length) : l.getD i default ∈ l := by rw [List.getD_eq_getElem?_getD, List.getElem?_eq_getElem hi]; exact List.getElem_mem hi
noncomputable def nrm (l : List TInterval) : List TInterval := (sortP icf (l.filter (fun i => decide (i.fLo ≤ i.fHi)))).foldl mstep []
theorem nrm_ok (l : List TInterval) : IsN l (nrm l) := by
  obtain ⟨_, h2, h3⟩ := sortP_ok icf_swo (l.filter (fun i => decide (i.fLo ≤ i.fHi)))
  obtain ⟨h4, h5⟩ := mfold_ok (s := sortP icf (l.filter (fun i => decide (i.fLo ≤ i.fHi)))) (acc := []) can_nil (fun x hx => by
    have := (List.mem_filter.1 (h2.subset hx)).2
    simpa using this) (h3.imp fun {a b} h => by rw [icf_lt, decide_eq_false_iff_not] at h; omega) (fun t ht => by cases ht)
  exact ⟨h4, fun x => by
    unfold nrm
    rw [h5, imem_perm h2, imem_filter]
    exact ⟨fun h => h.resolve_left (imem_nil x), .inr⟩⟩
theorem nrm_len (l : List TInterval) : (nrm l).length ≤ l.length := by
  have h1 := mfold_len (sortP icf (l.filter (fun i => decide (i.fLo ≤ i.fHi)))) []
  have h2 := (sortP_ok icf_swo (l.filter (fun i => decide (i.fLo ≤ i.fHi)))).1
  have h3 := List.length_filter_le (fun i : TInterval => decide (i.fLo ≤ i.fHi)) l
  unfold nrm
  simp only [List.length_nil] at h1
  omega
theorem nrm_u32 {l : List TInterval} (h : ∀ t ∈ l, U32 t) : ∀ t ∈ nrm l, U32 t :=
  mfold_u32 (fun t ht => by cases ht) fun t ht => h t (List.mem_filter.1 ((sortP_ok icf_swo _).2.1.subset ht)).1
theorem wrU64 {n : Int} (h0 : 0 ≤ n) (h1 : n ≤ 9223372036854775807) : wr .u64 n = n := wrU h0 h1
theorem n_l1 {l : List TInterval} (hl : l.length ≤ 10000000000) : ∀ (k i : Nat) (acc : List TInterval), i + k = l.length → acc.length ≤ i → Iter (M.interval_Normalize_l1 l) (acc, (i : Int)) (acc ++ (l.drop i).filter (fun i => decide (i.fLo ≤ i.fHi))) := by
  intro k
  induction k with
  | zero =>
    intro i acc h1 h2
    rw [List.drop_eq_nil_of_le (by omega), List.filter_nil, List.append_nil]
    refine .out ?_
    unfold M.interval_Normalize_l1
    rw [show decide ((i : Int) < (l.length : Int)) = false by simp; omega]; rfl
  | succ k ih =>
    intro i acc h1 h2
    have hi : i < l.length := by omega
    have hup : wr .i64 ((i : Int) + 1) = ((i + 1 : Nat) : Int) := by rw [wrN (by omega) (by omega)]; omega
    have hd : l.drop i = l.getD i default :: l.drop (i + 1) := by rw [List.drop_eq_getElem_cons hi]; simp [hi]
    rw [hd]
    cases hv : decide ((l.getD i default).fLo ≤ (l.getD i default).fHi) with
    | true =>
      rw [List.filter_cons_of_pos (p := fun i : TInterval => decide (i.fLo ≤ i.fHi)) hv, List.append_cons]
      refine .next ?_ (ih (i + 1) _ (by omega) (by simp; omega))
      unfold M.interval_Normalize_l1 M.interval_Normalize_k1
      simp only [Int.toNat_natCast, hup]
      rw [show decide ((i : Int) < (l.length : Int)) = true by simp; omega, cond_true, gdT (by simp <;> omega), hv, cond_true, gdT (by simp; omega)]
    | false =>
      rw [List.filter_cons_of_neg (p := fun i : TInterval => decide (i.fLo ≤ i.fHi)) (by rw [hv]; exact Bool.false_ne_true)]
      refine .next ?_ (ih (i + 1) _ (by omega) (by omega))
      unfold M.interval_Normalize_l1 M.interval_Normalize_k1
      simp only [Int.toNat_natCast, hup]
      rw [show decide ((i : Int) < (l.length : Int)) = true by simp; omega, cond_true, gdT (by simp <;> omega), hv, cond_false]
theorem n_step {r acc : List TInterval} {i : Nat} (hi : i < r.length) (ha : acc.length ≤ i) (hr : r.length ≤ 10000000000) (hu : ∀ t ∈ r, U32 t) (hA : ∀ t ∈ acc, U32 t) :
    M.interval_Normalize_l2 r (acc, (i : Int)) = some (.inl (mstep acc (r.getD i default), ((i + 1 : Nat) : Int))) := by
  have hx := hu _ (igetD_mem hi)
  have hup : wr .i64 ((i : Int) + 1) = ((i + 1 : Nat) : Int) := by rw [wrN (by omega) (by omega)]; omega
  unfold M.interval_Normalize_l2 M.interval_Normalize_k2
  simp only [Int.toNat_natCast, Nat.zero_add, hup]
  rw [show decide ((i : Int) < (r.length : Int)) = true by simp; omega, cond_true, gdT (by simp <;> omega)]
  rcases List.eq_nil_or_concat acc with rfl | ⟨l, z, rfl⟩
  · have e : wr .i64 ((([] : List TInterval).length : Int) - 1) = -1 := by decide
    simp only [e]
    rw [show decide ((-1 : Int) ≥ 0) = false by decide]
    simp only [guardB, cond_false, Bool.false_and]
    rw [gdT (by simp), gdT (by simp)]
    rfl
  · rw [List.concat_eq_append] at hA ha ⊢
    simp only [List.length_append, List.length_cons, List.length_nil, Nat.zero_add] at ha
    have e : wr .i64 (((l ++ [z]).length : Int) - 1) = ((l.length : Nat) : Int) := by simp only [List.length_append, List.length_cons, List.length_nil]; rw [wrN (by omega) (by omega)]; omega
    have g : (l ++ [z]).getD l.length default = z := by simp
    have hz := hA z (by simp)
    unfold U32 at hx hz
    have w1 : wr .u64 z.fHi = z.fHi := wrU64 (by omega) (by omega)
    have w2 : wr .u64 (z.fHi + 1) = z.fHi + 1 := wrU64 (by omega) (by omega)
    have w3 : wr .u64 (r.getD i default).fLo = (r.getD i default).fLo := wrU64 (by omega) (by omega)
    simp only [e, Int.toNat_natCast, g, w1, w2, w3]
    rw [show decide ((l.length : Int) ≥ 0) = true by simp]
    simp only [guardB, cond_true, Bool.true_and]
    rw [gdT (by simp; omega), mstep_snoc]
    cases hb : decide ((r.getD i default).fLo ≤ z.fHi + 1) with
    | true =>
      simp only [cond_true]
      rw [gdT (by simp; omega)]
      congr 4
      simp
    | false =>
      simp only [cond_false]
      rw [gdT (by simp; omega)]
theorem n_l2 {r : List TInterval} (hr : r.length ≤ 10000000000) (hu : ∀ t ∈ r, U32 t) : ∀ (k i : Nat) (acc : List TInterval), i + k = r.length → acc.length ≤ i → (∀ t ∈ acc, U32 t) → Iter (M.interval_Normalize_l2 r) (acc, (i : Int)) ((r.drop i).foldl mstep acc) := by
  intro k
  induction k with
  | zero =>
    intro i acc h1 h2 h3
    rw [List.drop_eq_nil_of_le (by omega)]
    refine .out ?_
    unfold M.interval_Normalize_l2
    rw [show decide ((i : Int) < (r.length : Int)) = false by simp; omega]; rfl
  | succ k ih =>
    intro i acc h1 h2 h3
    have hi : i < r.length := by omega
    have hd : r.drop i = r.getD i default :: r.drop (i + 1) := by rw [List.drop_eq_getElem_cons hi]; simp [hi]
    rw [hd, List.foldl_cons]
    exact .next (n_step hi h2 hr hu h3) (ih (i + 1) _ (by omega) (by have := mstep_len acc (r.getD i default); omega) (mstep_u32 h3 (hu _ (igetD_mem hi))))
theorem norm_eq {l : List TInterval} (hl : l.length ≤ 10000000000) (hu : ∀ t ∈ l, U32 t) : M.interval_Normalize l = some (nrm l) := by
  have hf := List.length_filter_le (fun i : TInterval => decide (i.fLo ≤ i.fHi)) l
  obtain ⟨q1, q2, _⟩ := sortP_ok icf_swo (l.filter (fun i => decide (i.fLo ≤ i.fHi)))
  have h1 := n_l1 hl l.length 0 [] (Nat.zero_add _) (Nat.zero_le _)
  rw [List.drop_zero, List.nil_append] at h1
  have h2 := n_l2 (r := sortP icf (l.filter (fun i => decide (i.fLo ≤ i.fHi)))) (by omega) (fun t ht => hu t (List.mem_filter.1 (q2.subset ht)).1) _ 0 [] (Nat.zero_add _) (Nat.zero_le _) (fun t ht => by cases ht)
  rw [List.drop_zero] at h2
  unfold M.interval_Normalize M.slices_SortFunc_api_Interval_api_Interval__interval_Normalize_1
  rw [gdT (by simp; omega), show List.replicate ((0 : Int).toNat) (⟨0, 0⟩ : TInterval) = [] from rfl, show ((0 : Int)) = ((0 : Nat) : Int) from rfl, loopM_of h1, Option.bind_some, sortM_eq icmp icf_swo (by omega), Option.bind_some, gdT (by simp [q1]), loopM_of h2, Option.bind_some]
  rfl
end Nv
