/- Has, Valid and the comparison of lists, as plain facts. No condition. -/
import Derived.Test.YtpggnodnpjejlaaDoorNvT1
import Derived.Test.YtpggnodnpjejlaaDoorNvLibB
import Derived.Test.YtpggnodnpjejlaaDoorNvI1
namespace Nv
open Go
theorem runN_anyE {β : Type} {g : Nat → Option β} {c : Nat → Bool} {v e : β} (h : ∀ k, g k = bif c k then some v else none) (n : Nat) : runN g e 0 n = bif anyN c n then v else e := by
  rw [← runN_any c v e n]
  exact runN_congr0 fun j _ => h j
def hasB (l : List TInterval) (x : Int) : Bool := anyN (fun k => decide ((l.getD k default).fLo ≤ x) && decide (x ≤ (l.getD k default).fHi)) l.length
theorem hasB_iff {l : List TInterval} {x : Int} : hasB l x = true ↔ imem l x := by
  unfold hasB
  rw [anyN_true]
  constructor
  · rintro ⟨j, h1, h2⟩
    simp only [Bool.and_eq_true, decide_eq_true_eq] at h2
    exact ⟨l.getD j default, by rw [List.getD_eq_getElem?_getD, List.getElem?_eq_getElem h1]; exact List.getElem_mem h1, h2⟩
  · rintro ⟨j, hj, h⟩
    obtain ⟨i, hi, rfl⟩ := List.getElem_of_mem hj
    exact ⟨i, hi, by simpa [hi] using h⟩
theorem hasB_congr {l m : List TInterval} {x : Int} (h : imem l x ↔ imem m x) : hasB l x = hasB m x := by
  rw [Bool.eq_iff_iff, hasB_iff, hasB_iff]; exact h
theorem q_Has (l : List TInterval) (x : Int) : S.interval_Has l x = hasB l x := by
  unfold S.interval_Has S.slices_ContainsFunc_api_Interval_api_Interval__interval_Has_1 S.slices_IndexFunc_api_Interval_api_Interval__interval_Has_1
  simp only [letS]
  have := idx_ge (fun k => decide ((l.getD k default).fLo ≤ x) && decide (x ≤ (l.getD k default).fHi)) l.length
  unfold hasB
  rw [← this]
  congr 2
theorem wf_u32 {x : Int} (h : (Lit.int .u32 x).wf = true) : 0 ≤ x ∧ x < 4294967296 := by
  simp only [Lit.wf, Bool.and_eq_true, decide_eq_true_eq] at h
  have e1 : IntKind.min .u32 = 0 := by decide
  have e2 : IntKind.max .u32 = 4294967295 := by decide
  rw [e1, e2] at h
  omega
/-! canonical, told by neighbours -/
def adjN (l : List TInterval) (k : Nat) : Bool := decide ((l.getD k default).fLo > (l.getD k default).fHi) || (decide ((k : Int) > 0) && decide ((l.getD k default).fLo < (l.getD (k - 1) default).fHi + 2))
theorem can_adj {l : List TInterval} : Can l ↔ ∀ k, k < l.length → adjN l k = false := by
  have g : ∀ i (h : i < l.length), l.getD i default = l[i] := fun i h => by simp [h]
  constructor
  · rintro ⟨h1, h2⟩ k hk
    unfold adjN
    rw [g k hk]
    have v := h2 l[k] (List.getElem_mem hk)
    simp only [Bool.or_eq_false_iff, Bool.and_eq_false_iff, decide_eq_false_iff_not]
    refine ⟨by omega, ?_⟩
    by_cases h0 : k = 0
    · exact .inl (by omega)
    · right
      have := List.pairwise_iff_getElem.1 h1 (k - 1) k (by omega) hk (by omega)
      rw [g (k - 1) (by omega)]
      omega
  · intro h
    have v : ∀ k (hk : k < l.length), l[k].fLo ≤ l[k].fHi ∧ (0 < k → (l.getD (k - 1) default).fHi + 1 < l[k].fLo) := fun k hk => by
      have := h k hk
      unfold adjN at this
      rw [g k hk] at this
      simp only [Bool.or_eq_false_iff, Bool.and_eq_false_iff, decide_eq_false_iff_not] at this
      exact ⟨by omega, fun h0 => by omega⟩
    refine ⟨?_, fun i hi => ?_⟩
    · rw [List.pairwise_iff_getElem]
      have key : ∀ (d i : Nat) (h1 : i + d + 1 < l.length), l[i].fHi + 1 < l[i + d + 1].fLo := by
        intro d
        induction d with
        | zero =>
          intro i h1
          have := (v (i + 1) h1).2 (by omega)
          rw [show i + 1 - 1 = i by omega, g i (by omega)] at this
          exact this
        | succ d ih =>
          intro i h1
          have a := ih i (by omega)
          have b := (v (i + d + 1) (by omega)).1
          have c := (v (i + (d + 1) + 1) h1).2 (by omega)
          rw [show i + (d + 1) + 1 - 1 = i + d + 1 by omega, g (i + d + 1) (by omega)] at c
          omega
      intro i j hi hj hij
      have := key (j - i - 1) i (by omega)
      simpa [show i + (j - i - 1) + 1 = j by omega] using this
    · obtain ⟨k, hk, rfl⟩ := List.getElem_of_mem hi
      exact (v k hk).1
theorem q_Valid {l : List TInterval} (hl : l.length ≤ 1000000) (hu : ∀ t ∈ l, U32 t) : S.interval_Valid l = !anyN (adjN l) l.length := by
  unfold S.interval_Valid
  simp only [letS]
  have e : runN (S.interval_Valid_l1 l) (.inl () : Unit ⊕ Bool) 0 l.length = runN (fun k => bif adjN l k then some (.inr false) else none) (.inl ()) 0 l.length := runN_congr0 fun k hk => by
    unfold S.interval_Valid_l1 adjN
    have m : ∀ q, q < l.length → U32 (l.getD q default) := fun q hq => hu _ (by rw [List.getD_eq_getElem?_getD, List.getElem?_eq_getElem hq]; exact List.getElem_mem hq)
    have u := m k hk
    unfold U32 at u
    rw [wrU (n := (l.getD k default).fLo) (by omega) (by omega)]
    by_cases h0 : k = 0
    · subst h0; simp
    · have w : wr .i64 ((k : Int) - 1) = ((k - 1 : Nat) : Int) := by rw [wrN (by omega) (by omega)]; omega
      have u2 := m (k - 1) (by omega)
      unfold U32 at u2
      rw [w, Int.toNat_natCast, wrU (n := (l.getD (k - 1) default).fHi) (by omega) (by omega), wrU (n := (l.getD (k - 1) default).fHi + 2) (by omega) (by omega)]
  rw [e, runN_any]
  cases anyN (adjN l) l.length <;> rfl
theorem valid_iff {l : List TInterval} (hl : l.length ≤ 1000000) (hu : ∀ t ∈ l, U32 t) : S.interval_Valid l = true ↔ Can l := by
  rw [q_Valid hl hu, Bool.not_eq_true', anyN_false, can_adj]
end Nv
