/- Valid, as a plain fact. No condition. -/
import Derived.Test.YtpggnodnpjejlaaDoorNvI4
namespace Nv
open Go
/-! canonical, told by neighbours -/
def adjN (l : List TInterval) (k : Nat) : Bool := decide ((l.getD k default).fLo > (l.getD k default).fHi) || (decide ((k : Int) > 0) && decide ((l.getD k default).fLo < (l.getD (k - 1) default).fHi + 2))
theorem can_adj {l : List TInterval} : Can l ↔ ∀ k, k < l.length → adjN l k = false := by
  have g : ∀ i (h : i < l.length), l.getD i default = l[i] := fun i h => by simp [h]
  constructor
  · rintro ⟨h1, h2⟩ k hk
    unfold adjN
    rw [g k hk]
    have v := h2 l[k] (List.getElem_mem hk)
    simp only [Bool.or_eq_false_iff, Bool.and_eq_false_iff, decide_eq_false_iff_not]
    refine ⟨by omega, ?_⟩
    by_cases h0 : k = 0
    · exact .inl (by omega)
    · right
      have := List.pairwise_iff_getElem.1 h1 (k - 1) k (by omega) hk (by omega)
      rw [g (k - 1) (by omega)]
      omega
  · intro h
    have v : ∀ k (hk : k < l.length), l[k].fLo ≤ l[k].fHi ∧ (0 < k → (l.getD (k - 1) default).fHi + 1 < l[k].fLo) := fun k hk => by
      have := h k hk
      unfold adjN at this
      rw [g k hk] at this
      simp only [Bool.or_eq_false_iff, Bool.and_eq_false_iff, decide_eq_false_iff_not] at this
      exact ⟨by omega, fun h0 => by omega⟩
    refine ⟨?_, fun i hi => ?_⟩
    · rw [List.pairwise_iff_getElem]
      have key : ∀ (d i : Nat) (h1 : i + d + 1 < l.length), l[i].fHi + 1 < l[i + d + 1].fLo := by
        intro d
        induction d with
        | zero =>
          intro i h1
          have := (v (i + 1) h1).2 (by omega)
          rw [show i + 1 - 1 = i by omega, g i (by omega)] at this
          exact this
        | succ d ih =>
          intro i h1
          have a := ih i (by omega)
          have b := (v (i + d + 1) (by omega)).1
          have c := (v (i + (d + 1) + 1) h1).2 (by omega)
          rw [show i + (d + 1) + 1 - 1 = i + d + 1 by omega, g (i + d + 1) (by omega)] at c
          omega
      intro i j hi hj hij
      have := key (j - i - 1) i (by omega)
      simpa [show i + (j - i - 1) + 1 = j by omega] using this
    · obtain ⟨k, hk, rfl⟩ := List.getElem_of_mem hi
      exact (v k hk).1
theorem q_Valid {l : List TInterval} (hl : l.length ≤ 10000000000) (hu : ∀ t ∈ l, U32 t) : S.interval_Valid l = !anyN (adjN l) l.length := by
  unfold S.interval_Valid
  simp only [letS]
  have e : runN (S.interval_Valid_l1 l) (.inl () : Unit ⊕ Bool) 0 l.length = runN (fun k => bif adjN l k then some (.inr false) else none) (.inl ()) 0 l.length := runN_congr0 fun k hk => by
    unfold S.interval_Valid_l1 adjN
    have m : ∀ q, q < l.length → U32 (l.getD q default) := fun q hq => hu _ (by rw [List.getD_eq_getElem?_getD, List.getElem?_eq_getElem hq]; exact List.getElem_mem hq)
    have u := m k hk
    unfold U32 at u
    rw [wrU (n := (l.getD k default).fLo) (by omega) (by omega)]
    by_cases h0 : k = 0
    · subst h0; simp
    · have w : wr .i64 ((k : Int) - 1) = ((k - 1 : Nat) : Int) := by rw [wrN (by omega) (by omega)]; omega
      have u2 := m (k - 1) (by omega)
      unfold U32 at u2
      rw [w, Int.toNat_natCast, wrU (n := (l.getD (k - 1) default).fHi) (by omega) (by omega), wrU (n := (l.getD (k - 1) default).fHi + 2) (by omega) (by omega)]
  rw [e, runN_any]
  cases anyN (adjN l) l.length <;> rfl
theorem valid_iff {l : List TInterval} (hl : l.length ≤ 10000000000) (hu : ∀ t ∈ l, U32 t) : S.interval_Valid l = true ↔ Can l := by
  rw [q_Valid hl hu, Bool.not_eq_true', anyN_false, can_adj]
end Nv
