/- What the check of a router says of its redistributions. No condition. -/
import Derived.Test.YtghjgndlgliieaaNvX1
set_option maxRecDepth 100000
namespace Nv
open Go
theorem cond_or {α : Type} {b : Bool} {x y : α} {k : Option α} (h : (bif b then some x else k) = some y) : (b = true ∧ x = y) ∨ (b = false ∧ k = some y) := by cases b <;> simp_all
theorem cond_non {α : Type} {b : Bool} {x : α} {k : Option α} (h : (bif b then some x else k) = none) : b = false ∧ k = none := by cases b <;> simp_all
theorem cond_z {b : Bool} {x k : Int} (hx : x ≠ 0) (h : (bif b then x else k) = 0) : b = false ∧ k = 0 := by cases b <;> simp_all
theorem nz {x k : Int} (h : (bif x != 0 then x else k) = 0) : x = 0 ∧ k = 0 := by
  by_cases e : x = 0
  · subst e; exact ⟨rfl, h⟩
  · rw [show (x != 0) = true by simpa using e] at h; exact absurd h e
theorem run_z {g : Nat → Option (Unit ⊕ Int)} {n : Nat} {k : Int} (h0 : ∀ i y, g i = some y → ∃ e, y = .inr e ∧ e ≠ 0) (h : Sum.elim (fun _ => k) (fun y => y) (runN g (.inl ()) 0 n) = 0) : (∀ i, i < n → g i = none) ∧ k = 0 := by
  rcases runN_cases g (.inl ()) n 0 with ⟨j, _, _, h1, _⟩ | ⟨h1, h2⟩
  · obtain ⟨e, h3, h4⟩ := h0 j _ h1
    rw [h3] at h
    exact absurd h h4
  · rw [h1] at h
    exact ⟨fun i hi => h2 i (Nat.zero_le _) (by omega), h⟩
theorem el_some {g : Nat → Option (Unit ⊕ Int)} {n : Nat} {y : Unit ⊕ Int} (h0 : ∀ i y, g i = some y → ∃ e, y = .inr e ∧ e ≠ 0) (h : (Sum.elim (fun _ => none) (fun y11 => some (.inr y11)) (runN g (.inl ()) 0 n) : Option (Unit ⊕ Int)) = some y) : ∃ e, y = .inr e ∧ e ≠ 0 := by
  rcases runN_cases g (.inl ()) n 0 with ⟨j, _, _, h1, _⟩ | ⟨h1, _⟩
  · obtain ⟨e, h3, h4⟩ := h0 j _ h1
    rw [h3] at h
    exact ⟨e, (Option.some.inj h).symm, h4⟩
  · rw [h1] at h; cases h
theorem el_none {g : Nat → Option (Unit ⊕ Int)} {n : Nat} (h0 : ∀ i y, g i = some y → ∃ e, y = .inr e ∧ e ≠ 0) (h : (Sum.elim (fun _ => none) (fun y11 => some (.inr y11)) (runN g (.inl ()) 0 n) : Option (Unit ⊕ Int)) = none) : ∀ i, i < n → g i = none := by
  rcases runN_cases g (.inl ()) n 0 with ⟨j, _, _, h1, _⟩ | ⟨_, h2⟩
  · obtain ⟨e, h3, _⟩ := h0 j _ h1
    rw [h3] at h; cases h
  · exact fun i hi => h2 i (Nat.zero_le _) (by omega)
theorem red_l2_val (l : List TRedist) (i k : Nat) (y : Unit ⊕ Int) (h : S.ref8_redistributions_l2 l i k = some y) : ∃ e, y = .inr e ∧ e ≠ 0 := by
  unfold S.ref8_redistributions_l2 at h
  rcases cond_or h with ⟨_, rfl⟩ | ⟨_, h⟩
  · exact ⟨4, rfl, by decide⟩
  · cases h
theorem red_l1_val (r : TRouter) (l : List TRedist) (a b c : Int) (i : Nat) (y : Unit ⊕ Int) (h : S.ref8_redistributions_l1 r l a b c i = some y) : ∃ e, y = .inr e ∧ e ≠ 0 := by
  unfold S.ref8_redistributions_l1 at h
  simp only [letS] at h
  rcases cond_or h with ⟨_, rfl⟩ | ⟨_, h⟩
  · exact ⟨1, rfl, by decide⟩
  rcases cond_or h with ⟨_, rfl⟩ | ⟨_, h⟩
  · exact ⟨1, rfl, by decide⟩
  rcases cond_or h with ⟨_, rfl⟩ | ⟨_, h⟩
  · exact ⟨5, rfl, by decide⟩
  exact el_some (red_l2_val l i) h
theorem red_ok {r : TRouter} {l : List TRedist} {a b c : Int} (h : S.ref8_redistributions r l a b c = 0) : l.length ≤ 4 ∧ ∀ i, i < l.length → S.ref8_redistributions_l1 r l a b c i = none := by
  unfold S.ref8_redistributions at h
  simp only [letS] at h
  obtain ⟨h1, h2⟩ := cond_z (by decide) h
  rw [decide_eq_false_iff_not] at h1
  exact ⟨by omega, (run_z (red_l1_val r l a b c) h2).1⟩
theorem ls_l2_val (r : TRouter) (i k : Nat) (y : Unit ⊕ Int) (h : S.ref8_linkState_l2 r i k = some y) : ∃ e, y = .inr e ∧ e ≠ 0 := by
  unfold S.ref8_linkState_l2 at h
  simp only [letS] at h
  rcases cond_or h with ⟨_, rfl⟩ | ⟨_, h⟩
  · exact ⟨6, rfl, by decide⟩
  · cases h
theorem ls_l1_val (r : TRouter) (i : Nat) (y : Unit ⊕ Int) (h : S.ref8_linkState_l1 r i = some y) : ∃ e, y = .inr e ∧ e ≠ 0 := by
  unfold S.ref8_linkState_l1 at h
  simp only [letS] at h
  rcases cond_or h with ⟨_, rfl⟩ | ⟨_, h⟩
  · exact ⟨1, rfl, by decide⟩
  exact el_some (ls_l2_val r i) h
theorem check_parts {r : TRouter} (h : S.ref8_CheckRouter r = 0) : S.ref8_routeMaps r = 0 ∧ S.ref8_linkState r = 0 ∧ S.ref8_distance r = 0 ∧ S.ref8_pathVector r = 0 := by
  unfold S.ref8_CheckRouter at h
  simp only [letS] at h
  have h2 := (run_z (fun i y hy => by
    unfold S.ref8_CheckRouter_l1 at hy
    rcases cond_or hy with ⟨h1, rfl⟩ | ⟨_, h1⟩
    · exact ⟨_, rfl, by simpa using h1⟩
    · cases h1) (cond_z (by decide) (cond_z (by decide) h).2).2).1
  have g : ∀ i, i < 10 → _ := fun i hi => (by have := h2 i hi; unfold S.ref8_CheckRouter_l1 at this; exact (cond_non this).1)
  refine ⟨?_, ?_, ?_, ?_⟩
  · simpa using g 2 (by decide)
  · simpa using g 7 (by decide)
  · simpa using g 8 (by decide)
  · simpa using g 9 (by decide)
def RedOk (r : TRouter) (l : List TRedist) (a b c : Int) : Prop := l = [] ∨ S.ref8_redistributions r l a b c = 0
theorem ls_red {r : TRouter} (h : S.ref8_linkState r = 0) : RedOk r r.fLS.fRedist 3 0 16777215 := by
  unfold S.ref8_linkState at h
  simp only [letS] at h
  cases ho : !r.fLS.fOn with
  | true =>
    rw [ho] at h
    simp only [cond_true] at h
    have h1 := (cond_z (by decide) h).1
    simp only [Bool.or_eq_false_iff, decide_eq_false_iff_not] at h1
    exact .inl (List.eq_nil_of_length_eq_zero (by omega))
  | false =>
    rw [ho] at h
    simp only [cond_false] at h
    exact .inr (run_z (ls_l1_val r) (cond_z (by decide) (cond_z (by decide) h).2).2).2
theorem dv_red {r : TRouter} (h : S.ref8_distance r = 0) : RedOk r r.fDV.fRedist 4 1 15 := by
  unfold S.ref8_distance at h
  simp only [letS] at h
  cases ho : !r.fDV.fOn with
  | true =>
    rw [ho] at h
    simp only [cond_true] at h
    have h1 := (cond_z (by decide) h).1
    simp only [Bool.or_eq_false_iff, decide_eq_false_iff_not] at h1
    exact .inl (List.eq_nil_of_length_eq_zero (by omega))
  | false =>
    rw [ho] at h
    simp only [cond_false] at h
    exact .inr (cond_z (by decide) (cond_z (by decide) h).2).2
theorem pv_red {r : TRouter} (hs : r.fPV.fNeighbors.length ≤ 100 ∧ r.fPV.fNetworks.length ≤ 100 ∧ r.fPV.fAggregates.length ≤ 100 ∧ r.fPV.fConditions.length ≤ 100 ∧ r.fPV.fRedist.length ≤ 100) (h : S.ref8_pathVector r = 0) : RedOk r r.fPV.fRedist 5 0 16777215 := by
  unfold S.ref8_pathVector at h
  simp only [letS] at h
  cases ho : !r.fPV.fOn with
  | true =>
    rw [ho] at h
    simp only [cond_true] at h
    have h1 := (cond_z (by decide) h).1
    rw [wrN (n := (r.fPV.fNeighbors.length : Int) + (r.fPV.fNetworks.length : Int)) (by omega) (by omega), wrN (n := (r.fPV.fNeighbors.length : Int) + (r.fPV.fNetworks.length : Int) + (r.fPV.fAggregates.length : Int)) (by omega) (by omega), wrN (n := (r.fPV.fNeighbors.length : Int) + (r.fPV.fNetworks.length : Int) + (r.fPV.fAggregates.length : Int) + (r.fPV.fConditions.length : Int)) (by omega) (by omega), wrN (by omega) (by omega)] at h1
    simp only [Bool.or_eq_false_iff, decide_eq_false_iff_not] at h1
    exact .inl (List.eq_nil_of_length_eq_zero (by omega))
  | false =>
    rw [ho] at h
    simp only [cond_false] at h
    exact .inr (nz (nz (cond_z (by decide) h).2).2).2
theorem and3 (a : Int) : 0 ≤ bitD .and .i64 a 3 ∧ bitD .and .i64 a 3 < 4 := by
  have h : (BitVec.ofInt 64 a &&& BitVec.ofInt 64 3).toNat ≤ 3 := by
    rw [BitVec.toNat_and]; exact Nat.and_le_right
  have e : bitD .and .i64 a 3 = wr .i64 (((BitVec.ofInt 64 a &&& BitVec.ofInt 64 3).toNat : Nat) : Int) := rfl
  rw [e, wrN (by omega) (by omega)]
  omega
end Nv
