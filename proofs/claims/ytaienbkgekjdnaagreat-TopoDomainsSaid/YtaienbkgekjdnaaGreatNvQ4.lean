/- What the program's check of a network tells where it finds nothing. -/
import Derived.Test.YtaienbkgekjdnaaGreatNvT1
import Derived.Test.YtaienbkgekjdnaaGreatNvLibB
namespace Nv
open Go
theorem chk_none {g : Nat → Option (Unit ⊕ Int)} {n : Nat} (h0 : ∀ i y, g i = some y → ∃ e, y = .inr e ∧ e ≠ 0) (h : Sum.elim (fun _ => (0 : Int)) (fun y => y) (runN g (.inl ()) 0 n) = 0) : ∀ i, i < n → g i = none := by
  rcases runN_cases g (.inl ()) n 0 with ⟨j, h1, h2, h3, h4⟩ | ⟨h1, h2⟩
  · obtain ⟨e, he, hne⟩ := h0 _ _ h3
    rw [he] at h
    exact absurd h hne
  · exact fun i hi => h2 i (Nat.zero_le _) (by omega)
theorem Check_l2_val (a : TNetwork) (i k : Nat) (y : Unit ⊕ Int) (h : S.model_Check_l2 a i k = some y) : y = .inr 4 := by
  unfold S.model_Check_l2 at h
  simp only [letS] at h
  revert h
  generalize (_ || _ : Bool) = b
  cases b
  · intro h; cases h
  · intro h; simp only [cond_true, Option.some.injEq] at h; exact h.symm
theorem Check_l1_val (a : TNetwork) (i : Nat) (y : Unit ⊕ Int) (h : S.model_Check_l1 a i = some y) : ∃ e, y = .inr e ∧ e ≠ 0 := by
  unfold S.model_Check_l1 at h
  simp only [letS] at h
  cases hb : S.model_CheckRouter (a.fRouters.getD i default) != 0 with
  | true =>
    rw [hb] at h
    simp only [cond_true, Option.some.injEq] at h
    exact ⟨_, h.symm, by simpa using hb⟩
  | false =>
    rw [hb] at h
    simp only [cond_false] at h
    rcases runN_cases (S.model_Check_l2 a i) (.inl ()) i 0 with ⟨k, k1, k2, k3, k4⟩ | ⟨k1, k2⟩
    · rw [Check_l2_val a i k _ k3] at h
      simp only [Sum.elim_inr, Option.some.injEq] at h
      exact ⟨4, h.symm, by decide⟩
    · rw [k1] at h; cases h
theorem check_rounds {a : TNetwork} (h : S.model_Check a = 0) : ∀ i, i < a.fRouters.length → S.model_Check_l1 a i = none := by
  unfold S.model_Check at h
  cases hc : decide ((a.fRouters.length : Int) > 8) with
  | true => rw [hc] at h; cases h
  | false =>
    rw [hc] at h
    simp only [cond_false, letS] at h
    exact chk_none (Check_l1_val a) h
theorem check_router {a : TNetwork} (h : S.model_Check a = 0) {i : Nat} (hi : i < a.fRouters.length) : S.model_CheckRouter (a.fRouters.getD i default) = 0 := by
  have h3 := check_rounds h i hi
  unfold S.model_Check_l1 at h3
  simp only [letS] at h3
  cases hb : S.model_CheckRouter (a.fRouters.getD i default) != 0 with
  | true => rw [hb] at h3; cases h3
  | false => simpa using hb
theorem check_ifs {r : TRouter} (h : S.model_CheckRouter r = 0) : S.model_checkInterfaces r = 0 := by
  unfold S.model_CheckRouter at h
  simp only [letS] at h
  cases h1 : S.scan_Name r.fName with
  | false => rw [h1] at h; cases h
  | true =>
    cases h2 : S.model_within r.fAS 0 65535 with
    | false => rw [h1, h2] at h; cases h
    | true =>
      rw [h1, h2] at h
      simp only [Bool.not_true, cond_false] at h
      cases hb : S.model_checkInterfaces r != 0 with
      | true => rw [hb] at h; exact h
      | false => simpa using hb
theorem ifs_l2_val (r : TRouter) (i k : Nat) (y : Unit ⊕ Int) (h : S.model_checkInterfaces_l2 r i k = some y) : y = .inr 6 := by
  unfold S.model_checkInterfaces_l2 at h
  simp only [letS] at h
  revert h
  generalize (_ && _ : Bool) = b
  cases b
  · intro h; cases h
  · intro h; simp only [cond_true, Option.some.injEq] at h; exact h.symm
theorem ifs_l1_val (r : TRouter) (i : Nat) (y : Unit ⊕ Int) (h : S.model_checkInterfaces_l1 r i = some y) : ∃ e, y = .inr e ∧ e ≠ 0 := by
  unfold S.model_checkInterfaces_l1 at h
  simp only [letS] at h
  revert h
  cases S.scan_Name (r.fInterfaces.getD i default).fName with
  | false => intro h; cases h; exact ⟨3, rfl, by decide⟩
  | true =>
    cases decide (S.model_Interface r (r.fInterfaces.getD i default).fName < (i : Int)) with
    | true => intro h; cases h; exact ⟨4, rfl, by decide⟩
    | false =>
      cases S.model_rightInterface (r.fInterfaces.getD i default) with
      | false => intro h; cases h; exact ⟨1, rfl, by decide⟩
      | true =>
        simp only [Bool.not_true, cond_false]
        rcases runN_cases (S.model_checkInterfaces_l2 r i) (.inl ()) i 0 with ⟨k, k1, k2, k3, k4⟩ | ⟨k1, k2⟩
        · rw [ifs_l2_val r i k _ k3]
          intro h; cases h; exact ⟨6, rfl, by decide⟩
        · rw [k1]; intro h; cases h
theorem ifs_rounds {r : TRouter} (h : S.model_checkInterfaces r = 0) : ∀ i, i < r.fInterfaces.length → S.model_checkInterfaces_l1 r i = none := by
  unfold S.model_checkInterfaces at h
  cases hc : decide ((r.fInterfaces.length : Int) > 8) with
  | true => rw [hc] at h; cases h
  | false =>
    rw [hc] at h
    simp only [cond_false, letS] at h
    exact chk_none (ifs_l1_val r) h
theorem ifs_apart {r : TRouter} (h : S.model_CheckRouter r = 0) {i k : Nat} (hi : i < r.fInterfaces.length) (hk : k < i) (h1 : (r.fInterfaces.getD i default).fLen ≠ 0) (h2 : (r.fInterfaces.getD k default).fLen ≠ 0) :
    S.addr_Overlaps (S.addr_Network (r.fInterfaces.getD i default).fAddr (r.fInterfaces.getD i default).fLen) (S.addr_Network (r.fInterfaces.getD k default).fAddr (r.fInterfaces.getD k default).fLen) = false := by
  have h3 := ifs_rounds (check_ifs h) i hi
  unfold S.model_checkInterfaces_l1 at h3
  simp only [letS] at h3
  revert h3
  cases S.scan_Name (r.fInterfaces.getD i default).fName with
  | false => intro h; cases h
  | true =>
    cases decide (S.model_Interface r (r.fInterfaces.getD i default).fName < (i : Int)) with
    | true => intro h; cases h
    | false =>
      cases S.model_rightInterface (r.fInterfaces.getD i default) with
      | false => intro h; cases h
      | true =>
        simp only [Bool.not_true, cond_false]
        rcases runN_cases (S.model_checkInterfaces_l2 r i) (.inl ()) i 0 with ⟨j, k1, k2, k3, k4⟩ | ⟨k1, k2⟩
        · rw [ifs_l2_val r i j _ k3]
          intro h; cases h
        · intro _
          have h4 := k2 k (Nat.zero_le _) (by omega)
          unfold S.model_checkInterfaces_l2 at h4
          have e1 : ((r.fInterfaces.getD i default).fLen != 0) = true := by simpa using h1
          have e2 : ((r.fInterfaces.getD k default).fLen != 0) = true := by simpa using h2
          simp only [letS, take_getD _ hk, e1, e2, Bool.and_self, cond_true, Bool.true_and] at h4
          cases ho : S.addr_Overlaps (S.addr_Network (r.fInterfaces.getD i default).fAddr (r.fInterfaces.getD i default).fLen) (S.addr_Network (r.fInterfaces.getD k default).fAddr (r.fInterfaces.getD k default).fLen) with
          | false => rfl
          | true => rw [ho] at h4; cases h4
theorem overlap_of {a m b n x : Int} (h1 : bitD .and .u32 x (mk32 m) = bitD .and .u32 a (mk32 m)) (h2 : bitD .and .u32 x (mk32 n) = bitD .and .u32 b (mk32 n)) :
    S.addr_Overlaps (S.addr_Network a m) (S.addr_Network b n) = true := by
  unfold S.addr_Overlaps S.addr_Covers S.addr_Contains S.addr_Network
  simp only [letS, S.addr_Mask, S.addr_clamp, mk32_cl]
  rcases Int.le_total (cl32 m) (cl32 n) with h | h
  · have e : bitD .and .u32 (bitD .and .u32 b (mk32 n)) (mk32 m) = bitD .and .u32 a (mk32 m) := by rw [← h2, and_mask_mask x h, h1]
    simp [h, e]
  · have e : bitD .and .u32 (bitD .and .u32 a (mk32 m)) (mk32 n) = bitD .and .u32 b (mk32 n) := by rw [← h1, and_mask_mask x h, h2]
    simp only [h, e]
    generalize decide (cl32 m ≤ cl32 n) = c
    generalize ((bitD .and .u32 (bitD .and .u32 b (mk32 n)) (mk32 m)) == _) = d
    cases c <;> cases d <;> simp
end Nv
