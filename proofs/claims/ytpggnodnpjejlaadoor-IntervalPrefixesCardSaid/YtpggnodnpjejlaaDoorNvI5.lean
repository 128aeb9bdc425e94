/- The prefixes of an interval, the largest first from below. No condition. -/
import Derived.Test.YtpggnodnpjejlaaDoorNvI2
import Derived.Test.YtpggnodnpjejlaaDoorNvLibC
namespace Nv
open Go Go.Proofs
def kfit (lo e : Nat) : Nat → Nat
  | 0 => 0
  | k + 1 => if lo + 2 ^ (k + 1) > e then kfit lo e k else k + 1
def kz (lo : Nat) : Nat := if lo > 0 then Lib.ctz 64 lo else 32
def kof (lo e : Nat) : Nat := kfit lo e (kz lo)
theorem kfit_le (lo e : Nat) : ∀ k, kfit lo e k ≤ k
  | 0 => Nat.le_refl _
  | k + 1 => by
    unfold kfit
    split
    · have := kfit_le lo e k; omega
    · exact Nat.le_refl _
theorem kfit_fits {lo e : Nat} (h : lo < e) : ∀ k, lo + 2 ^ kfit lo e k ≤ e
  | 0 => by unfold kfit; omega
  | k + 1 => by
    unfold kfit
    split
    · exact kfit_fits h k
    · omega
theorem kfit_max {lo e : Nat} : ∀ k j, j ≤ k → lo + 2 ^ j ≤ e → j ≤ kfit lo e k
  | 0, j, h, _ => by omega
  | k + 1, j, h, h2 => by
    unfold kfit
    split
    · rename_i h3
      refine kfit_max k j ?_ h2
      rcases Nat.lt_or_ge j (k + 1) with h4 | h4
      · omega
      · obtain rfl : j = k + 1 := by omega
        omega
    · exact h
theorem ctz_ok {x : Nat} (h0 : 0 < x) (h : x < 4294967296) : 2 ^ Lib.ctz 64 x ∣ x ∧ Lib.ctz 64 x ≤ 32 ∧ ∀ j, 2 ^ j ∣ x → j ≤ Lib.ctz 64 x := by
  obtain ⟨m, hm, _⟩ := Lib.ctzFrom_spec 64 x h0 (Nat.lt_trans h (by decide))
  have e : Lib.ctz 64 x = Lib.ctzFrom 64 x := by simp [Lib.ctz, Nat.ne_of_gt h0]
  rw [e]
  refine ⟨⟨_, hm⟩, ?_, fun j hj => ?_⟩
  · refine Nat.le_of_lt_succ (Classical.byContradiction fun hn => ?_)
    have h1 : 2 ^ 33 ≤ 2 ^ Lib.ctzFrom 64 x := Nat.pow_le_pow_right (by decide) (by omega)
    have h2 : 2 ^ Lib.ctzFrom 64 x * 1 ≤ 2 ^ Lib.ctzFrom 64 x * (2 * m + 1) := Nat.mul_le_mul_left _ (by omega)
    rw [← hm] at h2
    omega
  · refine Classical.byContradiction fun hn => ?_
    have h1 : 2 ^ (Lib.ctzFrom 64 x + 1) ∣ x := Nat.dvd_trans (Nat.pow_dvd_pow 2 (by omega)) hj
    generalize Lib.ctzFrom 64 x = k at *
    obtain ⟨q, hq⟩ := h1
    rw [hm, Nat.pow_succ, Nat.mul_assoc] at hq
    have := Nat.eq_of_mul_eq_mul_left (Nat.two_pow_pos k) hq
    omega
theorem kz_ok {lo : Nat} (h : lo < 4294967296) : 2 ^ kz lo ∣ lo ∧ kz lo ≤ 32 ∧ ∀ j, j ≤ 32 → 2 ^ j ∣ lo → j ≤ kz lo := by
  unfold kz
  split
  · rename_i h0
    obtain ⟨a, b, c⟩ := ctz_ok h0 h
    exact ⟨a, b, fun j _ => c j⟩
  · obtain rfl : lo = 0 := by omega
    exact ⟨Nat.dvd_zero _, Nat.le_refl _, fun j h _ => h⟩
theorem kof_dvd {lo e : Nat} (h : lo < 4294967296) : 2 ^ kof lo e ∣ lo := Nat.dvd_trans (Nat.pow_dvd_pow 2 (kfit_le lo e _)) (kz_ok h).1
theorem kof_le {lo : Nat} (e : Nat) (h : lo < 4294967296) : kof lo e ≤ 32 := Nat.le_trans (kfit_le lo e _) (kz_ok h).2.1
theorem kof_fits {lo e : Nat} (h : lo < e) : lo + 2 ^ kof lo e ≤ e := kfit_fits h _
theorem kof_max {lo e j : Nat} (h : lo < 4294967296) (he : e ≤ 4294967296) (h1 : 2 ^ j ∣ lo) (h2 : lo + 2 ^ j ≤ e) : j ≤ kof lo e := by
  refine kfit_max _ _ ((kz_ok h).2.2 j ?_ h1) h2
  refine Classical.byContradiction fun hn => ?_
  have : 2 ^ 33 ≤ 2 ^ j := Nat.pow_le_pow_right (by decide) (by omega)
  omega
noncomputable def gp (lo e : Nat) : List TPrefix :=
  if lo < e then (⟨(lo : Int), 32 - (kof lo e : Int)⟩ : TPrefix) :: gp (lo + 2 ^ kof lo e) e else []
termination_by e - lo
decreasing_by have := Nat.two_pow_pos (kof lo e); omega
theorem gp_nil {lo e : Nat} (h : ¬ lo < e) : gp lo e = [] := by rw [gp]; simp [h]
theorem gp_cons {lo e : Nat} (h : lo < e) : gp lo e = (⟨(lo : Int), 32 - (kof lo e : Int)⟩ : TPrefix) :: gp (lo + 2 ^ kof lo e) e := by rw [gp]; simp [h]
theorem gp_len (e : Nat) : ∀ (d lo : Nat), e - lo ≤ d → (gp lo e).length ≤ e - lo
  | 0, lo, h => by rw [gp_nil (by omega)]; exact Nat.zero_le _
  | d + 1, lo, h => by
    by_cases hl : lo < e
    · rw [gp_cons hl, List.length_cons]
      have := Nat.two_pow_pos (kof lo e)
      have := kof_fits hl
      have := gp_len e d (lo + 2 ^ kof lo e) (by omega)
      omega
    · rw [gp_nil hl]; exact Nat.zero_le _
noncomputable def gpi (t : TInterval) : List TPrefix := gp t.fLo.toNat (t.fHi.toNat + 1)
noncomputable def gps (l : List TInterval) : List TPrefix := l.flatMap gpi
theorem p_shl {k : Nat} (hk : k ≤ 32) : wr .u64 (1 * 2 ^ min ((k : Int)).toNat 64) = ((2 ^ k : Nat) : Int) := by
  have := pow_le32 hk
  have := Nat.two_pow_pos k
  rw [Int.toNat_natCast, show min k 64 = k by omega, Int.one_mul, show ((2 : Int) ^ k) = ((2 ^ k : Nat) : Int) by simp]
  exact wrU64 (by omega) (by omega)
theorem p_l3 {r : List TInterval} {p2 : List TPrefix × Int} {acc : List TPrefix} {lo : Nat} {t : TInterval} (ht : r.getD p2.2.toNat default = t) (hlo : lo < 4294967296) (hu : U32 t) (hlt : lo < t.fHi.toNat + 1) :
    ∀ k : Nat, k ≤ 32 → Iter (M.interval_Prefixes_l3 r p2 (acc, (lo : Int))) (k : Int) ((kfit lo (t.fHi.toNat + 1) k : Nat) : Int) := by
  unfold U32 at hu
  have w1 : wr .u64 t.fHi = t.fHi := wrU64 (by omega) (by omega)
  have w2 : wr .u64 (t.fHi + 1) = t.fHi + 1 := wrU64 (by omega) (by omega)
  have st : ∀ k : Nat, k ≤ 32 → M.interval_Prefixes_l3 r p2 (acc, (lo : Int)) (k : Int) = bif decide (lo + 2 ^ k > t.fHi.toNat + 1) then some (.inl (wr .i64 ((k : Int) - 1))) else some (.inr (k : Int)) := by
    intro k hk
    have := pow_le32 hk
    have := Nat.two_pow_pos k
    unfold M.interval_Prefixes_l3
    rw [gdT (by simp), p_shl hk]
    simp only [ht, w1, w2]
    rw [wrU64 (n := (lo : Int) + ((2 ^ k : Nat) : Int)) (by omega) (by omega)]
    congr 1
    rw [decide_eq_decide]
    omega
  intro k
  induction k with
  | zero =>
    intro _
    refine .out ?_
    rw [st 0 (by omega), show decide (lo + 2 ^ 0 > t.fHi.toNat + 1) = false by simp; omega]
    rfl
  | succ k ih =>
    intro hk
    unfold kfit
    by_cases h : lo + 2 ^ (k + 1) > t.fHi.toNat + 1
    · rw [if_pos h]
      refine .next (x' := (k : Int)) ?_ (ih (by omega))
      rw [st (k + 1) hk, show decide (lo + 2 ^ (k + 1) > t.fHi.toNat + 1) = true by simpa using h, cond_true, wrN (by omega) (by omega)]
      congr 2; omega
    · rw [if_neg h]
      refine .out ?_
      rw [st (k + 1) hk, show decide (lo + 2 ^ (k + 1) > t.fHi.toNat + 1) = false by simpa using h, cond_false]
theorem p_l2 {r : List TInterval} {p2 : List TPrefix × Int} {t : TInterval} (ht : r.getD p2.2.toNat default = t) (hu : U32 t) : ∀ (d lo : Nat) (acc : List TPrefix), t.fHi.toNat + 1 - lo ≤ d → acc.length ≤ lo → Iter (M.interval_Prefixes_l2 r p2) (acc, (lo : Int)) (acc ++ gp lo (t.fHi.toNat + 1)) := by
  unfold U32 at hu
  have w1 : wr .u64 t.fHi = t.fHi := wrU64 (by omega) (by omega)
  have w2 : wr .u64 (t.fHi + 1) = t.fHi + 1 := wrU64 (by omega) (by omega)
  intro d
  induction d with
  | zero =>
    intro lo acc h1 h2
    rw [gp_nil (by omega), List.append_nil]
    refine .out ?_
    unfold M.interval_Prefixes_l2
    simp only [ht, w1, w2]
    rw [show decide ((lo : Int) < t.fHi + 1) = false by simp; omega]
    rfl
  | succ d ih =>
    intro lo acc h1 h2
    by_cases hl : lo < t.fHi.toNat + 1
    · have hlo : lo < 4294967296 := by omega
      have hp := Nat.two_pow_pos (kof lo (t.fHi.toNat + 1))
      have hk := kof_le (t.fHi.toNat + 1) hlo
      have hp2 := pow_le32 hk
      have hfit := kof_fits hl
      have hz := (kz_ok hlo).2.1
      have h3 := p_l3 (r := r) (p2 := p2) (acc := acc) ht hlo hu hl (kz lo) hz
      rw [show kfit lo (t.fHi.toNat + 1) (kz lo) = kof lo (t.fHi.toNat + 1) from rfl] at h3
      rw [gp_cons hl, List.append_cons]
      refine .next (x' := (acc ++ [(⟨(lo : Int), 32 - (kof lo (t.fHi.toNat + 1) : Int)⟩ : TPrefix)], ((lo + 2 ^ kof lo (t.fHi.toNat + 1) : Nat) : Int))) ?_ (ih _ _ (by omega) (by simp; omega))
      have hk1 : M.interval_Prefixes_k1 r p2 (acc, (lo : Int)) (kz lo : Nat) = some (.inl (acc ++ [(⟨(lo : Int), 32 - (kof lo (t.fHi.toNat + 1) : Int)⟩ : TPrefix)], ((lo + 2 ^ kof lo (t.fHi.toNat + 1) : Nat) : Int))) := by
        unfold M.interval_Prefixes_k1
        rw [loopM_of h3, Option.bind_some]
        simp only
        rw [show decide ((acc.length + 1) * 16 ≤ 140737488355328) = true from decide_eq_true (by omega), gdT (by simp), gdT (by simp), p_shl hk, wr_u32 (by omega), wrN (n := 32 - ((kof lo (t.fHi.toNat + 1) : Nat) : Int)) (by omega) (by omega), wrU64 (by omega) (by omega)]
        simp only [Int.natCast_add]
      unfold M.interval_Prefixes_l2
      simp only [ht, w1, w2]
      rw [show decide ((lo : Int) < t.fHi + 1) = true by simp; omega, cond_true]
      unfold kz at hk1
      by_cases h0 : lo > 0
      · rw [if_pos h0] at hk1
        rw [show decide ((lo : Int) > 0) = true by simp; omega, cond_true]
        unfold M.math_bits_TrailingZeros64
        rw [show decide (0 ≤ (lo : Int)) = true from decide_eq_true (by omega), show decide ((lo : Int) < 18446744073709551616) = true from decide_eq_true (by omega), gdT (by simp), Option.bind_some, Int.toNat_natCast, hk1]
      · rw [if_neg h0] at hk1
        rw [show decide ((lo : Int) > 0) = false by simp; omega, cond_false]
        exact hk1
    · rw [gp_nil hl, List.append_nil]
      refine .out ?_
      unfold M.interval_Prefixes_l2
      simp only [ht, w1, w2]
      rw [show decide ((lo : Int) < t.fHi + 1) = false by simp; omega]
      rfl
theorem p_l1 {r : List TInterval} (hr : r.length ≤ 10000000000) (hu : ∀ t ∈ r, U32 t) (hv : ∀ t ∈ r, t.fLo ≤ t.fHi) (hp : r.Pairwise (fun i j => i.fHi + 1 < j.fLo)) : ∀ (k i : Nat) (acc : List TPrefix), i + k = r.length → (∀ t ∈ r.drop i, acc.length ≤ t.fLo.toNat) → Iter (M.interval_Prefixes_l1 r) (acc, (i : Int)) (acc ++ gps (r.drop i)) := by
  intro k
  induction k with
  | zero =>
    intro i acc h1 h2
    rw [List.drop_eq_nil_of_le (by omega), show gps [] = [] from rfl, List.append_nil]
    refine .out ?_
    unfold M.interval_Prefixes_l1
    rw [show decide ((i : Int) < (r.length : Int)) = false by simp; omega]; rfl
  | succ k ih =>
    intro i acc h1 h2
    have hi : i < r.length := by omega
    have hup : wr .i64 ((i : Int) + 1) = ((i + 1 : Nat) : Int) := by rw [wrN (by omega) (by omega)]; omega
    have hd : r.drop i = r.getD i default :: r.drop (i + 1) := by rw [List.drop_eq_getElem_cons hi]; simp [hi]
    have hm := igetD_mem hi
    have u := hu _ hm
    have u' := u
    have v := hv _ hm
    unfold U32 at u
    have hp2 : ∀ t ∈ r.drop (i + 1), (r.getD i default).fHi + 1 < t.fLo := by
      have := hp.sublist (List.drop_sublist i r)
      rw [hd, List.pairwise_cons] at this
      exact this.1
    rw [hd] at h2
    have ha := h2 _ List.mem_cons_self
    rw [hd, show gps (r.getD i default :: r.drop (i + 1)) = gpi (r.getD i default) ++ gps (r.drop (i + 1)) from rfl, ← List.append_assoc]
    have hl2 := p_l2 (r := r) (p2 := (acc, (i : Int))) (t := r.getD i default) (by simp) u' _ (r.getD i default).fLo.toNat acc (Nat.le_refl _) ha
    refine .next (x' := (acc ++ gpi (r.getD i default), ((i + 1 : Nat) : Int))) ?_ (ih (i + 1) _ (by omega) fun t ht => ?_)
    · unfold M.interval_Prefixes_l1
      simp only [Int.toNat_natCast, hup]
      rw [show decide ((i : Int) < (r.length : Int)) = true by simp; omega, cond_true, gdT (by simp <;> omega), wrU64 (by omega) (by omega), show (r.getD i default).fLo = (((r.getD i default).fLo.toNat : Nat) : Int) by omega, loopM_of hl2, Option.bind_some]
      rfl
    · have := hp2 t ht
      have := gp_len ((r.getD i default).fHi.toNat + 1) _ (r.getD i default).fLo.toNat (Nat.le_refl _)
      rw [List.length_append]
      unfold gpi
      omega
theorem pre_eq {l : List TInterval} (hl : l.length ≤ 10000000000) (hu : ∀ t ∈ l, U32 t) : M.interval_Prefixes l = some (gps (nrm l)) := by
  have hN := nrm_ok l
  have h1 := p_l1 (r := nrm l) (by have := nrm_len l; omega) (nrm_u32 hu) hN.1.2 hN.1.1 _ 0 [] (Nat.zero_add _) (fun t _ => Nat.zero_le _)
  unfold M.interval_Prefixes
  rw [norm_eq hl hu, Option.bind_some, show ((0 : Int)) = ((0 : Nat) : Int) from rfl, loopM_of h1, Option.bind_some, List.nil_append, List.drop_zero]
end Nv
