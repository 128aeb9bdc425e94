/- The plain law of IntervalOf: the list of a valid prefix, and the prefix found again. -/
import Derived.Test.YtpggnodnpjejlaaDoorNvI4
import Derived.Test.YtpggnodnpjejlaaDoorNvI5
import Derived.Test.YtpggnodnpjejlaaDoorNvI6
import Derived.Test.YtpggnodnpjejlaaDoorNvS1
import Derived.Test.YtpggnodnpjejlaaDoorNvV1
namespace Nv
open Go
theorem gps_one {p : TPrefix} {k : Nat} (ha : 0 ≤ p.fAddr ∧ p.fAddr < 4294967296) (hk : k ≤ 32) (h : p.fLen = 32 - (k : Int)) (hd : 2 ^ k ∣ p.fAddr.toNat) (hb : p.fAddr + (2 ^ k : Nat) ≤ 4294967296) : gps [(⟨p.fAddr, p.fAddr + (2 ^ k : Nat) - 1⟩ : TInterval)] = [p] := by
  have hp := Nat.two_pow_pos k
  show gp p.fAddr.toNat ((p.fAddr + (2 ^ k : Nat) - 1).toNat + 1) ++ [] = _
  have e : (p.fAddr + (2 ^ k : Nat) - 1).toNat + 1 = p.fAddr.toNat + 2 ^ k := by omega
  rw [e, List.append_nil, gp_cons (by omega)]
  have hkk : kof p.fAddr.toNat (p.fAddr.toNat + 2 ^ k) = k := by
    have h1 := kof_max (j := k) (lo := p.fAddr.toNat) (e := p.fAddr.toNat + 2 ^ k) (by omega) (by omega) hd (Nat.le_refl _)
    have h2 := kof_fits (lo := p.fAddr.toNat) (e := p.fAddr.toNat + 2 ^ k) (by omega)
    refine Nat.le_antisymm (Classical.byContradiction fun hn => ?_) h1
    have h3 : 2 ^ (k + 1) ≤ 2 ^ kof p.fAddr.toNat (p.fAddr.toNat + 2 ^ k) := Nat.pow_le_pow_right (by decide) (by omega)
    rw [Nat.pow_succ] at h3
    omega
  rw [hkk, gp_nil (by omega)]
  cases p with
  | mk a n =>
    simp only at h ha ⊢
    congr 2 <;> omega
theorem plain_IntervalOf (a0 : TPrefix) (a1 : Int) (w0 : W_TPrefix a0) (w1 : (Lit.int .u32 a1).wf = true) : M.law3_IntervalOf a0 a1 = some true := by
  have ha := wf_u32 w0.1
  have hx := wf_u32 w1
  unfold M.law3_IntervalOf
  rw [s_ref4_Valid, Option.bind_some]
  cases hv : S.ref4_Valid a0 with
  | false => rfl
  | true =>
    unfold S.ref4_Valid at hv
    simp only [letS, Bool.and_eq_true, decide_eq_true_eq, beq_iff_eq] at hv
    obtain ⟨⟨v1, v2⟩, v3⟩ := hv
    rw [show decide (a0.fLen ≥ 0) = true by simpa using v1, show decide (a0.fLen ≤ 32) = true by simpa using v2] at v3
    simp only [Bool.and_self, cond_true, S.ref4_Mask] at v3
    obtain ⟨k, hk, hn⟩ : ∃ k : Nat, k ≤ 32 ∧ a0.fLen = 32 - (k : Int) := ⟨(32 - a0.fLen).toNat, by omega, by omega⟩
    rw [andNot_mk ha hk hn] at v3
    have hd : 2 ^ k ∣ a0.fAddr.toNat := Nat.dvd_of_mod_eq_zero (by omega)
    have hp := Nat.two_pow_pos k
    have hb : a0.fAddr + (2 ^ k : Nat) ≤ 4294967296 := by
      obtain ⟨m, hm⟩ := hd
      have e : (4294967296 : Nat) = 2 ^ k * 2 ^ (32 - k) := by rw [← Nat.pow_add, Nat.add_sub_cancel' hk]
      have h1 : 2 ^ k * m < 2 ^ k * 2 ^ (32 - k) := by omega
      have h2 := Nat.lt_of_mul_lt_mul_left h1
      have h3 : 2 ^ k * (m + 1) ≤ 2 ^ k * 2 ^ (32 - k) := Nat.mul_le_mul_left _ h2
      rw [Nat.mul_add, Nat.mul_one] at h3
      omega
    simp only [Bool.not_true, cond_false]
    have eO : S.interval_Of a0 = [(⟨a0.fAddr, a0.fAddr + (2 ^ k : Nat) - 1⟩ : TInterval)] := by
      unfold S.interval_Of S.addr_Last
      simp only [letS, S.addr_Mask]
      rw [or_mk ha hk hn hd]
    rw [s_interval_Of, Option.bind_some, eO]
    have hu : ∀ t ∈ [(⟨a0.fAddr, a0.fAddr + (2 ^ k : Nat) - 1⟩ : TInterval)], U32 t := fun t ht => by
      rw [List.mem_singleton] at ht; subst ht; unfold U32; simp only; omega
    have hC : Can [(⟨a0.fAddr, a0.fAddr + (2 ^ k : Nat) - 1⟩ : TInterval)] := can_cons.2 ⟨(by simp only; omega), (fun j hj => by cases hj), can_nil⟩
    have hN : nrm [(⟨a0.fAddr, a0.fAddr + (2 ^ k : Nat) - 1⟩ : TInterval)] = [(⟨a0.fAddr, a0.fAddr + (2 ^ k : Nat) - 1⟩ : TInterval)] := (nrm_ok _).uniq ⟨hC, fun x => Iff.rfl⟩
    rw [pre_eq (by simp) hu, hN, gps_one ha hk hn hd hb, Option.bind_some, s_interval_Valid _ (by rw [maxLen_eq]; simp), (valid_iff (by simp) hu).2 hC, Option.bind_some]
    simp only [gc, cond_true]
    rw [s_interval_Has _ a1 (by rw [maxLen_eq]; simp), s_ref4_Contains, Option.bind_some, Option.bind_some, q_Has]
    have hc : hasB [(⟨a0.fAddr, a0.fAddr + (2 ^ k : Nat) - 1⟩ : TInterval)] a1 = S.ref4_Contains a0 a1 := by
      unfold S.ref4_Contains
      simp only [letS, S.ref4_Mask]
      rw [and_mk hx hk hn, Bool.eq_iff_iff, hasB_iff, imem_one, beq_iff_eq]
      simp only
      obtain ⟨m, hm⟩ := hd
      have e0 : a0.fAddr = ((2 ^ k * m : Nat) : Int) := by omega
      have d1 := Nat.div_add_mod a1.toNat (2 ^ k)
      have d2 := Nat.mod_lt a1.toNat hp
      rw [e0]
      constructor
      · rintro ⟨h1, h2⟩
        have : a1.toNat / 2 ^ k = m := by
          apply Nat.le_antisymm
          · refine Nat.le_of_lt_succ (Nat.div_lt_of_lt_mul ?_)
            rw [Nat.mul_succ]; omega
          · exact (Nat.le_div_iff_mul_le hp).2 (by rw [Nat.mul_comm]; omega)
        rw [this, Nat.mul_comm]
      · intro h
        have h1 : a1.toNat / 2 ^ k * 2 ^ k = 2 ^ k * m := by omega
        rw [Nat.mul_comm] at h1
        omega
    rw [hc]
    simp only [beq_self_eq_true, Bool.and_self, Bool.and_true, Bool.true_and, List.length_singleton, List.getD_cons_zero, Int.toNat_zero, Int.cast_ofNat_Int, cond_true, show ((1 : Nat) : Int) = 1 from rfl]
    rw [size_eq (by simp) hu, hN, Option.bind_some]
    have hz : isz [(⟨a0.fAddr, a0.fAddr + (2 ^ k : Nat) - 1⟩ : TInterval)] = ((2 ^ k : Nat) : Int) := by
      simp only [isz]; omega
    have hs : wr .u64 (1 * 2 ^ min (wr .u64 (wr .i64 (32 - a0.fLen))).toNat 64) = ((2 ^ k : Nat) : Int) := by
      rw [hn, show (32 - (32 - (k : Int))) = (k : Int) by omega, wrN (n := (k : Int)) (by omega) (by omega), wrU64 (n := (k : Int)) (by omega) (by omega), p_shl hk]
    rw [hz, hs]
    simp only [beq_self_eq_true, cond_true]
    rw [sane_some, Option.bind_some, gdT]
    · rfl
    · rw [hn, show (32 - (32 - (k : Int))) = (k : Int) by omega, wrN (n := (k : Int)) (by omega) (by omega), wrU64 (n := (k : Int)) (by omega) (by omega)]
      simp [guardB]
end Nv
