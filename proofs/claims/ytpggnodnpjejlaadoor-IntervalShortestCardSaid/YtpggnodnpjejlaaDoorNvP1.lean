/- The plain law of IntervalShortest: the prefixes of a set are valid, ascending, disjoint; no two are the halves of one; their intervals form the set. -/
import Derived.Test.YtpggnodnpjejlaaDoorNvI7
import Derived.Test.YtpggnodnpjejlaaDoorNvI8
import Derived.Test.YtpggnodnpjejlaaDoorNvS1
import Derived.Test.YtpggnodnpjejlaaDoorNvV1
namespace Nv
open Go
theorem pin_addr {lo e : Nat} {p : TPrefix} (h : PIn lo e p) (he : e ≤ 4294967296) : 0 ≤ p.fAddr ∧ p.fAddr < 4294967296 := by
  have h1 := h.hi
  have h2 := h.nn
  have := Nat.two_pow_pos (ke p)
  omega
theorem pin_valid {lo e : Nat} {p : TPrefix} (h : PIn lo e p) (he : e ≤ 4294967296) : S.ref4_Valid p = true := by
  have hk := h.k
  have hl := h.len
  unfold S.ref4_Valid
  simp only [letS]
  rw [show decide (p.fLen ≥ 0) = true by simp; omega, show decide (p.fLen ≤ 32) = true by simp; omega]
  simp only [Bool.and_self, cond_true, S.ref4_Mask, Bool.true_and]
  rw [andNot_mk (pin_addr h he) hk hl, Nat.mod_eq_zero_of_dvd h.dvd]
  rfl
theorem pin_last {lo e : Nat} {p : TPrefix} (h : PIn lo e p) (he : e ≤ 4294967296) : S.ref4_Last p = p.fAddr + (2 ^ ke p : Nat) - 1 := by
  unfold S.ref4_Last
  simp only [letS, S.ref4_Mask]
  rw [or_mk (pin_addr h he) h.k h.len h.dvd]
theorem pin_of {lo e : Nat} {p : TPrefix} (h : PIn lo e p) (he : e ≤ 4294967296) : S.interval_Of p = [pof p] := by
  unfold S.interval_Of S.addr_Last
  simp only [letS, S.addr_Mask]
  rw [or_mk (pin_addr h he) h.k h.len h.dvd]
  rfl
theorem net_addr {a n : Int} {k : Nat} (ha : 0 ≤ a ∧ a < 4294967296) (hk : k ≤ 32) (hn : n = 32 - (k : Int)) : (S.ref4_Network a n).fAddr = ((a.toNat / 2 ^ k * 2 ^ k : Nat) : Int) := by
  unfold S.ref4_Network
  simp only [letS, S.ref4_Mask]
  have e : (if 0 > (if 32 < n then 32 else n) then 0 else (if 32 < n then 32 else n)) = n := by
    split <;> split <;> (try split) <;> omega
  rw [e, and_mk ha hk hn]
theorem not_sib {lo e lo' e' : Nat} {p q : TPrefix} (hp : PIn lo e p) (hq : PIn lo' e' q) (he : e ≤ 4294967296) (he' : e' ≤ 4294967296) (hr : PRel p q) (hl : p.fLen = q.fLen) (h0 : q.fLen > 0) :
    ((S.ref4_Network q.fAddr (q.fLen - 1)).fAddr == (S.ref4_Network p.fAddr (q.fLen - 1)).fAddr) = false := by
  have k1 := hp.len
  have k2 := hq.len
  have kk : ke p = ke q := by omega
  have k3 := hq.k
  rw [net_addr (k := ke q + 1) (pin_addr hq he') (by omega) (by omega), net_addr (k := ke q + 1) (pin_addr hp he) (by omega) (by omega)]
  rw [beq_eq_false_iff_ne]
  intro h
  refine hr.2 ⟨kk, ?_⟩
  obtain ⟨m, hm⟩ := hp.dvd
  obtain ⟨n, hn⟩ := hq.dvd
  have h1 := hr.1
  rw [kk] at h1 hm ⊢
  have h2 : q.fAddr.toNat / 2 ^ (ke q + 1) * 2 ^ (ke q + 1) = p.fAddr.toNat / 2 ^ (ke q + 1) * 2 ^ (ke q + 1) := by omega
  have h3 := Nat.eq_of_mul_eq_mul_right (Nat.two_pow_pos _) h2
  rw [hm, hn, Nat.pow_succ, Nat.mul_div_mul_left _ _ (Nat.two_pow_pos _), Nat.mul_div_mul_left _ _ (Nat.two_pow_pos _)] at h3
  rw [hm, hn] at h1 ⊢
  have h4 : 2 ^ ke q * (m + 1) ≤ 2 ^ ke q * n := by rw [Nat.mul_add, Nat.mul_one]; exact h1
  have h5 := Nat.le_of_mul_le_mul_left h4 (Nat.two_pow_pos _)
  have h6 : n = m + 1 := by omega
  have h7 : m % 2 = 0 := by omega
  refine ⟨by rw [h6, Nat.mul_add, Nat.mul_one], m / 2, ?_⟩
  rw [Nat.pow_succ, Nat.mul_assoc, show 2 * (m / 2) = m by omega]
theorem pgetD_mem {l : List TPrefix} {i : Nat} (hi : i < l.length) : l.getD i default ∈ l := by rw [List.getD_eq_getElem?_getD, List.getElem?_eq_getElem hi]; exact List.getElem_mem hi
theorem sh_l1 {l : List TPrefix} (hl : l.length ≤ 4294967296) (hI : ∀ p ∈ l, PIn 0 4294967296 p) (hR : l.Pairwise PRel) : ∀ (k i : Nat) (acc : List TInterval), i + k = l.length → acc.length = i → Iter (M.law3_IntervalShortest_l1 l) (acc, (i : Int)) (.inl (acc ++ (l.drop i).map pof)) := by
  intro k
  induction k with
  | zero =>
    intro i acc h1 h2
    rw [List.drop_eq_nil_of_le (by omega), List.map_nil, List.append_nil]
    refine .out ?_
    unfold M.law3_IntervalShortest_l1
    rw [show decide ((i : Int) < (l.length : Int)) = false by simp; omega]; rfl
  | succ k ih =>
    intro i acc h1 h2
    have hi : i < l.length := by omega
    have hup : wr .i64 ((i : Int) + 1) = ((i + 1 : Nat) : Int) := by rw [wrN (by omega) (by omega)]; omega
    have hd : l.drop i = l.getD i default :: l.drop (i + 1) := by rw [List.drop_eq_getElem_cons hi]; simp [hi]
    have q1 := hI _ (pgetD_mem hi)
    rw [hd, List.map_cons, List.append_cons]
    refine .next (x' := (acc ++ [pof (l.getD i default)], ((i + 1 : Nat) : Int))) ?_ (ih (i + 1) _ (by omega) (by simp [h2]))
    unfold M.law3_IntervalShortest_l1
    simp only [Int.toNat_natCast, hup]
    have d1 : decide ((i : Int) < (l.length : Int)) = true := decide_eq_true (by omega)
    have d0 : decide (0 ≤ (i : Int)) = true := decide_eq_true (by omega)
    have dA : decide ((acc.length + [pof (l.getD i default)].length) * 8 ≤ 140737488355328) = true := decide_eq_true (by simp only [List.length_singleton]; omega)
    rw [s_ref4_Valid, pin_valid q1 (Nat.le_refl _), Option.bind_some]
    simp only [d1, d0, cond_true, Bool.not_true, Bool.not_false, Bool.true_and, Bool.false_or]
    by_cases h0 : i = 0
    · have dz : decide ((i : Int) > 0) = false := decide_eq_false (by omega)
      simp only [dz, Bool.false_and, gc, cond_false, Option.bind_some]
      rw [gdT (by simp [guardB]), s_interval_Of, pin_of q1 (Nat.le_refl _), Option.bind_some, dA, gdT (by simp)]
    · have dz : decide ((i : Int) > 0) = true := decide_eq_true (by omega)
      have w : wr .i64 ((i : Int) - 1) = ((i - 1 : Nat) : Int) := by rw [wrN (by omega) (by omega)]; omega
      have hi1 : i - 1 < l.length := by omega
      have q0 := hI _ (pgetD_mem hi1)
      have hr : PRel (l.getD (i - 1) default) (l.getD i default) := by
        have := List.pairwise_iff_getElem.1 hR (i - 1) i hi1 hi (by omega)
        simpa [hi, hi1] using this
      have e1 : decide (((i - 1 : Nat) : Int) < (l.length : Int)) = true := decide_eq_true (by omega)
      have e0 : decide (0 ≤ ((i - 1 : Nat) : Int)) = true := decide_eq_true (by omega)
      simp only [dz, w, Int.toNat_natCast, gc, Bool.true_and, cond_true, e0, e1]
      rw [s_ref4_Last, pin_last q0 (Nat.le_refl _), Option.bind_some]
      have a0 := q0.nn
      have a1 := q1.nn
      have r1 := hr.1
      have dl : decide ((l.getD (i - 1) default).fAddr + (2 ^ ke (l.getD (i - 1) default) : Nat) - 1 ≥ (l.getD i default).fAddr) = false := decide_eq_false (by omega)
      simp only [dl, Bool.not_false, Bool.true_and, Bool.false_or]
      cases hs : ((l.getD (i - 1) default).fLen == (l.getD i default).fLen) && decide ((l.getD i default).fLen > 0) with
      | false =>
        simp only [cond_false, Option.bind_some, Bool.false_and]
        rw [gdT (by simp [guardB]), s_interval_Of, pin_of q1 (Nat.le_refl _), Option.bind_some, dA, gdT (by simp)]
      | true =>
        rw [Bool.and_eq_true, beq_iff_eq, decide_eq_true_eq] at hs
        have hlen := q1.len
        have w2 : wr .i64 ((l.getD i default).fLen - 1) = (l.getD i default).fLen - 1 := wrN (by omega) (by omega)
        have ns := not_sib q0 q1 (Nat.le_refl _) (Nat.le_refl _) hr hs.1 hs.2
        simp only [cond_true, w2]
        rw [s_ref4_Network, Option.bind_some, s_ref4_Network, Option.bind_some, ns]
        simp only [Bool.false_and, Bool.and_false, cond_false]
        rw [gdT (by simp [guardB]), s_interval_Of, pin_of q1 (Nat.le_refl _), Option.bind_some, dA, gdT (by simp)]
theorem plain_IntervalShortest (a0 : List TInterval) (w0 : a0.length ≤ maxLen ∧ a0.length * 8 ≤ reachBytes ∧ ∀ y ∈ a0, W_TInterval y) : M.law3_IntervalShortest a0 = some true := by
  have hM := maxLen_eq
  have hu : ∀ t ∈ a0, U32 t := fun t ht => by
    have h1 := wf_u32 (w0.2.2 t ht).1
    have h2 := wf_u32 (w0.2.2 t ht).2
    exact ⟨h1.1, h1.2, h2.1, h2.2⟩
  unfold M.law3_IntervalShortest
  rw [s_law3_few a0 [] w0.1 (Nat.zero_le _), Option.bind_some]
  cases hf : S.law3_few a0 [] with
  | false => rfl
  | true =>
    have h30 : a0.length ≤ 30 := by
      unfold S.law3_few at hf
      simp only [Bool.and_eq_true, decide_eq_true_eq] at hf
      omega
    simp only [Bool.not_true, cond_false]
    have hN := nrm_ok a0
    have hU := nrm_u32 hu
    have hlen := gps_len hN.1 hU
    have hsz := isz_le (l := nrm a0) (c := 0) hN.1 hU (fun t ht => (hU t ht).1) (by decide)
    have hI : ∀ p ∈ gps (nrm a0), PIn 0 4294967296 p := fun p hp => by
      obtain ⟨t, ht, h⟩ := gps_in hU p hp
      have := hU t ht
      unfold U32 at this
      exact h.mono (Nat.zero_le _) (by omega)
    have h1 := sh_l1 (l := gps (nrm a0)) (by omega) hI (gps_rel hN.1 hU) _ 0 [] (Nat.zero_add _) rfl
    rw [List.drop_zero, List.nil_append] at h1
    have hu2 : ∀ t ∈ (gps (nrm a0)).map pof, U32 t := fun t ht => by
      obtain ⟨p, hp, rfl⟩ := List.mem_map.1 ht
      exact pof_u32 (hI p hp) (Nat.le_refl _)
    have hl2 : ((gps (nrm a0)).map pof).length ≤ 4294967296 := by rw [List.length_map]; omega
    have e : nrm ((gps (nrm a0)).map pof) = nrm a0 := (nrm_ok _).uniq ⟨hN.1, fun x => (gps_imem hU).symm⟩
    have hl3 := nrm_len a0
    rw [pre_eq (by omega) hu, Option.bind_some, show ((0 : Int)) = ((0 : Nat) : Int) from rfl, loopM_of h1, Option.bind_some]
    simp only [Sum.elim_inl]
    rw [norm_eq (by omega) hu2, e, Option.bind_some, norm_eq (by omega) hu, Option.bind_some, s_keep_Intervals _ _ (by omega) (by omega), q_keep_rfl, Option.bind_some]
    simp only [gc, cond_true]
    rw [sane_some, Option.bind_some]
    rfl
end Nv
