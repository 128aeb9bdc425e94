/- The plain law of IntervalPrefixes: the program's prefixes are the reference's; they hold what the set holds. -/
import Derived.Test.YtpggnodnpjejlaaDoorNvI8
import Derived.Test.YtpggnodnpjejlaaDoorNvI3
import Derived.Test.YtpggnodnpjejlaaDoorNvIw
import Derived.Test.YtpggnodnpjejlaaDoorNvS1
import Derived.Test.YtpggnodnpjejlaaDoorNvV1
set_option maxRecDepth 100000
namespace Nv
open Go
theorem w32 {x : Int} (h : (Lit.int .u32 x).wf = true) : 0 ≤ x ∧ x < 4294967296 := by
  simp only [Lit.wf, Bool.and_eq_true, decide_eq_true_eq] at h
  have e1 : IntKind.min .u32 = 0 := by decide
  have e2 : IntKind.max .u32 = 4294967295 := by decide
  rw [e1, e2] at h
  omega
theorem w_mono : ∀ (n : Nat) (N : List TInterval) (p : TPrefix) (r : List TPrefix), M.ref4_within_n n N p = some r → M.ref4_within_n (n + 1) N p = some r
  | 0, _, _, _, h => by cases h
  | n + 1, N, p, r, h => by
    have h : M.ref4_within_b (M.ref4_within_n n) N p = some r := h
    show M.ref4_within_b (M.ref4_within_n (n + 1)) N p = some r
    unfold M.ref4_within_b at h ⊢
    obtain ⟨r1, h1, h2⟩ := bind_some h
    rw [h1, Option.bind_some]
    obtain ⟨y, h3, h4⟩ := bind_some h2
    rw [h3, Option.bind_some]
    cases y with
    | inr l => exact h4
    | inl g =>
      simp only [Sum.elim_inl] at h4 ⊢
      cases g with
      | false => exact h4
      | true =>
        simp only [Bool.not_true, cond_false] at h4 ⊢
        obtain ⟨r7, h5, h6⟩ := bind_some h4
        rw [h5, Option.bind_some]
        obtain ⟨r8, h7, h8⟩ := bind_some h6
        rw [w_mono n _ _ _ h7, Option.bind_some]
        obtain ⟨r9, h9, h10⟩ := bind_some h8
        rw [w_mono n _ _ _ h9, Option.bind_some]
        exact h10
theorem w_all {N : List TInterval} (hM : N.length ≤ maxLen) (hc : Can N) (hu : ∀ t ∈ N, U32 t) : M.ref4_within N ⟨0, 0⟩ = some (gps N) := by
  unfold M.ref4_within
  have h := w_n hM hu 32 0 (Nat.dvd_zero _) (Nat.le_refl _) (by decide)
  rw [wi_all (nat32_of hc hu)] at h
  exact recM_of (f := fun n (x : List TInterval × TPrefix) => M.ref4_within_n n x.1 x.2) (fun n x r h => w_mono n _ _ _ h) (n := 33) (x := (N, ⟨0, 0⟩)) h
theorem w_prefixes {l : List TInterval} (hl : l.length ≤ 1000000) (hu : ∀ t ∈ l, U32 t) : M.ref4_Prefixes l = some (gps (nrm l)) := by
  have hM := maxLen_eq
  have hlen := nrm_len l
  unfold M.ref4_Prefixes
  obtain ⟨r, r1, r2, _⟩ := refN_ok hl hu
  rw [r1, Option.bind_some, ← (nrm_ok l).uniq r2, w_all (by omega) (nrm_ok l).1 (nrm_u32 hu), Option.bind_some]
theorem keep_refl {l : List TPrefix} (hM : l.length ≤ maxLen) : M.keep_Prefixes l l = some true := by
  unfold M.keep_Prefixes
  rw [show ((l.length : Int) != (l.length : Int)) = false from bne_self_eq_false _, cond_false]
  have key : ∀ (k i : Nat), i + k = l.length → Iter (M.keep_Prefixes_l1 l l) (i : Int) (.inl ()) := by
    intro k
    induction k with
    | zero =>
      intro i h
      obtain rfl : i = l.length := by omega
      refine .out ?_
      unfold M.keep_Prefixes_l1
      rw [lt_f]; rfl
    | succ k ih =>
      intro i h
      have hi : i < l.length := by omega
      refine .next ?_ (ih (i + 1) (by omega))
      unfold M.keep_Prefixes_l1
      have q1 : decide ((i : Int) < (l.length : Int)) = true := lt_t hi
      have q2 : decide (0 ≤ (i : Int)) = true := ge_t
      simp only [Int.toNat_natCast, q1, q2, cond_true, wr_up hi hM, beq_self_eq_true, Bool.and_self, Bool.not_true, cond_false, gd, List.all_cons, List.all_nil, id]
  rw [show loopM (M.keep_Prefixes_l1 l l) 0 = some (.inl ()) from loopM_of (key l.length 0 (by omega))]
  rfl
theorem has_eq {l : List TInterval} (hM : l.length ≤ maxLen) (x : Int) : M.ref4_Has l x = some (l.any fun t => decide (t.fLo ≤ x) && decide (x ≤ t.fHi)) := by
  unfold M.ref4_Has
  have key : ∀ (k i : Nat), i + k = l.length → Iter (M.ref4_Has_l1 l x) (i : Int) (bif (l.drop i).any (fun t => decide (t.fLo ≤ x) && decide (x ≤ t.fHi)) then .inr true else .inl ()) := by
    intro k
    induction k with
    | zero =>
      intro i h
      obtain rfl : i = l.length := by omega
      refine .out ?_
      unfold M.ref4_Has_l1
      simp only [lt_f, cond_false, List.drop_length, List.any_nil]
    | succ k ih =>
      intro i h
      have hi : i < l.length := by omega
      have hd : l.drop i = l.getD i default :: l.drop (i + 1) := by
        rw [List.getD_eq_getElem?_getD, List.getElem?_eq_getElem hi, Option.getD_some]
        exact List.drop_eq_getElem_cons hi
      have q1 : decide ((i : Int) < (l.length : Int)) = true := lt_t hi
      have q2 : decide (0 ≤ (i : Int)) = true := ge_t
      have st : M.ref4_Has_l1 l x (i : Int) = bif (decide ((l.getD i default).fLo ≤ x) && decide (x ≤ (l.getD i default).fHi)) then some (.inr (.inr true)) else some (.inl ((i + 1 : Nat) : Int)) := by
        unfold M.ref4_Has_l1
        simp only [Int.toNat_natCast, q1, q2, cond_true, guardB_t, wr_up hi hM, gd, List.all_cons, List.all_nil, id, Bool.and_self]
      rw [hd, List.any_cons]
      cases hc : (decide ((l.getD i default).fLo ≤ x) && decide (x ≤ (l.getD i default).fHi)) with
      | true => rw [hc] at st; exact .out st
      | false => rw [hc] at st; exact .next st (ih (i + 1) (by omega))
  have h := loopM_of (key l.length 0 (by omega))
  rw [List.drop_zero] at h
  have h' : loopM (M.ref4_Has_l1 l x) 0 = _ := h
  rw [h', Option.bind_some]
  cases l.any (fun t => decide (t.fLo ≤ x) && decide (x ≤ t.fHi)) <;> rfl
def pcon (x : Int) (p : TPrefix) : Bool := bitD .and .u32 x (mk32 p.fLen) == p.fAddr
theorem contains_eq (p : TPrefix) (x : Int) : M.ref4_Contains p x = some (pcon x p) := by
  unfold M.ref4_Contains pcon
  rw [s_ref4_Mask]; rfl
theorem in_loop {l : List TPrefix} (hM : l.length ≤ maxLen) (x : Int) : loopM (M.law3_IntervalPrefixes_l1 x l) (false, 0) = some (l.any (pcon x)) := by
  have key : ∀ (k i : Nat) (g : Bool), i + k = l.length → Iter (M.law3_IntervalPrefixes_l1 x l) (g, (i : Int)) (g || (l.drop i).any (pcon x)) := by
    intro k
    induction k with
    | zero =>
      intro i g h
      obtain rfl : i = l.length := by omega
      refine .out ?_
      unfold M.law3_IntervalPrefixes_l1
      simp only [lt_f, cond_false, List.drop_length, List.any_nil, Bool.or_false]
    | succ k ih =>
      intro i g h
      have hi : i < l.length := by omega
      have hd : l.drop i = l.getD i default :: l.drop (i + 1) := by
        rw [List.getD_eq_getElem?_getD, List.getElem?_eq_getElem hi, Option.getD_some]
        exact List.drop_eq_getElem_cons hi
      have q1 : decide ((i : Int) < (l.length : Int)) = true := lt_t hi
      have q2 : decide (0 ≤ (i : Int)) = true := ge_t
      have st : M.law3_IntervalPrefixes_l1 x l (g, (i : Int)) = some (.inl (g || pcon x (l.getD i default), ((i + 1 : Nat) : Int))) := by
        unfold M.law3_IntervalPrefixes_l1
        simp only [Int.toNat_natCast, q1, q2, cond_true, guardB_t, wr_up hi hM, contains_eq]
        cases g <;> rfl
      refine .next st ?_
      have := ih (i + 1) (g || pcon x (l.getD i default)) (by omega)
      rw [hd, List.any_cons]
      rw [Bool.or_assoc] at this
      exact this
  have h := loopM_of (key l.length 0 false (by omega))
  rw [List.drop_zero, Bool.false_or] at h
  exact h
theorem pcon_pof {p : TPrefix} (h : PIn 0 4294967296 p) {x : Int} (hx : 0 ≤ x ∧ x < 4294967296) : pcon x p = true ↔ (pof p).fLo ≤ x ∧ x ≤ (pof p).fHi := by
  have hp := Nat.two_pow_pos (ke p)
  have hn := h.nn
  unfold pcon pof
  rw [beq_iff_eq, and_mk hx h.k h.len]
  obtain ⟨m, hm⟩ := h.dvd
  have hd := Nat.div_add_mod x.toNat (2 ^ ke p)
  have hmod := Nat.mod_lt x.toNat hp
  rw [Nat.mul_comm] at hd
  constructor
  · intro e
    constructor <;> (simp only; omega)
  · rintro ⟨h1, h2⟩
    simp only at h1 h2
    have e1 : x.toNat / 2 ^ ke p = m := by
      have h3 : 2 ^ ke p * m ≤ x.toNat := by omega
      have h4 : x.toNat < 2 ^ ke p * (m + 1) := by rw [Nat.mul_add, Nat.mul_one]; omega
      exact Nat.div_eq_of_lt_le (by rw [Nat.mul_comm]; exact h3) (by rw [Nat.mul_comm]; exact h4)
    rw [e1, Nat.mul_comm]; omega
theorem plain_IntervalPrefixes (a0 : List TInterval) (a1 : Int) (w0 : a0.length ≤ maxLen ∧ a0.length * 8 ≤ reachBytes ∧ ∀ y ∈ a0, W_TInterval y) (w1 : (Lit.int .u32 a1).wf = true) : M.law3_IntervalPrefixes a0 a1 = some true := by
  have hM := maxLen_eq
  have hx := w32 w1
  have hu : ∀ t ∈ a0, U32 t := fun t ht => by
    have h1 := w32 (w0.2.2 t ht).1
    have h2 := w32 (w0.2.2 t ht).2
    exact ⟨h1.1, h1.2, h2.1, h2.2⟩
  unfold M.law3_IntervalPrefixes M.law3_few
  rw [Option.bind_some]
  cases hf : ((decide ((a0.length : Int) ≤ 30)) && (decide ((([] : List TInterval).length : Int) ≤ 30))) with
  | false => rfl
  | true =>
    simp only [Bool.and_eq_true, decide_eq_true_eq] at hf
    have h30 : a0.length ≤ 30 := by omega
    have hN := nrm_ok a0
    have hU := nrm_u32 hu
    have hlen := gps_len hN.1 hU
    have hsz := isz_le (l := nrm a0) (c := 0) hN.1 hU (fun t ht => (hU t ht).1) (by decide)
    have hI : ∀ p ∈ gps (nrm a0), PIn 0 4294967296 p := fun p hp => by
      obtain ⟨t, ht, h⟩ := gps_in hU p hp
      have := hU t ht
      unfold U32 at this
      exact h.mono (Nat.zero_le _) (by omega)
    have hin : (gps (nrm a0)).any (pcon a1) = a0.any fun t => decide (t.fLo ≤ a1) && decide (a1 ≤ t.fHi) := by
      rw [Bool.eq_iff_iff, List.any_eq_true, List.any_eq_true]
      have hg := gps_imem (x := a1) hU
      have hn := hN.2 a1
      constructor
      · rintro ⟨p, h1, h2⟩
        obtain ⟨t, h3, h4, h5⟩ := hn.1 (hg.1 ⟨pof p, List.mem_map.2 ⟨p, h1, rfl⟩, ((pcon_pof (hI p h1) hx).1 h2).1, ((pcon_pof (hI p h1) hx).1 h2).2⟩)
        exact ⟨t, h3, by rw [Bool.and_eq_true, decide_eq_true_eq, decide_eq_true_eq]; exact ⟨h4, h5⟩⟩
      · rintro ⟨t, h1, h2⟩
        rw [Bool.and_eq_true, decide_eq_true_eq, decide_eq_true_eq] at h2
        obtain ⟨q, h3, h4, h5⟩ := hg.2 (hn.2 ⟨t, h1, h2.1, h2.2⟩)
        obtain ⟨p, h6, rfl⟩ := List.mem_map.1 h3
        exact ⟨p, h6, (pcon_pof (hI p h6) hx).2 ⟨h4, h5⟩⟩
    simp only [Bool.not_true, cond_false]
    rw [pre_eq (by omega) hu, Option.bind_some, in_loop (by omega), Option.bind_some, w_prefixes (by omega) hu, Option.bind_some, keep_refl (by omega), Option.bind_some, hin, has_eq (by omega)]
    simp only [gc, cond_true, Option.bind_some, beq_self_eq_true, Bool.and_self, sane_some]
end Nv
