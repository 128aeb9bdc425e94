/- What the recursion by halves computes. No condition. -/
import Derived.Test.YtpggnodnpjejlaaDoorNvI9
import Derived.Test.YtpggnodnpjejlaaDoorNvQ0
import Derived.Test.YtpggnodnpjejlaaDoorNvLibB
set_option maxRecDepth 100000
namespace Nv
open Go
theorem w_last {a k : Nat} (ha : 2 ^ k ∣ a) (hk : k ≤ 32) (hb : a + 2 ^ k ≤ 4294967296) : M.ref4_Last ⟨(a : Int), 32 - (k : Int)⟩ = some ((a : Int) + (2 ^ k : Nat) - 1) := by
  have hp := Nat.two_pow_pos k
  unfold M.ref4_Last
  rw [s_ref4_Mask, Option.bind_some]
  simp only [S.ref4_Mask]
  rw [or_mk (k := k) (a := (a : Int)) ⟨by omega, by omega⟩ hk rfl (by rw [Int.toNat_natCast]; exact ha)]
theorem or_pow {a k : Nat} (ha : 2 ^ (k + 1) ∣ a) (hb : a + 2 ^ (k + 1) ≤ 4294967296) : bitD .or .u32 (a : Int) ((2 ^ k : Nat) : Int) = ((a + 2 ^ k : Nat) : Int) := by
  have hp := Nat.two_pow_pos k
  have hs : 2 ^ (k + 1) = 2 ^ k + 2 ^ k := by rw [Nat.pow_succ]; omega
  rw [or_u32, BitVec.toNat_or]
  have e1 := B32_toNat (x := (a : Int)) ⟨by omega, by omega⟩
  have e2 := B32_toNat (x := ((2 ^ k : Nat) : Int)) ⟨by omega, by omega⟩
  have e3 : (B32 (a : Int)).toNat = a := by omega
  have e4 : (B32 ((2 ^ k : Nat) : Int)).toNat = 2 ^ k := by omega
  obtain ⟨m, hm⟩ := ha
  rw [e3, e4, hm, ← Nat.two_pow_add_eq_or_of_lt (by omega)]
theorem w_halves {a k : Nat} (ha : 2 ^ (k + 1) ∣ a) (hk : k + 1 ≤ 32) (hb : a + 2 ^ (k + 1) ≤ 4294967296) : M.ref4_Halves ⟨(a : Int), 32 - ((k + 1 : Nat) : Int)⟩ = some (⟨(a : Int), 32 - (k : Int)⟩, ⟨((a + 2 ^ k : Nat) : Int), 32 - (k : Int)⟩, true) := by
  have hp := Nat.two_pow_pos k
  have hs : 2 ^ (k + 1) = 2 ^ k + 2 ^ k := by rw [Nat.pow_succ]; omega
  unfold M.ref4_Halves
  have e1 : wr .i64 (31 - (32 - ((k + 1 : Nat) : Int))) = (k : Int) := by rw [wr_i64 (by omega)]; omega
  have e2 : wr .u64 (k : Int) = (k : Int) := wrU64 (by omega) (by omega)
  have e3 : wr .i64 (32 - ((k + 1 : Nat) : Int) + 1) = 32 - (k : Int) := by rw [wr_i64 (by omega)]; omega
  have e4 : wr .u32 (1 * 2 ^ min (k : Int).toNat 32) = ((2 ^ k : Nat) : Int) := by
    rw [Int.toNat_natCast, show min k 32 = k by omega, Int.one_mul, show ((2 : Int) ^ k) = ((2 ^ k : Nat) : Int) by simp]
    exact wr_u32 ⟨by omega, by omega⟩
  simp only [e1, e2, e3, e4]
  rw [show decide ((32 - ((k + 1 : Nat) : Int)) < 0) = false from decide_eq_false (by omega), show decide ((32 - ((k + 1 : Nat) : Int)) > 31) = false from decide_eq_false (by omega)]
  rw [Bool.or_self, cond_false, gdT (by simp), or_pow ha hb]
theorem w_loop {N : List TInterval} (hM : N.length ≤ maxLen) (p : TPrefix) (e : Int) : ∀ (k i : Nat) (g : Bool), i + k = N.length →
    Iter (M.ref4_within_l1 N p e) (g, (i : Int)) (bif (N.drop i).any (fun t => decide (t.fLo ≤ p.fAddr) && decide (e ≤ t.fHi)) then .inr ([p] : List TPrefix) else .inl (g || (N.drop i).any (fun t => decide (t.fLo ≤ e) && decide (p.fAddr ≤ t.fHi)))) := by
  intro k
  induction k with
  | zero =>
    intro i g h
    obtain rfl : i = N.length := by omega
    refine .out ?_
    unfold M.ref4_within_l1
    simp only [lt_f, cond_false, List.drop_length, List.any_nil, Bool.or_false]
  | succ k ih =>
    intro i g h
    have hi : i < N.length := by omega
    have hd : N.drop i = N.getD i default :: N.drop (i + 1) := by
      rw [List.getD_eq_getElem?_getD, List.getElem?_eq_getElem hi, Option.getD_some]
      exact List.drop_eq_getElem_cons hi
    have q1 : decide ((i : Int) < (N.length : Int)) = true := lt_t hi
    have q2 : decide (0 ≤ (i : Int)) = true := ge_t
    have st : M.ref4_within_l1 N p e (g, (i : Int)) = bif (decide ((N.getD i default).fLo ≤ p.fAddr) && decide (e ≤ (N.getD i default).fHi)) then some (.inr (.inr ([p] : List TPrefix))) else some (.inl (g || (decide ((N.getD i default).fLo ≤ e) && decide (p.fAddr ≤ (N.getD i default).fHi)), ((i + 1 : Nat) : Int))) := by
      unfold M.ref4_within_l1
      simp only [Int.toNat_natCast, q1, q2, cond_true, guardB_t, wr_up hi hM, gd, List.all_cons, List.all_nil, id, Bool.and_self]
    rw [hd, List.any_cons, List.any_cons]
    cases hc : (decide ((N.getD i default).fLo ≤ p.fAddr) && decide (e ≤ (N.getD i default).fHi)) with
    | true =>
      rw [hc] at st
      exact .out st
    | false =>
      rw [hc] at st
      refine .next st ?_
      have := ih (i + 1) (g || (decide ((N.getD i default).fLo ≤ e) && decide (p.fAddr ≤ (N.getD i default).fHi))) (by omega)
      rw [Bool.or_assoc] at this
      exact this
theorem wi_len (N : List TInterval) : ∀ (k a : Nat), (wi N a k).length ≤ 2 ^ k
  | 0, a => by unfold wi; cases N.any _ <;> simp
  | k + 1, a => by
    have hp := Nat.two_pow_pos k
    have hs : 2 ^ (k + 1) = 2 ^ k + 2 ^ k := by rw [Nat.pow_succ]; omega
    have h1 := wi_len N k a
    have h2 := wi_len N k (a + 2 ^ k)
    unfold wi
    cases N.any (fun t => decide (tlo t ≤ a) && decide (a + 2 ^ (k + 1) ≤ the t))
    · cases N.any (fun t => decide (tlo t < a + 2 ^ (k + 1)) && decide (a < the t))
      · simp
      · simp only [cond_false, cond_true, List.length_append]; omega
    · simp only [cond_true, List.length_singleton]; omega
theorem w_any {N : List TInterval} {f g : TInterval → Bool} (h : ∀ t ∈ N, f t = g t) : N.any f = N.any g := by
  induction N with
  | nil => rfl
  | cons x N ih => rw [List.any_cons, List.any_cons, h x List.mem_cons_self, ih fun t ht => h t (List.mem_cons_of_mem _ ht)]
theorem w_n {N : List TInterval} (hM : N.length ≤ maxLen) (hu : ∀ t ∈ N, U32 t) : ∀ (k a : Nat), 2 ^ k ∣ a → k ≤ 32 → a + 2 ^ k ≤ 4294967296 → M.ref4_within_n (k + 1) N ⟨(a : Int), 32 - (k : Int)⟩ = some (wi N a k)
  | k, a, ha, hk, hb => by
    have hp := Nat.two_pow_pos k
    show M.ref4_within_b (M.ref4_within_n k) N _ = _
    unfold M.ref4_within_b
    rw [w_last ha hk hb, Option.bind_some]
    have hl := loopM_of (w_loop hM ⟨(a : Int), 32 - (k : Int)⟩ ((a : Int) + (2 ^ k : Nat) - 1) N.length 0 false (by omega))
    rw [List.drop_zero, Bool.false_or] at hl
    have hl' : loopM (M.ref4_within_l1 N ⟨(a : Int), 32 - (k : Int)⟩ ((a : Int) + (2 ^ k : Nat) - 1)) (false, 0) = _ := hl
    rw [hl', Option.bind_some]
    have c1 : N.any (fun t => decide (t.fLo ≤ (a : Int)) && decide ((a : Int) + (2 ^ k : Nat) - 1 ≤ t.fHi)) = N.any (fun t => decide (tlo t ≤ a) && decide (a + 2 ^ k ≤ the t)) := w_any fun t ht => by
      have := hu t ht; unfold U32 at this
      congr 1 <;> (rw [decide_eq_decide]; simp only [tlo, the]; omega)
    have c2 : N.any (fun t => decide (t.fLo ≤ (a : Int) + (2 ^ k : Nat) - 1) && decide ((a : Int) ≤ t.fHi)) = N.any (fun t => decide (tlo t < a + 2 ^ k) && decide (a < the t)) := w_any fun t ht => by
      have := hu t ht; unfold U32 at this
      congr 1 <;> (rw [decide_eq_decide]; simp only [tlo, the]; omega)
    simp only [c1, c2]
    match k, ha, hk, hb with
    | 0, ha, hk, hb =>
      unfold wi
      cases hc : N.any (fun t => decide (tlo t ≤ a) && decide (a + 2 ^ 0 ≤ the t)) with
      | true => rfl
      | false =>
        rw [show N.any (fun t => decide (tlo t < a + 2 ^ 0) && decide (a < the t)) = false from by
          rw [← hc]
          refine w_any fun t _ => ?_
          congr 1 <;> (rw [decide_eq_decide]; simp only [Nat.pow_zero]; omega)]
        rfl
    | k + 1, ha, hk, hb =>
      have hpk := Nat.two_pow_pos k
      have hs : 2 ^ (k + 1) = 2 ^ k + 2 ^ k := by rw [Nat.pow_succ]; omega
      unfold wi
      cases hc : N.any (fun t => decide (tlo t ≤ a) && decide (a + 2 ^ (k + 1) ≤ the t)) with
      | true => rfl
      | false =>
        cases hm : N.any (fun t => decide (tlo t < a + 2 ^ (k + 1)) && decide (a < the t)) with
        | false => rfl
        | true =>
          simp only [cond_false, cond_true, Sum.elim_inl, Bool.not_true]
          rw [w_halves ha hk hb, Option.bind_some]
          have i1 := w_n hM hu k a (Nat.dvd_trans (Nat.pow_dvd_pow 2 (Nat.le_succ k)) ha) (by omega) (by omega)
          have i2 := w_n hM hu k (a + 2 ^ k) (Nat.dvd_add (Nat.dvd_trans (Nat.pow_dvd_pow 2 (Nat.le_succ k)) ha) (Nat.dvd_refl _)) (by omega) (by omega)
          rw [i1, Option.bind_some, i2, Option.bind_some, gdT ?_]
          have h1 := wi_len N k a
          have h2 := wi_len N k (a + 2 ^ k)
          have h3 : 2 ^ k ≤ 2 ^ 32 := Nat.pow_le_pow_right (by decide) (by omega)
          simp only [List.all_cons, List.all_nil, Bool.and_true, id]
          exact decide_eq_true (by omega)
end Nv
