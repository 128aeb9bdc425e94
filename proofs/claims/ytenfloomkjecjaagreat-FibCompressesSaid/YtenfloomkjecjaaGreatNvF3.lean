/- When a table of forwarding entries counts. No condition. -/
import Derived.Test.YtenfloomkjecjaaGreatNvF2
set_option maxRecDepth 100000
namespace Nv
open Go
theorem guardB_f {b : Bool} : guardB false b = true := rfl
def fval (p : TPrefix) : Bool := ((decide (p.fLen ≥ 0)) && (decide (p.fLen ≤ 32))) && ((bitD .andNot .u32 p.fAddr (mk32 p.fLen)) == 0)
theorem fValid_some (p : TPrefix) : M.ref4_Valid p = some (fval p) := by
  unfold M.ref4_Valid fval gc
  rw [s_ref4_Mask]
  cases (decide (p.fLen ≥ 0) && decide (p.fLen ≤ 32)) <;> rfl
def fcmp (a b : TPrefix) : Int := bif (decide (a.fAddr < b.fAddr)) || ((a.fAddr == b.fAddr) && (decide (a.fLen < b.fLen))) then (-1) else (bif ((a.fAddr == b.fAddr) && ((a.fLen == b.fLen) && true)) then 0 else 1)
theorem fCompare_some (a b : TPrefix) : M.ref4_Compare a b = some (fcmp a b) := by
  unfold M.ref4_Compare fcmp
  cases (decide (a.fAddr < b.fAddr)) || ((a.fAddr == b.fAddr) && (decide (a.fLen < b.fLen))) <;> cases ((a.fAddr == b.fAddr) && ((a.fLen == b.fLen) && true)) <;> rfl
def plb (a b : TPrefix) : Bool := (decide (a.fAddr < b.fAddr)) || ((a.fAddr == b.fAddr) && (decide (a.fLen < b.fLen)))
theorem fcmp_ge (a b : TPrefix) : decide (fcmp a b ≥ 0) = !plb a b := by
  unfold fcmp plb
  cases (decide (a.fAddr < b.fAddr)) || ((a.fAddr == b.fAddr) && (decide (a.fLen < b.fLen))) <;> cases ((a.fAddr == b.fAddr) && ((a.fLen == b.fLen) && true)) <;> rfl
theorem plb_iff (x y : TForward) : plb x.fPrefix y.fPrefix = true ↔ fplt x y := by
  unfold plb fplt
  simp only [Bool.or_eq_true, Bool.and_eq_true, decide_eq_true_eq, beq_iff_eq]
def okR (t : List TForward) (i : Nat) : Bool := fval (t.getD i default).fPrefix && !decide (((t.getD i default).fHops.length : Int) > 10) && (decide (i = 0) || plb (t.getD (i - 1) default).fPrefix (t.getD i default).fPrefix)
theorem right_step (t : List TForward) (h40 : t.length ≤ 40) (i : Nat) (hi : i < t.length) : M.law24_right_l1 t (i : Int) = bif okR t i then some (.inl ((i + 1 : Nat) : Int)) else some (.inr (.inr false)) := by
  have hM : t.length ≤ maxLen := Nat.le_trans h40 (by decide)
  unfold M.law24_right_l1 okR
  simp only [Int.toNat_natCast]
  have q1 : decide ((i : Int) < (t.length : Int)) = true := lt_t hi
  have q2 : decide (0 ≤ (i : Int)) = true := ge_t
  rw [q1, cond_true, fValid_some, Option.bind_some, upW hi hM]
  by_cases h0 : i = 0
  · have q3 : decide ((i : Int) > 0) = false := decide_eq_false (by omega)
    rw [q3, decide_eq_true h0]
    simp only [Bool.and_false, gc, cond_false, Option.bind_some, Bool.false_and, Bool.or_false, Bool.true_or, Bool.and_true]
    rw [gdT (by simp only [List.all_cons, List.all_nil, q1, q2, guardB_t, guardB_f, id, Bool.and_self])]
    cases fval (t.getD i default).fPrefix <;> cases decide (((t.getD i default).fHops.length : Int) > 10) <;> rfl
  · have q3 : decide ((i : Int) > 0) = true := decide_eq_true (by omega)
    have e : wr .i64 ((i : Int) - 1) = ((i - 1 : Nat) : Int) := by
      have : maxLen = 9223372036854775807 := rfl
      rw [wr_i64 (by omega)]; omega
    have q4 : decide (0 ≤ wr .i64 ((i : Int) - 1)) = true := by rw [e]; exact ge_t
    have q5 : decide (wr .i64 ((i : Int) - 1) < (t.length : Int)) = true := by rw [e]; exact lt_t (by omega)
    rw [q3, decide_eq_false h0, fCompare_some]
    simp only [q1, q2, q4, q5, guardB_t]
    simp only [e, Int.toNat_natCast]
    cases fval (t.getD i default).fPrefix <;> cases decide (((t.getD i default).fHops.length : Int) > 10) <;> simp only [gc, Bool.not_true, Bool.not_false, Bool.or_true, Bool.or_false, Bool.true_or, Bool.false_or, Bool.and_true, Bool.and_false, Bool.true_and, Bool.false_and, cond_true, cond_false, Option.bind_some, fcmp_ge]
    all_goals simp only [gd, List.all_cons, List.all_nil, id, Bool.and_self, cond_true]
    all_goals cases plb (t.getD (i - 1) default).fPrefix (t.getD i default).fPrefix <;> rfl
structure Rt (t : List TForward) : Prop where
  len : t.length ≤ 40
  val : ∀ x ∈ t, fval x.fPrefix = true
  hops : ∀ x ∈ t, x.fHops.length ≤ 10
  asc : t.Pairwise fplt
theorem fplt_trans {x y z : TForward} (h : fplt x y) (k : fplt y z) : fplt x z := by unfold fplt at *; omega
theorem asc_iff : ∀ (t : List TForward), (∀ i, i < t.length → i ≠ 0 → fplt (t.getD (i - 1) default) (t.getD i default)) ↔ t.Pairwise fplt
  | [] => ⟨fun _ => .nil, fun _ i h => absurd h (Nat.not_lt_zero i)⟩
  | [x] => ⟨fun _ => List.pairwise_singleton _ _, fun _ i h h0 => by simp at h; omega⟩
  | x :: y :: l => by
    have ih := asc_iff (y :: l)
    constructor
    · intro h
      have hp := ih.1 fun i hi h0 => by
        have := h (i + 1) (by simp only [List.length_cons] at *; omega) (by omega)
        obtain ⟨j, rfl⟩ : ∃ j, i = j + 1 := ⟨i - 1, by omega⟩
        exact this
      have h1 : fplt x y := h 1 (by simp) (by omega)
      rw [List.pairwise_cons]
      refine ⟨fun z hz => ?_, hp⟩
      rcases List.mem_cons.1 hz with rfl | hz
      · exact h1
      · rw [List.pairwise_cons] at hp
        exact fplt_trans h1 (hp.1 z hz)
    · intro h i hi h0
      rw [List.pairwise_cons] at h
      obtain ⟨j, rfl⟩ : ∃ j, i = j + 1 := ⟨i - 1, by omega⟩
      cases j with
      | zero => exact h.1 y List.mem_cons_self
      | succ j => exact ih.2 h.2 (j + 1) (by simp only [List.length_cons] at *; omega) (by omega)
theorem okR_iff (t : List TForward) (h : t.length ≤ 40) : (∀ i, i < t.length → okR t i = true) ↔ Rt t := by
  have hsp : ∀ i, okR t i = true ↔ fval (t.getD i default).fPrefix = true ∧ (t.getD i default).fHops.length ≤ 10 ∧ (i ≠ 0 → fplt (t.getD (i - 1) default) (t.getD i default)) := fun i => by
    unfold okR
    rw [Bool.and_eq_true, Bool.and_eq_true, Bool.or_eq_true, plb_iff, Bool.not_eq_true', decide_eq_false_iff_not, decide_eq_true_eq]
    constructor
    · rintro ⟨⟨h1, h2⟩, h3⟩; exact ⟨h1, by omega, fun h0 => h3.resolve_left h0⟩
    · rintro ⟨h1, h2, h3⟩
      exact ⟨⟨h1, by omega⟩, by by_cases h0 : i = 0; exact .inl h0; exact .inr (h3 h0)⟩
  constructor
  · intro g
    refine ⟨h, fun x hx => ?_, fun x hx => ?_, (asc_iff t).1 fun i hi h0 => ((hsp i).1 (g i hi)).2.2 h0⟩
    · obtain ⟨i, h1, rfl⟩ := memGetD (d := default) hx; exact ((hsp i).1 (g i h1)).1
    · obtain ⟨i, h1, rfl⟩ := memGetD (d := default) hx; exact ((hsp i).1 (g i h1)).2.1
  · intro r i hi
    exact (hsp i).2 ⟨r.val _ (getDmem hi), r.hops _ (getDmem hi), (asc_iff t).2 r.asc i hi⟩
open Classical in
theorem right_eq (t : List TForward) : M.law24_right t = some (decide (Rt t)) := by
  unfold M.law24_right
  by_cases h : t.length ≤ 40
  · rw [show decide ((t.length : Int) > 40) = false from decide_eq_false (by omega), cond_false, allLoop (okR t) (right_step t h) (by
      unfold M.law24_right_l1
      rw [lt_f]; rfl)]
    congr 1
    rw [decide_eq_decide]
    exact okR_iff t h
  · rw [show decide ((t.length : Int) > 40) = true from decide_eq_true (by omega), cond_true, decide_eq_false fun r : Rt t => h r.len]
end Nv
