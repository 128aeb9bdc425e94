/- Compress keeps what differs from its parent. No condition. -/
import Derived.Test.YtenfloomkjecjaaGreatNvF3
set_option maxRecDepth 100000
namespace Nv
open Go
def hopB (x y : THop) : Bool := (x.fIface == y.fIface) && ((x.fAddr == y.fAddr) && true)
theorem hopB_iff {x y : THop} : hopB x y = true ↔ x = y := by
  unfold hopB
  simp only [Bool.and_true, Bool.and_eq_true, beq_iff_eq]
  constructor
  · rintro ⟨h1, h2⟩; cases x; cases y; simp_all
  · rintro rfl; exact ⟨rfl, rfl⟩
theorem hops_ext {l m : List THop} (h : l.length = m.length) : (∀ i, i < l.length → hopB (l.getD i default) (m.getD i default) = true) ↔ l = m := by
  constructor
  · intro g
    apply List.ext_getElem h
    intro i h1 h2
    have := hopB_iff.1 (g i h1)
    rw [List.getD_eq_getElem?_getD, List.getElem?_eq_getElem h1, List.getD_eq_getElem?_getD, List.getElem?_eq_getElem h2] at this
    exact this
  · rintro rfl i _; exact hopB_iff.2 rfl
open Classical in
theorem hopsEq_eq (l m : List THop) (hM : l.length ≤ maxLen) : M.slices_Equal_api_Hop_api_Hop l m = some (decide (l = m)) := by
  unfold M.slices_Equal_api_Hop_api_Hop
  by_cases h : l.length = m.length
  · rw [show ((l.length : Int) != (m.length : Int)) = false by rw [h]; exact bne_self_eq_false _, cond_false]
    rw [allLoop (fun i => hopB (l.getD i default) (m.getD i default)) (fun i hi => ?_) ?_]
    · congr 1; rw [decide_eq_decide]; exact hops_ext h
    · unfold M.slices_Equal_api_Hop_api_Hop_l1
      rw [lt_f]; rfl
    · unfold M.slices_Equal_api_Hop_api_Hop_l1
      have q1 : decide ((i : Int) < (l.length : Int)) = true := lt_t hi
      have q2 : decide (0 ≤ (i : Int)) = true := ge_t
      have q3 : decide ((i : Int) < (m.length : Int)) = true := lt_t (by omega)
      simp only [Int.toNat_natCast, q1, q2, q3, cond_true, upW hi hM]
      rw [gdT (by rfl)]
      unfold hopB
      cases ((l.getD i default).fIface == (m.getD i default).fIface) && (((l.getD i default).fAddr == (m.getD i default).fAddr) && true) <;> rfl
  · rw [show ((l.length : Int) != (m.length : Int)) = true by simp; omega, cond_true, decide_eq_false fun e => h (by rw [e])]
theorem action_eq (x y : TForward) (hM : x.fHops.length ≤ maxLen) : M.ref24_SameAction x y = some (hact x y) := by
  unfold M.ref24_SameAction
  cases hd : (x.fDiscard == y.fDiscard) with
  | false =>
    rw [Bool.not_false, Bool.true_or, cond_true]
    congr 1
    rw [eq_comm, Bool.eq_false_iff]
    intro h
    rw [hact_t] at h
    rw [h.1, beq_self_eq_true] at hd; cases hd
  | true =>
    rw [Bool.not_true, Bool.false_or]
    have hd' : x.fDiscard = y.fDiscard := by simpa using hd
    by_cases h : x.fHops.length = y.fHops.length
    · rw [show ((x.fHops.length : Int) != (y.fHops.length : Int)) = false by rw [h]; exact bne_self_eq_false _, cond_false]
      rw [allLoop (fun i => hopB (x.fHops.getD i default) (y.fHops.getD i default)) (fun i hi => ?_) ?_]
      · congr 1; unfold hact; rw [decide_eq_decide, hops_ext h]; exact ⟨fun g => ⟨hd', g⟩, fun g => g.2⟩
      · unfold M.ref24_SameAction_l1
        rw [lt_f]; rfl
      · unfold M.ref24_SameAction_l1
        have q1 : decide ((i : Int) < (x.fHops.length : Int)) = true := lt_t hi
        have q2 : decide (0 ≤ (i : Int)) = true := ge_t
        have q3 : decide ((i : Int) < (y.fHops.length : Int)) = true := lt_t (by omega)
        simp only [Int.toNat_natCast, q1, q2, q3, cond_true, upW hi hM]
        rw [gdT (by rfl)]
        unfold hopB
        cases ((x.fHops.getD i default).fIface == (y.fHops.getD i default).fIface) && (((x.fHops.getD i default).fAddr == (y.fHops.getD i default).fAddr) && true) <;> rfl
    · rw [show ((x.fHops.length : Int) != (y.fHops.length : Int)) = true by simp; omega, cond_true]
      congr 1
      rw [eq_comm, Bool.eq_false_iff]
      intro g
      rw [hact_t] at g
      exact h (by rw [g.2])
theorem fCovers_some (p x : TForward) : M.addr_Covers p.fPrefix x.fPrefix = some (fcov p x) := by
  unfold M.addr_Covers fcov M.addr_Contains gc
  rw [s_addr_Mask]
  cases decide (p.fPrefix.fLen ≤ x.fPrefix.fLen) <;> rfl
theorem parent_eq (t : List TForward) (hM : t.length ≤ maxLen) (j : Nat) (hj : j < t.length) : M.fib_parent t (j : Int) = some (enc (lgst (fpar (t.getD j default)) fw default t t.length)) := by
  unfold M.fib_parent
  rw [lookLoop (fpar (t.getD j default)) fw default t (fun i hi b hb => ?_) (fun b => ?_)]
  · rfl
  · unfold M.fib_parent_l1 M.fib_parent_k1
    have q1 : decide ((i : Int) < (t.length : Int)) = true := lt_t hi
    have q2 : decide (0 ≤ (i : Int)) = true := ge_t
    have q5 : decide ((j : Int) < (t.length : Int)) = true := lt_t hj
    have q6 : decide (0 ≤ (j : Int)) = true := ge_t
    simp only [Int.toNat_natCast, q1, q2, q5, q6, cond_true, upW hi hM, guardB_t]
    rw [gdT (by rfl), fCovers_some]
    have hw : decide ((t.getD i default).fPrefix.fLen ≥ (t.getD j default).fPrefix.fLen) = !decide (fw (t.getD i default) < fw (t.getD j default)) := by
      unfold fw
      rw [← decide_not, decide_eq_decide]; omega
    have hp : fpar (t.getD j default) (t.getD i default) = (decide (fw (t.getD i default) < fw (t.getD j default)) && fcov (t.getD i default) (t.getD j default)) := rfl
    rw [hw, Bool.not_not]
    cases hd : decide (fw (t.getD i default) < fw (t.getD j default)) with
    | false =>
      rw [hd, Bool.false_and] at hp
      simp only [gc, cond_false, Option.bind_some, gd, List.all_cons, List.all_nil, id, Bool.and_self, cond_true, Bool.not_false, Bool.true_or]
      unfold lgstS
      cases b with
      | none => simp only [hp, cond_false]
      | some k => simp only [hp, cond_false, Bool.false_and]
    | true =>
      rw [hd, Bool.true_and] at hp
      simp only [gc, cond_true, Option.bind_some, gd, List.all_cons, List.all_nil, id, Bool.and_self, Bool.not_true, Bool.false_or]
      cases hc : fcov (t.getD i default) (t.getD j default) with
      | false =>
        rw [hc] at hp
        unfold lgstS
        cases b with
        | none => simp only [hp, Bool.not_false, cond_false, cond_true]
        | some k => simp only [hp, Bool.not_false, cond_false, Bool.false_and, cond_true]
      | true =>
        rw [hc] at hp
        unfold lgstS
        cases b with
        | none => 
          have e : decide (enc none < 0) = true := rfl
          simp only [hp, Bool.not_true, cond_false, cond_true, e, guardB_f, Bool.true_or, Bool.and_self]
          rfl
        | some k =>
          have hk := hb k rfl
          have e : decide (enc (some k) < 0) = false := enc_neg (some k)
          have e2 : (enc (some k)).toNat = k := by show ((k : Int)).toNat = k; omega
          have q3 : decide (0 ≤ enc (some k)) = true := decide_eq_true (by show 0 ≤ (k : Int); omega)
          have q4 : decide (enc (some k) < (t.length : Int)) = true := decide_eq_true (by show (k : Int) < (t.length : Int); omega)
          simp only [hp, Bool.not_true, cond_false, cond_true, e, e2, q3, q4, guardB_t, Bool.false_or, Bool.true_and, Bool.and_self]
          unfold fw
          cases decide ((t.getD i default).fPrefix.fLen > (t.getD k default).fPrefix.fLen) <;> rfl
  · unfold M.fib_parent_l1
    simp only [lt_f, cond_false]
theorem clone_eq (l : List THop) (h : l.length ≤ 1000) : M.slices_Clone_api_Hop_api_Hop l = some l := by
  unfold M.slices_Clone_api_Hop_api_Hop
  rw [gdT (by simp; omega)]
open Classical in
theorem compress_eq (t : List TForward) (h40 : t.length ≤ 40) (hh : ∀ x ∈ t, x.fHops.length ≤ 10) : M.fib_Compress t = some (comp fw fcov hact default t) := by
  have hM : t.length ≤ maxLen := Nat.le_trans h40 (by decide)
  unfold M.fib_Compress
  rw [filtLoop (kept fw fcov hact default t) default t (fun i hi acc ha => ?_) (fun b => ?_)]
  · rfl
  · unfold M.fib_Compress_l1 M.fib_Compress_k1
    have q1 : decide ((i : Int) < (t.length : Int)) = true := lt_t hi
    have q2 : decide (0 ≤ (i : Int)) = true := ge_t
    simp only [Int.toNat_natCast, q1, q2, cond_true, upW hi hM]
    rw [gdT (by rfl), parent_eq t hM i hi, Option.bind_some, clone_eq _ (Nat.le_trans (hh _ (getDmem hi)) (by decide)), Option.bind_some]
    have q7 : decide ((acc.length + 1) * 48 ≤ 140737488355328) = true := decide_eq_true (by omega)
    have hx : (⟨(t.getD i default).fPrefix, (t.getD i default).fHops, (t.getD i default).fDiscard⟩ : TForward) = t.getD i default := rfl
    simp only [q7, hx]
    have hk : kept fw fcov hact default t (t.getD i default) = match lgst (fpar (t.getD i default)) fw default t t.length with
      | none => true
      | some b => !hact (t.getD b default) (t.getD i default) := rfl
    rw [hk]
    cases hb : lgst (fpar (t.getD i default)) fw default t t.length with
    | none =>
      have e : decide (enc none < 0) = true := rfl
      simp only [e, Bool.true_or, Bool.not_true, guardB_f, gc, cond_false, Option.bind_some, gd, List.all_cons, List.all_nil, id, Bool.and_self, cond_true]
    | some k =>
      have hk := lgst_lt hb
      have e : decide (enc (some k) < 0) = false := enc_neg (some k)
      have e2 : (enc (some k)).toNat = k := by show ((k : Int)).toNat = k; omega
      have q3 : decide (0 ≤ enc (some k)) = true := decide_eq_true (by show 0 ≤ (k : Int); omega)
      have q4 : decide (enc (some k) < (t.length : Int)) = true := decide_eq_true (by show (k : Int) < (t.length : Int); omega)
      simp only [e, e2, q3, q4, guardB_t, Bool.false_or]
      rw [hopsEq_eq _ _ (Nat.le_trans (hh _ (getDmem hi)) (by decide))]
      cases hd : ((t.getD i default).fDiscard == (t.getD k default).fDiscard) with
      | false =>
        have : hact (t.getD k default) (t.getD i default) = false := by
          rw [Bool.eq_false_iff]
          intro h
          rw [hact_t] at h
          rw [h.1, beq_self_eq_true] at hd; cases hd
        simp only [this, gc, Bool.not_false, Bool.not_true, cond_false, cond_true, Option.bind_some, gd, List.all_cons, List.all_nil, id, Bool.and_self, Bool.true_or]
      | true =>
        have hd' : (t.getD i default).fDiscard = (t.getD k default).fDiscard := by simpa using hd
        by_cases hq : (t.getD i default).fHops = (t.getD k default).fHops
        · rw [decide_eq_true hq, hact_t.2 ⟨hd'.symm, hq.symm⟩]
          rfl
        · have : hact (t.getD k default) (t.getD i default) = false := by
            rw [Bool.eq_false_iff]
            intro h
            rw [hact_t] at h
            exact hq h.2.symm
          rw [decide_eq_false hq, this]
          rfl
  · unfold M.fib_Compress_l1
    simp only [lt_f, cond_false]
theorem sameF_refl (t : List TForward) (hM : t.length ≤ maxLen) (hh : ∀ x ∈ t, x.fHops.length ≤ maxLen) : M.ref24_SameForwards t t = some true := by
  unfold M.ref24_SameForwards
  rw [show ((t.length : Int) != (t.length : Int)) = false from bne_self_eq_false _, cond_false]
  have hs : ∀ i : Nat, i < t.length → M.ref24_SameForwards_l1 t t (i : Int) = bif true then some (.inl ((i + 1 : Nat) : Int)) else some (.inr (.inr false)) := fun i hi => by
    unfold M.ref24_SameForwards_l1
    have q1 : decide ((i : Int) < (t.length : Int)) = true := lt_t hi
    have q2 : decide (0 ≤ (i : Int)) = true := ge_t
    have e1 : hact (t.getD i default) (t.getD i default) = true := hact_t.2 ⟨rfl, rfl⟩
    simp only [Int.toNat_natCast, q1, q2, cond_true, upW hi hM, guardB_t, beq_self_eq_true, Bool.and_self, Bool.not_true, Bool.not_false]
    rw [action_eq _ _ (hh _ (getDmem hi)), e1]
    rfl
  rw [allLoop (fun _ => true) hs (by
    unfold M.ref24_SameForwards_l1
    rw [lt_f]; rfl)]
  simp
end Nv
