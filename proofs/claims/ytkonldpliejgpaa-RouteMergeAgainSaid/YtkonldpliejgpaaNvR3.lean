/- Validity of routes: the program's and the reference's. -/
import Derived.Test.YtkonldpliejgpaaNvT1
import Derived.Test.YtkonldpliejgpaaNvLibB
import Derived.Test.YtkonldpliejgpaaNvR1
set_option maxRecDepth 100000
set_option synthInstance.maxSize 100000
set_option synthInstance.maxHeartbeats 1000000
set_option maxHeartbeats 1000000
namespace Nv
open Go
noncomputable def ascB (l : List THop) (i : Nat) : Bool := decide ((l.getD i default).fIface < 0) || (decide ((i : Int) > 0) && !S.ref15_lessHop (l.getD (wr .i64 ((i : Int) - 1)).toNat default) (l.getD i default))
noncomputable def ascH (l : List THop) : Bool := !anyN (ascB l) l.length
def pathB (l : List Int) : Bool := !anyN (fun i => decide (l.getD i default < 1) || decide (l.getD i default > 65535)) l.length
def dirB (l : List THop) (i : Nat) : Bool := (l.getD i default).fAddr == 0
theorem hop_less (a b : THop) : decide (S.route_compareHops a b ≥ 0) = !S.ref15_lessHop a b := by
  unfold S.route_compareHops S.ref15_lessHop
  simp only [letS, q_cmp, q_cmp32, q_or, fnz]
  unfold cmpI
  rcases Int.lt_trichotomy a.fIface b.fIface with h | h | h
  · simp [h]
  · rw [h]
    rcases Int.lt_trichotomy a.fAddr b.fAddr with g | g | g
    · simp [g]
    · simp [g]
    · have : ¬ a.fAddr < b.fAddr := by omega
      simp [g, this]
  · have h1 : ¬ a.fIface < b.fIface := by omega
    have h2 : ¬ a.fIface = b.fIface := by omega
    simp [h, h1, h2]
theorem common_eq (x : TRoute) : S.route_common x = ((S.addr_Valid x.fPrefix && (decide (0 ≤ x.fTag) && decide (x.fTag ≤ 65535)) && !decide ((x.fPath.length : Int) > 64)) && (ascH x.fHops && pathB x.fPath)) := by
  unfold S.route_common
  simp only [letS]
  have e1 : runN (S.route_common_l1 x) (.inl () : Unit ⊕ Bool) 0 x.fHops.length = bif anyN (ascB x.fHops) x.fHops.length then .inr false else .inl () := by
    rw [← runN_any]
    refine runN_congr0 fun j _ => ?_
    unfold S.route_common_l1 ascB
    simp only [letS]
    cases h1 : decide ((x.fHops.getD j default).fIface < 0) <;> cases h2 : decide ((j : Int) > 0) <;> simp [hop_less]
  have e2 : runN (S.route_common_l2 x) (.inl () : Unit ⊕ Bool) 0 x.fPath.length = bif anyN (fun i => decide (x.fPath.getD i default < 1) || decide (x.fPath.getD i default > 65535)) x.fPath.length then .inr false else .inl () := runN_any _ _ _ _
  rw [e1, e2]
  unfold ascH pathB
  have e3 : decide (x.fTag < 0) = !decide (0 ≤ x.fTag) := by by_cases h : x.fTag < 0 <;> simp [h] <;> omega
  have e4 : decide (x.fTag > 65535) = !decide (x.fTag ≤ 65535) := by by_cases h : x.fTag > 65535 <;> simp [h] <;> omega
  rw [e3, e4]
  cases S.addr_Valid x.fPrefix <;> cases decide (0 ≤ x.fTag) <;> cases decide (x.fTag ≤ 65535) <;> cases decide ((x.fPath.length : Int) > 64) <;> cases anyN (ascB x.fHops) x.fHops.length <;> cases anyN (fun i => decide (x.fPath.getD i default < 1) || decide (x.fPath.getD i default > 65535)) x.fPath.length <;> rfl
theorem ref_hops (l : List THop) (d : Bool) : S.ref15_hops l d = !anyN (fun i => ascB l i || !(dirB l i == d)) l.length := by
  unfold S.ref15_hops
  simp only [letS]
  have e1 : runN (S.ref15_hops_l1 l d) (.inl () : Unit ⊕ Bool) 0 l.length = bif anyN (fun i => ascB l i || !(dirB l i == d)) l.length then .inr false else .inl () := by
    rw [← runN_any]
    refine runN_congr0 fun j _ => ?_
    unfold S.ref15_hops_l1 ascB dirB
    simp only [letS]
    cases h1 : decide ((l.getD j default).fIface < 0) <;> cases h2 : decide ((j : Int) > 0) <;> simp
  rw [e1]
  cases anyN (fun i => ascB l i || !(dirB l i == d)) l.length <;> rfl
theorem anyN_or (c e : Nat → Bool) (n : Nat) : anyN (fun i => c i || e i) n = (anyN c n || anyN e n) := by
  rw [Bool.eq_iff_iff]
  simp only [anyN_true, Bool.or_eq_true]
  constructor
  · rintro ⟨j, h1, h2 | h2⟩
    · exact .inl ⟨j, h1, h2⟩
    · exact .inr ⟨j, h1, h2⟩
  · rintro (⟨j, h1, h2⟩ | ⟨j, h1, h2⟩)
    · exact ⟨j, h1, .inl h2⟩
    · exact ⟨j, h1, .inr h2⟩
theorem len_one {l : List THop} (h : ((l.length : Int) == 1) = true) : l.length = 1 := by
  have h' : (l.length : Int) = 1 := by simpa using h
  omega
theorem len_zero {l : List THop} (h : ((l.length : Int) == 0) = true) : l.length = 0 := by
  have h' : (l.length : Int) = 0 := by simpa using h
  omega
theorem hops_one (l : List THop) : (((l.length : Int) == 1) && S.ref15_hops l true) = (ascH l && S.route_direct l) := by
  rw [ref_hops, anyN_or]
  unfold ascH S.route_direct
  cases h : ((l.length : Int) == 1) with
  | false => simp
  | true =>
    have hl : l.length = 1 := len_one h
    rw [hl]
    have e : anyN (fun i => !(dirB l i == true)) 1 = !((l.getD (0 : Int).toNat default).fAddr == 0) := by
      simp [anyN, dirB]
    rw [e]
    cases anyN (ascB l) 1 <;> cases ((l.getD (0 : Int).toNat default).fAddr == 0) <;> rfl
theorem hops_many (l : List THop) : (decide ((l.length : Int) > 0) && S.ref15_hops l false) = (ascH l && S.route_indirect l) := by
  rw [ref_hops, anyN_or]
  unfold ascH S.route_indirect
  simp only [letS]
  have e1 : runN (S.route_indirect_l1 l) (.inl () : Unit ⊕ Bool) 0 l.length = bif anyN (dirB l) l.length then .inr false else .inl () := runN_any _ _ _ _
  rw [e1]
  have e : (fun i => !(dirB l i == false)) = dirB l := by funext i; cases dirB l i <;> rfl
  rw [e]
  cases anyN (ascB l) l.length <;> cases anyN (dirB l) l.length <;> cases decide ((l.length : Int) > 0) <;> rfl
theorem asc_nil {l : List THop} (h : ((l.length : Int) == 0) = true) : ascH l = true := by
  have hl : l.length = 0 := len_zero h
  unfold ascH; rw [hl]; rfl
theorem hops_from (l : List THop) {f : Int} (hf : (f != 0) = true) : ((((l.length : Int) == 1) && S.ref15_hops l false) && ((l.getD (0 : Int).toNat default).fAddr == f)) = (ascH l && (((l.length : Int) == 1) && ((l.getD (0 : Int).toNat default).fAddr == f))) := by
  rw [ref_hops, anyN_or]
  unfold ascH
  cases h : ((l.length : Int) == 1) with
  | false => simp
  | true =>
    have hl : l.length = 1 := len_one h
    rw [hl]
    cases hb : ((l.getD (0 : Int).toNat default).fAddr == f) with
    | false => simp
    | true =>
      have e : anyN (fun i => !(dirB l i == false)) 1 = false := by
        have h1 : (l.getD (0 : Int).toNat default).fAddr = f := by simpa using hb
        have h2 : f ≠ 0 := by simpa using hf
        have h3 : (l.getD 0 default).fAddr ≠ 0 := by rw [← h1] at h2; exact h2
        simp [anyN, dirB]
        simpa using h3
      rw [e]
      simp
def admB (x : TRoute) : Bool := decide (1 ≤ x.fAdmin) && decide (x.fAdmin ≤ 255)
theorem v_static (x : TRoute) : (ascH x.fHops && admB x && S.route_validStatic x) = S.ref15_validStatic x := by
  have w1 : wr .i64 (0 + 1) = 1 := rfl
  have w2 : wr .i64 (1 + 1) = 2 := rfl
  have w3 : wr .i64 (2 + 1) = 3 := rfl
  have b0 : ((0 : Int) == 1) = false := rfl
  have b1 : ((1 : Int) == 1) = true := rfl
  have b2 : ((2 : Int) == 1) = false := rfl
  have b3 : ((3 : Int) == 1) = false := rfl
  have z0 : ((0 : Int) == 0) = true := rfl
  have hn : (([] : List THop).length : Int) = 0 := rfl
  unfold S.route_validStatic S.route_validStatic_k1 S.route_validStatic_k2 S.route_validStatic_k3 S.route_bare S.ref15_validStatic S.ref15_plain S.ref15_within admB
  simp only [letS, w1, w2, w3, hops_one, hn]
  have h1 := hops_one x.fHops
  have h0 := asc_nil (l := x.fHops)
  have hd : S.route_direct x.fHops = true → ((x.fHops.length : Int) == 0) = false := by
    unfold S.route_direct
    intro h
    simp only [Bool.and_eq_true, beq_iff_eq] at h
    rw [h.1]; rfl
  have hd1 : S.route_direct x.fHops = true → ((x.fHops.length : Int) == 1) = true := by
    unfold S.route_direct
    intro h
    simp only [Bool.and_eq_true] at h
    exact h.1
  rw [show (x.fNext == 0) = !(x.fNext != 0) by simp [bne], show (x.fClass != 0) = !(x.fClass == 0) from rfl, show (x.fMetric != 0) = !(x.fMetric == 0) from rfl]
  generalize ((x.fHops.length : Int) == 1) = q1 at *
  generalize S.ref15_hops x.fHops true = q2 at *
  generalize ascH x.fHops = q3 at *
  generalize S.route_direct x.fHops = q4 at *
  generalize ((x.fHops.length : Int) == 0) = q5 at *
  generalize (x.fNext != 0) = q6
  generalize (x.fClass == 0) = q7
  generalize (x.fMetric == 0) = q8
  generalize (decide (1 ≤ x.fAdmin) && decide (x.fAdmin ≤ 255)) = q9
  generalize (x.fInner == 0) = q10
  generalize (x.fPref == 0) = q11
  generalize ((x.fPath.length : Int) == 0) = q12
  generalize (x.fFrom == 0) = q13
  generalize x.fDiscard = q14
  clear w1 w2 w3 b0 b1 b2 b3 z0 hn
  revert q1 q2 q3 q4 q5 q6 q7 q8 q9 q10 q11 q12 q13 q14
  decide +kernel
theorem v_ls (x : TRoute) : (ascH x.fHops && admB x && S.route_validLinkState x) = S.ref15_validLinkState x := by
  unfold S.route_validLinkState S.route_validLinkState_k1 S.route_bare S.route_within S.ref15_validLinkState S.ref15_plain S.ref15_within admB
  simp only [letS]
  have h1 := hops_many x.fHops
  have h0 := asc_nil (l := x.fHops)
  have c1 : (x.fClass == 1) = true → (decide (1 ≤ x.fClass) && decide (x.fClass ≤ 4)) = true ∧ (x.fClass == 4) = false := by
    intro h; have : x.fClass = 1 := by simpa using h
    rw [this]; decide
  have m0 : (x.fMetric == 0) = true → (decide (0 ≤ x.fMetric) && decide (x.fMetric ≤ 1073741824)) = true := by
    intro h; have : x.fMetric = 0 := by simpa using h
    rw [this]; decide
  have i0 : (x.fInner == 0) = true → (decide (0 ≤ x.fInner) && decide (x.fInner ≤ 1073741824)) = true := by
    intro h; have : x.fInner = 0 := by simpa using h
    rw [this]; decide
  rw [show (x.fClass != 4) = !(x.fClass == 4) from rfl, show (x.fInner != 0) = !(x.fInner == 0) from rfl]
  generalize S.ref15_hops x.fHops false = q1 at *
  generalize ascH x.fHops = q2 at *
  generalize S.route_indirect x.fHops = q3 at *
  generalize (decide ((x.fHops.length : Int) > 0)) = q4 at *
  generalize ((x.fHops.length : Int) == 0) = q5 at *
  generalize (decide (1 ≤ x.fClass) && decide (x.fClass ≤ 4)) = q6 at *
  generalize (x.fClass == 1) = q7 at *
  generalize (x.fClass == 4) = q8 at *
  generalize (decide (0 ≤ x.fMetric) && decide (x.fMetric ≤ 1073741824)) = q9 at *
  generalize (x.fMetric == 0) = q10 at *
  generalize (decide (0 ≤ x.fInner) && decide (x.fInner ≤ 1073741824)) = q11 at *
  generalize (x.fInner == 0) = q12 at *
  generalize (x.fTag == 0) = q13
  generalize (decide (1 ≤ x.fAdmin) && decide (x.fAdmin ≤ 255)) = q14
  generalize x.fDiscard = q15
  generalize (x.fPref == 0) = q16
  generalize ((x.fPath.length : Int) == 0) = q17
  generalize (x.fFrom == 0) = q18
  generalize (x.fNext == 0) = q19
  revert q1 q2 q3 q4 q5 q6 q7 q8 q9 q10 q11 q12 q13 q14 q15 q16 q17 q18 q19
  decide +kernel
theorem v_dv (x : TRoute) : (ascH x.fHops && admB x && S.route_validDistance x) = S.ref15_validDistance x := by
  unfold S.route_validDistance S.route_validDistance_k1 S.route_bare S.route_within S.ref15_validDistance S.ref15_plain S.ref15_within admB
  simp only [letS]
  have h1 := hops_many x.fHops
  have h2 := hops_one x.fHops
  have h0 := asc_nil (l := x.fHops)
  have c1 : (x.fMetric == 1) = true → (decide (1 ≤ x.fMetric) && decide (x.fMetric ≤ 15)) = true := by
    intro h; have : x.fMetric = 1 := by simpa using h
    rw [this]; decide
  cases hD : x.fDiscard with
  | true =>
    cases x.fClass == 1 <;> cases x.fClass == 2 <;> cases x.fClass == 3 <;> simp
  | false =>
    cases hP : ((x.fInner == 0) && (x.fPref == 0) && ((x.fPath.length : Int) == 0) && (x.fFrom == 0) && (x.fNext == 0)) with
    | false =>
      have e1 : ((x.fInner == 0) && (((x.fPref == 0) && ((x.fPath.length : Int) == 0)) && (x.fFrom == 0)) && (x.fNext == 0)) = false := by
        rw [← hP]
        cases (x.fInner == 0) <;> cases (x.fPref == 0) <;> cases ((x.fPath.length : Int) == 0) <;> cases (x.fFrom == 0) <;> cases (x.fNext == 0) <;> rfl
      simp only [Bool.false_or, e1]
      clear h1 h2 h0 c1 e1
      revert hP
      generalize (x.fInner == 0) = q1
      generalize (x.fPref == 0) = q2
      generalize ((x.fPath.length : Int) == 0) = q3
      generalize (x.fFrom == 0) = q4
      generalize (x.fNext == 0) = q5
      intro hP
      have e2 : ∀ m h d : Bool, (m && q1 && q2 && q4 && q5 && q3 && h && d) = false := by revert q1 q2 q3 q4 q5; decide +kernel
      simp only [e2]
      cases x.fClass == 1 <;> cases x.fClass == 2 <;> cases x.fClass == 3 <;> simp
    | true =>
      simp only [Bool.and_eq_true] at hP
      obtain ⟨⟨⟨⟨p1, p2⟩, p3⟩, p4⟩, p5⟩ := hP
      rw [p1, p2, p3, p4, p5]
      clear p1 p2 p3 p4 p5 hD
      generalize S.ref15_hops x.fHops false = q1 at *
      generalize S.ref15_hops x.fHops true = q2 at *
      generalize ascH x.fHops = q3 at *
      generalize S.route_indirect x.fHops = q4 at *
      generalize S.route_direct x.fHops = q5 at *
      generalize (decide ((x.fHops.length : Int) > 0)) = q6 at *
      generalize ((x.fHops.length : Int) == 0) = q7 at *
      generalize ((x.fHops.length : Int) == 1) = q8 at *
      generalize (decide (1 ≤ x.fMetric) && decide (x.fMetric ≤ 15)) = q9 at *
      generalize (x.fMetric == 1) = q10 at *
      generalize (x.fClass == 1) = q11
      generalize (x.fClass == 2) = q12
      generalize (x.fClass == 3) = q13
      generalize (x.fTag == 0) = q14
      generalize (decide (1 ≤ x.fAdmin) && decide (x.fAdmin ≤ 255)) = q15
      revert q1 q2 q3 q4 q5 q6 q7 q8 q9 q10 q11 q12 q13 q14 q15
      decide +kernel
theorem v_pv (x : TRoute) : (ascH x.fHops && admB x && S.route_validPathVector x) = S.ref15_validPath x := by
  unfold S.route_validPathVector S.route_validPathVector_k2 S.route_validPathVector_k1 S.route_bare S.route_within S.ref15_validPath S.ref15_validPath_k1 S.ref15_validPath_k2 S.ref15_plain S.ref15_within admB
  simp only [letS]
  have h1 := hops_from x.fHops (f := x.fFrom)
  have h0 := asc_nil (l := x.fHops)
  rw [show (x.fFrom == 0) = !(x.fFrom != 0) by simp [bne]]
  have c1 : (x.fClass == 1) = true → (x.fClass == 2) = false := by
    intro h; have : x.fClass = 1 := by simpa using h
    rw [this]; rfl
  cases hP : ((x.fInner == 0) && (x.fNext == 0)) with
  | false =>
    have e1 : ∀ b : Bool, ((x.fInner == 0) && b && (x.fNext == 0)) = false := by
      intro b; cases b <;> revert hP <;> cases (x.fInner == 0) <;> cases (x.fNext == 0) <;> simp
    have e2 : ∀ a p f q h d : Bool, (a && (x.fInner == 0) && p && f && (x.fNext == 0) && q && h && d) = false := by
      revert hP
      generalize (x.fInner == 0) = q1
      generalize (x.fNext == 0) = q2
      revert q1 q2; decide +kernel
    simp only [Bool.false_or, Bool.true_or, e1, e2]
    cases x.fClass == 1 <;> cases x.fClass == 2 <;> cases x.fClass == 3 <;> cases x.fClass == 4 <;> simp
  | true =>
    simp only [Bool.and_eq_true] at hP
    rw [hP.1, hP.2]
    clear hP
    generalize S.ref15_hops x.fHops false = q1 at *
    generalize ascH x.fHops = q2 at *
    generalize ((x.fHops.length : Int) == 0) = q3 at *
    generalize ((x.fHops.length : Int) == 1) = q4 at *
    generalize ((x.fHops.getD (0 : Int).toNat default).fAddr == x.fFrom) = q5 at *
    generalize (x.fFrom != 0) = q6 at *
    generalize (x.fClass == 1) = q7 at *
    generalize (x.fClass == 2) = q8 at *
    generalize (x.fClass == 3) = q9
    generalize (x.fClass == 4) = q10
    generalize (decide (1 ≤ x.fAdmin) && decide (x.fAdmin ≤ 255)) = q11
    generalize (decide (0 ≤ x.fMetric) && decide (x.fMetric ≤ 16777215)) = q12
    generalize (decide (0 ≤ x.fPref) && decide (x.fPref ≤ 1000000)) = q13
    generalize x.fDiscard = q14
    generalize ((x.fPath.length : Int) == 0) = q15
    generalize (decide ((x.fPath.length : Int) > 0)) = q16
    generalize (x.fPref == 0) = q17
    revert q1 q2 q3 q4 q5 q6 q7 q8 q9 q10 q11 q12 q13 q14 q15 q16 q17
    decide +kernel
theorem ref_path (x : TRoute) : runN (S.ref15_Valid_l1 x) (.inl () : Unit ⊕ Bool) 0 x.fPath.length = bif pathB x.fPath then .inl () else .inr false := by
  have e : runN (S.ref15_Valid_l1 x) (.inl () : Unit ⊕ Bool) 0 x.fPath.length = bif anyN (fun i => decide (x.fPath.getD i default < 1) || decide (x.fPath.getD i default > 65535)) x.fPath.length then .inr false else .inl () := by
    rw [← runN_any]
    refine runN_congr0 fun j _ => ?_
    unfold S.ref15_Valid_l1 S.ref15_within
    simp only [letS]
    by_cases h1 : x.fPath.getD j default < 1
    · have h2 : ¬ 1 ≤ x.fPath.getD j default := by omega
      simp only [h1, h2, decide_true, decide_false, Bool.false_and, Bool.not_false, Bool.true_or]
    · have h2 : 1 ≤ x.fPath.getD j default := by omega
      by_cases h3 : x.fPath.getD j default > 65535
      · have h4 : ¬ x.fPath.getD j default ≤ 65535 := by omega
        simp only [h1, h2, h3, h4, decide_true, decide_false, Bool.true_and, Bool.not_false, Bool.false_or]
      · have h4 : x.fPath.getD j default ≤ 65535 := by omega
        simp only [h1, h2, h3, h4, decide_true, decide_false, Bool.true_and, Bool.not_true, Bool.false_or]
  rw [e]
  unfold pathB
  cases anyN (fun i => decide (x.fPath.getD i default < 1) || decide (x.fPath.getD i default > 65535)) x.fPath.length <;> rfl
theorem v_conn (x : TRoute) : (ascH x.fHops && (((((x.fClass == 0) && (x.fAdmin == 0)) && (x.fTag == 0)) && S.route_direct x.fHops) && S.route_bare (⟨x.fPrefix, x.fProto, x.fClass, x.fAdmin, x.fMetric, x.fInner, x.fTag, x.fPref, x.fPath, x.fFrom, x.fNext, ([] : List THop), x.fDiscard⟩ : TRoute))) =
    (((((((x.fClass == 0) && (x.fAdmin == 0)) && (x.fMetric == 0)) && (x.fTag == 0)) && S.ref15_plain x false false false) && (!x.fDiscard)) && (((x.fHops.length : Int) == 1) && S.ref15_hops x.fHops true)) := by
  rw [hops_one]
  unfold S.route_bare S.ref15_plain
  dsimp only
  generalize ascH x.fHops = q1
  generalize S.route_direct x.fHops = q2
  generalize (x.fClass == 0) = q3
  generalize (x.fAdmin == 0) = q4
  generalize (x.fTag == 0) = q5
  generalize (x.fMetric == 0) = q6
  generalize (x.fInner == 0) = q7
  generalize (x.fPref == 0) = q8
  generalize (x.fFrom == 0) = q9
  generalize (x.fNext == 0) = q10
  generalize ((x.fPath.length : Int) == 0) = q11
  generalize x.fDiscard = q12
  revert q1 q2 q3 q4 q5 q6 q7 q8 q9 q10 q11 q12
  decide +kernel
theorem q_Valid (x : TRoute) : S.route_Valid x = S.ref15_Valid x := by
  unfold S.route_Valid S.ref15_Valid
  rw [common_eq, ref_path]
  simp only [letS]
  rw [← v_static, ← v_ls, ← v_dv, ← v_pv]
  have hc := v_conn x
  have ha : (decide (x.fAdmin < 1) || decide (x.fAdmin > 255)) = !admB x := by
    unfold admB
    by_cases h1 : x.fAdmin < 1
    · have h2 : ¬ 1 ≤ x.fAdmin := by omega
      simp only [h1, h2, decide_true, decide_false, Bool.false_and, Bool.not_false, Bool.true_or]
    · have h2 : 1 ≤ x.fAdmin := by omega
      by_cases h3 : x.fAdmin > 255
      · have h4 : ¬ x.fAdmin ≤ 255 := by omega
        simp only [h1, h2, h3, h4, decide_true, decide_false, Bool.true_and, Bool.not_false, Bool.false_or]
      · have h4 : x.fAdmin ≤ 255 := by omega
        simp only [h1, h2, h3, h4, decide_true, decide_false, Bool.true_and, Bool.not_true, Bool.false_or]
  rw [ha, show S.ref4_Valid x.fPrefix = S.addr_Valid x.fPrefix from rfl]
  unfold S.ref15_within
  generalize (decide (0 ≤ x.fTag) && decide (x.fTag ≤ 65535)) = q1
  generalize (decide ((x.fPath.length : Int) > 64)) = q2
  generalize S.addr_Valid x.fPrefix = q3
  generalize pathB x.fPath = q4
  cases q1 <;> cases q2 <;> cases q3 <;> cases q4 <;> simp only [Bool.not_true, Bool.not_false, Bool.or_true, Bool.or_false, Bool.true_or, Bool.false_or, Bool.and_false, Bool.and_true, Bool.false_and, Bool.true_and, cond_true, cond_false, Sum.elim_inl, Sum.elim_inr]
  cases x.fProto == 1 with
  | true =>
    simp only [cond_true]
    revert hc
    generalize S.route_bare (⟨x.fPrefix, x.fProto, x.fClass, x.fAdmin, x.fMetric, x.fInner, x.fTag, x.fPref, x.fPath, x.fFrom, x.fNext, ([] : List THop), x.fDiscard⟩ : TRoute) = q5
    generalize S.ref15_plain x false false false = q6
    generalize S.ref15_hops x.fHops true = q7
    generalize S.route_direct x.fHops = q8
    generalize ascH x.fHops = q9
    generalize (x.fClass == 0) = q10
    generalize (x.fAdmin == 0) = q11
    generalize (x.fTag == 0) = q12
    generalize (x.fMetric == 0) = q13
    generalize ((x.fHops.length : Int) == 1) = q14
    generalize x.fDiscard = q15
    revert q5 q6 q7 q8 q9 q10 q11 q12 q13 q14 q15
    decide +kernel
  | false =>
    simp only [cond_false]
    generalize S.route_validStatic x = q5
    generalize S.route_validLinkState x = q6
    generalize S.route_validDistance x = q7
    generalize S.route_validPathVector x = q8
    generalize ascH x.fHops = q9
    generalize admB x = q10
    cases x.fProto == 2 <;> cases x.fProto == 3 <;> cases x.fProto == 4 <;> cases x.fProto == 5 <;> cases q9 <;> cases q10 <;> rfl
end Nv
