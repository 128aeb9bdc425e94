/- The plain law of RouteSame: Same is equality. -/
import Derived.Test.YtkonldpliejgpaaNvT1
import Derived.Test.YtkonldpliejgpaaNvLW
import Derived.Test.YtkonldpliejgpaaNvRun
import Derived.Test.YtkonldpliejgpaaNvMask
import Derived.Test.YtkonldpliejgpaaNvS1
set_option maxRecDepth 100000
namespace Nv
open Go
theorem ext_getD {α : Type} [Inhabited α] {l m : List α} (hl : l.length = m.length) (h : ∀ i, i < l.length → l.getD i default = m.getD i default) : l = m := by
  refine List.ext_getElem hl fun i h1 h2 => ?_
  have := h i h1
  simpa [h1, h2] using this
theorem q_eqInt (l m : List Int) : S.slices_Equal_int_int l m = true ↔ l = m := by
  unfold S.slices_Equal_int_int
  simp only [letS]
  rw [show runN (S.slices_Equal_int_int_l1 l m) (.inl () : Unit ⊕ Bool) 0 l.length = bif anyN (fun i => l.getD i default != m.getD i default) l.length then .inr false else .inl () from runN_any _ _ _ _]
  constructor
  · intro h
    cases h1 : ((l.length : Int) != (m.length : Int)) with
    | true => rw [h1] at h; cases h
    | false =>
      rw [h1] at h
      have hl : l.length = m.length := by have : (l.length : Int) = m.length := by simpa using h1
                                          omega
      cases h2 : anyN (fun i => l.getD i default != m.getD i default) l.length with
      | true => rw [h2] at h; cases h
      | false => exact ext_getD hl fun i hi => by have := anyN_false.1 h2 i hi; simpa using this
  · rintro rfl
    have e : anyN (fun i => l.getD i default != l.getD i default) l.length = false := anyN_false.2 fun i _ => by simp
    rw [e]
    simp
theorem hop_ext {a b : THop} : ((a.fIface == b.fIface) && ((a.fAddr == b.fAddr) && true)) = true ↔ a = b := by
  cases a; cases b; simp
theorem q_eqHop (l m : List THop) : S.slices_Equal_api_Hop_api_Hop l m = true ↔ l = m := by
  unfold S.slices_Equal_api_Hop_api_Hop
  simp only [letS]
  rw [show runN (S.slices_Equal_api_Hop_api_Hop_l1 l m) (.inl () : Unit ⊕ Bool) 0 l.length = bif anyN (fun i => !(((l.getD i default).fIface == (m.getD i default).fIface) && (((l.getD i default).fAddr == (m.getD i default).fAddr) && true))) l.length then .inr false else .inl () from runN_any _ _ _ _]
  constructor
  · intro h
    cases h1 : ((l.length : Int) != (m.length : Int)) with
    | true => rw [h1] at h; cases h
    | false =>
      rw [h1] at h
      have hl : l.length = m.length := by have : (l.length : Int) = m.length := by simpa using h1
                                          omega
      cases h2 : anyN (fun i => !(((l.getD i default).fIface == (m.getD i default).fIface) && (((l.getD i default).fAddr == (m.getD i default).fAddr) && true))) l.length with
      | true => rw [h2] at h; cases h
      | false =>
        exact ext_getD hl fun i hi => by
          have h3 := anyN_false.1 h2 i hi
          rw [Bool.not_eq_false'] at h3
          exact hop_ext.1 h3
  · rintro rfl
    have e : anyN (fun i => !(((l.getD i default).fIface == (l.getD i default).fIface) && (((l.getD i default).fAddr == (l.getD i default).fAddr) && true))) l.length = false := anyN_false.2 fun i _ => by simp
    rw [e]
    simp
theorem route_ext {a b : TRoute} (h : a.fPrefix.fAddr = b.fPrefix.fAddr ∧ a.fPrefix.fLen = b.fPrefix.fLen ∧ a.fProto = b.fProto ∧ a.fClass = b.fClass ∧ a.fAdmin = b.fAdmin ∧ a.fMetric = b.fMetric ∧ a.fInner = b.fInner ∧ a.fTag = b.fTag ∧ a.fPref = b.fPref ∧ a.fPath = b.fPath ∧ a.fFrom = b.fFrom ∧ a.fNext = b.fNext ∧ a.fHops = b.fHops ∧ a.fDiscard = b.fDiscard) : a = b := by
  obtain ⟨⟨x1, x2⟩, x3, x4, x5, x6, x7, x8, x9, x10, x11, x12, x13, x14⟩ := a
  obtain ⟨⟨y1, y2⟩, y3, y4, y5, y6, y7, y8, y9, y10, y11, y12, y13, y14⟩ := b
  obtain ⟨h1, h2, h3, h4, h5, h6, h7, h8, h9, h10, h11, h12, h13, h14⟩ := h
  simp only at h1 h2 h3 h4 h5 h6 h7 h8 h9 h10 h11 h12 h13 h14
  subst h1 h2 h3 h4 h5 h6 h7 h8 h9 h10 h11 h12 h13 h14
  rfl
theorem and_bif {a b : Bool} : (a && (bif a then b else default)) = (a && b) := by cases a <;> rfl
theorem q_Same (a b : TRoute) : S.route_Same a b = true ↔ a = b := by
  unfold S.route_Same
  simp only [letS, and_bif]
  constructor
  · intro h
    simp only [Bool.and_eq_true, Bool.and_true, beq_iff_eq, q_eqInt, q_eqHop] at h
    refine route_ext ?_
    simp_all
  · rintro rfl
    have e1 : S.slices_Equal_int_int a.fPath a.fPath = true := (q_eqInt _ _).2 rfl
    have e2 : S.slices_Equal_api_Hop_api_Hop a.fHops a.fHops = true := (q_eqHop _ _).2 rfl
    rw [e1, e2]
    simp
theorem q_RefSame (a b : TRoute) : S.ref15_Same a b = true ↔ a = b := by
  unfold S.ref15_Same
  simp only [letS]
  rw [show runN (S.ref15_Same_l1 a b) (.inl () : Unit ⊕ Bool) 0 a.fPath.length = bif anyN (fun i => a.fPath.getD i default != b.fPath.getD i default) a.fPath.length then .inr false else .inl () from runN_any _ _ _ _]
  rw [show runN (S.ref15_Same_l2 a b) (.inl () : Unit ⊕ Bool) 0 a.fHops.length = bif anyN (fun i => !(((a.fHops.getD i default).fIface == (b.fHops.getD i default).fIface) && (((a.fHops.getD i default).fAddr == (b.fHops.getD i default).fAddr) && true))) a.fHops.length then .inr false else .inl () from runN_any _ _ _ _]
  constructor
  · intro h
    generalize hg : (((((((((((((!((a.fPrefix.fAddr == b.fPrefix.fAddr) && ((a.fPrefix.fLen == b.fPrefix.fLen) && true))) || (a.fProto != b.fProto)) || (a.fClass != b.fClass)) || (a.fAdmin != b.fAdmin)) || (a.fMetric != b.fMetric)) || (a.fInner != b.fInner)) || (a.fTag != b.fTag)) || (a.fPref != b.fPref)) || (a.fFrom != b.fFrom)) || (a.fNext != b.fNext)) || (!(a.fDiscard == b.fDiscard))) || ((a.fPath.length : Int) != (b.fPath.length : Int))) || ((a.fHops.length : Int) != (b.fHops.length : Int))) = gg at h
    cases gg with
    | true => cases h
    | false =>
      simp only [Bool.or_eq_false_iff, Bool.not_eq_false', Bool.and_true, Bool.and_eq_true, beq_iff_eq, bne_eq_false_iff_eq] at hg
      cases h1 : anyN (fun i => a.fPath.getD i default != b.fPath.getD i default) a.fPath.length with
      | true => rw [h1] at h; cases h
      | false =>
        rw [h1] at h
        cases h2 : anyN (fun i => !(((a.fHops.getD i default).fIface == (b.fHops.getD i default).fIface) && (((a.fHops.getD i default).fAddr == (b.fHops.getD i default).fAddr) && true))) a.fHops.length with
        | true => rw [h2] at h; cases h
        | false =>
          have p1 : a.fPath = b.fPath := ext_getD (by have := hg.1.2; omega) fun i hi => by have := anyN_false.1 h1 i hi; simpa using this
          have p2 : a.fHops = b.fHops := ext_getD (by have := hg.2; omega) fun i hi => by
            have h3 := anyN_false.1 h2 i hi
            rw [Bool.not_eq_false'] at h3
            exact hop_ext.1 h3
          refine route_ext ?_
          simp_all
  · rintro rfl
    have e1 : anyN (fun i => a.fPath.getD i default != a.fPath.getD i default) a.fPath.length = false := anyN_false.2 fun i _ => by simp
    have e2 : anyN (fun i => !(((a.fHops.getD i default).fIface == (a.fHops.getD i default).fIface) && (((a.fHops.getD i default).fAddr == (a.fHops.getD i default).fAddr) && true))) a.fHops.length = false := anyN_false.2 fun i _ => by simp
    rw [e1, e2]
    simp

theorem q_SameAll1 (a b : TRoute) : S.route_SameAll [a] [b] = S.route_Same a b := by
  unfold S.route_SameAll S.slices_EqualFunc_api_Route_api_Route_api_Route_api_Route__route_Same
  simp only [letS]
  rw [show runN (S.slices_EqualFunc_api_Route_api_Route_api_Route_api_Route__route_Same_l1 [a] [b]) (.inl () : Unit ⊕ Bool) 0 [a].length = bif anyN (fun i => !S.route_Same ([a].getD i default) ([b].getD i default)) [a].length then .inr false else .inl () from runN_any _ _ _ _]
  simp only [List.length_singleton, anyN]
  cases h : S.route_Same a b <;> simp [h]
theorem q_SameAll2 (a b c d : TRoute) : S.route_SameAll [a, b] [c, d] = (S.route_Same a c && S.route_Same b d) := by
  unfold S.route_SameAll S.slices_EqualFunc_api_Route_api_Route_api_Route_api_Route__route_Same
  simp only [letS]
  rw [show runN (S.slices_EqualFunc_api_Route_api_Route_api_Route_api_Route__route_Same_l1 [a, b] [c, d]) (.inl () : Unit ⊕ Bool) 0 [a, b].length = bif anyN (fun i => !S.route_Same ([a, b].getD i default) ([c, d].getD i default)) [a, b].length then .inr false else .inl () from runN_any _ _ _ _]
  simp only [List.length_cons, List.length_nil, anyN]
  cases h : S.route_Same a c <;> cases h2 : S.route_Same b d <;> simp [h, h2]
theorem q_SameAll12 (a b c : TRoute) : S.route_SameAll [a] [b, c] = false := by
  unfold S.route_SameAll S.slices_EqualFunc_api_Route_api_Route_api_Route_api_Route__route_Same
  simp [letS]
theorem same_false {a b : TRoute} (h : b ≠ a) : S.route_Same a b = false := by
  cases hs : S.route_Same a b with
  | false => rfl
  | true => exact absurd ((q_Same a b).1 hs).symm h
theorem same_comm (a b : TRoute) : S.route_Same a b = S.route_Same b a := by
  rw [Bool.eq_iff_iff, q_Same, q_Same]; exact eq_comm
theorem same_ref (a b : TRoute) : S.ref15_Same a b = S.route_Same a b := by
  rw [Bool.eq_iff_iff, q_Same, q_RefSame]
theorem same_self (a : TRoute) : S.route_Same a a = true := (q_Same a a).2 rfl
theorem k1_ok (a0 : TRoute) (p8 : Int × Int × Int × Int × Int × Int × Int × Int × Int × (List Int) × Int × Int × (List THop) × Bool) (h0 : L_TRoute a0) (hL : L_TRoute (⟨(⟨p8.1, p8.2.1⟩ : TPrefix), p8.2.2.1, p8.2.2.2.1, p8.2.2.2.2.1, p8.2.2.2.2.2.1, p8.2.2.2.2.2.2.1, p8.2.2.2.2.2.2.2.1, p8.2.2.2.2.2.2.2.2.1, p8.2.2.2.2.2.2.2.2.2.1, p8.2.2.2.2.2.2.2.2.2.2.1, p8.2.2.2.2.2.2.2.2.2.2.2.1, p8.2.2.2.2.2.2.2.2.2.2.2.2.1, p8.2.2.2.2.2.2.2.2.2.2.2.2.2⟩ : TRoute)) (hne : (⟨(⟨p8.1, p8.2.1⟩ : TPrefix), p8.2.2.1, p8.2.2.2.1, p8.2.2.2.2.1, p8.2.2.2.2.2.1, p8.2.2.2.2.2.2.1, p8.2.2.2.2.2.2.2.1, p8.2.2.2.2.2.2.2.2.1, p8.2.2.2.2.2.2.2.2.2.1, p8.2.2.2.2.2.2.2.2.2.2.1, p8.2.2.2.2.2.2.2.2.2.2.2.1, p8.2.2.2.2.2.2.2.2.2.2.2.2.1, p8.2.2.2.2.2.2.2.2.2.2.2.2.2⟩ : TRoute) ≠ a0) : M.law14_RouteSame_k1 a0 p8 = some true := by
  unfold M.law14_RouteSame_k1
  have e1 := s_route_Same a0 (⟨(⟨p8.1, p8.2.1⟩ : TPrefix), p8.2.2.1, p8.2.2.2.1, p8.2.2.2.2.1, p8.2.2.2.2.2.1, p8.2.2.2.2.2.2.1, p8.2.2.2.2.2.2.2.1, p8.2.2.2.2.2.2.2.2.1, p8.2.2.2.2.2.2.2.2.2.1, p8.2.2.2.2.2.2.2.2.2.2.1, p8.2.2.2.2.2.2.2.2.2.2.2.1, p8.2.2.2.2.2.2.2.2.2.2.2.2.1, p8.2.2.2.2.2.2.2.2.2.2.2.2.2⟩ : TRoute) h0 hL
  have e2 := s_route_SameAll [(⟨(⟨p8.1, p8.2.1⟩ : TPrefix), p8.2.2.1, p8.2.2.2.1, p8.2.2.2.2.1, p8.2.2.2.2.2.1, p8.2.2.2.2.2.2.1, p8.2.2.2.2.2.2.2.1, p8.2.2.2.2.2.2.2.2.1, p8.2.2.2.2.2.2.2.2.2.1, p8.2.2.2.2.2.2.2.2.2.2.1, p8.2.2.2.2.2.2.2.2.2.2.2.1, p8.2.2.2.2.2.2.2.2.2.2.2.2.1, p8.2.2.2.2.2.2.2.2.2.2.2.2.2⟩ : TRoute)] [a0] ⟨by simp [maxLen_eq], by simpa using hL⟩ ⟨by simp [maxLen_eq], by simpa using h0⟩
  rw [q_SameAll1, same_comm, same_false hne] at e2
  rw [same_false hne] at e1
  rw [e1, e2, sane_some]
  rfl
theorem xor_par (k : Nat) : (k ^^^ 1) % 2 = (k + 1) % 2 := by
  have h : (k ^^^ 1) % 2 ^ 1 = (k % 2 ^ 1) ^^^ (1 % 2 ^ 1) := Nat.xor_mod_two_pow
  simp only [Nat.pow_one] at h
  rw [h]
  rcases Nat.mod_two_eq_zero_or_one k with e | e
  · rw [e, Nat.add_mod, e]; rfl
  · rw [e, Nat.add_mod, e]; rfl
theorem xor_i64 (x : Int) : bitD .xor .i64 x 1 ≠ x := by
  intro h
  have h1 : IntKind.wrap .i64 (((BitVec.ofInt 64 x) ^^^ (BitVec.ofInt 64 1)).toNat : Int) = x := h
  have h2 : ((BitVec.ofInt 64 x) ^^^ (BitVec.ofInt 64 1)).toNat % 2 = ((BitVec.ofInt 64 x).toNat + 1) % 2 := by
    rw [BitVec.toNat_xor]
    exact xor_par _
  have h3 : ((BitVec.ofInt 64 x).toNat : Int) = x % 18446744073709551616 := by
    rw [BitVec.toNat_ofInt]; omega
  have h4 := ((BitVec.ofInt 64 x) ^^^ (BitVec.ofInt 64 1)).isLt
  generalize ((BitVec.ofInt 64 x) ^^^ (BitVec.ofInt 64 1)).toNat = m at *
  generalize (BitVec.ofInt 64 x).toNat = k at *
  have h5 : ∃ q : Int, IntKind.wrap .i64 (m : Int) = (m : Int) - 2 * q := by
    simp only [IntKind.wrap, IntKind.bits, IntKind.signed, Bool.true_and, decide_eq_true_eq]
    split
    · exact ⟨9223372036854775808, by omega⟩
    · exact ⟨0, by omega⟩
  obtain ⟨q, hq⟩ := h5
  omega
theorem xor_u32ne (x : Int) : bitD .xor .u32 x 1 ≠ x := by
  intro h
  rw [xor_u32] at h
  have h2 : (B32 x ^^^ B32 1).toNat % 2 = ((B32 x).toNat + 1) % 2 := by
    rw [BitVec.toNat_xor]
    exact xor_par _
  have h3 : ((B32 x).toNat : Int) = x % 4294967296 := by
    unfold B32; rw [BitVec.toNat_ofInt]; omega
  omega
theorem few_len {l : List TRoute} (h : S.law14_few l = true) (i : Nat) (hi : i < l.length) : (l.getD i default).fPath.length ≤ 68 ∧ (l.getD i default).fHops.length ≤ 20 := by
  unfold S.law14_few at h
  simp only [letS] at h
  rw [show runN (S.law14_few_l1 l) (.inl () : Unit ⊕ Bool) 0 l.length = bif anyN (fun i => decide (((l.getD i default).fPath.length : Int) > 68) || decide (((l.getD i default).fHops.length : Int) > 20)) l.length then .inr false else .inl () from runN_any _ _ _ _] at h
  cases h1 : decide ((l.length : Int) > 40) with
  | true => rw [h1] at h; cases h
  | false =>
    rw [h1] at h
    cases h2 : anyN (fun i => decide (((l.getD i default).fPath.length : Int) > 68) || decide (((l.getD i default).fHops.length : Int) > 20)) l.length with
    | true => rw [h2] at h; cases h
    | false =>
      have h3 := anyN_false.1 h2 i hi
      simp only [Bool.or_eq_false_iff, decide_eq_false_iff_not] at h3
      omega
theorem plain_RouteSame (a0 a1 : TRoute) (a2 : Int) (w0 : W_TRoute a0) (w1 : W_TRoute a1) (_w2 : (Lit.int .i64 a2).wf = true) : M.law14_RouteSame a0 a1 a2 = some true := by
  have h0 := LofW_TRoute w0
  have h1 := LofW_TRoute w1
  have LL2 : ∀ x y : TRoute, L_TRoute x → L_TRoute y → LL L_TRoute [x, y] := fun x y hx hy => ⟨by simp [maxLen_eq], by simp only [List.mem_cons, List.not_mem_nil, or_false, forall_eq_or_imp, forall_eq]; exact ⟨hx, hy⟩⟩
  have LL1 : ∀ x : TRoute, L_TRoute x → LL L_TRoute [x] := fun x hx => ⟨by simp [maxLen_eq], by simpa using hx⟩
  unfold M.law14_RouteSame
  rw [s_law14_few [a0, a1] (LL2 a0 a1 h0 h1)]
  cases hf : S.law14_few [a0, a1] with
  | false => rfl
  | true =>
    have hlen := few_len hf 0 (by simp)
    simp only [List.getD_cons_zero] at hlen
    rw [s_ref15_Same a0 a1 h0 h1, s_route_Same a0 a1 h0 h1, s_route_Same a1 a0 h1 h0, s_route_Same a0 a0 h0 h0, s_route_SameAll [a0, a1] [a1, a0] (LL2 a0 a1 h0 h1) (LL2 a1 a0 h1 h0), s_route_SameAll [a0] [a0, a0] (LL1 a0 h0) (LL2 a0 a0 h0 h0),
      same_ref, same_comm a1 a0, same_self, q_SameAll2, q_SameAll12, same_comm a1 a0]
    generalize S.route_Same a0 a1 = b
    cases b
    all_goals simp only [gc, Option.bind_some, beq_self_eq_true, Bool.not_true, Bool.not_false, Bool.or_false, Bool.and_self, cond_true, cond_false]
    all_goals refine cond_ind (p := fun z => z = some true) (k1_ok a0 _ h0 ⟨h0.1, h0.2⟩ (fun h => xor_i64 a0.fPrefix.fLen (congrArg (fun z => z.fPrefix.fLen) h))) ?_
    all_goals refine cond_ind (p := fun z => z = some true) (k1_ok a0 _ h0 ⟨h0.1, h0.2⟩ (fun h => xor_i64 a0.fProto (congrArg (fun z => z.fProto) h))) ?_
    all_goals refine cond_ind (p := fun z => z = some true) (k1_ok a0 _ h0 ⟨h0.1, h0.2⟩ (fun h => xor_i64 a0.fClass (congrArg (fun z => z.fClass) h))) ?_
    all_goals refine cond_ind (p := fun z => z = some true) (k1_ok a0 _ h0 ⟨h0.1, h0.2⟩ (fun h => xor_i64 a0.fAdmin (congrArg (fun z => z.fAdmin) h))) ?_
    all_goals refine cond_ind (p := fun z => z = some true) (k1_ok a0 _ h0 ⟨h0.1, h0.2⟩ (fun h => xor_i64 a0.fMetric (congrArg (fun z => z.fMetric) h))) ?_
    all_goals refine cond_ind (p := fun z => z = some true) (k1_ok a0 _ h0 ⟨h0.1, h0.2⟩ (fun h => xor_i64 a0.fInner (congrArg (fun z => z.fInner) h))) ?_
    all_goals refine cond_ind (p := fun z => z = some true) (k1_ok a0 _ h0 ⟨h0.1, h0.2⟩ (fun h => xor_i64 a0.fTag (congrArg (fun z => z.fTag) h))) ?_
    all_goals refine cond_ind (p := fun z => z = some true) (k1_ok a0 _ h0 ⟨h0.1, h0.2⟩ (fun h => xor_i64 a0.fPref (congrArg (fun z => z.fPref) h))) ?_
    all_goals refine cond_ind (p := fun z => z = some true) (s_gd (all_c (by simp) (all_c (dt (by omega)) (all_c (dt (by omega)) all_n))) (k1_ok a0 _ h0 ⟨by simp [maxLen_eq]; omega, h0.2⟩ (fun h => by have := congrArg (fun z => z.fPath.length) h; simp at this))) ?_
    all_goals refine cond_ind (p := fun z => z = some true) (k1_ok a0 _ h0 ⟨h0.1, h0.2⟩ (fun h => xor_u32ne a0.fFrom (congrArg (fun z => z.fFrom) h))) ?_
    all_goals refine cond_ind (p := fun z => z = some true) (k1_ok a0 _ h0 ⟨h0.1, h0.2⟩ (fun h => xor_u32ne a0.fNext (congrArg (fun z => z.fNext) h))) ?_
    all_goals refine cond_ind (p := fun z => z = some true) (s_gd (all_c (by simp) (all_c (dt (by omega)) (all_c (dt (by omega)) all_n))) (k1_ok a0 _ h0 ⟨h0.1, by simp [maxLen_eq]; omega⟩ (fun h => by have := congrArg (fun z => z.fHops.length) h; simp at this))) ?_
    all_goals refine cond_ind (p := fun z => z = some true) (k1_ok a0 _ h0 ⟨h0.1, h0.2⟩ (fun h => by have := congrArg (fun z => z.fDiscard) h; simp at this)) ?_
    all_goals refine cond_ind (p := fun z => z = some true) (k1_ok a0 _ h0 ⟨h0.1, h0.2⟩ (fun h => xor_u32ne a0.fPrefix.fAddr (congrArg (fun z => z.fPrefix.fAddr) h))) ?_
    all_goals rw [sane_some]
    all_goals rfl
end Nv
