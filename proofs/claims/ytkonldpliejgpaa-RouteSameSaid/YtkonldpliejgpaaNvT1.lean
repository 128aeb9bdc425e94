/- Total forms of the mirrors. -/
import Derived.Test.YtkonldpliejgpaaNvD1
import Derived.Test.YtkonldpliejgpaaNvTot
import Derived.Test.YtkonldpliejgpaaNvQ0
set_option maxRecDepth 100000
namespace Nv
open Go
def L_TRoute (x : TRoute) : Prop := (x.fPath.length ≤ maxLen) ∧ (x.fHops.length ≤ maxLen)
theorem L_TRoute.fPath {x : TRoute} (h : L_TRoute x) : x.fPath.length ≤ maxLen := h.1
theorem L_TRoute.fHops {x : TRoute} (h : L_TRoute x) : x.fHops.length ≤ maxLen := h.2
theorem L_TRoute.dflt : L_TRoute default := ⟨(Nat.zero_le _), (Nat.zero_le _)⟩
noncomputable def S.law14_few_l1 (a0 : List TRoute) (i1 : Nat) : Option (Unit ⊕ Bool) :=
  bif (decide ((((a0.getD i1 default).fPath).length : Int) > 68)) || (decide ((((a0.getD i1 default).fHops).length : Int) > 20)) then (some (.inr false)) else none
theorem s_law14_few_l1 (a0 : List TRoute) (ha0 : LL L_TRoute a0) (i0 : Nat) : loopM (M.law14_few_l1 a0) (i0 : Int) = some (runN (S.law14_few_l1 a0) (.inl ()) i0 (a0.length - i0)) := by
  have hM := maxLen_eq
  have hni1 : a0.length ≤ maxLen := ha0.1
  refine loop_runN (n := a0.length) (fun i1 hi1 => ?_) (fun m hm => ?_) i0
  · unfold M.law14_few_l1 S.law14_few_l1
    try simp only [Int.toNat_natCast]
    refine s_then (dt (by omega)) ?_
    refine s_gd (all_c (dt (by omega)) (all_c (dt (by omega)) (all_c (s_guard fun hg => (dt (by first | omega | (simp; omega) | (simp at *; omega)))) (all_c (s_guard fun hg => (dt (by first | omega | (simp; omega) | (simp at *; omega)))) all_n)))) ?_
    refine s_ifN (fun hb2 => ?_) (fun hb2 => ?_)
    · exact s_out
    · exact s_up (by omega)
  · unfold M.law14_few_l1
    try simp only [Int.toNat_natCast]
    exact s_else (decide_eq_false (by omega)) rfl
noncomputable def S.law14_few (a0 : List TRoute) : Bool :=
  bif decide ((a0.length : Int) > 40) then false else (letS (runN (S.law14_few_l1 a0) (.inl ()) 0 a0.length) (fun y3 => Sum.elim (fun _ => true) (fun y5 => y5) y3))
theorem s_law14_few (a0 : List TRoute) (ha0 : LL L_TRoute a0) : M.law14_few a0 = some (S.law14_few a0) := by
  have hM := maxLen_eq
  unfold M.law14_few S.law14_few
  refine s_if (fun hb1 => ?_) (fun hb1 => ?_)
  · rfl
  · refine s_bind (s_law14_few_l1 a0 ha0 0) (fun y3 hey3 => ?_)
    refine s_elim (fun _ hl => ?_) (fun y5 hly5 => ?_)
    · rfl
    · rfl
noncomputable def S.ref15_Same_l1 (a0 : TRoute) (a1 : TRoute) (i1 : Nat) : Option (Unit ⊕ Bool) :=
  bif (a0.fPath.getD i1 default) != (a1.fPath.getD i1 default) then (some (.inr false)) else none
theorem s_ref15_Same_l1 (a0 : TRoute) (a1 : TRoute) (ha0 : L_TRoute a0) (ha1 : L_TRoute a1) (hlen : a0.fPath.length = a1.fPath.length) (i0 : Nat) : loopM (M.ref15_Same_l1 a0 a1) (i0 : Int) = some (runN (S.ref15_Same_l1 a0 a1) (.inl ()) i0 (a0.fPath.length - i0)) := by
  have hM := maxLen_eq
  have hni1 : a0.fPath.length ≤ maxLen := (L_TRoute.fPath ha0)
  refine loop_runN (n := a0.fPath.length) (fun i1 hi1 => ?_) (fun m hm => ?_) i0
  · unfold M.ref15_Same_l1 S.ref15_Same_l1
    try simp only [Int.toNat_natCast]
    refine s_then (dt (by omega)) ?_
    refine s_gd (all_c (dt (by omega)) (all_c (dt (by omega)) (all_c (dt (by omega)) (all_c (dt (by omega)) all_n)))) ?_
    refine s_ifN (fun hb2 => ?_) (fun hb2 => ?_)
    · exact s_out
    · exact s_up (by omega)
  · unfold M.ref15_Same_l1
    try simp only [Int.toNat_natCast]
    exact s_else (decide_eq_false (by omega)) rfl
noncomputable def S.ref15_Same_l2 (a0 : TRoute) (a1 : TRoute) (i6 : Nat) : Option (Unit ⊕ Bool) :=
  bif !((((a0.fHops.getD i6 default).fIface) == ((a1.fHops.getD i6 default).fIface)) && ((((a0.fHops.getD i6 default).fAddr) == ((a1.fHops.getD i6 default).fAddr)) && true)) then (some (.inr false)) else none
theorem s_ref15_Same_l2 (a0 : TRoute) (a1 : TRoute) (ha0 : L_TRoute a0) (ha1 : L_TRoute a1) (hlen : a0.fHops.length = a1.fHops.length) (i0 : Nat) : loopM (M.ref15_Same_l2 a0 a1) (i0 : Int) = some (runN (S.ref15_Same_l2 a0 a1) (.inl ()) i0 (a0.fHops.length - i0)) := by
  have hM := maxLen_eq
  have hni6 : a0.fHops.length ≤ maxLen := (L_TRoute.fHops ha0)
  refine loop_runN (n := a0.fHops.length) (fun i6 hi6 => ?_) (fun m hm => ?_) i0
  · unfold M.ref15_Same_l2 S.ref15_Same_l2
    try simp only [Int.toNat_natCast]
    refine s_then (dt (by omega)) ?_
    refine s_gd (all_c (dt (by omega)) (all_c (dt (by omega)) (all_c (dt (by omega)) (all_c (dt (by omega)) all_n)))) ?_
    refine s_ifN (fun hb3 => ?_) (fun hb3 => ?_)
    · exact s_out
    · exact s_up (by omega)
  · unfold M.ref15_Same_l2
    try simp only [Int.toNat_natCast]
    exact s_else (decide_eq_false (by omega)) rfl
noncomputable def S.ref15_Same (a0 : TRoute) (a1 : TRoute) : Bool :=
  bif ((((((((((((!((a0.fPrefix.fAddr == a1.fPrefix.fAddr) && ((a0.fPrefix.fLen == a1.fPrefix.fLen) && true))) || (a0.fProto != a1.fProto)) || (a0.fClass != a1.fClass)) || (a0.fAdmin != a1.fAdmin)) || (a0.fMetric != a1.fMetric)) || (a0.fInner != a1.fInner)) || (a0.fTag != a1.fTag)) || (a0.fPref != a1.fPref)) || (a0.fFrom != a1.fFrom)) || (a0.fNext != a1.fNext)) || (!(a0.fDiscard == a1.fDiscard))) || ((a0.fPath.length : Int) != (a1.fPath.length : Int))) || ((a0.fHops.length : Int) != (a1.fHops.length : Int)) then false else (letS (runN (S.ref15_Same_l1 a0 a1) (.inl ()) 0 a0.fPath.length) (fun y3 => Sum.elim (fun _ => letS (runN (S.ref15_Same_l2 a0 a1) (.inl ()) 0 a0.fHops.length) (fun y8 => Sum.elim (fun _ => true) (fun y10 => y10) y8)) (fun y5 => y5) y3))
theorem s_ref15_Same (a0 : TRoute) (a1 : TRoute) (ha0 : L_TRoute a0) (ha1 : L_TRoute a1) : M.ref15_Same a0 a1 = some (S.ref15_Same a0 a1) := by
  have hM := maxLen_eq
  unfold M.ref15_Same S.ref15_Same
  refine s_if (fun hb1 => ?_) (fun hb1 => ?_)
  · rfl
  · refine s_bind (s_ref15_Same_l1 a0 a1 ha0 ha1 (by simp at *; omega) 0) (fun y3 hey3 => ?_)
    refine s_elim (fun _ hl => ?_) (fun y5 hly5 => ?_)
    · refine s_bind (s_ref15_Same_l2 a0 a1 ha0 ha1 (by simp at *; omega) 0) (fun y8 hey8 => ?_)
      refine s_elim (fun _ hl => ?_) (fun y10 hly10 => ?_)
      · rfl
      · rfl
    · rfl
noncomputable def S.slices_Equal_int_int_l1 (a0 : List Int) (a1 : List Int) (i1 : Nat) : Option (Unit ⊕ Bool) :=
  bif (a0.getD i1 default) != (a1.getD i1 default) then (some (.inr false)) else none
theorem s_slices_Equal_int_int_l1 (a0 : List Int) (a1 : List Int) (ha0 : a0.length ≤ maxLen) (ha1 : a1.length ≤ maxLen) (hlen : a0.length = a1.length) (i0 : Nat) : loopM (M.slices_Equal_int_int_l1 a0 a1) (i0 : Int) = some (runN (S.slices_Equal_int_int_l1 a0 a1) (.inl ()) i0 (a0.length - i0)) := by
  have hM := maxLen_eq
  have hni1 : a0.length ≤ maxLen := ha0
  refine loop_runN (n := a0.length) (fun i1 hi1 => ?_) (fun m hm => ?_) i0
  · unfold M.slices_Equal_int_int_l1 S.slices_Equal_int_int_l1
    try simp only [Int.toNat_natCast]
    refine s_then (dt (by omega)) ?_
    refine s_gd (all_c (dt (by omega)) (all_c (dt (by omega)) (all_c (dt (by omega)) (all_c (dt (by omega)) all_n)))) ?_
    refine s_ifN (fun hb2 => ?_) (fun hb2 => ?_)
    · exact s_out
    · exact s_up (by omega)
  · unfold M.slices_Equal_int_int_l1
    try simp only [Int.toNat_natCast]
    exact s_else (decide_eq_false (by omega)) rfl
noncomputable def S.slices_Equal_int_int (a0 : List Int) (a1 : List Int) : Bool :=
  bif (a0.length : Int) != (a1.length : Int) then false else (letS (runN (S.slices_Equal_int_int_l1 a0 a1) (.inl ()) 0 a0.length) (fun y3 => Sum.elim (fun _ => true) (fun y5 => y5) y3))
theorem s_slices_Equal_int_int (a0 : List Int) (a1 : List Int) (ha0 : a0.length ≤ maxLen) (ha1 : a1.length ≤ maxLen) : M.slices_Equal_int_int a0 a1 = some (S.slices_Equal_int_int a0 a1) := by
  have hM := maxLen_eq
  unfold M.slices_Equal_int_int S.slices_Equal_int_int
  refine s_if (fun hb1 => ?_) (fun hb1 => ?_)
  · rfl
  · refine s_bind (s_slices_Equal_int_int_l1 a0 a1 ha0 ha1 (by simp at *; omega) 0) (fun y3 hey3 => ?_)
    refine s_elim (fun _ hl => ?_) (fun y5 hly5 => ?_)
    · rfl
    · rfl
noncomputable def S.slices_Equal_api_Hop_api_Hop_l1 (a0 : List THop) (a1 : List THop) (i1 : Nat) : Option (Unit ⊕ Bool) :=
  bif !((((a0.getD i1 default).fIface) == ((a1.getD i1 default).fIface)) && ((((a0.getD i1 default).fAddr) == ((a1.getD i1 default).fAddr)) && true)) then (some (.inr false)) else none
theorem s_slices_Equal_api_Hop_api_Hop_l1 (a0 : List THop) (a1 : List THop) (ha0 : a0.length ≤ maxLen) (ha1 : a1.length ≤ maxLen) (hlen : a0.length = a1.length) (i0 : Nat) : loopM (M.slices_Equal_api_Hop_api_Hop_l1 a0 a1) (i0 : Int) = some (runN (S.slices_Equal_api_Hop_api_Hop_l1 a0 a1) (.inl ()) i0 (a0.length - i0)) := by
  have hM := maxLen_eq
  have hni1 : a0.length ≤ maxLen := ha0
  refine loop_runN (n := a0.length) (fun i1 hi1 => ?_) (fun m hm => ?_) i0
  · unfold M.slices_Equal_api_Hop_api_Hop_l1 S.slices_Equal_api_Hop_api_Hop_l1
    try simp only [Int.toNat_natCast]
    refine s_then (dt (by omega)) ?_
    refine s_gd (all_c (dt (by omega)) (all_c (dt (by omega)) (all_c (dt (by omega)) (all_c (dt (by omega)) all_n)))) ?_
    refine s_ifN (fun hb2 => ?_) (fun hb2 => ?_)
    · exact s_out
    · exact s_up (by omega)
  · unfold M.slices_Equal_api_Hop_api_Hop_l1
    try simp only [Int.toNat_natCast]
    exact s_else (decide_eq_false (by omega)) rfl
noncomputable def S.slices_Equal_api_Hop_api_Hop (a0 : List THop) (a1 : List THop) : Bool :=
  bif (a0.length : Int) != (a1.length : Int) then false else (letS (runN (S.slices_Equal_api_Hop_api_Hop_l1 a0 a1) (.inl ()) 0 a0.length) (fun y3 => Sum.elim (fun _ => true) (fun y5 => y5) y3))
theorem s_slices_Equal_api_Hop_api_Hop (a0 : List THop) (a1 : List THop) (ha0 : a0.length ≤ maxLen) (ha1 : a1.length ≤ maxLen) : M.slices_Equal_api_Hop_api_Hop a0 a1 = some (S.slices_Equal_api_Hop_api_Hop a0 a1) := by
  have hM := maxLen_eq
  unfold M.slices_Equal_api_Hop_api_Hop S.slices_Equal_api_Hop_api_Hop
  refine s_if (fun hb1 => ?_) (fun hb1 => ?_)
  · rfl
  · refine s_bind (s_slices_Equal_api_Hop_api_Hop_l1 a0 a1 ha0 ha1 (by simp at *; omega) 0) (fun y3 hey3 => ?_)
    refine s_elim (fun _ hl => ?_) (fun y5 hly5 => ?_)
    · rfl
    · rfl
noncomputable def S.route_Same (a0 : TRoute) (a1 : TRoute) : Bool :=
  letS (bif (((((((((a0.fPrefix.fAddr == a1.fPrefix.fAddr) && ((a0.fPrefix.fLen == a1.fPrefix.fLen) && true)) && (a0.fProto == a1.fProto)) && (a0.fClass == a1.fClass)) && (a0.fAdmin == a1.fAdmin)) && (a0.fMetric == a1.fMetric)) && (a0.fInner == a1.fInner)) && (a0.fTag == a1.fTag)) && (a0.fPref == a1.fPref)) then S.slices_Equal_int_int a0.fPath a1.fPath else default) (fun r1 => letS (bif ((((((((((((a0.fPrefix.fAddr == a1.fPrefix.fAddr) && ((a0.fPrefix.fLen == a1.fPrefix.fLen) && true)) && (a0.fProto == a1.fProto)) && (a0.fClass == a1.fClass)) && (a0.fAdmin == a1.fAdmin)) && (a0.fMetric == a1.fMetric)) && (a0.fInner == a1.fInner)) && (a0.fTag == a1.fTag)) && (a0.fPref == a1.fPref)) && r1) && (a0.fFrom == a1.fFrom)) && (a0.fNext == a1.fNext)) then S.slices_Equal_api_Hop_api_Hop a0.fHops a1.fHops else default) (fun r2 => (((((((((((((a0.fPrefix.fAddr == a1.fPrefix.fAddr) && ((a0.fPrefix.fLen == a1.fPrefix.fLen) && true)) && (a0.fProto == a1.fProto)) && (a0.fClass == a1.fClass)) && (a0.fAdmin == a1.fAdmin)) && (a0.fMetric == a1.fMetric)) && (a0.fInner == a1.fInner)) && (a0.fTag == a1.fTag)) && (a0.fPref == a1.fPref)) && r1) && (a0.fFrom == a1.fFrom)) && (a0.fNext == a1.fNext)) && r2) && (a0.fDiscard == a1.fDiscard)))
theorem s_route_Same (a0 : TRoute) (a1 : TRoute) (ha0 : L_TRoute a0) (ha1 : L_TRoute a1) : M.route_Same a0 a1 = some (S.route_Same a0 a1) := by
  have hM := maxLen_eq
  unfold M.route_Same S.route_Same
  refine s_bind (s_gc fun hg => (s_slices_Equal_int_int a0.fPath a1.fPath (L_TRoute.fPath ha0) (L_TRoute.fPath ha1))) (fun r1 her1 => ?_)
  refine s_bind (s_gc fun hg => (s_slices_Equal_api_Hop_api_Hop a0.fHops a1.fHops (L_TRoute.fHops ha0) (L_TRoute.fHops ha1))) (fun r2 her2 => ?_)
  rfl
noncomputable def S.slices_EqualFunc_api_Route_api_Route_api_Route_api_Route__route_Same_l1 (a0 : List TRoute) (a1 : List TRoute) (i1 : Nat) : Option (Unit ⊕ Bool) :=
  letS (S.route_Same (a0.getD i1 default) (a1.getD i1 default)) (fun r3 => bif !r3 then (some (.inr false)) else none)
theorem s_slices_EqualFunc_api_Route_api_Route_api_Route_api_Route__route_Same_l1 (a0 : List TRoute) (a1 : List TRoute) (ha0 : LL L_TRoute a0) (ha1 : LL L_TRoute a1) (hlen : a0.length = a1.length) (i0 : Nat) : loopM (M.slices_EqualFunc_api_Route_api_Route_api_Route_api_Route__route_Same_l1 a0 a1) (i0 : Int) = some (runN (S.slices_EqualFunc_api_Route_api_Route_api_Route_api_Route__route_Same_l1 a0 a1) (.inl ()) i0 (a0.length - i0)) := by
  have hM := maxLen_eq
  have hni1 : a0.length ≤ maxLen := ha0.1
  refine loop_runN (n := a0.length) (fun i1 hi1 => ?_) (fun m hm => ?_) i0
  · unfold M.slices_EqualFunc_api_Route_api_Route_api_Route_api_Route__route_Same_l1 S.slices_EqualFunc_api_Route_api_Route_api_Route_api_Route__route_Same_l1
    try simp only [Int.toNat_natCast]
    refine s_then (dt (by omega)) ?_
    refine s_gd (all_c (dt (by omega)) (all_c (dt (by omega)) all_n)) ?_
    refine s_gd (all_c (dt (by omega)) (all_c (dt (by omega)) all_n)) ?_
    refine s_bindN (s_route_Same (a0.getD i1 default) (a1.getD i1 default) (LL.getD ha0 L_TRoute.dflt i1) (LL.getD ha1 L_TRoute.dflt i1)) (fun r3 her3 => ?_)
    refine s_ifN (fun hb2 => ?_) (fun hb2 => ?_)
    · exact s_out
    · exact s_up (by omega)
  · unfold M.slices_EqualFunc_api_Route_api_Route_api_Route_api_Route__route_Same_l1
    try simp only [Int.toNat_natCast]
    exact s_else (decide_eq_false (by omega)) rfl
noncomputable def S.slices_EqualFunc_api_Route_api_Route_api_Route_api_Route__route_Same (a0 : List TRoute) (a1 : List TRoute) : Bool :=
  bif (a0.length : Int) != (a1.length : Int) then false else (letS (runN (S.slices_EqualFunc_api_Route_api_Route_api_Route_api_Route__route_Same_l1 a0 a1) (.inl ()) 0 a0.length) (fun y4 => Sum.elim (fun _ => true) (fun y6 => y6) y4))
theorem s_slices_EqualFunc_api_Route_api_Route_api_Route_api_Route__route_Same (a0 : List TRoute) (a1 : List TRoute) (ha0 : LL L_TRoute a0) (ha1 : LL L_TRoute a1) : M.slices_EqualFunc_api_Route_api_Route_api_Route_api_Route__route_Same a0 a1 = some (S.slices_EqualFunc_api_Route_api_Route_api_Route_api_Route__route_Same a0 a1) := by
  have hM := maxLen_eq
  unfold M.slices_EqualFunc_api_Route_api_Route_api_Route_api_Route__route_Same S.slices_EqualFunc_api_Route_api_Route_api_Route_api_Route__route_Same
  refine s_if (fun hb1 => ?_) (fun hb1 => ?_)
  · rfl
  · refine s_bind (s_slices_EqualFunc_api_Route_api_Route_api_Route_api_Route__route_Same_l1 a0 a1 ha0 ha1 (by simp at *; omega) 0) (fun y4 hey4 => ?_)
    refine s_elim (fun _ hl => ?_) (fun y6 hly6 => ?_)
    · rfl
    · rfl
noncomputable def S.route_SameAll (a0 : List TRoute) (a1 : List TRoute) : Bool :=
  letS (S.slices_EqualFunc_api_Route_api_Route_api_Route_api_Route__route_Same a0 a1) (fun r1 => r1)
theorem s_route_SameAll (a0 : List TRoute) (a1 : List TRoute) (ha0 : LL L_TRoute a0) (ha1 : LL L_TRoute a1) : M.route_SameAll a0 a1 = some (S.route_SameAll a0 a1) := by
  have hM := maxLen_eq
  unfold M.route_SameAll S.route_SameAll
  refine s_bind (s_slices_EqualFunc_api_Route_api_Route_api_Route_api_Route__route_Same a0 a1 ha0 ha1) (fun r1 her1 => ?_)
  rfl
end Nv
