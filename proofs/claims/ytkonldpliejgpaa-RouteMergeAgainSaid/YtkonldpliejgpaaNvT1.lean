/- Total forms of the mirrors. -/
import Derived.Test.YtkonldpliejgpaaNvD1
import Derived.Test.YtkonldpliejgpaaNvLibB
import Derived.Test.YtkonldpliejgpaaNvQ0
set_option maxRecDepth 100000
namespace Nv
open Go
def L_TRoute (x : TRoute) : Prop := (x.fPath.length ≤ maxLen) ∧ (x.fHops.length ≤ maxLen)
theorem L_TRoute.fPath {x : TRoute} (h : L_TRoute x) : x.fPath.length ≤ maxLen := h.1
theorem L_TRoute.fHops {x : TRoute} (h : L_TRoute x) : x.fHops.length ≤ maxLen := h.2
theorem L_TRoute.dflt : L_TRoute default := ⟨(Nat.zero_le _), (Nat.zero_le _)⟩
noncomputable def S.law14_few_l1 (a0 : List TRoute) (i1 : Nat) : Option (Unit ⊕ Bool) :=
  bif (decide ((((a0.getD i1 default).fPath).length : Int) > 68)) || (decide ((((a0.getD i1 default).fHops).length : Int) > 20)) then (some (.inr false)) else none
theorem s_law14_few_l1 (a0 : List TRoute) (ha0 : LL L_TRoute a0) (i0 : Nat) : loopM (M.law14_few_l1 a0) (i0 : Int) = some (runN (S.law14_few_l1 a0) (.inl ()) i0 (a0.length - i0)) := by
  have hM := maxLen_eq
  have hni1 : a0.length ≤ maxLen := ha0.1
  refine loop_runN (n := a0.length) (fun i1 hi1 => ?_) (fun m hm => ?_) i0
  · unfold M.law14_few_l1 S.law14_few_l1
    try simp only [Int.toNat_natCast]
    refine s_then (dt (by omega)) ?_
    refine s_gd (all_c (dt (by omega)) (all_c (dt (by omega)) (all_c (s_guard fun hg => (dt (by first | omega | (simp; omega) | (simp at *; omega)))) (all_c (s_guard fun hg => (dt (by first | omega | (simp; omega) | (simp at *; omega)))) all_n)))) ?_
    refine s_ifN (fun hb2 => ?_) (fun hb2 => ?_)
    · exact s_out
    · exact s_up (by omega)
  · unfold M.law14_few_l1
    try simp only [Int.toNat_natCast]
    exact s_else (decide_eq_false (by omega)) rfl
noncomputable def S.law14_few (a0 : List TRoute) : Bool :=
  bif decide ((a0.length : Int) > 40) then false else (letS (runN (S.law14_few_l1 a0) (.inl ()) 0 a0.length) (fun y3 => Sum.elim (fun _ => true) (fun y5 => y5) y3))
theorem s_law14_few (a0 : List TRoute) (ha0 : LL L_TRoute a0) : M.law14_few a0 = some (S.law14_few a0) := by
  have hM := maxLen_eq
  unfold M.law14_few S.law14_few
  refine s_if (fun hb1 => ?_) (fun hb1 => ?_)
  · rfl
  · refine s_bind (s_law14_few_l1 a0 ha0 0) (fun y3 hey3 => ?_)
    refine s_elim (fun _ hl => ?_) (fun y5 hly5 => ?_)
    · rfl
    · rfl
noncomputable def S.ref4_Valid (a0 : TPrefix) : Bool :=
  letS (bif ((decide (a0.fLen ≥ 0)) && (decide (a0.fLen ≤ 32))) then S.ref4_Mask a0.fLen else default) (fun r1 => ((decide (a0.fLen ≥ 0)) && (decide (a0.fLen ≤ 32))) && ((bitD .andNot .u32 a0.fAddr r1) == 0))
theorem s_ref4_Valid (a0 : TPrefix)  : M.ref4_Valid a0 = some (S.ref4_Valid a0) := by
  have hM := maxLen_eq
  unfold M.ref4_Valid S.ref4_Valid
  refine s_bind (s_gc fun hg => (s_ref4_Mask a0.fLen)) (fun r1 her1 => ?_)
  rfl
noncomputable def S.ref15_within (a0 : Int) (a1 : Int) (a2 : Int) : Bool :=
  (decide (a1 ≤ a0)) && (decide (a0 ≤ a2))
theorem s_ref15_within (a0 : Int) (a1 : Int) (a2 : Int)  : M.ref15_within a0 a1 a2 = some (S.ref15_within a0 a1 a2) := by
  have hM := maxLen_eq
  unfold M.ref15_within S.ref15_within
  rfl
noncomputable def S.ref15_plain (a0 : TRoute) (a1 : Bool) (a2 : Bool) (a3 : Bool) : Bool :=
  ((a1 || (a0.fInner == 0)) && (a2 || (((a0.fPref == 0) && ((a0.fPath.length : Int) == 0)) && (a0.fFrom == 0)))) && (a3 || (a0.fNext == 0))
theorem s_ref15_plain (a0 : TRoute) (a1 : Bool) (a2 : Bool) (a3 : Bool) (ha0 : L_TRoute a0) : M.ref15_plain a0 a1 a2 a3 = some (S.ref15_plain a0 a1 a2 a3) := by
  have hM := maxLen_eq
  unfold M.ref15_plain S.ref15_plain
  rfl
noncomputable def S.ref15_lessHop (a0 : THop) (a1 : THop) : Bool :=
  (decide (a0.fIface < a1.fIface)) || ((a0.fIface == a1.fIface) && (decide (a0.fAddr < a1.fAddr)))
theorem s_ref15_lessHop (a0 : THop) (a1 : THop)  : M.ref15_lessHop a0 a1 = some (S.ref15_lessHop a0 a1) := by
  have hM := maxLen_eq
  unfold M.ref15_lessHop S.ref15_lessHop
  rfl
noncomputable def S.ref15_hops_l1 (a0 : List THop) (a1 : Bool) (i1 : Nat) : Option (Unit ⊕ Bool) :=
  letS (bif ((!(decide (((a0.getD i1 default).fIface) < 0))) && (decide ((i1 : Int) > 0))) then S.ref15_lessHop (a0.getD (wr .i64 ((i1 : Int) - 1)).toNat default) (a0.getD i1 default) else default) (fun r3 => bif ((decide (((a0.getD i1 default).fIface) < 0)) || ((decide ((i1 : Int) > 0)) && (!r3))) || (!((((a0.getD i1 default).fAddr) == 0) == a1)) then (some (.inr false)) else none)
theorem s_ref15_hops_l1 (a0 : List THop) (a1 : Bool) (ha0 : a0.length ≤ maxLen) (i0 : Nat) : loopM (M.ref15_hops_l1 a0 a1) (i0 : Int) = some (runN (S.ref15_hops_l1 a0 a1) (.inl ()) i0 (a0.length - i0)) := by
  have hM := maxLen_eq
  have hni1 : a0.length ≤ maxLen := ha0
  refine loop_runN (n := a0.length) (fun i1 hi1 => ?_) (fun m hm => ?_) i0
  · unfold M.ref15_hops_l1 S.ref15_hops_l1
    try simp only [Int.toNat_natCast]
    have hdi1 : wr .i64 ((i1 : Int) - 1) = (i1 : Int) - 1 := wr_i64 (by omega)
    refine s_then (dt (by omega)) ?_
    refine s_bindN (s_gc fun hg => (s_ref15_lessHop (a0.getD (wr .i64 ((i1 : Int) - 1)).toNat default) (a0.getD i1 default))) (fun r3 her3 => ?_)
    refine s_gd (all_c (dt (by omega)) (all_c (dt (by omega)) (all_c (s_guard fun hg => (dt (by first | omega | (simp; omega) | (simp at *; omega)))) (all_c (s_guard fun hg => (dt (by first | omega | (simp; omega) | (simp at *; omega)))) (all_c (s_guard fun hg => (dt (by first | omega | (simp; omega) | (simp at *; omega)))) (all_c (s_guard fun hg => (dt (by first | omega | (simp; omega) | (simp at *; omega)))) (all_c (s_guard fun hg => (dt (by first | omega | (simp; omega) | (simp at *; omega)))) (all_c (s_guard fun hg => (dt (by first | omega | (simp; omega) | (simp at *; omega)))) all_n)))))))) ?_
    refine s_ifN (fun hb1 => ?_) (fun hb1 => ?_)
    · exact s_out
    · exact s_up (by omega)
  · unfold M.ref15_hops_l1
    try simp only [Int.toNat_natCast]
    exact s_else (decide_eq_false (by omega)) rfl
noncomputable def S.ref15_hops (a0 : List THop) (a1 : Bool) : Bool :=
  letS (runN (S.ref15_hops_l1 a0 a1) (.inl ()) 0 a0.length) (fun y4 => Sum.elim (fun _ => true) (fun y6 => y6) y4)
theorem s_ref15_hops (a0 : List THop) (a1 : Bool) (ha0 : a0.length ≤ maxLen) : M.ref15_hops a0 a1 = some (S.ref15_hops a0 a1) := by
  have hM := maxLen_eq
  unfold M.ref15_hops S.ref15_hops
  refine s_bind (s_ref15_hops_l1 a0 a1 ha0 0) (fun y4 hey4 => ?_)
  refine s_elim (fun _ hl => ?_) (fun y6 hly6 => ?_)
  · rfl
  · rfl
noncomputable def S.ref15_validStatic (a0 : TRoute) : Bool :=
  letS (bif (!((a0.fClass != 0) || (a0.fMetric != 0))) then S.ref15_within a0.fAdmin 1 255 else default) (fun r1 => letS (bif (!(((a0.fClass != 0) || (a0.fMetric != 0)) || (!r1))) then S.ref15_plain a0 false false true else default) (fun r2 => bif (((a0.fClass != 0) || (a0.fMetric != 0)) || (!r1)) || (!r2) then false else (bif a0.fNext != 0 then (((a0.fHops.length : Int) == 0) && (!a0.fDiscard)) else (bif a0.fDiscard then ((a0.fHops.length : Int) == 0) else (letS (bif ((a0.fHops.length : Int) == 1) then S.ref15_hops a0.fHops true else default) (fun r3 => ((a0.fHops.length : Int) == 1) && r3))))))
theorem s_ref15_validStatic (a0 : TRoute) (ha0 : L_TRoute a0) : M.ref15_validStatic a0 = some (S.ref15_validStatic a0) := by
  have hM := maxLen_eq
  unfold M.ref15_validStatic S.ref15_validStatic
  refine s_bind (s_gc fun hg => (s_ref15_within a0.fAdmin 1 255)) (fun r1 her1 => ?_)
  refine s_bind (s_gc fun hg => (s_ref15_plain a0 false false true ha0)) (fun r2 her2 => ?_)
  refine s_if (fun hb1 => ?_) (fun hb1 => ?_)
  · rfl
  · refine s_if (fun hb2 => ?_) (fun hb2 => ?_)
    · rfl
    · refine s_if (fun hb3 => ?_) (fun hb3 => ?_)
      · rfl
      · refine s_bind (s_gc fun hg => (s_ref15_hops a0.fHops true (L_TRoute.fHops ha0))) (fun r3 her3 => ?_)
        rfl
noncomputable def S.ref15_validLinkState (a0 : TRoute) : Bool :=
  letS (S.ref15_within a0.fClass 1 4) (fun r1 => letS (bif (!(!r1)) then S.ref15_within a0.fAdmin 1 255 else default) (fun r2 => letS (bif (!((!r1) || (!r2))) then S.ref15_within a0.fMetric 0 1073741824 else default) (fun r3 => letS (bif (!(((!r1) || (!r2)) || (!r3))) then S.ref15_plain a0 true false false else default) (fun r4 => bif (((!r1) || (!r2)) || (!r3)) || (!r4) then false else (letS (S.ref15_within a0.fInner 0 1073741824) (fun r5 => bif (!r5) || ((a0.fClass != 4) && (a0.fInner != 0)) then false else (bif a0.fDiscard then ((((a0.fClass == 1) && (a0.fMetric == 0)) && (a0.fTag == 0)) && ((a0.fHops.length : Int) == 0)) else (letS (bif (decide ((a0.fHops.length : Int) > 0)) then S.ref15_hops a0.fHops false else default) (fun r6 => (decide ((a0.fHops.length : Int) > 0)) && r6)))))))))
theorem s_ref15_validLinkState (a0 : TRoute) (ha0 : L_TRoute a0) : M.ref15_validLinkState a0 = some (S.ref15_validLinkState a0) := by
  have hM := maxLen_eq
  unfold M.ref15_validLinkState S.ref15_validLinkState
  refine s_bind (s_ref15_within a0.fClass 1 4) (fun r1 her1 => ?_)
  refine s_bind (s_gc fun hg => (s_ref15_within a0.fAdmin 1 255)) (fun r2 her2 => ?_)
  refine s_bind (s_gc fun hg => (s_ref15_within a0.fMetric 0 1073741824)) (fun r3 her3 => ?_)
  refine s_bind (s_gc fun hg => (s_ref15_plain a0 true false false ha0)) (fun r4 her4 => ?_)
  refine s_if (fun hb1 => ?_) (fun hb1 => ?_)
  · rfl
  · refine s_bind (s_ref15_within a0.fInner 0 1073741824) (fun r5 her5 => ?_)
    refine s_if (fun hb2 => ?_) (fun hb2 => ?_)
    · rfl
    · refine s_if (fun hb3 => ?_) (fun hb3 => ?_)
      · rfl
      · refine s_bind (s_gc fun hg => (s_ref15_hops a0.fHops false (L_TRoute.fHops ha0))) (fun r6 her6 => ?_)
        rfl
noncomputable def S.ref15_validDistance (a0 : TRoute) : Bool :=
  letS (S.ref15_within a0.fAdmin 1 255) (fun r1 => letS (bif (!(!r1)) then S.ref15_within a0.fMetric 1 15 else default) (fun r2 => letS (bif (!((!r1) || (!r2))) then S.ref15_plain a0 false false false else default) (fun r3 => bif (((!r1) || (!r2)) || (!r3)) || a0.fDiscard then false else (bif a0.fClass == 1 then (letS (bif (((a0.fMetric == 1) && (a0.fTag == 0)) && ((a0.fHops.length : Int) == 1)) then S.ref15_hops a0.fHops true else default) (fun r4 => (((a0.fMetric == 1) && (a0.fTag == 0)) && ((a0.fHops.length : Int) == 1)) && r4)) else (bif a0.fClass == 2 then ((a0.fHops.length : Int) == 0) else (bif a0.fClass == 3 then (letS (bif (decide ((a0.fHops.length : Int) > 0)) then S.ref15_hops a0.fHops false else default) (fun r5 => (decide ((a0.fHops.length : Int) > 0)) && r5)) else false))))))
theorem s_ref15_validDistance (a0 : TRoute) (ha0 : L_TRoute a0) : M.ref15_validDistance a0 = some (S.ref15_validDistance a0) := by
  have hM := maxLen_eq
  unfold M.ref15_validDistance S.ref15_validDistance
  refine s_bind (s_ref15_within a0.fAdmin 1 255) (fun r1 her1 => ?_)
  refine s_bind (s_gc fun hg => (s_ref15_within a0.fMetric 1 15)) (fun r2 her2 => ?_)
  refine s_bind (s_gc fun hg => (s_ref15_plain a0 false false false ha0)) (fun r3 her3 => ?_)
  refine s_if (fun hb1 => ?_) (fun hb1 => ?_)
  · rfl
  · refine s_if (fun hb2 => ?_) (fun hb2 => ?_)
    · refine s_bind (s_gc fun hg => (s_ref15_hops a0.fHops true (L_TRoute.fHops ha0))) (fun r4 her4 => ?_)
      rfl
    · refine s_if (fun hb3 => ?_) (fun hb3 => ?_)
      · rfl
      · refine s_if (fun hb4 => ?_) (fun hb4 => ?_)
        · refine s_bind (s_gc fun hg => (s_ref15_hops a0.fHops false (L_TRoute.fHops ha0))) (fun r5 her5 => ?_)
          rfl
        · rfl
noncomputable def S.ref15_validPath_k2 (a0 : TRoute) (p6 : Bool) : Bool :=
  bif p6 then (letS (bif ((((a0.fClass == 4) || (decide ((a0.fPath.length : Int) > 0))) && (a0.fFrom != 0)) && ((a0.fHops.length : Int) == 1)) then S.ref15_hops a0.fHops false else default) (fun r7 => ((((((a0.fClass == 4) || (decide ((a0.fPath.length : Int) > 0))) && (a0.fFrom != 0)) && ((a0.fHops.length : Int) == 1)) && r7) && (((a0.fHops.getD (0 : Int).toNat default).fAddr) == a0.fFrom)) && (!a0.fDiscard))) else false
theorem s_ref15_validPath_k2 (a0 : TRoute) (p6 : Bool) (ha0 : L_TRoute a0) : M.ref15_validPath_k2 a0 p6 = some (S.ref15_validPath_k2 a0 p6) := by
  have hM := maxLen_eq
  unfold M.ref15_validPath_k2 S.ref15_validPath_k2
  refine s_if (fun hb5 => ?_) (fun hb5 => ?_)
  · refine s_bind (s_gc fun hg => (s_ref15_hops a0.fHops false (L_TRoute.fHops ha0))) (fun r7 her7 => ?_)
    refine s_gd (all_c (s_guard fun hg => (dt (by first | omega | (simp; omega) | (simp at *; omega)))) (all_c (s_guard fun hg => (dt (by first | omega | (simp; omega) | (simp at *; omega)))) all_n)) ?_
    rfl
  · rfl
noncomputable def S.ref15_validPath_k1 (a0 : TRoute) (p5 : Bool) : Bool :=
  bif p5 then (((((a0.fPath.length : Int) == 0) && (a0.fFrom == 0)) && ((a0.fHops.length : Int) == 0)) && (a0.fDiscard == (a0.fClass == 2))) else (bif a0.fClass == 3 then (S.ref15_validPath_k2 a0 (a0.fClass == 3)) else (S.ref15_validPath_k2 a0 (a0.fClass == 4)))
theorem s_ref15_validPath_k1 (a0 : TRoute) (p5 : Bool) (ha0 : L_TRoute a0) : M.ref15_validPath_k1 a0 p5 = some (S.ref15_validPath_k1 a0 p5) := by
  have hM := maxLen_eq
  unfold M.ref15_validPath_k1 S.ref15_validPath_k1
  refine s_if (fun hb3 => ?_) (fun hb3 => ?_)
  · rfl
  · refine s_if (fun hb4 => ?_) (fun hb4 => ?_)
    · exact s_ref15_validPath_k2 a0 (a0.fClass == 3) ha0
    · exact s_ref15_validPath_k2 a0 (a0.fClass == 4) ha0
noncomputable def S.ref15_validPath (a0 : TRoute) : Bool :=
  letS (S.ref15_within a0.fAdmin 1 255) (fun r1 => letS (bif (!(!r1)) then S.ref15_within a0.fMetric 0 16777215 else default) (fun r2 => letS (bif (!((!r1) || (!r2))) then S.ref15_within a0.fPref 0 1000000 else default) (fun r3 => letS (bif (!(((!r1) || (!r2)) || (!r3))) then S.ref15_plain a0 false true false else default) (fun r4 => bif (((!r1) || (!r2)) || (!r3)) || (!r4) then false else (bif a0.fClass == 1 then (S.ref15_validPath_k1 a0 (a0.fClass == 1)) else (S.ref15_validPath_k1 a0 (a0.fClass == 2)))))))
theorem s_ref15_validPath (a0 : TRoute) (ha0 : L_TRoute a0) : M.ref15_validPath a0 = some (S.ref15_validPath a0) := by
  have hM := maxLen_eq
  unfold M.ref15_validPath S.ref15_validPath
  refine s_bind (s_ref15_within a0.fAdmin 1 255) (fun r1 her1 => ?_)
  refine s_bind (s_gc fun hg => (s_ref15_within a0.fMetric 0 16777215)) (fun r2 her2 => ?_)
  refine s_bind (s_gc fun hg => (s_ref15_within a0.fPref 0 1000000)) (fun r3 her3 => ?_)
  refine s_bind (s_gc fun hg => (s_ref15_plain a0 false true false ha0)) (fun r4 her4 => ?_)
  refine s_if (fun hb1 => ?_) (fun hb1 => ?_)
  · rfl
  · refine s_if (fun hb2 => ?_) (fun hb2 => ?_)
    · exact s_ref15_validPath_k1 a0 (a0.fClass == 1) ha0
    · exact s_ref15_validPath_k1 a0 (a0.fClass == 2) ha0
noncomputable def S.ref15_Valid_l1 (a0 : TRoute) (i3 : Nat) : Option (Unit ⊕ Bool) :=
  letS (S.ref15_within (a0.fPath.getD i3 default) 1 65535) (fun r5 => bif !r5 then (some (.inr false)) else none)
theorem s_ref15_Valid_l1 (a0 : TRoute) (ha0 : L_TRoute a0) (i0 : Nat) : loopM (M.ref15_Valid_l1 a0) (i0 : Int) = some (runN (S.ref15_Valid_l1 a0) (.inl ()) i0 (a0.fPath.length - i0)) := by
  have hM := maxLen_eq
  have hni3 : a0.fPath.length ≤ maxLen := (L_TRoute.fPath ha0)
  refine loop_runN (n := a0.fPath.length) (fun i3 hi3 => ?_) (fun m hm => ?_) i0
  · unfold M.ref15_Valid_l1 S.ref15_Valid_l1
    try simp only [Int.toNat_natCast]
    refine s_then (dt (by omega)) ?_
    refine s_bindN (s_ref15_within (a0.fPath.getD i3 default) 1 65535) (fun r5 her5 => ?_)
    refine s_gd (all_c (dt (by omega)) (all_c (dt (by omega)) all_n)) ?_
    refine s_ifN (fun hb2 => ?_) (fun hb2 => ?_)
    · exact s_out
    · exact s_up (by omega)
  · unfold M.ref15_Valid_l1
    try simp only [Int.toNat_natCast]
    exact s_else (decide_eq_false (by omega)) rfl
noncomputable def S.ref15_Valid (a0 : TRoute) : Bool :=
  letS (S.ref4_Valid a0.fPrefix) (fun r1 => letS (bif (!(!r1)) then S.ref15_within a0.fTag 0 65535 else default) (fun r2 => bif ((!r1) || (!r2)) || (decide ((a0.fPath.length : Int) > 64)) then false else (letS (runN (S.ref15_Valid_l1 a0) (.inl ()) 0 a0.fPath.length) (fun y6 => Sum.elim (fun _ => bif a0.fProto == 1 then (letS (bif ((((a0.fClass == 0) && (a0.fAdmin == 0)) && (a0.fMetric == 0)) && (a0.fTag == 0)) then S.ref15_plain a0 false false false else default) (fun r9 => letS (bif (((((((a0.fClass == 0) && (a0.fAdmin == 0)) && (a0.fMetric == 0)) && (a0.fTag == 0)) && r9) && (!a0.fDiscard)) && ((a0.fHops.length : Int) == 1)) then S.ref15_hops a0.fHops true else default) (fun r10 => (((((((a0.fClass == 0) && (a0.fAdmin == 0)) && (a0.fMetric == 0)) && (a0.fTag == 0)) && r9) && (!a0.fDiscard)) && ((a0.fHops.length : Int) == 1)) && r10))) else (bif a0.fProto == 2 then (letS (S.ref15_validStatic a0) (fun r11 => r11)) else (bif a0.fProto == 3 then (letS (S.ref15_validLinkState a0) (fun r12 => r12)) else (bif a0.fProto == 4 then (letS (S.ref15_validDistance a0) (fun r13 => r13)) else (bif a0.fProto == 5 then (letS (S.ref15_validPath a0) (fun r14 => r14)) else false))))) (fun y8 => y8) y6))))
theorem s_ref15_Valid (a0 : TRoute) (ha0 : L_TRoute a0) : M.ref15_Valid a0 = some (S.ref15_Valid a0) := by
  have hM := maxLen_eq
  unfold M.ref15_Valid S.ref15_Valid
  refine s_bind (s_ref4_Valid a0.fPrefix) (fun r1 her1 => ?_)
  refine s_bind (s_gc fun hg => (s_ref15_within a0.fTag 0 65535)) (fun r2 her2 => ?_)
  refine s_if (fun hb1 => ?_) (fun hb1 => ?_)
  · rfl
  · refine s_bind (s_ref15_Valid_l1 a0 ha0 0) (fun y6 hey6 => ?_)
    refine s_elim (fun _ hl => ?_) (fun y8 hly8 => ?_)
    · refine s_if (fun hb3 => ?_) (fun hb3 => ?_)
      · refine s_bind (s_gc fun hg => (s_ref15_plain a0 false false false ha0)) (fun r9 her9 => ?_)
        refine s_bind (s_gc fun hg => (s_ref15_hops a0.fHops true (L_TRoute.fHops ha0))) (fun r10 her10 => ?_)
        rfl
      · refine s_if (fun hb4 => ?_) (fun hb4 => ?_)
        · refine s_bind (s_ref15_validStatic a0 ha0) (fun r11 her11 => ?_)
          rfl
        · refine s_if (fun hb5 => ?_) (fun hb5 => ?_)
          · refine s_bind (s_ref15_validLinkState a0 ha0) (fun r12 her12 => ?_)
            rfl
          · refine s_if (fun hb6 => ?_) (fun hb6 => ?_)
            · refine s_bind (s_ref15_validDistance a0 ha0) (fun r13 her13 => ?_)
              rfl
            · refine s_if (fun hb7 => ?_) (fun hb7 => ?_)
              · refine s_bind (s_ref15_validPath a0 ha0) (fun r14 her14 => ?_)
                rfl
              · rfl
    · rfl
noncomputable def S.law14_One_l1 (a0 : List TRoute) (i2 : Nat) : Option (Unit ⊕ Bool) :=
  letS (S.ref15_Valid (a0.getD i2 default)) (fun r4 => bif (!r4) || (((a0.getD i2 default).fProto) != ((a0.getD (0 : Int).toNat default).fProto)) then (some (.inr false)) else none)
theorem s_law14_One_l1 (a0 : List TRoute) (ha0 : LL L_TRoute a0) (i0 : Nat) : loopM (M.law14_One_l1 a0) (i0 : Int) = some (runN (S.law14_One_l1 a0) (.inl ()) i0 (a0.length - i0)) := by
  have hM := maxLen_eq
  have hni2 : a0.length ≤ maxLen := ha0.1
  refine loop_runN (n := a0.length) (fun i2 hi2 => ?_) (fun m hm => ?_) i0
  · unfold M.law14_One_l1 S.law14_One_l1
    try simp only [Int.toNat_natCast]
    refine s_then (dt (by omega)) ?_
    refine s_bindN (s_ref15_Valid (a0.getD i2 default) (LL.getD ha0 L_TRoute.dflt i2)) (fun r4 her4 => ?_)
    refine s_gd (all_c (dt (by omega)) (all_c (dt (by omega)) (all_c (s_guard fun hg => (dt (by first | omega | (simp; omega) | (simp at *; omega)))) (all_c (s_guard fun hg => (dt (by first | omega | (simp; omega) | (simp at *; omega)))) (all_c (s_guard fun hg => (dt (by first | omega | (simp; omega) | (simp at *; omega)))) (all_c (s_guard fun hg => (dt (by first | omega | (simp; omega) | (simp at *; omega)))) all_n)))))) ?_
    refine s_ifN (fun hb2 => ?_) (fun hb2 => ?_)
    · exact s_out
    · exact s_up (by omega)
  · unfold M.law14_One_l1
    try simp only [Int.toNat_natCast]
    exact s_else (decide_eq_false (by omega)) rfl
noncomputable def S.law14_One (a0 : List TRoute) : Bool :=
  letS (S.law14_few a0) (fun r1 => bif !r1 then false else (letS (runN (S.law14_One_l1 a0) (.inl ()) 0 a0.length) (fun y5 => Sum.elim (fun _ => true) (fun y7 => y7) y5)))
theorem s_law14_One (a0 : List TRoute) (ha0 : LL L_TRoute a0) : M.law14_One a0 = some (S.law14_One a0) := by
  have hM := maxLen_eq
  unfold M.law14_One S.law14_One
  refine s_bind (s_law14_few a0 ha0) (fun r1 her1 => ?_)
  refine s_if (fun hb1 => ?_) (fun hb1 => ?_)
  · rfl
  · refine s_bind (s_law14_One_l1 a0 ha0 0) (fun y5 hey5 => ?_)
    refine s_elim (fun _ hl => ?_) (fun y7 hly7 => ?_)
    · rfl
    · rfl
noncomputable def S.ref4_Compare (a0 : TPrefix) (a1 : TPrefix) : Int :=
  bif (decide (a0.fAddr < a1.fAddr)) || ((a0.fAddr == a1.fAddr) && (decide (a0.fLen < a1.fLen))) then (-1) else (bif ((a0.fAddr == a1.fAddr) && ((a0.fLen == a1.fLen) && true)) then 0 else 1)
theorem s_ref4_Compare (a0 : TPrefix) (a1 : TPrefix)  : M.ref4_Compare a0 a1 = some (S.ref4_Compare a0 a1) := by
  have hM := maxLen_eq
  unfold M.ref4_Compare S.ref4_Compare
  refine s_if (fun hb1 => ?_) (fun hb1 => ?_)
  · rfl
  · refine s_if (fun hb2 => ?_) (fun hb2 => ?_)
    · rfl
    · rfl
noncomputable def S.ref15_rank (a0 : TRoute) : Arr7Int :=
  bif a0.fProto == 3 then (⟨a0.fClass, a0.fMetric, a0.fInner, a0.fTag, 0, 0, 0⟩ : Arr7Int) else (bif a0.fProto == 4 then (⟨a0.fMetric, a0.fClass, a0.fTag, 0, 0, 0, 0⟩ : Arr7Int) else (bif a0.fProto == 5 then (⟨if 3 < a0.fClass then 3 else a0.fClass, wr .i64 (1000000 - a0.fPref), (a0.fPath.length : Int), a0.fMetric, a0.fClass, wr .i64 a0.fFrom, 0⟩ : Arr7Int) else (⟨a0.fAdmin, 0, 0, 0, 0, 0, 0⟩ : Arr7Int)))
theorem s_ref15_rank (a0 : TRoute) (ha0 : L_TRoute a0) : M.ref15_rank a0 = some (S.ref15_rank a0) := by
  have hM := maxLen_eq
  unfold M.ref15_rank S.ref15_rank
  refine s_if (fun hb1 => ?_) (fun hb1 => ?_)
  · rfl
  · refine s_if (fun hb2 => ?_) (fun hb2 => ?_)
    · rfl
    · refine s_if (fun hb3 => ?_) (fun hb3 => ?_)
      · rfl
      · rfl
noncomputable def S.ref15_Prefer (a0 : TRoute) (a1 : TRoute) : Int :=
  letS (S.ref15_rank a0) (fun r1 => letS (S.ref15_rank a1) (fun r2 => bif decide (r1.a0 < r2.a0) then (-1) else (bif decide (r1.a0 > r2.a0) then 1 else (bif decide (r1.a1 < r2.a1) then (-1) else (bif decide (r1.a1 > r2.a1) then 1 else (bif decide (r1.a2 < r2.a2) then (-1) else (bif decide (r1.a2 > r2.a2) then 1 else (bif decide (r1.a3 < r2.a3) then (-1) else (bif decide (r1.a3 > r2.a3) then 1 else (bif decide (r1.a4 < r2.a4) then (-1) else (bif decide (r1.a4 > r2.a4) then 1 else (bif decide (r1.a5 < r2.a5) then (-1) else (bif decide (r1.a5 > r2.a5) then 1 else (bif decide (r1.a6 < r2.a6) then (-1) else (bif decide (r1.a6 > r2.a6) then 1 else 0)))))))))))))))
theorem s_ref15_Prefer (a0 : TRoute) (a1 : TRoute) (ha0 : L_TRoute a0) (ha1 : L_TRoute a1) : M.ref15_Prefer a0 a1 = some (S.ref15_Prefer a0 a1) := by
  have hM := maxLen_eq
  unfold M.ref15_Prefer S.ref15_Prefer
  refine s_bind (s_ref15_rank a0 ha0) (fun r1 her1 => ?_)
  refine s_bind (s_ref15_rank a1 ha1) (fun r2 her2 => ?_)
  refine s_gd (all_c (by simp_all) (all_c (by simp_all) (all_c (by simp_all) (all_c (by simp_all) all_n)))) ?_
  refine s_if (fun hb1 => ?_) (fun hb1 => ?_)
  · rfl
  · refine s_gd (all_c (by simp_all) (all_c (by simp_all) (all_c (by simp_all) (all_c (by simp_all) all_n)))) ?_
    refine s_if (fun hb2 => ?_) (fun hb2 => ?_)
    · rfl
    · refine s_gd (all_c (by simp_all) (all_c (by simp_all) (all_c (by simp_all) (all_c (by simp_all) all_n)))) ?_
      refine s_if (fun hb3 => ?_) (fun hb3 => ?_)
      · rfl
      · refine s_gd (all_c (by simp_all) (all_c (by simp_all) (all_c (by simp_all) (all_c (by simp_all) all_n)))) ?_
        refine s_if (fun hb4 => ?_) (fun hb4 => ?_)
        · rfl
        · refine s_gd (all_c (by simp_all) (all_c (by simp_all) (all_c (by simp_all) (all_c (by simp_all) all_n)))) ?_
          refine s_if (fun hb5 => ?_) (fun hb5 => ?_)
          · rfl
          · refine s_gd (all_c (by simp_all) (all_c (by simp_all) (all_c (by simp_all) (all_c (by simp_all) all_n)))) ?_
            refine s_if (fun hb6 => ?_) (fun hb6 => ?_)
            · rfl
            · refine s_gd (all_c (by simp_all) (all_c (by simp_all) (all_c (by simp_all) (all_c (by simp_all) all_n)))) ?_
              refine s_if (fun hb7 => ?_) (fun hb7 => ?_)
              · rfl
              · refine s_gd (all_c (by simp_all) (all_c (by simp_all) (all_c (by simp_all) (all_c (by simp_all) all_n)))) ?_
                refine s_if (fun hb8 => ?_) (fun hb8 => ?_)
                · rfl
                · refine s_gd (all_c (by simp_all) (all_c (by simp_all) (all_c (by simp_all) (all_c (by simp_all) all_n)))) ?_
                  refine s_if (fun hb9 => ?_) (fun hb9 => ?_)
                  · rfl
                  · refine s_gd (all_c (by simp_all) (all_c (by simp_all) (all_c (by simp_all) (all_c (by simp_all) all_n)))) ?_
                    refine s_if (fun hb10 => ?_) (fun hb10 => ?_)
                    · rfl
                    · refine s_gd (all_c (by simp_all) (all_c (by simp_all) (all_c (by simp_all) (all_c (by simp_all) all_n)))) ?_
                      refine s_if (fun hb11 => ?_) (fun hb11 => ?_)
                      · rfl
                      · refine s_gd (all_c (by simp_all) (all_c (by simp_all) (all_c (by simp_all) (all_c (by simp_all) all_n)))) ?_
                        refine s_if (fun hb12 => ?_) (fun hb12 => ?_)
                        · rfl
                        · refine s_gd (all_c (by simp_all) (all_c (by simp_all) (all_c (by simp_all) (all_c (by simp_all) all_n)))) ?_
                          refine s_if (fun hb13 => ?_) (fun hb13 => ?_)
                          · rfl
                          · refine s_gd (all_c (by simp_all) (all_c (by simp_all) (all_c (by simp_all) (all_c (by simp_all) all_n)))) ?_
                            refine s_if (fun hb14 => ?_) (fun hb14 => ?_)
                            · rfl
                            · rfl
noncomputable def S.ref15_Table_l1 (a0 : List TRoute) (a1 : Int) (i1 : Nat) : Option (Unit ⊕ Bool) :=
  letS (S.ref15_Valid (a0.getD i1 default)) (fun r3 => letS (bif ((!((!r3) || ((a1 != 0) && (((a0.getD i1 default).fProto) != a1)))) && (decide ((i1 : Int) > 0))) then S.ref4_Compare ((a0.getD (wr .i64 ((i1 : Int) - 1)).toNat default).fPrefix) ((a0.getD i1 default).fPrefix) else default) (fun r4 => bif ((!r3) || ((a1 != 0) && (((a0.getD i1 default).fProto) != a1))) || ((decide ((i1 : Int) > 0)) && (decide (r4 ≥ 0))) then (some (.inr false)) else none))
theorem s_ref15_Table_l1 (a0 : List TRoute) (a1 : Int) (ha0 : LL L_TRoute a0) (i0 : Nat) : loopM (M.ref15_Table_l1 a0 a1) (i0 : Int) = some (runN (S.ref15_Table_l1 a0 a1) (.inl ()) i0 (a0.length - i0)) := by
  have hM := maxLen_eq
  have hni1 : a0.length ≤ maxLen := ha0.1
  refine loop_runN (n := a0.length) (fun i1 hi1 => ?_) (fun m hm => ?_) i0
  · unfold M.ref15_Table_l1 S.ref15_Table_l1
    try simp only [Int.toNat_natCast]
    have hdi1 : wr .i64 ((i1 : Int) - 1) = (i1 : Int) - 1 := wr_i64 (by omega)
    refine s_then (dt (by omega)) ?_
    refine s_bindN (s_ref15_Valid (a0.getD i1 default) (LL.getD ha0 L_TRoute.dflt i1)) (fun r3 her3 => ?_)
    refine s_bindN (s_gc fun hg => (s_ref4_Compare ((a0.getD (wr .i64 ((i1 : Int) - 1)).toNat default).fPrefix) ((a0.getD i1 default).fPrefix))) (fun r4 her4 => ?_)
    refine s_gd (all_c (dt (by omega)) (all_c (dt (by omega)) (all_c (s_guard fun hg => (dt (by first | omega | (simp; omega) | (simp at *; omega)))) (all_c (s_guard fun hg => (dt (by first | omega | (simp; omega) | (simp at *; omega)))) (all_c (s_guard fun hg => (dt (by first | omega | (simp; omega) | (simp at *; omega)))) (all_c (s_guard fun hg => (dt (by first | omega | (simp; omega) | (simp at *; omega)))) (all_c (s_guard fun hg => (dt (by first | omega | (simp; omega) | (simp at *; omega)))) (all_c (s_guard fun hg => (dt (by first | omega | (simp; omega) | (simp at *; omega)))) all_n)))))))) ?_
    refine s_ifN (fun hb1 => ?_) (fun hb1 => ?_)
    · exact s_out
    · exact s_up (by omega)
  · unfold M.ref15_Table_l1
    try simp only [Int.toNat_natCast]
    exact s_else (decide_eq_false (by omega)) rfl
noncomputable def S.ref15_Table (a0 : List TRoute) (a1 : Int) : Bool :=
  letS (runN (S.ref15_Table_l1 a0 a1) (.inl ()) 0 a0.length) (fun y5 => Sum.elim (fun _ => true) (fun y7 => y7) y5)
theorem s_ref15_Table (a0 : List TRoute) (a1 : Int) (ha0 : LL L_TRoute a0) : M.ref15_Table a0 a1 = some (S.ref15_Table a0 a1) := by
  have hM := maxLen_eq
  unfold M.ref15_Table S.ref15_Table
  refine s_bind (s_ref15_Table_l1 a0 a1 ha0 0) (fun y5 hey5 => ?_)
  refine s_elim (fun _ hl => ?_) (fun y7 hly7 => ?_)
  · rfl
  · rfl
noncomputable def S.cmp_isNaN_uint32 (a0 : Int) : Bool :=
  a0 != a0
theorem s_cmp_isNaN_uint32 (a0 : Int)  : M.cmp_isNaN_uint32 a0 = some (S.cmp_isNaN_uint32 a0) := by
  have hM := maxLen_eq
  unfold M.cmp_isNaN_uint32 S.cmp_isNaN_uint32
  rfl
noncomputable def S.cmp_Compare_uint32 (a0 : Int) (a1 : Int) : Int :=
  letS (S.cmp_isNaN_uint32 a0) (fun r1 => letS (S.cmp_isNaN_uint32 a1) (fun r2 => bif r1 then (bif r2 then 0 else (-1)) else (bif r2 then 1 else (bif decide (a0 < a1) then (-1) else (bif decide (a0 > a1) then 1 else 0)))))
theorem s_cmp_Compare_uint32 (a0 : Int) (a1 : Int)  : M.cmp_Compare_uint32 a0 a1 = some (S.cmp_Compare_uint32 a0 a1) := by
  have hM := maxLen_eq
  unfold M.cmp_Compare_uint32 S.cmp_Compare_uint32
  refine s_bind (s_cmp_isNaN_uint32 a0) (fun r1 her1 => ?_)
  refine s_bind (s_cmp_isNaN_uint32 a1) (fun r2 her2 => ?_)
  refine s_if (fun hb1 => ?_) (fun hb1 => ?_)
  · refine s_if (fun hb2 => ?_) (fun hb2 => ?_)
    · rfl
    · rfl
  · refine s_if (fun hb3 => ?_) (fun hb3 => ?_)
    · rfl
    · refine s_if (fun hb4 => ?_) (fun hb4 => ?_)
      · rfl
      · refine s_if (fun hb5 => ?_) (fun hb5 => ?_)
        · rfl
        · rfl
noncomputable def S.cmp_isNaN_int (a0 : Int) : Bool :=
  a0 != a0
theorem s_cmp_isNaN_int (a0 : Int)  : M.cmp_isNaN_int a0 = some (S.cmp_isNaN_int a0) := by
  have hM := maxLen_eq
  unfold M.cmp_isNaN_int S.cmp_isNaN_int
  rfl
noncomputable def S.cmp_Compare_int (a0 : Int) (a1 : Int) : Int :=
  letS (S.cmp_isNaN_int a0) (fun r1 => letS (S.cmp_isNaN_int a1) (fun r2 => bif r1 then (bif r2 then 0 else (-1)) else (bif r2 then 1 else (bif decide (a0 < a1) then (-1) else (bif decide (a0 > a1) then 1 else 0)))))
theorem s_cmp_Compare_int (a0 : Int) (a1 : Int)  : M.cmp_Compare_int a0 a1 = some (S.cmp_Compare_int a0 a1) := by
  have hM := maxLen_eq
  unfold M.cmp_Compare_int S.cmp_Compare_int
  refine s_bind (s_cmp_isNaN_int a0) (fun r1 her1 => ?_)
  refine s_bind (s_cmp_isNaN_int a1) (fun r2 her2 => ?_)
  refine s_if (fun hb1 => ?_) (fun hb1 => ?_)
  · refine s_if (fun hb2 => ?_) (fun hb2 => ?_)
    · rfl
    · rfl
  · refine s_if (fun hb3 => ?_) (fun hb3 => ?_)
    · rfl
    · refine s_if (fun hb4 => ?_) (fun hb4 => ?_)
      · rfl
      · refine s_if (fun hb5 => ?_) (fun hb5 => ?_)
        · rfl
        · rfl
noncomputable def S.addr_Compare (a0 : TPrefix) (a1 : TPrefix) : Int :=
  letS (S.cmp_Compare_uint32 a0.fAddr a1.fAddr) (fun r1 => bif r1 != 0 then r1 else (letS (S.cmp_Compare_int a0.fLen a1.fLen) (fun r2 => r2)))
theorem s_addr_Compare (a0 : TPrefix) (a1 : TPrefix)  : M.addr_Compare a0 a1 = some (S.addr_Compare a0 a1) := by
  have hM := maxLen_eq
  unfold M.addr_Compare S.addr_Compare
  refine s_bind (s_cmp_Compare_uint32 a0.fAddr a1.fAddr) (fun r1 her1 => ?_)
  refine s_if (fun hb1 => ?_) (fun hb1 => ?_)
  · rfl
  · refine s_bind (s_cmp_Compare_int a0.fLen a1.fLen) (fun r2 her2 => ?_)
    rfl
noncomputable def S.route_Merge_1 (a0 : TRoute) (a1 : TRoute) : Int :=
  letS (S.addr_Compare a0.fPrefix a1.fPrefix) (fun r1 => r1)
noncomputable def S.cmp_Or_int_l1 (a0 : List Int) (i1 : Nat) : Option (Unit ⊕ Int) :=
  bif (a0.getD i1 default) != 0 then (some (.inr (a0.getD i1 default))) else none
theorem s_cmp_Or_int_l1 (a0 : List Int) (ha0 : a0.length ≤ maxLen) (i0 : Nat) : loopM (M.cmp_Or_int_l1 a0) (i0 : Int) = some (runN (S.cmp_Or_int_l1 a0) (.inl ()) i0 (a0.length - i0)) := by
  have hM := maxLen_eq
  have hni1 : a0.length ≤ maxLen := ha0
  refine loop_runN (n := a0.length) (fun i1 hi1 => ?_) (fun m hm => ?_) i0
  · unfold M.cmp_Or_int_l1 S.cmp_Or_int_l1
    try simp only [Int.toNat_natCast]
    refine s_then (dt (by omega)) ?_
    refine s_gd (all_c (dt (by omega)) (all_c (dt (by omega)) all_n)) ?_
    refine s_ifN (fun hb1 => ?_) (fun hb1 => ?_)
    · exact s_out
    · exact s_up (by omega)
  · unfold M.cmp_Or_int_l1
    try simp only [Int.toNat_natCast]
    exact s_else (decide_eq_false (by omega)) rfl
noncomputable def S.cmp_Or_int (a0 : List Int) : Int :=
  letS (runN (S.cmp_Or_int_l1 a0) (.inl ()) 0 a0.length) (fun y3 => Sum.elim (fun _ => 0) (fun y5 => y5) y3)
theorem s_cmp_Or_int (a0 : List Int) (ha0 : a0.length ≤ maxLen) : M.cmp_Or_int a0 = some (S.cmp_Or_int a0) := by
  have hM := maxLen_eq
  unfold M.cmp_Or_int S.cmp_Or_int
  refine s_bind (s_cmp_Or_int_l1 a0 ha0 0) (fun y3 hey3 => ?_)
  refine s_elim (fun _ hl => ?_) (fun y5 hly5 => ?_)
  · rfl
  · rfl
noncomputable def S.route_origin (a0 : TRoute) : Int :=
  if 3 < a0.fClass then 3 else a0.fClass
theorem s_route_origin (a0 : TRoute) (ha0 : L_TRoute a0) : M.route_origin a0 = some (S.route_origin a0) := by
  have hM := maxLen_eq
  unfold M.route_origin S.route_origin
  rfl
noncomputable def S.route_Prefer_k1 (a0 : TRoute) (a1 : TRoute) (p1 : Bool) : Int :=
  bif p1 then (letS (S.cmp_Compare_int a0.fAdmin a1.fAdmin) (fun r2 => r2)) else (bif a0.fProto == 3 then (letS (S.cmp_Compare_int a0.fClass a1.fClass) (fun r3 => letS (S.cmp_Compare_int a0.fMetric a1.fMetric) (fun r4 => letS (S.cmp_Compare_int a0.fInner a1.fInner) (fun r5 => letS (S.cmp_Compare_int a0.fTag a1.fTag) (fun r6 => letS (S.cmp_Or_int ([r3, r4, r5, r6] : List Int)) (fun r7 => r7)))))) else (bif a0.fProto == 4 then (letS (S.cmp_Compare_int a0.fMetric a1.fMetric) (fun r8 => letS (S.cmp_Compare_int a0.fClass a1.fClass) (fun r9 => letS (S.cmp_Compare_int a0.fTag a1.fTag) (fun r10 => letS (S.cmp_Or_int ([r8, r9, r10] : List Int)) (fun r11 => r11))))) else (bif a0.fProto == 5 then (letS (S.route_origin a0) (fun r12 => letS (S.route_origin a1) (fun r13 => letS (S.cmp_Compare_int r12 r13) (fun r14 => letS (S.cmp_Compare_int a1.fPref a0.fPref) (fun r15 => letS (S.cmp_Compare_int (a0.fPath.length : Int) (a1.fPath.length : Int)) (fun r16 => letS (S.cmp_Compare_int a0.fMetric a1.fMetric) (fun r17 => letS (S.cmp_Compare_int a0.fClass a1.fClass) (fun r18 => letS (S.cmp_Compare_uint32 a0.fFrom a1.fFrom) (fun r19 => letS (S.cmp_Or_int ([r14, r15, r16, r17, r18, r19] : List Int)) (fun r20 => r20)))))))))) else 0)))
theorem s_route_Prefer_k1 (a0 : TRoute) (a1 : TRoute) (p1 : Bool) (ha0 : L_TRoute a0) (ha1 : L_TRoute a1) : M.route_Prefer_k1 a0 a1 p1 = some (S.route_Prefer_k1 a0 a1 p1) := by
  have hM := maxLen_eq
  unfold M.route_Prefer_k1 S.route_Prefer_k1
  refine s_if (fun hb2 => ?_) (fun hb2 => ?_)
  · refine s_bind (s_cmp_Compare_int a0.fAdmin a1.fAdmin) (fun r2 her2 => ?_)
    rfl
  · refine s_if (fun hb3 => ?_) (fun hb3 => ?_)
    · refine s_bind (s_cmp_Compare_int a0.fClass a1.fClass) (fun r3 her3 => ?_)
      refine s_bind (s_cmp_Compare_int a0.fMetric a1.fMetric) (fun r4 her4 => ?_)
      refine s_bind (s_cmp_Compare_int a0.fInner a1.fInner) (fun r5 her5 => ?_)
      refine s_bind (s_cmp_Compare_int a0.fTag a1.fTag) (fun r6 her6 => ?_)
      refine s_bind (s_cmp_Or_int ([r3, r4, r5, r6] : List Int) (by simp [maxLen_eq])) (fun r7 her7 => ?_)
      rfl
    · refine s_if (fun hb4 => ?_) (fun hb4 => ?_)
      · refine s_bind (s_cmp_Compare_int a0.fMetric a1.fMetric) (fun r8 her8 => ?_)
        refine s_bind (s_cmp_Compare_int a0.fClass a1.fClass) (fun r9 her9 => ?_)
        refine s_bind (s_cmp_Compare_int a0.fTag a1.fTag) (fun r10 her10 => ?_)
        refine s_bind (s_cmp_Or_int ([r8, r9, r10] : List Int) (by simp [maxLen_eq])) (fun r11 her11 => ?_)
        rfl
      · refine s_if (fun hb5 => ?_) (fun hb5 => ?_)
        · refine s_bind (s_route_origin a0 ha0) (fun r12 her12 => ?_)
          refine s_bind (s_route_origin a1 ha1) (fun r13 her13 => ?_)
          refine s_bind (s_cmp_Compare_int r12 r13) (fun r14 her14 => ?_)
          refine s_bind (s_cmp_Compare_int a1.fPref a0.fPref) (fun r15 her15 => ?_)
          refine s_bind (s_cmp_Compare_int (a0.fPath.length : Int) (a1.fPath.length : Int)) (fun r16 her16 => ?_)
          refine s_bind (s_cmp_Compare_int a0.fMetric a1.fMetric) (fun r17 her17 => ?_)
          refine s_bind (s_cmp_Compare_int a0.fClass a1.fClass) (fun r18 her18 => ?_)
          refine s_bind (s_cmp_Compare_uint32 a0.fFrom a1.fFrom) (fun r19 her19 => ?_)
          refine s_bind (s_cmp_Or_int ([r14, r15, r16, r17, r18, r19] : List Int) (by simp [maxLen_eq])) (fun r20 her20 => ?_)
          rfl
        · rfl
noncomputable def S.route_Prefer (a0 : TRoute) (a1 : TRoute) : Int :=
  bif a0.fProto == 1 then (S.route_Prefer_k1 a0 a1 (a0.fProto == 1)) else (S.route_Prefer_k1 a0 a1 (a0.fProto == 2))
theorem s_route_Prefer (a0 : TRoute) (a1 : TRoute) (ha0 : L_TRoute a0) (ha1 : L_TRoute a1) : M.route_Prefer a0 a1 = some (S.route_Prefer a0 a1) := by
  have hM := maxLen_eq
  unfold M.route_Prefer S.route_Prefer
  refine s_if (fun hb1 => ?_) (fun hb1 => ?_)
  · exact s_route_Prefer_k1 a0 a1 (a0.fProto == 1) ha0 ha1
  · exact s_route_Prefer_k1 a0 a1 (a0.fProto == 2) ha0 ha1
noncomputable def S.route_compareHops (a0 : THop) (a1 : THop) : Int :=
  letS (S.cmp_Compare_int a0.fIface a1.fIface) (fun r1 => letS (S.cmp_Compare_uint32 a0.fAddr a1.fAddr) (fun r2 => letS (S.cmp_Or_int ([r1, r2] : List Int)) (fun r3 => r3)))
theorem s_route_compareHops (a0 : THop) (a1 : THop)  : M.route_compareHops a0 a1 = some (S.route_compareHops a0 a1) := by
  have hM := maxLen_eq
  unfold M.route_compareHops S.route_compareHops
  refine s_bind (s_cmp_Compare_int a0.fIface a1.fIface) (fun r1 her1 => ?_)
  refine s_bind (s_cmp_Compare_uint32 a0.fAddr a1.fAddr) (fun r2 her2 => ?_)
  refine s_bind (s_cmp_Or_int ([r1, r2] : List Int) (by simp [maxLen_eq])) (fun r3 her3 => ?_)
  rfl
noncomputable def S.addr_Valid (a0 : TPrefix) : Bool :=
  letS (bif ((decide (a0.fLen ≥ 0)) && (decide (a0.fLen ≤ 32))) then S.addr_Mask a0.fLen else default) (fun r1 => ((decide (a0.fLen ≥ 0)) && (decide (a0.fLen ≤ 32))) && ((bitD .andNot .u32 a0.fAddr r1) == 0))
theorem s_addr_Valid (a0 : TPrefix)  : M.addr_Valid a0 = some (S.addr_Valid a0) := by
  have hM := maxLen_eq
  unfold M.addr_Valid S.addr_Valid
  refine s_bind (s_gc fun hg => (s_addr_Mask a0.fLen)) (fun r1 her1 => ?_)
  rfl
noncomputable def S.route_common_l1 (a0 : TRoute) (i2 : Nat) : Option (Unit ⊕ Bool) :=
  letS (bif ((!(decide (((a0.fHops.getD i2 default).fIface) < 0))) && (decide ((i2 : Int) > 0))) then S.route_compareHops (a0.fHops.getD (wr .i64 ((i2 : Int) - 1)).toNat default) (a0.fHops.getD i2 default) else default) (fun r4 => bif (decide (((a0.fHops.getD i2 default).fIface) < 0)) || ((decide ((i2 : Int) > 0)) && (decide (r4 ≥ 0))) then (some (.inr false)) else none)
theorem s_route_common_l1 (a0 : TRoute) (ha0 : L_TRoute a0) (i0 : Nat) : loopM (M.route_common_l1 a0) (i0 : Int) = some (runN (S.route_common_l1 a0) (.inl ()) i0 (a0.fHops.length - i0)) := by
  have hM := maxLen_eq
  have hni2 : a0.fHops.length ≤ maxLen := (L_TRoute.fHops ha0)
  refine loop_runN (n := a0.fHops.length) (fun i2 hi2 => ?_) (fun m hm => ?_) i0
  · unfold M.route_common_l1 S.route_common_l1
    try simp only [Int.toNat_natCast]
    have hdi2 : wr .i64 ((i2 : Int) - 1) = (i2 : Int) - 1 := wr_i64 (by omega)
    refine s_then (dt (by omega)) ?_
    refine s_gd (all_c (dt (by omega)) (all_c (dt (by omega)) all_n)) ?_
    refine s_bindN (s_gc fun hg => (s_route_compareHops (a0.fHops.getD (wr .i64 ((i2 : Int) - 1)).toNat default) (a0.fHops.getD i2 default))) (fun r4 her4 => ?_)
    refine s_gd (all_c (s_guard fun hg => (dt (by first | omega | (simp; omega) | (simp at *; omega)))) (all_c (s_guard fun hg => (dt (by first | omega | (simp; omega) | (simp at *; omega)))) all_n)) ?_
    refine s_ifN (fun hb2 => ?_) (fun hb2 => ?_)
    · exact s_out
    · exact s_up (by omega)
  · unfold M.route_common_l1
    try simp only [Int.toNat_natCast]
    exact s_else (decide_eq_false (by omega)) rfl
noncomputable def S.route_common_l2 (a0 : TRoute) (i8 : Nat) : Option (Unit ⊕ Bool) :=
  bif (decide ((a0.fPath.getD i8 default) < 1)) || (decide ((a0.fPath.getD i8 default) > 65535)) then (some (.inr false)) else none
theorem s_route_common_l2 (a0 : TRoute) (ha0 : L_TRoute a0) (i0 : Nat) : loopM (M.route_common_l2 a0) (i0 : Int) = some (runN (S.route_common_l2 a0) (.inl ()) i0 (a0.fPath.length - i0)) := by
  have hM := maxLen_eq
  have hni8 : a0.fPath.length ≤ maxLen := (L_TRoute.fPath ha0)
  refine loop_runN (n := a0.fPath.length) (fun i8 hi8 => ?_) (fun m hm => ?_) i0
  · unfold M.route_common_l2 S.route_common_l2
    try simp only [Int.toNat_natCast]
    refine s_then (dt (by omega)) ?_
    refine s_gd (all_c (dt (by omega)) (all_c (dt (by omega)) all_n)) ?_
    refine s_ifN (fun hb3 => ?_) (fun hb3 => ?_)
    · exact s_out
    · exact s_up (by omega)
  · unfold M.route_common_l2
    try simp only [Int.toNat_natCast]
    exact s_else (decide_eq_false (by omega)) rfl
noncomputable def S.route_common (a0 : TRoute) : Bool :=
  letS (S.addr_Valid a0.fPrefix) (fun r1 => bif (((!r1) || (decide (a0.fTag < 0))) || (decide (a0.fTag > 65535))) || (decide ((a0.fPath.length : Int) > 64)) then false else (letS (runN (S.route_common_l1 a0) (.inl ()) 0 a0.fHops.length) (fun y5 => Sum.elim (fun _ => letS (runN (S.route_common_l2 a0) (.inl ()) 0 a0.fPath.length) (fun y10 => Sum.elim (fun _ => true) (fun y12 => y12) y10)) (fun y7 => y7) y5)))
theorem s_route_common (a0 : TRoute) (ha0 : L_TRoute a0) : M.route_common a0 = some (S.route_common a0) := by
  have hM := maxLen_eq
  unfold M.route_common S.route_common
  refine s_bind (s_addr_Valid a0.fPrefix) (fun r1 her1 => ?_)
  refine s_if (fun hb1 => ?_) (fun hb1 => ?_)
  · rfl
  · refine s_bind (s_route_common_l1 a0 ha0 0) (fun y5 hey5 => ?_)
    refine s_elim (fun _ hl => ?_) (fun y7 hly7 => ?_)
    · refine s_bind (s_route_common_l2 a0 ha0 0) (fun y10 hey10 => ?_)
      refine s_elim (fun _ hl => ?_) (fun y12 hly12 => ?_)
      · rfl
      · rfl
    · rfl
noncomputable def S.route_direct (a0 : List THop) : Bool :=
  ((a0.length : Int) == 1) && (((a0.getD (0 : Int).toNat default).fAddr) == 0)
theorem s_route_direct (a0 : List THop) (ha0 : a0.length ≤ maxLen) : M.route_direct a0 = some (S.route_direct a0) := by
  have hM := maxLen_eq
  unfold M.route_direct S.route_direct
  refine s_gd (all_c (s_guard fun hg => (dt (by first | omega | (simp; omega) | (simp at *; omega)))) (all_c (s_guard fun hg => (dt (by first | omega | (simp; omega) | (simp at *; omega)))) all_n)) ?_
  rfl
noncomputable def S.route_bare (a0 : TRoute) : Bool :=
  (((((((a0.fMetric == 0) && (a0.fInner == 0)) && (a0.fPref == 0)) && (a0.fFrom == 0)) && (a0.fNext == 0)) && ((a0.fPath.length : Int) == 0)) && ((a0.fHops.length : Int) == 0)) && (!a0.fDiscard)
theorem s_route_bare (a0 : TRoute)  : M.route_bare a0 = some (S.route_bare a0) := by
  have hM := maxLen_eq
  unfold M.route_bare S.route_bare
  rfl
noncomputable def S.route_validStatic_k3 (a0 : TRoute) (p2 : Int × (List THop)) (p3 : Int) : Bool :=
  letS (bif ((a0.fClass == 0) && (p3 == 1)) then S.route_bare (⟨a0.fPrefix, a0.fProto, a0.fClass, a0.fAdmin, a0.fMetric, a0.fInner, a0.fTag, a0.fPref, a0.fPath, a0.fFrom, 0, p2.2, false⟩ : TRoute) else default) (fun r4 => ((a0.fClass == 0) && (p3 == 1)) && r4)
theorem s_route_validStatic_k3 (a0 : TRoute) (p2 : Int × (List THop)) (p3 : Int) (ha0 : L_TRoute a0) : M.route_validStatic_k3 a0 p2 p3 = some (S.route_validStatic_k3 a0 p2 p3) := by
  have hM := maxLen_eq
  unfold M.route_validStatic_k3 S.route_validStatic_k3
  refine s_bind (s_gc fun hg => (s_route_bare (⟨a0.fPrefix, a0.fProto, a0.fClass, a0.fAdmin, a0.fMetric, a0.fInner, a0.fTag, a0.fPref, a0.fPath, a0.fFrom, 0, p2.2, false⟩ : TRoute))) (fun r4 her4 => ?_)
  rfl
noncomputable def S.route_validStatic_k2 (a0 : TRoute) (p2 : Int × (List THop)) : Bool :=
  bif a0.fDiscard then (S.route_validStatic_k3 a0 p2 (wr .i64 (p2.1 + 1))) else (S.route_validStatic_k3 a0 p2 p2.1)
theorem s_route_validStatic_k2 (a0 : TRoute) (p2 : Int × (List THop)) (ha0 : L_TRoute a0) : M.route_validStatic_k2 a0 p2 = some (S.route_validStatic_k2 a0 p2) := by
  have hM := maxLen_eq
  unfold M.route_validStatic_k2 S.route_validStatic_k2
  refine s_if (fun hb3 => ?_) (fun hb3 => ?_)
  · exact s_route_validStatic_k3 a0 p2 (wr .i64 (p2.1 + 1)) ha0
  · exact s_route_validStatic_k3 a0 p2 p2.1 ha0
noncomputable def S.route_validStatic_k1 (a0 : TRoute) (p1 : Int) : Bool :=
  letS (S.route_direct a0.fHops) (fun r5 => bif r5 then (S.route_validStatic_k2 a0 (wr .i64 (p1 + 1), ([] : List THop))) else (S.route_validStatic_k2 a0 (p1, a0.fHops)))
theorem s_route_validStatic_k1 (a0 : TRoute) (p1 : Int) (ha0 : L_TRoute a0) : M.route_validStatic_k1 a0 p1 = some (S.route_validStatic_k1 a0 p1) := by
  have hM := maxLen_eq
  unfold M.route_validStatic_k1 S.route_validStatic_k1
  refine s_bind (s_route_direct a0.fHops (L_TRoute.fHops ha0)) (fun r5 her5 => ?_)
  refine s_if (fun hb2 => ?_) (fun hb2 => ?_)
  · exact s_route_validStatic_k2 a0 (wr .i64 (p1 + 1), ([] : List THop)) ha0
  · exact s_route_validStatic_k2 a0 (p1, a0.fHops) ha0
noncomputable def S.route_validStatic (a0 : TRoute) : Bool :=
  bif a0.fNext != 0 then (S.route_validStatic_k1 a0 1) else (S.route_validStatic_k1 a0 0)
theorem s_route_validStatic (a0 : TRoute) (ha0 : L_TRoute a0) : M.route_validStatic a0 = some (S.route_validStatic a0) := by
  have hM := maxLen_eq
  unfold M.route_validStatic S.route_validStatic
  refine s_if (fun hb1 => ?_) (fun hb1 => ?_)
  · exact s_route_validStatic_k1 a0 1 ha0
  · exact s_route_validStatic_k1 a0 0 ha0
noncomputable def S.route_within (a0 : Int) (a1 : Int) (a2 : Int) : Bool :=
  (decide (a1 ≤ a0)) && (decide (a0 ≤ a2))
theorem s_route_within (a0 : Int) (a1 : Int) (a2 : Int)  : M.route_within a0 a1 a2 = some (S.route_within a0 a1 a2) := by
  have hM := maxLen_eq
  unfold M.route_within S.route_within
  rfl
noncomputable def S.route_indirect_l1 (a0 : List THop) (i1 : Nat) : Option (Unit ⊕ Bool) :=
  bif ((a0.getD i1 default).fAddr) == 0 then (some (.inr false)) else none
theorem s_route_indirect_l1 (a0 : List THop) (ha0 : a0.length ≤ maxLen) (i0 : Nat) : loopM (M.route_indirect_l1 a0) (i0 : Int) = some (runN (S.route_indirect_l1 a0) (.inl ()) i0 (a0.length - i0)) := by
  have hM := maxLen_eq
  have hni1 : a0.length ≤ maxLen := ha0
  refine loop_runN (n := a0.length) (fun i1 hi1 => ?_) (fun m hm => ?_) i0
  · unfold M.route_indirect_l1 S.route_indirect_l1
    try simp only [Int.toNat_natCast]
    refine s_then (dt (by omega)) ?_
    refine s_gd (all_c (dt (by omega)) (all_c (dt (by omega)) all_n)) ?_
    refine s_ifN (fun hb1 => ?_) (fun hb1 => ?_)
    · exact s_out
    · exact s_up (by omega)
  · unfold M.route_indirect_l1
    try simp only [Int.toNat_natCast]
    exact s_else (decide_eq_false (by omega)) rfl
noncomputable def S.route_indirect (a0 : List THop) : Bool :=
  letS (runN (S.route_indirect_l1 a0) (.inl ()) 0 a0.length) (fun y3 => Sum.elim (fun _ => decide ((a0.length : Int) > 0)) (fun y5 => y5) y3)
theorem s_route_indirect (a0 : List THop) (ha0 : a0.length ≤ maxLen) : M.route_indirect a0 = some (S.route_indirect a0) := by
  have hM := maxLen_eq
  unfold M.route_indirect S.route_indirect
  refine s_bind (s_route_indirect_l1 a0 ha0 0) (fun y3 hey3 => ?_)
  refine s_elim (fun _ hl => ?_) (fun y5 hly5 => ?_)
  · rfl
  · rfl
noncomputable def S.route_validLinkState_k1 (a0 : TRoute) (p5 : Int) : Bool :=
  letS (S.route_bare (⟨a0.fPrefix, a0.fProto, a0.fClass, a0.fAdmin, 0, p5, a0.fTag, a0.fPref, a0.fPath, a0.fFrom, a0.fNext, ([] : List THop), a0.fDiscard⟩ : TRoute)) (fun r6 => r6)
theorem s_route_validLinkState_k1 (a0 : TRoute) (p5 : Int) (ha0 : L_TRoute a0) : M.route_validLinkState_k1 a0 p5 = some (S.route_validLinkState_k1 a0 p5) := by
  have hM := maxLen_eq
  unfold M.route_validLinkState_k1 S.route_validLinkState_k1
  refine s_bind (s_route_bare (⟨a0.fPrefix, a0.fProto, a0.fClass, a0.fAdmin, 0, p5, a0.fTag, a0.fPref, a0.fPath, a0.fFrom, a0.fNext, ([] : List THop), a0.fDiscard⟩ : TRoute)) (fun r6 her6 => ?_)
  rfl
noncomputable def S.route_validLinkState (a0 : TRoute) : Bool :=
  bif a0.fDiscard then (letS (bif ((a0.fClass == 1) && (a0.fTag == 0)) then S.route_bare (⟨a0.fPrefix, a0.fProto, a0.fClass, a0.fAdmin, a0.fMetric, a0.fInner, a0.fTag, a0.fPref, a0.fPath, a0.fFrom, a0.fNext, a0.fHops, false⟩ : TRoute) else default) (fun r1 => ((a0.fClass == 1) && (a0.fTag == 0)) && r1)) else (letS (S.route_within a0.fClass 1 4) (fun r2 => letS (bif (!(!r2)) then S.route_within a0.fMetric 0 1073741824 else default) (fun r3 => letS (bif (!((!r2) || (!r3))) then S.route_indirect a0.fHops else default) (fun r4 => bif ((!r2) || (!r3)) || (!r4) then false else (letS (bif (a0.fClass == 4) then S.route_within a0.fInner 0 1073741824 else default) (fun r7 => bif (a0.fClass == 4) && r7 then (S.route_validLinkState_k1 a0 0) else (S.route_validLinkState_k1 a0 a0.fInner)))))))
theorem s_route_validLinkState (a0 : TRoute) (ha0 : L_TRoute a0) : M.route_validLinkState a0 = some (S.route_validLinkState a0) := by
  have hM := maxLen_eq
  unfold M.route_validLinkState S.route_validLinkState
  refine s_if (fun hb1 => ?_) (fun hb1 => ?_)
  · refine s_bind (s_gc fun hg => (s_route_bare (⟨a0.fPrefix, a0.fProto, a0.fClass, a0.fAdmin, a0.fMetric, a0.fInner, a0.fTag, a0.fPref, a0.fPath, a0.fFrom, a0.fNext, a0.fHops, false⟩ : TRoute))) (fun r1 her1 => ?_)
    rfl
  · refine s_bind (s_route_within a0.fClass 1 4) (fun r2 her2 => ?_)
    refine s_bind (s_gc fun hg => (s_route_within a0.fMetric 0 1073741824)) (fun r3 her3 => ?_)
    refine s_bind (s_gc fun hg => (s_route_indirect a0.fHops (L_TRoute.fHops ha0))) (fun r4 her4 => ?_)
    refine s_if (fun hb2 => ?_) (fun hb2 => ?_)
    · rfl
    · refine s_bind (s_gc fun hg => (s_route_within a0.fInner 0 1073741824)) (fun r7 her7 => ?_)
      refine s_if (fun hb3 => ?_) (fun hb3 => ?_)
      · exact s_route_validLinkState_k1 a0 0 ha0
      · exact s_route_validLinkState_k1 a0 a0.fInner ha0
noncomputable def S.route_validDistance_k1 (a0 : TRoute) (p2 : Bool × (List THop)) : Bool :=
  letS (bif p2.1 then S.route_bare (⟨a0.fPrefix, a0.fProto, a0.fClass, a0.fAdmin, 0, a0.fInner, a0.fTag, a0.fPref, a0.fPath, a0.fFrom, a0.fNext, p2.2, a0.fDiscard⟩ : TRoute) else default) (fun r3 => p2.1 && r3)
theorem s_route_validDistance_k1 (a0 : TRoute) (p2 : Bool × (List THop)) (ha0 : L_TRoute a0) : M.route_validDistance_k1 a0 p2 = some (S.route_validDistance_k1 a0 p2) := by
  have hM := maxLen_eq
  unfold M.route_validDistance_k1 S.route_validDistance_k1
  refine s_bind (s_gc fun hg => (s_route_bare (⟨a0.fPrefix, a0.fProto, a0.fClass, a0.fAdmin, 0, a0.fInner, a0.fTag, a0.fPref, a0.fPath, a0.fFrom, a0.fNext, p2.2, a0.fDiscard⟩ : TRoute))) (fun r3 her3 => ?_)
  rfl
noncomputable def S.route_validDistance (a0 : TRoute) : Bool :=
  letS (S.route_within a0.fMetric 1 15) (fun r1 => bif a0.fClass == 1 then (letS (bif ((a0.fMetric == 1) && (a0.fTag == 0)) then S.route_direct a0.fHops else default) (fun r4 => S.route_validDistance_k1 a0 (((a0.fMetric == 1) && (a0.fTag == 0)) && r4, ([] : List THop)))) else (bif a0.fClass == 2 then (S.route_validDistance_k1 a0 (r1, a0.fHops)) else (bif a0.fClass == 3 then (letS (bif r1 then S.route_indirect a0.fHops else default) (fun r5 => S.route_validDistance_k1 a0 (r1 && r5, ([] : List THop)))) else (S.route_validDistance_k1 a0 (false, a0.fHops)))))
theorem s_route_validDistance (a0 : TRoute) (ha0 : L_TRoute a0) : M.route_validDistance a0 = some (S.route_validDistance a0) := by
  have hM := maxLen_eq
  unfold M.route_validDistance S.route_validDistance
  refine s_bind (s_route_within a0.fMetric 1 15) (fun r1 her1 => ?_)
  refine s_if (fun hb1 => ?_) (fun hb1 => ?_)
  · refine s_bind (s_gc fun hg => (s_route_direct a0.fHops (L_TRoute.fHops ha0))) (fun r4 her4 => ?_)
    exact s_route_validDistance_k1 a0 (((a0.fMetric == 1) && (a0.fTag == 0)) && r4, ([] : List THop)) ha0
  · refine s_if (fun hb2 => ?_) (fun hb2 => ?_)
    · exact s_route_validDistance_k1 a0 (r1, a0.fHops) ha0
    · refine s_if (fun hb3 => ?_) (fun hb3 => ?_)
      · refine s_bind (s_gc fun hg => (s_route_indirect a0.fHops (L_TRoute.fHops ha0))) (fun r5 her5 => ?_)
        exact s_route_validDistance_k1 a0 (r1 && r5, ([] : List THop)) ha0
      · exact s_route_validDistance_k1 a0 (false, a0.fHops) ha0
noncomputable def S.route_validPathVector_k1 (a0 : TRoute) (p3 : Bool × (List Int) × Int × (List THop) × Bool) : Bool :=
  letS (bif p3.1 then S.route_bare (⟨a0.fPrefix, a0.fProto, a0.fClass, a0.fAdmin, 0, a0.fInner, a0.fTag, 0, p3.2.1, p3.2.2.1, a0.fNext, p3.2.2.2.1, p3.2.2.2.2⟩ : TRoute) else default) (fun r4 => p3.1 && r4)
theorem s_route_validPathVector_k1 (a0 : TRoute) (p3 : Bool × (List Int) × Int × (List THop) × Bool) (ha0 : L_TRoute a0) : M.route_validPathVector_k1 a0 p3 = some (S.route_validPathVector_k1 a0 p3) := by
  have hM := maxLen_eq
  unfold M.route_validPathVector_k1 S.route_validPathVector_k1
  refine s_bind (s_gc fun hg => (s_route_bare (⟨a0.fPrefix, a0.fProto, a0.fClass, a0.fAdmin, 0, a0.fInner, a0.fTag, 0, p3.2.1, p3.2.2.1, a0.fNext, p3.2.2.2.1, p3.2.2.2.2⟩ : TRoute))) (fun r4 her4 => ?_)
  rfl
noncomputable def S.route_validPathVector_k2 (a0 : TRoute) (r1 : Bool) (r2 : Bool) (p5 : Bool) : Bool :=
  bif p5 then (S.route_validPathVector_k1 a0 (((((r1 && r2) && (a0.fFrom != 0)) && ((a0.fHops.length : Int) == 1)) && (((a0.fHops.getD (0 : Int).toNat default).fAddr) == a0.fFrom)) && ((a0.fClass == 4) || (decide ((a0.fPath.length : Int) > 0))), ([] : List Int), 0, ([] : List THop), a0.fDiscard)) else (S.route_validPathVector_k1 a0 (false, a0.fPath, a0.fFrom, a0.fHops, a0.fDiscard))
theorem s_route_validPathVector_k2 (a0 : TRoute) (r1 : Bool) (r2 : Bool) (p5 : Bool) (ha0 : L_TRoute a0) : M.route_validPathVector_k2 a0 r1 r2 p5 = some (S.route_validPathVector_k2 a0 r1 r2 p5) := by
  have hM := maxLen_eq
  unfold M.route_validPathVector_k2 S.route_validPathVector_k2
  refine s_if (fun hb4 => ?_) (fun hb4 => ?_)
  · refine s_gd (all_c (s_guard fun hg => (dt (by first | omega | (simp; omega) | (simp at *; omega)))) (all_c (s_guard fun hg => (dt (by first | omega | (simp; omega) | (simp at *; omega)))) all_n)) ?_
    exact s_route_validPathVector_k1 a0 (((((r1 && r2) && (a0.fFrom != 0)) && ((a0.fHops.length : Int) == 1)) && (((a0.fHops.getD (0 : Int).toNat default).fAddr) == a0.fFrom)) && ((a0.fClass == 4) || (decide ((a0.fPath.length : Int) > 0))), ([] : List Int), 0, ([] : List THop), a0.fDiscard) ha0
  · exact s_route_validPathVector_k1 a0 (false, a0.fPath, a0.fFrom, a0.fHops, a0.fDiscard) ha0
noncomputable def S.route_validPathVector (a0 : TRoute) : Bool :=
  letS (S.route_within a0.fMetric 0 16777215) (fun r1 => letS (bif r1 then S.route_within a0.fPref 0 1000000 else default) (fun r2 => bif a0.fClass == 1 then (S.route_validPathVector_k1 a0 (r1 && r2, a0.fPath, a0.fFrom, a0.fHops, a0.fDiscard)) else (bif a0.fClass == 2 then (S.route_validPathVector_k1 a0 ((r1 && r2) && a0.fDiscard, a0.fPath, a0.fFrom, a0.fHops, false)) else (bif a0.fClass == 3 then (S.route_validPathVector_k2 a0 r1 r2 (a0.fClass == 3)) else (S.route_validPathVector_k2 a0 r1 r2 (a0.fClass == 4))))))
theorem s_route_validPathVector (a0 : TRoute) (ha0 : L_TRoute a0) : M.route_validPathVector a0 = some (S.route_validPathVector a0) := by
  have hM := maxLen_eq
  unfold M.route_validPathVector S.route_validPathVector
  refine s_bind (s_route_within a0.fMetric 0 16777215) (fun r1 her1 => ?_)
  refine s_bind (s_gc fun hg => (s_route_within a0.fPref 0 1000000)) (fun r2 her2 => ?_)
  refine s_if (fun hb1 => ?_) (fun hb1 => ?_)
  · exact s_route_validPathVector_k1 a0 (r1 && r2, a0.fPath, a0.fFrom, a0.fHops, a0.fDiscard) ha0
  · refine s_if (fun hb2 => ?_) (fun hb2 => ?_)
    · exact s_route_validPathVector_k1 a0 ((r1 && r2) && a0.fDiscard, a0.fPath, a0.fFrom, a0.fHops, false) ha0
    · refine s_if (fun hb3 => ?_) (fun hb3 => ?_)
      · exact s_route_validPathVector_k2 a0 r1 r2 (a0.fClass == 3) ha0
      · exact s_route_validPathVector_k2 a0 r1 r2 (a0.fClass == 4) ha0
noncomputable def S.route_Valid (a0 : TRoute) : Bool :=
  letS (S.route_common a0) (fun r1 => bif !r1 then false else (bif a0.fProto == 1 then (letS (bif (((a0.fClass == 0) && (a0.fAdmin == 0)) && (a0.fTag == 0)) then S.route_direct a0.fHops else default) (fun r2 => letS (bif ((((a0.fClass == 0) && (a0.fAdmin == 0)) && (a0.fTag == 0)) && r2) then S.route_bare (⟨a0.fPrefix, a0.fProto, a0.fClass, a0.fAdmin, a0.fMetric, a0.fInner, a0.fTag, a0.fPref, a0.fPath, a0.fFrom, a0.fNext, ([] : List THop), a0.fDiscard⟩ : TRoute) else default) (fun r3 => ((((a0.fClass == 0) && (a0.fAdmin == 0)) && (a0.fTag == 0)) && r2) && r3))) else (bif (decide (a0.fAdmin < 1)) || (decide (a0.fAdmin > 255)) then false else (bif a0.fProto == 2 then (letS (S.route_validStatic a0) (fun r4 => r4)) else (bif a0.fProto == 3 then (letS (S.route_validLinkState a0) (fun r5 => r5)) else (bif a0.fProto == 4 then (letS (S.route_validDistance a0) (fun r6 => r6)) else (bif a0.fProto == 5 then (letS (S.route_validPathVector a0) (fun r7 => r7)) else false)))))))
theorem s_route_Valid (a0 : TRoute) (ha0 : L_TRoute a0) : M.route_Valid a0 = some (S.route_Valid a0) := by
  have hM := maxLen_eq
  unfold M.route_Valid S.route_Valid
  refine s_bind (s_route_common a0 ha0) (fun r1 her1 => ?_)
  refine s_if (fun hb1 => ?_) (fun hb1 => ?_)
  · rfl
  · refine s_if (fun hb2 => ?_) (fun hb2 => ?_)
    · refine s_bind (s_gc fun hg => (s_route_direct a0.fHops (L_TRoute.fHops ha0))) (fun r2 her2 => ?_)
      refine s_bind (s_gc fun hg => (s_route_bare (⟨a0.fPrefix, a0.fProto, a0.fClass, a0.fAdmin, a0.fMetric, a0.fInner, a0.fTag, a0.fPref, a0.fPath, a0.fFrom, a0.fNext, ([] : List THop), a0.fDiscard⟩ : TRoute))) (fun r3 her3 => ?_)
      rfl
    · refine s_if (fun hb3 => ?_) (fun hb3 => ?_)
      · rfl
      · refine s_if (fun hb4 => ?_) (fun hb4 => ?_)
        · refine s_bind (s_route_validStatic a0 ha0) (fun r4 her4 => ?_)
          rfl
        · refine s_if (fun hb5 => ?_) (fun hb5 => ?_)
          · refine s_bind (s_route_validLinkState a0 ha0) (fun r5 her5 => ?_)
            rfl
          · refine s_if (fun hb6 => ?_) (fun hb6 => ?_)
            · refine s_bind (s_route_validDistance a0 ha0) (fun r6 her6 => ?_)
              rfl
            · refine s_if (fun hb7 => ?_) (fun hb7 => ?_)
              · refine s_bind (s_route_validPathVector a0 ha0) (fun r7 her7 => ?_)
                rfl
              · rfl
noncomputable def S.route_Table_l1 (a0 : List TRoute) (a1 : Int) (i1 : Nat) : Option (Unit ⊕ Bool) :=
  letS (S.route_Valid (a0.getD i1 default)) (fun r3 => bif (!r3) || ((a1 != 0) && (((a0.getD i1 default).fProto) != a1)) then (some (.inr false)) else (letS (bif (decide ((i1 : Int) > 0)) then S.addr_Compare ((a0.getD (wr .i64 ((i1 : Int) - 1)).toNat default).fPrefix) ((a0.getD i1 default).fPrefix) else default) (fun r4 => bif (decide ((i1 : Int) > 0)) && (decide (r4 ≥ 0)) then (some (.inr false)) else none)))
theorem s_route_Table_l1 (a0 : List TRoute) (a1 : Int) (ha0 : LL L_TRoute a0) (i0 : Nat) : loopM (M.route_Table_l1 a0 a1) (i0 : Int) = some (runN (S.route_Table_l1 a0 a1) (.inl ()) i0 (a0.length - i0)) := by
  have hM := maxLen_eq
  have hni1 : a0.length ≤ maxLen := ha0.1
  refine loop_runN (n := a0.length) (fun i1 hi1 => ?_) (fun m hm => ?_) i0
  · unfold M.route_Table_l1 S.route_Table_l1
    try simp only [Int.toNat_natCast]
    have hdi1 : wr .i64 ((i1 : Int) - 1) = (i1 : Int) - 1 := wr_i64 (by omega)
    refine s_then (dt (by omega)) ?_
    refine s_gd (all_c (dt (by omega)) (all_c (dt (by omega)) all_n)) ?_
    refine s_bindN (s_route_Valid (a0.getD i1 default) (LL.getD ha0 L_TRoute.dflt i1)) (fun r3 her3 => ?_)
    refine s_ifN (fun hb1 => ?_) (fun hb1 => ?_)
    · exact s_out
    · refine s_bindN (s_gc fun hg => (s_addr_Compare ((a0.getD (wr .i64 ((i1 : Int) - 1)).toNat default).fPrefix) ((a0.getD i1 default).fPrefix))) (fun r4 her4 => ?_)
      refine s_gd (all_c (s_guard fun hg => (dt (by first | omega | (simp; omega) | (simp at *; omega)))) (all_c (s_guard fun hg => (dt (by first | omega | (simp; omega) | (simp at *; omega)))) all_n)) ?_
      refine s_ifN (fun hb2 => ?_) (fun hb2 => ?_)
      · exact s_out
      · exact s_up (by omega)
  · unfold M.route_Table_l1
    try simp only [Int.toNat_natCast]
    exact s_else (decide_eq_false (by omega)) rfl
noncomputable def S.route_Table (a0 : List TRoute) (a1 : Int) : Bool :=
  letS (runN (S.route_Table_l1 a0 a1) (.inl ()) 0 a0.length) (fun y5 => Sum.elim (fun _ => true) (fun y7 => y7) y5)
theorem s_route_Table (a0 : List TRoute) (a1 : Int) (ha0 : LL L_TRoute a0) : M.route_Table a0 a1 = some (S.route_Table a0 a1) := by
  have hM := maxLen_eq
  unfold M.route_Table S.route_Table
  refine s_bind (s_route_Table_l1 a0 a1 ha0 0) (fun y5 hey5 => ?_)
  refine s_elim (fun _ hl => ?_) (fun y7 hly7 => ?_)
  · rfl
  · rfl
noncomputable def S.slices_Equal_int_int_l1 (a0 : List Int) (a1 : List Int) (i1 : Nat) : Option (Unit ⊕ Bool) :=
  bif (a0.getD i1 default) != (a1.getD i1 default) then (some (.inr false)) else none
theorem s_slices_Equal_int_int_l1 (a0 : List Int) (a1 : List Int) (ha0 : a0.length ≤ maxLen) (ha1 : a1.length ≤ maxLen) (hlen : a0.length = a1.length) (i0 : Nat) : loopM (M.slices_Equal_int_int_l1 a0 a1) (i0 : Int) = some (runN (S.slices_Equal_int_int_l1 a0 a1) (.inl ()) i0 (a0.length - i0)) := by
  have hM := maxLen_eq
  have hni1 : a0.length ≤ maxLen := ha0
  refine loop_runN (n := a0.length) (fun i1 hi1 => ?_) (fun m hm => ?_) i0
  · unfold M.slices_Equal_int_int_l1 S.slices_Equal_int_int_l1
    try simp only [Int.toNat_natCast]
    refine s_then (dt (by omega)) ?_
    refine s_gd (all_c (dt (by omega)) (all_c (dt (by omega)) (all_c (dt (by omega)) (all_c (dt (by omega)) all_n)))) ?_
    refine s_ifN (fun hb2 => ?_) (fun hb2 => ?_)
    · exact s_out
    · exact s_up (by omega)
  · unfold M.slices_Equal_int_int_l1
    try simp only [Int.toNat_natCast]
    exact s_else (decide_eq_false (by omega)) rfl
noncomputable def S.slices_Equal_int_int (a0 : List Int) (a1 : List Int) : Bool :=
  bif (a0.length : Int) != (a1.length : Int) then false else (letS (runN (S.slices_Equal_int_int_l1 a0 a1) (.inl ()) 0 a0.length) (fun y3 => Sum.elim (fun _ => true) (fun y5 => y5) y3))
theorem s_slices_Equal_int_int (a0 : List Int) (a1 : List Int) (ha0 : a0.length ≤ maxLen) (ha1 : a1.length ≤ maxLen) : M.slices_Equal_int_int a0 a1 = some (S.slices_Equal_int_int a0 a1) := by
  have hM := maxLen_eq
  unfold M.slices_Equal_int_int S.slices_Equal_int_int
  refine s_if (fun hb1 => ?_) (fun hb1 => ?_)
  · rfl
  · refine s_bind (s_slices_Equal_int_int_l1 a0 a1 ha0 ha1 (by simp at *; omega) 0) (fun y3 hey3 => ?_)
    refine s_elim (fun _ hl => ?_) (fun y5 hly5 => ?_)
    · rfl
    · rfl
noncomputable def S.slices_Equal_api_Hop_api_Hop_l1 (a0 : List THop) (a1 : List THop) (i1 : Nat) : Option (Unit ⊕ Bool) :=
  bif !((((a0.getD i1 default).fIface) == ((a1.getD i1 default).fIface)) && ((((a0.getD i1 default).fAddr) == ((a1.getD i1 default).fAddr)) && true)) then (some (.inr false)) else none
theorem s_slices_Equal_api_Hop_api_Hop_l1 (a0 : List THop) (a1 : List THop) (ha0 : a0.length ≤ maxLen) (ha1 : a1.length ≤ maxLen) (hlen : a0.length = a1.length) (i0 : Nat) : loopM (M.slices_Equal_api_Hop_api_Hop_l1 a0 a1) (i0 : Int) = some (runN (S.slices_Equal_api_Hop_api_Hop_l1 a0 a1) (.inl ()) i0 (a0.length - i0)) := by
  have hM := maxLen_eq
  have hni1 : a0.length ≤ maxLen := ha0
  refine loop_runN (n := a0.length) (fun i1 hi1 => ?_) (fun m hm => ?_) i0
  · unfold M.slices_Equal_api_Hop_api_Hop_l1 S.slices_Equal_api_Hop_api_Hop_l1
    try simp only [Int.toNat_natCast]
    refine s_then (dt (by omega)) ?_
    refine s_gd (all_c (dt (by omega)) (all_c (dt (by omega)) (all_c (dt (by omega)) (all_c (dt (by omega)) all_n)))) ?_
    refine s_ifN (fun hb2 => ?_) (fun hb2 => ?_)
    · exact s_out
    · exact s_up (by omega)
  · unfold M.slices_Equal_api_Hop_api_Hop_l1
    try simp only [Int.toNat_natCast]
    exact s_else (decide_eq_false (by omega)) rfl
noncomputable def S.slices_Equal_api_Hop_api_Hop (a0 : List THop) (a1 : List THop) : Bool :=
  bif (a0.length : Int) != (a1.length : Int) then false else (letS (runN (S.slices_Equal_api_Hop_api_Hop_l1 a0 a1) (.inl ()) 0 a0.length) (fun y3 => Sum.elim (fun _ => true) (fun y5 => y5) y3))
theorem s_slices_Equal_api_Hop_api_Hop (a0 : List THop) (a1 : List THop) (ha0 : a0.length ≤ maxLen) (ha1 : a1.length ≤ maxLen) : M.slices_Equal_api_Hop_api_Hop a0 a1 = some (S.slices_Equal_api_Hop_api_Hop a0 a1) := by
  have hM := maxLen_eq
  unfold M.slices_Equal_api_Hop_api_Hop S.slices_Equal_api_Hop_api_Hop
  refine s_if (fun hb1 => ?_) (fun hb1 => ?_)
  · rfl
  · refine s_bind (s_slices_Equal_api_Hop_api_Hop_l1 a0 a1 ha0 ha1 (by simp at *; omega) 0) (fun y3 hey3 => ?_)
    refine s_elim (fun _ hl => ?_) (fun y5 hly5 => ?_)
    · rfl
    · rfl
noncomputable def S.route_Same (a0 : TRoute) (a1 : TRoute) : Bool :=
  letS (bif (((((((((a0.fPrefix.fAddr == a1.fPrefix.fAddr) && ((a0.fPrefix.fLen == a1.fPrefix.fLen) && true)) && (a0.fProto == a1.fProto)) && (a0.fClass == a1.fClass)) && (a0.fAdmin == a1.fAdmin)) && (a0.fMetric == a1.fMetric)) && (a0.fInner == a1.fInner)) && (a0.fTag == a1.fTag)) && (a0.fPref == a1.fPref)) then S.slices_Equal_int_int a0.fPath a1.fPath else default) (fun r1 => letS (bif ((((((((((((a0.fPrefix.fAddr == a1.fPrefix.fAddr) && ((a0.fPrefix.fLen == a1.fPrefix.fLen) && true)) && (a0.fProto == a1.fProto)) && (a0.fClass == a1.fClass)) && (a0.fAdmin == a1.fAdmin)) && (a0.fMetric == a1.fMetric)) && (a0.fInner == a1.fInner)) && (a0.fTag == a1.fTag)) && (a0.fPref == a1.fPref)) && r1) && (a0.fFrom == a1.fFrom)) && (a0.fNext == a1.fNext)) then S.slices_Equal_api_Hop_api_Hop a0.fHops a1.fHops else default) (fun r2 => (((((((((((((a0.fPrefix.fAddr == a1.fPrefix.fAddr) && ((a0.fPrefix.fLen == a1.fPrefix.fLen) && true)) && (a0.fProto == a1.fProto)) && (a0.fClass == a1.fClass)) && (a0.fAdmin == a1.fAdmin)) && (a0.fMetric == a1.fMetric)) && (a0.fInner == a1.fInner)) && (a0.fTag == a1.fTag)) && (a0.fPref == a1.fPref)) && r1) && (a0.fFrom == a1.fFrom)) && (a0.fNext == a1.fNext)) && r2) && (a0.fDiscard == a1.fDiscard)))
theorem s_route_Same (a0 : TRoute) (a1 : TRoute) (ha0 : L_TRoute a0) (ha1 : L_TRoute a1) : M.route_Same a0 a1 = some (S.route_Same a0 a1) := by
  have hM := maxLen_eq
  unfold M.route_Same S.route_Same
  refine s_bind (s_gc fun hg => (s_slices_Equal_int_int a0.fPath a1.fPath (L_TRoute.fPath ha0) (L_TRoute.fPath ha1))) (fun r1 her1 => ?_)
  refine s_bind (s_gc fun hg => (s_slices_Equal_api_Hop_api_Hop a0.fHops a1.fHops (L_TRoute.fHops ha0) (L_TRoute.fHops ha1))) (fun r2 her2 => ?_)
  rfl
noncomputable def S.slices_EqualFunc_api_Route_api_Route_api_Route_api_Route__route_Same_l1 (a0 : List TRoute) (a1 : List TRoute) (i1 : Nat) : Option (Unit ⊕ Bool) :=
  letS (S.route_Same (a0.getD i1 default) (a1.getD i1 default)) (fun r3 => bif !r3 then (some (.inr false)) else none)
theorem s_slices_EqualFunc_api_Route_api_Route_api_Route_api_Route__route_Same_l1 (a0 : List TRoute) (a1 : List TRoute) (ha0 : LL L_TRoute a0) (ha1 : LL L_TRoute a1) (hlen : a0.length = a1.length) (i0 : Nat) : loopM (M.slices_EqualFunc_api_Route_api_Route_api_Route_api_Route__route_Same_l1 a0 a1) (i0 : Int) = some (runN (S.slices_EqualFunc_api_Route_api_Route_api_Route_api_Route__route_Same_l1 a0 a1) (.inl ()) i0 (a0.length - i0)) := by
  have hM := maxLen_eq
  have hni1 : a0.length ≤ maxLen := ha0.1
  refine loop_runN (n := a0.length) (fun i1 hi1 => ?_) (fun m hm => ?_) i0
  · unfold M.slices_EqualFunc_api_Route_api_Route_api_Route_api_Route__route_Same_l1 S.slices_EqualFunc_api_Route_api_Route_api_Route_api_Route__route_Same_l1
    try simp only [Int.toNat_natCast]
    refine s_then (dt (by omega)) ?_
    refine s_gd (all_c (dt (by omega)) (all_c (dt (by omega)) all_n)) ?_
    refine s_gd (all_c (dt (by omega)) (all_c (dt (by omega)) all_n)) ?_
    refine s_bindN (s_route_Same (a0.getD i1 default) (a1.getD i1 default) (LL.getD ha0 L_TRoute.dflt i1) (LL.getD ha1 L_TRoute.dflt i1)) (fun r3 her3 => ?_)
    refine s_ifN (fun hb2 => ?_) (fun hb2 => ?_)
    · exact s_out
    · exact s_up (by omega)
  · unfold M.slices_EqualFunc_api_Route_api_Route_api_Route_api_Route__route_Same_l1
    try simp only [Int.toNat_natCast]
    exact s_else (decide_eq_false (by omega)) rfl
noncomputable def S.slices_EqualFunc_api_Route_api_Route_api_Route_api_Route__route_Same (a0 : List TRoute) (a1 : List TRoute) : Bool :=
  bif (a0.length : Int) != (a1.length : Int) then false else (letS (runN (S.slices_EqualFunc_api_Route_api_Route_api_Route_api_Route__route_Same_l1 a0 a1) (.inl ()) 0 a0.length) (fun y4 => Sum.elim (fun _ => true) (fun y6 => y6) y4))
theorem s_slices_EqualFunc_api_Route_api_Route_api_Route_api_Route__route_Same (a0 : List TRoute) (a1 : List TRoute) (ha0 : LL L_TRoute a0) (ha1 : LL L_TRoute a1) : M.slices_EqualFunc_api_Route_api_Route_api_Route_api_Route__route_Same a0 a1 = some (S.slices_EqualFunc_api_Route_api_Route_api_Route_api_Route__route_Same a0 a1) := by
  have hM := maxLen_eq
  unfold M.slices_EqualFunc_api_Route_api_Route_api_Route_api_Route__route_Same S.slices_EqualFunc_api_Route_api_Route_api_Route_api_Route__route_Same
  refine s_if (fun hb1 => ?_) (fun hb1 => ?_)
  · rfl
  · refine s_bind (s_slices_EqualFunc_api_Route_api_Route_api_Route_api_Route__route_Same_l1 a0 a1 ha0 ha1 (by simp at *; omega) 0) (fun y4 hey4 => ?_)
    refine s_elim (fun _ hl => ?_) (fun y6 hly6 => ?_)
    · rfl
    · rfl
noncomputable def S.route_SameAll (a0 : List TRoute) (a1 : List TRoute) : Bool :=
  letS (S.slices_EqualFunc_api_Route_api_Route_api_Route_api_Route__route_Same a0 a1) (fun r1 => r1)
theorem s_route_SameAll (a0 : List TRoute) (a1 : List TRoute) (ha0 : LL L_TRoute a0) (ha1 : LL L_TRoute a1) : M.route_SameAll a0 a1 = some (S.route_SameAll a0 a1) := by
  have hM := maxLen_eq
  unfold M.route_SameAll S.route_SameAll
  refine s_bind (s_slices_EqualFunc_api_Route_api_Route_api_Route_api_Route__route_Same a0 a1 ha0 ha1) (fun r1 her1 => ?_)
  rfl
noncomputable def S.ref15_Same_l1 (a0 : TRoute) (a1 : TRoute) (i1 : Nat) : Option (Unit ⊕ Bool) :=
  bif (a0.fPath.getD i1 default) != (a1.fPath.getD i1 default) then (some (.inr false)) else none
theorem s_ref15_Same_l1 (a0 : TRoute) (a1 : TRoute) (ha0 : L_TRoute a0) (ha1 : L_TRoute a1) (hlen : a0.fPath.length = a1.fPath.length) (i0 : Nat) : loopM (M.ref15_Same_l1 a0 a1) (i0 : Int) = some (runN (S.ref15_Same_l1 a0 a1) (.inl ()) i0 (a0.fPath.length - i0)) := by
  have hM := maxLen_eq
  have hni1 : a0.fPath.length ≤ maxLen := (L_TRoute.fPath ha0)
  refine loop_runN (n := a0.fPath.length) (fun i1 hi1 => ?_) (fun m hm => ?_) i0
  · unfold M.ref15_Same_l1 S.ref15_Same_l1
    try simp only [Int.toNat_natCast]
    refine s_then (dt (by omega)) ?_
    refine s_gd (all_c (dt (by omega)) (all_c (dt (by omega)) (all_c (dt (by omega)) (all_c (dt (by omega)) all_n)))) ?_
    refine s_ifN (fun hb2 => ?_) (fun hb2 => ?_)
    · exact s_out
    · exact s_up (by omega)
  · unfold M.ref15_Same_l1
    try simp only [Int.toNat_natCast]
    exact s_else (decide_eq_false (by omega)) rfl
noncomputable def S.ref15_Same_l2 (a0 : TRoute) (a1 : TRoute) (i6 : Nat) : Option (Unit ⊕ Bool) :=
  bif !((((a0.fHops.getD i6 default).fIface) == ((a1.fHops.getD i6 default).fIface)) && ((((a0.fHops.getD i6 default).fAddr) == ((a1.fHops.getD i6 default).fAddr)) && true)) then (some (.inr false)) else none
theorem s_ref15_Same_l2 (a0 : TRoute) (a1 : TRoute) (ha0 : L_TRoute a0) (ha1 : L_TRoute a1) (hlen : a0.fHops.length = a1.fHops.length) (i0 : Nat) : loopM (M.ref15_Same_l2 a0 a1) (i0 : Int) = some (runN (S.ref15_Same_l2 a0 a1) (.inl ()) i0 (a0.fHops.length - i0)) := by
  have hM := maxLen_eq
  have hni6 : a0.fHops.length ≤ maxLen := (L_TRoute.fHops ha0)
  refine loop_runN (n := a0.fHops.length) (fun i6 hi6 => ?_) (fun m hm => ?_) i0
  · unfold M.ref15_Same_l2 S.ref15_Same_l2
    try simp only [Int.toNat_natCast]
    refine s_then (dt (by omega)) ?_
    refine s_gd (all_c (dt (by omega)) (all_c (dt (by omega)) (all_c (dt (by omega)) (all_c (dt (by omega)) all_n)))) ?_
    refine s_ifN (fun hb3 => ?_) (fun hb3 => ?_)
    · exact s_out
    · exact s_up (by omega)
  · unfold M.ref15_Same_l2
    try simp only [Int.toNat_natCast]
    exact s_else (decide_eq_false (by omega)) rfl
noncomputable def S.ref15_Same (a0 : TRoute) (a1 : TRoute) : Bool :=
  bif ((((((((((((!((a0.fPrefix.fAddr == a1.fPrefix.fAddr) && ((a0.fPrefix.fLen == a1.fPrefix.fLen) && true))) || (a0.fProto != a1.fProto)) || (a0.fClass != a1.fClass)) || (a0.fAdmin != a1.fAdmin)) || (a0.fMetric != a1.fMetric)) || (a0.fInner != a1.fInner)) || (a0.fTag != a1.fTag)) || (a0.fPref != a1.fPref)) || (a0.fFrom != a1.fFrom)) || (a0.fNext != a1.fNext)) || (!(a0.fDiscard == a1.fDiscard))) || ((a0.fPath.length : Int) != (a1.fPath.length : Int))) || ((a0.fHops.length : Int) != (a1.fHops.length : Int)) then false else (letS (runN (S.ref15_Same_l1 a0 a1) (.inl ()) 0 a0.fPath.length) (fun y3 => Sum.elim (fun _ => letS (runN (S.ref15_Same_l2 a0 a1) (.inl ()) 0 a0.fHops.length) (fun y8 => Sum.elim (fun _ => true) (fun y10 => y10) y8)) (fun y5 => y5) y3))
theorem s_ref15_Same (a0 : TRoute) (a1 : TRoute) (ha0 : L_TRoute a0) (ha1 : L_TRoute a1) : M.ref15_Same a0 a1 = some (S.ref15_Same a0 a1) := by
  have hM := maxLen_eq
  unfold M.ref15_Same S.ref15_Same
  refine s_if (fun hb1 => ?_) (fun hb1 => ?_)
  · rfl
  · refine s_bind (s_ref15_Same_l1 a0 a1 ha0 ha1 (by simp at *; omega) 0) (fun y3 hey3 => ?_)
    refine s_elim (fun _ hl => ?_) (fun y5 hly5 => ?_)
    · refine s_bind (s_ref15_Same_l2 a0 a1 ha0 ha1 (by simp at *; omega) 0) (fun y8 hey8 => ?_)
      refine s_elim (fun _ hl => ?_) (fun y10 hly10 => ?_)
      · rfl
      · rfl
    · rfl
noncomputable def S.ref15_SameAll_l1 (a0 : List TRoute) (a1 : List TRoute) (i1 : Nat) : Option (Unit ⊕ Bool) :=
  letS (S.ref15_Same (a0.getD i1 default) (a1.getD i1 default)) (fun r3 => bif !r3 then (some (.inr false)) else none)
theorem s_ref15_SameAll_l1 (a0 : List TRoute) (a1 : List TRoute) (ha0 : LL L_TRoute a0) (ha1 : LL L_TRoute a1) (hlen : a0.length = a1.length) (i0 : Nat) : loopM (M.ref15_SameAll_l1 a0 a1) (i0 : Int) = some (runN (S.ref15_SameAll_l1 a0 a1) (.inl ()) i0 (a0.length - i0)) := by
  have hM := maxLen_eq
  have hni1 : a0.length ≤ maxLen := ha0.1
  refine loop_runN (n := a0.length) (fun i1 hi1 => ?_) (fun m hm => ?_) i0
  · unfold M.ref15_SameAll_l1 S.ref15_SameAll_l1
    try simp only [Int.toNat_natCast]
    refine s_then (dt (by omega)) ?_
    refine s_bindN (s_ref15_Same (a0.getD i1 default) (a1.getD i1 default) (LL.getD ha0 L_TRoute.dflt i1) (LL.getD ha1 L_TRoute.dflt i1)) (fun r3 her3 => ?_)
    refine s_gd (all_c (dt (by omega)) (all_c (dt (by omega)) (all_c (dt (by omega)) (all_c (dt (by omega)) all_n)))) ?_
    refine s_ifN (fun hb2 => ?_) (fun hb2 => ?_)
    · exact s_out
    · exact s_up (by omega)
  · unfold M.ref15_SameAll_l1
    try simp only [Int.toNat_natCast]
    exact s_else (decide_eq_false (by omega)) rfl
noncomputable def S.ref15_SameAll (a0 : List TRoute) (a1 : List TRoute) : Bool :=
  bif (a0.length : Int) != (a1.length : Int) then false else (letS (runN (S.ref15_SameAll_l1 a0 a1) (.inl ()) 0 a0.length) (fun y4 => Sum.elim (fun _ => true) (fun y6 => y6) y4))
theorem s_ref15_SameAll (a0 : List TRoute) (a1 : List TRoute) (ha0 : LL L_TRoute a0) (ha1 : LL L_TRoute a1) : M.ref15_SameAll a0 a1 = some (S.ref15_SameAll a0 a1) := by
  have hM := maxLen_eq
  unfold M.ref15_SameAll S.ref15_SameAll
  refine s_if (fun hb1 => ?_) (fun hb1 => ?_)
  · rfl
  · refine s_bind (s_ref15_SameAll_l1 a0 a1 ha0 ha1 (by simp at *; omega) 0) (fun y4 hey4 => ?_)
    refine s_elim (fun _ hl => ?_) (fun y6 hly6 => ?_)
    · rfl
    · rfl
end Nv
