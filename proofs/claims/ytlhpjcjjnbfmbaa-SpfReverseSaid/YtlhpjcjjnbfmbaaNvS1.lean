/- The fixed example: reckoned. -/
import Derived.Test.YtlhpjcjjnbfmbaaNvD1
import Derived.Test.YtlhpjcjjnbfmbaaNvLibB
import Derived.Test.YtlhpjcjjnbfmbaaNvHs
import Derived.KernelRfl
set_option maxRecDepth 100000
namespace Nv
open Go
noncomputable def K.spf_nodes (a0 : Int) : Option Int :=
  some (if 64 < (if 0 > a0 then 0 else a0) then 64 else (if 0 > a0 then 0 else a0))
theorem k_spf_nodes (a0 : Int) : Ref (K.spf_nodes a0) (M.spf_nodes a0) := by
  unfold K.spf_nodes M.spf_nodes
  repeat' (first | with_reducible exact ref_some | with_reducible exact ref_none | with_reducible refine ref_bind ?_ (fun _ => ?_) | with_reducible refine ref_gd ?_ | with_reducible refine ref_gc ?_ | with_reducible refine ref_cond ?_ ?_ | with_reducible refine ref_elim (fun _ => ?_) (fun _ => ?_) | with_reducible refine ref_loop (fun _ => ?_))
noncomputable def K.spf_usable (a0 : Int) (a1 : TEdge) : Option Bool :=
  some ((((((decide (a1.fFrom ≥ 0)) && (decide (a1.fFrom < a0))) && (decide (a1.fTo ≥ 0))) && (decide (a1.fTo < a0))) && (decide (a1.fCost ≥ 1))) && (decide (a1.fCost ≤ 16777215)))
theorem k_spf_usable (a0 : Int) (a1 : TEdge) : Ref (K.spf_usable a0 a1) (M.spf_usable a0 a1) := by
  unfold K.spf_usable M.spf_usable
  repeat' (first | with_reducible exact ref_some | with_reducible exact ref_none | with_reducible refine ref_bind ?_ (fun _ => ?_) | with_reducible refine ref_gd ?_ | with_reducible refine ref_gc ?_ | with_reducible refine ref_cond ?_ ?_ | with_reducible refine ref_elim (fun _ => ?_) (fun _ => ?_) | with_reducible refine ref_loop (fun _ => ?_))
noncomputable def K.spf_Distances_l1 (r1 : Int) (p2 : (List Int) × Int) : Option (((List Int) × Int) ⊕ (List Int)) :=
  bif decide (p2.2 < ((List.replicate r1.toNat (0 : Int)).length : Int)) then (gd [decide (0 ≤ p2.2), decide (p2.2 < (p2.1.length : Int))] (some (.inl (p2.1.set (0 + p2.2.toNat) (-1), wr .i64 (p2.2 + 1))))) else (some (.inr p2.1))
theorem k_spf_Distances_l1 (r1 : Int) (p2 : (List Int) × Int) : Ref (K.spf_Distances_l1 r1 p2) (M.spf_Distances_l1 r1 p2) := by
  unfold K.spf_Distances_l1 M.spf_Distances_l1
  repeat' (first | with_reducible exact ref_some | with_reducible exact ref_none | with_reducible refine ref_bind ?_ (fun _ => ?_) | with_reducible refine ref_gd ?_ | with_reducible refine ref_gc ?_ | with_reducible refine ref_cond ?_ ?_ | with_reducible refine ref_elim (fun _ => ?_) (fun _ => ?_) | with_reducible refine ref_loop (fun _ => ?_))
noncomputable def K.spf_Distances_k1 (p7 : Int × Int) (p9 : Int) : Option ((Int × Int) ⊕ Int) :=
  some (.inl (p9, wr .i64 (p7.2 + 1)))
theorem k_spf_Distances_k1 (p7 : Int × Int) (p9 : Int) : Ref (K.spf_Distances_k1 p7 p9) (M.spf_Distances_k1 p7 p9) := by
  unfold K.spf_Distances_k1 M.spf_Distances_k1
  repeat' (first | with_reducible exact ref_some | with_reducible exact ref_none | with_reducible refine ref_bind ?_ (fun _ => ?_) | with_reducible refine ref_gd ?_ | with_reducible refine ref_gc ?_ | with_reducible refine ref_cond ?_ ?_ | with_reducible refine ref_elim (fun _ => ?_) (fun _ => ?_) | with_reducible refine ref_loop (fun _ => ?_))
noncomputable def K.spf_Distances_l3 (p5 : (List Int) × (List Bool)) (p7 : Int × Int) : Option ((Int × Int) ⊕ Int) :=
  bif decide (p7.2 < (p5.1.length : Int)) then (gd [decide (0 ≤ p7.2), decide (p7.2 < (p5.1.length : Int))] (gd [decide (0 ≤ p7.2), decide (p7.2 < (p5.2.length : Int)), guardB (((!(p5.2.getD (0 + p7.2.toNat) default)) && (decide ((p5.1.getD (0 + p7.2.toNat) default) ≥ 0))) && !(decide (p7.1 < 0))) (decide (0 ≤ p7.1)), guardB (((!(p5.2.getD (0 + p7.2.toNat) default)) && (decide ((p5.1.getD (0 + p7.2.toNat) default) ≥ 0))) && !(decide (p7.1 < 0))) (decide (p7.1 < (p5.1.length : Int)))] (bif ((!(p5.2.getD (0 + p7.2.toNat) default)) && (decide ((p5.1.getD (0 + p7.2.toNat) default) ≥ 0))) && ((decide (p7.1 < 0)) || (decide ((p5.1.getD (0 + p7.2.toNat) default) < (p5.1.getD (0 + p7.1.toNat) default)))) then (K.spf_Distances_k1 p7 p7.2) else (K.spf_Distances_k1 p7 p7.1)))) else (some (.inr p7.1))
theorem k_spf_Distances_l3 (p5 : (List Int) × (List Bool)) (p7 : Int × Int) : Ref (K.spf_Distances_l3 p5 p7) (M.spf_Distances_l3 p5 p7) := by
  unfold K.spf_Distances_l3 M.spf_Distances_l3
  repeat' (first | with_reducible exact ref_some | with_reducible exact ref_none | with_reducible exact k_spf_Distances_k1 .. | with_reducible refine ref_bind ?_ (fun _ => ?_) | with_reducible refine ref_gd ?_ | with_reducible refine ref_gc ?_ | with_reducible refine ref_cond ?_ ?_ | with_reducible refine ref_elim (fun _ => ?_) (fun _ => ?_) | with_reducible refine ref_loop (fun _ => ?_))
noncomputable def K.spf_Distances_k2 (p11 : (List Int) × Int) (p13 : (List Int)) : Option (((List Int) × Int) ⊕ (List Int)) :=
  some (.inl (p13, wr .i64 (p11.2 + 1)))
theorem k_spf_Distances_k2 (p11 : (List Int) × Int) (p13 : (List Int)) : Ref (K.spf_Distances_k2 p11 p13) (M.spf_Distances_k2 p11 p13) := by
  unfold K.spf_Distances_k2 M.spf_Distances_k2
  repeat' (first | with_reducible exact ref_some | with_reducible exact ref_none | with_reducible refine ref_bind ?_ (fun _ => ?_) | with_reducible refine ref_gd ?_ | with_reducible refine ref_gc ?_ | with_reducible refine ref_cond ?_ ?_ | with_reducible refine ref_elim (fun _ => ?_) (fun _ => ?_) | with_reducible refine ref_loop (fun _ => ?_))
noncomputable def K.spf_Distances_l4 (a1 : List TEdge) (r1 : Int) (y10 : Int) (p11 : (List Int) × Int) : Option (((List Int) × Int) ⊕ (List Int)) :=
  bif decide (p11.2 < (a1.length : Int)) then (gd [decide (0 ≤ p11.2), decide (p11.2 < (a1.length : Int))] ((K.spf_usable r1 (a1.getD p11.2.toNat default)).bind fun r14 => bif (!r14) || (((a1.getD p11.2.toNat default).fFrom) != y10) then (K.spf_Distances_k2 p11 p11.1) else (gd [decide (0 ≤ y10), decide (y10 < (p11.1.length : Int))] (gd [decide (0 ≤ ((a1.getD p11.2.toNat default).fTo)), decide (((a1.getD p11.2.toNat default).fTo) < (p11.1.length : Int)), guardB (!(decide ((p11.1.getD (0 + ((a1.getD p11.2.toNat default).fTo).toNat) default) < 0))) (decide (0 ≤ ((a1.getD p11.2.toNat default).fTo))), guardB (!(decide ((p11.1.getD (0 + ((a1.getD p11.2.toNat default).fTo).toNat) default) < 0))) (decide (((a1.getD p11.2.toNat default).fTo) < (p11.1.length : Int)))] (bif (decide ((p11.1.getD (0 + ((a1.getD p11.2.toNat default).fTo).toNat) default) < 0)) || (decide ((wr .i64 ((p11.1.getD (0 + y10.toNat) default) + ((a1.getD p11.2.toNat default).fCost))) < (p11.1.getD (0 + ((a1.getD p11.2.toNat default).fTo).toNat) default))) then (gd [decide (0 ≤ ((a1.getD p11.2.toNat default).fTo)), decide (((a1.getD p11.2.toNat default).fTo) < (p11.1.length : Int))] (K.spf_Distances_k2 p11 (p11.1.set (0 + ((a1.getD p11.2.toNat default).fTo).toNat) (wr .i64 ((p11.1.getD (0 + y10.toNat) default) + ((a1.getD p11.2.toNat default).fCost)))))) else (K.spf_Distances_k2 p11 p11.1)))))) else (some (.inr p11.1))
theorem k_spf_Distances_l4 (a1 : List TEdge) (r1 : Int) (y10 : Int) (p11 : (List Int) × Int) : Ref (K.spf_Distances_l4 a1 r1 y10 p11) (M.spf_Distances_l4 a1 r1 y10 p11) := by
  unfold K.spf_Distances_l4 M.spf_Distances_l4
  repeat' (first | with_reducible exact ref_some | with_reducible exact ref_none | with_reducible exact k_spf_usable .. | with_reducible exact k_spf_Distances_k2 .. | with_reducible refine ref_bind ?_ (fun _ => ?_) | with_reducible refine ref_gd ?_ | with_reducible refine ref_gc ?_ | with_reducible refine ref_cond ?_ ?_ | with_reducible refine ref_elim (fun _ => ?_) (fun _ => ?_) | with_reducible refine ref_loop (fun _ => ?_))
noncomputable def K.spf_Distances_l2 (a1 : List TEdge) (r1 : Int) (p5 : (List Int) × (List Bool)) : Option (((List Int) × (List Bool)) ⊕ (List Int)) :=
  (loopN 1000 (K.spf_Distances_l3 p5) ((-1), 0)).bind fun y10 => bif decide (y10 < 0) then (some (.inr p5.1)) else (gd [decide (0 ≤ y10), decide (y10 < (p5.2.length : Int))] ((loopN 1000 (K.spf_Distances_l4 a1 r1 y10) (p5.1, 0)).bind fun y15 => some (.inl (y15, p5.2.set (0 + y10.toNat) true))))
theorem k_spf_Distances_l2 (a1 : List TEdge) (r1 : Int) (p5 : (List Int) × (List Bool)) : Ref (K.spf_Distances_l2 a1 r1 p5) (M.spf_Distances_l2 a1 r1 p5) := by
  unfold K.spf_Distances_l2 M.spf_Distances_l2
  repeat' (first | with_reducible exact ref_some | with_reducible exact ref_none | with_reducible exact k_spf_Distances_l3 .. | with_reducible exact k_spf_Distances_l4 .. | with_reducible refine ref_bind ?_ (fun _ => ?_) | with_reducible refine ref_gd ?_ | with_reducible refine ref_gc ?_ | with_reducible refine ref_cond ?_ ?_ | with_reducible refine ref_elim (fun _ => ?_) (fun _ => ?_) | with_reducible refine ref_loop (fun _ => ?_))
noncomputable def K.spf_Distances (a0 : Int) (a1 : List TEdge) (a2 : Int) : Option (List Int) :=
  (K.spf_nodes a0).bind fun r1 => gd [decide (0 ≤ r1), decide (r1 ≤ r1), decide (r1.toNat * 8 ≤ 140737488355328), decide (r1.toNat ≤ 140737488355328)] ((loopN 1000 (K.spf_Distances_l1 r1) (List.replicate r1.toNat (0 : Int), 0)).bind fun y4 => bif (decide (a2 < 0)) || (decide (a2 ≥ r1)) then (some y4) else (gd [decide (0 ≤ a2), decide (a2 < (y4.length : Int))] (gd [decide (0 ≤ r1), decide (r1 ≤ r1), decide (r1.toNat * 1 ≤ 140737488355328), decide (r1.toNat ≤ 140737488355328)] ((loopN 1000 (K.spf_Distances_l2 a1 r1) (y4.set (0 + a2.toNat) 0, List.replicate r1.toNat false)).bind fun y16 => some y16))))
theorem k_spf_Distances (a0 : Int) (a1 : List TEdge) (a2 : Int) : Ref (K.spf_Distances a0 a1 a2) (M.spf_Distances a0 a1 a2) := by
  unfold K.spf_Distances M.spf_Distances
  repeat' (first | with_reducible exact ref_some | with_reducible exact ref_none | with_reducible exact k_spf_nodes .. | with_reducible exact k_spf_Distances_l1 .. | with_reducible exact k_spf_Distances_l2 .. | with_reducible refine ref_bind ?_ (fun _ => ?_) | with_reducible refine ref_gd ?_ | with_reducible refine ref_gc ?_ | with_reducible refine ref_cond ?_ ?_ | with_reducible refine ref_elim (fun _ => ?_) (fun _ => ?_) | with_reducible refine ref_loop (fun _ => ?_))
noncomputable def K.cmp_isNaN_int (a0 : Int) : Option Bool :=
  some (a0 != a0)
theorem k_cmp_isNaN_int (a0 : Int) : Ref (K.cmp_isNaN_int a0) (M.cmp_isNaN_int a0) := by
  unfold K.cmp_isNaN_int M.cmp_isNaN_int
  repeat' (first | with_reducible exact ref_some | with_reducible exact ref_none | with_reducible refine ref_bind ?_ (fun _ => ?_) | with_reducible refine ref_gd ?_ | with_reducible refine ref_gc ?_ | with_reducible refine ref_cond ?_ ?_ | with_reducible refine ref_elim (fun _ => ?_) (fun _ => ?_) | with_reducible refine ref_loop (fun _ => ?_))
noncomputable def K.cmp_Compare_int (a0 : Int) (a1 : Int) : Option Int :=
  (K.cmp_isNaN_int a0).bind fun r1 => (K.cmp_isNaN_int a1).bind fun r2 => bif r1 then (bif r2 then (some 0) else (some (-1))) else (bif r2 then (some 1) else (bif decide (a0 < a1) then (some (-1)) else (bif decide (a0 > a1) then (some 1) else (some 0))))
theorem k_cmp_Compare_int (a0 : Int) (a1 : Int) : Ref (K.cmp_Compare_int a0 a1) (M.cmp_Compare_int a0 a1) := by
  unfold K.cmp_Compare_int M.cmp_Compare_int
  repeat' (first | with_reducible exact ref_some | with_reducible exact ref_none | with_reducible exact k_cmp_isNaN_int .. | with_reducible refine ref_bind ?_ (fun _ => ?_) | with_reducible refine ref_gd ?_ | with_reducible refine ref_gc ?_ | with_reducible refine ref_cond ?_ ?_ | with_reducible refine ref_elim (fun _ => ?_) (fun _ => ?_) | with_reducible refine ref_loop (fun _ => ?_))
noncomputable def K.cmp_isNaN_uint32 (a0 : Int) : Option Bool :=
  some (a0 != a0)
theorem k_cmp_isNaN_uint32 (a0 : Int) : Ref (K.cmp_isNaN_uint32 a0) (M.cmp_isNaN_uint32 a0) := by
  unfold K.cmp_isNaN_uint32 M.cmp_isNaN_uint32
  repeat' (first | with_reducible exact ref_some | with_reducible exact ref_none | with_reducible refine ref_bind ?_ (fun _ => ?_) | with_reducible refine ref_gd ?_ | with_reducible refine ref_gc ?_ | with_reducible refine ref_cond ?_ ?_ | with_reducible refine ref_elim (fun _ => ?_) (fun _ => ?_) | with_reducible refine ref_loop (fun _ => ?_))
noncomputable def K.cmp_Compare_uint32 (a0 : Int) (a1 : Int) : Option Int :=
  (K.cmp_isNaN_uint32 a0).bind fun r1 => (K.cmp_isNaN_uint32 a1).bind fun r2 => bif r1 then (bif r2 then (some 0) else (some (-1))) else (bif r2 then (some 1) else (bif decide (a0 < a1) then (some (-1)) else (bif decide (a0 > a1) then (some 1) else (some 0))))
theorem k_cmp_Compare_uint32 (a0 : Int) (a1 : Int) : Ref (K.cmp_Compare_uint32 a0 a1) (M.cmp_Compare_uint32 a0 a1) := by
  unfold K.cmp_Compare_uint32 M.cmp_Compare_uint32
  repeat' (first | with_reducible exact ref_some | with_reducible exact ref_none | with_reducible exact k_cmp_isNaN_uint32 .. | with_reducible refine ref_bind ?_ (fun _ => ?_) | with_reducible refine ref_gd ?_ | with_reducible refine ref_gc ?_ | with_reducible refine ref_cond ?_ ?_ | with_reducible refine ref_elim (fun _ => ?_) (fun _ => ?_) | with_reducible refine ref_loop (fun _ => ?_))
noncomputable def K.cmp_Or_int_l1 (a0 : List Int) (p1 : Int) : Option (Int ⊕ (Unit ⊕ Int)) :=
  bif decide (p1 < (a0.length : Int)) then (gd [decide (0 ≤ p1), decide (p1 < (a0.length : Int))] (bif (a0.getD p1.toNat default) != 0 then (some (.inr (.inr (a0.getD p1.toNat default)))) else (some (.inl (wr .i64 (p1 + 1)))))) else (some (.inr (.inl ())))
theorem k_cmp_Or_int_l1 (a0 : List Int) (p1 : Int) : Ref (K.cmp_Or_int_l1 a0 p1) (M.cmp_Or_int_l1 a0 p1) := by
  unfold K.cmp_Or_int_l1 M.cmp_Or_int_l1
  repeat' (first | with_reducible exact ref_some | with_reducible exact ref_none | with_reducible refine ref_bind ?_ (fun _ => ?_) | with_reducible refine ref_gd ?_ | with_reducible refine ref_gc ?_ | with_reducible refine ref_cond ?_ ?_ | with_reducible refine ref_elim (fun _ => ?_) (fun _ => ?_) | with_reducible refine ref_loop (fun _ => ?_))
noncomputable def K.cmp_Or_int (a0 : List Int) : Option Int :=
  (loopN 1000 (K.cmp_Or_int_l1 a0) 0).bind fun y3 => Sum.elim (fun _ => some 0) (fun y5 => some y5) y3
theorem k_cmp_Or_int (a0 : List Int) : Ref (K.cmp_Or_int a0) (M.cmp_Or_int a0) := by
  unfold K.cmp_Or_int M.cmp_Or_int
  repeat' (first | with_reducible exact ref_some | with_reducible exact ref_none | with_reducible exact k_cmp_Or_int_l1 .. | with_reducible refine ref_bind ?_ (fun _ => ?_) | with_reducible refine ref_gd ?_ | with_reducible refine ref_gc ?_ | with_reducible refine ref_cond ?_ ?_ | with_reducible refine ref_elim (fun _ => ?_) (fun _ => ?_) | with_reducible refine ref_loop (fun _ => ?_))
noncomputable def K.spf_Hops_1 (a0 : THop) (a1 : THop) : Option Int :=
  (K.cmp_Compare_int a0.fIface a1.fIface).bind fun r1 => (K.cmp_Compare_uint32 a0.fAddr a1.fAddr).bind fun r2 => (K.cmp_Or_int ([r1, r2] : List Int)).bind fun r3 => some r3
theorem k_spf_Hops_1 (a0 : THop) (a1 : THop) : Ref (K.spf_Hops_1 a0 a1) (M.spf_Hops_1 a0 a1) := by
  unfold K.spf_Hops_1 M.spf_Hops_1
  repeat' (first | with_reducible exact ref_some | with_reducible exact ref_none | with_reducible exact k_cmp_Compare_int .. | with_reducible exact k_cmp_Compare_uint32 .. | with_reducible exact k_cmp_Or_int .. | with_reducible refine ref_bind ?_ (fun _ => ?_) | with_reducible refine ref_gd ?_ | with_reducible refine ref_gc ?_ | with_reducible refine ref_cond ?_ ?_ | with_reducible refine ref_elim (fun _ => ?_) (fun _ => ?_) | with_reducible refine ref_loop (fun _ => ?_))
noncomputable def K.slices_SortFunc_api_Hop_api_Hop__spf_Hops_1 (a0 : List THop) : Option (List THop) :=
  sortK K.spf_Hops_1 a0
theorem k_slices_SortFunc_api_Hop_api_Hop__spf_Hops_1 (a0 : List THop) : Ref (K.slices_SortFunc_api_Hop_api_Hop__spf_Hops_1 a0) (M.slices_SortFunc_api_Hop_api_Hop__spf_Hops_1 a0) := ref_sort k_spf_Hops_1 so_spf_Hops_1
noncomputable def K.slices_Compact_api_Hop_api_Hop_k1 (p3 : (List THop) × Int × Int) (p5 : Int × (List THop)) : Option (((List THop) × Int × Int) ⊕ (Int × (List THop))) :=
  some (.inl (p5.2, p5.1, wr .i64 (p3.2.2 + 1)))
theorem k_slices_Compact_api_Hop_api_Hop_k1 (p3 : (List THop) × Int × Int) (p5 : Int × (List THop)) : Ref (K.slices_Compact_api_Hop_api_Hop_k1 p3 p5) (M.slices_Compact_api_Hop_api_Hop_k1 p3 p5) := by
  unfold K.slices_Compact_api_Hop_api_Hop_k1 M.slices_Compact_api_Hop_api_Hop_k1
  repeat' (first | with_reducible exact ref_some | with_reducible exact ref_none | with_reducible refine ref_bind ?_ (fun _ => ?_) | with_reducible refine ref_gd ?_ | with_reducible refine ref_gc ?_ | with_reducible refine ref_cond ?_ ?_ | with_reducible refine ref_elim (fun _ => ?_) (fun _ => ?_) | with_reducible refine ref_loop (fun _ => ?_))
noncomputable def K.slices_Compact_api_Hop_api_Hop_l2 (a0 : List THop) (p1 : Int) (p3 : (List THop) × Int × Int) : Option (((List THop) × Int × Int) ⊕ (Int × (List THop))) :=
  bif decide (p3.2.2 < ((a0.length - p1.toNat : Nat) : Int)) then (gd [decide (0 ≤ p3.2.2), decide (p3.2.2 < ((a0.length - p1.toNat : Nat) : Int)), decide (0 ≤ (wr .i64 (p3.2.2 - 1))), decide ((wr .i64 (p3.2.2 - 1)) < ((a0.length - p1.toNat : Nat) : Int))] (bif !((((p3.1.getD ((0 + p1.toNat) + p3.2.2.toNat) default).fIface) == ((p3.1.getD ((0 + p1.toNat) + (wr .i64 (p3.2.2 - 1)).toNat) default).fIface)) && ((((p3.1.getD ((0 + p1.toNat) + p3.2.2.toNat) default).fAddr) == ((p3.1.getD ((0 + p1.toNat) + (wr .i64 (p3.2.2 - 1)).toNat) default).fAddr)) && true)) then (gd [decide (0 ≤ p3.2.2), decide (p3.2.2 < ((a0.length - p1.toNat : Nat) : Int)), decide (0 ≤ p3.2.1), decide (p3.2.1 < (p3.1.length : Int))] (K.slices_Compact_api_Hop_api_Hop_k1 p3 (wr .i64 (p3.2.1 + 1), p3.1.set (0 + p3.2.1.toNat) (p3.1.getD ((0 + p1.toNat) + p3.2.2.toNat) default)))) else (K.slices_Compact_api_Hop_api_Hop_k1 p3 (p3.2.1, p3.1)))) else (some (.inr (p3.2.1, p3.1)))
theorem k_slices_Compact_api_Hop_api_Hop_l2 (a0 : List THop) (p1 : Int) (p3 : (List THop) × Int × Int) : Ref (K.slices_Compact_api_Hop_api_Hop_l2 a0 p1 p3) (M.slices_Compact_api_Hop_api_Hop_l2 a0 p1 p3) := by
  unfold K.slices_Compact_api_Hop_api_Hop_l2 M.slices_Compact_api_Hop_api_Hop_l2
  repeat' (first | with_reducible exact ref_some | with_reducible exact ref_none | with_reducible exact k_slices_Compact_api_Hop_api_Hop_k1 .. | with_reducible refine ref_bind ?_ (fun _ => ?_) | with_reducible refine ref_gd ?_ | with_reducible refine ref_gc ?_ | with_reducible refine ref_cond ?_ ?_ | with_reducible refine ref_elim (fun _ => ?_) (fun _ => ?_) | with_reducible refine ref_loop (fun _ => ?_))
noncomputable def K.slices_Compact_api_Hop_api_Hop_l1 (a0 : List THop) (p1 : Int) : Option (Int ⊕ (Unit ⊕ ((List THop) × Nat))) :=
  bif decide (p1 < (a0.length : Int)) then (gd [decide (0 ≤ p1), decide (p1 < (a0.length : Int)), decide (0 ≤ (wr .i64 (p1 - 1))), decide ((wr .i64 (p1 - 1)) < (a0.length : Int))] (bif ((((a0.getD (0 + p1.toNat) default).fIface) == ((a0.getD (0 + (wr .i64 (p1 - 1)).toNat) default).fIface)) && ((((a0.getD (0 + p1.toNat) default).fAddr) == ((a0.getD (0 + (wr .i64 (p1 - 1)).toNat) default).fAddr)) && true)) then (gd [decide (0 ≤ p1), decide (p1 ≤ (a0.length : Int))] ((loopN 1000 (K.slices_Compact_api_Hop_api_Hop_l2 a0 p1) (a0, p1, 1)).bind fun y6 => gd [decide (0 ≤ y6.1), decide (y6.1 ≤ (y6.2.length : Int))] (gd [decide (0 ≤ y6.1), decide (y6.1 ≤ (((clrL y6.2 (0 + y6.1.toNat) (y6.2.length - y6.1.toNat) (⟨0, 0⟩ : THop)).length : Nat) : Int))] (gd [decide ((clrL y6.2 (0 + y6.1.toNat) (y6.2.length - y6.1.toNat) (⟨0, 0⟩ : THop)).length = a0.length)] (some (.inr (.inr (clrL y6.2 (0 + y6.1.toNat) (y6.2.length - y6.1.toNat) (⟨0, 0⟩ : THop), y6.1.toNat - 0)))))))) else (some (.inl (wr .i64 (p1 + 1)))))) else (some (.inr (.inl ())))
theorem k_slices_Compact_api_Hop_api_Hop_l1 (a0 : List THop) (p1 : Int) : Ref (K.slices_Compact_api_Hop_api_Hop_l1 a0 p1) (M.slices_Compact_api_Hop_api_Hop_l1 a0 p1) := by
  unfold K.slices_Compact_api_Hop_api_Hop_l1 M.slices_Compact_api_Hop_api_Hop_l1
  repeat' (first | with_reducible exact ref_some | with_reducible exact ref_none | with_reducible exact k_slices_Compact_api_Hop_api_Hop_l2 .. | with_reducible refine ref_bind ?_ (fun _ => ?_) | with_reducible refine ref_gd ?_ | with_reducible refine ref_gc ?_ | with_reducible refine ref_cond ?_ ?_ | with_reducible refine ref_elim (fun _ => ?_) (fun _ => ?_) | with_reducible refine ref_loop (fun _ => ?_))
noncomputable def K.slices_Compact_api_Hop_api_Hop (a0 : List THop) : Option ((List THop) × Nat) :=
  bif decide ((a0.length : Int) < 2) then (some (a0, a0.length)) else ((loopN 1000 (K.slices_Compact_api_Hop_api_Hop_l1 a0) 1).bind fun y7 => Sum.elim (fun _ => some (a0, a0.length)) (fun y9 => some y9) y7)
theorem k_slices_Compact_api_Hop_api_Hop (a0 : List THop) : Ref (K.slices_Compact_api_Hop_api_Hop a0) (M.slices_Compact_api_Hop_api_Hop a0) := by
  unfold K.slices_Compact_api_Hop_api_Hop M.slices_Compact_api_Hop_api_Hop
  repeat' (first | with_reducible exact ref_some | with_reducible exact ref_none | with_reducible exact k_slices_Compact_api_Hop_api_Hop_l1 .. | with_reducible refine ref_bind ?_ (fun _ => ?_) | with_reducible refine ref_gd ?_ | with_reducible refine ref_gc ?_ | with_reducible refine ref_cond ?_ ?_ | with_reducible refine ref_elim (fun _ => ?_) (fun _ => ?_) | with_reducible refine ref_loop (fun _ => ?_))
noncomputable def K.spf_Hops_k1 (p3 : (List (List THop)) × Int) (p5 : (List (List THop))) : Option (((List (List THop)) × Int) ⊕ (List (List THop))) :=
  some (.inl (p5, wr .i64 (p3.2 + 1)))
theorem k_spf_Hops_k1 (p3 : (List (List THop)) × Int) (p5 : (List (List THop))) : Ref (K.spf_Hops_k1 p3 p5) (M.spf_Hops_k1 p3 p5) := by
  unfold K.spf_Hops_k1 M.spf_Hops_k1
  repeat' (first | with_reducible exact ref_some | with_reducible exact ref_none | with_reducible refine ref_bind ?_ (fun _ => ?_) | with_reducible refine ref_gd ?_ | with_reducible refine ref_gc ?_ | with_reducible refine ref_cond ?_ ?_ | with_reducible refine ref_elim (fun _ => ?_) (fun _ => ?_) | with_reducible refine ref_loop (fun _ => ?_))
noncomputable def K.spf_Hops_k2 (p8 : (List (List THop)) × Int) (p10 : (List (List THop))) : Option (((List (List THop)) × Int) ⊕ (List (List THop))) :=
  some (.inl (p10, wr .i64 (p8.2 + 1)))
theorem k_spf_Hops_k2 (p8 : (List (List THop)) × Int) (p10 : (List (List THop))) : Ref (K.spf_Hops_k2 p8 p10) (M.spf_Hops_k2 p8 p10) := by
  unfold K.spf_Hops_k2 M.spf_Hops_k2
  repeat' (first | with_reducible exact ref_some | with_reducible exact ref_none | with_reducible refine ref_bind ?_ (fun _ => ?_) | with_reducible refine ref_gd ?_ | with_reducible refine ref_gc ?_ | with_reducible refine ref_cond ?_ ?_ | with_reducible refine ref_elim (fun _ => ?_) (fun _ => ?_) | with_reducible refine ref_loop (fun _ => ?_))
noncomputable def K.spf_Hops_l2 (a1 : List TEdge) (a2 : Int) (r2 : (List Int)) (p3 : (List (List THop)) × Int) (r7 : (List Int)) (p8 : (List (List THop)) × Int) : Option (((List (List THop)) × Int) ⊕ (List (List THop))) :=
  bif decide (p8.2 < (r7.length : Int)) then (gd [decide (0 ≤ p8.2), decide (p8.2 < (r7.length : Int))] (gd [guardB ((p8.2 != a2) && (decide ((r7.getD p8.2.toNat default) ≥ 0))) (decide (0 ≤ p8.2)), guardB ((p8.2 != a2) && (decide ((r7.getD p8.2.toNat default) ≥ 0))) (decide (p8.2 < (r2.length : Int)))] (bif ((p8.2 != a2) && (decide ((r7.getD p8.2.toNat default) ≥ 0))) && ((wr .i64 (((a1.getD p3.2.toNat default).fCost) + (r7.getD p8.2.toNat default))) == (r2.getD p8.2.toNat default)) then (gd [decide (0 ≤ p8.2), decide (p8.2 < (p8.1.length : Int)), decide (((p8.1.getD (0 + p8.2.toNat) default).length + 1) * 16 ≤ 140737488355328), decide (0 ≤ p8.2), decide (p8.2 < (p8.1.length : Int))] (K.spf_Hops_k2 p8 (p8.1.set (0 + p8.2.toNat) ((p8.1.getD (0 + p8.2.toNat) default) ++ [(a1.getD p3.2.toNat default).fHop])))) else (K.spf_Hops_k2 p8 p8.1)))) else (some (.inr p8.1))
theorem k_spf_Hops_l2 (a1 : List TEdge) (a2 : Int) (r2 : (List Int)) (p3 : (List (List THop)) × Int) (r7 : (List Int)) (p8 : (List (List THop)) × Int) : Ref (K.spf_Hops_l2 a1 a2 r2 p3 r7 p8) (M.spf_Hops_l2 a1 a2 r2 p3 r7 p8) := by
  unfold K.spf_Hops_l2 M.spf_Hops_l2
  repeat' (first | with_reducible exact ref_some | with_reducible exact ref_none | with_reducible exact k_spf_Hops_k2 .. | with_reducible refine ref_bind ?_ (fun _ => ?_) | with_reducible refine ref_gd ?_ | with_reducible refine ref_gc ?_ | with_reducible refine ref_cond ?_ ?_ | with_reducible refine ref_elim (fun _ => ?_) (fun _ => ?_) | with_reducible refine ref_loop (fun _ => ?_))
noncomputable def K.spf_Hops_l1 (a1 : List TEdge) (a2 : Int) (r1 : Int) (r2 : (List Int)) (p3 : (List (List THop)) × Int) : Option (((List (List THop)) × Int) ⊕ (List (List THop))) :=
  bif decide (p3.2 < (a1.length : Int)) then (gd [decide (0 ≤ p3.2), decide (p3.2 < (a1.length : Int))] ((K.spf_usable r1 (a1.getD p3.2.toNat default)).bind fun r6 => bif (!r6) || (((a1.getD p3.2.toNat default).fFrom) != a2) then (K.spf_Hops_k1 p3 p3.1) else ((K.spf_Distances r1 a1 ((a1.getD p3.2.toNat default).fTo)).bind fun r7 => (loopN 1000 (K.spf_Hops_l2 a1 a2 r2 p3 r7) (p3.1, 0)).bind fun y11 => K.spf_Hops_k1 p3 y11))) else (some (.inr p3.1))
theorem k_spf_Hops_l1 (a1 : List TEdge) (a2 : Int) (r1 : Int) (r2 : (List Int)) (p3 : (List (List THop)) × Int) : Ref (K.spf_Hops_l1 a1 a2 r1 r2 p3) (M.spf_Hops_l1 a1 a2 r1 r2 p3) := by
  unfold K.spf_Hops_l1 M.spf_Hops_l1
  repeat' (first | with_reducible exact ref_some | with_reducible exact ref_none | with_reducible exact k_spf_usable .. | with_reducible exact k_spf_Distances .. | with_reducible exact k_spf_Hops_k1 .. | with_reducible exact k_spf_Hops_l2 .. | with_reducible refine ref_bind ?_ (fun _ => ?_) | with_reducible refine ref_gd ?_ | with_reducible refine ref_gc ?_ | with_reducible refine ref_cond ?_ ?_ | with_reducible refine ref_elim (fun _ => ?_) (fun _ => ?_) | with_reducible refine ref_loop (fun _ => ?_))
noncomputable def K.spf_Hops_l3 (y12 : (List (List THop))) (p13 : (List (List THop)) × Int) : Option (((List (List THop)) × Int) ⊕ (List (List THop))) :=
  bif decide (p13.2 < (y12.length : Int)) then (gd [decide (0 ≤ p13.2), decide (p13.2 < (p13.1.length : Int))] ((K.slices_SortFunc_api_Hop_api_Hop__spf_Hops_1 (p13.1.getD (0 + p13.2.toNat) default)).bind fun r15 => gd [decide (r15.length = (p13.1.getD (0 + p13.2.toNat) default).length)] ((K.slices_Compact_api_Hop_api_Hop r15).bind fun r16 => gd [decide (r16.1.length = r15.length), decide (r16.2 ≤ r16.1.length)] (some (.inl (p13.1.set (0 + p13.2.toNat) (r16.1.take r16.2), wr .i64 (p13.2 + 1))))))) else (some (.inr p13.1))
theorem k_spf_Hops_l3 (y12 : (List (List THop))) (p13 : (List (List THop)) × Int) : Ref (K.spf_Hops_l3 y12 p13) (M.spf_Hops_l3 y12 p13) := by
  unfold K.spf_Hops_l3 M.spf_Hops_l3
  repeat' (first | with_reducible exact ref_some | with_reducible exact ref_none | with_reducible exact k_slices_SortFunc_api_Hop_api_Hop__spf_Hops_1 .. | with_reducible exact k_slices_Compact_api_Hop_api_Hop .. | with_reducible refine ref_bind ?_ (fun _ => ?_) | with_reducible refine ref_gd ?_ | with_reducible refine ref_gc ?_ | with_reducible refine ref_cond ?_ ?_ | with_reducible refine ref_elim (fun _ => ?_) (fun _ => ?_) | with_reducible refine ref_loop (fun _ => ?_))
noncomputable def K.spf_Hops (a0 : Int) (a1 : List TEdge) (a2 : Int) : Option (List (List THop)) :=
  (K.spf_nodes a0).bind fun r1 => gd [decide (0 ≤ r1), decide (r1 ≤ r1), decide (r1.toNat * 24 ≤ 140737488355328), decide (r1.toNat ≤ 140737488355328)] ((K.spf_Distances r1 a1 a2).bind fun r2 => (loopN 1000 (K.spf_Hops_l1 a1 a2 r1 r2) (List.replicate r1.toNat ([] : List THop), 0)).bind fun y12 => (loopN 1000 (K.spf_Hops_l3 y12) (y12, 0)).bind fun y17 => some y17)
theorem k_spf_Hops (a0 : Int) (a1 : List TEdge) (a2 : Int) : Ref (K.spf_Hops a0 a1 a2) (M.spf_Hops a0 a1 a2) := by
  unfold K.spf_Hops M.spf_Hops
  repeat' (first | with_reducible exact ref_some | with_reducible exact ref_none | with_reducible exact k_spf_nodes .. | with_reducible exact k_spf_Distances .. | with_reducible exact k_spf_Hops_l1 .. | with_reducible exact k_spf_Hops_l3 .. | with_reducible refine ref_bind ?_ (fun _ => ?_) | with_reducible refine ref_gd ?_ | with_reducible refine ref_gc ?_ | with_reducible refine ref_cond ?_ ?_ | with_reducible refine ref_elim (fun _ => ?_) (fun _ => ?_) | with_reducible refine ref_loop (fun _ => ?_))
noncomputable def K.keep_Ints_l1 (a0 : List Int) (a1 : List Int) (p1 : Int) : Option (Int ⊕ (Unit ⊕ Bool)) :=
  bif decide (p1 < (a0.length : Int)) then (gd [decide (0 ≤ p1), decide (p1 < (a0.length : Int)), decide (0 ≤ p1), decide (p1 < (a1.length : Int))] (bif (a0.getD p1.toNat default) != (a1.getD p1.toNat default) then (some (.inr (.inr false))) else (some (.inl (wr .i64 (p1 + 1)))))) else (some (.inr (.inl ())))
theorem k_keep_Ints_l1 (a0 : List Int) (a1 : List Int) (p1 : Int) : Ref (K.keep_Ints_l1 a0 a1 p1) (M.keep_Ints_l1 a0 a1 p1) := by
  unfold K.keep_Ints_l1 M.keep_Ints_l1
  repeat' (first | with_reducible exact ref_some | with_reducible exact ref_none | with_reducible refine ref_bind ?_ (fun _ => ?_) | with_reducible refine ref_gd ?_ | with_reducible refine ref_gc ?_ | with_reducible refine ref_cond ?_ ?_ | with_reducible refine ref_elim (fun _ => ?_) (fun _ => ?_) | with_reducible refine ref_loop (fun _ => ?_))
noncomputable def K.keep_Ints (a0 : List Int) (a1 : List Int) : Option Bool :=
  bif (a0.length : Int) != (a1.length : Int) then (some false) else ((loopN 1000 (K.keep_Ints_l1 a0 a1) 0).bind fun y3 => Sum.elim (fun _ => some true) (fun y5 => some y5) y3)
theorem k_keep_Ints (a0 : List Int) (a1 : List Int) : Ref (K.keep_Ints a0 a1) (M.keep_Ints a0 a1) := by
  unfold K.keep_Ints M.keep_Ints
  repeat' (first | with_reducible exact ref_some | with_reducible exact ref_none | with_reducible exact k_keep_Ints_l1 .. | with_reducible refine ref_bind ?_ (fun _ => ?_) | with_reducible refine ref_gd ?_ | with_reducible refine ref_gc ?_ | with_reducible refine ref_cond ?_ ?_ | with_reducible refine ref_elim (fun _ => ?_) (fun _ => ?_) | with_reducible refine ref_loop (fun _ => ?_))
noncomputable def K.law15_sane  : Option Bool :=
  (K.spf_Distances 4 ([(⟨0, 1, 1, (⟨0, 1⟩ : THop)⟩ : TEdge), (⟨1, 2, 1, (⟨0, 0⟩ : THop)⟩ : TEdge), (⟨0, 2, 2, (⟨0, 2⟩ : THop)⟩ : TEdge)] : List TEdge) 0).bind fun r1 => (K.spf_Hops 4 ([(⟨0, 1, 1, (⟨0, 1⟩ : THop)⟩ : TEdge), (⟨1, 2, 1, (⟨0, 0⟩ : THop)⟩ : TEdge), (⟨0, 2, 2, (⟨0, 2⟩ : THop)⟩ : TEdge)] : List TEdge) 0).bind fun r2 => (K.keep_Ints r1 ([0, 1, 2, (-1)] : List Int)).bind fun r3 => gd [guardB (r3 && ((r2.length : Int) == 4)) (decide (0 ≤ 2)), guardB (r3 && ((r2.length : Int) == 4)) (decide (2 < (r2.length : Int))), guardB ((r3 && ((r2.length : Int) == 4)) && (((r2.getD (2 : Int).toNat default).length : Int) == 2)) (decide (0 ≤ 0)), guardB ((r3 && ((r2.length : Int) == 4)) && (((r2.getD (2 : Int).toNat default).length : Int) == 2)) (decide (0 < (r2.length : Int)))] (some (((r3 && ((r2.length : Int) == 4)) && (((r2.getD (2 : Int).toNat default).length : Int) == 2)) && (((r2.getD (0 : Int).toNat default).length : Int) == 0)))
theorem k_law15_sane  : Ref (K.law15_sane) (M.law15_sane) := by
  unfold K.law15_sane M.law15_sane
  repeat' (first | with_reducible exact ref_some | with_reducible exact ref_none | with_reducible exact k_spf_Distances .. | with_reducible exact k_spf_Hops .. | with_reducible exact k_keep_Ints .. | with_reducible refine ref_bind ?_ (fun _ => ?_) | with_reducible refine ref_gd ?_ | with_reducible refine ref_gc ?_ | with_reducible refine ref_cond ?_ ?_ | with_reducible refine ref_elim (fun _ => ?_) (fun _ => ?_) | with_reducible refine ref_loop (fun _ => ?_))
theorem sane_some : M.law15_sane = some true := k_law15_sane _ (by kernel_rfl)
end Nv
