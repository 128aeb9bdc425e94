/- The fixed example: reckoned. -/
import Derived.Test.YtpggnodnpjejlaaDoorNvD1
import Derived.Test.YtpggnodnpjejlaaDoorNvLibB
import Derived.Test.YtpggnodnpjejlaaDoorNvI2
import Derived.KernelRfl
set_option maxRecDepth 100000
namespace Nv
open Go
noncomputable def K.cmp_isNaN_uint32 (a0 : Int) : Option Bool :=
  some (a0 != a0)
theorem k_cmp_isNaN_uint32 (a0 : Int) : Ref (K.cmp_isNaN_uint32 a0) (M.cmp_isNaN_uint32 a0) := by
  unfold K.cmp_isNaN_uint32 M.cmp_isNaN_uint32
  repeat' (first | with_reducible exact ref_some | with_reducible exact ref_none | with_reducible refine ref_bind ?_ (fun _ => ?_) | with_reducible refine ref_gd ?_ | with_reducible refine ref_gc ?_ | with_reducible refine ref_cond ?_ ?_ | with_reducible refine ref_elim (fun _ => ?_) (fun _ => ?_) | with_reducible refine ref_loop (fun _ => ?_))
noncomputable def K.cmp_Compare_uint32 (a0 : Int) (a1 : Int) : Option Int :=
  (K.cmp_isNaN_uint32 a0).bind fun r1 => (K.cmp_isNaN_uint32 a1).bind fun r2 => bif r1 then (bif r2 then (some 0) else (some (-1))) else (bif r2 then (some 1) else (bif decide (a0 < a1) then (some (-1)) else (bif decide (a0 > a1) then (some 1) else (some 0))))
theorem k_cmp_Compare_uint32 (a0 : Int) (a1 : Int) : Ref (K.cmp_Compare_uint32 a0 a1) (M.cmp_Compare_uint32 a0 a1) := by
  unfold K.cmp_Compare_uint32 M.cmp_Compare_uint32
  repeat' (first | with_reducible exact ref_some | with_reducible exact ref_none | with_reducible exact k_cmp_isNaN_uint32 .. | with_reducible refine ref_bind ?_ (fun _ => ?_) | with_reducible refine ref_gd ?_ | with_reducible refine ref_gc ?_ | with_reducible refine ref_cond ?_ ?_ | with_reducible refine ref_elim (fun _ => ?_) (fun _ => ?_) | with_reducible refine ref_loop (fun _ => ?_))
noncomputable def K.interval_Normalize_1 (a0 : TInterval) (a1 : TInterval) : Option Int :=
  (K.cmp_Compare_uint32 a0.fLo a1.fLo).bind fun r1 => some r1
theorem k_interval_Normalize_1 (a0 : TInterval) (a1 : TInterval) : Ref (K.interval_Normalize_1 a0 a1) (M.interval_Normalize_1 a0 a1) := by
  unfold K.interval_Normalize_1 M.interval_Normalize_1
  repeat' (first | with_reducible exact ref_some | with_reducible exact ref_none | with_reducible exact k_cmp_Compare_uint32 .. | with_reducible refine ref_bind ?_ (fun _ => ?_) | with_reducible refine ref_gd ?_ | with_reducible refine ref_gc ?_ | with_reducible refine ref_cond ?_ ?_ | with_reducible refine ref_elim (fun _ => ?_) (fun _ => ?_) | with_reducible refine ref_loop (fun _ => ?_))
noncomputable def K.slices_SortFunc_api_Interval_api_Interval__interval_Normalize_1 (a0 : List TInterval) : Option (List TInterval) :=
  sortK K.interval_Normalize_1 a0
theorem k_slices_SortFunc_api_Interval_api_Interval__interval_Normalize_1 (a0 : List TInterval) : Ref (K.slices_SortFunc_api_Interval_api_Interval__interval_Normalize_1 a0) (M.slices_SortFunc_api_Interval_api_Interval__interval_Normalize_1 a0) := ref_sort k_interval_Normalize_1 so_interval_Normalize_1
noncomputable def K.interval_Normalize_k1 (p1 : (List TInterval) × Int) (p3 : (List TInterval)) : Option (((List TInterval) × Int) ⊕ (List TInterval)) :=
  some (.inl (p3, wr .i64 (p1.2 + 1)))
theorem k_interval_Normalize_k1 (p1 : (List TInterval) × Int) (p3 : (List TInterval)) : Ref (K.interval_Normalize_k1 p1 p3) (M.interval_Normalize_k1 p1 p3) := by
  unfold K.interval_Normalize_k1 M.interval_Normalize_k1
  repeat' (first | with_reducible exact ref_some | with_reducible exact ref_none | with_reducible refine ref_bind ?_ (fun _ => ?_) | with_reducible refine ref_gd ?_ | with_reducible refine ref_gc ?_ | with_reducible refine ref_cond ?_ ?_ | with_reducible refine ref_elim (fun _ => ?_) (fun _ => ?_) | with_reducible refine ref_loop (fun _ => ?_))
noncomputable def K.interval_Normalize_l1 (a0 : List TInterval) (p1 : (List TInterval) × Int) : Option (((List TInterval) × Int) ⊕ (List TInterval)) :=
  bif decide (p1.2 < (a0.length : Int)) then (gd [decide (0 ≤ p1.2), decide (p1.2 < (a0.length : Int))] (bif decide (((a0.getD p1.2.toNat default).fLo) ≤ ((a0.getD p1.2.toNat default).fHi)) then (gd [decide ((p1.1.length + 1) * 8 ≤ 140737488355328)] (K.interval_Normalize_k1 p1 (p1.1 ++ [a0.getD p1.2.toNat default]))) else (K.interval_Normalize_k1 p1 p1.1))) else (some (.inr p1.1))
theorem k_interval_Normalize_l1 (a0 : List TInterval) (p1 : (List TInterval) × Int) : Ref (K.interval_Normalize_l1 a0 p1) (M.interval_Normalize_l1 a0 p1) := by
  unfold K.interval_Normalize_l1 M.interval_Normalize_l1
  repeat' (first | with_reducible exact ref_some | with_reducible exact ref_none | with_reducible exact k_interval_Normalize_k1 .. | with_reducible refine ref_bind ?_ (fun _ => ?_) | with_reducible refine ref_gd ?_ | with_reducible refine ref_gc ?_ | with_reducible refine ref_cond ?_ ?_ | with_reducible refine ref_elim (fun _ => ?_) (fun _ => ?_) | with_reducible refine ref_loop (fun _ => ?_))
noncomputable def K.interval_Normalize_k2 (p6 : (List TInterval) × Int) (p8 : (List TInterval)) : Option (((List TInterval) × Int) ⊕ (List TInterval)) :=
  some (.inl (p8, wr .i64 (p6.2 + 1)))
theorem k_interval_Normalize_k2 (p6 : (List TInterval) × Int) (p8 : (List TInterval)) : Ref (K.interval_Normalize_k2 p6 p8) (M.interval_Normalize_k2 p6 p8) := by
  unfold K.interval_Normalize_k2 M.interval_Normalize_k2
  repeat' (first | with_reducible exact ref_some | with_reducible exact ref_none | with_reducible refine ref_bind ?_ (fun _ => ?_) | with_reducible refine ref_gd ?_ | with_reducible refine ref_gc ?_ | with_reducible refine ref_cond ?_ ?_ | with_reducible refine ref_elim (fun _ => ?_) (fun _ => ?_) | with_reducible refine ref_loop (fun _ => ?_))
noncomputable def K.interval_Normalize_l2 (r5 : (List TInterval)) (p6 : (List TInterval) × Int) : Option (((List TInterval) × Int) ⊕ (List TInterval)) :=
  bif decide (p6.2 < (r5.length : Int)) then (gd [decide (0 ≤ p6.2), decide (p6.2 < (r5.length : Int))] (gd [guardB (decide ((wr .i64 ((p6.1.length : Int) - 1)) ≥ 0)) (decide (0 ≤ (wr .i64 ((p6.1.length : Int) - 1)))), guardB (decide ((wr .i64 ((p6.1.length : Int) - 1)) ≥ 0)) (decide ((wr .i64 ((p6.1.length : Int) - 1)) < (p6.1.length : Int)))] (bif (decide ((wr .i64 ((p6.1.length : Int) - 1)) ≥ 0)) && (decide ((wr .u64 ((r5.getD (0 + p6.2.toNat) default).fLo)) ≤ (wr .u64 ((wr .u64 ((p6.1.getD (0 + (wr .i64 ((p6.1.length : Int) - 1)).toNat) default).fHi)) + 1)))) then (gd [decide (0 ≤ (wr .i64 ((p6.1.length : Int) - 1))), decide ((wr .i64 ((p6.1.length : Int) - 1)) < (p6.1.length : Int)), decide (0 ≤ (wr .i64 ((p6.1.length : Int) - 1))), decide ((wr .i64 ((p6.1.length : Int) - 1)) < (p6.1.length : Int))] (K.interval_Normalize_k2 p6 (p6.1.set (0 + (wr .i64 ((p6.1.length : Int) - 1)).toNat) (⟨(p6.1.getD (0 + (wr .i64 ((p6.1.length : Int) - 1)).toNat) default).fLo, if ((r5.getD (0 + p6.2.toNat) default).fHi) > ((p6.1.getD (0 + (wr .i64 ((p6.1.length : Int) - 1)).toNat) default).fHi) then ((r5.getD (0 + p6.2.toNat) default).fHi) else ((p6.1.getD (0 + (wr .i64 ((p6.1.length : Int) - 1)).toNat) default).fHi)⟩ : TInterval)))) else (gd [decide ((p6.1.length + 1) * 8 ≤ 140737488355328)] (K.interval_Normalize_k2 p6 (p6.1 ++ [r5.getD (0 + p6.2.toNat) default])))))) else (some (.inr p6.1))
theorem k_interval_Normalize_l2 (r5 : (List TInterval)) (p6 : (List TInterval) × Int) : Ref (K.interval_Normalize_l2 r5 p6) (M.interval_Normalize_l2 r5 p6) := by
  unfold K.interval_Normalize_l2 M.interval_Normalize_l2
  repeat' (first | with_reducible exact ref_some | with_reducible exact ref_none | with_reducible exact k_interval_Normalize_k2 .. | with_reducible refine ref_bind ?_ (fun _ => ?_) | with_reducible refine ref_gd ?_ | with_reducible refine ref_gc ?_ | with_reducible refine ref_cond ?_ ?_ | with_reducible refine ref_elim (fun _ => ?_) (fun _ => ?_) | with_reducible refine ref_loop (fun _ => ?_))
noncomputable def K.interval_Normalize (a0 : List TInterval) : Option (List TInterval) :=
  gd [decide (0 ≤ 0), decide (0 ≤ (a0.length : Int)), decide ((a0.length : Int).toNat * 8 ≤ 140737488355328), decide ((a0.length : Int).toNat ≤ 140737488355328)] ((loopN 1000 (K.interval_Normalize_l1 a0) (List.replicate ((0 : Int).toNat) (⟨0, 0⟩ : TInterval), 0)).bind fun y4 => (K.slices_SortFunc_api_Interval_api_Interval__interval_Normalize_1 y4).bind fun r5 => gd [decide (r5.length = y4.length)] ((loopN 1000 (K.interval_Normalize_l2 r5) (([] : List TInterval), 0)).bind fun y9 => some y9))
theorem k_interval_Normalize (a0 : List TInterval) : Ref (K.interval_Normalize a0) (M.interval_Normalize a0) := by
  unfold K.interval_Normalize M.interval_Normalize
  repeat' (first | with_reducible exact ref_some | with_reducible exact ref_none | with_reducible exact k_slices_SortFunc_api_Interval_api_Interval__interval_Normalize_1 .. | with_reducible exact k_interval_Normalize_l1 .. | with_reducible exact k_interval_Normalize_l2 .. | with_reducible refine ref_bind ?_ (fun _ => ?_) | with_reducible refine ref_gd ?_ | with_reducible refine ref_gc ?_ | with_reducible refine ref_cond ?_ ?_ | with_reducible refine ref_elim (fun _ => ?_) (fun _ => ?_) | with_reducible refine ref_loop (fun _ => ?_))
noncomputable def K.math_bits_TrailingZeros64 (a0 : Int) : Option Int :=
  gd [decide (0 ≤ a0), decide (a0 < 18446744073709551616)] (some ((Lib.ctz 64 a0.toNat : Nat) : Int))
theorem k_math_bits_TrailingZeros64 (a0 : Int) : Ref (K.math_bits_TrailingZeros64 a0) (M.math_bits_TrailingZeros64 a0) := by
  unfold K.math_bits_TrailingZeros64 M.math_bits_TrailingZeros64
  repeat' (first | with_reducible exact ref_some | with_reducible exact ref_none | with_reducible refine ref_bind ?_ (fun _ => ?_) | with_reducible refine ref_gd ?_ | with_reducible refine ref_gc ?_ | with_reducible refine ref_cond ?_ ?_ | with_reducible refine ref_elim (fun _ => ?_) (fun _ => ?_) | with_reducible refine ref_loop (fun _ => ?_))
noncomputable def K.interval_Prefixes_l3 (r1 : (List TInterval)) (p2 : (List TPrefix) × Int) (p4 : (List TPrefix) × Int) (p7 : Int) : Option (Int ⊕ Int) :=
  gd [decide (0 ≤ p7)] (bif decide ((wr .u64 (p4.2 + (wr .u64 (1 * 2 ^ min p7.toNat 64)))) > (wr .u64 ((wr .u64 ((r1.getD p2.2.toNat default).fHi)) + 1))) then (some (.inl (wr .i64 (p7 - 1)))) else (some (.inr p7)))
theorem k_interval_Prefixes_l3 (r1 : (List TInterval)) (p2 : (List TPrefix) × Int) (p4 : (List TPrefix) × Int) (p7 : Int) : Ref (K.interval_Prefixes_l3 r1 p2 p4 p7) (M.interval_Prefixes_l3 r1 p2 p4 p7) := by
  unfold K.interval_Prefixes_l3 M.interval_Prefixes_l3
  repeat' (first | with_reducible exact ref_some | with_reducible exact ref_none | with_reducible refine ref_bind ?_ (fun _ => ?_) | with_reducible refine ref_gd ?_ | with_reducible refine ref_gc ?_ | with_reducible refine ref_cond ?_ ?_ | with_reducible refine ref_elim (fun _ => ?_) (fun _ => ?_) | with_reducible refine ref_loop (fun _ => ?_))
noncomputable def K.interval_Prefixes_k1 (r1 : (List TInterval)) (p2 : (List TPrefix) × Int) (p4 : (List TPrefix) × Int) (p6 : Int) : Option (((List TPrefix) × Int) ⊕ (List TPrefix)) :=
  (loopN 1000 (K.interval_Prefixes_l3 r1 p2 p4) p6).bind fun y9 => gd [decide ((p4.1.length + 1) * 16 ≤ 140737488355328)] (gd [decide (0 ≤ y9)] (some (.inl (p4.1 ++ [(⟨wr .u32 p4.2, wr .i64 (32 - y9)⟩ : TPrefix)], wr .u64 (p4.2 + (wr .u64 (1 * 2 ^ min y9.toNat 64)))))))
theorem k_interval_Prefixes_k1 (r1 : (List TInterval)) (p2 : (List TPrefix) × Int) (p4 : (List TPrefix) × Int) (p6 : Int) : Ref (K.interval_Prefixes_k1 r1 p2 p4 p6) (M.interval_Prefixes_k1 r1 p2 p4 p6) := by
  unfold K.interval_Prefixes_k1 M.interval_Prefixes_k1
  repeat' (first | with_reducible exact ref_some | with_reducible exact ref_none | with_reducible exact k_interval_Prefixes_l3 .. | with_reducible refine ref_bind ?_ (fun _ => ?_) | with_reducible refine ref_gd ?_ | with_reducible refine ref_gc ?_ | with_reducible refine ref_cond ?_ ?_ | with_reducible refine ref_elim (fun _ => ?_) (fun _ => ?_) | with_reducible refine ref_loop (fun _ => ?_))
noncomputable def K.interval_Prefixes_l2 (r1 : (List TInterval)) (p2 : (List TPrefix) × Int) (p4 : (List TPrefix) × Int) : Option (((List TPrefix) × Int) ⊕ (List TPrefix)) :=
  bif decide (p4.2 < (wr .u64 ((wr .u64 ((r1.getD p2.2.toNat default).fHi)) + 1))) then (bif decide (p4.2 > 0) then ((K.math_bits_TrailingZeros64 p4.2).bind fun r10 => K.interval_Prefixes_k1 r1 p2 p4 r10) else (K.interval_Prefixes_k1 r1 p2 p4 32)) else (some (.inr p4.1))
theorem k_interval_Prefixes_l2 (r1 : (List TInterval)) (p2 : (List TPrefix) × Int) (p4 : (List TPrefix) × Int) : Ref (K.interval_Prefixes_l2 r1 p2 p4) (M.interval_Prefixes_l2 r1 p2 p4) := by
  unfold K.interval_Prefixes_l2 M.interval_Prefixes_l2
  repeat' (first | with_reducible exact ref_some | with_reducible exact ref_none | with_reducible exact k_math_bits_TrailingZeros64 .. | with_reducible exact k_interval_Prefixes_k1 .. | with_reducible refine ref_bind ?_ (fun _ => ?_) | with_reducible refine ref_gd ?_ | with_reducible refine ref_gc ?_ | with_reducible refine ref_cond ?_ ?_ | with_reducible refine ref_elim (fun _ => ?_) (fun _ => ?_) | with_reducible refine ref_loop (fun _ => ?_))
noncomputable def K.interval_Prefixes_l1 (r1 : (List TInterval)) (p2 : (List TPrefix) × Int) : Option (((List TPrefix) × Int) ⊕ (List TPrefix)) :=
  bif decide (p2.2 < (r1.length : Int)) then (gd [decide (0 ≤ p2.2), decide (p2.2 < (r1.length : Int))] ((loopN 1000 (K.interval_Prefixes_l2 r1 p2) (p2.1, wr .u64 ((r1.getD p2.2.toNat default).fLo))).bind fun y11 => some (.inl (y11, wr .i64 (p2.2 + 1))))) else (some (.inr p2.1))
theorem k_interval_Prefixes_l1 (r1 : (List TInterval)) (p2 : (List TPrefix) × Int) : Ref (K.interval_Prefixes_l1 r1 p2) (M.interval_Prefixes_l1 r1 p2) := by
  unfold K.interval_Prefixes_l1 M.interval_Prefixes_l1
  repeat' (first | with_reducible exact ref_some | with_reducible exact ref_none | with_reducible exact k_interval_Prefixes_l2 .. | with_reducible refine ref_bind ?_ (fun _ => ?_) | with_reducible refine ref_gd ?_ | with_reducible refine ref_gc ?_ | with_reducible refine ref_cond ?_ ?_ | with_reducible refine ref_elim (fun _ => ?_) (fun _ => ?_) | with_reducible refine ref_loop (fun _ => ?_))
noncomputable def K.interval_Prefixes (a0 : List TInterval) : Option (List TPrefix) :=
  (K.interval_Normalize a0).bind fun r1 => (loopN 1000 (K.interval_Prefixes_l1 r1) (([] : List TPrefix), 0)).bind fun y12 => some y12
theorem k_interval_Prefixes (a0 : List TInterval) : Ref (K.interval_Prefixes a0) (M.interval_Prefixes a0) := by
  unfold K.interval_Prefixes M.interval_Prefixes
  repeat' (first | with_reducible exact ref_some | with_reducible exact ref_none | with_reducible exact k_interval_Normalize .. | with_reducible exact k_interval_Prefixes_l1 .. | with_reducible refine ref_bind ?_ (fun _ => ?_) | with_reducible refine ref_gd ?_ | with_reducible refine ref_gc ?_ | with_reducible refine ref_cond ?_ ?_ | with_reducible refine ref_elim (fun _ => ?_) (fun _ => ?_) | with_reducible refine ref_loop (fun _ => ?_))
noncomputable def K.interval_Has_1 (a0 : TInterval) (b0 : Int) : Option Bool :=
  some ((decide (a0.fLo ≤ b0)) && (decide (b0 ≤ a0.fHi)))
theorem k_interval_Has_1 (a0 : TInterval) (b0 : Int) : Ref (K.interval_Has_1 a0 b0) (M.interval_Has_1 a0 b0) := by
  unfold K.interval_Has_1 M.interval_Has_1
  repeat' (first | with_reducible exact ref_some | with_reducible exact ref_none | with_reducible refine ref_bind ?_ (fun _ => ?_) | with_reducible refine ref_gd ?_ | with_reducible refine ref_gc ?_ | with_reducible refine ref_cond ?_ ?_ | with_reducible refine ref_elim (fun _ => ?_) (fun _ => ?_) | with_reducible refine ref_loop (fun _ => ?_))
noncomputable def K.slices_IndexFunc_api_Interval_api_Interval__interval_Has_1_l1 (a0 : List TInterval) (a1c0 : Int) (p1 : Int) : Option (Int ⊕ (Unit ⊕ Int)) :=
  bif decide (p1 < (a0.length : Int)) then ((K.interval_Has_1 (a0.getD p1.toNat default) a1c0).bind fun r3 => gd [decide (0 ≤ p1), decide (p1 < (a0.length : Int))] (bif r3 then (some (.inr (.inr p1))) else (some (.inl (wr .i64 (p1 + 1)))))) else (some (.inr (.inl ())))
theorem k_slices_IndexFunc_api_Interval_api_Interval__interval_Has_1_l1 (a0 : List TInterval) (a1c0 : Int) (p1 : Int) : Ref (K.slices_IndexFunc_api_Interval_api_Interval__interval_Has_1_l1 a0 a1c0 p1) (M.slices_IndexFunc_api_Interval_api_Interval__interval_Has_1_l1 a0 a1c0 p1) := by
  unfold K.slices_IndexFunc_api_Interval_api_Interval__interval_Has_1_l1 M.slices_IndexFunc_api_Interval_api_Interval__interval_Has_1_l1
  repeat' (first | with_reducible exact ref_some | with_reducible exact ref_none | with_reducible exact k_interval_Has_1 .. | with_reducible refine ref_bind ?_ (fun _ => ?_) | with_reducible refine ref_gd ?_ | with_reducible refine ref_gc ?_ | with_reducible refine ref_cond ?_ ?_ | with_reducible refine ref_elim (fun _ => ?_) (fun _ => ?_) | with_reducible refine ref_loop (fun _ => ?_))
noncomputable def K.slices_IndexFunc_api_Interval_api_Interval__interval_Has_1 (a0 : List TInterval) (a1c0 : Int) : Option Int :=
  (loopN 1000 (K.slices_IndexFunc_api_Interval_api_Interval__interval_Has_1_l1 a0 a1c0) 0).bind fun y4 => Sum.elim (fun _ => some (-1)) (fun y6 => some y6) y4
theorem k_slices_IndexFunc_api_Interval_api_Interval__interval_Has_1 (a0 : List TInterval) (a1c0 : Int) : Ref (K.slices_IndexFunc_api_Interval_api_Interval__interval_Has_1 a0 a1c0) (M.slices_IndexFunc_api_Interval_api_Interval__interval_Has_1 a0 a1c0) := by
  unfold K.slices_IndexFunc_api_Interval_api_Interval__interval_Has_1 M.slices_IndexFunc_api_Interval_api_Interval__interval_Has_1
  repeat' (first | with_reducible exact ref_some | with_reducible exact ref_none | with_reducible exact k_slices_IndexFunc_api_Interval_api_Interval__interval_Has_1_l1 .. | with_reducible refine ref_bind ?_ (fun _ => ?_) | with_reducible refine ref_gd ?_ | with_reducible refine ref_gc ?_ | with_reducible refine ref_cond ?_ ?_ | with_reducible refine ref_elim (fun _ => ?_) (fun _ => ?_) | with_reducible refine ref_loop (fun _ => ?_))
noncomputable def K.slices_ContainsFunc_api_Interval_api_Interval__interval_Has_1 (a0 : List TInterval) (a1c0 : Int) : Option Bool :=
  (K.slices_IndexFunc_api_Interval_api_Interval__interval_Has_1 a0 a1c0).bind fun r1 => some (decide (r1 ≥ 0))
theorem k_slices_ContainsFunc_api_Interval_api_Interval__interval_Has_1 (a0 : List TInterval) (a1c0 : Int) : Ref (K.slices_ContainsFunc_api_Interval_api_Interval__interval_Has_1 a0 a1c0) (M.slices_ContainsFunc_api_Interval_api_Interval__interval_Has_1 a0 a1c0) := by
  unfold K.slices_ContainsFunc_api_Interval_api_Interval__interval_Has_1 M.slices_ContainsFunc_api_Interval_api_Interval__interval_Has_1
  repeat' (first | with_reducible exact ref_some | with_reducible exact ref_none | with_reducible exact k_slices_IndexFunc_api_Interval_api_Interval__interval_Has_1 .. | with_reducible refine ref_bind ?_ (fun _ => ?_) | with_reducible refine ref_gd ?_ | with_reducible refine ref_gc ?_ | with_reducible refine ref_cond ?_ ?_ | with_reducible refine ref_elim (fun _ => ?_) (fun _ => ?_) | with_reducible refine ref_loop (fun _ => ?_))
noncomputable def K.interval_Has (a0 : List TInterval) (a1 : Int) : Option Bool :=
  (K.slices_ContainsFunc_api_Interval_api_Interval__interval_Has_1 a0 a1).bind fun r1 => some r1
theorem k_interval_Has (a0 : List TInterval) (a1 : Int) : Ref (K.interval_Has a0 a1) (M.interval_Has a0 a1) := by
  unfold K.interval_Has M.interval_Has
  repeat' (first | with_reducible exact ref_some | with_reducible exact ref_none | with_reducible exact k_slices_ContainsFunc_api_Interval_api_Interval__interval_Has_1 .. | with_reducible refine ref_bind ?_ (fun _ => ?_) | with_reducible refine ref_gd ?_ | with_reducible refine ref_gc ?_ | with_reducible refine ref_cond ?_ ?_ | with_reducible refine ref_elim (fun _ => ?_) (fun _ => ?_) | with_reducible refine ref_loop (fun _ => ?_))
noncomputable def K.interval_Size_l1 (r1 : (List TInterval)) (p2 : Int × Int) : Option ((Int × Int) ⊕ Int) :=
  bif decide (p2.2 < (r1.length : Int)) then (gd [decide (0 ≤ p2.2), decide (p2.2 < (r1.length : Int))] (some (.inl (wr .u64 (p2.1 + (wr .u64 ((wr .u64 ((wr .u64 ((r1.getD p2.2.toNat default).fHi)) - (wr .u64 ((r1.getD p2.2.toNat default).fLo)))) + 1))), wr .i64 (p2.2 + 1))))) else (some (.inr p2.1))
theorem k_interval_Size_l1 (r1 : (List TInterval)) (p2 : Int × Int) : Ref (K.interval_Size_l1 r1 p2) (M.interval_Size_l1 r1 p2) := by
  unfold K.interval_Size_l1 M.interval_Size_l1
  repeat' (first | with_reducible exact ref_some | with_reducible exact ref_none | with_reducible refine ref_bind ?_ (fun _ => ?_) | with_reducible refine ref_gd ?_ | with_reducible refine ref_gc ?_ | with_reducible refine ref_cond ?_ ?_ | with_reducible refine ref_elim (fun _ => ?_) (fun _ => ?_) | with_reducible refine ref_loop (fun _ => ?_))
noncomputable def K.interval_Size (a0 : List TInterval) : Option Int :=
  (K.interval_Normalize a0).bind fun r1 => (loopN 1000 (K.interval_Size_l1 r1) (0, 0)).bind fun y4 => some y4
theorem k_interval_Size (a0 : List TInterval) : Ref (K.interval_Size a0) (M.interval_Size a0) := by
  unfold K.interval_Size M.interval_Size
  repeat' (first | with_reducible exact ref_some | with_reducible exact ref_none | with_reducible exact k_interval_Normalize .. | with_reducible exact k_interval_Size_l1 .. | with_reducible refine ref_bind ?_ (fun _ => ?_) | with_reducible refine ref_gd ?_ | with_reducible refine ref_gc ?_ | with_reducible refine ref_cond ?_ ?_ | with_reducible refine ref_elim (fun _ => ?_) (fun _ => ?_) | with_reducible refine ref_loop (fun _ => ?_))
noncomputable def K.law3_sane  : Option Bool :=
  (K.interval_Normalize ([(⟨5, 9⟩ : TInterval), (⟨1, 4⟩ : TInterval), (⟨20, 11⟩ : TInterval)] : List TInterval)).bind fun r1 => (gc (((r1.length : Int) == 1) && ((((r1.getD (0 : Int).toNat default).fLo) == 1) && ((((r1.getD (0 : Int).toNat default).fHi) == 9) && true))) (K.interval_Has r1 5)).bind fun r2 => (gc ((((r1.length : Int) == 1) && ((((r1.getD (0 : Int).toNat default).fLo) == 1) && ((((r1.getD (0 : Int).toNat default).fHi) == 9) && true))) && r2) (K.interval_Has r1 10)).bind fun r3 => (gc (((((r1.length : Int) == 1) && ((((r1.getD (0 : Int).toNat default).fLo) == 1) && ((((r1.getD (0 : Int).toNat default).fHi) == 9) && true))) && r2) && (!r3)) (K.interval_Size r1)).bind fun r4 => (gc ((((((r1.length : Int) == 1) && ((((r1.getD (0 : Int).toNat default).fLo) == 1) && ((((r1.getD (0 : Int).toNat default).fHi) == 9) && true))) && r2) && (!r3)) && (r4 == 9)) (K.interval_Prefixes r1)).bind fun r5 => gd [guardB ((r1.length : Int) == 1) (decide (0 ≤ 0)), guardB ((r1.length : Int) == 1) (decide (0 < (r1.length : Int)))] (some (((((((r1.length : Int) == 1) && ((((r1.getD (0 : Int).toNat default).fLo) == 1) && ((((r1.getD (0 : Int).toNat default).fHi) == 9) && true))) && r2) && (!r3)) && (r4 == 9)) && ((r5.length : Int) == 4)))
theorem k_law3_sane  : Ref (K.law3_sane) (M.law3_sane) := by
  unfold K.law3_sane M.law3_sane
  repeat' (first | with_reducible exact ref_some | with_reducible exact ref_none | with_reducible exact k_interval_Normalize .. | with_reducible exact k_interval_Prefixes .. | with_reducible exact k_interval_Has .. | with_reducible exact k_interval_Size .. | with_reducible refine ref_bind ?_ (fun _ => ?_) | with_reducible refine ref_gd ?_ | with_reducible refine ref_gc ?_ | with_reducible refine ref_cond ?_ ?_ | with_reducible refine ref_elim (fun _ => ?_) (fun _ => ?_) | with_reducible refine ref_loop (fun _ => ?_))
theorem sane_some : M.law3_sane = some true := k_law3_sane _ (by kernel_rfl)
end Nv
