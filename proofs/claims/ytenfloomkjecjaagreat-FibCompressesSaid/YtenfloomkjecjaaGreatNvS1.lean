/- The fixed example: reckoned. -/
import Derived.Test.YtenfloomkjecjaaGreatNvD1
import Derived.Test.YtenfloomkjecjaaGreatNvLibB
import Derived.Test.YtenfloomkjecjaaGreatNvFs
import Derived.KernelRfl
set_option maxRecDepth 100000
namespace Nv
open Go
noncomputable def K.addr_clamp (a0 : Int) : Option Int :=
  some (if (if 32 < a0 then 32 else a0) > 0 then (if 32 < a0 then 32 else a0) else 0)
theorem k_addr_clamp (a0 : Int) : Ref (K.addr_clamp a0) (M.addr_clamp a0) := by
  unfold K.addr_clamp M.addr_clamp
  repeat' (first | with_reducible exact ref_some | with_reducible exact ref_none | with_reducible refine ref_bind ?_ (fun _ => ?_) | with_reducible refine ref_gd ?_ | with_reducible refine ref_gc ?_ | with_reducible refine ref_cond ?_ ?_ | with_reducible refine ref_elim (fun _ => ?_) (fun _ => ?_) | with_reducible refine ref_loop (fun _ => ?_))
noncomputable def K.addr_Mask (a0 : Int) : Option Int :=
  (K.addr_clamp a0).bind fun r1 => gd [decide (0 ≤ (wr .i64 (32 - r1)))] (some (wr .u32 (4294967295 * 2 ^ min (wr .i64 (32 - r1)).toNat 32)))
theorem k_addr_Mask (a0 : Int) : Ref (K.addr_Mask a0) (M.addr_Mask a0) := by
  unfold K.addr_Mask M.addr_Mask
  repeat' (first | with_reducible exact ref_some | with_reducible exact ref_none | with_reducible exact k_addr_clamp .. | with_reducible refine ref_bind ?_ (fun _ => ?_) | with_reducible refine ref_gd ?_ | with_reducible refine ref_gc ?_ | with_reducible refine ref_cond ?_ ?_ | with_reducible refine ref_elim (fun _ => ?_) (fun _ => ?_) | with_reducible refine ref_loop (fun _ => ?_))
noncomputable def K.addr_Contains (a0 : TPrefix) (a1 : Int) : Option Bool :=
  (K.addr_Mask a0.fLen).bind fun r1 => some ((bitD .and .u32 a1 r1) == a0.fAddr)
theorem k_addr_Contains (a0 : TPrefix) (a1 : Int) : Ref (K.addr_Contains a0 a1) (M.addr_Contains a0 a1) := by
  unfold K.addr_Contains M.addr_Contains
  repeat' (first | with_reducible exact ref_some | with_reducible exact ref_none | with_reducible exact k_addr_Mask .. | with_reducible refine ref_bind ?_ (fun _ => ?_) | with_reducible refine ref_gd ?_ | with_reducible refine ref_gc ?_ | with_reducible refine ref_cond ?_ ?_ | with_reducible refine ref_elim (fun _ => ?_) (fun _ => ?_) | with_reducible refine ref_loop (fun _ => ?_))
noncomputable def K.slices_Clone_api_Hop_api_Hop (a0 : List THop) : Option (List THop) :=
  gd [decide (0 = 0) || decide (0 < a0.length), decide ((0 + a0.length) * 16 ≤ 140737488355328)] (some a0)
theorem k_slices_Clone_api_Hop_api_Hop (a0 : List THop) : Ref (K.slices_Clone_api_Hop_api_Hop a0) (M.slices_Clone_api_Hop_api_Hop a0) := by
  unfold K.slices_Clone_api_Hop_api_Hop M.slices_Clone_api_Hop_api_Hop
  repeat' (first | with_reducible exact ref_some | with_reducible exact ref_none | with_reducible refine ref_bind ?_ (fun _ => ?_) | with_reducible refine ref_gd ?_ | with_reducible refine ref_gc ?_ | with_reducible refine ref_cond ?_ ?_ | with_reducible refine ref_elim (fun _ => ?_) (fun _ => ?_) | with_reducible refine ref_loop (fun _ => ?_))
noncomputable def K.scan_letter (a0 : Int) : Option Bool :=
  some (((decide (65 ≤ a0)) && (decide (a0 ≤ 90))) || ((decide (97 ≤ a0)) && (decide (a0 ≤ 122))))
theorem k_scan_letter (a0 : Int) : Ref (K.scan_letter a0) (M.scan_letter a0) := by
  unfold K.scan_letter M.scan_letter
  repeat' (first | with_reducible exact ref_some | with_reducible exact ref_none | with_reducible refine ref_bind ?_ (fun _ => ?_) | with_reducible refine ref_gd ?_ | with_reducible refine ref_gc ?_ | with_reducible refine ref_cond ?_ ?_ | with_reducible refine ref_elim (fun _ => ?_) (fun _ => ?_) | with_reducible refine ref_loop (fun _ => ?_))
noncomputable def K.scan_digit (a0 : Int) : Option Bool :=
  some ((decide (48 ≤ a0)) && (decide (a0 ≤ 57)))
theorem k_scan_digit (a0 : Int) : Ref (K.scan_digit a0) (M.scan_digit a0) := by
  unfold K.scan_digit M.scan_digit
  repeat' (first | with_reducible exact ref_some | with_reducible exact ref_none | with_reducible refine ref_bind ?_ (fun _ => ?_) | with_reducible refine ref_gd ?_ | with_reducible refine ref_gc ?_ | with_reducible refine ref_cond ?_ ?_ | with_reducible refine ref_elim (fun _ => ?_) (fun _ => ?_) | with_reducible refine ref_loop (fun _ => ?_))
noncomputable def K.scan_Name_l1 (a0 : ByteArray) (p2 : Int) : Option (Int ⊕ Unit) :=
  bif decide (p2 < (a0.size : Int)) then (gd [decide (0 ≤ p2), decide (p2 < (a0.size : Int))] ((K.scan_letter (byteAt a0 p2)).bind fun r4 => (gc (!r4) (K.scan_digit (byteAt a0 p2))).bind fun r5 => bif (((((!r4) && (!r5)) && ((byteAt a0 p2) != 45)) && ((byteAt a0 p2) != 95)) && ((byteAt a0 p2) != 47)) && ((byteAt a0 p2) != 46) then none else (some (.inl (wr .i64 (p2 + 1)))))) else (some (.inr ()))
theorem k_scan_Name_l1 (a0 : ByteArray) (p2 : Int) : Ref (K.scan_Name_l1 a0 p2) (M.scan_Name_l1 a0 p2) := by
  unfold K.scan_Name_l1 M.scan_Name_l1
  repeat' (first | with_reducible exact ref_some | with_reducible exact ref_none | with_reducible exact k_scan_letter .. | with_reducible exact k_scan_digit .. | with_reducible refine ref_bind ?_ (fun _ => ?_) | with_reducible refine ref_gd ?_ | with_reducible refine ref_gc ?_ | with_reducible refine ref_cond ?_ ?_ | with_reducible refine ref_elim (fun _ => ?_) (fun _ => ?_) | with_reducible refine ref_loop (fun _ => ?_))
noncomputable def K.scan_Name (a0 : ByteArray) : Option Bool :=
  (gc (!((decide ((a0.size : Int) < 1)) || (decide ((a0.size : Int) > 15)))) (K.scan_letter (byteAt a0 0))).bind fun r1 => gd [guardB (!((decide ((a0.size : Int) < 1)) || (decide ((a0.size : Int) > 15)))) (decide (0 ≤ 0)), guardB (!((decide ((a0.size : Int) < 1)) || (decide ((a0.size : Int) > 15)))) (decide (0 < (a0.size : Int)))] (bif ((decide ((a0.size : Int) < 1)) || (decide ((a0.size : Int) > 15))) || (!r1) then none else ((loopN 1000 (K.scan_Name_l1 a0) 1).bind fun y6 => some true))
theorem k_scan_Name (a0 : ByteArray) : Ref (K.scan_Name a0) (M.scan_Name a0) := by
  unfold K.scan_Name M.scan_Name
  repeat' (first | with_reducible exact ref_some | with_reducible exact ref_none | with_reducible exact k_scan_letter .. | with_reducible exact k_scan_Name_l1 .. | with_reducible refine ref_bind ?_ (fun _ => ?_) | with_reducible refine ref_gd ?_ | with_reducible refine ref_gc ?_ | with_reducible refine ref_cond ?_ ?_ | with_reducible refine ref_elim (fun _ => ?_) (fun _ => ?_) | with_reducible refine ref_loop (fun _ => ?_))
noncomputable def K.model_within (a0 : Int) (a1 : Int) (a2 : Int) : Option Bool :=
  some ((decide (a1 ≤ a0)) && (decide (a0 ≤ a2)))
theorem k_model_within (a0 : Int) (a1 : Int) (a2 : Int) : Ref (K.model_within a0 a1 a2) (M.model_within a0 a1 a2) := by
  unfold K.model_within M.model_within
  repeat' (first | with_reducible exact ref_some | with_reducible exact ref_none | with_reducible refine ref_bind ?_ (fun _ => ?_) | with_reducible refine ref_gd ?_ | with_reducible refine ref_gc ?_ | with_reducible refine ref_cond ?_ ?_ | with_reducible refine ref_elim (fun _ => ?_) (fun _ => ?_) | with_reducible refine ref_loop (fun _ => ?_))
noncomputable def K.model_Interface_1 (a0 : TInterface) (b0 : ByteArray) : Option Bool :=
  some (strEq a0.fName b0)
theorem k_model_Interface_1 (a0 : TInterface) (b0 : ByteArray) : Ref (K.model_Interface_1 a0 b0) (M.model_Interface_1 a0 b0) := by
  unfold K.model_Interface_1 M.model_Interface_1
  repeat' (first | with_reducible exact ref_some | with_reducible exact ref_none | with_reducible refine ref_bind ?_ (fun _ => ?_) | with_reducible refine ref_gd ?_ | with_reducible refine ref_gc ?_ | with_reducible refine ref_cond ?_ ?_ | with_reducible refine ref_elim (fun _ => ?_) (fun _ => ?_) | with_reducible refine ref_loop (fun _ => ?_))
noncomputable def K.slices_IndexFunc_api_Interface_api_Interface__model_Interface_1_l1 (a0 : List TInterface) (a1c0 : ByteArray) (p1 : Int) : Option (Int ⊕ (Unit ⊕ Int)) :=
  bif decide (p1 < (a0.length : Int)) then ((K.model_Interface_1 (a0.getD p1.toNat default) a1c0).bind fun r3 => gd [decide (0 ≤ p1), decide (p1 < (a0.length : Int))] (bif r3 then (some (.inr (.inr p1))) else (some (.inl (wr .i64 (p1 + 1)))))) else (some (.inr (.inl ())))
theorem k_slices_IndexFunc_api_Interface_api_Interface__model_Interface_1_l1 (a0 : List TInterface) (a1c0 : ByteArray) (p1 : Int) : Ref (K.slices_IndexFunc_api_Interface_api_Interface__model_Interface_1_l1 a0 a1c0 p1) (M.slices_IndexFunc_api_Interface_api_Interface__model_Interface_1_l1 a0 a1c0 p1) := by
  unfold K.slices_IndexFunc_api_Interface_api_Interface__model_Interface_1_l1 M.slices_IndexFunc_api_Interface_api_Interface__model_Interface_1_l1
  repeat' (first | with_reducible exact ref_some | with_reducible exact ref_none | with_reducible exact k_model_Interface_1 .. | with_reducible refine ref_bind ?_ (fun _ => ?_) | with_reducible refine ref_gd ?_ | with_reducible refine ref_gc ?_ | with_reducible refine ref_cond ?_ ?_ | with_reducible refine ref_elim (fun _ => ?_) (fun _ => ?_) | with_reducible refine ref_loop (fun _ => ?_))
noncomputable def K.slices_IndexFunc_api_Interface_api_Interface__model_Interface_1 (a0 : List TInterface) (a1c0 : ByteArray) : Option Int :=
  (loopN 1000 (K.slices_IndexFunc_api_Interface_api_Interface__model_Interface_1_l1 a0 a1c0) 0).bind fun y4 => Sum.elim (fun _ => some (-1)) (fun y6 => some y6) y4
theorem k_slices_IndexFunc_api_Interface_api_Interface__model_Interface_1 (a0 : List TInterface) (a1c0 : ByteArray) : Ref (K.slices_IndexFunc_api_Interface_api_Interface__model_Interface_1 a0 a1c0) (M.slices_IndexFunc_api_Interface_api_Interface__model_Interface_1 a0 a1c0) := by
  unfold K.slices_IndexFunc_api_Interface_api_Interface__model_Interface_1 M.slices_IndexFunc_api_Interface_api_Interface__model_Interface_1
  repeat' (first | with_reducible exact ref_some | with_reducible exact ref_none | with_reducible exact k_slices_IndexFunc_api_Interface_api_Interface__model_Interface_1_l1 .. | with_reducible refine ref_bind ?_ (fun _ => ?_) | with_reducible refine ref_gd ?_ | with_reducible refine ref_gc ?_ | with_reducible refine ref_cond ?_ ?_ | with_reducible refine ref_elim (fun _ => ?_) (fun _ => ?_) | with_reducible refine ref_loop (fun _ => ?_))
noncomputable def K.model_Interface (a0 : TRouter) (a1 : ByteArray) : Option Int :=
  (K.slices_IndexFunc_api_Interface_api_Interface__model_Interface_1 a0.fInterfaces a1).bind fun r1 => some r1
theorem k_model_Interface (a0 : TRouter) (a1 : ByteArray) : Ref (K.model_Interface a0 a1) (M.model_Interface a0 a1) := by
  unfold K.model_Interface M.model_Interface
  repeat' (first | with_reducible exact ref_some | with_reducible exact ref_none | with_reducible exact k_slices_IndexFunc_api_Interface_api_Interface__model_Interface_1 .. | with_reducible refine ref_bind ?_ (fun _ => ?_) | with_reducible refine ref_gd ?_ | with_reducible refine ref_gc ?_ | with_reducible refine ref_cond ?_ ?_ | with_reducible refine ref_elim (fun _ => ?_) (fun _ => ?_) | with_reducible refine ref_loop (fun _ => ?_))
noncomputable def K.model_rightInterface (a0 : TInterface) : Option Bool :=
  (K.model_within a0.fLen 0 32).bind fun r1 => (gc (!(!r1)) (K.model_within a0.fVLAN 0 4094)).bind fun r2 => (gc (!((!r1) || (!r2))) (K.model_within a0.fSide 0 2)).bind fun r3 => bif ((!r1) || (!r2)) || (!r3) then none else (bif (a0.fLen == 0) && (((((((a0.fAddr != 0) || (a0.fVLAN != 0)) || (a0.fSide != 0)) || a0.fLS) || a0.fDV) || (!strEq a0.fIn (⟨#[]⟩ : ByteArray))) || (!strEq a0.fOut (⟨#[]⟩ : ByteArray))) then none else (bif (a0.fLen != 0) && (a0.fAddr == 0) then none else (bif a0.fLS then none else (some ((a0.fArea == 0) && (a0.fCost == 0))))))
theorem k_model_rightInterface (a0 : TInterface) : Ref (K.model_rightInterface a0) (M.model_rightInterface a0) := by
  unfold K.model_rightInterface M.model_rightInterface
  repeat' (first | with_reducible exact ref_some | with_reducible exact ref_none | with_reducible exact k_model_within .. | with_reducible refine ref_bind ?_ (fun _ => ?_) | with_reducible refine ref_gd ?_ | with_reducible refine ref_gc ?_ | with_reducible refine ref_cond ?_ ?_ | with_reducible refine ref_elim (fun _ => ?_) (fun _ => ?_) | with_reducible refine ref_loop (fun _ => ?_))
noncomputable def K.model_checkInterfaces_l2 (p1 : Int) (p6 : Int) : Option (Int ⊕ Unit) :=
  bif decide (p6 < ((p1.toNat - 0 : Nat) : Int)) then none else (some (.inr ()))
theorem k_model_checkInterfaces_l2 (p1 : Int) (p6 : Int) : Ref (K.model_checkInterfaces_l2 p1 p6) (M.model_checkInterfaces_l2 p1 p6) := by
  unfold K.model_checkInterfaces_l2 M.model_checkInterfaces_l2
  repeat' (first | with_reducible exact ref_some | with_reducible exact ref_none | with_reducible refine ref_bind ?_ (fun _ => ?_) | with_reducible refine ref_gd ?_ | with_reducible refine ref_gc ?_ | with_reducible refine ref_cond ?_ ?_ | with_reducible refine ref_elim (fun _ => ?_) (fun _ => ?_) | with_reducible refine ref_loop (fun _ => ?_))
noncomputable def K.model_checkInterfaces_l1 (a0 : TRouter) (p1 : Int) : Option (Int ⊕ Unit) :=
  bif decide (p1 < (a0.fInterfaces.length : Int)) then (gd [decide (0 ≤ p1), decide (p1 < (a0.fInterfaces.length : Int))] ((K.scan_Name ((a0.fInterfaces.getD p1.toNat default).fName)).bind fun r3 => bif !r3 then none else ((K.model_Interface a0 ((a0.fInterfaces.getD p1.toNat default).fName)).bind fun r4 => bif decide (r4 < p1) then none else ((K.model_rightInterface (a0.fInterfaces.getD p1.toNat default)).bind fun r5 => bif !r5 then none else (gd [decide (0 ≤ p1), decide (p1 ≤ (a0.fInterfaces.length : Int))] ((loopN 1000 (K.model_checkInterfaces_l2 p1) 0).bind fun y8 => some (.inl (wr .i64 (p1 + 1))))))))) else (some (.inr ()))
theorem k_model_checkInterfaces_l1 (a0 : TRouter) (p1 : Int) : Ref (K.model_checkInterfaces_l1 a0 p1) (M.model_checkInterfaces_l1 a0 p1) := by
  unfold K.model_checkInterfaces_l1 M.model_checkInterfaces_l1
  repeat' (first | with_reducible exact ref_some | with_reducible exact ref_none | with_reducible exact k_scan_Name .. | with_reducible exact k_model_Interface .. | with_reducible exact k_model_rightInterface .. | with_reducible exact k_model_checkInterfaces_l2 .. | with_reducible refine ref_bind ?_ (fun _ => ?_) | with_reducible refine ref_gd ?_ | with_reducible refine ref_gc ?_ | with_reducible refine ref_cond ?_ ?_ | with_reducible refine ref_elim (fun _ => ?_) (fun _ => ?_) | with_reducible refine ref_loop (fun _ => ?_))
noncomputable def K.model_checkInterfaces (a0 : TRouter) : Option Int :=
  bif decide ((a0.fInterfaces.length : Int) > 8) then none else ((loopN 1000 (K.model_checkInterfaces_l1 a0) 0).bind fun y9 => some 0)
theorem k_model_checkInterfaces (a0 : TRouter) : Ref (K.model_checkInterfaces a0) (M.model_checkInterfaces a0) := by
  unfold K.model_checkInterfaces M.model_checkInterfaces
  repeat' (first | with_reducible exact ref_some | with_reducible exact ref_none | with_reducible exact k_model_checkInterfaces_l1 .. | with_reducible refine ref_bind ?_ (fun _ => ?_) | with_reducible refine ref_gd ?_ | with_reducible refine ref_gc ?_ | with_reducible refine ref_cond ?_ ?_ | with_reducible refine ref_elim (fun _ => ?_) (fun _ => ?_) | with_reducible refine ref_loop (fun _ => ?_))
noncomputable def K.model_checkPrefixLists_l1 (a0 : TRouter) (p1 : Int) : Option (Int ⊕ Unit) :=
  bif decide (p1 < (a0.fLists.length : Int)) then none else (some (.inr ()))
theorem k_model_checkPrefixLists_l1 (a0 : TRouter) (p1 : Int) : Ref (K.model_checkPrefixLists_l1 a0 p1) (M.model_checkPrefixLists_l1 a0 p1) := by
  unfold K.model_checkPrefixLists_l1 M.model_checkPrefixLists_l1
  repeat' (first | with_reducible exact ref_some | with_reducible exact ref_none | with_reducible refine ref_bind ?_ (fun _ => ?_) | with_reducible refine ref_gd ?_ | with_reducible refine ref_gc ?_ | with_reducible refine ref_cond ?_ ?_ | with_reducible refine ref_elim (fun _ => ?_) (fun _ => ?_) | with_reducible refine ref_loop (fun _ => ?_))
noncomputable def K.model_checkPrefixLists (a0 : TRouter) : Option Int :=
  bif decide ((a0.fLists.length : Int) > 8) then none else ((loopN 1000 (K.model_checkPrefixLists_l1 a0) 0).bind fun y3 => some 0)
theorem k_model_checkPrefixLists (a0 : TRouter) : Ref (K.model_checkPrefixLists a0) (M.model_checkPrefixLists a0) := by
  unfold K.model_checkPrefixLists M.model_checkPrefixLists
  repeat' (first | with_reducible exact ref_some | with_reducible exact ref_none | with_reducible exact k_model_checkPrefixLists_l1 .. | with_reducible refine ref_bind ?_ (fun _ => ?_) | with_reducible refine ref_gd ?_ | with_reducible refine ref_gc ?_ | with_reducible refine ref_cond ?_ ?_ | with_reducible refine ref_elim (fun _ => ?_) (fun _ => ?_) | with_reducible refine ref_loop (fun _ => ?_))
noncomputable def K.model_checkRouteMaps_l1 (a0 : TRouter) (p1 : Int) : Option (Int ⊕ Unit) :=
  bif decide (p1 < (a0.fMaps.length : Int)) then none else (some (.inr ()))
theorem k_model_checkRouteMaps_l1 (a0 : TRouter) (p1 : Int) : Ref (K.model_checkRouteMaps_l1 a0 p1) (M.model_checkRouteMaps_l1 a0 p1) := by
  unfold K.model_checkRouteMaps_l1 M.model_checkRouteMaps_l1
  repeat' (first | with_reducible exact ref_some | with_reducible exact ref_none | with_reducible refine ref_bind ?_ (fun _ => ?_) | with_reducible refine ref_gd ?_ | with_reducible refine ref_gc ?_ | with_reducible refine ref_cond ?_ ?_ | with_reducible refine ref_elim (fun _ => ?_) (fun _ => ?_) | with_reducible refine ref_loop (fun _ => ?_))
noncomputable def K.model_checkRouteMaps (a0 : TRouter) : Option Int :=
  bif decide ((a0.fMaps.length : Int) > 8) then none else ((loopN 1000 (K.model_checkRouteMaps_l1 a0) 0).bind fun y3 => some 0)
theorem k_model_checkRouteMaps (a0 : TRouter) : Ref (K.model_checkRouteMaps a0) (M.model_checkRouteMaps a0) := by
  unfold K.model_checkRouteMaps M.model_checkRouteMaps
  repeat' (first | with_reducible exact ref_some | with_reducible exact ref_none | with_reducible exact k_model_checkRouteMaps_l1 .. | with_reducible refine ref_bind ?_ (fun _ => ?_) | with_reducible refine ref_gd ?_ | with_reducible refine ref_gc ?_ | with_reducible refine ref_cond ?_ ?_ | with_reducible refine ref_elim (fun _ => ?_) (fun _ => ?_) | with_reducible refine ref_loop (fun _ => ?_))
noncomputable def K.model_checkACLs_l1 (a0 : TRouter) (p1 : Int) : Option (Int ⊕ Unit) :=
  bif decide (p1 < (a0.fACLs.length : Int)) then none else (some (.inr ()))
theorem k_model_checkACLs_l1 (a0 : TRouter) (p1 : Int) : Ref (K.model_checkACLs_l1 a0 p1) (M.model_checkACLs_l1 a0 p1) := by
  unfold K.model_checkACLs_l1 M.model_checkACLs_l1
  repeat' (first | with_reducible exact ref_some | with_reducible exact ref_none | with_reducible refine ref_bind ?_ (fun _ => ?_) | with_reducible refine ref_gd ?_ | with_reducible refine ref_gc ?_ | with_reducible refine ref_cond ?_ ?_ | with_reducible refine ref_elim (fun _ => ?_) (fun _ => ?_) | with_reducible refine ref_loop (fun _ => ?_))
noncomputable def K.model_checkACLs (a0 : TRouter) : Option Int :=
  bif decide ((a0.fACLs.length : Int) > 8) then none else ((loopN 1000 (K.model_checkACLs_l1 a0) 0).bind fun y3 => some 0)
theorem k_model_checkACLs (a0 : TRouter) : Ref (K.model_checkACLs a0) (M.model_checkACLs a0) := by
  unfold K.model_checkACLs M.model_checkACLs
  repeat' (first | with_reducible exact ref_some | with_reducible exact ref_none | with_reducible exact k_model_checkACLs_l1 .. | with_reducible refine ref_bind ?_ (fun _ => ?_) | with_reducible refine ref_gd ?_ | with_reducible refine ref_gc ?_ | with_reducible refine ref_cond ?_ ?_ | with_reducible refine ref_elim (fun _ => ?_) (fun _ => ?_) | with_reducible refine ref_loop (fun _ => ?_))
noncomputable def K.model_checkNAT_l1 (a0 : TRouter) (p1 : Int) : Option (Int ⊕ Unit) :=
  bif decide (p1 < (a0.fNAT.length : Int)) then none else (some (.inr ()))
theorem k_model_checkNAT_l1 (a0 : TRouter) (p1 : Int) : Ref (K.model_checkNAT_l1 a0 p1) (M.model_checkNAT_l1 a0 p1) := by
  unfold K.model_checkNAT_l1 M.model_checkNAT_l1
  repeat' (first | with_reducible exact ref_some | with_reducible exact ref_none | with_reducible refine ref_bind ?_ (fun _ => ?_) | with_reducible refine ref_gd ?_ | with_reducible refine ref_gc ?_ | with_reducible refine ref_cond ?_ ?_ | with_reducible refine ref_elim (fun _ => ?_) (fun _ => ?_) | with_reducible refine ref_loop (fun _ => ?_))
noncomputable def K.model_checkNAT (a0 : TRouter) : Option Int :=
  bif decide ((a0.fNAT.length : Int) > 8) then none else ((loopN 1000 (K.model_checkNAT_l1 a0) 0).bind fun y3 => some 0)
theorem k_model_checkNAT (a0 : TRouter) : Ref (K.model_checkNAT a0) (M.model_checkNAT a0) := by
  unfold K.model_checkNAT M.model_checkNAT
  repeat' (first | with_reducible exact ref_some | with_reducible exact ref_none | with_reducible exact k_model_checkNAT_l1 .. | with_reducible refine ref_bind ?_ (fun _ => ?_) | with_reducible refine ref_gd ?_ | with_reducible refine ref_gc ?_ | with_reducible refine ref_cond ?_ ?_ | with_reducible refine ref_elim (fun _ => ?_) (fun _ => ?_) | with_reducible refine ref_loop (fun _ => ?_))
noncomputable def K.model_ACL (_a0 : TRouter) (_a1 : ByteArray) : Option Int :=
  none
theorem k_model_ACL (_a0 : TRouter) (_a1 : ByteArray) : Ref (K.model_ACL _a0 _a1) (M.model_ACL _a0 _a1) := by
  unfold K.model_ACL M.model_ACL
  repeat' (first | with_reducible exact ref_some | with_reducible exact ref_none | with_reducible refine ref_bind ?_ (fun _ => ?_) | with_reducible refine ref_gd ?_ | with_reducible refine ref_gc ?_ | with_reducible refine ref_cond ?_ ?_ | with_reducible refine ref_elim (fun _ => ?_) (fun _ => ?_) | with_reducible refine ref_loop (fun _ => ?_))
noncomputable def K.model_checkFilters_l1 (a0 : TRouter) (p1 : Int) : Option (Int ⊕ Unit) :=
  bif decide (p1 < (a0.fInterfaces.length : Int)) then (gd [decide (0 ≤ p1), decide (p1 < (a0.fInterfaces.length : Int))] ((gc (!strEq ((a0.fInterfaces.getD p1.toNat default).fIn) (⟨#[]⟩ : ByteArray)) (K.model_ACL a0 ((a0.fInterfaces.getD p1.toNat default).fIn))).bind fun r3 => (gc ((!((!strEq ((a0.fInterfaces.getD p1.toNat default).fIn) (⟨#[]⟩ : ByteArray)) && (decide (r3 < 0)))) && (!strEq ((a0.fInterfaces.getD p1.toNat default).fOut) (⟨#[]⟩ : ByteArray))) (K.model_ACL a0 ((a0.fInterfaces.getD p1.toNat default).fOut))).bind fun r4 => bif ((!strEq ((a0.fInterfaces.getD p1.toNat default).fIn) (⟨#[]⟩ : ByteArray)) && (decide (r3 < 0))) || ((!strEq ((a0.fInterfaces.getD p1.toNat default).fOut) (⟨#[]⟩ : ByteArray)) && (decide (r4 < 0))) then none else (some (.inl (wr .i64 (p1 + 1)))))) else (some (.inr ()))
theorem k_model_checkFilters_l1 (a0 : TRouter) (p1 : Int) : Ref (K.model_checkFilters_l1 a0 p1) (M.model_checkFilters_l1 a0 p1) := by
  unfold K.model_checkFilters_l1 M.model_checkFilters_l1
  repeat' (first | with_reducible exact ref_some | with_reducible exact ref_none | with_reducible exact k_model_ACL .. | with_reducible refine ref_bind ?_ (fun _ => ?_) | with_reducible refine ref_gd ?_ | with_reducible refine ref_gc ?_ | with_reducible refine ref_cond ?_ ?_ | with_reducible refine ref_elim (fun _ => ?_) (fun _ => ?_) | with_reducible refine ref_loop (fun _ => ?_))
noncomputable def K.model_checkFilters (a0 : TRouter) : Option Int :=
  (loopN 1000 (K.model_checkFilters_l1 a0) 0).bind fun y5 => some 0
theorem k_model_checkFilters (a0 : TRouter) : Ref (K.model_checkFilters a0) (M.model_checkFilters a0) := by
  unfold K.model_checkFilters M.model_checkFilters
  repeat' (first | with_reducible exact ref_some | with_reducible exact ref_none | with_reducible exact k_model_checkFilters_l1 .. | with_reducible refine ref_bind ?_ (fun _ => ?_) | with_reducible refine ref_gd ?_ | with_reducible refine ref_gc ?_ | with_reducible refine ref_cond ?_ ?_ | with_reducible refine ref_elim (fun _ => ?_) (fun _ => ?_) | with_reducible refine ref_loop (fun _ => ?_))
noncomputable def K.addr_Valid (a0 : TPrefix) : Option Bool :=
  (gc ((decide (a0.fLen ≥ 0)) && (decide (a0.fLen ≤ 32))) (K.addr_Mask a0.fLen)).bind fun r1 => some (((decide (a0.fLen ≥ 0)) && (decide (a0.fLen ≤ 32))) && ((bitD .andNot .u32 a0.fAddr r1) == 0))
theorem k_addr_Valid (a0 : TPrefix) : Ref (K.addr_Valid a0) (M.addr_Valid a0) := by
  unfold K.addr_Valid M.addr_Valid
  repeat' (first | with_reducible exact ref_some | with_reducible exact ref_none | with_reducible exact k_addr_Mask .. | with_reducible refine ref_bind ?_ (fun _ => ?_) | with_reducible refine ref_gd ?_ | with_reducible refine ref_gc ?_ | with_reducible refine ref_cond ?_ ?_ | with_reducible refine ref_elim (fun _ => ?_) (fun _ => ?_) | with_reducible refine ref_loop (fun _ => ?_))
noncomputable def K.model_Address_1 (a0 : TInterface) (b0 : Int) : Option Bool :=
  some ((a0.fLen != 0) && (a0.fAddr == b0))
theorem k_model_Address_1 (a0 : TInterface) (b0 : Int) : Ref (K.model_Address_1 a0 b0) (M.model_Address_1 a0 b0) := by
  unfold K.model_Address_1 M.model_Address_1
  repeat' (first | with_reducible exact ref_some | with_reducible exact ref_none | with_reducible refine ref_bind ?_ (fun _ => ?_) | with_reducible refine ref_gd ?_ | with_reducible refine ref_gc ?_ | with_reducible refine ref_cond ?_ ?_ | with_reducible refine ref_elim (fun _ => ?_) (fun _ => ?_) | with_reducible refine ref_loop (fun _ => ?_))
noncomputable def K.slices_IndexFunc_api_Interface_api_Interface__model_Address_1_l1 (a0 : List TInterface) (a1c0 : Int) (p1 : Int) : Option (Int ⊕ (Unit ⊕ Int)) :=
  bif decide (p1 < (a0.length : Int)) then ((K.model_Address_1 (a0.getD p1.toNat default) a1c0).bind fun r3 => gd [decide (0 ≤ p1), decide (p1 < (a0.length : Int))] (bif r3 then (some (.inr (.inr p1))) else (some (.inl (wr .i64 (p1 + 1)))))) else (some (.inr (.inl ())))
theorem k_slices_IndexFunc_api_Interface_api_Interface__model_Address_1_l1 (a0 : List TInterface) (a1c0 : Int) (p1 : Int) : Ref (K.slices_IndexFunc_api_Interface_api_Interface__model_Address_1_l1 a0 a1c0 p1) (M.slices_IndexFunc_api_Interface_api_Interface__model_Address_1_l1 a0 a1c0 p1) := by
  unfold K.slices_IndexFunc_api_Interface_api_Interface__model_Address_1_l1 M.slices_IndexFunc_api_Interface_api_Interface__model_Address_1_l1
  repeat' (first | with_reducible exact ref_some | with_reducible exact ref_none | with_reducible exact k_model_Address_1 .. | with_reducible refine ref_bind ?_ (fun _ => ?_) | with_reducible refine ref_gd ?_ | with_reducible refine ref_gc ?_ | with_reducible refine ref_cond ?_ ?_ | with_reducible refine ref_elim (fun _ => ?_) (fun _ => ?_) | with_reducible refine ref_loop (fun _ => ?_))
noncomputable def K.slices_IndexFunc_api_Interface_api_Interface__model_Address_1 (a0 : List TInterface) (a1c0 : Int) : Option Int :=
  (loopN 1000 (K.slices_IndexFunc_api_Interface_api_Interface__model_Address_1_l1 a0 a1c0) 0).bind fun y4 => Sum.elim (fun _ => some (-1)) (fun y6 => some y6) y4
theorem k_slices_IndexFunc_api_Interface_api_Interface__model_Address_1 (a0 : List TInterface) (a1c0 : Int) : Ref (K.slices_IndexFunc_api_Interface_api_Interface__model_Address_1 a0 a1c0) (M.slices_IndexFunc_api_Interface_api_Interface__model_Address_1 a0 a1c0) := by
  unfold K.slices_IndexFunc_api_Interface_api_Interface__model_Address_1 M.slices_IndexFunc_api_Interface_api_Interface__model_Address_1
  repeat' (first | with_reducible exact ref_some | with_reducible exact ref_none | with_reducible exact k_slices_IndexFunc_api_Interface_api_Interface__model_Address_1_l1 .. | with_reducible refine ref_bind ?_ (fun _ => ?_) | with_reducible refine ref_gd ?_ | with_reducible refine ref_gc ?_ | with_reducible refine ref_cond ?_ ?_ | with_reducible refine ref_elim (fun _ => ?_) (fun _ => ?_) | with_reducible refine ref_loop (fun _ => ?_))
noncomputable def K.model_Address (a0 : TRouter) (a1 : Int) : Option Int :=
  (K.slices_IndexFunc_api_Interface_api_Interface__model_Address_1 a0.fInterfaces a1).bind fun r1 => some r1
theorem k_model_Address (a0 : TRouter) (a1 : Int) : Ref (K.model_Address a0 a1) (M.model_Address a0 a1) := by
  unfold K.model_Address M.model_Address
  repeat' (first | with_reducible exact ref_some | with_reducible exact ref_none | with_reducible exact k_slices_IndexFunc_api_Interface_api_Interface__model_Address_1 .. | with_reducible refine ref_bind ?_ (fun _ => ?_) | with_reducible refine ref_gd ?_ | with_reducible refine ref_gc ?_ | with_reducible refine ref_cond ?_ ?_ | with_reducible refine ref_elim (fun _ => ?_) (fun _ => ?_) | with_reducible refine ref_loop (fun _ => ?_))
noncomputable def K.model_rightStatic_k1 (p1 : Int × Int) (p3 : Int) : Option ((Int × Int) ⊕ Int) :=
  some (.inl (p3, wr .i64 (p1.2 + 1)))
theorem k_model_rightStatic_k1 (p1 : Int × Int) (p3 : Int) : Ref (K.model_rightStatic_k1 p1 p3) (M.model_rightStatic_k1 p1 p3) := by
  unfold K.model_rightStatic_k1 M.model_rightStatic_k1
  repeat' (first | with_reducible exact ref_some | with_reducible exact ref_none | with_reducible refine ref_bind ?_ (fun _ => ?_) | with_reducible refine ref_gd ?_ | with_reducible refine ref_gc ?_ | with_reducible refine ref_cond ?_ ?_ | with_reducible refine ref_elim (fun _ => ?_) (fun _ => ?_) | with_reducible refine ref_loop (fun _ => ?_))
noncomputable def K.model_rightStatic_l1 (a1 : TStaticRoute) (p1 : Int × Int) : Option ((Int × Int) ⊕ Int) :=
  bif decide (p1.2 < 3) then (gd [decide (0 ≤ p1.2), decide (p1.2 < (([a1.fNext != 0, !strEq a1.fIface (⟨#[]⟩ : ByteArray), a1.fDiscard] : List Bool).length : Int))] (bif ([a1.fNext != 0, !strEq a1.fIface (⟨#[]⟩ : ByteArray), a1.fDiscard] : List Bool).getD p1.2.toNat default then (K.model_rightStatic_k1 p1 (wr .i64 (p1.1 + 1))) else (K.model_rightStatic_k1 p1 p1.1))) else (some (.inr p1.1))
theorem k_model_rightStatic_l1 (a1 : TStaticRoute) (p1 : Int × Int) : Ref (K.model_rightStatic_l1 a1 p1) (M.model_rightStatic_l1 a1 p1) := by
  unfold K.model_rightStatic_l1 M.model_rightStatic_l1
  repeat' (first | with_reducible exact ref_some | with_reducible exact ref_none | with_reducible exact k_model_rightStatic_k1 .. | with_reducible refine ref_bind ?_ (fun _ => ?_) | with_reducible refine ref_gd ?_ | with_reducible refine ref_gc ?_ | with_reducible refine ref_cond ?_ ?_ | with_reducible refine ref_elim (fun _ => ?_) (fun _ => ?_) | with_reducible refine ref_loop (fun _ => ?_))
noncomputable def K.model_rightStatic (a0 : TRouter) (a1 : TStaticRoute) : Option Bool :=
  (loopN 1000 (K.model_rightStatic_l1 a1) (0, 0)).bind fun y4 => (K.addr_Valid a1.fPrefix).bind fun r5 => (gc ((r5 && (y4 == 1)) && !(a1.fNext == 0)) (K.model_Address a0 a1.fNext)).bind fun r6 => (gc ((r5 && (y4 == 1)) && ((a1.fNext == 0) || (decide (r6 < 0)))) (K.model_within a1.fAdmin 1 255)).bind fun r7 => (gc (((r5 && (y4 == 1)) && ((a1.fNext == 0) || (decide (r6 < 0)))) && r7) (K.model_within a1.fTag 0 65535)).bind fun r8 => some ((((r5 && (y4 == 1)) && ((a1.fNext == 0) || (decide (r6 < 0)))) && r7) && r8)
theorem k_model_rightStatic (a0 : TRouter) (a1 : TStaticRoute) : Ref (K.model_rightStatic a0 a1) (M.model_rightStatic a0 a1) := by
  unfold K.model_rightStatic M.model_rightStatic
  repeat' (first | with_reducible exact ref_some | with_reducible exact ref_none | with_reducible exact k_model_within .. | with_reducible exact k_addr_Valid .. | with_reducible exact k_model_Address .. | with_reducible exact k_model_rightStatic_l1 .. | with_reducible refine ref_bind ?_ (fun _ => ?_) | with_reducible refine ref_gd ?_ | with_reducible refine ref_gc ?_ | with_reducible refine ref_cond ?_ ?_ | with_reducible refine ref_elim (fun _ => ?_) (fun _ => ?_) | with_reducible refine ref_loop (fun _ => ?_))
noncomputable def K.model_checkStatics_l2 (p1 : Int) (p5 : Int) : Option (Int ⊕ Unit) :=
  bif decide (p5 < ((p1.toNat - 0 : Nat) : Int)) then none else (some (.inr ()))
theorem k_model_checkStatics_l2 (p1 : Int) (p5 : Int) : Ref (K.model_checkStatics_l2 p1 p5) (M.model_checkStatics_l2 p1 p5) := by
  unfold K.model_checkStatics_l2 M.model_checkStatics_l2
  repeat' (first | with_reducible exact ref_some | with_reducible exact ref_none | with_reducible refine ref_bind ?_ (fun _ => ?_) | with_reducible refine ref_gd ?_ | with_reducible refine ref_gc ?_ | with_reducible refine ref_cond ?_ ?_ | with_reducible refine ref_elim (fun _ => ?_) (fun _ => ?_) | with_reducible refine ref_loop (fun _ => ?_))
noncomputable def K.model_checkStatics_k1 (a0 : TRouter) (p1 : Int) (_p4 : Unit) : Option (Int ⊕ Unit) :=
  gd [decide (0 ≤ p1), decide (p1 ≤ (a0.fStatics.length : Int))] ((loopN 1000 (K.model_checkStatics_l2 p1) 0).bind fun y7 => some (.inl (wr .i64 (p1 + 1))))
theorem k_model_checkStatics_k1 (a0 : TRouter) (p1 : Int) (_p4 : Unit) : Ref (K.model_checkStatics_k1 a0 p1 _p4) (M.model_checkStatics_k1 a0 p1 _p4) := by
  unfold K.model_checkStatics_k1 M.model_checkStatics_k1
  repeat' (first | with_reducible exact ref_some | with_reducible exact ref_none | with_reducible exact k_model_checkStatics_l2 .. | with_reducible refine ref_bind ?_ (fun _ => ?_) | with_reducible refine ref_gd ?_ | with_reducible refine ref_gc ?_ | with_reducible refine ref_cond ?_ ?_ | with_reducible refine ref_elim (fun _ => ?_) (fun _ => ?_) | with_reducible refine ref_loop (fun _ => ?_))
noncomputable def K.model_checkStatics_l1 (a0 : TRouter) (p1 : Int) : Option (Int ⊕ Unit) :=
  bif decide (p1 < (a0.fStatics.length : Int)) then (gd [decide (0 ≤ p1), decide (p1 < (a0.fStatics.length : Int))] ((K.model_rightStatic a0 (a0.fStatics.getD p1.toNat default)).bind fun r3 => bif !r3 then none else (bif !strEq ((a0.fStatics.getD p1.toNat default).fIface) (⟨#[]⟩ : ByteArray) then none else (K.model_checkStatics_k1 a0 p1 ())))) else (some (.inr ()))
theorem k_model_checkStatics_l1 (a0 : TRouter) (p1 : Int) : Ref (K.model_checkStatics_l1 a0 p1) (M.model_checkStatics_l1 a0 p1) := by
  unfold K.model_checkStatics_l1 M.model_checkStatics_l1
  repeat' (first | with_reducible exact ref_some | with_reducible exact ref_none | with_reducible exact k_model_rightStatic .. | with_reducible exact k_model_checkStatics_k1 .. | with_reducible refine ref_bind ?_ (fun _ => ?_) | with_reducible refine ref_gd ?_ | with_reducible refine ref_gc ?_ | with_reducible refine ref_cond ?_ ?_ | with_reducible refine ref_elim (fun _ => ?_) (fun _ => ?_) | with_reducible refine ref_loop (fun _ => ?_))
noncomputable def K.model_checkStatics (a0 : TRouter) : Option Int :=
  bif decide ((a0.fStatics.length : Int) > 16) then none else ((loopN 1000 (K.model_checkStatics_l1 a0) 0).bind fun y8 => some 0)
theorem k_model_checkStatics (a0 : TRouter) : Ref (K.model_checkStatics a0) (M.model_checkStatics a0) := by
  unfold K.model_checkStatics M.model_checkStatics
  repeat' (first | with_reducible exact ref_some | with_reducible exact ref_none | with_reducible exact k_model_checkStatics_l1 .. | with_reducible refine ref_bind ?_ (fun _ => ?_) | with_reducible refine ref_gd ?_ | with_reducible refine ref_gc ?_ | with_reducible refine ref_cond ?_ ?_ | with_reducible refine ref_elim (fun _ => ?_) (fun _ => ?_) | with_reducible refine ref_loop (fun _ => ?_))
noncomputable def K.model_checkLinkState (a0 : TRouter) : Option Int :=
  bif !a0.fLS.fOn then (bif ((a0.fLS.fAdmin != 0) || (decide ((a0.fLS.fRanges.length : Int) > 0))) || (decide ((a0.fLS.fRedist.length : Int) > 0)) then none else (some 0)) else none
theorem k_model_checkLinkState (a0 : TRouter) : Ref (K.model_checkLinkState a0) (M.model_checkLinkState a0) := by
  unfold K.model_checkLinkState M.model_checkLinkState
  repeat' (first | with_reducible exact ref_some | with_reducible exact ref_none | with_reducible refine ref_bind ?_ (fun _ => ?_) | with_reducible refine ref_gd ?_ | with_reducible refine ref_gc ?_ | with_reducible refine ref_cond ?_ ?_ | with_reducible refine ref_elim (fun _ => ?_) (fun _ => ?_) | with_reducible refine ref_loop (fun _ => ?_))
noncomputable def K.model_checkDistanceVector (a0 : TRouter) : Option Int :=
  bif !a0.fDV.fOn then (bif (((a0.fDV.fAdmin != 0) || (!strEq a0.fDV.fIn (⟨#[]⟩ : ByteArray))) || (!strEq a0.fDV.fOut (⟨#[]⟩ : ByteArray))) || (decide ((a0.fDV.fRedist.length : Int) > 0)) then none else (some 0)) else none
theorem k_model_checkDistanceVector (a0 : TRouter) : Ref (K.model_checkDistanceVector a0) (M.model_checkDistanceVector a0) := by
  unfold K.model_checkDistanceVector M.model_checkDistanceVector
  repeat' (first | with_reducible exact ref_some | with_reducible exact ref_none | with_reducible refine ref_bind ?_ (fun _ => ?_) | with_reducible refine ref_gd ?_ | with_reducible refine ref_gc ?_ | with_reducible refine ref_cond ?_ ?_ | with_reducible refine ref_elim (fun _ => ?_) (fun _ => ?_) | with_reducible refine ref_loop (fun _ => ?_))
noncomputable def K.model_checkPathVector (a0 : TRouter) : Option Int :=
  bif !a0.fPV.fOn then (bif ((((((a0.fPV.fExternal != 0) || (a0.fPV.fInternal != 0)) || (decide ((a0.fPV.fNeighbors.length : Int) > 0))) || (decide ((a0.fPV.fNetworks.length : Int) > 0))) || (decide ((a0.fPV.fAggregates.length : Int) > 0))) || (decide ((a0.fPV.fConditions.length : Int) > 0))) || (decide ((a0.fPV.fRedist.length : Int) > 0)) then none else (some 0)) else none
theorem k_model_checkPathVector (a0 : TRouter) : Ref (K.model_checkPathVector a0) (M.model_checkPathVector a0) := by
  unfold K.model_checkPathVector M.model_checkPathVector
  repeat' (first | with_reducible exact ref_some | with_reducible exact ref_none | with_reducible refine ref_bind ?_ (fun _ => ?_) | with_reducible refine ref_gd ?_ | with_reducible refine ref_gc ?_ | with_reducible refine ref_cond ?_ ?_ | with_reducible refine ref_elim (fun _ => ?_) (fun _ => ?_) | with_reducible refine ref_loop (fun _ => ?_))
noncomputable def K.model_CheckRouter (a0 : TRouter) : Option Int :=
  (K.scan_Name a0.fName).bind fun r1 => bif !r1 then none else ((K.model_within a0.fAS 0 65535).bind fun r2 => bif !r2 then none else (gd [decide (0 ≤ 0), decide (0 < (10 : Int))] ((K.model_checkInterfaces a0).bind fun r3 => bif r3 != 0 then none else (gd [decide (0 ≤ 1), decide (1 < (10 : Int))] ((K.model_checkPrefixLists a0).bind fun r4 => bif r4 != 0 then none else (gd [decide (0 ≤ 2), decide (2 < (10 : Int))] ((K.model_checkRouteMaps a0).bind fun r5 => bif r5 != 0 then none else (gd [decide (0 ≤ 3), decide (3 < (10 : Int))] ((K.model_checkACLs a0).bind fun r6 => bif r6 != 0 then none else (gd [decide (0 ≤ 4), decide (4 < (10 : Int))] ((K.model_checkNAT a0).bind fun r7 => bif r7 != 0 then none else (gd [decide (0 ≤ 5), decide (5 < (10 : Int))] ((K.model_checkFilters a0).bind fun r8 => bif r8 != 0 then none else (gd [decide (0 ≤ 6), decide (6 < (10 : Int))] ((K.model_checkStatics a0).bind fun r9 => bif r9 != 0 then none else (gd [decide (0 ≤ 7), decide (7 < (10 : Int))] ((K.model_checkLinkState a0).bind fun r10 => bif r10 != 0 then none else (gd [decide (0 ≤ 8), decide (8 < (10 : Int))] ((K.model_checkDistanceVector a0).bind fun r11 => bif r11 != 0 then none else (gd [decide (0 ≤ 9), decide (9 < (10 : Int))] ((K.model_checkPathVector a0).bind fun r12 => bif r12 != 0 then none else (some 0))))))))))))))))))))))
theorem k_model_CheckRouter (a0 : TRouter) : Ref (K.model_CheckRouter a0) (M.model_CheckRouter a0) := by
  unfold K.model_CheckRouter M.model_CheckRouter
  repeat' (first | with_reducible exact ref_some | with_reducible exact ref_none | with_reducible exact k_scan_Name .. | with_reducible exact k_model_within .. | with_reducible exact k_model_checkInterfaces .. | with_reducible exact k_model_checkPrefixLists .. | with_reducible exact k_model_checkRouteMaps .. | with_reducible exact k_model_checkACLs .. | with_reducible exact k_model_checkNAT .. | with_reducible exact k_model_checkFilters .. | with_reducible exact k_model_checkStatics .. | with_reducible exact k_model_checkLinkState .. | with_reducible exact k_model_checkDistanceVector .. | with_reducible exact k_model_checkPathVector .. | with_reducible refine ref_bind ?_ (fun _ => ?_) | with_reducible refine ref_gd ?_ | with_reducible refine ref_gc ?_ | with_reducible refine ref_cond ?_ ?_ | with_reducible refine ref_elim (fun _ => ?_) (fun _ => ?_) | with_reducible refine ref_loop (fun _ => ?_))
noncomputable def K.model_Check_l2 (p1 : Int) (p4 : Int) : Option (Int ⊕ Unit) :=
  bif decide (p4 < ((p1.toNat - 0 : Nat) : Int)) then none else (some (.inr ()))
theorem k_model_Check_l2 (p1 : Int) (p4 : Int) : Ref (K.model_Check_l2 p1 p4) (M.model_Check_l2 p1 p4) := by
  unfold K.model_Check_l2 M.model_Check_l2
  repeat' (first | with_reducible exact ref_some | with_reducible exact ref_none | with_reducible refine ref_bind ?_ (fun _ => ?_) | with_reducible refine ref_gd ?_ | with_reducible refine ref_gc ?_ | with_reducible refine ref_cond ?_ ?_ | with_reducible refine ref_elim (fun _ => ?_) (fun _ => ?_) | with_reducible refine ref_loop (fun _ => ?_))
noncomputable def K.model_Check_l1 (a0 : TNetwork) (p1 : Int) : Option (Int ⊕ Unit) :=
  bif decide (p1 < (a0.fRouters.length : Int)) then (gd [decide (0 ≤ p1), decide (p1 < (a0.fRouters.length : Int))] ((K.model_CheckRouter (a0.fRouters.getD p1.toNat default)).bind fun r3 => bif r3 != 0 then none else (gd [decide (0 ≤ p1), decide (p1 ≤ (a0.fRouters.length : Int))] ((loopN 1000 (K.model_Check_l2 p1) 0).bind fun y6 => some (.inl (wr .i64 (p1 + 1))))))) else (some (.inr ()))
theorem k_model_Check_l1 (a0 : TNetwork) (p1 : Int) : Ref (K.model_Check_l1 a0 p1) (M.model_Check_l1 a0 p1) := by
  unfold K.model_Check_l1 M.model_Check_l1
  repeat' (first | with_reducible exact ref_some | with_reducible exact ref_none | with_reducible exact k_model_CheckRouter .. | with_reducible exact k_model_Check_l2 .. | with_reducible refine ref_bind ?_ (fun _ => ?_) | with_reducible refine ref_gd ?_ | with_reducible refine ref_gc ?_ | with_reducible refine ref_cond ?_ ?_ | with_reducible refine ref_elim (fun _ => ?_) (fun _ => ?_) | with_reducible refine ref_loop (fun _ => ?_))
noncomputable def K.model_Check (a0 : TNetwork) : Option Int :=
  bif decide ((a0.fRouters.length : Int) > 8) then none else ((loopN 1000 (K.model_Check_l1 a0) 0).bind fun y7 => some 0)
theorem k_model_Check (a0 : TNetwork) : Ref (K.model_Check a0) (M.model_Check a0) := by
  unfold K.model_Check M.model_Check
  repeat' (first | with_reducible exact ref_some | with_reducible exact ref_none | with_reducible exact k_model_Check_l1 .. | with_reducible refine ref_bind ?_ (fun _ => ?_) | with_reducible refine ref_gd ?_ | with_reducible refine ref_gc ?_ | with_reducible refine ref_cond ?_ ?_ | with_reducible refine ref_elim (fun _ => ?_) (fun _ => ?_) | with_reducible refine ref_loop (fun _ => ?_))
noncomputable def K.addr_Network (a0 : Int) (a1 : Int) : Option TPrefix :=
  (K.addr_Mask a1).bind fun r1 => (K.addr_clamp a1).bind fun r2 => some (⟨bitD .and .u32 a0 r1, r2⟩ : TPrefix)
theorem k_addr_Network (a0 : Int) (a1 : Int) : Ref (K.addr_Network a0 a1) (M.addr_Network a0 a1) := by
  unfold K.addr_Network M.addr_Network
  repeat' (first | with_reducible exact ref_some | with_reducible exact ref_none | with_reducible exact k_addr_clamp .. | with_reducible exact k_addr_Mask .. | with_reducible refine ref_bind ?_ (fun _ => ?_) | with_reducible refine ref_gd ?_ | with_reducible refine ref_gc ?_ | with_reducible refine ref_cond ?_ ?_ | with_reducible refine ref_elim (fun _ => ?_) (fun _ => ?_) | with_reducible refine ref_loop (fun _ => ?_))
noncomputable def K.topo_collect_k (i : Int) (p : (List TDomain) × (List (TdomainKey × Int)) × Int) (q : (List TDomain) × (List (TdomainKey × Int)) × Int) : Option (((List TDomain) × (List (TdomainKey × Int)) × Int) ⊕ ((List TDomain) × (List (TdomainKey × Int)))) :=
  gd [decide (0 ≤ q.2.2), decide (q.2.2 < (q.1.length : Int)), decide (((q.1.getD (0 + q.2.2.toNat) default).fEnds.length + 1) * 16 ≤ 140737488355328)] (some (.inl (q.1.set (0 + q.2.2.toNat) ⟨(q.1.getD (0 + q.2.2.toNat) default).fPrefix, (q.1.getD (0 + q.2.2.toNat) default).fVLAN, (q.1.getD (0 + q.2.2.toNat) default).fEnds ++ [⟨i, p.2.2⟩]⟩, q.2.1, wr .i64 (p.2.2 + 1))))
theorem k_topo_collect_k (i : Int) (p : (List TDomain) × (List (TdomainKey × Int)) × Int) (q : (List TDomain) × (List (TdomainKey × Int)) × Int) : Ref (K.topo_collect_k i p q) (M.topo_collect_k i p q) := by
  unfold K.topo_collect_k M.topo_collect_k
  repeat' (first | with_reducible exact ref_some | with_reducible exact ref_none | with_reducible refine ref_bind ?_ (fun _ => ?_) | with_reducible refine ref_gd ?_ | with_reducible refine ref_gc ?_ | with_reducible refine ref_cond ?_ ?_ | with_reducible refine ref_elim (fun _ => ?_) (fun _ => ?_) | with_reducible refine ref_loop (fun _ => ?_))
noncomputable def K.topo_collect_l2 (a0 : TNetwork) (i : Int) (p : (List TDomain) × (List (TdomainKey × Int)) × Int) : Option (((List TDomain) × (List (TdomainKey × Int)) × Int) ⊕ ((List TDomain) × (List (TdomainKey × Int)))) :=
  bif decide (p.2.2 < (((a0.fRouters.getD i.toNat default).fInterfaces).length : Int)) then (gd [decide (0 ≤ p.2.2), decide (p.2.2 < (((a0.fRouters.getD i.toNat default).fInterfaces).length : Int))] (bif (((a0.fRouters.getD i.toNat default).fInterfaces.getD p.2.2.toNat default).fLen == 0) || ((a0.fRouters.getD i.toNat default).fInterfaces.getD p.2.2.toNat default).fDown then (some (.inl (p.1, p.2.1, wr .i64 (p.2.2 + 1)))) else ((K.addr_Network ((a0.fRouters.getD i.toNat default).fInterfaces.getD p.2.2.toNat default).fAddr ((a0.fRouters.getD i.toNat default).fInterfaces.getD p.2.2.toNat default).fLen).bind fun r => bif !(lkM (topoKeyEq ⟨r, ((a0.fRouters.getD i.toNat default).fInterfaces.getD p.2.2.toNat default).fVLAN⟩) p.2.1).2 then (gd [decide ((p.1.length + 1) * 48 ≤ 140737488355328)] (K.topo_collect_k i p (p.1 ++ [⟨r, ((a0.fRouters.getD i.toNat default).fInterfaces.getD p.2.2.toNat default).fVLAN, []⟩], p.2.1 ++ [(⟨r, ((a0.fRouters.getD i.toNat default).fInterfaces.getD p.2.2.toNat default).fVLAN⟩, (p.1.length : Int))], (p.1.length : Int)))) else (K.topo_collect_k i p (p.1, p.2.1, (lkM (topoKeyEq ⟨r, ((a0.fRouters.getD i.toNat default).fInterfaces.getD p.2.2.toNat default).fVLAN⟩) p.2.1).1))))) else (some (.inr (p.1, p.2.1)))
theorem k_topo_collect_l2 (a0 : TNetwork) (i : Int) (p : (List TDomain) × (List (TdomainKey × Int)) × Int) : Ref (K.topo_collect_l2 a0 i p) (M.topo_collect_l2 a0 i p) := by
  unfold K.topo_collect_l2 M.topo_collect_l2
  repeat' (first | with_reducible exact ref_some | with_reducible exact ref_none | with_reducible exact k_addr_Network .. | with_reducible exact k_topo_collect_k .. | with_reducible refine ref_bind ?_ (fun _ => ?_) | with_reducible refine ref_gd ?_ | with_reducible refine ref_gc ?_ | with_reducible refine ref_cond ?_ ?_ | with_reducible refine ref_elim (fun _ => ?_) (fun _ => ?_) | with_reducible refine ref_loop (fun _ => ?_))
noncomputable def K.topo_collect_l1 (a0 : TNetwork) (p : (List TDomain) × (List (TdomainKey × Int)) × Int) : Option (((List TDomain) × (List (TdomainKey × Int)) × Int) ⊕ (List TDomain)) :=
  bif decide (p.2.2 < (a0.fRouters.length : Int)) then (gd [decide (0 ≤ p.2.2), decide (p.2.2 < (a0.fRouters.length : Int))] ((loopN 1000 (K.topo_collect_l2 a0 p.2.2) (p.1, p.2.1, 0)).bind fun y => some (.inl (y.1, y.2, wr .i64 (p.2.2 + 1))))) else (some (.inr p.1))
theorem k_topo_collect_l1 (a0 : TNetwork) (p : (List TDomain) × (List (TdomainKey × Int)) × Int) : Ref (K.topo_collect_l1 a0 p) (M.topo_collect_l1 a0 p) := by
  unfold K.topo_collect_l1 M.topo_collect_l1
  repeat' (first | with_reducible exact ref_some | with_reducible exact ref_none | with_reducible exact k_topo_collect_l2 .. | with_reducible refine ref_bind ?_ (fun _ => ?_) | with_reducible refine ref_gd ?_ | with_reducible refine ref_gc ?_ | with_reducible refine ref_cond ?_ ?_ | with_reducible refine ref_elim (fun _ => ?_) (fun _ => ?_) | with_reducible refine ref_loop (fun _ => ?_))
noncomputable def K.topo_collect (a0 : TNetwork) : Option (List TDomain) :=
  (loopN 1000 (K.topo_collect_l1 a0) ([], [], 0)).bind fun y => some y
theorem k_topo_collect (a0 : TNetwork) : Ref (K.topo_collect a0) (M.topo_collect a0) := by
  unfold K.topo_collect M.topo_collect
  repeat' (first | with_reducible exact ref_some | with_reducible exact ref_none | with_reducible exact k_topo_collect_l1 .. | with_reducible refine ref_bind ?_ (fun _ => ?_) | with_reducible refine ref_gd ?_ | with_reducible refine ref_gc ?_ | with_reducible refine ref_cond ?_ ?_ | with_reducible refine ref_elim (fun _ => ?_) (fun _ => ?_) | with_reducible refine ref_loop (fun _ => ?_))
noncomputable def K.cmp_isNaN_uint32 (a0 : Int) : Option Bool :=
  some (a0 != a0)
theorem k_cmp_isNaN_uint32 (a0 : Int) : Ref (K.cmp_isNaN_uint32 a0) (M.cmp_isNaN_uint32 a0) := by
  unfold K.cmp_isNaN_uint32 M.cmp_isNaN_uint32
  repeat' (first | with_reducible exact ref_some | with_reducible exact ref_none | with_reducible refine ref_bind ?_ (fun _ => ?_) | with_reducible refine ref_gd ?_ | with_reducible refine ref_gc ?_ | with_reducible refine ref_cond ?_ ?_ | with_reducible refine ref_elim (fun _ => ?_) (fun _ => ?_) | with_reducible refine ref_loop (fun _ => ?_))
noncomputable def K.cmp_Compare_uint32 (a0 : Int) (a1 : Int) : Option Int :=
  (K.cmp_isNaN_uint32 a0).bind fun r1 => (K.cmp_isNaN_uint32 a1).bind fun r2 => bif r1 then (bif r2 then (some 0) else (some (-1))) else (bif r2 then (some 1) else (bif decide (a0 < a1) then (some (-1)) else (bif decide (a0 > a1) then (some 1) else (some 0))))
theorem k_cmp_Compare_uint32 (a0 : Int) (a1 : Int) : Ref (K.cmp_Compare_uint32 a0 a1) (M.cmp_Compare_uint32 a0 a1) := by
  unfold K.cmp_Compare_uint32 M.cmp_Compare_uint32
  repeat' (first | with_reducible exact ref_some | with_reducible exact ref_none | with_reducible exact k_cmp_isNaN_uint32 .. | with_reducible refine ref_bind ?_ (fun _ => ?_) | with_reducible refine ref_gd ?_ | with_reducible refine ref_gc ?_ | with_reducible refine ref_cond ?_ ?_ | with_reducible refine ref_elim (fun _ => ?_) (fun _ => ?_) | with_reducible refine ref_loop (fun _ => ?_))
noncomputable def K.cmp_isNaN_int (a0 : Int) : Option Bool :=
  some (a0 != a0)
theorem k_cmp_isNaN_int (a0 : Int) : Ref (K.cmp_isNaN_int a0) (M.cmp_isNaN_int a0) := by
  unfold K.cmp_isNaN_int M.cmp_isNaN_int
  repeat' (first | with_reducible exact ref_some | with_reducible exact ref_none | with_reducible refine ref_bind ?_ (fun _ => ?_) | with_reducible refine ref_gd ?_ | with_reducible refine ref_gc ?_ | with_reducible refine ref_cond ?_ ?_ | with_reducible refine ref_elim (fun _ => ?_) (fun _ => ?_) | with_reducible refine ref_loop (fun _ => ?_))
noncomputable def K.cmp_Compare_int (a0 : Int) (a1 : Int) : Option Int :=
  (K.cmp_isNaN_int a0).bind fun r1 => (K.cmp_isNaN_int a1).bind fun r2 => bif r1 then (bif r2 then (some 0) else (some (-1))) else (bif r2 then (some 1) else (bif decide (a0 < a1) then (some (-1)) else (bif decide (a0 > a1) then (some 1) else (some 0))))
theorem k_cmp_Compare_int (a0 : Int) (a1 : Int) : Ref (K.cmp_Compare_int a0 a1) (M.cmp_Compare_int a0 a1) := by
  unfold K.cmp_Compare_int M.cmp_Compare_int
  repeat' (first | with_reducible exact ref_some | with_reducible exact ref_none | with_reducible exact k_cmp_isNaN_int .. | with_reducible refine ref_bind ?_ (fun _ => ?_) | with_reducible refine ref_gd ?_ | with_reducible refine ref_gc ?_ | with_reducible refine ref_cond ?_ ?_ | with_reducible refine ref_elim (fun _ => ?_) (fun _ => ?_) | with_reducible refine ref_loop (fun _ => ?_))
noncomputable def K.addr_Compare (a0 : TPrefix) (a1 : TPrefix) : Option Int :=
  (K.cmp_Compare_uint32 a0.fAddr a1.fAddr).bind fun r1 => bif r1 != 0 then (some r1) else ((K.cmp_Compare_int a0.fLen a1.fLen).bind fun r2 => some r2)
theorem k_addr_Compare (a0 : TPrefix) (a1 : TPrefix) : Ref (K.addr_Compare a0 a1) (M.addr_Compare a0 a1) := by
  unfold K.addr_Compare M.addr_Compare
  repeat' (first | with_reducible exact ref_some | with_reducible exact ref_none | with_reducible exact k_cmp_Compare_uint32 .. | with_reducible exact k_cmp_Compare_int .. | with_reducible refine ref_bind ?_ (fun _ => ?_) | with_reducible refine ref_gd ?_ | with_reducible refine ref_gc ?_ | with_reducible refine ref_cond ?_ ?_ | with_reducible refine ref_elim (fun _ => ?_) (fun _ => ?_) | with_reducible refine ref_loop (fun _ => ?_))
noncomputable def K.cmp_Or_int_l1 (a0 : List Int) (p1 : Int) : Option (Int ⊕ (Unit ⊕ Int)) :=
  bif decide (p1 < (a0.length : Int)) then (gd [decide (0 ≤ p1), decide (p1 < (a0.length : Int))] (bif (a0.getD p1.toNat default) != 0 then (some (.inr (.inr (a0.getD p1.toNat default)))) else (some (.inl (wr .i64 (p1 + 1)))))) else (some (.inr (.inl ())))
theorem k_cmp_Or_int_l1 (a0 : List Int) (p1 : Int) : Ref (K.cmp_Or_int_l1 a0 p1) (M.cmp_Or_int_l1 a0 p1) := by
  unfold K.cmp_Or_int_l1 M.cmp_Or_int_l1
  repeat' (first | with_reducible exact ref_some | with_reducible exact ref_none | with_reducible refine ref_bind ?_ (fun _ => ?_) | with_reducible refine ref_gd ?_ | with_reducible refine ref_gc ?_ | with_reducible refine ref_cond ?_ ?_ | with_reducible refine ref_elim (fun _ => ?_) (fun _ => ?_) | with_reducible refine ref_loop (fun _ => ?_))
noncomputable def K.cmp_Or_int (a0 : List Int) : Option Int :=
  (loopN 1000 (K.cmp_Or_int_l1 a0) 0).bind fun y3 => Sum.elim (fun _ => some 0) (fun y5 => some y5) y3
theorem k_cmp_Or_int (a0 : List Int) : Ref (K.cmp_Or_int a0) (M.cmp_Or_int a0) := by
  unfold K.cmp_Or_int M.cmp_Or_int
  repeat' (first | with_reducible exact ref_some | with_reducible exact ref_none | with_reducible exact k_cmp_Or_int_l1 .. | with_reducible refine ref_bind ?_ (fun _ => ?_) | with_reducible refine ref_gd ?_ | with_reducible refine ref_gc ?_ | with_reducible refine ref_cond ?_ ?_ | with_reducible refine ref_elim (fun _ => ?_) (fun _ => ?_) | with_reducible refine ref_loop (fun _ => ?_))
noncomputable def K.topo_Build_1 (a0 : TDomain) (a1 : TDomain) : Option Int :=
  (K.addr_Compare a0.fPrefix a1.fPrefix).bind fun r1 => (K.cmp_Compare_int a0.fVLAN a1.fVLAN).bind fun r2 => (K.cmp_Or_int ([r1, r2] : List Int)).bind fun r3 => some r3
theorem k_topo_Build_1 (a0 : TDomain) (a1 : TDomain) : Ref (K.topo_Build_1 a0 a1) (M.topo_Build_1 a0 a1) := by
  unfold K.topo_Build_1 M.topo_Build_1
  repeat' (first | with_reducible exact ref_some | with_reducible exact ref_none | with_reducible exact k_cmp_Compare_int .. | with_reducible exact k_addr_Compare .. | with_reducible exact k_cmp_Or_int .. | with_reducible refine ref_bind ?_ (fun _ => ?_) | with_reducible refine ref_gd ?_ | with_reducible refine ref_gc ?_ | with_reducible refine ref_cond ?_ ?_ | with_reducible refine ref_elim (fun _ => ?_) (fun _ => ?_) | with_reducible refine ref_loop (fun _ => ?_))
noncomputable def K.slices_SortFunc_api_Domain_api_Domain__topo_Build_1 (a0 : List TDomain) : Option (List TDomain) :=
  sortK K.topo_Build_1 a0
theorem k_slices_SortFunc_api_Domain_api_Domain__topo_Build_1 (a0 : List TDomain) : Ref (K.slices_SortFunc_api_Domain_api_Domain__topo_Build_1 a0) (M.slices_SortFunc_api_Domain_api_Domain__topo_Build_1 a0) := ref_sortU k_topo_Build_1 so_topo_Build_1
noncomputable def K.topo_Build_k1 (p4 : Int) (_p6 : Unit) : Option (Int ⊕ Unit) :=
  some (.inl (wr .i64 (p4 + 1)))
theorem k_topo_Build_k1 (p4 : Int) (_p6 : Unit) : Ref (K.topo_Build_k1 p4 _p6) (M.topo_Build_k1 p4 _p6) := by
  unfold K.topo_Build_k1 M.topo_Build_k1
  repeat' (first | with_reducible exact ref_some | with_reducible exact ref_none | with_reducible refine ref_bind ?_ (fun _ => ?_) | with_reducible refine ref_gd ?_ | with_reducible refine ref_gc ?_ | with_reducible refine ref_cond ?_ ?_ | with_reducible refine ref_elim (fun _ => ?_) (fun _ => ?_) | with_reducible refine ref_loop (fun _ => ?_))
noncomputable def K.topo_Build_l1 (r3 : (List TDomain)) (p4 : Int) : Option (Int ⊕ Unit) :=
  bif decide (p4 < (r3.length : Int)) then (gd [decide (0 ≤ p4), decide (p4 < (r3.length : Int))] (bif decide ((((r3.getD p4.toNat default).fEnds).length : Int) ≥ 2) then none else (K.topo_Build_k1 p4 ()))) else (some (.inr ()))
theorem k_topo_Build_l1 (r3 : (List TDomain)) (p4 : Int) : Ref (K.topo_Build_l1 r3 p4) (M.topo_Build_l1 r3 p4) := by
  unfold K.topo_Build_l1 M.topo_Build_l1
  repeat' (first | with_reducible exact ref_some | with_reducible exact ref_none | with_reducible exact k_topo_Build_k1 .. | with_reducible refine ref_bind ?_ (fun _ => ?_) | with_reducible refine ref_gd ?_ | with_reducible refine ref_gc ?_ | with_reducible refine ref_cond ?_ ?_ | with_reducible refine ref_elim (fun _ => ?_) (fun _ => ?_) | with_reducible refine ref_loop (fun _ => ?_))
noncomputable def K.topo_Build (a0 : TNetwork) : Option (TTopology × Int) :=
  (K.model_Check a0).bind fun r1 => bif r1 != 0 then none else ((K.topo_collect a0).bind fun r2 => (K.slices_SortFunc_api_Domain_api_Domain__topo_Build_1 r2).bind fun r3 => gd [decide (r3.length = r2.length)] ((loopN 1000 (K.topo_Build_l1 r3) 0).bind fun y7 => some ((⟨r3, ([] : List Int)⟩ : TTopology), 0)))
theorem k_topo_Build (a0 : TNetwork) : Ref (K.topo_Build a0) (M.topo_Build a0) := by
  unfold K.topo_Build M.topo_Build
  repeat' (first | with_reducible exact ref_some | with_reducible exact ref_none | with_reducible exact k_model_Check .. | with_reducible exact k_topo_collect .. | with_reducible exact k_slices_SortFunc_api_Domain_api_Domain__topo_Build_1 .. | with_reducible exact k_topo_Build_l1 .. | with_reducible refine ref_bind ?_ (fun _ => ?_) | with_reducible refine ref_gd ?_ | with_reducible refine ref_gc ?_ | with_reducible refine ref_cond ?_ ?_ | with_reducible refine ref_elim (fun _ => ?_) (fun _ => ?_) | with_reducible refine ref_loop (fun _ => ?_))
noncomputable def K.slices_Clone_api_Router_api_Router (a0 : List TRouter) : Option (List TRouter) :=
  gd [decide (0 = 0) || decide (0 < a0.length), decide ((0 + a0.length) * 448 ≤ 140737488355328)] (some a0)
theorem k_slices_Clone_api_Router_api_Router (a0 : List TRouter) : Ref (K.slices_Clone_api_Router_api_Router a0) (M.slices_Clone_api_Router_api_Router a0) := by
  unfold K.slices_Clone_api_Router_api_Router M.slices_Clone_api_Router_api_Router
  repeat' (first | with_reducible exact ref_some | with_reducible exact ref_none | with_reducible refine ref_bind ?_ (fun _ => ?_) | with_reducible refine ref_gd ?_ | with_reducible refine ref_gc ?_ | with_reducible refine ref_cond ?_ ?_ | with_reducible refine ref_elim (fun _ => ?_) (fun _ => ?_) | with_reducible refine ref_loop (fun _ => ?_))
noncomputable def K.slices_Clone_api_Interface_api_Interface (a0 : List TInterface) : Option (List TInterface) :=
  gd [decide (0 = 0) || decide (0 < a0.length), decide ((0 + a0.length) * 112 ≤ 140737488355328)] (some a0)
theorem k_slices_Clone_api_Interface_api_Interface (a0 : List TInterface) : Ref (K.slices_Clone_api_Interface_api_Interface a0) (M.slices_Clone_api_Interface_api_Interface a0) := by
  unfold K.slices_Clone_api_Interface_api_Interface M.slices_Clone_api_Interface_api_Interface
  repeat' (first | with_reducible exact ref_some | with_reducible exact ref_none | with_reducible refine ref_bind ?_ (fun _ => ?_) | with_reducible refine ref_gd ?_ | with_reducible refine ref_gc ?_ | with_reducible refine ref_cond ?_ ?_ | with_reducible refine ref_elim (fun _ => ?_) (fun _ => ?_) | with_reducible refine ref_loop (fun _ => ?_))
noncomputable def K.slices_Clone_api_PrefixList_api_PrefixList (a0 : List TPrefixList) : Option (List TPrefixList) :=
  gd [decide (0 = 0) || decide (0 < a0.length), decide ((0 + a0.length) * 40 ≤ 140737488355328)] (some a0)
theorem k_slices_Clone_api_PrefixList_api_PrefixList (a0 : List TPrefixList) : Ref (K.slices_Clone_api_PrefixList_api_PrefixList a0) (M.slices_Clone_api_PrefixList_api_PrefixList a0) := by
  unfold K.slices_Clone_api_PrefixList_api_PrefixList M.slices_Clone_api_PrefixList_api_PrefixList
  repeat' (first | with_reducible exact ref_some | with_reducible exact ref_none | with_reducible refine ref_bind ?_ (fun _ => ?_) | with_reducible refine ref_gd ?_ | with_reducible refine ref_gc ?_ | with_reducible refine ref_cond ?_ ?_ | with_reducible refine ref_elim (fun _ => ?_) (fun _ => ?_) | with_reducible refine ref_loop (fun _ => ?_))
noncomputable def K.slices_Clone_api_RouteMap_api_RouteMap (a0 : List TRouteMap) : Option (List TRouteMap) :=
  gd [decide (0 = 0) || decide (0 < a0.length), decide ((0 + a0.length) * 40 ≤ 140737488355328)] (some a0)
theorem k_slices_Clone_api_RouteMap_api_RouteMap (a0 : List TRouteMap) : Ref (K.slices_Clone_api_RouteMap_api_RouteMap a0) (M.slices_Clone_api_RouteMap_api_RouteMap a0) := by
  unfold K.slices_Clone_api_RouteMap_api_RouteMap M.slices_Clone_api_RouteMap_api_RouteMap
  repeat' (first | with_reducible exact ref_some | with_reducible exact ref_none | with_reducible refine ref_bind ?_ (fun _ => ?_) | with_reducible refine ref_gd ?_ | with_reducible refine ref_gc ?_ | with_reducible refine ref_cond ?_ ?_ | with_reducible refine ref_elim (fun _ => ?_) (fun _ => ?_) | with_reducible refine ref_loop (fun _ => ?_))
noncomputable def K.slices_Clone_api_ACL_api_ACL (a0 : List TACL) : Option (List TACL) :=
  gd [decide (0 = 0) || decide (0 < a0.length), decide ((0 + a0.length) * 40 ≤ 140737488355328)] (some a0)
theorem k_slices_Clone_api_ACL_api_ACL (a0 : List TACL) : Ref (K.slices_Clone_api_ACL_api_ACL a0) (M.slices_Clone_api_ACL_api_ACL a0) := by
  unfold K.slices_Clone_api_ACL_api_ACL M.slices_Clone_api_ACL_api_ACL
  repeat' (first | with_reducible exact ref_some | with_reducible exact ref_none | with_reducible refine ref_bind ?_ (fun _ => ?_) | with_reducible refine ref_gd ?_ | with_reducible refine ref_gc ?_ | with_reducible refine ref_cond ?_ ?_ | with_reducible refine ref_elim (fun _ => ?_) (fun _ => ?_) | with_reducible refine ref_loop (fun _ => ?_))
noncomputable def K.slices_Clone_api_Translation_api_Translation (a0 : List TTranslation) : Option (List TTranslation) :=
  gd [decide (0 = 0) || decide (0 < a0.length), decide ((0 + a0.length) * 64 ≤ 140737488355328)] (some a0)
theorem k_slices_Clone_api_Translation_api_Translation (a0 : List TTranslation) : Ref (K.slices_Clone_api_Translation_api_Translation a0) (M.slices_Clone_api_Translation_api_Translation a0) := by
  unfold K.slices_Clone_api_Translation_api_Translation M.slices_Clone_api_Translation_api_Translation
  repeat' (first | with_reducible exact ref_some | with_reducible exact ref_none | with_reducible refine ref_bind ?_ (fun _ => ?_) | with_reducible refine ref_gd ?_ | with_reducible refine ref_gc ?_ | with_reducible refine ref_cond ?_ ?_ | with_reducible refine ref_elim (fun _ => ?_) (fun _ => ?_) | with_reducible refine ref_loop (fun _ => ?_))
noncomputable def K.slices_Clone_api_StaticRoute_api_StaticRoute (a0 : List TStaticRoute) : Option (List TStaticRoute) :=
  gd [decide (0 = 0) || decide (0 < a0.length), decide ((0 + a0.length) * 64 ≤ 140737488355328)] (some a0)
theorem k_slices_Clone_api_StaticRoute_api_StaticRoute (a0 : List TStaticRoute) : Ref (K.slices_Clone_api_StaticRoute_api_StaticRoute a0) (M.slices_Clone_api_StaticRoute_api_StaticRoute a0) := by
  unfold K.slices_Clone_api_StaticRoute_api_StaticRoute M.slices_Clone_api_StaticRoute_api_StaticRoute
  repeat' (first | with_reducible exact ref_some | with_reducible exact ref_none | with_reducible refine ref_bind ?_ (fun _ => ?_) | with_reducible refine ref_gd ?_ | with_reducible refine ref_gc ?_ | with_reducible refine ref_cond ?_ ?_ | with_reducible refine ref_elim (fun _ => ?_) (fun _ => ?_) | with_reducible refine ref_loop (fun _ => ?_))
noncomputable def K.slices_Clone_api_AreaRange_api_AreaRange (a0 : List TAreaRange) : Option (List TAreaRange) :=
  gd [decide (0 = 0) || decide (0 < a0.length), decide ((0 + a0.length) * 24 ≤ 140737488355328)] (some a0)
theorem k_slices_Clone_api_AreaRange_api_AreaRange (a0 : List TAreaRange) : Ref (K.slices_Clone_api_AreaRange_api_AreaRange a0) (M.slices_Clone_api_AreaRange_api_AreaRange a0) := by
  unfold K.slices_Clone_api_AreaRange_api_AreaRange M.slices_Clone_api_AreaRange_api_AreaRange
  repeat' (first | with_reducible exact ref_some | with_reducible exact ref_none | with_reducible refine ref_bind ?_ (fun _ => ?_) | with_reducible refine ref_gd ?_ | with_reducible refine ref_gc ?_ | with_reducible refine ref_cond ?_ ?_ | with_reducible refine ref_elim (fun _ => ?_) (fun _ => ?_) | with_reducible refine ref_loop (fun _ => ?_))
noncomputable def K.slices_Clone_api_Redist_api_Redist (a0 : List TRedist) : Option (List TRedist) :=
  gd [decide (0 = 0) || decide (0 < a0.length), decide ((0 + a0.length) * 48 ≤ 140737488355328)] (some a0)
theorem k_slices_Clone_api_Redist_api_Redist (a0 : List TRedist) : Ref (K.slices_Clone_api_Redist_api_Redist a0) (M.slices_Clone_api_Redist_api_Redist a0) := by
  unfold K.slices_Clone_api_Redist_api_Redist M.slices_Clone_api_Redist_api_Redist
  repeat' (first | with_reducible exact ref_some | with_reducible exact ref_none | with_reducible refine ref_bind ?_ (fun _ => ?_) | with_reducible refine ref_gd ?_ | with_reducible refine ref_gc ?_ | with_reducible refine ref_cond ?_ ?_ | with_reducible refine ref_elim (fun _ => ?_) (fun _ => ?_) | with_reducible refine ref_loop (fun _ => ?_))
noncomputable def K.slices_Clone_api_Neighbor_api_Neighbor (a0 : List TNeighbor) : Option (List TNeighbor) :=
  gd [decide (0 = 0) || decide (0 < a0.length), decide ((0 + a0.length) * 48 ≤ 140737488355328)] (some a0)
theorem k_slices_Clone_api_Neighbor_api_Neighbor (a0 : List TNeighbor) : Ref (K.slices_Clone_api_Neighbor_api_Neighbor a0) (M.slices_Clone_api_Neighbor_api_Neighbor a0) := by
  unfold K.slices_Clone_api_Neighbor_api_Neighbor M.slices_Clone_api_Neighbor_api_Neighbor
  repeat' (first | with_reducible exact ref_some | with_reducible exact ref_none | with_reducible refine ref_bind ?_ (fun _ => ?_) | with_reducible refine ref_gd ?_ | with_reducible refine ref_gc ?_ | with_reducible refine ref_cond ?_ ?_ | with_reducible refine ref_elim (fun _ => ?_) (fun _ => ?_) | with_reducible refine ref_loop (fun _ => ?_))
noncomputable def K.slices_Clone_api_Prefix_api_Prefix (a0 : List TPrefix) : Option (List TPrefix) :=
  gd [decide (0 = 0) || decide (0 < a0.length), decide ((0 + a0.length) * 16 ≤ 140737488355328)] (some a0)
theorem k_slices_Clone_api_Prefix_api_Prefix (a0 : List TPrefix) : Ref (K.slices_Clone_api_Prefix_api_Prefix a0) (M.slices_Clone_api_Prefix_api_Prefix a0) := by
  unfold K.slices_Clone_api_Prefix_api_Prefix M.slices_Clone_api_Prefix_api_Prefix
  repeat' (first | with_reducible exact ref_some | with_reducible exact ref_none | with_reducible refine ref_bind ?_ (fun _ => ?_) | with_reducible refine ref_gd ?_ | with_reducible refine ref_gc ?_ | with_reducible refine ref_cond ?_ ?_ | with_reducible refine ref_elim (fun _ => ?_) (fun _ => ?_) | with_reducible refine ref_loop (fun _ => ?_))
noncomputable def K.slices_Clone_api_Aggregate_api_Aggregate (a0 : List TAggregate) : Option (List TAggregate) :=
  gd [decide (0 = 0) || decide (0 < a0.length), decide ((0 + a0.length) * 24 ≤ 140737488355328)] (some a0)
theorem k_slices_Clone_api_Aggregate_api_Aggregate (a0 : List TAggregate) : Ref (K.slices_Clone_api_Aggregate_api_Aggregate a0) (M.slices_Clone_api_Aggregate_api_Aggregate a0) := by
  unfold K.slices_Clone_api_Aggregate_api_Aggregate M.slices_Clone_api_Aggregate_api_Aggregate
  repeat' (first | with_reducible exact ref_some | with_reducible exact ref_none | with_reducible refine ref_bind ?_ (fun _ => ?_) | with_reducible refine ref_gd ?_ | with_reducible refine ref_gc ?_ | with_reducible refine ref_cond ?_ ?_ | with_reducible refine ref_elim (fun _ => ?_) (fun _ => ?_) | with_reducible refine ref_loop (fun _ => ?_))
noncomputable def K.slices_Clone_api_Condition_api_Condition (a0 : List TCondition) : Option (List TCondition) :=
  gd [decide (0 = 0) || decide (0 < a0.length), decide ((0 + a0.length) * 40 ≤ 140737488355328)] (some a0)
theorem k_slices_Clone_api_Condition_api_Condition (a0 : List TCondition) : Ref (K.slices_Clone_api_Condition_api_Condition a0) (M.slices_Clone_api_Condition_api_Condition a0) := by
  unfold K.slices_Clone_api_Condition_api_Condition M.slices_Clone_api_Condition_api_Condition
  repeat' (first | with_reducible exact ref_some | with_reducible exact ref_none | with_reducible refine ref_bind ?_ (fun _ => ?_) | with_reducible refine ref_gd ?_ | with_reducible refine ref_gc ?_ | with_reducible refine ref_cond ?_ ?_ | with_reducible refine ref_elim (fun _ => ?_) (fun _ => ?_) | with_reducible refine ref_loop (fun _ => ?_))
noncomputable def K.topo_copyRouter_l1 (r2 : (List TPrefixList)) (p3 : Int) : Option (Int ⊕ Unit) :=
  bif decide (p3 < (r2.length : Int)) then none else (some (.inr ()))
theorem k_topo_copyRouter_l1 (r2 : (List TPrefixList)) (p3 : Int) : Ref (K.topo_copyRouter_l1 r2 p3) (M.topo_copyRouter_l1 r2 p3) := by
  unfold K.topo_copyRouter_l1 M.topo_copyRouter_l1
  repeat' (first | with_reducible exact ref_some | with_reducible exact ref_none | with_reducible refine ref_bind ?_ (fun _ => ?_) | with_reducible refine ref_gd ?_ | with_reducible refine ref_gc ?_ | with_reducible refine ref_cond ?_ ?_ | with_reducible refine ref_elim (fun _ => ?_) (fun _ => ?_) | with_reducible refine ref_loop (fun _ => ?_))
noncomputable def K.topo_copyRouter_l2 (r6 : (List TRouteMap)) (p7 : Int) : Option (Int ⊕ Unit) :=
  bif decide (p7 < (r6.length : Int)) then none else (some (.inr ()))
theorem k_topo_copyRouter_l2 (r6 : (List TRouteMap)) (p7 : Int) : Ref (K.topo_copyRouter_l2 r6 p7) (M.topo_copyRouter_l2 r6 p7) := by
  unfold K.topo_copyRouter_l2 M.topo_copyRouter_l2
  repeat' (first | with_reducible exact ref_some | with_reducible exact ref_none | with_reducible refine ref_bind ?_ (fun _ => ?_) | with_reducible refine ref_gd ?_ | with_reducible refine ref_gc ?_ | with_reducible refine ref_cond ?_ ?_ | with_reducible refine ref_elim (fun _ => ?_) (fun _ => ?_) | with_reducible refine ref_loop (fun _ => ?_))
noncomputable def K.topo_copyRouter_l3 (r10 : (List TACL)) (p11 : Int) : Option (Int ⊕ Unit) :=
  bif decide (p11 < (r10.length : Int)) then none else (some (.inr ()))
theorem k_topo_copyRouter_l3 (r10 : (List TACL)) (p11 : Int) : Ref (K.topo_copyRouter_l3 r10 p11) (M.topo_copyRouter_l3 r10 p11) := by
  unfold K.topo_copyRouter_l3 M.topo_copyRouter_l3
  repeat' (first | with_reducible exact ref_some | with_reducible exact ref_none | with_reducible refine ref_bind ?_ (fun _ => ?_) | with_reducible refine ref_gd ?_ | with_reducible refine ref_gc ?_ | with_reducible refine ref_cond ?_ ?_ | with_reducible refine ref_elim (fun _ => ?_) (fun _ => ?_) | with_reducible refine ref_loop (fun _ => ?_))
noncomputable def K.topo_copyRouter (a0 : TRouter) : Option TRouter :=
  (K.slices_Clone_api_Interface_api_Interface a0.fInterfaces).bind fun r1 => (K.slices_Clone_api_PrefixList_api_PrefixList a0.fLists).bind fun r2 => (loopN 1000 (K.topo_copyRouter_l1 r2) 0).bind fun y5 => (K.slices_Clone_api_RouteMap_api_RouteMap a0.fMaps).bind fun r6 => (loopN 1000 (K.topo_copyRouter_l2 r6) 0).bind fun y9 => (K.slices_Clone_api_ACL_api_ACL a0.fACLs).bind fun r10 => (loopN 1000 (K.topo_copyRouter_l3 r10) 0).bind fun y13 => (K.slices_Clone_api_Translation_api_Translation a0.fNAT).bind fun r14 => (K.slices_Clone_api_StaticRoute_api_StaticRoute a0.fStatics).bind fun r15 => (K.slices_Clone_api_AreaRange_api_AreaRange a0.fLS.fRanges).bind fun r16 => (K.slices_Clone_api_Redist_api_Redist a0.fLS.fRedist).bind fun r17 => (K.slices_Clone_api_Redist_api_Redist a0.fDV.fRedist).bind fun r18 => (K.slices_Clone_api_Neighbor_api_Neighbor a0.fPV.fNeighbors).bind fun r19 => (K.slices_Clone_api_Prefix_api_Prefix a0.fPV.fNetworks).bind fun r20 => (K.slices_Clone_api_Aggregate_api_Aggregate a0.fPV.fAggregates).bind fun r21 => (K.slices_Clone_api_Condition_api_Condition a0.fPV.fConditions).bind fun r22 => (K.slices_Clone_api_Redist_api_Redist a0.fPV.fRedist).bind fun r23 => some (⟨a0.fName, a0.fAS, r1, r2, r6, r10, r14, r15, (⟨a0.fLS.fOn, a0.fLS.fAdmin, r16, r17⟩ : TLinkState), (⟨a0.fDV.fOn, a0.fDV.fAdmin, a0.fDV.fIn, a0.fDV.fOut, r18⟩ : TDistanceVector), (⟨a0.fPV.fOn, a0.fPV.fExternal, a0.fPV.fInternal, r19, r20, r21, r22, r23⟩ : TPathVector)⟩ : TRouter)
theorem k_topo_copyRouter (a0 : TRouter) : Ref (K.topo_copyRouter a0) (M.topo_copyRouter a0) := by
  unfold K.topo_copyRouter M.topo_copyRouter
  repeat' (first | with_reducible exact ref_some | with_reducible exact ref_none | with_reducible exact k_slices_Clone_api_Interface_api_Interface .. | with_reducible exact k_slices_Clone_api_PrefixList_api_PrefixList .. | with_reducible exact k_slices_Clone_api_RouteMap_api_RouteMap .. | with_reducible exact k_slices_Clone_api_ACL_api_ACL .. | with_reducible exact k_slices_Clone_api_Translation_api_Translation .. | with_reducible exact k_slices_Clone_api_StaticRoute_api_StaticRoute .. | with_reducible exact k_slices_Clone_api_AreaRange_api_AreaRange .. | with_reducible exact k_slices_Clone_api_Redist_api_Redist .. | with_reducible exact k_slices_Clone_api_Neighbor_api_Neighbor .. | with_reducible exact k_slices_Clone_api_Prefix_api_Prefix .. | with_reducible exact k_slices_Clone_api_Aggregate_api_Aggregate .. | with_reducible exact k_slices_Clone_api_Condition_api_Condition .. | with_reducible exact k_topo_copyRouter_l1 .. | with_reducible exact k_topo_copyRouter_l2 .. | with_reducible exact k_topo_copyRouter_l3 .. | with_reducible refine ref_bind ?_ (fun _ => ?_) | with_reducible refine ref_gd ?_ | with_reducible refine ref_gc ?_ | with_reducible refine ref_cond ?_ ?_ | with_reducible refine ref_elim (fun _ => ?_) (fun _ => ?_) | with_reducible refine ref_loop (fun _ => ?_))
noncomputable def K.topo_copyNetwork_l1 (r1 : (List TRouter)) (p2 : (List TRouter) × Int) : Option (((List TRouter) × Int) ⊕ (List TRouter)) :=
  bif decide (p2.2 < (r1.length : Int)) then ((K.topo_copyRouter (p2.1.getD (0 + p2.2.toNat) default)).bind fun r4 => gd [decide (0 ≤ p2.2), decide (p2.2 < (p2.1.length : Int)), decide (0 ≤ p2.2), decide (p2.2 < (p2.1.length : Int))] (some (.inl (p2.1.set (0 + p2.2.toNat) r4, wr .i64 (p2.2 + 1))))) else (some (.inr p2.1))
theorem k_topo_copyNetwork_l1 (r1 : (List TRouter)) (p2 : (List TRouter) × Int) : Ref (K.topo_copyNetwork_l1 r1 p2) (M.topo_copyNetwork_l1 r1 p2) := by
  unfold K.topo_copyNetwork_l1 M.topo_copyNetwork_l1
  repeat' (first | with_reducible exact ref_some | with_reducible exact ref_none | with_reducible exact k_topo_copyRouter .. | with_reducible refine ref_bind ?_ (fun _ => ?_) | with_reducible refine ref_gd ?_ | with_reducible refine ref_gc ?_ | with_reducible refine ref_cond ?_ ?_ | with_reducible refine ref_elim (fun _ => ?_) (fun _ => ?_) | with_reducible refine ref_loop (fun _ => ?_))
noncomputable def K.topo_copyNetwork (a0 : TNetwork) : Option TNetwork :=
  (K.slices_Clone_api_Router_api_Router a0.fRouters).bind fun r1 => (loopN 1000 (K.topo_copyNetwork_l1 r1) (r1, 0)).bind fun y5 => some (⟨y5⟩ : TNetwork)
theorem k_topo_copyNetwork (a0 : TNetwork) : Ref (K.topo_copyNetwork a0) (M.topo_copyNetwork a0) := by
  unfold K.topo_copyNetwork M.topo_copyNetwork
  repeat' (first | with_reducible exact ref_some | with_reducible exact ref_none | with_reducible exact k_slices_Clone_api_Router_api_Router .. | with_reducible exact k_topo_copyNetwork_l1 .. | with_reducible refine ref_bind ?_ (fun _ => ?_) | with_reducible refine ref_gd ?_ | with_reducible refine ref_gc ?_ | with_reducible refine ref_cond ?_ ?_ | with_reducible refine ref_elim (fun _ => ?_) (fun _ => ?_) | with_reducible refine ref_loop (fun _ => ?_))
noncomputable def K.slices_Clone_int_int (a0 : List Int) : Option (List Int) :=
  gd [decide (0 = 0) || decide (0 < a0.length), decide ((0 + a0.length) * 8 ≤ 140737488355328)] (some a0)
theorem k_slices_Clone_int_int (a0 : List Int) : Ref (K.slices_Clone_int_int a0) (M.slices_Clone_int_int a0) := by
  unfold K.slices_Clone_int_int M.slices_Clone_int_int
  repeat' (first | with_reducible exact ref_some | with_reducible exact ref_none | with_reducible refine ref_bind ?_ (fun _ => ?_) | with_reducible refine ref_gd ?_ | with_reducible refine ref_gc ?_ | with_reducible refine ref_cond ?_ ?_ | with_reducible refine ref_elim (fun _ => ?_) (fun _ => ?_) | with_reducible refine ref_loop (fun _ => ?_))
noncomputable def K.topo_Make_l1 (a1 : List Int) (p2 : Int) : Option (Int ⊕ Unit) :=
  bif decide (p2 < (a1.length : Int)) then none else (some (.inr ()))
theorem k_topo_Make_l1 (a1 : List Int) (p2 : Int) : Ref (K.topo_Make_l1 a1 p2) (M.topo_Make_l1 a1 p2) := by
  unfold K.topo_Make_l1 M.topo_Make_l1
  repeat' (first | with_reducible exact ref_some | with_reducible exact ref_none | with_reducible refine ref_bind ?_ (fun _ => ?_) | with_reducible refine ref_gd ?_ | with_reducible refine ref_gc ?_ | with_reducible refine ref_cond ?_ ?_ | with_reducible refine ref_elim (fun _ => ?_) (fun _ => ?_) | with_reducible refine ref_loop (fun _ => ?_))
noncomputable def K.topo_Make (a0 : TNetwork) (a1 : List Int) : Option (TView × Int) :=
  (K.topo_Build a0).bind fun r1 => bif r1.2 != 0 then none else (bif decide ((a1.length : Int) > 2) then none else ((loopN 1000 (K.topo_Make_l1 a1) 0).bind fun y4 => (K.topo_copyNetwork a0).bind fun r5 => (K.slices_Clone_int_int a1).bind fun r6 => some ((⟨r5, r1.1, r6⟩ : TView), 0)))
theorem k_topo_Make (a0 : TNetwork) (a1 : List Int) : Ref (K.topo_Make a0 a1) (M.topo_Make a0 a1) := by
  unfold K.topo_Make M.topo_Make
  repeat' (first | with_reducible exact ref_some | with_reducible exact ref_none | with_reducible exact k_topo_Build .. | with_reducible exact k_topo_copyNetwork .. | with_reducible exact k_slices_Clone_int_int .. | with_reducible exact k_topo_Make_l1 .. | with_reducible refine ref_bind ?_ (fun _ => ?_) | with_reducible refine ref_gd ?_ | with_reducible refine ref_gc ?_ | with_reducible refine ref_cond ?_ ?_ | with_reducible refine ref_elim (fun _ => ?_) (fun _ => ?_) | with_reducible refine ref_loop (fun _ => ?_))
noncomputable def K.fib_recursive (a0 : TRoute) : Option Bool :=
  some ((a0.fProto == 2) && (a0.fNext != 0))
theorem k_fib_recursive (a0 : TRoute) : Ref (K.fib_recursive a0) (M.fib_recursive a0) := by
  unfold K.fib_recursive M.fib_recursive
  repeat' (first | with_reducible exact ref_some | with_reducible exact ref_none | with_reducible refine ref_bind ?_ (fun _ => ?_) | with_reducible refine ref_gd ?_ | with_reducible refine ref_gc ?_ | with_reducible refine ref_cond ?_ ?_ | with_reducible refine ref_elim (fun _ => ?_) (fun _ => ?_) | with_reducible refine ref_loop (fun _ => ?_))
noncomputable def K.static_Resolves_k1 (p1 : Int × Int) (p3 : Int) : Option ((Int × Int) ⊕ Int) :=
  some (.inl (p3, wr .i64 (p1.2 + 1)))
theorem k_static_Resolves_k1 (p1 : Int × Int) (p3 : Int) : Ref (K.static_Resolves_k1 p1 p3) (M.static_Resolves_k1 p1 p3) := by
  unfold K.static_Resolves_k1 M.static_Resolves_k1
  repeat' (first | with_reducible exact ref_some | with_reducible exact ref_none | with_reducible refine ref_bind ?_ (fun _ => ?_) | with_reducible refine ref_gd ?_ | with_reducible refine ref_gc ?_ | with_reducible refine ref_cond ?_ ?_ | with_reducible refine ref_elim (fun _ => ?_) (fun _ => ?_) | with_reducible refine ref_loop (fun _ => ?_))
noncomputable def K.static_Resolves_l1 (a0 : List TRoute) (a1 : TPrefix) (a2 : Int) (p1 : Int × Int) : Option ((Int × Int) ⊕ Int) :=
  bif decide (p1.2 < (a0.length : Int)) then (gd [decide (0 ≤ p1.2), decide (p1.2 < (a0.length : Int))] ((gc (!(((((a0.getD p1.2.toNat default).fPrefix).fAddr) == a1.fAddr) && (((((a0.getD p1.2.toNat default).fPrefix).fLen) == a1.fLen) && true))) (K.addr_Contains ((a0.getD p1.2.toNat default).fPrefix) a2)).bind fun r4 => bif (((((a0.getD p1.2.toNat default).fPrefix).fAddr) == a1.fAddr) && (((((a0.getD p1.2.toNat default).fPrefix).fLen) == a1.fLen) && true)) || (!r4) then (K.static_Resolves_k1 p1 p1.1) else (gd [guardB (!(decide (p1.1 < 0))) (decide (0 ≤ p1.1)), guardB (!(decide (p1.1 < 0))) (decide (p1.1 < (a0.length : Int)))] (bif (decide (p1.1 < 0)) || (decide ((((a0.getD p1.2.toNat default).fPrefix).fLen) > (((a0.getD p1.1.toNat default).fPrefix).fLen))) then (K.static_Resolves_k1 p1 p1.2) else (K.static_Resolves_k1 p1 p1.1))))) else (some (.inr p1.1))
theorem k_static_Resolves_l1 (a0 : List TRoute) (a1 : TPrefix) (a2 : Int) (p1 : Int × Int) : Ref (K.static_Resolves_l1 a0 a1 a2 p1) (M.static_Resolves_l1 a0 a1 a2 p1) := by
  unfold K.static_Resolves_l1 M.static_Resolves_l1
  repeat' (first | with_reducible exact ref_some | with_reducible exact ref_none | with_reducible exact k_addr_Contains .. | with_reducible exact k_static_Resolves_k1 .. | with_reducible refine ref_bind ?_ (fun _ => ?_) | with_reducible refine ref_gd ?_ | with_reducible refine ref_gc ?_ | with_reducible refine ref_cond ?_ ?_ | with_reducible refine ref_elim (fun _ => ?_) (fun _ => ?_) | with_reducible refine ref_loop (fun _ => ?_))
noncomputable def K.static_Resolves (a0 : List TRoute) (a1 : TPrefix) (a2 : Int) : Option Int :=
  (loopN 1000 (K.static_Resolves_l1 a0 a1 a2) ((-1), 0)).bind fun y5 => some y5
theorem k_static_Resolves (a0 : List TRoute) (a1 : TPrefix) (a2 : Int) : Ref (K.static_Resolves a0 a1 a2) (M.static_Resolves a0 a1 a2) := by
  unfold K.static_Resolves M.static_Resolves
  repeat' (first | with_reducible exact ref_some | with_reducible exact ref_none | with_reducible exact k_static_Resolves_l1 .. | with_reducible refine ref_bind ?_ (fun _ => ?_) | with_reducible refine ref_gd ?_ | with_reducible refine ref_gc ?_ | with_reducible refine ref_cond ?_ ?_ | with_reducible refine ref_elim (fun _ => ?_) (fun _ => ?_) | with_reducible refine ref_loop (fun _ => ?_))
noncomputable def K.fib_through_k1 (p2 : (List THop) × Int) (p4 : (List THop)) : Option (((List THop) × Int) ⊕ (List THop)) :=
  some (.inl (p4, wr .i64 (p2.2 + 1)))
theorem k_fib_through_k1 (p2 : (List THop) × Int) (p4 : (List THop)) : Ref (K.fib_through_k1 p2 p4) (M.fib_through_k1 p2 p4) := by
  unfold K.fib_through_k1 M.fib_through_k1
  repeat' (first | with_reducible exact ref_some | with_reducible exact ref_none | with_reducible refine ref_bind ?_ (fun _ => ?_) | with_reducible refine ref_gd ?_ | with_reducible refine ref_gc ?_ | with_reducible refine ref_cond ?_ ?_ | with_reducible refine ref_elim (fun _ => ?_) (fun _ => ?_) | with_reducible refine ref_loop (fun _ => ?_))
noncomputable def K.fib_through_l1 (a1 : Int) (r1 : (List THop)) (p2 : (List THop) × Int) : Option (((List THop) × Int) ⊕ (List THop)) :=
  bif decide (p2.2 < (r1.length : Int)) then (gd [decide (0 ≤ p2.2), decide (p2.2 < (p2.1.length : Int))] (bif ((p2.1.getD (0 + p2.2.toNat) default).fAddr) == 0 then (gd [decide (0 ≤ p2.2), decide (p2.2 < (p2.1.length : Int))] (K.fib_through_k1 p2 (p2.1.set (0 + p2.2.toNat) (⟨(p2.1.getD (0 + p2.2.toNat) default).fIface, a1⟩ : THop)))) else (K.fib_through_k1 p2 p2.1))) else (some (.inr p2.1))
theorem k_fib_through_l1 (a1 : Int) (r1 : (List THop)) (p2 : (List THop) × Int) : Ref (K.fib_through_l1 a1 r1 p2) (M.fib_through_l1 a1 r1 p2) := by
  unfold K.fib_through_l1 M.fib_through_l1
  repeat' (first | with_reducible exact ref_some | with_reducible exact ref_none | with_reducible exact k_fib_through_k1 .. | with_reducible refine ref_bind ?_ (fun _ => ?_) | with_reducible refine ref_gd ?_ | with_reducible refine ref_gc ?_ | with_reducible refine ref_cond ?_ ?_ | with_reducible refine ref_elim (fun _ => ?_) (fun _ => ?_) | with_reducible refine ref_loop (fun _ => ?_))
noncomputable def K.fib_through (a0 : List THop) (a1 : Int) : Option (List THop) :=
  (K.slices_Clone_api_Hop_api_Hop a0).bind fun r1 => (loopN 1000 (K.fib_through_l1 a1 r1) (r1, 0)).bind fun y5 => some y5
theorem k_fib_through (a0 : List THop) (a1 : Int) : Ref (K.fib_through a0 a1) (M.fib_through a0 a1) := by
  unfold K.fib_through M.fib_through
  repeat' (first | with_reducible exact ref_some | with_reducible exact ref_none | with_reducible exact k_slices_Clone_api_Hop_api_Hop .. | with_reducible exact k_fib_through_l1 .. | with_reducible refine ref_bind ?_ (fun _ => ?_) | with_reducible refine ref_gd ?_ | with_reducible refine ref_gc ?_ | with_reducible refine ref_cond ?_ ?_ | with_reducible refine ref_elim (fun _ => ?_) (fun _ => ?_) | with_reducible refine ref_loop (fun _ => ?_))
noncomputable def K.fib_resolve_l1 (a0 : List TRoute) (p1 : Int) : Option (Int ⊕ (Int ⊕ (List THop))) :=
  (gc (!((a0.getD p1.toNat default).fDiscard)) (K.fib_recursive (a0.getD p1.toNat default))).bind fun r3 => gd [decide (0 ≤ p1), decide (p1 < (a0.length : Int)), guardB (!((a0.getD p1.toNat default).fDiscard)) (decide (0 ≤ p1)), guardB (!((a0.getD p1.toNat default).fDiscard)) (decide (p1 < (a0.length : Int)))] (bif (!((a0.getD p1.toNat default).fDiscard)) && r3 then (gd [decide (0 ≤ p1), decide (p1 < ((List.replicate ((a0.length : Int).toNat) false).length : Int))] (gd [decide (0 ≤ p1), decide (p1 < (a0.length : Int))] ((K.static_Resolves a0 ((a0.getD p1.toNat default).fPrefix) ((a0.getD p1.toNat default).fNext)).bind fun r4 => gd [decide (0 ≤ p1), decide (p1 < (a0.length : Int))] (gd [guardB (!((decide (r4 < 0)) || (decide (r4 ≥ (a0.length : Int))))) (decide (0 ≤ r4)), guardB (!((decide (r4 < 0)) || (decide (r4 ≥ (a0.length : Int))))) (decide (r4 < ((((List.replicate ((a0.length : Int).toNat) false).set (0 + p1.toNat) true).length : Nat) : Int)))] (bif ((decide (r4 < 0)) || (decide (r4 ≥ (a0.length : Int)))) || (((List.replicate ((a0.length : Int).toNat) false).set (0 + p1.toNat) true).getD (0 + r4.toNat) default) then none else ((gc (!((a0.getD r4.toNat default).fDiscard)) (K.fib_recursive (a0.getD r4.toNat default))).bind fun r5 => gd [decide (0 ≤ r4), decide (r4 < (a0.length : Int)), guardB (!((a0.getD r4.toNat default).fDiscard)) (decide (0 ≤ r4)), guardB (!((a0.getD r4.toNat default).fDiscard)) (decide (r4 < (a0.length : Int)))] (bif (!((a0.getD r4.toNat default).fDiscard)) && (!r5) then ((K.fib_through ((a0.getD r4.toNat default).fHops) ((a0.getD p1.toNat default).fNext)).bind fun r6 => gd [decide (0 ≤ r4), decide (r4 < (a0.length : Int))] (some (.inr (.inr r6)))) else none))))))) else (some (.inr (.inl p1))))
theorem k_fib_resolve_l1 (a0 : List TRoute) (p1 : Int) : Ref (K.fib_resolve_l1 a0 p1) (M.fib_resolve_l1 a0 p1) := by
  unfold K.fib_resolve_l1 M.fib_resolve_l1
  repeat' (first | with_reducible exact ref_some | with_reducible exact ref_none | with_reducible exact k_fib_recursive .. | with_reducible exact k_static_Resolves .. | with_reducible exact k_fib_through .. | with_reducible refine ref_bind ?_ (fun _ => ?_) | with_reducible refine ref_gd ?_ | with_reducible refine ref_gc ?_ | with_reducible refine ref_cond ?_ ?_ | with_reducible refine ref_elim (fun _ => ?_) (fun _ => ?_) | with_reducible refine ref_loop (fun _ => ?_))
noncomputable def K.fib_resolve (a0 : List TRoute) (a1 : Int) : Option (List THop) :=
  gd [decide (0 ≤ (a0.length : Int)), decide ((a0.length : Int) ≤ (a0.length : Int)), decide ((a0.length : Int).toNat * 1 ≤ 140737488355328), decide ((a0.length : Int).toNat ≤ 140737488355328)] ((loopN 1000 (K.fib_resolve_l1 a0) a1).bind fun y7 => Sum.elim (fun g8 => gd [decide (0 ≤ g8), decide (g8 < (a0.length : Int))] (bif (a0.getD g8.toNat default).fDiscard then none else (gd [decide (0 ≤ g8), decide (g8 < (a0.length : Int))] (some ((a0.getD g8.toNat default).fHops))))) (fun y9 => some y9) y7)
theorem k_fib_resolve (a0 : List TRoute) (a1 : Int) : Ref (K.fib_resolve a0 a1) (M.fib_resolve a0 a1) := by
  unfold K.fib_resolve M.fib_resolve
  repeat' (first | with_reducible exact ref_some | with_reducible exact ref_none | with_reducible exact k_fib_resolve_l1 .. | with_reducible refine ref_bind ?_ (fun _ => ?_) | with_reducible refine ref_gd ?_ | with_reducible refine ref_gc ?_ | with_reducible refine ref_cond ?_ ?_ | with_reducible refine ref_elim (fun _ => ?_) (fun _ => ?_) | with_reducible refine ref_loop (fun _ => ?_))
noncomputable def K.slices_Index_api_End_api_End_l1 (a0 : List TEnd) (a1 : TEnd) (p1 : Int) : Option (Int ⊕ (Unit ⊕ Int)) :=
  bif decide (p1 < (a0.length : Int)) then (gd [decide (0 ≤ p1), decide (p1 < (a0.length : Int))] (bif ((a1.fRouter == ((a0.getD p1.toNat default).fRouter)) && ((a1.fIface == ((a0.getD p1.toNat default).fIface)) && true)) then (some (.inr (.inr p1))) else none)) else (some (.inr (.inl ())))
theorem k_slices_Index_api_End_api_End_l1 (a0 : List TEnd) (a1 : TEnd) (p1 : Int) : Ref (K.slices_Index_api_End_api_End_l1 a0 a1 p1) (M.slices_Index_api_End_api_End_l1 a0 a1 p1) := by
  unfold K.slices_Index_api_End_api_End_l1 M.slices_Index_api_End_api_End_l1
  repeat' (first | with_reducible exact ref_some | with_reducible exact ref_none | with_reducible refine ref_bind ?_ (fun _ => ?_) | with_reducible refine ref_gd ?_ | with_reducible refine ref_gc ?_ | with_reducible refine ref_cond ?_ ?_ | with_reducible refine ref_elim (fun _ => ?_) (fun _ => ?_) | with_reducible refine ref_loop (fun _ => ?_))
noncomputable def K.slices_Index_api_End_api_End (a0 : List TEnd) (a1 : TEnd) : Option Int :=
  (loopN 1000 (K.slices_Index_api_End_api_End_l1 a0 a1) 0).bind fun y3 => Sum.elim (fun _ => none) (fun y5 => some y5) y3
theorem k_slices_Index_api_End_api_End (a0 : List TEnd) (a1 : TEnd) : Ref (K.slices_Index_api_End_api_End a0 a1) (M.slices_Index_api_End_api_End a0 a1) := by
  unfold K.slices_Index_api_End_api_End M.slices_Index_api_End_api_End
  repeat' (first | with_reducible exact ref_some | with_reducible exact ref_none | with_reducible exact k_slices_Index_api_End_api_End_l1 .. | with_reducible refine ref_bind ?_ (fun _ => ?_) | with_reducible refine ref_gd ?_ | with_reducible refine ref_gc ?_ | with_reducible refine ref_cond ?_ ?_ | with_reducible refine ref_elim (fun _ => ?_) (fun _ => ?_) | with_reducible refine ref_loop (fun _ => ?_))
noncomputable def K.slices_Contains_api_End_api_End (a0 : List TEnd) (a1 : TEnd) : Option Bool :=
  (K.slices_Index_api_End_api_End a0 a1).bind fun r1 => some (decide (r1 ≥ 0))
theorem k_slices_Contains_api_End_api_End (a0 : List TEnd) (a1 : TEnd) : Ref (K.slices_Contains_api_End_api_End a0 a1) (M.slices_Contains_api_End_api_End a0 a1) := by
  unfold K.slices_Contains_api_End_api_End M.slices_Contains_api_End_api_End
  repeat' (first | with_reducible exact ref_some | with_reducible exact ref_none | with_reducible exact k_slices_Index_api_End_api_End .. | with_reducible refine ref_bind ?_ (fun _ => ?_) | with_reducible refine ref_gd ?_ | with_reducible refine ref_gc ?_ | with_reducible refine ref_cond ?_ ?_ | with_reducible refine ref_elim (fun _ => ?_) (fun _ => ?_) | with_reducible refine ref_loop (fun _ => ?_))
noncomputable def K.topo_Domain_l1 (a0 : TView) (a1 : Int) (a2 : Int) (p1 : Int) : Option (Int ⊕ (Unit ⊕ Int)) :=
  bif decide (p1 < (a0.fTopo.fDomains.length : Int)) then (gd [decide (0 ≤ p1), decide (p1 < (a0.fTopo.fDomains.length : Int))] ((K.slices_Contains_api_End_api_End ((a0.fTopo.fDomains.getD p1.toNat default).fEnds) (⟨a1, a2⟩ : TEnd)).bind fun r3 => bif r3 then (some (.inr (.inr p1))) else none)) else (some (.inr (.inl ())))
theorem k_topo_Domain_l1 (a0 : TView) (a1 : Int) (a2 : Int) (p1 : Int) : Ref (K.topo_Domain_l1 a0 a1 a2 p1) (M.topo_Domain_l1 a0 a1 a2 p1) := by
  unfold K.topo_Domain_l1 M.topo_Domain_l1
  repeat' (first | with_reducible exact ref_some | with_reducible exact ref_none | with_reducible exact k_slices_Contains_api_End_api_End .. | with_reducible refine ref_bind ?_ (fun _ => ?_) | with_reducible refine ref_gd ?_ | with_reducible refine ref_gc ?_ | with_reducible refine ref_cond ?_ ?_ | with_reducible refine ref_elim (fun _ => ?_) (fun _ => ?_) | with_reducible refine ref_loop (fun _ => ?_))
noncomputable def K.topo_Domain (a0 : TView) (a1 : Int) (a2 : Int) : Option Int :=
  (loopN 1000 (K.topo_Domain_l1 a0 a1 a2) 0).bind fun y4 => Sum.elim (fun _ => none) (fun y6 => some y6) y4
theorem k_topo_Domain (a0 : TView) (a1 : Int) (a2 : Int) : Ref (K.topo_Domain a0 a1 a2) (M.topo_Domain a0 a1 a2) := by
  unfold K.topo_Domain M.topo_Domain
  repeat' (first | with_reducible exact ref_some | with_reducible exact ref_none | with_reducible exact k_topo_Domain_l1 .. | with_reducible refine ref_bind ?_ (fun _ => ?_) | with_reducible refine ref_gd ?_ | with_reducible refine ref_gc ?_ | with_reducible refine ref_cond ?_ ?_ | with_reducible refine ref_elim (fun _ => ?_) (fun _ => ?_) | with_reducible refine ref_loop (fun _ => ?_))
noncomputable def K.slices_Index_int_int_l1 (a0 : List Int) (p1 : Int) : Option (Int ⊕ Unit) :=
  bif decide (p1 < (a0.length : Int)) then none else (some (.inr ()))
theorem k_slices_Index_int_int_l1 (a0 : List Int) (p1 : Int) : Ref (K.slices_Index_int_int_l1 a0 p1) (M.slices_Index_int_int_l1 a0 p1) := by
  unfold K.slices_Index_int_int_l1 M.slices_Index_int_int_l1
  repeat' (first | with_reducible exact ref_some | with_reducible exact ref_none | with_reducible refine ref_bind ?_ (fun _ => ?_) | with_reducible refine ref_gd ?_ | with_reducible refine ref_gc ?_ | with_reducible refine ref_cond ?_ ?_ | with_reducible refine ref_elim (fun _ => ?_) (fun _ => ?_) | with_reducible refine ref_loop (fun _ => ?_))
noncomputable def K.slices_Index_int_int (a0 : List Int) (_a1 : Int) : Option Int :=
  (loopN 1000 (K.slices_Index_int_int_l1 a0) 0).bind fun y3 => some (-1)
theorem k_slices_Index_int_int (a0 : List Int) (_a1 : Int) : Ref (K.slices_Index_int_int a0 _a1) (M.slices_Index_int_int a0 _a1) := by
  unfold K.slices_Index_int_int M.slices_Index_int_int
  repeat' (first | with_reducible exact ref_some | with_reducible exact ref_none | with_reducible exact k_slices_Index_int_int_l1 .. | with_reducible refine ref_bind ?_ (fun _ => ?_) | with_reducible refine ref_gd ?_ | with_reducible refine ref_gc ?_ | with_reducible refine ref_cond ?_ ?_ | with_reducible refine ref_elim (fun _ => ?_) (fun _ => ?_) | with_reducible refine ref_loop (fun _ => ?_))
noncomputable def K.topo_Link (a0 : TView) (a1 : Int) (a2 : Int) : Option Int :=
  (K.topo_Domain a0 a1 a2).bind fun r1 => bif decide (r1 < 0) then none else ((K.slices_Index_int_int a0.fTopo.fLinks r1).bind fun r2 => some r2)
theorem k_topo_Link (a0 : TView) (a1 : Int) (a2 : Int) : Ref (K.topo_Link a0 a1 a2) (M.topo_Link a0 a1 a2) := by
  unfold K.topo_Link M.topo_Link
  repeat' (first | with_reducible exact ref_some | with_reducible exact ref_none | with_reducible exact k_topo_Domain .. | with_reducible exact k_slices_Index_int_int .. | with_reducible refine ref_bind ?_ (fun _ => ?_) | with_reducible refine ref_gd ?_ | with_reducible refine ref_gc ?_ | with_reducible refine ref_cond ?_ ?_ | with_reducible refine ref_elim (fun _ => ?_) (fun _ => ?_) | with_reducible refine ref_loop (fun _ => ?_))
noncomputable def K.slices_Contains_int_int (_a0 : List Int) (_a1 : Int) : Option Bool :=
  none
theorem k_slices_Contains_int_int (_a0 : List Int) (_a1 : Int) : Ref (K.slices_Contains_int_int _a0 _a1) (M.slices_Contains_int_int _a0 _a1) := by
  unfold K.slices_Contains_int_int M.slices_Contains_int_int
  repeat' (first | with_reducible exact ref_some | with_reducible exact ref_none | with_reducible refine ref_bind ?_ (fun _ => ?_) | with_reducible refine ref_gd ?_ | with_reducible refine ref_gc ?_ | with_reducible refine ref_cond ?_ ?_ | with_reducible refine ref_elim (fun _ => ?_) (fun _ => ?_) | with_reducible refine ref_loop (fun _ => ?_))
noncomputable def K.topo_Up (a0 : TView) (a1 : Int) (a2 : Int) : Option Bool :=
  (K.topo_Domain a0 a1 a2).bind fun r1 => bif decide (r1 < 0) then none else ((K.topo_Link a0 a1 a2).bind fun r2 => (gc (!(decide (r2 < 0))) (K.slices_Contains_int_int a0.fDown r2)).bind fun r3 => some ((decide (r2 < 0)) || (!r3)))
theorem k_topo_Up (a0 : TView) (a1 : Int) (a2 : Int) : Ref (K.topo_Up a0 a1 a2) (M.topo_Up a0 a1 a2) := by
  unfold K.topo_Up M.topo_Up
  repeat' (first | with_reducible exact ref_some | with_reducible exact ref_none | with_reducible exact k_topo_Domain .. | with_reducible exact k_topo_Link .. | with_reducible exact k_slices_Contains_int_int .. | with_reducible refine ref_bind ?_ (fun _ => ?_) | with_reducible refine ref_gd ?_ | with_reducible refine ref_gc ?_ | with_reducible refine ref_cond ?_ ?_ | with_reducible refine ref_elim (fun _ => ?_) (fun _ => ?_) | with_reducible refine ref_loop (fun _ => ?_))
noncomputable def K.fib_Resolve_1 (a0 : THop) (a1 : THop) : Option Int :=
  (K.cmp_Compare_int a0.fIface a1.fIface).bind fun r1 => (K.cmp_Compare_uint32 a0.fAddr a1.fAddr).bind fun r2 => (K.cmp_Or_int ([r1, r2] : List Int)).bind fun r3 => some r3
theorem k_fib_Resolve_1 (a0 : THop) (a1 : THop) : Ref (K.fib_Resolve_1 a0 a1) (M.fib_Resolve_1 a0 a1) := by
  unfold K.fib_Resolve_1 M.fib_Resolve_1
  repeat' (first | with_reducible exact ref_some | with_reducible exact ref_none | with_reducible exact k_cmp_Compare_uint32 .. | with_reducible exact k_cmp_Compare_int .. | with_reducible exact k_cmp_Or_int .. | with_reducible refine ref_bind ?_ (fun _ => ?_) | with_reducible refine ref_gd ?_ | with_reducible refine ref_gc ?_ | with_reducible refine ref_cond ?_ ?_ | with_reducible refine ref_elim (fun _ => ?_) (fun _ => ?_) | with_reducible refine ref_loop (fun _ => ?_))
noncomputable def K.slices_SortFunc_api_Hop_api_Hop__fib_Resolve_1 (a0 : List THop) : Option (List THop) :=
  sortK K.fib_Resolve_1 a0
theorem k_slices_SortFunc_api_Hop_api_Hop__fib_Resolve_1 (a0 : List THop) : Ref (K.slices_SortFunc_api_Hop_api_Hop__fib_Resolve_1 a0) (M.slices_SortFunc_api_Hop_api_Hop__fib_Resolve_1 a0) := ref_sort k_fib_Resolve_1 so_fib_Resolve_1
noncomputable def K.slices_Compact_api_Hop_api_Hop (a0 : List THop) : Option ((List THop) × Nat) :=
  bif decide ((a0.length : Int) < 2) then (some (a0, a0.length)) else none
theorem k_slices_Compact_api_Hop_api_Hop (a0 : List THop) : Ref (K.slices_Compact_api_Hop_api_Hop a0) (M.slices_Compact_api_Hop_api_Hop a0) := by
  unfold K.slices_Compact_api_Hop_api_Hop M.slices_Compact_api_Hop_api_Hop
  repeat' (first | with_reducible exact ref_some | with_reducible exact ref_none | with_reducible refine ref_bind ?_ (fun _ => ?_) | with_reducible refine ref_gd ?_ | with_reducible refine ref_gc ?_ | with_reducible refine ref_cond ?_ ?_ | with_reducible refine ref_elim (fun _ => ?_) (fun _ => ?_) | with_reducible refine ref_loop (fun _ => ?_))
noncomputable def K.fib_Resolve_k1 (p2 : (List THop) × Int) (p4 : (List THop)) : Option (((List THop) × Int) ⊕ (List THop)) :=
  some (.inl (p4, wr .i64 (p2.2 + 1)))
theorem k_fib_Resolve_k1 (p2 : (List THop) × Int) (p4 : (List THop)) : Ref (K.fib_Resolve_k1 p2 p4) (M.fib_Resolve_k1 p2 p4) := by
  unfold K.fib_Resolve_k1 M.fib_Resolve_k1
  repeat' (first | with_reducible exact ref_some | with_reducible exact ref_none | with_reducible refine ref_bind ?_ (fun _ => ?_) | with_reducible refine ref_gd ?_ | with_reducible refine ref_gc ?_ | with_reducible refine ref_cond ?_ ?_ | with_reducible refine ref_elim (fun _ => ?_) (fun _ => ?_) | with_reducible refine ref_loop (fun _ => ?_))
noncomputable def K.fib_Resolve_l1 (a0 : TView) (a2 : Int) (r1 : (List THop)) (p2 : (List THop) × Int) : Option (((List THop) × Int) ⊕ (List THop)) :=
  bif decide (p2.2 < (r1.length : Int)) then (gd [decide (0 ≤ p2.2), decide (p2.2 < (r1.length : Int))] ((K.topo_Up a0 a2 ((r1.getD p2.2.toNat default).fIface)).bind fun r5 => bif r5 then (gd [decide ((p2.1.length + 1) * 16 ≤ 140737488355328)] (K.fib_Resolve_k1 p2 (p2.1 ++ [r1.getD p2.2.toNat default]))) else (K.fib_Resolve_k1 p2 p2.1))) else (some (.inr p2.1))
theorem k_fib_Resolve_l1 (a0 : TView) (a2 : Int) (r1 : (List THop)) (p2 : (List THop) × Int) : Ref (K.fib_Resolve_l1 a0 a2 r1 p2) (M.fib_Resolve_l1 a0 a2 r1 p2) := by
  unfold K.fib_Resolve_l1 M.fib_Resolve_l1
  repeat' (first | with_reducible exact ref_some | with_reducible exact ref_none | with_reducible exact k_topo_Up .. | with_reducible exact k_fib_Resolve_k1 .. | with_reducible refine ref_bind ?_ (fun _ => ?_) | with_reducible refine ref_gd ?_ | with_reducible refine ref_gc ?_ | with_reducible refine ref_cond ?_ ?_ | with_reducible refine ref_elim (fun _ => ?_) (fun _ => ?_) | with_reducible refine ref_loop (fun _ => ?_))
noncomputable def K.fib_Resolve (a0 : TView) (a1 : List TRoute) (a2 : Int) (a3 : Int) : Option (List THop) :=
  bif (decide (a3 < 0)) || (decide (a3 ≥ (a1.length : Int))) then none else ((K.fib_resolve a1 a3).bind fun r1 => (loopN 1000 (K.fib_Resolve_l1 a0 a2 r1) (([] : List THop), 0)).bind fun y6 => (K.slices_SortFunc_api_Hop_api_Hop__fib_Resolve_1 y6).bind fun r7 => gd [decide (r7.length = y6.length)] ((K.slices_Compact_api_Hop_api_Hop r7).bind fun r8 => gd [decide (r8.1.length = r7.length), decide (r8.2 ≤ r8.1.length)] (gd [decide (r8.2 ≤ r8.1.length)] (some (r8.1.take r8.2)))))
theorem k_fib_Resolve (a0 : TView) (a1 : List TRoute) (a2 : Int) (a3 : Int) : Ref (K.fib_Resolve a0 a1 a2 a3) (M.fib_Resolve a0 a1 a2 a3) := by
  unfold K.fib_Resolve M.fib_Resolve
  repeat' (first | with_reducible exact ref_some | with_reducible exact ref_none | with_reducible exact k_fib_resolve .. | with_reducible exact k_slices_SortFunc_api_Hop_api_Hop__fib_Resolve_1 .. | with_reducible exact k_slices_Compact_api_Hop_api_Hop .. | with_reducible exact k_fib_Resolve_l1 .. | with_reducible refine ref_bind ?_ (fun _ => ?_) | with_reducible refine ref_gd ?_ | with_reducible refine ref_gc ?_ | with_reducible refine ref_cond ?_ ?_ | with_reducible refine ref_elim (fun _ => ?_) (fun _ => ?_) | with_reducible refine ref_loop (fun _ => ?_))
noncomputable def K.fib_Table_l1 (a0 : TView) (a1 : List TRoute) (a2 : Int) (p1 : (List TForward) × Int) : Option (((List TForward) × Int) ⊕ (List TForward)) :=
  bif decide (p1.2 < (a1.length : Int)) then (gd [decide (0 ≤ p1.2), decide (p1.2 < (a1.length : Int))] ((K.fib_Resolve a0 a1 a2 p1.2).bind fun r3 => gd [decide ((p1.1.length + 1) * 48 ≤ 140737488355328)] (some (.inl (p1.1 ++ [(⟨(a1.getD p1.2.toNat default).fPrefix, r3, (a1.getD p1.2.toNat default).fDiscard⟩ : TForward)], wr .i64 (p1.2 + 1)))))) else (some (.inr p1.1))
theorem k_fib_Table_l1 (a0 : TView) (a1 : List TRoute) (a2 : Int) (p1 : (List TForward) × Int) : Ref (K.fib_Table_l1 a0 a1 a2 p1) (M.fib_Table_l1 a0 a1 a2 p1) := by
  unfold K.fib_Table_l1 M.fib_Table_l1
  repeat' (first | with_reducible exact ref_some | with_reducible exact ref_none | with_reducible exact k_fib_Resolve .. | with_reducible refine ref_bind ?_ (fun _ => ?_) | with_reducible refine ref_gd ?_ | with_reducible refine ref_gc ?_ | with_reducible refine ref_cond ?_ ?_ | with_reducible refine ref_elim (fun _ => ?_) (fun _ => ?_) | with_reducible refine ref_loop (fun _ => ?_))
noncomputable def K.fib_Table (a0 : TView) (a1 : List TRoute) (a2 : Int) : Option (List TForward) :=
  (loopN 1000 (K.fib_Table_l1 a0 a1 a2) (([] : List TForward), 0)).bind fun y4 => some y4
theorem k_fib_Table (a0 : TView) (a1 : List TRoute) (a2 : Int) : Ref (K.fib_Table a0 a1 a2) (M.fib_Table a0 a1 a2) := by
  unfold K.fib_Table M.fib_Table
  repeat' (first | with_reducible exact ref_some | with_reducible exact ref_none | with_reducible exact k_fib_Table_l1 .. | with_reducible refine ref_bind ?_ (fun _ => ?_) | with_reducible refine ref_gd ?_ | with_reducible refine ref_gc ?_ | with_reducible refine ref_cond ?_ ?_ | with_reducible refine ref_elim (fun _ => ?_) (fun _ => ?_) | with_reducible refine ref_loop (fun _ => ?_))
noncomputable def K.fib_Lookup_k1 (p1 : Int × Int) (p3 : Int) : Option ((Int × Int) ⊕ Int) :=
  some (.inl (p3, wr .i64 (p1.2 + 1)))
theorem k_fib_Lookup_k1 (p1 : Int × Int) (p3 : Int) : Ref (K.fib_Lookup_k1 p1 p3) (M.fib_Lookup_k1 p1 p3) := by
  unfold K.fib_Lookup_k1 M.fib_Lookup_k1
  repeat' (first | with_reducible exact ref_some | with_reducible exact ref_none | with_reducible refine ref_bind ?_ (fun _ => ?_) | with_reducible refine ref_gd ?_ | with_reducible refine ref_gc ?_ | with_reducible refine ref_cond ?_ ?_ | with_reducible refine ref_elim (fun _ => ?_) (fun _ => ?_) | with_reducible refine ref_loop (fun _ => ?_))
noncomputable def K.fib_Lookup_l1 (a0 : List TForward) (a1 : Int) (p1 : Int × Int) : Option ((Int × Int) ⊕ Int) :=
  bif decide (p1.2 < (a0.length : Int)) then (gd [decide (0 ≤ p1.2), decide (p1.2 < (a0.length : Int))] ((K.addr_Contains ((a0.getD p1.2.toNat default).fPrefix) a1).bind fun r4 => gd [guardB (r4 && !(decide (p1.1 < 0))) (decide (0 ≤ p1.1)), guardB (r4 && !(decide (p1.1 < 0))) (decide (p1.1 < (a0.length : Int)))] (bif r4 && ((decide (p1.1 < 0)) || (decide ((((a0.getD p1.2.toNat default).fPrefix).fLen) > (((a0.getD p1.1.toNat default).fPrefix).fLen)))) then (K.fib_Lookup_k1 p1 p1.2) else (K.fib_Lookup_k1 p1 p1.1)))) else (some (.inr p1.1))
theorem k_fib_Lookup_l1 (a0 : List TForward) (a1 : Int) (p1 : Int × Int) : Ref (K.fib_Lookup_l1 a0 a1 p1) (M.fib_Lookup_l1 a0 a1 p1) := by
  unfold K.fib_Lookup_l1 M.fib_Lookup_l1
  repeat' (first | with_reducible exact ref_some | with_reducible exact ref_none | with_reducible exact k_addr_Contains .. | with_reducible exact k_fib_Lookup_k1 .. | with_reducible refine ref_bind ?_ (fun _ => ?_) | with_reducible refine ref_gd ?_ | with_reducible refine ref_gc ?_ | with_reducible refine ref_cond ?_ ?_ | with_reducible refine ref_elim (fun _ => ?_) (fun _ => ?_) | with_reducible refine ref_loop (fun _ => ?_))
noncomputable def K.fib_Lookup (a0 : List TForward) (a1 : Int) : Option Int :=
  (loopN 1000 (K.fib_Lookup_l1 a0 a1) ((-1), 0)).bind fun y5 => some y5
theorem k_fib_Lookup (a0 : List TForward) (a1 : Int) : Ref (K.fib_Lookup a0 a1) (M.fib_Lookup a0 a1) := by
  unfold K.fib_Lookup M.fib_Lookup
  repeat' (first | with_reducible exact ref_some | with_reducible exact ref_none | with_reducible exact k_fib_Lookup_l1 .. | with_reducible refine ref_bind ?_ (fun _ => ?_) | with_reducible refine ref_gd ?_ | with_reducible refine ref_gc ?_ | with_reducible refine ref_cond ?_ ?_ | with_reducible refine ref_elim (fun _ => ?_) (fun _ => ?_) | with_reducible refine ref_loop (fun _ => ?_))
noncomputable def K.law24_sane  : Option Bool :=
  (K.topo_Make (⟨([(⟨(⟨#[97]⟩ : ByteArray), 0, ([(⟨(⟨#[101, 48]⟩ : ByteArray), 167772161, 24, 0, false, false, 0, 0, false, (⟨#[]⟩ : ByteArray), (⟨#[]⟩ : ByteArray), 0⟩ : TInterface)] : List TInterface), ([] : List TPrefixList), ([] : List TRouteMap), ([] : List TACL), ([] : List TTranslation), ([(⟨(⟨0, 0⟩ : TPrefix), 167772169, (⟨#[]⟩ : ByteArray), false, 1, 0⟩ : TStaticRoute)] : List TStaticRoute), (⟨false, 0, ([] : List TAreaRange), ([] : List TRedist)⟩ : TLinkState), (⟨false, 0, (⟨#[]⟩ : ByteArray), (⟨#[]⟩ : ByteArray), ([] : List TRedist)⟩ : TDistanceVector), (⟨false, 0, 0, ([] : List TNeighbor), ([] : List TPrefix), ([] : List TAggregate), ([] : List TCondition), ([] : List TRedist)⟩ : TPathVector)⟩ : TRouter)] : List TRouter)⟩ : TNetwork) ([] : List Int)).bind fun r1 => bif r1.2 != 0 then (some false) else ((K.fib_Table r1.1 ([(⟨(⟨0, 0⟩ : TPrefix), 2, 0, 1, 0, 0, 0, 0, ([] : List Int), 0, 167772169, ([] : List THop), false⟩ : TRoute), (⟨(⟨167772160, 24⟩ : TPrefix), 1, 0, 0, 0, 0, 0, 0, ([] : List Int), 0, 0, ([(⟨0, 0⟩ : THop)] : List THop), false⟩ : TRoute)] : List TRoute) 0).bind fun r2 => (gc ((((r2.length : Int) == 2) && ((((r2.getD (0 : Int).toNat default).fHops).length : Int) == 1)) && ((((((r2.getD (0 : Int).toNat default).fHops).getD (0 : Int).toNat default).fIface) == 0) && ((((((r2.getD (0 : Int).toNat default).fHops).getD (0 : Int).toNat default).fAddr) == 167772169) && true))) (K.fib_Lookup r2 5)).bind fun r3 => (gc (((((r2.length : Int) == 2) && ((((r2.getD (0 : Int).toNat default).fHops).length : Int) == 1)) && ((((((r2.getD (0 : Int).toNat default).fHops).getD (0 : Int).toNat default).fIface) == 0) && ((((((r2.getD (0 : Int).toNat default).fHops).getD (0 : Int).toNat default).fAddr) == 167772169) && true))) && (r3 == 0)) (K.fib_Lookup r2 167772165)).bind fun r4 => gd [guardB ((r2.length : Int) == 2) (decide (0 ≤ 0)), guardB ((r2.length : Int) == 2) (decide (0 < (r2.length : Int))), guardB (((r2.length : Int) == 2) && ((((r2.getD (0 : Int).toNat default).fHops).length : Int) == 1)) (decide (0 ≤ 0)), guardB (((r2.length : Int) == 2) && ((((r2.getD (0 : Int).toNat default).fHops).length : Int) == 1)) (decide (0 < (r2.length : Int))), guardB (((r2.length : Int) == 2) && ((((r2.getD (0 : Int).toNat default).fHops).length : Int) == 1)) (decide (0 ≤ 0)), guardB (((r2.length : Int) == 2) && ((((r2.getD (0 : Int).toNat default).fHops).length : Int) == 1)) (decide (0 < (((r2.getD (0 : Int).toNat default).fHops).length : Int)))] (some ((((((r2.length : Int) == 2) && ((((r2.getD (0 : Int).toNat default).fHops).length : Int) == 1)) && ((((((r2.getD (0 : Int).toNat default).fHops).getD (0 : Int).toNat default).fIface) == 0) && ((((((r2.getD (0 : Int).toNat default).fHops).getD (0 : Int).toNat default).fAddr) == 167772169) && true))) && (r3 == 0)) && (r4 == 1))))
theorem k_law24_sane  : Ref (K.law24_sane) (M.law24_sane) := by
  unfold K.law24_sane M.law24_sane
  repeat' (first | with_reducible exact ref_some | with_reducible exact ref_none | with_reducible exact k_topo_Make .. | with_reducible exact k_fib_Table .. | with_reducible exact k_fib_Lookup .. | with_reducible refine ref_bind ?_ (fun _ => ?_) | with_reducible refine ref_gd ?_ | with_reducible refine ref_gc ?_ | with_reducible refine ref_cond ?_ ?_ | with_reducible refine ref_elim (fun _ => ?_) (fun _ => ?_) | with_reducible refine ref_loop (fun _ => ?_))
theorem sane_some : M.law24_sane = some true := k_law24_sane _ (by kernel_rfl)
end Nv
