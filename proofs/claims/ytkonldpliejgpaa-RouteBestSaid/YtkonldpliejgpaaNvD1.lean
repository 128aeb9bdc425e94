/- The mirrors: what each function of the given program computes, in plain terms. -/
import Derived.Test.YtkonldpliejgpaaNvLibB
import Derived.Test.YtkonldpliejgpaaNvLibC
set_option maxRecDepth 100000
namespace Nv
open Go
structure TPrefix where
  fAddr : Int
  fLen : Int
  deriving Inhabited
def c_TPrefix (x : TPrefix) : List D := [.int .u32 x.fAddr, .int .i64 x.fLen]
structure THop where
  fIface : Int
  fAddr : Int
  deriving Inhabited
def c_THop (x : THop) : List D := [.int .i64 x.fIface, .int .u32 x.fAddr]
structure TRoute where
  fPrefix : TPrefix
  fProto : Int
  fClass : Int
  fAdmin : Int
  fMetric : Int
  fInner : Int
  fTag : Int
  fPref : Int
  fPath : List Int
  fFrom : Int
  fNext : Int
  fHops : List THop
  fDiscard : Bool
  deriving Inhabited
def c_TRoute (x : TRoute) : List D := [.int .u32 x.fPrefix.fAddr, .int .i64 x.fPrefix.fLen, .int .i64 x.fProto, .int .i64 x.fClass, .int .i64 x.fAdmin, .int .i64 x.fMetric, .int .i64 x.fInner, .int .i64 x.fTag, .int .i64 x.fPref, sL 1 (ci .i64) x.fPath, .int .u32 x.fFrom, .int .u32 x.fNext, sL 2 c_THop x.fHops, .bool x.fDiscard]
structure Arr7Int where
  a0 : Int
  a1 : Int
  a2 : Int
  a3 : Int
  a4 : Int
  a5 : Int
  a6 : Int
  deriving Inhabited
def c_Arr7Int (x : Arr7Int) : List D := [.int .i64 x.a0, .int .i64 x.a1, .int .i64 x.a2, .int .i64 x.a3, .int .i64 x.a4, .int .i64 x.a5, .int .i64 x.a6]

/- netverify/netverifylaw14.few -/
noncomputable def M.law14_few_l1 (a0 : List TRoute) (p1 : Int) : Option (Int ⊕ (Unit ⊕ Bool)) :=
  bif decide (p1 < (a0.length : Int)) then (gd [decide (0 ≤ p1), decide (p1 < (a0.length : Int)), guardB (!(decide ((((a0.getD p1.toNat default).fPath).length : Int) > 68))) (decide (0 ≤ p1)), guardB (!(decide ((((a0.getD p1.toNat default).fPath).length : Int) > 68))) (decide (p1 < (a0.length : Int)))] (bif (decide ((((a0.getD p1.toNat default).fPath).length : Int) > 68)) || (decide ((((a0.getD p1.toNat default).fHops).length : Int) > 20)) then (some (.inr (.inr false))) else (some (.inl (wr .i64 (p1 + 1)))))) else (some (.inr (.inl ())))
noncomputable def M.law14_few (a0 : List TRoute) : Option Bool :=
  bif decide ((a0.length : Int) > 40) then (some false) else ((loopM (M.law14_few_l1 a0) 0).bind fun y3 => Sum.elim (fun _ => some true) (fun y5 => some y5) y3)

/- netverify/netverifyref4.Mask -/
noncomputable def M.ref4_Mask_k1 (p1 : Int × Int) (p3 : Int) : Option ((Int × Int) ⊕ Int) :=
  some (.inl (p3, wr .i64 (p1.2 + 1)))
noncomputable def M.ref4_Mask_l1 (a0 : Int) (p1 : Int × Int) : Option ((Int × Int) ⊕ Int) :=
  bif decide (p1.2 < 32) then (bif decide (p1.2 < a0) then (gd [decide (0 ≤ (wr .u64 (wr .i64 (31 - p1.2))))] (M.ref4_Mask_k1 p1 (bitD .or .u32 p1.1 (wr .u32 (1 * 2 ^ min (wr .u64 (wr .i64 (31 - p1.2))).toNat 32))))) else (M.ref4_Mask_k1 p1 p1.1)) else (some (.inr p1.1))
noncomputable def M.ref4_Mask (a0 : Int) : Option Int :=
  (loopM (M.ref4_Mask_l1 a0) (0, 0)).bind fun y4 => some y4

/- netverify/netverifyref4.Valid -/
noncomputable def M.ref4_Valid (a0 : TPrefix) : Option Bool :=
  (gc ((decide (a0.fLen ≥ 0)) && (decide (a0.fLen ≤ 32))) (M.ref4_Mask a0.fLen)).bind fun r1 => some (((decide (a0.fLen ≥ 0)) && (decide (a0.fLen ≤ 32))) && ((bitD .andNot .u32 a0.fAddr r1) == 0))

/- netverify/netverifyref15.within -/
noncomputable def M.ref15_within (a0 : Int) (a1 : Int) (a2 : Int) : Option Bool :=
  some ((decide (a1 ≤ a0)) && (decide (a0 ≤ a2)))

/- netverify/netverifyref15.plain -/
noncomputable def M.ref15_plain (a0 : TRoute) (a1 : Bool) (a2 : Bool) (a3 : Bool) : Option Bool :=
  some (((a1 || (a0.fInner == 0)) && (a2 || (((a0.fPref == 0) && ((a0.fPath.length : Int) == 0)) && (a0.fFrom == 0)))) && (a3 || (a0.fNext == 0)))

/- netverify/netverifyref15.lessHop -/
noncomputable def M.ref15_lessHop (a0 : THop) (a1 : THop) : Option Bool :=
  some ((decide (a0.fIface < a1.fIface)) || ((a0.fIface == a1.fIface) && (decide (a0.fAddr < a1.fAddr))))

/- netverify/netverifyref15.hops -/
noncomputable def M.ref15_hops_l1 (a0 : List THop) (a1 : Bool) (p1 : Int) : Option (Int ⊕ (Unit ⊕ Bool)) :=
  bif decide (p1 < (a0.length : Int)) then ((gc ((!(decide (((a0.getD p1.toNat default).fIface) < 0))) && (decide (p1 > 0))) (M.ref15_lessHop (a0.getD (wr .i64 (p1 - 1)).toNat default) (a0.getD p1.toNat default))).bind fun r3 => gd [decide (0 ≤ p1), decide (p1 < (a0.length : Int)), guardB ((!(decide (((a0.getD p1.toNat default).fIface) < 0))) && (decide (p1 > 0))) (decide (0 ≤ (wr .i64 (p1 - 1)))), guardB ((!(decide (((a0.getD p1.toNat default).fIface) < 0))) && (decide (p1 > 0))) (decide ((wr .i64 (p1 - 1)) < (a0.length : Int))), guardB ((!(decide (((a0.getD p1.toNat default).fIface) < 0))) && (decide (p1 > 0))) (decide (0 ≤ p1)), guardB ((!(decide (((a0.getD p1.toNat default).fIface) < 0))) && (decide (p1 > 0))) (decide (p1 < (a0.length : Int))), guardB (!((decide (((a0.getD p1.toNat default).fIface) < 0)) || ((decide (p1 > 0)) && (!r3)))) (decide (0 ≤ p1)), guardB (!((decide (((a0.getD p1.toNat default).fIface) < 0)) || ((decide (p1 > 0)) && (!r3)))) (decide (p1 < (a0.length : Int)))] (bif ((decide (((a0.getD p1.toNat default).fIface) < 0)) || ((decide (p1 > 0)) && (!r3))) || (!((((a0.getD p1.toNat default).fAddr) == 0) == a1)) then (some (.inr (.inr false))) else (some (.inl (wr .i64 (p1 + 1)))))) else (some (.inr (.inl ())))
noncomputable def M.ref15_hops (a0 : List THop) (a1 : Bool) : Option Bool :=
  (loopM (M.ref15_hops_l1 a0 a1) 0).bind fun y4 => Sum.elim (fun _ => some true) (fun y6 => some y6) y4

/- netverify/netverifyref15.validStatic -/
noncomputable def M.ref15_validStatic (a0 : TRoute) : Option Bool :=
  (gc (!((a0.fClass != 0) || (a0.fMetric != 0))) (M.ref15_within a0.fAdmin 1 255)).bind fun r1 => (gc (!(((a0.fClass != 0) || (a0.fMetric != 0)) || (!r1))) (M.ref15_plain a0 false false true)).bind fun r2 => bif (((a0.fClass != 0) || (a0.fMetric != 0)) || (!r1)) || (!r2) then (some false) else (bif a0.fNext != 0 then (some (((a0.fHops.length : Int) == 0) && (!a0.fDiscard))) else (bif a0.fDiscard then (some ((a0.fHops.length : Int) == 0)) else ((gc ((a0.fHops.length : Int) == 1) (M.ref15_hops a0.fHops true)).bind fun r3 => some (((a0.fHops.length : Int) == 1) && r3))))

/- netverify/netverifyref15.validLinkState -/
noncomputable def M.ref15_validLinkState (a0 : TRoute) : Option Bool :=
  (M.ref15_within a0.fClass 1 4).bind fun r1 => (gc (!(!r1)) (M.ref15_within a0.fAdmin 1 255)).bind fun r2 => (gc (!((!r1) || (!r2))) (M.ref15_within a0.fMetric 0 1073741824)).bind fun r3 => (gc (!(((!r1) || (!r2)) || (!r3))) (M.ref15_plain a0 true false false)).bind fun r4 => bif (((!r1) || (!r2)) || (!r3)) || (!r4) then (some false) else ((M.ref15_within a0.fInner 0 1073741824).bind fun r5 => bif (!r5) || ((a0.fClass != 4) && (a0.fInner != 0)) then (some false) else (bif a0.fDiscard then (some ((((a0.fClass == 1) && (a0.fMetric == 0)) && (a0.fTag == 0)) && ((a0.fHops.length : Int) == 0))) else ((gc (decide ((a0.fHops.length : Int) > 0)) (M.ref15_hops a0.fHops false)).bind fun r6 => some ((decide ((a0.fHops.length : Int) > 0)) && r6))))

/- netverify/netverifyref15.validDistance -/
noncomputable def M.ref15_validDistance (a0 : TRoute) : Option Bool :=
  (M.ref15_within a0.fAdmin 1 255).bind fun r1 => (gc (!(!r1)) (M.ref15_within a0.fMetric 1 15)).bind fun r2 => (gc (!((!r1) || (!r2))) (M.ref15_plain a0 false false false)).bind fun r3 => bif (((!r1) || (!r2)) || (!r3)) || a0.fDiscard then (some false) else (bif a0.fClass == 1 then ((gc (((a0.fMetric == 1) && (a0.fTag == 0)) && ((a0.fHops.length : Int) == 1)) (M.ref15_hops a0.fHops true)).bind fun r4 => some ((((a0.fMetric == 1) && (a0.fTag == 0)) && ((a0.fHops.length : Int) == 1)) && r4)) else (bif a0.fClass == 2 then (some ((a0.fHops.length : Int) == 0)) else (bif a0.fClass == 3 then ((gc (decide ((a0.fHops.length : Int) > 0)) (M.ref15_hops a0.fHops false)).bind fun r5 => some ((decide ((a0.fHops.length : Int) > 0)) && r5)) else (some false))))

/- netverify/netverifyref15.validPath -/
noncomputable def M.ref15_validPath_k2 (a0 : TRoute) (p6 : Bool) : Option Bool :=
  bif p6 then ((gc ((((a0.fClass == 4) || (decide ((a0.fPath.length : Int) > 0))) && (a0.fFrom != 0)) && ((a0.fHops.length : Int) == 1)) (M.ref15_hops a0.fHops false)).bind fun r7 => gd [guardB (((((a0.fClass == 4) || (decide ((a0.fPath.length : Int) > 0))) && (a0.fFrom != 0)) && ((a0.fHops.length : Int) == 1)) && r7) (decide (0 ≤ 0)), guardB (((((a0.fClass == 4) || (decide ((a0.fPath.length : Int) > 0))) && (a0.fFrom != 0)) && ((a0.fHops.length : Int) == 1)) && r7) (decide (0 < (a0.fHops.length : Int)))] (some (((((((a0.fClass == 4) || (decide ((a0.fPath.length : Int) > 0))) && (a0.fFrom != 0)) && ((a0.fHops.length : Int) == 1)) && r7) && (((a0.fHops.getD (0 : Int).toNat default).fAddr) == a0.fFrom)) && (!a0.fDiscard)))) else (some false)
noncomputable def M.ref15_validPath_k1 (a0 : TRoute) (p5 : Bool) : Option Bool :=
  bif p5 then (some (((((a0.fPath.length : Int) == 0) && (a0.fFrom == 0)) && ((a0.fHops.length : Int) == 0)) && (a0.fDiscard == (a0.fClass == 2)))) else (bif a0.fClass == 3 then (M.ref15_validPath_k2 a0 (a0.fClass == 3)) else (M.ref15_validPath_k2 a0 (a0.fClass == 4)))
noncomputable def M.ref15_validPath (a0 : TRoute) : Option Bool :=
  (M.ref15_within a0.fAdmin 1 255).bind fun r1 => (gc (!(!r1)) (M.ref15_within a0.fMetric 0 16777215)).bind fun r2 => (gc (!((!r1) || (!r2))) (M.ref15_within a0.fPref 0 1000000)).bind fun r3 => (gc (!(((!r1) || (!r2)) || (!r3))) (M.ref15_plain a0 false true false)).bind fun r4 => bif (((!r1) || (!r2)) || (!r3)) || (!r4) then (some false) else (bif a0.fClass == 1 then (M.ref15_validPath_k1 a0 (a0.fClass == 1)) else (M.ref15_validPath_k1 a0 (a0.fClass == 2)))

/- netverify/netverifyref15.Valid -/
noncomputable def M.ref15_Valid_l1 (a0 : TRoute) (p3 : Int) : Option (Int ⊕ (Unit ⊕ Bool)) :=
  bif decide (p3 < (a0.fPath.length : Int)) then ((M.ref15_within (a0.fPath.getD p3.toNat default) 1 65535).bind fun r5 => gd [decide (0 ≤ p3), decide (p3 < (a0.fPath.length : Int))] (bif !r5 then (some (.inr (.inr false))) else (some (.inl (wr .i64 (p3 + 1)))))) else (some (.inr (.inl ())))
noncomputable def M.ref15_Valid (a0 : TRoute) : Option Bool :=
  (M.ref4_Valid a0.fPrefix).bind fun r1 => (gc (!(!r1)) (M.ref15_within a0.fTag 0 65535)).bind fun r2 => bif ((!r1) || (!r2)) || (decide ((a0.fPath.length : Int) > 64)) then (some false) else ((loopM (M.ref15_Valid_l1 a0) 0).bind fun y6 => Sum.elim (fun _ => bif a0.fProto == 1 then ((gc ((((a0.fClass == 0) && (a0.fAdmin == 0)) && (a0.fMetric == 0)) && (a0.fTag == 0)) (M.ref15_plain a0 false false false)).bind fun r9 => (gc (((((((a0.fClass == 0) && (a0.fAdmin == 0)) && (a0.fMetric == 0)) && (a0.fTag == 0)) && r9) && (!a0.fDiscard)) && ((a0.fHops.length : Int) == 1)) (M.ref15_hops a0.fHops true)).bind fun r10 => some ((((((((a0.fClass == 0) && (a0.fAdmin == 0)) && (a0.fMetric == 0)) && (a0.fTag == 0)) && r9) && (!a0.fDiscard)) && ((a0.fHops.length : Int) == 1)) && r10)) else (bif a0.fProto == 2 then ((M.ref15_validStatic a0).bind fun r11 => some r11) else (bif a0.fProto == 3 then ((M.ref15_validLinkState a0).bind fun r12 => some r12) else (bif a0.fProto == 4 then ((M.ref15_validDistance a0).bind fun r13 => some r13) else (bif a0.fProto == 5 then ((M.ref15_validPath a0).bind fun r14 => some r14) else (some false)))))) (fun y8 => some y8) y6)

/- netverify/netverifylaw14.One -/
noncomputable def M.law14_One_l1 (a0 : List TRoute) (p2 : Int) : Option (Int ⊕ (Unit ⊕ Bool)) :=
  bif decide (p2 < (a0.length : Int)) then ((M.ref15_Valid (a0.getD p2.toNat default)).bind fun r4 => gd [decide (0 ≤ p2), decide (p2 < (a0.length : Int)), guardB (!(!r4)) (decide (0 ≤ p2)), guardB (!(!r4)) (decide (p2 < (a0.length : Int))), guardB (!(!r4)) (decide (0 ≤ 0)), guardB (!(!r4)) (decide (0 < (a0.length : Int)))] (bif (!r4) || (((a0.getD p2.toNat default).fProto) != ((a0.getD (0 : Int).toNat default).fProto)) then (some (.inr (.inr false))) else (some (.inl (wr .i64 (p2 + 1)))))) else (some (.inr (.inl ())))
noncomputable def M.law14_One (a0 : List TRoute) : Option Bool :=
  (M.law14_few a0).bind fun r1 => bif !r1 then (some false) else ((loopM (M.law14_One_l1 a0) 0).bind fun y5 => Sum.elim (fun _ => some true) (fun y7 => some y7) y5)

/- slices.Clone[[]netverify/api.Route,netverify/api.Route] -/
noncomputable def M.slices_Clone_api_Route_api_Route (a0 : List TRoute) : Option (List TRoute) :=
  gd [decide (0 = 0) || decide (0 < a0.length), decide ((0 + a0.length) * 136 ≤ 140737488355328)] (some a0)

/- cmp.isNaN[uint32] -/
noncomputable def M.cmp_isNaN_uint32 (a0 : Int) : Option Bool :=
  some (a0 != a0)

/- cmp.Compare[uint32] -/
noncomputable def M.cmp_Compare_uint32 (a0 : Int) (a1 : Int) : Option Int :=
  (M.cmp_isNaN_uint32 a0).bind fun r1 => (M.cmp_isNaN_uint32 a1).bind fun r2 => bif r1 then (bif r2 then (some 0) else (some (-1))) else (bif r2 then (some 1) else (bif decide (a0 < a1) then (some (-1)) else (bif decide (a0 > a1) then (some 1) else (some 0))))

/- cmp.isNaN[int] -/
noncomputable def M.cmp_isNaN_int (a0 : Int) : Option Bool :=
  some (a0 != a0)

/- cmp.Compare[int] -/
noncomputable def M.cmp_Compare_int (a0 : Int) (a1 : Int) : Option Int :=
  (M.cmp_isNaN_int a0).bind fun r1 => (M.cmp_isNaN_int a1).bind fun r2 => bif r1 then (bif r2 then (some 0) else (some (-1))) else (bif r2 then (some 1) else (bif decide (a0 < a1) then (some (-1)) else (bif decide (a0 > a1) then (some 1) else (some 0))))

/- netverify/addr.Compare -/
noncomputable def M.addr_Compare (a0 : TPrefix) (a1 : TPrefix) : Option Int :=
  (M.cmp_Compare_uint32 a0.fAddr a1.fAddr).bind fun r1 => bif r1 != 0 then (some r1) else ((M.cmp_Compare_int a0.fLen a1.fLen).bind fun r2 => some r2)

/- netverify/route.Merge$1 -/
noncomputable def M.route_Merge_1 (a0 : TRoute) (a1 : TRoute) : Option Int :=
  (M.addr_Compare a0.fPrefix a1.fPrefix).bind fun r1 => some r1

/- slices.insertionSortCmpFunc[netverify/api.Route] -/
noncomputable def M.slices_insertionSortCmpFunc_api_Route__route_Merge_1_l2 (a1 : Int) (p3 : (List TRoute) × Int) : Option (((List TRoute) × Int) ⊕ (List TRoute)) :=
  (gc (decide (p3.2 > a1)) (M.route_Merge_1 (p3.1.getD (0 + p3.2.toNat) default) (p3.1.getD (0 + (wr .i64 (p3.2 - 1)).toNat) default))).bind fun r5 => gd [guardB (decide (p3.2 > a1)) (decide (0 ≤ p3.2)), guardB (decide (p3.2 > a1)) (decide (p3.2 < (p3.1.length : Int))), guardB (decide (p3.2 > a1)) (decide (0 ≤ (wr .i64 (p3.2 - 1)))), guardB (decide (p3.2 > a1)) (decide ((wr .i64 (p3.2 - 1)) < (p3.1.length : Int)))] (bif (decide (p3.2 > a1)) && (decide (r5 < 0)) then (gd [decide (0 ≤ (wr .i64 (p3.2 - 1))), decide ((wr .i64 (p3.2 - 1)) < (p3.1.length : Int)), decide (0 ≤ p3.2), decide (p3.2 < (p3.1.length : Int)), decide (0 ≤ p3.2), decide (p3.2 < (p3.1.length : Int)), decide (0 ≤ (wr .i64 (p3.2 - 1))), decide ((wr .i64 (p3.2 - 1)) < (p3.1.length : Int))] (some (.inl ((p3.1.set (0 + p3.2.toNat) (p3.1.getD (0 + (wr .i64 (p3.2 - 1)).toNat) default)).set (0 + (wr .i64 (p3.2 - 1)).toNat) (p3.1.getD (0 + p3.2.toNat) default), wr .i64 (p3.2 - 1))))) else (some (.inr p3.1)))
noncomputable def M.slices_insertionSortCmpFunc_api_Route__route_Merge_1_l1 (a1 : Int) (a2 : Int) (p1 : (List TRoute) × Int) : Option (((List TRoute) × Int) ⊕ (List TRoute)) :=
  bif decide (p1.2 < a2) then ((loopM (M.slices_insertionSortCmpFunc_api_Route__route_Merge_1_l2 a1) (p1.1, p1.2)).bind fun y6 => some (.inl (y6, wr .i64 (p1.2 + 1)))) else (some (.inr p1.1))
noncomputable def M.slices_insertionSortCmpFunc_api_Route__route_Merge_1 (a0 : List TRoute) (a1 : Int) (a2 : Int) : Option (List TRoute) :=
  (loopM (M.slices_insertionSortCmpFunc_api_Route__route_Merge_1_l1 a1 a2) (a0, wr .i64 (a1 + 1))).bind fun y7 => gd [decide (y7.length = a0.length)] (some y7)

/- slices.swapRangeCmpFunc[netverify/api.Route] -/
noncomputable def M.slices_swapRangeCmpFunc_api_Route__route_Merge_1_l1 (a1 : Int) (a2 : Int) (a3 : Int) (p1 : (List TRoute) × Int) : Option (((List TRoute) × Int) ⊕ (List TRoute)) :=
  bif decide (p1.2 < a3) then (gd [decide (0 ≤ (wr .i64 (a2 + p1.2))), decide ((wr .i64 (a2 + p1.2)) < (p1.1.length : Int)), decide (0 ≤ (wr .i64 (a1 + p1.2))), decide ((wr .i64 (a1 + p1.2)) < (p1.1.length : Int)), decide (0 ≤ (wr .i64 (a1 + p1.2))), decide ((wr .i64 (a1 + p1.2)) < (p1.1.length : Int)), decide (0 ≤ (wr .i64 (a2 + p1.2))), decide ((wr .i64 (a2 + p1.2)) < (p1.1.length : Int))] (some (.inl ((p1.1.set (0 + (wr .i64 (a1 + p1.2)).toNat) (p1.1.getD (0 + (wr .i64 (a2 + p1.2)).toNat) default)).set (0 + (wr .i64 (a2 + p1.2)).toNat) (p1.1.getD (0 + (wr .i64 (a1 + p1.2)).toNat) default), wr .i64 (p1.2 + 1))))) else (some (.inr p1.1))
noncomputable def M.slices_swapRangeCmpFunc_api_Route__route_Merge_1 (a0 : List TRoute) (a1 : Int) (a2 : Int) (a3 : Int) : Option (List TRoute) :=
  (loopM (M.slices_swapRangeCmpFunc_api_Route__route_Merge_1_l1 a1 a2 a3) (a0, 0)).bind fun y3 => gd [decide (y3.length = a0.length)] (some y3)

/- slices.rotateCmpFunc[netverify/api.Route] -/
noncomputable def M.slices_rotateCmpFunc_api_Route__route_Merge_1_l1 (a2 : Int) (p1 : (List TRoute) × Int × Int) : Option (((List TRoute) × Int × Int) ⊕ (Int × (List TRoute))) :=
  bif p1.2.1 != p1.2.2 then (bif decide (p1.2.1 > p1.2.2) then ((M.slices_swapRangeCmpFunc_api_Route__route_Merge_1 p1.1 (wr .i64 (a2 - p1.2.1)) a2 p1.2.2).bind fun r3 => gd [decide (r3.length = p1.1.length)] (some (.inl (r3, wr .i64 (p1.2.1 - p1.2.2), p1.2.2)))) else ((M.slices_swapRangeCmpFunc_api_Route__route_Merge_1 p1.1 (wr .i64 (a2 - p1.2.1)) (wr .i64 ((wr .i64 (a2 + p1.2.2)) - p1.2.1)) p1.2.1).bind fun r4 => gd [decide (r4.length = p1.1.length)] (some (.inl (r4, p1.2.1, wr .i64 (p1.2.2 - p1.2.1)))))) else (some (.inr (p1.2.1, p1.1)))
noncomputable def M.slices_rotateCmpFunc_api_Route__route_Merge_1 (a0 : List TRoute) (a1 : Int) (a2 : Int) (a3 : Int) : Option (List TRoute) :=
  (loopM (M.slices_rotateCmpFunc_api_Route__route_Merge_1_l1 a2) (a0, wr .i64 (a2 - a1), wr .i64 (a3 - a2))).bind fun y5 => (M.slices_swapRangeCmpFunc_api_Route__route_Merge_1 y5.2 (wr .i64 (a2 - y5.1)) a2 y5.1).bind fun r6 => gd [decide (r6.length = y5.2.length)] (gd [decide (r6.length = a0.length)] (some r6))

/- slices.symMergeCmpFunc[netverify/api.Route] -/
noncomputable def M.slices_symMergeCmpFunc_api_Route__route_Merge_1_l1 (a0 : List TRoute) (a1 : Int) (p1 : Int × Int) : Option ((Int × Int) ⊕ Int) :=
  bif decide (p1.1 < p1.2) then (gd [decide (0 ≤ 1)] ((M.route_Merge_1 (a0.getD (0 + (wr .i64 ((wr .u64 (wr .i64 (p1.1 + p1.2))).fdiv (2 ^ min (1 : Int).toNat 64))).toNat) default) (a0.getD (0 + a1.toNat) default)).bind fun r3 => gd [decide (0 ≤ (wr .i64 ((wr .u64 (wr .i64 (p1.1 + p1.2))).fdiv (2 ^ min (1 : Int).toNat 64)))), decide ((wr .i64 ((wr .u64 (wr .i64 (p1.1 + p1.2))).fdiv (2 ^ min (1 : Int).toNat 64))) < (a0.length : Int)), decide (0 ≤ a1), decide (a1 < (a0.length : Int))] (bif decide (r3 < 0) then (some (.inl (wr .i64 ((wr .i64 ((wr .u64 (wr .i64 (p1.1 + p1.2))).fdiv (2 ^ min (1 : Int).toNat 64))) + 1), p1.2))) else (some (.inl (p1.1, wr .i64 ((wr .u64 (wr .i64 (p1.1 + p1.2))).fdiv (2 ^ min (1 : Int).toNat 64)))))))) else (some (.inr p1.1))
noncomputable def M.slices_symMergeCmpFunc_api_Route__route_Merge_1_l2 (y4 : Int) (p5 : (List TRoute) × Int) : Option (((List TRoute) × Int) ⊕ (List TRoute)) :=
  bif decide (p5.2 < (wr .i64 (y4 - 1))) then (gd [decide (0 ≤ (wr .i64 (p5.2 + 1))), decide ((wr .i64 (p5.2 + 1)) < (p5.1.length : Int)), decide (0 ≤ p5.2), decide (p5.2 < (p5.1.length : Int)), decide (0 ≤ p5.2), decide (p5.2 < (p5.1.length : Int)), decide (0 ≤ (wr .i64 (p5.2 + 1))), decide ((wr .i64 (p5.2 + 1)) < (p5.1.length : Int))] (some (.inl ((p5.1.set (0 + p5.2.toNat) (p5.1.getD (0 + (wr .i64 (p5.2 + 1)).toNat) default)).set (0 + (wr .i64 (p5.2 + 1)).toNat) (p5.1.getD (0 + p5.2.toNat) default), wr .i64 (p5.2 + 1))))) else (some (.inr p5.1))
noncomputable def M.slices_symMergeCmpFunc_api_Route__route_Merge_1_l3 (a0 : List TRoute) (a2 : Int) (p8 : Int × Int) : Option ((Int × Int) ⊕ Int) :=
  bif decide (p8.1 < p8.2) then (gd [decide (0 ≤ 1)] ((M.route_Merge_1 (a0.getD (0 + a2.toNat) default) (a0.getD (0 + (wr .i64 ((wr .u64 (wr .i64 (p8.1 + p8.2))).fdiv (2 ^ min (1 : Int).toNat 64))).toNat) default)).bind fun r10 => gd [decide (0 ≤ a2), decide (a2 < (a0.length : Int)), decide (0 ≤ (wr .i64 ((wr .u64 (wr .i64 (p8.1 + p8.2))).fdiv (2 ^ min (1 : Int).toNat 64)))), decide ((wr .i64 ((wr .u64 (wr .i64 (p8.1 + p8.2))).fdiv (2 ^ min (1 : Int).toNat 64))) < (a0.length : Int))] (bif !(decide (r10 < 0)) then (some (.inl (wr .i64 ((wr .i64 ((wr .u64 (wr .i64 (p8.1 + p8.2))).fdiv (2 ^ min (1 : Int).toNat 64))) + 1), p8.2))) else (some (.inl (p8.1, wr .i64 ((wr .u64 (wr .i64 (p8.1 + p8.2))).fdiv (2 ^ min (1 : Int).toNat 64)))))))) else (some (.inr p8.1))
noncomputable def M.slices_symMergeCmpFunc_api_Route__route_Merge_1_l4 (y11 : Int) (p12 : (List TRoute) × Int) : Option (((List TRoute) × Int) ⊕ (List TRoute)) :=
  bif decide (p12.2 > y11) then (gd [decide (0 ≤ (wr .i64 (p12.2 - 1))), decide ((wr .i64 (p12.2 - 1)) < (p12.1.length : Int)), decide (0 ≤ p12.2), decide (p12.2 < (p12.1.length : Int)), decide (0 ≤ p12.2), decide (p12.2 < (p12.1.length : Int)), decide (0 ≤ (wr .i64 (p12.2 - 1))), decide ((wr .i64 (p12.2 - 1)) < (p12.1.length : Int))] (some (.inl ((p12.1.set (0 + p12.2.toNat) (p12.1.getD (0 + (wr .i64 (p12.2 - 1)).toNat) default)).set (0 + (wr .i64 (p12.2 - 1)).toNat) (p12.1.getD (0 + p12.2.toNat) default), wr .i64 (p12.2 - 1))))) else (some (.inr p12.1))
noncomputable def M.slices_symMergeCmpFunc_api_Route__route_Merge_1_l5 (a0 : List TRoute) (a1 : Int) (a2 : Int) (a3 : Int) (p16 : Int × Int) : Option ((Int × Int) ⊕ Int) :=
  bif decide (p16.1 < p16.2) then (gd [decide (0 ≤ 1)] ((M.route_Merge_1 (a0.getD (0 + (wr .i64 ((wr .i64 ((wr .i64 ((wr .i64 ((wr .u64 (wr .i64 (a1 + a3))).fdiv (2 ^ min (1 : Int).toNat 64))) + a2)) - 1)) - (wr .i64 ((wr .u64 (wr .i64 (p16.1 + p16.2))).fdiv (2 ^ min (1 : Int).toNat 64))))).toNat) default) (a0.getD (0 + (wr .i64 ((wr .u64 (wr .i64 (p16.1 + p16.2))).fdiv (2 ^ min (1 : Int).toNat 64))).toNat) default)).bind fun r18 => gd [decide (0 ≤ (wr .i64 ((wr .i64 ((wr .i64 ((wr .i64 ((wr .u64 (wr .i64 (a1 + a3))).fdiv (2 ^ min (1 : Int).toNat 64))) + a2)) - 1)) - (wr .i64 ((wr .u64 (wr .i64 (p16.1 + p16.2))).fdiv (2 ^ min (1 : Int).toNat 64)))))), decide ((wr .i64 ((wr .i64 ((wr .i64 ((wr .i64 ((wr .u64 (wr .i64 (a1 + a3))).fdiv (2 ^ min (1 : Int).toNat 64))) + a2)) - 1)) - (wr .i64 ((wr .u64 (wr .i64 (p16.1 + p16.2))).fdiv (2 ^ min (1 : Int).toNat 64))))) < (a0.length : Int)), decide (0 ≤ (wr .i64 ((wr .u64 (wr .i64 (p16.1 + p16.2))).fdiv (2 ^ min (1 : Int).toNat 64)))), decide ((wr .i64 ((wr .u64 (wr .i64 (p16.1 + p16.2))).fdiv (2 ^ min (1 : Int).toNat 64))) < (a0.length : Int))] (bif !(decide (r18 < 0)) then (some (.inl (wr .i64 ((wr .i64 ((wr .u64 (wr .i64 (p16.1 + p16.2))).fdiv (2 ^ min (1 : Int).toNat 64))) + 1), p16.2))) else (some (.inl (p16.1, wr .i64 ((wr .u64 (wr .i64 (p16.1 + p16.2))).fdiv (2 ^ min (1 : Int).toNat 64)))))))) else (some (.inr p16.1))
noncomputable def M.slices_symMergeCmpFunc_api_Route__route_Merge_1_k3 (self : (List TRoute) → Int → Int → Int → Option (List TRoute)) (a0 : List TRoute) (a1 : Int) (a2 : Int) (a3 : Int) (y19 : Int) (p21 : (List TRoute)) : Option (List TRoute) :=
  bif (decide ((wr .i64 ((wr .u64 (wr .i64 (a1 + a3))).fdiv (2 ^ min (1 : Int).toNat 64))) < (wr .i64 ((wr .i64 ((wr .i64 ((wr .u64 (wr .i64 (a1 + a3))).fdiv (2 ^ min (1 : Int).toNat 64))) + a2)) - y19)))) && (decide ((wr .i64 ((wr .i64 ((wr .i64 ((wr .u64 (wr .i64 (a1 + a3))).fdiv (2 ^ min (1 : Int).toNat 64))) + a2)) - y19)) < a3)) then ((self p21 (wr .i64 ((wr .u64 (wr .i64 (a1 + a3))).fdiv (2 ^ min (1 : Int).toNat 64))) (wr .i64 ((wr .i64 ((wr .i64 ((wr .u64 (wr .i64 (a1 + a3))).fdiv (2 ^ min (1 : Int).toNat 64))) + a2)) - y19)) a3).bind fun r22 => gd [decide (r22.length = p21.length)] (gd [decide (r22.length = a0.length)] (some r22))) else (gd [decide (p21.length = a0.length)] (some p21))
noncomputable def M.slices_symMergeCmpFunc_api_Route__route_Merge_1_k2 (self : (List TRoute) → Int → Int → Int → Option (List TRoute)) (a0 : List TRoute) (a1 : Int) (a2 : Int) (a3 : Int) (y19 : Int) (p20 : (List TRoute)) : Option (List TRoute) :=
  bif (decide (a1 < y19)) && (decide (y19 < (wr .i64 ((wr .u64 (wr .i64 (a1 + a3))).fdiv (2 ^ min (1 : Int).toNat 64))))) then ((self p20 a1 y19 (wr .i64 ((wr .u64 (wr .i64 (a1 + a3))).fdiv (2 ^ min (1 : Int).toNat 64)))).bind fun r23 => gd [decide (r23.length = p20.length)] (M.slices_symMergeCmpFunc_api_Route__route_Merge_1_k3 self a0 a1 a2 a3 y19 r23)) else (M.slices_symMergeCmpFunc_api_Route__route_Merge_1_k3 self a0 a1 a2 a3 y19 p20)
noncomputable def M.slices_symMergeCmpFunc_api_Route__route_Merge_1_k1 (self : (List TRoute) → Int → Int → Int → Option (List TRoute)) (a0 : List TRoute) (a1 : Int) (a2 : Int) (a3 : Int) (p15 : Int × Int) : Option (List TRoute) :=
  (loopM (M.slices_symMergeCmpFunc_api_Route__route_Merge_1_l5 a0 a1 a2 a3) (p15.1, p15.2)).bind fun y19 => bif (decide (y19 < a2)) && (decide (a2 < (wr .i64 ((wr .i64 ((wr .i64 ((wr .u64 (wr .i64 (a1 + a3))).fdiv (2 ^ min (1 : Int).toNat 64))) + a2)) - y19)))) then ((M.slices_rotateCmpFunc_api_Route__route_Merge_1 a0 y19 a2 (wr .i64 ((wr .i64 ((wr .i64 ((wr .u64 (wr .i64 (a1 + a3))).fdiv (2 ^ min (1 : Int).toNat 64))) + a2)) - y19))).bind fun r24 => gd [decide (r24.length = a0.length)] (M.slices_symMergeCmpFunc_api_Route__route_Merge_1_k2 self a0 a1 a2 a3 y19 r24)) else (M.slices_symMergeCmpFunc_api_Route__route_Merge_1_k2 self a0 a1 a2 a3 y19 a0)
noncomputable def M.slices_symMergeCmpFunc_api_Route__route_Merge_1_b (self : (List TRoute) → Int → Int → Int → Option (List TRoute)) (a0 : List TRoute) (a1 : Int) (a2 : Int) (a3 : Int) : Option (List TRoute) :=
  bif (wr .i64 (a2 - a1)) == 1 then ((loopM (M.slices_symMergeCmpFunc_api_Route__route_Merge_1_l1 a0 a1) (a2, a3)).bind fun y4 => (loopM (M.slices_symMergeCmpFunc_api_Route__route_Merge_1_l2 y4) (a0, a1)).bind fun y7 => gd [decide (y7.length = a0.length)] (some y7)) else (bif (wr .i64 (a3 - a2)) == 1 then ((loopM (M.slices_symMergeCmpFunc_api_Route__route_Merge_1_l3 a0 a2) (a1, a2)).bind fun y11 => (loopM (M.slices_symMergeCmpFunc_api_Route__route_Merge_1_l4 y11) (a0, a2)).bind fun y14 => gd [decide (y14.length = a0.length)] (some y14)) else (gd [decide (0 ≤ 1)] (bif decide (a2 > (wr .i64 ((wr .u64 (wr .i64 (a1 + a3))).fdiv (2 ^ min (1 : Int).toNat 64)))) then (M.slices_symMergeCmpFunc_api_Route__route_Merge_1_k1 self a0 a1 a2 a3 (wr .i64 ((wr .i64 ((wr .i64 ((wr .u64 (wr .i64 (a1 + a3))).fdiv (2 ^ min (1 : Int).toNat 64))) + a2)) - a3), wr .i64 ((wr .u64 (wr .i64 (a1 + a3))).fdiv (2 ^ min (1 : Int).toNat 64)))) else (M.slices_symMergeCmpFunc_api_Route__route_Merge_1_k1 self a0 a1 a2 a3 (a1, a2)))))
noncomputable def M.slices_symMergeCmpFunc_api_Route__route_Merge_1_n : Nat → (List TRoute) → Int → Int → Int → Option (List TRoute)
  | 0 => fun _ _ _ _ => none
  | n + 1 => M.slices_symMergeCmpFunc_api_Route__route_Merge_1_b (M.slices_symMergeCmpFunc_api_Route__route_Merge_1_n n)
noncomputable def M.slices_symMergeCmpFunc_api_Route__route_Merge_1 (a0 : List TRoute) (a1 : Int) (a2 : Int) (a3 : Int) : Option (List TRoute) :=
  recM (fun n (x : (List TRoute) × Int × Int × Int) => M.slices_symMergeCmpFunc_api_Route__route_Merge_1_n n x.1 x.2.1 x.2.2.1 x.2.2.2) (a0, a1, a2, a3)

/- slices.stableCmpFunc[netverify/api.Route] -/
noncomputable def M.slices_stableCmpFunc_api_Route__route_Merge_1_l1 (a1 : Int) (p1 : (List TRoute) × Int × Int) : Option (((List TRoute) × Int × Int) ⊕ (Int × (List TRoute))) :=
  bif decide (p1.2.2 ≤ a1) then ((M.slices_insertionSortCmpFunc_api_Route__route_Merge_1 p1.1 p1.2.1 p1.2.2).bind fun r3 => gd [decide (r3.length = p1.1.length)] (some (.inl (r3, p1.2.2, wr .i64 (p1.2.2 + 20))))) else (some (.inr (p1.2.1, p1.1)))
noncomputable def M.slices_stableCmpFunc_api_Route__route_Merge_1_l3 (a1 : Int) (p6 : (List TRoute) × Int) (p8 : (List TRoute) × Int × Int) : Option (((List TRoute) × Int × Int) ⊕ (Int × (List TRoute))) :=
  bif decide (p8.2.2 ≤ a1) then ((M.slices_symMergeCmpFunc_api_Route__route_Merge_1 p8.1 p8.2.1 (wr .i64 (p8.2.1 + p6.2)) p8.2.2).bind fun r10 => gd [decide (r10.length = p8.1.length)] (some (.inl (r10, p8.2.2, wr .i64 (p8.2.2 + (wr .i64 (2 * p6.2))))))) else (some (.inr (p8.2.1, p8.1)))
noncomputable def M.slices_stableCmpFunc_api_Route__route_Merge_1_k1 (p6 : (List TRoute) × Int) (p12 : (List TRoute)) : Option (((List TRoute) × Int) ⊕ (List TRoute)) :=
  some (.inl (p12, wr .i64 (p6.2 * 2)))
noncomputable def M.slices_stableCmpFunc_api_Route__route_Merge_1_l2 (a1 : Int) (p6 : (List TRoute) × Int) : Option (((List TRoute) × Int) ⊕ (List TRoute)) :=
  bif decide (p6.2 < a1) then ((loopM (M.slices_stableCmpFunc_api_Route__route_Merge_1_l3 a1 p6) (p6.1, 0, wr .i64 (2 * p6.2))).bind fun y11 => bif decide ((wr .i64 (y11.1 + p6.2)) < a1) then ((M.slices_symMergeCmpFunc_api_Route__route_Merge_1 y11.2 y11.1 (wr .i64 (y11.1 + p6.2)) a1).bind fun r13 => gd [decide (r13.length = y11.2.length)] (M.slices_stableCmpFunc_api_Route__route_Merge_1_k1 p6 r13)) else (M.slices_stableCmpFunc_api_Route__route_Merge_1_k1 p6 y11.2)) else (some (.inr p6.1))
noncomputable def M.slices_stableCmpFunc_api_Route__route_Merge_1 (a0 : List TRoute) (a1 : Int) : Option (List TRoute) :=
  (loopM (M.slices_stableCmpFunc_api_Route__route_Merge_1_l1 a1) (a0, 0, 20)).bind fun y4 => (M.slices_insertionSortCmpFunc_api_Route__route_Merge_1 y4.2 y4.1 a1).bind fun r5 => gd [decide (r5.length = y4.2.length)] ((loopM (M.slices_stableCmpFunc_api_Route__route_Merge_1_l2 a1) (r5, 20)).bind fun y14 => gd [decide (y14.length = a0.length)] (some y14))

/- slices.SortStableFunc[[]netverify/api.Route,netverify/api.Route] -/
noncomputable def M.slices_SortStableFunc_api_Route_api_Route__route_Merge_1 (a0 : List TRoute) : Option (List TRoute) :=
  (M.slices_stableCmpFunc_api_Route__route_Merge_1 a0 (a0.length : Int)).bind fun r1 => gd [decide (r1.length = a0.length)] (gd [decide (r1.length = a0.length)] (some r1))

/- cmp.Or[int] -/
noncomputable def M.cmp_Or_int_l1 (a0 : List Int) (p1 : Int) : Option (Int ⊕ (Unit ⊕ Int)) :=
  bif decide (p1 < (a0.length : Int)) then (gd [decide (0 ≤ p1), decide (p1 < (a0.length : Int))] (bif (a0.getD p1.toNat default) != 0 then (some (.inr (.inr (a0.getD p1.toNat default)))) else (some (.inl (wr .i64 (p1 + 1)))))) else (some (.inr (.inl ())))
noncomputable def M.cmp_Or_int (a0 : List Int) : Option Int :=
  (loopM (M.cmp_Or_int_l1 a0) 0).bind fun y3 => Sum.elim (fun _ => some 0) (fun y5 => some y5) y3

/- netverify/route.origin -/
noncomputable def M.route_origin (a0 : TRoute) : Option Int :=
  some (if 3 < a0.fClass then 3 else a0.fClass)

/- netverify/route.Prefer -/
noncomputable def M.route_Prefer_k1 (a0 : TRoute) (a1 : TRoute) (p1 : Bool) : Option Int :=
  bif p1 then ((M.cmp_Compare_int a0.fAdmin a1.fAdmin).bind fun r2 => some r2) else (bif a0.fProto == 3 then ((M.cmp_Compare_int a0.fClass a1.fClass).bind fun r3 => (M.cmp_Compare_int a0.fMetric a1.fMetric).bind fun r4 => (M.cmp_Compare_int a0.fInner a1.fInner).bind fun r5 => (M.cmp_Compare_int a0.fTag a1.fTag).bind fun r6 => (M.cmp_Or_int ([r3, r4, r5, r6] : List Int)).bind fun r7 => some r7) else (bif a0.fProto == 4 then ((M.cmp_Compare_int a0.fMetric a1.fMetric).bind fun r8 => (M.cmp_Compare_int a0.fClass a1.fClass).bind fun r9 => (M.cmp_Compare_int a0.fTag a1.fTag).bind fun r10 => (M.cmp_Or_int ([r8, r9, r10] : List Int)).bind fun r11 => some r11) else (bif a0.fProto == 5 then ((M.route_origin a0).bind fun r12 => (M.route_origin a1).bind fun r13 => (M.cmp_Compare_int r12 r13).bind fun r14 => (M.cmp_Compare_int a1.fPref a0.fPref).bind fun r15 => (M.cmp_Compare_int (a0.fPath.length : Int) (a1.fPath.length : Int)).bind fun r16 => (M.cmp_Compare_int a0.fMetric a1.fMetric).bind fun r17 => (M.cmp_Compare_int a0.fClass a1.fClass).bind fun r18 => (M.cmp_Compare_uint32 a0.fFrom a1.fFrom).bind fun r19 => (M.cmp_Or_int ([r14, r15, r16, r17, r18, r19] : List Int)).bind fun r20 => some r20) else (some 0))))
noncomputable def M.route_Prefer (a0 : TRoute) (a1 : TRoute) : Option Int :=
  bif a0.fProto == 1 then (M.route_Prefer_k1 a0 a1 (a0.fProto == 1)) else (M.route_Prefer_k1 a0 a1 (a0.fProto == 2))

/- netverify/route.compareHops -/
noncomputable def M.route_compareHops (a0 : THop) (a1 : THop) : Option Int :=
  (M.cmp_Compare_int a0.fIface a1.fIface).bind fun r1 => (M.cmp_Compare_uint32 a0.fAddr a1.fAddr).bind fun r2 => (M.cmp_Or_int ([r1, r2] : List Int)).bind fun r3 => some r3

/- slices.SortFunc[[]netverify/api.Hop,netverify/api.Hop] -/
noncomputable def M.slices_SortFunc_api_Hop_api_Hop__route_compareHops (a0 : List THop) : Option (List THop) :=
  sortM M.route_compareHops a0

/- slices.Compact[[]netverify/api.Hop,netverify/api.Hop] -/
noncomputable def M.slices_Compact_api_Hop_api_Hop_k1 (p3 : (List THop) × Int × Int) (p5 : Int × (List THop)) : Option (((List THop) × Int × Int) ⊕ (Int × (List THop))) :=
  some (.inl (p5.2, p5.1, wr .i64 (p3.2.2 + 1)))
noncomputable def M.slices_Compact_api_Hop_api_Hop_l2 (a0 : List THop) (p1 : Int) (p3 : (List THop) × Int × Int) : Option (((List THop) × Int × Int) ⊕ (Int × (List THop))) :=
  bif decide (p3.2.2 < ((a0.length - p1.toNat : Nat) : Int)) then (gd [decide (0 ≤ p3.2.2), decide (p3.2.2 < ((a0.length - p1.toNat : Nat) : Int)), decide (0 ≤ (wr .i64 (p3.2.2 - 1))), decide ((wr .i64 (p3.2.2 - 1)) < ((a0.length - p1.toNat : Nat) : Int))] (bif !((((p3.1.getD ((0 + p1.toNat) + p3.2.2.toNat) default).fIface) == ((p3.1.getD ((0 + p1.toNat) + (wr .i64 (p3.2.2 - 1)).toNat) default).fIface)) && ((((p3.1.getD ((0 + p1.toNat) + p3.2.2.toNat) default).fAddr) == ((p3.1.getD ((0 + p1.toNat) + (wr .i64 (p3.2.2 - 1)).toNat) default).fAddr)) && true)) then (gd [decide (0 ≤ p3.2.2), decide (p3.2.2 < ((a0.length - p1.toNat : Nat) : Int)), decide (0 ≤ p3.2.1), decide (p3.2.1 < (p3.1.length : Int))] (M.slices_Compact_api_Hop_api_Hop_k1 p3 (wr .i64 (p3.2.1 + 1), p3.1.set (0 + p3.2.1.toNat) (p3.1.getD ((0 + p1.toNat) + p3.2.2.toNat) default)))) else (M.slices_Compact_api_Hop_api_Hop_k1 p3 (p3.2.1, p3.1)))) else (some (.inr (p3.2.1, p3.1)))
noncomputable def M.slices_Compact_api_Hop_api_Hop_l1 (a0 : List THop) (p1 : Int) : Option (Int ⊕ (Unit ⊕ ((List THop) × Nat))) :=
  bif decide (p1 < (a0.length : Int)) then (gd [decide (0 ≤ p1), decide (p1 < (a0.length : Int)), decide (0 ≤ (wr .i64 (p1 - 1))), decide ((wr .i64 (p1 - 1)) < (a0.length : Int))] (bif ((((a0.getD (0 + p1.toNat) default).fIface) == ((a0.getD (0 + (wr .i64 (p1 - 1)).toNat) default).fIface)) && ((((a0.getD (0 + p1.toNat) default).fAddr) == ((a0.getD (0 + (wr .i64 (p1 - 1)).toNat) default).fAddr)) && true)) then (gd [decide (0 ≤ p1), decide (p1 ≤ (a0.length : Int))] ((loopM (M.slices_Compact_api_Hop_api_Hop_l2 a0 p1) (a0, p1, 1)).bind fun y6 => gd [decide (0 ≤ y6.1), decide (y6.1 ≤ (y6.2.length : Int))] (gd [decide (0 ≤ y6.1), decide (y6.1 ≤ (((clrL y6.2 (0 + y6.1.toNat) (y6.2.length - y6.1.toNat) (⟨0, 0⟩ : THop)).length : Nat) : Int))] (gd [decide ((clrL y6.2 (0 + y6.1.toNat) (y6.2.length - y6.1.toNat) (⟨0, 0⟩ : THop)).length = a0.length)] (some (.inr (.inr (clrL y6.2 (0 + y6.1.toNat) (y6.2.length - y6.1.toNat) (⟨0, 0⟩ : THop), y6.1.toNat - 0)))))))) else (some (.inl (wr .i64 (p1 + 1)))))) else (some (.inr (.inl ())))
noncomputable def M.slices_Compact_api_Hop_api_Hop (a0 : List THop) : Option ((List THop) × Nat) :=
  bif decide ((a0.length : Int) < 2) then (some (a0, a0.length)) else ((loopM (M.slices_Compact_api_Hop_api_Hop_l1 a0) 1).bind fun y7 => Sum.elim (fun _ => some (a0, a0.length)) (fun y9 => some y9) y7)

/- slices.Clone[[]int,int] -/
noncomputable def M.slices_Clone_int_int (a0 : List Int) : Option (List Int) :=
  gd [decide (0 = 0) || decide (0 < a0.length), decide ((0 + a0.length) * 8 ≤ 140737488355328)] (some a0)

/- netverify/route.mergeOne -/
noncomputable def M.route_mergeOne_k1 (p1 : Int × Int × Int × Int × Int × Int × Int × Int × Int × (List Int) × Int × Int × (List THop) × Bool × Int) (p3 : Int × Int × Int × Int × Int × Int × Int × Int × Int × (List Int) × Int × Int × (List THop) × Bool) : Option ((Int × Int × Int × Int × Int × Int × Int × Int × Int × (List Int) × Int × Int × (List THop) × Bool × Int) ⊕ (Int × Int × Int × Int × Int × Int × Int × Int × Int × (List Int) × Int × Int × (List THop) × Bool)) :=
  some (.inl (p3.1, p3.2.1, p3.2.2.1, p3.2.2.2.1, p3.2.2.2.2.1, p3.2.2.2.2.2.1, p3.2.2.2.2.2.2.1, p3.2.2.2.2.2.2.2.1, p3.2.2.2.2.2.2.2.2.1, p3.2.2.2.2.2.2.2.2.2.1, p3.2.2.2.2.2.2.2.2.2.2.1, p3.2.2.2.2.2.2.2.2.2.2.2.1, p3.2.2.2.2.2.2.2.2.2.2.2.2.1, p3.2.2.2.2.2.2.2.2.2.2.2.2.2, wr .i64 (p1.2.2.2.2.2.2.2.2.2.2.2.2.2.2 + 1)))
noncomputable def M.route_mergeOne_l1 (a0 : List TRoute) (p1 : Int × Int × Int × Int × Int × Int × Int × Int × Int × (List Int) × Int × Int × (List THop) × Bool × Int) : Option ((Int × Int × Int × Int × Int × Int × Int × Int × Int × (List Int) × Int × Int × (List THop) × Bool × Int) ⊕ (Int × Int × Int × Int × Int × Int × Int × Int × Int × (List Int) × Int × Int × (List THop) × Bool)) :=
  bif decide (p1.2.2.2.2.2.2.2.2.2.2.2.2.2.2 < ((a0.length - 1 : Nat) : Int)) then (gd [decide (0 ≤ p1.2.2.2.2.2.2.2.2.2.2.2.2.2.2), decide (p1.2.2.2.2.2.2.2.2.2.2.2.2.2.2 < (((a0.drop 1).take (a0.length - 1)).length : Int))] ((M.route_Prefer (((a0.drop 1).take (a0.length - 1)).getD p1.2.2.2.2.2.2.2.2.2.2.2.2.2.2.toNat default) (⟨(⟨p1.1, p1.2.1⟩ : TPrefix), p1.2.2.1, p1.2.2.2.1, p1.2.2.2.2.1, p1.2.2.2.2.2.1, p1.2.2.2.2.2.2.1, p1.2.2.2.2.2.2.2.1, p1.2.2.2.2.2.2.2.2.1, p1.2.2.2.2.2.2.2.2.2.1, p1.2.2.2.2.2.2.2.2.2.2.1, p1.2.2.2.2.2.2.2.2.2.2.2.1, p1.2.2.2.2.2.2.2.2.2.2.2.2.1, p1.2.2.2.2.2.2.2.2.2.2.2.2.2.1⟩ : TRoute)).bind fun r4 => bif decide (r4 < 0) then (M.route_mergeOne_k1 p1 (((((a0.drop 1).take (a0.length - 1)).getD p1.2.2.2.2.2.2.2.2.2.2.2.2.2.2.toNat default).fPrefix).fAddr, ((((a0.drop 1).take (a0.length - 1)).getD p1.2.2.2.2.2.2.2.2.2.2.2.2.2.2.toNat default).fPrefix).fLen, (((a0.drop 1).take (a0.length - 1)).getD p1.2.2.2.2.2.2.2.2.2.2.2.2.2.2.toNat default).fProto, (((a0.drop 1).take (a0.length - 1)).getD p1.2.2.2.2.2.2.2.2.2.2.2.2.2.2.toNat default).fClass, (((a0.drop 1).take (a0.length - 1)).getD p1.2.2.2.2.2.2.2.2.2.2.2.2.2.2.toNat default).fAdmin, (((a0.drop 1).take (a0.length - 1)).getD p1.2.2.2.2.2.2.2.2.2.2.2.2.2.2.toNat default).fMetric, (((a0.drop 1).take (a0.length - 1)).getD p1.2.2.2.2.2.2.2.2.2.2.2.2.2.2.toNat default).fInner, (((a0.drop 1).take (a0.length - 1)).getD p1.2.2.2.2.2.2.2.2.2.2.2.2.2.2.toNat default).fTag, (((a0.drop 1).take (a0.length - 1)).getD p1.2.2.2.2.2.2.2.2.2.2.2.2.2.2.toNat default).fPref, (((a0.drop 1).take (a0.length - 1)).getD p1.2.2.2.2.2.2.2.2.2.2.2.2.2.2.toNat default).fPath, (((a0.drop 1).take (a0.length - 1)).getD p1.2.2.2.2.2.2.2.2.2.2.2.2.2.2.toNat default).fFrom, (((a0.drop 1).take (a0.length - 1)).getD p1.2.2.2.2.2.2.2.2.2.2.2.2.2.2.toNat default).fNext, (((a0.drop 1).take (a0.length - 1)).getD p1.2.2.2.2.2.2.2.2.2.2.2.2.2.2.toNat default).fHops, (((a0.drop 1).take (a0.length - 1)).getD p1.2.2.2.2.2.2.2.2.2.2.2.2.2.2.toNat default).fDiscard)) else (M.route_mergeOne_k1 p1 (p1.1, p1.2.1, p1.2.2.1, p1.2.2.2.1, p1.2.2.2.2.1, p1.2.2.2.2.2.1, p1.2.2.2.2.2.2.1, p1.2.2.2.2.2.2.2.1, p1.2.2.2.2.2.2.2.2.1, p1.2.2.2.2.2.2.2.2.2.1, p1.2.2.2.2.2.2.2.2.2.2.1, p1.2.2.2.2.2.2.2.2.2.2.2.1, p1.2.2.2.2.2.2.2.2.2.2.2.2.1, p1.2.2.2.2.2.2.2.2.2.2.2.2.2.1)))) else (some (.inr (p1.1, p1.2.1, p1.2.2.1, p1.2.2.2.1, p1.2.2.2.2.1, p1.2.2.2.2.2.1, p1.2.2.2.2.2.2.1, p1.2.2.2.2.2.2.2.1, p1.2.2.2.2.2.2.2.2.1, p1.2.2.2.2.2.2.2.2.2.1, p1.2.2.2.2.2.2.2.2.2.2.1, p1.2.2.2.2.2.2.2.2.2.2.2.1, p1.2.2.2.2.2.2.2.2.2.2.2.2.1, p1.2.2.2.2.2.2.2.2.2.2.2.2.2.1)))
noncomputable def M.route_mergeOne_k2 (p6 : (List THop) × Int) (p8 : (List THop)) : Option (((List THop) × Int) ⊕ (List THop)) :=
  some (.inl (p8, wr .i64 (p6.2 + 1)))
noncomputable def M.route_mergeOne_l2 (a0 : List TRoute) (y5 : Int × Int × Int × Int × Int × Int × Int × Int × Int × (List Int) × Int × Int × (List THop) × Bool) (p6 : (List THop) × Int) : Option (((List THop) × Int) ⊕ (List THop)) :=
  bif decide (p6.2 < (a0.length : Int)) then (gd [decide (0 ≤ p6.2), decide (p6.2 < (a0.length : Int))] ((M.route_Prefer (a0.getD p6.2.toNat default) (⟨(⟨y5.1, y5.2.1⟩ : TPrefix), y5.2.2.1, y5.2.2.2.1, y5.2.2.2.2.1, y5.2.2.2.2.2.1, y5.2.2.2.2.2.2.1, y5.2.2.2.2.2.2.2.1, y5.2.2.2.2.2.2.2.2.1, y5.2.2.2.2.2.2.2.2.2.1, y5.2.2.2.2.2.2.2.2.2.2.1, y5.2.2.2.2.2.2.2.2.2.2.2.1, y5.2.2.2.2.2.2.2.2.2.2.2.2.1, y5.2.2.2.2.2.2.2.2.2.2.2.2.2⟩ : TRoute)).bind fun r9 => bif r9 == 0 then (gd [decide ((p6.1.length + (((a0.getD p6.2.toNat default).fHops).length)) * 16 ≤ 140737488355328)] (M.route_mergeOne_k2 p6 (p6.1 ++ ((a0.getD p6.2.toNat default).fHops)))) else (M.route_mergeOne_k2 p6 p6.1))) else (some (.inr p6.1))
noncomputable def M.route_mergeOne (a0 : List TRoute) : Option TRoute :=
  gd [decide (0 ≤ 0), decide (0 < (a0.length : Int))] (gd [decide (0 ≤ 1), decide (1 ≤ (a0.length : Int))] ((loopM (M.route_mergeOne_l1 a0) (((a0.getD (0 : Int).toNat default).fPrefix).fAddr, ((a0.getD (0 : Int).toNat default).fPrefix).fLen, (a0.getD (0 : Int).toNat default).fProto, (a0.getD (0 : Int).toNat default).fClass, (a0.getD (0 : Int).toNat default).fAdmin, (a0.getD (0 : Int).toNat default).fMetric, (a0.getD (0 : Int).toNat default).fInner, (a0.getD (0 : Int).toNat default).fTag, (a0.getD (0 : Int).toNat default).fPref, (a0.getD (0 : Int).toNat default).fPath, (a0.getD (0 : Int).toNat default).fFrom, (a0.getD (0 : Int).toNat default).fNext, (a0.getD (0 : Int).toNat default).fHops, (a0.getD (0 : Int).toNat default).fDiscard, 0)).bind fun y5 => (loopM (M.route_mergeOne_l2 a0 y5) (([] : List THop), 0)).bind fun y10 => (M.slices_SortFunc_api_Hop_api_Hop__route_compareHops y10).bind fun r11 => gd [decide (r11.length = y10.length)] ((M.slices_Compact_api_Hop_api_Hop r11).bind fun r12 => gd [decide (r12.1.length = r11.length), decide (r12.2 ≤ r12.1.length)] ((M.slices_Clone_int_int y5.2.2.2.2.2.2.2.2.2.1).bind fun r13 => some (⟨(⟨y5.1, y5.2.1⟩ : TPrefix), y5.2.2.1, y5.2.2.2.1, y5.2.2.2.2.1, y5.2.2.2.2.2.1, y5.2.2.2.2.2.2.1, y5.2.2.2.2.2.2.2.1, y5.2.2.2.2.2.2.2.2.1, r13, y5.2.2.2.2.2.2.2.2.2.2.1, y5.2.2.2.2.2.2.2.2.2.2.2.1, (r12.1.take r12.2), y5.2.2.2.2.2.2.2.2.2.2.2.2.2⟩ : TRoute)))))

/- netverify/route.Merge -/
noncomputable def M.route_Merge_l2 (r2 : (List TRoute)) (p3 : (List TRoute) × Int) (p5 : Int) : Option (Int ⊕ Int) :=
  gd [guardB (decide (p5 < (r2.length : Int))) (decide (0 ≤ p5)), guardB (decide (p5 < (r2.length : Int))) (decide (p5 < (r2.length : Int))), guardB (decide (p5 < (r2.length : Int))) (decide (0 ≤ p3.2)), guardB (decide (p5 < (r2.length : Int))) (decide (p3.2 < (r2.length : Int)))] (bif (decide (p5 < (r2.length : Int))) && (((((r2.getD p5.toNat default).fPrefix).fAddr) == (((r2.getD p3.2.toNat default).fPrefix).fAddr)) && (((((r2.getD p5.toNat default).fPrefix).fLen) == (((r2.getD p3.2.toNat default).fPrefix).fLen)) && true)) then (some (.inl (wr .i64 (p5 + 1)))) else (some (.inr p5)))
noncomputable def M.route_Merge_l1 (r2 : (List TRoute)) (p3 : (List TRoute) × Int) : Option (((List TRoute) × Int) ⊕ (List TRoute)) :=
  bif decide (p3.2 < (r2.length : Int)) then ((loopM (M.route_Merge_l2 r2 p3) (wr .i64 (p3.2 + 1))).bind fun y7 => (M.route_mergeOne ((r2.drop p3.2.toNat).take (y7.toNat - p3.2.toNat))).bind fun r8 => gd [decide (0 ≤ y7), decide (y7 ≤ (r2.length : Int)), decide (0 ≤ p3.2), decide (p3.2 ≤ (y7.toNat : Int)), decide ((p3.1.length + 1) * 136 ≤ 140737488355328)] (some (.inl (p3.1 ++ [r8], y7)))) else (some (.inr p3.1))
noncomputable def M.route_Merge (a0 : List TRoute) : Option (List TRoute) :=
  (M.slices_Clone_api_Route_api_Route a0).bind fun r1 => (M.slices_SortStableFunc_api_Route_api_Route__route_Merge_1 r1).bind fun r2 => gd [decide (r2.length = r1.length)] ((loopM (M.route_Merge_l1 r2) (([] : List TRoute), 0)).bind fun y9 => some y9)

/- netverify/netverifyref15.Find -/
noncomputable def M.ref15_Find_l1 (a0 : List TRoute) (a1 : TPrefix) (p1 : Int) : Option (Int ⊕ (Unit ⊕ Int)) :=
  bif decide (p1 < (a0.length : Int)) then (gd [decide (0 ≤ p1), decide (p1 < (a0.length : Int))] (bif (((((a0.getD p1.toNat default).fPrefix).fAddr) == a1.fAddr) && (((((a0.getD p1.toNat default).fPrefix).fLen) == a1.fLen) && true)) then (some (.inr (.inr p1))) else (some (.inl (wr .i64 (p1 + 1)))))) else (some (.inr (.inl ())))
noncomputable def M.ref15_Find (a0 : List TRoute) (a1 : TPrefix) : Option Int :=
  (loopM (M.ref15_Find_l1 a0 a1) 0).bind fun y3 => Sum.elim (fun _ => some (-1)) (fun y5 => some y5) y3

/- netverify/netverifyref15.rank -/
noncomputable def M.ref15_rank (a0 : TRoute) : Option Arr7Int :=
  bif a0.fProto == 3 then (some (⟨a0.fClass, a0.fMetric, a0.fInner, a0.fTag, 0, 0, 0⟩ : Arr7Int)) else (bif a0.fProto == 4 then (some (⟨a0.fMetric, a0.fClass, a0.fTag, 0, 0, 0, 0⟩ : Arr7Int)) else (bif a0.fProto == 5 then (some (⟨if 3 < a0.fClass then 3 else a0.fClass, wr .i64 (1000000 - a0.fPref), (a0.fPath.length : Int), a0.fMetric, a0.fClass, wr .i64 a0.fFrom, 0⟩ : Arr7Int)) else (some (⟨a0.fAdmin, 0, 0, 0, 0, 0, 0⟩ : Arr7Int))))

/- netverify/netverifyref15.Prefer -/
noncomputable def M.ref15_Prefer (a0 : TRoute) (a1 : TRoute) : Option Int :=
  (M.ref15_rank a0).bind fun r1 => (M.ref15_rank a1).bind fun r2 => gd [true, true, true, true] (bif decide (r1.a0 < r2.a0) then (some (-1)) else (gd [true, true, true, true] (bif decide (r1.a0 > r2.a0) then (some 1) else (gd [true, true, true, true] (bif decide (r1.a1 < r2.a1) then (some (-1)) else (gd [true, true, true, true] (bif decide (r1.a1 > r2.a1) then (some 1) else (gd [true, true, true, true] (bif decide (r1.a2 < r2.a2) then (some (-1)) else (gd [true, true, true, true] (bif decide (r1.a2 > r2.a2) then (some 1) else (gd [true, true, true, true] (bif decide (r1.a3 < r2.a3) then (some (-1)) else (gd [true, true, true, true] (bif decide (r1.a3 > r2.a3) then (some 1) else (gd [true, true, true, true] (bif decide (r1.a4 < r2.a4) then (some (-1)) else (gd [true, true, true, true] (bif decide (r1.a4 > r2.a4) then (some 1) else (gd [true, true, true, true] (bif decide (r1.a5 < r2.a5) then (some (-1)) else (gd [true, true, true, true] (bif decide (r1.a5 > r2.a5) then (some 1) else (gd [true, true, true, true] (bif decide (r1.a6 < r2.a6) then (some (-1)) else (gd [true, true, true, true] (bif decide (r1.a6 > r2.a6) then (some 1) else (some 0))))))))))))))))))))))))))))

/- netverify/addr.clamp -/
noncomputable def M.addr_clamp (a0 : Int) : Option Int :=
  some (if (if 32 < a0 then 32 else a0) > 0 then (if 32 < a0 then 32 else a0) else 0)

/- netverify/addr.Mask -/
noncomputable def M.addr_Mask (a0 : Int) : Option Int :=
  (M.addr_clamp a0).bind fun r1 => gd [decide (0 ≤ (wr .i64 (32 - r1)))] (some (wr .u32 (4294967295 * 2 ^ min (wr .i64 (32 - r1)).toNat 32)))

/- netverify/addr.Valid -/
noncomputable def M.addr_Valid (a0 : TPrefix) : Option Bool :=
  (gc ((decide (a0.fLen ≥ 0)) && (decide (a0.fLen ≤ 32))) (M.addr_Mask a0.fLen)).bind fun r1 => some (((decide (a0.fLen ≥ 0)) && (decide (a0.fLen ≤ 32))) && ((bitD .andNot .u32 a0.fAddr r1) == 0))

/- netverify/route.common -/
noncomputable def M.route_common_l1 (a0 : TRoute) (p2 : Int) : Option (Int ⊕ (Unit ⊕ Bool)) :=
  bif decide (p2 < (a0.fHops.length : Int)) then (gd [decide (0 ≤ p2), decide (p2 < (a0.fHops.length : Int))] ((gc ((!(decide (((a0.fHops.getD p2.toNat default).fIface) < 0))) && (decide (p2 > 0))) (M.route_compareHops (a0.fHops.getD (wr .i64 (p2 - 1)).toNat default) (a0.fHops.getD p2.toNat default))).bind fun r4 => gd [guardB ((!(decide (((a0.fHops.getD p2.toNat default).fIface) < 0))) && (decide (p2 > 0))) (decide (0 ≤ (wr .i64 (p2 - 1)))), guardB ((!(decide (((a0.fHops.getD p2.toNat default).fIface) < 0))) && (decide (p2 > 0))) (decide ((wr .i64 (p2 - 1)) < (a0.fHops.length : Int)))] (bif (decide (((a0.fHops.getD p2.toNat default).fIface) < 0)) || ((decide (p2 > 0)) && (decide (r4 ≥ 0))) then (some (.inr (.inr false))) else (some (.inl (wr .i64 (p2 + 1))))))) else (some (.inr (.inl ())))
noncomputable def M.route_common_l2 (a0 : TRoute) (p8 : Int) : Option (Int ⊕ (Unit ⊕ Bool)) :=
  bif decide (p8 < (a0.fPath.length : Int)) then (gd [decide (0 ≤ p8), decide (p8 < (a0.fPath.length : Int))] (bif (decide ((a0.fPath.getD p8.toNat default) < 1)) || (decide ((a0.fPath.getD p8.toNat default) > 65535)) then (some (.inr (.inr false))) else (some (.inl (wr .i64 (p8 + 1)))))) else (some (.inr (.inl ())))
noncomputable def M.route_common (a0 : TRoute) : Option Bool :=
  (M.addr_Valid a0.fPrefix).bind fun r1 => bif (((!r1) || (decide (a0.fTag < 0))) || (decide (a0.fTag > 65535))) || (decide ((a0.fPath.length : Int) > 64)) then (some false) else ((loopM (M.route_common_l1 a0) 0).bind fun y5 => Sum.elim (fun _ => (loopM (M.route_common_l2 a0) 0).bind fun y10 => Sum.elim (fun _ => some true) (fun y12 => some y12) y10) (fun y7 => some y7) y5)

/- netverify/route.direct -/
noncomputable def M.route_direct (a0 : List THop) : Option Bool :=
  gd [guardB ((a0.length : Int) == 1) (decide (0 ≤ 0)), guardB ((a0.length : Int) == 1) (decide (0 < (a0.length : Int)))] (some (((a0.length : Int) == 1) && (((a0.getD (0 : Int).toNat default).fAddr) == 0)))

/- netverify/route.bare -/
noncomputable def M.route_bare (a0 : TRoute) : Option Bool :=
  some ((((((((a0.fMetric == 0) && (a0.fInner == 0)) && (a0.fPref == 0)) && (a0.fFrom == 0)) && (a0.fNext == 0)) && ((a0.fPath.length : Int) == 0)) && ((a0.fHops.length : Int) == 0)) && (!a0.fDiscard))

/- netverify/route.validStatic -/
noncomputable def M.route_validStatic_k3 (a0 : TRoute) (p2 : Int × (List THop)) (p3 : Int) : Option Bool :=
  (gc ((a0.fClass == 0) && (p3 == 1)) (M.route_bare (⟨a0.fPrefix, a0.fProto, a0.fClass, a0.fAdmin, a0.fMetric, a0.fInner, a0.fTag, a0.fPref, a0.fPath, a0.fFrom, 0, p2.2, false⟩ : TRoute))).bind fun r4 => some (((a0.fClass == 0) && (p3 == 1)) && r4)
noncomputable def M.route_validStatic_k2 (a0 : TRoute) (p2 : Int × (List THop)) : Option Bool :=
  bif a0.fDiscard then (M.route_validStatic_k3 a0 p2 (wr .i64 (p2.1 + 1))) else (M.route_validStatic_k3 a0 p2 p2.1)
noncomputable def M.route_validStatic_k1 (a0 : TRoute) (p1 : Int) : Option Bool :=
  (M.route_direct a0.fHops).bind fun r5 => bif r5 then (M.route_validStatic_k2 a0 (wr .i64 (p1 + 1), ([] : List THop))) else (M.route_validStatic_k2 a0 (p1, a0.fHops))
noncomputable def M.route_validStatic (a0 : TRoute) : Option Bool :=
  bif a0.fNext != 0 then (M.route_validStatic_k1 a0 1) else (M.route_validStatic_k1 a0 0)

/- netverify/route.within -/
noncomputable def M.route_within (a0 : Int) (a1 : Int) (a2 : Int) : Option Bool :=
  some ((decide (a1 ≤ a0)) && (decide (a0 ≤ a2)))

/- netverify/route.indirect -/
noncomputable def M.route_indirect_l1 (a0 : List THop) (p1 : Int) : Option (Int ⊕ (Unit ⊕ Bool)) :=
  bif decide (p1 < (a0.length : Int)) then (gd [decide (0 ≤ p1), decide (p1 < (a0.length : Int))] (bif ((a0.getD p1.toNat default).fAddr) == 0 then (some (.inr (.inr false))) else (some (.inl (wr .i64 (p1 + 1)))))) else (some (.inr (.inl ())))
noncomputable def M.route_indirect (a0 : List THop) : Option Bool :=
  (loopM (M.route_indirect_l1 a0) 0).bind fun y3 => Sum.elim (fun _ => some (decide ((a0.length : Int) > 0))) (fun y5 => some y5) y3

/- netverify/route.validLinkState -/
noncomputable def M.route_validLinkState_k1 (a0 : TRoute) (p5 : Int) : Option Bool :=
  (M.route_bare (⟨a0.fPrefix, a0.fProto, a0.fClass, a0.fAdmin, 0, p5, a0.fTag, a0.fPref, a0.fPath, a0.fFrom, a0.fNext, ([] : List THop), a0.fDiscard⟩ : TRoute)).bind fun r6 => some r6
noncomputable def M.route_validLinkState (a0 : TRoute) : Option Bool :=
  bif a0.fDiscard then ((gc ((a0.fClass == 1) && (a0.fTag == 0)) (M.route_bare (⟨a0.fPrefix, a0.fProto, a0.fClass, a0.fAdmin, a0.fMetric, a0.fInner, a0.fTag, a0.fPref, a0.fPath, a0.fFrom, a0.fNext, a0.fHops, false⟩ : TRoute))).bind fun r1 => some (((a0.fClass == 1) && (a0.fTag == 0)) && r1)) else ((M.route_within a0.fClass 1 4).bind fun r2 => (gc (!(!r2)) (M.route_within a0.fMetric 0 1073741824)).bind fun r3 => (gc (!((!r2) || (!r3))) (M.route_indirect a0.fHops)).bind fun r4 => bif ((!r2) || (!r3)) || (!r4) then (some false) else ((gc (a0.fClass == 4) (M.route_within a0.fInner 0 1073741824)).bind fun r7 => bif (a0.fClass == 4) && r7 then (M.route_validLinkState_k1 a0 0) else (M.route_validLinkState_k1 a0 a0.fInner)))

/- netverify/route.validDistance -/
noncomputable def M.route_validDistance_k1 (a0 : TRoute) (p2 : Bool × (List THop)) : Option Bool :=
  (gc p2.1 (M.route_bare (⟨a0.fPrefix, a0.fProto, a0.fClass, a0.fAdmin, 0, a0.fInner, a0.fTag, a0.fPref, a0.fPath, a0.fFrom, a0.fNext, p2.2, a0.fDiscard⟩ : TRoute))).bind fun r3 => some (p2.1 && r3)
noncomputable def M.route_validDistance (a0 : TRoute) : Option Bool :=
  (M.route_within a0.fMetric 1 15).bind fun r1 => bif a0.fClass == 1 then ((gc ((a0.fMetric == 1) && (a0.fTag == 0)) (M.route_direct a0.fHops)).bind fun r4 => M.route_validDistance_k1 a0 (((a0.fMetric == 1) && (a0.fTag == 0)) && r4, ([] : List THop))) else (bif a0.fClass == 2 then (M.route_validDistance_k1 a0 (r1, a0.fHops)) else (bif a0.fClass == 3 then ((gc r1 (M.route_indirect a0.fHops)).bind fun r5 => M.route_validDistance_k1 a0 (r1 && r5, ([] : List THop))) else (M.route_validDistance_k1 a0 (false, a0.fHops))))

/- netverify/route.validPathVector -/
noncomputable def M.route_validPathVector_k1 (a0 : TRoute) (p3 : Bool × (List Int) × Int × (List THop) × Bool) : Option Bool :=
  (gc p3.1 (M.route_bare (⟨a0.fPrefix, a0.fProto, a0.fClass, a0.fAdmin, 0, a0.fInner, a0.fTag, 0, p3.2.1, p3.2.2.1, a0.fNext, p3.2.2.2.1, p3.2.2.2.2⟩ : TRoute))).bind fun r4 => some (p3.1 && r4)
noncomputable def M.route_validPathVector_k2 (a0 : TRoute) (r1 : Bool) (r2 : Bool) (p5 : Bool) : Option Bool :=
  bif p5 then (gd [guardB (((r1 && r2) && (a0.fFrom != 0)) && ((a0.fHops.length : Int) == 1)) (decide (0 ≤ 0)), guardB (((r1 && r2) && (a0.fFrom != 0)) && ((a0.fHops.length : Int) == 1)) (decide (0 < (a0.fHops.length : Int)))] (M.route_validPathVector_k1 a0 (((((r1 && r2) && (a0.fFrom != 0)) && ((a0.fHops.length : Int) == 1)) && (((a0.fHops.getD (0 : Int).toNat default).fAddr) == a0.fFrom)) && ((a0.fClass == 4) || (decide ((a0.fPath.length : Int) > 0))), ([] : List Int), 0, ([] : List THop), a0.fDiscard))) else (M.route_validPathVector_k1 a0 (false, a0.fPath, a0.fFrom, a0.fHops, a0.fDiscard))
noncomputable def M.route_validPathVector (a0 : TRoute) : Option Bool :=
  (M.route_within a0.fMetric 0 16777215).bind fun r1 => (gc r1 (M.route_within a0.fPref 0 1000000)).bind fun r2 => bif a0.fClass == 1 then (M.route_validPathVector_k1 a0 (r1 && r2, a0.fPath, a0.fFrom, a0.fHops, a0.fDiscard)) else (bif a0.fClass == 2 then (M.route_validPathVector_k1 a0 ((r1 && r2) && a0.fDiscard, a0.fPath, a0.fFrom, a0.fHops, false)) else (bif a0.fClass == 3 then (M.route_validPathVector_k2 a0 r1 r2 (a0.fClass == 3)) else (M.route_validPathVector_k2 a0 r1 r2 (a0.fClass == 4))))

/- netverify/route.Valid -/
noncomputable def M.route_Valid (a0 : TRoute) : Option Bool :=
  (M.route_common a0).bind fun r1 => bif !r1 then (some false) else (bif a0.fProto == 1 then ((gc (((a0.fClass == 0) && (a0.fAdmin == 0)) && (a0.fTag == 0)) (M.route_direct a0.fHops)).bind fun r2 => (gc ((((a0.fClass == 0) && (a0.fAdmin == 0)) && (a0.fTag == 0)) && r2) (M.route_bare (⟨a0.fPrefix, a0.fProto, a0.fClass, a0.fAdmin, a0.fMetric, a0.fInner, a0.fTag, a0.fPref, a0.fPath, a0.fFrom, a0.fNext, ([] : List THop), a0.fDiscard⟩ : TRoute))).bind fun r3 => some (((((a0.fClass == 0) && (a0.fAdmin == 0)) && (a0.fTag == 0)) && r2) && r3)) else (bif (decide (a0.fAdmin < 1)) || (decide (a0.fAdmin > 255)) then (some false) else (bif a0.fProto == 2 then ((M.route_validStatic a0).bind fun r4 => some r4) else (bif a0.fProto == 3 then ((M.route_validLinkState a0).bind fun r5 => some r5) else (bif a0.fProto == 4 then ((M.route_validDistance a0).bind fun r6 => some r6) else (bif a0.fProto == 5 then ((M.route_validPathVector a0).bind fun r7 => some r7) else (some false)))))))

/- netverify/addr.Contains -/
noncomputable def M.addr_Contains (a0 : TPrefix) (a1 : Int) : Option Bool :=
  (M.addr_Mask a0.fLen).bind fun r1 => some ((bitD .and .u32 a1 r1) == a0.fAddr)

/- netverify/route.Longest -/
noncomputable def M.route_Longest_k1 (p1 : Int × Int) (p3 : Int) : Option ((Int × Int) ⊕ Int) :=
  some (.inl (p3, wr .i64 (p1.2 + 1)))
noncomputable def M.route_Longest_l1 (a0 : List TRoute) (a1 : Int) (p1 : Int × Int) : Option ((Int × Int) ⊕ Int) :=
  bif decide (p1.2 < (a0.length : Int)) then (gd [decide (0 ≤ p1.2), decide (p1.2 < (a0.length : Int))] ((M.addr_Contains ((a0.getD p1.2.toNat default).fPrefix) a1).bind fun r4 => gd [guardB (r4 && !(decide (p1.1 < 0))) (decide (0 ≤ p1.1)), guardB (r4 && !(decide (p1.1 < 0))) (decide (p1.1 < (a0.length : Int)))] (bif r4 && ((decide (p1.1 < 0)) || (decide ((((a0.getD p1.2.toNat default).fPrefix).fLen) > (((a0.getD p1.1.toNat default).fPrefix).fLen)))) then (M.route_Longest_k1 p1 p1.2) else (M.route_Longest_k1 p1 p1.1)))) else (some (.inr p1.1))
noncomputable def M.route_Longest (a0 : List TRoute) (a1 : Int) : Option Int :=
  (loopM (M.route_Longest_l1 a0 a1) ((-1), 0)).bind fun y5 => some y5

/- netverify/netverifylaw14.sane -/
noncomputable def M.law14_sane  : Option Bool :=
  (M.route_Merge ([(⟨(⟨0, 0⟩ : TPrefix), 4, 3, 120, 3, 0, 0, 0, ([] : List Int), 0, 0, ([(⟨0, 7⟩ : THop)] : List THop), false⟩ : TRoute), (⟨(⟨0, 0⟩ : TPrefix), 4, 3, 120, 2, 0, 0, 0, ([] : List Int), 0, 0, ([(⟨1, 9⟩ : THop)] : List THop), false⟩ : TRoute)] : List TRoute)).bind fun r1 => (M.route_Valid (⟨(⟨0, 0⟩ : TPrefix), 4, 3, 120, 3, 0, 0, 0, ([] : List Int), 0, 0, ([(⟨0, 7⟩ : THop)] : List THop), false⟩ : TRoute)).bind fun r2 => (gc r2 (M.route_Valid (⟨(⟨0, 0⟩ : TPrefix), 4, 3, 120, 2, 0, 0, 0, ([] : List Int), 0, 0, ([(⟨1, 9⟩ : THop)] : List THop), false⟩ : TRoute))).bind fun r3 => (gc (r2 && r3) (M.route_Prefer (⟨(⟨0, 0⟩ : TPrefix), 4, 3, 120, 2, 0, 0, 0, ([] : List Int), 0, 0, ([(⟨1, 9⟩ : THop)] : List THop), false⟩ : TRoute) (⟨(⟨0, 0⟩ : TPrefix), 4, 3, 120, 3, 0, 0, 0, ([] : List Int), 0, 0, ([(⟨0, 7⟩ : THop)] : List THop), false⟩ : TRoute))).bind fun r4 => (gc ((((r2 && r3) && (r4 == (-1))) && ((r1.length : Int) == 1)) && (((r1.getD (0 : Int).toNat default).fMetric) == 2)) (M.route_Longest r1 5)).bind fun r5 => (gc (((((r2 && r3) && (r4 == (-1))) && ((r1.length : Int) == 1)) && (((r1.getD (0 : Int).toNat default).fMetric) == 2)) && (r5 == 0)) (M.route_Valid (⟨(⟨0, 0⟩ : TPrefix), 0, 0, 0, 0, 0, 0, 0, ([] : List Int), 0, 0, ([] : List THop), false⟩ : TRoute))).bind fun r6 => gd [guardB (((r2 && r3) && (r4 == (-1))) && ((r1.length : Int) == 1)) (decide (0 ≤ 0)), guardB (((r2 && r3) && (r4 == (-1))) && ((r1.length : Int) == 1)) (decide (0 < (r1.length : Int)))] (some ((((((r2 && r3) && (r4 == (-1))) && ((r1.length : Int) == 1)) && (((r1.getD (0 : Int).toNat default).fMetric) == 2)) && (r5 == 0)) && (!r6)))

/- netverify/netverifylaw14.RouteBest -/
noncomputable def M.law14_RouteBest_l3 (a0 : List TRoute) (r2 : (List TRoute)) (p3 : Int) (r5 : Int) (p7 : Int) (p10 : Bool × Int) : Option ((Bool × Int) ⊕ Bool) :=
  gd [decide (0 ≤ r5), decide (r5 < (r2.length : Int))] (bif decide (p10.2 < (((r2.getD r5.toNat default).fHops).length : Int)) then (gd [guardB (!p10.1) (decide (0 ≤ r5)), guardB (!p10.1) (decide (r5 < (r2.length : Int))), guardB (!p10.1) (decide (0 ≤ p10.2)), guardB (!p10.1) (decide (p10.2 < (((r2.getD r5.toNat default).fHops).length : Int))), guardB (!p10.1) (decide (0 ≤ p3)), guardB (!p10.1) (decide (p3 < (a0.length : Int))), guardB (!p10.1) (decide (0 ≤ p7)), guardB (!p10.1) (decide (p7 < (((a0.getD p3.toNat default).fHops).length : Int)))] (some (.inl (p10.1 || ((((((r2.getD r5.toNat default).fHops).getD p10.2.toNat default).fIface) == ((((a0.getD p3.toNat default).fHops).getD p7.toNat default).fIface)) && ((((((r2.getD r5.toNat default).fHops).getD p10.2.toNat default).fAddr) == ((((a0.getD p3.toNat default).fHops).getD p7.toNat default).fAddr)) && true)), wr .i64 (p10.2 + 1))))) else (some (.inr p10.1)))
noncomputable def M.law14_RouteBest_l2 (a0 : List TRoute) (r2 : (List TRoute)) (p3 : Int) (r5 : Int) (p7 : Int) : Option (Int ⊕ (Unit ⊕ Bool)) :=
  (M.ref15_Prefer (a0.getD p3.toNat default) (r2.getD r5.toNat default)).bind fun r9 => gd [decide (0 ≤ p3), decide (p3 < (a0.length : Int)), decide (0 ≤ r5), decide (r5 < (r2.length : Int)), guardB (r9 == 0) (decide (0 ≤ p3)), guardB (r9 == 0) (decide (p3 < (a0.length : Int)))] (bif (r9 == 0) && (decide (p7 < (((a0.getD p3.toNat default).fHops).length : Int))) then ((loopM (M.law14_RouteBest_l3 a0 r2 p3 r5 p7) (false, 0)).bind fun y12 => bif !y12 then (some (.inr (.inr false))) else (some (.inl (wr .i64 (p7 + 1))))) else (some (.inr (.inl ()))))
noncomputable def M.law14_RouteBest_l1 (a0 : List TRoute) (r2 : (List TRoute)) (p3 : Int) : Option (Int ⊕ (Unit ⊕ Bool)) :=
  bif decide (p3 < (a0.length : Int)) then ((M.ref15_Find r2 ((a0.getD p3.toNat default).fPrefix)).bind fun r5 => gd [decide (0 ≤ p3), decide (p3 < (a0.length : Int))] ((gc (!((decide (r5 < 0)) || (decide (r5 ≥ (r2.length : Int))))) (M.ref15_Prefer (a0.getD p3.toNat default) (r2.getD r5.toNat default))).bind fun r6 => gd [guardB (!((decide (r5 < 0)) || (decide (r5 ≥ (r2.length : Int))))) (decide (0 ≤ p3)), guardB (!((decide (r5 < 0)) || (decide (r5 ≥ (r2.length : Int))))) (decide (p3 < (a0.length : Int))), guardB (!((decide (r5 < 0)) || (decide (r5 ≥ (r2.length : Int))))) (decide (0 ≤ r5)), guardB (!((decide (r5 < 0)) || (decide (r5 ≥ (r2.length : Int))))) (decide (r5 < (r2.length : Int)))] (bif ((decide (r5 < 0)) || (decide (r5 ≥ (r2.length : Int)))) || (decide (r6 < 0)) then (some (.inr (.inr false))) else ((loopM (M.law14_RouteBest_l2 a0 r2 p3 r5) 0).bind fun y13 => Sum.elim (fun _ => some (.inl (wr .i64 (p3 + 1)))) (fun y15 => some (.inr (.inr y15))) y13)))) else (some (.inr (.inl ())))
noncomputable def M.law14_RouteBest (a0 : List TRoute) : Option Bool :=
  (M.law14_One a0).bind fun r1 => bif !r1 then (some true) else ((M.route_Merge a0).bind fun r2 => (loopM (M.law14_RouteBest_l1 a0 r2) 0).bind fun y16 => Sum.elim (fun _ => (M.law14_sane).bind fun r19 => some r19) (fun y18 => some y18) y16)
end Nv
