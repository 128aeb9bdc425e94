/- The mirrors: what each function of the given program computes, in plain terms. -/
import Derived.Test.YtpggnodnpjejlaaDoorNvLibB
import Derived.Lib.TrailingZeros
import Derived.Test.YtpggnodnpjejlaaDoorNvLibC
set_option maxRecDepth 100000
namespace Nv
open Go
structure TInterval where
  fLo : Int
  fHi : Int
  deriving Inhabited
def c_TInterval (x : TInterval) : List D := [.int .u32 x.fLo, .int .u32 x.fHi]
structure TPrefix where
  fAddr : Int
  fLen : Int
  deriving Inhabited
def c_TPrefix (x : TPrefix) : List D := [.int .u32 x.fAddr, .int .i64 x.fLen]

/- netverify/netverifylaw3.few -/
noncomputable def M.law3_few (a0 : List TInterval) (a1 : List TInterval) : Option Bool :=
  some ((decide ((a0.length : Int) ≤ 30)) && (decide ((a1.length : Int) ≤ 30)))

/- slices.Grow[[]netverify/api.Interval,netverify/api.Interval] -/
noncomputable def M.slices_Grow_api_Interval_api_Interval (_a0 : List TInterval) (a1 : Int) : Option (List TInterval) :=
  gd [decide (0 ≤ a1), decide (a1 * 8 ≤ 140737488355328)] (some [])

/- slices.Concat[[]netverify/api.Interval,netverify/api.Interval] -/
noncomputable def M.slices_Concat_api_Interval_api_Interval_k1 (a0 : List (List TInterval)) (p1 : Int × Int) (_p3 : Unit) : Option ((Int × Int) ⊕ Int) :=
  some (.inl (wr .i64 (p1.1 + ((a0.getD p1.2.toNat default).length : Int)), wr .i64 (p1.2 + 1)))
noncomputable def M.slices_Concat_api_Interval_api_Interval_l1 (a0 : List (List TInterval)) (p1 : Int × Int) : Option ((Int × Int) ⊕ Int) :=
  bif decide (p1.2 < (a0.length : Int)) then (gd [decide (0 ≤ p1.2), decide (p1.2 < (a0.length : Int))] (bif decide ((wr .i64 (p1.1 + ((a0.getD p1.2.toNat default).length : Int))) < 0) then none else (M.slices_Concat_api_Interval_api_Interval_k1 a0 p1 ()))) else (some (.inr p1.1))
noncomputable def M.slices_Concat_api_Interval_api_Interval_l2 (a0 : List (List TInterval)) (p6 : (List TInterval) × Int) : Option (((List TInterval) × Int) ⊕ (List TInterval)) :=
  bif decide (p6.2 < (a0.length : Int)) then (gd [decide (0 ≤ p6.2), decide (p6.2 < (a0.length : Int))] (gd [decide ((p6.1.length + ((a0.getD p6.2.toNat default).length)) * 8 ≤ 140737488355328)] (some (.inl (p6.1 ++ (a0.getD p6.2.toNat default), wr .i64 (p6.2 + 1)))))) else (some (.inr p6.1))
noncomputable def M.slices_Concat_api_Interval_api_Interval (a0 : List (List TInterval)) : Option (List TInterval) :=
  (loopM (M.slices_Concat_api_Interval_api_Interval_l1 a0) (0, 0)).bind fun y4 => (M.slices_Grow_api_Interval_api_Interval ([] : List TInterval) y4).bind fun r5 => (loopM (M.slices_Concat_api_Interval_api_Interval_l2 a0) (r5, 0)).bind fun y8 => some y8

/- cmp.isNaN[uint32] -/
noncomputable def M.cmp_isNaN_uint32 (a0 : Int) : Option Bool :=
  some (a0 != a0)

/- cmp.Compare[uint32] -/
noncomputable def M.cmp_Compare_uint32 (a0 : Int) (a1 : Int) : Option Int :=
  (M.cmp_isNaN_uint32 a0).bind fun r1 => (M.cmp_isNaN_uint32 a1).bind fun r2 => bif r1 then (bif r2 then (some 0) else (some (-1))) else (bif r2 then (some 1) else (bif decide (a0 < a1) then (some (-1)) else (bif decide (a0 > a1) then (some 1) else (some 0))))

/- netverify/interval.Normalize$1 -/
noncomputable def M.interval_Normalize_1 (a0 : TInterval) (a1 : TInterval) : Option Int :=
  (M.cmp_Compare_uint32 a0.fLo a1.fLo).bind fun r1 => some r1

/- slices.SortFunc[[]netverify/api.Interval,netverify/api.Interval] -/
noncomputable def M.slices_SortFunc_api_Interval_api_Interval__interval_Normalize_1 (a0 : List TInterval) : Option (List TInterval) :=
  sortM M.interval_Normalize_1 a0

/- netverify/interval.Normalize -/
noncomputable def M.interval_Normalize_k1 (p1 : (List TInterval) × Int) (p3 : (List TInterval)) : Option (((List TInterval) × Int) ⊕ (List TInterval)) :=
  some (.inl (p3, wr .i64 (p1.2 + 1)))
noncomputable def M.interval_Normalize_l1 (a0 : List TInterval) (p1 : (List TInterval) × Int) : Option (((List TInterval) × Int) ⊕ (List TInterval)) :=
  bif decide (p1.2 < (a0.length : Int)) then (gd [decide (0 ≤ p1.2), decide (p1.2 < (a0.length : Int))] (bif decide (((a0.getD p1.2.toNat default).fLo) ≤ ((a0.getD p1.2.toNat default).fHi)) then (gd [decide ((p1.1.length + 1) * 8 ≤ 140737488355328)] (M.interval_Normalize_k1 p1 (p1.1 ++ [a0.getD p1.2.toNat default]))) else (M.interval_Normalize_k1 p1 p1.1))) else (some (.inr p1.1))
noncomputable def M.interval_Normalize_k2 (p6 : (List TInterval) × Int) (p8 : (List TInterval)) : Option (((List TInterval) × Int) ⊕ (List TInterval)) :=
  some (.inl (p8, wr .i64 (p6.2 + 1)))
noncomputable def M.interval_Normalize_l2 (r5 : (List TInterval)) (p6 : (List TInterval) × Int) : Option (((List TInterval) × Int) ⊕ (List TInterval)) :=
  bif decide (p6.2 < (r5.length : Int)) then (gd [decide (0 ≤ p6.2), decide (p6.2 < (r5.length : Int))] (gd [guardB (decide ((wr .i64 ((p6.1.length : Int) - 1)) ≥ 0)) (decide (0 ≤ (wr .i64 ((p6.1.length : Int) - 1)))), guardB (decide ((wr .i64 ((p6.1.length : Int) - 1)) ≥ 0)) (decide ((wr .i64 ((p6.1.length : Int) - 1)) < (p6.1.length : Int)))] (bif (decide ((wr .i64 ((p6.1.length : Int) - 1)) ≥ 0)) && (decide ((wr .u64 ((r5.getD (0 + p6.2.toNat) default).fLo)) ≤ (wr .u64 ((wr .u64 ((p6.1.getD (0 + (wr .i64 ((p6.1.length : Int) - 1)).toNat) default).fHi)) + 1)))) then (gd [decide (0 ≤ (wr .i64 ((p6.1.length : Int) - 1))), decide ((wr .i64 ((p6.1.length : Int) - 1)) < (p6.1.length : Int)), decide (0 ≤ (wr .i64 ((p6.1.length : Int) - 1))), decide ((wr .i64 ((p6.1.length : Int) - 1)) < (p6.1.length : Int))] (M.interval_Normalize_k2 p6 (p6.1.set (0 + (wr .i64 ((p6.1.length : Int) - 1)).toNat) (⟨(p6.1.getD (0 + (wr .i64 ((p6.1.length : Int) - 1)).toNat) default).fLo, if ((r5.getD (0 + p6.2.toNat) default).fHi) > ((p6.1.getD (0 + (wr .i64 ((p6.1.length : Int) - 1)).toNat) default).fHi) then ((r5.getD (0 + p6.2.toNat) default).fHi) else ((p6.1.getD (0 + (wr .i64 ((p6.1.length : Int) - 1)).toNat) default).fHi)⟩ : TInterval)))) else (gd [decide ((p6.1.length + 1) * 8 ≤ 140737488355328)] (M.interval_Normalize_k2 p6 (p6.1 ++ [r5.getD (0 + p6.2.toNat) default])))))) else (some (.inr p6.1))
noncomputable def M.interval_Normalize (a0 : List TInterval) : Option (List TInterval) :=
  gd [decide (0 ≤ 0), decide (0 ≤ (a0.length : Int)), decide ((a0.length : Int).toNat * 8 ≤ 140737488355328), decide ((a0.length : Int).toNat ≤ 140737488355328)] ((loopM (M.interval_Normalize_l1 a0) (List.replicate ((0 : Int).toNat) (⟨0, 0⟩ : TInterval), 0)).bind fun y4 => (M.slices_SortFunc_api_Interval_api_Interval__interval_Normalize_1 y4).bind fun r5 => gd [decide (r5.length = y4.length)] ((loopM (M.interval_Normalize_l2 r5) (([] : List TInterval), 0)).bind fun y9 => some y9))

/- netverify/interval.Union -/
noncomputable def M.interval_Union (a0 : List TInterval) (a1 : List TInterval) : Option (List TInterval) :=
  (M.slices_Concat_api_Interval_api_Interval ([a0, a1] : List (List TInterval))).bind fun r1 => (M.interval_Normalize r1).bind fun r2 => some r2

/- netverify/netverifyref4.Normalize -/
noncomputable def M.ref4_Normalize_k1 (p3 : Int × Int) (p5 : Int) : Option ((Int × Int) ⊕ Int) :=
  some (.inl (p5, wr .i64 (p3.2 + 1)))
noncomputable def M.ref4_Normalize_l2 (a0 : List TInterval) (p1 : (List TInterval) × Int) (p3 : Int × Int) : Option ((Int × Int) ⊕ Int) :=
  bif decide (p3.2 < (a0.length : Int)) then (gd [decide (0 ≤ p3.2), decide (p3.2 < (a0.length : Int)), decide (0 ≤ p3.2), decide (p3.2 < (a0.length : Int)), guardB (decide (((a0.getD p3.2.toNat default).fLo) ≤ ((a0.getD p3.2.toNat default).fHi))) (decide (0 ≤ p3.2)), guardB (decide (((a0.getD p3.2.toNat default).fLo) ≤ ((a0.getD p3.2.toNat default).fHi))) (decide (p3.2 < (a0.length : Int)))] (bif (decide (((a0.getD p3.2.toNat default).fLo) ≤ ((a0.getD p3.2.toNat default).fHi))) && (decide ((wr .u64 ((a0.getD p3.2.toNat default).fHi)) ≥ p1.2)) then (gd [decide (0 ≤ p3.2), decide (p3.2 < (a0.length : Int))] (M.ref4_Normalize_k1 p3 (if (if p1.2 > (wr .u64 ((a0.getD p3.2.toNat default).fLo)) then p1.2 else (wr .u64 ((a0.getD p3.2.toNat default).fLo))) < p3.1 then (if p1.2 > (wr .u64 ((a0.getD p3.2.toNat default).fLo)) then p1.2 else (wr .u64 ((a0.getD p3.2.toNat default).fLo))) else p3.1))) else (M.ref4_Normalize_k1 p3 p3.1))) else (some (.inr p3.1))
noncomputable def M.ref4_Normalize_k2 (p9 : Int × Bool × Int) (p11 : Int × Bool) : Option ((Int × Bool × Int) ⊕ (Int × Bool)) :=
  some (.inl (p11.1, p11.2, wr .i64 (p9.2.2 + 1)))
noncomputable def M.ref4_Normalize_l4 (a0 : List TInterval) (p9 : Int × Bool × Int) : Option ((Int × Bool × Int) ⊕ (Int × Bool)) :=
  bif decide (p9.2.2 < (a0.length : Int)) then (gd [decide (0 ≤ p9.2.2), decide (p9.2.2 < (a0.length : Int)), decide (0 ≤ p9.2.2), decide (p9.2.2 < (a0.length : Int)), guardB (decide (((a0.getD p9.2.2.toNat default).fLo) ≤ ((a0.getD p9.2.2.toNat default).fHi))) (decide (0 ≤ p9.2.2)), guardB (decide (((a0.getD p9.2.2.toNat default).fLo) ≤ ((a0.getD p9.2.2.toNat default).fHi))) (decide (p9.2.2 < (a0.length : Int))), guardB ((decide (((a0.getD p9.2.2.toNat default).fLo) ≤ ((a0.getD p9.2.2.toNat default).fHi))) && (decide ((wr .u64 ((a0.getD p9.2.2.toNat default).fLo)) ≤ (wr .u64 (p9.1 + 1))))) (decide (0 ≤ p9.2.2)), guardB ((decide (((a0.getD p9.2.2.toNat default).fLo) ≤ ((a0.getD p9.2.2.toNat default).fHi))) && (decide ((wr .u64 ((a0.getD p9.2.2.toNat default).fLo)) ≤ (wr .u64 (p9.1 + 1))))) (decide (p9.2.2 < (a0.length : Int)))] (bif ((decide (((a0.getD p9.2.2.toNat default).fLo) ≤ ((a0.getD p9.2.2.toNat default).fHi))) && (decide ((wr .u64 ((a0.getD p9.2.2.toNat default).fLo)) ≤ (wr .u64 (p9.1 + 1))))) && (decide ((wr .u64 ((a0.getD p9.2.2.toNat default).fHi)) > p9.1)) then (gd [decide (0 ≤ p9.2.2), decide (p9.2.2 < (a0.length : Int))] (M.ref4_Normalize_k2 p9 (wr .u64 ((a0.getD p9.2.2.toNat default).fHi), true))) else (M.ref4_Normalize_k2 p9 (p9.1, p9.2.1)))) else (some (.inr (p9.1, p9.2.1)))
noncomputable def M.ref4_Normalize_l3 (a0 : List TInterval) (p7 : Int × Bool) : Option ((Int × Bool) ⊕ Int) :=
  bif p7.2 then ((loopM (M.ref4_Normalize_l4 a0) (p7.1, false, 0)).bind fun y12 => some (.inl (y12.1, y12.2))) else (some (.inr p7.1))
noncomputable def M.ref4_Normalize_l1 (a0 : List TInterval) (p1 : (List TInterval) × Int) : Option (((List TInterval) × Int) ⊕ (List TInterval)) :=
  (loopM (M.ref4_Normalize_l2 a0 p1) (4294967296, 0)).bind fun y6 => bif y6 == 4294967296 then (some (.inr p1.1)) else ((loopM (M.ref4_Normalize_l3 a0) (y6, true)).bind fun y13 => gd [decide ((p1.1.length + 1) * 8 ≤ 140737488355328)] (some (.inl (p1.1 ++ [(⟨wr .u32 y6, wr .u32 y13⟩ : TInterval)], wr .u64 (y13 + 1)))))
noncomputable def M.ref4_Normalize (a0 : List TInterval) : Option (List TInterval) :=
  (loopM (M.ref4_Normalize_l1 a0) (([] : List TInterval), 0)).bind fun y14 => some y14

/- netverify/netverifyref4.Union -/
noncomputable def M.ref4_Union (a0 : List TInterval) (a1 : List TInterval) : Option (List TInterval) :=
  gd [decide (0 = 0) || decide (0 < a0.length), decide ((0 + a0.length) * 8 ≤ 140737488355328), decide (((0 + a0.length) + a1.length) * 8 ≤ 140737488355328)] ((M.ref4_Normalize ((a0 : List TInterval) ++ a1)).bind fun r1 => some r1)

/- netverify/netverifykeep.Intervals -/
noncomputable def M.keep_Intervals_l1 (a0 : List TInterval) (a1 : List TInterval) (p1 : Int) : Option (Int ⊕ (Unit ⊕ Bool)) :=
  bif decide (p1 < (a0.length : Int)) then (gd [decide (0 ≤ p1), decide (p1 < (a0.length : Int)), decide (0 ≤ p1), decide (p1 < (a1.length : Int))] (bif !((((a0.getD p1.toNat default).fLo) == ((a1.getD p1.toNat default).fLo)) && ((((a0.getD p1.toNat default).fHi) == ((a1.getD p1.toNat default).fHi)) && true)) then (some (.inr (.inr false))) else (some (.inl (wr .i64 (p1 + 1)))))) else (some (.inr (.inl ())))
noncomputable def M.keep_Intervals (a0 : List TInterval) (a1 : List TInterval) : Option Bool :=
  bif (a0.length : Int) != (a1.length : Int) then (some false) else ((loopM (M.keep_Intervals_l1 a0 a1) 0).bind fun y3 => Sum.elim (fun _ => some true) (fun y5 => some y5) y3)

/- netverify/interval.Intersect -/
noncomputable def M.interval_Intersect_k1 (r1 : (List TInterval)) (r2 : (List TInterval)) (p3 : (List TInterval) × Int × Int) (p5 : (List TInterval)) : Option (((List TInterval) × Int × Int) ⊕ (List TInterval)) :=
  gd [decide (0 ≤ p3.2.1), decide (p3.2.1 < (r1.length : Int)), decide (0 ≤ p3.2.2), decide (p3.2.2 < (r2.length : Int))] (bif decide (((r1.getD p3.2.1.toNat default).fHi) < ((r2.getD p3.2.2.toNat default).fHi)) then (some (.inl (p5, wr .i64 (p3.2.1 + 1), p3.2.2))) else (some (.inl (p5, p3.2.1, wr .i64 (p3.2.2 + 1)))))
noncomputable def M.interval_Intersect_l1 (r1 : (List TInterval)) (r2 : (List TInterval)) (p3 : (List TInterval) × Int × Int) : Option (((List TInterval) × Int × Int) ⊕ (List TInterval)) :=
  bif (decide (p3.2.1 < (r1.length : Int))) && (decide (p3.2.2 < (r2.length : Int))) then (gd [decide (0 ≤ p3.2.1), decide (p3.2.1 < (r1.length : Int)), decide (0 ≤ p3.2.2), decide (p3.2.2 < (r2.length : Int)), decide (0 ≤ p3.2.1), decide (p3.2.1 < (r1.length : Int)), decide (0 ≤ p3.2.2), decide (p3.2.2 < (r2.length : Int))] (bif decide ((if ((r2.getD p3.2.2.toNat default).fLo) > ((r1.getD p3.2.1.toNat default).fLo) then ((r2.getD p3.2.2.toNat default).fLo) else ((r1.getD p3.2.1.toNat default).fLo)) ≤ (if ((r2.getD p3.2.2.toNat default).fHi) < ((r1.getD p3.2.1.toNat default).fHi) then ((r2.getD p3.2.2.toNat default).fHi) else ((r1.getD p3.2.1.toNat default).fHi))) then (gd [decide ((p3.1.length + 1) * 8 ≤ 140737488355328)] (M.interval_Intersect_k1 r1 r2 p3 (p3.1 ++ [(⟨if ((r2.getD p3.2.2.toNat default).fLo) > ((r1.getD p3.2.1.toNat default).fLo) then ((r2.getD p3.2.2.toNat default).fLo) else ((r1.getD p3.2.1.toNat default).fLo), if ((r2.getD p3.2.2.toNat default).fHi) < ((r1.getD p3.2.1.toNat default).fHi) then ((r2.getD p3.2.2.toNat default).fHi) else ((r1.getD p3.2.1.toNat default).fHi)⟩ : TInterval)]))) else (M.interval_Intersect_k1 r1 r2 p3 p3.1))) else (some (.inr p3.1))
noncomputable def M.interval_Intersect (a0 : List TInterval) (a1 : List TInterval) : Option (List TInterval) :=
  (M.interval_Normalize a0).bind fun r1 => (M.interval_Normalize a1).bind fun r2 => (loopM (M.interval_Intersect_l1 r1 r2) (([] : List TInterval), 0, 0)).bind fun y6 => some y6

/- netverify/netverifyref4.Intersect -/
noncomputable def M.ref4_Intersect_k1 (p3 : (List TInterval) × Int) (p5 : (List TInterval)) : Option (((List TInterval) × Int) ⊕ (List TInterval)) :=
  some (.inl (p5, wr .i64 (p3.2 + 1)))
noncomputable def M.ref4_Intersect_l2 (a0 : List TInterval) (a1 : List TInterval) (p1 : (List TInterval) × Int) (p3 : (List TInterval) × Int) : Option (((List TInterval) × Int) ⊕ (List TInterval)) :=
  bif decide (p3.2 < (a1.length : Int)) then (gd [decide (0 ≤ p1.2), decide (p1.2 < (a0.length : Int)), decide (0 ≤ p1.2), decide (p1.2 < (a0.length : Int)), guardB (decide (((a0.getD p1.2.toNat default).fLo) ≤ ((a0.getD p1.2.toNat default).fHi))) (decide (0 ≤ p3.2)), guardB (decide (((a0.getD p1.2.toNat default).fLo) ≤ ((a0.getD p1.2.toNat default).fHi))) (decide (p3.2 < (a1.length : Int))), guardB (decide (((a0.getD p1.2.toNat default).fLo) ≤ ((a0.getD p1.2.toNat default).fHi))) (decide (0 ≤ p3.2)), guardB (decide (((a0.getD p1.2.toNat default).fLo) ≤ ((a0.getD p1.2.toNat default).fHi))) (decide (p3.2 < (a1.length : Int)))] (bif (decide (((a0.getD p1.2.toNat default).fLo) ≤ ((a0.getD p1.2.toNat default).fHi))) && (decide (((a1.getD p3.2.toNat default).fLo) ≤ ((a1.getD p3.2.toNat default).fHi))) then (gd [decide (0 ≤ p1.2), decide (p1.2 < (a0.length : Int)), decide (0 ≤ p3.2), decide (p3.2 < (a1.length : Int)), decide (0 ≤ p1.2), decide (p1.2 < (a0.length : Int)), decide (0 ≤ p3.2), decide (p3.2 < (a1.length : Int)), decide ((p3.1.length + 1) * 8 ≤ 140737488355328)] (M.ref4_Intersect_k1 p3 (p3.1 ++ [(⟨if ((a1.getD p3.2.toNat default).fLo) > ((a0.getD p1.2.toNat default).fLo) then ((a1.getD p3.2.toNat default).fLo) else ((a0.getD p1.2.toNat default).fLo), if ((a1.getD p3.2.toNat default).fHi) < ((a0.getD p1.2.toNat default).fHi) then ((a1.getD p3.2.toNat default).fHi) else ((a0.getD p1.2.toNat default).fHi)⟩ : TInterval)]))) else (M.ref4_Intersect_k1 p3 p3.1))) else (some (.inr p3.1))
noncomputable def M.ref4_Intersect_l1 (a0 : List TInterval) (a1 : List TInterval) (p1 : (List TInterval) × Int) : Option (((List TInterval) × Int) ⊕ (List TInterval)) :=
  bif decide (p1.2 < (a0.length : Int)) then ((loopM (M.ref4_Intersect_l2 a0 a1 p1) (p1.1, 0)).bind fun y6 => some (.inl (y6, wr .i64 (p1.2 + 1)))) else (some (.inr p1.1))
noncomputable def M.ref4_Intersect (a0 : List TInterval) (a1 : List TInterval) : Option (List TInterval) :=
  (loopM (M.ref4_Intersect_l1 a0 a1) (([] : List TInterval), 0)).bind fun y7 => (M.ref4_Normalize y7).bind fun r8 => some r8

/- netverify/interval.Complement -/
noncomputable def M.interval_Complement_k1 (r1 : (List TInterval)) (p2 : (List TInterval) × Int × Int) (p4 : (List TInterval)) : Option (((List TInterval) × Int × Int) ⊕ (Int × (List TInterval))) :=
  some (.inl (p4, wr .u64 ((wr .u64 ((r1.getD p2.2.2.toNat default).fHi)) + 1), wr .i64 (p2.2.2 + 1)))
noncomputable def M.interval_Complement_l1 (r1 : (List TInterval)) (p2 : (List TInterval) × Int × Int) : Option (((List TInterval) × Int × Int) ⊕ (Int × (List TInterval))) :=
  bif decide (p2.2.2 < (r1.length : Int)) then (gd [decide (0 ≤ p2.2.2), decide (p2.2.2 < (r1.length : Int))] (bif decide ((wr .u64 ((r1.getD p2.2.2.toNat default).fLo)) > p2.2.1) then (gd [decide ((p2.1.length + 1) * 8 ≤ 140737488355328)] (M.interval_Complement_k1 r1 p2 (p2.1 ++ [(⟨wr .u32 p2.2.1, wr .u32 (((r1.getD p2.2.2.toNat default).fLo) - 1)⟩ : TInterval)]))) else (M.interval_Complement_k1 r1 p2 p2.1))) else (some (.inr (p2.2.1, p2.1)))
noncomputable def M.interval_Complement_k2 (p6 : (List TInterval)) : Option (List TInterval) :=
  some p6
noncomputable def M.interval_Complement (a0 : List TInterval) : Option (List TInterval) :=
  (M.interval_Normalize a0).bind fun r1 => (loopM (M.interval_Complement_l1 r1) (([] : List TInterval), 0, 0)).bind fun y5 => bif decide (y5.1 ≤ 4294967295) then (gd [decide ((y5.2.length + 1) * 8 ≤ 140737488355328)] (M.interval_Complement_k2 (y5.2 ++ [(⟨wr .u32 y5.1, 4294967295⟩ : TInterval)]))) else (M.interval_Complement_k2 y5.2)

/- netverify/interval.Subtract -/
noncomputable def M.interval_Subtract (a0 : List TInterval) (a1 : List TInterval) : Option (List TInterval) :=
  (M.interval_Complement a1).bind fun r1 => (M.interval_Intersect a0 r1).bind fun r2 => some r2

/- netverify/netverifyref4.Complement -/
noncomputable def M.ref4_Complement_k1 (r1 : (List TInterval)) (p2 : (List TInterval) × Int × Int) (p4 : (List TInterval)) : Option (((List TInterval) × Int × Int) ⊕ (Int × (List TInterval))) :=
  gd [decide (0 ≤ p2.2.2), decide (p2.2.2 < (r1.length : Int))] (some (.inl (p4, wr .u64 ((wr .u64 ((r1.getD p2.2.2.toNat default).fHi)) + 1), wr .i64 (p2.2.2 + 1))))
noncomputable def M.ref4_Complement_l1 (r1 : (List TInterval)) (p2 : (List TInterval) × Int × Int) : Option (((List TInterval) × Int × Int) ⊕ (Int × (List TInterval))) :=
  bif decide (p2.2.2 < (r1.length : Int)) then (gd [decide (0 ≤ p2.2.2), decide (p2.2.2 < (r1.length : Int))] (bif decide ((wr .u64 ((r1.getD p2.2.2.toNat default).fLo)) > p2.2.1) then (gd [decide (0 ≤ p2.2.2), decide (p2.2.2 < (r1.length : Int)), decide ((p2.1.length + 1) * 8 ≤ 140737488355328)] (M.ref4_Complement_k1 r1 p2 (p2.1 ++ [(⟨wr .u32 p2.2.1, wr .u32 (((r1.getD p2.2.2.toNat default).fLo) - 1)⟩ : TInterval)]))) else (M.ref4_Complement_k1 r1 p2 p2.1))) else (some (.inr (p2.2.1, p2.1)))
noncomputable def M.ref4_Complement_k2 (p6 : (List TInterval)) : Option (List TInterval) :=
  some p6
noncomputable def M.ref4_Complement (a0 : List TInterval) : Option (List TInterval) :=
  (M.ref4_Normalize a0).bind fun r1 => (loopM (M.ref4_Complement_l1 r1) (([] : List TInterval), 0, 0)).bind fun y5 => bif decide (y5.1 < 4294967296) then (gd [decide ((y5.2.length + 1) * 8 ≤ 140737488355328)] (M.ref4_Complement_k2 (y5.2 ++ [(⟨wr .u32 y5.1, 4294967295⟩ : TInterval)]))) else (M.ref4_Complement_k2 y5.2)

/- netverify/netverifyref4.Subtract -/
noncomputable def M.ref4_Subtract (a0 : List TInterval) (a1 : List TInterval) : Option (List TInterval) :=
  (M.ref4_Complement a1).bind fun r1 => (M.ref4_Intersect a0 r1).bind fun r2 => some r2

/- netverify/interval.Size -/
noncomputable def M.interval_Size_l1 (r1 : (List TInterval)) (p2 : Int × Int) : Option ((Int × Int) ⊕ Int) :=
  bif decide (p2.2 < (r1.length : Int)) then (gd [decide (0 ≤ p2.2), decide (p2.2 < (r1.length : Int))] (some (.inl (wr .u64 (p2.1 + (wr .u64 ((wr .u64 ((wr .u64 ((r1.getD p2.2.toNat default).fHi)) - (wr .u64 ((r1.getD p2.2.toNat default).fLo)))) + 1))), wr .i64 (p2.2 + 1))))) else (some (.inr p2.1))
noncomputable def M.interval_Size (a0 : List TInterval) : Option Int :=
  (M.interval_Normalize a0).bind fun r1 => (loopM (M.interval_Size_l1 r1) (0, 0)).bind fun y4 => some y4

/- netverify/netverifyref4.Size -/
noncomputable def M.ref4_Size_l1 (r1 : (List TInterval)) (p2 : Int × Int) : Option ((Int × Int) ⊕ Int) :=
  bif decide (p2.2 < (r1.length : Int)) then (gd [decide (0 ≤ p2.2), decide (p2.2 < (r1.length : Int)), decide (0 ≤ p2.2), decide (p2.2 < (r1.length : Int))] (some (.inl (wr .u64 ((wr .u64 ((wr .u64 (p2.1 + (wr .u64 ((r1.getD p2.2.toNat default).fHi)))) - (wr .u64 ((r1.getD p2.2.toNat default).fLo)))) + 1), wr .i64 (p2.2 + 1))))) else (some (.inr p2.1))
noncomputable def M.ref4_Size (a0 : List TInterval) : Option Int :=
  (M.ref4_Normalize a0).bind fun r1 => (loopM (M.ref4_Size_l1 r1) (0, 0)).bind fun y4 => some y4

/- netverify/interval.Has$1 -/
noncomputable def M.interval_Has_1 (a0 : TInterval) (b0 : Int) : Option Bool :=
  some ((decide (a0.fLo ≤ b0)) && (decide (b0 ≤ a0.fHi)))

/- slices.IndexFunc[[]netverify/api.Interval,netverify/api.Interval] -/
noncomputable def M.slices_IndexFunc_api_Interval_api_Interval__interval_Has_1_l1 (a0 : List TInterval) (a1c0 : Int) (p1 : Int) : Option (Int ⊕ (Unit ⊕ Int)) :=
  bif decide (p1 < (a0.length : Int)) then ((M.interval_Has_1 (a0.getD p1.toNat default) a1c0).bind fun r3 => gd [decide (0 ≤ p1), decide (p1 < (a0.length : Int))] (bif r3 then (some (.inr (.inr p1))) else (some (.inl (wr .i64 (p1 + 1)))))) else (some (.inr (.inl ())))
noncomputable def M.slices_IndexFunc_api_Interval_api_Interval__interval_Has_1 (a0 : List TInterval) (a1c0 : Int) : Option Int :=
  (loopM (M.slices_IndexFunc_api_Interval_api_Interval__interval_Has_1_l1 a0 a1c0) 0).bind fun y4 => Sum.elim (fun _ => some (-1)) (fun y6 => some y6) y4

/- slices.ContainsFunc[[]netverify/api.Interval,netverify/api.Interval] -/
noncomputable def M.slices_ContainsFunc_api_Interval_api_Interval__interval_Has_1 (a0 : List TInterval) (a1c0 : Int) : Option Bool :=
  (M.slices_IndexFunc_api_Interval_api_Interval__interval_Has_1 a0 a1c0).bind fun r1 => some (decide (r1 ≥ 0))

/- netverify/interval.Has -/
noncomputable def M.interval_Has (a0 : List TInterval) (a1 : Int) : Option Bool :=
  (M.slices_ContainsFunc_api_Interval_api_Interval__interval_Has_1 a0 a1).bind fun r1 => some r1

/- math/bits.TrailingZeros64 -/
noncomputable def M.math_bits_TrailingZeros64 (a0 : Int) : Option Int :=
  gd [decide (0 ≤ a0), decide (a0 < 18446744073709551616)] (some ((Lib.ctz 64 a0.toNat : Nat) : Int))

/- netverify/interval.Prefixes -/
noncomputable def M.interval_Prefixes_l3 (r1 : (List TInterval)) (p2 : (List TPrefix) × Int) (p4 : (List TPrefix) × Int) (p7 : Int) : Option (Int ⊕ Int) :=
  gd [decide (0 ≤ p7)] (bif decide ((wr .u64 (p4.2 + (wr .u64 (1 * 2 ^ min p7.toNat 64)))) > (wr .u64 ((wr .u64 ((r1.getD p2.2.toNat default).fHi)) + 1))) then (some (.inl (wr .i64 (p7 - 1)))) else (some (.inr p7)))
noncomputable def M.interval_Prefixes_k1 (r1 : (List TInterval)) (p2 : (List TPrefix) × Int) (p4 : (List TPrefix) × Int) (p6 : Int) : Option (((List TPrefix) × Int) ⊕ (List TPrefix)) :=
  (loopM (M.interval_Prefixes_l3 r1 p2 p4) p6).bind fun y9 => gd [decide ((p4.1.length + 1) * 16 ≤ 140737488355328)] (gd [decide (0 ≤ y9)] (some (.inl (p4.1 ++ [(⟨wr .u32 p4.2, wr .i64 (32 - y9)⟩ : TPrefix)], wr .u64 (p4.2 + (wr .u64 (1 * 2 ^ min y9.toNat 64)))))))
noncomputable def M.interval_Prefixes_l2 (r1 : (List TInterval)) (p2 : (List TPrefix) × Int) (p4 : (List TPrefix) × Int) : Option (((List TPrefix) × Int) ⊕ (List TPrefix)) :=
  bif decide (p4.2 < (wr .u64 ((wr .u64 ((r1.getD p2.2.toNat default).fHi)) + 1))) then (bif decide (p4.2 > 0) then ((M.math_bits_TrailingZeros64 p4.2).bind fun r10 => M.interval_Prefixes_k1 r1 p2 p4 r10) else (M.interval_Prefixes_k1 r1 p2 p4 32)) else (some (.inr p4.1))
noncomputable def M.interval_Prefixes_l1 (r1 : (List TInterval)) (p2 : (List TPrefix) × Int) : Option (((List TPrefix) × Int) ⊕ (List TPrefix)) :=
  bif decide (p2.2 < (r1.length : Int)) then (gd [decide (0 ≤ p2.2), decide (p2.2 < (r1.length : Int))] ((loopM (M.interval_Prefixes_l2 r1 p2) (p2.1, wr .u64 ((r1.getD p2.2.toNat default).fLo))).bind fun y11 => some (.inl (y11, wr .i64 (p2.2 + 1))))) else (some (.inr p2.1))
noncomputable def M.interval_Prefixes (a0 : List TInterval) : Option (List TPrefix) :=
  (M.interval_Normalize a0).bind fun r1 => (loopM (M.interval_Prefixes_l1 r1) (([] : List TPrefix), 0)).bind fun y12 => some y12

/- netverify/netverifylaw3.sane -/
noncomputable def M.law3_sane  : Option Bool :=
  (M.interval_Normalize ([(⟨5, 9⟩ : TInterval), (⟨1, 4⟩ : TInterval), (⟨20, 11⟩ : TInterval)] : List TInterval)).bind fun r1 => (gc (((r1.length : Int) == 1) && ((((r1.getD (0 : Int).toNat default).fLo) == 1) && ((((r1.getD (0 : Int).toNat default).fHi) == 9) && true))) (M.interval_Has r1 5)).bind fun r2 => (gc ((((r1.length : Int) == 1) && ((((r1.getD (0 : Int).toNat default).fLo) == 1) && ((((r1.getD (0 : Int).toNat default).fHi) == 9) && true))) && r2) (M.interval_Has r1 10)).bind fun r3 => (gc (((((r1.length : Int) == 1) && ((((r1.getD (0 : Int).toNat default).fLo) == 1) && ((((r1.getD (0 : Int).toNat default).fHi) == 9) && true))) && r2) && (!r3)) (M.interval_Size r1)).bind fun r4 => (gc ((((((r1.length : Int) == 1) && ((((r1.getD (0 : Int).toNat default).fLo) == 1) && ((((r1.getD (0 : Int).toNat default).fHi) == 9) && true))) && r2) && (!r3)) && (r4 == 9)) (M.interval_Prefixes r1)).bind fun r5 => gd [guardB ((r1.length : Int) == 1) (decide (0 ≤ 0)), guardB ((r1.length : Int) == 1) (decide (0 < (r1.length : Int)))] (some (((((((r1.length : Int) == 1) && ((((r1.getD (0 : Int).toNat default).fLo) == 1) && ((((r1.getD (0 : Int).toNat default).fHi) == 9) && true))) && r2) && (!r3)) && (r4 == 9)) && ((r5.length : Int) == 4)))

/- netverify/netverifylaw3.IntervalExact -/
noncomputable def M.law3_IntervalExact (a0 : List TInterval) (a1 : List TInterval) : Option Bool :=
  (M.law3_few a0 a1).bind fun r1 => bif !r1 then (some true) else ((M.interval_Union a0 a1).bind fun r2 => (M.ref4_Union a0 a1).bind fun r3 => (M.keep_Intervals r2 r3).bind fun r4 => (gc r4 (M.interval_Intersect a0 a1)).bind fun r5 => (gc r4 (M.ref4_Intersect a0 a1)).bind fun r6 => (gc r4 (M.keep_Intervals r5 r6)).bind fun r7 => (gc (r4 && r7) (M.interval_Subtract a0 a1)).bind fun r8 => (gc (r4 && r7) (M.ref4_Subtract a0 a1)).bind fun r9 => (gc (r4 && r7) (M.keep_Intervals r8 r9)).bind fun r10 => (gc ((r4 && r7) && r10) (M.interval_Complement a0)).bind fun r11 => (gc ((r4 && r7) && r10) (M.ref4_Complement a0)).bind fun r12 => (gc ((r4 && r7) && r10) (M.keep_Intervals r11 r12)).bind fun r13 => (gc (((r4 && r7) && r10) && r13) (M.interval_Size a0)).bind fun r14 => (gc (((r4 && r7) && r10) && r13) (M.ref4_Size a0)).bind fun r15 => (gc ((((r4 && r7) && r10) && r13) && (r14 == r15)) M.law3_sane).bind fun r16 => some (((((r4 && r7) && r10) && r13) && (r14 == r15)) && r16))
end Nv
