/- The mirrors: what each function of the given program computes, in plain terms. -/
import Derived.Test.YtpggnodnpjejlaaDoorNvLibB
import Derived.Lib.TrailingZeros
import Derived.Test.YtpggnodnpjejlaaDoorNvLibC
set_option maxRecDepth 100000
namespace Nv
open Go
structure TInterval where
  fLo : Int
  fHi : Int
  deriving Inhabited
def c_TInterval (x : TInterval) : List D := [.int .u32 x.fLo, .int .u32 x.fHi]
structure TPrefix where
  fAddr : Int
  fLen : Int
  deriving Inhabited
def c_TPrefix (x : TPrefix) : List D := [.int .u32 x.fAddr, .int .i64 x.fLen]
noncomputable def M.law3_few (a0 : List TInterval) (a1 : List TInterval) : Option Bool :=
  some ((decide ((a0.length : Int) ≤ 30)) && (decide ((a1.length : Int) ≤ 30)))
noncomputable def M.cmp_isNaN_uint32 (a0 : Int) : Option Bool :=
  some (a0 != a0)
noncomputable def M.cmp_Compare_uint32 (a0 : Int) (a1 : Int) : Option Int :=
  (M.cmp_isNaN_uint32 a0).bind fun r1 => (M.cmp_isNaN_uint32 a1).bind fun r2 => bif r1 then (bif r2 then (some 0) else (some (-1))) else (bif r2 then (some 1) else (bif decide (a0 < a1) then (some (-1)) else (bif decide (a0 > a1) then (some 1) else (some 0))))
noncomputable def M.interval_Normalize_1 (a0 : TInterval) (a1 : TInterval) : Option Int :=
  (M.cmp_Compare_uint32 a0.fLo a1.fLo).bind fun r1 => some r1
noncomputable def M.slices_SortFunc_api_Interval_api_Interval__interval_Normalize_1 (a0 : List TInterval) : Option (List TInterval) :=
  sortM M.interval_Normalize_1 a0
noncomputable def M.interval_Normalize_k1 (p1 : (List TInterval) × Int) (p3 : (List TInterval)) : Option (((List TInterval) × Int) ⊕ (List TInterval)) :=
  some (.inl (p3, wr .i64 (p1.2 + 1)))
noncomputable def M.interval_Normalize_l1 (a0 : List TInterval) (p1 : (List TInterval) × Int) : Option (((List TInterval) × Int) ⊕ (List TInterval)) :=
  bif decide (p1.2 < (a0.length : Int)) then (gd [decide (0 ≤ p1.2), decide (p1.2 < (a0.length : Int))] (bif decide (((a0.getD p1.2.toNat default).fLo) ≤ ((a0.getD p1.2.toNat default).fHi)) then (gd [decide ((p1.1.length + 1) * 8 ≤ 140737488355328)] (M.interval_Normalize_k1 p1 (p1.1 ++ [a0.getD p1.2.toNat default]))) else (M.interval_Normalize_k1 p1 p1.1))) else (some (.inr p1.1))
noncomputable def M.interval_Normalize_k2 (p6 : (List TInterval) × Int) (p8 : (List TInterval)) : Option (((List TInterval) × Int) ⊕ (List TInterval)) :=
  some (.inl (p8, wr .i64 (p6.2 + 1)))
noncomputable def M.interval_Normalize_l2 (r5 : (List TInterval)) (p6 : (List TInterval) × Int) : Option (((List TInterval) × Int) ⊕ (List TInterval)) :=
  bif decide (p6.2 < (r5.length : Int)) then (gd [decide (0 ≤ p6.2), decide (p6.2 < (r5.length : Int))] (gd [guardB (decide ((wr .i64 ((p6.1.length : Int) - 1)) ≥ 0)) (decide (0 ≤ (wr .i64 ((p6.1.length : Int) - 1)))), guardB (decide ((wr .i64 ((p6.1.length : Int) - 1)) ≥ 0)) (decide ((wr .i64 ((p6.1.length : Int) - 1)) < (p6.1.length : Int)))] (bif (decide ((wr .i64 ((p6.1.length : Int) - 1)) ≥ 0)) && (decide ((wr .u64 ((r5.getD (0 + p6.2.toNat) default).fLo)) ≤ (wr .u64 ((wr .u64 ((p6.1.getD (0 + (wr .i64 ((p6.1.length : Int) - 1)).toNat) default).fHi)) + 1)))) then (gd [decide (0 ≤ (wr .i64 ((p6.1.length : Int) - 1))), decide ((wr .i64 ((p6.1.length : Int) - 1)) < (p6.1.length : Int)), decide (0 ≤ (wr .i64 ((p6.1.length : Int) - 1))), decide ((wr .i64 ((p6.1.length : Int) - 1)) < (p6.1.length : Int))] (M.interval_Normalize_k2 p6 (p6.1.set (0 + (wr .i64 ((p6.1.length : Int) - 1)).toNat) (⟨(p6.1.getD (0 + (wr .i64 ((p6.1.length : Int) - 1)).toNat) default).fLo, if ((r5.getD (0 + p6.2.toNat) default).fHi) > ((p6.1.getD (0 + (wr .i64 ((p6.1.length : Int) - 1)).toNat) default).fHi) then ((r5.getD (0 + p6.2.toNat) default).fHi) else ((p6.1.getD (0 + (wr .i64 ((p6.1.length : Int) - 1)).toNat) default).fHi)⟩ : TInterval)))) else (gd [decide ((p6.1.length + 1) * 8 ≤ 140737488355328)] (M.interval_Normalize_k2 p6 (p6.1 ++ [r5.getD (0 + p6.2.toNat) default])))))) else (some (.inr p6.1))
noncomputable def M.interval_Normalize (a0 : List TInterval) : Option (List TInterval) :=
  gd [decide (0 ≤ 0), decide (0 ≤ (a0.length : Int)), decide ((a0.length : Int).toNat * 8 ≤ 140737488355328), decide ((a0.length : Int).toNat ≤ 140737488355328)] ((loopM (M.interval_Normalize_l1 a0) (List.replicate ((0 : Int).toNat) (⟨0, 0⟩ : TInterval), 0)).bind fun y4 => (M.slices_SortFunc_api_Interval_api_Interval__interval_Normalize_1 y4).bind fun r5 => gd [decide (r5.length = y4.length)] ((loopM (M.interval_Normalize_l2 r5) (([] : List TInterval), 0)).bind fun y9 => some y9))
noncomputable def M.math_bits_TrailingZeros64 (a0 : Int) : Option Int :=
  gd [decide (0 ≤ a0), decide (a0 < 18446744073709551616)] (some ((Lib.ctz 64 a0.toNat : Nat) : Int))
noncomputable def M.interval_Prefixes_l3 (r1 : (List TInterval)) (p2 : (List TPrefix) × Int) (p4 : (List TPrefix) × Int) (p7 : Int) : Option (Int ⊕ Int) :=
  gd [decide (0 ≤ p7)] (bif decide ((wr .u64 (p4.2 + (wr .u64 (1 * 2 ^ min p7.toNat 64)))) > (wr .u64 ((wr .u64 ((r1.getD p2.2.toNat default).fHi)) + 1))) then (some (.inl (wr .i64 (p7 - 1)))) else (some (.inr p7)))
noncomputable def M.interval_Prefixes_k1 (r1 : (List TInterval)) (p2 : (List TPrefix) × Int) (p4 : (List TPrefix) × Int) (p6 : Int) : Option (((List TPrefix) × Int) ⊕ (List TPrefix)) :=
  (loopM (M.interval_Prefixes_l3 r1 p2 p4) p6).bind fun y9 => gd [decide ((p4.1.length + 1) * 16 ≤ 140737488355328)] (gd [decide (0 ≤ y9)] (some (.inl (p4.1 ++ [(⟨wr .u32 p4.2, wr .i64 (32 - y9)⟩ : TPrefix)], wr .u64 (p4.2 + (wr .u64 (1 * 2 ^ min y9.toNat 64)))))))
noncomputable def M.interval_Prefixes_l2 (r1 : (List TInterval)) (p2 : (List TPrefix) × Int) (p4 : (List TPrefix) × Int) : Option (((List TPrefix) × Int) ⊕ (List TPrefix)) :=
  bif decide (p4.2 < (wr .u64 ((wr .u64 ((r1.getD p2.2.toNat default).fHi)) + 1))) then (bif decide (p4.2 > 0) then ((M.math_bits_TrailingZeros64 p4.2).bind fun r10 => M.interval_Prefixes_k1 r1 p2 p4 r10) else (M.interval_Prefixes_k1 r1 p2 p4 32)) else (some (.inr p4.1))
noncomputable def M.interval_Prefixes_l1 (r1 : (List TInterval)) (p2 : (List TPrefix) × Int) : Option (((List TPrefix) × Int) ⊕ (List TPrefix)) :=
  bif decide (p2.2 < (r1.length : Int)) then (gd [decide (0 ≤ p2.2), decide (p2.2 < (r1.length : Int))] ((loopM (M.interval_Prefixes_l2 r1 p2) (p2.1, wr .u64 ((r1.getD p2.2.toNat default).fLo))).bind fun y11 => some (.inl (y11, wr .i64 (p2.2 + 1))))) else (some (.inr p2.1))
noncomputable def M.interval_Prefixes (a0 : List TInterval) : Option (List TPrefix) :=
  (M.interval_Normalize a0).bind fun r1 => (loopM (M.interval_Prefixes_l1 r1) (([] : List TPrefix), 0)).bind fun y12 => some y12
noncomputable def M.ref4_Mask_k1 (p1 : Int × Int) (p3 : Int) : Option ((Int × Int) ⊕ Int) :=
  some (.inl (p3, wr .i64 (p1.2 + 1)))
noncomputable def M.ref4_Mask_l1 (a0 : Int) (p1 : Int × Int) : Option ((Int × Int) ⊕ Int) :=
  bif decide (p1.2 < 32) then (bif decide (p1.2 < a0) then (gd [decide (0 ≤ (wr .u64 (wr .i64 (31 - p1.2))))] (M.ref4_Mask_k1 p1 (bitD .or .u32 p1.1 (wr .u32 (1 * 2 ^ min (wr .u64 (wr .i64 (31 - p1.2))).toNat 32))))) else (M.ref4_Mask_k1 p1 p1.1)) else (some (.inr p1.1))
noncomputable def M.ref4_Mask (a0 : Int) : Option Int :=
  (loopM (M.ref4_Mask_l1 a0) (0, 0)).bind fun y4 => some y4
noncomputable def M.ref4_Contains (a0 : TPrefix) (a1 : Int) : Option Bool :=
  (M.ref4_Mask a0.fLen).bind fun r1 => some ((bitD .and .u32 a1 r1) == a0.fAddr)
noncomputable def M.ref4_Normalize_k1 (p3 : Int × Int) (p5 : Int) : Option ((Int × Int) ⊕ Int) :=
  some (.inl (p5, wr .i64 (p3.2 + 1)))
noncomputable def M.ref4_Normalize_l2 (a0 : List TInterval) (p1 : (List TInterval) × Int) (p3 : Int × Int) : Option ((Int × Int) ⊕ Int) :=
  bif decide (p3.2 < (a0.length : Int)) then (gd [decide (0 ≤ p3.2), decide (p3.2 < (a0.length : Int)), decide (0 ≤ p3.2), decide (p3.2 < (a0.length : Int)), guardB (decide (((a0.getD p3.2.toNat default).fLo) ≤ ((a0.getD p3.2.toNat default).fHi))) (decide (0 ≤ p3.2)), guardB (decide (((a0.getD p3.2.toNat default).fLo) ≤ ((a0.getD p3.2.toNat default).fHi))) (decide (p3.2 < (a0.length : Int)))] (bif (decide (((a0.getD p3.2.toNat default).fLo) ≤ ((a0.getD p3.2.toNat default).fHi))) && (decide ((wr .u64 ((a0.getD p3.2.toNat default).fHi)) ≥ p1.2)) then (gd [decide (0 ≤ p3.2), decide (p3.2 < (a0.length : Int))] (M.ref4_Normalize_k1 p3 (if (if p1.2 > (wr .u64 ((a0.getD p3.2.toNat default).fLo)) then p1.2 else (wr .u64 ((a0.getD p3.2.toNat default).fLo))) < p3.1 then (if p1.2 > (wr .u64 ((a0.getD p3.2.toNat default).fLo)) then p1.2 else (wr .u64 ((a0.getD p3.2.toNat default).fLo))) else p3.1))) else (M.ref4_Normalize_k1 p3 p3.1))) else (some (.inr p3.1))
noncomputable def M.ref4_Normalize_k2 (p9 : Int × Bool × Int) (p11 : Int × Bool) : Option ((Int × Bool × Int) ⊕ (Int × Bool)) :=
  some (.inl (p11.1, p11.2, wr .i64 (p9.2.2 + 1)))
noncomputable def M.ref4_Normalize_l4 (a0 : List TInterval) (p9 : Int × Bool × Int) : Option ((Int × Bool × Int) ⊕ (Int × Bool)) :=
  bif decide (p9.2.2 < (a0.length : Int)) then (gd [decide (0 ≤ p9.2.2), decide (p9.2.2 < (a0.length : Int)), decide (0 ≤ p9.2.2), decide (p9.2.2 < (a0.length : Int)), guardB (decide (((a0.getD p9.2.2.toNat default).fLo) ≤ ((a0.getD p9.2.2.toNat default).fHi))) (decide (0 ≤ p9.2.2)), guardB (decide (((a0.getD p9.2.2.toNat default).fLo) ≤ ((a0.getD p9.2.2.toNat default).fHi))) (decide (p9.2.2 < (a0.length : Int))), guardB ((decide (((a0.getD p9.2.2.toNat default).fLo) ≤ ((a0.getD p9.2.2.toNat default).fHi))) && (decide ((wr .u64 ((a0.getD p9.2.2.toNat default).fLo)) ≤ (wr .u64 (p9.1 + 1))))) (decide (0 ≤ p9.2.2)), guardB ((decide (((a0.getD p9.2.2.toNat default).fLo) ≤ ((a0.getD p9.2.2.toNat default).fHi))) && (decide ((wr .u64 ((a0.getD p9.2.2.toNat default).fLo)) ≤ (wr .u64 (p9.1 + 1))))) (decide (p9.2.2 < (a0.length : Int)))] (bif ((decide (((a0.getD p9.2.2.toNat default).fLo) ≤ ((a0.getD p9.2.2.toNat default).fHi))) && (decide ((wr .u64 ((a0.getD p9.2.2.toNat default).fLo)) ≤ (wr .u64 (p9.1 + 1))))) && (decide ((wr .u64 ((a0.getD p9.2.2.toNat default).fHi)) > p9.1)) then (gd [decide (0 ≤ p9.2.2), decide (p9.2.2 < (a0.length : Int))] (M.ref4_Normalize_k2 p9 (wr .u64 ((a0.getD p9.2.2.toNat default).fHi), true))) else (M.ref4_Normalize_k2 p9 (p9.1, p9.2.1)))) else (some (.inr (p9.1, p9.2.1)))
noncomputable def M.ref4_Normalize_l3 (a0 : List TInterval) (p7 : Int × Bool) : Option ((Int × Bool) ⊕ Int) :=
  bif p7.2 then ((loopM (M.ref4_Normalize_l4 a0) (p7.1, false, 0)).bind fun y12 => some (.inl (y12.1, y12.2))) else (some (.inr p7.1))
noncomputable def M.ref4_Normalize_l1 (a0 : List TInterval) (p1 : (List TInterval) × Int) : Option (((List TInterval) × Int) ⊕ (List TInterval)) :=
  (loopM (M.ref4_Normalize_l2 a0 p1) (4294967296, 0)).bind fun y6 => bif y6 == 4294967296 then (some (.inr p1.1)) else ((loopM (M.ref4_Normalize_l3 a0) (y6, true)).bind fun y13 => gd [decide ((p1.1.length + 1) * 8 ≤ 140737488355328)] (some (.inl (p1.1 ++ [(⟨wr .u32 y6, wr .u32 y13⟩ : TInterval)], wr .u64 (y13 + 1)))))
noncomputable def M.ref4_Normalize (a0 : List TInterval) : Option (List TInterval) :=
  (loopM (M.ref4_Normalize_l1 a0) (([] : List TInterval), 0)).bind fun y14 => some y14
noncomputable def M.ref4_Last (a0 : TPrefix) : Option Int :=
  (M.ref4_Mask a0.fLen).bind fun r1 => some (bitD .or .u32 a0.fAddr (bitD .xor .u32 (IntKind.max .u32) r1))
noncomputable def M.ref4_Halves (a0 : TPrefix) : Option (TPrefix × TPrefix × Bool) :=
  bif (decide (a0.fLen < 0)) || (decide (a0.fLen > 31)) then (some ((⟨0, 0⟩ : TPrefix), (⟨0, 0⟩ : TPrefix), false)) else (gd [decide (0 ≤ (wr .u64 (wr .i64 (31 - a0.fLen))))] (some ((⟨a0.fAddr, wr .i64 (a0.fLen + 1)⟩ : TPrefix), (⟨bitD .or .u32 a0.fAddr (wr .u32 (1 * 2 ^ min (wr .u64 (wr .i64 (31 - a0.fLen))).toNat 32)), wr .i64 (a0.fLen + 1)⟩ : TPrefix), true)))
noncomputable def M.ref4_within_l1 (a0 : List TInterval) (a1 : TPrefix) (r1 : Int) (p2 : Bool × Int) : Option ((Bool × Int) ⊕ (Bool ⊕ (List TPrefix))) :=
  bif decide (p2.2 < (a0.length : Int)) then (gd [decide (0 ≤ p2.2), decide (p2.2 < (a0.length : Int)), guardB (decide (((a0.getD p2.2.toNat default).fLo) ≤ a1.fAddr)) (decide (0 ≤ p2.2)), guardB (decide (((a0.getD p2.2.toNat default).fLo) ≤ a1.fAddr)) (decide (p2.2 < (a0.length : Int)))] (bif (decide (((a0.getD p2.2.toNat default).fLo) ≤ a1.fAddr)) && (decide (r1 ≤ ((a0.getD p2.2.toNat default).fHi))) then (some (.inr (.inr ([a1] : List TPrefix)))) else (gd [guardB (!p2.1) (decide (0 ≤ p2.2)), guardB (!p2.1) (decide (p2.2 < (a0.length : Int))), guardB ((!p2.1) && (decide (((a0.getD p2.2.toNat default).fLo) ≤ r1))) (decide (0 ≤ p2.2)), guardB ((!p2.1) && (decide (((a0.getD p2.2.toNat default).fLo) ≤ r1))) (decide (p2.2 < (a0.length : Int)))] (some (.inl (p2.1 || ((decide (((a0.getD p2.2.toNat default).fLo) ≤ r1)) && (decide (a1.fAddr ≤ ((a0.getD p2.2.toNat default).fHi)))), wr .i64 (p2.2 + 1))))))) else (some (.inr (.inl p2.1)))
noncomputable def M.ref4_within_b (self : (List TInterval) → TPrefix → Option (List TPrefix)) (a0 : List TInterval) (a1 : TPrefix) : Option (List TPrefix) :=
  (M.ref4_Last a1).bind fun r1 => (loopM (M.ref4_within_l1 a0 a1 r1) (false, 0)).bind fun y4 => Sum.elim (fun g5 => bif !g5 then (some ([] : List TPrefix)) else ((M.ref4_Halves a1).bind fun r7 => (self a0 r7.1).bind fun r8 => (self a0 r7.2.1).bind fun r9 => gd [decide ((r8.length + r9.length) * 16 ≤ 140737488355328)] (some (r8 ++ r9)))) (fun y6 => some y6) y4
noncomputable def M.ref4_within_n : Nat → (List TInterval) → TPrefix → Option (List TPrefix)
  | 0 => fun _ _ => none
  | n + 1 => M.ref4_within_b (M.ref4_within_n n)
noncomputable def M.ref4_within (a0 : List TInterval) (a1 : TPrefix) : Option (List TPrefix) :=
  recM (fun n (x : (List TInterval) × TPrefix) => M.ref4_within_n n x.1 x.2) (a0, a1)
noncomputable def M.ref4_Prefixes (a0 : List TInterval) : Option (List TPrefix) :=
  (M.ref4_Normalize a0).bind fun r1 => (M.ref4_within r1 (⟨0, 0⟩ : TPrefix)).bind fun r2 => some r2
noncomputable def M.keep_Prefixes_l1 (a0 : List TPrefix) (a1 : List TPrefix) (p1 : Int) : Option (Int ⊕ (Unit ⊕ Bool)) :=
  bif decide (p1 < (a0.length : Int)) then (gd [decide (0 ≤ p1), decide (p1 < (a0.length : Int)), decide (0 ≤ p1), decide (p1 < (a1.length : Int))] (bif !((((a0.getD p1.toNat default).fAddr) == ((a1.getD p1.toNat default).fAddr)) && ((((a0.getD p1.toNat default).fLen) == ((a1.getD p1.toNat default).fLen)) && true)) then (some (.inr (.inr false))) else (some (.inl (wr .i64 (p1 + 1)))))) else (some (.inr (.inl ())))
noncomputable def M.keep_Prefixes (a0 : List TPrefix) (a1 : List TPrefix) : Option Bool :=
  bif (a0.length : Int) != (a1.length : Int) then (some false) else ((loopM (M.keep_Prefixes_l1 a0 a1) 0).bind fun y3 => Sum.elim (fun _ => some true) (fun y5 => some y5) y3)
noncomputable def M.ref4_Has_l1 (a0 : List TInterval) (a1 : Int) (p1 : Int) : Option (Int ⊕ (Unit ⊕ Bool)) :=
  bif decide (p1 < (a0.length : Int)) then (gd [decide (0 ≤ p1), decide (p1 < (a0.length : Int)), guardB (decide (((a0.getD p1.toNat default).fLo) ≤ a1)) (decide (0 ≤ p1)), guardB (decide (((a0.getD p1.toNat default).fLo) ≤ a1)) (decide (p1 < (a0.length : Int)))] (bif (decide (((a0.getD p1.toNat default).fLo) ≤ a1)) && (decide (a1 ≤ ((a0.getD p1.toNat default).fHi))) then (some (.inr (.inr true))) else (some (.inl (wr .i64 (p1 + 1)))))) else (some (.inr (.inl ())))
noncomputable def M.ref4_Has (a0 : List TInterval) (a1 : Int) : Option Bool :=
  (loopM (M.ref4_Has_l1 a0 a1) 0).bind fun y3 => Sum.elim (fun _ => some false) (fun y5 => some y5) y3
noncomputable def M.interval_Has_1 (a0 : TInterval) (b0 : Int) : Option Bool :=
  some ((decide (a0.fLo ≤ b0)) && (decide (b0 ≤ a0.fHi)))
noncomputable def M.slices_IndexFunc_api_Interval_api_Interval__interval_Has_1_l1 (a0 : List TInterval) (a1c0 : Int) (p1 : Int) : Option (Int ⊕ (Unit ⊕ Int)) :=
  bif decide (p1 < (a0.length : Int)) then ((M.interval_Has_1 (a0.getD p1.toNat default) a1c0).bind fun r3 => gd [decide (0 ≤ p1), decide (p1 < (a0.length : Int))] (bif r3 then (some (.inr (.inr p1))) else (some (.inl (wr .i64 (p1 + 1)))))) else (some (.inr (.inl ())))
noncomputable def M.slices_IndexFunc_api_Interval_api_Interval__interval_Has_1 (a0 : List TInterval) (a1c0 : Int) : Option Int :=
  (loopM (M.slices_IndexFunc_api_Interval_api_Interval__interval_Has_1_l1 a0 a1c0) 0).bind fun y4 => Sum.elim (fun _ => some (-1)) (fun y6 => some y6) y4
noncomputable def M.slices_ContainsFunc_api_Interval_api_Interval__interval_Has_1 (a0 : List TInterval) (a1c0 : Int) : Option Bool :=
  (M.slices_IndexFunc_api_Interval_api_Interval__interval_Has_1 a0 a1c0).bind fun r1 => some (decide (r1 ≥ 0))
noncomputable def M.interval_Has (a0 : List TInterval) (a1 : Int) : Option Bool :=
  (M.slices_ContainsFunc_api_Interval_api_Interval__interval_Has_1 a0 a1).bind fun r1 => some r1
noncomputable def M.interval_Size_l1 (r1 : (List TInterval)) (p2 : Int × Int) : Option ((Int × Int) ⊕ Int) :=
  bif decide (p2.2 < (r1.length : Int)) then (gd [decide (0 ≤ p2.2), decide (p2.2 < (r1.length : Int))] (some (.inl (wr .u64 (p2.1 + (wr .u64 ((wr .u64 ((wr .u64 ((r1.getD p2.2.toNat default).fHi)) - (wr .u64 ((r1.getD p2.2.toNat default).fLo)))) + 1))), wr .i64 (p2.2 + 1))))) else (some (.inr p2.1))
noncomputable def M.interval_Size (a0 : List TInterval) : Option Int :=
  (M.interval_Normalize a0).bind fun r1 => (loopM (M.interval_Size_l1 r1) (0, 0)).bind fun y4 => some y4
noncomputable def M.law3_sane  : Option Bool :=
  (M.interval_Normalize ([(⟨5, 9⟩ : TInterval), (⟨1, 4⟩ : TInterval), (⟨20, 11⟩ : TInterval)] : List TInterval)).bind fun r1 => (gc (((r1.length : Int) == 1) && ((((r1.getD (0 : Int).toNat default).fLo) == 1) && ((((r1.getD (0 : Int).toNat default).fHi) == 9) && true))) (M.interval_Has r1 5)).bind fun r2 => (gc ((((r1.length : Int) == 1) && ((((r1.getD (0 : Int).toNat default).fLo) == 1) && ((((r1.getD (0 : Int).toNat default).fHi) == 9) && true))) && r2) (M.interval_Has r1 10)).bind fun r3 => (gc (((((r1.length : Int) == 1) && ((((r1.getD (0 : Int).toNat default).fLo) == 1) && ((((r1.getD (0 : Int).toNat default).fHi) == 9) && true))) && r2) && (!r3)) (M.interval_Size r1)).bind fun r4 => (gc ((((((r1.length : Int) == 1) && ((((r1.getD (0 : Int).toNat default).fLo) == 1) && ((((r1.getD (0 : Int).toNat default).fHi) == 9) && true))) && r2) && (!r3)) && (r4 == 9)) (M.interval_Prefixes r1)).bind fun r5 => gd [guardB ((r1.length : Int) == 1) (decide (0 ≤ 0)), guardB ((r1.length : Int) == 1) (decide (0 < (r1.length : Int)))] (some (((((((r1.length : Int) == 1) && ((((r1.getD (0 : Int).toNat default).fLo) == 1) && ((((r1.getD (0 : Int).toNat default).fHi) == 9) && true))) && r2) && (!r3)) && (r4 == 9)) && ((r5.length : Int) == 4)))
noncomputable def M.law3_IntervalPrefixes_l1 (a1 : Int) (r2 : (List TPrefix)) (p3 : Bool × Int) : Option ((Bool × Int) ⊕ Bool) :=
  bif decide (p3.2 < (r2.length : Int)) then ((gc (!p3.1) (M.ref4_Contains (r2.getD p3.2.toNat default) a1)).bind fun r5 => gd [guardB (!p3.1) (decide (0 ≤ p3.2)), guardB (!p3.1) (decide (p3.2 < (r2.length : Int)))] (some (.inl (p3.1 || r5, wr .i64 (p3.2 + 1))))) else (some (.inr p3.1))
noncomputable def M.law3_IntervalPrefixes (a0 : List TInterval) (a1 : Int) : Option Bool :=
  (M.law3_few a0 ([] : List TInterval)).bind fun r1 => bif !r1 then (some true) else ((M.interval_Prefixes a0).bind fun r2 => (loopM (M.law3_IntervalPrefixes_l1 a1 r2) (false, 0)).bind fun y6 => (M.ref4_Prefixes a0).bind fun r7 => (M.keep_Prefixes r2 r7).bind fun r8 => (gc r8 (M.ref4_Has a0 a1)).bind fun r9 => (gc (r8 && (y6 == r9)) M.law3_sane).bind fun r10 => some ((r8 && (y6 == r9)) && r10))
end Nv
