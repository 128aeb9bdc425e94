/- Part of the proof of ModelLookups: functions and what they compute. No condition. -/
import Derived.Test.YtmangnohekiphaaProg
import Derived.Test.YtmangnohekiphaaNvGen
import Derived.Test.YtmangnohekiphaaNvM1a
import Derived.KernelRfl
set_option maxRecDepth 100000
namespace Nv
open Go Go.Proofs
/- netverify/model.checkRedist -/
noncomputable def M.model_checkRedist_l2 (a1 : List TRedist) (p1 : Int) (p8 : Int) : Option (Int ⊕ (Unit ⊕ Int)) :=
  bif decide (p8 < (p1.toNat - 0 : Int)) then (gd [decide (0 ≤ p8), decide (p8 < (((a1.drop 0).take (p1.toNat - 0)).length : Int))] (bif ((((a1.drop 0).take (p1.toNat - 0)).getD p8.toNat default).fFrom) == ((a1.getD p1.toNat default).fFrom) then (some (.inr (.inr 4))) else (some (.inl (wr .i64 (p8 + 1)))))) else (some (.inr (.inl ())))
noncomputable def M.model_checkRedist_l1 (a0 : TRouter) (a1 : List TRedist) (a2 : Int) (a3 : Int) (a4 : Int) (a5 : Int) (p1 : Int) : Option (Int ⊕ (Unit ⊕ Int)) :=
  bif decide (p1 < (a1.length : Int)) then (gd [decide (0 ≤ p1), decide (p1 < (a1.length : Int))] ((M.model_within ((a1.getD p1.toNat default).fFrom) 1 5).bind fun r3 => (gc (!((!r3) || (((a1.getD p1.toNat default).fFrom) == a2))) (M.model_within ((a1.getD p1.toNat default).fMetric) a3 a4)).bind fun r4 => (gc (!(((!r3) || (((a1.getD p1.toNat default).fFrom) == a2)) || (!r4))) (M.model_within ((a1.getD p1.toNat default).fTag) 0 65535)).bind fun r5 => (gc (!((((!r3) || (((a1.getD p1.toNat default).fFrom) == a2)) || (!r4)) || (!r5))) (M.model_within ((a1.getD p1.toNat default).fType) (if a5 < 1 then a5 else 1) a5)).bind fun r6 => bif ((((!r3) || (((a1.getD p1.toNat default).fFrom) == a2)) || (!r4)) || (!r5)) || (!r6) then (some (.inr (.inr 1))) else ((gc (!strEq ((a1.getD p1.toNat default).fMap) (⟨#[]⟩ : ByteArray)) (M.model_RouteMap a0 ((a1.getD p1.toNat default).fMap))).bind fun r7 => bif (!strEq ((a1.getD p1.toNat default).fMap) (⟨#[]⟩ : ByteArray)) && (decide (r7 < 0)) then (some (.inr (.inr 5))) else (gd [decide (0 ≤ p1), decide (p1 ≤ (a1.length : Int))] ((loopM (M.model_checkRedist_l2 a1 p1) 0).bind fun y10 => Sum.elim (fun g11 => some (.inl (wr .i64 (p1 + 1)))) (fun y12 => some (.inr (.inr y12))) y10))))) else (some (.inr (.inl ())))
noncomputable def M.model_checkRedist (a0 : TRouter) (a1 : List TRedist) (a2 : Int) (a3 : Int) (a4 : Int) (a5 : Int) : Option Int :=
  bif decide ((a1.length : Int) > 4) then (some 7) else ((loopM (M.model_checkRedist_l1 a0 a1 a2 a3 a4 a5) 0).bind fun y13 => Sum.elim (fun g14 => some 0) (fun y15 => some y15) y13)
theorem model_checkRedist_ok (a0 : TRouter) (a1 : List TRedist) (a2 : Int) (a3 : Int) (a4 : Int) (a5 : Int) (r : Int) (h : M.model_checkRedist a0 a1 a2 a3 a4 a5 = some r) : Fn Try.prog 93 [.agg (c_TRouter a0), sL 5 c_TRedist a1, .int .i64 a2, .int .i64 a3, .int .i64 a4, .int .i64 a5] (.pure (.int .i64 r)) := by
  unfold M.model_checkRedist at h
  refine fn_pure Try.func93 rfl (by kernel_rfl) ?_
  refine awp_seq ?_
  refine awp_reg [] [1, 2, 3, 4, 5, 6] 1 ⟨85, [(1, sL 5 c_TRedist a1), (2, .int .i64 a2), (3, .int .i64 a3), (4, .int .i64 a4), (5, .int .i64 a5), (6, .ref 0 0)], [.box (c_TRouter a0)]⟩ [] [] (by kernel_rfl) nil_all trivial ?_
  refine then_n ?_
  refine awp_seq ?_
  refine awp_seq ?_
  refine awp_reg [] [1, 2, 3, 4, 5, 6, 19] 1 ⟨85, [(1, sL 5 c_TRedist a1), (2, .int .i64 a2), (3, .int .i64 a3), (4, .int .i64 a4), (5, .int .i64 a5), (6, .ref 0 0), (19, .bool (decide ((a1.length : Int) > 4)))], [.box (c_TRouter a0)]⟩ [] [] (by kernel_rfl) nil_all trivial ?_
  refine then_n ?_
  refine awp_cond (b := decide ((a1.length : Int) > 4)) (by kernel_rfl) (fun b1 => ?_) (fun b1 => ?_)
  · have h2 := cond_t b1 h
    refine awp_seq ?_
    refine awp_reg [] [12] 0 ⟨85, [(12, .int .i64 7)], []⟩ [] [] (by kernel_rfl) nil_all trivial ?_
    refine then_n ?_
    refine awp_ret ?_
    refine then_r ?_
    obtain rfl := Option.some.inj h2
    exact ends_r (.int .i64 7) (by kernel_rfl) Sub.rfl
  · have h3 := cond_f b1 h
    refine awp_skip ?_
    refine then_n ?_
    refine awp_seq ?_
    refine awp_seq ?_
    refine awp_reg [] [1, 2, 3, 4, 5, 6, 20, 21, 22] 1 ⟨85, [(1, sL 5 c_TRedist a1), (2, .int .i64 a2), (3, .int .i64 a3), (4, .int .i64 a4), (5, .int .i64 a5), (6, .ref 0 0), (20, sL 5 c_TRedist a1), (21, .int .i64 (a1.length : Int)), (22, .int .i64 0)], [.box (c_TRouter a0)]⟩ [] [] (by kernel_rfl) nil_all trivial ?_
    refine then_n ?_
    refine awp_block ?_
    obtain ⟨y13, q46, h47⟩ := bind_some h3
    refine awp_le (s' := ⟨85, [(1, sL 5 c_TRedist a1), (2, .int .i64 a2), (3, .int .i64 a3), (4, .int .i64 a4), (5, .int .i64 a5), (6, .ref 0 0), (20, sL 5 c_TRedist a1), (21, .int .i64 (a1.length : Int)), (22, .int .i64 0)], [.box (c_TRouter a0)]⟩) (le_rfl) ?_
    refine awp_mono (awp_loop (f := M.model_checkRedist_l1 a0 a1 a2 a3 a4 a5) (S := fun (p1 : Int) => ⟨85, [(1, sL 5 c_TRedist a1), (2, .int .i64 a2), (3, .int .i64 a3), (4, .int .i64 a4), (5, .int .i64 a5), (6, .ref 0 0), (20, sL 5 c_TRedist a1), (21, .int .i64 (a1.length : Int)), (22, .int .i64 p1)], [.box (c_TRouter a0)]⟩) (O := (Sum.elim (fun z => OutE 0 (fun z => ⟨85, [], []⟩) z) (fun z => OutR Try.prog Try.f93 (.int .i64 z)))) ?_ (x := 0) (y := y13) (loopM_iter q46)) ?_
    · intro p1 y2 h4
      unfold M.model_checkRedist_l1 at h4
      refine awp_seq ?_
      refine awp_reg [] [1, 2, 3, 4, 5, 6, 20, 21, 22, 23] 1 ⟨85, [(1, sL 5 c_TRedist a1), (2, .int .i64 a2), (3, .int .i64 a3), (4, .int .i64 a4), (5, .int .i64 a5), (6, .ref 0 0), (20, sL 5 c_TRedist a1), (21, .int .i64 (a1.length : Int)), (22, .int .i64 p1), (23, .bool (decide (p1 < (a1.length : Int))))], [.box (c_TRouter a0)]⟩ [] [] (by kernel_rfl) nil_all trivial ?_
      refine then_n ?_
      refine awp_seq ?_
      refine awp_cond (b := decide (p1 < (a1.length : Int))) (by kernel_rfl) (fun b5 => ?_) (fun b5 => ?_)
      · have h6 := cond_t b5 h4
        refine awp_skip ?_
        refine then_n ?_
        refine awp_seq ?_
        refine awp_block ?_
        refine awp_seq ?_
        obtain ⟨c8, h9⟩ := gd_some h6
        refine awp_reg [] [1, 2, 3, 4, 5, 6, 13, 14, 20, 21, 22] 2 ⟨85, [(1, sL 5 c_TRedist a1), (2, .int .i64 a2), (3, .int .i64 a3), (4, .int .i64 a4), (5, .int .i64 a5), (6, .ref 0 0), (13, .int .i64 p1), (14, .ref 1 0), (20, sL 5 c_TRedist a1), (21, .int .i64 (a1.length : Int)), (22, .int .i64 p1)], [.box (c_TRouter a0), .box (c_TRedist (a1.getD p1.toNat default))]⟩ [decide (0 ≤ p1), decide (p1 < (a1.length : Int))] [] (by kernel_rfl) c8 trivial ?_
        refine then_n ?_
        refine awp_seq ?_
        refine awp_seq ?_
        obtain ⟨r3, q10, h11⟩ := bind_some h9
        obtain ⟨r4, q12, h13⟩ := bind_some h11
        obtain ⟨r5, q14, h15⟩ := bind_some h13
        obtain ⟨r6, q16, h17⟩ := bind_some h15
        refine awp_reg [.pure (.bool r3), .pure (.bool r4), .pure (.bool r5), .pure (.bool r6)] [1, 2, 3, 4, 5, 6, 13, 14, 20, 21, 22, 59] 2 ⟨85, [(1, sL 5 c_TRedist a1), (2, .int .i64 a2), (3, .int .i64 a3), (4, .int .i64 a4), (5, .int .i64 a5), (6, .ref 0 0), (13, .int .i64 p1), (14, .ref 1 0), (20, sL 5 c_TRedist a1), (21, .int .i64 (a1.length : Int)), (22, .int .i64 p1), (59, .bool (((((!r3) || (((a1.getD p1.toNat default).fFrom) == a2)) || (!r4)) || (!r5)) || (!r6)))], [.box (c_TRouter a0), .box (c_TRedist (a1.getD p1.toNat default))]⟩ [] [⟨true, 61, [.int .i64 ((a1.getD p1.toNat default).fFrom), .int .i64 1, .int .i64 5], .pure (.bool r3)⟩, ⟨(!((!r3) || (((a1.getD p1.toNat default).fFrom) == a2))), 61, [.int .i64 ((a1.getD p1.toNat default).fMetric), .int .i64 a3, .int .i64 a4], .pure (.bool r4)⟩, ⟨(!(((!r3) || (((a1.getD p1.toNat default).fFrom) == a2)) || (!r4))), 61, [.int .i64 ((a1.getD p1.toNat default).fTag), .int .i64 0, .int .i64 65535], .pure (.bool r5)⟩, ⟨(!((((!r3) || (((a1.getD p1.toNat default).fFrom) == a2)) || (!r4)) || (!r5))), 61, [.int .i64 ((a1.getD p1.toNat default).fType), .int .i64 (if a5 < 1 then a5 else 1), .int .i64 a5], .pure (.bool r6)⟩] (by kernel_rfl) nil_all ⟨fun _ => model_within_ok ((a1.getD p1.toNat default).fFrom) 1 5 r3 q10, fun hg => model_within_ok ((a1.getD p1.toNat default).fMetric) a3 a4 r4 (gc_some q12 hg), fun hg => model_within_ok ((a1.getD p1.toNat default).fTag) 0 65535 r5 (gc_some q14 hg), fun hg => model_within_ok ((a1.getD p1.toNat default).fType) (if a5 < 1 then a5 else 1) a5 r6 (gc_some q16 hg), trivial⟩ ?_
        refine then_n ?_
        refine awp_cond (b := ((((!r3) || (((a1.getD p1.toNat default).fFrom) == a2)) || (!r4)) || (!r5)) || (!r6)) (by kernel_rfl) (fun b18 => ?_) (fun b18 => ?_)
        · have h19 := cond_t b18 h17
          refine awp_seq ?_
          refine awp_reg [] [12] 0 ⟨85, [(12, .int .i64 1)], []⟩ [] [] (by kernel_rfl) nil_all trivial ?_
          refine then_n ?_
          refine awp_ret ?_
          refine then_r ?_
          refine inb_r ?_
          refine then_r ?_
          obtain rfl := Option.some.inj h19
          exact round_r ⟨rfl, ends_r (.int .i64 1) (by kernel_rfl) Sub.rfl⟩
        · have h20 := cond_f b18 h17
          refine awp_skip ?_
          refine then_n ?_
          refine awp_seq ?_
          refine awp_seq ?_
          obtain ⟨r7, q21, h22⟩ := bind_some h20
          refine awp_reg [.pure (.int .i64 r7)] [1, 2, 3, 4, 5, 6, 13, 14, 20, 21, 22, 69] 2 ⟨85, [(1, sL 5 c_TRedist a1), (2, .int .i64 a2), (3, .int .i64 a3), (4, .int .i64 a4), (5, .int .i64 a5), (6, .ref 0 0), (13, .int .i64 p1), (14, .ref 1 0), (20, sL 5 c_TRedist a1), (21, .int .i64 (a1.length : Int)), (22, .int .i64 p1), (69, .bool ((!strEq ((a1.getD p1.toNat default).fMap) (⟨#[]⟩ : ByteArray)) && (decide (r7 < 0))))], [.box (c_TRouter a0), .box (c_TRedist (a1.getD p1.toNat default))]⟩ [] [⟨!strEq ((a1.getD p1.toNat default).fMap) (⟨#[]⟩ : ByteArray), 19, [.agg (c_TRouter a0), .str ((a1.getD p1.toNat default).fMap)], .pure (.int .i64 r7)⟩] (by kernel_rfl) nil_all ⟨fun hg => model_RouteMap_ok a0 ((a1.getD p1.toNat default).fMap) r7 (gc_some q21 hg), trivial⟩ ?_
          refine then_n ?_
          refine awp_cond (b := (!strEq ((a1.getD p1.toNat default).fMap) (⟨#[]⟩ : ByteArray)) && (decide (r7 < 0))) (by kernel_rfl) (fun b23 => ?_) (fun b23 => ?_)
          · have h24 := cond_t b23 h22
            refine awp_seq ?_
            refine awp_reg [] [12] 0 ⟨85, [(12, .int .i64 5)], []⟩ [] [] (by kernel_rfl) nil_all trivial ?_
            refine then_n ?_
            refine awp_ret ?_
            refine then_r ?_
            refine inb_r ?_
            refine then_r ?_
            obtain rfl := Option.some.inj h24
            exact round_r ⟨rfl, ends_r (.int .i64 5) (by kernel_rfl) Sub.rfl⟩
          · have h25 := cond_f b23 h22
            refine awp_skip ?_
            refine then_n ?_
            refine awp_seq ?_
            obtain ⟨c26, h27⟩ := gd_some h25
            refine awp_reg [] [1, 2, 3, 4, 5, 6, 14, 20, 21, 22, 72, 73, 74] 2 ⟨85, [(1, sL 5 c_TRedist a1), (2, .int .i64 a2), (3, .int .i64 a3), (4, .int .i64 a4), (5, .int .i64 a5), (6, .ref 0 0), (14, .ref 1 0), (20, sL 5 c_TRedist a1), (21, .int .i64 (a1.length : Int)), (22, .int .i64 p1), (72, .sl false 5 (p1.toNat - 0) (fun i => c_TRedist (a1.getD (0 + i) default))), (73, .int .i64 (p1.toNat - 0 : Int)), (74, .int .i64 0)], [.box (c_TRouter a0), .box (c_TRedist (a1.getD p1.toNat default))]⟩ [decide (0 ≤ p1), decide (p1 ≤ (a1.length : Int))] [] (by kernel_rfl) c26 trivial ?_
            refine then_le (s' := ⟨85, [(1, sL 5 c_TRedist a1), (2, .int .i64 a2), (3, .int .i64 a3), (4, .int .i64 a4), (5, .int .i64 a5), (6, .ref 0 0), (14, .ref 1 0), (20, sL 5 c_TRedist a1), (21, .int .i64 (a1.length : Int)), (22, .int .i64 p1), (72, sL 5 c_TRedist ((a1.drop 0).take (p1.toNat - 0))), (73, .int .i64 (p1.toNat - 0 : Int)), (74, .int .i64 0)], [.box (c_TRouter a0), .box (c_TRedist (a1.getD p1.toNat default))]⟩) (le_sub (.cons Sub.rfl (.cons Sub.rfl (.cons Sub.rfl (.cons Sub.rfl (.cons Sub.rfl (.cons Sub.rfl (.cons Sub.rfl (.cons Sub.rfl (.cons Sub.rfl (.cons Sub.rfl (.cons (sub_sl (len_cut _ _ _ (cut_hi (c26 _ (List.mem_cons_of_mem _ List.mem_cons_self)))) (cut_ext _ _ _ _)) (.cons Sub.rfl (.cons Sub.rfl .nil))))))))))))) (.cons .rfl (.cons .rfl .nil))) ?_
            refine awp_block ?_
            obtain ⟨y10, q37, h38⟩ := bind_some h27
            refine awp_le (s' := ⟨85, [(1, sL 5 c_TRedist a1), (2, .int .i64 a2), (3, .int .i64 a3), (4, .int .i64 a4), (5, .int .i64 a5), (6, .ref 0 0), (14, .ref 1 0), (20, sL 5 c_TRedist a1), (21, .int .i64 (a1.length : Int)), (22, .int .i64 p1), (72, sL 5 c_TRedist ((a1.drop 0).take (p1.toNat - 0))), (73, .int .i64 (p1.toNat - 0 : Int)), (74, .int .i64 0)], [.box (c_TRouter a0), .box (c_TRedist (a1.getD p1.toNat default))]⟩) (le_rfl) ?_
            refine awp_mono (awp_loop (f := M.model_checkRedist_l2 a1 p1) (S := fun (p8 : Int) => ⟨85, [(1, sL 5 c_TRedist a1), (2, .int .i64 a2), (3, .int .i64 a3), (4, .int .i64 a4), (5, .int .i64 a5), (6, .ref 0 0), (14, .ref 1 0), (20, sL 5 c_TRedist a1), (21, .int .i64 (a1.length : Int)), (22, .int .i64 p1), (72, sL 5 c_TRedist ((a1.drop 0).take (p1.toNat - 0))), (73, .int .i64 (p1.toNat - 0 : Int)), (74, .int .i64 p8)], [.box (c_TRouter a0), .box (c_TRedist (a1.getD p1.toNat default))]⟩) (O := (Sum.elim (fun z => OutE 2 (fun z => ⟨85, [(1, sL 5 c_TRedist a1), (2, .int .i64 a2), (3, .int .i64 a3), (4, .int .i64 a4), (5, .int .i64 a5), (6, .ref 0 0), (20, sL 5 c_TRedist a1), (21, .int .i64 (a1.length : Int)), (22, .int .i64 p1)], [.box (c_TRouter a0)]⟩) z) (fun z => OutR Try.prog Try.f93 (.int .i64 z)))) ?_ (x := 0) (y := y10) (loopM_iter q37)) ?_
            · intro p8 y9 h28
              unfold M.model_checkRedist_l2 at h28
              refine awp_seq ?_
              refine awp_reg [] [1, 2, 3, 4, 5, 6, 14, 20, 21, 22, 72, 73, 74, 75] 2 ⟨85, [(1, sL 5 c_TRedist a1), (2, .int .i64 a2), (3, .int .i64 a3), (4, .int .i64 a4), (5, .int .i64 a5), (6, .ref 0 0), (14, .ref 1 0), (20, sL 5 c_TRedist a1), (21, .int .i64 (a1.length : Int)), (22, .int .i64 p1), (72, sL 5 c_TRedist ((a1.drop 0).take (p1.toNat - 0))), (73, .int .i64 (p1.toNat - 0 : Int)), (74, .int .i64 p8), (75, .bool (decide (p8 < (p1.toNat - 0 : Int))))], [.box (c_TRouter a0), .box (c_TRedist (a1.getD p1.toNat default))]⟩ [] [] (by kernel_rfl) nil_all trivial ?_
              refine then_n ?_
              refine awp_seq ?_
              refine awp_cond (b := decide (p8 < (p1.toNat - 0 : Int))) (by kernel_rfl) (fun b29 => ?_) (fun b29 => ?_)
              · have h30 := cond_t b29 h28
                refine awp_skip ?_
                refine then_n ?_
                refine awp_seq ?_
                refine awp_block ?_
                refine awp_seq ?_
                obtain ⟨c32, h33⟩ := gd_some h30
                refine awp_reg [] [1, 2, 3, 4, 5, 6, 14, 16, 20, 21, 22, 72, 73, 74] 3 ⟨85, [(1, sL 5 c_TRedist a1), (2, .int .i64 a2), (3, .int .i64 a3), (4, .int .i64 a4), (5, .int .i64 a5), (6, .ref 0 0), (14, .ref 1 0), (16, .ref 2 0), (20, sL 5 c_TRedist a1), (21, .int .i64 (a1.length : Int)), (22, .int .i64 p1), (72, sL 5 c_TRedist ((a1.drop 0).take (p1.toNat - 0))), (73, .int .i64 (p1.toNat - 0 : Int)), (74, .int .i64 p8)], [.box (c_TRouter a0), .box (c_TRedist (a1.getD p1.toNat default)), .box (c_TRedist (((a1.drop 0).take (p1.toNat - 0)).getD p8.toNat default))]⟩ [decide (0 ≤ p8), decide (p8 < (((a1.drop 0).take (p1.toNat - 0)).length : Int))] [] (by kernel_rfl) c32 trivial ?_
                refine then_n ?_
                refine awp_seq ?_
                refine awp_reg [] [1, 2, 3, 4, 5, 6, 14, 20, 21, 22, 72, 73, 74, 82] 2 ⟨85, [(1, sL 5 c_TRedist a1), (2, .int .i64 a2), (3, .int .i64 a3), (4, .int .i64 a4), (5, .int .i64 a5), (6, .ref 0 0), (14, .ref 1 0), (20, sL 5 c_TRedist a1), (21, .int .i64 (a1.length : Int)), (22, .int .i64 p1), (72, sL 5 c_TRedist ((a1.drop 0).take (p1.toNat - 0))), (73, .int .i64 (p1.toNat - 0 : Int)), (74, .int .i64 p8), (82, .bool (((((a1.drop 0).take (p1.toNat - 0)).getD p8.toNat default).fFrom) == ((a1.getD p1.toNat default).fFrom)))], [.box (c_TRouter a0), .box (c_TRedist (a1.getD p1.toNat default))]⟩ [] [] (by kernel_rfl) nil_all trivial ?_
                refine then_n ?_
                refine awp_cond (b := ((((a1.drop 0).take (p1.toNat - 0)).getD p8.toNat default).fFrom) == ((a1.getD p1.toNat default).fFrom)) (by kernel_rfl) (fun b34 => ?_) (fun b34 => ?_)
                · have h35 := cond_t b34 h33
                  refine awp_seq ?_
                  refine awp_reg [] [12] 0 ⟨85, [(12, .int .i64 4)], []⟩ [] [] (by kernel_rfl) nil_all trivial ?_
                  refine then_n ?_
                  refine awp_ret ?_
                  refine inb_r ?_
                  refine then_r ?_
                  obtain rfl := Option.some.inj h35
                  exact round_r ⟨rfl, ends_r (.int .i64 4) (by kernel_rfl) Sub.rfl⟩
                · have h36 := cond_f b34 h33
                  refine awp_skip ?_
                  refine inb_n ?_
                  refine then_n ?_
                  refine awp_reg [] [1, 2, 3, 4, 5, 6, 14, 20, 21, 22, 72, 73, 74] 2 ⟨85, [(1, sL 5 c_TRedist a1), (2, .int .i64 a2), (3, .int .i64 a3), (4, .int .i64 a4), (5, .int .i64 a5), (6, .ref 0 0), (14, .ref 1 0), (20, sL 5 c_TRedist a1), (21, .int .i64 (a1.length : Int)), (22, .int .i64 p1), (72, sL 5 c_TRedist ((a1.drop 0).take (p1.toNat - 0))), (73, .int .i64 (p1.toNat - 0 : Int)), (74, .int .i64 (wr .i64 (p8 + 1)))], [.box (c_TRouter a0), .box (c_TRedist (a1.getD p1.toNat default))]⟩ [] [] (by kernel_rfl) nil_all trivial ?_
                  obtain rfl := Option.some.inj h36
                  exact round_n (le_rfl)
              · have h31 := cond_f b29 h28
                refine awp_exit ?_
                refine then_e ?_
                obtain rfl := Option.some.inj h31
                exact round_e ⟨rfl, Le.trans (s' := ⟨85, [(1, sL 5 c_TRedist a1), (2, .int .i64 a2), (3, .int .i64 a3), (4, .int .i64 a4), (5, .int .i64 a5), (6, .ref 0 0), (20, sL 5 c_TRedist a1), (21, .int .i64 (a1.length : Int)), (22, .int .i64 p1)], [.box (c_TRouter a0), .box (c_TRedist (a1.getD p1.toNat default))]⟩) (le_keep' [1, 2, 3, 4, 5, 6, 20, 21, 22] (by kernel_rfl)) (le_cut (n := 1) (by kernel_rfl))⟩
            · intro e39 s40 o41
              rcases y10 with g11 | y12
              · have h42 := elim_l h38
                obtain ⟨rfl, l44⟩ := o41
                refine inb_here ?_
                refine inb_n ?_
                refine then_le (s' := ⟨85, [(1, sL 5 c_TRedist a1), (2, .int .i64 a2), (3, .int .i64 a3), (4, .int .i64 a4), (5, .int .i64 a5), (6, .ref 0 0), (20, sL 5 c_TRedist a1), (21, .int .i64 (a1.length : Int)), (22, .int .i64 p1)], [.box (c_TRouter a0)]⟩) (l44) ?_
                refine awp_reg [] [1, 2, 3, 4, 5, 6, 20, 21, 22] 1 ⟨85, [(1, sL 5 c_TRedist a1), (2, .int .i64 a2), (3, .int .i64 a3), (4, .int .i64 a4), (5, .int .i64 a5), (6, .ref 0 0), (20, sL 5 c_TRedist a1), (21, .int .i64 (a1.length : Int)), (22, .int .i64 (wr .i64 (p1 + 1)))], [.box (c_TRouter a0)]⟩ [] [] (by kernel_rfl) nil_all trivial ?_
                obtain rfl := Option.some.inj h42
                exact round_n (le_rfl)
              · have h43 := elim_r h38
                obtain ⟨rfl, n45⟩ := o41
                refine inb_r ?_
                refine inb_r ?_
                refine then_r ?_
                obtain rfl := Option.some.inj h43
                exact round_r ⟨rfl, n45⟩
      · have h7 := cond_f b5 h4
        refine awp_exit ?_
        refine then_e ?_
        obtain rfl := Option.some.inj h7
        exact round_e ⟨rfl, Le.trans (s' := ⟨85, [], [.box (c_TRouter a0)]⟩) (le_keep' [] (by kernel_rfl)) (le_cut (n := 0) (by kernel_rfl))⟩
    · intro e48 s49 o50
      rcases y13 with g14 | y15
      · have h51 := elim_l h47
        obtain ⟨rfl, l53⟩ := o50
        refine inb_here ?_
        refine then_le (s' := ⟨85, [], []⟩) (l53) ?_
        refine awp_seq ?_
        refine awp_reg [] [12] 0 ⟨85, [(12, .int .i64 0)], []⟩ [] [] (by kernel_rfl) nil_all trivial ?_
        refine then_n ?_
        refine awp_ret ?_
        obtain rfl := Option.some.inj h51
        exact ends_r (.int .i64 0) (by kernel_rfl) Sub.rfl
      · have h52 := elim_r h47
        obtain ⟨rfl, n54⟩ := o50
        refine inb_r ?_
        refine then_r ?_
        obtain rfl := Option.some.inj h52
        exact n54

/- netverify/model.checkLinkState -/
noncomputable def M.model_checkLinkState_l2 (a0 : TRouter) (p2 : Int) (p6 : Int) : Option (Int ⊕ (Unit ⊕ Int)) :=
  bif decide (p6 < (p2.toNat - 0 : Int)) then (gd [decide (0 ≤ p6), decide (p6 < (((a0.fLS.fRanges.drop 0).take (p2.toNat - 0)).length : Int))] ((gc (((((a0.fLS.fRanges.drop 0).take (p2.toNat - 0)).getD p6.toNat default).fArea) == ((a0.fLS.fRanges.getD p2.toNat default).fArea)) (M.addr_Overlaps ((((a0.fLS.fRanges.drop 0).take (p2.toNat - 0)).getD p6.toNat default).fPrefix) ((a0.fLS.fRanges.getD p2.toNat default).fPrefix))).bind fun r8 => bif (((((a0.fLS.fRanges.drop 0).take (p2.toNat - 0)).getD p6.toNat default).fArea) == ((a0.fLS.fRanges.getD p2.toNat default).fArea)) && r8 then (some (.inr (.inr 6))) else (some (.inl (wr .i64 (p6 + 1)))))) else (some (.inr (.inl ())))
noncomputable def M.model_checkLinkState_l1 (a0 : TRouter) (p2 : Int) : Option (Int ⊕ (Unit ⊕ Int)) :=
  bif decide (p2 < (a0.fLS.fRanges.length : Int)) then (gd [decide (0 ≤ p2), decide (p2 < (a0.fLS.fRanges.length : Int))] ((M.model_within ((a0.fLS.fRanges.getD p2.toNat default).fArea) 0 255).bind fun r4 => (gc (!(!r4)) (M.addr_Valid ((a0.fLS.fRanges.getD p2.toNat default).fPrefix))).bind fun r5 => bif (!r4) || (!r5) then (some (.inr (.inr 1))) else (gd [decide (0 ≤ p2), decide (p2 ≤ (a0.fLS.fRanges.length : Int))] ((loopM (M.model_checkLinkState_l2 a0 p2) 0).bind fun y9 => Sum.elim (fun g10 => some (.inl (wr .i64 (p2 + 1)))) (fun y11 => some (.inr (.inr y11))) y9)))) else (some (.inr (.inl ())))
noncomputable def M.model_checkLinkState (a0 : TRouter) : Option Int :=
  bif !a0.fLS.fOn then (bif ((a0.fLS.fAdmin != 0) || (decide ((a0.fLS.fRanges.length : Int) > 0))) || (decide ((a0.fLS.fRedist.length : Int) > 0)) then (some 1) else (some 0)) else ((M.model_within a0.fLS.fAdmin 1 255).bind fun r1 => bif !r1 then (some 1) else (bif decide ((a0.fLS.fRanges.length : Int) > 4) then (some 7) else ((loopM (M.model_checkLinkState_l1 a0) 0).bind fun y12 => Sum.elim (fun g13 => (M.model_checkRedist a0 a0.fLS.fRedist 3 0 16777215 2).bind fun r15 => some r15) (fun y14 => some y14) y12)))
theorem model_checkLinkState_ok (a0 : TRouter) (r : Int) (h : M.model_checkLinkState a0 = some r) : Fn Try.prog 69 [.agg (c_TRouter a0)] (.pure (.int .i64 r)) := by
  unfold M.model_checkLinkState at h
  refine fn_pure Try.func69 rfl (by kernel_rfl) ?_
  refine awp_seq ?_
  refine awp_reg [] [1] 1 ⟨81, [(1, .ref 0 0)], [.box (c_TRouter a0)]⟩ [] [] (by kernel_rfl) nil_all trivial ?_
  refine then_n ?_
  refine awp_seq ?_
  refine awp_reg [] [1, 3] 2 ⟨81, [(1, .ref 0 0), (3, .ref 1 0)], [.box (c_TRouter a0), .box (c_TLinkState a0.fLS)]⟩ [] [] (by kernel_rfl) nil_all trivial ?_
  refine then_n ?_
  refine awp_seq ?_
  refine awp_seq ?_
  refine awp_reg [] [1, 3, 12] 2 ⟨81, [(1, .ref 0 0), (3, .ref 1 0), (12, .bool (!a0.fLS.fOn))], [.box (c_TRouter a0), .box (c_TLinkState a0.fLS)]⟩ [] [] (by kernel_rfl) nil_all trivial ?_
  refine then_n ?_
  refine awp_cond (b := !a0.fLS.fOn) (by kernel_rfl) (fun b1 => ?_) (fun b1 => ?_)
  · have h2 := cond_t b1 h
    refine awp_seq ?_
    refine awp_seq ?_
    refine awp_reg [] [27] 0 ⟨81, [(27, .bool (((a0.fLS.fAdmin != 0) || (decide ((a0.fLS.fRanges.length : Int) > 0))) || (decide ((a0.fLS.fRedist.length : Int) > 0))))], []⟩ [] [] (by kernel_rfl) nil_all trivial ?_
    refine then_n ?_
    refine awp_cond (b := ((a0.fLS.fAdmin != 0) || (decide ((a0.fLS.fRanges.length : Int) > 0))) || (decide ((a0.fLS.fRedist.length : Int) > 0))) (by kernel_rfl) (fun b4 => ?_) (fun b4 => ?_)
    · have h5 := cond_t b4 h2
      refine awp_seq ?_
      refine awp_reg [] [2] 0 ⟨81, [(2, .int .i64 1)], []⟩ [] [] (by kernel_rfl) nil_all trivial ?_
      refine then_n ?_
      refine awp_ret ?_
      refine then_r ?_
      refine then_r ?_
      obtain rfl := Option.some.inj h5
      exact ends_r (.int .i64 1) (by kernel_rfl) Sub.rfl
    · have h6 := cond_f b4 h2
      refine awp_skip ?_
      refine then_n ?_
      refine awp_seq ?_
      refine awp_reg [] [2] 0 ⟨81, [(2, .int .i64 0)], []⟩ [] [] (by kernel_rfl) nil_all trivial ?_
      refine then_n ?_
      refine awp_ret ?_
      refine then_r ?_
      obtain rfl := Option.some.inj h6
      exact ends_r (.int .i64 0) (by kernel_rfl) Sub.rfl
  · have h3 := cond_f b1 h
    refine awp_skip ?_
    refine then_n ?_
    refine awp_seq ?_
    refine awp_seq ?_
    obtain ⟨r1, q7, h8⟩ := bind_some h3
    refine awp_reg [.pure (.bool r1)] [1, 3, 31] 2 ⟨81, [(1, .ref 0 0), (3, .ref 1 0), (31, .bool (!r1))], [.box (c_TRouter a0), .box (c_TLinkState a0.fLS)]⟩ [] [⟨true, 61, [.int .i64 a0.fLS.fAdmin, .int .i64 1, .int .i64 255], .pure (.bool r1)⟩] (by kernel_rfl) nil_all ⟨fun _ => model_within_ok a0.fLS.fAdmin 1 255 r1 q7, trivial⟩ ?_
    refine then_n ?_
    refine awp_cond (b := !r1) (by kernel_rfl) (fun b9 => ?_) (fun b9 => ?_)
    · have h10 := cond_t b9 h8
      refine awp_seq ?_
      refine awp_reg [] [2] 0 ⟨81, [(2, .int .i64 1)], []⟩ [] [] (by kernel_rfl) nil_all trivial ?_
      refine then_n ?_
      refine awp_ret ?_
      refine then_r ?_
      obtain rfl := Option.some.inj h10
      exact ends_r (.int .i64 1) (by kernel_rfl) Sub.rfl
    · have h11 := cond_f b9 h8
      refine awp_skip ?_
      refine then_n ?_
      refine awp_seq ?_
      refine awp_seq ?_
      refine awp_reg [] [1, 3, 35] 2 ⟨81, [(1, .ref 0 0), (3, .ref 1 0), (35, .bool (decide ((a0.fLS.fRanges.length : Int) > 4)))], [.box (c_TRouter a0), .box (c_TLinkState a0.fLS)]⟩ [] [] (by kernel_rfl) nil_all trivial ?_
      refine then_n ?_
      refine awp_cond (b := decide ((a0.fLS.fRanges.length : Int) > 4)) (by kernel_rfl) (fun b12 => ?_) (fun b12 => ?_)
      · have h13 := cond_t b12 h11
        refine awp_seq ?_
        refine awp_reg [] [2] 0 ⟨81, [(2, .int .i64 7)], []⟩ [] [] (by kernel_rfl) nil_all trivial ?_
        refine then_n ?_
        refine awp_ret ?_
        refine then_r ?_
        obtain rfl := Option.some.inj h13
        exact ends_r (.int .i64 7) (by kernel_rfl) Sub.rfl
      · have h14 := cond_f b12 h11
        refine awp_skip ?_
        refine then_n ?_
        refine awp_seq ?_
        refine awp_seq ?_
        refine awp_reg [] [1, 3, 37, 38, 39] 2 ⟨81, [(1, .ref 0 0), (3, .ref 1 0), (37, sL 3 c_TAreaRange a0.fLS.fRanges), (38, .int .i64 (a0.fLS.fRanges.length : Int)), (39, .int .i64 0)], [.box (c_TRouter a0), .box (c_TLinkState a0.fLS)]⟩ [] [] (by kernel_rfl) nil_all trivial ?_
        refine then_n ?_
        refine awp_block ?_
        obtain ⟨y12, q50, h51⟩ := bind_some h14
        refine awp_le (s' := ⟨81, [(1, .ref 0 0), (3, .ref 1 0), (37, sL 3 c_TAreaRange a0.fLS.fRanges), (38, .int .i64 (a0.fLS.fRanges.length : Int)), (39, .int .i64 0)], [.box (c_TRouter a0), .box (c_TLinkState a0.fLS)]⟩) (le_rfl) ?_
        refine awp_mono (awp_loop (f := M.model_checkLinkState_l1 a0) (S := fun (p2 : Int) => ⟨81, [(1, .ref 0 0), (3, .ref 1 0), (37, sL 3 c_TAreaRange a0.fLS.fRanges), (38, .int .i64 (a0.fLS.fRanges.length : Int)), (39, .int .i64 p2)], [.box (c_TRouter a0), .box (c_TLinkState a0.fLS)]⟩) (O := (Sum.elim (fun z => OutE 0 (fun z => ⟨81, [(1, .ref 0 0), (3, .ref 1 0)], [.box (c_TRouter a0), .box (c_TLinkState a0.fLS)]⟩) z) (fun z => OutR Try.prog Try.f69 (.int .i64 z)))) ?_ (x := 0) (y := y12) (loopM_iter q50)) ?_
        · intro p2 y3 h15
          unfold M.model_checkLinkState_l1 at h15
          refine awp_seq ?_
          refine awp_reg [] [1, 3, 37, 38, 39, 40] 2 ⟨81, [(1, .ref 0 0), (3, .ref 1 0), (37, sL 3 c_TAreaRange a0.fLS.fRanges), (38, .int .i64 (a0.fLS.fRanges.length : Int)), (39, .int .i64 p2), (40, .bool (decide (p2 < (a0.fLS.fRanges.length : Int))))], [.box (c_TRouter a0), .box (c_TLinkState a0.fLS)]⟩ [] [] (by kernel_rfl) nil_all trivial ?_
          refine then_n ?_
          refine awp_seq ?_
          refine awp_cond (b := decide (p2 < (a0.fLS.fRanges.length : Int))) (by kernel_rfl) (fun b16 => ?_) (fun b16 => ?_)
          · have h17 := cond_t b16 h15
            refine awp_skip ?_
            refine then_n ?_
            refine awp_seq ?_
            refine awp_block ?_
            refine awp_seq ?_
            obtain ⟨c19, h20⟩ := gd_some h17
            refine awp_reg [] [1, 3, 4, 5, 37, 38, 39] 3 ⟨81, [(1, .ref 0 0), (3, .ref 1 0), (4, .int .i64 p2), (5, .ref 2 0), (37, sL 3 c_TAreaRange a0.fLS.fRanges), (38, .int .i64 (a0.fLS.fRanges.length : Int)), (39, .int .i64 p2)], [.box (c_TRouter a0), .box (c_TLinkState a0.fLS), .box (c_TAreaRange (a0.fLS.fRanges.getD p2.toNat default))]⟩ [decide (0 ≤ p2), decide (p2 < (a0.fLS.fRanges.length : Int))] [] (by kernel_rfl) c19 trivial ?_
            refine then_n ?_
            refine awp_seq ?_
            refine awp_seq ?_
            obtain ⟨r4, q21, h22⟩ := bind_some h20
            obtain ⟨r5, q23, h24⟩ := bind_some h22
            refine awp_reg [.pure (.bool r4), .pure (.bool r5)] [1, 3, 4, 5, 37, 38, 39, 53] 3 ⟨81, [(1, .ref 0 0), (3, .ref 1 0), (4, .int .i64 p2), (5, .ref 2 0), (37, sL 3 c_TAreaRange a0.fLS.fRanges), (38, .int .i64 (a0.fLS.fRanges.length : Int)), (39, .int .i64 p2), (53, .bool ((!r4) || (!r5)))], [.box (c_TRouter a0), .box (c_TLinkState a0.fLS), .box (c_TAreaRange (a0.fLS.fRanges.getD p2.toNat default))]⟩ [] [⟨true, 61, [.int .i64 ((a0.fLS.fRanges.getD p2.toNat default).fArea), .int .i64 0, .int .i64 255], .pure (.bool r4)⟩, ⟨(!(!r4)), 88, [.agg (c_TPrefix ((a0.fLS.fRanges.getD p2.toNat default).fPrefix))], .pure (.bool r5)⟩] (by kernel_rfl) nil_all ⟨fun _ => model_within_ok ((a0.fLS.fRanges.getD p2.toNat default).fArea) 0 255 r4 q21, fun hg => addr_Valid_ok ((a0.fLS.fRanges.getD p2.toNat default).fPrefix) r5 (gc_some q23 hg), trivial⟩ ?_
            refine then_n ?_
            refine awp_cond (b := (!r4) || (!r5)) (by kernel_rfl) (fun b25 => ?_) (fun b25 => ?_)
            · have h26 := cond_t b25 h24
              refine awp_seq ?_
              refine awp_reg [] [2] 0 ⟨81, [(2, .int .i64 1)], []⟩ [] [] (by kernel_rfl) nil_all trivial ?_
              refine then_n ?_
              refine awp_ret ?_
              refine then_r ?_
              refine inb_r ?_
              refine then_r ?_
              obtain rfl := Option.some.inj h26
              exact round_r ⟨rfl, ends_r (.int .i64 1) (by kernel_rfl) Sub.rfl⟩
            · have h27 := cond_f b25 h24
              refine awp_skip ?_
              refine then_n ?_
              refine awp_seq ?_
              obtain ⟨c28, h29⟩ := gd_some h27
              refine awp_reg [] [1, 3, 5, 37, 38, 39, 57, 58, 59] 3 ⟨81, [(1, .ref 0 0), (3, .ref 1 0), (5, .ref 2 0), (37, sL 3 c_TAreaRange a0.fLS.fRanges), (38, .int .i64 (a0.fLS.fRanges.length : Int)), (39, .int .i64 p2), (57, .sl false 3 (p2.toNat - 0) (fun i => c_TAreaRange (a0.fLS.fRanges.getD (0 + i) default))), (58, .int .i64 (p2.toNat - 0 : Int)), (59, .int .i64 0)], [.box (c_TRouter a0), .box (c_TLinkState a0.fLS), .box (c_TAreaRange (a0.fLS.fRanges.getD p2.toNat default))]⟩ [decide (0 ≤ p2), decide (p2 ≤ (a0.fLS.fRanges.length : Int))] [] (by kernel_rfl) c28 trivial ?_
              refine then_le (s' := ⟨81, [(1, .ref 0 0), (3, .ref 1 0), (5, .ref 2 0), (37, sL 3 c_TAreaRange a0.fLS.fRanges), (38, .int .i64 (a0.fLS.fRanges.length : Int)), (39, .int .i64 p2), (57, sL 3 c_TAreaRange ((a0.fLS.fRanges.drop 0).take (p2.toNat - 0))), (58, .int .i64 (p2.toNat - 0 : Int)), (59, .int .i64 0)], [.box (c_TRouter a0), .box (c_TLinkState a0.fLS), .box (c_TAreaRange (a0.fLS.fRanges.getD p2.toNat default))]⟩) (le_sub (.cons Sub.rfl (.cons Sub.rfl (.cons Sub.rfl (.cons Sub.rfl (.cons Sub.rfl (.cons Sub.rfl (.cons (sub_sl (len_cut _ _ _ (cut_hi (c28 _ (List.mem_cons_of_mem _ List.mem_cons_self)))) (cut_ext _ _ _ _)) (.cons Sub.rfl (.cons Sub.rfl .nil))))))))) (.cons .rfl (.cons .rfl (.cons .rfl .nil)))) ?_
              refine awp_block ?_
              obtain ⟨y9, q41, h42⟩ := bind_some h29
              refine awp_le (s' := ⟨81, [(1, .ref 0 0), (3, .ref 1 0), (5, .ref 2 0), (37, sL 3 c_TAreaRange a0.fLS.fRanges), (38, .int .i64 (a0.fLS.fRanges.length : Int)), (39, .int .i64 p2), (57, sL 3 c_TAreaRange ((a0.fLS.fRanges.drop 0).take (p2.toNat - 0))), (58, .int .i64 (p2.toNat - 0 : Int)), (59, .int .i64 0)], [.box (c_TRouter a0), .box (c_TLinkState a0.fLS), .box (c_TAreaRange (a0.fLS.fRanges.getD p2.toNat default))]⟩) (le_rfl) ?_
              refine awp_mono (awp_loop (f := M.model_checkLinkState_l2 a0 p2) (S := fun (p6 : Int) => ⟨81, [(1, .ref 0 0), (3, .ref 1 0), (5, .ref 2 0), (37, sL 3 c_TAreaRange a0.fLS.fRanges), (38, .int .i64 (a0.fLS.fRanges.length : Int)), (39, .int .i64 p2), (57, sL 3 c_TAreaRange ((a0.fLS.fRanges.drop 0).take (p2.toNat - 0))), (58, .int .i64 (p2.toNat - 0 : Int)), (59, .int .i64 p6)], [.box (c_TRouter a0), .box (c_TLinkState a0.fLS), .box (c_TAreaRange (a0.fLS.fRanges.getD p2.toNat default))]⟩) (O := (Sum.elim (fun z => OutE 2 (fun z => ⟨81, [(1, .ref 0 0), (3, .ref 1 0), (37, sL 3 c_TAreaRange a0.fLS.fRanges), (38, .int .i64 (a0.fLS.fRanges.length : Int)), (39, .int .i64 p2)], [.box (c_TRouter a0), .box (c_TLinkState a0.fLS)]⟩) z) (fun z => OutR Try.prog Try.f69 (.int .i64 z)))) ?_ (x := 0) (y := y9) (loopM_iter q41)) ?_
              · intro p6 y7 h30
                unfold M.model_checkLinkState_l2 at h30
                refine awp_seq ?_
                refine awp_reg [] [1, 3, 5, 37, 38, 39, 57, 58, 59, 60] 3 ⟨81, [(1, .ref 0 0), (3, .ref 1 0), (5, .ref 2 0), (37, sL 3 c_TAreaRange a0.fLS.fRanges), (38, .int .i64 (a0.fLS.fRanges.length : Int)), (39, .int .i64 p2), (57, sL 3 c_TAreaRange ((a0.fLS.fRanges.drop 0).take (p2.toNat - 0))), (58, .int .i64 (p2.toNat - 0 : Int)), (59, .int .i64 p6), (60, .bool (decide (p6 < (p2.toNat - 0 : Int))))], [.box (c_TRouter a0), .box (c_TLinkState a0.fLS), .box (c_TAreaRange (a0.fLS.fRanges.getD p2.toNat default))]⟩ [] [] (by kernel_rfl) nil_all trivial ?_
                refine then_n ?_
                refine awp_seq ?_
                refine awp_cond (b := decide (p6 < (p2.toNat - 0 : Int))) (by kernel_rfl) (fun b31 => ?_) (fun b31 => ?_)
                · have h32 := cond_t b31 h30
                  refine awp_skip ?_
                  refine then_n ?_
                  refine awp_seq ?_
                  refine awp_block ?_
                  refine awp_seq ?_
                  obtain ⟨c34, h35⟩ := gd_some h32
                  refine awp_reg [] [1, 3, 5, 7, 37, 38, 39, 57, 58, 59] 4 ⟨81, [(1, .ref 0 0), (3, .ref 1 0), (5, .ref 2 0), (7, .ref 3 0), (37, sL 3 c_TAreaRange a0.fLS.fRanges), (38, .int .i64 (a0.fLS.fRanges.length : Int)), (39, .int .i64 p2), (57, sL 3 c_TAreaRange ((a0.fLS.fRanges.drop 0).take (p2.toNat - 0))), (58, .int .i64 (p2.toNat - 0 : Int)), (59, .int .i64 p6)], [.box (c_TRouter a0), .box (c_TLinkState a0.fLS), .box (c_TAreaRange (a0.fLS.fRanges.getD p2.toNat default)), .box (c_TAreaRange (((a0.fLS.fRanges.drop 0).take (p2.toNat - 0)).getD p6.toNat default))]⟩ [decide (0 ≤ p6), decide (p6 < (((a0.fLS.fRanges.drop 0).take (p2.toNat - 0)).length : Int))] [] (by kernel_rfl) c34 trivial ?_
                  refine then_n ?_
                  refine awp_seq ?_
                  obtain ⟨r8, q36, h37⟩ := bind_some h35
                  refine awp_reg [.pure (.bool r8)] [1, 3, 5, 37, 38, 39, 57, 58, 59, 74] 3 ⟨81, [(1, .ref 0 0), (3, .ref 1 0), (5, .ref 2 0), (37, sL 3 c_TAreaRange a0.fLS.fRanges), (38, .int .i64 (a0.fLS.fRanges.length : Int)), (39, .int .i64 p2), (57, sL 3 c_TAreaRange ((a0.fLS.fRanges.drop 0).take (p2.toNat - 0))), (58, .int .i64 (p2.toNat - 0 : Int)), (59, .int .i64 p6), (74, .bool ((((((a0.fLS.fRanges.drop 0).take (p2.toNat - 0)).getD p6.toNat default).fArea) == ((a0.fLS.fRanges.getD p2.toNat default).fArea)) && r8))], [.box (c_TRouter a0), .box (c_TLinkState a0.fLS), .box (c_TAreaRange (a0.fLS.fRanges.getD p2.toNat default))]⟩ [] [⟨((((a0.fLS.fRanges.drop 0).take (p2.toNat - 0)).getD p6.toNat default).fArea) == ((a0.fLS.fRanges.getD p2.toNat default).fArea), 85, [.agg (c_TPrefix ((((a0.fLS.fRanges.drop 0).take (p2.toNat - 0)).getD p6.toNat default).fPrefix)), .agg (c_TPrefix ((a0.fLS.fRanges.getD p2.toNat default).fPrefix))], .pure (.bool r8)⟩] (by kernel_rfl) nil_all ⟨fun hg => addr_Overlaps_ok ((((a0.fLS.fRanges.drop 0).take (p2.toNat - 0)).getD p6.toNat default).fPrefix) ((a0.fLS.fRanges.getD p2.toNat default).fPrefix) r8 (gc_some q36 hg), trivial⟩ ?_
                  refine then_n ?_
                  refine awp_cond (b := (((((a0.fLS.fRanges.drop 0).take (p2.toNat - 0)).getD p6.toNat default).fArea) == ((a0.fLS.fRanges.getD p2.toNat default).fArea)) && r8) (by kernel_rfl) (fun b38 => ?_) (fun b38 => ?_)
                  · have h39 := cond_t b38 h37
                    refine awp_seq ?_
                    refine awp_reg [] [2] 0 ⟨81, [(2, .int .i64 6)], []⟩ [] [] (by kernel_rfl) nil_all trivial ?_
                    refine then_n ?_
                    refine awp_ret ?_
                    refine inb_r ?_
                    refine then_r ?_
                    obtain rfl := Option.some.inj h39
                    exact round_r ⟨rfl, ends_r (.int .i64 6) (by kernel_rfl) Sub.rfl⟩
                  · have h40 := cond_f b38 h37
                    refine awp_skip ?_
                    refine inb_n ?_
                    refine then_n ?_
                    refine awp_reg [] [1, 3, 5, 37, 38, 39, 57, 58, 59] 3 ⟨81, [(1, .ref 0 0), (3, .ref 1 0), (5, .ref 2 0), (37, sL 3 c_TAreaRange a0.fLS.fRanges), (38, .int .i64 (a0.fLS.fRanges.length : Int)), (39, .int .i64 p2), (57, sL 3 c_TAreaRange ((a0.fLS.fRanges.drop 0).take (p2.toNat - 0))), (58, .int .i64 (p2.toNat - 0 : Int)), (59, .int .i64 (wr .i64 (p6 + 1)))], [.box (c_TRouter a0), .box (c_TLinkState a0.fLS), .box (c_TAreaRange (a0.fLS.fRanges.getD p2.toNat default))]⟩ [] [] (by kernel_rfl) nil_all trivial ?_
                    obtain rfl := Option.some.inj h40
                    exact round_n (le_rfl)
                · have h33 := cond_f b31 h30
                  refine awp_exit ?_
                  refine then_e ?_
                  obtain rfl := Option.some.inj h33
                  exact round_e ⟨rfl, Le.trans (s' := ⟨81, [(1, .ref 0 0), (3, .ref 1 0), (37, sL 3 c_TAreaRange a0.fLS.fRanges), (38, .int .i64 (a0.fLS.fRanges.length : Int)), (39, .int .i64 p2)], [.box (c_TRouter a0), .box (c_TLinkState a0.fLS), .box (c_TAreaRange (a0.fLS.fRanges.getD p2.toNat default))]⟩) (le_keep' [1, 3, 37, 38, 39] (by kernel_rfl)) (le_cut (n := 2) (by kernel_rfl))⟩
              · intro e43 s44 o45
                rcases y9 with g10 | y11
                · have h46 := elim_l h42
                  obtain ⟨rfl, l48⟩ := o45
                  refine inb_here ?_
                  refine inb_n ?_
                  refine then_le (s' := ⟨81, [(1, .ref 0 0), (3, .ref 1 0), (37, sL 3 c_TAreaRange a0.fLS.fRanges), (38, .int .i64 (a0.fLS.fRanges.length : Int)), (39, .int .i64 p2)], [.box (c_TRouter a0), .box (c_TLinkState a0.fLS)]⟩) (l48) ?_
                  refine awp_reg [] [1, 3, 37, 38, 39] 2 ⟨81, [(1, .ref 0 0), (3, .ref 1 0), (37, sL 3 c_TAreaRange a0.fLS.fRanges), (38, .int .i64 (a0.fLS.fRanges.length : Int)), (39, .int .i64 (wr .i64 (p2 + 1)))], [.box (c_TRouter a0), .box (c_TLinkState a0.fLS)]⟩ [] [] (by kernel_rfl) nil_all trivial ?_
                  obtain rfl := Option.some.inj h46
                  exact round_n (le_rfl)
                · have h47 := elim_r h42
                  obtain ⟨rfl, n49⟩ := o45
                  refine inb_r ?_
                  refine inb_r ?_
                  refine then_r ?_
                  obtain rfl := Option.some.inj h47
                  exact round_r ⟨rfl, n49⟩
          · have h18 := cond_f b16 h15
            refine awp_exit ?_
            refine then_e ?_
            obtain rfl := Option.some.inj h18
            exact round_e ⟨rfl, le_keep' [1, 3] (by kernel_rfl)⟩
        · intro e52 s53 o54
          rcases y12 with g13 | y14
          · have h55 := elim_l h51
            obtain ⟨rfl, l57⟩ := o54
            refine inb_here ?_
            refine then_le (s' := ⟨81, [(1, .ref 0 0), (3, .ref 1 0)], [.box (c_TRouter a0), .box (c_TLinkState a0.fLS)]⟩) (l57) ?_
            refine awp_seq ?_
            obtain ⟨r15, q58, h59⟩ := bind_some h55
            refine awp_reg [.pure (.int .i64 r15)] [2] 0 ⟨81, [(2, .int .i64 r15)], []⟩ [] [⟨true, 93, [.agg (c_TRouter a0), sL 5 c_TRedist a0.fLS.fRedist, .int .i64 3, .int .i64 0, .int .i64 16777215, .int .i64 2], .pure (.int .i64 r15)⟩] (by kernel_rfl) nil_all ⟨fun _ => model_checkRedist_ok a0 a0.fLS.fRedist 3 0 16777215 2 r15 q58, trivial⟩ ?_
            refine then_n ?_
            refine awp_ret ?_
            obtain rfl := Option.some.inj h59
            exact ends_r (.int .i64 r15) (by kernel_rfl) Sub.rfl
          · have h56 := elim_r h51
            obtain ⟨rfl, n60⟩ := o54
            refine inb_r ?_
            refine then_r ?_
            obtain rfl := Option.some.inj h56
            exact n60

/- netverify/model.checkDistanceVector -/
noncomputable def M.model_checkDistanceVector (a0 : TRouter) : Option Int :=
  bif !a0.fDV.fOn then (bif (((a0.fDV.fAdmin != 0) || (!strEq a0.fDV.fIn (⟨#[]⟩ : ByteArray))) || (!strEq a0.fDV.fOut (⟨#[]⟩ : ByteArray))) || (decide ((a0.fDV.fRedist.length : Int) > 0)) then (some 1) else (some 0)) else ((M.model_within a0.fDV.fAdmin 1 255).bind fun r1 => bif !r1 then (some 1) else ((gc (!strEq a0.fDV.fIn (⟨#[]⟩ : ByteArray)) (M.model_PrefixList a0 a0.fDV.fIn)).bind fun r2 => (gc ((!((!strEq a0.fDV.fIn (⟨#[]⟩ : ByteArray)) && (decide (r2 < 0)))) && (!strEq a0.fDV.fOut (⟨#[]⟩ : ByteArray))) (M.model_PrefixList a0 a0.fDV.fOut)).bind fun r3 => bif ((!strEq a0.fDV.fIn (⟨#[]⟩ : ByteArray)) && (decide (r2 < 0))) || ((!strEq a0.fDV.fOut (⟨#[]⟩ : ByteArray)) && (decide (r3 < 0))) then (some 5) else ((M.model_checkRedist a0 a0.fDV.fRedist 4 1 15 0).bind fun r4 => some r4)))
theorem model_checkDistanceVector_ok (a0 : TRouter) (r : Int) (h : M.model_checkDistanceVector a0 = some r) : Fn Try.prog 70 [.agg (c_TRouter a0)] (.pure (.int .i64 r)) := by
  unfold M.model_checkDistanceVector at h
  refine fn_pure Try.func70 rfl (by kernel_rfl) ?_
  refine awp_seq ?_
  refine awp_reg [] [1] 1 ⟨58, [(1, .ref 0 0)], [.box (c_TRouter a0)]⟩ [] [] (by kernel_rfl) nil_all trivial ?_
  refine then_n ?_
  refine awp_seq ?_
  refine awp_reg [] [1, 3] 2 ⟨58, [(1, .ref 0 0), (3, .ref 1 0)], [.box (c_TRouter a0), .box (c_TDistanceVector a0.fDV)]⟩ [] [] (by kernel_rfl) nil_all trivial ?_
  refine then_n ?_
  refine awp_seq ?_
  refine awp_seq ?_
  refine awp_reg [] [1, 3, 8] 2 ⟨58, [(1, .ref 0 0), (3, .ref 1 0), (8, .bool (!a0.fDV.fOn))], [.box (c_TRouter a0), .box (c_TDistanceVector a0.fDV)]⟩ [] [] (by kernel_rfl) nil_all trivial ?_
  refine then_n ?_
  refine awp_cond (b := !a0.fDV.fOn) (by kernel_rfl) (fun b1 => ?_) (fun b1 => ?_)
  · have h2 := cond_t b1 h
    refine awp_seq ?_
    refine awp_seq ?_
    refine awp_reg [] [27] 0 ⟨58, [(27, .bool ((((a0.fDV.fAdmin != 0) || (!strEq a0.fDV.fIn (⟨#[]⟩ : ByteArray))) || (!strEq a0.fDV.fOut (⟨#[]⟩ : ByteArray))) || (decide ((a0.fDV.fRedist.length : Int) > 0))))], []⟩ [] [] (by kernel_rfl) nil_all trivial ?_
    refine then_n ?_
    refine awp_cond (b := (((a0.fDV.fAdmin != 0) || (!strEq a0.fDV.fIn (⟨#[]⟩ : ByteArray))) || (!strEq a0.fDV.fOut (⟨#[]⟩ : ByteArray))) || (decide ((a0.fDV.fRedist.length : Int) > 0))) (by kernel_rfl) (fun b4 => ?_) (fun b4 => ?_)
    · have h5 := cond_t b4 h2
      refine awp_seq ?_
      refine awp_reg [] [2] 0 ⟨58, [(2, .int .i64 1)], []⟩ [] [] (by kernel_rfl) nil_all trivial ?_
      refine then_n ?_
      refine awp_ret ?_
      refine then_r ?_
      refine then_r ?_
      obtain rfl := Option.some.inj h5
      exact ends_r (.int .i64 1) (by kernel_rfl) Sub.rfl
    · have h6 := cond_f b4 h2
      refine awp_skip ?_
      refine then_n ?_
      refine awp_seq ?_
      refine awp_reg [] [2] 0 ⟨58, [(2, .int .i64 0)], []⟩ [] [] (by kernel_rfl) nil_all trivial ?_
      refine then_n ?_
      refine awp_ret ?_
      refine then_r ?_
      obtain rfl := Option.some.inj h6
      exact ends_r (.int .i64 0) (by kernel_rfl) Sub.rfl
  · have h3 := cond_f b1 h
    refine awp_skip ?_
    refine then_n ?_
    refine awp_seq ?_
    refine awp_seq ?_
    obtain ⟨r1, q7, h8⟩ := bind_some h3
    refine awp_reg [.pure (.bool r1)] [1, 3, 31] 2 ⟨58, [(1, .ref 0 0), (3, .ref 1 0), (31, .bool (!r1))], [.box (c_TRouter a0), .box (c_TDistanceVector a0.fDV)]⟩ [] [⟨true, 61, [.int .i64 a0.fDV.fAdmin, .int .i64 1, .int .i64 255], .pure (.bool r1)⟩] (by kernel_rfl) nil_all ⟨fun _ => model_within_ok a0.fDV.fAdmin 1 255 r1 q7, trivial⟩ ?_
    refine then_n ?_
    refine awp_cond (b := !r1) (by kernel_rfl) (fun b9 => ?_) (fun b9 => ?_)
    · have h10 := cond_t b9 h8
      refine awp_seq ?_
      refine awp_reg [] [2] 0 ⟨58, [(2, .int .i64 1)], []⟩ [] [] (by kernel_rfl) nil_all trivial ?_
      refine then_n ?_
      refine awp_ret ?_
      refine then_r ?_
      obtain rfl := Option.some.inj h10
      exact ends_r (.int .i64 1) (by kernel_rfl) Sub.rfl
    · have h11 := cond_f b9 h8
      refine awp_skip ?_
      refine then_n ?_
      refine awp_seq ?_
      refine awp_seq ?_
      obtain ⟨r2, q12, h13⟩ := bind_some h11
      obtain ⟨r3, q14, h15⟩ := bind_some h13
      refine awp_reg [.pure (.int .i64 r2), .pure (.int .i64 r3)] [1, 3, 53] 2 ⟨58, [(1, .ref 0 0), (3, .ref 1 0), (53, .bool (((!strEq a0.fDV.fIn (⟨#[]⟩ : ByteArray)) && (decide (r2 < 0))) || ((!strEq a0.fDV.fOut (⟨#[]⟩ : ByteArray)) && (decide (r3 < 0)))))], [.box (c_TRouter a0), .box (c_TDistanceVector a0.fDV)]⟩ [] [⟨!strEq a0.fDV.fIn (⟨#[]⟩ : ByteArray), 17, [.agg (c_TRouter a0), .str a0.fDV.fIn], .pure (.int .i64 r2)⟩, ⟨((!((!strEq a0.fDV.fIn (⟨#[]⟩ : ByteArray)) && (decide (r2 < 0)))) && (!strEq a0.fDV.fOut (⟨#[]⟩ : ByteArray))), 17, [.agg (c_TRouter a0), .str a0.fDV.fOut], .pure (.int .i64 r3)⟩] (by kernel_rfl) nil_all ⟨fun hg => model_PrefixList_ok a0 a0.fDV.fIn r2 (gc_some q12 hg), fun hg => model_PrefixList_ok a0 a0.fDV.fOut r3 (gc_some q14 hg), trivial⟩ ?_
      refine then_n ?_
      refine awp_cond (b := ((!strEq a0.fDV.fIn (⟨#[]⟩ : ByteArray)) && (decide (r2 < 0))) || ((!strEq a0.fDV.fOut (⟨#[]⟩ : ByteArray)) && (decide (r3 < 0)))) (by kernel_rfl) (fun b16 => ?_) (fun b16 => ?_)
      · have h17 := cond_t b16 h15
        refine awp_seq ?_
        refine awp_reg [] [2] 0 ⟨58, [(2, .int .i64 5)], []⟩ [] [] (by kernel_rfl) nil_all trivial ?_
        refine then_n ?_
        refine awp_ret ?_
        refine then_r ?_
        obtain rfl := Option.some.inj h17
        exact ends_r (.int .i64 5) (by kernel_rfl) Sub.rfl
      · have h18 := cond_f b16 h15
        refine awp_skip ?_
        refine then_n ?_
        refine awp_seq ?_
        obtain ⟨r4, q19, h20⟩ := bind_some h18
        refine awp_reg [.pure (.int .i64 r4)] [2] 0 ⟨58, [(2, .int .i64 r4)], []⟩ [] [⟨true, 93, [.agg (c_TRouter a0), sL 5 c_TRedist a0.fDV.fRedist, .int .i64 4, .int .i64 1, .int .i64 15, .int .i64 0], .pure (.int .i64 r4)⟩] (by kernel_rfl) nil_all ⟨fun _ => model_checkRedist_ok a0 a0.fDV.fRedist 4 1 15 0 r4 q19, trivial⟩ ?_
        refine then_n ?_
        refine awp_ret ?_
        obtain rfl := Option.some.inj h20
        exact ends_r (.int .i64 r4) (by kernel_rfl) Sub.rfl

/- netverify/model.checkNeighbors -/
noncomputable def M.model_checkNeighbors_l2 (a0 : TRouter) (p1 : Int) (p6 : Int) : Option (Int ⊕ (Unit ⊕ Int)) :=
  bif decide (p6 < (p1.toNat - 0 : Int)) then (gd [decide (0 ≤ p6), decide (p6 < (((a0.fPV.fNeighbors.drop 0).take (p1.toNat - 0)).length : Int))] (bif ((((a0.fPV.fNeighbors.drop 0).take (p1.toNat - 0)).getD p6.toNat default).fAddr) == ((a0.fPV.fNeighbors.getD p1.toNat default).fAddr) then (some (.inr (.inr 4))) else (some (.inl (wr .i64 (p6 + 1)))))) else (some (.inr (.inl ())))
noncomputable def M.model_checkNeighbors_l1 (a0 : TRouter) (p1 : Int) : Option (Int ⊕ (Unit ⊕ Int)) :=
  bif decide (p1 < (a0.fPV.fNeighbors.length : Int)) then (gd [decide (0 ≤ p1), decide (p1 < (a0.fPV.fNeighbors.length : Int))] ((gc (!(((a0.fPV.fNeighbors.getD p1.toNat default).fAddr) == 0)) (M.model_within ((a0.fPV.fNeighbors.getD p1.toNat default).fAS) 1 65535)).bind fun r3 => bif (((a0.fPV.fNeighbors.getD p1.toNat default).fAddr) == 0) || (!r3) then (some (.inr (.inr 1))) else ((gc (!strEq ((a0.fPV.fNeighbors.getD p1.toNat default).fIn) (⟨#[]⟩ : ByteArray)) (M.model_RouteMap a0 ((a0.fPV.fNeighbors.getD p1.toNat default).fIn))).bind fun r4 => (gc ((!((!strEq ((a0.fPV.fNeighbors.getD p1.toNat default).fIn) (⟨#[]⟩ : ByteArray)) && (decide (r4 < 0)))) && (!strEq ((a0.fPV.fNeighbors.getD p1.toNat default).fOut) (⟨#[]⟩ : ByteArray))) (M.model_RouteMap a0 ((a0.fPV.fNeighbors.getD p1.toNat default).fOut))).bind fun r5 => bif ((!strEq ((a0.fPV.fNeighbors.getD p1.toNat default).fIn) (⟨#[]⟩ : ByteArray)) && (decide (r4 < 0))) || ((!strEq ((a0.fPV.fNeighbors.getD p1.toNat default).fOut) (⟨#[]⟩ : ByteArray)) && (decide (r5 < 0))) then (some (.inr (.inr 5))) else (gd [decide (0 ≤ p1), decide (p1 ≤ (a0.fPV.fNeighbors.length : Int))] ((loopM (M.model_checkNeighbors_l2 a0 p1) 0).bind fun y8 => Sum.elim (fun g9 => some (.inl (wr .i64 (p1 + 1)))) (fun y10 => some (.inr (.inr y10))) y8))))) else (some (.inr (.inl ())))
noncomputable def M.model_checkNeighbors (a0 : TRouter) : Option Int :=
  bif decide ((a0.fPV.fNeighbors.length : Int) > 8) then (some 7) else ((loopM (M.model_checkNeighbors_l1 a0) 0).bind fun y11 => Sum.elim (fun g12 => some 0) (fun y13 => some y13) y11)
theorem model_checkNeighbors_ok (a0 : TRouter) (r : Int) (h : M.model_checkNeighbors a0 = some r) : Fn Try.prog 94 [.agg (c_TRouter a0)] (.pure (.int .i64 r)) := by
  unfold M.model_checkNeighbors at h
  refine fn_pure Try.func94 rfl (by kernel_rfl) ?_
  refine awp_seq ?_
  refine awp_reg [] [1] 1 ⟨69, [(1, .ref 0 0)], [.box (c_TRouter a0)]⟩ [] [] (by kernel_rfl) nil_all trivial ?_
  refine then_n ?_
  refine awp_seq ?_
  refine awp_seq ?_
  refine awp_reg [] [1, 11] 1 ⟨69, [(1, .ref 0 0), (11, .bool (decide ((a0.fPV.fNeighbors.length : Int) > 8)))], [.box (c_TRouter a0)]⟩ [] [] (by kernel_rfl) nil_all trivial ?_
  refine then_n ?_
  refine awp_cond (b := decide ((a0.fPV.fNeighbors.length : Int) > 8)) (by kernel_rfl) (fun b1 => ?_) (fun b1 => ?_)
  · have h2 := cond_t b1 h
    refine awp_seq ?_
    refine awp_reg [] [2] 0 ⟨69, [(2, .int .i64 7)], []⟩ [] [] (by kernel_rfl) nil_all trivial ?_
    refine then_n ?_
    refine awp_ret ?_
    refine then_r ?_
    obtain rfl := Option.some.inj h2
    exact ends_r (.int .i64 7) (by kernel_rfl) Sub.rfl
  · have h3 := cond_f b1 h
    refine awp_skip ?_
    refine then_n ?_
    refine awp_seq ?_
    refine awp_seq ?_
    refine awp_reg [] [1, 14, 15, 16] 1 ⟨69, [(1, .ref 0 0), (14, sL 4 c_TNeighbor a0.fPV.fNeighbors), (15, .int .i64 (a0.fPV.fNeighbors.length : Int)), (16, .int .i64 0)], [.box (c_TRouter a0)]⟩ [] [] (by kernel_rfl) nil_all trivial ?_
    refine then_n ?_
    refine awp_block ?_
    obtain ⟨y11, q42, h43⟩ := bind_some h3
    refine awp_le (s' := ⟨69, [(1, .ref 0 0), (14, sL 4 c_TNeighbor a0.fPV.fNeighbors), (15, .int .i64 (a0.fPV.fNeighbors.length : Int)), (16, .int .i64 0)], [.box (c_TRouter a0)]⟩) (le_rfl) ?_
    refine awp_mono (awp_loop (f := M.model_checkNeighbors_l1 a0) (S := fun (p1 : Int) => ⟨69, [(1, .ref 0 0), (14, sL 4 c_TNeighbor a0.fPV.fNeighbors), (15, .int .i64 (a0.fPV.fNeighbors.length : Int)), (16, .int .i64 p1)], [.box (c_TRouter a0)]⟩) (O := (Sum.elim (fun z => OutE 0 (fun z => ⟨69, [], []⟩) z) (fun z => OutR Try.prog Try.f94 (.int .i64 z)))) ?_ (x := 0) (y := y11) (loopM_iter q42)) ?_
    · intro p1 y2 h4
      unfold M.model_checkNeighbors_l1 at h4
      refine awp_seq ?_
      refine awp_reg [] [1, 14, 15, 16, 17] 1 ⟨69, [(1, .ref 0 0), (14, sL 4 c_TNeighbor a0.fPV.fNeighbors), (15, .int .i64 (a0.fPV.fNeighbors.length : Int)), (16, .int .i64 p1), (17, .bool (decide (p1 < (a0.fPV.fNeighbors.length : Int))))], [.box (c_TRouter a0)]⟩ [] [] (by kernel_rfl) nil_all trivial ?_
      refine then_n ?_
      refine awp_seq ?_
      refine awp_cond (b := decide (p1 < (a0.fPV.fNeighbors.length : Int))) (by kernel_rfl) (fun b5 => ?_) (fun b5 => ?_)
      · have h6 := cond_t b5 h4
        refine awp_skip ?_
        refine then_n ?_
        refine awp_seq ?_
        refine awp_block ?_
        refine awp_seq ?_
        obtain ⟨c8, h9⟩ := gd_some h6
        refine awp_reg [] [1, 3, 4, 14, 15, 16] 2 ⟨69, [(1, .ref 0 0), (3, .int .i64 p1), (4, .ref 1 0), (14, sL 4 c_TNeighbor a0.fPV.fNeighbors), (15, .int .i64 (a0.fPV.fNeighbors.length : Int)), (16, .int .i64 p1)], [.box (c_TRouter a0), .box (c_TNeighbor (a0.fPV.fNeighbors.getD p1.toNat default))]⟩ [decide (0 ≤ p1), decide (p1 < (a0.fPV.fNeighbors.length : Int))] [] (by kernel_rfl) c8 trivial ?_
        refine then_n ?_
        refine awp_seq ?_
        refine awp_seq ?_
        obtain ⟨r3, q10, h11⟩ := bind_some h9
        refine awp_reg [.pure (.bool r3)] [1, 3, 4, 14, 15, 16, 29] 2 ⟨69, [(1, .ref 0 0), (3, .int .i64 p1), (4, .ref 1 0), (14, sL 4 c_TNeighbor a0.fPV.fNeighbors), (15, .int .i64 (a0.fPV.fNeighbors.length : Int)), (16, .int .i64 p1), (29, .bool ((((a0.fPV.fNeighbors.getD p1.toNat default).fAddr) == 0) || (!r3)))], [.box (c_TRouter a0), .box (c_TNeighbor (a0.fPV.fNeighbors.getD p1.toNat default))]⟩ [] [⟨(!(((a0.fPV.fNeighbors.getD p1.toNat default).fAddr) == 0)), 61, [.int .i64 ((a0.fPV.fNeighbors.getD p1.toNat default).fAS), .int .i64 1, .int .i64 65535], .pure (.bool r3)⟩] (by kernel_rfl) nil_all ⟨fun hg => model_within_ok ((a0.fPV.fNeighbors.getD p1.toNat default).fAS) 1 65535 r3 (gc_some q10 hg), trivial⟩ ?_
        refine then_n ?_
        refine awp_cond (b := (((a0.fPV.fNeighbors.getD p1.toNat default).fAddr) == 0) || (!r3)) (by kernel_rfl) (fun b12 => ?_) (fun b12 => ?_)
        · have h13 := cond_t b12 h11
          refine awp_seq ?_
          refine awp_reg [] [2] 0 ⟨69, [(2, .int .i64 1)], []⟩ [] [] (by kernel_rfl) nil_all trivial ?_
          refine then_n ?_
          refine awp_ret ?_
          refine then_r ?_
          refine inb_r ?_
          refine then_r ?_
          obtain rfl := Option.some.inj h13
          exact round_r ⟨rfl, ends_r (.int .i64 1) (by kernel_rfl) Sub.rfl⟩
        · have h14 := cond_f b12 h11
          refine awp_skip ?_
          refine then_n ?_
          refine awp_seq ?_
          refine awp_seq ?_
          obtain ⟨r4, q15, h16⟩ := bind_some h14
          obtain ⟨r5, q17, h18⟩ := bind_some h16
          refine awp_reg [.pure (.int .i64 r4), .pure (.int .i64 r5)] [1, 3, 4, 14, 15, 16, 51] 2 ⟨69, [(1, .ref 0 0), (3, .int .i64 p1), (4, .ref 1 0), (14, sL 4 c_TNeighbor a0.fPV.fNeighbors), (15, .int .i64 (a0.fPV.fNeighbors.length : Int)), (16, .int .i64 p1), (51, .bool (((!strEq ((a0.fPV.fNeighbors.getD p1.toNat default).fIn) (⟨#[]⟩ : ByteArray)) && (decide (r4 < 0))) || ((!strEq ((a0.fPV.fNeighbors.getD p1.toNat default).fOut) (⟨#[]⟩ : ByteArray)) && (decide (r5 < 0)))))], [.box (c_TRouter a0), .box (c_TNeighbor (a0.fPV.fNeighbors.getD p1.toNat default))]⟩ [] [⟨!strEq ((a0.fPV.fNeighbors.getD p1.toNat default).fIn) (⟨#[]⟩ : ByteArray), 19, [.agg (c_TRouter a0), .str ((a0.fPV.fNeighbors.getD p1.toNat default).fIn)], .pure (.int .i64 r4)⟩, ⟨((!((!strEq ((a0.fPV.fNeighbors.getD p1.toNat default).fIn) (⟨#[]⟩ : ByteArray)) && (decide (r4 < 0)))) && (!strEq ((a0.fPV.fNeighbors.getD p1.toNat default).fOut) (⟨#[]⟩ : ByteArray))), 19, [.agg (c_TRouter a0), .str ((a0.fPV.fNeighbors.getD p1.toNat default).fOut)], .pure (.int .i64 r5)⟩] (by kernel_rfl) nil_all ⟨fun hg => model_RouteMap_ok a0 ((a0.fPV.fNeighbors.getD p1.toNat default).fIn) r4 (gc_some q15 hg), fun hg => model_RouteMap_ok a0 ((a0.fPV.fNeighbors.getD p1.toNat default).fOut) r5 (gc_some q17 hg), trivial⟩ ?_
          refine then_n ?_
          refine awp_cond (b := ((!strEq ((a0.fPV.fNeighbors.getD p1.toNat default).fIn) (⟨#[]⟩ : ByteArray)) && (decide (r4 < 0))) || ((!strEq ((a0.fPV.fNeighbors.getD p1.toNat default).fOut) (⟨#[]⟩ : ByteArray)) && (decide (r5 < 0)))) (by kernel_rfl) (fun b19 => ?_) (fun b19 => ?_)
          · have h20 := cond_t b19 h18
            refine awp_seq ?_
            refine awp_reg [] [2] 0 ⟨69, [(2, .int .i64 5)], []⟩ [] [] (by kernel_rfl) nil_all trivial ?_
            refine then_n ?_
            refine awp_ret ?_
            refine then_r ?_
            refine inb_r ?_
            refine then_r ?_
            obtain rfl := Option.some.inj h20
            exact round_r ⟨rfl, ends_r (.int .i64 5) (by kernel_rfl) Sub.rfl⟩
          · have h21 := cond_f b19 h18
            refine awp_skip ?_
            refine then_n ?_
            refine awp_seq ?_
            obtain ⟨c22, h23⟩ := gd_some h21
            refine awp_reg [] [1, 4, 14, 15, 16, 56, 57, 58] 2 ⟨69, [(1, .ref 0 0), (4, .ref 1 0), (14, sL 4 c_TNeighbor a0.fPV.fNeighbors), (15, .int .i64 (a0.fPV.fNeighbors.length : Int)), (16, .int .i64 p1), (56, .sl false 4 (p1.toNat - 0) (fun i => c_TNeighbor (a0.fPV.fNeighbors.getD (0 + i) default))), (57, .int .i64 (p1.toNat - 0 : Int)), (58, .int .i64 0)], [.box (c_TRouter a0), .box (c_TNeighbor (a0.fPV.fNeighbors.getD p1.toNat default))]⟩ [decide (0 ≤ p1), decide (p1 ≤ (a0.fPV.fNeighbors.length : Int))] [] (by kernel_rfl) c22 trivial ?_
            refine then_le (s' := ⟨69, [(1, .ref 0 0), (4, .ref 1 0), (14, sL 4 c_TNeighbor a0.fPV.fNeighbors), (15, .int .i64 (a0.fPV.fNeighbors.length : Int)), (16, .int .i64 p1), (56, sL 4 c_TNeighbor ((a0.fPV.fNeighbors.drop 0).take (p1.toNat - 0))), (57, .int .i64 (p1.toNat - 0 : Int)), (58, .int .i64 0)], [.box (c_TRouter a0), .box (c_TNeighbor (a0.fPV.fNeighbors.getD p1.toNat default))]⟩) (le_sub (.cons Sub.rfl (.cons Sub.rfl (.cons Sub.rfl (.cons Sub.rfl (.cons Sub.rfl (.cons (sub_sl (len_cut _ _ _ (cut_hi (c22 _ (List.mem_cons_of_mem _ List.mem_cons_self)))) (cut_ext _ _ _ _)) (.cons Sub.rfl (.cons Sub.rfl .nil)))))))) (.cons .rfl (.cons .rfl .nil))) ?_
            refine awp_block ?_
            obtain ⟨y8, q33, h34⟩ := bind_some h23
            refine awp_le (s' := ⟨69, [(1, .ref 0 0), (4, .ref 1 0), (14, sL 4 c_TNeighbor a0.fPV.fNeighbors), (15, .int .i64 (a0.fPV.fNeighbors.length : Int)), (16, .int .i64 p1), (56, sL 4 c_TNeighbor ((a0.fPV.fNeighbors.drop 0).take (p1.toNat - 0))), (57, .int .i64 (p1.toNat - 0 : Int)), (58, .int .i64 0)], [.box (c_TRouter a0), .box (c_TNeighbor (a0.fPV.fNeighbors.getD p1.toNat default))]⟩) (le_rfl) ?_
            refine awp_mono (awp_loop (f := M.model_checkNeighbors_l2 a0 p1) (S := fun (p6 : Int) => ⟨69, [(1, .ref 0 0), (4, .ref 1 0), (14, sL 4 c_TNeighbor a0.fPV.fNeighbors), (15, .int .i64 (a0.fPV.fNeighbors.length : Int)), (16, .int .i64 p1), (56, sL 4 c_TNeighbor ((a0.fPV.fNeighbors.drop 0).take (p1.toNat - 0))), (57, .int .i64 (p1.toNat - 0 : Int)), (58, .int .i64 p6)], [.box (c_TRouter a0), .box (c_TNeighbor (a0.fPV.fNeighbors.getD p1.toNat default))]⟩) (O := (Sum.elim (fun z => OutE 2 (fun z => ⟨69, [(1, .ref 0 0), (14, sL 4 c_TNeighbor a0.fPV.fNeighbors), (15, .int .i64 (a0.fPV.fNeighbors.length : Int)), (16, .int .i64 p1)], [.box (c_TRouter a0)]⟩) z) (fun z => OutR Try.prog Try.f94 (.int .i64 z)))) ?_ (x := 0) (y := y8) (loopM_iter q33)) ?_
            · intro p6 y7 h24
              unfold M.model_checkNeighbors_l2 at h24
              refine awp_seq ?_
              refine awp_reg [] [1, 4, 14, 15, 16, 56, 57, 58, 59] 2 ⟨69, [(1, .ref 0 0), (4, .ref 1 0), (14, sL 4 c_TNeighbor a0.fPV.fNeighbors), (15, .int .i64 (a0.fPV.fNeighbors.length : Int)), (16, .int .i64 p1), (56, sL 4 c_TNeighbor ((a0.fPV.fNeighbors.drop 0).take (p1.toNat - 0))), (57, .int .i64 (p1.toNat - 0 : Int)), (58, .int .i64 p6), (59, .bool (decide (p6 < (p1.toNat - 0 : Int))))], [.box (c_TRouter a0), .box (c_TNeighbor (a0.fPV.fNeighbors.getD p1.toNat default))]⟩ [] [] (by kernel_rfl) nil_all trivial ?_
              refine then_n ?_
              refine awp_seq ?_
              refine awp_cond (b := decide (p6 < (p1.toNat - 0 : Int))) (by kernel_rfl) (fun b25 => ?_) (fun b25 => ?_)
              · have h26 := cond_t b25 h24
                refine awp_skip ?_
                refine then_n ?_
                refine awp_seq ?_
                refine awp_block ?_
                refine awp_seq ?_
                obtain ⟨c28, h29⟩ := gd_some h26
                refine awp_reg [] [1, 4, 6, 14, 15, 16, 56, 57, 58] 3 ⟨69, [(1, .ref 0 0), (4, .ref 1 0), (6, .ref 2 0), (14, sL 4 c_TNeighbor a0.fPV.fNeighbors), (15, .int .i64 (a0.fPV.fNeighbors.length : Int)), (16, .int .i64 p1), (56, sL 4 c_TNeighbor ((a0.fPV.fNeighbors.drop 0).take (p1.toNat - 0))), (57, .int .i64 (p1.toNat - 0 : Int)), (58, .int .i64 p6)], [.box (c_TRouter a0), .box (c_TNeighbor (a0.fPV.fNeighbors.getD p1.toNat default)), .box (c_TNeighbor (((a0.fPV.fNeighbors.drop 0).take (p1.toNat - 0)).getD p6.toNat default))]⟩ [decide (0 ≤ p6), decide (p6 < (((a0.fPV.fNeighbors.drop 0).take (p1.toNat - 0)).length : Int))] [] (by kernel_rfl) c28 trivial ?_
                refine then_n ?_
                refine awp_seq ?_
                refine awp_reg [] [1, 4, 14, 15, 16, 56, 57, 58, 66] 2 ⟨69, [(1, .ref 0 0), (4, .ref 1 0), (14, sL 4 c_TNeighbor a0.fPV.fNeighbors), (15, .int .i64 (a0.fPV.fNeighbors.length : Int)), (16, .int .i64 p1), (56, sL 4 c_TNeighbor ((a0.fPV.fNeighbors.drop 0).take (p1.toNat - 0))), (57, .int .i64 (p1.toNat - 0 : Int)), (58, .int .i64 p6), (66, .bool (((((a0.fPV.fNeighbors.drop 0).take (p1.toNat - 0)).getD p6.toNat default).fAddr) == ((a0.fPV.fNeighbors.getD p1.toNat default).fAddr)))], [.box (c_TRouter a0), .box (c_TNeighbor (a0.fPV.fNeighbors.getD p1.toNat default))]⟩ [] [] (by kernel_rfl) nil_all trivial ?_
                refine then_n ?_
                refine awp_cond (b := ((((a0.fPV.fNeighbors.drop 0).take (p1.toNat - 0)).getD p6.toNat default).fAddr) == ((a0.fPV.fNeighbors.getD p1.toNat default).fAddr)) (by kernel_rfl) (fun b30 => ?_) (fun b30 => ?_)
                · have h31 := cond_t b30 h29
                  refine awp_seq ?_
                  refine awp_reg [] [2] 0 ⟨69, [(2, .int .i64 4)], []⟩ [] [] (by kernel_rfl) nil_all trivial ?_
                  refine then_n ?_
                  refine awp_ret ?_
                  refine inb_r ?_
                  refine then_r ?_
                  obtain rfl := Option.some.inj h31
                  exact round_r ⟨rfl, ends_r (.int .i64 4) (by kernel_rfl) Sub.rfl⟩
                · have h32 := cond_f b30 h29
                  refine awp_skip ?_
                  refine inb_n ?_
                  refine then_n ?_
                  refine awp_reg [] [1, 4, 14, 15, 16, 56, 57, 58] 2 ⟨69, [(1, .ref 0 0), (4, .ref 1 0), (14, sL 4 c_TNeighbor a0.fPV.fNeighbors), (15, .int .i64 (a0.fPV.fNeighbors.length : Int)), (16, .int .i64 p1), (56, sL 4 c_TNeighbor ((a0.fPV.fNeighbors.drop 0).take (p1.toNat - 0))), (57, .int .i64 (p1.toNat - 0 : Int)), (58, .int .i64 (wr .i64 (p6 + 1)))], [.box (c_TRouter a0), .box (c_TNeighbor (a0.fPV.fNeighbors.getD p1.toNat default))]⟩ [] [] (by kernel_rfl) nil_all trivial ?_
                  obtain rfl := Option.some.inj h32
                  exact round_n (le_rfl)
              · have h27 := cond_f b25 h24
                refine awp_exit ?_
                refine then_e ?_
                obtain rfl := Option.some.inj h27
                exact round_e ⟨rfl, Le.trans (s' := ⟨69, [(1, .ref 0 0), (14, sL 4 c_TNeighbor a0.fPV.fNeighbors), (15, .int .i64 (a0.fPV.fNeighbors.length : Int)), (16, .int .i64 p1)], [.box (c_TRouter a0), .box (c_TNeighbor (a0.fPV.fNeighbors.getD p1.toNat default))]⟩) (le_keep' [1, 14, 15, 16] (by kernel_rfl)) (le_cut (n := 1) (by kernel_rfl))⟩
            · intro e35 s36 o37
              rcases y8 with g9 | y10
              · have h38 := elim_l h34
                obtain ⟨rfl, l40⟩ := o37
                refine inb_here ?_
                refine inb_n ?_
                refine then_le (s' := ⟨69, [(1, .ref 0 0), (14, sL 4 c_TNeighbor a0.fPV.fNeighbors), (15, .int .i64 (a0.fPV.fNeighbors.length : Int)), (16, .int .i64 p1)], [.box (c_TRouter a0)]⟩) (l40) ?_
                refine awp_reg [] [1, 14, 15, 16] 1 ⟨69, [(1, .ref 0 0), (14, sL 4 c_TNeighbor a0.fPV.fNeighbors), (15, .int .i64 (a0.fPV.fNeighbors.length : Int)), (16, .int .i64 (wr .i64 (p1 + 1)))], [.box (c_TRouter a0)]⟩ [] [] (by kernel_rfl) nil_all trivial ?_
                obtain rfl := Option.some.inj h38
                exact round_n (le_rfl)
              · have h39 := elim_r h34
                obtain ⟨rfl, n41⟩ := o37
                refine inb_r ?_
                refine inb_r ?_
                refine then_r ?_
                obtain rfl := Option.some.inj h39
                exact round_r ⟨rfl, n41⟩
      · have h7 := cond_f b5 h4
        refine awp_exit ?_
        refine then_e ?_
        obtain rfl := Option.some.inj h7
        exact round_e ⟨rfl, Le.trans (s' := ⟨69, [], [.box (c_TRouter a0)]⟩) (le_keep' [] (by kernel_rfl)) (le_cut (n := 0) (by kernel_rfl))⟩
    · intro e44 s45 o46
      rcases y11 with g12 | y13
      · have h47 := elim_l h43
        obtain ⟨rfl, l49⟩ := o46
        refine inb_here ?_
        refine then_le (s' := ⟨69, [], []⟩) (l49) ?_
        refine awp_seq ?_
        refine awp_reg [] [2] 0 ⟨69, [(2, .int .i64 0)], []⟩ [] [] (by kernel_rfl) nil_all trivial ?_
        refine then_n ?_
        refine awp_ret ?_
        obtain rfl := Option.some.inj h47
        exact ends_r (.int .i64 0) (by kernel_rfl) Sub.rfl
      · have h48 := elim_r h43
        obtain ⟨rfl, n50⟩ := o46
        refine inb_r ?_
        refine then_r ?_
        obtain rfl := Option.some.inj h48
        exact n50

/- slices.Index[[]netverify/api.Prefix,netverify/api.Prefix] -/
noncomputable def M.slices_Index_api_Prefix_api_Prefix_l1 (a0 : List TPrefix) (a1 : TPrefix) (p1 : Int) : Option (Int ⊕ (Unit ⊕ Int)) :=
  bif decide (p1 < (a0.length : Int)) then (gd [decide (0 ≤ p1), decide (p1 < (a0.length : Int))] (bif ((a1.fAddr == ((a0.getD p1.toNat default).fAddr)) && ((a1.fLen == ((a0.getD p1.toNat default).fLen)) && true)) then (some (.inr (.inr p1))) else (some (.inl (wr .i64 (p1 + 1)))))) else (some (.inr (.inl ())))
noncomputable def M.slices_Index_api_Prefix_api_Prefix (a0 : List TPrefix) (a1 : TPrefix) : Option Int :=
  (loopM (M.slices_Index_api_Prefix_api_Prefix_l1 a0 a1) 0).bind fun y3 => Sum.elim (fun g4 => some (-1)) (fun y5 => some y5) y3
theorem slices_Index_api_Prefix_api_Prefix_ok (a0 : List TPrefix) (a1 : TPrefix) (r : Int) (h : M.slices_Index_api_Prefix_api_Prefix a0 a1 = some r) : Fn Try.prog 102 [sL 2 c_TPrefix a0, .agg (c_TPrefix a1)] (.pure (.int .i64 r)) := by
  unfold M.slices_Index_api_Prefix_api_Prefix at h
  refine fn_pure Try.func102 rfl (by kernel_rfl) ?_
  refine awp_seq ?_
  refine awp_reg [] [0, 3] 1 ⟨19, [(0, sL 2 c_TPrefix a0), (3, .ref 0 0)], [.box (c_TPrefix a1)]⟩ [] [] (by kernel_rfl) nil_all trivial ?_
  refine then_n ?_
  refine awp_seq ?_
  refine awp_seq ?_
  refine awp_reg [] [0, 3, 7, 8] 1 ⟨19, [(0, sL 2 c_TPrefix a0), (3, .ref 0 0), (7, .int .i64 (a0.length : Int)), (8, .int .i64 0)], [.box (c_TPrefix a1)]⟩ [] [] (by kernel_rfl) nil_all trivial ?_
  refine then_n ?_
  refine awp_block ?_
  obtain ⟨y3, q10, h11⟩ := bind_some h
  refine awp_le (s' := ⟨19, [(0, sL 2 c_TPrefix a0), (3, .ref 0 0), (7, .int .i64 (a0.length : Int)), (8, .int .i64 0)], [.box (c_TPrefix a1)]⟩) (le_rfl) ?_
  refine awp_mono (awp_loop (f := M.slices_Index_api_Prefix_api_Prefix_l1 a0 a1) (S := fun (p1 : Int) => ⟨19, [(0, sL 2 c_TPrefix a0), (3, .ref 0 0), (7, .int .i64 (a0.length : Int)), (8, .int .i64 p1)], [.box (c_TPrefix a1)]⟩) (O := (Sum.elim (fun z => OutE 0 (fun z => ⟨19, [], []⟩) z) (fun z => OutR Try.prog Try.f102 (.int .i64 z)))) ?_ (x := 0) (y := y3) (loopM_iter q10)) ?_
  · intro p1 y2 h1
    unfold M.slices_Index_api_Prefix_api_Prefix_l1 at h1
    refine awp_seq ?_
    refine awp_reg [] [0, 3, 7, 8, 9] 1 ⟨19, [(0, sL 2 c_TPrefix a0), (3, .ref 0 0), (7, .int .i64 (a0.length : Int)), (8, .int .i64 p1), (9, .bool (decide (p1 < (a0.length : Int))))], [.box (c_TPrefix a1)]⟩ [] [] (by kernel_rfl) nil_all trivial ?_
    refine then_n ?_
    refine awp_seq ?_
    refine awp_cond (b := decide (p1 < (a0.length : Int))) (by kernel_rfl) (fun b2 => ?_) (fun b2 => ?_)
    · have h3 := cond_t b2 h1
      refine awp_skip ?_
      refine then_n ?_
      refine awp_seq ?_
      refine awp_block ?_
      refine awp_seq ?_
      refine awp_reg [] [0, 3, 5, 7, 8] 1 ⟨19, [(0, sL 2 c_TPrefix a0), (3, .ref 0 0), (5, .int .i64 p1), (7, .int .i64 (a0.length : Int)), (8, .int .i64 p1)], [.box (c_TPrefix a1)]⟩ [] [] (by kernel_rfl) nil_all trivial ?_
      refine then_n ?_
      refine awp_seq ?_
      obtain ⟨c5, h6⟩ := gd_some h3
      refine awp_reg [] [0, 3, 5, 7, 8, 16] 1 ⟨19, [(0, sL 2 c_TPrefix a0), (3, .ref 0 0), (5, .int .i64 p1), (7, .int .i64 (a0.length : Int)), (8, .int .i64 p1), (16, .bool ((a1.fAddr == ((a0.getD p1.toNat default).fAddr)) && ((a1.fLen == ((a0.getD p1.toNat default).fLen)) && true)))], [.box (c_TPrefix a1)]⟩ [decide (0 ≤ p1), decide (p1 < (a0.length : Int))] [] (by kernel_rfl) c5 trivial ?_
      refine then_n ?_
      refine awp_cond (b := ((a1.fAddr == ((a0.getD p1.toNat default).fAddr)) && ((a1.fLen == ((a0.getD p1.toNat default).fLen)) && true))) (by kernel_rfl) (fun b7 => ?_) (fun b7 => ?_)
      · have h8 := cond_t b7 h6
        refine awp_seq ?_
        refine awp_reg [] [4] 0 ⟨19, [(4, .int .i64 p1)], []⟩ [] [] (by kernel_rfl) nil_all trivial ?_
        refine then_n ?_
        refine awp_ret ?_
        refine inb_r ?_
        refine then_r ?_
        obtain rfl := Option.some.inj h8
        exact round_r ⟨rfl, ends_r (.int .i64 p1) (by kernel_rfl) Sub.rfl⟩
      · have h9 := cond_f b7 h6
        refine awp_skip ?_
        refine inb_n ?_
        refine then_n ?_
        refine awp_reg [] [0, 3, 7, 8] 1 ⟨19, [(0, sL 2 c_TPrefix a0), (3, .ref 0 0), (7, .int .i64 (a0.length : Int)), (8, .int .i64 (wr .i64 (p1 + 1)))], [.box (c_TPrefix a1)]⟩ [] [] (by kernel_rfl) nil_all trivial ?_
        obtain rfl := Option.some.inj h9
        exact round_n (le_rfl)
    · have h4 := cond_f b2 h1
      refine awp_exit ?_
      refine then_e ?_
      obtain rfl := Option.some.inj h4
      exact round_e ⟨rfl, Le.trans (s' := ⟨19, [], [.box (c_TPrefix a1)]⟩) (le_keep' [] (by kernel_rfl)) (le_cut (n := 0) (by kernel_rfl))⟩
  · intro e12 s13 o14
    rcases y3 with g4 | y5
    · have h15 := elim_l h11
      obtain ⟨rfl, l17⟩ := o14
      refine inb_here ?_
      refine then_le (s' := ⟨19, [], []⟩) (l17) ?_
      refine awp_seq ?_
      refine awp_reg [] [4] 0 ⟨19, [(4, .int .i64 (-1))], []⟩ [] [] (by kernel_rfl) nil_all trivial ?_
      refine then_n ?_
      refine awp_ret ?_
      obtain rfl := Option.some.inj h15
      exact ends_r (.int .i64 (-1)) (by kernel_rfl) Sub.rfl
    · have h16 := elim_r h11
      obtain ⟨rfl, n18⟩ := o14
      refine inb_r ?_
      refine then_r ?_
      obtain rfl := Option.some.inj h16
      exact n18

/- slices.Contains[[]netverify/api.Prefix,netverify/api.Prefix] -/
noncomputable def M.slices_Contains_api_Prefix_api_Prefix (a0 : List TPrefix) (a1 : TPrefix) : Option Bool :=
  (M.slices_Index_api_Prefix_api_Prefix a0 a1).bind fun r1 => some (decide (r1 ≥ 0))
theorem slices_Contains_api_Prefix_api_Prefix_ok (a0 : List TPrefix) (a1 : TPrefix) (r : Bool) (h : M.slices_Contains_api_Prefix_api_Prefix a0 a1 = some r) : Fn Try.prog 100 [sL 2 c_TPrefix a0, .agg (c_TPrefix a1)] (.pure (.bool r)) := by
  unfold M.slices_Contains_api_Prefix_api_Prefix at h
  refine fn_pure Try.func100 rfl (by kernel_rfl) ?_
  refine awp_seq ?_
  refine awp_reg [] [0, 3] 1 ⟨9, [(0, sL 2 c_TPrefix a0), (3, .ref 0 0)], [.box (c_TPrefix a1)]⟩ [] [] (by kernel_rfl) nil_all trivial ?_
  refine then_n ?_
  refine awp_seq ?_
  obtain ⟨r1, q1, h2⟩ := bind_some h
  refine awp_reg [.pure (.int .i64 r1)] [4] 0 ⟨9, [(4, .bool (decide (r1 ≥ 0)))], []⟩ [] [⟨true, 102, [sL 2 c_TPrefix a0, .agg (c_TPrefix a1)], .pure (.int .i64 r1)⟩] (by kernel_rfl) nil_all ⟨fun _ => slices_Index_api_Prefix_api_Prefix_ok a0 a1 r1 q1, trivial⟩ ?_
  refine then_n ?_
  refine awp_ret ?_
  obtain rfl := Option.some.inj h2
  exact ends_r (.bool (decide (r1 ≥ 0))) (by kernel_rfl) Sub.rfl

/- netverify/model.checkOrigins -/
noncomputable def M.model_checkOrigins_l1 (a0 : TPathVector) (p1 : Int) : Option (Int ⊕ (Unit ⊕ Int)) :=
  bif decide (p1 < (a0.fNetworks.length : Int)) then (gd [decide (0 ≤ p1), decide (p1 < (a0.fNetworks.length : Int))] ((M.addr_Valid (a0.fNetworks.getD p1.toNat default)).bind fun r3 => bif !r3 then (some (.inr (.inr 1))) else ((M.slices_Contains_api_Prefix_api_Prefix ((a0.fNetworks.drop 0).take (p1.toNat - 0)) (a0.fNetworks.getD p1.toNat default)).bind fun r4 => gd [decide (0 ≤ p1), decide (p1 ≤ (a0.fNetworks.length : Int))] (bif r4 then (some (.inr (.inr 4))) else (some (.inl (wr .i64 (p1 + 1)))))))) else (some (.inr (.inl ())))
noncomputable def M.model_checkOrigins_l3 (a0 : TPathVector) (p8 : Int) (p11 : Int) : Option (Int ⊕ (Unit ⊕ Int)) :=
  bif decide (p11 < (p8.toNat - 0 : Int)) then (gd [decide (0 ≤ p11), decide (p11 < (((a0.fAggregates.drop 0).take (p8.toNat - 0)).length : Int))] (bif (((((((a0.fAggregates.drop 0).take (p8.toNat - 0)).getD p11.toNat default).fPrefix).fAddr) == (((a0.fAggregates.getD p8.toNat default).fPrefix).fAddr)) && (((((((a0.fAggregates.drop 0).take (p8.toNat - 0)).getD p11.toNat default).fPrefix).fLen) == (((a0.fAggregates.getD p8.toNat default).fPrefix).fLen)) && true)) then (some (.inr (.inr 4))) else (some (.inl (wr .i64 (p11 + 1)))))) else (some (.inr (.inl ())))
noncomputable def M.model_checkOrigins_l2 (a0 : TPathVector) (p8 : Int) : Option (Int ⊕ (Unit ⊕ Int)) :=
  bif decide (p8 < (a0.fAggregates.length : Int)) then (gd [decide (0 ≤ p8), decide (p8 < (a0.fAggregates.length : Int))] ((M.addr_Valid ((a0.fAggregates.getD p8.toNat default).fPrefix)).bind fun r10 => bif !r10 then (some (.inr (.inr 1))) else (gd [decide (0 ≤ p8), decide (p8 ≤ (a0.fAggregates.length : Int))] ((loopM (M.model_checkOrigins_l3 a0 p8) 0).bind fun y13 => Sum.elim (fun g14 => some (.inl (wr .i64 (p8 + 1)))) (fun y15 => some (.inr (.inr y15))) y13)))) else (some (.inr (.inl ())))
noncomputable def M.model_checkOrigins_l5 (a0 : TPathVector) (p19 : Int) (p23 : Int) : Option (Int ⊕ (Unit ⊕ Int)) :=
  bif decide (p23 < (p19.toNat - 0 : Int)) then (gd [decide (0 ≤ p23), decide (p23 < (((a0.fConditions.drop 0).take (p19.toNat - 0)).length : Int))] (bif (((((((a0.fConditions.drop 0).take (p19.toNat - 0)).getD p23.toNat default).fPrefix).fAddr) == (((a0.fConditions.getD p19.toNat default).fPrefix).fAddr)) && (((((((a0.fConditions.drop 0).take (p19.toNat - 0)).getD p23.toNat default).fPrefix).fLen) == (((a0.fConditions.getD p19.toNat default).fPrefix).fLen)) && true)) then (some (.inr (.inr 4))) else (some (.inl (wr .i64 (p23 + 1)))))) else (some (.inr (.inl ())))
noncomputable def M.model_checkOrigins_l4 (a0 : TPathVector) (p19 : Int) : Option (Int ⊕ (Unit ⊕ Int)) :=
  bif decide (p19 < (a0.fConditions.length : Int)) then (gd [decide (0 ≤ p19), decide (p19 < (a0.fConditions.length : Int))] ((M.addr_Valid ((a0.fConditions.getD p19.toNat default).fPrefix)).bind fun r21 => (gc (!(!r21)) (M.addr_Valid ((a0.fConditions.getD p19.toNat default).fIf))).bind fun r22 => bif (!r21) || (!r22) then (some (.inr (.inr 1))) else (bif (((((a0.fConditions.getD p19.toNat default).fPrefix).fAddr) == (((a0.fConditions.getD p19.toNat default).fIf).fAddr)) && (((((a0.fConditions.getD p19.toNat default).fPrefix).fLen) == (((a0.fConditions.getD p19.toNat default).fIf).fLen)) && true)) then (some (.inr (.inr 6))) else (gd [decide (0 ≤ p19), decide (p19 ≤ (a0.fConditions.length : Int))] ((loopM (M.model_checkOrigins_l5 a0 p19) 0).bind fun y25 => Sum.elim (fun g26 => some (.inl (wr .i64 (p19 + 1)))) (fun y27 => some (.inr (.inr y27))) y25))))) else (some (.inr (.inl ())))
noncomputable def M.model_checkOrigins (a0 : TPathVector) : Option Int :=
  bif decide ((a0.fNetworks.length : Int) > 8) then (some 7) else ((loopM (M.model_checkOrigins_l1 a0) 0).bind fun y5 => Sum.elim (fun g6 => bif decide ((a0.fAggregates.length : Int) > 8) then (some 7) else ((loopM (M.model_checkOrigins_l2 a0) 0).bind fun y16 => Sum.elim (fun g17 => bif decide ((a0.fConditions.length : Int) > 8) then (some 7) else ((loopM (M.model_checkOrigins_l4 a0) 0).bind fun y28 => Sum.elim (fun g29 => some 0) (fun y30 => some y30) y28)) (fun y18 => some y18) y16)) (fun y7 => some y7) y5)
theorem model_checkOrigins_ok (a0 : TPathVector) (r : Int) (h : M.model_checkOrigins a0 = some r) : Fn Try.prog 95 [.agg (c_TPathVector a0)] (.pure (.int .i64 r)) := by
  unfold M.model_checkOrigins at h
  refine fn_pure Try.func95 rfl (by kernel_rfl) ?_
  refine awp_seq ?_
  refine awp_reg [] [1] 1 ⟨110, [(1, .ref 0 0)], [.box (c_TPathVector a0)]⟩ [] [] (by kernel_rfl) nil_all trivial ?_
  refine then_n ?_
  refine awp_seq ?_
  refine awp_seq ?_
  refine awp_reg [] [1, 16] 1 ⟨110, [(1, .ref 0 0), (16, .bool (decide ((a0.fNetworks.length : Int) > 8)))], [.box (c_TPathVector a0)]⟩ [] [] (by kernel_rfl) nil_all trivial ?_
  refine then_n ?_
  refine awp_cond (b := decide ((a0.fNetworks.length : Int) > 8)) (by kernel_rfl) (fun b1 => ?_) (fun b1 => ?_)
  · have h2 := cond_t b1 h
    refine awp_seq ?_
    refine awp_reg [] [2] 0 ⟨110, [(2, .int .i64 7)], []⟩ [] [] (by kernel_rfl) nil_all trivial ?_
    refine then_n ?_
    refine awp_ret ?_
    refine then_r ?_
    obtain rfl := Option.some.inj h2
    exact ends_r (.int .i64 7) (by kernel_rfl) Sub.rfl
  · have h3 := cond_f b1 h
    refine awp_skip ?_
    refine then_n ?_
    refine awp_seq ?_
    refine awp_seq ?_
    refine awp_reg [] [1, 18, 19, 20] 1 ⟨110, [(1, .ref 0 0), (18, sL 2 c_TPrefix a0.fNetworks), (19, .int .i64 (a0.fNetworks.length : Int)), (20, .int .i64 0)], [.box (c_TPathVector a0)]⟩ [] [] (by kernel_rfl) nil_all trivial ?_
    refine then_n ?_
    refine awp_block ?_
    obtain ⟨y5, q22, h23⟩ := bind_some h3
    refine awp_le (s' := ⟨110, [(1, .ref 0 0), (18, sL 2 c_TPrefix a0.fNetworks), (19, .int .i64 (a0.fNetworks.length : Int)), (20, .int .i64 0)], [.box (c_TPathVector a0)]⟩) (le_rfl) ?_
    refine awp_mono (awp_loop (f := M.model_checkOrigins_l1 a0) (S := fun (p1 : Int) => ⟨110, [(1, .ref 0 0), (18, sL 2 c_TPrefix a0.fNetworks), (19, .int .i64 (a0.fNetworks.length : Int)), (20, .int .i64 p1)], [.box (c_TPathVector a0)]⟩) (O := (Sum.elim (fun z => OutE 0 (fun z => ⟨110, [(1, .ref 0 0)], [.box (c_TPathVector a0)]⟩) z) (fun z => OutR Try.prog Try.f95 (.int .i64 z)))) ?_ (x := 0) (y := y5) (loopM_iter q22)) ?_
    · intro p1 y2 h4
      unfold M.model_checkOrigins_l1 at h4
      refine awp_seq ?_
      refine awp_reg [] [1, 18, 19, 20, 21] 1 ⟨110, [(1, .ref 0 0), (18, sL 2 c_TPrefix a0.fNetworks), (19, .int .i64 (a0.fNetworks.length : Int)), (20, .int .i64 p1), (21, .bool (decide (p1 < (a0.fNetworks.length : Int))))], [.box (c_TPathVector a0)]⟩ [] [] (by kernel_rfl) nil_all trivial ?_
      refine then_n ?_
      refine awp_seq ?_
      refine awp_cond (b := decide (p1 < (a0.fNetworks.length : Int))) (by kernel_rfl) (fun b5 => ?_) (fun b5 => ?_)
      · have h6 := cond_t b5 h4
        refine awp_skip ?_
        refine then_n ?_
        refine awp_seq ?_
        refine awp_block ?_
        refine awp_seq ?_
        obtain ⟨c8, h9⟩ := gd_some h6
        refine awp_reg [] [1, 3, 4, 18, 19, 20] 2 ⟨110, [(1, .ref 0 0), (3, .int .i64 p1), (4, .ref 1 0), (18, sL 2 c_TPrefix a0.fNetworks), (19, .int .i64 (a0.fNetworks.length : Int)), (20, .int .i64 p1)], [.box (c_TPathVector a0), .box (c_TPrefix (a0.fNetworks.getD p1.toNat default))]⟩ [decide (0 ≤ p1), decide (p1 < (a0.fNetworks.length : Int))] [] (by kernel_rfl) c8 trivial ?_
        refine then_n ?_
        refine awp_seq ?_
        refine awp_seq ?_
        obtain ⟨r3, q10, h11⟩ := bind_some h9
        refine awp_reg [.pure (.bool r3)] [1, 3, 4, 18, 19, 20, 27] 2 ⟨110, [(1, .ref 0 0), (3, .int .i64 p1), (4, .ref 1 0), (18, sL 2 c_TPrefix a0.fNetworks), (19, .int .i64 (a0.fNetworks.length : Int)), (20, .int .i64 p1), (27, .bool (!r3))], [.box (c_TPathVector a0), .box (c_TPrefix (a0.fNetworks.getD p1.toNat default))]⟩ [] [⟨true, 88, [.agg (c_TPrefix (a0.fNetworks.getD p1.toNat default))], .pure (.bool r3)⟩] (by kernel_rfl) nil_all ⟨fun _ => addr_Valid_ok (a0.fNetworks.getD p1.toNat default) r3 q10, trivial⟩ ?_
        refine then_n ?_
        refine awp_cond (b := !r3) (by kernel_rfl) (fun b12 => ?_) (fun b12 => ?_)
        · have h13 := cond_t b12 h11
          refine awp_seq ?_
          refine awp_reg [] [2] 0 ⟨110, [(2, .int .i64 1)], []⟩ [] [] (by kernel_rfl) nil_all trivial ?_
          refine then_n ?_
          refine awp_ret ?_
          refine then_r ?_
          refine inb_r ?_
          refine then_r ?_
          obtain rfl := Option.some.inj h13
          exact round_r ⟨rfl, ends_r (.int .i64 1) (by kernel_rfl) Sub.rfl⟩
        · have h14 := cond_f b12 h11
          refine awp_skip ?_
          refine then_n ?_
          refine awp_seq ?_
          obtain ⟨r4, q15, h16⟩ := bind_some h14
          obtain ⟨c17, h18⟩ := gd_some h16
          refine awp_reg [.pure (.bool r4)] [1, 18, 19, 20, 33] 1 ⟨110, [(1, .ref 0 0), (18, sL 2 c_TPrefix a0.fNetworks), (19, .int .i64 (a0.fNetworks.length : Int)), (20, .int .i64 p1), (33, .bool r4)], [.box (c_TPathVector a0)]⟩ [decide (0 ≤ p1), decide (p1 ≤ (a0.fNetworks.length : Int))] [⟨true, 100, [.sl false 2 (p1.toNat - 0) (fun i => c_TPrefix (a0.fNetworks.getD (0 + i) default)), .agg (c_TPrefix (a0.fNetworks.getD p1.toNat default))], .pure (.bool r4)⟩] (by kernel_rfl) c17 ⟨fun _ => (slices_Contains_api_Prefix_api_Prefix_ok ((a0.fNetworks.drop 0).take (p1.toNat - 0)) (a0.fNetworks.getD p1.toNat default) r4 q15).args (.cons (asub_sl (len_cut _ _ _ (cut_hi (c17 _ (List.mem_cons_of_mem _ List.mem_cons_self)))) (cut_ext _ _ _ _)) (.cons ASub.rfl .nil)), trivial⟩ ?_
          refine then_n ?_
          refine awp_cond (b := r4) (by kernel_rfl) (fun b19 => ?_) (fun b19 => ?_)
          · have h20 := cond_t b19 h18
            refine awp_seq ?_
            refine awp_reg [] [2] 0 ⟨110, [(2, .int .i64 4)], []⟩ [] [] (by kernel_rfl) nil_all trivial ?_
            refine then_n ?_
            refine awp_ret ?_
            refine inb_r ?_
            refine then_r ?_
            obtain rfl := Option.some.inj h20
            exact round_r ⟨rfl, ends_r (.int .i64 4) (by kernel_rfl) Sub.rfl⟩
          · have h21 := cond_f b19 h18
            refine awp_skip ?_
            refine inb_n ?_
            refine then_n ?_
            refine awp_reg [] [1, 18, 19, 20] 1 ⟨110, [(1, .ref 0 0), (18, sL 2 c_TPrefix a0.fNetworks), (19, .int .i64 (a0.fNetworks.length : Int)), (20, .int .i64 (wr .i64 (p1 + 1)))], [.box (c_TPathVector a0)]⟩ [] [] (by kernel_rfl) nil_all trivial ?_
            obtain rfl := Option.some.inj h21
            exact round_n (le_rfl)
      · have h7 := cond_f b5 h4
        refine awp_exit ?_
        refine then_e ?_
        obtain rfl := Option.some.inj h7
        exact round_e ⟨rfl, le_keep' [1] (by kernel_rfl)⟩
    · intro e24 s25 o26
      rcases y5 with g6 | y7
      · have h27 := elim_l h23
        obtain ⟨rfl, l29⟩ := o26
        refine inb_here ?_
        refine then_le (s' := ⟨110, [(1, .ref 0 0)], [.box (c_TPathVector a0)]⟩) (l29) ?_
        refine awp_seq ?_
        refine awp_seq ?_
        refine awp_reg [] [1, 38] 1 ⟨110, [(1, .ref 0 0), (38, .bool (decide ((a0.fAggregates.length : Int) > 8)))], [.box (c_TPathVector a0)]⟩ [] [] (by kernel_rfl) nil_all trivial ?_
        refine then_n ?_
        refine awp_cond (b := decide ((a0.fAggregates.length : Int) > 8)) (by kernel_rfl) (fun b30 => ?_) (fun b30 => ?_)
        · have h31 := cond_t b30 h27
          refine awp_seq ?_
          refine awp_reg [] [2] 0 ⟨110, [(2, .int .i64 7)], []⟩ [] [] (by kernel_rfl) nil_all trivial ?_
          refine then_n ?_
          refine awp_ret ?_
          refine then_r ?_
          obtain rfl := Option.some.inj h31
          exact ends_r (.int .i64 7) (by kernel_rfl) Sub.rfl
        · have h32 := cond_f b30 h27
          refine awp_skip ?_
          refine then_n ?_
          refine awp_seq ?_
          refine awp_seq ?_
          refine awp_reg [] [1, 40, 41, 42] 1 ⟨110, [(1, .ref 0 0), (40, sL 3 c_TAggregate a0.fAggregates), (41, .int .i64 (a0.fAggregates.length : Int)), (42, .int .i64 0)], [.box (c_TPathVector a0)]⟩ [] [] (by kernel_rfl) nil_all trivial ?_
          refine then_n ?_
          refine awp_block ?_
          obtain ⟨y16, q64, h65⟩ := bind_some h32
          refine awp_le (s' := ⟨110, [(1, .ref 0 0), (40, sL 3 c_TAggregate a0.fAggregates), (41, .int .i64 (a0.fAggregates.length : Int)), (42, .int .i64 0)], [.box (c_TPathVector a0)]⟩) (le_rfl) ?_
          refine awp_mono (awp_loop (f := M.model_checkOrigins_l2 a0) (S := fun (p8 : Int) => ⟨110, [(1, .ref 0 0), (40, sL 3 c_TAggregate a0.fAggregates), (41, .int .i64 (a0.fAggregates.length : Int)), (42, .int .i64 p8)], [.box (c_TPathVector a0)]⟩) (O := (Sum.elim (fun z => OutE 2 (fun z => ⟨110, [(1, .ref 0 0)], [.box (c_TPathVector a0)]⟩) z) (fun z => OutR Try.prog Try.f95 (.int .i64 z)))) ?_ (x := 0) (y := y16) (loopM_iter q64)) ?_
          · intro p8 y9 h33
            unfold M.model_checkOrigins_l2 at h33
            refine awp_seq ?_
            refine awp_reg [] [1, 40, 41, 42, 43] 1 ⟨110, [(1, .ref 0 0), (40, sL 3 c_TAggregate a0.fAggregates), (41, .int .i64 (a0.fAggregates.length : Int)), (42, .int .i64 p8), (43, .bool (decide (p8 < (a0.fAggregates.length : Int))))], [.box (c_TPathVector a0)]⟩ [] [] (by kernel_rfl) nil_all trivial ?_
            refine then_n ?_
            refine awp_seq ?_
            refine awp_cond (b := decide (p8 < (a0.fAggregates.length : Int))) (by kernel_rfl) (fun b34 => ?_) (fun b34 => ?_)
            · have h35 := cond_t b34 h33
              refine awp_skip ?_
              refine then_n ?_
              refine awp_seq ?_
              refine awp_block ?_
              refine awp_seq ?_
              obtain ⟨c37, h38⟩ := gd_some h35
              refine awp_reg [] [1, 5, 6, 40, 41, 42] 2 ⟨110, [(1, .ref 0 0), (5, .int .i64 p8), (6, .ref 1 0), (40, sL 3 c_TAggregate a0.fAggregates), (41, .int .i64 (a0.fAggregates.length : Int)), (42, .int .i64 p8)], [.box (c_TPathVector a0), .box [.int .u32 (((a0.fAggregates.getD p8.toNat default).fPrefix).fAddr), .int .i64 (((a0.fAggregates.getD p8.toNat default).fPrefix).fLen), .bool ((a0.fAggregates.getD p8.toNat default).fOnly)]]⟩ [decide (0 ≤ p8), decide (p8 < (a0.fAggregates.length : Int))] [] (by kernel_rfl) c37 trivial ?_
              refine then_n ?_
              refine awp_seq ?_
              refine awp_seq ?_
              obtain ⟨r10, q39, h40⟩ := bind_some h38
              refine awp_reg [.pure (.bool r10)] [1, 5, 6, 40, 41, 42, 50] 2 ⟨110, [(1, .ref 0 0), (5, .int .i64 p8), (6, .ref 1 0), (40, sL 3 c_TAggregate a0.fAggregates), (41, .int .i64 (a0.fAggregates.length : Int)), (42, .int .i64 p8), (50, .bool (!r10))], [.box (c_TPathVector a0), .box [.int .u32 (((a0.fAggregates.getD p8.toNat default).fPrefix).fAddr), .int .i64 (((a0.fAggregates.getD p8.toNat default).fPrefix).fLen), .bool ((a0.fAggregates.getD p8.toNat default).fOnly)]]⟩ [] [⟨true, 88, [.agg (c_TPrefix ((a0.fAggregates.getD p8.toNat default).fPrefix))], .pure (.bool r10)⟩] (by kernel_rfl) nil_all ⟨fun _ => addr_Valid_ok ((a0.fAggregates.getD p8.toNat default).fPrefix) r10 q39, trivial⟩ ?_
              refine then_n ?_
              refine awp_cond (b := !r10) (by kernel_rfl) (fun b41 => ?_) (fun b41 => ?_)
              · have h42 := cond_t b41 h40
                refine awp_seq ?_
                refine awp_reg [] [2] 0 ⟨110, [(2, .int .i64 1)], []⟩ [] [] (by kernel_rfl) nil_all trivial ?_
                refine then_n ?_
                refine awp_ret ?_
                refine then_r ?_
                refine inb_r ?_
                refine then_r ?_
                obtain rfl := Option.some.inj h42
                exact round_r ⟨rfl, ends_r (.int .i64 1) (by kernel_rfl) Sub.rfl⟩
              · have h43 := cond_f b41 h40
                refine awp_skip ?_
                refine then_n ?_
                refine awp_seq ?_
                obtain ⟨c44, h45⟩ := gd_some h43
                refine awp_reg [] [1, 6, 40, 41, 42, 54, 55, 56] 2 ⟨110, [(1, .ref 0 0), (6, .ref 1 0), (40, sL 3 c_TAggregate a0.fAggregates), (41, .int .i64 (a0.fAggregates.length : Int)), (42, .int .i64 p8), (54, .sl false 3 (p8.toNat - 0) (fun i => c_TAggregate (a0.fAggregates.getD (0 + i) default))), (55, .int .i64 (p8.toNat - 0 : Int)), (56, .int .i64 0)], [.box (c_TPathVector a0), .box [.int .u32 (((a0.fAggregates.getD p8.toNat default).fPrefix).fAddr), .int .i64 (((a0.fAggregates.getD p8.toNat default).fPrefix).fLen), .bool ((a0.fAggregates.getD p8.toNat default).fOnly)]]⟩ [decide (0 ≤ p8), decide (p8 ≤ (a0.fAggregates.length : Int))] [] (by kernel_rfl) c44 trivial ?_
                refine then_le (s' := ⟨110, [(1, .ref 0 0), (6, .ref 1 0), (40, sL 3 c_TAggregate a0.fAggregates), (41, .int .i64 (a0.fAggregates.length : Int)), (42, .int .i64 p8), (54, sL 3 c_TAggregate ((a0.fAggregates.drop 0).take (p8.toNat - 0))), (55, .int .i64 (p8.toNat - 0 : Int)), (56, .int .i64 0)], [.box (c_TPathVector a0), .box [.int .u32 (((a0.fAggregates.getD p8.toNat default).fPrefix).fAddr), .int .i64 (((a0.fAggregates.getD p8.toNat default).fPrefix).fLen), .bool ((a0.fAggregates.getD p8.toNat default).fOnly)]]⟩) (le_sub (.cons Sub.rfl (.cons Sub.rfl (.cons Sub.rfl (.cons Sub.rfl (.cons Sub.rfl (.cons (sub_sl (len_cut _ _ _ (cut_hi (c44 _ (List.mem_cons_of_mem _ List.mem_cons_self)))) (cut_ext _ _ _ _)) (.cons Sub.rfl (.cons Sub.rfl .nil)))))))) (.cons .rfl (.cons .rfl .nil))) ?_
                refine awp_block ?_
                obtain ⟨y13, q55, h56⟩ := bind_some h45
                refine awp_le (s' := ⟨110, [(1, .ref 0 0), (6, .ref 1 0), (40, sL 3 c_TAggregate a0.fAggregates), (41, .int .i64 (a0.fAggregates.length : Int)), (42, .int .i64 p8), (54, sL 3 c_TAggregate ((a0.fAggregates.drop 0).take (p8.toNat - 0))), (55, .int .i64 (p8.toNat - 0 : Int)), (56, .int .i64 0)], [.box (c_TPathVector a0), .box [.int .u32 (((a0.fAggregates.getD p8.toNat default).fPrefix).fAddr), .int .i64 (((a0.fAggregates.getD p8.toNat default).fPrefix).fLen), .bool ((a0.fAggregates.getD p8.toNat default).fOnly)]]⟩) (le_rfl) ?_
                refine awp_mono (awp_loop (f := M.model_checkOrigins_l3 a0 p8) (S := fun (p11 : Int) => ⟨110, [(1, .ref 0 0), (6, .ref 1 0), (40, sL 3 c_TAggregate a0.fAggregates), (41, .int .i64 (a0.fAggregates.length : Int)), (42, .int .i64 p8), (54, sL 3 c_TAggregate ((a0.fAggregates.drop 0).take (p8.toNat - 0))), (55, .int .i64 (p8.toNat - 0 : Int)), (56, .int .i64 p11)], [.box (c_TPathVector a0), .box [.int .u32 (((a0.fAggregates.getD p8.toNat default).fPrefix).fAddr), .int .i64 (((a0.fAggregates.getD p8.toNat default).fPrefix).fLen), .bool ((a0.fAggregates.getD p8.toNat default).fOnly)]]⟩) (O := (Sum.elim (fun z => OutE 4 (fun z => ⟨110, [(1, .ref 0 0), (40, sL 3 c_TAggregate a0.fAggregates), (41, .int .i64 (a0.fAggregates.length : Int)), (42, .int .i64 p8)], [.box (c_TPathVector a0)]⟩) z) (fun z => OutR Try.prog Try.f95 (.int .i64 z)))) ?_ (x := 0) (y := y13) (loopM_iter q55)) ?_
                · intro p11 y12 h46
                  unfold M.model_checkOrigins_l3 at h46
                  refine awp_seq ?_
                  refine awp_reg [] [1, 6, 40, 41, 42, 54, 55, 56, 57] 2 ⟨110, [(1, .ref 0 0), (6, .ref 1 0), (40, sL 3 c_TAggregate a0.fAggregates), (41, .int .i64 (a0.fAggregates.length : Int)), (42, .int .i64 p8), (54, sL 3 c_TAggregate ((a0.fAggregates.drop 0).take (p8.toNat - 0))), (55, .int .i64 (p8.toNat - 0 : Int)), (56, .int .i64 p11), (57, .bool (decide (p11 < (p8.toNat - 0 : Int))))], [.box (c_TPathVector a0), .box [.int .u32 (((a0.fAggregates.getD p8.toNat default).fPrefix).fAddr), .int .i64 (((a0.fAggregates.getD p8.toNat default).fPrefix).fLen), .bool ((a0.fAggregates.getD p8.toNat default).fOnly)]]⟩ [] [] (by kernel_rfl) nil_all trivial ?_
                  refine then_n ?_
                  refine awp_seq ?_
                  refine awp_cond (b := decide (p11 < (p8.toNat - 0 : Int))) (by kernel_rfl) (fun b47 => ?_) (fun b47 => ?_)
                  · have h48 := cond_t b47 h46
                    refine awp_skip ?_
                    refine then_n ?_
                    refine awp_seq ?_
                    refine awp_block ?_
                    refine awp_seq ?_
                    obtain ⟨c50, h51⟩ := gd_some h48
                    refine awp_reg [] [1, 6, 8, 40, 41, 42, 54, 55, 56] 3 ⟨110, [(1, .ref 0 0), (6, .ref 1 0), (8, .ref 2 0), (40, sL 3 c_TAggregate a0.fAggregates), (41, .int .i64 (a0.fAggregates.length : Int)), (42, .int .i64 p8), (54, sL 3 c_TAggregate ((a0.fAggregates.drop 0).take (p8.toNat - 0))), (55, .int .i64 (p8.toNat - 0 : Int)), (56, .int .i64 p11)], [.box (c_TPathVector a0), .box [.int .u32 (((a0.fAggregates.getD p8.toNat default).fPrefix).fAddr), .int .i64 (((a0.fAggregates.getD p8.toNat default).fPrefix).fLen), .bool ((a0.fAggregates.getD p8.toNat default).fOnly)], .box [.int .u32 (((((a0.fAggregates.drop 0).take (p8.toNat - 0)).getD p11.toNat default).fPrefix).fAddr), .int .i64 (((((a0.fAggregates.drop 0).take (p8.toNat - 0)).getD p11.toNat default).fPrefix).fLen), .bool ((((a0.fAggregates.drop 0).take (p8.toNat - 0)).getD p11.toNat default).fOnly)]]⟩ [decide (0 ≤ p11), decide (p11 < (((a0.fAggregates.drop 0).take (p8.toNat - 0)).length : Int))] [] (by kernel_rfl) c50 trivial ?_
                    refine then_n ?_
                    refine awp_seq ?_
                    refine awp_reg [] [1, 6, 40, 41, 42, 54, 55, 56, 64] 2 ⟨110, [(1, .ref 0 0), (6, .ref 1 0), (40, sL 3 c_TAggregate a0.fAggregates), (41, .int .i64 (a0.fAggregates.length : Int)), (42, .int .i64 p8), (54, sL 3 c_TAggregate ((a0.fAggregates.drop 0).take (p8.toNat - 0))), (55, .int .i64 (p8.toNat - 0 : Int)), (56, .int .i64 p11), (64, .bool (((((((a0.fAggregates.drop 0).take (p8.toNat - 0)).getD p11.toNat default).fPrefix).fAddr) == (((a0.fAggregates.getD p8.toNat default).fPrefix).fAddr)) && (((((((a0.fAggregates.drop 0).take (p8.toNat - 0)).getD p11.toNat default).fPrefix).fLen) == (((a0.fAggregates.getD p8.toNat default).fPrefix).fLen)) && true)))], [.box (c_TPathVector a0), .box [.int .u32 (((a0.fAggregates.getD p8.toNat default).fPrefix).fAddr), .int .i64 (((a0.fAggregates.getD p8.toNat default).fPrefix).fLen), .bool ((a0.fAggregates.getD p8.toNat default).fOnly)]]⟩ [] [] (by kernel_rfl) nil_all trivial ?_
                    refine then_n ?_
                    refine awp_cond (b := (((((((a0.fAggregates.drop 0).take (p8.toNat - 0)).getD p11.toNat default).fPrefix).fAddr) == (((a0.fAggregates.getD p8.toNat default).fPrefix).fAddr)) && (((((((a0.fAggregates.drop 0).take (p8.toNat - 0)).getD p11.toNat default).fPrefix).fLen) == (((a0.fAggregates.getD p8.toNat default).fPrefix).fLen)) && true))) (by kernel_rfl) (fun b52 => ?_) (fun b52 => ?_)
                    · have h53 := cond_t b52 h51
                      refine awp_seq ?_
                      refine awp_reg [] [2] 0 ⟨110, [(2, .int .i64 4)], []⟩ [] [] (by kernel_rfl) nil_all trivial ?_
                      refine then_n ?_
                      refine awp_ret ?_
                      refine inb_r ?_
                      refine then_r ?_
                      obtain rfl := Option.some.inj h53
                      exact round_r ⟨rfl, ends_r (.int .i64 4) (by kernel_rfl) Sub.rfl⟩
                    · have h54 := cond_f b52 h51
                      refine awp_skip ?_
                      refine inb_n ?_
                      refine then_n ?_
                      refine awp_reg [] [1, 6, 40, 41, 42, 54, 55, 56] 2 ⟨110, [(1, .ref 0 0), (6, .ref 1 0), (40, sL 3 c_TAggregate a0.fAggregates), (41, .int .i64 (a0.fAggregates.length : Int)), (42, .int .i64 p8), (54, sL 3 c_TAggregate ((a0.fAggregates.drop 0).take (p8.toNat - 0))), (55, .int .i64 (p8.toNat - 0 : Int)), (56, .int .i64 (wr .i64 (p11 + 1)))], [.box (c_TPathVector a0), .box [.int .u32 (((a0.fAggregates.getD p8.toNat default).fPrefix).fAddr), .int .i64 (((a0.fAggregates.getD p8.toNat default).fPrefix).fLen), .bool ((a0.fAggregates.getD p8.toNat default).fOnly)]]⟩ [] [] (by kernel_rfl) nil_all trivial ?_
                      obtain rfl := Option.some.inj h54
                      exact round_n (le_rfl)
                  · have h49 := cond_f b47 h46
                    refine awp_exit ?_
                    refine then_e ?_
                    obtain rfl := Option.some.inj h49
                    exact round_e ⟨rfl, Le.trans (s' := ⟨110, [(1, .ref 0 0), (40, sL 3 c_TAggregate a0.fAggregates), (41, .int .i64 (a0.fAggregates.length : Int)), (42, .int .i64 p8)], [.box (c_TPathVector a0), .box [.int .u32 (((a0.fAggregates.getD p8.toNat default).fPrefix).fAddr), .int .i64 (((a0.fAggregates.getD p8.toNat default).fPrefix).fLen), .bool ((a0.fAggregates.getD p8.toNat default).fOnly)]]⟩) (le_keep' [1, 40, 41, 42] (by kernel_rfl)) (le_cut (n := 1) (by kernel_rfl))⟩
                · intro e57 s58 o59
                  rcases y13 with g14 | y15
                  · have h60 := elim_l h56
                    obtain ⟨rfl, l62⟩ := o59
                    refine inb_here ?_
                    refine inb_n ?_
                    refine then_le (s' := ⟨110, [(1, .ref 0 0), (40, sL 3 c_TAggregate a0.fAggregates), (41, .int .i64 (a0.fAggregates.length : Int)), (42, .int .i64 p8)], [.box (c_TPathVector a0)]⟩) (l62) ?_
                    refine awp_reg [] [1, 40, 41, 42] 1 ⟨110, [(1, .ref 0 0), (40, sL 3 c_TAggregate a0.fAggregates), (41, .int .i64 (a0.fAggregates.length : Int)), (42, .int .i64 (wr .i64 (p8 + 1)))], [.box (c_TPathVector a0)]⟩ [] [] (by kernel_rfl) nil_all trivial ?_
                    obtain rfl := Option.some.inj h60
                    exact round_n (le_rfl)
                  · have h61 := elim_r h56
                    obtain ⟨rfl, n63⟩ := o59
                    refine inb_r ?_
                    refine inb_r ?_
                    refine then_r ?_
                    obtain rfl := Option.some.inj h61
                    exact round_r ⟨rfl, n63⟩
            · have h36 := cond_f b34 h33
              refine awp_exit ?_
              refine then_e ?_
              obtain rfl := Option.some.inj h36
              exact round_e ⟨rfl, le_keep' [1] (by kernel_rfl)⟩
          · intro e66 s67 o68
            rcases y16 with g17 | y18
            · have h69 := elim_l h65
              obtain ⟨rfl, l71⟩ := o68
              refine inb_here ?_
              refine then_le (s' := ⟨110, [(1, .ref 0 0)], [.box (c_TPathVector a0)]⟩) (l71) ?_
              refine awp_seq ?_
              refine awp_seq ?_
              refine awp_reg [] [1, 70] 1 ⟨110, [(1, .ref 0 0), (70, .bool (decide ((a0.fConditions.length : Int) > 8)))], [.box (c_TPathVector a0)]⟩ [] [] (by kernel_rfl) nil_all trivial ?_
              refine then_n ?_
              refine awp_cond (b := decide ((a0.fConditions.length : Int) > 8)) (by kernel_rfl) (fun b72 => ?_) (fun b72 => ?_)
              · have h73 := cond_t b72 h69
                refine awp_seq ?_
                refine awp_reg [] [2] 0 ⟨110, [(2, .int .i64 7)], []⟩ [] [] (by kernel_rfl) nil_all trivial ?_
                refine then_n ?_
                refine awp_ret ?_
                refine then_r ?_
                obtain rfl := Option.some.inj h73
                exact ends_r (.int .i64 7) (by kernel_rfl) Sub.rfl
              · have h74 := cond_f b72 h69
                refine awp_skip ?_
                refine then_n ?_
                refine awp_seq ?_
                refine awp_seq ?_
                refine awp_reg [] [1, 72, 73, 74] 1 ⟨110, [(1, .ref 0 0), (72, sL 5 c_TCondition a0.fConditions), (73, .int .i64 (a0.fConditions.length : Int)), (74, .int .i64 0)], [.box (c_TPathVector a0)]⟩ [] [] (by kernel_rfl) nil_all trivial ?_
                refine then_n ?_
                refine awp_block ?_
                obtain ⟨y28, q111, h112⟩ := bind_some h74
                refine awp_le (s' := ⟨110, [(1, .ref 0 0), (72, sL 5 c_TCondition a0.fConditions), (73, .int .i64 (a0.fConditions.length : Int)), (74, .int .i64 0)], [.box (c_TPathVector a0)]⟩) (le_rfl) ?_
                refine awp_mono (awp_loop (f := M.model_checkOrigins_l4 a0) (S := fun (p19 : Int) => ⟨110, [(1, .ref 0 0), (72, sL 5 c_TCondition a0.fConditions), (73, .int .i64 (a0.fConditions.length : Int)), (74, .int .i64 p19)], [.box (c_TPathVector a0)]⟩) (O := (Sum.elim (fun z => OutE 6 (fun z => ⟨110, [], []⟩) z) (fun z => OutR Try.prog Try.f95 (.int .i64 z)))) ?_ (x := 0) (y := y28) (loopM_iter q111)) ?_
                · intro p19 y20 h75
                  unfold M.model_checkOrigins_l4 at h75
                  refine awp_seq ?_
                  refine awp_reg [] [1, 72, 73, 74, 75] 1 ⟨110, [(1, .ref 0 0), (72, sL 5 c_TCondition a0.fConditions), (73, .int .i64 (a0.fConditions.length : Int)), (74, .int .i64 p19), (75, .bool (decide (p19 < (a0.fConditions.length : Int))))], [.box (c_TPathVector a0)]⟩ [] [] (by kernel_rfl) nil_all trivial ?_
                  refine then_n ?_
                  refine awp_seq ?_
                  refine awp_cond (b := decide (p19 < (a0.fConditions.length : Int))) (by kernel_rfl) (fun b76 => ?_) (fun b76 => ?_)
                  · have h77 := cond_t b76 h75
                    refine awp_skip ?_
                    refine then_n ?_
                    refine awp_seq ?_
                    refine awp_block ?_
                    refine awp_seq ?_
                    obtain ⟨c79, h80⟩ := gd_some h77
                    refine awp_reg [] [1, 9, 10, 72, 73, 74] 2 ⟨110, [(1, .ref 0 0), (9, .int .i64 p19), (10, .ref 1 0), (72, sL 5 c_TCondition a0.fConditions), (73, .int .i64 (a0.fConditions.length : Int)), (74, .int .i64 p19)], [.box (c_TPathVector a0), .box [.int .u32 (((a0.fConditions.getD p19.toNat default).fPrefix).fAddr), .int .i64 (((a0.fConditions.getD p19.toNat default).fPrefix).fLen), .int .u32 (((a0.fConditions.getD p19.toNat default).fIf).fAddr), .int .i64 (((a0.fConditions.getD p19.toNat default).fIf).fLen), .bool ((a0.fConditions.getD p19.toNat default).fAbsent)]]⟩ [decide (0 ≤ p19), decide (p19 < (a0.fConditions.length : Int))] [] (by kernel_rfl) c79 trivial ?_
                    refine then_n ?_
                    refine awp_seq ?_
                    refine awp_seq ?_
                    obtain ⟨r21, q81, h82⟩ := bind_some h80
                    obtain ⟨r22, q83, h84⟩ := bind_some h82
                    refine awp_reg [.pure (.bool r21), .pure (.bool r22)] [1, 9, 10, 72, 73, 74, 88] 2 ⟨110, [(1, .ref 0 0), (9, .int .i64 p19), (10, .ref 1 0), (72, sL 5 c_TCondition a0.fConditions), (73, .int .i64 (a0.fConditions.length : Int)), (74, .int .i64 p19), (88, .bool ((!r21) || (!r22)))], [.box (c_TPathVector a0), .box [.int .u32 (((a0.fConditions.getD p19.toNat default).fPrefix).fAddr), .int .i64 (((a0.fConditions.getD p19.toNat default).fPrefix).fLen), .int .u32 (((a0.fConditions.getD p19.toNat default).fIf).fAddr), .int .i64 (((a0.fConditions.getD p19.toNat default).fIf).fLen), .bool ((a0.fConditions.getD p19.toNat default).fAbsent)]]⟩ [] [⟨true, 88, [.agg (c_TPrefix ((a0.fConditions.getD p19.toNat default).fPrefix))], .pure (.bool r21)⟩, ⟨(!(!r21)), 88, [.agg (c_TPrefix ((a0.fConditions.getD p19.toNat default).fIf))], .pure (.bool r22)⟩] (by kernel_rfl) nil_all ⟨fun _ => addr_Valid_ok ((a0.fConditions.getD p19.toNat default).fPrefix) r21 q81, fun hg => addr_Valid_ok ((a0.fConditions.getD p19.toNat default).fIf) r22 (gc_some q83 hg), trivial⟩ ?_
                    refine then_n ?_
                    refine awp_cond (b := (!r21) || (!r22)) (by kernel_rfl) (fun b85 => ?_) (fun b85 => ?_)
                    · have h86 := cond_t b85 h84
                      refine awp_seq ?_
                      refine awp_reg [] [2] 0 ⟨110, [(2, .int .i64 1)], []⟩ [] [] (by kernel_rfl) nil_all trivial ?_
                      refine then_n ?_
                      refine awp_ret ?_
                      refine then_r ?_
                      refine inb_r ?_
                      refine then_r ?_
                      obtain rfl := Option.some.inj h86
                      exact round_r ⟨rfl, ends_r (.int .i64 1) (by kernel_rfl) Sub.rfl⟩
                    · have h87 := cond_f b85 h84
                      refine awp_skip ?_
                      refine then_n ?_
                      refine awp_seq ?_
                      refine awp_seq ?_
                      refine awp_reg [] [1, 9, 10, 72, 73, 74, 93] 2 ⟨110, [(1, .ref 0 0), (9, .int .i64 p19), (10, .ref 1 0), (72, sL 5 c_TCondition a0.fConditions), (73, .int .i64 (a0.fConditions.length : Int)), (74, .int .i64 p19), (93, .bool (((((a0.fConditions.getD p19.toNat default).fPrefix).fAddr) == (((a0.fConditions.getD p19.toNat default).fIf).fAddr)) && (((((a0.fConditions.getD p19.toNat default).fPrefix).fLen) == (((a0.fConditions.getD p19.toNat default).fIf).fLen)) && true)))], [.box (c_TPathVector a0), .box [.int .u32 (((a0.fConditions.getD p19.toNat default).fPrefix).fAddr), .int .i64 (((a0.fConditions.getD p19.toNat default).fPrefix).fLen), .int .u32 (((a0.fConditions.getD p19.toNat default).fIf).fAddr), .int .i64 (((a0.fConditions.getD p19.toNat default).fIf).fLen), .bool ((a0.fConditions.getD p19.toNat default).fAbsent)]]⟩ [] [] (by kernel_rfl) nil_all trivial ?_
                      refine then_n ?_
                      refine awp_cond (b := (((((a0.fConditions.getD p19.toNat default).fPrefix).fAddr) == (((a0.fConditions.getD p19.toNat default).fIf).fAddr)) && (((((a0.fConditions.getD p19.toNat default).fPrefix).fLen) == (((a0.fConditions.getD p19.toNat default).fIf).fLen)) && true))) (by kernel_rfl) (fun b88 => ?_) (fun b88 => ?_)
                      · have h89 := cond_t b88 h87
                        refine awp_seq ?_
                        refine awp_reg [] [2] 0 ⟨110, [(2, .int .i64 6)], []⟩ [] [] (by kernel_rfl) nil_all trivial ?_
                        refine then_n ?_
                        refine awp_ret ?_
                        refine then_r ?_
                        refine inb_r ?_
                        refine then_r ?_
                        obtain rfl := Option.some.inj h89
                        exact round_r ⟨rfl, ends_r (.int .i64 6) (by kernel_rfl) Sub.rfl⟩
                      · have h90 := cond_f b88 h87
                        refine awp_skip ?_
                        refine then_n ?_
                        refine awp_seq ?_
                        obtain ⟨c91, h92⟩ := gd_some h90
                        refine awp_reg [] [1, 10, 72, 73, 74, 97, 98, 99] 2 ⟨110, [(1, .ref 0 0), (10, .ref 1 0), (72, sL 5 c_TCondition a0.fConditions), (73, .int .i64 (a0.fConditions.length : Int)), (74, .int .i64 p19), (97, .sl false 5 (p19.toNat - 0) (fun i => c_TCondition (a0.fConditions.getD (0 + i) default))), (98, .int .i64 (p19.toNat - 0 : Int)), (99, .int .i64 0)], [.box (c_TPathVector a0), .box [.int .u32 (((a0.fConditions.getD p19.toNat default).fPrefix).fAddr), .int .i64 (((a0.fConditions.getD p19.toNat default).fPrefix).fLen), .int .u32 (((a0.fConditions.getD p19.toNat default).fIf).fAddr), .int .i64 (((a0.fConditions.getD p19.toNat default).fIf).fLen), .bool ((a0.fConditions.getD p19.toNat default).fAbsent)]]⟩ [decide (0 ≤ p19), decide (p19 ≤ (a0.fConditions.length : Int))] [] (by kernel_rfl) c91 trivial ?_
                        refine then_le (s' := ⟨110, [(1, .ref 0 0), (10, .ref 1 0), (72, sL 5 c_TCondition a0.fConditions), (73, .int .i64 (a0.fConditions.length : Int)), (74, .int .i64 p19), (97, sL 5 c_TCondition ((a0.fConditions.drop 0).take (p19.toNat - 0))), (98, .int .i64 (p19.toNat - 0 : Int)), (99, .int .i64 0)], [.box (c_TPathVector a0), .box [.int .u32 (((a0.fConditions.getD p19.toNat default).fPrefix).fAddr), .int .i64 (((a0.fConditions.getD p19.toNat default).fPrefix).fLen), .int .u32 (((a0.fConditions.getD p19.toNat default).fIf).fAddr), .int .i64 (((a0.fConditions.getD p19.toNat default).fIf).fLen), .bool ((a0.fConditions.getD p19.toNat default).fAbsent)]]⟩) (le_sub (.cons Sub.rfl (.cons Sub.rfl (.cons Sub.rfl (.cons Sub.rfl (.cons Sub.rfl (.cons (sub_sl (len_cut _ _ _ (cut_hi (c91 _ (List.mem_cons_of_mem _ List.mem_cons_self)))) (cut_ext _ _ _ _)) (.cons Sub.rfl (.cons Sub.rfl .nil)))))))) (.cons .rfl (.cons .rfl .nil))) ?_
                        refine awp_block ?_
                        obtain ⟨y25, q102, h103⟩ := bind_some h92
                        refine awp_le (s' := ⟨110, [(1, .ref 0 0), (10, .ref 1 0), (72, sL 5 c_TCondition a0.fConditions), (73, .int .i64 (a0.fConditions.length : Int)), (74, .int .i64 p19), (97, sL 5 c_TCondition ((a0.fConditions.drop 0).take (p19.toNat - 0))), (98, .int .i64 (p19.toNat - 0 : Int)), (99, .int .i64 0)], [.box (c_TPathVector a0), .box [.int .u32 (((a0.fConditions.getD p19.toNat default).fPrefix).fAddr), .int .i64 (((a0.fConditions.getD p19.toNat default).fPrefix).fLen), .int .u32 (((a0.fConditions.getD p19.toNat default).fIf).fAddr), .int .i64 (((a0.fConditions.getD p19.toNat default).fIf).fLen), .bool ((a0.fConditions.getD p19.toNat default).fAbsent)]]⟩) (le_rfl) ?_
                        refine awp_mono (awp_loop (f := M.model_checkOrigins_l5 a0 p19) (S := fun (p23 : Int) => ⟨110, [(1, .ref 0 0), (10, .ref 1 0), (72, sL 5 c_TCondition a0.fConditions), (73, .int .i64 (a0.fConditions.length : Int)), (74, .int .i64 p19), (97, sL 5 c_TCondition ((a0.fConditions.drop 0).take (p19.toNat - 0))), (98, .int .i64 (p19.toNat - 0 : Int)), (99, .int .i64 p23)], [.box (c_TPathVector a0), .box [.int .u32 (((a0.fConditions.getD p19.toNat default).fPrefix).fAddr), .int .i64 (((a0.fConditions.getD p19.toNat default).fPrefix).fLen), .int .u32 (((a0.fConditions.getD p19.toNat default).fIf).fAddr), .int .i64 (((a0.fConditions.getD p19.toNat default).fIf).fLen), .bool ((a0.fConditions.getD p19.toNat default).fAbsent)]]⟩) (O := (Sum.elim (fun z => OutE 8 (fun z => ⟨110, [(1, .ref 0 0), (72, sL 5 c_TCondition a0.fConditions), (73, .int .i64 (a0.fConditions.length : Int)), (74, .int .i64 p19)], [.box (c_TPathVector a0)]⟩) z) (fun z => OutR Try.prog Try.f95 (.int .i64 z)))) ?_ (x := 0) (y := y25) (loopM_iter q102)) ?_
                        · intro p23 y24 h93
                          unfold M.model_checkOrigins_l5 at h93
                          refine awp_seq ?_
                          refine awp_reg [] [1, 10, 72, 73, 74, 97, 98, 99, 100] 2 ⟨110, [(1, .ref 0 0), (10, .ref 1 0), (72, sL 5 c_TCondition a0.fConditions), (73, .int .i64 (a0.fConditions.length : Int)), (74, .int .i64 p19), (97, sL 5 c_TCondition ((a0.fConditions.drop 0).take (p19.toNat - 0))), (98, .int .i64 (p19.toNat - 0 : Int)), (99, .int .i64 p23), (100, .bool (decide (p23 < (p19.toNat - 0 : Int))))], [.box (c_TPathVector a0), .box [.int .u32 (((a0.fConditions.getD p19.toNat default).fPrefix).fAddr), .int .i64 (((a0.fConditions.getD p19.toNat default).fPrefix).fLen), .int .u32 (((a0.fConditions.getD p19.toNat default).fIf).fAddr), .int .i64 (((a0.fConditions.getD p19.toNat default).fIf).fLen), .bool ((a0.fConditions.getD p19.toNat default).fAbsent)]]⟩ [] [] (by kernel_rfl) nil_all trivial ?_
                          refine then_n ?_
                          refine awp_seq ?_
                          refine awp_cond (b := decide (p23 < (p19.toNat - 0 : Int))) (by kernel_rfl) (fun b94 => ?_) (fun b94 => ?_)
                          · have h95 := cond_t b94 h93
                            refine awp_skip ?_
                            refine then_n ?_
                            refine awp_seq ?_
                            refine awp_block ?_
                            refine awp_seq ?_
                            obtain ⟨c97, h98⟩ := gd_some h95
                            refine awp_reg [] [1, 10, 12, 72, 73, 74, 97, 98, 99] 3 ⟨110, [(1, .ref 0 0), (10, .ref 1 0), (12, .ref 2 0), (72, sL 5 c_TCondition a0.fConditions), (73, .int .i64 (a0.fConditions.length : Int)), (74, .int .i64 p19), (97, sL 5 c_TCondition ((a0.fConditions.drop 0).take (p19.toNat - 0))), (98, .int .i64 (p19.toNat - 0 : Int)), (99, .int .i64 p23)], [.box (c_TPathVector a0), .box [.int .u32 (((a0.fConditions.getD p19.toNat default).fPrefix).fAddr), .int .i64 (((a0.fConditions.getD p19.toNat default).fPrefix).fLen), .int .u32 (((a0.fConditions.getD p19.toNat default).fIf).fAddr), .int .i64 (((a0.fConditions.getD p19.toNat default).fIf).fLen), .bool ((a0.fConditions.getD p19.toNat default).fAbsent)], .box [.int .u32 (((((a0.fConditions.drop 0).take (p19.toNat - 0)).getD p23.toNat default).fPrefix).fAddr), .int .i64 (((((a0.fConditions.drop 0).take (p19.toNat - 0)).getD p23.toNat default).fPrefix).fLen), .int .u32 (((((a0.fConditions.drop 0).take (p19.toNat - 0)).getD p23.toNat default).fIf).fAddr), .int .i64 (((((a0.fConditions.drop 0).take (p19.toNat - 0)).getD p23.toNat default).fIf).fLen), .bool ((((a0.fConditions.drop 0).take (p19.toNat - 0)).getD p23.toNat default).fAbsent)]]⟩ [decide (0 ≤ p23), decide (p23 < (((a0.fConditions.drop 0).take (p19.toNat - 0)).length : Int))] [] (by kernel_rfl) c97 trivial ?_
                            refine then_n ?_
                            refine awp_seq ?_
                            refine awp_reg [] [1, 10, 72, 73, 74, 97, 98, 99, 107] 2 ⟨110, [(1, .ref 0 0), (10, .ref 1 0), (72, sL 5 c_TCondition a0.fConditions), (73, .int .i64 (a0.fConditions.length : Int)), (74, .int .i64 p19), (97, sL 5 c_TCondition ((a0.fConditions.drop 0).take (p19.toNat - 0))), (98, .int .i64 (p19.toNat - 0 : Int)), (99, .int .i64 p23), (107, .bool (((((((a0.fConditions.drop 0).take (p19.toNat - 0)).getD p23.toNat default).fPrefix).fAddr) == (((a0.fConditions.getD p19.toNat default).fPrefix).fAddr)) && (((((((a0.fConditions.drop 0).take (p19.toNat - 0)).getD p23.toNat default).fPrefix).fLen) == (((a0.fConditions.getD p19.toNat default).fPrefix).fLen)) && true)))], [.box (c_TPathVector a0), .box [.int .u32 (((a0.fConditions.getD p19.toNat default).fPrefix).fAddr), .int .i64 (((a0.fConditions.getD p19.toNat default).fPrefix).fLen), .int .u32 (((a0.fConditions.getD p19.toNat default).fIf).fAddr), .int .i64 (((a0.fConditions.getD p19.toNat default).fIf).fLen), .bool ((a0.fConditions.getD p19.toNat default).fAbsent)]]⟩ [] [] (by kernel_rfl) nil_all trivial ?_
                            refine then_n ?_
                            refine awp_cond (b := (((((((a0.fConditions.drop 0).take (p19.toNat - 0)).getD p23.toNat default).fPrefix).fAddr) == (((a0.fConditions.getD p19.toNat default).fPrefix).fAddr)) && (((((((a0.fConditions.drop 0).take (p19.toNat - 0)).getD p23.toNat default).fPrefix).fLen) == (((a0.fConditions.getD p19.toNat default).fPrefix).fLen)) && true))) (by kernel_rfl) (fun b99 => ?_) (fun b99 => ?_)
                            · have h100 := cond_t b99 h98
                              refine awp_seq ?_
                              refine awp_reg [] [2] 0 ⟨110, [(2, .int .i64 4)], []⟩ [] [] (by kernel_rfl) nil_all trivial ?_
                              refine then_n ?_
                              refine awp_ret ?_
                              refine inb_r ?_
                              refine then_r ?_
                              obtain rfl := Option.some.inj h100
                              exact round_r ⟨rfl, ends_r (.int .i64 4) (by kernel_rfl) Sub.rfl⟩
                            · have h101 := cond_f b99 h98
                              refine awp_skip ?_
                              refine inb_n ?_
                              refine then_n ?_
                              refine awp_reg [] [1, 10, 72, 73, 74, 97, 98, 99] 2 ⟨110, [(1, .ref 0 0), (10, .ref 1 0), (72, sL 5 c_TCondition a0.fConditions), (73, .int .i64 (a0.fConditions.length : Int)), (74, .int .i64 p19), (97, sL 5 c_TCondition ((a0.fConditions.drop 0).take (p19.toNat - 0))), (98, .int .i64 (p19.toNat - 0 : Int)), (99, .int .i64 (wr .i64 (p23 + 1)))], [.box (c_TPathVector a0), .box [.int .u32 (((a0.fConditions.getD p19.toNat default).fPrefix).fAddr), .int .i64 (((a0.fConditions.getD p19.toNat default).fPrefix).fLen), .int .u32 (((a0.fConditions.getD p19.toNat default).fIf).fAddr), .int .i64 (((a0.fConditions.getD p19.toNat default).fIf).fLen), .bool ((a0.fConditions.getD p19.toNat default).fAbsent)]]⟩ [] [] (by kernel_rfl) nil_all trivial ?_
                              obtain rfl := Option.some.inj h101
                              exact round_n (le_rfl)
                          · have h96 := cond_f b94 h93
                            refine awp_exit ?_
                            refine then_e ?_
                            obtain rfl := Option.some.inj h96
                            exact round_e ⟨rfl, Le.trans (s' := ⟨110, [(1, .ref 0 0), (72, sL 5 c_TCondition a0.fConditions), (73, .int .i64 (a0.fConditions.length : Int)), (74, .int .i64 p19)], [.box (c_TPathVector a0), .box [.int .u32 (((a0.fConditions.getD p19.toNat default).fPrefix).fAddr), .int .i64 (((a0.fConditions.getD p19.toNat default).fPrefix).fLen), .int .u32 (((a0.fConditions.getD p19.toNat default).fIf).fAddr), .int .i64 (((a0.fConditions.getD p19.toNat default).fIf).fLen), .bool ((a0.fConditions.getD p19.toNat default).fAbsent)]]⟩) (le_keep' [1, 72, 73, 74] (by kernel_rfl)) (le_cut (n := 1) (by kernel_rfl))⟩
                        · intro e104 s105 o106
                          rcases y25 with g26 | y27
                          · have h107 := elim_l h103
                            obtain ⟨rfl, l109⟩ := o106
                            refine inb_here ?_
                            refine inb_n ?_
                            refine then_le (s' := ⟨110, [(1, .ref 0 0), (72, sL 5 c_TCondition a0.fConditions), (73, .int .i64 (a0.fConditions.length : Int)), (74, .int .i64 p19)], [.box (c_TPathVector a0)]⟩) (l109) ?_
                            refine awp_reg [] [1, 72, 73, 74] 1 ⟨110, [(1, .ref 0 0), (72, sL 5 c_TCondition a0.fConditions), (73, .int .i64 (a0.fConditions.length : Int)), (74, .int .i64 (wr .i64 (p19 + 1)))], [.box (c_TPathVector a0)]⟩ [] [] (by kernel_rfl) nil_all trivial ?_
                            obtain rfl := Option.some.inj h107
                            exact round_n (le_rfl)
                          · have h108 := elim_r h103
                            obtain ⟨rfl, n110⟩ := o106
                            refine inb_r ?_
                            refine inb_r ?_
                            refine then_r ?_
                            obtain rfl := Option.some.inj h108
                            exact round_r ⟨rfl, n110⟩
                  · have h78 := cond_f b76 h75
                    refine awp_exit ?_
                    refine then_e ?_
                    obtain rfl := Option.some.inj h78
                    exact round_e ⟨rfl, Le.trans (s' := ⟨110, [], [.box (c_TPathVector a0)]⟩) (le_keep' [] (by kernel_rfl)) (le_cut (n := 0) (by kernel_rfl))⟩
                · intro e113 s114 o115
                  rcases y28 with g29 | y30
                  · have h116 := elim_l h112
                    obtain ⟨rfl, l118⟩ := o115
                    refine inb_here ?_
                    refine then_le (s' := ⟨110, [], []⟩) (l118) ?_
                    refine awp_seq ?_
                    refine awp_reg [] [2] 0 ⟨110, [(2, .int .i64 0)], []⟩ [] [] (by kernel_rfl) nil_all trivial ?_
                    refine then_n ?_
                    refine awp_ret ?_
                    obtain rfl := Option.some.inj h116
                    exact ends_r (.int .i64 0) (by kernel_rfl) Sub.rfl
                  · have h117 := elim_r h112
                    obtain ⟨rfl, n119⟩ := o115
                    refine inb_r ?_
                    refine then_r ?_
                    obtain rfl := Option.some.inj h117
                    exact n119
            · have h70 := elim_r h65
              obtain ⟨rfl, n120⟩ := o68
              refine inb_r ?_
              refine then_r ?_
              obtain rfl := Option.some.inj h70
              exact n120
      · have h28 := elim_r h23
        obtain ⟨rfl, n121⟩ := o26
        refine inb_r ?_
        refine then_r ?_
        obtain rfl := Option.some.inj h28
        exact n121

/- netverify/model.checkPathVector -/
noncomputable def M.model_checkPathVector (a0 : TRouter) : Option Int :=
  bif !a0.fPV.fOn then (bif ((((((a0.fPV.fExternal != 0) || (a0.fPV.fInternal != 0)) || (decide ((a0.fPV.fNeighbors.length : Int) > 0))) || (decide ((a0.fPV.fNetworks.length : Int) > 0))) || (decide ((a0.fPV.fAggregates.length : Int) > 0))) || (decide ((a0.fPV.fConditions.length : Int) > 0))) || (decide ((a0.fPV.fRedist.length : Int) > 0)) then (some 1) else (some 0)) else ((gc (!(a0.fAS == 0)) (M.model_within a0.fPV.fExternal 1 255)).bind fun r1 => (gc (!((a0.fAS == 0) || (!r1))) (M.model_within a0.fPV.fInternal 1 255)).bind fun r2 => bif ((a0.fAS == 0) || (!r1)) || (!r2) then (some 1) else ((M.model_checkNeighbors a0).bind fun r3 => bif r3 != 0 then (some r3) else ((M.model_checkOrigins a0.fPV).bind fun r4 => bif r4 != 0 then (some r4) else ((M.model_checkRedist a0 a0.fPV.fRedist 5 0 16777215 0).bind fun r5 => some r5))))
theorem model_checkPathVector_ok (a0 : TRouter) (r : Int) (h : M.model_checkPathVector a0 = some r) : Fn Try.prog 71 [.agg (c_TRouter a0)] (.pure (.int .i64 r)) := by
  unfold M.model_checkPathVector at h
  refine fn_pure Try.func71 rfl (by kernel_rfl) ?_
  refine awp_seq ?_
  refine awp_reg [] [1] 1 ⟨78, [(1, .ref 0 0)], [.box (c_TRouter a0)]⟩ [] [] (by kernel_rfl) nil_all trivial ?_
  refine then_n ?_
  refine awp_seq ?_
  refine awp_reg [] [1, 3] 2 ⟨78, [(1, .ref 0 0), (3, .ref 1 0)], [.box (c_TRouter a0), .box (c_TPathVector a0.fPV)]⟩ [] [] (by kernel_rfl) nil_all trivial ?_
  refine then_n ?_
  refine awp_seq ?_
  refine awp_seq ?_
  refine awp_reg [] [1, 3, 10] 2 ⟨78, [(1, .ref 0 0), (3, .ref 1 0), (10, .bool (!a0.fPV.fOn))], [.box (c_TRouter a0), .box (c_TPathVector a0.fPV)]⟩ [] [] (by kernel_rfl) nil_all trivial ?_
  refine then_n ?_
  refine awp_cond (b := !a0.fPV.fOn) (by kernel_rfl) (fun b1 => ?_) (fun b1 => ?_)
  · have h2 := cond_t b1 h
    refine awp_seq ?_
    refine awp_seq ?_
    refine awp_reg [] [48] 0 ⟨78, [(48, .bool (((((((a0.fPV.fExternal != 0) || (a0.fPV.fInternal != 0)) || (decide ((a0.fPV.fNeighbors.length : Int) > 0))) || (decide ((a0.fPV.fNetworks.length : Int) > 0))) || (decide ((a0.fPV.fAggregates.length : Int) > 0))) || (decide ((a0.fPV.fConditions.length : Int) > 0))) || (decide ((a0.fPV.fRedist.length : Int) > 0))))], []⟩ [] [] (by kernel_rfl) nil_all trivial ?_
    refine then_n ?_
    refine awp_cond (b := ((((((a0.fPV.fExternal != 0) || (a0.fPV.fInternal != 0)) || (decide ((a0.fPV.fNeighbors.length : Int) > 0))) || (decide ((a0.fPV.fNetworks.length : Int) > 0))) || (decide ((a0.fPV.fAggregates.length : Int) > 0))) || (decide ((a0.fPV.fConditions.length : Int) > 0))) || (decide ((a0.fPV.fRedist.length : Int) > 0))) (by kernel_rfl) (fun b4 => ?_) (fun b4 => ?_)
    · have h5 := cond_t b4 h2
      refine awp_seq ?_
      refine awp_reg [] [2] 0 ⟨78, [(2, .int .i64 1)], []⟩ [] [] (by kernel_rfl) nil_all trivial ?_
      refine then_n ?_
      refine awp_ret ?_
      refine then_r ?_
      refine then_r ?_
      obtain rfl := Option.some.inj h5
      exact ends_r (.int .i64 1) (by kernel_rfl) Sub.rfl
    · have h6 := cond_f b4 h2
      refine awp_skip ?_
      refine then_n ?_
      refine awp_seq ?_
      refine awp_reg [] [2] 0 ⟨78, [(2, .int .i64 0)], []⟩ [] [] (by kernel_rfl) nil_all trivial ?_
      refine then_n ?_
      refine awp_ret ?_
      refine then_r ?_
      obtain rfl := Option.some.inj h6
      exact ends_r (.int .i64 0) (by kernel_rfl) Sub.rfl
  · have h3 := cond_f b1 h
    refine awp_skip ?_
    refine then_n ?_
    refine awp_seq ?_
    refine awp_seq ?_
    obtain ⟨r1, q7, h8⟩ := bind_some h3
    obtain ⟨r2, q9, h10⟩ := bind_some h8
    refine awp_reg [.pure (.bool r1), .pure (.bool r2)] [1, 3, 63] 2 ⟨78, [(1, .ref 0 0), (3, .ref 1 0), (63, .bool (((a0.fAS == 0) || (!r1)) || (!r2)))], [.box (c_TRouter a0), .box (c_TPathVector a0.fPV)]⟩ [] [⟨(!(a0.fAS == 0)), 61, [.int .i64 a0.fPV.fExternal, .int .i64 1, .int .i64 255], .pure (.bool r1)⟩, ⟨(!((a0.fAS == 0) || (!r1))), 61, [.int .i64 a0.fPV.fInternal, .int .i64 1, .int .i64 255], .pure (.bool r2)⟩] (by kernel_rfl) nil_all ⟨fun hg => model_within_ok a0.fPV.fExternal 1 255 r1 (gc_some q7 hg), fun hg => model_within_ok a0.fPV.fInternal 1 255 r2 (gc_some q9 hg), trivial⟩ ?_
    refine then_n ?_
    refine awp_cond (b := ((a0.fAS == 0) || (!r1)) || (!r2)) (by kernel_rfl) (fun b11 => ?_) (fun b11 => ?_)
    · have h12 := cond_t b11 h10
      refine awp_seq ?_
      refine awp_reg [] [2] 0 ⟨78, [(2, .int .i64 1)], []⟩ [] [] (by kernel_rfl) nil_all trivial ?_
      refine then_n ?_
      refine awp_ret ?_
      refine then_r ?_
      obtain rfl := Option.some.inj h12
      exact ends_r (.int .i64 1) (by kernel_rfl) Sub.rfl
    · have h13 := cond_f b11 h10
      refine awp_skip ?_
      refine then_n ?_
      refine awp_seq ?_
      refine awp_seq ?_
      obtain ⟨r3, q14, h15⟩ := bind_some h13
      refine awp_reg [.pure (.int .i64 r3)] [1, 3, 4] 2 ⟨78, [(1, .ref 0 0), (3, .ref 1 0), (4, .int .i64 r3)], [.box (c_TRouter a0), .box (c_TPathVector a0.fPV)]⟩ [] [⟨true, 94, [.agg (c_TRouter a0)], .pure (.int .i64 r3)⟩] (by kernel_rfl) nil_all ⟨fun _ => model_checkNeighbors_ok a0 r3 q14, trivial⟩ ?_
      refine then_n ?_
      refine awp_seq ?_
      refine awp_reg [] [1, 3, 4, 67] 2 ⟨78, [(1, .ref 0 0), (3, .ref 1 0), (4, .int .i64 r3), (67, .bool (r3 != 0))], [.box (c_TRouter a0), .box (c_TPathVector a0.fPV)]⟩ [] [] (by kernel_rfl) nil_all trivial ?_
      refine then_n ?_
      refine awp_cond (b := r3 != 0) (by kernel_rfl) (fun b16 => ?_) (fun b16 => ?_)
      · have h17 := cond_t b16 h15
        refine awp_seq ?_
        refine awp_reg [] [2] 0 ⟨78, [(2, .int .i64 r3)], []⟩ [] [] (by kernel_rfl) nil_all trivial ?_
        refine then_n ?_
        refine awp_ret ?_
        refine then_r ?_
        obtain rfl := Option.some.inj h17
        exact ends_r (.int .i64 r3) (by kernel_rfl) Sub.rfl
      · have h18 := cond_f b16 h15
        refine awp_skip ?_
        refine then_n ?_
        refine awp_seq ?_
        refine awp_seq ?_
        obtain ⟨r4, q19, h20⟩ := bind_some h18
        refine awp_reg [.pure (.int .i64 r4)] [1, 3, 5] 2 ⟨78, [(1, .ref 0 0), (3, .ref 1 0), (5, .int .i64 r4)], [.box (c_TRouter a0), .box (c_TPathVector a0.fPV)]⟩ [] [⟨true, 95, [.agg (c_TPathVector a0.fPV)], .pure (.int .i64 r4)⟩] (by kernel_rfl) nil_all ⟨fun _ => model_checkOrigins_ok a0.fPV r4 q19, trivial⟩ ?_
        refine then_n ?_
        refine awp_seq ?_
        refine awp_reg [] [1, 3, 5, 72] 2 ⟨78, [(1, .ref 0 0), (3, .ref 1 0), (5, .int .i64 r4), (72, .bool (r4 != 0))], [.box (c_TRouter a0), .box (c_TPathVector a0.fPV)]⟩ [] [] (by kernel_rfl) nil_all trivial ?_
        refine then_n ?_
        refine awp_cond (b := r4 != 0) (by kernel_rfl) (fun b21 => ?_) (fun b21 => ?_)
        · have h22 := cond_t b21 h20
          refine awp_seq ?_
          refine awp_reg [] [2] 0 ⟨78, [(2, .int .i64 r4)], []⟩ [] [] (by kernel_rfl) nil_all trivial ?_
          refine then_n ?_
          refine awp_ret ?_
          refine then_r ?_
          obtain rfl := Option.some.inj h22
          exact ends_r (.int .i64 r4) (by kernel_rfl) Sub.rfl
        · have h23 := cond_f b21 h20
          refine awp_skip ?_
          refine then_n ?_
          refine awp_seq ?_
          obtain ⟨r5, q24, h25⟩ := bind_some h23
          refine awp_reg [.pure (.int .i64 r5)] [2] 0 ⟨78, [(2, .int .i64 r5)], []⟩ [] [⟨true, 93, [.agg (c_TRouter a0), sL 5 c_TRedist a0.fPV.fRedist, .int .i64 5, .int .i64 0, .int .i64 16777215, .int .i64 0], .pure (.int .i64 r5)⟩] (by kernel_rfl) nil_all ⟨fun _ => model_checkRedist_ok a0 a0.fPV.fRedist 5 0 16777215 0 r5 q24, trivial⟩ ?_
          refine then_n ?_
          refine awp_ret ?_
          obtain rfl := Option.some.inj h25
          exact ends_r (.int .i64 r5) (by kernel_rfl) Sub.rfl

/- netverify/model.CheckRouter -/
noncomputable def M.model_CheckRouter (a0 : TRouter) : Option Int :=
  (M.scan_Name a0.fName).bind fun r1 => bif !r1 then (some 3) else ((M.model_within a0.fAS 0 65535).bind fun r2 => bif !r2 then (some 1) else (gd [decide (0 ≤ 0), decide (0 < (10 : Int))] ((M.model_checkInterfaces a0).bind fun r3 => bif r3 != 0 then (some r3) else (gd [decide (0 ≤ 1), decide (1 < (10 : Int))] ((M.model_checkPrefixLists a0).bind fun r4 => bif r4 != 0 then (some r4) else (gd [decide (0 ≤ 2), decide (2 < (10 : Int))] ((M.model_checkRouteMaps a0).bind fun r5 => bif r5 != 0 then (some r5) else (gd [decide (0 ≤ 3), decide (3 < (10 : Int))] ((M.model_checkACLs a0).bind fun r6 => bif r6 != 0 then (some r6) else (gd [decide (0 ≤ 4), decide (4 < (10 : Int))] ((M.model_checkNAT a0).bind fun r7 => bif r7 != 0 then (some r7) else (gd [decide (0 ≤ 5), decide (5 < (10 : Int))] ((M.model_checkFilters a0).bind fun r8 => bif r8 != 0 then (some r8) else (gd [decide (0 ≤ 6), decide (6 < (10 : Int))] ((M.model_checkStatics a0).bind fun r9 => bif r9 != 0 then (some r9) else (gd [decide (0 ≤ 7), decide (7 < (10 : Int))] ((M.model_checkLinkState a0).bind fun r10 => bif r10 != 0 then (some r10) else (gd [decide (0 ≤ 8), decide (8 < (10 : Int))] ((M.model_checkDistanceVector a0).bind fun r11 => bif r11 != 0 then (some r11) else (gd [decide (0 ≤ 9), decide (9 < (10 : Int))] ((M.model_checkPathVector a0).bind fun r12 => bif r12 != 0 then (some r12) else (some 0))))))))))))))))))))))
theorem model_CheckRouter_ok (a0 : TRouter) (r : Int) (h : M.model_CheckRouter a0 = some r) : Fn Try.prog 26 [.agg (c_TRouter a0)] (.pure (.int .i64 r)) := by
  unfold M.model_CheckRouter at h
  refine fn_pure Try.func26 rfl (by kernel_rfl) ?_
  refine awp_seq ?_
  refine awp_reg [] [1] 1 ⟨29, [(1, .ref 0 0)], [.box (c_TRouter a0)]⟩ [] [] (by kernel_rfl) nil_all trivial ?_
  refine then_n ?_
  refine awp_seq ?_
  refine awp_seq ?_
  obtain ⟨r1, q1, h2⟩ := bind_some h
  refine awp_reg [.pure (.bool r1)] [1, 10] 1 ⟨29, [(1, .ref 0 0), (10, .bool (!r1))], [.box (c_TRouter a0)]⟩ [] [⟨true, 60, [.str a0.fName], .pure (.bool r1)⟩] (by kernel_rfl) nil_all ⟨fun _ => scan_Name_ok a0.fName r1 q1, trivial⟩ ?_
  refine then_n ?_
  refine awp_cond (b := !r1) (by kernel_rfl) (fun b3 => ?_) (fun b3 => ?_)
  · have h4 := cond_t b3 h2
    refine awp_seq ?_
    refine awp_reg [] [2] 0 ⟨29, [(2, .int .i64 3)], []⟩ [] [] (by kernel_rfl) nil_all trivial ?_
    refine then_n ?_
    refine awp_ret ?_
    refine then_r ?_
    obtain rfl := Option.some.inj h4
    exact ends_r (.int .i64 3) (by kernel_rfl) Sub.rfl
  · have h5 := cond_f b3 h2
    refine awp_skip ?_
    refine then_n ?_
    refine awp_seq ?_
    refine awp_seq ?_
    obtain ⟨r2, q6, h7⟩ := bind_some h5
    refine awp_reg [.pure (.bool r2)] [1, 14] 1 ⟨29, [(1, .ref 0 0), (14, .bool (!r2))], [.box (c_TRouter a0)]⟩ [] [⟨true, 61, [.int .i64 a0.fAS, .int .i64 0, .int .i64 65535], .pure (.bool r2)⟩] (by kernel_rfl) nil_all ⟨fun _ => model_within_ok a0.fAS 0 65535 r2 q6, trivial⟩ ?_
    refine then_n ?_
    refine awp_cond (b := !r2) (by kernel_rfl) (fun b8 => ?_) (fun b8 => ?_)
    · have h9 := cond_t b8 h7
      refine awp_seq ?_
      refine awp_reg [] [2] 0 ⟨29, [(2, .int .i64 1)], []⟩ [] [] (by kernel_rfl) nil_all trivial ?_
      refine then_n ?_
      refine awp_ret ?_
      refine then_r ?_
      obtain rfl := Option.some.inj h9
      exact ends_r (.int .i64 1) (by kernel_rfl) Sub.rfl
    · have h10 := cond_f b8 h7
      refine awp_skip ?_
      refine then_n ?_
      refine awp_seq ?_
      refine awp_reg [] [1, 3] 1 ⟨29, [(1, .ref 0 0), (3, .sl true 1 10 (fun i => List.take 1 (List.drop (i * 1) [.fn 62 [], .fn 63 [], .fn 64 [], .fn 65 [], .fn 66 [], .fn 67 [], .fn 68 [], .fn 69 [], .fn 70 [], .fn 71 []])))], [.box (c_TRouter a0)]⟩ [] [] (by kernel_rfl) nil_all trivial ?_
      refine then_n ?_
      refine awp_seq ?_
      refine awp_seq ?_
      refine awp_reg [] [1, 16, 17, 18] 1 ⟨29, [(1, .ref 0 0), (16, .sl true 1 10 (fun i => List.take 1 (List.drop (i * 1) [.fn 62 [], .fn 63 [], .fn 64 [], .fn 65 [], .fn 66 [], .fn 67 [], .fn 68 [], .fn 69 [], .fn 70 [], .fn 71 []]))), (17, .int .i64 10), (18, .int .i64 0)], [.box (c_TRouter a0)]⟩ [] [] (by kernel_rfl) nil_all trivial ?_
      refine then_n ?_
      refine awp_block ?_
      refine awp_unroll ?_
      refine lwp_round ?_
      refine awp_seq ?_
      refine awp_reg [] [1, 16, 17, 18, 19] 1 ⟨29, [(1, .ref 0 0), (16, .sl true 1 10 (fun i => List.take 1 (List.drop (i * 1) [.fn 62 [], .fn 63 [], .fn 64 [], .fn 65 [], .fn 66 [], .fn 67 [], .fn 68 [], .fn 69 [], .fn 70 [], .fn 71 []]))), (17, .int .i64 10), (18, .int .i64 0), (19, .bool true)], [.box (c_TRouter a0)]⟩ [] [] (by kernel_rfl) nil_all trivial ?_
      refine then_n ?_
      refine awp_seq ?_
      refine awp_cond (b := true) (by kernel_rfl) (fun _ => ?_) (fun b11 => Bool.noConfusion b11)
      refine awp_skip ?_
      refine then_n ?_
      refine awp_seq ?_
      refine awp_block ?_
      refine awp_seq ?_
      obtain ⟨c12, h13⟩ := gd_some h10
      refine awp_reg [] [1, 5, 16, 17, 18] 1 ⟨29, [(1, .ref 0 0), (5, .fn 62 []), (16, .sl true 1 10 (fun i => List.take 1 (List.drop (i * 1) [.fn 62 [], .fn 63 [], .fn 64 [], .fn 65 [], .fn 66 [], .fn 67 [], .fn 68 [], .fn 69 [], .fn 70 [], .fn 71 []]))), (17, .int .i64 10), (18, .int .i64 0)], [.box (c_TRouter a0)]⟩ [decide (0 ≤ 0), decide (0 < (10 : Int))] [] (by kernel_rfl) c12 trivial ?_
      refine then_n ?_
      refine awp_seq ?_
      obtain ⟨r3, q14, h15⟩ := bind_some h13
      refine awp_reg [.pure (.int .i64 r3)] [1, 6, 16, 17, 18] 1 ⟨29, [(1, .ref 0 0), (6, .int .i64 r3), (16, .sl true 1 10 (fun i => List.take 1 (List.drop (i * 1) [.fn 62 [], .fn 63 [], .fn 64 [], .fn 65 [], .fn 66 [], .fn 67 [], .fn 68 [], .fn 69 [], .fn 70 [], .fn 71 []]))), (17, .int .i64 10), (18, .int .i64 0)], [.box (c_TRouter a0)]⟩ [] [⟨true, 62, [.agg (c_TRouter a0)], .pure (.int .i64 r3)⟩] (by kernel_rfl) nil_all ⟨fun _ => model_checkInterfaces_ok a0 r3 q14, trivial⟩ ?_
      refine then_n ?_
      refine awp_seq ?_
      refine awp_reg [] [1, 6, 16, 17, 18, 26] 1 ⟨29, [(1, .ref 0 0), (6, .int .i64 r3), (16, .sl true 1 10 (fun i => List.take 1 (List.drop (i * 1) [.fn 62 [], .fn 63 [], .fn 64 [], .fn 65 [], .fn 66 [], .fn 67 [], .fn 68 [], .fn 69 [], .fn 70 [], .fn 71 []]))), (17, .int .i64 10), (18, .int .i64 0), (26, .bool (r3 != 0))], [.box (c_TRouter a0)]⟩ [] [] (by kernel_rfl) nil_all trivial ?_
      refine then_n ?_
      refine awp_cond (b := r3 != 0) (by kernel_rfl) (fun b16 => ?_) (fun b16 => ?_)
      · have h17 := cond_t b16 h15
        refine awp_seq ?_
        refine awp_reg [] [2] 0 ⟨29, [(2, .int .i64 r3)], []⟩ [] [] (by kernel_rfl) nil_all trivial ?_
        refine then_n ?_
        refine awp_ret ?_
        refine inb_r ?_
        refine then_r ?_
        refine thenl_r ?_
        refine inb_r ?_
        refine then_r ?_
        obtain rfl := Option.some.inj h17
        exact ends_r (.int .i64 r3) (by kernel_rfl) Sub.rfl
      · have h18 := cond_f b16 h15
        refine awp_skip ?_
        refine inb_n ?_
        refine then_n ?_
        refine awp_reg [] [1, 16, 17, 18] 1 ⟨29, [(1, .ref 0 0), (16, .sl true 1 10 (fun i => List.take 1 (List.drop (i * 1) [.fn 62 [], .fn 63 [], .fn 64 [], .fn 65 [], .fn 66 [], .fn 67 [], .fn 68 [], .fn 69 [], .fn 70 [], .fn 71 []]))), (17, .int .i64 10), (18, .int .i64 1)], [.box (c_TRouter a0)]⟩ [] [] (by kernel_rfl) nil_all trivial ?_
        refine thenl_n ?_
        refine lwp_round ?_
        refine awp_seq ?_
        refine awp_reg [] [1, 16, 17, 18, 19] 1 ⟨29, [(1, .ref 0 0), (16, .sl true 1 10 (fun i => List.take 1 (List.drop (i * 1) [.fn 62 [], .fn 63 [], .fn 64 [], .fn 65 [], .fn 66 [], .fn 67 [], .fn 68 [], .fn 69 [], .fn 70 [], .fn 71 []]))), (17, .int .i64 10), (18, .int .i64 1), (19, .bool true)], [.box (c_TRouter a0)]⟩ [] [] (by kernel_rfl) nil_all trivial ?_
        refine then_n ?_
        refine awp_seq ?_
        refine awp_cond (b := true) (by kernel_rfl) (fun _ => ?_) (fun b19 => Bool.noConfusion b19)
        refine awp_skip ?_
        refine then_n ?_
        refine awp_seq ?_
        refine awp_block ?_
        refine awp_seq ?_
        obtain ⟨c20, h21⟩ := gd_some h18
        refine awp_reg [] [1, 5, 16, 17, 18] 1 ⟨29, [(1, .ref 0 0), (5, .fn 63 []), (16, .sl true 1 10 (fun i => List.take 1 (List.drop (i * 1) [.fn 62 [], .fn 63 [], .fn 64 [], .fn 65 [], .fn 66 [], .fn 67 [], .fn 68 [], .fn 69 [], .fn 70 [], .fn 71 []]))), (17, .int .i64 10), (18, .int .i64 1)], [.box (c_TRouter a0)]⟩ [decide (0 ≤ 1), decide (1 < (10 : Int))] [] (by kernel_rfl) c20 trivial ?_
        refine then_n ?_
        refine awp_seq ?_
        obtain ⟨r4, q22, h23⟩ := bind_some h21
        refine awp_reg [.pure (.int .i64 r4)] [1, 6, 16, 17, 18] 1 ⟨29, [(1, .ref 0 0), (6, .int .i64 r4), (16, .sl true 1 10 (fun i => List.take 1 (List.drop (i * 1) [.fn 62 [], .fn 63 [], .fn 64 [], .fn 65 [], .fn 66 [], .fn 67 [], .fn 68 [], .fn 69 [], .fn 70 [], .fn 71 []]))), (17, .int .i64 10), (18, .int .i64 1)], [.box (c_TRouter a0)]⟩ [] [⟨true, 63, [.agg (c_TRouter a0)], .pure (.int .i64 r4)⟩] (by kernel_rfl) nil_all ⟨fun _ => model_checkPrefixLists_ok a0 r4 q22, trivial⟩ ?_
        refine then_n ?_
        refine awp_seq ?_
        refine awp_reg [] [1, 6, 16, 17, 18, 26] 1 ⟨29, [(1, .ref 0 0), (6, .int .i64 r4), (16, .sl true 1 10 (fun i => List.take 1 (List.drop (i * 1) [.fn 62 [], .fn 63 [], .fn 64 [], .fn 65 [], .fn 66 [], .fn 67 [], .fn 68 [], .fn 69 [], .fn 70 [], .fn 71 []]))), (17, .int .i64 10), (18, .int .i64 1), (26, .bool (r4 != 0))], [.box (c_TRouter a0)]⟩ [] [] (by kernel_rfl) nil_all trivial ?_
        refine then_n ?_
        refine awp_cond (b := r4 != 0) (by kernel_rfl) (fun b24 => ?_) (fun b24 => ?_)
        · have h25 := cond_t b24 h23
          refine awp_seq ?_
          refine awp_reg [] [2] 0 ⟨29, [(2, .int .i64 r4)], []⟩ [] [] (by kernel_rfl) nil_all trivial ?_
          refine then_n ?_
          refine awp_ret ?_
          refine inb_r ?_
          refine then_r ?_
          refine thenl_r ?_
          refine inb_r ?_
          refine then_r ?_
          obtain rfl := Option.some.inj h25
          exact ends_r (.int .i64 r4) (by kernel_rfl) Sub.rfl
        · have h26 := cond_f b24 h23
          refine awp_skip ?_
          refine inb_n ?_
          refine then_n ?_
          refine awp_reg [] [1, 16, 17, 18] 1 ⟨29, [(1, .ref 0 0), (16, .sl true 1 10 (fun i => List.take 1 (List.drop (i * 1) [.fn 62 [], .fn 63 [], .fn 64 [], .fn 65 [], .fn 66 [], .fn 67 [], .fn 68 [], .fn 69 [], .fn 70 [], .fn 71 []]))), (17, .int .i64 10), (18, .int .i64 2)], [.box (c_TRouter a0)]⟩ [] [] (by kernel_rfl) nil_all trivial ?_
          refine thenl_n ?_
          refine lwp_round ?_
          refine awp_seq ?_
          refine awp_reg [] [1, 16, 17, 18, 19] 1 ⟨29, [(1, .ref 0 0), (16, .sl true 1 10 (fun i => List.take 1 (List.drop (i * 1) [.fn 62 [], .fn 63 [], .fn 64 [], .fn 65 [], .fn 66 [], .fn 67 [], .fn 68 [], .fn 69 [], .fn 70 [], .fn 71 []]))), (17, .int .i64 10), (18, .int .i64 2), (19, .bool true)], [.box (c_TRouter a0)]⟩ [] [] (by kernel_rfl) nil_all trivial ?_
          refine then_n ?_
          refine awp_seq ?_
          refine awp_cond (b := true) (by kernel_rfl) (fun _ => ?_) (fun b27 => Bool.noConfusion b27)
          refine awp_skip ?_
          refine then_n ?_
          refine awp_seq ?_
          refine awp_block ?_
          refine awp_seq ?_
          obtain ⟨c28, h29⟩ := gd_some h26
          refine awp_reg [] [1, 5, 16, 17, 18] 1 ⟨29, [(1, .ref 0 0), (5, .fn 64 []), (16, .sl true 1 10 (fun i => List.take 1 (List.drop (i * 1) [.fn 62 [], .fn 63 [], .fn 64 [], .fn 65 [], .fn 66 [], .fn 67 [], .fn 68 [], .fn 69 [], .fn 70 [], .fn 71 []]))), (17, .int .i64 10), (18, .int .i64 2)], [.box (c_TRouter a0)]⟩ [decide (0 ≤ 2), decide (2 < (10 : Int))] [] (by kernel_rfl) c28 trivial ?_
          refine then_n ?_
          refine awp_seq ?_
          obtain ⟨r5, q30, h31⟩ := bind_some h29
          refine awp_reg [.pure (.int .i64 r5)] [1, 6, 16, 17, 18] 1 ⟨29, [(1, .ref 0 0), (6, .int .i64 r5), (16, .sl true 1 10 (fun i => List.take 1 (List.drop (i * 1) [.fn 62 [], .fn 63 [], .fn 64 [], .fn 65 [], .fn 66 [], .fn 67 [], .fn 68 [], .fn 69 [], .fn 70 [], .fn 71 []]))), (17, .int .i64 10), (18, .int .i64 2)], [.box (c_TRouter a0)]⟩ [] [⟨true, 64, [.agg (c_TRouter a0)], .pure (.int .i64 r5)⟩] (by kernel_rfl) nil_all ⟨fun _ => model_checkRouteMaps_ok a0 r5 q30, trivial⟩ ?_
          refine then_n ?_
          refine awp_seq ?_
          refine awp_reg [] [1, 6, 16, 17, 18, 26] 1 ⟨29, [(1, .ref 0 0), (6, .int .i64 r5), (16, .sl true 1 10 (fun i => List.take 1 (List.drop (i * 1) [.fn 62 [], .fn 63 [], .fn 64 [], .fn 65 [], .fn 66 [], .fn 67 [], .fn 68 [], .fn 69 [], .fn 70 [], .fn 71 []]))), (17, .int .i64 10), (18, .int .i64 2), (26, .bool (r5 != 0))], [.box (c_TRouter a0)]⟩ [] [] (by kernel_rfl) nil_all trivial ?_
          refine then_n ?_
          refine awp_cond (b := r5 != 0) (by kernel_rfl) (fun b32 => ?_) (fun b32 => ?_)
          · have h33 := cond_t b32 h31
            refine awp_seq ?_
            refine awp_reg [] [2] 0 ⟨29, [(2, .int .i64 r5)], []⟩ [] [] (by kernel_rfl) nil_all trivial ?_
            refine then_n ?_
            refine awp_ret ?_
            refine inb_r ?_
            refine then_r ?_
            refine thenl_r ?_
            refine inb_r ?_
            refine then_r ?_
            obtain rfl := Option.some.inj h33
            exact ends_r (.int .i64 r5) (by kernel_rfl) Sub.rfl
          · have h34 := cond_f b32 h31
            refine awp_skip ?_
            refine inb_n ?_
            refine then_n ?_
            refine awp_reg [] [1, 16, 17, 18] 1 ⟨29, [(1, .ref 0 0), (16, .sl true 1 10 (fun i => List.take 1 (List.drop (i * 1) [.fn 62 [], .fn 63 [], .fn 64 [], .fn 65 [], .fn 66 [], .fn 67 [], .fn 68 [], .fn 69 [], .fn 70 [], .fn 71 []]))), (17, .int .i64 10), (18, .int .i64 3)], [.box (c_TRouter a0)]⟩ [] [] (by kernel_rfl) nil_all trivial ?_
            refine thenl_n ?_
            refine lwp_round ?_
            refine awp_seq ?_
            refine awp_reg [] [1, 16, 17, 18, 19] 1 ⟨29, [(1, .ref 0 0), (16, .sl true 1 10 (fun i => List.take 1 (List.drop (i * 1) [.fn 62 [], .fn 63 [], .fn 64 [], .fn 65 [], .fn 66 [], .fn 67 [], .fn 68 [], .fn 69 [], .fn 70 [], .fn 71 []]))), (17, .int .i64 10), (18, .int .i64 3), (19, .bool true)], [.box (c_TRouter a0)]⟩ [] [] (by kernel_rfl) nil_all trivial ?_
            refine then_n ?_
            refine awp_seq ?_
            refine awp_cond (b := true) (by kernel_rfl) (fun _ => ?_) (fun b35 => Bool.noConfusion b35)
            refine awp_skip ?_
            refine then_n ?_
            refine awp_seq ?_
            refine awp_block ?_
            refine awp_seq ?_
            obtain ⟨c36, h37⟩ := gd_some h34
            refine awp_reg [] [1, 5, 16, 17, 18] 1 ⟨29, [(1, .ref 0 0), (5, .fn 65 []), (16, .sl true 1 10 (fun i => List.take 1 (List.drop (i * 1) [.fn 62 [], .fn 63 [], .fn 64 [], .fn 65 [], .fn 66 [], .fn 67 [], .fn 68 [], .fn 69 [], .fn 70 [], .fn 71 []]))), (17, .int .i64 10), (18, .int .i64 3)], [.box (c_TRouter a0)]⟩ [decide (0 ≤ 3), decide (3 < (10 : Int))] [] (by kernel_rfl) c36 trivial ?_
            refine then_n ?_
            refine awp_seq ?_
            obtain ⟨r6, q38, h39⟩ := bind_some h37
            refine awp_reg [.pure (.int .i64 r6)] [1, 6, 16, 17, 18] 1 ⟨29, [(1, .ref 0 0), (6, .int .i64 r6), (16, .sl true 1 10 (fun i => List.take 1 (List.drop (i * 1) [.fn 62 [], .fn 63 [], .fn 64 [], .fn 65 [], .fn 66 [], .fn 67 [], .fn 68 [], .fn 69 [], .fn 70 [], .fn 71 []]))), (17, .int .i64 10), (18, .int .i64 3)], [.box (c_TRouter a0)]⟩ [] [⟨true, 65, [.agg (c_TRouter a0)], .pure (.int .i64 r6)⟩] (by kernel_rfl) nil_all ⟨fun _ => model_checkACLs_ok a0 r6 q38, trivial⟩ ?_
            refine then_n ?_
            refine awp_seq ?_
            refine awp_reg [] [1, 6, 16, 17, 18, 26] 1 ⟨29, [(1, .ref 0 0), (6, .int .i64 r6), (16, .sl true 1 10 (fun i => List.take 1 (List.drop (i * 1) [.fn 62 [], .fn 63 [], .fn 64 [], .fn 65 [], .fn 66 [], .fn 67 [], .fn 68 [], .fn 69 [], .fn 70 [], .fn 71 []]))), (17, .int .i64 10), (18, .int .i64 3), (26, .bool (r6 != 0))], [.box (c_TRouter a0)]⟩ [] [] (by kernel_rfl) nil_all trivial ?_
            refine then_n ?_
            refine awp_cond (b := r6 != 0) (by kernel_rfl) (fun b40 => ?_) (fun b40 => ?_)
            · have h41 := cond_t b40 h39
              refine awp_seq ?_
              refine awp_reg [] [2] 0 ⟨29, [(2, .int .i64 r6)], []⟩ [] [] (by kernel_rfl) nil_all trivial ?_
              refine then_n ?_
              refine awp_ret ?_
              refine inb_r ?_
              refine then_r ?_
              refine thenl_r ?_
              refine inb_r ?_
              refine then_r ?_
              obtain rfl := Option.some.inj h41
              exact ends_r (.int .i64 r6) (by kernel_rfl) Sub.rfl
            · have h42 := cond_f b40 h39
              refine awp_skip ?_
              refine inb_n ?_
              refine then_n ?_
              refine awp_reg [] [1, 16, 17, 18] 1 ⟨29, [(1, .ref 0 0), (16, .sl true 1 10 (fun i => List.take 1 (List.drop (i * 1) [.fn 62 [], .fn 63 [], .fn 64 [], .fn 65 [], .fn 66 [], .fn 67 [], .fn 68 [], .fn 69 [], .fn 70 [], .fn 71 []]))), (17, .int .i64 10), (18, .int .i64 4)], [.box (c_TRouter a0)]⟩ [] [] (by kernel_rfl) nil_all trivial ?_
              refine thenl_n ?_
              refine lwp_round ?_
              refine awp_seq ?_
              refine awp_reg [] [1, 16, 17, 18, 19] 1 ⟨29, [(1, .ref 0 0), (16, .sl true 1 10 (fun i => List.take 1 (List.drop (i * 1) [.fn 62 [], .fn 63 [], .fn 64 [], .fn 65 [], .fn 66 [], .fn 67 [], .fn 68 [], .fn 69 [], .fn 70 [], .fn 71 []]))), (17, .int .i64 10), (18, .int .i64 4), (19, .bool true)], [.box (c_TRouter a0)]⟩ [] [] (by kernel_rfl) nil_all trivial ?_
              refine then_n ?_
              refine awp_seq ?_
              refine awp_cond (b := true) (by kernel_rfl) (fun _ => ?_) (fun b43 => Bool.noConfusion b43)
              refine awp_skip ?_
              refine then_n ?_
              refine awp_seq ?_
              refine awp_block ?_
              refine awp_seq ?_
              obtain ⟨c44, h45⟩ := gd_some h42
              refine awp_reg [] [1, 5, 16, 17, 18] 1 ⟨29, [(1, .ref 0 0), (5, .fn 66 []), (16, .sl true 1 10 (fun i => List.take 1 (List.drop (i * 1) [.fn 62 [], .fn 63 [], .fn 64 [], .fn 65 [], .fn 66 [], .fn 67 [], .fn 68 [], .fn 69 [], .fn 70 [], .fn 71 []]))), (17, .int .i64 10), (18, .int .i64 4)], [.box (c_TRouter a0)]⟩ [decide (0 ≤ 4), decide (4 < (10 : Int))] [] (by kernel_rfl) c44 trivial ?_
              refine then_n ?_
              refine awp_seq ?_
              obtain ⟨r7, q46, h47⟩ := bind_some h45
              refine awp_reg [.pure (.int .i64 r7)] [1, 6, 16, 17, 18] 1 ⟨29, [(1, .ref 0 0), (6, .int .i64 r7), (16, .sl true 1 10 (fun i => List.take 1 (List.drop (i * 1) [.fn 62 [], .fn 63 [], .fn 64 [], .fn 65 [], .fn 66 [], .fn 67 [], .fn 68 [], .fn 69 [], .fn 70 [], .fn 71 []]))), (17, .int .i64 10), (18, .int .i64 4)], [.box (c_TRouter a0)]⟩ [] [⟨true, 66, [.agg (c_TRouter a0)], .pure (.int .i64 r7)⟩] (by kernel_rfl) nil_all ⟨fun _ => model_checkNAT_ok a0 r7 q46, trivial⟩ ?_
              refine then_n ?_
              refine awp_seq ?_
              refine awp_reg [] [1, 6, 16, 17, 18, 26] 1 ⟨29, [(1, .ref 0 0), (6, .int .i64 r7), (16, .sl true 1 10 (fun i => List.take 1 (List.drop (i * 1) [.fn 62 [], .fn 63 [], .fn 64 [], .fn 65 [], .fn 66 [], .fn 67 [], .fn 68 [], .fn 69 [], .fn 70 [], .fn 71 []]))), (17, .int .i64 10), (18, .int .i64 4), (26, .bool (r7 != 0))], [.box (c_TRouter a0)]⟩ [] [] (by kernel_rfl) nil_all trivial ?_
              refine then_n ?_
              refine awp_cond (b := r7 != 0) (by kernel_rfl) (fun b48 => ?_) (fun b48 => ?_)
              · have h49 := cond_t b48 h47
                refine awp_seq ?_
                refine awp_reg [] [2] 0 ⟨29, [(2, .int .i64 r7)], []⟩ [] [] (by kernel_rfl) nil_all trivial ?_
                refine then_n ?_
                refine awp_ret ?_
                refine inb_r ?_
                refine then_r ?_
                refine thenl_r ?_
                refine inb_r ?_
                refine then_r ?_
                obtain rfl := Option.some.inj h49
                exact ends_r (.int .i64 r7) (by kernel_rfl) Sub.rfl
              · have h50 := cond_f b48 h47
                refine awp_skip ?_
                refine inb_n ?_
                refine then_n ?_
                refine awp_reg [] [1, 16, 17, 18] 1 ⟨29, [(1, .ref 0 0), (16, .sl true 1 10 (fun i => List.take 1 (List.drop (i * 1) [.fn 62 [], .fn 63 [], .fn 64 [], .fn 65 [], .fn 66 [], .fn 67 [], .fn 68 [], .fn 69 [], .fn 70 [], .fn 71 []]))), (17, .int .i64 10), (18, .int .i64 5)], [.box (c_TRouter a0)]⟩ [] [] (by kernel_rfl) nil_all trivial ?_
                refine thenl_n ?_
                refine lwp_round ?_
                refine awp_seq ?_
                refine awp_reg [] [1, 16, 17, 18, 19] 1 ⟨29, [(1, .ref 0 0), (16, .sl true 1 10 (fun i => List.take 1 (List.drop (i * 1) [.fn 62 [], .fn 63 [], .fn 64 [], .fn 65 [], .fn 66 [], .fn 67 [], .fn 68 [], .fn 69 [], .fn 70 [], .fn 71 []]))), (17, .int .i64 10), (18, .int .i64 5), (19, .bool true)], [.box (c_TRouter a0)]⟩ [] [] (by kernel_rfl) nil_all trivial ?_
                refine then_n ?_
                refine awp_seq ?_
                refine awp_cond (b := true) (by kernel_rfl) (fun _ => ?_) (fun b51 => Bool.noConfusion b51)
                refine awp_skip ?_
                refine then_n ?_
                refine awp_seq ?_
                refine awp_block ?_
                refine awp_seq ?_
                obtain ⟨c52, h53⟩ := gd_some h50
                refine awp_reg [] [1, 5, 16, 17, 18] 1 ⟨29, [(1, .ref 0 0), (5, .fn 67 []), (16, .sl true 1 10 (fun i => List.take 1 (List.drop (i * 1) [.fn 62 [], .fn 63 [], .fn 64 [], .fn 65 [], .fn 66 [], .fn 67 [], .fn 68 [], .fn 69 [], .fn 70 [], .fn 71 []]))), (17, .int .i64 10), (18, .int .i64 5)], [.box (c_TRouter a0)]⟩ [decide (0 ≤ 5), decide (5 < (10 : Int))] [] (by kernel_rfl) c52 trivial ?_
                refine then_n ?_
                refine awp_seq ?_
                obtain ⟨r8, q54, h55⟩ := bind_some h53
                refine awp_reg [.pure (.int .i64 r8)] [1, 6, 16, 17, 18] 1 ⟨29, [(1, .ref 0 0), (6, .int .i64 r8), (16, .sl true 1 10 (fun i => List.take 1 (List.drop (i * 1) [.fn 62 [], .fn 63 [], .fn 64 [], .fn 65 [], .fn 66 [], .fn 67 [], .fn 68 [], .fn 69 [], .fn 70 [], .fn 71 []]))), (17, .int .i64 10), (18, .int .i64 5)], [.box (c_TRouter a0)]⟩ [] [⟨true, 67, [.agg (c_TRouter a0)], .pure (.int .i64 r8)⟩] (by kernel_rfl) nil_all ⟨fun _ => model_checkFilters_ok a0 r8 q54, trivial⟩ ?_
                refine then_n ?_
                refine awp_seq ?_
                refine awp_reg [] [1, 6, 16, 17, 18, 26] 1 ⟨29, [(1, .ref 0 0), (6, .int .i64 r8), (16, .sl true 1 10 (fun i => List.take 1 (List.drop (i * 1) [.fn 62 [], .fn 63 [], .fn 64 [], .fn 65 [], .fn 66 [], .fn 67 [], .fn 68 [], .fn 69 [], .fn 70 [], .fn 71 []]))), (17, .int .i64 10), (18, .int .i64 5), (26, .bool (r8 != 0))], [.box (c_TRouter a0)]⟩ [] [] (by kernel_rfl) nil_all trivial ?_
                refine then_n ?_
                refine awp_cond (b := r8 != 0) (by kernel_rfl) (fun b56 => ?_) (fun b56 => ?_)
                · have h57 := cond_t b56 h55
                  refine awp_seq ?_
                  refine awp_reg [] [2] 0 ⟨29, [(2, .int .i64 r8)], []⟩ [] [] (by kernel_rfl) nil_all trivial ?_
                  refine then_n ?_
                  refine awp_ret ?_
                  refine inb_r ?_
                  refine then_r ?_
                  refine thenl_r ?_
                  refine inb_r ?_
                  refine then_r ?_
                  obtain rfl := Option.some.inj h57
                  exact ends_r (.int .i64 r8) (by kernel_rfl) Sub.rfl
                · have h58 := cond_f b56 h55
                  refine awp_skip ?_
                  refine inb_n ?_
                  refine then_n ?_
                  refine awp_reg [] [1, 16, 17, 18] 1 ⟨29, [(1, .ref 0 0), (16, .sl true 1 10 (fun i => List.take 1 (List.drop (i * 1) [.fn 62 [], .fn 63 [], .fn 64 [], .fn 65 [], .fn 66 [], .fn 67 [], .fn 68 [], .fn 69 [], .fn 70 [], .fn 71 []]))), (17, .int .i64 10), (18, .int .i64 6)], [.box (c_TRouter a0)]⟩ [] [] (by kernel_rfl) nil_all trivial ?_
                  refine thenl_n ?_
                  refine lwp_round ?_
                  refine awp_seq ?_
                  refine awp_reg [] [1, 16, 17, 18, 19] 1 ⟨29, [(1, .ref 0 0), (16, .sl true 1 10 (fun i => List.take 1 (List.drop (i * 1) [.fn 62 [], .fn 63 [], .fn 64 [], .fn 65 [], .fn 66 [], .fn 67 [], .fn 68 [], .fn 69 [], .fn 70 [], .fn 71 []]))), (17, .int .i64 10), (18, .int .i64 6), (19, .bool true)], [.box (c_TRouter a0)]⟩ [] [] (by kernel_rfl) nil_all trivial ?_
                  refine then_n ?_
                  refine awp_seq ?_
                  refine awp_cond (b := true) (by kernel_rfl) (fun _ => ?_) (fun b59 => Bool.noConfusion b59)
                  refine awp_skip ?_
                  refine then_n ?_
                  refine awp_seq ?_
                  refine awp_block ?_
                  refine awp_seq ?_
                  obtain ⟨c60, h61⟩ := gd_some h58
                  refine awp_reg [] [1, 5, 16, 17, 18] 1 ⟨29, [(1, .ref 0 0), (5, .fn 68 []), (16, .sl true 1 10 (fun i => List.take 1 (List.drop (i * 1) [.fn 62 [], .fn 63 [], .fn 64 [], .fn 65 [], .fn 66 [], .fn 67 [], .fn 68 [], .fn 69 [], .fn 70 [], .fn 71 []]))), (17, .int .i64 10), (18, .int .i64 6)], [.box (c_TRouter a0)]⟩ [decide (0 ≤ 6), decide (6 < (10 : Int))] [] (by kernel_rfl) c60 trivial ?_
                  refine then_n ?_
                  refine awp_seq ?_
                  obtain ⟨r9, q62, h63⟩ := bind_some h61
                  refine awp_reg [.pure (.int .i64 r9)] [1, 6, 16, 17, 18] 1 ⟨29, [(1, .ref 0 0), (6, .int .i64 r9), (16, .sl true 1 10 (fun i => List.take 1 (List.drop (i * 1) [.fn 62 [], .fn 63 [], .fn 64 [], .fn 65 [], .fn 66 [], .fn 67 [], .fn 68 [], .fn 69 [], .fn 70 [], .fn 71 []]))), (17, .int .i64 10), (18, .int .i64 6)], [.box (c_TRouter a0)]⟩ [] [⟨true, 68, [.agg (c_TRouter a0)], .pure (.int .i64 r9)⟩] (by kernel_rfl) nil_all ⟨fun _ => model_checkStatics_ok a0 r9 q62, trivial⟩ ?_
                  refine then_n ?_
                  refine awp_seq ?_
                  refine awp_reg [] [1, 6, 16, 17, 18, 26] 1 ⟨29, [(1, .ref 0 0), (6, .int .i64 r9), (16, .sl true 1 10 (fun i => List.take 1 (List.drop (i * 1) [.fn 62 [], .fn 63 [], .fn 64 [], .fn 65 [], .fn 66 [], .fn 67 [], .fn 68 [], .fn 69 [], .fn 70 [], .fn 71 []]))), (17, .int .i64 10), (18, .int .i64 6), (26, .bool (r9 != 0))], [.box (c_TRouter a0)]⟩ [] [] (by kernel_rfl) nil_all trivial ?_
                  refine then_n ?_
                  refine awp_cond (b := r9 != 0) (by kernel_rfl) (fun b64 => ?_) (fun b64 => ?_)
                  · have h65 := cond_t b64 h63
                    refine awp_seq ?_
                    refine awp_reg [] [2] 0 ⟨29, [(2, .int .i64 r9)], []⟩ [] [] (by kernel_rfl) nil_all trivial ?_
                    refine then_n ?_
                    refine awp_ret ?_
                    refine inb_r ?_
                    refine then_r ?_
                    refine thenl_r ?_
                    refine inb_r ?_
                    refine then_r ?_
                    obtain rfl := Option.some.inj h65
                    exact ends_r (.int .i64 r9) (by kernel_rfl) Sub.rfl
                  · have h66 := cond_f b64 h63
                    refine awp_skip ?_
                    refine inb_n ?_
                    refine then_n ?_
                    refine awp_reg [] [1, 16, 17, 18] 1 ⟨29, [(1, .ref 0 0), (16, .sl true 1 10 (fun i => List.take 1 (List.drop (i * 1) [.fn 62 [], .fn 63 [], .fn 64 [], .fn 65 [], .fn 66 [], .fn 67 [], .fn 68 [], .fn 69 [], .fn 70 [], .fn 71 []]))), (17, .int .i64 10), (18, .int .i64 7)], [.box (c_TRouter a0)]⟩ [] [] (by kernel_rfl) nil_all trivial ?_
                    refine thenl_n ?_
                    refine lwp_round ?_
                    refine awp_seq ?_
                    refine awp_reg [] [1, 16, 17, 18, 19] 1 ⟨29, [(1, .ref 0 0), (16, .sl true 1 10 (fun i => List.take 1 (List.drop (i * 1) [.fn 62 [], .fn 63 [], .fn 64 [], .fn 65 [], .fn 66 [], .fn 67 [], .fn 68 [], .fn 69 [], .fn 70 [], .fn 71 []]))), (17, .int .i64 10), (18, .int .i64 7), (19, .bool true)], [.box (c_TRouter a0)]⟩ [] [] (by kernel_rfl) nil_all trivial ?_
                    refine then_n ?_
                    refine awp_seq ?_
                    refine awp_cond (b := true) (by kernel_rfl) (fun _ => ?_) (fun b67 => Bool.noConfusion b67)
                    refine awp_skip ?_
                    refine then_n ?_
                    refine awp_seq ?_
                    refine awp_block ?_
                    refine awp_seq ?_
                    obtain ⟨c68, h69⟩ := gd_some h66
                    refine awp_reg [] [1, 5, 16, 17, 18] 1 ⟨29, [(1, .ref 0 0), (5, .fn 69 []), (16, .sl true 1 10 (fun i => List.take 1 (List.drop (i * 1) [.fn 62 [], .fn 63 [], .fn 64 [], .fn 65 [], .fn 66 [], .fn 67 [], .fn 68 [], .fn 69 [], .fn 70 [], .fn 71 []]))), (17, .int .i64 10), (18, .int .i64 7)], [.box (c_TRouter a0)]⟩ [decide (0 ≤ 7), decide (7 < (10 : Int))] [] (by kernel_rfl) c68 trivial ?_
                    refine then_n ?_
                    refine awp_seq ?_
                    obtain ⟨r10, q70, h71⟩ := bind_some h69
                    refine awp_reg [.pure (.int .i64 r10)] [1, 6, 16, 17, 18] 1 ⟨29, [(1, .ref 0 0), (6, .int .i64 r10), (16, .sl true 1 10 (fun i => List.take 1 (List.drop (i * 1) [.fn 62 [], .fn 63 [], .fn 64 [], .fn 65 [], .fn 66 [], .fn 67 [], .fn 68 [], .fn 69 [], .fn 70 [], .fn 71 []]))), (17, .int .i64 10), (18, .int .i64 7)], [.box (c_TRouter a0)]⟩ [] [⟨true, 69, [.agg (c_TRouter a0)], .pure (.int .i64 r10)⟩] (by kernel_rfl) nil_all ⟨fun _ => model_checkLinkState_ok a0 r10 q70, trivial⟩ ?_
                    refine then_n ?_
                    refine awp_seq ?_
                    refine awp_reg [] [1, 6, 16, 17, 18, 26] 1 ⟨29, [(1, .ref 0 0), (6, .int .i64 r10), (16, .sl true 1 10 (fun i => List.take 1 (List.drop (i * 1) [.fn 62 [], .fn 63 [], .fn 64 [], .fn 65 [], .fn 66 [], .fn 67 [], .fn 68 [], .fn 69 [], .fn 70 [], .fn 71 []]))), (17, .int .i64 10), (18, .int .i64 7), (26, .bool (r10 != 0))], [.box (c_TRouter a0)]⟩ [] [] (by kernel_rfl) nil_all trivial ?_
                    refine then_n ?_
                    refine awp_cond (b := r10 != 0) (by kernel_rfl) (fun b72 => ?_) (fun b72 => ?_)
                    · have h73 := cond_t b72 h71
                      refine awp_seq ?_
                      refine awp_reg [] [2] 0 ⟨29, [(2, .int .i64 r10)], []⟩ [] [] (by kernel_rfl) nil_all trivial ?_
                      refine then_n ?_
                      refine awp_ret ?_
                      refine inb_r ?_
                      refine then_r ?_
                      refine thenl_r ?_
                      refine inb_r ?_
                      refine then_r ?_
                      obtain rfl := Option.some.inj h73
                      exact ends_r (.int .i64 r10) (by kernel_rfl) Sub.rfl
                    · have h74 := cond_f b72 h71
                      refine awp_skip ?_
                      refine inb_n ?_
                      refine then_n ?_
                      refine awp_reg [] [1, 16, 17, 18] 1 ⟨29, [(1, .ref 0 0), (16, .sl true 1 10 (fun i => List.take 1 (List.drop (i * 1) [.fn 62 [], .fn 63 [], .fn 64 [], .fn 65 [], .fn 66 [], .fn 67 [], .fn 68 [], .fn 69 [], .fn 70 [], .fn 71 []]))), (17, .int .i64 10), (18, .int .i64 8)], [.box (c_TRouter a0)]⟩ [] [] (by kernel_rfl) nil_all trivial ?_
                      refine thenl_n ?_
                      refine lwp_round ?_
                      refine awp_seq ?_
                      refine awp_reg [] [1, 16, 17, 18, 19] 1 ⟨29, [(1, .ref 0 0), (16, .sl true 1 10 (fun i => List.take 1 (List.drop (i * 1) [.fn 62 [], .fn 63 [], .fn 64 [], .fn 65 [], .fn 66 [], .fn 67 [], .fn 68 [], .fn 69 [], .fn 70 [], .fn 71 []]))), (17, .int .i64 10), (18, .int .i64 8), (19, .bool true)], [.box (c_TRouter a0)]⟩ [] [] (by kernel_rfl) nil_all trivial ?_
                      refine then_n ?_
                      refine awp_seq ?_
                      refine awp_cond (b := true) (by kernel_rfl) (fun _ => ?_) (fun b75 => Bool.noConfusion b75)
                      refine awp_skip ?_
                      refine then_n ?_
                      refine awp_seq ?_
                      refine awp_block ?_
                      refine awp_seq ?_
                      obtain ⟨c76, h77⟩ := gd_some h74
                      refine awp_reg [] [1, 5, 16, 17, 18] 1 ⟨29, [(1, .ref 0 0), (5, .fn 70 []), (16, .sl true 1 10 (fun i => List.take 1 (List.drop (i * 1) [.fn 62 [], .fn 63 [], .fn 64 [], .fn 65 [], .fn 66 [], .fn 67 [], .fn 68 [], .fn 69 [], .fn 70 [], .fn 71 []]))), (17, .int .i64 10), (18, .int .i64 8)], [.box (c_TRouter a0)]⟩ [decide (0 ≤ 8), decide (8 < (10 : Int))] [] (by kernel_rfl) c76 trivial ?_
                      refine then_n ?_
                      refine awp_seq ?_
                      obtain ⟨r11, q78, h79⟩ := bind_some h77
                      refine awp_reg [.pure (.int .i64 r11)] [1, 6, 16, 17, 18] 1 ⟨29, [(1, .ref 0 0), (6, .int .i64 r11), (16, .sl true 1 10 (fun i => List.take 1 (List.drop (i * 1) [.fn 62 [], .fn 63 [], .fn 64 [], .fn 65 [], .fn 66 [], .fn 67 [], .fn 68 [], .fn 69 [], .fn 70 [], .fn 71 []]))), (17, .int .i64 10), (18, .int .i64 8)], [.box (c_TRouter a0)]⟩ [] [⟨true, 70, [.agg (c_TRouter a0)], .pure (.int .i64 r11)⟩] (by kernel_rfl) nil_all ⟨fun _ => model_checkDistanceVector_ok a0 r11 q78, trivial⟩ ?_
                      refine then_n ?_
                      refine awp_seq ?_
                      refine awp_reg [] [1, 6, 16, 17, 18, 26] 1 ⟨29, [(1, .ref 0 0), (6, .int .i64 r11), (16, .sl true 1 10 (fun i => List.take 1 (List.drop (i * 1) [.fn 62 [], .fn 63 [], .fn 64 [], .fn 65 [], .fn 66 [], .fn 67 [], .fn 68 [], .fn 69 [], .fn 70 [], .fn 71 []]))), (17, .int .i64 10), (18, .int .i64 8), (26, .bool (r11 != 0))], [.box (c_TRouter a0)]⟩ [] [] (by kernel_rfl) nil_all trivial ?_
                      refine then_n ?_
                      refine awp_cond (b := r11 != 0) (by kernel_rfl) (fun b80 => ?_) (fun b80 => ?_)
                      · have h81 := cond_t b80 h79
                        refine awp_seq ?_
                        refine awp_reg [] [2] 0 ⟨29, [(2, .int .i64 r11)], []⟩ [] [] (by kernel_rfl) nil_all trivial ?_
                        refine then_n ?_
                        refine awp_ret ?_
                        refine inb_r ?_
                        refine then_r ?_
                        refine thenl_r ?_
                        refine inb_r ?_
                        refine then_r ?_
                        obtain rfl := Option.some.inj h81
                        exact ends_r (.int .i64 r11) (by kernel_rfl) Sub.rfl
                      · have h82 := cond_f b80 h79
                        refine awp_skip ?_
                        refine inb_n ?_
                        refine then_n ?_
                        refine awp_reg [] [1, 16, 17, 18] 1 ⟨29, [(1, .ref 0 0), (16, .sl true 1 10 (fun i => List.take 1 (List.drop (i * 1) [.fn 62 [], .fn 63 [], .fn 64 [], .fn 65 [], .fn 66 [], .fn 67 [], .fn 68 [], .fn 69 [], .fn 70 [], .fn 71 []]))), (17, .int .i64 10), (18, .int .i64 9)], [.box (c_TRouter a0)]⟩ [] [] (by kernel_rfl) nil_all trivial ?_
                        refine thenl_n ?_
                        refine lwp_round ?_
                        refine awp_seq ?_
                        refine awp_reg [] [1, 16, 17, 18, 19] 1 ⟨29, [(1, .ref 0 0), (16, .sl true 1 10 (fun i => List.take 1 (List.drop (i * 1) [.fn 62 [], .fn 63 [], .fn 64 [], .fn 65 [], .fn 66 [], .fn 67 [], .fn 68 [], .fn 69 [], .fn 70 [], .fn 71 []]))), (17, .int .i64 10), (18, .int .i64 9), (19, .bool true)], [.box (c_TRouter a0)]⟩ [] [] (by kernel_rfl) nil_all trivial ?_
                        refine then_n ?_
                        refine awp_seq ?_
                        refine awp_cond (b := true) (by kernel_rfl) (fun _ => ?_) (fun b83 => Bool.noConfusion b83)
                        refine awp_skip ?_
                        refine then_n ?_
                        refine awp_seq ?_
                        refine awp_block ?_
                        refine awp_seq ?_
                        obtain ⟨c84, h85⟩ := gd_some h82
                        refine awp_reg [] [1, 5, 16, 17, 18] 1 ⟨29, [(1, .ref 0 0), (5, .fn 71 []), (16, .sl true 1 10 (fun i => List.take 1 (List.drop (i * 1) [.fn 62 [], .fn 63 [], .fn 64 [], .fn 65 [], .fn 66 [], .fn 67 [], .fn 68 [], .fn 69 [], .fn 70 [], .fn 71 []]))), (17, .int .i64 10), (18, .int .i64 9)], [.box (c_TRouter a0)]⟩ [decide (0 ≤ 9), decide (9 < (10 : Int))] [] (by kernel_rfl) c84 trivial ?_
                        refine then_n ?_
                        refine awp_seq ?_
                        obtain ⟨r12, q86, h87⟩ := bind_some h85
                        refine awp_reg [.pure (.int .i64 r12)] [1, 6, 16, 17, 18] 1 ⟨29, [(1, .ref 0 0), (6, .int .i64 r12), (16, .sl true 1 10 (fun i => List.take 1 (List.drop (i * 1) [.fn 62 [], .fn 63 [], .fn 64 [], .fn 65 [], .fn 66 [], .fn 67 [], .fn 68 [], .fn 69 [], .fn 70 [], .fn 71 []]))), (17, .int .i64 10), (18, .int .i64 9)], [.box (c_TRouter a0)]⟩ [] [⟨true, 71, [.agg (c_TRouter a0)], .pure (.int .i64 r12)⟩] (by kernel_rfl) nil_all ⟨fun _ => model_checkPathVector_ok a0 r12 q86, trivial⟩ ?_
                        refine then_n ?_
                        refine awp_seq ?_
                        refine awp_reg [] [1, 6, 16, 17, 18, 26] 1 ⟨29, [(1, .ref 0 0), (6, .int .i64 r12), (16, .sl true 1 10 (fun i => List.take 1 (List.drop (i * 1) [.fn 62 [], .fn 63 [], .fn 64 [], .fn 65 [], .fn 66 [], .fn 67 [], .fn 68 [], .fn 69 [], .fn 70 [], .fn 71 []]))), (17, .int .i64 10), (18, .int .i64 9), (26, .bool (r12 != 0))], [.box (c_TRouter a0)]⟩ [] [] (by kernel_rfl) nil_all trivial ?_
                        refine then_n ?_
                        refine awp_cond (b := r12 != 0) (by kernel_rfl) (fun b88 => ?_) (fun b88 => ?_)
                        · have h89 := cond_t b88 h87
                          refine awp_seq ?_
                          refine awp_reg [] [2] 0 ⟨29, [(2, .int .i64 r12)], []⟩ [] [] (by kernel_rfl) nil_all trivial ?_
                          refine then_n ?_
                          refine awp_ret ?_
                          refine inb_r ?_
                          refine then_r ?_
                          refine thenl_r ?_
                          refine inb_r ?_
                          refine then_r ?_
                          obtain rfl := Option.some.inj h89
                          exact ends_r (.int .i64 r12) (by kernel_rfl) Sub.rfl
                        · have h90 := cond_f b88 h87
                          refine awp_skip ?_
                          refine inb_n ?_
                          refine then_n ?_
                          refine awp_reg [] [1, 16, 17, 18] 1 ⟨29, [(1, .ref 0 0), (16, .sl true 1 10 (fun i => List.take 1 (List.drop (i * 1) [.fn 62 [], .fn 63 [], .fn 64 [], .fn 65 [], .fn 66 [], .fn 67 [], .fn 68 [], .fn 69 [], .fn 70 [], .fn 71 []]))), (17, .int .i64 10), (18, .int .i64 10)], [.box (c_TRouter a0)]⟩ [] [] (by kernel_rfl) nil_all trivial ?_
                          refine thenl_n ?_
                          refine lwp_round ?_
                          refine awp_seq ?_
                          refine awp_reg [] [1, 16, 17, 18, 19] 1 ⟨29, [(1, .ref 0 0), (16, .sl true 1 10 (fun i => List.take 1 (List.drop (i * 1) [.fn 62 [], .fn 63 [], .fn 64 [], .fn 65 [], .fn 66 [], .fn 67 [], .fn 68 [], .fn 69 [], .fn 70 [], .fn 71 []]))), (17, .int .i64 10), (18, .int .i64 10), (19, .bool false)], [.box (c_TRouter a0)]⟩ [] [] (by kernel_rfl) nil_all trivial ?_
                          refine then_n ?_
                          refine awp_seq ?_
                          refine awp_cond (b := false) (by kernel_rfl) (fun b91 => Bool.noConfusion b91) (fun _ => ?_)
                          refine awp_exit ?_
                          refine then_e ?_
                          refine thenl_e ?_
                          refine inb_here ?_
                          refine then_n ?_
                          refine awp_seq ?_
                          refine awp_reg [] [2] 0 ⟨29, [(2, .int .i64 0)], []⟩ [] [] (by kernel_rfl) nil_all trivial ?_
                          refine then_n ?_
                          refine awp_ret ?_
                          obtain rfl := Option.some.inj h90
                          exact ends_r (.int .i64 0) (by kernel_rfl) Sub.rfl

/- slices.Equal[[]netverify/api.Interface,netverify/api.Interface] -/
noncomputable def M.slices_Equal_api_Interface_api_Interface_l1 (a0 : List TInterface) (a1 : List TInterface) (p1 : Int) : Option (Int ⊕ (Unit ⊕ Bool)) :=
  bif decide (p1 < (a0.length : Int)) then (gd [decide (0 ≤ p1), decide (p1 < (a0.length : Int)), decide (0 ≤ p1), decide (p1 < (a1.length : Int))] (bif !(strEq ((a0.getD p1.toNat default).fName) ((a1.getD p1.toNat default).fName) && ((((a0.getD p1.toNat default).fAddr) == ((a1.getD p1.toNat default).fAddr)) && ((((a0.getD p1.toNat default).fLen) == ((a1.getD p1.toNat default).fLen)) && ((((a0.getD p1.toNat default).fVLAN) == ((a1.getD p1.toNat default).fVLAN)) && ((((a0.getD p1.toNat default).fDown) == ((a1.getD p1.toNat default).fDown)) && ((((a0.getD p1.toNat default).fLS) == ((a1.getD p1.toNat default).fLS)) && ((((a0.getD p1.toNat default).fArea) == ((a1.getD p1.toNat default).fArea)) && ((((a0.getD p1.toNat default).fCost) == ((a1.getD p1.toNat default).fCost)) && ((((a0.getD p1.toNat default).fDV) == ((a1.getD p1.toNat default).fDV)) && (strEq ((a0.getD p1.toNat default).fIn) ((a1.getD p1.toNat default).fIn) && (strEq ((a0.getD p1.toNat default).fOut) ((a1.getD p1.toNat default).fOut) && ((((a0.getD p1.toNat default).fSide) == ((a1.getD p1.toNat default).fSide)) && true)))))))))))) then (some (.inr (.inr false))) else (some (.inl (wr .i64 (p1 + 1)))))) else (some (.inr (.inl ())))
noncomputable def M.slices_Equal_api_Interface_api_Interface (a0 : List TInterface) (a1 : List TInterface) : Option Bool :=
  bif (a0.length : Int) != (a1.length : Int) then (some false) else ((loopM (M.slices_Equal_api_Interface_api_Interface_l1 a0 a1) 0).bind fun y3 => Sum.elim (fun g4 => some true) (fun y5 => some y5) y3)
theorem slices_Equal_api_Interface_api_Interface_ok (a0 : List TInterface) (a1 : List TInterface) (r : Bool) (h : M.slices_Equal_api_Interface_api_Interface a0 a1 = some r) : Fn Try.prog 29 [sL 12 c_TInterface a0, sL 12 c_TInterface a1] (.pure (.bool r)) := by
  unfold M.slices_Equal_api_Interface_api_Interface at h
  refine fn_pure Try.func29 rfl (by kernel_rfl) ?_
  refine awp_seq ?_
  refine awp_reg [] [0, 1] 0 ⟨26, [(0, sL 12 c_TInterface a0), (1, sL 12 c_TInterface a1)], []⟩ [] [] (by kernel_rfl) nil_all trivial ?_
  refine then_n ?_
  refine awp_seq ?_
  refine awp_seq ?_
  refine awp_reg [] [0, 1, 10] 0 ⟨26, [(0, sL 12 c_TInterface a0), (1, sL 12 c_TInterface a1), (10, .bool ((a0.length : Int) != (a1.length : Int)))], []⟩ [] [] (by kernel_rfl) nil_all trivial ?_
  refine then_n ?_
  refine awp_cond (b := (a0.length : Int) != (a1.length : Int)) (by kernel_rfl) (fun b1 => ?_) (fun b1 => ?_)
  · have h2 := cond_t b1 h
    refine awp_seq ?_
    refine awp_reg [] [4] 0 ⟨26, [(4, .bool false)], []⟩ [] [] (by kernel_rfl) nil_all trivial ?_
    refine then_n ?_
    refine awp_ret ?_
    refine then_r ?_
    obtain rfl := Option.some.inj h2
    exact ends_r (.bool false) (by kernel_rfl) Sub.rfl
  · have h3 := cond_f b1 h
    refine awp_skip ?_
    refine then_n ?_
    refine awp_seq ?_
    refine awp_seq ?_
    refine awp_reg [] [0, 1, 12, 13] 0 ⟨26, [(0, sL 12 c_TInterface a0), (1, sL 12 c_TInterface a1), (12, .int .i64 (a0.length : Int)), (13, .int .i64 0)], []⟩ [] [] (by kernel_rfl) nil_all trivial ?_
    refine then_n ?_
    refine awp_block ?_
    obtain ⟨y3, q13, h14⟩ := bind_some h3
    refine awp_le (s' := ⟨26, [(0, sL 12 c_TInterface a0), (1, sL 12 c_TInterface a1), (12, .int .i64 (a0.length : Int)), (13, .int .i64 0)], []⟩) (le_rfl) ?_
    refine awp_mono (awp_loop (f := M.slices_Equal_api_Interface_api_Interface_l1 a0 a1) (S := fun (p1 : Int) => ⟨26, [(0, sL 12 c_TInterface a0), (1, sL 12 c_TInterface a1), (12, .int .i64 (a0.length : Int)), (13, .int .i64 p1)], []⟩) (O := (Sum.elim (fun z => OutE 0 (fun z => ⟨26, [], []⟩) z) (fun z => OutR Try.prog Try.f29 (.bool z)))) ?_ (x := 0) (y := y3) (loopM_iter q13)) ?_
    · intro p1 y2 h4
      unfold M.slices_Equal_api_Interface_api_Interface_l1 at h4
      refine awp_seq ?_
      refine awp_reg [] [0, 1, 12, 13, 14] 0 ⟨26, [(0, sL 12 c_TInterface a0), (1, sL 12 c_TInterface a1), (12, .int .i64 (a0.length : Int)), (13, .int .i64 p1), (14, .bool (decide (p1 < (a0.length : Int))))], []⟩ [] [] (by kernel_rfl) nil_all trivial ?_
      refine then_n ?_
      refine awp_seq ?_
      refine awp_cond (b := decide (p1 < (a0.length : Int))) (by kernel_rfl) (fun b5 => ?_) (fun b5 => ?_)
      · have h6 := cond_t b5 h4
        refine awp_skip ?_
        refine then_n ?_
        refine awp_seq ?_
        refine awp_block ?_
        refine awp_seq ?_
        refine awp_reg [] [0, 1, 5, 12, 13] 0 ⟨26, [(0, sL 12 c_TInterface a0), (1, sL 12 c_TInterface a1), (5, .int .i64 p1), (12, .int .i64 (a0.length : Int)), (13, .int .i64 p1)], []⟩ [] [] (by kernel_rfl) nil_all trivial ?_
        refine then_n ?_
        refine awp_seq ?_
        obtain ⟨c8, h9⟩ := gd_some h6
        refine awp_reg [] [0, 1, 12, 13, 24] 0 ⟨26, [(0, sL 12 c_TInterface a0), (1, sL 12 c_TInterface a1), (12, .int .i64 (a0.length : Int)), (13, .int .i64 p1), (24, .bool (!(strEq ((a0.getD p1.toNat default).fName) ((a1.getD p1.toNat default).fName) && ((((a0.getD p1.toNat default).fAddr) == ((a1.getD p1.toNat default).fAddr)) && ((((a0.getD p1.toNat default).fLen) == ((a1.getD p1.toNat default).fLen)) && ((((a0.getD p1.toNat default).fVLAN) == ((a1.getD p1.toNat default).fVLAN)) && ((((a0.getD p1.toNat default).fDown) == ((a1.getD p1.toNat default).fDown)) && ((((a0.getD p1.toNat default).fLS) == ((a1.getD p1.toNat default).fLS)) && ((((a0.getD p1.toNat default).fArea) == ((a1.getD p1.toNat default).fArea)) && ((((a0.getD p1.toNat default).fCost) == ((a1.getD p1.toNat default).fCost)) && ((((a0.getD p1.toNat default).fDV) == ((a1.getD p1.toNat default).fDV)) && (strEq ((a0.getD p1.toNat default).fIn) ((a1.getD p1.toNat default).fIn) && (strEq ((a0.getD p1.toNat default).fOut) ((a1.getD p1.toNat default).fOut) && ((((a0.getD p1.toNat default).fSide) == ((a1.getD p1.toNat default).fSide)) && true))))))))))))))], []⟩ [decide (0 ≤ p1), decide (p1 < (a0.length : Int)), decide (0 ≤ p1), decide (p1 < (a1.length : Int))] [] (by kernel_rfl) c8 trivial ?_
        refine then_n ?_
        refine awp_cond (b := !(strEq ((a0.getD p1.toNat default).fName) ((a1.getD p1.toNat default).fName) && ((((a0.getD p1.toNat default).fAddr) == ((a1.getD p1.toNat default).fAddr)) && ((((a0.getD p1.toNat default).fLen) == ((a1.getD p1.toNat default).fLen)) && ((((a0.getD p1.toNat default).fVLAN) == ((a1.getD p1.toNat default).fVLAN)) && ((((a0.getD p1.toNat default).fDown) == ((a1.getD p1.toNat default).fDown)) && ((((a0.getD p1.toNat default).fLS) == ((a1.getD p1.toNat default).fLS)) && ((((a0.getD p1.toNat default).fArea) == ((a1.getD p1.toNat default).fArea)) && ((((a0.getD p1.toNat default).fCost) == ((a1.getD p1.toNat default).fCost)) && ((((a0.getD p1.toNat default).fDV) == ((a1.getD p1.toNat default).fDV)) && (strEq ((a0.getD p1.toNat default).fIn) ((a1.getD p1.toNat default).fIn) && (strEq ((a0.getD p1.toNat default).fOut) ((a1.getD p1.toNat default).fOut) && ((((a0.getD p1.toNat default).fSide) == ((a1.getD p1.toNat default).fSide)) && true))))))))))))) (by kernel_rfl) (fun b10 => ?_) (fun b10 => ?_)
        · have h11 := cond_t b10 h9
          refine awp_seq ?_
          refine awp_reg [] [4] 0 ⟨26, [(4, .bool false)], []⟩ [] [] (by kernel_rfl) nil_all trivial ?_
          refine then_n ?_
          refine awp_ret ?_
          refine inb_r ?_
          refine then_r ?_
          obtain rfl := Option.some.inj h11
          exact round_r ⟨rfl, ends_r (.bool false) (by kernel_rfl) Sub.rfl⟩
        · have h12 := cond_f b10 h9
          refine awp_skip ?_
          refine inb_n ?_
          refine then_n ?_
          refine awp_reg [] [0, 1, 12, 13] 0 ⟨26, [(0, sL 12 c_TInterface a0), (1, sL 12 c_TInterface a1), (12, .int .i64 (a0.length : Int)), (13, .int .i64 (wr .i64 (p1 + 1)))], []⟩ [] [] (by kernel_rfl) nil_all trivial ?_
          obtain rfl := Option.some.inj h12
          exact round_n (le_rfl)
      · have h7 := cond_f b5 h4
        refine awp_exit ?_
        refine then_e ?_
        obtain rfl := Option.some.inj h7
        exact round_e ⟨rfl, le_keep' [] (by kernel_rfl)⟩
    · intro e15 s16 o17
      rcases y3 with g4 | y5
      · have h18 := elim_l h14
        obtain ⟨rfl, l20⟩ := o17
        refine inb_here ?_
        refine then_le (s' := ⟨26, [], []⟩) (l20) ?_
        refine awp_seq ?_
        refine awp_reg [] [4] 0 ⟨26, [(4, .bool true)], []⟩ [] [] (by kernel_rfl) nil_all trivial ?_
        refine then_n ?_
        refine awp_ret ?_
        obtain rfl := Option.some.inj h18
        exact ends_r (.bool true) (by kernel_rfl) Sub.rfl
      · have h19 := elim_r h14
        obtain ⟨rfl, n21⟩ := o17
        refine inb_r ?_
        refine then_r ?_
        obtain rfl := Option.some.inj h19
        exact n21

/- slices.Equal[[]netverify/api.PrefixRule,netverify/api.PrefixRule] -/
noncomputable def M.slices_Equal_api_PrefixRule_api_PrefixRule_l1 (a0 : List TPrefixRule) (a1 : List TPrefixRule) (p1 : Int) : Option (Int ⊕ (Unit ⊕ Bool)) :=
  bif decide (p1 < (a0.length : Int)) then (gd [decide (0 ≤ p1), decide (p1 < (a0.length : Int)), decide (0 ≤ p1), decide (p1 < (a1.length : Int))] (bif !((((a0.getD p1.toNat default).fPermit) == ((a1.getD p1.toNat default).fPermit)) && ((((((a0.getD p1.toNat default).fPrefix).fAddr) == (((a1.getD p1.toNat default).fPrefix).fAddr)) && (((((a0.getD p1.toNat default).fPrefix).fLen) == (((a1.getD p1.toNat default).fPrefix).fLen)) && true)) && ((((a0.getD p1.toNat default).fMin) == ((a1.getD p1.toNat default).fMin)) && ((((a0.getD p1.toNat default).fMax) == ((a1.getD p1.toNat default).fMax)) && true)))) then (some (.inr (.inr false))) else (some (.inl (wr .i64 (p1 + 1)))))) else (some (.inr (.inl ())))
noncomputable def M.slices_Equal_api_PrefixRule_api_PrefixRule (a0 : List TPrefixRule) (a1 : List TPrefixRule) : Option Bool :=
  bif (a0.length : Int) != (a1.length : Int) then (some false) else ((loopM (M.slices_Equal_api_PrefixRule_api_PrefixRule_l1 a0 a1) 0).bind fun y3 => Sum.elim (fun g4 => some true) (fun y5 => some y5) y3)
theorem slices_Equal_api_PrefixRule_api_PrefixRule_ok (a0 : List TPrefixRule) (a1 : List TPrefixRule) (r : Bool) (h : M.slices_Equal_api_PrefixRule_api_PrefixRule a0 a1 = some r) : Fn Try.prog 32 [sL 5 c_TPrefixRule a0, sL 5 c_TPrefixRule a1] (.pure (.bool r)) := by
  unfold M.slices_Equal_api_PrefixRule_api_PrefixRule at h
  refine fn_pure Try.func32 rfl (by kernel_rfl) ?_
  refine awp_seq ?_
  refine awp_reg [] [0, 1] 0 ⟨26, [(0, sL 5 c_TPrefixRule a0), (1, sL 5 c_TPrefixRule a1)], []⟩ [] [] (by kernel_rfl) nil_all trivial ?_
  refine then_n ?_
  refine awp_seq ?_
  refine awp_seq ?_
  refine awp_reg [] [0, 1, 10] 0 ⟨26, [(0, sL 5 c_TPrefixRule a0), (1, sL 5 c_TPrefixRule a1), (10, .bool ((a0.length : Int) != (a1.length : Int)))], []⟩ [] [] (by kernel_rfl) nil_all trivial ?_
  refine then_n ?_
  refine awp_cond (b := (a0.length : Int) != (a1.length : Int)) (by kernel_rfl) (fun b1 => ?_) (fun b1 => ?_)
  · have h2 := cond_t b1 h
    refine awp_seq ?_
    refine awp_reg [] [4] 0 ⟨26, [(4, .bool false)], []⟩ [] [] (by kernel_rfl) nil_all trivial ?_
    refine then_n ?_
    refine awp_ret ?_
    refine then_r ?_
    obtain rfl := Option.some.inj h2
    exact ends_r (.bool false) (by kernel_rfl) Sub.rfl
  · have h3 := cond_f b1 h
    refine awp_skip ?_
    refine then_n ?_
    refine awp_seq ?_
    refine awp_seq ?_
    refine awp_reg [] [0, 1, 12, 13] 0 ⟨26, [(0, sL 5 c_TPrefixRule a0), (1, sL 5 c_TPrefixRule a1), (12, .int .i64 (a0.length : Int)), (13, .int .i64 0)], []⟩ [] [] (by kernel_rfl) nil_all trivial ?_
    refine then_n ?_
    refine awp_block ?_
    obtain ⟨y3, q13, h14⟩ := bind_some h3
    refine awp_le (s' := ⟨26, [(0, sL 5 c_TPrefixRule a0), (1, sL 5 c_TPrefixRule a1), (12, .int .i64 (a0.length : Int)), (13, .int .i64 0)], []⟩) (le_rfl) ?_
    refine awp_mono (awp_loop (f := M.slices_Equal_api_PrefixRule_api_PrefixRule_l1 a0 a1) (S := fun (p1 : Int) => ⟨26, [(0, sL 5 c_TPrefixRule a0), (1, sL 5 c_TPrefixRule a1), (12, .int .i64 (a0.length : Int)), (13, .int .i64 p1)], []⟩) (O := (Sum.elim (fun z => OutE 0 (fun z => ⟨26, [], []⟩) z) (fun z => OutR Try.prog Try.f32 (.bool z)))) ?_ (x := 0) (y := y3) (loopM_iter q13)) ?_
    · intro p1 y2 h4
      unfold M.slices_Equal_api_PrefixRule_api_PrefixRule_l1 at h4
      refine awp_seq ?_
      refine awp_reg [] [0, 1, 12, 13, 14] 0 ⟨26, [(0, sL 5 c_TPrefixRule a0), (1, sL 5 c_TPrefixRule a1), (12, .int .i64 (a0.length : Int)), (13, .int .i64 p1), (14, .bool (decide (p1 < (a0.length : Int))))], []⟩ [] [] (by kernel_rfl) nil_all trivial ?_
      refine then_n ?_
      refine awp_seq ?_
      refine awp_cond (b := decide (p1 < (a0.length : Int))) (by kernel_rfl) (fun b5 => ?_) (fun b5 => ?_)
      · have h6 := cond_t b5 h4
        refine awp_skip ?_
        refine then_n ?_
        refine awp_seq ?_
        refine awp_block ?_
        refine awp_seq ?_
        refine awp_reg [] [0, 1, 5, 12, 13] 0 ⟨26, [(0, sL 5 c_TPrefixRule a0), (1, sL 5 c_TPrefixRule a1), (5, .int .i64 p1), (12, .int .i64 (a0.length : Int)), (13, .int .i64 p1)], []⟩ [] [] (by kernel_rfl) nil_all trivial ?_
        refine then_n ?_
        refine awp_seq ?_
        obtain ⟨c8, h9⟩ := gd_some h6
        refine awp_reg [] [0, 1, 12, 13, 24] 0 ⟨26, [(0, sL 5 c_TPrefixRule a0), (1, sL 5 c_TPrefixRule a1), (12, .int .i64 (a0.length : Int)), (13, .int .i64 p1), (24, .bool (!((((a0.getD p1.toNat default).fPermit) == ((a1.getD p1.toNat default).fPermit)) && ((((((a0.getD p1.toNat default).fPrefix).fAddr) == (((a1.getD p1.toNat default).fPrefix).fAddr)) && (((((a0.getD p1.toNat default).fPrefix).fLen) == (((a1.getD p1.toNat default).fPrefix).fLen)) && true)) && ((((a0.getD p1.toNat default).fMin) == ((a1.getD p1.toNat default).fMin)) && ((((a0.getD p1.toNat default).fMax) == ((a1.getD p1.toNat default).fMax)) && true))))))], []⟩ [decide (0 ≤ p1), decide (p1 < (a0.length : Int)), decide (0 ≤ p1), decide (p1 < (a1.length : Int))] [] (by kernel_rfl) c8 trivial ?_
        refine then_n ?_
        refine awp_cond (b := !((((a0.getD p1.toNat default).fPermit) == ((a1.getD p1.toNat default).fPermit)) && ((((((a0.getD p1.toNat default).fPrefix).fAddr) == (((a1.getD p1.toNat default).fPrefix).fAddr)) && (((((a0.getD p1.toNat default).fPrefix).fLen) == (((a1.getD p1.toNat default).fPrefix).fLen)) && true)) && ((((a0.getD p1.toNat default).fMin) == ((a1.getD p1.toNat default).fMin)) && ((((a0.getD p1.toNat default).fMax) == ((a1.getD p1.toNat default).fMax)) && true))))) (by kernel_rfl) (fun b10 => ?_) (fun b10 => ?_)
        · have h11 := cond_t b10 h9
          refine awp_seq ?_
          refine awp_reg [] [4] 0 ⟨26, [(4, .bool false)], []⟩ [] [] (by kernel_rfl) nil_all trivial ?_
          refine then_n ?_
          refine awp_ret ?_
          refine inb_r ?_
          refine then_r ?_
          obtain rfl := Option.some.inj h11
          exact round_r ⟨rfl, ends_r (.bool false) (by kernel_rfl) Sub.rfl⟩
        · have h12 := cond_f b10 h9
          refine awp_skip ?_
          refine inb_n ?_
          refine then_n ?_
          refine awp_reg [] [0, 1, 12, 13] 0 ⟨26, [(0, sL 5 c_TPrefixRule a0), (1, sL 5 c_TPrefixRule a1), (12, .int .i64 (a0.length : Int)), (13, .int .i64 (wr .i64 (p1 + 1)))], []⟩ [] [] (by kernel_rfl) nil_all trivial ?_
          obtain rfl := Option.some.inj h12
          exact round_n (le_rfl)
      · have h7 := cond_f b5 h4
        refine awp_exit ?_
        refine then_e ?_
        obtain rfl := Option.some.inj h7
        exact round_e ⟨rfl, le_keep' [] (by kernel_rfl)⟩
    · intro e15 s16 o17
      rcases y3 with g4 | y5
      · have h18 := elim_l h14
        obtain ⟨rfl, l20⟩ := o17
        refine inb_here ?_
        refine then_le (s' := ⟨26, [], []⟩) (l20) ?_
        refine awp_seq ?_
        refine awp_reg [] [4] 0 ⟨26, [(4, .bool true)], []⟩ [] [] (by kernel_rfl) nil_all trivial ?_
        refine then_n ?_
        refine awp_ret ?_
        obtain rfl := Option.some.inj h18
        exact ends_r (.bool true) (by kernel_rfl) Sub.rfl
      · have h19 := elim_r h14
        obtain ⟨rfl, n21⟩ := o17
        refine inb_r ?_
        refine then_r ?_
        obtain rfl := Option.some.inj h19
        exact n21

/- netverify/model.Same$1 -/
noncomputable def M.model_Same_1 (a0 : TPrefixList) (a1 : TPrefixList) : Option Bool :=
  (gc (strEq a0.fName a1.fName) (M.slices_Equal_api_PrefixRule_api_PrefixRule a0.fRules a1.fRules)).bind fun r1 => some ((strEq a0.fName a1.fName) && r1)
theorem model_Same_1_ok (a0 : TPrefixList) (a1 : TPrefixList) (r : Bool) (h : M.model_Same_1 a0 a1 = some r) : Fn Try.prog 31 [.agg (c_TPrefixList a0), .agg (c_TPrefixList a1)] (.pure (.bool r)) := by
  unfold M.model_Same_1 at h
  refine fn_pure Try.func31 rfl (by kernel_rfl) ?_
  refine awp_seq ?_
  refine awp_reg [] [2, 3] 2 ⟨17, [(2, .ref 0 0), (3, .ref 1 0)], [.box (c_TPrefixList a0), .box (c_TPrefixList a1)]⟩ [] [] (by kernel_rfl) nil_all trivial ?_
  refine then_n ?_
  refine awp_seq ?_
  obtain ⟨r1, q1, h2⟩ := bind_some h
  refine awp_reg [.pure (.bool r1)] [4] 0 ⟨17, [(4, .bool ((strEq a0.fName a1.fName) && r1))], []⟩ [] [⟨strEq a0.fName a1.fName, 32, [sL 5 c_TPrefixRule a0.fRules, sL 5 c_TPrefixRule a1.fRules], .pure (.bool r1)⟩] (by kernel_rfl) nil_all ⟨fun hg => slices_Equal_api_PrefixRule_api_PrefixRule_ok a0.fRules a1.fRules r1 (gc_some q1 hg), trivial⟩ ?_
  refine then_n ?_
  refine awp_ret ?_
  obtain rfl := Option.some.inj h2
  exact ends_r (.bool ((strEq a0.fName a1.fName) && r1)) (by kernel_rfl) Sub.rfl

/- slices.EqualFunc[[]netverify/api.PrefixList,[]netverify/api.PrefixList,netverify/api.PrefixList,netverify/api.PrefixList] -/
noncomputable def M.slices_EqualFunc_api_PrefixList_api_PrefixList_api_PrefixList_api_PrefixList__model_Same_1_l1 (a0 : List TPrefixList) (a1 : List TPrefixList) (p1 : Int) : Option (Int ⊕ (Unit ⊕ Bool)) :=
  bif decide (p1 < (a0.length : Int)) then (gd [decide (0 ≤ p1), decide (p1 < (a0.length : Int))] (gd [decide (0 ≤ p1), decide (p1 < (a1.length : Int))] ((M.model_Same_1 (a0.getD p1.toNat default) (a1.getD p1.toNat default)).bind fun r3 => bif !r3 then (some (.inr (.inr false))) else (some (.inl (wr .i64 (p1 + 1))))))) else (some (.inr (.inl ())))
noncomputable def M.slices_EqualFunc_api_PrefixList_api_PrefixList_api_PrefixList_api_PrefixList__model_Same_1 (a0 : List TPrefixList) (a1 : List TPrefixList) : Option Bool :=
  bif (a0.length : Int) != (a1.length : Int) then (some false) else ((loopM (M.slices_EqualFunc_api_PrefixList_api_PrefixList_api_PrefixList_api_PrefixList__model_Same_1_l1 a0 a1) 0).bind fun y4 => Sum.elim (fun g5 => some true) (fun y6 => some y6) y4)
theorem slices_EqualFunc_api_PrefixList_api_PrefixList_api_PrefixList_api_PrefixList__model_Same_1_ok (a0 : List TPrefixList) (a1 : List TPrefixList) (r : Bool) (h : M.slices_EqualFunc_api_PrefixList_api_PrefixList_api_PrefixList_api_PrefixList__model_Same_1 a0 a1 = some r) : Fn Try.prog 30 [sL 2 c_TPrefixList a0, sL 2 c_TPrefixList a1, .fn 31 []] (.pure (.bool r)) := by
  unfold M.slices_EqualFunc_api_PrefixList_api_PrefixList_api_PrefixList_api_PrefixList__model_Same_1 at h
  refine fn_pure Try.func30 rfl (by kernel_rfl) ?_
  refine awp_seq ?_
  refine awp_reg [] [0, 1, 2] 0 ⟨32, [(0, sL 2 c_TPrefixList a0), (1, sL 2 c_TPrefixList a1), (2, .fn 31 [])], []⟩ [] [] (by kernel_rfl) nil_all trivial ?_
  refine then_n ?_
  refine awp_seq ?_
  refine awp_seq ?_
  refine awp_reg [] [0, 1, 2, 14] 0 ⟨32, [(0, sL 2 c_TPrefixList a0), (1, sL 2 c_TPrefixList a1), (2, .fn 31 []), (14, .bool ((a0.length : Int) != (a1.length : Int)))], []⟩ [] [] (by kernel_rfl) nil_all trivial ?_
  refine then_n ?_
  refine awp_cond (b := (a0.length : Int) != (a1.length : Int)) (by kernel_rfl) (fun b1 => ?_) (fun b1 => ?_)
  · have h2 := cond_t b1 h
    refine awp_seq ?_
    refine awp_reg [] [6] 0 ⟨32, [(6, .bool false)], []⟩ [] [] (by kernel_rfl) nil_all trivial ?_
    refine then_n ?_
    refine awp_ret ?_
    refine then_r ?_
    obtain rfl := Option.some.inj h2
    exact ends_r (.bool false) (by kernel_rfl) Sub.rfl
  · have h3 := cond_f b1 h
    refine awp_skip ?_
    refine then_n ?_
    refine awp_seq ?_
    refine awp_seq ?_
    refine awp_reg [] [1, 2, 15, 16, 17] 0 ⟨32, [(1, sL 2 c_TPrefixList a1), (2, .fn 31 []), (15, sL 2 c_TPrefixList a0), (16, .int .i64 (a0.length : Int)), (17, .int .i64 0)], []⟩ [] [] (by kernel_rfl) nil_all trivial ?_
    refine then_n ?_
    refine awp_block ?_
    obtain ⟨y4, q17, h18⟩ := bind_some h3
    refine awp_le (s' := ⟨32, [(1, sL 2 c_TPrefixList a1), (2, .fn 31 []), (15, sL 2 c_TPrefixList a0), (16, .int .i64 (a0.length : Int)), (17, .int .i64 0)], []⟩) (le_rfl) ?_
    refine awp_mono (awp_loop (f := M.slices_EqualFunc_api_PrefixList_api_PrefixList_api_PrefixList_api_PrefixList__model_Same_1_l1 a0 a1) (S := fun (p1 : Int) => ⟨32, [(1, sL 2 c_TPrefixList a1), (2, .fn 31 []), (15, sL 2 c_TPrefixList a0), (16, .int .i64 (a0.length : Int)), (17, .int .i64 p1)], []⟩) (O := (Sum.elim (fun z => OutE 0 (fun z => ⟨32, [], []⟩) z) (fun z => OutR Try.prog Try.f30 (.bool z)))) ?_ (x := 0) (y := y4) (loopM_iter q17)) ?_
    · intro p1 y2 h4
      unfold M.slices_EqualFunc_api_PrefixList_api_PrefixList_api_PrefixList_api_PrefixList__model_Same_1_l1 at h4
      refine awp_seq ?_
      refine awp_reg [] [1, 2, 15, 16, 17, 18] 0 ⟨32, [(1, sL 2 c_TPrefixList a1), (2, .fn 31 []), (15, sL 2 c_TPrefixList a0), (16, .int .i64 (a0.length : Int)), (17, .int .i64 p1), (18, .bool (decide (p1 < (a0.length : Int))))], []⟩ [] [] (by kernel_rfl) nil_all trivial ?_
      refine then_n ?_
      refine awp_seq ?_
      refine awp_cond (b := decide (p1 < (a0.length : Int))) (by kernel_rfl) (fun b5 => ?_) (fun b5 => ?_)
      · have h6 := cond_t b5 h4
        refine awp_skip ?_
        refine then_n ?_
        refine awp_seq ?_
        refine awp_block ?_
        refine awp_seq ?_
        obtain ⟨c8, h9⟩ := gd_some h6
        refine awp_reg [] [1, 2, 7, 8, 15, 16, 17] 1 ⟨32, [(1, sL 2 c_TPrefixList a1), (2, .fn 31 []), (7, .int .i64 p1), (8, .ref 0 0), (15, sL 2 c_TPrefixList a0), (16, .int .i64 (a0.length : Int)), (17, .int .i64 p1)], [.box (c_TPrefixList (a0.getD p1.toNat default))]⟩ [decide (0 ≤ p1), decide (p1 < (a0.length : Int))] [] (by kernel_rfl) c8 trivial ?_
        refine then_n ?_
        refine awp_seq ?_
        obtain ⟨c10, h11⟩ := gd_some h9
        refine awp_reg [] [1, 2, 8, 9, 15, 16, 17] 2 ⟨32, [(1, sL 2 c_TPrefixList a1), (2, .fn 31 []), (8, .ref 0 0), (9, .ref 1 0), (15, sL 2 c_TPrefixList a0), (16, .int .i64 (a0.length : Int)), (17, .int .i64 p1)], [.box (c_TPrefixList (a0.getD p1.toNat default)), .box (c_TPrefixList (a1.getD p1.toNat default))]⟩ [decide (0 ≤ p1), decide (p1 < (a1.length : Int))] [] (by kernel_rfl) c10 trivial ?_
        refine then_n ?_
        refine awp_seq ?_
        obtain ⟨r3, q12, h13⟩ := bind_some h11
        refine awp_reg [.pure (.bool r3)] [1, 2, 15, 16, 17, 30] 0 ⟨32, [(1, sL 2 c_TPrefixList a1), (2, .fn 31 []), (15, sL 2 c_TPrefixList a0), (16, .int .i64 (a0.length : Int)), (17, .int .i64 p1), (30, .bool (!r3))], []⟩ [] [⟨true, 31, [.agg (c_TPrefixList (a0.getD p1.toNat default)), .agg (c_TPrefixList (a1.getD p1.toNat default))], .pure (.bool r3)⟩] (by kernel_rfl) nil_all ⟨fun _ => model_Same_1_ok (a0.getD p1.toNat default) (a1.getD p1.toNat default) r3 q12, trivial⟩ ?_
        refine then_n ?_
        refine awp_cond (b := !r3) (by kernel_rfl) (fun b14 => ?_) (fun b14 => ?_)
        · have h15 := cond_t b14 h13
          refine awp_seq ?_
          refine awp_reg [] [6] 0 ⟨32, [(6, .bool false)], []⟩ [] [] (by kernel_rfl) nil_all trivial ?_
          refine then_n ?_
          refine awp_ret ?_
          refine inb_r ?_
          refine then_r ?_
          obtain rfl := Option.some.inj h15
          exact round_r ⟨rfl, ends_r (.bool false) (by kernel_rfl) Sub.rfl⟩
        · have h16 := cond_f b14 h13
          refine awp_skip ?_
          refine inb_n ?_
          refine then_n ?_
          refine awp_reg [] [1, 2, 15, 16, 17] 0 ⟨32, [(1, sL 2 c_TPrefixList a1), (2, .fn 31 []), (15, sL 2 c_TPrefixList a0), (16, .int .i64 (a0.length : Int)), (17, .int .i64 (wr .i64 (p1 + 1)))], []⟩ [] [] (by kernel_rfl) nil_all trivial ?_
          obtain rfl := Option.some.inj h16
          exact round_n (le_rfl)
      · have h7 := cond_f b5 h4
        refine awp_exit ?_
        refine then_e ?_
        obtain rfl := Option.some.inj h7
        exact round_e ⟨rfl, le_keep' [] (by kernel_rfl)⟩
    · intro e19 s20 o21
      rcases y4 with g5 | y6
      · have h22 := elim_l h18
        obtain ⟨rfl, l24⟩ := o21
        refine inb_here ?_
        refine then_le (s' := ⟨32, [], []⟩) (l24) ?_
        refine awp_seq ?_
        refine awp_reg [] [6] 0 ⟨32, [(6, .bool true)], []⟩ [] [] (by kernel_rfl) nil_all trivial ?_
        refine then_n ?_
        refine awp_ret ?_
        obtain rfl := Option.some.inj h22
        exact ends_r (.bool true) (by kernel_rfl) Sub.rfl
      · have h23 := elim_r h18
        obtain ⟨rfl, n25⟩ := o21
        refine inb_r ?_
        refine then_r ?_
        obtain rfl := Option.some.inj h23
        exact n25

/- slices.Equal[[]netverify/api.Clause,netverify/api.Clause] -/
noncomputable def M.slices_Equal_api_Clause_api_Clause_l1 (a0 : List TClause) (a1 : List TClause) (p1 : Int) : Option (Int ⊕ (Unit ⊕ Bool)) :=
  bif decide (p1 < (a0.length : Int)) then (gd [decide (0 ≤ p1), decide (p1 < (a0.length : Int)), decide (0 ≤ p1), decide (p1 < (a1.length : Int))] (bif !((((a0.getD p1.toNat default).fPermit) == ((a1.getD p1.toNat default).fPermit)) && (strEq ((a0.getD p1.toNat default).fList) ((a1.getD p1.toNat default).fList) && ((((a0.getD p1.toNat default).fTag) == ((a1.getD p1.toNat default).fTag)) && ((((a0.getD p1.toNat default).fSetMetric) == ((a1.getD p1.toNat default).fSetMetric)) && ((((a0.getD p1.toNat default).fSetTag) == ((a1.getD p1.toNat default).fSetTag)) && ((((a0.getD p1.toNat default).fSetPref) == ((a1.getD p1.toNat default).fSetPref)) && ((((a0.getD p1.toNat default).fPrepend) == ((a1.getD p1.toNat default).fPrepend)) && true))))))) then (some (.inr (.inr false))) else (some (.inl (wr .i64 (p1 + 1)))))) else (some (.inr (.inl ())))
noncomputable def M.slices_Equal_api_Clause_api_Clause (a0 : List TClause) (a1 : List TClause) : Option Bool :=
  bif (a0.length : Int) != (a1.length : Int) then (some false) else ((loopM (M.slices_Equal_api_Clause_api_Clause_l1 a0 a1) 0).bind fun y3 => Sum.elim (fun g4 => some true) (fun y5 => some y5) y3)
theorem slices_Equal_api_Clause_api_Clause_ok (a0 : List TClause) (a1 : List TClause) (r : Bool) (h : M.slices_Equal_api_Clause_api_Clause a0 a1 = some r) : Fn Try.prog 35 [sL 7 c_TClause a0, sL 7 c_TClause a1] (.pure (.bool r)) := by
  unfold M.slices_Equal_api_Clause_api_Clause at h
  refine fn_pure Try.func35 rfl (by kernel_rfl) ?_
  refine awp_seq ?_
  refine awp_reg [] [0, 1] 0 ⟨26, [(0, sL 7 c_TClause a0), (1, sL 7 c_TClause a1)], []⟩ [] [] (by kernel_rfl) nil_all trivial ?_
  refine then_n ?_
  refine awp_seq ?_
  refine awp_seq ?_
  refine awp_reg [] [0, 1, 10] 0 ⟨26, [(0, sL 7 c_TClause a0), (1, sL 7 c_TClause a1), (10, .bool ((a0.length : Int) != (a1.length : Int)))], []⟩ [] [] (by kernel_rfl) nil_all trivial ?_
  refine then_n ?_
  refine awp_cond (b := (a0.length : Int) != (a1.length : Int)) (by kernel_rfl) (fun b1 => ?_) (fun b1 => ?_)
  · have h2 := cond_t b1 h
    refine awp_seq ?_
    refine awp_reg [] [4] 0 ⟨26, [(4, .bool false)], []⟩ [] [] (by kernel_rfl) nil_all trivial ?_
    refine then_n ?_
    refine awp_ret ?_
    refine then_r ?_
    obtain rfl := Option.some.inj h2
    exact ends_r (.bool false) (by kernel_rfl) Sub.rfl
  · have h3 := cond_f b1 h
    refine awp_skip ?_
    refine then_n ?_
    refine awp_seq ?_
    refine awp_seq ?_
    refine awp_reg [] [0, 1, 12, 13] 0 ⟨26, [(0, sL 7 c_TClause a0), (1, sL 7 c_TClause a1), (12, .int .i64 (a0.length : Int)), (13, .int .i64 0)], []⟩ [] [] (by kernel_rfl) nil_all trivial ?_
    refine then_n ?_
    refine awp_block ?_
    obtain ⟨y3, q13, h14⟩ := bind_some h3
    refine awp_le (s' := ⟨26, [(0, sL 7 c_TClause a0), (1, sL 7 c_TClause a1), (12, .int .i64 (a0.length : Int)), (13, .int .i64 0)], []⟩) (le_rfl) ?_
    refine awp_mono (awp_loop (f := M.slices_Equal_api_Clause_api_Clause_l1 a0 a1) (S := fun (p1 : Int) => ⟨26, [(0, sL 7 c_TClause a0), (1, sL 7 c_TClause a1), (12, .int .i64 (a0.length : Int)), (13, .int .i64 p1)], []⟩) (O := (Sum.elim (fun z => OutE 0 (fun z => ⟨26, [], []⟩) z) (fun z => OutR Try.prog Try.f35 (.bool z)))) ?_ (x := 0) (y := y3) (loopM_iter q13)) ?_
    · intro p1 y2 h4
      unfold M.slices_Equal_api_Clause_api_Clause_l1 at h4
      refine awp_seq ?_
      refine awp_reg [] [0, 1, 12, 13, 14] 0 ⟨26, [(0, sL 7 c_TClause a0), (1, sL 7 c_TClause a1), (12, .int .i64 (a0.length : Int)), (13, .int .i64 p1), (14, .bool (decide (p1 < (a0.length : Int))))], []⟩ [] [] (by kernel_rfl) nil_all trivial ?_
      refine then_n ?_
      refine awp_seq ?_
      refine awp_cond (b := decide (p1 < (a0.length : Int))) (by kernel_rfl) (fun b5 => ?_) (fun b5 => ?_)
      · have h6 := cond_t b5 h4
        refine awp_skip ?_
        refine then_n ?_
        refine awp_seq ?_
        refine awp_block ?_
        refine awp_seq ?_
        refine awp_reg [] [0, 1, 5, 12, 13] 0 ⟨26, [(0, sL 7 c_TClause a0), (1, sL 7 c_TClause a1), (5, .int .i64 p1), (12, .int .i64 (a0.length : Int)), (13, .int .i64 p1)], []⟩ [] [] (by kernel_rfl) nil_all trivial ?_
        refine then_n ?_
        refine awp_seq ?_
        obtain ⟨c8, h9⟩ := gd_some h6
        refine awp_reg [] [0, 1, 12, 13, 24] 0 ⟨26, [(0, sL 7 c_TClause a0), (1, sL 7 c_TClause a1), (12, .int .i64 (a0.length : Int)), (13, .int .i64 p1), (24, .bool (!((((a0.getD p1.toNat default).fPermit) == ((a1.getD p1.toNat default).fPermit)) && (strEq ((a0.getD p1.toNat default).fList) ((a1.getD p1.toNat default).fList) && ((((a0.getD p1.toNat default).fTag) == ((a1.getD p1.toNat default).fTag)) && ((((a0.getD p1.toNat default).fSetMetric) == ((a1.getD p1.toNat default).fSetMetric)) && ((((a0.getD p1.toNat default).fSetTag) == ((a1.getD p1.toNat default).fSetTag)) && ((((a0.getD p1.toNat default).fSetPref) == ((a1.getD p1.toNat default).fSetPref)) && ((((a0.getD p1.toNat default).fPrepend) == ((a1.getD p1.toNat default).fPrepend)) && true)))))))))], []⟩ [decide (0 ≤ p1), decide (p1 < (a0.length : Int)), decide (0 ≤ p1), decide (p1 < (a1.length : Int))] [] (by kernel_rfl) c8 trivial ?_
        refine then_n ?_
        refine awp_cond (b := !((((a0.getD p1.toNat default).fPermit) == ((a1.getD p1.toNat default).fPermit)) && (strEq ((a0.getD p1.toNat default).fList) ((a1.getD p1.toNat default).fList) && ((((a0.getD p1.toNat default).fTag) == ((a1.getD p1.toNat default).fTag)) && ((((a0.getD p1.toNat default).fSetMetric) == ((a1.getD p1.toNat default).fSetMetric)) && ((((a0.getD p1.toNat default).fSetTag) == ((a1.getD p1.toNat default).fSetTag)) && ((((a0.getD p1.toNat default).fSetPref) == ((a1.getD p1.toNat default).fSetPref)) && ((((a0.getD p1.toNat default).fPrepend) == ((a1.getD p1.toNat default).fPrepend)) && true)))))))) (by kernel_rfl) (fun b10 => ?_) (fun b10 => ?_)
        · have h11 := cond_t b10 h9
          refine awp_seq ?_
          refine awp_reg [] [4] 0 ⟨26, [(4, .bool false)], []⟩ [] [] (by kernel_rfl) nil_all trivial ?_
          refine then_n ?_
          refine awp_ret ?_
          refine inb_r ?_
          refine then_r ?_
          obtain rfl := Option.some.inj h11
          exact round_r ⟨rfl, ends_r (.bool false) (by kernel_rfl) Sub.rfl⟩
        · have h12 := cond_f b10 h9
          refine awp_skip ?_
          refine inb_n ?_
          refine then_n ?_
          refine awp_reg [] [0, 1, 12, 13] 0 ⟨26, [(0, sL 7 c_TClause a0), (1, sL 7 c_TClause a1), (12, .int .i64 (a0.length : Int)), (13, .int .i64 (wr .i64 (p1 + 1)))], []⟩ [] [] (by kernel_rfl) nil_all trivial ?_
          obtain rfl := Option.some.inj h12
          exact round_n (le_rfl)
      · have h7 := cond_f b5 h4
        refine awp_exit ?_
        refine then_e ?_
        obtain rfl := Option.some.inj h7
        exact round_e ⟨rfl, le_keep' [] (by kernel_rfl)⟩
    · intro e15 s16 o17
      rcases y3 with g4 | y5
      · have h18 := elim_l h14
        obtain ⟨rfl, l20⟩ := o17
        refine inb_here ?_
        refine then_le (s' := ⟨26, [], []⟩) (l20) ?_
        refine awp_seq ?_
        refine awp_reg [] [4] 0 ⟨26, [(4, .bool true)], []⟩ [] [] (by kernel_rfl) nil_all trivial ?_
        refine then_n ?_
        refine awp_ret ?_
        obtain rfl := Option.some.inj h18
        exact ends_r (.bool true) (by kernel_rfl) Sub.rfl
      · have h19 := elim_r h14
        obtain ⟨rfl, n21⟩ := o17
        refine inb_r ?_
        refine then_r ?_
        obtain rfl := Option.some.inj h19
        exact n21

/- netverify/model.Same$2 -/
noncomputable def M.model_Same_2 (a0 : TRouteMap) (a1 : TRouteMap) : Option Bool :=
  (gc (strEq a0.fName a1.fName) (M.slices_Equal_api_Clause_api_Clause a0.fClauses a1.fClauses)).bind fun r1 => some ((strEq a0.fName a1.fName) && r1)
theorem model_Same_2_ok (a0 : TRouteMap) (a1 : TRouteMap) (r : Bool) (h : M.model_Same_2 a0 a1 = some r) : Fn Try.prog 34 [.agg (c_TRouteMap a0), .agg (c_TRouteMap a1)] (.pure (.bool r)) := by
  unfold M.model_Same_2 at h
  refine fn_pure Try.func34 rfl (by kernel_rfl) ?_
  refine awp_seq ?_
  refine awp_reg [] [2, 3] 2 ⟨17, [(2, .ref 0 0), (3, .ref 1 0)], [.box (c_TRouteMap a0), .box (c_TRouteMap a1)]⟩ [] [] (by kernel_rfl) nil_all trivial ?_
  refine then_n ?_
  refine awp_seq ?_
  obtain ⟨r1, q1, h2⟩ := bind_some h
  refine awp_reg [.pure (.bool r1)] [4] 0 ⟨17, [(4, .bool ((strEq a0.fName a1.fName) && r1))], []⟩ [] [⟨strEq a0.fName a1.fName, 35, [sL 7 c_TClause a0.fClauses, sL 7 c_TClause a1.fClauses], .pure (.bool r1)⟩] (by kernel_rfl) nil_all ⟨fun hg => slices_Equal_api_Clause_api_Clause_ok a0.fClauses a1.fClauses r1 (gc_some q1 hg), trivial⟩ ?_
  refine then_n ?_
  refine awp_ret ?_
  obtain rfl := Option.some.inj h2
  exact ends_r (.bool ((strEq a0.fName a1.fName) && r1)) (by kernel_rfl) Sub.rfl

/- slices.EqualFunc[[]netverify/api.RouteMap,[]netverify/api.RouteMap,netverify/api.RouteMap,netverify/api.RouteMap] -/
noncomputable def M.slices_EqualFunc_api_RouteMap_api_RouteMap_api_RouteMap_api_RouteMap__model_Same_2_l1 (a0 : List TRouteMap) (a1 : List TRouteMap) (p1 : Int) : Option (Int ⊕ (Unit ⊕ Bool)) :=
  bif decide (p1 < (a0.length : Int)) then (gd [decide (0 ≤ p1), decide (p1 < (a0.length : Int))] (gd [decide (0 ≤ p1), decide (p1 < (a1.length : Int))] ((M.model_Same_2 (a0.getD p1.toNat default) (a1.getD p1.toNat default)).bind fun r3 => bif !r3 then (some (.inr (.inr false))) else (some (.inl (wr .i64 (p1 + 1))))))) else (some (.inr (.inl ())))
noncomputable def M.slices_EqualFunc_api_RouteMap_api_RouteMap_api_RouteMap_api_RouteMap__model_Same_2 (a0 : List TRouteMap) (a1 : List TRouteMap) : Option Bool :=
  bif (a0.length : Int) != (a1.length : Int) then (some false) else ((loopM (M.slices_EqualFunc_api_RouteMap_api_RouteMap_api_RouteMap_api_RouteMap__model_Same_2_l1 a0 a1) 0).bind fun y4 => Sum.elim (fun g5 => some true) (fun y6 => some y6) y4)
theorem slices_EqualFunc_api_RouteMap_api_RouteMap_api_RouteMap_api_RouteMap__model_Same_2_ok (a0 : List TRouteMap) (a1 : List TRouteMap) (r : Bool) (h : M.slices_EqualFunc_api_RouteMap_api_RouteMap_api_RouteMap_api_RouteMap__model_Same_2 a0 a1 = some r) : Fn Try.prog 33 [sL 2 c_TRouteMap a0, sL 2 c_TRouteMap a1, .fn 34 []] (.pure (.bool r)) := by
  unfold M.slices_EqualFunc_api_RouteMap_api_RouteMap_api_RouteMap_api_RouteMap__model_Same_2 at h
  refine fn_pure Try.func33 rfl (by kernel_rfl) ?_
  refine awp_seq ?_
  refine awp_reg [] [0, 1, 2] 0 ⟨32, [(0, sL 2 c_TRouteMap a0), (1, sL 2 c_TRouteMap a1), (2, .fn 34 [])], []⟩ [] [] (by kernel_rfl) nil_all trivial ?_
  refine then_n ?_
  refine awp_seq ?_
  refine awp_seq ?_
  refine awp_reg [] [0, 1, 2, 14] 0 ⟨32, [(0, sL 2 c_TRouteMap a0), (1, sL 2 c_TRouteMap a1), (2, .fn 34 []), (14, .bool ((a0.length : Int) != (a1.length : Int)))], []⟩ [] [] (by kernel_rfl) nil_all trivial ?_
  refine then_n ?_
  refine awp_cond (b := (a0.length : Int) != (a1.length : Int)) (by kernel_rfl) (fun b1 => ?_) (fun b1 => ?_)
  · have h2 := cond_t b1 h
    refine awp_seq ?_
    refine awp_reg [] [6] 0 ⟨32, [(6, .bool false)], []⟩ [] [] (by kernel_rfl) nil_all trivial ?_
    refine then_n ?_
    refine awp_ret ?_
    refine then_r ?_
    obtain rfl := Option.some.inj h2
    exact ends_r (.bool false) (by kernel_rfl) Sub.rfl
  · have h3 := cond_f b1 h
    refine awp_skip ?_
    refine then_n ?_
    refine awp_seq ?_
    refine awp_seq ?_
    refine awp_reg [] [1, 2, 15, 16, 17] 0 ⟨32, [(1, sL 2 c_TRouteMap a1), (2, .fn 34 []), (15, sL 2 c_TRouteMap a0), (16, .int .i64 (a0.length : Int)), (17, .int .i64 0)], []⟩ [] [] (by kernel_rfl) nil_all trivial ?_
    refine then_n ?_
    refine awp_block ?_
    obtain ⟨y4, q17, h18⟩ := bind_some h3
    refine awp_le (s' := ⟨32, [(1, sL 2 c_TRouteMap a1), (2, .fn 34 []), (15, sL 2 c_TRouteMap a0), (16, .int .i64 (a0.length : Int)), (17, .int .i64 0)], []⟩) (le_rfl) ?_
    refine awp_mono (awp_loop (f := M.slices_EqualFunc_api_RouteMap_api_RouteMap_api_RouteMap_api_RouteMap__model_Same_2_l1 a0 a1) (S := fun (p1 : Int) => ⟨32, [(1, sL 2 c_TRouteMap a1), (2, .fn 34 []), (15, sL 2 c_TRouteMap a0), (16, .int .i64 (a0.length : Int)), (17, .int .i64 p1)], []⟩) (O := (Sum.elim (fun z => OutE 0 (fun z => ⟨32, [], []⟩) z) (fun z => OutR Try.prog Try.f33 (.bool z)))) ?_ (x := 0) (y := y4) (loopM_iter q17)) ?_
    · intro p1 y2 h4
      unfold M.slices_EqualFunc_api_RouteMap_api_RouteMap_api_RouteMap_api_RouteMap__model_Same_2_l1 at h4
      refine awp_seq ?_
      refine awp_reg [] [1, 2, 15, 16, 17, 18] 0 ⟨32, [(1, sL 2 c_TRouteMap a1), (2, .fn 34 []), (15, sL 2 c_TRouteMap a0), (16, .int .i64 (a0.length : Int)), (17, .int .i64 p1), (18, .bool (decide (p1 < (a0.length : Int))))], []⟩ [] [] (by kernel_rfl) nil_all trivial ?_
      refine then_n ?_
      refine awp_seq ?_
      refine awp_cond (b := decide (p1 < (a0.length : Int))) (by kernel_rfl) (fun b5 => ?_) (fun b5 => ?_)
      · have h6 := cond_t b5 h4
        refine awp_skip ?_
        refine then_n ?_
        refine awp_seq ?_
        refine awp_block ?_
        refine awp_seq ?_
        obtain ⟨c8, h9⟩ := gd_some h6
        refine awp_reg [] [1, 2, 7, 8, 15, 16, 17] 1 ⟨32, [(1, sL 2 c_TRouteMap a1), (2, .fn 34 []), (7, .int .i64 p1), (8, .ref 0 0), (15, sL 2 c_TRouteMap a0), (16, .int .i64 (a0.length : Int)), (17, .int .i64 p1)], [.box (c_TRouteMap (a0.getD p1.toNat default))]⟩ [decide (0 ≤ p1), decide (p1 < (a0.length : Int))] [] (by kernel_rfl) c8 trivial ?_
        refine then_n ?_
        refine awp_seq ?_
        obtain ⟨c10, h11⟩ := gd_some h9
        refine awp_reg [] [1, 2, 8, 9, 15, 16, 17] 2 ⟨32, [(1, sL 2 c_TRouteMap a1), (2, .fn 34 []), (8, .ref 0 0), (9, .ref 1 0), (15, sL 2 c_TRouteMap a0), (16, .int .i64 (a0.length : Int)), (17, .int .i64 p1)], [.box (c_TRouteMap (a0.getD p1.toNat default)), .box (c_TRouteMap (a1.getD p1.toNat default))]⟩ [decide (0 ≤ p1), decide (p1 < (a1.length : Int))] [] (by kernel_rfl) c10 trivial ?_
        refine then_n ?_
        refine awp_seq ?_
        obtain ⟨r3, q12, h13⟩ := bind_some h11
        refine awp_reg [.pure (.bool r3)] [1, 2, 15, 16, 17, 30] 0 ⟨32, [(1, sL 2 c_TRouteMap a1), (2, .fn 34 []), (15, sL 2 c_TRouteMap a0), (16, .int .i64 (a0.length : Int)), (17, .int .i64 p1), (30, .bool (!r3))], []⟩ [] [⟨true, 34, [.agg (c_TRouteMap (a0.getD p1.toNat default)), .agg (c_TRouteMap (a1.getD p1.toNat default))], .pure (.bool r3)⟩] (by kernel_rfl) nil_all ⟨fun _ => model_Same_2_ok (a0.getD p1.toNat default) (a1.getD p1.toNat default) r3 q12, trivial⟩ ?_
        refine then_n ?_
        refine awp_cond (b := !r3) (by kernel_rfl) (fun b14 => ?_) (fun b14 => ?_)
        · have h15 := cond_t b14 h13
          refine awp_seq ?_
          refine awp_reg [] [6] 0 ⟨32, [(6, .bool false)], []⟩ [] [] (by kernel_rfl) nil_all trivial ?_
          refine then_n ?_
          refine awp_ret ?_
          refine inb_r ?_
          refine then_r ?_
          obtain rfl := Option.some.inj h15
          exact round_r ⟨rfl, ends_r (.bool false) (by kernel_rfl) Sub.rfl⟩
        · have h16 := cond_f b14 h13
          refine awp_skip ?_
          refine inb_n ?_
          refine then_n ?_
          refine awp_reg [] [1, 2, 15, 16, 17] 0 ⟨32, [(1, sL 2 c_TRouteMap a1), (2, .fn 34 []), (15, sL 2 c_TRouteMap a0), (16, .int .i64 (a0.length : Int)), (17, .int .i64 (wr .i64 (p1 + 1)))], []⟩ [] [] (by kernel_rfl) nil_all trivial ?_
          obtain rfl := Option.some.inj h16
          exact round_n (le_rfl)
      · have h7 := cond_f b5 h4
        refine awp_exit ?_
        refine then_e ?_
        obtain rfl := Option.some.inj h7
        exact round_e ⟨rfl, le_keep' [] (by kernel_rfl)⟩
    · intro e19 s20 o21
      rcases y4 with g5 | y6
      · have h22 := elim_l h18
        obtain ⟨rfl, l24⟩ := o21
        refine inb_here ?_
        refine then_le (s' := ⟨32, [], []⟩) (l24) ?_
        refine awp_seq ?_
        refine awp_reg [] [6] 0 ⟨32, [(6, .bool true)], []⟩ [] [] (by kernel_rfl) nil_all trivial ?_
        refine then_n ?_
        refine awp_ret ?_
        obtain rfl := Option.some.inj h22
        exact ends_r (.bool true) (by kernel_rfl) Sub.rfl
      · have h23 := elim_r h18
        obtain ⟨rfl, n25⟩ := o21
        refine inb_r ?_
        refine then_r ?_
        obtain rfl := Option.some.inj h23
        exact n25

/- slices.Equal[[]netverify/api.Rule,netverify/api.Rule] -/
noncomputable def M.slices_Equal_api_Rule_api_Rule_l1 (a0 : List TRule) (a1 : List TRule) (p1 : Int) : Option (Int ⊕ (Unit ⊕ Bool)) :=
  bif decide (p1 < (a0.length : Int)) then (gd [decide (0 ≤ p1), decide (p1 < (a0.length : Int)), decide (0 ≤ p1), decide (p1 < (a1.length : Int))] (bif !((((a0.getD p1.toNat default).fPermit) == ((a1.getD p1.toNat default).fPermit)) && ((((a0.getD p1.toNat default).fProto) == ((a1.getD p1.toNat default).fProto)) && ((((((a0.getD p1.toNat default).fSrc).fAddr) == (((a1.getD p1.toNat default).fSrc).fAddr)) && (((((a0.getD p1.toNat default).fSrc).fMask) == (((a1.getD p1.toNat default).fSrc).fMask)) && true)) && ((((((a0.getD p1.toNat default).fDst).fAddr) == (((a1.getD p1.toNat default).fDst).fAddr)) && (((((a0.getD p1.toNat default).fDst).fMask) == (((a1.getD p1.toNat default).fDst).fMask)) && true)) && ((((((a0.getD p1.toNat default).fSrcPorts).fLo) == (((a1.getD p1.toNat default).fSrcPorts).fLo)) && (((((a0.getD p1.toNat default).fSrcPorts).fHi) == (((a1.getD p1.toNat default).fSrcPorts).fHi)) && true)) && ((((((a0.getD p1.toNat default).fDstPorts).fLo) == (((a1.getD p1.toNat default).fDstPorts).fLo)) && (((((a0.getD p1.toNat default).fDstPorts).fHi) == (((a1.getD p1.toNat default).fDstPorts).fHi)) && true)) && true)))))) then (some (.inr (.inr false))) else (some (.inl (wr .i64 (p1 + 1)))))) else (some (.inr (.inl ())))
noncomputable def M.slices_Equal_api_Rule_api_Rule (a0 : List TRule) (a1 : List TRule) : Option Bool :=
  bif (a0.length : Int) != (a1.length : Int) then (some false) else ((loopM (M.slices_Equal_api_Rule_api_Rule_l1 a0 a1) 0).bind fun y3 => Sum.elim (fun g4 => some true) (fun y5 => some y5) y3)
theorem slices_Equal_api_Rule_api_Rule_ok (a0 : List TRule) (a1 : List TRule) (r : Bool) (h : M.slices_Equal_api_Rule_api_Rule a0 a1 = some r) : Fn Try.prog 38 [sL 10 c_TRule a0, sL 10 c_TRule a1] (.pure (.bool r)) := by
  unfold M.slices_Equal_api_Rule_api_Rule at h
  refine fn_pure Try.func38 rfl (by kernel_rfl) ?_
  refine awp_seq ?_
  refine awp_reg [] [0, 1] 0 ⟨26, [(0, sL 10 c_TRule a0), (1, sL 10 c_TRule a1)], []⟩ [] [] (by kernel_rfl) nil_all trivial ?_
  refine then_n ?_
  refine awp_seq ?_
  refine awp_seq ?_
  refine awp_reg [] [0, 1, 10] 0 ⟨26, [(0, sL 10 c_TRule a0), (1, sL 10 c_TRule a1), (10, .bool ((a0.length : Int) != (a1.length : Int)))], []⟩ [] [] (by kernel_rfl) nil_all trivial ?_
  refine then_n ?_
  refine awp_cond (b := (a0.length : Int) != (a1.length : Int)) (by kernel_rfl) (fun b1 => ?_) (fun b1 => ?_)
  · have h2 := cond_t b1 h
    refine awp_seq ?_
    refine awp_reg [] [4] 0 ⟨26, [(4, .bool false)], []⟩ [] [] (by kernel_rfl) nil_all trivial ?_
    refine then_n ?_
    refine awp_ret ?_
    refine then_r ?_
    obtain rfl := Option.some.inj h2
    exact ends_r (.bool false) (by kernel_rfl) Sub.rfl
  · have h3 := cond_f b1 h
    refine awp_skip ?_
    refine then_n ?_
    refine awp_seq ?_
    refine awp_seq ?_
    refine awp_reg [] [0, 1, 12, 13] 0 ⟨26, [(0, sL 10 c_TRule a0), (1, sL 10 c_TRule a1), (12, .int .i64 (a0.length : Int)), (13, .int .i64 0)], []⟩ [] [] (by kernel_rfl) nil_all trivial ?_
    refine then_n ?_
    refine awp_block ?_
    obtain ⟨y3, q13, h14⟩ := bind_some h3
    refine awp_le (s' := ⟨26, [(0, sL 10 c_TRule a0), (1, sL 10 c_TRule a1), (12, .int .i64 (a0.length : Int)), (13, .int .i64 0)], []⟩) (le_rfl) ?_
    refine awp_mono (awp_loop (f := M.slices_Equal_api_Rule_api_Rule_l1 a0 a1) (S := fun (p1 : Int) => ⟨26, [(0, sL 10 c_TRule a0), (1, sL 10 c_TRule a1), (12, .int .i64 (a0.length : Int)), (13, .int .i64 p1)], []⟩) (O := (Sum.elim (fun z => OutE 0 (fun z => ⟨26, [], []⟩) z) (fun z => OutR Try.prog Try.f38 (.bool z)))) ?_ (x := 0) (y := y3) (loopM_iter q13)) ?_
    · intro p1 y2 h4
      unfold M.slices_Equal_api_Rule_api_Rule_l1 at h4
      refine awp_seq ?_
      refine awp_reg [] [0, 1, 12, 13, 14] 0 ⟨26, [(0, sL 10 c_TRule a0), (1, sL 10 c_TRule a1), (12, .int .i64 (a0.length : Int)), (13, .int .i64 p1), (14, .bool (decide (p1 < (a0.length : Int))))], []⟩ [] [] (by kernel_rfl) nil_all trivial ?_
      refine then_n ?_
      refine awp_seq ?_
      refine awp_cond (b := decide (p1 < (a0.length : Int))) (by kernel_rfl) (fun b5 => ?_) (fun b5 => ?_)
      · have h6 := cond_t b5 h4
        refine awp_skip ?_
        refine then_n ?_
        refine awp_seq ?_
        refine awp_block ?_
        refine awp_seq ?_
        refine awp_reg [] [0, 1, 5, 12, 13] 0 ⟨26, [(0, sL 10 c_TRule a0), (1, sL 10 c_TRule a1), (5, .int .i64 p1), (12, .int .i64 (a0.length : Int)), (13, .int .i64 p1)], []⟩ [] [] (by kernel_rfl) nil_all trivial ?_
        refine then_n ?_
        refine awp_seq ?_
        obtain ⟨c8, h9⟩ := gd_some h6
        refine awp_reg [] [0, 1, 12, 13, 24] 0 ⟨26, [(0, sL 10 c_TRule a0), (1, sL 10 c_TRule a1), (12, .int .i64 (a0.length : Int)), (13, .int .i64 p1), (24, .bool (!((((a0.getD p1.toNat default).fPermit) == ((a1.getD p1.toNat default).fPermit)) && ((((a0.getD p1.toNat default).fProto) == ((a1.getD p1.toNat default).fProto)) && ((((((a0.getD p1.toNat default).fSrc).fAddr) == (((a1.getD p1.toNat default).fSrc).fAddr)) && (((((a0.getD p1.toNat default).fSrc).fMask) == (((a1.getD p1.toNat default).fSrc).fMask)) && true)) && ((((((a0.getD p1.toNat default).fDst).fAddr) == (((a1.getD p1.toNat default).fDst).fAddr)) && (((((a0.getD p1.toNat default).fDst).fMask) == (((a1.getD p1.toNat default).fDst).fMask)) && true)) && ((((((a0.getD p1.toNat default).fSrcPorts).fLo) == (((a1.getD p1.toNat default).fSrcPorts).fLo)) && (((((a0.getD p1.toNat default).fSrcPorts).fHi) == (((a1.getD p1.toNat default).fSrcPorts).fHi)) && true)) && ((((((a0.getD p1.toNat default).fDstPorts).fLo) == (((a1.getD p1.toNat default).fDstPorts).fLo)) && (((((a0.getD p1.toNat default).fDstPorts).fHi) == (((a1.getD p1.toNat default).fDstPorts).fHi)) && true)) && true))))))))], []⟩ [decide (0 ≤ p1), decide (p1 < (a0.length : Int)), decide (0 ≤ p1), decide (p1 < (a1.length : Int))] [] (by kernel_rfl) c8 trivial ?_
        refine then_n ?_
        refine awp_cond (b := !((((a0.getD p1.toNat default).fPermit) == ((a1.getD p1.toNat default).fPermit)) && ((((a0.getD p1.toNat default).fProto) == ((a1.getD p1.toNat default).fProto)) && ((((((a0.getD p1.toNat default).fSrc).fAddr) == (((a1.getD p1.toNat default).fSrc).fAddr)) && (((((a0.getD p1.toNat default).fSrc).fMask) == (((a1.getD p1.toNat default).fSrc).fMask)) && true)) && ((((((a0.getD p1.toNat default).fDst).fAddr) == (((a1.getD p1.toNat default).fDst).fAddr)) && (((((a0.getD p1.toNat default).fDst).fMask) == (((a1.getD p1.toNat default).fDst).fMask)) && true)) && ((((((a0.getD p1.toNat default).fSrcPorts).fLo) == (((a1.getD p1.toNat default).fSrcPorts).fLo)) && (((((a0.getD p1.toNat default).fSrcPorts).fHi) == (((a1.getD p1.toNat default).fSrcPorts).fHi)) && true)) && ((((((a0.getD p1.toNat default).fDstPorts).fLo) == (((a1.getD p1.toNat default).fDstPorts).fLo)) && (((((a0.getD p1.toNat default).fDstPorts).fHi) == (((a1.getD p1.toNat default).fDstPorts).fHi)) && true)) && true))))))) (by kernel_rfl) (fun b10 => ?_) (fun b10 => ?_)
        · have h11 := cond_t b10 h9
          refine awp_seq ?_
          refine awp_reg [] [4] 0 ⟨26, [(4, .bool false)], []⟩ [] [] (by kernel_rfl) nil_all trivial ?_
          refine then_n ?_
          refine awp_ret ?_
          refine inb_r ?_
          refine then_r ?_
          obtain rfl := Option.some.inj h11
          exact round_r ⟨rfl, ends_r (.bool false) (by kernel_rfl) Sub.rfl⟩
        · have h12 := cond_f b10 h9
          refine awp_skip ?_
          refine inb_n ?_
          refine then_n ?_
          refine awp_reg [] [0, 1, 12, 13] 0 ⟨26, [(0, sL 10 c_TRule a0), (1, sL 10 c_TRule a1), (12, .int .i64 (a0.length : Int)), (13, .int .i64 (wr .i64 (p1 + 1)))], []⟩ [] [] (by kernel_rfl) nil_all trivial ?_
          obtain rfl := Option.some.inj h12
          exact round_n (le_rfl)
      · have h7 := cond_f b5 h4
        refine awp_exit ?_
        refine then_e ?_
        obtain rfl := Option.some.inj h7
        exact round_e ⟨rfl, le_keep' [] (by kernel_rfl)⟩
    · intro e15 s16 o17
      rcases y3 with g4 | y5
      · have h18 := elim_l h14
        obtain ⟨rfl, l20⟩ := o17
        refine inb_here ?_
        refine then_le (s' := ⟨26, [], []⟩) (l20) ?_
        refine awp_seq ?_
        refine awp_reg [] [4] 0 ⟨26, [(4, .bool true)], []⟩ [] [] (by kernel_rfl) nil_all trivial ?_
        refine then_n ?_
        refine awp_ret ?_
        obtain rfl := Option.some.inj h18
        exact ends_r (.bool true) (by kernel_rfl) Sub.rfl
      · have h19 := elim_r h14
        obtain ⟨rfl, n21⟩ := o17
        refine inb_r ?_
        refine then_r ?_
        obtain rfl := Option.some.inj h19
        exact n21

/- netverify/model.Same$3 -/
noncomputable def M.model_Same_3 (a0 : TACL) (a1 : TACL) : Option Bool :=
  (gc (strEq a0.fName a1.fName) (M.slices_Equal_api_Rule_api_Rule a0.fRules a1.fRules)).bind fun r1 => some ((strEq a0.fName a1.fName) && r1)
theorem model_Same_3_ok (a0 : TACL) (a1 : TACL) (r : Bool) (h : M.model_Same_3 a0 a1 = some r) : Fn Try.prog 37 [.agg (c_TACL a0), .agg (c_TACL a1)] (.pure (.bool r)) := by
  unfold M.model_Same_3 at h
  refine fn_pure Try.func37 rfl (by kernel_rfl) ?_
  refine awp_seq ?_
  refine awp_reg [] [2, 3] 2 ⟨17, [(2, .ref 0 0), (3, .ref 1 0)], [.box (c_TACL a0), .box (c_TACL a1)]⟩ [] [] (by kernel_rfl) nil_all trivial ?_
  refine then_n ?_
  refine awp_seq ?_
  obtain ⟨r1, q1, h2⟩ := bind_some h
  refine awp_reg [.pure (.bool r1)] [4] 0 ⟨17, [(4, .bool ((strEq a0.fName a1.fName) && r1))], []⟩ [] [⟨strEq a0.fName a1.fName, 38, [sL 10 c_TRule a0.fRules, sL 10 c_TRule a1.fRules], .pure (.bool r1)⟩] (by kernel_rfl) nil_all ⟨fun hg => slices_Equal_api_Rule_api_Rule_ok a0.fRules a1.fRules r1 (gc_some q1 hg), trivial⟩ ?_
  refine then_n ?_
  refine awp_ret ?_
  obtain rfl := Option.some.inj h2
  exact ends_r (.bool ((strEq a0.fName a1.fName) && r1)) (by kernel_rfl) Sub.rfl

/- slices.EqualFunc[[]netverify/api.ACL,[]netverify/api.ACL,netverify/api.ACL,netverify/api.ACL] -/
noncomputable def M.slices_EqualFunc_api_ACL_api_ACL_api_ACL_api_ACL__model_Same_3_l1 (a0 : List TACL) (a1 : List TACL) (p1 : Int) : Option (Int ⊕ (Unit ⊕ Bool)) :=
  bif decide (p1 < (a0.length : Int)) then (gd [decide (0 ≤ p1), decide (p1 < (a0.length : Int))] (gd [decide (0 ≤ p1), decide (p1 < (a1.length : Int))] ((M.model_Same_3 (a0.getD p1.toNat default) (a1.getD p1.toNat default)).bind fun r3 => bif !r3 then (some (.inr (.inr false))) else (some (.inl (wr .i64 (p1 + 1))))))) else (some (.inr (.inl ())))
noncomputable def M.slices_EqualFunc_api_ACL_api_ACL_api_ACL_api_ACL__model_Same_3 (a0 : List TACL) (a1 : List TACL) : Option Bool :=
  bif (a0.length : Int) != (a1.length : Int) then (some false) else ((loopM (M.slices_EqualFunc_api_ACL_api_ACL_api_ACL_api_ACL__model_Same_3_l1 a0 a1) 0).bind fun y4 => Sum.elim (fun g5 => some true) (fun y6 => some y6) y4)
theorem slices_EqualFunc_api_ACL_api_ACL_api_ACL_api_ACL__model_Same_3_ok (a0 : List TACL) (a1 : List TACL) (r : Bool) (h : M.slices_EqualFunc_api_ACL_api_ACL_api_ACL_api_ACL__model_Same_3 a0 a1 = some r) : Fn Try.prog 36 [sL 2 c_TACL a0, sL 2 c_TACL a1, .fn 37 []] (.pure (.bool r)) := by
  unfold M.slices_EqualFunc_api_ACL_api_ACL_api_ACL_api_ACL__model_Same_3 at h
  refine fn_pure Try.func36 rfl (by kernel_rfl) ?_
  refine awp_seq ?_
  refine awp_reg [] [0, 1, 2] 0 ⟨32, [(0, sL 2 c_TACL a0), (1, sL 2 c_TACL a1), (2, .fn 37 [])], []⟩ [] [] (by kernel_rfl) nil_all trivial ?_
  refine then_n ?_
  refine awp_seq ?_
  refine awp_seq ?_
  refine awp_reg [] [0, 1, 2, 14] 0 ⟨32, [(0, sL 2 c_TACL a0), (1, sL 2 c_TACL a1), (2, .fn 37 []), (14, .bool ((a0.length : Int) != (a1.length : Int)))], []⟩ [] [] (by kernel_rfl) nil_all trivial ?_
  refine then_n ?_
  refine awp_cond (b := (a0.length : Int) != (a1.length : Int)) (by kernel_rfl) (fun b1 => ?_) (fun b1 => ?_)
  · have h2 := cond_t b1 h
    refine awp_seq ?_
    refine awp_reg [] [6] 0 ⟨32, [(6, .bool false)], []⟩ [] [] (by kernel_rfl) nil_all trivial ?_
    refine then_n ?_
    refine awp_ret ?_
    refine then_r ?_
    obtain rfl := Option.some.inj h2
    exact ends_r (.bool false) (by kernel_rfl) Sub.rfl
  · have h3 := cond_f b1 h
    refine awp_skip ?_
    refine then_n ?_
    refine awp_seq ?_
    refine awp_seq ?_
    refine awp_reg [] [1, 2, 15, 16, 17] 0 ⟨32, [(1, sL 2 c_TACL a1), (2, .fn 37 []), (15, sL 2 c_TACL a0), (16, .int .i64 (a0.length : Int)), (17, .int .i64 0)], []⟩ [] [] (by kernel_rfl) nil_all trivial ?_
    refine then_n ?_
    refine awp_block ?_
    obtain ⟨y4, q17, h18⟩ := bind_some h3
    refine awp_le (s' := ⟨32, [(1, sL 2 c_TACL a1), (2, .fn 37 []), (15, sL 2 c_TACL a0), (16, .int .i64 (a0.length : Int)), (17, .int .i64 0)], []⟩) (le_rfl) ?_
    refine awp_mono (awp_loop (f := M.slices_EqualFunc_api_ACL_api_ACL_api_ACL_api_ACL__model_Same_3_l1 a0 a1) (S := fun (p1 : Int) => ⟨32, [(1, sL 2 c_TACL a1), (2, .fn 37 []), (15, sL 2 c_TACL a0), (16, .int .i64 (a0.length : Int)), (17, .int .i64 p1)], []⟩) (O := (Sum.elim (fun z => OutE 0 (fun z => ⟨32, [], []⟩) z) (fun z => OutR Try.prog Try.f36 (.bool z)))) ?_ (x := 0) (y := y4) (loopM_iter q17)) ?_
    · intro p1 y2 h4
      unfold M.slices_EqualFunc_api_ACL_api_ACL_api_ACL_api_ACL__model_Same_3_l1 at h4
      refine awp_seq ?_
      refine awp_reg [] [1, 2, 15, 16, 17, 18] 0 ⟨32, [(1, sL 2 c_TACL a1), (2, .fn 37 []), (15, sL 2 c_TACL a0), (16, .int .i64 (a0.length : Int)), (17, .int .i64 p1), (18, .bool (decide (p1 < (a0.length : Int))))], []⟩ [] [] (by kernel_rfl) nil_all trivial ?_
      refine then_n ?_
      refine awp_seq ?_
      refine awp_cond (b := decide (p1 < (a0.length : Int))) (by kernel_rfl) (fun b5 => ?_) (fun b5 => ?_)
      · have h6 := cond_t b5 h4
        refine awp_skip ?_
        refine then_n ?_
        refine awp_seq ?_
        refine awp_block ?_
        refine awp_seq ?_
        obtain ⟨c8, h9⟩ := gd_some h6
        refine awp_reg [] [1, 2, 7, 8, 15, 16, 17] 1 ⟨32, [(1, sL 2 c_TACL a1), (2, .fn 37 []), (7, .int .i64 p1), (8, .ref 0 0), (15, sL 2 c_TACL a0), (16, .int .i64 (a0.length : Int)), (17, .int .i64 p1)], [.box (c_TACL (a0.getD p1.toNat default))]⟩ [decide (0 ≤ p1), decide (p1 < (a0.length : Int))] [] (by kernel_rfl) c8 trivial ?_
        refine then_n ?_
        refine awp_seq ?_
        obtain ⟨c10, h11⟩ := gd_some h9
        refine awp_reg [] [1, 2, 8, 9, 15, 16, 17] 2 ⟨32, [(1, sL 2 c_TACL a1), (2, .fn 37 []), (8, .ref 0 0), (9, .ref 1 0), (15, sL 2 c_TACL a0), (16, .int .i64 (a0.length : Int)), (17, .int .i64 p1)], [.box (c_TACL (a0.getD p1.toNat default)), .box (c_TACL (a1.getD p1.toNat default))]⟩ [decide (0 ≤ p1), decide (p1 < (a1.length : Int))] [] (by kernel_rfl) c10 trivial ?_
        refine then_n ?_
        refine awp_seq ?_
        obtain ⟨r3, q12, h13⟩ := bind_some h11
        refine awp_reg [.pure (.bool r3)] [1, 2, 15, 16, 17, 30] 0 ⟨32, [(1, sL 2 c_TACL a1), (2, .fn 37 []), (15, sL 2 c_TACL a0), (16, .int .i64 (a0.length : Int)), (17, .int .i64 p1), (30, .bool (!r3))], []⟩ [] [⟨true, 37, [.agg (c_TACL (a0.getD p1.toNat default)), .agg (c_TACL (a1.getD p1.toNat default))], .pure (.bool r3)⟩] (by kernel_rfl) nil_all ⟨fun _ => model_Same_3_ok (a0.getD p1.toNat default) (a1.getD p1.toNat default) r3 q12, trivial⟩ ?_
        refine then_n ?_
        refine awp_cond (b := !r3) (by kernel_rfl) (fun b14 => ?_) (fun b14 => ?_)
        · have h15 := cond_t b14 h13
          refine awp_seq ?_
          refine awp_reg [] [6] 0 ⟨32, [(6, .bool false)], []⟩ [] [] (by kernel_rfl) nil_all trivial ?_
          refine then_n ?_
          refine awp_ret ?_
          refine inb_r ?_
          refine then_r ?_
          obtain rfl := Option.some.inj h15
          exact round_r ⟨rfl, ends_r (.bool false) (by kernel_rfl) Sub.rfl⟩
        · have h16 := cond_f b14 h13
          refine awp_skip ?_
          refine inb_n ?_
          refine then_n ?_
          refine awp_reg [] [1, 2, 15, 16, 17] 0 ⟨32, [(1, sL 2 c_TACL a1), (2, .fn 37 []), (15, sL 2 c_TACL a0), (16, .int .i64 (a0.length : Int)), (17, .int .i64 (wr .i64 (p1 + 1)))], []⟩ [] [] (by kernel_rfl) nil_all trivial ?_
          obtain rfl := Option.some.inj h16
          exact round_n (le_rfl)
      · have h7 := cond_f b5 h4
        refine awp_exit ?_
        refine then_e ?_
        obtain rfl := Option.some.inj h7
        exact round_e ⟨rfl, le_keep' [] (by kernel_rfl)⟩
    · intro e19 s20 o21
      rcases y4 with g5 | y6
      · have h22 := elim_l h18
        obtain ⟨rfl, l24⟩ := o21
        refine inb_here ?_
        refine then_le (s' := ⟨32, [], []⟩) (l24) ?_
        refine awp_seq ?_
        refine awp_reg [] [6] 0 ⟨32, [(6, .bool true)], []⟩ [] [] (by kernel_rfl) nil_all trivial ?_
        refine then_n ?_
        refine awp_ret ?_
        obtain rfl := Option.some.inj h22
        exact ends_r (.bool true) (by kernel_rfl) Sub.rfl
      · have h23 := elim_r h18
        obtain ⟨rfl, n25⟩ := o21
        refine inb_r ?_
        refine then_r ?_
        obtain rfl := Option.some.inj h23
        exact n25

/- slices.Equal[[]netverify/api.Translation,netverify/api.Translation] -/
noncomputable def M.slices_Equal_api_Translation_api_Translation_l1 (a0 : List TTranslation) (a1 : List TTranslation) (p1 : Int) : Option (Int ⊕ (Unit ⊕ Bool)) :=
  bif decide (p1 < (a0.length : Int)) then (gd [decide (0 ≤ p1), decide (p1 < (a0.length : Int)), decide (0 ≤ p1), decide (p1 < (a1.length : Int))] (bif !((((a0.getD p1.toNat default).fKind) == ((a1.getD p1.toNat default).fKind)) && ((((a0.getD p1.toNat default).fInside) == ((a1.getD p1.toNat default).fInside)) && ((((a0.getD p1.toNat default).fOutside) == ((a1.getD p1.toNat default).fOutside)) && ((((a0.getD p1.toNat default).fProto) == ((a1.getD p1.toNat default).fProto)) && ((((a0.getD p1.toNat default).fInsidePort) == ((a1.getD p1.toNat default).fInsidePort)) && ((((a0.getD p1.toNat default).fOutsidePort) == ((a1.getD p1.toNat default).fOutsidePort)) && (strEq ((a0.getD p1.toNat default).fList) ((a1.getD p1.toNat default).fList) && ((((a0.getD p1.toNat default).fLo) == ((a1.getD p1.toNat default).fLo)) && ((((a0.getD p1.toNat default).fHi) == ((a1.getD p1.toNat default).fHi)) && true))))))))) then (some (.inr (.inr false))) else (some (.inl (wr .i64 (p1 + 1)))))) else (some (.inr (.inl ())))
noncomputable def M.slices_Equal_api_Translation_api_Translation (a0 : List TTranslation) (a1 : List TTranslation) : Option Bool :=
  bif (a0.length : Int) != (a1.length : Int) then (some false) else ((loopM (M.slices_Equal_api_Translation_api_Translation_l1 a0 a1) 0).bind fun y3 => Sum.elim (fun g4 => some true) (fun y5 => some y5) y3)
theorem slices_Equal_api_Translation_api_Translation_ok (a0 : List TTranslation) (a1 : List TTranslation) (r : Bool) (h : M.slices_Equal_api_Translation_api_Translation a0 a1 = some r) : Fn Try.prog 39 [sL 9 c_TTranslation a0, sL 9 c_TTranslation a1] (.pure (.bool r)) := by
  unfold M.slices_Equal_api_Translation_api_Translation at h
  refine fn_pure Try.func39 rfl (by kernel_rfl) ?_
  refine awp_seq ?_
  refine awp_reg [] [0, 1] 0 ⟨26, [(0, sL 9 c_TTranslation a0), (1, sL 9 c_TTranslation a1)], []⟩ [] [] (by kernel_rfl) nil_all trivial ?_
  refine then_n ?_
  refine awp_seq ?_
  refine awp_seq ?_
  refine awp_reg [] [0, 1, 10] 0 ⟨26, [(0, sL 9 c_TTranslation a0), (1, sL 9 c_TTranslation a1), (10, .bool ((a0.length : Int) != (a1.length : Int)))], []⟩ [] [] (by kernel_rfl) nil_all trivial ?_
  refine then_n ?_
  refine awp_cond (b := (a0.length : Int) != (a1.length : Int)) (by kernel_rfl) (fun b1 => ?_) (fun b1 => ?_)
  · have h2 := cond_t b1 h
    refine awp_seq ?_
    refine awp_reg [] [4] 0 ⟨26, [(4, .bool false)], []⟩ [] [] (by kernel_rfl) nil_all trivial ?_
    refine then_n ?_
    refine awp_ret ?_
    refine then_r ?_
    obtain rfl := Option.some.inj h2
    exact ends_r (.bool false) (by kernel_rfl) Sub.rfl
  · have h3 := cond_f b1 h
    refine awp_skip ?_
    refine then_n ?_
    refine awp_seq ?_
    refine awp_seq ?_
    refine awp_reg [] [0, 1, 12, 13] 0 ⟨26, [(0, sL 9 c_TTranslation a0), (1, sL 9 c_TTranslation a1), (12, .int .i64 (a0.length : Int)), (13, .int .i64 0)], []⟩ [] [] (by kernel_rfl) nil_all trivial ?_
    refine then_n ?_
    refine awp_block ?_
    obtain ⟨y3, q13, h14⟩ := bind_some h3
    refine awp_le (s' := ⟨26, [(0, sL 9 c_TTranslation a0), (1, sL 9 c_TTranslation a1), (12, .int .i64 (a0.length : Int)), (13, .int .i64 0)], []⟩) (le_rfl) ?_
    refine awp_mono (awp_loop (f := M.slices_Equal_api_Translation_api_Translation_l1 a0 a1) (S := fun (p1 : Int) => ⟨26, [(0, sL 9 c_TTranslation a0), (1, sL 9 c_TTranslation a1), (12, .int .i64 (a0.length : Int)), (13, .int .i64 p1)], []⟩) (O := (Sum.elim (fun z => OutE 0 (fun z => ⟨26, [], []⟩) z) (fun z => OutR Try.prog Try.f39 (.bool z)))) ?_ (x := 0) (y := y3) (loopM_iter q13)) ?_
    · intro p1 y2 h4
      unfold M.slices_Equal_api_Translation_api_Translation_l1 at h4
      refine awp_seq ?_
      refine awp_reg [] [0, 1, 12, 13, 14] 0 ⟨26, [(0, sL 9 c_TTranslation a0), (1, sL 9 c_TTranslation a1), (12, .int .i64 (a0.length : Int)), (13, .int .i64 p1), (14, .bool (decide (p1 < (a0.length : Int))))], []⟩ [] [] (by kernel_rfl) nil_all trivial ?_
      refine then_n ?_
      refine awp_seq ?_
      refine awp_cond (b := decide (p1 < (a0.length : Int))) (by kernel_rfl) (fun b5 => ?_) (fun b5 => ?_)
      · have h6 := cond_t b5 h4
        refine awp_skip ?_
        refine then_n ?_
        refine awp_seq ?_
        refine awp_block ?_
        refine awp_seq ?_
        refine awp_reg [] [0, 1, 5, 12, 13] 0 ⟨26, [(0, sL 9 c_TTranslation a0), (1, sL 9 c_TTranslation a1), (5, .int .i64 p1), (12, .int .i64 (a0.length : Int)), (13, .int .i64 p1)], []⟩ [] [] (by kernel_rfl) nil_all trivial ?_
        refine then_n ?_
        refine awp_seq ?_
        obtain ⟨c8, h9⟩ := gd_some h6
        refine awp_reg [] [0, 1, 12, 13, 24] 0 ⟨26, [(0, sL 9 c_TTranslation a0), (1, sL 9 c_TTranslation a1), (12, .int .i64 (a0.length : Int)), (13, .int .i64 p1), (24, .bool (!((((a0.getD p1.toNat default).fKind) == ((a1.getD p1.toNat default).fKind)) && ((((a0.getD p1.toNat default).fInside) == ((a1.getD p1.toNat default).fInside)) && ((((a0.getD p1.toNat default).fOutside) == ((a1.getD p1.toNat default).fOutside)) && ((((a0.getD p1.toNat default).fProto) == ((a1.getD p1.toNat default).fProto)) && ((((a0.getD p1.toNat default).fInsidePort) == ((a1.getD p1.toNat default).fInsidePort)) && ((((a0.getD p1.toNat default).fOutsidePort) == ((a1.getD p1.toNat default).fOutsidePort)) && (strEq ((a0.getD p1.toNat default).fList) ((a1.getD p1.toNat default).fList) && ((((a0.getD p1.toNat default).fLo) == ((a1.getD p1.toNat default).fLo)) && ((((a0.getD p1.toNat default).fHi) == ((a1.getD p1.toNat default).fHi)) && true)))))))))))], []⟩ [decide (0 ≤ p1), decide (p1 < (a0.length : Int)), decide (0 ≤ p1), decide (p1 < (a1.length : Int))] [] (by kernel_rfl) c8 trivial ?_
        refine then_n ?_
        refine awp_cond (b := !((((a0.getD p1.toNat default).fKind) == ((a1.getD p1.toNat default).fKind)) && ((((a0.getD p1.toNat default).fInside) == ((a1.getD p1.toNat default).fInside)) && ((((a0.getD p1.toNat default).fOutside) == ((a1.getD p1.toNat default).fOutside)) && ((((a0.getD p1.toNat default).fProto) == ((a1.getD p1.toNat default).fProto)) && ((((a0.getD p1.toNat default).fInsidePort) == ((a1.getD p1.toNat default).fInsidePort)) && ((((a0.getD p1.toNat default).fOutsidePort) == ((a1.getD p1.toNat default).fOutsidePort)) && (strEq ((a0.getD p1.toNat default).fList) ((a1.getD p1.toNat default).fList) && ((((a0.getD p1.toNat default).fLo) == ((a1.getD p1.toNat default).fLo)) && ((((a0.getD p1.toNat default).fHi) == ((a1.getD p1.toNat default).fHi)) && true)))))))))) (by kernel_rfl) (fun b10 => ?_) (fun b10 => ?_)
        · have h11 := cond_t b10 h9
          refine awp_seq ?_
          refine awp_reg [] [4] 0 ⟨26, [(4, .bool false)], []⟩ [] [] (by kernel_rfl) nil_all trivial ?_
          refine then_n ?_
          refine awp_ret ?_
          refine inb_r ?_
          refine then_r ?_
          obtain rfl := Option.some.inj h11
          exact round_r ⟨rfl, ends_r (.bool false) (by kernel_rfl) Sub.rfl⟩
        · have h12 := cond_f b10 h9
          refine awp_skip ?_
          refine inb_n ?_
          refine then_n ?_
          refine awp_reg [] [0, 1, 12, 13] 0 ⟨26, [(0, sL 9 c_TTranslation a0), (1, sL 9 c_TTranslation a1), (12, .int .i64 (a0.length : Int)), (13, .int .i64 (wr .i64 (p1 + 1)))], []⟩ [] [] (by kernel_rfl) nil_all trivial ?_
          obtain rfl := Option.some.inj h12
          exact round_n (le_rfl)
      · have h7 := cond_f b5 h4
        refine awp_exit ?_
        refine then_e ?_
        obtain rfl := Option.some.inj h7
        exact round_e ⟨rfl, le_keep' [] (by kernel_rfl)⟩
    · intro e15 s16 o17
      rcases y3 with g4 | y5
      · have h18 := elim_l h14
        obtain ⟨rfl, l20⟩ := o17
        refine inb_here ?_
        refine then_le (s' := ⟨26, [], []⟩) (l20) ?_
        refine awp_seq ?_
        refine awp_reg [] [4] 0 ⟨26, [(4, .bool true)], []⟩ [] [] (by kernel_rfl) nil_all trivial ?_
        refine then_n ?_
        refine awp_ret ?_
        obtain rfl := Option.some.inj h18
        exact ends_r (.bool true) (by kernel_rfl) Sub.rfl
      · have h19 := elim_r h14
        obtain ⟨rfl, n21⟩ := o17
        refine inb_r ?_
        refine then_r ?_
        obtain rfl := Option.some.inj h19
        exact n21

/- slices.Equal[[]netverify/api.StaticRoute,netverify/api.StaticRoute] -/
noncomputable def M.slices_Equal_api_StaticRoute_api_StaticRoute_l1 (a0 : List TStaticRoute) (a1 : List TStaticRoute) (p1 : Int) : Option (Int ⊕ (Unit ⊕ Bool)) :=
  bif decide (p1 < (a0.length : Int)) then (gd [decide (0 ≤ p1), decide (p1 < (a0.length : Int)), decide (0 ≤ p1), decide (p1 < (a1.length : Int))] (bif !((((((a0.getD p1.toNat default).fPrefix).fAddr) == (((a1.getD p1.toNat default).fPrefix).fAddr)) && (((((a0.getD p1.toNat default).fPrefix).fLen) == (((a1.getD p1.toNat default).fPrefix).fLen)) && true)) && ((((a0.getD p1.toNat default).fNext) == ((a1.getD p1.toNat default).fNext)) && (strEq ((a0.getD p1.toNat default).fIface) ((a1.getD p1.toNat default).fIface) && ((((a0.getD p1.toNat default).fDiscard) == ((a1.getD p1.toNat default).fDiscard)) && ((((a0.getD p1.toNat default).fAdmin) == ((a1.getD p1.toNat default).fAdmin)) && ((((a0.getD p1.toNat default).fTag) == ((a1.getD p1.toNat default).fTag)) && true)))))) then (some (.inr (.inr false))) else (some (.inl (wr .i64 (p1 + 1)))))) else (some (.inr (.inl ())))
noncomputable def M.slices_Equal_api_StaticRoute_api_StaticRoute (a0 : List TStaticRoute) (a1 : List TStaticRoute) : Option Bool :=
  bif (a0.length : Int) != (a1.length : Int) then (some false) else ((loopM (M.slices_Equal_api_StaticRoute_api_StaticRoute_l1 a0 a1) 0).bind fun y3 => Sum.elim (fun g4 => some true) (fun y5 => some y5) y3)
theorem slices_Equal_api_StaticRoute_api_StaticRoute_ok (a0 : List TStaticRoute) (a1 : List TStaticRoute) (r : Bool) (h : M.slices_Equal_api_StaticRoute_api_StaticRoute a0 a1 = some r) : Fn Try.prog 40 [sL 7 c_TStaticRoute a0, sL 7 c_TStaticRoute a1] (.pure (.bool r)) := by
  unfold M.slices_Equal_api_StaticRoute_api_StaticRoute at h
  refine fn_pure Try.func40 rfl (by kernel_rfl) ?_
  refine awp_seq ?_
  refine awp_reg [] [0, 1] 0 ⟨26, [(0, sL 7 c_TStaticRoute a0), (1, sL 7 c_TStaticRoute a1)], []⟩ [] [] (by kernel_rfl) nil_all trivial ?_
  refine then_n ?_
  refine awp_seq ?_
  refine awp_seq ?_
  refine awp_reg [] [0, 1, 10] 0 ⟨26, [(0, sL 7 c_TStaticRoute a0), (1, sL 7 c_TStaticRoute a1), (10, .bool ((a0.length : Int) != (a1.length : Int)))], []⟩ [] [] (by kernel_rfl) nil_all trivial ?_
  refine then_n ?_
  refine awp_cond (b := (a0.length : Int) != (a1.length : Int)) (by kernel_rfl) (fun b1 => ?_) (fun b1 => ?_)
  · have h2 := cond_t b1 h
    refine awp_seq ?_
    refine awp_reg [] [4] 0 ⟨26, [(4, .bool false)], []⟩ [] [] (by kernel_rfl) nil_all trivial ?_
    refine then_n ?_
    refine awp_ret ?_
    refine then_r ?_
    obtain rfl := Option.some.inj h2
    exact ends_r (.bool false) (by kernel_rfl) Sub.rfl
  · have h3 := cond_f b1 h
    refine awp_skip ?_
    refine then_n ?_
    refine awp_seq ?_
    refine awp_seq ?_
    refine awp_reg [] [0, 1, 12, 13] 0 ⟨26, [(0, sL 7 c_TStaticRoute a0), (1, sL 7 c_TStaticRoute a1), (12, .int .i64 (a0.length : Int)), (13, .int .i64 0)], []⟩ [] [] (by kernel_rfl) nil_all trivial ?_
    refine then_n ?_
    refine awp_block ?_
    obtain ⟨y3, q13, h14⟩ := bind_some h3
    refine awp_le (s' := ⟨26, [(0, sL 7 c_TStaticRoute a0), (1, sL 7 c_TStaticRoute a1), (12, .int .i64 (a0.length : Int)), (13, .int .i64 0)], []⟩) (le_rfl) ?_
    refine awp_mono (awp_loop (f := M.slices_Equal_api_StaticRoute_api_StaticRoute_l1 a0 a1) (S := fun (p1 : Int) => ⟨26, [(0, sL 7 c_TStaticRoute a0), (1, sL 7 c_TStaticRoute a1), (12, .int .i64 (a0.length : Int)), (13, .int .i64 p1)], []⟩) (O := (Sum.elim (fun z => OutE 0 (fun z => ⟨26, [], []⟩) z) (fun z => OutR Try.prog Try.f40 (.bool z)))) ?_ (x := 0) (y := y3) (loopM_iter q13)) ?_
    · intro p1 y2 h4
      unfold M.slices_Equal_api_StaticRoute_api_StaticRoute_l1 at h4
      refine awp_seq ?_
      refine awp_reg [] [0, 1, 12, 13, 14] 0 ⟨26, [(0, sL 7 c_TStaticRoute a0), (1, sL 7 c_TStaticRoute a1), (12, .int .i64 (a0.length : Int)), (13, .int .i64 p1), (14, .bool (decide (p1 < (a0.length : Int))))], []⟩ [] [] (by kernel_rfl) nil_all trivial ?_
      refine then_n ?_
      refine awp_seq ?_
      refine awp_cond (b := decide (p1 < (a0.length : Int))) (by kernel_rfl) (fun b5 => ?_) (fun b5 => ?_)
      · have h6 := cond_t b5 h4
        refine awp_skip ?_
        refine then_n ?_
        refine awp_seq ?_
        refine awp_block ?_
        refine awp_seq ?_
        refine awp_reg [] [0, 1, 5, 12, 13] 0 ⟨26, [(0, sL 7 c_TStaticRoute a0), (1, sL 7 c_TStaticRoute a1), (5, .int .i64 p1), (12, .int .i64 (a0.length : Int)), (13, .int .i64 p1)], []⟩ [] [] (by kernel_rfl) nil_all trivial ?_
        refine then_n ?_
        refine awp_seq ?_
        obtain ⟨c8, h9⟩ := gd_some h6
        refine awp_reg [] [0, 1, 12, 13, 24] 0 ⟨26, [(0, sL 7 c_TStaticRoute a0), (1, sL 7 c_TStaticRoute a1), (12, .int .i64 (a0.length : Int)), (13, .int .i64 p1), (24, .bool (!((((((a0.getD p1.toNat default).fPrefix).fAddr) == (((a1.getD p1.toNat default).fPrefix).fAddr)) && (((((a0.getD p1.toNat default).fPrefix).fLen) == (((a1.getD p1.toNat default).fPrefix).fLen)) && true)) && ((((a0.getD p1.toNat default).fNext) == ((a1.getD p1.toNat default).fNext)) && (strEq ((a0.getD p1.toNat default).fIface) ((a1.getD p1.toNat default).fIface) && ((((a0.getD p1.toNat default).fDiscard) == ((a1.getD p1.toNat default).fDiscard)) && ((((a0.getD p1.toNat default).fAdmin) == ((a1.getD p1.toNat default).fAdmin)) && ((((a0.getD p1.toNat default).fTag) == ((a1.getD p1.toNat default).fTag)) && true))))))))], []⟩ [decide (0 ≤ p1), decide (p1 < (a0.length : Int)), decide (0 ≤ p1), decide (p1 < (a1.length : Int))] [] (by kernel_rfl) c8 trivial ?_
        refine then_n ?_
        refine awp_cond (b := !((((((a0.getD p1.toNat default).fPrefix).fAddr) == (((a1.getD p1.toNat default).fPrefix).fAddr)) && (((((a0.getD p1.toNat default).fPrefix).fLen) == (((a1.getD p1.toNat default).fPrefix).fLen)) && true)) && ((((a0.getD p1.toNat default).fNext) == ((a1.getD p1.toNat default).fNext)) && (strEq ((a0.getD p1.toNat default).fIface) ((a1.getD p1.toNat default).fIface) && ((((a0.getD p1.toNat default).fDiscard) == ((a1.getD p1.toNat default).fDiscard)) && ((((a0.getD p1.toNat default).fAdmin) == ((a1.getD p1.toNat default).fAdmin)) && ((((a0.getD p1.toNat default).fTag) == ((a1.getD p1.toNat default).fTag)) && true))))))) (by kernel_rfl) (fun b10 => ?_) (fun b10 => ?_)
        · have h11 := cond_t b10 h9
          refine awp_seq ?_
          refine awp_reg [] [4] 0 ⟨26, [(4, .bool false)], []⟩ [] [] (by kernel_rfl) nil_all trivial ?_
          refine then_n ?_
          refine awp_ret ?_
          refine inb_r ?_
          refine then_r ?_
          obtain rfl := Option.some.inj h11
          exact round_r ⟨rfl, ends_r (.bool false) (by kernel_rfl) Sub.rfl⟩
        · have h12 := cond_f b10 h9
          refine awp_skip ?_
          refine inb_n ?_
          refine then_n ?_
          refine awp_reg [] [0, 1, 12, 13] 0 ⟨26, [(0, sL 7 c_TStaticRoute a0), (1, sL 7 c_TStaticRoute a1), (12, .int .i64 (a0.length : Int)), (13, .int .i64 (wr .i64 (p1 + 1)))], []⟩ [] [] (by kernel_rfl) nil_all trivial ?_
          obtain rfl := Option.some.inj h12
          exact round_n (le_rfl)
      · have h7 := cond_f b5 h4
        refine awp_exit ?_
        refine then_e ?_
        obtain rfl := Option.some.inj h7
        exact round_e ⟨rfl, le_keep' [] (by kernel_rfl)⟩
    · intro e15 s16 o17
      rcases y3 with g4 | y5
      · have h18 := elim_l h14
        obtain ⟨rfl, l20⟩ := o17
        refine inb_here ?_
        refine then_le (s' := ⟨26, [], []⟩) (l20) ?_
        refine awp_seq ?_
        refine awp_reg [] [4] 0 ⟨26, [(4, .bool true)], []⟩ [] [] (by kernel_rfl) nil_all trivial ?_
        refine then_n ?_
        refine awp_ret ?_
        obtain rfl := Option.some.inj h18
        exact ends_r (.bool true) (by kernel_rfl) Sub.rfl
      · have h19 := elim_r h14
        obtain ⟨rfl, n21⟩ := o17
        refine inb_r ?_
        refine then_r ?_
        obtain rfl := Option.some.inj h19
        exact n21

/- slices.Equal[[]netverify/api.AreaRange,netverify/api.AreaRange] -/
noncomputable def M.slices_Equal_api_AreaRange_api_AreaRange_l1 (a0 : List TAreaRange) (a1 : List TAreaRange) (p1 : Int) : Option (Int ⊕ (Unit ⊕ Bool)) :=
  bif decide (p1 < (a0.length : Int)) then (gd [decide (0 ≤ p1), decide (p1 < (a0.length : Int)), decide (0 ≤ p1), decide (p1 < (a1.length : Int))] (bif !((((a0.getD p1.toNat default).fArea) == ((a1.getD p1.toNat default).fArea)) && ((((((a0.getD p1.toNat default).fPrefix).fAddr) == (((a1.getD p1.toNat default).fPrefix).fAddr)) && (((((a0.getD p1.toNat default).fPrefix).fLen) == (((a1.getD p1.toNat default).fPrefix).fLen)) && true)) && true)) then (some (.inr (.inr false))) else (some (.inl (wr .i64 (p1 + 1)))))) else (some (.inr (.inl ())))
noncomputable def M.slices_Equal_api_AreaRange_api_AreaRange (a0 : List TAreaRange) (a1 : List TAreaRange) : Option Bool :=
  bif (a0.length : Int) != (a1.length : Int) then (some false) else ((loopM (M.slices_Equal_api_AreaRange_api_AreaRange_l1 a0 a1) 0).bind fun y3 => Sum.elim (fun g4 => some true) (fun y5 => some y5) y3)
theorem slices_Equal_api_AreaRange_api_AreaRange_ok (a0 : List TAreaRange) (a1 : List TAreaRange) (r : Bool) (h : M.slices_Equal_api_AreaRange_api_AreaRange a0 a1 = some r) : Fn Try.prog 73 [sL 3 c_TAreaRange a0, sL 3 c_TAreaRange a1] (.pure (.bool r)) := by
  unfold M.slices_Equal_api_AreaRange_api_AreaRange at h
  refine fn_pure Try.func73 rfl (by kernel_rfl) ?_
  refine awp_seq ?_
  refine awp_reg [] [0, 1] 0 ⟨26, [(0, sL 3 c_TAreaRange a0), (1, sL 3 c_TAreaRange a1)], []⟩ [] [] (by kernel_rfl) nil_all trivial ?_
  refine then_n ?_
  refine awp_seq ?_
  refine awp_seq ?_
  refine awp_reg [] [0, 1, 10] 0 ⟨26, [(0, sL 3 c_TAreaRange a0), (1, sL 3 c_TAreaRange a1), (10, .bool ((a0.length : Int) != (a1.length : Int)))], []⟩ [] [] (by kernel_rfl) nil_all trivial ?_
  refine then_n ?_
  refine awp_cond (b := (a0.length : Int) != (a1.length : Int)) (by kernel_rfl) (fun b1 => ?_) (fun b1 => ?_)
  · have h2 := cond_t b1 h
    refine awp_seq ?_
    refine awp_reg [] [4] 0 ⟨26, [(4, .bool false)], []⟩ [] [] (by kernel_rfl) nil_all trivial ?_
    refine then_n ?_
    refine awp_ret ?_
    refine then_r ?_
    obtain rfl := Option.some.inj h2
    exact ends_r (.bool false) (by kernel_rfl) Sub.rfl
  · have h3 := cond_f b1 h
    refine awp_skip ?_
    refine then_n ?_
    refine awp_seq ?_
    refine awp_seq ?_
    refine awp_reg [] [0, 1, 12, 13] 0 ⟨26, [(0, sL 3 c_TAreaRange a0), (1, sL 3 c_TAreaRange a1), (12, .int .i64 (a0.length : Int)), (13, .int .i64 0)], []⟩ [] [] (by kernel_rfl) nil_all trivial ?_
    refine then_n ?_
    refine awp_block ?_
    obtain ⟨y3, q13, h14⟩ := bind_some h3
    refine awp_le (s' := ⟨26, [(0, sL 3 c_TAreaRange a0), (1, sL 3 c_TAreaRange a1), (12, .int .i64 (a0.length : Int)), (13, .int .i64 0)], []⟩) (le_rfl) ?_
    refine awp_mono (awp_loop (f := M.slices_Equal_api_AreaRange_api_AreaRange_l1 a0 a1) (S := fun (p1 : Int) => ⟨26, [(0, sL 3 c_TAreaRange a0), (1, sL 3 c_TAreaRange a1), (12, .int .i64 (a0.length : Int)), (13, .int .i64 p1)], []⟩) (O := (Sum.elim (fun z => OutE 0 (fun z => ⟨26, [], []⟩) z) (fun z => OutR Try.prog Try.f73 (.bool z)))) ?_ (x := 0) (y := y3) (loopM_iter q13)) ?_
    · intro p1 y2 h4
      unfold M.slices_Equal_api_AreaRange_api_AreaRange_l1 at h4
      refine awp_seq ?_
      refine awp_reg [] [0, 1, 12, 13, 14] 0 ⟨26, [(0, sL 3 c_TAreaRange a0), (1, sL 3 c_TAreaRange a1), (12, .int .i64 (a0.length : Int)), (13, .int .i64 p1), (14, .bool (decide (p1 < (a0.length : Int))))], []⟩ [] [] (by kernel_rfl) nil_all trivial ?_
      refine then_n ?_
      refine awp_seq ?_
      refine awp_cond (b := decide (p1 < (a0.length : Int))) (by kernel_rfl) (fun b5 => ?_) (fun b5 => ?_)
      · have h6 := cond_t b5 h4
        refine awp_skip ?_
        refine then_n ?_
        refine awp_seq ?_
        refine awp_block ?_
        refine awp_seq ?_
        refine awp_reg [] [0, 1, 5, 12, 13] 0 ⟨26, [(0, sL 3 c_TAreaRange a0), (1, sL 3 c_TAreaRange a1), (5, .int .i64 p1), (12, .int .i64 (a0.length : Int)), (13, .int .i64 p1)], []⟩ [] [] (by kernel_rfl) nil_all trivial ?_
        refine then_n ?_
        refine awp_seq ?_
        obtain ⟨c8, h9⟩ := gd_some h6
        refine awp_reg [] [0, 1, 12, 13, 24] 0 ⟨26, [(0, sL 3 c_TAreaRange a0), (1, sL 3 c_TAreaRange a1), (12, .int .i64 (a0.length : Int)), (13, .int .i64 p1), (24, .bool (!((((a0.getD p1.toNat default).fArea) == ((a1.getD p1.toNat default).fArea)) && ((((((a0.getD p1.toNat default).fPrefix).fAddr) == (((a1.getD p1.toNat default).fPrefix).fAddr)) && (((((a0.getD p1.toNat default).fPrefix).fLen) == (((a1.getD p1.toNat default).fPrefix).fLen)) && true)) && true))))], []⟩ [decide (0 ≤ p1), decide (p1 < (a0.length : Int)), decide (0 ≤ p1), decide (p1 < (a1.length : Int))] [] (by kernel_rfl) c8 trivial ?_
        refine then_n ?_
        refine awp_cond (b := !((((a0.getD p1.toNat default).fArea) == ((a1.getD p1.toNat default).fArea)) && ((((((a0.getD p1.toNat default).fPrefix).fAddr) == (((a1.getD p1.toNat default).fPrefix).fAddr)) && (((((a0.getD p1.toNat default).fPrefix).fLen) == (((a1.getD p1.toNat default).fPrefix).fLen)) && true)) && true))) (by kernel_rfl) (fun b10 => ?_) (fun b10 => ?_)
        · have h11 := cond_t b10 h9
          refine awp_seq ?_
          refine awp_reg [] [4] 0 ⟨26, [(4, .bool false)], []⟩ [] [] (by kernel_rfl) nil_all trivial ?_
          refine then_n ?_
          refine awp_ret ?_
          refine inb_r ?_
          refine then_r ?_
          obtain rfl := Option.some.inj h11
          exact round_r ⟨rfl, ends_r (.bool false) (by kernel_rfl) Sub.rfl⟩
        · have h12 := cond_f b10 h9
          refine awp_skip ?_
          refine inb_n ?_
          refine then_n ?_
          refine awp_reg [] [0, 1, 12, 13] 0 ⟨26, [(0, sL 3 c_TAreaRange a0), (1, sL 3 c_TAreaRange a1), (12, .int .i64 (a0.length : Int)), (13, .int .i64 (wr .i64 (p1 + 1)))], []⟩ [] [] (by kernel_rfl) nil_all trivial ?_
          obtain rfl := Option.some.inj h12
          exact round_n (le_rfl)
      · have h7 := cond_f b5 h4
        refine awp_exit ?_
        refine then_e ?_
        obtain rfl := Option.some.inj h7
        exact round_e ⟨rfl, le_keep' [] (by kernel_rfl)⟩
    · intro e15 s16 o17
      rcases y3 with g4 | y5
      · have h18 := elim_l h14
        obtain ⟨rfl, l20⟩ := o17
        refine inb_here ?_
        refine then_le (s' := ⟨26, [], []⟩) (l20) ?_
        refine awp_seq ?_
        refine awp_reg [] [4] 0 ⟨26, [(4, .bool true)], []⟩ [] [] (by kernel_rfl) nil_all trivial ?_
        refine then_n ?_
        refine awp_ret ?_
        obtain rfl := Option.some.inj h18
        exact ends_r (.bool true) (by kernel_rfl) Sub.rfl
      · have h19 := elim_r h14
        obtain ⟨rfl, n21⟩ := o17
        refine inb_r ?_
        refine then_r ?_
        obtain rfl := Option.some.inj h19
        exact n21

/- slices.Equal[[]netverify/api.Redist,netverify/api.Redist] -/
noncomputable def M.slices_Equal_api_Redist_api_Redist_l1 (a0 : List TRedist) (a1 : List TRedist) (p1 : Int) : Option (Int ⊕ (Unit ⊕ Bool)) :=
  bif decide (p1 < (a0.length : Int)) then (gd [decide (0 ≤ p1), decide (p1 < (a0.length : Int)), decide (0 ≤ p1), decide (p1 < (a1.length : Int))] (bif !((((a0.getD p1.toNat default).fFrom) == ((a1.getD p1.toNat default).fFrom)) && ((((a0.getD p1.toNat default).fMetric) == ((a1.getD p1.toNat default).fMetric)) && ((((a0.getD p1.toNat default).fTag) == ((a1.getD p1.toNat default).fTag)) && (strEq ((a0.getD p1.toNat default).fMap) ((a1.getD p1.toNat default).fMap) && ((((a0.getD p1.toNat default).fType) == ((a1.getD p1.toNat default).fType)) && true))))) then (some (.inr (.inr false))) else (some (.inl (wr .i64 (p1 + 1)))))) else (some (.inr (.inl ())))
noncomputable def M.slices_Equal_api_Redist_api_Redist (a0 : List TRedist) (a1 : List TRedist) : Option Bool :=
  bif (a0.length : Int) != (a1.length : Int) then (some false) else ((loopM (M.slices_Equal_api_Redist_api_Redist_l1 a0 a1) 0).bind fun y3 => Sum.elim (fun g4 => some true) (fun y5 => some y5) y3)
theorem slices_Equal_api_Redist_api_Redist_ok (a0 : List TRedist) (a1 : List TRedist) (r : Bool) (h : M.slices_Equal_api_Redist_api_Redist a0 a1 = some r) : Fn Try.prog 74 [sL 5 c_TRedist a0, sL 5 c_TRedist a1] (.pure (.bool r)) := by
  unfold M.slices_Equal_api_Redist_api_Redist at h
  refine fn_pure Try.func74 rfl (by kernel_rfl) ?_
  refine awp_seq ?_
  refine awp_reg [] [0, 1] 0 ⟨26, [(0, sL 5 c_TRedist a0), (1, sL 5 c_TRedist a1)], []⟩ [] [] (by kernel_rfl) nil_all trivial ?_
  refine then_n ?_
  refine awp_seq ?_
  refine awp_seq ?_
  refine awp_reg [] [0, 1, 10] 0 ⟨26, [(0, sL 5 c_TRedist a0), (1, sL 5 c_TRedist a1), (10, .bool ((a0.length : Int) != (a1.length : Int)))], []⟩ [] [] (by kernel_rfl) nil_all trivial ?_
  refine then_n ?_
  refine awp_cond (b := (a0.length : Int) != (a1.length : Int)) (by kernel_rfl) (fun b1 => ?_) (fun b1 => ?_)
  · have h2 := cond_t b1 h
    refine awp_seq ?_
    refine awp_reg [] [4] 0 ⟨26, [(4, .bool false)], []⟩ [] [] (by kernel_rfl) nil_all trivial ?_
    refine then_n ?_
    refine awp_ret ?_
    refine then_r ?_
    obtain rfl := Option.some.inj h2
    exact ends_r (.bool false) (by kernel_rfl) Sub.rfl
  · have h3 := cond_f b1 h
    refine awp_skip ?_
    refine then_n ?_
    refine awp_seq ?_
    refine awp_seq ?_
    refine awp_reg [] [0, 1, 12, 13] 0 ⟨26, [(0, sL 5 c_TRedist a0), (1, sL 5 c_TRedist a1), (12, .int .i64 (a0.length : Int)), (13, .int .i64 0)], []⟩ [] [] (by kernel_rfl) nil_all trivial ?_
    refine then_n ?_
    refine awp_block ?_
    obtain ⟨y3, q13, h14⟩ := bind_some h3
    refine awp_le (s' := ⟨26, [(0, sL 5 c_TRedist a0), (1, sL 5 c_TRedist a1), (12, .int .i64 (a0.length : Int)), (13, .int .i64 0)], []⟩) (le_rfl) ?_
    refine awp_mono (awp_loop (f := M.slices_Equal_api_Redist_api_Redist_l1 a0 a1) (S := fun (p1 : Int) => ⟨26, [(0, sL 5 c_TRedist a0), (1, sL 5 c_TRedist a1), (12, .int .i64 (a0.length : Int)), (13, .int .i64 p1)], []⟩) (O := (Sum.elim (fun z => OutE 0 (fun z => ⟨26, [], []⟩) z) (fun z => OutR Try.prog Try.f74 (.bool z)))) ?_ (x := 0) (y := y3) (loopM_iter q13)) ?_
    · intro p1 y2 h4
      unfold M.slices_Equal_api_Redist_api_Redist_l1 at h4
      refine awp_seq ?_
      refine awp_reg [] [0, 1, 12, 13, 14] 0 ⟨26, [(0, sL 5 c_TRedist a0), (1, sL 5 c_TRedist a1), (12, .int .i64 (a0.length : Int)), (13, .int .i64 p1), (14, .bool (decide (p1 < (a0.length : Int))))], []⟩ [] [] (by kernel_rfl) nil_all trivial ?_
      refine then_n ?_
      refine awp_seq ?_
      refine awp_cond (b := decide (p1 < (a0.length : Int))) (by kernel_rfl) (fun b5 => ?_) (fun b5 => ?_)
      · have h6 := cond_t b5 h4
        refine awp_skip ?_
        refine then_n ?_
        refine awp_seq ?_
        refine awp_block ?_
        refine awp_seq ?_
        refine awp_reg [] [0, 1, 5, 12, 13] 0 ⟨26, [(0, sL 5 c_TRedist a0), (1, sL 5 c_TRedist a1), (5, .int .i64 p1), (12, .int .i64 (a0.length : Int)), (13, .int .i64 p1)], []⟩ [] [] (by kernel_rfl) nil_all trivial ?_
        refine then_n ?_
        refine awp_seq ?_
        obtain ⟨c8, h9⟩ := gd_some h6
        refine awp_reg [] [0, 1, 12, 13, 24] 0 ⟨26, [(0, sL 5 c_TRedist a0), (1, sL 5 c_TRedist a1), (12, .int .i64 (a0.length : Int)), (13, .int .i64 p1), (24, .bool (!((((a0.getD p1.toNat default).fFrom) == ((a1.getD p1.toNat default).fFrom)) && ((((a0.getD p1.toNat default).fMetric) == ((a1.getD p1.toNat default).fMetric)) && ((((a0.getD p1.toNat default).fTag) == ((a1.getD p1.toNat default).fTag)) && (strEq ((a0.getD p1.toNat default).fMap) ((a1.getD p1.toNat default).fMap) && ((((a0.getD p1.toNat default).fType) == ((a1.getD p1.toNat default).fType)) && true)))))))], []⟩ [decide (0 ≤ p1), decide (p1 < (a0.length : Int)), decide (0 ≤ p1), decide (p1 < (a1.length : Int))] [] (by kernel_rfl) c8 trivial ?_
        refine then_n ?_
        refine awp_cond (b := !((((a0.getD p1.toNat default).fFrom) == ((a1.getD p1.toNat default).fFrom)) && ((((a0.getD p1.toNat default).fMetric) == ((a1.getD p1.toNat default).fMetric)) && ((((a0.getD p1.toNat default).fTag) == ((a1.getD p1.toNat default).fTag)) && (strEq ((a0.getD p1.toNat default).fMap) ((a1.getD p1.toNat default).fMap) && ((((a0.getD p1.toNat default).fType) == ((a1.getD p1.toNat default).fType)) && true)))))) (by kernel_rfl) (fun b10 => ?_) (fun b10 => ?_)
        · have h11 := cond_t b10 h9
          refine awp_seq ?_
          refine awp_reg [] [4] 0 ⟨26, [(4, .bool false)], []⟩ [] [] (by kernel_rfl) nil_all trivial ?_
          refine then_n ?_
          refine awp_ret ?_
          refine inb_r ?_
          refine then_r ?_
          obtain rfl := Option.some.inj h11
          exact round_r ⟨rfl, ends_r (.bool false) (by kernel_rfl) Sub.rfl⟩
        · have h12 := cond_f b10 h9
          refine awp_skip ?_
          refine inb_n ?_
          refine then_n ?_
          refine awp_reg [] [0, 1, 12, 13] 0 ⟨26, [(0, sL 5 c_TRedist a0), (1, sL 5 c_TRedist a1), (12, .int .i64 (a0.length : Int)), (13, .int .i64 (wr .i64 (p1 + 1)))], []⟩ [] [] (by kernel_rfl) nil_all trivial ?_
          obtain rfl := Option.some.inj h12
          exact round_n (le_rfl)
      · have h7 := cond_f b5 h4
        refine awp_exit ?_
        refine then_e ?_
        obtain rfl := Option.some.inj h7
        exact round_e ⟨rfl, le_keep' [] (by kernel_rfl)⟩
    · intro e15 s16 o17
      rcases y3 with g4 | y5
      · have h18 := elim_l h14
        obtain ⟨rfl, l20⟩ := o17
        refine inb_here ?_
        refine then_le (s' := ⟨26, [], []⟩) (l20) ?_
        refine awp_seq ?_
        refine awp_reg [] [4] 0 ⟨26, [(4, .bool true)], []⟩ [] [] (by kernel_rfl) nil_all trivial ?_
        refine then_n ?_
        refine awp_ret ?_
        obtain rfl := Option.some.inj h18
        exact ends_r (.bool true) (by kernel_rfl) Sub.rfl
      · have h19 := elim_r h14
        obtain ⟨rfl, n21⟩ := o17
        refine inb_r ?_
        refine then_r ?_
        obtain rfl := Option.some.inj h19
        exact n21

/- netverify/model.sameLinkState -/
noncomputable def M.model_sameLinkState (a0 : TLinkState) (a1 : TLinkState) : Option Bool :=
  (gc ((a0.fOn == a1.fOn) && (a0.fAdmin == a1.fAdmin)) (M.slices_Equal_api_AreaRange_api_AreaRange a0.fRanges a1.fRanges)).bind fun r1 => (gc (((a0.fOn == a1.fOn) && (a0.fAdmin == a1.fAdmin)) && r1) (M.slices_Equal_api_Redist_api_Redist a0.fRedist a1.fRedist)).bind fun r2 => some ((((a0.fOn == a1.fOn) && (a0.fAdmin == a1.fAdmin)) && r1) && r2)
theorem model_sameLinkState_ok (a0 : TLinkState) (a1 : TLinkState) (r : Bool) (h : M.model_sameLinkState a0 a1 = some r) : Fn Try.prog 41 [.agg (c_TLinkState a0), .agg (c_TLinkState a1)] (.pure (.bool r)) := by
  unfold M.model_sameLinkState at h
  refine fn_pure Try.func41 rfl (by kernel_rfl) ?_
  refine awp_seq ?_
  refine awp_reg [] [2, 3] 2 ⟨31, [(2, .ref 0 0), (3, .ref 1 0)], [.box (c_TLinkState a0), .box (c_TLinkState a1)]⟩ [] [] (by kernel_rfl) nil_all trivial ?_
  refine then_n ?_
  refine awp_seq ?_
  obtain ⟨r1, q1, h2⟩ := bind_some h
  obtain ⟨r2, q3, h4⟩ := bind_some h2
  refine awp_reg [.pure (.bool r1), .pure (.bool r2)] [4] 0 ⟨31, [(4, .bool ((((a0.fOn == a1.fOn) && (a0.fAdmin == a1.fAdmin)) && r1) && r2))], []⟩ [] [⟨(a0.fOn == a1.fOn) && (a0.fAdmin == a1.fAdmin), 73, [sL 3 c_TAreaRange a0.fRanges, sL 3 c_TAreaRange a1.fRanges], .pure (.bool r1)⟩, ⟨((a0.fOn == a1.fOn) && (a0.fAdmin == a1.fAdmin)) && r1, 74, [sL 5 c_TRedist a0.fRedist, sL 5 c_TRedist a1.fRedist], .pure (.bool r2)⟩] (by kernel_rfl) nil_all ⟨fun hg => slices_Equal_api_AreaRange_api_AreaRange_ok a0.fRanges a1.fRanges r1 (gc_some q1 hg), fun hg => slices_Equal_api_Redist_api_Redist_ok a0.fRedist a1.fRedist r2 (gc_some q3 hg), trivial⟩ ?_
  refine then_n ?_
  refine awp_ret ?_
  obtain rfl := Option.some.inj h4
  exact ends_r (.bool ((((a0.fOn == a1.fOn) && (a0.fAdmin == a1.fAdmin)) && r1) && r2)) (by kernel_rfl) Sub.rfl

/- netverify/model.sameDistanceVector -/
noncomputable def M.model_sameDistanceVector (a0 : TDistanceVector) (a1 : TDistanceVector) : Option Bool :=
  (gc ((((a0.fOn == a1.fOn) && (a0.fAdmin == a1.fAdmin)) && (strEq a0.fIn a1.fIn)) && (strEq a0.fOut a1.fOut)) (M.slices_Equal_api_Redist_api_Redist a0.fRedist a1.fRedist)).bind fun r1 => some (((((a0.fOn == a1.fOn) && (a0.fAdmin == a1.fAdmin)) && (strEq a0.fIn a1.fIn)) && (strEq a0.fOut a1.fOut)) && r1)
theorem model_sameDistanceVector_ok (a0 : TDistanceVector) (a1 : TDistanceVector) (r : Bool) (h : M.model_sameDistanceVector a0 a1 = some r) : Fn Try.prog 42 [.agg (c_TDistanceVector a0), .agg (c_TDistanceVector a1)] (.pure (.bool r)) := by
  unfold M.model_sameDistanceVector at h
  refine fn_pure Try.func42 rfl (by kernel_rfl) ?_
  refine awp_seq ?_
  refine awp_reg [] [2, 3] 2 ⟨38, [(2, .ref 0 0), (3, .ref 1 0)], [.box (c_TDistanceVector a0), .box (c_TDistanceVector a1)]⟩ [] [] (by kernel_rfl) nil_all trivial ?_
  refine then_n ?_
  refine awp_seq ?_
  obtain ⟨r1, q1, h2⟩ := bind_some h
  refine awp_reg [.pure (.bool r1)] [4] 0 ⟨38, [(4, .bool (((((a0.fOn == a1.fOn) && (a0.fAdmin == a1.fAdmin)) && (strEq a0.fIn a1.fIn)) && (strEq a0.fOut a1.fOut)) && r1))], []⟩ [] [⟨(((a0.fOn == a1.fOn) && (a0.fAdmin == a1.fAdmin)) && (strEq a0.fIn a1.fIn)) && (strEq a0.fOut a1.fOut), 74, [sL 5 c_TRedist a0.fRedist, sL 5 c_TRedist a1.fRedist], .pure (.bool r1)⟩] (by kernel_rfl) nil_all ⟨fun hg => slices_Equal_api_Redist_api_Redist_ok a0.fRedist a1.fRedist r1 (gc_some q1 hg), trivial⟩ ?_
  refine then_n ?_
  refine awp_ret ?_
  obtain rfl := Option.some.inj h2
  exact ends_r (.bool (((((a0.fOn == a1.fOn) && (a0.fAdmin == a1.fAdmin)) && (strEq a0.fIn a1.fIn)) && (strEq a0.fOut a1.fOut)) && r1)) (by kernel_rfl) Sub.rfl
end Nv
