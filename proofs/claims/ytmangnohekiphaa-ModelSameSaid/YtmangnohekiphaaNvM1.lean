/- The walks: each function computes its mirror. -/
import Derived.Test.YtmangnohekiphaaProg
import Derived.Test.YtmangnohekiphaaNvD1
import Derived.Test.YtmangnohekiphaaNvM1a
import Derived.Test.YtmangnohekiphaaNvDraw11
import Derived.KernelRfl
set_option maxRecDepth 100000
namespace Nv
open Go Go.Proofs
/- netverify/model.checkACLs -/
theorem model_checkACLs_ok (a0 : TRouter) (r : Int) (h : M.model_checkACLs a0 = some r) : Fn Try.prog 65 [.agg (c_TRouter a0)] (.pure (.int .i64 r)) := by
 unfold M.model_checkACLs at h
 refine fn_pure Try.func65 rfl (by kernel_rfl) ?_
 refine awp_seq (rg0 [1] 1 ⟨46, [(1, .ref 0 0)], [.box (c_TRouter a0)]⟩ ?_)
 refine then_n (awp_seq (awp_seq (rg0 [1, 11] 1 ⟨46, [(1, .ref 0 0), (11, .bool (decide ((a0.fACLs.length : Int) > 8)))], [.box (c_TRouter a0)]⟩ ?_)))
 refine then_n ?_
 refine cnd (decide ((a0.fACLs.length : Int) > 8)) (fun b1 => ?_) (fun b1 => ?_)
 have h2 := cond_t b1 h
 refine awp_seq (rg0 [2] 0 ⟨46, [(2, .int .i64 7)], []⟩ ?_)
 refine then_n (awp_ret (then_r ?_))
 obtain rfl := Option.some.inj h2
 exact er0 (.int .i64 7)
 have h3 := cond_f b1 h
 refine awp_skip (then_n (awp_seq (awp_seq (rg0 [1, 13, 14, 15] 1 ⟨46, [(1, .ref 0 0), (13, sL 2 c_TACL a0.fACLs), (14, .int .i64 (a0.fACLs.length : Int)), (15, .int .i64 0)], [.box (c_TRouter a0)]⟩ ?_))))
 refine then_n (awp_block ?_)
 obtain ⟨y11, q37, h38⟩ := bind_some h3
 refine awp_le (s' := ⟨46, [(1, .ref 0 0), (13, sL 2 c_TACL a0.fACLs), (14, .int .i64 (a0.fACLs.length : Int)), (15, .int .i64 0)], [.box (c_TRouter a0)]⟩) (le_rfl) ?_
 refine awp_mono (awp_loop (f := M.model_checkACLs_l1 a0) (S := fun (p1 : Int) => ⟨46, [(1, .ref 0 0), (13, sL 2 c_TACL a0.fACLs), (14, .int .i64 (a0.fACLs.length : Int)), (15, .int .i64 p1)], [.box (c_TRouter a0)]⟩) (O := (Sum.elim (fun z => OutE 0 (fun z => ⟨46, [], []⟩) z) (fun z => OutR Try.prog Try.f65 (.int .i64 z)))) ?_ (x := 0) (y := y11) (loopM_iter q37)) ?_
 intro p1 y2 h4
 unfold M.model_checkACLs_l1 at h4
 refine awp_seq (rg0 [1, 13, 14, 15, 16] 1 ⟨46, [(1, .ref 0 0), (13, sL 2 c_TACL a0.fACLs), (14, .int .i64 (a0.fACLs.length : Int)), (15, .int .i64 p1), (16, .bool (decide (p1 < (a0.fACLs.length : Int))))], [.box (c_TRouter a0)]⟩ ?_)
 refine then_n (awp_seq ?_)
 refine cnd (decide (p1 < (a0.fACLs.length : Int))) (fun b5 => ?_) (fun b5 => ?_)
 have h6 := cond_t b5 h4
 refine awp_skip (then_n (awp_seq (awp_block (awp_seq ?_))))
 obtain ⟨c8, h9⟩ := gd_some h6
 refine rgc [1, 3, 4, 13, 14, 15] 2 ⟨46, [(1, .ref 0 0), (3, .int .i64 p1), (4, .ref 1 0), (13, sL 2 c_TACL a0.fACLs), (14, .int .i64 (a0.fACLs.length : Int)), (15, .int .i64 p1)], [.box (c_TRouter a0), .box (c_TACL (a0.fACLs.getD p1.toNat default))]⟩ [decide (0 ≤ p1), decide (p1 < (a0.fACLs.length : Int))] c8 ?_
 refine then_n (awp_seq (awp_seq ?_))
 obtain ⟨r3, q10, h11⟩ := bind_some h9
 obtain ⟨r4, q12, h13⟩ := bind_some h11
 refine rg [.pure (.int .i64 r3), .pure (.int .i64 r4)] [1, 4, 5, 13, 14, 15] 2 ⟨46, [(1, .ref 0 0), (4, .ref 1 0), (5, .int .i64 r4), (13, sL 2 c_TACL a0.fACLs), (14, .int .i64 (a0.fACLs.length : Int)), (15, .int .i64 p1)], [.box (c_TRouter a0), .box (c_TACL (a0.fACLs.getD p1.toNat default))]⟩ [] [⟨true, 21, [.agg (c_TRouter a0), .str ((a0.fACLs.getD p1.toNat default).fName)], .pure (.int .i64 r3)⟩, ⟨true, 87, [.int .i64 p1, .int .i64 r3, .str ((a0.fACLs.getD p1.toNat default).fName), .int .i64 (((a0.fACLs.getD p1.toNat default).fRules).length : Int), .int .i64 16], .pure (.int .i64 r4)⟩] nil_all ⟨fun _ => model_ACL_ok a0 ((a0.fACLs.getD p1.toNat default).fName) r3 q10, fun _ => model_checkList_ok p1 r3 ((a0.fACLs.getD p1.toNat default).fName) (((a0.fACLs.getD p1.toNat default).fRules).length : Int) 16 r4 q12, trivial⟩ ?_
 refine then_n (awp_seq (rg0 [1, 4, 5, 13, 14, 15, 32] 2 ⟨46, [(1, .ref 0 0), (4, .ref 1 0), (5, .int .i64 r4), (13, sL 2 c_TACL a0.fACLs), (14, .int .i64 (a0.fACLs.length : Int)), (15, .int .i64 p1), (32, .bool (r4 != 0))], [.box (c_TRouter a0), .box (c_TACL (a0.fACLs.getD p1.toNat default))]⟩ ?_))
 refine then_n ?_
 refine cnd (r4 != 0) (fun b14 => ?_) (fun b14 => ?_)
 have h15 := cond_t b14 h13
 refine awp_seq (rg0 [2] 0 ⟨46, [(2, .int .i64 r4)], []⟩ ?_)
 refine then_n (awp_ret (then_r (inb_r (then_r ?_))))
 obtain rfl := Option.some.inj h15
 exact round_r ⟨rfl, er0 (.int .i64 r4)⟩
 have h16 := cond_f b14 h13
 refine awp_skip (then_n (awp_seq (rg0 [1, 13, 14, 15, 35, 36, 37] 1 ⟨46, [(1, .ref 0 0), (13, sL 2 c_TACL a0.fACLs), (14, .int .i64 (a0.fACLs.length : Int)), (15, .int .i64 p1), (35, sL 10 c_TRule ((a0.fACLs.getD p1.toNat default).fRules)), (36, .int .i64 (((a0.fACLs.getD p1.toNat default).fRules).length : Int)), (37, .int .i64 0)], [.box (c_TRouter a0)]⟩ ?_)))
 refine then_n (awp_block ?_)
 obtain ⟨y8, q28, h29⟩ := bind_some h16
 refine awp_le (s' := ⟨46, [(1, .ref 0 0), (13, sL 2 c_TACL a0.fACLs), (14, .int .i64 (a0.fACLs.length : Int)), (15, .int .i64 p1), (35, sL 10 c_TRule ((a0.fACLs.getD p1.toNat default).fRules)), (36, .int .i64 (((a0.fACLs.getD p1.toNat default).fRules).length : Int)), (37, .int .i64 0)], [.box (c_TRouter a0)]⟩) (le_rfl) ?_
 refine awp_mono (awp_loop (f := M.model_checkACLs_l2 a0 p1) (S := fun (p5 : Int) => ⟨46, [(1, .ref 0 0), (13, sL 2 c_TACL a0.fACLs), (14, .int .i64 (a0.fACLs.length : Int)), (15, .int .i64 p1), (35, sL 10 c_TRule ((a0.fACLs.getD p1.toNat default).fRules)), (36, .int .i64 (((a0.fACLs.getD p1.toNat default).fRules).length : Int)), (37, .int .i64 p5)], [.box (c_TRouter a0)]⟩) (O := (Sum.elim (fun z => OutE 2 (fun z => ⟨46, [(1, .ref 0 0), (13, sL 2 c_TACL a0.fACLs), (14, .int .i64 (a0.fACLs.length : Int)), (15, .int .i64 p1)], [.box (c_TRouter a0)]⟩) z) (fun z => OutR Try.prog Try.f65 (.int .i64 z)))) ?_ (x := 0) (y := y8) (loopM_iter q28)) ?_
 intro p5 y6 h17
 unfold M.model_checkACLs_l2 at h17
 refine awp_seq (rg0 [1, 13, 14, 15, 35, 36, 37, 38] 1 ⟨46, [(1, .ref 0 0), (13, sL 2 c_TACL a0.fACLs), (14, .int .i64 (a0.fACLs.length : Int)), (15, .int .i64 p1), (35, sL 10 c_TRule ((a0.fACLs.getD p1.toNat default).fRules)), (36, .int .i64 (((a0.fACLs.getD p1.toNat default).fRules).length : Int)), (37, .int .i64 p5), (38, .bool (decide (p5 < (((a0.fACLs.getD p1.toNat default).fRules).length : Int))))], [.box (c_TRouter a0)]⟩ ?_)
 refine then_n (awp_seq ?_)
 refine cnd (decide (p5 < (((a0.fACLs.getD p1.toNat default).fRules).length : Int))) (fun b18 => ?_) (fun b18 => ?_)
 have h19 := cond_t b18 h17
 refine awp_skip (then_n (awp_seq (awp_block (awp_seq ?_))))
 obtain ⟨c21, h22⟩ := gd_some h19
 refine rgc [1, 7, 13, 14, 15, 35, 36, 37] 2 ⟨46, [(1, .ref 0 0), (7, .ref 1 0), (13, sL 2 c_TACL a0.fACLs), (14, .int .i64 (a0.fACLs.length : Int)), (15, .int .i64 p1), (35, sL 10 c_TRule ((a0.fACLs.getD p1.toNat default).fRules)), (36, .int .i64 (((a0.fACLs.getD p1.toNat default).fRules).length : Int)), (37, .int .i64 p5)], [.box (c_TRouter a0), .box (c_TRule (((a0.fACLs.getD p1.toNat default).fRules).getD p5.toNat default))]⟩ [decide (0 ≤ p5), decide (p5 < (((a0.fACLs.getD p1.toNat default).fRules).length : Int))] c21 ?_
 refine then_n (awp_seq ?_)
 obtain ⟨r7, q23, h24⟩ := bind_some h22
 refine rg [.pure (.bool r7)] [1, 13, 14, 15, 35, 36, 37, 43] 1 ⟨46, [(1, .ref 0 0), (13, sL 2 c_TACL a0.fACLs), (14, .int .i64 (a0.fACLs.length : Int)), (15, .int .i64 p1), (35, sL 10 c_TRule ((a0.fACLs.getD p1.toNat default).fRules)), (36, .int .i64 (((a0.fACLs.getD p1.toNat default).fRules).length : Int)), (37, .int .i64 p5), (43, .bool (!r7))], [.box (c_TRouter a0)]⟩ [] [⟨true, 90, [.agg (c_TRule (((a0.fACLs.getD p1.toNat default).fRules).getD p5.toNat default))], .pure (.bool r7)⟩] nil_all ⟨fun _ => model_rightRule_ok (((a0.fACLs.getD p1.toNat default).fRules).getD p5.toNat default) r7 q23, trivial⟩ ?_
 refine then_n ?_
 refine cnd (!r7) (fun b25 => ?_) (fun b25 => ?_)
 have h26 := cond_t b25 h24
 refine awp_seq (rg0 [2] 0 ⟨46, [(2, .int .i64 1)], []⟩ ?_)
 refine then_n (awp_ret (inb_r (then_r ?_)))
 obtain rfl := Option.some.inj h26
 exact round_r ⟨rfl, er0 (.int .i64 1)⟩
 have h27 := cond_f b25 h24
 refine awp_skip (inb_n (then_n (rg0 [1, 13, 14, 15, 35, 36, 37] 1 ⟨46, [(1, .ref 0 0), (13, sL 2 c_TACL a0.fACLs), (14, .int .i64 (a0.fACLs.length : Int)), (15, .int .i64 p1), (35, sL 10 c_TRule ((a0.fACLs.getD p1.toNat default).fRules)), (36, .int .i64 (((a0.fACLs.getD p1.toNat default).fRules).length : Int)), (37, .int .i64 (wr .i64 (p5 + 1)))], [.box (c_TRouter a0)]⟩ ?_)))
 obtain rfl := Option.some.inj h27
 exact round_n (le_rfl)
 have h20 := cond_f b18 h17
 refine awp_exit (then_e ?_)
 obtain rfl := Option.some.inj h20
 exact round_e ⟨rfl, kp [1, 13, 14, 15]⟩
 intro e30 s31 o32
 rcases y8 with g9 | y10
 have h33 := elim_l h29
 obtain ⟨rfl, l35⟩ := o32
 refine inb_here (inb_n ?_)
 refine then_le (s' := ⟨46, [(1, .ref 0 0), (13, sL 2 c_TACL a0.fACLs), (14, .int .i64 (a0.fACLs.length : Int)), (15, .int .i64 p1)], [.box (c_TRouter a0)]⟩) (l35) ?_
 refine rg0 [1, 13, 14, 15] 1 ⟨46, [(1, .ref 0 0), (13, sL 2 c_TACL a0.fACLs), (14, .int .i64 (a0.fACLs.length : Int)), (15, .int .i64 (wr .i64 (p1 + 1)))], [.box (c_TRouter a0)]⟩ ?_
 obtain rfl := Option.some.inj h33
 exact round_n (le_rfl)
 have h34 := elim_r h29
 obtain ⟨rfl, n36⟩ := o32
 refine inb_r (inb_r (then_r ?_))
 obtain rfl := Option.some.inj h34
 exact round_r ⟨rfl, n36⟩
 have h7 := cond_f b5 h4
 refine awp_exit (then_e ?_)
 obtain rfl := Option.some.inj h7
 exact round_e ⟨rfl, Le.trans (s' := ⟨46, [], [.box (c_TRouter a0)]⟩) (kp []) (le_cut (n := 0) (by kernel_rfl))⟩
 intro e39 s40 o41
 rcases y11 with g12 | y13
 have h42 := elim_l h38
 obtain ⟨rfl, l44⟩ := o41
 refine inb_here ?_
 refine then_le (s' := ⟨46, [], []⟩) (l44) ?_
 refine awp_seq (rg0 [2] 0 ⟨46, [(2, .int .i64 0)], []⟩ ?_)
 refine then_n (awp_ret ?_)
 obtain rfl := Option.some.inj h42
 exact er0 (.int .i64 0)
 have h43 := elim_r h38
 obtain ⟨rfl, n45⟩ := o41
 refine inb_r (then_r ?_)
 obtain rfl := Option.some.inj h43
 exact n45

/- netverify/model.rightTranslation -/
theorem model_rightTranslation_ok (a0 : TTranslation) (r : Bool) (h : M.model_rightTranslation a0 = some r) : Fn Try.prog 91 [.agg (c_TTranslation a0)] (.pure (.bool r)) := by
 unfold M.model_rightTranslation at h
 refine fn_pure Try.func91 rfl (by kernel_rfl) ?_
 refine awp_seq (rg0 [1] 1 ⟨108, [(1, .ref 0 0)], [.box (c_TTranslation a0)]⟩ ?_)
 refine then_n (awp_seq (awp_seq (rg0 [1, 6] 1 ⟨108, [(1, .ref 0 0), (6, .int .i64 a0.fKind)], [.box (c_TTranslation a0)]⟩ ?_)))
 refine then_n (awp_block (awp_seq (rg0 [1, 6, 7] 1 ⟨108, [(1, .ref 0 0), (6, .int .i64 a0.fKind), (7, .bool (a0.fKind == 1))], [.box (c_TTranslation a0)]⟩ ?_)))
 refine then_n ?_
 refine cnd (a0.fKind == 1) (fun b1 => ?_) (fun b1 => ?_)
 have h2 := cond_t b1 h
 refine awp_seq (rg0 [1, 3] 2 ⟨108, [(1, .ref 0 0), (3, .ref 1 0)], [.box (c_TTranslation a0), .box [.int .i64 a0.fKind, .int .u32 a0.fInside, .int .u32 a0.fOutside, .int .i64 0, .int .i64 0, .int .i64 0, .str (⟨#[]⟩ : ByteArray), .int .u32 0, .int .u32 0]]⟩ ?_)
 refine then_n (awp_seq (rg0 [2] 0 ⟨108, [(2, .bool ((((a0.fKind == a0.fKind) && ((a0.fInside == a0.fInside) && ((a0.fOutside == a0.fOutside) && ((a0.fProto == 0) && ((a0.fInsidePort == 0) && ((a0.fOutsidePort == 0) && (strEq a0.fList (⟨#[]⟩ : ByteArray) && ((a0.fLo == 0) && ((a0.fHi == 0) && true))))))))) && (a0.fInside != 0)) && (a0.fOutside != 0)))], []⟩ ?_))
 refine then_n (awp_ret (inb_r (then_r ?_)))
 obtain rfl := Option.some.inj h2
 exact er0 (.bool ((((a0.fKind == a0.fKind) && ((a0.fInside == a0.fInside) && ((a0.fOutside == a0.fOutside) && ((a0.fProto == 0) && ((a0.fInsidePort == 0) && ((a0.fOutsidePort == 0) && (strEq a0.fList (⟨#[]⟩ : ByteArray) && ((a0.fLo == 0) && ((a0.fHi == 0) && true))))))))) && (a0.fInside != 0)) && (a0.fOutside != 0)))
 have h3 := cond_f b1 h
 refine awp_seq (rg0 [1, 6, 29] 1 ⟨108, [(1, .ref 0 0), (6, .int .i64 a0.fKind), (29, .bool (a0.fKind == 2))], [.box (c_TTranslation a0)]⟩ ?_)
 refine then_n ?_
 refine cnd (a0.fKind == 2) (fun b4 => ?_) (fun b4 => ?_)
 have h5 := cond_t b4 h3
 refine awp_seq (rg0 [1, 4] 2 ⟨108, [(1, .ref 0 0), (4, .ref 1 0)], [.box (c_TTranslation a0), .box [.int .i64 a0.fKind, .int .u32 0, .int .u32 0, .int .i64 0, .int .i64 0, .int .i64 0, .str a0.fList, .int .u32 a0.fLo, .int .u32 a0.fHi]]⟩ ?_)
 refine then_n (awp_seq (rg0 [2] 0 ⟨108, [(2, .bool (((((a0.fKind == a0.fKind) && ((a0.fInside == 0) && ((a0.fOutside == 0) && ((a0.fProto == 0) && ((a0.fInsidePort == 0) && ((a0.fOutsidePort == 0) && (strEq a0.fList a0.fList && ((a0.fLo == a0.fLo) && ((a0.fHi == a0.fHi) && true))))))))) && (a0.fLo != 0)) && (decide (a0.fLo ≤ a0.fHi))) && (decide ((wr .u32 (a0.fHi - a0.fLo)) < 8))))], []⟩ ?_))
 refine then_n (awp_ret (inb_r (then_r ?_)))
 obtain rfl := Option.some.inj h5
 exact er0 (.bool (((((a0.fKind == a0.fKind) && ((a0.fInside == 0) && ((a0.fOutside == 0) && ((a0.fProto == 0) && ((a0.fInsidePort == 0) && ((a0.fOutsidePort == 0) && (strEq a0.fList a0.fList && ((a0.fLo == a0.fLo) && ((a0.fHi == a0.fHi) && true))))))))) && (a0.fLo != 0)) && (decide (a0.fLo ≤ a0.fHi))) && (decide ((wr .u32 (a0.fHi - a0.fLo)) < 8))))
 have h6 := cond_f b4 h3
 refine awp_seq (rg0 [1, 63] 1 ⟨108, [(1, .ref 0 0), (63, .bool (a0.fKind == 3))], [.box (c_TTranslation a0)]⟩ ?_)
 refine then_n ?_
 refine cnd (a0.fKind == 3) (fun b7 => ?_) (fun b7 => ?_)
 have h8 := cond_t b7 h6
 refine awp_seq ?_
 obtain ⟨r1, q10, h11⟩ := bind_some h8
 obtain ⟨r2, q12, h13⟩ := bind_some h11
 refine rg [.pure (.bool r1), .pure (.bool r2)] [2] 0 ⟨108, [(2, .bool ((((((((a0.fInside != 0) && (a0.fOutside != 0)) && ((a0.fProto == 6) || (a0.fProto == 17))) && r1) && r2) && (strEq a0.fList (⟨#[]⟩ : ByteArray))) && (a0.fLo == 0)) && (a0.fHi == 0)))], []⟩ [] [⟨((a0.fInside != 0) && (a0.fOutside != 0)) && ((a0.fProto == 6) || (a0.fProto == 17)), 61, [.int .i64 a0.fInsidePort, .int .i64 0, .int .i64 65535], .pure (.bool r1)⟩, ⟨(((a0.fInside != 0) && (a0.fOutside != 0)) && ((a0.fProto == 6) || (a0.fProto == 17))) && r1, 61, [.int .i64 a0.fOutsidePort, .int .i64 0, .int .i64 65535], .pure (.bool r2)⟩] nil_all ⟨fun hg => model_within_ok a0.fInsidePort 0 65535 r1 (gc_some q10 hg), fun hg => model_within_ok a0.fOutsidePort 0 65535 r2 (gc_some q12 hg), trivial⟩ ?_
 refine then_n (awp_ret (inb_r (then_r ?_)))
 obtain rfl := Option.some.inj h13
 exact er0 (.bool ((((((((a0.fInside != 0) && (a0.fOutside != 0)) && ((a0.fProto == 6) || (a0.fProto == 17))) && r1) && r2) && (strEq a0.fList (⟨#[]⟩ : ByteArray))) && (a0.fLo == 0)) && (a0.fHi == 0)))
 have h9 := cond_f b7 h6
 refine awp_skip (inb_n (then_n (awp_seq (rg0 [2] 0 ⟨108, [(2, .bool false)], []⟩ ?_))))
 refine then_n (awp_ret ?_)
 obtain rfl := Option.some.inj h9
 exact er0 (.bool false)

/- netverify/model.checkNAT -/
theorem model_checkNAT_ok (a0 : TRouter) (r : Int) (h : M.model_checkNAT a0 = some r) : Fn Try.prog 66 [.agg (c_TRouter a0)] (.pure (.int .i64 r)) := by
 unfold M.model_checkNAT at h
 refine fn_pure Try.func66 rfl (by kernel_rfl) ?_
 refine awp_seq (rg0 [1] 1 ⟨30, [(1, .ref 0 0)], [.box (c_TRouter a0)]⟩ ?_)
 refine then_n (awp_seq (awp_seq (rg0 [1, 8] 1 ⟨30, [(1, .ref 0 0), (8, .bool (decide ((a0.fNAT.length : Int) > 8)))], [.box (c_TRouter a0)]⟩ ?_)))
 refine then_n ?_
 refine cnd (decide ((a0.fNAT.length : Int) > 8)) (fun b1 => ?_) (fun b1 => ?_)
 have h2 := cond_t b1 h
 refine awp_seq (rg0 [2] 0 ⟨30, [(2, .int .i64 7)], []⟩ ?_)
 refine then_n (awp_ret (then_r ?_))
 obtain rfl := Option.some.inj h2
 exact er0 (.int .i64 7)
 have h3 := cond_f b1 h
 refine awp_skip (then_n (awp_seq (awp_seq (rg0 [1, 10, 11, 12] 1 ⟨30, [(1, .ref 0 0), (10, sL 9 c_TTranslation a0.fNAT), (11, .int .i64 (a0.fNAT.length : Int)), (12, .int .i64 0)], [.box (c_TRouter a0)]⟩ ?_))))
 refine then_n (awp_block ?_)
 obtain ⟨y5, q20, h21⟩ := bind_some h3
 refine awp_le (s' := ⟨30, [(1, .ref 0 0), (10, sL 9 c_TTranslation a0.fNAT), (11, .int .i64 (a0.fNAT.length : Int)), (12, .int .i64 0)], [.box (c_TRouter a0)]⟩) (le_rfl) ?_
 refine awp_mono (awp_loop (f := M.model_checkNAT_l1 a0) (S := fun (p1 : Int) => ⟨30, [(1, .ref 0 0), (10, sL 9 c_TTranslation a0.fNAT), (11, .int .i64 (a0.fNAT.length : Int)), (12, .int .i64 p1)], [.box (c_TRouter a0)]⟩) (O := (Sum.elim (fun z => OutE 0 (fun z => ⟨30, [], []⟩) z) (fun z => OutR Try.prog Try.f66 (.int .i64 z)))) ?_ (x := 0) (y := y5) (loopM_iter q20)) ?_
 intro p1 y2 h4
 unfold M.model_checkNAT_l1 at h4
 refine awp_seq (rg0 [1, 10, 11, 12, 13] 1 ⟨30, [(1, .ref 0 0), (10, sL 9 c_TTranslation a0.fNAT), (11, .int .i64 (a0.fNAT.length : Int)), (12, .int .i64 p1), (13, .bool (decide (p1 < (a0.fNAT.length : Int))))], [.box (c_TRouter a0)]⟩ ?_)
 refine then_n (awp_seq ?_)
 refine cnd (decide (p1 < (a0.fNAT.length : Int))) (fun b5 => ?_) (fun b5 => ?_)
 have h6 := cond_t b5 h4
 refine awp_skip (then_n (awp_seq (awp_block (awp_seq ?_))))
 obtain ⟨c8, h9⟩ := gd_some h6
 refine rgc [1, 4, 10, 11, 12] 2 ⟨30, [(1, .ref 0 0), (4, .ref 1 0), (10, sL 9 c_TTranslation a0.fNAT), (11, .int .i64 (a0.fNAT.length : Int)), (12, .int .i64 p1)], [.box (c_TRouter a0), .box (c_TTranslation (a0.fNAT.getD p1.toNat default))]⟩ [decide (0 ≤ p1), decide (p1 < (a0.fNAT.length : Int))] c8 ?_
 refine then_n (awp_seq (awp_seq ?_))
 obtain ⟨r3, q10, h11⟩ := bind_some h9
 refine rg [.pure (.bool r3)] [1, 4, 10, 11, 12, 18] 2 ⟨30, [(1, .ref 0 0), (4, .ref 1 0), (10, sL 9 c_TTranslation a0.fNAT), (11, .int .i64 (a0.fNAT.length : Int)), (12, .int .i64 p1), (18, .bool (!r3))], [.box (c_TRouter a0), .box (c_TTranslation (a0.fNAT.getD p1.toNat default))]⟩ [] [⟨true, 91, [.agg (c_TTranslation (a0.fNAT.getD p1.toNat default))], .pure (.bool r3)⟩] nil_all ⟨fun _ => model_rightTranslation_ok (a0.fNAT.getD p1.toNat default) r3 q10, trivial⟩ ?_
 refine then_n ?_
 refine cnd (!r3) (fun b12 => ?_) (fun b12 => ?_)
 have h13 := cond_t b12 h11
 refine awp_seq (rg0 [2] 0 ⟨30, [(2, .int .i64 1)], []⟩ ?_)
 refine then_n (awp_ret (then_r (inb_r (then_r ?_))))
 obtain rfl := Option.some.inj h13
 exact round_r ⟨rfl, er0 (.int .i64 1)⟩
 have h14 := cond_f b12 h11
 refine awp_skip (then_n (awp_seq ?_))
 obtain ⟨r4, q15, h16⟩ := bind_some h14
 refine rg [.pure (.int .i64 r4)] [1, 10, 11, 12, 28] 1 ⟨30, [(1, .ref 0 0), (10, sL 9 c_TTranslation a0.fNAT), (11, .int .i64 (a0.fNAT.length : Int)), (12, .int .i64 p1), (28, .bool ((((a0.fNAT.getD p1.toNat default).fKind) == 2) && (decide (r4 < 0))))], [.box (c_TRouter a0)]⟩ [] [⟨((a0.fNAT.getD p1.toNat default).fKind) == 2, 21, [.agg (c_TRouter a0), .str ((a0.fNAT.getD p1.toNat default).fList)], .pure (.int .i64 r4)⟩] nil_all ⟨fun hg => model_ACL_ok a0 ((a0.fNAT.getD p1.toNat default).fList) r4 (gc_some q15 hg), trivial⟩ ?_
 refine then_n ?_
 refine cnd ((((a0.fNAT.getD p1.toNat default).fKind) == 2) && (decide (r4 < 0))) (fun b17 => ?_) (fun b17 => ?_)
 have h18 := cond_t b17 h16
 refine awp_seq (rg0 [2] 0 ⟨30, [(2, .int .i64 5)], []⟩ ?_)
 refine then_n (awp_ret (inb_r (then_r ?_)))
 obtain rfl := Option.some.inj h18
 exact round_r ⟨rfl, er0 (.int .i64 5)⟩
 have h19 := cond_f b17 h16
 refine awp_skip (inb_n (then_n (rg0 [1, 10, 11, 12] 1 ⟨30, [(1, .ref 0 0), (10, sL 9 c_TTranslation a0.fNAT), (11, .int .i64 (a0.fNAT.length : Int)), (12, .int .i64 (wr .i64 (p1 + 1)))], [.box (c_TRouter a0)]⟩ ?_)))
 obtain rfl := Option.some.inj h19
 exact round_n (le_rfl)
 have h7 := cond_f b5 h4
 refine awp_exit (then_e ?_)
 obtain rfl := Option.some.inj h7
 exact round_e ⟨rfl, Le.trans (s' := ⟨30, [], [.box (c_TRouter a0)]⟩) (kp []) (le_cut (n := 0) (by kernel_rfl))⟩
 intro e22 s23 o24
 rcases y5 with g6 | y7
 have h25 := elim_l h21
 obtain ⟨rfl, l27⟩ := o24
 refine inb_here ?_
 refine then_le (s' := ⟨30, [], []⟩) (l27) ?_
 refine awp_seq (rg0 [2] 0 ⟨30, [(2, .int .i64 0)], []⟩ ?_)
 refine then_n (awp_ret ?_)
 obtain rfl := Option.some.inj h25
 exact er0 (.int .i64 0)
 have h26 := elim_r h21
 obtain ⟨rfl, n28⟩ := o24
 refine inb_r (then_r ?_)
 obtain rfl := Option.some.inj h26
 exact n28

/- netverify/model.checkFilters -/
theorem model_checkFilters_ok (a0 : TRouter) (r : Int) (h : M.model_checkFilters a0 = some r) : Fn Try.prog 67 [.agg (c_TRouter a0)] (.pure (.int .i64 r)) := by
 unfold M.model_checkFilters at h
 refine fn_pure Try.func67 rfl (by kernel_rfl) ?_
 refine awp_seq (rg0 [1] 1 ⟨35, [(1, .ref 0 0)], [.box (c_TRouter a0)]⟩ ?_)
 refine then_n (awp_seq (awp_seq (rg0 [1, 6, 7, 8] 1 ⟨35, [(1, .ref 0 0), (6, sL 12 c_TInterface a0.fInterfaces), (7, .int .i64 (a0.fInterfaces.length : Int)), (8, .int .i64 0)], [.box (c_TRouter a0)]⟩ ?_)))
 refine then_n (awp_block ?_)
 obtain ⟨y5, q14, h15⟩ := bind_some h
 refine awp_le (s' := ⟨35, [(1, .ref 0 0), (6, sL 12 c_TInterface a0.fInterfaces), (7, .int .i64 (a0.fInterfaces.length : Int)), (8, .int .i64 0)], [.box (c_TRouter a0)]⟩) (le_rfl) ?_
 refine awp_mono (awp_loop (f := M.model_checkFilters_l1 a0) (S := fun (p1 : Int) => ⟨35, [(1, .ref 0 0), (6, sL 12 c_TInterface a0.fInterfaces), (7, .int .i64 (a0.fInterfaces.length : Int)), (8, .int .i64 p1)], [.box (c_TRouter a0)]⟩) (O := (Sum.elim (fun z => OutE 0 (fun z => ⟨35, [], []⟩) z) (fun z => OutR Try.prog Try.f67 (.int .i64 z)))) ?_ (x := 0) (y := y5) (loopM_iter q14)) ?_
 intro p1 y2 h1
 unfold M.model_checkFilters_l1 at h1
 refine awp_seq (rg0 [1, 6, 7, 8, 9] 1 ⟨35, [(1, .ref 0 0), (6, sL 12 c_TInterface a0.fInterfaces), (7, .int .i64 (a0.fInterfaces.length : Int)), (8, .int .i64 p1), (9, .bool (decide (p1 < (a0.fInterfaces.length : Int))))], [.box (c_TRouter a0)]⟩ ?_)
 refine then_n (awp_seq ?_)
 refine cnd (decide (p1 < (a0.fInterfaces.length : Int))) (fun b2 => ?_) (fun b2 => ?_)
 have h3 := cond_t b2 h1
 refine awp_skip (then_n (awp_seq (awp_block (awp_seq ?_))))
 obtain ⟨c5, h6⟩ := gd_some h3
 refine rgc [1, 4, 6, 7, 8] 2 ⟨35, [(1, .ref 0 0), (4, .ref 1 0), (6, sL 12 c_TInterface a0.fInterfaces), (7, .int .i64 (a0.fInterfaces.length : Int)), (8, .int .i64 p1)], [.box (c_TRouter a0), .box (c_TInterface (a0.fInterfaces.getD p1.toNat default))]⟩ [decide (0 ≤ p1), decide (p1 < (a0.fInterfaces.length : Int))] c5 ?_
 refine then_n (awp_seq ?_)
 obtain ⟨r3, q7, h8⟩ := bind_some h6
 obtain ⟨r4, q9, h10⟩ := bind_some h8
 refine rg [.pure (.int .i64 r3), .pure (.int .i64 r4)] [1, 6, 7, 8, 33] 1 ⟨35, [(1, .ref 0 0), (6, sL 12 c_TInterface a0.fInterfaces), (7, .int .i64 (a0.fInterfaces.length : Int)), (8, .int .i64 p1), (33, .bool (((!strEq ((a0.fInterfaces.getD p1.toNat default).fIn) (⟨#[]⟩ : ByteArray)) && (decide (r3 < 0))) || ((!strEq ((a0.fInterfaces.getD p1.toNat default).fOut) (⟨#[]⟩ : ByteArray)) && (decide (r4 < 0)))))], [.box (c_TRouter a0)]⟩ [] [⟨!strEq ((a0.fInterfaces.getD p1.toNat default).fIn) (⟨#[]⟩ : ByteArray), 21, [.agg (c_TRouter a0), .str ((a0.fInterfaces.getD p1.toNat default).fIn)], .pure (.int .i64 r3)⟩, ⟨((!((!strEq ((a0.fInterfaces.getD p1.toNat default).fIn) (⟨#[]⟩ : ByteArray)) && (decide (r3 < 0)))) && (!strEq ((a0.fInterfaces.getD p1.toNat default).fOut) (⟨#[]⟩ : ByteArray))), 21, [.agg (c_TRouter a0), .str ((a0.fInterfaces.getD p1.toNat default).fOut)], .pure (.int .i64 r4)⟩] nil_all ⟨fun hg => model_ACL_ok a0 ((a0.fInterfaces.getD p1.toNat default).fIn) r3 (gc_some q7 hg), fun hg => model_ACL_ok a0 ((a0.fInterfaces.getD p1.toNat default).fOut) r4 (gc_some q9 hg), trivial⟩ ?_
 refine then_n ?_
 refine cnd (((!strEq ((a0.fInterfaces.getD p1.toNat default).fIn) (⟨#[]⟩ : ByteArray)) && (decide (r3 < 0))) || ((!strEq ((a0.fInterfaces.getD p1.toNat default).fOut) (⟨#[]⟩ : ByteArray)) && (decide (r4 < 0)))) (fun b11 => ?_) (fun b11 => ?_)
 have h12 := cond_t b11 h10
 refine awp_seq (rg0 [2] 0 ⟨35, [(2, .int .i64 5)], []⟩ ?_)
 refine then_n (awp_ret (inb_r (then_r ?_)))
 obtain rfl := Option.some.inj h12
 exact round_r ⟨rfl, er0 (.int .i64 5)⟩
 have h13 := cond_f b11 h10
 refine awp_skip (inb_n (then_n (rg0 [1, 6, 7, 8] 1 ⟨35, [(1, .ref 0 0), (6, sL 12 c_TInterface a0.fInterfaces), (7, .int .i64 (a0.fInterfaces.length : Int)), (8, .int .i64 (wr .i64 (p1 + 1)))], [.box (c_TRouter a0)]⟩ ?_)))
 obtain rfl := Option.some.inj h13
 exact round_n (le_rfl)
 have h4 := cond_f b2 h1
 refine awp_exit (then_e ?_)
 obtain rfl := Option.some.inj h4
 exact round_e ⟨rfl, Le.trans (s' := ⟨35, [], [.box (c_TRouter a0)]⟩) (kp []) (le_cut (n := 0) (by kernel_rfl))⟩
 intro e16 s17 o18
 rcases y5 with g6 | y7
 have h19 := elim_l h15
 obtain ⟨rfl, l21⟩ := o18
 refine inb_here ?_
 refine then_le (s' := ⟨35, [], []⟩) (l21) ?_
 refine awp_seq (rg0 [2] 0 ⟨35, [(2, .int .i64 0)], []⟩ ?_)
 refine then_n (awp_ret ?_)
 obtain rfl := Option.some.inj h19
 exact er0 (.int .i64 0)
 have h20 := elim_r h15
 obtain ⟨rfl, n22⟩ := o18
 refine inb_r (then_r ?_)
 obtain rfl := Option.some.inj h20
 exact n22

/- netverify/model.Address$1 -/
theorem model_Address_1_ok (a0 : TInterface) (b0 : Int) (r : Bool) (h : M.model_Address_1 a0 b0 = some r) : Fn Try.prog 58 [.agg (c_TInterface a0), .pp ((ci .u32) b0)] (.pure (.bool r)) := by
 unfold M.model_Address_1 at h
 refine fn_pure Try.func58 rfl (by kernel_rfl) ?_
 refine awp_seq (rg0 [1, 2] 1 ⟨13, [(1, .pp ((ci .u32) b0)), (2, .ref 0 0)], [.box (c_TInterface a0)]⟩ ?_)
 refine then_n (awp_seq (rg0 [3] 0 ⟨13, [(3, .bool ((a0.fLen != 0) && (a0.fAddr == b0)))], []⟩ ?_))
 refine then_n (awp_ret ?_)
 obtain rfl := Option.some.inj h
 exact er0 (.bool ((a0.fLen != 0) && (a0.fAddr == b0)))

/- slices.IndexFunc[[]netverify/api.Interface,netverify/api.Interface] -/
theorem slices_IndexFunc_api_Interface_api_Interface__model_Address_1_ok (a0 : List TInterface) (a1c0 : Int) (r : Int) (h : M.slices_IndexFunc_api_Interface_api_Interface__model_Address_1 a0 a1c0 = some r) : Fn Try.prog 50 [sL 12 c_TInterface a0, .fn 58 [.pp ((ci .u32) a1c0)]] (.pure (.int .i64 r)) := by
 unfold M.slices_IndexFunc_api_Interface_api_Interface__model_Address_1 at h
 refine fn_pure Try.func50 rfl (by kernel_rfl) ?_
 refine awp_seq (rg0 [0, 1] 0 ⟨19, [(0, sL 12 c_TInterface a0), (1, .fn 58 [.pp ((ci .u32) a1c0)])], []⟩ ?_)
 refine then_n (awp_seq (awp_seq (rg0 [0, 1, 7, 8] 0 ⟨19, [(0, sL 12 c_TInterface a0), (1, .fn 58 [.pp ((ci .u32) a1c0)]), (7, .int .i64 (a0.length : Int)), (8, .int .i64 0)], []⟩ ?_)))
 refine then_n (awp_block ?_)
 obtain ⟨y4, q12, h13⟩ := bind_some h
 refine awp_le (s' := ⟨19, [(0, sL 12 c_TInterface a0), (1, .fn 58 [.pp ((ci .u32) a1c0)]), (7, .int .i64 (a0.length : Int)), (8, .int .i64 0)], []⟩) (le_rfl) ?_
 refine awp_mono (awp_loop (f := M.slices_IndexFunc_api_Interface_api_Interface__model_Address_1_l1 a0 a1c0) (S := fun (p1 : Int) => ⟨19, [(0, sL 12 c_TInterface a0), (1, .fn 58 [.pp ((ci .u32) a1c0)]), (7, .int .i64 (a0.length : Int)), (8, .int .i64 p1)], []⟩) (O := (Sum.elim (fun z => OutE 0 (fun z => ⟨19, [], []⟩) z) (fun z => OutR Try.prog Try.f50 (.int .i64 z)))) ?_ (x := 0) (y := y4) (loopM_iter q12)) ?_
 intro p1 y2 h1
 unfold M.slices_IndexFunc_api_Interface_api_Interface__model_Address_1_l1 at h1
 refine awp_seq (rg0 [0, 1, 7, 8, 9] 0 ⟨19, [(0, sL 12 c_TInterface a0), (1, .fn 58 [.pp ((ci .u32) a1c0)]), (7, .int .i64 (a0.length : Int)), (8, .int .i64 p1), (9, .bool (decide (p1 < (a0.length : Int))))], []⟩ ?_)
 refine then_n (awp_seq ?_)
 refine cnd (decide (p1 < (a0.length : Int))) (fun b2 => ?_) (fun b2 => ?_)
 have h3 := cond_t b2 h1
 refine awp_skip (then_n (awp_seq (awp_block (awp_seq (rg0 [0, 1, 5, 7, 8] 0 ⟨19, [(0, sL 12 c_TInterface a0), (1, .fn 58 [.pp ((ci .u32) a1c0)]), (5, .int .i64 p1), (7, .int .i64 (a0.length : Int)), (8, .int .i64 p1)], []⟩ ?_)))))
 refine then_n (awp_seq ?_)
 obtain ⟨r3, q5, h6⟩ := bind_some h3
 obtain ⟨c7, h8⟩ := gd_some h6
 refine rg [.pure (.bool r3)] [0, 1, 5, 7, 8, 16] 0 ⟨19, [(0, sL 12 c_TInterface a0), (1, .fn 58 [.pp ((ci .u32) a1c0)]), (5, .int .i64 p1), (7, .int .i64 (a0.length : Int)), (8, .int .i64 p1), (16, .bool r3)], []⟩ [decide (0 ≤ p1), decide (p1 < (a0.length : Int))] [⟨true, 58, [.agg (c_TInterface (a0.getD p1.toNat default)), .pp ((ci .u32) a1c0)], .pure (.bool r3)⟩] c7 ⟨fun _ => model_Address_1_ok (a0.getD p1.toNat default) a1c0 r3 q5, trivial⟩ ?_
 refine then_n ?_
 refine cnd r3 (fun b9 => ?_) (fun b9 => ?_)
 have h10 := cond_t b9 h8
 refine awp_seq (rg0 [4] 0 ⟨19, [(4, .int .i64 p1)], []⟩ ?_)
 refine then_n (awp_ret (inb_r (then_r ?_)))
 obtain rfl := Option.some.inj h10
 exact round_r ⟨rfl, er0 (.int .i64 p1)⟩
 have h11 := cond_f b9 h8
 refine awp_skip (inb_n (then_n (rg0 [0, 1, 7, 8] 0 ⟨19, [(0, sL 12 c_TInterface a0), (1, .fn 58 [.pp ((ci .u32) a1c0)]), (7, .int .i64 (a0.length : Int)), (8, .int .i64 (wr .i64 (p1 + 1)))], []⟩ ?_)))
 obtain rfl := Option.some.inj h11
 exact round_n (le_rfl)
 have h4 := cond_f b2 h1
 refine awp_exit (then_e ?_)
 obtain rfl := Option.some.inj h4
 exact round_e ⟨rfl, kp []⟩
 intro e14 s15 o16
 rcases y4 with g5 | y6
 have h17 := elim_l h13
 obtain ⟨rfl, l19⟩ := o16
 refine inb_here ?_
 refine then_le (s' := ⟨19, [], []⟩) (l19) ?_
 refine awp_seq (rg0 [4] 0 ⟨19, [(4, .int .i64 (-1))], []⟩ ?_)
 refine then_n (awp_ret ?_)
 obtain rfl := Option.some.inj h17
 exact er0 (.int .i64 (-1))
 have h18 := elim_r h13
 obtain ⟨rfl, n20⟩ := o16
 refine inb_r (then_r ?_)
 obtain rfl := Option.some.inj h18
 exact n20

/- netverify/model.Address -/
theorem model_Address_ok (a0 : TRouter) (a1 : Int) (r : Int) (h : M.model_Address a0 a1 = some r) : Fn Try.prog 23 [.agg (c_TRouter a0), .int .u32 a1] (.pure (.int .i64 r)) := by
 unfold M.model_Address at h
 refine fn_pure Try.func23 rfl (by kernel_rfl) ?_
 refine awp_seq (rg0 [2, 3] 2 ⟨9, [(2, .ref 0 0), (3, .ref 1 0)], [.box (c_TRouter a0), .box [.int .u32 a1]]⟩ ?_)
 refine then_n (awp_seq ?_)
 obtain ⟨r1, q1, h2⟩ := bind_some h
 refine rg [.pure (.int .i64 r1)] [4] 0 ⟨9, [(4, .int .i64 r1)], []⟩ [] [⟨true, 50, [sL 12 c_TInterface a0.fInterfaces, .fn 58 [.pp ((ci .u32) a1)]], .pure (.int .i64 r1)⟩] nil_all ⟨fun _ => slices_IndexFunc_api_Interface_api_Interface__model_Address_1_ok a0.fInterfaces a1 r1 q1, trivial⟩ ?_
 refine then_n (awp_ret ?_)
 obtain rfl := Option.some.inj h2
 exact er0 (.int .i64 r1)

/- netverify/model.rightStatic -/
theorem model_rightStatic_ok (a0 : TRouter) (a1 : TStaticRoute) (r : Bool) (h : M.model_rightStatic a0 a1 = some r) : Fn Try.prog 92 [.agg (c_TRouter a0), .agg (c_TStaticRoute a1)] (.pure (.bool r)) := by
 unfold M.model_rightStatic at h
 refine fn_pure Try.func92 rfl (by kernel_rfl) ?_
 refine awp_seq (rg0 [2, 3] 2 ⟨55, [(2, .ref 0 0), (3, .ref 1 0)], [.box (c_TRouter a0), .box (c_TStaticRoute a1)]⟩ ?_)
 refine then_n (awp_seq (rg0 [2, 3, 5] 2 ⟨55, [(2, .ref 0 0), (3, .ref 1 0), (5, .int .i64 0)], [.box (c_TRouter a0), .box (c_TStaticRoute a1)]⟩ ?_))
 refine then_n (awp_seq (awp_seq (rg0 [2, 3, 5, 16, 17, 18] 2 ⟨55, [(2, .ref 0 0), (3, .ref 1 0), (5, .int .i64 0), (16, .sl true 1 3 (fun i => List.take 1 (List.drop (i * 1) [.bool (a1.fNext != 0), .bool (!strEq a1.fIface (⟨#[]⟩ : ByteArray)), .bool a1.fDiscard]))), (17, .int .i64 3), (18, .int .i64 0)], [.box (c_TRouter a0), .box (c_TStaticRoute a1)]⟩ ?_)))
 refine then_le (s' := ⟨55, [(2, .ref 0 0), (3, .ref 1 0), (5, .int .i64 0), (16, sL 1 cb ([a1.fNext != 0, !strEq a1.fIface (⟨#[]⟩ : ByteArray), a1.fDiscard] : List Bool)), (17, .int .i64 3), (18, .int .i64 0)], [.box (c_TRouter a0), .box (c_TStaticRoute a1)]⟩) (le_sub (.cons Sub.rfl (.cons Sub.rfl (.cons Sub.rfl (.cons (sub_sl rfl (fun i hi => match i, hi with | 0, _ => rfl | 1, _ => rfl | 2, _ => rfl | n + 3, h => absurd h (by omega))) (.cons Sub.rfl (.cons Sub.rfl .nil)))))) (.cons .rfl (.cons .rfl .nil))) ?_
 refine awp_block ?_
 obtain ⟨y4, q12, h13⟩ := bind_some h
 refine awp_le (s' := ⟨55, [(2, .ref 0 0), (3, .ref 1 0), (5, .int .i64 0), (16, sL 1 cb ([a1.fNext != 0, !strEq a1.fIface (⟨#[]⟩ : ByteArray), a1.fDiscard] : List Bool)), (17, .int .i64 3), (18, .int .i64 0)], [.box (c_TRouter a0), .box (c_TStaticRoute a1)]⟩) (le_rfl) ?_
 refine awp_mono (awp_loop (f := M.model_rightStatic_l1 a1) (S := fun (p1 : Int × Int) => ⟨55, [(2, .ref 0 0), (3, .ref 1 0), (5, .int .i64 p1.1), (16, sL 1 cb ([a1.fNext != 0, !strEq a1.fIface (⟨#[]⟩ : ByteArray), a1.fDiscard] : List Bool)), (17, .int .i64 3), (18, .int .i64 p1.2)], [.box (c_TRouter a0), .box (c_TStaticRoute a1)]⟩) (O := (fun z => OutE 0 (fun z => ⟨55, [(2, .ref 0 0), (3, .ref 1 0), (5, .int .i64 z)], [.box (c_TRouter a0), .box (c_TStaticRoute a1)]⟩) z)) ?_ (x := (0, 0)) (y := y4) (loopM_iter q12)) ?_
 intro p1 y2 h1
 unfold M.model_rightStatic_l1 at h1
 refine awp_seq (rg0 [2, 3, 5, 16, 17, 18, 19] 2 ⟨55, [(2, .ref 0 0), (3, .ref 1 0), (5, .int .i64 p1.1), (16, sL 1 cb ([a1.fNext != 0, !strEq a1.fIface (⟨#[]⟩ : ByteArray), a1.fDiscard] : List Bool)), (17, .int .i64 3), (18, .int .i64 p1.2), (19, .bool (decide (p1.2 < 3)))], [.box (c_TRouter a0), .box (c_TStaticRoute a1)]⟩ ?_)
 refine then_n (awp_seq ?_)
 refine cnd (decide (p1.2 < 3)) (fun b2 => ?_) (fun b2 => ?_)
 have h3 := cond_t b2 h1
 refine awp_skip (then_n ?_)
 refine awp_join (fun (p3 : Int) => ⟨55, [(2, .ref 0 0), (3, .ref 1 0), (5, .int .i64 p3), (16, sL 1 cb ([a1.fNext != 0, !strEq a1.fIface (⟨#[]⟩ : ByteArray), a1.fDiscard] : List Bool)), (17, .int .i64 3), (18, .int .i64 p1.2)], [.box (c_TRouter a0), .box (c_TStaticRoute a1)]⟩) (fun p3 => M.model_rightStatic_k1 p1 p3 = some y2) ?_ ?_
 intro p3 h6
 unfold M.model_rightStatic_k1 at h6
 refine rg0 [2, 3, 5, 16, 17, 18] 2 ⟨55, [(2, .ref 0 0), (3, .ref 1 0), (5, .int .i64 p3), (16, sL 1 cb ([a1.fNext != 0, !strEq a1.fIface (⟨#[]⟩ : ByteArray), a1.fDiscard] : List Bool)), (17, .int .i64 3), (18, .int .i64 (wr .i64 (p1.2 + 1)))], [.box (c_TRouter a0), .box (c_TStaticRoute a1)]⟩ ?_
 obtain rfl := Option.some.inj h6
 exact round_n (le_rfl)
 intro k5
 refine awp_block (awp_seq ?_)
 obtain ⟨c7, h8⟩ := gd_some h3
 refine rgc [2, 3, 5, 7, 16, 17, 18] 2 ⟨55, [(2, .ref 0 0), (3, .ref 1 0), (5, .int .i64 p1.1), (7, .bool (([a1.fNext != 0, !strEq a1.fIface (⟨#[]⟩ : ByteArray), a1.fDiscard] : List Bool).getD p1.2.toNat default)), (16, sL 1 cb ([a1.fNext != 0, !strEq a1.fIface (⟨#[]⟩ : ByteArray), a1.fDiscard] : List Bool)), (17, .int .i64 3), (18, .int .i64 p1.2)], [.box (c_TRouter a0), .box (c_TStaticRoute a1)]⟩ [decide (0 ≤ p1.2), decide (p1.2 < (([a1.fNext != 0, !strEq a1.fIface (⟨#[]⟩ : ByteArray), a1.fDiscard] : List Bool).length : Int))] c7 ?_
 refine then_n (awp_seq (rg0 [2, 3, 5, 16, 17, 18, 22] 2 ⟨55, [(2, .ref 0 0), (3, .ref 1 0), (5, .int .i64 p1.1), (16, sL 1 cb ([a1.fNext != 0, !strEq a1.fIface (⟨#[]⟩ : ByteArray), a1.fDiscard] : List Bool)), (17, .int .i64 3), (18, .int .i64 p1.2), (22, .bool (([a1.fNext != 0, !strEq a1.fIface (⟨#[]⟩ : ByteArray), a1.fDiscard] : List Bool).getD p1.2.toNat default))], [.box (c_TRouter a0), .box (c_TStaticRoute a1)]⟩ ?_))
 refine then_n ?_
 refine cnd (([a1.fNext != 0, !strEq a1.fIface (⟨#[]⟩ : ByteArray), a1.fDiscard] : List Bool).getD p1.2.toNat default) (fun b9 => ?_) (fun b9 => ?_)
 have h10 := cond_t b9 h8
 refine rg0 [2, 3, 5, 16, 17, 18] 2 ⟨55, [(2, .ref 0 0), (3, .ref 1 0), (5, .int .i64 (wr .i64 (p1.1 + 1))), (16, sL 1 cb ([a1.fNext != 0, !strEq a1.fIface (⟨#[]⟩ : ByteArray), a1.fDiscard] : List Bool)), (17, .int .i64 3), (18, .int .i64 p1.2)], [.box (c_TRouter a0), .box (c_TStaticRoute a1)]⟩ ?_
 refine inb_n ?_
 exact then_le (le_rfl) (k5 (wr .i64 (p1.1 + 1)) h10)
 have h11 := cond_f b9 h8
 refine awp_skip (inb_n ?_)
 exact then_le (kp [2, 3, 5, 16, 17, 18]) (k5 p1.1 h11)
 have h4 := cond_f b2 h1
 refine awp_exit (then_e ?_)
 obtain rfl := Option.some.inj h4
 exact round_e ⟨rfl, kp [2, 3, 5]⟩
 intro e14 s15 o16
 obtain ⟨rfl, l17⟩ := o16
 refine inb_here ?_
 refine then_le (s' := ⟨55, [(2, .ref 0 0), (3, .ref 1 0), (5, .int .i64 y4)], [.box (c_TRouter a0), .box (c_TStaticRoute a1)]⟩) (l17) ?_
 refine awp_seq ?_
 obtain ⟨r5, q18, h19⟩ := bind_some h13
 obtain ⟨r6, q20, h21⟩ := bind_some h19
 obtain ⟨r7, q22, h23⟩ := bind_some h21
 obtain ⟨r8, q24, h25⟩ := bind_some h23
 refine rg [.pure (.bool r5), .pure (.int .i64 r6), .pure (.bool r7), .pure (.bool r8)] [4] 0 ⟨55, [(4, .bool ((((r5 && (y4 == 1)) && ((a1.fNext == 0) || (decide (r6 < 0)))) && r7) && r8))], []⟩ [] [⟨true, 88, [.agg (c_TPrefix a1.fPrefix)], .pure (.bool r5)⟩, ⟨((r5 && (y4 == 1)) && !(a1.fNext == 0)), 23, [.agg (c_TRouter a0), .int .u32 a1.fNext], .pure (.int .i64 r6)⟩, ⟨(r5 && (y4 == 1)) && ((a1.fNext == 0) || (decide (r6 < 0))), 61, [.int .i64 a1.fAdmin, .int .i64 1, .int .i64 255], .pure (.bool r7)⟩, ⟨((r5 && (y4 == 1)) && ((a1.fNext == 0) || (decide (r6 < 0)))) && r7, 61, [.int .i64 a1.fTag, .int .i64 0, .int .i64 65535], .pure (.bool r8)⟩] nil_all ⟨fun _ => addr_Valid_ok a1.fPrefix r5 q18, fun hg => model_Address_ok a0 a1.fNext r6 (gc_some q20 hg), fun hg => model_within_ok a1.fAdmin 1 255 r7 (gc_some q22 hg), fun hg => model_within_ok a1.fTag 0 65535 r8 (gc_some q24 hg), trivial⟩ ?_
 refine then_n (awp_ret ?_)
 obtain rfl := Option.some.inj h25
 exact er0 (.bool ((((r5 && (y4 == 1)) && ((a1.fNext == 0) || (decide (r6 < 0)))) && r7) && r8))

/- netverify/model.checkStatics -/
theorem model_checkStatics_ok (a0 : TRouter) (r : Int) (h : M.model_checkStatics a0 = some r) : Fn Try.prog 68 [.agg (c_TRouter a0)] (.pure (.int .i64 r)) := by
 unfold M.model_checkStatics at h
 refine fn_pure Try.func68 rfl (by kernel_rfl) ?_
 refine awp_seq (rg0 [1] 1 ⟨63, [(1, .ref 0 0)], [.box (c_TRouter a0)]⟩ ?_)
 refine then_n (awp_seq (awp_seq (rg0 [1, 11] 1 ⟨63, [(1, .ref 0 0), (11, .bool (decide ((a0.fStatics.length : Int) > 16)))], [.box (c_TRouter a0)]⟩ ?_)))
 refine then_n ?_
 refine cnd (decide ((a0.fStatics.length : Int) > 16)) (fun b1 => ?_) (fun b1 => ?_)
 have h2 := cond_t b1 h
 refine awp_seq (rg0 [2] 0 ⟨63, [(2, .int .i64 7)], []⟩ ?_)
 refine then_n (awp_ret (then_r ?_))
 obtain rfl := Option.some.inj h2
 exact er0 (.int .i64 7)
 have h3 := cond_f b1 h
 refine awp_skip (then_n (awp_seq (awp_seq (rg0 [1, 13, 14, 15] 1 ⟨63, [(1, .ref 0 0), (13, sL 7 c_TStaticRoute a0.fStatics), (14, .int .i64 (a0.fStatics.length : Int)), (15, .int .i64 0)], [.box (c_TRouter a0)]⟩ ?_))))
 refine then_n (awp_block ?_)
 obtain ⟨y11, q50, h51⟩ := bind_some h3
 refine awp_le (s' := ⟨63, [(1, .ref 0 0), (13, sL 7 c_TStaticRoute a0.fStatics), (14, .int .i64 (a0.fStatics.length : Int)), (15, .int .i64 0)], [.box (c_TRouter a0)]⟩) (le_rfl) ?_
 refine awp_mono (awp_loop (f := M.model_checkStatics_l1 a0) (S := fun (p1 : Int) => ⟨63, [(1, .ref 0 0), (13, sL 7 c_TStaticRoute a0.fStatics), (14, .int .i64 (a0.fStatics.length : Int)), (15, .int .i64 p1)], [.box (c_TRouter a0)]⟩) (O := (Sum.elim (fun z => OutE 0 (fun z => ⟨63, [], []⟩) z) (fun z => OutR Try.prog Try.f68 (.int .i64 z)))) ?_ (x := 0) (y := y11) (loopM_iter q50)) ?_
 intro p1 y2 h4
 unfold M.model_checkStatics_l1 at h4
 refine awp_seq (rg0 [1, 13, 14, 15, 16] 1 ⟨63, [(1, .ref 0 0), (13, sL 7 c_TStaticRoute a0.fStatics), (14, .int .i64 (a0.fStatics.length : Int)), (15, .int .i64 p1), (16, .bool (decide (p1 < (a0.fStatics.length : Int))))], [.box (c_TRouter a0)]⟩ ?_)
 refine then_n (awp_seq ?_)
 refine cnd (decide (p1 < (a0.fStatics.length : Int))) (fun b5 => ?_) (fun b5 => ?_)
 have h6 := cond_t b5 h4
 refine awp_skip (then_n (awp_seq (awp_block (awp_seq ?_))))
 obtain ⟨c8, h9⟩ := gd_some h6
 refine rgc [1, 3, 4, 13, 14, 15] 2 ⟨63, [(1, .ref 0 0), (3, .int .i64 p1), (4, .ref 1 0), (13, sL 7 c_TStaticRoute a0.fStatics), (14, .int .i64 (a0.fStatics.length : Int)), (15, .int .i64 p1)], [.box (c_TRouter a0), .box (c_TStaticRoute (a0.fStatics.getD p1.toNat default))]⟩ [decide (0 ≤ p1), decide (p1 < (a0.fStatics.length : Int))] c8 ?_
 refine then_n (awp_seq (awp_seq ?_))
 obtain ⟨r3, q10, h11⟩ := bind_some h9
 refine rg [.pure (.bool r3)] [1, 3, 4, 13, 14, 15, 23] 2 ⟨63, [(1, .ref 0 0), (3, .int .i64 p1), (4, .ref 1 0), (13, sL 7 c_TStaticRoute a0.fStatics), (14, .int .i64 (a0.fStatics.length : Int)), (15, .int .i64 p1), (23, .bool (!r3))], [.box (c_TRouter a0), .box (c_TStaticRoute (a0.fStatics.getD p1.toNat default))]⟩ [] [⟨true, 92, [.agg (c_TRouter a0), .agg (c_TStaticRoute (a0.fStatics.getD p1.toNat default))], .pure (.bool r3)⟩] nil_all ⟨fun _ => model_rightStatic_ok a0 (a0.fStatics.getD p1.toNat default) r3 q10, trivial⟩ ?_
 refine then_n ?_
 refine cnd (!r3) (fun b12 => ?_) (fun b12 => ?_)
 have h13 := cond_t b12 h11
 refine awp_seq (rg0 [2] 0 ⟨63, [(2, .int .i64 1)], []⟩ ?_)
 refine then_n (awp_ret (then_r (inb_r (then_r ?_))))
 obtain rfl := Option.some.inj h13
 exact round_r ⟨rfl, er0 (.int .i64 1)⟩
 have h14 := cond_f b12 h11
 refine awp_skip (then_n ?_)
 refine awp_join (fun (p4 : Unit) => ⟨63, [(1, .ref 0 0), (3, .int .i64 p1), (4, .ref 1 0), (13, sL 7 c_TStaticRoute a0.fStatics), (14, .int .i64 (a0.fStatics.length : Int)), (15, .int .i64 p1)], [.box (c_TRouter a0), .box (c_TStaticRoute (a0.fStatics.getD p1.toNat default))]⟩) (fun p4 => M.model_checkStatics_k1 a0 p1 p4 = some y2) ?_ ?_
 intro p4 h16
 unfold M.model_checkStatics_k1 at h16
 refine awp_seq ?_
 obtain ⟨c17, h18⟩ := gd_some h16
 refine rgc [1, 4, 13, 14, 15, 43, 44, 45] 2 ⟨63, [(1, .ref 0 0), (4, .ref 1 0), (13, sL 7 c_TStaticRoute a0.fStatics), (14, .int .i64 (a0.fStatics.length : Int)), (15, .int .i64 p1), (43, .sl false 7 (p1.toNat - 0) (fun i => c_TStaticRoute (a0.fStatics.getD (0 + i) default))), (44, .int .i64 ((p1.toNat - 0 : Nat) : Int)), (45, .int .i64 0)], [.box (c_TRouter a0), .box (c_TStaticRoute (a0.fStatics.getD p1.toNat default))]⟩ [decide (0 ≤ p1), decide (p1 ≤ (a0.fStatics.length : Int))] c17 ?_
 refine then_le (s' := ⟨63, [(1, .ref 0 0), (4, .ref 1 0), (13, sL 7 c_TStaticRoute a0.fStatics), (14, .int .i64 (a0.fStatics.length : Int)), (15, .int .i64 p1), (43, sL 7 c_TStaticRoute ((a0.fStatics.drop 0).take (p1.toNat - 0))), (44, .int .i64 ((p1.toNat - 0 : Nat) : Int)), (45, .int .i64 0)], [.box (c_TRouter a0), .box (c_TStaticRoute (a0.fStatics.getD p1.toNat default))]⟩) (le_sub (.cons Sub.rfl (.cons Sub.rfl (.cons Sub.rfl (.cons Sub.rfl (.cons Sub.rfl (.cons (sub_sl (len_cut _ _ _ (cut_hi (c17 _ (List.mem_cons_of_mem _ List.mem_cons_self)))) (cut_ext _ _ _ _)) (.cons Sub.rfl (.cons Sub.rfl .nil)))))))) (.cons .rfl (.cons .rfl .nil))) ?_
 refine awp_block ?_
 obtain ⟨y7, q28, h29⟩ := bind_some h18
 refine awp_le (s' := ⟨63, [(1, .ref 0 0), (4, .ref 1 0), (13, sL 7 c_TStaticRoute a0.fStatics), (14, .int .i64 (a0.fStatics.length : Int)), (15, .int .i64 p1), (43, sL 7 c_TStaticRoute ((a0.fStatics.drop 0).take (p1.toNat - 0))), (44, .int .i64 ((p1.toNat - 0 : Nat) : Int)), (45, .int .i64 0)], [.box (c_TRouter a0), .box (c_TStaticRoute (a0.fStatics.getD p1.toNat default))]⟩) (le_rfl) ?_
 refine awp_mono (awp_loop (f := M.model_checkStatics_l2 a0 p1) (S := fun (p5 : Int) => ⟨63, [(1, .ref 0 0), (4, .ref 1 0), (13, sL 7 c_TStaticRoute a0.fStatics), (14, .int .i64 (a0.fStatics.length : Int)), (15, .int .i64 p1), (43, sL 7 c_TStaticRoute ((a0.fStatics.drop 0).take (p1.toNat - 0))), (44, .int .i64 ((p1.toNat - 0 : Nat) : Int)), (45, .int .i64 p5)], [.box (c_TRouter a0), .box (c_TStaticRoute (a0.fStatics.getD p1.toNat default))]⟩) (O := (Sum.elim (fun z => OutE 2 (fun z => ⟨63, [(1, .ref 0 0), (13, sL 7 c_TStaticRoute a0.fStatics), (14, .int .i64 (a0.fStatics.length : Int)), (15, .int .i64 p1)], [.box (c_TRouter a0)]⟩) z) (fun z => OutR Try.prog Try.f68 (.int .i64 z)))) ?_ (x := 0) (y := y7) (loopM_iter q28)) ?_
 intro p5 y6 h19
 unfold M.model_checkStatics_l2 at h19
 refine awp_seq (rg0 [1, 4, 13, 14, 15, 43, 44, 45, 46] 2 ⟨63, [(1, .ref 0 0), (4, .ref 1 0), (13, sL 7 c_TStaticRoute a0.fStatics), (14, .int .i64 (a0.fStatics.length : Int)), (15, .int .i64 p1), (43, sL 7 c_TStaticRoute ((a0.fStatics.drop 0).take (p1.toNat - 0))), (44, .int .i64 ((p1.toNat - 0 : Nat) : Int)), (45, .int .i64 p5), (46, .bool (decide (p5 < ((p1.toNat - 0 : Nat) : Int))))], [.box (c_TRouter a0), .box (c_TStaticRoute (a0.fStatics.getD p1.toNat default))]⟩ ?_)
 refine then_n (awp_seq ?_)
 refine cnd (decide (p5 < ((p1.toNat - 0 : Nat) : Int))) (fun b20 => ?_) (fun b20 => ?_)
 have h21 := cond_t b20 h19
 refine awp_skip (then_n (awp_seq (awp_block (awp_seq ?_))))
 obtain ⟨c23, h24⟩ := gd_some h21
 refine rgc [1, 4, 7, 13, 14, 15, 43, 44, 45] 3 ⟨63, [(1, .ref 0 0), (4, .ref 1 0), (7, .ref 2 0), (13, sL 7 c_TStaticRoute a0.fStatics), (14, .int .i64 (a0.fStatics.length : Int)), (15, .int .i64 p1), (43, sL 7 c_TStaticRoute ((a0.fStatics.drop 0).take (p1.toNat - 0))), (44, .int .i64 ((p1.toNat - 0 : Nat) : Int)), (45, .int .i64 p5)], [.box (c_TRouter a0), .box (c_TStaticRoute (a0.fStatics.getD p1.toNat default)), .box (c_TStaticRoute (((a0.fStatics.drop 0).take (p1.toNat - 0)).getD p5.toNat default))]⟩ [decide (0 ≤ p5), decide (p5 < (((a0.fStatics.drop 0).take (p1.toNat - 0)).length : Int))] c23 ?_
 refine then_n (awp_seq (rg0 [1, 4, 13, 14, 15, 43, 44, 45, 60] 2 ⟨63, [(1, .ref 0 0), (4, .ref 1 0), (13, sL 7 c_TStaticRoute a0.fStatics), (14, .int .i64 (a0.fStatics.length : Int)), (15, .int .i64 p1), (43, sL 7 c_TStaticRoute ((a0.fStatics.drop 0).take (p1.toNat - 0))), (44, .int .i64 ((p1.toNat - 0 : Nat) : Int)), (45, .int .i64 p5), (60, .bool ((((((((a0.fStatics.drop 0).take (p1.toNat - 0)).getD p5.toNat default).fPrefix).fAddr) == (((a0.fStatics.getD p1.toNat default).fPrefix).fAddr)) && (((((((a0.fStatics.drop 0).take (p1.toNat - 0)).getD p5.toNat default).fPrefix).fLen) == (((a0.fStatics.getD p1.toNat default).fPrefix).fLen)) && true)) && (((((a0.fStatics.drop 0).take (p1.toNat - 0)).getD p5.toNat default).fAdmin) == ((a0.fStatics.getD p1.toNat default).fAdmin))))], [.box (c_TRouter a0), .box (c_TStaticRoute (a0.fStatics.getD p1.toNat default))]⟩ ?_))
 refine then_n ?_
 refine cnd ((((((((a0.fStatics.drop 0).take (p1.toNat - 0)).getD p5.toNat default).fPrefix).fAddr) == (((a0.fStatics.getD p1.toNat default).fPrefix).fAddr)) && (((((((a0.fStatics.drop 0).take (p1.toNat - 0)).getD p5.toNat default).fPrefix).fLen) == (((a0.fStatics.getD p1.toNat default).fPrefix).fLen)) && true)) && (((((a0.fStatics.drop 0).take (p1.toNat - 0)).getD p5.toNat default).fAdmin) == ((a0.fStatics.getD p1.toNat default).fAdmin))) (fun b25 => ?_) (fun b25 => ?_)
 have h26 := cond_t b25 h24
 refine awp_seq (rg0 [2] 0 ⟨63, [(2, .int .i64 6)], []⟩ ?_)
 refine then_n (awp_ret (inb_r (then_r ?_)))
 obtain rfl := Option.some.inj h26
 exact round_r ⟨rfl, er0 (.int .i64 6)⟩
 have h27 := cond_f b25 h24
 refine awp_skip (inb_n (then_n (rg0 [1, 4, 13, 14, 15, 43, 44, 45] 2 ⟨63, [(1, .ref 0 0), (4, .ref 1 0), (13, sL 7 c_TStaticRoute a0.fStatics), (14, .int .i64 (a0.fStatics.length : Int)), (15, .int .i64 p1), (43, sL 7 c_TStaticRoute ((a0.fStatics.drop 0).take (p1.toNat - 0))), (44, .int .i64 ((p1.toNat - 0 : Nat) : Int)), (45, .int .i64 (wr .i64 (p5 + 1)))], [.box (c_TRouter a0), .box (c_TStaticRoute (a0.fStatics.getD p1.toNat default))]⟩ ?_)))
 obtain rfl := Option.some.inj h27
 exact round_n (le_rfl)
 have h22 := cond_f b20 h19
 refine awp_exit (then_e ?_)
 obtain rfl := Option.some.inj h22
 exact round_e ⟨rfl, Le.trans (s' := ⟨63, [(1, .ref 0 0), (13, sL 7 c_TStaticRoute a0.fStatics), (14, .int .i64 (a0.fStatics.length : Int)), (15, .int .i64 p1)], [.box (c_TRouter a0), .box (c_TStaticRoute (a0.fStatics.getD p1.toNat default))]⟩) (kp [1, 13, 14, 15]) (le_cut (n := 1) (by kernel_rfl))⟩
 intro e30 s31 o32
 rcases y7 with g8 | y9
 have h33 := elim_l h29
 obtain ⟨rfl, l35⟩ := o32
 refine inb_here (inb_n ?_)
 refine then_le (s' := ⟨63, [(1, .ref 0 0), (13, sL 7 c_TStaticRoute a0.fStatics), (14, .int .i64 (a0.fStatics.length : Int)), (15, .int .i64 p1)], [.box (c_TRouter a0)]⟩) (l35) ?_
 refine rg0 [1, 13, 14, 15] 1 ⟨63, [(1, .ref 0 0), (13, sL 7 c_TStaticRoute a0.fStatics), (14, .int .i64 (a0.fStatics.length : Int)), (15, .int .i64 (wr .i64 (p1 + 1)))], [.box (c_TRouter a0)]⟩ ?_
 obtain rfl := Option.some.inj h33
 exact round_n (le_rfl)
 have h34 := elim_r h29
 obtain ⟨rfl, n36⟩ := o32
 refine inb_r (inb_r (then_r ?_))
 obtain rfl := Option.some.inj h34
 exact round_r ⟨rfl, n36⟩
 intro k15
 refine awp_seq (rg0 [1, 3, 4, 13, 14, 15, 26] 2 ⟨63, [(1, .ref 0 0), (3, .int .i64 p1), (4, .ref 1 0), (13, sL 7 c_TStaticRoute a0.fStatics), (14, .int .i64 (a0.fStatics.length : Int)), (15, .int .i64 p1), (26, .bool (!strEq ((a0.fStatics.getD p1.toNat default).fIface) (⟨#[]⟩ : ByteArray)))], [.box (c_TRouter a0), .box (c_TStaticRoute (a0.fStatics.getD p1.toNat default))]⟩ ?_)
 refine then_n ?_
 refine cnd (!strEq ((a0.fStatics.getD p1.toNat default).fIface) (⟨#[]⟩ : ByteArray)) (fun b37 => ?_) (fun b37 => ?_)
 have h38 := cond_t b37 h14
 refine awp_seq ?_
 obtain ⟨r10, q40, h41⟩ := bind_some h38
 refine rg [.pure (.int .i64 r10)] [1, 3, 4, 5, 13, 14, 15] 2 ⟨63, [(1, .ref 0 0), (3, .int .i64 p1), (4, .ref 1 0), (5, .int .i64 r10), (13, sL 7 c_TStaticRoute a0.fStatics), (14, .int .i64 (a0.fStatics.length : Int)), (15, .int .i64 p1)], [.box (c_TRouter a0), .box (c_TStaticRoute (a0.fStatics.getD p1.toNat default))]⟩ [] [⟨true, 15, [.agg (c_TRouter a0), .str ((a0.fStatics.getD p1.toNat default).fIface)], .pure (.int .i64 r10)⟩] nil_all ⟨fun _ => model_Interface_ok a0 ((a0.fStatics.getD p1.toNat default).fIface) r10 q40, trivial⟩ ?_
 refine then_n (awp_seq (awp_seq (rg0 [1, 3, 4, 5, 13, 14, 15, 32] 2 ⟨63, [(1, .ref 0 0), (3, .int .i64 p1), (4, .ref 1 0), (5, .int .i64 r10), (13, sL 7 c_TStaticRoute a0.fStatics), (14, .int .i64 (a0.fStatics.length : Int)), (15, .int .i64 p1), (32, .bool (decide (r10 < 0)))], [.box (c_TRouter a0), .box (c_TStaticRoute (a0.fStatics.getD p1.toNat default))]⟩ ?_)))
 refine then_n ?_
 refine cnd (decide (r10 < 0)) (fun b42 => ?_) (fun b42 => ?_)
 have h43 := cond_t b42 h41
 refine awp_seq (rg0 [2] 0 ⟨63, [(2, .int .i64 5)], []⟩ ?_)
 refine then_n (awp_ret (then_r (then_r (inb_r (then_r ?_)))))
 obtain rfl := Option.some.inj h43
 exact round_r ⟨rfl, er0 (.int .i64 5)⟩
 have h44 := cond_f b42 h41
 refine awp_skip (then_n (awp_seq ?_))
 obtain ⟨c45, h46⟩ := gd_some h44
 refine rgc [1, 3, 4, 13, 14, 15, 39] 2 ⟨63, [(1, .ref 0 0), (3, .int .i64 p1), (4, .ref 1 0), (13, sL 7 c_TStaticRoute a0.fStatics), (14, .int .i64 (a0.fStatics.length : Int)), (15, .int .i64 p1), (39, .bool (((a0.fInterfaces.getD r10.toNat default).fLen) == 0))], [.box (c_TRouter a0), .box (c_TStaticRoute (a0.fStatics.getD p1.toNat default))]⟩ [decide (0 ≤ r10), decide (r10 < (a0.fInterfaces.length : Int))] c45 ?_
 refine then_n ?_
 refine cnd (((a0.fInterfaces.getD r10.toNat default).fLen) == 0) (fun b47 => ?_) (fun b47 => ?_)
 have h48 := cond_t b47 h46
 refine awp_seq (rg0 [2] 0 ⟨63, [(2, .int .i64 1)], []⟩ ?_)
 refine then_n (awp_ret (then_r (inb_r (then_r ?_))))
 obtain rfl := Option.some.inj h48
 exact round_r ⟨rfl, er0 (.int .i64 1)⟩
 have h49 := cond_f b47 h46
 refine awp_skip ?_
 exact then_le (kp [1, 3, 4, 13, 14, 15]) (k15 () h49)
 have h39 := cond_f b37 h14
 refine awp_skip ?_
 exact then_le (kp [1, 3, 4, 13, 14, 15]) (k15 () h39)
 have h7 := cond_f b5 h4
 refine awp_exit (then_e ?_)
 obtain rfl := Option.some.inj h7
 exact round_e ⟨rfl, Le.trans (s' := ⟨63, [], [.box (c_TRouter a0)]⟩) (kp []) (le_cut (n := 0) (by kernel_rfl))⟩
 intro e52 s53 o54
 rcases y11 with g12 | y13
 have h55 := elim_l h51
 obtain ⟨rfl, l57⟩ := o54
 refine inb_here ?_
 refine then_le (s' := ⟨63, [], []⟩) (l57) ?_
 refine awp_seq (rg0 [2] 0 ⟨63, [(2, .int .i64 0)], []⟩ ?_)
 refine then_n (awp_ret ?_)
 obtain rfl := Option.some.inj h55
 exact er0 (.int .i64 0)
 have h56 := elim_r h51
 obtain ⟨rfl, n58⟩ := o54
 refine inb_r (then_r ?_)
 obtain rfl := Option.some.inj h56
 exact n58

/- netverify/model.checkRedist -/
theorem model_checkRedist_ok (a0 : TRouter) (a1 : List TRedist) (a2 : Int) (a3 : Int) (a4 : Int) (a5 : Int) (r : Int) (h : M.model_checkRedist a0 a1 a2 a3 a4 a5 = some r) : Fn Try.prog 93 [.agg (c_TRouter a0), sL 5 c_TRedist a1, .int .i64 a2, .int .i64 a3, .int .i64 a4, .int .i64 a5] (.pure (.int .i64 r)) := by
 unfold M.model_checkRedist at h
 refine fn_pure Try.func93 rfl (by kernel_rfl) ?_
 refine awp_seq (rg0 [1, 2, 3, 4, 5, 6] 1 ⟨85, [(1, sL 5 c_TRedist a1), (2, .int .i64 a2), (3, .int .i64 a3), (4, .int .i64 a4), (5, .int .i64 a5), (6, .ref 0 0)], [.box (c_TRouter a0)]⟩ ?_)
 refine then_n (awp_seq (awp_seq (rg0 [1, 2, 3, 4, 5, 6, 19] 1 ⟨85, [(1, sL 5 c_TRedist a1), (2, .int .i64 a2), (3, .int .i64 a3), (4, .int .i64 a4), (5, .int .i64 a5), (6, .ref 0 0), (19, .bool (decide ((a1.length : Int) > 4)))], [.box (c_TRouter a0)]⟩ ?_)))
 refine then_n ?_
 refine cnd (decide ((a1.length : Int) > 4)) (fun b1 => ?_) (fun b1 => ?_)
 have h2 := cond_t b1 h
 refine awp_seq (rg0 [12] 0 ⟨85, [(12, .int .i64 7)], []⟩ ?_)
 refine then_n (awp_ret (then_r ?_))
 obtain rfl := Option.some.inj h2
 exact er0 (.int .i64 7)
 have h3 := cond_f b1 h
 refine awp_skip (then_n (awp_seq (awp_seq (rg0 [1, 2, 3, 4, 5, 6, 20, 21, 22] 1 ⟨85, [(1, sL 5 c_TRedist a1), (2, .int .i64 a2), (3, .int .i64 a3), (4, .int .i64 a4), (5, .int .i64 a5), (6, .ref 0 0), (20, sL 5 c_TRedist a1), (21, .int .i64 (a1.length : Int)), (22, .int .i64 0)], [.box (c_TRouter a0)]⟩ ?_))))
 refine then_n (awp_block ?_)
 obtain ⟨y13, q46, h47⟩ := bind_some h3
 refine awp_le (s' := ⟨85, [(1, sL 5 c_TRedist a1), (2, .int .i64 a2), (3, .int .i64 a3), (4, .int .i64 a4), (5, .int .i64 a5), (6, .ref 0 0), (20, sL 5 c_TRedist a1), (21, .int .i64 (a1.length : Int)), (22, .int .i64 0)], [.box (c_TRouter a0)]⟩) (le_rfl) ?_
 refine awp_mono (awp_loop (f := M.model_checkRedist_l1 a0 a1 a2 a3 a4 a5) (S := fun (p1 : Int) => ⟨85, [(1, sL 5 c_TRedist a1), (2, .int .i64 a2), (3, .int .i64 a3), (4, .int .i64 a4), (5, .int .i64 a5), (6, .ref 0 0), (20, sL 5 c_TRedist a1), (21, .int .i64 (a1.length : Int)), (22, .int .i64 p1)], [.box (c_TRouter a0)]⟩) (O := (Sum.elim (fun z => OutE 0 (fun z => ⟨85, [], []⟩) z) (fun z => OutR Try.prog Try.f93 (.int .i64 z)))) ?_ (x := 0) (y := y13) (loopM_iter q46)) ?_
 intro p1 y2 h4
 unfold M.model_checkRedist_l1 at h4
 refine awp_seq (rg0 [1, 2, 3, 4, 5, 6, 20, 21, 22, 23] 1 ⟨85, [(1, sL 5 c_TRedist a1), (2, .int .i64 a2), (3, .int .i64 a3), (4, .int .i64 a4), (5, .int .i64 a5), (6, .ref 0 0), (20, sL 5 c_TRedist a1), (21, .int .i64 (a1.length : Int)), (22, .int .i64 p1), (23, .bool (decide (p1 < (a1.length : Int))))], [.box (c_TRouter a0)]⟩ ?_)
 refine then_n (awp_seq ?_)
 refine cnd (decide (p1 < (a1.length : Int))) (fun b5 => ?_) (fun b5 => ?_)
 have h6 := cond_t b5 h4
 refine awp_skip (then_n (awp_seq (awp_block (awp_seq ?_))))
 obtain ⟨c8, h9⟩ := gd_some h6
 refine rgc [1, 2, 3, 4, 5, 6, 13, 14, 20, 21, 22] 2 ⟨85, [(1, sL 5 c_TRedist a1), (2, .int .i64 a2), (3, .int .i64 a3), (4, .int .i64 a4), (5, .int .i64 a5), (6, .ref 0 0), (13, .int .i64 p1), (14, .ref 1 0), (20, sL 5 c_TRedist a1), (21, .int .i64 (a1.length : Int)), (22, .int .i64 p1)], [.box (c_TRouter a0), .box (c_TRedist (a1.getD p1.toNat default))]⟩ [decide (0 ≤ p1), decide (p1 < (a1.length : Int))] c8 ?_
 refine then_n (awp_seq (awp_seq ?_))
 obtain ⟨r3, q10, h11⟩ := bind_some h9
 obtain ⟨r4, q12, h13⟩ := bind_some h11
 obtain ⟨r5, q14, h15⟩ := bind_some h13
 obtain ⟨r6, q16, h17⟩ := bind_some h15
 refine rg [.pure (.bool r3), .pure (.bool r4), .pure (.bool r5), .pure (.bool r6)] [1, 2, 3, 4, 5, 6, 13, 14, 20, 21, 22, 59] 2 ⟨85, [(1, sL 5 c_TRedist a1), (2, .int .i64 a2), (3, .int .i64 a3), (4, .int .i64 a4), (5, .int .i64 a5), (6, .ref 0 0), (13, .int .i64 p1), (14, .ref 1 0), (20, sL 5 c_TRedist a1), (21, .int .i64 (a1.length : Int)), (22, .int .i64 p1), (59, .bool (((((!r3) || (((a1.getD p1.toNat default).fFrom) == a2)) || (!r4)) || (!r5)) || (!r6)))], [.box (c_TRouter a0), .box (c_TRedist (a1.getD p1.toNat default))]⟩ [] [⟨true, 61, [.int .i64 ((a1.getD p1.toNat default).fFrom), .int .i64 1, .int .i64 5], .pure (.bool r3)⟩, ⟨(!((!r3) || (((a1.getD p1.toNat default).fFrom) == a2))), 61, [.int .i64 ((a1.getD p1.toNat default).fMetric), .int .i64 a3, .int .i64 a4], .pure (.bool r4)⟩, ⟨(!(((!r3) || (((a1.getD p1.toNat default).fFrom) == a2)) || (!r4))), 61, [.int .i64 ((a1.getD p1.toNat default).fTag), .int .i64 0, .int .i64 65535], .pure (.bool r5)⟩, ⟨(!((((!r3) || (((a1.getD p1.toNat default).fFrom) == a2)) || (!r4)) || (!r5))), 61, [.int .i64 ((a1.getD p1.toNat default).fType), .int .i64 (if a5 < 1 then a5 else 1), .int .i64 a5], .pure (.bool r6)⟩] nil_all ⟨fun _ => model_within_ok ((a1.getD p1.toNat default).fFrom) 1 5 r3 q10, fun hg => model_within_ok ((a1.getD p1.toNat default).fMetric) a3 a4 r4 (gc_some q12 hg), fun hg => model_within_ok ((a1.getD p1.toNat default).fTag) 0 65535 r5 (gc_some q14 hg), fun hg => model_within_ok ((a1.getD p1.toNat default).fType) (if a5 < 1 then a5 else 1) a5 r6 (gc_some q16 hg), trivial⟩ ?_
 refine then_n ?_
 refine cnd (((((!r3) || (((a1.getD p1.toNat default).fFrom) == a2)) || (!r4)) || (!r5)) || (!r6)) (fun b18 => ?_) (fun b18 => ?_)
 have h19 := cond_t b18 h17
 refine awp_seq (rg0 [12] 0 ⟨85, [(12, .int .i64 1)], []⟩ ?_)
 refine then_n (awp_ret (then_r (inb_r (then_r ?_))))
 obtain rfl := Option.some.inj h19
 exact round_r ⟨rfl, er0 (.int .i64 1)⟩
 have h20 := cond_f b18 h17
 refine awp_skip (then_n (awp_seq (awp_seq ?_)))
 obtain ⟨r7, q21, h22⟩ := bind_some h20
 refine rg [.pure (.int .i64 r7)] [1, 2, 3, 4, 5, 6, 13, 14, 20, 21, 22, 69] 2 ⟨85, [(1, sL 5 c_TRedist a1), (2, .int .i64 a2), (3, .int .i64 a3), (4, .int .i64 a4), (5, .int .i64 a5), (6, .ref 0 0), (13, .int .i64 p1), (14, .ref 1 0), (20, sL 5 c_TRedist a1), (21, .int .i64 (a1.length : Int)), (22, .int .i64 p1), (69, .bool ((!strEq ((a1.getD p1.toNat default).fMap) (⟨#[]⟩ : ByteArray)) && (decide (r7 < 0))))], [.box (c_TRouter a0), .box (c_TRedist (a1.getD p1.toNat default))]⟩ [] [⟨!strEq ((a1.getD p1.toNat default).fMap) (⟨#[]⟩ : ByteArray), 19, [.agg (c_TRouter a0), .str ((a1.getD p1.toNat default).fMap)], .pure (.int .i64 r7)⟩] nil_all ⟨fun hg => model_RouteMap_ok a0 ((a1.getD p1.toNat default).fMap) r7 (gc_some q21 hg), trivial⟩ ?_
 refine then_n ?_
 refine cnd ((!strEq ((a1.getD p1.toNat default).fMap) (⟨#[]⟩ : ByteArray)) && (decide (r7 < 0))) (fun b23 => ?_) (fun b23 => ?_)
 have h24 := cond_t b23 h22
 refine awp_seq (rg0 [12] 0 ⟨85, [(12, .int .i64 5)], []⟩ ?_)
 refine then_n (awp_ret (then_r (inb_r (then_r ?_))))
 obtain rfl := Option.some.inj h24
 exact round_r ⟨rfl, er0 (.int .i64 5)⟩
 have h25 := cond_f b23 h22
 refine awp_skip (then_n (awp_seq ?_))
 obtain ⟨c26, h27⟩ := gd_some h25
 refine rgc [1, 2, 3, 4, 5, 6, 14, 20, 21, 22, 72, 73, 74] 2 ⟨85, [(1, sL 5 c_TRedist a1), (2, .int .i64 a2), (3, .int .i64 a3), (4, .int .i64 a4), (5, .int .i64 a5), (6, .ref 0 0), (14, .ref 1 0), (20, sL 5 c_TRedist a1), (21, .int .i64 (a1.length : Int)), (22, .int .i64 p1), (72, .sl false 5 (p1.toNat - 0) (fun i => c_TRedist (a1.getD (0 + i) default))), (73, .int .i64 ((p1.toNat - 0 : Nat) : Int)), (74, .int .i64 0)], [.box (c_TRouter a0), .box (c_TRedist (a1.getD p1.toNat default))]⟩ [decide (0 ≤ p1), decide (p1 ≤ (a1.length : Int))] c26 ?_
 refine then_le (s' := ⟨85, [(1, sL 5 c_TRedist a1), (2, .int .i64 a2), (3, .int .i64 a3), (4, .int .i64 a4), (5, .int .i64 a5), (6, .ref 0 0), (14, .ref 1 0), (20, sL 5 c_TRedist a1), (21, .int .i64 (a1.length : Int)), (22, .int .i64 p1), (72, sL 5 c_TRedist ((a1.drop 0).take (p1.toNat - 0))), (73, .int .i64 ((p1.toNat - 0 : Nat) : Int)), (74, .int .i64 0)], [.box (c_TRouter a0), .box (c_TRedist (a1.getD p1.toNat default))]⟩) (le_sub (.cons Sub.rfl (.cons Sub.rfl (.cons Sub.rfl (.cons Sub.rfl (.cons Sub.rfl (.cons Sub.rfl (.cons Sub.rfl (.cons Sub.rfl (.cons Sub.rfl (.cons Sub.rfl (.cons (sub_sl (len_cut _ _ _ (cut_hi (c26 _ (List.mem_cons_of_mem _ List.mem_cons_self)))) (cut_ext _ _ _ _)) (.cons Sub.rfl (.cons Sub.rfl .nil))))))))))))) (.cons .rfl (.cons .rfl .nil))) ?_
 refine awp_block ?_
 obtain ⟨y10, q37, h38⟩ := bind_some h27
 refine awp_le (s' := ⟨85, [(1, sL 5 c_TRedist a1), (2, .int .i64 a2), (3, .int .i64 a3), (4, .int .i64 a4), (5, .int .i64 a5), (6, .ref 0 0), (14, .ref 1 0), (20, sL 5 c_TRedist a1), (21, .int .i64 (a1.length : Int)), (22, .int .i64 p1), (72, sL 5 c_TRedist ((a1.drop 0).take (p1.toNat - 0))), (73, .int .i64 ((p1.toNat - 0 : Nat) : Int)), (74, .int .i64 0)], [.box (c_TRouter a0), .box (c_TRedist (a1.getD p1.toNat default))]⟩) (le_rfl) ?_
 refine awp_mono (awp_loop (f := M.model_checkRedist_l2 a1 p1) (S := fun (p8 : Int) => ⟨85, [(1, sL 5 c_TRedist a1), (2, .int .i64 a2), (3, .int .i64 a3), (4, .int .i64 a4), (5, .int .i64 a5), (6, .ref 0 0), (14, .ref 1 0), (20, sL 5 c_TRedist a1), (21, .int .i64 (a1.length : Int)), (22, .int .i64 p1), (72, sL 5 c_TRedist ((a1.drop 0).take (p1.toNat - 0))), (73, .int .i64 ((p1.toNat - 0 : Nat) : Int)), (74, .int .i64 p8)], [.box (c_TRouter a0), .box (c_TRedist (a1.getD p1.toNat default))]⟩) (O := (Sum.elim (fun z => OutE 2 (fun z => ⟨85, [(1, sL 5 c_TRedist a1), (2, .int .i64 a2), (3, .int .i64 a3), (4, .int .i64 a4), (5, .int .i64 a5), (6, .ref 0 0), (20, sL 5 c_TRedist a1), (21, .int .i64 (a1.length : Int)), (22, .int .i64 p1)], [.box (c_TRouter a0)]⟩) z) (fun z => OutR Try.prog Try.f93 (.int .i64 z)))) ?_ (x := 0) (y := y10) (loopM_iter q37)) ?_
 intro p8 y9 h28
 unfold M.model_checkRedist_l2 at h28
 refine awp_seq (rg0 [1, 2, 3, 4, 5, 6, 14, 20, 21, 22, 72, 73, 74, 75] 2 ⟨85, [(1, sL 5 c_TRedist a1), (2, .int .i64 a2), (3, .int .i64 a3), (4, .int .i64 a4), (5, .int .i64 a5), (6, .ref 0 0), (14, .ref 1 0), (20, sL 5 c_TRedist a1), (21, .int .i64 (a1.length : Int)), (22, .int .i64 p1), (72, sL 5 c_TRedist ((a1.drop 0).take (p1.toNat - 0))), (73, .int .i64 ((p1.toNat - 0 : Nat) : Int)), (74, .int .i64 p8), (75, .bool (decide (p8 < ((p1.toNat - 0 : Nat) : Int))))], [.box (c_TRouter a0), .box (c_TRedist (a1.getD p1.toNat default))]⟩ ?_)
 refine then_n (awp_seq ?_)
 refine cnd (decide (p8 < ((p1.toNat - 0 : Nat) : Int))) (fun b29 => ?_) (fun b29 => ?_)
 have h30 := cond_t b29 h28
 refine awp_skip (then_n (awp_seq (awp_block (awp_seq ?_))))
 obtain ⟨c32, h33⟩ := gd_some h30
 refine rgc [1, 2, 3, 4, 5, 6, 14, 16, 20, 21, 22, 72, 73, 74] 3 ⟨85, [(1, sL 5 c_TRedist a1), (2, .int .i64 a2), (3, .int .i64 a3), (4, .int .i64 a4), (5, .int .i64 a5), (6, .ref 0 0), (14, .ref 1 0), (16, .ref 2 0), (20, sL 5 c_TRedist a1), (21, .int .i64 (a1.length : Int)), (22, .int .i64 p1), (72, sL 5 c_TRedist ((a1.drop 0).take (p1.toNat - 0))), (73, .int .i64 ((p1.toNat - 0 : Nat) : Int)), (74, .int .i64 p8)], [.box (c_TRouter a0), .box (c_TRedist (a1.getD p1.toNat default)), .box (c_TRedist (((a1.drop 0).take (p1.toNat - 0)).getD p8.toNat default))]⟩ [decide (0 ≤ p8), decide (p8 < (((a1.drop 0).take (p1.toNat - 0)).length : Int))] c32 ?_
 refine then_n (awp_seq (rg0 [1, 2, 3, 4, 5, 6, 14, 20, 21, 22, 72, 73, 74, 82] 2 ⟨85, [(1, sL 5 c_TRedist a1), (2, .int .i64 a2), (3, .int .i64 a3), (4, .int .i64 a4), (5, .int .i64 a5), (6, .ref 0 0), (14, .ref 1 0), (20, sL 5 c_TRedist a1), (21, .int .i64 (a1.length : Int)), (22, .int .i64 p1), (72, sL 5 c_TRedist ((a1.drop 0).take (p1.toNat - 0))), (73, .int .i64 ((p1.toNat - 0 : Nat) : Int)), (74, .int .i64 p8), (82, .bool (((((a1.drop 0).take (p1.toNat - 0)).getD p8.toNat default).fFrom) == ((a1.getD p1.toNat default).fFrom)))], [.box (c_TRouter a0), .box (c_TRedist (a1.getD p1.toNat default))]⟩ ?_))
 refine then_n ?_
 refine cnd (((((a1.drop 0).take (p1.toNat - 0)).getD p8.toNat default).fFrom) == ((a1.getD p1.toNat default).fFrom)) (fun b34 => ?_) (fun b34 => ?_)
 have h35 := cond_t b34 h33
 refine awp_seq (rg0 [12] 0 ⟨85, [(12, .int .i64 4)], []⟩ ?_)
 refine then_n (awp_ret (inb_r (then_r ?_)))
 obtain rfl := Option.some.inj h35
 exact round_r ⟨rfl, er0 (.int .i64 4)⟩
 have h36 := cond_f b34 h33
 refine awp_skip (inb_n (then_n (rg0 [1, 2, 3, 4, 5, 6, 14, 20, 21, 22, 72, 73, 74] 2 ⟨85, [(1, sL 5 c_TRedist a1), (2, .int .i64 a2), (3, .int .i64 a3), (4, .int .i64 a4), (5, .int .i64 a5), (6, .ref 0 0), (14, .ref 1 0), (20, sL 5 c_TRedist a1), (21, .int .i64 (a1.length : Int)), (22, .int .i64 p1), (72, sL 5 c_TRedist ((a1.drop 0).take (p1.toNat - 0))), (73, .int .i64 ((p1.toNat - 0 : Nat) : Int)), (74, .int .i64 (wr .i64 (p8 + 1)))], [.box (c_TRouter a0), .box (c_TRedist (a1.getD p1.toNat default))]⟩ ?_)))
 obtain rfl := Option.some.inj h36
 exact round_n (le_rfl)
 have h31 := cond_f b29 h28
 refine awp_exit (then_e ?_)
 obtain rfl := Option.some.inj h31
 exact round_e ⟨rfl, Le.trans (s' := ⟨85, [(1, sL 5 c_TRedist a1), (2, .int .i64 a2), (3, .int .i64 a3), (4, .int .i64 a4), (5, .int .i64 a5), (6, .ref 0 0), (20, sL 5 c_TRedist a1), (21, .int .i64 (a1.length : Int)), (22, .int .i64 p1)], [.box (c_TRouter a0), .box (c_TRedist (a1.getD p1.toNat default))]⟩) (kp [1, 2, 3, 4, 5, 6, 20, 21, 22]) (le_cut (n := 1) (by kernel_rfl))⟩
 intro e39 s40 o41
 rcases y10 with g11 | y12
 have h42 := elim_l h38
 obtain ⟨rfl, l44⟩ := o41
 refine inb_here (inb_n ?_)
 refine then_le (s' := ⟨85, [(1, sL 5 c_TRedist a1), (2, .int .i64 a2), (3, .int .i64 a3), (4, .int .i64 a4), (5, .int .i64 a5), (6, .ref 0 0), (20, sL 5 c_TRedist a1), (21, .int .i64 (a1.length : Int)), (22, .int .i64 p1)], [.box (c_TRouter a0)]⟩) (l44) ?_
 refine rg0 [1, 2, 3, 4, 5, 6, 20, 21, 22] 1 ⟨85, [(1, sL 5 c_TRedist a1), (2, .int .i64 a2), (3, .int .i64 a3), (4, .int .i64 a4), (5, .int .i64 a5), (6, .ref 0 0), (20, sL 5 c_TRedist a1), (21, .int .i64 (a1.length : Int)), (22, .int .i64 (wr .i64 (p1 + 1)))], [.box (c_TRouter a0)]⟩ ?_
 obtain rfl := Option.some.inj h42
 exact round_n (le_rfl)
 have h43 := elim_r h38
 obtain ⟨rfl, n45⟩ := o41
 refine inb_r (inb_r (then_r ?_))
 obtain rfl := Option.some.inj h43
 exact round_r ⟨rfl, n45⟩
 have h7 := cond_f b5 h4
 refine awp_exit (then_e ?_)
 obtain rfl := Option.some.inj h7
 exact round_e ⟨rfl, Le.trans (s' := ⟨85, [], [.box (c_TRouter a0)]⟩) (kp []) (le_cut (n := 0) (by kernel_rfl))⟩
 intro e48 s49 o50
 rcases y13 with g14 | y15
 have h51 := elim_l h47
 obtain ⟨rfl, l53⟩ := o50
 refine inb_here ?_
 refine then_le (s' := ⟨85, [], []⟩) (l53) ?_
 refine awp_seq (rg0 [12] 0 ⟨85, [(12, .int .i64 0)], []⟩ ?_)
 refine then_n (awp_ret ?_)
 obtain rfl := Option.some.inj h51
 exact er0 (.int .i64 0)
 have h52 := elim_r h47
 obtain ⟨rfl, n54⟩ := o50
 refine inb_r (then_r ?_)
 obtain rfl := Option.some.inj h52
 exact n54

/- netverify/model.checkLinkState -/
theorem model_checkLinkState_ok (a0 : TRouter) (r : Int) (h : M.model_checkLinkState a0 = some r) : Fn Try.prog 69 [.agg (c_TRouter a0)] (.pure (.int .i64 r)) := by
 unfold M.model_checkLinkState at h
 refine fn_pure Try.func69 rfl (by kernel_rfl) ?_
 refine awp_seq (rg0 [1] 1 ⟨81, [(1, .ref 0 0)], [.box (c_TRouter a0)]⟩ ?_)
 refine then_n (awp_seq (rg0 [1, 3] 2 ⟨81, [(1, .ref 0 0), (3, .ref 1 0)], [.box (c_TRouter a0), .box (c_TLinkState a0.fLS)]⟩ ?_))
 refine then_n (awp_seq (awp_seq (rg0 [1, 3, 12] 2 ⟨81, [(1, .ref 0 0), (3, .ref 1 0), (12, .bool (!a0.fLS.fOn))], [.box (c_TRouter a0), .box (c_TLinkState a0.fLS)]⟩ ?_)))
 refine then_n ?_
 refine cnd (!a0.fLS.fOn) (fun b1 => ?_) (fun b1 => ?_)
 have h2 := cond_t b1 h
 refine awp_seq (awp_seq (rg0 [27] 0 ⟨81, [(27, .bool (((a0.fLS.fAdmin != 0) || (decide ((a0.fLS.fRanges.length : Int) > 0))) || (decide ((a0.fLS.fRedist.length : Int) > 0))))], []⟩ ?_))
 refine then_n ?_
 refine cnd (((a0.fLS.fAdmin != 0) || (decide ((a0.fLS.fRanges.length : Int) > 0))) || (decide ((a0.fLS.fRedist.length : Int) > 0))) (fun b4 => ?_) (fun b4 => ?_)
 have h5 := cond_t b4 h2
 refine awp_seq (rg0 [2] 0 ⟨81, [(2, .int .i64 1)], []⟩ ?_)
 refine then_n (awp_ret (then_r (then_r ?_)))
 obtain rfl := Option.some.inj h5
 exact er0 (.int .i64 1)
 have h6 := cond_f b4 h2
 refine awp_skip (then_n (awp_seq (rg0 [2] 0 ⟨81, [(2, .int .i64 0)], []⟩ ?_)))
 refine then_n (awp_ret (then_r ?_))
 obtain rfl := Option.some.inj h6
 exact er0 (.int .i64 0)
 have h3 := cond_f b1 h
 refine awp_skip (then_n (awp_seq (awp_seq ?_)))
 obtain ⟨r1, q7, h8⟩ := bind_some h3
 refine rg [.pure (.bool r1)] [1, 3, 31] 2 ⟨81, [(1, .ref 0 0), (3, .ref 1 0), (31, .bool (!r1))], [.box (c_TRouter a0), .box (c_TLinkState a0.fLS)]⟩ [] [⟨true, 61, [.int .i64 a0.fLS.fAdmin, .int .i64 1, .int .i64 255], .pure (.bool r1)⟩] nil_all ⟨fun _ => model_within_ok a0.fLS.fAdmin 1 255 r1 q7, trivial⟩ ?_
 refine then_n ?_
 refine cnd (!r1) (fun b9 => ?_) (fun b9 => ?_)
 have h10 := cond_t b9 h8
 refine awp_seq (rg0 [2] 0 ⟨81, [(2, .int .i64 1)], []⟩ ?_)
 refine then_n (awp_ret (then_r ?_))
 obtain rfl := Option.some.inj h10
 exact er0 (.int .i64 1)
 have h11 := cond_f b9 h8
 refine awp_skip (then_n (awp_seq (awp_seq (rg0 [1, 3, 35] 2 ⟨81, [(1, .ref 0 0), (3, .ref 1 0), (35, .bool (decide ((a0.fLS.fRanges.length : Int) > 4)))], [.box (c_TRouter a0), .box (c_TLinkState a0.fLS)]⟩ ?_))))
 refine then_n ?_
 refine cnd (decide ((a0.fLS.fRanges.length : Int) > 4)) (fun b12 => ?_) (fun b12 => ?_)
 have h13 := cond_t b12 h11
 refine awp_seq (rg0 [2] 0 ⟨81, [(2, .int .i64 7)], []⟩ ?_)
 refine then_n (awp_ret (then_r ?_))
 obtain rfl := Option.some.inj h13
 exact er0 (.int .i64 7)
 have h14 := cond_f b12 h11
 refine awp_skip (then_n (awp_seq (awp_seq (rg0 [1, 3, 37, 38, 39] 2 ⟨81, [(1, .ref 0 0), (3, .ref 1 0), (37, sL 3 c_TAreaRange a0.fLS.fRanges), (38, .int .i64 (a0.fLS.fRanges.length : Int)), (39, .int .i64 0)], [.box (c_TRouter a0), .box (c_TLinkState a0.fLS)]⟩ ?_))))
 refine then_n (awp_block ?_)
 obtain ⟨y12, q50, h51⟩ := bind_some h14
 refine awp_le (s' := ⟨81, [(1, .ref 0 0), (3, .ref 1 0), (37, sL 3 c_TAreaRange a0.fLS.fRanges), (38, .int .i64 (a0.fLS.fRanges.length : Int)), (39, .int .i64 0)], [.box (c_TRouter a0), .box (c_TLinkState a0.fLS)]⟩) (le_rfl) ?_
 refine awp_mono (awp_loop (f := M.model_checkLinkState_l1 a0) (S := fun (p2 : Int) => ⟨81, [(1, .ref 0 0), (3, .ref 1 0), (37, sL 3 c_TAreaRange a0.fLS.fRanges), (38, .int .i64 (a0.fLS.fRanges.length : Int)), (39, .int .i64 p2)], [.box (c_TRouter a0), .box (c_TLinkState a0.fLS)]⟩) (O := (Sum.elim (fun z => OutE 0 (fun z => ⟨81, [(1, .ref 0 0), (3, .ref 1 0)], [.box (c_TRouter a0), .box (c_TLinkState a0.fLS)]⟩) z) (fun z => OutR Try.prog Try.f69 (.int .i64 z)))) ?_ (x := 0) (y := y12) (loopM_iter q50)) ?_
 intro p2 y3 h15
 unfold M.model_checkLinkState_l1 at h15
 refine awp_seq (rg0 [1, 3, 37, 38, 39, 40] 2 ⟨81, [(1, .ref 0 0), (3, .ref 1 0), (37, sL 3 c_TAreaRange a0.fLS.fRanges), (38, .int .i64 (a0.fLS.fRanges.length : Int)), (39, .int .i64 p2), (40, .bool (decide (p2 < (a0.fLS.fRanges.length : Int))))], [.box (c_TRouter a0), .box (c_TLinkState a0.fLS)]⟩ ?_)
 refine then_n (awp_seq ?_)
 refine cnd (decide (p2 < (a0.fLS.fRanges.length : Int))) (fun b16 => ?_) (fun b16 => ?_)
 have h17 := cond_t b16 h15
 refine awp_skip (then_n (awp_seq (awp_block (awp_seq ?_))))
 obtain ⟨c19, h20⟩ := gd_some h17
 refine rgc [1, 3, 4, 5, 37, 38, 39] 3 ⟨81, [(1, .ref 0 0), (3, .ref 1 0), (4, .int .i64 p2), (5, .ref 2 0), (37, sL 3 c_TAreaRange a0.fLS.fRanges), (38, .int .i64 (a0.fLS.fRanges.length : Int)), (39, .int .i64 p2)], [.box (c_TRouter a0), .box (c_TLinkState a0.fLS), .box (c_TAreaRange (a0.fLS.fRanges.getD p2.toNat default))]⟩ [decide (0 ≤ p2), decide (p2 < (a0.fLS.fRanges.length : Int))] c19 ?_
 refine then_n (awp_seq (awp_seq ?_))
 obtain ⟨r4, q21, h22⟩ := bind_some h20
 obtain ⟨r5, q23, h24⟩ := bind_some h22
 refine rg [.pure (.bool r4), .pure (.bool r5)] [1, 3, 4, 5, 37, 38, 39, 53] 3 ⟨81, [(1, .ref 0 0), (3, .ref 1 0), (4, .int .i64 p2), (5, .ref 2 0), (37, sL 3 c_TAreaRange a0.fLS.fRanges), (38, .int .i64 (a0.fLS.fRanges.length : Int)), (39, .int .i64 p2), (53, .bool ((!r4) || (!r5)))], [.box (c_TRouter a0), .box (c_TLinkState a0.fLS), .box (c_TAreaRange (a0.fLS.fRanges.getD p2.toNat default))]⟩ [] [⟨true, 61, [.int .i64 ((a0.fLS.fRanges.getD p2.toNat default).fArea), .int .i64 0, .int .i64 255], .pure (.bool r4)⟩, ⟨(!(!r4)), 88, [.agg (c_TPrefix ((a0.fLS.fRanges.getD p2.toNat default).fPrefix))], .pure (.bool r5)⟩] nil_all ⟨fun _ => model_within_ok ((a0.fLS.fRanges.getD p2.toNat default).fArea) 0 255 r4 q21, fun hg => addr_Valid_ok ((a0.fLS.fRanges.getD p2.toNat default).fPrefix) r5 (gc_some q23 hg), trivial⟩ ?_
 refine then_n ?_
 refine cnd ((!r4) || (!r5)) (fun b25 => ?_) (fun b25 => ?_)
 have h26 := cond_t b25 h24
 refine awp_seq (rg0 [2] 0 ⟨81, [(2, .int .i64 1)], []⟩ ?_)
 refine then_n (awp_ret (then_r (inb_r (then_r ?_))))
 obtain rfl := Option.some.inj h26
 exact round_r ⟨rfl, er0 (.int .i64 1)⟩
 have h27 := cond_f b25 h24
 refine awp_skip (then_n (awp_seq ?_))
 obtain ⟨c28, h29⟩ := gd_some h27
 refine rgc [1, 3, 5, 37, 38, 39, 57, 58, 59] 3 ⟨81, [(1, .ref 0 0), (3, .ref 1 0), (5, .ref 2 0), (37, sL 3 c_TAreaRange a0.fLS.fRanges), (38, .int .i64 (a0.fLS.fRanges.length : Int)), (39, .int .i64 p2), (57, .sl false 3 (p2.toNat - 0) (fun i => c_TAreaRange (a0.fLS.fRanges.getD (0 + i) default))), (58, .int .i64 ((p2.toNat - 0 : Nat) : Int)), (59, .int .i64 0)], [.box (c_TRouter a0), .box (c_TLinkState a0.fLS), .box (c_TAreaRange (a0.fLS.fRanges.getD p2.toNat default))]⟩ [decide (0 ≤ p2), decide (p2 ≤ (a0.fLS.fRanges.length : Int))] c28 ?_
 refine then_le (s' := ⟨81, [(1, .ref 0 0), (3, .ref 1 0), (5, .ref 2 0), (37, sL 3 c_TAreaRange a0.fLS.fRanges), (38, .int .i64 (a0.fLS.fRanges.length : Int)), (39, .int .i64 p2), (57, sL 3 c_TAreaRange ((a0.fLS.fRanges.drop 0).take (p2.toNat - 0))), (58, .int .i64 ((p2.toNat - 0 : Nat) : Int)), (59, .int .i64 0)], [.box (c_TRouter a0), .box (c_TLinkState a0.fLS), .box (c_TAreaRange (a0.fLS.fRanges.getD p2.toNat default))]⟩) (le_sub (.cons Sub.rfl (.cons Sub.rfl (.cons Sub.rfl (.cons Sub.rfl (.cons Sub.rfl (.cons Sub.rfl (.cons (sub_sl (len_cut _ _ _ (cut_hi (c28 _ (List.mem_cons_of_mem _ List.mem_cons_self)))) (cut_ext _ _ _ _)) (.cons Sub.rfl (.cons Sub.rfl .nil))))))))) (.cons .rfl (.cons .rfl (.cons .rfl .nil)))) ?_
 refine awp_block ?_
 obtain ⟨y9, q41, h42⟩ := bind_some h29
 refine awp_le (s' := ⟨81, [(1, .ref 0 0), (3, .ref 1 0), (5, .ref 2 0), (37, sL 3 c_TAreaRange a0.fLS.fRanges), (38, .int .i64 (a0.fLS.fRanges.length : Int)), (39, .int .i64 p2), (57, sL 3 c_TAreaRange ((a0.fLS.fRanges.drop 0).take (p2.toNat - 0))), (58, .int .i64 ((p2.toNat - 0 : Nat) : Int)), (59, .int .i64 0)], [.box (c_TRouter a0), .box (c_TLinkState a0.fLS), .box (c_TAreaRange (a0.fLS.fRanges.getD p2.toNat default))]⟩) (le_rfl) ?_
 refine awp_mono (awp_loop (f := M.model_checkLinkState_l2 a0 p2) (S := fun (p6 : Int) => ⟨81, [(1, .ref 0 0), (3, .ref 1 0), (5, .ref 2 0), (37, sL 3 c_TAreaRange a0.fLS.fRanges), (38, .int .i64 (a0.fLS.fRanges.length : Int)), (39, .int .i64 p2), (57, sL 3 c_TAreaRange ((a0.fLS.fRanges.drop 0).take (p2.toNat - 0))), (58, .int .i64 ((p2.toNat - 0 : Nat) : Int)), (59, .int .i64 p6)], [.box (c_TRouter a0), .box (c_TLinkState a0.fLS), .box (c_TAreaRange (a0.fLS.fRanges.getD p2.toNat default))]⟩) (O := (Sum.elim (fun z => OutE 2 (fun z => ⟨81, [(1, .ref 0 0), (3, .ref 1 0), (37, sL 3 c_TAreaRange a0.fLS.fRanges), (38, .int .i64 (a0.fLS.fRanges.length : Int)), (39, .int .i64 p2)], [.box (c_TRouter a0), .box (c_TLinkState a0.fLS)]⟩) z) (fun z => OutR Try.prog Try.f69 (.int .i64 z)))) ?_ (x := 0) (y := y9) (loopM_iter q41)) ?_
 intro p6 y7 h30
 unfold M.model_checkLinkState_l2 at h30
 refine awp_seq (rg0 [1, 3, 5, 37, 38, 39, 57, 58, 59, 60] 3 ⟨81, [(1, .ref 0 0), (3, .ref 1 0), (5, .ref 2 0), (37, sL 3 c_TAreaRange a0.fLS.fRanges), (38, .int .i64 (a0.fLS.fRanges.length : Int)), (39, .int .i64 p2), (57, sL 3 c_TAreaRange ((a0.fLS.fRanges.drop 0).take (p2.toNat - 0))), (58, .int .i64 ((p2.toNat - 0 : Nat) : Int)), (59, .int .i64 p6), (60, .bool (decide (p6 < ((p2.toNat - 0 : Nat) : Int))))], [.box (c_TRouter a0), .box (c_TLinkState a0.fLS), .box (c_TAreaRange (a0.fLS.fRanges.getD p2.toNat default))]⟩ ?_)
 refine then_n (awp_seq ?_)
 refine cnd (decide (p6 < ((p2.toNat - 0 : Nat) : Int))) (fun b31 => ?_) (fun b31 => ?_)
 have h32 := cond_t b31 h30
 refine awp_skip (then_n (awp_seq (awp_block (awp_seq ?_))))
 obtain ⟨c34, h35⟩ := gd_some h32
 refine rgc [1, 3, 5, 7, 37, 38, 39, 57, 58, 59] 4 ⟨81, [(1, .ref 0 0), (3, .ref 1 0), (5, .ref 2 0), (7, .ref 3 0), (37, sL 3 c_TAreaRange a0.fLS.fRanges), (38, .int .i64 (a0.fLS.fRanges.length : Int)), (39, .int .i64 p2), (57, sL 3 c_TAreaRange ((a0.fLS.fRanges.drop 0).take (p2.toNat - 0))), (58, .int .i64 ((p2.toNat - 0 : Nat) : Int)), (59, .int .i64 p6)], [.box (c_TRouter a0), .box (c_TLinkState a0.fLS), .box (c_TAreaRange (a0.fLS.fRanges.getD p2.toNat default)), .box (c_TAreaRange (((a0.fLS.fRanges.drop 0).take (p2.toNat - 0)).getD p6.toNat default))]⟩ [decide (0 ≤ p6), decide (p6 < (((a0.fLS.fRanges.drop 0).take (p2.toNat - 0)).length : Int))] c34 ?_
 refine then_n (awp_seq ?_)
 obtain ⟨r8, q36, h37⟩ := bind_some h35
 refine rg [.pure (.bool r8)] [1, 3, 5, 37, 38, 39, 57, 58, 59, 74] 3 ⟨81, [(1, .ref 0 0), (3, .ref 1 0), (5, .ref 2 0), (37, sL 3 c_TAreaRange a0.fLS.fRanges), (38, .int .i64 (a0.fLS.fRanges.length : Int)), (39, .int .i64 p2), (57, sL 3 c_TAreaRange ((a0.fLS.fRanges.drop 0).take (p2.toNat - 0))), (58, .int .i64 ((p2.toNat - 0 : Nat) : Int)), (59, .int .i64 p6), (74, .bool ((((((a0.fLS.fRanges.drop 0).take (p2.toNat - 0)).getD p6.toNat default).fArea) == ((a0.fLS.fRanges.getD p2.toNat default).fArea)) && r8))], [.box (c_TRouter a0), .box (c_TLinkState a0.fLS), .box (c_TAreaRange (a0.fLS.fRanges.getD p2.toNat default))]⟩ [] [⟨((((a0.fLS.fRanges.drop 0).take (p2.toNat - 0)).getD p6.toNat default).fArea) == ((a0.fLS.fRanges.getD p2.toNat default).fArea), 85, [.agg (c_TPrefix ((((a0.fLS.fRanges.drop 0).take (p2.toNat - 0)).getD p6.toNat default).fPrefix)), .agg (c_TPrefix ((a0.fLS.fRanges.getD p2.toNat default).fPrefix))], .pure (.bool r8)⟩] nil_all ⟨fun hg => addr_Overlaps_ok ((((a0.fLS.fRanges.drop 0).take (p2.toNat - 0)).getD p6.toNat default).fPrefix) ((a0.fLS.fRanges.getD p2.toNat default).fPrefix) r8 (gc_some q36 hg), trivial⟩ ?_
 refine then_n ?_
 refine cnd ((((((a0.fLS.fRanges.drop 0).take (p2.toNat - 0)).getD p6.toNat default).fArea) == ((a0.fLS.fRanges.getD p2.toNat default).fArea)) && r8) (fun b38 => ?_) (fun b38 => ?_)
 have h39 := cond_t b38 h37
 refine awp_seq (rg0 [2] 0 ⟨81, [(2, .int .i64 6)], []⟩ ?_)
 refine then_n (awp_ret (inb_r (then_r ?_)))
 obtain rfl := Option.some.inj h39
 exact round_r ⟨rfl, er0 (.int .i64 6)⟩
 have h40 := cond_f b38 h37
 refine awp_skip (inb_n (then_n (rg0 [1, 3, 5, 37, 38, 39, 57, 58, 59] 3 ⟨81, [(1, .ref 0 0), (3, .ref 1 0), (5, .ref 2 0), (37, sL 3 c_TAreaRange a0.fLS.fRanges), (38, .int .i64 (a0.fLS.fRanges.length : Int)), (39, .int .i64 p2), (57, sL 3 c_TAreaRange ((a0.fLS.fRanges.drop 0).take (p2.toNat - 0))), (58, .int .i64 ((p2.toNat - 0 : Nat) : Int)), (59, .int .i64 (wr .i64 (p6 + 1)))], [.box (c_TRouter a0), .box (c_TLinkState a0.fLS), .box (c_TAreaRange (a0.fLS.fRanges.getD p2.toNat default))]⟩ ?_)))
 obtain rfl := Option.some.inj h40
 exact round_n (le_rfl)
 have h33 := cond_f b31 h30
 refine awp_exit (then_e ?_)
 obtain rfl := Option.some.inj h33
 exact round_e ⟨rfl, Le.trans (s' := ⟨81, [(1, .ref 0 0), (3, .ref 1 0), (37, sL 3 c_TAreaRange a0.fLS.fRanges), (38, .int .i64 (a0.fLS.fRanges.length : Int)), (39, .int .i64 p2)], [.box (c_TRouter a0), .box (c_TLinkState a0.fLS), .box (c_TAreaRange (a0.fLS.fRanges.getD p2.toNat default))]⟩) (kp [1, 3, 37, 38, 39]) (le_cut (n := 2) (by kernel_rfl))⟩
 intro e43 s44 o45
 rcases y9 with g10 | y11
 have h46 := elim_l h42
 obtain ⟨rfl, l48⟩ := o45
 refine inb_here (inb_n ?_)
 refine then_le (s' := ⟨81, [(1, .ref 0 0), (3, .ref 1 0), (37, sL 3 c_TAreaRange a0.fLS.fRanges), (38, .int .i64 (a0.fLS.fRanges.length : Int)), (39, .int .i64 p2)], [.box (c_TRouter a0), .box (c_TLinkState a0.fLS)]⟩) (l48) ?_
 refine rg0 [1, 3, 37, 38, 39] 2 ⟨81, [(1, .ref 0 0), (3, .ref 1 0), (37, sL 3 c_TAreaRange a0.fLS.fRanges), (38, .int .i64 (a0.fLS.fRanges.length : Int)), (39, .int .i64 (wr .i64 (p2 + 1)))], [.box (c_TRouter a0), .box (c_TLinkState a0.fLS)]⟩ ?_
 obtain rfl := Option.some.inj h46
 exact round_n (le_rfl)
 have h47 := elim_r h42
 obtain ⟨rfl, n49⟩ := o45
 refine inb_r (inb_r (then_r ?_))
 obtain rfl := Option.some.inj h47
 exact round_r ⟨rfl, n49⟩
 have h18 := cond_f b16 h15
 refine awp_exit (then_e ?_)
 obtain rfl := Option.some.inj h18
 exact round_e ⟨rfl, kp [1, 3]⟩
 intro e52 s53 o54
 rcases y12 with g13 | y14
 have h55 := elim_l h51
 obtain ⟨rfl, l57⟩ := o54
 refine inb_here ?_
 refine then_le (s' := ⟨81, [(1, .ref 0 0), (3, .ref 1 0)], [.box (c_TRouter a0), .box (c_TLinkState a0.fLS)]⟩) (l57) ?_
 refine awp_seq ?_
 obtain ⟨r15, q58, h59⟩ := bind_some h55
 refine rg [.pure (.int .i64 r15)] [2] 0 ⟨81, [(2, .int .i64 r15)], []⟩ [] [⟨true, 93, [.agg (c_TRouter a0), sL 5 c_TRedist a0.fLS.fRedist, .int .i64 3, .int .i64 0, .int .i64 16777215, .int .i64 2], .pure (.int .i64 r15)⟩] nil_all ⟨fun _ => model_checkRedist_ok a0 a0.fLS.fRedist 3 0 16777215 2 r15 q58, trivial⟩ ?_
 refine then_n (awp_ret ?_)
 obtain rfl := Option.some.inj h59
 exact er0 (.int .i64 r15)
 have h56 := elim_r h51
 obtain ⟨rfl, n60⟩ := o54
 refine inb_r (then_r ?_)
 obtain rfl := Option.some.inj h56
 exact n60

/- netverify/model.checkDistanceVector -/
theorem model_checkDistanceVector_ok (a0 : TRouter) (r : Int) (h : M.model_checkDistanceVector a0 = some r) : Fn Try.prog 70 [.agg (c_TRouter a0)] (.pure (.int .i64 r)) := by
 unfold M.model_checkDistanceVector at h
 refine fn_pure Try.func70 rfl (by kernel_rfl) ?_
 refine awp_seq (rg0 [1] 1 ⟨58, [(1, .ref 0 0)], [.box (c_TRouter a0)]⟩ ?_)
 refine then_n (awp_seq (rg0 [1, 3] 2 ⟨58, [(1, .ref 0 0), (3, .ref 1 0)], [.box (c_TRouter a0), .box (c_TDistanceVector a0.fDV)]⟩ ?_))
 refine then_n (awp_seq (awp_seq (rg0 [1, 3, 8] 2 ⟨58, [(1, .ref 0 0), (3, .ref 1 0), (8, .bool (!a0.fDV.fOn))], [.box (c_TRouter a0), .box (c_TDistanceVector a0.fDV)]⟩ ?_)))
 refine then_n ?_
 refine cnd (!a0.fDV.fOn) (fun b1 => ?_) (fun b1 => ?_)
 have h2 := cond_t b1 h
 refine awp_seq (awp_seq (rg0 [27] 0 ⟨58, [(27, .bool ((((a0.fDV.fAdmin != 0) || (!strEq a0.fDV.fIn (⟨#[]⟩ : ByteArray))) || (!strEq a0.fDV.fOut (⟨#[]⟩ : ByteArray))) || (decide ((a0.fDV.fRedist.length : Int) > 0))))], []⟩ ?_))
 refine then_n ?_
 refine cnd ((((a0.fDV.fAdmin != 0) || (!strEq a0.fDV.fIn (⟨#[]⟩ : ByteArray))) || (!strEq a0.fDV.fOut (⟨#[]⟩ : ByteArray))) || (decide ((a0.fDV.fRedist.length : Int) > 0))) (fun b4 => ?_) (fun b4 => ?_)
 have h5 := cond_t b4 h2
 refine awp_seq (rg0 [2] 0 ⟨58, [(2, .int .i64 1)], []⟩ ?_)
 refine then_n (awp_ret (then_r (then_r ?_)))
 obtain rfl := Option.some.inj h5
 exact er0 (.int .i64 1)
 have h6 := cond_f b4 h2
 refine awp_skip (then_n (awp_seq (rg0 [2] 0 ⟨58, [(2, .int .i64 0)], []⟩ ?_)))
 refine then_n (awp_ret (then_r ?_))
 obtain rfl := Option.some.inj h6
 exact er0 (.int .i64 0)
 have h3 := cond_f b1 h
 refine awp_skip (then_n (awp_seq (awp_seq ?_)))
 obtain ⟨r1, q7, h8⟩ := bind_some h3
 refine rg [.pure (.bool r1)] [1, 3, 31] 2 ⟨58, [(1, .ref 0 0), (3, .ref 1 0), (31, .bool (!r1))], [.box (c_TRouter a0), .box (c_TDistanceVector a0.fDV)]⟩ [] [⟨true, 61, [.int .i64 a0.fDV.fAdmin, .int .i64 1, .int .i64 255], .pure (.bool r1)⟩] nil_all ⟨fun _ => model_within_ok a0.fDV.fAdmin 1 255 r1 q7, trivial⟩ ?_
 refine then_n ?_
 refine cnd (!r1) (fun b9 => ?_) (fun b9 => ?_)
 have h10 := cond_t b9 h8
 refine awp_seq (rg0 [2] 0 ⟨58, [(2, .int .i64 1)], []⟩ ?_)
 refine then_n (awp_ret (then_r ?_))
 obtain rfl := Option.some.inj h10
 exact er0 (.int .i64 1)
 have h11 := cond_f b9 h8
 refine awp_skip (then_n (awp_seq (awp_seq ?_)))
 obtain ⟨r2, q12, h13⟩ := bind_some h11
 obtain ⟨r3, q14, h15⟩ := bind_some h13
 refine rg [.pure (.int .i64 r2), .pure (.int .i64 r3)] [1, 3, 53] 2 ⟨58, [(1, .ref 0 0), (3, .ref 1 0), (53, .bool (((!strEq a0.fDV.fIn (⟨#[]⟩ : ByteArray)) && (decide (r2 < 0))) || ((!strEq a0.fDV.fOut (⟨#[]⟩ : ByteArray)) && (decide (r3 < 0)))))], [.box (c_TRouter a0), .box (c_TDistanceVector a0.fDV)]⟩ [] [⟨!strEq a0.fDV.fIn (⟨#[]⟩ : ByteArray), 17, [.agg (c_TRouter a0), .str a0.fDV.fIn], .pure (.int .i64 r2)⟩, ⟨((!((!strEq a0.fDV.fIn (⟨#[]⟩ : ByteArray)) && (decide (r2 < 0)))) && (!strEq a0.fDV.fOut (⟨#[]⟩ : ByteArray))), 17, [.agg (c_TRouter a0), .str a0.fDV.fOut], .pure (.int .i64 r3)⟩] nil_all ⟨fun hg => model_PrefixList_ok a0 a0.fDV.fIn r2 (gc_some q12 hg), fun hg => model_PrefixList_ok a0 a0.fDV.fOut r3 (gc_some q14 hg), trivial⟩ ?_
 refine then_n ?_
 refine cnd (((!strEq a0.fDV.fIn (⟨#[]⟩ : ByteArray)) && (decide (r2 < 0))) || ((!strEq a0.fDV.fOut (⟨#[]⟩ : ByteArray)) && (decide (r3 < 0)))) (fun b16 => ?_) (fun b16 => ?_)
 have h17 := cond_t b16 h15
 refine awp_seq (rg0 [2] 0 ⟨58, [(2, .int .i64 5)], []⟩ ?_)
 refine then_n (awp_ret (then_r ?_))
 obtain rfl := Option.some.inj h17
 exact er0 (.int .i64 5)
 have h18 := cond_f b16 h15
 refine awp_skip (then_n (awp_seq ?_))
 obtain ⟨r4, q19, h20⟩ := bind_some h18
 refine rg [.pure (.int .i64 r4)] [2] 0 ⟨58, [(2, .int .i64 r4)], []⟩ [] [⟨true, 93, [.agg (c_TRouter a0), sL 5 c_TRedist a0.fDV.fRedist, .int .i64 4, .int .i64 1, .int .i64 15, .int .i64 0], .pure (.int .i64 r4)⟩] nil_all ⟨fun _ => model_checkRedist_ok a0 a0.fDV.fRedist 4 1 15 0 r4 q19, trivial⟩ ?_
 refine then_n (awp_ret ?_)
 obtain rfl := Option.some.inj h20
 exact er0 (.int .i64 r4)

/- netverify/model.checkNeighbors -/
theorem model_checkNeighbors_ok (a0 : TRouter) (r : Int) (h : M.model_checkNeighbors a0 = some r) : Fn Try.prog 94 [.agg (c_TRouter a0)] (.pure (.int .i64 r)) := by
 unfold M.model_checkNeighbors at h
 refine fn_pure Try.func94 rfl (by kernel_rfl) ?_
 refine awp_seq (rg0 [1] 1 ⟨69, [(1, .ref 0 0)], [.box (c_TRouter a0)]⟩ ?_)
 refine then_n (awp_seq (awp_seq (rg0 [1, 11] 1 ⟨69, [(1, .ref 0 0), (11, .bool (decide ((a0.fPV.fNeighbors.length : Int) > 8)))], [.box (c_TRouter a0)]⟩ ?_)))
 refine then_n ?_
 refine cnd (decide ((a0.fPV.fNeighbors.length : Int) > 8)) (fun b1 => ?_) (fun b1 => ?_)
 have h2 := cond_t b1 h
 refine awp_seq (rg0 [2] 0 ⟨69, [(2, .int .i64 7)], []⟩ ?_)
 refine then_n (awp_ret (then_r ?_))
 obtain rfl := Option.some.inj h2
 exact er0 (.int .i64 7)
 have h3 := cond_f b1 h
 refine awp_skip (then_n (awp_seq (awp_seq (rg0 [1, 14, 15, 16] 1 ⟨69, [(1, .ref 0 0), (14, sL 4 c_TNeighbor a0.fPV.fNeighbors), (15, .int .i64 (a0.fPV.fNeighbors.length : Int)), (16, .int .i64 0)], [.box (c_TRouter a0)]⟩ ?_))))
 refine then_n (awp_block ?_)
 obtain ⟨y11, q42, h43⟩ := bind_some h3
 refine awp_le (s' := ⟨69, [(1, .ref 0 0), (14, sL 4 c_TNeighbor a0.fPV.fNeighbors), (15, .int .i64 (a0.fPV.fNeighbors.length : Int)), (16, .int .i64 0)], [.box (c_TRouter a0)]⟩) (le_rfl) ?_
 refine awp_mono (awp_loop (f := M.model_checkNeighbors_l1 a0) (S := fun (p1 : Int) => ⟨69, [(1, .ref 0 0), (14, sL 4 c_TNeighbor a0.fPV.fNeighbors), (15, .int .i64 (a0.fPV.fNeighbors.length : Int)), (16, .int .i64 p1)], [.box (c_TRouter a0)]⟩) (O := (Sum.elim (fun z => OutE 0 (fun z => ⟨69, [], []⟩) z) (fun z => OutR Try.prog Try.f94 (.int .i64 z)))) ?_ (x := 0) (y := y11) (loopM_iter q42)) ?_
 intro p1 y2 h4
 unfold M.model_checkNeighbors_l1 at h4
 refine awp_seq (rg0 [1, 14, 15, 16, 17] 1 ⟨69, [(1, .ref 0 0), (14, sL 4 c_TNeighbor a0.fPV.fNeighbors), (15, .int .i64 (a0.fPV.fNeighbors.length : Int)), (16, .int .i64 p1), (17, .bool (decide (p1 < (a0.fPV.fNeighbors.length : Int))))], [.box (c_TRouter a0)]⟩ ?_)
 refine then_n (awp_seq ?_)
 refine cnd (decide (p1 < (a0.fPV.fNeighbors.length : Int))) (fun b5 => ?_) (fun b5 => ?_)
 have h6 := cond_t b5 h4
 refine awp_skip (then_n (awp_seq (awp_block (awp_seq ?_))))
 obtain ⟨c8, h9⟩ := gd_some h6
 refine rgc [1, 3, 4, 14, 15, 16] 2 ⟨69, [(1, .ref 0 0), (3, .int .i64 p1), (4, .ref 1 0), (14, sL 4 c_TNeighbor a0.fPV.fNeighbors), (15, .int .i64 (a0.fPV.fNeighbors.length : Int)), (16, .int .i64 p1)], [.box (c_TRouter a0), .box (c_TNeighbor (a0.fPV.fNeighbors.getD p1.toNat default))]⟩ [decide (0 ≤ p1), decide (p1 < (a0.fPV.fNeighbors.length : Int))] c8 ?_
 refine then_n (awp_seq (awp_seq ?_))
 obtain ⟨r3, q10, h11⟩ := bind_some h9
 refine rg [.pure (.bool r3)] [1, 3, 4, 14, 15, 16, 29] 2 ⟨69, [(1, .ref 0 0), (3, .int .i64 p1), (4, .ref 1 0), (14, sL 4 c_TNeighbor a0.fPV.fNeighbors), (15, .int .i64 (a0.fPV.fNeighbors.length : Int)), (16, .int .i64 p1), (29, .bool ((((a0.fPV.fNeighbors.getD p1.toNat default).fAddr) == 0) || (!r3)))], [.box (c_TRouter a0), .box (c_TNeighbor (a0.fPV.fNeighbors.getD p1.toNat default))]⟩ [] [⟨(!(((a0.fPV.fNeighbors.getD p1.toNat default).fAddr) == 0)), 61, [.int .i64 ((a0.fPV.fNeighbors.getD p1.toNat default).fAS), .int .i64 1, .int .i64 65535], .pure (.bool r3)⟩] nil_all ⟨fun hg => model_within_ok ((a0.fPV.fNeighbors.getD p1.toNat default).fAS) 1 65535 r3 (gc_some q10 hg), trivial⟩ ?_
 refine then_n ?_
 refine cnd ((((a0.fPV.fNeighbors.getD p1.toNat default).fAddr) == 0) || (!r3)) (fun b12 => ?_) (fun b12 => ?_)
 have h13 := cond_t b12 h11
 refine awp_seq (rg0 [2] 0 ⟨69, [(2, .int .i64 1)], []⟩ ?_)
 refine then_n (awp_ret (then_r (inb_r (then_r ?_))))
 obtain rfl := Option.some.inj h13
 exact round_r ⟨rfl, er0 (.int .i64 1)⟩
 have h14 := cond_f b12 h11
 refine awp_skip (then_n (awp_seq (awp_seq ?_)))
 obtain ⟨r4, q15, h16⟩ := bind_some h14
 obtain ⟨r5, q17, h18⟩ := bind_some h16
 refine rg [.pure (.int .i64 r4), .pure (.int .i64 r5)] [1, 3, 4, 14, 15, 16, 51] 2 ⟨69, [(1, .ref 0 0), (3, .int .i64 p1), (4, .ref 1 0), (14, sL 4 c_TNeighbor a0.fPV.fNeighbors), (15, .int .i64 (a0.fPV.fNeighbors.length : Int)), (16, .int .i64 p1), (51, .bool (((!strEq ((a0.fPV.fNeighbors.getD p1.toNat default).fIn) (⟨#[]⟩ : ByteArray)) && (decide (r4 < 0))) || ((!strEq ((a0.fPV.fNeighbors.getD p1.toNat default).fOut) (⟨#[]⟩ : ByteArray)) && (decide (r5 < 0)))))], [.box (c_TRouter a0), .box (c_TNeighbor (a0.fPV.fNeighbors.getD p1.toNat default))]⟩ [] [⟨!strEq ((a0.fPV.fNeighbors.getD p1.toNat default).fIn) (⟨#[]⟩ : ByteArray), 19, [.agg (c_TRouter a0), .str ((a0.fPV.fNeighbors.getD p1.toNat default).fIn)], .pure (.int .i64 r4)⟩, ⟨((!((!strEq ((a0.fPV.fNeighbors.getD p1.toNat default).fIn) (⟨#[]⟩ : ByteArray)) && (decide (r4 < 0)))) && (!strEq ((a0.fPV.fNeighbors.getD p1.toNat default).fOut) (⟨#[]⟩ : ByteArray))), 19, [.agg (c_TRouter a0), .str ((a0.fPV.fNeighbors.getD p1.toNat default).fOut)], .pure (.int .i64 r5)⟩] nil_all ⟨fun hg => model_RouteMap_ok a0 ((a0.fPV.fNeighbors.getD p1.toNat default).fIn) r4 (gc_some q15 hg), fun hg => model_RouteMap_ok a0 ((a0.fPV.fNeighbors.getD p1.toNat default).fOut) r5 (gc_some q17 hg), trivial⟩ ?_
 refine then_n ?_
 refine cnd (((!strEq ((a0.fPV.fNeighbors.getD p1.toNat default).fIn) (⟨#[]⟩ : ByteArray)) && (decide (r4 < 0))) || ((!strEq ((a0.fPV.fNeighbors.getD p1.toNat default).fOut) (⟨#[]⟩ : ByteArray)) && (decide (r5 < 0)))) (fun b19 => ?_) (fun b19 => ?_)
 have h20 := cond_t b19 h18
 refine awp_seq (rg0 [2] 0 ⟨69, [(2, .int .i64 5)], []⟩ ?_)
 refine then_n (awp_ret (then_r (inb_r (then_r ?_))))
 obtain rfl := Option.some.inj h20
 exact round_r ⟨rfl, er0 (.int .i64 5)⟩
 have h21 := cond_f b19 h18
 refine awp_skip (then_n (awp_seq ?_))
 obtain ⟨c22, h23⟩ := gd_some h21
 refine rgc [1, 4, 14, 15, 16, 56, 57, 58] 2 ⟨69, [(1, .ref 0 0), (4, .ref 1 0), (14, sL 4 c_TNeighbor a0.fPV.fNeighbors), (15, .int .i64 (a0.fPV.fNeighbors.length : Int)), (16, .int .i64 p1), (56, .sl false 4 (p1.toNat - 0) (fun i => c_TNeighbor (a0.fPV.fNeighbors.getD (0 + i) default))), (57, .int .i64 ((p1.toNat - 0 : Nat) : Int)), (58, .int .i64 0)], [.box (c_TRouter a0), .box (c_TNeighbor (a0.fPV.fNeighbors.getD p1.toNat default))]⟩ [decide (0 ≤ p1), decide (p1 ≤ (a0.fPV.fNeighbors.length : Int))] c22 ?_
 refine then_le (s' := ⟨69, [(1, .ref 0 0), (4, .ref 1 0), (14, sL 4 c_TNeighbor a0.fPV.fNeighbors), (15, .int .i64 (a0.fPV.fNeighbors.length : Int)), (16, .int .i64 p1), (56, sL 4 c_TNeighbor ((a0.fPV.fNeighbors.drop 0).take (p1.toNat - 0))), (57, .int .i64 ((p1.toNat - 0 : Nat) : Int)), (58, .int .i64 0)], [.box (c_TRouter a0), .box (c_TNeighbor (a0.fPV.fNeighbors.getD p1.toNat default))]⟩) (le_sub (.cons Sub.rfl (.cons Sub.rfl (.cons Sub.rfl (.cons Sub.rfl (.cons Sub.rfl (.cons (sub_sl (len_cut _ _ _ (cut_hi (c22 _ (List.mem_cons_of_mem _ List.mem_cons_self)))) (cut_ext _ _ _ _)) (.cons Sub.rfl (.cons Sub.rfl .nil)))))))) (.cons .rfl (.cons .rfl .nil))) ?_
 refine awp_block ?_
 obtain ⟨y8, q33, h34⟩ := bind_some h23
 refine awp_le (s' := ⟨69, [(1, .ref 0 0), (4, .ref 1 0), (14, sL 4 c_TNeighbor a0.fPV.fNeighbors), (15, .int .i64 (a0.fPV.fNeighbors.length : Int)), (16, .int .i64 p1), (56, sL 4 c_TNeighbor ((a0.fPV.fNeighbors.drop 0).take (p1.toNat - 0))), (57, .int .i64 ((p1.toNat - 0 : Nat) : Int)), (58, .int .i64 0)], [.box (c_TRouter a0), .box (c_TNeighbor (a0.fPV.fNeighbors.getD p1.toNat default))]⟩) (le_rfl) ?_
 refine awp_mono (awp_loop (f := M.model_checkNeighbors_l2 a0 p1) (S := fun (p6 : Int) => ⟨69, [(1, .ref 0 0), (4, .ref 1 0), (14, sL 4 c_TNeighbor a0.fPV.fNeighbors), (15, .int .i64 (a0.fPV.fNeighbors.length : Int)), (16, .int .i64 p1), (56, sL 4 c_TNeighbor ((a0.fPV.fNeighbors.drop 0).take (p1.toNat - 0))), (57, .int .i64 ((p1.toNat - 0 : Nat) : Int)), (58, .int .i64 p6)], [.box (c_TRouter a0), .box (c_TNeighbor (a0.fPV.fNeighbors.getD p1.toNat default))]⟩) (O := (Sum.elim (fun z => OutE 2 (fun z => ⟨69, [(1, .ref 0 0), (14, sL 4 c_TNeighbor a0.fPV.fNeighbors), (15, .int .i64 (a0.fPV.fNeighbors.length : Int)), (16, .int .i64 p1)], [.box (c_TRouter a0)]⟩) z) (fun z => OutR Try.prog Try.f94 (.int .i64 z)))) ?_ (x := 0) (y := y8) (loopM_iter q33)) ?_
 intro p6 y7 h24
 unfold M.model_checkNeighbors_l2 at h24
 refine awp_seq (rg0 [1, 4, 14, 15, 16, 56, 57, 58, 59] 2 ⟨69, [(1, .ref 0 0), (4, .ref 1 0), (14, sL 4 c_TNeighbor a0.fPV.fNeighbors), (15, .int .i64 (a0.fPV.fNeighbors.length : Int)), (16, .int .i64 p1), (56, sL 4 c_TNeighbor ((a0.fPV.fNeighbors.drop 0).take (p1.toNat - 0))), (57, .int .i64 ((p1.toNat - 0 : Nat) : Int)), (58, .int .i64 p6), (59, .bool (decide (p6 < ((p1.toNat - 0 : Nat) : Int))))], [.box (c_TRouter a0), .box (c_TNeighbor (a0.fPV.fNeighbors.getD p1.toNat default))]⟩ ?_)
 refine then_n (awp_seq ?_)
 refine cnd (decide (p6 < ((p1.toNat - 0 : Nat) : Int))) (fun b25 => ?_) (fun b25 => ?_)
 have h26 := cond_t b25 h24
 refine awp_skip (then_n (awp_seq (awp_block (awp_seq ?_))))
 obtain ⟨c28, h29⟩ := gd_some h26
 refine rgc [1, 4, 6, 14, 15, 16, 56, 57, 58] 3 ⟨69, [(1, .ref 0 0), (4, .ref 1 0), (6, .ref 2 0), (14, sL 4 c_TNeighbor a0.fPV.fNeighbors), (15, .int .i64 (a0.fPV.fNeighbors.length : Int)), (16, .int .i64 p1), (56, sL 4 c_TNeighbor ((a0.fPV.fNeighbors.drop 0).take (p1.toNat - 0))), (57, .int .i64 ((p1.toNat - 0 : Nat) : Int)), (58, .int .i64 p6)], [.box (c_TRouter a0), .box (c_TNeighbor (a0.fPV.fNeighbors.getD p1.toNat default)), .box (c_TNeighbor (((a0.fPV.fNeighbors.drop 0).take (p1.toNat - 0)).getD p6.toNat default))]⟩ [decide (0 ≤ p6), decide (p6 < (((a0.fPV.fNeighbors.drop 0).take (p1.toNat - 0)).length : Int))] c28 ?_
 refine then_n (awp_seq (rg0 [1, 4, 14, 15, 16, 56, 57, 58, 66] 2 ⟨69, [(1, .ref 0 0), (4, .ref 1 0), (14, sL 4 c_TNeighbor a0.fPV.fNeighbors), (15, .int .i64 (a0.fPV.fNeighbors.length : Int)), (16, .int .i64 p1), (56, sL 4 c_TNeighbor ((a0.fPV.fNeighbors.drop 0).take (p1.toNat - 0))), (57, .int .i64 ((p1.toNat - 0 : Nat) : Int)), (58, .int .i64 p6), (66, .bool (((((a0.fPV.fNeighbors.drop 0).take (p1.toNat - 0)).getD p6.toNat default).fAddr) == ((a0.fPV.fNeighbors.getD p1.toNat default).fAddr)))], [.box (c_TRouter a0), .box (c_TNeighbor (a0.fPV.fNeighbors.getD p1.toNat default))]⟩ ?_))
 refine then_n ?_
 refine cnd (((((a0.fPV.fNeighbors.drop 0).take (p1.toNat - 0)).getD p6.toNat default).fAddr) == ((a0.fPV.fNeighbors.getD p1.toNat default).fAddr)) (fun b30 => ?_) (fun b30 => ?_)
 have h31 := cond_t b30 h29
 refine awp_seq (rg0 [2] 0 ⟨69, [(2, .int .i64 4)], []⟩ ?_)
 refine then_n (awp_ret (inb_r (then_r ?_)))
 obtain rfl := Option.some.inj h31
 exact round_r ⟨rfl, er0 (.int .i64 4)⟩
 have h32 := cond_f b30 h29
 refine awp_skip (inb_n (then_n (rg0 [1, 4, 14, 15, 16, 56, 57, 58] 2 ⟨69, [(1, .ref 0 0), (4, .ref 1 0), (14, sL 4 c_TNeighbor a0.fPV.fNeighbors), (15, .int .i64 (a0.fPV.fNeighbors.length : Int)), (16, .int .i64 p1), (56, sL 4 c_TNeighbor ((a0.fPV.fNeighbors.drop 0).take (p1.toNat - 0))), (57, .int .i64 ((p1.toNat - 0 : Nat) : Int)), (58, .int .i64 (wr .i64 (p6 + 1)))], [.box (c_TRouter a0), .box (c_TNeighbor (a0.fPV.fNeighbors.getD p1.toNat default))]⟩ ?_)))
 obtain rfl := Option.some.inj h32
 exact round_n (le_rfl)
 have h27 := cond_f b25 h24
 refine awp_exit (then_e ?_)
 obtain rfl := Option.some.inj h27
 exact round_e ⟨rfl, Le.trans (s' := ⟨69, [(1, .ref 0 0), (14, sL 4 c_TNeighbor a0.fPV.fNeighbors), (15, .int .i64 (a0.fPV.fNeighbors.length : Int)), (16, .int .i64 p1)], [.box (c_TRouter a0), .box (c_TNeighbor (a0.fPV.fNeighbors.getD p1.toNat default))]⟩) (kp [1, 14, 15, 16]) (le_cut (n := 1) (by kernel_rfl))⟩
 intro e35 s36 o37
 rcases y8 with g9 | y10
 have h38 := elim_l h34
 obtain ⟨rfl, l40⟩ := o37
 refine inb_here (inb_n ?_)
 refine then_le (s' := ⟨69, [(1, .ref 0 0), (14, sL 4 c_TNeighbor a0.fPV.fNeighbors), (15, .int .i64 (a0.fPV.fNeighbors.length : Int)), (16, .int .i64 p1)], [.box (c_TRouter a0)]⟩) (l40) ?_
 refine rg0 [1, 14, 15, 16] 1 ⟨69, [(1, .ref 0 0), (14, sL 4 c_TNeighbor a0.fPV.fNeighbors), (15, .int .i64 (a0.fPV.fNeighbors.length : Int)), (16, .int .i64 (wr .i64 (p1 + 1)))], [.box (c_TRouter a0)]⟩ ?_
 obtain rfl := Option.some.inj h38
 exact round_n (le_rfl)
 have h39 := elim_r h34
 obtain ⟨rfl, n41⟩ := o37
 refine inb_r (inb_r (then_r ?_))
 obtain rfl := Option.some.inj h39
 exact round_r ⟨rfl, n41⟩
 have h7 := cond_f b5 h4
 refine awp_exit (then_e ?_)
 obtain rfl := Option.some.inj h7
 exact round_e ⟨rfl, Le.trans (s' := ⟨69, [], [.box (c_TRouter a0)]⟩) (kp []) (le_cut (n := 0) (by kernel_rfl))⟩
 intro e44 s45 o46
 rcases y11 with g12 | y13
 have h47 := elim_l h43
 obtain ⟨rfl, l49⟩ := o46
 refine inb_here ?_
 refine then_le (s' := ⟨69, [], []⟩) (l49) ?_
 refine awp_seq (rg0 [2] 0 ⟨69, [(2, .int .i64 0)], []⟩ ?_)
 refine then_n (awp_ret ?_)
 obtain rfl := Option.some.inj h47
 exact er0 (.int .i64 0)
 have h48 := elim_r h43
 obtain ⟨rfl, n50⟩ := o46
 refine inb_r (then_r ?_)
 obtain rfl := Option.some.inj h48
 exact n50

/- slices.Index[[]netverify/api.Prefix,netverify/api.Prefix] -/
theorem slices_Index_api_Prefix_api_Prefix_ok (a0 : List TPrefix) (a1 : TPrefix) (r : Int) (h : M.slices_Index_api_Prefix_api_Prefix a0 a1 = some r) : Fn Try.prog 102 [sL 2 c_TPrefix a0, .agg (c_TPrefix a1)] (.pure (.int .i64 r)) := by
 unfold M.slices_Index_api_Prefix_api_Prefix at h
 refine fn_pure Try.func102 rfl (by kernel_rfl) ?_
 refine awp_seq (rg0 [0, 3] 1 ⟨19, [(0, sL 2 c_TPrefix a0), (3, .ref 0 0)], [.box (c_TPrefix a1)]⟩ ?_)
 refine then_n (awp_seq (awp_seq (rg0 [0, 3, 7, 8] 1 ⟨19, [(0, sL 2 c_TPrefix a0), (3, .ref 0 0), (7, .int .i64 (a0.length : Int)), (8, .int .i64 0)], [.box (c_TPrefix a1)]⟩ ?_)))
 refine then_n (awp_block ?_)
 obtain ⟨y3, q10, h11⟩ := bind_some h
 refine awp_le (s' := ⟨19, [(0, sL 2 c_TPrefix a0), (3, .ref 0 0), (7, .int .i64 (a0.length : Int)), (8, .int .i64 0)], [.box (c_TPrefix a1)]⟩) (le_rfl) ?_
 refine awp_mono (awp_loop (f := M.slices_Index_api_Prefix_api_Prefix_l1 a0 a1) (S := fun (p1 : Int) => ⟨19, [(0, sL 2 c_TPrefix a0), (3, .ref 0 0), (7, .int .i64 (a0.length : Int)), (8, .int .i64 p1)], [.box (c_TPrefix a1)]⟩) (O := (Sum.elim (fun z => OutE 0 (fun z => ⟨19, [], []⟩) z) (fun z => OutR Try.prog Try.f102 (.int .i64 z)))) ?_ (x := 0) (y := y3) (loopM_iter q10)) ?_
 intro p1 y2 h1
 unfold M.slices_Index_api_Prefix_api_Prefix_l1 at h1
 refine awp_seq (rg0 [0, 3, 7, 8, 9] 1 ⟨19, [(0, sL 2 c_TPrefix a0), (3, .ref 0 0), (7, .int .i64 (a0.length : Int)), (8, .int .i64 p1), (9, .bool (decide (p1 < (a0.length : Int))))], [.box (c_TPrefix a1)]⟩ ?_)
 refine then_n (awp_seq ?_)
 refine cnd (decide (p1 < (a0.length : Int))) (fun b2 => ?_) (fun b2 => ?_)
 have h3 := cond_t b2 h1
 refine awp_skip (then_n (awp_seq (awp_block (awp_seq (rg0 [0, 3, 5, 7, 8] 1 ⟨19, [(0, sL 2 c_TPrefix a0), (3, .ref 0 0), (5, .int .i64 p1), (7, .int .i64 (a0.length : Int)), (8, .int .i64 p1)], [.box (c_TPrefix a1)]⟩ ?_)))))
 refine then_n (awp_seq ?_)
 obtain ⟨c5, h6⟩ := gd_some h3
 refine rgc [0, 3, 5, 7, 8, 16] 1 ⟨19, [(0, sL 2 c_TPrefix a0), (3, .ref 0 0), (5, .int .i64 p1), (7, .int .i64 (a0.length : Int)), (8, .int .i64 p1), (16, .bool ((a1.fAddr == ((a0.getD p1.toNat default).fAddr)) && ((a1.fLen == ((a0.getD p1.toNat default).fLen)) && true)))], [.box (c_TPrefix a1)]⟩ [decide (0 ≤ p1), decide (p1 < (a0.length : Int))] c5 ?_
 refine then_n ?_
 refine cnd ((a1.fAddr == ((a0.getD p1.toNat default).fAddr)) && ((a1.fLen == ((a0.getD p1.toNat default).fLen)) && true)) (fun b7 => ?_) (fun b7 => ?_)
 have h8 := cond_t b7 h6
 refine awp_seq (rg0 [4] 0 ⟨19, [(4, .int .i64 p1)], []⟩ ?_)
 refine then_n (awp_ret (inb_r (then_r ?_)))
 obtain rfl := Option.some.inj h8
 exact round_r ⟨rfl, er0 (.int .i64 p1)⟩
 have h9 := cond_f b7 h6
 refine awp_skip (inb_n (then_n (rg0 [0, 3, 7, 8] 1 ⟨19, [(0, sL 2 c_TPrefix a0), (3, .ref 0 0), (7, .int .i64 (a0.length : Int)), (8, .int .i64 (wr .i64 (p1 + 1)))], [.box (c_TPrefix a1)]⟩ ?_)))
 obtain rfl := Option.some.inj h9
 exact round_n (le_rfl)
 have h4 := cond_f b2 h1
 refine awp_exit (then_e ?_)
 obtain rfl := Option.some.inj h4
 exact round_e ⟨rfl, Le.trans (s' := ⟨19, [], [.box (c_TPrefix a1)]⟩) (kp []) (le_cut (n := 0) (by kernel_rfl))⟩
 intro e12 s13 o14
 rcases y3 with g4 | y5
 have h15 := elim_l h11
 obtain ⟨rfl, l17⟩ := o14
 refine inb_here ?_
 refine then_le (s' := ⟨19, [], []⟩) (l17) ?_
 refine awp_seq (rg0 [4] 0 ⟨19, [(4, .int .i64 (-1))], []⟩ ?_)
 refine then_n (awp_ret ?_)
 obtain rfl := Option.some.inj h15
 exact er0 (.int .i64 (-1))
 have h16 := elim_r h11
 obtain ⟨rfl, n18⟩ := o14
 refine inb_r (then_r ?_)
 obtain rfl := Option.some.inj h16
 exact n18

/- slices.Contains[[]netverify/api.Prefix,netverify/api.Prefix] -/
theorem slices_Contains_api_Prefix_api_Prefix_ok (a0 : List TPrefix) (a1 : TPrefix) (r : Bool) (h : M.slices_Contains_api_Prefix_api_Prefix a0 a1 = some r) : Fn Try.prog 100 [sL 2 c_TPrefix a0, .agg (c_TPrefix a1)] (.pure (.bool r)) := by
 unfold M.slices_Contains_api_Prefix_api_Prefix at h
 refine fn_pure Try.func100 rfl (by kernel_rfl) ?_
 refine awp_seq (rg0 [0, 3] 1 ⟨9, [(0, sL 2 c_TPrefix a0), (3, .ref 0 0)], [.box (c_TPrefix a1)]⟩ ?_)
 refine then_n (awp_seq ?_)
 obtain ⟨r1, q1, h2⟩ := bind_some h
 refine rg [.pure (.int .i64 r1)] [4] 0 ⟨9, [(4, .bool (decide (r1 ≥ 0)))], []⟩ [] [⟨true, 102, [sL 2 c_TPrefix a0, .agg (c_TPrefix a1)], .pure (.int .i64 r1)⟩] nil_all ⟨fun _ => slices_Index_api_Prefix_api_Prefix_ok a0 a1 r1 q1, trivial⟩ ?_
 refine then_n (awp_ret ?_)
 obtain rfl := Option.some.inj h2
 exact er0 (.bool (decide (r1 ≥ 0)))

/- netverify/model.checkOrigins -/
theorem model_checkOrigins_ok (a0 : TPathVector) (r : Int) (h : M.model_checkOrigins a0 = some r) : Fn Try.prog 95 [.agg (c_TPathVector a0)] (.pure (.int .i64 r)) := by
 unfold M.model_checkOrigins at h
 refine fn_pure Try.func95 rfl (by kernel_rfl) ?_
 refine awp_seq (rg0 [1] 1 ⟨110, [(1, .ref 0 0)], [.box (c_TPathVector a0)]⟩ ?_)
 refine then_n (awp_seq (awp_seq (rg0 [1, 16] 1 ⟨110, [(1, .ref 0 0), (16, .bool (decide ((a0.fNetworks.length : Int) > 8)))], [.box (c_TPathVector a0)]⟩ ?_)))
 refine then_n ?_
 refine cnd (decide ((a0.fNetworks.length : Int) > 8)) (fun b1 => ?_) (fun b1 => ?_)
 have h2 := cond_t b1 h
 refine awp_seq (rg0 [2] 0 ⟨110, [(2, .int .i64 7)], []⟩ ?_)
 refine then_n (awp_ret (then_r ?_))
 obtain rfl := Option.some.inj h2
 exact er0 (.int .i64 7)
 have h3 := cond_f b1 h
 refine awp_skip (then_n (awp_seq (awp_seq (rg0 [1, 18, 19, 20] 1 ⟨110, [(1, .ref 0 0), (18, sL 2 c_TPrefix a0.fNetworks), (19, .int .i64 (a0.fNetworks.length : Int)), (20, .int .i64 0)], [.box (c_TPathVector a0)]⟩ ?_))))
 refine then_n (awp_block ?_)
 obtain ⟨y5, q22, h23⟩ := bind_some h3
 refine awp_le (s' := ⟨110, [(1, .ref 0 0), (18, sL 2 c_TPrefix a0.fNetworks), (19, .int .i64 (a0.fNetworks.length : Int)), (20, .int .i64 0)], [.box (c_TPathVector a0)]⟩) (le_rfl) ?_
 refine awp_mono (awp_loop (f := M.model_checkOrigins_l1 a0) (S := fun (p1 : Int) => ⟨110, [(1, .ref 0 0), (18, sL 2 c_TPrefix a0.fNetworks), (19, .int .i64 (a0.fNetworks.length : Int)), (20, .int .i64 p1)], [.box (c_TPathVector a0)]⟩) (O := (Sum.elim (fun z => OutE 0 (fun z => ⟨110, [(1, .ref 0 0)], [.box (c_TPathVector a0)]⟩) z) (fun z => OutR Try.prog Try.f95 (.int .i64 z)))) ?_ (x := 0) (y := y5) (loopM_iter q22)) ?_
 intro p1 y2 h4
 unfold M.model_checkOrigins_l1 at h4
 refine awp_seq (rg0 [1, 18, 19, 20, 21] 1 ⟨110, [(1, .ref 0 0), (18, sL 2 c_TPrefix a0.fNetworks), (19, .int .i64 (a0.fNetworks.length : Int)), (20, .int .i64 p1), (21, .bool (decide (p1 < (a0.fNetworks.length : Int))))], [.box (c_TPathVector a0)]⟩ ?_)
 refine then_n (awp_seq ?_)
 refine cnd (decide (p1 < (a0.fNetworks.length : Int))) (fun b5 => ?_) (fun b5 => ?_)
 have h6 := cond_t b5 h4
 refine awp_skip (then_n (awp_seq (awp_block (awp_seq ?_))))
 obtain ⟨c8, h9⟩ := gd_some h6
 refine rgc [1, 3, 4, 18, 19, 20] 2 ⟨110, [(1, .ref 0 0), (3, .int .i64 p1), (4, .ref 1 0), (18, sL 2 c_TPrefix a0.fNetworks), (19, .int .i64 (a0.fNetworks.length : Int)), (20, .int .i64 p1)], [.box (c_TPathVector a0), .box (c_TPrefix (a0.fNetworks.getD p1.toNat default))]⟩ [decide (0 ≤ p1), decide (p1 < (a0.fNetworks.length : Int))] c8 ?_
 refine then_n (awp_seq (awp_seq ?_))
 obtain ⟨r3, q10, h11⟩ := bind_some h9
 refine rg [.pure (.bool r3)] [1, 3, 4, 18, 19, 20, 27] 2 ⟨110, [(1, .ref 0 0), (3, .int .i64 p1), (4, .ref 1 0), (18, sL 2 c_TPrefix a0.fNetworks), (19, .int .i64 (a0.fNetworks.length : Int)), (20, .int .i64 p1), (27, .bool (!r3))], [.box (c_TPathVector a0), .box (c_TPrefix (a0.fNetworks.getD p1.toNat default))]⟩ [] [⟨true, 88, [.agg (c_TPrefix (a0.fNetworks.getD p1.toNat default))], .pure (.bool r3)⟩] nil_all ⟨fun _ => addr_Valid_ok (a0.fNetworks.getD p1.toNat default) r3 q10, trivial⟩ ?_
 refine then_n ?_
 refine cnd (!r3) (fun b12 => ?_) (fun b12 => ?_)
 have h13 := cond_t b12 h11
 refine awp_seq (rg0 [2] 0 ⟨110, [(2, .int .i64 1)], []⟩ ?_)
 refine then_n (awp_ret (then_r (inb_r (then_r ?_))))
 obtain rfl := Option.some.inj h13
 exact round_r ⟨rfl, er0 (.int .i64 1)⟩
 have h14 := cond_f b12 h11
 refine awp_skip (then_n (awp_seq ?_))
 obtain ⟨r4, q15, h16⟩ := bind_some h14
 obtain ⟨c17, h18⟩ := gd_some h16
 refine rg [.pure (.bool r4)] [1, 18, 19, 20, 33] 1 ⟨110, [(1, .ref 0 0), (18, sL 2 c_TPrefix a0.fNetworks), (19, .int .i64 (a0.fNetworks.length : Int)), (20, .int .i64 p1), (33, .bool r4)], [.box (c_TPathVector a0)]⟩ [decide (0 ≤ p1), decide (p1 ≤ (a0.fNetworks.length : Int))] [⟨true, 100, [.sl false 2 (p1.toNat - 0) (fun i => c_TPrefix (a0.fNetworks.getD (0 + i) default)), .agg (c_TPrefix (a0.fNetworks.getD p1.toNat default))], .pure (.bool r4)⟩] c17 ⟨fun _ => (slices_Contains_api_Prefix_api_Prefix_ok ((a0.fNetworks.drop 0).take (p1.toNat - 0)) (a0.fNetworks.getD p1.toNat default) r4 q15).args (.cons (asub_sl (len_cut _ _ _ (cut_hi (c17 _ (List.mem_cons_of_mem _ List.mem_cons_self)))) (cut_ext _ _ _ _)) (.cons ASub.rfl .nil)), trivial⟩ ?_
 refine then_n ?_
 refine cnd r4 (fun b19 => ?_) (fun b19 => ?_)
 have h20 := cond_t b19 h18
 refine awp_seq (rg0 [2] 0 ⟨110, [(2, .int .i64 4)], []⟩ ?_)
 refine then_n (awp_ret (inb_r (then_r ?_)))
 obtain rfl := Option.some.inj h20
 exact round_r ⟨rfl, er0 (.int .i64 4)⟩
 have h21 := cond_f b19 h18
 refine awp_skip (inb_n (then_n (rg0 [1, 18, 19, 20] 1 ⟨110, [(1, .ref 0 0), (18, sL 2 c_TPrefix a0.fNetworks), (19, .int .i64 (a0.fNetworks.length : Int)), (20, .int .i64 (wr .i64 (p1 + 1)))], [.box (c_TPathVector a0)]⟩ ?_)))
 obtain rfl := Option.some.inj h21
 exact round_n (le_rfl)
 have h7 := cond_f b5 h4
 refine awp_exit (then_e ?_)
 obtain rfl := Option.some.inj h7
 exact round_e ⟨rfl, kp [1]⟩
 intro e24 s25 o26
 rcases y5 with g6 | y7
 have h27 := elim_l h23
 obtain ⟨rfl, l29⟩ := o26
 refine inb_here ?_
 refine then_le (s' := ⟨110, [(1, .ref 0 0)], [.box (c_TPathVector a0)]⟩) (l29) ?_
 refine awp_seq (awp_seq (rg0 [1, 38] 1 ⟨110, [(1, .ref 0 0), (38, .bool (decide ((a0.fAggregates.length : Int) > 8)))], [.box (c_TPathVector a0)]⟩ ?_))
 refine then_n ?_
 refine cnd (decide ((a0.fAggregates.length : Int) > 8)) (fun b30 => ?_) (fun b30 => ?_)
 have h31 := cond_t b30 h27
 refine awp_seq (rg0 [2] 0 ⟨110, [(2, .int .i64 7)], []⟩ ?_)
 refine then_n (awp_ret (then_r ?_))
 obtain rfl := Option.some.inj h31
 exact er0 (.int .i64 7)
 have h32 := cond_f b30 h27
 refine awp_skip (then_n (awp_seq (awp_seq (rg0 [1, 40, 41, 42] 1 ⟨110, [(1, .ref 0 0), (40, sL 3 c_TAggregate a0.fAggregates), (41, .int .i64 (a0.fAggregates.length : Int)), (42, .int .i64 0)], [.box (c_TPathVector a0)]⟩ ?_))))
 refine then_n (awp_block ?_)
 obtain ⟨y16, q64, h65⟩ := bind_some h32
 refine awp_le (s' := ⟨110, [(1, .ref 0 0), (40, sL 3 c_TAggregate a0.fAggregates), (41, .int .i64 (a0.fAggregates.length : Int)), (42, .int .i64 0)], [.box (c_TPathVector a0)]⟩) (le_rfl) ?_
 refine awp_mono (awp_loop (f := M.model_checkOrigins_l2 a0) (S := fun (p8 : Int) => ⟨110, [(1, .ref 0 0), (40, sL 3 c_TAggregate a0.fAggregates), (41, .int .i64 (a0.fAggregates.length : Int)), (42, .int .i64 p8)], [.box (c_TPathVector a0)]⟩) (O := (Sum.elim (fun z => OutE 2 (fun z => ⟨110, [(1, .ref 0 0)], [.box (c_TPathVector a0)]⟩) z) (fun z => OutR Try.prog Try.f95 (.int .i64 z)))) ?_ (x := 0) (y := y16) (loopM_iter q64)) ?_
 intro p8 y9 h33
 unfold M.model_checkOrigins_l2 at h33
 refine awp_seq (rg0 [1, 40, 41, 42, 43] 1 ⟨110, [(1, .ref 0 0), (40, sL 3 c_TAggregate a0.fAggregates), (41, .int .i64 (a0.fAggregates.length : Int)), (42, .int .i64 p8), (43, .bool (decide (p8 < (a0.fAggregates.length : Int))))], [.box (c_TPathVector a0)]⟩ ?_)
 refine then_n (awp_seq ?_)
 refine cnd (decide (p8 < (a0.fAggregates.length : Int))) (fun b34 => ?_) (fun b34 => ?_)
 have h35 := cond_t b34 h33
 refine awp_skip (then_n (awp_seq (awp_block (awp_seq ?_))))
 obtain ⟨c37, h38⟩ := gd_some h35
 refine rgc [1, 5, 6, 40, 41, 42] 2 ⟨110, [(1, .ref 0 0), (5, .int .i64 p8), (6, .ref 1 0), (40, sL 3 c_TAggregate a0.fAggregates), (41, .int .i64 (a0.fAggregates.length : Int)), (42, .int .i64 p8)], [.box (c_TPathVector a0), .box (c_TAggregate (a0.fAggregates.getD p8.toNat default))]⟩ [decide (0 ≤ p8), decide (p8 < (a0.fAggregates.length : Int))] c37 ?_
 refine then_n (awp_seq (awp_seq ?_))
 obtain ⟨r10, q39, h40⟩ := bind_some h38
 refine rg [.pure (.bool r10)] [1, 5, 6, 40, 41, 42, 50] 2 ⟨110, [(1, .ref 0 0), (5, .int .i64 p8), (6, .ref 1 0), (40, sL 3 c_TAggregate a0.fAggregates), (41, .int .i64 (a0.fAggregates.length : Int)), (42, .int .i64 p8), (50, .bool (!r10))], [.box (c_TPathVector a0), .box (c_TAggregate (a0.fAggregates.getD p8.toNat default))]⟩ [] [⟨true, 88, [.agg (c_TPrefix ((a0.fAggregates.getD p8.toNat default).fPrefix))], .pure (.bool r10)⟩] nil_all ⟨fun _ => addr_Valid_ok ((a0.fAggregates.getD p8.toNat default).fPrefix) r10 q39, trivial⟩ ?_
 refine then_n ?_
 refine cnd (!r10) (fun b41 => ?_) (fun b41 => ?_)
 have h42 := cond_t b41 h40
 refine awp_seq (rg0 [2] 0 ⟨110, [(2, .int .i64 1)], []⟩ ?_)
 refine then_n (awp_ret (then_r (inb_r (then_r ?_))))
 obtain rfl := Option.some.inj h42
 exact round_r ⟨rfl, er0 (.int .i64 1)⟩
 have h43 := cond_f b41 h40
 refine awp_skip (then_n (awp_seq ?_))
 obtain ⟨c44, h45⟩ := gd_some h43
 refine rgc [1, 6, 40, 41, 42, 54, 55, 56] 2 ⟨110, [(1, .ref 0 0), (6, .ref 1 0), (40, sL 3 c_TAggregate a0.fAggregates), (41, .int .i64 (a0.fAggregates.length : Int)), (42, .int .i64 p8), (54, .sl false 3 (p8.toNat - 0) (fun i => c_TAggregate (a0.fAggregates.getD (0 + i) default))), (55, .int .i64 ((p8.toNat - 0 : Nat) : Int)), (56, .int .i64 0)], [.box (c_TPathVector a0), .box (c_TAggregate (a0.fAggregates.getD p8.toNat default))]⟩ [decide (0 ≤ p8), decide (p8 ≤ (a0.fAggregates.length : Int))] c44 ?_
 refine then_le (s' := ⟨110, [(1, .ref 0 0), (6, .ref 1 0), (40, sL 3 c_TAggregate a0.fAggregates), (41, .int .i64 (a0.fAggregates.length : Int)), (42, .int .i64 p8), (54, sL 3 c_TAggregate ((a0.fAggregates.drop 0).take (p8.toNat - 0))), (55, .int .i64 ((p8.toNat - 0 : Nat) : Int)), (56, .int .i64 0)], [.box (c_TPathVector a0), .box (c_TAggregate (a0.fAggregates.getD p8.toNat default))]⟩) (le_sub (.cons Sub.rfl (.cons Sub.rfl (.cons Sub.rfl (.cons Sub.rfl (.cons Sub.rfl (.cons (sub_sl (len_cut _ _ _ (cut_hi (c44 _ (List.mem_cons_of_mem _ List.mem_cons_self)))) (cut_ext _ _ _ _)) (.cons Sub.rfl (.cons Sub.rfl .nil)))))))) (.cons .rfl (.cons .rfl .nil))) ?_
 refine awp_block ?_
 obtain ⟨y13, q55, h56⟩ := bind_some h45
 refine awp_le (s' := ⟨110, [(1, .ref 0 0), (6, .ref 1 0), (40, sL 3 c_TAggregate a0.fAggregates), (41, .int .i64 (a0.fAggregates.length : Int)), (42, .int .i64 p8), (54, sL 3 c_TAggregate ((a0.fAggregates.drop 0).take (p8.toNat - 0))), (55, .int .i64 ((p8.toNat - 0 : Nat) : Int)), (56, .int .i64 0)], [.box (c_TPathVector a0), .box (c_TAggregate (a0.fAggregates.getD p8.toNat default))]⟩) (le_rfl) ?_
 refine awp_mono (awp_loop (f := M.model_checkOrigins_l3 a0 p8) (S := fun (p11 : Int) => ⟨110, [(1, .ref 0 0), (6, .ref 1 0), (40, sL 3 c_TAggregate a0.fAggregates), (41, .int .i64 (a0.fAggregates.length : Int)), (42, .int .i64 p8), (54, sL 3 c_TAggregate ((a0.fAggregates.drop 0).take (p8.toNat - 0))), (55, .int .i64 ((p8.toNat - 0 : Nat) : Int)), (56, .int .i64 p11)], [.box (c_TPathVector a0), .box (c_TAggregate (a0.fAggregates.getD p8.toNat default))]⟩) (O := (Sum.elim (fun z => OutE 4 (fun z => ⟨110, [(1, .ref 0 0), (40, sL 3 c_TAggregate a0.fAggregates), (41, .int .i64 (a0.fAggregates.length : Int)), (42, .int .i64 p8)], [.box (c_TPathVector a0)]⟩) z) (fun z => OutR Try.prog Try.f95 (.int .i64 z)))) ?_ (x := 0) (y := y13) (loopM_iter q55)) ?_
 intro p11 y12 h46
 unfold M.model_checkOrigins_l3 at h46
 refine awp_seq (rg0 [1, 6, 40, 41, 42, 54, 55, 56, 57] 2 ⟨110, [(1, .ref 0 0), (6, .ref 1 0), (40, sL 3 c_TAggregate a0.fAggregates), (41, .int .i64 (a0.fAggregates.length : Int)), (42, .int .i64 p8), (54, sL 3 c_TAggregate ((a0.fAggregates.drop 0).take (p8.toNat - 0))), (55, .int .i64 ((p8.toNat - 0 : Nat) : Int)), (56, .int .i64 p11), (57, .bool (decide (p11 < ((p8.toNat - 0 : Nat) : Int))))], [.box (c_TPathVector a0), .box (c_TAggregate (a0.fAggregates.getD p8.toNat default))]⟩ ?_)
 refine then_n (awp_seq ?_)
 refine cnd (decide (p11 < ((p8.toNat - 0 : Nat) : Int))) (fun b47 => ?_) (fun b47 => ?_)
 have h48 := cond_t b47 h46
 refine awp_skip (then_n (awp_seq (awp_block (awp_seq ?_))))
 obtain ⟨c50, h51⟩ := gd_some h48
 refine rgc [1, 6, 8, 40, 41, 42, 54, 55, 56] 3 ⟨110, [(1, .ref 0 0), (6, .ref 1 0), (8, .ref 2 0), (40, sL 3 c_TAggregate a0.fAggregates), (41, .int .i64 (a0.fAggregates.length : Int)), (42, .int .i64 p8), (54, sL 3 c_TAggregate ((a0.fAggregates.drop 0).take (p8.toNat - 0))), (55, .int .i64 ((p8.toNat - 0 : Nat) : Int)), (56, .int .i64 p11)], [.box (c_TPathVector a0), .box (c_TAggregate (a0.fAggregates.getD p8.toNat default)), .box (c_TAggregate (((a0.fAggregates.drop 0).take (p8.toNat - 0)).getD p11.toNat default))]⟩ [decide (0 ≤ p11), decide (p11 < (((a0.fAggregates.drop 0).take (p8.toNat - 0)).length : Int))] c50 ?_
 refine then_n (awp_seq (rg0 [1, 6, 40, 41, 42, 54, 55, 56, 64] 2 ⟨110, [(1, .ref 0 0), (6, .ref 1 0), (40, sL 3 c_TAggregate a0.fAggregates), (41, .int .i64 (a0.fAggregates.length : Int)), (42, .int .i64 p8), (54, sL 3 c_TAggregate ((a0.fAggregates.drop 0).take (p8.toNat - 0))), (55, .int .i64 ((p8.toNat - 0 : Nat) : Int)), (56, .int .i64 p11), (64, .bool (((((((a0.fAggregates.drop 0).take (p8.toNat - 0)).getD p11.toNat default).fPrefix).fAddr) == (((a0.fAggregates.getD p8.toNat default).fPrefix).fAddr)) && (((((((a0.fAggregates.drop 0).take (p8.toNat - 0)).getD p11.toNat default).fPrefix).fLen) == (((a0.fAggregates.getD p8.toNat default).fPrefix).fLen)) && true)))], [.box (c_TPathVector a0), .box (c_TAggregate (a0.fAggregates.getD p8.toNat default))]⟩ ?_))
 refine then_n ?_
 refine cnd (((((((a0.fAggregates.drop 0).take (p8.toNat - 0)).getD p11.toNat default).fPrefix).fAddr) == (((a0.fAggregates.getD p8.toNat default).fPrefix).fAddr)) && (((((((a0.fAggregates.drop 0).take (p8.toNat - 0)).getD p11.toNat default).fPrefix).fLen) == (((a0.fAggregates.getD p8.toNat default).fPrefix).fLen)) && true)) (fun b52 => ?_) (fun b52 => ?_)
 have h53 := cond_t b52 h51
 refine awp_seq (rg0 [2] 0 ⟨110, [(2, .int .i64 4)], []⟩ ?_)
 refine then_n (awp_ret (inb_r (then_r ?_)))
 obtain rfl := Option.some.inj h53
 exact round_r ⟨rfl, er0 (.int .i64 4)⟩
 have h54 := cond_f b52 h51
 refine awp_skip (inb_n (then_n (rg0 [1, 6, 40, 41, 42, 54, 55, 56] 2 ⟨110, [(1, .ref 0 0), (6, .ref 1 0), (40, sL 3 c_TAggregate a0.fAggregates), (41, .int .i64 (a0.fAggregates.length : Int)), (42, .int .i64 p8), (54, sL 3 c_TAggregate ((a0.fAggregates.drop 0).take (p8.toNat - 0))), (55, .int .i64 ((p8.toNat - 0 : Nat) : Int)), (56, .int .i64 (wr .i64 (p11 + 1)))], [.box (c_TPathVector a0), .box (c_TAggregate (a0.fAggregates.getD p8.toNat default))]⟩ ?_)))
 obtain rfl := Option.some.inj h54
 exact round_n (le_rfl)
 have h49 := cond_f b47 h46
 refine awp_exit (then_e ?_)
 obtain rfl := Option.some.inj h49
 exact round_e ⟨rfl, Le.trans (s' := ⟨110, [(1, .ref 0 0), (40, sL 3 c_TAggregate a0.fAggregates), (41, .int .i64 (a0.fAggregates.length : Int)), (42, .int .i64 p8)], [.box (c_TPathVector a0), .box (c_TAggregate (a0.fAggregates.getD p8.toNat default))]⟩) (kp [1, 40, 41, 42]) (le_cut (n := 1) (by kernel_rfl))⟩
 intro e57 s58 o59
 rcases y13 with g14 | y15
 have h60 := elim_l h56
 obtain ⟨rfl, l62⟩ := o59
 refine inb_here (inb_n ?_)
 refine then_le (s' := ⟨110, [(1, .ref 0 0), (40, sL 3 c_TAggregate a0.fAggregates), (41, .int .i64 (a0.fAggregates.length : Int)), (42, .int .i64 p8)], [.box (c_TPathVector a0)]⟩) (l62) ?_
 refine rg0 [1, 40, 41, 42] 1 ⟨110, [(1, .ref 0 0), (40, sL 3 c_TAggregate a0.fAggregates), (41, .int .i64 (a0.fAggregates.length : Int)), (42, .int .i64 (wr .i64 (p8 + 1)))], [.box (c_TPathVector a0)]⟩ ?_
 obtain rfl := Option.some.inj h60
 exact round_n (le_rfl)
 have h61 := elim_r h56
 obtain ⟨rfl, n63⟩ := o59
 refine inb_r (inb_r (then_r ?_))
 obtain rfl := Option.some.inj h61
 exact round_r ⟨rfl, n63⟩
 have h36 := cond_f b34 h33
 refine awp_exit (then_e ?_)
 obtain rfl := Option.some.inj h36
 exact round_e ⟨rfl, kp [1]⟩
 intro e66 s67 o68
 rcases y16 with g17 | y18
 have h69 := elim_l h65
 obtain ⟨rfl, l71⟩ := o68
 refine inb_here ?_
 refine then_le (s' := ⟨110, [(1, .ref 0 0)], [.box (c_TPathVector a0)]⟩) (l71) ?_
 refine awp_seq (awp_seq (rg0 [1, 70] 1 ⟨110, [(1, .ref 0 0), (70, .bool (decide ((a0.fConditions.length : Int) > 8)))], [.box (c_TPathVector a0)]⟩ ?_))
 refine then_n ?_
 refine cnd (decide ((a0.fConditions.length : Int) > 8)) (fun b72 => ?_) (fun b72 => ?_)
 have h73 := cond_t b72 h69
 refine awp_seq (rg0 [2] 0 ⟨110, [(2, .int .i64 7)], []⟩ ?_)
 refine then_n (awp_ret (then_r ?_))
 obtain rfl := Option.some.inj h73
 exact er0 (.int .i64 7)
 have h74 := cond_f b72 h69
 refine awp_skip (then_n (awp_seq (awp_seq (rg0 [1, 72, 73, 74] 1 ⟨110, [(1, .ref 0 0), (72, sL 5 c_TCondition a0.fConditions), (73, .int .i64 (a0.fConditions.length : Int)), (74, .int .i64 0)], [.box (c_TPathVector a0)]⟩ ?_))))
 refine then_n (awp_block ?_)
 obtain ⟨y28, q111, h112⟩ := bind_some h74
 refine awp_le (s' := ⟨110, [(1, .ref 0 0), (72, sL 5 c_TCondition a0.fConditions), (73, .int .i64 (a0.fConditions.length : Int)), (74, .int .i64 0)], [.box (c_TPathVector a0)]⟩) (le_rfl) ?_
 refine awp_mono (awp_loop (f := M.model_checkOrigins_l4 a0) (S := fun (p19 : Int) => ⟨110, [(1, .ref 0 0), (72, sL 5 c_TCondition a0.fConditions), (73, .int .i64 (a0.fConditions.length : Int)), (74, .int .i64 p19)], [.box (c_TPathVector a0)]⟩) (O := (Sum.elim (fun z => OutE 6 (fun z => ⟨110, [], []⟩) z) (fun z => OutR Try.prog Try.f95 (.int .i64 z)))) ?_ (x := 0) (y := y28) (loopM_iter q111)) ?_
 intro p19 y20 h75
 unfold M.model_checkOrigins_l4 at h75
 refine awp_seq (rg0 [1, 72, 73, 74, 75] 1 ⟨110, [(1, .ref 0 0), (72, sL 5 c_TCondition a0.fConditions), (73, .int .i64 (a0.fConditions.length : Int)), (74, .int .i64 p19), (75, .bool (decide (p19 < (a0.fConditions.length : Int))))], [.box (c_TPathVector a0)]⟩ ?_)
 refine then_n (awp_seq ?_)
 refine cnd (decide (p19 < (a0.fConditions.length : Int))) (fun b76 => ?_) (fun b76 => ?_)
 have h77 := cond_t b76 h75
 refine awp_skip (then_n (awp_seq (awp_block (awp_seq ?_))))
 obtain ⟨c79, h80⟩ := gd_some h77
 refine rgc [1, 9, 10, 72, 73, 74] 2 ⟨110, [(1, .ref 0 0), (9, .int .i64 p19), (10, .ref 1 0), (72, sL 5 c_TCondition a0.fConditions), (73, .int .i64 (a0.fConditions.length : Int)), (74, .int .i64 p19)], [.box (c_TPathVector a0), .box (c_TCondition (a0.fConditions.getD p19.toNat default))]⟩ [decide (0 ≤ p19), decide (p19 < (a0.fConditions.length : Int))] c79 ?_
 refine then_n (awp_seq (awp_seq ?_))
 obtain ⟨r21, q81, h82⟩ := bind_some h80
 obtain ⟨r22, q83, h84⟩ := bind_some h82
 refine rg [.pure (.bool r21), .pure (.bool r22)] [1, 9, 10, 72, 73, 74, 88] 2 ⟨110, [(1, .ref 0 0), (9, .int .i64 p19), (10, .ref 1 0), (72, sL 5 c_TCondition a0.fConditions), (73, .int .i64 (a0.fConditions.length : Int)), (74, .int .i64 p19), (88, .bool ((!r21) || (!r22)))], [.box (c_TPathVector a0), .box (c_TCondition (a0.fConditions.getD p19.toNat default))]⟩ [] [⟨true, 88, [.agg (c_TPrefix ((a0.fConditions.getD p19.toNat default).fPrefix))], .pure (.bool r21)⟩, ⟨(!(!r21)), 88, [.agg (c_TPrefix ((a0.fConditions.getD p19.toNat default).fIf))], .pure (.bool r22)⟩] nil_all ⟨fun _ => addr_Valid_ok ((a0.fConditions.getD p19.toNat default).fPrefix) r21 q81, fun hg => addr_Valid_ok ((a0.fConditions.getD p19.toNat default).fIf) r22 (gc_some q83 hg), trivial⟩ ?_
 refine then_n ?_
 refine cnd ((!r21) || (!r22)) (fun b85 => ?_) (fun b85 => ?_)
 have h86 := cond_t b85 h84
 refine awp_seq (rg0 [2] 0 ⟨110, [(2, .int .i64 1)], []⟩ ?_)
 refine then_n (awp_ret (then_r (inb_r (then_r ?_))))
 obtain rfl := Option.some.inj h86
 exact round_r ⟨rfl, er0 (.int .i64 1)⟩
 have h87 := cond_f b85 h84
 refine awp_skip (then_n (awp_seq (awp_seq (rg0 [1, 9, 10, 72, 73, 74, 93] 2 ⟨110, [(1, .ref 0 0), (9, .int .i64 p19), (10, .ref 1 0), (72, sL 5 c_TCondition a0.fConditions), (73, .int .i64 (a0.fConditions.length : Int)), (74, .int .i64 p19), (93, .bool (((((a0.fConditions.getD p19.toNat default).fPrefix).fAddr) == (((a0.fConditions.getD p19.toNat default).fIf).fAddr)) && (((((a0.fConditions.getD p19.toNat default).fPrefix).fLen) == (((a0.fConditions.getD p19.toNat default).fIf).fLen)) && true)))], [.box (c_TPathVector a0), .box (c_TCondition (a0.fConditions.getD p19.toNat default))]⟩ ?_))))
 refine then_n ?_
 refine cnd (((((a0.fConditions.getD p19.toNat default).fPrefix).fAddr) == (((a0.fConditions.getD p19.toNat default).fIf).fAddr)) && (((((a0.fConditions.getD p19.toNat default).fPrefix).fLen) == (((a0.fConditions.getD p19.toNat default).fIf).fLen)) && true)) (fun b88 => ?_) (fun b88 => ?_)
 have h89 := cond_t b88 h87
 refine awp_seq (rg0 [2] 0 ⟨110, [(2, .int .i64 6)], []⟩ ?_)
 refine then_n (awp_ret (then_r (inb_r (then_r ?_))))
 obtain rfl := Option.some.inj h89
 exact round_r ⟨rfl, er0 (.int .i64 6)⟩
 have h90 := cond_f b88 h87
 refine awp_skip (then_n (awp_seq ?_))
 obtain ⟨c91, h92⟩ := gd_some h90
 refine rgc [1, 10, 72, 73, 74, 97, 98, 99] 2 ⟨110, [(1, .ref 0 0), (10, .ref 1 0), (72, sL 5 c_TCondition a0.fConditions), (73, .int .i64 (a0.fConditions.length : Int)), (74, .int .i64 p19), (97, .sl false 5 (p19.toNat - 0) (fun i => c_TCondition (a0.fConditions.getD (0 + i) default))), (98, .int .i64 ((p19.toNat - 0 : Nat) : Int)), (99, .int .i64 0)], [.box (c_TPathVector a0), .box (c_TCondition (a0.fConditions.getD p19.toNat default))]⟩ [decide (0 ≤ p19), decide (p19 ≤ (a0.fConditions.length : Int))] c91 ?_
 refine then_le (s' := ⟨110, [(1, .ref 0 0), (10, .ref 1 0), (72, sL 5 c_TCondition a0.fConditions), (73, .int .i64 (a0.fConditions.length : Int)), (74, .int .i64 p19), (97, sL 5 c_TCondition ((a0.fConditions.drop 0).take (p19.toNat - 0))), (98, .int .i64 ((p19.toNat - 0 : Nat) : Int)), (99, .int .i64 0)], [.box (c_TPathVector a0), .box (c_TCondition (a0.fConditions.getD p19.toNat default))]⟩) (le_sub (.cons Sub.rfl (.cons Sub.rfl (.cons Sub.rfl (.cons Sub.rfl (.cons Sub.rfl (.cons (sub_sl (len_cut _ _ _ (cut_hi (c91 _ (List.mem_cons_of_mem _ List.mem_cons_self)))) (cut_ext _ _ _ _)) (.cons Sub.rfl (.cons Sub.rfl .nil)))))))) (.cons .rfl (.cons .rfl .nil))) ?_
 refine awp_block ?_
 obtain ⟨y25, q102, h103⟩ := bind_some h92
 refine awp_le (s' := ⟨110, [(1, .ref 0 0), (10, .ref 1 0), (72, sL 5 c_TCondition a0.fConditions), (73, .int .i64 (a0.fConditions.length : Int)), (74, .int .i64 p19), (97, sL 5 c_TCondition ((a0.fConditions.drop 0).take (p19.toNat - 0))), (98, .int .i64 ((p19.toNat - 0 : Nat) : Int)), (99, .int .i64 0)], [.box (c_TPathVector a0), .box (c_TCondition (a0.fConditions.getD p19.toNat default))]⟩) (le_rfl) ?_
 refine awp_mono (awp_loop (f := M.model_checkOrigins_l5 a0 p19) (S := fun (p23 : Int) => ⟨110, [(1, .ref 0 0), (10, .ref 1 0), (72, sL 5 c_TCondition a0.fConditions), (73, .int .i64 (a0.fConditions.length : Int)), (74, .int .i64 p19), (97, sL 5 c_TCondition ((a0.fConditions.drop 0).take (p19.toNat - 0))), (98, .int .i64 ((p19.toNat - 0 : Nat) : Int)), (99, .int .i64 p23)], [.box (c_TPathVector a0), .box (c_TCondition (a0.fConditions.getD p19.toNat default))]⟩) (O := (Sum.elim (fun z => OutE 8 (fun z => ⟨110, [(1, .ref 0 0), (72, sL 5 c_TCondition a0.fConditions), (73, .int .i64 (a0.fConditions.length : Int)), (74, .int .i64 p19)], [.box (c_TPathVector a0)]⟩) z) (fun z => OutR Try.prog Try.f95 (.int .i64 z)))) ?_ (x := 0) (y := y25) (loopM_iter q102)) ?_
 intro p23 y24 h93
 unfold M.model_checkOrigins_l5 at h93
 refine awp_seq (rg0 [1, 10, 72, 73, 74, 97, 98, 99, 100] 2 ⟨110, [(1, .ref 0 0), (10, .ref 1 0), (72, sL 5 c_TCondition a0.fConditions), (73, .int .i64 (a0.fConditions.length : Int)), (74, .int .i64 p19), (97, sL 5 c_TCondition ((a0.fConditions.drop 0).take (p19.toNat - 0))), (98, .int .i64 ((p19.toNat - 0 : Nat) : Int)), (99, .int .i64 p23), (100, .bool (decide (p23 < ((p19.toNat - 0 : Nat) : Int))))], [.box (c_TPathVector a0), .box (c_TCondition (a0.fConditions.getD p19.toNat default))]⟩ ?_)
 refine then_n (awp_seq ?_)
 refine cnd (decide (p23 < ((p19.toNat - 0 : Nat) : Int))) (fun b94 => ?_) (fun b94 => ?_)
 have h95 := cond_t b94 h93
 refine awp_skip (then_n (awp_seq (awp_block (awp_seq ?_))))
 obtain ⟨c97, h98⟩ := gd_some h95
 refine rgc [1, 10, 12, 72, 73, 74, 97, 98, 99] 3 ⟨110, [(1, .ref 0 0), (10, .ref 1 0), (12, .ref 2 0), (72, sL 5 c_TCondition a0.fConditions), (73, .int .i64 (a0.fConditions.length : Int)), (74, .int .i64 p19), (97, sL 5 c_TCondition ((a0.fConditions.drop 0).take (p19.toNat - 0))), (98, .int .i64 ((p19.toNat - 0 : Nat) : Int)), (99, .int .i64 p23)], [.box (c_TPathVector a0), .box (c_TCondition (a0.fConditions.getD p19.toNat default)), .box (c_TCondition (((a0.fConditions.drop 0).take (p19.toNat - 0)).getD p23.toNat default))]⟩ [decide (0 ≤ p23), decide (p23 < (((a0.fConditions.drop 0).take (p19.toNat - 0)).length : Int))] c97 ?_
 refine then_n (awp_seq (rg0 [1, 10, 72, 73, 74, 97, 98, 99, 107] 2 ⟨110, [(1, .ref 0 0), (10, .ref 1 0), (72, sL 5 c_TCondition a0.fConditions), (73, .int .i64 (a0.fConditions.length : Int)), (74, .int .i64 p19), (97, sL 5 c_TCondition ((a0.fConditions.drop 0).take (p19.toNat - 0))), (98, .int .i64 ((p19.toNat - 0 : Nat) : Int)), (99, .int .i64 p23), (107, .bool (((((((a0.fConditions.drop 0).take (p19.toNat - 0)).getD p23.toNat default).fPrefix).fAddr) == (((a0.fConditions.getD p19.toNat default).fPrefix).fAddr)) && (((((((a0.fConditions.drop 0).take (p19.toNat - 0)).getD p23.toNat default).fPrefix).fLen) == (((a0.fConditions.getD p19.toNat default).fPrefix).fLen)) && true)))], [.box (c_TPathVector a0), .box (c_TCondition (a0.fConditions.getD p19.toNat default))]⟩ ?_))
 refine then_n ?_
 refine cnd (((((((a0.fConditions.drop 0).take (p19.toNat - 0)).getD p23.toNat default).fPrefix).fAddr) == (((a0.fConditions.getD p19.toNat default).fPrefix).fAddr)) && (((((((a0.fConditions.drop 0).take (p19.toNat - 0)).getD p23.toNat default).fPrefix).fLen) == (((a0.fConditions.getD p19.toNat default).fPrefix).fLen)) && true)) (fun b99 => ?_) (fun b99 => ?_)
 have h100 := cond_t b99 h98
 refine awp_seq (rg0 [2] 0 ⟨110, [(2, .int .i64 4)], []⟩ ?_)
 refine then_n (awp_ret (inb_r (then_r ?_)))
 obtain rfl := Option.some.inj h100
 exact round_r ⟨rfl, er0 (.int .i64 4)⟩
 have h101 := cond_f b99 h98
 refine awp_skip (inb_n (then_n (rg0 [1, 10, 72, 73, 74, 97, 98, 99] 2 ⟨110, [(1, .ref 0 0), (10, .ref 1 0), (72, sL 5 c_TCondition a0.fConditions), (73, .int .i64 (a0.fConditions.length : Int)), (74, .int .i64 p19), (97, sL 5 c_TCondition ((a0.fConditions.drop 0).take (p19.toNat - 0))), (98, .int .i64 ((p19.toNat - 0 : Nat) : Int)), (99, .int .i64 (wr .i64 (p23 + 1)))], [.box (c_TPathVector a0), .box (c_TCondition (a0.fConditions.getD p19.toNat default))]⟩ ?_)))
 obtain rfl := Option.some.inj h101
 exact round_n (le_rfl)
 have h96 := cond_f b94 h93
 refine awp_exit (then_e ?_)
 obtain rfl := Option.some.inj h96
 exact round_e ⟨rfl, Le.trans (s' := ⟨110, [(1, .ref 0 0), (72, sL 5 c_TCondition a0.fConditions), (73, .int .i64 (a0.fConditions.length : Int)), (74, .int .i64 p19)], [.box (c_TPathVector a0), .box (c_TCondition (a0.fConditions.getD p19.toNat default))]⟩) (kp [1, 72, 73, 74]) (le_cut (n := 1) (by kernel_rfl))⟩
 intro e104 s105 o106
 rcases y25 with g26 | y27
 have h107 := elim_l h103
 obtain ⟨rfl, l109⟩ := o106
 refine inb_here (inb_n ?_)
 refine then_le (s' := ⟨110, [(1, .ref 0 0), (72, sL 5 c_TCondition a0.fConditions), (73, .int .i64 (a0.fConditions.length : Int)), (74, .int .i64 p19)], [.box (c_TPathVector a0)]⟩) (l109) ?_
 refine rg0 [1, 72, 73, 74] 1 ⟨110, [(1, .ref 0 0), (72, sL 5 c_TCondition a0.fConditions), (73, .int .i64 (a0.fConditions.length : Int)), (74, .int .i64 (wr .i64 (p19 + 1)))], [.box (c_TPathVector a0)]⟩ ?_
 obtain rfl := Option.some.inj h107
 exact round_n (le_rfl)
 have h108 := elim_r h103
 obtain ⟨rfl, n110⟩ := o106
 refine inb_r (inb_r (then_r ?_))
 obtain rfl := Option.some.inj h108
 exact round_r ⟨rfl, n110⟩
 have h78 := cond_f b76 h75
 refine awp_exit (then_e ?_)
 obtain rfl := Option.some.inj h78
 exact round_e ⟨rfl, Le.trans (s' := ⟨110, [], [.box (c_TPathVector a0)]⟩) (kp []) (le_cut (n := 0) (by kernel_rfl))⟩
 intro e113 s114 o115
 rcases y28 with g29 | y30
 have h116 := elim_l h112
 obtain ⟨rfl, l118⟩ := o115
 refine inb_here ?_
 refine then_le (s' := ⟨110, [], []⟩) (l118) ?_
 refine awp_seq (rg0 [2] 0 ⟨110, [(2, .int .i64 0)], []⟩ ?_)
 refine then_n (awp_ret ?_)
 obtain rfl := Option.some.inj h116
 exact er0 (.int .i64 0)
 have h117 := elim_r h112
 obtain ⟨rfl, n119⟩ := o115
 refine inb_r (then_r ?_)
 obtain rfl := Option.some.inj h117
 exact n119
 have h70 := elim_r h65
 obtain ⟨rfl, n120⟩ := o68
 refine inb_r (then_r ?_)
 obtain rfl := Option.some.inj h70
 exact n120
 have h28 := elim_r h23
 obtain ⟨rfl, n121⟩ := o26
 refine inb_r (then_r ?_)
 obtain rfl := Option.some.inj h28
 exact n121

/- netverify/model.checkPathVector -/
theorem model_checkPathVector_ok (a0 : TRouter) (r : Int) (h : M.model_checkPathVector a0 = some r) : Fn Try.prog 71 [.agg (c_TRouter a0)] (.pure (.int .i64 r)) := by
 unfold M.model_checkPathVector at h
 refine fn_pure Try.func71 rfl (by kernel_rfl) ?_
 refine awp_seq (rg0 [1] 1 ⟨78, [(1, .ref 0 0)], [.box (c_TRouter a0)]⟩ ?_)
 refine then_n (awp_seq (rg0 [1, 3] 2 ⟨78, [(1, .ref 0 0), (3, .ref 1 0)], [.box (c_TRouter a0), .box (c_TPathVector a0.fPV)]⟩ ?_))
 refine then_n (awp_seq (awp_seq (rg0 [1, 3, 10] 2 ⟨78, [(1, .ref 0 0), (3, .ref 1 0), (10, .bool (!a0.fPV.fOn))], [.box (c_TRouter a0), .box (c_TPathVector a0.fPV)]⟩ ?_)))
 refine then_n ?_
 refine cnd (!a0.fPV.fOn) (fun b1 => ?_) (fun b1 => ?_)
 have h2 := cond_t b1 h
 refine awp_seq (awp_seq (rg0 [48] 0 ⟨78, [(48, .bool (((((((a0.fPV.fExternal != 0) || (a0.fPV.fInternal != 0)) || (decide ((a0.fPV.fNeighbors.length : Int) > 0))) || (decide ((a0.fPV.fNetworks.length : Int) > 0))) || (decide ((a0.fPV.fAggregates.length : Int) > 0))) || (decide ((a0.fPV.fConditions.length : Int) > 0))) || (decide ((a0.fPV.fRedist.length : Int) > 0))))], []⟩ ?_))
 refine then_n ?_
 refine cnd (((((((a0.fPV.fExternal != 0) || (a0.fPV.fInternal != 0)) || (decide ((a0.fPV.fNeighbors.length : Int) > 0))) || (decide ((a0.fPV.fNetworks.length : Int) > 0))) || (decide ((a0.fPV.fAggregates.length : Int) > 0))) || (decide ((a0.fPV.fConditions.length : Int) > 0))) || (decide ((a0.fPV.fRedist.length : Int) > 0))) (fun b4 => ?_) (fun b4 => ?_)
 have h5 := cond_t b4 h2
 refine awp_seq (rg0 [2] 0 ⟨78, [(2, .int .i64 1)], []⟩ ?_)
 refine then_n (awp_ret (then_r (then_r ?_)))
 obtain rfl := Option.some.inj h5
 exact er0 (.int .i64 1)
 have h6 := cond_f b4 h2
 refine awp_skip (then_n (awp_seq (rg0 [2] 0 ⟨78, [(2, .int .i64 0)], []⟩ ?_)))
 refine then_n (awp_ret (then_r ?_))
 obtain rfl := Option.some.inj h6
 exact er0 (.int .i64 0)
 have h3 := cond_f b1 h
 refine awp_skip (then_n (awp_seq (awp_seq ?_)))
 obtain ⟨r1, q7, h8⟩ := bind_some h3
 obtain ⟨r2, q9, h10⟩ := bind_some h8
 refine rg [.pure (.bool r1), .pure (.bool r2)] [1, 3, 63] 2 ⟨78, [(1, .ref 0 0), (3, .ref 1 0), (63, .bool (((a0.fAS == 0) || (!r1)) || (!r2)))], [.box (c_TRouter a0), .box (c_TPathVector a0.fPV)]⟩ [] [⟨(!(a0.fAS == 0)), 61, [.int .i64 a0.fPV.fExternal, .int .i64 1, .int .i64 255], .pure (.bool r1)⟩, ⟨(!((a0.fAS == 0) || (!r1))), 61, [.int .i64 a0.fPV.fInternal, .int .i64 1, .int .i64 255], .pure (.bool r2)⟩] nil_all ⟨fun hg => model_within_ok a0.fPV.fExternal 1 255 r1 (gc_some q7 hg), fun hg => model_within_ok a0.fPV.fInternal 1 255 r2 (gc_some q9 hg), trivial⟩ ?_
 refine then_n ?_
 refine cnd (((a0.fAS == 0) || (!r1)) || (!r2)) (fun b11 => ?_) (fun b11 => ?_)
 have h12 := cond_t b11 h10
 refine awp_seq (rg0 [2] 0 ⟨78, [(2, .int .i64 1)], []⟩ ?_)
 refine then_n (awp_ret (then_r ?_))
 obtain rfl := Option.some.inj h12
 exact er0 (.int .i64 1)
 have h13 := cond_f b11 h10
 refine awp_skip (then_n (awp_seq (awp_seq ?_)))
 obtain ⟨r3, q14, h15⟩ := bind_some h13
 refine rg [.pure (.int .i64 r3)] [1, 3, 4] 2 ⟨78, [(1, .ref 0 0), (3, .ref 1 0), (4, .int .i64 r3)], [.box (c_TRouter a0), .box (c_TPathVector a0.fPV)]⟩ [] [⟨true, 94, [.agg (c_TRouter a0)], .pure (.int .i64 r3)⟩] nil_all ⟨fun _ => model_checkNeighbors_ok a0 r3 q14, trivial⟩ ?_
 refine then_n (awp_seq (rg0 [1, 3, 4, 67] 2 ⟨78, [(1, .ref 0 0), (3, .ref 1 0), (4, .int .i64 r3), (67, .bool (r3 != 0))], [.box (c_TRouter a0), .box (c_TPathVector a0.fPV)]⟩ ?_))
 refine then_n ?_
 refine cnd (r3 != 0) (fun b16 => ?_) (fun b16 => ?_)
 have h17 := cond_t b16 h15
 refine awp_seq (rg0 [2] 0 ⟨78, [(2, .int .i64 r3)], []⟩ ?_)
 refine then_n (awp_ret (then_r ?_))
 obtain rfl := Option.some.inj h17
 exact er0 (.int .i64 r3)
 have h18 := cond_f b16 h15
 refine awp_skip (then_n (awp_seq (awp_seq ?_)))
 obtain ⟨r4, q19, h20⟩ := bind_some h18
 refine rg [.pure (.int .i64 r4)] [1, 3, 5] 2 ⟨78, [(1, .ref 0 0), (3, .ref 1 0), (5, .int .i64 r4)], [.box (c_TRouter a0), .box (c_TPathVector a0.fPV)]⟩ [] [⟨true, 95, [.agg (c_TPathVector a0.fPV)], .pure (.int .i64 r4)⟩] nil_all ⟨fun _ => model_checkOrigins_ok a0.fPV r4 q19, trivial⟩ ?_
 refine then_n (awp_seq (rg0 [1, 3, 5, 72] 2 ⟨78, [(1, .ref 0 0), (3, .ref 1 0), (5, .int .i64 r4), (72, .bool (r4 != 0))], [.box (c_TRouter a0), .box (c_TPathVector a0.fPV)]⟩ ?_))
 refine then_n ?_
 refine cnd (r4 != 0) (fun b21 => ?_) (fun b21 => ?_)
 have h22 := cond_t b21 h20
 refine awp_seq (rg0 [2] 0 ⟨78, [(2, .int .i64 r4)], []⟩ ?_)
 refine then_n (awp_ret (then_r ?_))
 obtain rfl := Option.some.inj h22
 exact er0 (.int .i64 r4)
 have h23 := cond_f b21 h20
 refine awp_skip (then_n (awp_seq ?_))
 obtain ⟨r5, q24, h25⟩ := bind_some h23
 refine rg [.pure (.int .i64 r5)] [2] 0 ⟨78, [(2, .int .i64 r5)], []⟩ [] [⟨true, 93, [.agg (c_TRouter a0), sL 5 c_TRedist a0.fPV.fRedist, .int .i64 5, .int .i64 0, .int .i64 16777215, .int .i64 0], .pure (.int .i64 r5)⟩] nil_all ⟨fun _ => model_checkRedist_ok a0 a0.fPV.fRedist 5 0 16777215 0 r5 q24, trivial⟩ ?_
 refine then_n (awp_ret ?_)
 obtain rfl := Option.some.inj h25
 exact er0 (.int .i64 r5)

/- netverify/model.CheckRouter -/
theorem model_CheckRouter_ok (a0 : TRouter) (r : Int) (h : M.model_CheckRouter a0 = some r) : Fn Try.prog 26 [.agg (c_TRouter a0)] (.pure (.int .i64 r)) := by
 unfold M.model_CheckRouter at h
 refine fn_pure Try.func26 rfl (by kernel_rfl) ?_
 refine awp_seq (rg0 [1] 1 ⟨29, [(1, .ref 0 0)], [.box (c_TRouter a0)]⟩ ?_)
 refine then_n (awp_seq (awp_seq ?_))
 obtain ⟨r1, q1, h2⟩ := bind_some h
 refine rg [.pure (.bool r1)] [1, 10] 1 ⟨29, [(1, .ref 0 0), (10, .bool (!r1))], [.box (c_TRouter a0)]⟩ [] [⟨true, 60, [.str a0.fName], .pure (.bool r1)⟩] nil_all ⟨fun _ => scan_Name_ok a0.fName r1 q1, trivial⟩ ?_
 refine then_n ?_
 refine cnd (!r1) (fun b3 => ?_) (fun b3 => ?_)
 have h4 := cond_t b3 h2
 refine awp_seq (rg0 [2] 0 ⟨29, [(2, .int .i64 3)], []⟩ ?_)
 refine then_n (awp_ret (then_r ?_))
 obtain rfl := Option.some.inj h4
 exact er0 (.int .i64 3)
 have h5 := cond_f b3 h2
 refine awp_skip (then_n (awp_seq (awp_seq ?_)))
 obtain ⟨r2, q6, h7⟩ := bind_some h5
 refine rg [.pure (.bool r2)] [1, 14] 1 ⟨29, [(1, .ref 0 0), (14, .bool (!r2))], [.box (c_TRouter a0)]⟩ [] [⟨true, 61, [.int .i64 a0.fAS, .int .i64 0, .int .i64 65535], .pure (.bool r2)⟩] nil_all ⟨fun _ => model_within_ok a0.fAS 0 65535 r2 q6, trivial⟩ ?_
 refine then_n ?_
 refine cnd (!r2) (fun b8 => ?_) (fun b8 => ?_)
 have h9 := cond_t b8 h7
 refine awp_seq (rg0 [2] 0 ⟨29, [(2, .int .i64 1)], []⟩ ?_)
 refine then_n (awp_ret (then_r ?_))
 obtain rfl := Option.some.inj h9
 exact er0 (.int .i64 1)
 have h10 := cond_f b8 h7
 refine awp_skip (then_n (awp_seq (rg0 [1, 3] 1 ⟨29, [(1, .ref 0 0), (3, .sl true 1 10 (fun i => List.take 1 (List.drop (i * 1) [.fn 62 [], .fn 63 [], .fn 64 [], .fn 65 [], .fn 66 [], .fn 67 [], .fn 68 [], .fn 69 [], .fn 70 [], .fn 71 []])))], [.box (c_TRouter a0)]⟩ ?_)))
 refine then_n (awp_seq (awp_seq (rg0 [1, 16, 17, 18] 1 ⟨29, [(1, .ref 0 0), (16, .sl true 1 10 (fun i => List.take 1 (List.drop (i * 1) [.fn 62 [], .fn 63 [], .fn 64 [], .fn 65 [], .fn 66 [], .fn 67 [], .fn 68 [], .fn 69 [], .fn 70 [], .fn 71 []]))), (17, .int .i64 10), (18, .int .i64 0)], [.box (c_TRouter a0)]⟩ ?_)))
 refine then_n (awp_block (awp_unroll (lwp_round (awp_seq (rg0 [1, 16, 17, 18, 19] 1 ⟨29, [(1, .ref 0 0), (16, .sl true 1 10 (fun i => List.take 1 (List.drop (i * 1) [.fn 62 [], .fn 63 [], .fn 64 [], .fn 65 [], .fn 66 [], .fn 67 [], .fn 68 [], .fn 69 [], .fn 70 [], .fn 71 []]))), (17, .int .i64 10), (18, .int .i64 0), (19, .bool true)], [.box (c_TRouter a0)]⟩ ?_)))))
 refine then_n (awp_seq ?_)
 refine cnd true (fun _ => ?_) (fun b11 => Bool.noConfusion b11)
 refine awp_skip (then_n (awp_seq (awp_block (awp_seq ?_))))
 obtain ⟨c12, h13⟩ := gd_some h10
 refine rgc [1, 5, 16, 17, 18] 1 ⟨29, [(1, .ref 0 0), (5, .fn 62 []), (16, .sl true 1 10 (fun i => List.take 1 (List.drop (i * 1) [.fn 62 [], .fn 63 [], .fn 64 [], .fn 65 [], .fn 66 [], .fn 67 [], .fn 68 [], .fn 69 [], .fn 70 [], .fn 71 []]))), (17, .int .i64 10), (18, .int .i64 0)], [.box (c_TRouter a0)]⟩ [decide (0 ≤ 0), decide (0 < (10 : Int))] c12 ?_
 refine then_n (awp_seq ?_)
 obtain ⟨r3, q14, h15⟩ := bind_some h13
 refine rg [.pure (.int .i64 r3)] [1, 6, 16, 17, 18] 1 ⟨29, [(1, .ref 0 0), (6, .int .i64 r3), (16, .sl true 1 10 (fun i => List.take 1 (List.drop (i * 1) [.fn 62 [], .fn 63 [], .fn 64 [], .fn 65 [], .fn 66 [], .fn 67 [], .fn 68 [], .fn 69 [], .fn 70 [], .fn 71 []]))), (17, .int .i64 10), (18, .int .i64 0)], [.box (c_TRouter a0)]⟩ [] [⟨true, 62, [.agg (c_TRouter a0)], .pure (.int .i64 r3)⟩] nil_all ⟨fun _ => model_checkInterfaces_ok a0 r3 q14, trivial⟩ ?_
 refine then_n (awp_seq (rg0 [1, 6, 16, 17, 18, 26] 1 ⟨29, [(1, .ref 0 0), (6, .int .i64 r3), (16, .sl true 1 10 (fun i => List.take 1 (List.drop (i * 1) [.fn 62 [], .fn 63 [], .fn 64 [], .fn 65 [], .fn 66 [], .fn 67 [], .fn 68 [], .fn 69 [], .fn 70 [], .fn 71 []]))), (17, .int .i64 10), (18, .int .i64 0), (26, .bool (r3 != 0))], [.box (c_TRouter a0)]⟩ ?_))
 refine then_n ?_
 refine cnd (r3 != 0) (fun b16 => ?_) (fun b16 => ?_)
 have h17 := cond_t b16 h15
 refine awp_seq (rg0 [2] 0 ⟨29, [(2, .int .i64 r3)], []⟩ ?_)
 refine then_n (awp_ret (inb_r (then_r (thenl_r (inb_r (then_r ?_))))))
 obtain rfl := Option.some.inj h17
 exact er0 (.int .i64 r3)
 have h18 := cond_f b16 h15
 refine awp_skip (inb_n (then_n (rg0 [1, 16, 17, 18] 1 ⟨29, [(1, .ref 0 0), (16, .sl true 1 10 (fun i => List.take 1 (List.drop (i * 1) [.fn 62 [], .fn 63 [], .fn 64 [], .fn 65 [], .fn 66 [], .fn 67 [], .fn 68 [], .fn 69 [], .fn 70 [], .fn 71 []]))), (17, .int .i64 10), (18, .int .i64 1)], [.box (c_TRouter a0)]⟩ ?_)))
 refine thenl_n (lwp_round (awp_seq (rg0 [1, 16, 17, 18, 19] 1 ⟨29, [(1, .ref 0 0), (16, .sl true 1 10 (fun i => List.take 1 (List.drop (i * 1) [.fn 62 [], .fn 63 [], .fn 64 [], .fn 65 [], .fn 66 [], .fn 67 [], .fn 68 [], .fn 69 [], .fn 70 [], .fn 71 []]))), (17, .int .i64 10), (18, .int .i64 1), (19, .bool true)], [.box (c_TRouter a0)]⟩ ?_)))
 refine then_n (awp_seq ?_)
 refine cnd true (fun _ => ?_) (fun b19 => Bool.noConfusion b19)
 refine awp_skip (then_n (awp_seq (awp_block (awp_seq ?_))))
 obtain ⟨c20, h21⟩ := gd_some h18
 refine rgc [1, 5, 16, 17, 18] 1 ⟨29, [(1, .ref 0 0), (5, .fn 63 []), (16, .sl true 1 10 (fun i => List.take 1 (List.drop (i * 1) [.fn 62 [], .fn 63 [], .fn 64 [], .fn 65 [], .fn 66 [], .fn 67 [], .fn 68 [], .fn 69 [], .fn 70 [], .fn 71 []]))), (17, .int .i64 10), (18, .int .i64 1)], [.box (c_TRouter a0)]⟩ [decide (0 ≤ 1), decide (1 < (10 : Int))] c20 ?_
 refine then_n (awp_seq ?_)
 obtain ⟨r4, q22, h23⟩ := bind_some h21
 refine rg [.pure (.int .i64 r4)] [1, 6, 16, 17, 18] 1 ⟨29, [(1, .ref 0 0), (6, .int .i64 r4), (16, .sl true 1 10 (fun i => List.take 1 (List.drop (i * 1) [.fn 62 [], .fn 63 [], .fn 64 [], .fn 65 [], .fn 66 [], .fn 67 [], .fn 68 [], .fn 69 [], .fn 70 [], .fn 71 []]))), (17, .int .i64 10), (18, .int .i64 1)], [.box (c_TRouter a0)]⟩ [] [⟨true, 63, [.agg (c_TRouter a0)], .pure (.int .i64 r4)⟩] nil_all ⟨fun _ => model_checkPrefixLists_ok a0 r4 q22, trivial⟩ ?_
 refine then_n (awp_seq (rg0 [1, 6, 16, 17, 18, 26] 1 ⟨29, [(1, .ref 0 0), (6, .int .i64 r4), (16, .sl true 1 10 (fun i => List.take 1 (List.drop (i * 1) [.fn 62 [], .fn 63 [], .fn 64 [], .fn 65 [], .fn 66 [], .fn 67 [], .fn 68 [], .fn 69 [], .fn 70 [], .fn 71 []]))), (17, .int .i64 10), (18, .int .i64 1), (26, .bool (r4 != 0))], [.box (c_TRouter a0)]⟩ ?_))
 refine then_n ?_
 refine cnd (r4 != 0) (fun b24 => ?_) (fun b24 => ?_)
 have h25 := cond_t b24 h23
 refine awp_seq (rg0 [2] 0 ⟨29, [(2, .int .i64 r4)], []⟩ ?_)
 refine then_n (awp_ret (inb_r (then_r (thenl_r (inb_r (then_r ?_))))))
 obtain rfl := Option.some.inj h25
 exact er0 (.int .i64 r4)
 have h26 := cond_f b24 h23
 refine awp_skip (inb_n (then_n (rg0 [1, 16, 17, 18] 1 ⟨29, [(1, .ref 0 0), (16, .sl true 1 10 (fun i => List.take 1 (List.drop (i * 1) [.fn 62 [], .fn 63 [], .fn 64 [], .fn 65 [], .fn 66 [], .fn 67 [], .fn 68 [], .fn 69 [], .fn 70 [], .fn 71 []]))), (17, .int .i64 10), (18, .int .i64 2)], [.box (c_TRouter a0)]⟩ ?_)))
 refine thenl_n (lwp_round (awp_seq (rg0 [1, 16, 17, 18, 19] 1 ⟨29, [(1, .ref 0 0), (16, .sl true 1 10 (fun i => List.take 1 (List.drop (i * 1) [.fn 62 [], .fn 63 [], .fn 64 [], .fn 65 [], .fn 66 [], .fn 67 [], .fn 68 [], .fn 69 [], .fn 70 [], .fn 71 []]))), (17, .int .i64 10), (18, .int .i64 2), (19, .bool true)], [.box (c_TRouter a0)]⟩ ?_)))
 refine then_n (awp_seq ?_)
 refine cnd true (fun _ => ?_) (fun b27 => Bool.noConfusion b27)
 refine awp_skip (then_n (awp_seq (awp_block (awp_seq ?_))))
 obtain ⟨c28, h29⟩ := gd_some h26
 refine rgc [1, 5, 16, 17, 18] 1 ⟨29, [(1, .ref 0 0), (5, .fn 64 []), (16, .sl true 1 10 (fun i => List.take 1 (List.drop (i * 1) [.fn 62 [], .fn 63 [], .fn 64 [], .fn 65 [], .fn 66 [], .fn 67 [], .fn 68 [], .fn 69 [], .fn 70 [], .fn 71 []]))), (17, .int .i64 10), (18, .int .i64 2)], [.box (c_TRouter a0)]⟩ [decide (0 ≤ 2), decide (2 < (10 : Int))] c28 ?_
 refine then_n (awp_seq ?_)
 obtain ⟨r5, q30, h31⟩ := bind_some h29
 refine rg [.pure (.int .i64 r5)] [1, 6, 16, 17, 18] 1 ⟨29, [(1, .ref 0 0), (6, .int .i64 r5), (16, .sl true 1 10 (fun i => List.take 1 (List.drop (i * 1) [.fn 62 [], .fn 63 [], .fn 64 [], .fn 65 [], .fn 66 [], .fn 67 [], .fn 68 [], .fn 69 [], .fn 70 [], .fn 71 []]))), (17, .int .i64 10), (18, .int .i64 2)], [.box (c_TRouter a0)]⟩ [] [⟨true, 64, [.agg (c_TRouter a0)], .pure (.int .i64 r5)⟩] nil_all ⟨fun _ => model_checkRouteMaps_ok a0 r5 q30, trivial⟩ ?_
 refine then_n (awp_seq (rg0 [1, 6, 16, 17, 18, 26] 1 ⟨29, [(1, .ref 0 0), (6, .int .i64 r5), (16, .sl true 1 10 (fun i => List.take 1 (List.drop (i * 1) [.fn 62 [], .fn 63 [], .fn 64 [], .fn 65 [], .fn 66 [], .fn 67 [], .fn 68 [], .fn 69 [], .fn 70 [], .fn 71 []]))), (17, .int .i64 10), (18, .int .i64 2), (26, .bool (r5 != 0))], [.box (c_TRouter a0)]⟩ ?_))
 refine then_n ?_
 refine cnd (r5 != 0) (fun b32 => ?_) (fun b32 => ?_)
 have h33 := cond_t b32 h31
 refine awp_seq (rg0 [2] 0 ⟨29, [(2, .int .i64 r5)], []⟩ ?_)
 refine then_n (awp_ret (inb_r (then_r (thenl_r (inb_r (then_r ?_))))))
 obtain rfl := Option.some.inj h33
 exact er0 (.int .i64 r5)
 have h34 := cond_f b32 h31
 refine awp_skip (inb_n (then_n (rg0 [1, 16, 17, 18] 1 ⟨29, [(1, .ref 0 0), (16, .sl true 1 10 (fun i => List.take 1 (List.drop (i * 1) [.fn 62 [], .fn 63 [], .fn 64 [], .fn 65 [], .fn 66 [], .fn 67 [], .fn 68 [], .fn 69 [], .fn 70 [], .fn 71 []]))), (17, .int .i64 10), (18, .int .i64 3)], [.box (c_TRouter a0)]⟩ ?_)))
 refine thenl_n (lwp_round (awp_seq (rg0 [1, 16, 17, 18, 19] 1 ⟨29, [(1, .ref 0 0), (16, .sl true 1 10 (fun i => List.take 1 (List.drop (i * 1) [.fn 62 [], .fn 63 [], .fn 64 [], .fn 65 [], .fn 66 [], .fn 67 [], .fn 68 [], .fn 69 [], .fn 70 [], .fn 71 []]))), (17, .int .i64 10), (18, .int .i64 3), (19, .bool true)], [.box (c_TRouter a0)]⟩ ?_)))
 refine then_n (awp_seq ?_)
 refine cnd true (fun _ => ?_) (fun b35 => Bool.noConfusion b35)
 refine awp_skip (then_n (awp_seq (awp_block (awp_seq ?_))))
 obtain ⟨c36, h37⟩ := gd_some h34
 refine rgc [1, 5, 16, 17, 18] 1 ⟨29, [(1, .ref 0 0), (5, .fn 65 []), (16, .sl true 1 10 (fun i => List.take 1 (List.drop (i * 1) [.fn 62 [], .fn 63 [], .fn 64 [], .fn 65 [], .fn 66 [], .fn 67 [], .fn 68 [], .fn 69 [], .fn 70 [], .fn 71 []]))), (17, .int .i64 10), (18, .int .i64 3)], [.box (c_TRouter a0)]⟩ [decide (0 ≤ 3), decide (3 < (10 : Int))] c36 ?_
 refine then_n (awp_seq ?_)
 obtain ⟨r6, q38, h39⟩ := bind_some h37
 refine rg [.pure (.int .i64 r6)] [1, 6, 16, 17, 18] 1 ⟨29, [(1, .ref 0 0), (6, .int .i64 r6), (16, .sl true 1 10 (fun i => List.take 1 (List.drop (i * 1) [.fn 62 [], .fn 63 [], .fn 64 [], .fn 65 [], .fn 66 [], .fn 67 [], .fn 68 [], .fn 69 [], .fn 70 [], .fn 71 []]))), (17, .int .i64 10), (18, .int .i64 3)], [.box (c_TRouter a0)]⟩ [] [⟨true, 65, [.agg (c_TRouter a0)], .pure (.int .i64 r6)⟩] nil_all ⟨fun _ => model_checkACLs_ok a0 r6 q38, trivial⟩ ?_
 refine then_n (awp_seq (rg0 [1, 6, 16, 17, 18, 26] 1 ⟨29, [(1, .ref 0 0), (6, .int .i64 r6), (16, .sl true 1 10 (fun i => List.take 1 (List.drop (i * 1) [.fn 62 [], .fn 63 [], .fn 64 [], .fn 65 [], .fn 66 [], .fn 67 [], .fn 68 [], .fn 69 [], .fn 70 [], .fn 71 []]))), (17, .int .i64 10), (18, .int .i64 3), (26, .bool (r6 != 0))], [.box (c_TRouter a0)]⟩ ?_))
 refine then_n ?_
 refine cnd (r6 != 0) (fun b40 => ?_) (fun b40 => ?_)
 have h41 := cond_t b40 h39
 refine awp_seq (rg0 [2] 0 ⟨29, [(2, .int .i64 r6)], []⟩ ?_)
 refine then_n (awp_ret (inb_r (then_r (thenl_r (inb_r (then_r ?_))))))
 obtain rfl := Option.some.inj h41
 exact er0 (.int .i64 r6)
 have h42 := cond_f b40 h39
 refine awp_skip (inb_n (then_n (rg0 [1, 16, 17, 18] 1 ⟨29, [(1, .ref 0 0), (16, .sl true 1 10 (fun i => List.take 1 (List.drop (i * 1) [.fn 62 [], .fn 63 [], .fn 64 [], .fn 65 [], .fn 66 [], .fn 67 [], .fn 68 [], .fn 69 [], .fn 70 [], .fn 71 []]))), (17, .int .i64 10), (18, .int .i64 4)], [.box (c_TRouter a0)]⟩ ?_)))
 refine thenl_n (lwp_round (awp_seq (rg0 [1, 16, 17, 18, 19] 1 ⟨29, [(1, .ref 0 0), (16, .sl true 1 10 (fun i => List.take 1 (List.drop (i * 1) [.fn 62 [], .fn 63 [], .fn 64 [], .fn 65 [], .fn 66 [], .fn 67 [], .fn 68 [], .fn 69 [], .fn 70 [], .fn 71 []]))), (17, .int .i64 10), (18, .int .i64 4), (19, .bool true)], [.box (c_TRouter a0)]⟩ ?_)))
 refine then_n (awp_seq ?_)
 refine cnd true (fun _ => ?_) (fun b43 => Bool.noConfusion b43)
 refine awp_skip (then_n (awp_seq (awp_block (awp_seq ?_))))
 obtain ⟨c44, h45⟩ := gd_some h42
 refine rgc [1, 5, 16, 17, 18] 1 ⟨29, [(1, .ref 0 0), (5, .fn 66 []), (16, .sl true 1 10 (fun i => List.take 1 (List.drop (i * 1) [.fn 62 [], .fn 63 [], .fn 64 [], .fn 65 [], .fn 66 [], .fn 67 [], .fn 68 [], .fn 69 [], .fn 70 [], .fn 71 []]))), (17, .int .i64 10), (18, .int .i64 4)], [.box (c_TRouter a0)]⟩ [decide (0 ≤ 4), decide (4 < (10 : Int))] c44 ?_
 refine then_n (awp_seq ?_)
 obtain ⟨r7, q46, h47⟩ := bind_some h45
 refine rg [.pure (.int .i64 r7)] [1, 6, 16, 17, 18] 1 ⟨29, [(1, .ref 0 0), (6, .int .i64 r7), (16, .sl true 1 10 (fun i => List.take 1 (List.drop (i * 1) [.fn 62 [], .fn 63 [], .fn 64 [], .fn 65 [], .fn 66 [], .fn 67 [], .fn 68 [], .fn 69 [], .fn 70 [], .fn 71 []]))), (17, .int .i64 10), (18, .int .i64 4)], [.box (c_TRouter a0)]⟩ [] [⟨true, 66, [.agg (c_TRouter a0)], .pure (.int .i64 r7)⟩] nil_all ⟨fun _ => model_checkNAT_ok a0 r7 q46, trivial⟩ ?_
 refine then_n (awp_seq (rg0 [1, 6, 16, 17, 18, 26] 1 ⟨29, [(1, .ref 0 0), (6, .int .i64 r7), (16, .sl true 1 10 (fun i => List.take 1 (List.drop (i * 1) [.fn 62 [], .fn 63 [], .fn 64 [], .fn 65 [], .fn 66 [], .fn 67 [], .fn 68 [], .fn 69 [], .fn 70 [], .fn 71 []]))), (17, .int .i64 10), (18, .int .i64 4), (26, .bool (r7 != 0))], [.box (c_TRouter a0)]⟩ ?_))
 refine then_n ?_
 refine cnd (r7 != 0) (fun b48 => ?_) (fun b48 => ?_)
 have h49 := cond_t b48 h47
 refine awp_seq (rg0 [2] 0 ⟨29, [(2, .int .i64 r7)], []⟩ ?_)
 refine then_n (awp_ret (inb_r (then_r (thenl_r (inb_r (then_r ?_))))))
 obtain rfl := Option.some.inj h49
 exact er0 (.int .i64 r7)
 have h50 := cond_f b48 h47
 refine awp_skip (inb_n (then_n (rg0 [1, 16, 17, 18] 1 ⟨29, [(1, .ref 0 0), (16, .sl true 1 10 (fun i => List.take 1 (List.drop (i * 1) [.fn 62 [], .fn 63 [], .fn 64 [], .fn 65 [], .fn 66 [], .fn 67 [], .fn 68 [], .fn 69 [], .fn 70 [], .fn 71 []]))), (17, .int .i64 10), (18, .int .i64 5)], [.box (c_TRouter a0)]⟩ ?_)))
 refine thenl_n (lwp_round (awp_seq (rg0 [1, 16, 17, 18, 19] 1 ⟨29, [(1, .ref 0 0), (16, .sl true 1 10 (fun i => List.take 1 (List.drop (i * 1) [.fn 62 [], .fn 63 [], .fn 64 [], .fn 65 [], .fn 66 [], .fn 67 [], .fn 68 [], .fn 69 [], .fn 70 [], .fn 71 []]))), (17, .int .i64 10), (18, .int .i64 5), (19, .bool true)], [.box (c_TRouter a0)]⟩ ?_)))
 refine then_n (awp_seq ?_)
 refine cnd true (fun _ => ?_) (fun b51 => Bool.noConfusion b51)
 refine awp_skip (then_n (awp_seq (awp_block (awp_seq ?_))))
 obtain ⟨c52, h53⟩ := gd_some h50
 refine rgc [1, 5, 16, 17, 18] 1 ⟨29, [(1, .ref 0 0), (5, .fn 67 []), (16, .sl true 1 10 (fun i => List.take 1 (List.drop (i * 1) [.fn 62 [], .fn 63 [], .fn 64 [], .fn 65 [], .fn 66 [], .fn 67 [], .fn 68 [], .fn 69 [], .fn 70 [], .fn 71 []]))), (17, .int .i64 10), (18, .int .i64 5)], [.box (c_TRouter a0)]⟩ [decide (0 ≤ 5), decide (5 < (10 : Int))] c52 ?_
 refine then_n (awp_seq ?_)
 obtain ⟨r8, q54, h55⟩ := bind_some h53
 refine rg [.pure (.int .i64 r8)] [1, 6, 16, 17, 18] 1 ⟨29, [(1, .ref 0 0), (6, .int .i64 r8), (16, .sl true 1 10 (fun i => List.take 1 (List.drop (i * 1) [.fn 62 [], .fn 63 [], .fn 64 [], .fn 65 [], .fn 66 [], .fn 67 [], .fn 68 [], .fn 69 [], .fn 70 [], .fn 71 []]))), (17, .int .i64 10), (18, .int .i64 5)], [.box (c_TRouter a0)]⟩ [] [⟨true, 67, [.agg (c_TRouter a0)], .pure (.int .i64 r8)⟩] nil_all ⟨fun _ => model_checkFilters_ok a0 r8 q54, trivial⟩ ?_
 refine then_n (awp_seq (rg0 [1, 6, 16, 17, 18, 26] 1 ⟨29, [(1, .ref 0 0), (6, .int .i64 r8), (16, .sl true 1 10 (fun i => List.take 1 (List.drop (i * 1) [.fn 62 [], .fn 63 [], .fn 64 [], .fn 65 [], .fn 66 [], .fn 67 [], .fn 68 [], .fn 69 [], .fn 70 [], .fn 71 []]))), (17, .int .i64 10), (18, .int .i64 5), (26, .bool (r8 != 0))], [.box (c_TRouter a0)]⟩ ?_))
 refine then_n ?_
 refine cnd (r8 != 0) (fun b56 => ?_) (fun b56 => ?_)
 have h57 := cond_t b56 h55
 refine awp_seq (rg0 [2] 0 ⟨29, [(2, .int .i64 r8)], []⟩ ?_)
 refine then_n (awp_ret (inb_r (then_r (thenl_r (inb_r (then_r ?_))))))
 obtain rfl := Option.some.inj h57
 exact er0 (.int .i64 r8)
 have h58 := cond_f b56 h55
 refine awp_skip (inb_n (then_n (rg0 [1, 16, 17, 18] 1 ⟨29, [(1, .ref 0 0), (16, .sl true 1 10 (fun i => List.take 1 (List.drop (i * 1) [.fn 62 [], .fn 63 [], .fn 64 [], .fn 65 [], .fn 66 [], .fn 67 [], .fn 68 [], .fn 69 [], .fn 70 [], .fn 71 []]))), (17, .int .i64 10), (18, .int .i64 6)], [.box (c_TRouter a0)]⟩ ?_)))
 refine thenl_n (lwp_round (awp_seq (rg0 [1, 16, 17, 18, 19] 1 ⟨29, [(1, .ref 0 0), (16, .sl true 1 10 (fun i => List.take 1 (List.drop (i * 1) [.fn 62 [], .fn 63 [], .fn 64 [], .fn 65 [], .fn 66 [], .fn 67 [], .fn 68 [], .fn 69 [], .fn 70 [], .fn 71 []]))), (17, .int .i64 10), (18, .int .i64 6), (19, .bool true)], [.box (c_TRouter a0)]⟩ ?_)))
 refine then_n (awp_seq ?_)
 refine cnd true (fun _ => ?_) (fun b59 => Bool.noConfusion b59)
 refine awp_skip (then_n (awp_seq (awp_block (awp_seq ?_))))
 obtain ⟨c60, h61⟩ := gd_some h58
 refine rgc [1, 5, 16, 17, 18] 1 ⟨29, [(1, .ref 0 0), (5, .fn 68 []), (16, .sl true 1 10 (fun i => List.take 1 (List.drop (i * 1) [.fn 62 [], .fn 63 [], .fn 64 [], .fn 65 [], .fn 66 [], .fn 67 [], .fn 68 [], .fn 69 [], .fn 70 [], .fn 71 []]))), (17, .int .i64 10), (18, .int .i64 6)], [.box (c_TRouter a0)]⟩ [decide (0 ≤ 6), decide (6 < (10 : Int))] c60 ?_
 refine then_n (awp_seq ?_)
 obtain ⟨r9, q62, h63⟩ := bind_some h61
 refine rg [.pure (.int .i64 r9)] [1, 6, 16, 17, 18] 1 ⟨29, [(1, .ref 0 0), (6, .int .i64 r9), (16, .sl true 1 10 (fun i => List.take 1 (List.drop (i * 1) [.fn 62 [], .fn 63 [], .fn 64 [], .fn 65 [], .fn 66 [], .fn 67 [], .fn 68 [], .fn 69 [], .fn 70 [], .fn 71 []]))), (17, .int .i64 10), (18, .int .i64 6)], [.box (c_TRouter a0)]⟩ [] [⟨true, 68, [.agg (c_TRouter a0)], .pure (.int .i64 r9)⟩] nil_all ⟨fun _ => model_checkStatics_ok a0 r9 q62, trivial⟩ ?_
 refine then_n (awp_seq (rg0 [1, 6, 16, 17, 18, 26] 1 ⟨29, [(1, .ref 0 0), (6, .int .i64 r9), (16, .sl true 1 10 (fun i => List.take 1 (List.drop (i * 1) [.fn 62 [], .fn 63 [], .fn 64 [], .fn 65 [], .fn 66 [], .fn 67 [], .fn 68 [], .fn 69 [], .fn 70 [], .fn 71 []]))), (17, .int .i64 10), (18, .int .i64 6), (26, .bool (r9 != 0))], [.box (c_TRouter a0)]⟩ ?_))
 refine then_n ?_
 refine cnd (r9 != 0) (fun b64 => ?_) (fun b64 => ?_)
 have h65 := cond_t b64 h63
 refine awp_seq (rg0 [2] 0 ⟨29, [(2, .int .i64 r9)], []⟩ ?_)
 refine then_n (awp_ret (inb_r (then_r (thenl_r (inb_r (then_r ?_))))))
 obtain rfl := Option.some.inj h65
 exact er0 (.int .i64 r9)
 have h66 := cond_f b64 h63
 refine awp_skip (inb_n (then_n (rg0 [1, 16, 17, 18] 1 ⟨29, [(1, .ref 0 0), (16, .sl true 1 10 (fun i => List.take 1 (List.drop (i * 1) [.fn 62 [], .fn 63 [], .fn 64 [], .fn 65 [], .fn 66 [], .fn 67 [], .fn 68 [], .fn 69 [], .fn 70 [], .fn 71 []]))), (17, .int .i64 10), (18, .int .i64 7)], [.box (c_TRouter a0)]⟩ ?_)))
 refine thenl_n (lwp_round (awp_seq (rg0 [1, 16, 17, 18, 19] 1 ⟨29, [(1, .ref 0 0), (16, .sl true 1 10 (fun i => List.take 1 (List.drop (i * 1) [.fn 62 [], .fn 63 [], .fn 64 [], .fn 65 [], .fn 66 [], .fn 67 [], .fn 68 [], .fn 69 [], .fn 70 [], .fn 71 []]))), (17, .int .i64 10), (18, .int .i64 7), (19, .bool true)], [.box (c_TRouter a0)]⟩ ?_)))
 refine then_n (awp_seq ?_)
 refine cnd true (fun _ => ?_) (fun b67 => Bool.noConfusion b67)
 refine awp_skip (then_n (awp_seq (awp_block (awp_seq ?_))))
 obtain ⟨c68, h69⟩ := gd_some h66
 refine rgc [1, 5, 16, 17, 18] 1 ⟨29, [(1, .ref 0 0), (5, .fn 69 []), (16, .sl true 1 10 (fun i => List.take 1 (List.drop (i * 1) [.fn 62 [], .fn 63 [], .fn 64 [], .fn 65 [], .fn 66 [], .fn 67 [], .fn 68 [], .fn 69 [], .fn 70 [], .fn 71 []]))), (17, .int .i64 10), (18, .int .i64 7)], [.box (c_TRouter a0)]⟩ [decide (0 ≤ 7), decide (7 < (10 : Int))] c68 ?_
 refine then_n (awp_seq ?_)
 obtain ⟨r10, q70, h71⟩ := bind_some h69
 refine rg [.pure (.int .i64 r10)] [1, 6, 16, 17, 18] 1 ⟨29, [(1, .ref 0 0), (6, .int .i64 r10), (16, .sl true 1 10 (fun i => List.take 1 (List.drop (i * 1) [.fn 62 [], .fn 63 [], .fn 64 [], .fn 65 [], .fn 66 [], .fn 67 [], .fn 68 [], .fn 69 [], .fn 70 [], .fn 71 []]))), (17, .int .i64 10), (18, .int .i64 7)], [.box (c_TRouter a0)]⟩ [] [⟨true, 69, [.agg (c_TRouter a0)], .pure (.int .i64 r10)⟩] nil_all ⟨fun _ => model_checkLinkState_ok a0 r10 q70, trivial⟩ ?_
 refine then_n (awp_seq (rg0 [1, 6, 16, 17, 18, 26] 1 ⟨29, [(1, .ref 0 0), (6, .int .i64 r10), (16, .sl true 1 10 (fun i => List.take 1 (List.drop (i * 1) [.fn 62 [], .fn 63 [], .fn 64 [], .fn 65 [], .fn 66 [], .fn 67 [], .fn 68 [], .fn 69 [], .fn 70 [], .fn 71 []]))), (17, .int .i64 10), (18, .int .i64 7), (26, .bool (r10 != 0))], [.box (c_TRouter a0)]⟩ ?_))
 refine then_n ?_
 refine cnd (r10 != 0) (fun b72 => ?_) (fun b72 => ?_)
 have h73 := cond_t b72 h71
 refine awp_seq (rg0 [2] 0 ⟨29, [(2, .int .i64 r10)], []⟩ ?_)
 refine then_n (awp_ret (inb_r (then_r (thenl_r (inb_r (then_r ?_))))))
 obtain rfl := Option.some.inj h73
 exact er0 (.int .i64 r10)
 have h74 := cond_f b72 h71
 refine awp_skip (inb_n (then_n (rg0 [1, 16, 17, 18] 1 ⟨29, [(1, .ref 0 0), (16, .sl true 1 10 (fun i => List.take 1 (List.drop (i * 1) [.fn 62 [], .fn 63 [], .fn 64 [], .fn 65 [], .fn 66 [], .fn 67 [], .fn 68 [], .fn 69 [], .fn 70 [], .fn 71 []]))), (17, .int .i64 10), (18, .int .i64 8)], [.box (c_TRouter a0)]⟩ ?_)))
 refine thenl_n (lwp_round (awp_seq (rg0 [1, 16, 17, 18, 19] 1 ⟨29, [(1, .ref 0 0), (16, .sl true 1 10 (fun i => List.take 1 (List.drop (i * 1) [.fn 62 [], .fn 63 [], .fn 64 [], .fn 65 [], .fn 66 [], .fn 67 [], .fn 68 [], .fn 69 [], .fn 70 [], .fn 71 []]))), (17, .int .i64 10), (18, .int .i64 8), (19, .bool true)], [.box (c_TRouter a0)]⟩ ?_)))
 refine then_n (awp_seq ?_)
 refine cnd true (fun _ => ?_) (fun b75 => Bool.noConfusion b75)
 refine awp_skip (then_n (awp_seq (awp_block (awp_seq ?_))))
 obtain ⟨c76, h77⟩ := gd_some h74
 refine rgc [1, 5, 16, 17, 18] 1 ⟨29, [(1, .ref 0 0), (5, .fn 70 []), (16, .sl true 1 10 (fun i => List.take 1 (List.drop (i * 1) [.fn 62 [], .fn 63 [], .fn 64 [], .fn 65 [], .fn 66 [], .fn 67 [], .fn 68 [], .fn 69 [], .fn 70 [], .fn 71 []]))), (17, .int .i64 10), (18, .int .i64 8)], [.box (c_TRouter a0)]⟩ [decide (0 ≤ 8), decide (8 < (10 : Int))] c76 ?_
 refine then_n (awp_seq ?_)
 obtain ⟨r11, q78, h79⟩ := bind_some h77
 refine rg [.pure (.int .i64 r11)] [1, 6, 16, 17, 18] 1 ⟨29, [(1, .ref 0 0), (6, .int .i64 r11), (16, .sl true 1 10 (fun i => List.take 1 (List.drop (i * 1) [.fn 62 [], .fn 63 [], .fn 64 [], .fn 65 [], .fn 66 [], .fn 67 [], .fn 68 [], .fn 69 [], .fn 70 [], .fn 71 []]))), (17, .int .i64 10), (18, .int .i64 8)], [.box (c_TRouter a0)]⟩ [] [⟨true, 70, [.agg (c_TRouter a0)], .pure (.int .i64 r11)⟩] nil_all ⟨fun _ => model_checkDistanceVector_ok a0 r11 q78, trivial⟩ ?_
 refine then_n (awp_seq (rg0 [1, 6, 16, 17, 18, 26] 1 ⟨29, [(1, .ref 0 0), (6, .int .i64 r11), (16, .sl true 1 10 (fun i => List.take 1 (List.drop (i * 1) [.fn 62 [], .fn 63 [], .fn 64 [], .fn 65 [], .fn 66 [], .fn 67 [], .fn 68 [], .fn 69 [], .fn 70 [], .fn 71 []]))), (17, .int .i64 10), (18, .int .i64 8), (26, .bool (r11 != 0))], [.box (c_TRouter a0)]⟩ ?_))
 refine then_n ?_
 refine cnd (r11 != 0) (fun b80 => ?_) (fun b80 => ?_)
 have h81 := cond_t b80 h79
 refine awp_seq (rg0 [2] 0 ⟨29, [(2, .int .i64 r11)], []⟩ ?_)
 refine then_n (awp_ret (inb_r (then_r (thenl_r (inb_r (then_r ?_))))))
 obtain rfl := Option.some.inj h81
 exact er0 (.int .i64 r11)
 have h82 := cond_f b80 h79
 refine awp_skip (inb_n (then_n (rg0 [1, 16, 17, 18] 1 ⟨29, [(1, .ref 0 0), (16, .sl true 1 10 (fun i => List.take 1 (List.drop (i * 1) [.fn 62 [], .fn 63 [], .fn 64 [], .fn 65 [], .fn 66 [], .fn 67 [], .fn 68 [], .fn 69 [], .fn 70 [], .fn 71 []]))), (17, .int .i64 10), (18, .int .i64 9)], [.box (c_TRouter a0)]⟩ ?_)))
 refine thenl_n (lwp_round (awp_seq (rg0 [1, 16, 17, 18, 19] 1 ⟨29, [(1, .ref 0 0), (16, .sl true 1 10 (fun i => List.take 1 (List.drop (i * 1) [.fn 62 [], .fn 63 [], .fn 64 [], .fn 65 [], .fn 66 [], .fn 67 [], .fn 68 [], .fn 69 [], .fn 70 [], .fn 71 []]))), (17, .int .i64 10), (18, .int .i64 9), (19, .bool true)], [.box (c_TRouter a0)]⟩ ?_)))
 refine then_n (awp_seq ?_)
 refine cnd true (fun _ => ?_) (fun b83 => Bool.noConfusion b83)
 refine awp_skip (then_n (awp_seq (awp_block (awp_seq ?_))))
 obtain ⟨c84, h85⟩ := gd_some h82
 refine rgc [1, 5, 16, 17, 18] 1 ⟨29, [(1, .ref 0 0), (5, .fn 71 []), (16, .sl true 1 10 (fun i => List.take 1 (List.drop (i * 1) [.fn 62 [], .fn 63 [], .fn 64 [], .fn 65 [], .fn 66 [], .fn 67 [], .fn 68 [], .fn 69 [], .fn 70 [], .fn 71 []]))), (17, .int .i64 10), (18, .int .i64 9)], [.box (c_TRouter a0)]⟩ [decide (0 ≤ 9), decide (9 < (10 : Int))] c84 ?_
 refine then_n (awp_seq ?_)
 obtain ⟨r12, q86, h87⟩ := bind_some h85
 refine rg [.pure (.int .i64 r12)] [1, 6, 16, 17, 18] 1 ⟨29, [(1, .ref 0 0), (6, .int .i64 r12), (16, .sl true 1 10 (fun i => List.take 1 (List.drop (i * 1) [.fn 62 [], .fn 63 [], .fn 64 [], .fn 65 [], .fn 66 [], .fn 67 [], .fn 68 [], .fn 69 [], .fn 70 [], .fn 71 []]))), (17, .int .i64 10), (18, .int .i64 9)], [.box (c_TRouter a0)]⟩ [] [⟨true, 71, [.agg (c_TRouter a0)], .pure (.int .i64 r12)⟩] nil_all ⟨fun _ => model_checkPathVector_ok a0 r12 q86, trivial⟩ ?_
 refine then_n (awp_seq (rg0 [1, 6, 16, 17, 18, 26] 1 ⟨29, [(1, .ref 0 0), (6, .int .i64 r12), (16, .sl true 1 10 (fun i => List.take 1 (List.drop (i * 1) [.fn 62 [], .fn 63 [], .fn 64 [], .fn 65 [], .fn 66 [], .fn 67 [], .fn 68 [], .fn 69 [], .fn 70 [], .fn 71 []]))), (17, .int .i64 10), (18, .int .i64 9), (26, .bool (r12 != 0))], [.box (c_TRouter a0)]⟩ ?_))
 refine then_n ?_
 refine cnd (r12 != 0) (fun b88 => ?_) (fun b88 => ?_)
 have h89 := cond_t b88 h87
 refine awp_seq (rg0 [2] 0 ⟨29, [(2, .int .i64 r12)], []⟩ ?_)
 refine then_n (awp_ret (inb_r (then_r (thenl_r (inb_r (then_r ?_))))))
 obtain rfl := Option.some.inj h89
 exact er0 (.int .i64 r12)
 have h90 := cond_f b88 h87
 refine awp_skip (inb_n (then_n (rg0 [1, 16, 17, 18] 1 ⟨29, [(1, .ref 0 0), (16, .sl true 1 10 (fun i => List.take 1 (List.drop (i * 1) [.fn 62 [], .fn 63 [], .fn 64 [], .fn 65 [], .fn 66 [], .fn 67 [], .fn 68 [], .fn 69 [], .fn 70 [], .fn 71 []]))), (17, .int .i64 10), (18, .int .i64 10)], [.box (c_TRouter a0)]⟩ ?_)))
 refine thenl_n (lwp_round (awp_seq (rg0 [1, 16, 17, 18, 19] 1 ⟨29, [(1, .ref 0 0), (16, .sl true 1 10 (fun i => List.take 1 (List.drop (i * 1) [.fn 62 [], .fn 63 [], .fn 64 [], .fn 65 [], .fn 66 [], .fn 67 [], .fn 68 [], .fn 69 [], .fn 70 [], .fn 71 []]))), (17, .int .i64 10), (18, .int .i64 10), (19, .bool false)], [.box (c_TRouter a0)]⟩ ?_)))
 refine then_n (awp_seq ?_)
 refine cnd false (fun b91 => Bool.noConfusion b91) (fun _ => ?_)
 refine awp_exit (then_e (thenl_e (inb_here (then_n (awp_seq (rg0 [2] 0 ⟨29, [(2, .int .i64 0)], []⟩ ?_))))))
 refine then_n (awp_ret ?_)
 obtain rfl := Option.some.inj h90
 exact er0 (.int .i64 0)

/- netverify/netverifylaw5.sane -/
theorem law5_sane_ok  (r : Bool) (h : M.law5_sane  = some r) : Fn Try.prog 10 [] (.pure (.bool r)) := by
 unfold M.law5_sane at h
 refine fn_pure Try.func10 rfl (by kernel_rfl) ?_
 refine awp_seq (rg0 [] 0 ⟨35, [], []⟩ ?_)
 refine then_n (awp_seq ?_)
 obtain ⟨r1, q1, h2⟩ := bind_some h
 refine rg [.pure (.agg (c_TRouter r1))] [1] 1 ⟨35, [(1, .ref 0 0)], [.box (c_TRouter r1)]⟩ [] [⟨true, 44, [], .pure (.agg (c_TRouter r1))⟩] nil_all ⟨fun _ => law5_sample_ok  r1 q1, trivial⟩ ?_
 refine then_n (awp_seq (rg0 [1, 2] 2 ⟨35, [(1, .ref 0 0), (2, .ref 1 0)], [.box (c_TRouter r1), .box (c_TRouter r1)]⟩ ?_))
 refine then_n (awp_seq (rg0 [1, 2] 2 ⟨35, [(1, .ref 0 0), (2, .ref 1 0)], [.box (c_TRouter r1), .box [.str (⟨#[49, 114]⟩ : ByteArray), .int .i64 r1.fAS, sL 12 c_TInterface r1.fInterfaces, sL 2 c_TPrefixList r1.fLists, sL 2 c_TRouteMap r1.fMaps, sL 2 c_TACL r1.fACLs, sL 9 c_TTranslation r1.fNAT, sL 7 c_TStaticRoute r1.fStatics, .bool r1.fLS.fOn, .int .i64 r1.fLS.fAdmin, sL 3 c_TAreaRange r1.fLS.fRanges, sL 5 c_TRedist r1.fLS.fRedist, .bool r1.fDV.fOn, .int .i64 r1.fDV.fAdmin, .str r1.fDV.fIn, .str r1.fDV.fOut, sL 5 c_TRedist r1.fDV.fRedist, .bool r1.fPV.fOn, .int .i64 r1.fPV.fExternal, .int .i64 r1.fPV.fInternal, sL 4 c_TNeighbor r1.fPV.fNeighbors, sL 2 c_TPrefix r1.fPV.fNetworks, sL 3 c_TAggregate r1.fPV.fAggregates, sL 5 c_TCondition r1.fPV.fConditions, sL 5 c_TRedist r1.fPV.fRedist]]⟩ ?_))
 refine then_n (awp_seq ?_)
 obtain ⟨r2, q3, h4⟩ := bind_some h2
 obtain ⟨r3, q5, h6⟩ := bind_some h4
 obtain ⟨r4, q7, h8⟩ := bind_some h6
 obtain ⟨r5, q9, h10⟩ := bind_some h8
 obtain ⟨r6, q11, h12⟩ := bind_some h10
 obtain ⟨r7, q13, h14⟩ := bind_some h12
 obtain ⟨r8, q15, h16⟩ := bind_some h14
 refine rg [.pure (.int .i64 r2), .pure (.int .i64 r3), .pure (.agg (c_TRouter r4)), .pure (.bool r5), .pure (.bool r6), .pure (.int .i64 r7), .pure (.int .i64 r8)] [0] 0 ⟨35, [(0, .bool ((((((r2 == 0) && (r3 == 3)) && r5) && (!r6)) && (r7 == 1)) && (r8 == 1)))], []⟩ [] [⟨true, 26, [.agg (c_TRouter r1)], .pure (.int .i64 r2)⟩, ⟨r2 == 0, 26, [.agg [.str (⟨#[49, 114]⟩ : ByteArray), .int .i64 r1.fAS, sL 12 c_TInterface r1.fInterfaces, sL 2 c_TPrefixList r1.fLists, sL 2 c_TRouteMap r1.fMaps, sL 2 c_TACL r1.fACLs, sL 9 c_TTranslation r1.fNAT, sL 7 c_TStaticRoute r1.fStatics, .bool r1.fLS.fOn, .int .i64 r1.fLS.fAdmin, sL 3 c_TAreaRange r1.fLS.fRanges, sL 5 c_TRedist r1.fLS.fRedist, .bool r1.fDV.fOn, .int .i64 r1.fDV.fAdmin, .str r1.fDV.fIn, .str r1.fDV.fOut, sL 5 c_TRedist r1.fDV.fRedist, .bool r1.fPV.fOn, .int .i64 r1.fPV.fExternal, .int .i64 r1.fPV.fInternal, sL 4 c_TNeighbor r1.fPV.fNeighbors, sL 2 c_TPrefix r1.fPV.fNetworks, sL 3 c_TAggregate r1.fPV.fAggregates, sL 5 c_TCondition r1.fPV.fConditions, sL 5 c_TRedist r1.fPV.fRedist]], .pure (.int .i64 r3)⟩, ⟨(r2 == 0) && (r3 == 3), 44, [], .pure (.agg (c_TRouter r4))⟩, ⟨(r2 == 0) && (r3 == 3), 9, [.agg (c_TRouter r1), .agg (c_TRouter r4)], .pure (.bool r5)⟩, ⟨((r2 == 0) && (r3 == 3)) && r5, 9, [.agg (c_TRouter r1), .agg [.str (⟨#[49, 114]⟩ : ByteArray), .int .i64 r1.fAS, sL 12 c_TInterface r1.fInterfaces, sL 2 c_TPrefixList r1.fLists, sL 2 c_TRouteMap r1.fMaps, sL 2 c_TACL r1.fACLs, sL 9 c_TTranslation r1.fNAT, sL 7 c_TStaticRoute r1.fStatics, .bool r1.fLS.fOn, .int .i64 r1.fLS.fAdmin, sL 3 c_TAreaRange r1.fLS.fRanges, sL 5 c_TRedist r1.fLS.fRedist, .bool r1.fDV.fOn, .int .i64 r1.fDV.fAdmin, .str r1.fDV.fIn, .str r1.fDV.fOut, sL 5 c_TRedist r1.fDV.fRedist, .bool r1.fPV.fOn, .int .i64 r1.fPV.fExternal, .int .i64 r1.fPV.fInternal, sL 4 c_TNeighbor r1.fPV.fNeighbors, sL 2 c_TPrefix r1.fPV.fNetworks, sL 3 c_TAggregate r1.fPV.fAggregates, sL 5 c_TCondition r1.fPV.fConditions, sL 5 c_TRedist r1.fPV.fRedist]], .pure (.bool r6)⟩, ⟨(((r2 == 0) && (r3 == 3)) && r5) && (!r6), 15, [.agg (c_TRouter r1), .str (⟨#[101, 49]⟩ : ByteArray)], .pure (.int .i64 r7)⟩, ⟨((((r2 == 0) && (r3 == 3)) && r5) && (!r6)) && (r7 == 1), 23, [.agg (c_TRouter r1), .int .u32 167772417], .pure (.int .i64 r8)⟩] nil_all ⟨fun _ => model_CheckRouter_ok r1 r2 q3, fun hg => model_CheckRouter_ok (⟨(⟨#[49, 114]⟩ : ByteArray), r1.fAS, r1.fInterfaces, r1.fLists, r1.fMaps, r1.fACLs, r1.fNAT, r1.fStatics, r1.fLS, r1.fDV, r1.fPV⟩ : TRouter) r3 (gc_some q5 hg), fun hg => law5_sample_ok  r4 (gc_some q7 hg), fun hg => model_Same_ok r1 r4 r5 (gc_some q9 hg), fun hg => model_Same_ok r1 (⟨(⟨#[49, 114]⟩ : ByteArray), r1.fAS, r1.fInterfaces, r1.fLists, r1.fMaps, r1.fACLs, r1.fNAT, r1.fStatics, r1.fLS, r1.fDV, r1.fPV⟩ : TRouter) r6 (gc_some q11 hg), fun hg => model_Interface_ok r1 (⟨#[101, 49]⟩ : ByteArray) r7 (gc_some q13 hg), fun hg => model_Address_ok r1 167772417 r8 (gc_some q15 hg), trivial⟩ ?_
 refine then_n (awp_ret ?_)
 obtain rfl := Option.some.inj h16
 exact er0 (.bool ((((((r2 == 0) && (r3 == 3)) && r5) && (!r6)) && (r7 == 1)) && (r8 == 1)))

/- netverify/netverifylaw5.ModelSame -/
theorem law5_ModelSame_ok (a0 : TRouter) (a1 : TRouter) (r : Bool) (h : M.law5_ModelSame a0 a1 = some r) : Fn Try.prog 4 [.agg (c_TRouter a0), .agg (c_TRouter a1)] (.pure (.bool r)) := by
 unfold M.law5_ModelSame at h
 refine fn_pure Try.func4 rfl (by kernel_rfl) ?_
 refine awp_seq (rg0 [2, 3] 2 ⟨72, [(2, .ref 0 0), (3, .ref 1 0)], [.box (c_TRouter a0), .box (c_TRouter a1)]⟩ ?_)
 refine then_n (awp_seq (awp_seq ?_))
 obtain ⟨r1, q1, h2⟩ := bind_some h
 obtain ⟨r2, q3, h4⟩ := bind_some h2
 refine rg [.pure (.bool r1), .pure (.bool r2)] [2, 3, 16] 2 ⟨72, [(2, .ref 0 0), (3, .ref 1 0), (16, .bool ((!r1) || (!r2)))], [.box (c_TRouter a0), .box (c_TRouter a1)]⟩ [] [⟨true, 8, [.agg (c_TRouter a0)], .pure (.bool r1)⟩, ⟨(!(!r1)), 8, [.agg (c_TRouter a1)], .pure (.bool r2)⟩] nil_all ⟨fun _ => law5_Small_ok a0 r1 q1, fun hg => law5_Small_ok a1 r2 (gc_some q3 hg), trivial⟩ ?_
 refine then_n ?_
 refine cnd ((!r1) || (!r2)) (fun b5 => ?_) (fun b5 => ?_)
 have h6 := cond_t b5 h4
 refine awp_seq (rg0 [4] 0 ⟨72, [(4, .bool true)], []⟩ ?_)
 refine then_n (awp_ret (then_r ?_))
 obtain rfl := Option.some.inj h6
 exact er0 (.bool true)
 have h7 := cond_f b5 h4
 refine awp_skip (then_n (awp_seq (rg0 [2, 3, 5] 3 ⟨72, [(2, .ref 0 0), (3, .ref 1 0), (5, .ref 2 0)], [.box (c_TRouter a0), .box (c_TRouter a1), .box (c_TRouter a0)]⟩ ?_)))
 refine then_n (awp_seq ?_)
 obtain ⟨c8, h9⟩ := gd_some h7
 refine rgc [2, 3, 5] 4 ⟨72, [(2, .ref 0 0), (3, .ref 1 0), (5, .ref 2 0)], [.box (c_TRouter a0), .box (c_TRouter a1), .box [.str a0.fName, .int .i64 a0.fAS, sL 12 c_TInterface a0.fInterfaces, sL 2 c_TPrefixList a0.fLists, sL 2 c_TRouteMap a0.fMaps, sL 2 c_TACL a0.fACLs, sL 9 c_TTranslation a0.fNAT, .asl 3 0 (0 + a0.fStatics.length), .bool a0.fLS.fOn, .int .i64 a0.fLS.fAdmin, sL 3 c_TAreaRange a0.fLS.fRanges, sL 5 c_TRedist a0.fLS.fRedist, .bool a0.fDV.fOn, .int .i64 a0.fDV.fAdmin, .str a0.fDV.fIn, .str a0.fDV.fOut, sL 5 c_TRedist a0.fDV.fRedist, .bool a0.fPV.fOn, .int .i64 a0.fPV.fExternal, .int .i64 a0.fPV.fInternal, sL 4 c_TNeighbor a0.fPV.fNeighbors, sL 2 c_TPrefix a0.fPV.fNetworks, sL 3 c_TAggregate a0.fPV.fAggregates, sL 5 c_TCondition a0.fPV.fConditions, sL 5 c_TRedist a0.fPV.fRedist], .arr 7 (0 + a0.fStatics.length) (app (fun i => List.take 7 (List.drop (i * 7) [])) 0 (fun i => c_TStaticRoute (a0.fStatics.getD i default)))]⟩ [decide (0 = 0) || decide (0 < a0.fStatics.length), decide ((0 + a0.fStatics.length) * 64 ≤ 140737488355328)] c8 ?_
 refine then_le (s' := ⟨72, [(2, .ref 0 0), (3, .ref 1 0), (5, .ref 2 0)], [.box (c_TRouter a0), .box (c_TRouter a1), .box [.str a0.fName, .int .i64 a0.fAS, sL 12 c_TInterface a0.fInterfaces, sL 2 c_TPrefixList a0.fLists, sL 2 c_TRouteMap a0.fMaps, sL 2 c_TACL a0.fACLs, sL 9 c_TTranslation a0.fNAT, sL 7 c_TStaticRoute (a0.fStatics : List TStaticRoute), .bool a0.fLS.fOn, .int .i64 a0.fLS.fAdmin, sL 3 c_TAreaRange a0.fLS.fRanges, sL 5 c_TRedist a0.fLS.fRedist, .bool a0.fDV.fOn, .int .i64 a0.fDV.fAdmin, .str a0.fDV.fIn, .str a0.fDV.fOut, sL 5 c_TRedist a0.fDV.fRedist, .bool a0.fPV.fOn, .int .i64 a0.fPV.fExternal, .int .i64 a0.fPV.fInternal, sL 4 c_TNeighbor a0.fPV.fNeighbors, sL 2 c_TPrefix a0.fPV.fNetworks, sL 3 c_TAggregate a0.fPV.fAggregates, sL 5 c_TCondition a0.fPV.fConditions, sL 5 c_TRedist a0.fPV.fRedist], aL 7 c_TStaticRoute ([] : List TStaticRoute)]⟩) (Le.trans (le_frb (s := ⟨72, [(2, .ref 0 0), (3, .ref 1 0), (5, .ref 2 0)], [.box (c_TRouter a0), .box (c_TRouter a1), .box [.str a0.fName, .int .i64 a0.fAS, sL 12 c_TInterface a0.fInterfaces, sL 2 c_TPrefixList a0.fLists, sL 2 c_TRouteMap a0.fMaps, sL 2 c_TACL a0.fACLs, sL 9 c_TTranslation a0.fNAT, .asl 3 0 (0 + a0.fStatics.length), .bool a0.fLS.fOn, .int .i64 a0.fLS.fAdmin, sL 3 c_TAreaRange a0.fLS.fRanges, sL 5 c_TRedist a0.fLS.fRedist, .bool a0.fDV.fOn, .int .i64 a0.fDV.fAdmin, .str a0.fDV.fIn, .str a0.fDV.fOut, sL 5 c_TRedist a0.fDV.fRedist, .bool a0.fPV.fOn, .int .i64 a0.fPV.fExternal, .int .i64 a0.fPV.fInternal, sL 4 c_TNeighbor a0.fPV.fNeighbors, sL 2 c_TPrefix a0.fPV.fNetworks, sL 3 c_TAggregate a0.fPV.fAggregates, sL 5 c_TCondition a0.fPV.fConditions, sL 5 c_TRedist a0.fPV.fRedist], .arr 7 (0 + a0.fStatics.length) (app (fun i => List.take 7 (List.drop (i * 7) [])) 0 (fun i => c_TStaticRoute (a0.fStatics.getD i default)))]⟩) (s' := ⟨72, [(2, .ref 0 0), (3, .ref 1 0), (5, .ref 2 0)], [.box (c_TRouter a0), .box (c_TRouter a1), .box [.str a0.fName, .int .i64 a0.fAS, sL 12 c_TInterface a0.fInterfaces, sL 2 c_TPrefixList a0.fLists, sL 2 c_TRouteMap a0.fMaps, sL 2 c_TACL a0.fACLs, sL 9 c_TTranslation a0.fNAT, .sl false 7 (0 + a0.fStatics.length) (fun k => (app (fun i => List.take 7 (List.drop (i * 7) [])) 0 (fun i => c_TStaticRoute (a0.fStatics.getD i default))) (0 + k)), .bool a0.fLS.fOn, .int .i64 a0.fLS.fAdmin, sL 3 c_TAreaRange a0.fLS.fRanges, sL 5 c_TRedist a0.fLS.fRedist, .bool a0.fDV.fOn, .int .i64 a0.fDV.fAdmin, .str a0.fDV.fIn, .str a0.fDV.fOut, sL 5 c_TRedist a0.fDV.fRedist, .bool a0.fPV.fOn, .int .i64 a0.fPV.fExternal, .int .i64 a0.fPV.fInternal, sL 4 c_TNeighbor a0.fPV.fNeighbors, sL 2 c_TPrefix a0.fPV.fNetworks, sL 3 c_TAggregate a0.fPV.fAggregates, sL 5 c_TCondition a0.fPV.fConditions, sL 5 c_TRedist a0.fPV.fRedist], aL 7 c_TStaticRoute ([] : List TStaticRoute)]⟩) 3 7 (0 + a0.fStatics.length) (app (fun i => List.take 7 (List.drop (i * 7) [])) 0 (fun i => c_TStaticRoute (a0.fStatics.getD i default))) (fun i => c_TStaticRoute (([] : List TStaticRoute).getD i default)) (by kernel_rfl) (by kernel_rfl) (by kernel_rfl)) (le_sub (.cons Sub.rfl (.cons Sub.rfl (.cons Sub.rfl .nil))) (.cons .rfl (.cons .rfl (.cons (.box (.cons CSub.rfl (.cons CSub.rfl (.cons CSub.rfl (.cons CSub.rfl (.cons CSub.rfl (.cons CSub.rfl (.cons CSub.rfl (.cons (csub_sl (Nat.zero_add _) (own_ext (f := app (fun i => List.take 7 (List.drop (i * 7) [])) 0 (fun i => c_TStaticRoute (a0.fStatics.getD i default))) (app_nil c_TStaticRoute _ a0.fStatics _ (fun _ _ => rfl)))) (.cons CSub.rfl (.cons CSub.rfl (.cons CSub.rfl (.cons CSub.rfl (.cons CSub.rfl (.cons CSub.rfl (.cons CSub.rfl (.cons CSub.rfl (.cons CSub.rfl (.cons CSub.rfl (.cons CSub.rfl (.cons CSub.rfl (.cons CSub.rfl (.cons CSub.rfl (.cons CSub.rfl (.cons CSub.rfl (.cons CSub.rfl .nil)))))))))))))))))))))))))) (.cons .rfl .nil)))))) ?_
 refine awp_seq ?_
 obtain ⟨c10, h11⟩ := gd_some h9
 refine rgc [2, 3, 5] 5 ⟨72, [(2, .ref 0 0), (3, .ref 1 0), (5, .ref 2 0)], [.box (c_TRouter a0), .box (c_TRouter a1), .box [.str a0.fName, .int .i64 a0.fAS, sL 12 c_TInterface a0.fInterfaces, sL 2 c_TPrefixList a0.fLists, sL 2 c_TRouteMap a0.fMaps, sL 2 c_TACL a0.fACLs, sL 9 c_TTranslation a0.fNAT, sL 7 c_TStaticRoute (a0.fStatics : List TStaticRoute), .bool a0.fLS.fOn, .int .i64 a0.fLS.fAdmin, sL 3 c_TAreaRange a0.fLS.fRanges, sL 5 c_TRedist a0.fLS.fRedist, .bool a0.fDV.fOn, .int .i64 a0.fDV.fAdmin, .str a0.fDV.fIn, .str a0.fDV.fOut, sL 5 c_TRedist a0.fDV.fRedist, .bool a0.fPV.fOn, .int .i64 a0.fPV.fExternal, .int .i64 a0.fPV.fInternal, sL 4 c_TNeighbor a0.fPV.fNeighbors, .asl 4 0 (0 + a0.fPV.fNetworks.length), sL 3 c_TAggregate a0.fPV.fAggregates, sL 5 c_TCondition a0.fPV.fConditions, sL 5 c_TRedist a0.fPV.fRedist], aL 7 c_TStaticRoute ([] : List TStaticRoute), .arr 2 (0 + a0.fPV.fNetworks.length) (app (fun i => List.take 2 (List.drop (i * 2) [])) 0 (fun i => c_TPrefix (a0.fPV.fNetworks.getD i default)))]⟩ [decide (0 = 0) || decide (0 < a0.fPV.fNetworks.length), decide ((0 + a0.fPV.fNetworks.length) * 16 ≤ 140737488355328)] c10 ?_
 refine then_le (s' := ⟨72, [(2, .ref 0 0), (3, .ref 1 0), (5, .ref 2 0)], [.box (c_TRouter a0), .box (c_TRouter a1), .box [.str a0.fName, .int .i64 a0.fAS, sL 12 c_TInterface a0.fInterfaces, sL 2 c_TPrefixList a0.fLists, sL 2 c_TRouteMap a0.fMaps, sL 2 c_TACL a0.fACLs, sL 9 c_TTranslation a0.fNAT, sL 7 c_TStaticRoute (a0.fStatics : List TStaticRoute), .bool a0.fLS.fOn, .int .i64 a0.fLS.fAdmin, sL 3 c_TAreaRange a0.fLS.fRanges, sL 5 c_TRedist a0.fLS.fRedist, .bool a0.fDV.fOn, .int .i64 a0.fDV.fAdmin, .str a0.fDV.fIn, .str a0.fDV.fOut, sL 5 c_TRedist a0.fDV.fRedist, .bool a0.fPV.fOn, .int .i64 a0.fPV.fExternal, .int .i64 a0.fPV.fInternal, sL 4 c_TNeighbor a0.fPV.fNeighbors, sL 2 c_TPrefix (a0.fPV.fNetworks : List TPrefix), sL 3 c_TAggregate a0.fPV.fAggregates, sL 5 c_TCondition a0.fPV.fConditions, sL 5 c_TRedist a0.fPV.fRedist], aL 7 c_TStaticRoute ([] : List TStaticRoute), aL 2 c_TPrefix ([] : List TPrefix)]⟩) (Le.trans (le_frb (s := ⟨72, [(2, .ref 0 0), (3, .ref 1 0), (5, .ref 2 0)], [.box (c_TRouter a0), .box (c_TRouter a1), .box [.str a0.fName, .int .i64 a0.fAS, sL 12 c_TInterface a0.fInterfaces, sL 2 c_TPrefixList a0.fLists, sL 2 c_TRouteMap a0.fMaps, sL 2 c_TACL a0.fACLs, sL 9 c_TTranslation a0.fNAT, sL 7 c_TStaticRoute (a0.fStatics : List TStaticRoute), .bool a0.fLS.fOn, .int .i64 a0.fLS.fAdmin, sL 3 c_TAreaRange a0.fLS.fRanges, sL 5 c_TRedist a0.fLS.fRedist, .bool a0.fDV.fOn, .int .i64 a0.fDV.fAdmin, .str a0.fDV.fIn, .str a0.fDV.fOut, sL 5 c_TRedist a0.fDV.fRedist, .bool a0.fPV.fOn, .int .i64 a0.fPV.fExternal, .int .i64 a0.fPV.fInternal, sL 4 c_TNeighbor a0.fPV.fNeighbors, .asl 4 0 (0 + a0.fPV.fNetworks.length), sL 3 c_TAggregate a0.fPV.fAggregates, sL 5 c_TCondition a0.fPV.fConditions, sL 5 c_TRedist a0.fPV.fRedist], aL 7 c_TStaticRoute ([] : List TStaticRoute), .arr 2 (0 + a0.fPV.fNetworks.length) (app (fun i => List.take 2 (List.drop (i * 2) [])) 0 (fun i => c_TPrefix (a0.fPV.fNetworks.getD i default)))]⟩) (s' := ⟨72, [(2, .ref 0 0), (3, .ref 1 0), (5, .ref 2 0)], [.box (c_TRouter a0), .box (c_TRouter a1), .box [.str a0.fName, .int .i64 a0.fAS, sL 12 c_TInterface a0.fInterfaces, sL 2 c_TPrefixList a0.fLists, sL 2 c_TRouteMap a0.fMaps, sL 2 c_TACL a0.fACLs, sL 9 c_TTranslation a0.fNAT, sL 7 c_TStaticRoute (a0.fStatics : List TStaticRoute), .bool a0.fLS.fOn, .int .i64 a0.fLS.fAdmin, sL 3 c_TAreaRange a0.fLS.fRanges, sL 5 c_TRedist a0.fLS.fRedist, .bool a0.fDV.fOn, .int .i64 a0.fDV.fAdmin, .str a0.fDV.fIn, .str a0.fDV.fOut, sL 5 c_TRedist a0.fDV.fRedist, .bool a0.fPV.fOn, .int .i64 a0.fPV.fExternal, .int .i64 a0.fPV.fInternal, sL 4 c_TNeighbor a0.fPV.fNeighbors, .sl false 2 (0 + a0.fPV.fNetworks.length) (fun k => (app (fun i => List.take 2 (List.drop (i * 2) [])) 0 (fun i => c_TPrefix (a0.fPV.fNetworks.getD i default))) (0 + k)), sL 3 c_TAggregate a0.fPV.fAggregates, sL 5 c_TCondition a0.fPV.fConditions, sL 5 c_TRedist a0.fPV.fRedist], aL 7 c_TStaticRoute ([] : List TStaticRoute), aL 2 c_TPrefix ([] : List TPrefix)]⟩) 4 2 (0 + a0.fPV.fNetworks.length) (app (fun i => List.take 2 (List.drop (i * 2) [])) 0 (fun i => c_TPrefix (a0.fPV.fNetworks.getD i default))) (fun i => c_TPrefix (([] : List TPrefix).getD i default)) (by kernel_rfl) (by kernel_rfl) (by kernel_rfl)) (le_sub (.cons Sub.rfl (.cons Sub.rfl (.cons Sub.rfl .nil))) (.cons .rfl (.cons .rfl (.cons (.box (.cons CSub.rfl (.cons CSub.rfl (.cons CSub.rfl (.cons CSub.rfl (.cons CSub.rfl (.cons CSub.rfl (.cons CSub.rfl (.cons CSub.rfl (.cons CSub.rfl (.cons CSub.rfl (.cons CSub.rfl (.cons CSub.rfl (.cons CSub.rfl (.cons CSub.rfl (.cons CSub.rfl (.cons CSub.rfl (.cons CSub.rfl (.cons CSub.rfl (.cons CSub.rfl (.cons CSub.rfl (.cons CSub.rfl (.cons (csub_sl (Nat.zero_add _) (own_ext (f := app (fun i => List.take 2 (List.drop (i * 2) [])) 0 (fun i => c_TPrefix (a0.fPV.fNetworks.getD i default))) (app_nil c_TPrefix _ a0.fPV.fNetworks _ (fun _ _ => rfl)))) (.cons CSub.rfl (.cons CSub.rfl (.cons CSub.rfl .nil)))))))))))))))))))))))))) (.cons .rfl (.cons .rfl .nil))))))) ?_
 refine awp_seq (rgs 6 8 [] [2, 3, 5, 6, 7] 7 ⟨72, [(2, .ref 0 0), (3, .ref 1 0), (5, .ref 2 0), (6, .ref 5 0), (7, .ref 6 0)], [.box (c_TRouter a0), .box (c_TRouter a1), .box [.str a0.fName, .int .i64 a0.fAS, sL 12 c_TInterface a0.fInterfaces, sL 2 c_TPrefixList a0.fLists, sL 2 c_TRouteMap a0.fMaps, sL 2 c_TACL a0.fACLs, sL 9 c_TTranslation a0.fNAT, sL 7 c_TStaticRoute (a0.fStatics : List TStaticRoute), .bool a0.fLS.fOn, .int .i64 a0.fLS.fAdmin, sL 3 c_TAreaRange a0.fLS.fRanges, sL 5 c_TRedist a0.fLS.fRedist, .bool a0.fDV.fOn, .int .i64 a0.fDV.fAdmin, .str a0.fDV.fIn, .str a0.fDV.fOut, sL 5 c_TRedist a0.fDV.fRedist, .bool a0.fPV.fOn, .int .i64 a0.fPV.fExternal, .int .i64 a0.fPV.fInternal, sL 4 c_TNeighbor a0.fPV.fNeighbors, sL 2 c_TPrefix (a0.fPV.fNetworks : List TPrefix), sL 3 c_TAggregate a0.fPV.fAggregates, sL 5 c_TCondition a0.fPV.fConditions, sL 5 c_TRedist a0.fPV.fRedist], aL 7 c_TStaticRoute ([] : List TStaticRoute), aL 2 c_TPrefix ([] : List TPrefix), .box [.sl true 25 1 (fun i => List.take 25 (List.drop (i * 25) [.str a0.fName, .int .i64 a0.fAS, sL 12 c_TInterface a0.fInterfaces, sL 2 c_TPrefixList a0.fLists, sL 2 c_TRouteMap a0.fMaps, sL 2 c_TACL a0.fACLs, sL 9 c_TTranslation a0.fNAT, sL 7 c_TStaticRoute a0.fStatics, .bool a0.fLS.fOn, .int .i64 a0.fLS.fAdmin, sL 3 c_TAreaRange a0.fLS.fRanges, sL 5 c_TRedist a0.fLS.fRedist, .bool a0.fDV.fOn, .int .i64 a0.fDV.fAdmin, .str a0.fDV.fIn, .str a0.fDV.fOut, sL 5 c_TRedist a0.fDV.fRedist, .bool a0.fPV.fOn, .int .i64 a0.fPV.fExternal, .int .i64 a0.fPV.fInternal, sL 4 c_TNeighbor a0.fPV.fNeighbors, sL 2 c_TPrefix a0.fPV.fNetworks, sL 3 c_TAggregate a0.fPV.fAggregates, sL 5 c_TCondition a0.fPV.fConditions, sL 5 c_TRedist a0.fPV.fRedist]))], .box [.sl true 25 1 (fun i => List.take 25 (List.drop (i * 25) [.str a1.fName, .int .i64 a1.fAS, sL 12 c_TInterface a1.fInterfaces, sL 2 c_TPrefixList a1.fLists, sL 2 c_TRouteMap a1.fMaps, sL 2 c_TACL a1.fACLs, sL 9 c_TTranslation a1.fNAT, sL 7 c_TStaticRoute a1.fStatics, .bool a1.fLS.fOn, .int .i64 a1.fLS.fAdmin, sL 3 c_TAreaRange a1.fLS.fRanges, sL 5 c_TRedist a1.fLS.fRedist, .bool a1.fDV.fOn, .int .i64 a1.fDV.fAdmin, .str a1.fDV.fIn, .str a1.fDV.fOut, sL 5 c_TRedist a1.fDV.fRedist, .bool a1.fPV.fOn, .int .i64 a1.fPV.fExternal, .int .i64 a1.fPV.fInternal, sL 4 c_TNeighbor a1.fPV.fNeighbors, sL 2 c_TPrefix a1.fPV.fNetworks, sL 3 c_TAggregate a1.fPV.fAggregates, sL 5 c_TCondition a1.fPV.fConditions, sL 5 c_TRedist a1.fPV.fRedist]))]]⟩ [] [] nil_all trivial ?_)
 refine then_n (awp_seq ?_)
 obtain ⟨r3, q12, h13⟩ := bind_some h11
 refine rg [.pure (.bool r3)] [2, 3, 5, 6, 7, 8] 7 ⟨72, [(2, .ref 0 0), (3, .ref 1 0), (5, .ref 2 0), (6, .ref 5 0), (7, .ref 6 0), (8, .bool r3)], [.box (c_TRouter a0), .box (c_TRouter a1), .box [.str a0.fName, .int .i64 a0.fAS, sL 12 c_TInterface a0.fInterfaces, sL 2 c_TPrefixList a0.fLists, sL 2 c_TRouteMap a0.fMaps, sL 2 c_TACL a0.fACLs, sL 9 c_TTranslation a0.fNAT, sL 7 c_TStaticRoute (a0.fStatics : List TStaticRoute), .bool a0.fLS.fOn, .int .i64 a0.fLS.fAdmin, sL 3 c_TAreaRange a0.fLS.fRanges, sL 5 c_TRedist a0.fLS.fRedist, .bool a0.fDV.fOn, .int .i64 a0.fDV.fAdmin, .str a0.fDV.fIn, .str a0.fDV.fOut, sL 5 c_TRedist a0.fDV.fRedist, .bool a0.fPV.fOn, .int .i64 a0.fPV.fExternal, .int .i64 a0.fPV.fInternal, sL 4 c_TNeighbor a0.fPV.fNeighbors, sL 2 c_TPrefix (a0.fPV.fNetworks : List TPrefix), sL 3 c_TAggregate a0.fPV.fAggregates, sL 5 c_TCondition a0.fPV.fConditions, sL 5 c_TRedist a0.fPV.fRedist], aL 7 c_TStaticRoute ([] : List TStaticRoute), aL 2 c_TPrefix ([] : List TPrefix), .box [.sl true 25 1 (fun i => List.take 25 (List.drop (i * 25) [.str a0.fName, .int .i64 a0.fAS, sL 12 c_TInterface a0.fInterfaces, sL 2 c_TPrefixList a0.fLists, sL 2 c_TRouteMap a0.fMaps, sL 2 c_TACL a0.fACLs, sL 9 c_TTranslation a0.fNAT, sL 7 c_TStaticRoute a0.fStatics, .bool a0.fLS.fOn, .int .i64 a0.fLS.fAdmin, sL 3 c_TAreaRange a0.fLS.fRanges, sL 5 c_TRedist a0.fLS.fRedist, .bool a0.fDV.fOn, .int .i64 a0.fDV.fAdmin, .str a0.fDV.fIn, .str a0.fDV.fOut, sL 5 c_TRedist a0.fDV.fRedist, .bool a0.fPV.fOn, .int .i64 a0.fPV.fExternal, .int .i64 a0.fPV.fInternal, sL 4 c_TNeighbor a0.fPV.fNeighbors, sL 2 c_TPrefix a0.fPV.fNetworks, sL 3 c_TAggregate a0.fPV.fAggregates, sL 5 c_TCondition a0.fPV.fConditions, sL 5 c_TRedist a0.fPV.fRedist]))], .box [.sl true 25 1 (fun i => List.take 25 (List.drop (i * 25) [.str a1.fName, .int .i64 a1.fAS, sL 12 c_TInterface a1.fInterfaces, sL 2 c_TPrefixList a1.fLists, sL 2 c_TRouteMap a1.fMaps, sL 2 c_TACL a1.fACLs, sL 9 c_TTranslation a1.fNAT, sL 7 c_TStaticRoute a1.fStatics, .bool a1.fLS.fOn, .int .i64 a1.fLS.fAdmin, sL 3 c_TAreaRange a1.fLS.fRanges, sL 5 c_TRedist a1.fLS.fRedist, .bool a1.fDV.fOn, .int .i64 a1.fDV.fAdmin, .str a1.fDV.fIn, .str a1.fDV.fOut, sL 5 c_TRedist a1.fDV.fRedist, .bool a1.fPV.fOn, .int .i64 a1.fPV.fExternal, .int .i64 a1.fPV.fInternal, sL 4 c_TNeighbor a1.fPV.fNeighbors, sL 2 c_TPrefix a1.fPV.fNetworks, sL 3 c_TAggregate a1.fPV.fAggregates, sL 5 c_TCondition a1.fPV.fConditions, sL 5 c_TRedist a1.fPV.fRedist]))]]⟩ [] [⟨true, 11, [.agg (c_TRouter a0), .agg (c_TRouter a1)], .pure (.bool r3)⟩] nil_all ⟨fun _ => ref8_Same_ok a0 a1 r3 q12, trivial⟩ ?_
 refine then_n (awp_seq ?_)
 obtain ⟨r4, q14, h15⟩ := bind_some h13
 obtain ⟨r5, q16, h17⟩ := bind_some h15
 obtain ⟨r6, q18, h19⟩ := bind_some h17
 obtain ⟨r7, q20, h21⟩ := bind_some h19
 obtain ⟨r8, q22, h23⟩ := bind_some h21
 obtain ⟨r9, q24, h25⟩ := bind_some h23
 refine rg [.pure (.bool r4), .pure (.bool r5), .pure (.bool r6), .pure (.bool r7), .pure (.bool r8), .pure (.bool r9)] [4] 0 ⟨72, [(4, .bool ((((((r4 == r3) && (r5 == r3)) && r6) && (r7 == r3)) && (!r8)) && r9))], []⟩ [] [⟨true, 9, [.agg (c_TRouter a0), .agg (c_TRouter a1)], .pure (.bool r4)⟩, ⟨r4 == r3, 9, [.agg (c_TRouter a1), .agg (c_TRouter a0)], .pure (.bool r5)⟩, ⟨(r4 == r3) && (r5 == r3), 9, [.agg (c_TRouter a0), .agg [.str a0.fName, .int .i64 a0.fAS, sL 12 c_TInterface a0.fInterfaces, sL 2 c_TPrefixList a0.fLists, sL 2 c_TRouteMap a0.fMaps, sL 2 c_TACL a0.fACLs, sL 9 c_TTranslation a0.fNAT, sL 7 c_TStaticRoute (a0.fStatics : List TStaticRoute), .bool a0.fLS.fOn, .int .i64 a0.fLS.fAdmin, sL 3 c_TAreaRange a0.fLS.fRanges, sL 5 c_TRedist a0.fLS.fRedist, .bool a0.fDV.fOn, .int .i64 a0.fDV.fAdmin, .str a0.fDV.fIn, .str a0.fDV.fOut, sL 5 c_TRedist a0.fDV.fRedist, .bool a0.fPV.fOn, .int .i64 a0.fPV.fExternal, .int .i64 a0.fPV.fInternal, sL 4 c_TNeighbor a0.fPV.fNeighbors, sL 2 c_TPrefix (a0.fPV.fNetworks : List TPrefix), sL 3 c_TAggregate a0.fPV.fAggregates, sL 5 c_TCondition a0.fPV.fConditions, sL 5 c_TRedist a0.fPV.fRedist]], .pure (.bool r6)⟩, ⟨((r4 == r3) && (r5 == r3)) && r6, 12, [.agg [.sl false 25 1 (fun i => List.take 25 (List.drop (i * 25) [.str a0.fName, .int .i64 a0.fAS, sL 12 c_TInterface a0.fInterfaces, sL 2 c_TPrefixList a0.fLists, sL 2 c_TRouteMap a0.fMaps, sL 2 c_TACL a0.fACLs, sL 9 c_TTranslation a0.fNAT, sL 7 c_TStaticRoute a0.fStatics, .bool a0.fLS.fOn, .int .i64 a0.fLS.fAdmin, sL 3 c_TAreaRange a0.fLS.fRanges, sL 5 c_TRedist a0.fLS.fRedist, .bool a0.fDV.fOn, .int .i64 a0.fDV.fAdmin, .str a0.fDV.fIn, .str a0.fDV.fOut, sL 5 c_TRedist a0.fDV.fRedist, .bool a0.fPV.fOn, .int .i64 a0.fPV.fExternal, .int .i64 a0.fPV.fInternal, sL 4 c_TNeighbor a0.fPV.fNeighbors, sL 2 c_TPrefix a0.fPV.fNetworks, sL 3 c_TAggregate a0.fPV.fAggregates, sL 5 c_TCondition a0.fPV.fConditions, sL 5 c_TRedist a0.fPV.fRedist]))], .agg [.sl false 25 1 (fun i => List.take 25 (List.drop (i * 25) [.str a1.fName, .int .i64 a1.fAS, sL 12 c_TInterface a1.fInterfaces, sL 2 c_TPrefixList a1.fLists, sL 2 c_TRouteMap a1.fMaps, sL 2 c_TACL a1.fACLs, sL 9 c_TTranslation a1.fNAT, sL 7 c_TStaticRoute a1.fStatics, .bool a1.fLS.fOn, .int .i64 a1.fLS.fAdmin, sL 3 c_TAreaRange a1.fLS.fRanges, sL 5 c_TRedist a1.fLS.fRedist, .bool a1.fDV.fOn, .int .i64 a1.fDV.fAdmin, .str a1.fDV.fIn, .str a1.fDV.fOut, sL 5 c_TRedist a1.fDV.fRedist, .bool a1.fPV.fOn, .int .i64 a1.fPV.fExternal, .int .i64 a1.fPV.fInternal, sL 4 c_TNeighbor a1.fPV.fNeighbors, sL 2 c_TPrefix a1.fPV.fNetworks, sL 3 c_TAggregate a1.fPV.fAggregates, sL 5 c_TCondition a1.fPV.fConditions, sL 5 c_TRedist a1.fPV.fRedist]))]], .pure (.bool r7)⟩, ⟨(((r4 == r3) && (r5 == r3)) && r6) && (r7 == r3), 12, [.agg [.sl false 25 1 (fun i => List.take 25 (List.drop (i * 25) [.str a0.fName, .int .i64 a0.fAS, sL 12 c_TInterface a0.fInterfaces, sL 2 c_TPrefixList a0.fLists, sL 2 c_TRouteMap a0.fMaps, sL 2 c_TACL a0.fACLs, sL 9 c_TTranslation a0.fNAT, sL 7 c_TStaticRoute a0.fStatics, .bool a0.fLS.fOn, .int .i64 a0.fLS.fAdmin, sL 3 c_TAreaRange a0.fLS.fRanges, sL 5 c_TRedist a0.fLS.fRedist, .bool a0.fDV.fOn, .int .i64 a0.fDV.fAdmin, .str a0.fDV.fIn, .str a0.fDV.fOut, sL 5 c_TRedist a0.fDV.fRedist, .bool a0.fPV.fOn, .int .i64 a0.fPV.fExternal, .int .i64 a0.fPV.fInternal, sL 4 c_TNeighbor a0.fPV.fNeighbors, sL 2 c_TPrefix a0.fPV.fNetworks, sL 3 c_TAggregate a0.fPV.fAggregates, sL 5 c_TCondition a0.fPV.fConditions, sL 5 c_TRedist a0.fPV.fRedist]))], .agg [.sl false 25 0 (fun _ => [])]], .pure (.bool r8)⟩, ⟨((((r4 == r3) && (r5 == r3)) && r6) && (r7 == r3)) && (!r8), 10, [], .pure (.bool r9)⟩] nil_all ⟨fun _ => model_Same_ok a0 a1 r4 q14, fun hg => model_Same_ok a1 a0 r5 (gc_some q16 hg), fun hg => model_Same_ok a0 (⟨a0.fName, a0.fAS, a0.fInterfaces, a0.fLists, a0.fMaps, a0.fACLs, a0.fNAT, (a0.fStatics : List TStaticRoute), a0.fLS, a0.fDV, (⟨a0.fPV.fOn, a0.fPV.fExternal, a0.fPV.fInternal, a0.fPV.fNeighbors, (a0.fPV.fNetworks : List TPrefix), a0.fPV.fAggregates, a0.fPV.fConditions, a0.fPV.fRedist⟩ : TPathVector)⟩ : TRouter) r6 (gc_some q18 hg), fun hg => (model_SameNetwork_ok (⟨([a0] : List TRouter)⟩ : TNetwork) (⟨([a1] : List TRouter)⟩ : TNetwork) r7 (gc_some q20 hg)).args (.cons (asub_agg (.cons (csub_sl rfl (fun i hi => match i, hi with | 0, _ => rfl | n + 1, h => absurd h (by omega))) .nil)) (.cons (asub_agg (.cons (csub_sl rfl (fun i hi => match i, hi with | 0, _ => rfl | n + 1, h => absurd h (by omega))) .nil)) .nil)), fun hg => (model_SameNetwork_ok (⟨([a0] : List TRouter)⟩ : TNetwork) (⟨([] : List TRouter)⟩ : TNetwork) r8 (gc_some q22 hg)).args (.cons (asub_agg (.cons (csub_sl rfl (fun i hi => match i, hi with | 0, _ => rfl | n + 1, h => absurd h (by omega))) .nil)) (.cons (asub_agg (.cons csub_nil .nil)) .nil)), fun hg => law5_sane_ok  r9 (gc_some q24 hg), trivial⟩ ?_
 refine then_n (awp_ret ?_)
 obtain rfl := Option.some.inj h25
 exact er0 (.bool ((((((r4 == r3) && (r5 == r3)) && r6) && (r7 == r3)) && (!r8)) && r9))
end Nv
