/- The walks: each function computes its mirror. -/
import Derived.Test.YtghjgndlgliieaaProg
import Derived.Test.YtghjgndlgliieaaNvD1
import Derived.Test.YtghjgndlgliieaaNvLibC
import Derived.KernelRfl
set_option maxRecDepth 100000
namespace Nv
open Go Go.Proofs
theorem law5_Small_ok (a0 : TRouter) (r : Bool) (h : M.law5_Small a0 = some r) : Fn Try.prog 21 [.agg (c_TRouter a0)] (.pure (.bool r)) := by
 unfold M.law5_Small at h
 refine fn_pure Try.func21 rfl (by kernel_rfl) ?_
 refine awp_seq (rg0 [1] 1 ⟨141, [(1, .ref 0 0)], [.box (c_TRouter a0)]⟩ ?_)
 refine then_n (awp_seq (awp_seq (rg0 [1, 95] 1 ⟨141, [(1, .ref 0 0), (95, .bool ((((((((((((((decide ((a0.fInterfaces.length : Int) > 12)) || (decide ((a0.fLists.length : Int) > 12))) || (decide ((a0.fMaps.length : Int) > 12))) || (decide ((a0.fACLs.length : Int) > 12))) || (decide ((a0.fNAT.length : Int) > 12))) || (decide ((a0.fStatics.length : Int) > 20))) || (decide ((a0.fLS.fRanges.length : Int) > 8))) || (decide ((a0.fLS.fRedist.length : Int) > 8))) || (decide ((a0.fDV.fRedist.length : Int) > 8))) || (decide ((a0.fPV.fRedist.length : Int) > 8))) || (decide ((a0.fPV.fNeighbors.length : Int) > 12))) || (decide ((a0.fPV.fNetworks.length : Int) > 12))) || (decide ((a0.fPV.fAggregates.length : Int) > 12))) || (decide ((a0.fPV.fConditions.length : Int) > 12))))], [.box (c_TRouter a0)]⟩ ?_)))
 refine then_n ?_
 refine cnd ((((((((((((((decide ((a0.fInterfaces.length : Int) > 12)) || (decide ((a0.fLists.length : Int) > 12))) || (decide ((a0.fMaps.length : Int) > 12))) || (decide ((a0.fACLs.length : Int) > 12))) || (decide ((a0.fNAT.length : Int) > 12))) || (decide ((a0.fStatics.length : Int) > 20))) || (decide ((a0.fLS.fRanges.length : Int) > 8))) || (decide ((a0.fLS.fRedist.length : Int) > 8))) || (decide ((a0.fDV.fRedist.length : Int) > 8))) || (decide ((a0.fPV.fRedist.length : Int) > 8))) || (decide ((a0.fPV.fNeighbors.length : Int) > 12))) || (decide ((a0.fPV.fNetworks.length : Int) > 12))) || (decide ((a0.fPV.fAggregates.length : Int) > 12))) || (decide ((a0.fPV.fConditions.length : Int) > 12))) (fun b1 => ?_) (fun b1 => ?_)
 have h2 := cond_t b1 h
 refine awp_seq (rg0 [2] 0 ⟨141, [(2, .bool false)], []⟩ ?_)
 refine then_n (awp_ret (then_r ?_))
 obtain rfl := Option.some.inj h2
 exact er0 (.bool false)
 have h3 := cond_f b1 h
 refine awp_skip (then_n (awp_seq (awp_seq (rg0 [1, 3] 1 ⟨141, [(1, .ref 0 0), (3, .int .i64 0)], [.box (c_TRouter a0)]⟩ ?_))))
 refine then_n (awp_block ?_)
 obtain ⟨y3, q13, h14⟩ := bind_some h3
 refine awp_le (s' := ⟨141, [(1, .ref 0 0), (3, .int .i64 0)], [.box (c_TRouter a0)]⟩) (le_rfl) ?_
 refine awp_mono (awp_loop (f := M.law5_Small_l1 a0) (S := fun (p1 : Int) => ⟨141, [(1, .ref 0 0), (3, .int .i64 p1)], [.box (c_TRouter a0)]⟩) (O := (Sum.elim (fun z => OutE 0 (fun z => ⟨141, [(1, .ref 0 0)], [.box (c_TRouter a0)]⟩) z) (fun z => OutR Try.prog Try.f21 (.bool z)))) ?_ (x := 0) (y := y3) (loopM_iter q13)) ?_
 intro p1 y2 h4
 unfold M.law5_Small_l1 at h4
 refine awp_seq (awp_seq (rg0 [1, 3, 100] 1 ⟨141, [(1, .ref 0 0), (3, .int .i64 p1), (100, .bool (decide (p1 < (a0.fLists.length : Int))))], [.box (c_TRouter a0)]⟩ ?_))
 refine then_n ?_
 refine cnd (decide (p1 < (a0.fLists.length : Int))) (fun b5 => ?_) (fun b5 => ?_)
 have h6 := cond_t b5 h4
 refine awp_skip (then_n (awp_seq (awp_block (awp_seq ?_))))
 obtain ⟨c8, h9⟩ := gd_some h6
 refine rgc [1, 3, 110] 1 ⟨141, [(1, .ref 0 0), (3, .int .i64 p1), (110, .bool (decide ((((a0.fLists.getD p1.toNat default).fRules).length : Int) > 20)))], [.box (c_TRouter a0)]⟩ [decide (0 ≤ p1), decide (p1 < (a0.fLists.length : Int))] c8 ?_
 refine then_n ?_
 refine cnd (decide ((((a0.fLists.getD p1.toNat default).fRules).length : Int) > 20)) (fun b10 => ?_) (fun b10 => ?_)
 have h11 := cond_t b10 h9
 refine awp_seq (rg0 [2] 0 ⟨141, [(2, .bool false)], []⟩ ?_)
 refine then_n (awp_ret (inb_r (then_r ?_)))
 obtain rfl := Option.some.inj h11
 exact round_r ⟨rfl, er0 (.bool false)⟩
 have h12 := cond_f b10 h9
 refine awp_skip (inb_n (then_n (rg0 [1, 3] 1 ⟨141, [(1, .ref 0 0), (3, .int .i64 (wr .i64 (p1 + 1)))], [.box (c_TRouter a0)]⟩ ?_)))
 obtain rfl := Option.some.inj h12
 exact round_n (le_rfl)
 have h7 := cond_f b5 h4
 refine awp_exit (then_e ?_)
 obtain rfl := Option.some.inj h7
 exact round_e ⟨rfl, kp [1]⟩
 intro e15 s16 o17
 rcases y3 with g4 | y5
 have h18 := elim_l h14
 obtain ⟨rfl, l20⟩ := o17
 refine inb_here ?_
 refine then_le (s' := ⟨141, [(1, .ref 0 0)], [.box (c_TRouter a0)]⟩) (l20) ?_
 refine awp_seq (awp_seq (rg0 [1, 4] 1 ⟨141, [(1, .ref 0 0), (4, .int .i64 0)], [.box (c_TRouter a0)]⟩ ?_))
 refine then_n (awp_block ?_)
 obtain ⟨y8, q30, h31⟩ := bind_some h18
 refine awp_le (s' := ⟨141, [(1, .ref 0 0), (4, .int .i64 0)], [.box (c_TRouter a0)]⟩) (le_rfl) ?_
 refine awp_mono (awp_loop (f := M.law5_Small_l2 a0) (S := fun (p6 : Int) => ⟨141, [(1, .ref 0 0), (4, .int .i64 p6)], [.box (c_TRouter a0)]⟩) (O := (Sum.elim (fun z => OutE 2 (fun z => ⟨141, [(1, .ref 0 0)], [.box (c_TRouter a0)]⟩) z) (fun z => OutR Try.prog Try.f21 (.bool z)))) ?_ (x := 0) (y := y8) (loopM_iter q30)) ?_
 intro p6 y7 h21
 unfold M.law5_Small_l2 at h21
 refine awp_seq (awp_seq (rg0 [1, 4, 115] 1 ⟨141, [(1, .ref 0 0), (4, .int .i64 p6), (115, .bool (decide (p6 < (a0.fMaps.length : Int))))], [.box (c_TRouter a0)]⟩ ?_))
 refine then_n ?_
 refine cnd (decide (p6 < (a0.fMaps.length : Int))) (fun b22 => ?_) (fun b22 => ?_)
 have h23 := cond_t b22 h21
 refine awp_skip (then_n (awp_seq (awp_block (awp_seq ?_))))
 obtain ⟨c25, h26⟩ := gd_some h23
 refine rgc [1, 4, 125] 1 ⟨141, [(1, .ref 0 0), (4, .int .i64 p6), (125, .bool (decide ((((a0.fMaps.getD p6.toNat default).fClauses).length : Int) > 12)))], [.box (c_TRouter a0)]⟩ [decide (0 ≤ p6), decide (p6 < (a0.fMaps.length : Int))] c25 ?_
 refine then_n ?_
 refine cnd (decide ((((a0.fMaps.getD p6.toNat default).fClauses).length : Int) > 12)) (fun b27 => ?_) (fun b27 => ?_)
 have h28 := cond_t b27 h26
 refine awp_seq (rg0 [2] 0 ⟨141, [(2, .bool false)], []⟩ ?_)
 refine then_n (awp_ret (inb_r (then_r ?_)))
 obtain rfl := Option.some.inj h28
 exact round_r ⟨rfl, er0 (.bool false)⟩
 have h29 := cond_f b27 h26
 refine awp_skip (inb_n (then_n (rg0 [1, 4] 1 ⟨141, [(1, .ref 0 0), (4, .int .i64 (wr .i64 (p6 + 1)))], [.box (c_TRouter a0)]⟩ ?_)))
 obtain rfl := Option.some.inj h29
 exact round_n (le_rfl)
 have h24 := cond_f b22 h21
 refine awp_exit (then_e ?_)
 obtain rfl := Option.some.inj h24
 exact round_e ⟨rfl, kp [1]⟩
 intro e32 s33 o34
 rcases y8 with g9 | y10
 have h35 := elim_l h31
 obtain ⟨rfl, l37⟩ := o34
 refine inb_here ?_
 refine then_le (s' := ⟨141, [(1, .ref 0 0)], [.box (c_TRouter a0)]⟩) (l37) ?_
 refine awp_seq (awp_seq (rg0 [1, 5] 1 ⟨141, [(1, .ref 0 0), (5, .int .i64 0)], [.box (c_TRouter a0)]⟩ ?_))
 refine then_n (awp_block ?_)
 obtain ⟨y13, q47, h48⟩ := bind_some h35
 refine awp_le (s' := ⟨141, [(1, .ref 0 0), (5, .int .i64 0)], [.box (c_TRouter a0)]⟩) (le_rfl) ?_
 refine awp_mono (awp_loop (f := M.law5_Small_l3 a0) (S := fun (p11 : Int) => ⟨141, [(1, .ref 0 0), (5, .int .i64 p11)], [.box (c_TRouter a0)]⟩) (O := (Sum.elim (fun z => OutE 4 (fun z => ⟨141, [], []⟩) z) (fun z => OutR Try.prog Try.f21 (.bool z)))) ?_ (x := 0) (y := y13) (loopM_iter q47)) ?_
 intro p11 y12 h38
 unfold M.law5_Small_l3 at h38
 refine awp_seq (awp_seq (rg0 [1, 5, 130] 1 ⟨141, [(1, .ref 0 0), (5, .int .i64 p11), (130, .bool (decide (p11 < (a0.fACLs.length : Int))))], [.box (c_TRouter a0)]⟩ ?_))
 refine then_n ?_
 refine cnd (decide (p11 < (a0.fACLs.length : Int))) (fun b39 => ?_) (fun b39 => ?_)
 have h40 := cond_t b39 h38
 refine awp_skip (then_n (awp_seq (awp_block (awp_seq ?_))))
 obtain ⟨c42, h43⟩ := gd_some h40
 refine rgc [1, 5, 140] 1 ⟨141, [(1, .ref 0 0), (5, .int .i64 p11), (140, .bool (decide ((((a0.fACLs.getD p11.toNat default).fRules).length : Int) > 20)))], [.box (c_TRouter a0)]⟩ [decide (0 ≤ p11), decide (p11 < (a0.fACLs.length : Int))] c42 ?_
 refine then_n ?_
 refine cnd (decide ((((a0.fACLs.getD p11.toNat default).fRules).length : Int) > 20)) (fun b44 => ?_) (fun b44 => ?_)
 have h45 := cond_t b44 h43
 refine awp_seq (rg0 [2] 0 ⟨141, [(2, .bool false)], []⟩ ?_)
 refine then_n (awp_ret (inb_r (then_r ?_)))
 obtain rfl := Option.some.inj h45
 exact round_r ⟨rfl, er0 (.bool false)⟩
 have h46 := cond_f b44 h43
 refine awp_skip (inb_n (then_n (rg0 [1, 5] 1 ⟨141, [(1, .ref 0 0), (5, .int .i64 (wr .i64 (p11 + 1)))], [.box (c_TRouter a0)]⟩ ?_)))
 obtain rfl := Option.some.inj h46
 exact round_n (le_rfl)
 have h41 := cond_f b39 h38
 refine awp_exit (then_e ?_)
 obtain rfl := Option.some.inj h41
 exact round_e ⟨rfl, Le.trans (s' := ⟨141, [], [.box (c_TRouter a0)]⟩) (kp []) (le_cut (n := 0) (by kernel_rfl))⟩
 intro e49 s50 o51
 rcases y13 with g14 | y15
 have h52 := elim_l h48
 obtain ⟨rfl, l54⟩ := o51
 refine inb_here ?_
 refine then_le (s' := ⟨141, [], []⟩) (l54) ?_
 refine awp_seq (rg0 [2] 0 ⟨141, [(2, .bool true)], []⟩ ?_)
 refine then_n (awp_ret ?_)
 obtain rfl := Option.some.inj h52
 exact er0 (.bool true)
 have h53 := elim_r h48
 obtain ⟨rfl, n55⟩ := o51
 refine inb_r (then_r ?_)
 obtain rfl := Option.some.inj h53
 exact n55
 have h36 := elim_r h31
 obtain ⟨rfl, n56⟩ := o34
 refine inb_r (then_r ?_)
 obtain rfl := Option.some.inj h36
 exact n56
 have h19 := elim_r h14
 obtain ⟨rfl, n57⟩ := o17
 refine inb_r (then_r ?_)
 obtain rfl := Option.some.inj h19
 exact n57
theorem ref4_letter_ok (a0 : Int) (r : Bool) (h : M.ref4_letter a0 = some r) : Fn Try.prog 68 [.int .u8 a0] (.pure (.bool r)) := by
 unfold M.ref4_letter at h
 refine fn_pure Try.func68 rfl (by kernel_rfl) ?_
 refine awp_seq (rg0 [0] 0 ⟨17, [(0, .int .u8 a0)], []⟩ ?_)
 refine then_n (awp_seq (rg0 [2] 0 ⟨17, [(2, .bool (((decide (a0 ≥ 97)) && (decide (a0 ≤ 122))) || ((decide (a0 ≥ 65)) && (decide (a0 ≤ 90)))))], []⟩ ?_))
 refine then_n (awp_ret ?_)
 obtain rfl := Option.some.inj h
 exact er0 (.bool (((decide (a0 ≥ 97)) && (decide (a0 ≤ 122))) || ((decide (a0 ≥ 65)) && (decide (a0 ≤ 90)))))
theorem ref4_Name_ok (a0 : ByteArray) (r : Bool) (h : M.ref4_Name a0 = some r) : Fn Try.prog 37 [.str a0] (.pure (.bool r)) := by
 unfold M.ref4_Name at h
 refine fn_pure Try.func37 rfl (by kernel_rfl) ?_
 refine awp_seq (rg0 [0] 0 ⟨56, [(0, .str a0)], []⟩ ?_)
 refine then_n (awp_seq (awp_seq ?_))
 obtain ⟨r1, q1, h2⟩ := bind_some h
 obtain ⟨c3, h4⟩ := gd_some h2
 refine rg [.pure (.bool r1)] [0, 18] 0 ⟨56, [(0, .str a0), (18, .bool (((decide ((a0.size : Int) < 1)) || (decide ((a0.size : Int) > 15))) || (!r1)))], []⟩ [guardB (!((decide ((a0.size : Int) < 1)) || (decide ((a0.size : Int) > 15)))) (decide (0 ≤ 0)), guardB (!((decide ((a0.size : Int) < 1)) || (decide ((a0.size : Int) > 15)))) (decide (0 < (a0.size : Int)))] [⟨(!((decide ((a0.size : Int) < 1)) || (decide ((a0.size : Int) > 15)))), 68, [.int .u8 (byteAt a0 0)], .pure (.bool r1)⟩] c3 ⟨fun hg => ref4_letter_ok (byteAt a0 0) r1 (gc_some q1 hg), trivial⟩ ?_
 refine then_n ?_
 refine cnd (((decide ((a0.size : Int) < 1)) || (decide ((a0.size : Int) > 15))) || (!r1)) (fun b5 => ?_) (fun b5 => ?_)
 have h6 := cond_t b5 h4
 refine awp_seq (rg0 [2] 0 ⟨56, [(2, .bool false)], []⟩ ?_)
 refine then_n (awp_ret (then_r ?_))
 obtain rfl := Option.some.inj h6
 exact er0 (.bool false)
 have h7 := cond_f b5 h4
 refine awp_skip (then_n (awp_seq (awp_seq (rg0 [0, 3] 0 ⟨56, [(0, .str a0), (3, .int .i64 1)], []⟩ ?_))))
 refine then_n (awp_block ?_)
 obtain ⟨y5, q19, h20⟩ := bind_some h7
 refine awp_le (s' := ⟨56, [(0, .str a0), (3, .int .i64 1)], []⟩) (le_rfl) ?_
 refine awp_mono (awp_loop (f := M.ref4_Name_l1 a0) (S := fun (p2 : Int) => ⟨56, [(0, .str a0), (3, .int .i64 p2)], []⟩) (O := (Sum.elim (fun z => OutE 0 (fun z => ⟨56, [], []⟩) z) (fun z => OutR Try.prog Try.f37 (.bool z)))) ?_ (x := 1) (y := y5) (loopM_iter q19)) ?_
 intro p2 y3 h8
 unfold M.ref4_Name_l1 at h8
 refine awp_seq (awp_seq (rg0 [0, 3, 22] 0 ⟨56, [(0, .str a0), (3, .int .i64 p2), (22, .bool (decide (p2 < (a0.size : Int))))], []⟩ ?_))
 refine then_n ?_
 refine cnd (decide (p2 < (a0.size : Int))) (fun b9 => ?_) (fun b9 => ?_)
 have h10 := cond_t b9 h8
 refine awp_skip (then_n (awp_seq (awp_block (awp_seq ?_))))
 obtain ⟨c12, h13⟩ := gd_some h10
 refine rgc [0, 3, 4] 0 ⟨56, [(0, .str a0), (3, .int .i64 p2), (4, .int .u8 (byteAt a0 p2))], []⟩ [decide (0 ≤ p2), decide (p2 < (a0.size : Int))] c12 ?_
 refine then_n (awp_seq ?_)
 obtain ⟨r4, q14, h15⟩ := bind_some h13
 refine rg [.pure (.bool r4)] [0, 3, 55] 0 ⟨56, [(0, .str a0), (3, .int .i64 p2), (55, .bool ((((((!r4) && (!((decide ((byteAt a0 p2) ≥ 48)) && (decide ((byteAt a0 p2) ≤ 57))))) && ((byteAt a0 p2) != 45)) && ((byteAt a0 p2) != 95)) && ((byteAt a0 p2) != 47)) && ((byteAt a0 p2) != 46)))], []⟩ [] [⟨true, 68, [.int .u8 (byteAt a0 p2)], .pure (.bool r4)⟩] nil_all ⟨fun _ => ref4_letter_ok (byteAt a0 p2) r4 q14, trivial⟩ ?_
 refine then_n ?_
 refine cnd ((((((!r4) && (!((decide ((byteAt a0 p2) ≥ 48)) && (decide ((byteAt a0 p2) ≤ 57))))) && ((byteAt a0 p2) != 45)) && ((byteAt a0 p2) != 95)) && ((byteAt a0 p2) != 47)) && ((byteAt a0 p2) != 46)) (fun b16 => ?_) (fun b16 => ?_)
 have h17 := cond_t b16 h15
 refine awp_seq (rg0 [2] 0 ⟨56, [(2, .bool false)], []⟩ ?_)
 refine then_n (awp_ret (inb_r (then_r ?_)))
 obtain rfl := Option.some.inj h17
 exact round_r ⟨rfl, er0 (.bool false)⟩
 have h18 := cond_f b16 h15
 refine awp_skip (inb_n (then_n (rg0 [0, 3] 0 ⟨56, [(0, .str a0), (3, .int .i64 (wr .i64 (p2 + 1)))], []⟩ ?_)))
 obtain rfl := Option.some.inj h18
 exact round_n (le_rfl)
 have h11 := cond_f b9 h8
 refine awp_exit (then_e ?_)
 obtain rfl := Option.some.inj h11
 exact round_e ⟨rfl, kp []⟩
 intro e21 s22 o23
 rcases y5 with g6 | y7
 have h24 := elim_l h20
 obtain ⟨rfl, l26⟩ := o23
 refine inb_here ?_
 refine then_le (s' := ⟨56, [], []⟩) (l26) ?_
 refine awp_seq (rg0 [2] 0 ⟨56, [(2, .bool true)], []⟩ ?_)
 refine then_n (awp_ret ?_)
 obtain rfl := Option.some.inj h24
 exact er0 (.bool true)
 have h25 := elim_r h20
 obtain ⟨rfl, n27⟩ := o23
 refine inb_r (then_r ?_)
 obtain rfl := Option.some.inj h25
 exact n27
theorem ref8_within_ok (a0 : Int) (a1 : Int) (a2 : Int) (r : Bool) (h : M.ref8_within a0 a1 a2 = some r) : Fn Try.prog 38 [.int .i64 a0, .int .i64 a1, .int .i64 a2] (.pure (.bool r)) := by
 unfold M.ref8_within at h
 refine fn_pure Try.func38 rfl (by kernel_rfl) ?_
 refine awp_seq (rg0 [0, 1, 2] 0 ⟨15, [(0, .int .i64 a0), (1, .int .i64 a1), (2, .int .i64 a2)], []⟩ ?_)
 refine then_n (awp_seq (rg0 [6] 0 ⟨15, [(6, .bool ((decide (a1 ≤ a0)) && (decide (a0 ≤ a2))))], []⟩ ?_))
 refine then_n (awp_ret ?_)
 obtain rfl := Option.some.inj h
 exact er0 (.bool ((decide (a1 ≤ a0)) && (decide (a0 ≤ a2))))
theorem ref4_Mask_ok (a0 : Int) (r : Int) (h : M.ref4_Mask a0 = some r) : Fn Try.prog 83 [.int .i64 a0] (.pure (.int .u32 r)) := by
 unfold M.ref4_Mask at h
 refine fn_pure Try.func83 rfl (by kernel_rfl) ?_
 refine awp_seq (rg0 [0] 0 ⟨19, [(0, .int .i64 a0)], []⟩ ?_)
 refine then_n (awp_seq (rg0 [0, 3] 0 ⟨19, [(0, .int .i64 a0), (3, .int .u32 0)], []⟩ ?_))
 refine then_n (awp_seq (awp_seq (rg0 [0, 3, 4] 0 ⟨19, [(0, .int .i64 a0), (3, .int .u32 0), (4, .int .i64 0)], []⟩ ?_)))
 refine then_n (awp_block ?_)
 obtain ⟨y4, q12, h13⟩ := bind_some h
 refine awp_le (s' := ⟨19, [(0, .int .i64 a0), (3, .int .u32 0), (4, .int .i64 0)], []⟩) (le_rfl) ?_
 refine awp_mono (awp_loop (f := M.ref4_Mask_l1 a0) (S := fun (p1 : Int × Int) => ⟨19, [(0, .int .i64 a0), (3, .int .u32 p1.1), (4, .int .i64 p1.2)], []⟩) (O := (fun z => OutE 0 (fun z => ⟨19, [(3, .int .u32 z)], []⟩) z)) ?_ (x := (0, 0)) (y := y4) (loopM_iter q12)) ?_
 intro p1 y2 h1
 unfold M.ref4_Mask_l1 at h1
 refine awp_seq (awp_seq (rg0 [0, 3, 4, 6] 0 ⟨19, [(0, .int .i64 a0), (3, .int .u32 p1.1), (4, .int .i64 p1.2), (6, .bool (decide (p1.2 < 32)))], []⟩ ?_))
 refine then_n ?_
 refine cnd (decide (p1.2 < 32)) (fun b2 => ?_) (fun b2 => ?_)
 have h3 := cond_t b2 h1
 refine awp_skip (then_n ?_)
 refine awp_join (fun (p3 : Int) => ⟨19, [(0, .int .i64 a0), (3, .int .u32 p3), (4, .int .i64 p1.2)], []⟩) (fun p3 => M.ref4_Mask_k1 p1 p3 = some y2) ?_ ?_
 intro p3 h6
 unfold M.ref4_Mask_k1 at h6
 refine rg0 [0, 3, 4] 0 ⟨19, [(0, .int .i64 a0), (3, .int .u32 p3), (4, .int .i64 (wr .i64 (p1.2 + 1)))], []⟩ ?_
 obtain rfl := Option.some.inj h6
 exact round_n (le_rfl)
 intro k5
 refine awp_block (awp_seq (rg0 [0, 3, 4, 11] 0 ⟨19, [(0, .int .i64 a0), (3, .int .u32 p1.1), (4, .int .i64 p1.2), (11, .bool (decide (p1.2 < a0)))], []⟩ ?_))
 refine then_n ?_
 refine cnd (decide (p1.2 < a0)) (fun b7 => ?_) (fun b7 => ?_)
 have h8 := cond_t b7 h3
 obtain ⟨c10, h11⟩ := gd_some h8
 refine rgc [0, 3, 4] 0 ⟨19, [(0, .int .i64 a0), (3, .int .u32 (bitD .or .u32 p1.1 (wr .u32 (1 * 2 ^ min (wr .u64 (wr .i64 (31 - p1.2))).toNat 32)))), (4, .int .i64 p1.2)], []⟩ [decide (0 ≤ (wr .u64 (wr .i64 (31 - p1.2))))] c10 ?_
 refine inb_n ?_
 exact then_le (le_rfl) (k5 (bitD .or .u32 p1.1 (wr .u32 (1 * 2 ^ min (wr .u64 (wr .i64 (31 - p1.2))).toNat 32))) h11)
 have h9 := cond_f b7 h3
 refine awp_skip (inb_n ?_)
 exact then_le (kp [0, 3, 4]) (k5 p1.1 h9)
 have h4 := cond_f b2 h1
 refine awp_exit (then_e ?_)
 obtain rfl := Option.some.inj h4
 exact round_e ⟨rfl, kp [3]⟩
 intro e14 s15 o16
 obtain ⟨rfl, l17⟩ := o16
 refine inb_here ?_
 refine then_le (s' := ⟨19, [(3, .int .u32 y4)], []⟩) (l17) ?_
 refine awp_seq (rg0 [2] 0 ⟨19, [(2, .int .u32 y4)], []⟩ ?_)
 refine then_n (awp_ret ?_)
 obtain rfl := Option.some.inj h13
 exact er0 (.int .u32 y4)
theorem ref4_Network_ok (a0 : Int) (a1 : Int) (r : TPrefix) (h : M.ref4_Network a0 a1 = some r) : Fn Try.prog 70 [.int .u32 a0, .int .i64 a1] (.pure (.agg (c_TPrefix r))) := by
 unfold M.ref4_Network at h
 refine fn_pure Try.func70 rfl (by kernel_rfl) ?_
 refine awp_seq (rg0 [0, 1, 4] 1 ⟨14, [(0, .int .u32 a0), (1, .int .i64 a1), (4, .ref 0 0)], [.box [.int .u32 0, .int .i64 0]]⟩ ?_)
 refine then_n (awp_seq (rg0 [0, 1, 4] 1 ⟨14, [(0, .int .u32 a0), (1, .int .i64 (if 0 > (if 32 < a1 then 32 else a1) then 0 else (if 32 < a1 then 32 else a1))), (4, .ref 0 0)], [.box [.int .u32 0, .int .i64 0]]⟩ ?_))
 refine then_n (awp_seq ?_)
 obtain ⟨r1, q1, h2⟩ := bind_some h
 refine rg [.pure (.int .u32 r1)] [4] 1 ⟨14, [(4, .ref 0 0)], [.box [.int .u32 (bitD .and .u32 a0 r1), .int .i64 (if 0 > (if 32 < a1 then 32 else a1) then 0 else (if 32 < a1 then 32 else a1))]]⟩ [] [⟨true, 83, [.int .i64 (if 0 > (if 32 < a1 then 32 else a1) then 0 else (if 32 < a1 then 32 else a1))], .pure (.int .u32 r1)⟩] nil_all ⟨fun _ => ref4_Mask_ok (if 0 > (if 32 < a1 then 32 else a1) then 0 else (if 32 < a1 then 32 else a1)) r1 q1, trivial⟩ ?_
 refine then_n (awp_ret ?_)
 obtain rfl := Option.some.inj h2
 exact er0 (.agg [.int .u32 (bitD .and .u32 a0 r1), .int .i64 (if 0 > (if 32 < a1 then 32 else a1) then 0 else (if 32 < a1 then 32 else a1))])
theorem ref4_Contains_ok (a0 : TPrefix) (a1 : Int) (r : Bool) (h : M.ref4_Contains a0 a1 = some r) : Fn Try.prog 96 [.agg (c_TPrefix a0), .int .u32 a1] (.pure (.bool r)) := by
 unfold M.ref4_Contains at h
 refine fn_pure Try.func96 rfl (by kernel_rfl) ?_
 refine awp_seq (rg0 [1, 2] 1 ⟨13, [(1, .int .u32 a1), (2, .ref 0 0)], [.box (c_TPrefix a0)]⟩ ?_)
 refine then_n (awp_seq ?_)
 obtain ⟨r1, q1, h2⟩ := bind_some h
 refine rg [.pure (.int .u32 r1)] [4] 0 ⟨13, [(4, .bool ((bitD .and .u32 a1 r1) == a0.fAddr))], []⟩ [] [⟨true, 83, [.int .i64 a0.fLen], .pure (.int .u32 r1)⟩] nil_all ⟨fun _ => ref4_Mask_ok a0.fLen r1 q1, trivial⟩ ?_
 refine then_n (awp_ret ?_)
 obtain rfl := Option.some.inj h2
 exact er0 (.bool ((bitD .and .u32 a1 r1) == a0.fAddr))
theorem ref4_Covers_ok (a0 : TPrefix) (a1 : TPrefix) (r : Bool) (h : M.ref4_Covers a0 a1 = some r) : Fn Try.prog 88 [.agg (c_TPrefix a0), .agg (c_TPrefix a1)] (.pure (.bool r)) := by
 unfold M.ref4_Covers at h
 refine fn_pure Try.func88 rfl (by kernel_rfl) ?_
 refine awp_seq (rg0 [2, 3] 2 ⟨16, [(2, .ref 0 0), (3, .ref 1 0)], [.box (c_TPrefix a0), .box (c_TPrefix a1)]⟩ ?_)
 refine then_n (awp_seq ?_)
 obtain ⟨r1, q1, h2⟩ := bind_some h
 refine rg [.pure (.bool r1)] [4] 0 ⟨16, [(4, .bool ((decide (a0.fLen ≤ a1.fLen)) && r1))], []⟩ [] [⟨decide (a0.fLen ≤ a1.fLen), 96, [.agg (c_TPrefix a0), .int .u32 a1.fAddr], .pure (.bool r1)⟩] nil_all ⟨fun hg => ref4_Contains_ok a0 a1.fAddr r1 (gc_some q1 hg), trivial⟩ ?_
 refine then_n (awp_ret ?_)
 obtain rfl := Option.some.inj h2
 exact er0 (.bool ((decide (a0.fLen ≤ a1.fLen)) && r1))
theorem ref4_Overlaps_ok (a0 : TPrefix) (a1 : TPrefix) (r : Bool) (h : M.ref4_Overlaps a0 a1 = some r) : Fn Try.prog 69 [.agg (c_TPrefix a0), .agg (c_TPrefix a1)] (.pure (.bool r)) := by
 unfold M.ref4_Overlaps at h
 refine fn_pure Try.func69 rfl (by kernel_rfl) ?_
 refine awp_seq (rg0 [2, 3] 2 ⟨13, [(2, .ref 0 0), (3, .ref 1 0)], [.box (c_TPrefix a0), .box (c_TPrefix a1)]⟩ ?_)
 refine then_n (awp_seq ?_)
 obtain ⟨r1, q1, h2⟩ := bind_some h
 obtain ⟨r2, q3, h4⟩ := bind_some h2
 refine rg [.pure (.bool r1), .pure (.bool r2)] [4] 0 ⟨13, [(4, .bool (r1 || r2))], []⟩ [] [⟨true, 88, [.agg (c_TPrefix a0), .agg (c_TPrefix a1)], .pure (.bool r1)⟩, ⟨(!r1), 88, [.agg (c_TPrefix a1), .agg (c_TPrefix a0)], .pure (.bool r2)⟩] nil_all ⟨fun _ => ref4_Covers_ok a0 a1 r1 q1, fun hg => ref4_Covers_ok a1 a0 r2 (gc_some q3 hg), trivial⟩ ?_
 refine then_n (awp_ret ?_)
 obtain rfl := Option.some.inj h4
 exact er0 (.bool (r1 || r2))
theorem ref8_interfaces_ok (a0 : List TInterface) (r : Int) (h : M.ref8_interfaces a0 = some r) : Fn Try.prog 39 [sL 12 c_TInterface a0] (.pure (.int .i64 r)) := by
 unfold M.ref8_interfaces at h
 refine fn_pure Try.func39 rfl (by kernel_rfl) ?_
 refine awp_seq (rg0 [0] 0 ⟨163, [(0, sL 12 c_TInterface a0)], []⟩ ?_)
 refine then_n (awp_seq (awp_seq (rg0 [0, 9] 0 ⟨163, [(0, sL 12 c_TInterface a0), (9, .bool (decide ((a0.length : Int) > 8)))], []⟩ ?_)))
 refine then_n ?_
 refine cnd (decide ((a0.length : Int) > 8)) (fun b1 => ?_) (fun b1 => ?_)
 have h2 := cond_t b1 h
 refine awp_seq (rg0 [2] 0 ⟨163, [(2, .int .i64 7)], []⟩ ?_)
 refine then_n (awp_ret (then_r ?_))
 obtain rfl := Option.some.inj h2
 exact er0 (.int .i64 7)
 have h3 := cond_f b1 h
 refine awp_skip (then_n (awp_seq (awp_seq (rg0 [0, 3] 0 ⟨163, [(0, sL 12 c_TInterface a0), (3, .int .i64 0)], []⟩ ?_))))
 refine then_n (awp_block ?_)
 obtain ⟨y22, q76, h77⟩ := bind_some h3
 refine awp_le (s' := ⟨163, [(0, sL 12 c_TInterface a0), (3, .int .i64 0)], []⟩) (le_rfl) ?_
 refine awp_mono (awp_loop (f := M.ref8_interfaces_l1 a0) (S := fun (p1 : Int) => ⟨163, [(0, sL 12 c_TInterface a0), (3, .int .i64 p1)], []⟩) (O := (Sum.elim (fun z => OutE 0 (fun z => ⟨163, [], []⟩) z) (fun z => OutR Try.prog Try.f39 (.int .i64 z)))) ?_ (x := 0) (y := y22) (loopM_iter q76)) ?_
 intro p1 y2 h4
 unfold M.ref8_interfaces_l1 at h4
 refine awp_seq (awp_seq (rg0 [0, 3, 13] 0 ⟨163, [(0, sL 12 c_TInterface a0), (3, .int .i64 p1), (13, .bool (decide (p1 < (a0.length : Int))))], []⟩ ?_))
 refine then_n ?_
 refine cnd (decide (p1 < (a0.length : Int))) (fun b5 => ?_) (fun b5 => ?_)
 have h6 := cond_t b5 h4
 refine awp_skip (then_n (awp_seq (awp_block (awp_seq ?_))))
 obtain ⟨c8, h9⟩ := gd_some h6
 refine rgc [0, 3, 4] 1 ⟨163, [(0, sL 12 c_TInterface a0), (3, .int .i64 p1), (4, .ref 0 0)], [.box (c_TInterface (a0.getD p1.toNat default))]⟩ [decide (0 ≤ p1), decide (p1 < (a0.length : Int))] c8 ?_
 refine then_n (awp_seq (awp_seq ?_))
 obtain ⟨r3, q10, h11⟩ := bind_some h9
 refine rg [.pure (.bool r3)] [0, 3, 4, 23] 1 ⟨163, [(0, sL 12 c_TInterface a0), (3, .int .i64 p1), (4, .ref 0 0), (23, .bool (!r3))], [.box (c_TInterface (a0.getD p1.toNat default))]⟩ [] [⟨true, 37, [.str ((a0.getD p1.toNat default).fName)], .pure (.bool r3)⟩] nil_all ⟨fun _ => ref4_Name_ok ((a0.getD p1.toNat default).fName) r3 q10, trivial⟩ ?_
 refine then_n ?_
 refine cnd (!r3) (fun b12 => ?_) (fun b12 => ?_)
 have h13 := cond_t b12 h11
 refine awp_seq (rg0 [2] 0 ⟨163, [(2, .int .i64 3)], []⟩ ?_)
 refine then_n (awp_ret (then_r (inb_r (then_r ?_))))
 obtain rfl := Option.some.inj h13
 exact round_r ⟨rfl, er0 (.int .i64 3)⟩
 have h14 := cond_f b12 h11
 refine awp_skip (then_n (awp_seq (awp_seq (rg0 [0, 3, 4, 5] 1 ⟨163, [(0, sL 12 c_TInterface a0), (3, .int .i64 p1), (4, .ref 0 0), (5, .int .i64 0)], [.box (c_TInterface (a0.getD p1.toNat default))]⟩ ?_))))
 refine then_n (awp_block ?_)
 obtain ⟨y6, q24, h25⟩ := bind_some h14
 refine awp_le (s' := ⟨163, [(0, sL 12 c_TInterface a0), (3, .int .i64 p1), (4, .ref 0 0), (5, .int .i64 0)], [.box (c_TInterface (a0.getD p1.toNat default))]⟩) (le_rfl) ?_
 refine awp_mono (awp_loop (f := M.ref8_interfaces_l2 a0 p1) (S := fun (p4 : Int) => ⟨163, [(0, sL 12 c_TInterface a0), (3, .int .i64 p1), (4, .ref 0 0), (5, .int .i64 p4)], [.box (c_TInterface (a0.getD p1.toNat default))]⟩) (O := (Sum.elim (fun z => OutE 2 (fun z => ⟨163, [(0, sL 12 c_TInterface a0), (3, .int .i64 p1), (4, .ref 0 0)], [.box (c_TInterface (a0.getD p1.toNat default))]⟩) z) (fun z => OutR Try.prog Try.f39 (.int .i64 z)))) ?_ (x := 0) (y := y6) (loopM_iter q24)) ?_
 intro p4 y5 h15
 unfold M.ref8_interfaces_l2 at h15
 refine awp_seq (awp_seq (rg0 [0, 3, 4, 5, 26] 1 ⟨163, [(0, sL 12 c_TInterface a0), (3, .int .i64 p1), (4, .ref 0 0), (5, .int .i64 p4), (26, .bool (decide (p4 < p1)))], [.box (c_TInterface (a0.getD p1.toNat default))]⟩ ?_))
 refine then_n ?_
 refine cnd (decide (p4 < p1)) (fun b16 => ?_) (fun b16 => ?_)
 have h17 := cond_t b16 h15
 refine awp_skip (then_n (awp_seq (awp_block (awp_seq ?_))))
 obtain ⟨c19, h20⟩ := gd_some h17
 refine rgc [0, 3, 4, 5, 36] 1 ⟨163, [(0, sL 12 c_TInterface a0), (3, .int .i64 p1), (4, .ref 0 0), (5, .int .i64 p4), (36, .bool (strEq ((a0.getD p4.toNat default).fName) ((a0.getD p1.toNat default).fName)))], [.box (c_TInterface (a0.getD p1.toNat default))]⟩ [decide (0 ≤ p4), decide (p4 < (a0.length : Int))] c19 ?_
 refine then_n ?_
 refine cnd (strEq ((a0.getD p4.toNat default).fName) ((a0.getD p1.toNat default).fName)) (fun b21 => ?_) (fun b21 => ?_)
 have h22 := cond_t b21 h20
 refine awp_seq (rg0 [2] 0 ⟨163, [(2, .int .i64 4)], []⟩ ?_)
 refine then_n (awp_ret (inb_r (then_r ?_)))
 obtain rfl := Option.some.inj h22
 exact round_r ⟨rfl, er0 (.int .i64 4)⟩
 have h23 := cond_f b21 h20
 refine awp_skip (inb_n (then_n (rg0 [0, 3, 4, 5] 1 ⟨163, [(0, sL 12 c_TInterface a0), (3, .int .i64 p1), (4, .ref 0 0), (5, .int .i64 (wr .i64 (p4 + 1)))], [.box (c_TInterface (a0.getD p1.toNat default))]⟩ ?_)))
 obtain rfl := Option.some.inj h23
 exact round_n (le_rfl)
 have h18 := cond_f b16 h15
 refine awp_exit (then_e ?_)
 obtain rfl := Option.some.inj h18
 exact round_e ⟨rfl, kp [0, 3, 4]⟩
 intro e26 s27 o28
 rcases y6 with g7 | y8
 have h29 := elim_l h25
 obtain ⟨rfl, l31⟩ := o28
 refine inb_here ?_
 refine then_le (s' := ⟨163, [(0, sL 12 c_TInterface a0), (3, .int .i64 p1), (4, .ref 0 0)], [.box (c_TInterface (a0.getD p1.toNat default))]⟩) (l31) ?_
 refine awp_seq (awp_seq ?_)
 obtain ⟨r9, q32, h33⟩ := bind_some h29
 obtain ⟨r10, q34, h35⟩ := bind_some h33
 obtain ⟨r11, q36, h37⟩ := bind_some h35
 refine rg [.pure (.bool r9), .pure (.bool r10), .pure (.bool r11)] [0, 3, 4, 52] 1 ⟨163, [(0, sL 12 c_TInterface a0), (3, .int .i64 p1), (4, .ref 0 0), (52, .bool (((!r9) || (!r10)) || (!r11)))], [.box (c_TInterface (a0.getD p1.toNat default))]⟩ [] [⟨true, 38, [.int .i64 ((a0.getD p1.toNat default).fLen), .int .i64 0, .int .i64 32], .pure (.bool r9)⟩, ⟨(!(!r9)), 38, [.int .i64 ((a0.getD p1.toNat default).fVLAN), .int .i64 0, .int .i64 4094], .pure (.bool r10)⟩, ⟨(!((!r9) || (!r10))), 38, [.int .i64 ((a0.getD p1.toNat default).fSide), .int .i64 0, .int .i64 2], .pure (.bool r11)⟩] nil_all ⟨fun _ => ref8_within_ok ((a0.getD p1.toNat default).fLen) 0 32 r9 q32, fun hg => ref8_within_ok ((a0.getD p1.toNat default).fVLAN) 0 4094 r10 (gc_some q34 hg), fun hg => ref8_within_ok ((a0.getD p1.toNat default).fSide) 0 2 r11 (gc_some q36 hg), trivial⟩ ?_
 refine then_n ?_
 refine cnd (((!r9) || (!r10)) || (!r11)) (fun b38 => ?_) (fun b38 => ?_)
 have h39 := cond_t b38 h37
 refine awp_seq (rg0 [2] 0 ⟨163, [(2, .int .i64 1)], []⟩ ?_)
 refine then_n (awp_ret (then_r (inb_r (then_r ?_))))
 obtain rfl := Option.some.inj h39
 exact round_r ⟨rfl, er0 (.int .i64 1)⟩
 have h40 := cond_f b38 h37
 refine awp_skip (then_n (awp_seq (awp_seq (rg0 [0, 3, 4, 98] 1 ⟨163, [(0, sL 12 c_TInterface a0), (3, .int .i64 p1), (4, .ref 0 0), (98, .bool (((((a0.getD p1.toNat default).fLen) == 0) && (((((((((a0.getD p1.toNat default).fAddr) != 0) || (((a0.getD p1.toNat default).fVLAN) != 0)) || (((a0.getD p1.toNat default).fSide) != 0)) || ((a0.getD p1.toNat default).fLS)) || ((a0.getD p1.toNat default).fDV)) || (!strEq ((a0.getD p1.toNat default).fIn) (⟨#[]⟩ : ByteArray))) || (!strEq ((a0.getD p1.toNat default).fOut) (⟨#[]⟩ : ByteArray)))) || ((((a0.getD p1.toNat default).fLen) != 0) && (((a0.getD p1.toNat default).fAddr) == 0))))], [.box (c_TInterface (a0.getD p1.toNat default))]⟩ ?_))))
 refine then_n ?_
 refine cnd (((((a0.getD p1.toNat default).fLen) == 0) && (((((((((a0.getD p1.toNat default).fAddr) != 0) || (((a0.getD p1.toNat default).fVLAN) != 0)) || (((a0.getD p1.toNat default).fSide) != 0)) || ((a0.getD p1.toNat default).fLS)) || ((a0.getD p1.toNat default).fDV)) || (!strEq ((a0.getD p1.toNat default).fIn) (⟨#[]⟩ : ByteArray))) || (!strEq ((a0.getD p1.toNat default).fOut) (⟨#[]⟩ : ByteArray)))) || ((((a0.getD p1.toNat default).fLen) != 0) && (((a0.getD p1.toNat default).fAddr) == 0))) (fun b41 => ?_) (fun b41 => ?_)
 have h42 := cond_t b41 h40
 refine awp_seq (rg0 [2] 0 ⟨163, [(2, .int .i64 1)], []⟩ ?_)
 refine then_n (awp_ret (then_r (inb_r (then_r ?_))))
 obtain rfl := Option.some.inj h42
 exact round_r ⟨rfl, er0 (.int .i64 1)⟩
 have h43 := cond_f b41 h40
 refine awp_skip (then_n (awp_seq (awp_seq ?_)))
 obtain ⟨r12, q44, h45⟩ := bind_some h43
 obtain ⟨r13, q46, h47⟩ := bind_some h45
 refine rg [.pure (.bool r12), .pure (.bool r13)] [0, 3, 4, 127] 1 ⟨163, [(0, sL 12 c_TInterface a0), (3, .int .i64 p1), (4, .ref 0 0), (127, .bool ((((a0.getD p1.toNat default).fLS) && ((!r12) || (!r13))) || ((!((a0.getD p1.toNat default).fLS)) && ((((a0.getD p1.toNat default).fArea) != 0) || (((a0.getD p1.toNat default).fCost) != 0)))))], [.box (c_TInterface (a0.getD p1.toNat default))]⟩ [] [⟨(a0.getD p1.toNat default).fLS, 38, [.int .i64 ((a0.getD p1.toNat default).fArea), .int .i64 0, .int .i64 255], .pure (.bool r12)⟩, ⟨(((a0.getD p1.toNat default).fLS) && !(!r12)), 38, [.int .i64 ((a0.getD p1.toNat default).fCost), .int .i64 1, .int .i64 65535], .pure (.bool r13)⟩] nil_all ⟨fun hg => ref8_within_ok ((a0.getD p1.toNat default).fArea) 0 255 r12 (gc_some q44 hg), fun hg => ref8_within_ok ((a0.getD p1.toNat default).fCost) 1 65535 r13 (gc_some q46 hg), trivial⟩ ?_
 refine then_n ?_
 refine cnd ((((a0.getD p1.toNat default).fLS) && ((!r12) || (!r13))) || ((!((a0.getD p1.toNat default).fLS)) && ((((a0.getD p1.toNat default).fArea) != 0) || (((a0.getD p1.toNat default).fCost) != 0)))) (fun b48 => ?_) (fun b48 => ?_)
 have h49 := cond_t b48 h47
 refine awp_seq (rg0 [2] 0 ⟨163, [(2, .int .i64 1)], []⟩ ?_)
 refine then_n (awp_ret (then_r (inb_r (then_r ?_))))
 obtain rfl := Option.some.inj h49
 exact round_r ⟨rfl, er0 (.int .i64 1)⟩
 have h50 := cond_f b48 h47
 refine awp_skip (then_n (awp_seq (rg0 [0, 3, 4, 6] 1 ⟨163, [(0, sL 12 c_TInterface a0), (3, .int .i64 p1), (4, .ref 0 0), (6, .int .i64 0)], [.box (c_TInterface (a0.getD p1.toNat default))]⟩ ?_)))
 refine then_n (awp_block ?_)
 obtain ⟨y19, q66, h67⟩ := bind_some h50
 refine awp_le (s' := ⟨163, [(0, sL 12 c_TInterface a0), (3, .int .i64 p1), (4, .ref 0 0), (6, .int .i64 0)], [.box (c_TInterface (a0.getD p1.toNat default))]⟩) (le_rfl) ?_
 refine awp_mono (awp_loop (f := M.ref8_interfaces_l3 a0 p1) (S := fun (p14 : Int) => ⟨163, [(0, sL 12 c_TInterface a0), (3, .int .i64 p1), (4, .ref 0 0), (6, .int .i64 p14)], [.box (c_TInterface (a0.getD p1.toNat default))]⟩) (O := (Sum.elim (fun z => OutE 4 (fun z => ⟨163, [(0, sL 12 c_TInterface a0), (3, .int .i64 p1)], []⟩) z) (fun z => OutR Try.prog Try.f39 (.int .i64 z)))) ?_ (x := 0) (y := y19) (loopM_iter q66)) ?_
 intro p14 y15 h51
 unfold M.ref8_interfaces_l3 at h51
 refine awp_seq (awp_seq (rg0 [0, 3, 4, 6, 130] 1 ⟨163, [(0, sL 12 c_TInterface a0), (3, .int .i64 p1), (4, .ref 0 0), (6, .int .i64 p14), (130, .bool (decide (p14 < p1)))], [.box (c_TInterface (a0.getD p1.toNat default))]⟩ ?_))
 refine then_n ?_
 refine cnd (decide (p14 < p1)) (fun b52 => ?_) (fun b52 => ?_)
 have h53 := cond_t b52 h51
 refine awp_skip (then_n (awp_seq (awp_block (awp_seq ?_))))
 obtain ⟨r16, q55, h56⟩ := bind_some h53
 obtain ⟨r17, q57, h58⟩ := bind_some h56
 obtain ⟨r18, q59, h60⟩ := bind_some h58
 obtain ⟨c61, h62⟩ := gd_some h60
 refine rg [.pure (.agg (c_TPrefix r16)), .pure (.agg (c_TPrefix r17)), .pure (.bool r18)] [0, 3, 4, 6, 162] 1 ⟨163, [(0, sL 12 c_TInterface a0), (3, .int .i64 p1), (4, .ref 0 0), (6, .int .i64 p14), (162, .bool (((((a0.getD p1.toNat default).fLen) != 0) && (((a0.getD p14.toNat default).fLen) != 0)) && r18))], [.box (c_TInterface (a0.getD p1.toNat default))]⟩ [guardB (((a0.getD p1.toNat default).fLen) != 0) (decide (0 ≤ p14)), guardB (((a0.getD p1.toNat default).fLen) != 0) (decide (p14 < (a0.length : Int))), guardB ((((a0.getD p1.toNat default).fLen) != 0) && (((a0.getD p14.toNat default).fLen) != 0)) (decide (0 ≤ p14)), guardB ((((a0.getD p1.toNat default).fLen) != 0) && (((a0.getD p14.toNat default).fLen) != 0)) (decide (p14 < (a0.length : Int))), guardB ((((a0.getD p1.toNat default).fLen) != 0) && (((a0.getD p14.toNat default).fLen) != 0)) (decide (0 ≤ p14)), guardB ((((a0.getD p1.toNat default).fLen) != 0) && (((a0.getD p14.toNat default).fLen) != 0)) (decide (p14 < (a0.length : Int)))] [⟨(((a0.getD p1.toNat default).fLen) != 0) && (((a0.getD p14.toNat default).fLen) != 0), 70, [.int .u32 ((a0.getD p1.toNat default).fAddr), .int .i64 ((a0.getD p1.toNat default).fLen)], .pure (.agg (c_TPrefix r16))⟩, ⟨(((a0.getD p1.toNat default).fLen) != 0) && (((a0.getD p14.toNat default).fLen) != 0), 70, [.int .u32 ((a0.getD p14.toNat default).fAddr), .int .i64 ((a0.getD p14.toNat default).fLen)], .pure (.agg (c_TPrefix r17))⟩, ⟨(((a0.getD p1.toNat default).fLen) != 0) && (((a0.getD p14.toNat default).fLen) != 0), 69, [.agg (c_TPrefix r16), .agg (c_TPrefix r17)], .pure (.bool r18)⟩] c61 ⟨fun hg => ref4_Network_ok ((a0.getD p1.toNat default).fAddr) ((a0.getD p1.toNat default).fLen) r16 (gc_some q55 hg), fun hg => ref4_Network_ok ((a0.getD p14.toNat default).fAddr) ((a0.getD p14.toNat default).fLen) r17 (gc_some q57 hg), fun hg => ref4_Overlaps_ok r16 r17 r18 (gc_some q59 hg), trivial⟩ ?_
 refine then_n ?_
 refine cnd (((((a0.getD p1.toNat default).fLen) != 0) && (((a0.getD p14.toNat default).fLen) != 0)) && r18) (fun b63 => ?_) (fun b63 => ?_)
 have h64 := cond_t b63 h62
 refine awp_seq (rg0 [2] 0 ⟨163, [(2, .int .i64 6)], []⟩ ?_)
 refine then_n (awp_ret (inb_r (then_r ?_)))
 obtain rfl := Option.some.inj h64
 exact round_r ⟨rfl, er0 (.int .i64 6)⟩
 have h65 := cond_f b63 h62
 refine awp_skip (inb_n (then_n (rg0 [0, 3, 4, 6] 1 ⟨163, [(0, sL 12 c_TInterface a0), (3, .int .i64 p1), (4, .ref 0 0), (6, .int .i64 (wr .i64 (p14 + 1)))], [.box (c_TInterface (a0.getD p1.toNat default))]⟩ ?_)))
 obtain rfl := Option.some.inj h65
 exact round_n (le_rfl)
 have h54 := cond_f b52 h51
 refine awp_exit (then_e ?_)
 obtain rfl := Option.some.inj h54
 exact round_e ⟨rfl, Le.trans (s' := ⟨163, [(0, sL 12 c_TInterface a0), (3, .int .i64 p1)], [.box (c_TInterface (a0.getD p1.toNat default))]⟩) (kp [0, 3]) (le_cut (n := 0) (by kernel_rfl))⟩
 intro e68 s69 o70
 rcases y19 with g20 | y21
 have h71 := elim_l h67
 obtain ⟨rfl, l73⟩ := o70
 refine inb_here (inb_n ?_)
 refine then_le (s' := ⟨163, [(0, sL 12 c_TInterface a0), (3, .int .i64 p1)], []⟩) (l73) ?_
 refine rg0 [0, 3] 0 ⟨163, [(0, sL 12 c_TInterface a0), (3, .int .i64 (wr .i64 (p1 + 1)))], []⟩ ?_
 obtain rfl := Option.some.inj h71
 exact round_n (le_rfl)
 have h72 := elim_r h67
 obtain ⟨rfl, n74⟩ := o70
 refine inb_r (inb_r (then_r ?_))
 obtain rfl := Option.some.inj h72
 exact round_r ⟨rfl, n74⟩
 have h30 := elim_r h25
 obtain ⟨rfl, n75⟩ := o28
 refine inb_r (then_r (inb_r (then_r ?_)))
 obtain rfl := Option.some.inj h30
 exact round_r ⟨rfl, n75⟩
 have h7 := cond_f b5 h4
 refine awp_exit (then_e ?_)
 obtain rfl := Option.some.inj h7
 exact round_e ⟨rfl, kp []⟩
 intro e78 s79 o80
 rcases y22 with g23 | y24
 have h81 := elim_l h77
 obtain ⟨rfl, l83⟩ := o80
 refine inb_here ?_
 refine then_le (s' := ⟨163, [], []⟩) (l83) ?_
 refine awp_seq (rg0 [2] 0 ⟨163, [(2, .int .i64 0)], []⟩ ?_)
 refine then_n (awp_ret ?_)
 obtain rfl := Option.some.inj h81
 exact er0 (.int .i64 0)
 have h82 := elim_r h77
 obtain ⟨rfl, n84⟩ := o80
 refine inb_r (then_r ?_)
 obtain rfl := Option.some.inj h82
 exact n84
theorem ref4_Valid_ok (a0 : TPrefix) (r : Bool) (h : M.ref4_Valid a0 = some r) : Fn Try.prog 53 [.agg (c_TPrefix a0)] (.pure (.bool r)) := by
 unfold M.ref4_Valid at h
 refine fn_pure Try.func53 rfl (by kernel_rfl) ?_
 refine awp_seq (rg0 [1] 1 ⟨20, [(1, .ref 0 0)], [.box (c_TPrefix a0)]⟩ ?_)
 refine then_n (awp_seq ?_)
 obtain ⟨r1, q1, h2⟩ := bind_some h
 refine rg [.pure (.int .u32 r1)] [2] 0 ⟨20, [(2, .bool (((decide (a0.fLen ≥ 0)) && (decide (a0.fLen ≤ 32))) && ((bitD .andNot .u32 a0.fAddr r1) == 0)))], []⟩ [] [⟨(decide (a0.fLen ≥ 0)) && (decide (a0.fLen ≤ 32)), 83, [.int .i64 a0.fLen], .pure (.int .u32 r1)⟩] nil_all ⟨fun hg => ref4_Mask_ok a0.fLen r1 (gc_some q1 hg), trivial⟩ ?_
 refine then_n (awp_ret ?_)
 obtain rfl := Option.some.inj h2
 exact er0 (.bool (((decide (a0.fLen ≥ 0)) && (decide (a0.fLen ≤ 32))) && ((bitD .andNot .u32 a0.fAddr r1) == 0)))
theorem ref8_ValidPrefixRule_ok (a0 : TPrefixRule) (r : Bool) (h : M.ref8_ValidPrefixRule a0 = some r) : Fn Try.prog 71 [.agg (c_TPrefixRule a0)] (.pure (.bool r)) := by
 unfold M.ref8_ValidPrefixRule at h
 refine fn_pure Try.func71 rfl (by kernel_rfl) ?_
 refine awp_seq (rg0 [1] 1 ⟨26, [(1, .ref 0 0)], [.box (c_TPrefixRule a0)]⟩ ?_)
 refine then_n (awp_seq ?_)
 obtain ⟨r1, q1, h2⟩ := bind_some h
 refine rg [.pure (.bool r1)] [2] 0 ⟨26, [(2, .bool (((r1 && (decide (a0.fPrefix.fLen ≤ a0.fMin))) && (decide (a0.fMin ≤ a0.fMax))) && (decide (a0.fMax ≤ 32))))], []⟩ [] [⟨true, 53, [.agg (c_TPrefix a0.fPrefix)], .pure (.bool r1)⟩] nil_all ⟨fun _ => ref4_Valid_ok a0.fPrefix r1 q1, trivial⟩ ?_
 refine then_n (awp_ret ?_)
 obtain rfl := Option.some.inj h2
 exact er0 (.bool (((r1 && (decide (a0.fPrefix.fLen ≤ a0.fMin))) && (decide (a0.fMin ≤ a0.fMax))) && (decide (a0.fMax ≤ 32))))
theorem ref8_prefixLists_ok (a0 : List TPrefixList) (r : Int) (h : M.ref8_prefixLists a0 = some r) : Fn Try.prog 40 [sL 2 c_TPrefixList a0] (.pure (.int .i64 r)) := by
 unfold M.ref8_prefixLists at h
 refine fn_pure Try.func40 rfl (by kernel_rfl) ?_
 refine awp_seq (rg0 [0] 0 ⟨72, [(0, sL 2 c_TPrefixList a0)], []⟩ ?_)
 refine then_n (awp_seq (awp_seq (rg0 [0, 8] 0 ⟨72, [(0, sL 2 c_TPrefixList a0), (8, .bool (decide ((a0.length : Int) > 8)))], []⟩ ?_)))
 refine then_n ?_
 refine cnd (decide ((a0.length : Int) > 8)) (fun b1 => ?_) (fun b1 => ?_)
 have h2 := cond_t b1 h
 refine awp_seq (rg0 [2] 0 ⟨72, [(2, .int .i64 7)], []⟩ ?_)
 refine then_n (awp_ret (then_r ?_))
 obtain rfl := Option.some.inj h2
 exact er0 (.int .i64 7)
 have h3 := cond_f b1 h
 refine awp_skip (then_n (awp_seq (awp_seq (rg0 [0, 3] 0 ⟨72, [(0, sL 2 c_TPrefixList a0), (3, .int .i64 0)], []⟩ ?_))))
 refine then_n (awp_block ?_)
 obtain ⟨y15, q65, h66⟩ := bind_some h3
 refine awp_le (s' := ⟨72, [(0, sL 2 c_TPrefixList a0), (3, .int .i64 0)], []⟩) (le_rfl) ?_
 refine awp_mono (awp_loop (f := M.ref8_prefixLists_l1 a0) (S := fun (p1 : Int) => ⟨72, [(0, sL 2 c_TPrefixList a0), (3, .int .i64 p1)], []⟩) (O := (Sum.elim (fun z => OutE 0 (fun z => ⟨72, [], []⟩) z) (fun z => OutR Try.prog Try.f40 (.int .i64 z)))) ?_ (x := 0) (y := y15) (loopM_iter q65)) ?_
 intro p1 y2 h4
 unfold M.ref8_prefixLists_l1 at h4
 refine awp_seq (awp_seq (rg0 [0, 3, 12] 0 ⟨72, [(0, sL 2 c_TPrefixList a0), (3, .int .i64 p1), (12, .bool (decide (p1 < (a0.length : Int))))], []⟩ ?_))
 refine then_n ?_
 refine cnd (decide (p1 < (a0.length : Int))) (fun b5 => ?_) (fun b5 => ?_)
 have h6 := cond_t b5 h4
 refine awp_skip (then_n (awp_seq (awp_block (awp_seq (awp_seq ?_)))))
 obtain ⟨r3, q8, h9⟩ := bind_some h6
 obtain ⟨c10, h11⟩ := gd_some h9
 refine rg [.pure (.bool r3)] [0, 3, 21] 0 ⟨72, [(0, sL 2 c_TPrefixList a0), (3, .int .i64 p1), (21, .bool (!r3))], []⟩ [decide (0 ≤ p1), decide (p1 < (a0.length : Int))] [⟨true, 37, [.str ((a0.getD p1.toNat default).fName)], .pure (.bool r3)⟩] c10 ⟨fun _ => ref4_Name_ok ((a0.getD p1.toNat default).fName) r3 q8, trivial⟩ ?_
 refine then_n ?_
 refine cnd (!r3) (fun b12 => ?_) (fun b12 => ?_)
 have h13 := cond_t b12 h11
 refine awp_seq (rg0 [2] 0 ⟨72, [(2, .int .i64 3)], []⟩ ?_)
 refine then_n (awp_ret (then_r (inb_r (then_r ?_))))
 obtain rfl := Option.some.inj h13
 exact round_r ⟨rfl, er0 (.int .i64 3)⟩
 have h14 := cond_f b12 h11
 refine awp_skip (then_n (awp_seq (awp_seq (rg0 [0, 3, 4] 0 ⟨72, [(0, sL 2 c_TPrefixList a0), (3, .int .i64 p1), (4, .int .i64 0)], []⟩ ?_))))
 refine then_n (awp_block ?_)
 obtain ⟨y6, q24, h25⟩ := bind_some h14
 refine awp_le (s' := ⟨72, [(0, sL 2 c_TPrefixList a0), (3, .int .i64 p1), (4, .int .i64 0)], []⟩) (le_rfl) ?_
 refine awp_mono (awp_loop (f := M.ref8_prefixLists_l2 a0 p1) (S := fun (p4 : Int) => ⟨72, [(0, sL 2 c_TPrefixList a0), (3, .int .i64 p1), (4, .int .i64 p4)], []⟩) (O := (Sum.elim (fun z => OutE 2 (fun z => ⟨72, [(0, sL 2 c_TPrefixList a0), (3, .int .i64 p1)], []⟩) z) (fun z => OutR Try.prog Try.f40 (.int .i64 z)))) ?_ (x := 0) (y := y6) (loopM_iter q24)) ?_
 intro p4 y5 h15
 unfold M.ref8_prefixLists_l2 at h15
 refine awp_seq (awp_seq (rg0 [0, 3, 4, 24] 0 ⟨72, [(0, sL 2 c_TPrefixList a0), (3, .int .i64 p1), (4, .int .i64 p4), (24, .bool (decide (p4 < p1)))], []⟩ ?_))
 refine then_n ?_
 refine cnd (decide (p4 < p1)) (fun b16 => ?_) (fun b16 => ?_)
 have h17 := cond_t b16 h15
 refine awp_skip (then_n (awp_seq (awp_block (awp_seq ?_))))
 obtain ⟨c19, h20⟩ := gd_some h17
 refine rgc [0, 3, 4, 37] 0 ⟨72, [(0, sL 2 c_TPrefixList a0), (3, .int .i64 p1), (4, .int .i64 p4), (37, .bool (strEq ((a0.getD p4.toNat default).fName) ((a0.getD p1.toNat default).fName)))], []⟩ [decide (0 ≤ p4), decide (p4 < (a0.length : Int)), decide (0 ≤ p1), decide (p1 < (a0.length : Int))] c19 ?_
 refine then_n ?_
 refine cnd (strEq ((a0.getD p4.toNat default).fName) ((a0.getD p1.toNat default).fName)) (fun b21 => ?_) (fun b21 => ?_)
 have h22 := cond_t b21 h20
 refine awp_seq (rg0 [2] 0 ⟨72, [(2, .int .i64 4)], []⟩ ?_)
 refine then_n (awp_ret (inb_r (then_r ?_)))
 obtain rfl := Option.some.inj h22
 exact round_r ⟨rfl, er0 (.int .i64 4)⟩
 have h23 := cond_f b21 h20
 refine awp_skip (inb_n (then_n (rg0 [0, 3, 4] 0 ⟨72, [(0, sL 2 c_TPrefixList a0), (3, .int .i64 p1), (4, .int .i64 (wr .i64 (p4 + 1)))], []⟩ ?_)))
 obtain rfl := Option.some.inj h23
 exact round_n (le_rfl)
 have h18 := cond_f b16 h15
 refine awp_exit (then_e ?_)
 obtain rfl := Option.some.inj h18
 exact round_e ⟨rfl, kp [0, 3]⟩
 intro e26 s27 o28
 rcases y6 with g7 | y8
 have h29 := elim_l h25
 obtain ⟨rfl, l31⟩ := o28
 refine inb_here ?_
 refine then_le (s' := ⟨72, [(0, sL 2 c_TPrefixList a0), (3, .int .i64 p1)], []⟩) (l31) ?_
 refine awp_seq (awp_seq ?_)
 obtain ⟨c32, h33⟩ := gd_some h29
 refine rgc [0, 3, 44] 0 ⟨72, [(0, sL 2 c_TPrefixList a0), (3, .int .i64 p1), (44, .bool ((((a0.getD p1.toNat default).fRules).length : Int) == 0))], []⟩ [decide (0 ≤ p1), decide (p1 < (a0.length : Int))] c32 ?_
 refine then_n ?_
 refine cnd ((((a0.getD p1.toNat default).fRules).length : Int) == 0) (fun b34 => ?_) (fun b34 => ?_)
 have h35 := cond_t b34 h33
 refine awp_seq (rg0 [2] 0 ⟨72, [(2, .int .i64 1)], []⟩ ?_)
 refine then_n (awp_ret (then_r (inb_r (then_r ?_))))
 obtain rfl := Option.some.inj h35
 exact round_r ⟨rfl, er0 (.int .i64 1)⟩
 have h36 := cond_f b34 h33
 refine awp_skip (then_n (awp_seq (awp_seq ?_)))
 obtain ⟨c37, h38⟩ := gd_some h36
 refine rgc [0, 3, 51] 0 ⟨72, [(0, sL 2 c_TPrefixList a0), (3, .int .i64 p1), (51, .bool (decide ((((a0.getD p1.toNat default).fRules).length : Int) > 16)))], []⟩ [decide (0 ≤ p1), decide (p1 < (a0.length : Int))] c37 ?_
 refine then_n ?_
 refine cnd (decide ((((a0.getD p1.toNat default).fRules).length : Int) > 16)) (fun b39 => ?_) (fun b39 => ?_)
 have h40 := cond_t b39 h38
 refine awp_seq (rg0 [2] 0 ⟨72, [(2, .int .i64 7)], []⟩ ?_)
 refine then_n (awp_ret (then_r (inb_r (then_r ?_))))
 obtain rfl := Option.some.inj h40
 exact round_r ⟨rfl, er0 (.int .i64 7)⟩
 have h41 := cond_f b39 h38
 refine awp_skip (then_n (awp_seq (rg0 [0, 3, 5] 0 ⟨72, [(0, sL 2 c_TPrefixList a0), (3, .int .i64 p1), (5, .int .i64 0)], []⟩ ?_)))
 refine then_n (awp_block ?_)
 obtain ⟨y12, q55, h56⟩ := bind_some h41
 refine awp_le (s' := ⟨72, [(0, sL 2 c_TPrefixList a0), (3, .int .i64 p1), (5, .int .i64 0)], []⟩) (le_rfl) ?_
 refine awp_mono (awp_loop (f := M.ref8_prefixLists_l3 a0 p1) (S := fun (p9 : Int) => ⟨72, [(0, sL 2 c_TPrefixList a0), (3, .int .i64 p1), (5, .int .i64 p9)], []⟩) (O := (Sum.elim (fun z => OutE 4 (fun z => ⟨72, [(0, sL 2 c_TPrefixList a0), (3, .int .i64 p1)], []⟩) z) (fun z => OutR Try.prog Try.f40 (.int .i64 z)))) ?_ (x := 0) (y := y12) (loopM_iter q55)) ?_
 intro p9 y10 h42
 unfold M.ref8_prefixLists_l3 at h42
 refine awp_seq (awp_seq ?_)
 obtain ⟨c43, h44⟩ := gd_some h42
 refine rgc [0, 3, 5, 59] 0 ⟨72, [(0, sL 2 c_TPrefixList a0), (3, .int .i64 p1), (5, .int .i64 p9), (59, .bool (decide (p9 < (((a0.getD p1.toNat default).fRules).length : Int))))], []⟩ [decide (0 ≤ p1), decide (p1 < (a0.length : Int))] c43 ?_
 refine then_n ?_
 refine cnd (decide (p9 < (((a0.getD p1.toNat default).fRules).length : Int))) (fun b45 => ?_) (fun b45 => ?_)
 have h46 := cond_t b45 h44
 refine awp_skip (then_n (awp_seq (awp_block (awp_seq ?_))))
 obtain ⟨r11, q48, h49⟩ := bind_some h46
 obtain ⟨c50, h51⟩ := gd_some h49
 refine rg [.pure (.bool r11)] [0, 3, 5, 71] 0 ⟨72, [(0, sL 2 c_TPrefixList a0), (3, .int .i64 p1), (5, .int .i64 p9), (71, .bool (!r11))], []⟩ [decide (0 ≤ p1), decide (p1 < (a0.length : Int)), decide (0 ≤ p9), decide (p9 < (((a0.getD p1.toNat default).fRules).length : Int))] [⟨true, 71, [.agg (c_TPrefixRule (((a0.getD p1.toNat default).fRules).getD p9.toNat default))], .pure (.bool r11)⟩] c50 ⟨fun _ => ref8_ValidPrefixRule_ok (((a0.getD p1.toNat default).fRules).getD p9.toNat default) r11 q48, trivial⟩ ?_
 refine then_n ?_
 refine cnd (!r11) (fun b52 => ?_) (fun b52 => ?_)
 have h53 := cond_t b52 h51
 refine awp_seq (rg0 [2] 0 ⟨72, [(2, .int .i64 1)], []⟩ ?_)
 refine then_n (awp_ret (inb_r (then_r ?_)))
 obtain rfl := Option.some.inj h53
 exact round_r ⟨rfl, er0 (.int .i64 1)⟩
 have h54 := cond_f b52 h51
 refine awp_skip (inb_n (then_n (rg0 [0, 3, 5] 0 ⟨72, [(0, sL 2 c_TPrefixList a0), (3, .int .i64 p1), (5, .int .i64 (wr .i64 (p9 + 1)))], []⟩ ?_)))
 obtain rfl := Option.some.inj h54
 exact round_n (le_rfl)
 have h47 := cond_f b45 h44
 refine awp_exit (then_e ?_)
 obtain rfl := Option.some.inj h47
 exact round_e ⟨rfl, kp [0, 3]⟩
 intro e57 s58 o59
 rcases y12 with g13 | y14
 have h60 := elim_l h56
 obtain ⟨rfl, l62⟩ := o59
 refine inb_here (inb_n ?_)
 refine then_le (s' := ⟨72, [(0, sL 2 c_TPrefixList a0), (3, .int .i64 p1)], []⟩) (l62) ?_
 refine rg0 [0, 3] 0 ⟨72, [(0, sL 2 c_TPrefixList a0), (3, .int .i64 (wr .i64 (p1 + 1)))], []⟩ ?_
 obtain rfl := Option.some.inj h60
 exact round_n (le_rfl)
 have h61 := elim_r h56
 obtain ⟨rfl, n63⟩ := o59
 refine inb_r (inb_r (then_r ?_))
 obtain rfl := Option.some.inj h61
 exact round_r ⟨rfl, n63⟩
 have h30 := elim_r h25
 obtain ⟨rfl, n64⟩ := o28
 refine inb_r (then_r (inb_r (then_r ?_)))
 obtain rfl := Option.some.inj h30
 exact round_r ⟨rfl, n64⟩
 have h7 := cond_f b5 h4
 refine awp_exit (then_e ?_)
 obtain rfl := Option.some.inj h7
 exact round_e ⟨rfl, kp []⟩
 intro e67 s68 o69
 rcases y15 with g16 | y17
 have h70 := elim_l h66
 obtain ⟨rfl, l72⟩ := o69
 refine inb_here ?_
 refine then_le (s' := ⟨72, [], []⟩) (l72) ?_
 refine awp_seq (rg0 [2] 0 ⟨72, [(2, .int .i64 0)], []⟩ ?_)
 refine then_n (awp_ret ?_)
 obtain rfl := Option.some.inj h70
 exact er0 (.int .i64 0)
 have h71 := elim_r h66
 obtain ⟨rfl, n73⟩ := o69
 refine inb_r (then_r ?_)
 obtain rfl := Option.some.inj h71
 exact n73
theorem ref8_PrefixList_ok (a0 : TRouter) (a1 : ByteArray) (r : Int) (h : M.ref8_PrefixList a0 a1 = some r) : Fn Try.prog 72 [.agg (c_TRouter a0), .str a1] (.pure (.int .i64 r)) := by
 unfold M.ref8_PrefixList at h
 refine fn_pure Try.func72 rfl (by kernel_rfl) ?_
 refine awp_seq (rg0 [1, 2] 1 ⟨22, [(1, .str a1), (2, .ref 0 0)], [.box (c_TRouter a0)]⟩ ?_)
 refine then_n (awp_seq (awp_seq (rg0 [1, 2, 5] 1 ⟨22, [(1, .str a1), (2, .ref 0 0), (5, .int .i64 0)], [.box (c_TRouter a0)]⟩ ?_)))
 refine then_n (awp_block ?_)
 obtain ⟨y3, q10, h11⟩ := bind_some h
 refine awp_le (s' := ⟨22, [(1, .str a1), (2, .ref 0 0), (5, .int .i64 0)], [.box (c_TRouter a0)]⟩) (le_rfl) ?_
 refine awp_mono (awp_loop (f := M.ref8_PrefixList_l1 a0 a1) (S := fun (p1 : Int) => ⟨22, [(1, .str a1), (2, .ref 0 0), (5, .int .i64 p1)], [.box (c_TRouter a0)]⟩) (O := (Sum.elim (fun z => OutE 0 (fun z => ⟨22, [], []⟩) z) (fun z => OutR Try.prog Try.f72 (.int .i64 z)))) ?_ (x := 0) (y := y3) (loopM_iter q10)) ?_
 intro p1 y2 h1
 unfold M.ref8_PrefixList_l1 at h1
 refine awp_seq (awp_seq (rg0 [1, 2, 5, 10] 1 ⟨22, [(1, .str a1), (2, .ref 0 0), (5, .int .i64 p1), (10, .bool (decide (p1 < (a0.fLists.length : Int))))], [.box (c_TRouter a0)]⟩ ?_))
 refine then_n ?_
 refine cnd (decide (p1 < (a0.fLists.length : Int))) (fun b2 => ?_) (fun b2 => ?_)
 have h3 := cond_t b2 h1
 refine awp_skip (then_n (awp_seq (awp_block (awp_seq ?_))))
 obtain ⟨c5, h6⟩ := gd_some h3
 refine rgc [1, 2, 5, 20] 1 ⟨22, [(1, .str a1), (2, .ref 0 0), (5, .int .i64 p1), (20, .bool (strEq ((a0.fLists.getD p1.toNat default).fName) a1))], [.box (c_TRouter a0)]⟩ [decide (0 ≤ p1), decide (p1 < (a0.fLists.length : Int))] c5 ?_
 refine then_n ?_
 refine cnd (strEq ((a0.fLists.getD p1.toNat default).fName) a1) (fun b7 => ?_) (fun b7 => ?_)
 have h8 := cond_t b7 h6
 refine awp_seq (rg0 [4] 0 ⟨22, [(4, .int .i64 p1)], []⟩ ?_)
 refine then_n (awp_ret (inb_r (then_r ?_)))
 obtain rfl := Option.some.inj h8
 exact round_r ⟨rfl, er0 (.int .i64 p1)⟩
 have h9 := cond_f b7 h6
 refine awp_skip (inb_n (then_n (rg0 [1, 2, 5] 1 ⟨22, [(1, .str a1), (2, .ref 0 0), (5, .int .i64 (wr .i64 (p1 + 1)))], [.box (c_TRouter a0)]⟩ ?_)))
 obtain rfl := Option.some.inj h9
 exact round_n (le_rfl)
 have h4 := cond_f b2 h1
 refine awp_exit (then_e ?_)
 obtain rfl := Option.some.inj h4
 exact round_e ⟨rfl, Le.trans (s' := ⟨22, [], [.box (c_TRouter a0)]⟩) (kp []) (le_cut (n := 0) (by kernel_rfl))⟩
 intro e12 s13 o14
 rcases y3 with g4 | y5
 have h15 := elim_l h11
 obtain ⟨rfl, l17⟩ := o14
 refine inb_here ?_
 refine then_le (s' := ⟨22, [], []⟩) (l17) ?_
 refine awp_seq (rg0 [4] 0 ⟨22, [(4, .int .i64 (-1))], []⟩ ?_)
 refine then_n (awp_ret ?_)
 obtain rfl := Option.some.inj h15
 exact er0 (.int .i64 (-1))
 have h16 := elim_r h11
 obtain ⟨rfl, n18⟩ := o14
 refine inb_r (then_r ?_)
 obtain rfl := Option.some.inj h16
 exact n18
theorem ref8_routeMaps_ok (a0 : TRouter) (r : Int) (h : M.ref8_routeMaps a0 = some r) : Fn Try.prog 41 [.agg (c_TRouter a0)] (.pure (.int .i64 r)) := by
 unfold M.ref8_routeMaps at h
 refine fn_pure Try.func41 rfl (by kernel_rfl) ?_
 refine awp_seq (rg0 [1] 1 ⟨112, [(1, .ref 0 0)], [.box (c_TRouter a0)]⟩ ?_)
 refine then_n (awp_seq (rg0 [1, 3] 1 ⟨112, [(1, .ref 0 0), (3, sL 2 c_TRouteMap a0.fMaps)], [.box (c_TRouter a0)]⟩ ?_))
 refine then_n (awp_seq (awp_seq (rg0 [1, 3, 12] 1 ⟨112, [(1, .ref 0 0), (3, sL 2 c_TRouteMap a0.fMaps), (12, .bool (decide ((a0.fMaps.length : Int) > 8)))], [.box (c_TRouter a0)]⟩ ?_)))
 refine then_n ?_
 refine cnd (decide ((a0.fMaps.length : Int) > 8)) (fun b1 => ?_) (fun b1 => ?_)
 have h2 := cond_t b1 h
 refine awp_seq (rg0 [2] 0 ⟨112, [(2, .int .i64 7)], []⟩ ?_)
 refine then_n (awp_ret (then_r ?_))
 obtain rfl := Option.some.inj h2
 exact er0 (.int .i64 7)
 have h3 := cond_f b1 h
 refine awp_skip (then_n (awp_seq (awp_seq (rg0 [1, 3, 4] 1 ⟨112, [(1, .ref 0 0), (3, sL 2 c_TRouteMap a0.fMaps), (4, .int .i64 0)], [.box (c_TRouter a0)]⟩ ?_))))
 refine then_n (awp_block ?_)
 obtain ⟨y20, q78, h79⟩ := bind_some h3
 refine awp_le (s' := ⟨112, [(1, .ref 0 0), (3, sL 2 c_TRouteMap a0.fMaps), (4, .int .i64 0)], [.box (c_TRouter a0)]⟩) (le_rfl) ?_
 refine awp_mono (awp_loop (f := M.ref8_routeMaps_l1 a0) (S := fun (p1 : Int) => ⟨112, [(1, .ref 0 0), (3, sL 2 c_TRouteMap a0.fMaps), (4, .int .i64 p1)], [.box (c_TRouter a0)]⟩) (O := (Sum.elim (fun z => OutE 0 (fun z => ⟨112, [], []⟩) z) (fun z => OutR Try.prog Try.f41 (.int .i64 z)))) ?_ (x := 0) (y := y20) (loopM_iter q78)) ?_
 intro p1 y2 h4
 unfold M.ref8_routeMaps_l1 at h4
 refine awp_seq (awp_seq (rg0 [1, 3, 4, 16] 1 ⟨112, [(1, .ref 0 0), (3, sL 2 c_TRouteMap a0.fMaps), (4, .int .i64 p1), (16, .bool (decide (p1 < (a0.fMaps.length : Int))))], [.box (c_TRouter a0)]⟩ ?_))
 refine then_n ?_
 refine cnd (decide (p1 < (a0.fMaps.length : Int))) (fun b5 => ?_) (fun b5 => ?_)
 have h6 := cond_t b5 h4
 refine awp_skip (then_n (awp_seq (awp_block (awp_seq (awp_seq ?_)))))
 obtain ⟨r3, q8, h9⟩ := bind_some h6
 obtain ⟨c10, h11⟩ := gd_some h9
 refine rg [.pure (.bool r3)] [1, 3, 4, 25] 1 ⟨112, [(1, .ref 0 0), (3, sL 2 c_TRouteMap a0.fMaps), (4, .int .i64 p1), (25, .bool (!r3))], [.box (c_TRouter a0)]⟩ [decide (0 ≤ p1), decide (p1 < (a0.fMaps.length : Int))] [⟨true, 37, [.str ((a0.fMaps.getD p1.toNat default).fName)], .pure (.bool r3)⟩] c10 ⟨fun _ => ref4_Name_ok ((a0.fMaps.getD p1.toNat default).fName) r3 q8, trivial⟩ ?_
 refine then_n ?_
 refine cnd (!r3) (fun b12 => ?_) (fun b12 => ?_)
 have h13 := cond_t b12 h11
 refine awp_seq (rg0 [2] 0 ⟨112, [(2, .int .i64 3)], []⟩ ?_)
 refine then_n (awp_ret (then_r (inb_r (then_r ?_))))
 obtain rfl := Option.some.inj h13
 exact round_r ⟨rfl, er0 (.int .i64 3)⟩
 have h14 := cond_f b12 h11
 refine awp_skip (then_n (awp_seq (awp_seq (rg0 [1, 3, 4, 5] 1 ⟨112, [(1, .ref 0 0), (3, sL 2 c_TRouteMap a0.fMaps), (4, .int .i64 p1), (5, .int .i64 0)], [.box (c_TRouter a0)]⟩ ?_))))
 refine then_n (awp_block ?_)
 obtain ⟨y6, q24, h25⟩ := bind_some h14
 refine awp_le (s' := ⟨112, [(1, .ref 0 0), (3, sL 2 c_TRouteMap a0.fMaps), (4, .int .i64 p1), (5, .int .i64 0)], [.box (c_TRouter a0)]⟩) (le_rfl) ?_
 refine awp_mono (awp_loop (f := M.ref8_routeMaps_l2 a0 p1) (S := fun (p4 : Int) => ⟨112, [(1, .ref 0 0), (3, sL 2 c_TRouteMap a0.fMaps), (4, .int .i64 p1), (5, .int .i64 p4)], [.box (c_TRouter a0)]⟩) (O := (Sum.elim (fun z => OutE 2 (fun z => ⟨112, [(1, .ref 0 0), (3, sL 2 c_TRouteMap a0.fMaps), (4, .int .i64 p1)], [.box (c_TRouter a0)]⟩) z) (fun z => OutR Try.prog Try.f41 (.int .i64 z)))) ?_ (x := 0) (y := y6) (loopM_iter q24)) ?_
 intro p4 y5 h15
 unfold M.ref8_routeMaps_l2 at h15
 refine awp_seq (awp_seq (rg0 [1, 3, 4, 5, 28] 1 ⟨112, [(1, .ref 0 0), (3, sL 2 c_TRouteMap a0.fMaps), (4, .int .i64 p1), (5, .int .i64 p4), (28, .bool (decide (p4 < p1)))], [.box (c_TRouter a0)]⟩ ?_))
 refine then_n ?_
 refine cnd (decide (p4 < p1)) (fun b16 => ?_) (fun b16 => ?_)
 have h17 := cond_t b16 h15
 refine awp_skip (then_n (awp_seq (awp_block (awp_seq ?_))))
 obtain ⟨c19, h20⟩ := gd_some h17
 refine rgc [1, 3, 4, 5, 41] 1 ⟨112, [(1, .ref 0 0), (3, sL 2 c_TRouteMap a0.fMaps), (4, .int .i64 p1), (5, .int .i64 p4), (41, .bool (strEq ((a0.fMaps.getD p4.toNat default).fName) ((a0.fMaps.getD p1.toNat default).fName)))], [.box (c_TRouter a0)]⟩ [decide (0 ≤ p4), decide (p4 < (a0.fMaps.length : Int)), decide (0 ≤ p1), decide (p1 < (a0.fMaps.length : Int))] c19 ?_
 refine then_n ?_
 refine cnd (strEq ((a0.fMaps.getD p4.toNat default).fName) ((a0.fMaps.getD p1.toNat default).fName)) (fun b21 => ?_) (fun b21 => ?_)
 have h22 := cond_t b21 h20
 refine awp_seq (rg0 [2] 0 ⟨112, [(2, .int .i64 4)], []⟩ ?_)
 refine then_n (awp_ret (inb_r (then_r ?_)))
 obtain rfl := Option.some.inj h22
 exact round_r ⟨rfl, er0 (.int .i64 4)⟩
 have h23 := cond_f b21 h20
 refine awp_skip (inb_n (then_n (rg0 [1, 3, 4, 5] 1 ⟨112, [(1, .ref 0 0), (3, sL 2 c_TRouteMap a0.fMaps), (4, .int .i64 p1), (5, .int .i64 (wr .i64 (p4 + 1)))], [.box (c_TRouter a0)]⟩ ?_)))
 obtain rfl := Option.some.inj h23
 exact round_n (le_rfl)
 have h18 := cond_f b16 h15
 refine awp_exit (then_e ?_)
 obtain rfl := Option.some.inj h18
 exact round_e ⟨rfl, kp [1, 3, 4]⟩
 intro e26 s27 o28
 rcases y6 with g7 | y8
 have h29 := elim_l h25
 obtain ⟨rfl, l31⟩ := o28
 refine inb_here ?_
 refine then_le (s' := ⟨112, [(1, .ref 0 0), (3, sL 2 c_TRouteMap a0.fMaps), (4, .int .i64 p1)], [.box (c_TRouter a0)]⟩) (l31) ?_
 refine awp_seq (awp_seq ?_)
 obtain ⟨c32, h33⟩ := gd_some h29
 refine rgc [1, 3, 4, 48] 1 ⟨112, [(1, .ref 0 0), (3, sL 2 c_TRouteMap a0.fMaps), (4, .int .i64 p1), (48, .bool ((((a0.fMaps.getD p1.toNat default).fClauses).length : Int) == 0))], [.box (c_TRouter a0)]⟩ [decide (0 ≤ p1), decide (p1 < (a0.fMaps.length : Int))] c32 ?_
 refine then_n ?_
 refine cnd ((((a0.fMaps.getD p1.toNat default).fClauses).length : Int) == 0) (fun b34 => ?_) (fun b34 => ?_)
 have h35 := cond_t b34 h33
 refine awp_seq (rg0 [2] 0 ⟨112, [(2, .int .i64 1)], []⟩ ?_)
 refine then_n (awp_ret (then_r (inb_r (then_r ?_))))
 obtain rfl := Option.some.inj h35
 exact round_r ⟨rfl, er0 (.int .i64 1)⟩
 have h36 := cond_f b34 h33
 refine awp_skip (then_n (awp_seq (awp_seq ?_)))
 obtain ⟨c37, h38⟩ := gd_some h36
 refine rgc [1, 3, 4, 55] 1 ⟨112, [(1, .ref 0 0), (3, sL 2 c_TRouteMap a0.fMaps), (4, .int .i64 p1), (55, .bool (decide ((((a0.fMaps.getD p1.toNat default).fClauses).length : Int) > 8)))], [.box (c_TRouter a0)]⟩ [decide (0 ≤ p1), decide (p1 < (a0.fMaps.length : Int))] c37 ?_
 refine then_n ?_
 refine cnd (decide ((((a0.fMaps.getD p1.toNat default).fClauses).length : Int) > 8)) (fun b39 => ?_) (fun b39 => ?_)
 have h40 := cond_t b39 h38
 refine awp_seq (rg0 [2] 0 ⟨112, [(2, .int .i64 7)], []⟩ ?_)
 refine then_n (awp_ret (then_r (inb_r (then_r ?_))))
 obtain rfl := Option.some.inj h40
 exact round_r ⟨rfl, er0 (.int .i64 7)⟩
 have h41 := cond_f b39 h38
 refine awp_skip (then_n (awp_seq (rg0 [1, 3, 4, 6] 1 ⟨112, [(1, .ref 0 0), (3, sL 2 c_TRouteMap a0.fMaps), (4, .int .i64 p1), (6, .int .i64 0)], [.box (c_TRouter a0)]⟩ ?_)))
 refine then_n (awp_block ?_)
 obtain ⟨y17, q68, h69⟩ := bind_some h41
 refine awp_le (s' := ⟨112, [(1, .ref 0 0), (3, sL 2 c_TRouteMap a0.fMaps), (4, .int .i64 p1), (6, .int .i64 0)], [.box (c_TRouter a0)]⟩) (le_rfl) ?_
 refine awp_mono (awp_loop (f := M.ref8_routeMaps_l3 a0 p1) (S := fun (p9 : Int) => ⟨112, [(1, .ref 0 0), (3, sL 2 c_TRouteMap a0.fMaps), (4, .int .i64 p1), (6, .int .i64 p9)], [.box (c_TRouter a0)]⟩) (O := (Sum.elim (fun z => OutE 4 (fun z => ⟨112, [(1, .ref 0 0), (3, sL 2 c_TRouteMap a0.fMaps), (4, .int .i64 p1)], [.box (c_TRouter a0)]⟩) z) (fun z => OutR Try.prog Try.f41 (.int .i64 z)))) ?_ (x := 0) (y := y17) (loopM_iter q68)) ?_
 intro p9 y10 h42
 unfold M.ref8_routeMaps_l3 at h42
 refine awp_seq (awp_seq ?_)
 obtain ⟨c43, h44⟩ := gd_some h42
 refine rgc [1, 3, 4, 6, 63] 1 ⟨112, [(1, .ref 0 0), (3, sL 2 c_TRouteMap a0.fMaps), (4, .int .i64 p1), (6, .int .i64 p9), (63, .bool (decide (p9 < (((a0.fMaps.getD p1.toNat default).fClauses).length : Int))))], [.box (c_TRouter a0)]⟩ [decide (0 ≤ p1), decide (p1 < (a0.fMaps.length : Int))] c43 ?_
 refine then_n ?_
 refine cnd (decide (p9 < (((a0.fMaps.getD p1.toNat default).fClauses).length : Int))) (fun b45 => ?_) (fun b45 => ?_)
 have h46 := cond_t b45 h44
 refine awp_skip (then_n (awp_seq (awp_block (awp_seq ?_))))
 obtain ⟨c48, h49⟩ := gd_some h46
 refine rgc [1, 3, 4, 6, 7] 2 ⟨112, [(1, .ref 0 0), (3, sL 2 c_TRouteMap a0.fMaps), (4, .int .i64 p1), (6, .int .i64 p9), (7, .ref 1 0)], [.box (c_TRouter a0), .box (c_TClause (((a0.fMaps.getD p1.toNat default).fClauses).getD p9.toNat default))]⟩ [decide (0 ≤ p1), decide (p1 < (a0.fMaps.length : Int)), decide (0 ≤ p9), decide (p9 < (((a0.fMaps.getD p1.toNat default).fClauses).length : Int))] c48 ?_
 refine then_n (awp_seq (awp_seq ?_))
 obtain ⟨r11, q50, h51⟩ := bind_some h49
 refine rg [.pure (.int .i64 r11)] [1, 3, 4, 6, 7, 83] 2 ⟨112, [(1, .ref 0 0), (3, sL 2 c_TRouteMap a0.fMaps), (4, .int .i64 p1), (6, .int .i64 p9), (7, .ref 1 0), (83, .bool ((!strEq ((((a0.fMaps.getD p1.toNat default).fClauses).getD p9.toNat default).fList) (⟨#[]⟩ : ByteArray)) && (decide (r11 < 0))))], [.box (c_TRouter a0), .box (c_TClause (((a0.fMaps.getD p1.toNat default).fClauses).getD p9.toNat default))]⟩ [] [⟨!strEq ((((a0.fMaps.getD p1.toNat default).fClauses).getD p9.toNat default).fList) (⟨#[]⟩ : ByteArray), 72, [.agg (c_TRouter a0), .str ((((a0.fMaps.getD p1.toNat default).fClauses).getD p9.toNat default).fList)], .pure (.int .i64 r11)⟩] nil_all ⟨fun hg => ref8_PrefixList_ok a0 ((((a0.fMaps.getD p1.toNat default).fClauses).getD p9.toNat default).fList) r11 (gc_some q50 hg), trivial⟩ ?_
 refine then_n ?_
 refine cnd ((!strEq ((((a0.fMaps.getD p1.toNat default).fClauses).getD p9.toNat default).fList) (⟨#[]⟩ : ByteArray)) && (decide (r11 < 0))) (fun b52 => ?_) (fun b52 => ?_)
 have h53 := cond_t b52 h51
 refine awp_seq (rg0 [2] 0 ⟨112, [(2, .int .i64 5)], []⟩ ?_)
 refine then_n (awp_ret (then_r (inb_r (then_r ?_))))
 obtain rfl := Option.some.inj h53
 exact round_r ⟨rfl, er0 (.int .i64 5)⟩
 have h54 := cond_f b52 h51
 refine awp_skip (then_n (awp_seq ?_))
 obtain ⟨r12, q55, h56⟩ := bind_some h54
 obtain ⟨r13, q57, h58⟩ := bind_some h56
 obtain ⟨r14, q59, h60⟩ := bind_some h58
 obtain ⟨r15, q61, h62⟩ := bind_some h60
 obtain ⟨r16, q63, h64⟩ := bind_some h62
 refine rg [.pure (.bool r12), .pure (.bool r13), .pure (.bool r14), .pure (.bool r15), .pure (.bool r16)] [1, 3, 4, 6, 111] 1 ⟨112, [(1, .ref 0 0), (3, sL 2 c_TRouteMap a0.fMaps), (4, .int .i64 p1), (6, .int .i64 p9), (111, .bool (((((!r12) || (!r13)) || (!r14)) || (!r15)) || (!r16)))], [.box (c_TRouter a0)]⟩ [] [⟨true, 38, [.int .i64 ((((a0.fMaps.getD p1.toNat default).fClauses).getD p9.toNat default).fTag), .int .i64 (-1), .int .i64 65535], .pure (.bool r12)⟩, ⟨(!(!r12)), 38, [.int .i64 ((((a0.fMaps.getD p1.toNat default).fClauses).getD p9.toNat default).fSetTag), .int .i64 (-1), .int .i64 65535], .pure (.bool r13)⟩, ⟨(!((!r12) || (!r13))), 38, [.int .i64 ((((a0.fMaps.getD p1.toNat default).fClauses).getD p9.toNat default).fSetMetric), .int .i64 (-1), .int .i64 16777215], .pure (.bool r14)⟩, ⟨(!(((!r12) || (!r13)) || (!r14))), 38, [.int .i64 ((((a0.fMaps.getD p1.toNat default).fClauses).getD p9.toNat default).fSetPref), .int .i64 (-1), .int .i64 1000000], .pure (.bool r15)⟩, ⟨(!((((!r12) || (!r13)) || (!r14)) || (!r15))), 38, [.int .i64 ((((a0.fMaps.getD p1.toNat default).fClauses).getD p9.toNat default).fPrepend), .int .i64 0, .int .i64 8], .pure (.bool r16)⟩] nil_all ⟨fun _ => ref8_within_ok ((((a0.fMaps.getD p1.toNat default).fClauses).getD p9.toNat default).fTag) (-1) 65535 r12 q55, fun hg => ref8_within_ok ((((a0.fMaps.getD p1.toNat default).fClauses).getD p9.toNat default).fSetTag) (-1) 65535 r13 (gc_some q57 hg), fun hg => ref8_within_ok ((((a0.fMaps.getD p1.toNat default).fClauses).getD p9.toNat default).fSetMetric) (-1) 16777215 r14 (gc_some q59 hg), fun hg => ref8_within_ok ((((a0.fMaps.getD p1.toNat default).fClauses).getD p9.toNat default).fSetPref) (-1) 1000000 r15 (gc_some q61 hg), fun hg => ref8_within_ok ((((a0.fMaps.getD p1.toNat default).fClauses).getD p9.toNat default).fPrepend) 0 8 r16 (gc_some q63 hg), trivial⟩ ?_
 refine then_n ?_
 refine cnd (((((!r12) || (!r13)) || (!r14)) || (!r15)) || (!r16)) (fun b65 => ?_) (fun b65 => ?_)
 have h66 := cond_t b65 h64
 refine awp_seq (rg0 [2] 0 ⟨112, [(2, .int .i64 1)], []⟩ ?_)
 refine then_n (awp_ret (inb_r (then_r ?_)))
 obtain rfl := Option.some.inj h66
 exact round_r ⟨rfl, er0 (.int .i64 1)⟩
 have h67 := cond_f b65 h64
 refine awp_skip (inb_n (then_n (rg0 [1, 3, 4, 6] 1 ⟨112, [(1, .ref 0 0), (3, sL 2 c_TRouteMap a0.fMaps), (4, .int .i64 p1), (6, .int .i64 (wr .i64 (p9 + 1)))], [.box (c_TRouter a0)]⟩ ?_)))
 obtain rfl := Option.some.inj h67
 exact round_n (le_rfl)
 have h47 := cond_f b45 h44
 refine awp_exit (then_e ?_)
 obtain rfl := Option.some.inj h47
 exact round_e ⟨rfl, kp [1, 3, 4]⟩
 intro e70 s71 o72
 rcases y17 with g18 | y19
 have h73 := elim_l h69
 obtain ⟨rfl, l75⟩ := o72
 refine inb_here (inb_n ?_)
 refine then_le (s' := ⟨112, [(1, .ref 0 0), (3, sL 2 c_TRouteMap a0.fMaps), (4, .int .i64 p1)], [.box (c_TRouter a0)]⟩) (l75) ?_
 refine rg0 [1, 3, 4] 1 ⟨112, [(1, .ref 0 0), (3, sL 2 c_TRouteMap a0.fMaps), (4, .int .i64 (wr .i64 (p1 + 1)))], [.box (c_TRouter a0)]⟩ ?_
 obtain rfl := Option.some.inj h73
 exact round_n (le_rfl)
 have h74 := elim_r h69
 obtain ⟨rfl, n76⟩ := o72
 refine inb_r (inb_r (then_r ?_))
 obtain rfl := Option.some.inj h74
 exact round_r ⟨rfl, n76⟩
 have h30 := elim_r h25
 obtain ⟨rfl, n77⟩ := o28
 refine inb_r (then_r (inb_r (then_r ?_)))
 obtain rfl := Option.some.inj h30
 exact round_r ⟨rfl, n77⟩
 have h7 := cond_f b5 h4
 refine awp_exit (then_e ?_)
 obtain rfl := Option.some.inj h7
 exact round_e ⟨rfl, Le.trans (s' := ⟨112, [], [.box (c_TRouter a0)]⟩) (kp []) (le_cut (n := 0) (by kernel_rfl))⟩
 intro e80 s81 o82
 rcases y20 with g21 | y22
 have h83 := elim_l h79
 obtain ⟨rfl, l85⟩ := o82
 refine inb_here ?_
 refine then_le (s' := ⟨112, [], []⟩) (l85) ?_
 refine awp_seq (rg0 [2] 0 ⟨112, [(2, .int .i64 0)], []⟩ ?_)
 refine then_n (awp_ret ?_)
 obtain rfl := Option.some.inj h83
 exact er0 (.int .i64 0)
 have h84 := elim_r h79
 obtain ⟨rfl, n86⟩ := o82
 refine inb_r (then_r ?_)
 obtain rfl := Option.some.inj h84
 exact n86
theorem ref8_ports_ok (a0 : TPortRange) (r : Bool) (h : M.ref8_ports a0 = some r) : Fn Try.prog 89 [.agg (c_TPortRange a0)] (.pure (.bool r)) := by
 unfold M.ref8_ports at h
 refine fn_pure Try.func89 rfl (by kernel_rfl) ?_
 refine awp_seq (rg0 [1] 1 ⟨18, [(1, .ref 0 0)], [.box (c_TPortRange a0)]⟩ ?_)
 refine then_n (awp_seq (rg0 [2] 0 ⟨18, [(2, .bool (((decide (0 ≤ a0.fLo)) && (decide (a0.fLo ≤ a0.fHi))) && (decide (a0.fHi ≤ 65535))))], []⟩ ?_))
 refine then_n (awp_ret ?_)
 obtain rfl := Option.some.inj h
 exact er0 (.bool (((decide (0 ≤ a0.fLo)) && (decide (a0.fLo ≤ a0.fHi))) && (decide (a0.fHi ≤ 65535))))
theorem ref8_all_ok (a0 : TPortRange) (r : Bool) (h : M.ref8_all a0 = some r) : Fn Try.prog 90 [.agg (c_TPortRange a0)] (.pure (.bool r)) := by
 unfold M.ref8_all at h
 refine fn_pure Try.func90 rfl (by kernel_rfl) ?_
 refine awp_seq (rg0 [1] 1 ⟨6, [(1, .ref 0 0)], [.box (c_TPortRange a0)]⟩ ?_)
 refine then_n (awp_seq (rg0 [2] 0 ⟨6, [(2, .bool ((a0.fLo == 0) && ((a0.fHi == 65535) && true)))], []⟩ ?_))
 refine then_n (awp_ret ?_)
 obtain rfl := Option.some.inj h
 exact er0 (.bool ((a0.fLo == 0) && ((a0.fHi == 65535) && true)))
theorem ref8_ValidRule_ok (a0 : TRule) (r : Bool) (h : M.ref8_ValidRule a0 = some r) : Fn Try.prog 73 [.agg (c_TRule a0)] (.pure (.bool r)) := by
 unfold M.ref8_ValidRule at h
 refine fn_pure Try.func73 rfl (by kernel_rfl) ?_
 refine awp_seq (rg0 [1] 1 ⟨57, [(1, .ref 0 0)], [.box (c_TRule a0)]⟩ ?_)
 refine then_n (awp_seq (awp_seq ?_))
 obtain ⟨r1, q1, h2⟩ := bind_some h
 obtain ⟨r2, q3, h4⟩ := bind_some h2
 obtain ⟨r3, q5, h6⟩ := bind_some h4
 refine rg [.pure (.bool r1), .pure (.bool r2), .pure (.bool r3)] [1, 38] 1 ⟨57, [(1, .ref 0 0), (38, .bool (((((!r1) || ((bitD .and .u32 a0.fSrc.fAddr a0.fSrc.fMask) != 0)) || ((bitD .and .u32 a0.fDst.fAddr a0.fDst.fMask) != 0)) || (!r2)) || (!r3)))], [.box (c_TRule a0)]⟩ [] [⟨true, 38, [.int .i64 a0.fProto, .int .i64 (-1), .int .i64 255], .pure (.bool r1)⟩, ⟨(!(((!r1) || ((bitD .and .u32 a0.fSrc.fAddr a0.fSrc.fMask) != 0)) || ((bitD .and .u32 a0.fDst.fAddr a0.fDst.fMask) != 0))), 89, [.agg (c_TPortRange a0.fSrcPorts)], .pure (.bool r2)⟩, ⟨(!((((!r1) || ((bitD .and .u32 a0.fSrc.fAddr a0.fSrc.fMask) != 0)) || ((bitD .and .u32 a0.fDst.fAddr a0.fDst.fMask) != 0)) || (!r2))), 89, [.agg (c_TPortRange a0.fDstPorts)], .pure (.bool r3)⟩] nil_all ⟨fun _ => ref8_within_ok a0.fProto (-1) 255 r1 q1, fun hg => ref8_ports_ok a0.fSrcPorts r2 (gc_some q3 hg), fun hg => ref8_ports_ok a0.fDstPorts r3 (gc_some q5 hg), trivial⟩ ?_
 refine then_n ?_
 refine cnd (((((!r1) || ((bitD .and .u32 a0.fSrc.fAddr a0.fSrc.fMask) != 0)) || ((bitD .and .u32 a0.fDst.fAddr a0.fDst.fMask) != 0)) || (!r2)) || (!r3)) (fun b7 => ?_) (fun b7 => ?_)
 have h8 := cond_t b7 h6
 refine awp_seq (rg0 [2] 0 ⟨57, [(2, .bool false)], []⟩ ?_)
 refine then_n (awp_ret (then_r ?_))
 obtain rfl := Option.some.inj h8
 exact er0 (.bool false)
 have h9 := cond_f b7 h6
 refine awp_skip (then_n (awp_seq ?_))
 obtain ⟨r4, q10, h11⟩ := bind_some h9
 obtain ⟨r5, q12, h13⟩ := bind_some h11
 refine rg [.pure (.bool r4), .pure (.bool r5)] [2] 0 ⟨57, [(2, .bool (((a0.fProto == 6) || (a0.fProto == 17)) || (r4 && r5)))], []⟩ [] [⟨(!((a0.fProto == 6) || (a0.fProto == 17))), 90, [.agg (c_TPortRange a0.fSrcPorts)], .pure (.bool r4)⟩, ⟨((!((a0.fProto == 6) || (a0.fProto == 17))) && r4), 90, [.agg (c_TPortRange a0.fDstPorts)], .pure (.bool r5)⟩] nil_all ⟨fun hg => ref8_all_ok a0.fSrcPorts r4 (gc_some q10 hg), fun hg => ref8_all_ok a0.fDstPorts r5 (gc_some q12 hg), trivial⟩ ?_
 refine then_n (awp_ret ?_)
 obtain rfl := Option.some.inj h13
 exact er0 (.bool (((a0.fProto == 6) || (a0.fProto == 17)) || (r4 && r5)))
theorem ref8_accessLists_ok (a0 : List TACL) (r : Int) (h : M.ref8_accessLists a0 = some r) : Fn Try.prog 42 [sL 2 c_TACL a0] (.pure (.int .i64 r)) := by
 unfold M.ref8_accessLists at h
 refine fn_pure Try.func42 rfl (by kernel_rfl) ?_
 refine awp_seq (rg0 [0] 0 ⟨72, [(0, sL 2 c_TACL a0)], []⟩ ?_)
 refine then_n (awp_seq (awp_seq (rg0 [0, 8] 0 ⟨72, [(0, sL 2 c_TACL a0), (8, .bool (decide ((a0.length : Int) > 8)))], []⟩ ?_)))
 refine then_n ?_
 refine cnd (decide ((a0.length : Int) > 8)) (fun b1 => ?_) (fun b1 => ?_)
 have h2 := cond_t b1 h
 refine awp_seq (rg0 [2] 0 ⟨72, [(2, .int .i64 7)], []⟩ ?_)
 refine then_n (awp_ret (then_r ?_))
 obtain rfl := Option.some.inj h2
 exact er0 (.int .i64 7)
 have h3 := cond_f b1 h
 refine awp_skip (then_n (awp_seq (awp_seq (rg0 [0, 3] 0 ⟨72, [(0, sL 2 c_TACL a0), (3, .int .i64 0)], []⟩ ?_))))
 refine then_n (awp_block ?_)
 obtain ⟨y15, q65, h66⟩ := bind_some h3
 refine awp_le (s' := ⟨72, [(0, sL 2 c_TACL a0), (3, .int .i64 0)], []⟩) (le_rfl) ?_
 refine awp_mono (awp_loop (f := M.ref8_accessLists_l1 a0) (S := fun (p1 : Int) => ⟨72, [(0, sL 2 c_TACL a0), (3, .int .i64 p1)], []⟩) (O := (Sum.elim (fun z => OutE 0 (fun z => ⟨72, [], []⟩) z) (fun z => OutR Try.prog Try.f42 (.int .i64 z)))) ?_ (x := 0) (y := y15) (loopM_iter q65)) ?_
 intro p1 y2 h4
 unfold M.ref8_accessLists_l1 at h4
 refine awp_seq (awp_seq (rg0 [0, 3, 12] 0 ⟨72, [(0, sL 2 c_TACL a0), (3, .int .i64 p1), (12, .bool (decide (p1 < (a0.length : Int))))], []⟩ ?_))
 refine then_n ?_
 refine cnd (decide (p1 < (a0.length : Int))) (fun b5 => ?_) (fun b5 => ?_)
 have h6 := cond_t b5 h4
 refine awp_skip (then_n (awp_seq (awp_block (awp_seq (awp_seq ?_)))))
 obtain ⟨r3, q8, h9⟩ := bind_some h6
 obtain ⟨c10, h11⟩ := gd_some h9
 refine rg [.pure (.bool r3)] [0, 3, 21] 0 ⟨72, [(0, sL 2 c_TACL a0), (3, .int .i64 p1), (21, .bool (!r3))], []⟩ [decide (0 ≤ p1), decide (p1 < (a0.length : Int))] [⟨true, 37, [.str ((a0.getD p1.toNat default).fName)], .pure (.bool r3)⟩] c10 ⟨fun _ => ref4_Name_ok ((a0.getD p1.toNat default).fName) r3 q8, trivial⟩ ?_
 refine then_n ?_
 refine cnd (!r3) (fun b12 => ?_) (fun b12 => ?_)
 have h13 := cond_t b12 h11
 refine awp_seq (rg0 [2] 0 ⟨72, [(2, .int .i64 3)], []⟩ ?_)
 refine then_n (awp_ret (then_r (inb_r (then_r ?_))))
 obtain rfl := Option.some.inj h13
 exact round_r ⟨rfl, er0 (.int .i64 3)⟩
 have h14 := cond_f b12 h11
 refine awp_skip (then_n (awp_seq (awp_seq (rg0 [0, 3, 4] 0 ⟨72, [(0, sL 2 c_TACL a0), (3, .int .i64 p1), (4, .int .i64 0)], []⟩ ?_))))
 refine then_n (awp_block ?_)
 obtain ⟨y6, q24, h25⟩ := bind_some h14
 refine awp_le (s' := ⟨72, [(0, sL 2 c_TACL a0), (3, .int .i64 p1), (4, .int .i64 0)], []⟩) (le_rfl) ?_
 refine awp_mono (awp_loop (f := M.ref8_accessLists_l2 a0 p1) (S := fun (p4 : Int) => ⟨72, [(0, sL 2 c_TACL a0), (3, .int .i64 p1), (4, .int .i64 p4)], []⟩) (O := (Sum.elim (fun z => OutE 2 (fun z => ⟨72, [(0, sL 2 c_TACL a0), (3, .int .i64 p1)], []⟩) z) (fun z => OutR Try.prog Try.f42 (.int .i64 z)))) ?_ (x := 0) (y := y6) (loopM_iter q24)) ?_
 intro p4 y5 h15
 unfold M.ref8_accessLists_l2 at h15
 refine awp_seq (awp_seq (rg0 [0, 3, 4, 24] 0 ⟨72, [(0, sL 2 c_TACL a0), (3, .int .i64 p1), (4, .int .i64 p4), (24, .bool (decide (p4 < p1)))], []⟩ ?_))
 refine then_n ?_
 refine cnd (decide (p4 < p1)) (fun b16 => ?_) (fun b16 => ?_)
 have h17 := cond_t b16 h15
 refine awp_skip (then_n (awp_seq (awp_block (awp_seq ?_))))
 obtain ⟨c19, h20⟩ := gd_some h17
 refine rgc [0, 3, 4, 37] 0 ⟨72, [(0, sL 2 c_TACL a0), (3, .int .i64 p1), (4, .int .i64 p4), (37, .bool (strEq ((a0.getD p4.toNat default).fName) ((a0.getD p1.toNat default).fName)))], []⟩ [decide (0 ≤ p4), decide (p4 < (a0.length : Int)), decide (0 ≤ p1), decide (p1 < (a0.length : Int))] c19 ?_
 refine then_n ?_
 refine cnd (strEq ((a0.getD p4.toNat default).fName) ((a0.getD p1.toNat default).fName)) (fun b21 => ?_) (fun b21 => ?_)
 have h22 := cond_t b21 h20
 refine awp_seq (rg0 [2] 0 ⟨72, [(2, .int .i64 4)], []⟩ ?_)
 refine then_n (awp_ret (inb_r (then_r ?_)))
 obtain rfl := Option.some.inj h22
 exact round_r ⟨rfl, er0 (.int .i64 4)⟩
 have h23 := cond_f b21 h20
 refine awp_skip (inb_n (then_n (rg0 [0, 3, 4] 0 ⟨72, [(0, sL 2 c_TACL a0), (3, .int .i64 p1), (4, .int .i64 (wr .i64 (p4 + 1)))], []⟩ ?_)))
 obtain rfl := Option.some.inj h23
 exact round_n (le_rfl)
 have h18 := cond_f b16 h15
 refine awp_exit (then_e ?_)
 obtain rfl := Option.some.inj h18
 exact round_e ⟨rfl, kp [0, 3]⟩
 intro e26 s27 o28
 rcases y6 with g7 | y8
 have h29 := elim_l h25
 obtain ⟨rfl, l31⟩ := o28
 refine inb_here ?_
 refine then_le (s' := ⟨72, [(0, sL 2 c_TACL a0), (3, .int .i64 p1)], []⟩) (l31) ?_
 refine awp_seq (awp_seq ?_)
 obtain ⟨c32, h33⟩ := gd_some h29
 refine rgc [0, 3, 44] 0 ⟨72, [(0, sL 2 c_TACL a0), (3, .int .i64 p1), (44, .bool ((((a0.getD p1.toNat default).fRules).length : Int) == 0))], []⟩ [decide (0 ≤ p1), decide (p1 < (a0.length : Int))] c32 ?_
 refine then_n ?_
 refine cnd ((((a0.getD p1.toNat default).fRules).length : Int) == 0) (fun b34 => ?_) (fun b34 => ?_)
 have h35 := cond_t b34 h33
 refine awp_seq (rg0 [2] 0 ⟨72, [(2, .int .i64 1)], []⟩ ?_)
 refine then_n (awp_ret (then_r (inb_r (then_r ?_))))
 obtain rfl := Option.some.inj h35
 exact round_r ⟨rfl, er0 (.int .i64 1)⟩
 have h36 := cond_f b34 h33
 refine awp_skip (then_n (awp_seq (awp_seq ?_)))
 obtain ⟨c37, h38⟩ := gd_some h36
 refine rgc [0, 3, 51] 0 ⟨72, [(0, sL 2 c_TACL a0), (3, .int .i64 p1), (51, .bool (decide ((((a0.getD p1.toNat default).fRules).length : Int) > 16)))], []⟩ [decide (0 ≤ p1), decide (p1 < (a0.length : Int))] c37 ?_
 refine then_n ?_
 refine cnd (decide ((((a0.getD p1.toNat default).fRules).length : Int) > 16)) (fun b39 => ?_) (fun b39 => ?_)
 have h40 := cond_t b39 h38
 refine awp_seq (rg0 [2] 0 ⟨72, [(2, .int .i64 7)], []⟩ ?_)
 refine then_n (awp_ret (then_r (inb_r (then_r ?_))))
 obtain rfl := Option.some.inj h40
 exact round_r ⟨rfl, er0 (.int .i64 7)⟩
 have h41 := cond_f b39 h38
 refine awp_skip (then_n (awp_seq (rg0 [0, 3, 5] 0 ⟨72, [(0, sL 2 c_TACL a0), (3, .int .i64 p1), (5, .int .i64 0)], []⟩ ?_)))
 refine then_n (awp_block ?_)
 obtain ⟨y12, q55, h56⟩ := bind_some h41
 refine awp_le (s' := ⟨72, [(0, sL 2 c_TACL a0), (3, .int .i64 p1), (5, .int .i64 0)], []⟩) (le_rfl) ?_
 refine awp_mono (awp_loop (f := M.ref8_accessLists_l3 a0 p1) (S := fun (p9 : Int) => ⟨72, [(0, sL 2 c_TACL a0), (3, .int .i64 p1), (5, .int .i64 p9)], []⟩) (O := (Sum.elim (fun z => OutE 4 (fun z => ⟨72, [(0, sL 2 c_TACL a0), (3, .int .i64 p1)], []⟩) z) (fun z => OutR Try.prog Try.f42 (.int .i64 z)))) ?_ (x := 0) (y := y12) (loopM_iter q55)) ?_
 intro p9 y10 h42
 unfold M.ref8_accessLists_l3 at h42
 refine awp_seq (awp_seq ?_)
 obtain ⟨c43, h44⟩ := gd_some h42
 refine rgc [0, 3, 5, 59] 0 ⟨72, [(0, sL 2 c_TACL a0), (3, .int .i64 p1), (5, .int .i64 p9), (59, .bool (decide (p9 < (((a0.getD p1.toNat default).fRules).length : Int))))], []⟩ [decide (0 ≤ p1), decide (p1 < (a0.length : Int))] c43 ?_
 refine then_n ?_
 refine cnd (decide (p9 < (((a0.getD p1.toNat default).fRules).length : Int))) (fun b45 => ?_) (fun b45 => ?_)
 have h46 := cond_t b45 h44
 refine awp_skip (then_n (awp_seq (awp_block (awp_seq ?_))))
 obtain ⟨r11, q48, h49⟩ := bind_some h46
 obtain ⟨c50, h51⟩ := gd_some h49
 refine rg [.pure (.bool r11)] [0, 3, 5, 71] 0 ⟨72, [(0, sL 2 c_TACL a0), (3, .int .i64 p1), (5, .int .i64 p9), (71, .bool (!r11))], []⟩ [decide (0 ≤ p1), decide (p1 < (a0.length : Int)), decide (0 ≤ p9), decide (p9 < (((a0.getD p1.toNat default).fRules).length : Int))] [⟨true, 73, [.agg (c_TRule (((a0.getD p1.toNat default).fRules).getD p9.toNat default))], .pure (.bool r11)⟩] c50 ⟨fun _ => ref8_ValidRule_ok (((a0.getD p1.toNat default).fRules).getD p9.toNat default) r11 q48, trivial⟩ ?_
 refine then_n ?_
 refine cnd (!r11) (fun b52 => ?_) (fun b52 => ?_)
 have h53 := cond_t b52 h51
 refine awp_seq (rg0 [2] 0 ⟨72, [(2, .int .i64 1)], []⟩ ?_)
 refine then_n (awp_ret (inb_r (then_r ?_)))
 obtain rfl := Option.some.inj h53
 exact round_r ⟨rfl, er0 (.int .i64 1)⟩
 have h54 := cond_f b52 h51
 refine awp_skip (inb_n (then_n (rg0 [0, 3, 5] 0 ⟨72, [(0, sL 2 c_TACL a0), (3, .int .i64 p1), (5, .int .i64 (wr .i64 (p9 + 1)))], []⟩ ?_)))
 obtain rfl := Option.some.inj h54
 exact round_n (le_rfl)
 have h47 := cond_f b45 h44
 refine awp_exit (then_e ?_)
 obtain rfl := Option.some.inj h47
 exact round_e ⟨rfl, kp [0, 3]⟩
 intro e57 s58 o59
 rcases y12 with g13 | y14
 have h60 := elim_l h56
 obtain ⟨rfl, l62⟩ := o59
 refine inb_here (inb_n ?_)
 refine then_le (s' := ⟨72, [(0, sL 2 c_TACL a0), (3, .int .i64 p1)], []⟩) (l62) ?_
 refine rg0 [0, 3] 0 ⟨72, [(0, sL 2 c_TACL a0), (3, .int .i64 (wr .i64 (p1 + 1)))], []⟩ ?_
 obtain rfl := Option.some.inj h60
 exact round_n (le_rfl)
 have h61 := elim_r h56
 obtain ⟨rfl, n63⟩ := o59
 refine inb_r (inb_r (then_r ?_))
 obtain rfl := Option.some.inj h61
 exact round_r ⟨rfl, n63⟩
 have h30 := elim_r h25
 obtain ⟨rfl, n64⟩ := o28
 refine inb_r (then_r (inb_r (then_r ?_)))
 obtain rfl := Option.some.inj h30
 exact round_r ⟨rfl, n64⟩
 have h7 := cond_f b5 h4
 refine awp_exit (then_e ?_)
 obtain rfl := Option.some.inj h7
 exact round_e ⟨rfl, kp []⟩
 intro e67 s68 o69
 rcases y15 with g16 | y17
 have h70 := elim_l h66
 obtain ⟨rfl, l72⟩ := o69
 refine inb_here ?_
 refine then_le (s' := ⟨72, [], []⟩) (l72) ?_
 refine awp_seq (rg0 [2] 0 ⟨72, [(2, .int .i64 0)], []⟩ ?_)
 refine then_n (awp_ret ?_)
 obtain rfl := Option.some.inj h70
 exact er0 (.int .i64 0)
 have h71 := elim_r h66
 obtain ⟨rfl, n73⟩ := o69
 refine inb_r (then_r ?_)
 obtain rfl := Option.some.inj h71
 exact n73
theorem ref8_ACL_ok (a0 : TRouter) (a1 : ByteArray) (r : Int) (h : M.ref8_ACL a0 a1 = some r) : Fn Try.prog 74 [.agg (c_TRouter a0), .str a1] (.pure (.int .i64 r)) := by
 unfold M.ref8_ACL at h
 refine fn_pure Try.func74 rfl (by kernel_rfl) ?_
 refine awp_seq (rg0 [1, 2] 1 ⟨22, [(1, .str a1), (2, .ref 0 0)], [.box (c_TRouter a0)]⟩ ?_)
 refine then_n (awp_seq (awp_seq (rg0 [1, 2, 5] 1 ⟨22, [(1, .str a1), (2, .ref 0 0), (5, .int .i64 0)], [.box (c_TRouter a0)]⟩ ?_)))
 refine then_n (awp_block ?_)
 obtain ⟨y3, q10, h11⟩ := bind_some h
 refine awp_le (s' := ⟨22, [(1, .str a1), (2, .ref 0 0), (5, .int .i64 0)], [.box (c_TRouter a0)]⟩) (le_rfl) ?_
 refine awp_mono (awp_loop (f := M.ref8_ACL_l1 a0 a1) (S := fun (p1 : Int) => ⟨22, [(1, .str a1), (2, .ref 0 0), (5, .int .i64 p1)], [.box (c_TRouter a0)]⟩) (O := (Sum.elim (fun z => OutE 0 (fun z => ⟨22, [], []⟩) z) (fun z => OutR Try.prog Try.f74 (.int .i64 z)))) ?_ (x := 0) (y := y3) (loopM_iter q10)) ?_
 intro p1 y2 h1
 unfold M.ref8_ACL_l1 at h1
 refine awp_seq (awp_seq (rg0 [1, 2, 5, 10] 1 ⟨22, [(1, .str a1), (2, .ref 0 0), (5, .int .i64 p1), (10, .bool (decide (p1 < (a0.fACLs.length : Int))))], [.box (c_TRouter a0)]⟩ ?_))
 refine then_n ?_
 refine cnd (decide (p1 < (a0.fACLs.length : Int))) (fun b2 => ?_) (fun b2 => ?_)
 have h3 := cond_t b2 h1
 refine awp_skip (then_n (awp_seq (awp_block (awp_seq ?_))))
 obtain ⟨c5, h6⟩ := gd_some h3
 refine rgc [1, 2, 5, 20] 1 ⟨22, [(1, .str a1), (2, .ref 0 0), (5, .int .i64 p1), (20, .bool (strEq ((a0.fACLs.getD p1.toNat default).fName) a1))], [.box (c_TRouter a0)]⟩ [decide (0 ≤ p1), decide (p1 < (a0.fACLs.length : Int))] c5 ?_
 refine then_n ?_
 refine cnd (strEq ((a0.fACLs.getD p1.toNat default).fName) a1) (fun b7 => ?_) (fun b7 => ?_)
 have h8 := cond_t b7 h6
 refine awp_seq (rg0 [4] 0 ⟨22, [(4, .int .i64 p1)], []⟩ ?_)
 refine then_n (awp_ret (inb_r (then_r ?_)))
 obtain rfl := Option.some.inj h8
 exact round_r ⟨rfl, er0 (.int .i64 p1)⟩
 have h9 := cond_f b7 h6
 refine awp_skip (inb_n (then_n (rg0 [1, 2, 5] 1 ⟨22, [(1, .str a1), (2, .ref 0 0), (5, .int .i64 (wr .i64 (p1 + 1)))], [.box (c_TRouter a0)]⟩ ?_)))
 obtain rfl := Option.some.inj h9
 exact round_n (le_rfl)
 have h4 := cond_f b2 h1
 refine awp_exit (then_e ?_)
 obtain rfl := Option.some.inj h4
 exact round_e ⟨rfl, Le.trans (s' := ⟨22, [], [.box (c_TRouter a0)]⟩) (kp []) (le_cut (n := 0) (by kernel_rfl))⟩
 intro e12 s13 o14
 rcases y3 with g4 | y5
 have h15 := elim_l h11
 obtain ⟨rfl, l17⟩ := o14
 refine inb_here ?_
 refine then_le (s' := ⟨22, [], []⟩) (l17) ?_
 refine awp_seq (rg0 [4] 0 ⟨22, [(4, .int .i64 (-1))], []⟩ ?_)
 refine then_n (awp_ret ?_)
 obtain rfl := Option.some.inj h15
 exact er0 (.int .i64 (-1))
 have h16 := elim_r h11
 obtain ⟨rfl, n18⟩ := o14
 refine inb_r (then_r ?_)
 obtain rfl := Option.some.inj h16
 exact n18
theorem ref8_translations_ok (a0 : TRouter) (r : Int) (h : M.ref8_translations a0 = some r) : Fn Try.prog 43 [.agg (c_TRouter a0)] (.pure (.int .i64 r)) := by
 unfold M.ref8_translations at h
 refine fn_pure Try.func43 rfl (by kernel_rfl) ?_
 refine awp_seq (rg0 [1] 1 ⟨135, [(1, .ref 0 0)], [.box (c_TRouter a0)]⟩ ?_)
 refine then_n (awp_seq (awp_seq (rg0 [1, 9] 1 ⟨135, [(1, .ref 0 0), (9, .bool (decide ((a0.fNAT.length : Int) > 8)))], [.box (c_TRouter a0)]⟩ ?_)))
 refine then_n ?_
 refine cnd (decide ((a0.fNAT.length : Int) > 8)) (fun b1 => ?_) (fun b1 => ?_)
 have h2 := cond_t b1 h
 refine awp_seq (rg0 [2] 0 ⟨135, [(2, .int .i64 7)], []⟩ ?_)
 refine then_n (awp_ret (then_r ?_))
 obtain rfl := Option.some.inj h2
 exact er0 (.int .i64 7)
 have h3 := cond_f b1 h
 refine awp_skip (then_n (awp_seq (awp_seq (rg0 [1, 3] 1 ⟨135, [(1, .ref 0 0), (3, .int .i64 0)], [.box (c_TRouter a0)]⟩ ?_))))
 refine then_n (awp_block ?_)
 obtain ⟨y7, q33, h34⟩ := bind_some h3
 refine awp_le (s' := ⟨135, [(1, .ref 0 0), (3, .int .i64 0)], [.box (c_TRouter a0)]⟩) (le_rfl) ?_
 refine awp_mono (awp_loop (f := M.ref8_translations_l1 a0) (S := fun (p1 : Int) => ⟨135, [(1, .ref 0 0), (3, .int .i64 p1)], [.box (c_TRouter a0)]⟩) (O := (Sum.elim (fun z => OutE 0 (fun z => ⟨135, [], []⟩) z) (fun z => OutR Try.prog Try.f43 (.int .i64 z)))) ?_ (x := 0) (y := y7) (loopM_iter q33)) ?_
 intro p1 y2 h4
 unfold M.ref8_translations_l1 at h4
 refine awp_seq (awp_seq (rg0 [1, 3, 14] 1 ⟨135, [(1, .ref 0 0), (3, .int .i64 p1), (14, .bool (decide (p1 < (a0.fNAT.length : Int))))], [.box (c_TRouter a0)]⟩ ?_))
 refine then_n ?_
 refine cnd (decide (p1 < (a0.fNAT.length : Int))) (fun b5 => ?_) (fun b5 => ?_)
 have h6 := cond_t b5 h4
 refine awp_skip (then_n (awp_seq (awp_block (awp_seq ?_))))
 obtain ⟨c8, h9⟩ := gd_some h6
 refine rgc [1, 3, 4] 2 ⟨135, [(1, .ref 0 0), (3, .int .i64 p1), (4, .ref 1 0)], [.box (c_TRouter a0), .box (c_TTranslation (a0.fNAT.getD p1.toNat default))]⟩ [decide (0 ≤ p1), decide (p1 < (a0.fNAT.length : Int))] c8 ?_
 refine then_n (awp_seq (rg0 [1, 3, 4, 5] 2 ⟨135, [(1, .ref 0 0), (3, .int .i64 p1), (4, .ref 1 0), (5, .bool false)], [.box (c_TRouter a0), .box (c_TTranslation (a0.fNAT.getD p1.toNat default))]⟩ ?_))
 refine then_n ?_
 refine awp_join (fun (p3 : Bool) => ⟨135, [(1, .ref 0 0), (3, .int .i64 p1), (4, .ref 1 0), (5, .bool p3)], [.box (c_TRouter a0), .box (c_TTranslation (a0.fNAT.getD p1.toNat default))]⟩) (fun p3 => M.ref8_translations_k1 a0 p1 p3 = some y2) ?_ ?_
 intro p3 h11
 unfold M.ref8_translations_k1 at h11
 refine awp_seq (awp_seq (rg0 [1, 3, 4, 124] 2 ⟨135, [(1, .ref 0 0), (3, .int .i64 p1), (4, .ref 1 0), (124, .bool (!p3))], [.box (c_TRouter a0), .box (c_TTranslation (a0.fNAT.getD p1.toNat default))]⟩ ?_))
 refine then_n ?_
 refine cnd (!p3) (fun b12 => ?_) (fun b12 => ?_)
 have h13 := cond_t b12 h11
 refine awp_seq (rg0 [2] 0 ⟨135, [(2, .int .i64 1)], []⟩ ?_)
 refine then_n (awp_ret (then_r (inb_r (then_r ?_))))
 obtain rfl := Option.some.inj h13
 exact round_r ⟨rfl, er0 (.int .i64 1)⟩
 have h14 := cond_f b12 h11
 refine awp_skip (then_n (awp_seq ?_))
 obtain ⟨r4, q15, h16⟩ := bind_some h14
 refine rg [.pure (.int .i64 r4)] [1, 3, 134] 1 ⟨135, [(1, .ref 0 0), (3, .int .i64 p1), (134, .bool ((((a0.fNAT.getD p1.toNat default).fKind) == 2) && (decide (r4 < 0))))], [.box (c_TRouter a0)]⟩ [] [⟨((a0.fNAT.getD p1.toNat default).fKind) == 2, 74, [.agg (c_TRouter a0), .str ((a0.fNAT.getD p1.toNat default).fList)], .pure (.int .i64 r4)⟩] nil_all ⟨fun hg => ref8_ACL_ok a0 ((a0.fNAT.getD p1.toNat default).fList) r4 (gc_some q15 hg), trivial⟩ ?_
 refine then_n ?_
 refine cnd ((((a0.fNAT.getD p1.toNat default).fKind) == 2) && (decide (r4 < 0))) (fun b17 => ?_) (fun b17 => ?_)
 have h18 := cond_t b17 h16
 refine awp_seq (rg0 [2] 0 ⟨135, [(2, .int .i64 5)], []⟩ ?_)
 refine then_n (awp_ret (inb_r (then_r ?_)))
 obtain rfl := Option.some.inj h18
 exact round_r ⟨rfl, er0 (.int .i64 5)⟩
 have h19 := cond_f b17 h16
 refine awp_skip (inb_n (then_n (rg0 [1, 3] 1 ⟨135, [(1, .ref 0 0), (3, .int .i64 (wr .i64 (p1 + 1)))], [.box (c_TRouter a0)]⟩ ?_)))
 obtain rfl := Option.some.inj h19
 exact round_n (le_rfl)
 intro k10
 refine awp_seq (rg0 [1, 3, 4, 5, 23] 2 ⟨135, [(1, .ref 0 0), (3, .int .i64 p1), (4, .ref 1 0), (5, .bool false), (23, .int .i64 ((a0.fNAT.getD p1.toNat default).fKind))], [.box (c_TRouter a0), .box (c_TTranslation (a0.fNAT.getD p1.toNat default))]⟩ ?_)
 refine then_n (awp_block (awp_seq (rg0 [1, 3, 4, 5, 23, 24] 2 ⟨135, [(1, .ref 0 0), (3, .int .i64 p1), (4, .ref 1 0), (5, .bool false), (23, .int .i64 ((a0.fNAT.getD p1.toNat default).fKind)), (24, .bool (((a0.fNAT.getD p1.toNat default).fKind) == 1))], [.box (c_TRouter a0), .box (c_TTranslation (a0.fNAT.getD p1.toNat default))]⟩ ?_)))
 refine then_n ?_
 refine cnd (((a0.fNAT.getD p1.toNat default).fKind) == 1) (fun b20 => ?_) (fun b20 => ?_)
 have h21 := cond_t b20 h9
 refine rg0 [1, 3, 4, 5] 2 ⟨135, [(1, .ref 0 0), (3, .int .i64 p1), (4, .ref 1 0), (5, .bool (((((a0.fNAT.getD p1.toNat default).fInside) != 0) && (((a0.fNAT.getD p1.toNat default).fOutside) != 0)) && ((((a0.fNAT.getD p1.toNat default).fKind) == ((a0.fNAT.getD p1.toNat default).fKind)) && ((((a0.fNAT.getD p1.toNat default).fInside) == ((a0.fNAT.getD p1.toNat default).fInside)) && ((((a0.fNAT.getD p1.toNat default).fOutside) == ((a0.fNAT.getD p1.toNat default).fOutside)) && ((((a0.fNAT.getD p1.toNat default).fProto) == 0) && ((((a0.fNAT.getD p1.toNat default).fInsidePort) == 0) && ((((a0.fNAT.getD p1.toNat default).fOutsidePort) == 0) && (strEq ((a0.fNAT.getD p1.toNat default).fList) (⟨#[]⟩ : ByteArray) && ((((a0.fNAT.getD p1.toNat default).fLo) == 0) && ((((a0.fNAT.getD p1.toNat default).fHi) == 0) && true)))))))))))], [.box (c_TRouter a0), .box (c_TTranslation (a0.fNAT.getD p1.toNat default))]⟩ ?_
 refine inb_n ?_
 exact then_le (le_rfl) (k10 (((((a0.fNAT.getD p1.toNat default).fInside) != 0) && (((a0.fNAT.getD p1.toNat default).fOutside) != 0)) && ((((a0.fNAT.getD p1.toNat default).fKind) == ((a0.fNAT.getD p1.toNat default).fKind)) && ((((a0.fNAT.getD p1.toNat default).fInside) == ((a0.fNAT.getD p1.toNat default).fInside)) && ((((a0.fNAT.getD p1.toNat default).fOutside) == ((a0.fNAT.getD p1.toNat default).fOutside)) && ((((a0.fNAT.getD p1.toNat default).fProto) == 0) && ((((a0.fNAT.getD p1.toNat default).fInsidePort) == 0) && ((((a0.fNAT.getD p1.toNat default).fOutsidePort) == 0) && (strEq ((a0.fNAT.getD p1.toNat default).fList) (⟨#[]⟩ : ByteArray) && ((((a0.fNAT.getD p1.toNat default).fLo) == 0) && ((((a0.fNAT.getD p1.toNat default).fHi) == 0) && true)))))))))) h21)
 have h22 := cond_f b20 h9
 refine awp_seq (rg0 [1, 3, 4, 5, 23, 45] 2 ⟨135, [(1, .ref 0 0), (3, .int .i64 p1), (4, .ref 1 0), (5, .bool false), (23, .int .i64 ((a0.fNAT.getD p1.toNat default).fKind)), (45, .bool (((a0.fNAT.getD p1.toNat default).fKind) == 2))], [.box (c_TRouter a0), .box (c_TTranslation (a0.fNAT.getD p1.toNat default))]⟩ ?_)
 refine then_n ?_
 refine cnd (((a0.fNAT.getD p1.toNat default).fKind) == 2) (fun b23 => ?_) (fun b23 => ?_)
 have h24 := cond_t b23 h22
 refine rg0 [1, 3, 4, 5] 2 ⟨135, [(1, .ref 0 0), (3, .int .i64 p1), (4, .ref 1 0), (5, .bool ((((((a0.fNAT.getD p1.toNat default).fLo) != 0) && (decide (((a0.fNAT.getD p1.toNat default).fLo) ≤ ((a0.fNAT.getD p1.toNat default).fHi)))) && (decide ((wr .u32 (((a0.fNAT.getD p1.toNat default).fHi) - ((a0.fNAT.getD p1.toNat default).fLo))) < 8))) && ((((a0.fNAT.getD p1.toNat default).fKind) == ((a0.fNAT.getD p1.toNat default).fKind)) && ((((a0.fNAT.getD p1.toNat default).fInside) == 0) && ((((a0.fNAT.getD p1.toNat default).fOutside) == 0) && ((((a0.fNAT.getD p1.toNat default).fProto) == 0) && ((((a0.fNAT.getD p1.toNat default).fInsidePort) == 0) && ((((a0.fNAT.getD p1.toNat default).fOutsidePort) == 0) && (strEq ((a0.fNAT.getD p1.toNat default).fList) ((a0.fNAT.getD p1.toNat default).fList) && ((((a0.fNAT.getD p1.toNat default).fLo) == ((a0.fNAT.getD p1.toNat default).fLo)) && ((((a0.fNAT.getD p1.toNat default).fHi) == ((a0.fNAT.getD p1.toNat default).fHi)) && true)))))))))))], [.box (c_TRouter a0), .box (c_TTranslation (a0.fNAT.getD p1.toNat default))]⟩ ?_
 refine inb_n ?_
 exact then_le (le_rfl) (k10 ((((((a0.fNAT.getD p1.toNat default).fLo) != 0) && (decide (((a0.fNAT.getD p1.toNat default).fLo) ≤ ((a0.fNAT.getD p1.toNat default).fHi)))) && (decide ((wr .u32 (((a0.fNAT.getD p1.toNat default).fHi) - ((a0.fNAT.getD p1.toNat default).fLo))) < 8))) && ((((a0.fNAT.getD p1.toNat default).fKind) == ((a0.fNAT.getD p1.toNat default).fKind)) && ((((a0.fNAT.getD p1.toNat default).fInside) == 0) && ((((a0.fNAT.getD p1.toNat default).fOutside) == 0) && ((((a0.fNAT.getD p1.toNat default).fProto) == 0) && ((((a0.fNAT.getD p1.toNat default).fInsidePort) == 0) && ((((a0.fNAT.getD p1.toNat default).fOutsidePort) == 0) && (strEq ((a0.fNAT.getD p1.toNat default).fList) ((a0.fNAT.getD p1.toNat default).fList) && ((((a0.fNAT.getD p1.toNat default).fLo) == ((a0.fNAT.getD p1.toNat default).fLo)) && ((((a0.fNAT.getD p1.toNat default).fHi) == ((a0.fNAT.getD p1.toNat default).fHi)) && true)))))))))) h24)
 have h25 := cond_f b23 h22
 refine awp_seq (rg0 [1, 3, 4, 5, 78] 2 ⟨135, [(1, .ref 0 0), (3, .int .i64 p1), (4, .ref 1 0), (5, .bool false), (78, .bool (((a0.fNAT.getD p1.toNat default).fKind) == 3))], [.box (c_TRouter a0), .box (c_TTranslation (a0.fNAT.getD p1.toNat default))]⟩ ?_)
 refine then_n ?_
 refine cnd (((a0.fNAT.getD p1.toNat default).fKind) == 3) (fun b26 => ?_) (fun b26 => ?_)
 have h27 := cond_t b26 h25
 obtain ⟨r5, q29, h30⟩ := bind_some h27
 obtain ⟨r6, q31, h32⟩ := bind_some h30
 refine rg [.pure (.bool r5), .pure (.bool r6)] [1, 3, 4, 5] 2 ⟨135, [(1, .ref 0 0), (3, .int .i64 p1), (4, .ref 1 0), (5, .bool ((((((((((a0.fNAT.getD p1.toNat default).fInside) != 0) && (((a0.fNAT.getD p1.toNat default).fOutside) != 0)) && ((((a0.fNAT.getD p1.toNat default).fProto) == 6) || (((a0.fNAT.getD p1.toNat default).fProto) == 17))) && r5) && r6) && (strEq ((a0.fNAT.getD p1.toNat default).fList) (⟨#[]⟩ : ByteArray))) && (((a0.fNAT.getD p1.toNat default).fLo) == 0)) && (((a0.fNAT.getD p1.toNat default).fHi) == 0)))], [.box (c_TRouter a0), .box (c_TTranslation (a0.fNAT.getD p1.toNat default))]⟩ [] [⟨((((a0.fNAT.getD p1.toNat default).fInside) != 0) && (((a0.fNAT.getD p1.toNat default).fOutside) != 0)) && ((((a0.fNAT.getD p1.toNat default).fProto) == 6) || (((a0.fNAT.getD p1.toNat default).fProto) == 17)), 38, [.int .i64 ((a0.fNAT.getD p1.toNat default).fInsidePort), .int .i64 0, .int .i64 65535], .pure (.bool r5)⟩, ⟨(((((a0.fNAT.getD p1.toNat default).fInside) != 0) && (((a0.fNAT.getD p1.toNat default).fOutside) != 0)) && ((((a0.fNAT.getD p1.toNat default).fProto) == 6) || (((a0.fNAT.getD p1.toNat default).fProto) == 17))) && r5, 38, [.int .i64 ((a0.fNAT.getD p1.toNat default).fOutsidePort), .int .i64 0, .int .i64 65535], .pure (.bool r6)⟩] nil_all ⟨fun hg => ref8_within_ok ((a0.fNAT.getD p1.toNat default).fInsidePort) 0 65535 r5 (gc_some q29 hg), fun hg => ref8_within_ok ((a0.fNAT.getD p1.toNat default).fOutsidePort) 0 65535 r6 (gc_some q31 hg), trivial⟩ ?_
 refine inb_n ?_
 exact then_le (le_rfl) (k10 ((((((((((a0.fNAT.getD p1.toNat default).fInside) != 0) && (((a0.fNAT.getD p1.toNat default).fOutside) != 0)) && ((((a0.fNAT.getD p1.toNat default).fProto) == 6) || (((a0.fNAT.getD p1.toNat default).fProto) == 17))) && r5) && r6) && (strEq ((a0.fNAT.getD p1.toNat default).fList) (⟨#[]⟩ : ByteArray))) && (((a0.fNAT.getD p1.toNat default).fLo) == 0)) && (((a0.fNAT.getD p1.toNat default).fHi) == 0)) h32)
 have h28 := cond_f b26 h25
 refine awp_skip (inb_n ?_)
 exact then_le (kp [1, 3, 4, 5]) (k10 false h28)
 have h7 := cond_f b5 h4
 refine awp_exit (then_e ?_)
 obtain rfl := Option.some.inj h7
 exact round_e ⟨rfl, Le.trans (s' := ⟨135, [], [.box (c_TRouter a0)]⟩) (kp []) (le_cut (n := 0) (by kernel_rfl))⟩
 intro e35 s36 o37
 rcases y7 with g8 | y9
 have h38 := elim_l h34
 obtain ⟨rfl, l40⟩ := o37
 refine inb_here ?_
 refine then_le (s' := ⟨135, [], []⟩) (l40) ?_
 refine awp_seq (rg0 [2] 0 ⟨135, [(2, .int .i64 0)], []⟩ ?_)
 refine then_n (awp_ret ?_)
 obtain rfl := Option.some.inj h38
 exact er0 (.int .i64 0)
 have h39 := elim_r h34
 obtain ⟨rfl, n41⟩ := o37
 refine inb_r (then_r ?_)
 obtain rfl := Option.some.inj h39
 exact n41
theorem ref8_filters_ok (a0 : TRouter) (r : Int) (h : M.ref8_filters a0 = some r) : Fn Try.prog 44 [.agg (c_TRouter a0)] (.pure (.int .i64 r)) := by
 unfold M.ref8_filters at h
 refine fn_pure Try.func44 rfl (by kernel_rfl) ?_
 refine awp_seq (rg0 [1] 1 ⟨39, [(1, .ref 0 0)], [.box (c_TRouter a0)]⟩ ?_)
 refine then_n (awp_seq (awp_seq (rg0 [1, 3] 1 ⟨39, [(1, .ref 0 0), (3, .int .i64 0)], [.box (c_TRouter a0)]⟩ ?_)))
 refine then_n (awp_block ?_)
 obtain ⟨y5, q14, h15⟩ := bind_some h
 refine awp_le (s' := ⟨39, [(1, .ref 0 0), (3, .int .i64 0)], [.box (c_TRouter a0)]⟩) (le_rfl) ?_
 refine awp_mono (awp_loop (f := M.ref8_filters_l1 a0) (S := fun (p1 : Int) => ⟨39, [(1, .ref 0 0), (3, .int .i64 p1)], [.box (c_TRouter a0)]⟩) (O := (Sum.elim (fun z => OutE 0 (fun z => ⟨39, [], []⟩) z) (fun z => OutR Try.prog Try.f44 (.int .i64 z)))) ?_ (x := 0) (y := y5) (loopM_iter q14)) ?_
 intro p1 y2 h1
 unfold M.ref8_filters_l1 at h1
 refine awp_seq (awp_seq (rg0 [1, 3, 9] 1 ⟨39, [(1, .ref 0 0), (3, .int .i64 p1), (9, .bool (decide (p1 < (a0.fInterfaces.length : Int))))], [.box (c_TRouter a0)]⟩ ?_))
 refine then_n ?_
 refine cnd (decide (p1 < (a0.fInterfaces.length : Int))) (fun b2 => ?_) (fun b2 => ?_)
 have h3 := cond_t b2 h1
 refine awp_skip (then_n (awp_seq (awp_block (awp_seq ?_))))
 obtain ⟨c5, h6⟩ := gd_some h3
 refine rgc [1, 3, 4] 2 ⟨39, [(1, .ref 0 0), (3, .int .i64 p1), (4, .ref 1 0)], [.box (c_TRouter a0), .box (c_TInterface (a0.fInterfaces.getD p1.toNat default))]⟩ [decide (0 ≤ p1), decide (p1 < (a0.fInterfaces.length : Int))] c5 ?_
 refine then_n (awp_seq ?_)
 obtain ⟨r3, q7, h8⟩ := bind_some h6
 obtain ⟨r4, q9, h10⟩ := bind_some h8
 refine rg [.pure (.int .i64 r3), .pure (.int .i64 r4)] [1, 3, 38] 1 ⟨39, [(1, .ref 0 0), (3, .int .i64 p1), (38, .bool (((!strEq ((a0.fInterfaces.getD p1.toNat default).fIn) (⟨#[]⟩ : ByteArray)) && (decide (r3 < 0))) || ((!strEq ((a0.fInterfaces.getD p1.toNat default).fOut) (⟨#[]⟩ : ByteArray)) && (decide (r4 < 0)))))], [.box (c_TRouter a0)]⟩ [] [⟨!strEq ((a0.fInterfaces.getD p1.toNat default).fIn) (⟨#[]⟩ : ByteArray), 74, [.agg (c_TRouter a0), .str ((a0.fInterfaces.getD p1.toNat default).fIn)], .pure (.int .i64 r3)⟩, ⟨((!((!strEq ((a0.fInterfaces.getD p1.toNat default).fIn) (⟨#[]⟩ : ByteArray)) && (decide (r3 < 0)))) && (!strEq ((a0.fInterfaces.getD p1.toNat default).fOut) (⟨#[]⟩ : ByteArray))), 74, [.agg (c_TRouter a0), .str ((a0.fInterfaces.getD p1.toNat default).fOut)], .pure (.int .i64 r4)⟩] nil_all ⟨fun hg => ref8_ACL_ok a0 ((a0.fInterfaces.getD p1.toNat default).fIn) r3 (gc_some q7 hg), fun hg => ref8_ACL_ok a0 ((a0.fInterfaces.getD p1.toNat default).fOut) r4 (gc_some q9 hg), trivial⟩ ?_
 refine then_n ?_
 refine cnd (((!strEq ((a0.fInterfaces.getD p1.toNat default).fIn) (⟨#[]⟩ : ByteArray)) && (decide (r3 < 0))) || ((!strEq ((a0.fInterfaces.getD p1.toNat default).fOut) (⟨#[]⟩ : ByteArray)) && (decide (r4 < 0)))) (fun b11 => ?_) (fun b11 => ?_)
 have h12 := cond_t b11 h10
 refine awp_seq (rg0 [2] 0 ⟨39, [(2, .int .i64 5)], []⟩ ?_)
 refine then_n (awp_ret (inb_r (then_r ?_)))
 obtain rfl := Option.some.inj h12
 exact round_r ⟨rfl, er0 (.int .i64 5)⟩
 have h13 := cond_f b11 h10
 refine awp_skip (inb_n (then_n (rg0 [1, 3] 1 ⟨39, [(1, .ref 0 0), (3, .int .i64 (wr .i64 (p1 + 1)))], [.box (c_TRouter a0)]⟩ ?_)))
 obtain rfl := Option.some.inj h13
 exact round_n (le_rfl)
 have h4 := cond_f b2 h1
 refine awp_exit (then_e ?_)
 obtain rfl := Option.some.inj h4
 exact round_e ⟨rfl, Le.trans (s' := ⟨39, [], [.box (c_TRouter a0)]⟩) (kp []) (le_cut (n := 0) (by kernel_rfl))⟩
 intro e16 s17 o18
 rcases y5 with g6 | y7
 have h19 := elim_l h15
 obtain ⟨rfl, l21⟩ := o18
 refine inb_here ?_
 refine then_le (s' := ⟨39, [], []⟩) (l21) ?_
 refine awp_seq (rg0 [2] 0 ⟨39, [(2, .int .i64 0)], []⟩ ?_)
 refine then_n (awp_ret ?_)
 obtain rfl := Option.some.inj h19
 exact er0 (.int .i64 0)
 have h20 := elim_r h15
 obtain ⟨rfl, n22⟩ := o18
 refine inb_r (then_r ?_)
 obtain rfl := Option.some.inj h20
 exact n22
theorem ref8_Address_ok (a0 : TRouter) (a1 : Int) (r : Int) (h : M.ref8_Address a0 a1 = some r) : Fn Try.prog 75 [.agg (c_TRouter a0), .int .u32 a1] (.pure (.int .i64 r)) := by
 unfold M.ref8_Address at h
 refine fn_pure Try.func75 rfl (by kernel_rfl) ?_
 refine awp_seq (rg0 [1, 2] 1 ⟨31, [(1, .int .u32 a1), (2, .ref 0 0)], [.box (c_TRouter a0)]⟩ ?_)
 refine then_n (awp_seq (awp_seq (rg0 [1, 2, 5] 1 ⟨31, [(1, .int .u32 a1), (2, .ref 0 0), (5, .int .i64 0)], [.box (c_TRouter a0)]⟩ ?_)))
 refine then_n (awp_block ?_)
 obtain ⟨y3, q10, h11⟩ := bind_some h
 refine awp_le (s' := ⟨31, [(1, .int .u32 a1), (2, .ref 0 0), (5, .int .i64 0)], [.box (c_TRouter a0)]⟩) (le_rfl) ?_
 refine awp_mono (awp_loop (f := M.ref8_Address_l1 a0 a1) (S := fun (p1 : Int) => ⟨31, [(1, .int .u32 a1), (2, .ref 0 0), (5, .int .i64 p1)], [.box (c_TRouter a0)]⟩) (O := (Sum.elim (fun z => OutE 0 (fun z => ⟨31, [], []⟩) z) (fun z => OutR Try.prog Try.f75 (.int .i64 z)))) ?_ (x := 0) (y := y3) (loopM_iter q10)) ?_
 intro p1 y2 h1
 unfold M.ref8_Address_l1 at h1
 refine awp_seq (awp_seq (rg0 [1, 2, 5, 10] 1 ⟨31, [(1, .int .u32 a1), (2, .ref 0 0), (5, .int .i64 p1), (10, .bool (decide (p1 < (a0.fInterfaces.length : Int))))], [.box (c_TRouter a0)]⟩ ?_))
 refine then_n ?_
 refine cnd (decide (p1 < (a0.fInterfaces.length : Int))) (fun b2 => ?_) (fun b2 => ?_)
 have h3 := cond_t b2 h1
 refine awp_skip (then_n (awp_seq (awp_block (awp_seq ?_))))
 obtain ⟨c5, h6⟩ := gd_some h3
 refine rgc [1, 2, 5, 29] 1 ⟨31, [(1, .int .u32 a1), (2, .ref 0 0), (5, .int .i64 p1), (29, .bool ((((a0.fInterfaces.getD p1.toNat default).fLen) != 0) && (((a0.fInterfaces.getD p1.toNat default).fAddr) == a1)))], [.box (c_TRouter a0)]⟩ [decide (0 ≤ p1), decide (p1 < (a0.fInterfaces.length : Int)), guardB (((a0.fInterfaces.getD p1.toNat default).fLen) != 0) (decide (0 ≤ p1)), guardB (((a0.fInterfaces.getD p1.toNat default).fLen) != 0) (decide (p1 < (a0.fInterfaces.length : Int)))] c5 ?_
 refine then_n ?_
 refine cnd ((((a0.fInterfaces.getD p1.toNat default).fLen) != 0) && (((a0.fInterfaces.getD p1.toNat default).fAddr) == a1)) (fun b7 => ?_) (fun b7 => ?_)
 have h8 := cond_t b7 h6
 refine awp_seq (rg0 [4] 0 ⟨31, [(4, .int .i64 p1)], []⟩ ?_)
 refine then_n (awp_ret (inb_r (then_r ?_)))
 obtain rfl := Option.some.inj h8
 exact round_r ⟨rfl, er0 (.int .i64 p1)⟩
 have h9 := cond_f b7 h6
 refine awp_skip (inb_n (then_n (rg0 [1, 2, 5] 1 ⟨31, [(1, .int .u32 a1), (2, .ref 0 0), (5, .int .i64 (wr .i64 (p1 + 1)))], [.box (c_TRouter a0)]⟩ ?_)))
 obtain rfl := Option.some.inj h9
 exact round_n (le_rfl)
 have h4 := cond_f b2 h1
 refine awp_exit (then_e ?_)
 obtain rfl := Option.some.inj h4
 exact round_e ⟨rfl, Le.trans (s' := ⟨31, [], [.box (c_TRouter a0)]⟩) (kp []) (le_cut (n := 0) (by kernel_rfl))⟩
 intro e12 s13 o14
 rcases y3 with g4 | y5
 have h15 := elim_l h11
 obtain ⟨rfl, l17⟩ := o14
 refine inb_here ?_
 refine then_le (s' := ⟨31, [], []⟩) (l17) ?_
 refine awp_seq (rg0 [4] 0 ⟨31, [(4, .int .i64 (-1))], []⟩ ?_)
 refine then_n (awp_ret ?_)
 obtain rfl := Option.some.inj h15
 exact er0 (.int .i64 (-1))
 have h16 := elim_r h11
 obtain ⟨rfl, n18⟩ := o14
 refine inb_r (then_r ?_)
 obtain rfl := Option.some.inj h16
 exact n18
theorem ref8_Interface_ok (a0 : TRouter) (a1 : ByteArray) (r : Int) (h : M.ref8_Interface a0 a1 = some r) : Fn Try.prog 76 [.agg (c_TRouter a0), .str a1] (.pure (.int .i64 r)) := by
 unfold M.ref8_Interface at h
 refine fn_pure Try.func76 rfl (by kernel_rfl) ?_
 refine awp_seq (rg0 [1, 2] 1 ⟨22, [(1, .str a1), (2, .ref 0 0)], [.box (c_TRouter a0)]⟩ ?_)
 refine then_n (awp_seq (awp_seq (rg0 [1, 2, 5] 1 ⟨22, [(1, .str a1), (2, .ref 0 0), (5, .int .i64 0)], [.box (c_TRouter a0)]⟩ ?_)))
 refine then_n (awp_block ?_)
 obtain ⟨y3, q10, h11⟩ := bind_some h
 refine awp_le (s' := ⟨22, [(1, .str a1), (2, .ref 0 0), (5, .int .i64 0)], [.box (c_TRouter a0)]⟩) (le_rfl) ?_
 refine awp_mono (awp_loop (f := M.ref8_Interface_l1 a0 a1) (S := fun (p1 : Int) => ⟨22, [(1, .str a1), (2, .ref 0 0), (5, .int .i64 p1)], [.box (c_TRouter a0)]⟩) (O := (Sum.elim (fun z => OutE 0 (fun z => ⟨22, [], []⟩) z) (fun z => OutR Try.prog Try.f76 (.int .i64 z)))) ?_ (x := 0) (y := y3) (loopM_iter q10)) ?_
 intro p1 y2 h1
 unfold M.ref8_Interface_l1 at h1
 refine awp_seq (awp_seq (rg0 [1, 2, 5, 10] 1 ⟨22, [(1, .str a1), (2, .ref 0 0), (5, .int .i64 p1), (10, .bool (decide (p1 < (a0.fInterfaces.length : Int))))], [.box (c_TRouter a0)]⟩ ?_))
 refine then_n ?_
 refine cnd (decide (p1 < (a0.fInterfaces.length : Int))) (fun b2 => ?_) (fun b2 => ?_)
 have h3 := cond_t b2 h1
 refine awp_skip (then_n (awp_seq (awp_block (awp_seq ?_))))
 obtain ⟨c5, h6⟩ := gd_some h3
 refine rgc [1, 2, 5, 20] 1 ⟨22, [(1, .str a1), (2, .ref 0 0), (5, .int .i64 p1), (20, .bool (strEq ((a0.fInterfaces.getD p1.toNat default).fName) a1))], [.box (c_TRouter a0)]⟩ [decide (0 ≤ p1), decide (p1 < (a0.fInterfaces.length : Int))] c5 ?_
 refine then_n ?_
 refine cnd (strEq ((a0.fInterfaces.getD p1.toNat default).fName) a1) (fun b7 => ?_) (fun b7 => ?_)
 have h8 := cond_t b7 h6
 refine awp_seq (rg0 [4] 0 ⟨22, [(4, .int .i64 p1)], []⟩ ?_)
 refine then_n (awp_ret (inb_r (then_r ?_)))
 obtain rfl := Option.some.inj h8
 exact round_r ⟨rfl, er0 (.int .i64 p1)⟩
 have h9 := cond_f b7 h6
 refine awp_skip (inb_n (then_n (rg0 [1, 2, 5] 1 ⟨22, [(1, .str a1), (2, .ref 0 0), (5, .int .i64 (wr .i64 (p1 + 1)))], [.box (c_TRouter a0)]⟩ ?_)))
 obtain rfl := Option.some.inj h9
 exact round_n (le_rfl)
 have h4 := cond_f b2 h1
 refine awp_exit (then_e ?_)
 obtain rfl := Option.some.inj h4
 exact round_e ⟨rfl, Le.trans (s' := ⟨22, [], [.box (c_TRouter a0)]⟩) (kp []) (le_cut (n := 0) (by kernel_rfl))⟩
 intro e12 s13 o14
 rcases y3 with g4 | y5
 have h15 := elim_l h11
 obtain ⟨rfl, l17⟩ := o14
 refine inb_here ?_
 refine then_le (s' := ⟨22, [], []⟩) (l17) ?_
 refine awp_seq (rg0 [4] 0 ⟨22, [(4, .int .i64 (-1))], []⟩ ?_)
 refine then_n (awp_ret ?_)
 obtain rfl := Option.some.inj h15
 exact er0 (.int .i64 (-1))
 have h16 := elim_r h11
 obtain ⟨rfl, n18⟩ := o14
 refine inb_r (then_r ?_)
 obtain rfl := Option.some.inj h16
 exact n18
theorem ref8_statics_ok (a0 : TRouter) (r : Int) (h : M.ref8_statics a0 = some r) : Fn Try.prog 45 [.agg (c_TRouter a0)] (.pure (.int .i64 r)) := by
 unfold M.ref8_statics at h
 refine fn_pure Try.func45 rfl (by kernel_rfl) ?_
 refine awp_seq (rg0 [1] 1 ⟨111, [(1, .ref 0 0)], [.box (c_TRouter a0)]⟩ ?_)
 refine then_n (awp_seq (awp_seq (rg0 [1, 11] 1 ⟨111, [(1, .ref 0 0), (11, .bool (decide ((a0.fStatics.length : Int) > 16)))], [.box (c_TRouter a0)]⟩ ?_)))
 refine then_n ?_
 refine cnd (decide ((a0.fStatics.length : Int) > 16)) (fun b1 => ?_) (fun b1 => ?_)
 have h2 := cond_t b1 h
 refine awp_seq (rg0 [2] 0 ⟨111, [(2, .int .i64 7)], []⟩ ?_)
 refine then_n (awp_ret (then_r ?_))
 obtain rfl := Option.some.inj h2
 exact er0 (.int .i64 7)
 have h3 := cond_f b1 h
 refine awp_skip (then_n (awp_seq (awp_seq (rg0 [1, 3] 1 ⟨111, [(1, .ref 0 0), (3, .int .i64 0)], [.box (c_TRouter a0)]⟩ ?_))))
 refine then_n (awp_block ?_)
 obtain ⟨y17, q69, h70⟩ := bind_some h3
 refine awp_le (s' := ⟨111, [(1, .ref 0 0), (3, .int .i64 0)], [.box (c_TRouter a0)]⟩) (le_rfl) ?_
 refine awp_mono (awp_loop (f := M.ref8_statics_l1 a0) (S := fun (p1 : Int) => ⟨111, [(1, .ref 0 0), (3, .int .i64 p1)], [.box (c_TRouter a0)]⟩) (O := (Sum.elim (fun z => OutE 0 (fun z => ⟨111, [], []⟩) z) (fun z => OutR Try.prog Try.f45 (.int .i64 z)))) ?_ (x := 0) (y := y17) (loopM_iter q69)) ?_
 intro p1 y2 h4
 unfold M.ref8_statics_l1 at h4
 refine awp_seq (awp_seq (rg0 [1, 3, 16] 1 ⟨111, [(1, .ref 0 0), (3, .int .i64 p1), (16, .bool (decide (p1 < (a0.fStatics.length : Int))))], [.box (c_TRouter a0)]⟩ ?_))
 refine then_n ?_
 refine cnd (decide (p1 < (a0.fStatics.length : Int))) (fun b5 => ?_) (fun b5 => ?_)
 have h6 := cond_t b5 h4
 refine awp_skip (then_n (awp_seq (awp_block (awp_seq ?_))))
 obtain ⟨c8, h9⟩ := gd_some h6
 refine rgc [1, 3, 4] 2 ⟨111, [(1, .ref 0 0), (3, .int .i64 p1), (4, .ref 1 0)], [.box (c_TRouter a0), .box (c_TStaticRoute (a0.fStatics.getD p1.toNat default))]⟩ [decide (0 ≤ p1), decide (p1 < (a0.fStatics.length : Int))] c8 ?_
 refine then_n (awp_seq (rg0 [1, 3, 4, 5] 2 ⟨111, [(1, .ref 0 0), (3, .int .i64 p1), (4, .ref 1 0), (5, .int .i64 0)], [.box (c_TRouter a0), .box (c_TStaticRoute (a0.fStatics.getD p1.toNat default))]⟩ ?_))
 refine then_n ?_
 refine awp_join (fun (p3 : Int) => ⟨111, [(1, .ref 0 0), (3, .int .i64 p1), (4, .ref 1 0), (5, .int .i64 p3)], [.box (c_TRouter a0), .box (c_TStaticRoute (a0.fStatics.getD p1.toNat default))]⟩) (fun p3 => M.ref8_statics_k1 a0 p1 p3 = some y2) ?_ ?_
 intro p3 h11
 unfold M.ref8_statics_k1 at h11
 refine awp_join (fun (p4 : Int) => ⟨111, [(1, .ref 0 0), (3, .int .i64 p1), (4, .ref 1 0), (5, .int .i64 p4)], [.box (c_TRouter a0), .box (c_TStaticRoute (a0.fStatics.getD p1.toNat default))]⟩) (fun p4 => M.ref8_statics_k2 a0 p1 p4 = some y2) ?_ ?_
 intro p4 h13
 unfold M.ref8_statics_k2 at h13
 refine awp_join (fun (p5 : Int) => ⟨111, [(1, .ref 0 0), (3, .int .i64 p1), (4, .ref 1 0), (5, .int .i64 p5)], [.box (c_TRouter a0), .box (c_TStaticRoute (a0.fStatics.getD p1.toNat default))]⟩) (fun p5 => M.ref8_statics_k3 a0 p1 p5 = some y2) ?_ ?_
 intro p5 h15
 unfold M.ref8_statics_k3 at h15
 refine awp_seq (awp_seq ?_)
 obtain ⟨r6, q16, h17⟩ := bind_some h15
 obtain ⟨r7, q18, h19⟩ := bind_some h17
 obtain ⟨r8, q20, h21⟩ := bind_some h19
 obtain ⟨r9, q22, h23⟩ := bind_some h21
 refine rg [.pure (.bool r6), .pure (.int .i64 r7), .pure (.bool r8), .pure (.bool r9)] [1, 3, 4, 69] 2 ⟨111, [(1, .ref 0 0), (3, .int .i64 p1), (4, .ref 1 0), (69, .bool (((((!r6) || (p5 != 1)) || ((((a0.fStatics.getD p1.toNat default).fNext) != 0) && (decide (r7 ≥ 0)))) || (!r8)) || (!r9)))], [.box (c_TRouter a0), .box (c_TStaticRoute (a0.fStatics.getD p1.toNat default))]⟩ [] [⟨true, 53, [.agg (c_TPrefix ((a0.fStatics.getD p1.toNat default).fPrefix))], .pure (.bool r6)⟩, ⟨((!((!r6) || (p5 != 1))) && (((a0.fStatics.getD p1.toNat default).fNext) != 0)), 75, [.agg (c_TRouter a0), .int .u32 ((a0.fStatics.getD p1.toNat default).fNext)], .pure (.int .i64 r7)⟩, ⟨(!(((!r6) || (p5 != 1)) || ((((a0.fStatics.getD p1.toNat default).fNext) != 0) && (decide (r7 ≥ 0))))), 38, [.int .i64 ((a0.fStatics.getD p1.toNat default).fAdmin), .int .i64 1, .int .i64 255], .pure (.bool r8)⟩, ⟨(!((((!r6) || (p5 != 1)) || ((((a0.fStatics.getD p1.toNat default).fNext) != 0) && (decide (r7 ≥ 0)))) || (!r8))), 38, [.int .i64 ((a0.fStatics.getD p1.toNat default).fTag), .int .i64 0, .int .i64 65535], .pure (.bool r9)⟩] nil_all ⟨fun _ => ref4_Valid_ok ((a0.fStatics.getD p1.toNat default).fPrefix) r6 q16, fun hg => ref8_Address_ok a0 ((a0.fStatics.getD p1.toNat default).fNext) r7 (gc_some q18 hg), fun hg => ref8_within_ok ((a0.fStatics.getD p1.toNat default).fAdmin) 1 255 r8 (gc_some q20 hg), fun hg => ref8_within_ok ((a0.fStatics.getD p1.toNat default).fTag) 0 65535 r9 (gc_some q22 hg), trivial⟩ ?_
 refine then_n ?_
 refine cnd (((((!r6) || (p5 != 1)) || ((((a0.fStatics.getD p1.toNat default).fNext) != 0) && (decide (r7 ≥ 0)))) || (!r8)) || (!r9)) (fun b24 => ?_) (fun b24 => ?_)
 have h25 := cond_t b24 h23
 refine awp_seq (rg0 [2] 0 ⟨111, [(2, .int .i64 1)], []⟩ ?_)
 refine then_n (awp_ret (then_r (inb_r (then_r ?_))))
 obtain rfl := Option.some.inj h25
 exact round_r ⟨rfl, er0 (.int .i64 1)⟩
 have h26 := cond_f b24 h23
 refine awp_skip (then_n ?_)
 refine awp_join (fun (p10 : Unit) => ⟨111, [(1, .ref 0 0), (3, .int .i64 p1), (4, .ref 1 0)], [.box (c_TRouter a0), .box (c_TStaticRoute (a0.fStatics.getD p1.toNat default))]⟩) (fun p10 => M.ref8_statics_k4 a0 p1 p10 = some y2) ?_ ?_
 intro p10 h28
 unfold M.ref8_statics_k4 at h28
 refine awp_seq (rg0 [1, 3, 4, 7] 2 ⟨111, [(1, .ref 0 0), (3, .int .i64 p1), (4, .ref 1 0), (7, .int .i64 0)], [.box (c_TRouter a0), .box (c_TStaticRoute (a0.fStatics.getD p1.toNat default))]⟩ ?_)
 refine then_n (awp_block ?_)
 obtain ⟨y13, q38, h39⟩ := bind_some h28
 refine awp_le (s' := ⟨111, [(1, .ref 0 0), (3, .int .i64 p1), (4, .ref 1 0), (7, .int .i64 0)], [.box (c_TRouter a0), .box (c_TStaticRoute (a0.fStatics.getD p1.toNat default))]⟩) (le_rfl) ?_
 refine awp_mono (awp_loop (f := M.ref8_statics_l2 a0 p1) (S := fun (p11 : Int) => ⟨111, [(1, .ref 0 0), (3, .int .i64 p1), (4, .ref 1 0), (7, .int .i64 p11)], [.box (c_TRouter a0), .box (c_TStaticRoute (a0.fStatics.getD p1.toNat default))]⟩) (O := (Sum.elim (fun z => OutE 2 (fun z => ⟨111, [(1, .ref 0 0), (3, .int .i64 p1)], [.box (c_TRouter a0)]⟩) z) (fun z => OutR Try.prog Try.f45 (.int .i64 z)))) ?_ (x := 0) (y := y13) (loopM_iter q38)) ?_
 intro p11 y12 h29
 unfold M.ref8_statics_l2 at h29
 refine awp_seq (awp_seq (rg0 [1, 3, 4, 7, 88] 2 ⟨111, [(1, .ref 0 0), (3, .int .i64 p1), (4, .ref 1 0), (7, .int .i64 p11), (88, .bool (decide (p11 < p1)))], [.box (c_TRouter a0), .box (c_TStaticRoute (a0.fStatics.getD p1.toNat default))]⟩ ?_))
 refine then_n ?_
 refine cnd (decide (p11 < p1)) (fun b30 => ?_) (fun b30 => ?_)
 have h31 := cond_t b30 h29
 refine awp_skip (then_n (awp_seq (awp_block (awp_seq ?_))))
 obtain ⟨c33, h34⟩ := gd_some h31
 refine rgc [1, 3, 4, 7, 110] 2 ⟨111, [(1, .ref 0 0), (3, .int .i64 p1), (4, .ref 1 0), (7, .int .i64 p11), (110, .bool ((((((a0.fStatics.getD p11.toNat default).fPrefix).fAddr) == (((a0.fStatics.getD p1.toNat default).fPrefix).fAddr)) && (((((a0.fStatics.getD p11.toNat default).fPrefix).fLen) == (((a0.fStatics.getD p1.toNat default).fPrefix).fLen)) && true)) && (((a0.fStatics.getD p11.toNat default).fAdmin) == ((a0.fStatics.getD p1.toNat default).fAdmin))))], [.box (c_TRouter a0), .box (c_TStaticRoute (a0.fStatics.getD p1.toNat default))]⟩ [decide (0 ≤ p11), decide (p11 < (a0.fStatics.length : Int)), guardB (((((a0.fStatics.getD p11.toNat default).fPrefix).fAddr) == (((a0.fStatics.getD p1.toNat default).fPrefix).fAddr)) && (((((a0.fStatics.getD p11.toNat default).fPrefix).fLen) == (((a0.fStatics.getD p1.toNat default).fPrefix).fLen)) && true)) (decide (0 ≤ p11)), guardB (((((a0.fStatics.getD p11.toNat default).fPrefix).fAddr) == (((a0.fStatics.getD p1.toNat default).fPrefix).fAddr)) && (((((a0.fStatics.getD p11.toNat default).fPrefix).fLen) == (((a0.fStatics.getD p1.toNat default).fPrefix).fLen)) && true)) (decide (p11 < (a0.fStatics.length : Int)))] c33 ?_
 refine then_n ?_
 refine cnd ((((((a0.fStatics.getD p11.toNat default).fPrefix).fAddr) == (((a0.fStatics.getD p1.toNat default).fPrefix).fAddr)) && (((((a0.fStatics.getD p11.toNat default).fPrefix).fLen) == (((a0.fStatics.getD p1.toNat default).fPrefix).fLen)) && true)) && (((a0.fStatics.getD p11.toNat default).fAdmin) == ((a0.fStatics.getD p1.toNat default).fAdmin))) (fun b35 => ?_) (fun b35 => ?_)
 have h36 := cond_t b35 h34
 refine awp_seq (rg0 [2] 0 ⟨111, [(2, .int .i64 6)], []⟩ ?_)
 refine then_n (awp_ret (inb_r (then_r ?_)))
 obtain rfl := Option.some.inj h36
 exact round_r ⟨rfl, er0 (.int .i64 6)⟩
 have h37 := cond_f b35 h34
 refine awp_skip (inb_n (then_n (rg0 [1, 3, 4, 7] 2 ⟨111, [(1, .ref 0 0), (3, .int .i64 p1), (4, .ref 1 0), (7, .int .i64 (wr .i64 (p11 + 1)))], [.box (c_TRouter a0), .box (c_TStaticRoute (a0.fStatics.getD p1.toNat default))]⟩ ?_)))
 obtain rfl := Option.some.inj h37
 exact round_n (le_rfl)
 have h32 := cond_f b30 h29
 refine awp_exit (then_e ?_)
 obtain rfl := Option.some.inj h32
 exact round_e ⟨rfl, Le.trans (s' := ⟨111, [(1, .ref 0 0), (3, .int .i64 p1)], [.box (c_TRouter a0), .box (c_TStaticRoute (a0.fStatics.getD p1.toNat default))]⟩) (kp [1, 3]) (le_cut (n := 1) (by kernel_rfl))⟩
 intro e40 s41 o42
 rcases y13 with g14 | y15
 have h43 := elim_l h39
 obtain ⟨rfl, l45⟩ := o42
 refine inb_here (inb_n ?_)
 refine then_le (s' := ⟨111, [(1, .ref 0 0), (3, .int .i64 p1)], [.box (c_TRouter a0)]⟩) (l45) ?_
 refine rg0 [1, 3] 1 ⟨111, [(1, .ref 0 0), (3, .int .i64 (wr .i64 (p1 + 1)))], [.box (c_TRouter a0)]⟩ ?_
 obtain rfl := Option.some.inj h43
 exact round_n (le_rfl)
 have h44 := elim_r h39
 obtain ⟨rfl, n46⟩ := o42
 refine inb_r (inb_r (then_r ?_))
 obtain rfl := Option.some.inj h44
 exact round_r ⟨rfl, n46⟩
 intro k27
 refine awp_seq (rg0 [1, 3, 4, 72] 2 ⟨111, [(1, .ref 0 0), (3, .int .i64 p1), (4, .ref 1 0), (72, .bool (!strEq ((a0.fStatics.getD p1.toNat default).fIface) (⟨#[]⟩ : ByteArray)))], [.box (c_TRouter a0), .box (c_TStaticRoute (a0.fStatics.getD p1.toNat default))]⟩ ?_)
 refine then_n ?_
 refine cnd (!strEq ((a0.fStatics.getD p1.toNat default).fIface) (⟨#[]⟩ : ByteArray)) (fun b47 => ?_) (fun b47 => ?_)
 have h48 := cond_t b47 h26
 refine awp_seq ?_
 obtain ⟨r16, q50, h51⟩ := bind_some h48
 refine rg [.pure (.int .i64 r16)] [1, 3, 4, 6] 2 ⟨111, [(1, .ref 0 0), (3, .int .i64 p1), (4, .ref 1 0), (6, .int .i64 r16)], [.box (c_TRouter a0), .box (c_TStaticRoute (a0.fStatics.getD p1.toNat default))]⟩ [] [⟨true, 76, [.agg (c_TRouter a0), .str ((a0.fStatics.getD p1.toNat default).fIface)], .pure (.int .i64 r16)⟩] nil_all ⟨fun _ => ref8_Interface_ok a0 ((a0.fStatics.getD p1.toNat default).fIface) r16 q50, trivial⟩ ?_
 refine then_n (awp_seq (awp_seq (rg0 [1, 3, 4, 6, 78] 2 ⟨111, [(1, .ref 0 0), (3, .int .i64 p1), (4, .ref 1 0), (6, .int .i64 r16), (78, .bool (decide (r16 < 0)))], [.box (c_TRouter a0), .box (c_TStaticRoute (a0.fStatics.getD p1.toNat default))]⟩ ?_)))
 refine then_n ?_
 refine cnd (decide (r16 < 0)) (fun b52 => ?_) (fun b52 => ?_)
 have h53 := cond_t b52 h51
 refine awp_seq (rg0 [2] 0 ⟨111, [(2, .int .i64 5)], []⟩ ?_)
 refine then_n (awp_ret (then_r (then_r (inb_r (then_r ?_)))))
 obtain rfl := Option.some.inj h53
 exact round_r ⟨rfl, er0 (.int .i64 5)⟩
 have h54 := cond_f b52 h51
 refine awp_skip (then_n (awp_seq ?_))
 obtain ⟨c55, h56⟩ := gd_some h54
 refine rgc [1, 3, 4, 85] 2 ⟨111, [(1, .ref 0 0), (3, .int .i64 p1), (4, .ref 1 0), (85, .bool (((a0.fInterfaces.getD r16.toNat default).fLen) == 0))], [.box (c_TRouter a0), .box (c_TStaticRoute (a0.fStatics.getD p1.toNat default))]⟩ [decide (0 ≤ r16), decide (r16 < (a0.fInterfaces.length : Int))] c55 ?_
 refine then_n ?_
 refine cnd (((a0.fInterfaces.getD r16.toNat default).fLen) == 0) (fun b57 => ?_) (fun b57 => ?_)
 have h58 := cond_t b57 h56
 refine awp_seq (rg0 [2] 0 ⟨111, [(2, .int .i64 1)], []⟩ ?_)
 refine then_n (awp_ret (then_r (inb_r (then_r ?_))))
 obtain rfl := Option.some.inj h58
 exact round_r ⟨rfl, er0 (.int .i64 1)⟩
 have h59 := cond_f b57 h56
 refine awp_skip ?_
 exact then_le (kp [1, 3, 4]) (k27 () h59)
 have h49 := cond_f b47 h26
 refine awp_skip ?_
 exact then_le (kp [1, 3, 4]) (k27 () h49)
 intro k14
 refine awp_seq (rg0 [1, 3, 4, 5, 35] 2 ⟨111, [(1, .ref 0 0), (3, .int .i64 p1), (4, .ref 1 0), (5, .int .i64 p4), (35, .bool ((a0.fStatics.getD p1.toNat default).fDiscard))], [.box (c_TRouter a0), .box (c_TStaticRoute (a0.fStatics.getD p1.toNat default))]⟩ ?_)
 refine then_n ?_
 refine cnd ((a0.fStatics.getD p1.toNat default).fDiscard) (fun b60 => ?_) (fun b60 => ?_)
 have h61 := cond_t b60 h13
 refine rg0 [1, 3, 4, 5] 2 ⟨111, [(1, .ref 0 0), (3, .int .i64 p1), (4, .ref 1 0), (5, .int .i64 (wr .i64 (p4 + 1)))], [.box (c_TRouter a0), .box (c_TStaticRoute (a0.fStatics.getD p1.toNat default))]⟩ ?_
 exact then_le (le_rfl) (k14 (wr .i64 (p4 + 1)) h61)
 have h62 := cond_f b60 h13
 refine awp_skip ?_
 exact then_le (kp [1, 3, 4, 5]) (k14 p4 h62)
 intro k12
 refine awp_seq (rg0 [1, 3, 4, 5, 31] 2 ⟨111, [(1, .ref 0 0), (3, .int .i64 p1), (4, .ref 1 0), (5, .int .i64 p3), (31, .bool (!strEq ((a0.fStatics.getD p1.toNat default).fIface) (⟨#[]⟩ : ByteArray)))], [.box (c_TRouter a0), .box (c_TStaticRoute (a0.fStatics.getD p1.toNat default))]⟩ ?_)
 refine then_n ?_
 refine cnd (!strEq ((a0.fStatics.getD p1.toNat default).fIface) (⟨#[]⟩ : ByteArray)) (fun b63 => ?_) (fun b63 => ?_)
 have h64 := cond_t b63 h11
 refine rg0 [1, 3, 4, 5] 2 ⟨111, [(1, .ref 0 0), (3, .int .i64 p1), (4, .ref 1 0), (5, .int .i64 (wr .i64 (p3 + 1)))], [.box (c_TRouter a0), .box (c_TStaticRoute (a0.fStatics.getD p1.toNat default))]⟩ ?_
 exact then_le (le_rfl) (k12 (wr .i64 (p3 + 1)) h64)
 have h65 := cond_f b63 h11
 refine awp_skip ?_
 exact then_le (kp [1, 3, 4, 5]) (k12 p3 h65)
 intro k10
 refine awp_seq (rg0 [1, 3, 4, 5, 26] 2 ⟨111, [(1, .ref 0 0), (3, .int .i64 p1), (4, .ref 1 0), (5, .int .i64 0), (26, .bool (((a0.fStatics.getD p1.toNat default).fNext) != 0))], [.box (c_TRouter a0), .box (c_TStaticRoute (a0.fStatics.getD p1.toNat default))]⟩ ?_)
 refine then_n ?_
 refine cnd (((a0.fStatics.getD p1.toNat default).fNext) != 0) (fun b66 => ?_) (fun b66 => ?_)
 have h67 := cond_t b66 h9
 refine rg0 [1, 3, 4, 5] 2 ⟨111, [(1, .ref 0 0), (3, .int .i64 p1), (4, .ref 1 0), (5, .int .i64 1)], [.box (c_TRouter a0), .box (c_TStaticRoute (a0.fStatics.getD p1.toNat default))]⟩ ?_
 exact then_le (le_rfl) (k10 1 h67)
 have h68 := cond_f b66 h9
 refine awp_skip ?_
 exact then_le (kp [1, 3, 4, 5]) (k10 0 h68)
 have h7 := cond_f b5 h4
 refine awp_exit (then_e ?_)
 obtain rfl := Option.some.inj h7
 exact round_e ⟨rfl, Le.trans (s' := ⟨111, [], [.box (c_TRouter a0)]⟩) (kp []) (le_cut (n := 0) (by kernel_rfl))⟩
 intro e71 s72 o73
 rcases y17 with g18 | y19
 have h74 := elim_l h70
 obtain ⟨rfl, l76⟩ := o73
 refine inb_here ?_
 refine then_le (s' := ⟨111, [], []⟩) (l76) ?_
 refine awp_seq (rg0 [2] 0 ⟨111, [(2, .int .i64 0)], []⟩ ?_)
 refine then_n (awp_ret ?_)
 obtain rfl := Option.some.inj h74
 exact er0 (.int .i64 0)
 have h75 := elim_r h70
 obtain ⟨rfl, n77⟩ := o73
 refine inb_r (then_r ?_)
 obtain rfl := Option.some.inj h75
 exact n77
theorem ref8_RouteMap_ok (a0 : TRouter) (a1 : ByteArray) (r : Int) (h : M.ref8_RouteMap a0 a1 = some r) : Fn Try.prog 52 [.agg (c_TRouter a0), .str a1] (.pure (.int .i64 r)) := by
 unfold M.ref8_RouteMap at h
 refine fn_pure Try.func52 rfl (by kernel_rfl) ?_
 refine awp_seq (rg0 [1, 2] 1 ⟨22, [(1, .str a1), (2, .ref 0 0)], [.box (c_TRouter a0)]⟩ ?_)
 refine then_n (awp_seq (awp_seq (rg0 [1, 2, 5] 1 ⟨22, [(1, .str a1), (2, .ref 0 0), (5, .int .i64 0)], [.box (c_TRouter a0)]⟩ ?_)))
 refine then_n (awp_block ?_)
 obtain ⟨y3, q10, h11⟩ := bind_some h
 refine awp_le (s' := ⟨22, [(1, .str a1), (2, .ref 0 0), (5, .int .i64 0)], [.box (c_TRouter a0)]⟩) (le_rfl) ?_
 refine awp_mono (awp_loop (f := M.ref8_RouteMap_l1 a0 a1) (S := fun (p1 : Int) => ⟨22, [(1, .str a1), (2, .ref 0 0), (5, .int .i64 p1)], [.box (c_TRouter a0)]⟩) (O := (Sum.elim (fun z => OutE 0 (fun z => ⟨22, [], []⟩) z) (fun z => OutR Try.prog Try.f52 (.int .i64 z)))) ?_ (x := 0) (y := y3) (loopM_iter q10)) ?_
 intro p1 y2 h1
 unfold M.ref8_RouteMap_l1 at h1
 refine awp_seq (awp_seq (rg0 [1, 2, 5, 10] 1 ⟨22, [(1, .str a1), (2, .ref 0 0), (5, .int .i64 p1), (10, .bool (decide (p1 < (a0.fMaps.length : Int))))], [.box (c_TRouter a0)]⟩ ?_))
 refine then_n ?_
 refine cnd (decide (p1 < (a0.fMaps.length : Int))) (fun b2 => ?_) (fun b2 => ?_)
 have h3 := cond_t b2 h1
 refine awp_skip (then_n (awp_seq (awp_block (awp_seq ?_))))
 obtain ⟨c5, h6⟩ := gd_some h3
 refine rgc [1, 2, 5, 20] 1 ⟨22, [(1, .str a1), (2, .ref 0 0), (5, .int .i64 p1), (20, .bool (strEq ((a0.fMaps.getD p1.toNat default).fName) a1))], [.box (c_TRouter a0)]⟩ [decide (0 ≤ p1), decide (p1 < (a0.fMaps.length : Int))] c5 ?_
 refine then_n ?_
 refine cnd (strEq ((a0.fMaps.getD p1.toNat default).fName) a1) (fun b7 => ?_) (fun b7 => ?_)
 have h8 := cond_t b7 h6
 refine awp_seq (rg0 [4] 0 ⟨22, [(4, .int .i64 p1)], []⟩ ?_)
 refine then_n (awp_ret (inb_r (then_r ?_)))
 obtain rfl := Option.some.inj h8
 exact round_r ⟨rfl, er0 (.int .i64 p1)⟩
 have h9 := cond_f b7 h6
 refine awp_skip (inb_n (then_n (rg0 [1, 2, 5] 1 ⟨22, [(1, .str a1), (2, .ref 0 0), (5, .int .i64 (wr .i64 (p1 + 1)))], [.box (c_TRouter a0)]⟩ ?_)))
 obtain rfl := Option.some.inj h9
 exact round_n (le_rfl)
 have h4 := cond_f b2 h1
 refine awp_exit (then_e ?_)
 obtain rfl := Option.some.inj h4
 exact round_e ⟨rfl, Le.trans (s' := ⟨22, [], [.box (c_TRouter a0)]⟩) (kp []) (le_cut (n := 0) (by kernel_rfl))⟩
 intro e12 s13 o14
 rcases y3 with g4 | y5
 have h15 := elim_l h11
 obtain ⟨rfl, l17⟩ := o14
 refine inb_here ?_
 refine then_le (s' := ⟨22, [], []⟩) (l17) ?_
 refine awp_seq (rg0 [4] 0 ⟨22, [(4, .int .i64 (-1))], []⟩ ?_)
 refine then_n (awp_ret ?_)
 obtain rfl := Option.some.inj h15
 exact er0 (.int .i64 (-1))
 have h16 := elim_r h11
 obtain ⟨rfl, n18⟩ := o14
 refine inb_r (then_r ?_)
 obtain rfl := Option.some.inj h16
 exact n18
theorem ref8_redistributions_ok (a0 : TRouter) (a1 : List TRedist) (a2 : Int) (a3 : Int) (a4 : Int) (r : Int) (h : M.ref8_redistributions a0 a1 a2 a3 a4 = some r) : Fn Try.prog 77 [.agg (c_TRouter a0), sL 5 c_TRedist a1, .int .i64 a2, .int .i64 a3, .int .i64 a4] (.pure (.int .i64 r)) := by
 unfold M.ref8_redistributions at h
 refine fn_pure Try.func77 rfl (by kernel_rfl) ?_
 refine awp_seq (rg0 [1, 2, 3, 4, 5] 1 ⟨95, [(1, sL 5 c_TRedist a1), (2, .int .i64 a2), (3, .int .i64 a3), (4, .int .i64 a4), (5, .ref 0 0)], [.box (c_TRouter a0)]⟩ ?_)
 refine then_n (awp_seq (awp_seq (rg0 [1, 2, 3, 4, 5, 16] 1 ⟨95, [(1, sL 5 c_TRedist a1), (2, .int .i64 a2), (3, .int .i64 a3), (4, .int .i64 a4), (5, .ref 0 0), (16, .bool (decide ((a1.length : Int) > 4)))], [.box (c_TRouter a0)]⟩ ?_)))
 refine then_n ?_
 refine cnd (decide ((a1.length : Int) > 4)) (fun b1 => ?_) (fun b1 => ?_)
 have h2 := cond_t b1 h
 refine awp_seq (rg0 [10] 0 ⟨95, [(10, .int .i64 7)], []⟩ ?_)
 refine then_n (awp_ret (then_r ?_))
 obtain rfl := Option.some.inj h2
 exact er0 (.int .i64 7)
 have h3 := cond_f b1 h
 refine awp_skip (then_n (awp_seq (awp_seq (rg0 [1, 2, 3, 4, 5, 11] 1 ⟨95, [(1, sL 5 c_TRedist a1), (2, .int .i64 a2), (3, .int .i64 a3), (4, .int .i64 a4), (5, .ref 0 0), (11, .int .i64 0)], [.box (c_TRouter a0)]⟩ ?_))))
 refine then_n (awp_block ?_)
 obtain ⟨y12, q45, h46⟩ := bind_some h3
 refine awp_le (s' := ⟨95, [(1, sL 5 c_TRedist a1), (2, .int .i64 a2), (3, .int .i64 a3), (4, .int .i64 a4), (5, .ref 0 0), (11, .int .i64 0)], [.box (c_TRouter a0)]⟩) (le_rfl) ?_
 refine awp_mono (awp_loop (f := M.ref8_redistributions_l1 a0 a1 a2 a3 a4) (S := fun (p1 : Int) => ⟨95, [(1, sL 5 c_TRedist a1), (2, .int .i64 a2), (3, .int .i64 a3), (4, .int .i64 a4), (5, .ref 0 0), (11, .int .i64 p1)], [.box (c_TRouter a0)]⟩) (O := (Sum.elim (fun z => OutE 0 (fun z => ⟨95, [], []⟩) z) (fun z => OutR Try.prog Try.f77 (.int .i64 z)))) ?_ (x := 0) (y := y12) (loopM_iter q45)) ?_
 intro p1 y2 h4
 unfold M.ref8_redistributions_l1 at h4
 refine awp_seq (awp_seq (rg0 [1, 2, 3, 4, 5, 11, 20] 1 ⟨95, [(1, sL 5 c_TRedist a1), (2, .int .i64 a2), (3, .int .i64 a3), (4, .int .i64 a4), (5, .ref 0 0), (11, .int .i64 p1), (20, .bool (decide (p1 < (a1.length : Int))))], [.box (c_TRouter a0)]⟩ ?_))
 refine then_n ?_
 refine cnd (decide (p1 < (a1.length : Int))) (fun b5 => ?_) (fun b5 => ?_)
 have h6 := cond_t b5 h4
 refine awp_skip (then_n (awp_seq (awp_block (awp_seq ?_))))
 obtain ⟨c8, h9⟩ := gd_some h6
 refine rgc [1, 2, 3, 4, 5, 11, 12] 2 ⟨95, [(1, sL 5 c_TRedist a1), (2, .int .i64 a2), (3, .int .i64 a3), (4, .int .i64 a4), (5, .ref 0 0), (11, .int .i64 p1), (12, .ref 1 0)], [.box (c_TRouter a0), .box (c_TRedist (a1.getD p1.toNat default))]⟩ [decide (0 ≤ p1), decide (p1 < (a1.length : Int))] c8 ?_
 refine then_n (awp_seq (awp_seq ?_))
 obtain ⟨r3, q10, h11⟩ := bind_some h9
 obtain ⟨r4, q12, h13⟩ := bind_some h11
 obtain ⟨r5, q14, h15⟩ := bind_some h13
 refine rg [.pure (.bool r3), .pure (.bool r4), .pure (.bool r5)] [1, 2, 3, 4, 5, 11, 12, 50] 2 ⟨95, [(1, sL 5 c_TRedist a1), (2, .int .i64 a2), (3, .int .i64 a3), (4, .int .i64 a4), (5, .ref 0 0), (11, .int .i64 p1), (12, .ref 1 0), (50, .bool ((((!r3) || (((a1.getD p1.toNat default).fFrom) == a2)) || (!r4)) || (!r5)))], [.box (c_TRouter a0), .box (c_TRedist (a1.getD p1.toNat default))]⟩ [] [⟨true, 38, [.int .i64 ((a1.getD p1.toNat default).fFrom), .int .i64 1, .int .i64 5], .pure (.bool r3)⟩, ⟨(!((!r3) || (((a1.getD p1.toNat default).fFrom) == a2))), 38, [.int .i64 ((a1.getD p1.toNat default).fMetric), .int .i64 a3, .int .i64 a4], .pure (.bool r4)⟩, ⟨(!(((!r3) || (((a1.getD p1.toNat default).fFrom) == a2)) || (!r4))), 38, [.int .i64 ((a1.getD p1.toNat default).fTag), .int .i64 0, .int .i64 65535], .pure (.bool r5)⟩] nil_all ⟨fun _ => ref8_within_ok ((a1.getD p1.toNat default).fFrom) 1 5 r3 q10, fun hg => ref8_within_ok ((a1.getD p1.toNat default).fMetric) a3 a4 r4 (gc_some q12 hg), fun hg => ref8_within_ok ((a1.getD p1.toNat default).fTag) 0 65535 r5 (gc_some q14 hg), trivial⟩ ?_
 refine then_n ?_
 refine cnd ((((!r3) || (((a1.getD p1.toNat default).fFrom) == a2)) || (!r4)) || (!r5)) (fun b16 => ?_) (fun b16 => ?_)
 have h17 := cond_t b16 h15
 refine awp_seq (rg0 [10] 0 ⟨95, [(10, .int .i64 1)], []⟩ ?_)
 refine then_n (awp_ret (then_r (inb_r (then_r ?_))))
 obtain rfl := Option.some.inj h17
 exact round_r ⟨rfl, er0 (.int .i64 1)⟩
 have h18 := cond_f b16 h15
 refine awp_skip (then_n (awp_seq (awp_seq (rg0 [1, 2, 3, 4, 5, 11, 12, 71] 2 ⟨95, [(1, sL 5 c_TRedist a1), (2, .int .i64 a2), (3, .int .i64 a3), (4, .int .i64 a4), (5, .ref 0 0), (11, .int .i64 p1), (12, .ref 1 0), (71, .bool ((((a2 == 3) && (((a1.getD p1.toNat default).fType) != 1)) && (((a1.getD p1.toNat default).fType) != 2)) || ((a2 != 3) && (((a1.getD p1.toNat default).fType) != 0))))], [.box (c_TRouter a0), .box (c_TRedist (a1.getD p1.toNat default))]⟩ ?_))))
 refine then_n ?_
 refine cnd ((((a2 == 3) && (((a1.getD p1.toNat default).fType) != 1)) && (((a1.getD p1.toNat default).fType) != 2)) || ((a2 != 3) && (((a1.getD p1.toNat default).fType) != 0))) (fun b19 => ?_) (fun b19 => ?_)
 have h20 := cond_t b19 h18
 refine awp_seq (rg0 [10] 0 ⟨95, [(10, .int .i64 1)], []⟩ ?_)
 refine then_n (awp_ret (then_r (inb_r (then_r ?_))))
 obtain rfl := Option.some.inj h20
 exact round_r ⟨rfl, er0 (.int .i64 1)⟩
 have h21 := cond_f b19 h18
 refine awp_skip (then_n (awp_seq (awp_seq ?_)))
 obtain ⟨r6, q22, h23⟩ := bind_some h21
 refine rg [.pure (.int .i64 r6)] [1, 2, 3, 4, 5, 11, 12, 81] 2 ⟨95, [(1, sL 5 c_TRedist a1), (2, .int .i64 a2), (3, .int .i64 a3), (4, .int .i64 a4), (5, .ref 0 0), (11, .int .i64 p1), (12, .ref 1 0), (81, .bool ((!strEq ((a1.getD p1.toNat default).fMap) (⟨#[]⟩ : ByteArray)) && (decide (r6 < 0))))], [.box (c_TRouter a0), .box (c_TRedist (a1.getD p1.toNat default))]⟩ [] [⟨!strEq ((a1.getD p1.toNat default).fMap) (⟨#[]⟩ : ByteArray), 52, [.agg (c_TRouter a0), .str ((a1.getD p1.toNat default).fMap)], .pure (.int .i64 r6)⟩] nil_all ⟨fun hg => ref8_RouteMap_ok a0 ((a1.getD p1.toNat default).fMap) r6 (gc_some q22 hg), trivial⟩ ?_
 refine then_n ?_
 refine cnd ((!strEq ((a1.getD p1.toNat default).fMap) (⟨#[]⟩ : ByteArray)) && (decide (r6 < 0))) (fun b24 => ?_) (fun b24 => ?_)
 have h25 := cond_t b24 h23
 refine awp_seq (rg0 [10] 0 ⟨95, [(10, .int .i64 5)], []⟩ ?_)
 refine then_n (awp_ret (then_r (inb_r (then_r ?_))))
 obtain rfl := Option.some.inj h25
 exact round_r ⟨rfl, er0 (.int .i64 5)⟩
 have h26 := cond_f b24 h23
 refine awp_skip (then_n (awp_seq (rg0 [1, 2, 3, 4, 5, 11, 12, 13] 2 ⟨95, [(1, sL 5 c_TRedist a1), (2, .int .i64 a2), (3, .int .i64 a3), (4, .int .i64 a4), (5, .ref 0 0), (11, .int .i64 p1), (12, .ref 1 0), (13, .int .i64 0)], [.box (c_TRouter a0), .box (c_TRedist (a1.getD p1.toNat default))]⟩ ?_)))
 refine then_n (awp_block ?_)
 obtain ⟨y9, q36, h37⟩ := bind_some h26
 refine awp_le (s' := ⟨95, [(1, sL 5 c_TRedist a1), (2, .int .i64 a2), (3, .int .i64 a3), (4, .int .i64 a4), (5, .ref 0 0), (11, .int .i64 p1), (12, .ref 1 0), (13, .int .i64 0)], [.box (c_TRouter a0), .box (c_TRedist (a1.getD p1.toNat default))]⟩) (le_rfl) ?_
 refine awp_mono (awp_loop (f := M.ref8_redistributions_l2 a1 p1) (S := fun (p7 : Int) => ⟨95, [(1, sL 5 c_TRedist a1), (2, .int .i64 a2), (3, .int .i64 a3), (4, .int .i64 a4), (5, .ref 0 0), (11, .int .i64 p1), (12, .ref 1 0), (13, .int .i64 p7)], [.box (c_TRouter a0), .box (c_TRedist (a1.getD p1.toNat default))]⟩) (O := (Sum.elim (fun z => OutE 2 (fun z => ⟨95, [(1, sL 5 c_TRedist a1), (2, .int .i64 a2), (3, .int .i64 a3), (4, .int .i64 a4), (5, .ref 0 0), (11, .int .i64 p1)], [.box (c_TRouter a0)]⟩) z) (fun z => OutR Try.prog Try.f77 (.int .i64 z)))) ?_ (x := 0) (y := y9) (loopM_iter q36)) ?_
 intro p7 y8 h27
 unfold M.ref8_redistributions_l2 at h27
 refine awp_seq (awp_seq (rg0 [1, 2, 3, 4, 5, 11, 12, 13, 84] 2 ⟨95, [(1, sL 5 c_TRedist a1), (2, .int .i64 a2), (3, .int .i64 a3), (4, .int .i64 a4), (5, .ref 0 0), (11, .int .i64 p1), (12, .ref 1 0), (13, .int .i64 p7), (84, .bool (decide (p7 < p1)))], [.box (c_TRouter a0), .box (c_TRedist (a1.getD p1.toNat default))]⟩ ?_))
 refine then_n ?_
 refine cnd (decide (p7 < p1)) (fun b28 => ?_) (fun b28 => ?_)
 have h29 := cond_t b28 h27
 refine awp_skip (then_n (awp_seq (awp_block (awp_seq ?_))))
 obtain ⟨c31, h32⟩ := gd_some h29
 refine rgc [1, 2, 3, 4, 5, 11, 12, 13, 94] 2 ⟨95, [(1, sL 5 c_TRedist a1), (2, .int .i64 a2), (3, .int .i64 a3), (4, .int .i64 a4), (5, .ref 0 0), (11, .int .i64 p1), (12, .ref 1 0), (13, .int .i64 p7), (94, .bool (((a1.getD p7.toNat default).fFrom) == ((a1.getD p1.toNat default).fFrom)))], [.box (c_TRouter a0), .box (c_TRedist (a1.getD p1.toNat default))]⟩ [decide (0 ≤ p7), decide (p7 < (a1.length : Int))] c31 ?_
 refine then_n ?_
 refine cnd (((a1.getD p7.toNat default).fFrom) == ((a1.getD p1.toNat default).fFrom)) (fun b33 => ?_) (fun b33 => ?_)
 have h34 := cond_t b33 h32
 refine awp_seq (rg0 [10] 0 ⟨95, [(10, .int .i64 4)], []⟩ ?_)
 refine then_n (awp_ret (inb_r (then_r ?_)))
 obtain rfl := Option.some.inj h34
 exact round_r ⟨rfl, er0 (.int .i64 4)⟩
 have h35 := cond_f b33 h32
 refine awp_skip (inb_n (then_n (rg0 [1, 2, 3, 4, 5, 11, 12, 13] 2 ⟨95, [(1, sL 5 c_TRedist a1), (2, .int .i64 a2), (3, .int .i64 a3), (4, .int .i64 a4), (5, .ref 0 0), (11, .int .i64 p1), (12, .ref 1 0), (13, .int .i64 (wr .i64 (p7 + 1)))], [.box (c_TRouter a0), .box (c_TRedist (a1.getD p1.toNat default))]⟩ ?_)))
 obtain rfl := Option.some.inj h35
 exact round_n (le_rfl)
 have h30 := cond_f b28 h27
 refine awp_exit (then_e ?_)
 obtain rfl := Option.some.inj h30
 exact round_e ⟨rfl, Le.trans (s' := ⟨95, [(1, sL 5 c_TRedist a1), (2, .int .i64 a2), (3, .int .i64 a3), (4, .int .i64 a4), (5, .ref 0 0), (11, .int .i64 p1)], [.box (c_TRouter a0), .box (c_TRedist (a1.getD p1.toNat default))]⟩) (kp [1, 2, 3, 4, 5, 11]) (le_cut (n := 1) (by kernel_rfl))⟩
 intro e38 s39 o40
 rcases y9 with g10 | y11
 have h41 := elim_l h37
 obtain ⟨rfl, l43⟩ := o40
 refine inb_here (inb_n ?_)
 refine then_le (s' := ⟨95, [(1, sL 5 c_TRedist a1), (2, .int .i64 a2), (3, .int .i64 a3), (4, .int .i64 a4), (5, .ref 0 0), (11, .int .i64 p1)], [.box (c_TRouter a0)]⟩) (l43) ?_
 refine rg0 [1, 2, 3, 4, 5, 11] 1 ⟨95, [(1, sL 5 c_TRedist a1), (2, .int .i64 a2), (3, .int .i64 a3), (4, .int .i64 a4), (5, .ref 0 0), (11, .int .i64 (wr .i64 (p1 + 1)))], [.box (c_TRouter a0)]⟩ ?_
 obtain rfl := Option.some.inj h41
 exact round_n (le_rfl)
 have h42 := elim_r h37
 obtain ⟨rfl, n44⟩ := o40
 refine inb_r (inb_r (then_r ?_))
 obtain rfl := Option.some.inj h42
 exact round_r ⟨rfl, n44⟩
 have h7 := cond_f b5 h4
 refine awp_exit (then_e ?_)
 obtain rfl := Option.some.inj h7
 exact round_e ⟨rfl, Le.trans (s' := ⟨95, [], [.box (c_TRouter a0)]⟩) (kp []) (le_cut (n := 0) (by kernel_rfl))⟩
 intro e47 s48 o49
 rcases y12 with g13 | y14
 have h50 := elim_l h46
 obtain ⟨rfl, l52⟩ := o49
 refine inb_here ?_
 refine then_le (s' := ⟨95, [], []⟩) (l52) ?_
 refine awp_seq (rg0 [10] 0 ⟨95, [(10, .int .i64 0)], []⟩ ?_)
 refine then_n (awp_ret ?_)
 obtain rfl := Option.some.inj h50
 exact er0 (.int .i64 0)
 have h51 := elim_r h46
 obtain ⟨rfl, n53⟩ := o49
 refine inb_r (then_r ?_)
 obtain rfl := Option.some.inj h51
 exact n53
theorem ref8_linkState_ok (a0 : TRouter) (r : Int) (h : M.ref8_linkState a0 = some r) : Fn Try.prog 46 [.agg (c_TRouter a0)] (.pure (.int .i64 r)) := by
 unfold M.ref8_linkState at h
 refine fn_pure Try.func46 rfl (by kernel_rfl) ?_
 refine awp_seq (rg0 [1] 1 ⟨96, [(1, .ref 0 0)], [.box (c_TRouter a0)]⟩ ?_)
 refine then_n (awp_seq (rg0 [1, 3] 2 ⟨96, [(1, .ref 0 0), (3, .ref 1 0)], [.box (c_TRouter a0), .box (c_TLinkState a0.fLS)]⟩ ?_))
 refine then_n (awp_seq (awp_seq (rg0 [1, 3, 10] 2 ⟨96, [(1, .ref 0 0), (3, .ref 1 0), (10, .bool (!a0.fLS.fOn))], [.box (c_TRouter a0), .box (c_TLinkState a0.fLS)]⟩ ?_)))
 refine then_n ?_
 refine cnd (!a0.fLS.fOn) (fun b1 => ?_) (fun b1 => ?_)
 have h2 := cond_t b1 h
 refine awp_seq (awp_seq (rg0 [25] 0 ⟨96, [(25, .bool (((a0.fLS.fAdmin != 0) || (decide ((a0.fLS.fRanges.length : Int) > 0))) || (decide ((a0.fLS.fRedist.length : Int) > 0))))], []⟩ ?_))
 refine then_n ?_
 refine cnd (((a0.fLS.fAdmin != 0) || (decide ((a0.fLS.fRanges.length : Int) > 0))) || (decide ((a0.fLS.fRedist.length : Int) > 0))) (fun b4 => ?_) (fun b4 => ?_)
 have h5 := cond_t b4 h2
 refine awp_seq (rg0 [2] 0 ⟨96, [(2, .int .i64 1)], []⟩ ?_)
 refine then_n (awp_ret (then_r (then_r ?_)))
 obtain rfl := Option.some.inj h5
 exact er0 (.int .i64 1)
 have h6 := cond_f b4 h2
 refine awp_skip (then_n (awp_seq (rg0 [2] 0 ⟨96, [(2, .int .i64 0)], []⟩ ?_)))
 refine then_n (awp_ret (then_r ?_))
 obtain rfl := Option.some.inj h6
 exact er0 (.int .i64 0)
 have h3 := cond_f b1 h
 refine awp_skip (then_n (awp_seq (awp_seq ?_)))
 obtain ⟨r1, q7, h8⟩ := bind_some h3
 refine rg [.pure (.bool r1)] [1, 3, 29] 2 ⟨96, [(1, .ref 0 0), (3, .ref 1 0), (29, .bool (!r1))], [.box (c_TRouter a0), .box (c_TLinkState a0.fLS)]⟩ [] [⟨true, 38, [.int .i64 a0.fLS.fAdmin, .int .i64 1, .int .i64 255], .pure (.bool r1)⟩] nil_all ⟨fun _ => ref8_within_ok a0.fLS.fAdmin 1 255 r1 q7, trivial⟩ ?_
 refine then_n ?_
 refine cnd (!r1) (fun b9 => ?_) (fun b9 => ?_)
 have h10 := cond_t b9 h8
 refine awp_seq (rg0 [2] 0 ⟨96, [(2, .int .i64 1)], []⟩ ?_)
 refine then_n (awp_ret (then_r ?_))
 obtain rfl := Option.some.inj h10
 exact er0 (.int .i64 1)
 have h11 := cond_f b9 h8
 refine awp_skip (then_n (awp_seq (awp_seq (rg0 [1, 3, 33] 2 ⟨96, [(1, .ref 0 0), (3, .ref 1 0), (33, .bool (decide ((a0.fLS.fRanges.length : Int) > 4)))], [.box (c_TRouter a0), .box (c_TLinkState a0.fLS)]⟩ ?_))))
 refine then_n ?_
 refine cnd (decide ((a0.fLS.fRanges.length : Int) > 4)) (fun b12 => ?_) (fun b12 => ?_)
 have h13 := cond_t b12 h11
 refine awp_seq (rg0 [2] 0 ⟨96, [(2, .int .i64 7)], []⟩ ?_)
 refine then_n (awp_ret (then_r ?_))
 obtain rfl := Option.some.inj h13
 exact er0 (.int .i64 7)
 have h14 := cond_f b12 h11
 refine awp_skip (then_n (awp_seq (awp_seq (rg0 [1, 3, 4] 2 ⟨96, [(1, .ref 0 0), (3, .ref 1 0), (4, .int .i64 0)], [.box (c_TRouter a0), .box (c_TLinkState a0.fLS)]⟩ ?_))))
 refine then_n (awp_block ?_)
 obtain ⟨y12, q48, h49⟩ := bind_some h14
 refine awp_le (s' := ⟨96, [(1, .ref 0 0), (3, .ref 1 0), (4, .int .i64 0)], [.box (c_TRouter a0), .box (c_TLinkState a0.fLS)]⟩) (le_rfl) ?_
 refine awp_mono (awp_loop (f := M.ref8_linkState_l1 a0) (S := fun (p2 : Int) => ⟨96, [(1, .ref 0 0), (3, .ref 1 0), (4, .int .i64 p2)], [.box (c_TRouter a0), .box (c_TLinkState a0.fLS)]⟩) (O := (Sum.elim (fun z => OutE 0 (fun z => ⟨96, [(1, .ref 0 0), (3, .ref 1 0)], [.box (c_TRouter a0), .box (c_TLinkState a0.fLS)]⟩) z) (fun z => OutR Try.prog Try.f46 (.int .i64 z)))) ?_ (x := 0) (y := y12) (loopM_iter q48)) ?_
 intro p2 y3 h15
 unfold M.ref8_linkState_l1 at h15
 refine awp_seq (awp_seq (rg0 [1, 3, 4, 38] 2 ⟨96, [(1, .ref 0 0), (3, .ref 1 0), (4, .int .i64 p2), (38, .bool (decide (p2 < (a0.fLS.fRanges.length : Int))))], [.box (c_TRouter a0), .box (c_TLinkState a0.fLS)]⟩ ?_))
 refine then_n ?_
 refine cnd (decide (p2 < (a0.fLS.fRanges.length : Int))) (fun b16 => ?_) (fun b16 => ?_)
 have h17 := cond_t b16 h15
 refine awp_skip (then_n (awp_seq (awp_block (awp_seq (awp_seq ?_)))))
 obtain ⟨r4, q19, h20⟩ := bind_some h17
 obtain ⟨r5, q21, h22⟩ := bind_some h20
 obtain ⟨c23, h24⟩ := gd_some h22
 refine rg [.pure (.bool r4), .pure (.bool r5)] [1, 3, 4, 58] 2 ⟨96, [(1, .ref 0 0), (3, .ref 1 0), (4, .int .i64 p2), (58, .bool ((!r4) || (!r5)))], [.box (c_TRouter a0), .box (c_TLinkState a0.fLS)]⟩ [decide (0 ≤ p2), decide (p2 < (a0.fLS.fRanges.length : Int)), guardB (!(!r4)) (decide (0 ≤ p2)), guardB (!(!r4)) (decide (p2 < (a0.fLS.fRanges.length : Int)))] [⟨true, 38, [.int .i64 ((a0.fLS.fRanges.getD p2.toNat default).fArea), .int .i64 0, .int .i64 255], .pure (.bool r4)⟩, ⟨(!(!r4)), 53, [.agg (c_TPrefix ((a0.fLS.fRanges.getD p2.toNat default).fPrefix))], .pure (.bool r5)⟩] c23 ⟨fun _ => ref8_within_ok ((a0.fLS.fRanges.getD p2.toNat default).fArea) 0 255 r4 q19, fun hg => ref4_Valid_ok ((a0.fLS.fRanges.getD p2.toNat default).fPrefix) r5 (gc_some q21 hg), trivial⟩ ?_
 refine then_n ?_
 refine cnd ((!r4) || (!r5)) (fun b25 => ?_) (fun b25 => ?_)
 have h26 := cond_t b25 h24
 refine awp_seq (rg0 [2] 0 ⟨96, [(2, .int .i64 1)], []⟩ ?_)
 refine then_n (awp_ret (then_r (inb_r (then_r ?_))))
 obtain rfl := Option.some.inj h26
 exact round_r ⟨rfl, er0 (.int .i64 1)⟩
 have h27 := cond_f b25 h24
 refine awp_skip (then_n (awp_seq (rg0 [1, 3, 4, 5] 2 ⟨96, [(1, .ref 0 0), (3, .ref 1 0), (4, .int .i64 p2), (5, .int .i64 0)], [.box (c_TRouter a0), .box (c_TLinkState a0.fLS)]⟩ ?_)))
 refine then_n (awp_block ?_)
 obtain ⟨y9, q39, h40⟩ := bind_some h27
 refine awp_le (s' := ⟨96, [(1, .ref 0 0), (3, .ref 1 0), (4, .int .i64 p2), (5, .int .i64 0)], [.box (c_TRouter a0), .box (c_TLinkState a0.fLS)]⟩) (le_rfl) ?_
 refine awp_mono (awp_loop (f := M.ref8_linkState_l2 a0 p2) (S := fun (p6 : Int) => ⟨96, [(1, .ref 0 0), (3, .ref 1 0), (4, .int .i64 p2), (5, .int .i64 p6)], [.box (c_TRouter a0), .box (c_TLinkState a0.fLS)]⟩) (O := (Sum.elim (fun z => OutE 2 (fun z => ⟨96, [(1, .ref 0 0), (3, .ref 1 0), (4, .int .i64 p2)], [.box (c_TRouter a0), .box (c_TLinkState a0.fLS)]⟩) z) (fun z => OutR Try.prog Try.f46 (.int .i64 z)))) ?_ (x := 0) (y := y9) (loopM_iter q39)) ?_
 intro p6 y7 h28
 unfold M.ref8_linkState_l2 at h28
 refine awp_seq (awp_seq (rg0 [1, 3, 4, 5, 61] 2 ⟨96, [(1, .ref 0 0), (3, .ref 1 0), (4, .int .i64 p2), (5, .int .i64 p6), (61, .bool (decide (p6 < p2)))], [.box (c_TRouter a0), .box (c_TLinkState a0.fLS)]⟩ ?_))
 refine then_n ?_
 refine cnd (decide (p6 < p2)) (fun b29 => ?_) (fun b29 => ?_)
 have h30 := cond_t b29 h28
 refine awp_skip (then_n (awp_seq (awp_block (awp_seq ?_))))
 obtain ⟨r8, q32, h33⟩ := bind_some h30
 obtain ⟨c34, h35⟩ := gd_some h33
 refine rg [.pure (.bool r8)] [1, 3, 4, 5, 91] 2 ⟨96, [(1, .ref 0 0), (3, .ref 1 0), (4, .int .i64 p2), (5, .int .i64 p6), (91, .bool ((((a0.fLS.fRanges.getD p6.toNat default).fArea) == ((a0.fLS.fRanges.getD p2.toNat default).fArea)) && r8))], [.box (c_TRouter a0), .box (c_TLinkState a0.fLS)]⟩ [decide (0 ≤ p6), decide (p6 < (a0.fLS.fRanges.length : Int)), decide (0 ≤ p2), decide (p2 < (a0.fLS.fRanges.length : Int)), guardB (((a0.fLS.fRanges.getD p6.toNat default).fArea) == ((a0.fLS.fRanges.getD p2.toNat default).fArea)) (decide (0 ≤ p6)), guardB (((a0.fLS.fRanges.getD p6.toNat default).fArea) == ((a0.fLS.fRanges.getD p2.toNat default).fArea)) (decide (p6 < (a0.fLS.fRanges.length : Int))), guardB (((a0.fLS.fRanges.getD p6.toNat default).fArea) == ((a0.fLS.fRanges.getD p2.toNat default).fArea)) (decide (0 ≤ p2)), guardB (((a0.fLS.fRanges.getD p6.toNat default).fArea) == ((a0.fLS.fRanges.getD p2.toNat default).fArea)) (decide (p2 < (a0.fLS.fRanges.length : Int)))] [⟨((a0.fLS.fRanges.getD p6.toNat default).fArea) == ((a0.fLS.fRanges.getD p2.toNat default).fArea), 69, [.agg (c_TPrefix ((a0.fLS.fRanges.getD p6.toNat default).fPrefix)), .agg (c_TPrefix ((a0.fLS.fRanges.getD p2.toNat default).fPrefix))], .pure (.bool r8)⟩] c34 ⟨fun hg => ref4_Overlaps_ok ((a0.fLS.fRanges.getD p6.toNat default).fPrefix) ((a0.fLS.fRanges.getD p2.toNat default).fPrefix) r8 (gc_some q32 hg), trivial⟩ ?_
 refine then_n ?_
 refine cnd ((((a0.fLS.fRanges.getD p6.toNat default).fArea) == ((a0.fLS.fRanges.getD p2.toNat default).fArea)) && r8) (fun b36 => ?_) (fun b36 => ?_)
 have h37 := cond_t b36 h35
 refine awp_seq (rg0 [2] 0 ⟨96, [(2, .int .i64 6)], []⟩ ?_)
 refine then_n (awp_ret (inb_r (then_r ?_)))
 obtain rfl := Option.some.inj h37
 exact round_r ⟨rfl, er0 (.int .i64 6)⟩
 have h38 := cond_f b36 h35
 refine awp_skip (inb_n (then_n (rg0 [1, 3, 4, 5] 2 ⟨96, [(1, .ref 0 0), (3, .ref 1 0), (4, .int .i64 p2), (5, .int .i64 (wr .i64 (p6 + 1)))], [.box (c_TRouter a0), .box (c_TLinkState a0.fLS)]⟩ ?_)))
 obtain rfl := Option.some.inj h38
 exact round_n (le_rfl)
 have h31 := cond_f b29 h28
 refine awp_exit (then_e ?_)
 obtain rfl := Option.some.inj h31
 exact round_e ⟨rfl, kp [1, 3, 4]⟩
 intro e41 s42 o43
 rcases y9 with g10 | y11
 have h44 := elim_l h40
 obtain ⟨rfl, l46⟩ := o43
 refine inb_here (inb_n ?_)
 refine then_le (s' := ⟨96, [(1, .ref 0 0), (3, .ref 1 0), (4, .int .i64 p2)], [.box (c_TRouter a0), .box (c_TLinkState a0.fLS)]⟩) (l46) ?_
 refine rg0 [1, 3, 4] 2 ⟨96, [(1, .ref 0 0), (3, .ref 1 0), (4, .int .i64 (wr .i64 (p2 + 1)))], [.box (c_TRouter a0), .box (c_TLinkState a0.fLS)]⟩ ?_
 obtain rfl := Option.some.inj h44
 exact round_n (le_rfl)
 have h45 := elim_r h40
 obtain ⟨rfl, n47⟩ := o43
 refine inb_r (inb_r (then_r ?_))
 obtain rfl := Option.some.inj h45
 exact round_r ⟨rfl, n47⟩
 have h18 := cond_f b16 h15
 refine awp_exit (then_e ?_)
 obtain rfl := Option.some.inj h18
 exact round_e ⟨rfl, kp [1, 3]⟩
 intro e50 s51 o52
 rcases y12 with g13 | y14
 have h53 := elim_l h49
 obtain ⟨rfl, l55⟩ := o52
 refine inb_here ?_
 refine then_le (s' := ⟨96, [(1, .ref 0 0), (3, .ref 1 0)], [.box (c_TRouter a0), .box (c_TLinkState a0.fLS)]⟩) (l55) ?_
 refine awp_seq ?_
 obtain ⟨r15, q56, h57⟩ := bind_some h53
 refine rg [.pure (.int .i64 r15)] [2] 0 ⟨96, [(2, .int .i64 r15)], []⟩ [] [⟨true, 77, [.agg (c_TRouter a0), sL 5 c_TRedist a0.fLS.fRedist, .int .i64 3, .int .i64 0, .int .i64 16777215], .pure (.int .i64 r15)⟩] nil_all ⟨fun _ => ref8_redistributions_ok a0 a0.fLS.fRedist 3 0 16777215 r15 q56, trivial⟩ ?_
 refine then_n (awp_ret ?_)
 obtain rfl := Option.some.inj h57
 exact er0 (.int .i64 r15)
 have h54 := elim_r h49
 obtain ⟨rfl, n58⟩ := o52
 refine inb_r (then_r ?_)
 obtain rfl := Option.some.inj h54
 exact n58
theorem ref8_distance_ok (a0 : TRouter) (r : Int) (h : M.ref8_distance a0 = some r) : Fn Try.prog 47 [.agg (c_TRouter a0)] (.pure (.int .i64 r)) := by
 unfold M.ref8_distance at h
 refine fn_pure Try.func47 rfl (by kernel_rfl) ?_
 refine awp_seq (rg0 [1] 1 ⟨58, [(1, .ref 0 0)], [.box (c_TRouter a0)]⟩ ?_)
 refine then_n (awp_seq (rg0 [1, 3] 2 ⟨58, [(1, .ref 0 0), (3, .ref 1 0)], [.box (c_TRouter a0), .box (c_TDistanceVector a0.fDV)]⟩ ?_))
 refine then_n (awp_seq (awp_seq (rg0 [1, 3, 8] 2 ⟨58, [(1, .ref 0 0), (3, .ref 1 0), (8, .bool (!a0.fDV.fOn))], [.box (c_TRouter a0), .box (c_TDistanceVector a0.fDV)]⟩ ?_)))
 refine then_n ?_
 refine cnd (!a0.fDV.fOn) (fun b1 => ?_) (fun b1 => ?_)
 have h2 := cond_t b1 h
 refine awp_seq (awp_seq (rg0 [27] 0 ⟨58, [(27, .bool ((((a0.fDV.fAdmin != 0) || (!strEq a0.fDV.fIn (⟨#[]⟩ : ByteArray))) || (!strEq a0.fDV.fOut (⟨#[]⟩ : ByteArray))) || (decide ((a0.fDV.fRedist.length : Int) > 0))))], []⟩ ?_))
 refine then_n ?_
 refine cnd ((((a0.fDV.fAdmin != 0) || (!strEq a0.fDV.fIn (⟨#[]⟩ : ByteArray))) || (!strEq a0.fDV.fOut (⟨#[]⟩ : ByteArray))) || (decide ((a0.fDV.fRedist.length : Int) > 0))) (fun b4 => ?_) (fun b4 => ?_)
 have h5 := cond_t b4 h2
 refine awp_seq (rg0 [2] 0 ⟨58, [(2, .int .i64 1)], []⟩ ?_)
 refine then_n (awp_ret (then_r (then_r ?_)))
 obtain rfl := Option.some.inj h5
 exact er0 (.int .i64 1)
 have h6 := cond_f b4 h2
 refine awp_skip (then_n (awp_seq (rg0 [2] 0 ⟨58, [(2, .int .i64 0)], []⟩ ?_)))
 refine then_n (awp_ret (then_r ?_))
 obtain rfl := Option.some.inj h6
 exact er0 (.int .i64 0)
 have h3 := cond_f b1 h
 refine awp_skip (then_n (awp_seq (awp_seq ?_)))
 obtain ⟨r1, q7, h8⟩ := bind_some h3
 refine rg [.pure (.bool r1)] [1, 3, 31] 2 ⟨58, [(1, .ref 0 0), (3, .ref 1 0), (31, .bool (!r1))], [.box (c_TRouter a0), .box (c_TDistanceVector a0.fDV)]⟩ [] [⟨true, 38, [.int .i64 a0.fDV.fAdmin, .int .i64 1, .int .i64 255], .pure (.bool r1)⟩] nil_all ⟨fun _ => ref8_within_ok a0.fDV.fAdmin 1 255 r1 q7, trivial⟩ ?_
 refine then_n ?_
 refine cnd (!r1) (fun b9 => ?_) (fun b9 => ?_)
 have h10 := cond_t b9 h8
 refine awp_seq (rg0 [2] 0 ⟨58, [(2, .int .i64 1)], []⟩ ?_)
 refine then_n (awp_ret (then_r ?_))
 obtain rfl := Option.some.inj h10
 exact er0 (.int .i64 1)
 have h11 := cond_f b9 h8
 refine awp_skip (then_n (awp_seq (awp_seq ?_)))
 obtain ⟨r2, q12, h13⟩ := bind_some h11
 obtain ⟨r3, q14, h15⟩ := bind_some h13
 refine rg [.pure (.int .i64 r2), .pure (.int .i64 r3)] [1, 3, 53] 2 ⟨58, [(1, .ref 0 0), (3, .ref 1 0), (53, .bool (((!strEq a0.fDV.fIn (⟨#[]⟩ : ByteArray)) && (decide (r2 < 0))) || ((!strEq a0.fDV.fOut (⟨#[]⟩ : ByteArray)) && (decide (r3 < 0)))))], [.box (c_TRouter a0), .box (c_TDistanceVector a0.fDV)]⟩ [] [⟨!strEq a0.fDV.fIn (⟨#[]⟩ : ByteArray), 72, [.agg (c_TRouter a0), .str a0.fDV.fIn], .pure (.int .i64 r2)⟩, ⟨((!((!strEq a0.fDV.fIn (⟨#[]⟩ : ByteArray)) && (decide (r2 < 0)))) && (!strEq a0.fDV.fOut (⟨#[]⟩ : ByteArray))), 72, [.agg (c_TRouter a0), .str a0.fDV.fOut], .pure (.int .i64 r3)⟩] nil_all ⟨fun hg => ref8_PrefixList_ok a0 a0.fDV.fIn r2 (gc_some q12 hg), fun hg => ref8_PrefixList_ok a0 a0.fDV.fOut r3 (gc_some q14 hg), trivial⟩ ?_
 refine then_n ?_
 refine cnd (((!strEq a0.fDV.fIn (⟨#[]⟩ : ByteArray)) && (decide (r2 < 0))) || ((!strEq a0.fDV.fOut (⟨#[]⟩ : ByteArray)) && (decide (r3 < 0)))) (fun b16 => ?_) (fun b16 => ?_)
 have h17 := cond_t b16 h15
 refine awp_seq (rg0 [2] 0 ⟨58, [(2, .int .i64 5)], []⟩ ?_)
 refine then_n (awp_ret (then_r ?_))
 obtain rfl := Option.some.inj h17
 exact er0 (.int .i64 5)
 have h18 := cond_f b16 h15
 refine awp_skip (then_n (awp_seq ?_))
 obtain ⟨r4, q19, h20⟩ := bind_some h18
 refine rg [.pure (.int .i64 r4)] [2] 0 ⟨58, [(2, .int .i64 r4)], []⟩ [] [⟨true, 77, [.agg (c_TRouter a0), sL 5 c_TRedist a0.fDV.fRedist, .int .i64 4, .int .i64 1, .int .i64 15], .pure (.int .i64 r4)⟩] nil_all ⟨fun _ => ref8_redistributions_ok a0 a0.fDV.fRedist 4 1 15 r4 q19, trivial⟩ ?_
 refine then_n (awp_ret ?_)
 obtain rfl := Option.some.inj h20
 exact er0 (.int .i64 r4)
theorem ref8_neighbors_ok (a0 : TRouter) (r : Int) (h : M.ref8_neighbors a0 = some r) : Fn Try.prog 78 [.agg (c_TRouter a0)] (.pure (.int .i64 r)) := by
 unfold M.ref8_neighbors at h
 refine fn_pure Try.func78 rfl (by kernel_rfl) ?_
 refine awp_seq (rg0 [1] 1 ⟨83, [(1, .ref 0 0)], [.box (c_TRouter a0)]⟩ ?_)
 refine then_n (awp_seq (rg0 [1, 3] 1 ⟨83, [(1, .ref 0 0), (3, sL 4 c_TNeighbor a0.fPV.fNeighbors)], [.box (c_TRouter a0)]⟩ ?_))
 refine then_n (awp_seq (awp_seq (rg0 [1, 3, 11] 1 ⟨83, [(1, .ref 0 0), (3, sL 4 c_TNeighbor a0.fPV.fNeighbors), (11, .bool (decide ((a0.fPV.fNeighbors.length : Int) > 8)))], [.box (c_TRouter a0)]⟩ ?_)))
 refine then_n ?_
 refine cnd (decide ((a0.fPV.fNeighbors.length : Int) > 8)) (fun b1 => ?_) (fun b1 => ?_)
 have h2 := cond_t b1 h
 refine awp_seq (rg0 [2] 0 ⟨83, [(2, .int .i64 7)], []⟩ ?_)
 refine then_n (awp_ret (then_r ?_))
 obtain rfl := Option.some.inj h2
 exact er0 (.int .i64 7)
 have h3 := cond_f b1 h
 refine awp_skip (then_n (awp_seq (awp_seq (rg0 [1, 3, 4] 1 ⟨83, [(1, .ref 0 0), (3, sL 4 c_TNeighbor a0.fPV.fNeighbors), (4, .int .i64 0)], [.box (c_TRouter a0)]⟩ ?_))))
 refine then_n (awp_block ?_)
 obtain ⟨y11, q42, h43⟩ := bind_some h3
 refine awp_le (s' := ⟨83, [(1, .ref 0 0), (3, sL 4 c_TNeighbor a0.fPV.fNeighbors), (4, .int .i64 0)], [.box (c_TRouter a0)]⟩) (le_rfl) ?_
 refine awp_mono (awp_loop (f := M.ref8_neighbors_l1 a0) (S := fun (p1 : Int) => ⟨83, [(1, .ref 0 0), (3, sL 4 c_TNeighbor a0.fPV.fNeighbors), (4, .int .i64 p1)], [.box (c_TRouter a0)]⟩) (O := (Sum.elim (fun z => OutE 0 (fun z => ⟨83, [], []⟩) z) (fun z => OutR Try.prog Try.f78 (.int .i64 z)))) ?_ (x := 0) (y := y11) (loopM_iter q42)) ?_
 intro p1 y2 h4
 unfold M.ref8_neighbors_l1 at h4
 refine awp_seq (awp_seq (rg0 [1, 3, 4, 15] 1 ⟨83, [(1, .ref 0 0), (3, sL 4 c_TNeighbor a0.fPV.fNeighbors), (4, .int .i64 p1), (15, .bool (decide (p1 < (a0.fPV.fNeighbors.length : Int))))], [.box (c_TRouter a0)]⟩ ?_))
 refine then_n ?_
 refine cnd (decide (p1 < (a0.fPV.fNeighbors.length : Int))) (fun b5 => ?_) (fun b5 => ?_)
 have h6 := cond_t b5 h4
 refine awp_skip (then_n (awp_seq (awp_block (awp_seq (awp_seq ?_)))))
 obtain ⟨r3, q8, h9⟩ := bind_some h6
 obtain ⟨c10, h11⟩ := gd_some h9
 refine rg [.pure (.bool r3)] [1, 3, 4, 32] 1 ⟨83, [(1, .ref 0 0), (3, sL 4 c_TNeighbor a0.fPV.fNeighbors), (4, .int .i64 p1), (32, .bool ((((a0.fPV.fNeighbors.getD p1.toNat default).fAddr) == 0) || (!r3)))], [.box (c_TRouter a0)]⟩ [decide (0 ≤ p1), decide (p1 < (a0.fPV.fNeighbors.length : Int)), guardB (!(((a0.fPV.fNeighbors.getD p1.toNat default).fAddr) == 0)) (decide (0 ≤ p1)), guardB (!(((a0.fPV.fNeighbors.getD p1.toNat default).fAddr) == 0)) (decide (p1 < (a0.fPV.fNeighbors.length : Int)))] [⟨(!(((a0.fPV.fNeighbors.getD p1.toNat default).fAddr) == 0)), 38, [.int .i64 ((a0.fPV.fNeighbors.getD p1.toNat default).fAS), .int .i64 1, .int .i64 65535], .pure (.bool r3)⟩] c10 ⟨fun hg => ref8_within_ok ((a0.fPV.fNeighbors.getD p1.toNat default).fAS) 1 65535 r3 (gc_some q8 hg), trivial⟩ ?_
 refine then_n ?_
 refine cnd ((((a0.fPV.fNeighbors.getD p1.toNat default).fAddr) == 0) || (!r3)) (fun b12 => ?_) (fun b12 => ?_)
 have h13 := cond_t b12 h11
 refine awp_seq (rg0 [2] 0 ⟨83, [(2, .int .i64 1)], []⟩ ?_)
 refine then_n (awp_ret (then_r (inb_r (then_r ?_))))
 obtain rfl := Option.some.inj h13
 exact round_r ⟨rfl, er0 (.int .i64 1)⟩
 have h14 := cond_f b12 h11
 refine awp_skip (then_n (awp_seq (awp_seq ?_)))
 obtain ⟨r4, q15, h16⟩ := bind_some h14
 obtain ⟨r5, q17, h18⟩ := bind_some h16
 obtain ⟨c19, h20⟩ := gd_some h18
 refine rg [.pure (.int .i64 r4), .pure (.int .i64 r5)] [1, 3, 4, 66] 1 ⟨83, [(1, .ref 0 0), (3, sL 4 c_TNeighbor a0.fPV.fNeighbors), (4, .int .i64 p1), (66, .bool (((!strEq ((a0.fPV.fNeighbors.getD p1.toNat default).fIn) (⟨#[]⟩ : ByteArray)) && (decide (r4 < 0))) || ((!strEq ((a0.fPV.fNeighbors.getD p1.toNat default).fOut) (⟨#[]⟩ : ByteArray)) && (decide (r5 < 0)))))], [.box (c_TRouter a0)]⟩ [decide (0 ≤ p1), decide (p1 < (a0.fPV.fNeighbors.length : Int)), guardB (!strEq ((a0.fPV.fNeighbors.getD p1.toNat default).fIn) (⟨#[]⟩ : ByteArray)) (decide (0 ≤ p1)), guardB (!strEq ((a0.fPV.fNeighbors.getD p1.toNat default).fIn) (⟨#[]⟩ : ByteArray)) (decide (p1 < (a0.fPV.fNeighbors.length : Int))), guardB (!((!strEq ((a0.fPV.fNeighbors.getD p1.toNat default).fIn) (⟨#[]⟩ : ByteArray)) && (decide (r4 < 0)))) (decide (0 ≤ p1)), guardB (!((!strEq ((a0.fPV.fNeighbors.getD p1.toNat default).fIn) (⟨#[]⟩ : ByteArray)) && (decide (r4 < 0)))) (decide (p1 < (a0.fPV.fNeighbors.length : Int))), guardB ((!((!strEq ((a0.fPV.fNeighbors.getD p1.toNat default).fIn) (⟨#[]⟩ : ByteArray)) && (decide (r4 < 0)))) && (!strEq ((a0.fPV.fNeighbors.getD p1.toNat default).fOut) (⟨#[]⟩ : ByteArray))) (decide (0 ≤ p1)), guardB ((!((!strEq ((a0.fPV.fNeighbors.getD p1.toNat default).fIn) (⟨#[]⟩ : ByteArray)) && (decide (r4 < 0)))) && (!strEq ((a0.fPV.fNeighbors.getD p1.toNat default).fOut) (⟨#[]⟩ : ByteArray))) (decide (p1 < (a0.fPV.fNeighbors.length : Int)))] [⟨!strEq ((a0.fPV.fNeighbors.getD p1.toNat default).fIn) (⟨#[]⟩ : ByteArray), 52, [.agg (c_TRouter a0), .str ((a0.fPV.fNeighbors.getD p1.toNat default).fIn)], .pure (.int .i64 r4)⟩, ⟨((!((!strEq ((a0.fPV.fNeighbors.getD p1.toNat default).fIn) (⟨#[]⟩ : ByteArray)) && (decide (r4 < 0)))) && (!strEq ((a0.fPV.fNeighbors.getD p1.toNat default).fOut) (⟨#[]⟩ : ByteArray))), 52, [.agg (c_TRouter a0), .str ((a0.fPV.fNeighbors.getD p1.toNat default).fOut)], .pure (.int .i64 r5)⟩] c19 ⟨fun hg => ref8_RouteMap_ok a0 ((a0.fPV.fNeighbors.getD p1.toNat default).fIn) r4 (gc_some q15 hg), fun hg => ref8_RouteMap_ok a0 ((a0.fPV.fNeighbors.getD p1.toNat default).fOut) r5 (gc_some q17 hg), trivial⟩ ?_
 refine then_n ?_
 refine cnd (((!strEq ((a0.fPV.fNeighbors.getD p1.toNat default).fIn) (⟨#[]⟩ : ByteArray)) && (decide (r4 < 0))) || ((!strEq ((a0.fPV.fNeighbors.getD p1.toNat default).fOut) (⟨#[]⟩ : ByteArray)) && (decide (r5 < 0)))) (fun b21 => ?_) (fun b21 => ?_)
 have h22 := cond_t b21 h20
 refine awp_seq (rg0 [2] 0 ⟨83, [(2, .int .i64 5)], []⟩ ?_)
 refine then_n (awp_ret (then_r (inb_r (then_r ?_))))
 obtain rfl := Option.some.inj h22
 exact round_r ⟨rfl, er0 (.int .i64 5)⟩
 have h23 := cond_f b21 h20
 refine awp_skip (then_n (awp_seq (rg0 [1, 3, 4, 5] 1 ⟨83, [(1, .ref 0 0), (3, sL 4 c_TNeighbor a0.fPV.fNeighbors), (4, .int .i64 p1), (5, .int .i64 0)], [.box (c_TRouter a0)]⟩ ?_)))
 refine then_n (awp_block ?_)
 obtain ⟨y8, q33, h34⟩ := bind_some h23
 refine awp_le (s' := ⟨83, [(1, .ref 0 0), (3, sL 4 c_TNeighbor a0.fPV.fNeighbors), (4, .int .i64 p1), (5, .int .i64 0)], [.box (c_TRouter a0)]⟩) (le_rfl) ?_
 refine awp_mono (awp_loop (f := M.ref8_neighbors_l2 a0 p1) (S := fun (p6 : Int) => ⟨83, [(1, .ref 0 0), (3, sL 4 c_TNeighbor a0.fPV.fNeighbors), (4, .int .i64 p1), (5, .int .i64 p6)], [.box (c_TRouter a0)]⟩) (O := (Sum.elim (fun z => OutE 2 (fun z => ⟨83, [(1, .ref 0 0), (3, sL 4 c_TNeighbor a0.fPV.fNeighbors), (4, .int .i64 p1)], [.box (c_TRouter a0)]⟩) z) (fun z => OutR Try.prog Try.f78 (.int .i64 z)))) ?_ (x := 0) (y := y8) (loopM_iter q33)) ?_
 intro p6 y7 h24
 unfold M.ref8_neighbors_l2 at h24
 refine awp_seq (awp_seq (rg0 [1, 3, 4, 5, 69] 1 ⟨83, [(1, .ref 0 0), (3, sL 4 c_TNeighbor a0.fPV.fNeighbors), (4, .int .i64 p1), (5, .int .i64 p6), (69, .bool (decide (p6 < p1)))], [.box (c_TRouter a0)]⟩ ?_))
 refine then_n ?_
 refine cnd (decide (p6 < p1)) (fun b25 => ?_) (fun b25 => ?_)
 have h26 := cond_t b25 h24
 refine awp_skip (then_n (awp_seq (awp_block (awp_seq ?_))))
 obtain ⟨c28, h29⟩ := gd_some h26
 refine rgc [1, 3, 4, 5, 82] 1 ⟨83, [(1, .ref 0 0), (3, sL 4 c_TNeighbor a0.fPV.fNeighbors), (4, .int .i64 p1), (5, .int .i64 p6), (82, .bool (((a0.fPV.fNeighbors.getD p6.toNat default).fAddr) == ((a0.fPV.fNeighbors.getD p1.toNat default).fAddr)))], [.box (c_TRouter a0)]⟩ [decide (0 ≤ p6), decide (p6 < (a0.fPV.fNeighbors.length : Int)), decide (0 ≤ p1), decide (p1 < (a0.fPV.fNeighbors.length : Int))] c28 ?_
 refine then_n ?_
 refine cnd (((a0.fPV.fNeighbors.getD p6.toNat default).fAddr) == ((a0.fPV.fNeighbors.getD p1.toNat default).fAddr)) (fun b30 => ?_) (fun b30 => ?_)
 have h31 := cond_t b30 h29
 refine awp_seq (rg0 [2] 0 ⟨83, [(2, .int .i64 4)], []⟩ ?_)
 refine then_n (awp_ret (inb_r (then_r ?_)))
 obtain rfl := Option.some.inj h31
 exact round_r ⟨rfl, er0 (.int .i64 4)⟩
 have h32 := cond_f b30 h29
 refine awp_skip (inb_n (then_n (rg0 [1, 3, 4, 5] 1 ⟨83, [(1, .ref 0 0), (3, sL 4 c_TNeighbor a0.fPV.fNeighbors), (4, .int .i64 p1), (5, .int .i64 (wr .i64 (p6 + 1)))], [.box (c_TRouter a0)]⟩ ?_)))
 obtain rfl := Option.some.inj h32
 exact round_n (le_rfl)
 have h27 := cond_f b25 h24
 refine awp_exit (then_e ?_)
 obtain rfl := Option.some.inj h27
 exact round_e ⟨rfl, kp [1, 3, 4]⟩
 intro e35 s36 o37
 rcases y8 with g9 | y10
 have h38 := elim_l h34
 obtain ⟨rfl, l40⟩ := o37
 refine inb_here (inb_n ?_)
 refine then_le (s' := ⟨83, [(1, .ref 0 0), (3, sL 4 c_TNeighbor a0.fPV.fNeighbors), (4, .int .i64 p1)], [.box (c_TRouter a0)]⟩) (l40) ?_
 refine rg0 [1, 3, 4] 1 ⟨83, [(1, .ref 0 0), (3, sL 4 c_TNeighbor a0.fPV.fNeighbors), (4, .int .i64 (wr .i64 (p1 + 1)))], [.box (c_TRouter a0)]⟩ ?_
 obtain rfl := Option.some.inj h38
 exact round_n (le_rfl)
 have h39 := elim_r h34
 obtain ⟨rfl, n41⟩ := o37
 refine inb_r (inb_r (then_r ?_))
 obtain rfl := Option.some.inj h39
 exact round_r ⟨rfl, n41⟩
 have h7 := cond_f b5 h4
 refine awp_exit (then_e ?_)
 obtain rfl := Option.some.inj h7
 exact round_e ⟨rfl, Le.trans (s' := ⟨83, [], [.box (c_TRouter a0)]⟩) (kp []) (le_cut (n := 0) (by kernel_rfl))⟩
 intro e44 s45 o46
 rcases y11 with g12 | y13
 have h47 := elim_l h43
 obtain ⟨rfl, l49⟩ := o46
 refine inb_here ?_
 refine then_le (s' := ⟨83, [], []⟩) (l49) ?_
 refine awp_seq (rg0 [2] 0 ⟨83, [(2, .int .i64 0)], []⟩ ?_)
 refine then_n (awp_ret ?_)
 obtain rfl := Option.some.inj h47
 exact er0 (.int .i64 0)
 have h48 := elim_r h43
 obtain ⟨rfl, n50⟩ := o46
 refine inb_r (then_r ?_)
 obtain rfl := Option.some.inj h48
 exact n50
theorem ref8_originations_ok (a0 : TPathVector) (r : Int) (h : M.ref8_originations a0 = some r) : Fn Try.prog 79 [.agg (c_TPathVector a0)] (.pure (.int .i64 r)) := by
 unfold M.ref8_originations at h
 refine fn_pure Try.func79 rfl (by kernel_rfl) ?_
 refine awp_seq (rg0 [1] 1 ⟨126, [(1, .ref 0 0)], [.box (c_TPathVector a0)]⟩ ?_)
 refine then_n (awp_seq (awp_seq (rg0 [1, 13] 1 ⟨126, [(1, .ref 0 0), (13, .bool (decide ((a0.fNetworks.length : Int) > 8)))], [.box (c_TPathVector a0)]⟩ ?_)))
 refine then_n ?_
 refine cnd (decide ((a0.fNetworks.length : Int) > 8)) (fun b1 => ?_) (fun b1 => ?_)
 have h2 := cond_t b1 h
 refine awp_seq (rg0 [2] 0 ⟨126, [(2, .int .i64 7)], []⟩ ?_)
 refine then_n (awp_ret (then_r ?_))
 obtain rfl := Option.some.inj h2
 exact er0 (.int .i64 7)
 have h3 := cond_f b1 h
 refine awp_skip (then_n (awp_seq (awp_seq (rg0 [1, 3] 1 ⟨126, [(1, .ref 0 0), (3, .int .i64 0)], [.box (c_TPathVector a0)]⟩ ?_))))
 refine then_n (awp_block ?_)
 obtain ⟨y9, q33, h34⟩ := bind_some h3
 refine awp_le (s' := ⟨126, [(1, .ref 0 0), (3, .int .i64 0)], [.box (c_TPathVector a0)]⟩) (le_rfl) ?_
 refine awp_mono (awp_loop (f := M.ref8_originations_l1 a0) (S := fun (p1 : Int) => ⟨126, [(1, .ref 0 0), (3, .int .i64 p1)], [.box (c_TPathVector a0)]⟩) (O := (Sum.elim (fun z => OutE 0 (fun z => ⟨126, [(1, .ref 0 0)], [.box (c_TPathVector a0)]⟩) z) (fun z => OutR Try.prog Try.f79 (.int .i64 z)))) ?_ (x := 0) (y := y9) (loopM_iter q33)) ?_
 intro p1 y2 h4
 unfold M.ref8_originations_l1 at h4
 refine awp_seq (awp_seq (rg0 [1, 3, 18] 1 ⟨126, [(1, .ref 0 0), (3, .int .i64 p1), (18, .bool (decide (p1 < (a0.fNetworks.length : Int))))], [.box (c_TPathVector a0)]⟩ ?_))
 refine then_n ?_
 refine cnd (decide (p1 < (a0.fNetworks.length : Int))) (fun b5 => ?_) (fun b5 => ?_)
 have h6 := cond_t b5 h4
 refine awp_skip (then_n (awp_seq (awp_block (awp_seq (awp_seq ?_)))))
 obtain ⟨r3, q8, h9⟩ := bind_some h6
 obtain ⟨c10, h11⟩ := gd_some h9
 refine rg [.pure (.bool r3)] [1, 3, 27] 1 ⟨126, [(1, .ref 0 0), (3, .int .i64 p1), (27, .bool (!r3))], [.box (c_TPathVector a0)]⟩ [decide (0 ≤ p1), decide (p1 < (a0.fNetworks.length : Int))] [⟨true, 53, [.agg (c_TPrefix (a0.fNetworks.getD p1.toNat default))], .pure (.bool r3)⟩] c10 ⟨fun _ => ref4_Valid_ok (a0.fNetworks.getD p1.toNat default) r3 q8, trivial⟩ ?_
 refine then_n ?_
 refine cnd (!r3) (fun b12 => ?_) (fun b12 => ?_)
 have h13 := cond_t b12 h11
 refine awp_seq (rg0 [2] 0 ⟨126, [(2, .int .i64 1)], []⟩ ?_)
 refine then_n (awp_ret (then_r (inb_r (then_r ?_))))
 obtain rfl := Option.some.inj h13
 exact round_r ⟨rfl, er0 (.int .i64 1)⟩
 have h14 := cond_f b12 h11
 refine awp_skip (then_n (awp_seq (rg0 [1, 3, 4] 1 ⟨126, [(1, .ref 0 0), (3, .int .i64 p1), (4, .int .i64 0)], [.box (c_TPathVector a0)]⟩ ?_)))
 refine then_n (awp_block ?_)
 obtain ⟨y6, q24, h25⟩ := bind_some h14
 refine awp_le (s' := ⟨126, [(1, .ref 0 0), (3, .int .i64 p1), (4, .int .i64 0)], [.box (c_TPathVector a0)]⟩) (le_rfl) ?_
 refine awp_mono (awp_loop (f := M.ref8_originations_l2 a0 p1) (S := fun (p4 : Int) => ⟨126, [(1, .ref 0 0), (3, .int .i64 p1), (4, .int .i64 p4)], [.box (c_TPathVector a0)]⟩) (O := (Sum.elim (fun z => OutE 2 (fun z => ⟨126, [(1, .ref 0 0), (3, .int .i64 p1)], [.box (c_TPathVector a0)]⟩) z) (fun z => OutR Try.prog Try.f79 (.int .i64 z)))) ?_ (x := 0) (y := y6) (loopM_iter q24)) ?_
 intro p4 y5 h15
 unfold M.ref8_originations_l2 at h15
 refine awp_seq (awp_seq (rg0 [1, 3, 4, 30] 1 ⟨126, [(1, .ref 0 0), (3, .int .i64 p1), (4, .int .i64 p4), (30, .bool (decide (p4 < p1)))], [.box (c_TPathVector a0)]⟩ ?_))
 refine then_n ?_
 refine cnd (decide (p4 < p1)) (fun b16 => ?_) (fun b16 => ?_)
 have h17 := cond_t b16 h15
 refine awp_skip (then_n (awp_seq (awp_block (awp_seq ?_))))
 obtain ⟨c19, h20⟩ := gd_some h17
 refine rgc [1, 3, 4, 43] 1 ⟨126, [(1, .ref 0 0), (3, .int .i64 p1), (4, .int .i64 p4), (43, .bool ((((a0.fNetworks.getD p4.toNat default).fAddr) == ((a0.fNetworks.getD p1.toNat default).fAddr)) && ((((a0.fNetworks.getD p4.toNat default).fLen) == ((a0.fNetworks.getD p1.toNat default).fLen)) && true)))], [.box (c_TPathVector a0)]⟩ [decide (0 ≤ p4), decide (p4 < (a0.fNetworks.length : Int)), decide (0 ≤ p1), decide (p1 < (a0.fNetworks.length : Int))] c19 ?_
 refine then_n ?_
 refine cnd ((((a0.fNetworks.getD p4.toNat default).fAddr) == ((a0.fNetworks.getD p1.toNat default).fAddr)) && ((((a0.fNetworks.getD p4.toNat default).fLen) == ((a0.fNetworks.getD p1.toNat default).fLen)) && true)) (fun b21 => ?_) (fun b21 => ?_)
 have h22 := cond_t b21 h20
 refine awp_seq (rg0 [2] 0 ⟨126, [(2, .int .i64 4)], []⟩ ?_)
 refine then_n (awp_ret (inb_r (then_r ?_)))
 obtain rfl := Option.some.inj h22
 exact round_r ⟨rfl, er0 (.int .i64 4)⟩
 have h23 := cond_f b21 h20
 refine awp_skip (inb_n (then_n (rg0 [1, 3, 4] 1 ⟨126, [(1, .ref 0 0), (3, .int .i64 p1), (4, .int .i64 (wr .i64 (p4 + 1)))], [.box (c_TPathVector a0)]⟩ ?_)))
 obtain rfl := Option.some.inj h23
 exact round_n (le_rfl)
 have h18 := cond_f b16 h15
 refine awp_exit (then_e ?_)
 obtain rfl := Option.some.inj h18
 exact round_e ⟨rfl, kp [1, 3]⟩
 intro e26 s27 o28
 rcases y6 with g7 | y8
 have h29 := elim_l h25
 obtain ⟨rfl, l31⟩ := o28
 refine inb_here (inb_n ?_)
 refine then_le (s' := ⟨126, [(1, .ref 0 0), (3, .int .i64 p1)], [.box (c_TPathVector a0)]⟩) (l31) ?_
 refine rg0 [1, 3] 1 ⟨126, [(1, .ref 0 0), (3, .int .i64 (wr .i64 (p1 + 1)))], [.box (c_TPathVector a0)]⟩ ?_
 obtain rfl := Option.some.inj h29
 exact round_n (le_rfl)
 have h30 := elim_r h25
 obtain ⟨rfl, n32⟩ := o28
 refine inb_r (inb_r (then_r ?_))
 obtain rfl := Option.some.inj h30
 exact round_r ⟨rfl, n32⟩
 have h7 := cond_f b5 h4
 refine awp_exit (then_e ?_)
 obtain rfl := Option.some.inj h7
 exact round_e ⟨rfl, kp [1]⟩
 intro e35 s36 o37
 rcases y9 with g10 | y11
 have h38 := elim_l h34
 obtain ⟨rfl, l40⟩ := o37
 refine inb_here ?_
 refine then_le (s' := ⟨126, [(1, .ref 0 0)], [.box (c_TPathVector a0)]⟩) (l40) ?_
 refine awp_seq (awp_seq (rg0 [1, 47] 1 ⟨126, [(1, .ref 0 0), (47, .bool (decide ((a0.fAggregates.length : Int) > 8)))], [.box (c_TPathVector a0)]⟩ ?_))
 refine then_n ?_
 refine cnd (decide ((a0.fAggregates.length : Int) > 8)) (fun b41 => ?_) (fun b41 => ?_)
 have h42 := cond_t b41 h38
 refine awp_seq (rg0 [2] 0 ⟨126, [(2, .int .i64 7)], []⟩ ?_)
 refine then_n (awp_ret (then_r ?_))
 obtain rfl := Option.some.inj h42
 exact er0 (.int .i64 7)
 have h43 := cond_f b41 h38
 refine awp_skip (then_n (awp_seq (awp_seq (rg0 [1, 5] 1 ⟨126, [(1, .ref 0 0), (5, .int .i64 0)], [.box (c_TPathVector a0)]⟩ ?_))))
 refine then_n (awp_block ?_)
 obtain ⟨y20, q73, h74⟩ := bind_some h43
 refine awp_le (s' := ⟨126, [(1, .ref 0 0), (5, .int .i64 0)], [.box (c_TPathVector a0)]⟩) (le_rfl) ?_
 refine awp_mono (awp_loop (f := M.ref8_originations_l3 a0) (S := fun (p12 : Int) => ⟨126, [(1, .ref 0 0), (5, .int .i64 p12)], [.box (c_TPathVector a0)]⟩) (O := (Sum.elim (fun z => OutE 4 (fun z => ⟨126, [(1, .ref 0 0)], [.box (c_TPathVector a0)]⟩) z) (fun z => OutR Try.prog Try.f79 (.int .i64 z)))) ?_ (x := 0) (y := y20) (loopM_iter q73)) ?_
 intro p12 y13 h44
 unfold M.ref8_originations_l3 at h44
 refine awp_seq (awp_seq (rg0 [1, 5, 52] 1 ⟨126, [(1, .ref 0 0), (5, .int .i64 p12), (52, .bool (decide (p12 < (a0.fAggregates.length : Int))))], [.box (c_TPathVector a0)]⟩ ?_))
 refine then_n ?_
 refine cnd (decide (p12 < (a0.fAggregates.length : Int))) (fun b45 => ?_) (fun b45 => ?_)
 have h46 := cond_t b45 h44
 refine awp_skip (then_n (awp_seq (awp_block (awp_seq (awp_seq ?_)))))
 obtain ⟨r14, q48, h49⟩ := bind_some h46
 obtain ⟨c50, h51⟩ := gd_some h49
 refine rg [.pure (.bool r14)] [1, 5, 62] 1 ⟨126, [(1, .ref 0 0), (5, .int .i64 p12), (62, .bool (!r14))], [.box (c_TPathVector a0)]⟩ [decide (0 ≤ p12), decide (p12 < (a0.fAggregates.length : Int))] [⟨true, 53, [.agg (c_TPrefix ((a0.fAggregates.getD p12.toNat default).fPrefix))], .pure (.bool r14)⟩] c50 ⟨fun _ => ref4_Valid_ok ((a0.fAggregates.getD p12.toNat default).fPrefix) r14 q48, trivial⟩ ?_
 refine then_n ?_
 refine cnd (!r14) (fun b52 => ?_) (fun b52 => ?_)
 have h53 := cond_t b52 h51
 refine awp_seq (rg0 [2] 0 ⟨126, [(2, .int .i64 1)], []⟩ ?_)
 refine then_n (awp_ret (then_r (inb_r (then_r ?_))))
 obtain rfl := Option.some.inj h53
 exact round_r ⟨rfl, er0 (.int .i64 1)⟩
 have h54 := cond_f b52 h51
 refine awp_skip (then_n (awp_seq (rg0 [1, 5, 6] 1 ⟨126, [(1, .ref 0 0), (5, .int .i64 p12), (6, .int .i64 0)], [.box (c_TPathVector a0)]⟩ ?_)))
 refine then_n (awp_block ?_)
 obtain ⟨y17, q64, h65⟩ := bind_some h54
 refine awp_le (s' := ⟨126, [(1, .ref 0 0), (5, .int .i64 p12), (6, .int .i64 0)], [.box (c_TPathVector a0)]⟩) (le_rfl) ?_
 refine awp_mono (awp_loop (f := M.ref8_originations_l4 a0 p12) (S := fun (p15 : Int) => ⟨126, [(1, .ref 0 0), (5, .int .i64 p12), (6, .int .i64 p15)], [.box (c_TPathVector a0)]⟩) (O := (Sum.elim (fun z => OutE 6 (fun z => ⟨126, [(1, .ref 0 0), (5, .int .i64 p12)], [.box (c_TPathVector a0)]⟩) z) (fun z => OutR Try.prog Try.f79 (.int .i64 z)))) ?_ (x := 0) (y := y17) (loopM_iter q64)) ?_
 intro p15 y16 h55
 unfold M.ref8_originations_l4 at h55
 refine awp_seq (awp_seq (rg0 [1, 5, 6, 65] 1 ⟨126, [(1, .ref 0 0), (5, .int .i64 p12), (6, .int .i64 p15), (65, .bool (decide (p15 < p12)))], [.box (c_TPathVector a0)]⟩ ?_))
 refine then_n ?_
 refine cnd (decide (p15 < p12)) (fun b56 => ?_) (fun b56 => ?_)
 have h57 := cond_t b56 h55
 refine awp_skip (then_n (awp_seq (awp_block (awp_seq ?_))))
 obtain ⟨c59, h60⟩ := gd_some h57
 refine rgc [1, 5, 6, 80] 1 ⟨126, [(1, .ref 0 0), (5, .int .i64 p12), (6, .int .i64 p15), (80, .bool (((((a0.fAggregates.getD p15.toNat default).fPrefix).fAddr) == (((a0.fAggregates.getD p12.toNat default).fPrefix).fAddr)) && (((((a0.fAggregates.getD p15.toNat default).fPrefix).fLen) == (((a0.fAggregates.getD p12.toNat default).fPrefix).fLen)) && true)))], [.box (c_TPathVector a0)]⟩ [decide (0 ≤ p15), decide (p15 < (a0.fAggregates.length : Int)), decide (0 ≤ p12), decide (p12 < (a0.fAggregates.length : Int))] c59 ?_
 refine then_n ?_
 refine cnd (((((a0.fAggregates.getD p15.toNat default).fPrefix).fAddr) == (((a0.fAggregates.getD p12.toNat default).fPrefix).fAddr)) && (((((a0.fAggregates.getD p15.toNat default).fPrefix).fLen) == (((a0.fAggregates.getD p12.toNat default).fPrefix).fLen)) && true)) (fun b61 => ?_) (fun b61 => ?_)
 have h62 := cond_t b61 h60
 refine awp_seq (rg0 [2] 0 ⟨126, [(2, .int .i64 4)], []⟩ ?_)
 refine then_n (awp_ret (inb_r (then_r ?_)))
 obtain rfl := Option.some.inj h62
 exact round_r ⟨rfl, er0 (.int .i64 4)⟩
 have h63 := cond_f b61 h60
 refine awp_skip (inb_n (then_n (rg0 [1, 5, 6] 1 ⟨126, [(1, .ref 0 0), (5, .int .i64 p12), (6, .int .i64 (wr .i64 (p15 + 1)))], [.box (c_TPathVector a0)]⟩ ?_)))
 obtain rfl := Option.some.inj h63
 exact round_n (le_rfl)
 have h58 := cond_f b56 h55
 refine awp_exit (then_e ?_)
 obtain rfl := Option.some.inj h58
 exact round_e ⟨rfl, kp [1, 5]⟩
 intro e66 s67 o68
 rcases y17 with g18 | y19
 have h69 := elim_l h65
 obtain ⟨rfl, l71⟩ := o68
 refine inb_here (inb_n ?_)
 refine then_le (s' := ⟨126, [(1, .ref 0 0), (5, .int .i64 p12)], [.box (c_TPathVector a0)]⟩) (l71) ?_
 refine rg0 [1, 5] 1 ⟨126, [(1, .ref 0 0), (5, .int .i64 (wr .i64 (p12 + 1)))], [.box (c_TPathVector a0)]⟩ ?_
 obtain rfl := Option.some.inj h69
 exact round_n (le_rfl)
 have h70 := elim_r h65
 obtain ⟨rfl, n72⟩ := o68
 refine inb_r (inb_r (then_r ?_))
 obtain rfl := Option.some.inj h70
 exact round_r ⟨rfl, n72⟩
 have h47 := cond_f b45 h44
 refine awp_exit (then_e ?_)
 obtain rfl := Option.some.inj h47
 exact round_e ⟨rfl, kp [1]⟩
 intro e75 s76 o77
 rcases y20 with g21 | y22
 have h78 := elim_l h74
 obtain ⟨rfl, l80⟩ := o77
 refine inb_here ?_
 refine then_le (s' := ⟨126, [(1, .ref 0 0)], [.box (c_TPathVector a0)]⟩) (l80) ?_
 refine awp_seq (awp_seq (rg0 [1, 84] 1 ⟨126, [(1, .ref 0 0), (84, .bool (decide ((a0.fConditions.length : Int) > 8)))], [.box (c_TPathVector a0)]⟩ ?_))
 refine then_n ?_
 refine cnd (decide ((a0.fConditions.length : Int) > 8)) (fun b81 => ?_) (fun b81 => ?_)
 have h82 := cond_t b81 h78
 refine awp_seq (rg0 [2] 0 ⟨126, [(2, .int .i64 7)], []⟩ ?_)
 refine then_n (awp_ret (then_r ?_))
 obtain rfl := Option.some.inj h82
 exact er0 (.int .i64 7)
 have h83 := cond_f b81 h78
 refine awp_skip (then_n (awp_seq (awp_seq (rg0 [1, 7] 1 ⟨126, [(1, .ref 0 0), (7, .int .i64 0)], [.box (c_TPathVector a0)]⟩ ?_))))
 refine then_n (awp_block ?_)
 obtain ⟨y32, q118, h119⟩ := bind_some h83
 refine awp_le (s' := ⟨126, [(1, .ref 0 0), (7, .int .i64 0)], [.box (c_TPathVector a0)]⟩) (le_rfl) ?_
 refine awp_mono (awp_loop (f := M.ref8_originations_l5 a0) (S := fun (p23 : Int) => ⟨126, [(1, .ref 0 0), (7, .int .i64 p23)], [.box (c_TPathVector a0)]⟩) (O := (Sum.elim (fun z => OutE 8 (fun z => ⟨126, [], []⟩) z) (fun z => OutR Try.prog Try.f79 (.int .i64 z)))) ?_ (x := 0) (y := y32) (loopM_iter q118)) ?_
 intro p23 y24 h84
 unfold M.ref8_originations_l5 at h84
 refine awp_seq (awp_seq (rg0 [1, 7, 89] 1 ⟨126, [(1, .ref 0 0), (7, .int .i64 p23), (89, .bool (decide (p23 < (a0.fConditions.length : Int))))], [.box (c_TPathVector a0)]⟩ ?_))
 refine then_n ?_
 refine cnd (decide (p23 < (a0.fConditions.length : Int))) (fun b85 => ?_) (fun b85 => ?_)
 have h86 := cond_t b85 h84
 refine awp_skip (then_n (awp_seq (awp_block (awp_seq ?_))))
 obtain ⟨c88, h89⟩ := gd_some h86
 refine rgc [1, 7, 8] 2 ⟨126, [(1, .ref 0 0), (7, .int .i64 p23), (8, .ref 1 0)], [.box (c_TPathVector a0), .box (c_TCondition (a0.fConditions.getD p23.toNat default))]⟩ [decide (0 ≤ p23), decide (p23 < (a0.fConditions.length : Int))] c88 ?_
 refine then_n (awp_seq (awp_seq ?_))
 obtain ⟨r25, q90, h91⟩ := bind_some h89
 obtain ⟨r26, q92, h93⟩ := bind_some h91
 refine rg [.pure (.bool r25), .pure (.bool r26)] [1, 7, 8, 106] 2 ⟨126, [(1, .ref 0 0), (7, .int .i64 p23), (8, .ref 1 0), (106, .bool ((!r25) || (!r26)))], [.box (c_TPathVector a0), .box (c_TCondition (a0.fConditions.getD p23.toNat default))]⟩ [] [⟨true, 53, [.agg (c_TPrefix ((a0.fConditions.getD p23.toNat default).fPrefix))], .pure (.bool r25)⟩, ⟨(!(!r25)), 53, [.agg (c_TPrefix ((a0.fConditions.getD p23.toNat default).fIf))], .pure (.bool r26)⟩] nil_all ⟨fun _ => ref4_Valid_ok ((a0.fConditions.getD p23.toNat default).fPrefix) r25 q90, fun hg => ref4_Valid_ok ((a0.fConditions.getD p23.toNat default).fIf) r26 (gc_some q92 hg), trivial⟩ ?_
 refine then_n ?_
 refine cnd ((!r25) || (!r26)) (fun b94 => ?_) (fun b94 => ?_)
 have h95 := cond_t b94 h93
 refine awp_seq (rg0 [2] 0 ⟨126, [(2, .int .i64 1)], []⟩ ?_)
 refine then_n (awp_ret (then_r (inb_r (then_r ?_))))
 obtain rfl := Option.some.inj h95
 exact round_r ⟨rfl, er0 (.int .i64 1)⟩
 have h96 := cond_f b94 h93
 refine awp_skip (then_n (awp_seq (awp_seq (rg0 [1, 7, 8, 111] 2 ⟨126, [(1, .ref 0 0), (7, .int .i64 p23), (8, .ref 1 0), (111, .bool (((((a0.fConditions.getD p23.toNat default).fPrefix).fAddr) == (((a0.fConditions.getD p23.toNat default).fIf).fAddr)) && (((((a0.fConditions.getD p23.toNat default).fPrefix).fLen) == (((a0.fConditions.getD p23.toNat default).fIf).fLen)) && true)))], [.box (c_TPathVector a0), .box (c_TCondition (a0.fConditions.getD p23.toNat default))]⟩ ?_))))
 refine then_n ?_
 refine cnd (((((a0.fConditions.getD p23.toNat default).fPrefix).fAddr) == (((a0.fConditions.getD p23.toNat default).fIf).fAddr)) && (((((a0.fConditions.getD p23.toNat default).fPrefix).fLen) == (((a0.fConditions.getD p23.toNat default).fIf).fLen)) && true)) (fun b97 => ?_) (fun b97 => ?_)
 have h98 := cond_t b97 h96
 refine awp_seq (rg0 [2] 0 ⟨126, [(2, .int .i64 6)], []⟩ ?_)
 refine then_n (awp_ret (then_r (inb_r (then_r ?_))))
 obtain rfl := Option.some.inj h98
 exact round_r ⟨rfl, er0 (.int .i64 6)⟩
 have h99 := cond_f b97 h96
 refine awp_skip (then_n (awp_seq (rg0 [1, 7, 8, 9] 2 ⟨126, [(1, .ref 0 0), (7, .int .i64 p23), (8, .ref 1 0), (9, .int .i64 0)], [.box (c_TPathVector a0), .box (c_TCondition (a0.fConditions.getD p23.toNat default))]⟩ ?_)))
 refine then_n (awp_block ?_)
 obtain ⟨y29, q109, h110⟩ := bind_some h99
 refine awp_le (s' := ⟨126, [(1, .ref 0 0), (7, .int .i64 p23), (8, .ref 1 0), (9, .int .i64 0)], [.box (c_TPathVector a0), .box (c_TCondition (a0.fConditions.getD p23.toNat default))]⟩) (le_rfl) ?_
 refine awp_mono (awp_loop (f := M.ref8_originations_l6 a0 p23) (S := fun (p27 : Int) => ⟨126, [(1, .ref 0 0), (7, .int .i64 p23), (8, .ref 1 0), (9, .int .i64 p27)], [.box (c_TPathVector a0), .box (c_TCondition (a0.fConditions.getD p23.toNat default))]⟩) (O := (Sum.elim (fun z => OutE 10 (fun z => ⟨126, [(1, .ref 0 0), (7, .int .i64 p23)], [.box (c_TPathVector a0)]⟩) z) (fun z => OutR Try.prog Try.f79 (.int .i64 z)))) ?_ (x := 0) (y := y29) (loopM_iter q109)) ?_
 intro p27 y28 h100
 unfold M.ref8_originations_l6 at h100
 refine awp_seq (awp_seq (rg0 [1, 7, 8, 9, 114] 2 ⟨126, [(1, .ref 0 0), (7, .int .i64 p23), (8, .ref 1 0), (9, .int .i64 p27), (114, .bool (decide (p27 < p23)))], [.box (c_TPathVector a0), .box (c_TCondition (a0.fConditions.getD p23.toNat default))]⟩ ?_))
 refine then_n ?_
 refine cnd (decide (p27 < p23)) (fun b101 => ?_) (fun b101 => ?_)
 have h102 := cond_t b101 h100
 refine awp_skip (then_n (awp_seq (awp_block (awp_seq ?_))))
 obtain ⟨c104, h105⟩ := gd_some h102
 refine rgc [1, 7, 8, 9, 125] 2 ⟨126, [(1, .ref 0 0), (7, .int .i64 p23), (8, .ref 1 0), (9, .int .i64 p27), (125, .bool (((((a0.fConditions.getD p27.toNat default).fPrefix).fAddr) == (((a0.fConditions.getD p23.toNat default).fPrefix).fAddr)) && (((((a0.fConditions.getD p27.toNat default).fPrefix).fLen) == (((a0.fConditions.getD p23.toNat default).fPrefix).fLen)) && true)))], [.box (c_TPathVector a0), .box (c_TCondition (a0.fConditions.getD p23.toNat default))]⟩ [decide (0 ≤ p27), decide (p27 < (a0.fConditions.length : Int))] c104 ?_
 refine then_n ?_
 refine cnd (((((a0.fConditions.getD p27.toNat default).fPrefix).fAddr) == (((a0.fConditions.getD p23.toNat default).fPrefix).fAddr)) && (((((a0.fConditions.getD p27.toNat default).fPrefix).fLen) == (((a0.fConditions.getD p23.toNat default).fPrefix).fLen)) && true)) (fun b106 => ?_) (fun b106 => ?_)
 have h107 := cond_t b106 h105
 refine awp_seq (rg0 [2] 0 ⟨126, [(2, .int .i64 4)], []⟩ ?_)
 refine then_n (awp_ret (inb_r (then_r ?_)))
 obtain rfl := Option.some.inj h107
 exact round_r ⟨rfl, er0 (.int .i64 4)⟩
 have h108 := cond_f b106 h105
 refine awp_skip (inb_n (then_n (rg0 [1, 7, 8, 9] 2 ⟨126, [(1, .ref 0 0), (7, .int .i64 p23), (8, .ref 1 0), (9, .int .i64 (wr .i64 (p27 + 1)))], [.box (c_TPathVector a0), .box (c_TCondition (a0.fConditions.getD p23.toNat default))]⟩ ?_)))
 obtain rfl := Option.some.inj h108
 exact round_n (le_rfl)
 have h103 := cond_f b101 h100
 refine awp_exit (then_e ?_)
 obtain rfl := Option.some.inj h103
 exact round_e ⟨rfl, Le.trans (s' := ⟨126, [(1, .ref 0 0), (7, .int .i64 p23)], [.box (c_TPathVector a0), .box (c_TCondition (a0.fConditions.getD p23.toNat default))]⟩) (kp [1, 7]) (le_cut (n := 1) (by kernel_rfl))⟩
 intro e111 s112 o113
 rcases y29 with g30 | y31
 have h114 := elim_l h110
 obtain ⟨rfl, l116⟩ := o113
 refine inb_here (inb_n ?_)
 refine then_le (s' := ⟨126, [(1, .ref 0 0), (7, .int .i64 p23)], [.box (c_TPathVector a0)]⟩) (l116) ?_
 refine rg0 [1, 7] 1 ⟨126, [(1, .ref 0 0), (7, .int .i64 (wr .i64 (p23 + 1)))], [.box (c_TPathVector a0)]⟩ ?_
 obtain rfl := Option.some.inj h114
 exact round_n (le_rfl)
 have h115 := elim_r h110
 obtain ⟨rfl, n117⟩ := o113
 refine inb_r (inb_r (then_r ?_))
 obtain rfl := Option.some.inj h115
 exact round_r ⟨rfl, n117⟩
 have h87 := cond_f b85 h84
 refine awp_exit (then_e ?_)
 obtain rfl := Option.some.inj h87
 exact round_e ⟨rfl, Le.trans (s' := ⟨126, [], [.box (c_TPathVector a0)]⟩) (kp []) (le_cut (n := 0) (by kernel_rfl))⟩
 intro e120 s121 o122
 rcases y32 with g33 | y34
 have h123 := elim_l h119
 obtain ⟨rfl, l125⟩ := o122
 refine inb_here ?_
 refine then_le (s' := ⟨126, [], []⟩) (l125) ?_
 refine awp_seq (rg0 [2] 0 ⟨126, [(2, .int .i64 0)], []⟩ ?_)
 refine then_n (awp_ret ?_)
 obtain rfl := Option.some.inj h123
 exact er0 (.int .i64 0)
 have h124 := elim_r h119
 obtain ⟨rfl, n126⟩ := o122
 refine inb_r (then_r ?_)
 obtain rfl := Option.some.inj h124
 exact n126
 have h79 := elim_r h74
 obtain ⟨rfl, n127⟩ := o77
 refine inb_r (then_r ?_)
 obtain rfl := Option.some.inj h79
 exact n127
 have h39 := elim_r h34
 obtain ⟨rfl, n128⟩ := o37
 refine inb_r (then_r ?_)
 obtain rfl := Option.some.inj h39
 exact n128
theorem ref8_pathVector_ok (a0 : TRouter) (r : Int) (h : M.ref8_pathVector a0 = some r) : Fn Try.prog 48 [.agg (c_TRouter a0)] (.pure (.int .i64 r)) := by
 unfold M.ref8_pathVector at h
 refine fn_pure Try.func48 rfl (by kernel_rfl) ?_
 refine awp_seq (rg0 [1] 1 ⟨70, [(1, .ref 0 0)], [.box (c_TRouter a0)]⟩ ?_)
 refine then_n (awp_seq (rg0 [1, 3] 2 ⟨70, [(1, .ref 0 0), (3, .ref 1 0)], [.box (c_TRouter a0), .box (c_TPathVector a0.fPV)]⟩ ?_))
 refine then_n (awp_seq (awp_seq (rg0 [1, 3, 10] 2 ⟨70, [(1, .ref 0 0), (3, .ref 1 0), (10, .bool (!a0.fPV.fOn))], [.box (c_TRouter a0), .box (c_TPathVector a0.fPV)]⟩ ?_)))
 refine then_n ?_
 refine cnd (!a0.fPV.fOn) (fun b1 => ?_) (fun b1 => ?_)
 have h2 := cond_t b1 h
 refine awp_seq (awp_seq (rg0 [40] 0 ⟨70, [(40, .bool (((a0.fPV.fExternal != 0) || (a0.fPV.fInternal != 0)) || (decide ((wr .i64 ((wr .i64 ((wr .i64 ((wr .i64 ((a0.fPV.fNeighbors.length : Int) + (a0.fPV.fNetworks.length : Int))) + (a0.fPV.fAggregates.length : Int))) + (a0.fPV.fConditions.length : Int))) + (a0.fPV.fRedist.length : Int))) > 0))))], []⟩ ?_))
 refine then_n ?_
 refine cnd (((a0.fPV.fExternal != 0) || (a0.fPV.fInternal != 0)) || (decide ((wr .i64 ((wr .i64 ((wr .i64 ((wr .i64 ((a0.fPV.fNeighbors.length : Int) + (a0.fPV.fNetworks.length : Int))) + (a0.fPV.fAggregates.length : Int))) + (a0.fPV.fConditions.length : Int))) + (a0.fPV.fRedist.length : Int))) > 0))) (fun b4 => ?_) (fun b4 => ?_)
 have h5 := cond_t b4 h2
 refine awp_seq (rg0 [2] 0 ⟨70, [(2, .int .i64 1)], []⟩ ?_)
 refine then_n (awp_ret (then_r (then_r ?_)))
 obtain rfl := Option.some.inj h5
 exact er0 (.int .i64 1)
 have h6 := cond_f b4 h2
 refine awp_skip (then_n (awp_seq (rg0 [2] 0 ⟨70, [(2, .int .i64 0)], []⟩ ?_)))
 refine then_n (awp_ret (then_r ?_))
 obtain rfl := Option.some.inj h6
 exact er0 (.int .i64 0)
 have h3 := cond_f b1 h
 refine awp_skip (then_n (awp_seq (awp_seq ?_)))
 obtain ⟨r1, q7, h8⟩ := bind_some h3
 obtain ⟨r2, q9, h10⟩ := bind_some h8
 refine rg [.pure (.bool r1), .pure (.bool r2)] [1, 3, 55] 2 ⟨70, [(1, .ref 0 0), (3, .ref 1 0), (55, .bool (((a0.fAS == 0) || (!r1)) || (!r2)))], [.box (c_TRouter a0), .box (c_TPathVector a0.fPV)]⟩ [] [⟨(!(a0.fAS == 0)), 38, [.int .i64 a0.fPV.fExternal, .int .i64 1, .int .i64 255], .pure (.bool r1)⟩, ⟨(!((a0.fAS == 0) || (!r1))), 38, [.int .i64 a0.fPV.fInternal, .int .i64 1, .int .i64 255], .pure (.bool r2)⟩] nil_all ⟨fun hg => ref8_within_ok a0.fPV.fExternal 1 255 r1 (gc_some q7 hg), fun hg => ref8_within_ok a0.fPV.fInternal 1 255 r2 (gc_some q9 hg), trivial⟩ ?_
 refine then_n ?_
 refine cnd (((a0.fAS == 0) || (!r1)) || (!r2)) (fun b11 => ?_) (fun b11 => ?_)
 have h12 := cond_t b11 h10
 refine awp_seq (rg0 [2] 0 ⟨70, [(2, .int .i64 1)], []⟩ ?_)
 refine then_n (awp_ret (then_r ?_))
 obtain rfl := Option.some.inj h12
 exact er0 (.int .i64 1)
 have h13 := cond_f b11 h10
 refine awp_skip (then_n (awp_seq (awp_seq ?_)))
 obtain ⟨r3, q14, h15⟩ := bind_some h13
 refine rg [.pure (.int .i64 r3)] [1, 3, 4] 2 ⟨70, [(1, .ref 0 0), (3, .ref 1 0), (4, .int .i64 r3)], [.box (c_TRouter a0), .box (c_TPathVector a0.fPV)]⟩ [] [⟨true, 78, [.agg (c_TRouter a0)], .pure (.int .i64 r3)⟩] nil_all ⟨fun _ => ref8_neighbors_ok a0 r3 q14, trivial⟩ ?_
 refine then_n (awp_seq (rg0 [1, 3, 4, 59] 2 ⟨70, [(1, .ref 0 0), (3, .ref 1 0), (4, .int .i64 r3), (59, .bool (r3 != 0))], [.box (c_TRouter a0), .box (c_TPathVector a0.fPV)]⟩ ?_))
 refine then_n ?_
 refine cnd (r3 != 0) (fun b16 => ?_) (fun b16 => ?_)
 have h17 := cond_t b16 h15
 refine awp_seq (rg0 [2] 0 ⟨70, [(2, .int .i64 r3)], []⟩ ?_)
 refine then_n (awp_ret (then_r ?_))
 obtain rfl := Option.some.inj h17
 exact er0 (.int .i64 r3)
 have h18 := cond_f b16 h15
 refine awp_skip (then_n (awp_seq (awp_seq ?_)))
 obtain ⟨r4, q19, h20⟩ := bind_some h18
 refine rg [.pure (.int .i64 r4)] [1, 3, 5] 2 ⟨70, [(1, .ref 0 0), (3, .ref 1 0), (5, .int .i64 r4)], [.box (c_TRouter a0), .box (c_TPathVector a0.fPV)]⟩ [] [⟨true, 79, [.agg (c_TPathVector a0.fPV)], .pure (.int .i64 r4)⟩] nil_all ⟨fun _ => ref8_originations_ok a0.fPV r4 q19, trivial⟩ ?_
 refine then_n (awp_seq (rg0 [1, 3, 5, 64] 2 ⟨70, [(1, .ref 0 0), (3, .ref 1 0), (5, .int .i64 r4), (64, .bool (r4 != 0))], [.box (c_TRouter a0), .box (c_TPathVector a0.fPV)]⟩ ?_))
 refine then_n ?_
 refine cnd (r4 != 0) (fun b21 => ?_) (fun b21 => ?_)
 have h22 := cond_t b21 h20
 refine awp_seq (rg0 [2] 0 ⟨70, [(2, .int .i64 r4)], []⟩ ?_)
 refine then_n (awp_ret (then_r ?_))
 obtain rfl := Option.some.inj h22
 exact er0 (.int .i64 r4)
 have h23 := cond_f b21 h20
 refine awp_skip (then_n (awp_seq ?_))
 obtain ⟨r5, q24, h25⟩ := bind_some h23
 refine rg [.pure (.int .i64 r5)] [2] 0 ⟨70, [(2, .int .i64 r5)], []⟩ [] [⟨true, 77, [.agg (c_TRouter a0), sL 5 c_TRedist a0.fPV.fRedist, .int .i64 5, .int .i64 0, .int .i64 16777215], .pure (.int .i64 r5)⟩] nil_all ⟨fun _ => ref8_redistributions_ok a0 a0.fPV.fRedist 5 0 16777215 r5 q24, trivial⟩ ?_
 refine then_n (awp_ret ?_)
 obtain rfl := Option.some.inj h25
 exact er0 (.int .i64 r5)
theorem ref8_CheckRouter_ok (a0 : TRouter) (r : Int) (h : M.ref8_CheckRouter a0 = some r) : Fn Try.prog 22 [.agg (c_TRouter a0)] (.pure (.int .i64 r)) := by
 unfold M.ref8_CheckRouter at h
 refine fn_pure Try.func22 rfl (by kernel_rfl) ?_
 refine awp_seq (rg0 [1] 1 ⟨52, [(1, .ref 0 0)], [.box (c_TRouter a0)]⟩ ?_)
 refine then_n (awp_seq (awp_seq ?_))
 obtain ⟨r1, q1, h2⟩ := bind_some h
 refine rg [.pure (.bool r1)] [1, 8] 1 ⟨52, [(1, .ref 0 0), (8, .bool (!r1))], [.box (c_TRouter a0)]⟩ [] [⟨true, 37, [.str a0.fName], .pure (.bool r1)⟩] nil_all ⟨fun _ => ref4_Name_ok a0.fName r1 q1, trivial⟩ ?_
 refine then_n ?_
 refine cnd (!r1) (fun b3 => ?_) (fun b3 => ?_)
 have h4 := cond_t b3 h2
 refine awp_seq (rg0 [2] 0 ⟨52, [(2, .int .i64 3)], []⟩ ?_)
 refine then_n (awp_ret (then_r ?_))
 obtain rfl := Option.some.inj h4
 exact er0 (.int .i64 3)
 have h5 := cond_f b3 h2
 refine awp_skip (then_n (awp_seq (awp_seq ?_)))
 obtain ⟨r2, q6, h7⟩ := bind_some h5
 refine rg [.pure (.bool r2)] [1, 12] 1 ⟨52, [(1, .ref 0 0), (12, .bool (!r2))], [.box (c_TRouter a0)]⟩ [] [⟨true, 38, [.int .i64 a0.fAS, .int .i64 0, .int .i64 65535], .pure (.bool r2)⟩] nil_all ⟨fun _ => ref8_within_ok a0.fAS 0 65535 r2 q6, trivial⟩ ?_
 refine then_n ?_
 refine cnd (!r2) (fun b8 => ?_) (fun b8 => ?_)
 have h9 := cond_t b8 h7
 refine awp_seq (rg0 [2] 0 ⟨52, [(2, .int .i64 1)], []⟩ ?_)
 refine then_n (awp_ret (then_r ?_))
 obtain rfl := Option.some.inj h9
 exact er0 (.int .i64 1)
 have h10 := cond_f b8 h7
 refine awp_skip (then_n (awp_seq ?_))
 obtain ⟨r3, q11, h12⟩ := bind_some h10
 obtain ⟨r4, q13, h14⟩ := bind_some h12
 obtain ⟨r5, q15, h16⟩ := bind_some h14
 obtain ⟨r6, q17, h18⟩ := bind_some h16
 obtain ⟨r7, q19, h20⟩ := bind_some h18
 obtain ⟨r8, q21, h22⟩ := bind_some h20
 obtain ⟨r9, q23, h24⟩ := bind_some h22
 obtain ⟨r10, q25, h26⟩ := bind_some h24
 obtain ⟨r11, q27, h28⟩ := bind_some h26
 obtain ⟨r12, q29, h30⟩ := bind_some h28
 refine rg [.pure (.int .i64 r3), .pure (.int .i64 r4), .pure (.int .i64 r5), .pure (.int .i64 r6), .pure (.int .i64 r7), .pure (.int .i64 r8), .pure (.int .i64 r9), .pure (.int .i64 r10), .pure (.int .i64 r11), .pure (.int .i64 r12)] [3] 0 ⟨52, [(3, .sl true 1 10 (fun i => List.take 1 (List.drop (i * 1) [.int .i64 r3, .int .i64 r4, .int .i64 r5, .int .i64 r6, .int .i64 r7, .int .i64 r8, .int .i64 r9, .int .i64 r10, .int .i64 r11, .int .i64 r12])))], []⟩ [] [⟨true, 39, [sL 12 c_TInterface a0.fInterfaces], .pure (.int .i64 r3)⟩, ⟨true, 40, [sL 2 c_TPrefixList a0.fLists], .pure (.int .i64 r4)⟩, ⟨true, 41, [.agg (c_TRouter a0)], .pure (.int .i64 r5)⟩, ⟨true, 42, [sL 2 c_TACL a0.fACLs], .pure (.int .i64 r6)⟩, ⟨true, 43, [.agg (c_TRouter a0)], .pure (.int .i64 r7)⟩, ⟨true, 44, [.agg (c_TRouter a0)], .pure (.int .i64 r8)⟩, ⟨true, 45, [.agg (c_TRouter a0)], .pure (.int .i64 r9)⟩, ⟨true, 46, [.agg (c_TRouter a0)], .pure (.int .i64 r10)⟩, ⟨true, 47, [.agg (c_TRouter a0)], .pure (.int .i64 r11)⟩, ⟨true, 48, [.agg (c_TRouter a0)], .pure (.int .i64 r12)⟩] nil_all ⟨fun _ => ref8_interfaces_ok a0.fInterfaces r3 q11, fun _ => ref8_prefixLists_ok a0.fLists r4 q13, fun _ => ref8_routeMaps_ok a0 r5 q15, fun _ => ref8_accessLists_ok a0.fACLs r6 q17, fun _ => ref8_translations_ok a0 r7 q19, fun _ => ref8_filters_ok a0 r8 q21, fun _ => ref8_statics_ok a0 r9 q23, fun _ => ref8_linkState_ok a0 r10 q25, fun _ => ref8_distance_ok a0 r11 q27, fun _ => ref8_pathVector_ok a0 r12 q29, trivial⟩ ?_
 refine then_le (s' := ⟨52, [(3, sL 1 (ci .i64) ([r3, r4, r5, r6, r7, r8, r9, r10, r11, r12] : List Int))], []⟩) (le_sub (.cons (sub_sl rfl (fun i hi => match i, hi with | 0, _ => rfl | 1, _ => rfl | 2, _ => rfl | 3, _ => rfl | 4, _ => rfl | 5, _ => rfl | 6, _ => rfl | 7, _ => rfl | 8, _ => rfl | 9, _ => rfl | n + 10, h => absurd h (by omega))) .nil) .nil) ?_
 refine awp_seq (awp_seq (rg0 [3, 4] 0 ⟨52, [(3, sL 1 (ci .i64) ([r3, r4, r5, r6, r7, r8, r9, r10, r11, r12] : List Int)), (4, .int .i64 0)], []⟩ ?_))
 refine then_n (awp_block ?_)
 obtain ⟨y15, q42, h43⟩ := bind_some h30
 refine awp_le (s' := ⟨52, [(3, sL 1 (ci .i64) ([r3, r4, r5, r6, r7, r8, r9, r10, r11, r12] : List Int)), (4, .int .i64 0)], []⟩) (le_rfl) ?_
 refine awp_mono (awp_loop (f := M.ref8_CheckRouter_l1 r3 r4 r5 r6 r7 r8 r9 r10 r11 r12) (S := fun (p13 : Int) => ⟨52, [(3, sL 1 (ci .i64) ([r3, r4, r5, r6, r7, r8, r9, r10, r11, r12] : List Int)), (4, .int .i64 p13)], []⟩) (O := (Sum.elim (fun z => OutE 0 (fun z => ⟨52, [], []⟩) z) (fun z => OutR Try.prog Try.f22 (.int .i64 z)))) ?_ (x := 0) (y := y15) (loopM_iter q42)) ?_
 intro p13 y14 h31
 unfold M.ref8_CheckRouter_l1 at h31
 refine awp_seq (awp_seq (rg0 [3, 4, 40] 0 ⟨52, [(3, sL 1 (ci .i64) ([r3, r4, r5, r6, r7, r8, r9, r10, r11, r12] : List Int)), (4, .int .i64 p13), (40, .bool (decide (p13 < (([r3, r4, r5, r6, r7, r8, r9, r10, r11, r12] : List Int).length : Int))))], []⟩ ?_))
 refine then_n ?_
 refine cnd (decide (p13 < (([r3, r4, r5, r6, r7, r8, r9, r10, r11, r12] : List Int).length : Int))) (fun b32 => ?_) (fun b32 => ?_)
 have h33 := cond_t b32 h31
 refine awp_skip (then_n (awp_seq (awp_block (awp_seq ?_))))
 obtain ⟨c35, h36⟩ := gd_some h33
 refine rgc [3, 4, 47] 0 ⟨52, [(3, sL 1 (ci .i64) ([r3, r4, r5, r6, r7, r8, r9, r10, r11, r12] : List Int)), (4, .int .i64 p13), (47, .bool ((([r3, r4, r5, r6, r7, r8, r9, r10, r11, r12] : List Int).getD p13.toNat default) != 0))], []⟩ [decide (0 ≤ p13), decide (p13 < (([r3, r4, r5, r6, r7, r8, r9, r10, r11, r12] : List Int).length : Int))] c35 ?_
 refine then_n ?_
 refine cnd ((([r3, r4, r5, r6, r7, r8, r9, r10, r11, r12] : List Int).getD p13.toNat default) != 0) (fun b37 => ?_) (fun b37 => ?_)
 have h38 := cond_t b37 h36
 refine awp_seq ?_
 obtain ⟨c40, h41⟩ := gd_some h38
 refine rgc [2] 0 ⟨52, [(2, .int .i64 (([r3, r4, r5, r6, r7, r8, r9, r10, r11, r12] : List Int).getD p13.toNat default))], []⟩ [decide (0 ≤ p13), decide (p13 < (([r3, r4, r5, r6, r7, r8, r9, r10, r11, r12] : List Int).length : Int))] c40 ?_
 refine then_n (awp_ret (inb_r (then_r ?_)))
 obtain rfl := Option.some.inj h41
 exact round_r ⟨rfl, er0 (.int .i64 (([r3, r4, r5, r6, r7, r8, r9, r10, r11, r12] : List Int).getD p13.toNat default))⟩
 have h39 := cond_f b37 h36
 refine awp_skip (inb_n (then_n (rg0 [3, 4] 0 ⟨52, [(3, sL 1 (ci .i64) ([r3, r4, r5, r6, r7, r8, r9, r10, r11, r12] : List Int)), (4, .int .i64 (wr .i64 (p13 + 1)))], []⟩ ?_)))
 obtain rfl := Option.some.inj h39
 exact round_n (le_rfl)
 have h34 := cond_f b32 h31
 refine awp_exit (then_e ?_)
 obtain rfl := Option.some.inj h34
 exact round_e ⟨rfl, kp []⟩
 intro e44 s45 o46
 rcases y15 with g16 | y17
 have h47 := elim_l h43
 obtain ⟨rfl, l49⟩ := o46
 refine inb_here ?_
 refine then_le (s' := ⟨52, [], []⟩) (l49) ?_
 refine awp_seq (rg0 [2] 0 ⟨52, [(2, .int .i64 0)], []⟩ ?_)
 refine then_n (awp_ret ?_)
 obtain rfl := Option.some.inj h47
 exact er0 (.int .i64 0)
 have h48 := elim_r h43
 obtain ⟨rfl, n50⟩ := o46
 refine inb_r (then_r ?_)
 obtain rfl := Option.some.inj h48
 exact n50
theorem ref15_within_ok (a0 : Int) (a1 : Int) (a2 : Int) (r : Bool) (h : M.ref15_within a0 a1 a2 = some r) : Fn Try.prog 54 [.int .i64 a0, .int .i64 a1, .int .i64 a2] (.pure (.bool r)) := by
 unfold M.ref15_within at h
 refine fn_pure Try.func54 rfl (by kernel_rfl) ?_
 refine awp_seq (rg0 [0, 1, 2] 0 ⟨15, [(0, .int .i64 a0), (1, .int .i64 a1), (2, .int .i64 a2)], []⟩ ?_)
 refine then_n (awp_seq (rg0 [6] 0 ⟨15, [(6, .bool ((decide (a1 ≤ a0)) && (decide (a0 ≤ a2))))], []⟩ ?_))
 refine then_n (awp_ret ?_)
 obtain rfl := Option.some.inj h
 exact er0 (.bool ((decide (a1 ≤ a0)) && (decide (a0 ≤ a2))))
theorem ref15_plain_ok (a0 : TRoute) (a1 : Bool) (a2 : Bool) (a3 : Bool) (r : Bool) (h : M.ref15_plain a0 a1 a2 a3 = some r) : Fn Try.prog 55 [.agg (c_TRoute a0), .bool a1, .bool a2, .bool a3] (.pure (.bool r)) := by
 unfold M.ref15_plain at h
 refine fn_pure Try.func55 rfl (by kernel_rfl) ?_
 refine awp_seq (rg0 [1, 2, 3, 4] 1 ⟨42, [(1, .bool a1), (2, .bool a2), (3, .bool a3), (4, .ref 0 0)], [.box (c_TRoute a0)]⟩ ?_)
 refine then_n (awp_seq (rg0 [8] 0 ⟨42, [(8, .bool (((a1 || (a0.fInner == 0)) && (a2 || (((a0.fPref == 0) && ((a0.fPath.length : Int) == 0)) && (a0.fFrom == 0)))) && (a3 || (a0.fNext == 0))))], []⟩ ?_))
 refine then_n (awp_ret ?_)
 obtain rfl := Option.some.inj h
 exact er0 (.bool (((a1 || (a0.fInner == 0)) && (a2 || (((a0.fPref == 0) && ((a0.fPath.length : Int) == 0)) && (a0.fFrom == 0)))) && (a3 || (a0.fNext == 0))))
theorem ref15_lessHop_ok (a0 : THop) (a1 : THop) (r : Bool) (h : M.ref15_lessHop a0 a1 = some r) : Fn Try.prog 84 [.agg (c_THop a0), .agg (c_THop a1)] (.pure (.bool r)) := by
 unfold M.ref15_lessHop at h
 refine fn_pure Try.func84 rfl (by kernel_rfl) ?_
 refine awp_seq (rg0 [2, 3] 2 ⟨24, [(2, .ref 0 0), (3, .ref 1 0)], [.box (c_THop a0), .box (c_THop a1)]⟩ ?_)
 refine then_n (awp_seq (rg0 [4] 0 ⟨24, [(4, .bool ((decide (a0.fIface < a1.fIface)) || ((a0.fIface == a1.fIface) && (decide (a0.fAddr < a1.fAddr)))))], []⟩ ?_))
 refine then_n (awp_ret ?_)
 obtain rfl := Option.some.inj h
 exact er0 (.bool ((decide (a0.fIface < a1.fIface)) || ((a0.fIface == a1.fIface) && (decide (a0.fAddr < a1.fAddr)))))
theorem ref15_hops_ok (a0 : List THop) (a1 : Bool) (r : Bool) (h : M.ref15_hops a0 a1 = some r) : Fn Try.prog 56 [sL 2 c_THop a0, .bool a1] (.pure (.bool r)) := by
 unfold M.ref15_hops at h
 refine fn_pure Try.func56 rfl (by kernel_rfl) ?_
 refine awp_seq (rg0 [0, 1] 0 ⟨45, [(0, sL 2 c_THop a0), (1, .bool a1)], []⟩ ?_)
 refine then_n (awp_seq (awp_seq (rg0 [0, 1, 5] 0 ⟨45, [(0, sL 2 c_THop a0), (1, .bool a1), (5, .int .i64 0)], []⟩ ?_)))
 refine then_n (awp_block ?_)
 obtain ⟨y4, q12, h13⟩ := bind_some h
 refine awp_le (s' := ⟨45, [(0, sL 2 c_THop a0), (1, .bool a1), (5, .int .i64 0)], []⟩) (le_rfl) ?_
 refine awp_mono (awp_loop (f := M.ref15_hops_l1 a0 a1) (S := fun (p1 : Int) => ⟨45, [(0, sL 2 c_THop a0), (1, .bool a1), (5, .int .i64 p1)], []⟩) (O := (Sum.elim (fun z => OutE 0 (fun z => ⟨45, [], []⟩) z) (fun z => OutR Try.prog Try.f56 (.bool z)))) ?_ (x := 0) (y := y4) (loopM_iter q12)) ?_
 intro p1 y2 h1
 unfold M.ref15_hops_l1 at h1
 refine awp_seq (awp_seq (rg0 [0, 1, 5, 9] 0 ⟨45, [(0, sL 2 c_THop a0), (1, .bool a1), (5, .int .i64 p1), (9, .bool (decide (p1 < (a0.length : Int))))], []⟩ ?_))
 refine then_n ?_
 refine cnd (decide (p1 < (a0.length : Int))) (fun b2 => ?_) (fun b2 => ?_)
 have h3 := cond_t b2 h1
 refine awp_skip (then_n (awp_seq (awp_block (awp_seq ?_))))
 obtain ⟨r3, q5, h6⟩ := bind_some h3
 obtain ⟨c7, h8⟩ := gd_some h6
 refine rg [.pure (.bool r3)] [0, 1, 5, 44] 0 ⟨45, [(0, sL 2 c_THop a0), (1, .bool a1), (5, .int .i64 p1), (44, .bool (((decide (((a0.getD p1.toNat default).fIface) < 0)) || ((decide (p1 > 0)) && (!r3))) || (!((((a0.getD p1.toNat default).fAddr) == 0) == a1))))], []⟩ [decide (0 ≤ p1), decide (p1 < (a0.length : Int)), guardB ((!(decide (((a0.getD p1.toNat default).fIface) < 0))) && (decide (p1 > 0))) (decide (0 ≤ (wr .i64 (p1 - 1)))), guardB ((!(decide (((a0.getD p1.toNat default).fIface) < 0))) && (decide (p1 > 0))) (decide ((wr .i64 (p1 - 1)) < (a0.length : Int))), guardB ((!(decide (((a0.getD p1.toNat default).fIface) < 0))) && (decide (p1 > 0))) (decide (0 ≤ p1)), guardB ((!(decide (((a0.getD p1.toNat default).fIface) < 0))) && (decide (p1 > 0))) (decide (p1 < (a0.length : Int))), guardB (!((decide (((a0.getD p1.toNat default).fIface) < 0)) || ((decide (p1 > 0)) && (!r3)))) (decide (0 ≤ p1)), guardB (!((decide (((a0.getD p1.toNat default).fIface) < 0)) || ((decide (p1 > 0)) && (!r3)))) (decide (p1 < (a0.length : Int)))] [⟨((!(decide (((a0.getD p1.toNat default).fIface) < 0))) && (decide (p1 > 0))), 84, [.agg (c_THop (a0.getD (wr .i64 (p1 - 1)).toNat default)), .agg (c_THop (a0.getD p1.toNat default))], .pure (.bool r3)⟩] c7 ⟨fun hg => ref15_lessHop_ok (a0.getD (wr .i64 (p1 - 1)).toNat default) (a0.getD p1.toNat default) r3 (gc_some q5 hg), trivial⟩ ?_
 refine then_n ?_
 refine cnd (((decide (((a0.getD p1.toNat default).fIface) < 0)) || ((decide (p1 > 0)) && (!r3))) || (!((((a0.getD p1.toNat default).fAddr) == 0) == a1))) (fun b9 => ?_) (fun b9 => ?_)
 have h10 := cond_t b9 h8
 refine awp_seq (rg0 [4] 0 ⟨45, [(4, .bool false)], []⟩ ?_)
 refine then_n (awp_ret (inb_r (then_r ?_)))
 obtain rfl := Option.some.inj h10
 exact round_r ⟨rfl, er0 (.bool false)⟩
 have h11 := cond_f b9 h8
 refine awp_skip (inb_n (then_n (rg0 [0, 1, 5] 0 ⟨45, [(0, sL 2 c_THop a0), (1, .bool a1), (5, .int .i64 (wr .i64 (p1 + 1)))], []⟩ ?_)))
 obtain rfl := Option.some.inj h11
 exact round_n (le_rfl)
 have h4 := cond_f b2 h1
 refine awp_exit (then_e ?_)
 obtain rfl := Option.some.inj h4
 exact round_e ⟨rfl, kp []⟩
 intro e14 s15 o16
 rcases y4 with g5 | y6
 have h17 := elim_l h13
 obtain ⟨rfl, l19⟩ := o16
 refine inb_here ?_
 refine then_le (s' := ⟨45, [], []⟩) (l19) ?_
 refine awp_seq (rg0 [4] 0 ⟨45, [(4, .bool true)], []⟩ ?_)
 refine then_n (awp_ret ?_)
 obtain rfl := Option.some.inj h17
 exact er0 (.bool true)
 have h18 := elim_r h13
 obtain ⟨rfl, n20⟩ := o16
 refine inb_r (then_r ?_)
 obtain rfl := Option.some.inj h18
 exact n20
theorem ref15_validStatic_ok (a0 : TRoute) (r : Bool) (h : M.ref15_validStatic a0 = some r) : Fn Try.prog 57 [.agg (c_TRoute a0)] (.pure (.bool r)) := by
 unfold M.ref15_validStatic at h
 refine fn_pure Try.func57 rfl (by kernel_rfl) ?_
 refine awp_seq (rg0 [1] 1 ⟨51, [(1, .ref 0 0)], [.box (c_TRoute a0)]⟩ ?_)
 refine then_n (awp_seq (awp_seq ?_))
 obtain ⟨r1, q1, h2⟩ := bind_some h
 obtain ⟨r2, q3, h4⟩ := bind_some h2
 refine rg [.pure (.bool r1), .pure (.bool r2)] [1, 21] 1 ⟨51, [(1, .ref 0 0), (21, .bool ((((a0.fClass != 0) || (a0.fMetric != 0)) || (!r1)) || (!r2)))], [.box (c_TRoute a0)]⟩ [] [⟨(!((a0.fClass != 0) || (a0.fMetric != 0))), 54, [.int .i64 a0.fAdmin, .int .i64 1, .int .i64 255], .pure (.bool r1)⟩, ⟨(!(((a0.fClass != 0) || (a0.fMetric != 0)) || (!r1))), 55, [.agg (c_TRoute a0), .bool false, .bool false, .bool true], .pure (.bool r2)⟩] nil_all ⟨fun hg => ref15_within_ok a0.fAdmin 1 255 r1 (gc_some q1 hg), fun hg => ref15_plain_ok a0 false false true r2 (gc_some q3 hg), trivial⟩ ?_
 refine then_n ?_
 refine cnd ((((a0.fClass != 0) || (a0.fMetric != 0)) || (!r1)) || (!r2)) (fun b5 => ?_) (fun b5 => ?_)
 have h6 := cond_t b5 h4
 refine awp_seq (rg0 [2] 0 ⟨51, [(2, .bool false)], []⟩ ?_)
 refine then_n (awp_ret (then_r ?_))
 obtain rfl := Option.some.inj h6
 exact er0 (.bool false)
 have h7 := cond_f b5 h4
 refine awp_skip (then_n (awp_seq (awp_block (awp_seq (rg0 [1, 22] 1 ⟨51, [(1, .ref 0 0), (22, .bool (a0.fNext != 0))], [.box (c_TRoute a0)]⟩ ?_)))))
 refine then_n ?_
 refine cnd (a0.fNext != 0) (fun b8 => ?_) (fun b8 => ?_)
 have h9 := cond_t b8 h7
 refine awp_seq (rg0 [2] 0 ⟨51, [(2, .bool (((a0.fHops.length : Int) == 0) && (!a0.fDiscard)))], []⟩ ?_)
 refine then_n (awp_ret (inb_r (then_r ?_)))
 obtain rfl := Option.some.inj h9
 exact er0 (.bool (((a0.fHops.length : Int) == 0) && (!a0.fDiscard)))
 have h10 := cond_f b8 h7
 refine awp_seq (rg0 [1, 35] 1 ⟨51, [(1, .ref 0 0), (35, .bool a0.fDiscard)], [.box (c_TRoute a0)]⟩ ?_)
 refine then_n ?_
 refine cnd a0.fDiscard (fun b11 => ?_) (fun b11 => ?_)
 have h12 := cond_t b11 h10
 refine awp_seq (rg0 [2] 0 ⟨51, [(2, .bool ((a0.fHops.length : Int) == 0))], []⟩ ?_)
 refine then_n (awp_ret (inb_r (then_r ?_)))
 obtain rfl := Option.some.inj h12
 exact er0 (.bool ((a0.fHops.length : Int) == 0))
 have h13 := cond_f b11 h10
 refine awp_skip (inb_n (then_n (awp_seq ?_)))
 obtain ⟨r3, q14, h15⟩ := bind_some h13
 refine rg [.pure (.bool r3)] [2] 0 ⟨51, [(2, .bool (((a0.fHops.length : Int) == 1) && r3))], []⟩ [] [⟨(a0.fHops.length : Int) == 1, 56, [sL 2 c_THop a0.fHops, .bool true], .pure (.bool r3)⟩] nil_all ⟨fun hg => ref15_hops_ok a0.fHops true r3 (gc_some q14 hg), trivial⟩ ?_
 refine then_n (awp_ret ?_)
 obtain rfl := Option.some.inj h15
 exact er0 (.bool (((a0.fHops.length : Int) == 1) && r3))
theorem ref15_validLinkState_ok (a0 : TRoute) (r : Bool) (h : M.ref15_validLinkState a0 = some r) : Fn Try.prog 58 [.agg (c_TRoute a0)] (.pure (.bool r)) := by
 unfold M.ref15_validLinkState at h
 refine fn_pure Try.func58 rfl (by kernel_rfl) ?_
 refine awp_seq (rg0 [1] 1 ⟨68, [(1, .ref 0 0)], [.box (c_TRoute a0)]⟩ ?_)
 refine then_n (awp_seq (awp_seq ?_))
 obtain ⟨r1, q1, h2⟩ := bind_some h
 obtain ⟨r2, q3, h4⟩ := bind_some h2
 obtain ⟨r3, q5, h6⟩ := bind_some h4
 obtain ⟨r4, q7, h8⟩ := bind_some h6
 refine rg [.pure (.bool r1), .pure (.bool r2), .pure (.bool r3), .pure (.bool r4)] [1, 23] 1 ⟨68, [(1, .ref 0 0), (23, .bool ((((!r1) || (!r2)) || (!r3)) || (!r4)))], [.box (c_TRoute a0)]⟩ [] [⟨true, 54, [.int .i64 a0.fClass, .int .i64 1, .int .i64 4], .pure (.bool r1)⟩, ⟨(!(!r1)), 54, [.int .i64 a0.fAdmin, .int .i64 1, .int .i64 255], .pure (.bool r2)⟩, ⟨(!((!r1) || (!r2))), 54, [.int .i64 a0.fMetric, .int .i64 0, .int .i64 1073741824], .pure (.bool r3)⟩, ⟨(!(((!r1) || (!r2)) || (!r3))), 55, [.agg (c_TRoute a0), .bool true, .bool false, .bool false], .pure (.bool r4)⟩] nil_all ⟨fun _ => ref15_within_ok a0.fClass 1 4 r1 q1, fun hg => ref15_within_ok a0.fAdmin 1 255 r2 (gc_some q3 hg), fun hg => ref15_within_ok a0.fMetric 0 1073741824 r3 (gc_some q5 hg), fun hg => ref15_plain_ok a0 true false false r4 (gc_some q7 hg), trivial⟩ ?_
 refine then_n ?_
 refine cnd ((((!r1) || (!r2)) || (!r3)) || (!r4)) (fun b9 => ?_) (fun b9 => ?_)
 have h10 := cond_t b9 h8
 refine awp_seq (rg0 [2] 0 ⟨68, [(2, .bool false)], []⟩ ?_)
 refine then_n (awp_ret (then_r ?_))
 obtain rfl := Option.some.inj h10
 exact er0 (.bool false)
 have h11 := cond_f b9 h8
 refine awp_skip (then_n (awp_seq (awp_seq ?_)))
 obtain ⟨r5, q12, h13⟩ := bind_some h11
 refine rg [.pure (.bool r5)] [1, 37] 1 ⟨68, [(1, .ref 0 0), (37, .bool ((!r5) || ((a0.fClass != 4) && (a0.fInner != 0))))], [.box (c_TRoute a0)]⟩ [] [⟨true, 54, [.int .i64 a0.fInner, .int .i64 0, .int .i64 1073741824], .pure (.bool r5)⟩] nil_all ⟨fun _ => ref15_within_ok a0.fInner 0 1073741824 r5 q12, trivial⟩ ?_
 refine then_n ?_
 refine cnd ((!r5) || ((a0.fClass != 4) && (a0.fInner != 0))) (fun b14 => ?_) (fun b14 => ?_)
 have h15 := cond_t b14 h13
 refine awp_seq (rg0 [2] 0 ⟨68, [(2, .bool false)], []⟩ ?_)
 refine then_n (awp_ret (then_r ?_))
 obtain rfl := Option.some.inj h15
 exact er0 (.bool false)
 have h16 := cond_f b14 h13
 refine awp_skip (then_n (awp_seq (awp_seq (rg0 [1, 39] 1 ⟨68, [(1, .ref 0 0), (39, .bool a0.fDiscard)], [.box (c_TRoute a0)]⟩ ?_))))
 refine then_n ?_
 refine cnd a0.fDiscard (fun b17 => ?_) (fun b17 => ?_)
 have h18 := cond_t b17 h16
 refine awp_seq (rg0 [2] 0 ⟨68, [(2, .bool ((((a0.fClass == 1) && (a0.fMetric == 0)) && (a0.fTag == 0)) && ((a0.fHops.length : Int) == 0)))], []⟩ ?_)
 refine then_n (awp_ret (then_r ?_))
 obtain rfl := Option.some.inj h18
 exact er0 (.bool ((((a0.fClass == 1) && (a0.fMetric == 0)) && (a0.fTag == 0)) && ((a0.fHops.length : Int) == 0)))
 have h19 := cond_f b17 h16
 refine awp_skip (then_n (awp_seq ?_))
 obtain ⟨r6, q20, h21⟩ := bind_some h19
 refine rg [.pure (.bool r6)] [2] 0 ⟨68, [(2, .bool ((decide ((a0.fHops.length : Int) > 0)) && r6))], []⟩ [] [⟨decide ((a0.fHops.length : Int) > 0), 56, [sL 2 c_THop a0.fHops, .bool false], .pure (.bool r6)⟩] nil_all ⟨fun hg => ref15_hops_ok a0.fHops false r6 (gc_some q20 hg), trivial⟩ ?_
 refine then_n (awp_ret ?_)
 obtain rfl := Option.some.inj h21
 exact er0 (.bool ((decide ((a0.fHops.length : Int) > 0)) && r6))
theorem ref15_validDistance_ok (a0 : TRoute) (r : Bool) (h : M.ref15_validDistance a0 = some r) : Fn Try.prog 59 [.agg (c_TRoute a0)] (.pure (.bool r)) := by
 unfold M.ref15_validDistance at h
 refine fn_pure Try.func59 rfl (by kernel_rfl) ?_
 refine awp_seq (rg0 [1] 1 ⟨62, [(1, .ref 0 0)], [.box (c_TRoute a0)]⟩ ?_)
 refine then_n (awp_seq (awp_seq ?_))
 obtain ⟨r1, q1, h2⟩ := bind_some h
 obtain ⟨r2, q3, h4⟩ := bind_some h2
 obtain ⟨r3, q5, h6⟩ := bind_some h4
 refine rg [.pure (.bool r1), .pure (.bool r2), .pure (.bool r3)] [1, 21] 1 ⟨62, [(1, .ref 0 0), (21, .bool ((((!r1) || (!r2)) || (!r3)) || a0.fDiscard))], [.box (c_TRoute a0)]⟩ [] [⟨true, 54, [.int .i64 a0.fAdmin, .int .i64 1, .int .i64 255], .pure (.bool r1)⟩, ⟨(!(!r1)), 54, [.int .i64 a0.fMetric, .int .i64 1, .int .i64 15], .pure (.bool r2)⟩, ⟨(!((!r1) || (!r2))), 55, [.agg (c_TRoute a0), .bool false, .bool false, .bool false], .pure (.bool r3)⟩] nil_all ⟨fun _ => ref15_within_ok a0.fAdmin 1 255 r1 q1, fun hg => ref15_within_ok a0.fMetric 1 15 r2 (gc_some q3 hg), fun hg => ref15_plain_ok a0 false false false r3 (gc_some q5 hg), trivial⟩ ?_
 refine then_n ?_
 refine cnd ((((!r1) || (!r2)) || (!r3)) || a0.fDiscard) (fun b7 => ?_) (fun b7 => ?_)
 have h8 := cond_t b7 h6
 refine awp_seq (rg0 [2] 0 ⟨62, [(2, .bool false)], []⟩ ?_)
 refine then_n (awp_ret (then_r ?_))
 obtain rfl := Option.some.inj h8
 exact er0 (.bool false)
 have h9 := cond_f b7 h6
 refine awp_skip (then_n (awp_seq (awp_seq (rg0 [1, 23] 1 ⟨62, [(1, .ref 0 0), (23, .int .i64 a0.fClass)], [.box (c_TRoute a0)]⟩ ?_))))
 refine then_n (awp_block (awp_seq (rg0 [1, 23, 24] 1 ⟨62, [(1, .ref 0 0), (23, .int .i64 a0.fClass), (24, .bool (a0.fClass == 1))], [.box (c_TRoute a0)]⟩ ?_)))
 refine then_n ?_
 refine cnd (a0.fClass == 1) (fun b10 => ?_) (fun b10 => ?_)
 have h11 := cond_t b10 h9
 refine awp_seq ?_
 obtain ⟨r4, q13, h14⟩ := bind_some h11
 refine rg [.pure (.bool r4)] [2] 0 ⟨62, [(2, .bool ((((a0.fMetric == 1) && (a0.fTag == 0)) && ((a0.fHops.length : Int) == 1)) && r4))], []⟩ [] [⟨((a0.fMetric == 1) && (a0.fTag == 0)) && ((a0.fHops.length : Int) == 1), 56, [sL 2 c_THop a0.fHops, .bool true], .pure (.bool r4)⟩] nil_all ⟨fun hg => ref15_hops_ok a0.fHops true r4 (gc_some q13 hg), trivial⟩ ?_
 refine then_n (awp_ret (inb_r (then_r ?_)))
 obtain rfl := Option.some.inj h14
 exact er0 (.bool ((((a0.fMetric == 1) && (a0.fTag == 0)) && ((a0.fHops.length : Int) == 1)) && r4))
 have h12 := cond_f b10 h9
 refine awp_seq (rg0 [1, 23, 45] 1 ⟨62, [(1, .ref 0 0), (23, .int .i64 a0.fClass), (45, .bool (a0.fClass == 2))], [.box (c_TRoute a0)]⟩ ?_)
 refine then_n ?_
 refine cnd (a0.fClass == 2) (fun b15 => ?_) (fun b15 => ?_)
 have h16 := cond_t b15 h12
 refine awp_seq (rg0 [2] 0 ⟨62, [(2, .bool ((a0.fHops.length : Int) == 0))], []⟩ ?_)
 refine then_n (awp_ret (inb_r (then_r ?_)))
 obtain rfl := Option.some.inj h16
 exact er0 (.bool ((a0.fHops.length : Int) == 0))
 have h17 := cond_f b15 h12
 refine awp_seq (rg0 [1, 51] 1 ⟨62, [(1, .ref 0 0), (51, .bool (a0.fClass == 3))], [.box (c_TRoute a0)]⟩ ?_)
 refine then_n ?_
 refine cnd (a0.fClass == 3) (fun b18 => ?_) (fun b18 => ?_)
 have h19 := cond_t b18 h17
 refine awp_seq ?_
 obtain ⟨r5, q21, h22⟩ := bind_some h19
 refine rg [.pure (.bool r5)] [2] 0 ⟨62, [(2, .bool ((decide ((a0.fHops.length : Int) > 0)) && r5))], []⟩ [] [⟨decide ((a0.fHops.length : Int) > 0), 56, [sL 2 c_THop a0.fHops, .bool false], .pure (.bool r5)⟩] nil_all ⟨fun hg => ref15_hops_ok a0.fHops false r5 (gc_some q21 hg), trivial⟩ ?_
 refine then_n (awp_ret (inb_r (then_r ?_)))
 obtain rfl := Option.some.inj h22
 exact er0 (.bool ((decide ((a0.fHops.length : Int) > 0)) && r5))
 have h20 := cond_f b18 h17
 refine awp_skip (inb_n (then_n (awp_seq (rg0 [2] 0 ⟨62, [(2, .bool false)], []⟩ ?_))))
 refine then_n (awp_ret ?_)
 obtain rfl := Option.some.inj h20
 exact er0 (.bool false)
theorem ref15_validPath_ok (a0 : TRoute) (r : Bool) (h : M.ref15_validPath a0 = some r) : Fn Try.prog 60 [.agg (c_TRoute a0)] (.pure (.bool r)) := by
 unfold M.ref15_validPath at h
 refine fn_pure Try.func60 rfl (by kernel_rfl) ?_
 refine awp_seq (rg0 [1] 1 ⟨95, [(1, .ref 0 0)], [.box (c_TRoute a0)]⟩ ?_)
 refine then_n (awp_seq (awp_seq ?_))
 obtain ⟨r1, q1, h2⟩ := bind_some h
 obtain ⟨r2, q3, h4⟩ := bind_some h2
 obtain ⟨r3, q5, h6⟩ := bind_some h4
 obtain ⟨r4, q7, h8⟩ := bind_some h6
 refine rg [.pure (.bool r1), .pure (.bool r2), .pure (.bool r3), .pure (.bool r4)] [1, 23] 1 ⟨95, [(1, .ref 0 0), (23, .bool ((((!r1) || (!r2)) || (!r3)) || (!r4)))], [.box (c_TRoute a0)]⟩ [] [⟨true, 54, [.int .i64 a0.fAdmin, .int .i64 1, .int .i64 255], .pure (.bool r1)⟩, ⟨(!(!r1)), 54, [.int .i64 a0.fMetric, .int .i64 0, .int .i64 16777215], .pure (.bool r2)⟩, ⟨(!((!r1) || (!r2))), 54, [.int .i64 a0.fPref, .int .i64 0, .int .i64 1000000], .pure (.bool r3)⟩, ⟨(!(((!r1) || (!r2)) || (!r3))), 55, [.agg (c_TRoute a0), .bool false, .bool true, .bool false], .pure (.bool r4)⟩] nil_all ⟨fun _ => ref15_within_ok a0.fAdmin 1 255 r1 q1, fun hg => ref15_within_ok a0.fMetric 0 16777215 r2 (gc_some q3 hg), fun hg => ref15_within_ok a0.fPref 0 1000000 r3 (gc_some q5 hg), fun hg => ref15_plain_ok a0 false true false r4 (gc_some q7 hg), trivial⟩ ?_
 refine then_n ?_
 refine cnd ((((!r1) || (!r2)) || (!r3)) || (!r4)) (fun b9 => ?_) (fun b9 => ?_)
 have h10 := cond_t b9 h8
 refine awp_seq (rg0 [2] 0 ⟨95, [(2, .bool false)], []⟩ ?_)
 refine then_n (awp_ret (then_r ?_))
 obtain rfl := Option.some.inj h10
 exact er0 (.bool false)
 have h11 := cond_f b9 h8
 refine awp_skip (then_n (awp_seq (awp_seq (rg0 [1, 25] 1 ⟨95, [(1, .ref 0 0), (25, .int .i64 a0.fClass)], [.box (c_TRoute a0)]⟩ ?_))))
 refine then_n (awp_block ?_)
 refine awp_join (fun (p5 : Bool) => ⟨95, [(1, .ref 0 0), (25, .int .i64 a0.fClass), (26, .bool p5)], [.box (c_TRoute a0)]⟩) (fun p5 => M.ref15_validPath_k1 a0 p5 = some r) ?_ ?_
 intro p5 h13
 unfold M.ref15_validPath_k1 at h13
 refine cnd p5 (fun b14 => ?_) (fun b14 => ?_)
 have h15 := cond_t b14 h13
 refine awp_seq (rg0 [2] 0 ⟨95, [(2, .bool (((((a0.fPath.length : Int) == 0) && (a0.fFrom == 0)) && ((a0.fHops.length : Int) == 0)) && (a0.fDiscard == (a0.fClass == 2))))], []⟩ ?_)
 refine then_n (awp_ret (inb_r (then_r ?_)))
 obtain rfl := Option.some.inj h15
 exact er0 (.bool (((((a0.fPath.length : Int) == 0) && (a0.fFrom == 0)) && ((a0.fHops.length : Int) == 0)) && (a0.fDiscard == (a0.fClass == 2))))
 have h16 := cond_f b14 h13
 refine awp_join (fun (p6 : Bool) => ⟨95, [(1, .ref 0 0), (52, .bool p6)], [.box (c_TRoute a0)]⟩) (fun p6 => M.ref15_validPath_k2 a0 p6 = some r) ?_ ?_
 intro p6 h18
 unfold M.ref15_validPath_k2 at h18
 refine cnd p6 (fun b19 => ?_) (fun b19 => ?_)
 have h20 := cond_t b19 h18
 refine awp_seq ?_
 obtain ⟨r7, q22, h23⟩ := bind_some h20
 obtain ⟨c24, h25⟩ := gd_some h23
 refine rg [.pure (.bool r7)] [2] 0 ⟨95, [(2, .bool (((((((a0.fClass == 4) || (decide ((a0.fPath.length : Int) > 0))) && (a0.fFrom != 0)) && ((a0.fHops.length : Int) == 1)) && r7) && (((a0.fHops.getD (0 : Int).toNat default).fAddr) == a0.fFrom)) && (!a0.fDiscard)))], []⟩ [guardB (((((a0.fClass == 4) || (decide ((a0.fPath.length : Int) > 0))) && (a0.fFrom != 0)) && ((a0.fHops.length : Int) == 1)) && r7) (decide (0 ≤ 0)), guardB (((((a0.fClass == 4) || (decide ((a0.fPath.length : Int) > 0))) && (a0.fFrom != 0)) && ((a0.fHops.length : Int) == 1)) && r7) (decide (0 < (a0.fHops.length : Int)))] [⟨(((a0.fClass == 4) || (decide ((a0.fPath.length : Int) > 0))) && (a0.fFrom != 0)) && ((a0.fHops.length : Int) == 1), 56, [sL 2 c_THop a0.fHops, .bool false], .pure (.bool r7)⟩] c24 ⟨fun hg => ref15_hops_ok a0.fHops false r7 (gc_some q22 hg), trivial⟩ ?_
 refine then_n (awp_ret (inb_r (then_r ?_)))
 obtain rfl := Option.some.inj h25
 exact er0 (.bool (((((((a0.fClass == 4) || (decide ((a0.fPath.length : Int) > 0))) && (a0.fFrom != 0)) && ((a0.fHops.length : Int) == 1)) && r7) && (((a0.fHops.getD (0 : Int).toNat default).fAddr) == a0.fFrom)) && (!a0.fDiscard)))
 have h21 := cond_f b19 h18
 refine awp_skip (inb_n (then_n (awp_seq (rg0 [2] 0 ⟨95, [(2, .bool false)], []⟩ ?_))))
 refine then_n (awp_ret ?_)
 obtain rfl := Option.some.inj h21
 exact er0 (.bool false)
 intro k17
 refine awp_seq (rg0 [1, 25, 52] 1 ⟨95, [(1, .ref 0 0), (25, .int .i64 a0.fClass), (52, .bool (a0.fClass == 3))], [.box (c_TRoute a0)]⟩ ?_)
 refine then_n ?_
 refine cnd (a0.fClass == 3) (fun b26 => ?_) (fun b26 => ?_)
 have h27 := cond_t b26 h16
 refine awp_skip ?_
 exact then_le (kp [1, 52]) (k17 (a0.fClass == 3) h27)
 have h28 := cond_f b26 h16
 refine rg0 [1, 52] 1 ⟨95, [(1, .ref 0 0), (52, .bool (a0.fClass == 4))], [.box (c_TRoute a0)]⟩ ?_
 exact then_le (le_rfl) (k17 (a0.fClass == 4) h28)
 intro k12
 refine awp_seq (rg0 [1, 25, 26] 1 ⟨95, [(1, .ref 0 0), (25, .int .i64 a0.fClass), (26, .bool (a0.fClass == 1))], [.box (c_TRoute a0)]⟩ ?_)
 refine then_n ?_
 refine cnd (a0.fClass == 1) (fun b29 => ?_) (fun b29 => ?_)
 have h30 := cond_t b29 h11
 refine awp_skip ?_
 exact then_le (le_rfl) (k12 (a0.fClass == 1) h30)
 have h31 := cond_f b29 h11
 refine rg0 [1, 25, 26] 1 ⟨95, [(1, .ref 0 0), (25, .int .i64 a0.fClass), (26, .bool (a0.fClass == 2))], [.box (c_TRoute a0)]⟩ ?_
 exact then_le (le_rfl) (k12 (a0.fClass == 2) h31)
theorem ref15_Valid_ok (a0 : TRoute) (r : Bool) (h : M.ref15_Valid a0 = some r) : Fn Try.prog 26 [.agg (c_TRoute a0)] (.pure (.bool r)) := by
 unfold M.ref15_Valid at h
 refine fn_pure Try.func26 rfl (by kernel_rfl) ?_
 refine awp_seq (rg0 [1] 1 ⟨92, [(1, .ref 0 0)], [.box (c_TRoute a0)]⟩ ?_)
 refine then_n (awp_seq (awp_seq ?_))
 obtain ⟨r1, q1, h2⟩ := bind_some h
 obtain ⟨r2, q3, h4⟩ := bind_some h2
 refine rg [.pure (.bool r1), .pure (.bool r2)] [1, 19] 1 ⟨92, [(1, .ref 0 0), (19, .bool (((!r1) || (!r2)) || (decide ((a0.fPath.length : Int) > 64))))], [.box (c_TRoute a0)]⟩ [] [⟨true, 53, [.agg (c_TPrefix a0.fPrefix)], .pure (.bool r1)⟩, ⟨(!(!r1)), 54, [.int .i64 a0.fTag, .int .i64 0, .int .i64 65535], .pure (.bool r2)⟩] nil_all ⟨fun _ => ref4_Valid_ok a0.fPrefix r1 q1, fun hg => ref15_within_ok a0.fTag 0 65535 r2 (gc_some q3 hg), trivial⟩ ?_
 refine then_n ?_
 refine cnd (((!r1) || (!r2)) || (decide ((a0.fPath.length : Int) > 64))) (fun b5 => ?_) (fun b5 => ?_)
 have h6 := cond_t b5 h4
 refine awp_seq (rg0 [2] 0 ⟨92, [(2, .bool false)], []⟩ ?_)
 refine then_n (awp_ret (then_r ?_))
 obtain rfl := Option.some.inj h6
 exact er0 (.bool false)
 have h7 := cond_f b5 h4
 refine awp_skip (then_n (awp_seq (awp_seq (rg0 [1, 3] 1 ⟨92, [(1, .ref 0 0), (3, .int .i64 0)], [.box (c_TRoute a0)]⟩ ?_))))
 refine then_n (awp_block ?_)
 obtain ⟨y6, q19, h20⟩ := bind_some h7
 refine awp_le (s' := ⟨92, [(1, .ref 0 0), (3, .int .i64 0)], [.box (c_TRoute a0)]⟩) (le_rfl) ?_
 refine awp_mono (awp_loop (f := M.ref15_Valid_l1 a0) (S := fun (p3 : Int) => ⟨92, [(1, .ref 0 0), (3, .int .i64 p3)], [.box (c_TRoute a0)]⟩) (O := (Sum.elim (fun z => OutE 0 (fun z => ⟨92, [(1, .ref 0 0)], [.box (c_TRoute a0)]⟩) z) (fun z => OutR Try.prog Try.f26 (.bool z)))) ?_ (x := 0) (y := y6) (loopM_iter q19)) ?_
 intro p3 y4 h8
 unfold M.ref15_Valid_l1 at h8
 refine awp_seq (awp_seq (rg0 [1, 3, 24] 1 ⟨92, [(1, .ref 0 0), (3, .int .i64 p3), (24, .bool (decide (p3 < (a0.fPath.length : Int))))], [.box (c_TRoute a0)]⟩ ?_))
 refine then_n ?_
 refine cnd (decide (p3 < (a0.fPath.length : Int))) (fun b9 => ?_) (fun b9 => ?_)
 have h10 := cond_t b9 h8
 refine awp_skip (then_n (awp_seq (awp_block (awp_seq ?_))))
 obtain ⟨r5, q12, h13⟩ := bind_some h10
 obtain ⟨c14, h15⟩ := gd_some h13
 refine rg [.pure (.bool r5)] [1, 3, 33] 1 ⟨92, [(1, .ref 0 0), (3, .int .i64 p3), (33, .bool (!r5))], [.box (c_TRoute a0)]⟩ [decide (0 ≤ p3), decide (p3 < (a0.fPath.length : Int))] [⟨true, 54, [.int .i64 (a0.fPath.getD p3.toNat default), .int .i64 1, .int .i64 65535], .pure (.bool r5)⟩] c14 ⟨fun _ => ref15_within_ok (a0.fPath.getD p3.toNat default) 1 65535 r5 q12, trivial⟩ ?_
 refine then_n ?_
 refine cnd (!r5) (fun b16 => ?_) (fun b16 => ?_)
 have h17 := cond_t b16 h15
 refine awp_seq (rg0 [2] 0 ⟨92, [(2, .bool false)], []⟩ ?_)
 refine then_n (awp_ret (inb_r (then_r ?_)))
 obtain rfl := Option.some.inj h17
 exact round_r ⟨rfl, er0 (.bool false)⟩
 have h18 := cond_f b16 h15
 refine awp_skip (inb_n (then_n (rg0 [1, 3] 1 ⟨92, [(1, .ref 0 0), (3, .int .i64 (wr .i64 (p3 + 1)))], [.box (c_TRoute a0)]⟩ ?_)))
 obtain rfl := Option.some.inj h18
 exact round_n (le_rfl)
 have h11 := cond_f b9 h8
 refine awp_exit (then_e ?_)
 obtain rfl := Option.some.inj h11
 exact round_e ⟨rfl, kp [1]⟩
 intro e21 s22 o23
 rcases y6 with g7 | y8
 have h24 := elim_l h20
 obtain ⟨rfl, l26⟩ := o23
 refine inb_here ?_
 refine then_le (s' := ⟨92, [(1, .ref 0 0)], [.box (c_TRoute a0)]⟩) (l26) ?_
 refine awp_seq (awp_seq (rg0 [1, 35] 1 ⟨92, [(1, .ref 0 0), (35, .int .i64 a0.fProto)], [.box (c_TRoute a0)]⟩ ?_))
 refine then_n (awp_block (awp_seq (rg0 [1, 35, 36] 1 ⟨92, [(1, .ref 0 0), (35, .int .i64 a0.fProto), (36, .bool (a0.fProto == 1))], [.box (c_TRoute a0)]⟩ ?_)))
 refine then_n ?_
 refine cnd (a0.fProto == 1) (fun b27 => ?_) (fun b27 => ?_)
 have h28 := cond_t b27 h24
 refine awp_seq ?_
 obtain ⟨r9, q30, h31⟩ := bind_some h28
 obtain ⟨r10, q32, h33⟩ := bind_some h31
 refine rg [.pure (.bool r9), .pure (.bool r10)] [2] 0 ⟨92, [(2, .bool ((((((((a0.fClass == 0) && (a0.fAdmin == 0)) && (a0.fMetric == 0)) && (a0.fTag == 0)) && r9) && (!a0.fDiscard)) && ((a0.fHops.length : Int) == 1)) && r10))], []⟩ [] [⟨(((a0.fClass == 0) && (a0.fAdmin == 0)) && (a0.fMetric == 0)) && (a0.fTag == 0), 55, [.agg (c_TRoute a0), .bool false, .bool false, .bool false], .pure (.bool r9)⟩, ⟨((((((a0.fClass == 0) && (a0.fAdmin == 0)) && (a0.fMetric == 0)) && (a0.fTag == 0)) && r9) && (!a0.fDiscard)) && ((a0.fHops.length : Int) == 1), 56, [sL 2 c_THop a0.fHops, .bool true], .pure (.bool r10)⟩] nil_all ⟨fun hg => ref15_plain_ok a0 false false false r9 (gc_some q30 hg), fun hg => ref15_hops_ok a0.fHops true r10 (gc_some q32 hg), trivial⟩ ?_
 refine then_n (awp_ret (inb_r (then_r ?_)))
 obtain rfl := Option.some.inj h33
 exact er0 (.bool ((((((((a0.fClass == 0) && (a0.fAdmin == 0)) && (a0.fMetric == 0)) && (a0.fTag == 0)) && r9) && (!a0.fDiscard)) && ((a0.fHops.length : Int) == 1)) && r10))
 have h29 := cond_f b27 h24
 refine awp_seq (rg0 [1, 35, 76] 1 ⟨92, [(1, .ref 0 0), (35, .int .i64 a0.fProto), (76, .bool (a0.fProto == 2))], [.box (c_TRoute a0)]⟩ ?_)
 refine then_n ?_
 refine cnd (a0.fProto == 2) (fun b34 => ?_) (fun b34 => ?_)
 have h35 := cond_t b34 h29
 refine awp_seq ?_
 obtain ⟨r11, q37, h38⟩ := bind_some h35
 refine rg [.pure (.bool r11)] [2] 0 ⟨92, [(2, .bool r11)], []⟩ [] [⟨true, 57, [.agg (c_TRoute a0)], .pure (.bool r11)⟩] nil_all ⟨fun _ => ref15_validStatic_ok a0 r11 q37, trivial⟩ ?_
 refine then_n (awp_ret (inb_r (then_r ?_)))
 obtain rfl := Option.some.inj h38
 exact er0 (.bool r11)
 have h36 := cond_f b34 h29
 refine awp_seq (rg0 [1, 35, 80] 1 ⟨92, [(1, .ref 0 0), (35, .int .i64 a0.fProto), (80, .bool (a0.fProto == 3))], [.box (c_TRoute a0)]⟩ ?_)
 refine then_n ?_
 refine cnd (a0.fProto == 3) (fun b39 => ?_) (fun b39 => ?_)
 have h40 := cond_t b39 h36
 refine awp_seq ?_
 obtain ⟨r12, q42, h43⟩ := bind_some h40
 refine rg [.pure (.bool r12)] [2] 0 ⟨92, [(2, .bool r12)], []⟩ [] [⟨true, 58, [.agg (c_TRoute a0)], .pure (.bool r12)⟩] nil_all ⟨fun _ => ref15_validLinkState_ok a0 r12 q42, trivial⟩ ?_
 refine then_n (awp_ret (inb_r (then_r ?_)))
 obtain rfl := Option.some.inj h43
 exact er0 (.bool r12)
 have h41 := cond_f b39 h36
 refine awp_seq (rg0 [1, 35, 84] 1 ⟨92, [(1, .ref 0 0), (35, .int .i64 a0.fProto), (84, .bool (a0.fProto == 4))], [.box (c_TRoute a0)]⟩ ?_)
 refine then_n ?_
 refine cnd (a0.fProto == 4) (fun b44 => ?_) (fun b44 => ?_)
 have h45 := cond_t b44 h41
 refine awp_seq ?_
 obtain ⟨r13, q47, h48⟩ := bind_some h45
 refine rg [.pure (.bool r13)] [2] 0 ⟨92, [(2, .bool r13)], []⟩ [] [⟨true, 59, [.agg (c_TRoute a0)], .pure (.bool r13)⟩] nil_all ⟨fun _ => ref15_validDistance_ok a0 r13 q47, trivial⟩ ?_
 refine then_n (awp_ret (inb_r (then_r ?_)))
 obtain rfl := Option.some.inj h48
 exact er0 (.bool r13)
 have h46 := cond_f b44 h41
 refine awp_seq (rg0 [1, 88] 1 ⟨92, [(1, .ref 0 0), (88, .bool (a0.fProto == 5))], [.box (c_TRoute a0)]⟩ ?_)
 refine then_n ?_
 refine cnd (a0.fProto == 5) (fun b49 => ?_) (fun b49 => ?_)
 have h50 := cond_t b49 h46
 refine awp_seq ?_
 obtain ⟨r14, q52, h53⟩ := bind_some h50
 refine rg [.pure (.bool r14)] [2] 0 ⟨92, [(2, .bool r14)], []⟩ [] [⟨true, 60, [.agg (c_TRoute a0)], .pure (.bool r14)⟩] nil_all ⟨fun _ => ref15_validPath_ok a0 r14 q52, trivial⟩ ?_
 refine then_n (awp_ret (inb_r (then_r ?_)))
 obtain rfl := Option.some.inj h53
 exact er0 (.bool r14)
 have h51 := cond_f b49 h46
 refine awp_skip (inb_n (then_n (awp_seq (rg0 [2] 0 ⟨92, [(2, .bool false)], []⟩ ?_))))
 refine then_n (awp_ret ?_)
 obtain rfl := Option.some.inj h51
 exact er0 (.bool false)
 have h25 := elim_r h20
 obtain ⟨rfl, n54⟩ := o23
 refine inb_r (then_r ?_)
 obtain rfl := Option.some.inj h25
 exact n54
theorem ref4_Compare_ok (a0 : TPrefix) (a1 : TPrefix) (r : Int) (h : M.ref4_Compare a0 a1 = some r) : Fn Try.prog 36 [.agg (c_TPrefix a0), .agg (c_TPrefix a1)] (.pure (.int .i64 r)) := by
 unfold M.ref4_Compare at h
 refine fn_pure Try.func36 rfl (by kernel_rfl) ?_
 refine awp_seq (rg0 [2, 3] 2 ⟨27, [(2, .ref 0 0), (3, .ref 1 0)], [.box (c_TPrefix a0), .box (c_TPrefix a1)]⟩ ?_)
 refine then_n (awp_seq (awp_seq (rg0 [2, 3, 23] 2 ⟨27, [(2, .ref 0 0), (3, .ref 1 0), (23, .bool ((decide (a0.fAddr < a1.fAddr)) || ((a0.fAddr == a1.fAddr) && (decide (a0.fLen < a1.fLen)))))], [.box (c_TPrefix a0), .box (c_TPrefix a1)]⟩ ?_)))
 refine then_n ?_
 refine cnd ((decide (a0.fAddr < a1.fAddr)) || ((a0.fAddr == a1.fAddr) && (decide (a0.fLen < a1.fLen)))) (fun b1 => ?_) (fun b1 => ?_)
 have h2 := cond_t b1 h
 refine awp_seq (rg0 [4] 0 ⟨27, [(4, .int .i64 (-1))], []⟩ ?_)
 refine then_n (awp_ret (then_r ?_))
 obtain rfl := Option.some.inj h2
 exact er0 (.int .i64 (-1))
 have h3 := cond_f b1 h
 refine awp_skip (then_n (awp_seq (awp_seq (rg0 [26] 0 ⟨27, [(26, .bool ((a0.fAddr == a1.fAddr) && ((a0.fLen == a1.fLen) && true)))], []⟩ ?_))))
 refine then_n ?_
 refine cnd ((a0.fAddr == a1.fAddr) && ((a0.fLen == a1.fLen) && true)) (fun b4 => ?_) (fun b4 => ?_)
 have h5 := cond_t b4 h3
 refine awp_seq (rg0 [4] 0 ⟨27, [(4, .int .i64 0)], []⟩ ?_)
 refine then_n (awp_ret (then_r ?_))
 obtain rfl := Option.some.inj h5
 exact er0 (.int .i64 0)
 have h6 := cond_f b4 h3
 refine awp_skip (then_n (awp_seq (rg0 [4] 0 ⟨27, [(4, .int .i64 1)], []⟩ ?_)))
 refine then_n (awp_ret ?_)
 obtain rfl := Option.some.inj h6
 exact er0 (.int .i64 1)
theorem ref15_Table_ok (a0 : List TRoute) (a1 : Int) (r : Bool) (h : M.ref15_Table a0 a1 = some r) : Fn Try.prog 16 [sL 14 c_TRoute a0, .int .i64 a1] (.pure (.bool r)) := by
 unfold M.ref15_Table at h
 refine fn_pure Try.func16 rfl (by kernel_rfl) ?_
 refine awp_seq (rg0 [0, 1] 0 ⟨50, [(0, sL 14 c_TRoute a0), (1, .int .i64 a1)], []⟩ ?_)
 refine then_n (awp_seq (awp_seq (rg0 [0, 1, 5] 0 ⟨50, [(0, sL 14 c_TRoute a0), (1, .int .i64 a1), (5, .int .i64 0)], []⟩ ?_)))
 refine then_n (awp_block ?_)
 obtain ⟨y5, q14, h15⟩ := bind_some h
 refine awp_le (s' := ⟨50, [(0, sL 14 c_TRoute a0), (1, .int .i64 a1), (5, .int .i64 0)], []⟩) (le_rfl) ?_
 refine awp_mono (awp_loop (f := M.ref15_Table_l1 a0 a1) (S := fun (p1 : Int) => ⟨50, [(0, sL 14 c_TRoute a0), (1, .int .i64 a1), (5, .int .i64 p1)], []⟩) (O := (Sum.elim (fun z => OutE 0 (fun z => ⟨50, [], []⟩) z) (fun z => OutR Try.prog Try.f16 (.bool z)))) ?_ (x := 0) (y := y5) (loopM_iter q14)) ?_
 intro p1 y2 h1
 unfold M.ref15_Table_l1 at h1
 refine awp_seq (awp_seq (rg0 [0, 1, 5, 9] 0 ⟨50, [(0, sL 14 c_TRoute a0), (1, .int .i64 a1), (5, .int .i64 p1), (9, .bool (decide (p1 < (a0.length : Int))))], []⟩ ?_))
 refine then_n ?_
 refine cnd (decide (p1 < (a0.length : Int))) (fun b2 => ?_) (fun b2 => ?_)
 have h3 := cond_t b2 h1
 refine awp_skip (then_n (awp_seq (awp_block (awp_seq ?_))))
 obtain ⟨r3, q5, h6⟩ := bind_some h3
 obtain ⟨r4, q7, h8⟩ := bind_some h6
 obtain ⟨c9, h10⟩ := gd_some h8
 refine rg [.pure (.bool r3), .pure (.int .i64 r4)] [0, 1, 5, 49] 0 ⟨50, [(0, sL 14 c_TRoute a0), (1, .int .i64 a1), (5, .int .i64 p1), (49, .bool (((!r3) || ((a1 != 0) && (((a0.getD p1.toNat default).fProto) != a1))) || ((decide (p1 > 0)) && (decide (r4 ≥ 0)))))], []⟩ [decide (0 ≤ p1), decide (p1 < (a0.length : Int)), guardB ((!(!r3)) && (a1 != 0)) (decide (0 ≤ p1)), guardB ((!(!r3)) && (a1 != 0)) (decide (p1 < (a0.length : Int))), guardB ((!((!r3) || ((a1 != 0) && (((a0.getD p1.toNat default).fProto) != a1)))) && (decide (p1 > 0))) (decide (0 ≤ (wr .i64 (p1 - 1)))), guardB ((!((!r3) || ((a1 != 0) && (((a0.getD p1.toNat default).fProto) != a1)))) && (decide (p1 > 0))) (decide ((wr .i64 (p1 - 1)) < (a0.length : Int))), guardB ((!((!r3) || ((a1 != 0) && (((a0.getD p1.toNat default).fProto) != a1)))) && (decide (p1 > 0))) (decide (0 ≤ p1)), guardB ((!((!r3) || ((a1 != 0) && (((a0.getD p1.toNat default).fProto) != a1)))) && (decide (p1 > 0))) (decide (p1 < (a0.length : Int)))] [⟨true, 26, [.agg (c_TRoute (a0.getD p1.toNat default))], .pure (.bool r3)⟩, ⟨((!((!r3) || ((a1 != 0) && (((a0.getD p1.toNat default).fProto) != a1)))) && (decide (p1 > 0))), 36, [.agg (c_TPrefix ((a0.getD (wr .i64 (p1 - 1)).toNat default).fPrefix)), .agg (c_TPrefix ((a0.getD p1.toNat default).fPrefix))], .pure (.int .i64 r4)⟩] c9 ⟨fun _ => ref15_Valid_ok (a0.getD p1.toNat default) r3 q5, fun hg => ref4_Compare_ok ((a0.getD (wr .i64 (p1 - 1)).toNat default).fPrefix) ((a0.getD p1.toNat default).fPrefix) r4 (gc_some q7 hg), trivial⟩ ?_
 refine then_n ?_
 refine cnd (((!r3) || ((a1 != 0) && (((a0.getD p1.toNat default).fProto) != a1))) || ((decide (p1 > 0)) && (decide (r4 ≥ 0)))) (fun b11 => ?_) (fun b11 => ?_)
 have h12 := cond_t b11 h10
 refine awp_seq (rg0 [4] 0 ⟨50, [(4, .bool false)], []⟩ ?_)
 refine then_n (awp_ret (inb_r (then_r ?_)))
 obtain rfl := Option.some.inj h12
 exact round_r ⟨rfl, er0 (.bool false)⟩
 have h13 := cond_f b11 h10
 refine awp_skip (inb_n (then_n (rg0 [0, 1, 5] 0 ⟨50, [(0, sL 14 c_TRoute a0), (1, .int .i64 a1), (5, .int .i64 (wr .i64 (p1 + 1)))], []⟩ ?_)))
 obtain rfl := Option.some.inj h13
 exact round_n (le_rfl)
 have h4 := cond_f b2 h1
 refine awp_exit (then_e ?_)
 obtain rfl := Option.some.inj h4
 exact round_e ⟨rfl, kp []⟩
 intro e16 s17 o18
 rcases y5 with g6 | y7
 have h19 := elim_l h15
 obtain ⟨rfl, l21⟩ := o18
 refine inb_here ?_
 refine then_le (s' := ⟨50, [], []⟩) (l21) ?_
 refine awp_seq (rg0 [4] 0 ⟨50, [(4, .bool true)], []⟩ ?_)
 refine then_n (awp_ret ?_)
 obtain rfl := Option.some.inj h19
 exact er0 (.bool true)
 have h20 := elim_r h15
 obtain ⟨rfl, n22⟩ := o18
 refine inb_r (then_r ?_)
 obtain rfl := Option.some.inj h20
 exact n22
theorem law19_into_ok (a0 : TRouter) (a1 : Int) (r : (List TRedist)) (h : M.law19_into a0 a1 = some r) : Fn Try.prog 24 [.agg (c_TRouter a0), .int .i64 a1] (.pure (sL 5 c_TRedist r)) := by
 unfold M.law19_into at h
 refine fn_pure Try.func24 rfl (by kernel_rfl) ?_
 refine awp_seq (rg0 [1, 2] 1 ⟨19, [(1, .int .i64 a1), (2, .ref 0 0)], [.box (c_TRouter a0)]⟩ ?_)
 refine then_n (awp_seq (awp_seq (rg0 [2, 5] 1 ⟨19, [(2, .ref 0 0), (5, .int .i64 a1)], [.box (c_TRouter a0)]⟩ ?_)))
 refine then_n (awp_block (awp_seq (rg0 [2, 5, 6] 1 ⟨19, [(2, .ref 0 0), (5, .int .i64 a1), (6, .bool (a1 == 3))], [.box (c_TRouter a0)]⟩ ?_)))
 refine then_n ?_
 refine cnd (a1 == 3) (fun b1 => ?_) (fun b1 => ?_)
 have h2 := cond_t b1 h
 refine awp_seq (rg0 [4] 0 ⟨19, [(4, sL 5 c_TRedist a0.fLS.fRedist)], []⟩ ?_)
 refine then_n (awp_ret (inb_r (then_r ?_)))
 obtain rfl := Option.some.inj h2
 exact er0 (sL 5 c_TRedist a0.fLS.fRedist)
 have h3 := cond_f b1 h
 refine awp_seq (rg0 [2, 11] 1 ⟨19, [(2, .ref 0 0), (11, .bool (a1 == 4))], [.box (c_TRouter a0)]⟩ ?_)
 refine then_n ?_
 refine cnd (a1 == 4) (fun b4 => ?_) (fun b4 => ?_)
 have h5 := cond_t b4 h3
 refine awp_seq (rg0 [4] 0 ⟨19, [(4, sL 5 c_TRedist a0.fDV.fRedist)], []⟩ ?_)
 refine then_n (awp_ret (inb_r (then_r ?_)))
 obtain rfl := Option.some.inj h5
 exact er0 (sL 5 c_TRedist a0.fDV.fRedist)
 have h6 := cond_f b4 h3
 refine awp_skip (inb_n (then_n (awp_seq (rg0 [4] 0 ⟨19, [(4, sL 5 c_TRedist a0.fPV.fRedist)], []⟩ ?_))))
 refine then_n (awp_ret ?_)
 obtain rfl := Option.some.inj h6
 exact er0 (sL 5 c_TRedist a0.fPV.fRedist)
theorem model_RouteMap_1_ok (a0 : TRouteMap) (b0 : ByteArray) (r : Bool) (h : M.model_RouteMap_1 a0 b0 = some r) : Fn Try.prog 92 [.agg (c_TRouteMap a0), .pp (cs b0)] (.pure (.bool r)) := by
 unfold M.model_RouteMap_1 at h
 refine fn_pure Try.func92 rfl (by kernel_rfl) ?_
 refine awp_seq (rg0 [1, 2] 1 ⟨8, [(1, .pp (cs b0)), (2, .ref 0 0)], [.box (c_TRouteMap a0)]⟩ ?_)
 refine then_n (awp_seq (rg0 [3] 0 ⟨8, [(3, .bool (strEq a0.fName b0))], []⟩ ?_))
 refine then_n (awp_ret ?_)
 obtain rfl := Option.some.inj h
 exact er0 (.bool (strEq a0.fName b0))
theorem slices_IndexFunc_api_RouteMap_api_RouteMap__model_RouteMap_1_ok (a0 : List TRouteMap) (a1c0 : ByteArray) (r : Int) (h : M.slices_IndexFunc_api_RouteMap_api_RouteMap__model_RouteMap_1 a0 a1c0 = some r) : Fn Try.prog 91 [sL 2 c_TRouteMap a0, .fn 92 [.pp (cs a1c0)]] (.pure (.int .i64 r)) := by
 unfold M.slices_IndexFunc_api_RouteMap_api_RouteMap__model_RouteMap_1 at h
 refine fn_pure Try.func91 rfl (by kernel_rfl) ?_
 refine awp_seq (rg0 [0, 1] 0 ⟨19, [(0, sL 2 c_TRouteMap a0), (1, .fn 92 [.pp (cs a1c0)])], []⟩ ?_)
 refine then_n (awp_seq (awp_seq (rg0 [0, 1, 7, 8] 0 ⟨19, [(0, sL 2 c_TRouteMap a0), (1, .fn 92 [.pp (cs a1c0)]), (7, .int .i64 (a0.length : Int)), (8, .int .i64 0)], []⟩ ?_)))
 refine then_n (awp_block ?_)
 obtain ⟨y4, q12, h13⟩ := bind_some h
 refine awp_le (s' := ⟨19, [(0, sL 2 c_TRouteMap a0), (1, .fn 92 [.pp (cs a1c0)]), (7, .int .i64 (a0.length : Int)), (8, .int .i64 0)], []⟩) (le_rfl) ?_
 refine awp_mono (awp_loop (f := M.slices_IndexFunc_api_RouteMap_api_RouteMap__model_RouteMap_1_l1 a0 a1c0) (S := fun (p1 : Int) => ⟨19, [(0, sL 2 c_TRouteMap a0), (1, .fn 92 [.pp (cs a1c0)]), (7, .int .i64 (a0.length : Int)), (8, .int .i64 p1)], []⟩) (O := (Sum.elim (fun z => OutE 0 (fun z => ⟨19, [], []⟩) z) (fun z => OutR Try.prog Try.f91 (.int .i64 z)))) ?_ (x := 0) (y := y4) (loopM_iter q12)) ?_
 intro p1 y2 h1
 unfold M.slices_IndexFunc_api_RouteMap_api_RouteMap__model_RouteMap_1_l1 at h1
 refine awp_seq (rg0 [0, 1, 7, 8, 9] 0 ⟨19, [(0, sL 2 c_TRouteMap a0), (1, .fn 92 [.pp (cs a1c0)]), (7, .int .i64 (a0.length : Int)), (8, .int .i64 p1), (9, .bool (decide (p1 < (a0.length : Int))))], []⟩ ?_)
 refine then_n (awp_seq ?_)
 refine cnd (decide (p1 < (a0.length : Int))) (fun b2 => ?_) (fun b2 => ?_)
 have h3 := cond_t b2 h1
 refine awp_skip (then_n (awp_seq (awp_block (awp_seq (rg0 [0, 1, 5, 7, 8] 0 ⟨19, [(0, sL 2 c_TRouteMap a0), (1, .fn 92 [.pp (cs a1c0)]), (5, .int .i64 p1), (7, .int .i64 (a0.length : Int)), (8, .int .i64 p1)], []⟩ ?_)))))
 refine then_n (awp_seq ?_)
 obtain ⟨r3, q5, h6⟩ := bind_some h3
 obtain ⟨c7, h8⟩ := gd_some h6
 refine rg [.pure (.bool r3)] [0, 1, 5, 7, 8, 16] 0 ⟨19, [(0, sL 2 c_TRouteMap a0), (1, .fn 92 [.pp (cs a1c0)]), (5, .int .i64 p1), (7, .int .i64 (a0.length : Int)), (8, .int .i64 p1), (16, .bool r3)], []⟩ [decide (0 ≤ p1), decide (p1 < (a0.length : Int))] [⟨true, 92, [.agg (c_TRouteMap (a0.getD p1.toNat default)), .pp (cs a1c0)], .pure (.bool r3)⟩] c7 ⟨fun _ => model_RouteMap_1_ok (a0.getD p1.toNat default) a1c0 r3 q5, trivial⟩ ?_
 refine then_n ?_
 refine cnd r3 (fun b9 => ?_) (fun b9 => ?_)
 have h10 := cond_t b9 h8
 refine awp_seq (rg0 [4] 0 ⟨19, [(4, .int .i64 p1)], []⟩ ?_)
 refine then_n (awp_ret (inb_r (then_r ?_)))
 obtain rfl := Option.some.inj h10
 exact round_r ⟨rfl, er0 (.int .i64 p1)⟩
 have h11 := cond_f b9 h8
 refine awp_skip (inb_n (then_n (rg0 [0, 1, 7, 8] 0 ⟨19, [(0, sL 2 c_TRouteMap a0), (1, .fn 92 [.pp (cs a1c0)]), (7, .int .i64 (a0.length : Int)), (8, .int .i64 (wr .i64 (p1 + 1)))], []⟩ ?_)))
 obtain rfl := Option.some.inj h11
 exact round_n (le_rfl)
 have h4 := cond_f b2 h1
 refine awp_exit (then_e ?_)
 obtain rfl := Option.some.inj h4
 exact round_e ⟨rfl, kp []⟩
 intro e14 s15 o16
 rcases y4 with g5 | y6
 have h17 := elim_l h13
 obtain ⟨rfl, l19⟩ := o16
 refine inb_here ?_
 refine then_le (s' := ⟨19, [], []⟩) (l19) ?_
 refine awp_seq (rg0 [4] 0 ⟨19, [(4, .int .i64 (-1))], []⟩ ?_)
 refine then_n (awp_ret ?_)
 obtain rfl := Option.some.inj h17
 exact er0 (.int .i64 (-1))
 have h18 := elim_r h13
 obtain ⟨rfl, n20⟩ := o16
 refine inb_r (then_r ?_)
 obtain rfl := Option.some.inj h18
 exact n20
theorem model_RouteMap_ok (a0 : TRouter) (a1 : ByteArray) (r : Int) (h : M.model_RouteMap a0 a1 = some r) : Fn Try.prog 80 [.agg (c_TRouter a0), .str a1] (.pure (.int .i64 r)) := by
 unfold M.model_RouteMap at h
 refine fn_pure Try.func80 rfl (by kernel_rfl) ?_
 refine awp_seq (rg0 [2, 3] 2 ⟨9, [(2, .ref 0 0), (3, .ref 1 0)], [.box (c_TRouter a0), .box [.str a1]]⟩ ?_)
 refine then_n (awp_seq ?_)
 obtain ⟨r1, q1, h2⟩ := bind_some h
 refine rg [.pure (.int .i64 r1)] [4] 0 ⟨9, [(4, .int .i64 r1)], []⟩ [] [⟨true, 91, [sL 2 c_TRouteMap a0.fMaps, .fn 92 [.pp (cs a1)]], .pure (.int .i64 r1)⟩] nil_all ⟨fun _ => slices_IndexFunc_api_RouteMap_api_RouteMap__model_RouteMap_1_ok a0.fMaps a1 r1 q1, trivial⟩ ?_
 refine then_n (awp_ret ?_)
 obtain rfl := Option.some.inj h2
 exact er0 (.int .i64 r1)
theorem model_PrefixList_1_ok (a0 : TPrefixList) (b0 : ByteArray) (r : Bool) (h : M.model_PrefixList_1 a0 b0 = some r) : Fn Try.prog 102 [.agg (c_TPrefixList a0), .pp (cs b0)] (.pure (.bool r)) := by
 unfold M.model_PrefixList_1 at h
 refine fn_pure Try.func102 rfl (by kernel_rfl) ?_
 refine awp_seq (rg0 [1, 2] 1 ⟨8, [(1, .pp (cs b0)), (2, .ref 0 0)], [.box (c_TPrefixList a0)]⟩ ?_)
 refine then_n (awp_seq (rg0 [3] 0 ⟨8, [(3, .bool (strEq a0.fName b0))], []⟩ ?_))
 refine then_n (awp_ret ?_)
 obtain rfl := Option.some.inj h
 exact er0 (.bool (strEq a0.fName b0))
theorem slices_IndexFunc_api_PrefixList_api_PrefixList__model_PrefixList_1_ok (a0 : List TPrefixList) (a1c0 : ByteArray) (r : Int) (h : M.slices_IndexFunc_api_PrefixList_api_PrefixList__model_PrefixList_1 a0 a1c0 = some r) : Fn Try.prog 101 [sL 2 c_TPrefixList a0, .fn 102 [.pp (cs a1c0)]] (.pure (.int .i64 r)) := by
 unfold M.slices_IndexFunc_api_PrefixList_api_PrefixList__model_PrefixList_1 at h
 refine fn_pure Try.func101 rfl (by kernel_rfl) ?_
 refine awp_seq (rg0 [0, 1] 0 ⟨19, [(0, sL 2 c_TPrefixList a0), (1, .fn 102 [.pp (cs a1c0)])], []⟩ ?_)
 refine then_n (awp_seq (awp_seq (rg0 [0, 1, 7, 8] 0 ⟨19, [(0, sL 2 c_TPrefixList a0), (1, .fn 102 [.pp (cs a1c0)]), (7, .int .i64 (a0.length : Int)), (8, .int .i64 0)], []⟩ ?_)))
 refine then_n (awp_block ?_)
 obtain ⟨y4, q12, h13⟩ := bind_some h
 refine awp_le (s' := ⟨19, [(0, sL 2 c_TPrefixList a0), (1, .fn 102 [.pp (cs a1c0)]), (7, .int .i64 (a0.length : Int)), (8, .int .i64 0)], []⟩) (le_rfl) ?_
 refine awp_mono (awp_loop (f := M.slices_IndexFunc_api_PrefixList_api_PrefixList__model_PrefixList_1_l1 a0 a1c0) (S := fun (p1 : Int) => ⟨19, [(0, sL 2 c_TPrefixList a0), (1, .fn 102 [.pp (cs a1c0)]), (7, .int .i64 (a0.length : Int)), (8, .int .i64 p1)], []⟩) (O := (Sum.elim (fun z => OutE 0 (fun z => ⟨19, [], []⟩) z) (fun z => OutR Try.prog Try.f101 (.int .i64 z)))) ?_ (x := 0) (y := y4) (loopM_iter q12)) ?_
 intro p1 y2 h1
 unfold M.slices_IndexFunc_api_PrefixList_api_PrefixList__model_PrefixList_1_l1 at h1
 refine awp_seq (rg0 [0, 1, 7, 8, 9] 0 ⟨19, [(0, sL 2 c_TPrefixList a0), (1, .fn 102 [.pp (cs a1c0)]), (7, .int .i64 (a0.length : Int)), (8, .int .i64 p1), (9, .bool (decide (p1 < (a0.length : Int))))], []⟩ ?_)
 refine then_n (awp_seq ?_)
 refine cnd (decide (p1 < (a0.length : Int))) (fun b2 => ?_) (fun b2 => ?_)
 have h3 := cond_t b2 h1
 refine awp_skip (then_n (awp_seq (awp_block (awp_seq (rg0 [0, 1, 5, 7, 8] 0 ⟨19, [(0, sL 2 c_TPrefixList a0), (1, .fn 102 [.pp (cs a1c0)]), (5, .int .i64 p1), (7, .int .i64 (a0.length : Int)), (8, .int .i64 p1)], []⟩ ?_)))))
 refine then_n (awp_seq ?_)
 obtain ⟨r3, q5, h6⟩ := bind_some h3
 obtain ⟨c7, h8⟩ := gd_some h6
 refine rg [.pure (.bool r3)] [0, 1, 5, 7, 8, 16] 0 ⟨19, [(0, sL 2 c_TPrefixList a0), (1, .fn 102 [.pp (cs a1c0)]), (5, .int .i64 p1), (7, .int .i64 (a0.length : Int)), (8, .int .i64 p1), (16, .bool r3)], []⟩ [decide (0 ≤ p1), decide (p1 < (a0.length : Int))] [⟨true, 102, [.agg (c_TPrefixList (a0.getD p1.toNat default)), .pp (cs a1c0)], .pure (.bool r3)⟩] c7 ⟨fun _ => model_PrefixList_1_ok (a0.getD p1.toNat default) a1c0 r3 q5, trivial⟩ ?_
 refine then_n ?_
 refine cnd r3 (fun b9 => ?_) (fun b9 => ?_)
 have h10 := cond_t b9 h8
 refine awp_seq (rg0 [4] 0 ⟨19, [(4, .int .i64 p1)], []⟩ ?_)
 refine then_n (awp_ret (inb_r (then_r ?_)))
 obtain rfl := Option.some.inj h10
 exact round_r ⟨rfl, er0 (.int .i64 p1)⟩
 have h11 := cond_f b9 h8
 refine awp_skip (inb_n (then_n (rg0 [0, 1, 7, 8] 0 ⟨19, [(0, sL 2 c_TPrefixList a0), (1, .fn 102 [.pp (cs a1c0)]), (7, .int .i64 (a0.length : Int)), (8, .int .i64 (wr .i64 (p1 + 1)))], []⟩ ?_)))
 obtain rfl := Option.some.inj h11
 exact round_n (le_rfl)
 have h4 := cond_f b2 h1
 refine awp_exit (then_e ?_)
 obtain rfl := Option.some.inj h4
 exact round_e ⟨rfl, kp []⟩
 intro e14 s15 o16
 rcases y4 with g5 | y6
 have h17 := elim_l h13
 obtain ⟨rfl, l19⟩ := o16
 refine inb_here ?_
 refine then_le (s' := ⟨19, [], []⟩) (l19) ?_
 refine awp_seq (rg0 [4] 0 ⟨19, [(4, .int .i64 (-1))], []⟩ ?_)
 refine then_n (awp_ret ?_)
 obtain rfl := Option.some.inj h17
 exact er0 (.int .i64 (-1))
 have h18 := elim_r h13
 obtain ⟨rfl, n20⟩ := o16
 refine inb_r (then_r ?_)
 obtain rfl := Option.some.inj h18
 exact n20
theorem model_PrefixList_ok (a0 : TRouter) (a1 : ByteArray) (r : Int) (h : M.model_PrefixList a0 a1 = some r) : Fn Try.prog 97 [.agg (c_TRouter a0), .str a1] (.pure (.int .i64 r)) := by
 unfold M.model_PrefixList at h
 refine fn_pure Try.func97 rfl (by kernel_rfl) ?_
 refine awp_seq (rg0 [2, 3] 2 ⟨9, [(2, .ref 0 0), (3, .ref 1 0)], [.box (c_TRouter a0), .box [.str a1]]⟩ ?_)
 refine then_n (awp_seq ?_)
 obtain ⟨r1, q1, h2⟩ := bind_some h
 refine rg [.pure (.int .i64 r1)] [4] 0 ⟨9, [(4, .int .i64 r1)], []⟩ [] [⟨true, 101, [sL 2 c_TPrefixList a0.fLists, .fn 102 [.pp (cs a1)]], .pure (.int .i64 r1)⟩] nil_all ⟨fun _ => slices_IndexFunc_api_PrefixList_api_PrefixList__model_PrefixList_1_ok a0.fLists a1 r1 q1, trivial⟩ ?_
 refine then_n (awp_ret ?_)
 obtain rfl := Option.some.inj h2
 exact er0 (.int .i64 r1)
theorem addr_clamp_ok (a0 : Int) (r : Int) (h : M.addr_clamp a0 = some r) : Fn Try.prog 107 [.int .i64 a0] (.pure (.int .i64 r)) := by
 unfold M.addr_clamp at h
 refine fn_pure Try.func107 rfl (by kernel_rfl) ?_
 refine awp_seq (rg0 [0] 0 ⟨6, [(0, .int .i64 a0)], []⟩ ?_)
 refine then_n (awp_seq (rg0 [2] 0 ⟨6, [(2, .int .i64 (if (if 32 < a0 then 32 else a0) > 0 then (if 32 < a0 then 32 else a0) else 0))], []⟩ ?_))
 refine then_n (awp_ret ?_)
 obtain rfl := Option.some.inj h
 exact er0 (.int .i64 (if (if 32 < a0 then 32 else a0) > 0 then (if 32 < a0 then 32 else a0) else 0))
theorem addr_Mask_ok (a0 : Int) (r : Int) (h : M.addr_Mask a0 = some r) : Fn Try.prog 106 [.int .i64 a0] (.pure (.int .u32 r)) := by
 unfold M.addr_Mask at h
 refine fn_pure Try.func106 rfl (by kernel_rfl) ?_
 refine awp_seq (rg0 [0] 0 ⟨7, [(0, .int .i64 a0)], []⟩ ?_)
 refine then_n (awp_seq ?_)
 obtain ⟨r1, q1, h2⟩ := bind_some h
 obtain ⟨c3, h4⟩ := gd_some h2
 refine rg [.pure (.int .i64 r1)] [2] 0 ⟨7, [(2, .int .u32 (wr .u32 (4294967295 * 2 ^ min (wr .i64 (32 - r1)).toNat 32)))], []⟩ [decide (0 ≤ (wr .i64 (32 - r1)))] [⟨true, 107, [.int .i64 a0], .pure (.int .i64 r1)⟩] c3 ⟨fun _ => addr_clamp_ok a0 r1 q1, trivial⟩ ?_
 refine then_n (awp_ret ?_)
 obtain rfl := Option.some.inj h4
 exact er0 (.int .u32 (wr .u32 (4294967295 * 2 ^ min (wr .i64 (32 - r1)).toNat 32)))
theorem addr_Contains_ok (a0 : TPrefix) (a1 : Int) (r : Bool) (h : M.addr_Contains a0 a1 = some r) : Fn Try.prog 105 [.agg (c_TPrefix a0), .int .u32 a1] (.pure (.bool r)) := by
 unfold M.addr_Contains at h
 refine fn_pure Try.func105 rfl (by kernel_rfl) ?_
 refine awp_seq (rg0 [1, 2] 1 ⟨13, [(1, .int .u32 a1), (2, .ref 0 0)], [.box (c_TPrefix a0)]⟩ ?_)
 refine then_n (awp_seq ?_)
 obtain ⟨r1, q1, h2⟩ := bind_some h
 refine rg [.pure (.int .u32 r1)] [4] 0 ⟨13, [(4, .bool ((bitD .and .u32 a1 r1) == a0.fAddr))], []⟩ [] [⟨true, 106, [.int .i64 a0.fLen], .pure (.int .u32 r1)⟩] nil_all ⟨fun _ => addr_Mask_ok a0.fLen r1 q1, trivial⟩ ?_
 refine then_n (awp_ret ?_)
 obtain rfl := Option.some.inj h2
 exact er0 (.bool ((bitD .and .u32 a1 r1) == a0.fAddr))
theorem addr_Covers_ok (a0 : TPrefix) (a1 : TPrefix) (r : Bool) (h : M.addr_Covers a0 a1 = some r) : Fn Try.prog 104 [.agg (c_TPrefix a0), .agg (c_TPrefix a1)] (.pure (.bool r)) := by
 unfold M.addr_Covers at h
 refine fn_pure Try.func104 rfl (by kernel_rfl) ?_
 refine awp_seq (rg0 [2, 3] 2 ⟨16, [(2, .ref 0 0), (3, .ref 1 0)], [.box (c_TPrefix a0), .box (c_TPrefix a1)]⟩ ?_)
 refine then_n (awp_seq ?_)
 obtain ⟨r1, q1, h2⟩ := bind_some h
 refine rg [.pure (.bool r1)] [4] 0 ⟨16, [(4, .bool ((decide (a0.fLen ≤ a1.fLen)) && r1))], []⟩ [] [⟨decide (a0.fLen ≤ a1.fLen), 105, [.agg (c_TPrefix a0), .int .u32 a1.fAddr], .pure (.bool r1)⟩] nil_all ⟨fun hg => addr_Contains_ok a0 a1.fAddr r1 (gc_some q1 hg), trivial⟩ ?_
 refine then_n (awp_ret ?_)
 obtain rfl := Option.some.inj h2
 exact er0 (.bool ((decide (a0.fLen ≤ a1.fLen)) && r1))
theorem policy_Matches_ok (a0 : TPrefixRule) (a1 : TPrefix) (r : Bool) (h : M.policy_Matches a0 a1 = some r) : Fn Try.prog 103 [.agg (c_TPrefixRule a0), .agg (c_TPrefix a1)] (.pure (.bool r)) := by
 unfold M.policy_Matches at h
 refine fn_pure Try.func103 rfl (by kernel_rfl) ?_
 refine awp_seq (rg0 [2, 3] 2 ⟨23, [(2, .ref 0 0), (3, .ref 1 0)], [.box (c_TPrefixRule a0), .box (c_TPrefix a1)]⟩ ?_)
 refine then_n (awp_seq ?_)
 obtain ⟨r1, q1, h2⟩ := bind_some h
 refine rg [.pure (.bool r1)] [4] 0 ⟨23, [(4, .bool ((r1 && (decide (a0.fMin ≤ a1.fLen))) && (decide (a1.fLen ≤ a0.fMax))))], []⟩ [] [⟨true, 104, [.agg (c_TPrefix a0.fPrefix), .agg (c_TPrefix a1)], .pure (.bool r1)⟩] nil_all ⟨fun _ => addr_Covers_ok a0.fPrefix a1 r1 q1, trivial⟩ ?_
 refine then_n (awp_ret ?_)
 obtain rfl := Option.some.inj h2
 exact er0 (.bool ((r1 && (decide (a0.fMin ≤ a1.fLen))) && (decide (a1.fLen ≤ a0.fMax))))
theorem policy_First_ok (a0 : TPrefixList) (a1 : TPrefix) (r : Int) (h : M.policy_First a0 a1 = some r) : Fn Try.prog 98 [.agg (c_TPrefixList a0), .agg (c_TPrefix a1)] (.pure (.int .i64 r)) := by
 unfold M.policy_First at h
 refine fn_pure Try.func98 rfl (by kernel_rfl) ?_
 refine awp_seq (rg0 [2, 3] 2 ⟨20, [(2, .ref 0 0), (3, .ref 1 0)], [.box (c_TPrefixList a0), .box (c_TPrefix a1)]⟩ ?_)
 refine then_n (awp_seq (awp_seq (rg0 [3, 8, 9, 10] 2 ⟨20, [(3, .ref 1 0), (8, sL 5 c_TPrefixRule a0.fRules), (9, .int .i64 (a0.fRules.length : Int)), (10, .int .i64 0)], [.box (c_TPrefixList a0), .box (c_TPrefix a1)]⟩ ?_)))
 refine then_n (awp_block ?_)
 obtain ⟨y4, q12, h13⟩ := bind_some h
 refine awp_le (s' := ⟨20, [(3, .ref 1 0), (8, sL 5 c_TPrefixRule a0.fRules), (9, .int .i64 (a0.fRules.length : Int)), (10, .int .i64 0)], [.box (c_TPrefixList a0), .box (c_TPrefix a1)]⟩) (le_rfl) ?_
 refine awp_mono (awp_loop (f := M.policy_First_l1 a0 a1) (S := fun (p1 : Int) => ⟨20, [(3, .ref 1 0), (8, sL 5 c_TPrefixRule a0.fRules), (9, .int .i64 (a0.fRules.length : Int)), (10, .int .i64 p1)], [.box (c_TPrefixList a0), .box (c_TPrefix a1)]⟩) (O := (Sum.elim (fun z => OutE 0 (fun z => ⟨20, [], []⟩) z) (fun z => OutR Try.prog Try.f98 (.int .i64 z)))) ?_ (x := 0) (y := y4) (loopM_iter q12)) ?_
 intro p1 y2 h1
 unfold M.policy_First_l1 at h1
 refine awp_seq (rg0 [3, 8, 9, 10, 11] 2 ⟨20, [(3, .ref 1 0), (8, sL 5 c_TPrefixRule a0.fRules), (9, .int .i64 (a0.fRules.length : Int)), (10, .int .i64 p1), (11, .bool (decide (p1 < (a0.fRules.length : Int))))], [.box (c_TPrefixList a0), .box (c_TPrefix a1)]⟩ ?_)
 refine then_n (awp_seq ?_)
 refine cnd (decide (p1 < (a0.fRules.length : Int))) (fun b2 => ?_) (fun b2 => ?_)
 have h3 := cond_t b2 h1
 refine awp_skip (then_n (awp_seq (awp_block (awp_seq ?_))))
 obtain ⟨c5, h6⟩ := gd_some h3
 refine rgc [3, 5, 6, 8, 9, 10] 3 ⟨20, [(3, .ref 1 0), (5, .int .i64 p1), (6, .ref 2 0), (8, sL 5 c_TPrefixRule a0.fRules), (9, .int .i64 (a0.fRules.length : Int)), (10, .int .i64 p1)], [.box (c_TPrefixList a0), .box (c_TPrefix a1), .box (c_TPrefixRule (a0.fRules.getD p1.toNat default))]⟩ [decide (0 ≤ p1), decide (p1 < (a0.fRules.length : Int))] c5 ?_
 refine then_n (awp_seq ?_)
 obtain ⟨r3, q7, h8⟩ := bind_some h6
 refine rg [.pure (.bool r3)] [3, 5, 8, 9, 10, 17] 2 ⟨20, [(3, .ref 1 0), (5, .int .i64 p1), (8, sL 5 c_TPrefixRule a0.fRules), (9, .int .i64 (a0.fRules.length : Int)), (10, .int .i64 p1), (17, .bool r3)], [.box (c_TPrefixList a0), .box (c_TPrefix a1)]⟩ [] [⟨true, 103, [.agg (c_TPrefixRule (a0.fRules.getD p1.toNat default)), .agg (c_TPrefix a1)], .pure (.bool r3)⟩] nil_all ⟨fun _ => policy_Matches_ok (a0.fRules.getD p1.toNat default) a1 r3 q7, trivial⟩ ?_
 refine then_n ?_
 refine cnd r3 (fun b9 => ?_) (fun b9 => ?_)
 have h10 := cond_t b9 h8
 refine awp_seq (rg0 [4] 0 ⟨20, [(4, .int .i64 p1)], []⟩ ?_)
 refine then_n (awp_ret (inb_r (then_r ?_)))
 obtain rfl := Option.some.inj h10
 exact round_r ⟨rfl, er0 (.int .i64 p1)⟩
 have h11 := cond_f b9 h8
 refine awp_skip (inb_n (then_n (rg0 [3, 8, 9, 10] 2 ⟨20, [(3, .ref 1 0), (8, sL 5 c_TPrefixRule a0.fRules), (9, .int .i64 (a0.fRules.length : Int)), (10, .int .i64 (wr .i64 (p1 + 1)))], [.box (c_TPrefixList a0), .box (c_TPrefix a1)]⟩ ?_)))
 obtain rfl := Option.some.inj h11
 exact round_n (le_rfl)
 have h4 := cond_f b2 h1
 refine awp_exit (then_e ?_)
 obtain rfl := Option.some.inj h4
 exact round_e ⟨rfl, Le.trans (s' := ⟨20, [], [.box (c_TPrefixList a0), .box (c_TPrefix a1)]⟩) (kp []) (le_cut (n := 0) (by kernel_rfl))⟩
 intro e14 s15 o16
 rcases y4 with g5 | y6
 have h17 := elim_l h13
 obtain ⟨rfl, l19⟩ := o16
 refine inb_here ?_
 refine then_le (s' := ⟨20, [], []⟩) (l19) ?_
 refine awp_seq (rg0 [4] 0 ⟨20, [(4, .int .i64 (-1))], []⟩ ?_)
 refine then_n (awp_ret ?_)
 obtain rfl := Option.some.inj h17
 exact er0 (.int .i64 (-1))
 have h18 := elim_r h13
 obtain ⟨rfl, n20⟩ := o16
 refine inb_r (then_r ?_)
 obtain rfl := Option.some.inj h18
 exact n20
theorem policy_Permits_ok (a0 : TRouter) (a1 : ByteArray) (a2 : TPrefix) (r : Bool) (h : M.policy_Permits a0 a1 a2 = some r) : Fn Try.prog 93 [.agg (c_TRouter a0), .str a1, .agg (c_TPrefix a2)] (.pure (.bool r)) := by
 unfold M.policy_Permits at h
 refine fn_pure Try.func93 rfl (by kernel_rfl) ?_
 refine awp_seq (rg0 [1, 3, 5] 2 ⟨37, [(1, .str a1), (3, .ref 0 0), (5, .ref 1 0)], [.box (c_TRouter a0), .box (c_TPrefix a2)]⟩ ?_)
 refine then_n (awp_seq (awp_seq (rg0 [1, 3, 5, 10] 2 ⟨37, [(1, .str a1), (3, .ref 0 0), (5, .ref 1 0), (10, .bool (strEq a1 (⟨#[]⟩ : ByteArray)))], [.box (c_TRouter a0), .box (c_TPrefix a2)]⟩ ?_)))
 refine then_n ?_
 refine cnd (strEq a1 (⟨#[]⟩ : ByteArray)) (fun b1 => ?_) (fun b1 => ?_)
 have h2 := cond_t b1 h
 refine awp_seq (rg0 [6] 0 ⟨37, [(6, .bool true)], []⟩ ?_)
 refine then_n (awp_ret (then_r ?_))
 obtain rfl := Option.some.inj h2
 exact er0 (.bool true)
 have h3 := cond_f b1 h
 refine awp_skip (then_n (awp_seq ?_))
 obtain ⟨r1, q4, h5⟩ := bind_some h3
 refine rg [.pure (.int .i64 r1)] [3, 5, 7] 2 ⟨37, [(3, .ref 0 0), (5, .ref 1 0), (7, .int .i64 r1)], [.box (c_TRouter a0), .box (c_TPrefix a2)]⟩ [] [⟨true, 97, [.agg (c_TRouter a0), .str a1], .pure (.int .i64 r1)⟩] nil_all ⟨fun _ => model_PrefixList_ok a0 a1 r1 q4, trivial⟩ ?_
 refine then_n (awp_seq (awp_seq (rg0 [3, 5, 7, 15] 2 ⟨37, [(3, .ref 0 0), (5, .ref 1 0), (7, .int .i64 r1), (15, .bool (decide (r1 < 0)))], [.box (c_TRouter a0), .box (c_TPrefix a2)]⟩ ?_)))
 refine then_n ?_
 refine cnd (decide (r1 < 0)) (fun b6 => ?_) (fun b6 => ?_)
 have h7 := cond_t b6 h5
 refine awp_seq (rg0 [6] 0 ⟨37, [(6, .bool false)], []⟩ ?_)
 refine then_n (awp_ret (then_r ?_))
 obtain rfl := Option.some.inj h7
 exact er0 (.bool false)
 have h8 := cond_f b6 h5
 refine awp_skip (then_n (awp_seq ?_))
 obtain ⟨r2, q9, h10⟩ := bind_some h8
 obtain ⟨c11, h12⟩ := gd_some h10
 refine rg [.pure (.int .i64 r2)] [3, 7, 8] 1 ⟨37, [(3, .ref 0 0), (7, .int .i64 r1), (8, .int .i64 r2)], [.box (c_TRouter a0)]⟩ [decide (0 ≤ r1), decide (r1 < (a0.fLists.length : Int))] [⟨true, 98, [.agg (c_TPrefixList (a0.fLists.getD r1.toNat default)), .agg (c_TPrefix a2)], .pure (.int .i64 r2)⟩] c11 ⟨fun _ => policy_First_ok (a0.fLists.getD r1.toNat default) a2 r2 q9, trivial⟩ ?_
 refine then_n (awp_seq ?_)
 obtain ⟨c13, h14⟩ := gd_some h12
 refine rgc [6] 0 ⟨37, [(6, .bool ((decide (r2 ≥ 0)) && ((((a0.fLists.getD r1.toNat default).fRules).getD r2.toNat default).fPermit)))], []⟩ [guardB (decide (r2 ≥ 0)) (decide (0 ≤ r1)), guardB (decide (r2 ≥ 0)) (decide (r1 < (a0.fLists.length : Int))), guardB (decide (r2 ≥ 0)) (decide (0 ≤ r2)), guardB (decide (r2 ≥ 0)) (decide (r2 < (((a0.fLists.getD r1.toNat default).fRules).length : Int)))] c13 ?_
 refine then_n (awp_ret ?_)
 obtain rfl := Option.some.inj h14
 exact er0 (.bool ((decide (r2 ≥ 0)) && ((((a0.fLists.getD r1.toNat default).fRules).getD r2.toNat default).fPermit)))
theorem policy_Clause_ok (a0 : TRouter) (a1 : ByteArray) (a2 : TRoute) (r : Int) (h : M.policy_Clause a0 a1 a2 = some r) : Fn Try.prog 81 [.agg (c_TRouter a0), .str a1, .agg (c_TRoute a2)] (.pure (.int .i64 r)) := by
 unfold M.policy_Clause at h
 refine fn_pure Try.func81 rfl (by kernel_rfl) ?_
 refine awp_seq (rg0 [1, 3, 5] 2 ⟨47, [(1, .str a1), (3, .ref 0 0), (5, .ref 1 0)], [.box (c_TRouter a0), .box (c_TRoute a2)]⟩ ?_)
 refine then_n (awp_seq ?_)
 obtain ⟨r1, q1, h2⟩ := bind_some h
 refine rg [.pure (.int .i64 r1)] [3, 5, 7] 2 ⟨47, [(3, .ref 0 0), (5, .ref 1 0), (7, .int .i64 r1)], [.box (c_TRouter a0), .box (c_TRoute a2)]⟩ [] [⟨true, 80, [.agg (c_TRouter a0), .str a1], .pure (.int .i64 r1)⟩] nil_all ⟨fun _ => model_RouteMap_ok a0 a1 r1 q1, trivial⟩ ?_
 refine then_n (awp_seq (awp_seq (rg0 [3, 5, 7, 14] 2 ⟨47, [(3, .ref 0 0), (5, .ref 1 0), (7, .int .i64 r1), (14, .bool (decide (r1 < 0)))], [.box (c_TRouter a0), .box (c_TRoute a2)]⟩ ?_)))
 refine then_n ?_
 refine cnd (decide (r1 < 0)) (fun b3 => ?_) (fun b3 => ?_)
 have h4 := cond_t b3 h2
 refine awp_seq (rg0 [6] 0 ⟨47, [(6, .int .i64 (-1))], []⟩ ?_)
 refine then_n (awp_ret (then_r ?_))
 obtain rfl := Option.some.inj h4
 exact er0 (.int .i64 (-1))
 have h5 := cond_f b3 h2
 refine awp_skip (then_n (awp_seq (awp_seq ?_)))
 obtain ⟨c6, h7⟩ := gd_some h5
 refine rgc [3, 5, 20, 21, 22] 2 ⟨47, [(3, .ref 0 0), (5, .ref 1 0), (20, sL 7 c_TClause ((a0.fMaps.getD r1.toNat default).fClauses)), (21, .int .i64 (((a0.fMaps.getD r1.toNat default).fClauses).length : Int)), (22, .int .i64 0)], [.box (c_TRouter a0), .box (c_TRoute a2)]⟩ [decide (0 ≤ r1), decide (r1 < (a0.fMaps.length : Int))] c6 ?_
 refine then_n (awp_block ?_)
 obtain ⟨y5, q19, h20⟩ := bind_some h7
 refine awp_le (s' := ⟨47, [(3, .ref 0 0), (5, .ref 1 0), (20, sL 7 c_TClause ((a0.fMaps.getD r1.toNat default).fClauses)), (21, .int .i64 (((a0.fMaps.getD r1.toNat default).fClauses).length : Int)), (22, .int .i64 0)], [.box (c_TRouter a0), .box (c_TRoute a2)]⟩) (le_rfl) ?_
 refine awp_mono (awp_loop (f := M.policy_Clause_l1 a0 a2 r1) (S := fun (p2 : Int) => ⟨47, [(3, .ref 0 0), (5, .ref 1 0), (20, sL 7 c_TClause ((a0.fMaps.getD r1.toNat default).fClauses)), (21, .int .i64 (((a0.fMaps.getD r1.toNat default).fClauses).length : Int)), (22, .int .i64 p2)], [.box (c_TRouter a0), .box (c_TRoute a2)]⟩) (O := (Sum.elim (fun z => OutE 0 (fun z => ⟨47, [], []⟩) z) (fun z => OutR Try.prog Try.f81 (.int .i64 z)))) ?_ (x := 0) (y := y5) (loopM_iter q19)) ?_
 intro p2 y3 h8
 unfold M.policy_Clause_l1 at h8
 refine awp_seq (rg0 [3, 5, 20, 21, 22, 23] 2 ⟨47, [(3, .ref 0 0), (5, .ref 1 0), (20, sL 7 c_TClause ((a0.fMaps.getD r1.toNat default).fClauses)), (21, .int .i64 (((a0.fMaps.getD r1.toNat default).fClauses).length : Int)), (22, .int .i64 p2), (23, .bool (decide (p2 < (((a0.fMaps.getD r1.toNat default).fClauses).length : Int))))], [.box (c_TRouter a0), .box (c_TRoute a2)]⟩ ?_)
 refine then_n (awp_seq ?_)
 refine cnd (decide (p2 < (((a0.fMaps.getD r1.toNat default).fClauses).length : Int))) (fun b9 => ?_) (fun b9 => ?_)
 have h10 := cond_t b9 h8
 refine awp_skip (then_n (awp_seq (awp_block (awp_seq ?_))))
 obtain ⟨c12, h13⟩ := gd_some h10
 refine rgc [3, 5, 8, 9, 20, 21, 22] 3 ⟨47, [(3, .ref 0 0), (5, .ref 1 0), (8, .int .i64 p2), (9, .ref 2 0), (20, sL 7 c_TClause ((a0.fMaps.getD r1.toNat default).fClauses)), (21, .int .i64 (((a0.fMaps.getD r1.toNat default).fClauses).length : Int)), (22, .int .i64 p2)], [.box (c_TRouter a0), .box (c_TRoute a2), .box (c_TClause (((a0.fMaps.getD r1.toNat default).fClauses).getD p2.toNat default))]⟩ [decide (0 ≤ p2), decide (p2 < (((a0.fMaps.getD r1.toNat default).fClauses).length : Int))] c12 ?_
 refine then_n (awp_seq ?_)
 obtain ⟨r4, q14, h15⟩ := bind_some h13
 refine rg [.pure (.bool r4)] [3, 5, 8, 20, 21, 22, 44] 2 ⟨47, [(3, .ref 0 0), (5, .ref 1 0), (8, .int .i64 p2), (20, sL 7 c_TClause ((a0.fMaps.getD r1.toNat default).fClauses)), (21, .int .i64 (((a0.fMaps.getD r1.toNat default).fClauses).length : Int)), (22, .int .i64 p2), (44, .bool (r4 && ((((((a0.fMaps.getD r1.toNat default).fClauses).getD p2.toNat default).fTag) == (-1)) || (((((a0.fMaps.getD r1.toNat default).fClauses).getD p2.toNat default).fTag) == a2.fTag))))], [.box (c_TRouter a0), .box (c_TRoute a2)]⟩ [] [⟨true, 93, [.agg (c_TRouter a0), .str ((((a0.fMaps.getD r1.toNat default).fClauses).getD p2.toNat default).fList), .agg (c_TPrefix a2.fPrefix)], .pure (.bool r4)⟩] nil_all ⟨fun _ => policy_Permits_ok a0 ((((a0.fMaps.getD r1.toNat default).fClauses).getD p2.toNat default).fList) a2.fPrefix r4 q14, trivial⟩ ?_
 refine then_n ?_
 refine cnd (r4 && ((((((a0.fMaps.getD r1.toNat default).fClauses).getD p2.toNat default).fTag) == (-1)) || (((((a0.fMaps.getD r1.toNat default).fClauses).getD p2.toNat default).fTag) == a2.fTag))) (fun b16 => ?_) (fun b16 => ?_)
 have h17 := cond_t b16 h15
 refine awp_seq (rg0 [6] 0 ⟨47, [(6, .int .i64 p2)], []⟩ ?_)
 refine then_n (awp_ret (inb_r (then_r ?_)))
 obtain rfl := Option.some.inj h17
 exact round_r ⟨rfl, er0 (.int .i64 p2)⟩
 have h18 := cond_f b16 h15
 refine awp_skip (inb_n (then_n (rg0 [3, 5, 20, 21, 22] 2 ⟨47, [(3, .ref 0 0), (5, .ref 1 0), (20, sL 7 c_TClause ((a0.fMaps.getD r1.toNat default).fClauses)), (21, .int .i64 (((a0.fMaps.getD r1.toNat default).fClauses).length : Int)), (22, .int .i64 (wr .i64 (p2 + 1)))], [.box (c_TRouter a0), .box (c_TRoute a2)]⟩ ?_)))
 obtain rfl := Option.some.inj h18
 exact round_n (le_rfl)
 have h11 := cond_f b9 h8
 refine awp_exit (then_e ?_)
 obtain rfl := Option.some.inj h11
 exact round_e ⟨rfl, Le.trans (s' := ⟨47, [], [.box (c_TRouter a0), .box (c_TRoute a2)]⟩) (kp []) (le_cut (n := 0) (by kernel_rfl))⟩
 intro e21 s22 o23
 rcases y5 with g6 | y7
 have h24 := elim_l h20
 obtain ⟨rfl, l26⟩ := o23
 refine inb_here ?_
 refine then_le (s' := ⟨47, [], []⟩) (l26) ?_
 refine awp_seq (rg0 [6] 0 ⟨47, [(6, .int .i64 (-1))], []⟩ ?_)
 refine then_n (awp_ret ?_)
 obtain rfl := Option.some.inj h24
 exact er0 (.int .i64 (-1))
 have h25 := elim_r h20
 obtain ⟨rfl, n27⟩ := o23
 refine inb_r (then_r ?_)
 obtain rfl := Option.some.inj h25
 exact n27
theorem rib_values_ok (a0 : TRouter) (a1 : TRedist) (a2 : TRoute) (r : Int × Int × Bool) (h : M.rib_values a0 a1 a2 = some r) : Fn Try.prog 49 [.agg (c_TRouter a0), .agg (c_TRedist a1), .agg (c_TRoute a2)] (.pure (.tup [.int .i64 r.1, .int .i64 r.2.1, .bool r.2.2])) := by
 unfold M.rib_values at h
 refine fn_pure Try.func49 rfl (by kernel_rfl) ?_
 refine awp_seq (rg0 [3, 4, 5] 3 ⟨79, [(3, .ref 0 0), (4, .ref 1 0), (5, .ref 2 0)], [.box (c_TRouter a0), .box (c_TRedist a1), .box (c_TRoute a2)]⟩ ?_)
 refine then_n (awp_seq (rg0 [3, 4, 5, 9, 10] 3 ⟨79, [(3, .ref 0 0), (4, .ref 1 0), (5, .ref 2 0), (9, .int .i64 a1.fMetric), (10, .int .i64 a1.fTag)], [.box (c_TRouter a0), .box (c_TRedist a1), .box (c_TRoute a2)]⟩ ?_))
 refine then_n (awp_seq (awp_seq (rg0 [3, 4, 5, 9, 10, 20] 3 ⟨79, [(3, .ref 0 0), (4, .ref 1 0), (5, .ref 2 0), (9, .int .i64 a1.fMetric), (10, .int .i64 a1.fTag), (20, .bool (strEq a1.fMap (⟨#[]⟩ : ByteArray)))], [.box (c_TRouter a0), .box (c_TRedist a1), .box (c_TRoute a2)]⟩ ?_)))
 refine then_n ?_
 refine cnd (strEq a1.fMap (⟨#[]⟩ : ByteArray)) (fun b1 => ?_) (fun b1 => ?_)
 have h2 := cond_t b1 h
 refine awp_seq (rg0 [6, 7, 8] 0 ⟨79, [(6, .int .i64 a1.fMetric), (7, .int .i64 a1.fTag), (8, .bool true)], []⟩ ?_)
 refine then_n (awp_ret (then_r ?_))
 obtain rfl := Option.some.inj h2
 exact er0 (.tup [.int .i64 a1.fMetric, .int .i64 a1.fTag, .bool true])
 have h3 := cond_f b1 h
 refine awp_skip (then_n (awp_seq ?_))
 obtain ⟨r1, q4, h5⟩ := bind_some h3
 obtain ⟨r2, q6, h7⟩ := bind_some h5
 refine rg [.pure (.int .i64 r1), .pure (.int .i64 r2)] [3, 9, 10, 11, 12] 1 ⟨79, [(3, .ref 0 0), (9, .int .i64 a1.fMetric), (10, .int .i64 a1.fTag), (11, .int .i64 r1), (12, .int .i64 r2)], [.box (c_TRouter a0)]⟩ [] [⟨true, 80, [.agg (c_TRouter a0), .str a1.fMap], .pure (.int .i64 r1)⟩, ⟨true, 81, [.agg (c_TRouter a0), .str a1.fMap, .agg (c_TRoute a2)], .pure (.int .i64 r2)⟩] nil_all ⟨fun _ => model_RouteMap_ok a0 a1.fMap r1 q4, fun _ => policy_Clause_ok a0 a1.fMap a2 r2 q6, trivial⟩ ?_
 refine then_n (awp_seq (awp_seq ?_))
 obtain ⟨c8, h9⟩ := gd_some h7
 refine rgc [3, 9, 10, 11, 12, 55] 1 ⟨79, [(3, .ref 0 0), (9, .int .i64 a1.fMetric), (10, .int .i64 a1.fTag), (11, .int .i64 r1), (12, .int .i64 r2), (55, .bool ((((decide (r1 < 0)) || (decide (r1 ≥ (a0.fMaps.length : Int)))) || (decide (r2 < 0))) || (decide (r2 ≥ (((a0.fMaps.getD r1.toNat default).fClauses).length : Int)))))], [.box (c_TRouter a0)]⟩ [guardB (!(((decide (r1 < 0)) || (decide (r1 ≥ (a0.fMaps.length : Int)))) || (decide (r2 < 0)))) (decide (0 ≤ r1)), guardB (!(((decide (r1 < 0)) || (decide (r1 ≥ (a0.fMaps.length : Int)))) || (decide (r2 < 0)))) (decide (r1 < (a0.fMaps.length : Int)))] c8 ?_
 refine then_n ?_
 refine cnd ((((decide (r1 < 0)) || (decide (r1 ≥ (a0.fMaps.length : Int)))) || (decide (r2 < 0))) || (decide (r2 ≥ (((a0.fMaps.getD r1.toNat default).fClauses).length : Int)))) (fun b10 => ?_) (fun b10 => ?_)
 have h11 := cond_t b10 h9
 refine awp_seq (rg0 [6, 7, 8] 0 ⟨79, [(6, .int .i64 0), (7, .int .i64 0), (8, .bool false)], []⟩ ?_)
 refine then_n (awp_ret (then_r ?_))
 obtain rfl := Option.some.inj h11
 exact er0 (.tup [.int .i64 0, .int .i64 0, .bool false])
 have h12 := cond_f b10 h9
 refine awp_skip (then_n (awp_seq ?_))
 obtain ⟨c13, h14⟩ := gd_some h12
 refine rgc [9, 10, 13] 2 ⟨79, [(9, .int .i64 a1.fMetric), (10, .int .i64 a1.fTag), (13, .ref 1 0)], [.box (c_TRouter a0), .box (c_TClause (((a0.fMaps.getD r1.toNat default).fClauses).getD r2.toNat default))]⟩ [decide (0 ≤ r1), decide (r1 < (a0.fMaps.length : Int)), decide (0 ≤ r2), decide (r2 < (((a0.fMaps.getD r1.toNat default).fClauses).length : Int))] c13 ?_
 refine then_n ?_
 refine awp_join (fun (p3 : Int) => ⟨79, [(9, .int .i64 p3), (10, .int .i64 a1.fTag), (13, .ref 1 0)], [.box (c_TRouter a0), .box (c_TClause (((a0.fMaps.getD r1.toNat default).fClauses).getD r2.toNat default))]⟩) (fun p3 => M.rib_values_k1 a0 a1 r1 r2 p3 = some r) ?_ ?_
 intro p3 h16
 unfold M.rib_values_k1 at h16
 refine awp_join (fun (p4 : Int) => ⟨79, [(9, .int .i64 p3), (10, .int .i64 p4), (13, .ref 1 0)], [.box (c_TRouter a0), .box (c_TClause (((a0.fMaps.getD r1.toNat default).fClauses).getD r2.toNat default))]⟩) (fun p4 => M.rib_values_k2 a0 r1 r2 p3 p4 = some r) ?_ ?_
 intro p4 h18
 unfold M.rib_values_k2 at h18
 refine awp_seq (rg0 [6, 7, 8] 0 ⟨79, [(6, .int .i64 p3), (7, .int .i64 p4), (8, .bool ((((a0.fMaps.getD r1.toNat default).fClauses).getD r2.toNat default).fPermit))], []⟩ ?_)
 refine then_n (awp_ret ?_)
 obtain rfl := Option.some.inj h18
 exact er0 (.tup [.int .i64 p3, .int .i64 p4, .bool ((((a0.fMaps.getD r1.toNat default).fClauses).getD r2.toNat default).fPermit)])
 intro k17
 refine awp_seq (rg0 [9, 10, 13, 72] 2 ⟨79, [(9, .int .i64 p3), (10, .int .i64 a1.fTag), (13, .ref 1 0), (72, .bool (((((a0.fMaps.getD r1.toNat default).fClauses).getD r2.toNat default).fSetTag) != (-1)))], [.box (c_TRouter a0), .box (c_TClause (((a0.fMaps.getD r1.toNat default).fClauses).getD r2.toNat default))]⟩ ?_)
 refine then_n ?_
 refine cnd (((((a0.fMaps.getD r1.toNat default).fClauses).getD r2.toNat default).fSetTag) != (-1)) (fun b19 => ?_) (fun b19 => ?_)
 have h20 := cond_t b19 h16
 refine rg0 [9, 10, 13] 2 ⟨79, [(9, .int .i64 p3), (10, .int .i64 ((((a0.fMaps.getD r1.toNat default).fClauses).getD r2.toNat default).fSetTag)), (13, .ref 1 0)], [.box (c_TRouter a0), .box (c_TClause (((a0.fMaps.getD r1.toNat default).fClauses).getD r2.toNat default))]⟩ ?_
 exact then_le (le_rfl) (k17 ((((a0.fMaps.getD r1.toNat default).fClauses).getD r2.toNat default).fSetTag) h20)
 have h21 := cond_f b19 h16
 refine awp_skip ?_
 exact then_le (kp [9, 10, 13]) (k17 a1.fTag h21)
 intro k15
 refine awp_seq (rg0 [9, 10, 13, 67] 2 ⟨79, [(9, .int .i64 a1.fMetric), (10, .int .i64 a1.fTag), (13, .ref 1 0), (67, .bool (((((a0.fMaps.getD r1.toNat default).fClauses).getD r2.toNat default).fSetMetric) != (-1)))], [.box (c_TRouter a0), .box (c_TClause (((a0.fMaps.getD r1.toNat default).fClauses).getD r2.toNat default))]⟩ ?_)
 refine then_n ?_
 refine cnd (((((a0.fMaps.getD r1.toNat default).fClauses).getD r2.toNat default).fSetMetric) != (-1)) (fun b22 => ?_) (fun b22 => ?_)
 have h23 := cond_t b22 h14
 refine rg0 [9, 10, 13] 2 ⟨79, [(9, .int .i64 ((((a0.fMaps.getD r1.toNat default).fClauses).getD r2.toNat default).fSetMetric)), (10, .int .i64 a1.fTag), (13, .ref 1 0)], [.box (c_TRouter a0), .box (c_TClause (((a0.fMaps.getD r1.toNat default).fClauses).getD r2.toNat default))]⟩ ?_
 exact then_le (le_rfl) (k15 ((((a0.fMaps.getD r1.toNat default).fClauses).getD r2.toNat default).fSetMetric) h23)
 have h24 := cond_f b22 h14
 refine awp_skip ?_
 exact then_le (kp [9, 10, 13]) (k15 a1.fMetric h24)
end Nv
