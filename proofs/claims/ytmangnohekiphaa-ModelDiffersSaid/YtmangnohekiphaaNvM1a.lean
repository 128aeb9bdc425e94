/- The walks: each function computes its mirror. -/
import Derived.Test.YtmangnohekiphaaProg
import Derived.Test.YtmangnohekiphaaNvD1
import Derived.Test.YtmangnohekiphaaNvLibC
import Derived.KernelRfl
set_option maxRecDepth 100000
namespace Nv
open Go Go.Proofs
/- netverify/netverifylaw5.Small -/
theorem law5_Small_ok (a0 : TRouter) (r : Bool) (h : M.law5_Small a0 = some r) : Fn Try.prog 8 [.agg (c_TRouter a0)] (.pure (.bool r)) := by
 unfold M.law5_Small at h
 refine fn_pure Try.func8 rfl (by kernel_rfl) ?_
 refine awp_seq (rg0 [1] 1 ⟨141, [(1, .ref 0 0)], [.box (c_TRouter a0)]⟩ ?_)
 refine then_n (awp_seq (awp_seq (rg0 [1, 95] 1 ⟨141, [(1, .ref 0 0), (95, .bool ((((((((((((((decide ((a0.fInterfaces.length : Int) > 12)) || (decide ((a0.fLists.length : Int) > 12))) || (decide ((a0.fMaps.length : Int) > 12))) || (decide ((a0.fACLs.length : Int) > 12))) || (decide ((a0.fNAT.length : Int) > 12))) || (decide ((a0.fStatics.length : Int) > 20))) || (decide ((a0.fLS.fRanges.length : Int) > 8))) || (decide ((a0.fLS.fRedist.length : Int) > 8))) || (decide ((a0.fDV.fRedist.length : Int) > 8))) || (decide ((a0.fPV.fRedist.length : Int) > 8))) || (decide ((a0.fPV.fNeighbors.length : Int) > 12))) || (decide ((a0.fPV.fNetworks.length : Int) > 12))) || (decide ((a0.fPV.fAggregates.length : Int) > 12))) || (decide ((a0.fPV.fConditions.length : Int) > 12))))], [.box (c_TRouter a0)]⟩ ?_)))
 refine then_n ?_
 refine cnd ((((((((((((((decide ((a0.fInterfaces.length : Int) > 12)) || (decide ((a0.fLists.length : Int) > 12))) || (decide ((a0.fMaps.length : Int) > 12))) || (decide ((a0.fACLs.length : Int) > 12))) || (decide ((a0.fNAT.length : Int) > 12))) || (decide ((a0.fStatics.length : Int) > 20))) || (decide ((a0.fLS.fRanges.length : Int) > 8))) || (decide ((a0.fLS.fRedist.length : Int) > 8))) || (decide ((a0.fDV.fRedist.length : Int) > 8))) || (decide ((a0.fPV.fRedist.length : Int) > 8))) || (decide ((a0.fPV.fNeighbors.length : Int) > 12))) || (decide ((a0.fPV.fNetworks.length : Int) > 12))) || (decide ((a0.fPV.fAggregates.length : Int) > 12))) || (decide ((a0.fPV.fConditions.length : Int) > 12))) (fun b1 => ?_) (fun b1 => ?_)
 have h2 := cond_t b1 h
 refine awp_seq (rg0 [2] 0 ⟨141, [(2, .bool false)], []⟩ ?_)
 refine then_n (awp_ret (then_r ?_))
 obtain rfl := Option.some.inj h2
 exact er0 (.bool false)
 have h3 := cond_f b1 h
 refine awp_skip (then_n (awp_seq (awp_seq (rg0 [1, 3] 1 ⟨141, [(1, .ref 0 0), (3, .int .i64 0)], [.box (c_TRouter a0)]⟩ ?_))))
 refine then_n (awp_block ?_)
 obtain ⟨y3, q13, h14⟩ := bind_some h3
 refine awp_le (s' := ⟨141, [(1, .ref 0 0), (3, .int .i64 0)], [.box (c_TRouter a0)]⟩) (le_rfl) ?_
 refine awp_mono (awp_loop (f := M.law5_Small_l1 a0) (S := fun (p1 : Int) => ⟨141, [(1, .ref 0 0), (3, .int .i64 p1)], [.box (c_TRouter a0)]⟩) (O := (Sum.elim (fun z => OutE 0 (fun z => ⟨141, [(1, .ref 0 0)], [.box (c_TRouter a0)]⟩) z) (fun z => OutR Try.prog Try.f8 (.bool z)))) ?_ (x := 0) (y := y3) (loopM_iter q13)) ?_
 intro p1 y2 h4
 unfold M.law5_Small_l1 at h4
 refine awp_seq (awp_seq (rg0 [1, 3, 100] 1 ⟨141, [(1, .ref 0 0), (3, .int .i64 p1), (100, .bool (decide (p1 < (a0.fLists.length : Int))))], [.box (c_TRouter a0)]⟩ ?_))
 refine then_n ?_
 refine cnd (decide (p1 < (a0.fLists.length : Int))) (fun b5 => ?_) (fun b5 => ?_)
 have h6 := cond_t b5 h4
 refine awp_skip (then_n (awp_seq (awp_block (awp_seq ?_))))
 obtain ⟨c8, h9⟩ := gd_some h6
 refine rgc [1, 3, 110] 1 ⟨141, [(1, .ref 0 0), (3, .int .i64 p1), (110, .bool (decide ((((a0.fLists.getD p1.toNat default).fRules).length : Int) > 20)))], [.box (c_TRouter a0)]⟩ [decide (0 ≤ p1), decide (p1 < (a0.fLists.length : Int))] c8 ?_
 refine then_n ?_
 refine cnd (decide ((((a0.fLists.getD p1.toNat default).fRules).length : Int) > 20)) (fun b10 => ?_) (fun b10 => ?_)
 have h11 := cond_t b10 h9
 refine awp_seq (rg0 [2] 0 ⟨141, [(2, .bool false)], []⟩ ?_)
 refine then_n (awp_ret (inb_r (then_r ?_)))
 obtain rfl := Option.some.inj h11
 exact round_r ⟨rfl, er0 (.bool false)⟩
 have h12 := cond_f b10 h9
 refine awp_skip (inb_n (then_n (rg0 [1, 3] 1 ⟨141, [(1, .ref 0 0), (3, .int .i64 (wr .i64 (p1 + 1)))], [.box (c_TRouter a0)]⟩ ?_)))
 obtain rfl := Option.some.inj h12
 exact round_n (le_rfl)
 have h7 := cond_f b5 h4
 refine awp_exit (then_e ?_)
 obtain rfl := Option.some.inj h7
 exact round_e ⟨rfl, kp [1]⟩
 intro e15 s16 o17
 rcases y3 with g4 | y5
 have h18 := elim_l h14
 obtain ⟨rfl, l20⟩ := o17
 refine inb_here ?_
 refine then_le (s' := ⟨141, [(1, .ref 0 0)], [.box (c_TRouter a0)]⟩) (l20) ?_
 refine awp_seq (awp_seq (rg0 [1, 4] 1 ⟨141, [(1, .ref 0 0), (4, .int .i64 0)], [.box (c_TRouter a0)]⟩ ?_))
 refine then_n (awp_block ?_)
 obtain ⟨y8, q30, h31⟩ := bind_some h18
 refine awp_le (s' := ⟨141, [(1, .ref 0 0), (4, .int .i64 0)], [.box (c_TRouter a0)]⟩) (le_rfl) ?_
 refine awp_mono (awp_loop (f := M.law5_Small_l2 a0) (S := fun (p6 : Int) => ⟨141, [(1, .ref 0 0), (4, .int .i64 p6)], [.box (c_TRouter a0)]⟩) (O := (Sum.elim (fun z => OutE 2 (fun z => ⟨141, [(1, .ref 0 0)], [.box (c_TRouter a0)]⟩) z) (fun z => OutR Try.prog Try.f8 (.bool z)))) ?_ (x := 0) (y := y8) (loopM_iter q30)) ?_
 intro p6 y7 h21
 unfold M.law5_Small_l2 at h21
 refine awp_seq (awp_seq (rg0 [1, 4, 115] 1 ⟨141, [(1, .ref 0 0), (4, .int .i64 p6), (115, .bool (decide (p6 < (a0.fMaps.length : Int))))], [.box (c_TRouter a0)]⟩ ?_))
 refine then_n ?_
 refine cnd (decide (p6 < (a0.fMaps.length : Int))) (fun b22 => ?_) (fun b22 => ?_)
 have h23 := cond_t b22 h21
 refine awp_skip (then_n (awp_seq (awp_block (awp_seq ?_))))
 obtain ⟨c25, h26⟩ := gd_some h23
 refine rgc [1, 4, 125] 1 ⟨141, [(1, .ref 0 0), (4, .int .i64 p6), (125, .bool (decide ((((a0.fMaps.getD p6.toNat default).fClauses).length : Int) > 12)))], [.box (c_TRouter a0)]⟩ [decide (0 ≤ p6), decide (p6 < (a0.fMaps.length : Int))] c25 ?_
 refine then_n ?_
 refine cnd (decide ((((a0.fMaps.getD p6.toNat default).fClauses).length : Int) > 12)) (fun b27 => ?_) (fun b27 => ?_)
 have h28 := cond_t b27 h26
 refine awp_seq (rg0 [2] 0 ⟨141, [(2, .bool false)], []⟩ ?_)
 refine then_n (awp_ret (inb_r (then_r ?_)))
 obtain rfl := Option.some.inj h28
 exact round_r ⟨rfl, er0 (.bool false)⟩
 have h29 := cond_f b27 h26
 refine awp_skip (inb_n (then_n (rg0 [1, 4] 1 ⟨141, [(1, .ref 0 0), (4, .int .i64 (wr .i64 (p6 + 1)))], [.box (c_TRouter a0)]⟩ ?_)))
 obtain rfl := Option.some.inj h29
 exact round_n (le_rfl)
 have h24 := cond_f b22 h21
 refine awp_exit (then_e ?_)
 obtain rfl := Option.some.inj h24
 exact round_e ⟨rfl, kp [1]⟩
 intro e32 s33 o34
 rcases y8 with g9 | y10
 have h35 := elim_l h31
 obtain ⟨rfl, l37⟩ := o34
 refine inb_here ?_
 refine then_le (s' := ⟨141, [(1, .ref 0 0)], [.box (c_TRouter a0)]⟩) (l37) ?_
 refine awp_seq (awp_seq (rg0 [1, 5] 1 ⟨141, [(1, .ref 0 0), (5, .int .i64 0)], [.box (c_TRouter a0)]⟩ ?_))
 refine then_n (awp_block ?_)
 obtain ⟨y13, q47, h48⟩ := bind_some h35
 refine awp_le (s' := ⟨141, [(1, .ref 0 0), (5, .int .i64 0)], [.box (c_TRouter a0)]⟩) (le_rfl) ?_
 refine awp_mono (awp_loop (f := M.law5_Small_l3 a0) (S := fun (p11 : Int) => ⟨141, [(1, .ref 0 0), (5, .int .i64 p11)], [.box (c_TRouter a0)]⟩) (O := (Sum.elim (fun z => OutE 4 (fun z => ⟨141, [], []⟩) z) (fun z => OutR Try.prog Try.f8 (.bool z)))) ?_ (x := 0) (y := y13) (loopM_iter q47)) ?_
 intro p11 y12 h38
 unfold M.law5_Small_l3 at h38
 refine awp_seq (awp_seq (rg0 [1, 5, 130] 1 ⟨141, [(1, .ref 0 0), (5, .int .i64 p11), (130, .bool (decide (p11 < (a0.fACLs.length : Int))))], [.box (c_TRouter a0)]⟩ ?_))
 refine then_n ?_
 refine cnd (decide (p11 < (a0.fACLs.length : Int))) (fun b39 => ?_) (fun b39 => ?_)
 have h40 := cond_t b39 h38
 refine awp_skip (then_n (awp_seq (awp_block (awp_seq ?_))))
 obtain ⟨c42, h43⟩ := gd_some h40
 refine rgc [1, 5, 140] 1 ⟨141, [(1, .ref 0 0), (5, .int .i64 p11), (140, .bool (decide ((((a0.fACLs.getD p11.toNat default).fRules).length : Int) > 20)))], [.box (c_TRouter a0)]⟩ [decide (0 ≤ p11), decide (p11 < (a0.fACLs.length : Int))] c42 ?_
 refine then_n ?_
 refine cnd (decide ((((a0.fACLs.getD p11.toNat default).fRules).length : Int) > 20)) (fun b44 => ?_) (fun b44 => ?_)
 have h45 := cond_t b44 h43
 refine awp_seq (rg0 [2] 0 ⟨141, [(2, .bool false)], []⟩ ?_)
 refine then_n (awp_ret (inb_r (then_r ?_)))
 obtain rfl := Option.some.inj h45
 exact round_r ⟨rfl, er0 (.bool false)⟩
 have h46 := cond_f b44 h43
 refine awp_skip (inb_n (then_n (rg0 [1, 5] 1 ⟨141, [(1, .ref 0 0), (5, .int .i64 (wr .i64 (p11 + 1)))], [.box (c_TRouter a0)]⟩ ?_)))
 obtain rfl := Option.some.inj h46
 exact round_n (le_rfl)
 have h41 := cond_f b39 h38
 refine awp_exit (then_e ?_)
 obtain rfl := Option.some.inj h41
 exact round_e ⟨rfl, Le.trans (s' := ⟨141, [], [.box (c_TRouter a0)]⟩) (kp []) (le_cut (n := 0) (by kernel_rfl))⟩
 intro e49 s50 o51
 rcases y13 with g14 | y15
 have h52 := elim_l h48
 obtain ⟨rfl, l54⟩ := o51
 refine inb_here ?_
 refine then_le (s' := ⟨141, [], []⟩) (l54) ?_
 refine awp_seq (rg0 [2] 0 ⟨141, [(2, .bool true)], []⟩ ?_)
 refine then_n (awp_ret ?_)
 obtain rfl := Option.some.inj h52
 exact er0 (.bool true)
 have h53 := elim_r h48
 obtain ⟨rfl, n55⟩ := o51
 refine inb_r (then_r ?_)
 obtain rfl := Option.some.inj h53
 exact n55
 have h36 := elim_r h31
 obtain ⟨rfl, n56⟩ := o34
 refine inb_r (then_r ?_)
 obtain rfl := Option.some.inj h36
 exact n56
 have h19 := elim_r h14
 obtain ⟨rfl, n57⟩ := o17
 refine inb_r (then_r ?_)
 obtain rfl := Option.some.inj h19
 exact n57

/- slices.Equal[[]netverify/api.Interface,netverify/api.Interface] -/
theorem slices_Equal_api_Interface_api_Interface_ok (a0 : List TInterface) (a1 : List TInterface) (r : Bool) (h : M.slices_Equal_api_Interface_api_Interface a0 a1 = some r) : Fn Try.prog 29 [sL 12 c_TInterface a0, sL 12 c_TInterface a1] (.pure (.bool r)) := by
 unfold M.slices_Equal_api_Interface_api_Interface at h
 refine fn_pure Try.func29 rfl (by kernel_rfl) ?_
 refine awp_seq (rg0 [0, 1] 0 ⟨26, [(0, sL 12 c_TInterface a0), (1, sL 12 c_TInterface a1)], []⟩ ?_)
 refine then_n (awp_seq (awp_seq (rg0 [0, 1, 10] 0 ⟨26, [(0, sL 12 c_TInterface a0), (1, sL 12 c_TInterface a1), (10, .bool ((a0.length : Int) != (a1.length : Int)))], []⟩ ?_)))
 refine then_n ?_
 refine cnd ((a0.length : Int) != (a1.length : Int)) (fun b1 => ?_) (fun b1 => ?_)
 have h2 := cond_t b1 h
 refine awp_seq (rg0 [4] 0 ⟨26, [(4, .bool false)], []⟩ ?_)
 refine then_n (awp_ret (then_r ?_))
 obtain rfl := Option.some.inj h2
 exact er0 (.bool false)
 have h3 := cond_f b1 h
 refine awp_skip (then_n (awp_seq (awp_seq (rg0 [0, 1, 12, 13] 0 ⟨26, [(0, sL 12 c_TInterface a0), (1, sL 12 c_TInterface a1), (12, .int .i64 (a0.length : Int)), (13, .int .i64 0)], []⟩ ?_))))
 refine then_n (awp_block ?_)
 obtain ⟨y3, q13, h14⟩ := bind_some h3
 refine awp_le (s' := ⟨26, [(0, sL 12 c_TInterface a0), (1, sL 12 c_TInterface a1), (12, .int .i64 (a0.length : Int)), (13, .int .i64 0)], []⟩) (le_rfl) ?_
 refine awp_mono (awp_loop (f := M.slices_Equal_api_Interface_api_Interface_l1 a0 a1) (S := fun (p1 : Int) => ⟨26, [(0, sL 12 c_TInterface a0), (1, sL 12 c_TInterface a1), (12, .int .i64 (a0.length : Int)), (13, .int .i64 p1)], []⟩) (O := (Sum.elim (fun z => OutE 0 (fun z => ⟨26, [], []⟩) z) (fun z => OutR Try.prog Try.f29 (.bool z)))) ?_ (x := 0) (y := y3) (loopM_iter q13)) ?_
 intro p1 y2 h4
 unfold M.slices_Equal_api_Interface_api_Interface_l1 at h4
 refine awp_seq (rg0 [0, 1, 12, 13, 14] 0 ⟨26, [(0, sL 12 c_TInterface a0), (1, sL 12 c_TInterface a1), (12, .int .i64 (a0.length : Int)), (13, .int .i64 p1), (14, .bool (decide (p1 < (a0.length : Int))))], []⟩ ?_)
 refine then_n (awp_seq ?_)
 refine cnd (decide (p1 < (a0.length : Int))) (fun b5 => ?_) (fun b5 => ?_)
 have h6 := cond_t b5 h4
 refine awp_skip (then_n (awp_seq (awp_block (awp_seq (rg0 [0, 1, 5, 12, 13] 0 ⟨26, [(0, sL 12 c_TInterface a0), (1, sL 12 c_TInterface a1), (5, .int .i64 p1), (12, .int .i64 (a0.length : Int)), (13, .int .i64 p1)], []⟩ ?_)))))
 refine then_n (awp_seq ?_)
 obtain ⟨c8, h9⟩ := gd_some h6
 refine rgc [0, 1, 12, 13, 24] 0 ⟨26, [(0, sL 12 c_TInterface a0), (1, sL 12 c_TInterface a1), (12, .int .i64 (a0.length : Int)), (13, .int .i64 p1), (24, .bool (!(strEq ((a0.getD p1.toNat default).fName) ((a1.getD p1.toNat default).fName) && ((((a0.getD p1.toNat default).fAddr) == ((a1.getD p1.toNat default).fAddr)) && ((((a0.getD p1.toNat default).fLen) == ((a1.getD p1.toNat default).fLen)) && ((((a0.getD p1.toNat default).fVLAN) == ((a1.getD p1.toNat default).fVLAN)) && ((((a0.getD p1.toNat default).fDown) == ((a1.getD p1.toNat default).fDown)) && ((((a0.getD p1.toNat default).fLS) == ((a1.getD p1.toNat default).fLS)) && ((((a0.getD p1.toNat default).fArea) == ((a1.getD p1.toNat default).fArea)) && ((((a0.getD p1.toNat default).fCost) == ((a1.getD p1.toNat default).fCost)) && ((((a0.getD p1.toNat default).fDV) == ((a1.getD p1.toNat default).fDV)) && (strEq ((a0.getD p1.toNat default).fIn) ((a1.getD p1.toNat default).fIn) && (strEq ((a0.getD p1.toNat default).fOut) ((a1.getD p1.toNat default).fOut) && ((((a0.getD p1.toNat default).fSide) == ((a1.getD p1.toNat default).fSide)) && true))))))))))))))], []⟩ [decide (0 ≤ p1), decide (p1 < (a0.length : Int)), decide (0 ≤ p1), decide (p1 < (a1.length : Int))] c8 ?_
 refine then_n ?_
 refine cnd (!(strEq ((a0.getD p1.toNat default).fName) ((a1.getD p1.toNat default).fName) && ((((a0.getD p1.toNat default).fAddr) == ((a1.getD p1.toNat default).fAddr)) && ((((a0.getD p1.toNat default).fLen) == ((a1.getD p1.toNat default).fLen)) && ((((a0.getD p1.toNat default).fVLAN) == ((a1.getD p1.toNat default).fVLAN)) && ((((a0.getD p1.toNat default).fDown) == ((a1.getD p1.toNat default).fDown)) && ((((a0.getD p1.toNat default).fLS) == ((a1.getD p1.toNat default).fLS)) && ((((a0.getD p1.toNat default).fArea) == ((a1.getD p1.toNat default).fArea)) && ((((a0.getD p1.toNat default).fCost) == ((a1.getD p1.toNat default).fCost)) && ((((a0.getD p1.toNat default).fDV) == ((a1.getD p1.toNat default).fDV)) && (strEq ((a0.getD p1.toNat default).fIn) ((a1.getD p1.toNat default).fIn) && (strEq ((a0.getD p1.toNat default).fOut) ((a1.getD p1.toNat default).fOut) && ((((a0.getD p1.toNat default).fSide) == ((a1.getD p1.toNat default).fSide)) && true))))))))))))) (fun b10 => ?_) (fun b10 => ?_)
 have h11 := cond_t b10 h9
 refine awp_seq (rg0 [4] 0 ⟨26, [(4, .bool false)], []⟩ ?_)
 refine then_n (awp_ret (inb_r (then_r ?_)))
 obtain rfl := Option.some.inj h11
 exact round_r ⟨rfl, er0 (.bool false)⟩
 have h12 := cond_f b10 h9
 refine awp_skip (inb_n (then_n (rg0 [0, 1, 12, 13] 0 ⟨26, [(0, sL 12 c_TInterface a0), (1, sL 12 c_TInterface a1), (12, .int .i64 (a0.length : Int)), (13, .int .i64 (wr .i64 (p1 + 1)))], []⟩ ?_)))
 obtain rfl := Option.some.inj h12
 exact round_n (le_rfl)
 have h7 := cond_f b5 h4
 refine awp_exit (then_e ?_)
 obtain rfl := Option.some.inj h7
 exact round_e ⟨rfl, kp []⟩
 intro e15 s16 o17
 rcases y3 with g4 | y5
 have h18 := elim_l h14
 obtain ⟨rfl, l20⟩ := o17
 refine inb_here ?_
 refine then_le (s' := ⟨26, [], []⟩) (l20) ?_
 refine awp_seq (rg0 [4] 0 ⟨26, [(4, .bool true)], []⟩ ?_)
 refine then_n (awp_ret ?_)
 obtain rfl := Option.some.inj h18
 exact er0 (.bool true)
 have h19 := elim_r h14
 obtain ⟨rfl, n21⟩ := o17
 refine inb_r (then_r ?_)
 obtain rfl := Option.some.inj h19
 exact n21

/- slices.Equal[[]netverify/api.PrefixRule,netverify/api.PrefixRule] -/
theorem slices_Equal_api_PrefixRule_api_PrefixRule_ok (a0 : List TPrefixRule) (a1 : List TPrefixRule) (r : Bool) (h : M.slices_Equal_api_PrefixRule_api_PrefixRule a0 a1 = some r) : Fn Try.prog 32 [sL 5 c_TPrefixRule a0, sL 5 c_TPrefixRule a1] (.pure (.bool r)) := by
 unfold M.slices_Equal_api_PrefixRule_api_PrefixRule at h
 refine fn_pure Try.func32 rfl (by kernel_rfl) ?_
 refine awp_seq (rg0 [0, 1] 0 ⟨26, [(0, sL 5 c_TPrefixRule a0), (1, sL 5 c_TPrefixRule a1)], []⟩ ?_)
 refine then_n (awp_seq (awp_seq (rg0 [0, 1, 10] 0 ⟨26, [(0, sL 5 c_TPrefixRule a0), (1, sL 5 c_TPrefixRule a1), (10, .bool ((a0.length : Int) != (a1.length : Int)))], []⟩ ?_)))
 refine then_n ?_
 refine cnd ((a0.length : Int) != (a1.length : Int)) (fun b1 => ?_) (fun b1 => ?_)
 have h2 := cond_t b1 h
 refine awp_seq (rg0 [4] 0 ⟨26, [(4, .bool false)], []⟩ ?_)
 refine then_n (awp_ret (then_r ?_))
 obtain rfl := Option.some.inj h2
 exact er0 (.bool false)
 have h3 := cond_f b1 h
 refine awp_skip (then_n (awp_seq (awp_seq (rg0 [0, 1, 12, 13] 0 ⟨26, [(0, sL 5 c_TPrefixRule a0), (1, sL 5 c_TPrefixRule a1), (12, .int .i64 (a0.length : Int)), (13, .int .i64 0)], []⟩ ?_))))
 refine then_n (awp_block ?_)
 obtain ⟨y3, q13, h14⟩ := bind_some h3
 refine awp_le (s' := ⟨26, [(0, sL 5 c_TPrefixRule a0), (1, sL 5 c_TPrefixRule a1), (12, .int .i64 (a0.length : Int)), (13, .int .i64 0)], []⟩) (le_rfl) ?_
 refine awp_mono (awp_loop (f := M.slices_Equal_api_PrefixRule_api_PrefixRule_l1 a0 a1) (S := fun (p1 : Int) => ⟨26, [(0, sL 5 c_TPrefixRule a0), (1, sL 5 c_TPrefixRule a1), (12, .int .i64 (a0.length : Int)), (13, .int .i64 p1)], []⟩) (O := (Sum.elim (fun z => OutE 0 (fun z => ⟨26, [], []⟩) z) (fun z => OutR Try.prog Try.f32 (.bool z)))) ?_ (x := 0) (y := y3) (loopM_iter q13)) ?_
 intro p1 y2 h4
 unfold M.slices_Equal_api_PrefixRule_api_PrefixRule_l1 at h4
 refine awp_seq (rg0 [0, 1, 12, 13, 14] 0 ⟨26, [(0, sL 5 c_TPrefixRule a0), (1, sL 5 c_TPrefixRule a1), (12, .int .i64 (a0.length : Int)), (13, .int .i64 p1), (14, .bool (decide (p1 < (a0.length : Int))))], []⟩ ?_)
 refine then_n (awp_seq ?_)
 refine cnd (decide (p1 < (a0.length : Int))) (fun b5 => ?_) (fun b5 => ?_)
 have h6 := cond_t b5 h4
 refine awp_skip (then_n (awp_seq (awp_block (awp_seq (rg0 [0, 1, 5, 12, 13] 0 ⟨26, [(0, sL 5 c_TPrefixRule a0), (1, sL 5 c_TPrefixRule a1), (5, .int .i64 p1), (12, .int .i64 (a0.length : Int)), (13, .int .i64 p1)], []⟩ ?_)))))
 refine then_n (awp_seq ?_)
 obtain ⟨c8, h9⟩ := gd_some h6
 refine rgc [0, 1, 12, 13, 24] 0 ⟨26, [(0, sL 5 c_TPrefixRule a0), (1, sL 5 c_TPrefixRule a1), (12, .int .i64 (a0.length : Int)), (13, .int .i64 p1), (24, .bool (!((((a0.getD p1.toNat default).fPermit) == ((a1.getD p1.toNat default).fPermit)) && ((((((a0.getD p1.toNat default).fPrefix).fAddr) == (((a1.getD p1.toNat default).fPrefix).fAddr)) && (((((a0.getD p1.toNat default).fPrefix).fLen) == (((a1.getD p1.toNat default).fPrefix).fLen)) && true)) && ((((a0.getD p1.toNat default).fMin) == ((a1.getD p1.toNat default).fMin)) && ((((a0.getD p1.toNat default).fMax) == ((a1.getD p1.toNat default).fMax)) && true))))))], []⟩ [decide (0 ≤ p1), decide (p1 < (a0.length : Int)), decide (0 ≤ p1), decide (p1 < (a1.length : Int))] c8 ?_
 refine then_n ?_
 refine cnd (!((((a0.getD p1.toNat default).fPermit) == ((a1.getD p1.toNat default).fPermit)) && ((((((a0.getD p1.toNat default).fPrefix).fAddr) == (((a1.getD p1.toNat default).fPrefix).fAddr)) && (((((a0.getD p1.toNat default).fPrefix).fLen) == (((a1.getD p1.toNat default).fPrefix).fLen)) && true)) && ((((a0.getD p1.toNat default).fMin) == ((a1.getD p1.toNat default).fMin)) && ((((a0.getD p1.toNat default).fMax) == ((a1.getD p1.toNat default).fMax)) && true))))) (fun b10 => ?_) (fun b10 => ?_)
 have h11 := cond_t b10 h9
 refine awp_seq (rg0 [4] 0 ⟨26, [(4, .bool false)], []⟩ ?_)
 refine then_n (awp_ret (inb_r (then_r ?_)))
 obtain rfl := Option.some.inj h11
 exact round_r ⟨rfl, er0 (.bool false)⟩
 have h12 := cond_f b10 h9
 refine awp_skip (inb_n (then_n (rg0 [0, 1, 12, 13] 0 ⟨26, [(0, sL 5 c_TPrefixRule a0), (1, sL 5 c_TPrefixRule a1), (12, .int .i64 (a0.length : Int)), (13, .int .i64 (wr .i64 (p1 + 1)))], []⟩ ?_)))
 obtain rfl := Option.some.inj h12
 exact round_n (le_rfl)
 have h7 := cond_f b5 h4
 refine awp_exit (then_e ?_)
 obtain rfl := Option.some.inj h7
 exact round_e ⟨rfl, kp []⟩
 intro e15 s16 o17
 rcases y3 with g4 | y5
 have h18 := elim_l h14
 obtain ⟨rfl, l20⟩ := o17
 refine inb_here ?_
 refine then_le (s' := ⟨26, [], []⟩) (l20) ?_
 refine awp_seq (rg0 [4] 0 ⟨26, [(4, .bool true)], []⟩ ?_)
 refine then_n (awp_ret ?_)
 obtain rfl := Option.some.inj h18
 exact er0 (.bool true)
 have h19 := elim_r h14
 obtain ⟨rfl, n21⟩ := o17
 refine inb_r (then_r ?_)
 obtain rfl := Option.some.inj h19
 exact n21

/- netverify/model.Same$1 -/
theorem model_Same_1_ok (a0 : TPrefixList) (a1 : TPrefixList) (r : Bool) (h : M.model_Same_1 a0 a1 = some r) : Fn Try.prog 31 [.agg (c_TPrefixList a0), .agg (c_TPrefixList a1)] (.pure (.bool r)) := by
 unfold M.model_Same_1 at h
 refine fn_pure Try.func31 rfl (by kernel_rfl) ?_
 refine awp_seq (rg0 [2, 3] 2 ⟨17, [(2, .ref 0 0), (3, .ref 1 0)], [.box (c_TPrefixList a0), .box (c_TPrefixList a1)]⟩ ?_)
 refine then_n (awp_seq ?_)
 obtain ⟨r1, q1, h2⟩ := bind_some h
 refine rg [.pure (.bool r1)] [4] 0 ⟨17, [(4, .bool ((strEq a0.fName a1.fName) && r1))], []⟩ [] [⟨strEq a0.fName a1.fName, 32, [sL 5 c_TPrefixRule a0.fRules, sL 5 c_TPrefixRule a1.fRules], .pure (.bool r1)⟩] nil_all ⟨fun hg => slices_Equal_api_PrefixRule_api_PrefixRule_ok a0.fRules a1.fRules r1 (gc_some q1 hg), trivial⟩ ?_
 refine then_n (awp_ret ?_)
 obtain rfl := Option.some.inj h2
 exact er0 (.bool ((strEq a0.fName a1.fName) && r1))

/- slices.EqualFunc[[]netverify/api.PrefixList,[]netverify/api.PrefixList,netverify/api.PrefixList,netverify/api.PrefixList] -/
theorem slices_EqualFunc_api_PrefixList_api_PrefixList_api_PrefixList_api_PrefixList__model_Same_1_ok (a0 : List TPrefixList) (a1 : List TPrefixList) (r : Bool) (h : M.slices_EqualFunc_api_PrefixList_api_PrefixList_api_PrefixList_api_PrefixList__model_Same_1 a0 a1 = some r) : Fn Try.prog 30 [sL 2 c_TPrefixList a0, sL 2 c_TPrefixList a1, .fn 31 []] (.pure (.bool r)) := by
 unfold M.slices_EqualFunc_api_PrefixList_api_PrefixList_api_PrefixList_api_PrefixList__model_Same_1 at h
 refine fn_pure Try.func30 rfl (by kernel_rfl) ?_
 refine awp_seq (rg0 [0, 1, 2] 0 ⟨32, [(0, sL 2 c_TPrefixList a0), (1, sL 2 c_TPrefixList a1), (2, .fn 31 [])], []⟩ ?_)
 refine then_n (awp_seq (awp_seq (rg0 [0, 1, 2, 14] 0 ⟨32, [(0, sL 2 c_TPrefixList a0), (1, sL 2 c_TPrefixList a1), (2, .fn 31 []), (14, .bool ((a0.length : Int) != (a1.length : Int)))], []⟩ ?_)))
 refine then_n ?_
 refine cnd ((a0.length : Int) != (a1.length : Int)) (fun b1 => ?_) (fun b1 => ?_)
 have h2 := cond_t b1 h
 refine awp_seq (rg0 [6] 0 ⟨32, [(6, .bool false)], []⟩ ?_)
 refine then_n (awp_ret (then_r ?_))
 obtain rfl := Option.some.inj h2
 exact er0 (.bool false)
 have h3 := cond_f b1 h
 refine awp_skip (then_n (awp_seq (awp_seq (rg0 [1, 2, 15, 16, 17] 0 ⟨32, [(1, sL 2 c_TPrefixList a1), (2, .fn 31 []), (15, sL 2 c_TPrefixList a0), (16, .int .i64 (a0.length : Int)), (17, .int .i64 0)], []⟩ ?_))))
 refine then_n (awp_block ?_)
 obtain ⟨y4, q17, h18⟩ := bind_some h3
 refine awp_le (s' := ⟨32, [(1, sL 2 c_TPrefixList a1), (2, .fn 31 []), (15, sL 2 c_TPrefixList a0), (16, .int .i64 (a0.length : Int)), (17, .int .i64 0)], []⟩) (le_rfl) ?_
 refine awp_mono (awp_loop (f := M.slices_EqualFunc_api_PrefixList_api_PrefixList_api_PrefixList_api_PrefixList__model_Same_1_l1 a0 a1) (S := fun (p1 : Int) => ⟨32, [(1, sL 2 c_TPrefixList a1), (2, .fn 31 []), (15, sL 2 c_TPrefixList a0), (16, .int .i64 (a0.length : Int)), (17, .int .i64 p1)], []⟩) (O := (Sum.elim (fun z => OutE 0 (fun z => ⟨32, [], []⟩) z) (fun z => OutR Try.prog Try.f30 (.bool z)))) ?_ (x := 0) (y := y4) (loopM_iter q17)) ?_
 intro p1 y2 h4
 unfold M.slices_EqualFunc_api_PrefixList_api_PrefixList_api_PrefixList_api_PrefixList__model_Same_1_l1 at h4
 refine awp_seq (rg0 [1, 2, 15, 16, 17, 18] 0 ⟨32, [(1, sL 2 c_TPrefixList a1), (2, .fn 31 []), (15, sL 2 c_TPrefixList a0), (16, .int .i64 (a0.length : Int)), (17, .int .i64 p1), (18, .bool (decide (p1 < (a0.length : Int))))], []⟩ ?_)
 refine then_n (awp_seq ?_)
 refine cnd (decide (p1 < (a0.length : Int))) (fun b5 => ?_) (fun b5 => ?_)
 have h6 := cond_t b5 h4
 refine awp_skip (then_n (awp_seq (awp_block (awp_seq ?_))))
 obtain ⟨c8, h9⟩ := gd_some h6
 refine rgc [1, 2, 7, 8, 15, 16, 17] 1 ⟨32, [(1, sL 2 c_TPrefixList a1), (2, .fn 31 []), (7, .int .i64 p1), (8, .ref 0 0), (15, sL 2 c_TPrefixList a0), (16, .int .i64 (a0.length : Int)), (17, .int .i64 p1)], [.box (c_TPrefixList (a0.getD p1.toNat default))]⟩ [decide (0 ≤ p1), decide (p1 < (a0.length : Int))] c8 ?_
 refine then_n (awp_seq ?_)
 obtain ⟨c10, h11⟩ := gd_some h9
 refine rgc [1, 2, 8, 9, 15, 16, 17] 2 ⟨32, [(1, sL 2 c_TPrefixList a1), (2, .fn 31 []), (8, .ref 0 0), (9, .ref 1 0), (15, sL 2 c_TPrefixList a0), (16, .int .i64 (a0.length : Int)), (17, .int .i64 p1)], [.box (c_TPrefixList (a0.getD p1.toNat default)), .box (c_TPrefixList (a1.getD p1.toNat default))]⟩ [decide (0 ≤ p1), decide (p1 < (a1.length : Int))] c10 ?_
 refine then_n (awp_seq ?_)
 obtain ⟨r3, q12, h13⟩ := bind_some h11
 refine rg [.pure (.bool r3)] [1, 2, 15, 16, 17, 30] 0 ⟨32, [(1, sL 2 c_TPrefixList a1), (2, .fn 31 []), (15, sL 2 c_TPrefixList a0), (16, .int .i64 (a0.length : Int)), (17, .int .i64 p1), (30, .bool (!r3))], []⟩ [] [⟨true, 31, [.agg (c_TPrefixList (a0.getD p1.toNat default)), .agg (c_TPrefixList (a1.getD p1.toNat default))], .pure (.bool r3)⟩] nil_all ⟨fun _ => model_Same_1_ok (a0.getD p1.toNat default) (a1.getD p1.toNat default) r3 q12, trivial⟩ ?_
 refine then_n ?_
 refine cnd (!r3) (fun b14 => ?_) (fun b14 => ?_)
 have h15 := cond_t b14 h13
 refine awp_seq (rg0 [6] 0 ⟨32, [(6, .bool false)], []⟩ ?_)
 refine then_n (awp_ret (inb_r (then_r ?_)))
 obtain rfl := Option.some.inj h15
 exact round_r ⟨rfl, er0 (.bool false)⟩
 have h16 := cond_f b14 h13
 refine awp_skip (inb_n (then_n (rg0 [1, 2, 15, 16, 17] 0 ⟨32, [(1, sL 2 c_TPrefixList a1), (2, .fn 31 []), (15, sL 2 c_TPrefixList a0), (16, .int .i64 (a0.length : Int)), (17, .int .i64 (wr .i64 (p1 + 1)))], []⟩ ?_)))
 obtain rfl := Option.some.inj h16
 exact round_n (le_rfl)
 have h7 := cond_f b5 h4
 refine awp_exit (then_e ?_)
 obtain rfl := Option.some.inj h7
 exact round_e ⟨rfl, kp []⟩
 intro e19 s20 o21
 rcases y4 with g5 | y6
 have h22 := elim_l h18
 obtain ⟨rfl, l24⟩ := o21
 refine inb_here ?_
 refine then_le (s' := ⟨32, [], []⟩) (l24) ?_
 refine awp_seq (rg0 [6] 0 ⟨32, [(6, .bool true)], []⟩ ?_)
 refine then_n (awp_ret ?_)
 obtain rfl := Option.some.inj h22
 exact er0 (.bool true)
 have h23 := elim_r h18
 obtain ⟨rfl, n25⟩ := o21
 refine inb_r (then_r ?_)
 obtain rfl := Option.some.inj h23
 exact n25

/- slices.Equal[[]netverify/api.Clause,netverify/api.Clause] -/
theorem slices_Equal_api_Clause_api_Clause_ok (a0 : List TClause) (a1 : List TClause) (r : Bool) (h : M.slices_Equal_api_Clause_api_Clause a0 a1 = some r) : Fn Try.prog 35 [sL 7 c_TClause a0, sL 7 c_TClause a1] (.pure (.bool r)) := by
 unfold M.slices_Equal_api_Clause_api_Clause at h
 refine fn_pure Try.func35 rfl (by kernel_rfl) ?_
 refine awp_seq (rg0 [0, 1] 0 ⟨26, [(0, sL 7 c_TClause a0), (1, sL 7 c_TClause a1)], []⟩ ?_)
 refine then_n (awp_seq (awp_seq (rg0 [0, 1, 10] 0 ⟨26, [(0, sL 7 c_TClause a0), (1, sL 7 c_TClause a1), (10, .bool ((a0.length : Int) != (a1.length : Int)))], []⟩ ?_)))
 refine then_n ?_
 refine cnd ((a0.length : Int) != (a1.length : Int)) (fun b1 => ?_) (fun b1 => ?_)
 have h2 := cond_t b1 h
 refine awp_seq (rg0 [4] 0 ⟨26, [(4, .bool false)], []⟩ ?_)
 refine then_n (awp_ret (then_r ?_))
 obtain rfl := Option.some.inj h2
 exact er0 (.bool false)
 have h3 := cond_f b1 h
 refine awp_skip (then_n (awp_seq (awp_seq (rg0 [0, 1, 12, 13] 0 ⟨26, [(0, sL 7 c_TClause a0), (1, sL 7 c_TClause a1), (12, .int .i64 (a0.length : Int)), (13, .int .i64 0)], []⟩ ?_))))
 refine then_n (awp_block ?_)
 obtain ⟨y3, q13, h14⟩ := bind_some h3
 refine awp_le (s' := ⟨26, [(0, sL 7 c_TClause a0), (1, sL 7 c_TClause a1), (12, .int .i64 (a0.length : Int)), (13, .int .i64 0)], []⟩) (le_rfl) ?_
 refine awp_mono (awp_loop (f := M.slices_Equal_api_Clause_api_Clause_l1 a0 a1) (S := fun (p1 : Int) => ⟨26, [(0, sL 7 c_TClause a0), (1, sL 7 c_TClause a1), (12, .int .i64 (a0.length : Int)), (13, .int .i64 p1)], []⟩) (O := (Sum.elim (fun z => OutE 0 (fun z => ⟨26, [], []⟩) z) (fun z => OutR Try.prog Try.f35 (.bool z)))) ?_ (x := 0) (y := y3) (loopM_iter q13)) ?_
 intro p1 y2 h4
 unfold M.slices_Equal_api_Clause_api_Clause_l1 at h4
 refine awp_seq (rg0 [0, 1, 12, 13, 14] 0 ⟨26, [(0, sL 7 c_TClause a0), (1, sL 7 c_TClause a1), (12, .int .i64 (a0.length : Int)), (13, .int .i64 p1), (14, .bool (decide (p1 < (a0.length : Int))))], []⟩ ?_)
 refine then_n (awp_seq ?_)
 refine cnd (decide (p1 < (a0.length : Int))) (fun b5 => ?_) (fun b5 => ?_)
 have h6 := cond_t b5 h4
 refine awp_skip (then_n (awp_seq (awp_block (awp_seq (rg0 [0, 1, 5, 12, 13] 0 ⟨26, [(0, sL 7 c_TClause a0), (1, sL 7 c_TClause a1), (5, .int .i64 p1), (12, .int .i64 (a0.length : Int)), (13, .int .i64 p1)], []⟩ ?_)))))
 refine then_n (awp_seq ?_)
 obtain ⟨c8, h9⟩ := gd_some h6
 refine rgc [0, 1, 12, 13, 24] 0 ⟨26, [(0, sL 7 c_TClause a0), (1, sL 7 c_TClause a1), (12, .int .i64 (a0.length : Int)), (13, .int .i64 p1), (24, .bool (!((((a0.getD p1.toNat default).fPermit) == ((a1.getD p1.toNat default).fPermit)) && (strEq ((a0.getD p1.toNat default).fList) ((a1.getD p1.toNat default).fList) && ((((a0.getD p1.toNat default).fTag) == ((a1.getD p1.toNat default).fTag)) && ((((a0.getD p1.toNat default).fSetMetric) == ((a1.getD p1.toNat default).fSetMetric)) && ((((a0.getD p1.toNat default).fSetTag) == ((a1.getD p1.toNat default).fSetTag)) && ((((a0.getD p1.toNat default).fSetPref) == ((a1.getD p1.toNat default).fSetPref)) && ((((a0.getD p1.toNat default).fPrepend) == ((a1.getD p1.toNat default).fPrepend)) && true)))))))))], []⟩ [decide (0 ≤ p1), decide (p1 < (a0.length : Int)), decide (0 ≤ p1), decide (p1 < (a1.length : Int))] c8 ?_
 refine then_n ?_
 refine cnd (!((((a0.getD p1.toNat default).fPermit) == ((a1.getD p1.toNat default).fPermit)) && (strEq ((a0.getD p1.toNat default).fList) ((a1.getD p1.toNat default).fList) && ((((a0.getD p1.toNat default).fTag) == ((a1.getD p1.toNat default).fTag)) && ((((a0.getD p1.toNat default).fSetMetric) == ((a1.getD p1.toNat default).fSetMetric)) && ((((a0.getD p1.toNat default).fSetTag) == ((a1.getD p1.toNat default).fSetTag)) && ((((a0.getD p1.toNat default).fSetPref) == ((a1.getD p1.toNat default).fSetPref)) && ((((a0.getD p1.toNat default).fPrepend) == ((a1.getD p1.toNat default).fPrepend)) && true)))))))) (fun b10 => ?_) (fun b10 => ?_)
 have h11 := cond_t b10 h9
 refine awp_seq (rg0 [4] 0 ⟨26, [(4, .bool false)], []⟩ ?_)
 refine then_n (awp_ret (inb_r (then_r ?_)))
 obtain rfl := Option.some.inj h11
 exact round_r ⟨rfl, er0 (.bool false)⟩
 have h12 := cond_f b10 h9
 refine awp_skip (inb_n (then_n (rg0 [0, 1, 12, 13] 0 ⟨26, [(0, sL 7 c_TClause a0), (1, sL 7 c_TClause a1), (12, .int .i64 (a0.length : Int)), (13, .int .i64 (wr .i64 (p1 + 1)))], []⟩ ?_)))
 obtain rfl := Option.some.inj h12
 exact round_n (le_rfl)
 have h7 := cond_f b5 h4
 refine awp_exit (then_e ?_)
 obtain rfl := Option.some.inj h7
 exact round_e ⟨rfl, kp []⟩
 intro e15 s16 o17
 rcases y3 with g4 | y5
 have h18 := elim_l h14
 obtain ⟨rfl, l20⟩ := o17
 refine inb_here ?_
 refine then_le (s' := ⟨26, [], []⟩) (l20) ?_
 refine awp_seq (rg0 [4] 0 ⟨26, [(4, .bool true)], []⟩ ?_)
 refine then_n (awp_ret ?_)
 obtain rfl := Option.some.inj h18
 exact er0 (.bool true)
 have h19 := elim_r h14
 obtain ⟨rfl, n21⟩ := o17
 refine inb_r (then_r ?_)
 obtain rfl := Option.some.inj h19
 exact n21

/- netverify/model.Same$2 -/
theorem model_Same_2_ok (a0 : TRouteMap) (a1 : TRouteMap) (r : Bool) (h : M.model_Same_2 a0 a1 = some r) : Fn Try.prog 34 [.agg (c_TRouteMap a0), .agg (c_TRouteMap a1)] (.pure (.bool r)) := by
 unfold M.model_Same_2 at h
 refine fn_pure Try.func34 rfl (by kernel_rfl) ?_
 refine awp_seq (rg0 [2, 3] 2 ⟨17, [(2, .ref 0 0), (3, .ref 1 0)], [.box (c_TRouteMap a0), .box (c_TRouteMap a1)]⟩ ?_)
 refine then_n (awp_seq ?_)
 obtain ⟨r1, q1, h2⟩ := bind_some h
 refine rg [.pure (.bool r1)] [4] 0 ⟨17, [(4, .bool ((strEq a0.fName a1.fName) && r1))], []⟩ [] [⟨strEq a0.fName a1.fName, 35, [sL 7 c_TClause a0.fClauses, sL 7 c_TClause a1.fClauses], .pure (.bool r1)⟩] nil_all ⟨fun hg => slices_Equal_api_Clause_api_Clause_ok a0.fClauses a1.fClauses r1 (gc_some q1 hg), trivial⟩ ?_
 refine then_n (awp_ret ?_)
 obtain rfl := Option.some.inj h2
 exact er0 (.bool ((strEq a0.fName a1.fName) && r1))

/- slices.EqualFunc[[]netverify/api.RouteMap,[]netverify/api.RouteMap,netverify/api.RouteMap,netverify/api.RouteMap] -/
theorem slices_EqualFunc_api_RouteMap_api_RouteMap_api_RouteMap_api_RouteMap__model_Same_2_ok (a0 : List TRouteMap) (a1 : List TRouteMap) (r : Bool) (h : M.slices_EqualFunc_api_RouteMap_api_RouteMap_api_RouteMap_api_RouteMap__model_Same_2 a0 a1 = some r) : Fn Try.prog 33 [sL 2 c_TRouteMap a0, sL 2 c_TRouteMap a1, .fn 34 []] (.pure (.bool r)) := by
 unfold M.slices_EqualFunc_api_RouteMap_api_RouteMap_api_RouteMap_api_RouteMap__model_Same_2 at h
 refine fn_pure Try.func33 rfl (by kernel_rfl) ?_
 refine awp_seq (rg0 [0, 1, 2] 0 ⟨32, [(0, sL 2 c_TRouteMap a0), (1, sL 2 c_TRouteMap a1), (2, .fn 34 [])], []⟩ ?_)
 refine then_n (awp_seq (awp_seq (rg0 [0, 1, 2, 14] 0 ⟨32, [(0, sL 2 c_TRouteMap a0), (1, sL 2 c_TRouteMap a1), (2, .fn 34 []), (14, .bool ((a0.length : Int) != (a1.length : Int)))], []⟩ ?_)))
 refine then_n ?_
 refine cnd ((a0.length : Int) != (a1.length : Int)) (fun b1 => ?_) (fun b1 => ?_)
 have h2 := cond_t b1 h
 refine awp_seq (rg0 [6] 0 ⟨32, [(6, .bool false)], []⟩ ?_)
 refine then_n (awp_ret (then_r ?_))
 obtain rfl := Option.some.inj h2
 exact er0 (.bool false)
 have h3 := cond_f b1 h
 refine awp_skip (then_n (awp_seq (awp_seq (rg0 [1, 2, 15, 16, 17] 0 ⟨32, [(1, sL 2 c_TRouteMap a1), (2, .fn 34 []), (15, sL 2 c_TRouteMap a0), (16, .int .i64 (a0.length : Int)), (17, .int .i64 0)], []⟩ ?_))))
 refine then_n (awp_block ?_)
 obtain ⟨y4, q17, h18⟩ := bind_some h3
 refine awp_le (s' := ⟨32, [(1, sL 2 c_TRouteMap a1), (2, .fn 34 []), (15, sL 2 c_TRouteMap a0), (16, .int .i64 (a0.length : Int)), (17, .int .i64 0)], []⟩) (le_rfl) ?_
 refine awp_mono (awp_loop (f := M.slices_EqualFunc_api_RouteMap_api_RouteMap_api_RouteMap_api_RouteMap__model_Same_2_l1 a0 a1) (S := fun (p1 : Int) => ⟨32, [(1, sL 2 c_TRouteMap a1), (2, .fn 34 []), (15, sL 2 c_TRouteMap a0), (16, .int .i64 (a0.length : Int)), (17, .int .i64 p1)], []⟩) (O := (Sum.elim (fun z => OutE 0 (fun z => ⟨32, [], []⟩) z) (fun z => OutR Try.prog Try.f33 (.bool z)))) ?_ (x := 0) (y := y4) (loopM_iter q17)) ?_
 intro p1 y2 h4
 unfold M.slices_EqualFunc_api_RouteMap_api_RouteMap_api_RouteMap_api_RouteMap__model_Same_2_l1 at h4
 refine awp_seq (rg0 [1, 2, 15, 16, 17, 18] 0 ⟨32, [(1, sL 2 c_TRouteMap a1), (2, .fn 34 []), (15, sL 2 c_TRouteMap a0), (16, .int .i64 (a0.length : Int)), (17, .int .i64 p1), (18, .bool (decide (p1 < (a0.length : Int))))], []⟩ ?_)
 refine then_n (awp_seq ?_)
 refine cnd (decide (p1 < (a0.length : Int))) (fun b5 => ?_) (fun b5 => ?_)
 have h6 := cond_t b5 h4
 refine awp_skip (then_n (awp_seq (awp_block (awp_seq ?_))))
 obtain ⟨c8, h9⟩ := gd_some h6
 refine rgc [1, 2, 7, 8, 15, 16, 17] 1 ⟨32, [(1, sL 2 c_TRouteMap a1), (2, .fn 34 []), (7, .int .i64 p1), (8, .ref 0 0), (15, sL 2 c_TRouteMap a0), (16, .int .i64 (a0.length : Int)), (17, .int .i64 p1)], [.box (c_TRouteMap (a0.getD p1.toNat default))]⟩ [decide (0 ≤ p1), decide (p1 < (a0.length : Int))] c8 ?_
 refine then_n (awp_seq ?_)
 obtain ⟨c10, h11⟩ := gd_some h9
 refine rgc [1, 2, 8, 9, 15, 16, 17] 2 ⟨32, [(1, sL 2 c_TRouteMap a1), (2, .fn 34 []), (8, .ref 0 0), (9, .ref 1 0), (15, sL 2 c_TRouteMap a0), (16, .int .i64 (a0.length : Int)), (17, .int .i64 p1)], [.box (c_TRouteMap (a0.getD p1.toNat default)), .box (c_TRouteMap (a1.getD p1.toNat default))]⟩ [decide (0 ≤ p1), decide (p1 < (a1.length : Int))] c10 ?_
 refine then_n (awp_seq ?_)
 obtain ⟨r3, q12, h13⟩ := bind_some h11
 refine rg [.pure (.bool r3)] [1, 2, 15, 16, 17, 30] 0 ⟨32, [(1, sL 2 c_TRouteMap a1), (2, .fn 34 []), (15, sL 2 c_TRouteMap a0), (16, .int .i64 (a0.length : Int)), (17, .int .i64 p1), (30, .bool (!r3))], []⟩ [] [⟨true, 34, [.agg (c_TRouteMap (a0.getD p1.toNat default)), .agg (c_TRouteMap (a1.getD p1.toNat default))], .pure (.bool r3)⟩] nil_all ⟨fun _ => model_Same_2_ok (a0.getD p1.toNat default) (a1.getD p1.toNat default) r3 q12, trivial⟩ ?_
 refine then_n ?_
 refine cnd (!r3) (fun b14 => ?_) (fun b14 => ?_)
 have h15 := cond_t b14 h13
 refine awp_seq (rg0 [6] 0 ⟨32, [(6, .bool false)], []⟩ ?_)
 refine then_n (awp_ret (inb_r (then_r ?_)))
 obtain rfl := Option.some.inj h15
 exact round_r ⟨rfl, er0 (.bool false)⟩
 have h16 := cond_f b14 h13
 refine awp_skip (inb_n (then_n (rg0 [1, 2, 15, 16, 17] 0 ⟨32, [(1, sL 2 c_TRouteMap a1), (2, .fn 34 []), (15, sL 2 c_TRouteMap a0), (16, .int .i64 (a0.length : Int)), (17, .int .i64 (wr .i64 (p1 + 1)))], []⟩ ?_)))
 obtain rfl := Option.some.inj h16
 exact round_n (le_rfl)
 have h7 := cond_f b5 h4
 refine awp_exit (then_e ?_)
 obtain rfl := Option.some.inj h7
 exact round_e ⟨rfl, kp []⟩
 intro e19 s20 o21
 rcases y4 with g5 | y6
 have h22 := elim_l h18
 obtain ⟨rfl, l24⟩ := o21
 refine inb_here ?_
 refine then_le (s' := ⟨32, [], []⟩) (l24) ?_
 refine awp_seq (rg0 [6] 0 ⟨32, [(6, .bool true)], []⟩ ?_)
 refine then_n (awp_ret ?_)
 obtain rfl := Option.some.inj h22
 exact er0 (.bool true)
 have h23 := elim_r h18
 obtain ⟨rfl, n25⟩ := o21
 refine inb_r (then_r ?_)
 obtain rfl := Option.some.inj h23
 exact n25

/- slices.Equal[[]netverify/api.Rule,netverify/api.Rule] -/
theorem slices_Equal_api_Rule_api_Rule_ok (a0 : List TRule) (a1 : List TRule) (r : Bool) (h : M.slices_Equal_api_Rule_api_Rule a0 a1 = some r) : Fn Try.prog 38 [sL 10 c_TRule a0, sL 10 c_TRule a1] (.pure (.bool r)) := by
 unfold M.slices_Equal_api_Rule_api_Rule at h
 refine fn_pure Try.func38 rfl (by kernel_rfl) ?_
 refine awp_seq (rg0 [0, 1] 0 ⟨26, [(0, sL 10 c_TRule a0), (1, sL 10 c_TRule a1)], []⟩ ?_)
 refine then_n (awp_seq (awp_seq (rg0 [0, 1, 10] 0 ⟨26, [(0, sL 10 c_TRule a0), (1, sL 10 c_TRule a1), (10, .bool ((a0.length : Int) != (a1.length : Int)))], []⟩ ?_)))
 refine then_n ?_
 refine cnd ((a0.length : Int) != (a1.length : Int)) (fun b1 => ?_) (fun b1 => ?_)
 have h2 := cond_t b1 h
 refine awp_seq (rg0 [4] 0 ⟨26, [(4, .bool false)], []⟩ ?_)
 refine then_n (awp_ret (then_r ?_))
 obtain rfl := Option.some.inj h2
 exact er0 (.bool false)
 have h3 := cond_f b1 h
 refine awp_skip (then_n (awp_seq (awp_seq (rg0 [0, 1, 12, 13] 0 ⟨26, [(0, sL 10 c_TRule a0), (1, sL 10 c_TRule a1), (12, .int .i64 (a0.length : Int)), (13, .int .i64 0)], []⟩ ?_))))
 refine then_n (awp_block ?_)
 obtain ⟨y3, q13, h14⟩ := bind_some h3
 refine awp_le (s' := ⟨26, [(0, sL 10 c_TRule a0), (1, sL 10 c_TRule a1), (12, .int .i64 (a0.length : Int)), (13, .int .i64 0)], []⟩) (le_rfl) ?_
 refine awp_mono (awp_loop (f := M.slices_Equal_api_Rule_api_Rule_l1 a0 a1) (S := fun (p1 : Int) => ⟨26, [(0, sL 10 c_TRule a0), (1, sL 10 c_TRule a1), (12, .int .i64 (a0.length : Int)), (13, .int .i64 p1)], []⟩) (O := (Sum.elim (fun z => OutE 0 (fun z => ⟨26, [], []⟩) z) (fun z => OutR Try.prog Try.f38 (.bool z)))) ?_ (x := 0) (y := y3) (loopM_iter q13)) ?_
 intro p1 y2 h4
 unfold M.slices_Equal_api_Rule_api_Rule_l1 at h4
 refine awp_seq (rg0 [0, 1, 12, 13, 14] 0 ⟨26, [(0, sL 10 c_TRule a0), (1, sL 10 c_TRule a1), (12, .int .i64 (a0.length : Int)), (13, .int .i64 p1), (14, .bool (decide (p1 < (a0.length : Int))))], []⟩ ?_)
 refine then_n (awp_seq ?_)
 refine cnd (decide (p1 < (a0.length : Int))) (fun b5 => ?_) (fun b5 => ?_)
 have h6 := cond_t b5 h4
 refine awp_skip (then_n (awp_seq (awp_block (awp_seq (rg0 [0, 1, 5, 12, 13] 0 ⟨26, [(0, sL 10 c_TRule a0), (1, sL 10 c_TRule a1), (5, .int .i64 p1), (12, .int .i64 (a0.length : Int)), (13, .int .i64 p1)], []⟩ ?_)))))
 refine then_n (awp_seq ?_)
 obtain ⟨c8, h9⟩ := gd_some h6
 refine rgc [0, 1, 12, 13, 24] 0 ⟨26, [(0, sL 10 c_TRule a0), (1, sL 10 c_TRule a1), (12, .int .i64 (a0.length : Int)), (13, .int .i64 p1), (24, .bool (!((((a0.getD p1.toNat default).fPermit) == ((a1.getD p1.toNat default).fPermit)) && ((((a0.getD p1.toNat default).fProto) == ((a1.getD p1.toNat default).fProto)) && ((((((a0.getD p1.toNat default).fSrc).fAddr) == (((a1.getD p1.toNat default).fSrc).fAddr)) && (((((a0.getD p1.toNat default).fSrc).fMask) == (((a1.getD p1.toNat default).fSrc).fMask)) && true)) && ((((((a0.getD p1.toNat default).fDst).fAddr) == (((a1.getD p1.toNat default).fDst).fAddr)) && (((((a0.getD p1.toNat default).fDst).fMask) == (((a1.getD p1.toNat default).fDst).fMask)) && true)) && ((((((a0.getD p1.toNat default).fSrcPorts).fLo) == (((a1.getD p1.toNat default).fSrcPorts).fLo)) && (((((a0.getD p1.toNat default).fSrcPorts).fHi) == (((a1.getD p1.toNat default).fSrcPorts).fHi)) && true)) && ((((((a0.getD p1.toNat default).fDstPorts).fLo) == (((a1.getD p1.toNat default).fDstPorts).fLo)) && (((((a0.getD p1.toNat default).fDstPorts).fHi) == (((a1.getD p1.toNat default).fDstPorts).fHi)) && true)) && true))))))))], []⟩ [decide (0 ≤ p1), decide (p1 < (a0.length : Int)), decide (0 ≤ p1), decide (p1 < (a1.length : Int))] c8 ?_
 refine then_n ?_
 refine cnd (!((((a0.getD p1.toNat default).fPermit) == ((a1.getD p1.toNat default).fPermit)) && ((((a0.getD p1.toNat default).fProto) == ((a1.getD p1.toNat default).fProto)) && ((((((a0.getD p1.toNat default).fSrc).fAddr) == (((a1.getD p1.toNat default).fSrc).fAddr)) && (((((a0.getD p1.toNat default).fSrc).fMask) == (((a1.getD p1.toNat default).fSrc).fMask)) && true)) && ((((((a0.getD p1.toNat default).fDst).fAddr) == (((a1.getD p1.toNat default).fDst).fAddr)) && (((((a0.getD p1.toNat default).fDst).fMask) == (((a1.getD p1.toNat default).fDst).fMask)) && true)) && ((((((a0.getD p1.toNat default).fSrcPorts).fLo) == (((a1.getD p1.toNat default).fSrcPorts).fLo)) && (((((a0.getD p1.toNat default).fSrcPorts).fHi) == (((a1.getD p1.toNat default).fSrcPorts).fHi)) && true)) && ((((((a0.getD p1.toNat default).fDstPorts).fLo) == (((a1.getD p1.toNat default).fDstPorts).fLo)) && (((((a0.getD p1.toNat default).fDstPorts).fHi) == (((a1.getD p1.toNat default).fDstPorts).fHi)) && true)) && true))))))) (fun b10 => ?_) (fun b10 => ?_)
 have h11 := cond_t b10 h9
 refine awp_seq (rg0 [4] 0 ⟨26, [(4, .bool false)], []⟩ ?_)
 refine then_n (awp_ret (inb_r (then_r ?_)))
 obtain rfl := Option.some.inj h11
 exact round_r ⟨rfl, er0 (.bool false)⟩
 have h12 := cond_f b10 h9
 refine awp_skip (inb_n (then_n (rg0 [0, 1, 12, 13] 0 ⟨26, [(0, sL 10 c_TRule a0), (1, sL 10 c_TRule a1), (12, .int .i64 (a0.length : Int)), (13, .int .i64 (wr .i64 (p1 + 1)))], []⟩ ?_)))
 obtain rfl := Option.some.inj h12
 exact round_n (le_rfl)
 have h7 := cond_f b5 h4
 refine awp_exit (then_e ?_)
 obtain rfl := Option.some.inj h7
 exact round_e ⟨rfl, kp []⟩
 intro e15 s16 o17
 rcases y3 with g4 | y5
 have h18 := elim_l h14
 obtain ⟨rfl, l20⟩ := o17
 refine inb_here ?_
 refine then_le (s' := ⟨26, [], []⟩) (l20) ?_
 refine awp_seq (rg0 [4] 0 ⟨26, [(4, .bool true)], []⟩ ?_)
 refine then_n (awp_ret ?_)
 obtain rfl := Option.some.inj h18
 exact er0 (.bool true)
 have h19 := elim_r h14
 obtain ⟨rfl, n21⟩ := o17
 refine inb_r (then_r ?_)
 obtain rfl := Option.some.inj h19
 exact n21

/- netverify/model.Same$3 -/
theorem model_Same_3_ok (a0 : TACL) (a1 : TACL) (r : Bool) (h : M.model_Same_3 a0 a1 = some r) : Fn Try.prog 37 [.agg (c_TACL a0), .agg (c_TACL a1)] (.pure (.bool r)) := by
 unfold M.model_Same_3 at h
 refine fn_pure Try.func37 rfl (by kernel_rfl) ?_
 refine awp_seq (rg0 [2, 3] 2 ⟨17, [(2, .ref 0 0), (3, .ref 1 0)], [.box (c_TACL a0), .box (c_TACL a1)]⟩ ?_)
 refine then_n (awp_seq ?_)
 obtain ⟨r1, q1, h2⟩ := bind_some h
 refine rg [.pure (.bool r1)] [4] 0 ⟨17, [(4, .bool ((strEq a0.fName a1.fName) && r1))], []⟩ [] [⟨strEq a0.fName a1.fName, 38, [sL 10 c_TRule a0.fRules, sL 10 c_TRule a1.fRules], .pure (.bool r1)⟩] nil_all ⟨fun hg => slices_Equal_api_Rule_api_Rule_ok a0.fRules a1.fRules r1 (gc_some q1 hg), trivial⟩ ?_
 refine then_n (awp_ret ?_)
 obtain rfl := Option.some.inj h2
 exact er0 (.bool ((strEq a0.fName a1.fName) && r1))

/- slices.EqualFunc[[]netverify/api.ACL,[]netverify/api.ACL,netverify/api.ACL,netverify/api.ACL] -/
theorem slices_EqualFunc_api_ACL_api_ACL_api_ACL_api_ACL__model_Same_3_ok (a0 : List TACL) (a1 : List TACL) (r : Bool) (h : M.slices_EqualFunc_api_ACL_api_ACL_api_ACL_api_ACL__model_Same_3 a0 a1 = some r) : Fn Try.prog 36 [sL 2 c_TACL a0, sL 2 c_TACL a1, .fn 37 []] (.pure (.bool r)) := by
 unfold M.slices_EqualFunc_api_ACL_api_ACL_api_ACL_api_ACL__model_Same_3 at h
 refine fn_pure Try.func36 rfl (by kernel_rfl) ?_
 refine awp_seq (rg0 [0, 1, 2] 0 ⟨32, [(0, sL 2 c_TACL a0), (1, sL 2 c_TACL a1), (2, .fn 37 [])], []⟩ ?_)
 refine then_n (awp_seq (awp_seq (rg0 [0, 1, 2, 14] 0 ⟨32, [(0, sL 2 c_TACL a0), (1, sL 2 c_TACL a1), (2, .fn 37 []), (14, .bool ((a0.length : Int) != (a1.length : Int)))], []⟩ ?_)))
 refine then_n ?_
 refine cnd ((a0.length : Int) != (a1.length : Int)) (fun b1 => ?_) (fun b1 => ?_)
 have h2 := cond_t b1 h
 refine awp_seq (rg0 [6] 0 ⟨32, [(6, .bool false)], []⟩ ?_)
 refine then_n (awp_ret (then_r ?_))
 obtain rfl := Option.some.inj h2
 exact er0 (.bool false)
 have h3 := cond_f b1 h
 refine awp_skip (then_n (awp_seq (awp_seq (rg0 [1, 2, 15, 16, 17] 0 ⟨32, [(1, sL 2 c_TACL a1), (2, .fn 37 []), (15, sL 2 c_TACL a0), (16, .int .i64 (a0.length : Int)), (17, .int .i64 0)], []⟩ ?_))))
 refine then_n (awp_block ?_)
 obtain ⟨y4, q17, h18⟩ := bind_some h3
 refine awp_le (s' := ⟨32, [(1, sL 2 c_TACL a1), (2, .fn 37 []), (15, sL 2 c_TACL a0), (16, .int .i64 (a0.length : Int)), (17, .int .i64 0)], []⟩) (le_rfl) ?_
 refine awp_mono (awp_loop (f := M.slices_EqualFunc_api_ACL_api_ACL_api_ACL_api_ACL__model_Same_3_l1 a0 a1) (S := fun (p1 : Int) => ⟨32, [(1, sL 2 c_TACL a1), (2, .fn 37 []), (15, sL 2 c_TACL a0), (16, .int .i64 (a0.length : Int)), (17, .int .i64 p1)], []⟩) (O := (Sum.elim (fun z => OutE 0 (fun z => ⟨32, [], []⟩) z) (fun z => OutR Try.prog Try.f36 (.bool z)))) ?_ (x := 0) (y := y4) (loopM_iter q17)) ?_
 intro p1 y2 h4
 unfold M.slices_EqualFunc_api_ACL_api_ACL_api_ACL_api_ACL__model_Same_3_l1 at h4
 refine awp_seq (rg0 [1, 2, 15, 16, 17, 18] 0 ⟨32, [(1, sL 2 c_TACL a1), (2, .fn 37 []), (15, sL 2 c_TACL a0), (16, .int .i64 (a0.length : Int)), (17, .int .i64 p1), (18, .bool (decide (p1 < (a0.length : Int))))], []⟩ ?_)
 refine then_n (awp_seq ?_)
 refine cnd (decide (p1 < (a0.length : Int))) (fun b5 => ?_) (fun b5 => ?_)
 have h6 := cond_t b5 h4
 refine awp_skip (then_n (awp_seq (awp_block (awp_seq ?_))))
 obtain ⟨c8, h9⟩ := gd_some h6
 refine rgc [1, 2, 7, 8, 15, 16, 17] 1 ⟨32, [(1, sL 2 c_TACL a1), (2, .fn 37 []), (7, .int .i64 p1), (8, .ref 0 0), (15, sL 2 c_TACL a0), (16, .int .i64 (a0.length : Int)), (17, .int .i64 p1)], [.box (c_TACL (a0.getD p1.toNat default))]⟩ [decide (0 ≤ p1), decide (p1 < (a0.length : Int))] c8 ?_
 refine then_n (awp_seq ?_)
 obtain ⟨c10, h11⟩ := gd_some h9
 refine rgc [1, 2, 8, 9, 15, 16, 17] 2 ⟨32, [(1, sL 2 c_TACL a1), (2, .fn 37 []), (8, .ref 0 0), (9, .ref 1 0), (15, sL 2 c_TACL a0), (16, .int .i64 (a0.length : Int)), (17, .int .i64 p1)], [.box (c_TACL (a0.getD p1.toNat default)), .box (c_TACL (a1.getD p1.toNat default))]⟩ [decide (0 ≤ p1), decide (p1 < (a1.length : Int))] c10 ?_
 refine then_n (awp_seq ?_)
 obtain ⟨r3, q12, h13⟩ := bind_some h11
 refine rg [.pure (.bool r3)] [1, 2, 15, 16, 17, 30] 0 ⟨32, [(1, sL 2 c_TACL a1), (2, .fn 37 []), (15, sL 2 c_TACL a0), (16, .int .i64 (a0.length : Int)), (17, .int .i64 p1), (30, .bool (!r3))], []⟩ [] [⟨true, 37, [.agg (c_TACL (a0.getD p1.toNat default)), .agg (c_TACL (a1.getD p1.toNat default))], .pure (.bool r3)⟩] nil_all ⟨fun _ => model_Same_3_ok (a0.getD p1.toNat default) (a1.getD p1.toNat default) r3 q12, trivial⟩ ?_
 refine then_n ?_
 refine cnd (!r3) (fun b14 => ?_) (fun b14 => ?_)
 have h15 := cond_t b14 h13
 refine awp_seq (rg0 [6] 0 ⟨32, [(6, .bool false)], []⟩ ?_)
 refine then_n (awp_ret (inb_r (then_r ?_)))
 obtain rfl := Option.some.inj h15
 exact round_r ⟨rfl, er0 (.bool false)⟩
 have h16 := cond_f b14 h13
 refine awp_skip (inb_n (then_n (rg0 [1, 2, 15, 16, 17] 0 ⟨32, [(1, sL 2 c_TACL a1), (2, .fn 37 []), (15, sL 2 c_TACL a0), (16, .int .i64 (a0.length : Int)), (17, .int .i64 (wr .i64 (p1 + 1)))], []⟩ ?_)))
 obtain rfl := Option.some.inj h16
 exact round_n (le_rfl)
 have h7 := cond_f b5 h4
 refine awp_exit (then_e ?_)
 obtain rfl := Option.some.inj h7
 exact round_e ⟨rfl, kp []⟩
 intro e19 s20 o21
 rcases y4 with g5 | y6
 have h22 := elim_l h18
 obtain ⟨rfl, l24⟩ := o21
 refine inb_here ?_
 refine then_le (s' := ⟨32, [], []⟩) (l24) ?_
 refine awp_seq (rg0 [6] 0 ⟨32, [(6, .bool true)], []⟩ ?_)
 refine then_n (awp_ret ?_)
 obtain rfl := Option.some.inj h22
 exact er0 (.bool true)
 have h23 := elim_r h18
 obtain ⟨rfl, n25⟩ := o21
 refine inb_r (then_r ?_)
 obtain rfl := Option.some.inj h23
 exact n25

/- slices.Equal[[]netverify/api.Translation,netverify/api.Translation] -/
theorem slices_Equal_api_Translation_api_Translation_ok (a0 : List TTranslation) (a1 : List TTranslation) (r : Bool) (h : M.slices_Equal_api_Translation_api_Translation a0 a1 = some r) : Fn Try.prog 39 [sL 9 c_TTranslation a0, sL 9 c_TTranslation a1] (.pure (.bool r)) := by
 unfold M.slices_Equal_api_Translation_api_Translation at h
 refine fn_pure Try.func39 rfl (by kernel_rfl) ?_
 refine awp_seq (rg0 [0, 1] 0 ⟨26, [(0, sL 9 c_TTranslation a0), (1, sL 9 c_TTranslation a1)], []⟩ ?_)
 refine then_n (awp_seq (awp_seq (rg0 [0, 1, 10] 0 ⟨26, [(0, sL 9 c_TTranslation a0), (1, sL 9 c_TTranslation a1), (10, .bool ((a0.length : Int) != (a1.length : Int)))], []⟩ ?_)))
 refine then_n ?_
 refine cnd ((a0.length : Int) != (a1.length : Int)) (fun b1 => ?_) (fun b1 => ?_)
 have h2 := cond_t b1 h
 refine awp_seq (rg0 [4] 0 ⟨26, [(4, .bool false)], []⟩ ?_)
 refine then_n (awp_ret (then_r ?_))
 obtain rfl := Option.some.inj h2
 exact er0 (.bool false)
 have h3 := cond_f b1 h
 refine awp_skip (then_n (awp_seq (awp_seq (rg0 [0, 1, 12, 13] 0 ⟨26, [(0, sL 9 c_TTranslation a0), (1, sL 9 c_TTranslation a1), (12, .int .i64 (a0.length : Int)), (13, .int .i64 0)], []⟩ ?_))))
 refine then_n (awp_block ?_)
 obtain ⟨y3, q13, h14⟩ := bind_some h3
 refine awp_le (s' := ⟨26, [(0, sL 9 c_TTranslation a0), (1, sL 9 c_TTranslation a1), (12, .int .i64 (a0.length : Int)), (13, .int .i64 0)], []⟩) (le_rfl) ?_
 refine awp_mono (awp_loop (f := M.slices_Equal_api_Translation_api_Translation_l1 a0 a1) (S := fun (p1 : Int) => ⟨26, [(0, sL 9 c_TTranslation a0), (1, sL 9 c_TTranslation a1), (12, .int .i64 (a0.length : Int)), (13, .int .i64 p1)], []⟩) (O := (Sum.elim (fun z => OutE 0 (fun z => ⟨26, [], []⟩) z) (fun z => OutR Try.prog Try.f39 (.bool z)))) ?_ (x := 0) (y := y3) (loopM_iter q13)) ?_
 intro p1 y2 h4
 unfold M.slices_Equal_api_Translation_api_Translation_l1 at h4
 refine awp_seq (rg0 [0, 1, 12, 13, 14] 0 ⟨26, [(0, sL 9 c_TTranslation a0), (1, sL 9 c_TTranslation a1), (12, .int .i64 (a0.length : Int)), (13, .int .i64 p1), (14, .bool (decide (p1 < (a0.length : Int))))], []⟩ ?_)
 refine then_n (awp_seq ?_)
 refine cnd (decide (p1 < (a0.length : Int))) (fun b5 => ?_) (fun b5 => ?_)
 have h6 := cond_t b5 h4
 refine awp_skip (then_n (awp_seq (awp_block (awp_seq (rg0 [0, 1, 5, 12, 13] 0 ⟨26, [(0, sL 9 c_TTranslation a0), (1, sL 9 c_TTranslation a1), (5, .int .i64 p1), (12, .int .i64 (a0.length : Int)), (13, .int .i64 p1)], []⟩ ?_)))))
 refine then_n (awp_seq ?_)
 obtain ⟨c8, h9⟩ := gd_some h6
 refine rgc [0, 1, 12, 13, 24] 0 ⟨26, [(0, sL 9 c_TTranslation a0), (1, sL 9 c_TTranslation a1), (12, .int .i64 (a0.length : Int)), (13, .int .i64 p1), (24, .bool (!((((a0.getD p1.toNat default).fKind) == ((a1.getD p1.toNat default).fKind)) && ((((a0.getD p1.toNat default).fInside) == ((a1.getD p1.toNat default).fInside)) && ((((a0.getD p1.toNat default).fOutside) == ((a1.getD p1.toNat default).fOutside)) && ((((a0.getD p1.toNat default).fProto) == ((a1.getD p1.toNat default).fProto)) && ((((a0.getD p1.toNat default).fInsidePort) == ((a1.getD p1.toNat default).fInsidePort)) && ((((a0.getD p1.toNat default).fOutsidePort) == ((a1.getD p1.toNat default).fOutsidePort)) && (strEq ((a0.getD p1.toNat default).fList) ((a1.getD p1.toNat default).fList) && ((((a0.getD p1.toNat default).fLo) == ((a1.getD p1.toNat default).fLo)) && ((((a0.getD p1.toNat default).fHi) == ((a1.getD p1.toNat default).fHi)) && true)))))))))))], []⟩ [decide (0 ≤ p1), decide (p1 < (a0.length : Int)), decide (0 ≤ p1), decide (p1 < (a1.length : Int))] c8 ?_
 refine then_n ?_
 refine cnd (!((((a0.getD p1.toNat default).fKind) == ((a1.getD p1.toNat default).fKind)) && ((((a0.getD p1.toNat default).fInside) == ((a1.getD p1.toNat default).fInside)) && ((((a0.getD p1.toNat default).fOutside) == ((a1.getD p1.toNat default).fOutside)) && ((((a0.getD p1.toNat default).fProto) == ((a1.getD p1.toNat default).fProto)) && ((((a0.getD p1.toNat default).fInsidePort) == ((a1.getD p1.toNat default).fInsidePort)) && ((((a0.getD p1.toNat default).fOutsidePort) == ((a1.getD p1.toNat default).fOutsidePort)) && (strEq ((a0.getD p1.toNat default).fList) ((a1.getD p1.toNat default).fList) && ((((a0.getD p1.toNat default).fLo) == ((a1.getD p1.toNat default).fLo)) && ((((a0.getD p1.toNat default).fHi) == ((a1.getD p1.toNat default).fHi)) && true)))))))))) (fun b10 => ?_) (fun b10 => ?_)
 have h11 := cond_t b10 h9
 refine awp_seq (rg0 [4] 0 ⟨26, [(4, .bool false)], []⟩ ?_)
 refine then_n (awp_ret (inb_r (then_r ?_)))
 obtain rfl := Option.some.inj h11
 exact round_r ⟨rfl, er0 (.bool false)⟩
 have h12 := cond_f b10 h9
 refine awp_skip (inb_n (then_n (rg0 [0, 1, 12, 13] 0 ⟨26, [(0, sL 9 c_TTranslation a0), (1, sL 9 c_TTranslation a1), (12, .int .i64 (a0.length : Int)), (13, .int .i64 (wr .i64 (p1 + 1)))], []⟩ ?_)))
 obtain rfl := Option.some.inj h12
 exact round_n (le_rfl)
 have h7 := cond_f b5 h4
 refine awp_exit (then_e ?_)
 obtain rfl := Option.some.inj h7
 exact round_e ⟨rfl, kp []⟩
 intro e15 s16 o17
 rcases y3 with g4 | y5
 have h18 := elim_l h14
 obtain ⟨rfl, l20⟩ := o17
 refine inb_here ?_
 refine then_le (s' := ⟨26, [], []⟩) (l20) ?_
 refine awp_seq (rg0 [4] 0 ⟨26, [(4, .bool true)], []⟩ ?_)
 refine then_n (awp_ret ?_)
 obtain rfl := Option.some.inj h18
 exact er0 (.bool true)
 have h19 := elim_r h14
 obtain ⟨rfl, n21⟩ := o17
 refine inb_r (then_r ?_)
 obtain rfl := Option.some.inj h19
 exact n21

/- slices.Equal[[]netverify/api.StaticRoute,netverify/api.StaticRoute] -/
theorem slices_Equal_api_StaticRoute_api_StaticRoute_ok (a0 : List TStaticRoute) (a1 : List TStaticRoute) (r : Bool) (h : M.slices_Equal_api_StaticRoute_api_StaticRoute a0 a1 = some r) : Fn Try.prog 40 [sL 7 c_TStaticRoute a0, sL 7 c_TStaticRoute a1] (.pure (.bool r)) := by
 unfold M.slices_Equal_api_StaticRoute_api_StaticRoute at h
 refine fn_pure Try.func40 rfl (by kernel_rfl) ?_
 refine awp_seq (rg0 [0, 1] 0 ⟨26, [(0, sL 7 c_TStaticRoute a0), (1, sL 7 c_TStaticRoute a1)], []⟩ ?_)
 refine then_n (awp_seq (awp_seq (rg0 [0, 1, 10] 0 ⟨26, [(0, sL 7 c_TStaticRoute a0), (1, sL 7 c_TStaticRoute a1), (10, .bool ((a0.length : Int) != (a1.length : Int)))], []⟩ ?_)))
 refine then_n ?_
 refine cnd ((a0.length : Int) != (a1.length : Int)) (fun b1 => ?_) (fun b1 => ?_)
 have h2 := cond_t b1 h
 refine awp_seq (rg0 [4] 0 ⟨26, [(4, .bool false)], []⟩ ?_)
 refine then_n (awp_ret (then_r ?_))
 obtain rfl := Option.some.inj h2
 exact er0 (.bool false)
 have h3 := cond_f b1 h
 refine awp_skip (then_n (awp_seq (awp_seq (rg0 [0, 1, 12, 13] 0 ⟨26, [(0, sL 7 c_TStaticRoute a0), (1, sL 7 c_TStaticRoute a1), (12, .int .i64 (a0.length : Int)), (13, .int .i64 0)], []⟩ ?_))))
 refine then_n (awp_block ?_)
 obtain ⟨y3, q13, h14⟩ := bind_some h3
 refine awp_le (s' := ⟨26, [(0, sL 7 c_TStaticRoute a0), (1, sL 7 c_TStaticRoute a1), (12, .int .i64 (a0.length : Int)), (13, .int .i64 0)], []⟩) (le_rfl) ?_
 refine awp_mono (awp_loop (f := M.slices_Equal_api_StaticRoute_api_StaticRoute_l1 a0 a1) (S := fun (p1 : Int) => ⟨26, [(0, sL 7 c_TStaticRoute a0), (1, sL 7 c_TStaticRoute a1), (12, .int .i64 (a0.length : Int)), (13, .int .i64 p1)], []⟩) (O := (Sum.elim (fun z => OutE 0 (fun z => ⟨26, [], []⟩) z) (fun z => OutR Try.prog Try.f40 (.bool z)))) ?_ (x := 0) (y := y3) (loopM_iter q13)) ?_
 intro p1 y2 h4
 unfold M.slices_Equal_api_StaticRoute_api_StaticRoute_l1 at h4
 refine awp_seq (rg0 [0, 1, 12, 13, 14] 0 ⟨26, [(0, sL 7 c_TStaticRoute a0), (1, sL 7 c_TStaticRoute a1), (12, .int .i64 (a0.length : Int)), (13, .int .i64 p1), (14, .bool (decide (p1 < (a0.length : Int))))], []⟩ ?_)
 refine then_n (awp_seq ?_)
 refine cnd (decide (p1 < (a0.length : Int))) (fun b5 => ?_) (fun b5 => ?_)
 have h6 := cond_t b5 h4
 refine awp_skip (then_n (awp_seq (awp_block (awp_seq (rg0 [0, 1, 5, 12, 13] 0 ⟨26, [(0, sL 7 c_TStaticRoute a0), (1, sL 7 c_TStaticRoute a1), (5, .int .i64 p1), (12, .int .i64 (a0.length : Int)), (13, .int .i64 p1)], []⟩ ?_)))))
 refine then_n (awp_seq ?_)
 obtain ⟨c8, h9⟩ := gd_some h6
 refine rgc [0, 1, 12, 13, 24] 0 ⟨26, [(0, sL 7 c_TStaticRoute a0), (1, sL 7 c_TStaticRoute a1), (12, .int .i64 (a0.length : Int)), (13, .int .i64 p1), (24, .bool (!((((((a0.getD p1.toNat default).fPrefix).fAddr) == (((a1.getD p1.toNat default).fPrefix).fAddr)) && (((((a0.getD p1.toNat default).fPrefix).fLen) == (((a1.getD p1.toNat default).fPrefix).fLen)) && true)) && ((((a0.getD p1.toNat default).fNext) == ((a1.getD p1.toNat default).fNext)) && (strEq ((a0.getD p1.toNat default).fIface) ((a1.getD p1.toNat default).fIface) && ((((a0.getD p1.toNat default).fDiscard) == ((a1.getD p1.toNat default).fDiscard)) && ((((a0.getD p1.toNat default).fAdmin) == ((a1.getD p1.toNat default).fAdmin)) && ((((a0.getD p1.toNat default).fTag) == ((a1.getD p1.toNat default).fTag)) && true))))))))], []⟩ [decide (0 ≤ p1), decide (p1 < (a0.length : Int)), decide (0 ≤ p1), decide (p1 < (a1.length : Int))] c8 ?_
 refine then_n ?_
 refine cnd (!((((((a0.getD p1.toNat default).fPrefix).fAddr) == (((a1.getD p1.toNat default).fPrefix).fAddr)) && (((((a0.getD p1.toNat default).fPrefix).fLen) == (((a1.getD p1.toNat default).fPrefix).fLen)) && true)) && ((((a0.getD p1.toNat default).fNext) == ((a1.getD p1.toNat default).fNext)) && (strEq ((a0.getD p1.toNat default).fIface) ((a1.getD p1.toNat default).fIface) && ((((a0.getD p1.toNat default).fDiscard) == ((a1.getD p1.toNat default).fDiscard)) && ((((a0.getD p1.toNat default).fAdmin) == ((a1.getD p1.toNat default).fAdmin)) && ((((a0.getD p1.toNat default).fTag) == ((a1.getD p1.toNat default).fTag)) && true))))))) (fun b10 => ?_) (fun b10 => ?_)
 have h11 := cond_t b10 h9
 refine awp_seq (rg0 [4] 0 ⟨26, [(4, .bool false)], []⟩ ?_)
 refine then_n (awp_ret (inb_r (then_r ?_)))
 obtain rfl := Option.some.inj h11
 exact round_r ⟨rfl, er0 (.bool false)⟩
 have h12 := cond_f b10 h9
 refine awp_skip (inb_n (then_n (rg0 [0, 1, 12, 13] 0 ⟨26, [(0, sL 7 c_TStaticRoute a0), (1, sL 7 c_TStaticRoute a1), (12, .int .i64 (a0.length : Int)), (13, .int .i64 (wr .i64 (p1 + 1)))], []⟩ ?_)))
 obtain rfl := Option.some.inj h12
 exact round_n (le_rfl)
 have h7 := cond_f b5 h4
 refine awp_exit (then_e ?_)
 obtain rfl := Option.some.inj h7
 exact round_e ⟨rfl, kp []⟩
 intro e15 s16 o17
 rcases y3 with g4 | y5
 have h18 := elim_l h14
 obtain ⟨rfl, l20⟩ := o17
 refine inb_here ?_
 refine then_le (s' := ⟨26, [], []⟩) (l20) ?_
 refine awp_seq (rg0 [4] 0 ⟨26, [(4, .bool true)], []⟩ ?_)
 refine then_n (awp_ret ?_)
 obtain rfl := Option.some.inj h18
 exact er0 (.bool true)
 have h19 := elim_r h14
 obtain ⟨rfl, n21⟩ := o17
 refine inb_r (then_r ?_)
 obtain rfl := Option.some.inj h19
 exact n21

/- slices.Equal[[]netverify/api.AreaRange,netverify/api.AreaRange] -/
theorem slices_Equal_api_AreaRange_api_AreaRange_ok (a0 : List TAreaRange) (a1 : List TAreaRange) (r : Bool) (h : M.slices_Equal_api_AreaRange_api_AreaRange a0 a1 = some r) : Fn Try.prog 73 [sL 3 c_TAreaRange a0, sL 3 c_TAreaRange a1] (.pure (.bool r)) := by
 unfold M.slices_Equal_api_AreaRange_api_AreaRange at h
 refine fn_pure Try.func73 rfl (by kernel_rfl) ?_
 refine awp_seq (rg0 [0, 1] 0 ⟨26, [(0, sL 3 c_TAreaRange a0), (1, sL 3 c_TAreaRange a1)], []⟩ ?_)
 refine then_n (awp_seq (awp_seq (rg0 [0, 1, 10] 0 ⟨26, [(0, sL 3 c_TAreaRange a0), (1, sL 3 c_TAreaRange a1), (10, .bool ((a0.length : Int) != (a1.length : Int)))], []⟩ ?_)))
 refine then_n ?_
 refine cnd ((a0.length : Int) != (a1.length : Int)) (fun b1 => ?_) (fun b1 => ?_)
 have h2 := cond_t b1 h
 refine awp_seq (rg0 [4] 0 ⟨26, [(4, .bool false)], []⟩ ?_)
 refine then_n (awp_ret (then_r ?_))
 obtain rfl := Option.some.inj h2
 exact er0 (.bool false)
 have h3 := cond_f b1 h
 refine awp_skip (then_n (awp_seq (awp_seq (rg0 [0, 1, 12, 13] 0 ⟨26, [(0, sL 3 c_TAreaRange a0), (1, sL 3 c_TAreaRange a1), (12, .int .i64 (a0.length : Int)), (13, .int .i64 0)], []⟩ ?_))))
 refine then_n (awp_block ?_)
 obtain ⟨y3, q13, h14⟩ := bind_some h3
 refine awp_le (s' := ⟨26, [(0, sL 3 c_TAreaRange a0), (1, sL 3 c_TAreaRange a1), (12, .int .i64 (a0.length : Int)), (13, .int .i64 0)], []⟩) (le_rfl) ?_
 refine awp_mono (awp_loop (f := M.slices_Equal_api_AreaRange_api_AreaRange_l1 a0 a1) (S := fun (p1 : Int) => ⟨26, [(0, sL 3 c_TAreaRange a0), (1, sL 3 c_TAreaRange a1), (12, .int .i64 (a0.length : Int)), (13, .int .i64 p1)], []⟩) (O := (Sum.elim (fun z => OutE 0 (fun z => ⟨26, [], []⟩) z) (fun z => OutR Try.prog Try.f73 (.bool z)))) ?_ (x := 0) (y := y3) (loopM_iter q13)) ?_
 intro p1 y2 h4
 unfold M.slices_Equal_api_AreaRange_api_AreaRange_l1 at h4
 refine awp_seq (rg0 [0, 1, 12, 13, 14] 0 ⟨26, [(0, sL 3 c_TAreaRange a0), (1, sL 3 c_TAreaRange a1), (12, .int .i64 (a0.length : Int)), (13, .int .i64 p1), (14, .bool (decide (p1 < (a0.length : Int))))], []⟩ ?_)
 refine then_n (awp_seq ?_)
 refine cnd (decide (p1 < (a0.length : Int))) (fun b5 => ?_) (fun b5 => ?_)
 have h6 := cond_t b5 h4
 refine awp_skip (then_n (awp_seq (awp_block (awp_seq (rg0 [0, 1, 5, 12, 13] 0 ⟨26, [(0, sL 3 c_TAreaRange a0), (1, sL 3 c_TAreaRange a1), (5, .int .i64 p1), (12, .int .i64 (a0.length : Int)), (13, .int .i64 p1)], []⟩ ?_)))))
 refine then_n (awp_seq ?_)
 obtain ⟨c8, h9⟩ := gd_some h6
 refine rgc [0, 1, 12, 13, 24] 0 ⟨26, [(0, sL 3 c_TAreaRange a0), (1, sL 3 c_TAreaRange a1), (12, .int .i64 (a0.length : Int)), (13, .int .i64 p1), (24, .bool (!((((a0.getD p1.toNat default).fArea) == ((a1.getD p1.toNat default).fArea)) && ((((((a0.getD p1.toNat default).fPrefix).fAddr) == (((a1.getD p1.toNat default).fPrefix).fAddr)) && (((((a0.getD p1.toNat default).fPrefix).fLen) == (((a1.getD p1.toNat default).fPrefix).fLen)) && true)) && true))))], []⟩ [decide (0 ≤ p1), decide (p1 < (a0.length : Int)), decide (0 ≤ p1), decide (p1 < (a1.length : Int))] c8 ?_
 refine then_n ?_
 refine cnd (!((((a0.getD p1.toNat default).fArea) == ((a1.getD p1.toNat default).fArea)) && ((((((a0.getD p1.toNat default).fPrefix).fAddr) == (((a1.getD p1.toNat default).fPrefix).fAddr)) && (((((a0.getD p1.toNat default).fPrefix).fLen) == (((a1.getD p1.toNat default).fPrefix).fLen)) && true)) && true))) (fun b10 => ?_) (fun b10 => ?_)
 have h11 := cond_t b10 h9
 refine awp_seq (rg0 [4] 0 ⟨26, [(4, .bool false)], []⟩ ?_)
 refine then_n (awp_ret (inb_r (then_r ?_)))
 obtain rfl := Option.some.inj h11
 exact round_r ⟨rfl, er0 (.bool false)⟩
 have h12 := cond_f b10 h9
 refine awp_skip (inb_n (then_n (rg0 [0, 1, 12, 13] 0 ⟨26, [(0, sL 3 c_TAreaRange a0), (1, sL 3 c_TAreaRange a1), (12, .int .i64 (a0.length : Int)), (13, .int .i64 (wr .i64 (p1 + 1)))], []⟩ ?_)))
 obtain rfl := Option.some.inj h12
 exact round_n (le_rfl)
 have h7 := cond_f b5 h4
 refine awp_exit (then_e ?_)
 obtain rfl := Option.some.inj h7
 exact round_e ⟨rfl, kp []⟩
 intro e15 s16 o17
 rcases y3 with g4 | y5
 have h18 := elim_l h14
 obtain ⟨rfl, l20⟩ := o17
 refine inb_here ?_
 refine then_le (s' := ⟨26, [], []⟩) (l20) ?_
 refine awp_seq (rg0 [4] 0 ⟨26, [(4, .bool true)], []⟩ ?_)
 refine then_n (awp_ret ?_)
 obtain rfl := Option.some.inj h18
 exact er0 (.bool true)
 have h19 := elim_r h14
 obtain ⟨rfl, n21⟩ := o17
 refine inb_r (then_r ?_)
 obtain rfl := Option.some.inj h19
 exact n21

/- slices.Equal[[]netverify/api.Redist,netverify/api.Redist] -/
theorem slices_Equal_api_Redist_api_Redist_ok (a0 : List TRedist) (a1 : List TRedist) (r : Bool) (h : M.slices_Equal_api_Redist_api_Redist a0 a1 = some r) : Fn Try.prog 74 [sL 5 c_TRedist a0, sL 5 c_TRedist a1] (.pure (.bool r)) := by
 unfold M.slices_Equal_api_Redist_api_Redist at h
 refine fn_pure Try.func74 rfl (by kernel_rfl) ?_
 refine awp_seq (rg0 [0, 1] 0 ⟨26, [(0, sL 5 c_TRedist a0), (1, sL 5 c_TRedist a1)], []⟩ ?_)
 refine then_n (awp_seq (awp_seq (rg0 [0, 1, 10] 0 ⟨26, [(0, sL 5 c_TRedist a0), (1, sL 5 c_TRedist a1), (10, .bool ((a0.length : Int) != (a1.length : Int)))], []⟩ ?_)))
 refine then_n ?_
 refine cnd ((a0.length : Int) != (a1.length : Int)) (fun b1 => ?_) (fun b1 => ?_)
 have h2 := cond_t b1 h
 refine awp_seq (rg0 [4] 0 ⟨26, [(4, .bool false)], []⟩ ?_)
 refine then_n (awp_ret (then_r ?_))
 obtain rfl := Option.some.inj h2
 exact er0 (.bool false)
 have h3 := cond_f b1 h
 refine awp_skip (then_n (awp_seq (awp_seq (rg0 [0, 1, 12, 13] 0 ⟨26, [(0, sL 5 c_TRedist a0), (1, sL 5 c_TRedist a1), (12, .int .i64 (a0.length : Int)), (13, .int .i64 0)], []⟩ ?_))))
 refine then_n (awp_block ?_)
 obtain ⟨y3, q13, h14⟩ := bind_some h3
 refine awp_le (s' := ⟨26, [(0, sL 5 c_TRedist a0), (1, sL 5 c_TRedist a1), (12, .int .i64 (a0.length : Int)), (13, .int .i64 0)], []⟩) (le_rfl) ?_
 refine awp_mono (awp_loop (f := M.slices_Equal_api_Redist_api_Redist_l1 a0 a1) (S := fun (p1 : Int) => ⟨26, [(0, sL 5 c_TRedist a0), (1, sL 5 c_TRedist a1), (12, .int .i64 (a0.length : Int)), (13, .int .i64 p1)], []⟩) (O := (Sum.elim (fun z => OutE 0 (fun z => ⟨26, [], []⟩) z) (fun z => OutR Try.prog Try.f74 (.bool z)))) ?_ (x := 0) (y := y3) (loopM_iter q13)) ?_
 intro p1 y2 h4
 unfold M.slices_Equal_api_Redist_api_Redist_l1 at h4
 refine awp_seq (rg0 [0, 1, 12, 13, 14] 0 ⟨26, [(0, sL 5 c_TRedist a0), (1, sL 5 c_TRedist a1), (12, .int .i64 (a0.length : Int)), (13, .int .i64 p1), (14, .bool (decide (p1 < (a0.length : Int))))], []⟩ ?_)
 refine then_n (awp_seq ?_)
 refine cnd (decide (p1 < (a0.length : Int))) (fun b5 => ?_) (fun b5 => ?_)
 have h6 := cond_t b5 h4
 refine awp_skip (then_n (awp_seq (awp_block (awp_seq (rg0 [0, 1, 5, 12, 13] 0 ⟨26, [(0, sL 5 c_TRedist a0), (1, sL 5 c_TRedist a1), (5, .int .i64 p1), (12, .int .i64 (a0.length : Int)), (13, .int .i64 p1)], []⟩ ?_)))))
 refine then_n (awp_seq ?_)
 obtain ⟨c8, h9⟩ := gd_some h6
 refine rgc [0, 1, 12, 13, 24] 0 ⟨26, [(0, sL 5 c_TRedist a0), (1, sL 5 c_TRedist a1), (12, .int .i64 (a0.length : Int)), (13, .int .i64 p1), (24, .bool (!((((a0.getD p1.toNat default).fFrom) == ((a1.getD p1.toNat default).fFrom)) && ((((a0.getD p1.toNat default).fMetric) == ((a1.getD p1.toNat default).fMetric)) && ((((a0.getD p1.toNat default).fTag) == ((a1.getD p1.toNat default).fTag)) && (strEq ((a0.getD p1.toNat default).fMap) ((a1.getD p1.toNat default).fMap) && ((((a0.getD p1.toNat default).fType) == ((a1.getD p1.toNat default).fType)) && true)))))))], []⟩ [decide (0 ≤ p1), decide (p1 < (a0.length : Int)), decide (0 ≤ p1), decide (p1 < (a1.length : Int))] c8 ?_
 refine then_n ?_
 refine cnd (!((((a0.getD p1.toNat default).fFrom) == ((a1.getD p1.toNat default).fFrom)) && ((((a0.getD p1.toNat default).fMetric) == ((a1.getD p1.toNat default).fMetric)) && ((((a0.getD p1.toNat default).fTag) == ((a1.getD p1.toNat default).fTag)) && (strEq ((a0.getD p1.toNat default).fMap) ((a1.getD p1.toNat default).fMap) && ((((a0.getD p1.toNat default).fType) == ((a1.getD p1.toNat default).fType)) && true)))))) (fun b10 => ?_) (fun b10 => ?_)
 have h11 := cond_t b10 h9
 refine awp_seq (rg0 [4] 0 ⟨26, [(4, .bool false)], []⟩ ?_)
 refine then_n (awp_ret (inb_r (then_r ?_)))
 obtain rfl := Option.some.inj h11
 exact round_r ⟨rfl, er0 (.bool false)⟩
 have h12 := cond_f b10 h9
 refine awp_skip (inb_n (then_n (rg0 [0, 1, 12, 13] 0 ⟨26, [(0, sL 5 c_TRedist a0), (1, sL 5 c_TRedist a1), (12, .int .i64 (a0.length : Int)), (13, .int .i64 (wr .i64 (p1 + 1)))], []⟩ ?_)))
 obtain rfl := Option.some.inj h12
 exact round_n (le_rfl)
 have h7 := cond_f b5 h4
 refine awp_exit (then_e ?_)
 obtain rfl := Option.some.inj h7
 exact round_e ⟨rfl, kp []⟩
 intro e15 s16 o17
 rcases y3 with g4 | y5
 have h18 := elim_l h14
 obtain ⟨rfl, l20⟩ := o17
 refine inb_here ?_
 refine then_le (s' := ⟨26, [], []⟩) (l20) ?_
 refine awp_seq (rg0 [4] 0 ⟨26, [(4, .bool true)], []⟩ ?_)
 refine then_n (awp_ret ?_)
 obtain rfl := Option.some.inj h18
 exact er0 (.bool true)
 have h19 := elim_r h14
 obtain ⟨rfl, n21⟩ := o17
 refine inb_r (then_r ?_)
 obtain rfl := Option.some.inj h19
 exact n21

/- netverify/model.sameLinkState -/
theorem model_sameLinkState_ok (a0 : TLinkState) (a1 : TLinkState) (r : Bool) (h : M.model_sameLinkState a0 a1 = some r) : Fn Try.prog 41 [.agg (c_TLinkState a0), .agg (c_TLinkState a1)] (.pure (.bool r)) := by
 unfold M.model_sameLinkState at h
 refine fn_pure Try.func41 rfl (by kernel_rfl) ?_
 refine awp_seq (rg0 [2, 3] 2 ⟨31, [(2, .ref 0 0), (3, .ref 1 0)], [.box (c_TLinkState a0), .box (c_TLinkState a1)]⟩ ?_)
 refine then_n (awp_seq ?_)
 obtain ⟨r1, q1, h2⟩ := bind_some h
 obtain ⟨r2, q3, h4⟩ := bind_some h2
 refine rg [.pure (.bool r1), .pure (.bool r2)] [4] 0 ⟨31, [(4, .bool ((((a0.fOn == a1.fOn) && (a0.fAdmin == a1.fAdmin)) && r1) && r2))], []⟩ [] [⟨(a0.fOn == a1.fOn) && (a0.fAdmin == a1.fAdmin), 73, [sL 3 c_TAreaRange a0.fRanges, sL 3 c_TAreaRange a1.fRanges], .pure (.bool r1)⟩, ⟨((a0.fOn == a1.fOn) && (a0.fAdmin == a1.fAdmin)) && r1, 74, [sL 5 c_TRedist a0.fRedist, sL 5 c_TRedist a1.fRedist], .pure (.bool r2)⟩] nil_all ⟨fun hg => slices_Equal_api_AreaRange_api_AreaRange_ok a0.fRanges a1.fRanges r1 (gc_some q1 hg), fun hg => slices_Equal_api_Redist_api_Redist_ok a0.fRedist a1.fRedist r2 (gc_some q3 hg), trivial⟩ ?_
 refine then_n (awp_ret ?_)
 obtain rfl := Option.some.inj h4
 exact er0 (.bool ((((a0.fOn == a1.fOn) && (a0.fAdmin == a1.fAdmin)) && r1) && r2))

/- netverify/model.sameDistanceVector -/
theorem model_sameDistanceVector_ok (a0 : TDistanceVector) (a1 : TDistanceVector) (r : Bool) (h : M.model_sameDistanceVector a0 a1 = some r) : Fn Try.prog 42 [.agg (c_TDistanceVector a0), .agg (c_TDistanceVector a1)] (.pure (.bool r)) := by
 unfold M.model_sameDistanceVector at h
 refine fn_pure Try.func42 rfl (by kernel_rfl) ?_
 refine awp_seq (rg0 [2, 3] 2 ⟨38, [(2, .ref 0 0), (3, .ref 1 0)], [.box (c_TDistanceVector a0), .box (c_TDistanceVector a1)]⟩ ?_)
 refine then_n (awp_seq ?_)
 obtain ⟨r1, q1, h2⟩ := bind_some h
 refine rg [.pure (.bool r1)] [4] 0 ⟨38, [(4, .bool (((((a0.fOn == a1.fOn) && (a0.fAdmin == a1.fAdmin)) && (strEq a0.fIn a1.fIn)) && (strEq a0.fOut a1.fOut)) && r1))], []⟩ [] [⟨(((a0.fOn == a1.fOn) && (a0.fAdmin == a1.fAdmin)) && (strEq a0.fIn a1.fIn)) && (strEq a0.fOut a1.fOut), 74, [sL 5 c_TRedist a0.fRedist, sL 5 c_TRedist a1.fRedist], .pure (.bool r1)⟩] nil_all ⟨fun hg => slices_Equal_api_Redist_api_Redist_ok a0.fRedist a1.fRedist r1 (gc_some q1 hg), trivial⟩ ?_
 refine then_n (awp_ret ?_)
 obtain rfl := Option.some.inj h2
 exact er0 (.bool (((((a0.fOn == a1.fOn) && (a0.fAdmin == a1.fAdmin)) && (strEq a0.fIn a1.fIn)) && (strEq a0.fOut a1.fOut)) && r1))

/- slices.Equal[[]netverify/api.Neighbor,netverify/api.Neighbor] -/
theorem slices_Equal_api_Neighbor_api_Neighbor_ok (a0 : List TNeighbor) (a1 : List TNeighbor) (r : Bool) (h : M.slices_Equal_api_Neighbor_api_Neighbor a0 a1 = some r) : Fn Try.prog 75 [sL 4 c_TNeighbor a0, sL 4 c_TNeighbor a1] (.pure (.bool r)) := by
 unfold M.slices_Equal_api_Neighbor_api_Neighbor at h
 refine fn_pure Try.func75 rfl (by kernel_rfl) ?_
 refine awp_seq (rg0 [0, 1] 0 ⟨26, [(0, sL 4 c_TNeighbor a0), (1, sL 4 c_TNeighbor a1)], []⟩ ?_)
 refine then_n (awp_seq (awp_seq (rg0 [0, 1, 10] 0 ⟨26, [(0, sL 4 c_TNeighbor a0), (1, sL 4 c_TNeighbor a1), (10, .bool ((a0.length : Int) != (a1.length : Int)))], []⟩ ?_)))
 refine then_n ?_
 refine cnd ((a0.length : Int) != (a1.length : Int)) (fun b1 => ?_) (fun b1 => ?_)
 have h2 := cond_t b1 h
 refine awp_seq (rg0 [4] 0 ⟨26, [(4, .bool false)], []⟩ ?_)
 refine then_n (awp_ret (then_r ?_))
 obtain rfl := Option.some.inj h2
 exact er0 (.bool false)
 have h3 := cond_f b1 h
 refine awp_skip (then_n (awp_seq (awp_seq (rg0 [0, 1, 12, 13] 0 ⟨26, [(0, sL 4 c_TNeighbor a0), (1, sL 4 c_TNeighbor a1), (12, .int .i64 (a0.length : Int)), (13, .int .i64 0)], []⟩ ?_))))
 refine then_n (awp_block ?_)
 obtain ⟨y3, q13, h14⟩ := bind_some h3
 refine awp_le (s' := ⟨26, [(0, sL 4 c_TNeighbor a0), (1, sL 4 c_TNeighbor a1), (12, .int .i64 (a0.length : Int)), (13, .int .i64 0)], []⟩) (le_rfl) ?_
 refine awp_mono (awp_loop (f := M.slices_Equal_api_Neighbor_api_Neighbor_l1 a0 a1) (S := fun (p1 : Int) => ⟨26, [(0, sL 4 c_TNeighbor a0), (1, sL 4 c_TNeighbor a1), (12, .int .i64 (a0.length : Int)), (13, .int .i64 p1)], []⟩) (O := (Sum.elim (fun z => OutE 0 (fun z => ⟨26, [], []⟩) z) (fun z => OutR Try.prog Try.f75 (.bool z)))) ?_ (x := 0) (y := y3) (loopM_iter q13)) ?_
 intro p1 y2 h4
 unfold M.slices_Equal_api_Neighbor_api_Neighbor_l1 at h4
 refine awp_seq (rg0 [0, 1, 12, 13, 14] 0 ⟨26, [(0, sL 4 c_TNeighbor a0), (1, sL 4 c_TNeighbor a1), (12, .int .i64 (a0.length : Int)), (13, .int .i64 p1), (14, .bool (decide (p1 < (a0.length : Int))))], []⟩ ?_)
 refine then_n (awp_seq ?_)
 refine cnd (decide (p1 < (a0.length : Int))) (fun b5 => ?_) (fun b5 => ?_)
 have h6 := cond_t b5 h4
 refine awp_skip (then_n (awp_seq (awp_block (awp_seq (rg0 [0, 1, 5, 12, 13] 0 ⟨26, [(0, sL 4 c_TNeighbor a0), (1, sL 4 c_TNeighbor a1), (5, .int .i64 p1), (12, .int .i64 (a0.length : Int)), (13, .int .i64 p1)], []⟩ ?_)))))
 refine then_n (awp_seq ?_)
 obtain ⟨c8, h9⟩ := gd_some h6
 refine rgc [0, 1, 12, 13, 24] 0 ⟨26, [(0, sL 4 c_TNeighbor a0), (1, sL 4 c_TNeighbor a1), (12, .int .i64 (a0.length : Int)), (13, .int .i64 p1), (24, .bool (!((((a0.getD p1.toNat default).fAddr) == ((a1.getD p1.toNat default).fAddr)) && ((((a0.getD p1.toNat default).fAS) == ((a1.getD p1.toNat default).fAS)) && (strEq ((a0.getD p1.toNat default).fIn) ((a1.getD p1.toNat default).fIn) && (strEq ((a0.getD p1.toNat default).fOut) ((a1.getD p1.toNat default).fOut) && true))))))], []⟩ [decide (0 ≤ p1), decide (p1 < (a0.length : Int)), decide (0 ≤ p1), decide (p1 < (a1.length : Int))] c8 ?_
 refine then_n ?_
 refine cnd (!((((a0.getD p1.toNat default).fAddr) == ((a1.getD p1.toNat default).fAddr)) && ((((a0.getD p1.toNat default).fAS) == ((a1.getD p1.toNat default).fAS)) && (strEq ((a0.getD p1.toNat default).fIn) ((a1.getD p1.toNat default).fIn) && (strEq ((a0.getD p1.toNat default).fOut) ((a1.getD p1.toNat default).fOut) && true))))) (fun b10 => ?_) (fun b10 => ?_)
 have h11 := cond_t b10 h9
 refine awp_seq (rg0 [4] 0 ⟨26, [(4, .bool false)], []⟩ ?_)
 refine then_n (awp_ret (inb_r (then_r ?_)))
 obtain rfl := Option.some.inj h11
 exact round_r ⟨rfl, er0 (.bool false)⟩
 have h12 := cond_f b10 h9
 refine awp_skip (inb_n (then_n (rg0 [0, 1, 12, 13] 0 ⟨26, [(0, sL 4 c_TNeighbor a0), (1, sL 4 c_TNeighbor a1), (12, .int .i64 (a0.length : Int)), (13, .int .i64 (wr .i64 (p1 + 1)))], []⟩ ?_)))
 obtain rfl := Option.some.inj h12
 exact round_n (le_rfl)
 have h7 := cond_f b5 h4
 refine awp_exit (then_e ?_)
 obtain rfl := Option.some.inj h7
 exact round_e ⟨rfl, kp []⟩
 intro e15 s16 o17
 rcases y3 with g4 | y5
 have h18 := elim_l h14
 obtain ⟨rfl, l20⟩ := o17
 refine inb_here ?_
 refine then_le (s' := ⟨26, [], []⟩) (l20) ?_
 refine awp_seq (rg0 [4] 0 ⟨26, [(4, .bool true)], []⟩ ?_)
 refine then_n (awp_ret ?_)
 obtain rfl := Option.some.inj h18
 exact er0 (.bool true)
 have h19 := elim_r h14
 obtain ⟨rfl, n21⟩ := o17
 refine inb_r (then_r ?_)
 obtain rfl := Option.some.inj h19
 exact n21

/- slices.Equal[[]netverify/api.Prefix,netverify/api.Prefix] -/
theorem slices_Equal_api_Prefix_api_Prefix_ok (a0 : List TPrefix) (a1 : List TPrefix) (r : Bool) (h : M.slices_Equal_api_Prefix_api_Prefix a0 a1 = some r) : Fn Try.prog 76 [sL 2 c_TPrefix a0, sL 2 c_TPrefix a1] (.pure (.bool r)) := by
 unfold M.slices_Equal_api_Prefix_api_Prefix at h
 refine fn_pure Try.func76 rfl (by kernel_rfl) ?_
 refine awp_seq (rg0 [0, 1] 0 ⟨26, [(0, sL 2 c_TPrefix a0), (1, sL 2 c_TPrefix a1)], []⟩ ?_)
 refine then_n (awp_seq (awp_seq (rg0 [0, 1, 10] 0 ⟨26, [(0, sL 2 c_TPrefix a0), (1, sL 2 c_TPrefix a1), (10, .bool ((a0.length : Int) != (a1.length : Int)))], []⟩ ?_)))
 refine then_n ?_
 refine cnd ((a0.length : Int) != (a1.length : Int)) (fun b1 => ?_) (fun b1 => ?_)
 have h2 := cond_t b1 h
 refine awp_seq (rg0 [4] 0 ⟨26, [(4, .bool false)], []⟩ ?_)
 refine then_n (awp_ret (then_r ?_))
 obtain rfl := Option.some.inj h2
 exact er0 (.bool false)
 have h3 := cond_f b1 h
 refine awp_skip (then_n (awp_seq (awp_seq (rg0 [0, 1, 12, 13] 0 ⟨26, [(0, sL 2 c_TPrefix a0), (1, sL 2 c_TPrefix a1), (12, .int .i64 (a0.length : Int)), (13, .int .i64 0)], []⟩ ?_))))
 refine then_n (awp_block ?_)
 obtain ⟨y3, q13, h14⟩ := bind_some h3
 refine awp_le (s' := ⟨26, [(0, sL 2 c_TPrefix a0), (1, sL 2 c_TPrefix a1), (12, .int .i64 (a0.length : Int)), (13, .int .i64 0)], []⟩) (le_rfl) ?_
 refine awp_mono (awp_loop (f := M.slices_Equal_api_Prefix_api_Prefix_l1 a0 a1) (S := fun (p1 : Int) => ⟨26, [(0, sL 2 c_TPrefix a0), (1, sL 2 c_TPrefix a1), (12, .int .i64 (a0.length : Int)), (13, .int .i64 p1)], []⟩) (O := (Sum.elim (fun z => OutE 0 (fun z => ⟨26, [], []⟩) z) (fun z => OutR Try.prog Try.f76 (.bool z)))) ?_ (x := 0) (y := y3) (loopM_iter q13)) ?_
 intro p1 y2 h4
 unfold M.slices_Equal_api_Prefix_api_Prefix_l1 at h4
 refine awp_seq (rg0 [0, 1, 12, 13, 14] 0 ⟨26, [(0, sL 2 c_TPrefix a0), (1, sL 2 c_TPrefix a1), (12, .int .i64 (a0.length : Int)), (13, .int .i64 p1), (14, .bool (decide (p1 < (a0.length : Int))))], []⟩ ?_)
 refine then_n (awp_seq ?_)
 refine cnd (decide (p1 < (a0.length : Int))) (fun b5 => ?_) (fun b5 => ?_)
 have h6 := cond_t b5 h4
 refine awp_skip (then_n (awp_seq (awp_block (awp_seq (rg0 [0, 1, 5, 12, 13] 0 ⟨26, [(0, sL 2 c_TPrefix a0), (1, sL 2 c_TPrefix a1), (5, .int .i64 p1), (12, .int .i64 (a0.length : Int)), (13, .int .i64 p1)], []⟩ ?_)))))
 refine then_n (awp_seq ?_)
 obtain ⟨c8, h9⟩ := gd_some h6
 refine rgc [0, 1, 12, 13, 24] 0 ⟨26, [(0, sL 2 c_TPrefix a0), (1, sL 2 c_TPrefix a1), (12, .int .i64 (a0.length : Int)), (13, .int .i64 p1), (24, .bool (!((((a0.getD p1.toNat default).fAddr) == ((a1.getD p1.toNat default).fAddr)) && ((((a0.getD p1.toNat default).fLen) == ((a1.getD p1.toNat default).fLen)) && true))))], []⟩ [decide (0 ≤ p1), decide (p1 < (a0.length : Int)), decide (0 ≤ p1), decide (p1 < (a1.length : Int))] c8 ?_
 refine then_n ?_
 refine cnd (!((((a0.getD p1.toNat default).fAddr) == ((a1.getD p1.toNat default).fAddr)) && ((((a0.getD p1.toNat default).fLen) == ((a1.getD p1.toNat default).fLen)) && true))) (fun b10 => ?_) (fun b10 => ?_)
 have h11 := cond_t b10 h9
 refine awp_seq (rg0 [4] 0 ⟨26, [(4, .bool false)], []⟩ ?_)
 refine then_n (awp_ret (inb_r (then_r ?_)))
 obtain rfl := Option.some.inj h11
 exact round_r ⟨rfl, er0 (.bool false)⟩
 have h12 := cond_f b10 h9
 refine awp_skip (inb_n (then_n (rg0 [0, 1, 12, 13] 0 ⟨26, [(0, sL 2 c_TPrefix a0), (1, sL 2 c_TPrefix a1), (12, .int .i64 (a0.length : Int)), (13, .int .i64 (wr .i64 (p1 + 1)))], []⟩ ?_)))
 obtain rfl := Option.some.inj h12
 exact round_n (le_rfl)
 have h7 := cond_f b5 h4
 refine awp_exit (then_e ?_)
 obtain rfl := Option.some.inj h7
 exact round_e ⟨rfl, kp []⟩
 intro e15 s16 o17
 rcases y3 with g4 | y5
 have h18 := elim_l h14
 obtain ⟨rfl, l20⟩ := o17
 refine inb_here ?_
 refine then_le (s' := ⟨26, [], []⟩) (l20) ?_
 refine awp_seq (rg0 [4] 0 ⟨26, [(4, .bool true)], []⟩ ?_)
 refine then_n (awp_ret ?_)
 obtain rfl := Option.some.inj h18
 exact er0 (.bool true)
 have h19 := elim_r h14
 obtain ⟨rfl, n21⟩ := o17
 refine inb_r (then_r ?_)
 obtain rfl := Option.some.inj h19
 exact n21

/- slices.Equal[[]netverify/api.Aggregate,netverify/api.Aggregate] -/
theorem slices_Equal_api_Aggregate_api_Aggregate_ok (a0 : List TAggregate) (a1 : List TAggregate) (r : Bool) (h : M.slices_Equal_api_Aggregate_api_Aggregate a0 a1 = some r) : Fn Try.prog 77 [sL 3 c_TAggregate a0, sL 3 c_TAggregate a1] (.pure (.bool r)) := by
 unfold M.slices_Equal_api_Aggregate_api_Aggregate at h
 refine fn_pure Try.func77 rfl (by kernel_rfl) ?_
 refine awp_seq (rg0 [0, 1] 0 ⟨26, [(0, sL 3 c_TAggregate a0), (1, sL 3 c_TAggregate a1)], []⟩ ?_)
 refine then_n (awp_seq (awp_seq (rg0 [0, 1, 10] 0 ⟨26, [(0, sL 3 c_TAggregate a0), (1, sL 3 c_TAggregate a1), (10, .bool ((a0.length : Int) != (a1.length : Int)))], []⟩ ?_)))
 refine then_n ?_
 refine cnd ((a0.length : Int) != (a1.length : Int)) (fun b1 => ?_) (fun b1 => ?_)
 have h2 := cond_t b1 h
 refine awp_seq (rg0 [4] 0 ⟨26, [(4, .bool false)], []⟩ ?_)
 refine then_n (awp_ret (then_r ?_))
 obtain rfl := Option.some.inj h2
 exact er0 (.bool false)
 have h3 := cond_f b1 h
 refine awp_skip (then_n (awp_seq (awp_seq (rg0 [0, 1, 12, 13] 0 ⟨26, [(0, sL 3 c_TAggregate a0), (1, sL 3 c_TAggregate a1), (12, .int .i64 (a0.length : Int)), (13, .int .i64 0)], []⟩ ?_))))
 refine then_n (awp_block ?_)
 obtain ⟨y3, q13, h14⟩ := bind_some h3
 refine awp_le (s' := ⟨26, [(0, sL 3 c_TAggregate a0), (1, sL 3 c_TAggregate a1), (12, .int .i64 (a0.length : Int)), (13, .int .i64 0)], []⟩) (le_rfl) ?_
 refine awp_mono (awp_loop (f := M.slices_Equal_api_Aggregate_api_Aggregate_l1 a0 a1) (S := fun (p1 : Int) => ⟨26, [(0, sL 3 c_TAggregate a0), (1, sL 3 c_TAggregate a1), (12, .int .i64 (a0.length : Int)), (13, .int .i64 p1)], []⟩) (O := (Sum.elim (fun z => OutE 0 (fun z => ⟨26, [], []⟩) z) (fun z => OutR Try.prog Try.f77 (.bool z)))) ?_ (x := 0) (y := y3) (loopM_iter q13)) ?_
 intro p1 y2 h4
 unfold M.slices_Equal_api_Aggregate_api_Aggregate_l1 at h4
 refine awp_seq (rg0 [0, 1, 12, 13, 14] 0 ⟨26, [(0, sL 3 c_TAggregate a0), (1, sL 3 c_TAggregate a1), (12, .int .i64 (a0.length : Int)), (13, .int .i64 p1), (14, .bool (decide (p1 < (a0.length : Int))))], []⟩ ?_)
 refine then_n (awp_seq ?_)
 refine cnd (decide (p1 < (a0.length : Int))) (fun b5 => ?_) (fun b5 => ?_)
 have h6 := cond_t b5 h4
 refine awp_skip (then_n (awp_seq (awp_block (awp_seq (rg0 [0, 1, 5, 12, 13] 0 ⟨26, [(0, sL 3 c_TAggregate a0), (1, sL 3 c_TAggregate a1), (5, .int .i64 p1), (12, .int .i64 (a0.length : Int)), (13, .int .i64 p1)], []⟩ ?_)))))
 refine then_n (awp_seq ?_)
 obtain ⟨c8, h9⟩ := gd_some h6
 refine rgc [0, 1, 12, 13, 24] 0 ⟨26, [(0, sL 3 c_TAggregate a0), (1, sL 3 c_TAggregate a1), (12, .int .i64 (a0.length : Int)), (13, .int .i64 p1), (24, .bool (!((((((a0.getD p1.toNat default).fPrefix).fAddr) == (((a1.getD p1.toNat default).fPrefix).fAddr)) && (((((a0.getD p1.toNat default).fPrefix).fLen) == (((a1.getD p1.toNat default).fPrefix).fLen)) && true)) && ((((a0.getD p1.toNat default).fOnly) == ((a1.getD p1.toNat default).fOnly)) && true))))], []⟩ [decide (0 ≤ p1), decide (p1 < (a0.length : Int)), decide (0 ≤ p1), decide (p1 < (a1.length : Int))] c8 ?_
 refine then_n ?_
 refine cnd (!((((((a0.getD p1.toNat default).fPrefix).fAddr) == (((a1.getD p1.toNat default).fPrefix).fAddr)) && (((((a0.getD p1.toNat default).fPrefix).fLen) == (((a1.getD p1.toNat default).fPrefix).fLen)) && true)) && ((((a0.getD p1.toNat default).fOnly) == ((a1.getD p1.toNat default).fOnly)) && true))) (fun b10 => ?_) (fun b10 => ?_)
 have h11 := cond_t b10 h9
 refine awp_seq (rg0 [4] 0 ⟨26, [(4, .bool false)], []⟩ ?_)
 refine then_n (awp_ret (inb_r (then_r ?_)))
 obtain rfl := Option.some.inj h11
 exact round_r ⟨rfl, er0 (.bool false)⟩
 have h12 := cond_f b10 h9
 refine awp_skip (inb_n (then_n (rg0 [0, 1, 12, 13] 0 ⟨26, [(0, sL 3 c_TAggregate a0), (1, sL 3 c_TAggregate a1), (12, .int .i64 (a0.length : Int)), (13, .int .i64 (wr .i64 (p1 + 1)))], []⟩ ?_)))
 obtain rfl := Option.some.inj h12
 exact round_n (le_rfl)
 have h7 := cond_f b5 h4
 refine awp_exit (then_e ?_)
 obtain rfl := Option.some.inj h7
 exact round_e ⟨rfl, kp []⟩
 intro e15 s16 o17
 rcases y3 with g4 | y5
 have h18 := elim_l h14
 obtain ⟨rfl, l20⟩ := o17
 refine inb_here ?_
 refine then_le (s' := ⟨26, [], []⟩) (l20) ?_
 refine awp_seq (rg0 [4] 0 ⟨26, [(4, .bool true)], []⟩ ?_)
 refine then_n (awp_ret ?_)
 obtain rfl := Option.some.inj h18
 exact er0 (.bool true)
 have h19 := elim_r h14
 obtain ⟨rfl, n21⟩ := o17
 refine inb_r (then_r ?_)
 obtain rfl := Option.some.inj h19
 exact n21

/- slices.Equal[[]netverify/api.Condition,netverify/api.Condition] -/
theorem slices_Equal_api_Condition_api_Condition_ok (a0 : List TCondition) (a1 : List TCondition) (r : Bool) (h : M.slices_Equal_api_Condition_api_Condition a0 a1 = some r) : Fn Try.prog 78 [sL 5 c_TCondition a0, sL 5 c_TCondition a1] (.pure (.bool r)) := by
 unfold M.slices_Equal_api_Condition_api_Condition at h
 refine fn_pure Try.func78 rfl (by kernel_rfl) ?_
 refine awp_seq (rg0 [0, 1] 0 ⟨26, [(0, sL 5 c_TCondition a0), (1, sL 5 c_TCondition a1)], []⟩ ?_)
 refine then_n (awp_seq (awp_seq (rg0 [0, 1, 10] 0 ⟨26, [(0, sL 5 c_TCondition a0), (1, sL 5 c_TCondition a1), (10, .bool ((a0.length : Int) != (a1.length : Int)))], []⟩ ?_)))
 refine then_n ?_
 refine cnd ((a0.length : Int) != (a1.length : Int)) (fun b1 => ?_) (fun b1 => ?_)
 have h2 := cond_t b1 h
 refine awp_seq (rg0 [4] 0 ⟨26, [(4, .bool false)], []⟩ ?_)
 refine then_n (awp_ret (then_r ?_))
 obtain rfl := Option.some.inj h2
 exact er0 (.bool false)
 have h3 := cond_f b1 h
 refine awp_skip (then_n (awp_seq (awp_seq (rg0 [0, 1, 12, 13] 0 ⟨26, [(0, sL 5 c_TCondition a0), (1, sL 5 c_TCondition a1), (12, .int .i64 (a0.length : Int)), (13, .int .i64 0)], []⟩ ?_))))
 refine then_n (awp_block ?_)
 obtain ⟨y3, q13, h14⟩ := bind_some h3
 refine awp_le (s' := ⟨26, [(0, sL 5 c_TCondition a0), (1, sL 5 c_TCondition a1), (12, .int .i64 (a0.length : Int)), (13, .int .i64 0)], []⟩) (le_rfl) ?_
 refine awp_mono (awp_loop (f := M.slices_Equal_api_Condition_api_Condition_l1 a0 a1) (S := fun (p1 : Int) => ⟨26, [(0, sL 5 c_TCondition a0), (1, sL 5 c_TCondition a1), (12, .int .i64 (a0.length : Int)), (13, .int .i64 p1)], []⟩) (O := (Sum.elim (fun z => OutE 0 (fun z => ⟨26, [], []⟩) z) (fun z => OutR Try.prog Try.f78 (.bool z)))) ?_ (x := 0) (y := y3) (loopM_iter q13)) ?_
 intro p1 y2 h4
 unfold M.slices_Equal_api_Condition_api_Condition_l1 at h4
 refine awp_seq (rg0 [0, 1, 12, 13, 14] 0 ⟨26, [(0, sL 5 c_TCondition a0), (1, sL 5 c_TCondition a1), (12, .int .i64 (a0.length : Int)), (13, .int .i64 p1), (14, .bool (decide (p1 < (a0.length : Int))))], []⟩ ?_)
 refine then_n (awp_seq ?_)
 refine cnd (decide (p1 < (a0.length : Int))) (fun b5 => ?_) (fun b5 => ?_)
 have h6 := cond_t b5 h4
 refine awp_skip (then_n (awp_seq (awp_block (awp_seq (rg0 [0, 1, 5, 12, 13] 0 ⟨26, [(0, sL 5 c_TCondition a0), (1, sL 5 c_TCondition a1), (5, .int .i64 p1), (12, .int .i64 (a0.length : Int)), (13, .int .i64 p1)], []⟩ ?_)))))
 refine then_n (awp_seq ?_)
 obtain ⟨c8, h9⟩ := gd_some h6
 refine rgc [0, 1, 12, 13, 24] 0 ⟨26, [(0, sL 5 c_TCondition a0), (1, sL 5 c_TCondition a1), (12, .int .i64 (a0.length : Int)), (13, .int .i64 p1), (24, .bool (!((((((a0.getD p1.toNat default).fPrefix).fAddr) == (((a1.getD p1.toNat default).fPrefix).fAddr)) && (((((a0.getD p1.toNat default).fPrefix).fLen) == (((a1.getD p1.toNat default).fPrefix).fLen)) && true)) && ((((((a0.getD p1.toNat default).fIf).fAddr) == (((a1.getD p1.toNat default).fIf).fAddr)) && (((((a0.getD p1.toNat default).fIf).fLen) == (((a1.getD p1.toNat default).fIf).fLen)) && true)) && ((((a0.getD p1.toNat default).fAbsent) == ((a1.getD p1.toNat default).fAbsent)) && true)))))], []⟩ [decide (0 ≤ p1), decide (p1 < (a0.length : Int)), decide (0 ≤ p1), decide (p1 < (a1.length : Int))] c8 ?_
 refine then_n ?_
 refine cnd (!((((((a0.getD p1.toNat default).fPrefix).fAddr) == (((a1.getD p1.toNat default).fPrefix).fAddr)) && (((((a0.getD p1.toNat default).fPrefix).fLen) == (((a1.getD p1.toNat default).fPrefix).fLen)) && true)) && ((((((a0.getD p1.toNat default).fIf).fAddr) == (((a1.getD p1.toNat default).fIf).fAddr)) && (((((a0.getD p1.toNat default).fIf).fLen) == (((a1.getD p1.toNat default).fIf).fLen)) && true)) && ((((a0.getD p1.toNat default).fAbsent) == ((a1.getD p1.toNat default).fAbsent)) && true)))) (fun b10 => ?_) (fun b10 => ?_)
 have h11 := cond_t b10 h9
 refine awp_seq (rg0 [4] 0 ⟨26, [(4, .bool false)], []⟩ ?_)
 refine then_n (awp_ret (inb_r (then_r ?_)))
 obtain rfl := Option.some.inj h11
 exact round_r ⟨rfl, er0 (.bool false)⟩
 have h12 := cond_f b10 h9
 refine awp_skip (inb_n (then_n (rg0 [0, 1, 12, 13] 0 ⟨26, [(0, sL 5 c_TCondition a0), (1, sL 5 c_TCondition a1), (12, .int .i64 (a0.length : Int)), (13, .int .i64 (wr .i64 (p1 + 1)))], []⟩ ?_)))
 obtain rfl := Option.some.inj h12
 exact round_n (le_rfl)
 have h7 := cond_f b5 h4
 refine awp_exit (then_e ?_)
 obtain rfl := Option.some.inj h7
 exact round_e ⟨rfl, kp []⟩
 intro e15 s16 o17
 rcases y3 with g4 | y5
 have h18 := elim_l h14
 obtain ⟨rfl, l20⟩ := o17
 refine inb_here ?_
 refine then_le (s' := ⟨26, [], []⟩) (l20) ?_
 refine awp_seq (rg0 [4] 0 ⟨26, [(4, .bool true)], []⟩ ?_)
 refine then_n (awp_ret ?_)
 obtain rfl := Option.some.inj h18
 exact er0 (.bool true)
 have h19 := elim_r h14
 obtain ⟨rfl, n21⟩ := o17
 refine inb_r (then_r ?_)
 obtain rfl := Option.some.inj h19
 exact n21

/- netverify/model.samePathVector -/
theorem model_samePathVector_ok (a0 : TPathVector) (a1 : TPathVector) (r : Bool) (h : M.model_samePathVector a0 a1 = some r) : Fn Try.prog 43 [.agg (c_TPathVector a0), .agg (c_TPathVector a1)] (.pure (.bool r)) := by
 unfold M.model_samePathVector at h
 refine fn_pure Try.func43 rfl (by kernel_rfl) ?_
 refine awp_seq (rg0 [2, 3] 2 ⟨59, [(2, .ref 0 0), (3, .ref 1 0)], [.box (c_TPathVector a0), .box (c_TPathVector a1)]⟩ ?_)
 refine then_n (awp_seq ?_)
 obtain ⟨r1, q1, h2⟩ := bind_some h
 obtain ⟨r2, q3, h4⟩ := bind_some h2
 obtain ⟨r3, q5, h6⟩ := bind_some h4
 obtain ⟨r4, q7, h8⟩ := bind_some h6
 obtain ⟨r5, q9, h10⟩ := bind_some h8
 refine rg [.pure (.bool r1), .pure (.bool r2), .pure (.bool r3), .pure (.bool r4), .pure (.bool r5)] [4] 0 ⟨59, [(4, .bool ((((((((a0.fOn == a1.fOn) && (a0.fExternal == a1.fExternal)) && (a0.fInternal == a1.fInternal)) && r1) && r2) && r3) && r4) && r5))], []⟩ [] [⟨((a0.fOn == a1.fOn) && (a0.fExternal == a1.fExternal)) && (a0.fInternal == a1.fInternal), 75, [sL 4 c_TNeighbor a0.fNeighbors, sL 4 c_TNeighbor a1.fNeighbors], .pure (.bool r1)⟩, ⟨(((a0.fOn == a1.fOn) && (a0.fExternal == a1.fExternal)) && (a0.fInternal == a1.fInternal)) && r1, 76, [sL 2 c_TPrefix a0.fNetworks, sL 2 c_TPrefix a1.fNetworks], .pure (.bool r2)⟩, ⟨((((a0.fOn == a1.fOn) && (a0.fExternal == a1.fExternal)) && (a0.fInternal == a1.fInternal)) && r1) && r2, 77, [sL 3 c_TAggregate a0.fAggregates, sL 3 c_TAggregate a1.fAggregates], .pure (.bool r3)⟩, ⟨(((((a0.fOn == a1.fOn) && (a0.fExternal == a1.fExternal)) && (a0.fInternal == a1.fInternal)) && r1) && r2) && r3, 78, [sL 5 c_TCondition a0.fConditions, sL 5 c_TCondition a1.fConditions], .pure (.bool r4)⟩, ⟨((((((a0.fOn == a1.fOn) && (a0.fExternal == a1.fExternal)) && (a0.fInternal == a1.fInternal)) && r1) && r2) && r3) && r4, 74, [sL 5 c_TRedist a0.fRedist, sL 5 c_TRedist a1.fRedist], .pure (.bool r5)⟩] nil_all ⟨fun hg => slices_Equal_api_Neighbor_api_Neighbor_ok a0.fNeighbors a1.fNeighbors r1 (gc_some q1 hg), fun hg => slices_Equal_api_Prefix_api_Prefix_ok a0.fNetworks a1.fNetworks r2 (gc_some q3 hg), fun hg => slices_Equal_api_Aggregate_api_Aggregate_ok a0.fAggregates a1.fAggregates r3 (gc_some q5 hg), fun hg => slices_Equal_api_Condition_api_Condition_ok a0.fConditions a1.fConditions r4 (gc_some q7 hg), fun hg => slices_Equal_api_Redist_api_Redist_ok a0.fRedist a1.fRedist r5 (gc_some q9 hg), trivial⟩ ?_
 refine then_n (awp_ret ?_)
 obtain rfl := Option.some.inj h10
 exact er0 (.bool ((((((((a0.fOn == a1.fOn) && (a0.fExternal == a1.fExternal)) && (a0.fInternal == a1.fInternal)) && r1) && r2) && r3) && r4) && r5))

/- netverify/model.Same -/
theorem model_Same_ok (a0 : TRouter) (a1 : TRouter) (r : Bool) (h : M.model_Same a0 a1 = some r) : Fn Try.prog 9 [.agg (c_TRouter a0), .agg (c_TRouter a1)] (.pure (.bool r)) := by
 unfold M.model_Same at h
 refine fn_pure Try.func9 rfl (by kernel_rfl) ?_
 refine awp_seq (rg0 [2, 3] 2 ⟨80, [(2, .ref 0 0), (3, .ref 1 0)], [.box (c_TRouter a0), .box (c_TRouter a1)]⟩ ?_)
 refine then_n (awp_seq ?_)
 obtain ⟨r1, q1, h2⟩ := bind_some h
 obtain ⟨r2, q3, h4⟩ := bind_some h2
 obtain ⟨r3, q5, h6⟩ := bind_some h4
 obtain ⟨r4, q7, h8⟩ := bind_some h6
 obtain ⟨r5, q9, h10⟩ := bind_some h8
 obtain ⟨r6, q11, h12⟩ := bind_some h10
 obtain ⟨r7, q13, h14⟩ := bind_some h12
 obtain ⟨r8, q15, h16⟩ := bind_some h14
 obtain ⟨r9, q17, h18⟩ := bind_some h16
 refine rg [.pure (.bool r1), .pure (.bool r2), .pure (.bool r3), .pure (.bool r4), .pure (.bool r5), .pure (.bool r6), .pure (.bool r7), .pure (.bool r8), .pure (.bool r9)] [4] 0 ⟨80, [(4, .bool (((((((((((strEq a0.fName a1.fName) && (a0.fAS == a1.fAS)) && r1) && r2) && r3) && r4) && r5) && r6) && r7) && r8) && r9))], []⟩ [] [⟨(strEq a0.fName a1.fName) && (a0.fAS == a1.fAS), 29, [sL 12 c_TInterface a0.fInterfaces, sL 12 c_TInterface a1.fInterfaces], .pure (.bool r1)⟩, ⟨((strEq a0.fName a1.fName) && (a0.fAS == a1.fAS)) && r1, 30, [sL 2 c_TPrefixList a0.fLists, sL 2 c_TPrefixList a1.fLists, .fn 31 []], .pure (.bool r2)⟩, ⟨(((strEq a0.fName a1.fName) && (a0.fAS == a1.fAS)) && r1) && r2, 33, [sL 2 c_TRouteMap a0.fMaps, sL 2 c_TRouteMap a1.fMaps, .fn 34 []], .pure (.bool r3)⟩, ⟨((((strEq a0.fName a1.fName) && (a0.fAS == a1.fAS)) && r1) && r2) && r3, 36, [sL 2 c_TACL a0.fACLs, sL 2 c_TACL a1.fACLs, .fn 37 []], .pure (.bool r4)⟩, ⟨(((((strEq a0.fName a1.fName) && (a0.fAS == a1.fAS)) && r1) && r2) && r3) && r4, 39, [sL 9 c_TTranslation a0.fNAT, sL 9 c_TTranslation a1.fNAT], .pure (.bool r5)⟩, ⟨((((((strEq a0.fName a1.fName) && (a0.fAS == a1.fAS)) && r1) && r2) && r3) && r4) && r5, 40, [sL 7 c_TStaticRoute a0.fStatics, sL 7 c_TStaticRoute a1.fStatics], .pure (.bool r6)⟩, ⟨(((((((strEq a0.fName a1.fName) && (a0.fAS == a1.fAS)) && r1) && r2) && r3) && r4) && r5) && r6, 41, [.agg (c_TLinkState a0.fLS), .agg (c_TLinkState a1.fLS)], .pure (.bool r7)⟩, ⟨((((((((strEq a0.fName a1.fName) && (a0.fAS == a1.fAS)) && r1) && r2) && r3) && r4) && r5) && r6) && r7, 42, [.agg (c_TDistanceVector a0.fDV), .agg (c_TDistanceVector a1.fDV)], .pure (.bool r8)⟩, ⟨(((((((((strEq a0.fName a1.fName) && (a0.fAS == a1.fAS)) && r1) && r2) && r3) && r4) && r5) && r6) && r7) && r8, 43, [.agg (c_TPathVector a0.fPV), .agg (c_TPathVector a1.fPV)], .pure (.bool r9)⟩] nil_all ⟨fun hg => slices_Equal_api_Interface_api_Interface_ok a0.fInterfaces a1.fInterfaces r1 (gc_some q1 hg), fun hg => slices_EqualFunc_api_PrefixList_api_PrefixList_api_PrefixList_api_PrefixList__model_Same_1_ok a0.fLists a1.fLists r2 (gc_some q3 hg), fun hg => slices_EqualFunc_api_RouteMap_api_RouteMap_api_RouteMap_api_RouteMap__model_Same_2_ok a0.fMaps a1.fMaps r3 (gc_some q5 hg), fun hg => slices_EqualFunc_api_ACL_api_ACL_api_ACL_api_ACL__model_Same_3_ok a0.fACLs a1.fACLs r4 (gc_some q7 hg), fun hg => slices_Equal_api_Translation_api_Translation_ok a0.fNAT a1.fNAT r5 (gc_some q9 hg), fun hg => slices_Equal_api_StaticRoute_api_StaticRoute_ok a0.fStatics a1.fStatics r6 (gc_some q11 hg), fun hg => model_sameLinkState_ok a0.fLS a1.fLS r7 (gc_some q13 hg), fun hg => model_sameDistanceVector_ok a0.fDV a1.fDV r8 (gc_some q15 hg), fun hg => model_samePathVector_ok a0.fPV a1.fPV r9 (gc_some q17 hg), trivial⟩ ?_
 refine then_n (awp_ret ?_)
 obtain rfl := Option.some.inj h18
 exact er0 (.bool (((((((((((strEq a0.fName a1.fName) && (a0.fAS == a1.fAS)) && r1) && r2) && r3) && r4) && r5) && r6) && r7) && r8) && r9))

/- netverify/netverifylaw5.sample -/
theorem law5_sample_ok  (r : TRouter) (h : M.law5_sample  = some r) : Fn Try.prog 44 [] (.pure (.agg (c_TRouter r))) := by
 unfold M.law5_sample at h
 refine fn_pure Try.func44 rfl (by kernel_rfl) ?_
 refine awp_seq (rg0 [0] 1 ⟨36, [(0, .ref 0 0)], [.box [.str (⟨#[]⟩ : ByteArray), .int .i64 0, .sl true 12 0 (fun _ => []), .sl true 2 0 (fun _ => []), .sl true 2 0 (fun _ => []), .sl true 2 0 (fun _ => []), .sl true 9 0 (fun _ => []), .sl true 7 0 (fun _ => []), .bool false, .int .i64 0, .sl true 3 0 (fun _ => []), .sl true 5 0 (fun _ => []), .bool false, .int .i64 0, .str (⟨#[]⟩ : ByteArray), .str (⟨#[]⟩ : ByteArray), .sl true 5 0 (fun _ => []), .bool false, .int .i64 0, .int .i64 0, .sl true 4 0 (fun _ => []), .sl true 2 0 (fun _ => []), .sl true 3 0 (fun _ => []), .sl true 5 0 (fun _ => []), .sl true 5 0 (fun _ => [])]]⟩ ?_)
 refine then_n (awp_seq (rg0 [0] 1 ⟨36, [(0, .ref 0 0)], [.box [.str (⟨#[114, 49]⟩ : ByteArray), .int .i64 65001, .sl true 12 2 (fun i => List.take 12 (List.drop (i * 12) [.str (⟨#[101, 48]⟩ : ByteArray), .int .u32 167772161, .int .i64 24, .int .i64 0, .bool false, .bool true, .int .i64 0, .int .i64 10, .bool false, .str (⟨#[97]⟩ : ByteArray), .str (⟨#[]⟩ : ByteArray), .int .i64 0, .str (⟨#[101, 49]⟩ : ByteArray), .int .u32 167772417, .int .i64 24, .int .i64 0, .bool false, .bool false, .int .i64 0, .int .i64 0, .bool true, .str (⟨#[]⟩ : ByteArray), .str (⟨#[]⟩ : ByteArray), .int .i64 0])), .sl true 2 1 (fun i => List.take 2 (List.drop (i * 2) [.str (⟨#[112]⟩ : ByteArray), .sl true 5 1 (fun i => List.take 5 (List.drop (i * 5) [.bool true, .int .u32 167772160, .int .i64 8, .int .i64 8, .int .i64 32]))])), .sl true 2 1 (fun i => List.take 2 (List.drop (i * 2) [.str (⟨#[109]⟩ : ByteArray), .sl true 7 1 (fun i => List.take 7 (List.drop (i * 7) [.bool true, .str (⟨#[112]⟩ : ByteArray), .int .i64 (-1), .int .i64 5, .int .i64 (-1), .int .i64 (-1), .int .i64 0]))])), .sl true 2 1 (fun i => List.take 2 (List.drop (i * 2) [.str (⟨#[97]⟩ : ByteArray), .sl true 10 1 (fun i => List.take 10 (List.drop (i * 10) [.bool true, .int .i64 6, .int .u32 0, .int .u32 4294967295, .int .u32 0, .int .u32 4294967295, .int .i64 0, .int .i64 65535, .int .i64 80, .int .i64 80]))])), .sl true 9 1 (fun i => List.take 9 (List.drop (i * 9) [.int .i64 1, .int .u32 167772165, .int .u32 3221225989, .int .i64 0, .int .i64 0, .int .i64 0, .str (⟨#[]⟩ : ByteArray), .int .u32 0, .int .u32 0])), .sl true 7 1 (fun i => List.take 7 (List.drop (i * 7) [.int .u32 3232235520, .int .i64 16, .int .u32 167772418, .str (⟨#[]⟩ : ByteArray), .bool false, .int .i64 1, .int .i64 0])), .bool true, .int .i64 110, .sl true 3 0 (fun _ => []), .sl true 5 1 (fun i => List.take 5 (List.drop (i * 5) [.int .i64 2, .int .i64 20, .int .i64 0, .str (⟨#[109]⟩ : ByteArray), .int .i64 2])), .bool true, .int .i64 120, .str (⟨#[]⟩ : ByteArray), .str (⟨#[112]⟩ : ByteArray), .sl true 5 0 (fun _ => []), .bool true, .int .i64 20, .int .i64 200, .sl true 4 1 (fun i => List.take 4 (List.drop (i * 4) [.int .u32 167772418, .int .i64 65002, .str (⟨#[109]⟩ : ByteArray), .str (⟨#[]⟩ : ByteArray)])), .sl true 2 1 (fun i => List.take 2 (List.drop (i * 2) [.int .u32 167772160, .int .i64 24])), .sl true 3 0 (fun _ => []), .sl true 5 0 (fun _ => []), .sl true 5 0 (fun _ => [])]]⟩ ?_))
 refine then_n (awp_ret ?_)
 obtain rfl := Option.some.inj h
 exact er (.agg [.str (⟨#[114, 49]⟩ : ByteArray), .int .i64 65001, .sl false 12 2 (fun i => List.take 12 (List.drop (i * 12) [.str (⟨#[101, 48]⟩ : ByteArray), .int .u32 167772161, .int .i64 24, .int .i64 0, .bool false, .bool true, .int .i64 0, .int .i64 10, .bool false, .str (⟨#[97]⟩ : ByteArray), .str (⟨#[]⟩ : ByteArray), .int .i64 0, .str (⟨#[101, 49]⟩ : ByteArray), .int .u32 167772417, .int .i64 24, .int .i64 0, .bool false, .bool false, .int .i64 0, .int .i64 0, .bool true, .str (⟨#[]⟩ : ByteArray), .str (⟨#[]⟩ : ByteArray), .int .i64 0])), .sl false 2 1 (fun i => List.take 2 (List.drop (i * 2) [.str (⟨#[112]⟩ : ByteArray), .sl true 5 1 (fun i => List.take 5 (List.drop (i * 5) [.bool true, .int .u32 167772160, .int .i64 8, .int .i64 8, .int .i64 32]))])), .sl false 2 1 (fun i => List.take 2 (List.drop (i * 2) [.str (⟨#[109]⟩ : ByteArray), .sl true 7 1 (fun i => List.take 7 (List.drop (i * 7) [.bool true, .str (⟨#[112]⟩ : ByteArray), .int .i64 (-1), .int .i64 5, .int .i64 (-1), .int .i64 (-1), .int .i64 0]))])), .sl false 2 1 (fun i => List.take 2 (List.drop (i * 2) [.str (⟨#[97]⟩ : ByteArray), .sl true 10 1 (fun i => List.take 10 (List.drop (i * 10) [.bool true, .int .i64 6, .int .u32 0, .int .u32 4294967295, .int .u32 0, .int .u32 4294967295, .int .i64 0, .int .i64 65535, .int .i64 80, .int .i64 80]))])), .sl false 9 1 (fun i => List.take 9 (List.drop (i * 9) [.int .i64 1, .int .u32 167772165, .int .u32 3221225989, .int .i64 0, .int .i64 0, .int .i64 0, .str (⟨#[]⟩ : ByteArray), .int .u32 0, .int .u32 0])), .sl false 7 1 (fun i => List.take 7 (List.drop (i * 7) [.int .u32 3232235520, .int .i64 16, .int .u32 167772418, .str (⟨#[]⟩ : ByteArray), .bool false, .int .i64 1, .int .i64 0])), .bool true, .int .i64 110, .sl false 3 0 (fun _ => []), .sl false 5 1 (fun i => List.take 5 (List.drop (i * 5) [.int .i64 2, .int .i64 20, .int .i64 0, .str (⟨#[109]⟩ : ByteArray), .int .i64 2])), .bool true, .int .i64 120, .str (⟨#[]⟩ : ByteArray), .str (⟨#[112]⟩ : ByteArray), .sl false 5 0 (fun _ => []), .bool true, .int .i64 20, .int .i64 200, .sl false 4 1 (fun i => List.take 4 (List.drop (i * 4) [.int .u32 167772418, .int .i64 65002, .str (⟨#[109]⟩ : ByteArray), .str (⟨#[]⟩ : ByteArray)])), .sl false 2 1 (fun i => List.take 2 (List.drop (i * 2) [.int .u32 167772160, .int .i64 24])), .sl false 3 0 (fun _ => []), .sl false 5 0 (fun _ => []), .sl false 5 0 (fun _ => [])]) (sub_agg (.cons CSub.rfl (.cons CSub.rfl (.cons (csub_sl rfl (fun i hi => match i, hi with | 0, _ => rfl | 1, _ => rfl | n + 2, h => absurd h (by omega))) (.cons (csub_psl rfl (fun i hi => match i, hi with | 0, _ => (.cons PSub.rfl (.cons (psub_sl rfl (fun i hi => match i, hi with | 0, _ => (.cons PSub.rfl (.cons PSub.rfl (.cons PSub.rfl (.cons PSub.rfl (.cons PSub.rfl .nil))))) | n + 1, h => absurd h (by omega))) .nil)) | n + 1, h => absurd h (by omega))) (.cons (csub_psl rfl (fun i hi => match i, hi with | 0, _ => (.cons PSub.rfl (.cons (psub_sl rfl (fun i hi => match i, hi with | 0, _ => (.cons PSub.rfl (.cons PSub.rfl (.cons PSub.rfl (.cons PSub.rfl (.cons PSub.rfl (.cons PSub.rfl (.cons PSub.rfl .nil))))))) | n + 1, h => absurd h (by omega))) .nil)) | n + 1, h => absurd h (by omega))) (.cons (csub_psl rfl (fun i hi => match i, hi with | 0, _ => (.cons PSub.rfl (.cons (psub_sl rfl (fun i hi => match i, hi with | 0, _ => (.cons PSub.rfl (.cons PSub.rfl (.cons PSub.rfl (.cons PSub.rfl (.cons PSub.rfl (.cons PSub.rfl (.cons PSub.rfl (.cons PSub.rfl (.cons PSub.rfl (.cons PSub.rfl .nil)))))))))) | n + 1, h => absurd h (by omega))) .nil)) | n + 1, h => absurd h (by omega))) (.cons (csub_sl rfl (fun i hi => match i, hi with | 0, _ => rfl | n + 1, h => absurd h (by omega))) (.cons (csub_sl rfl (fun i hi => match i, hi with | 0, _ => rfl | n + 1, h => absurd h (by omega))) (.cons CSub.rfl (.cons CSub.rfl (.cons csub_nil (.cons (csub_sl rfl (fun i hi => match i, hi with | 0, _ => rfl | n + 1, h => absurd h (by omega))) (.cons CSub.rfl (.cons CSub.rfl (.cons CSub.rfl (.cons CSub.rfl (.cons csub_nil (.cons CSub.rfl (.cons CSub.rfl (.cons CSub.rfl (.cons (csub_sl rfl (fun i hi => match i, hi with | 0, _ => rfl | n + 1, h => absurd h (by omega))) (.cons (csub_sl rfl (fun i hi => match i, hi with | 0, _ => rfl | n + 1, h => absurd h (by omega))) (.cons csub_nil (.cons csub_nil (.cons csub_nil .nil))))))))))))))))))))))))))

/- netverify/scan.letter -/
theorem scan_letter_ok (a0 : Int) (r : Bool) (h : M.scan_letter a0 = some r) : Fn Try.prog 82 [.int .u8 a0] (.pure (.bool r)) := by
 unfold M.scan_letter at h
 refine fn_pure Try.func82 rfl (by kernel_rfl) ?_
 refine awp_seq (rg0 [0] 0 ⟨17, [(0, .int .u8 a0)], []⟩ ?_)
 refine then_n (awp_seq (rg0 [2] 0 ⟨17, [(2, .bool (((decide (65 ≤ a0)) && (decide (a0 ≤ 90))) || ((decide (97 ≤ a0)) && (decide (a0 ≤ 122)))))], []⟩ ?_))
 refine then_n (awp_ret ?_)
 obtain rfl := Option.some.inj h
 exact er0 (.bool (((decide (65 ≤ a0)) && (decide (a0 ≤ 90))) || ((decide (97 ≤ a0)) && (decide (a0 ≤ 122)))))

/- netverify/scan.digit -/
theorem scan_digit_ok (a0 : Int) (r : Bool) (h : M.scan_digit a0 = some r) : Fn Try.prog 83 [.int .u8 a0] (.pure (.bool r)) := by
 unfold M.scan_digit at h
 refine fn_pure Try.func83 rfl (by kernel_rfl) ?_
 refine awp_seq (rg0 [0] 0 ⟨9, [(0, .int .u8 a0)], []⟩ ?_)
 refine then_n (awp_seq (rg0 [2] 0 ⟨9, [(2, .bool ((decide (48 ≤ a0)) && (decide (a0 ≤ 57))))], []⟩ ?_))
 refine then_n (awp_ret ?_)
 obtain rfl := Option.some.inj h
 exact er0 (.bool ((decide (48 ≤ a0)) && (decide (a0 ≤ 57))))

/- netverify/scan.Name -/
theorem scan_Name_ok (a0 : ByteArray) (r : Bool) (h : M.scan_Name a0 = some r) : Fn Try.prog 60 [.str a0] (.pure (.bool r)) := by
 unfold M.scan_Name at h
 refine fn_pure Try.func60 rfl (by kernel_rfl) ?_
 refine awp_seq (rg0 [0] 0 ⟨52, [(0, .str a0)], []⟩ ?_)
 refine then_n (awp_seq (awp_seq ?_))
 obtain ⟨r1, q1, h2⟩ := bind_some h
 obtain ⟨c3, h4⟩ := gd_some h2
 refine rg [.pure (.bool r1)] [0, 18] 0 ⟨52, [(0, .str a0), (18, .bool (((decide ((a0.size : Int) < 1)) || (decide ((a0.size : Int) > 15))) || (!r1)))], []⟩ [guardB (!((decide ((a0.size : Int) < 1)) || (decide ((a0.size : Int) > 15)))) (decide (0 ≤ 0)), guardB (!((decide ((a0.size : Int) < 1)) || (decide ((a0.size : Int) > 15)))) (decide (0 < (a0.size : Int)))] [⟨(!((decide ((a0.size : Int) < 1)) || (decide ((a0.size : Int) > 15)))), 82, [.int .u8 (byteAt a0 0)], .pure (.bool r1)⟩] c3 ⟨fun hg => scan_letter_ok (byteAt a0 0) r1 (gc_some q1 hg), trivial⟩ ?_
 refine then_n ?_
 refine cnd (((decide ((a0.size : Int) < 1)) || (decide ((a0.size : Int) > 15))) || (!r1)) (fun b5 => ?_) (fun b5 => ?_)
 have h6 := cond_t b5 h4
 refine awp_seq (rg0 [2] 0 ⟨52, [(2, .bool false)], []⟩ ?_)
 refine then_n (awp_ret (then_r ?_))
 obtain rfl := Option.some.inj h6
 exact er0 (.bool false)
 have h7 := cond_f b5 h4
 refine awp_skip (then_n (awp_seq (awp_seq (rg0 [0, 3] 0 ⟨52, [(0, .str a0), (3, .int .i64 1)], []⟩ ?_))))
 refine then_n (awp_block ?_)
 obtain ⟨y6, q21, h22⟩ := bind_some h7
 refine awp_le (s' := ⟨52, [(0, .str a0), (3, .int .i64 1)], []⟩) (le_rfl) ?_
 refine awp_mono (awp_loop (f := M.scan_Name_l1 a0) (S := fun (p2 : Int) => ⟨52, [(0, .str a0), (3, .int .i64 p2)], []⟩) (O := (Sum.elim (fun z => OutE 0 (fun z => ⟨52, [], []⟩) z) (fun z => OutR Try.prog Try.f60 (.bool z)))) ?_ (x := 1) (y := y6) (loopM_iter q21)) ?_
 intro p2 y3 h8
 unfold M.scan_Name_l1 at h8
 refine awp_seq (awp_seq (rg0 [0, 3, 22] 0 ⟨52, [(0, .str a0), (3, .int .i64 p2), (22, .bool (decide (p2 < (a0.size : Int))))], []⟩ ?_))
 refine then_n ?_
 refine cnd (decide (p2 < (a0.size : Int))) (fun b9 => ?_) (fun b9 => ?_)
 have h10 := cond_t b9 h8
 refine awp_skip (then_n (awp_seq (awp_block (awp_seq ?_))))
 obtain ⟨c12, h13⟩ := gd_some h10
 refine rgc [0, 3, 4] 0 ⟨52, [(0, .str a0), (3, .int .i64 p2), (4, .int .u8 (byteAt a0 p2))], []⟩ [decide (0 ≤ p2), decide (p2 < (a0.size : Int))] c12 ?_
 refine then_n (awp_seq ?_)
 obtain ⟨r4, q14, h15⟩ := bind_some h13
 obtain ⟨r5, q16, h17⟩ := bind_some h15
 refine rg [.pure (.bool r4), .pure (.bool r5)] [0, 3, 51] 0 ⟨52, [(0, .str a0), (3, .int .i64 p2), (51, .bool ((((((!r4) && (!r5)) && ((byteAt a0 p2) != 45)) && ((byteAt a0 p2) != 95)) && ((byteAt a0 p2) != 47)) && ((byteAt a0 p2) != 46)))], []⟩ [] [⟨true, 82, [.int .u8 (byteAt a0 p2)], .pure (.bool r4)⟩, ⟨!r4, 83, [.int .u8 (byteAt a0 p2)], .pure (.bool r5)⟩] nil_all ⟨fun _ => scan_letter_ok (byteAt a0 p2) r4 q14, fun hg => scan_digit_ok (byteAt a0 p2) r5 (gc_some q16 hg), trivial⟩ ?_
 refine then_n ?_
 refine cnd ((((((!r4) && (!r5)) && ((byteAt a0 p2) != 45)) && ((byteAt a0 p2) != 95)) && ((byteAt a0 p2) != 47)) && ((byteAt a0 p2) != 46)) (fun b18 => ?_) (fun b18 => ?_)
 have h19 := cond_t b18 h17
 refine awp_seq (rg0 [2] 0 ⟨52, [(2, .bool false)], []⟩ ?_)
 refine then_n (awp_ret (inb_r (then_r ?_)))
 obtain rfl := Option.some.inj h19
 exact round_r ⟨rfl, er0 (.bool false)⟩
 have h20 := cond_f b18 h17
 refine awp_skip (inb_n (then_n (rg0 [0, 3] 0 ⟨52, [(0, .str a0), (3, .int .i64 (wr .i64 (p2 + 1)))], []⟩ ?_)))
 obtain rfl := Option.some.inj h20
 exact round_n (le_rfl)
 have h11 := cond_f b9 h8
 refine awp_exit (then_e ?_)
 obtain rfl := Option.some.inj h11
 exact round_e ⟨rfl, kp []⟩
 intro e23 s24 o25
 rcases y6 with g7 | y8
 have h26 := elim_l h22
 obtain ⟨rfl, l28⟩ := o25
 refine inb_here ?_
 refine then_le (s' := ⟨52, [], []⟩) (l28) ?_
 refine awp_seq (rg0 [2] 0 ⟨52, [(2, .bool true)], []⟩ ?_)
 refine then_n (awp_ret ?_)
 obtain rfl := Option.some.inj h26
 exact er0 (.bool true)
 have h27 := elim_r h22
 obtain ⟨rfl, n29⟩ := o25
 refine inb_r (then_r ?_)
 obtain rfl := Option.some.inj h27
 exact n29

/- netverify/model.within -/
theorem model_within_ok (a0 : Int) (a1 : Int) (a2 : Int) (r : Bool) (h : M.model_within a0 a1 a2 = some r) : Fn Try.prog 61 [.int .i64 a0, .int .i64 a1, .int .i64 a2] (.pure (.bool r)) := by
 unfold M.model_within at h
 refine fn_pure Try.func61 rfl (by kernel_rfl) ?_
 refine awp_seq (rg0 [0, 1, 2] 0 ⟨15, [(0, .int .i64 a0), (1, .int .i64 a1), (2, .int .i64 a2)], []⟩ ?_)
 refine then_n (awp_seq (rg0 [6] 0 ⟨15, [(6, .bool ((decide (a1 ≤ a0)) && (decide (a0 ≤ a2))))], []⟩ ?_))
 refine then_n (awp_ret ?_)
 obtain rfl := Option.some.inj h
 exact er0 (.bool ((decide (a1 ≤ a0)) && (decide (a0 ≤ a2))))

/- netverify/model.Interface$1 -/
theorem model_Interface_1_ok (a0 : TInterface) (b0 : ByteArray) (r : Bool) (h : M.model_Interface_1 a0 b0 = some r) : Fn Try.prog 51 [.agg (c_TInterface a0), .pp (cs b0)] (.pure (.bool r)) := by
 unfold M.model_Interface_1 at h
 refine fn_pure Try.func51 rfl (by kernel_rfl) ?_
 refine awp_seq (rg0 [1, 2] 1 ⟨8, [(1, .pp (cs b0)), (2, .ref 0 0)], [.box (c_TInterface a0)]⟩ ?_)
 refine then_n (awp_seq (rg0 [3] 0 ⟨8, [(3, .bool (strEq a0.fName b0))], []⟩ ?_))
 refine then_n (awp_ret ?_)
 obtain rfl := Option.some.inj h
 exact er0 (.bool (strEq a0.fName b0))

/- slices.IndexFunc[[]netverify/api.Interface,netverify/api.Interface] -/
theorem slices_IndexFunc_api_Interface_api_Interface__model_Interface_1_ok (a0 : List TInterface) (a1c0 : ByteArray) (r : Int) (h : M.slices_IndexFunc_api_Interface_api_Interface__model_Interface_1 a0 a1c0 = some r) : Fn Try.prog 50 [sL 12 c_TInterface a0, .fn 51 [.pp (cs a1c0)]] (.pure (.int .i64 r)) := by
 unfold M.slices_IndexFunc_api_Interface_api_Interface__model_Interface_1 at h
 refine fn_pure Try.func50 rfl (by kernel_rfl) ?_
 refine awp_seq (rg0 [0, 1] 0 ⟨19, [(0, sL 12 c_TInterface a0), (1, .fn 51 [.pp (cs a1c0)])], []⟩ ?_)
 refine then_n (awp_seq (awp_seq (rg0 [0, 1, 7, 8] 0 ⟨19, [(0, sL 12 c_TInterface a0), (1, .fn 51 [.pp (cs a1c0)]), (7, .int .i64 (a0.length : Int)), (8, .int .i64 0)], []⟩ ?_)))
 refine then_n (awp_block ?_)
 obtain ⟨y4, q12, h13⟩ := bind_some h
 refine awp_le (s' := ⟨19, [(0, sL 12 c_TInterface a0), (1, .fn 51 [.pp (cs a1c0)]), (7, .int .i64 (a0.length : Int)), (8, .int .i64 0)], []⟩) (le_rfl) ?_
 refine awp_mono (awp_loop (f := M.slices_IndexFunc_api_Interface_api_Interface__model_Interface_1_l1 a0 a1c0) (S := fun (p1 : Int) => ⟨19, [(0, sL 12 c_TInterface a0), (1, .fn 51 [.pp (cs a1c0)]), (7, .int .i64 (a0.length : Int)), (8, .int .i64 p1)], []⟩) (O := (Sum.elim (fun z => OutE 0 (fun z => ⟨19, [], []⟩) z) (fun z => OutR Try.prog Try.f50 (.int .i64 z)))) ?_ (x := 0) (y := y4) (loopM_iter q12)) ?_
 intro p1 y2 h1
 unfold M.slices_IndexFunc_api_Interface_api_Interface__model_Interface_1_l1 at h1
 refine awp_seq (rg0 [0, 1, 7, 8, 9] 0 ⟨19, [(0, sL 12 c_TInterface a0), (1, .fn 51 [.pp (cs a1c0)]), (7, .int .i64 (a0.length : Int)), (8, .int .i64 p1), (9, .bool (decide (p1 < (a0.length : Int))))], []⟩ ?_)
 refine then_n (awp_seq ?_)
 refine cnd (decide (p1 < (a0.length : Int))) (fun b2 => ?_) (fun b2 => ?_)
 have h3 := cond_t b2 h1
 refine awp_skip (then_n (awp_seq (awp_block (awp_seq (rg0 [0, 1, 5, 7, 8] 0 ⟨19, [(0, sL 12 c_TInterface a0), (1, .fn 51 [.pp (cs a1c0)]), (5, .int .i64 p1), (7, .int .i64 (a0.length : Int)), (8, .int .i64 p1)], []⟩ ?_)))))
 refine then_n (awp_seq ?_)
 obtain ⟨r3, q5, h6⟩ := bind_some h3
 obtain ⟨c7, h8⟩ := gd_some h6
 refine rg [.pure (.bool r3)] [0, 1, 5, 7, 8, 16] 0 ⟨19, [(0, sL 12 c_TInterface a0), (1, .fn 51 [.pp (cs a1c0)]), (5, .int .i64 p1), (7, .int .i64 (a0.length : Int)), (8, .int .i64 p1), (16, .bool r3)], []⟩ [decide (0 ≤ p1), decide (p1 < (a0.length : Int))] [⟨true, 51, [.agg (c_TInterface (a0.getD p1.toNat default)), .pp (cs a1c0)], .pure (.bool r3)⟩] c7 ⟨fun _ => model_Interface_1_ok (a0.getD p1.toNat default) a1c0 r3 q5, trivial⟩ ?_
 refine then_n ?_
 refine cnd r3 (fun b9 => ?_) (fun b9 => ?_)
 have h10 := cond_t b9 h8
 refine awp_seq (rg0 [4] 0 ⟨19, [(4, .int .i64 p1)], []⟩ ?_)
 refine then_n (awp_ret (inb_r (then_r ?_)))
 obtain rfl := Option.some.inj h10
 exact round_r ⟨rfl, er0 (.int .i64 p1)⟩
 have h11 := cond_f b9 h8
 refine awp_skip (inb_n (then_n (rg0 [0, 1, 7, 8] 0 ⟨19, [(0, sL 12 c_TInterface a0), (1, .fn 51 [.pp (cs a1c0)]), (7, .int .i64 (a0.length : Int)), (8, .int .i64 (wr .i64 (p1 + 1)))], []⟩ ?_)))
 obtain rfl := Option.some.inj h11
 exact round_n (le_rfl)
 have h4 := cond_f b2 h1
 refine awp_exit (then_e ?_)
 obtain rfl := Option.some.inj h4
 exact round_e ⟨rfl, kp []⟩
 intro e14 s15 o16
 rcases y4 with g5 | y6
 have h17 := elim_l h13
 obtain ⟨rfl, l19⟩ := o16
 refine inb_here ?_
 refine then_le (s' := ⟨19, [], []⟩) (l19) ?_
 refine awp_seq (rg0 [4] 0 ⟨19, [(4, .int .i64 (-1))], []⟩ ?_)
 refine then_n (awp_ret ?_)
 obtain rfl := Option.some.inj h17
 exact er0 (.int .i64 (-1))
 have h18 := elim_r h13
 obtain ⟨rfl, n20⟩ := o16
 refine inb_r (then_r ?_)
 obtain rfl := Option.some.inj h18
 exact n20

/- netverify/model.Interface -/
theorem model_Interface_ok (a0 : TRouter) (a1 : ByteArray) (r : Int) (h : M.model_Interface a0 a1 = some r) : Fn Try.prog 15 [.agg (c_TRouter a0), .str a1] (.pure (.int .i64 r)) := by
 unfold M.model_Interface at h
 refine fn_pure Try.func15 rfl (by kernel_rfl) ?_
 refine awp_seq (rg0 [2, 3] 2 ⟨9, [(2, .ref 0 0), (3, .ref 1 0)], [.box (c_TRouter a0), .box [.str a1]]⟩ ?_)
 refine then_n (awp_seq ?_)
 obtain ⟨r1, q1, h2⟩ := bind_some h
 refine rg [.pure (.int .i64 r1)] [4] 0 ⟨9, [(4, .int .i64 r1)], []⟩ [] [⟨true, 50, [sL 12 c_TInterface a0.fInterfaces, .fn 51 [.pp (cs a1)]], .pure (.int .i64 r1)⟩] nil_all ⟨fun _ => slices_IndexFunc_api_Interface_api_Interface__model_Interface_1_ok a0.fInterfaces a1 r1 q1, trivial⟩ ?_
 refine then_n (awp_ret ?_)
 obtain rfl := Option.some.inj h2
 exact er0 (.int .i64 r1)

/- netverify/model.rightInterface -/
theorem model_rightInterface_ok (a0 : TInterface) (r : Bool) (h : M.model_rightInterface a0 = some r) : Fn Try.prog 84 [.agg (c_TInterface a0)] (.pure (.bool r)) := by
 unfold M.model_rightInterface at h
 refine fn_pure Try.func84 rfl (by kernel_rfl) ?_
 refine awp_seq (rg0 [1] 1 ⟨81, [(1, .ref 0 0)], [.box (c_TInterface a0)]⟩ ?_)
 refine then_n (awp_seq (awp_seq ?_))
 obtain ⟨r1, q1, h2⟩ := bind_some h
 obtain ⟨r2, q3, h4⟩ := bind_some h2
 obtain ⟨r3, q5, h6⟩ := bind_some h4
 refine rg [.pure (.bool r1), .pure (.bool r2), .pure (.bool r3)] [1, 18] 1 ⟨81, [(1, .ref 0 0), (18, .bool (((!r1) || (!r2)) || (!r3)))], [.box (c_TInterface a0)]⟩ [] [⟨true, 61, [.int .i64 a0.fLen, .int .i64 0, .int .i64 32], .pure (.bool r1)⟩, ⟨(!(!r1)), 61, [.int .i64 a0.fVLAN, .int .i64 0, .int .i64 4094], .pure (.bool r2)⟩, ⟨(!((!r1) || (!r2))), 61, [.int .i64 a0.fSide, .int .i64 0, .int .i64 2], .pure (.bool r3)⟩] nil_all ⟨fun _ => model_within_ok a0.fLen 0 32 r1 q1, fun hg => model_within_ok a0.fVLAN 0 4094 r2 (gc_some q3 hg), fun hg => model_within_ok a0.fSide 0 2 r3 (gc_some q5 hg), trivial⟩ ?_
 refine then_n ?_
 refine cnd (((!r1) || (!r2)) || (!r3)) (fun b7 => ?_) (fun b7 => ?_)
 have h8 := cond_t b7 h6
 refine awp_seq (rg0 [2] 0 ⟨81, [(2, .bool false)], []⟩ ?_)
 refine then_n (awp_ret (then_r ?_))
 obtain rfl := Option.some.inj h8
 exact er0 (.bool false)
 have h9 := cond_f b7 h6
 refine awp_skip (then_n (awp_seq (awp_seq (rg0 [1, 54] 1 ⟨81, [(1, .ref 0 0), (54, .bool ((a0.fLen == 0) && (((((((a0.fAddr != 0) || (a0.fVLAN != 0)) || (a0.fSide != 0)) || a0.fLS) || a0.fDV) || (!strEq a0.fIn (⟨#[]⟩ : ByteArray))) || (!strEq a0.fOut (⟨#[]⟩ : ByteArray)))))], [.box (c_TInterface a0)]⟩ ?_))))
 refine then_n ?_
 refine cnd ((a0.fLen == 0) && (((((((a0.fAddr != 0) || (a0.fVLAN != 0)) || (a0.fSide != 0)) || a0.fLS) || a0.fDV) || (!strEq a0.fIn (⟨#[]⟩ : ByteArray))) || (!strEq a0.fOut (⟨#[]⟩ : ByteArray)))) (fun b10 => ?_) (fun b10 => ?_)
 have h11 := cond_t b10 h9
 refine awp_seq (rg0 [2] 0 ⟨81, [(2, .bool false)], []⟩ ?_)
 refine then_n (awp_ret (then_r ?_))
 obtain rfl := Option.some.inj h11
 exact er0 (.bool false)
 have h12 := cond_f b10 h9
 refine awp_skip (then_n (awp_seq (awp_seq (rg0 [1, 62] 1 ⟨81, [(1, .ref 0 0), (62, .bool ((a0.fLen != 0) && (a0.fAddr == 0)))], [.box (c_TInterface a0)]⟩ ?_))))
 refine then_n ?_
 refine cnd ((a0.fLen != 0) && (a0.fAddr == 0)) (fun b13 => ?_) (fun b13 => ?_)
 have h14 := cond_t b13 h12
 refine awp_seq (rg0 [2] 0 ⟨81, [(2, .bool false)], []⟩ ?_)
 refine then_n (awp_ret (then_r ?_))
 obtain rfl := Option.some.inj h14
 exact er0 (.bool false)
 have h15 := cond_f b13 h12
 refine awp_skip (then_n (awp_seq (awp_seq (rg0 [1, 64] 1 ⟨81, [(1, .ref 0 0), (64, .bool a0.fLS)], [.box (c_TInterface a0)]⟩ ?_))))
 refine then_n ?_
 refine cnd a0.fLS (fun b16 => ?_) (fun b16 => ?_)
 have h17 := cond_t b16 h15
 refine awp_seq ?_
 obtain ⟨r4, q19, h20⟩ := bind_some h17
 obtain ⟨r5, q21, h22⟩ := bind_some h20
 refine rg [.pure (.bool r4), .pure (.bool r5)] [2] 0 ⟨81, [(2, .bool (r4 && r5))], []⟩ [] [⟨true, 61, [.int .i64 a0.fArea, .int .i64 0, .int .i64 255], .pure (.bool r4)⟩, ⟨r4, 61, [.int .i64 a0.fCost, .int .i64 1, .int .i64 65535], .pure (.bool r5)⟩] nil_all ⟨fun _ => model_within_ok a0.fArea 0 255 r4 q19, fun hg => model_within_ok a0.fCost 1 65535 r5 (gc_some q21 hg), trivial⟩ ?_
 refine then_n (awp_ret (then_r ?_))
 obtain rfl := Option.some.inj h22
 exact er0 (.bool (r4 && r5))
 have h18 := cond_f b16 h15
 refine awp_skip (then_n (awp_seq (rg0 [2] 0 ⟨81, [(2, .bool ((a0.fArea == 0) && (a0.fCost == 0)))], []⟩ ?_)))
 refine then_n (awp_ret ?_)
 obtain rfl := Option.some.inj h18
 exact er0 (.bool ((a0.fArea == 0) && (a0.fCost == 0)))

/- netverify/addr.clamp -/
theorem addr_clamp_ok (a0 : Int) (r : Int) (h : M.addr_clamp a0 = some r) : Fn Try.prog 98 [.int .i64 a0] (.pure (.int .i64 r)) := by
 unfold M.addr_clamp at h
 refine fn_pure Try.func98 rfl (by kernel_rfl) ?_
 refine awp_seq (rg0 [0] 0 ⟨6, [(0, .int .i64 a0)], []⟩ ?_)
 refine then_n (awp_seq (rg0 [2] 0 ⟨6, [(2, .int .i64 (if (if 32 < a0 then 32 else a0) > 0 then (if 32 < a0 then 32 else a0) else 0))], []⟩ ?_))
 refine then_n (awp_ret ?_)
 obtain rfl := Option.some.inj h
 exact er0 (.int .i64 (if (if 32 < a0 then 32 else a0) > 0 then (if 32 < a0 then 32 else a0) else 0))

/- netverify/addr.Mask -/
theorem addr_Mask_ok (a0 : Int) (r : Int) (h : M.addr_Mask a0 = some r) : Fn Try.prog 97 [.int .i64 a0] (.pure (.int .u32 r)) := by
 unfold M.addr_Mask at h
 refine fn_pure Try.func97 rfl (by kernel_rfl) ?_
 refine awp_seq (rg0 [0] 0 ⟨7, [(0, .int .i64 a0)], []⟩ ?_)
 refine then_n (awp_seq ?_)
 obtain ⟨r1, q1, h2⟩ := bind_some h
 obtain ⟨c3, h4⟩ := gd_some h2
 refine rg [.pure (.int .i64 r1)] [2] 0 ⟨7, [(2, .int .u32 (wr .u32 (4294967295 * 2 ^ min (wr .i64 (32 - r1)).toNat 32)))], []⟩ [decide (0 ≤ (wr .i64 (32 - r1)))] [⟨true, 98, [.int .i64 a0], .pure (.int .i64 r1)⟩] c3 ⟨fun _ => addr_clamp_ok a0 r1 q1, trivial⟩ ?_
 refine then_n (awp_ret ?_)
 obtain rfl := Option.some.inj h4
 exact er0 (.int .u32 (wr .u32 (4294967295 * 2 ^ min (wr .i64 (32 - r1)).toNat 32)))

/- netverify/addr.Network -/
theorem addr_Network_ok (a0 : Int) (a1 : Int) (r : TPrefix) (h : M.addr_Network a0 a1 = some r) : Fn Try.prog 86 [.int .u32 a0, .int .i64 a1] (.pure (.agg (c_TPrefix r))) := by
 unfold M.addr_Network at h
 refine fn_pure Try.func86 rfl (by kernel_rfl) ?_
 refine awp_seq (rg0 [0, 1, 4] 1 ⟨12, [(0, .int .u32 a0), (1, .int .i64 a1), (4, .ref 0 0)], [.box [.int .u32 0, .int .i64 0]]⟩ ?_)
 refine then_n (awp_seq ?_)
 obtain ⟨r1, q1, h2⟩ := bind_some h
 obtain ⟨r2, q3, h4⟩ := bind_some h2
 refine rg [.pure (.int .u32 r1), .pure (.int .i64 r2)] [4] 1 ⟨12, [(4, .ref 0 0)], [.box [.int .u32 (bitD .and .u32 a0 r1), .int .i64 r2]]⟩ [] [⟨true, 97, [.int .i64 a1], .pure (.int .u32 r1)⟩, ⟨true, 98, [.int .i64 a1], .pure (.int .i64 r2)⟩] nil_all ⟨fun _ => addr_Mask_ok a1 r1 q1, fun _ => addr_clamp_ok a1 r2 q3, trivial⟩ ?_
 refine then_n (awp_ret ?_)
 obtain rfl := Option.some.inj h4
 exact er0 (.agg [.int .u32 (bitD .and .u32 a0 r1), .int .i64 r2])

/- netverify/addr.Contains -/
theorem addr_Contains_ok (a0 : TPrefix) (a1 : Int) (r : Bool) (h : M.addr_Contains a0 a1 = some r) : Fn Try.prog 101 [.agg (c_TPrefix a0), .int .u32 a1] (.pure (.bool r)) := by
 unfold M.addr_Contains at h
 refine fn_pure Try.func101 rfl (by kernel_rfl) ?_
 refine awp_seq (rg0 [1, 2] 1 ⟨13, [(1, .int .u32 a1), (2, .ref 0 0)], [.box (c_TPrefix a0)]⟩ ?_)
 refine then_n (awp_seq ?_)
 obtain ⟨r1, q1, h2⟩ := bind_some h
 refine rg [.pure (.int .u32 r1)] [4] 0 ⟨13, [(4, .bool ((bitD .and .u32 a1 r1) == a0.fAddr))], []⟩ [] [⟨true, 97, [.int .i64 a0.fLen], .pure (.int .u32 r1)⟩] nil_all ⟨fun _ => addr_Mask_ok a0.fLen r1 q1, trivial⟩ ?_
 refine then_n (awp_ret ?_)
 obtain rfl := Option.some.inj h2
 exact er0 (.bool ((bitD .and .u32 a1 r1) == a0.fAddr))

/- netverify/addr.Covers -/
theorem addr_Covers_ok (a0 : TPrefix) (a1 : TPrefix) (r : Bool) (h : M.addr_Covers a0 a1 = some r) : Fn Try.prog 96 [.agg (c_TPrefix a0), .agg (c_TPrefix a1)] (.pure (.bool r)) := by
 unfold M.addr_Covers at h
 refine fn_pure Try.func96 rfl (by kernel_rfl) ?_
 refine awp_seq (rg0 [2, 3] 2 ⟨16, [(2, .ref 0 0), (3, .ref 1 0)], [.box (c_TPrefix a0), .box (c_TPrefix a1)]⟩ ?_)
 refine then_n (awp_seq ?_)
 obtain ⟨r1, q1, h2⟩ := bind_some h
 refine rg [.pure (.bool r1)] [4] 0 ⟨16, [(4, .bool ((decide (a0.fLen ≤ a1.fLen)) && r1))], []⟩ [] [⟨decide (a0.fLen ≤ a1.fLen), 101, [.agg (c_TPrefix a0), .int .u32 a1.fAddr], .pure (.bool r1)⟩] nil_all ⟨fun hg => addr_Contains_ok a0 a1.fAddr r1 (gc_some q1 hg), trivial⟩ ?_
 refine then_n (awp_ret ?_)
 obtain rfl := Option.some.inj h2
 exact er0 (.bool ((decide (a0.fLen ≤ a1.fLen)) && r1))

/- netverify/addr.Overlaps -/
theorem addr_Overlaps_ok (a0 : TPrefix) (a1 : TPrefix) (r : Bool) (h : M.addr_Overlaps a0 a1 = some r) : Fn Try.prog 85 [.agg (c_TPrefix a0), .agg (c_TPrefix a1)] (.pure (.bool r)) := by
 unfold M.addr_Overlaps at h
 refine fn_pure Try.func85 rfl (by kernel_rfl) ?_
 refine awp_seq (rg0 [2, 3] 2 ⟨13, [(2, .ref 0 0), (3, .ref 1 0)], [.box (c_TPrefix a0), .box (c_TPrefix a1)]⟩ ?_)
 refine then_n (awp_seq ?_)
 obtain ⟨r1, q1, h2⟩ := bind_some h
 obtain ⟨r2, q3, h4⟩ := bind_some h2
 refine rg [.pure (.bool r1), .pure (.bool r2)] [4] 0 ⟨13, [(4, .bool (r1 || r2))], []⟩ [] [⟨true, 96, [.agg (c_TPrefix a0), .agg (c_TPrefix a1)], .pure (.bool r1)⟩, ⟨(!r1), 96, [.agg (c_TPrefix a1), .agg (c_TPrefix a0)], .pure (.bool r2)⟩] nil_all ⟨fun _ => addr_Covers_ok a0 a1 r1 q1, fun hg => addr_Covers_ok a1 a0 r2 (gc_some q3 hg), trivial⟩ ?_
 refine then_n (awp_ret ?_)
 obtain rfl := Option.some.inj h4
 exact er0 (.bool (r1 || r2))

/- netverify/model.checkInterfaces -/
theorem model_checkInterfaces_ok (a0 : TRouter) (r : Int) (h : M.model_checkInterfaces a0 = some r) : Fn Try.prog 62 [.agg (c_TRouter a0)] (.pure (.int .i64 r)) := by
 unfold M.model_checkInterfaces at h
 refine fn_pure Try.func62 rfl (by kernel_rfl) ?_
 refine awp_seq (rg0 [1] 1 ⟨64, [(1, .ref 0 0)], [.box (c_TRouter a0)]⟩ ?_)
 refine then_n (awp_seq (awp_seq (rg0 [1, 10] 1 ⟨64, [(1, .ref 0 0), (10, .bool (decide ((a0.fInterfaces.length : Int) > 8)))], [.box (c_TRouter a0)]⟩ ?_)))
 refine then_n ?_
 refine cnd (decide ((a0.fInterfaces.length : Int) > 8)) (fun b1 => ?_) (fun b1 => ?_)
 have h2 := cond_t b1 h
 refine awp_seq (rg0 [2] 0 ⟨64, [(2, .int .i64 7)], []⟩ ?_)
 refine then_n (awp_ret (then_r ?_))
 obtain rfl := Option.some.inj h2
 exact er0 (.int .i64 7)
 have h3 := cond_f b1 h
 refine awp_skip (then_n (awp_seq (awp_seq (rg0 [1, 12, 13, 14] 1 ⟨64, [(1, .ref 0 0), (12, sL 12 c_TInterface a0.fInterfaces), (13, .int .i64 (a0.fInterfaces.length : Int)), (14, .int .i64 0)], [.box (c_TRouter a0)]⟩ ?_))))
 refine then_n (awp_block ?_)
 obtain ⟨y14, q51, h52⟩ := bind_some h3
 refine awp_le (s' := ⟨64, [(1, .ref 0 0), (12, sL 12 c_TInterface a0.fInterfaces), (13, .int .i64 (a0.fInterfaces.length : Int)), (14, .int .i64 0)], [.box (c_TRouter a0)]⟩) (le_rfl) ?_
 refine awp_mono (awp_loop (f := M.model_checkInterfaces_l1 a0) (S := fun (p1 : Int) => ⟨64, [(1, .ref 0 0), (12, sL 12 c_TInterface a0.fInterfaces), (13, .int .i64 (a0.fInterfaces.length : Int)), (14, .int .i64 p1)], [.box (c_TRouter a0)]⟩) (O := (Sum.elim (fun z => OutE 0 (fun z => ⟨64, [], []⟩) z) (fun z => OutR Try.prog Try.f62 (.int .i64 z)))) ?_ (x := 0) (y := y14) (loopM_iter q51)) ?_
 intro p1 y2 h4
 unfold M.model_checkInterfaces_l1 at h4
 refine awp_seq (rg0 [1, 12, 13, 14, 15] 1 ⟨64, [(1, .ref 0 0), (12, sL 12 c_TInterface a0.fInterfaces), (13, .int .i64 (a0.fInterfaces.length : Int)), (14, .int .i64 p1), (15, .bool (decide (p1 < (a0.fInterfaces.length : Int))))], [.box (c_TRouter a0)]⟩ ?_)
 refine then_n (awp_seq ?_)
 refine cnd (decide (p1 < (a0.fInterfaces.length : Int))) (fun b5 => ?_) (fun b5 => ?_)
 have h6 := cond_t b5 h4
 refine awp_skip (then_n (awp_seq (awp_block (awp_seq ?_))))
 obtain ⟨c8, h9⟩ := gd_some h6
 refine rgc [1, 3, 4, 12, 13, 14] 2 ⟨64, [(1, .ref 0 0), (3, .int .i64 p1), (4, .ref 1 0), (12, sL 12 c_TInterface a0.fInterfaces), (13, .int .i64 (a0.fInterfaces.length : Int)), (14, .int .i64 p1)], [.box (c_TRouter a0), .box (c_TInterface (a0.fInterfaces.getD p1.toNat default))]⟩ [decide (0 ≤ p1), decide (p1 < (a0.fInterfaces.length : Int))] c8 ?_
 refine then_n (awp_seq (awp_seq ?_))
 obtain ⟨r3, q10, h11⟩ := bind_some h9
 refine rg [.pure (.bool r3)] [1, 3, 4, 12, 13, 14, 22] 2 ⟨64, [(1, .ref 0 0), (3, .int .i64 p1), (4, .ref 1 0), (12, sL 12 c_TInterface a0.fInterfaces), (13, .int .i64 (a0.fInterfaces.length : Int)), (14, .int .i64 p1), (22, .bool (!r3))], [.box (c_TRouter a0), .box (c_TInterface (a0.fInterfaces.getD p1.toNat default))]⟩ [] [⟨true, 60, [.str ((a0.fInterfaces.getD p1.toNat default).fName)], .pure (.bool r3)⟩] nil_all ⟨fun _ => scan_Name_ok ((a0.fInterfaces.getD p1.toNat default).fName) r3 q10, trivial⟩ ?_
 refine then_n ?_
 refine cnd (!r3) (fun b12 => ?_) (fun b12 => ?_)
 have h13 := cond_t b12 h11
 refine awp_seq (rg0 [2] 0 ⟨64, [(2, .int .i64 3)], []⟩ ?_)
 refine then_n (awp_ret (then_r (inb_r (then_r ?_))))
 obtain rfl := Option.some.inj h13
 exact round_r ⟨rfl, er0 (.int .i64 3)⟩
 have h14 := cond_f b12 h11
 refine awp_skip (then_n (awp_seq (awp_seq ?_)))
 obtain ⟨r4, q15, h16⟩ := bind_some h14
 refine rg [.pure (.int .i64 r4)] [1, 3, 4, 12, 13, 14, 28] 2 ⟨64, [(1, .ref 0 0), (3, .int .i64 p1), (4, .ref 1 0), (12, sL 12 c_TInterface a0.fInterfaces), (13, .int .i64 (a0.fInterfaces.length : Int)), (14, .int .i64 p1), (28, .bool (decide (r4 < p1)))], [.box (c_TRouter a0), .box (c_TInterface (a0.fInterfaces.getD p1.toNat default))]⟩ [] [⟨true, 15, [.agg (c_TRouter a0), .str ((a0.fInterfaces.getD p1.toNat default).fName)], .pure (.int .i64 r4)⟩] nil_all ⟨fun _ => model_Interface_ok a0 ((a0.fInterfaces.getD p1.toNat default).fName) r4 q15, trivial⟩ ?_
 refine then_n ?_
 refine cnd (decide (r4 < p1)) (fun b17 => ?_) (fun b17 => ?_)
 have h18 := cond_t b17 h16
 refine awp_seq (rg0 [2] 0 ⟨64, [(2, .int .i64 4)], []⟩ ?_)
 refine then_n (awp_ret (then_r (inb_r (then_r ?_))))
 obtain rfl := Option.some.inj h18
 exact round_r ⟨rfl, er0 (.int .i64 4)⟩
 have h19 := cond_f b17 h16
 refine awp_skip (then_n (awp_seq (awp_seq ?_)))
 obtain ⟨r5, q20, h21⟩ := bind_some h19
 refine rg [.pure (.bool r5)] [1, 3, 4, 12, 13, 14, 31] 2 ⟨64, [(1, .ref 0 0), (3, .int .i64 p1), (4, .ref 1 0), (12, sL 12 c_TInterface a0.fInterfaces), (13, .int .i64 (a0.fInterfaces.length : Int)), (14, .int .i64 p1), (31, .bool (!r5))], [.box (c_TRouter a0), .box (c_TInterface (a0.fInterfaces.getD p1.toNat default))]⟩ [] [⟨true, 84, [.agg (c_TInterface (a0.fInterfaces.getD p1.toNat default))], .pure (.bool r5)⟩] nil_all ⟨fun _ => model_rightInterface_ok (a0.fInterfaces.getD p1.toNat default) r5 q20, trivial⟩ ?_
 refine then_n ?_
 refine cnd (!r5) (fun b22 => ?_) (fun b22 => ?_)
 have h23 := cond_t b22 h21
 refine awp_seq (rg0 [2] 0 ⟨64, [(2, .int .i64 1)], []⟩ ?_)
 refine then_n (awp_ret (then_r (inb_r (then_r ?_))))
 obtain rfl := Option.some.inj h23
 exact round_r ⟨rfl, er0 (.int .i64 1)⟩
 have h24 := cond_f b22 h21
 refine awp_skip (then_n (awp_seq ?_))
 obtain ⟨c25, h26⟩ := gd_some h24
 refine rgc [1, 4, 12, 13, 14, 35, 36, 37] 2 ⟨64, [(1, .ref 0 0), (4, .ref 1 0), (12, sL 12 c_TInterface a0.fInterfaces), (13, .int .i64 (a0.fInterfaces.length : Int)), (14, .int .i64 p1), (35, .sl false 12 (p1.toNat - 0) (fun i => c_TInterface (a0.fInterfaces.getD (0 + i) default))), (36, .int .i64 ((p1.toNat - 0 : Nat) : Int)), (37, .int .i64 0)], [.box (c_TRouter a0), .box (c_TInterface (a0.fInterfaces.getD p1.toNat default))]⟩ [decide (0 ≤ p1), decide (p1 ≤ (a0.fInterfaces.length : Int))] c25 ?_
 refine then_le (s' := ⟨64, [(1, .ref 0 0), (4, .ref 1 0), (12, sL 12 c_TInterface a0.fInterfaces), (13, .int .i64 (a0.fInterfaces.length : Int)), (14, .int .i64 p1), (35, sL 12 c_TInterface ((a0.fInterfaces.drop 0).take (p1.toNat - 0))), (36, .int .i64 ((p1.toNat - 0 : Nat) : Int)), (37, .int .i64 0)], [.box (c_TRouter a0), .box (c_TInterface (a0.fInterfaces.getD p1.toNat default))]⟩) (le_sub (.cons Sub.rfl (.cons Sub.rfl (.cons Sub.rfl (.cons Sub.rfl (.cons Sub.rfl (.cons (sub_sl (len_cut _ _ _ (cut_hi (c25 _ (List.mem_cons_of_mem _ List.mem_cons_self)))) (cut_ext _ _ _ _)) (.cons Sub.rfl (.cons Sub.rfl .nil)))))))) (.cons .rfl (.cons .rfl .nil))) ?_
 refine awp_block ?_
 obtain ⟨y11, q42, h43⟩ := bind_some h26
 refine awp_le (s' := ⟨64, [(1, .ref 0 0), (4, .ref 1 0), (12, sL 12 c_TInterface a0.fInterfaces), (13, .int .i64 (a0.fInterfaces.length : Int)), (14, .int .i64 p1), (35, sL 12 c_TInterface ((a0.fInterfaces.drop 0).take (p1.toNat - 0))), (36, .int .i64 ((p1.toNat - 0 : Nat) : Int)), (37, .int .i64 0)], [.box (c_TRouter a0), .box (c_TInterface (a0.fInterfaces.getD p1.toNat default))]⟩) (le_rfl) ?_
 refine awp_mono (awp_loop (f := M.model_checkInterfaces_l2 a0 p1) (S := fun (p6 : Int) => ⟨64, [(1, .ref 0 0), (4, .ref 1 0), (12, sL 12 c_TInterface a0.fInterfaces), (13, .int .i64 (a0.fInterfaces.length : Int)), (14, .int .i64 p1), (35, sL 12 c_TInterface ((a0.fInterfaces.drop 0).take (p1.toNat - 0))), (36, .int .i64 ((p1.toNat - 0 : Nat) : Int)), (37, .int .i64 p6)], [.box (c_TRouter a0), .box (c_TInterface (a0.fInterfaces.getD p1.toNat default))]⟩) (O := (Sum.elim (fun z => OutE 2 (fun z => ⟨64, [(1, .ref 0 0), (12, sL 12 c_TInterface a0.fInterfaces), (13, .int .i64 (a0.fInterfaces.length : Int)), (14, .int .i64 p1)], [.box (c_TRouter a0)]⟩) z) (fun z => OutR Try.prog Try.f62 (.int .i64 z)))) ?_ (x := 0) (y := y11) (loopM_iter q42)) ?_
 intro p6 y7 h27
 unfold M.model_checkInterfaces_l2 at h27
 refine awp_seq (rg0 [1, 4, 12, 13, 14, 35, 36, 37, 38] 2 ⟨64, [(1, .ref 0 0), (4, .ref 1 0), (12, sL 12 c_TInterface a0.fInterfaces), (13, .int .i64 (a0.fInterfaces.length : Int)), (14, .int .i64 p1), (35, sL 12 c_TInterface ((a0.fInterfaces.drop 0).take (p1.toNat - 0))), (36, .int .i64 ((p1.toNat - 0 : Nat) : Int)), (37, .int .i64 p6), (38, .bool (decide (p6 < ((p1.toNat - 0 : Nat) : Int))))], [.box (c_TRouter a0), .box (c_TInterface (a0.fInterfaces.getD p1.toNat default))]⟩ ?_)
 refine then_n (awp_seq ?_)
 refine cnd (decide (p6 < ((p1.toNat - 0 : Nat) : Int))) (fun b28 => ?_) (fun b28 => ?_)
 have h29 := cond_t b28 h27
 refine awp_skip (then_n (awp_seq (awp_block (awp_seq ?_))))
 obtain ⟨c31, h32⟩ := gd_some h29
 refine rgc [1, 4, 6, 12, 13, 14, 35, 36, 37] 3 ⟨64, [(1, .ref 0 0), (4, .ref 1 0), (6, .ref 2 0), (12, sL 12 c_TInterface a0.fInterfaces), (13, .int .i64 (a0.fInterfaces.length : Int)), (14, .int .i64 p1), (35, sL 12 c_TInterface ((a0.fInterfaces.drop 0).take (p1.toNat - 0))), (36, .int .i64 ((p1.toNat - 0 : Nat) : Int)), (37, .int .i64 p6)], [.box (c_TRouter a0), .box (c_TInterface (a0.fInterfaces.getD p1.toNat default)), .box (c_TInterface (((a0.fInterfaces.drop 0).take (p1.toNat - 0)).getD p6.toNat default))]⟩ [decide (0 ≤ p6), decide (p6 < (((a0.fInterfaces.drop 0).take (p1.toNat - 0)).length : Int))] c31 ?_
 refine then_n (awp_seq ?_)
 obtain ⟨r8, q33, h34⟩ := bind_some h32
 obtain ⟨r9, q35, h36⟩ := bind_some h34
 obtain ⟨r10, q37, h38⟩ := bind_some h36
 refine rg [.pure (.agg (c_TPrefix r8)), .pure (.agg (c_TPrefix r9)), .pure (.bool r10)] [1, 4, 12, 13, 14, 35, 36, 37, 61] 2 ⟨64, [(1, .ref 0 0), (4, .ref 1 0), (12, sL 12 c_TInterface a0.fInterfaces), (13, .int .i64 (a0.fInterfaces.length : Int)), (14, .int .i64 p1), (35, sL 12 c_TInterface ((a0.fInterfaces.drop 0).take (p1.toNat - 0))), (36, .int .i64 ((p1.toNat - 0 : Nat) : Int)), (37, .int .i64 p6), (61, .bool (((((a0.fInterfaces.getD p1.toNat default).fLen) != 0) && (((((a0.fInterfaces.drop 0).take (p1.toNat - 0)).getD p6.toNat default).fLen) != 0)) && r10))], [.box (c_TRouter a0), .box (c_TInterface (a0.fInterfaces.getD p1.toNat default))]⟩ [] [⟨(((a0.fInterfaces.getD p1.toNat default).fLen) != 0) && (((((a0.fInterfaces.drop 0).take (p1.toNat - 0)).getD p6.toNat default).fLen) != 0), 86, [.int .u32 ((a0.fInterfaces.getD p1.toNat default).fAddr), .int .i64 ((a0.fInterfaces.getD p1.toNat default).fLen)], .pure (.agg (c_TPrefix r8))⟩, ⟨(((a0.fInterfaces.getD p1.toNat default).fLen) != 0) && (((((a0.fInterfaces.drop 0).take (p1.toNat - 0)).getD p6.toNat default).fLen) != 0), 86, [.int .u32 ((((a0.fInterfaces.drop 0).take (p1.toNat - 0)).getD p6.toNat default).fAddr), .int .i64 ((((a0.fInterfaces.drop 0).take (p1.toNat - 0)).getD p6.toNat default).fLen)], .pure (.agg (c_TPrefix r9))⟩, ⟨(((a0.fInterfaces.getD p1.toNat default).fLen) != 0) && (((((a0.fInterfaces.drop 0).take (p1.toNat - 0)).getD p6.toNat default).fLen) != 0), 85, [.agg (c_TPrefix r8), .agg (c_TPrefix r9)], .pure (.bool r10)⟩] nil_all ⟨fun hg => addr_Network_ok ((a0.fInterfaces.getD p1.toNat default).fAddr) ((a0.fInterfaces.getD p1.toNat default).fLen) r8 (gc_some q33 hg), fun hg => addr_Network_ok ((((a0.fInterfaces.drop 0).take (p1.toNat - 0)).getD p6.toNat default).fAddr) ((((a0.fInterfaces.drop 0).take (p1.toNat - 0)).getD p6.toNat default).fLen) r9 (gc_some q35 hg), fun hg => addr_Overlaps_ok r8 r9 r10 (gc_some q37 hg), trivial⟩ ?_
 refine then_n ?_
 refine cnd (((((a0.fInterfaces.getD p1.toNat default).fLen) != 0) && (((((a0.fInterfaces.drop 0).take (p1.toNat - 0)).getD p6.toNat default).fLen) != 0)) && r10) (fun b39 => ?_) (fun b39 => ?_)
 have h40 := cond_t b39 h38
 refine awp_seq (rg0 [2] 0 ⟨64, [(2, .int .i64 6)], []⟩ ?_)
 refine then_n (awp_ret (inb_r (then_r ?_)))
 obtain rfl := Option.some.inj h40
 exact round_r ⟨rfl, er0 (.int .i64 6)⟩
 have h41 := cond_f b39 h38
 refine awp_skip (inb_n (then_n (rg0 [1, 4, 12, 13, 14, 35, 36, 37] 2 ⟨64, [(1, .ref 0 0), (4, .ref 1 0), (12, sL 12 c_TInterface a0.fInterfaces), (13, .int .i64 (a0.fInterfaces.length : Int)), (14, .int .i64 p1), (35, sL 12 c_TInterface ((a0.fInterfaces.drop 0).take (p1.toNat - 0))), (36, .int .i64 ((p1.toNat - 0 : Nat) : Int)), (37, .int .i64 (wr .i64 (p6 + 1)))], [.box (c_TRouter a0), .box (c_TInterface (a0.fInterfaces.getD p1.toNat default))]⟩ ?_)))
 obtain rfl := Option.some.inj h41
 exact round_n (le_rfl)
 have h30 := cond_f b28 h27
 refine awp_exit (then_e ?_)
 obtain rfl := Option.some.inj h30
 exact round_e ⟨rfl, Le.trans (s' := ⟨64, [(1, .ref 0 0), (12, sL 12 c_TInterface a0.fInterfaces), (13, .int .i64 (a0.fInterfaces.length : Int)), (14, .int .i64 p1)], [.box (c_TRouter a0), .box (c_TInterface (a0.fInterfaces.getD p1.toNat default))]⟩) (kp [1, 12, 13, 14]) (le_cut (n := 1) (by kernel_rfl))⟩
 intro e44 s45 o46
 rcases y11 with g12 | y13
 have h47 := elim_l h43
 obtain ⟨rfl, l49⟩ := o46
 refine inb_here (inb_n ?_)
 refine then_le (s' := ⟨64, [(1, .ref 0 0), (12, sL 12 c_TInterface a0.fInterfaces), (13, .int .i64 (a0.fInterfaces.length : Int)), (14, .int .i64 p1)], [.box (c_TRouter a0)]⟩) (l49) ?_
 refine rg0 [1, 12, 13, 14] 1 ⟨64, [(1, .ref 0 0), (12, sL 12 c_TInterface a0.fInterfaces), (13, .int .i64 (a0.fInterfaces.length : Int)), (14, .int .i64 (wr .i64 (p1 + 1)))], [.box (c_TRouter a0)]⟩ ?_
 obtain rfl := Option.some.inj h47
 exact round_n (le_rfl)
 have h48 := elim_r h43
 obtain ⟨rfl, n50⟩ := o46
 refine inb_r (inb_r (then_r ?_))
 obtain rfl := Option.some.inj h48
 exact round_r ⟨rfl, n50⟩
 have h7 := cond_f b5 h4
 refine awp_exit (then_e ?_)
 obtain rfl := Option.some.inj h7
 exact round_e ⟨rfl, Le.trans (s' := ⟨64, [], [.box (c_TRouter a0)]⟩) (kp []) (le_cut (n := 0) (by kernel_rfl))⟩
 intro e53 s54 o55
 rcases y14 with g15 | y16
 have h56 := elim_l h52
 obtain ⟨rfl, l58⟩ := o55
 refine inb_here ?_
 refine then_le (s' := ⟨64, [], []⟩) (l58) ?_
 refine awp_seq (rg0 [2] 0 ⟨64, [(2, .int .i64 0)], []⟩ ?_)
 refine then_n (awp_ret ?_)
 obtain rfl := Option.some.inj h56
 exact er0 (.int .i64 0)
 have h57 := elim_r h52
 obtain ⟨rfl, n59⟩ := o55
 refine inb_r (then_r ?_)
 obtain rfl := Option.some.inj h57
 exact n59

/- netverify/model.PrefixList$1 -/
theorem model_PrefixList_1_ok (a0 : TPrefixList) (b0 : ByteArray) (r : Bool) (h : M.model_PrefixList_1 a0 b0 = some r) : Fn Try.prog 53 [.agg (c_TPrefixList a0), .pp (cs b0)] (.pure (.bool r)) := by
 unfold M.model_PrefixList_1 at h
 refine fn_pure Try.func53 rfl (by kernel_rfl) ?_
 refine awp_seq (rg0 [1, 2] 1 ⟨8, [(1, .pp (cs b0)), (2, .ref 0 0)], [.box (c_TPrefixList a0)]⟩ ?_)
 refine then_n (awp_seq (rg0 [3] 0 ⟨8, [(3, .bool (strEq a0.fName b0))], []⟩ ?_))
 refine then_n (awp_ret ?_)
 obtain rfl := Option.some.inj h
 exact er0 (.bool (strEq a0.fName b0))

/- slices.IndexFunc[[]netverify/api.PrefixList,netverify/api.PrefixList] -/
theorem slices_IndexFunc_api_PrefixList_api_PrefixList__model_PrefixList_1_ok (a0 : List TPrefixList) (a1c0 : ByteArray) (r : Int) (h : M.slices_IndexFunc_api_PrefixList_api_PrefixList__model_PrefixList_1 a0 a1c0 = some r) : Fn Try.prog 52 [sL 2 c_TPrefixList a0, .fn 53 [.pp (cs a1c0)]] (.pure (.int .i64 r)) := by
 unfold M.slices_IndexFunc_api_PrefixList_api_PrefixList__model_PrefixList_1 at h
 refine fn_pure Try.func52 rfl (by kernel_rfl) ?_
 refine awp_seq (rg0 [0, 1] 0 ⟨19, [(0, sL 2 c_TPrefixList a0), (1, .fn 53 [.pp (cs a1c0)])], []⟩ ?_)
 refine then_n (awp_seq (awp_seq (rg0 [0, 1, 7, 8] 0 ⟨19, [(0, sL 2 c_TPrefixList a0), (1, .fn 53 [.pp (cs a1c0)]), (7, .int .i64 (a0.length : Int)), (8, .int .i64 0)], []⟩ ?_)))
 refine then_n (awp_block ?_)
 obtain ⟨y4, q12, h13⟩ := bind_some h
 refine awp_le (s' := ⟨19, [(0, sL 2 c_TPrefixList a0), (1, .fn 53 [.pp (cs a1c0)]), (7, .int .i64 (a0.length : Int)), (8, .int .i64 0)], []⟩) (le_rfl) ?_
 refine awp_mono (awp_loop (f := M.slices_IndexFunc_api_PrefixList_api_PrefixList__model_PrefixList_1_l1 a0 a1c0) (S := fun (p1 : Int) => ⟨19, [(0, sL 2 c_TPrefixList a0), (1, .fn 53 [.pp (cs a1c0)]), (7, .int .i64 (a0.length : Int)), (8, .int .i64 p1)], []⟩) (O := (Sum.elim (fun z => OutE 0 (fun z => ⟨19, [], []⟩) z) (fun z => OutR Try.prog Try.f52 (.int .i64 z)))) ?_ (x := 0) (y := y4) (loopM_iter q12)) ?_
 intro p1 y2 h1
 unfold M.slices_IndexFunc_api_PrefixList_api_PrefixList__model_PrefixList_1_l1 at h1
 refine awp_seq (rg0 [0, 1, 7, 8, 9] 0 ⟨19, [(0, sL 2 c_TPrefixList a0), (1, .fn 53 [.pp (cs a1c0)]), (7, .int .i64 (a0.length : Int)), (8, .int .i64 p1), (9, .bool (decide (p1 < (a0.length : Int))))], []⟩ ?_)
 refine then_n (awp_seq ?_)
 refine cnd (decide (p1 < (a0.length : Int))) (fun b2 => ?_) (fun b2 => ?_)
 have h3 := cond_t b2 h1
 refine awp_skip (then_n (awp_seq (awp_block (awp_seq (rg0 [0, 1, 5, 7, 8] 0 ⟨19, [(0, sL 2 c_TPrefixList a0), (1, .fn 53 [.pp (cs a1c0)]), (5, .int .i64 p1), (7, .int .i64 (a0.length : Int)), (8, .int .i64 p1)], []⟩ ?_)))))
 refine then_n (awp_seq ?_)
 obtain ⟨r3, q5, h6⟩ := bind_some h3
 obtain ⟨c7, h8⟩ := gd_some h6
 refine rg [.pure (.bool r3)] [0, 1, 5, 7, 8, 16] 0 ⟨19, [(0, sL 2 c_TPrefixList a0), (1, .fn 53 [.pp (cs a1c0)]), (5, .int .i64 p1), (7, .int .i64 (a0.length : Int)), (8, .int .i64 p1), (16, .bool r3)], []⟩ [decide (0 ≤ p1), decide (p1 < (a0.length : Int))] [⟨true, 53, [.agg (c_TPrefixList (a0.getD p1.toNat default)), .pp (cs a1c0)], .pure (.bool r3)⟩] c7 ⟨fun _ => model_PrefixList_1_ok (a0.getD p1.toNat default) a1c0 r3 q5, trivial⟩ ?_
 refine then_n ?_
 refine cnd r3 (fun b9 => ?_) (fun b9 => ?_)
 have h10 := cond_t b9 h8
 refine awp_seq (rg0 [4] 0 ⟨19, [(4, .int .i64 p1)], []⟩ ?_)
 refine then_n (awp_ret (inb_r (then_r ?_)))
 obtain rfl := Option.some.inj h10
 exact round_r ⟨rfl, er0 (.int .i64 p1)⟩
 have h11 := cond_f b9 h8
 refine awp_skip (inb_n (then_n (rg0 [0, 1, 7, 8] 0 ⟨19, [(0, sL 2 c_TPrefixList a0), (1, .fn 53 [.pp (cs a1c0)]), (7, .int .i64 (a0.length : Int)), (8, .int .i64 (wr .i64 (p1 + 1)))], []⟩ ?_)))
 obtain rfl := Option.some.inj h11
 exact round_n (le_rfl)
 have h4 := cond_f b2 h1
 refine awp_exit (then_e ?_)
 obtain rfl := Option.some.inj h4
 exact round_e ⟨rfl, kp []⟩
 intro e14 s15 o16
 rcases y4 with g5 | y6
 have h17 := elim_l h13
 obtain ⟨rfl, l19⟩ := o16
 refine inb_here ?_
 refine then_le (s' := ⟨19, [], []⟩) (l19) ?_
 refine awp_seq (rg0 [4] 0 ⟨19, [(4, .int .i64 (-1))], []⟩ ?_)
 refine then_n (awp_ret ?_)
 obtain rfl := Option.some.inj h17
 exact er0 (.int .i64 (-1))
 have h18 := elim_r h13
 obtain ⟨rfl, n20⟩ := o16
 refine inb_r (then_r ?_)
 obtain rfl := Option.some.inj h18
 exact n20

/- netverify/model.PrefixList -/
theorem model_PrefixList_ok (a0 : TRouter) (a1 : ByteArray) (r : Int) (h : M.model_PrefixList a0 a1 = some r) : Fn Try.prog 17 [.agg (c_TRouter a0), .str a1] (.pure (.int .i64 r)) := by
 unfold M.model_PrefixList at h
 refine fn_pure Try.func17 rfl (by kernel_rfl) ?_
 refine awp_seq (rg0 [2, 3] 2 ⟨9, [(2, .ref 0 0), (3, .ref 1 0)], [.box (c_TRouter a0), .box [.str a1]]⟩ ?_)
 refine then_n (awp_seq ?_)
 obtain ⟨r1, q1, h2⟩ := bind_some h
 refine rg [.pure (.int .i64 r1)] [4] 0 ⟨9, [(4, .int .i64 r1)], []⟩ [] [⟨true, 52, [sL 2 c_TPrefixList a0.fLists, .fn 53 [.pp (cs a1)]], .pure (.int .i64 r1)⟩] nil_all ⟨fun _ => slices_IndexFunc_api_PrefixList_api_PrefixList__model_PrefixList_1_ok a0.fLists a1 r1 q1, trivial⟩ ?_
 refine then_n (awp_ret ?_)
 obtain rfl := Option.some.inj h2
 exact er0 (.int .i64 r1)

/- netverify/model.checkList -/
theorem model_checkList_ok (a0 : Int) (a1 : Int) (a2 : ByteArray) (a3 : Int) (a4 : Int) (r : Int) (h : M.model_checkList a0 a1 a2 a3 a4 = some r) : Fn Try.prog 87 [.int .i64 a0, .int .i64 a1, .str a2, .int .i64 a3, .int .i64 a4] (.pure (.int .i64 r)) := by
 unfold M.model_checkList at h
 refine fn_pure Try.func87 rfl (by kernel_rfl) ?_
 refine awp_seq (rg0 [0, 1, 2, 3, 4] 0 ⟨26, [(0, .int .i64 a0), (1, .int .i64 a1), (2, .str a2), (3, .int .i64 a3), (4, .int .i64 a4)], []⟩ ?_)
 refine then_n (awp_seq (awp_block (awp_seq ?_)))
 obtain ⟨r1, q1, h2⟩ := bind_some h
 refine rg [.pure (.bool r1)] [0, 1, 3, 4, 11] 0 ⟨26, [(0, .int .i64 a0), (1, .int .i64 a1), (3, .int .i64 a3), (4, .int .i64 a4), (11, .bool (!r1))], []⟩ [] [⟨true, 60, [.str a2], .pure (.bool r1)⟩] nil_all ⟨fun _ => scan_Name_ok a2 r1 q1, trivial⟩ ?_
 refine then_n ?_
 refine cnd (!r1) (fun b3 => ?_) (fun b3 => ?_)
 have h4 := cond_t b3 h2
 refine awp_seq (rg0 [10] 0 ⟨26, [(10, .int .i64 3)], []⟩ ?_)
 refine then_n (awp_ret (inb_r (then_r ?_)))
 obtain rfl := Option.some.inj h4
 exact er0 (.int .i64 3)
 have h5 := cond_f b3 h2
 refine awp_seq (rg0 [3, 4, 15] 0 ⟨26, [(3, .int .i64 a3), (4, .int .i64 a4), (15, .bool (decide (a1 < a0)))], []⟩ ?_)
 refine then_n ?_
 refine cnd (decide (a1 < a0)) (fun b6 => ?_) (fun b6 => ?_)
 have h7 := cond_t b6 h5
 refine awp_seq (rg0 [10] 0 ⟨26, [(10, .int .i64 4)], []⟩ ?_)
 refine then_n (awp_ret (inb_r (then_r ?_)))
 obtain rfl := Option.some.inj h7
 exact er0 (.int .i64 4)
 have h8 := cond_f b6 h5
 refine awp_seq (rg0 [3, 4, 19] 0 ⟨26, [(3, .int .i64 a3), (4, .int .i64 a4), (19, .bool (a3 == 0))], []⟩ ?_)
 refine then_n ?_
 refine cnd (a3 == 0) (fun b9 => ?_) (fun b9 => ?_)
 have h10 := cond_t b9 h8
 refine awp_seq (rg0 [10] 0 ⟨26, [(10, .int .i64 1)], []⟩ ?_)
 refine then_n (awp_ret (inb_r (then_r ?_)))
 obtain rfl := Option.some.inj h10
 exact er0 (.int .i64 1)
 have h11 := cond_f b9 h8
 refine awp_seq (rg0 [22] 0 ⟨26, [(22, .bool (decide (a3 > a4)))], []⟩ ?_)
 refine then_n ?_
 refine cnd (decide (a3 > a4)) (fun b12 => ?_) (fun b12 => ?_)
 have h13 := cond_t b12 h11
 refine awp_seq (rg0 [10] 0 ⟨26, [(10, .int .i64 7)], []⟩ ?_)
 refine then_n (awp_ret (inb_r (then_r ?_)))
 obtain rfl := Option.some.inj h13
 exact er0 (.int .i64 7)
 have h14 := cond_f b12 h11
 refine awp_skip (inb_n (then_n (awp_seq (rg0 [10] 0 ⟨26, [(10, .int .i64 0)], []⟩ ?_))))
 refine then_n (awp_ret ?_)
 obtain rfl := Option.some.inj h14
 exact er0 (.int .i64 0)

/- netverify/addr.Valid -/
theorem addr_Valid_ok (a0 : TPrefix) (r : Bool) (h : M.addr_Valid a0 = some r) : Fn Try.prog 88 [.agg (c_TPrefix a0)] (.pure (.bool r)) := by
 unfold M.addr_Valid at h
 refine fn_pure Try.func88 rfl (by kernel_rfl) ?_
 refine awp_seq (rg0 [1] 1 ⟨20, [(1, .ref 0 0)], [.box (c_TPrefix a0)]⟩ ?_)
 refine then_n (awp_seq ?_)
 obtain ⟨r1, q1, h2⟩ := bind_some h
 refine rg [.pure (.int .u32 r1)] [2] 0 ⟨20, [(2, .bool (((decide (a0.fLen ≥ 0)) && (decide (a0.fLen ≤ 32))) && ((bitD .andNot .u32 a0.fAddr r1) == 0)))], []⟩ [] [⟨(decide (a0.fLen ≥ 0)) && (decide (a0.fLen ≤ 32)), 97, [.int .i64 a0.fLen], .pure (.int .u32 r1)⟩] nil_all ⟨fun hg => addr_Mask_ok a0.fLen r1 (gc_some q1 hg), trivial⟩ ?_
 refine then_n (awp_ret ?_)
 obtain rfl := Option.some.inj h2
 exact er0 (.bool (((decide (a0.fLen ≥ 0)) && (decide (a0.fLen ≤ 32))) && ((bitD .andNot .u32 a0.fAddr r1) == 0)))

/- netverify/model.checkPrefixLists -/
theorem model_checkPrefixLists_ok (a0 : TRouter) (r : Int) (h : M.model_checkPrefixLists a0 = some r) : Fn Try.prog 63 [.agg (c_TRouter a0)] (.pure (.int .i64 r)) := by
 unfold M.model_checkPrefixLists at h
 refine fn_pure Try.func63 rfl (by kernel_rfl) ?_
 refine awp_seq (rg0 [1] 1 ⟨67, [(1, .ref 0 0)], [.box (c_TRouter a0)]⟩ ?_)
 refine then_n (awp_seq (awp_seq (rg0 [1, 11] 1 ⟨67, [(1, .ref 0 0), (11, .bool (decide ((a0.fLists.length : Int) > 8)))], [.box (c_TRouter a0)]⟩ ?_)))
 refine then_n ?_
 refine cnd (decide ((a0.fLists.length : Int) > 8)) (fun b1 => ?_) (fun b1 => ?_)
 have h2 := cond_t b1 h
 refine awp_seq (rg0 [2] 0 ⟨67, [(2, .int .i64 7)], []⟩ ?_)
 refine then_n (awp_ret (then_r ?_))
 obtain rfl := Option.some.inj h2
 exact er0 (.int .i64 7)
 have h3 := cond_f b1 h
 refine awp_skip (then_n (awp_seq (awp_seq (rg0 [1, 13, 14, 15] 1 ⟨67, [(1, .ref 0 0), (13, sL 2 c_TPrefixList a0.fLists), (14, .int .i64 (a0.fLists.length : Int)), (15, .int .i64 0)], [.box (c_TRouter a0)]⟩ ?_))))
 refine then_n (awp_block ?_)
 obtain ⟨y11, q37, h38⟩ := bind_some h3
 refine awp_le (s' := ⟨67, [(1, .ref 0 0), (13, sL 2 c_TPrefixList a0.fLists), (14, .int .i64 (a0.fLists.length : Int)), (15, .int .i64 0)], [.box (c_TRouter a0)]⟩) (le_rfl) ?_
 refine awp_mono (awp_loop (f := M.model_checkPrefixLists_l1 a0) (S := fun (p1 : Int) => ⟨67, [(1, .ref 0 0), (13, sL 2 c_TPrefixList a0.fLists), (14, .int .i64 (a0.fLists.length : Int)), (15, .int .i64 p1)], [.box (c_TRouter a0)]⟩) (O := (Sum.elim (fun z => OutE 0 (fun z => ⟨67, [], []⟩) z) (fun z => OutR Try.prog Try.f63 (.int .i64 z)))) ?_ (x := 0) (y := y11) (loopM_iter q37)) ?_
 intro p1 y2 h4
 unfold M.model_checkPrefixLists_l1 at h4
 refine awp_seq (rg0 [1, 13, 14, 15, 16] 1 ⟨67, [(1, .ref 0 0), (13, sL 2 c_TPrefixList a0.fLists), (14, .int .i64 (a0.fLists.length : Int)), (15, .int .i64 p1), (16, .bool (decide (p1 < (a0.fLists.length : Int))))], [.box (c_TRouter a0)]⟩ ?_)
 refine then_n (awp_seq ?_)
 refine cnd (decide (p1 < (a0.fLists.length : Int))) (fun b5 => ?_) (fun b5 => ?_)
 have h6 := cond_t b5 h4
 refine awp_skip (then_n (awp_seq (awp_block (awp_seq ?_))))
 obtain ⟨c8, h9⟩ := gd_some h6
 refine rgc [1, 3, 4, 13, 14, 15] 2 ⟨67, [(1, .ref 0 0), (3, .int .i64 p1), (4, .ref 1 0), (13, sL 2 c_TPrefixList a0.fLists), (14, .int .i64 (a0.fLists.length : Int)), (15, .int .i64 p1)], [.box (c_TRouter a0), .box (c_TPrefixList (a0.fLists.getD p1.toNat default))]⟩ [decide (0 ≤ p1), decide (p1 < (a0.fLists.length : Int))] c8 ?_
 refine then_n (awp_seq (awp_seq ?_))
 obtain ⟨r3, q10, h11⟩ := bind_some h9
 obtain ⟨r4, q12, h13⟩ := bind_some h11
 refine rg [.pure (.int .i64 r3), .pure (.int .i64 r4)] [1, 4, 5, 13, 14, 15] 2 ⟨67, [(1, .ref 0 0), (4, .ref 1 0), (5, .int .i64 r4), (13, sL 2 c_TPrefixList a0.fLists), (14, .int .i64 (a0.fLists.length : Int)), (15, .int .i64 p1)], [.box (c_TRouter a0), .box (c_TPrefixList (a0.fLists.getD p1.toNat default))]⟩ [] [⟨true, 17, [.agg (c_TRouter a0), .str ((a0.fLists.getD p1.toNat default).fName)], .pure (.int .i64 r3)⟩, ⟨true, 87, [.int .i64 p1, .int .i64 r3, .str ((a0.fLists.getD p1.toNat default).fName), .int .i64 (((a0.fLists.getD p1.toNat default).fRules).length : Int), .int .i64 16], .pure (.int .i64 r4)⟩] nil_all ⟨fun _ => model_PrefixList_ok a0 ((a0.fLists.getD p1.toNat default).fName) r3 q10, fun _ => model_checkList_ok p1 r3 ((a0.fLists.getD p1.toNat default).fName) (((a0.fLists.getD p1.toNat default).fRules).length : Int) 16 r4 q12, trivial⟩ ?_
 refine then_n (awp_seq (rg0 [1, 4, 5, 13, 14, 15, 32] 2 ⟨67, [(1, .ref 0 0), (4, .ref 1 0), (5, .int .i64 r4), (13, sL 2 c_TPrefixList a0.fLists), (14, .int .i64 (a0.fLists.length : Int)), (15, .int .i64 p1), (32, .bool (r4 != 0))], [.box (c_TRouter a0), .box (c_TPrefixList (a0.fLists.getD p1.toNat default))]⟩ ?_))
 refine then_n ?_
 refine cnd (r4 != 0) (fun b14 => ?_) (fun b14 => ?_)
 have h15 := cond_t b14 h13
 refine awp_seq (rg0 [2] 0 ⟨67, [(2, .int .i64 r4)], []⟩ ?_)
 refine then_n (awp_ret (then_r (inb_r (then_r ?_))))
 obtain rfl := Option.some.inj h15
 exact round_r ⟨rfl, er0 (.int .i64 r4)⟩
 have h16 := cond_f b14 h13
 refine awp_skip (then_n (awp_seq (rg0 [1, 13, 14, 15, 35, 36, 37] 1 ⟨67, [(1, .ref 0 0), (13, sL 2 c_TPrefixList a0.fLists), (14, .int .i64 (a0.fLists.length : Int)), (15, .int .i64 p1), (35, sL 5 c_TPrefixRule ((a0.fLists.getD p1.toNat default).fRules)), (36, .int .i64 (((a0.fLists.getD p1.toNat default).fRules).length : Int)), (37, .int .i64 0)], [.box (c_TRouter a0)]⟩ ?_)))
 refine then_n (awp_block ?_)
 obtain ⟨y8, q28, h29⟩ := bind_some h16
 refine awp_le (s' := ⟨67, [(1, .ref 0 0), (13, sL 2 c_TPrefixList a0.fLists), (14, .int .i64 (a0.fLists.length : Int)), (15, .int .i64 p1), (35, sL 5 c_TPrefixRule ((a0.fLists.getD p1.toNat default).fRules)), (36, .int .i64 (((a0.fLists.getD p1.toNat default).fRules).length : Int)), (37, .int .i64 0)], [.box (c_TRouter a0)]⟩) (le_rfl) ?_
 refine awp_mono (awp_loop (f := M.model_checkPrefixLists_l2 a0 p1) (S := fun (p5 : Int) => ⟨67, [(1, .ref 0 0), (13, sL 2 c_TPrefixList a0.fLists), (14, .int .i64 (a0.fLists.length : Int)), (15, .int .i64 p1), (35, sL 5 c_TPrefixRule ((a0.fLists.getD p1.toNat default).fRules)), (36, .int .i64 (((a0.fLists.getD p1.toNat default).fRules).length : Int)), (37, .int .i64 p5)], [.box (c_TRouter a0)]⟩) (O := (Sum.elim (fun z => OutE 2 (fun z => ⟨67, [(1, .ref 0 0), (13, sL 2 c_TPrefixList a0.fLists), (14, .int .i64 (a0.fLists.length : Int)), (15, .int .i64 p1)], [.box (c_TRouter a0)]⟩) z) (fun z => OutR Try.prog Try.f63 (.int .i64 z)))) ?_ (x := 0) (y := y8) (loopM_iter q28)) ?_
 intro p5 y6 h17
 unfold M.model_checkPrefixLists_l2 at h17
 refine awp_seq (rg0 [1, 13, 14, 15, 35, 36, 37, 38] 1 ⟨67, [(1, .ref 0 0), (13, sL 2 c_TPrefixList a0.fLists), (14, .int .i64 (a0.fLists.length : Int)), (15, .int .i64 p1), (35, sL 5 c_TPrefixRule ((a0.fLists.getD p1.toNat default).fRules)), (36, .int .i64 (((a0.fLists.getD p1.toNat default).fRules).length : Int)), (37, .int .i64 p5), (38, .bool (decide (p5 < (((a0.fLists.getD p1.toNat default).fRules).length : Int))))], [.box (c_TRouter a0)]⟩ ?_)
 refine then_n (awp_seq ?_)
 refine cnd (decide (p5 < (((a0.fLists.getD p1.toNat default).fRules).length : Int))) (fun b18 => ?_) (fun b18 => ?_)
 have h19 := cond_t b18 h17
 refine awp_skip (then_n (awp_seq (awp_block (awp_seq ?_))))
 obtain ⟨c21, h22⟩ := gd_some h19
 refine rgc [1, 7, 13, 14, 15, 35, 36, 37] 2 ⟨67, [(1, .ref 0 0), (7, .ref 1 0), (13, sL 2 c_TPrefixList a0.fLists), (14, .int .i64 (a0.fLists.length : Int)), (15, .int .i64 p1), (35, sL 5 c_TPrefixRule ((a0.fLists.getD p1.toNat default).fRules)), (36, .int .i64 (((a0.fLists.getD p1.toNat default).fRules).length : Int)), (37, .int .i64 p5)], [.box (c_TRouter a0), .box (c_TPrefixRule (((a0.fLists.getD p1.toNat default).fRules).getD p5.toNat default))]⟩ [decide (0 ≤ p5), decide (p5 < (((a0.fLists.getD p1.toNat default).fRules).length : Int))] c21 ?_
 refine then_n (awp_seq ?_)
 obtain ⟨r7, q23, h24⟩ := bind_some h22
 refine rg [.pure (.bool r7)] [1, 13, 14, 15, 35, 36, 37, 64] 1 ⟨67, [(1, .ref 0 0), (13, sL 2 c_TPrefixList a0.fLists), (14, .int .i64 (a0.fLists.length : Int)), (15, .int .i64 p1), (35, sL 5 c_TPrefixRule ((a0.fLists.getD p1.toNat default).fRules)), (36, .int .i64 (((a0.fLists.getD p1.toNat default).fRules).length : Int)), (37, .int .i64 p5), (64, .bool ((((!r7) || (decide (((((a0.fLists.getD p1.toNat default).fRules).getD p5.toNat default).fMin) < (((((a0.fLists.getD p1.toNat default).fRules).getD p5.toNat default).fPrefix).fLen)))) || (decide (((((a0.fLists.getD p1.toNat default).fRules).getD p5.toNat default).fMax) < ((((a0.fLists.getD p1.toNat default).fRules).getD p5.toNat default).fMin)))) || (decide (((((a0.fLists.getD p1.toNat default).fRules).getD p5.toNat default).fMax) > 32))))], [.box (c_TRouter a0)]⟩ [] [⟨true, 88, [.agg (c_TPrefix ((((a0.fLists.getD p1.toNat default).fRules).getD p5.toNat default).fPrefix))], .pure (.bool r7)⟩] nil_all ⟨fun _ => addr_Valid_ok ((((a0.fLists.getD p1.toNat default).fRules).getD p5.toNat default).fPrefix) r7 q23, trivial⟩ ?_
 refine then_n ?_
 refine cnd ((((!r7) || (decide (((((a0.fLists.getD p1.toNat default).fRules).getD p5.toNat default).fMin) < (((((a0.fLists.getD p1.toNat default).fRules).getD p5.toNat default).fPrefix).fLen)))) || (decide (((((a0.fLists.getD p1.toNat default).fRules).getD p5.toNat default).fMax) < ((((a0.fLists.getD p1.toNat default).fRules).getD p5.toNat default).fMin)))) || (decide (((((a0.fLists.getD p1.toNat default).fRules).getD p5.toNat default).fMax) > 32))) (fun b25 => ?_) (fun b25 => ?_)
 have h26 := cond_t b25 h24
 refine awp_seq (rg0 [2] 0 ⟨67, [(2, .int .i64 1)], []⟩ ?_)
 refine then_n (awp_ret (inb_r (then_r ?_)))
 obtain rfl := Option.some.inj h26
 exact round_r ⟨rfl, er0 (.int .i64 1)⟩
 have h27 := cond_f b25 h24
 refine awp_skip (inb_n (then_n (rg0 [1, 13, 14, 15, 35, 36, 37] 1 ⟨67, [(1, .ref 0 0), (13, sL 2 c_TPrefixList a0.fLists), (14, .int .i64 (a0.fLists.length : Int)), (15, .int .i64 p1), (35, sL 5 c_TPrefixRule ((a0.fLists.getD p1.toNat default).fRules)), (36, .int .i64 (((a0.fLists.getD p1.toNat default).fRules).length : Int)), (37, .int .i64 (wr .i64 (p5 + 1)))], [.box (c_TRouter a0)]⟩ ?_)))
 obtain rfl := Option.some.inj h27
 exact round_n (le_rfl)
 have h20 := cond_f b18 h17
 refine awp_exit (then_e ?_)
 obtain rfl := Option.some.inj h20
 exact round_e ⟨rfl, kp [1, 13, 14, 15]⟩
 intro e30 s31 o32
 rcases y8 with g9 | y10
 have h33 := elim_l h29
 obtain ⟨rfl, l35⟩ := o32
 refine inb_here (inb_n ?_)
 refine then_le (s' := ⟨67, [(1, .ref 0 0), (13, sL 2 c_TPrefixList a0.fLists), (14, .int .i64 (a0.fLists.length : Int)), (15, .int .i64 p1)], [.box (c_TRouter a0)]⟩) (l35) ?_
 refine rg0 [1, 13, 14, 15] 1 ⟨67, [(1, .ref 0 0), (13, sL 2 c_TPrefixList a0.fLists), (14, .int .i64 (a0.fLists.length : Int)), (15, .int .i64 (wr .i64 (p1 + 1)))], [.box (c_TRouter a0)]⟩ ?_
 obtain rfl := Option.some.inj h33
 exact round_n (le_rfl)
 have h34 := elim_r h29
 obtain ⟨rfl, n36⟩ := o32
 refine inb_r (inb_r (then_r ?_))
 obtain rfl := Option.some.inj h34
 exact round_r ⟨rfl, n36⟩
 have h7 := cond_f b5 h4
 refine awp_exit (then_e ?_)
 obtain rfl := Option.some.inj h7
 exact round_e ⟨rfl, Le.trans (s' := ⟨67, [], [.box (c_TRouter a0)]⟩) (kp []) (le_cut (n := 0) (by kernel_rfl))⟩
 intro e39 s40 o41
 rcases y11 with g12 | y13
 have h42 := elim_l h38
 obtain ⟨rfl, l44⟩ := o41
 refine inb_here ?_
 refine then_le (s' := ⟨67, [], []⟩) (l44) ?_
 refine awp_seq (rg0 [2] 0 ⟨67, [(2, .int .i64 0)], []⟩ ?_)
 refine then_n (awp_ret ?_)
 obtain rfl := Option.some.inj h42
 exact er0 (.int .i64 0)
 have h43 := elim_r h38
 obtain ⟨rfl, n45⟩ := o41
 refine inb_r (then_r ?_)
 obtain rfl := Option.some.inj h43
 exact n45

/- netverify/model.RouteMap$1 -/
theorem model_RouteMap_1_ok (a0 : TRouteMap) (b0 : ByteArray) (r : Bool) (h : M.model_RouteMap_1 a0 b0 = some r) : Fn Try.prog 55 [.agg (c_TRouteMap a0), .pp (cs b0)] (.pure (.bool r)) := by
 unfold M.model_RouteMap_1 at h
 refine fn_pure Try.func55 rfl (by kernel_rfl) ?_
 refine awp_seq (rg0 [1, 2] 1 ⟨8, [(1, .pp (cs b0)), (2, .ref 0 0)], [.box (c_TRouteMap a0)]⟩ ?_)
 refine then_n (awp_seq (rg0 [3] 0 ⟨8, [(3, .bool (strEq a0.fName b0))], []⟩ ?_))
 refine then_n (awp_ret ?_)
 obtain rfl := Option.some.inj h
 exact er0 (.bool (strEq a0.fName b0))

/- slices.IndexFunc[[]netverify/api.RouteMap,netverify/api.RouteMap] -/
theorem slices_IndexFunc_api_RouteMap_api_RouteMap__model_RouteMap_1_ok (a0 : List TRouteMap) (a1c0 : ByteArray) (r : Int) (h : M.slices_IndexFunc_api_RouteMap_api_RouteMap__model_RouteMap_1 a0 a1c0 = some r) : Fn Try.prog 54 [sL 2 c_TRouteMap a0, .fn 55 [.pp (cs a1c0)]] (.pure (.int .i64 r)) := by
 unfold M.slices_IndexFunc_api_RouteMap_api_RouteMap__model_RouteMap_1 at h
 refine fn_pure Try.func54 rfl (by kernel_rfl) ?_
 refine awp_seq (rg0 [0, 1] 0 ⟨19, [(0, sL 2 c_TRouteMap a0), (1, .fn 55 [.pp (cs a1c0)])], []⟩ ?_)
 refine then_n (awp_seq (awp_seq (rg0 [0, 1, 7, 8] 0 ⟨19, [(0, sL 2 c_TRouteMap a0), (1, .fn 55 [.pp (cs a1c0)]), (7, .int .i64 (a0.length : Int)), (8, .int .i64 0)], []⟩ ?_)))
 refine then_n (awp_block ?_)
 obtain ⟨y4, q12, h13⟩ := bind_some h
 refine awp_le (s' := ⟨19, [(0, sL 2 c_TRouteMap a0), (1, .fn 55 [.pp (cs a1c0)]), (7, .int .i64 (a0.length : Int)), (8, .int .i64 0)], []⟩) (le_rfl) ?_
 refine awp_mono (awp_loop (f := M.slices_IndexFunc_api_RouteMap_api_RouteMap__model_RouteMap_1_l1 a0 a1c0) (S := fun (p1 : Int) => ⟨19, [(0, sL 2 c_TRouteMap a0), (1, .fn 55 [.pp (cs a1c0)]), (7, .int .i64 (a0.length : Int)), (8, .int .i64 p1)], []⟩) (O := (Sum.elim (fun z => OutE 0 (fun z => ⟨19, [], []⟩) z) (fun z => OutR Try.prog Try.f54 (.int .i64 z)))) ?_ (x := 0) (y := y4) (loopM_iter q12)) ?_
 intro p1 y2 h1
 unfold M.slices_IndexFunc_api_RouteMap_api_RouteMap__model_RouteMap_1_l1 at h1
 refine awp_seq (rg0 [0, 1, 7, 8, 9] 0 ⟨19, [(0, sL 2 c_TRouteMap a0), (1, .fn 55 [.pp (cs a1c0)]), (7, .int .i64 (a0.length : Int)), (8, .int .i64 p1), (9, .bool (decide (p1 < (a0.length : Int))))], []⟩ ?_)
 refine then_n (awp_seq ?_)
 refine cnd (decide (p1 < (a0.length : Int))) (fun b2 => ?_) (fun b2 => ?_)
 have h3 := cond_t b2 h1
 refine awp_skip (then_n (awp_seq (awp_block (awp_seq (rg0 [0, 1, 5, 7, 8] 0 ⟨19, [(0, sL 2 c_TRouteMap a0), (1, .fn 55 [.pp (cs a1c0)]), (5, .int .i64 p1), (7, .int .i64 (a0.length : Int)), (8, .int .i64 p1)], []⟩ ?_)))))
 refine then_n (awp_seq ?_)
 obtain ⟨r3, q5, h6⟩ := bind_some h3
 obtain ⟨c7, h8⟩ := gd_some h6
 refine rg [.pure (.bool r3)] [0, 1, 5, 7, 8, 16] 0 ⟨19, [(0, sL 2 c_TRouteMap a0), (1, .fn 55 [.pp (cs a1c0)]), (5, .int .i64 p1), (7, .int .i64 (a0.length : Int)), (8, .int .i64 p1), (16, .bool r3)], []⟩ [decide (0 ≤ p1), decide (p1 < (a0.length : Int))] [⟨true, 55, [.agg (c_TRouteMap (a0.getD p1.toNat default)), .pp (cs a1c0)], .pure (.bool r3)⟩] c7 ⟨fun _ => model_RouteMap_1_ok (a0.getD p1.toNat default) a1c0 r3 q5, trivial⟩ ?_
 refine then_n ?_
 refine cnd r3 (fun b9 => ?_) (fun b9 => ?_)
 have h10 := cond_t b9 h8
 refine awp_seq (rg0 [4] 0 ⟨19, [(4, .int .i64 p1)], []⟩ ?_)
 refine then_n (awp_ret (inb_r (then_r ?_)))
 obtain rfl := Option.some.inj h10
 exact round_r ⟨rfl, er0 (.int .i64 p1)⟩
 have h11 := cond_f b9 h8
 refine awp_skip (inb_n (then_n (rg0 [0, 1, 7, 8] 0 ⟨19, [(0, sL 2 c_TRouteMap a0), (1, .fn 55 [.pp (cs a1c0)]), (7, .int .i64 (a0.length : Int)), (8, .int .i64 (wr .i64 (p1 + 1)))], []⟩ ?_)))
 obtain rfl := Option.some.inj h11
 exact round_n (le_rfl)
 have h4 := cond_f b2 h1
 refine awp_exit (then_e ?_)
 obtain rfl := Option.some.inj h4
 exact round_e ⟨rfl, kp []⟩
 intro e14 s15 o16
 rcases y4 with g5 | y6
 have h17 := elim_l h13
 obtain ⟨rfl, l19⟩ := o16
 refine inb_here ?_
 refine then_le (s' := ⟨19, [], []⟩) (l19) ?_
 refine awp_seq (rg0 [4] 0 ⟨19, [(4, .int .i64 (-1))], []⟩ ?_)
 refine then_n (awp_ret ?_)
 obtain rfl := Option.some.inj h17
 exact er0 (.int .i64 (-1))
 have h18 := elim_r h13
 obtain ⟨rfl, n20⟩ := o16
 refine inb_r (then_r ?_)
 obtain rfl := Option.some.inj h18
 exact n20

/- netverify/model.RouteMap -/
theorem model_RouteMap_ok (a0 : TRouter) (a1 : ByteArray) (r : Int) (h : M.model_RouteMap a0 a1 = some r) : Fn Try.prog 19 [.agg (c_TRouter a0), .str a1] (.pure (.int .i64 r)) := by
 unfold M.model_RouteMap at h
 refine fn_pure Try.func19 rfl (by kernel_rfl) ?_
 refine awp_seq (rg0 [2, 3] 2 ⟨9, [(2, .ref 0 0), (3, .ref 1 0)], [.box (c_TRouter a0), .box [.str a1]]⟩ ?_)
 refine then_n (awp_seq ?_)
 obtain ⟨r1, q1, h2⟩ := bind_some h
 refine rg [.pure (.int .i64 r1)] [4] 0 ⟨9, [(4, .int .i64 r1)], []⟩ [] [⟨true, 54, [sL 2 c_TRouteMap a0.fMaps, .fn 55 [.pp (cs a1)]], .pure (.int .i64 r1)⟩] nil_all ⟨fun _ => slices_IndexFunc_api_RouteMap_api_RouteMap__model_RouteMap_1_ok a0.fMaps a1 r1 q1, trivial⟩ ?_
 refine then_n (awp_ret ?_)
 obtain rfl := Option.some.inj h2
 exact er0 (.int .i64 r1)

/- netverify/model.rightClause -/
theorem model_rightClause_ok (a0 : TClause) (r : Bool) (h : M.model_rightClause a0 = some r) : Fn Try.prog 89 [.agg (c_TClause a0)] (.pure (.bool r)) := by
 unfold M.model_rightClause at h
 refine fn_pure Try.func89 rfl (by kernel_rfl) ?_
 refine awp_seq (rg0 [1] 1 ⟨26, [(1, .ref 0 0)], [.box (c_TClause a0)]⟩ ?_)
 refine then_n (awp_seq ?_)
 obtain ⟨r1, q1, h2⟩ := bind_some h
 obtain ⟨r2, q3, h4⟩ := bind_some h2
 obtain ⟨r3, q5, h6⟩ := bind_some h4
 obtain ⟨r4, q7, h8⟩ := bind_some h6
 obtain ⟨r5, q9, h10⟩ := bind_some h8
 refine rg [.pure (.bool r1), .pure (.bool r2), .pure (.bool r3), .pure (.bool r4), .pure (.bool r5)] [2] 0 ⟨26, [(2, .bool ((((r1 && r2) && r3) && r4) && r5))], []⟩ [] [⟨true, 61, [.int .i64 a0.fTag, .int .i64 (-1), .int .i64 65535], .pure (.bool r1)⟩, ⟨r1, 61, [.int .i64 a0.fSetMetric, .int .i64 (-1), .int .i64 16777215], .pure (.bool r2)⟩, ⟨r1 && r2, 61, [.int .i64 a0.fSetTag, .int .i64 (-1), .int .i64 65535], .pure (.bool r3)⟩, ⟨(r1 && r2) && r3, 61, [.int .i64 a0.fSetPref, .int .i64 (-1), .int .i64 1000000], .pure (.bool r4)⟩, ⟨((r1 && r2) && r3) && r4, 61, [.int .i64 a0.fPrepend, .int .i64 0, .int .i64 8], .pure (.bool r5)⟩] nil_all ⟨fun _ => model_within_ok a0.fTag (-1) 65535 r1 q1, fun hg => model_within_ok a0.fSetMetric (-1) 16777215 r2 (gc_some q3 hg), fun hg => model_within_ok a0.fSetTag (-1) 65535 r3 (gc_some q5 hg), fun hg => model_within_ok a0.fSetPref (-1) 1000000 r4 (gc_some q7 hg), fun hg => model_within_ok a0.fPrepend 0 8 r5 (gc_some q9 hg), trivial⟩ ?_
 refine then_n (awp_ret ?_)
 obtain rfl := Option.some.inj h10
 exact er0 (.bool ((((r1 && r2) && r3) && r4) && r5))

/- netverify/model.checkRouteMaps -/
theorem model_checkRouteMaps_ok (a0 : TRouter) (r : Int) (h : M.model_checkRouteMaps a0 = some r) : Fn Try.prog 64 [.agg (c_TRouter a0)] (.pure (.int .i64 r)) := by
 unfold M.model_checkRouteMaps at h
 refine fn_pure Try.func64 rfl (by kernel_rfl) ?_
 refine awp_seq (rg0 [1] 1 ⟨56, [(1, .ref 0 0)], [.box (c_TRouter a0)]⟩ ?_)
 refine then_n (awp_seq (awp_seq (rg0 [1, 11] 1 ⟨56, [(1, .ref 0 0), (11, .bool (decide ((a0.fMaps.length : Int) > 8)))], [.box (c_TRouter a0)]⟩ ?_)))
 refine then_n ?_
 refine cnd (decide ((a0.fMaps.length : Int) > 8)) (fun b1 => ?_) (fun b1 => ?_)
 have h2 := cond_t b1 h
 refine awp_seq (rg0 [2] 0 ⟨56, [(2, .int .i64 7)], []⟩ ?_)
 refine then_n (awp_ret (then_r ?_))
 obtain rfl := Option.some.inj h2
 exact er0 (.int .i64 7)
 have h3 := cond_f b1 h
 refine awp_skip (then_n (awp_seq (awp_seq (rg0 [1, 13, 14, 15] 1 ⟨56, [(1, .ref 0 0), (13, sL 2 c_TRouteMap a0.fMaps), (14, .int .i64 (a0.fMaps.length : Int)), (15, .int .i64 0)], [.box (c_TRouter a0)]⟩ ?_))))
 refine then_n (awp_block ?_)
 obtain ⟨y12, q42, h43⟩ := bind_some h3
 refine awp_le (s' := ⟨56, [(1, .ref 0 0), (13, sL 2 c_TRouteMap a0.fMaps), (14, .int .i64 (a0.fMaps.length : Int)), (15, .int .i64 0)], [.box (c_TRouter a0)]⟩) (le_rfl) ?_
 refine awp_mono (awp_loop (f := M.model_checkRouteMaps_l1 a0) (S := fun (p1 : Int) => ⟨56, [(1, .ref 0 0), (13, sL 2 c_TRouteMap a0.fMaps), (14, .int .i64 (a0.fMaps.length : Int)), (15, .int .i64 p1)], [.box (c_TRouter a0)]⟩) (O := (Sum.elim (fun z => OutE 0 (fun z => ⟨56, [], []⟩) z) (fun z => OutR Try.prog Try.f64 (.int .i64 z)))) ?_ (x := 0) (y := y12) (loopM_iter q42)) ?_
 intro p1 y2 h4
 unfold M.model_checkRouteMaps_l1 at h4
 refine awp_seq (rg0 [1, 13, 14, 15, 16] 1 ⟨56, [(1, .ref 0 0), (13, sL 2 c_TRouteMap a0.fMaps), (14, .int .i64 (a0.fMaps.length : Int)), (15, .int .i64 p1), (16, .bool (decide (p1 < (a0.fMaps.length : Int))))], [.box (c_TRouter a0)]⟩ ?_)
 refine then_n (awp_seq ?_)
 refine cnd (decide (p1 < (a0.fMaps.length : Int))) (fun b5 => ?_) (fun b5 => ?_)
 have h6 := cond_t b5 h4
 refine awp_skip (then_n (awp_seq (awp_block (awp_seq ?_))))
 obtain ⟨c8, h9⟩ := gd_some h6
 refine rgc [1, 3, 4, 13, 14, 15] 2 ⟨56, [(1, .ref 0 0), (3, .int .i64 p1), (4, .ref 1 0), (13, sL 2 c_TRouteMap a0.fMaps), (14, .int .i64 (a0.fMaps.length : Int)), (15, .int .i64 p1)], [.box (c_TRouter a0), .box (c_TRouteMap (a0.fMaps.getD p1.toNat default))]⟩ [decide (0 ≤ p1), decide (p1 < (a0.fMaps.length : Int))] c8 ?_
 refine then_n (awp_seq (awp_seq ?_))
 obtain ⟨r3, q10, h11⟩ := bind_some h9
 obtain ⟨r4, q12, h13⟩ := bind_some h11
 refine rg [.pure (.int .i64 r3), .pure (.int .i64 r4)] [1, 4, 5, 13, 14, 15] 2 ⟨56, [(1, .ref 0 0), (4, .ref 1 0), (5, .int .i64 r4), (13, sL 2 c_TRouteMap a0.fMaps), (14, .int .i64 (a0.fMaps.length : Int)), (15, .int .i64 p1)], [.box (c_TRouter a0), .box (c_TRouteMap (a0.fMaps.getD p1.toNat default))]⟩ [] [⟨true, 19, [.agg (c_TRouter a0), .str ((a0.fMaps.getD p1.toNat default).fName)], .pure (.int .i64 r3)⟩, ⟨true, 87, [.int .i64 p1, .int .i64 r3, .str ((a0.fMaps.getD p1.toNat default).fName), .int .i64 (((a0.fMaps.getD p1.toNat default).fClauses).length : Int), .int .i64 8], .pure (.int .i64 r4)⟩] nil_all ⟨fun _ => model_RouteMap_ok a0 ((a0.fMaps.getD p1.toNat default).fName) r3 q10, fun _ => model_checkList_ok p1 r3 ((a0.fMaps.getD p1.toNat default).fName) (((a0.fMaps.getD p1.toNat default).fClauses).length : Int) 8 r4 q12, trivial⟩ ?_
 refine then_n (awp_seq (rg0 [1, 4, 5, 13, 14, 15, 32] 2 ⟨56, [(1, .ref 0 0), (4, .ref 1 0), (5, .int .i64 r4), (13, sL 2 c_TRouteMap a0.fMaps), (14, .int .i64 (a0.fMaps.length : Int)), (15, .int .i64 p1), (32, .bool (r4 != 0))], [.box (c_TRouter a0), .box (c_TRouteMap (a0.fMaps.getD p1.toNat default))]⟩ ?_))
 refine then_n ?_
 refine cnd (r4 != 0) (fun b14 => ?_) (fun b14 => ?_)
 have h15 := cond_t b14 h13
 refine awp_seq (rg0 [2] 0 ⟨56, [(2, .int .i64 r4)], []⟩ ?_)
 refine then_n (awp_ret (then_r (inb_r (then_r ?_))))
 obtain rfl := Option.some.inj h15
 exact round_r ⟨rfl, er0 (.int .i64 r4)⟩
 have h16 := cond_f b14 h13
 refine awp_skip (then_n (awp_seq (rg0 [1, 13, 14, 15, 35, 36, 37] 1 ⟨56, [(1, .ref 0 0), (13, sL 2 c_TRouteMap a0.fMaps), (14, .int .i64 (a0.fMaps.length : Int)), (15, .int .i64 p1), (35, sL 7 c_TClause ((a0.fMaps.getD p1.toNat default).fClauses)), (36, .int .i64 (((a0.fMaps.getD p1.toNat default).fClauses).length : Int)), (37, .int .i64 0)], [.box (c_TRouter a0)]⟩ ?_)))
 refine then_n (awp_block ?_)
 obtain ⟨y9, q33, h34⟩ := bind_some h16
 refine awp_le (s' := ⟨56, [(1, .ref 0 0), (13, sL 2 c_TRouteMap a0.fMaps), (14, .int .i64 (a0.fMaps.length : Int)), (15, .int .i64 p1), (35, sL 7 c_TClause ((a0.fMaps.getD p1.toNat default).fClauses)), (36, .int .i64 (((a0.fMaps.getD p1.toNat default).fClauses).length : Int)), (37, .int .i64 0)], [.box (c_TRouter a0)]⟩) (le_rfl) ?_
 refine awp_mono (awp_loop (f := M.model_checkRouteMaps_l2 a0 p1) (S := fun (p5 : Int) => ⟨56, [(1, .ref 0 0), (13, sL 2 c_TRouteMap a0.fMaps), (14, .int .i64 (a0.fMaps.length : Int)), (15, .int .i64 p1), (35, sL 7 c_TClause ((a0.fMaps.getD p1.toNat default).fClauses)), (36, .int .i64 (((a0.fMaps.getD p1.toNat default).fClauses).length : Int)), (37, .int .i64 p5)], [.box (c_TRouter a0)]⟩) (O := (Sum.elim (fun z => OutE 2 (fun z => ⟨56, [(1, .ref 0 0), (13, sL 2 c_TRouteMap a0.fMaps), (14, .int .i64 (a0.fMaps.length : Int)), (15, .int .i64 p1)], [.box (c_TRouter a0)]⟩) z) (fun z => OutR Try.prog Try.f64 (.int .i64 z)))) ?_ (x := 0) (y := y9) (loopM_iter q33)) ?_
 intro p5 y6 h17
 unfold M.model_checkRouteMaps_l2 at h17
 refine awp_seq (rg0 [1, 13, 14, 15, 35, 36, 37, 38] 1 ⟨56, [(1, .ref 0 0), (13, sL 2 c_TRouteMap a0.fMaps), (14, .int .i64 (a0.fMaps.length : Int)), (15, .int .i64 p1), (35, sL 7 c_TClause ((a0.fMaps.getD p1.toNat default).fClauses)), (36, .int .i64 (((a0.fMaps.getD p1.toNat default).fClauses).length : Int)), (37, .int .i64 p5), (38, .bool (decide (p5 < (((a0.fMaps.getD p1.toNat default).fClauses).length : Int))))], [.box (c_TRouter a0)]⟩ ?_)
 refine then_n (awp_seq ?_)
 refine cnd (decide (p5 < (((a0.fMaps.getD p1.toNat default).fClauses).length : Int))) (fun b18 => ?_) (fun b18 => ?_)
 have h19 := cond_t b18 h17
 refine awp_skip (then_n (awp_seq (awp_block (awp_seq ?_))))
 obtain ⟨c21, h22⟩ := gd_some h19
 refine rgc [1, 7, 13, 14, 15, 35, 36, 37] 2 ⟨56, [(1, .ref 0 0), (7, .ref 1 0), (13, sL 2 c_TRouteMap a0.fMaps), (14, .int .i64 (a0.fMaps.length : Int)), (15, .int .i64 p1), (35, sL 7 c_TClause ((a0.fMaps.getD p1.toNat default).fClauses)), (36, .int .i64 (((a0.fMaps.getD p1.toNat default).fClauses).length : Int)), (37, .int .i64 p5)], [.box (c_TRouter a0), .box (c_TClause (((a0.fMaps.getD p1.toNat default).fClauses).getD p5.toNat default))]⟩ [decide (0 ≤ p5), decide (p5 < (((a0.fMaps.getD p1.toNat default).fClauses).length : Int))] c21 ?_
 refine then_n (awp_seq (awp_seq ?_))
 obtain ⟨r7, q23, h24⟩ := bind_some h22
 refine rg [.pure (.int .i64 r7)] [1, 7, 13, 14, 15, 35, 36, 37, 50] 2 ⟨56, [(1, .ref 0 0), (7, .ref 1 0), (13, sL 2 c_TRouteMap a0.fMaps), (14, .int .i64 (a0.fMaps.length : Int)), (15, .int .i64 p1), (35, sL 7 c_TClause ((a0.fMaps.getD p1.toNat default).fClauses)), (36, .int .i64 (((a0.fMaps.getD p1.toNat default).fClauses).length : Int)), (37, .int .i64 p5), (50, .bool ((!strEq ((((a0.fMaps.getD p1.toNat default).fClauses).getD p5.toNat default).fList) (⟨#[]⟩ : ByteArray)) && (decide (r7 < 0))))], [.box (c_TRouter a0), .box (c_TClause (((a0.fMaps.getD p1.toNat default).fClauses).getD p5.toNat default))]⟩ [] [⟨!strEq ((((a0.fMaps.getD p1.toNat default).fClauses).getD p5.toNat default).fList) (⟨#[]⟩ : ByteArray), 17, [.agg (c_TRouter a0), .str ((((a0.fMaps.getD p1.toNat default).fClauses).getD p5.toNat default).fList)], .pure (.int .i64 r7)⟩] nil_all ⟨fun hg => model_PrefixList_ok a0 ((((a0.fMaps.getD p1.toNat default).fClauses).getD p5.toNat default).fList) r7 (gc_some q23 hg), trivial⟩ ?_
 refine then_n ?_
 refine cnd ((!strEq ((((a0.fMaps.getD p1.toNat default).fClauses).getD p5.toNat default).fList) (⟨#[]⟩ : ByteArray)) && (decide (r7 < 0))) (fun b25 => ?_) (fun b25 => ?_)
 have h26 := cond_t b25 h24
 refine awp_seq (rg0 [2] 0 ⟨56, [(2, .int .i64 5)], []⟩ ?_)
 refine then_n (awp_ret (then_r (inb_r (then_r ?_))))
 obtain rfl := Option.some.inj h26
 exact round_r ⟨rfl, er0 (.int .i64 5)⟩
 have h27 := cond_f b25 h24
 refine awp_skip (then_n (awp_seq ?_))
 obtain ⟨r8, q28, h29⟩ := bind_some h27
 refine rg [.pure (.bool r8)] [1, 13, 14, 15, 35, 36, 37, 53] 1 ⟨56, [(1, .ref 0 0), (13, sL 2 c_TRouteMap a0.fMaps), (14, .int .i64 (a0.fMaps.length : Int)), (15, .int .i64 p1), (35, sL 7 c_TClause ((a0.fMaps.getD p1.toNat default).fClauses)), (36, .int .i64 (((a0.fMaps.getD p1.toNat default).fClauses).length : Int)), (37, .int .i64 p5), (53, .bool (!r8))], [.box (c_TRouter a0)]⟩ [] [⟨true, 89, [.agg (c_TClause (((a0.fMaps.getD p1.toNat default).fClauses).getD p5.toNat default))], .pure (.bool r8)⟩] nil_all ⟨fun _ => model_rightClause_ok (((a0.fMaps.getD p1.toNat default).fClauses).getD p5.toNat default) r8 q28, trivial⟩ ?_
 refine then_n ?_
 refine cnd (!r8) (fun b30 => ?_) (fun b30 => ?_)
 have h31 := cond_t b30 h29
 refine awp_seq (rg0 [2] 0 ⟨56, [(2, .int .i64 1)], []⟩ ?_)
 refine then_n (awp_ret (inb_r (then_r ?_)))
 obtain rfl := Option.some.inj h31
 exact round_r ⟨rfl, er0 (.int .i64 1)⟩
 have h32 := cond_f b30 h29
 refine awp_skip (inb_n (then_n (rg0 [1, 13, 14, 15, 35, 36, 37] 1 ⟨56, [(1, .ref 0 0), (13, sL 2 c_TRouteMap a0.fMaps), (14, .int .i64 (a0.fMaps.length : Int)), (15, .int .i64 p1), (35, sL 7 c_TClause ((a0.fMaps.getD p1.toNat default).fClauses)), (36, .int .i64 (((a0.fMaps.getD p1.toNat default).fClauses).length : Int)), (37, .int .i64 (wr .i64 (p5 + 1)))], [.box (c_TRouter a0)]⟩ ?_)))
 obtain rfl := Option.some.inj h32
 exact round_n (le_rfl)
 have h20 := cond_f b18 h17
 refine awp_exit (then_e ?_)
 obtain rfl := Option.some.inj h20
 exact round_e ⟨rfl, kp [1, 13, 14, 15]⟩
 intro e35 s36 o37
 rcases y9 with g10 | y11
 have h38 := elim_l h34
 obtain ⟨rfl, l40⟩ := o37
 refine inb_here (inb_n ?_)
 refine then_le (s' := ⟨56, [(1, .ref 0 0), (13, sL 2 c_TRouteMap a0.fMaps), (14, .int .i64 (a0.fMaps.length : Int)), (15, .int .i64 p1)], [.box (c_TRouter a0)]⟩) (l40) ?_
 refine rg0 [1, 13, 14, 15] 1 ⟨56, [(1, .ref 0 0), (13, sL 2 c_TRouteMap a0.fMaps), (14, .int .i64 (a0.fMaps.length : Int)), (15, .int .i64 (wr .i64 (p1 + 1)))], [.box (c_TRouter a0)]⟩ ?_
 obtain rfl := Option.some.inj h38
 exact round_n (le_rfl)
 have h39 := elim_r h34
 obtain ⟨rfl, n41⟩ := o37
 refine inb_r (inb_r (then_r ?_))
 obtain rfl := Option.some.inj h39
 exact round_r ⟨rfl, n41⟩
 have h7 := cond_f b5 h4
 refine awp_exit (then_e ?_)
 obtain rfl := Option.some.inj h7
 exact round_e ⟨rfl, Le.trans (s' := ⟨56, [], [.box (c_TRouter a0)]⟩) (kp []) (le_cut (n := 0) (by kernel_rfl))⟩
 intro e44 s45 o46
 rcases y12 with g13 | y14
 have h47 := elim_l h43
 obtain ⟨rfl, l49⟩ := o46
 refine inb_here ?_
 refine then_le (s' := ⟨56, [], []⟩) (l49) ?_
 refine awp_seq (rg0 [2] 0 ⟨56, [(2, .int .i64 0)], []⟩ ?_)
 refine then_n (awp_ret ?_)
 obtain rfl := Option.some.inj h47
 exact er0 (.int .i64 0)
 have h48 := elim_r h43
 obtain ⟨rfl, n50⟩ := o46
 refine inb_r (then_r ?_)
 obtain rfl := Option.some.inj h48
 exact n50

/- netverify/model.ACL$1 -/
theorem model_ACL_1_ok (a0 : TACL) (b0 : ByteArray) (r : Bool) (h : M.model_ACL_1 a0 b0 = some r) : Fn Try.prog 57 [.agg (c_TACL a0), .pp (cs b0)] (.pure (.bool r)) := by
 unfold M.model_ACL_1 at h
 refine fn_pure Try.func57 rfl (by kernel_rfl) ?_
 refine awp_seq (rg0 [1, 2] 1 ⟨8, [(1, .pp (cs b0)), (2, .ref 0 0)], [.box (c_TACL a0)]⟩ ?_)
 refine then_n (awp_seq (rg0 [3] 0 ⟨8, [(3, .bool (strEq a0.fName b0))], []⟩ ?_))
 refine then_n (awp_ret ?_)
 obtain rfl := Option.some.inj h
 exact er0 (.bool (strEq a0.fName b0))

/- slices.IndexFunc[[]netverify/api.ACL,netverify/api.ACL] -/
theorem slices_IndexFunc_api_ACL_api_ACL__model_ACL_1_ok (a0 : List TACL) (a1c0 : ByteArray) (r : Int) (h : M.slices_IndexFunc_api_ACL_api_ACL__model_ACL_1 a0 a1c0 = some r) : Fn Try.prog 56 [sL 2 c_TACL a0, .fn 57 [.pp (cs a1c0)]] (.pure (.int .i64 r)) := by
 unfold M.slices_IndexFunc_api_ACL_api_ACL__model_ACL_1 at h
 refine fn_pure Try.func56 rfl (by kernel_rfl) ?_
 refine awp_seq (rg0 [0, 1] 0 ⟨19, [(0, sL 2 c_TACL a0), (1, .fn 57 [.pp (cs a1c0)])], []⟩ ?_)
 refine then_n (awp_seq (awp_seq (rg0 [0, 1, 7, 8] 0 ⟨19, [(0, sL 2 c_TACL a0), (1, .fn 57 [.pp (cs a1c0)]), (7, .int .i64 (a0.length : Int)), (8, .int .i64 0)], []⟩ ?_)))
 refine then_n (awp_block ?_)
 obtain ⟨y4, q12, h13⟩ := bind_some h
 refine awp_le (s' := ⟨19, [(0, sL 2 c_TACL a0), (1, .fn 57 [.pp (cs a1c0)]), (7, .int .i64 (a0.length : Int)), (8, .int .i64 0)], []⟩) (le_rfl) ?_
 refine awp_mono (awp_loop (f := M.slices_IndexFunc_api_ACL_api_ACL__model_ACL_1_l1 a0 a1c0) (S := fun (p1 : Int) => ⟨19, [(0, sL 2 c_TACL a0), (1, .fn 57 [.pp (cs a1c0)]), (7, .int .i64 (a0.length : Int)), (8, .int .i64 p1)], []⟩) (O := (Sum.elim (fun z => OutE 0 (fun z => ⟨19, [], []⟩) z) (fun z => OutR Try.prog Try.f56 (.int .i64 z)))) ?_ (x := 0) (y := y4) (loopM_iter q12)) ?_
 intro p1 y2 h1
 unfold M.slices_IndexFunc_api_ACL_api_ACL__model_ACL_1_l1 at h1
 refine awp_seq (rg0 [0, 1, 7, 8, 9] 0 ⟨19, [(0, sL 2 c_TACL a0), (1, .fn 57 [.pp (cs a1c0)]), (7, .int .i64 (a0.length : Int)), (8, .int .i64 p1), (9, .bool (decide (p1 < (a0.length : Int))))], []⟩ ?_)
 refine then_n (awp_seq ?_)
 refine cnd (decide (p1 < (a0.length : Int))) (fun b2 => ?_) (fun b2 => ?_)
 have h3 := cond_t b2 h1
 refine awp_skip (then_n (awp_seq (awp_block (awp_seq (rg0 [0, 1, 5, 7, 8] 0 ⟨19, [(0, sL 2 c_TACL a0), (1, .fn 57 [.pp (cs a1c0)]), (5, .int .i64 p1), (7, .int .i64 (a0.length : Int)), (8, .int .i64 p1)], []⟩ ?_)))))
 refine then_n (awp_seq ?_)
 obtain ⟨r3, q5, h6⟩ := bind_some h3
 obtain ⟨c7, h8⟩ := gd_some h6
 refine rg [.pure (.bool r3)] [0, 1, 5, 7, 8, 16] 0 ⟨19, [(0, sL 2 c_TACL a0), (1, .fn 57 [.pp (cs a1c0)]), (5, .int .i64 p1), (7, .int .i64 (a0.length : Int)), (8, .int .i64 p1), (16, .bool r3)], []⟩ [decide (0 ≤ p1), decide (p1 < (a0.length : Int))] [⟨true, 57, [.agg (c_TACL (a0.getD p1.toNat default)), .pp (cs a1c0)], .pure (.bool r3)⟩] c7 ⟨fun _ => model_ACL_1_ok (a0.getD p1.toNat default) a1c0 r3 q5, trivial⟩ ?_
 refine then_n ?_
 refine cnd r3 (fun b9 => ?_) (fun b9 => ?_)
 have h10 := cond_t b9 h8
 refine awp_seq (rg0 [4] 0 ⟨19, [(4, .int .i64 p1)], []⟩ ?_)
 refine then_n (awp_ret (inb_r (then_r ?_)))
 obtain rfl := Option.some.inj h10
 exact round_r ⟨rfl, er0 (.int .i64 p1)⟩
 have h11 := cond_f b9 h8
 refine awp_skip (inb_n (then_n (rg0 [0, 1, 7, 8] 0 ⟨19, [(0, sL 2 c_TACL a0), (1, .fn 57 [.pp (cs a1c0)]), (7, .int .i64 (a0.length : Int)), (8, .int .i64 (wr .i64 (p1 + 1)))], []⟩ ?_)))
 obtain rfl := Option.some.inj h11
 exact round_n (le_rfl)
 have h4 := cond_f b2 h1
 refine awp_exit (then_e ?_)
 obtain rfl := Option.some.inj h4
 exact round_e ⟨rfl, kp []⟩
 intro e14 s15 o16
 rcases y4 with g5 | y6
 have h17 := elim_l h13
 obtain ⟨rfl, l19⟩ := o16
 refine inb_here ?_
 refine then_le (s' := ⟨19, [], []⟩) (l19) ?_
 refine awp_seq (rg0 [4] 0 ⟨19, [(4, .int .i64 (-1))], []⟩ ?_)
 refine then_n (awp_ret ?_)
 obtain rfl := Option.some.inj h17
 exact er0 (.int .i64 (-1))
 have h18 := elim_r h13
 obtain ⟨rfl, n20⟩ := o16
 refine inb_r (then_r ?_)
 obtain rfl := Option.some.inj h18
 exact n20

/- netverify/model.ACL -/
theorem model_ACL_ok (a0 : TRouter) (a1 : ByteArray) (r : Int) (h : M.model_ACL a0 a1 = some r) : Fn Try.prog 21 [.agg (c_TRouter a0), .str a1] (.pure (.int .i64 r)) := by
 unfold M.model_ACL at h
 refine fn_pure Try.func21 rfl (by kernel_rfl) ?_
 refine awp_seq (rg0 [2, 3] 2 ⟨9, [(2, .ref 0 0), (3, .ref 1 0)], [.box (c_TRouter a0), .box [.str a1]]⟩ ?_)
 refine then_n (awp_seq ?_)
 obtain ⟨r1, q1, h2⟩ := bind_some h
 refine rg [.pure (.int .i64 r1)] [4] 0 ⟨9, [(4, .int .i64 r1)], []⟩ [] [⟨true, 56, [sL 2 c_TACL a0.fACLs, .fn 57 [.pp (cs a1)]], .pure (.int .i64 r1)⟩] nil_all ⟨fun _ => slices_IndexFunc_api_ACL_api_ACL__model_ACL_1_ok a0.fACLs a1 r1 q1, trivial⟩ ?_
 refine then_n (awp_ret ?_)
 obtain rfl := Option.some.inj h2
 exact er0 (.int .i64 r1)

/- netverify/model.rightPorts -/
theorem model_rightPorts_ok (a0 : TPortRange) (r : Bool) (h : M.model_rightPorts a0 = some r) : Fn Try.prog 99 [.agg (c_TPortRange a0)] (.pure (.bool r)) := by
 unfold M.model_rightPorts at h
 refine fn_pure Try.func99 rfl (by kernel_rfl) ?_
 refine awp_seq (rg0 [1] 1 ⟨18, [(1, .ref 0 0)], [.box (c_TPortRange a0)]⟩ ?_)
 refine then_n (awp_seq (rg0 [2] 0 ⟨18, [(2, .bool (((decide (0 ≤ a0.fLo)) && (decide (a0.fLo ≤ a0.fHi))) && (decide (a0.fHi ≤ 65535))))], []⟩ ?_))
 refine then_n (awp_ret ?_)
 obtain rfl := Option.some.inj h
 exact er0 (.bool (((decide (0 ≤ a0.fLo)) && (decide (a0.fLo ≤ a0.fHi))) && (decide (a0.fHi ≤ 65535))))

/- netverify/model.rightRule -/
theorem model_rightRule_ok (a0 : TRule) (r : Bool) (h : M.model_rightRule a0 = some r) : Fn Try.prog 90 [.agg (c_TRule a0)] (.pure (.bool r)) := by
 unfold M.model_rightRule at h
 refine fn_pure Try.func90 rfl (by kernel_rfl) ?_
 refine awp_seq (rg0 [1] 1 ⟨59, [(1, .ref 0 0)], [.box (c_TRule a0)]⟩ ?_)
 refine then_n (awp_seq (awp_seq ?_))
 obtain ⟨r1, q1, h2⟩ := bind_some h
 refine rg [.pure (.bool r1)] [1, 27] 1 ⟨59, [(1, .ref 0 0), (27, .bool (((!r1) || ((bitD .and .u32 a0.fSrc.fAddr a0.fSrc.fMask) != 0)) || ((bitD .and .u32 a0.fDst.fAddr a0.fDst.fMask) != 0)))], [.box (c_TRule a0)]⟩ [] [⟨true, 61, [.int .i64 a0.fProto, .int .i64 (-1), .int .i64 255], .pure (.bool r1)⟩] nil_all ⟨fun _ => model_within_ok a0.fProto (-1) 255 r1 q1, trivial⟩ ?_
 refine then_n ?_
 refine cnd (((!r1) || ((bitD .and .u32 a0.fSrc.fAddr a0.fSrc.fMask) != 0)) || ((bitD .and .u32 a0.fDst.fAddr a0.fDst.fMask) != 0)) (fun b3 => ?_) (fun b3 => ?_)
 have h4 := cond_t b3 h2
 refine awp_seq (rg0 [2] 0 ⟨59, [(2, .bool false)], []⟩ ?_)
 refine then_n (awp_ret (then_r ?_))
 obtain rfl := Option.some.inj h4
 exact er0 (.bool false)
 have h5 := cond_f b3 h2
 refine awp_skip (then_n (awp_seq (awp_seq ?_)))
 obtain ⟨r2, q6, h7⟩ := bind_some h5
 obtain ⟨r3, q8, h9⟩ := bind_some h7
 refine rg [.pure (.bool r2), .pure (.bool r3)] [1, 37] 1 ⟨59, [(1, .ref 0 0), (37, .bool ((!r2) || (!r3)))], [.box (c_TRule a0)]⟩ [] [⟨true, 99, [.agg (c_TPortRange a0.fSrcPorts)], .pure (.bool r2)⟩, ⟨(!(!r2)), 99, [.agg (c_TPortRange a0.fDstPorts)], .pure (.bool r3)⟩] nil_all ⟨fun _ => model_rightPorts_ok a0.fSrcPorts r2 q6, fun hg => model_rightPorts_ok a0.fDstPorts r3 (gc_some q8 hg), trivial⟩ ?_
 refine then_n ?_
 refine cnd ((!r2) || (!r3)) (fun b10 => ?_) (fun b10 => ?_)
 have h11 := cond_t b10 h9
 refine awp_seq (rg0 [2] 0 ⟨59, [(2, .bool false)], []⟩ ?_)
 refine then_n (awp_ret (then_r ?_))
 obtain rfl := Option.some.inj h11
 exact er0 (.bool false)
 have h12 := cond_f b10 h9
 refine awp_skip (then_n (awp_seq (rg0 [1, 3] 2 ⟨59, [(1, .ref 0 0), (3, .ref 1 0)], [.box (c_TRule a0), .box [.int .i64 0, .int .i64 65535]]⟩ ?_)))
 refine then_n (awp_seq (rg0 [2] 0 ⟨59, [(2, .bool (((a0.fProto == 6) || (a0.fProto == 17)) || (((a0.fSrcPorts.fLo == 0) && ((a0.fSrcPorts.fHi == 65535) && true)) && ((a0.fDstPorts.fLo == 0) && ((a0.fDstPorts.fHi == 65535) && true)))))], []⟩ ?_))
 refine then_n (awp_ret ?_)
 obtain rfl := Option.some.inj h12
 exact er0 (.bool (((a0.fProto == 6) || (a0.fProto == 17)) || (((a0.fSrcPorts.fLo == 0) && ((a0.fSrcPorts.fHi == 65535) && true)) && ((a0.fDstPorts.fLo == 0) && ((a0.fDstPorts.fHi == 65535) && true)))))

/- netverify/model.checkACLs -/
theorem model_checkACLs_ok (a0 : TRouter) (r : Int) (h : M.model_checkACLs a0 = some r) : Fn Try.prog 65 [.agg (c_TRouter a0)] (.pure (.int .i64 r)) := by
 unfold M.model_checkACLs at h
 refine fn_pure Try.func65 rfl (by kernel_rfl) ?_
 refine awp_seq (rg0 [1] 1 ⟨46, [(1, .ref 0 0)], [.box (c_TRouter a0)]⟩ ?_)
 refine then_n (awp_seq (awp_seq (rg0 [1, 11] 1 ⟨46, [(1, .ref 0 0), (11, .bool (decide ((a0.fACLs.length : Int) > 8)))], [.box (c_TRouter a0)]⟩ ?_)))
 refine then_n ?_
 refine cnd (decide ((a0.fACLs.length : Int) > 8)) (fun b1 => ?_) (fun b1 => ?_)
 have h2 := cond_t b1 h
 refine awp_seq (rg0 [2] 0 ⟨46, [(2, .int .i64 7)], []⟩ ?_)
 refine then_n (awp_ret (then_r ?_))
 obtain rfl := Option.some.inj h2
 exact er0 (.int .i64 7)
 have h3 := cond_f b1 h
 refine awp_skip (then_n (awp_seq (awp_seq (rg0 [1, 13, 14, 15] 1 ⟨46, [(1, .ref 0 0), (13, sL 2 c_TACL a0.fACLs), (14, .int .i64 (a0.fACLs.length : Int)), (15, .int .i64 0)], [.box (c_TRouter a0)]⟩ ?_))))
 refine then_n (awp_block ?_)
 obtain ⟨y11, q37, h38⟩ := bind_some h3
 refine awp_le (s' := ⟨46, [(1, .ref 0 0), (13, sL 2 c_TACL a0.fACLs), (14, .int .i64 (a0.fACLs.length : Int)), (15, .int .i64 0)], [.box (c_TRouter a0)]⟩) (le_rfl) ?_
 refine awp_mono (awp_loop (f := M.model_checkACLs_l1 a0) (S := fun (p1 : Int) => ⟨46, [(1, .ref 0 0), (13, sL 2 c_TACL a0.fACLs), (14, .int .i64 (a0.fACLs.length : Int)), (15, .int .i64 p1)], [.box (c_TRouter a0)]⟩) (O := (Sum.elim (fun z => OutE 0 (fun z => ⟨46, [], []⟩) z) (fun z => OutR Try.prog Try.f65 (.int .i64 z)))) ?_ (x := 0) (y := y11) (loopM_iter q37)) ?_
 intro p1 y2 h4
 unfold M.model_checkACLs_l1 at h4
 refine awp_seq (rg0 [1, 13, 14, 15, 16] 1 ⟨46, [(1, .ref 0 0), (13, sL 2 c_TACL a0.fACLs), (14, .int .i64 (a0.fACLs.length : Int)), (15, .int .i64 p1), (16, .bool (decide (p1 < (a0.fACLs.length : Int))))], [.box (c_TRouter a0)]⟩ ?_)
 refine then_n (awp_seq ?_)
 refine cnd (decide (p1 < (a0.fACLs.length : Int))) (fun b5 => ?_) (fun b5 => ?_)
 have h6 := cond_t b5 h4
 refine awp_skip (then_n (awp_seq (awp_block (awp_seq ?_))))
 obtain ⟨c8, h9⟩ := gd_some h6
 refine rgc [1, 3, 4, 13, 14, 15] 2 ⟨46, [(1, .ref 0 0), (3, .int .i64 p1), (4, .ref 1 0), (13, sL 2 c_TACL a0.fACLs), (14, .int .i64 (a0.fACLs.length : Int)), (15, .int .i64 p1)], [.box (c_TRouter a0), .box (c_TACL (a0.fACLs.getD p1.toNat default))]⟩ [decide (0 ≤ p1), decide (p1 < (a0.fACLs.length : Int))] c8 ?_
 refine then_n (awp_seq (awp_seq ?_))
 obtain ⟨r3, q10, h11⟩ := bind_some h9
 obtain ⟨r4, q12, h13⟩ := bind_some h11
 refine rg [.pure (.int .i64 r3), .pure (.int .i64 r4)] [1, 4, 5, 13, 14, 15] 2 ⟨46, [(1, .ref 0 0), (4, .ref 1 0), (5, .int .i64 r4), (13, sL 2 c_TACL a0.fACLs), (14, .int .i64 (a0.fACLs.length : Int)), (15, .int .i64 p1)], [.box (c_TRouter a0), .box (c_TACL (a0.fACLs.getD p1.toNat default))]⟩ [] [⟨true, 21, [.agg (c_TRouter a0), .str ((a0.fACLs.getD p1.toNat default).fName)], .pure (.int .i64 r3)⟩, ⟨true, 87, [.int .i64 p1, .int .i64 r3, .str ((a0.fACLs.getD p1.toNat default).fName), .int .i64 (((a0.fACLs.getD p1.toNat default).fRules).length : Int), .int .i64 16], .pure (.int .i64 r4)⟩] nil_all ⟨fun _ => model_ACL_ok a0 ((a0.fACLs.getD p1.toNat default).fName) r3 q10, fun _ => model_checkList_ok p1 r3 ((a0.fACLs.getD p1.toNat default).fName) (((a0.fACLs.getD p1.toNat default).fRules).length : Int) 16 r4 q12, trivial⟩ ?_
 refine then_n (awp_seq (rg0 [1, 4, 5, 13, 14, 15, 32] 2 ⟨46, [(1, .ref 0 0), (4, .ref 1 0), (5, .int .i64 r4), (13, sL 2 c_TACL a0.fACLs), (14, .int .i64 (a0.fACLs.length : Int)), (15, .int .i64 p1), (32, .bool (r4 != 0))], [.box (c_TRouter a0), .box (c_TACL (a0.fACLs.getD p1.toNat default))]⟩ ?_))
 refine then_n ?_
 refine cnd (r4 != 0) (fun b14 => ?_) (fun b14 => ?_)
 have h15 := cond_t b14 h13
 refine awp_seq (rg0 [2] 0 ⟨46, [(2, .int .i64 r4)], []⟩ ?_)
 refine then_n (awp_ret (then_r (inb_r (then_r ?_))))
 obtain rfl := Option.some.inj h15
 exact round_r ⟨rfl, er0 (.int .i64 r4)⟩
 have h16 := cond_f b14 h13
 refine awp_skip (then_n (awp_seq (rg0 [1, 13, 14, 15, 35, 36, 37] 1 ⟨46, [(1, .ref 0 0), (13, sL 2 c_TACL a0.fACLs), (14, .int .i64 (a0.fACLs.length : Int)), (15, .int .i64 p1), (35, sL 10 c_TRule ((a0.fACLs.getD p1.toNat default).fRules)), (36, .int .i64 (((a0.fACLs.getD p1.toNat default).fRules).length : Int)), (37, .int .i64 0)], [.box (c_TRouter a0)]⟩ ?_)))
 refine then_n (awp_block ?_)
 obtain ⟨y8, q28, h29⟩ := bind_some h16
 refine awp_le (s' := ⟨46, [(1, .ref 0 0), (13, sL 2 c_TACL a0.fACLs), (14, .int .i64 (a0.fACLs.length : Int)), (15, .int .i64 p1), (35, sL 10 c_TRule ((a0.fACLs.getD p1.toNat default).fRules)), (36, .int .i64 (((a0.fACLs.getD p1.toNat default).fRules).length : Int)), (37, .int .i64 0)], [.box (c_TRouter a0)]⟩) (le_rfl) ?_
 refine awp_mono (awp_loop (f := M.model_checkACLs_l2 a0 p1) (S := fun (p5 : Int) => ⟨46, [(1, .ref 0 0), (13, sL 2 c_TACL a0.fACLs), (14, .int .i64 (a0.fACLs.length : Int)), (15, .int .i64 p1), (35, sL 10 c_TRule ((a0.fACLs.getD p1.toNat default).fRules)), (36, .int .i64 (((a0.fACLs.getD p1.toNat default).fRules).length : Int)), (37, .int .i64 p5)], [.box (c_TRouter a0)]⟩) (O := (Sum.elim (fun z => OutE 2 (fun z => ⟨46, [(1, .ref 0 0), (13, sL 2 c_TACL a0.fACLs), (14, .int .i64 (a0.fACLs.length : Int)), (15, .int .i64 p1)], [.box (c_TRouter a0)]⟩) z) (fun z => OutR Try.prog Try.f65 (.int .i64 z)))) ?_ (x := 0) (y := y8) (loopM_iter q28)) ?_
 intro p5 y6 h17
 unfold M.model_checkACLs_l2 at h17
 refine awp_seq (rg0 [1, 13, 14, 15, 35, 36, 37, 38] 1 ⟨46, [(1, .ref 0 0), (13, sL 2 c_TACL a0.fACLs), (14, .int .i64 (a0.fACLs.length : Int)), (15, .int .i64 p1), (35, sL 10 c_TRule ((a0.fACLs.getD p1.toNat default).fRules)), (36, .int .i64 (((a0.fACLs.getD p1.toNat default).fRules).length : Int)), (37, .int .i64 p5), (38, .bool (decide (p5 < (((a0.fACLs.getD p1.toNat default).fRules).length : Int))))], [.box (c_TRouter a0)]⟩ ?_)
 refine then_n (awp_seq ?_)
 refine cnd (decide (p5 < (((a0.fACLs.getD p1.toNat default).fRules).length : Int))) (fun b18 => ?_) (fun b18 => ?_)
 have h19 := cond_t b18 h17
 refine awp_skip (then_n (awp_seq (awp_block (awp_seq ?_))))
 obtain ⟨c21, h22⟩ := gd_some h19
 refine rgc [1, 7, 13, 14, 15, 35, 36, 37] 2 ⟨46, [(1, .ref 0 0), (7, .ref 1 0), (13, sL 2 c_TACL a0.fACLs), (14, .int .i64 (a0.fACLs.length : Int)), (15, .int .i64 p1), (35, sL 10 c_TRule ((a0.fACLs.getD p1.toNat default).fRules)), (36, .int .i64 (((a0.fACLs.getD p1.toNat default).fRules).length : Int)), (37, .int .i64 p5)], [.box (c_TRouter a0), .box (c_TRule (((a0.fACLs.getD p1.toNat default).fRules).getD p5.toNat default))]⟩ [decide (0 ≤ p5), decide (p5 < (((a0.fACLs.getD p1.toNat default).fRules).length : Int))] c21 ?_
 refine then_n (awp_seq ?_)
 obtain ⟨r7, q23, h24⟩ := bind_some h22
 refine rg [.pure (.bool r7)] [1, 13, 14, 15, 35, 36, 37, 43] 1 ⟨46, [(1, .ref 0 0), (13, sL 2 c_TACL a0.fACLs), (14, .int .i64 (a0.fACLs.length : Int)), (15, .int .i64 p1), (35, sL 10 c_TRule ((a0.fACLs.getD p1.toNat default).fRules)), (36, .int .i64 (((a0.fACLs.getD p1.toNat default).fRules).length : Int)), (37, .int .i64 p5), (43, .bool (!r7))], [.box (c_TRouter a0)]⟩ [] [⟨true, 90, [.agg (c_TRule (((a0.fACLs.getD p1.toNat default).fRules).getD p5.toNat default))], .pure (.bool r7)⟩] nil_all ⟨fun _ => model_rightRule_ok (((a0.fACLs.getD p1.toNat default).fRules).getD p5.toNat default) r7 q23, trivial⟩ ?_
 refine then_n ?_
 refine cnd (!r7) (fun b25 => ?_) (fun b25 => ?_)
 have h26 := cond_t b25 h24
 refine awp_seq (rg0 [2] 0 ⟨46, [(2, .int .i64 1)], []⟩ ?_)
 refine then_n (awp_ret (inb_r (then_r ?_)))
 obtain rfl := Option.some.inj h26
 exact round_r ⟨rfl, er0 (.int .i64 1)⟩
 have h27 := cond_f b25 h24
 refine awp_skip (inb_n (then_n (rg0 [1, 13, 14, 15, 35, 36, 37] 1 ⟨46, [(1, .ref 0 0), (13, sL 2 c_TACL a0.fACLs), (14, .int .i64 (a0.fACLs.length : Int)), (15, .int .i64 p1), (35, sL 10 c_TRule ((a0.fACLs.getD p1.toNat default).fRules)), (36, .int .i64 (((a0.fACLs.getD p1.toNat default).fRules).length : Int)), (37, .int .i64 (wr .i64 (p5 + 1)))], [.box (c_TRouter a0)]⟩ ?_)))
 obtain rfl := Option.some.inj h27
 exact round_n (le_rfl)
 have h20 := cond_f b18 h17
 refine awp_exit (then_e ?_)
 obtain rfl := Option.some.inj h20
 exact round_e ⟨rfl, kp [1, 13, 14, 15]⟩
 intro e30 s31 o32
 rcases y8 with g9 | y10
 have h33 := elim_l h29
 obtain ⟨rfl, l35⟩ := o32
 refine inb_here (inb_n ?_)
 refine then_le (s' := ⟨46, [(1, .ref 0 0), (13, sL 2 c_TACL a0.fACLs), (14, .int .i64 (a0.fACLs.length : Int)), (15, .int .i64 p1)], [.box (c_TRouter a0)]⟩) (l35) ?_
 refine rg0 [1, 13, 14, 15] 1 ⟨46, [(1, .ref 0 0), (13, sL 2 c_TACL a0.fACLs), (14, .int .i64 (a0.fACLs.length : Int)), (15, .int .i64 (wr .i64 (p1 + 1)))], [.box (c_TRouter a0)]⟩ ?_
 obtain rfl := Option.some.inj h33
 exact round_n (le_rfl)
 have h34 := elim_r h29
 obtain ⟨rfl, n36⟩ := o32
 refine inb_r (inb_r (then_r ?_))
 obtain rfl := Option.some.inj h34
 exact round_r ⟨rfl, n36⟩
 have h7 := cond_f b5 h4
 refine awp_exit (then_e ?_)
 obtain rfl := Option.some.inj h7
 exact round_e ⟨rfl, Le.trans (s' := ⟨46, [], [.box (c_TRouter a0)]⟩) (kp []) (le_cut (n := 0) (by kernel_rfl))⟩
 intro e39 s40 o41
 rcases y11 with g12 | y13
 have h42 := elim_l h38
 obtain ⟨rfl, l44⟩ := o41
 refine inb_here ?_
 refine then_le (s' := ⟨46, [], []⟩) (l44) ?_
 refine awp_seq (rg0 [2] 0 ⟨46, [(2, .int .i64 0)], []⟩ ?_)
 refine then_n (awp_ret ?_)
 obtain rfl := Option.some.inj h42
 exact er0 (.int .i64 0)
 have h43 := elim_r h38
 obtain ⟨rfl, n45⟩ := o41
 refine inb_r (then_r ?_)
 obtain rfl := Option.some.inj h43
 exact n45

/- netverify/model.rightTranslation -/
theorem model_rightTranslation_ok (a0 : TTranslation) (r : Bool) (h : M.model_rightTranslation a0 = some r) : Fn Try.prog 91 [.agg (c_TTranslation a0)] (.pure (.bool r)) := by
 unfold M.model_rightTranslation at h
 refine fn_pure Try.func91 rfl (by kernel_rfl) ?_
 refine awp_seq (rg0 [1] 1 ⟨108, [(1, .ref 0 0)], [.box (c_TTranslation a0)]⟩ ?_)
 refine then_n (awp_seq (awp_seq (rg0 [1, 6] 1 ⟨108, [(1, .ref 0 0), (6, .int .i64 a0.fKind)], [.box (c_TTranslation a0)]⟩ ?_)))
 refine then_n (awp_block (awp_seq (rg0 [1, 6, 7] 1 ⟨108, [(1, .ref 0 0), (6, .int .i64 a0.fKind), (7, .bool (a0.fKind == 1))], [.box (c_TTranslation a0)]⟩ ?_)))
 refine then_n ?_
 refine cnd (a0.fKind == 1) (fun b1 => ?_) (fun b1 => ?_)
 have h2 := cond_t b1 h
 refine awp_seq (rg0 [1, 3] 2 ⟨108, [(1, .ref 0 0), (3, .ref 1 0)], [.box (c_TTranslation a0), .box [.int .i64 a0.fKind, .int .u32 a0.fInside, .int .u32 a0.fOutside, .int .i64 0, .int .i64 0, .int .i64 0, .str (⟨#[]⟩ : ByteArray), .int .u32 0, .int .u32 0]]⟩ ?_)
 refine then_n (awp_seq (rg0 [2] 0 ⟨108, [(2, .bool ((((a0.fKind == a0.fKind) && ((a0.fInside == a0.fInside) && ((a0.fOutside == a0.fOutside) && ((a0.fProto == 0) && ((a0.fInsidePort == 0) && ((a0.fOutsidePort == 0) && (strEq a0.fList (⟨#[]⟩ : ByteArray) && ((a0.fLo == 0) && ((a0.fHi == 0) && true))))))))) && (a0.fInside != 0)) && (a0.fOutside != 0)))], []⟩ ?_))
 refine then_n (awp_ret (inb_r (then_r ?_)))
 obtain rfl := Option.some.inj h2
 exact er0 (.bool ((((a0.fKind == a0.fKind) && ((a0.fInside == a0.fInside) && ((a0.fOutside == a0.fOutside) && ((a0.fProto == 0) && ((a0.fInsidePort == 0) && ((a0.fOutsidePort == 0) && (strEq a0.fList (⟨#[]⟩ : ByteArray) && ((a0.fLo == 0) && ((a0.fHi == 0) && true))))))))) && (a0.fInside != 0)) && (a0.fOutside != 0)))
 have h3 := cond_f b1 h
 refine awp_seq (rg0 [1, 6, 29] 1 ⟨108, [(1, .ref 0 0), (6, .int .i64 a0.fKind), (29, .bool (a0.fKind == 2))], [.box (c_TTranslation a0)]⟩ ?_)
 refine then_n ?_
 refine cnd (a0.fKind == 2) (fun b4 => ?_) (fun b4 => ?_)
 have h5 := cond_t b4 h3
 refine awp_seq (rg0 [1, 4] 2 ⟨108, [(1, .ref 0 0), (4, .ref 1 0)], [.box (c_TTranslation a0), .box [.int .i64 a0.fKind, .int .u32 0, .int .u32 0, .int .i64 0, .int .i64 0, .int .i64 0, .str a0.fList, .int .u32 a0.fLo, .int .u32 a0.fHi]]⟩ ?_)
 refine then_n (awp_seq (rg0 [2] 0 ⟨108, [(2, .bool (((((a0.fKind == a0.fKind) && ((a0.fInside == 0) && ((a0.fOutside == 0) && ((a0.fProto == 0) && ((a0.fInsidePort == 0) && ((a0.fOutsidePort == 0) && (strEq a0.fList a0.fList && ((a0.fLo == a0.fLo) && ((a0.fHi == a0.fHi) && true))))))))) && (a0.fLo != 0)) && (decide (a0.fLo ≤ a0.fHi))) && (decide ((wr .u32 (a0.fHi - a0.fLo)) < 8))))], []⟩ ?_))
 refine then_n (awp_ret (inb_r (then_r ?_)))
 obtain rfl := Option.some.inj h5
 exact er0 (.bool (((((a0.fKind == a0.fKind) && ((a0.fInside == 0) && ((a0.fOutside == 0) && ((a0.fProto == 0) && ((a0.fInsidePort == 0) && ((a0.fOutsidePort == 0) && (strEq a0.fList a0.fList && ((a0.fLo == a0.fLo) && ((a0.fHi == a0.fHi) && true))))))))) && (a0.fLo != 0)) && (decide (a0.fLo ≤ a0.fHi))) && (decide ((wr .u32 (a0.fHi - a0.fLo)) < 8))))
 have h6 := cond_f b4 h3
 refine awp_seq (rg0 [1, 63] 1 ⟨108, [(1, .ref 0 0), (63, .bool (a0.fKind == 3))], [.box (c_TTranslation a0)]⟩ ?_)
 refine then_n ?_
 refine cnd (a0.fKind == 3) (fun b7 => ?_) (fun b7 => ?_)
 have h8 := cond_t b7 h6
 refine awp_seq ?_
 obtain ⟨r1, q10, h11⟩ := bind_some h8
 obtain ⟨r2, q12, h13⟩ := bind_some h11
 refine rg [.pure (.bool r1), .pure (.bool r2)] [2] 0 ⟨108, [(2, .bool ((((((((a0.fInside != 0) && (a0.fOutside != 0)) && ((a0.fProto == 6) || (a0.fProto == 17))) && r1) && r2) && (strEq a0.fList (⟨#[]⟩ : ByteArray))) && (a0.fLo == 0)) && (a0.fHi == 0)))], []⟩ [] [⟨((a0.fInside != 0) && (a0.fOutside != 0)) && ((a0.fProto == 6) || (a0.fProto == 17)), 61, [.int .i64 a0.fInsidePort, .int .i64 0, .int .i64 65535], .pure (.bool r1)⟩, ⟨(((a0.fInside != 0) && (a0.fOutside != 0)) && ((a0.fProto == 6) || (a0.fProto == 17))) && r1, 61, [.int .i64 a0.fOutsidePort, .int .i64 0, .int .i64 65535], .pure (.bool r2)⟩] nil_all ⟨fun hg => model_within_ok a0.fInsidePort 0 65535 r1 (gc_some q10 hg), fun hg => model_within_ok a0.fOutsidePort 0 65535 r2 (gc_some q12 hg), trivial⟩ ?_
 refine then_n (awp_ret (inb_r (then_r ?_)))
 obtain rfl := Option.some.inj h13
 exact er0 (.bool ((((((((a0.fInside != 0) && (a0.fOutside != 0)) && ((a0.fProto == 6) || (a0.fProto == 17))) && r1) && r2) && (strEq a0.fList (⟨#[]⟩ : ByteArray))) && (a0.fLo == 0)) && (a0.fHi == 0)))
 have h9 := cond_f b7 h6
 refine awp_skip (inb_n (then_n (awp_seq (rg0 [2] 0 ⟨108, [(2, .bool false)], []⟩ ?_))))
 refine then_n (awp_ret ?_)
 obtain rfl := Option.some.inj h9
 exact er0 (.bool false)

/- netverify/model.checkNAT -/
theorem model_checkNAT_ok (a0 : TRouter) (r : Int) (h : M.model_checkNAT a0 = some r) : Fn Try.prog 66 [.agg (c_TRouter a0)] (.pure (.int .i64 r)) := by
 unfold M.model_checkNAT at h
 refine fn_pure Try.func66 rfl (by kernel_rfl) ?_
 refine awp_seq (rg0 [1] 1 ⟨30, [(1, .ref 0 0)], [.box (c_TRouter a0)]⟩ ?_)
 refine then_n (awp_seq (awp_seq (rg0 [1, 8] 1 ⟨30, [(1, .ref 0 0), (8, .bool (decide ((a0.fNAT.length : Int) > 8)))], [.box (c_TRouter a0)]⟩ ?_)))
 refine then_n ?_
 refine cnd (decide ((a0.fNAT.length : Int) > 8)) (fun b1 => ?_) (fun b1 => ?_)
 have h2 := cond_t b1 h
 refine awp_seq (rg0 [2] 0 ⟨30, [(2, .int .i64 7)], []⟩ ?_)
 refine then_n (awp_ret (then_r ?_))
 obtain rfl := Option.some.inj h2
 exact er0 (.int .i64 7)
 have h3 := cond_f b1 h
 refine awp_skip (then_n (awp_seq (awp_seq (rg0 [1, 10, 11, 12] 1 ⟨30, [(1, .ref 0 0), (10, sL 9 c_TTranslation a0.fNAT), (11, .int .i64 (a0.fNAT.length : Int)), (12, .int .i64 0)], [.box (c_TRouter a0)]⟩ ?_))))
 refine then_n (awp_block ?_)
 obtain ⟨y5, q20, h21⟩ := bind_some h3
 refine awp_le (s' := ⟨30, [(1, .ref 0 0), (10, sL 9 c_TTranslation a0.fNAT), (11, .int .i64 (a0.fNAT.length : Int)), (12, .int .i64 0)], [.box (c_TRouter a0)]⟩) (le_rfl) ?_
 refine awp_mono (awp_loop (f := M.model_checkNAT_l1 a0) (S := fun (p1 : Int) => ⟨30, [(1, .ref 0 0), (10, sL 9 c_TTranslation a0.fNAT), (11, .int .i64 (a0.fNAT.length : Int)), (12, .int .i64 p1)], [.box (c_TRouter a0)]⟩) (O := (Sum.elim (fun z => OutE 0 (fun z => ⟨30, [], []⟩) z) (fun z => OutR Try.prog Try.f66 (.int .i64 z)))) ?_ (x := 0) (y := y5) (loopM_iter q20)) ?_
 intro p1 y2 h4
 unfold M.model_checkNAT_l1 at h4
 refine awp_seq (rg0 [1, 10, 11, 12, 13] 1 ⟨30, [(1, .ref 0 0), (10, sL 9 c_TTranslation a0.fNAT), (11, .int .i64 (a0.fNAT.length : Int)), (12, .int .i64 p1), (13, .bool (decide (p1 < (a0.fNAT.length : Int))))], [.box (c_TRouter a0)]⟩ ?_)
 refine then_n (awp_seq ?_)
 refine cnd (decide (p1 < (a0.fNAT.length : Int))) (fun b5 => ?_) (fun b5 => ?_)
 have h6 := cond_t b5 h4
 refine awp_skip (then_n (awp_seq (awp_block (awp_seq ?_))))
 obtain ⟨c8, h9⟩ := gd_some h6
 refine rgc [1, 4, 10, 11, 12] 2 ⟨30, [(1, .ref 0 0), (4, .ref 1 0), (10, sL 9 c_TTranslation a0.fNAT), (11, .int .i64 (a0.fNAT.length : Int)), (12, .int .i64 p1)], [.box (c_TRouter a0), .box (c_TTranslation (a0.fNAT.getD p1.toNat default))]⟩ [decide (0 ≤ p1), decide (p1 < (a0.fNAT.length : Int))] c8 ?_
 refine then_n (awp_seq (awp_seq ?_))
 obtain ⟨r3, q10, h11⟩ := bind_some h9
 refine rg [.pure (.bool r3)] [1, 4, 10, 11, 12, 18] 2 ⟨30, [(1, .ref 0 0), (4, .ref 1 0), (10, sL 9 c_TTranslation a0.fNAT), (11, .int .i64 (a0.fNAT.length : Int)), (12, .int .i64 p1), (18, .bool (!r3))], [.box (c_TRouter a0), .box (c_TTranslation (a0.fNAT.getD p1.toNat default))]⟩ [] [⟨true, 91, [.agg (c_TTranslation (a0.fNAT.getD p1.toNat default))], .pure (.bool r3)⟩] nil_all ⟨fun _ => model_rightTranslation_ok (a0.fNAT.getD p1.toNat default) r3 q10, trivial⟩ ?_
 refine then_n ?_
 refine cnd (!r3) (fun b12 => ?_) (fun b12 => ?_)
 have h13 := cond_t b12 h11
 refine awp_seq (rg0 [2] 0 ⟨30, [(2, .int .i64 1)], []⟩ ?_)
 refine then_n (awp_ret (then_r (inb_r (then_r ?_))))
 obtain rfl := Option.some.inj h13
 exact round_r ⟨rfl, er0 (.int .i64 1)⟩
 have h14 := cond_f b12 h11
 refine awp_skip (then_n (awp_seq ?_))
 obtain ⟨r4, q15, h16⟩ := bind_some h14
 refine rg [.pure (.int .i64 r4)] [1, 10, 11, 12, 28] 1 ⟨30, [(1, .ref 0 0), (10, sL 9 c_TTranslation a0.fNAT), (11, .int .i64 (a0.fNAT.length : Int)), (12, .int .i64 p1), (28, .bool ((((a0.fNAT.getD p1.toNat default).fKind) == 2) && (decide (r4 < 0))))], [.box (c_TRouter a0)]⟩ [] [⟨((a0.fNAT.getD p1.toNat default).fKind) == 2, 21, [.agg (c_TRouter a0), .str ((a0.fNAT.getD p1.toNat default).fList)], .pure (.int .i64 r4)⟩] nil_all ⟨fun hg => model_ACL_ok a0 ((a0.fNAT.getD p1.toNat default).fList) r4 (gc_some q15 hg), trivial⟩ ?_
 refine then_n ?_
 refine cnd ((((a0.fNAT.getD p1.toNat default).fKind) == 2) && (decide (r4 < 0))) (fun b17 => ?_) (fun b17 => ?_)
 have h18 := cond_t b17 h16
 refine awp_seq (rg0 [2] 0 ⟨30, [(2, .int .i64 5)], []⟩ ?_)
 refine then_n (awp_ret (inb_r (then_r ?_)))
 obtain rfl := Option.some.inj h18
 exact round_r ⟨rfl, er0 (.int .i64 5)⟩
 have h19 := cond_f b17 h16
 refine awp_skip (inb_n (then_n (rg0 [1, 10, 11, 12] 1 ⟨30, [(1, .ref 0 0), (10, sL 9 c_TTranslation a0.fNAT), (11, .int .i64 (a0.fNAT.length : Int)), (12, .int .i64 (wr .i64 (p1 + 1)))], [.box (c_TRouter a0)]⟩ ?_)))
 obtain rfl := Option.some.inj h19
 exact round_n (le_rfl)
 have h7 := cond_f b5 h4
 refine awp_exit (then_e ?_)
 obtain rfl := Option.some.inj h7
 exact round_e ⟨rfl, Le.trans (s' := ⟨30, [], [.box (c_TRouter a0)]⟩) (kp []) (le_cut (n := 0) (by kernel_rfl))⟩
 intro e22 s23 o24
 rcases y5 with g6 | y7
 have h25 := elim_l h21
 obtain ⟨rfl, l27⟩ := o24
 refine inb_here ?_
 refine then_le (s' := ⟨30, [], []⟩) (l27) ?_
 refine awp_seq (rg0 [2] 0 ⟨30, [(2, .int .i64 0)], []⟩ ?_)
 refine then_n (awp_ret ?_)
 obtain rfl := Option.some.inj h25
 exact er0 (.int .i64 0)
 have h26 := elim_r h21
 obtain ⟨rfl, n28⟩ := o24
 refine inb_r (then_r ?_)
 obtain rfl := Option.some.inj h26
 exact n28

/- netverify/model.checkFilters -/
theorem model_checkFilters_ok (a0 : TRouter) (r : Int) (h : M.model_checkFilters a0 = some r) : Fn Try.prog 67 [.agg (c_TRouter a0)] (.pure (.int .i64 r)) := by
 unfold M.model_checkFilters at h
 refine fn_pure Try.func67 rfl (by kernel_rfl) ?_
 refine awp_seq (rg0 [1] 1 ⟨35, [(1, .ref 0 0)], [.box (c_TRouter a0)]⟩ ?_)
 refine then_n (awp_seq (awp_seq (rg0 [1, 6, 7, 8] 1 ⟨35, [(1, .ref 0 0), (6, sL 12 c_TInterface a0.fInterfaces), (7, .int .i64 (a0.fInterfaces.length : Int)), (8, .int .i64 0)], [.box (c_TRouter a0)]⟩ ?_)))
 refine then_n (awp_block ?_)
 obtain ⟨y5, q14, h15⟩ := bind_some h
 refine awp_le (s' := ⟨35, [(1, .ref 0 0), (6, sL 12 c_TInterface a0.fInterfaces), (7, .int .i64 (a0.fInterfaces.length : Int)), (8, .int .i64 0)], [.box (c_TRouter a0)]⟩) (le_rfl) ?_
 refine awp_mono (awp_loop (f := M.model_checkFilters_l1 a0) (S := fun (p1 : Int) => ⟨35, [(1, .ref 0 0), (6, sL 12 c_TInterface a0.fInterfaces), (7, .int .i64 (a0.fInterfaces.length : Int)), (8, .int .i64 p1)], [.box (c_TRouter a0)]⟩) (O := (Sum.elim (fun z => OutE 0 (fun z => ⟨35, [], []⟩) z) (fun z => OutR Try.prog Try.f67 (.int .i64 z)))) ?_ (x := 0) (y := y5) (loopM_iter q14)) ?_
 intro p1 y2 h1
 unfold M.model_checkFilters_l1 at h1
 refine awp_seq (rg0 [1, 6, 7, 8, 9] 1 ⟨35, [(1, .ref 0 0), (6, sL 12 c_TInterface a0.fInterfaces), (7, .int .i64 (a0.fInterfaces.length : Int)), (8, .int .i64 p1), (9, .bool (decide (p1 < (a0.fInterfaces.length : Int))))], [.box (c_TRouter a0)]⟩ ?_)
 refine then_n (awp_seq ?_)
 refine cnd (decide (p1 < (a0.fInterfaces.length : Int))) (fun b2 => ?_) (fun b2 => ?_)
 have h3 := cond_t b2 h1
 refine awp_skip (then_n (awp_seq (awp_block (awp_seq ?_))))
 obtain ⟨c5, h6⟩ := gd_some h3
 refine rgc [1, 4, 6, 7, 8] 2 ⟨35, [(1, .ref 0 0), (4, .ref 1 0), (6, sL 12 c_TInterface a0.fInterfaces), (7, .int .i64 (a0.fInterfaces.length : Int)), (8, .int .i64 p1)], [.box (c_TRouter a0), .box (c_TInterface (a0.fInterfaces.getD p1.toNat default))]⟩ [decide (0 ≤ p1), decide (p1 < (a0.fInterfaces.length : Int))] c5 ?_
 refine then_n (awp_seq ?_)
 obtain ⟨r3, q7, h8⟩ := bind_some h6
 obtain ⟨r4, q9, h10⟩ := bind_some h8
 refine rg [.pure (.int .i64 r3), .pure (.int .i64 r4)] [1, 6, 7, 8, 33] 1 ⟨35, [(1, .ref 0 0), (6, sL 12 c_TInterface a0.fInterfaces), (7, .int .i64 (a0.fInterfaces.length : Int)), (8, .int .i64 p1), (33, .bool (((!strEq ((a0.fInterfaces.getD p1.toNat default).fIn) (⟨#[]⟩ : ByteArray)) && (decide (r3 < 0))) || ((!strEq ((a0.fInterfaces.getD p1.toNat default).fOut) (⟨#[]⟩ : ByteArray)) && (decide (r4 < 0)))))], [.box (c_TRouter a0)]⟩ [] [⟨!strEq ((a0.fInterfaces.getD p1.toNat default).fIn) (⟨#[]⟩ : ByteArray), 21, [.agg (c_TRouter a0), .str ((a0.fInterfaces.getD p1.toNat default).fIn)], .pure (.int .i64 r3)⟩, ⟨((!((!strEq ((a0.fInterfaces.getD p1.toNat default).fIn) (⟨#[]⟩ : ByteArray)) && (decide (r3 < 0)))) && (!strEq ((a0.fInterfaces.getD p1.toNat default).fOut) (⟨#[]⟩ : ByteArray))), 21, [.agg (c_TRouter a0), .str ((a0.fInterfaces.getD p1.toNat default).fOut)], .pure (.int .i64 r4)⟩] nil_all ⟨fun hg => model_ACL_ok a0 ((a0.fInterfaces.getD p1.toNat default).fIn) r3 (gc_some q7 hg), fun hg => model_ACL_ok a0 ((a0.fInterfaces.getD p1.toNat default).fOut) r4 (gc_some q9 hg), trivial⟩ ?_
 refine then_n ?_
 refine cnd (((!strEq ((a0.fInterfaces.getD p1.toNat default).fIn) (⟨#[]⟩ : ByteArray)) && (decide (r3 < 0))) || ((!strEq ((a0.fInterfaces.getD p1.toNat default).fOut) (⟨#[]⟩ : ByteArray)) && (decide (r4 < 0)))) (fun b11 => ?_) (fun b11 => ?_)
 have h12 := cond_t b11 h10
 refine awp_seq (rg0 [2] 0 ⟨35, [(2, .int .i64 5)], []⟩ ?_)
 refine then_n (awp_ret (inb_r (then_r ?_)))
 obtain rfl := Option.some.inj h12
 exact round_r ⟨rfl, er0 (.int .i64 5)⟩
 have h13 := cond_f b11 h10
 refine awp_skip (inb_n (then_n (rg0 [1, 6, 7, 8] 1 ⟨35, [(1, .ref 0 0), (6, sL 12 c_TInterface a0.fInterfaces), (7, .int .i64 (a0.fInterfaces.length : Int)), (8, .int .i64 (wr .i64 (p1 + 1)))], [.box (c_TRouter a0)]⟩ ?_)))
 obtain rfl := Option.some.inj h13
 exact round_n (le_rfl)
 have h4 := cond_f b2 h1
 refine awp_exit (then_e ?_)
 obtain rfl := Option.some.inj h4
 exact round_e ⟨rfl, Le.trans (s' := ⟨35, [], [.box (c_TRouter a0)]⟩) (kp []) (le_cut (n := 0) (by kernel_rfl))⟩
 intro e16 s17 o18
 rcases y5 with g6 | y7
 have h19 := elim_l h15
 obtain ⟨rfl, l21⟩ := o18
 refine inb_here ?_
 refine then_le (s' := ⟨35, [], []⟩) (l21) ?_
 refine awp_seq (rg0 [2] 0 ⟨35, [(2, .int .i64 0)], []⟩ ?_)
 refine then_n (awp_ret ?_)
 obtain rfl := Option.some.inj h19
 exact er0 (.int .i64 0)
 have h20 := elim_r h15
 obtain ⟨rfl, n22⟩ := o18
 refine inb_r (then_r ?_)
 obtain rfl := Option.some.inj h20
 exact n22

/- netverify/model.Address$1 -/
theorem model_Address_1_ok (a0 : TInterface) (b0 : Int) (r : Bool) (h : M.model_Address_1 a0 b0 = some r) : Fn Try.prog 58 [.agg (c_TInterface a0), .pp ((ci .u32) b0)] (.pure (.bool r)) := by
 unfold M.model_Address_1 at h
 refine fn_pure Try.func58 rfl (by kernel_rfl) ?_
 refine awp_seq (rg0 [1, 2] 1 ⟨13, [(1, .pp ((ci .u32) b0)), (2, .ref 0 0)], [.box (c_TInterface a0)]⟩ ?_)
 refine then_n (awp_seq (rg0 [3] 0 ⟨13, [(3, .bool ((a0.fLen != 0) && (a0.fAddr == b0)))], []⟩ ?_))
 refine then_n (awp_ret ?_)
 obtain rfl := Option.some.inj h
 exact er0 (.bool ((a0.fLen != 0) && (a0.fAddr == b0)))

/- slices.IndexFunc[[]netverify/api.Interface,netverify/api.Interface] -/
theorem slices_IndexFunc_api_Interface_api_Interface__model_Address_1_ok (a0 : List TInterface) (a1c0 : Int) (r : Int) (h : M.slices_IndexFunc_api_Interface_api_Interface__model_Address_1 a0 a1c0 = some r) : Fn Try.prog 50 [sL 12 c_TInterface a0, .fn 58 [.pp ((ci .u32) a1c0)]] (.pure (.int .i64 r)) := by
 unfold M.slices_IndexFunc_api_Interface_api_Interface__model_Address_1 at h
 refine fn_pure Try.func50 rfl (by kernel_rfl) ?_
 refine awp_seq (rg0 [0, 1] 0 ⟨19, [(0, sL 12 c_TInterface a0), (1, .fn 58 [.pp ((ci .u32) a1c0)])], []⟩ ?_)
 refine then_n (awp_seq (awp_seq (rg0 [0, 1, 7, 8] 0 ⟨19, [(0, sL 12 c_TInterface a0), (1, .fn 58 [.pp ((ci .u32) a1c0)]), (7, .int .i64 (a0.length : Int)), (8, .int .i64 0)], []⟩ ?_)))
 refine then_n (awp_block ?_)
 obtain ⟨y4, q12, h13⟩ := bind_some h
 refine awp_le (s' := ⟨19, [(0, sL 12 c_TInterface a0), (1, .fn 58 [.pp ((ci .u32) a1c0)]), (7, .int .i64 (a0.length : Int)), (8, .int .i64 0)], []⟩) (le_rfl) ?_
 refine awp_mono (awp_loop (f := M.slices_IndexFunc_api_Interface_api_Interface__model_Address_1_l1 a0 a1c0) (S := fun (p1 : Int) => ⟨19, [(0, sL 12 c_TInterface a0), (1, .fn 58 [.pp ((ci .u32) a1c0)]), (7, .int .i64 (a0.length : Int)), (8, .int .i64 p1)], []⟩) (O := (Sum.elim (fun z => OutE 0 (fun z => ⟨19, [], []⟩) z) (fun z => OutR Try.prog Try.f50 (.int .i64 z)))) ?_ (x := 0) (y := y4) (loopM_iter q12)) ?_
 intro p1 y2 h1
 unfold M.slices_IndexFunc_api_Interface_api_Interface__model_Address_1_l1 at h1
 refine awp_seq (rg0 [0, 1, 7, 8, 9] 0 ⟨19, [(0, sL 12 c_TInterface a0), (1, .fn 58 [.pp ((ci .u32) a1c0)]), (7, .int .i64 (a0.length : Int)), (8, .int .i64 p1), (9, .bool (decide (p1 < (a0.length : Int))))], []⟩ ?_)
 refine then_n (awp_seq ?_)
 refine cnd (decide (p1 < (a0.length : Int))) (fun b2 => ?_) (fun b2 => ?_)
 have h3 := cond_t b2 h1
 refine awp_skip (then_n (awp_seq (awp_block (awp_seq (rg0 [0, 1, 5, 7, 8] 0 ⟨19, [(0, sL 12 c_TInterface a0), (1, .fn 58 [.pp ((ci .u32) a1c0)]), (5, .int .i64 p1), (7, .int .i64 (a0.length : Int)), (8, .int .i64 p1)], []⟩ ?_)))))
 refine then_n (awp_seq ?_)
 obtain ⟨r3, q5, h6⟩ := bind_some h3
 obtain ⟨c7, h8⟩ := gd_some h6
 refine rg [.pure (.bool r3)] [0, 1, 5, 7, 8, 16] 0 ⟨19, [(0, sL 12 c_TInterface a0), (1, .fn 58 [.pp ((ci .u32) a1c0)]), (5, .int .i64 p1), (7, .int .i64 (a0.length : Int)), (8, .int .i64 p1), (16, .bool r3)], []⟩ [decide (0 ≤ p1), decide (p1 < (a0.length : Int))] [⟨true, 58, [.agg (c_TInterface (a0.getD p1.toNat default)), .pp ((ci .u32) a1c0)], .pure (.bool r3)⟩] c7 ⟨fun _ => model_Address_1_ok (a0.getD p1.toNat default) a1c0 r3 q5, trivial⟩ ?_
 refine then_n ?_
 refine cnd r3 (fun b9 => ?_) (fun b9 => ?_)
 have h10 := cond_t b9 h8
 refine awp_seq (rg0 [4] 0 ⟨19, [(4, .int .i64 p1)], []⟩ ?_)
 refine then_n (awp_ret (inb_r (then_r ?_)))
 obtain rfl := Option.some.inj h10
 exact round_r ⟨rfl, er0 (.int .i64 p1)⟩
 have h11 := cond_f b9 h8
 refine awp_skip (inb_n (then_n (rg0 [0, 1, 7, 8] 0 ⟨19, [(0, sL 12 c_TInterface a0), (1, .fn 58 [.pp ((ci .u32) a1c0)]), (7, .int .i64 (a0.length : Int)), (8, .int .i64 (wr .i64 (p1 + 1)))], []⟩ ?_)))
 obtain rfl := Option.some.inj h11
 exact round_n (le_rfl)
 have h4 := cond_f b2 h1
 refine awp_exit (then_e ?_)
 obtain rfl := Option.some.inj h4
 exact round_e ⟨rfl, kp []⟩
 intro e14 s15 o16
 rcases y4 with g5 | y6
 have h17 := elim_l h13
 obtain ⟨rfl, l19⟩ := o16
 refine inb_here ?_
 refine then_le (s' := ⟨19, [], []⟩) (l19) ?_
 refine awp_seq (rg0 [4] 0 ⟨19, [(4, .int .i64 (-1))], []⟩ ?_)
 refine then_n (awp_ret ?_)
 obtain rfl := Option.some.inj h17
 exact er0 (.int .i64 (-1))
 have h18 := elim_r h13
 obtain ⟨rfl, n20⟩ := o16
 refine inb_r (then_r ?_)
 obtain rfl := Option.some.inj h18
 exact n20

/- netverify/model.Address -/
theorem model_Address_ok (a0 : TRouter) (a1 : Int) (r : Int) (h : M.model_Address a0 a1 = some r) : Fn Try.prog 23 [.agg (c_TRouter a0), .int .u32 a1] (.pure (.int .i64 r)) := by
 unfold M.model_Address at h
 refine fn_pure Try.func23 rfl (by kernel_rfl) ?_
 refine awp_seq (rg0 [2, 3] 2 ⟨9, [(2, .ref 0 0), (3, .ref 1 0)], [.box (c_TRouter a0), .box [.int .u32 a1]]⟩ ?_)
 refine then_n (awp_seq ?_)
 obtain ⟨r1, q1, h2⟩ := bind_some h
 refine rg [.pure (.int .i64 r1)] [4] 0 ⟨9, [(4, .int .i64 r1)], []⟩ [] [⟨true, 50, [sL 12 c_TInterface a0.fInterfaces, .fn 58 [.pp ((ci .u32) a1)]], .pure (.int .i64 r1)⟩] nil_all ⟨fun _ => slices_IndexFunc_api_Interface_api_Interface__model_Address_1_ok a0.fInterfaces a1 r1 q1, trivial⟩ ?_
 refine then_n (awp_ret ?_)
 obtain rfl := Option.some.inj h2
 exact er0 (.int .i64 r1)

/- netverify/model.rightStatic -/
theorem model_rightStatic_ok (a0 : TRouter) (a1 : TStaticRoute) (r : Bool) (h : M.model_rightStatic a0 a1 = some r) : Fn Try.prog 92 [.agg (c_TRouter a0), .agg (c_TStaticRoute a1)] (.pure (.bool r)) := by
 unfold M.model_rightStatic at h
 refine fn_pure Try.func92 rfl (by kernel_rfl) ?_
 refine awp_seq (rg0 [2, 3] 2 ⟨55, [(2, .ref 0 0), (3, .ref 1 0)], [.box (c_TRouter a0), .box (c_TStaticRoute a1)]⟩ ?_)
 refine then_n (awp_seq (rg0 [2, 3, 5] 2 ⟨55, [(2, .ref 0 0), (3, .ref 1 0), (5, .int .i64 0)], [.box (c_TRouter a0), .box (c_TStaticRoute a1)]⟩ ?_))
 refine then_n (awp_seq (awp_seq (rg0 [2, 3, 5, 16, 17, 18] 2 ⟨55, [(2, .ref 0 0), (3, .ref 1 0), (5, .int .i64 0), (16, .sl true 1 3 (fun i => List.take 1 (List.drop (i * 1) [.bool (a1.fNext != 0), .bool (!strEq a1.fIface (⟨#[]⟩ : ByteArray)), .bool a1.fDiscard]))), (17, .int .i64 3), (18, .int .i64 0)], [.box (c_TRouter a0), .box (c_TStaticRoute a1)]⟩ ?_)))
 refine then_le (s' := ⟨55, [(2, .ref 0 0), (3, .ref 1 0), (5, .int .i64 0), (16, sL 1 cb ([a1.fNext != 0, !strEq a1.fIface (⟨#[]⟩ : ByteArray), a1.fDiscard] : List Bool)), (17, .int .i64 3), (18, .int .i64 0)], [.box (c_TRouter a0), .box (c_TStaticRoute a1)]⟩) (le_sub (.cons Sub.rfl (.cons Sub.rfl (.cons Sub.rfl (.cons (sub_sl rfl (fun i hi => match i, hi with | 0, _ => rfl | 1, _ => rfl | 2, _ => rfl | n + 3, h => absurd h (by omega))) (.cons Sub.rfl (.cons Sub.rfl .nil)))))) (.cons .rfl (.cons .rfl .nil))) ?_
 refine awp_block ?_
 obtain ⟨y4, q12, h13⟩ := bind_some h
 refine awp_le (s' := ⟨55, [(2, .ref 0 0), (3, .ref 1 0), (5, .int .i64 0), (16, sL 1 cb ([a1.fNext != 0, !strEq a1.fIface (⟨#[]⟩ : ByteArray), a1.fDiscard] : List Bool)), (17, .int .i64 3), (18, .int .i64 0)], [.box (c_TRouter a0), .box (c_TStaticRoute a1)]⟩) (le_rfl) ?_
 refine awp_mono (awp_loop (f := M.model_rightStatic_l1 a1) (S := fun (p1 : Int × Int) => ⟨55, [(2, .ref 0 0), (3, .ref 1 0), (5, .int .i64 p1.1), (16, sL 1 cb ([a1.fNext != 0, !strEq a1.fIface (⟨#[]⟩ : ByteArray), a1.fDiscard] : List Bool)), (17, .int .i64 3), (18, .int .i64 p1.2)], [.box (c_TRouter a0), .box (c_TStaticRoute a1)]⟩) (O := (fun z => OutE 0 (fun z => ⟨55, [(2, .ref 0 0), (3, .ref 1 0), (5, .int .i64 z)], [.box (c_TRouter a0), .box (c_TStaticRoute a1)]⟩) z)) ?_ (x := (0, 0)) (y := y4) (loopM_iter q12)) ?_
 intro p1 y2 h1
 unfold M.model_rightStatic_l1 at h1
 refine awp_seq (rg0 [2, 3, 5, 16, 17, 18, 19] 2 ⟨55, [(2, .ref 0 0), (3, .ref 1 0), (5, .int .i64 p1.1), (16, sL 1 cb ([a1.fNext != 0, !strEq a1.fIface (⟨#[]⟩ : ByteArray), a1.fDiscard] : List Bool)), (17, .int .i64 3), (18, .int .i64 p1.2), (19, .bool (decide (p1.2 < 3)))], [.box (c_TRouter a0), .box (c_TStaticRoute a1)]⟩ ?_)
 refine then_n (awp_seq ?_)
 refine cnd (decide (p1.2 < 3)) (fun b2 => ?_) (fun b2 => ?_)
 have h3 := cond_t b2 h1
 refine awp_skip (then_n ?_)
 refine awp_join (fun (p3 : Int) => ⟨55, [(2, .ref 0 0), (3, .ref 1 0), (5, .int .i64 p3), (16, sL 1 cb ([a1.fNext != 0, !strEq a1.fIface (⟨#[]⟩ : ByteArray), a1.fDiscard] : List Bool)), (17, .int .i64 3), (18, .int .i64 p1.2)], [.box (c_TRouter a0), .box (c_TStaticRoute a1)]⟩) (fun p3 => M.model_rightStatic_k1 p1 p3 = some y2) ?_ ?_
 intro p3 h6
 unfold M.model_rightStatic_k1 at h6
 refine rg0 [2, 3, 5, 16, 17, 18] 2 ⟨55, [(2, .ref 0 0), (3, .ref 1 0), (5, .int .i64 p3), (16, sL 1 cb ([a1.fNext != 0, !strEq a1.fIface (⟨#[]⟩ : ByteArray), a1.fDiscard] : List Bool)), (17, .int .i64 3), (18, .int .i64 (wr .i64 (p1.2 + 1)))], [.box (c_TRouter a0), .box (c_TStaticRoute a1)]⟩ ?_
 obtain rfl := Option.some.inj h6
 exact round_n (le_rfl)
 intro k5
 refine awp_block (awp_seq ?_)
 obtain ⟨c7, h8⟩ := gd_some h3
 refine rgc [2, 3, 5, 7, 16, 17, 18] 2 ⟨55, [(2, .ref 0 0), (3, .ref 1 0), (5, .int .i64 p1.1), (7, .bool (([a1.fNext != 0, !strEq a1.fIface (⟨#[]⟩ : ByteArray), a1.fDiscard] : List Bool).getD p1.2.toNat default)), (16, sL 1 cb ([a1.fNext != 0, !strEq a1.fIface (⟨#[]⟩ : ByteArray), a1.fDiscard] : List Bool)), (17, .int .i64 3), (18, .int .i64 p1.2)], [.box (c_TRouter a0), .box (c_TStaticRoute a1)]⟩ [decide (0 ≤ p1.2), decide (p1.2 < (([a1.fNext != 0, !strEq a1.fIface (⟨#[]⟩ : ByteArray), a1.fDiscard] : List Bool).length : Int))] c7 ?_
 refine then_n (awp_seq (rg0 [2, 3, 5, 16, 17, 18, 22] 2 ⟨55, [(2, .ref 0 0), (3, .ref 1 0), (5, .int .i64 p1.1), (16, sL 1 cb ([a1.fNext != 0, !strEq a1.fIface (⟨#[]⟩ : ByteArray), a1.fDiscard] : List Bool)), (17, .int .i64 3), (18, .int .i64 p1.2), (22, .bool (([a1.fNext != 0, !strEq a1.fIface (⟨#[]⟩ : ByteArray), a1.fDiscard] : List Bool).getD p1.2.toNat default))], [.box (c_TRouter a0), .box (c_TStaticRoute a1)]⟩ ?_))
 refine then_n ?_
 refine cnd (([a1.fNext != 0, !strEq a1.fIface (⟨#[]⟩ : ByteArray), a1.fDiscard] : List Bool).getD p1.2.toNat default) (fun b9 => ?_) (fun b9 => ?_)
 have h10 := cond_t b9 h8
 refine rg0 [2, 3, 5, 16, 17, 18] 2 ⟨55, [(2, .ref 0 0), (3, .ref 1 0), (5, .int .i64 (wr .i64 (p1.1 + 1))), (16, sL 1 cb ([a1.fNext != 0, !strEq a1.fIface (⟨#[]⟩ : ByteArray), a1.fDiscard] : List Bool)), (17, .int .i64 3), (18, .int .i64 p1.2)], [.box (c_TRouter a0), .box (c_TStaticRoute a1)]⟩ ?_
 refine inb_n ?_
 exact then_le (le_rfl) (k5 (wr .i64 (p1.1 + 1)) h10)
 have h11 := cond_f b9 h8
 refine awp_skip (inb_n ?_)
 exact then_le (kp [2, 3, 5, 16, 17, 18]) (k5 p1.1 h11)
 have h4 := cond_f b2 h1
 refine awp_exit (then_e ?_)
 obtain rfl := Option.some.inj h4
 exact round_e ⟨rfl, kp [2, 3, 5]⟩
 intro e14 s15 o16
 obtain ⟨rfl, l17⟩ := o16
 refine inb_here ?_
 refine then_le (s' := ⟨55, [(2, .ref 0 0), (3, .ref 1 0), (5, .int .i64 y4)], [.box (c_TRouter a0), .box (c_TStaticRoute a1)]⟩) (l17) ?_
 refine awp_seq ?_
 obtain ⟨r5, q18, h19⟩ := bind_some h13
 obtain ⟨r6, q20, h21⟩ := bind_some h19
 obtain ⟨r7, q22, h23⟩ := bind_some h21
 obtain ⟨r8, q24, h25⟩ := bind_some h23
 refine rg [.pure (.bool r5), .pure (.int .i64 r6), .pure (.bool r7), .pure (.bool r8)] [4] 0 ⟨55, [(4, .bool ((((r5 && (y4 == 1)) && ((a1.fNext == 0) || (decide (r6 < 0)))) && r7) && r8))], []⟩ [] [⟨true, 88, [.agg (c_TPrefix a1.fPrefix)], .pure (.bool r5)⟩, ⟨((r5 && (y4 == 1)) && !(a1.fNext == 0)), 23, [.agg (c_TRouter a0), .int .u32 a1.fNext], .pure (.int .i64 r6)⟩, ⟨(r5 && (y4 == 1)) && ((a1.fNext == 0) || (decide (r6 < 0))), 61, [.int .i64 a1.fAdmin, .int .i64 1, .int .i64 255], .pure (.bool r7)⟩, ⟨((r5 && (y4 == 1)) && ((a1.fNext == 0) || (decide (r6 < 0)))) && r7, 61, [.int .i64 a1.fTag, .int .i64 0, .int .i64 65535], .pure (.bool r8)⟩] nil_all ⟨fun _ => addr_Valid_ok a1.fPrefix r5 q18, fun hg => model_Address_ok a0 a1.fNext r6 (gc_some q20 hg), fun hg => model_within_ok a1.fAdmin 1 255 r7 (gc_some q22 hg), fun hg => model_within_ok a1.fTag 0 65535 r8 (gc_some q24 hg), trivial⟩ ?_
 refine then_n (awp_ret ?_)
 obtain rfl := Option.some.inj h25
 exact er0 (.bool ((((r5 && (y4 == 1)) && ((a1.fNext == 0) || (decide (r6 < 0)))) && r7) && r8))

/- netverify/model.checkStatics -/
theorem model_checkStatics_ok (a0 : TRouter) (r : Int) (h : M.model_checkStatics a0 = some r) : Fn Try.prog 68 [.agg (c_TRouter a0)] (.pure (.int .i64 r)) := by
 unfold M.model_checkStatics at h
 refine fn_pure Try.func68 rfl (by kernel_rfl) ?_
 refine awp_seq (rg0 [1] 1 ⟨63, [(1, .ref 0 0)], [.box (c_TRouter a0)]⟩ ?_)
 refine then_n (awp_seq (awp_seq (rg0 [1, 11] 1 ⟨63, [(1, .ref 0 0), (11, .bool (decide ((a0.fStatics.length : Int) > 16)))], [.box (c_TRouter a0)]⟩ ?_)))
 refine then_n ?_
 refine cnd (decide ((a0.fStatics.length : Int) > 16)) (fun b1 => ?_) (fun b1 => ?_)
 have h2 := cond_t b1 h
 refine awp_seq (rg0 [2] 0 ⟨63, [(2, .int .i64 7)], []⟩ ?_)
 refine then_n (awp_ret (then_r ?_))
 obtain rfl := Option.some.inj h2
 exact er0 (.int .i64 7)
 have h3 := cond_f b1 h
 refine awp_skip (then_n (awp_seq (awp_seq (rg0 [1, 13, 14, 15] 1 ⟨63, [(1, .ref 0 0), (13, sL 7 c_TStaticRoute a0.fStatics), (14, .int .i64 (a0.fStatics.length : Int)), (15, .int .i64 0)], [.box (c_TRouter a0)]⟩ ?_))))
 refine then_n (awp_block ?_)
 obtain ⟨y11, q50, h51⟩ := bind_some h3
 refine awp_le (s' := ⟨63, [(1, .ref 0 0), (13, sL 7 c_TStaticRoute a0.fStatics), (14, .int .i64 (a0.fStatics.length : Int)), (15, .int .i64 0)], [.box (c_TRouter a0)]⟩) (le_rfl) ?_
 refine awp_mono (awp_loop (f := M.model_checkStatics_l1 a0) (S := fun (p1 : Int) => ⟨63, [(1, .ref 0 0), (13, sL 7 c_TStaticRoute a0.fStatics), (14, .int .i64 (a0.fStatics.length : Int)), (15, .int .i64 p1)], [.box (c_TRouter a0)]⟩) (O := (Sum.elim (fun z => OutE 0 (fun z => ⟨63, [], []⟩) z) (fun z => OutR Try.prog Try.f68 (.int .i64 z)))) ?_ (x := 0) (y := y11) (loopM_iter q50)) ?_
 intro p1 y2 h4
 unfold M.model_checkStatics_l1 at h4
 refine awp_seq (rg0 [1, 13, 14, 15, 16] 1 ⟨63, [(1, .ref 0 0), (13, sL 7 c_TStaticRoute a0.fStatics), (14, .int .i64 (a0.fStatics.length : Int)), (15, .int .i64 p1), (16, .bool (decide (p1 < (a0.fStatics.length : Int))))], [.box (c_TRouter a0)]⟩ ?_)
 refine then_n (awp_seq ?_)
 refine cnd (decide (p1 < (a0.fStatics.length : Int))) (fun b5 => ?_) (fun b5 => ?_)
 have h6 := cond_t b5 h4
 refine awp_skip (then_n (awp_seq (awp_block (awp_seq ?_))))
 obtain ⟨c8, h9⟩ := gd_some h6
 refine rgc [1, 3, 4, 13, 14, 15] 2 ⟨63, [(1, .ref 0 0), (3, .int .i64 p1), (4, .ref 1 0), (13, sL 7 c_TStaticRoute a0.fStatics), (14, .int .i64 (a0.fStatics.length : Int)), (15, .int .i64 p1)], [.box (c_TRouter a0), .box (c_TStaticRoute (a0.fStatics.getD p1.toNat default))]⟩ [decide (0 ≤ p1), decide (p1 < (a0.fStatics.length : Int))] c8 ?_
 refine then_n (awp_seq (awp_seq ?_))
 obtain ⟨r3, q10, h11⟩ := bind_some h9
 refine rg [.pure (.bool r3)] [1, 3, 4, 13, 14, 15, 23] 2 ⟨63, [(1, .ref 0 0), (3, .int .i64 p1), (4, .ref 1 0), (13, sL 7 c_TStaticRoute a0.fStatics), (14, .int .i64 (a0.fStatics.length : Int)), (15, .int .i64 p1), (23, .bool (!r3))], [.box (c_TRouter a0), .box (c_TStaticRoute (a0.fStatics.getD p1.toNat default))]⟩ [] [⟨true, 92, [.agg (c_TRouter a0), .agg (c_TStaticRoute (a0.fStatics.getD p1.toNat default))], .pure (.bool r3)⟩] nil_all ⟨fun _ => model_rightStatic_ok a0 (a0.fStatics.getD p1.toNat default) r3 q10, trivial⟩ ?_
 refine then_n ?_
 refine cnd (!r3) (fun b12 => ?_) (fun b12 => ?_)
 have h13 := cond_t b12 h11
 refine awp_seq (rg0 [2] 0 ⟨63, [(2, .int .i64 1)], []⟩ ?_)
 refine then_n (awp_ret (then_r (inb_r (then_r ?_))))
 obtain rfl := Option.some.inj h13
 exact round_r ⟨rfl, er0 (.int .i64 1)⟩
 have h14 := cond_f b12 h11
 refine awp_skip (then_n ?_)
 refine awp_join (fun (p4 : Unit) => ⟨63, [(1, .ref 0 0), (3, .int .i64 p1), (4, .ref 1 0), (13, sL 7 c_TStaticRoute a0.fStatics), (14, .int .i64 (a0.fStatics.length : Int)), (15, .int .i64 p1)], [.box (c_TRouter a0), .box (c_TStaticRoute (a0.fStatics.getD p1.toNat default))]⟩) (fun p4 => M.model_checkStatics_k1 a0 p1 p4 = some y2) ?_ ?_
 intro p4 h16
 unfold M.model_checkStatics_k1 at h16
 refine awp_seq ?_
 obtain ⟨c17, h18⟩ := gd_some h16
 refine rgc [1, 4, 13, 14, 15, 43, 44, 45] 2 ⟨63, [(1, .ref 0 0), (4, .ref 1 0), (13, sL 7 c_TStaticRoute a0.fStatics), (14, .int .i64 (a0.fStatics.length : Int)), (15, .int .i64 p1), (43, .sl false 7 (p1.toNat - 0) (fun i => c_TStaticRoute (a0.fStatics.getD (0 + i) default))), (44, .int .i64 ((p1.toNat - 0 : Nat) : Int)), (45, .int .i64 0)], [.box (c_TRouter a0), .box (c_TStaticRoute (a0.fStatics.getD p1.toNat default))]⟩ [decide (0 ≤ p1), decide (p1 ≤ (a0.fStatics.length : Int))] c17 ?_
 refine then_le (s' := ⟨63, [(1, .ref 0 0), (4, .ref 1 0), (13, sL 7 c_TStaticRoute a0.fStatics), (14, .int .i64 (a0.fStatics.length : Int)), (15, .int .i64 p1), (43, sL 7 c_TStaticRoute ((a0.fStatics.drop 0).take (p1.toNat - 0))), (44, .int .i64 ((p1.toNat - 0 : Nat) : Int)), (45, .int .i64 0)], [.box (c_TRouter a0), .box (c_TStaticRoute (a0.fStatics.getD p1.toNat default))]⟩) (le_sub (.cons Sub.rfl (.cons Sub.rfl (.cons Sub.rfl (.cons Sub.rfl (.cons Sub.rfl (.cons (sub_sl (len_cut _ _ _ (cut_hi (c17 _ (List.mem_cons_of_mem _ List.mem_cons_self)))) (cut_ext _ _ _ _)) (.cons Sub.rfl (.cons Sub.rfl .nil)))))))) (.cons .rfl (.cons .rfl .nil))) ?_
 refine awp_block ?_
 obtain ⟨y7, q28, h29⟩ := bind_some h18
 refine awp_le (s' := ⟨63, [(1, .ref 0 0), (4, .ref 1 0), (13, sL 7 c_TStaticRoute a0.fStatics), (14, .int .i64 (a0.fStatics.length : Int)), (15, .int .i64 p1), (43, sL 7 c_TStaticRoute ((a0.fStatics.drop 0).take (p1.toNat - 0))), (44, .int .i64 ((p1.toNat - 0 : Nat) : Int)), (45, .int .i64 0)], [.box (c_TRouter a0), .box (c_TStaticRoute (a0.fStatics.getD p1.toNat default))]⟩) (le_rfl) ?_
 refine awp_mono (awp_loop (f := M.model_checkStatics_l2 a0 p1) (S := fun (p5 : Int) => ⟨63, [(1, .ref 0 0), (4, .ref 1 0), (13, sL 7 c_TStaticRoute a0.fStatics), (14, .int .i64 (a0.fStatics.length : Int)), (15, .int .i64 p1), (43, sL 7 c_TStaticRoute ((a0.fStatics.drop 0).take (p1.toNat - 0))), (44, .int .i64 ((p1.toNat - 0 : Nat) : Int)), (45, .int .i64 p5)], [.box (c_TRouter a0), .box (c_TStaticRoute (a0.fStatics.getD p1.toNat default))]⟩) (O := (Sum.elim (fun z => OutE 2 (fun z => ⟨63, [(1, .ref 0 0), (13, sL 7 c_TStaticRoute a0.fStatics), (14, .int .i64 (a0.fStatics.length : Int)), (15, .int .i64 p1)], [.box (c_TRouter a0)]⟩) z) (fun z => OutR Try.prog Try.f68 (.int .i64 z)))) ?_ (x := 0) (y := y7) (loopM_iter q28)) ?_
 intro p5 y6 h19
 unfold M.model_checkStatics_l2 at h19
 refine awp_seq (rg0 [1, 4, 13, 14, 15, 43, 44, 45, 46] 2 ⟨63, [(1, .ref 0 0), (4, .ref 1 0), (13, sL 7 c_TStaticRoute a0.fStatics), (14, .int .i64 (a0.fStatics.length : Int)), (15, .int .i64 p1), (43, sL 7 c_TStaticRoute ((a0.fStatics.drop 0).take (p1.toNat - 0))), (44, .int .i64 ((p1.toNat - 0 : Nat) : Int)), (45, .int .i64 p5), (46, .bool (decide (p5 < ((p1.toNat - 0 : Nat) : Int))))], [.box (c_TRouter a0), .box (c_TStaticRoute (a0.fStatics.getD p1.toNat default))]⟩ ?_)
 refine then_n (awp_seq ?_)
 refine cnd (decide (p5 < ((p1.toNat - 0 : Nat) : Int))) (fun b20 => ?_) (fun b20 => ?_)
 have h21 := cond_t b20 h19
 refine awp_skip (then_n (awp_seq (awp_block (awp_seq ?_))))
 obtain ⟨c23, h24⟩ := gd_some h21
 refine rgc [1, 4, 7, 13, 14, 15, 43, 44, 45] 3 ⟨63, [(1, .ref 0 0), (4, .ref 1 0), (7, .ref 2 0), (13, sL 7 c_TStaticRoute a0.fStatics), (14, .int .i64 (a0.fStatics.length : Int)), (15, .int .i64 p1), (43, sL 7 c_TStaticRoute ((a0.fStatics.drop 0).take (p1.toNat - 0))), (44, .int .i64 ((p1.toNat - 0 : Nat) : Int)), (45, .int .i64 p5)], [.box (c_TRouter a0), .box (c_TStaticRoute (a0.fStatics.getD p1.toNat default)), .box (c_TStaticRoute (((a0.fStatics.drop 0).take (p1.toNat - 0)).getD p5.toNat default))]⟩ [decide (0 ≤ p5), decide (p5 < (((a0.fStatics.drop 0).take (p1.toNat - 0)).length : Int))] c23 ?_
 refine then_n (awp_seq (rg0 [1, 4, 13, 14, 15, 43, 44, 45, 60] 2 ⟨63, [(1, .ref 0 0), (4, .ref 1 0), (13, sL 7 c_TStaticRoute a0.fStatics), (14, .int .i64 (a0.fStatics.length : Int)), (15, .int .i64 p1), (43, sL 7 c_TStaticRoute ((a0.fStatics.drop 0).take (p1.toNat - 0))), (44, .int .i64 ((p1.toNat - 0 : Nat) : Int)), (45, .int .i64 p5), (60, .bool ((((((((a0.fStatics.drop 0).take (p1.toNat - 0)).getD p5.toNat default).fPrefix).fAddr) == (((a0.fStatics.getD p1.toNat default).fPrefix).fAddr)) && (((((((a0.fStatics.drop 0).take (p1.toNat - 0)).getD p5.toNat default).fPrefix).fLen) == (((a0.fStatics.getD p1.toNat default).fPrefix).fLen)) && true)) && (((((a0.fStatics.drop 0).take (p1.toNat - 0)).getD p5.toNat default).fAdmin) == ((a0.fStatics.getD p1.toNat default).fAdmin))))], [.box (c_TRouter a0), .box (c_TStaticRoute (a0.fStatics.getD p1.toNat default))]⟩ ?_))
 refine then_n ?_
 refine cnd ((((((((a0.fStatics.drop 0).take (p1.toNat - 0)).getD p5.toNat default).fPrefix).fAddr) == (((a0.fStatics.getD p1.toNat default).fPrefix).fAddr)) && (((((((a0.fStatics.drop 0).take (p1.toNat - 0)).getD p5.toNat default).fPrefix).fLen) == (((a0.fStatics.getD p1.toNat default).fPrefix).fLen)) && true)) && (((((a0.fStatics.drop 0).take (p1.toNat - 0)).getD p5.toNat default).fAdmin) == ((a0.fStatics.getD p1.toNat default).fAdmin))) (fun b25 => ?_) (fun b25 => ?_)
 have h26 := cond_t b25 h24
 refine awp_seq (rg0 [2] 0 ⟨63, [(2, .int .i64 6)], []⟩ ?_)
 refine then_n (awp_ret (inb_r (then_r ?_)))
 obtain rfl := Option.some.inj h26
 exact round_r ⟨rfl, er0 (.int .i64 6)⟩
 have h27 := cond_f b25 h24
 refine awp_skip (inb_n (then_n (rg0 [1, 4, 13, 14, 15, 43, 44, 45] 2 ⟨63, [(1, .ref 0 0), (4, .ref 1 0), (13, sL 7 c_TStaticRoute a0.fStatics), (14, .int .i64 (a0.fStatics.length : Int)), (15, .int .i64 p1), (43, sL 7 c_TStaticRoute ((a0.fStatics.drop 0).take (p1.toNat - 0))), (44, .int .i64 ((p1.toNat - 0 : Nat) : Int)), (45, .int .i64 (wr .i64 (p5 + 1)))], [.box (c_TRouter a0), .box (c_TStaticRoute (a0.fStatics.getD p1.toNat default))]⟩ ?_)))
 obtain rfl := Option.some.inj h27
 exact round_n (le_rfl)
 have h22 := cond_f b20 h19
 refine awp_exit (then_e ?_)
 obtain rfl := Option.some.inj h22
 exact round_e ⟨rfl, Le.trans (s' := ⟨63, [(1, .ref 0 0), (13, sL 7 c_TStaticRoute a0.fStatics), (14, .int .i64 (a0.fStatics.length : Int)), (15, .int .i64 p1)], [.box (c_TRouter a0), .box (c_TStaticRoute (a0.fStatics.getD p1.toNat default))]⟩) (kp [1, 13, 14, 15]) (le_cut (n := 1) (by kernel_rfl))⟩
 intro e30 s31 o32
 rcases y7 with g8 | y9
 have h33 := elim_l h29
 obtain ⟨rfl, l35⟩ := o32
 refine inb_here (inb_n ?_)
 refine then_le (s' := ⟨63, [(1, .ref 0 0), (13, sL 7 c_TStaticRoute a0.fStatics), (14, .int .i64 (a0.fStatics.length : Int)), (15, .int .i64 p1)], [.box (c_TRouter a0)]⟩) (l35) ?_
 refine rg0 [1, 13, 14, 15] 1 ⟨63, [(1, .ref 0 0), (13, sL 7 c_TStaticRoute a0.fStatics), (14, .int .i64 (a0.fStatics.length : Int)), (15, .int .i64 (wr .i64 (p1 + 1)))], [.box (c_TRouter a0)]⟩ ?_
 obtain rfl := Option.some.inj h33
 exact round_n (le_rfl)
 have h34 := elim_r h29
 obtain ⟨rfl, n36⟩ := o32
 refine inb_r (inb_r (then_r ?_))
 obtain rfl := Option.some.inj h34
 exact round_r ⟨rfl, n36⟩
 intro k15
 refine awp_seq (rg0 [1, 3, 4, 13, 14, 15, 26] 2 ⟨63, [(1, .ref 0 0), (3, .int .i64 p1), (4, .ref 1 0), (13, sL 7 c_TStaticRoute a0.fStatics), (14, .int .i64 (a0.fStatics.length : Int)), (15, .int .i64 p1), (26, .bool (!strEq ((a0.fStatics.getD p1.toNat default).fIface) (⟨#[]⟩ : ByteArray)))], [.box (c_TRouter a0), .box (c_TStaticRoute (a0.fStatics.getD p1.toNat default))]⟩ ?_)
 refine then_n ?_
 refine cnd (!strEq ((a0.fStatics.getD p1.toNat default).fIface) (⟨#[]⟩ : ByteArray)) (fun b37 => ?_) (fun b37 => ?_)
 have h38 := cond_t b37 h14
 refine awp_seq ?_
 obtain ⟨r10, q40, h41⟩ := bind_some h38
 refine rg [.pure (.int .i64 r10)] [1, 3, 4, 5, 13, 14, 15] 2 ⟨63, [(1, .ref 0 0), (3, .int .i64 p1), (4, .ref 1 0), (5, .int .i64 r10), (13, sL 7 c_TStaticRoute a0.fStatics), (14, .int .i64 (a0.fStatics.length : Int)), (15, .int .i64 p1)], [.box (c_TRouter a0), .box (c_TStaticRoute (a0.fStatics.getD p1.toNat default))]⟩ [] [⟨true, 15, [.agg (c_TRouter a0), .str ((a0.fStatics.getD p1.toNat default).fIface)], .pure (.int .i64 r10)⟩] nil_all ⟨fun _ => model_Interface_ok a0 ((a0.fStatics.getD p1.toNat default).fIface) r10 q40, trivial⟩ ?_
 refine then_n (awp_seq (awp_seq (rg0 [1, 3, 4, 5, 13, 14, 15, 32] 2 ⟨63, [(1, .ref 0 0), (3, .int .i64 p1), (4, .ref 1 0), (5, .int .i64 r10), (13, sL 7 c_TStaticRoute a0.fStatics), (14, .int .i64 (a0.fStatics.length : Int)), (15, .int .i64 p1), (32, .bool (decide (r10 < 0)))], [.box (c_TRouter a0), .box (c_TStaticRoute (a0.fStatics.getD p1.toNat default))]⟩ ?_)))
 refine then_n ?_
 refine cnd (decide (r10 < 0)) (fun b42 => ?_) (fun b42 => ?_)
 have h43 := cond_t b42 h41
 refine awp_seq (rg0 [2] 0 ⟨63, [(2, .int .i64 5)], []⟩ ?_)
 refine then_n (awp_ret (then_r (then_r (inb_r (then_r ?_)))))
 obtain rfl := Option.some.inj h43
 exact round_r ⟨rfl, er0 (.int .i64 5)⟩
 have h44 := cond_f b42 h41
 refine awp_skip (then_n (awp_seq ?_))
 obtain ⟨c45, h46⟩ := gd_some h44
 refine rgc [1, 3, 4, 13, 14, 15, 39] 2 ⟨63, [(1, .ref 0 0), (3, .int .i64 p1), (4, .ref 1 0), (13, sL 7 c_TStaticRoute a0.fStatics), (14, .int .i64 (a0.fStatics.length : Int)), (15, .int .i64 p1), (39, .bool (((a0.fInterfaces.getD r10.toNat default).fLen) == 0))], [.box (c_TRouter a0), .box (c_TStaticRoute (a0.fStatics.getD p1.toNat default))]⟩ [decide (0 ≤ r10), decide (r10 < (a0.fInterfaces.length : Int))] c45 ?_
 refine then_n ?_
 refine cnd (((a0.fInterfaces.getD r10.toNat default).fLen) == 0) (fun b47 => ?_) (fun b47 => ?_)
 have h48 := cond_t b47 h46
 refine awp_seq (rg0 [2] 0 ⟨63, [(2, .int .i64 1)], []⟩ ?_)
 refine then_n (awp_ret (then_r (inb_r (then_r ?_))))
 obtain rfl := Option.some.inj h48
 exact round_r ⟨rfl, er0 (.int .i64 1)⟩
 have h49 := cond_f b47 h46
 refine awp_skip ?_
 exact then_le (kp [1, 3, 4, 13, 14, 15]) (k15 () h49)
 have h39 := cond_f b37 h14
 refine awp_skip ?_
 exact then_le (kp [1, 3, 4, 13, 14, 15]) (k15 () h39)
 have h7 := cond_f b5 h4
 refine awp_exit (then_e ?_)
 obtain rfl := Option.some.inj h7
 exact round_e ⟨rfl, Le.trans (s' := ⟨63, [], [.box (c_TRouter a0)]⟩) (kp []) (le_cut (n := 0) (by kernel_rfl))⟩
 intro e52 s53 o54
 rcases y11 with g12 | y13
 have h55 := elim_l h51
 obtain ⟨rfl, l57⟩ := o54
 refine inb_here ?_
 refine then_le (s' := ⟨63, [], []⟩) (l57) ?_
 refine awp_seq (rg0 [2] 0 ⟨63, [(2, .int .i64 0)], []⟩ ?_)
 refine then_n (awp_ret ?_)
 obtain rfl := Option.some.inj h55
 exact er0 (.int .i64 0)
 have h56 := elim_r h51
 obtain ⟨rfl, n58⟩ := o54
 refine inb_r (then_r ?_)
 obtain rfl := Option.some.inj h56
 exact n58

/- netverify/model.checkRedist -/
theorem model_checkRedist_ok (a0 : TRouter) (a1 : List TRedist) (a2 : Int) (a3 : Int) (a4 : Int) (a5 : Int) (r : Int) (h : M.model_checkRedist a0 a1 a2 a3 a4 a5 = some r) : Fn Try.prog 93 [.agg (c_TRouter a0), sL 5 c_TRedist a1, .int .i64 a2, .int .i64 a3, .int .i64 a4, .int .i64 a5] (.pure (.int .i64 r)) := by
 unfold M.model_checkRedist at h
 refine fn_pure Try.func93 rfl (by kernel_rfl) ?_
 refine awp_seq (rg0 [1, 2, 3, 4, 5, 6] 1 ⟨85, [(1, sL 5 c_TRedist a1), (2, .int .i64 a2), (3, .int .i64 a3), (4, .int .i64 a4), (5, .int .i64 a5), (6, .ref 0 0)], [.box (c_TRouter a0)]⟩ ?_)
 refine then_n (awp_seq (awp_seq (rg0 [1, 2, 3, 4, 5, 6, 19] 1 ⟨85, [(1, sL 5 c_TRedist a1), (2, .int .i64 a2), (3, .int .i64 a3), (4, .int .i64 a4), (5, .int .i64 a5), (6, .ref 0 0), (19, .bool (decide ((a1.length : Int) > 4)))], [.box (c_TRouter a0)]⟩ ?_)))
 refine then_n ?_
 refine cnd (decide ((a1.length : Int) > 4)) (fun b1 => ?_) (fun b1 => ?_)
 have h2 := cond_t b1 h
 refine awp_seq (rg0 [12] 0 ⟨85, [(12, .int .i64 7)], []⟩ ?_)
 refine then_n (awp_ret (then_r ?_))
 obtain rfl := Option.some.inj h2
 exact er0 (.int .i64 7)
 have h3 := cond_f b1 h
 refine awp_skip (then_n (awp_seq (awp_seq (rg0 [1, 2, 3, 4, 5, 6, 20, 21, 22] 1 ⟨85, [(1, sL 5 c_TRedist a1), (2, .int .i64 a2), (3, .int .i64 a3), (4, .int .i64 a4), (5, .int .i64 a5), (6, .ref 0 0), (20, sL 5 c_TRedist a1), (21, .int .i64 (a1.length : Int)), (22, .int .i64 0)], [.box (c_TRouter a0)]⟩ ?_))))
 refine then_n (awp_block ?_)
 obtain ⟨y13, q46, h47⟩ := bind_some h3
 refine awp_le (s' := ⟨85, [(1, sL 5 c_TRedist a1), (2, .int .i64 a2), (3, .int .i64 a3), (4, .int .i64 a4), (5, .int .i64 a5), (6, .ref 0 0), (20, sL 5 c_TRedist a1), (21, .int .i64 (a1.length : Int)), (22, .int .i64 0)], [.box (c_TRouter a0)]⟩) (le_rfl) ?_
 refine awp_mono (awp_loop (f := M.model_checkRedist_l1 a0 a1 a2 a3 a4 a5) (S := fun (p1 : Int) => ⟨85, [(1, sL 5 c_TRedist a1), (2, .int .i64 a2), (3, .int .i64 a3), (4, .int .i64 a4), (5, .int .i64 a5), (6, .ref 0 0), (20, sL 5 c_TRedist a1), (21, .int .i64 (a1.length : Int)), (22, .int .i64 p1)], [.box (c_TRouter a0)]⟩) (O := (Sum.elim (fun z => OutE 0 (fun z => ⟨85, [], []⟩) z) (fun z => OutR Try.prog Try.f93 (.int .i64 z)))) ?_ (x := 0) (y := y13) (loopM_iter q46)) ?_
 intro p1 y2 h4
 unfold M.model_checkRedist_l1 at h4
 refine awp_seq (rg0 [1, 2, 3, 4, 5, 6, 20, 21, 22, 23] 1 ⟨85, [(1, sL 5 c_TRedist a1), (2, .int .i64 a2), (3, .int .i64 a3), (4, .int .i64 a4), (5, .int .i64 a5), (6, .ref 0 0), (20, sL 5 c_TRedist a1), (21, .int .i64 (a1.length : Int)), (22, .int .i64 p1), (23, .bool (decide (p1 < (a1.length : Int))))], [.box (c_TRouter a0)]⟩ ?_)
 refine then_n (awp_seq ?_)
 refine cnd (decide (p1 < (a1.length : Int))) (fun b5 => ?_) (fun b5 => ?_)
 have h6 := cond_t b5 h4
 refine awp_skip (then_n (awp_seq (awp_block (awp_seq ?_))))
 obtain ⟨c8, h9⟩ := gd_some h6
 refine rgc [1, 2, 3, 4, 5, 6, 13, 14, 20, 21, 22] 2 ⟨85, [(1, sL 5 c_TRedist a1), (2, .int .i64 a2), (3, .int .i64 a3), (4, .int .i64 a4), (5, .int .i64 a5), (6, .ref 0 0), (13, .int .i64 p1), (14, .ref 1 0), (20, sL 5 c_TRedist a1), (21, .int .i64 (a1.length : Int)), (22, .int .i64 p1)], [.box (c_TRouter a0), .box (c_TRedist (a1.getD p1.toNat default))]⟩ [decide (0 ≤ p1), decide (p1 < (a1.length : Int))] c8 ?_
 refine then_n (awp_seq (awp_seq ?_))
 obtain ⟨r3, q10, h11⟩ := bind_some h9
 obtain ⟨r4, q12, h13⟩ := bind_some h11
 obtain ⟨r5, q14, h15⟩ := bind_some h13
 obtain ⟨r6, q16, h17⟩ := bind_some h15
 refine rg [.pure (.bool r3), .pure (.bool r4), .pure (.bool r5), .pure (.bool r6)] [1, 2, 3, 4, 5, 6, 13, 14, 20, 21, 22, 59] 2 ⟨85, [(1, sL 5 c_TRedist a1), (2, .int .i64 a2), (3, .int .i64 a3), (4, .int .i64 a4), (5, .int .i64 a5), (6, .ref 0 0), (13, .int .i64 p1), (14, .ref 1 0), (20, sL 5 c_TRedist a1), (21, .int .i64 (a1.length : Int)), (22, .int .i64 p1), (59, .bool (((((!r3) || (((a1.getD p1.toNat default).fFrom) == a2)) || (!r4)) || (!r5)) || (!r6)))], [.box (c_TRouter a0), .box (c_TRedist (a1.getD p1.toNat default))]⟩ [] [⟨true, 61, [.int .i64 ((a1.getD p1.toNat default).fFrom), .int .i64 1, .int .i64 5], .pure (.bool r3)⟩, ⟨(!((!r3) || (((a1.getD p1.toNat default).fFrom) == a2))), 61, [.int .i64 ((a1.getD p1.toNat default).fMetric), .int .i64 a3, .int .i64 a4], .pure (.bool r4)⟩, ⟨(!(((!r3) || (((a1.getD p1.toNat default).fFrom) == a2)) || (!r4))), 61, [.int .i64 ((a1.getD p1.toNat default).fTag), .int .i64 0, .int .i64 65535], .pure (.bool r5)⟩, ⟨(!((((!r3) || (((a1.getD p1.toNat default).fFrom) == a2)) || (!r4)) || (!r5))), 61, [.int .i64 ((a1.getD p1.toNat default).fType), .int .i64 (if a5 < 1 then a5 else 1), .int .i64 a5], .pure (.bool r6)⟩] nil_all ⟨fun _ => model_within_ok ((a1.getD p1.toNat default).fFrom) 1 5 r3 q10, fun hg => model_within_ok ((a1.getD p1.toNat default).fMetric) a3 a4 r4 (gc_some q12 hg), fun hg => model_within_ok ((a1.getD p1.toNat default).fTag) 0 65535 r5 (gc_some q14 hg), fun hg => model_within_ok ((a1.getD p1.toNat default).fType) (if a5 < 1 then a5 else 1) a5 r6 (gc_some q16 hg), trivial⟩ ?_
 refine then_n ?_
 refine cnd (((((!r3) || (((a1.getD p1.toNat default).fFrom) == a2)) || (!r4)) || (!r5)) || (!r6)) (fun b18 => ?_) (fun b18 => ?_)
 have h19 := cond_t b18 h17
 refine awp_seq (rg0 [12] 0 ⟨85, [(12, .int .i64 1)], []⟩ ?_)
 refine then_n (awp_ret (then_r (inb_r (then_r ?_))))
 obtain rfl := Option.some.inj h19
 exact round_r ⟨rfl, er0 (.int .i64 1)⟩
 have h20 := cond_f b18 h17
 refine awp_skip (then_n (awp_seq (awp_seq ?_)))
 obtain ⟨r7, q21, h22⟩ := bind_some h20
 refine rg [.pure (.int .i64 r7)] [1, 2, 3, 4, 5, 6, 13, 14, 20, 21, 22, 69] 2 ⟨85, [(1, sL 5 c_TRedist a1), (2, .int .i64 a2), (3, .int .i64 a3), (4, .int .i64 a4), (5, .int .i64 a5), (6, .ref 0 0), (13, .int .i64 p1), (14, .ref 1 0), (20, sL 5 c_TRedist a1), (21, .int .i64 (a1.length : Int)), (22, .int .i64 p1), (69, .bool ((!strEq ((a1.getD p1.toNat default).fMap) (⟨#[]⟩ : ByteArray)) && (decide (r7 < 0))))], [.box (c_TRouter a0), .box (c_TRedist (a1.getD p1.toNat default))]⟩ [] [⟨!strEq ((a1.getD p1.toNat default).fMap) (⟨#[]⟩ : ByteArray), 19, [.agg (c_TRouter a0), .str ((a1.getD p1.toNat default).fMap)], .pure (.int .i64 r7)⟩] nil_all ⟨fun hg => model_RouteMap_ok a0 ((a1.getD p1.toNat default).fMap) r7 (gc_some q21 hg), trivial⟩ ?_
 refine then_n ?_
 refine cnd ((!strEq ((a1.getD p1.toNat default).fMap) (⟨#[]⟩ : ByteArray)) && (decide (r7 < 0))) (fun b23 => ?_) (fun b23 => ?_)
 have h24 := cond_t b23 h22
 refine awp_seq (rg0 [12] 0 ⟨85, [(12, .int .i64 5)], []⟩ ?_)
 refine then_n (awp_ret (then_r (inb_r (then_r ?_))))
 obtain rfl := Option.some.inj h24
 exact round_r ⟨rfl, er0 (.int .i64 5)⟩
 have h25 := cond_f b23 h22
 refine awp_skip (then_n (awp_seq ?_))
 obtain ⟨c26, h27⟩ := gd_some h25
 refine rgc [1, 2, 3, 4, 5, 6, 14, 20, 21, 22, 72, 73, 74] 2 ⟨85, [(1, sL 5 c_TRedist a1), (2, .int .i64 a2), (3, .int .i64 a3), (4, .int .i64 a4), (5, .int .i64 a5), (6, .ref 0 0), (14, .ref 1 0), (20, sL 5 c_TRedist a1), (21, .int .i64 (a1.length : Int)), (22, .int .i64 p1), (72, .sl false 5 (p1.toNat - 0) (fun i => c_TRedist (a1.getD (0 + i) default))), (73, .int .i64 ((p1.toNat - 0 : Nat) : Int)), (74, .int .i64 0)], [.box (c_TRouter a0), .box (c_TRedist (a1.getD p1.toNat default))]⟩ [decide (0 ≤ p1), decide (p1 ≤ (a1.length : Int))] c26 ?_
 refine then_le (s' := ⟨85, [(1, sL 5 c_TRedist a1), (2, .int .i64 a2), (3, .int .i64 a3), (4, .int .i64 a4), (5, .int .i64 a5), (6, .ref 0 0), (14, .ref 1 0), (20, sL 5 c_TRedist a1), (21, .int .i64 (a1.length : Int)), (22, .int .i64 p1), (72, sL 5 c_TRedist ((a1.drop 0).take (p1.toNat - 0))), (73, .int .i64 ((p1.toNat - 0 : Nat) : Int)), (74, .int .i64 0)], [.box (c_TRouter a0), .box (c_TRedist (a1.getD p1.toNat default))]⟩) (le_sub (.cons Sub.rfl (.cons Sub.rfl (.cons Sub.rfl (.cons Sub.rfl (.cons Sub.rfl (.cons Sub.rfl (.cons Sub.rfl (.cons Sub.rfl (.cons Sub.rfl (.cons Sub.rfl (.cons (sub_sl (len_cut _ _ _ (cut_hi (c26 _ (List.mem_cons_of_mem _ List.mem_cons_self)))) (cut_ext _ _ _ _)) (.cons Sub.rfl (.cons Sub.rfl .nil))))))))))))) (.cons .rfl (.cons .rfl .nil))) ?_
 refine awp_block ?_
 obtain ⟨y10, q37, h38⟩ := bind_some h27
 refine awp_le (s' := ⟨85, [(1, sL 5 c_TRedist a1), (2, .int .i64 a2), (3, .int .i64 a3), (4, .int .i64 a4), (5, .int .i64 a5), (6, .ref 0 0), (14, .ref 1 0), (20, sL 5 c_TRedist a1), (21, .int .i64 (a1.length : Int)), (22, .int .i64 p1), (72, sL 5 c_TRedist ((a1.drop 0).take (p1.toNat - 0))), (73, .int .i64 ((p1.toNat - 0 : Nat) : Int)), (74, .int .i64 0)], [.box (c_TRouter a0), .box (c_TRedist (a1.getD p1.toNat default))]⟩) (le_rfl) ?_
 refine awp_mono (awp_loop (f := M.model_checkRedist_l2 a1 p1) (S := fun (p8 : Int) => ⟨85, [(1, sL 5 c_TRedist a1), (2, .int .i64 a2), (3, .int .i64 a3), (4, .int .i64 a4), (5, .int .i64 a5), (6, .ref 0 0), (14, .ref 1 0), (20, sL 5 c_TRedist a1), (21, .int .i64 (a1.length : Int)), (22, .int .i64 p1), (72, sL 5 c_TRedist ((a1.drop 0).take (p1.toNat - 0))), (73, .int .i64 ((p1.toNat - 0 : Nat) : Int)), (74, .int .i64 p8)], [.box (c_TRouter a0), .box (c_TRedist (a1.getD p1.toNat default))]⟩) (O := (Sum.elim (fun z => OutE 2 (fun z => ⟨85, [(1, sL 5 c_TRedist a1), (2, .int .i64 a2), (3, .int .i64 a3), (4, .int .i64 a4), (5, .int .i64 a5), (6, .ref 0 0), (20, sL 5 c_TRedist a1), (21, .int .i64 (a1.length : Int)), (22, .int .i64 p1)], [.box (c_TRouter a0)]⟩) z) (fun z => OutR Try.prog Try.f93 (.int .i64 z)))) ?_ (x := 0) (y := y10) (loopM_iter q37)) ?_
 intro p8 y9 h28
 unfold M.model_checkRedist_l2 at h28
 refine awp_seq (rg0 [1, 2, 3, 4, 5, 6, 14, 20, 21, 22, 72, 73, 74, 75] 2 ⟨85, [(1, sL 5 c_TRedist a1), (2, .int .i64 a2), (3, .int .i64 a3), (4, .int .i64 a4), (5, .int .i64 a5), (6, .ref 0 0), (14, .ref 1 0), (20, sL 5 c_TRedist a1), (21, .int .i64 (a1.length : Int)), (22, .int .i64 p1), (72, sL 5 c_TRedist ((a1.drop 0).take (p1.toNat - 0))), (73, .int .i64 ((p1.toNat - 0 : Nat) : Int)), (74, .int .i64 p8), (75, .bool (decide (p8 < ((p1.toNat - 0 : Nat) : Int))))], [.box (c_TRouter a0), .box (c_TRedist (a1.getD p1.toNat default))]⟩ ?_)
 refine then_n (awp_seq ?_)
 refine cnd (decide (p8 < ((p1.toNat - 0 : Nat) : Int))) (fun b29 => ?_) (fun b29 => ?_)
 have h30 := cond_t b29 h28
 refine awp_skip (then_n (awp_seq (awp_block (awp_seq ?_))))
 obtain ⟨c32, h33⟩ := gd_some h30
 refine rgc [1, 2, 3, 4, 5, 6, 14, 16, 20, 21, 22, 72, 73, 74] 3 ⟨85, [(1, sL 5 c_TRedist a1), (2, .int .i64 a2), (3, .int .i64 a3), (4, .int .i64 a4), (5, .int .i64 a5), (6, .ref 0 0), (14, .ref 1 0), (16, .ref 2 0), (20, sL 5 c_TRedist a1), (21, .int .i64 (a1.length : Int)), (22, .int .i64 p1), (72, sL 5 c_TRedist ((a1.drop 0).take (p1.toNat - 0))), (73, .int .i64 ((p1.toNat - 0 : Nat) : Int)), (74, .int .i64 p8)], [.box (c_TRouter a0), .box (c_TRedist (a1.getD p1.toNat default)), .box (c_TRedist (((a1.drop 0).take (p1.toNat - 0)).getD p8.toNat default))]⟩ [decide (0 ≤ p8), decide (p8 < (((a1.drop 0).take (p1.toNat - 0)).length : Int))] c32 ?_
 refine then_n (awp_seq (rg0 [1, 2, 3, 4, 5, 6, 14, 20, 21, 22, 72, 73, 74, 82] 2 ⟨85, [(1, sL 5 c_TRedist a1), (2, .int .i64 a2), (3, .int .i64 a3), (4, .int .i64 a4), (5, .int .i64 a5), (6, .ref 0 0), (14, .ref 1 0), (20, sL 5 c_TRedist a1), (21, .int .i64 (a1.length : Int)), (22, .int .i64 p1), (72, sL 5 c_TRedist ((a1.drop 0).take (p1.toNat - 0))), (73, .int .i64 ((p1.toNat - 0 : Nat) : Int)), (74, .int .i64 p8), (82, .bool (((((a1.drop 0).take (p1.toNat - 0)).getD p8.toNat default).fFrom) == ((a1.getD p1.toNat default).fFrom)))], [.box (c_TRouter a0), .box (c_TRedist (a1.getD p1.toNat default))]⟩ ?_))
 refine then_n ?_
 refine cnd (((((a1.drop 0).take (p1.toNat - 0)).getD p8.toNat default).fFrom) == ((a1.getD p1.toNat default).fFrom)) (fun b34 => ?_) (fun b34 => ?_)
 have h35 := cond_t b34 h33
 refine awp_seq (rg0 [12] 0 ⟨85, [(12, .int .i64 4)], []⟩ ?_)
 refine then_n (awp_ret (inb_r (then_r ?_)))
 obtain rfl := Option.some.inj h35
 exact round_r ⟨rfl, er0 (.int .i64 4)⟩
 have h36 := cond_f b34 h33
 refine awp_skip (inb_n (then_n (rg0 [1, 2, 3, 4, 5, 6, 14, 20, 21, 22, 72, 73, 74] 2 ⟨85, [(1, sL 5 c_TRedist a1), (2, .int .i64 a2), (3, .int .i64 a3), (4, .int .i64 a4), (5, .int .i64 a5), (6, .ref 0 0), (14, .ref 1 0), (20, sL 5 c_TRedist a1), (21, .int .i64 (a1.length : Int)), (22, .int .i64 p1), (72, sL 5 c_TRedist ((a1.drop 0).take (p1.toNat - 0))), (73, .int .i64 ((p1.toNat - 0 : Nat) : Int)), (74, .int .i64 (wr .i64 (p8 + 1)))], [.box (c_TRouter a0), .box (c_TRedist (a1.getD p1.toNat default))]⟩ ?_)))
 obtain rfl := Option.some.inj h36
 exact round_n (le_rfl)
 have h31 := cond_f b29 h28
 refine awp_exit (then_e ?_)
 obtain rfl := Option.some.inj h31
 exact round_e ⟨rfl, Le.trans (s' := ⟨85, [(1, sL 5 c_TRedist a1), (2, .int .i64 a2), (3, .int .i64 a3), (4, .int .i64 a4), (5, .int .i64 a5), (6, .ref 0 0), (20, sL 5 c_TRedist a1), (21, .int .i64 (a1.length : Int)), (22, .int .i64 p1)], [.box (c_TRouter a0), .box (c_TRedist (a1.getD p1.toNat default))]⟩) (kp [1, 2, 3, 4, 5, 6, 20, 21, 22]) (le_cut (n := 1) (by kernel_rfl))⟩
 intro e39 s40 o41
 rcases y10 with g11 | y12
 have h42 := elim_l h38
 obtain ⟨rfl, l44⟩ := o41
 refine inb_here (inb_n ?_)
 refine then_le (s' := ⟨85, [(1, sL 5 c_TRedist a1), (2, .int .i64 a2), (3, .int .i64 a3), (4, .int .i64 a4), (5, .int .i64 a5), (6, .ref 0 0), (20, sL 5 c_TRedist a1), (21, .int .i64 (a1.length : Int)), (22, .int .i64 p1)], [.box (c_TRouter a0)]⟩) (l44) ?_
 refine rg0 [1, 2, 3, 4, 5, 6, 20, 21, 22] 1 ⟨85, [(1, sL 5 c_TRedist a1), (2, .int .i64 a2), (3, .int .i64 a3), (4, .int .i64 a4), (5, .int .i64 a5), (6, .ref 0 0), (20, sL 5 c_TRedist a1), (21, .int .i64 (a1.length : Int)), (22, .int .i64 (wr .i64 (p1 + 1)))], [.box (c_TRouter a0)]⟩ ?_
 obtain rfl := Option.some.inj h42
 exact round_n (le_rfl)
 have h43 := elim_r h38
 obtain ⟨rfl, n45⟩ := o41
 refine inb_r (inb_r (then_r ?_))
 obtain rfl := Option.some.inj h43
 exact round_r ⟨rfl, n45⟩
 have h7 := cond_f b5 h4
 refine awp_exit (then_e ?_)
 obtain rfl := Option.some.inj h7
 exact round_e ⟨rfl, Le.trans (s' := ⟨85, [], [.box (c_TRouter a0)]⟩) (kp []) (le_cut (n := 0) (by kernel_rfl))⟩
 intro e48 s49 o50
 rcases y13 with g14 | y15
 have h51 := elim_l h47
 obtain ⟨rfl, l53⟩ := o50
 refine inb_here ?_
 refine then_le (s' := ⟨85, [], []⟩) (l53) ?_
 refine awp_seq (rg0 [12] 0 ⟨85, [(12, .int .i64 0)], []⟩ ?_)
 refine then_n (awp_ret ?_)
 obtain rfl := Option.some.inj h51
 exact er0 (.int .i64 0)
 have h52 := elim_r h47
 obtain ⟨rfl, n54⟩ := o50
 refine inb_r (then_r ?_)
 obtain rfl := Option.some.inj h52
 exact n54

/- netverify/model.checkLinkState -/
theorem model_checkLinkState_ok (a0 : TRouter) (r : Int) (h : M.model_checkLinkState a0 = some r) : Fn Try.prog 69 [.agg (c_TRouter a0)] (.pure (.int .i64 r)) := by
 unfold M.model_checkLinkState at h
 refine fn_pure Try.func69 rfl (by kernel_rfl) ?_
 refine awp_seq (rg0 [1] 1 ⟨81, [(1, .ref 0 0)], [.box (c_TRouter a0)]⟩ ?_)
 refine then_n (awp_seq (rg0 [1, 3] 2 ⟨81, [(1, .ref 0 0), (3, .ref 1 0)], [.box (c_TRouter a0), .box (c_TLinkState a0.fLS)]⟩ ?_))
 refine then_n (awp_seq (awp_seq (rg0 [1, 3, 12] 2 ⟨81, [(1, .ref 0 0), (3, .ref 1 0), (12, .bool (!a0.fLS.fOn))], [.box (c_TRouter a0), .box (c_TLinkState a0.fLS)]⟩ ?_)))
 refine then_n ?_
 refine cnd (!a0.fLS.fOn) (fun b1 => ?_) (fun b1 => ?_)
 have h2 := cond_t b1 h
 refine awp_seq (awp_seq (rg0 [27] 0 ⟨81, [(27, .bool (((a0.fLS.fAdmin != 0) || (decide ((a0.fLS.fRanges.length : Int) > 0))) || (decide ((a0.fLS.fRedist.length : Int) > 0))))], []⟩ ?_))
 refine then_n ?_
 refine cnd (((a0.fLS.fAdmin != 0) || (decide ((a0.fLS.fRanges.length : Int) > 0))) || (decide ((a0.fLS.fRedist.length : Int) > 0))) (fun b4 => ?_) (fun b4 => ?_)
 have h5 := cond_t b4 h2
 refine awp_seq (rg0 [2] 0 ⟨81, [(2, .int .i64 1)], []⟩ ?_)
 refine then_n (awp_ret (then_r (then_r ?_)))
 obtain rfl := Option.some.inj h5
 exact er0 (.int .i64 1)
 have h6 := cond_f b4 h2
 refine awp_skip (then_n (awp_seq (rg0 [2] 0 ⟨81, [(2, .int .i64 0)], []⟩ ?_)))
 refine then_n (awp_ret (then_r ?_))
 obtain rfl := Option.some.inj h6
 exact er0 (.int .i64 0)
 have h3 := cond_f b1 h
 refine awp_skip (then_n (awp_seq (awp_seq ?_)))
 obtain ⟨r1, q7, h8⟩ := bind_some h3
 refine rg [.pure (.bool r1)] [1, 3, 31] 2 ⟨81, [(1, .ref 0 0), (3, .ref 1 0), (31, .bool (!r1))], [.box (c_TRouter a0), .box (c_TLinkState a0.fLS)]⟩ [] [⟨true, 61, [.int .i64 a0.fLS.fAdmin, .int .i64 1, .int .i64 255], .pure (.bool r1)⟩] nil_all ⟨fun _ => model_within_ok a0.fLS.fAdmin 1 255 r1 q7, trivial⟩ ?_
 refine then_n ?_
 refine cnd (!r1) (fun b9 => ?_) (fun b9 => ?_)
 have h10 := cond_t b9 h8
 refine awp_seq (rg0 [2] 0 ⟨81, [(2, .int .i64 1)], []⟩ ?_)
 refine then_n (awp_ret (then_r ?_))
 obtain rfl := Option.some.inj h10
 exact er0 (.int .i64 1)
 have h11 := cond_f b9 h8
 refine awp_skip (then_n (awp_seq (awp_seq (rg0 [1, 3, 35] 2 ⟨81, [(1, .ref 0 0), (3, .ref 1 0), (35, .bool (decide ((a0.fLS.fRanges.length : Int) > 4)))], [.box (c_TRouter a0), .box (c_TLinkState a0.fLS)]⟩ ?_))))
 refine then_n ?_
 refine cnd (decide ((a0.fLS.fRanges.length : Int) > 4)) (fun b12 => ?_) (fun b12 => ?_)
 have h13 := cond_t b12 h11
 refine awp_seq (rg0 [2] 0 ⟨81, [(2, .int .i64 7)], []⟩ ?_)
 refine then_n (awp_ret (then_r ?_))
 obtain rfl := Option.some.inj h13
 exact er0 (.int .i64 7)
 have h14 := cond_f b12 h11
 refine awp_skip (then_n (awp_seq (awp_seq (rg0 [1, 3, 37, 38, 39] 2 ⟨81, [(1, .ref 0 0), (3, .ref 1 0), (37, sL 3 c_TAreaRange a0.fLS.fRanges), (38, .int .i64 (a0.fLS.fRanges.length : Int)), (39, .int .i64 0)], [.box (c_TRouter a0), .box (c_TLinkState a0.fLS)]⟩ ?_))))
 refine then_n (awp_block ?_)
 obtain ⟨y12, q50, h51⟩ := bind_some h14
 refine awp_le (s' := ⟨81, [(1, .ref 0 0), (3, .ref 1 0), (37, sL 3 c_TAreaRange a0.fLS.fRanges), (38, .int .i64 (a0.fLS.fRanges.length : Int)), (39, .int .i64 0)], [.box (c_TRouter a0), .box (c_TLinkState a0.fLS)]⟩) (le_rfl) ?_
 refine awp_mono (awp_loop (f := M.model_checkLinkState_l1 a0) (S := fun (p2 : Int) => ⟨81, [(1, .ref 0 0), (3, .ref 1 0), (37, sL 3 c_TAreaRange a0.fLS.fRanges), (38, .int .i64 (a0.fLS.fRanges.length : Int)), (39, .int .i64 p2)], [.box (c_TRouter a0), .box (c_TLinkState a0.fLS)]⟩) (O := (Sum.elim (fun z => OutE 0 (fun z => ⟨81, [(1, .ref 0 0), (3, .ref 1 0)], [.box (c_TRouter a0), .box (c_TLinkState a0.fLS)]⟩) z) (fun z => OutR Try.prog Try.f69 (.int .i64 z)))) ?_ (x := 0) (y := y12) (loopM_iter q50)) ?_
 intro p2 y3 h15
 unfold M.model_checkLinkState_l1 at h15
 refine awp_seq (rg0 [1, 3, 37, 38, 39, 40] 2 ⟨81, [(1, .ref 0 0), (3, .ref 1 0), (37, sL 3 c_TAreaRange a0.fLS.fRanges), (38, .int .i64 (a0.fLS.fRanges.length : Int)), (39, .int .i64 p2), (40, .bool (decide (p2 < (a0.fLS.fRanges.length : Int))))], [.box (c_TRouter a0), .box (c_TLinkState a0.fLS)]⟩ ?_)
 refine then_n (awp_seq ?_)
 refine cnd (decide (p2 < (a0.fLS.fRanges.length : Int))) (fun b16 => ?_) (fun b16 => ?_)
 have h17 := cond_t b16 h15
 refine awp_skip (then_n (awp_seq (awp_block (awp_seq ?_))))
 obtain ⟨c19, h20⟩ := gd_some h17
 refine rgc [1, 3, 4, 5, 37, 38, 39] 3 ⟨81, [(1, .ref 0 0), (3, .ref 1 0), (4, .int .i64 p2), (5, .ref 2 0), (37, sL 3 c_TAreaRange a0.fLS.fRanges), (38, .int .i64 (a0.fLS.fRanges.length : Int)), (39, .int .i64 p2)], [.box (c_TRouter a0), .box (c_TLinkState a0.fLS), .box (c_TAreaRange (a0.fLS.fRanges.getD p2.toNat default))]⟩ [decide (0 ≤ p2), decide (p2 < (a0.fLS.fRanges.length : Int))] c19 ?_
 refine then_n (awp_seq (awp_seq ?_))
 obtain ⟨r4, q21, h22⟩ := bind_some h20
 obtain ⟨r5, q23, h24⟩ := bind_some h22
 refine rg [.pure (.bool r4), .pure (.bool r5)] [1, 3, 4, 5, 37, 38, 39, 53] 3 ⟨81, [(1, .ref 0 0), (3, .ref 1 0), (4, .int .i64 p2), (5, .ref 2 0), (37, sL 3 c_TAreaRange a0.fLS.fRanges), (38, .int .i64 (a0.fLS.fRanges.length : Int)), (39, .int .i64 p2), (53, .bool ((!r4) || (!r5)))], [.box (c_TRouter a0), .box (c_TLinkState a0.fLS), .box (c_TAreaRange (a0.fLS.fRanges.getD p2.toNat default))]⟩ [] [⟨true, 61, [.int .i64 ((a0.fLS.fRanges.getD p2.toNat default).fArea), .int .i64 0, .int .i64 255], .pure (.bool r4)⟩, ⟨(!(!r4)), 88, [.agg (c_TPrefix ((a0.fLS.fRanges.getD p2.toNat default).fPrefix))], .pure (.bool r5)⟩] nil_all ⟨fun _ => model_within_ok ((a0.fLS.fRanges.getD p2.toNat default).fArea) 0 255 r4 q21, fun hg => addr_Valid_ok ((a0.fLS.fRanges.getD p2.toNat default).fPrefix) r5 (gc_some q23 hg), trivial⟩ ?_
 refine then_n ?_
 refine cnd ((!r4) || (!r5)) (fun b25 => ?_) (fun b25 => ?_)
 have h26 := cond_t b25 h24
 refine awp_seq (rg0 [2] 0 ⟨81, [(2, .int .i64 1)], []⟩ ?_)
 refine then_n (awp_ret (then_r (inb_r (then_r ?_))))
 obtain rfl := Option.some.inj h26
 exact round_r ⟨rfl, er0 (.int .i64 1)⟩
 have h27 := cond_f b25 h24
 refine awp_skip (then_n (awp_seq ?_))
 obtain ⟨c28, h29⟩ := gd_some h27
 refine rgc [1, 3, 5, 37, 38, 39, 57, 58, 59] 3 ⟨81, [(1, .ref 0 0), (3, .ref 1 0), (5, .ref 2 0), (37, sL 3 c_TAreaRange a0.fLS.fRanges), (38, .int .i64 (a0.fLS.fRanges.length : Int)), (39, .int .i64 p2), (57, .sl false 3 (p2.toNat - 0) (fun i => c_TAreaRange (a0.fLS.fRanges.getD (0 + i) default))), (58, .int .i64 ((p2.toNat - 0 : Nat) : Int)), (59, .int .i64 0)], [.box (c_TRouter a0), .box (c_TLinkState a0.fLS), .box (c_TAreaRange (a0.fLS.fRanges.getD p2.toNat default))]⟩ [decide (0 ≤ p2), decide (p2 ≤ (a0.fLS.fRanges.length : Int))] c28 ?_
 refine then_le (s' := ⟨81, [(1, .ref 0 0), (3, .ref 1 0), (5, .ref 2 0), (37, sL 3 c_TAreaRange a0.fLS.fRanges), (38, .int .i64 (a0.fLS.fRanges.length : Int)), (39, .int .i64 p2), (57, sL 3 c_TAreaRange ((a0.fLS.fRanges.drop 0).take (p2.toNat - 0))), (58, .int .i64 ((p2.toNat - 0 : Nat) : Int)), (59, .int .i64 0)], [.box (c_TRouter a0), .box (c_TLinkState a0.fLS), .box (c_TAreaRange (a0.fLS.fRanges.getD p2.toNat default))]⟩) (le_sub (.cons Sub.rfl (.cons Sub.rfl (.cons Sub.rfl (.cons Sub.rfl (.cons Sub.rfl (.cons Sub.rfl (.cons (sub_sl (len_cut _ _ _ (cut_hi (c28 _ (List.mem_cons_of_mem _ List.mem_cons_self)))) (cut_ext _ _ _ _)) (.cons Sub.rfl (.cons Sub.rfl .nil))))))))) (.cons .rfl (.cons .rfl (.cons .rfl .nil)))) ?_
 refine awp_block ?_
 obtain ⟨y9, q41, h42⟩ := bind_some h29
 refine awp_le (s' := ⟨81, [(1, .ref 0 0), (3, .ref 1 0), (5, .ref 2 0), (37, sL 3 c_TAreaRange a0.fLS.fRanges), (38, .int .i64 (a0.fLS.fRanges.length : Int)), (39, .int .i64 p2), (57, sL 3 c_TAreaRange ((a0.fLS.fRanges.drop 0).take (p2.toNat - 0))), (58, .int .i64 ((p2.toNat - 0 : Nat) : Int)), (59, .int .i64 0)], [.box (c_TRouter a0), .box (c_TLinkState a0.fLS), .box (c_TAreaRange (a0.fLS.fRanges.getD p2.toNat default))]⟩) (le_rfl) ?_
 refine awp_mono (awp_loop (f := M.model_checkLinkState_l2 a0 p2) (S := fun (p6 : Int) => ⟨81, [(1, .ref 0 0), (3, .ref 1 0), (5, .ref 2 0), (37, sL 3 c_TAreaRange a0.fLS.fRanges), (38, .int .i64 (a0.fLS.fRanges.length : Int)), (39, .int .i64 p2), (57, sL 3 c_TAreaRange ((a0.fLS.fRanges.drop 0).take (p2.toNat - 0))), (58, .int .i64 ((p2.toNat - 0 : Nat) : Int)), (59, .int .i64 p6)], [.box (c_TRouter a0), .box (c_TLinkState a0.fLS), .box (c_TAreaRange (a0.fLS.fRanges.getD p2.toNat default))]⟩) (O := (Sum.elim (fun z => OutE 2 (fun z => ⟨81, [(1, .ref 0 0), (3, .ref 1 0), (37, sL 3 c_TAreaRange a0.fLS.fRanges), (38, .int .i64 (a0.fLS.fRanges.length : Int)), (39, .int .i64 p2)], [.box (c_TRouter a0), .box (c_TLinkState a0.fLS)]⟩) z) (fun z => OutR Try.prog Try.f69 (.int .i64 z)))) ?_ (x := 0) (y := y9) (loopM_iter q41)) ?_
 intro p6 y7 h30
 unfold M.model_checkLinkState_l2 at h30
 refine awp_seq (rg0 [1, 3, 5, 37, 38, 39, 57, 58, 59, 60] 3 ⟨81, [(1, .ref 0 0), (3, .ref 1 0), (5, .ref 2 0), (37, sL 3 c_TAreaRange a0.fLS.fRanges), (38, .int .i64 (a0.fLS.fRanges.length : Int)), (39, .int .i64 p2), (57, sL 3 c_TAreaRange ((a0.fLS.fRanges.drop 0).take (p2.toNat - 0))), (58, .int .i64 ((p2.toNat - 0 : Nat) : Int)), (59, .int .i64 p6), (60, .bool (decide (p6 < ((p2.toNat - 0 : Nat) : Int))))], [.box (c_TRouter a0), .box (c_TLinkState a0.fLS), .box (c_TAreaRange (a0.fLS.fRanges.getD p2.toNat default))]⟩ ?_)
 refine then_n (awp_seq ?_)
 refine cnd (decide (p6 < ((p2.toNat - 0 : Nat) : Int))) (fun b31 => ?_) (fun b31 => ?_)
 have h32 := cond_t b31 h30
 refine awp_skip (then_n (awp_seq (awp_block (awp_seq ?_))))
 obtain ⟨c34, h35⟩ := gd_some h32
 refine rgc [1, 3, 5, 7, 37, 38, 39, 57, 58, 59] 4 ⟨81, [(1, .ref 0 0), (3, .ref 1 0), (5, .ref 2 0), (7, .ref 3 0), (37, sL 3 c_TAreaRange a0.fLS.fRanges), (38, .int .i64 (a0.fLS.fRanges.length : Int)), (39, .int .i64 p2), (57, sL 3 c_TAreaRange ((a0.fLS.fRanges.drop 0).take (p2.toNat - 0))), (58, .int .i64 ((p2.toNat - 0 : Nat) : Int)), (59, .int .i64 p6)], [.box (c_TRouter a0), .box (c_TLinkState a0.fLS), .box (c_TAreaRange (a0.fLS.fRanges.getD p2.toNat default)), .box (c_TAreaRange (((a0.fLS.fRanges.drop 0).take (p2.toNat - 0)).getD p6.toNat default))]⟩ [decide (0 ≤ p6), decide (p6 < (((a0.fLS.fRanges.drop 0).take (p2.toNat - 0)).length : Int))] c34 ?_
 refine then_n (awp_seq ?_)
 obtain ⟨r8, q36, h37⟩ := bind_some h35
 refine rg [.pure (.bool r8)] [1, 3, 5, 37, 38, 39, 57, 58, 59, 74] 3 ⟨81, [(1, .ref 0 0), (3, .ref 1 0), (5, .ref 2 0), (37, sL 3 c_TAreaRange a0.fLS.fRanges), (38, .int .i64 (a0.fLS.fRanges.length : Int)), (39, .int .i64 p2), (57, sL 3 c_TAreaRange ((a0.fLS.fRanges.drop 0).take (p2.toNat - 0))), (58, .int .i64 ((p2.toNat - 0 : Nat) : Int)), (59, .int .i64 p6), (74, .bool ((((((a0.fLS.fRanges.drop 0).take (p2.toNat - 0)).getD p6.toNat default).fArea) == ((a0.fLS.fRanges.getD p2.toNat default).fArea)) && r8))], [.box (c_TRouter a0), .box (c_TLinkState a0.fLS), .box (c_TAreaRange (a0.fLS.fRanges.getD p2.toNat default))]⟩ [] [⟨((((a0.fLS.fRanges.drop 0).take (p2.toNat - 0)).getD p6.toNat default).fArea) == ((a0.fLS.fRanges.getD p2.toNat default).fArea), 85, [.agg (c_TPrefix ((((a0.fLS.fRanges.drop 0).take (p2.toNat - 0)).getD p6.toNat default).fPrefix)), .agg (c_TPrefix ((a0.fLS.fRanges.getD p2.toNat default).fPrefix))], .pure (.bool r8)⟩] nil_all ⟨fun hg => addr_Overlaps_ok ((((a0.fLS.fRanges.drop 0).take (p2.toNat - 0)).getD p6.toNat default).fPrefix) ((a0.fLS.fRanges.getD p2.toNat default).fPrefix) r8 (gc_some q36 hg), trivial⟩ ?_
 refine then_n ?_
 refine cnd ((((((a0.fLS.fRanges.drop 0).take (p2.toNat - 0)).getD p6.toNat default).fArea) == ((a0.fLS.fRanges.getD p2.toNat default).fArea)) && r8) (fun b38 => ?_) (fun b38 => ?_)
 have h39 := cond_t b38 h37
 refine awp_seq (rg0 [2] 0 ⟨81, [(2, .int .i64 6)], []⟩ ?_)
 refine then_n (awp_ret (inb_r (then_r ?_)))
 obtain rfl := Option.some.inj h39
 exact round_r ⟨rfl, er0 (.int .i64 6)⟩
 have h40 := cond_f b38 h37
 refine awp_skip (inb_n (then_n (rg0 [1, 3, 5, 37, 38, 39, 57, 58, 59] 3 ⟨81, [(1, .ref 0 0), (3, .ref 1 0), (5, .ref 2 0), (37, sL 3 c_TAreaRange a0.fLS.fRanges), (38, .int .i64 (a0.fLS.fRanges.length : Int)), (39, .int .i64 p2), (57, sL 3 c_TAreaRange ((a0.fLS.fRanges.drop 0).take (p2.toNat - 0))), (58, .int .i64 ((p2.toNat - 0 : Nat) : Int)), (59, .int .i64 (wr .i64 (p6 + 1)))], [.box (c_TRouter a0), .box (c_TLinkState a0.fLS), .box (c_TAreaRange (a0.fLS.fRanges.getD p2.toNat default))]⟩ ?_)))
 obtain rfl := Option.some.inj h40
 exact round_n (le_rfl)
 have h33 := cond_f b31 h30
 refine awp_exit (then_e ?_)
 obtain rfl := Option.some.inj h33
 exact round_e ⟨rfl, Le.trans (s' := ⟨81, [(1, .ref 0 0), (3, .ref 1 0), (37, sL 3 c_TAreaRange a0.fLS.fRanges), (38, .int .i64 (a0.fLS.fRanges.length : Int)), (39, .int .i64 p2)], [.box (c_TRouter a0), .box (c_TLinkState a0.fLS), .box (c_TAreaRange (a0.fLS.fRanges.getD p2.toNat default))]⟩) (kp [1, 3, 37, 38, 39]) (le_cut (n := 2) (by kernel_rfl))⟩
 intro e43 s44 o45
 rcases y9 with g10 | y11
 have h46 := elim_l h42
 obtain ⟨rfl, l48⟩ := o45
 refine inb_here (inb_n ?_)
 refine then_le (s' := ⟨81, [(1, .ref 0 0), (3, .ref 1 0), (37, sL 3 c_TAreaRange a0.fLS.fRanges), (38, .int .i64 (a0.fLS.fRanges.length : Int)), (39, .int .i64 p2)], [.box (c_TRouter a0), .box (c_TLinkState a0.fLS)]⟩) (l48) ?_
 refine rg0 [1, 3, 37, 38, 39] 2 ⟨81, [(1, .ref 0 0), (3, .ref 1 0), (37, sL 3 c_TAreaRange a0.fLS.fRanges), (38, .int .i64 (a0.fLS.fRanges.length : Int)), (39, .int .i64 (wr .i64 (p2 + 1)))], [.box (c_TRouter a0), .box (c_TLinkState a0.fLS)]⟩ ?_
 obtain rfl := Option.some.inj h46
 exact round_n (le_rfl)
 have h47 := elim_r h42
 obtain ⟨rfl, n49⟩ := o45
 refine inb_r (inb_r (then_r ?_))
 obtain rfl := Option.some.inj h47
 exact round_r ⟨rfl, n49⟩
 have h18 := cond_f b16 h15
 refine awp_exit (then_e ?_)
 obtain rfl := Option.some.inj h18
 exact round_e ⟨rfl, kp [1, 3]⟩
 intro e52 s53 o54
 rcases y12 with g13 | y14
 have h55 := elim_l h51
 obtain ⟨rfl, l57⟩ := o54
 refine inb_here ?_
 refine then_le (s' := ⟨81, [(1, .ref 0 0), (3, .ref 1 0)], [.box (c_TRouter a0), .box (c_TLinkState a0.fLS)]⟩) (l57) ?_
 refine awp_seq ?_
 obtain ⟨r15, q58, h59⟩ := bind_some h55
 refine rg [.pure (.int .i64 r15)] [2] 0 ⟨81, [(2, .int .i64 r15)], []⟩ [] [⟨true, 93, [.agg (c_TRouter a0), sL 5 c_TRedist a0.fLS.fRedist, .int .i64 3, .int .i64 0, .int .i64 16777215, .int .i64 2], .pure (.int .i64 r15)⟩] nil_all ⟨fun _ => model_checkRedist_ok a0 a0.fLS.fRedist 3 0 16777215 2 r15 q58, trivial⟩ ?_
 refine then_n (awp_ret ?_)
 obtain rfl := Option.some.inj h59
 exact er0 (.int .i64 r15)
 have h56 := elim_r h51
 obtain ⟨rfl, n60⟩ := o54
 refine inb_r (then_r ?_)
 obtain rfl := Option.some.inj h56
 exact n60
end Nv
