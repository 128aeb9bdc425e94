/- Part of the proof of ModelLookups: functions and what they compute. No condition. -/
import Derived.Test.YtmangnohekiphaaProg
import Derived.Test.YtmangnohekiphaaNvGen
import Derived.Test.YtmangnohekiphaaNvM1b
import Derived.KernelRfl
set_option maxRecDepth 100000
namespace Nv
open Go Go.Proofs
/- slices.Equal[[]netverify/api.Neighbor,netverify/api.Neighbor] -/
noncomputable def M.slices_Equal_api_Neighbor_api_Neighbor_l1 (a0 : List TNeighbor) (a1 : List TNeighbor) (p1 : Int) : Option (Int ⊕ (Unit ⊕ Bool)) :=
  bif decide (p1 < (a0.length : Int)) then (gd [decide (0 ≤ p1), decide (p1 < (a0.length : Int)), decide (0 ≤ p1), decide (p1 < (a1.length : Int))] (bif !((((a0.getD p1.toNat default).fAddr) == ((a1.getD p1.toNat default).fAddr)) && ((((a0.getD p1.toNat default).fAS) == ((a1.getD p1.toNat default).fAS)) && (strEq ((a0.getD p1.toNat default).fIn) ((a1.getD p1.toNat default).fIn) && (strEq ((a0.getD p1.toNat default).fOut) ((a1.getD p1.toNat default).fOut) && true)))) then (some (.inr (.inr false))) else (some (.inl (wr .i64 (p1 + 1)))))) else (some (.inr (.inl ())))
noncomputable def M.slices_Equal_api_Neighbor_api_Neighbor (a0 : List TNeighbor) (a1 : List TNeighbor) : Option Bool :=
  bif (a0.length : Int) != (a1.length : Int) then (some false) else ((loopM (M.slices_Equal_api_Neighbor_api_Neighbor_l1 a0 a1) 0).bind fun y3 => Sum.elim (fun g4 => some true) (fun y5 => some y5) y3)
theorem slices_Equal_api_Neighbor_api_Neighbor_ok (a0 : List TNeighbor) (a1 : List TNeighbor) (r : Bool) (h : M.slices_Equal_api_Neighbor_api_Neighbor a0 a1 = some r) : Fn Try.prog 75 [sL 4 c_TNeighbor a0, sL 4 c_TNeighbor a1] (.pure (.bool r)) := by
  unfold M.slices_Equal_api_Neighbor_api_Neighbor at h
  refine fn_pure Try.func75 rfl (by kernel_rfl) ?_
  refine awp_seq ?_
  refine awp_reg [] [0, 1] 0 ⟨26, [(0, sL 4 c_TNeighbor a0), (1, sL 4 c_TNeighbor a1)], []⟩ [] [] (by kernel_rfl) nil_all trivial ?_
  refine then_n ?_
  refine awp_seq ?_
  refine awp_seq ?_
  refine awp_reg [] [0, 1, 10] 0 ⟨26, [(0, sL 4 c_TNeighbor a0), (1, sL 4 c_TNeighbor a1), (10, .bool ((a0.length : Int) != (a1.length : Int)))], []⟩ [] [] (by kernel_rfl) nil_all trivial ?_
  refine then_n ?_
  refine awp_cond (b := (a0.length : Int) != (a1.length : Int)) (by kernel_rfl) (fun b1 => ?_) (fun b1 => ?_)
  · have h2 := cond_t b1 h
    refine awp_seq ?_
    refine awp_reg [] [4] 0 ⟨26, [(4, .bool false)], []⟩ [] [] (by kernel_rfl) nil_all trivial ?_
    refine then_n ?_
    refine awp_ret ?_
    refine then_r ?_
    obtain rfl := Option.some.inj h2
    exact ends_r (.bool false) (by kernel_rfl) Sub.rfl
  · have h3 := cond_f b1 h
    refine awp_skip ?_
    refine then_n ?_
    refine awp_seq ?_
    refine awp_seq ?_
    refine awp_reg [] [0, 1, 12, 13] 0 ⟨26, [(0, sL 4 c_TNeighbor a0), (1, sL 4 c_TNeighbor a1), (12, .int .i64 (a0.length : Int)), (13, .int .i64 0)], []⟩ [] [] (by kernel_rfl) nil_all trivial ?_
    refine then_n ?_
    refine awp_block ?_
    obtain ⟨y3, q13, h14⟩ := bind_some h3
    refine awp_le (s' := ⟨26, [(0, sL 4 c_TNeighbor a0), (1, sL 4 c_TNeighbor a1), (12, .int .i64 (a0.length : Int)), (13, .int .i64 0)], []⟩) (le_rfl) ?_
    refine awp_mono (awp_loop (f := M.slices_Equal_api_Neighbor_api_Neighbor_l1 a0 a1) (S := fun (p1 : Int) => ⟨26, [(0, sL 4 c_TNeighbor a0), (1, sL 4 c_TNeighbor a1), (12, .int .i64 (a0.length : Int)), (13, .int .i64 p1)], []⟩) (O := (Sum.elim (fun z => OutE 0 (fun z => ⟨26, [], []⟩) z) (fun z => OutR Try.prog Try.f75 (.bool z)))) ?_ (x := 0) (y := y3) (loopM_iter q13)) ?_
    · intro p1 y2 h4
      unfold M.slices_Equal_api_Neighbor_api_Neighbor_l1 at h4
      refine awp_seq ?_
      refine awp_reg [] [0, 1, 12, 13, 14] 0 ⟨26, [(0, sL 4 c_TNeighbor a0), (1, sL 4 c_TNeighbor a1), (12, .int .i64 (a0.length : Int)), (13, .int .i64 p1), (14, .bool (decide (p1 < (a0.length : Int))))], []⟩ [] [] (by kernel_rfl) nil_all trivial ?_
      refine then_n ?_
      refine awp_seq ?_
      refine awp_cond (b := decide (p1 < (a0.length : Int))) (by kernel_rfl) (fun b5 => ?_) (fun b5 => ?_)
      · have h6 := cond_t b5 h4
        refine awp_skip ?_
        refine then_n ?_
        refine awp_seq ?_
        refine awp_block ?_
        refine awp_seq ?_
        refine awp_reg [] [0, 1, 5, 12, 13] 0 ⟨26, [(0, sL 4 c_TNeighbor a0), (1, sL 4 c_TNeighbor a1), (5, .int .i64 p1), (12, .int .i64 (a0.length : Int)), (13, .int .i64 p1)], []⟩ [] [] (by kernel_rfl) nil_all trivial ?_
        refine then_n ?_
        refine awp_seq ?_
        obtain ⟨c8, h9⟩ := gd_some h6
        refine awp_reg [] [0, 1, 12, 13, 24] 0 ⟨26, [(0, sL 4 c_TNeighbor a0), (1, sL 4 c_TNeighbor a1), (12, .int .i64 (a0.length : Int)), (13, .int .i64 p1), (24, .bool (!((((a0.getD p1.toNat default).fAddr) == ((a1.getD p1.toNat default).fAddr)) && ((((a0.getD p1.toNat default).fAS) == ((a1.getD p1.toNat default).fAS)) && (strEq ((a0.getD p1.toNat default).fIn) ((a1.getD p1.toNat default).fIn) && (strEq ((a0.getD p1.toNat default).fOut) ((a1.getD p1.toNat default).fOut) && true))))))], []⟩ [decide (0 ≤ p1), decide (p1 < (a0.length : Int)), decide (0 ≤ p1), decide (p1 < (a1.length : Int))] [] (by kernel_rfl) c8 trivial ?_
        refine then_n ?_
        refine awp_cond (b := !((((a0.getD p1.toNat default).fAddr) == ((a1.getD p1.toNat default).fAddr)) && ((((a0.getD p1.toNat default).fAS) == ((a1.getD p1.toNat default).fAS)) && (strEq ((a0.getD p1.toNat default).fIn) ((a1.getD p1.toNat default).fIn) && (strEq ((a0.getD p1.toNat default).fOut) ((a1.getD p1.toNat default).fOut) && true))))) (by kernel_rfl) (fun b10 => ?_) (fun b10 => ?_)
        · have h11 := cond_t b10 h9
          refine awp_seq ?_
          refine awp_reg [] [4] 0 ⟨26, [(4, .bool false)], []⟩ [] [] (by kernel_rfl) nil_all trivial ?_
          refine then_n ?_
          refine awp_ret ?_
          refine inb_r ?_
          refine then_r ?_
          obtain rfl := Option.some.inj h11
          exact round_r ⟨rfl, ends_r (.bool false) (by kernel_rfl) Sub.rfl⟩
        · have h12 := cond_f b10 h9
          refine awp_skip ?_
          refine inb_n ?_
          refine then_n ?_
          refine awp_reg [] [0, 1, 12, 13] 0 ⟨26, [(0, sL 4 c_TNeighbor a0), (1, sL 4 c_TNeighbor a1), (12, .int .i64 (a0.length : Int)), (13, .int .i64 (wr .i64 (p1 + 1)))], []⟩ [] [] (by kernel_rfl) nil_all trivial ?_
          obtain rfl := Option.some.inj h12
          exact round_n (le_rfl)
      · have h7 := cond_f b5 h4
        refine awp_exit ?_
        refine then_e ?_
        obtain rfl := Option.some.inj h7
        exact round_e ⟨rfl, le_keep' [] (by kernel_rfl)⟩
    · intro e15 s16 o17
      rcases y3 with g4 | y5
      · have h18 := elim_l h14
        obtain ⟨rfl, l20⟩ := o17
        refine inb_here ?_
        refine then_le (s' := ⟨26, [], []⟩) (l20) ?_
        refine awp_seq ?_
        refine awp_reg [] [4] 0 ⟨26, [(4, .bool true)], []⟩ [] [] (by kernel_rfl) nil_all trivial ?_
        refine then_n ?_
        refine awp_ret ?_
        obtain rfl := Option.some.inj h18
        exact ends_r (.bool true) (by kernel_rfl) Sub.rfl
      · have h19 := elim_r h14
        obtain ⟨rfl, n21⟩ := o17
        refine inb_r ?_
        refine then_r ?_
        obtain rfl := Option.some.inj h19
        exact n21

/- slices.Equal[[]netverify/api.Prefix,netverify/api.Prefix] -/
noncomputable def M.slices_Equal_api_Prefix_api_Prefix_l1 (a0 : List TPrefix) (a1 : List TPrefix) (p1 : Int) : Option (Int ⊕ (Unit ⊕ Bool)) :=
  bif decide (p1 < (a0.length : Int)) then (gd [decide (0 ≤ p1), decide (p1 < (a0.length : Int)), decide (0 ≤ p1), decide (p1 < (a1.length : Int))] (bif !((((a0.getD p1.toNat default).fAddr) == ((a1.getD p1.toNat default).fAddr)) && ((((a0.getD p1.toNat default).fLen) == ((a1.getD p1.toNat default).fLen)) && true)) then (some (.inr (.inr false))) else (some (.inl (wr .i64 (p1 + 1)))))) else (some (.inr (.inl ())))
noncomputable def M.slices_Equal_api_Prefix_api_Prefix (a0 : List TPrefix) (a1 : List TPrefix) : Option Bool :=
  bif (a0.length : Int) != (a1.length : Int) then (some false) else ((loopM (M.slices_Equal_api_Prefix_api_Prefix_l1 a0 a1) 0).bind fun y3 => Sum.elim (fun g4 => some true) (fun y5 => some y5) y3)
theorem slices_Equal_api_Prefix_api_Prefix_ok (a0 : List TPrefix) (a1 : List TPrefix) (r : Bool) (h : M.slices_Equal_api_Prefix_api_Prefix a0 a1 = some r) : Fn Try.prog 76 [sL 2 c_TPrefix a0, sL 2 c_TPrefix a1] (.pure (.bool r)) := by
  unfold M.slices_Equal_api_Prefix_api_Prefix at h
  refine fn_pure Try.func76 rfl (by kernel_rfl) ?_
  refine awp_seq ?_
  refine awp_reg [] [0, 1] 0 ⟨26, [(0, sL 2 c_TPrefix a0), (1, sL 2 c_TPrefix a1)], []⟩ [] [] (by kernel_rfl) nil_all trivial ?_
  refine then_n ?_
  refine awp_seq ?_
  refine awp_seq ?_
  refine awp_reg [] [0, 1, 10] 0 ⟨26, [(0, sL 2 c_TPrefix a0), (1, sL 2 c_TPrefix a1), (10, .bool ((a0.length : Int) != (a1.length : Int)))], []⟩ [] [] (by kernel_rfl) nil_all trivial ?_
  refine then_n ?_
  refine awp_cond (b := (a0.length : Int) != (a1.length : Int)) (by kernel_rfl) (fun b1 => ?_) (fun b1 => ?_)
  · have h2 := cond_t b1 h
    refine awp_seq ?_
    refine awp_reg [] [4] 0 ⟨26, [(4, .bool false)], []⟩ [] [] (by kernel_rfl) nil_all trivial ?_
    refine then_n ?_
    refine awp_ret ?_
    refine then_r ?_
    obtain rfl := Option.some.inj h2
    exact ends_r (.bool false) (by kernel_rfl) Sub.rfl
  · have h3 := cond_f b1 h
    refine awp_skip ?_
    refine then_n ?_
    refine awp_seq ?_
    refine awp_seq ?_
    refine awp_reg [] [0, 1, 12, 13] 0 ⟨26, [(0, sL 2 c_TPrefix a0), (1, sL 2 c_TPrefix a1), (12, .int .i64 (a0.length : Int)), (13, .int .i64 0)], []⟩ [] [] (by kernel_rfl) nil_all trivial ?_
    refine then_n ?_
    refine awp_block ?_
    obtain ⟨y3, q13, h14⟩ := bind_some h3
    refine awp_le (s' := ⟨26, [(0, sL 2 c_TPrefix a0), (1, sL 2 c_TPrefix a1), (12, .int .i64 (a0.length : Int)), (13, .int .i64 0)], []⟩) (le_rfl) ?_
    refine awp_mono (awp_loop (f := M.slices_Equal_api_Prefix_api_Prefix_l1 a0 a1) (S := fun (p1 : Int) => ⟨26, [(0, sL 2 c_TPrefix a0), (1, sL 2 c_TPrefix a1), (12, .int .i64 (a0.length : Int)), (13, .int .i64 p1)], []⟩) (O := (Sum.elim (fun z => OutE 0 (fun z => ⟨26, [], []⟩) z) (fun z => OutR Try.prog Try.f76 (.bool z)))) ?_ (x := 0) (y := y3) (loopM_iter q13)) ?_
    · intro p1 y2 h4
      unfold M.slices_Equal_api_Prefix_api_Prefix_l1 at h4
      refine awp_seq ?_
      refine awp_reg [] [0, 1, 12, 13, 14] 0 ⟨26, [(0, sL 2 c_TPrefix a0), (1, sL 2 c_TPrefix a1), (12, .int .i64 (a0.length : Int)), (13, .int .i64 p1), (14, .bool (decide (p1 < (a0.length : Int))))], []⟩ [] [] (by kernel_rfl) nil_all trivial ?_
      refine then_n ?_
      refine awp_seq ?_
      refine awp_cond (b := decide (p1 < (a0.length : Int))) (by kernel_rfl) (fun b5 => ?_) (fun b5 => ?_)
      · have h6 := cond_t b5 h4
        refine awp_skip ?_
        refine then_n ?_
        refine awp_seq ?_
        refine awp_block ?_
        refine awp_seq ?_
        refine awp_reg [] [0, 1, 5, 12, 13] 0 ⟨26, [(0, sL 2 c_TPrefix a0), (1, sL 2 c_TPrefix a1), (5, .int .i64 p1), (12, .int .i64 (a0.length : Int)), (13, .int .i64 p1)], []⟩ [] [] (by kernel_rfl) nil_all trivial ?_
        refine then_n ?_
        refine awp_seq ?_
        obtain ⟨c8, h9⟩ := gd_some h6
        refine awp_reg [] [0, 1, 12, 13, 24] 0 ⟨26, [(0, sL 2 c_TPrefix a0), (1, sL 2 c_TPrefix a1), (12, .int .i64 (a0.length : Int)), (13, .int .i64 p1), (24, .bool (!((((a0.getD p1.toNat default).fAddr) == ((a1.getD p1.toNat default).fAddr)) && ((((a0.getD p1.toNat default).fLen) == ((a1.getD p1.toNat default).fLen)) && true))))], []⟩ [decide (0 ≤ p1), decide (p1 < (a0.length : Int)), decide (0 ≤ p1), decide (p1 < (a1.length : Int))] [] (by kernel_rfl) c8 trivial ?_
        refine then_n ?_
        refine awp_cond (b := !((((a0.getD p1.toNat default).fAddr) == ((a1.getD p1.toNat default).fAddr)) && ((((a0.getD p1.toNat default).fLen) == ((a1.getD p1.toNat default).fLen)) && true))) (by kernel_rfl) (fun b10 => ?_) (fun b10 => ?_)
        · have h11 := cond_t b10 h9
          refine awp_seq ?_
          refine awp_reg [] [4] 0 ⟨26, [(4, .bool false)], []⟩ [] [] (by kernel_rfl) nil_all trivial ?_
          refine then_n ?_
          refine awp_ret ?_
          refine inb_r ?_
          refine then_r ?_
          obtain rfl := Option.some.inj h11
          exact round_r ⟨rfl, ends_r (.bool false) (by kernel_rfl) Sub.rfl⟩
        · have h12 := cond_f b10 h9
          refine awp_skip ?_
          refine inb_n ?_
          refine then_n ?_
          refine awp_reg [] [0, 1, 12, 13] 0 ⟨26, [(0, sL 2 c_TPrefix a0), (1, sL 2 c_TPrefix a1), (12, .int .i64 (a0.length : Int)), (13, .int .i64 (wr .i64 (p1 + 1)))], []⟩ [] [] (by kernel_rfl) nil_all trivial ?_
          obtain rfl := Option.some.inj h12
          exact round_n (le_rfl)
      · have h7 := cond_f b5 h4
        refine awp_exit ?_
        refine then_e ?_
        obtain rfl := Option.some.inj h7
        exact round_e ⟨rfl, le_keep' [] (by kernel_rfl)⟩
    · intro e15 s16 o17
      rcases y3 with g4 | y5
      · have h18 := elim_l h14
        obtain ⟨rfl, l20⟩ := o17
        refine inb_here ?_
        refine then_le (s' := ⟨26, [], []⟩) (l20) ?_
        refine awp_seq ?_
        refine awp_reg [] [4] 0 ⟨26, [(4, .bool true)], []⟩ [] [] (by kernel_rfl) nil_all trivial ?_
        refine then_n ?_
        refine awp_ret ?_
        obtain rfl := Option.some.inj h18
        exact ends_r (.bool true) (by kernel_rfl) Sub.rfl
      · have h19 := elim_r h14
        obtain ⟨rfl, n21⟩ := o17
        refine inb_r ?_
        refine then_r ?_
        obtain rfl := Option.some.inj h19
        exact n21

/- slices.Equal[[]netverify/api.Aggregate,netverify/api.Aggregate] -/
noncomputable def M.slices_Equal_api_Aggregate_api_Aggregate_l1 (a0 : List TAggregate) (a1 : List TAggregate) (p1 : Int) : Option (Int ⊕ (Unit ⊕ Bool)) :=
  bif decide (p1 < (a0.length : Int)) then (gd [decide (0 ≤ p1), decide (p1 < (a0.length : Int)), decide (0 ≤ p1), decide (p1 < (a1.length : Int))] (bif !((((((a0.getD p1.toNat default).fPrefix).fAddr) == (((a1.getD p1.toNat default).fPrefix).fAddr)) && (((((a0.getD p1.toNat default).fPrefix).fLen) == (((a1.getD p1.toNat default).fPrefix).fLen)) && true)) && ((((a0.getD p1.toNat default).fOnly) == ((a1.getD p1.toNat default).fOnly)) && true)) then (some (.inr (.inr false))) else (some (.inl (wr .i64 (p1 + 1)))))) else (some (.inr (.inl ())))
noncomputable def M.slices_Equal_api_Aggregate_api_Aggregate (a0 : List TAggregate) (a1 : List TAggregate) : Option Bool :=
  bif (a0.length : Int) != (a1.length : Int) then (some false) else ((loopM (M.slices_Equal_api_Aggregate_api_Aggregate_l1 a0 a1) 0).bind fun y3 => Sum.elim (fun g4 => some true) (fun y5 => some y5) y3)
theorem slices_Equal_api_Aggregate_api_Aggregate_ok (a0 : List TAggregate) (a1 : List TAggregate) (r : Bool) (h : M.slices_Equal_api_Aggregate_api_Aggregate a0 a1 = some r) : Fn Try.prog 77 [sL 3 c_TAggregate a0, sL 3 c_TAggregate a1] (.pure (.bool r)) := by
  unfold M.slices_Equal_api_Aggregate_api_Aggregate at h
  refine fn_pure Try.func77 rfl (by kernel_rfl) ?_
  refine awp_seq ?_
  refine awp_reg [] [0, 1] 0 ⟨26, [(0, sL 3 c_TAggregate a0), (1, sL 3 c_TAggregate a1)], []⟩ [] [] (by kernel_rfl) nil_all trivial ?_
  refine then_n ?_
  refine awp_seq ?_
  refine awp_seq ?_
  refine awp_reg [] [0, 1, 10] 0 ⟨26, [(0, sL 3 c_TAggregate a0), (1, sL 3 c_TAggregate a1), (10, .bool ((a0.length : Int) != (a1.length : Int)))], []⟩ [] [] (by kernel_rfl) nil_all trivial ?_
  refine then_n ?_
  refine awp_cond (b := (a0.length : Int) != (a1.length : Int)) (by kernel_rfl) (fun b1 => ?_) (fun b1 => ?_)
  · have h2 := cond_t b1 h
    refine awp_seq ?_
    refine awp_reg [] [4] 0 ⟨26, [(4, .bool false)], []⟩ [] [] (by kernel_rfl) nil_all trivial ?_
    refine then_n ?_
    refine awp_ret ?_
    refine then_r ?_
    obtain rfl := Option.some.inj h2
    exact ends_r (.bool false) (by kernel_rfl) Sub.rfl
  · have h3 := cond_f b1 h
    refine awp_skip ?_
    refine then_n ?_
    refine awp_seq ?_
    refine awp_seq ?_
    refine awp_reg [] [0, 1, 12, 13] 0 ⟨26, [(0, sL 3 c_TAggregate a0), (1, sL 3 c_TAggregate a1), (12, .int .i64 (a0.length : Int)), (13, .int .i64 0)], []⟩ [] [] (by kernel_rfl) nil_all trivial ?_
    refine then_n ?_
    refine awp_block ?_
    obtain ⟨y3, q13, h14⟩ := bind_some h3
    refine awp_le (s' := ⟨26, [(0, sL 3 c_TAggregate a0), (1, sL 3 c_TAggregate a1), (12, .int .i64 (a0.length : Int)), (13, .int .i64 0)], []⟩) (le_rfl) ?_
    refine awp_mono (awp_loop (f := M.slices_Equal_api_Aggregate_api_Aggregate_l1 a0 a1) (S := fun (p1 : Int) => ⟨26, [(0, sL 3 c_TAggregate a0), (1, sL 3 c_TAggregate a1), (12, .int .i64 (a0.length : Int)), (13, .int .i64 p1)], []⟩) (O := (Sum.elim (fun z => OutE 0 (fun z => ⟨26, [], []⟩) z) (fun z => OutR Try.prog Try.f77 (.bool z)))) ?_ (x := 0) (y := y3) (loopM_iter q13)) ?_
    · intro p1 y2 h4
      unfold M.slices_Equal_api_Aggregate_api_Aggregate_l1 at h4
      refine awp_seq ?_
      refine awp_reg [] [0, 1, 12, 13, 14] 0 ⟨26, [(0, sL 3 c_TAggregate a0), (1, sL 3 c_TAggregate a1), (12, .int .i64 (a0.length : Int)), (13, .int .i64 p1), (14, .bool (decide (p1 < (a0.length : Int))))], []⟩ [] [] (by kernel_rfl) nil_all trivial ?_
      refine then_n ?_
      refine awp_seq ?_
      refine awp_cond (b := decide (p1 < (a0.length : Int))) (by kernel_rfl) (fun b5 => ?_) (fun b5 => ?_)
      · have h6 := cond_t b5 h4
        refine awp_skip ?_
        refine then_n ?_
        refine awp_seq ?_
        refine awp_block ?_
        refine awp_seq ?_
        refine awp_reg [] [0, 1, 5, 12, 13] 0 ⟨26, [(0, sL 3 c_TAggregate a0), (1, sL 3 c_TAggregate a1), (5, .int .i64 p1), (12, .int .i64 (a0.length : Int)), (13, .int .i64 p1)], []⟩ [] [] (by kernel_rfl) nil_all trivial ?_
        refine then_n ?_
        refine awp_seq ?_
        obtain ⟨c8, h9⟩ := gd_some h6
        refine awp_reg [] [0, 1, 12, 13, 24] 0 ⟨26, [(0, sL 3 c_TAggregate a0), (1, sL 3 c_TAggregate a1), (12, .int .i64 (a0.length : Int)), (13, .int .i64 p1), (24, .bool (!((((((a0.getD p1.toNat default).fPrefix).fAddr) == (((a1.getD p1.toNat default).fPrefix).fAddr)) && (((((a0.getD p1.toNat default).fPrefix).fLen) == (((a1.getD p1.toNat default).fPrefix).fLen)) && true)) && ((((a0.getD p1.toNat default).fOnly) == ((a1.getD p1.toNat default).fOnly)) && true))))], []⟩ [decide (0 ≤ p1), decide (p1 < (a0.length : Int)), decide (0 ≤ p1), decide (p1 < (a1.length : Int))] [] (by kernel_rfl) c8 trivial ?_
        refine then_n ?_
        refine awp_cond (b := !((((((a0.getD p1.toNat default).fPrefix).fAddr) == (((a1.getD p1.toNat default).fPrefix).fAddr)) && (((((a0.getD p1.toNat default).fPrefix).fLen) == (((a1.getD p1.toNat default).fPrefix).fLen)) && true)) && ((((a0.getD p1.toNat default).fOnly) == ((a1.getD p1.toNat default).fOnly)) && true))) (by kernel_rfl) (fun b10 => ?_) (fun b10 => ?_)
        · have h11 := cond_t b10 h9
          refine awp_seq ?_
          refine awp_reg [] [4] 0 ⟨26, [(4, .bool false)], []⟩ [] [] (by kernel_rfl) nil_all trivial ?_
          refine then_n ?_
          refine awp_ret ?_
          refine inb_r ?_
          refine then_r ?_
          obtain rfl := Option.some.inj h11
          exact round_r ⟨rfl, ends_r (.bool false) (by kernel_rfl) Sub.rfl⟩
        · have h12 := cond_f b10 h9
          refine awp_skip ?_
          refine inb_n ?_
          refine then_n ?_
          refine awp_reg [] [0, 1, 12, 13] 0 ⟨26, [(0, sL 3 c_TAggregate a0), (1, sL 3 c_TAggregate a1), (12, .int .i64 (a0.length : Int)), (13, .int .i64 (wr .i64 (p1 + 1)))], []⟩ [] [] (by kernel_rfl) nil_all trivial ?_
          obtain rfl := Option.some.inj h12
          exact round_n (le_rfl)
      · have h7 := cond_f b5 h4
        refine awp_exit ?_
        refine then_e ?_
        obtain rfl := Option.some.inj h7
        exact round_e ⟨rfl, le_keep' [] (by kernel_rfl)⟩
    · intro e15 s16 o17
      rcases y3 with g4 | y5
      · have h18 := elim_l h14
        obtain ⟨rfl, l20⟩ := o17
        refine inb_here ?_
        refine then_le (s' := ⟨26, [], []⟩) (l20) ?_
        refine awp_seq ?_
        refine awp_reg [] [4] 0 ⟨26, [(4, .bool true)], []⟩ [] [] (by kernel_rfl) nil_all trivial ?_
        refine then_n ?_
        refine awp_ret ?_
        obtain rfl := Option.some.inj h18
        exact ends_r (.bool true) (by kernel_rfl) Sub.rfl
      · have h19 := elim_r h14
        obtain ⟨rfl, n21⟩ := o17
        refine inb_r ?_
        refine then_r ?_
        obtain rfl := Option.some.inj h19
        exact n21

/- slices.Equal[[]netverify/api.Condition,netverify/api.Condition] -/
noncomputable def M.slices_Equal_api_Condition_api_Condition_l1 (a0 : List TCondition) (a1 : List TCondition) (p1 : Int) : Option (Int ⊕ (Unit ⊕ Bool)) :=
  bif decide (p1 < (a0.length : Int)) then (gd [decide (0 ≤ p1), decide (p1 < (a0.length : Int)), decide (0 ≤ p1), decide (p1 < (a1.length : Int))] (bif !((((((a0.getD p1.toNat default).fPrefix).fAddr) == (((a1.getD p1.toNat default).fPrefix).fAddr)) && (((((a0.getD p1.toNat default).fPrefix).fLen) == (((a1.getD p1.toNat default).fPrefix).fLen)) && true)) && ((((((a0.getD p1.toNat default).fIf).fAddr) == (((a1.getD p1.toNat default).fIf).fAddr)) && (((((a0.getD p1.toNat default).fIf).fLen) == (((a1.getD p1.toNat default).fIf).fLen)) && true)) && ((((a0.getD p1.toNat default).fAbsent) == ((a1.getD p1.toNat default).fAbsent)) && true))) then (some (.inr (.inr false))) else (some (.inl (wr .i64 (p1 + 1)))))) else (some (.inr (.inl ())))
noncomputable def M.slices_Equal_api_Condition_api_Condition (a0 : List TCondition) (a1 : List TCondition) : Option Bool :=
  bif (a0.length : Int) != (a1.length : Int) then (some false) else ((loopM (M.slices_Equal_api_Condition_api_Condition_l1 a0 a1) 0).bind fun y3 => Sum.elim (fun g4 => some true) (fun y5 => some y5) y3)
theorem slices_Equal_api_Condition_api_Condition_ok (a0 : List TCondition) (a1 : List TCondition) (r : Bool) (h : M.slices_Equal_api_Condition_api_Condition a0 a1 = some r) : Fn Try.prog 78 [sL 5 c_TCondition a0, sL 5 c_TCondition a1] (.pure (.bool r)) := by
  unfold M.slices_Equal_api_Condition_api_Condition at h
  refine fn_pure Try.func78 rfl (by kernel_rfl) ?_
  refine awp_seq ?_
  refine awp_reg [] [0, 1] 0 ⟨26, [(0, sL 5 c_TCondition a0), (1, sL 5 c_TCondition a1)], []⟩ [] [] (by kernel_rfl) nil_all trivial ?_
  refine then_n ?_
  refine awp_seq ?_
  refine awp_seq ?_
  refine awp_reg [] [0, 1, 10] 0 ⟨26, [(0, sL 5 c_TCondition a0), (1, sL 5 c_TCondition a1), (10, .bool ((a0.length : Int) != (a1.length : Int)))], []⟩ [] [] (by kernel_rfl) nil_all trivial ?_
  refine then_n ?_
  refine awp_cond (b := (a0.length : Int) != (a1.length : Int)) (by kernel_rfl) (fun b1 => ?_) (fun b1 => ?_)
  · have h2 := cond_t b1 h
    refine awp_seq ?_
    refine awp_reg [] [4] 0 ⟨26, [(4, .bool false)], []⟩ [] [] (by kernel_rfl) nil_all trivial ?_
    refine then_n ?_
    refine awp_ret ?_
    refine then_r ?_
    obtain rfl := Option.some.inj h2
    exact ends_r (.bool false) (by kernel_rfl) Sub.rfl
  · have h3 := cond_f b1 h
    refine awp_skip ?_
    refine then_n ?_
    refine awp_seq ?_
    refine awp_seq ?_
    refine awp_reg [] [0, 1, 12, 13] 0 ⟨26, [(0, sL 5 c_TCondition a0), (1, sL 5 c_TCondition a1), (12, .int .i64 (a0.length : Int)), (13, .int .i64 0)], []⟩ [] [] (by kernel_rfl) nil_all trivial ?_
    refine then_n ?_
    refine awp_block ?_
    obtain ⟨y3, q13, h14⟩ := bind_some h3
    refine awp_le (s' := ⟨26, [(0, sL 5 c_TCondition a0), (1, sL 5 c_TCondition a1), (12, .int .i64 (a0.length : Int)), (13, .int .i64 0)], []⟩) (le_rfl) ?_
    refine awp_mono (awp_loop (f := M.slices_Equal_api_Condition_api_Condition_l1 a0 a1) (S := fun (p1 : Int) => ⟨26, [(0, sL 5 c_TCondition a0), (1, sL 5 c_TCondition a1), (12, .int .i64 (a0.length : Int)), (13, .int .i64 p1)], []⟩) (O := (Sum.elim (fun z => OutE 0 (fun z => ⟨26, [], []⟩) z) (fun z => OutR Try.prog Try.f78 (.bool z)))) ?_ (x := 0) (y := y3) (loopM_iter q13)) ?_
    · intro p1 y2 h4
      unfold M.slices_Equal_api_Condition_api_Condition_l1 at h4
      refine awp_seq ?_
      refine awp_reg [] [0, 1, 12, 13, 14] 0 ⟨26, [(0, sL 5 c_TCondition a0), (1, sL 5 c_TCondition a1), (12, .int .i64 (a0.length : Int)), (13, .int .i64 p1), (14, .bool (decide (p1 < (a0.length : Int))))], []⟩ [] [] (by kernel_rfl) nil_all trivial ?_
      refine then_n ?_
      refine awp_seq ?_
      refine awp_cond (b := decide (p1 < (a0.length : Int))) (by kernel_rfl) (fun b5 => ?_) (fun b5 => ?_)
      · have h6 := cond_t b5 h4
        refine awp_skip ?_
        refine then_n ?_
        refine awp_seq ?_
        refine awp_block ?_
        refine awp_seq ?_
        refine awp_reg [] [0, 1, 5, 12, 13] 0 ⟨26, [(0, sL 5 c_TCondition a0), (1, sL 5 c_TCondition a1), (5, .int .i64 p1), (12, .int .i64 (a0.length : Int)), (13, .int .i64 p1)], []⟩ [] [] (by kernel_rfl) nil_all trivial ?_
        refine then_n ?_
        refine awp_seq ?_
        obtain ⟨c8, h9⟩ := gd_some h6
        refine awp_reg [] [0, 1, 12, 13, 24] 0 ⟨26, [(0, sL 5 c_TCondition a0), (1, sL 5 c_TCondition a1), (12, .int .i64 (a0.length : Int)), (13, .int .i64 p1), (24, .bool (!((((((a0.getD p1.toNat default).fPrefix).fAddr) == (((a1.getD p1.toNat default).fPrefix).fAddr)) && (((((a0.getD p1.toNat default).fPrefix).fLen) == (((a1.getD p1.toNat default).fPrefix).fLen)) && true)) && ((((((a0.getD p1.toNat default).fIf).fAddr) == (((a1.getD p1.toNat default).fIf).fAddr)) && (((((a0.getD p1.toNat default).fIf).fLen) == (((a1.getD p1.toNat default).fIf).fLen)) && true)) && ((((a0.getD p1.toNat default).fAbsent) == ((a1.getD p1.toNat default).fAbsent)) && true)))))], []⟩ [decide (0 ≤ p1), decide (p1 < (a0.length : Int)), decide (0 ≤ p1), decide (p1 < (a1.length : Int))] [] (by kernel_rfl) c8 trivial ?_
        refine then_n ?_
        refine awp_cond (b := !((((((a0.getD p1.toNat default).fPrefix).fAddr) == (((a1.getD p1.toNat default).fPrefix).fAddr)) && (((((a0.getD p1.toNat default).fPrefix).fLen) == (((a1.getD p1.toNat default).fPrefix).fLen)) && true)) && ((((((a0.getD p1.toNat default).fIf).fAddr) == (((a1.getD p1.toNat default).fIf).fAddr)) && (((((a0.getD p1.toNat default).fIf).fLen) == (((a1.getD p1.toNat default).fIf).fLen)) && true)) && ((((a0.getD p1.toNat default).fAbsent) == ((a1.getD p1.toNat default).fAbsent)) && true)))) (by kernel_rfl) (fun b10 => ?_) (fun b10 => ?_)
        · have h11 := cond_t b10 h9
          refine awp_seq ?_
          refine awp_reg [] [4] 0 ⟨26, [(4, .bool false)], []⟩ [] [] (by kernel_rfl) nil_all trivial ?_
          refine then_n ?_
          refine awp_ret ?_
          refine inb_r ?_
          refine then_r ?_
          obtain rfl := Option.some.inj h11
          exact round_r ⟨rfl, ends_r (.bool false) (by kernel_rfl) Sub.rfl⟩
        · have h12 := cond_f b10 h9
          refine awp_skip ?_
          refine inb_n ?_
          refine then_n ?_
          refine awp_reg [] [0, 1, 12, 13] 0 ⟨26, [(0, sL 5 c_TCondition a0), (1, sL 5 c_TCondition a1), (12, .int .i64 (a0.length : Int)), (13, .int .i64 (wr .i64 (p1 + 1)))], []⟩ [] [] (by kernel_rfl) nil_all trivial ?_
          obtain rfl := Option.some.inj h12
          exact round_n (le_rfl)
      · have h7 := cond_f b5 h4
        refine awp_exit ?_
        refine then_e ?_
        obtain rfl := Option.some.inj h7
        exact round_e ⟨rfl, le_keep' [] (by kernel_rfl)⟩
    · intro e15 s16 o17
      rcases y3 with g4 | y5
      · have h18 := elim_l h14
        obtain ⟨rfl, l20⟩ := o17
        refine inb_here ?_
        refine then_le (s' := ⟨26, [], []⟩) (l20) ?_
        refine awp_seq ?_
        refine awp_reg [] [4] 0 ⟨26, [(4, .bool true)], []⟩ [] [] (by kernel_rfl) nil_all trivial ?_
        refine then_n ?_
        refine awp_ret ?_
        obtain rfl := Option.some.inj h18
        exact ends_r (.bool true) (by kernel_rfl) Sub.rfl
      · have h19 := elim_r h14
        obtain ⟨rfl, n21⟩ := o17
        refine inb_r ?_
        refine then_r ?_
        obtain rfl := Option.some.inj h19
        exact n21

/- netverify/model.samePathVector -/
noncomputable def M.model_samePathVector (a0 : TPathVector) (a1 : TPathVector) : Option Bool :=
  (gc (((a0.fOn == a1.fOn) && (a0.fExternal == a1.fExternal)) && (a0.fInternal == a1.fInternal)) (M.slices_Equal_api_Neighbor_api_Neighbor a0.fNeighbors a1.fNeighbors)).bind fun r1 => (gc ((((a0.fOn == a1.fOn) && (a0.fExternal == a1.fExternal)) && (a0.fInternal == a1.fInternal)) && r1) (M.slices_Equal_api_Prefix_api_Prefix a0.fNetworks a1.fNetworks)).bind fun r2 => (gc (((((a0.fOn == a1.fOn) && (a0.fExternal == a1.fExternal)) && (a0.fInternal == a1.fInternal)) && r1) && r2) (M.slices_Equal_api_Aggregate_api_Aggregate a0.fAggregates a1.fAggregates)).bind fun r3 => (gc ((((((a0.fOn == a1.fOn) && (a0.fExternal == a1.fExternal)) && (a0.fInternal == a1.fInternal)) && r1) && r2) && r3) (M.slices_Equal_api_Condition_api_Condition a0.fConditions a1.fConditions)).bind fun r4 => (gc (((((((a0.fOn == a1.fOn) && (a0.fExternal == a1.fExternal)) && (a0.fInternal == a1.fInternal)) && r1) && r2) && r3) && r4) (M.slices_Equal_api_Redist_api_Redist a0.fRedist a1.fRedist)).bind fun r5 => some ((((((((a0.fOn == a1.fOn) && (a0.fExternal == a1.fExternal)) && (a0.fInternal == a1.fInternal)) && r1) && r2) && r3) && r4) && r5)
theorem model_samePathVector_ok (a0 : TPathVector) (a1 : TPathVector) (r : Bool) (h : M.model_samePathVector a0 a1 = some r) : Fn Try.prog 43 [.agg (c_TPathVector a0), .agg (c_TPathVector a1)] (.pure (.bool r)) := by
  unfold M.model_samePathVector at h
  refine fn_pure Try.func43 rfl (by kernel_rfl) ?_
  refine awp_seq ?_
  refine awp_reg [] [2, 3] 2 ⟨59, [(2, .ref 0 0), (3, .ref 1 0)], [.box (c_TPathVector a0), .box (c_TPathVector a1)]⟩ [] [] (by kernel_rfl) nil_all trivial ?_
  refine then_n ?_
  refine awp_seq ?_
  obtain ⟨r1, q1, h2⟩ := bind_some h
  obtain ⟨r2, q3, h4⟩ := bind_some h2
  obtain ⟨r3, q5, h6⟩ := bind_some h4
  obtain ⟨r4, q7, h8⟩ := bind_some h6
  obtain ⟨r5, q9, h10⟩ := bind_some h8
  refine awp_reg [.pure (.bool r1), .pure (.bool r2), .pure (.bool r3), .pure (.bool r4), .pure (.bool r5)] [4] 0 ⟨59, [(4, .bool ((((((((a0.fOn == a1.fOn) && (a0.fExternal == a1.fExternal)) && (a0.fInternal == a1.fInternal)) && r1) && r2) && r3) && r4) && r5))], []⟩ [] [⟨((a0.fOn == a1.fOn) && (a0.fExternal == a1.fExternal)) && (a0.fInternal == a1.fInternal), 75, [sL 4 c_TNeighbor a0.fNeighbors, sL 4 c_TNeighbor a1.fNeighbors], .pure (.bool r1)⟩, ⟨(((a0.fOn == a1.fOn) && (a0.fExternal == a1.fExternal)) && (a0.fInternal == a1.fInternal)) && r1, 76, [sL 2 c_TPrefix a0.fNetworks, sL 2 c_TPrefix a1.fNetworks], .pure (.bool r2)⟩, ⟨((((a0.fOn == a1.fOn) && (a0.fExternal == a1.fExternal)) && (a0.fInternal == a1.fInternal)) && r1) && r2, 77, [sL 3 c_TAggregate a0.fAggregates, sL 3 c_TAggregate a1.fAggregates], .pure (.bool r3)⟩, ⟨(((((a0.fOn == a1.fOn) && (a0.fExternal == a1.fExternal)) && (a0.fInternal == a1.fInternal)) && r1) && r2) && r3, 78, [sL 5 c_TCondition a0.fConditions, sL 5 c_TCondition a1.fConditions], .pure (.bool r4)⟩, ⟨((((((a0.fOn == a1.fOn) && (a0.fExternal == a1.fExternal)) && (a0.fInternal == a1.fInternal)) && r1) && r2) && r3) && r4, 74, [sL 5 c_TRedist a0.fRedist, sL 5 c_TRedist a1.fRedist], .pure (.bool r5)⟩] (by kernel_rfl) nil_all ⟨fun hg => slices_Equal_api_Neighbor_api_Neighbor_ok a0.fNeighbors a1.fNeighbors r1 (gc_some q1 hg), fun hg => slices_Equal_api_Prefix_api_Prefix_ok a0.fNetworks a1.fNetworks r2 (gc_some q3 hg), fun hg => slices_Equal_api_Aggregate_api_Aggregate_ok a0.fAggregates a1.fAggregates r3 (gc_some q5 hg), fun hg => slices_Equal_api_Condition_api_Condition_ok a0.fConditions a1.fConditions r4 (gc_some q7 hg), fun hg => slices_Equal_api_Redist_api_Redist_ok a0.fRedist a1.fRedist r5 (gc_some q9 hg), trivial⟩ ?_
  refine then_n ?_
  refine awp_ret ?_
  obtain rfl := Option.some.inj h10
  exact ends_r (.bool ((((((((a0.fOn == a1.fOn) && (a0.fExternal == a1.fExternal)) && (a0.fInternal == a1.fInternal)) && r1) && r2) && r3) && r4) && r5)) (by kernel_rfl) Sub.rfl

/- netverify/model.Same -/
noncomputable def M.model_Same (a0 : TRouter) (a1 : TRouter) : Option Bool :=
  (gc ((strEq a0.fName a1.fName) && (a0.fAS == a1.fAS)) (M.slices_Equal_api_Interface_api_Interface a0.fInterfaces a1.fInterfaces)).bind fun r1 => (gc (((strEq a0.fName a1.fName) && (a0.fAS == a1.fAS)) && r1) (M.slices_EqualFunc_api_PrefixList_api_PrefixList_api_PrefixList_api_PrefixList__model_Same_1 a0.fLists a1.fLists)).bind fun r2 => (gc ((((strEq a0.fName a1.fName) && (a0.fAS == a1.fAS)) && r1) && r2) (M.slices_EqualFunc_api_RouteMap_api_RouteMap_api_RouteMap_api_RouteMap__model_Same_2 a0.fMaps a1.fMaps)).bind fun r3 => (gc (((((strEq a0.fName a1.fName) && (a0.fAS == a1.fAS)) && r1) && r2) && r3) (M.slices_EqualFunc_api_ACL_api_ACL_api_ACL_api_ACL__model_Same_3 a0.fACLs a1.fACLs)).bind fun r4 => (gc ((((((strEq a0.fName a1.fName) && (a0.fAS == a1.fAS)) && r1) && r2) && r3) && r4) (M.slices_Equal_api_Translation_api_Translation a0.fNAT a1.fNAT)).bind fun r5 => (gc (((((((strEq a0.fName a1.fName) && (a0.fAS == a1.fAS)) && r1) && r2) && r3) && r4) && r5) (M.slices_Equal_api_StaticRoute_api_StaticRoute a0.fStatics a1.fStatics)).bind fun r6 => (gc ((((((((strEq a0.fName a1.fName) && (a0.fAS == a1.fAS)) && r1) && r2) && r3) && r4) && r5) && r6) (M.model_sameLinkState a0.fLS a1.fLS)).bind fun r7 => (gc (((((((((strEq a0.fName a1.fName) && (a0.fAS == a1.fAS)) && r1) && r2) && r3) && r4) && r5) && r6) && r7) (M.model_sameDistanceVector a0.fDV a1.fDV)).bind fun r8 => (gc ((((((((((strEq a0.fName a1.fName) && (a0.fAS == a1.fAS)) && r1) && r2) && r3) && r4) && r5) && r6) && r7) && r8) (M.model_samePathVector a0.fPV a1.fPV)).bind fun r9 => some (((((((((((strEq a0.fName a1.fName) && (a0.fAS == a1.fAS)) && r1) && r2) && r3) && r4) && r5) && r6) && r7) && r8) && r9)
theorem model_Same_ok (a0 : TRouter) (a1 : TRouter) (r : Bool) (h : M.model_Same a0 a1 = some r) : Fn Try.prog 9 [.agg (c_TRouter a0), .agg (c_TRouter a1)] (.pure (.bool r)) := by
  unfold M.model_Same at h
  refine fn_pure Try.func9 rfl (by kernel_rfl) ?_
  refine awp_seq ?_
  refine awp_reg [] [2, 3] 2 ⟨80, [(2, .ref 0 0), (3, .ref 1 0)], [.box (c_TRouter a0), .box (c_TRouter a1)]⟩ [] [] (by kernel_rfl) nil_all trivial ?_
  refine then_n ?_
  refine awp_seq ?_
  obtain ⟨r1, q1, h2⟩ := bind_some h
  obtain ⟨r2, q3, h4⟩ := bind_some h2
  obtain ⟨r3, q5, h6⟩ := bind_some h4
  obtain ⟨r4, q7, h8⟩ := bind_some h6
  obtain ⟨r5, q9, h10⟩ := bind_some h8
  obtain ⟨r6, q11, h12⟩ := bind_some h10
  obtain ⟨r7, q13, h14⟩ := bind_some h12
  obtain ⟨r8, q15, h16⟩ := bind_some h14
  obtain ⟨r9, q17, h18⟩ := bind_some h16
  refine awp_reg [.pure (.bool r1), .pure (.bool r2), .pure (.bool r3), .pure (.bool r4), .pure (.bool r5), .pure (.bool r6), .pure (.bool r7), .pure (.bool r8), .pure (.bool r9)] [4] 0 ⟨80, [(4, .bool (((((((((((strEq a0.fName a1.fName) && (a0.fAS == a1.fAS)) && r1) && r2) && r3) && r4) && r5) && r6) && r7) && r8) && r9))], []⟩ [] [⟨(strEq a0.fName a1.fName) && (a0.fAS == a1.fAS), 29, [sL 12 c_TInterface a0.fInterfaces, sL 12 c_TInterface a1.fInterfaces], .pure (.bool r1)⟩, ⟨((strEq a0.fName a1.fName) && (a0.fAS == a1.fAS)) && r1, 30, [sL 2 c_TPrefixList a0.fLists, sL 2 c_TPrefixList a1.fLists, .fn 31 []], .pure (.bool r2)⟩, ⟨(((strEq a0.fName a1.fName) && (a0.fAS == a1.fAS)) && r1) && r2, 33, [sL 2 c_TRouteMap a0.fMaps, sL 2 c_TRouteMap a1.fMaps, .fn 34 []], .pure (.bool r3)⟩, ⟨((((strEq a0.fName a1.fName) && (a0.fAS == a1.fAS)) && r1) && r2) && r3, 36, [sL 2 c_TACL a0.fACLs, sL 2 c_TACL a1.fACLs, .fn 37 []], .pure (.bool r4)⟩, ⟨(((((strEq a0.fName a1.fName) && (a0.fAS == a1.fAS)) && r1) && r2) && r3) && r4, 39, [sL 9 c_TTranslation a0.fNAT, sL 9 c_TTranslation a1.fNAT], .pure (.bool r5)⟩, ⟨((((((strEq a0.fName a1.fName) && (a0.fAS == a1.fAS)) && r1) && r2) && r3) && r4) && r5, 40, [sL 7 c_TStaticRoute a0.fStatics, sL 7 c_TStaticRoute a1.fStatics], .pure (.bool r6)⟩, ⟨(((((((strEq a0.fName a1.fName) && (a0.fAS == a1.fAS)) && r1) && r2) && r3) && r4) && r5) && r6, 41, [.agg (c_TLinkState a0.fLS), .agg (c_TLinkState a1.fLS)], .pure (.bool r7)⟩, ⟨((((((((strEq a0.fName a1.fName) && (a0.fAS == a1.fAS)) && r1) && r2) && r3) && r4) && r5) && r6) && r7, 42, [.agg (c_TDistanceVector a0.fDV), .agg (c_TDistanceVector a1.fDV)], .pure (.bool r8)⟩, ⟨(((((((((strEq a0.fName a1.fName) && (a0.fAS == a1.fAS)) && r1) && r2) && r3) && r4) && r5) && r6) && r7) && r8, 43, [.agg (c_TPathVector a0.fPV), .agg (c_TPathVector a1.fPV)], .pure (.bool r9)⟩] (by kernel_rfl) nil_all ⟨fun hg => slices_Equal_api_Interface_api_Interface_ok a0.fInterfaces a1.fInterfaces r1 (gc_some q1 hg), fun hg => slices_EqualFunc_api_PrefixList_api_PrefixList_api_PrefixList_api_PrefixList__model_Same_1_ok a0.fLists a1.fLists r2 (gc_some q3 hg), fun hg => slices_EqualFunc_api_RouteMap_api_RouteMap_api_RouteMap_api_RouteMap__model_Same_2_ok a0.fMaps a1.fMaps r3 (gc_some q5 hg), fun hg => slices_EqualFunc_api_ACL_api_ACL_api_ACL_api_ACL__model_Same_3_ok a0.fACLs a1.fACLs r4 (gc_some q7 hg), fun hg => slices_Equal_api_Translation_api_Translation_ok a0.fNAT a1.fNAT r5 (gc_some q9 hg), fun hg => slices_Equal_api_StaticRoute_api_StaticRoute_ok a0.fStatics a1.fStatics r6 (gc_some q11 hg), fun hg => model_sameLinkState_ok a0.fLS a1.fLS r7 (gc_some q13 hg), fun hg => model_sameDistanceVector_ok a0.fDV a1.fDV r8 (gc_some q15 hg), fun hg => model_samePathVector_ok a0.fPV a1.fPV r9 (gc_some q17 hg), trivial⟩ ?_
  refine then_n ?_
  refine awp_ret ?_
  obtain rfl := Option.some.inj h18
  exact ends_r (.bool (((((((((((strEq a0.fName a1.fName) && (a0.fAS == a1.fAS)) && r1) && r2) && r3) && r4) && r5) && r6) && r7) && r8) && r9)) (by kernel_rfl) Sub.rfl

/- netverify/netverifylaw5.sane -/
noncomputable def M.law5_sane  : Option Bool :=
  (M.law5_sample).bind fun r1 => (M.model_CheckRouter r1).bind fun r2 => (gc (r2 == 0) (M.model_CheckRouter (⟨(⟨#[49, 114]⟩ : ByteArray), r1.fAS, r1.fInterfaces, r1.fLists, r1.fMaps, r1.fACLs, r1.fNAT, r1.fStatics, r1.fLS, r1.fDV, r1.fPV⟩ : TRouter))).bind fun r3 => (gc ((r2 == 0) && (r3 == 3)) M.law5_sample).bind fun r4 => (gc ((r2 == 0) && (r3 == 3)) (M.model_Same r1 r4)).bind fun r5 => (gc (((r2 == 0) && (r3 == 3)) && r5) (M.model_Same r1 (⟨(⟨#[49, 114]⟩ : ByteArray), r1.fAS, r1.fInterfaces, r1.fLists, r1.fMaps, r1.fACLs, r1.fNAT, r1.fStatics, r1.fLS, r1.fDV, r1.fPV⟩ : TRouter))).bind fun r6 => (gc ((((r2 == 0) && (r3 == 3)) && r5) && (!r6)) (M.model_Interface r1 (⟨#[101, 49]⟩ : ByteArray))).bind fun r7 => (gc (((((r2 == 0) && (r3 == 3)) && r5) && (!r6)) && (r7 == 1)) (M.model_Address r1 167772417)).bind fun r8 => some ((((((r2 == 0) && (r3 == 3)) && r5) && (!r6)) && (r7 == 1)) && (r8 == 1))
theorem law5_sane_ok  (r : Bool) (h : M.law5_sane = some r) : Fn Try.prog 10 [] (.pure (.bool r)) := by
  unfold M.law5_sane at h
  refine fn_pure Try.func10 rfl (by kernel_rfl) ?_
  refine awp_seq ?_
  refine awp_reg [] [] 0 ⟨35, [], []⟩ [] [] (by kernel_rfl) nil_all trivial ?_
  refine then_n ?_
  refine awp_seq ?_
  obtain ⟨r1, q1, h2⟩ := bind_some h
  refine awp_reg [.pure (.agg (c_TRouter r1))] [1] 1 ⟨35, [(1, .ref 0 0)], [.box (c_TRouter r1)]⟩ [] [⟨true, 44, [], .pure (.agg (c_TRouter r1))⟩] (by kernel_rfl) nil_all ⟨fun _ => law5_sample_ok  r1 q1, trivial⟩ ?_
  refine then_n ?_
  refine awp_seq ?_
  refine awp_reg [] [1, 2] 2 ⟨35, [(1, .ref 0 0), (2, .ref 1 0)], [.box (c_TRouter r1), .box (c_TRouter r1)]⟩ [] [] (by kernel_rfl) nil_all trivial ?_
  refine then_n ?_
  refine awp_seq ?_
  refine awp_reg [] [1, 2] 2 ⟨35, [(1, .ref 0 0), (2, .ref 1 0)], [.box (c_TRouter r1), .box [.str (⟨#[49, 114]⟩ : ByteArray), .int .i64 r1.fAS, sL 12 c_TInterface r1.fInterfaces, sL 2 c_TPrefixList r1.fLists, sL 2 c_TRouteMap r1.fMaps, sL 2 c_TACL r1.fACLs, sL 9 c_TTranslation r1.fNAT, sL 7 c_TStaticRoute r1.fStatics, .bool r1.fLS.fOn, .int .i64 r1.fLS.fAdmin, sL 3 c_TAreaRange r1.fLS.fRanges, sL 5 c_TRedist r1.fLS.fRedist, .bool r1.fDV.fOn, .int .i64 r1.fDV.fAdmin, .str r1.fDV.fIn, .str r1.fDV.fOut, sL 5 c_TRedist r1.fDV.fRedist, .bool r1.fPV.fOn, .int .i64 r1.fPV.fExternal, .int .i64 r1.fPV.fInternal, sL 4 c_TNeighbor r1.fPV.fNeighbors, sL 2 c_TPrefix r1.fPV.fNetworks, sL 3 c_TAggregate r1.fPV.fAggregates, sL 5 c_TCondition r1.fPV.fConditions, sL 5 c_TRedist r1.fPV.fRedist]]⟩ [] [] (by kernel_rfl) nil_all trivial ?_
  refine then_n ?_
  refine awp_seq ?_
  obtain ⟨r2, q3, h4⟩ := bind_some h2
  obtain ⟨r3, q5, h6⟩ := bind_some h4
  obtain ⟨r4, q7, h8⟩ := bind_some h6
  obtain ⟨r5, q9, h10⟩ := bind_some h8
  obtain ⟨r6, q11, h12⟩ := bind_some h10
  obtain ⟨r7, q13, h14⟩ := bind_some h12
  obtain ⟨r8, q15, h16⟩ := bind_some h14
  refine awp_reg [.pure (.int .i64 r2), .pure (.int .i64 r3), .pure (.agg (c_TRouter r4)), .pure (.bool r5), .pure (.bool r6), .pure (.int .i64 r7), .pure (.int .i64 r8)] [0] 0 ⟨35, [(0, .bool ((((((r2 == 0) && (r3 == 3)) && r5) && (!r6)) && (r7 == 1)) && (r8 == 1)))], []⟩ [] [⟨true, 26, [.agg (c_TRouter r1)], .pure (.int .i64 r2)⟩, ⟨r2 == 0, 26, [.agg [.str (⟨#[49, 114]⟩ : ByteArray), .int .i64 r1.fAS, sL 12 c_TInterface r1.fInterfaces, sL 2 c_TPrefixList r1.fLists, sL 2 c_TRouteMap r1.fMaps, sL 2 c_TACL r1.fACLs, sL 9 c_TTranslation r1.fNAT, sL 7 c_TStaticRoute r1.fStatics, .bool r1.fLS.fOn, .int .i64 r1.fLS.fAdmin, sL 3 c_TAreaRange r1.fLS.fRanges, sL 5 c_TRedist r1.fLS.fRedist, .bool r1.fDV.fOn, .int .i64 r1.fDV.fAdmin, .str r1.fDV.fIn, .str r1.fDV.fOut, sL 5 c_TRedist r1.fDV.fRedist, .bool r1.fPV.fOn, .int .i64 r1.fPV.fExternal, .int .i64 r1.fPV.fInternal, sL 4 c_TNeighbor r1.fPV.fNeighbors, sL 2 c_TPrefix r1.fPV.fNetworks, sL 3 c_TAggregate r1.fPV.fAggregates, sL 5 c_TCondition r1.fPV.fConditions, sL 5 c_TRedist r1.fPV.fRedist]], .pure (.int .i64 r3)⟩, ⟨(r2 == 0) && (r3 == 3), 44, [], .pure (.agg (c_TRouter r4))⟩, ⟨(r2 == 0) && (r3 == 3), 9, [.agg (c_TRouter r1), .agg (c_TRouter r4)], .pure (.bool r5)⟩, ⟨((r2 == 0) && (r3 == 3)) && r5, 9, [.agg (c_TRouter r1), .agg [.str (⟨#[49, 114]⟩ : ByteArray), .int .i64 r1.fAS, sL 12 c_TInterface r1.fInterfaces, sL 2 c_TPrefixList r1.fLists, sL 2 c_TRouteMap r1.fMaps, sL 2 c_TACL r1.fACLs, sL 9 c_TTranslation r1.fNAT, sL 7 c_TStaticRoute r1.fStatics, .bool r1.fLS.fOn, .int .i64 r1.fLS.fAdmin, sL 3 c_TAreaRange r1.fLS.fRanges, sL 5 c_TRedist r1.fLS.fRedist, .bool r1.fDV.fOn, .int .i64 r1.fDV.fAdmin, .str r1.fDV.fIn, .str r1.fDV.fOut, sL 5 c_TRedist r1.fDV.fRedist, .bool r1.fPV.fOn, .int .i64 r1.fPV.fExternal, .int .i64 r1.fPV.fInternal, sL 4 c_TNeighbor r1.fPV.fNeighbors, sL 2 c_TPrefix r1.fPV.fNetworks, sL 3 c_TAggregate r1.fPV.fAggregates, sL 5 c_TCondition r1.fPV.fConditions, sL 5 c_TRedist r1.fPV.fRedist]], .pure (.bool r6)⟩, ⟨(((r2 == 0) && (r3 == 3)) && r5) && (!r6), 15, [.agg (c_TRouter r1), .str (⟨#[101, 49]⟩ : ByteArray)], .pure (.int .i64 r7)⟩, ⟨((((r2 == 0) && (r3 == 3)) && r5) && (!r6)) && (r7 == 1), 23, [.agg (c_TRouter r1), .int .u32 167772417], .pure (.int .i64 r8)⟩] (by kernel_rfl) nil_all ⟨fun _ => model_CheckRouter_ok r1 r2 q3, fun hg => model_CheckRouter_ok (⟨(⟨#[49, 114]⟩ : ByteArray), r1.fAS, r1.fInterfaces, r1.fLists, r1.fMaps, r1.fACLs, r1.fNAT, r1.fStatics, r1.fLS, r1.fDV, r1.fPV⟩ : TRouter) r3 (gc_some q5 hg), fun hg => law5_sample_ok  r4 (gc_some q7 hg), fun hg => model_Same_ok r1 r4 r5 (gc_some q9 hg), fun hg => model_Same_ok r1 (⟨(⟨#[49, 114]⟩ : ByteArray), r1.fAS, r1.fInterfaces, r1.fLists, r1.fMaps, r1.fACLs, r1.fNAT, r1.fStatics, r1.fLS, r1.fDV, r1.fPV⟩ : TRouter) r6 (gc_some q11 hg), fun hg => model_Interface_ok r1 (⟨#[101, 49]⟩ : ByteArray) r7 (gc_some q13 hg), fun hg => model_Address_ok r1 167772417 r8 (gc_some q15 hg), trivial⟩ ?_
  refine then_n ?_
  refine awp_ret ?_
  obtain rfl := Option.some.inj h16
  exact ends_r (.bool ((((((r2 == 0) && (r3 == 3)) && r5) && (!r6)) && (r7 == 1)) && (r8 == 1))) (by kernel_rfl) Sub.rfl

/- netverify/netverifylaw5.ModelLookups -/
noncomputable def M.law5_ModelLookups_l2 (a0 : TNetwork) (p3 : Int) (p16 : Int) : Option (Int ⊕ (Unit ⊕ Bool)) :=
  bif decide (p16 < (((a0.fRouters.getD p3.toNat default).fInterfaces).length : Int)) then (gd [decide (0 ≤ p16), decide (p16 < (((a0.fRouters.getD p3.toNat default).fInterfaces).length : Int))] ((M.model_Interface (a0.fRouters.getD p3.toNat default) ((((a0.fRouters.getD p3.toNat default).fInterfaces).getD p16.toNat default).fName)).bind fun r18 => (M.ref8_Interface (a0.fRouters.getD p3.toNat default) ((((a0.fRouters.getD p3.toNat default).fInterfaces).getD p16.toNat default).fName)).bind fun r19 => (gc (!(r18 != r19)) (M.model_Address (a0.fRouters.getD p3.toNat default) ((((a0.fRouters.getD p3.toNat default).fInterfaces).getD p16.toNat default).fAddr))).bind fun r20 => (gc (!(r18 != r19)) (M.ref8_Address (a0.fRouters.getD p3.toNat default) ((((a0.fRouters.getD p3.toNat default).fInterfaces).getD p16.toNat default).fAddr))).bind fun r21 => bif (r18 != r19) || (r20 != r21) then (some (.inr (.inr false))) else (some (.inl (wr .i64 (p16 + 1)))))) else (some (.inr (.inl ())))
noncomputable def M.law5_ModelLookups_l1 (a0 : TNetwork) (a1 : ByteArray) (a2 : Int) (p3 : Int) : Option (Int ⊕ (Unit ⊕ Bool)) :=
  bif decide (p3 < (a0.fRouters.length : Int)) then (gd [decide (0 ≤ p3), decide (p3 < (a0.fRouters.length : Int))] ((M.law5_Small (a0.fRouters.getD p3.toNat default)).bind fun r5 => bif !r5 then (some (.inr (.inr true))) else ((M.model_Interface (a0.fRouters.getD p3.toNat default) a1).bind fun r6 => (M.ref8_Interface (a0.fRouters.getD p3.toNat default) a1).bind fun r7 => (gc (!(r6 != r7)) (M.model_PrefixList (a0.fRouters.getD p3.toNat default) a1)).bind fun r8 => (gc (!(r6 != r7)) (M.ref8_PrefixList (a0.fRouters.getD p3.toNat default) a1)).bind fun r9 => (gc (!((r6 != r7) || (r8 != r9))) (M.model_RouteMap (a0.fRouters.getD p3.toNat default) a1)).bind fun r10 => (gc (!((r6 != r7) || (r8 != r9))) (M.ref8_RouteMap (a0.fRouters.getD p3.toNat default) a1)).bind fun r11 => (gc (!(((r6 != r7) || (r8 != r9)) || (r10 != r11))) (M.model_ACL (a0.fRouters.getD p3.toNat default) a1)).bind fun r12 => (gc (!(((r6 != r7) || (r8 != r9)) || (r10 != r11))) (M.ref8_ACL (a0.fRouters.getD p3.toNat default) a1)).bind fun r13 => (gc (!((((r6 != r7) || (r8 != r9)) || (r10 != r11)) || (r12 != r13))) (M.model_Address (a0.fRouters.getD p3.toNat default) a2)).bind fun r14 => (gc (!((((r6 != r7) || (r8 != r9)) || (r10 != r11)) || (r12 != r13))) (M.ref8_Address (a0.fRouters.getD p3.toNat default) a2)).bind fun r15 => bif ((((r6 != r7) || (r8 != r9)) || (r10 != r11)) || (r12 != r13)) || (r14 != r15) then (some (.inr (.inr false))) else ((loopM (M.law5_ModelLookups_l2 a0 p3) 0).bind fun y22 => Sum.elim (fun g23 => some (.inl (wr .i64 (p3 + 1)))) (fun y24 => some (.inr (.inr y24))) y22)))) else (some (.inr (.inl ())))
noncomputable def M.law5_ModelLookups (a0 : TNetwork) (a1 : ByteArray) (a2 : Int) : Option Bool :=
  bif (decide ((a0.fRouters.length : Int) > 8)) || (decide ((a1.size : Int) > 40)) then (some true) else ((M.model_Router a0 a1).bind fun r1 => (M.ref8_Router a0 a1).bind fun r2 => bif r1 != r2 then (some false) else ((loopM (M.law5_ModelLookups_l1 a0 a1 a2) 0).bind fun y25 => Sum.elim (fun g26 => (M.law5_sane).bind fun r28 => some r28) (fun y27 => some y27) y25))
theorem law5_ModelLookups_ok (a0 : TNetwork) (a1 : ByteArray) (a2 : Int) (r : Bool) (h : M.law5_ModelLookups a0 a1 a2 = some r) : Fn Try.prog 5 [.agg (c_TNetwork a0), .str a1, .int .u32 a2] (.pure (.bool r)) := by
  unfold M.law5_ModelLookups at h
  refine fn_pure Try.func5 rfl (by kernel_rfl) ?_
  refine awp_seq ?_
  refine awp_reg [] [1, 2, 3] 1 ⟨118, [(1, .str a1), (2, .int .u32 a2), (3, .ref 0 0)], [.box (c_TNetwork a0)]⟩ [] [] (by kernel_rfl) nil_all trivial ?_
  refine then_n ?_
  refine awp_seq ?_
  refine awp_seq ?_
  refine awp_reg [] [1, 2, 3, 19] 1 ⟨118, [(1, .str a1), (2, .int .u32 a2), (3, .ref 0 0), (19, .bool ((decide ((a0.fRouters.length : Int) > 8)) || (decide ((a1.size : Int) > 40))))], [.box (c_TNetwork a0)]⟩ [] [] (by kernel_rfl) nil_all trivial ?_
  refine then_n ?_
  refine awp_cond (b := (decide ((a0.fRouters.length : Int) > 8)) || (decide ((a1.size : Int) > 40))) (by kernel_rfl) (fun b1 => ?_) (fun b1 => ?_)
  · have h2 := cond_t b1 h
    refine awp_seq ?_
    refine awp_reg [] [6] 0 ⟨118, [(6, .bool true)], []⟩ [] [] (by kernel_rfl) nil_all trivial ?_
    refine then_n ?_
    refine awp_ret ?_
    refine then_r ?_
    obtain rfl := Option.some.inj h2
    exact ends_r (.bool true) (by kernel_rfl) Sub.rfl
  · have h3 := cond_f b1 h
    refine awp_skip ?_
    refine then_n ?_
    refine awp_seq ?_
    refine awp_seq ?_
    obtain ⟨r1, q4, h5⟩ := bind_some h3
    obtain ⟨r2, q6, h7⟩ := bind_some h5
    refine awp_reg [.pure (.int .i64 r1), .pure (.int .i64 r2)] [1, 2, 3, 26] 1 ⟨118, [(1, .str a1), (2, .int .u32 a2), (3, .ref 0 0), (26, .bool (r1 != r2))], [.box (c_TNetwork a0)]⟩ [] [⟨true, 13, [.agg (c_TNetwork a0), .str a1], .pure (.int .i64 r1)⟩, ⟨true, 14, [.agg (c_TNetwork a0), .str a1], .pure (.int .i64 r2)⟩] (by kernel_rfl) nil_all ⟨fun _ => model_Router_ok a0 a1 r1 q4, fun _ => ref8_Router_ok a0 a1 r2 q6, trivial⟩ ?_
    refine then_n ?_
    refine awp_cond (b := r1 != r2) (by kernel_rfl) (fun b8 => ?_) (fun b8 => ?_)
    · have h9 := cond_t b8 h7
      refine awp_seq ?_
      refine awp_reg [] [6] 0 ⟨118, [(6, .bool false)], []⟩ [] [] (by kernel_rfl) nil_all trivial ?_
      refine then_n ?_
      refine awp_ret ?_
      refine then_r ?_
      obtain rfl := Option.some.inj h9
      exact ends_r (.bool false) (by kernel_rfl) Sub.rfl
    · have h10 := cond_f b8 h7
      refine awp_skip ?_
      refine then_n ?_
      refine awp_seq ?_
      refine awp_seq ?_
      refine awp_reg [] [1, 2, 3, 7] 1 ⟨118, [(1, .str a1), (2, .int .u32 a2), (3, .ref 0 0), (7, .int .i64 0)], [.box (c_TNetwork a0)]⟩ [] [] (by kernel_rfl) nil_all trivial ?_
      refine then_n ?_
      refine awp_block ?_
      obtain ⟨y25, q71, h72⟩ := bind_some h10
      refine awp_le (s' := ⟨118, [(1, .str a1), (2, .int .u32 a2), (3, .ref 0 0), (7, .int .i64 0)], [.box (c_TNetwork a0)]⟩) (le_rfl) ?_
      refine awp_mono (awp_loop (f := M.law5_ModelLookups_l1 a0 a1 a2) (S := fun (p3 : Int) => ⟨118, [(1, .str a1), (2, .int .u32 a2), (3, .ref 0 0), (7, .int .i64 p3)], [.box (c_TNetwork a0)]⟩) (O := (Sum.elim (fun z => OutE 0 (fun z => ⟨118, [], []⟩) z) (fun z => OutR Try.prog Try.f5 (.bool z)))) ?_ (x := 0) (y := y25) (loopM_iter q71)) ?_
      · intro p3 y4 h11
        unfold M.law5_ModelLookups_l1 at h11
        refine awp_seq ?_
        refine awp_seq ?_
        refine awp_reg [] [1, 2, 3, 7, 31] 1 ⟨118, [(1, .str a1), (2, .int .u32 a2), (3, .ref 0 0), (7, .int .i64 p3), (31, .bool (decide (p3 < (a0.fRouters.length : Int))))], [.box (c_TNetwork a0)]⟩ [] [] (by kernel_rfl) nil_all trivial ?_
        refine then_n ?_
        refine awp_cond (b := decide (p3 < (a0.fRouters.length : Int))) (by kernel_rfl) (fun b12 => ?_) (fun b12 => ?_)
        · have h13 := cond_t b12 h11
          refine awp_skip ?_
          refine then_n ?_
          refine awp_seq ?_
          refine awp_block ?_
          refine awp_seq ?_
          obtain ⟨c15, h16⟩ := gd_some h13
          refine awp_reg [] [1, 2, 3, 7, 8] 2 ⟨118, [(1, .str a1), (2, .int .u32 a2), (3, .ref 0 0), (7, .int .i64 p3), (8, .ref 1 0)], [.box (c_TNetwork a0), .box (c_TRouter (a0.fRouters.getD p3.toNat default))]⟩ [decide (0 ≤ p3), decide (p3 < (a0.fRouters.length : Int))] [] (by kernel_rfl) c15 trivial ?_
          refine then_n ?_
          refine awp_seq ?_
          refine awp_seq ?_
          obtain ⟨r5, q17, h18⟩ := bind_some h16
          refine awp_reg [.pure (.bool r5)] [1, 2, 3, 7, 8, 41] 2 ⟨118, [(1, .str a1), (2, .int .u32 a2), (3, .ref 0 0), (7, .int .i64 p3), (8, .ref 1 0), (41, .bool (!r5))], [.box (c_TNetwork a0), .box (c_TRouter (a0.fRouters.getD p3.toNat default))]⟩ [] [⟨true, 8, [.agg (c_TRouter (a0.fRouters.getD p3.toNat default))], .pure (.bool r5)⟩] (by kernel_rfl) nil_all ⟨fun _ => law5_Small_ok (a0.fRouters.getD p3.toNat default) r5 q17, trivial⟩ ?_
          refine then_n ?_
          refine awp_cond (b := !r5) (by kernel_rfl) (fun b19 => ?_) (fun b19 => ?_)
          · have h20 := cond_t b19 h18
            refine awp_seq ?_
            refine awp_reg [] [6] 0 ⟨118, [(6, .bool true)], []⟩ [] [] (by kernel_rfl) nil_all trivial ?_
            refine then_n ?_
            refine awp_ret ?_
            refine then_r ?_
            refine inb_r ?_
            refine then_r ?_
            obtain rfl := Option.some.inj h20
            exact round_r ⟨rfl, ends_r (.bool true) (by kernel_rfl) Sub.rfl⟩
          · have h21 := cond_f b19 h18
            refine awp_skip ?_
            refine then_n ?_
            refine awp_seq ?_
            refine awp_seq ?_
            obtain ⟨r6, q22, h23⟩ := bind_some h21
            obtain ⟨r7, q24, h25⟩ := bind_some h23
            obtain ⟨r8, q26, h27⟩ := bind_some h25
            obtain ⟨r9, q28, h29⟩ := bind_some h27
            obtain ⟨r10, q30, h31⟩ := bind_some h29
            obtain ⟨r11, q32, h33⟩ := bind_some h31
            obtain ⟨r12, q34, h35⟩ := bind_some h33
            obtain ⟨r13, q36, h37⟩ := bind_some h35
            obtain ⟨r14, q38, h39⟩ := bind_some h37
            obtain ⟨r15, q40, h41⟩ := bind_some h39
            refine awp_reg [.pure (.int .i64 r6), .pure (.int .i64 r7), .pure (.int .i64 r8), .pure (.int .i64 r9), .pure (.int .i64 r10), .pure (.int .i64 r11), .pure (.int .i64 r12), .pure (.int .i64 r13), .pure (.int .i64 r14), .pure (.int .i64 r15)] [1, 2, 3, 7, 8, 84] 2 ⟨118, [(1, .str a1), (2, .int .u32 a2), (3, .ref 0 0), (7, .int .i64 p3), (8, .ref 1 0), (84, .bool (((((r6 != r7) || (r8 != r9)) || (r10 != r11)) || (r12 != r13)) || (r14 != r15)))], [.box (c_TNetwork a0), .box (c_TRouter (a0.fRouters.getD p3.toNat default))]⟩ [] [⟨true, 15, [.agg (c_TRouter (a0.fRouters.getD p3.toNat default)), .str a1], .pure (.int .i64 r6)⟩, ⟨true, 16, [.agg (c_TRouter (a0.fRouters.getD p3.toNat default)), .str a1], .pure (.int .i64 r7)⟩, ⟨(!(r6 != r7)), 17, [.agg (c_TRouter (a0.fRouters.getD p3.toNat default)), .str a1], .pure (.int .i64 r8)⟩, ⟨(!(r6 != r7)), 18, [.agg (c_TRouter (a0.fRouters.getD p3.toNat default)), .str a1], .pure (.int .i64 r9)⟩, ⟨(!((r6 != r7) || (r8 != r9))), 19, [.agg (c_TRouter (a0.fRouters.getD p3.toNat default)), .str a1], .pure (.int .i64 r10)⟩, ⟨(!((r6 != r7) || (r8 != r9))), 20, [.agg (c_TRouter (a0.fRouters.getD p3.toNat default)), .str a1], .pure (.int .i64 r11)⟩, ⟨(!(((r6 != r7) || (r8 != r9)) || (r10 != r11))), 21, [.agg (c_TRouter (a0.fRouters.getD p3.toNat default)), .str a1], .pure (.int .i64 r12)⟩, ⟨(!(((r6 != r7) || (r8 != r9)) || (r10 != r11))), 22, [.agg (c_TRouter (a0.fRouters.getD p3.toNat default)), .str a1], .pure (.int .i64 r13)⟩, ⟨(!((((r6 != r7) || (r8 != r9)) || (r10 != r11)) || (r12 != r13))), 23, [.agg (c_TRouter (a0.fRouters.getD p3.toNat default)), .int .u32 a2], .pure (.int .i64 r14)⟩, ⟨(!((((r6 != r7) || (r8 != r9)) || (r10 != r11)) || (r12 != r13))), 24, [.agg (c_TRouter (a0.fRouters.getD p3.toNat default)), .int .u32 a2], .pure (.int .i64 r15)⟩] (by kernel_rfl) nil_all ⟨fun _ => model_Interface_ok (a0.fRouters.getD p3.toNat default) a1 r6 q22, fun _ => ref8_Interface_ok (a0.fRouters.getD p3.toNat default) a1 r7 q24, fun hg => model_PrefixList_ok (a0.fRouters.getD p3.toNat default) a1 r8 (gc_some q26 hg), fun hg => ref8_PrefixList_ok (a0.fRouters.getD p3.toNat default) a1 r9 (gc_some q28 hg), fun hg => model_RouteMap_ok (a0.fRouters.getD p3.toNat default) a1 r10 (gc_some q30 hg), fun hg => ref8_RouteMap_ok (a0.fRouters.getD p3.toNat default) a1 r11 (gc_some q32 hg), fun hg => model_ACL_ok (a0.fRouters.getD p3.toNat default) a1 r12 (gc_some q34 hg), fun hg => ref8_ACL_ok (a0.fRouters.getD p3.toNat default) a1 r13 (gc_some q36 hg), fun hg => model_Address_ok (a0.fRouters.getD p3.toNat default) a2 r14 (gc_some q38 hg), fun hg => ref8_Address_ok (a0.fRouters.getD p3.toNat default) a2 r15 (gc_some q40 hg), trivial⟩ ?_
            refine then_n ?_
            refine awp_cond (b := ((((r6 != r7) || (r8 != r9)) || (r10 != r11)) || (r12 != r13)) || (r14 != r15)) (by kernel_rfl) (fun b42 => ?_) (fun b42 => ?_)
            · have h43 := cond_t b42 h41
              refine awp_seq ?_
              refine awp_reg [] [6] 0 ⟨118, [(6, .bool false)], []⟩ [] [] (by kernel_rfl) nil_all trivial ?_
              refine then_n ?_
              refine awp_ret ?_
              refine then_r ?_
              refine inb_r ?_
              refine then_r ?_
              obtain rfl := Option.some.inj h43
              exact round_r ⟨rfl, ends_r (.bool false) (by kernel_rfl) Sub.rfl⟩
            · have h44 := cond_f b42 h41
              refine awp_skip ?_
              refine then_n ?_
              refine awp_seq ?_
              refine awp_reg [] [1, 2, 3, 7, 8, 9] 2 ⟨118, [(1, .str a1), (2, .int .u32 a2), (3, .ref 0 0), (7, .int .i64 p3), (8, .ref 1 0), (9, .int .i64 0)], [.box (c_TNetwork a0), .box (c_TRouter (a0.fRouters.getD p3.toNat default))]⟩ [] [] (by kernel_rfl) nil_all trivial ?_
              refine then_n ?_
              refine awp_block ?_
              obtain ⟨y22, q62, h63⟩ := bind_some h44
              refine awp_le (s' := ⟨118, [(1, .str a1), (2, .int .u32 a2), (3, .ref 0 0), (7, .int .i64 p3), (8, .ref 1 0), (9, .int .i64 0)], [.box (c_TNetwork a0), .box (c_TRouter (a0.fRouters.getD p3.toNat default))]⟩) (le_rfl) ?_
              refine awp_mono (awp_loop (f := M.law5_ModelLookups_l2 a0 p3) (S := fun (p16 : Int) => ⟨118, [(1, .str a1), (2, .int .u32 a2), (3, .ref 0 0), (7, .int .i64 p3), (8, .ref 1 0), (9, .int .i64 p16)], [.box (c_TNetwork a0), .box (c_TRouter (a0.fRouters.getD p3.toNat default))]⟩) (O := (Sum.elim (fun z => OutE 2 (fun z => ⟨118, [(1, .str a1), (2, .int .u32 a2), (3, .ref 0 0), (7, .int .i64 p3)], [.box (c_TNetwork a0)]⟩) z) (fun z => OutR Try.prog Try.f5 (.bool z)))) ?_ (x := 0) (y := y22) (loopM_iter q62)) ?_
              · intro p16 y17 h45
                unfold M.law5_ModelLookups_l2 at h45
                refine awp_seq ?_
                refine awp_seq ?_
                refine awp_reg [] [1, 2, 3, 7, 8, 9, 89] 2 ⟨118, [(1, .str a1), (2, .int .u32 a2), (3, .ref 0 0), (7, .int .i64 p3), (8, .ref 1 0), (9, .int .i64 p16), (89, .bool (decide (p16 < (((a0.fRouters.getD p3.toNat default).fInterfaces).length : Int))))], [.box (c_TNetwork a0), .box (c_TRouter (a0.fRouters.getD p3.toNat default))]⟩ [] [] (by kernel_rfl) nil_all trivial ?_
                refine then_n ?_
                refine awp_cond (b := decide (p16 < (((a0.fRouters.getD p3.toNat default).fInterfaces).length : Int))) (by kernel_rfl) (fun b46 => ?_) (fun b46 => ?_)
                · have h47 := cond_t b46 h45
                  refine awp_skip ?_
                  refine then_n ?_
                  refine awp_seq ?_
                  refine awp_block ?_
                  refine awp_seq ?_
                  obtain ⟨c49, h50⟩ := gd_some h47
                  refine awp_reg [] [1, 2, 3, 7, 8, 9, 10] 3 ⟨118, [(1, .str a1), (2, .int .u32 a2), (3, .ref 0 0), (7, .int .i64 p3), (8, .ref 1 0), (9, .int .i64 p16), (10, .ref 2 0)], [.box (c_TNetwork a0), .box (c_TRouter (a0.fRouters.getD p3.toNat default)), .box (c_TInterface (((a0.fRouters.getD p3.toNat default).fInterfaces).getD p16.toNat default))]⟩ [decide (0 ≤ p16), decide (p16 < (((a0.fRouters.getD p3.toNat default).fInterfaces).length : Int))] [] (by kernel_rfl) c49 trivial ?_
                  refine then_n ?_
                  refine awp_seq ?_
                  obtain ⟨r18, q51, h52⟩ := bind_some h50
                  obtain ⟨r19, q53, h54⟩ := bind_some h52
                  obtain ⟨r20, q55, h56⟩ := bind_some h54
                  obtain ⟨r21, q57, h58⟩ := bind_some h56
                  refine awp_reg [.pure (.int .i64 r18), .pure (.int .i64 r19), .pure (.int .i64 r20), .pure (.int .i64 r21)] [1, 2, 3, 7, 8, 9, 116] 2 ⟨118, [(1, .str a1), (2, .int .u32 a2), (3, .ref 0 0), (7, .int .i64 p3), (8, .ref 1 0), (9, .int .i64 p16), (116, .bool ((r18 != r19) || (r20 != r21)))], [.box (c_TNetwork a0), .box (c_TRouter (a0.fRouters.getD p3.toNat default))]⟩ [] [⟨true, 15, [.agg (c_TRouter (a0.fRouters.getD p3.toNat default)), .str ((((a0.fRouters.getD p3.toNat default).fInterfaces).getD p16.toNat default).fName)], .pure (.int .i64 r18)⟩, ⟨true, 16, [.agg (c_TRouter (a0.fRouters.getD p3.toNat default)), .str ((((a0.fRouters.getD p3.toNat default).fInterfaces).getD p16.toNat default).fName)], .pure (.int .i64 r19)⟩, ⟨(!(r18 != r19)), 23, [.agg (c_TRouter (a0.fRouters.getD p3.toNat default)), .int .u32 ((((a0.fRouters.getD p3.toNat default).fInterfaces).getD p16.toNat default).fAddr)], .pure (.int .i64 r20)⟩, ⟨(!(r18 != r19)), 24, [.agg (c_TRouter (a0.fRouters.getD p3.toNat default)), .int .u32 ((((a0.fRouters.getD p3.toNat default).fInterfaces).getD p16.toNat default).fAddr)], .pure (.int .i64 r21)⟩] (by kernel_rfl) nil_all ⟨fun _ => model_Interface_ok (a0.fRouters.getD p3.toNat default) ((((a0.fRouters.getD p3.toNat default).fInterfaces).getD p16.toNat default).fName) r18 q51, fun _ => ref8_Interface_ok (a0.fRouters.getD p3.toNat default) ((((a0.fRouters.getD p3.toNat default).fInterfaces).getD p16.toNat default).fName) r19 q53, fun hg => model_Address_ok (a0.fRouters.getD p3.toNat default) ((((a0.fRouters.getD p3.toNat default).fInterfaces).getD p16.toNat default).fAddr) r20 (gc_some q55 hg), fun hg => ref8_Address_ok (a0.fRouters.getD p3.toNat default) ((((a0.fRouters.getD p3.toNat default).fInterfaces).getD p16.toNat default).fAddr) r21 (gc_some q57 hg), trivial⟩ ?_
                  refine then_n ?_
                  refine awp_cond (b := (r18 != r19) || (r20 != r21)) (by kernel_rfl) (fun b59 => ?_) (fun b59 => ?_)
                  · have h60 := cond_t b59 h58
                    refine awp_seq ?_
                    refine awp_reg [] [6] 0 ⟨118, [(6, .bool false)], []⟩ [] [] (by kernel_rfl) nil_all trivial ?_
                    refine then_n ?_
                    refine awp_ret ?_
                    refine inb_r ?_
                    refine then_r ?_
                    obtain rfl := Option.some.inj h60
                    exact round_r ⟨rfl, ends_r (.bool false) (by kernel_rfl) Sub.rfl⟩
                  · have h61 := cond_f b59 h58
                    refine awp_skip ?_
                    refine inb_n ?_
                    refine then_n ?_
                    refine awp_reg [] [1, 2, 3, 7, 8, 9] 2 ⟨118, [(1, .str a1), (2, .int .u32 a2), (3, .ref 0 0), (7, .int .i64 p3), (8, .ref 1 0), (9, .int .i64 (wr .i64 (p16 + 1)))], [.box (c_TNetwork a0), .box (c_TRouter (a0.fRouters.getD p3.toNat default))]⟩ [] [] (by kernel_rfl) nil_all trivial ?_
                    obtain rfl := Option.some.inj h61
                    exact round_n (le_rfl)
                · have h48 := cond_f b46 h45
                  refine awp_exit ?_
                  refine then_e ?_
                  obtain rfl := Option.some.inj h48
                  exact round_e ⟨rfl, Le.trans (s' := ⟨118, [(1, .str a1), (2, .int .u32 a2), (3, .ref 0 0), (7, .int .i64 p3)], [.box (c_TNetwork a0), .box (c_TRouter (a0.fRouters.getD p3.toNat default))]⟩) (le_keep' [1, 2, 3, 7] (by kernel_rfl)) (le_cut (n := 1) (by kernel_rfl))⟩
              · intro e64 s65 o66
                rcases y22 with g23 | y24
                · have h67 := elim_l h63
                  obtain ⟨rfl, l69⟩ := o66
                  refine inb_here ?_
                  refine inb_n ?_
                  refine then_le (s' := ⟨118, [(1, .str a1), (2, .int .u32 a2), (3, .ref 0 0), (7, .int .i64 p3)], [.box (c_TNetwork a0)]⟩) (l69) ?_
                  refine awp_reg [] [1, 2, 3, 7] 1 ⟨118, [(1, .str a1), (2, .int .u32 a2), (3, .ref 0 0), (7, .int .i64 (wr .i64 (p3 + 1)))], [.box (c_TNetwork a0)]⟩ [] [] (by kernel_rfl) nil_all trivial ?_
                  obtain rfl := Option.some.inj h67
                  exact round_n (le_rfl)
                · have h68 := elim_r h63
                  obtain ⟨rfl, n70⟩ := o66
                  refine inb_r ?_
                  refine inb_r ?_
                  refine then_r ?_
                  obtain rfl := Option.some.inj h68
                  exact round_r ⟨rfl, n70⟩
        · have h14 := cond_f b12 h11
          refine awp_exit ?_
          refine then_e ?_
          obtain rfl := Option.some.inj h14
          exact round_e ⟨rfl, Le.trans (s' := ⟨118, [], [.box (c_TNetwork a0)]⟩) (le_keep' [] (by kernel_rfl)) (le_cut (n := 0) (by kernel_rfl))⟩
      · intro e73 s74 o75
        rcases y25 with g26 | y27
        · have h76 := elim_l h72
          obtain ⟨rfl, l78⟩ := o75
          refine inb_here ?_
          refine then_le (s' := ⟨118, [], []⟩) (l78) ?_
          refine awp_seq ?_
          obtain ⟨r28, q79, h80⟩ := bind_some h76
          refine awp_reg [.pure (.bool r28)] [6] 0 ⟨118, [(6, .bool r28)], []⟩ [] [⟨true, 10, [], .pure (.bool r28)⟩] (by kernel_rfl) nil_all ⟨fun _ => law5_sane_ok  r28 q79, trivial⟩ ?_
          refine then_n ?_
          refine awp_ret ?_
          obtain rfl := Option.some.inj h80
          exact ends_r (.bool r28) (by kernel_rfl) Sub.rfl
        · have h77 := elim_r h72
          obtain ⟨rfl, n81⟩ := o75
          refine inb_r ?_
          refine then_r ?_
          obtain rfl := Option.some.inj h77
          exact n81
end Nv
