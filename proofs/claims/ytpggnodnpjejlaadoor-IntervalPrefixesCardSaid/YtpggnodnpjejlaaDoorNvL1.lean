/- The law IntervalPrefixes of the given program: for every input the call returns true, and each argument reads behind the call as it read before. No condition. -/
import Derived.Test.YtpggnodnpjejlaaDoorRows
import Derived.Test.YtpggnodnpjejlaaDoorNvM1
import Derived.Test.YtpggnodnpjejlaaDoorNvW1
import Derived.Test.YtpggnodnpjejlaaDoorNvP1
import Derived.Test.YtpggnodnpjejlaaDoorTie
import Derived.Test.YtpggnodnpjejlaaDoorCards
import Derived.SizedLaws
import Derived.WalkKit
import Derived.ProofKit
import Derived.OpenShut
import Derived.ShutString
import Derived.ChangeOld
import Derived.Below
import Derived.LaidMore
import Derived.Lay
import Derived.SevenTiedAt
import Derived.Stop.Joined
namespace Go.Proofs.YtpggnodnpjejlaaDoor.intervalPrefixes
open Go.ChangeShapes Go.WideShapes Go.ChangeAt Go.RowKit Nv
open Go.ChangeMaps (open_string shut_string)
theorem own : ownKnob Tryd.prog.godebug = none := by kernel_rfl
theorem laidOut : laidOutB Tryd.prog = true := by kernel_rfl
abbrev laid : List (String × DataW Unit) := [("math/bits.deBruijn64tab", Rows.laid_math_bits_deBruijn64tab)]
theorem one_tab : (match Tryd.prog.globalNamed "math/bits.deBruijn64tab" with | some g => ((List.range Tryd.prog.globals.size).all fun i => !tabG Tryd.prog i || i == g) && ((Tryd.prog.globals[g]?).map (·.type) == some 55) | none => false) = true := by kernel_rfl
theorem tab_data : (Rows.laid_math_bits_deBruijn64tab : DataW Unit) = .agg (Lib.deBruijn64tab.map fun (n : Nat) => .lit (.int .u8 (n : Int))) := by kernel_rfl
theorem gt_laid {W : World} (h : laidMetH Tryd.prog laid W) : GT Tryd.prog W := by
  rw [MakeChecks.laidMetH_plain _ _ _ (by kernel_rfl)] at h
  obtain ⟨ps, ⟨g, t, cs, fuel, p, q, hg, ht, hv, hd, _, _⟩, _, _⟩ := h
  have ho := one_tab
  rw [hg] at ho
  simp only [ht, Bool.and_eq_true, beq_iff_eq, Option.some.injEq] at ho
  obtain ⟨h1, rfl⟩ := ho
  rw [tab_data] at hd
  obtain ⟨xs, m, _, ex, _, hl, hel⟩ := DataW.trod_array Tryd.underlying55 hd
  have c5 : Tryd.prog.cellsOf 5 = 1 := by kernel_rfl
  have hlen : Lib.deBruijn64tab.length = 64 := by kernel_rfl
  have e3 : (xs.map (·.1)) = Lib.deBruijn64tab.map fun (n : Nat) => .lit (.int .u8 (n : Int)) := (DataW.agg.inj (Prod.mk.inj ex).1).symm
  intro i hi r hr
  have hb : i < Tryd.prog.globals.size := by
    rcases Nat.lt_or_ge i Tryd.prog.globals.size with h | h
    · exact h
    · unfold tabG at hi; rw [Array.getElem?_eq_none h] at hi; cases hi
  have h2 := List.all_eq_true.1 h1 i (List.mem_range.2 hb)
  rw [hi, Bool.not_true, Bool.false_or, beq_iff_eq] at h2
  subst h2
  have hE := hel r hr
  rw [c5, Nat.mul_one, List.getElem?_eq_getElem (by omega)] at hE
  obtain ⟨z, e1, e2, _⟩ := DataW.trod_int Tryd.underlying5 hE
  have e4 : (xs.map (·.1))[r]? = (Lib.deBruijn64tab.map fun (n : Nat) => (DataW.lit (.int .u8 (n : Int)) : DataW Unit))[r]? := by rw [e3]
  rw [List.getElem?_map, List.getElem?_map, List.getElem?_eq_getElem (by omega : r < xs.length), List.getElem?_eq_getElem (by omega : r < Lib.deBruijn64tab.length), e2] at e4
  have hz : z = ((Lib.deBruijn64tab.getD r 0 : Nat) : Int) := by
    simp only [Option.map_some, Option.some.injEq, DataW.lit.injEq, Lit.int.injEq, true_and] at e4
    rw [e4, List.getD, List.getElem?_eq_getElem (by omega : r < Lib.deBruijn64tab.length)]; rfl
  rw [World.var?_cell hg hv r, ← hz]
  have : cs.toList[r]? = some (.int .u8 z) := by
    have h0 : ((cs.toList.drop r).take 1)[0]? = some (.int .u8 z) := by rw [e1]; rfl
    simpa using h0
  simpa using this
set_option maxRecDepth 100000 in
theorem lifted (os : Os) (started : os.Started) (H : Type) (enc : TypeId × Value → H) :
    ReturnsInHanded {} Tryd.checked os 3 .any (fun w args => (Rows.intervalPrefixesSpec.pre enc Tryd.prog Tryd.f3 Rows.intervalPrefixesRow.domain false w args ∧ laidMetH Tryd.prog laid w) ∧ sizedMet enc Tryd.prog Tryd.f3 (OpenSpec.ofChange Rows.intervalPrefixesSpec) false w args) (Rows.intervalPrefixesSpec.post enc Tryd.prog Tryd.f3 false true false false) := by
  refine returnsInHanded_of_change_and (C := Tryd.checked) (X := fun w _ => laidMetH Tryd.prog laid w) (fun _ _ _ hh h => h.of_heap hh) own started (by kernel_rfl) Tryd.func3
    (ChangeSpec.witness_shaped (enc := enc) (C := Tryd.checked) (os := os) (X := fun w _ => laidMetH Tryd.prog laid w) false (World.laidAll Tryd.prog os laid) #[.slice none 0 0, .int .u32 0] 8 (World.laidAll_os _ _ _)
      (World.shaped_of_ZipB (by kernel_rfl) (by kernel_rfl)) (by kernel_rfl) (by kernel_rfl) (by kernel_rfl)
      (by rw [MakeChecks.laidMetH_plain _ _ _ (by kernel_rfl)]; exact laidMet_laidAll _ (by kernel_rfl) (by kernel_rfl))) ?_
  intro W base args ds gs before hval0 hW hcnd hwt0 hL _
  have hval : ∀ (j : Nat) t v, Tryd.f3.params[j]? = some t → args[j]? = some v → Value.okWide Tryd.prog W .any base t v := hval0
  have hW' := hW
  obtain ⟨p, q, hA0, hV, rfl, hfz, hnd⟩ := hW
  have hA : DataW.TrodAll enc Tryd.prog W 0 (fun _ => true) true Tryd.f3.params.toList args.toList ds p := hA0
  have hwt : ∀ (j : Nat) t d, Tryd.f3.params.toList[j]? = some t → ds[j]? = some d → Szd Tryd.prog t d := fun j t d h1 h2 n hn => of_decide_eq_true (List.all_eq_true.1 hwt0 n (DataW.weights_mem_each (j := j) (List.getElem?_append_left (List.getElem?_eq_some_iff.1 h1).1 ▸ h1) (List.getElem?_append_left (List.getElem?_eq_some_iff.1 h2).1 ▸ h2) n hn))
  rw [Tryd.params3] at hA hval hwt
  obtain ⟨v0, vs0, d0, ds0, p0, q0, hargs, rfl, rfl, h0, r0⟩ := trodAll_cons hA
  obtain ⟨v1, vs1, d1, ds1, p1, q1, rfl, rfl, rfl, h1, r1⟩ := trodAll_cons r0
  obtain ⟨rfl, rfl, rfl⟩ := trodAll_nil r1
  obtain rfl : args = #[v0, v1] := by cases args; simp_all
  obtain ⟨rfl, rfl⟩ := trodVars_none hV
  have k0 := h0
  have lt0 : ∀ x ∈ p0, x.block < W.heap.size := by obtain ⟨m, hm⟩ := k0; exact DataW.trod_lt m _ _ _ hm
  obtain ⟨a0, w0, av0⟩ := arg_one (dd := fun x => sL 2 c_TInterval x) (opens_slice (wd := 2) (by' := 8) Tryd.underlying22 (by kernel_rfl) (by kernel_rfl) (by decide) (open_t45 enc W)) (fun _ => rfl) h0 (hwt 0 _ _ rfl rfl) (by obtain ⟨_, _, _, hx⟩ := okWide_slice Tryd.underlying22 (hval 0 22 v0 rfl rfl); intro cs e; rw [hx] at e; cases e)
  have k1 := h1
  have lt1 : ∀ x ∈ p1, x.block < W.heap.size := by obtain ⟨m, hm⟩ := k1; exact DataW.trod_lt m _ _ _ hm
  obtain ⟨a1, w1, av1⟩ := arg_one (dd := fun x => .int .u32 x) (opens_int Tryd.underlying23) (fun _ => rfl) h1 (hwt 1 _ _ rfl rfl) (by obtain ⟨_, hx, _⟩ := open_int Tryd.underlying23 (hval 1 23 v1 rfl rfl) h1; intro cs e; rw [hx] at e; cases e)
  clear hA0 hval0
  refine (law_calls (law3_IntervalPrefixes_ok a0 a1 true (plain_IntervalPrefixes a0 a1 w0 w1)) (gt_laid hL) (vs_av_cons av0 (vs_av_cons av1 vs_av_nil))).mono fun e W' ⟨he, bel⟩ => ?_
  subst he
  exact ⟨_, rfl, _, _, _, [], _, [], hW', trodAll_mk1 (shut_bool Tryd.underlying4 _), (trodAll_cons_mk (Below.trod laidOut (by kernel_rfl) (of_decide_eq_true (by kernel_rfl)) k0 bel lt0) (trodAll_cons_mk (Below.trod laidOut (by kernel_rfl) (of_decide_eq_true (by kernel_rfl)) k1 bel lt1) trodAll_mk0)), rfl, bel.frame _, fun h => by cases h⟩
theorem over : Rows.intervalPrefixesRow.holds Tryd.pinned (OpenSpec.ofChange Rows.intervalPrefixesSpec) :=
  OpenClaim.holds_of_wide 3 Tryd.f3 rfl rfl rfl rfl rfl rfl rfl ⟨rfl, rfl, rfl, rfl, rfl⟩ rfl rfl rfl rfl rfl (by kernel_rfl) Tryd.func3 (by kernel_rfl)
    (of_decide_eq_true (by kernel_rfl)) (by unfold Func.isWrapper; first | (rw [if_pos (by decide +kernel)]; kernel_rfl) | (rw [if_neg (by decide +kernel)]; exact ⟨rfl, rfl⟩))
    (fun os started H enc _ => lifted os started H enc)
theorem proved : Rows.IntervalPrefixesCardSaid :=
  Claim7.holds_tied_plain_at .later [] [.data] true (true, "acff87b95aee9710bb573ac82724f33d9dee4d7bd0678eb755925edf2cd95327") false
    over (fun _ h => by cases h) (by kernel_rfl) (fun _ h => by cases h) intervalPrefixes_row_tie rfl ⟨rfl, rfl⟩ (by kernel_rfl) rfl
    (fun f fn hf hfn => by
      obtain rfl : f = 3 := Option.some.inj ((show Tryd.prog.funcNamed "netverify/netverifylaw3.IntervalPrefixes" = some 3 by kernel_rfl).symm.trans hf) |>.symm
      obtain rfl : fn = Tryd.f3 := (Option.some.inj (Tryd.func3.symm.trans hfn)).symm
      exact ⟨by kernel_rfl, fun j t ht => by
        rw [Tryd.params3] at ht
        rcases j with _ | j
        · obtain rfl : t = 22 := by simpa using ht.symm
          exact (show Tryd.prog.wantsStandIn 22 = false by kernel_rfl)
        rcases j with _ | j
        · obtain rfl : t = 23 := by simpa using ht.symm
          exact (show Tryd.prog.wantsStandIn 23 = false by kernel_rfl)
        simp at ht⟩)
    (by kernel_rfl)
#print axioms proved
end Go.Proofs.YtpggnodnpjejlaaDoor.intervalPrefixes
