/- Routes of one prefix merged: the program's. No condition. -/
import Derived.Test.YtkonldpliejgpaaNvH3
set_option maxRecDepth 10000
namespace Nv
open Go Go.Sort Go.Proofs
def tp (b : TRoute) : Int × Int × Int × Int × Int × Int × Int × Int × Int × (List Int) × Int × Int × (List THop) × Bool :=
  (b.fPrefix.fAddr, b.fPrefix.fLen, b.fProto, b.fClass, b.fAdmin, b.fMetric, b.fInner, b.fTag, b.fPref, b.fPath, b.fFrom, b.fNext, b.fHops, b.fDiscard)
def tpi (b : TRoute) (i : Int) : Int × Int × Int × Int × Int × Int × Int × Int × Int × (List Int) × Int × Int × (List THop) × Bool × Int :=
  (b.fPrefix.fAddr, b.fPrefix.fLen, b.fProto, b.fClass, b.fAdmin, b.fMetric, b.fInner, b.fTag, b.fPref, b.fPath, b.fFrom, b.fNext, b.fHops, b.fDiscard, i)
theorem rget_mem {l : List TRoute} {i : Nat} (hi : i < l.length) : l.getD i default ∈ l := by rw [List.getD_eq_getElem?_getD, List.getElem?_eq_getElem hi]; exact List.getElem_mem hi
noncomputable def bst (b x : TRoute) : TRoute := bif decide (S.route_Prefer x b < 0) then x else b
noncomputable def bestOf (g : List TRoute) : TRoute := (g.drop 1).foldl bst (g.getD 0 default)
noncomputable def hopsOf (b : TRoute) (g : List TRoute) : List THop := (g.filter fun x => S.route_Prefer x b == 0).flatMap (·.fHops)
noncomputable def mo (g : List TRoute) : TRoute := { bestOf g with fHops := hset (hopsOf (bestOf g) g) }
theorem bst_mem {b x : TRoute} {g : List TRoute} (hb : b ∈ g) (hx : x ∈ g) : bst b x ∈ g := by
  unfold bst; cases decide (S.route_Prefer x b < 0) <;> assumption
theorem fold_mem {g : List TRoute} : ∀ {l : List TRoute} {b : TRoute}, b ∈ g → (∀ x ∈ l, x ∈ g) → l.foldl bst b ∈ g
  | [], _, h, _ => h
  | x :: l, b, h, k => fold_mem (l := l) (bst_mem h (k x List.mem_cons_self)) fun y hy => k y (List.mem_cons_of_mem _ hy)
theorem bestOf_mem {g : List TRoute} (h : g ≠ []) : bestOf g ∈ g :=
  fold_mem (rget_mem (List.length_pos_iff.2 h)) fun _ hx => List.mem_of_mem_drop hx
theorem mo_l1_eq (g : List TRoute) (b : TRoute) (i : Int) : M.route_mergeOne_l1 g (tpi b i) =
    bif decide (i < ((g.length - 1 : Nat) : Int)) then (gd [decide (0 ≤ i), decide (i < (((g.drop 1).take (g.length - 1)).length : Int))] ((M.route_Prefer (((g.drop 1).take (g.length - 1)).getD i.toNat default) b).bind fun r4 => bif decide (r4 < 0) then some (.inl (tpi (((g.drop 1).take (g.length - 1)).getD i.toNat default) (wr .i64 (i + 1)))) else some (.inl (tpi b (wr .i64 (i + 1)))))) else some (.inr (tp b)) := rfl
theorem mo_l1 {g : List TRoute} (hl : g.length ≤ 100000) (hL : ∀ x ∈ g, L_TRoute x) : ∀ (n i : Nat) (b : TRoute), i + n = g.length - 1 → b ∈ g → Iter (M.route_mergeOne_l1 g) (tpi b (i : Int)) (tp ((g.drop (i + 1)).foldl bst b)) := by
  intro n
  induction n with
  | zero =>
    intro i b h1 h2
    have : 0 < g.length := List.length_pos_iff.2 (fun e => by rw [e] at h2; cases h2)
    rw [List.drop_eq_nil_of_le (by omega)]
    refine .out ?_
    rw [mo_l1_eq, show decide ((i : Int) < ((g.length - 1 : Nat) : Int)) = false from decide_eq_false (by omega)]
    rfl
  | succ n ih =>
    intro i b h1 h2
    have hup : wr .i64 ((i : Int) + 1) = ((i + 1 : Nat) : Int) := by rw [wrN (by omega) (by omega)]; omega
    have hi : i + 1 < g.length := by omega
    have hlen : ((g.drop 1).take (g.length - 1)).length = g.length - 1 := by rw [List.length_take, List.length_drop]; omega
    have hx : ((g.drop 1).take (g.length - 1)).getD i default = g.getD (i + 1) default := by
      rw [List.take_of_length_le (by rw [List.length_drop]; exact Nat.le_refl _), List.getD_eq_getElem?_getD, List.getElem?_drop, ← List.getD_eq_getElem?_getD, Nat.add_comm]
    have hm := rget_mem hi
    have hd : g.drop (i + 1) = g.getD (i + 1) default :: g.drop (i + 1 + 1) := by rw [List.drop_eq_getElem_cons hi]; simp [hi]
    rw [hd, List.foldl_cons]
    refine .next (x' := tpi (bst b (g.getD (i + 1) default)) ((i + 1 : Nat) : Int)) ?_ (ih (i + 1) _ (by omega) (bst_mem h2 hm))
    rw [mo_l1_eq]
    simp only [Int.toNat_natCast, hup, hx, hlen]
    rw [show decide ((i : Int) < ((g.length - 1 : Nat) : Int)) = true from decide_eq_true (by omega), cond_true, show decide (0 ≤ (i : Int)) = true from decide_eq_true (by omega), gdT (by simp), s_route_Prefer _ _ (hL _ hm) (hL _ h2), Option.bind_some]
    unfold bst
    cases decide (S.route_Prefer (g.getD (i + 1) default) b < 0) <;> rfl
theorem mo_l2_eq (g : List TRoute) (b : TRoute) (acc : List THop) (i : Int) : M.route_mergeOne_l2 g (tp b) (acc, i) =
    bif decide (i < (g.length : Int)) then (gd [decide (0 ≤ i), decide (i < (g.length : Int))] ((M.route_Prefer (g.getD i.toNat default) b).bind fun r9 => bif r9 == 0 then (gd [decide ((acc.length + (((g.getD i.toNat default).fHops).length)) * 16 ≤ 140737488355328)] (some (.inl (acc ++ (g.getD i.toNat default).fHops, wr .i64 (i + 1))))) else (some (.inl (acc, wr .i64 (i + 1)))))) else (some (.inr acc)) := rfl
theorem mo_l2 {g : List TRoute} (hl : g.length ≤ 1000) (hL : ∀ x ∈ g, L_TRoute x) (hh : ∀ x ∈ g, x.fHops.length ≤ 1000) {b : TRoute} (hb : b ∈ g) : ∀ (n i : Nat) (acc : List THop), i + n = g.length → acc.length ≤ i * 1000 →
    Iter (M.route_mergeOne_l2 g (tp b)) (acc, (i : Int)) (acc ++ hopsOf b (g.drop i)) := by
  intro n
  induction n with
  | zero =>
    intro i acc h1 h2
    rw [List.drop_eq_nil_of_le (by omega), show hopsOf b [] = [] from rfl, List.append_nil]
    refine .out ?_
    rw [mo_l2_eq, show decide ((i : Int) < (g.length : Int)) = false from decide_eq_false (by omega)]
    rfl
  | succ n ih =>
    intro i acc h1 h2
    have hup : wr .i64 ((i : Int) + 1) = ((i + 1 : Nat) : Int) := by rw [wrN (by omega) (by omega)]; omega
    have hi : i < g.length := by omega
    have hm := rget_mem hi
    have hx := hh _ hm
    have hd : g.drop i = g.getD i default :: g.drop (i + 1) := by rw [List.drop_eq_getElem_cons hi]; simp [hi]
    have st : M.route_mergeOne_l2 g (tp b) (acc, (i : Int)) = bif S.route_Prefer (g.getD i default) b == 0 then some (.inl (acc ++ (g.getD i default).fHops, ((i + 1 : Nat) : Int))) else some (.inl (acc, ((i + 1 : Nat) : Int))) := by
      rw [mo_l2_eq]
      simp only [Int.toNat_natCast, hup]
      rw [show decide ((i : Int) < (g.length : Int)) = true from decide_eq_true (by omega), cond_true, show decide (0 ≤ (i : Int)) = true from decide_eq_true (by omega), gdT (by simp), s_route_Prefer _ _ (hL _ hm) (hL _ hb), Option.bind_some]
      congr 1
      rw [show decide ((acc.length + (g.getD i default).fHops.length) * 16 ≤ 140737488355328) = true from decide_eq_true (by omega), gdT (by simp)]
    rw [hd]
    cases hc : S.route_Prefer (g.getD i default) b == 0 with
    | true =>
      rw [hc] at st
      have e : hopsOf b (g.getD i default :: g.drop (i + 1)) = (g.getD i default).fHops ++ hopsOf b (g.drop (i + 1)) := by
        unfold hopsOf
        rw [List.filter_cons_of_pos (p := fun x => S.route_Prefer x b == 0) hc, List.flatMap_cons]
      rw [e, ← List.append_assoc]
      exact .next st (ih (i + 1) _ (by omega) (by rw [List.length_append]; omega))
    | false =>
      rw [hc] at st
      have e : hopsOf b (g.getD i default :: g.drop (i + 1)) = hopsOf b (g.drop (i + 1)) := by
        unfold hopsOf
        rw [List.filter_cons_of_neg (p := fun x => S.route_Prefer x b == 0) (by rw [hc]; exact Bool.false_ne_true)]
      rw [e]
      exact .next st (ih (i + 1) _ (by omega) (by omega))
theorem hopsOf_len {b : TRoute} : ∀ {g : List TRoute}, (∀ x ∈ g, x.fHops.length ≤ 1000) → (hopsOf b g).length ≤ g.length * 1000
  | [], _ => by simp [hopsOf]
  | x :: g, h => by
    have h1 := hopsOf_len (b := b) (g := g) fun y hy => h y (List.mem_cons_of_mem _ hy)
    have h2 := h x List.mem_cons_self
    unfold hopsOf at h1 ⊢
    rw [List.length_cons]
    cases hc : S.route_Prefer x b == 0 with
    | true => rw [List.filter_cons_of_pos (p := fun x => S.route_Prefer x b == 0) hc, List.flatMap_cons, List.length_append]; omega
    | false => rw [List.filter_cons_of_neg (p := fun x => S.route_Prefer x b == 0) (by rw [hc]; exact Bool.false_ne_true)]; omega
theorem mergeOne_eq {g : List TRoute} (hg : g ≠ []) (hl : g.length ≤ 100) (hL : ∀ x ∈ g, L_TRoute x) (hh : ∀ x ∈ g, x.fHops.length ≤ 1000) (hp : ∀ x ∈ g, x.fPath.length ≤ 1000) : M.route_mergeOne g = some (mo g) := by
  have h0 : 0 < g.length := List.length_pos_iff.2 hg
  have hb := bestOf_mem hg
  have i1 := mo_l1 (by omega) hL (g.length - 1) 0 (g.getD 0 default) (Nat.zero_add _) (rget_mem h0)
  have i2 := mo_l2 (by omega) hL hh hb g.length 0 [] (Nat.zero_add _) (by simp)
  rw [List.drop_zero, List.nil_append] at i2
  have hlen := hopsOf_len (b := bestOf g) hh
  obtain ⟨q1, _, _⟩ := sortP_ok hcf_swo (hopsOf (bestOf g) g)
  obtain ⟨l', m, c1, c2, c3, c4⟩ := compact_eq (l := sortP hcf (hopsOf (bestOf g) g)) (by omega)
  have hpb := hp _ hb
  have un : M.route_mergeOne g = gd [decide (0 ≤ 0), decide (0 < (g.length : Int))] (gd [decide (0 ≤ 1), decide (1 ≤ (g.length : Int))] ((loopM (M.route_mergeOne_l1 g) (tpi (g.getD 0 default) 0)).bind fun y5 => (loopM (M.route_mergeOne_l2 g y5) (([] : List THop), 0)).bind fun y10 => (M.slices_SortFunc_api_Hop_api_Hop__route_compareHops y10).bind fun r11 => gd [decide (r11.length = y10.length)] ((M.slices_Compact_api_Hop_api_Hop r11).bind fun r12 => gd [decide (r12.1.length = r11.length), decide (r12.2 ≤ r12.1.length)] ((M.slices_Clone_int_int y5.2.2.2.2.2.2.2.2.2.1).bind fun r13 => some (⟨(⟨y5.1, y5.2.1⟩ : TPrefix), y5.2.2.1, y5.2.2.2.1, y5.2.2.2.2.1, y5.2.2.2.2.2.1, y5.2.2.2.2.2.2.1, y5.2.2.2.2.2.2.2.1, y5.2.2.2.2.2.2.2.2.1, r13, y5.2.2.2.2.2.2.2.2.2.2.1, y5.2.2.2.2.2.2.2.2.2.2.2.1, (r12.1.take r12.2), y5.2.2.2.2.2.2.2.2.2.2.2.2.2⟩ : TRoute))))) := rfl
  rw [un, gdT (by simp; omega), gdT (by simp; omega)]
  refine Option.bind_eq_some_iff.2 ⟨tp (bestOf g), loopM_of i1, ?_⟩
  refine Option.bind_eq_some_iff.2 ⟨hopsOf (bestOf g) g, loopM_of i2, ?_⟩
  refine Option.bind_eq_some_iff.2 ⟨sortP hcf (hopsOf (bestOf g) g), sortM_eq s_route_compareHops hcf_swo (by omega), ?_⟩
  rw [gdT (by simp [q1])]
  refine Option.bind_eq_some_iff.2 ⟨(l', m), c1, ?_⟩
  rw [gdT (by simp [c2]; omega)]
  refine Option.bind_eq_some_iff.2 ⟨(bestOf g).fPath, ?_, ?_⟩
  · unfold M.slices_Clone_int_int
    show gd _ (some (bestOf g).fPath) = _
    rw [gdT (by simp [tp]; omega)]
  · simp only [c4]
    rfl
end Nv
