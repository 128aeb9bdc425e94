/- The program's topology: collected, sorted, with its links. No condition but the bounds of what comes in. -/
import Derived.Test.YtaienbkgekjdnaaGreatNvTo1
import Derived.Test.YtaienbkgekjdnaaGreatNvTs
import Derived.Test.YtaienbkgekjdnaaGreatNvT1
import Derived.Test.YtaienbkgekjdnaaGreatNvLibC
set_option maxRecDepth 100000
namespace Nv
open Go Go.Sort Go.Proofs
theorem net_m (a n : Int) : M.addr_Network a n = some (netP a n) := by
  rw [s_addr_Network]
  rfl
def tkey (d : TDomain) : TdomainKey := ⟨d.fPrefix, d.fVLAN⟩
def kof (k : TdomainKey) : DKey := (k.fprefix.fAddr, k.fprefix.fLen, k.fvlan)
theorem topoKeyEq_iff (a b : TdomainKey) : topoKeyEq a b = decide (kof a = kof b) := by
  rw [Bool.eq_iff_iff, decide_eq_true_eq]
  unfold topoKeyEq kof
  simp only [Bool.and_true, Bool.and_eq_true, beq_iff_eq, Prod.mk.injEq]
  exact ⟨fun ⟨⟨h1, h2⟩, h3⟩ => ⟨h1, h2, h3⟩, fun ⟨h1, h2, h3⟩ => ⟨⟨h1, h2⟩, h3⟩⟩
def ix : Nat → List TDomain → List (TdomainKey × Int)
  | _, [] => []
  | o, d :: l => (tkey d, (o : Int)) :: ix (o + 1) l
theorem ix_app : ∀ (o : Nat) (l : List TDomain) (d : TDomain), ix o (l ++ [d]) = ix o l ++ [(tkey d, ((o + l.length : Nat) : Int))]
  | o, [], d => by simp [ix]
  | o, c :: l, d => by
    simp only [List.cons_append, ix, ix_app (o + 1) l d, List.length_cons]
    rw [show o + 1 + l.length = o + (l.length + 1) by omega]
theorem ix_key : ∀ (o : Nat) (l m : List TDomain), l.map tkey = m.map tkey → ix o l = ix o m
  | _, [], [], _ => rfl
  | _, [], _ :: _, h => by cases h
  | _, _ :: _, [], h => by cases h
  | o, c :: l, d :: m, h => by
    simp only [List.map_cons, List.cons.injEq] at h
    simp only [ix, h.1, ix_key (o + 1) l m h.2]
theorem ix_set (o : Nat) (D : List TDomain) (j : Nat) (d : TDomain) (hd : tkey d = tkey (D.getD j default)) : ix o (D.set j d) = ix o D := by
  apply ix_key
  rw [List.map_set]
  apply List.ext_getElem (by simp)
  intro i h1 h2
  rw [List.getElem_set]
  split
  · rename_i hi; subst hi
    have hj : j < D.length := by simpa using h2
    rw [hd, List.getD_eq_getElem?_getD, List.getElem?_eq_getElem hj]; simp
  · rfl
theorem lk_ix (k : TdomainKey) : ∀ (D : List TDomain) (o : Nat), ((∀ d ∈ D, dkey d ≠ kof k) ∧ (lkM (topoKeyEq k) (ix o D)).2 = false) ∨ ∃ j, j < D.length ∧ dkey (D.getD j default) = kof k ∧ lkM (topoKeyEq k) (ix o D) = (((o + j : Nat) : Int), true)
  | [], o => .inl ⟨fun _ h => absurd h List.not_mem_nil, rfl⟩
  | d :: l, o => by
    have hq : topoKeyEq k (tkey d) = decide (kof k = dkey d) := topoKeyEq_iff _ _
    by_cases h : kof k = dkey d
    · right
      refine ⟨0, by simp, h.symm, ?_⟩
      simp only [ix, lkM, hq, h, decide_true, cond_true]
      rfl
    · simp only [ix, lkM, hq, decide_eq_false h, cond_false]
      rcases lk_ix k l (o + 1) with ⟨h1, h2⟩ | ⟨j, h1, h2, h3⟩
      · left
        refine ⟨fun c hc => ?_, h2⟩
        rcases List.mem_cons.1 hc with rfl | hc
        · exact fun hh => h hh.symm
        · exact h1 c hc
      · right
        refine ⟨j + 1, by simp; omega, by simpa using h2, ?_⟩
        rw [h3, show o + 1 + j = o + (j + 1) by omega]
section
variable {a0 : TNetwork}
theorem collect_k {r i : Nat} {D : List TDomain} {its : List DItem} (hD : Grp its D) {j : Nat} (hj : j < D.length) (hb : its.length ≤ 1000) (hi : i ≤ 1000) (p : List TDomain × List (TdomainKey × Int)) (ixs : List (TdomainKey × Int)) :
    M.topo_collect_k (r : Int) (p.1, p.2, (i : Int)) (D, ixs, (j : Int)) = some (.inl (D.set j ⟨(D.getD j default).fPrefix, (D.getD j default).fVLAN, (D.getD j default).fEnds ++ [⟨(r : Int), (i : Int)⟩]⟩, ixs, ((i + 1 : Nat) : Int))) := by
  have hl : (D.getD j default).fEnds.length ≤ its.length := by
    have h1 := congrArg List.length (hD.ends _ (getD_mem' hj))
    unfold dends sel at h1
    rw [List.length_map, List.length_map] at h1
    rw [h1]
    exact List.length_filter_le _ _
  unfold M.topo_collect_k
  simp only [Int.toNat_natCast, Nat.zero_add]
  refine s_gd (all_c (dt (by omega)) (all_c (dt (by omega)) (all_c (dt (by omega)) all_n))) ?_
  rw [up64 (n := 2000) (by omega) (by omega)]
theorem collect_2 {r : Nat} (hr : r < a0.fRouters.length) (hI : nif a0 r ≤ 12) {its : List DItem} (hb : its.length ≤ 900) {D : List TDomain} (hD : Grp its D) :
    ∃ D', loopM (M.topo_collect_l2 a0 (r : Int)) (D, ix 0 D, 0) = some (D', ix 0 D') ∧ Grp (its ++ itR a0 r (nif a0 r)) D' := by
  have h := loop_inv (f := M.topo_collect_l2 a0 (r : Int)) (σ := List TDomain) (fun i D => (D, ix 0 D, (i : Int))) (nif a0 r) (fun i D => Grp (its ++ itR a0 r i) D) (fun y => ∃ D', y = (D', ix 0 D') ∧ Grp (its ++ itR a0 r (nif a0 r)) D')
    (fun i D hi hJ => ?_) (fun D hJ => ?_) (nif a0 r) 0 D (by omega) (by simpa [itR] using hD)
  · obtain ⟨y, h1, D', rfl, h3⟩ := h
    exact ⟨D', h1, h3⟩
  · left
    have hlen : (its ++ itR a0 r i).length ≤ 1000 := by
      have := itR_len a0 r i
      rw [List.length_append]; omega
    unfold M.topo_collect_l2
    simp only [Int.toNat_natCast]
    rw [show (a0.fRouters.getD r default).fInterfaces.getD i default = ifc a0 r i from rfl]
    have hi' : (i : Int) < (((a0.fRouters.getD r default).fInterfaces).length : Int) := Int.ofNat_lt.2 hi
    rw [dt hi', cond_true]
    simp only [gd, List.all_cons, List.all_nil, dt hi', dt (show (0 : Int) ≤ (i : Int) by omega), id, Bool.and_self, cond_true, Bool.true_and, net_m, Option.bind_some]
    cases he : (((ifc a0 r i).fLen == 0) || (ifc a0 r i).fDown) with
    | true =>
      refine ⟨D, ?_, ?_⟩
      · rw [cond_true, up64 (n := 2000) (by omega) (by omega)]
      · rw [itR_succ]
        have : elig (ifc a0 r i) = false := by unfold elig; rw [he]; rfl
        rw [show itI a0 r i = [] by unfold itI; rw [this]; rfl, List.append_nil]
        exact hJ
    | false =>
      have hel : elig (ifc a0 r i) = true := by unfold elig; rw [he]; rfl
      have hit : its ++ itR a0 r (i + 1) = (its ++ itR a0 r i) ++ [(ikey (ifc a0 r i), ((r : Int), (i : Int)))] := by
        rw [itR_succ, show itI a0 r i = [(ikey (ifc a0 r i), ((r : Int), (i : Int)))] by unfold itI; rw [hel]; rfl, List.append_assoc]
      rw [cond_false]
      have hl2 := hJ.len
      rcases lk_ix ⟨netP (ifc a0 r i).fAddr (ifc a0 r i).fLen, (ifc a0 r i).fVLAN⟩ D 0 with ⟨h1, h2⟩ | ⟨j, h1, h2, h3⟩
      · rw [h2]
        simp only [Bool.not_false, cond_true]
        rw [dt (show (D.length + 1) * 48 ≤ 140737488355328 by omega), Bool.and_self, cond_true]
        have hx : ix 0 D ++ [((⟨netP (ifc a0 r i).fAddr (ifc a0 r i).fLen, (ifc a0 r i).fVLAN⟩ : TdomainKey), (D.length : Int))] = ix 0 (D ++ [⟨netP (ifc a0 r i).fAddr (ifc a0 r i).fLen, (ifc a0 r i).fVLAN, []⟩]) := by
          rw [ix_app, Nat.zero_add]; rfl
        have hg : (D ++ [(⟨netP (ifc a0 r i).fAddr (ifc a0 r i).fLen, (ifc a0 r i).fVLAN, []⟩ : TDomain)]).getD D.length default = ⟨netP (ifc a0 r i).fAddr (ifc a0 r i).fLen, (ifc a0 r i).fVLAN, []⟩ := by simp
        refine ⟨D ++ [⟨netP (ifc a0 r i).fAddr (ifc a0 r i).fLen, (ifc a0 r i).fVLAN, [⟨(r : Int), (i : Int)⟩]⟩], ?_, ?_⟩
        · rw [hx]
          unfold M.topo_collect_k
          simp only [Int.toNat_natCast, Nat.zero_add, hg]
          refine s_gd (all_c (dt (by omega)) (all_c (dt (by simp; omega)) (all_c (dt (by simp)) all_n))) ?_
          have hs : (D ++ [(⟨netP (ifc a0 r i).fAddr (ifc a0 r i).fLen, (ifc a0 r i).fVLAN, []⟩ : TDomain)]).set D.length ⟨netP (ifc a0 r i).fAddr (ifc a0 r i).fLen, (ifc a0 r i).fVLAN, [] ++ [⟨(r : Int), (i : Int)⟩]⟩ = D ++ [⟨netP (ifc a0 r i).fAddr (ifc a0 r i).fLen, (ifc a0 r i).fVLAN, [⟨(r : Int), (i : Int)⟩]⟩] := by
            rw [List.set_append_right _ _ (Nat.le_refl _)]; simp
          rw [hs, up64 (n := 2000) (by omega) (by omega), ix_app, ix_app]
          rfl
        · rw [hit]
          exact hJ.add ⟨netP (ifc a0 r i).fAddr (ifc a0 r i).fLen, (ifc a0 r i).fVLAN, [⟨(r : Int), (i : Int)⟩]⟩ _ h1 rfl
      · rw [h3]
        simp only [Bool.not_true, cond_false, Nat.zero_add]
        refine ⟨D.set j ⟨(D.getD j default).fPrefix, (D.getD j default).fVLAN, (D.getD j default).fEnds ++ [⟨(r : Int), (i : Int)⟩]⟩, ?_, ?_⟩
        · have hix : ix 0 (D.set j ⟨(D.getD j default).fPrefix, (D.getD j default).fVLAN, (D.getD j default).fEnds ++ [⟨(r : Int), (i : Int)⟩]⟩) = ix 0 D := ix_set 0 D j _ rfl
          rw [collect_k hJ h1 hlen (by omega) (D, ix 0 D), hix]
        · rw [hit]
          have hk : ikey (ifc a0 r i) = dkey (⟨(D.getD j default).fPrefix, (D.getD j default).fVLAN, (D.getD j default).fEnds ++ [⟨(r : Int), (i : Int)⟩]⟩ : TDomain) := h2.symm
          rw [hk]
          exact hJ.grow h1 _ _ rfl (by simp [dends, dend])
  · unfold M.topo_collect_l2
    simp only [Int.toNat_natCast]
    rw [decide_eq_false (show ¬ ((nif a0 r : Int) < (((a0.fRouters.getD r default).fInterfaces).length : Int)) from fun h => Nat.lt_irrefl _ (Int.ofNat_lt.1 h)), cond_false]
    exact ⟨_, rfl, D, rfl, hJ⟩
theorem collect_ok (hR : a0.fRouters.length ≤ 9) (hI : ∀ r, nif a0 r ≤ 12) : ∃ D, M.topo_collect a0 = some D ∧ Grp (itN a0 a0.fRouters.length) D := by
  have h := loop_inv (f := M.topo_collect_l1 a0) (σ := List TDomain) (fun i D => (D, ix 0 D, (i : Int))) a0.fRouters.length (fun i D => Grp (itN a0 i) D) (fun y => Grp (itN a0 a0.fRouters.length) y)
    (fun i D hi hJ => ?_) (fun D hJ => ?_) a0.fRouters.length 0 [] (by omega) (by simpa [itN] using grp_nil)
  · obtain ⟨y, h1, h3⟩ := h
    refine ⟨y, ?_, h3⟩
    unfold M.topo_collect
    rw [show (([] : List TDomain), ([] : List (TdomainKey × Int)), (0 : Int)) = (([] : List TDomain), ix 0 [], ((0 : Nat) : Int)) from rfl, h1]
    rfl
  · left
    unfold M.topo_collect_l1
    have hi' : (i : Int) < (a0.fRouters.length : Int) := Int.ofNat_lt.2 hi
    simp only [dt hi', cond_true, gd, List.all_cons, List.all_nil, dt (show (0 : Int) ≤ (i : Int) by omega), id, Bool.and_self]
    have hl := itN_len a0 hI i
    obtain ⟨D', h1, h2⟩ := collect_2 (a0 := a0) hi (hI i) (its := itN a0 i) (by have : i * 12 ≤ 9 * 12 := Nat.mul_le_mul_right _ (by omega); omega) hJ
    refine ⟨D', ?_, by rw [itN_succ]; exact h2⟩
    rw [h1]
    simp only [Option.bind_some]
    rw [up64 (n := 2000) (by omega) (by omega)]
  · unfold M.topo_collect_l1
    simp only [Int.lt_irrefl, decide_false, cond_false]
    exact ⟨D, rfl, hJ⟩
end
theorem dlt_klt (x y : TDomain) : dlt x y ↔ klt (dkey x) (dkey y) := Iff.rfl
theorem sort_ok {its : List DItem} {D : List TDomain} (h : Grp its D) (hb : its.length ≤ 1000) : ∃ E, M.slices_SortFunc_api_Domain_api_Domain__topo_Build_1 D = some E ∧ E.length = D.length ∧ Grp its E ∧ Asc E := by
  have hl := h.len
  have hap : Apart (ltOf dcf) D := by
    have hn := h.nd
    unfold List.Nodup at hn
    rw [List.pairwise_map] at hn
    refine hn.imp fun {x y} hne => ?_
    rw [dcf_lt, dcf_lt, decide_eq_true_eq, decide_eq_true_eq, dlt_klt, dlt_klt]
    rcases klt_total (dkey x) (dkey y) with h1 | h1 | h1
    · exact .inl h1
    · exact absurd h1 hne
    · exact .inr h1
  obtain ⟨h1, h2, h3⟩ := sortP_ok dcf_swo D
  refine ⟨sortP dcf D, sortU_eq doms_eq dcf_swo (by omega) hap, h1, h.perm h2.symm, ?_⟩
  refine (apart_strict h2 hap h3).imp fun {x y} hh => ?_
  rw [dcf_lt, decide_eq_true_eq] at hh
  exact hh
def lks (D : List TDomain) (m : Nat) : List Int := ((List.range m).filter fun i => decide (2 ≤ (D.getD i default).fEnds.length)).map fun (i : Nat) => (i : Int)
theorem lks_succ (D : List TDomain) (m : Nat) : lks D (m + 1) = lks D m ++ (if 2 ≤ (D.getD m default).fEnds.length then [(m : Int)] else []) := by
  unfold lks
  rw [List.range_succ, List.filter_append, List.map_append]
  congr 1
  by_cases h : 2 ≤ (D.getD m default).fEnds.length
  · rw [if_pos h, List.filter_cons, if_pos (decide_eq_true h)]; rfl
  · rw [if_neg h, List.filter_cons, if_neg (by rw [decide_eq_true_eq]; exact h)]; rfl
theorem lks_len (D : List TDomain) (m : Nat) : (lks D m).length ≤ m := by
  unfold lks
  rw [List.length_map]
  exact Nat.le_trans (List.length_filter_le _ _) (by simp)
theorem links_ok (D : List TDomain) (hb : D.length ≤ 1000) : loopM (M.topo_Build_l1 D) (([] : List Int), 0) = some (lks D D.length) := by
  have h := loop_inv (f := M.topo_Build_l1 D) (σ := List Int) (fun i l => (l, (i : Int))) D.length (fun i l => l = lks D i) (fun y => y = lks D D.length)
    (fun i l hi hJ => ?_) (fun l hJ => ?_) D.length 0 [] (by omega) rfl
  · obtain ⟨y, h1, rfl⟩ := h
    exact h1
  · left
    subst hJ
    have hl := lks_len D i
    unfold M.topo_Build_l1
    have hi' : (i : Int) < (D.length : Int) := Int.ofNat_lt.2 hi
    simp only [dt hi', cond_true, gd, List.all_cons, List.all_nil, dt (show (0 : Int) ≤ (i : Int) by omega), id, Bool.and_self, Int.toNat_natCast, Bool.and_true]
    refine ⟨lks D (i + 1), ?_, rfl⟩
    rw [lks_succ]
    by_cases h2 : 2 ≤ (D.getD i default).fEnds.length
    · rw [dt (show (((D.getD i default).fEnds.length : Int) ≥ 2) by omega), cond_true, dt (show ((lks D i).length + 1) * 8 ≤ 140737488355328 by omega), cond_true, if_pos h2]
      unfold M.topo_Build_k1
      rw [up64 (n := 2000) (by omega) (by omega)]
    · rw [decide_eq_false (show ¬ (((D.getD i default).fEnds.length : Int) ≥ 2) by omega), cond_false, if_neg h2, List.append_nil]
      unfold M.topo_Build_k1
      rw [up64 (n := 2000) (by omega) (by omega)]
  · subst hJ
    unfold M.topo_Build_l1
    simp only [Int.lt_irrefl, decide_false, cond_false]
    exact ⟨_, rfl, rfl⟩
theorem lks_at (D : List TDomain) {m k : Nat} (hk : k < m) (h2 : 2 ≤ (D.getD k default).fEnds.length) : (lks D k).length < (lks D m).length ∧ (lks D m).getD (lks D k).length default = (k : Int) := by
  obtain ⟨c, rfl⟩ : ∃ c, m = k + 1 + c := ⟨m - (k + 1), by omega⟩
  have hx : ∀ c, ∃ t, lks D (k + 1 + c) = lks D k ++ (k : Int) :: t := fun c => by
    induction c with
    | zero => exact ⟨[], by rw [Nat.add_zero, lks_succ, if_pos h2]⟩
    | succ c ih =>
      obtain ⟨t, ht⟩ := ih
      rw [show k + 1 + (c + 1) = k + 1 + c + 1 by omega, lks_succ, ht]
      exact ⟨_, by rw [List.append_assoc, List.cons_append]⟩
  obtain ⟨t, ht⟩ := hx c
  rw [ht]
  simp
end Nv
