/- The plain law of TopoDomains. No condition but the bounds of what comes in. -/
import Derived.Test.YtaienbkgekjdnaaGreatNvTo3
import Derived.Test.YtaienbkgekjdnaaGreatNvT2
import Derived.Test.YtaienbkgekjdnaaGreatNvLW
set_option maxRecDepth 100000
namespace Nv
open Go Go.Sort Go.Proofs
section
variable {a0 : TNetwork} {t : TTopology}
theorem count_l4 (r i k : Nat) (c0 : Nat) (hk : k < t.fDomains.length) (hb : (t.fDomains.getD k default).fEnds.length ≤ 1000) (hc : c0 ≤ 1000000) :
    loopM (M.law13_TopoDomains_l4 (t, 0) (r : Int) (i : Int) ((c0 : Int), (k : Int))) ((c0 : Int), 0) = some (((c0 + (dends (t.fDomains.getD k default)).count ((r : Int), (i : Int)) : Nat)) : Int) := by
  generalize he : (t.fDomains.getD k default).fEnds = es at *
  have hd : dends (t.fDomains.getD k default) = es.map dend := by unfold dends; rw [he]
  rw [hd]
  have hk1 : decide ((0 : Int) ≤ (k : Int)) = true := dt (by omega)
  have hk2 : decide ((k : Int) < (t.fDomains.length : Int)) = true := dt (by omega)
  have h := loop_inv (f := M.law13_TopoDomains_l4 (t, 0) (r : Int) (i : Int) ((c0 : Int), (k : Int))) (σ := Int) (fun j c => (c, (j : Int))) es.length (fun j c => c = ((c0 + ((es.take j).map dend).count ((r : Int), (i : Int)) : Nat) : Int)) (fun y => y = ((c0 + (es.map dend).count ((r : Int), (i : Int)) : Nat) : Int))
    (fun j c hj hJ => ?_) (fun c hJ => ?_) es.length 0 (c0 : Int) (by omega) (by simp)
  · obtain ⟨y, h1, rfl⟩ := h
    exact h1
  · left
    subst hJ
    have hcl : ((es.take j).map dend).count ((r : Int), (i : Int)) ≤ j := Nat.le_trans List.count_le_length (by simp; omega)
    have hj1 : decide ((0 : Int) ≤ (j : Int)) = true := dt (by omega)
    have hj2 : decide ((j : Int) < (es.length : Int)) = true := dt (by omega)
    refine ⟨_, ?_, rfl⟩
    unfold M.law13_TopoDomains_l4
    simp only [gd, List.all_cons, List.all_nil, id, Bool.and_self, Bool.and_true, cond_true, hk1, hk2, Int.toNat_natCast, he, hj1, hj2]
    have hts : es.take (j + 1) = es.take j ++ [es.getD j default] := by
      rw [List.take_add_one, List.getD_eq_getElem?_getD, List.getElem?_eq_getElem hj]; rfl
    rw [hts, List.map_append, List.count_append]
    cases hx : ((es.getD j default).fRouter == (r : Int)) && ((es.getD j default).fIface == (i : Int)) with
    | true =>
      have hde : dend (es.getD j default) = ((r : Int), (i : Int)) := by
        simp only [Bool.and_eq_true, beq_iff_eq] at hx
        unfold dend; rw [hx.1, hx.2]
      rw [cond_true]
      unfold M.law13_TopoDomains_k1
      simp only [List.map_cons, List.map_nil, hde, List.count_singleton_self]
      rw [up64 (n := 2000000) (by omega) (by omega), up64 (n := 2000000) (by omega) (by omega)]
      rfl
    | false =>
      have hde : dend (es.getD j default) ≠ ((r : Int), (i : Int)) := fun hh => by
        unfold dend at hh
        simp only [Prod.mk.injEq] at hh
        rw [hh.1, hh.2] at hx
        simp at hx
      rw [cond_false]
      unfold M.law13_TopoDomains_k1
      simp only [List.map_cons, List.map_nil, List.count_cons_of_ne hde, List.count_nil, Nat.add_zero]
      rw [up64 (n := 2000000) (by omega) (by omega)]
  · subst hJ
    unfold M.law13_TopoDomains_l4
    simp only [gd, List.all_cons, List.all_nil, id, Bool.and_self, Bool.and_true, cond_true, hk1, hk2, Int.toNat_natCast, he, Int.lt_irrefl, decide_false, cond_false, List.take_length]
    exact ⟨_, rfl, rfl⟩
theorem cntD_take (e : DEnd) (D : List TDomain) {k : Nat} (hk : k < D.length) : cntD e (D.take (k + 1)) = cntD e (D.take k) + (dends (D.getD k default)).count e := by
  rw [List.take_add_one, List.getElem?_eq_getElem hk, cntD_app, List.getD_eq_getElem?_getD, List.getElem?_eq_getElem hk]
  simp [cntD]
theorem cntD_le (e : DEnd) {b : Nat} : ∀ {D : List TDomain}, (∀ d ∈ D, d.fEnds.length ≤ b) → cntD e D ≤ D.length * b
  | [], _ => by simp [cntD]
  | d :: l, h => by
    simp only [cntD, List.length_cons, Nat.succ_mul]
    have h1 := cntD_le e (D := l) fun c hc => h c (List.mem_cons_of_mem _ hc)
    have h2 : (dends d).count e ≤ (dends d).length := List.count_le_length
    have h3 : (dends d).length = d.fEnds.length := by simp [dends]
    have h4 := h d List.mem_cons_self
    omega
theorem count_l3 (r i : Nat) (hl : t.fDomains.length ≤ 108) (hb : ∀ d ∈ t.fDomains, d.fEnds.length ≤ 1000) :
    loopM (M.law13_TopoDomains_l3 (t, 0) (r : Int) (i : Int)) (0, 0) = some ((cntD ((r : Int), (i : Int)) t.fDomains : Nat) : Int) := by
  have h := loop_inv (f := M.law13_TopoDomains_l3 (t, 0) (r : Int) (i : Int)) (σ := Int) (fun k c => (c, (k : Int))) t.fDomains.length (fun k c => c = ((cntD ((r : Int), (i : Int)) (t.fDomains.take k) : Nat) : Int)) (fun y => y = ((cntD ((r : Int), (i : Int)) t.fDomains : Nat) : Int))
    (fun k c hk hJ => ?_) (fun c hJ => ?_) t.fDomains.length 0 0 (by omega) (by simp [cntD])
  · obtain ⟨y, h1, rfl⟩ := h
    exact h1
  · left
    subst hJ
    have hc := cntD_le ((r : Int), (i : Int)) (D := t.fDomains.take k) (b := 1000) fun d hd => hb d (List.mem_of_mem_take hd)
    rw [List.length_take] at hc
    have hc2 : min k t.fDomains.length * 1000 ≤ 108 * 1000 := Nat.mul_le_mul_right _ (by omega)
    refine ⟨_, ?_, rfl⟩
    unfold M.law13_TopoDomains_l3
    have hk2 : decide ((k : Int) < (t.fDomains.length : Int)) = true := dt (by omega)
    simp only [hk2, cond_true]
    rw [count_l4 r i k _ hk (hb _ (getD_mem' hk)) (by omega)]
    simp only [Option.bind_some]
    rw [up64 (n := 2000) (by omega) (by omega), cntD_take _ _ hk]
  · subst hJ
    unfold M.law13_TopoDomains_l3
    simp only [Int.lt_irrefl, decide_false, cond_false, List.take_length]
    exact ⟨_, rfl, rfl⟩
theorem all_l2 (hG : Grp (itN a0 a0.fRouters.length) t.fDomains) (hl : t.fDomains.length ≤ 108) (hb : ∀ d ∈ t.fDomains, d.fEnds.length ≤ 1000) {r : Nat} (hr : r < a0.fRouters.length) (hI : nif a0 r ≤ 12) :
    loopM (M.law13_TopoDomains_l2 a0 (t, 0) (r : Int)) 0 = some (.inl ()) := by
  have hr1 : decide ((0 : Int) ≤ (r : Int)) = true := dt (by omega)
  have hr2 : decide ((r : Int) < (a0.fRouters.length : Int)) = true := dt (by omega)
  have h := loop_inv (f := M.law13_TopoDomains_l2 a0 (t, 0) (r : Int)) (σ := Unit) (fun i _ => (i : Int)) (nif a0 r) (fun _ _ => True) (fun y => y = .inl ())
    (fun i _ hi _ => ?_) (fun _ _ => ?_) (nif a0 r) 0 () (by omega) trivial
  · obtain ⟨y, h1, rfl⟩ := h
    exact h1
  · left
    refine ⟨(), ?_, trivial⟩
    have hi1 : decide ((0 : Int) ≤ (i : Int)) = true := dt (by omega)
    have hi2 : decide ((i : Int) < (((a0.fRouters.getD r default).fInterfaces).length : Int)) = true := dt (Int.ofNat_lt.2 hi)
    unfold M.law13_TopoDomains_l2
    simp only [gd, List.all_cons, List.all_nil, id, Bool.and_self, Bool.and_true, cond_true, hr1, hr2, Int.toNat_natCast, hi1, hi2, count_l3 r i hl hb, Option.bind_some]
    rw [show (a0.fRouters.getD r default).fInterfaces.getD i default = ifc a0 r i from rfl]
    have hup := up64 (i := i) (n := 2000) (by omega) (by omega)
    cases he : elig (ifc a0 r i) with
    | true =>
      rw [cntD_one hG (itN_nodup _ _) (mem_itN.2 ⟨r, i, hr, hi, he, rfl⟩)]
      unfold elig at he
      have : (((ifc a0 r i).fLen != 0) && (!(ifc a0 r i).fDown)) = true := by
        revert he
        unfold bne
        cases (ifc a0 r i).fLen == 0 <;> cases (ifc a0 r i).fDown <;> simp
      rw [this, hup]
      rfl
    | false =>
      rw [cntD_none hG (e := ((r : Int), (i : Int))) fun k hk => by
        obtain ⟨r', i', _, _, h3, h4⟩ := mem_itN.1 hk
        simp only [Prod.mk.injEq] at h4
        obtain rfl : r = r' := by omega
        obtain rfl : i = i' := by omega
        rw [he] at h3; cases h3]
      unfold elig at he
      have : (((ifc a0 r i).fLen != 0) && (!(ifc a0 r i).fDown)) = false := by
        revert he
        unfold bne
        cases (ifc a0 r i).fLen == 0 <;> cases (ifc a0 r i).fDown <;> simp
      rw [this, hup]
      rfl
  · unfold M.law13_TopoDomains_l2
    simp only [gd, List.all_cons, List.all_nil, id, Bool.and_self, Bool.and_true, cond_true, hr1, hr2, Int.toNat_natCast]
    rw [decide_eq_false (show ¬ ((nif a0 r : Int) < (((a0.fRouters.getD r default).fInterfaces).length : Int)) from fun h => Nat.lt_irrefl _ (Int.ofNat_lt.1 h)), cond_false]
    exact ⟨_, rfl, rfl⟩
theorem all_l1 (hG : Grp (itN a0 a0.fRouters.length) t.fDomains) (hl : t.fDomains.length ≤ 108) (hb : ∀ d ∈ t.fDomains, d.fEnds.length ≤ 1000) (hR : a0.fRouters.length ≤ 9) (hI : ∀ r, nif a0 r ≤ 12) :
    loopM (M.law13_TopoDomains_l1 a0 (t, 0)) 0 = some (.inl ()) := by
  have h := loop_inv (f := M.law13_TopoDomains_l1 a0 (t, 0)) (σ := Unit) (fun i _ => (i : Int)) a0.fRouters.length (fun _ _ => True) (fun y => y = .inl ())
    (fun r _ hr _ => ?_) (fun _ _ => ?_) a0.fRouters.length 0 () (by omega) trivial
  · obtain ⟨y, h1, rfl⟩ := h
    exact h1
  · left
    refine ⟨(), ?_, trivial⟩
    unfold M.law13_TopoDomains_l1
    have hr2 : decide ((r : Int) < (a0.fRouters.length : Int)) = true := dt (by omega)
    simp only [hr2, cond_true, all_l2 hG hl hb hr (hI r), Option.bind_some, Sum.elim_inl]
    rw [up64 (n := 2000) (by omega) (by omega)]
  · unfold M.law13_TopoDomains_l1
    simp only [Int.lt_irrefl, decide_false, cond_false]
    exact ⟨_, rfl, rfl⟩
theorem up_l6 (c : Int) {k : Nat} (hk : k < t.fDomains.length) (hb : (t.fDomains.getD k default).fEnds.length ≤ 1000) (hu : (dends (t.fDomains.getD k default)).Pairwise fun a b => a.1 < b.1) :
    loopM (M.law13_TopoDomains_l6 (t, 0) (c, (k : Int))) 1 = some (.inl ()) := by
  have hE : dends (t.fDomains.getD k default) = (t.fDomains.getD k default).fEnds.map dend := rfl
  rw [hE, List.pairwise_map] at hu
  generalize he : (t.fDomains.getD k default).fEnds = es at *
  have hk1 : decide ((0 : Int) ≤ (k : Int)) = true := dt (by omega)
  have hk2 : decide ((k : Int) < (t.fDomains.length : Int)) = true := dt (by omega)
  rcases Nat.eq_zero_or_pos es.length with h0 | hp
  · have : es = [] := List.eq_nil_of_length_eq_zero h0
    subst this
    refine loopM_of (.out ?_)
    unfold M.law13_TopoDomains_l6
    simp only [Int.toNat_natCast, he, List.length_nil]
    rfl
  have h := loop_inv (f := M.law13_TopoDomains_l6 (t, 0) (c, (k : Int))) (σ := Unit) (fun j _ => (j : Int)) es.length (fun j _ => 1 ≤ j) (fun y => y = .inl ())
    (fun j _ hj hJ => ?_) (fun _ _ => ?_) (es.length - 1) 1 () (by omega) (Nat.le_refl _)
  · obtain ⟨y, h1, rfl⟩ := h
    exact h1
  · left
    refine ⟨(), ?_, by omega⟩
    obtain ⟨m, rfl⟩ : ∃ m, j = m + 1 := ⟨j - 1, by omega⟩
    have hj1 : decide ((0 : Int) ≤ ((m + 1 : Nat) : Int)) = true := dt (by omega)
    have hj2 : decide (((m + 1 : Nat) : Int) < (es.length : Int)) = true := dt (by omega)
    have hw : wr .i64 (((m + 1 : Nat) : Int) - 1) = (m : Int) := by
      rw [show ((m + 1 : Nat) : Int) - 1 = (m : Int) by omega]
      rcases m with _ | m
      · rfl
      · rw [show ((m + 1 : Nat) : Int) = (m : Int) + 1 by omega, up64 (n := 2000) (by omega) (by omega)]; omega
    have hm1 : decide ((0 : Int) ≤ (m : Int)) = true := dt (by omega)
    have hm2 : decide ((m : Int) < (es.length : Int)) = true := dt (by omega)
    unfold M.law13_TopoDomains_l6
    simp only [gd, List.all_cons, List.all_nil, id, Bool.and_self, Bool.and_true, cond_true, Int.toNat_natCast, he, hj1, hj2, hw, hm1, hm2]
    have hlt : (es.getD m default).fRouter < (es.getD (m + 1) default).fRouter := by
      have := List.pairwise_iff_getElem.1 hu m (m + 1) (by omega) hj (by omega)
      rw [List.getD_eq_getElem?_getD, List.getD_eq_getElem?_getD, List.getElem?_eq_getElem hj, List.getElem?_eq_getElem (show m < es.length by omega)]
      exact this
    rw [decide_eq_false (show ¬ ((es.getD (m + 1) default).fRouter ≤ (es.getD m default).fRouter) by omega), cond_false, up64 (n := 2000) (by omega) (by omega)]
  · unfold M.law13_TopoDomains_l6
    simp only [Int.toNat_natCast, he, Int.lt_irrefl, decide_false, cond_false]
    exact ⟨_, rfl, rfl⟩
theorem links_l5 (hl : t.fDomains.length ≤ 108) (hb : ∀ d ∈ t.fDomains, d.fEnds.length ≤ 1000) (hk : t.fLinks = lks t.fDomains t.fDomains.length) (hu : ∀ d ∈ t.fDomains, (dends d).Pairwise fun a b => a.1 < b.1) :
    loopM (M.law13_TopoDomains_l5 (t, 0)) (0, 0) = some (.inl (t.fLinks.length : Int)) := by
  have h := loop_inv (f := M.law13_TopoDomains_l5 (t, 0)) (σ := Int) (fun k c => (c, (k : Int))) t.fDomains.length (fun k c => c = ((lks t.fDomains k).length : Int)) (fun y => y = .inl (t.fLinks.length : Int))
    (fun k c hk2 hJ => ?_) (fun c hJ => ?_) t.fDomains.length 0 0 (by omega) rfl
  · obtain ⟨y, h1, rfl⟩ := h
    exact h1
  · left
    subst hJ
    have hk3 : decide ((k : Int) < (t.fDomains.length : Int)) = true := dt (by omega)
    have hk4 : decide ((0 : Int) ≤ (k : Int)) = true := dt (by omega)
    have hm := getD_mem' hk2
    refine ⟨_, ?_, rfl⟩
    unfold M.law13_TopoDomains_l5
    simp only [gd, List.all_cons, List.all_nil, id, Bool.and_self, Bool.and_true, cond_true, Int.toNat_natCast, hk3, hk4, up_l6 _ hk2 (hb _ hm) (hu _ hm), Option.bind_some, Sum.elim_inl]
    rw [lks_succ]
    by_cases h2 : 2 ≤ (t.fDomains.getD k default).fEnds.length
    · obtain ⟨h3, h4⟩ := lks_at t.fDomains hk2 h2
      have hkl := lks_len t.fDomains k
      rw [if_pos h2, dt (show ((t.fDomains.getD k default).fEnds.length : Int) > 1 by omega), hk]
      have g1 : decide (((lks t.fDomains k).length : Int) ≥ ((lks t.fDomains t.fDomains.length).length : Int)) = false := decide_eq_false (by omega)
      have g2 : decide ((0 : Int) ≤ ((lks t.fDomains k).length : Int)) = true := dt (by omega)
      have g3 : decide (((lks t.fDomains k).length : Int) < ((lks t.fDomains t.fDomains.length).length : Int)) = true := dt (by omega)
      simp only [g1, g2, g3, guardB, Bool.not_false, cond_true, Bool.and_self, h4, bne_self_eq_false, Bool.false_or, cond_false, Bool.not_true, Bool.or_true]
      unfold M.law13_TopoDomains_k2
      rw [up64 (n := 2000) (by omega) (by omega), up64 (n := 2000) (by omega) (by omega)]
      simp
    · rw [if_neg h2, decide_eq_false (show ¬ (((t.fDomains.getD k default).fEnds.length : Int) > 1) by omega), cond_false, List.append_nil]
      unfold M.law13_TopoDomains_k2
      rw [up64 (n := 2000) (by omega) (by omega)]
  · subst hJ
    unfold M.law13_TopoDomains_l5
    simp only [Int.lt_irrefl, decide_false, cond_false]
    exact ⟨_, rfl, by rw [hk]⟩
end
theorem plain_TopoDomains (a0 : TNetwork) (w0 : W_TNetwork a0) : M.law13_TopoDomains a0 = some true := by
  have ha := LofW_TNetwork w0
  unfold M.law13_TopoDomains
  rw [s_law13_Small a0 ha]
  simp only [Option.bind_some]
  cases hs : S.law13_Small a0 with
  | false => rfl
  | true =>
    obtain ⟨hR, hI⟩ := small_n hs
    simp only [Bool.not_true, cond_false]
    obtain ⟨t, e, h1, h2⟩ := build_ok ha hR hI
    rw [h1]
    simp only [Option.bind_some]
    rcases h2 with ⟨h3, h4⟩ | ⟨h3, h4, h5, h6, h7, h8⟩
    · subst h4
      rw [show (e != 0) = true by simpa using h3]
      simp [gc, sane_some]
    · subst h3
      have hl := itN_len a0 hI a0.fRouters.length
      have hl2 : a0.fRouters.length * 12 ≤ 9 * 12 := Nat.mul_le_mul_right _ hR
      have hb : ∀ d ∈ t.fDomains, d.fEnds.length ≤ 1000 := fun d hd => by
        have := congrArg List.length (h5.ends d hd)
        unfold dends sel at this
        rw [List.length_map, List.length_map] at this
        have h9 := List.length_filter_le (fun x => decide (x.1 = dkey d)) (itN a0 a0.fRouters.length)
        omega
      simp only [bne_self_eq_false, cond_false, all_l1 h5 h8 hb hR hI, Option.bind_some, Sum.elim_inl, links_l5 h8 hb h7 (fun d hd => ends_up h4 h5 hd), BEq.rfl, gc, cond_true, sane_some, Bool.and_self]
end Nv
