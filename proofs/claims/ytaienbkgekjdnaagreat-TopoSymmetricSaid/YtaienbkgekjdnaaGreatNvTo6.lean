/- Views: what is known of them. No condition but the bounds of what comes in. -/
import Derived.Test.YtaienbkgekjdnaaGreatNvTo5
import Derived.Test.YtaienbkgekjdnaaGreatNvLW
set_option maxRecDepth 100000
namespace Nv
open Go
structure VF (v : X3) : Prop where
  nr : v.Qq.Zd.length ≤ 9
  ni : ∀ r, nif v.Qq r ≤ 12
  ln : Yv v.Qq
  ap : ApartN v.Qq
  chk : S.Q2 v.Qq = 0
  grp : Grp (itN v.Qq v.Qq.Zd.length) v.XW.Z1
  asc : Asc v.XW.Z1
  len : v.XW.Z1.length ≤ 108
  lks : v.XW.QA = rlks v.XW.Z1 v.XW.Z1.length
  dn : v.V0.length ≤ 2
  dpos : ∀ x ∈ v.V0, 0 ≤ x ∧ x < (v.XW.QA.length : Int)
theorem VF.ends {v : X3} (h : VF v) {d : Zg} (hd : d ∈ v.XW.Z1) : d.ZZ.length ≤ 108 := by
  have := congrArg List.length (h.grp.ends d hd)
  unfold dends sel at this
  rw [List.length_map, List.length_map] at this
  have h1 := List.length_filter_le (fun x => decide (x.1 = dkey d)) (itN v.Qq v.Qq.Zd.length)
  have h2 := Zdu v.Qq h.ni v.Qq.Zd.length
  have h3 : v.Qq.Zd.length * 12 ≤ 9 * 12 := Nat.mul_le_mul_right _ h.nr
  omega
theorem VF.L {v : X3} (h : VF v) : W1 v := by
  have hM := Zv
  have h1 := h.len
  have h2 := h.dn
  refine ⟨h.ln, ⟨⟨by omega, fun d hd => ?_⟩, ?_⟩, by omega⟩
  · have := h.ends hd
    show d.ZZ.length ≤ maxLen
    omega
  · rw [h.lks]
    have := Zgt v.XW.Z1 v.XW.Z1.length
    omega
theorem Zk8 {l : List Int} {n : Int} (h : S.QG l n = true) : l.length ≤ 2 ∧ ∀ x ∈ l, 0 ≤ x ∧ x < n := by
  unfold S.QG at h
  cases hl : decide ((l.length : Int) > 2) with
  | true => rw [hl] at h; cases h
  | false =>
    rw [hl] at h
    simp only [cond_false, letS] at h
    refine ⟨by have := of_decide_eq_false hl; omega, fun x hx => ?_⟩
    obtain ⟨j, hj, hjx⟩ := List.getElem_of_mem hx
    have hget : l.getD j default = x := by rw [List.getD_eq_getElem?_getD, List.getElem?_eq_getElem hj]; exact hjx
    have key : S.X4 l n j = none := by
      rcases W5 (S.X4 l n) (.inl ()) l.length 0 with ⟨k, h1, h2, h3, h4⟩ | ⟨h1, h2⟩
      · exfalso
        revert h3 h
        generalize runN (S.X4 l n) (.inl ()) 0 l.length = z
        intro h h3
        unfold S.X4 at h3
        revert h3
        generalize ((_ || _ : Bool)) = b
        intro h3
        cases b
        · cases h3
        · cases h3; cases h
      · exact h2 j (Nat.zero_le _) (by omega)
    unfold S.X4 at key
    rw [hget] at key
    cases h1 : decide (x < 0) with
    | true => rw [h1] at key; simp at key
    | false =>
      cases h2 : decide (x ≥ n) with
      | true => rw [h1, h2] at key; simp at key
      | false =>
        have g1 := of_decide_eq_false h1
        have g2 := of_decide_eq_false h2
        omega
theorem ZkB {a : Zw} (ha : Yv a) (dn : List Int) (hd : dn.length ≤ maxLen) : ∃ v ok, M.Uo a dn = some (v, ok) ∧ (ok = true → VF v ∧ v.Qq = a ∧ v.V0 = dn ∧ ∀ dn', dn'.length ≤ maxLen → ∃ v' ok', M.Uo a dn' = some (v', ok') ∧ (ok' = true → v'.XW = v.XW)) := by
  have key : S.JP a = true → a.Zd.length ≤ 9 ∧ ∀ r, nif a r ≤ 12 := ZjF
  have gen : ∀ dn : List Int, dn.length ≤ maxLen → ∃ v ok, M.Uo a dn = some (v, ok) ∧ (ok = true → VF v ∧ v.Qq = a ∧ v.V0 = dn ∧ (S.JP a = true ∧ ∃ D, M.W8 a = some (topoOf D) ∧ v.XW = (topoOf D).1)) := fun dn hd => by
    unfold M.Uo
    rw [Zey a ha]
    simp only [Option.bind_some]
    cases hs : S.JP a with
    | false => exact ⟨_, _, rfl, fun h => by cases h⟩
    | true =>
      obtain ⟨hR, hI⟩ := key hs
      cases hl : decide ((dn.length : Int) > 2) with
      | true => exact ⟨_, _, rfl, fun h => by cases h⟩
      | false =>
        simp only [Bool.not_true, Bool.or_self, cond_false]
        have hl2 := of_decide_eq_false hl
        unfold M.Kt
        rcases Zir ha hR hI with ⟨h1, h2⟩ | ⟨h1, D, h2, h3, h4, h5⟩
        · rw [h2]
          simp only [Option.bind_some]
          rw [show (S.Q2 a != 0) = true by simpa using h1]
          exact ⟨_, _, rfl, fun h => by simp at h; exact absurd h h1⟩
        · rw [h2]
          simp only [Option.bind_some]
          unfold topoOf
          cases hk : decide (((rlks D D.length).length : Int) > 12) with
          | true => exact ⟨_, _, rfl, fun h => by cases h⟩
          | false =>
            simp only [cond_false, bne_self_eq_false]
            rw [Zb6 dn _ hd]
            simp only [Option.bind_some]
            cases hasc : S.QG dn ((rlks D D.length).length : Int) with
            | false => exact ⟨_, _, rfl, fun h => by cases h⟩
            | true =>
              obtain ⟨g1, g2⟩ := Zk8 hasc
              have gc1 : decide ((0 + dn.length) * 8 ≤ 140737488355328) = true := dt (by omega)
              simp only [Bool.not_true, cond_false, gd, List.all_cons, List.all_nil, decide_true, Bool.true_or, id, gc1, Bool.and_self, cond_true, Option.bind_some, BEq.rfl]
              refine ⟨_, _, rfl, fun _ => ⟨⟨hR, hI, ha, rapart h1, h1, h3, h4, h5, rfl, g1, g2⟩, rfl, rfl, trivial, D, ?_, ?_⟩⟩
              · rw [hk]; rfl
              · rw [hk]; rfl
  obtain ⟨v, ok, h1, h2⟩ := gen dn hd
  refine ⟨v, ok, h1, fun hok => ?_⟩
  obtain ⟨g1, g2, g3, _, D, g4, g5⟩ := h2 hok
  refine ⟨g1, g2, g3, fun dn' hd' => ?_⟩
  obtain ⟨v', ok', k1, k2⟩ := gen dn' hd'
  refine ⟨v', ok', k1, fun hok' => ?_⟩
  obtain ⟨_, _, _, _, D', k4, k5⟩ := k2 hok'
  rw [k4] at g4
  rw [k5, g5, Option.some.inj g4]
def has (d : Zg) (e : DEnd) : Bool := decide (e ∈ dends d)
def domI (v : X3) (e : DEnd) : Int := idxN (fun k => has (v.XW.Z1.getD k default) e) v.XW.Z1.length
theorem ZkC {d : Zg} {x y : Int} : anyN (fun j => ((d.ZZ.getD j default).Z5 == x) && ((d.ZZ.getD j default).XY == y)) d.ZZ.length = has d (x, y) := by
  unfold has dends
  rw [Bool.eq_iff_iff, Uc, decide_eq_true_eq]
  simp only [Bool.and_eq_true, beq_iff_eq, List.mem_map]
  constructor
  · rintro ⟨j, hj, h1, h2⟩
    refine ⟨d.ZZ.getD j default, ?_, by unfold dend; rw [h1, h2]⟩
    rw [List.getD_eq_getElem?_getD, List.getElem?_eq_getElem hj]; exact List.getElem_mem hj
  · rintro ⟨e, he, h1⟩
    obtain ⟨j, hj, hje⟩ := List.getElem_of_mem he
    unfold dend at h1
    simp only [Prod.mk.injEq] at h1
    refine ⟨j, hj, ?_⟩
    rw [List.getD_eq_getElem?_getD, List.getElem?_eq_getElem hj, Option.getD_some, hje]
    exact h1
theorem Za8 (v : X3) (e : DEnd) : (∃ k, k < v.XW.Z1.length ∧ e ∈ dends (v.XW.Z1.getD k default) ∧ domI v e = (k : Int)) ∨ (domI v e = -1 ∧ ∀ d ∈ v.XW.Z1, e ∉ dends d) := by
  unfold domI
  rcases ZaL (fun k => has (v.XW.Z1.getD k default) e) v.XW.Z1.length with ⟨k, h1, h2, h3, h4⟩ | ⟨h1, h2⟩
  · exact .inl ⟨k, h1, of_decide_eq_true h2, h4⟩
  · refine .inr ⟨h1, fun d hd he => ?_⟩
    obtain ⟨j, hj, rfl⟩ := Zca hd
    have := h2 j hj
    unfold has at this
    exact of_decide_eq_false this he
theorem VF.one {v : X3} (h : VF v) {d d' : Zg} (hd : d ∈ v.XW.Z1) (hd' : d' ∈ v.XW.Z1) {e : DEnd} (he : e ∈ dends d) (he' : e ∈ dends d') : d = d' := by
  refine Zik h.grp.nd hd hd' ?_
  exact Zkx (Zim _ _) (Zds.1 (h.grp.ends d hd ▸ he)) (Zds.1 (h.grp.ends d' hd' ▸ he'))
theorem VF.domI_eq {v : X3} (h : VF v) {k : Nat} (hk : k < v.XW.Z1.length) {e : DEnd} (he : e ∈ dends (v.XW.Z1.getD k default)) : domI v e = (k : Int) := by
  rcases Za8 v e with ⟨j, h1, h2, h3⟩ | ⟨_, h2⟩
  · have h4 := h.one (WB h1) (WB hk) h2 he
    have h5 : j = k := by
      rcases Nat.lt_trichotomy j k with g | g | g
      · have := ZfF h.asc g hk
        rw [h4] at this
        exact absurd this (Zdt _)
      · exact g
      · have := ZfF h.asc g h1
        rw [h4] at this
        exact absurd this (Zdt _)
    rw [h3, h5]
  · exact absurd he (h2 _ (WB hk))
def lnkI (v : X3) (d : Int) : Int := idxN (fun k => d == v.XW.QA.getD k default) v.XW.QA.length
def upV (v : X3) (e : DEnd) : Bool := bif decide (domI v e < 0) then false else (decide (lnkI v (domI v e) < 0) || !anyN (fun k => lnkI v (domI v e) == v.V0.getD k default) v.V0.length)
def nbs (v : X3) (e : DEnd) : List X8 := bif upV v e then (v.XW.Z1.getD (domI v e).toNat default).ZZ.filter (fun x => x.Z5 != e.1) else []
theorem R9 {v : X3} (h : VF v) {e : DEnd} {x : X8} : x ∈ nbs v e ↔ upV v e = true ∧ ∃ k, k < v.XW.Z1.length ∧ domI v e = (k : Int) ∧ e ∈ dends (v.XW.Z1.getD k default) ∧ dend x ∈ dends (v.XW.Z1.getD k default) ∧ x.Z5 ≠ e.1 := by
  unfold nbs
  cases hu : upV v e with
  | false => simp
  | true =>
    simp only [cond_true, true_and, List.mem_filter]
    have hd : ¬ domI v e < 0 := fun hh => by
      unfold upV at hu
      rw [decide_eq_true hh] at hu
      cases hu
    rcases Za8 v e with ⟨k, h1, h2, h3⟩ | ⟨h1, _⟩
    · rw [h3, Int.toNat_natCast]
      constructor
      · rintro ⟨g1, g2⟩
        exact ⟨k, h1, rfl, h2, List.mem_map.2 ⟨x, g1, rfl⟩, by simpa using g2⟩
      · rintro ⟨j, g1, g2, g3, g4, g5⟩
        obtain rfl : k = j := by omega
        obtain ⟨y, g6, g7⟩ := List.mem_map.1 g4
        rw [Zgr g7] at g6
        exact ⟨g6, by simpa using g5⟩
    · omega
theorem Zgu {f : List X8 × Int → Option ((List X8 × Int) ⊕ List X8)} {es : List X8} (hb : es.length ≤ 1000) (p : X8 → Bool)
    (step : ∀ (l : List X8) (i : Nat), i < es.length → l.length ≤ i → f (l, (i : Int)) = some (.inl (bif p (es.getD i default) then l ++ [es.getD i default] else l, ((i + 1 : Nat) : Int))))
    (out : ∀ l, f (l, (es.length : Int)) = some (.inr l)) : loopM f (([] : List X8), 0) = some (es.filter p) := by
  have h := UO (f := f) (σ := List X8) (fun i l => (l, (i : Int))) es.length (fun i l => l = (es.take i).filter p) (fun y => y = es.filter p)
    (fun i l hi hJ => ?_) (fun l hJ => ?_) es.length 0 [] (by omega) rfl
  · obtain ⟨y, h1, rfl⟩ := h
    exact h1
  · left
    subst hJ
    have hl : ((es.take i).filter p).length ≤ i := Nat.le_trans (List.length_filter_le _ _) (by simp; omega)
    refine ⟨_, step _ i hi hl, ?_⟩
    have hts : es.take (i + 1) = es.take i ++ [es.getD i default] := by
      rw [List.take_add_one, List.getD_eq_getElem?_getD, List.getElem?_eq_getElem hi]; rfl
    rw [hts, List.filter_append, List.filter_cons]
    cases p (es.getD i default) <;> simp
  · subst hJ
    exact ⟨_, out _, by rw [List.take_length]⟩
theorem VF.dom_up {v : X3} (h : VF v) {d : Zg} (hd : d ∈ v.XW.Z1) {e e' : DEnd} (he : e ∈ dends d) (he' : e' ∈ dends d) (hr : e.1 = e'.1) : e = e' := by
  have hu := Zky h.ap h.grp hd
  obtain ⟨i, hi, rfl⟩ := List.getElem_of_mem he
  obtain ⟨j, hj, rfl⟩ := List.getElem_of_mem he'
  rcases Nat.lt_trichotomy i j with g | g | g
  · have := List.pairwise_iff_getElem.1 hu i j hi hj g
    omega
  · subst g; rfl
  · have := List.pairwise_iff_getElem.1 hu j i hj hi g
    omega
theorem VF.inN {v : X3} (h : VF v) {d : Zg} (hd : d ∈ v.XW.Z1) {x : X8} (hx : dend x ∈ dends d) : ∃ r i, r < v.Qq.Zd.length ∧ i < nif v.Qq r ∧ elig (ifc v.Qq r i) = true ∧ dkey d = ikey (ifc v.Qq r i) ∧ x.Z5 = (r : Int) ∧ x.XY = (i : Int) := by
  obtain ⟨r, i, h1, h2, h3, h4, h5⟩ := Zkz h.grp hd hx
  unfold dend at h5
  simp only [Prod.mk.injEq] at h5
  exact ⟨r, i, h1, h2, h3, h4, h5.1, h5.2⟩
end Nv
