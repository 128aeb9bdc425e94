/- Views: what is known of them. No condition but the bounds of what comes in. -/
import Derived.Test.YtaienbkgekjdnaaGreatNvTo5
import Derived.Test.YtaienbkgekjdnaaGreatNvLW
set_option maxRecDepth 100000
namespace Nv
open Go
structure VF (v : Xq) : Prop where
  nr : v.X5.Zd.length ≤ 9
  ni : ∀ r, nif v.X5 r ≤ 12
  ln : Yx v.X5
  ap : ApartN v.X5
  chk : S.Q2 v.X5 = 0
  grp : Grp (itN v.X5 v.X5.Zd.length) v.ZV.Zv
  asc : Asc v.ZV.Zv
  len : v.ZV.Zv.length ≤ 108
  lks : v.ZV.XB = rlks v.ZV.Zv v.ZV.Zv.length
  dn : v.Qy.length ≤ 2
  dpos : ∀ x ∈ v.Qy, 0 ≤ x ∧ x < (v.ZV.XB.length : Int)
theorem VF.ends {v : Xq} (h : VF v) {d : Zh} (hd : d ∈ v.ZV.Zv) : d.ZU.length ≤ 108 := by
  have := congrArg List.length (h.grp.ends d hd)
  unfold dends sel at this
  rw [List.length_map, List.length_map] at this
  have h1 := List.length_filter_le (fun x => decide (x.1 = dkey d)) (itN v.X5 v.X5.Zd.length)
  have h2 := ZdY v.X5 h.ni v.X5.Zd.length
  have h3 : v.X5.Zd.length * 12 ≤ 9 * 12 := Nat.mul_le_mul_right _ h.nr
  omega
theorem VF.L {v : Xq} (h : VF v) : Ww v := by
  have hM := Zu
  have h1 := h.len
  have h2 := h.dn
  refine ⟨h.ln, ⟨⟨by omega, fun d hd => ?_⟩, ?_⟩, by omega⟩
  · have := h.ends hd
    show d.ZU.length ≤ maxLen
    omega
  · rw [h.lks]
    have := ZeS v.ZV.Zv v.ZV.Zv.length
    omega
theorem ZlG {l : List Int} {n : Int} (h : S.QF l n = true) : l.length ≤ 2 ∧ ∀ x ∈ l, 0 ≤ x ∧ x < n := by
  unfold S.QF at h
  cases hl : decide ((l.length : Int) > 2) with
  | true => rw [hl] at h; cases h
  | false =>
    rw [hl] at h
    simp only [cond_false, letS] at h
    refine ⟨by have := of_decide_eq_false hl; omega, fun x hx => ?_⟩
    obtain ⟨j, hj, hjx⟩ := List.getElem_of_mem hx
    have hget : l.getD j default = x := by rw [List.getD_eq_getElem?_getD, List.getElem?_eq_getElem hj]; exact hjx
    have key : S.X6 l n j = none := by
      rcases WZ (S.X6 l n) (.inl ()) l.length 0 with ⟨k, h1, h2, h3, h4⟩ | ⟨h1, h2⟩
      · exfalso
        revert h3 h
        generalize runN (S.X6 l n) (.inl ()) 0 l.length = z
        intro h h3
        unfold S.X6 at h3
        revert h3
        generalize ((_ || _ : Bool)) = b
        intro h3
        cases b
        · cases h3
        · cases h3; cases h
      · exact h2 j (Nat.zero_le _) (by omega)
    unfold S.X6 at key
    rw [hget] at key
    cases h1 : decide (x < 0) with
    | true => rw [h1] at key; simp at key
    | false =>
      cases h2 : decide (x ≥ n) with
      | true => rw [h1, h2] at key; simp at key
      | false =>
        have g1 := of_decide_eq_false h1
        have g2 := of_decide_eq_false h2
        omega
theorem Zia {a : ZB} (ha : Yx a) (dn : List Int) (hd : dn.length ≤ maxLen) : ∃ v ok, M.Uq a dn = some (v, ok) ∧ (ok = true → VF v ∧ v.X5 = a ∧ v.Qy = dn ∧ ∀ dn', dn'.length ≤ maxLen → ∃ v' ok', M.Uq a dn' = some (v', ok') ∧ (ok' = true → v'.ZV = v.ZV)) := by
  have key : S.JT a = true → a.Zd.length ≤ 9 ∧ ∀ r, nif a r ≤ 12 := Zj7
  have gen : ∀ dn : List Int, dn.length ≤ maxLen → ∃ v ok, M.Uq a dn = some (v, ok) ∧ (ok = true → VF v ∧ v.X5 = a ∧ v.Qy = dn ∧ (S.JT a = true ∧ ∃ D, M.Up a = some (topoOf D) ∧ v.ZV = (topoOf D).1)) := fun dn hd => by
    unfold M.Uq
    rw [Ze5 a ha]
    simp only [Option.bind_some]
    cases hs : S.JT a with
    | false => exact ⟨_, _, rfl, fun h => by cases h⟩
    | true =>
      obtain ⟨hR, hI⟩ := key hs
      cases hl : decide ((dn.length : Int) > 2) with
      | true => exact ⟨_, _, rfl, fun h => by cases h⟩
      | false =>
        simp only [Bool.not_true, Bool.or_self, cond_false]
        have hl2 := of_decide_eq_false hl
        unfold M.KP
        rcases ZiW ha hR hI with ⟨h1, h2⟩ | ⟨h1, D, h2, h3, h4, h5⟩
        · rw [h2]
          simp only [Option.bind_some]
          rw [show (S.Q2 a != 0) = true by simpa using h1]
          exact ⟨_, _, rfl, fun h => by simp at h; exact absurd h h1⟩
        · rw [h2]
          simp only [Option.bind_some]
          unfold topoOf
          cases hk : decide (((rlks D D.length).length : Int) > 12) with
          | true => exact ⟨_, _, rfl, fun h => by cases h⟩
          | false =>
            simp only [cond_false, bne_self_eq_false]
            rw [Zcx dn _ hd]
            simp only [Option.bind_some]
            cases hasc : S.QF dn ((rlks D D.length).length : Int) with
            | false => exact ⟨_, _, rfl, fun h => by cases h⟩
            | true =>
              obtain ⟨g1, g2⟩ := ZlG hasc
              have gc1 : decide ((0 + dn.length) * 8 ≤ 140737488355328) = true := dt (by omega)
              simp only [Bool.not_true, cond_false, gd, List.all_cons, List.all_nil, decide_true, Bool.true_or, id, gc1, Bool.and_self, cond_true, Option.bind_some, BEq.rfl]
              refine ⟨_, _, rfl, fun _ => ⟨⟨hR, hI, ha, rapart h1, h1, h3, h4, h5, rfl, g1, g2⟩, rfl, rfl, trivial, D, ?_, ?_⟩⟩
              · rw [hk]; rfl
              · rw [hk]; rfl
  obtain ⟨v, ok, h1, h2⟩ := gen dn hd
  refine ⟨v, ok, h1, fun hok => ?_⟩
  obtain ⟨g1, g2, g3, _, D, g4, g5⟩ := h2 hok
  refine ⟨g1, g2, g3, fun dn' hd' => ?_⟩
  obtain ⟨v', ok', k1, k2⟩ := gen dn' hd'
  refine ⟨v', ok', k1, fun hok' => ?_⟩
  obtain ⟨_, _, _, _, D', k4, k5⟩ := k2 hok'
  rw [k4] at g4
  rw [k5, g5, Option.some.inj g4]
def has (d : Zh) (e : DEnd) : Bool := decide (e ∈ dends d)
def domI (v : Xq) (e : DEnd) : Int := idxN (fun k => has (v.ZV.Zv.getD k default) e) v.ZV.Zv.length
theorem Zk4 {d : Zh} {x y : Int} : anyN (fun j => ((d.ZU.getD j default).Xp == x) && ((d.ZU.getD j default).J2 == y)) d.ZU.length = has d (x, y) := by
  unfold has dends
  rw [Bool.eq_iff_iff, UN, decide_eq_true_eq]
  simp only [Bool.and_eq_true, beq_iff_eq, List.mem_map]
  constructor
  · rintro ⟨j, hj, h1, h2⟩
    refine ⟨d.ZU.getD j default, ?_, by unfold dend; rw [h1, h2]⟩
    rw [List.getD_eq_getElem?_getD, List.getElem?_eq_getElem hj]; exact List.getElem_mem hj
  · rintro ⟨e, he, h1⟩
    obtain ⟨j, hj, hje⟩ := List.getElem_of_mem he
    unfold dend at h1
    simp only [Prod.mk.injEq] at h1
    refine ⟨j, hj, ?_⟩
    rw [List.getD_eq_getElem?_getD, List.getElem?_eq_getElem hj, Option.getD_some, hje]
    exact h1
theorem Zby (v : Xq) (e : DEnd) : (∃ k, k < v.ZV.Zv.length ∧ e ∈ dends (v.ZV.Zv.getD k default) ∧ domI v e = (k : Int)) ∨ (domI v e = -1 ∧ ∀ d ∈ v.ZV.Zv, e ∉ dends d) := by
  unfold domI
  rcases Zba (fun k => has (v.ZV.Zv.getD k default) e) v.ZV.Zv.length with ⟨k, h1, h2, h3, h4⟩ | ⟨h1, h2⟩
  · exact .inl ⟨k, h1, of_decide_eq_true h2, h4⟩
  · refine .inr ⟨h1, fun d hd he => ?_⟩
    obtain ⟨j, hj, rfl⟩ := ZcD hd
    have := h2 j hj
    unfold has at this
    exact of_decide_eq_false this he
theorem VF.one {v : Xq} (h : VF v) {d d' : Zh} (hd : d ∈ v.ZV.Zv) (hd' : d' ∈ v.ZV.Zv) {e : DEnd} (he : e ∈ dends d) (he' : e ∈ dends d') : d = d' := by
  refine ZiP h.grp.nd hd hd' ?_
  exact Zk1 (ZiR _ _) (ZdW.1 (h.grp.ends d hd ▸ he)) (ZdW.1 (h.grp.ends d' hd' ▸ he'))
theorem VF.domI_eq {v : Xq} (h : VF v) {k : Nat} (hk : k < v.ZV.Zv.length) {e : DEnd} (he : e ∈ dends (v.ZV.Zv.getD k default)) : domI v e = (k : Int) := by
  rcases Zby v e with ⟨j, h1, h2, h3⟩ | ⟨_, h2⟩
  · have h4 := h.one (V4 h1) (V4 hk) h2 he
    have h5 : j = k := by
      rcases Nat.lt_trichotomy j k with g | g | g
      · have := Zgc h.asc g hk
        rw [h4] at this
        exact absurd this (ZdX _)
      · exact g
      · have := Zgc h.asc g h1
        rw [h4] at this
        exact absurd this (ZdX _)
    rw [h3, h5]
  · exact absurd he (h2 _ (V4 hk))
def lnkI (v : Xq) (d : Int) : Int := idxN (fun k => d == v.ZV.XB.getD k default) v.ZV.XB.length
def upV (v : Xq) (e : DEnd) : Bool := bif decide (domI v e < 0) then false else (decide (lnkI v (domI v e) < 0) || !anyN (fun k => lnkI v (domI v e) == v.Qy.getD k default) v.Qy.length)
def nbs (v : Xq) (e : DEnd) : List Qo := bif upV v e then (v.ZV.Zv.getD (domI v e).toNat default).ZU.filter (fun x => x.Xp != e.1) else []
theorem Rb {v : Xq} (h : VF v) {e : DEnd} {x : Qo} : x ∈ nbs v e ↔ upV v e = true ∧ ∃ k, k < v.ZV.Zv.length ∧ domI v e = (k : Int) ∧ e ∈ dends (v.ZV.Zv.getD k default) ∧ dend x ∈ dends (v.ZV.Zv.getD k default) ∧ x.Xp ≠ e.1 := by
  unfold nbs
  cases hu : upV v e with
  | false => simp
  | true =>
    simp only [cond_true, true_and, List.mem_filter]
    have hd : ¬ domI v e < 0 := fun hh => by
      unfold upV at hu
      rw [decide_eq_true hh] at hu
      cases hu
    rcases Zby v e with ⟨k, h1, h2, h3⟩ | ⟨h1, _⟩
    · rw [h3, Int.toNat_natCast]
      constructor
      · rintro ⟨g1, g2⟩
        exact ⟨k, h1, rfl, h2, List.mem_map.2 ⟨x, g1, rfl⟩, by simpa using g2⟩
      · rintro ⟨j, g1, g2, g3, g4, g5⟩
        obtain rfl : k = j := by omega
        obtain ⟨y, g6, g7⟩ := List.mem_map.1 g4
        rw [ZgY g7] at g6
        exact ⟨g6, by simpa using g5⟩
    · omega
theorem Zg0 {f : List Qo × Int → Option ((List Qo × Int) ⊕ List Qo)} {es : List Qo} (hb : es.length ≤ 1000) (p : Qo → Bool)
    (step : ∀ (l : List Qo) (i : Nat), i < es.length → l.length ≤ i → f (l, (i : Int)) = some (.inl (bif p (es.getD i default) then l ++ [es.getD i default] else l, ((i + 1 : Nat) : Int))))
    (out : ∀ l, f (l, (es.length : Int)) = some (.inr l)) : loopM f (([] : List Qo), 0) = some (es.filter p) := by
  have h := Wj (f := f) (σ := List Qo) (fun i l => (l, (i : Int))) es.length (fun i l => l = (es.take i).filter p) (fun y => y = es.filter p)
    (fun i l hi hJ => ?_) (fun l hJ => ?_) es.length 0 [] (by omega) rfl
  · obtain ⟨y, h1, rfl⟩ := h
    exact h1
  · left
    subst hJ
    have hl : ((es.take i).filter p).length ≤ i := Nat.le_trans (List.length_filter_le _ _) (by simp; omega)
    refine ⟨_, step _ i hi hl, ?_⟩
    have hts : es.take (i + 1) = es.take i ++ [es.getD i default] := by
      rw [List.take_add_one, List.getD_eq_getElem?_getD, List.getElem?_eq_getElem hi]; rfl
    rw [hts, List.filter_append, List.filter_cons]
    cases p (es.getD i default) <;> simp
  · subst hJ
    exact ⟨_, out _, by rw [List.take_length]⟩
theorem VF.inN {v : Xq} (h : VF v) {d : Zh} (hd : d ∈ v.ZV.Zv) {x : Qo} (hx : dend x ∈ dends d) : ∃ r i, r < v.X5.Zd.length ∧ i < nif v.X5 r ∧ elig (ifc v.X5 r i) = true ∧ dkey d = ikey (ifc v.X5 r i) ∧ x.Xp = (r : Int) ∧ x.J2 = (i : Int) := by
  obtain ⟨r, i, h1, h2, h3, h4, h5⟩ := Zk2 h.grp hd hx
  unfold dend at h5
  simp only [Prod.mk.injEq] at h5
  exact ⟨r, i, h1, h2, h3, h4, h5.1, h5.2⟩
end Nv
