/- What the program's check of a network tells about its interfaces; the program's Build in words. No condition but the bounds of what comes in. -/
import Derived.Test.YtaienbkgekjdnaaGreatNvTo2
import Derived.Test.YtaienbkgekjdnaaGreatNvQ4
import Derived.Test.YtaienbkgekjdnaaGreatNvQ2
set_option maxRecDepth 100000
namespace Nv
open Go Go.Sort Go.Proofs
theorem apart_of {a : TNetwork} (h : S.model_Check a = 0) : ApartN a := by
  intro r hr i hi k hk h1 h2 he
  have hc := check_router h hr
  have e1 : ((a.fRouters.getD r default).fInterfaces.getD i default).fLen ≠ 0 := fun hh => by
    unfold elig ifc at h1
    rw [hh] at h1; cases h1
  have e2 : ((a.fRouters.getD r default).fInterfaces.getD k default).fLen ≠ 0 := fun hh => by
    unfold elig ifc at h2
    rw [hh] at h2; cases h2
  have h3 := ifs_apart hc hi hk e1 e2
  unfold ikey ifc netP at he
  simp only [Prod.mk.injEq] at he
  have hm : mk32 ((a.fRouters.getD r default).fInterfaces.getD k default).fLen = mk32 ((a.fRouters.getD r default).fInterfaces.getD i default).fLen := by rw [← mk32_cl, he.2.1, mk32_cl]
  rw [overlap_of (x := ((a.fRouters.getD r default).fInterfaces.getD i default).fAddr) rfl (by rw [he.1, ← hm])] at h3
  cases h3
theorem small_n {a : TNetwork} (h : S.law13_Small a = true) : a.fRouters.length ≤ 9 ∧ ∀ r, nif a r ≤ 12 := by
  unfold S.law13_Small at h
  cases hl : decide ((a.fRouters.length : Int) > 9) with
  | true => rw [hl] at h; cases h
  | false =>
    rw [hl] at h
    simp only [cond_false, letS] at h
    refine ⟨by have := of_decide_eq_false hl; omega, fun r => ?_⟩
    rcases Nat.lt_or_ge r a.fRouters.length with hr | hr
    · rcases runN_cases (S.law13_Small_l1 a) (.inl ()) a.fRouters.length 0 with ⟨j, h1, h2, h3, h4⟩ | ⟨h1, h2⟩
      · revert h3 h
        generalize runN (S.law13_Small_l1 a) (.inl ()) 0 a.fRouters.length = z
        intro h h3
        unfold S.law13_Small_l1 at h3
        simp only [letS] at h3
        cases hs : S.law5_Small (a.fRouters.getD j default) with
        | true => rw [hs] at h3; cases h3
        | false =>
          rw [hs] at h3
          simp only [Bool.not_false, cond_true, Option.some.injEq] at h3
          rw [← h3] at h
          cases h
      · have := h2 r (Nat.zero_le _) (by omega)
        unfold S.law13_Small_l1 at this
        simp only [letS] at this
        cases hs : S.law5_Small (a.fRouters.getD r default) with
        | false => rw [hs] at this; cases this
        | true => exact (small_of hs).ifs
    · unfold nif
      rw [List.getD_eq_getElem?_getD, List.getElem?_eq_none hr]
      exact Nat.zero_le _
theorem build_ok {a : TNetwork} (ha : L_TNetwork a) (hR : a.fRouters.length ≤ 9) (hI : ∀ r, nif a r ≤ 12) : ∃ t e, M.topo_Build a = some (t, e) ∧ ((e ≠ 0 ∧ t = ⟨[], []⟩) ∨ (e = 0 ∧ ApartN a ∧ Grp (itN a a.fRouters.length) t.fDomains ∧ Asc t.fDomains ∧ t.fLinks = lks t.fDomains t.fDomains.length ∧ t.fDomains.length ≤ 108)) := by
  unfold M.topo_Build
  rw [s_model_Check a ha]
  simp only [Option.bind_some]
  cases hc : S.model_Check a != 0 with
  | true => exact ⟨_, _, rfl, .inl ⟨by simpa using hc, rfl⟩⟩
  | false =>
    have h0 : S.model_Check a = 0 := by simpa using hc
    have hl := itN_len a hI a.fRouters.length
    have hl2 : a.fRouters.length * 12 ≤ 9 * 12 := Nat.mul_le_mul_right _ hR
    obtain ⟨D, h1, h2⟩ := collect_ok hR hI
    obtain ⟨E, h3, h4, h5, h6⟩ := sort_ok h2 (by omega)
    have hE := h5.len
    have hd : decide (E.length = D.length) = true := dt h4
    rw [h1]
    simp only [cond_false, Option.bind_some, h3, gd, List.all_cons, List.all_nil, hd, id, Bool.and_self, cond_true, links_ok E (by omega)]
    cases hk : decide (((lks E E.length).length : Int) > 12) with
    | true => exact ⟨⟨[], []⟩, 7, rfl, .inl ⟨by decide, rfl⟩⟩
    | false => exact ⟨⟨E, lks E E.length⟩, 0, rfl, .inr ⟨rfl, apart_of h0, h5, h6, rfl, by show E.length ≤ 108; omega⟩⟩
end Nv
