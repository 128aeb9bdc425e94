/- The plain law of TopoBuilds. No condition but the bounds of what comes in. -/
import Derived.Test.YtaienbkgekjdnaaGreatNvTo2
import Derived.Test.YtaienbkgekjdnaaGreatNvTo5
import Derived.Test.YtaienbkgekjdnaaGreatNvQ3
import Derived.Test.YtaienbkgekjdnaaGreatNvT2
import Derived.Test.YtaienbkgekjdnaaGreatNvLW
set_option maxRecDepth 100000
namespace Nv
open Go Go.Sort Go.Proofs
theorem Zm7 {a : ZY} (h : S.V2 a = true) : ∀ i, i < a.Zd.length → ZlA (a.Zd.getD i default) := by
  intro r hr
  unfold S.V2 at h
  cases hl : decide ((a.Zd.length : Int) > 9) with
  | true => rw [hl] at h; cases h
  | false =>
    rw [hl] at h
    simp only [cond_false, ZS] at h
    rcases GY (S.Y3 a) (.inl ()) a.Zd.length 0 with ⟨j, h1, h2, h3, h4⟩ | ⟨h1, h2⟩
    · revert h3 h
      generalize Xp (S.Y3 a) (.inl ()) 0 a.Zd.length = z
      intro h h3
      unfold S.Y3 at h3
      simp only [ZS] at h3
      cases hs : S.VW (a.Zd.getD j default) with
      | true => rw [hs] at h3; cases h3
      | false =>
        rw [hs] at h3
        simp only [Bool.not_false, cond_true, Option.some.injEq] at h3
        rw [← h3] at h
        cases h
    · have := h2 r (Nat.zero_le _) (by omega)
      unfold S.Y3 at this
      simp only [ZS] at this
      cases hs : S.VW (a.Zd.getD r default) with
      | false => rw [hs] at this; cases this
      | true => exact ZkL hs
theorem Zm8 {a : ZY} (ha : Yy a) (hR : a.Zd.length ≤ 9) (hI : ∀ r, nif a r ≤ 12) :
    (S.QS a ≠ 0 ∧ M.Wx a = some (⟨[], []⟩, S.QS a)) ∨ (S.QS a = 0 ∧ ∃ D, M.Wx a = some (ZcL D) ∧ Grp (itN a a.Zd.length) D ∧ Asc D) := by
  unfold M.Wx
  rw [ZdG a ha]
  simp only [Option.bind_some]
  cases hc : S.QS a != 0 with
  | true => exact .inl ⟨by simpa using hc, rfl⟩
  | false =>
    right
    refine ⟨by simpa using hc, ?_⟩
    have hl := Zc4 a hI a.Zd.length
    have hl2 : a.Zd.length * 12 ≤ 9 * 12 := Nat.mul_le_mul_right _ hR
    obtain ⟨D, h1, h2⟩ := ZlF hR hI
    obtain ⟨E, h3, h4, h5, h6⟩ := Zpy h2 (by omega)
    have hE := h5.len
    have hd : decide (E.length = D.length) = true := dt h4
    refine ⟨E, ?_, h5, h6⟩
    rw [h1]
    simp only [cond_false, Option.bind_some, h3, gd, List.all_cons, List.all_nil, hd, id, Bool.and_self, cond_true, ZoE E (by omega)]
    unfold ZcL
    rw [show lks E E.length = ZcK E E.length from rfl]
    cases decide (((ZcK E E.length).length : Int) > 12) <;> rfl
theorem Zm9 (l : List V9) (hl : l.length ≤ maxLen) : M.Gc l l = some true := by
  rw [ZkE l l hl hl]
  unfold S.Gc
  simp only [bne_self_eq_false, cond_false, ZS]
  rw [ZiN]
  · rfl
  · intro i _
    unfold S.WG
    simp
theorem Zna (l : List Int) (hl : l.length ≤ maxLen) : M.Gb l l = some true := by
  rw [ZkD l l hl hl]
  unfold S.Gb
  simp only [bne_self_eq_false, cond_false, ZS]
  rw [ZiN]
  · rfl
  · intro i _
    unfold S.WF
    simp
theorem ZiP (t : QB) (h1 : t.XW.length ≤ 1000) (h2 : t.WP.length ≤ 1000) (h3 : ∀ d ∈ t.XW, d.Xh.length ≤ 1000) : M.W9 t t = some true := by
  have hM := Zm
  unfold M.W9
  simp only [bne_self_eq_false, gc, Bool.not_false, cond_true, Zna t.WP (by omega), Option.bind_some, Bool.not_true, Bool.or_self, cond_false]
  have h := KC (f := M.VF t t) (σ := Unit) (fun i _ => (i : Int)) t.XW.length (fun _ _ => True) (fun y => y = .inl ())
    (fun i _ hi _ => by
      left
      refine ⟨(), ?_, trivial⟩
      have q1 : decide ((0 : Int) ≤ (i : Int)) = true := dt (by omega)
      have q2 : decide ((i : Int) < (t.XW.length : Int)) = true := dt (by omega)
      have := h3 _ (ZaR hi)
      unfold M.VF
      simp only [Int.toNat_natCast, q1, q2, gd, List.all_cons, List.all_nil, id, Bool.and_self, cond_true, BEq.rfl, bne_self_eq_false, Bool.not_true, Bool.or_self, gc, Bool.not_false, Zm9 _ (show (t.XW.getD i default).Xh.length ≤ maxLen by omega), Option.bind_some, cond_false]
      rw [ZfR (n := 2000) (by omega) (by omega)])
    (fun _ _ => by
      unfold M.VF
      simp only [Int.lt_irrefl, decide_false, cond_false]
      exact ⟨_, rfl, rfl⟩) t.XW.length 0 () (by omega) trivial
  obtain ⟨y, h4, rfl⟩ := h
  rw [show ZZ (M.VF t t) 0 = some (.inl ()) from h4]
  rfl
theorem ZjI {n : ZY} {D : List Zk} (h : Grp (itN n n.Zd.length) D) (hR : n.Zd.length ≤ 9) (hI : ∀ r, nif n r ≤ 12) : (ZcL D).1.XW.length ≤ 1000 ∧ (ZcL D).1.WP.length ≤ 1000 ∧ ∀ d ∈ (ZcL D).1.XW, d.Xh.length ≤ 1000 := by
  have hl := Zc4 n hI n.Zd.length
  have hl2 : n.Zd.length * 12 ≤ 9 * 12 := Nat.mul_le_mul_right _ hR
  have hE := h.len
  have hk := ZkN D D.length
  have he : ∀ d ∈ D, d.Xh.length ≤ 1000 := fun d hd => by
    have := congrArg List.length (h.ends d hd)
    unfold Zby sel at this
    rw [List.length_map, List.length_map] at this
    have h9 := List.length_filter_le (fun x => decide (x.1 = Vg d)) (itN n n.Zd.length)
    omega
  unfold ZcL
  cases decide (((ZcK D D.length).length : Int) > 12) with
  | true => exact ⟨Nat.zero_le _, Nat.zero_le _, fun d hd => absurd hd List.not_mem_nil⟩
  | false => exact ⟨by show D.length ≤ 1000; omega, by show (ZcK D D.length).length ≤ 1000; omega, he⟩
theorem ZfT (a0 : ZY) (w0 : Zd5 a0) : M.GE a0 = some true := by
  have ha := Zid w0
  unfold M.GE
  rw [Zia a0 ha]
  simp only [Option.bind_some]
  cases hs : S.V2 a0 with
  | false => rfl
  | true =>
    obtain ⟨hR, hI⟩ := ZoF hs
    have hq := Zpv a0 (Zm7 hs)
    simp only [Bool.not_true, cond_false]
    rcases Zm8 ha hR hI with ⟨h1, h2⟩ | ⟨h1, D, h2, h3, h4⟩
    · rcases ZiO ha hR hI with ⟨g1, g2⟩ | ⟨g1, _⟩
      · rw [h2, g2, hq]
        simp only [Option.bind_some, BEq.rfl, gc, cond_true, ZiP ⟨[], []⟩ (Nat.zero_le _) (Nat.zero_le _) (fun d hd => absurd hd List.not_mem_nil), Bool.and_self, ZiH]
      · exact absurd (hq.trans g1) h1
    · rcases ZiO ha hR hI with ⟨g1, _⟩ | ⟨_, E, g2, g3, g4, _⟩
      · exact absurd (hq.symm.trans h1) g1
      · obtain rfl := ZlD h3 g3 h4 g4
        obtain ⟨k1, k2, k3⟩ := ZjI h3 hR hI
        rw [h2, g2]
        simp only [Option.bind_some, BEq.rfl, gc, cond_true, ZiP _ k1 k2 k3, Bool.and_self, ZiH]
end Nv
