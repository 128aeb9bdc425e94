/- The plain law of TopoBuilds. No condition but the bounds of what comes in. -/
import Derived.Test.YtaienbkgekjdnaaGreatNvTo2
import Derived.Test.YtaienbkgekjdnaaGreatNvTo5
import Derived.Test.YtaienbkgekjdnaaGreatNvQ3
import Derived.Test.YtaienbkgekjdnaaGreatNvT2
import Derived.Test.YtaienbkgekjdnaaGreatNvLW
set_option maxRecDepth 100000
namespace Nv
open Go Go.Sort Go.Proofs
theorem Zj8 {a : ZX} (h : S.VL a = true) : ∀ i, i < a.Zd.length → SmallR (a.Zd.getD i default) := by
  intro r hr
  unfold S.VL at h
  cases hl : decide ((a.Zd.length : Int) > 9) with
  | true => rw [hl] at h; cases h
  | false =>
    rw [hl] at h
    simp only [cond_false, letS] at h
    rcases Gl (S.YW a) (.inl ()) a.Zd.length 0 with ⟨j, h1, h2, h3, h4⟩ | ⟨h1, h2⟩
    · revert h3 h
      generalize runN (S.YW a) (.inl ()) 0 a.Zd.length = z
      intro h h3
      unfold S.YW at h3
      simp only [letS] at h3
      cases hs : S.VH (a.Zd.getD j default) with
      | true => rw [hs] at h3; cases h3
      | false =>
        rw [hs] at h3
        simp only [Bool.not_false, cond_true, Option.some.injEq] at h3
        rw [← h3] at h
        cases h
    · have := h2 r (Nat.zero_le _) (by omega)
      unfold S.YW at this
      simp only [letS] at this
      cases hs : S.VH (a.Zd.getD r default) with
      | false => rw [hs] at this; cases this
      | true => exact Zie hs
theorem Zj9 {a : ZX} (ha : Yt a) (hR : a.Zd.length ≤ 9) (hI : ∀ r, nif a r ≤ 12) :
    (S.QJ a ≠ 0 ∧ M.Wg a = some (⟨[], []⟩, S.QJ a)) ∨ (S.QJ a = 0 ∧ ∃ D, M.Wg a = some (topoOf D) ∧ Grp (itN a a.Zd.length) D ∧ Asc D) := by
  unfold M.Wg
  rw [Zcq a ha]
  simp only [Option.bind_some]
  cases hc : S.QJ a != 0 with
  | true => exact .inl ⟨by simpa using hc, rfl⟩
  | false =>
    right
    refine ⟨by simpa using hc, ?_⟩
    have hl := ZbQ a hI a.Zd.length
    have hl2 : a.Zd.length * 12 ≤ 9 * 12 := Nat.mul_le_mul_right _ hR
    obtain ⟨D, h1, h2⟩ := ZiR hR hI
    obtain ⟨E, h3, h4, h5, h6⟩ := Zl8 h2 (by omega)
    have hE := h5.len
    have hd : decide (E.length = D.length) = true := dt h4
    refine ⟨E, ?_, h5, h6⟩
    rw [h1]
    simp only [cond_false, Option.bind_some, h3, gd, List.all_cons, List.all_nil, hd, id, Bool.and_self, cond_true, Zln E (by omega)]
    unfold topoOf
    rw [show lks E E.length = rlks E E.length from rfl]
    cases decide (((rlks E E.length).length : Int) > 12) <;> rfl
theorem Zka (l : List VS) (hl : l.length ≤ maxLen) : M.UL l l = some true := by
  rw [Zh7 l l hl hl]
  unfold S.UL
  simp only [bne_self_eq_false, cond_false, letS]
  rw [ZgB]
  · rfl
  · intro i _
    unfold S.Wp
    simp
theorem Zkb (l : List Int) (hl : l.length ≤ maxLen) : M.UK l l = some true := by
  rw [Zh6 l l hl hl]
  unfold S.UK
  simp only [bne_self_eq_false, cond_false, letS]
  rw [ZgB]
  · rfl
  · intro i _
    unfold S.Wo
    simp
theorem ZgD (t : Qu) (h1 : t.XT.length ≤ 1000) (h2 : t.Wy.length ≤ 1000) (h3 : ∀ d ∈ t.XT, d.Xf.length ≤ 1000) : M.WR t t = some true := by
  have hM := Zm
  unfold M.WR
  simp only [bne_self_eq_false, gc, Bool.not_false, cond_true, Zkb t.Wy (by omega), Option.bind_some, Bool.not_true, Bool.or_self, cond_false]
  have h := GY (f := M.Vq t t) (σ := Unit) (fun i _ => (i : Int)) t.XT.length (fun _ _ => True) (fun y => y = .inl ())
    (fun i _ hi _ => by
      left
      refine ⟨(), ?_, trivial⟩
      have q1 : decide ((0 : Int) ≤ (i : Int)) = true := dt (by omega)
      have q2 : decide ((i : Int) < (t.XT.length : Int)) = true := dt (by omega)
      have := h3 _ (RU hi)
      unfold M.Vq
      simp only [Int.toNat_natCast, q1, q2, gd, List.all_cons, List.all_nil, id, Bool.and_self, cond_true, BEq.rfl, bne_self_eq_false, Bool.not_true, Bool.or_self, gc, Bool.not_false, Zka _ (show (t.XT.getD i default).Xf.length ≤ maxLen by omega), Option.bind_some, cond_false]
      rw [up64 (n := 2000) (by omega) (by omega)])
    (fun _ _ => by
      unfold M.Vq
      simp only [Int.lt_irrefl, decide_false, cond_false]
      exact ⟨_, rfl, rfl⟩) t.XT.length 0 () (by omega) trivial
  obtain ⟨y, h4, rfl⟩ := h
  rw [show loopM (M.Vq t t) 0 = some (.inl ()) from h4]
  rfl
theorem Zhm {n : ZX} {D : List Zk} (h : Grp (itN n n.Zd.length) D) (hR : n.Zd.length ≤ 9) (hI : ∀ r, nif n r ≤ 12) : (topoOf D).1.XT.length ≤ 1000 ∧ (topoOf D).1.Wy.length ≤ 1000 ∧ ∀ d ∈ (topoOf D).1.XT, d.Xf.length ≤ 1000 := by
  have hl := ZbQ n hI n.Zd.length
  have hl2 : n.Zd.length * 12 ≤ 9 * 12 := Nat.mul_le_mul_right _ hR
  have hE := h.len
  have hk := Zif D D.length
  have he : ∀ d ∈ D, d.Xf.length ≤ 1000 := fun d hd => by
    have := congrArg List.length (h.ends d hd)
    unfold dends sel at this
    rw [List.length_map, List.length_map] at this
    have h9 := List.length_filter_le (fun x => decide (x.1 = dkey d)) (itN n n.Zd.length)
    omega
  unfold topoOf
  cases decide (((rlks D D.length).length : Int) > 12) with
  | true => exact ⟨Nat.zero_le _, Nat.zero_le _, fun d hd => absurd hd List.not_mem_nil⟩
  | false => exact ⟨by show D.length ≤ 1000; omega, by show (rlks D D.length).length ≤ 1000; omega, he⟩
theorem Zem (a0 : ZX) (w0 : ZcN a0) : M.U7 a0 = some true := by
  have ha := Zf8 w0
  unfold M.U7
  rw [Zf5 a0 ha]
  simp only [Option.bind_some]
  cases hs : S.VL a0 with
  | false => rfl
  | true =>
    obtain ⟨hR, hI⟩ := Zlo hs
    have hq := Zl5 a0 (Zj8 hs)
    simp only [Bool.not_true, cond_false]
    rcases Zj9 ha hR hI with ⟨h1, h2⟩ | ⟨h1, D, h2, h3, h4⟩
    · rcases ZgC ha hR hI with ⟨g1, g2⟩ | ⟨g1, _⟩
      · rw [h2, g2, hq]
        simp only [Option.bind_some, BEq.rfl, gc, cond_true, ZgD ⟨[], []⟩ (Nat.zero_le _) (Nat.zero_le _) (fun d hd => absurd hd List.not_mem_nil), Bool.and_self, Zgv]
      · exact absurd (hq.trans g1) h1
    · rcases ZgC ha hR hI with ⟨g1, _⟩ | ⟨_, E, g2, g3, g4, _⟩
      · exact absurd (hq.symm.trans h1) g1
      · obtain rfl := ZiQ h3 g3 h4 g4
        obtain ⟨k1, k2, k3⟩ := Zhm h3 hR hI
        rw [h2, g2]
        simp only [Option.bind_some, BEq.rfl, gc, cond_true, ZgD _ k1 k2 k3, Bool.and_self, Zgv]
end Nv
