/- The plain law of TopoFailures. No condition. -/
import Derived.Test.YtaienbkgekjdnaaGreatNvFlr
import Derived.Test.YtaienbkgekjdnaaGreatNvT2
import Derived.Test.YtaienbkgekjdnaaGreatNvLW
import Derived.Test.YtaienbkgekjdnaaGreatNvTo1
set_option maxRecDepth 100000
namespace Nv
open Go Go.Proofs
theorem KK {f : Int → Option (Int ⊕ (Unit ⊕ Bool))} {n : Nat} (hn : n ≤ maxLen) (step : ∀ i : Nat, i < n → f (i : Int) = some (.inl (wr .i64 ((i : Int) + 1)))) (out : f (n : Int) = some (.inr (.inl ()))) : loopM f 0 = some (.inl ()) := by
  have hM := Kz
  obtain ⟨y, h1, h2⟩ := R1 (f := f) (σ := Unit) (fun i _ => (i : Int)) n (fun _ _ => True) (fun y => y = .inl ()) (fun i _ hi _ => .inl ⟨(), by rw [step i hi, ZdD (n := n) hi (by omega)], trivial⟩) (fun _ _ => ⟨_, out, rfl⟩) n 0 () (by omega) trivial
  rw [← h2]
  exact h1
theorem Zbk (l : List Int) (hl : l.length ≤ maxLen) : M.VJ l l = some true := by
  have h : loopM (M.JH l l) 0 = some (.inl ()) := KK (n := l.length) hl (fun i hi => by
    have q1 : decide ((0 : Int) ≤ (i : Int)) = true := decide_eq_true (by omega)
    have q2 : decide ((i : Int) < (l.length : Int)) = true := decide_eq_true (by omega)
    unfold M.JH
    simp only [Int.toNat_natCast, q1, q2, gd, List.all_cons, List.all_nil, id, bne_self_eq_false, Bool.and_self, cond_true, cond_false]) (by
    unfold M.JH
    simp only [Int.lt_irrefl, decide_false, cond_false])
  unfold M.VJ
  simp only [bne_self_eq_false, cond_false, h, Option.bind_some, Sum.elim_inl]
theorem Zbl (L : List (List Int)) (hL : L.length ≤ 1000) (hl : ∀ l ∈ L, l.length ≤ 2) : loopM (M.Yu (L, 0) (L, 0)) 0 = some (.inl ()) := by
  have hM := Kz
  refine KK (n := L.length) (by omega) (fun i hi => ?_) ?_
  · have q1 : decide ((0 : Int) ≤ (i : Int)) = true := decide_eq_true (by omega)
    have q2 : decide ((i : Int) < (L.length : Int)) = true := decide_eq_true (by omega)
    have hm : L.getD i default ∈ L := by rw [List.getD_eq_getElem?_getD, List.getElem?_eq_getElem hi]; exact List.getElem_mem hi
    have hk := Zbk (L.getD i default) (by have := hl _ hm; omega)
    unfold M.Yu
    simp only [Int.toNat_natCast, q1, q2, hk, gd, List.all_cons, List.all_nil, id, Bool.not_true, Bool.and_self, cond_true, cond_false, Option.bind_some]
  · unfold M.Yu
    simp only [Int.lt_irrefl, decide_false, cond_false]
theorem Uk (a0 a1 : Int) (_w0 : (Lit.int .i64 a0).wf = true) (_w1 : (Lit.int .i64 a1).wf = true) : M.QT a0 a1 = some true := by
  have key : ∃ L e, M.Ye a0 a1 = some (L, e) ∧ M.X3 a0 a1 = some (L, e) ∧ L.length ≤ 1000 ∧ ∀ l ∈ L, l.length ≤ 2 := by
    by_cases h : 0 ≤ a0 ∧ a0 ≤ 12 ∧ 0 ≤ a1 ∧ a1 ≤ 2
    · obtain ⟨h1, h3⟩ := ZdO h.1 h.2.1 h.2.2.1 h.2.2.2
      exact ⟨_, _, h1, ZdC h.1 h.2.1 h.2.2.1 h.2.2.2, h3, fun l hl => ZdB hl⟩
    · have hc : ((((decide (a0 < 0)) || (decide (a0 > 12))) || (decide (a1 < 0))) || (decide (a1 > 2))) = true := by
        simp only [Bool.or_eq_true, decide_eq_true_eq]
        omega
      refine ⟨[], 1, ?_, ?_, Nat.zero_le _, fun l hl => absurd hl List.not_mem_nil⟩
      · unfold M.Ye; rw [hc]; rfl
      · unfold M.X3; rw [hc]; rfl
  obtain ⟨L, e, h1, h2, h3, h4⟩ := key
  have h5 : loopM (M.Yu (L, e) (L, e)) 0 = some (.inl ()) := Zbl L h3 h4
  unfold M.QT
  simp only [h1, h2, Option.bind_some, bne_self_eq_false, Bool.or_self, cond_false, h5, Sum.elim_inl, Ri, Zbj]
end Nv
