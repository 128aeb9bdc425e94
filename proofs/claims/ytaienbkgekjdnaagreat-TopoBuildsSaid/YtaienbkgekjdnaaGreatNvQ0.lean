/- Masks of addresses: the program's and the reference's are one. -/
import Derived.Test.YtaienbkgekjdnaaGreatNvD1
import Derived.Test.YtaienbkgekjdnaaGreatNvLibB
import Derived.KernelRfl
namespace Nv
open Go
def S.JO (n : Int) : Int := Ka n
theorem Ze2 (n : Int) : M.JO n = some (S.JO n) := by
  unfold M.JO S.JO Ka
  congr 1
  split <;> split <;> (try split) <;> omega
def S.J6 (n : Int) : Int := Zjd n
theorem Zcr (n : Int) : M.J6 n = some (S.J6 n) := by
  have h := ZdR n
  unfold M.J6 S.J6 Zjd
  rw [Ze2]
  simp only [Option.bind_some, S.JO]
  have e : wr .i64 (32 - Ka n) = 32 - Ka n := by unfold wr; exact IntWalk.i64_in _ (by omega)
  rw [e, Zpb (by intro b hb; simp at hb; subst hb; simp; omega)]
  have e2 : min (32 - Ka n).toNat 32 = 32 - (Ka n).toNat := by omega
  rw [e2]
theorem Zgi (n : Int) : M.VE n = M.VE (Ka n) := by
  unfold M.VE
  rw [Zld (f := M.UX n) (f' := M.UX (Ka n)) (fun p => 0 ≤ p.2 ∧ p.2 ≤ 32) ?_ ?_ (by simp)]
  · intro p ⟨h1, h2⟩
    unfold M.UX
    have e : p.2 < 32 → decide (p.2 < n) = decide (p.2 < Ka n) := fun h3 => by
      unfold Ka
      congr 1
      split <;> (try split) <;> simp <;> omega
    cases h : decide (p.2 < 32) with
    | false => rfl
    | true => rw [e (of_decide_eq_true h)]
  · intro p p' ⟨h1, h2⟩ h
    unfold M.UX at h
    cases h3 : decide (p.2 < 32) with
    | false => rw [h3] at h; cases h
    | true =>
      have h4 := of_decide_eq_true h3
      have e : wr .i64 (p.2 + 1) = p.2 + 1 := by unfold wr; exact IntWalk.i64_in _ (by omega)
      simp only [h3, cond_true, M.Ku, e] at h
      have : p'.2 = p.2 + 1 := by
        cases h5 : decide (p.2 < n) with
        | false =>
          simp only [h5, cond_false, Option.some.injEq, Sum.inl.injEq] at h
          rw [← h]
        | true =>
          simp only [h5, cond_true] at h
          have := (ZA h).2
          simp only [Option.some.injEq, Sum.inl.injEq] at this
          rw [← this]
      omega
theorem ZqA : (List.range 33).all (fun n => decide (K8 40 (M.UX (n : Int)) (0, 0) = some (Zjd (n : Int)))) = true := by kernel_rfl
def S.VE (n : Int) : Int := Zjd n
theorem Zcs (n : Int) : M.VE n = some (S.VE n) := by
  have h := ZdR n
  rw [Zgi]
  unfold S.VE
  rw [← Zje]
  have h1 := List.all_eq_true.1 ZqA (Ka n).toNat (by simp; omega)
  have h2 := of_decide_eq_true h1
  have e3 : (((Ka n).toNat : Nat) : Int) = Ka n := by omega
  rw [e3] at h2
  unfold M.VE
  rw [Gs (fun _ _ h => h) _ h2]
  rfl
end Nv
