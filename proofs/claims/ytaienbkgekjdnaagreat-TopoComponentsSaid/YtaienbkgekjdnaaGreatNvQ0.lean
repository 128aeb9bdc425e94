/- Masks of addresses: the program's and the reference's are one. -/
import Derived.Test.YtaienbkgekjdnaaGreatNvD1
import Derived.Test.YtaienbkgekjdnaaGreatNvLibB
import Derived.KernelRfl
namespace Nv
open Go
theorem Zdw (n : Int) : M.Jg n = M.Jg (cl32 n) := by
  unfold M.Jg
  rw [Zhj (f := M.W0 n) (f' := M.W0 (cl32 n)) (fun p => 0 ≤ p.2 ∧ p.2 ≤ 32) ?_ ?_ (by simp)]
  · intro p ⟨h1, h2⟩
    unfold M.W0
    have e : p.2 < 32 → decide (p.2 < n) = decide (p.2 < cl32 n) := fun h3 => by
      unfold cl32
      congr 1
      split <;> (try split) <;> simp <;> omega
    cases h : decide (p.2 < 32) with
    | false => rfl
    | true => rw [e (of_decide_eq_true h)]
  · intro p p' ⟨h1, h2⟩ h
    unfold M.W0 at h
    cases h3 : decide (p.2 < 32) with
    | false => rw [h3] at h; cases h
    | true =>
      have h4 := of_decide_eq_true h3
      have e : wr .i64 (p.2 + 1) = p.2 + 1 := by unfold wr; exact IntWalk.i64_in _ (by omega)
      simp only [h3, cond_true, M.U1, e] at h
      have : p'.2 = p.2 + 1 := by
        cases h5 : decide (p.2 < n) with
        | false =>
          simp only [h5, cond_false, Option.some.injEq, Sum.inl.injEq] at h
          rw [← h]
        | true =>
          simp only [h5, cond_true] at h
          have := (Zr h).2
          simp only [Option.some.injEq, Sum.inl.injEq] at this
          rw [← this]
      omega
theorem masks : (List.range 33).all (fun n => decide (loopN 40 (M.W0 (n : Int)) (0, 0) = some (mk32 (n : Int)))) = true := by kernel_rfl
def S.Jg (n : Int) : Int := mk32 n
theorem Zab (n : Int) : M.Jg n = some (S.Jg n) := by
  have h := KL n
  rw [Zdw]
  unfold S.Jg
  rw [← ZbR]
  have h1 := List.all_eq_true.1 masks (cl32 n).toNat (by simp; omega)
  have h2 := of_decide_eq_true h1
  have e3 : (((cl32 n).toNat : Nat) : Int) = cl32 n := by omega
  rw [e3] at h2
  unfold M.Jg
  rw [ZK (fun _ _ h => h) _ h2]
  rfl
end Nv
