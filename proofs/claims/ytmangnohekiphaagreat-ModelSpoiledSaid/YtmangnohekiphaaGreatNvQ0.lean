/- Masks of addresses: the program's and the reference's are one. -/
import Derived.Test.YtmangnohekiphaaGreatNvD1
import Derived.Test.YtmangnohekiphaaGreatNvLibB
import Derived.KernelRfl
namespace Nv
open Go
def S.addr_clamp (n : Int) : Int := cl32 n
theorem s_addr_clamp (n : Int) : M.addr_clamp n = some (S.addr_clamp n) := by
  unfold M.addr_clamp S.addr_clamp cl32
  congr 1
  split <;> split <;> (try split) <;> omega
def S.addr_Mask (n : Int) : Int := mk32 n
theorem s_addr_Mask (n : Int) : M.addr_Mask n = some (S.addr_Mask n) := by
  have h := cl32_range n
  unfold M.addr_Mask S.addr_Mask mk32
  rw [s_addr_clamp]
  simp only [Option.bind_some, S.addr_clamp]
  have e : wr .i64 (32 - cl32 n) = 32 - cl32 n := by unfold wr; exact IntWalk.i64_in _ (by omega)
  rw [e, gd_true (by intro b hb; simp at hb; subst hb; simp; omega)]
  have e2 : min (32 - cl32 n).toNat 32 = 32 - (cl32 n).toNat := by omega
  rw [e2]
theorem ref4_Mask_clamp (n : Int) : M.ref4_Mask n = M.ref4_Mask (cl32 n) := by
  unfold M.ref4_Mask
  rw [loop_congr (f := M.ref4_Mask_l1 n) (f' := M.ref4_Mask_l1 (cl32 n)) (fun p => 0 ≤ p.2 ∧ p.2 ≤ 32) ?_ ?_ (by simp)]
  · intro p ⟨h1, h2⟩
    unfold M.ref4_Mask_l1
    have e : p.2 < 32 → decide (p.2 < n) = decide (p.2 < cl32 n) := fun h3 => by
      unfold cl32
      congr 1
      split <;> (try split) <;> simp <;> omega
    cases h : decide (p.2 < 32) with
    | false => rfl
    | true => rw [e (of_decide_eq_true h)]
  · intro p p' ⟨h1, h2⟩ h
    unfold M.ref4_Mask_l1 at h
    cases h3 : decide (p.2 < 32) with
    | false => rw [h3] at h; cases h
    | true =>
      have h4 := of_decide_eq_true h3
      have e : wr .i64 (p.2 + 1) = p.2 + 1 := by unfold wr; exact IntWalk.i64_in _ (by omega)
      simp only [h3, cond_true, M.ref4_Mask_k1, e] at h
      have : p'.2 = p.2 + 1 := by
        cases h5 : decide (p.2 < n) with
        | false =>
          simp only [h5, cond_false, Option.some.injEq, Sum.inl.injEq] at h
          rw [← h]
        | true =>
          simp only [h5, cond_true] at h
          have := (gd_some h).2
          simp only [Option.some.injEq, Sum.inl.injEq] at this
          rw [← this]
      omega
theorem masks : (List.range 33).all (fun n => decide (loopN 40 (M.ref4_Mask_l1 (n : Int)) (0, 0) = some (mk32 (n : Int)))) = true := by kernel_rfl
def S.ref4_Mask (n : Int) : Int := mk32 n
theorem s_ref4_Mask (n : Int) : M.ref4_Mask n = some (S.ref4_Mask n) := by
  have h := cl32_range n
  rw [ref4_Mask_clamp]
  unfold S.ref4_Mask
  rw [← mk32_cl]
  have h1 := List.all_eq_true.1 masks (cl32 n).toNat (by simp; omega)
  have h2 := of_decide_eq_true h1
  have e3 : (((cl32 n).toNat : Nat) : Int) = cl32 n := by omega
  rw [e3] at h2
  unfold M.ref4_Mask
  rw [ref_loop (fun _ _ h => h) _ h2]
  rfl
end Nv
