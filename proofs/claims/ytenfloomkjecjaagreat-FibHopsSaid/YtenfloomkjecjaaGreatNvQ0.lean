/- Masks of addresses: the program's and the reference's are one. -/
import Derived.Test.YtenfloomkjecjaaGreatNvD1
import Derived.Test.YtenfloomkjecjaaGreatNvLibB
import Derived.KernelRfl
namespace Nv
open Go
def S.Jw (n : Int) : Int := cl32 n
theorem Zho (n : Int) : M.Jw n = some (S.Jw n) := by
 unfold M.Jw S.Jw cl32
 congr 1
 split <;> split <;> (try split) <;> omega
def S.JS (n : Int) : Int := mk32 n
theorem Zio (n : Int) : M.JS n = some (S.JS n) := by
 have h := Ky n
 unfold M.JS S.JS mk32
 rw [Zho]
 simp only [Option.bind_some,S.Jw]
 have e : wr .i64 (32 - cl32 n) = 32 - cl32 n := by unfold wr; exact IntWalk.i64_in _ (by omega)
 rw [e,Zmo (by intro b hb; simp at hb; subst hb; simp; omega)]
 have e2 : min (32 - cl32 n).toNat 32 = 32 - (cl32 n).toNat := by omega
 rw [e2]
theorem ZeH (n : Int) : M.JQ n = M.JQ (cl32 n) := by
 unfold M.JQ
 rw [ZiN (f := M.UC n) (f' := M.UC (cl32 n)) (fun p => 0 ≤ p.2 ∧ p.2 ≤ 32) ?_ ?_ (by simp)]
 ·intro p ⟨h1,h2⟩
  unfold M.UC
  have e : p.2 < 32 → decide (p.2 < n) = decide (p.2 < cl32 n) := fun h3 => by
   unfold cl32
   congr 1
   split <;> (try split) <;> simp <;> omega
  cases h : decide (p.2 < 32) with
  | false => rfl
  | true => rw [e (of_decide_eq_true h)]
 ·intro p p' ⟨h1,h2⟩ h
  unfold M.UC at h
  cases h3 : decide (p.2 < 32) with
  | false => rw [h3] at h; cases h
  | true =>
   have h4 := of_decide_eq_true h3
   have e : wr .i64 (p.2 + 1) = p.2 + 1 := by unfold wr; exact IntWalk.i64_in _ (by omega)
   simp only [h3,cond_true,M.GJ,e] at h
   have : p'.2 = p.2 + 1 := by
    cases h5 : decide (p.2 < n) with
    | false =>
     simp only [h5,cond_false,Option.some.injEq,Sum.inl.injEq] at h
     rw [← h]
    | true =>
     simp only [h5,cond_true] at h
     have := (Zq h).2
     simp only [Option.some.injEq,Sum.inl.injEq] at this
     rw [← this]
   omega
theorem masks : (List.range 33).all (fun n => decide (loopN 40 (M.UC (n : Int)) (0,0) = some (mk32 (n : Int)))) = true := by kernel_rfl
def S.JQ (n : Int) : Int := mk32 n
theorem Za5 (n : Int) : M.JQ n = some (S.JQ n) := by
 have h := Ky n
 rw [ZeH]
 unfold S.JQ
 rw [← ZcU]
 have h1 := List.all_eq_true.1 masks (cl32 n).toNat (by simp; omega)
 have h2 := of_decide_eq_true h1
 have e3 : (((cl32 n).toNat : Nat) : Int) = cl32 n := by omega
 rw [e3] at h2
 unfold M.JQ
 rw [Yy (fun _ _ h => h) _ h2]
 rfl
end Nv
