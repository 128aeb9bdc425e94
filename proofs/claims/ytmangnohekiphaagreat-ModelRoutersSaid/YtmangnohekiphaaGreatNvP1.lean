/- The plain law of ModelRouters: the program's check of a small router is the reference's. -/
import Derived.Test.YtmangnohekiphaaGreatNvT2
import Derived.Test.YtmangnohekiphaaGreatNvLW
import Derived.Test.YtmangnohekiphaaGreatNvQ1
import Derived.Test.YtmangnohekiphaaGreatNvQ2
namespace Nv
open Go

theorem plain_ModelRouters (a0 : TRouter) (w0 : W_TRouter a0) : M.law5_ModelRouters a0 = some true := by
  rw [s_law5_ModelRouters a0 (LofW_TRouter w0)]
  unfold S.law5_ModelRouters
  simp only [letS]
  cases h : S.law5_Small a0 with
  | false => rfl
  | true =>
    have s := small_of h
    rw [q_CheckRouter a0 ⟨by have := s.nb; omega, by have := s.nw; omega, by have := s.ag; omega, by have := s.cd; omega, by have := s.pvr; omega⟩]
    simp [sane_true]
end Nv
