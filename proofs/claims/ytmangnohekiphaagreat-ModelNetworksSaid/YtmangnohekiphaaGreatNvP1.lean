/- The plain law of ModelNetworks: the program's check of a network of small routers is the reference's. -/
import Derived.Test.YtmangnohekiphaaGreatNvT2
import Derived.Test.YtmangnohekiphaaGreatNvLW
import Derived.Test.YtmangnohekiphaaGreatNvQ3
namespace Nv
open Go

theorem plain_ModelNetworks (a0 : TNetwork) (w0 : W_TNetwork a0) : M.law5_ModelNetworks a0 = some true := by
  rw [s_law5_ModelNetworks a0 (LofW_TNetwork w0)]
  unfold S.law5_ModelNetworks
  cases decide ((a0.fRouters.length : Int) > 10) with
  | true => rfl
  | false =>
    have h1 : runN (S.law5_ModelNetworks_l1 a0) (.inl ()) 0 a0.fRouters.length = _ := runN_any (β := Unit ⊕ Bool) (fun i => !S.law5_Small (a0.fRouters.getD i default)) (.inr true) (.inl ()) a0.fRouters.length
    simp only [letS, cond_false]
    rw [h1]
    cases h2 : anyN (fun i => !S.law5_Small (a0.fRouters.getD i default)) a0.fRouters.length with
    | true => rfl
    | false =>
      have h3 := anyN_false.1 h2
      have hs : ∀ i, i < a0.fRouters.length → SmallR (a0.fRouters.getD i default) := fun i hi => small_of (by have := h3 i hi; simpa using this)
      rw [q_Check a0 hs]
      simp [sane_true]
end Nv
