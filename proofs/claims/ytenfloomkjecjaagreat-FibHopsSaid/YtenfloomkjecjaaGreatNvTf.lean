/- How hops are sorted. No condition. -/
import Derived.Test.YtenfloomkjecjaaGreatNvTs
import Derived.Test.YtenfloomkjecjaaGreatNvH2b
import Derived.Test.YtenfloomkjecjaaGreatNvLibC
set_option maxRecDepth 100000
namespace Nv
open Go Go.Sort Go.Proofs
def hcf (x y : ZY) : Int := bif cmp3 x.ZH y.ZH != 0 then cmp3 x.ZH y.ZH else cmp3 x.Zn y.Zn
theorem ZjH (x y : ZY) : M.JJ x y = some (hcf x y) := by
 unfold M.JJ hcf
 rw [Zhu,Option.bind_some,ZjF,Option.bind_some,ZlM,Option.bind_some]
theorem Zhw (x y : ZY) : ltOf hcf x y = decide (hlt x y) := by
 unfold ltOf hcf
 rw [decide_eq_decide]
 unfold hlt
 rcases Zbf x.ZH y.ZH with ⟨h,e⟩ | ⟨h,e⟩ | ⟨h,e⟩ <;> rw [e]
 ·simp; omega
 ·simp; omega
 ·rcases Zbf x.Zn y.Zn with ⟨g,e⟩ | ⟨g,e⟩ | ⟨g,e⟩ <;> rw [e] <;> simp <;> omega
theorem ZdF : SWO (ltOf hcf) where
 irrefl x := by rw [Zhw,decide_eq_false_iff_not]; exact ZmH x
 trans x y z h1 h2 := by rw [Zhw,decide_eq_true_eq] at *; exact Zks h1 h2
 ntrans x y z h1 h2 := by rw [Zhw,decide_eq_false_iff_not] at *; unfold hlt at *; omega
def hset (l : List ZY) : List ZY := ddp (sortP hcf l)
theorem Zhx (l : List ZY) : HAsc (hset l) ∧ ∀ x,x ∈ hset l ↔ x ∈ l := by
 obtain ⟨_,h2,h3⟩ := GH ZdF l
 exact ⟨ZmI (h3.imp fun {a b} h => by rw [Zhw,decide_eq_false_iff_not] at h; exact h),fun x => by unfold hset; rw [Zhv]; exact ⟨fun h => h2.subset h,fun h => h2.symm.subset h⟩⟩
theorem so_fib_Resolve_1 : SortOK M.JJ := ⟨hcf,ZjH,ZdF⟩
end Nv
