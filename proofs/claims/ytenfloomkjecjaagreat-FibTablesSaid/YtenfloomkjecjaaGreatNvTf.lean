/- How hops are sorted. No condition. -/
import Derived.Test.YtenfloomkjecjaaGreatNvTs
import Derived.Test.YtenfloomkjecjaaGreatNvH2b
import Derived.Test.YtenfloomkjecjaaGreatNvLibC
set_option maxRecDepth 100000
namespace Nv
open Go Go.Sort Go.Proofs
def hcf (x y:ZF):Int:=bif cmp3 x.ZP y.ZP != 0 then cmp3 x.ZP y.ZP else cmp3 x.Zm y.Zm
theorem ZkE (x y:ZF):M.JU x y=some (hcf x y):=by
 unfold M.JU hcf
 rw [Zig,Option.bind_some,ZkD,Option.bind_some,ZmS,Option.bind_some]
theorem Zij (x y:ZF):ltOf hcf x y=decide (hlt x y):=by
 unfold ltOf hcf
 rw [decide_eq_decide]
 unfold hlt
 rcases ZbU x.ZP y.ZP with ⟨h,e⟩ | ⟨h,e⟩ | ⟨h,e⟩ <;> rw [e]
 ·simp; omega
 ·simp; omega
 ·rcases ZbU x.Zm y.Zm with ⟨g,e⟩ | ⟨g,e⟩ | ⟨g,e⟩ <;> rw [e] <;> simp <;> omega
theorem Zep:SWO (ltOf hcf) where
 irrefl x:=by rw [Zij,decide_eq_false_iff_not]; exact ZfV x
 trans x y z h1 h2:=by rw [Zij,decide_eq_true_eq] at *; exact R7 h1 h2
 ntrans x y z h1 h2:=by rw [Zij,decide_eq_false_iff_not] at *; unfold hlt at *; omega
def hset (l:List ZF):List ZF:=ddp (sortP hcf l)
theorem Zik (l:List ZF):HAsc (hset l)∧∀ x,x∈hset l↔x∈l:=by
 obtain ⟨_,h2,h3⟩:=G2 Zep l
 exact ⟨ZnT (h3.imp fun {a b} h=>by rw [Zij,decide_eq_false_iff_not] at h; exact h),fun x=>by unfold hset; rw [Zih]; exact ⟨fun h=>h2.subset h,fun h=>h2.symm.subset h⟩⟩
theorem Zhz {l r:List ZF} (h:HAsc r) (k:∀ x,x∈r↔x∈l):r=hset l:=Zjk h (Zik l).1 fun x=>(k x).trans ((Zik l).2 x).symm
theorem so_fib_Resolve_1:SortOK M.JU:=⟨hcf,ZkE,Zep⟩
end Nv
