/- How domains are sorted. No condition. -/
import Derived.Test.YtenfloomkjecjaaGreatNvD1
import Derived.Test.YtenfloomkjecjaaGreatNvLibC
set_option maxRecDepth 100000
namespace Nv
open Go Go.Sort Go.Proofs
def cmp3 (x y:Int):Int:=bif decide (x < y) then (-1) else bif decide (x > y) then 1 else 0
theorem Zig (x y:Int):M.YO x y=some (cmp3 x y):=by
 have hn:∀ z,M.Jh z=some false:=fun z=>by unfold M.Jh; simp
 unfold M.YO cmp3
 rw [hn,hn]
 cases decide (x < y) <;> cases decide (x > y) <;> rfl
theorem ZkD (x y:Int):M.Yw x y=some (cmp3 x y):=by
 have hn:∀ z,M.Y4 z=some false:=fun z=>by unfold M.Y4; simp
 unfold M.Yw cmp3
 rw [hn,hn]
 cases decide (x < y) <;> cases decide (x > y) <;> rfl
theorem ZmS (a b:Int):M.Wd [a,b]=some (bif a != 0 then a else b):=by
 have s0:M.QT [a,b] 0=bif a != 0 then some (.inr (.inr a)) else some (.inl 1):=by
  unfold M.QT
  rw [show decide ((0:Int) < (([a,b]:List Int).length:Int))=true from rfl,cond_true,gdT (by rfl)]
  rfl
 have s1:M.QT [a,b] 1=bif b != 0 then some (.inr (.inr b)) else some (.inl 2):=by
  unfold M.QT
  rw [show decide ((1:Int) < (([a,b]:List Int).length:Int))=true from rfl,cond_true,gdT (by rfl)]
  rfl
 have s2:M.QT [a,b] 2=some (.inr (.inl ())):=by
  unfold M.QT
  rfl
 unfold M.Wd
 cases ha:a != 0 with
 | true =>
  rw [ha] at s0
  rw [Q2 (.out s0),Option.bind_some]; rfl
 | false =>
  rw [ha] at s0
  cases hb:b != 0 with
  | true =>
   rw [hb] at s1
   rw [Q2 (.next s0 (.out s1)),Option.bind_some]; rfl
  | false =>
   rw [hb] at s1
   have:b=0:=by simpa using hb
   rw [Q2 (.next s0 (.next s1 (.out s2))),Option.bind_some,this]; rfl
def dlt (x y:Zj):Prop:=x.Zh.Zm < y.Zh.Zm∨(x.Zh.Zm=y.Zh.Zm∧(x.Zh.ZE < y.Zh.ZE∨(x.Zh.ZE=y.Zh.ZE∧x.XN < y.XN)))
instance (x y:Zj):Decidable (dlt x y):=by unfold dlt; exact inferInstance
def pcf (x y:ZL):Int:=bif cmp3 x.Zm y.Zm != 0 then cmp3 x.Zm y.Zm else cmp3 x.ZE y.ZE
def dcf (x y:Zj):Int:=bif pcf x.Zh y.Zh != 0 then pcf x.Zh y.Zh else cmp3 x.XN y.XN
theorem Zov (x y:ZL):M.VV x y=some (pcf x y):=by
 unfold M.VV pcf
 rw [ZkD,Option.bind_some]
 cases cmp3 x.Zm y.Zm != 0
 ·rw [cond_false,cond_false,Zig]; rfl
 ·rfl
theorem ZnR (x y:Zj):M.Vv x y=some (dcf x y):=by
 unfold M.Vv dcf
 rw [Zov,Option.bind_some,Zig,Option.bind_some,ZmS,Option.bind_some]
theorem ZbU (x y:Int):(x < y∧cmp3 x y = -1)∨(x > y∧cmp3 x y=1)∨(x=y∧cmp3 x y=0):=by
 unfold cmp3
 rcases Int.lt_trichotomy x y with h | h | h
 ·exact .inl ⟨h,by rw [decide_eq_true h]; rfl⟩
 ·exact .inr (.inr ⟨h,by rw [decide_eq_false (by omega),decide_eq_false (by omega)]; rfl⟩)
 ·exact .inr (.inl ⟨h,by rw [decide_eq_false (by omega),decide_eq_true h]; rfl⟩)
theorem Zj0 (x y:Zj):ltOf dcf x y=decide (dlt x y):=by
 unfold ltOf dcf pcf
 rw [decide_eq_decide]
 unfold dlt
 rcases ZbU x.Zh.Zm y.Zh.Zm with ⟨h,e⟩ | ⟨h,e⟩ | ⟨h,e⟩ <;> rw [e]
 ·simp; omega
 ·simp; omega
 ·rcases ZbU x.Zh.ZE y.Zh.ZE with ⟨g,e⟩ | ⟨g,e⟩ | ⟨g,e⟩ <;> rw [e]
  ·simp; omega
  ·simp; omega
  ·rcases ZbU x.XN y.XN with ⟨k,e⟩ | ⟨k,e⟩ | ⟨k,e⟩ <;> rw [e] <;> simp <;> omega
theorem ZnS:SWO (ltOf dcf) where
 irrefl x:=by rw [Zj0,decide_eq_false_iff_not]; unfold dlt; omega
 trans x y z h1 h2:=by rw [Zj0,decide_eq_true_eq] at *; unfold dlt at *; omega
 ntrans x y z h1 h2:=by rw [Zj0,decide_eq_false_iff_not] at *; unfold dlt at *; omega
theorem so_topo_Build_1:SortOK M.Vv:=⟨dcf,ZnR,ZnS⟩
end Nv
