/- How domains are sorted. No condition. -/
import Derived.Test.YtaienbkgekjdnaaGreatNvD1
import Derived.Test.YtaienbkgekjdnaaGreatNvLibC
set_option maxRecDepth 100000
namespace Nv
open Go Go.Sort Go.Proofs
def cmp3 (x y:Int):Int:=bif decide (x < y) then (-1) else bif decide (x > y) then 1 else 0
theorem ZjF (x y:Int):M.Q4 x y=some (cmp3 x y):=by
 have hn:∀ z,M.J0 z=some false:=fun z=>by unfold M.J0; simp
 unfold M.Q4 cmp3
 rw [hn,hn]
 cases decide (x < y) <;> cases decide (x > y) <;> rfl
theorem ZmH (x y:Int):M.QM x y=some (cmp3 x y):=by
 have hn:∀ z,M.Qz z=some false:=fun z=>by unfold M.Qz; simp
 unfold M.QM cmp3
 rw [hn,hn]
 cases decide (x < y) <;> cases decide (x > y) <;> rfl
theorem Znc (a b:Int):M.W7 [a,b]=some (bif a != 0 then a else b):=by
 have s0:M.JJ [a,b] 0=bif a != 0 then some (.inr (.inr a)) else some (.inl 1):=by
  unfold M.JJ
  rw [show decide ((0:Int) < (([a,b]:List Int).length:Int))=true from rfl,cond_true,gdT (by rfl)]
  rfl
 have s1:M.JJ [a,b] 1=bif b != 0 then some (.inr (.inr b)) else some (.inl 2):=by
  unfold M.JJ
  rw [show decide ((1:Int) < (([a,b]:List Int).length:Int))=true from rfl,cond_true,gdT (by rfl)]
  rfl
 have s2:M.JJ [a,b] 2=some (.inr (.inl ())):=by
  unfold M.JJ
  rfl
 unfold M.W7
 cases ha:a != 0 with
 | true =>
  rw [ha] at s0
  rw [UE (.out s0),Option.bind_some]; rfl
 | false =>
  rw [ha] at s0
  cases hb:b != 0 with
  | true =>
   rw [hb] at s1
   rw [UE (.next s0 (.out s1)),Option.bind_some]; rfl
  | false =>
   rw [hb] at s1
   have:b=0:=by simpa using hb
   rw [UE (.next s0 (.next s1 (.out s2))),Option.bind_some,this]; rfl
def dlt (x y:Zk):Prop:=x.Zp.ZA < y.Zp.ZA∨(x.Zp.ZA=y.Zp.ZA∧(x.Zp.ZM < y.Zp.ZM∨(x.Zp.ZM=y.Zp.ZM∧x.XI < y.XI)))
instance (x y:Zk):Decidable (dlt x y):=by unfold dlt; exact inferInstance
def pcf (x y:ZO):Int:=bif cmp3 x.ZA y.ZA != 0 then cmp3 x.ZA y.ZA else cmp3 x.ZM y.ZM
def dcf (x y:Zk):Int:=bif pcf x.Zp y.Zp != 0 then pcf x.Zp y.Zp else cmp3 x.XI y.XI
theorem Znd (x y:ZO):M.Wo x y=some (pcf x y):=by
 unfold M.Wo pcf
 rw [ZmH,Option.bind_some]
 cases cmp3 x.ZA y.ZA != 0
 ·rw [cond_false,cond_false,ZjF]; rfl
 ·rfl
theorem ZjG (x y:Zk):M.VV x y=some (dcf x y):=by
 unfold M.VV dcf
 rw [Znd,Option.bind_some,ZjF,Option.bind_some,Znc,Option.bind_some]
theorem Zgp (x y:Int):(x < y∧cmp3 x y = -1)∨(x > y∧cmp3 x y=1)∨(x=y∧cmp3 x y=0):=by
 unfold cmp3
 rcases Int.lt_trichotomy x y with h | h | h
 ·exact .inl ⟨h,by rw [decide_eq_true h]; rfl⟩
 ·exact .inr (.inr ⟨h,by rw [decide_eq_false (by omega),decide_eq_false (by omega)]; rfl⟩)
 ·exact .inr (.inl ⟨h,by rw [decide_eq_false (by omega),decide_eq_true h]; rfl⟩)
theorem ZeJ (x y:Zk):ltOf dcf x y=decide (dlt x y):=by
 unfold ltOf dcf pcf
 rw [decide_eq_decide]
 unfold dlt
 rcases Zgp x.Zp.ZA y.Zp.ZA with ⟨h,e⟩ | ⟨h,e⟩ | ⟨h,e⟩ <;> rw [e]
 ·simp; omega
 ·simp; omega
 ·rcases Zgp x.Zp.ZM y.Zp.ZM with ⟨g,e⟩ | ⟨g,e⟩ | ⟨g,e⟩ <;> rw [e]
  ·simp; omega
  ·simp; omega
  ·rcases Zgp x.XI y.XI with ⟨k,e⟩ | ⟨k,e⟩ | ⟨k,e⟩ <;> rw [e] <;> simp <;> omega
theorem ZhI:SWO (ltOf dcf) where
 irrefl x:=by rw [ZeJ,decide_eq_false_iff_not]; unfold dlt; omega
 trans x y z h1 h2:=by rw [ZeJ,decide_eq_true_eq] at *; unfold dlt at *; omega
 ntrans x y z h1 h2:=by rw [ZeJ,decide_eq_false_iff_not] at *; unfold dlt at *; omega
theorem so_topo_Build_1:SortOK M.VV:=⟨dcf,ZjG,ZhI⟩
end Nv
