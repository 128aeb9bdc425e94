/- The program's check of a network whose routers have interfaces alone, by its total form. No condition. -/
import Derived.Test.YtaienbkgekjdnaaGreatNvT1
import Derived.Test.YtaienbkgekjdnaaGreatNvLibB
namespace Nv
open Go
def leM (n:Nat):Bool:=Nat.ble n maxLen
def eR (r:Zf):Bool:=leM r.ZH.size&&(leM r.Zc.length&&(r.Zc.all fun x=>leM x.ZH.size&&(leM x.VE.size&&leM x.YH.size)))&&r.Xi.isEmpty&&r.Z9.isEmpty&&r.XK.isEmpty&&r.Xf.isEmpty&&r.Zr.isEmpty&&r.X5.ZF.isEmpty&&r.X5.Zs.isEmpty &&
 (leM r.Ye.VE.size&&leM r.Ye.YH.size)&&r.Ye.Zs.isEmpty&&r.Z8.Zl.isEmpty&&r.Z8.Zt.isEmpty&&r.Z8.Zq.isEmpty&&r.Z8.Zn.isEmpty&&r.Z8.Zs.isEmpty
theorem Zb9 {n:Nat} (h:leM n=true):n≤maxLen:=Nat.le_of_ble_eq_true h
theorem Za0 {α:Type} {L:α→Prop} {l:List α} (h:l.isEmpty=true):LL L l:=by
 rw [List.isEmpty_iff] at h
 subst h
 exact ⟨Nat.zero_le _,fun x hx=>absurd hx List.not_mem_nil⟩
theorem Zft {α:Type} {l:List α} (h:l.isEmpty=true):l.length≤maxLen:=by
 rw [List.isEmpty_iff] at h
 subst h
 exact Nat.zero_le _
theorem Zns {r:Zf} (h:eR r=true):Zi r:=by
 unfold eR at h
 simp only [Bool.and_eq_true] at h
 obtain ⟨⟨⟨⟨⟨⟨⟨⟨⟨⟨⟨⟨⟨⟨⟨h1,h2,h3⟩,h4⟩,h5⟩,h6⟩,h7⟩,h8⟩,h9⟩,h10⟩,h11,h12⟩,h13⟩,h14⟩,h15⟩,h16⟩,h17⟩,h18⟩:=h
 exact ⟨Zb9 h1,⟨Zb9 h2,fun x hx=>by
  have:=List.all_eq_true.1 h3 x hx
  simp only [Bool.and_eq_true] at this
  exact ⟨Zb9 this.1,Zb9 this.2.1,Zb9 this.2.2⟩⟩,Za0 h4,Za0 h5,Za0 h6,Za0 h7,Za0 h8,⟨Zft h9,Za0 h10⟩,⟨Zb9 h11,Zb9 h12,Za0 h13⟩,⟨Za0 h14,Zft h15,Zft h16,Zft h17,Za0 h18⟩⟩
noncomputable def K.QS (a:ZP):Option Int:=bif leM a.Zd.length&&a.Zd.all eR then some (S.QS a) else none
theorem k_model_Check (a:ZP):Ref (K.QS a) (M.QS a):=by
 intro r h
 unfold K.QS at h
 cases hb:leM a.Zd.length&&a.Zd.all eR with
 | false=>rw [hb] at h; cases h
 | true =>
  rw [hb] at h
  simp only [Bool.and_eq_true] at hb
  rw [ZcY a ⟨Zb9 hb.1,fun x hx=>Zns (List.all_eq_true.1 hb.2 x hx)⟩]
  exact h
end Nv
