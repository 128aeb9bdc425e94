/- The program's check of a network whose routers have interfaces alone, by its total form. No condition. -/
import Derived.Test.YtaienbkgekjdnaaGreatNvT1
import Derived.Test.YtaienbkgekjdnaaGreatNvLibB
namespace Nv
open Go
def leM (n : Nat) : Bool := Nat.ble n maxLen
def eR (r : Zf) : Bool := leM r.ZJ.size && (leM r.Zc.length && (r.Zc.all fun x => leM x.ZJ.size && (leM x.Vr.size && leM x.YD.size))) && r.Z1.isEmpty && r.ZR.isEmpty && r.Xh.isEmpty && r.Xf.isEmpty && r.Zr.isEmpty && r.X0.ZE.isEmpty && r.X0.Zs.isEmpty &&
 (leM r.Ya.Vr.size && leM r.Ya.YD.size) && r.Ya.Zs.isEmpty && r.ZW.Zk.isEmpty && r.ZW.Zt.isEmpty && r.ZW.Zq.isEmpty && r.ZW.Zm.isEmpty && r.ZW.Zs.isEmpty
theorem ZcA {n : Nat} (h : leM n = true) : n ≤ maxLen := Nat.le_of_ble_eq_true h
theorem Zbg {α : Type} {L : α → Prop} {l : List α} (h : l.isEmpty = true) : LL L l := by
 rw [List.isEmpty_iff] at h
 subst h
 exact ⟨Nat.zero_le _,fun x hx => absurd hx List.not_mem_nil⟩
theorem Zf3 {α : Type} {l : List α} (h : l.isEmpty = true) : l.length ≤ maxLen := by
 rw [List.isEmpty_iff] at h
 subst h
 exact Nat.zero_le _
theorem Zn3 {r : Zf} (h : eR r = true) : Zj r := by
 unfold eR at h
 simp only [Bool.and_eq_true] at h
 obtain ⟨⟨⟨⟨⟨⟨⟨⟨⟨⟨⟨⟨⟨⟨⟨h1,h2,h3⟩,h4⟩,h5⟩,h6⟩,h7⟩,h8⟩,h9⟩,h10⟩,h11,h12⟩,h13⟩,h14⟩,h15⟩,h16⟩,h17⟩,h18⟩ := h
 exact ⟨ZcA h1,⟨ZcA h2,fun x hx => by
  have := List.all_eq_true.1 h3 x hx
  simp only [Bool.and_eq_true] at this
  exact ⟨ZcA this.1,ZcA this.2.1,ZcA this.2.2⟩⟩,Zbg h4,Zbg h5,Zbg h6,Zbg h7,Zbg h8,⟨Zf3 h9,Zbg h10⟩,⟨ZcA h11,ZcA h12,Zbg h13⟩,⟨Zbg h14,Zf3 h15,Zf3 h16,Zf3 h17,Zbg h18⟩⟩
noncomputable def K.QU (a : ZG) : Option Int := bif leM a.Ze.length && a.Ze.all eR then some (S.QU a) else none
theorem k_model_Check (a : ZG) : Ref (K.QU a) (M.QU a) := by
 intro r h
 unfold K.QU at h
 cases hb : leM a.Ze.length && a.Ze.all eR with
 | false => rw [hb] at h; cases h
 | true =>
  rw [hb] at h
  simp only [Bool.and_eq_true] at hb
  rw [Zdp a ⟨ZcA hb.1,fun x hx => Zn3 (List.all_eq_true.1 hb.2 x hx)⟩]
  exact h
end Nv
