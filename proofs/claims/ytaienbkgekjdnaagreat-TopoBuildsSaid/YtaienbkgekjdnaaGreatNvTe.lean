/- The program's check of a network whose routers have interfaces alone, by its total form. No condition. -/
import Derived.Test.YtaienbkgekjdnaaGreatNvT1
import Derived.Test.YtaienbkgekjdnaaGreatNvLibB
namespace Nv
open Go
def leM (n : Nat) : Bool := Nat.ble n maxLen
def eR (r : Zf) : Bool := leM r.ZX.size && (leM r.Zc.length && (r.Zc.all fun x => leM x.ZX.size && (leM x.V7.size && leM x.Y2.size))) && r.Xm.isEmpty && r.Xa.isEmpty && r.XR.isEmpty && r.Xf.isEmpty && r.Zq.isEmpty && r.Yl.ZK.isEmpty && r.Yl.Zv.isEmpty &&
  (leM r.YH.V7.size && leM r.YH.Y2.size) && r.YH.Zv.isEmpty && r.Xd.Zl.isEmpty && r.Xd.Zt.isEmpty && r.Xd.Zr.isEmpty && r.Xd.Zo.isEmpty && r.Xd.Zv.isEmpty
theorem ZcH {n : Nat} (h : leM n = true) : n ≤ maxLen := Nat.le_of_ble_eq_true h
theorem Zbr {α : Type} {L : α → Prop} {l : List α} (h : l.isEmpty = true) : LL L l := by
  rw [List.isEmpty_iff] at h
  subst h
  exact ⟨Nat.zero_le _, fun x hx => absurd hx List.not_mem_nil⟩
theorem ZgK {α : Type} {l : List α} (h : l.isEmpty = true) : l.length ≤ maxLen := by
  rw [List.isEmpty_iff] at h
  subst h
  exact Nat.zero_le _
theorem ZqL {r : Zf} (h : eR r = true) : Zi r := by
  unfold eR at h
  simp only [Bool.and_eq_true] at h
  obtain ⟨⟨⟨⟨⟨⟨⟨⟨⟨⟨⟨⟨⟨⟨⟨h1, h2, h3⟩, h4⟩, h5⟩, h6⟩, h7⟩, h8⟩, h9⟩, h10⟩, h11, h12⟩, h13⟩, h14⟩, h15⟩, h16⟩, h17⟩, h18⟩ := h
  exact ⟨ZcH h1, ⟨ZcH h2, fun x hx => by
    have := List.all_eq_true.1 h3 x hx
    simp only [Bool.and_eq_true] at this
    exact ⟨ZcH this.1, ZcH this.2.1, ZcH this.2.2⟩⟩, Zbr h4, Zbr h5, Zbr h6, Zbr h7, Zbr h8, ⟨ZgK h9, Zbr h10⟩, ⟨ZcH h11, ZcH h12, Zbr h13⟩, ⟨Zbr h14, ZgK h15, ZgK h16, ZgK h17, Zbr h18⟩⟩
noncomputable def K.QS (a : ZY) : Option Int := bif leM a.Zd.length && a.Zd.all eR then some (S.QS a) else none
theorem k_model_Check (a : ZY) : Ref (K.QS a) (M.QS a) := by
  intro r h
  unfold K.QS at h
  cases hb : leM a.Zd.length && a.Zd.all eR with
  | false => rw [hb] at h; cases h
  | true =>
    rw [hb] at h
    simp only [Bool.and_eq_true] at hb
    rw [ZdG a ⟨ZcH hb.1, fun x hx => ZqL (List.all_eq_true.1 hb.2 x hx)⟩]
    exact h
end Nv
