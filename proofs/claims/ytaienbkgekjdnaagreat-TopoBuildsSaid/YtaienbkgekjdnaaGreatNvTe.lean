/- The program's check of a network whose routers have interfaces alone, by its total form. No condition. -/
import Derived.Test.YtaienbkgekjdnaaGreatNvT1
import Derived.Test.YtaienbkgekjdnaaGreatNvLibB
namespace Nv
open Go
def leM (n : Nat) : Bool := Nat.ble n maxLen
def eR (r : Zf) : Bool := leM r.ZW.size && (leM r.Zc.length && (r.Zc.all fun x => leM x.ZW.size && (leM x.VQ.size && leM x.YV.size))) && r.Xk.isEmpty && r.Z8.isEmpty && r.XO.isEmpty && r.Xd.isEmpty && r.Zq.isEmpty && r.Yi.ZK.isEmpty && r.Yi.Zv.isEmpty &&
  (leM r.YC.VQ.size && leM r.YC.YV.size) && r.YC.Zv.isEmpty && r.Xb.Zl.isEmpty && r.Xb.Zt.isEmpty && r.Xb.Zr.isEmpty && r.Xb.Zo.isEmpty && r.Xb.Zv.isEmpty
theorem Zbz {n : Nat} (h : leM n = true) : n ≤ maxLen := Nat.le_of_ble_eq_true h
theorem Zaq {α : Type} {L : α → Prop} {l : List α} (h : l.isEmpty = true) : LL L l := by
  rw [List.isEmpty_iff] at h
  subst h
  exact ⟨Nat.zero_le _, fun x hx => absurd hx List.not_mem_nil⟩
theorem Ze2 {α : Type} {l : List α} (h : l.isEmpty = true) : l.length ≤ maxLen := by
  rw [List.isEmpty_iff] at h
  subst h
  exact Nat.zero_le _
theorem ZmI {r : Zf} (h : eR r = true) : Zi r := by
  unfold eR at h
  simp only [Bool.and_eq_true] at h
  obtain ⟨⟨⟨⟨⟨⟨⟨⟨⟨⟨⟨⟨⟨⟨⟨h1, h2, h3⟩, h4⟩, h5⟩, h6⟩, h7⟩, h8⟩, h9⟩, h10⟩, h11, h12⟩, h13⟩, h14⟩, h15⟩, h16⟩, h17⟩, h18⟩ := h
  exact ⟨Zbz h1, ⟨Zbz h2, fun x hx => by
    have := List.all_eq_true.1 h3 x hx
    simp only [Bool.and_eq_true] at this
    exact ⟨Zbz this.1, Zbz this.2.1, Zbz this.2.2⟩⟩, Zaq h4, Zaq h5, Zaq h6, Zaq h7, Zaq h8, ⟨Ze2 h9, Zaq h10⟩, ⟨Zbz h11, Zbz h12, Zaq h13⟩, ⟨Zaq h14, Ze2 h15, Ze2 h16, Ze2 h17, Zaq h18⟩⟩
noncomputable def K.QJ (a : ZX) : Option Int := bif leM a.Zd.length && a.Zd.all eR then some (S.QJ a) else none
theorem k_model_Check (a : ZX) : Ref (K.QJ a) (M.QJ a) := by
  intro r h
  unfold K.QJ at h
  cases hb : leM a.Zd.length && a.Zd.all eR with
  | false => rw [hb] at h; cases h
  | true =>
    rw [hb] at h
    simp only [Bool.and_eq_true] at hb
    rw [Zcq a ⟨Zbz hb.1, fun x hx => ZmI (List.all_eq_true.1 hb.2 x hx)⟩]
    exact h
end Nv
