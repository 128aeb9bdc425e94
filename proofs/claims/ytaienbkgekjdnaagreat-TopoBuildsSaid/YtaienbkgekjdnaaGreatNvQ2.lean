/- What 'Small' bounds. -/
import Derived.Test.YtaienbkgekjdnaaGreatNvT1
namespace Nv
open Go
structure SmallR (a : Zf) : Prop where
  ifs : a.Zc.length ≤ 12
  lists : a.Xk.length ≤ 12
  maps : a.Z8.length ≤ 12
  acls : a.XO.length ≤ 12
  nat : a.Xd.length ≤ 12
  stat : a.Zq.length ≤ 20
  ranges : a.Yi.ZK.length ≤ 8
  lsr : a.Yi.Zv.length ≤ 8
  dvr : a.YC.Zv.length ≤ 8
  pvr : a.Xb.Zv.length ≤ 8
  nb : a.Xb.Zl.length ≤ 12
  nw : a.Xb.Zt.length ≤ 12
  ag : a.Xb.Zr.length ≤ 12
  cd : a.Xb.Zo.length ≤ 12
theorem Zie {a : Zf} (h : S.VH a = true) : SmallR a := by
  unfold S.VH at h
  have h1 : ((((((((((((((decide ((a.Zc.length : Int) > 12)) || (decide ((a.Xk.length : Int) > 12))) || (decide ((a.Z8.length : Int) > 12))) || (decide ((a.XO.length : Int) > 12))) || (decide ((a.Xd.length : Int) > 12))) || (decide ((a.Zq.length : Int) > 20))) || (decide ((a.Yi.ZK.length : Int) > 8))) || (decide ((a.Yi.Zv.length : Int) > 8))) || (decide ((a.YC.Zv.length : Int) > 8))) || (decide ((a.Xb.Zv.length : Int) > 8))) || (decide ((a.Xb.Zl.length : Int) > 12))) || (decide ((a.Xb.Zt.length : Int) > 12))) || (decide ((a.Xb.Zr.length : Int) > 12))) || (decide ((a.Xb.Zo.length : Int) > 12))) = false := by
    revert h
    generalize ((_ || _ : Bool)) = b
    cases b
    · exact fun _ => rfl
    · intro h; cases h
  simp only [Bool.or_eq_false_iff, decide_eq_false_iff_not] at h1
  obtain ⟨⟨⟨⟨⟨⟨⟨⟨⟨⟨⟨⟨⟨h1, h2⟩, h3⟩, h4⟩, h5⟩, h6⟩, h7⟩, h8⟩, h9⟩, h10⟩, h11⟩, h12⟩, h13⟩, h14⟩ := h1
  constructor <;> omega
end Nv
