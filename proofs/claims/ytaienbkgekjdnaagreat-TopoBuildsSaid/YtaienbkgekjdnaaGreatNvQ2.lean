/- What 'Small' bounds. -/
import Derived.Test.YtaienbkgekjdnaaGreatNvT1
namespace Nv
open Go
structure ZlA (a : Zf) : Prop where
  ifs : a.Zc.length ≤ 12
  lists : a.Xm.length ≤ 12
  maps : a.Xa.length ≤ 12
  acls : a.XR.length ≤ 12
  nat : a.Xf.length ≤ 12
  stat : a.Zq.length ≤ 20
  ranges : a.Yl.ZK.length ≤ 8
  lsr : a.Yl.Zv.length ≤ 8
  dvr : a.YH.Zv.length ≤ 8
  pvr : a.Xd.Zv.length ≤ 8
  nb : a.Xd.Zl.length ≤ 12
  nw : a.Xd.Zt.length ≤ 12
  ag : a.Xd.Zr.length ≤ 12
  cd : a.Xd.Zo.length ≤ 12
theorem ZkL {a : Zf} (h : S.VW a = true) : ZlA a := by
  unfold S.VW at h
  have h1 : ((((((((((((((decide ((a.Zc.length : Int) > 12)) || (decide ((a.Xm.length : Int) > 12))) || (decide ((a.Xa.length : Int) > 12))) || (decide ((a.XR.length : Int) > 12))) || (decide ((a.Xf.length : Int) > 12))) || (decide ((a.Zq.length : Int) > 20))) || (decide ((a.Yl.ZK.length : Int) > 8))) || (decide ((a.Yl.Zv.length : Int) > 8))) || (decide ((a.YH.Zv.length : Int) > 8))) || (decide ((a.Xd.Zv.length : Int) > 8))) || (decide ((a.Xd.Zl.length : Int) > 12))) || (decide ((a.Xd.Zt.length : Int) > 12))) || (decide ((a.Xd.Zr.length : Int) > 12))) || (decide ((a.Xd.Zo.length : Int) > 12))) = false := by
    revert h
    generalize ((_ || _ : Bool)) = b
    cases b
    · exact fun _ => rfl
    · intro h; cases h
  simp only [Bool.or_eq_false_iff, decide_eq_false_iff_not] at h1
  obtain ⟨⟨⟨⟨⟨⟨⟨⟨⟨⟨⟨⟨⟨h1, h2⟩, h3⟩, h4⟩, h5⟩, h6⟩, h7⟩, h8⟩, h9⟩, h10⟩, h11⟩, h12⟩, h13⟩, h14⟩ := h1
  constructor <;> omega
end Nv
