/- What 'Small' bounds. -/
import Derived.Test.YtaienbkgekjdnaaGreatNvT1
namespace Nv
open Go
structure SmallR (a : Zf) : Prop where
  ifs : a.Zc.length ≤ 12
  lists : a.Yt.length ≤ 12
  maps : a.XC.length ≤ 12
  acls : a.YC.length ≤ 12
  nat : a.Xd.length ≤ 12
  stat : a.Zq.length ≤ 20
  ranges : a.Yf.Z6.length ≤ 8
  lsr : a.Yf.Zr.length ≤ 8
  dvr : a.Ym.Zr.length ≤ 8
  pvr : a.Xr.Zr.length ≤ 8
  nb : a.Xr.Zm.length ≤ 12
  nw : a.Xr.Z0.length ≤ 12
  ag : a.Xr.ZC.length ≤ 12
  cd : a.Xr.Zt.length ≤ 12
theorem ZjD {a : Zf} (h : S.Vg a = true) : SmallR a := by
  unfold S.Vg at h
  have h1 : ((((((((((((((decide ((a.Zc.length : Int) > 12)) || (decide ((a.Yt.length : Int) > 12))) || (decide ((a.XC.length : Int) > 12))) || (decide ((a.YC.length : Int) > 12))) || (decide ((a.Xd.length : Int) > 12))) || (decide ((a.Zq.length : Int) > 20))) || (decide ((a.Yf.Z6.length : Int) > 8))) || (decide ((a.Yf.Zr.length : Int) > 8))) || (decide ((a.Ym.Zr.length : Int) > 8))) || (decide ((a.Xr.Zr.length : Int) > 8))) || (decide ((a.Xr.Zm.length : Int) > 12))) || (decide ((a.Xr.Z0.length : Int) > 12))) || (decide ((a.Xr.ZC.length : Int) > 12))) || (decide ((a.Xr.Zt.length : Int) > 12))) = false := by
    revert h
    generalize ((_ || _ : Bool)) = b
    cases b
    · exact fun _ => rfl
    · intro h; cases h
  simp only [Bool.or_eq_false_iff, decide_eq_false_iff_not] at h1
  obtain ⟨⟨⟨⟨⟨⟨⟨⟨⟨⟨⟨⟨⟨h1, h2⟩, h3⟩, h4⟩, h5⟩, h6⟩, h7⟩, h8⟩, h9⟩, h10⟩, h11⟩, h12⟩, h13⟩, h14⟩ := h1
  constructor <;> omega
end Nv
