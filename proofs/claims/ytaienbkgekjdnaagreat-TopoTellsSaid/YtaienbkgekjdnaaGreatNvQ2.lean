/- What 'Small' bounds. -/
import Derived.Test.YtaienbkgekjdnaaGreatNvT1
namespace Nv
open Go
structure SmallR (a : Zf) : Prop where
  ifs : a.Zc.length ≤ 12
  lists : a.Yw.length ≤ 12
  maps : a.XF.length ≤ 12
  acls : a.YF.length ≤ 12
  nat : a.Xc.length ≤ 12
  stat : a.Zr.length ≤ 20
  ranges : a.Yh.Z6.length ≤ 8
  lsr : a.Yh.Zs.length ≤ 8
  dvr : a.Yo.Zs.length ≤ 8
  pvr : a.Xs.Zs.length ≤ 8
  nb : a.Xs.Zm.length ≤ 12
  nw : a.Xs.Z1.length ≤ 12
  ag : a.Xs.ZE.length ≤ 12
  cd : a.Xs.Zt.length ≤ 12
theorem ZjP {a : Zf} (h : S.Vk a = true) : SmallR a := by
  unfold S.Vk at h
  have h1 : ((((((((((((((decide ((a.Zc.length : Int) > 12)) || (decide ((a.Yw.length : Int) > 12))) || (decide ((a.XF.length : Int) > 12))) || (decide ((a.YF.length : Int) > 12))) || (decide ((a.Xc.length : Int) > 12))) || (decide ((a.Zr.length : Int) > 20))) || (decide ((a.Yh.Z6.length : Int) > 8))) || (decide ((a.Yh.Zs.length : Int) > 8))) || (decide ((a.Yo.Zs.length : Int) > 8))) || (decide ((a.Xs.Zs.length : Int) > 8))) || (decide ((a.Xs.Zm.length : Int) > 12))) || (decide ((a.Xs.Z1.length : Int) > 12))) || (decide ((a.Xs.ZE.length : Int) > 12))) || (decide ((a.Xs.Zt.length : Int) > 12))) = false := by
    revert h
    generalize ((_ || _ : Bool)) = b
    cases b
    · exact fun _ => rfl
    · intro h; cases h
  simp only [Bool.or_eq_false_iff, decide_eq_false_iff_not] at h1
  obtain ⟨⟨⟨⟨⟨⟨⟨⟨⟨⟨⟨⟨⟨h1, h2⟩, h3⟩, h4⟩, h5⟩, h6⟩, h7⟩, h8⟩, h9⟩, h10⟩, h11⟩, h12⟩, h13⟩, h14⟩ := h1
  constructor <;> omega
end Nv
