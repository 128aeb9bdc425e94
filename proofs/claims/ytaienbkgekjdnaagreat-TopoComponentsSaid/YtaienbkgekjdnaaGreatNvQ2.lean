/- What 'Small' bounds. -/
import Derived.Test.YtaienbkgekjdnaaGreatNvT1
namespace Nv
open Go
structure SmallR (a : Zf) : Prop where
  ifs : a.Zc.length ≤ 12
  lists : a.Yv.length ≤ 12
  maps : a.XE.length ≤ 12
  acls : a.YD.length ≤ 12
  nat : a.Xa.length ≤ 12
  stat : a.Zq.length ≤ 20
  ranges : a.Yi.Z4.length ≤ 8
  lsr : a.Yi.Zs.length ≤ 8
  dvr : a.Yn.Zs.length ≤ 8
  pvr : a.Xs.Zs.length ≤ 8
  nb : a.Xs.Zm.length ≤ 12
  nw : a.Xs.Z1.length ≤ 12
  ag : a.Xs.ZE.length ≤ 12
  cd : a.Xs.Zt.length ≤ 12
theorem Zj5 {a : Zf} (h : S.Vm a = true) : SmallR a := by
  unfold S.Vm at h
  have h1 : ((((((((((((((decide ((a.Zc.length : Int) > 12)) || (decide ((a.Yv.length : Int) > 12))) || (decide ((a.XE.length : Int) > 12))) || (decide ((a.YD.length : Int) > 12))) || (decide ((a.Xa.length : Int) > 12))) || (decide ((a.Zq.length : Int) > 20))) || (decide ((a.Yi.Z4.length : Int) > 8))) || (decide ((a.Yi.Zs.length : Int) > 8))) || (decide ((a.Yn.Zs.length : Int) > 8))) || (decide ((a.Xs.Zs.length : Int) > 8))) || (decide ((a.Xs.Zm.length : Int) > 12))) || (decide ((a.Xs.Z1.length : Int) > 12))) || (decide ((a.Xs.ZE.length : Int) > 12))) || (decide ((a.Xs.Zt.length : Int) > 12))) = false := by
    revert h
    generalize ((_ || _ : Bool)) = b
    cases b
    · exact fun _ => rfl
    · intro h; cases h
  simp only [Bool.or_eq_false_iff, decide_eq_false_iff_not] at h1
  obtain ⟨⟨⟨⟨⟨⟨⟨⟨⟨⟨⟨⟨⟨h1, h2⟩, h3⟩, h4⟩, h5⟩, h6⟩, h7⟩, h8⟩, h9⟩, h10⟩, h11⟩, h12⟩, h13⟩, h14⟩ := h1
  constructor <;> omega
end Nv
