/- What 'Small' bounds. -/
import Derived.Test.YtaienbkgekjdnaaGreatNvT1
namespace Nv
open Go
structure SmallR (a : Zf) : Prop where
 ifs : a.Zc.length ≤ 12
 lists : a.Z1.length ≤ 12
 maps : a.ZR.length ≤ 12
 acls : a.Xh.length ≤ 12
 nat : a.Xf.length ≤ 12
 stat : a.Zr.length ≤ 20
 ranges : a.X0.ZE.length ≤ 8
 lsr : a.X0.Zs.length ≤ 8
 dvr : a.Ya.Zs.length ≤ 8
 pvr : a.ZW.Zs.length ≤ 8
 nb : a.ZW.Zk.length ≤ 12
 nw : a.ZW.Zt.length ≤ 12
 ag : a.ZW.Zq.length ≤ 12
 cd : a.ZW.Zm.length ≤ 12
theorem Zjm {a : Zf} (h : S.VX a = true) : SmallR a := by
 unfold S.VX at h
 have h1 : ((((((((((((((decide ((a.Zc.length : Int) > 12)) || (decide ((a.Z1.length : Int) > 12))) || (decide ((a.ZR.length : Int) > 12))) || (decide ((a.Xh.length : Int) > 12))) || (decide ((a.Xf.length : Int) > 12))) || (decide ((a.Zr.length : Int) > 20))) || (decide ((a.X0.ZE.length : Int) > 8))) || (decide ((a.X0.Zs.length : Int) > 8))) || (decide ((a.Ya.Zs.length : Int) > 8))) || (decide ((a.ZW.Zs.length : Int) > 8))) || (decide ((a.ZW.Zk.length : Int) > 12))) || (decide ((a.ZW.Zt.length : Int) > 12))) || (decide ((a.ZW.Zq.length : Int) > 12))) || (decide ((a.ZW.Zm.length : Int) > 12))) = false := by
  revert h
  generalize ((_ || _ : Bool)) = b
  cases b
  ·exact fun _ => rfl
  ·intro h; cases h
 simp only [Bool.or_eq_false_iff,decide_eq_false_iff_not] at h1
 obtain ⟨⟨⟨⟨⟨⟨⟨⟨⟨⟨⟨⟨⟨h1,h2⟩,h3⟩,h4⟩,h5⟩,h6⟩,h7⟩,h8⟩,h9⟩,h10⟩,h11⟩,h12⟩,h13⟩,h14⟩ := h1
 constructor <;> omega
end Nv
