/- What 'Small' bounds. -/
import Derived.Test.YtenfloomkjecjaaGreatNvT1
namespace Nv
open Go
structure SmallR (a : Zh) : Prop where
 ifs : a.Zc.length ≤ 12
 lists : a.YM.length ≤ 12
 maps : a.XJ.length ≤ 12
 acls : a.YW.length ≤ 12
 nat : a.Xc.length ≤ 12
 stat : a.Zp.length ≤ 20
 ranges : a.Yw.Z4.length ≤ 8
 lsr : a.Yw.Zu.length ≤ 8
 dvr : a.YC.Zu.length ≤ 8
 pvr : a.Xv.Zu.length ≤ 8
 nb : a.Xv.Zo.length ≤ 12
 nw : a.Xv.ZT.length ≤ 12
 ag : a.Xv.ZC.length ≤ 12
 cd : a.Xv.Zv.length ≤ 12
theorem ZlL {a : Zh} (h : S.V3 a = true) : SmallR a := by
 unfold S.V3 at h
 have h1 : ((((((((((((((decide ((a.Zc.length : Int) > 12)) || (decide ((a.YM.length : Int) > 12))) || (decide ((a.XJ.length : Int) > 12))) || (decide ((a.YW.length : Int) > 12))) || (decide ((a.Xc.length : Int) > 12))) || (decide ((a.Zp.length : Int) > 20))) || (decide ((a.Yw.Z4.length : Int) > 8))) || (decide ((a.Yw.Zu.length : Int) > 8))) || (decide ((a.YC.Zu.length : Int) > 8))) || (decide ((a.Xv.Zu.length : Int) > 8))) || (decide ((a.Xv.Zo.length : Int) > 12))) || (decide ((a.Xv.ZT.length : Int) > 12))) || (decide ((a.Xv.ZC.length : Int) > 12))) || (decide ((a.Xv.Zv.length : Int) > 12))) = false := by
  revert h
  generalize ((_ || _ : Bool)) = b
  cases b
  ·exact fun _ => rfl
  ·intro h; cases h
 simp only [Bool.or_eq_false_iff,decide_eq_false_iff_not] at h1
 obtain ⟨⟨⟨⟨⟨⟨⟨⟨⟨⟨⟨⟨⟨h1,h2⟩,h3⟩,h4⟩,h5⟩,h6⟩,h7⟩,h8⟩,h9⟩,h10⟩,h11⟩,h12⟩,h13⟩,h14⟩ := h1
 constructor <;> omega
end Nv
