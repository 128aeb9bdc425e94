/- What 'Small' bounds. -/
import Derived.Test.YtenfloomkjecjaaGreatNvT1
namespace Nv
open Go
structure SmallR (a:Zi):Prop where
 ifs:a.Zc.length≤12
 lists:a.YV.length≤12
 maps:a.XP.length≤12
 acls:a.Y5.length≤12
 nat:a.Xf.length≤12
 stat:a.Zq.length≤20
 ranges:a.YC.Z6.length≤8
 lsr:a.YC.Zu.length≤8
 dvr:a.YK.Zu.length≤8
 pvr:a.Xz.Zu.length≤8
 nb:a.Xz.Zp.length≤12
 nw:a.Xz.ZY.length≤12
 ag:a.Xz.ZG.length≤12
 cd:a.Xz.Zv.length≤12
theorem ZmR {a:Zi} (h:S.Wc a=true):SmallR a:=by
 unfold S.Wc at h
 have h1:((((((((((((((decide ((a.Zc.length:Int) > 12))||(decide ((a.YV.length:Int) > 12)))||(decide ((a.XP.length:Int) > 12)))||(decide ((a.Y5.length:Int) > 12)))||(decide ((a.Xf.length:Int) > 12)))||(decide ((a.Zq.length:Int) > 20)))||(decide ((a.YC.Z6.length:Int) > 8)))||(decide ((a.YC.Zu.length:Int) > 8)))||(decide ((a.YK.Zu.length:Int) > 8)))||(decide ((a.Xz.Zu.length:Int) > 8)))||(decide ((a.Xz.Zp.length:Int) > 12)))||(decide ((a.Xz.ZY.length:Int) > 12)))||(decide ((a.Xz.ZG.length:Int) > 12)))||(decide ((a.Xz.Zv.length:Int) > 12)))=false:=by
  revert h
  generalize ((_||_:Bool))=b
  cases b
  ·exact fun _=>rfl
  ·intro h; cases h
 simp only [Bool.or_eq_false_iff,decide_eq_false_iff_not] at h1
 obtain ⟨⟨⟨⟨⟨⟨⟨⟨⟨⟨⟨⟨⟨h1,h2⟩,h3⟩,h4⟩,h5⟩,h6⟩,h7⟩,h8⟩,h9⟩,h10⟩,h11⟩,h12⟩,h13⟩,h14⟩:=h1
 constructor <;> omega
end Nv
