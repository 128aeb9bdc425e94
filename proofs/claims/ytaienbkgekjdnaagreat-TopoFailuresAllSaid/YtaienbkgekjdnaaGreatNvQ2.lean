/- What 'Small' bounds. -/
import Derived.Test.YtaienbkgekjdnaaGreatNvT1
namespace Nv
open Go
structure SmallR (a:Zf):Prop where
 ifs:a.Zc.length≤12
 lists:a.Xi.length≤12
 maps:a.Z9.length≤12
 acls:a.XK.length≤12
 nat:a.Xf.length≤12
 stat:a.Zr.length≤20
 ranges:a.X5.ZF.length≤8
 lsr:a.X5.Zs.length≤8
 dvr:a.Ye.Zs.length≤8
 pvr:a.Z8.Zs.length≤8
 nb:a.Z8.Zl.length≤12
 nw:a.Z8.Zt.length≤12
 ag:a.Z8.Zq.length≤12
 cd:a.Z8.Zn.length≤12
theorem ZiA {a:Zf} (h:S.VW a=true):SmallR a:=by
 unfold S.VW at h
 have h1:((((((((((((((decide ((a.Zc.length:Int) > 12))||(decide ((a.Xi.length:Int) > 12)))||(decide ((a.Z9.length:Int) > 12)))||(decide ((a.XK.length:Int) > 12)))||(decide ((a.Xf.length:Int) > 12)))||(decide ((a.Zr.length:Int) > 20)))||(decide ((a.X5.ZF.length:Int) > 8)))||(decide ((a.X5.Zs.length:Int) > 8)))||(decide ((a.Ye.Zs.length:Int) > 8)))||(decide ((a.Z8.Zs.length:Int) > 8)))||(decide ((a.Z8.Zl.length:Int) > 12)))||(decide ((a.Z8.Zt.length:Int) > 12)))||(decide ((a.Z8.Zq.length:Int) > 12)))||(decide ((a.Z8.Zn.length:Int) > 12)))=false:=by
  revert h
  generalize ((_||_:Bool))=b
  cases b
  ·exact fun _=>rfl
  ·intro h; cases h
 simp only [Bool.or_eq_false_iff,decide_eq_false_iff_not] at h1
 obtain ⟨⟨⟨⟨⟨⟨⟨⟨⟨⟨⟨⟨⟨h1,h2⟩,h3⟩,h4⟩,h5⟩,h6⟩,h7⟩,h8⟩,h9⟩,h10⟩,h11⟩,h12⟩,h13⟩,h14⟩:=h1
 constructor <;> omega
end Nv
