/- Masks of addresses: the program's and the reference's are one. -/
import Derived.Test.YtaienbkgekjdnaaGreatNvD1
import Derived.Test.YtaienbkgekjdnaaGreatNvLibB
import Derived.KernelRfl
namespace Nv
open Go
def S.JO (n:Int):Int:=cl32 n
theorem Zd0 (n:Int):M.JO n=some (S.JO n):=by
 unfold M.JO S.JO cl32
 congr 1
 split <;> split <;> (try split) <;> omega
def S.J7 (n:Int):Int:=mk32 n
theorem ZbT (n:Int):M.J7 n=some (S.J7 n):=by
 have h:=Zc4 n
 unfold M.J7 S.J7 mk32
 rw [Zd0]
 simp only [Option.bind_some,S.JO]
 have e:wr .i64 (32 - cl32 n)=32 - cl32 n:=by unfold wr; exact IntWalk.i64_in _ (by omega)
 rw [e,Zmm (by intro b hb; simp at hb; subst hb; simp; omega)]
 have e2:min (32 - cl32 n).toNat 32=32 - (cl32 n).toNat:=by omega
 rw [e2]
theorem Ze3 (n:Int):M.VI n=M.VI (cl32 n):=by
 unfold M.VI
 rw [ZiT (f:=M.UR n) (f':=M.UR (cl32 n)) (fun p=>0≤p.2∧p.2≤32) ?_ ?_ (by simp)]
 ·intro p ⟨h1,h2⟩
  unfold M.UR
  have e:p.2 < 32→decide (p.2 < n)=decide (p.2 < cl32 n):=fun h3=>by
   unfold cl32
   congr 1
   split <;> (try split) <;> simp <;> omega
  cases h:decide (p.2 < 32) with
  | false=>rfl
  | true=>rw [e (of_decide_eq_true h)]
 ·intro p p' ⟨h1,h2⟩ h
  unfold M.UR at h
  cases h3:decide (p.2 < 32) with
  | false=>rw [h3] at h; cases h
  | true =>
   have h4:=of_decide_eq_true h3
   have e:wr .i64 (p.2+1)=p.2+1:=by unfold wr; exact IntWalk.i64_in _ (by omega)
   simp only [h3,cond_true,M.Kc,e] at h
   have:p'.2=p.2+1:=by
    cases h5:decide (p.2 < n) with
    | false =>
     simp only [h5,cond_false,Option.some.injEq,Sum.inl.injEq] at h
     rw [← h]
    | true =>
     simp only [h5,cond_true] at h
     have:=(Zy h).2
     simp only [Option.some.injEq,Sum.inl.injEq] at this
     rw [← this]
   omega
theorem masks:(List.range 33).all (fun n=>decide (loopN 40 (M.UR (n:Int)) (0,0)=some (mk32 (n:Int))))=true:=by kernel_rfl
def S.VI (n:Int):Int:=mk32 n
theorem ZbU (n:Int):M.VI n=some (S.VI n):=by
 have h:=Zc4 n
 rw [Ze3]
 unfold S.VI
 rw [← Zhg]
 have h1:=List.all_eq_true.1 masks (cl32 n).toNat (by simp; omega)
 have h2:=of_decide_eq_true h1
 have e3:(((cl32 n).toNat:Nat):Int)=cl32 n:=by omega
 rw [e3] at h2
 unfold M.VI
 rw [Ui (fun _ _ h=>h) _ h2]
 rfl
end Nv
