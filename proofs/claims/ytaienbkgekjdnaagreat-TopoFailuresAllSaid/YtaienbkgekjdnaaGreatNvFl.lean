/- The lists of failed links: which the program gives. No condition. -/
import Derived.Test.YtaienbkgekjdnaaGreatNvS1
set_option maxRecDepth 100000
namespace Nv
open Go Go.Proofs
def FL (n k:Nat):List (List Int) :=
 [] :: ((if 1≤k then (List.range n).map (fun a:Nat=>[(a:Int)]) else [])++(if 2≤k then (List.range n).flatMap (fun a:Nat=>((List.range n).filter fun b=>Nat.blt a b).map fun b:Nat=>[(a:Int),(b:Int)]) else []))
noncomputable def chkF (a b:Nat):Bool:=(match K.We (a:Int) (b:Int) with | some r=>r==(FL a b,0) | none=>false)&&Nat.ble (FL a b).length 1000
theorem ZlY:((List.range 13).all fun a=>(List.range 3).all fun b=>chkF a b)=true:=by kernel_rfl
theorem Znq {a b:Int} (h1:0≤a) (h2:a≤12) (h3:0≤b) (h4:b≤2):M.We a b=some (FL a.toNat b.toNat,0)∧(FL a.toNat b.toNat).length≤1000:=by
 have h:=List.all_eq_true.1 ZlY a.toNat (List.mem_range.2 (by omega))
 have h:=List.all_eq_true.1 h b.toNat (List.mem_range.2 (by omega))
 unfold chkF at h
 rw [show ((a.toNat:Nat):Int)=a by omega,show ((b.toNat:Nat):Int)=b by omega] at h
 simp only [Bool.and_eq_true] at h
 obtain ⟨h5,h7⟩:=h
 refine ⟨ZeT a b _ ?_,Nat.le_of_ble_eq_true h7⟩
 split at h5
 ·rename_i r e; rw [e,eq_of_beq h5]
 ·cases h5
theorem ZlZ {n k:Nat} {l:List Int} (h:l∈FL n k):l.length≤2:=by
 unfold FL at h
 rcases List.mem_cons.1 h with rfl | h
 ·exact Nat.zero_le _
 ·rcases List.mem_append.1 h with h | h
  ·split at h
   ·obtain ⟨a,_,rfl⟩:=List.mem_map.1 h; exact Nat.le_succ _
   ·cases h
  ·split at h
   ·obtain ⟨a,_,h⟩:=List.mem_flatMap.1 h
    obtain ⟨b,_,rfl⟩:=List.mem_map.1 h
    exact Nat.le_refl _
   ·cases h
end Nv
