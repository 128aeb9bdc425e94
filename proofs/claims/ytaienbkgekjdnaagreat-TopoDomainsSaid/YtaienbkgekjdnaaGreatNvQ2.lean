/- What 'Small' bounds. -/
import Derived.Test.YtaienbkgekjdnaaGreatNvT1
namespace Nv
open Go
structure SmallR (a : TRouter) : Prop where
  ifs : a.fInterfaces.length ≤ 12
  lists : a.fLists.length ≤ 12
  maps : a.fMaps.length ≤ 12
  acls : a.fACLs.length ≤ 12
  nat : a.fNAT.length ≤ 12
  stat : a.fStatics.length ≤ 20
  ranges : a.fLS.fRanges.length ≤ 8
  lsr : a.fLS.fRedist.length ≤ 8
  dvr : a.fDV.fRedist.length ≤ 8
  pvr : a.fPV.fRedist.length ≤ 8
  nb : a.fPV.fNeighbors.length ≤ 12
  nw : a.fPV.fNetworks.length ≤ 12
  ag : a.fPV.fAggregates.length ≤ 12
  cd : a.fPV.fConditions.length ≤ 12
theorem small_of {a : TRouter} (h : S.law5_Small a = true) : SmallR a := by
  unfold S.law5_Small at h
  have h1 : ((((((((((((((decide ((a.fInterfaces.length : Int) > 12)) || (decide ((a.fLists.length : Int) > 12))) || (decide ((a.fMaps.length : Int) > 12))) || (decide ((a.fACLs.length : Int) > 12))) || (decide ((a.fNAT.length : Int) > 12))) || (decide ((a.fStatics.length : Int) > 20))) || (decide ((a.fLS.fRanges.length : Int) > 8))) || (decide ((a.fLS.fRedist.length : Int) > 8))) || (decide ((a.fDV.fRedist.length : Int) > 8))) || (decide ((a.fPV.fRedist.length : Int) > 8))) || (decide ((a.fPV.fNeighbors.length : Int) > 12))) || (decide ((a.fPV.fNetworks.length : Int) > 12))) || (decide ((a.fPV.fAggregates.length : Int) > 12))) || (decide ((a.fPV.fConditions.length : Int) > 12))) = false := by
    revert h
    generalize ((_ || _ : Bool)) = b
    cases b
    · exact fun _ => rfl
    · intro h; cases h
  simp only [Bool.or_eq_false_iff, decide_eq_false_iff_not] at h1
  obtain ⟨⟨⟨⟨⟨⟨⟨⟨⟨⟨⟨⟨⟨h1, h2⟩, h3⟩, h4⟩, h5⟩, h6⟩, h7⟩, h8⟩, h9⟩, h10⟩, h11⟩, h12⟩, h13⟩, h14⟩ := h1
  constructor <;> omega
end Nv
