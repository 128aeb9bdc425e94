/- The prefixes of a set: valid, ascending, no two the halves of one; their union. No condition. -/
import Derived.Test.YtpggnodnpjejlaaDoorNvI5
import Derived.Test.YtpggnodnpjejlaaDoorNvI6
namespace Nv
open Go Go.Proofs
def ke (p : TPrefix) : Nat := (32 - p.fLen).toNat
structure PIn (lo e : Nat) (p : TPrefix) : Prop where
  k : ke p ≤ 32
  len : p.fLen = 32 - (ke p : Int)
  nn : 0 ≤ p.fAddr
  dvd : 2 ^ ke p ∣ p.fAddr.toNat
  lo : lo ≤ p.fAddr.toNat
  hi : p.fAddr.toNat + 2 ^ ke p ≤ e
theorem PIn.mono {lo e lo' e' : Nat} {p : TPrefix} (h : PIn lo e p) (h1 : lo' ≤ lo) (h2 : e ≤ e') : PIn lo' e' p := ⟨h.k, h.len, h.nn, h.dvd, Nat.le_trans h1 h.lo, Nat.le_trans h.hi h2⟩
theorem ke_mk {a : Int} {k : Nat} : ke ⟨a, 32 - (k : Int)⟩ = k := by unfold ke; simp only; omega
theorem gp_in {e : Nat} (he : e ≤ 4294967296) : ∀ (d lo : Nat), e - lo ≤ d → ∀ p ∈ gp lo e, PIn lo e p
  | 0, lo, h, p, hp => by rw [gp_nil (by omega)] at hp; cases hp
  | d + 1, lo, h, p, hp => by
    by_cases hl : lo < e
    · rw [gp_cons hl] at hp
      have h2 := Nat.two_pow_pos (kof lo e)
      have hf := kof_fits hl
      rcases List.mem_cons.1 hp with rfl | hp
      · have hk := kof_le (lo := lo) e (by omega)
        refine ⟨by rw [ke_mk]; exact hk, by rw [ke_mk], by simp only; omega, ?_, ?_, ?_⟩
        · rw [ke_mk]; simp only [Int.toNat_natCast]; exact kof_dvd (by omega)
        · simp
        · rw [ke_mk]; simp only [Int.toNat_natCast]; exact hf
      · exact (gp_in he d (lo + 2 ^ kof lo e) (by omega) p hp).mono (by omega) (Nat.le_refl _)
    · rw [gp_nil hl] at hp; cases hp
theorem gps_cons (t : TInterval) (l : List TInterval) : gps (t :: l) = gpi t ++ gps l := rfl
theorem gpi_in {t : TInterval} (hu : U32 t) : ∀ p ∈ gpi t, PIn t.fLo.toNat (t.fHi.toNat + 1) p := by
  unfold U32 at hu
  exact gp_in (by omega) _ _ (Nat.le_refl _)
theorem gps_in {l : List TInterval} (hu : ∀ t ∈ l, U32 t) : ∀ p ∈ gps l, ∃ t ∈ l, PIn t.fLo.toNat (t.fHi.toNat + 1) p := fun p hp => by
  obtain ⟨t, ht, h⟩ := List.mem_flatMap.1 hp
  exact ⟨t, ht, gpi_in (hu t ht) p h⟩
theorem gps_len : ∀ {l : List TInterval}, Can l → (∀ t ∈ l, U32 t) → ((gps l).length : Int) ≤ isz l
  | [], _, _ => Int.le_refl _
  | t :: l, hc, hu => by
    have u := hu t List.mem_cons_self
    have h1 := can_cons.1 hc
    have h2 := gps_len h1.2.2 (fun t ht => hu t (List.mem_cons_of_mem _ ht))
    have h3 := gp_len (t.fHi.toNat + 1) _ t.fLo.toNat (Nat.le_refl _)
    rw [gps_cons, List.length_append]
    unfold gpi isz
    unfold U32 at u
    omega
def pof (p : TPrefix) : TInterval := ⟨p.fAddr, p.fAddr + ((2 ^ ke p : Nat) : Int) - 1⟩
theorem gp_imem {e : Nat} (he : e ≤ 4294967296) {x : Int} : ∀ (d lo : Nat), e - lo ≤ d → (imem ((gp lo e).map pof) x ↔ (lo : Int) ≤ x ∧ x < (e : Int))
  | 0, lo, h => by
    rw [gp_nil (by omega), List.map_nil]
    exact ⟨fun h => absurd h (imem_nil x), fun h => by omega⟩
  | d + 1, lo, h => by
    by_cases hl : lo < e
    · have h2 := Nat.two_pow_pos (kof lo e)
      have hf := kof_fits hl
      rw [gp_cons hl, List.map_cons, imem_cons, gp_imem he d _ (by omega)]
      simp only [pof, ke_mk]
      omega
    · rw [gp_nil hl, List.map_nil]
      exact ⟨fun h => absurd h (imem_nil x), fun h => by omega⟩
theorem gps_imem {x : Int} : ∀ {l : List TInterval}, (∀ t ∈ l, U32 t) → (imem ((gps l).map pof) x ↔ imem l x)
  | [], _ => Iff.rfl
  | t :: l, hu => by
    have u := hu t List.mem_cons_self
    unfold U32 at u
    rw [gps_cons, List.map_append, imem_append, imem_cons, gps_imem (fun t ht => hu t (List.mem_cons_of_mem _ ht))]
    unfold gpi
    rw [gp_imem (by omega) _ _ (Nat.le_refl _)]
    have e1 : ((t.fLo.toNat : Nat) : Int) = t.fLo := by omega
    have e2 : (((t.fHi.toNat + 1 : Nat)) : Int) = t.fHi + 1 := by omega
    rw [e1, e2]
    have : x < t.fHi + 1 ↔ x ≤ t.fHi := by omega
    rw [this]
end Nv
