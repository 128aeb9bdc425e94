/- Masks of addresses and what 'and' does with them. -/
import Derived.Test.YtmangnohekiphaaNvRun
import Derived.KernelRfl
namespace Nv
open Go

/-- A length brought into 0 to 32. -/
def cl32 (n : Int) : Int := if n < 0 then 0 else if 32 < n then 32 else n
def mk32 (n : Int) : Int := wr .u32 (4294967295 * 2 ^ (32 - (cl32 n).toNat))
theorem cl32_range (n : Int) : 0 ≤ cl32 n ∧ cl32 n ≤ 32 := by unfold cl32; split <;> (try split) <;> omega
theorem cl32_id {n : Int} (h : 0 ≤ n ∧ n ≤ 32) : cl32 n = n := by unfold cl32; split <;> (try split) <;> omega
theorem cl32_idem (n : Int) : cl32 (cl32 n) = cl32 n := cl32_id (cl32_range n)
theorem mk32_cl (n : Int) : mk32 (cl32 n) = mk32 n := by unfold mk32; rw [cl32_idem]
theorem wrap_u32 {x : Int} (h : 0 ≤ x ∧ x < 4294967296) : IntKind.wrap .u32 x = x := by
  have h1 : (2 : Int) ^ IntKind.u32.bits = 4294967296 := rfl
  have h2 : IntKind.u32.signed = false := rfl
  simp only [IntKind.wrap, h1, h2, Bool.false_and, Bool.false_eq_true, if_false]
  omega
theorem wr_u32 {x : Int} (h : 0 ≤ x ∧ x < 4294967296) : wr .u32 x = x := wrap_u32 h
def B32 (x : Int) : BitVec 32 := BitVec.ofInt 32 x
theorem toNat_lt32 (v : BitVec 32) : v.toNat < 4294967296 := v.isLt
theorem and_u32 (a b : Int) : bitD .and .u32 a b = ((B32 a &&& B32 b).toNat : Int) := by
  have := toNat_lt32 (B32 a &&& B32 b)
  exact wrap_u32 (x := ((B32 a &&& B32 b).toNat : Int)) (by omega)
theorem or_u32 (a b : Int) : bitD .or .u32 a b = ((B32 a ||| B32 b).toNat : Int) := by
  have := toNat_lt32 (B32 a ||| B32 b)
  exact wrap_u32 (x := ((B32 a ||| B32 b).toNat : Int)) (by omega)
theorem andNot_u32 (a b : Int) : bitD .andNot .u32 a b = ((B32 a &&& ~~~ B32 b).toNat : Int) := by
  have := toNat_lt32 (B32 a &&& ~~~ B32 b)
  exact wrap_u32 (x := ((B32 a &&& ~~~ B32 b).toNat : Int)) (by omega)
theorem xor_u32 (a b : Int) : bitD .xor .u32 a b = ((B32 a ^^^ B32 b).toNat : Int) := by
  have := toNat_lt32 (B32 a ^^^ B32 b)
  exact wrap_u32 (x := ((B32 a ^^^ B32 b).toNat : Int)) (by omega)
theorem B32_nat (v : BitVec 32) : B32 ((v.toNat : Nat) : Int) = v := by
  unfold B32
  rw [BitVec.ofInt_natCast]
  simp
theorem B32_and (a b : Int) : B32 (bitD .and .u32 a b) = B32 a &&& B32 b := by rw [and_u32, B32_nat]
theorem B32_or (a b : Int) : B32 (bitD .or .u32 a b) = B32 a ||| B32 b := by rw [or_u32, B32_nat]
theorem B32_toNat {x : Int} (h : 0 ≤ x ∧ x < 4294967296) : ((B32 x).toNat : Int) = x := by
  unfold B32
  rw [BitVec.toNat_ofInt]
  omega
theorem masks_le : (List.range 33).all (fun n => (List.range 33).all fun m => !decide (m ≤ n) || decide (B32 (mk32 (n : Int)) &&& B32 (mk32 (m : Int)) = B32 (mk32 (m : Int)))) = true := by kernel_rfl
theorem mask_and {m n : Int} (h : cl32 m ≤ cl32 n) : B32 (mk32 n) &&& B32 (mk32 m) = B32 (mk32 m) := by
  have hm := cl32_range m
  have hn := cl32_range n
  have h1 := List.all_eq_true.1 masks_le (cl32 n).toNat (by simp; omega)
  have h2 := List.all_eq_true.1 h1 (cl32 m).toNat (by simp; omega)
  have e1 : (((cl32 n).toNat : Nat) : Int) = cl32 n := by omega
  have e2 : (((cl32 m).toNat : Nat) : Int) = cl32 m := by omega
  rw [e1, e2, mk32_cl, mk32_cl] at h2
  have h3 : decide ((cl32 m).toNat ≤ (cl32 n).toNat) = true := by simp; omega
  rw [h3] at h2
  simpa using h2
/-- The longer mask first: it makes no difference. -/
theorem and_mask_mask (x : Int) {m n : Int} (h : cl32 m ≤ cl32 n) : bitD .and .u32 (bitD .and .u32 x (mk32 n)) (mk32 m) = bitD .and .u32 x (mk32 m) := by
  rw [and_u32, B32_and, and_u32, BitVec.and_assoc, mask_and h]
/-- A loop with a state and an invariant that leaves in no round. -/
theorem runT_all {σ β : Type} {g : Nat → σ → σ ⊕ β} {e : σ → β} (J : Nat → σ → Prop) : ∀ (k i : Nat) (s : σ), (∀ j s, i ≤ j → j < i + k → J j s → ∃ s', g j s = .inl s' ∧ J (j + 1) s') → J i s → ∃ s', runT g e i k s = e s' ∧ J (i + k) s'
  | 0, i, s, _, h => ⟨s, rfl, h⟩
  | k + 1, i, s, hs, h => by
    obtain ⟨s', h1, h2⟩ := hs i s (Nat.le_refl _) (by omega) h
    unfold runT
    rw [h1]
    obtain ⟨s'', h3, h4⟩ := runT_all J k (i + 1) s' (fun j s h5 h6 => hs j s (by omega) (by omega)) h2
    exact ⟨s'', h3, by rw [show i + (k + 1) = i + 1 + k by omega]; exact h4⟩
end Nv
