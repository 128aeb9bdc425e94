/- Size: the lengths of the canonical list's intervals, added. No condition. -/
import Derived.Test.YtpggnodnpjejlaaDoorNvI2
namespace Nv
open Go Go.Proofs
def isz : List TInterval → Int
  | [] => 0
  | t :: l => (t.fHi - t.fLo + 1) + isz l
theorem isz_nonneg : ∀ {l : List TInterval}, (∀ t ∈ l, t.fLo ≤ t.fHi) → 0 ≤ isz l
  | [], _ => Int.le_refl _
  | t :: l, h => by
    have := h t List.mem_cons_self
    have := isz_nonneg (l := l) (fun t ht => h t (List.mem_cons_of_mem _ ht))
    unfold isz; omega
theorem isz_le : ∀ {l : List TInterval} {c : Int}, Can l → (∀ t ∈ l, U32 t) → (∀ t ∈ l, c ≤ t.fLo) → c ≤ 4294967296 → isz l ≤ 4294967296 - c
  | [], c, _, _, _, h => by unfold isz; omega
  | t :: l, c, hc, hu, hl, h => by
    have u := hu t List.mem_cons_self
    unfold U32 at u
    have h1 := can_cons.1 hc
    have := hl t List.mem_cons_self
    have := isz_le (l := l) (c := t.fHi + 1) h1.2.2 (fun t ht => hu t (List.mem_cons_of_mem _ ht)) (fun j hj => by have := h1.2.1 j hj; omega) (by omega)
    unfold isz; omega
theorem z_l1 {r : List TInterval} (hr : r.length ≤ 10000000000) (hu : ∀ t ∈ r, U32 t) (hv : ∀ t ∈ r, t.fLo ≤ t.fHi) : ∀ (k i : Nat) (a : Int), i + k = r.length → 0 ≤ a → a + isz (r.drop i) ≤ 4294967296 → Iter (M.interval_Size_l1 r) (a, (i : Int)) (a + isz (r.drop i)) := by
  intro k
  induction k with
  | zero =>
    intro i a h1 h2 h3
    rw [List.drop_eq_nil_of_le (by omega), show isz [] = 0 from rfl, Int.add_zero]
    refine .out ?_
    unfold M.interval_Size_l1
    rw [show decide ((i : Int) < (r.length : Int)) = false by simp; omega]; rfl
  | succ k ih =>
    intro i a h1 h2 h3
    have hi : i < r.length := by omega
    have hup : wr .i64 ((i : Int) + 1) = ((i + 1 : Nat) : Int) := by rw [wrN (by omega) (by omega)]; omega
    have hd : r.drop i = r.getD i default :: r.drop (i + 1) := by rw [List.drop_eq_getElem_cons hi]; simp [hi]
    have hm := igetD_mem hi
    have u := hu _ hm
    have v := hv _ hm
    unfold U32 at u
    have nn := isz_nonneg (l := r.drop (i + 1)) (fun t ht => hv t (List.mem_of_mem_drop ht))
    rw [hd] at h3 ⊢
    rw [show isz (r.getD i default :: r.drop (i + 1)) = ((r.getD i default).fHi - (r.getD i default).fLo + 1) + isz (r.drop (i + 1)) from rfl] at h3 ⊢
    rw [← Int.add_assoc]
    refine .next (x' := (a + ((r.getD i default).fHi - (r.getD i default).fLo + 1), ((i + 1 : Nat) : Int))) ?_ (ih (i + 1) _ (by omega) (by omega) (by omega))
    unfold M.interval_Size_l1
    simp only [Int.toNat_natCast, hup]
    rw [show decide ((i : Int) < (r.length : Int)) = true by simp; omega, cond_true, gdT (by simp <;> omega), wrU64 (n := (r.getD i default).fHi) (by omega) (by omega), wrU64 (n := (r.getD i default).fLo) (by omega) (by omega), wrU64 (n := (r.getD i default).fHi - (r.getD i default).fLo) (by omega) (by omega), wrU64 (n := (r.getD i default).fHi - (r.getD i default).fLo + 1) (by omega) (by omega), wrU64 (by omega) (by omega)]
theorem size_eq {l : List TInterval} (hl : l.length ≤ 10000000000) (hu : ∀ t ∈ l, U32 t) : M.interval_Size l = some (isz (nrm l)) := by
  have hN := nrm_ok l
  have hU := nrm_u32 hu
  have hb := isz_le (l := nrm l) (c := 0) hN.1 hU (fun t ht => (hU t ht).1) (by decide)
  have h1 := z_l1 (r := nrm l) (by have := nrm_len l; omega) hU hN.1.2 _ 0 0 (Nat.zero_add _) (Int.le_refl _) (by rw [List.drop_zero]; omega)
  rw [List.drop_zero, Int.zero_add] at h1
  unfold M.interval_Size
  rw [norm_eq hl hu, Option.bind_some]
  exact Option.bind_eq_some_iff.2 ⟨_, loopM_of h1, rfl⟩
end Nv
