/- The size of a set is the number of its elements. No condition. -/
import Derived.Test.YtpggnodnpjejlaaDoorNvI6
namespace Nv
open Go
def memB (l : List TInterval) (x : Int) : Bool := l.any fun t => decide (t.fLo ≤ x) && decide (x ≤ t.fHi)
theorem memB_iff {l : List TInterval} {x : Int} : memB l x = true ↔ imem l x := by
  unfold memB imem
  simp [List.any_eq_true]
def b2 (b : Bool) : Int := bif b then 1 else 0
def cntF (f : Int → Bool) : Nat → Int
  | 0 => 0
  | n + 1 => cntF f n + b2 (f (n : Int))
theorem cnt_add {f g h k : Int → Bool} (e : ∀ x, b2 (f x) + b2 (g x) = b2 (h x) + b2 (k x)) : ∀ n, cntF f n + cntF g n = cntF h n + cntF k n
  | 0 => rfl
  | n + 1 => by
    have := cnt_add e n
    have := e n
    simp only [cntF]; omega
theorem cnt_none {f : Int → Bool} (h : ∀ x, f x = false) : ∀ n, cntF f n = 0
  | 0 => rfl
  | n + 1 => by simp only [cntF, h, cnt_none h n]; rfl
theorem cnt_iv (lo hi : Int) (h0 : 0 ≤ lo) (h1 : lo ≤ hi + 1) : ∀ n : Nat, cntF (fun x => decide (lo ≤ x) && decide (x ≤ hi)) n = if (n : Int) ≤ lo then 0 else if (n : Int) ≤ hi + 1 then n - lo else hi - lo + 1
  | 0 => by simp [cntF, h0]
  | n + 1 => by
    rw [cntF, cnt_iv lo hi h0 h1 n]
    by_cases a : lo ≤ (n : Int)
    · by_cases b : (n : Int) ≤ hi
      · rw [show (decide (lo ≤ (n : Int)) && decide ((n : Int) ≤ hi)) = true by simp [a, b]]
        simp only [b2, cond_true]
        split <;> split <;> (try split) <;> (try split) <;> omega
      · rw [show (decide (lo ≤ (n : Int)) && decide ((n : Int) ≤ hi)) = false by simp [b]]
        simp only [b2, cond_false]
        split <;> split <;> (try split) <;> (try split) <;> omega
    · rw [show (decide (lo ≤ (n : Int)) && decide ((n : Int) ≤ hi)) = false by simp [a]]
      simp only [b2, cond_false]
      split <;> split <;> (try split) <;> (try split) <;> omega
theorem isz_cnt {N : Nat} (hN : N = 4294967296) : ∀ {l : List TInterval}, Can l → (∀ t ∈ l, U32 t) → isz l = cntF (memB l) N
  | [], _, _ => (cnt_none (fun _ => rfl) N).symm
  | t :: l, hc, hu => by
    have u := hu t List.mem_cons_self
    have c := can_cons.1 hc
    unfold U32 at u
    have c1 := c.1
    have h1 := isz_cnt hN c.2.2 (fun t ht => hu t (List.mem_cons_of_mem _ ht))
    have h2 := cnt_iv t.fLo t.fHi (by omega) (by omega) N
    have h3 := cnt_add (f := memB (t :: l)) (g := fun _ => false) (h := fun x => decide (t.fLo ≤ x) && decide (x ≤ t.fHi)) (k := memB l) (fun x => by
      have e : memB (t :: l) x = ((decide (t.fLo ≤ x) && decide (x ≤ t.fHi)) || memB l x) := rfl
      rw [e]
      cases h4 : memB l x with
      | false => cases (decide (t.fLo ≤ x) && decide (x ≤ t.fHi)) <;> rfl
      | true =>
        have := can_beyond hc (memB_iff.1 h4)
        rw [show (decide (t.fLo ≤ x) && decide (x ≤ t.fHi)) = false by simp; omega]
        rfl) N
    rw [cnt_none (fun _ => rfl) N, Int.add_zero] at h3
    rw [h3, isz, h1, h2]
    split
    · omega
    · split <;> omega
theorem isz_zero {l : List TInterval} (h : ∀ t ∈ l, t.fLo ≤ t.fHi) : (isz l == 0) = ((l.length : Int) == 0) := by
  cases l with
  | nil => rfl
  | cons t l =>
    have := h t List.mem_cons_self
    have := isz_nonneg (l := l) (fun t ht => h t (List.mem_cons_of_mem _ ht))
    rw [show (isz (t :: l) == 0) = false by rw [beq_eq_false_iff_ne]; unfold isz; omega, show (((t :: l).length : Int) == 0) = false by rw [beq_eq_false_iff_ne, List.length_cons]; omega]
end Nv
