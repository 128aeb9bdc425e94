/- The prefixes of a set by halves are the ones that the largest first give. No condition. -/
import Derived.Test.YtpggnodnpjejlaaDoorNvI5
namespace Nv
open Go
theorem dvd_le {d a b : Nat} (ha : d ∣ a) (hb : d ∣ b) (h : a < b) : a + d ≤ b := by
  obtain ⟨x, rfl⟩ := ha
  obtain ⟨y, rfl⟩ := hb
  have h1 : x < y := Nat.lt_of_mul_lt_mul_left h
  have := Nat.mul_le_mul_left d (show x + 1 ≤ y from h1)
  rw [Nat.mul_add, Nat.mul_one] at this
  exact this
theorem gp_split {a k h : Nat} (ha : 2 ^ (k + 1) ∣ a) (hb : h ≤ a + 2 ^ (k + 1)) (hh : a + 2 ^ k < h) (he : h ≤ 4294967296) : ∀ (d l : Nat), a + 2 ^ k - l ≤ d → a ≤ l → l ≤ a + 2 ^ k → ¬ (l = a ∧ h = a + 2 ^ (k + 1)) → gp l h = gp l (a + 2 ^ k) ++ gp (a + 2 ^ k) h
  | d, l, hd, h1, h2, hn => by
    rcases Nat.lt_or_ge l (a + 2 ^ k) with hl | hl
    · have hp := Nat.two_pow_pos k
      have hs : 2 ^ (k + 1) = 2 ^ k + 2 ^ k := by rw [Nat.pow_succ]; omega
      have hl32 : l < 4294967296 := by omega
      have hlh : l < h := by omega
      have dj := kof_dvd (e := h) hl32
      have fj := kof_fits hlh
      have cross : l + 2 ^ kof l h ≤ a + 2 ^ k := by
        rcases Nat.lt_or_ge k (kof l h) with hj | hj
        · exfalso
          have d2 : 2 ^ (k + 1) ∣ l := Nat.dvd_trans (Nat.pow_dvd_pow 2 hj) dj
          have hla : l = a := by
            rcases Nat.lt_or_ge a l with g | g
            · have := dvd_le ha d2 g; omega
            · omega
          have hle : 2 ^ (k + 1) ≤ 2 ^ kof l h := Nat.pow_le_pow_right (by decide) hj
          exact hn ⟨hla, by omega⟩
        · have d3 : 2 ^ kof l h ∣ a + 2 ^ k := Nat.dvd_add (Nat.dvd_trans (Nat.pow_dvd_pow 2 (by omega)) ha) (Nat.pow_dvd_pow 2 hj)
          exact dvd_le dj d3 hl
      have e1 : kof l (a + 2 ^ k) = kof l h := by
        have g1 : kof l h ≤ kof l (a + 2 ^ k) := kof_max hl32 (by omega) dj cross
        have g2 : kof l (a + 2 ^ k) ≤ kof l h := kof_max hl32 he (kof_dvd hl32) (by have := kof_fits hl; omega)
        omega
      rw [gp_cons hlh, gp_cons hl, e1, List.cons_append]
      have hpos := Nat.two_pow_pos (kof l h)
      match d, hd with
      | 0, hd => omega
      | d + 1, hd => rw [gp_split ha hb hh he d (l + 2 ^ kof l h) (by omega) (by omega) cross fun ⟨g, _⟩ => by omega]
    · obtain rfl : l = a + 2 ^ k := by omega
      rw [gp_nil (Nat.lt_irrefl _), List.nil_append]
theorem gp_block {a k : Nat} (ha : 2 ^ k ∣ a) (hb : a + 2 ^ k ≤ 4294967296) : gp a (a + 2 ^ k) = [(⟨(a : Int), 32 - (k : Int)⟩ : TPrefix)] := by
  have hp := Nat.two_pow_pos k
  have hlt : a < a + 2 ^ k := by omega
  have h32 : a < 4294967296 := by omega
  have g1 : k ≤ kof a (a + 2 ^ k) := kof_max h32 hb ha (Nat.le_refl _)
  have g2 := kof_fits hlt
  have g3 : kof a (a + 2 ^ k) = k := by
    rcases Nat.lt_or_ge k (kof a (a + 2 ^ k)) with h | h
    · have := Nat.pow_lt_pow_right (a := 2) (by decide) h; omega
    · omega
  rw [gp_cons hlt, g3, gp_nil (Nat.lt_irrefl _)]
def tlo (t : TInterval) : Nat := t.fLo.toNat
def the (t : TInterval) : Nat := t.fHi.toNat + 1
noncomputable def clip (a b : Nat) (t : TInterval) : List TPrefix := gp (max (tlo t) a) (min (the t) b)
noncomputable def wi (N : List TInterval) (a : Nat) : Nat → List TPrefix
  | 0 => bif N.any (fun t => decide (tlo t ≤ a) && decide (a + 1 ≤ the t)) then [(⟨(a : Int), 32⟩ : TPrefix)] else []
  | k + 1 => bif N.any (fun t => decide (tlo t ≤ a) && decide (a + 2 ^ (k + 1) ≤ the t)) then [(⟨(a : Int), 32 - ((k + 1 : Nat) : Int)⟩ : TPrefix)] else
      bif N.any (fun t => decide (tlo t < a + 2 ^ (k + 1)) && decide (a < the t)) then wi N a k ++ wi N (a + 2 ^ k) k else []
theorem flat_two {α β : Type} {f1 f2 : α → List β} : ∀ {l : List α}, l.Pairwise (fun s t => f2 s = [] ∨ f1 t = []) → l.flatMap f1 ++ l.flatMap f2 = l.flatMap fun t => f1 t ++ f2 t
  | [], _ => rfl
  | x :: l, h => by
    rw [List.pairwise_cons] at h
    have ih := flat_two h.2
    simp only [List.flatMap_cons]
    by_cases h2 : f2 x = []
    · rw [h2, List.nil_append, List.append_nil, List.append_assoc, ih]
    · have h1 : l.flatMap f1 = [] := by
        rw [List.flatMap_eq_nil_iff]
        exact fun t ht => (h.1 t ht).resolve_left h2
      rw [h1, List.nil_append] at ih
      rw [h1, List.append_nil, ← ih, List.append_assoc]
structure Nat32 (N : List TInterval) : Prop where
  ne : ∀ t ∈ N, tlo t < the t
  hi : ∀ t ∈ N, the t ≤ 4294967296
  apart : N.Pairwise fun s t => the s < tlo t
theorem nat32_of {N : List TInterval} (h : Can N) (hu : ∀ t ∈ N, U32 t) : Nat32 N where
  ne t ht := by have := h.2 t ht; have := hu t ht; unfold U32 at this; unfold tlo the; omega
  hi t ht := by have := hu t ht; unfold U32 at this; unfold the; omega
  apart := List.Pairwise.imp_of_mem (fun {a b} ha hb h => by
    have := hu a ha; have := hu b hb; unfold U32 at *; unfold tlo the; omega) h.1
theorem wi_ok {N : List TInterval} (hN : Nat32 N) : ∀ (k a : Nat), 2 ^ k ∣ a → a + 2 ^ k ≤ 4294967296 → wi N a k = N.flatMap (clip a (a + 2 ^ k))
  | k, a, ha, hb => by
    have cov : ∀ t ∈ N, tlo t ≤ a → a + 2 ^ k ≤ the t → N.flatMap (clip a (a + 2 ^ k)) = [(⟨(a : Int), 32 - (k : Int)⟩ : TPrefix)] := fun t ht h1 h2 => by
      have hp := Nat.two_pow_pos k
      have hc : clip a (a + 2 ^ k) t = [(⟨(a : Int), 32 - (k : Int)⟩ : TPrefix)] := by
        unfold clip
        rw [show max (tlo t) a = a by omega, show min (the t) (a + 2 ^ k) = a + 2 ^ k by omega]
        exact gp_block ha hb
      have ce : ∀ s, (the s ≤ a ∨ a + 2 ^ k ≤ tlo s) → clip a (a + 2 ^ k) s = [] := fun s hs => by unfold clip; exact gp_nil (by omega)
      -- the others lie outside
      have key : ∀ l : List TInterval, l.Pairwise (fun s t => the s < tlo t) → (∀ s ∈ l, s ∈ N) → t ∈ l → l.flatMap (clip a (a + 2 ^ k)) = [(⟨(a : Int), 32 - (k : Int)⟩ : TPrefix)] := by
        intro l
        induction l with
        | nil => intro _ _ h; cases h
        | cons x l ih =>
          intro hp hm hx
          rw [List.pairwise_cons] at hp
          rw [List.flatMap_cons]
          rcases List.mem_cons.1 hx with rfl | hx
          · have : l.flatMap (clip a (a + 2 ^ k)) = [] := by
              rw [List.flatMap_eq_nil_iff]
              exact fun s hs => ce s (.inr (by have := hp.1 s hs; omega))
            rw [this, hc, List.append_nil]
          · have hne := hN.ne x (hm x List.mem_cons_self)
            have := hp.1 t hx
            rw [ce x (.inl (by omega)), List.nil_append]
            exact ih hp.2 (fun s hs => hm s (List.mem_cons_of_mem _ hs)) hx
      exact key N hN.apart (fun _ h => h) ht
    match k, ha, hb, cov with
    | 0, ha, hb, cov =>
      unfold wi
      cases hc : N.any (fun t => decide (tlo t ≤ a) && decide (a + 1 ≤ the t)) with
      | true =>
        obtain ⟨t, h1, h2⟩ := List.any_eq_true.1 hc
        simp only [Bool.and_eq_true, decide_eq_true_eq] at h2
        rw [cov t h1 h2.1 h2.2]
        rfl
      | false =>
        rw [List.any_eq_false] at hc
        rw [cond_false, eq_comm, List.flatMap_eq_nil_iff]
        intro t ht
        have := hc t ht
        simp only [Bool.and_eq_true, decide_eq_true_eq] at this
        unfold clip
        exact gp_nil (by simp only [Nat.pow_zero]; omega)
    | k + 1, ha, hb, cov =>
      have hp := Nat.two_pow_pos k
      have hs : 2 ^ (k + 1) = 2 ^ k + 2 ^ k := by rw [Nat.pow_succ]; omega
      unfold wi
      cases hc : N.any (fun t => decide (tlo t ≤ a) && decide (a + 2 ^ (k + 1) ≤ the t)) with
      | true =>
        obtain ⟨t, h1, h2⟩ := List.any_eq_true.1 hc
        simp only [Bool.and_eq_true, decide_eq_true_eq] at h2
        rw [cov t h1 h2.1 h2.2]
        rfl
      | false =>
        rw [List.any_eq_false] at hc
        rw [cond_false]
        cases hm : N.any (fun t => decide (tlo t < a + 2 ^ (k + 1)) && decide (a < the t)) with
        | false =>
          rw [List.any_eq_false] at hm
          rw [cond_false, eq_comm, List.flatMap_eq_nil_iff]
          intro t ht
          have := hm t ht
          simp only [Bool.and_eq_true, decide_eq_true_eq] at this
          unfold clip
          exact gp_nil (by omega)
        | true =>
          rw [cond_true, wi_ok hN k a (Nat.dvd_trans (Nat.pow_dvd_pow 2 (Nat.le_succ k)) ha) (by omega), wi_ok hN k (a + 2 ^ k) (Nat.dvd_add (Nat.dvd_trans (Nat.pow_dvd_pow 2 (Nat.le_succ k)) ha) (Nat.dvd_refl _)) (by omega)]
          rw [flat_two (hN.apart.imp fun {s t} h => by
            rcases Nat.lt_or_ge (a + 2 ^ k) (the s) with g | g
            · right; unfold clip; exact gp_nil (by omega)
            · left; unfold clip; exact gp_nil (by omega))]
          have each : ∀ t ∈ N, clip a (a + 2 ^ k) t ++ clip (a + 2 ^ k) (a + 2 ^ k + 2 ^ k) t = clip a (a + 2 ^ (k + 1)) t := fun t ht => by
            have nc := hc t ht
            simp only [Bool.and_eq_true, decide_eq_true_eq, not_and, Nat.not_le] at nc
            have ne := hN.ne t ht
            have hi := hN.hi t ht
            unfold clip
            rcases Nat.lt_or_ge (a + 2 ^ k) (min (the t) (a + 2 ^ (k + 1))) with g1 | g1
            · rcases Nat.lt_or_ge (max (tlo t) a) (a + 2 ^ k) with g2 | g2
              · rw [gp_split ha (h := min (the t) (a + 2 ^ (k + 1))) (by omega) g1 (by omega) _ (max (tlo t) a) (Nat.le_refl _) (by omega) (by omega) (fun ⟨e1, e2⟩ => by
                  have := nc (by omega); omega)]
                congr 1
                · congr 1; omega
                · congr 1 <;> omega
              · rw [gp_nil (lo := max (tlo t) a) (e := min (the t) (a + 2 ^ k)) (by omega), List.nil_append]
                congr 1 <;> omega
            · rw [gp_nil (lo := max (tlo t) (a + 2 ^ k)) (by omega), List.append_nil]
              congr 1; omega
          rw [show N.flatMap (fun t => clip a (a + 2 ^ k) t ++ clip (a + 2 ^ k) (a + 2 ^ k + 2 ^ k) t) = N.flatMap (clip a (a + 2 ^ (k + 1))) from by
            unfold List.flatMap
            rw [List.map_congr_left each]]
theorem wi_all {N : List TInterval} (hN : Nat32 N) : wi N 0 32 = gps N := by
  rw [wi_ok hN 32 0 (Nat.dvd_zero _) (by decide)]
  unfold gps List.flatMap
  rw [List.map_congr_left fun t ht => ?_]
  unfold clip gpi
  have := hN.hi t ht
  congr 1
  · unfold tlo; omega
  · unfold the at *; omega
end Nv
