/- Hops: ascending lists, neighbours that are alike struck out. No condition. -/
import Derived.Test.YtenfloomkjecjaaGreatNvD1
import Derived.Test.YtenfloomkjecjaaGreatNvLibC
namespace Nv
open Go
def heq (x y : ZY) : Bool := (x.ZH == y.ZH) && ((x.Zn == y.Zn) && true)
theorem Zfa {x y : ZY} : heq x y = true ↔ x = y := by
 unfold heq
 simp only [Bool.and_true,Bool.and_eq_true,beq_iff_eq]
 constructor
 ·rintro ⟨h1,h2⟩; cases x; cases y; simp_all
 ·rintro rfl; exact ⟨rfl,rfl⟩
def hdst (acc : List ZY) (x : ZY) : List ZY :=
 match acc.getLast? with
 | none => [x]
 | some y => bif heq x y then acc else acc ++ [x]
def ddp (l : List ZY) : List ZY := l.foldl hdst []
theorem Zbg (l : List ZY) (x : ZY) : ddp (l ++ [x]) = hdst (ddp l) x := by unfold ddp; rw [List.foldl_append]; rfl
theorem Zkr (acc : List ZY) (x : ZY) : (hdst acc x).getLast? = some x := by
 unfold hdst
 split
 ·rfl
 ·rename_i y hy
  cases hb : heq x y with
  | true => rw [cond_true,hy,Zfa.1 hb]
  | false => simp
theorem Zir : ∀ l : List ZY,(ddp l).getLast? = l.getLast? := fun l => by
 rcases List.eq_nil_or_concat l with rfl | ⟨l,x,rfl⟩
 ·rfl
 ·rw [List.concat_eq_append,Zbg,Zkr]; simp
theorem Zf7 {α : Type} {P : List α → Prop} (h0 : P []) (hs : ∀ l x,P l → P (l ++ [x])) (l : List α) : P l := by
 have : ∀ m : List α,P m.reverse := fun m => by
  induction m with
  | nil => exact h0
  | cons x m ih => rw [List.reverse_cons]; exact hs _ _ ih
 have h := this l.reverse
 rwa [List.reverse_reverse] at h
theorem Zhv (x : ZY) (l : List ZY) : x ∈ ddp l ↔ x ∈ l := by
 refine Zf7 (P := fun l => x ∈ ddp l ↔ x ∈ l) Iff.rfl (fun l y ih => ?_) l
 ·skip
  rw [Zbg,List.mem_append,List.mem_singleton,← ih]
  unfold hdst
  split
  ·rename_i hn
   rw [List.getLast?_eq_none_iff] at hn
   rw [hn]; simp
  ·rename_i z hz
   cases hb : heq y z with
   | true =>
    have := Zfa.1 hb
    subst this
    have : y ∈ ddp l := List.mem_of_getLast? hz
    simp only [cond_true]
    exact ⟨.inl,fun h => h.elim id fun e => e ▸ this⟩
   | false => simp only [cond_false,List.mem_append,List.mem_singleton]
def hlt (x y : ZY) : Prop := x.ZH < y.ZH ∨ (x.ZH = y.ZH ∧ x.Zn < y.Zn)
instance (x y : ZY) : Decidable (hlt x y) := by unfold hlt; exact inferInstance
theorem ZmH (x : ZY) : ¬ hlt x x := fun h => by unfold hlt at h; omega
theorem Zks {x y z : ZY} (h : hlt x y) (k : hlt y z) : hlt x z := by unfold hlt at *; omega
theorem ZjG (x y : ZY) : hlt x y ∨ x = y ∨ hlt y x := by
 by_cases h : x = y
 ·exact .inr (.inl h)
 ·have : ¬ (x.ZH = y.ZH ∧ x.Zn = y.Zn) := fun ⟨a,b⟩ => h (by cases x; cases y; simp_all)
  unfold hlt; omega
def HAsc (l : List ZY) : Prop := l.Pairwise hlt
theorem ZmI : ∀ {l : List ZY},l.Pairwise (fun x y => ¬ hlt y x) → HAsc (ddp l) := fun {l} => by
 refine Zf7 (P := fun l => l.Pairwise (fun x y => ¬ hlt y x) → HAsc (ddp l)) (fun _ => List.Pairwise.nil) (fun l y ih h => ?_) l
 ·skip
  rw [List.pairwise_append] at h
  have ih := ih h.1
  rw [Zbg]
  unfold hdst
  split
  ·exact List.pairwise_singleton _ _
  ·rename_i z hz
   cases hb : heq y z with
   | true => exact ih
   | false =>
    simp only [cond_false]
    unfold HAsc
    rw [List.pairwise_append]
    refine ⟨ih,List.pairwise_singleton _ _,fun a ha b hb' => ?_⟩
    rw [List.mem_singleton] at hb'
    subst hb'
    have h1 := h.2.2 a ((Zhv a l).1 ha) b (by simp)
    rcases ZjG a b with h2 | h2 | h2
    ·exact h2
    ·subst h2
     -- then a is the last: contradiction to 'heq'
     exfalso
     rw [Zir] at hz
     have hzl : z ∈ l := List.mem_of_getLast? hz
     have h3 := h.2.2 z hzl a (by simp)
     obtain ⟨l',rfl⟩ : ∃ l',l = l' ++ [z] := by
      rcases List.eq_nil_or_concat l with rfl | ⟨l',w,rfl⟩
      ·cases hz
      ·rw [List.concat_eq_append] at hz ⊢
       simp at hz
       exact ⟨l',by rw [hz]⟩
     have ha' := (Zhv a _).1 ha
     rcases List.mem_append.1 ha' with h4 | h4
     ·rw [List.pairwise_append] at h
      have h5 := h.1.2.2 a h4 z (by simp)
      rcases ZjG a z with h6 | h6 | h6
      ·exact h3 h6
      ·rw [Zfa.2 h6] at hb; cases hb
      ·exact h5 h6
     ·rw [List.mem_singleton] at h4
      rw [Zfa.2 h4] at hb; cases hb
    ·exact absurd h2 h1
theorem ZmJ (l : List ZY) : (ddp l).length ≤ l.length := by
 refine Zf7 (P := fun l => (ddp l).length ≤ l.length) (Nat.le_refl _) (fun l y ih => ?_) l
 ·skip
  rw [Zbg,List.length_append,List.length_singleton]
  unfold hdst
  split
  ·simp
  ·rename_i z _
   cases heq y z <;> simp <;> omega
end Nv
