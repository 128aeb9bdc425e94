/- Tables of forwarding entries: prefixes that contain, cover; what the loops find. No condition. -/
import Derived.Test.YtenfloomkjecjaaGreatNvD1
import Derived.Test.YtenfloomkjecjaaGreatNvQ0
import Derived.Test.YtenfloomkjecjaaGreatNvF1
import Derived.Test.YtenfloomkjecjaaGreatNvLibC
import Derived.Test.YtenfloomkjecjaaGreatNvLibB
set_option maxRecDepth 100000
namespace Nv
open Go
open Classical in
noncomputable def hact (x y : TForward) : Bool := decide (x.fDiscard = y.fDiscard ∧ x.fHops = y.fHops)
def fcov (p x : TForward) : Bool := decide (p.fPrefix.fLen ≤ x.fPrefix.fLen) && (bitD .and .u32 x.fPrefix.fAddr (mk32 p.fPrefix.fLen) == p.fPrefix.fAddr)
def fw (x : TForward) : Int := x.fPrefix.fLen
def fpar (x p : TForward) : Bool := decide (fw p < fw x) && fcov p x
structure VP (x : TForward) : Prop where
  a0 : 0 ≤ x.fPrefix.fAddr
  a1 : x.fPrefix.fAddr < 4294967296
  l0 : 0 ≤ x.fPrefix.fLen
  l1 : x.fPrefix.fLen ≤ 32
  z : bitD .andNot .u32 x.fPrefix.fAddr (mk32 x.fPrefix.fLen) = 0
def kk (x : TForward) : Nat := (32 - x.fPrefix.fLen).toNat
theorem VP.kk {x : TForward} (h : VP x) : kk x ≤ 32 ∧ x.fPrefix.fLen = 32 - (kk x : Int) := by
  have := h.l0; have := h.l1
  unfold Nv.kk; omega
theorem VP.dv {x : TForward} (h : VP x) : x.fPrefix.fAddr.toNat / 2 ^ Nv.kk x * 2 ^ Nv.kk x = x.fPrefix.fAddr.toNat := by
  have z := h.z
  rw [andNot_mk ⟨h.a0, h.a1⟩ h.kk.1 h.kk.2] at z
  have := Nat.div_add_mod x.fPrefix.fAddr.toNat (2 ^ Nv.kk x)
  rw [Nat.mul_comm]; omega
def fplt (x y : TForward) : Prop := x.fPrefix.fAddr < y.fPrefix.fAddr ∨ (x.fPrefix.fAddr = y.fPrefix.fAddr ∧ x.fPrefix.fLen < y.fPrefix.fLen)
theorem hact_t {x y : TForward} : hact x y = true ↔ x.fDiscard = y.fDiscard ∧ x.fHops = y.fHops := by unfold hact; simp only [decide_eq_true_eq]
def enc : Option Nat → Int
  | none => -1
  | some k => k
theorem enc_neg (b : Option Nat) : decide (enc b < 0) = b.isNone := by
  cases b with
  | none => rfl
  | some k => exact decide_eq_false (show ¬ (k : Int) < 0 by omega)
theorem upW {i n : Nat} (h : i < n) (hn : n ≤ maxLen) : wr .i64 ((i : Int) + 1) = ((i + 1 : Nat) : Int) := wr_up h hn
def lgstS {α : Type} (P : α → Bool) (w : α → Int) (d : α) (T : List α) (n : Nat) : Option Nat → Option Nat
  | none => bif P (T.getD n d) then some n else none
  | some b => bif P (T.getD n d) && decide (w (T.getD n d) > w (T.getD b d)) then some n else some b
theorem lgst_succ {α : Type} (P : α → Bool) (w : α → Int) (d : α) (T : List α) (n : Nat) : lgst P w d T (n + 1) = lgstS P w d T n (lgst P w d T n) := by
  conv => lhs; unfold lgst
  cases lgst P w d T n <;> rfl
theorem lgst_lt {α : Type} {P : α → Bool} {w : α → Int} {d : α} {T : List α} {n k : Nat} (h : lgst P w d T n = some k) : k < n := by
  rcases lgst_spec P w d T n with ⟨h1, _⟩ | ⟨b, h1, h2, _⟩
  · rw [h1] at h; cases h
  · rw [h1] at h; cases h; exact h2
theorem lookLoop {α : Type} {f : Int × Int → Option ((Int × Int) ⊕ Int)} (P : α → Bool) (w : α → Int) (d : α) (T : List α)
    (hs : ∀ i, i < T.length → ∀ b : Option Nat, (∀ k, b = some k → k < i) → f (enc b, (i : Int)) = some (.inl (enc (lgstS P w d T i b), ((i + 1 : Nat) : Int))))
    (hl : ∀ b, f (b, (T.length : Int)) = some (.inr b)) : loopM f (-1, 0) = some (enc (lgst P w d T T.length)) := by
  have key : ∀ (k i : Nat), i + k = T.length → Iter f (enc (lgst P w d T i), (i : Int)) (enc (lgst P w d T T.length)) := by
    intro k
    induction k with
    | zero => intro i h; obtain rfl : i = T.length := by omega
              exact .out (hl _)
    | succ k ih =>
      intro i h
      refine .next (hs i (by omega) _ fun k hk => lgst_lt hk) ?_
      rw [← lgst_succ]
      exact ih (i + 1) (by omega)
  exact loopM_of (key T.length 0 (by omega))
theorem filtLoop {α : Type} {f : List α × Int → Option ((List α × Int) ⊕ List α)} (ok : α → Bool) (d : α) (T : List α)
    (hs : ∀ i, i < T.length → ∀ acc : List α, acc.length ≤ i → f (acc, (i : Int)) = some (.inl ((bif ok (T.getD i d) then acc ++ [T.getD i d] else acc), ((i + 1 : Nat) : Int))))
    (hl : ∀ acc, f (acc, (T.length : Int)) = some (.inr acc)) : loopM f ([], 0) = some (T.filter ok) := by
  have key : ∀ (k i : Nat), i + k = T.length → Iter f ((T.take i).filter ok, (i : Int)) (T.filter ok) := by
    intro k
    induction k with
    | zero =>
      intro i h
      obtain rfl : i = T.length := by omega
      refine .out ?_
      rw [List.take_length]
      exact hl _
    | succ k ih =>
      intro i h
      have hi : i < T.length := by omega
      have hlen : ((T.take i).filter ok).length ≤ i := Nat.le_trans (List.length_filter_le _ _) (by rw [List.length_take]; omega)
      refine .next (hs i hi _ hlen) ?_
      have e : (bif ok (T.getD i d) then (T.take i).filter ok ++ [T.getD i d] else (T.take i).filter ok) = (T.take (i + 1)).filter ok := by
        rw [List.take_add_one, List.filter_append, List.getElem?_eq_getElem hi, List.getD_eq_getElem?_getD, List.getElem?_eq_getElem hi]
        simp only [Option.getD_some, Option.toList_some]
        cases h : ok T[i] with
        | true => rw [List.filter_cons_of_pos h]; rfl
        | false => rw [List.filter_cons_of_neg (by rw [h]; exact Bool.false_ne_true)]; simp
      rw [e]
      exact ih (i + 1) (by omega)
  exact loopM_of (key T.length 0 (by omega))
theorem allLoop {f : Int → Option (Int ⊕ (Unit ⊕ Bool))} {n : Nat} (ok : Nat → Bool) (hs : ∀ i : Nat, i < n → f (i : Int) = bif ok i then some (.inl ((i + 1 : Nat) : Int)) else some (.inr (.inr false)))
    (hl : f (n : Int) = some (.inr (.inl ()))) : ((loopM f 0).bind fun y => Sum.elim (fun _ => some true) (fun z => some z) y) = some (decide (∀ i, i < n → ok i = true)) := by
  have key : ∀ (k i : Nat), i + k = n → (∀ j, j < i → ok j = true) → ∃ y, Iter f (i : Int) y ∧ Sum.elim (fun _ => some true) (fun z => some z) y = some (decide (∀ i, i < n → ok i = true)) := by
    intro k
    induction k with
    | zero =>
      intro i h hj
      obtain rfl : i = n := by omega
      exact ⟨_, .out hl, by rw [decide_eq_true hj]; rfl⟩
    | succ k ih =>
      intro i h hj
      have s := hs i (by omega)
      cases ho : ok i with
      | true =>
        rw [ho] at s
        obtain ⟨y, h1, h2⟩ := ih (i + 1) (by omega) fun j hj2 => by
          by_cases e : j = i
          · rw [e]; exact ho
          · exact hj j (by omega)
        exact ⟨y, .next s h1, h2⟩
      | false =>
        rw [ho] at s
        refine ⟨_, .out s, ?_⟩
        rw [decide_eq_false fun g => by have := g i (by omega); rw [ho] at this; cases this]
        rfl
  obtain ⟨y, h1, h2⟩ := key n 0 (by omega) fun j h => absurd h (Nat.not_lt_zero j)
  rw [show loopM f 0 = some y from loopM_of h1, Option.bind_some, h2]
end Nv
