/- Part of the proof of RibOffers: the library of walks. No condition. -/
import Derived.Test.YtghjgndlgliieaaNvLibB
import Derived.KernelRfl
namespace Nv
open Go Go.RowKit
structure GInv (F : Fr) (nt : Nat) (ops : Array Oper) (H0 : List Ob) (p0 p : Nat) (zs fs : Nat → List D) (V : Nat → D) (env0 : List (Nat × D)) (listed : Array Bool) (a : Act) (c : Ctx) : Prop where
  H : ∃ X, c.H = H0 ++ X ∧ X.all ngone = true
  inv : Inv F c
  env : ∀ t, GV (yielded ops a.tmps) c (a.tmps.getD t undef) (valL ops (V1 p0 V) env0 (fun i => listed.getD i false = true) t)
  fl : ∃ fid : Nat → Nat, (∀ k, p0 ≤ k → k < p → listed.getD k false = true → H0.length ≤ fid k ∧ c.H[fid k]? = some (.box (ct p0 p zs fs listed k)) ∧ ∀ t, (ops[k]?).bind (·.dst) = some t → TV c (a.tmps.getD t undef) (.ref (fid k) 0)) ∧
    ∀ k l, p0 ≤ k → k < p → p0 ≤ l → l < p → listed.getD k false = true → listed.getD l false = true → fid k = fid l → k = l
  size : a.tmps.size = nt
  defers : a.defers = []
  opt : ∀ t j w d, valL ops (V1 p0 V) env0 (fun i => listed.getD i false = true) t = .opt j w d → listed.getD j false = true
  lsize : listed.size = ops.size
  closed : ∀ i j, Waits ops i j → listed.getD i false = true → listed.getD j false = true
end Nv
namespace Nv
open Go Go.RowKit
end Nv
namespace Nv
open Go Go.RowKit
def isApp : Op → Bool
  | .call { callee := .builtin .append, args := ⟨[_, _]⟩, argTypes := ⟨[_, _]⟩ } => true
  | _ => false
def chE (ch : Option (Nat × D)) (env : List (Nat × D)) (x : Operand) : D :=
  match ch, x with
  | some (t0, d0), .tmp t => bif Nat.beq t t0 then d0 else unwrap [] (evD env x)
  | _, _ => unwrap [] (evD env x)
def pidOk (n : Nat) (ch : Option (Nat × D)) (pid : Option Nat) : Bool :=
  match ch, pid with
  | none, none => true
  | some _, some p => Nat.beq p n
  | _, _ => false
def lastW (ws : List Nat) : Nat := ws.getLastD 0
def hkA (ops : Array Oper) (ws : List Nat) (H0 HH : List Ob) (k : Nat) : List Ob := bif ((Region.before ops).getD k 0).testBit (lastW ws) then HH else H0
def stepA (P : Program) (ops : Array Oper) (ws : List Nat) (H0 : List Ob) (k : Nat) (HH : List Ob) (ch : Option (Nat × D)) (env : List (Nat × D)) (orc : List Res) (o : Oper) : Option (D × List Ob × Option (Nat × D) × List Bool × List Req × List Res) :=
  match ws.contains k with
  | true => match o.guard, o.dst, isApp o.op, heapD P HH (chE ch env) o.op with
    | none, some t, true, some (d, H', pid, bs) => bif pidOk H0.length ch pid then some (bif Nat.beq k (lastW ws) then d else .any, H', some (t, d), bs, [], orc) else none
    | _, _, _, _ => none
  | false => match stepDr P ops k (hkA ops ws H0 HH k) env orc o with
    | some (d, bs, rq, orc') => bif mt H0.length d && !((Region.before ops).getD k 0).testBit (lastW ws) then none else some (d, HH, ch, bs, rq, orc')
    | none => none
structure TraceA (P : Program) (nt : Nat) (ops : Array Oper) (ws : List Nat) (H0 : List Ob) (bs : List Bool) (rq : List Req) (k n : Nat) (E : Nat → List (Nat × D)) (HH : Nat → List Ob) (CH : Nat → Option (Nat × D)) (V : Nat → D) : Prop where
  step : ∀ i, k ≤ i → i < n → ∃ o orc b r orc', ops[i]? = some o ∧ stepA P ops ws H0 i (HH i) (CH i) (E i) orc o = some (V i, HH (i + 1), CH (i + 1), b, r, orc') ∧ (∀ x ∈ b, x ∈ bs) ∧ (∀ x ∈ r, x ∈ rq)
  put : ∀ i, k ≤ i → i < n → ∃ o, ops[i]? = some o ∧ putE nt o.dst (V i) (E i) = some (E (i + 1))
section
variable {P : Program} {nt : Nat} {ops : Array Oper} {ws : List Nat} {H0 : List Ob} {bs : List Bool} {rq : List Req} {n : Nat} {E : Nat → List (Nat × D)} {HH : Nat → List Ob} {CH : Nat → Option (Nat × D)} {V : Nat → D}
end
structure AInv (F : Fr) (nt : Nat) (ops : Array Oper) (ws : List Nat) (HH : Nat → List Ob) (CH : Nat → Option (Nat × D)) (V : Nat → D) (env0 : List (Nat × D)) (listed : Array Bool) (a : Act) (c : Ctx) : Prop where
  H : ∃ q, q ≤ ops.size ∧ c.H = HH q ∧ (∀ w, ws.contains w = true → w < q → listed.getD w false = true) ∧ (∀ w, ws.contains w = true → q ≤ w → listed.getD w false = false) ∧
    ∀ t0 d0, CH q = some (t0, d0) → TV c (a.tmps.getD t0 undef) d0
  inv : Inv F c
  env : ∀ t, GV (yielded ops a.tmps) c (a.tmps.getD t undef) (valL ops V env0 (fun i => listed.getD i false = true) t)
  size : a.tmps.size = nt
  defers : a.defers = []
  opt : ∀ t j w d, valL ops V env0 (fun i => listed.getD i false = true) t = .opt j w d → listed.getD j false = true
  lsize : listed.size = ops.size
  closed : ∀ i j, Waits ops i j → listed.getD i false = true → listed.getD j false = true
end Nv
namespace Nv
open Go Go.RowKit
end Nv
namespace Nv
open Go Go.RowKit
section
variable {α : Type} [Inhabited α] (c : α → List D)
theorem one_ext {x : α} {g : Nat → List D} (hg : g 0 = c x) : ∀ i, i < 1 → g i = c (([x] : List α).getD i default) := by
  intro i hi
  obtain rfl : i = 0 := by omega
  simpa using hg
end
section
variable {F : Fr} {c : Ctx} {i0 i1 : Nat} {o : Ob}
end
end Nv
namespace Nv
open Go
section
variable {α : Type} [Inhabited α] (cmp : α → α → Option Int)
end
end Nv
namespace Nv
open Go
section
variable {α : Type} [Inhabited α]
theorem wrN {n : Int} (h0 : 0 ≤ n) (h1 : n ≤ 9223372036854775807) : wr .i64 n = n := by
  unfold wr
  rw [IntWalk.i64_in _ (by omega)]
abbrev at' (l : List α) (k : Nat) : α := l.getD k default
def swp (l : List α) (i j : Nat) : List α := (l.set i (at' l j)).set j (at' l i)
@[simp] theorem swp_len (l : List α) (i j : Nat) : (swp l i j).length = l.length := by simp [swp]
end
section
variable {α : Type}
structure SW (lt : α → α → Bool) : Prop where
  irr : ∀ x, lt x x = false
  tr : ∀ x y z, lt x y = true → lt y z = true → lt x z = true
  ntr : ∀ x y z, lt x y = false → lt y z = false → lt x z = false
variable {lt : α → α → Bool}
def eqv (lt : α → α → Bool) (e x : α) : Bool := !lt e x && !lt x e
end
section
variable {α : Type} [Inhabited α] {lt : α → α → Bool}
structure Rng (lt : α → α → Bool) (a b : Nat) (l l' : List α) : Prop where
  len : l'.length = l.length
  out : ∀ k, k < a ∨ b ≤ k → at' l' k = at' l k
  stab : ∀ e, l'.filter (eqv lt e) = l.filter (eqv lt e)
  src : ∀ k, a ≤ k → k < b → ∃ k', a ≤ k' ∧ k' < b ∧ at' l' k = at' l k'
theorem Rng.refl (a b : Nat) (l : List α) : Rng lt a b l l := ⟨rfl, fun _ _ => rfl, fun _ => rfl, fun k h1 h2 => ⟨k, h1, h2, rfl⟩⟩
theorem Rng.trans {a b : Nat} {l m n : List α} (h : Rng lt a b l m) (k : Rng lt a b m n) : Rng lt a b l n :=
  ⟨k.len.trans h.len, fun i hi => (k.out i hi).trans (h.out i hi), fun e => (k.stab e).trans (h.stab e), fun i h1 h2 => by
    obtain ⟨j, j1, j2, j3⟩ := k.src i h1 h2
    obtain ⟨p, p1, p2, p3⟩ := h.src j j1 j2
    exact ⟨p, p1, p2, j3.trans p3⟩⟩
theorem Rng.mono {a b a' b' : Nat} {l m : List α} (h : Rng lt a b l m) (ha : a' ≤ a) (hb : b ≤ b') : Rng lt a' b' l m :=
  ⟨h.len, fun k hk => h.out k (by omega), h.stab, fun k h1 h2 => by
    by_cases hk : a ≤ k ∧ k < b
    · obtain ⟨j, j1, j2, j3⟩ := h.src k hk.1 hk.2
      exact ⟨j, by omega, by omega, j3⟩
    · exact ⟨k, h1, h2, h.out k (by omega)⟩⟩
def Srt (lt : α → α → Bool) (a b : Nat) (l : List α) : Prop := ∀ i j, a ≤ i → i < j → j < b → lt (at' l j) (at' l i) = false
theorem Srt.out {a b p q : Nat} {l l' : List α} (h : Srt lt p q l) (k : Rng lt a b l l') (hd : q ≤ a ∨ b ≤ p) : Srt lt p q l' := by
  intro i j h1 h2 h3
  rw [k.out i (by omega), k.out j (by omega)]
  exact h i j h1 h2 h3
end
section
variable {α : Type} {lt : α → α → Bool}
end
section
variable {α : Type} [Inhabited α] {lt : α → α → Bool}
end
end Nv
namespace Nv
open Go
section
variable {α : Type} [Inhabited α]
variable {cmp : α → α → Option Int} {c : α → α → Int}
theorem gdT {β : Type} {l : List Bool} {k : Option β} (h : l.all id = true) : gd l k = k := by unfold gd; rw [h]; rfl
end
end Nv
namespace Nv
open Go Go.RowKit
theorem flow_of {ops : Array Oper} (hfl : flowB ops = true) : ∀ i o, ops[i]? = some o → flowAt ops (Region.before ops) i o = true := by
  simp only [flowB, Bool.and_eq_true, List.all_eq_true] at hfl
  intro i o ho
  refine hfl.2 (o, i) ?_
  rw [List.mem_zipIdx_iff_getElem?]
  simpa using ho
theorem set_iff {listed : Array Bool} {i : Nat} (hi : i < listed.size) (j : Nat) : (listed.setIfInBounds i true).getD j false = true ↔ j = i ∨ listed.getD j false = true := by
  by_cases hji : j = i
  · subst hji; simp [hi]
  · rw [getD_set_ne false (Ne.symm hji)]; simp [hji]
end Nv
namespace Nv
open Go Go.RowKit
def cutAt (ops : Array Oper) (k : Nat) : Bool :=
  let M := Region.before ops
  (List.range ops.size).all fun q => Nat.blt q k || (List.range k).all fun p => (M.getD q 0).testBit p
theorem cutAt_spec {ops : Array Oper} {k p q : Nat} (h : cutAt ops k = true) (hq : q < ops.size) (hk : k ≤ q) (hp : p < k) : ((Region.before ops).getD q 0).testBit p = true := by
  have h1 := List.all_eq_true.1 h q (List.mem_range.2 hq)
  rw [show Nat.blt q k = false by (cases hb : Nat.blt q k with | false => rfl | true => have := blt_true hb; omega), Bool.false_or] at h1
  exact List.all_eq_true.1 h1 p (List.mem_range.2 hp)
def QK (Q : Exit → Act → World → Prop) (K : Act → World → Prop) : Exit → Act → World → Prop
  | .normal, a, w => K a w
  | e, a, w => Q e a w
theorem wp_qk {P : Program} {o : Oper} {a : Act} {w : World} {Q : Exit → Act → World → Prop} {K K1 K2 : Act → World → Prop} (h : ∀ a w, K1 a w → K2 a w) (hh : o.wp P a w K1 (QK Q K)) : o.wp P a w K2 Q := by
  unfold Oper.wp at *
  generalize (execOp a.eval o).run P w = r at *
  cases r with
  | ok n w' =>
    cases n <;> simp only [Oper.upon] at hh ⊢ <;>
      first
        | exact h _ _ hh
        | exact Calls.mono hh (fun e w'' he => by cases e <;> first | exact h _ _ he | exact he)
        | exact Rows.mono hh (fun _ _ he => h _ _ he)
  | halt x w' => cases x <;> simp only [Oper.upon] at hh ⊢ <;> exact hh
theorem ext_get {ops : Array Oper} {k i : Nat} (hk : k ≤ ops.size) (hi : i < k) : (ops.extract 0 k)[i]? = ops[i]? := by
  rw [Array.getElem?_extract]
  simp only [Nat.sub_zero, Nat.zero_add]
  rw [if_pos (by omega)]
theorem any_prefix {P : Program} {ops : Array Oper} {k : Nat} (hk : k ≤ ops.size) (hfl : flowB ops = true) (hcut : cutAt ops k = true) {Q : Exit → Act → World → Prop} {K : Act → World → Prop}
    (hn : ∀ a w, K a w → ∀ listed : Array Bool, listed.size = ops.size → (∀ i, listed.getD i false = true ↔ i < k) → wpAny P .any ops Q (ops.size - k) listed a w) :
    ∀ (fuel : Nat) (la listed : Array Bool) (a : Act) (w : World), la.size = k → listed.size = ops.size → (∀ i, listed.getD i false = true ↔ la.getD i false = true) → (∀ i j, Waits ops i j → listed.getD i false = true → listed.getD j false = true) → cnt la + fuel = k →
      wpAny P .any (ops.extract 0 k) (QK Q K) fuel la a w → wpAny P .any ops Q (fuel + (ops.size - k)) listed a w := by
  have flow := flow_of hfl
  have esz : (ops.extract 0 k).size = k := by rw [Array.size_extract]; omega
  have onlt : ∀ i o, ops[i]? = some o → ∀ e ∈ o.after, Region.binds .any e = true → e.on < i := fun i o ho e he hb => by
    have h1 := flow i o ho
    simp only [flowAt, Bool.and_eq_true] at h1
    have h2 := Array.all_eq_true'.1 h1.1.1 e he
    simp only [hb, Bool.not_true, Bool.false_or] at h2
    exact blt_true h2
  intro fuel
  induction fuel with
  | zero =>
    intro la listed a w hla hls hle hcl hcnt hw
    have hall := cnt_full (listed := la) (by rw [hla]; omega)
    rw [Nat.zero_add]
    refine hn a w hw.2 listed hls fun i => ?_
    rw [hle]
    refine ⟨fun h => ?_, fun h => hall i (by omega)⟩
    rcases Nat.lt_or_ge i la.size with h1 | h1
    · omega
    · simp [Array.getElem?_eq_none h1] at h
  | succ fuel ih =>
    intro la listed a w hla hls hle hcl hcnt hw
    rw [show fuel + 1 + (ops.size - k) = (fuel + (ops.size - k)) + 1 by omega]
    have lan : ∀ i, k ≤ i → listed.getD i false = false := fun i hi => by
      cases hl : listed.getD i false with
      | false => rfl
      | true =>
        have := (hle i).1 hl
        simp [Array.getElem?_eq_none (show la.size ≤ i by omega)] at this
    -- one is not listed yet
    have ex : ∃ i, i < k ∧ la.getD i false = false := by
      apply Classical.byContradiction
      intro h
      have hall : ∀ i, i < la.size → la.getD i false = true := fun i hi => by
        cases hl : la.getD i false with
        | true => rfl
        | false => exact absurd ⟨i, by omega, hl⟩ h
      have : cnt la = la.size := by
        unfold cnt
        rw [← Array.length_toList]
        refine List.countP_eq_length.2 fun x hx => ?_
        obtain ⟨i, hi, rfl⟩ := List.getElem_of_mem hx
        have := hall i (by simpa using hi)
        simp only [Array.length_toList] at hi
        simp [hi] at this
        simpa using this
      omega
    have rdy : ∀ i, i ∈ Region.ready .any ops listed → i < k ∧ i ∈ Region.ready .any (ops.extract 0 k) la := fun i hi => by
      obtain ⟨h1, o, ho, h2⟩ := mem_ready.1 hi
      have hilt := (Array.getElem?_eq_some_iff.1 ho).1
      have hik : i < k := by
        apply Classical.byContradiction
        intro hge
        obtain ⟨j, hj, hj2⟩ := ex
        have hr := before_reach ops i j hilt (cutAt_spec hcut hilt (by omega) hj)
        have := closed_reach hcl hr fun q ⟨o', ho', e, he, hb, hon⟩ => by
          rw [ho] at ho'; cases ho'
          rw [← hon]; exact h2 e he hb
        rw [hle, hj2] at this
        cases this
      refine ⟨hik, mem_ready.2 ⟨?_, o, by rw [ext_get hk hik]; exact ho, fun e he hb => (hle _).1 (h2 e he hb)⟩⟩
      have h3 : listed.getD i false = false := by simp [hls, hilt] at h1 ⊢; exact h1
      have h4 : la.getD i false = false := by
        cases hl : la.getD i false with
        | false => rfl
        | true => rw [(hle i).2 hl] at h3; cases h3
      simp [hla, hik] at h4 ⊢; exact h4
    have ne : Region.ready .any ops listed ≠ [] := by
      obtain ⟨j, hj, hj2⟩ := ex
      have key : ∀ i, i < k → la.getD i false = false → ∃ q, q ∈ Region.ready .any ops listed := by
        intro i
        induction i using Nat.strongRecOn with
        | _ i ihi =>
          intro hi hil
          by_cases hx : ∃ e ∈ (ops[i]'(by omega)).after, Region.binds .any e = true ∧ listed.getD e.on false = false
          · obtain ⟨e, he, hb, hl⟩ := hx
            have h1 := onlt i _ (by simp) e he hb
            refine ihi e.on h1 (by omega) ?_
            cases hq : la.getD e.on false with
            | false => rfl
            | true => rw [(hle _).2 hq] at hl; cases hl
          · refine ⟨i, mem_ready.2 ⟨?_, ops[i]'(by omega), by simp, fun e he hb => ?_⟩⟩
            · have : listed.getD i false = false := by
                cases hq : listed.getD i false with
                | false => rfl
                | true => rw [(hle i).1 hq] at hil; cases hil
              simp [hls, show i < ops.size by omega] at this ⊢; exact this
            · cases hq : listed.getD e.on false with
              | true => rfl
              | false => exact absurd ⟨e, he, hb, hq⟩ hx
      obtain ⟨q, hq⟩ := key j hj hj2
      intro h; rw [h] at hq; cases hq
    refine ⟨fun h => absurd h ne, fun i hi => ?_⟩
    obtain ⟨hik, hiA⟩ := rdy i hi
    obtain ⟨hun, o, ho, hall⟩ := mem_ready.1 hi
    have hilt := (Array.getElem?_eq_some_iff.1 ho).1
    have hunA : la.getD i false = false := by
      cases hl : la.getD i false with
      | false => rfl
      | true =>
        have := (hle i).2 hl
        simp [hls, hilt] at hun this
        rw [hun] at this; cases this
    have hop := hw.2 i hiA
    have next : ∀ a' w', wpAny P .any (ops.extract 0 k) (QK Q K) fuel (la.setIfInBounds i true) a' w' → wpAny P .any ops Q (fuel + (ops.size - k)) (listed.setIfInBounds i true) a' w' := fun a' w' h =>
      ih (la.setIfInBounds i true) (listed.setIfInBounds i true) a' w' (by simp [hla]) (by simp [hls])
        (fun j => by rw [set_iff (by omega) j, set_iff (by omega) j, hle j])
        (fun p q hpq hp => by
          rw [set_iff (by omega)] at hp ⊢
          rcases hp with rfl | hp
          · right
            obtain ⟨o', ho', e, he, hb, hon⟩ := hpq
            rw [ho] at ho'; cases ho'
            rw [← hon]; exact hall e he hb
          · exact .inr (hcl p q hpq hp))
        (by rw [cnt_set (by omega) hunA]; omega) h
    have hA : (ops.extract 0 k)[i]? = some o := by rw [ext_get hk hik]; exact ho
    unfold wpOp at hop ⊢
    rw [hA] at hop
    rw [ho]
    simp only at hop ⊢
    have hwant : Region.wanted o (yielded (ops.extract 0 k) a.tmps) = Region.wanted o (yielded ops a.tmps) := by
      unfold Region.wanted
      cases hg : o.guard with
      | none => rfl
      | some p =>
        obtain ⟨j, want⟩ := p
        have h1 := flow i o ho
        simp only [flowAt, Bool.and_eq_true, hg] at h1
        obtain ⟨e, he, h2⟩ := Array.any_eq_true'.1 h1.1.2
        simp only [Bool.and_eq_true] at h2
        have h3 := onlt i o ho e he h2.1
        rw [Nat.eq_of_beq_eq_true h2.2] at h3
        simp only [yielded, ext_get hk (show j < k by omega)]
    rw [hwant] at hop
    split
    · rename_i hw'
      rw [if_pos hw'] at hop
      exact hop.imp (wp_qk next) (fun h => h)
    · rename_i hw'
      rw [if_neg hw'] at hop
      exact next _ _ hop
end Nv
namespace Nv
open Go Go.RowKit
theorem le_ptr {nt : Nat} {e : List (Nat × D)} {H : List Ob} (t id : Nat) (cells : List D) (h : find e t = .ref id 0) (ho : H[id]? = some (.box cells)) (hp : cells.all (fun d => persB d && cellB d) = true) (hf : freeB H id = true) :
    Le ⟨nt, e, H⟩ ⟨nt, (t, .eref id 0 0) :: e.map (fun p => (p.1, purge (some id) p.2)), (H.set id (.arr cells.length 1 fun _ => cells)).map (purgeO id)⟩ := by
  rintro F a w ⟨cx, rfl, hH, hI, henv, hsz, hd⟩
  obtain rfl : cx.H = H := hH
  have hown := free_own hI ho (by simp) hf
  have hid : id < cx.H.length := (List.getElem?_eq_some_iff.1 ho).1
  have hr : Redo cx id (cx.mu id) cx.w := ⟨rfl, rfl, rfl, Nat.le_refl _, Nat.le_refl _, fun _ _ _ => rfl, fun b hb => ⟨(hI.loc id b hb).2.1, .inl hb⟩⟩
  obtain ⟨b, cs, T, hb, hh, hvs⟩ := hI.obj id _ ho
  have hI1 := redo_inv hI hown hr hid cells.length 1 (fun _ => cells) ⟨fun i _ => rfl, .inr ⟨b, cs, T, hb, hh, by rw [Nat.one_mul, hvs.1]; exact Nat.le_refl _, fun i hi j d hd => by
    obtain rfl : i = 0 := by omega
    have hj : j < cs.size := by rw [hvs.1]; exact (List.getElem?_eq_some_iff.1 hd).1
    have h1 := hvs.2 j cs[j] d (by simp [hj]) hd
    have h2 := List.all_eq_true.1 hp d (List.mem_of_getElem? hd)
    simp only [Bool.and_eq_true] at h2
    exact ⟨cs[j], by simp [hj], cv_one h2.2 h1, redo_pv hI hr (pers_pv h2.1 h1)⟩⟩⟩
  refine ⟨cx.redo id (.arr cells.length 1 fun _ => cells) (cx.mu id) cx.w, rfl, rfl, hI1, fun u => ?_, hsz, hd⟩
  show TV _ _ (find ((t, .eref id 0 0) :: e.map (fun p => (p.1, purge (some id) p.2))) u)
  simp only [find]
  cases hbq : Nat.beq t u with
  | false =>
    simp only [cond_false]
    rw [find_map]
    exact redo_tv hI hr (henv u)
  | true =>
    obtain rfl := Nat.eq_of_beq_eq_true hbq
    simp only [cond_true]
    have h2 : TV cx (a.tmps.getD t undef) (find e t) := henv t
    rw [h] at h2
    simp only [TV, AV, CV] at h2 ⊢
    obtain ⟨b', hb', hv⟩ := h2
    refine ⟨b', cells.length, 1, fun _ => cells, by simp [Ctx.redo, hb'], ?_, by omega, by rw [hv]; simp⟩
    simp only [Ctx.redo, List.getElem?_map, List.getElem?_set_self hid, Option.map_some]
    rfl
def lendPD (P : Program) (H : List Ob) (ρ : Operand → D) (ys : List Operand) (x : Operand) (orc : List Res) (op : Op) : Option (D × List Ob × List Req) :=
  match op with
  | .call { callee := .value f, args := _, argTypes := ⟨ts⟩ } =>
    match ρ f, ρ x, orc with
    | .fn k [], .eref id 0 0, [.lnd _ _ _ g' d] => match H[id]? with
      | some (.arr wd n g) => bif callable P k && (argsD P H ts.dropLast (ys.map ρ)).all pArg && Nat.beq ys.length ts.dropLast.length && !(ys.any fun y => ownA (ρ y)) && scalarB (.pure d) then
          some (d, H.set id (.arr wd n g'), [⟨true, k, argsD P H ts.dropLast (ys.map ρ) ++ [.eref 0 0 0], .lnd wd n g g' d⟩]) else none
      | _ => none
    | _, _, _ => none
  | _ => none
def argsOf : Op → List Operand
  | .call { callee := _, args := ⟨xs⟩, argTypes := _ } => xs
  | _ => []
theorem lendP_ok {P : Program} {F : Fr} [GF P F] {c : Ctx} (hI : Inv F c) {o : Oper} {a : Act} {ρd : Operand → D} {orc : List Res} {d : D} {H' : List Ob} {rq : List Req} {ys : List Operand} {x : Operand} (hxs : argsOf o.op = ys ++ [x])
    (hρ : ∀ y ∈ o.op.operands.toList, TV c (a.eval y) (ρd y)) (h : lendPD P c.H ρd ys x orc o.op = some (d, H', rq)) (hr : ∀ q ∈ rq, q.ok P)
    {K : Act → World → Prop} {Q : Exit → Act → World → Prop} (hK : ∀ v c', Inv F c' → c'.H = H' → (∀ u e, TV c u e → TV c' u e) → TV c' v d → K (a.put o.dst v) c'.w) : o.wp P a c.w K Q := by
  unfold lendPD at h
  split at h <;> try cases h
  rename_i f ags ts hop
  split at h <;> try cases h
  rename_i k id wd0 n0 g0 g' d0 hfn hx
  split at h <;> try cases h
  rename_i wd n g ho
  obtain ⟨xs⟩ := ags
  have hxs : xs = ys ++ [x] := by rw [hop] at hxs; exact hxs
  subst hxs
  cases hcond : (callable P k && (argsD P c.H ts.dropLast (ys.map ρd)).all pArg && Nat.beq ys.length ts.dropLast.length && !(ys.any fun y => ownA (ρd y)) && scalarB (.pure d0)) with
  | false => rw [hcond] at h; cases h
  | true =>
    rw [hcond] at h
    simp only [cond_true, Option.some.injEq, Prod.mk.injEq] at h
    obtain ⟨rfl, rfl, rfl⟩ := h
    simp only [Bool.and_eq_true, Bool.not_eq_true'] at hcond
    obtain ⟨⟨⟨⟨hcall, hpa⟩, hsz⟩, hown⟩, hret⟩ := hcond
    have hsz := Nat.eq_of_beq_eq_true hsz
    have hF : FnM P k _ wd n g g' d0 := hr _ (List.mem_singleton.2 rfl) rfl
    have hf := hρ f (by simp [hop, Op.operands, Call.operands])
    rw [hfn] at hf
    obtain ⟨vs, hfv, hvs⟩ := hf
    have hvs0 : vs = #[] := by
      have := hvs.1
      simpa using this
    subst hvs0
    have hxv := hρ x (by simp [hop, Op.operands, Call.operands])
    rw [hx] at hxv
    have hargs : ∀ y ∈ ys, TV c (a.eval y) (ρd y) := fun y hy => hρ y (by simp [hop, Op.operands, Call.operands, hy])
    have hrun : (execOp a.eval o).run P c.w = .ok (.enter k ((ys.map a.eval).toArray ++ #[a.eval x])) c.w := by
      simp [execOp, hop, resolve, hfv, Deferred.ofValue, invoke, callable_run hcall]
    unfold Oper.wp
    rw [hrun]
    have hv1 := argsD_vs (P := P) (c := c) (I := c.I) (ρc := a.eval) (ρd := ρd) ts.dropLast ys hsz hargs hpa
      (fun t d v e h1 h2 h3 => normC_I h1 h2 (by
        cases he : ownC e with
        | false => rfl
        | true =>
          obtain ⟨y, hy, h4, rfl⟩ := h3 he
          rw [ownA_adj] at h4
          exact absurd h4 (List.any_eq_false.1 hown y hy))) (fun _ h => h)
    have hv3 : Vs (AV (Lctx c.I (c.mu id) (.arr wd n g) c.w)) ((ys.map a.eval).toArray) (argsD P c.H ts.dropLast (ys.map ρd)) := hv1.mono fun _ _ => noav fun _ h => h
    have hv0 : Vs (AV (Lctx c.I (c.mu id) (.arr wd n g) c.w)) #[a.eval x] [.eref 0 0 0] := ⟨rfl, fun i v d h1 h2 => by
      cases i with
      | succ i => simp at h2
      | zero =>
        simp at h1 h2
        subst h1; subst h2
        simp only [TV, AV, CV] at hxv ⊢
        obtain ⟨b, wd1, n1, f1, hb, hH, h2, h3⟩ := hxv
        rw [ho] at hH
        cases hH
        exact ⟨b, wd, n, g, by simpa [Lctx] using hb, rfl, h2, h3⟩⟩
    have hv := vs_append hv3 hv0
    have hob := hI.obj id _ ho
    refine Calls.mono (hF c.I c.w (c.mu id) _ (gt_inv hI) (fun g hg e => gt_own hI e hg rfl) (fun b hb => (hI.imm b hb).1) (fun b hb => ⟨(hI.loc id b hb).2.1, (hI.loc id b hb).2.2⟩) hob hv) ?_
    rintro e w' ⟨v, I1, rfl, hbel, hfr, hov, hrv⟩
    have hL : Lent c id I1 w' := ⟨hbel, hfr⟩
    exact hK v (c.back id (.arr wd n g') I1 w') (back_inv hI ho hL hov) rfl (fun u e h => back_tv hI ho hL h) (scalar_tv hret hrv)
theorem any_regionD {P : Program} {s : St} {ops : Array Oper} (orc : List Res) (keep : List Nat) (hn : Nat) {s' : St} {bs : List Bool} {rq : List Req}
    (h : regS P ops true orc keep hn s = some (s', bs, rq)) (hb : ∀ b ∈ bs, b = true) (hq : ∀ q ∈ rq, q.ok P) {F : Fr} {a : Act} {w : World} (hG : GF P F) (hR : Rel F s a w) {K : Act → World → Prop} {Q' : Exit → Act → World → Prop} (hK : ∀ a w, Rel F s' a w → K a w) :
    P.follows .mixedOrders = true ∧ wpAny P .any ops (QK Q' K) ops.size (Array.replicate ops.size false) a w.drew := by
  obtain ⟨c, rfl, hH, hI, henv, hsz, hd⟩ := hR
  simp only [regS] at h
  cases hc : (flowB ops && P.follows .mixedOrders) with
  | false => rw [hc] at h; cases h
  | true =>
    rw [hc] at h
    simp only [cond_true] at h
    simp only [Bool.and_eq_true] at hc
    refine ⟨hc.2, ?_⟩
    split at h <;> try cases h
    rename_i env' bs0 rq0 orc0 hrun
    obtain ⟨s1, hcut, heq⟩ := Option.map_eq_some_iff.1 h
    simp only [Prod.mk.injEq] at heq
    obtain ⟨rfl, rfl, rfl⟩ := heq
    obtain ⟨E, V, hE0, hE1, hT⟩ := trace_of ops.toList 0 s.env env' orc orc0 bs0 rq0 (fun j => .inl (by simp)) hrun
    simp only [Array.length_toList, Nat.zero_add] at hE1 hT
    let c' : Ctx := { c with w := c.w.drew }
    have hgo : Goes c c' := ⟨rfl, rfl, fun _ h => h, fun _ _ => rfl, fun b hb => (hI.imm b hb).1, fun id b hb => (hI.loc id b hb).2.1⟩
    have hI' : Inv F c' := hI.goes hgo (Bw.refl _ _).drew (fun _ h => .inl h)
    have hnone : ∀ i, ¬ (Array.replicate ops.size false).getD i false = true := fun i h => by rw [getD_rep_false] at h; cases h
    have hval : ∀ t, valL ops V (E 0) (fun i => (Array.replicate ops.size false).getD i false = true) t = find s.env t := fun t => by rw [valL_none (fun i _ => hnone i), hE0]
    have hD : DInv F s.nt ops s.H V (E 0) (Array.replicate ops.size false) a c' := by
      refine ⟨hH, hI', fun t => ?_, hsz, hd, fun t j w d hf => ?_, by simp, fun i j _ h => absurd h (hnone i)⟩
      · rw [hval]; exact gv_of_tv (hgo.tv (henv t))
      · rw [hval] at hf
        have := henv t
        rw [hf] at this
        simp only [TV, AV] at this
        exact absurd this cv_not_opt
    have hcnt : cnt (Array.replicate ops.size false) + ops.size = ops.size := by simp [cnt, List.countP_replicate]
    exact draw_sound hc.1 hT hb hq orc0 (fun a' c'' hR => hK _ _ (le_cut hcut F a' c''.w (by
      have := rinv_fin hR keep
      rw [hE1] at this
      exact this))) ops.size _ a c' hD hcnt
def regL (P : Program) (ops : Array Oper) (k : Nat) (ys : List Operand) (x : Operand) (orc : List Res) (keep : List Nat) (hn : Nat) (s : St) : Option (St × List Req) :=
  bif flowB ops && cutAt ops k && Nat.beq (k + 1) ops.size then
    match ops[k]? with
    | some o => match o.guard, lendPD P s.H (evD s.env) ys x orc o.op with
      | none, some (d, H', rq) => match putE s.nt o.dst d s.env with
        | some e => (cutS hn ⟨s.nt, fin e keep, H'⟩).map fun s' => (s', rq)
        | none => none
      | _, _ => none
    | none => none
  else none
theorem awp_regionL {P : Program} {Q : Exit → St → Prop} {s s1 s' : St} {id : Nat} {ops : Array Oper} (k : Nat) (orcA : List Res) (keepA : List Nat) (hnA : Nat) {bsA : List Bool} {rqA : List Req}
    (hA : regS P (ops.extract 0 k) true orcA keepA hnA s = some (s1, bsA, rqA)) (hbA : ∀ b ∈ bsA, b = true) (hqA : ∀ q ∈ rqA, q.ok P)
    (ys : List Operand) (x : Operand) (hxs : ((ops[k]?).map fun o => argsOf o.op) = some (ys ++ [x])) (orcB : List Res) (keep : List Nat) (hn : Nat) {rqB : List Req} (hB : regL P ops k ys x orcB keep hn s1 = some (s', rqB)) (hqB : ∀ q ∈ rqB, q.ok P) (hQ : Q .normal s') : AWP P (.region id ops true) Q s := by
  intro F a w hG hR
  unfold regL at hB
  cases hc : (flowB ops && cutAt ops k && Nat.beq (k + 1) ops.size) with
  | false => rw [hc] at hB; cases hB
  | true =>
    rw [hc] at hB
    simp only [cond_true] at hB
    simp only [Bool.and_eq_true] at hc
    obtain ⟨⟨hfl, hct⟩, hk⟩ := hc
    have hk1 := Nat.eq_of_beq_eq_true hk
    have hk : k ≤ ops.size := by omega
    split at hB <;> try cases hB
    rename_i o ho
    split at hB <;> try cases hB
    rename_i d H' rq hgd hlend
    split at hB <;> try cases hB
    rename_i e hput
    obtain ⟨s3, hcut, heq⟩ := Option.map_eq_some_iff.1 hB
    simp only [Prod.mk.injEq] at heq
    obtain ⟨rfl, rfl⟩ := heq
    rw [ho] at hxs
    have hxs : argsOf o.op = ys ++ [x] := by simpa using hxs
    obtain ⟨hmo, hany⟩ := any_regionD orcA keepA hnA hA hbA hqA (Q' := fun e a' w' => ∃ s', Q e s' ∧ Rel F s' a' w') hG hR (K := fun a w => Rel F s1 a w) (fun a w h => h)
    have esz : (ops.extract 0 k).size = k := by rw [Array.size_extract]; omega
    rw [esz] at hany
    refine wp_region_any hmo ?_
    have hfin := any_prefix (P := P) (Q := fun e a' w' => ∃ s', Q e s' ∧ Rel F s' a' w') (K := fun a w => Rel F s1 a w) hk hfl hct (fun a w hR2 listed hls hl => by
      obtain ⟨c, rfl, hH, hI, henv, hsz, hd⟩ := hR2
      rw [show ops.size - k = 0 + 1 by omega]
      have hin : k ∈ Region.ready .any ops listed := mem_ready.2 ⟨by
        have : listed.getD k false = false := by
          cases hq : listed.getD k false with
          | false => rfl
          | true => have := (hl k).1 hq; omega
        simp [hls, show k < ops.size by omega] at this ⊢; exact this, o, ho, fun e he hb => by
          have h1 := flow_of hfl k o ho
          simp only [flowAt, Bool.and_eq_true] at h1
          have h2 := Array.all_eq_true'.1 h1.1.1 e he
          simp only [hb, Bool.not_true, Bool.false_or] at h2
          exact (hl _).2 (blt_true h2)⟩
      refine ⟨fun h => (by rw [h] at hin; cases hin), fun i hi => ?_⟩
      obtain ⟨hun, o', ho', _⟩ := mem_ready.1 hi
      have hilt := (Array.getElem?_eq_some_iff.1 ho').1
      have hik : i = k := by
        rcases Nat.lt_trichotomy i k with h | h | h
        · have h1 := (hl i).2 h
          simp [hls, hilt] at hun h1
          rw [hun] at h1; cases h1
        · exact h
        · omega
      subst hik
      unfold wpOp
      simp only [ho]
      rw [if_pos (by simp [Region.wanted, hgd])]
      refine .inl (lendP_ok (ρd := evD s1.env) hI hxs (fun y hy => ?_) (by rw [hH]; exact hlend) hqB fun v c' hI' hH' htr htv => ?_)
      · cases y with
        | tmp t => exact henv t
        | const v => exact tv_dv c v
        | global g => exact tv_any
        | func f => exact ⟨#[], rfl, rfl, fun i v d h1 _ => by simp at h1⟩
      · refine ⟨?_, _, hQ, ?_⟩
        · cases hr : Region.ready .any ops (listed.setIfInBounds i true) with
          | nil => rfl
          | cons j r =>
            exfalso
            have hj : j ∈ Region.ready .any ops (listed.setIfInBounds i true) := by rw [hr]; exact List.mem_cons_self
            obtain ⟨h1, oj, hoj, _⟩ := mem_ready.1 hj
            have hjl := (Array.getElem?_eq_some_iff.1 hoj).1
            have h2 : (listed.setIfInBounds i true).getD j false = true := (set_iff (by omega) j).2 (by
              rcases Nat.lt_or_ge j i with h | h
              · exact .inr ((hl j).2 h)
              · exact .inl (by omega))
            have hsz2 : (listed.setIfInBounds i true).size = ops.size := by simp [hls]
            simp [hsz2, hls, hjl] at h1 h2
            rw [h1] at h2; cases h2
        · have hR3 : Rel F ⟨s1.nt, e, H'⟩ (a.put o.dst v) c'.w := by
            refine ⟨c', rfl, hH', hI', fun t => ?_, by rw [size_put]; exact hsz, by rw [defers_put]; exact hd⟩
            show TV c' _ (find e t)
            unfold putE at hput
            split at hput
            · rename_i hdn
              simp only [Option.some.injEq] at hput
              subst hput
              rw [getD_put (by rw [hdn]; simp)]
              exact htr _ _ (henv t)
            · rename_i u hdu
              cases hlt : Nat.blt u s1.nt with
              | false => rw [hlt] at hput; cases hput
              | true =>
                rw [hlt] at hput
                simp only [cond_true, Option.some.injEq] at hput
                subst hput
                simp only [find]
                cases hb : Nat.beq u t with
                | true =>
                  obtain rfl := Nat.eq_of_beq_eq_true hb
                  simp only [cond_true]
                  have : (a.put o.dst v).tmps.getD u undef = v := by rw [hdu]; exact getD_put_same (by rw [hsz]; exact blt_true hlt)
                  rw [this]; exact htv
                | false =>
                  simp only [cond_false]
                  rw [getD_put (by rw [hdu]; exact fun h => Nat.ne_of_beq_eq_false hb (Option.some.inj h))]
                  exact htr _ _ (henv t)
          have hR4 : Rel F ⟨s1.nt, fin e keep, H'⟩ (a.put o.dst v) c'.w := le_keep' (e := e) keep rfl F _ _ hR3
          exact le_cut hcut F _ _ hR4)
      k (Array.replicate k false) (Array.replicate ops.size false) a w.drew (by simp) (by simp) (fun i => by rw [getD_rep_false, getD_rep_false]) (fun i j _ h => by rw [getD_rep_false] at h; cases h) (by simp [cnt, List.countP_replicate]) hany
    rw [show k + (ops.size - k) = ops.size by omega] at hfin
    exact hfin
theorem rgl {P : Program} {Q : Exit → St → Prop} {s : St} {id : Nat} {ops : Array Oper} (k : Nat) (orcA : List Res) (keepA : List Nat) (hnA : Nat) (s1 : St) (bsA : List Bool) (rqA : List Req) (hbA : ∀ b ∈ bsA, b = true) (hqA : Reqs P rqA)
    (ys : List Operand) (x : Operand) (orcB : List Res) (keep : List Nat) (hn : Nat) (s' : St) (rqB : List Req) (hqB : Reqs P rqB) (hQ : Q .normal s')
    (hA : regS P (ops.extract 0 k) true orcA keepA hnA s = some (s1, bsA, rqA) := by kernel_rfl) (hxs : ((ops[k]?).map fun o => argsOf o.op) = some (ys ++ [x]) := by kernel_rfl) (hB : regL P ops k ys x orcB keep hn s1 = some (s', rqB) := by kernel_rfl) : AWP P (.region id ops true) Q s :=
  awp_regionL k orcA keepA hnA hA hbA hqA.all ys x hxs orcB keep hn hB hqB.all hQ
end Nv
namespace Nv
open Go Go.RowKit
theorem seq_soundR {P : Program} {F : Fr} [GF P F] {nt : Nat} {ops : Array Oper} (hnd : dstsB ops = true) {Q : Exit → Act → World → Prop} {rest : List Nat} : ∀ (l : List Oper) (k : Nat) (s s' : RS) (bs : List Bool) (rq : List Req), (∀ (j : Nat), l[j]? = ops[k + j]? ∨ l.length ≤ j) →
    runS P nt ops k l s = some (s', bs, rq) → (∀ b ∈ bs, b = true) → (∀ q ∈ rq, q.ok P) → ∀ (a : Act) (c : Ctx), RInv F nt ops k s a c →
    (∀ a' c', RInv F nt ops (k + l.length) s' a' c' → wpOps P ops Q rest a' c'.w) → wpOps P ops Q (List.range' k l.length ++ rest) a c.w
  | [], k, s, s', bs, rq, _, h, _, _, a, c, hR, hQ => by
    simp only [runS, Option.some.injEq, Prod.mk.injEq] at h
    obtain ⟨rfl, rfl, rfl⟩ := h
    exact hQ a c hR
  | o :: l, k, s, s', bs, rq, hl, h, hb, hq, a, c, hR, hQ => by
    have ho : ops[k]? = some o := by
      rcases hl 0 with h1 | h1
      · simpa using h1.symm
      · simp at h1
    simp only [runS] at h
    split at h <;> try cases h
    rename_i s1 b1 r1 hstep
    split at h <;> try cases h
    rename_i s2 b2 r2 hrun
    simp only [List.length_cons, List.range'_succ, List.cons_append, wpOps, ho]
    have next : ∀ a' c', RInv F nt ops (k + 1) s1 a' c' → wpOps P ops Q (List.range' (k + 1) l.length ++ rest) a' c'.w := fun a' c' hR' =>
      seq_soundR hnd l (k + 1) s1 s' b2 r2 (fun j => by
        rcases hl (j + 1) with h1 | h1
        · left; simpa [Nat.add_assoc, Nat.add_comm 1 j] using h1
        · right; simp at h1; exact h1) hrun (fun b hb' => hb b (List.mem_append_right _ hb')) (fun q hq' => hq q (List.mem_append_right _ hq')) a' c' hR'
        (fun a'' c'' h'' => hQ a'' c'' (by rw [List.length_cons, show k + (l.length + 1) = k + 1 + l.length by omega]; exact h''))
    have hb1 : ∀ b ∈ b1, b = true := fun b hb' => hb b (List.mem_append_left _ hb')
    have hq1 : ∀ q ∈ r1, q.ok P := fun q hq' => hq q (List.mem_append_left _ hq')
    have hidx0 : ∀ t j w d, find s.env t = .opt j w d → j < k := hR.idx
    unfold stepS at hstep
    split at hstep <;> try cases hstep
    rename_i g hg
    have hgf : GuardFacts ops a c s.env (gch ops 20 o.guard) := fun p _ t _ => hR.env t
    split at hstep
    · rename_i d bs0 rq0 orc0 j want hop hgd
      cases hlt : Nat.blt j k with
      | false => simp [hlt] at hstep
      | true =>
        simp only [hlt, cond_true] at hstep
        obtain ⟨e, he, heq⟩ := Option.map_eq_some_iff.1 hstep
        simp only [Prod.mk.injEq] at heq
        obtain ⟨rfl, rfl, rfl⟩ := heq
        have hjk := blt_true hlt
        have hyj : ∀ v, yielded ops (a.put o.dst v).tmps j = yielded ops a.tmps j := fun v => yielded_put fun t ht e => by
          have := dsts_spec hnd (show (ops[k]?).bind (·.dst) = some t by rw [ho]; exact ht) e
          omega
        have hwant : Region.wanted o (yielded ops a.tmps) = (yielded ops a.tmps j == some want) := by simp [Region.wanted, hgd]
        cases hw : Region.wanted o (yielded ops a.tmps) with
        | true =>
          simp only [if_true]
          refine .inl (op_sound hR.inv (fun x _ => eval_gv hR x) hgf hg hw (by rw [hR.H]; exact hop) hb1 hq1 fun v c' hI' haf => ?_)
          obtain ⟨hgo, _, htv⟩ := haf
          refine next _ c' (rinv_put hnd hR ho hI' (fun t v hv => hgo.gv hv) hidx0 he (by rw [hgo.H]; exact hR.H) (.inl ⟨?_, htv⟩) (fun j' w' d' e => by cases e; exact hjk))
          rw [hyj]
          rw [hw] at hwant
          simpa using hwant.symm
        | false =>
          simp only [Bool.false_eq_true, if_false]
          refine next _ c (rinv_put hnd hR ho hR.inv (fun t v hv => hv) hidx0 he hR.H (.inr ⟨?_, rfl⟩) (fun j' w' d' e => by cases e; exact hjk))
          rw [hyj]
          rw [hw] at hwant
          simpa using hwant.symm
    · rename_i d bs0 rq0 orc0 hop hgd
      obtain ⟨e, he, heq⟩ := Option.map_eq_some_iff.1 hstep
      simp only [Prod.mk.injEq] at heq
      obtain ⟨rfl, rfl, rfl⟩ := heq
      have hw : Region.wanted o (yielded ops a.tmps) = true := by simp [Region.wanted, hgd]
      simp only [hw, if_true]
      refine .inl (op_sound hR.inv (fun x _ => eval_gv hR x) hgf hg hw (by rw [hR.H]; exact hop) hb1 hq1 fun v c' hI' haf => ?_)
      obtain ⟨hgo, _, htv⟩ := haf
      refine next _ c' (rinv_put hnd hR ho hI' (fun t v hv => hgo.gv hv) hidx0 he (by rw [hgo.H]; exact hR.H) (gv_of_tv htv) (fun j' w' d' e => ?_))
      subst e
      simp only [TV, AV] at htv
      exact absurd htv cv_not_opt
    · rename_i wd n f bs0 rq0 orc0 hop hgd
      obtain ⟨e, he, heq⟩ := Option.map_eq_some_iff.1 hstep
      simp only [Prod.mk.injEq] at heq
      obtain ⟨rfl, rfl, rfl⟩ := heq
      have hw : Region.wanted o (yielded ops a.tmps) = true := by simp [Region.wanted, hgd]
      simp only [hw, if_true]
      refine .inl (op_sound hR.inv (fun x _ => eval_gv hR x) hgf hg hw (by rw [hR.H]; exact hop) hb1 hq1 fun v c' hI' haf => ?_)
      obtain ⟨hH', htr, htv⟩ := haf
      refine next _ c' (rinv_put hnd hR ho hI' (fun t v hv => gv_trans htr hv) hidx0 he (by rw [hH', hR.H]) (gv_of_tv (by rw [← hR.H]; exact htv)) (fun j' w' d' e => by cases e))
    · rename_i hop hgd
      split at hstep
      · rename_i d bs0 hap
        obtain ⟨e, he, heq⟩ := Option.map_eq_some_iff.1 hstep
        simp only [Prod.mk.injEq] at heq
        obtain ⟨rfl, rfl, rfl⟩ := heq
        have hw : Region.wanted o (yielded ops a.tmps) = true := by simp [Region.wanted, hgd]
        simp only [hw, if_true]
        have hρ : ∀ x ∈ o.op.operands.toList, TV c (a.eval x) (unwrap [] (evD s.env x)) := fun x _ => unwrap_ok (a := a) (ops := ops) (by simp) (eval_gv hR x)
        obtain ⟨v, c', hrun', hI', hgo, _, htv⟩ := appPD_ok (ρc := a.eval) hR.inv hρ (by rw [hR.H]; exact hap) hb1
        refine .inl ?_
        unfold Oper.wp
        rw [hrun']
        refine next _ c' (rinv_put hnd hR ho hI' (fun t v hv => hgo.gv hv) hidx0 he (by rw [hgo.H]; exact hR.H) (gv_of_tv htv) (fun j' w' d' e => ?_))
        subst e
        simp only [TV, AV] at htv
        exact absurd htv cv_not_opt
      split at hstep
      · rename_i H' hcl
        obtain ⟨e, he, heq⟩ := Option.map_eq_some_iff.1 hstep
        simp only [Prod.mk.injEq] at heq
        obtain ⟨rfl, rfl, rfl⟩ := heq
        have hw : Region.wanted o (yielded ops a.tmps) = true := by simp [Region.wanted, hgd]
        simp only [hw, if_true]
        have hρ : ∀ x ∈ o.op.operands.toList, TV c (a.eval x) (unwrap [] (evD s.env x)) := fun x _ => unwrap_ok (a := a) (ops := ops) (by simp) (eval_gv hR x)
        obtain ⟨v, c', hrun', hI', hH', htr, htv⟩ := clrD_ok (ρc := a.eval) hR.inv hρ (by rw [hR.H]; exact hcl)
        have hfin0 := next (a.put o.dst v) c' (rinv_put hnd hR ho hI' (fun t v hv => gv_trans htr hv) hidx0 he hH' (gv_of_tv htv) (fun j' w' d' e => by cases e))
        refine .inl ?_
        unfold Oper.wp
        rcases hrun' with h1 | ⟨h1, rfl⟩
        · rw [h1]; exact hfin0
        · rw [h1]; exact hfin0
      split at hstep
      case h_2 =>
        split at hstep <;> try cases hstep
        rename_i d H' rq0 orc0 hlend
        obtain ⟨e, he, heq⟩ := Option.map_eq_some_iff.1 hstep
        simp only [Prod.mk.injEq] at heq
        obtain ⟨rfl, rfl, rfl⟩ := heq
        have hw : Region.wanted o (yielded ops a.tmps) = true := by simp [Region.wanted, hgd]
        simp only [hw, if_true]
        have hρ : ∀ x ∈ o.op.operands.toList, TV c (a.eval x) (unwrap [] (evD s.env x)) := fun x _ => unwrap_ok (a := a) (ops := ops) (by simp) (eval_gv hR x)
        refine .inl (lend_ok hR.inv hρ (by rw [hR.H]; exact hlend) hq1 fun v c' hI' hH' htr htv => ?_)
        refine next _ c' (rinv_put hnd hR ho hI' (fun t v hv => gv_trans htr hv) hidx0 he hH' (gv_of_tv htv) (fun j' w' d' e => ?_))
        subst e
        simp only [TV, AV] at htv
        exact absurd htv cv_not_opt
      rename_i d H' pid bs0 hheap
      obtain ⟨e, he, heq⟩ := Option.map_eq_some_iff.1 hstep
      simp only [Prod.mk.injEq] at heq
      obtain ⟨rfl, rfl, rfl⟩ := heq
      have hw : Region.wanted o (yielded ops a.tmps) = true := by simp [Region.wanted, hgd]
      simp only [hw, if_true]
      have hρ : ∀ x ∈ o.op.operands.toList, TV c (a.eval x) (unwrap [] (evD s.env x)) := fun x _ => unwrap_ok (a := a) (ops := ops) (by simp) (eval_gv hR x)
      obtain ⟨v, c', hrun', hI', hH', htr, htv⟩ := heapD_ok (ρc := a.eval) hR.inv hρ (by rw [hR.H]; exact hheap) hb1
      have hfin : wpOps P ops Q (List.range' (k + 1) l.length ++ rest) (a.put o.dst v) c'.w := by
        refine next _ c' (rinv_put hnd hR ho hI' (fun t v hv => ?_) (fun t j w d hf => ?_) he hH' (gv_of_tv htv) (fun j' w' d' e => ?_))
        · rw [find_map]
          exact gv_purge htr hv
        · rw [find_map] at hf
          exact hidx0 t j w d (purge_not_opt hf).2
        · subst e
          simp only [TV, AV] at htv
          exact absurd htv cv_not_opt
      refine .inl ?_
      unfold Oper.wp
      rcases hrun' with h1 | ⟨h1, rfl⟩
      · rw [h1]; exact hfin
      · rw [h1]; exact hfin
    · cases hstep
def regTo (P : Program) (ops : Array Oper) (k : Nat) (orc : List Res) (keep : List Nat) (hn : Nat) (s : St) : Option (St × List Bool × List Req) :=
  bif dstsB ops && Nat.ble k ops.size then
    (match runS P s.nt ops 0 (ops.toList.take k) ⟨s.env, s.H, orc⟩ with
    | some (r, bs, rq) => (cutS hn ⟨s.nt, fin r.env keep, r.H⟩).map fun s' => (s', bs, rq)
    | none => none) else none
def regFrom (P : Program) (ops : Array Oper) (k : Nat) (orc : List Res) (keep : List Nat) (hn : Nat) (s : St) : Option (St × List Bool × List Req) :=
  match runS P s.nt ops k (ops.toList.drop k) ⟨s.env, s.H, orc⟩ with
  | some (r, bs, rq) => (cutS hn ⟨s.nt, fin r.env keep, r.H⟩).map fun s' => (s', bs, rq)
  | none => none
theorem rinv_of_rel {F : Fr} {nt : Nat} {ops : Array Oper} {k : Nat} {s : St} {a : Act} {w : World} {orc : List Res} (h : Rel F s a w) (hn : s.nt = nt) : ∃ c : Ctx, c.w = w ∧ RInv F nt ops k ⟨s.env, s.H, orc⟩ a c := by
  obtain ⟨c, rfl, hH, hI, henv, hsz, hd⟩ := h
  refine ⟨c, rfl, hH, hI, fun t => gv_of_tv (henv t), hsz.trans hn, hd, fun t j w d hf => ?_⟩
  have := henv t
  have hf : find s.env t = .opt j w d := hf
  rw [hf] at this
  simp only [TV, AV] at this
  exact absurd this cv_not_opt
theorem rgx {P : Program} {Q : Exit → St → Prop} {s : St} {id : Nat} {ops : Array Oper} (k : Nat) (orc1 : List Res) (keep1 : List Nat) (hn1 : Nat) (s1 : St) (bs1 : List Bool) (rq1 : List Req) (hb1 : ∀ b ∈ bs1, b = true) (hq1 : Reqs P rq1)
    (s2 : St) (hle : Le s1 s2) (hnt : s2.nt = s.nt) (orc2 : List Res) (keep2 : List Nat) (hn2 : Nat) (s3 : St) (bs2 : List Bool) (rq2 : List Req) (hb2 : ∀ b ∈ bs2, b = true) (hq2 : Reqs P rq2) (kk : Q .normal s3)
    (h1 : regTo P ops k orc1 keep1 hn1 s = some (s1, bs1, rq1) := by kernel_rfl) (h2 : regFrom P ops k orc2 keep2 hn2 s2 = some (s3, bs2, rq2) := by kernel_rfl) : AWP P (.region id ops false) Q s := by
  rintro F a w hG hR0
  unfold regTo at h1
  cases hc : (dstsB ops && Nat.ble k ops.size) with
  | false => rw [hc] at h1; cases h1
  | true =>
    rw [hc] at h1
    simp only [cond_true] at h1
    simp only [Bool.and_eq_true] at hc
    have hkl := Nat.le_of_ble_eq_true hc.2
    split at h1 <;> try cases h1
    rename_i r bs rq hrun
    obtain ⟨q1, hcut, heq⟩ := Option.map_eq_some_iff.1 h1
    simp only [Prod.mk.injEq] at heq
    obtain ⟨rfl, rfl, rfl⟩ := heq
    unfold regFrom at h2
    split at h2 <;> try cases h2
    rename_i r' bs' rq' hrun'
    obtain ⟨q3, hcut', heq'⟩ := Option.map_eq_some_iff.1 h2
    simp only [Prod.mk.injEq] at heq'
    obtain ⟨rfl, rfl, rfl⟩ := heq'
    refine wp_region ?_
    obtain ⟨c, rfl, h0⟩ := rinv_of_rel (ops := ops) (k := 0) (orc := orc1) hR0 rfl
    have l1 : (ops.toList.take k).length = k := by rw [List.length_take, Array.length_toList]; omega
    have l2 : (ops.toList.drop k).length = ops.size - k := by rw [List.length_drop, Array.length_toList]
    have e : List.range ops.size = List.range' 0 (ops.toList.take k).length ++ List.range' k (ops.toList.drop k).length := by
      rw [l1, l2, List.range_eq_range']
      have := List.range'_append_1 (s := 0) (m := k) (n := ops.size - k)
      rw [Nat.zero_add, Nat.add_sub_cancel' hkl] at this
      exact this.symm
    rw [e]
    refine seq_soundR hc.1 (Q := fun e a' w' => ∃ s', Q e s' ∧ Rel F s' a' w') (rest := List.range' k (ops.toList.drop k).length) (ops.toList.take k) 0 _ r bs rq (fun j => by
      rcases Nat.lt_or_ge j k with h | h
      · left; rw [List.getElem?_take_of_lt h]; simp
      · right; rw [l1]; exact h) hrun hb1 hq1.all a c h0 fun a' c' hR => ?_
    have hrel := hle F a' c'.w (le_cut hcut F a' c'.w (rinv_fin hR keep1))
    obtain ⟨c2, hw2, h3⟩ := rinv_of_rel (ops := ops) (k := k) (orc := orc2) hrel hnt
    rw [← hw2]
    have := seq_soundR hc.1 (Q := fun e a' w' => ∃ s', Q e s' ∧ Rel F s' a' w') (rest := []) (ops.toList.drop k) k _ r' bs' rq' (fun j => .inl (by rw [List.getElem?_drop]; simp)) (by rw [← hnt]; exact hrun') hb2 hq2.all a' c2 h3 fun a'' c'' hR'' => ⟨q3, kk, le_cut hcut' F a'' c''.w (rinv_fin (by rw [hnt]; exact hR'') keep2)⟩
    simpa using this
end Nv
